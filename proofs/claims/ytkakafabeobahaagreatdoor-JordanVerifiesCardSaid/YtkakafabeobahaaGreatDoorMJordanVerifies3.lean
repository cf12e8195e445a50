/-
  Texts of a proof, joined. Conditions stand in each statement.
-/
import Derived.Test.YtkakafabeobahaaGreatDoorMJordanVerifies2
set_option linter.unusedVariables false
set_option linter.unusedSimpArgs false
open Go
variable {neg:Bool} {a3:Go.Proofs.YtkakafabeobahaaGreatDoor.LiI} {h:Go.QF.AO2} {F A A0:Go.QF.Ahe} {a1 a2 a5 a9 x d q last:Int} {B LA LB:List Nat} {fuel r j i a k p D y la lb:Nat} {f g:Nat->Int} {α:Type} {Ai Ac Ae Ah Ad Af v va vb:Value}
namespace Go.Proofs.YtkakafabeobahaaGreatDoor
open Go Go.QF
set_option maxRecDepth 100000
set_option maxHeartbeats 40000000
def Aq1 (fuel:Nat) (a3:LiI) (Ab:Int) (Af:LiA) (Aa:Int) (Ac:LiI):Option ((Int × LiI) ⊕ ((LiI × Bool) ⊕ LiI)):=
 if Aa < (Af.length:Int) then (gI a3 Ab).bind λAg=>(gI Ag Aa).bind λAh=>(A2v fuel Ah).bind λ(Ai,Aj)=>if (!Aj)=true then some (.inr<|.inl ([],false)) else (gI Ac Ab).bind λAd=>(gI Ad Aa).bind λAk=>some (.inl (w64<|Aa + 1,sI Ac Ab<|sI Ad Aa Ai)) else some<|.inr<|.inr Ac
def Aq2 (fuel:Nat) (a3:LiI) (x5 x6 Aa:Int) (Ac:LiI):Option ((Int × LiI) ⊕ ((LiI × Bool) ⊕ LiI)):=
 if Aa < ((List.replicate (Int.toNat x5) ([]:List Int)).length:Int) then if 0<=x6/\x6<=100000000 then (gI Ac Aa).bind λAi=>(gI (sI Ac Aa<|List.replicate (Int.toNat x6) (0:Int)) Aa).bind λAf=>(iter (λs=>Aq1 fuel a3 Aa Af s.1 s.2) fuel (0,sI Ac Aa<|List.replicate (Int.toNat x6) (0:Int))).bind (λex=>match ex with | .inl Ag=>(some<|.inr<|.inl Ag) | .inr Ah=>some<|.inl (w64<|Aa + 1,Ah)) else none else some<|.inr<|.inr Ac
def An5 (fuel:Nat) (a3:LiI):Option (LiI × Bool):=
 (Ajd fuel a3).bind λ(x5,x6,x7)=>if (!x7)=true then some ([],false) else if 0<=x5/\x5<=100000000 then (iter (λs=>Aq2 fuel a3 x5 x6 s.1 s.2) fuel (0,List.replicate (Int.toNat x5) ([]:List Int))).bind (λex=>match ex with | .inl Ae=>(some Ae) | .inr Af=>some (Af,true)) else none
theorem Ay2 {Aw:Value} {r:(LiI × Bool)} (H2:Ajx cZ h Aw a3) (hp:An5 fuel a3=some r):Ahq Tryz.prog 69 #[Aw] h (λx h'=>Ext h h'/\ ∃ (x0:Value) (F0:List Nat) (Bg:List LnA) (Bh:List Value),x= .tuple #[x0,.bool r.2]/\Aj0 (cI .i64) 61 2 h' F0 Bg Bh x0 r.1/\Sp h' h.size [F0]):=by
 unfold An5 at hp;refine cwf (l:=[_]) Tryz.func69 rfl rfl (AOv<|Ahl<|Ah4<|AOr ?_);have K0:=Kst.k0 h;obtain ⟨⟨x5,x6,x7⟩,Bl,Ae⟩:=AOw hp;dsimp only at Ae;refine Aj5 K0 (Ao3 (H2.ext K0.x) Bl) λCu Cv A5=>AOr<|Ait rfl rfl (Ait rfl rfl (Ait rfl rfl (Ahl<|Ahl<|AO1<|AOx<|AOv<|AOr<|Akg rfl (AOz<|⟨_,rfl,λAf=>?_,λAf=>?_⟩))))
 ·refine AOv<|Ahl<|AO1<|AO6<|Ag9 ?_;have Ag:=Kst.anil2 (cI .i64) 61 2 A5;obtain rfl:=AOu<|ifT Ae Af;exact ⟨_,Air,Ag.x,_,_,_,_,rfl,(Ag.o2 p0),Ag.s.sel [0] AOs⟩
 ·refine AO4<|q_t<|AOv<|AOr ?_;obtain ⟨Bm,Bn⟩:=ifN<|Aoy Ae Af;refine Azg (cI .i64) 2 APa Atu rfl trivial tt2 rfl rfl AOs Bm λBo Bp Bq A6 Cw Br Bt Bu=>AO1<|AOx<|AOv<|AOr ?_;have Ah:=A5.no2 Bt Bu Br;refine Ahw APa rfl (Ah.o2 p0).rd (AOr<|AOz<|AO0<|Anb 4611686018410614540 (λx:(Int) × (LiI) × LnA × LnN × LvA=>(x.1,x.2.1)) ((0,(List.replicate (Int.toNat x5) ([]:List Int)),Bo,Bp,Bq):(Int) × (LiI) × LnA × LnN × LvA) Bn (λx=>[(24,(.int .i64 x.1))]) (λx=>Ah.L.set 0<|aO2 (cI .i64) 61 2 x.2.2.1 x.2.2.2.1 x.2.2.2.2 A6 x.2.1) Ah ⟨rfl,trivial⟩ ?_);rintro ⟨Ab,Bv,Cx,A7,Bw⟩ Cy Cz C0 Ad Ai A8;unfold Aq2 at Ai;refine AOv<|Aho rfl rfl (AOz<|AOx<|⟨_,rfl,λAj=>?_,λAj=>?_⟩)
  ·refine AO4<|q_t<|AOx<|AO0<|AOv<|AOr<|Ah4<|AOr<|AOr<|AOr ?_;obtain ⟨Bx,By⟩:=ifN<|Ahx Ai Aj;refine Axl (c:=(cI .i64)) (a:=0) APd Arq rfl rfl (λ_=>rfl) rfl trivial tt2 rfl rfl AOs Bx λA9 Bz C1 B1 B3 B4 B5=>?_;have Ac:=Ad.no B3 (Anx B4 B5) B1;obtain ⟨C2,Ba,B6⟩:=AOw By;refine Aii APa rfl (Ac.o2 p1) rfl Ba λB7 C3 B8 C4 C5=>Az7 Ahb (Ac.o2 p1) Ba B8 rfl rfl (Ac.o p0) (Ac.dj p0 p1 AOs) λC6 B9 Ca Cb=>Apu<|AOr<|AOr ?_;have Ak:=Ac.m2 p0 p1 AOs Ca B9 λz hz=> .inl<|Cb z hz;obtain ⟨C7,Bb,Cd⟩:=AOw B6;refine Ai2 APa Ahb (Ak.o2 p1) Bb λ_ C8 Ce=>Aio APd rfl ((Ak.o2 p1).rowI Ce Bb) (AOr<|AOz<|AO0 ?_);have Am:=Ak.sel [1] AOs;dsimp only [Apc,As8] at Am;refine Anb 2305842871774744076 (λx:(Int) × (LiI) × LnA × LnN × LvA=>(x.1,x.2.1)) ((0,(sI Bv Ab<|List.replicate (Int.toNat x6) (0:Int)),(B7 :: (A7.set (Int.toNat Ab) [A9]).flatten),(A7.set (Int.toNat Ab) [A9]),(Bw.set (Int.toNat Ab) Bz)):(Int) × (LiI) × LnA × LnN × LvA) Cd (λx=>[(37,(.int .i64 x.1))]) (λx=>Am.L.set 0<|aO2 (cI .i64) 61 2 x.2.2.1 x.2.2.2.1 x.2.2.2.2 A6 x.2.1) Am ⟨rfl,trivial⟩ ?_;rintro ⟨C9,Da,Db,Dc,Dd⟩ De Df Dg Aa Ao Bc;unfold Aq1 at Ao;refine AOv<|Aho rfl rfl (AOz<|AOx<|⟨_,rfl,λAp=>?_,λAp=>?_⟩)
   ·refine AO4<|q_t<|AOx<|AO0<|AOv<|AOr<|Ah4<|AOr<|AOr ?_;obtain ⟨Dh,Cf,Cg⟩:=AOw<|Ahx Ao Ap;refine An4 Ai6 Alm H2 Aa.x Cf λ_ Di Ch=>AOr ?_;obtain ⟨Dj,Ci,Cj⟩:=AOw Cg;refine Aqe (c:=cZ) Aj8 rfl Ch rfl Ci λDk Dl Do Be Ck=>Avo (c:=cZ) Aip rfl (Aa.zx Be) (λj u hu=>(AO8 (Ck j u hu) Aa.x)) ?_;obtain ⟨⟨Dp,Dq⟩,Cm,Aq⟩:=AOw Cj;dsimp only at Aq;refine Aj5 Aa (A7n (Aa.zx Be).2 Cm) λDr Ds Ar=>AOr<|Ait rfl rfl (Ait rfl rfl (Ahl<|AO1<|AOx<|AOv<|AOr<|Akg rfl (AOz<|⟨_,rfl,λAu=>?_,λAu=>?_⟩)))
    ·refine AOv<|Ahl<|AO1<|AO6<|Ag9<|Aiq<|Ag9<|Ag9<|Aiq<|Aiq<|Ag9<|Ag9<|Aiq<|Ag9 ?_;have Av:=Kst.anil2 (cI .i64) 61 2 Ar;obtain rfl:=AOu<|A8 _ (AOu<|Bc _ (AOu<|ifT Aq Au).symm).symm;exact ⟨_,Air,Av.x,_,_,_,_,rfl,(Av.o2 p0),Av.s.sel [0] AOs⟩
    ·refine AO4<|q_t<|Ag6<|AOr<|AOr ?_;obtain ⟨Dt,Bf,Cn⟩:=AOw<|Aoy Aq Au;refine Ai2 APa Ahb (Ar.o2 p0) Bf λ_ Du Co=>AOr<|AOr ?_;obtain ⟨Dv,Cp,Cq⟩:=AOw Cn;refine As1 (m:=Ab) Ar p0 APd AO9 Co Bf Cp (λ_=>rfl) λ_ Dw Cr=>Ahh<|q_b<|q_t<|Ag6<|Ahp rfl rfl (AOr<|AOz ?_);exact ⟨(_,_,_,_,_),(AOu Cq).symm,Cr,rfl,trivial⟩
   ·refine Ahf<|Ahg<|Ahg<|Aim<|q_b<|q_t<|Ag6<|Ahp rfl rfl (AOr<|AOz ?_);exact ⟨(_,_,_,_,_),(AOu<|Bc _ (AOu<|Ahy Ao Ap).symm).symm,Aa,rfl,trivial⟩
  ·refine Ahf<|Ahg<|Ahg<|Aim<|q_t<|AOv<|AOr<|Ahl<|AO1<|AO6 ?_;obtain rfl:=AOu<|A8 _ (AOu<|Ahy Ai Aj).symm;exact ⟨_,Air,Ad.x,_,_,_,_,rfl,(Ad.o2 p0),Ad.s.sel [0] AOs⟩
def Ap6 (fuel:Nat) (Ad:LiI) (Aa:Int) (Ab:LiI):Option ((Int × LiI) ⊕ LiI):=
 if Aa < (Ad.length:Int) then (gI Ab Aa).bind λAc=>(Ar4 fuel 1).bind λAe=>(gI Ac Aa).bind λAf=>some (.inl (w64<|Aa + 1,sI Ab Aa<|sI Ac Aa Ae)) else some<|.inr Ab
def Alh (fuel:Nat) (a1:Int):Option (LiI × Bool):=
 ((if a1 < 1 then some (.inl ([],false)) else if 16 < a1 then some (.inl ([],false)) else some<|.inr ()):Option ((LiI × Bool) ⊕ Unit)).bind (λex=>match ex with | .inl Ac=>(some Ac) | .inr _=>(Aki fuel a1 a1).bind λAb=>(iter (λs=>Ap6 fuel Ab s.1 s.2) fuel (0,Ab)).bind (λ(Ad:LiI)=>some (Ad,true)))
theorem At6 {r:(LiI × Bool)} (hp:Alh fuel a1=some r):Ahq Tryz.prog 67 #[(.int .i64 a1)] h (λx h'=>Ext h h'/\ ∃ (x0:Value) (F0:List Nat) (Az:List LnA) (A3:List Value),x= .tuple #[x0,.bool r.2]/\Aj0 cZ 146 129 h' F0 Az A3 x0 r.1/\Sp h' h.size [F0]):=by
 unfold Alh at hp;refine cwf (l:=[_]) Tryz.func67 rfl rfl (AOv<|Ahl<|AO1 ?_);have K0:=Kst.k0 h;obtain ⟨A4,Au,Af⟩:=AOw hp;refine Aqt 4044 (λx:Unit=>[]) (λx h'=>(Sum.inr <| ())=A4/\Kst h h' (K0.L)) ?_ ?_
 ·refine AOv<|AOr<|Aho rfl rfl (AOr ?_);by_cases Ad:a1 < 1
  ·rw [decide_eq_true Ad];refine Aol 8 true<|Ag7 rfl (AOz<|Ahn rfl (AOv<|Ahl<|AO1 ?_));obtain rfl:=AOu<|ifT Au Ad;refine AO6<|Ag9 ?_;have Ag:=Kst.anil2 cZ 146 129 K0;obtain rfl:=AOu Af;exact ⟨_,Air,Ag.x,_,_,_,_,rfl,(Ag.o2 p0),Ag.s.sel [0] AOs⟩
  ·have Av:=ifF Au Ad;rw [decide_eq_false Ad];refine Ag8 8 false<|AOr<|Ag8 8 false<|An0 rfl rfl (APb rfl (AOz<|⟨_,rfl,λAh=>?_,λAh=>?_⟩))
   ·refine AOv<|Ahl<|AO1 ?_;obtain rfl:=AOu<|Ahx Av Ah;refine AO6<|Ag9 ?_;have Ai:=Kst.anil2 cZ 146 129 K0;obtain rfl:=AOu Af;exact ⟨_,Air,Ai.x,_,_,_,_,rfl,(Ai.o2 p0),Ai.s.sel [0] AOs⟩
   ·refine AO4<|q_t ?_;exact ⟨(():Unit),⟨AOu<|Ahy Av Ah,K0⟩,trivial⟩
 rintro ⟨⟩ Bq Br ⟨A5,A6⟩;subst A5;refine AOv<|AOr<|AOr ?_;obtain ⟨A7,A8,A9⟩:=AOw Af;refine Aus A6 (Apg A8) λBa Bb Bc Be Bt Bu Aj=>AO1<|AOx<|AOv<|AOr<|Ahw Ai6 rfl (Aj.o2 p0).rd (AOr<|AOz<|AO0<|Anb 268304416 (λx:(Int) × (LiI) × LnA × LnN × LvA=>(x.1,x.2.1)) ((0,A7,Ba,Bb,Bc):(Int) × (LiI) × LnA × LnN × LvA) A9 (λx=>[(17,(.int .i64 x.1))]) (λx=>Aj.L.set 0<|aO2 cZ 146 129 x.2.2.1 x.2.2.2.1 x.2.2.2.2 Be x.2.1) Aj ⟨rfl,trivial⟩ ?_);rintro ⟨Aw,Bv,Bw,Bx,By⟩ Bz Ak B1 Aa Am Bf;unfold Ap6 at Am;refine AOv<|Aho rfl rfl (AOz<|AOx<|⟨_,rfl,λAo=>?_,λAo=>?_⟩)
 ·refine AO4<|q_t<|AOx<|AO0<|AOv<|AOr<|AO1<|Aiz (λh'=>UpT [] Ak h') AO5 ?_;have Ax:UpT [] Ak Ak:=UpT.start all_nil;refine AOr<|AOr ?_;obtain ⟨B3,Ap,Bg⟩:=AOw<|Ahx Am Ao;refine Aii Ai6 rfl (Aa.o2 p0) rfl Ap λB4 B5 B6 Bh Bi=>Ahk Alm rfl Ax (λh' hb=>AO8 Bi hb.ext) (AOr ?_);obtain ⟨B7,Bj,Bl⟩:=AOw Bg;refine Am3 Aa Ax (Arc Bj) λB8 B9 Ca Ab Cb=>?_;obtain ⟨Cd,Ay,Bm⟩:=AOw Bl;refine Ain (m:=Aw) Aj8 rfl (Aa.o2 p0) Bh Ap rfl Ay λCe Bn=>Aon (m:=Aw) (Azf Aip (cZ.klen<|Ab.z p0) rfl rfl (cZ.one<|Ab.z p0)) (Ab.o2 p1) Bn Ap Ay (Ab.z p0) λCf Bo Bp=>Ahh<|q_b<|q_t<|Ag6<|Ahp rfl rfl (AOr<|AOz ?_);exact ⟨(_,_,_,_,_),(AOu Bm).symm,(Ab.uO2 p1 Bp Bo).sel [1] AOs,rfl,trivial⟩
 ·refine Ahf<|Ahg<|Ahg<|Aim<|q_t<|AOv<|AOr<|Ahl<|AO1<|AO6 ?_;obtain rfl:=AOu<|Bf _ (AOu<|Ahy Am Ao).symm;exact ⟨_,Air,Aa.x,_,_,_,_,rfl,(Aa.o2 p0),Aa.s.sel [0] AOs⟩
def Apl (fuel:Nat) (a3:LiI) (Ab:Int) (Af:LiA) (Aa:Int) (Ac:LiI):Option ((Int × LiI) ⊕ LiI):=
 if Aa < (Af.length:Int) then (gI Ac Aa).bind λAd=>(gI a3 Ab).bind λAg=>(gI Ag Aa).bind λAh=>(Azi fuel Ah).bind λAi=>(gI Ad Ab).bind λAj=>some (.inl (w64<|Aa + 1,sI Ac Aa<|sI Ad Ab Ai)) else some<|.inr Ac
def Apm (fuel:Nat) (a3:LiI) (Aa:Int) (Ac:LiI):Option ((Int × LiI) ⊕ LiI):=
 if Aa < (a3.length:Int) then (gI a3 Aa).bind λAd=>(iter (λs=>Apl fuel a3 Aa Ad s.1 s.2) fuel (0,Ac)).bind (λ(Ae:LiI)=>some<|.inl (w64<|Aa + 1,Ae)) else some<|.inr Ac
def Ak1 (fuel:Nat) (a3:LiI):Option (LiI × Bool):=
 (Ajd fuel a3).bind λ(x5,x6,x7)=>if (!x7)=true then some ([],false) else (Aki fuel x6 x5).bind λAe=>(iter (λs=>Apm fuel a3 s.1 s.2) fuel (0,Ae)).bind (λ(Af:LiI)=>some (Af,true))
theorem Atm {Aq:Value} {r:(LiI × Bool)} (H2:Ajx cZ h Aq a3) (hp:Ak1 fuel a3=some r):Ahq Tryz.prog 133 #[Aq] h (λx h'=>Ext h h'/\ ∃ (x0:Value) (F0:List Nat) (A6:List LnA) (A7:List Value),x= .tuple #[x0,.bool r.2]/\Aj0 cZ 146 129 h' F0 A6 A7 x0 r.1/\Sp h' h.size [F0]):=by
 unfold Ak1 at hp;refine cwf (l:=[_]) Tryz.func133 rfl rfl (AOv<|Ahl<|Ah4<|AOr ?_);have K0:=Kst.k0 h;obtain ⟨⟨x5,x6,x7⟩,A8,Af⟩:=AOw hp;dsimp only at Af;refine Aj5 K0 (Ao3 (H2.ext K0.x) A8) λCd Ce Ax=>AOr<|Ait rfl rfl (Ait rfl rfl (Ait rfl rfl (Ahl<|Ahl<|AO1<|AOx<|AOv<|AOr<|Akg rfl (AOz<|⟨_,rfl,λAg=>?_,λAg=>?_⟩))))
 ·refine AOv<|Ahl<|AO1<|AO6<|Ag9 ?_;have Ah:=Kst.anil2 cZ 146 129 Ax;obtain rfl:=AOu<|ifT Af Ag;exact ⟨_,Air,Ah.x,_,_,_,_,rfl,(Ah.o2 p0),Ah.s.sel [0] AOs⟩
 ·refine AO4<|q_t<|AOv<|AOr<|AOr ?_;obtain ⟨A9,Ba,Bb⟩:=AOw<|Aoy Af Ag;refine Aus Ax (Apg Ba) λBc Be Bf Ay Cf Cg Az=>AO1<|AOx<|AOv<|AOr<|Ahw Ai6 rfl H2 (AOr<|AOz<|AO0<|Anb 1125899898454784 (λx:(Int) × (LiI) × LnA × LnN × LvA=>(x.1,x.2.1)) ((0,A9,Bc,Be,Bf):(Int) × (LiI) × LnA × LnN × LvA) Bb (λx=>[(23,(.int .i64 x.1))]) (λx=>Az.L.set 0<|aO2 cZ 146 129 x.2.2.1 x.2.2.2.1 x.2.2.2.2 Ay x.2.1) Az ⟨rfl,trivial⟩ ?_);rintro ⟨Ch,Bg,Bh,Bi,Bj⟩ Ci Cj Ck Ab Ai Bl;unfold Apm at Ai;refine AOv<|Aho rfl rfl (AOz<|AOx<|⟨_,rfl,λAj=>?_,λAj=>?_⟩)
  ·refine AO4<|q_t<|AOx<|AO0<|AOv<|AOr<|Ah4<|AOr<|AOr ?_;obtain ⟨Cm,Bm,Bn⟩:=AOw<|Ahx Ai Aj;refine An4 Ai6 Alm H2 Ab.x Bm λ_ Cn Bo=>Aio Aj8 rfl Bo (AOr<|AOz<|AO0<|Anb 562947805938176 (λx:(Int) × (LiI) × LnA × LnN × LvA=>(x.1,x.2.1)) ((0,Bg,Bh,Bi,Bj):(Int) × (LiI) × LnA × LnN × LvA) Bn (λx=>[(31,(.int .i64 x.1))]) (λx=>Ab.L.set 0<|aO2 cZ 146 129 x.2.2.1 x.2.2.2.1 x.2.2.2.2 Ay x.2.1) Ab ⟨rfl,trivial⟩ ?_);rintro ⟨A3,u64,Co,Cp,Cq⟩ Cr Ak Ct Aa Am Bp;unfold Apl at Am;refine AOv<|Aho rfl rfl (AOz<|AOx<|⟨_,rfl,λAo=>?_,λAo=>?_⟩)
   ·refine AO4<|q_t<|AOx<|AO0<|AOv<|AOr<|AO1<|Aiz (λh'=>UpT [] Ak h') AO5 ?_;have Ae:UpT [] Ak Ak:=UpT.start all_nil;refine AOr<|AOr ?_;obtain ⟨Cu,Ap,Bq⟩:=AOw<|Ahx Am Ao;refine Aii Ai6 rfl (Aa.o2 p0) rfl Ap λCv Cw Cx Br Bt=>Ahk Alm rfl Ae (λh' hb=>AO8 Bt hb.ext) (AOr<|AOr<|AOr ?_);obtain ⟨Cy,Bu,Bv⟩:=AOw Bq;refine Az6 Ai6 rfl H2 rfl Bu λCz C0 C1 Bw Bx=>Ahk Alm rfl Ae (λh' hb=>AO8 Bw<|Aa.x.trans hb.ext) (AOr ?_);obtain ⟨C2,By,Bz⟩:=AOw Bv;refine Aqe (c:=cZ) Aj8 rfl Bx rfl By λC3 C4 C5 A4 B1=>Ayi (c:=cZ) Aip rfl A4 Ae (λh' hb j u hu=>AO8 (B1 j u hu)<|Aa.x.trans hb.ext) ?_;obtain ⟨C6,B3,B4⟩:=AOw Bz;refine Am3 Aa Ae (A02 (Aa.zx A4).2 B3) λC7 C8 C9 Ac Da=>?_;obtain ⟨Db,A5,B5⟩:=AOw B4;refine Ain (m:=A3) Aj8 rfl (Aa.o2 p0) Br Ap rfl A5 λDc B6=>Aon (m:=A3) (Azf Aip (cZ.klen<|Ac.z p0) rfl rfl (cZ.one<|Ac.z p0)) (Ac.o2 p1) B6 Ap A5 (Ac.z p0) λDd B7 B8=>Ahh<|q_b<|q_t<|Ag6<|Ahp rfl rfl (AOr<|AOz ?_);exact ⟨(_,_,_,_,_),(AOu B5).symm,(Ac.uO2 p1 B8 B7).sel [1] AOs,rfl,trivial⟩
   ·refine Ahf<|Ahg<|Ahg<|Aim<|q_b<|q_t<|Ag6<|Ahp rfl rfl (AOr<|AOz ?_);exact ⟨(_,_,_,_,_),(AOu<|Bp _ (AOu<|Ahy Am Ao).symm).symm,Aa,rfl,trivial⟩
  ·refine Ahf<|Ahg<|Ahg<|Aim<|q_t<|AOv<|AOr<|Ahl<|AO1<|AO6 ?_;obtain rfl:=AOu<|Bl _ (AOu<|Ahy Ai Aj).symm;exact ⟨_,Air,Ab.x,_,_,_,_,rfl,(Ab.o2 p0),Ab.s.sel [0] AOs⟩
def As9 (fuel:Nat) (a3 a7:LiA) (Aa Ac:Int):Option ((Int × Int) ⊕ Int):=
 if Aa < (a3.length:Int) then (gI a3 Aa).bind λAe=>(gI a7 Aa).bind λAf=>(Ayn fuel Ae Af).bind λAg=>(BE7 fuel Ac Ag).bind λAh=>some (.inl (w64<|Aa + 1,Ah)) else some<|.inr Ac
def Apv (fuel:Nat) (a3 a7:LiA):Option Int:=
 (iter (λs=>As9 fuel a3 a7 s.1 s.2) fuel (0,0)).bind (λ(Ac:Int)=>some Ac)
theorem A04 {a3:LiA} {Ak:Value} {a7:LiA} {r:Int} (H2:SlC cZ h Ai a3) (H6:SlC cZ h Ak a7) (hp:Apv fuel a3 a7=some r):Ahq Tryz.prog 185 #[Ai,Ak] h (λx h'=>Ext h h'/\ ∃ (x0:Value),x=x0/\ZZ h' x0 r):=by
 unfold Apv at hp;refine cwf (l:=[_,_]) Tryz.func185 rfl rfl (AOv<|Aj3 (Kst.k0 h) [.bool false,.slice none 0 0] Amo λb9 Bn Bo Ax=>Apu<|Akh (Awb )<|Aj3 Ax [.bool false,.slice none 0 0] Amo λAy Aq Bp Az=>An1 Az p0 (Ahd Aq) (Ahd Aq) λA3 A4=>AOz<|AOx<|AOx ?_);refine Ag6<|AOr<|Aio Aj8 rfl H2 (AOr<|AOz<|AO0 ?_);have Ar:=A4.az<|Ahd A3;refine Anb 33553472 (λx:(Int) × (Int) × LvA=>(x.1,x.2.1)) ((0,0,[Value.bool false,Value.slice none 0 0]):(Int) × (Int) × LvA) hp (λx=>[(10,(.int .i64 x.1))]) (λx=>(Ar.L.set 0<|aZ x.2.2 x.2.1).set 1 (aB 129 Ay x.2.2)) Ar ⟨rfl,trivial⟩ ?_;rintro ⟨Bq,Br,Bt⟩ Bu Ac Bv Aa Af A5;unfold As9 at Af;refine AOv<|Aho rfl rfl (AOz<|AOx<|⟨_,rfl,λAg=>?_,λAg=>?_⟩)
 ·refine AO4<|q_t<|AOx<|AO0<|AOv<|AOr<|AO1<|Aiz (λh'=>UpT [] Ac h') AO5 ?_;have Ad:UpT [] Ac Ac:=UpT.start all_nil;refine Avq (Aa.z p0) Ad (Aa.b p1)<|AOr<|AOr ?_;obtain ⟨Bw,A6,A7⟩:=AOw<|Ahx Af Ag;refine Aqe (c:=cZ) Aj8 rfl H2 rfl A6 λBx By Bz Au A8=>Ayi (c:=cZ) Aip rfl Au Ad (λh' hb j u hu=>AO8 (A8 j u hu)<|Aa.x.trans hb.ext) (AOr<|AOr ?_);obtain ⟨B1,A9,Ba⟩:=AOw A7;refine Aqe (c:=cZ) Aj8 rfl H6 rfl A9 λB3 B4 B5 Av Bb=>Ayi (c:=cZ) Aip rfl Av Ad (λh' hb j u hu=>AO8 (Bb j u hu)<|Aa.x.trans hb.ext) ?_;obtain ⟨B6,Bc,Be⟩:=AOw Ba;refine Am3 Aa Ad (Axn (Aa.zx Au).2 (Aa.zx Av).2 Bc) λB7 B8 B9 Ah Bf=>?_;obtain ⟨Ca,Bg,Bh⟩:=AOw Be;refine Am3 Ah Bf (BDh (Ah.z p1).2 (Ah.z p0).2 Bg) λBi Cb Cd Ab Ce=>Ai5 Bi Aip (cZ.klen<|Ab.z p0) (cZ.klen<|Ab.z p2) rfl rfl (cZ.one<|Ab.z p0) (Ab.b p3) λCf Bj Bl=>Ahh<|q_b<|q_t<|Ag6<|Ahp rfl rfl (AOr<|AOz ?_);exact ⟨(_,_,_),(AOu Bh).symm,(Ab.sb p3 Bl Bj rfl).sel [0,3,4] AOs,rfl,trivial⟩
 ·refine Ahf<|Ahg<|Ahg<|Aim<|q_t<|AOv<|Asb (Aa.z p0) (Aa.b p1)<|An1 Aa p2 (Ahd Ac) (Aa.z p0) λCg Ae=>AOz<|AO6 ?_;obtain rfl:=AOu<|A5 _ (AOu<|Ahy Af Ag).symm;exact ⟨_,Ai1 Aip (cZ.klen<|Ae.z p0) rfl (Ae.b p2),Ae.x,_,rfl,(Ae.z p0).2⟩
def Ata (fuel:Nat) (a3 Ad:LiI) (Ab Aa:Int) (Ac:LiI):Option ((Int × LiI) ⊕ LiI):=
 if Aa < (Ad.length:Int) then (gI Ac Ab).bind λAe=>(gI a3 Ab).bind λAg=>(gI Ad Aa).bind λAh=>(Apv fuel Ag Ah).bind λAi=>(gI Ae Aa).bind λAj=>some (.inl (w64<|Aa + 1,sI Ac Ab<|sI Ae Aa Ai)) else some<|.inr Ac
def Atb (fuel:Nat) (a3 Ad:LiI) (Aa:Int) (Ac:LiI):Option ((Int × LiI) ⊕ LiI):=
 if Aa < (a3.length:Int) then (iter (λs=>Ata fuel a3 Ad Aa s.1 s.2) fuel (0,Ac)).bind (λ(Ae:LiI)=>some<|.inl (w64<|Aa + 1,Ae)) else some<|.inr Ac
def Apw (fuel:Nat) (a3 a7:LiI):Option (LiI × Bool):=
 (Ajd fuel a3).bind λ(x9,Ad,Ae)=>(Ak1 fuel a7).bind λ(Ac,Af)=>((if (!Ae)=true then some (.inl ([],false)) else if (!Af)=true then some (.inl ([],false)) else if ¬ (a7.length:Int)=Ad then some (.inl ([],false)) else some<|.inr ()):Option ((LiI × Bool) ⊕ Unit)).bind (λex=>match ex with | .inl Ag=>(some Ag) | .inr _=>(Aki fuel (a3.length:Int) (Ac.length:Int)).bind λAh=>(iter (λs=>Atb fuel a3 Ac s.1 s.2) fuel (0,Ah)).bind (λ(Ai:LiI)=>some (Ai,true)))
theorem A05 {Av:Value} {Ax:Value} {a7:LiI} {r:(LiI × Bool)} (H2:Ajx cZ h Av a3) (H6:Ajx cZ h Ax a7) (hp:Apw fuel a3 a7=some r):Ahq Tryz.prog 134 #[Av,Ax] h (λx h'=>Ext h h'/\ ∃ (x0:Value) (F0:List Nat) (Bm:List LnA) (Bn:List Value),x= .tuple #[x0,.bool r.2]/\Aj0 cZ 146 129 h' F0 Bm Bn x0 r.1/\Sp h' h.size [F0]):=by
 unfold Apw at hp;refine cwf (l:=[_,_]) Tryz.func134 rfl rfl (AOv<|Ahl<|Ah4<|AOr ?_);have K0:=Kst.k0 h;obtain ⟨⟨x9,Cx,Bo⟩,Bp,A6⟩:=AOw hp;dsimp only at A6;refine Aj5 K0 (Ao3 (H2.ext K0.x) Bp) λCy Cz A7=>AOr<|Ait rfl rfl (Ait rfl rfl (Ait rfl rfl (Ahl<|Ahl<|Ah4<|AOr ?_)));obtain ⟨⟨C0,Bq⟩,Br,A8⟩:=AOw A6;dsimp only at A8;refine Aqy rfl (Atm (H6.ext A7.x) Br) λC1 C2 Bt Bu=>?_;obtain ⟨C3,C4,C5,C6,rfl,Bv,Bw⟩:=Bu;refine AOr<|Ait rfl rfl (Ait rfl rfl (Ahl<|AO1 ?_));have Ac:=A7.no2 Bt Bw Bv;obtain ⟨Bx,A9,Af⟩:=AOw A8;refine Aqt 137405399088 (λx:Unit=>[]) (λx h'=>(Sum.inr <| ())=Bx/\Kst h h' (Ac.L)) ?_ ?_
 ·refine AOv<|AOr<|Akg rfl (AOr ?_);cases Ba:(!Bo)
  ·refine Ag8 27 false<|AOr<|Ag8 27 false<|Akg rfl (APb rfl (AOr ?_));have Bb:=Aoy A9 Ba;cases Bc:(!Bq)
   ·refine Ag8 31 false<|AOr<|Ag8 31 false<|Ahw Ai6 rfl H6 (Ag8 31 false<|AOr<|Ag8 31 false<|Ajq rfl rfl (APb rfl (AOz ?_)));have Be:=Aoy Bb Bc;refine ⟨_,rfl,λAh=>?_,λAh=>?_⟩
    ·refine AOv<|Ahl<|AO1 ?_;obtain rfl:=AOu<|Ahx Be Ah;refine AO6<|Ag9 ?_;have Ai:=Kst.anil2 cZ 146 129 Ac;obtain rfl:=AOu Af;exact ⟨_,Air,Ai.x,_,_,_,_,rfl,(Ai.o2 p0),Ai.s.sel [0] AOs⟩
    ·refine AO4<|q_t ?_;exact ⟨(():Unit),⟨AOu<|Ahy Be Ah,Ac⟩,trivial⟩
   ·refine Alo 31 true<|Ag7 rfl (AOz<|Ahn rfl (AOv<|Ahl<|AO1 ?_));obtain rfl:=AOu<|ifT Bb Bc;refine AO6<|Ag9 ?_;have Aj:=Kst.anil2 cZ 146 129 Ac;obtain rfl:=AOu Af;exact ⟨_,Air,Aj.x,_,_,_,_,rfl,(Aj.o2 p0),Aj.s.sel [0] AOs⟩
  ·refine Aol 27 true<|Ag7 rfl (AOr<|Alo 31 true<|Ag7 rfl (AOz<|Ahn rfl (AOv<|Ahl<|AO1 ?_)));obtain rfl:=AOu<|ifT A9 Ba;refine AO6<|Ag9 ?_;have Ak:=Kst.anil2 cZ 146 129 Ac;obtain rfl:=AOu Af;exact ⟨_,Air,Ak.x,_,_,_,_,rfl,(Ak.o2 p0),Ak.s.sel [0] AOs⟩
 rintro ⟨⟩ C7 C8 ⟨By,Bf⟩;subst By;refine AOv<|AOr<|Ahw Ai6 rfl H2 (AOr<|Ahw Ai6 rfl (Bf.o2 p0).rd ?_);obtain ⟨Bz,B1,B3⟩:=AOw Af;refine Aus Bf (Apg B1) λB4 B5 B6 Bg C9 Da Bh=>AO1<|AOx<|AOv<|AOr<|Ahw Ai6 rfl H2 (AOr<|AOz<|AO0<|Anb 590295792766519619584 (λx:(Int) × (LiI) × LnA × LnN × LvA=>(x.1,x.2.1)) ((0,Bz,B4,B5,B6):(Int) × (LiI) × LnA × LnN × LvA) B3 (λx=>[(44,(.int .i64 x.1))]) (λx=>Bh.L.set 0<|aO2 cZ 146 129 x.2.2.1 x.2.2.2.1 x.2.2.2.2 Bg x.2.1) Bh ⟨rfl,trivial⟩ ?_);rintro ⟨Bi,B7,B8,B9,Ca⟩ Db Dc Dd Ab Am Cb;unfold Atb at Am;refine AOv<|Aho rfl rfl (AOz<|AOx<|⟨_,rfl,λAo=>?_,λAo=>?_⟩)
 ·refine AO4<|q_t<|AOx<|AO0<|AOv<|AOr<|Ah4<|AOr<|Ahw Ai6 rfl (Ab.o2 p1).rd (AOr<|AOz<|AO0<|Anb 295147342229399412736 (λx:(Int) × (LiI) × LnA × LnN × LvA=>(x.1,x.2.1)) ((0,B7,B8,B9,Ca):(Int) × (LiI) × LnA × LnN × LvA) (Ahx Am Ao) (λx=>[(49,(.int .i64 x.1))]) (λx=>Ab.L.set 0<|aO2 cZ 146 129 x.2.2.1 x.2.2.2.1 x.2.2.2.2 Bg x.2.1) Ab ⟨rfl,trivial⟩ ?_);rintro ⟨De,Df,Dg,Dh,Di⟩ Dj Ap Dk Aa Aq Cd;unfold Ata at Aq;refine AOv<|Aho rfl rfl (AOz<|AOx<|⟨_,rfl,λAr=>?_,λAr=>?_⟩)
  ·refine AO4<|q_t<|AOx<|AO0<|AOv<|AOr<|AO1<|Aiz (λh'=>UpT [] Ap h') AO5 ?_;have Ag:UpT [] Ap Ap:=UpT.start all_nil;refine AOr<|AOr ?_;obtain ⟨Dl,Au,Ce⟩:=AOw<|Ahx Aq Ar;refine Aii Ai6 rfl (Aa.o2 p0) rfl Au λDo Dp Dq Cf Cg=>Ahk Alm rfl Ag (λh' hb=>AO8 Cg hb.ext) (AOr<|AOr<|AOr ?_);obtain ⟨Dr,Ch,Ci⟩:=AOw Ce;refine Az6 Ai6 rfl H2 rfl Ch λDs Dt Du Cj Ck=>Ahk Alm rfl Ag (λh' hb=>AO8 Cj<|Aa.x.trans hb.ext) (AOr<|AOr ?_);obtain ⟨Dv,Bj,Cm⟩:=AOw Ci;refine Aii Ai6 rfl (Aa.o2 p1) rfl Bj λDw Dx Dy Cn Co=>Ahk Alm rfl Ag (λh' hb=>AO8 Co hb.ext) ?_;obtain ⟨Dz,Cp,Cq⟩:=AOw Cm;refine Am3 Aa Ag (A04 (Ck.ext Aa.x) ((Aa.o2 p1).rowI Cn Bj) Cp) λD0 D1 D2 Ad D3=>?_;obtain ⟨D4,Bl,Cr⟩:=AOw Cq;refine Ain (m:=Bi) Aj8 rfl (Aa.o2 p0) Cf Au rfl Bl λD5 Ct=>Aon (m:=Bi) (Azf Aip (cZ.klen<|Ad.z p0) rfl rfl (cZ.one<|Ad.z p0)) (Ad.o2 p1) Ct Au Bl (Ad.z p0) λD6 Cu Cv=>Ahh<|q_b<|q_t<|Ag6<|Ahp rfl rfl (AOr<|AOz ?_);exact ⟨(_,_,_,_,_),(AOu Cr).symm,(Ad.uO2 p1 Cv Cu).sel [1,2] AOs,rfl,trivial⟩
  ·refine Ahf<|Ahg<|Ahg<|Aim<|q_b<|q_t<|Ag6<|Ahp rfl rfl (AOr<|AOz ?_);exact ⟨(_,_,_,_,_),(AOu<|Cd _ (AOu<|Ahy Aq Ar).symm).symm,Aa,rfl,trivial⟩
 ·refine Ahf<|Ahg<|Ahg<|Aim<|q_t<|AOv<|AOr<|Ahl<|AO1<|AO6 ?_;obtain rfl:=AOu<|Cb _ (AOu<|Ahy Am Ao).symm;exact ⟨_,Air,Ab.x,_,_,_,_,rfl,(Ab.o2 p0),Ab.s.sel [0] AOs⟩
def Aji (fuel:Nat) (a3 a7:LiI):Option LiI:=
 (Apw fuel a3 a7).bind λ(x9,Ad)=>some x9
theorem Aqg {a7 r:LiI} (H2:Ajx cZ h Ac a3) (H6:Ajx cZ h Ae a7) (hp:Aji fuel a3 a7=some r):Ahq Tryz.prog 71 #[Ac,Ae] h (λx h'=>Ext h h'/\ ∃ (x0:Value) (F0:List Nat) (Am:List LnA) (Ao:List Value),x=x0/\Aj0 cZ 146 129 h' F0 Am Ao x0 r/\Sp h' h.size [F0]):=by
 unfold Aji at hp;refine cwf (l:=[_,_]) Tryz.func71 rfl rfl (AOv<|Ah4<|AOr<|AOr ?_);have K0:=Kst.k0 h;obtain ⟨⟨x9,Ax⟩,Ap,Ai⟩:=AOw hp;dsimp only at Ai;refine Aqy rfl (A05 (H2.ext K0.x) (H6.ext K0.x) Ap) λAy Az Aq Ar=>?_;obtain ⟨A3,A4,A5,A6,rfl,Au,Av⟩:=Ar;refine AOr<|Ait rfl rfl (Ait rfl rfl (Ahl<|Ah4<|AOr<|AO1<|AO6 ?_));have Ab:=K0.no2 Aq Av Au;obtain rfl:=AOu Ai;exact ⟨_,AO7,Ab.x,_,_,_,_,rfl,(Ab.o2 p0),Ab.s.sel [0] AOs⟩
def Arv (fuel:Nat) (a1:Int) (Aa:LiA) (Ab:Int):Option ((LiA × Int) ⊕ LiA):=
 if Ab < a1 then if Aa.length<=100000000 then some (.inl (Aa ++ [Ab],w64<|Ab + 1)) else none else some<|.inr Aa
def Amx (fuel:Nat) (a1 a2:Int):Option LiA:=
 (iter (λs=>Arv fuel a1 s.1 s.2) fuel ([],0)).bind (λ(Aa:LiA)=>if Aa.length<=100000000 then some (Aa ++ [a2]) else none)
theorem Au9 {r:LiA} (hp:Amx fuel a1 a2=some r):Ahq Tryz.prog 176 #[(.int .i64 a1),(.int .i64 a2)] h (λx h'=>Ext h h'/\ ∃ (x0:Value) (F0:List Nat),x=x0/\OwC (cI .i64) 3 h' F0 x0 r/\Sp h' h.size [F0]):=by
 unfold Amx at hp;refine cwf (l:=[_,_]) Tryz.func176 rfl rfl (AOv<|Ah4<|AO1<|AOx<|AOv<|AO1<|AO0 ?_);have K4:=Kst.anil (cI .i64) 3<|Kst.k0 h;refine Anb 65504 (λx:(LiA) × (Value) × LnA × (Int)=>(x.1,x.2.2.2)) (([],(.slice none 0 0),[],0):(LiA) × (Value) × LnA × (Int)) hp (λx=>[(5,x.2.1),(6,(.int .i64 x.2.2.2))]) (λx=>K4.L.set 0<|aO (cI .i64) 3 x.2.2.1 x.2.1 x.1) K4 ⟨rfl,rfl,trivial⟩ ?_;rintro ⟨Az,A3,A4,Aj⟩ A5 h9 y8 Ab Ac Ak;unfold Arv at Ac;refine AOx<|AOv<|AOr<|AOr<|Aho rfl rfl (AOz<|⟨_,rfl,λAd=>?_,λAd=>?_⟩)
 ·refine AO4<|q_t<|AOx<|AO0<|Ag6<|AOr<|AOr ?_;obtain ⟨Am,Ao⟩:=ifN<|Ahx Ac Ad;refine Ar3 A3e A3p rfl rfl trivial tt2 (λ_=>rfl) rfl (show ((cI .i64)).rep _ Aj [(.int .i64 Aj)] from rfl) (Ab.o p0) AOs Am λA8 A9 Ba Bb Ap Aq Ar=>Ahl<|Ahh<|q_b<|q_t<|Ag6<|AOr<|Ahp rfl rfl (AO1 ?_);exact ⟨(_,_,_,_),(AOu Ao).symm,(Ab.uo p0 Aq Ap Ar),rfl,rfl,trivial⟩
 ·refine Ahf<|Ahg<|Ahg<|Aim<|q_t<|AOv<|AOr<|AOr ?_;obtain ⟨Au,Av⟩:=ifN<|Ak _ (AOu<|Ahy Ac Ad).symm;refine Ar3 A3e A3p rfl rfl trivial tt2 (λ_=>rfl) rfl (show ((cI .i64)).rep _ a2 [(.int .i64 a2)] from rfl) (Ab.o p0) AOs Au λBc Be Bf Bg Aw Ax Ay=>AO1<|AO6 ?_;have Ae:=Ab.uo p0 Ax Aw Ay;obtain rfl:=AOu Av;exact ⟨_,AO7,Ae.x,_,_,rfl,(Ae.o p0),Ae.s.sel [0] AOs⟩
def Aqh (fuel:Nat) (a3:LiI) (x5:Int) (Ab:LiA) (Aa:Int):Option ((LiA × Int) ⊕ LiA):=
 if Aa < x5 then (Amx fuel Aa Aa).bind λAe=>(Amx fuel Aa Aa).bind λAf=>(Amf fuel a3 Ae Af).bind λAg=>(Aig fuel Ag).bind λAh=>if Ab.length<=100000000 then some (.inl (Ab ++ [Ah],w64<|Aa + 1)) else none else some<|.inr Ab
def Akd (fuel:Nat) (a3:LiI):Option (LiA × Bool):=
 (Ak7 fuel a3).bind λ(x5,x6)=>if (!x6)=true then some ([],false) else (iter (λs=>Aqh fuel a3 x5 s.1 s.2) fuel ([],0)).bind (λ(Ad:LiA)=>some (Ad,true))
theorem Aqi {r:(LiA × Bool)} (H2:Ajx cZ h Ai a3) (hp:Akd fuel a3=some r):Ahq Tryz.prog 122 #[Ai] h (λx h'=>Ext h h'/\ ∃ (x0:Value) (F0:List Nat),x= .tuple #[x0,.bool r.2]/\OwC cZ 129 h' F0 x0 r.1/\Sp h' h.size [F0]):=by
 unfold Akd at hp;refine cwf (l:=[_]) Tryz.func122 rfl rfl (AOv<|Ahl<|Ah4<|AOr ?_);have K0:=Kst.k0 h;obtain ⟨⟨x5,x6⟩,Av,Ac⟩:=AOw hp;dsimp only at Ac;refine Aj5 K0 (Aux (H2.ext K0.x) Av) λBh E9 Aq=>AOr<|Ait rfl rfl (Ait rfl rfl (Ahl<|AO1<|AOx<|AOv<|AOr<|Akg rfl (AOz<|⟨_,rfl,λAd=>?_,λAd=>?_⟩)))
 ·refine AOv<|Ahl<|AO1<|AO6<|Ag9 ?_;have Ae:=Kst.anil cZ 129 Aq;obtain rfl:=AOu<|ifT Ac Ad;exact ⟨_,Air,Ae.x,_,_,rfl,(Ae.o p0),Ae.s.sel [0] AOs⟩
 ·refine AO4<|q_t<|AOv<|AO1<|AOx<|AOv<|AO1<|AO0 ?_;have Ar:=Kst.anil cZ 129 Aq;refine Anb 4294934720 (λx:(LiA) × (Value) × LnA × (Int)=>(x.1,x.2.2.2)) (([],(.slice none 0 0),[],0):(LiA) × (Value) × LnA × (Int)) (Aoy Ac Ad) (λx=>[(6,x.2.1),(7,(.int .i64 x.2.2.2))]) (λx=>Ar.L.set 0<|aO cZ 129 x.2.2.1 x.2.1 x.1) Ar ⟨rfl,rfl,trivial⟩ ?_;rintro ⟨Bj,Bl,Bm,u32⟩ Bn Bo Bp Aa Af Aw;unfold Aqh at Af;refine AOx<|AOv<|AOr<|AOr<|Aho rfl rfl (AOz<|⟨_,rfl,λAg=>?_,λAg=>?_⟩)
  ·refine AO4<|q_t<|AOx<|AO0<|Ag6<|AOr<|AOr<|AOr<|AOr ?_;obtain ⟨Bq,Ax,Ay⟩:=AOw<|Ahx Af Ag;refine BR5 Aa (Au9 Ax) λBr Bt Bu Bv Az=>AOr<|AOr ?_;obtain ⟨Bw,A3,A4⟩:=AOw Ay;refine BR5 Az (Au9 A3) λBx By Bz B1 Ab=>?_;obtain ⟨B3,A5,A6⟩:=AOw A4;refine Aus Ab (Auy (H2.ext Ab.x) (Ab.o p1).rd (Ab.o p0).rd A5) λB4 B5 B6 B7 B8 B9 Au=>?_;obtain ⟨Ca,A7,A8⟩:=AOw A6;refine Au8 Au (Ajt (Au.o2 p0).rd A7) λCb Cd Ce Ah=>?_;obtain ⟨A9,Ba⟩:=ifN A8;refine Ar3 Aj8 Amo rfl rfl trivial tt2 (λ_=>rfl) rfl (Ah.z p0) (Ah.o p4) AOs A9 λCf Cg Ch Ci Bb Bc Be=>Ahl<|Ahh<|q_b<|q_t<|Ag6<|AOr<|Ahp rfl rfl (AO1 ?_);exact ⟨(_,_,_,_),(AOu Ba).symm,(Ah.uo p4 Bc Bb Be).sel [4] AOs,rfl,rfl,trivial⟩
  ·refine Ahf<|Ahg<|Ahg<|Aim<|q_t<|AOv<|AOr<|Ahl<|AO1<|AO6 ?_;obtain rfl:=AOu<|Aw _ (AOu<|Ahy Af Ag).symm;exact ⟨_,Air,Aa.x,_,_,rfl,(Aa.o p0),Aa.s.sel [0] AOs⟩
def Apn (fuel:Nat) (a3:LiI) (Ab Aa:Int):Option (Int ⊕ (Bool ⊕ Unit)):=
 if Aa < Ab then (gI a3 Ab).bind λAd=>(gI Ad Aa).bind λAe=>(gI a3 Aa).bind λAf=>(gI Af Ab).bind λAg=>(A81 fuel Ae Ag).bind λAh=>if ¬ Ah=0 then some (.inr<|.inl false) else some (.inl<|w64<|Aa + 1) else some<|.inr<|.inr ()
def Apo (fuel:Nat) (a3:LiI) (Aa:Int):Option (Int ⊕ (Bool ⊕ Unit)):=
 if Aa < (a3.length:Int) then (iter (λs=>Apn fuel a3 Aa s) fuel 0).bind (λex=>match ex with | .inl Ac=>(some<|.inr<|.inl Ac) | .inr _=>some<|.inl<|w64<|Aa + 1) else some<|.inr<|.inr ()
def Ak2 (fuel:Nat) (a3:LiI):Option Bool:=
 (iter (λs=>Apo fuel a3 s) fuel 0).bind (λex=>match ex with | .inl Ab=>(some Ab) | .inr _=>some true)
theorem Atn {r:Bool} (H2:Ajx cZ h Ai a3) (hp:Ak2 fuel a3=some r):Ahq Tryz.prog 118 #[Ai] h (λx h'=>Ext h h'/\x= .bool r):=by
 unfold Ak2 at hp;refine cwf (l:=[_]) Tryz.func118 rfl rfl (AOv<|AO1<|AOx<|AOv<|AOr<|Ahw Ai6 rfl H2 (AOr<|AOz<|AO0 ?_));have K0:=Kst.k0 h;refine Aqu 4294967196 hp (λx=>[(7,(.int .i64 x))]) (λx=>K0.L) K0 ⟨rfl,trivial⟩ ?_;rintro Bb Bc h8 y7 Ac Ad Am;unfold Apo at Ad;refine AOv<|Aho rfl rfl (AOz<|AOx<|⟨_,rfl,λAe=>?_,λAe=>?_⟩)
 ·refine AO4<|q_t<|AOx<|AO0<|AOv<|AOr<|Ah4<|AO1<|AO0<|Aqu 2147482644 (Ahx Ad Ae) (λx=>[(4,(.int .i64 x))]) (λx=>Ac.L) Ac ⟨rfl,trivial⟩ ?_;rintro Bg Bh Bi Bj Aa Af Ao;unfold Apn at Af;refine AOx<|AOv<|AOr<|AOr<|Aho rfl rfl (AOz<|⟨_,rfl,λAg=>?_,λAg=>?_⟩)
  ·refine AO4<|q_t<|AOx<|AO0<|AOx<|Ana<|AOr<|AOr ?_;obtain ⟨Bl,Av,Aw⟩:=AOw<|Ahx Af Ag;refine An4 Ai6 Alm H2 Aa.x Av λ_ Bm Ax=>AOr ?_;obtain ⟨Bn,Ay,Az⟩:=AOw Aw;refine Aqe (c:=cZ) Aj8 rfl Ax rfl Ay λBo Bp Bq Ap A3=>Avo (c:=cZ) Aip rfl (Aa.zx Ap) (λj u hu=>(AO8 (A3 j u hu) Aa.x)) (AOr<|AOr ?_);obtain ⟨Br,A4,A5⟩:=AOw Az;refine An4 Ai6 Alm H2 Aa.x A4 λ_ Bt A6=>AOr ?_;obtain ⟨Bu,A7,A8⟩:=AOw A5;refine Aqe (c:=cZ) Aj8 rfl A6 rfl A7 λBv Bw Bx Aq A9=>Avo (c:=cZ) Aip rfl (Aa.zx Aq) (λj u hu=>(AO8 (A9 j u hu) Aa.x)) ?_;obtain ⟨By,Ba,Ar⟩:=AOw A8;refine Aj5 Aa (A7r (Aa.zx Ap).2 (Aa.zx Aq).2 Ba) λBz B1 Au=>Ajq rfl rfl (AOz<|⟨_,rfl,λAh=>?_,λAh=>?_⟩)
   ·refine AOv<|AO1<|AO6<|Aiq<|Ag9<|Ag9<|Aiq<|Aiq<|Ag9<|Ag9<|Aiq<|Ag9 ?_;obtain rfl:=AOu<|Am _ (AOu<|Ao _ (AOu<|Ahx Ar Ah).symm).symm;exact ⟨_,AO7,Au.x,rfl⟩
   ·refine AO4<|q_b<|q_t<|Ag6<|AOr<|Ahp rfl rfl (AO1 ?_);exact ⟨_,(AOu<|Ahy Ar Ah).symm,Au,rfl,trivial⟩
  ·refine Ahf<|Ahg<|Ahg<|Aim<|q_b<|q_t<|Ag6<|Ahp rfl rfl (AOr<|AOz ?_);exact ⟨_,(AOu<|Ao _ (AOu<|Ahy Af Ag).symm).symm,Aa,rfl,trivial⟩
 ·refine Ahf<|Ahg<|Ahg<|Aim<|q_t<|AOv<|AO1<|AO6 ?_;obtain rfl:=AOu<|Am _ (AOu<|Ahy Ad Ae).symm;exact ⟨_,AO7,Ac.x,rfl⟩
def Ap7 (fuel:Nat) (x5:LiA) (Aa:Int):Option (Int ⊕ (Bool ⊕ Unit)):=
 if Aa < (x5.length:Int) then (gI x5 Aa).bind λAc=>(A5f fuel Ac).bind λAd=>if Ad<=0 then some (.inr<|.inl false) else some (.inl<|w64<|Aa + 1) else some<|.inr<|.inr ()
def Am5 (fuel:Nat) (a3:LiI):Option Bool:=
 (Akd fuel a3).bind λ(x5,x6)=>((if (!x6)=true then some (.inl false) else (Ak2 fuel a3).bind λAd=>if (!Ad)=true then some (.inl false) else some<|.inr ()):Option (Bool ⊕ Unit)).bind (λex=>match ex with | .inl Ae=>(some Ae) | .inr _=>(iter (λs=>Ap7 fuel x5 s) fuel 0).bind (λex=>match ex with | .inl Af=>(some Af) | .inr _=>some true))
theorem Ax2 {Aj:Value} {r:Bool} (H2:Ajx cZ h Aj a3) (hp:Am5 fuel a3=some r):Ahq Tryz.prog 119 #[Aj] h (λx h'=>Ext h h'/\x= .bool r):=by
 unfold Am5 at hp;refine cwf (l:=[_]) Tryz.func119 rfl rfl (AOv<|Ah4<|AOr ?_);have K0:=Kst.k0 h;obtain ⟨⟨x5,x6⟩,A6,Ap⟩:=AOw hp;dsimp only at Ap;refine Aqy rfl (Aqi (H2.ext K0.x) A6) λBn Bo E9 A8=>?_;obtain ⟨Bp,Bq,rfl,A9,Ba⟩:=A8;refine AOr<|Ait rfl rfl (Ait rfl rfl (Ahl<|AO1 ?_));have Aa:=K0.no E9 Ba A9;obtain ⟨Bb,Aq,Ad⟩:=AOw Ap;refine Aqt 520196 (λx:Unit=>[]) (λx h'=>(Sum.inr <| ())=Bb/\Kst h h' (Aa.L)) ?_ ?_
 ·refine AOv<|AOr<|Akg rfl (AOr ?_);cases Ar:(!x6)
  ·refine Ag8 14 false<|AOr<|Ag8 14 false ?_;obtain ⟨Br,Bc,Au⟩:=AOw<|Aoy Aq Ar;refine Aj5 Aa (Atn (H2.ext Aa.x) Bc) λBt Bu Av=>Ag8 14 false<|Akg rfl (APb rfl (AOz<|⟨_,rfl,λAe=>?_,λAe=>?_⟩))
   ·refine AOv<|AO1 ?_;obtain rfl:=AOu<|ifT Au Ae;refine AO6<|Ag9 ?_;obtain rfl:=AOu Ad;exact ⟨_,AO7,Av.x,rfl⟩
   ·refine AO4<|q_t ?_;exact ⟨(():Unit),⟨AOu<|Aoy Au Ae,Av⟩,trivial⟩
  ·refine Alb 14 true<|Ag7 rfl (AOz<|Ahn rfl (AOv<|AO1 ?_));obtain rfl:=AOu<|ifT Aq Ar;refine AO6<|Ag9 ?_;obtain rfl:=AOu Ad;exact ⟨_,AO7,Aa.x,rfl⟩
 rintro ⟨⟩ Bv Bw ⟨Be,Af⟩;subst Be;refine AOx<|AOv<|AOr<|Aio Aj8 rfl (Af.o p0).rd (AOr<|AOz<|AO0<|Aqu 534773828 Ad (λx=>[(21,(.int .i64 x))]) (λx=>Af.L) Af ⟨rfl,trivial⟩ ?_);rintro Bx By Bz B1 Ab Ag Aw;unfold Ap7 at Ag;refine AOv<|Aho rfl rfl (AOz<|AOx<|⟨_,rfl,λAh=>?_,λAh=>?_⟩)
 ·refine AO4<|q_t<|AOx<|AO0<|AOv ?_;obtain ⟨B3,Ax,Bf⟩:=AOw<|Ahx Ag Ah;refine A19 Aj8 rfl (Ab.o p0) rfl Ax λB4 Bg=>?_;obtain ⟨B5,Bh,Bi⟩:=(Ab.o p0).cells Bg Ax;have Ay:=Ab.az Bh;refine Avo (c:=cZ) Aip rfl (Ay.z p0) (λj u hu=>(Bi j u hu)) (Aj3 Ay [.bool false,.slice none 0 0] Amo λB6 Bj B7 Az=>An1 Az p0 (Ahd Bj) (Az.z p1) λB8 Ac=>Apu<|Asb (Ac.z p1) (Ac.b p0) ?_);obtain ⟨B9,Bl,A3⟩:=AOw Bf;refine Aj5 Ac (A4k (Ac.z p1).2 Bl) λCa Cb A4=>A3s rfl rfl (AOz<|⟨_,rfl,λAi=>?_,λAi=>?_⟩)
  ·refine AOv<|AO1<|AO6<|Aiq<|Ag9<|Ag9<|Aiq<|Ag9 ?_;obtain rfl:=AOu<|Aw _ (AOu<|Ahx A3 Ai).symm;exact ⟨_,AO7,A4.x,rfl⟩
  ·refine AO4<|q_b<|q_t<|Ag6<|Ahp rfl rfl (AOr<|AOz ?_);exact ⟨_,(AOu<|Ahy A3 Ai).symm,A4.sel [2] AOs,rfl,trivial⟩
 ·refine Ahf<|Ahg<|Ahg<|Aim<|q_t<|AOv<|AO1<|AO6 ?_;obtain rfl:=AOu<|Aw _ (AOu<|Ahy Ag Ah).symm;exact ⟨_,AO7,Ab.x,rfl⟩
def Ajs (fuel:Nat) (a3:LiI):Option Int:=
 (Ak7 fuel a3).bind λ(x5,x6)=>if (!x6)=true then some 3 else if 8 < x5 then some 3 else (Ak2 fuel a3).bind λAd=>if (!Ad)=true then some 4 else (Am5 fuel a3).bind λAe=>if (!Ae)=true then some 5 else some 0
theorem Ap8 {r:Int} (H2:Ajx cZ h Ah a3) (hp:Ajs fuel a3=some r):Ahq Tryz.prog 61 #[Ah] h (λx h'=>Ext h h'/\x= .int .i64 r):=by
 unfold Ajs at hp;refine cwf (l:=[_]) Tryz.func61 rfl rfl (AOv<|Ah4<|AOr ?_);have K0:=Kst.k0 h;obtain ⟨⟨x5,x6⟩,Au,Ac⟩:=AOw hp;dsimp only at Ac;refine Aj5 K0 (Aux (H2.ext K0.x) Au) λAy E9 Aa=>AOr<|Ait rfl rfl (Ait rfl rfl (Ahl<|AO1<|AOx<|AO0<|AOv<|AOr<|Akg rfl (AOr ?_)));cases Ak:(!x6)
 ·refine Ag8 13 false<|AOr<|Ag8 13 false<|An0 rfl rfl (APb rfl (AO1 ?_));have Am:=Aoy Ac Ak;refine ⟨_,rfl,λAd=>?_,λAd=>?_⟩
  ·refine AOv<|AO1<|AO6<|Aiq<|Ag9 ?_;obtain rfl:=AOu<|Ahx Am Ad;exact ⟨_,AO7,Aa.x,rfl⟩
  ·refine AOv<|AOr ?_;obtain ⟨A3,Av,Ao⟩:=AOw<|Ahy Am Ad;refine Aj5 Aa (Atn (H2.ext Aa.x) Av) λA4 A5 Ae=>Akg rfl (AO1<|⟨_,rfl,λAf=>?_,λAf=>?_⟩)
   ·refine AOv<|AO1<|AO6<|Aiq<|Ag9 ?_;obtain rfl:=AOu<|ifT Ao Af;exact ⟨_,AO7,Ae.x,rfl⟩
   ·refine AOv<|AOr ?_;obtain ⟨A6,Aw,Ap⟩:=AOw<|Aoy Ao Af;refine Aj5 Ae (Ax2 (H2.ext Ae.x) Aw) λA7 A8 Aq=>Akg rfl (AO1<|⟨_,rfl,λAg=>?_,λAg=>?_⟩)
    ·refine AOv<|AO1<|AO6<|Aiq<|Ag9 ?_;obtain rfl:=AOu<|ifT Ap Ag;exact ⟨_,AO7,Aq.x,rfl⟩
    ·refine AO4<|q_b<|q_t<|AOv<|AO1<|AO6 ?_;obtain rfl:=AOu<|Aoy Ap Ag;exact ⟨_,AO7,Aq.x,rfl⟩
 ·refine Aol 13 true<|Ag7 rfl (AO1<|Ahn rfl (AOv<|AO1<|AO6<|Aiq<|Ag9 ?_));obtain rfl:=AOu<|ifT Ac Ak;exact ⟨_,AO7,Aa.x,rfl⟩
def Ak3 (fuel:Nat) (a3 a7:LiI):Option LiI:=
 (Ak1 fuel a7).bind λ(x9,Af)=>(Aji fuel x9 a3).bind λAd=>(Aji fuel Ad a7).bind λAe=>some Ae
theorem Axp {a7 r:LiI} (H2:Ajx cZ h Ad a3) (H6:Ajx cZ h Af a7) (hp:Ak3 fuel a3 a7=some r):Ahq Tryz.prog 70 #[Ad,Af] h (λx h'=>Ext h h'/\ ∃ (x0:Value) (F0:List Nat) (Ap:List LnA) (Aq:List Value),x=x0/\Aj0 cZ 146 129 h' F0 Ap Aq x0 r/\Sp h' h.size [F0]):=by
 unfold Ak3 at hp;refine cwf (l:=[_,_]) Tryz.func70 rfl rfl (AOv<|Ah4<|AOr ?_);have K0:=Kst.k0 h;obtain ⟨⟨x9,A6⟩,Ar,Am⟩:=AOw hp;dsimp only at Am;refine Aqy rfl (Atm (H6.ext K0.x) Ar) λA7 A8 Au Av=>?_;obtain ⟨A9,Ba,Bb,Bc,rfl,Aw,Ax⟩:=Av;refine AOr<|Ait rfl rfl (Ait rfl rfl (Ahl<|Ah4<|AOr<|AOr ?_));have Aa:=K0.no2 Au Ax Aw;obtain ⟨Be,Ay,Az⟩:=AOw Am;refine Aus Aa (Aqg (Aa.o2 p0).rd (H2.ext Aa.x) Ay) λBf Bg Bh Bi Bj Bl Ab=>AOr ?_;obtain ⟨Bm,A3,A4⟩:=AOw Az;refine Aus Ab (Aqg (Ab.o2 p0).rd (H6.ext Ab.x) A3) λBn Bo Bp Bq Br Bt Ac=>AO1<|AO6 ?_;obtain rfl:=AOu A4;exact ⟨_,AO7,Ac.x,_,_,_,_,rfl,(Ac.o2 p0),Ac.s.sel [0] AOs⟩
def Aq3 (fuel:Nat) (a6:Int) (Ab Ac:LiA) (Aa:Int):Option ((LiA × LiA × Int) ⊕ (LiA × LiA)):=
 if Aa < a6 then if Ab.length<=100000000 then if Ac.length<=100000000 then some (.inl (Ab ++ [Aa],Ac ++ [Aa],w64<|Aa + 1)) else none else none else some<|.inr (Ab,Ac)
def Ak8 (fuel:Nat) (a3:LiI) (a5 a6:Int):Option Int:=
 (iter (λs=>Aq3 fuel a6 s.1 s.2.1 s.2.2) fuel ([],[],0)).bind (λ((Ab,Ac):LiA × LiA)=>if Ab.length<=100000000 then if Ac.length<=100000000 then (Amf fuel a3 (Ab ++ [a5])<|Ac ++ [a6]).bind λAf=>(Aig fuel Af).bind λAg=>some Ag else none else none)
theorem Aq4 {a6 r:Int} (H2:Ajx cZ h Ah a3) (hp:Ak8 fuel a3 a5 a6=some r):Ahq Tryz.prog 129 #[Ah,(.int .i64 a5),(.int .i64 a6)] h (λx h'=>Ext h h'/\ ∃ (x0:Value),x=x0/\ZZ h' x0 r):=by
 unfold Ak8 at hp;refine cwf (l:=[_,_,_]) Tryz.func129 rfl rfl (AOv<|Aj3 (Kst.k0 h) [.bool false,.slice none 0 0] Amo λb7 h8 Bt Au=>Apu<|Ahl<|AO1<|AOx<|AOv<|AO1<|AO0 ?_);have Ak:=Kst.anil (cI .i64) 3<|Kst.anil (cI .i64) 3 Au;refine Anb 8388480 (λx:(LiA) × (Value) × LnA × (LiA) × (Value) × LnA × (Int)=>(x.1,x.2.2.2.1,x.2.2.2.2.2.2)) (([],(.slice none 0 0),[],[],(.slice none 0 0),[],0):(LiA) × (Value) × LnA × (LiA) × (Value) × LnA × (Int)) hp (λx=>[(7,x.2.1),(8,x.2.2.2.2.1),(9,(.int .i64 x.2.2.2.2.2.2))]) (λx=>(Ak.L.set 1<|aO (cI .i64) 3 x.2.2.1 x.2.1 x.1).set 0 (aO (cI .i64) 3 x.2.2.2.2.2.1 x.2.2.2.2.1 x.2.2.2.1)) Ak ⟨rfl,rfl,rfl,trivial⟩ ?_;rintro ⟨Bu,Bv,Bw,Bx,By,Bz,u32⟩ B1 B3 B4 Ac Af Av;unfold Aq3 at Af;refine AOx<|AOv<|AOr<|AOr<|Aho rfl rfl (AOz<|⟨_,rfl,λAg=>?_,λAg=>?_⟩)
 ·refine AO4<|q_t<|AOx<|AO0<|AOv<|AOr<|AOr ?_;obtain ⟨Aw,Ax⟩:=ifN<|Ahx Af Ag;refine Ar3 A3e A3p rfl rfl trivial tt2 (λ_=>rfl) rfl (show ((cI .i64)).rep _ u32 [(.int .i64 u32)] from rfl) (Ac.o p1) AOs Aw λB5 B6 B7 B8 Ay Az A3=>AO1<|Ag6<|AOr<|AOr ?_;have Am:=Ac.uo p1 Az Ay A3;obtain ⟨A4,A5⟩:=ifN Ax;refine Ar3 A3e A3p rfl rfl trivial tt2 (λ_=>rfl) rfl (show ((cI .i64)).rep _ u32 [(.int .i64 u32)] from rfl) (Am.o p0) AOs A4 λB9 Ca Cb Cd A6 A7 A8=>Ahl<|Ahh<|q_b<|q_t<|Ag6<|AOr<|Ahp rfl rfl (AO1 ?_);exact ⟨(_,_,_,_,_,_,_),(AOu A5).symm,(Am.uo p0 A7 A6 A8),rfl,rfl,rfl,trivial⟩
 ·refine Ahf<|Ahg<|Ahg<|Aim<|q_t<|AOv<|AOr<|AOr<|AOr ?_;obtain ⟨A9,Ba⟩:=ifN<|Av _ (AOu<|Ahy Af Ag).symm;refine Ar3 A3e A3p rfl rfl trivial tt2 (λ_=>rfl) rfl (show ((cI .i64)).rep _ a5 [(.int .i64 a5)] from rfl) (Ac.o p1) AOs A9 λCe Cf Cg Ch Bb Bc Be=>AOr<|AOr ?_;have Ao:=Ac.uo p1 Bc Bb Be;obtain ⟨Bf,Bg⟩:=ifN Ba;refine Ar3 A3e A3p rfl rfl trivial tt2 (λ_=>rfl) rfl (show ((cI .i64)).rep _ a6 [(.int .i64 a6)] from rfl) (Ao.o p0) AOs Bf λCi Cj Ck Cm Bh Bi Bj=>?_;have Ad:=Ao.uo p0 Bi Bh Bj;obtain ⟨Cn,Bl,Bm⟩:=AOw Bg;refine Aus Ad (Auy (H2.ext Ad.x) (Ad.o p1).rd (Ad.o p0).rd Bl) λCo Cp Cq Cr Ct Cu Ap=>?_;obtain ⟨Cv,Bn,Bo⟩:=AOw Bm;refine Au8 Ap (Ajt (Ap.o2 p0).rd Bn) λCw Bp Cx Aq=>An1 Aq p4 (Ahd Bp) (Aq.z p0) λCy Ae=>AOz<|AO6 ?_;obtain rfl:=AOu Bo;exact ⟨_,Ai1 Aip (cZ.klen<|Ae.z p0) rfl (Ae.b p4),Ae.x,_,rfl,(Ae.z p0).2⟩
def Ajj (fuel:Nat) (a3:LiA) (a5:Int):Option Int:=
 if a5=0 then (Ar4 fuel 1).bind λAc=>some Ac else (gI a3<|w64<|a5 - 1).bind λAd=>some Ad
theorem Ali {a3:LiA} {r:Int} (H2:SlC cZ h Af a3) (hp:Ajj fuel a3 a5=some r):Ahq Tryz.prog 130 #[Af,(.int .i64 a5)] h (λx h'=>Ext h h'/\ ∃ (x0:Value),x=x0/\ZZ h' x0 r):=by
 unfold Ajj at hp;refine cwf (l:=[_,_]) Tryz.func130 rfl rfl (AOv<|Aj3 (Kst.k0 h) [.bool false,.slice none 0 0] Amo λb6 h7 E9 Aa=>AOz<|AOx<|AOv<|AOr<|Aiy rfl rfl (AOz<|⟨_,rfl,λAe=>?_,λAe=>?_⟩))
 ·refine AOv ?_;obtain ⟨Ay,Ao,Ap⟩:=AOw<|Ahx hp Ae;refine Au8 Aa (Arc Ao) λAz Aq A3 Aj=>An1 Aj p1 (Ahd Aq) (Aj.z p0) λA4 Ab=>AOz<|AO6<|Ag9 ?_;obtain rfl:=AOu Ap;exact ⟨_,Ai1 Aip (cZ.klen<|Ab.z p0) rfl (Ab.b p1),Ab.x,_,rfl,(Ab.z p0).2⟩
 ·refine AO4<|q_t<|AOv<|AOr<|AOr<|Anj rfl rfl ?_;obtain ⟨A5,Ar,Au⟩:=AOw<|Ahy hp Ae;refine Aqe (c:=cZ) Aj8 rfl H2 rfl Ar λA6 A7 A8 Ac Av=>Avo (c:=cZ) Aip rfl (Aa.zx Ac) (λj u hu=>(AO8 (Av j u hu) Aa.x)) (An1 Aa p0 (Ahd h7) (Aa.zx Ac) λA9 Ad=>AOz<|AO6 ?_);obtain rfl:=AOu Au;exact ⟨_,Ai1 Aip (cZ.klen<|Ad.zx Ac) rfl (Ad.b p0),Ad.x,_,rfl,(Ad.zx Ac).2⟩
def Amy (fuel:Nat) (a3:LiI) (a7:LiA) (a9 Aa:Int):Option Bool:=
 (Ar4 fuel 2).bind λAe=>(Ak8 fuel a3 a9 Aa).bind λAf=>(BFb fuel Af).bind λAg=>(Ayn fuel Ae Ag).bind λAh=>(Ajj fuel a7<|w64<|Aa + 1).bind λAi=>(A81 fuel Ah Ai).bind λAj=>some<|decide (Aj<=0)
theorem Ava {a7:LiA} {Ah:Int} {r:Bool} (H2:Ajx cZ h Ac a3) (H6:SlC cZ h Ae a7) (hp:Amy fuel a3 a7 a9 Ah=some r):Ahq Tryz.prog 123 #[Ac,Ae,(.int .i64 a9),(.int .i64 Ah)] h (λx h'=>Ext h h'/\x= .bool r):=by
 unfold Amy at hp;refine cwf (l:=[_,_,_,_]) Tryz.func123 rfl rfl (AOv<|Ah4 ?_);obtain ⟨A7,Ap,Aq⟩:=AOw hp;refine Au8 (Kst.k0 h) (Arc Ap) λA8 A9 Ba Ai=>AOr<|AOr<|AOr ?_;obtain ⟨Bb,Ar,Au⟩:=AOw Aq;refine Au8 Ai (Aq4 (H2.ext Ai.x) Ar) λBc Be Bf Aj=>?_;obtain ⟨Bg,Av,Aw⟩:=AOw Au;refine Au8 Aj (BDq (Aj.z p0).2 Av) λBh Bi Bj Aa=>?_;obtain ⟨Bl,Ax,Ay⟩:=AOw Aw;refine Au8 Aa (Axn (Aa.z p2).2 (Aa.z p0).2 Ax) λBm Bn Bo Ak=>AOr<|AOr<|Ahp rfl rfl ?_;obtain ⟨Bp,Az,A3⟩:=AOw Ay;refine Au8 Ak (Ali (H6.ext Ak.x) Az) λBq Br Bt Ab=>?_;obtain ⟨Bu,A4,A5⟩:=AOw A3;refine Aj5 Ab (A7r (Ab.z p1).2 (Ab.z p0).2 A4) λBv Bw A6=>A3s rfl rfl (AO1<|AO6 ?_);obtain rfl:=AOu A5;exact ⟨_,AO7,A6.x,rfl⟩
def Amz (fuel:Nat) (a3:LiI):Option Bool:=
 (Aig fuel a3).bind λx5=>(Ar4 fuel 10000).bind λAc=>(A81 fuel x5 Ac).bind λAd=>some<|decide (Ad<=0)
theorem Avb {Ab:Value} {r:Bool} (H2:Ajx cZ h Ab a3) (hp:Amz fuel a3=some r):Ahq Tryz.prog 62 #[Ab] h (λx h'=>Ext h h'/\x= .bool r):=by
 unfold Amz at hp;refine cwf (l:=[_]) Tryz.func62 rfl rfl (AOv<|Ah4<|AOr ?_);have K0:=Kst.k0 h;obtain ⟨x5,Af,Ag⟩:=AOw hp;refine Au8 K0 (Ajt (H2.ext K0.x) Af) λAq h9 E8 Ah=>?_;obtain ⟨Av,Ai,Aj⟩:=AOw Ag;refine Au8 Ah (Arc Ai) λAw Ax Ay Aa=>?_;obtain ⟨Az,Ak,Am⟩:=AOw Aj;refine Aj5 Aa (A7r (Aa.z p1).2 (Aa.z p0).2 Ak) λA3 A4 Ao=>A3s rfl rfl (AO1<|AO6 ?_);obtain rfl:=AOu Am;exact ⟨_,AO7,Ao.x,rfl⟩
def Asg (fuel:Nat) (a1:Int) (a2:Bool) (Aa:Int) (Ac:LiI):Option ((Int × LiI) ⊕ LiI):=
 if Aa < ((List.replicate (Int.toNat a1) ([]:List Int)).length:Int) then if 0<=a1/\a1<=100000000 then (gI Ac Aa).bind λAi=>(gI (sI Ac Aa<|List.replicate (Int.toNat a1) (0:Int)) Aa).bind λAe=>(gI Ae Aa).bind λAj=>((if a2=true then if Aa=w64 (a1 - 1) then if 3 < a1 then some (w64<|Aa - 2) else some (w64<|Aa - 1) else some (w64<|Aa - 1) else some<|w64<|Aa - 1):Option Int).bind (λ(Ad:Int)=>if 0<=Ad then (gI (sI (sI Ac Aa<|List.replicate (Int.toNat a1) (0:Int)) Aa<|sI Ae Aa 2) Aa).bind λAf=>(gI (sI (sI Ac Aa<|List.replicate (Int.toNat a1) (0:Int)) Aa<|sI Ae Aa 2) Ad).bind λAk=>(gI Af Ad).bind λAm=>(gI (sI (sI (sI Ac Aa<|List.replicate (Int.toNat a1) (0:Int)) Aa<|sI Ae Aa 2) Aa<|sI Af Ad<|-1) Ad).bind λAg=>(gI Ag Aa).bind λAo=>some (.inl (w64<|Aa + 1,sI (sI (sI (sI Ac Aa<|List.replicate (Int.toNat a1) (0:Int)) Aa<|sI Ae Aa 2) Aa<|sI Af Ad<|-1) Ad<|sI Ag Aa<|-1)) else some<|.inl (w64<|Aa + 1,sI (sI Ac Aa<|List.replicate (Int.toNat a1) (0:Int)) Aa<|sI Ae Aa 2)) else none else some<|.inr Ac
def Anr (fuel:Nat) (a1:Int) (a2:Bool):Option LiI:=
 if 0<=a1/\a1<=100000000 then (iter (λs=>Asg fuel a1 a2 s.1 s.2) fuel (0,List.replicate (Int.toNat a1) ([]:List Int))).bind (λ(Ac:LiI)=>some Ac) else none
theorem Avs {a2:Bool} {r:LiI} (hp:Anr fuel a1 a2=some r):Ahq Tryz.prog 73 #[(.int .i64 a1),(.bool a2)] h (λx h'=>Ext h h'/\ ∃ (x0:Value) (F0:List Nat) (A5:List LnA) (A6:List Value),x=x0/\Aj0 (cI .i64) 61 2 h' F0 A5 A6 x0 r/\Sp h' h.size [F0]):=by
 unfold Anr at hp;refine cwf (l:=[_,_]) Tryz.func73 rfl rfl (AOv<|Ah4<|AOr ?_);obtain ⟨A7,A8⟩:=ifN hp;refine Azg (cI .i64) 2 APa Atu rfl trivial tt2 rfl rfl AOs A7 λA9 Ba Bb v9 h7 I8 E5 S6=>AO1<|AOx<|AOv<|AOr ?_;have Ai:=(Kst.k0 h).no2 E5 S6 I8;refine Ahw APa rfl (Ai.o2 p0).rd (AOr<|AOz<|AO0<|Anb 72057594037924032 (λx:(Int) × (LiI) × LnA × LnN × LvA=>(x.1,x.2.1)) ((0,(List.replicate (Int.toNat a1) ([]:List Int)),A9,Ba,Bb):(Int) × (LiI) × LnA × LnN × LvA) A8 (λx=>[(12,(.int .i64 x.1))]) (λx=>Ai.L.set 0<|aO2 (cI .i64) 61 2 x.2.2.1 x.2.2.2.1 x.2.2.2.2 v9 x.2.1) Ai ⟨rfl,trivial⟩ ?_);rintro ⟨Aa,Cj,Ck,Cm,Cn⟩ Co Cp Cq Ae Aj Bh;unfold Asg at Aj;refine AOv<|Aho rfl rfl (AOz<|AOx<|⟨_,rfl,λAk=>?_,λAk=>?_⟩)
 ·refine AO4<|q_t<|AOx<|AO0<|AOv<|AOr<|Ah4<|AOr<|AOr<|AOr ?_;obtain ⟨Bi,Bj⟩:=ifN<|Ahx Aj Ak;refine Axl (c:=(cI .i64)) (a:=0) APd Arq rfl rfl (λ_=>rfl) rfl trivial tt2 rfl rfl AOs Bi λCr Ct Cu Bl Bm Bn Bo=>?_;have Ab:=Ae.no Bm (Anx Bn Bo) Bl;obtain ⟨Cv,Ar,Bp⟩:=AOw Bj;refine Aii APa rfl (Ab.o2 p1) rfl Ar λCw Cx Bq Cy Cz=>Az7 Ahb (Ab.o2 p1) Ar Bq rfl rfl (Ab.o p0) (Ab.dj p0 p1 AOs) λC0 Br Bt Bu=>Apu<|AOr<|AOr ?_;have Au:=Ab.m2 p0 p1 AOs Bt Br λz hz=> .inl<|Bu z hz;obtain ⟨C1,Av,Bv⟩:=AOw Bp;refine Ai2 APa Ahb (Au.o2 p1) Av λ_ C2 Bw=>AOr ?_;obtain ⟨C3,Bx,By⟩:=AOw Bv;refine As1 (m:=Aa) Au p1 APd AO9 Bw Av Bx (λ_=>rfl) λ_ C4 Ac=>Apu<|AOr<|Anj rfl rfl (AO1 ?_);obtain ⟨Bz,Aw,Ax⟩:=AOw By;refine Aqt 2198754820224 (λx:(Int)=>[(7,(.int .i64 x))]) (λx h'=>( x)=Bz/\Kst h h' (Apc Ac.L [1])) ?_ ?_
  ·refine AOv<|AOr<|AOr ?_;cases Ay:a2
   ·refine Alo 29 false<|APb rfl (AOr<|Aol 35 false<|APb rfl (AOz<|Ahs rfl (AO4<|q_t ?_)));exact ⟨((w64<|Aa - 1):(Int)),⟨AOu<|Aoy Aw Ay,Ac.sel [1] AOs⟩,rfl,trivial⟩
   ·refine Ag8 29 true<|AOr<|Ag8 29 true<|AOr<|Ag8 29 true<|Anj rfl rfl (Ag8 29 true<|Aiy rfl rfl (Ag7 rfl (AOr ?_)));have Az:=ifT Aw Ay;by_cases Af:Aa=(w64<|a1 - 1)
    ·have A3:=ifT Az Af;rw [decide_eq_true Af];refine Ag8 35 true<|AOr<|Ag8 35 true<|An0 rfl rfl (Ag7 rfl (AOz<|⟨_,rfl,λAm=>?_,λAm=>?_⟩))
     ·refine Ag6<|AOr<|Anj rfl rfl (AO1 ?_);exact ⟨((w64<|Aa - 2):(Int)),⟨AOu<|Ahx A3 Am,Ac.sel [1] AOs⟩,rfl,trivial⟩
     ·refine AO4<|q_t ?_;exact ⟨((w64<|Aa - 1):(Int)),⟨AOu<|Ahy A3 Am,Ac.sel [1] AOs⟩,rfl,trivial⟩
    ·rw [decide_eq_false Af];refine Aol 35 false<|APb rfl (AOz<|Ahs rfl (AO4<|q_t ?_));exact ⟨((w64<|Aa - 1):(Int)),⟨AOu<|ifF Az Af,Ac.sel [1] AOs⟩,rfl,trivial⟩
  rintro B1 C5 C6 ⟨B3,Ag⟩;subst B3;refine AOv<|AOr<|Auh rfl rfl (AOz<|⟨_,rfl,λAo=>?_,λAo=>?_⟩)
  ·refine Ana<|AOr<|AOr ?_;obtain ⟨C7,A4,B4⟩:=AOw<|Ahx Ax Ao;refine Ai2 APa Ahb (Ag.o2 p0) A4 λ_ C8 B5=>AOr<|AOr<|AOr ?_;obtain ⟨C9,B6,B7⟩:=AOw B4;refine Ai2 APa Ahb (Ag.o2 p0) B6 λ_ Da B8=>AOr ?_;obtain ⟨Db,B9,Ca⟩:=AOw B7;refine As1 (m:=Aa) Ag p0 APd AO9 B5 A4 B9 (λ_=>rfl) λ_ Dc Cb=>?_;obtain ⟨Dd,Cd,Ce⟩:=AOw Ca;obtain ⟨De,Cf,Cg⟩:=AOw Ce;refine As1 (m:=B1) Cb p0 APd AO9 B8 Cd Cf (λ_=>rfl) λ_ Df Ch=>Ahh<|q_b<|q_t<|Ag6<|Ahp rfl rfl (AOr<|AOz ?_);exact ⟨(_,_,_,_,_),(AOu Cg).symm,Ch,rfl,trivial⟩
  ·refine AO4<|q_b<|q_t<|Ag6<|Ahp rfl rfl (AOr<|AOz ?_);exact ⟨(_,_,_,_,_),(AOu<|Ahy Ax Ao).symm,Ag,rfl,trivial⟩
 ·refine Ahf<|Ahg<|Ahg<|Aim<|q_t<|AOv<|AOr<|AO1<|AO6 ?_;obtain rfl:=AOu<|Bh _ (AOu<|Ahy Aj Ak).symm;exact ⟨_,AO7,Ae.x,_,_,_,_,rfl,(Ae.o2 p0),Ae.s.sel [0] AOs⟩
def Apx (fuel:Nat) (a3:LiI):Option Bool:=
 (Ak6 fuel a3).bind λx5=>(Ajs fuel x5).bind λAc=>if Ac=0 then (Aig fuel x5).bind λAd=>(Ar4 fuel 10000).bind λAe=>(A81 fuel Ad Ae).bind λAf=>some (decide (Af<=0)) else some false
theorem A06 {r:Bool} (H2:Ajx (cI .i64) h Ad a3) (hp:Apx fuel a3=some r):Ahq Tryz.prog 76 #[Ad] h (λx h'=>Ext h h'/\x= .bool r):=by
 unfold Apx at hp;refine cwf (l:=[_]) Tryz.func76 rfl rfl (AOv<|Ah4<|AOr ?_);have K0:=Kst.k0 h;obtain ⟨x5,Aj,Ak⟩:=AOw hp;refine Aus K0 (Aqo (H2.ext K0.x) Aj) λA3 A4 A5 A6 h9 E8 Ag=>Ah4<|AOr ?_;obtain ⟨Am,Ao,Ah⟩:=AOw Ak;refine Aj5 Ag (Ap8 (Ag.o2 p0).rd Ao) λA9 Ba Ab=>Aiy rfl rfl (AOr ?_);by_cases Aa:Am=0
 ·rw [decide_eq_true Aa];refine Ag8 9 true<|AOr<|Ag8 9 true ?_;obtain ⟨Bb,Ap,Aq⟩:=AOw<|ifT Ah Aa;refine Au8 Ab (Ajt (Ab.o2 p0).rd Ap) λBc Be Bf Ar=>Ag8 9 true ?_;obtain ⟨Bg,Au,Av⟩:=AOw Aq;refine Au8 Ar (Arc Au) λBh Bi Bj Ac=>Ag8 9 true ?_;obtain ⟨Bl,Aw,Ax⟩:=AOw Av;refine Aj5 Ac (A7r (Ac.z p1).2 (Ac.z p0).2 Aw) λBm Bn Ay=>Ag8 9 true<|A3s rfl rfl (Ag7 rfl (AO1<|AO6 ?_));obtain rfl:=AOu Ax;exact ⟨_,AO7,Ay.x,rfl⟩
 ·rw [decide_eq_false Aa];refine Ald 9 false<|APb rfl (AO1<|AO6 ?_);obtain rfl:=AOu<|ifF Ah Aa;exact ⟨_,AO7,Ab.x,rfl⟩
def Atc (fuel:Nat) (Ab Aa:Int):Option ((Int × Int) ⊕ Int):=
 (A5f fuel Aa).bind λAc=>if ¬ Ac=0 then (Aln fuel Ab Aa).bind λAd=>some (.inl (Aa,Ad)) else some<|.inr Ab
def Apy (fuel:Nat) (a1 a5:Int):Option Int:=
 (BFb fuel a1).bind λAc=>(BFb fuel a5).bind λAd=>(iter (λs=>Atc fuel s.1 s.2) fuel (Ac,Ad)).bind (λ(Ae:Int)=>some Ae)
theorem A07 {Aq:Value} {Au:Value} {r:Int} (H3:ZZ h Aq a1) (H7:ZZ h Au a5) (hp:Apy fuel a1 a5=some r):Ahq Tryz.prog 212 #[Aq,Au] h (λx h'=>Ext h h'/\ ∃ (x0:Value),x=x0/\ZZ h' x0 r):=by
 unfold Apy at hp;obtain ⟨Bj,rfl,Ax⟩:=H3.cs;obtain ⟨Bl,rfl,Ay⟩:=H7.cs;refine cwf (l:=[_,_]) Tryz.func212 rfl rfl (AOv<|Ao1 (Kst.k0 h) Bj λb9 Cp Cq Bm=>Ao1 Bm Bl λCr Ct Cu Bn=>Aj3 Bn [.bool false,.slice none 0 0] Amo λCv Ak Cw Ab=>AOz<|AOx ?_);have Am:UpT [] Ak Ak:=UpT.start all_nil;refine A03 (B:=λh'=>UpT [] Ak h') 4 [⟨5,129,[.bool false,.slice none 0 0]⟩,⟨6,129,[.bool false,.slice none 0 0]⟩] (λ_ _ U E=>U.thenE E) AO5 Am (BDk rfl rfl Amo rfl Amo rfl (λ_ _ U E=>U.thenE E))<|h_l rfl (Avq (Ab.zx Ax) Am (Ab.b p2)<|Ahh<|h_e rfl λCx Az=>?_);have A3:=Ab.e Az;obtain ⟨Bo,Bp,Bq⟩:=AOw hp;refine Am3 A3 (Am.thenE Az) (BDq (A3.zx Ax).2 Bp) λA4 Cy Br A5 A6=>Ahh ⟨Br,?_⟩;refine h_l rfl (Avq (A5.zx Ay) A6 (Ab.b p1)<|Ahh<|h_e rfl λCz A7=>?_);have A8:=A5.e A7;obtain ⟨Bt,Bu,Bv⟩:=AOw Bq;refine Am3 A8 (A6.thenE A7) (BDq (A8.zx Ay).2 Bu) λA9 C0 Bw Bx By=>Ahh ⟨Bw,?_⟩;refine A7q λBz Ba=>BPs λB1 B3 Bb Bc B4 B5 B6 C1 C2=>?_;have Be:=Bx.e Ba;have Ae:=((Ab.nb2 (By.thenE Ba).ext (BDl B5 B6 Bb.lt Bc.lt B4) Bb Bc).az (Be.z p1)).az (Be.z p0);refine Ai5 A4 Aip (cZ.klen<|Ae.z p1) (cZ.klen<|Ahd Bz) rfl rfl (cZ.one<|Ae.z p1) (Ae.b p2) λB7 B8 B9=>?_;have Af:=Ae.sb p2 B9 B8 rfl;refine Ai5 A9 Aip (cZ.klen<|Af.z p0) (cZ.klen<|Ahd B7) rfl rfl (cZ.one<|Af.z p0) (Af.b p3) λC3 Ca Cb=>AOz<|AOx<|AO0 ?_;have Ao:=(Af.sb p3 Cb Ca rfl).sel [0,1,2,3,4] AOs;dsimp only [Apc,As8] at Ao;refine Anb 260096 (λx:(Int) × LvA × (Int) × LvA=>(x.1,x.2.2.1)) ((Bo,A4,Bt,A9):(Int) × LvA × (Int) × LvA) Bv (λx=>[]) (λx=>(((Ao.L.set 1<|aZ x.2.1 x.1).set 0 (aZ x.2.2.2 x.2.2.1)).set 2 (aB 129 B1 x.2.1)).set 3 (aB 129 B3 x.2.2.2)) Ao trivial ?_;rintro ⟨C4,C5,C6,Cd⟩ C7 C8 C9 Ag Bf Ce;unfold Atc at Bf;refine AOx<|AOv<|Asb (Ag.z p0) (Ag.b p3) ?_;obtain ⟨Da,Cf,Bg⟩:=AOw Bf;refine Aj5 Ag (A4k (Ag.z p0).2 Cf) λAh Db Aa=>Ajq rfl rfl (AOz<|⟨_,rfl,λAp=>?_,λAp=>?_⟩)
 ·refine AO4<|q_t<|AO0<|Aiz (λh'=>UpT [] Ah h') AO5 ?_;have Ai:UpT [] Ah Ah:=UpT.start all_nil;refine Avq (Aa.z p0) Ai (Aa.b p3)<|Avq (Aa.z p1) Ai (Aa.b p2)<|Avq (Aa.z p0) Ai (Aa.b p3) ?_;obtain ⟨Dc,Cg,Ch⟩:=AOw<|Ahx Bg Ap;refine Am3 Aa Ai (Awc (Aa.z p1).2 (Aa.z p0).2 Cg) λCi Dd De Ac Df=>Ai5 Cd Aip (cZ.klen<|Ac.z p1) (cZ.klen<|Ac.z p2) rfl rfl (cZ.one<|Ac.z p1) (Ac.b p3) λDg Cj Ck=>?_;have Ad:=Ac.sb p3 Ck Cj rfl;refine Ai5 Ci Aip (cZ.klen<|Ad.z p0) (cZ.klen<|Ad.z p1) rfl rfl (cZ.one<|Ad.z p0) (Ad.b p4) λDh Cm Cn=>Ahh<|q_b<|q_t ?_;exact ⟨(_,_,_,_),(AOu Ch).symm,(Ad.sb p4 Cn Cm rfl).sel [0,1,3,4,5] AOs,trivial⟩
 ·refine Ahf<|Ahg<|Ahg<|Aim<|q_t<|AOv<|Asb (Aa.z p1) (Aa.b p2)<|An1 Aa p4 (Ahd Ah) (Aa.z p1) λDi Aj=>AOz<|AO6 ?_;obtain rfl:=AOu<|Ce _ (AOu<|Ahy Bg Ap).symm;exact ⟨_,Ai1 Aip (cZ.klen<|Aj.z p1) rfl (Aj.b p4),Aj.x,_,rfl,(Aj.z p1).2⟩
def Aoi (fuel:Nat) (a1 a5:Int):Option ((Int × Int) × Bool):=
 (A5f fuel a5).bind λAf=>if Af=0 then some ((0,0),false) else (((A5f fuel a5).bind λAg=>if Ag < 0 then (BBp fuel a1).bind λAh=>(BBp fuel a5).bind λAi=>some (Ah,Ai) else some (a1,a5)):Option (Int × Int)).bind (λ((Ac,Ad):Int × Int)=>(Apy fuel Ac Ad).bind λAe=>(Ajy fuel Ac Ae).bind λAj=>(Ajy fuel Ad Ae).bind λAk=>some ((Aj,Ak),true))
theorem Awd {A4:Value} {A5:Value} {r:((Int × Int) × Bool)} (H3:ZZ h A4 a1) (H7:ZZ h A5 a5) (hp:Aoi fuel a1 a5=some r):Ahq Tryz.prog 201 #[A4,A5] h (λx h'=>Ext h h'/\ ∃ (x0:Value),x= .tuple #[x0,.bool r.2]/\A6a h' x0 r.1.1 r.1.2):=by
 unfold Aoi at hp;obtain ⟨A7,rfl,Am⟩:=H3.cs;obtain ⟨A8,rfl,Ab⟩:=H7.cs;refine cwf (l:=[_,_]) Tryz.func201 rfl rfl (AOv<|Ao1 (Kst.k0 h) A7 λb9 Cq Cr Bo=>Ao1 Bo A8 λBp Ct Cu Bq=>Aj3 Bq [.bool false,.slice none 0 0,.bool false,.slice none 0 0] Axo λCv Cw Cx Ao=>AO1<|AOx<|AOv<|Asb (Ao.zx Ab) (Ao.b p1) ?_);obtain ⟨Cy,Br,A9⟩:=AOw hp;refine Aj5 Ao (A4k (Ao.zx Ab).2 Br) λAg Cz Ad=>Aiy rfl rfl (AOz<|⟨_,rfl,λAu=>?_,λAu=>?_⟩)
 ·refine AOv<|Akh (BDm )<|Ai5 ([Value.bool false,Value.slice none 0 0] ++ [Value.bool false,Value.slice none 0 0]) An3 (Aje (Ahd Ag)<|Ahd Ag) (Aje (Ahd Ag)<|Ahd Ag) rfl rfl (At3 (Ahd Ag)<|Ahd Ag) (Ad.b p0) λAp Bt Bu=>AO1<|AO6<|Ag9 ?_;have Ba:=Ad.sb p0 Bu Bt rfl;obtain rfl:=AOu<|Ahx A9 Au;exact ⟨_,A4c An3 (Aje (Ahd Ap)<|Ahd Ap) rfl (Ba.b p0),Ba.x,_,rfl,⟨_,_,rfl,(Ahd Ap),(Ahd Ap)⟩⟩
 ·refine AO4<|q_t ?_;obtain ⟨Bv,Bw,Bx⟩:=AOw<|Ahy A9 Au;refine Aqt 260096 (λx:(Int) × LvA × (Int) × LvA=>[]) (λx h'=>( (x.1,x.2.2.1))=Bv/\Kst h h' (aZ x.2.1 x.1 :: aZ x.2.2.2 x.2.2.1 :: ((Ad.L.set 2<|aB 129 b9 x.2.1).set 1 (aB 129 Bp x.2.2.2)))) ?_ ?_
  ·refine AOv<|Asb (Ad.zx Ab) (Ad.b p1) ?_;obtain ⟨C0,By,Bb⟩:=AOw Bw;refine Aj5 Ad (A4k (Ad.zx Ab).2 By) λAv C1 Ae=>Aho rfl rfl (AOz<|⟨_,rfl,λAw=>?_,λAw=>?_⟩)
   ·refine Aiz (λh'=>UpT [] Av h') AO5 ?_;have Bc:UpT [] Av Av:=UpT.start all_nil;refine Avq (Ae.zx Am) Bc (Ae.b p2) ?_;obtain ⟨Bz,B1,B3⟩:=AOw<|Ahx Bb Aw;refine Am3 Ae Bc (A94 (Ae.zx Am).2 B1) λBe C2 C3 Ax Bf=>Avq (Ax.zx Ab) Bf (Ae.b p1) ?_;obtain ⟨B4,B5,B6⟩:=AOw B3;refine Am3 Ax Bf (A94 (Ax.zx Ab).2 B5) λBg C4 C5 Ai C6=>Ai5 Be Aip (cZ.klen<|Ai.z p1) (cZ.klen<|Ai.zx Am) rfl rfl (cZ.one<|Ai.z p1) (Ai.b p4) λC7 B7 B8=>?_;have Aj:=Ai.sb p4 B8 B7 rfl;refine Ai5 Bg Aip (cZ.klen<|Aj.z p0) (cZ.klen<|Aj.zx Ab) rfl rfl (cZ.one<|Aj.z p0) (Aj.b p3) λC8 B9 Ca=>AOz ?_;exact ⟨((Bz,Be,B4,Bg):(Int) × LvA × (Int) × LvA),⟨AOu B6,(Aj.sb p3 Ca B9 rfl).sel [1,0,2,3,4] AOs⟩,trivial⟩
   ·refine AO4<|q_t ?_;have Bh:=Ae.az<|Ae.zx Am;exact ⟨((a1,A7,a5,A8):(Int) × LvA × (Int) × LvA),⟨AOu<|Ahy Bb Aw,(Bh.az<|Bh.zx Ab).sel [1,0,2,3,4] AOs⟩,trivial⟩
  rintro ⟨C9,Da,Db,Dc⟩ Dd De ⟨Cb,Af⟩;subst Cb;refine AOv<|Asb (Af.z p0) (Af.b p4)<|Asb (Af.z p1) (Af.b p3) ?_;obtain ⟨Df,Cd,Ce⟩:=AOw Bx;refine Au8 Af (A07 (Af.z p0).2 (Af.z p1).2 Cd) λDg Dh Di Cf=>Aj3 Cf [.bool false,.slice none 0 0] Amo λDj Cg Dk Bi=>An1 Bi p0 (Ahd Cg) (Bi.z p1) λAy Aa=>AOz<|AOx<|Aiz (λh'=>UpT [] Ay h') AO5 ?_;have Az:UpT [] Ay Ay:=UpT.start all_nil;refine Avq (Aa.z p2) Az (Aa.b p6)<|Avq (Aa.z p1) Az (Aa.b p0) ?_;obtain ⟨Dl,Ch,Ci⟩:=AOw Ce;refine Am3 Aa Az (Ap2 (Aa.z p2).2 (Aa.z p1).2 Ch) λCj Do Dp Ak A3=>Avq (Ak.z p4) A3 (Aa.b p5)<|Avq (Ak.z p2) A3 (Aa.b p0) ?_;obtain ⟨Dq,Ck,Cm⟩:=AOw Ci;refine Am3 Ak A3 (Ap2 (Ak.z p4).2 (Ak.z p2).2 Ck) λCn Bj Dr Ac Ds=>Akh (A2x (Ac.z p1)<|Ac.z p0)<|Ai5 (Cj ++ Cn) An3 (Aje (Ac.z p1)<|Ac.z p0) (Aje (Ahd Bj)<|Ahd Bj) rfl rfl (At3 (Ac.z p1)<|Ac.z p0) (Ac.b p6) λDt Co Cp=>AO1<|AO6 ?_;have Ah:=Ac.sb p6 Cp Co rfl;obtain rfl:=AOu Cm;exact ⟨_,A4c An3 (Aje (Ah.z p1)<|Ah.z p0) rfl (Ah.b p6),Ah.x,_,rfl,⟨_,_,rfl,(Ah.z p1),(Ah.z p0)⟩⟩
def Atx (fuel:Nat) (a1:Int):Option (Int × Int):=
 (Azi fuel a1).bind λAb=>(Ar4 fuel 1).bind λAc=>some (Ab,Ac)
theorem Azu {r:(Int × Int)} (H3:ZZ h Ad a1) (hp:Atx fuel a1=some r):Ahq Tryz.prog 213 #[Ad] h (λx h'=>Ext h h'/\ ∃ (x0:Value),x=x0/\A6a h' x0 r.1 r.2):=by
 unfold Atx at hp;obtain ⟨Aj,rfl,Ag⟩:=H3.cs;refine cwf (l:=[_]) Tryz.func213 rfl rfl (AOv<|Ao1 (Kst.k0 h) Aj λb5 h6 E8 Ak=>Aj3 Ak [.bool false,.slice none 0 0,.bool false,.slice none 0 0] Axo λA4 A5 A6 Ac=>Apu<|Asb (Ac.zx Ag) (Ac.b p1) ?_);obtain ⟨A7,Am,Ao⟩:=AOw hp;refine Au8 Ac (A02 (Ac.zx Ag).2 Am) λAp A8 A9 Aq=>?_;obtain ⟨Ba,Ar,Au⟩:=AOw Ao;refine Au8 Aq (Arc Ar) λAv Ah Bb Aa=>Akh (A2x (Aa.z p1)<|Aa.z p0)<|Ai5 (Ap ++ Av) An3 (Aje (Aa.z p1)<|Aa.z p0) (Aje (Ahd Ah)<|Ahd Ah) rfl rfl (At3 (Aa.z p1)<|Aa.z p0) (Aa.b p2) λBc Aw Ax=>AOz<|AO6 ?_;have Ab:=Aa.sb p2 Ax Aw rfl;obtain rfl:=AOu Au;exact ⟨_,Ai1 An3 (Aje (Ab.z p1)<|Ab.z p0) rfl (Ab.b p2),Ab.x,_,rfl,⟨_,_,rfl,(Ab.z p1),(Ab.z p0)⟩⟩
def Aty (fuel:Nat) (a1:Int):Option (Int × Int):=
 (Ar4 fuel a1).bind λx9=>(Atx fuel x9).bind λAa=>some (Aa.1,Aa.2)
theorem Azv {r:(Int × Int)} (hp:Aty fuel a1=some r):Ahq Tryz.prog 202 #[(.int .i64 a1)] h (λx h'=>Ext h h'/\ ∃ (x0:Value),x=x0/\A6a h' x0 r.1 r.2):=by
 unfold Aty at hp;refine cwf (l:=[_]) Tryz.func202 rfl rfl (AOv<|Aj3 (Kst.k0 h) [.bool false,.slice none 0 0,.bool false,.slice none 0 0] Axo λb2 h3 E5 K8=>Apu<|AOr ?_);obtain ⟨x9,Ah,Ai⟩:=AOw hp;refine Au8 K8 (Arc Ah) λA5 A6 A7 Ae=>?_;obtain ⟨A8,Aj,Ak⟩:=AOw Ai;refine Aqy rfl (Azu (Ae.z p0).2 Aj) λA9 Af Am Ao=>?_;obtain ⟨Ba,rfl,Ap⟩:=Ao;obtain ⟨Aq,Ar,rfl,Au,Av⟩:=Ap;have Aa:=((Ae.e Am).az Au).az Av;refine Ai5 (Aq ++ Ar) An3 (Aje (Aa.z p1)<|Aa.z p0) (Aje (Ahd Af)<|Ahd Af) rfl rfl (At3 (Aa.z p1)<|Aa.z p0) (Aa.b p3) λBb Aw Ax=>AOz<|AO6 ?_;have Ab:=Aa.sb p3 Ax Aw rfl;obtain rfl:=AOu Ak;exact ⟨_,Ai1 An3 (Aje (Ab.z p1)<|Ab.z p0) rfl (Ab.b p3),Ab.x,_,rfl,⟨_,_,rfl,(Ab.z p1),(Ab.z p0)⟩⟩
def Ajn (fuel:Nat) (a3 a5:Int):Option (Int × Int):=
 (Aoi fuel a3 a5).bind λ(Aa,Ae)=>if (!Ae)=true then (Aty fuel 0).bind λAb=>some (Ab.1,Ab.2) else some (Aa.1,Aa.2)
theorem Anc {Ak:Value} {a3:Int} {r:(Int × Int)} (H2:A6a h Ak a3 a5) (hp:Ajn fuel a3 a5=some r):Ahq Tryz.prog 183 #[Ak] h (λx h'=>Ext h h'/\ ∃ (x0:Value),x=x0/\A6a h' x0 r.1 r.2):=by
 unfold Ajn at hp;obtain ⟨Aq,Ar,rfl,H2z0,H2z1⟩:=H2;refine cwf (l:=[_]) Tryz.func183 rfl rfl (AOv<|Ao1 (Kst.k0 h) (Aq ++ Ar) λb7 h8 Br Ay=>Aj3 Ay [.bool false,.slice none 0 0,.bool false,.slice none 0 0] Axo λBt Bu Bv Ab=>Apu<|Ank (fs:=2) A6j AO5 AOs rfl (Apd Aq Aip (cZ.klen<|Ab.zx H2z0) rfl ((Ab.b p1).aggL) (Ank (fs:=2) A2w AO5 AOs rfl (Apd Ar Aip (cZ.klen<|Ab.zx H2z1) rfl ((Ab.b p1).aggR (cZ.klen<|Ab.zx H2z0)) ?_))));obtain ⟨⟨Bw,Bx⟩,Az,Ag⟩:=AOw hp;dsimp only at Ag;refine Aqy rfl (Awd (Ab.zx H2z0).2 (Ab.zx H2z1).2 Az) λBy Bz A3 A4=>?_;obtain ⟨B1,rfl,A5⟩:=A4;obtain ⟨Ah,Ai,rfl,A6,A7⟩:=A5;refine AOr<|Ait rfl rfl (Ait rfl rfl (Aj3 (((Ab.e A3).az A6).az A7) [.bool false,.slice none 0 0,.bool false,.slice none 0 0] Axo λB3 Au B4 Ac=>Ai5 (Ah ++ Ai) An3 (Aje (Ac.z p2)<|Ac.z p1) (Aje (Ahd Au)<|Ahd Au) rfl rfl (At3 (Ac.z p2)<|Ac.z p1) (Ac.b p0) λAv A8 A9=>AO1<|AOx<|AOv<|AOr<|Akg rfl (AOz ?_)));have Aa:=Ac.sb p0 A9 A8 rfl;refine ⟨_,rfl,λAj=>?_,λAj=>?_⟩
 ·refine AOv ?_;obtain ⟨B5,Ba,Bb⟩:=AOw<|ifT Ag Aj;refine Aqy rfl (Azv Ba) λB6 Aw Bc Be=>?_;obtain ⟨B7,rfl,Bf⟩:=Be;obtain ⟨Bg,Bh,rfl,Bi,Bj⟩:=Bf;have Ad:=((Aa.e Bc).az Bi).az Bj;refine Ai5 (Bg ++ Bh) An3 (Aje (Ad.z p1)<|Ad.z p0) (Aje (Ahd Aw)<|Ahd Aw) rfl rfl (At3 (Ad.z p1)<|Ad.z p0) (Ad.b p5) λB8 Bl Bm=>AOz<|AO6<|Ag9 ?_;have Ae:=Ad.sb p5 Bm Bl rfl;obtain rfl:=AOu Bb;exact ⟨_,Ai1 An3 (Aje (Ae.z p1)<|Ae.z p0) rfl (Ae.b p5),Ae.x,_,rfl,⟨_,_,rfl,(Ae.z p1),(Ae.z p0)⟩⟩
 ·refine AO4<|q_t<|AOv<|Apd (Ah ++ Ai) An3 (Aje (Aa.z p2)<|Aa.z p1) rfl ((Aa.b p0).agg) (Ai5 (Ah ++ Ai) An3 (Aje (Aa.z p2)<|Aa.z p1) (Aje (Ahd Av)<|Ahd Av) rfl rfl (At3 (Aa.z p2)<|Aa.z p1) (Aa.b p3) λB9 Bn Bo=>AOz<|AO6 ?_);have Af:=Aa.sb p3 Bo Bn rfl;obtain rfl:=AOu<|Aoy Ag Aj;exact ⟨_,Ai1 An3 (Aje (Af.z p2)<|Af.z p1) rfl (Af.b p3),Af.x,_,rfl,⟨_,_,rfl,(Af.z p2),(Af.z p1)⟩⟩
def Am6 (fuel:Nat) (a1 a5:Int):Option (Int × Int):=
 (Ajn fuel a1 a5).bind λAa=>some (Aa.1,Aa.2)
theorem Ax3 {r:(Int × Int)} (H3:ZZ h Af a1) (H7:ZZ h Ah a5) (hp:Am6 fuel a1 a5=some r):Ahq Tryz.prog 128 #[Af,Ah] h (λx h'=>Ext h h'/\ ∃ (x0:Value),x=x0/\A6a h' x0 r.1 r.2):=by
 unfold Am6 at hp;obtain ⟨Ap,rfl,Ad⟩:=H3.cs;obtain ⟨Aq,rfl,Ae⟩:=H7.cs;refine cwf (l:=[_,_]) Tryz.func128 rfl rfl (AOv<|Ao1 (Kst.k0 h) Ap λb9 Ba Bb Ar=>Ao1 Ar Aq λBc Be Bf Au=>Aj3 Au [.bool false,.slice none 0 0,.bool false,.slice none 0 0] Axo λBg Bh Bi Aa=>Apu<|Asb (Aa.zx Ad) (Aa.b p2)<|Asb (Aa.zx Ae) (Aa.b p1)<|Akh (A2x (Aa.zx Ad)<|Aa.zx Ae) ?_);obtain ⟨Bj,Av,Aw⟩:=AOw hp;refine Aqy rfl (Anc ⟨_,_,rfl,(Aa.zx Ad),(Aa.zx Ae)⟩ Av) λBl Ak Ax Ay=>?_;obtain ⟨Bm,rfl,Az⟩:=Ay;obtain ⟨A3,A4,rfl,A5,A6⟩:=Az;have Ab:=((Aa.e Ax).az A5).az A6;refine Ai5 (A3 ++ A4) An3 (Aje (Ab.z p1)<|Ab.z p0) (Aje (Ahd Ak)<|Ahd Ak) rfl rfl (At3 (Ab.z p1)<|Ab.z p0) (Ab.b p2) λBn A7 A8=>AOz<|AO6 ?_;have Ac:=Ab.sb p2 A8 A7 rfl;obtain rfl:=AOu Aw;exact ⟨_,Ai1 An3 (Aje (Ac.z p1)<|Ac.z p0) rfl (Ac.b p2),Ac.x,_,rfl,⟨_,_,rfl,(Ac.z p1),(Ac.z p0)⟩⟩
def Ard (fuel:Nat):Option (Int × Int):=
 (Ar4 fuel 1).bind λx8=>(Ar4 fuel 2).bind λAb=>some (x8,Ab)
theorem A0c {r:(Int × Int)} (hp:Ard fuel=some r):Ahq Tryz.prog 182 #[] h (λx h'=>Ext h h'/\ ∃ (x0:Value),x=x0/\A6a h' x0 r.1 r.2):=by
 unfold Ard at hp;refine cwf (l:=[]) Tryz.func182 rfl rfl (AOv<|Aj3 (Kst.k0 h) [.bool false,.slice none 0 0,.bool false,.slice none 0 0] Axo λb1 h2 E4 K7=>Apu ?_);obtain ⟨x8,Af,Ag⟩:=AOw hp;refine Au8 K7 (Arc Af) λAh Aw Ax Ai=>?_;obtain ⟨Ay,Aj,Ak⟩:=AOw Ag;refine Au8 Ai (Arc Aj) λAm Ad Az Aa=>Akh (A2x (Aa.z p1)<|Aa.z p0)<|Ai5 (Ah ++ Am) An3 (Aje (Aa.z p1)<|Aa.z p0) (Aje (Ahd Ad)<|Ahd Ad) rfl rfl (At3 (Aa.z p1)<|Aa.z p0) (Aa.b p2) λA3 Ao Ap=>AOz<|AO6 ?_;have Ab:=Aa.sb p2 Ap Ao rfl;obtain rfl:=AOu Ak;exact ⟨_,Ai1 An3 (Aje (Ab.z p1)<|Ab.z p0) rfl (Ab.b p2),Ab.x,_,rfl,⟨_,_,rfl,(Ab.z p1),(Ab.z p0)⟩⟩
def Ar5 (fuel:Nat) (a3 a5 a9 Ag:Int):Option (Int × Int):=
 (Ajn fuel a3 a5).bind λAa=>(Ajn fuel a9 Ag).bind λAb=>(Ayn fuel Aa.1 Ab.2).bind λAh=>(Ayn fuel Ab.1 Aa.2).bind λAi=>(BE7 fuel Ah Ai).bind λAj=>(Ayn fuel Aa.2 Ab.2).bind λAk=>(Aoi fuel Aj Ak).bind λ(Ac,Am)=>some (Ac.1,Ac.2)
theorem A08 {Bh:Value} {a3:Int} {Bl:Value} {Bn:Int} {r:(Int × Int)} (H2:A6a h Bh a3 a5) (H8:A6a h Bl a9 Bn) (hp:Ar5 fuel a3 a5 a9 Bn=some r):Ahq Tryz.prog 181 #[Bh,Bl] h (λx h'=>Ext h h'/\ ∃ (x0:Value),x=x0/\A6a h' x0 r.1 r.2):=by
 unfold Ar5 at hp;obtain ⟨Bp,Bq,rfl,H2z0,H2z1⟩:=H2;obtain ⟨Br,Bt,rfl,H8z0,H8z1⟩:=H8;refine cwf (l:=[_,_]) Tryz.func181 rfl rfl (AOv<|Ao1 (Kst.k0 h) (Bp ++ Bq) λD0 D1 D2 Cj=>Ao1 Cj (Br ++ Bt) λD3 D4 D5 Ck=>Aj3 Ck [.bool false,.slice none 0 0,.bool false,.slice none 0 0] Axo λD6 Ao D7 Ac=>AOz<|AOx ?_);have Ap:UpT [] Ao Ao:=UpT.start all_nil;refine A03 (B:=λh'=>UpT [] Ao h') 4 [⟨5,158,[.bool false,.slice none 0 0,.bool false,.slice none 0 0]⟩,⟨6,158,[.bool false,.slice none 0 0,.bool false,.slice none 0 0]⟩] (λ_ _ U E=>U.thenE E) AO5 Ap (BDk rfl rfl Axo rfl Axo rfl (λ_ _ U E=>U.thenE E))<|h_l rfl (Ao4 (Bp ++ Bq) An3 (Aje (Ac.zx H2z0)<|Ac.zx H2z1) rfl Ap (λh' hb=>((Ac.b p2).ext hb.ext).agg) (Ahh<|h_e rfl λD8 Bu=>?_));have Aq:=Ap.thenE Bu;have Ar:=Ac.e Bu;obtain ⟨D9,Cm,Cn⟩:=AOw hp;refine Aj1 Aq (λ_ E=>Aq.thenE E) rfl (Anc ⟨_,_,rfl,(Ar.zx H2z0),(Ar.zx H2z1)⟩ Cm) λEa Eb Au Co=>?_;obtain ⟨Ec,rfl,Cp⟩:=Co;have Bv:=Aq.thenE Au;obtain ⟨Bw,Av,rfl,Cq,Cr⟩:=Cp;have Aw:=((Ar.e Au).az Cq).az Cr;refine Ahh ⟨Au,?_⟩;refine h_l rfl (Ao4 (Br ++ Bt) An3 (Aje (Aw.zx H8z0)<|Aw.zx H8z1) rfl Bv (λh' hb=>((Ac.b p1).ext hb.ext).agg) (Ahh<|h_e rfl λEd Bx=>?_));have Ax:=Bv.thenE Bx;have Ay:=Aw.e Bx;obtain ⟨Ee,Ct,Cu⟩:=AOw Cn;refine Aj1 Ax (λ_ E=>Ax.thenE E) rfl (Anc ⟨_,_,rfl,(Ay.zx H8z0),(Ay.zx H8z1)⟩ Ct) λEf Eg Az Cv=>?_;obtain ⟨Eh,rfl,Cw⟩:=Cv;have Cx:=Ax.thenE Az;obtain ⟨By,A3,rfl,Cy,Cz⟩:=Cw;refine Ahh ⟨Az,?_⟩;refine A7q λBz B1=>BPs λEi Ej B3 B4 C0 C1 C2 Ek El=>?_;have Aj:=(((Ay.e Az).az Cy).az Cz).e B1;have Ad:=((((Ac.nb2 (Cx.thenE B1).ext (BDl C1 C2 B3.lt B4.lt C0) B3 B4).az (Aj.z p3)).az (Aj.z p2)).az (Aj.z p1)).az (Aj.z p0);refine Ai5 (Bw ++ Av) An3 (Aje (Ad.z p3)<|Ad.z p2) (Aje (Ahd Bz)<|Ahd Bz) rfl rfl (At3 (Ad.z p3)<|Ad.z p2) (Ad.b p4) λB5 C3 C4=>?_;have Ae:=Ad.sb p4 C4 C3 rfl;refine Ai5 (By ++ A3) An3 (Aje (Ae.z p1)<|Ae.z p0) (Aje (Ahd B5)<|Ahd B5) rfl rfl (At3 (Ae.z p1)<|Ae.z p0) (Ae.b p5) λA4 C5 C6=>AOz<|AOx ?_;have Aa:=Ae.sb p5 C6 C5 rfl;have Ak:UpT [] A4 A4:=UpT.start all_nil;refine A03 (B:=λh'=>UpT [] A4 h') 20 [⟨7,158,[.bool false,.slice none 0 0,.bool false,.slice none 0 0]⟩] (λ_ _ U E=>U.thenE E) AO5 Ak (A95 rfl Axo rfl (λ_ _ U E=>U.thenE E))<|h_l rfl (Ank (fs:=2) A6j AO5 AOs rfl (Ahh<|h_l rfl (Ao4 Bw Aip (cZ.klen<|Aa.z p3) rfl Ak (λh' hb=>((Aa.b p4).ext hb.ext).aggL) (Ahh<|h_l rfl (Ank (fs:=2) A2w AO5 AOs rfl (Ahh<|h_l rfl (Ao4 A3 Aip (cZ.klen<|Aa.z p0) rfl Ak (λh' hb=>((Aa.b p5).ext hb.ext).aggR (cZ.klen<|Aa.z p1)) (Ahh<|h_e rfl λEm B6=>?_))))))));have A5:=Aa.e B6;obtain ⟨En,C7,C8⟩:=AOw Cu;refine Am3 A5 (Ak.thenE B6) (Axn (A5.z p3).2 (A5.z p0).2 C7) λEo Ep C9 Am A6=>Ahh ⟨C9,?_⟩;refine h_l rfl (Ank (fs:=2) A6j AO5 AOs rfl (Ahh<|h_l rfl (Ao4 By Aip (cZ.klen<|Am.z p2) rfl A6 (λh' hb=>((Aa.b p5).ext hb.ext).aggL) (Ahh<|h_l rfl (Ank (fs:=2) A2w AO5 AOs rfl (Ahh<|h_l rfl (Ao4 Av Aip (cZ.klen<|Am.z p3) rfl A6 (λh' hb=>((Aa.b p4).ext hb.ext).aggR (cZ.klen<|Am.z p4)) (Ahh<|h_e rfl λEr B7=>?_))))))));have A7:=Am.e B7;obtain ⟨Es,Da,Db⟩:=AOw C8;refine Am3 A7 (A6.thenE B7) (Axn (A7.z p2).2 (A7.z p3).2 Da) λEt Eu Dc Dd De=>Ahh ⟨Dc,?_⟩;refine h_e rfl λEv B8=>?_;have A8:=Dd.e B8;obtain ⟨Ew,Df,Dg⟩:=AOw Db;refine Am3 A8 (De.thenE B8) (BDh (A8.z p1).2 (A8.z p0).2 Df) λEy Ez Dh Ai A9=>Ahh ⟨Dh,?_⟩;refine h_l rfl (Ank (fs:=2) A2w AO5 AOs rfl (Ahh<|h_l rfl (Ao4 Av Aip (cZ.klen<|Ai.z p5) rfl A9 (λh' hb=>((Aa.b p4).ext hb.ext).aggR (cZ.klen<|Ai.z p6)) (Ahh<|h_l rfl (Ank (fs:=2) A2w AO5 AOs rfl (Ahh<|h_l rfl (Ao4 A3 Aip (cZ.klen<|Ai.z p3) rfl A9 (λh' hb=>((Aa.b p5).ext hb.ext).aggR (cZ.klen<|Ai.z p4)) (Ahh<|h_e rfl λFa B9=>?_))))))));have Ba:=Ai.e B9;obtain ⟨Fb,Di,Dj⟩:=AOw Dg;refine Am3 Ba (A9.thenE B9) (Axn (Ba.z p5).2 (Ba.z p3).2 Di) λFc Fd Dk Dl Do=>Ahh ⟨Dk,?_⟩;refine h_e rfl λFe Ca=>?_;have Bb:=Do.thenE Ca;have Bc:=Dl.e Ca;obtain ⟨⟨Ff,Fg⟩,Dp,Cb⟩:=AOw Dj;dsimp only at Cb;refine Aj1 Bb (λ_ E=>Bb.thenE E) rfl (Awd (Bc.z p1).2 (Bc.z p0).2 Dp) λFh Fi Be Dq=>?_;obtain ⟨Fj,rfl,Dr⟩:=Dq;have Ds:=Bb.thenE Be;obtain ⟨Bf,Bg,rfl,Dt,Du⟩:=Dr;refine Ahh ⟨Be,?_⟩;refine h_l rfl (AOr<|Ahh<|h_l rfl (Ait rfl rfl (Ahh<|h_l rfl (Ait rfl rfl (Ahh<|A7q λCd Ce=>BMj λFk Cf Dv Fl=>?_)))));have Af:=(((Bc.e Be).az Dt).az Du).e Ce;have Ag:=((((((Aa.nb (Ds.thenE Ce).ext (Anx Dv Cf.lt) Cf).az (Af.z p5)).az (Af.z p4)).az (Af.z p3)).az (Af.z p2)).az (Af.z p1)).az (Af.z p0);refine Ai5 (Bf ++ Bg) An3 (Aje (Ag.z p1)<|Ag.z p0) (Aje (Ahd Cd)<|Ahd Cd) rfl rfl (At3 (Ag.z p1)<|Ag.z p0) (Ag.b p6) λCg Dw Dx=>Ah4 ?_;have Ab:=Ag.sb p6 Dx Dw rfl;refine Apd (Bf ++ Bg) An3 (Aje (Ab.z p1)<|Ab.z p0) rfl ((Ab.b p6).agg) (Ai5 (Bf ++ Bg) An3 (Aje (Ab.z p1)<|Ab.z p0) (Aje (Ahd Cg)<|Ahd Cg) rfl rfl (At3 (Ab.z p1)<|Ab.z p0) (Ab.b p13) λFm Dy Dz=>AOz<|AO6 ?_);have Ah:=Ab.sb p13 Dz Dy rfl;obtain rfl:=AOu Cb;exact ⟨_,Ai1 An3 (Aje (Ah.z p1)<|Ah.z p0) rfl (Ah.b p13),Ah.x,_,rfl,⟨_,_,rfl,(Ah.z p1),(Ah.z p0)⟩⟩
def Aqp (fuel:Nat) (a3 a5:Int):Option Int:=
 (Ajn fuel a3 a5).bind λAa=>(Ajy fuel Aa.1 Aa.2).bind λAd=>some Ad
theorem Azw {a3 r:Int} (H2:A6a h Ae a3 a5) (hp:Aqp fuel a3 a5=some r):Ahq Tryz.prog 180 #[Ae] h (λx h'=>Ext h h'/\ ∃ (x0:Value),x=x0/\ZZ h' x0 r):=by
 unfold Aqp at hp;obtain ⟨Ai,Aj,rfl,H2z0,H2z1⟩:=H2;refine cwf (l:=[_]) Tryz.func180 rfl rfl (AOv<|Ao1 (Kst.k0 h) (Ai ++ Aj) λb7 h8 Bb Ar=>Aj3 Ar [.bool false,.slice none 0 0] Amo λBc Be Bf Ab=>Apu<|Apd (Ai ++ Aj) An3 (Aje (Ab.zx H2z0)<|Ab.zx H2z1) rfl ((Ab.b p1).agg) ?_);obtain ⟨Bg,Au,Av⟩:=AOw hp;refine Aqy rfl (Anc ⟨_,_,rfl,(Ab.zx H2z0),(Ab.zx H2z1)⟩ Au) λBh Bi Aw Ax=>?_;obtain ⟨Bj,rfl,Ay⟩:=Ax;obtain ⟨Ak,Am,rfl,Az,A3⟩:=Ay;refine Aj3 (((Ab.e Aw).az Az).az A3) [.bool false,.slice none 0 0,.bool false,.slice none 0 0] Axo λBl Ao Bm Ac=>Ai5 (Ak ++ Am) An3 (Aje (Ac.z p2)<|Ac.z p1) (Aje (Ahd Ao)<|Ahd Ao) rfl rfl (At3 (Ac.z p2)<|Ac.z p1) (Ac.b p0) λBn A4 A5=>Apu<|Ank (fs:=2) A6j AO5 AOs rfl ?_;have Aa:=Ac.sb p0 A5 A4 rfl;refine Apd Ak Aip (cZ.klen<|Aa.z p2) rfl ((Aa.b p0).aggL) (Ank (fs:=2) A2w AO5 AOs rfl (Apd Am Aip (cZ.klen<|Aa.z p1) rfl ((Aa.b p0).aggR (cZ.klen<|Aa.z p2)) ?_));obtain ⟨Bo,A6,A7⟩:=AOw Av;refine Au8 Aa (Ap2 (Aa.z p2).2 (Aa.z p1).2 A6) λBp A8 Bq Ap=>An1 Ap p4 (Ahd A8) (Ap.z p0) λBr Ad=>AOz<|AO6 ?_;obtain rfl:=AOu A7;exact ⟨_,Ai1 Aip (cZ.klen<|Ad.z p0) rfl (Ad.b p4),Ad.x,_,rfl,(Ad.z p0).2⟩
def Ans (fuel:Nat) (a3 a5:Int):Option Int:=
 (Ard fuel).bind λAa=>(Ar5 fuel a3 a5 Aa.1 Aa.2).bind λAb=>(Aqp fuel Ab.1 Ab.2).bind λAe=>some Ae
theorem Ayp {a3 r:Int} (H2:A6a h Ai a3 a5) (hp:Ans fuel a3 a5=some r):Ahq Tryz.prog 127 #[Ai] h (λx h'=>Ext h h'/\ ∃ (x0:Value),x=x0/\ZZ h' x0 r):=by
 unfold Ans at hp;obtain ⟨Ao,Ap,rfl,H2z0,H2z1⟩:=H2;refine cwf (l:=[_]) Tryz.func127 rfl rfl (AOv<|Ao1 (Kst.k0 h) (Ao ++ Ap) λb7 h8 Bm Av=>Aj3 Av [.bool false,.slice none 0 0] Amo λBn Af Bo Ab=>AOz<|AOx<|Aiz (λh'=>UpT [] Af h') AO5 ?_);have Ac:UpT [] Af Af:=UpT.start all_nil;refine Ao4 (Ao ++ Ap) An3 (Aje (Ab.zx H2z0)<|Ab.zx H2z1) rfl Ac (λh' hb=>((Ab.b p1).ext hb.ext).agg) ?_;obtain ⟨Bp,Aw,Ax⟩:=AOw hp;refine Aj1 Ac (λ_ E=>Ac.thenE E) rfl (A0c Aw) λBq Br Aq Ay=>?_;obtain ⟨Bt,rfl,Az⟩:=Ay;have Ag:=Ac.thenE Aq;obtain ⟨Bu,Bv,rfl,A3,A4⟩:=Az;have Aa:=((Ab.e Aq).az A3).az A4;obtain ⟨Bw,A5,A6⟩:=AOw Ax;refine Aj1 Ag (λ_ E=>Ag.thenE E) rfl (A08 ⟨_,_,rfl,(Aa.zx H2z0),(Aa.zx H2z1)⟩ ⟨_,_,rfl,(Aa.z p1),(Aa.z p0)⟩ A5) λBx By Ar A7=>?_;obtain ⟨Bz,rfl,A8⟩:=A7;have A9:=Ag.thenE Ar;obtain ⟨B1,B3,rfl,Ba,Bb⟩:=A8;have Ah:=((Aa.e Ar).az Ba).az Bb;obtain ⟨B4,Bc,Be⟩:=AOw A6;refine Am3 Ah A9 (Azw ⟨_,_,rfl,(Ah.z p1),(Ah.z p0)⟩ Bc) λBf Bg B5 Ad B6=>Ai5 Bf Aip (cZ.klen<|Ad.z p0) (cZ.klen<|Ahd Bg) rfl rfl (cZ.one<|Ad.z p0) (Ad.b p5) λB7 Bh Bi=>AOz<|AO6 ?_;have Ae:=Ad.sb p5 Bi Bh rfl;obtain rfl:=AOu Be;exact ⟨_,Ai1 Aip (cZ.klen<|Ae.z p0) rfl (Ae.b p5),Ae.x,_,rfl,(Ae.z p0).2⟩
def Amk (fuel:Nat) (a3:LiI) (a7:LiA) (a9:Int):Option Bool:=
 (Ak8 fuel a3 a9<|w64<|a9 - 1).bind λAc=>(Ar4 fuel 4).bind λAe=>(Ajj fuel a7<|w64<|a9 - 1).bind λAf=>(Ajj fuel a7<|w64<|a9 + 1).bind λAg=>(Ayn fuel Af Ag).bind λAh=>(Ayn fuel Ac Ac).bind λAi=>(BE7 fuel Ah Ai).bind λAj=>(Ayn fuel Ae Aj).bind λAk=>(Ar4 fuel 3).bind λAm=>(Ajj fuel a7 a9).bind λAo=>(Ajj fuel a7 a9).bind λAp=>(Ayn fuel Ao Ap).bind λAq=>(Ayn fuel Am Aq).bind λAr=>(A81 fuel Ak Ar).bind λAu=>some<|decide (0<=Au)
theorem Auz {Au:Value} {Aw:Value} {a7:LiA} {r:Bool} (H2:Ajx cZ h Au a3) (H6:SlC cZ h Aw a7) (hp:Amk fuel a3 a7 a9=some r):Ahq Tryz.prog 124 #[Au,Aw,(.int .i64 a9)] h (λx h'=>Ext h h'/\x= .bool r):=by
 unfold Amk at hp;refine cwf (l:=[_,_,_]) Tryz.func124 rfl rfl (AOv<|Ah4<|AOr<|AOr<|AOr<|Anj rfl rfl ?_);have K0:=Kst.k0 h;obtain ⟨Dg,Bm,Bn⟩:=AOw hp;refine Au8 K0 (Aq4 (H2.ext K0.x) Bm) λDh Di Dj Bo=>Aj3 Bo [.bool false,.slice none 0 0] Amo λDk Bp Dl A3=>An1 A3 p0 (Ahd Bp) (A3.z p1) λAe Ac=>AOz<|AOx ?_;have A4:UpT [] Ae Ae:=UpT.start all_nil;refine A03 (B:=λh'=>UpT [] Ae h') 15 [⟨8,129,[.bool false,.slice none 0 0]⟩] (λ_ _ U E=>U.thenE E) AO5 A4 (A95 rfl Amo rfl (λ_ _ U E=>U.thenE E))<|h_e rfl λDo A5=>?_;obtain ⟨Dp,Bq,Br⟩:=AOw Bn;refine Am3 (Ac.e A5) (A4.thenE A5) (Arc Bq) λDq Dr Bt Bu Bv=>Ahh ⟨Bt,?_⟩;refine h_l rfl (AOr<|Ahh<|h_l rfl (AOr<|Ahh<|h_l rfl (Anj rfl rfl (Ahh<|h_e rfl λDs A6=>?_))));have A7:=Bu.e A6;obtain ⟨Dt,Bw,Bx⟩:=AOw Br;refine Am3 A7 (Bv.thenE A6) (Ali (H6.ext A7.x) Bw) λDu Dv By Bz B1=>Ahh ⟨By,?_⟩;refine h_l rfl (AOr<|Ahh<|h_l rfl (AOr<|Ahh<|h_l rfl (Ahp rfl rfl (Ahh<|h_e rfl λDw A8=>?_))));have A9:=Bz.e A8;obtain ⟨Dx,B3,B4⟩:=AOw Bx;refine Am3 A9 (B1.thenE A8) (Ali (H6.ext A9.x) B3) λDy Dz B5 B6 B7=>Ahh ⟨B5,?_⟩;refine h_e rfl λD0 Ba=>?_;have Af:=B6.e Ba;obtain ⟨D1,B8,B9⟩:=AOw B4;refine Am3 Af (B7.thenE Ba) (Axn (Af.z p1).2 (Af.z p0).2 B8) λD2 D3 Ca Ag Ah=>Ahh ⟨Ca,?_⟩;refine h_l rfl (Avq (Ag.z p5) Ah (Ac.b p0)<|Ahh<|h_l rfl (Avq (Ag.z p5) Ah (Ac.b p0)<|Ahh<|h_e rfl λD4 Bb=>?_));have Ai:=Ag.e Bb;obtain ⟨D5,Cb,Cd⟩:=AOw B9;refine Am3 Ai (Ah.thenE Bb) (Axn (Ai.z p5).2 (Ai.z p5).2 Cb) λD6 D7 Ce Cf Cg=>Ahh ⟨Ce,?_⟩;refine h_e rfl λD8 Bc=>?_;have Aj:=Cf.e Bc;obtain ⟨D9,Ch,Ci⟩:=AOw Cd;refine Am3 Aj (Cg.thenE Bc) (BDh (Aj.z p1).2 (Aj.z p0).2 Ch) λEa Eb Cj Ck Cm=>Ahh ⟨Cj,?_⟩;refine h_e rfl λEc Be=>?_;have Ak:=Ck.e Be;obtain ⟨Ed,Cn,Co⟩:=AOw Ci;refine Am3 Ak (Cm.thenE Be) (Axn (Ak.z p5).2 (Ak.z p0).2 Cn) λCp Ee Cq Cr Ct=>Ahh ⟨Cq,?_⟩;refine A7q λCu Bf=>BMj λEf Bg Cv Eg=>?_;have Aa:=Cr.e Bf;have Ad:=(((((((Ac.nb (Ct.thenE Bf).ext (Anx Cv Bg.lt) Bg).az (Aa.z p6)).az (Aa.z p5)).az (Aa.z p4)).az (Aa.z p3)).az (Aa.z p2)).az (Aa.z p1)).az (Aa.z p0);refine Ai5 Cp Aip (cZ.klen<|Ad.z p0) (cZ.klen<|Ahd Cu) rfl rfl (cZ.one<|Ad.z p0) (Ad.b p7) λAm Cw Cx=>AOz<|AOx<|Aiz (λh'=>UpT [] Am h') AO5 ?_;have Ao:=Ad.sb p7 Cx Cw rfl;have Bh:UpT [] Am Am:=UpT.start all_nil;refine Avq (Ao.z p0) Bh (Ao.b p7) ?_;obtain ⟨Eh,Cy,Cz⟩:=AOw Co;refine Am3 Ao Bh (Arc Cy) λEi Ej Ek Bi C0=>AOr<|AOr ?_;obtain ⟨El,C1,C2⟩:=AOw Cz;refine Am3 Bi C0 (Ali (H6.ext Bi.x) C1) λEm En Eo Bj C3=>AOr<|AOr ?_;obtain ⟨Ep,C4,C5⟩:=AOw C2;refine Am3 Bj C3 (Ali (H6.ext Bj.x) C4) λEr Es Et Ap C6=>?_;obtain ⟨Eu,C7,C8⟩:=AOw C5;refine Am3 Ap C6 (Axn (Ap.z p1).2 (Ap.z p0).2 C7) λEv Ew Ey Aq C9=>?_;obtain ⟨Ez,Da,Db⟩:=AOw C8;refine Am3 Aq C9 (Axn (Aq.z p3).2 (Aq.z p0).2 Da) λFa Fb Fc Ar Dc=>?_;obtain ⟨Fd,Dd,De⟩:=AOw Db;refine A1m Ar Dc (A7r (Ar.z p5).2 (Ar.z p0).2 Dd) λFe Ff Df Fg=>Auh rfl rfl (AO1<|AO6 ?_);obtain rfl:=AOu De;exact ⟨_,AO7,Df.x,rfl⟩
def Ash (fuel:Nat) (a3:LiI) (x5:LiA) (Ab Aa:Int) (Ac:LiI):Option ((Int × LiI) ⊕ ((LiI × Bool) ⊕ LiI)):=
 if 0<=Aa then (Amy fuel a3 x5 Ab Aa).bind λAh=>if (!Ah)=true then (gI Ac Aa).bind λAf=>(Ak8 fuel a3 Ab Aa).bind λAi=>(Ajj fuel x5<|w64<|Aa + 1).bind λAj=>(Am6 fuel Ai Aj).bind λAg=>(Ans fuel Ag.1 Ag.2).bind λAk=>(BBp fuel Ak).bind λAm=>(gI Af Ab).bind λAo=>some (.inr<|.inl (sI Ac Aa<|sI Af Ab Am,true)) else some (.inl (w64<|Aa - 1,Ac)) else some<|.inr<|.inr Ac
def Asi (fuel:Nat) (a3:LiI) (x5:LiA) (Aa:Int) (Ae:LiI):Option ((Int × LiI) ⊕ ((LiI × Bool) ⊕ Unit)):=
 if Aa < (a3.length:Int) then (iter (λs=>Ash fuel a3 x5 Aa s.1 s.2) fuel (w64<|Aa - 1,Ae)).bind (λex=>match ex with | .inl Af=>(some<|.inr<|.inl Af) | .inr Ab=>if 0 < Aa then (Amk fuel a3 x5 Aa).bind λAg=>if (!Ag)=true then (gI Ab<|w64<|Aa - 1).bind λAh=>(gI Ab Aa).bind λAi=>some (.inr<|.inl (sI (sI Ab Aa Ah) (w64<|Aa - 1) Ai,true)) else some (.inl (w64<|Aa + 1,Ab)) else some<|.inl (w64<|Aa + 1,Ab)) else some<|.inr<|.inr ()
def Ao5 (fuel:Nat) (a3:LiI):Option (LiI × Bool):=
 (Akd fuel a3).bind λ(x5,x6)=>(Alh fuel (a3.length:Int)).bind λ(Ac,Af)=>(iter (λs=>Asi fuel a3 x5 s.1 s.2) fuel (0,Ac)).bind (λex=>match ex with | .inl Ad=>(some Ad) | .inr _=>some ([],false))
theorem A0d {A3:Value} {r:(LiI × Bool)} (H2:Ajx cZ h A3 a3) (hp:Ao5 fuel a3=some r):Ahq Tryz.prog 68 #[A3] h (λx h'=>Ext h h'/\ ∃ (x0:Value) (F0:List Nat) (Br:List LnA) (Bt:List Value),x= .tuple #[x0,.bool r.2]/\Aj0 cZ 146 129 h' F0 Br Bt x0 r.1/\Sp h' h.size [F0]):=by
 unfold Ao5 at hp;refine cwf (l:=[_]) Tryz.func68 rfl rfl (AOv<|Ahl<|Ah4<|AOr ?_);have K0:=Kst.k0 h;obtain ⟨⟨x5,x6⟩,Bu,A8⟩:=AOw hp;dsimp only at A8;refine Aqy rfl (Aqi (H2.ext K0.x) Bu) λDg Dh E9 Bw=>?_;obtain ⟨Di,Dj,rfl,Bx,By⟩:=Bw;refine AOr<|Ait rfl rfl (Ait rfl rfl (Ahl<|Ah4<|AOr<|Ahw Ai6 rfl H2 ?_));obtain ⟨⟨Bz,Dk⟩,B1,A9⟩:=AOw A8;dsimp only at A9;refine Aqy rfl (At6 B1) λDl Do B3 B4=>?_;obtain ⟨Ba,B5,B6,B7,rfl,B8,B9⟩:=B4;refine AOr<|Ait rfl rfl (Ait rfl rfl (Ahl<|AO1<|AOx<|AOv<|AOr<|Ahw Ai6 rfl H2 (AOr<|AOz<|AO0 ?_)));have Bb:=(K0.no E9 By Bx).no2 B3 B9 B8;refine Anb 9671406556917033389261580 (λx:(Int) × (LiI) × LnA × LnN × LvA=>(x.1,x.2.1)) ((0,Bz,B5,B6,B7):(Int) × (LiI) × LnA × LnN × LvA) A9 (λx=>[(23,(.int .i64 x.1))]) (λx=>Bb.L.set 0<|aO2 cZ 146 129 x.2.2.1 x.2.2.2.1 x.2.2.2.2 Ba x.2.1) Bb ⟨rfl,trivial⟩ ?_;rintro ⟨Bc,Ca,Cb,Cd,Ce⟩ Dp Dq Dr Ag Ah Ai;unfold Asi at Ah;refine AOv<|Aho rfl rfl (AOz<|AOx<|⟨_,rfl,λAj=>?_,λAj=>?_⟩)
 ·refine AO4<|q_t<|AOx<|AO0<|AOv<|AOr<|AO1<|AOx<|AOv<|AOr<|Anj rfl rfl (AO1<|AO0<|Anb 72057593769493004 (λx:(Int) × (LiI) × LnA × LnN × LvA=>(x.1,x.2.1)) (((w64<|Bc - 1),Ca,Cb,Cd,Ce):(Int) × (LiI) × LnA × LnN × LvA) (Ahx Ah Aj) (λx=>[(9,(.int .i64 x.1))]) (λx=>Ag.L.set 0<|aO2 cZ 146 129 x.2.2.1 x.2.2.2.1 x.2.2.2.2 Ba x.2.1) Ag ⟨rfl,trivial⟩ ?_);rintro ⟨Be,Ds,Dt,Du,Dv⟩ Dw Dx Dy Aa Ak Bf;unfold Ash at Ak;refine AOx<|AOv<|AOr<|Auh rfl rfl (AOz<|⟨_,rfl,λAm=>?_,λAm=>?_⟩)
  ·refine AO4<|q_t<|AOx<|AO0<|AOv<|AOr<|AOr<|AOr<|AOr ?_;obtain ⟨Dz,Cf,Bg⟩:=AOw<|Ahx Ak Am;refine Aj5 Aa (Ava (H2.ext Aa.x) (Aa.o p1).rd Cf) λAo D0 Ac=>Akg rfl (AOz<|⟨_,rfl,λAp=>?_,λAp=>?_⟩)
   ·refine AOx<|Aiz (λh'=>UpT [] Ao h') AO5 ?_;have Bh:UpT [] Ao Ao:=UpT.start all_nil;refine AOr<|AOr ?_;obtain ⟨D1,Aq,Cg⟩:=AOw<|ifT Bg Ap;refine Aii Ai6 rfl (Ac.o2 p0) rfl Aq λD2 D3 D4 Ch Ci=>Ahk Alm rfl Bh (λh' hb=>AO8 Ci hb.ext) (AOr<|AOr<|AOr<|AOr ?_);obtain ⟨D5,Cj,Ck⟩:=AOw Cg;refine Am3 Ac Bh (Aq4 (H2.ext Ac.x) Cj) λD6 D7 D8 Bi Cm=>AOr<|AOr<|Ahp rfl rfl ?_;obtain ⟨D9,Cn,Co⟩:=AOw Ck;refine Am3 Bi Cm (Ali (Bi.o p2).rd Cn) λEa Eb Ec Ar Au=>?_;obtain ⟨Ed,Cp,Cq⟩:=AOw Co;refine Aj1 Au (λ_ E=>Au.thenE E) rfl (Ax3 (Ar.z p1).2 (Ar.z p0).2 Cp) λEe Ef Bj Cr=>?_;obtain ⟨Eg,rfl,Ct⟩:=Cr;have Cu:=Au.thenE Bj;obtain ⟨Eh,Ei,rfl,Cv,Cw⟩:=Ct;have Av:=((Ar.e Bj).az Cv).az Cw;obtain ⟨Ej,Cx,Cy⟩:=AOw Cq;refine Am3 Av Cu (Ayp ⟨_,_,rfl,(Av.z p1),(Av.z p0)⟩ Cx) λEk El Em Bl Cz=>?_;obtain ⟨En,C0,C1⟩:=AOw Cy;refine Am3 Bl Cz (A94 (Bl.z p0).2 C0) λEo Ep Er Ad Es=>?_;obtain ⟨Et,Bm,C2⟩:=AOw C1;refine Ain (m:=Be) Aj8 rfl (Ac.o2 p0) Ch Aq rfl Bm λEu C3=>Aon (m:=Be) (Azf Aip (cZ.klen<|Ad.z p0) rfl rfl (cZ.one<|Ad.z p0)) (Ad.o2 p6) C3 Aq Bm (Ad.z p0) λEv C4 C5=>Apu<|AOr<|Ahl<|AO1<|AO6<|Aiq<|Ag9<|Ag9<|Aiq<|Ag9<|Aiq<|Ag9<|Ag9<|Aiq<|Ag9 ?_;have Aw:=Ad.uO2 p6 C5 C4;obtain rfl:=AOu<|Ai _ (AOu<|Bf _ (AOu C2).symm).symm;exact ⟨_,Air,Aw.x,_,_,_,_,rfl,(Aw.o2 p6),Aw.s.sel [6] AOs⟩
   ·refine AO4<|q_b<|q_t<|Ag6<|AOr<|Anj rfl rfl (AO1 ?_);exact ⟨(_,_,_,_,_),(AOu<|Aoy Bg Ap).symm,Ac,rfl,trivial⟩
  ·refine Ahf<|Ahg<|Ahg<|Aim<|q_t<|AOv<|AOr<|An0 rfl rfl (AOr ?_);have Bn:=Bf _ (AOu<|Ahy Ak Am).symm;by_cases Af:0 < Bc
   ·rw [decide_eq_true Af];refine Ag8 58 true<|AOr<|Ag8 58 true<|AOr<|Ag8 58 true<|AOr<|Ag8 58 true ?_;obtain ⟨Ew,C6,Bo⟩:=AOw<|ifT Bn Af;refine Aj5 Aa (Auz (H2.ext Aa.x) (Aa.o p1).rd C6) λEy Ez Ae=>Ag8 58 true<|Akg rfl (Ag7 rfl (AOz<|⟨_,rfl,λAx=>?_,λAx=>?_⟩))
    ·refine AOx<|Ana<|AOr<|AOr<|AOr<|AOr<|Anj rfl rfl (AOr<|AOr<|Anj rfl rfl ?_);obtain ⟨Fa,Bp,C7⟩:=AOw<|ifT Bo Ax;refine Ai2 Ai6 Alm (Ae.o2 p0) Bp λ_ Fb C8=>AOr<|AOr ?_;obtain ⟨Fc,Bq,C9⟩:=AOw C7;refine Ai2 Ai6 Alm (Ae.o2 p0) Bq λ_ Fd Da=>Avk Ai6 Alm (Ae.o2 p0) Da C8 Bq Bp rfl rfl (λ_=>rfl) (λ_=>rfl) (λ_=>rfl) (λ_ _=>rfl) λFe Ff Fg Fh Fi Fj Db Dc Dd=>Apu<|AOr<|Ahl<|AO1<|AO6<|Aiq<|Ag9<|Ag9<|Aiq<|Ag9 ?_;have Ay:=Ae.uo2 p0 Dc Db Dd;obtain rfl:=AOu<|Ai _ (AOu C9).symm;exact ⟨_,Air,Ay.x,_,_,_,_,rfl,(Ay.o2 p0),Ay.s.sel [0] AOs⟩
    ·refine AO4<|q_b<|q_t<|Ag6<|Ahp rfl rfl (AOr<|AOz ?_);exact ⟨(_,_,_,_,_),(AOu<|Aoy Bo Ax).symm,Ae,rfl,trivial⟩
   ·rw [decide_eq_false Af];refine Ald 58 false<|APb rfl (AOz<|Ahs rfl (AO4<|q_b<|q_t<|Ag6<|Ahp rfl rfl (AOr<|AOz ?_)));exact ⟨(_,_,_,_,_),(AOu<|ifF Bn Af).symm,Aa,rfl,trivial⟩
 ·refine Ahf<|Ahg<|Ahg<|Aim<|q_t<|AOv<|Ahl<|AO1<|AO6 ?_;have Az:=Kst.anil2 cZ 146 129 Ag;obtain rfl:=AOu<|Ai _ (AOu<|Ahy Ah Aj).symm;exact ⟨_,Air,Az.x,_,_,_,_,rfl,(Az.o2 p0),Az.s.sel [0] AOs⟩
def Aq5 (fuel:Nat) (Aa Ab:LiI):Option ((LiI × LiI) ⊕ (LiI × LiI × Int)):=
 (Ao5 fuel Aa).bind λ(Ac,Ad)=>if (!Ad)=true then (An5 fuel Aa).bind λ(Ae,Ah)=>some (.inr (Ae,Ab,0)) else (Ak3 fuel Aa Ac).bind λAf=>(Aji fuel Ab Ac).bind λAg=>some<|.inl (Af,Ag)
def An6 (fuel:Nat) (a3:LiI):Option (LiI × LiI × Int):=
 (Ajs fuel a3).bind λx5=>if ¬ x5=0 then some ([],[],x5) else (Amz fuel a3).bind λAc=>if (!Ac)=true then some ([],[],7) else (Anq fuel a3).bind λAd=>(Alh fuel (a3.length:Int)).bind λ(Ae,Ag)=>(iter (λs=>Aq5 fuel s.1 s.2) fuel (Ad,Ae)).bind (λ(Af:(LiI × LiI × Int))=>some Af)
theorem Ay3 {Ao:Value} {r:(LiI × LiI × Int)} (H2:Ajx cZ h Ao a3) (hp:An6 fuel a3=some r):Ahq Tryz.prog 29 #[Ao] h (λx h'=>Ext h h'/\ ∃ (x0:Value) (F0:List Nat) (A7:List LnA) (A8:List Value) (x1:Value) (F1:List Nat) (A9:List LnA) (Ba:List Value),x= .tuple #[x0,x1,.int .i64 r.2.2]/\Aj0 (cI .i64) 61 2 h' F0 A7 A8 x0 r.1/\Aj0 cZ 146 129 h' F1 A9 Ba x1 r.2.1/\Sp h' h.size [F0,F1]):=by
 unfold An6 at hp;refine cwf (l:=[_]) Tryz.func29 rfl rfl (AOv<|Ahl<|Ahl<|AO1<|AOx<|AOv<|AOr ?_);have K0:=Kst.k0 h;obtain ⟨x5,Bb,Ax⟩:=AOw hp;refine Aj5 K0 (Ap8 (H2.ext K0.x) Bb) λh9 E8 Af=>Ah4<|AOr<|Ajq rfl rfl (AOz<|⟨_,rfl,λAg=>?_,λAg=>?_⟩)
 ·refine AOv<|AOr<|Ahl<|Ahl<|AO1<|AO6<|Ag9 ?_;have Ac:=Kst.anil2 cZ 146 129<|Kst.anil2 (cI .i64) 61 2 Af;obtain rfl:=AOu<|Ahx Ax Ag;exact ⟨_,Aro,Ac.x,_,_,_,_,_,_,_,_,rfl,(Ac.o2 p1),(Ac.o2 p0),Ac.s.sel [1,0] AOs⟩
 ·refine AO4<|q_t<|AOx<|AOv<|AOr ?_;obtain ⟨Ck,Bc,Ay⟩:=AOw<|Ahy Ax Ag;refine Aj5 Af (Avb (H2.ext Af.x) Bc) λCm Cn Ah=>Akg rfl (AOz<|⟨_,rfl,λAi=>?_,λAi=>?_⟩)
  ·refine AOv<|Ahl<|Ahl<|AO1<|AO6<|Ag9 ?_;have Ad:=Kst.anil2 cZ 146 129<|Kst.anil2 (cI .i64) 61 2 Ah;obtain rfl:=AOu<|ifT Ay Ai;exact ⟨_,Aro,Ad.x,_,_,_,_,_,_,_,_,rfl,(Ad.o2 p1),(Ad.o2 p0),Ad.s.sel [1,0] AOs⟩
  ·refine AO4<|q_t<|AOv<|AOr ?_;obtain ⟨Be,Bf,Bg⟩:=AOw<|Aoy Ay Ai;refine Aus Ah (Avr (H2.ext Ah.x) Bf) λBh Bi Bj Bl Co Cp Bm=>Ah4<|AOr<|Ahw Ai6 rfl H2 ?_;obtain ⟨⟨Bn,Cq⟩,Bo,Az⟩:=AOw Bg;dsimp only at Az;refine Aqy rfl (At6 Bo) λCr Ct Bp Bq=>?_;obtain ⟨Br,Bt,Bu,Bv,rfl,Bw,Bx⟩:=Bq;refine AOr<|Ait rfl rfl (Ait rfl rfl (Ahl<|AO1<|AO0 ?_));have A3:=Bm.no2 Bp Bx Bw;refine Anb 562949416558300 (λx:(LiI) × (Value) × LnA × LnN × LvA × (LiI) × (Value) × LnA × LnN × LvA=>(x.1,x.2.2.2.2.2.1)) ((Be,Bl,Bh,Bi,Bj,Bn,Br,Bt,Bu,Bv):(LiI) × (Value) × LnA × LnN × LvA × (LiI) × (Value) × LnA × LnN × LvA) Az (λx=>[(6,x.2.1),(7,x.2.2.2.2.2.2.1)]) (λx=>(A3.L.set 1<|aO2 cZ 146 129 x.2.2.1 x.2.2.2.1 x.2.2.2.2.1 x.2.1 x.1).set 0 (aO2 cZ 146 129 x.2.2.2.2.2.2.2.1 x.2.2.2.2.2.2.2.2.1 x.2.2.2.2.2.2.2.2.2 x.2.2.2.2.2.2.1 x.2.2.2.2.2.1)) A3 ⟨rfl,rfl,trivial⟩ ?_;rintro ⟨Cu,Cv,Cw,Cx,Cy,Cz,C0,C1,C2,C3⟩ C4 C5 C6 A4 A5 By;unfold Aq5 at A5;refine AO0<|AOv<|AOr ?_;obtain ⟨⟨C7,C8⟩,Bz,Aj⟩:=AOw A5;dsimp only at Aj;refine Aqy rfl (A0d (A4.o2 p1).rd Bz) λC9 Da B1 B3=>?_;obtain ⟨Db,Dc,Dd,De,rfl,B4,B5⟩:=B3;refine AOr<|Ait rfl rfl (Ait rfl rfl (Ahl<|AO1<|AOx<|AOv<|AOr<|Akg rfl (AOz ?_)));have Aa:=A4.no2 B1 B5 B4;refine ⟨_,rfl,λAk=>?_,λAk=>?_⟩
   ·refine AOv<|AOr ?_;obtain ⟨⟨Df,Dg⟩,B6,A6⟩:=AOw<|ifT Aj Ak;dsimp only at A6;refine Aqy rfl (Ay2 (Aa.o2 p2).rd B6) λDh Di B7 B8=>?_;obtain ⟨Dj,Dk,Dl,Do,rfl,B9,Ca⟩:=B8;refine AOr<|Ait rfl rfl (Ait rfl rfl (Ahl<|Ah4<|AOr<|AOr<|Ahl<|Ahl<|AO1<|AO6<|Ag9<|Aiq<|Ag9<|Aiq ?_));have Ae:=Aa.no2 B7 Ca B9;obtain rfl:=AOu<|By _ (AOu A6).symm;exact ⟨_,Aro,Ae.x,_,_,_,_,_,_,_,_,rfl,(Ae.o2 p0),(Ae.o2 p2),Ae.s.sel [0,2] AOs⟩
   ·refine AO4<|q_t<|Ag6<|AOr<|AOr ?_;obtain ⟨Dp,Cb,Cd⟩:=AOw<|Aoy Aj Ak;refine Aus Aa (Axp (Aa.o2 p2).rd (Aa.o2 p0).rd Cb) λDq Dr Ds Dt Du Dv Am=>AOr<|AOr ?_;obtain ⟨Dw,Ce,Cf⟩:=AOw Cd;refine Aus Am (Aqg (Am.o2 p2).rd (Am.o2 p1).rd Ce) λDx Dy Dz D0 D1 D2 Cg=>Ahl<|Ahl<|Ahh<|q_b<|q_t ?_;exact ⟨(_,_,_,_,_,_,_,_,_,_),(AOu Cf).symm,Cg.sel [0,1] AOs,rfl,rfl,trivial⟩
def Aqj (fuel:Nat) (a3:LiI) (x5:LiA) (Ab Aa:Int):Option (Int ⊕ (Bool ⊕ Unit)):=
 if Aa < Ab then (Amy fuel a3 x5 Ab Aa).bind λAe=>if (!Ae)=true then some (.inr<|.inl false) else some (.inl<|w64<|Aa + 1) else some<|.inr<|.inr ()
def Aqk (fuel:Nat) (a3:LiI) (x5:LiA) (Aa:Int):Option (Int ⊕ (Bool ⊕ Unit)):=
 if Aa < (a3.length:Int) then (iter (λs=>Aqj fuel a3 x5 Aa s) fuel 0).bind (λex=>match ex with | .inl Ad=>(some<|.inr<|.inl Ad) | .inr _=>if 0 < Aa then (Amk fuel a3 x5 Aa).bind λAe=>if (!Ae)=true then some (.inr<|.inl false) else some (.inl<|w64<|Aa + 1) else some<|.inl<|w64<|Aa + 1) else some<|.inr<|.inr ()
def Ant (fuel:Nat) (a3:LiI):Option Bool:=
 (Akd fuel a3).bind λ(x5,x6)=>(iter (λs=>Aqk fuel a3 x5 s) fuel 0).bind (λex=>match ex with | .inl Ac=>(some Ac) | .inr _=>some true)
theorem Ayq {Am:Value} {r:Bool} (H2:Ajx cZ h Am a3) (hp:Ant fuel a3=some r):Ahq Tryz.prog 63 #[Am] h (λx h'=>Ext h h'/\x= .bool r):=by
 unfold Ant at hp;refine cwf (l:=[_]) Tryz.func63 rfl rfl (AOv<|Ah4<|AOr ?_);have K0:=Kst.k0 h;obtain ⟨⟨x5,x6⟩,A3,Aq⟩:=AOw hp;dsimp only at Aq;refine Aqy rfl (Aqi (H2.ext K0.x) A3) λBe Bf E9 A5=>?_;obtain ⟨Bg,Bh,rfl,A6,A7⟩:=A5;refine AOr<|Ait rfl rfl (Ait rfl rfl (Ahl<|AO1<|AOx<|AOv<|AOr<|Ahw Ai6 rfl H2 (AOr<|AOz<|AO0 ?_)));have Ar:=K0.no E9 A7 A6;refine Aqu 274877890660 Aq (λx=>[(14,(.int .i64 x))]) (λx=>Ar.L) Ar ⟨rfl,trivial⟩ ?_;rintro A8 Bi Bj Bl Ad Ae Af;unfold Aqk at Ae;refine AOv<|Aho rfl rfl (AOz<|AOx<|⟨_,rfl,λAg=>?_,λAg=>?_⟩)
 ·refine AO4<|q_t<|AOx<|AO0<|AOv<|AOr<|AO1<|AOx<|AOv<|AO1<|AO0<|Aqu 268304452 (Ahx Ae Ag) (λx=>[(6,(.int .i64 x))]) (λx=>Ad.L) Ad ⟨rfl,trivial⟩ ?_;rintro Bm Bn Bo Bp Aa Ah Au;unfold Aqj at Ah;refine AOx<|AOv<|AOr<|AOr<|Aho rfl rfl (AOz<|⟨_,rfl,λAi=>?_,λAi=>?_⟩)
  ·refine AO4<|q_t<|AOx<|AO0<|AOv<|AOr<|AOr<|AOr<|AOr ?_;obtain ⟨Bq,A9,Av⟩:=AOw<|Ahx Ah Ai;refine Aj5 Aa (Ava (H2.ext Aa.x) (Aa.o p0).rd A9) λBr Bt Aw=>Akg rfl (AOz<|⟨_,rfl,λAj=>?_,λAj=>?_⟩)
   ·refine AOv<|AO1<|AO6<|Aiq<|Ag9<|Ag9<|Aiq<|Ag9<|Aiq<|Ag9<|Ag9<|Aiq<|Ag9 ?_;obtain rfl:=AOu<|Af _ (AOu<|Au _ (AOu<|ifT Av Aj).symm).symm;exact ⟨_,AO7,Aw.x,rfl⟩
   ·refine AO4<|q_b<|q_t<|Ag6<|AOr<|Ahp rfl rfl (AO1 ?_);exact ⟨_,(AOu<|Aoy Av Aj).symm,Aw,rfl,trivial⟩
  ·refine Ahf<|Ahg<|Ahg<|Aim<|q_t<|AOv<|AOr<|An0 rfl rfl (AOr ?_);have Ax:=Au _ (AOu<|Ahy Ah Ai).symm;by_cases Ac:0 < A8
   ·rw [decide_eq_true Ac];refine Ag8 30 true<|AOr<|Ag8 30 true<|AOr<|Ag8 30 true<|AOr<|Ag8 30 true ?_;obtain ⟨Bu,Ba,Ay⟩:=AOw<|ifT Ax Ac;refine Aj5 Aa (Auz (H2.ext Aa.x) (Aa.o p0).rd Ba) λBv Bw Az=>Ag8 30 true<|Akg rfl (Ag7 rfl (AOz<|⟨_,rfl,λAk=>?_,λAk=>?_⟩))
    ·refine AOv<|AO1<|AO6<|Aiq<|Ag9<|Ag9<|Aiq<|Ag9 ?_;obtain rfl:=AOu<|Af _ (AOu<|ifT Ay Ak).symm;exact ⟨_,AO7,Az.x,rfl⟩
    ·refine AO4<|q_b<|q_t<|Ag6<|Ahp rfl rfl (AOr<|AOz ?_);exact ⟨_,(AOu<|Aoy Ay Ak).symm,Az,rfl,trivial⟩
   ·rw [decide_eq_false Ac];refine Ald 30 false<|APb rfl (AOz<|Ahs rfl (AO4<|q_b<|q_t<|Ag6<|Ahp rfl rfl (AOr<|AOz ?_)));exact ⟨_,(AOu<|ifF Ax Ac).symm,Aa,rfl,trivial⟩
 ·refine Ahf<|Ahg<|Ahg<|Aim<|q_t<|AOv<|AO1<|AO6 ?_;obtain rfl:=AOu<|Af _ (AOu<|Ahy Ae Ag).symm;exact ⟨_,AO7,Ad.x,rfl⟩
def Ak4 (fuel:Nat) (a3:LiI):Option Bool:=
 (Ajf fuel a3).bind λ(x5,x6)=>if x6=true then (Ajs fuel x5).bind λAd=>if Ad=0 then (Amz fuel x5).bind λAe=>if Ae=true then (Ant fuel x5).bind λAf=>some Af else some false else some false else some false
theorem Axq {r:Bool} (H2:Ajx (cI .i64) h Af a3) (hp:Ak4 fuel a3=some r):Ahq Tryz.prog 26 #[Af] h (λx h'=>Ext h h'/\x= .bool r):=by
 unfold Ak4 at hp;refine cwf (l:=[_]) Tryz.func26 rfl rfl (AOv<|Ah4<|AOr ?_);have K0:=Kst.k0 h;obtain ⟨⟨x5,x6⟩,Aq,Ab⟩:=AOw hp;dsimp only at Ab;refine Aqy rfl (At5 (H2.ext K0.x) Aq) λA8 A9 E9 Au=>?_;obtain ⟨Ba,Bb,Bc,Be,rfl,Av,Aw⟩:=Au;refine AOr<|Ait rfl rfl (Ait rfl rfl (Ahl<|Ah4<|AOr<|AOr ?_));have Ac:=K0.no2 E9 Aw Av;cases Ai:x6
 ·refine Alb 11 false<|APb rfl (AOr<|Aol 16 false<|APb rfl (AOr<|Aol 20 false<|APb rfl (AO1<|AO6 ?_)));obtain rfl:=AOu<|Aoy Ab Ai;exact ⟨_,AO7,Ac.x,rfl⟩
 ·refine Ag8 11 true<|AOr<|Ag8 11 true ?_;obtain ⟨Ax,Ay,Aj⟩:=AOw<|ifT Ab Ai;refine Aj5 Ac (Ap8 (Ac.o2 p0).rd Ay) λBf Bg Ad=>Ag8 11 true<|Aiy rfl rfl (Ag7 rfl (AOr ?_));by_cases Aa:Ax=0
  ·rw [decide_eq_true Aa];refine Ag8 16 true<|AOr<|Ag8 16 true ?_;obtain ⟨Az,A3,Ak⟩:=AOw<|ifT Aj Aa;refine Aj5 Ad (Avb (Ad.o2 p0).rd A3) λBh Bi Ae=>Ag7 rfl (AOr ?_);cases Am:Az
   ·refine Aol 20 false<|APb rfl (AO1<|AO6 ?_);obtain rfl:=AOu<|Aoy Ak Am;exact ⟨_,AO7,Ae.x,rfl⟩
   ·refine Ag8 20 true<|AOr<|Ag8 20 true ?_;obtain ⟨Bj,A4,A5⟩:=AOw<|ifT Ak Am;refine Aj5 Ae (Ayq (Ae.o2 p0).rd A4) λBl Bm A6=>Ag7 rfl (AO1<|AO6 ?_);obtain rfl:=AOu A5;exact ⟨_,AO7,A6.x,rfl⟩
  ·rw [decide_eq_false Aa];refine Aol 16 false<|APb rfl (AOr<|Aol 20 false<|APb rfl (AO1<|AO6 ?_));obtain rfl:=AOu<|ifF Aj Aa;exact ⟨_,AO7,Ad.x,rfl⟩
end Go.Proofs.YtkakafabeobahaaGreatDoor
namespace Go.QF
open Go
def Ok {α:Type} (o:Option α) (Q:α->Prop):Prop:= ∃ r,o=some r/\Q r
theorem AOt {a:α} {Q:α->Prop} (h:Q a):Ok (some a) Q:=⟨a,rfl,h⟩
theorem AOy {β:Type} {o:Option α} {f:α->Option β} {Q:α->Prop} {R:β->Prop} (h:Ok o Q) (k:∀ x,Q x->Ok (f x) R):Ok (o.bind f) R:=by
 obtain ⟨x,rfl,hx⟩:=h;exact k x hx
theorem Aha {c:Prop} [Decidable c] {a b:Option α} {R:α->Prop} (ht:c->Ok a R) (hf: ¬ c->Ok b R):Ok (if c then a else b) R:=by
 grind
theorem Ah8 {c:Prop} [Decidable c] {a:Option α} {R:α->Prop} (hc:c) (h:Ok a R):Ok (if c then a else none) R:=by grind
theorem A6l {o:Option α} {Q R:α->Prop} (h:Ok o Q) (k:∀ x,Q x->R x):Ok o R:=let ⟨x,h1,h2⟩:=h;⟨x,h1,k x h2⟩
theorem ok_eq {o:Option α} {a:α} (h:Ok o (· =a)):o=some a:=by obtain ⟨x,h1,rfl⟩:=h;exact h1
theorem Aid {o:Option α} {a:α} (h:o=some a):Ok o (· =a):=⟨a,h,rfl⟩
theorem Ahj {β:Type} {L:List α} {i:Int} {n:Nat} {x:α} {f:α->Option β} {R:β->Prop} (hx:L[n]? =some x) (hi:i=n) (k:Ok (f x) R):Ok ((gI L i).bind f) R:=by
 subst hi;unfold gI;grind
theorem Ah3 {S E:Type} {body:S->Option (S ⊕ E)} {s0:S} (I:Nat->S->Prop) (n:Nat) {Q:E->Prop} (h0:I 0 s0) (hf:n < fuel) (hs:∀ i s,i<=n->I i s->Ok (body s) λr=>match r with | .inl s'=>i < n/\I (i + 1) s' | .inr e=>Q e):Ok (iter body fuel s0) Q:=by
 have key:∀ k fuel i s,n - i=k->k < fuel->i<=n->I i s->Ok (iter body fuel s) Q:=by
  intro k;induction k with
  | zero=>
    intro fuel i s hk hf hi hI;obtain ⟨r,hr,hq⟩:=hs i s hi hI;cases fuel with
    | zero=>omega
    | succ f=>
      cases r with
      | inl s'=>omega
      | inr e=>exact ⟨e,by simp [iter,hr],hq⟩
  | succ k ih=>
    intro fuel i s hk hf hi hI;obtain ⟨r,hr,hq⟩:=hs i s hi hI;cases fuel with
    | zero=>omega
    | succ f=>
      cases r with
      | inl s'=>
        obtain ⟨e,he,hQ⟩:=ih f (i + 1) s' AOq AOq AOq hq.2;exact ⟨e,by simp [iter,hr,he],hQ⟩
      | inr e=>exact ⟨e,by simp [iter,hr],hq⟩
 grind
theorem Aj7 (h1: -9223372036854775808<=x) (h2:x<=9223372036854775807):w64 x=x:=by
 show IntKind.i64.wrap x=x;rw [IntKind.wrap_i64];omega
theorem wk (h: -9223372036854775808<=x/\x<=9223372036854775807):w64 x=x:=Aj7 h.1 h.2
def Aju {α:Type} (m:Nat) (f:Nat->α):List α:=(List.range m).map f
theorem Ahz (m:Nat) (f:Nat->α):(Aju m f).length=m:=by simp [Aju]
theorem Ahu {m:Nat} {f:Nat->α} (h:j < m):(Aju m f)[j]? =some (f j):=by simp [Aju,h]
theorem Ai0 {m:Nat} {f g:Nat->α} (h:∀ j,j < m->f j=g j):Aju m f=Aju m g:=by
 unfold Aju;simp_all
theorem Alr {m:Nat} {f:Nat->α} {x:α}:(Aju m f).set j x=Aju m λc=>if c=j then x else f c:=by
 apply List.ext_getElem?;intro i;rw [List.getElem?_set];by_cases h:j=i
 ·subst h;simp only [if_true,Ahz];by_cases hj:j < m
  ·simp [hj,Ahu hj]
  ·simp [hj,Aju]
 ·rw [if_neg h];by_cases hi:i < m
  ·rw [Ahu hi,Ahu hi,if_neg λhe=>h he.symm]
  ·simp [Aju,hi]
theorem Avt (m:Nat) (f:Nat->α):Aju m f ++ [f m]=Aju (m + 1) f:=by simp [Aju,List.range_succ]
theorem Amp (m:Nat) (a:α):List.replicate m a=Aju m λ_=>a:=by
 apply List.ext_getElem?;intro i;by_cases h:i < m
 ·rw [Ahu h];simp [h]
 ·simp [Aju,h]
theorem Awe (r c:Nat) (F:Ahe):tab r c F=Aju r λi=>Aju c (F i):=rfl
theorem Ah0 {c:Nat} (h:i < r):(tab r c F)[i]? =some (Aju c<|F i):=Ahu (f:=λi=>Aju c<|F i) h
theorem BJr {c:Nat}:(tab r c F).set i (Aju c λq=>if q=j then x else F i q)=tab r c (Ajb F i λq=>if q=j then x else F i q):=Ar9
theorem Ai9 (L:List α) (n:Nat) (x:α):sI L (n:Int) x=L.set n x:=by simp [sI]
end Go.QF
namespace Go.QF
theorem Aut (F:Ahe) (i:Nat) (f g:Nat->Int):Ajb (Ajb F i f) i g=Ajb F i g:=by
 funext k;by_cases h:k=i
 ·subst h;rw [Ai3,Ai3]
 ·rw [Alp _ _ h,Alp _ _ h,Alp _ _ h]
theorem Avu (F:Ahe) (i:Nat):Ajb F i (F i)=F:=by
 funext k;by_cases h:k=i
 ·subst h;rw [Ai3]
 ·rw [Alp _ _ h]
theorem Avc (f g:Nat->Int) (n:Nat):psum (λi=>f i + g i) n=psum f n + psum g n:=by
 induction n with
 | zero=>rfl
 | succ n ih=>simp only [psum];rw [ih];omega
theorem Aov (c:Int) (f:Nat->Int) (n:Nat):psum (λi=>c * f i) n=c * psum f n:=by
 induction n with
 | zero=>simp [psum]
 | succ n ih=>simp only [psum];grind
theorem Ax8 (n:Nat):psum (λ_=>0) n=0:=by
 induction n with
 | zero=>rfl
 | succ n ih=>simp only [psum];rw [ih];rfl
theorem A82 (f:Ahe) (n m:Nat):psum (λi=>psum (λj=>f i j) m) n=psum (λj=>psum (λi=>f i j) n) m:=by
 induction n with
 | zero=>simp only [psum];exact (Ax8 m).symm
 | succ n ih=>
   simp only [psum]
   rw [ih,<- Avc]
theorem BJs {n:Nat} (ha:a < n) (h:∀ i,i≠a->g i=f i):psum g n=psum f n + (g a - f a):=by
 induction n with
 | zero=>omega
 | succ n ih=>
   simp only [psum]
   by_cases hn:a=n
   ·subst hn;rw [Ais (f:=g) (g:=f) λk hk=>h k AOq];omega
   grind
theorem Asj {n:Nat} (ha:a < n) (h:∀ i,i≠a->f i=0):psum f n=f a:=by
 rw [BJs (f:=λ_=>0) ha h,Ax8];omega
def Eqm (m a b:Int):Prop:=a % m=b % m
theorem Eqm.refl (m a:Int):Eqm m a a:=rfl
theorem Eqm.of_eq {m a b:Int} (h:a=b):Eqm m a b:=h ▸ rfl
theorem Eqm.trans {m a b c:Int} (h:Eqm m a b) (k:Eqm m b c):Eqm m a c:=Eq.trans h k
theorem Eqm.add {m a b c:Int} (h:Eqm m a b) (k:Eqm m c d):Eqm m (a + c) (b + d):=by
 unfold Eqm at *;rw [Int.add_emod,h,k,<- Int.add_emod]
theorem Eqm.sub {m a b c:Int} (h:Eqm m a b) (k:Eqm m c d):Eqm m (a - c) (b - d):=by
 unfold Eqm at *;rw [Int.sub_emod,h,k,<- Int.sub_emod]
theorem Eqm.mul {m a b c:Int} (h:Eqm m a b) (k:Eqm m c d):Eqm m (a * c) (b * d):=by
 unfold Eqm at *;rw [Int.mul_emod,h,k,<- Int.mul_emod]
theorem Eqm.mod (m a:Int):Eqm m (a % m) a:=Int.emod_emod_of_dvd a<|Int.dvd_refl m
theorem Eqm.psum {m:Int} {f g:Nat->Int} {n:Nat} (h:∀ i,i < n->Eqm m (f i) (g i)):Eqm m (psum f n) (psum g n):=by
 induction n with
 | zero=>rfl
 | succ n ih=>exact (ih λi hi=>h i AOq).add (h n AOq)
end Go.QF
namespace Go.QF
theorem BJt (hk:k<=r) (h:∀ i,k<=i->i < r->f i=0):psum f r=psum f k:=by
 induction r with
 | zero=>rw [Nat.le_zero.1 hk]
 | succ r ih=>
   rcases Nat.lt_or_ge k (r + 1) with h1 | h1
   ·simp only [psum]
    rw [ih AOq λi h2 h3=>h i h2 AOq,h r AOq AOq];omega
   ·obtain rfl:k=r + 1:=by omega
    rfl
def dl (a b:Nat):Int:=if a=b then 1 else 0
def skp (i a:Nat):Nat:=if a < i then a else a + 1
def usk (i r:Nat):Nat:=if r < i then r else r - 1
def sg (i:Nat):Int:=if i % 2=0 then 1 else -1
theorem BMu (i:Nat):sg (i + 1)= -sg i:=by unfold sg;omega
theorem BPx (i a:Nat):skp i a≠i:=by unfold skp;split <;> omega
theorem BJu {n:Nat} (ha:a < n):skp i a < n + 1:=by unfold skp;split <;> omega
theorem BMv (h:r≠i):skp i (usk i r)=r:=by
 unfold usk;split <;> (unfold skp;split <;> omega)
theorem BMw (h:skp i a=r):a=usk i r:=by unfold skp at h;unfold usk;grind
theorem BPy {n:Nat} (h:r≠i) (hi:i < n + 1) (hr:r < n + 1):usk i r < n:=by unfold usk;split <;> omega
theorem Aiu (F:Ahe) (a:Nat) (g:Nat->Int) (i j:Nat):Ajb F a g i j=if i=a then g j else F i j:=by
 unfold Ajb;split <;> rfl
theorem Asl (F:Ahe) (a b i j:Nat):Anp F a b i j=if i=b then F a j else if i=a then F b j else F i j:=by
 unfold Anp;rw [Aiu,Aiu]
def Amu (i:Nat) (F:Ahe):Ahe:=λa b=>F (skp i a)<|b + 1
def det:Nat->(Ahe)->Int
 | 0,_=>1
 | n + 1,F=>psum (λi=>sg i * F i 0 * det n (Amu i F))<|n + 1
theorem Ajc:∀ {n:Nat} {F G:Ahe},(∀ i j,i < n->j < n->F i j=G i j)->det n F=det n G:=by
 intro n
 induction n with
 | zero=>intro _ _ _;rfl
 | succ n ih=>
   intro F G h
   refine Ais λi hi=>?_
   rw [h i 0 hi AOq,ih (F:=Amu i F) (G:=Amu i G) λa b ha hb=>h _ _ (BJu ha) AOq]
theorem A3u (h:r≠i):Amu i (Ajb F r g)=Ajb (Amu i F) (usk i r) (λb=>g<|b + 1):=by
 funext a b;unfold Amu Ajb;by_cases ha:skp i a=r
 ·rw [if_pos ha,if_pos<|BMw ha]
 ·rw [if_neg ha,if_neg λhe=>ha<|by rw [he,BMv h]]
theorem A6b:Amu i (Ajb F i g)=Amu i F:=by
 funext a b;unfold Amu;rw [Alp _ _<|BPx i a]
theorem A09:∀ {n:Nat} {F:Ahe} {r:Nat} (u v:Nat->Int) (c d:Int),r < n->det n (Ajb F r λq=>c * u q + d * v q)=c * det n (Ajb F r u) + d * det n (Ajb F r v):=by
 intro n
 induction n with
 | zero=>omega
 | succ n ih=>
   intro F r u v c d hr
   simp only [det]
   rw [<- Aov,<- Aov,<- Avc]
   refine Ais λi hi=>?_
   by_cases h:r=i
   ·subst h
    simp only [A6b,Ai3]
    grind
   ·rw [A3u h,A3u h,A3u h,Alp _ _<|Ne.symm h,Alp _ _<|Ne.symm h,Alp _ _<|Ne.symm h,ih (λb=>u<|b + 1) (λb=>v<|b + 1) c d<|BPy h hi hr]
    grind
theorem BJv {n s:Nat} (hr:r < n) (hs:s < n) (hrs:r≠s) (h:∀ i,i < n->i≠r->i≠s->f i=0):psum f n=f r + f s:=by
 have h1:psum f n=psum (λi=>(if i=r then f r else 0) + (if i=s then f s else 0)) n:=Ais λi hi=>by
  grind
 rw [h1,Avc,Asj (f:=λi=>if i=r then f r else 0) hr λi hi=>if_neg hi,Asj (f:=λi=>if i=s then f s else 0) hs λi hi=>if_neg hi,if_pos rfl,if_pos rfl]
theorem BFc:∀ {n:Nat} {F:Ahe} {r:Nat},r + 1 < n->(∀ q,q < n->F r q=F (r + 1) q)->det n F=0:=by
 intro n
 induction n with
 | zero=>omega
 | succ n ih=>
   intro F r hr h
   simp only [det]
   rw [BJv (r:=r) (s:=r + 1) AOq AOq AOq]
   ·have:det n (Amu r F)=det n (Amu (r + 1) F):=Ajc λa b ha hb=>by
     unfold Amu skp
     grind
    rw [this,BMu,h 0 AOq]
    grind
   ·intro i hi h1 h2
    rcases Nat.lt_or_ge i r with hlt | hge
    ·rw [ih (F:=Amu i F) (r:=r - 1) AOq]
     ·simp
     ·intro q hq
      unfold Amu skp
      grind
    ·rw [ih (F:=Amu i F) (r:=r) AOq]
     ·simp
     ·intro q hq
      unfold Amu skp
      grind
theorem Ax9 {b:Nat} (h:a≠b) (u v:Nat->Int):Ajb (Ajb F a u) b v=Ajb (Ajb F b v) a u:=by
 funext k;unfold Ajb;grind
theorem BBu {n:Nat} {b:Nat} (ha:a < n) (hb:b < n) (hab:a≠b) (h0:∀ G:Ahe,G a=G b->det n G=0):det n (Anp F a b)= -det n F:=by
 have key:∀ u v:Nat->Int,det n (Ajb (Ajb F a u) b v)= -det n (Ajb (Ajb F a v) b u):=by
  intro u v;have h1:=h0 (Ajb (Ajb F a λq=>1 * u q + 1 * v q) b λq=>1 * u q + 1 * v q) (by rw [Ai3,Alp _ _ hab,Ai3]);rw [A09 u v 1 1 hb,Ax9 hab,Ax9 hab,A09 u v 1 1 ha,A09 u v 1 1 ha,Ax9<|Ne.symm hab,Ax9<|Ne.symm hab,Ax9<|Ne.symm hab,Ax9<|Ne.symm hab] at h1;have h2:=h0 (Ajb (Ajb F a u) b u) (by rw [Ai3,Alp _ _ hab,Ai3]);have h3:=h0 (Ajb (Ajb F a v) b v) (by rw [Ai3,Alp _ _ hab,Ai3]);omega
 unfold Anp;rw [key (F b)<|F a,Avu];rw [show Ajb F b (F b)=F from Avu F b]
theorem BFd:∀ {d n:Nat} {F:Ahe} {a:Nat},a + d + 1 < n->F a=F (a + d + 1)->det n F=0:=by
 intro d
 induction d with
 | zero=>intro n F a hn h;exact BFc hn λq _=>by rw [h]
 | succ d ih=>
   intro n F a hn h
   have h1:=BBu (n:=n) (F:=F) (a:=a + d + 1) (b:=a + d + 1 + 1) AOq AOq AOq λG hG=>BFc (r:=a + d + 1) AOq λq _=>congrFun hG q
   have h2:=ih (n:=n) (F:=Anp F (a + d + 1)<|a + d + 1 + 1) (a:=a) AOq (by rw [A2p,A4a _ AOq AOq,h];rfl)
   omega
theorem Avv {n:Nat} {b:Nat} (ha:a < n) (hb:b < n) (hab:a≠b) (h:F a=F b):det n F=0:=by
 rcases Nat.lt_or_ge a b with hlt | hge
 ·exact BFd (d:=b - a - 1) (a:=a) AOq (by grind)
 ·exact BFd (d:=a - b - 1) (a:=b) AOq (by grind)
theorem Ayr {n:Nat} {b:Nat} (ha:a < n) (hb:b < n) (hab:a≠b):det n (Anp F a b)= -det n F:=
 BBu ha hb hab λ_ h=>Avv ha hb hab h
theorem BGz {n:Nat} (u:Nat->Int) (c:Int) (hr:r < n):det n (Ajb F r λq=>c * u q)=c * det n (Ajb F r u):=by
 have:=A09 (F:=F) u (λ_=>0) c 0 hr;grind
theorem A4m {n:Nat} (hr:r < n) (h:∀ q,q < n->F r q=0):det n F=0:=by
 have:=BGz (F:=F) (F r) 0 hr;rw [Int.zero_mul] at this;rw [<- this]
 exact Ajc λi j hi hj=>by
  unfold Ajb
  split
  ·grind
  ·rfl
theorem Aui {n:Nat} {b:Nat} (ha:a < n) (hb:b < n) (hab:a≠b) (q:Int):det n (Ajb F a λx=>F a x + q * F b x)=det n F:=by
 have:=A09 (F:=F) (F a) (F b) 1 q ha;rw [Avu,Avv (F:=Ajb F a<|F b) ha hb hab<|by rw [Ai3,Alp _ _<|Ne.symm hab]] at this;grind
theorem A7s {n:Nat} (hr:r < n) (y:Nat->Int) (u:Ahe):∀ t,det n (Ajb F r λq=>psum (λk=>y k * u k q) t)=psum (λk=>y k * det n (Ajb F r<|u k)) t:=by
 intro t
 induction t with
 | zero=>exact A4m hr λq _=>by rw [Ai3];rfl
 | succ t ih=>
   have:=A09 (F:=F) (λq=>psum (λk=>y k * u k q) t) (u t) 1 (y t) hr
   simp only [psum]
   grind
theorem BJw {n:Nat} (hr:r < n) (y:Nat->Int):det n (Ajb F r λq=>psum (λk=>y k * F k q) n)=y r * det n F:=by
 rw [A7s hr y F n,Ais (g:=λk=>if k=r then y r * det n F else 0),Asj hr λi hi=>if_neg hi,if_pos rfl];intro k hk
 by_cases h:k=r
 ·subst h;rw [if_pos rfl,Avu]
 ·rw [if_neg h,Avv (F:=Ajb F r<|F k) hr hk (Ne.symm h)<|by rw [Ai3,Alp _ _ h]];simp
def Aom (f:Nat->Int):Nat->Int
 | 0=>1
 | n + 1=>Aom f n * f n
theorem A51 (f:Nat->Int) (n:Nat):Aom f (n + 1)=f 0 * Aom (λi=>f<|i + 1) n:=by
 induction n with
 | zero=>simp [Aom]
 | succ n ih=>rw [Aom,ih,Aom];grind
theorem A52 {n:Nat} (h:∀ i,i < n->f i=g i):Aom f n=Aom g n:=by
 induction n with
 | zero=>rfl
 | succ n ih=>rw [Aom,Aom,ih λi hi=>h i AOq,h n AOq]
theorem A0e:∀ {n:Nat} {F:Ahe},Zc n F n->det n F=Aom (λi=>F i i) n:=by
 intro n
 induction n with
 | zero=>intro _ _;rfl
 | succ n ih=>
   intro F h
   rw [A51,det,Ais (g:=λi=>if i=0 then F 0 0 * det n (Amu 0 F) else 0),Asj (a:=0) AOq λi hi=>if_neg hi,if_pos rfl]
   ·rw [ih (F:=Amu 0 F) (λc' i h1 h2 h3=>by unfold Amu skp;rw [if_neg AOq];exact h (c' + 1) (i + 1) AOq AOq AOq)]
    rfl
   ·intro i hi
    by_cases h0:i=0
    ·subst h0;simp [sg]
    ·rw [if_neg h0,h 0 i AOq AOq hi];simp
theorem A83:∀ {n:Nat} {F:Ahe},(∀ i j,i < j->j < n->F i j=0)->det n F=Aom (λi=>F i i) n:=by
 intro n
 induction n with
 | zero=>intro _ _;rfl
 | succ n ih=>
   intro F h
   rw [A51,det,Ais (g:=λi=>if i=0 then F 0 0 * det n (Amu 0 F) else 0),Asj (a:=0) AOq λi hi=>if_neg hi,if_pos rfl]
   ·rw [ih (F:=Amu 0 F) (λi j h1 h2=>by unfold Amu skp;grind)]
    rfl
   ·intro i hi
    by_cases h0:i=0
    ·subst h0;simp [sg]
    ·rw [if_neg h0,A4m (F:=Amu i F) (r:=0) AOq (λq hq=>by unfold Amu skp;grind)];simp
def A3g (F:Ahe) (c i:Nat) (q:Int):Ahe:=Anp (Ajb F c λx=>F c x + -q * F i x) c i
theorem BFe (F:Ahe) {c:Nat} (q:Int):A3g F c i q i=λx=>F c x + -q * F i x:=by
 unfold A3g;rw [A69,Ai3]
theorem BMx (F:Ahe) {c:Nat} (h:c≠i) (q:Int):A3g F c i q c=F i:=by
 unfold A3g;rw [A2p,Alp _ _<|Ne.symm h]
theorem BBv (F:Ahe) {c:Nat} (hc:k≠c) (hi:k≠i) (q:Int):A3g F c i q k=F k:=by
 unfold A3g;rw [A4a _ hc hi,Alp _ _ hc]
theorem BJx {n:Nat} {c:Nat} (H:Zc n F c) (hci:c < i) (hi:i < n):Zc n (A3g F c i q) c:=by
 intro c' k h1 h2 h3;by_cases hk:k=i
 ·subst hk;rw [BFe];simp [H c' c h1 h1 AOq,H c' k h1 h2 h3]
 ·by_cases Ad:k=c
  ·subst Ad;rw [BMx F hk];exact H c' i h1 AOq hi
  ·rw [BBv F Ad hk];exact H c' k h1 h2 h3
theorem BJy {c:Nat} (H:Zi F c i):Zi (A3g F c i q) c i:=by
 intro k h1 h2;rw [BBv F AOq AOq];exact H k h1 h2
theorem BFf {n:Nat} {P:(Ahe)->Prop} (hadd:∀ F a b q,a < n->b < n->a≠b->P (Ajb F a λx=>F a x + q * F b x)->P F) (hswap:∀ F a b,a < n->b < n->a≠b->P (Anp F a b)->P F) (htri:∀ F,Zc n F n->P F):∀ F,P F:=by
 have key:∀ d c,c + d=n-> ∀ F,Zc n F c->P F:=by
  intro d;induction d with
  | zero=>grind
  | succ d ih=>
    intro c hc
    have inner:∀ e i,i + e=n->c < i-> ∀ F,Zc n F c->Zi F c i->P F:=by
     intro e;induction e with
     | zero=>
        intro i hi hci F hF hz;obtain rfl:i=n:=by omega
        exact ih (c + 1) AOq F (BEp hF hz)
     | succ e ihe=>
       intro i hi hci
       have strong:∀ k F,(F i c).natAbs=k->Zc n F c->Zi F c i->P F:=by
        intro k;induction k using Nat.strongRecOn with
        | _ k ihk=>
          intro F hk hF hz
          by_cases h0:F i c=0
          ·exact ihe (i + 1) AOq AOq F hF<|BEo hz h0
          ·refine hadd F c i (-(F c c / F i c)) AOq AOq AOq<|hswap _ c i AOq AOq AOq ?_;refine ihk ((A3g F c i<|F c c / F i c) i c).natAbs ?_ (A3g F c i<|F c c / F i c) rfl (BJx hF hci AOq) (BJy hz);rw [BFe,<- hk];show (F c c + -(F c c / F i c) * F i c).natAbs < _;have h1:=Int.mul_ediv_add_emod (F c c)<|F i c;have h2:F c c + -(F c c / F i c) * F i c=F c c % F i c:=by grind
           rw [h2];have h3:=Int.emod_nonneg (F c c) h0;have h4:=Int.emod_lt (F c c) h0;omega
       grind
    exact λF hF=>inner (n - (c + 1)) (c + 1) AOq AOq F hF λk h1 h2=>by omega
 exact λF=>key n 0 AOq F λc' i h=>by omega
def Al7 (n:Nat) (A B:Ahe):Ahe:=λi j=>psum (λk=>A i k * B k j) n
theorem BJz {n:Nat} {B:Ahe} {b:Nat}:Al7 n (Ajb A a λx=>A a x + q * A b x) B=Ajb (Al7 n A B) a λx=>Al7 n A B a x + q * Al7 n A B b x:=by
 funext i j;unfold Al7 Ajb;by_cases h:i=a
 ·simp only [if_pos h];rw [<- Aov,<- Avc];grind
 simp_all
theorem BBw {n:Nat} {B:Ahe} {u:Nat->Int}:Al7 n (Ajb A a u) B=Ajb (Al7 n A B) a λx=>psum (λk=>u k * B k x) n:=by
 funext i j;unfold Al7 Ajb;by_cases h:i=a
 ·simp_all
 simp_all
theorem BG0 {n:Nat} {B:Ahe} {b:Nat}:Al7 n (Anp A a b) B=Anp (Al7 n A B) a b:=by
 unfold Anp;rw [BBw,BBw];rfl
theorem A6m {n:Nat} (A B:Ahe):det n (Al7 n A B)=det n A * det n B:=by
 refine BFf (n:=n) (P:=λA=>det n (Al7 n A B)=det n A * det n B) (λF a b q ha hb hab h=>?_) (λF a b ha hb hab h=>?_) (λF hF=>?_) A
 ·rw [BJz,Aui ha hb hab,Aui ha hb hab] at h;exact h
 ·rw [BG0,Ayr ha hb hab,Ayr ha hb hab] at h;grind
 ·rw [A0e hF]
  have key:∀ j,j<=n->det n (λi=>if i < j then Al7 n F B i else B i)=Aom (λi=>F i i) j * det n B:=by
   intro j
   induction j with
   | zero=>intro _;simp [Aom]
   | succ j ih=>
     intro hj
     rw [Aom,Int.mul_assoc,Int.mul_comm<|F j j,<- Int.mul_assoc,<- ih AOq,Int.mul_comm]
     rw [<- BJw (F:=λi=>if i < j then Al7 n F B i else B i) (r:=j) AOq (F j)]
     refine Ajc λi q hi hq=>?_
     unfold Ajb
     by_cases h:i=j
     ·subst h
      simp only [if_pos<|Nat.lt_succ_self i,if_pos]
      unfold Al7
      refine Ais λk hk=>?_
      by_cases hlt:k < i
      ·rw [hF k i AOq hlt hi];simp
      grind
     grind
  rw [<- key n (Nat.le_refl _)];exact Ajc λi j hi hj=>by rw [if_pos hi]
def trF (F:Ahe):Ahe:=λi j=>F j i
theorem BJ0 (n:Nat):det n dl=1:=by
 rw [A0e (λc' i h1 h2 h3=>by unfold dl;omega)]
 have:∀ k,Aom (λi=>dl i i) k=1:=by
  intro k
  induction k with
  | zero=>rfl
  | succ k ih=>rw [Aom,ih];simp [dl]
 exact this n
theorem BJ1 {n:Nat} (hj:j < n):psum (λk=>F i k * dl k j) n=F i j:=by
 rw [Asj hj (λk hk=>by unfold dl;grind)];simp [dl]
theorem BDr {n:Nat} (y:Nat->Int) (ha:a < n):det n (trF<|Ajb F a λx=>psum (λk=>y k * F k x) n)=det n (trF F) * det n (trF<|Ajb dl a y):=by
 rw [<- A6m];refine Ajc λi j hi hj=>?_;unfold Al7 trF Ajb
 by_cases h:j=a
 ·simp only [if_pos h];grind
 ·simp only [if_neg h];rw [Asj hj (λk hk=>by unfold dl;grind)];simp [dl]
theorem Ayt {n:Nat} (F:Ahe):det n (trF F)=det n F:=by
 refine BFf (n:=n) (P:=λF=>det n (trF F)=det n F) (λF a b q ha hb hab h=>?_) (λF a b ha hb hab h=>?_) (λF hF=>?_) F
 ·rw [Aui ha hb hab] at h;rw [<- h];have h1:=BDr (n:=n) (F:=F) (a:=a) (λk=>dl k a + q * dl k b) ha
  have h2:det n (trF<|Ajb dl a λk=>dl k a + q * dl k b)=1:=by
   rw [<- BJ0 n,<- Aui (F:=dl) hb ha (Ne.symm hab) q]
   refine Ajc λi j hi hj=>?_
   clear h1 h
   simp only [trF,Aiu,dl]
   grind
  rw [h2,Int.mul_one] at h1;rw [<- h1];refine Ajc λi j hi hj=>?_;unfold trF Ajb;by_cases hja:j=a
  ·simp only [if_pos hja];rw [Ais (g:=λk=>F k i * dl k a + q * (F k i * dl k b)) (λk _=>by grind),Avc,Aov];rw [Asj (a:=a) ha (λk hk=>by unfold dl;grind),Asj (a:=b) hb (λk hk=>by unfold dl;grind)];simp [dl]
  grind
 ·rw [Ayr ha hb hab] at h
  have h1:det n (trF<|Anp F a b)=det n (trF F) * det n (Anp dl a b):=by
   rw [<- A6m]
   refine Ajc λi j hi hj=>?_
   unfold Al7 trF
   have hsym:∀ k,Anp dl a b k j=if j=a then dl k b else if j=b then dl k a else dl k j:=by
    intro k
    simp only [Asl,dl]
    grind
   rw [Ais (g:=λk=>F k i * dl k (if j=a then b else if j=b then a else j)) (λk _=>by rw [hsym];grind)]
   rw [Asj (a:=if j=a then b else if j=b then a else j) (by grind) (λk hk=>by unfold dl;grind)]
   simp only [dl,if_pos,Int.mul_one]
   by_cases h3:j=a
   ·subst h3;rw [A2p,if_pos rfl]
   ·rw [if_neg h3]
    by_cases h4:j=b
    ·subst h4;rw [A69,if_pos rfl]
    ·rw [A4a _ h3 h4,if_neg h4]
  rw [Ayr ha hb hab,BJ0] at h1;omega
 ·rw [A0e hF,A83 (F:=trF F) λi j h1 h2=>hF i j AOq h1 h2];rfl
def shF (k:Nat) (F:Ahe):Ahe:=λi j=>F (k + i)<|k + j
theorem A84 (h:i < k + 1):skp i (k + a)=k + 1 + a:=by unfold skp;grind
theorem A5h:∀ {k m:Nat} {T:Ahe},(∀ i j,k<=i->i < k + m->j < k->T i j=0)->det (k + m) T=det k T * det m (shF k T):=by
 intro k;induction k with
 | zero=>
   intro m T _;have e:shF 0 T=T:=by funext i j;simp [shF]
   rw [e,Nat.zero_add];simp [det]
 | succ k ih=>
   intro m T h;rw [show k + 1 + m=(k + m) + 1 by omega];simp only [det];rw [BJt (k:=k + 1) AOq λi h1 h2=>by grind];rw [Int.mul_comm,<- Aov];refine Ais λi hi=>?_
   rw [ih (T:=Amu i T) (m:=m) (λa b ha ha2 hb=>by
    obtain ⟨c,rfl⟩:∃ c,a=k + c:=⟨a - k,AOq⟩;unfold Amu;rw [A84 hi];grind)]
   have e:shF k (Amu i T)=shF (k + 1) T:=by
    funext a b;unfold shF Amu;rw [A84 hi,show k + b + 1=k + 1 + b by omega]
   rw [e];grind
theorem A99 {n:Nat} (h:∀ i,i < n + 1->F i 0=0):det (n + 1) F=0:=by
 simp only [det];rw [Ais (g:=λ_=>0) λi hi=>by grind];exact Ax8 _
theorem BBx {n:Nat} {b:Nat} (ha:a < n) (hb:b < n) (hab:a≠b) (h:∀ i,F i a=F i b):det n F=0:=by
 rw [<- Ayt];exact Avv ha hb hab (by funext i;exact h i)
theorem BMy (F:Ahe):det 2 F=F 0 0 * F 1 1 - F 1 0 * F 0 1:=by
 simp [det,psum,Amu,skp,sg];grind
def bro (k i r:Nat):Nat:=if r < k then r else i
def Mn (k:Nat) (A:Ahe) (i j:Nat):Int:=det (k + 1) λr c=>A (bro k i r)<|bro k j c
theorem Awf (A:Ahe) (i j:Nat):Mn 0 A i j=A i j:=by
 simp [Mn,det,psum,bro,sg]
theorem Ar6 (k:Nat) (A:Ahe):Mn k A k k=det (k + 1) A:=by
 refine Ajc λr c hr hc=>?_;have e:∀ r,r < k + 1->bro k k r=r:=λr hr=>by unfold bro;split <;> omega
 grind
theorem BOy (A:Ahe) (i:Nat) (hj:j < k):Mn k A i j=0:=by
 refine BBx (a:=j) (b:=k) AOq AOq AOq λr=>?_;unfold bro;simp [hj]
def cof (k:Nat) (A:Ahe) (i s:Nat):Int:=det (k + 1)<|Ajb (λc r=>A (bro k i r) c) k<|dl s
theorem BAa {n:Nat} (f:Nat->Int) {q:Nat} (hq:q < n):psum (λs=>f s * dl s q) n=f q:=by
 rw [Asj hq (λi hi=>by unfold dl;grind)];simp [dl]
theorem BPz (k:Nat) (A:Ahe) (i j:Nat):Mn k A i j=psum (λs=>cof k A i s * A s j) k + det k A * A i j:=by
 have h1:Mn k A i j=det (k + 1) (Ajb (λc r=>A (bro k i r) c) k λq=>psum (λs=>A (bro k i s) j * dl s q)<|k + 1):=by
  unfold Mn
  rw [<- Ayt]
  refine Ajc λc r hc hr=>?_
  rw [Aiu,BAa _ hr]
  unfold trF
  split
  ·subst_vars;simp [bro]
  ·have:c < k:=by omega
   simp [bro,this]
 rw [h1,A7s AOq]
 have hk:det (k + 1) (Ajb (λc r=>A (bro k i r) c) k<|dl k)=det k A:=by
  rw [A5h (k:=k) (m:=1) (T:=Ajb (λc r=>A (bro k i r) c) k<|dl k) (λa b h1 h2 h3=>by
   obtain rfl:a=k:=by omega
   rw [Aiu,if_pos rfl];unfold dl;omega)]
  have e1:det k (Ajb (λc r=>A (bro k i r) c) k<|dl k)=det k A:=by
   rw [<- Ayt]
   refine Ajc λr c hr hc=>?_
   unfold trF
   rw [Aiu,if_neg AOq]
   simp [bro,hr]
  have e2:det 1 (shF k<|Ajb (λc r=>A (bro k i r) c) k<|dl k)=1:=by
   simp [det,psum,shF,sg,Aiu,dl]
  grind
 show psum (λs=>A (bro k i s) j * det (k + 1) (Ajb (λc r=>A (bro k i r) c) k<|dl s)) k + A (bro k i k) j * det (k + 1) (Ajb (λc r=>A (bro k i r) c) k<|dl k)=_;rw [hk];congr 1
 ·refine Ais λs hs=>?_;show _=cof k A i s * A s j;unfold cof;rw [Int.mul_comm];simp [bro,hs]
 ·simp [bro,Int.mul_comm]
theorem BBy (f:Nat->Int) (k m:Nat):Aom f (k + m)=Aom f k * Aom (λi=>f<|k + i) m:=by
 induction m with
 | zero=>simp [Aom]
 | succ m ih=>rw [<- Nat.add_assoc];simp only [Aom];rw [ih];grind
theorem A85 {f:Nat->Int}:∀ {n:Nat},(∀ i,i < n->f i=1)->Aom f n=1
 | 0,_=>rfl
 | n + 1,h=>by rw [Aom,A85 λi hi=>h i AOq,h n AOq];rfl
theorem BBz {f:Nat->Int}:∀ {n:Nat},(∀ i,i < n->f i≠0)->Aom f n≠0
 | 0,_=>by simp [Aom]
 | n + 1,h=>by rw [Aom];exact Int.mul_ne_zero (BBz λi hi=>h i AOq)<|h n AOq
def A1r (k:Nat) (A:Ahe) (ρ:Nat->Nat):Ahe:=λr s=>if r < k then dl r s else if s < k then cof k A (ρ r) s else if s=r then det k A else 0
theorem BB0 {n:Nat} {B:Ahe} {ρ γ:Nat->Nat} (hkn:k<=n) (hρ:∀ r,r < k->ρ r=r) (hB:∀ r c,B r c=A (ρ r) (γ c)) {c:Nat} (hr:r < n):Al7 n (A1r k A ρ) B r c=if r < k then B r c else Mn k A (ρ r) (γ c):=by
 unfold Al7;by_cases h:r < k
 ·rw [if_pos h,Asj hr (λi hi=>by unfold A1r;rw [if_pos h];unfold dl;grind)];unfold A1r;rw [if_pos h];simp [dl]
 ·rw [if_neg h,BPz];obtain ⟨m,rfl⟩:∃ m,n=k + m:=⟨n - k,AOq⟩
  have hs:∀ t,psum (λs=>A1r k A ρ r s * B s c) (k + t)=psum (λs=>cof k A (ρ r) s * A s (γ c)) k + (if r < k + t then det k A * A (ρ r) (γ c) else 0):=by
   intro t
   induction t with
   | zero=>
     rw [if_neg AOq,Int.add_zero,Nat.add_zero]
     refine Ais λs hs=>?_
     unfold A1r
     grind
   | succ t ih=>
     show psum (λs=>A1r k A ρ r s * B s c) (k + t) + A1r k A ρ r (k + t) * B (k + t) c=_
     rw [ih]
     have e:A1r k A ρ r (k + t)=if k + t=r then det k A else 0:=by unfold A1r;omega
     grind
  grind
theorem BB1 {m:Nat} {ρ:Nat->Nat}:det (k + m) (A1r k A ρ)=Aom (λ_=>det k A) m:=by
 rw [A83 (λi j hij hj=>by
  unfold A1r
  split
  ·unfold dl;omega
  omega),BBy,A85,Int.one_mul]
 ·refine A52 λi hi=>?_;unfold A1r;omega
 ·intro i hi;unfold A1r;rw [if_pos hi];simp [dl]
theorem A2y (h0:det k A≠0) (i j:Nat):Mn k A k k * Mn k A i j - Mn k A i k * Mn k A k j=det k A * Mn (k + 1) A i j:=by
 have h1:=A6m (n:=k + 2) (A1r k A<|bro (k + 1) i) λr c=>A (bro (k + 1) i r)<|bro (k + 1) j c
 have hm:∀ r c,r < k + 2->Al7 (k + 2) (A1r k A<|bro (k + 1) i) (λr c=>A (bro (k + 1) i r)<|bro (k + 1) j c) r c=if r < k then A (bro (k + 1) i r) (bro (k + 1) j c) else Mn k A (bro (k + 1) i r) (bro (k + 1) j c):=λr c hr=>
  BB0 (k:=k) (n:=k + 2) (A:=A) (B:=λr c=>A (bro (k + 1) i r)<|bro (k + 1) j c) (ρ:=bro (k + 1) i) (γ:=bro (k + 1) j) AOq (λr hr=>by unfold bro;grind) (λr c=>rfl) hr
 rw [BB1,A5h (k:=k) (m:=2) (λa b ha ha2 hb=>by
  rw [hm a b ha2,if_neg AOq,show bro (k + 1) j b=b by unfold bro;grind];exact BOy _ _ hb)] at h1
 have e1:det k (Al7 (k + 2) (A1r k A<|bro (k + 1) i) λr c=>A (bro (k + 1) i r)<|bro (k + 1) j c)=det k A:=by
  refine Ajc λr c hr hc=>?_;rw [hm r c AOq,if_pos hr];simp only [bro];grind
 have b0:∀ q,bro (k + 1) q (k + 0)=k:=λq=>by unfold bro;grind
 have b1:∀ q,bro (k + 1) q (k + 1)=q:=λq=>by unfold bro;grind
 rw [e1,BMy] at h1;simp only [shF] at h1;rw [hm _ _ AOq,hm _ _ AOq,hm _ _ AOq,hm _ _ AOq,if_neg AOq,if_neg AOq,if_neg AOq,if_neg AOq,b0,b0,b1,b1] at h1;have e2:Aom (λ_=>det k A) 2=det k A * det k A:=by simp [Aom]
 have e3:(det (k + 2) λr c=>A (bro (k + 1) i r)<|bro (k + 1) j c)=Mn (k + 1) A i j:=rfl;rw [e2,e3,Int.mul_assoc] at h1;exact Int.eq_of_mul_eq_mul_left h0 h1
theorem BB2 {n:Nat} (h0:det k A≠0) (hk:k < n) (hz:∀ i,k<=i->i < n->Mn k A i k=0):det n A=0:=by
 obtain ⟨m,rfl⟩:∃ m,n=k + (m + 1):=⟨n - k - 1,AOq⟩;have h1:=A6m (n:=k + (m + 1)) (A1r k A id) A
 have hm:∀ r c,r < k + (m + 1)->Al7 (k + (m + 1)) (A1r k A id) A r c=if r < k then A r c else Mn k A r c:=λr c hr=>
  BB0 (k:=k) (n:=k + (m + 1)) (A:=A) (B:=A) (ρ:=id) (γ:=id) AOq (λr hr=>rfl) (λr c=>rfl) hr
 rw [BB1,A5h (k:=k) (m:=m + 1) (λa b ha ha2 hb=>by rw [hm a b ha2,if_neg AOq];exact BOy _ _ hb),A99 (F:=shF k _) (λi hi=>by
  unfold shF;grind),Int.mul_zero] at h1
 rcases Int.mul_eq_zero.1 h1.symm with h2 | h2
 ·exact absurd h2<|BBz λi hi=>h0
 ·exact h2
def dBd (m:Nat):Nat->Nat
 | 0=>1
 | n + 1=>(n + 1) * m * dBd m n
theorem psum_abs {f:Nat->Int} {B:Nat}:∀ {n:Nat},(∀ i,i < n->(f i).natAbs<=B)->(psum f n).natAbs<=n * B
 | 0,_=>by simp [psum]
 | n + 1,h=>by
   have h1:=psum_abs (n:=n) λi hi=>h i AOq
   have h2:=h n AOq
   have h3:=Int.natAbs_add_le (psum f n)<|f n
   show (psum f n + f n).natAbs<=_
   grind
theorem A4n {m:Nat}:∀ {n:Nat} {F:Ahe},(∀ i j,(F i j).natAbs<=m)->(det n F).natAbs<=dBd m n
 | 0,_,_=>by simp [det,dBd]
 | n + 1,F,h=>by
   have h1:=psum_abs (f:=λi=>sg i * F i 0 * det n (Amu i F)) (B:=m * dBd m n) (n:=n + 1) λi hi=>by
    have e:=A4n (n:=n) (F:=Amu i F) λa b=>h _ _
    have es:(sg i).natAbs=1:=by unfold sg;split <;> rfl
    rw [Int.natAbs_mul,Int.natAbs_mul,es,Nat.one_mul]
    exact Nat.mul_le_mul (h i 0) e
   rw [dBd,Nat.mul_assoc]
   exact h1
theorem BMz {n:Nat} (hp:k < p) (hi:k<=i):Mn k (Anp A p k) i j=Mn k A (if i=k then p else if i=p then k else i) j:=by
 refine Ajc λr c hr hc=>?_;rw [Asl];unfold bro;grind
theorem BAb (hp:k < p):det k (Anp A p k)=det k A:=by
 refine Ajc λr c hr hc=>?_;rw [Asl,if_neg AOq,if_neg AOq]
def sgB (neg:Bool):Int:=if neg then -1 else 1
def A28 (m:Nat) (A0:Ahe) (n k:Nat) (F:Ahe) (last:Int) (neg:Bool):Prop:=
 ∃ A:Ahe,det n A=sgB neg * det n A0/\(∀ i j,k<=i->i < n->k<=j->j < n->F i j=Mn k A i j)/\last=det k A/\last≠0/\ ∀ i j,(A i j).natAbs<=m
theorem A7t {m n:Nat} (h:∀ i j,(A0 i j).natAbs<=m):A28 m A0 n 0 A0 1 false:=
 ⟨A0,by simp [sgB],λi j _ _ _ _=>(Awf A0 i j).symm,rfl,AOs,h⟩
theorem A86 {m n:Nat} (H:A28 m A0 n k F last neg) (hkp:k < p) (hp:p < n):A28 m A0 n k (Anp F p k) last (!neg):=by
 obtain ⟨A,h1,h2,h3,h4,h5⟩:=H;refine ⟨Anp A p k,?_,λi j hi hin hj hjn=>?_,by rw [BAb hkp];exact h3,h4,λi j=>?_⟩
 ·rw [Ayr hp AOq AOq,h1];cases neg <;> simp [sgB]
 ·rw [BMz (n:=n) hkp hi,Asl];grind
 ·rw [Asl];grind
def bQ (k:Nat) (F:Ahe) (last:Int) (r c:Nat):Int:=(F k k * F r c - F r k * F k c) / last
def bF (k:Nat) (F:Ahe) (last:Int) (i j:Nat):Ahe:=λr c=>if k < r/\k < c/\(r < i∨r=i/\c < j) then bQ k F last r c else F r c
theorem A7u (k:Nat) (F:Ahe) (last:Int):bF k F last (k + 1) (k + 1)=F:=by
 funext r c;unfold bF;omega
theorem BDs (k n:Nat) (F:Ahe) (last:Int) (i:Nat) {c:Nat} (hc:c < n):bF k F last i n r c=bF k F last (i + 1) (k + 1) r c:=by
 unfold bF;omega
theorem BDt (k:Nat) (F:Ahe) (last:Int) (hi:k < i) (hj:k < j):(Ajb (bF k F last i j) i λc=>if c=j then bQ k F last i j else bF k F last i j i c)=bF k F last i (j + 1):=by
 funext r c;rw [Aiu];split
 ·subst_vars
  split
  ·subst_vars;unfold bF;omega
  ·unfold bF;omega
 ·unfold bF;omega
theorem A7v (k:Nat) (F:Ahe) (last:Int) (i j c:Nat):bF k F last i j k c=F k c:=by unfold bF;omega
theorem BJ3 (k:Nat) (F:Ahe) (last:Int) (i j r:Nat):bF k F last i j r k=F r k:=by unfold bF;omega
theorem BJ4 (k:Nat) (F:Ahe) (last:Int) (i j:Nat):bF k F last i j i j=F i j:=by unfold bF;omega
theorem BOz {m n:Nat} (H:A28 m A0 n k F last neg) (hk:k < n):∃ A,(∀ i j,(A i j).natAbs<=m)/\det n A=sgB neg * det n A0/\F k k=det (k + 1) A/\ ∀ i j,k<=i->i < n->k<=j->j < n->F i j=Mn k A i j/\bQ k F last i j=Mn (k + 1) A i j:=by
 obtain ⟨A,h1,h2,h3,h4,h5⟩:=H;refine ⟨A,h5,h1,by rw [h2 k k AOq hk AOq hk,Ar6],λi j hi hin hj hjn=>⟨h2 i j hi hin hj hjn,?_⟩⟩;unfold bQ;rw [h2 k k AOq hk AOq hk,h2 i j hi hin hj hjn,h2 i k hi hin AOq hk,h2 k j AOq hk hj hjn,A2y AOq,<- h3,Int.mul_ediv_cancel_left _ h4]
theorem A87 {m n:Nat} (H:A28 m A0 n k F last neg) (hk:k < n) (h0:F k k≠0):A28 m A0 n (k + 1) (bF k F last n<|k + 1) (F k k) neg:=by
 obtain ⟨A,h5,h1,h6,h2⟩:=BOz H hk;refine ⟨A,h1,λi j hi hin hj hjn=>?_,h6,h0,h5⟩;unfold bF;grind
theorem A88 {m n:Nat} (H:A28 m A0 n k F last neg) (hk:k < n) (hz:∀ i,k<=i->i < n->F i k=0):det n A0=0:=by
 obtain ⟨A,h1,h2,h3,h4,h5⟩:=H;have h:=BB2 (A:=A) AOq hk λi hi hin=>by grind
 rw [h1] at h;rcases Int.mul_eq_zero.1 h with h6 | h6
 ·cases neg <;> simp [sgB] at h6
 ·exact h6
theorem BB3 {m n:Nat} (H:A28 m A0 n n F last neg):det n A0=if neg then -last else last:=by
 obtain ⟨A,h1,h2,h3,h4,h5⟩:=H;rw [<- h3] at h1;rw [h1];cases neg
 ·simp [sgB]
 ·simp [sgB]
theorem BDu {m:Nat} (h:∀ i j,(A i j).natAbs<=m) (i j:Nat):(Mn k A i j).natAbs<=dBd m (k + 1):=A4n λr c=>h _ _
theorem Avd {m:Nat} (hm:1<=m) {b:Nat} (h:a<=b):dBd m a<=dBd m b:=by
 induction h with
 | refl=>omega
 | step h ih=>
   refine Nat.le_trans ih ?_
   rw [dBd]
   exact Nat.le_mul_of_pos_left _<|Nat.mul_pos AOq AOq
theorem BB4 {m n:Nat} (hm:1<=m) (H:A28 m A0 n k F last neg) (hk:k < n) (hi:k<=i) (hin:i < n) (hj:k<=j) (hjn:j < n):(F i j).natAbs<=dBd m n/\(bQ k F last i j).natAbs<=dBd m (n + 1):=by
 obtain ⟨A,h5,h1,h6,h2⟩:=BOz H hk;obtain ⟨h7,h8⟩:=h2 i j hi hin hj hjn;rw [h7,h8];exact ⟨Nat.le_trans (BDu h5 _ _)<|Avd hm AOq,Nat.le_trans (BDu h5 _ _)<|Avd hm AOq⟩
theorem A89 {m n:Nat} (hm:1<=m) (H:A28 m A0 n k F last neg) (hk:k<=n):last≠0/\last.natAbs<=dBd m n:=by
 obtain ⟨A,h1,h2,h3,h4,h5⟩:=H;exact ⟨h4,by rw [h3];exact Nat.le_trans (A4n h5)<|Avd hm hk⟩
end Go.QF
namespace Go.Proofs.YtkakafabeobahaaGreatDoor
open Go Go.QF
theorem BM0 {n:Nat} {a b c:α} (h:i < n):(List.replicate i a ++ List.replicate (n - i) b).set i c=List.replicate i a ++ (c :: List.replicate (n - i - 1) b):=by
 rw [List.set_append_right _ _ Ah7,List.length_replicate,Nat.sub_self,show n - i=(n - i - 1) + 1 by omega,List.replicate_succ];rfl
theorem A6n {n m:Nat} (hn:n<=100000000) (hm:m<=100000000) (hf:n < fuel):Aki fuel n m=some (List.replicate n<|List.replicate m 0):=by
 apply ok_eq;unfold Aki;refine Ah8 AOq<|AOy (Ah3 (λi s=>s=((i:Int),List.replicate i (List.replicate m 0) ++ List.replicate (n - i) [])) n (Q:=(· =List.replicate n (List.replicate m 0))) Ah7 hf λi s hi hI=>?_) λx hx=>AOt hx;subst hI;unfold Asd;dsimp only;rw [List.length_replicate,Int.toNat_natCast];refine Aha (λh=>Ah8 AOq<|Ahj (n:=i) (x:=[]) ?_ rfl (AOt ⟨AOq,?_⟩)) λh=>AOt ?_
 ·grind
 ·rw [wk AOq,Ai9,Int.toNat_natCast,BM0 AOq];congr 1;rw [show n - (i + 1)=n - i - 1 by omega,List.replicate_succ'];simp
 ·obtain rfl:i=n:=by omega
  simp
theorem BAc {A:List (List α)} {row:List α} (hi:i < A.length):(A.take i ++ row :: List.replicate (A.length - i - 1) []).set i=λr=>A.take i ++ r :: List.replicate (A.length - i - 1) []:=by
 funext r;rw [List.set_append_right _ _ (by simp;omega),List.length_take,Nat.min_eq_left AOq,Nat.sub_self];rfl
theorem BAd {A:List (List Int)} (hn:A.length<=100000000) (hm:∀ z∈A,z.length<=100000000/\z.length < fuel) (hf:A.length < fuel):Anq fuel A=some A:=by
 apply ok_eq;unfold Anq;refine Ah8 AOq<|AOy (Ah3 (λi s=>s=((i:Int),A.take i ++ List.replicate (A.length - i) [])) A.length (Q:=(· =A)) Ah7 hf λi s hi hI=>?_) λx hx=>AOt hx;subst hI;unfold Asf;dsimp only;refine Aha (λh=>?_) λh=>AOt ?_
 ·have hi':i < A.length:=by omega
  obtain ⟨row,hrow⟩:∃ row,A[i]? =some row:=⟨A[i],List.getElem?_eq_getElem hi'⟩;have hr:=hm row<|List.mem_of_getElem? hrow;refine Ahj hrow rfl (AOy (Ah3 (λj s=>s=((j:Int),A.take i ++ row.take j :: List.replicate (A.length - i - 1) [])) row.length (Q:=(· =A.take i ++ row :: List.replicate (A.length - i - 1) [])) ?_ hr.2 λj s hj hJ=>?_) λx hx=>AOt ⟨hi',?_⟩)
  ·rw [show A.length - i=(A.length - i - 1) + 1 by omega,List.replicate_succ];simp
  ·subst hJ;unfold Ase;dsimp only;refine Aha (λh2=>?_) λh2=>AOt ?_
   ·obtain ⟨x,hx⟩:∃ x,row[j]? =some x:=⟨row[j]'AOq,List.getElem?_eq_getElem _⟩;refine Ahj hx rfl (Ahj (n:=i) (x:=row.take j) ?_ rfl (AOy (Q:=(· =x)) ⟨x,rfl,rfl⟩ λy hy=>Ah8 ?_<|AOt ⟨AOq,?_⟩))
    ·grind
    ·grind
    ·subst hy;rw [wk AOq,Ai9,BAc hi',List.take_add_one,hx];rfl
   grind
  ·subst hx;rw [wk AOq,List.take_add_one,hrow,show A.length - (i + 1)=A.length - i - 1 by omega];simp
 ·obtain rfl:i=A.length:=by omega
  simp
def okM (A:List (List Int)):Bool:=decide (1<=A.length/\A.length<=16/\ ∀ z∈A,1<=z.length/\z.length<=16/\z.length=Au2 A)
theorem Aya {A:List (List Int)} {z:List Int} (h:A[0]? =some z):Au2 A=z.length:=by unfold Au2;rw [h];rfl
theorem A53 {A:List (List Int)} (hr:∀ z∈A,∀ x∈z,-9223372036854775808<=x/\x<=9223372036854775807) (hf:17 < fuel):Ajf fuel A=some (if okM A then (A,true) else ([],false)):=by
 apply ok_eq;unfold Ajf
 have key:∀ R:List (List Int) × Bool->Prop,(okM A=false->R ([],false))->(okM A=true->R (A,true))->Ok (Ajf fuel A) R:=by
  intro R hF hT
  unfold Ajf
  refine AOy (Q:=λex=>match ex with | .inl e=>e=([],false)/\okM A=false | .inr _=>1<=A.length/\A.length<=16) (Aha (λh=>AOt ⟨rfl,by unfold okM;grind⟩) λh=>Aha (λh2=>AOt ⟨rfl,by unfold okM;grind⟩) λh2=>AOt ⟨AOq,AOq⟩) λex hex=>?_
  cases ex with
  | inl e=>obtain ⟨rfl,h⟩:=hex;exact AOt (hF h)
  | inr u=>
    dsimp only at hex ⊢
    obtain ⟨z0,Ac⟩:∃ z,A[0]? =some z:=⟨A[0]'AOq,List.getElem?_eq_getElem _⟩
    have hc:=Aya Ac
    refine AOy (Ah3 (λi (s:Int)=>s=(i:Int)/\ ∀ z∈A.take i,1<=z.length/\z.length<=16/\z.length=Au2 A) A.length (Q:=λex=>match ex with | .inl e=>e=([],false)/\okM A=false | .inr _=>okM A=true) ⟨rfl,Ah7⟩ AOq λi s hi hI=>?_) λex Ab=>?_
    ·obtain ⟨rfl,hI⟩:=hI
     unfold Ap5
     refine Aha (λh=>?_) λh=>AOt ?_
     ·have hi':i < A.length:=by omega
      obtain ⟨row,hrow⟩:∃ row,A[i]? =some row:=⟨A[i],List.getElem?_eq_getElem hi'⟩
      have bad: ¬ (1<=row.length/\row.length<=16/\row.length=Au2 A)->okM A=false:=λhb=>by
       unfold okM;grind
      refine Ahj hrow rfl (Aha (λh1=>AOt ⟨rfl,bad AOq⟩) λh1=>Aha (λh2=>AOt ⟨rfl,bad AOq⟩) λh2=>Ahj Ac rfl (Aha (λh3=>AOt ⟨rfl,bad AOq⟩) λh3=>AOt ⟨hi',wk AOq,?_⟩))
      rw [List.take_add_one,hrow]
      grind
     ·obtain rfl:i=A.length:=by omega
      rw [List.take_length] at hI
      unfold okM;grind
    ·cases ex with
     | inl e=>obtain ⟨rfl,h⟩:=Ab;exact AOt (hF h)
     | inr u=>
       dsimp only at Ab ⊢
       have hv:=Ab
       unfold okM at hv;rw [decide_eq_true_eq] at hv
       have hcA:∀ z∈A,z.length=Au2 A:=λz hz=>(hv.2.2 z hz).2.2
       have Ag:1<=Au2 A/\Au2 A<=16:=by grind
       refine Ahj Ac rfl (AOy (Aid<|A6n AOq AOq AOq) λO hO=>?_)
       subst hO
       rw [<- hc]
       refine AOy (Ah3 (λi s=>s=((i:Int),A.take i ++ List.replicate (A.length - i) (List.replicate (Au2 A) 0))) A.length (Q:=(· =A)) Ah7 AOq λi s hi hI=>?_) λx hx=>AOt<|hx ▸ hT Ab
       subst hI
       unfold Ap4
       dsimp only
       refine Aha (λh=>?_) λh=>AOt ?_
       ·have hi':i < A.length:=by omega
        obtain ⟨row,hrow⟩:∃ row,A[i]? =some row:=⟨A[i],List.getElem?_eq_getElem hi'⟩
        have hrl:=hcA row<|List.mem_of_getElem? hrow
        refine Ahj hrow rfl (AOy (Ah3 (λj s=>s=((j:Int),A.take i ++ (row.take j ++ List.replicate (Au2 A - j) 0) :: List.replicate (A.length - i - 1) (List.replicate (Au2 A) 0))) row.length (Q:=(· =A.take i ++ row :: List.replicate (A.length - i - 1) (List.replicate (Au2 A) 0))) ?_ AOq λj s hj hJ=>?_) λx hx=>AOt ⟨hi',?_⟩)
        ·rw [show A.length - i=(A.length - i - 1) + 1 by omega,List.replicate_succ];simp
        ·subst hJ
         unfold Ap3
         dsimp only
         refine Aha (λh2=>?_) λh2=>AOt ?_
         ·obtain ⟨x,hx⟩:∃ x,row[j]? =some x:=⟨row[j]'AOq,List.getElem?_eq_getElem _⟩
          have hxr:=hr row (List.mem_of_getElem? hrow) x<|List.mem_of_getElem? hx
          refine Ahj (n:=i) (x:=row.take j ++ List.replicate (Au2 A - j) 0) ?_ rfl (Ahj hrow rfl (Ahj hx rfl (AOy (Q:=(· =x)) ⟨x,if_pos hxr,rfl⟩ λy hy=>Ahj (n:=j) (x:=0) ?_ rfl (AOt ⟨AOq,?_⟩))))
          ·grind
          ·grind
          ·subst hy
           rw [wk AOq,Ai9,Ai9]
           congr 1
           rw [List.set_append_right _ _ (by simp;omega),List.length_take,Nat.min_eq_left AOq,Nat.sub_self,List.set_cons_zero]
           congr 2
           rw [List.set_append_right _ _ (by simp;omega),List.length_take,Nat.min_eq_left AOq,Nat.sub_self,show Au2 A - j=(Au2 A - (j + 1)) + 1 by omega,List.replicate_succ,List.set_cons_zero,List.take_add_one,hx]
           simp
         ·obtain rfl:j=row.length:=by omega
          rw [List.take_length,show Au2 A - row.length=0 by omega];simp
        ·subst hx
         rw [wk AOq,List.take_add_one,hrow,show A.length - (i + 1)=A.length - i - 1 by omega]
         simp
       ·obtain rfl:i=A.length:=by omega
        simp
 have:=key (λr=>r=if okM A then (A,true) else ([],false)) (λh=>by rw [h];rfl) (λh=>by rw [h];rfl);unfold Ajf at this;exact this
theorem BO0 {A:List (List Int)} (hr:∀ z∈A,∀ x∈z,-9223372036854775808<=x/\x<=9223372036854775807) (hf:17 < fuel):Ak6 fuel A=some (if okM A then A else []):=by
 unfold Ak6;rw [A53 hr hf];grind
def m63:Nat:=9223372036854775808
def A1a:Nat:=dBd m63 17
theorem BAe:2 * (A1a * A1a) < Alf:=by decide
theorem BJ5:1<=A1a:=by decide
theorem A7w {b:Nat} (ha:a<=A1a) (hb:b<=A1a):a * b < Alf:=by
 have:=Nat.mul_le_mul ha hb;have:=BAe;omega
theorem BJ6 (ha:a<=A1a):a < Alf:=by
 have h1:=BAe;have h2:=Nat.mul_le_mul BJ5<|Nat.le_refl A1a;omega
theorem BJ7 {n:Nat} (hn:n<=16):dBd m63 n<=A1a/\dBd m63 (n + 1)<=A1a:=⟨Avd AOs AOq,Avd AOs AOq⟩
theorem A4o {z:Int}:Anz z=0↔z=0:=by
 unfold Anz;omega
theorem BB5 {a b:Int} (ha:a.natAbs<=A1a) (hb:b.natAbs<=A1a):Ayn fuel a b=some (a * b):=if_pos<|A7w ha hb
theorem BB6 {a b:Int} (ha:a.natAbs<=A1a) (hb:b.natAbs<=A1a):(a * b).natAbs < Alf:=by rw [Int.natAbs_mul];exact A7w ha hb
theorem BM2 {a b c:Int} (ha:a.natAbs<=A1a) (hb:b.natAbs<=A1a) (hc:c.natAbs<=A1a) (hd:d.natAbs<=A1a):(a * b - c * d).natAbs < Alf:=by
 have h1:=Nat.mul_le_mul ha hb;have h2:=Nat.mul_le_mul hc hd;rw [<- Int.natAbs_mul] at h1 h2;have:=BAe;omega
theorem A3w {c:Nat}:sI (tab r c F) (i:Int) (sI (Aju c<|F i) (j:Int) x)=tab r c (Ajb F i λq=>if q=j then x else F i q):=by
 rw [Ai9,Ai9,Alr];exact BJr
theorem BP1 {n:Nat} (hn:n<=16) (hb:∀ i j,(F i j).natAbs<=m63) (hf:17 < fuel):Aig fuel (tab n n F)=some (det n F):=by
 apply ok_eq;unfold Aig;refine AOy (Aid<|BAd (by rw [Ahv];omega) (λz hz=>by rw [A13 z hz];omega) (by rw [Ahv];omega)) λA hA=>?_;subst hA;refine AOy (Q:=(· =1)) ⟨1,if_pos AOq,rfl⟩ λone h1=>?_;subst h1;obtain ⟨hD,Ap⟩:=BJ7 hn;refine AOy (Ah3 (λk s=> ∃ G last neg,s=(neg,((k:Int),tab n n G,last))/\A28 m63 F n k G last neg) n (Q:=λex=>match ex with | .inl e=>e=det n F | .inr (neg,last)=>det n F=if neg then -last else last) ⟨F,1,false,rfl,A7t hb⟩ AOq λk s hk hI=>?_) λex hex=>?_
 ·obtain ⟨G,last,neg,rfl,hB⟩:=hI;unfold Amj;dsimp only;rw [Ahv];refine Aha (λh=>?_) λh=>AOt ?_
  ·have hk':k < n:=by omega
   refine AOy (Q:=λex=>match ex with | .inl e=>e=det n F | .inr (neg',a',last')=> ∃ G',a'=tab n n G'/\A28 m63 F n (k + 1) G' last' neg') ?_ λex hex=>?_
   ·refine AOy (Q:=λ(e:Int)=> ∃ p:Nat,e=p/\k<=p/\p<=n/\(∀ i,k<=i->i < p->G i k=0)/\(p < n->G p k≠0)) (AOy (Ah3 (λj (s:Int)=>s=((k + j:Nat):Int)/\k + j<=n/\ ∀ i,k<=i->i < k + j->G i k=0) (n - k) (Q:=λ(e:Int)=> ∃ p:Nat,e=p/\k<=p/\p<=n/\(∀ i,k<=i->i < p->G i k=0)/\(p < n->G p k≠0)) ⟨rfl,AOq,λi h1 h2=>by omega⟩ AOq λj s hj hJ=>?_) λe he=>AOt he) λe he=>?_
    ·obtain ⟨rfl,hjn,hz⟩:=hJ;unfold Amg;rw [Ahv];refine AOy (Q:=λex=>match ex with | .inl _=>k + j < n/\G (k + j) k=0 | .inr _=>k + j < n->G (k + j) k≠0) (Aha (λh2=>Ahj (Ah0 AOq) rfl (Ahj (Ahu AOq) rfl (AOy (Aid (a:=Anz<|G (k + j) k) rfl) λsg hsg=>Aha (λh3=>AOt ⟨AOq,?_⟩) λh3=>AOt λ_=>?_))) λh2=>AOt λh3=>by omega) λex hex=>?_
     ·subst hsg;exact A4o.1 h3
     ·subst hsg;exact λh4=>h3<|A4o.2 h4
     ·cases ex with
      | inl u=>exact AOt ⟨AOq,by rw [wk AOq];omega,AOq,λi h1 h2=>by
         grind⟩
      | inr u=>exact AOt ⟨k + j,rfl,AOq,hjn,hz,hex⟩
    ·obtain ⟨p,rfl,hkp,hpn,hz,hp⟩:=he;refine Aha (λh2=>AOt ?_) λh2=>?_
     ·obtain rfl:p=n:=by omega
      exact (A88 hB hk' hz).symm
     ·have hp':p < n:=by omega
      refine AOy (Q:=λ(r:Bool × List (List Int))=> ∃ G',r.2=tab n n G'/\A28 m63 F n k G' last r.1/\G' k k≠0) (Aha (λh3=>Ahj (Ah0 AOq) rfl (Ahj (Ah0 AOq) rfl (AOt ⟨Anp G p k,?_,A86 hB AOq hp',?_⟩))) λh3=>AOt ⟨G,rfl,hB,?_⟩) λr hr=>?_
      ·dsimp only;rw [Ai9,Ai9];show ((tab n n G).set p (Aju n<|G k)).set k (Aju n<|G p)=_;rw [show Aju n (G k)=(List.range n).map (G k) from rfl,show Aju n (G p)=(List.range n).map (G p) from rfl,Ar9,Ar9];rfl
      ·rw [Asl,if_pos rfl];exact hp hp'
      ·grind
      ·obtain ⟨Aq,a2⟩:=r;obtain ⟨G2,Ag,Af,hne⟩:=hr;dsimp only at Ag Af ⊢;subst Ag;have hlast:=A89 AOs Af AOq;have habs:∀ i j,k<=i->i < n->k<=j->j < n->(G2 i j).natAbs<=A1a:=λi j h1 h2 h3 h4=>Nat.le_trans (BB4 AOs Af hk' h1 h2 h3 h4).1 hD;have hl':last.natAbs<=A1a:=Nat.le_trans hlast.2 hD;rw [wk AOq];refine AOy (Ah3 (λi s=>s=(((k + 1 + i:Nat):Int),tab n n<|bF k G2 last (k + 1 + i)<|k + 1)/\k + 1 + i<=n) (n - (k + 1)) (Q:=(· =tab n n (bF k G2 last n<|k + 1))) ⟨by rw [Nat.add_zero,A7u];simp,AOq⟩ AOq λi s hi hI=>?_) λa3 Ah=>?_
       ·obtain ⟨rfl,hin⟩:=hI;unfold Ami;dsimp only;rw [Ahv];obtain ⟨q,hq⟩:∃ q,k + 1 + i=q:=⟨_,rfl⟩;rw [hq] at hin ⊢;refine Aha (λh3=>?_) λh3=>AOt ?_
        ·have hqn:q < n:=by omega
         rw [wk AOq];refine AOy (Ah3 (λj s=>s=(((k + 1 + j:Nat):Int),tab n n<|bF k G2 last q<|k + 1 + j)/\k + 1 + j<=n) (n - (k + 1)) (Q:=(· =tab n n (bF k G2 last q n))) ⟨Ah7,AOq⟩ AOq λj s hj hJ=>?_) λa4 Ai=>AOt ?_
         ·obtain ⟨rfl,hjn⟩:=hJ;unfold Amh;dsimp only;rw [Ahv];obtain ⟨c,hc⟩:∃ c,k + 1 + j=c:=⟨_,rfl⟩;rw [hc] at hjn ⊢;refine Aha (λh4=>?_) λh4=>AOt ?_
          ·have hcn:c < n:=by omega
           refine Ahj (Ah0 hqn) rfl (Ahj (Ah0 hk') rfl (Ahj (Ahu hk') rfl (Ahj (Ahu hcn) rfl ?_)));rw [A7v,BJ4];refine AOy (Aid<|BB5 (habs _ _ AOq AOq AOq AOq)<|habs _ _ AOq AOq AOq AOq) λx1 Aj=>Ahj (Ahu hk') rfl (Ahj (Ahu hcn) rfl ?_);subst Aj;rw [BJ3,A7v];refine AOy (Aid<|BB5 (habs _ _ AOq AOq AOq AOq)<|habs _ _ AOq AOq AOq AOq) λx2 Ak=>?_;subst Ak;refine AOy (Q:=(· =G2 k k * G2 q c - G2 q k * G2 k c)) ⟨_,if_pos ⟨BB6 (habs _ _ AOq AOq AOq AOq)<|habs _ _ AOq AOq AOq AOq,BB6 (habs _ _ AOq AOq AOq AOq)<|habs _ _ AOq AOq AOq AOq⟩,rfl⟩ λx3 Am=>?_
           ·subst Am;refine AOy (Q:=(· =bQ k G2 last q c)) ?_ λx4 Ao=>AOt ⟨AOq,?_,AOq⟩
            ·unfold Ajy A0a;rw [if_pos ⟨BM2 (habs _ _ AOq AOq AOq AOq) (habs _ _ AOq AOq AOq AOq) (habs _ _ AOq AOq AOq AOq)<|habs _ _ AOq AOq AOq AOq,BJ6 hl',hlast.1⟩];exact ⟨_,rfl,rfl⟩
            ·subst Ao;rw [wk AOq,A3w,BDt k G2 last AOq AOq];grind
          grind
         ·subst Ai;refine ⟨AOq,?_,AOq⟩;rw [wk AOq];congr 1
          ·omega
          ·refine A2o λr c hr hc=>?_;rw [BDs k n G2 last q hc,<- Nat.add_assoc,hq]
        grind
       ·subst Ah;refine Ahj (Ah0 hk') rfl (Ahj (Ahu hk') rfl (AOt ⟨_,rfl,?_⟩));rw [A7v];exact A87 Af hk' hne
   ·match ex,hex with
    | .inl e,hex=>exact AOt hex
    | .inr (neg',a',last'),hex=>
      obtain ⟨G',rfl,hB'⟩:=hex
      exact AOt ⟨hk',G',last',neg',by rw [wk AOq];rfl,hB'⟩
  ·obtain rfl:k=n:=by omega
   exact BB3 hB
 ·match ex,hex with
  | .inl e,hex=>exact AOt hex
  | .inr (neg,last),hex=>
    dsimp only at hex ⊢
    rw [hex]
    refine Aha (λh=>AOy (Aid (a:= -last) rfl) λx hx=>AOt ?_) λh=>AOt ?_
    ·rw [hx,h];rfl
    ·rw [if_neg h]
theorem A54 {b:Nat} (hG:2 * (D * D) < Alf) (ha:a<=D) (hb:b<=D):a * b < Alf:=by
 have:=Nat.mul_le_mul ha hb;omega
theorem BM3 (hG:2 * (D * D) < Alf) (ha:a<=D):a < Alf:=by
 rcases Nat.eq_zero_or_pos D with h | h
 ·omega
 ·have h2:=Nat.mul_le_mul h<|Nat.le_refl D;omega
theorem A5i {a b:Int} (hG:2 * (D * D) < Alf) (ha:a.natAbs<=D) (hb:b.natAbs<=D):Ayn fuel a b=some (a * b):=if_pos<|A54 hG ha hb
theorem A9a {a b:Int} (hG:2 * (D * D) < Alf) (ha:a.natAbs<=D) (hb:b.natAbs<=D):(a * b).natAbs < Alf:=by rw [Int.natAbs_mul];exact A54 hG ha hb
theorem BJ8 {a b c:Int} (hG:2 * (D * D) < Alf) (ha:a.natAbs<=D) (hb:b.natAbs<=D) (hc:c.natAbs<=D) (hd:d.natAbs<=D):(a * b - c * d).natAbs < Alf:=by
 have h1:=Nat.mul_le_mul ha hb;have h2:=Nat.mul_le_mul hc hd;rw [<- Int.natAbs_mul] at h1 h2;omega
theorem BM4 {n M N:Nat} (hM:1<=M) (hG:2 * (dBd M (N + 1) * dBd M (N + 1)) < Alf) (hnN:n<=N) (hn:n<=16) (hb:∀ i j,(F i j).natAbs<=M) (hf:17 < fuel):Aig fuel (tab n n F)=some (det n F):=by
 apply ok_eq;unfold Aig;refine AOy (Aid<|BAd (by rw [Ahv];omega) (λz hz=>by rw [A13 z hz];omega) (by rw [Ahv];omega)) λA hA=>?_;subst hA;refine AOy (Q:=(· =1)) ⟨1,if_pos AOq,rfl⟩ λone h1=>?_;subst h1;have hD:dBd M n<=dBd M (N + 1):=Avd hM AOq;have Ap:dBd M (n + 1)<=dBd M (N + 1):=Avd hM AOq;refine AOy (Ah3 (λk s=> ∃ G last neg,s=(neg,((k:Int),tab n n G,last))/\A28 M F n k G last neg) n (Q:=λex=>match ex with | .inl e=>e=det n F | .inr (neg,last)=>det n F=if neg then -last else last) ⟨F,1,false,rfl,A7t hb⟩ AOq λk s hk hI=>?_) λex hex=>?_
 ·obtain ⟨G,last,neg,rfl,hB⟩:=hI;unfold Amj;dsimp only;rw [Ahv];refine Aha (λh=>?_) λh=>AOt ?_
  ·have hk':k < n:=by omega
   refine AOy (Q:=λex=>match ex with | .inl e=>e=det n F | .inr (neg',a',last')=> ∃ G',a'=tab n n G'/\A28 M F n (k + 1) G' last' neg') ?_ λex hex=>?_
   ·refine AOy (Q:=λ(e:Int)=> ∃ p:Nat,e=p/\k<=p/\p<=n/\(∀ i,k<=i->i < p->G i k=0)/\(p < n->G p k≠0)) (AOy (Ah3 (λj (s:Int)=>s=((k + j:Nat):Int)/\k + j<=n/\ ∀ i,k<=i->i < k + j->G i k=0) (n - k) (Q:=λ(e:Int)=> ∃ p:Nat,e=p/\k<=p/\p<=n/\(∀ i,k<=i->i < p->G i k=0)/\(p < n->G p k≠0)) ⟨rfl,AOq,λi h1 h2=>by omega⟩ AOq λj s hj hJ=>?_) λe he=>AOt he) λe he=>?_
    ·obtain ⟨rfl,hjn,hz⟩:=hJ;unfold Amg;rw [Ahv];refine AOy (Q:=λex=>match ex with | .inl _=>k + j < n/\G (k + j) k=0 | .inr _=>k + j < n->G (k + j) k≠0) (Aha (λh2=>Ahj (Ah0 AOq) rfl (Ahj (Ahu AOq) rfl (AOy (Aid (a:=Anz<|G (k + j) k) rfl) λsg hsg=>Aha (λh3=>AOt ⟨AOq,?_⟩) λh3=>AOt λ_=>?_))) λh2=>AOt λh3=>by omega) λex hex=>?_
     ·subst hsg;exact A4o.1 h3
     ·subst hsg;exact λh4=>h3<|A4o.2 h4
     ·cases ex with
      | inl u=>exact AOt ⟨AOq,by rw [wk AOq];omega,AOq,λi h1 h2=>by
         grind⟩
      | inr u=>exact AOt ⟨k + j,rfl,AOq,hjn,hz,hex⟩
    ·obtain ⟨p,rfl,hkp,hpn,hz,hp⟩:=he;refine Aha (λh2=>AOt ?_) λh2=>?_
     ·obtain rfl:p=n:=by omega
      exact (A88 hB hk' hz).symm
     ·have hp':p < n:=by omega
      refine AOy (Q:=λ(r:Bool × List (List Int))=> ∃ G',r.2=tab n n G'/\A28 M F n k G' last r.1/\G' k k≠0) (Aha (λh3=>Ahj (Ah0 AOq) rfl (Ahj (Ah0 AOq) rfl (AOt ⟨Anp G p k,?_,A86 hB AOq hp',?_⟩))) λh3=>AOt ⟨G,rfl,hB,?_⟩) λr hr=>?_
      ·dsimp only;rw [Ai9,Ai9];show ((tab n n G).set p (Aju n<|G k)).set k (Aju n<|G p)=_;rw [show Aju n (G k)=(List.range n).map (G k) from rfl,show Aju n (G p)=(List.range n).map (G p) from rfl,Ar9,Ar9];rfl
      ·rw [Asl,if_pos rfl];exact hp hp'
      ·grind
      ·obtain ⟨Aq,a2⟩:=r;obtain ⟨G2,Ag,Af,hne⟩:=hr;dsimp only at Ag Af ⊢;subst Ag;have hlast:=A89 hM Af AOq;have habs:∀ i j,k<=i->i < n->k<=j->j < n->(G2 i j).natAbs<=dBd M (N + 1):=λi j h1 h2 h3 h4=>Nat.le_trans (BB4 hM Af hk' h1 h2 h3 h4).1 hD;have hl':last.natAbs<=dBd M (N + 1):=Nat.le_trans hlast.2 hD;rw [wk AOq];refine AOy (Ah3 (λi s=>s=(((k + 1 + i:Nat):Int),tab n n<|bF k G2 last (k + 1 + i)<|k + 1)/\k + 1 + i<=n) (n - (k + 1)) (Q:=(· =tab n n (bF k G2 last n<|k + 1))) ⟨by rw [Nat.add_zero,A7u];simp,AOq⟩ AOq λi s hi hI=>?_) λa3 Ah=>?_
       ·obtain ⟨rfl,hin⟩:=hI;unfold Ami;dsimp only;rw [Ahv];obtain ⟨q,hq⟩:∃ q,k + 1 + i=q:=⟨_,rfl⟩;rw [hq] at hin ⊢;refine Aha (λh3=>?_) λh3=>AOt ?_
        ·have hqn:q < n:=by omega
         rw [wk AOq];refine AOy (Ah3 (λj s=>s=(((k + 1 + j:Nat):Int),tab n n<|bF k G2 last q<|k + 1 + j)/\k + 1 + j<=n) (n - (k + 1)) (Q:=(· =tab n n (bF k G2 last q n))) ⟨Ah7,AOq⟩ AOq λj s hj hJ=>?_) λa4 Ai=>AOt ?_
         ·obtain ⟨rfl,hjn⟩:=hJ;unfold Amh;dsimp only;rw [Ahv];obtain ⟨c,hc⟩:∃ c,k + 1 + j=c:=⟨_,rfl⟩;rw [hc] at hjn ⊢;refine Aha (λh4=>?_) λh4=>AOt ?_
          ·have hcn:c < n:=by omega
           refine Ahj (Ah0 hqn) rfl (Ahj (Ah0 hk') rfl (Ahj (Ahu hk') rfl (Ahj (Ahu hcn) rfl ?_)));rw [A7v,BJ4];refine AOy (Aid<|A5i hG (habs _ _ AOq AOq AOq AOq)<|habs _ _ AOq AOq AOq AOq) λx1 Aj=>Ahj (Ahu hk') rfl (Ahj (Ahu hcn) rfl ?_);subst Aj;rw [BJ3,A7v];refine AOy (Aid<|A5i hG (habs _ _ AOq AOq AOq AOq)<|habs _ _ AOq AOq AOq AOq) λx2 Ak=>?_;subst Ak;refine AOy (Q:=(· =G2 k k * G2 q c - G2 q k * G2 k c)) ⟨_,if_pos ⟨A9a hG (habs _ _ AOq AOq AOq AOq)<|habs _ _ AOq AOq AOq AOq,A9a hG (habs _ _ AOq AOq AOq AOq)<|habs _ _ AOq AOq AOq AOq⟩,rfl⟩ λx3 Am=>?_
           ·subst Am;refine AOy (Q:=(· =bQ k G2 last q c)) ?_ λx4 Ao=>AOt ⟨AOq,?_,AOq⟩
            ·unfold Ajy A0a;rw [if_pos ⟨BJ8 hG (habs _ _ AOq AOq AOq AOq) (habs _ _ AOq AOq AOq AOq) (habs _ _ AOq AOq AOq AOq)<|habs _ _ AOq AOq AOq AOq,BM3 hG hl',hlast.1⟩];exact ⟨_,rfl,rfl⟩
            ·subst Ao;rw [wk AOq,A3w,BDt k G2 last AOq AOq];grind
          grind
         ·subst Ai;refine ⟨AOq,?_,AOq⟩;rw [wk AOq];congr 1
          ·omega
          ·refine A2o λr c hr hc=>?_;rw [BDs k n G2 last q hc,<- Nat.add_assoc,hq]
        grind
       ·subst Ah;refine Ahj (Ah0 hk') rfl (Ahj (Ahu hk') rfl (AOt ⟨_,rfl,?_⟩));rw [A7v];exact A87 Af hk' hne
   ·match ex,hex with
    | .inl e,hex=>exact AOt hex
    | .inr (neg',a',last'),hex=>
      obtain ⟨G',rfl,hB'⟩:=hex
      exact AOt ⟨hk',G',last',neg',by rw [wk AOq];rfl,hB'⟩
  ·obtain rfl:k=n:=by omega
   exact BB3 hB
 ·match ex,hex with
  | .inl e,hex=>exact AOt hex
  | .inr (neg,last),hex=>
    dsimp only at hex ⊢
    rw [hex]
    refine Aha (λh=>AOy (Aid (a:= -last) rfl) λx hx=>AOt ?_) λh=>AOt ?_
    ·rw [hx,h];rfl
    ·rw [if_neg h]
def mN (n:Nat):Nat:=if n<=6 then 2 ^ 194 else 2 ^ 100
def gN (n:Nat):Nat:=if n<=6 then dBd (2 ^ 194) 7 else dBd (2 ^ 100) 9
theorem A9b (n:Nat):2 ^ 100<=mN n:=by unfold mN;split <;> decide
theorem BJ9 (n:Nat):64 * (gN n * gN n) < Alf:=by unfold gN;split <;> decide
theorem BKa (n:Nat):3<=gN n:=by unfold gN;split <;> decide
theorem BR7 (n:Nat):24 * (gN n * mN n)<=(2 ^ 158) ^ 10:=by unfold gN mN;split <;> decide
theorem BKb {n:Nat} (hn:n<=8) (hk:k<=n + 1):dBd (mN n) k<=gN n:=by
 unfold mN gN;split
 ·exact Avd AOs AOq
 ·exact Avd AOs AOq
theorem BKc (n:Nat):2 * (gN n * gN n) < Alf:=by have:=BJ9 n;omega
theorem A4p {n N:Nat} (hN:N<=8) (hn:n<=N) (hb:∀ i j,i < n->j < n->(F i j).natAbs<=mN N) (hf:17 < fuel):Aig fuel (tab n n F)=some (det n F):=by
 have e1:tab n n F=tab n n λi j=>if i < n/\j < n then F i j else 0:=by
  rw [Awe,Awe]
  exact Ai0 λi hi=>Ai0 λj hj=>by omega
 have e2:det n F=det n λi j=>if i < n/\j < n then F i j else 0:=Ajc λi j hi hj=>by omega
 have hg:=BKb hN<|Nat.le_refl<|N + 1;have h1:=A9b N;rw [e1,e2];refine BM4 (M:=mN N) (Nat.le_trans AOs h1) (Nat.lt_of_le_of_lt (Nat.mul_le_mul_left 2<|Nat.mul_le_mul hg hg)<|BKc N) hn AOq (λi j=>?_) hf;grind
theorem BM5:FdT Tryz.prog 24 0 0 5:=⟨_,_,Tryz.underlying24,rfl,rfl,rfl⟩
theorem BM6:FdT Tryz.prog 24 1 1 5:=⟨_,_,Tryz.underlying24,rfl,rfl,rfl⟩
theorem BM7:FdT Tryz.prog 24 2 2 22:=⟨_,_,Tryz.underlying24,rfl,rfl,rfl⟩
theorem BKd:AgT Tryz.prog 24 4:=A3m Tryz.underlying24 rfl AO5
end Go.Proofs.YtkakafabeobahaaGreatDoor
namespace Go.Proofs.YtkakafabeobahaaGreatDoor
open Go Go.QF
set_option maxRecDepth 100000
set_option maxHeartbeats 40000000
def Aml (fuel:Nat) (a1:Int) (a5:LiA) (Ac Aa Ad:Int) (Ae:LiI):Option ((Int × Int × LiI) ⊕ (Int × LiI)):=
 if Aa < ((List.replicate (Int.toNat<|w64<|1 + Int.tmod (w64 a1) Ac) ([]:List Int)).length:Int) then if 0<=w64 (1 + Int.tmod (w64 a1) Ac)/\w64 (1 + Int.tmod (w64 a1) Ac)<=100000000 then (gI Ae Aa).bind λAo=>(gI (sI Ae Aa<|List.replicate (Int.toNat<|w64<|1 + Int.tmod (w64 a1) Ac) (0:Int)) Aa).bind λAg=>((((if (a5.length:Int)<=Ad then some (0,Ad) else (gI a5<|w64<|w64 (Ad + 1) - 1).bind λAh=>some (w64 Ah,w64<|Ad + 1)):Option (Int × Int)).bind λ(Ai,Aj)=>some (Int.tmod (w64<|IntKind.wrap .u8 Ai) 6,Aj)):Option (Int × Int)).bind λ(Ak,Am)=>(gI Ag Aa).bind λAp=>some (.inl (w64<|Aa + 1,Am,sI (sI Ae Aa<|List.replicate (Int.toNat<|w64<|1 + Int.tmod (w64 a1) Ac) (0:Int)) Aa<|sI Ag Aa<|w64<|1 + Ak)) else none else some<|.inr (Ad,Ae)
def Aoz (fuel:Nat) (a5:LiA) (Ab Aa Ac:Int) (Ad:LiI):Option ((Int × Int × LiI) ⊕ (Int × LiI)):=
 if Aa < Ab then (gI Ad Ab).bind λAe=>((if (a5.length:Int)<=Ac then some (0,Ac) else (gI a5<|w64<|w64 (Ac + 1) - 1).bind λAi=>some (w64 Ai,w64<|Ac + 1)):Option (Int × Int)).bind λ(Af,Aj)=>(gI Ae Aa).bind λAo=>(gI (sI Ad Ab<|sI Ae Aa<|Int.tmod Af 3) Aa).bind λAh=>(gI (sI Ad Ab<|sI Ae Aa<|Int.tmod Af 3) Ab).bind λAk=>(gI Ak Aa).bind λAm=>(gI Ah Ab).bind λAp=>some (.inl (w64<|Aa + 1,Aj,sI (sI Ad Ab<|sI Ae Aa<|Int.tmod Af 3) Aa<|sI Ah Ab Am)) else some<|.inr (Ac,Ad)
def Amm (fuel:Nat) (a5:LiA) (Ae:LiI) (Aa Ab:Int) (Ac:LiI):Option ((Int × Int × LiI) ⊕ (Int × LiI)):=
 if Aa < (Ae.length:Int) then (iter (λs=>Aoz fuel a5 Aa s.1 s.2.1 s.2.2) fuel (0,Ab,Ac)).bind (λ((Af,Ag):Int × LiI)=>some<|.inl (w64<|Aa + 1,Af,Ag)) else some<|.inr (Ab,Ac)
def Al2 (fuel:Nat) (a1:Int) (a5:LiA) (Ac Aa Ad:Int) (Ae:LiI):Option ((Int × Int × LiI) ⊕ (Int × LiI)):=
 if Aa < ((List.replicate (Int.toNat<|w64<|1 + Int.tmod (w64 a1) Ac) ([]:List Int)).length:Int) then if 0<=w64 (1 + Int.tmod (w64 a1) Ac)/\w64 (1 + Int.tmod (w64 a1) Ac)<=100000000 then (gI Ae Aa).bind λAo=>(gI (sI Ae Aa<|List.replicate (Int.toNat<|w64<|1 + Int.tmod (w64 a1) Ac) (0:Int)) Aa).bind λAg=>((((if (a5.length:Int)<=Ad then some (0,Ad) else (gI a5<|w64<|w64 (Ad + 1) - 1).bind λAh=>some (w64 Ah,w64<|Ad + 1)):Option (Int × Int)).bind λ(Ai,Aj)=>some (Int.tmod (w64<|IntKind.wrap .u8 Ai) 9,Aj)):Option (Int × Int)).bind λ(Ak,Am)=>(gI Ag Aa).bind λAp=>some (.inl (w64<|Aa + 1,Am,sI (sI Ae Aa<|List.replicate (Int.toNat<|w64<|1 + Int.tmod (w64 a1) Ac) (0:Int)) Aa<|sI Ag Aa<|w64<|1 + Ak)) else none else some<|.inr (Ad,Ae)
def Al3 (fuel:Nat) (a1:Int) (a5:LiA) (Ac Aa Ad:Int) (Ae:LiI):Option ((Int × Int × LiI) ⊕ (Int × LiI)):=
 if Aa < ((List.replicate (Int.toNat<|w64<|1 + Int.tmod (w64 a1) Ac) ([]:List Int)).length:Int) then if 0<=w64 (1 + Int.tmod (w64 a1) Ac)/\w64 (1 + Int.tmod (w64 a1) Ac)<=100000000 then (gI Ae Aa).bind λAo=>(gI (sI Ae Aa<|List.replicate (Int.toNat<|w64<|1 + Int.tmod (w64 a1) Ac) (0:Int)) Aa).bind λAg=>((((if (a5.length:Int)<=Ad then some (0,Ad) else (gI a5<|w64<|w64 (Ad + 1) - 1).bind λAh=>some (w64 Ah,w64<|Ad + 1)):Option (Int × Int)).bind λ(Ai,Aj)=>some (Int.tmod (w64<|IntKind.wrap .u8 Ai) 1,Aj)):Option (Int × Int)).bind λ(Ak,Am)=>(gI Ag Aa).bind λAp=>some (.inl (w64<|Aa + 1,Am,sI (sI Ae Aa<|List.replicate (Int.toNat<|w64<|1 + Int.tmod (w64 a1) Ac) (0:Int)) Aa<|sI Ag Aa<|w64<|1 + Ak)) else none else some<|.inr (Ad,Ae)
def Al4 (fuel:Nat) (a1:Int) (a5:LiA) (Ac Aa Ad:Int) (Ae:LiI):Option ((Int × Int × LiI) ⊕ (Int × LiI)):=
 if Aa < ((List.replicate (Int.toNat<|w64<|1 + Int.tmod (w64 a1) Ac) ([]:List Int)).length:Int) then if 0<=w64 (1 + Int.tmod (w64 a1) Ac)/\w64 (1 + Int.tmod (w64 a1) Ac)<=100000000 then (gI Ae Aa).bind λAo=>(gI (sI Ae Aa<|List.replicate (Int.toNat<|w64<|1 + Int.tmod (w64 a1) Ac) (0:Int)) Aa).bind λAg=>((((if (a5.length:Int)<=Ad then some (0,Ad) else (gI a5<|w64<|w64 (Ad + 1) - 1).bind λAh=>some (w64 Ah,w64<|Ad + 1)):Option (Int × Int)).bind λ(Ai,Aj)=>some (Int.tmod (w64<|IntKind.wrap .u8 Ai) 2,Aj)):Option (Int × Int)).bind λ(Ak,Am)=>(gI Ag Aa).bind λAp=>some (.inl (w64<|Aa + 1,Am,sI (sI Ae Aa<|List.replicate (Int.toNat<|w64<|1 + Int.tmod (w64 a1) Ac) (0:Int)) Aa<|sI Ag Aa<|w64<|1 + Ak)) else none else some<|.inr (Ad,Ae)
def Als (fuel:Nat) (a1 a2:Int) (a5 a9:LiA) (Aa:Int):Option LiI:=
 if Aa≠0 then ((((if Int.tmod a2 8=0 then some (decide (Int.tmod a2 8=0)) else if Int.tmod a2 8=1 then some (decide (Int.tmod a2 8=1)) else if Int.tmod a2 8=2 then some (decide (Int.tmod a2 8=2)) else some<|decide (Int.tmod a2 8=3)):Option Bool).bind (λ(Ak:Bool)=>if Ak=true then ((((if 0<=w64 (1 + Int.tmod (w64 a1) Aa)/\w64 (1 + Int.tmod (w64 a1) Aa)<=100000000 then (iter (λs=>Aml fuel a1 a5 Aa s.1 s.2.1 s.2.2) fuel (0,0,List.replicate (Int.toNat<|w64<|1 + Int.tmod (w64 a1) Aa) ([]:List Int))).bind (λ((Am,Ao):Int × LiI)=>some (Ao,Am)) else none):Option (LiI × Int)).bind λ(Ae,Ap)=>(iter (λs=>Amm fuel a5 Ae s.1 s.2.1 s.2.2) fuel (0,Ap,Ae)).bind (λ((Aq,Ar):Int × LiI)=>some (Ar,Aq))):Option (LiI × Int)).bind λ(Au,Av)=>some (Au,Av) else if Int.tmod a2 8=4 then (Anr fuel (w64<|1 + Int.tmod (w64 a1) Aa) false).bind λAf=>(gI Af 0).bind λAg=>(gI Ag 0).bind λAw=>((((if (a5.length:Int)<=0 then some (0,0) else (gI a5<|w64<|w64 (0 + 1) - 1).bind λAx=>some (w64 Ax,w64<|0 + 1)):Option (Int × Int)).bind λ(Ay,Az)=>some (Int.tmod (w64<|IntKind.wrap .u8 Ay) 3,Az)):Option (Int × Int)).bind λ(A3,A4)=>some (sI Af 0<|sI Ag 0<|w64<|Aw + A3,A4) else if Int.tmod a2 8=5 then (Anr fuel (w64<|1 + Int.tmod (w64 a1) Aa) true).bind λAh=>(gI Ah<|w64<|w64 (1 + Int.tmod (w64 a1) Aa) - 1).bind λAi=>(gI Ai<|w64<|w64 (1 + Int.tmod (w64 a1) Aa) - 1).bind λA5=>((((if (a5.length:Int)<=0 then some (0,0) else (gI a5<|w64<|w64 (0 + 1) - 1).bind λA6=>some (w64 A6,w64<|0 + 1)):Option (Int × Int)).bind λ(A7,A8)=>some (Int.tmod (w64<|IntKind.wrap .u8 A7) 2,A8)):Option (Int × Int)).bind λ(A9,Ba)=>some (sI Ah (w64<|w64 (1 + Int.tmod (w64 a1) Aa) - 1)<|sI Ai (w64<|w64 (1 + Int.tmod (w64 a1) Aa) - 1)<|w64<|A5 + A9,Ba) else if Int.tmod a2 8=6 then ((if 0<=w64 (1 + Int.tmod (w64 a1) Aa)/\w64 (1 + Int.tmod (w64 a1) Aa)<=100000000 then (iter (λs=>Al2 fuel a1 a5 Aa s.1 s.2.1 s.2.2) fuel (0,0,List.replicate (Int.toNat<|w64<|1 + Int.tmod (w64 a1) Aa) ([]:List Int))).bind (λ((Bb,Bc):Int × LiI)=>some (Bc,Bb)) else none):Option (LiI × Int)).bind λ(Be,Bf)=>some (Be,Bf) else ((if 0<=w64 (1 + Int.tmod (w64 a1) Aa)/\w64 (1 + Int.tmod (w64 a1) Aa)<=100000000 then (iter (λs=>Al3 fuel a1 a5 Aa s.1 s.2.1 s.2.2) fuel (0,0,List.replicate (Int.toNat<|w64<|1 + Int.tmod (w64 a1) Aa) ([]:List Int))).bind (λ((Bg,Bh):Int × LiI)=>some (Bh,Bg)) else none):Option (LiI × Int)).bind λ(Bi,Bj)=>some (Bi,Bj))):Option (LiI × Int)).bind (λ((Aj,Bl):LiI × Int)=>(Apx fuel Aj).bind λBm=>if (!Bm)=true then ((if 0<=w64 (1 + Int.tmod (w64 a1) Aa)/\w64 (1 + Int.tmod (w64 a1) Aa)<=100000000 then (iter (λs=>Al4 fuel a1 a5 Aa s.1 s.2.1 s.2.2) fuel (0,Bl,List.replicate (Int.toNat<|w64<|1 + Int.tmod (w64 a1) Aa) ([]:List Int))).bind (λ((Bn,Bo):Int × LiI)=>some (Bo,Bn)) else none):Option (LiI × Int)).bind λ(Bp,Br)=>some Bp else some Aj) else none
theorem Awv {Ab:Value} {a5:LiA} {B6:Value} {a9:LiA} {Am:Int} {r:LiI} (H4:SlC (cI .i8) h Ab a5) (H8:SlC (cI .i8) h B6 a9) (hp:Als fuel a1 a2 a5 a9 Am=some r):Ahq Tryz.prog 31 #[(.agg #[(.int .u8 a1),(.int .u8 a2),Ab,B6]),(.int .i64 Am)] h (λx h'=>Ext h h'/\ ∃ (x0:Value) (F0:List Nat) (Hf:List LnA) (Hg:List Value),x=x0/\Aj0 (cI .i64) 61 2 h' F0 Hf Hg x0 r/\Sp h' h.size [F0]):=by
 unfold Als at hp;refine cwf (l:=[_,_]) Tryz.func31 rfl rfl (AOv<|Ao1 (Kst.k0 h) [(.int .u8 a1),(.int .u8 a2),Ab,B6] λTu Tv Tw B7=>Ah4<|Ajl BM7 Aye (B7.b p0) 2 rfl ?_);obtain ⟨_,_,_,Hh⟩:=(H4.ext B7.x).shape;refine Akh (v:=(.agg #[Ab,(.int .i64 0)])) (λ_=>by subst Hh;kernel_rfl)<|Ao1 B7 [Ab,(.int .i64 0)] λAa Tx Ty Ax=>Ah4<|Ajl BM5 BOq (Ax.b p1) 0 rfl (Asv Axw Awq rfl (AOr ?_));obtain ⟨Hj,Hk⟩:=ifN hp;refine Ajh rfl rfl Hj (Ahp rfl rfl (Ah4<|AO1 ?_));obtain ⟨Hl,Hm,Dy⟩:=AOw Hk;refine Aqt 147573952589676150912 (λx:(LiI) × (Value) × LnA × LnN × LvA × (Int)=>[(7,x.2.1)]) (λx h'=>( (x.1,x.2.2.2.2.2))=Hl/\Kst h h' (aO2 (cI .i64) 61 2 x.2.2.1 x.2.2.2.1 x.2.2.2.2.1 x.2.1 x.1 :: ((Apc Ax.L [0]).set 0 (aB 109 Aa [Ab,(.int .i64 x.2.2.2.2.2)])))) ?_ ?_
 ·refine AOv<|Ajl BM6 BOq (Ax.b p1) 1 rfl (Ajh rfl rfl AOs (AOz<|AO0 ?_));obtain ⟨Hn,Dz,B8⟩:=AOw Hm;refine Aqt 520093696 (λx:(Bool)=>[(24,(.bool x))]) (λx h'=>( x)=Hn/\Kst h h' (Apc Ax.L [0])) ?_ ?_
  ·refine AOv<|Aiy rfl rfl (AO1<|⟨_,rfl,λB9=>?_,λB9=>?_⟩)
   ·refine AO4<|q_t ?_;exact ⟨((decide ((Int.tmod a2 8)=0)):(Bool)),⟨AOu<|Ahx Dz B9,Ax.sel [0] AOs⟩,rfl,trivial⟩
   ·refine AOv<|Aiy rfl rfl (AO1 ?_);have D0:=Ahy Dz B9;refine ⟨_,rfl,λCa=>?_,λCa=>?_⟩
    ·refine AO4<|q_t ?_;exact ⟨((decide ((Int.tmod a2 8)=1)):(Bool)),⟨AOu<|Ahx D0 Ca,Ax.sel [0] AOs⟩,rfl,trivial⟩
    ·refine AOv<|Aiy rfl rfl (AO1 ?_);have D1:=Ahy D0 Ca;refine ⟨_,rfl,λCb=>?_,λCb=>?_⟩
     ·refine AO4<|q_t ?_;exact ⟨((decide ((Int.tmod a2 8)=2)):(Bool)),⟨AOu<|Ahx D1 Cb,Ax.sel [0] AOs⟩,rfl,trivial⟩
     ·refine Ag6<|Aiy rfl rfl (AO1 ?_);exact ⟨((decide ((Int.tmod a2 8)=3)):(Bool)),⟨AOu<|Ahy D1 Cb,Ax.sel [0] AOs⟩,rfl,trivial⟩
  rintro Ho Hq Hr ⟨Hs,Ao⟩;(try dsimp only [Kst.L,List.set,Apc,As8] at Ao);refine (show W _ _ _ (setL [(24,(.bool Ho))]<|mix _ Hq _) Hr from ?_);subst Hs;(try dsimp only at B8);refine ⟨_,rfl,λCd=>?_,λCd=>?_⟩
  ·refine Ag6<|AOr<|AOr ?_;obtain ⟨Ht,Hu,D2⟩:=AOw<|ifT B8 Cd;refine Ahr (K':=(λxr h'=> ∃ x:(LiI) × (Value) × LnA × LnN × LvA × (Int),(x.1,x.2.2.2.2.2)=Ht/\xr=x.2.1/\Kst h h' (aO2 (cI .i64) 61 2 x.2.2.1 x.2.2.2.1 x.2.2.2.2.1 x.2.1 x.1 :: (Ao.L.set 0<|aB 109 Aa [Ab,(.int .i64 x.2.2.2.2.2)])))) trivial rfl ?_ λD3 Tz Hv=>?_
   ·refine cwf (l:=[_,_]) Tryz.func72 rfl rfl (AOv<|Ah4<|AOr<|AOr ?_);obtain ⟨Hw,Hx,D4⟩:=AOw Hu;refine Ahr (K':=(λxr h'=> ∃ x:(LiI) × (Value) × LnA × LnN × LvA × (Int),(x.1,x.2.2.2.2.2)=Hw/\xr=x.2.1/\Kst h h' (aO2 (cI .i64) 61 2 x.2.2.1 x.2.2.2.1 x.2.2.2.2.1 x.2.1 x.1 :: (Ao.L.set 0<|aB 109 Aa [Ab,(.int .i64 x.2.2.2.2.2)])))) trivial rfl ?_ λBa T0 Hy=>?_
    ·refine cwf (l:=[_,_,_]) Tryz.func75 rfl rfl (AOv<|Ah4<|AOr ?_);obtain ⟨Hz,H5⟩:=ifN Hx;refine Azg (cI .i64) 2 APa Atu rfl trivial tt2 rfl rfl AOs Hz λIa Ib Ic D5 T3 Id Ie If=>AO1<|AOx<|AOv<|AOr ?_;have Ce:=Ao.no2 Ie If Id;refine Ahw APa rfl (Ce.o2 p0).rd (AOr<|AOz<|AO0<|Anb 4294959360 (λx:(Int) × (Int) × (LiI) × LnA × LnN × LvA=>(x.1,x.2.1,x.2.2.1)) ((0,0,(List.replicate (Int.toNat<|w64<|1 + (Int.tmod (w64 a1) Am)) ([]:List Int)),Ia,Ib,Ic):(Int) × (Int) × (LiI) × LnA × LnN × LvA) H5 (λx=>[(13,(.int .i64 x.1))]) (λx=>(Ce.L.set 0<|aO2 (cI .i64) 61 2 x.2.2.2.1 x.2.2.2.2.1 x.2.2.2.2.2 D5 x.2.2.1).set 1 (aB 109 Aa [Ab,(.int .i64 x.2.1)])) Ce ⟨rfl,trivial⟩ ?_);rintro ⟨Cf,Bb,Ih,Ii,Ij,Ik⟩ Il Im T4 Cg Bc Io;(try dsimp only [Kst.L,List.set,Apc,As8] at Cg);refine (show W _ _ _ (setL [(13,(.int .i64 Cf))]<|mix _ Il _) Im from ?_);(try dsimp only at Bc);unfold Aml at Bc;refine AOv<|Aho rfl rfl (AOz<|AOx<|⟨_,rfl,λCh=>?_,λCh=>?_⟩)
     ·refine AO4<|q_t<|AOx<|AO0<|AOv<|AOr<|Ah4<|AOr<|AOr<|AOr ?_;obtain ⟨Ip,Iq⟩:=ifN<|Ahx Bc Ch;refine Axl (c:=(cI .i64)) (a:=0) APd Arq rfl rfl (λ_=>rfl) rfl trivial tt2 rfl rfl AOs Ip λT5 T6 T7 Ir Is It Iu=>?_;have A3:=Cg.no Is (Anx It Iu) Ir;obtain ⟨T8,D6,Iv⟩:=AOw Iq;refine Aii APa rfl (A3.o2 p1) rfl D6 λT9 Ua Iw Ub Uc=>Az7 Ahb (A3.o2 p1) D6 Iw rfl rfl (A3.o p0) (A3.dj p0 p1 AOs) λAp Ix Iy Iz=>AOz<|Aiz (λh'=>UpT ([Aa] ++ []) Ap h') AO5 ?_;have Af:=A3.m2 p0 p1 AOs Iy Ix λz hz=> .inl<|Iz z hz;have Ci:UpT ([Aa] ++ []) Ap Ap:=UpT.start<|Aiv (Anl (Af.b p2) rfl) all_nil;refine AOr<|AOr ?_;obtain ⟨Ud,Cj,I0⟩:=AOw Iv;refine Aii APa rfl (Af.o2 p1) rfl Cj λUe Uf I1 I2 I3=>Ahk Ahb rfl Ci (λh' hb=>Ats I3 hb<|Azs (Af.dj p1 p2 AOs _<|by simp [aO,aO2,I1]) Azt) (AOr<|AOr<|AOr ?_);obtain ⟨I6,I7,D7⟩:=AOw I0;have I9:UpT ([Aa] ++ []) Ap Ap:=UpT.start<|Aiv (Anl (Af.b p2) rfl) all_nil;refine Ahr (K':=(λxr h'=> ∃ x:(Int) × (Int),(x.1,x.2)=I6/\xr=(.int .i64 x.1)/\Kst h h' ((Apc Af.L [1,2]).set 1 (aB 109 Aa [Ab,(.int .i64 x.2)]))/\UpT ([Aa] ++ []) Ap h')) Ci rfl ?_ λUg Uh Ja=>?_
      ·refine cwf (l:=[_,_]) Tryz.func74 rfl rfl (AOv<|Ah4<|AOr ?_);obtain ⟨Jc,D8,D9⟩:=AOw I7;have Ea:UpT ([Aa] ++ []) Ap Ap:=UpT.start<|Aiv (Anl (Af.b p2) rfl) all_nil;refine Ahr (K':=(λxr h'=> ∃ x:(Int) × (Int),(x.1,x.2)=Jc/\xr=(.int .i64 x.1)/\Kst h h' ((Apc Af.L [1,2]).set 1 (aB 109 Aa [Ab,(.int .i64 x.2)]))/\UpT ([Aa] ++ []) Ap h')) trivial rfl ?_ λUi Uj Je=>?_
       ·refine cwf (l:=[_]) Tryz.func135 rfl rfl (AOv<|AO1<|AOx<|AOx<|Ana<|AOr<|Ah2 rfl (Ah1 Aj9 rfl (Aht Aiw rfl ((Af.b p2).cell (i:=1) rfl) (AOr<|Ah2 rfl (Ah1 Arb rfl (Aht Aye rfl ((Af.b p2).cell (i:=0) rfl) (Aio Azc rfl H4 (Auh rfl rfl (AOz<|⟨_,rfl,λCk=>?_,λCk=>?_⟩)))))))))
        ·refine AOv<|AO1<|AO6<|Ag9<|⟨_,AO7,((0,Bb):(Int) × (Int)),?_,rfl,?_,?_⟩
         ·exact AOu<|Ahx D8 Ck
         ·exact Af.sel [1,2] AOs
         ·exact Ea
        ·refine AO4<|q_t<|AOv<|AOr<|Ah2 rfl (Ah1 Aj9 rfl (Aht Aiw rfl ((Af.b p2).cell (i:=1) rfl) (Ahp rfl rfl (Ah2 rfl (Ah1 Aj9 rfl (Au6 [Ab,(.int .i64<|w64<|Bb + 1)] Aiw rfl rfl rfl (Af.b p2) (Nat.le_of_ble_eq_true rfl) rfl λUk Eb Ec=>AOz<|AOx<|Ana<|AOr<|Ah2 rfl (Ah1 Arb rfl ?_)))))));have Be:=Af.sb p2 Ec Eb rfl;refine Aht Aye rfl ((Be.b p2).cell (i:=0) rfl) (AOr<|Ah2 rfl (Ah1 Aj9 rfl (Aht Aiw rfl ((Be.b p2).cell (i:=1) rfl) (Anj rfl rfl ?_))));obtain ⟨Jf,Jg,Jh⟩:=AOw<|Ahy D8 Ck;refine Aqe (c:=(cI .i8)) Azc rfl H4 rfl Jg λUl Um Un Ji Jj=>?_;obtain rfl:=Ji;refine Aht A65 rfl (AO8 (Jj 0 _ rfl) Be.x) (Asv A66 Arp rfl (AO1<|AO6<|⟨_,AO7,(((w64 Jf),(w64<|Bb + 1)):(Int) × (Int)),?_,rfl,?_,?_⟩))
         ·exact AOu Jh
         ·exact Be.sel [1,2] AOs
         ·exact (Ea.then (Eb.stA Ec (Anl (Af.b p2) rfl) rfl)<|Am2 rfl)
       obtain ⟨⟨Jk,Jl⟩,Jm,rfl,Ed,Jn⟩:=Je;(try dsimp only [Kst.L,List.set,Apc,As8] at Ed);refine ⟨trivial,?_⟩;subst Jm;(try dsimp only at D9);refine Asv Arp Axw rfl (Asv Axw Awq rfl (AOr<|Ajh rfl rfl AOs (AO1<|AO6<|⟨_,AO7,(((Int.tmod (w64<|IntKind.wrap .u8 Jk) 6),Jl):(Int) × (Int)),?_,rfl,?_,?_⟩)))
       ·exact AOu D9
       ·exact Ed
       ·exact (I9.then Jn<|Aiv (Am2 rfl) all_nil)
      obtain ⟨⟨Jo,Uo⟩,Jp,rfl,Cm,Jq⟩:=Ja;(try dsimp only [Kst.L,List.set,Apc,As8] at Cm);refine ⟨(Ci.then Jq<|Aiv (Am2 rfl) all_nil),?_⟩;subst Jp;(try dsimp only at D7);refine Ahp rfl rfl ?_;obtain ⟨Up,Ee,Jr⟩:=AOw D7;refine Ain (m:=Cf) APd rfl (Af.o2 p1) I2 Cj rfl Ee λUq Js=>Aon (m:=Cf) (Ame AO9 rfl rfl rfl) (Cm.o2 p0) Js Cj Ee (show ((cI .i64)).rep _ (w64<|1 + Jo) _ from rfl) λUr Jt Ju=>Ahh<|q_b<|q_t<|Ag6<|Ahp rfl rfl (AOr<|AOz ?_);exact ⟨(_,_,_,_,_,_),(AOu Jr).symm,(Cm.uO2 p0 Ju Jt),rfl,trivial⟩
     ·have Ef:=Io _ (AOu<|Ahy Bc Ch).symm;(try dsimp only at Ef);refine Ahf<|Ahg<|Ahg<|Aim<|q_t<|AOv<|AOr<|AO1<|AO6<|⟨_,AO7,((Ih,D5,Ii,Ij,Ik,Bb):(LiI) × (Value) × LnA × LnN × LvA × (Int)),?_,rfl,?_⟩
      ·exact AOu Ef
      ·exact Cg
    obtain ⟨⟨Jv,Ba,Jw,Jx,Jy,Jz⟩,J0,rfl,Bf⟩:=Hy;(try dsimp only [Kst.L,List.set,Apc,As8] at Bf);refine ⟨trivial,?_⟩;subst J0;(try dsimp only at D4);refine AO1<|AOx<|AOv<|AOr<|Ahw APa rfl (Bf.o2 p0).rd (AOr<|AOz<|AO0<|Anb 17592186036416 (λx:(Int) × (Int) × (LiI) × LnA × LnN × LvA=>(x.1,x.2.1,x.2.2.1)) ((0,Jz,Jv,Jw,Jx,Jy):(Int) × (Int) × (LiI) × LnA × LnN × LvA) D4 (λx=>[(13,(.int .i64 x.1))]) (λx=>(Bf.L.set 0<|aO2 (cI .i64) 61 2 x.2.2.2.1 x.2.2.2.2.1 x.2.2.2.2.2 Ba x.2.2.1).set 1 (aB 109 Aa [Ab,(.int .i64 x.2.1)])) Bf ⟨rfl,trivial⟩ ?_);rintro ⟨Bg,Eg,Eh,Ei,Ej,Ek⟩ J1 J2 Us Bh Bi J3;(try dsimp only [Kst.L,List.set,Apc,As8] at Bh);refine (show W _ _ _ (setL [(13,(.int .i64 Bg))]<|mix _ J1 _) J2 from ?_);(try dsimp only at Bi);unfold Amm at Bi;refine AOv<|Aho rfl rfl (AOz<|AOx<|⟨_,rfl,λCn=>?_,λCn=>?_⟩)
    ·refine AO4<|q_t<|AOx<|AO0<|AOv<|AOr<|Ah4<|AO1<|AO0<|Anb 8796092956800 (λx:(Int) × (Int) × (LiI) × LnA × LnN × LvA=>(x.1,x.2.1,x.2.2.1)) ((0,Eg,Eh,Ei,Ej,Ek):(Int) × (Int) × (LiI) × LnA × LnN × LvA) (Ahx Bi Cn) (λx=>[(7,(.int .i64 x.1))]) (λx=>(Bh.L.set 0<|aO2 (cI .i64) 61 2 x.2.2.2.1 x.2.2.2.2.1 x.2.2.2.2.2 Ba x.2.2.1).set 1 (aB 109 Aa [Ab,(.int .i64 x.2.1)])) Bh ⟨rfl,trivial⟩ ?_;rintro ⟨El,Co,Ut,Uu,Uv,Uw⟩ J4 Az Ux Ag Bj J5;(try dsimp only [Kst.L,List.set,Apc,As8] at Ag);refine (show W _ _ _ (setL [(7,(.int .i64 El))]<|mix _ J4 _) Az from ?_);(try dsimp only at Bj);unfold Aoz at Bj;refine AOx<|AOv<|AOr<|AOr<|Aho rfl rfl (AOz<|⟨_,rfl,λCp=>?_,λCp=>?_⟩)
     ·refine AO4<|q_t<|AOx<|AO0<|AOx<|Aiz (λh'=>UpT ([Aa] ++ []) Az h') AO5 ?_;have Cq:UpT ([Aa] ++ []) Az Az:=UpT.start<|Aiv (Anl (Ag.b p1) rfl) all_nil;refine AOr<|AOr ?_;obtain ⟨Uy,Cr,J6⟩:=AOw<|Ahx Bj Cp;refine Aii APa rfl (Ag.o2 p0) rfl Cr λUz U0 J7 J8 J9=>Ahk Ahb rfl Cq (λh' hb=>Ats J9 hb<|Azs (Ag.dj p0 p1 AOs _<|by simp [aO,aO2,J7]) Azt) (AOr<|AOr ?_);obtain ⟨Ka,Em,En⟩:=AOw J6;have Eo:UpT ([Aa] ++ []) Az Az:=UpT.start<|Aiv (Anl (Ag.b p1) rfl) all_nil;refine Ahr (K':=(λxr h'=> ∃ x:(Int) × (Int),(x.1,x.2)=Ka/\xr=(.int .i64 x.1)/\Kst h h' (Ag.L.set 1<|aB 109 Aa [Ab,(.int .i64 x.2)])/\UpT ([Aa] ++ []) Az h')) Cq rfl ?_ λU3 U8 Kb=>?_
      ·refine cwf (l:=[_]) Tryz.func135 rfl rfl (AOv<|AO1<|AOx<|AOx<|Ana<|AOr<|Ah2 rfl (Ah1 Aj9 rfl (Aht Aiw rfl ((Ag.b p1).cell (i:=1) rfl) (AOr<|Ah2 rfl (Ah1 Arb rfl (Aht Aye rfl ((Ag.b p1).cell (i:=0) rfl) (Aio Azc rfl H4 (Auh rfl rfl (AOz<|⟨_,rfl,λCt=>?_,λCt=>?_⟩)))))))))
       ·refine AOv<|AO1<|AO6<|Ag9<|⟨_,AO7,((0,Co):(Int) × (Int)),?_,rfl,?_,?_⟩
        ·exact AOu<|Ahx Em Ct
        ·exact Ag
        ·exact Eo
       ·refine AO4<|q_t<|AOv<|AOr<|Ah2 rfl (Ah1 Aj9 rfl (Aht Aiw rfl ((Ag.b p1).cell (i:=1) rfl) (Ahp rfl rfl (Ah2 rfl (Ah1 Aj9 rfl (Au6 [Ab,(.int .i64<|w64<|Co + 1)] Aiw rfl rfl rfl (Ag.b p1) (Nat.le_of_ble_eq_true rfl) rfl λVa Ep Er=>AOz<|AOx<|Ana<|AOr<|Ah2 rfl (Ah1 Arb rfl ?_)))))));have Bl:=Ag.sb p1 Er Ep rfl;refine Aht Aye rfl ((Bl.b p1).cell (i:=0) rfl) (AOr<|Ah2 rfl (Ah1 Aj9 rfl (Aht Aiw rfl ((Bl.b p1).cell (i:=1) rfl) (Anj rfl rfl ?_))));obtain ⟨Kc,Kd,Ke⟩:=AOw<|Ahy Em Ct;refine Aqe (c:=(cI .i8)) Azc rfl H4 rfl Kd λVb Vc Vd Kf Kg=>?_;obtain rfl:=Kf;refine Aht A65 rfl (AO8 (Kg 0 _ rfl) Bl.x) (Asv A66 Arp rfl (AO1<|AO6<|⟨_,AO7,(((w64 Kc),(w64<|Co + 1)):(Int) × (Int)),?_,rfl,?_,?_⟩))
        ·exact AOu Ke
        ·exact Bl
        ·exact (Eo.then (Ep.stA Er (Anl (Ag.b p1) rfl) rfl)<|Am2 rfl)
      obtain ⟨⟨Kh,Ve⟩,Ki,rfl,Cu,Kj⟩:=Kb;(try dsimp only [Kst.L,List.set,Apc,As8] at Cu);refine ⟨(Cq.then Kj<|Aiv (Am2 rfl) all_nil),?_⟩;subst Ki;(try dsimp only at En);refine Ajh rfl rfl AOs ?_;obtain ⟨Vf,Es,Kk⟩:=AOw En;refine Ain (m:=Bg) APd rfl (Ag.o2 p0) J8 Cr rfl Es λVg Kl=>Aon (m:=Bg) (Ame AO9 rfl rfl rfl) (Cu.o2 p0) Kl Cr Es (show ((cI .i64)).rep _ (Int.tmod Kh 3) _ from rfl) λVh Km Kn=>AOz<|Ana<|AOr<|AOr ?_;have Bm:=Cu.uO2 p0 Kn Km;obtain ⟨Vi,Et,Ko⟩:=AOw Kk;refine Ai2 APa Ahb (Bm.o2 p0) Et λ_ Vj Kp=>AOr<|AOr<|AOr ?_;obtain ⟨Vk,Eu,Kr⟩:=AOw Ko;refine Ai2 APa Ahb (Bm.o2 p0) Eu λ_ Vl Kt=>AOr ?_;obtain ⟨Vm,Ku,Kv⟩:=AOw Kr;refine At4 (m:=Bg) APd AO9 (Bm.o2 p0) Kt Eu Ku λ_=>?_;obtain ⟨Vn,Kw,Kx⟩:=AOw Kv;refine As1 (m:=El) Bm p0 APd AO9 Kp Et Kw (λ_=>rfl) λ_ Vo Ky=>Ahh<|q_b<|q_t<|Ag6<|AOr<|Ahp rfl rfl (AO1 ?_);exact ⟨(_,_,_,_,_,_),(AOu Kx).symm,Ky,rfl,trivial⟩
     ·have Ev:=J5 _ (AOu<|Ahy Bj Cp).symm;(try dsimp only at Ev);refine Ahf<|Ahg<|Ahg<|Aim<|q_b<|q_t<|Ag6<|Ahp rfl rfl (AOr<|AOz ?_);exact ⟨(_,_,_,_,_,_),(AOu Ev).symm,Ag,rfl,trivial⟩
    ·have Ew:=J3 _ (AOu<|Ahy Bi Cn).symm;(try dsimp only at Ew);refine Ahf<|Ahg<|Ahg<|Aim<|q_t<|AOv<|AOr<|AO1<|AO6<|⟨_,AO7,((Eh,Ba,Ei,Ej,Ek,Eg):(LiI) × (Value) × LnA × LnN × LvA × (Int)),?_,rfl,?_⟩
     ·exact AOu Ew
     ·exact Bh
   obtain ⟨⟨Kz,D3,La,Lb,Lc,Ld⟩,Le,rfl,Ey⟩:=Hv;(try dsimp only [Kst.L,List.set,Apc,As8] at Ey);refine ⟨trivial,?_⟩;subst Le;(try dsimp only at D2);refine Ahl<|Ahh<|q_b<|q_t ?_;exact ⟨((Kz,D3,La,Lb,Lc,Ld):(LiI) × (Value) × LnA × LnN × LvA × (Int)),⟨AOu D2,Ey⟩,rfl,trivial⟩
  ·refine AOv<|Aiy rfl rfl (AO1 ?_);have Ez:=Aoy B8 Cd;refine ⟨_,rfl,λCv=>?_,λCv=>?_⟩
   ·refine AOv<|AOr ?_;obtain ⟨Lf,Lg,Lh⟩:=AOw<|Ahx Ez Cv;refine Aus Ao (Avs Lg) λLi Lj Lk Ll Aq Vp Ac=>AO1<|Aiz (λh'=>UpT ([Aa] ++ []) Aq h') AO5 ?_;have Bn:UpT ([Aa] ++ []) Aq Aq:=UpT.start<|Aiv (Anl (Ac.b p1) rfl) all_nil;refine AOr ?_;obtain ⟨Lm,A4,Lo⟩:=AOw Lh;refine Aii APa rfl (Ac.o2 p0) rfl A4 λVs Vt Lq Fa Lr=>Ahk Ahb rfl Bn (λh' hb=>Ats Lr hb<|Azs (Ac.dj p0 p1 AOs _<|by simp [aO,aO2,Lq]) Azt) ?_;obtain ⟨Fb,Bo,Lv⟩:=AOw Lo;refine Ain (m:=0) APd rfl (Ac.o2 p0) Fa A4 rfl Bo λVu Fc=>?_;obtain ⟨Vv,Lw,Lx⟩:=(Ac.o2 p0).cells Fc A4 Bo;obtain rfl:=Lw;refine Ahk AO9 rfl Bn (λh' hb=>Ats (Lx 0 _ rfl) hb<|Azs (Ac.dj p0 p1 AOs _<|(Ac.o2 p0).gmem Fc) Azt) (AOr ?_);obtain ⟨Ly,Lz,Fd⟩:=AOw Lv;have L9:UpT ([Aa] ++ []) Aq Aq:=UpT.start<|Aiv (Anl (Ac.b p1) rfl) all_nil;refine Ahr (K':=(λxr h'=> ∃ x:(Int) × (Int),(x.1,x.2)=Ly/\xr=(.int .i64 x.1)/\Kst h h' (Ac.L.set 1<|aB 109 Aa [Ab,(.int .i64 x.2)])/\UpT ([Aa] ++ []) Aq h')) Bn rfl ?_ λVw Vx Ma=>?_
    ·refine cwf (l:=[_,_]) Tryz.func74 rfl rfl (AOv<|Ah4<|AOr ?_);obtain ⟨Mb,Fe,Ff⟩:=AOw Lz;have Fg:UpT ([Aa] ++ []) Aq Aq:=UpT.start<|Aiv (Anl (Ac.b p1) rfl) all_nil;refine Ahr (K':=(λxr h'=> ∃ x:(Int) × (Int),(x.1,x.2)=Mb/\xr=(.int .i64 x.1)/\Kst h h' (Ac.L.set 1<|aB 109 Aa [Ab,(.int .i64 x.2)])/\UpT ([Aa] ++ []) Aq h')) trivial rfl ?_ λVy Vz Mc=>?_
     ·refine cwf (l:=[_]) Tryz.func135 rfl rfl (AOv<|AO1<|AOx<|AOx<|Ana<|AOr<|Ah2 rfl (Ah1 Aj9 rfl (Aht Aiw rfl ((Ac.b p1).cell (i:=1) rfl) (AOr<|Ah2 rfl (Ah1 Arb rfl (Aht Aye rfl ((Ac.b p1).cell (i:=0) rfl) (Aio Azc rfl H4 (Auh rfl rfl (AOz<|⟨_,rfl,λCw=>?_,λCw=>?_⟩)))))))))
      ·refine AOv<|AO1<|AO6<|Ag9<|⟨_,AO7,((0,0):(Int) × (Int)),?_,rfl,?_,?_⟩
       ·exact AOu<|Ahx Fe Cw
       ·exact Ac
       ·exact Fg
      ·refine AO4<|q_t<|AOv<|AOr<|Ah2 rfl (Ah1 Aj9 rfl (Aht Aiw rfl ((Ac.b p1).cell (i:=1) rfl) (Ahp rfl rfl (Ah2 rfl (Ah1 Aj9 rfl (Au6 [Ab,(.int .i64<|w64<|0 + 1)] Aiw rfl rfl rfl (Ac.b p1) (Nat.le_of_ble_eq_true rfl) rfl λV1 Fh Fi=>AOz<|AOx<|Ana<|AOr<|Ah2 rfl (Ah1 Arb rfl ?_)))))));have Bp:=Ac.sb p1 Fi Fh rfl;refine Aht Aye rfl ((Bp.b p1).cell (i:=0) rfl) (AOr<|Ah2 rfl (Ah1 Aj9 rfl (Aht Aiw rfl ((Bp.b p1).cell (i:=1) rfl) (Anj rfl rfl ?_))));obtain ⟨Md,Me,Mf⟩:=AOw<|Ahy Fe Cw;refine Aqe (c:=(cI .i8)) Azc rfl H4 rfl Me λV4 V6 V8 Mg Mh=>?_;obtain rfl:=Mg;refine Aht A65 rfl (AO8 (Mh 0 _ rfl) Bp.x) (Asv A66 Arp rfl (AO1<|AO6<|⟨_,AO7,(((w64 Md),(w64<|0 + 1)):(Int) × (Int)),?_,rfl,?_,?_⟩))
       ·exact AOu Mf
       ·exact Bp
       ·exact (Fg.then (Fh.stA Fi (Anl (Ac.b p1) rfl) rfl)<|Am2 rfl)
     obtain ⟨⟨Mi,Mj⟩,Mk,rfl,Fj,Ml⟩:=Mc;(try dsimp only [Kst.L,List.set,Apc,As8] at Fj);refine ⟨trivial,?_⟩;subst Mk;(try dsimp only at Ff);refine Asv Arp Axw rfl (Asv Axw Awq rfl (AOr<|Ajh rfl rfl AOs (AO1<|AO6<|⟨_,AO7,(((Int.tmod (w64<|IntKind.wrap .u8 Mi) 3),Mj):(Int) × (Int)),?_,rfl,?_,?_⟩)))
     ·exact AOu Ff
     ·exact Fj
     ·exact (L9.then Ml<|Aiv (Am2 rfl) all_nil)
    obtain ⟨⟨Fk,Mm⟩,Mo,rfl,Cx,Mq⟩:=Ma;(try dsimp only [Kst.L,List.set,Apc,As8] at Cx);refine ⟨(Bn.then Mq<|Aiv (Am2 rfl) all_nil),?_⟩;subst Mo;(try dsimp only at Fd);refine Ahp rfl rfl (Ain (m:=0) APd rfl (Ac.o2 p0) Fa A4 rfl Bo λWa Mr=>Aon (m:=0) (Ame AO9 rfl rfl rfl) (Cx.o2 p0) Mr A4 Bo (show ((cI .i64)).rep _ (w64<|Fb + Fk) _ from rfl) λWb Ms Mt=>Ahh<|q_b<|q_t ?_);exact ⟨(((sI Lf 0<|sI Lm 0<|w64<|Fb + Fk),Ll,Li,Lj,Lk,Mm):(LiI) × (Value) × LnA × LnN × LvA × (Int)),⟨AOu Fd,(Cx.uO2 p0 Mt Ms)⟩,rfl,trivial⟩
   ·refine AOv<|Aiy rfl rfl (AO1 ?_);have Fl:=Ahy Ez Cv;refine ⟨_,rfl,λCy=>?_,λCy=>?_⟩
    ·refine AOv<|AOr ?_;obtain ⟨Mu,Mv,Mw⟩:=AOw<|Ahx Fl Cy;refine Aus Ao (Avs Mv) λMx My Mz M0 Ar Wc Ad=>AO1<|Aiz (λh'=>UpT ([Aa] ++ []) Ar h') AO5 ?_;have Bq:UpT ([Aa] ++ []) Ar Ar:=UpT.start<|Aiv (Anl (Ad.b p1) rfl) all_nil;refine AOr<|AOr<|Anj rfl rfl ?_;obtain ⟨M1,A5,M2⟩:=AOw Mw;refine Aii APa rfl (Ad.o2 p0) rfl A5 λWd We M3 Fm M4=>Ahk Ahb rfl Bq (λh' hb=>Ats M4 hb<|Azs (Ad.dj p0 p1 AOs _<|by simp [aO,aO2,M3]) Azt) (AOr<|Anj rfl rfl ?_);obtain ⟨Fo,Br,M5⟩:=AOw M2;refine Ain (m:=(w64<|(w64<|1 + (Int.tmod (w64 a1) Am)) - 1)) APd rfl (Ad.o2 p0) Fm A5 rfl Br λWf Fp=>?_;obtain ⟨Wg,M6,M7⟩:=(Ad.o2 p0).cells Fp A5 Br;obtain rfl:=M6;refine Ahk AO9 rfl Bq (λh' hb=>Ats (M7 0 _ rfl) hb<|Azs (Ad.dj p0 p1 AOs _<|(Ad.o2 p0).gmem Fp) Azt) (AOr ?_);obtain ⟨M8,M9,Fq⟩:=AOw M5;have Na:UpT ([Aa] ++ []) Ar Ar:=UpT.start<|Aiv (Anl (Ad.b p1) rfl) all_nil;refine Ahr (K':=(λxr h'=> ∃ x:(Int) × (Int),(x.1,x.2)=M8/\xr=(.int .i64 x.1)/\Kst h h' (Ad.L.set 1<|aB 109 Aa [Ab,(.int .i64 x.2)])/\UpT ([Aa] ++ []) Ar h')) Bq rfl ?_ λWh Wi Nb=>?_
     ·refine cwf (l:=[_,_]) Tryz.func74 rfl rfl (AOv<|Ah4<|AOr ?_);obtain ⟨Nc,Fr,Ft⟩:=AOw M9;have Fu:UpT ([Aa] ++ []) Ar Ar:=UpT.start<|Aiv (Anl (Ad.b p1) rfl) all_nil;refine Ahr (K':=(λxr h'=> ∃ x:(Int) × (Int),(x.1,x.2)=Nc/\xr=(.int .i64 x.1)/\Kst h h' (Ad.L.set 1<|aB 109 Aa [Ab,(.int .i64 x.2)])/\UpT ([Aa] ++ []) Ar h')) trivial rfl ?_ λWj Wk Nd=>?_
      ·refine cwf (l:=[_]) Tryz.func135 rfl rfl (AOv<|AO1<|AOx<|AOx<|Ana<|AOr<|Ah2 rfl (Ah1 Aj9 rfl (Aht Aiw rfl ((Ad.b p1).cell (i:=1) rfl) (AOr<|Ah2 rfl (Ah1 Arb rfl (Aht Aye rfl ((Ad.b p1).cell (i:=0) rfl) (Aio Azc rfl H4 (Auh rfl rfl (AOz<|⟨_,rfl,λCz=>?_,λCz=>?_⟩)))))))))
       ·refine AOv<|AO1<|AO6<|Ag9<|⟨_,AO7,((0,0):(Int) × (Int)),?_,rfl,?_,?_⟩
        ·exact AOu<|Ahx Fr Cz
        ·exact Ad
        ·exact Fu
       ·refine AO4<|q_t<|AOv<|AOr<|Ah2 rfl (Ah1 Aj9 rfl (Aht Aiw rfl ((Ad.b p1).cell (i:=1) rfl) (Ahp rfl rfl (Ah2 rfl (Ah1 Aj9 rfl (Au6 [Ab,(.int .i64<|w64<|0 + 1)] Aiw rfl rfl rfl (Ad.b p1) (Nat.le_of_ble_eq_true rfl) rfl λWl Fv Fw=>AOz<|AOx<|Ana<|AOr<|Ah2 rfl (Ah1 Arb rfl ?_)))))));have Bt:=Ad.sb p1 Fw Fv rfl;refine Aht Aye rfl ((Bt.b p1).cell (i:=0) rfl) (AOr<|Ah2 rfl (Ah1 Aj9 rfl (Aht Aiw rfl ((Bt.b p1).cell (i:=1) rfl) (Anj rfl rfl ?_))));obtain ⟨Nf,Ng,Nh⟩:=AOw<|Ahy Fr Cz;refine Aqe (c:=(cI .i8)) Azc rfl H4 rfl Ng λWm Wn Wo Ni Nj=>?_;obtain rfl:=Ni;refine Aht A65 rfl (AO8 (Nj 0 _ rfl) Bt.x) (Asv A66 Arp rfl (AO1<|AO6<|⟨_,AO7,(((w64 Nf),(w64<|0 + 1)):(Int) × (Int)),?_,rfl,?_,?_⟩))
        ·exact AOu Nh
        ·exact Bt
        ·exact (Fu.then (Fv.stA Fw (Anl (Ad.b p1) rfl) rfl)<|Am2 rfl)
      obtain ⟨⟨Nk,Nl⟩,Nm,rfl,Fx,Nn⟩:=Nd;(try dsimp only [Kst.L,List.set,Apc,As8] at Fx);refine ⟨trivial,?_⟩;subst Nm;(try dsimp only at Ft);refine Asv Arp Axw rfl (Asv Axw Awq rfl (AOr<|Ajh rfl rfl AOs (AO1<|AO6<|⟨_,AO7,(((Int.tmod (w64<|IntKind.wrap .u8 Nk) 2),Nl):(Int) × (Int)),?_,rfl,?_,?_⟩)))
      ·exact AOu Ft
      ·exact Fx
      ·exact (Na.then Nn<|Aiv (Am2 rfl) all_nil)
     obtain ⟨⟨Fy,Np⟩,Nq,rfl,C0,Nr⟩:=Nb;(try dsimp only [Kst.L,List.set,Apc,As8] at C0);refine ⟨(Bq.then Nr<|Aiv (Am2 rfl) all_nil),?_⟩;subst Nq;(try dsimp only at Fq);refine Ahp rfl rfl (Ain (m:=(w64<|(w64<|1 + (Int.tmod (w64 a1) Am)) - 1)) APd rfl (Ad.o2 p0) Fm A5 rfl Br λWp Ns=>Aon (m:=(w64<|(w64<|1 + (Int.tmod (w64 a1) Am)) - 1)) (Ame AO9 rfl rfl rfl) (C0.o2 p0) Ns A5 Br (show ((cI .i64)).rep _ (w64<|Fo + Fy) _ from rfl) λWq Nt Nu=>Ahh<|q_b<|q_t ?_);exact ⟨(((sI Mu (w64<|(w64<|1 + (Int.tmod (w64 a1) Am)) - 1)<|sI M1 (w64<|(w64<|1 + (Int.tmod (w64 a1) Am)) - 1)<|w64<|Fo + Fy),M0,Mx,My,Mz,Np):(LiI) × (Value) × LnA × LnN × LvA × (Int)),⟨AOu Fq,(C0.uO2 p0 Nu Nt)⟩,rfl,trivial⟩
    ·refine AOv<|Aiy rfl rfl (AO1 ?_);have Fz:=Ahy Fl Cy;refine ⟨_,rfl,λC1=>?_,λC1=>?_⟩
     ·refine Ag6<|AOr<|AOr ?_;obtain ⟨Nv,Nw,F4⟩:=AOw<|Ahx Fz C1;refine Ahr (K':=(λxr h'=> ∃ x:(LiI) × (Value) × LnA × LnN × LvA × (Int),(x.1,x.2.2.2.2.2)=Nv/\xr=x.2.1/\Kst h h' (aO2 (cI .i64) 61 2 x.2.2.1 x.2.2.2.1 x.2.2.2.2.1 x.2.1 x.1 :: (Ao.L.set 0<|aB 109 Aa [Ab,(.int .i64 x.2.2.2.2.2)])))) trivial rfl ?_ λF5 Wr Ny=>?_
      ·refine cwf (l:=[_,_,_]) Tryz.func75 rfl rfl (AOv<|Ah4<|AOr ?_);obtain ⟨Nz,N0⟩:=ifN Nw;refine Azg (cI .i64) 2 APa Atu rfl trivial tt2 rfl rfl AOs Nz λN3 N4 N5 F6 Ws N6 N7 N8=>AO1<|AOx<|AOv<|AOr ?_;have C2:=Ao.no2 N7 N8 N6;refine Ahw APa rfl (C2.o2 p0).rd (AOr<|AOz<|AO0<|Anb 4294959360 (λx:(Int) × (Int) × (LiI) × LnA × LnN × LvA=>(x.1,x.2.1,x.2.2.1)) ((0,0,(List.replicate (Int.toNat<|w64<|1 + (Int.tmod (w64 a1) Am)) ([]:List Int)),N3,N4,N5):(Int) × (Int) × (LiI) × LnA × LnN × LvA) N0 (λx=>[(13,(.int .i64 x.1))]) (λx=>(C2.L.set 0<|aO2 (cI .i64) 61 2 x.2.2.2.1 x.2.2.2.2.1 x.2.2.2.2.2 F6 x.2.2.1).set 1 (aB 109 Aa [Ab,(.int .i64 x.2.1)])) C2 ⟨rfl,trivial⟩ ?_);rintro ⟨C3,Bu,N9,Oa,Ob,Oc⟩ Od Oe Wt C4 Bv Og;(try dsimp only [Kst.L,List.set,Apc,As8] at C4);refine (show W _ _ _ (setL [(13,(.int .i64 C3))]<|mix _ Od _) Oe from ?_);(try dsimp only at Bv);unfold Al2 at Bv;refine AOv<|Aho rfl rfl (AOz<|AOx<|⟨_,rfl,λC5=>?_,λC5=>?_⟩)
       ·refine AO4<|q_t<|AOx<|AO0<|AOv<|AOr<|Ah4<|AOr<|AOr<|AOr ?_;obtain ⟨Oh,Oi⟩:=ifN<|Ahx Bv C5;refine Axl (c:=(cI .i64)) (a:=0) APd Arq rfl rfl (λ_=>rfl) rfl trivial tt2 rfl rfl AOs Oh λWu Wv Ww Oj Ol Om On=>?_;have A6:=C4.no Ol (Anx Om On) Oj;obtain ⟨Wx,F7,Oo⟩:=AOw Oi;refine Aii APa rfl (A6.o2 p1) rfl F7 λWy Wz Oq W0 W1=>Az7 Ahb (A6.o2 p1) F7 Oq rfl rfl (A6.o p0) (A6.dj p0 p1 AOs) λAu Ot Ou Ov=>AOz<|Aiz (λh'=>UpT ([Aa] ++ []) Au h') AO5 ?_;have Ah:=A6.m2 p0 p1 AOs Ou Ot λz hz=> .inl<|Ov z hz;have C6:UpT ([Aa] ++ []) Au Au:=UpT.start<|Aiv (Anl (Ah.b p2) rfl) all_nil;refine AOr<|AOr ?_;obtain ⟨W3,C7,Ow⟩:=AOw Oo;refine Aii APa rfl (Ah.o2 p1) rfl C7 λW4 W5 Ox Oy Oz=>Ahk Ahb rfl C6 (λh' hb=>Ats Oz hb<|Azs (Ah.dj p1 p2 AOs _<|by simp [aO,aO2,Ox]) Azt) (AOr<|AOr<|AOr ?_);obtain ⟨O0,O1,F8⟩:=AOw Ow;have O2:UpT ([Aa] ++ []) Au Au:=UpT.start<|Aiv (Anl (Ah.b p2) rfl) all_nil;refine Ahr (K':=(λxr h'=> ∃ x:(Int) × (Int),(x.1,x.2)=O0/\xr=(.int .i64 x.1)/\Kst h h' ((Apc Ah.L [1,2]).set 1 (aB 109 Aa [Ab,(.int .i64 x.2)]))/\UpT ([Aa] ++ []) Au h')) C6 rfl ?_ λW6 W7 O3=>?_
        ·refine cwf (l:=[_,_]) Tryz.func74 rfl rfl (AOv<|Ah4<|AOr ?_);obtain ⟨O4,F9,Ga⟩:=AOw O1;have Gb:UpT ([Aa] ++ []) Au Au:=UpT.start<|Aiv (Anl (Ah.b p2) rfl) all_nil;refine Ahr (K':=(λxr h'=> ∃ x:(Int) × (Int),(x.1,x.2)=O4/\xr=(.int .i64 x.1)/\Kst h h' ((Apc Ah.L [1,2]).set 1 (aB 109 Aa [Ab,(.int .i64 x.2)]))/\UpT ([Aa] ++ []) Au h')) trivial rfl ?_ λW8 Xa O5=>?_
         ·refine cwf (l:=[_]) Tryz.func135 rfl rfl (AOv<|AO1<|AOx<|AOx<|Ana<|AOr<|Ah2 rfl (Ah1 Aj9 rfl (Aht Aiw rfl ((Ah.b p2).cell (i:=1) rfl) (AOr<|Ah2 rfl (Ah1 Arb rfl (Aht Aye rfl ((Ah.b p2).cell (i:=0) rfl) (Aio Azc rfl H4 (Auh rfl rfl (AOz<|⟨_,rfl,λC8=>?_,λC8=>?_⟩)))))))))
          ·refine AOv<|AO1<|AO6<|Ag9<|⟨_,AO7,((0,Bu):(Int) × (Int)),?_,rfl,?_,?_⟩
           ·exact AOu<|Ahx F9 C8
           ·exact Ah.sel [1,2] AOs
           ·exact Gb
          ·refine AO4<|q_t<|AOv<|AOr<|Ah2 rfl (Ah1 Aj9 rfl (Aht Aiw rfl ((Ah.b p2).cell (i:=1) rfl) (Ahp rfl rfl (Ah2 rfl (Ah1 Aj9 rfl (Au6 [Ab,(.int .i64<|w64<|Bu + 1)] Aiw rfl rfl rfl (Ah.b p2) (Nat.le_of_ble_eq_true rfl) rfl λXb Gc Gd=>AOz<|AOx<|Ana<|AOr<|Ah2 rfl (Ah1 Arb rfl ?_)))))));have Bw:=Ah.sb p2 Gd Gc rfl;refine Aht Aye rfl ((Bw.b p2).cell (i:=0) rfl) (AOr<|Ah2 rfl (Ah1 Aj9 rfl (Aht Aiw rfl ((Bw.b p2).cell (i:=1) rfl) (Anj rfl rfl ?_))));obtain ⟨O6,O7,O8⟩:=AOw<|Ahy F9 C8;refine Aqe (c:=(cI .i8)) Azc rfl H4 rfl O7 λXc Xd Xe O9 Pa=>?_;obtain rfl:=O9;refine Aht A65 rfl (AO8 (Pa 0 _ rfl) Bw.x) (Asv A66 Arp rfl (AO1<|AO6<|⟨_,AO7,(((w64 O6),(w64<|Bu + 1)):(Int) × (Int)),?_,rfl,?_,?_⟩))
           ·exact AOu O8
           ·exact Bw.sel [1,2] AOs
           ·exact (Gb.then (Gc.stA Gd (Anl (Ah.b p2) rfl) rfl)<|Am2 rfl)
         obtain ⟨⟨Pb,Pc⟩,Pd,rfl,Ge,Pe⟩:=O5;(try dsimp only [Kst.L,List.set,Apc,As8] at Ge);refine ⟨trivial,?_⟩;subst Pd;(try dsimp only at Ga);refine Asv Arp Axw rfl (Asv Axw Awq rfl (AOr<|Ajh rfl rfl AOs (AO1<|AO6<|⟨_,AO7,(((Int.tmod (w64<|IntKind.wrap .u8 Pb) 9),Pc):(Int) × (Int)),?_,rfl,?_,?_⟩)))
         ·exact AOu Ga
         ·exact Ge
         ·exact (O2.then Pe<|Aiv (Am2 rfl) all_nil)
        obtain ⟨⟨Pf,Xf⟩,Pg,rfl,C9,Ph⟩:=O3;(try dsimp only [Kst.L,List.set,Apc,As8] at C9);refine ⟨(C6.then Ph<|Aiv (Am2 rfl) all_nil),?_⟩;subst Pg;(try dsimp only at F8);refine Ahp rfl rfl ?_;obtain ⟨Xg,Gf,Pj⟩:=AOw F8;refine Ain (m:=C3) APd rfl (Ah.o2 p1) Oy C7 rfl Gf λXh Pk=>Aon (m:=C3) (Ame AO9 rfl rfl rfl) (C9.o2 p0) Pk C7 Gf (show ((cI .i64)).rep _ (w64<|1 + Pf) _ from rfl) λXi Pl Pm=>Ahh<|q_b<|q_t<|Ag6<|Ahp rfl rfl (AOr<|AOz ?_);exact ⟨(_,_,_,_,_,_),(AOu Pj).symm,(C9.uO2 p0 Pm Pl),rfl,trivial⟩
       ·have Gg:=Og _ (AOu<|Ahy Bv C5).symm;(try dsimp only at Gg);refine Ahf<|Ahg<|Ahg<|Aim<|q_t<|AOv<|AOr<|AO1<|AO6<|⟨_,AO7,((N9,F6,Oa,Ob,Oc,Bu):(LiI) × (Value) × LnA × LnN × LvA × (Int)),?_,rfl,?_⟩
        ·exact AOu Gg
        ·exact C4
      obtain ⟨⟨Pn,F5,Po,Pp,Pq,Ps⟩,Pt,rfl,Gh⟩:=Ny;(try dsimp only [Kst.L,List.set,Apc,As8] at Gh);refine ⟨trivial,?_⟩;subst Pt;(try dsimp only at F4);refine Ahl<|Ahh<|q_b<|q_t ?_;exact ⟨((Pn,F5,Po,Pp,Pq,Ps):(LiI) × (Value) × LnA × LnN × LvA × (Int)),⟨AOu F4,Gh⟩,rfl,trivial⟩
     ·refine Ag6<|AOr<|AOr ?_;obtain ⟨Pu,Pv,Gi⟩:=AOw<|Ahy Fz C1;refine Ahr (K':=(λxr h'=> ∃ x:(LiI) × (Value) × LnA × LnN × LvA × (Int),(x.1,x.2.2.2.2.2)=Pu/\xr=x.2.1/\Kst h h' (aO2 (cI .i64) 61 2 x.2.2.1 x.2.2.2.1 x.2.2.2.2.1 x.2.1 x.1 :: (Ao.L.set 0<|aB 109 Aa [Ab,(.int .i64 x.2.2.2.2.2)])))) trivial rfl ?_ λGj Xj Pw=>?_
      ·refine cwf (l:=[_,_,_]) Tryz.func75 rfl rfl (AOv<|Ah4<|AOr ?_);obtain ⟨Px,Py⟩:=ifN Pv;refine Azg (cI .i64) 2 APa Atu rfl trivial tt2 rfl rfl AOs Px λPz P0 P1 Gk Xk P2 P3 P4=>AO1<|AOx<|AOv<|AOr ?_;have Da:=Ao.no2 P3 P4 P2;refine Ahw APa rfl (Da.o2 p0).rd (AOr<|AOz<|AO0<|Anb 4294959360 (λx:(Int) × (Int) × (LiI) × LnA × LnN × LvA=>(x.1,x.2.1,x.2.2.1)) ((0,0,(List.replicate (Int.toNat<|w64<|1 + (Int.tmod (w64 a1) Am)) ([]:List Int)),Pz,P0,P1):(Int) × (Int) × (LiI) × LnA × LnN × LvA) Py (λx=>[(13,(.int .i64 x.1))]) (λx=>(Da.L.set 0<|aO2 (cI .i64) 61 2 x.2.2.2.1 x.2.2.2.2.1 x.2.2.2.2.2 Gk x.2.2.1).set 1 (aB 109 Aa [Ab,(.int .i64 x.2.1)])) Da ⟨rfl,trivial⟩ ?_);rintro ⟨Db,Bx,P5,P6,P7,P8⟩ P9 Qa Xl Dc By Qb;(try dsimp only [Kst.L,List.set,Apc,As8] at Dc);refine (show W _ _ _ (setL [(13,(.int .i64 Db))]<|mix _ P9 _) Qa from ?_);(try dsimp only at By);unfold Al3 at By;refine AOv<|Aho rfl rfl (AOz<|AOx<|⟨_,rfl,λDd=>?_,λDd=>?_⟩)
       ·refine AO4<|q_t<|AOx<|AO0<|AOv<|AOr<|Ah4<|AOr<|AOr<|AOr ?_;obtain ⟨Qc,Qd⟩:=ifN<|Ahx By Dd;refine Axl (c:=(cI .i64)) (a:=0) APd Arq rfl rfl (λ_=>rfl) rfl trivial tt2 rfl rfl AOs Qc λXm Xn Xo Qe Qf Qg Qh=>?_;have A7:=Dc.no Qf (Anx Qg Qh) Qe;obtain ⟨Xp,Gl,Qi⟩:=AOw Qd;refine Aii APa rfl (A7.o2 p1) rfl Gl λXq Xr Qj Xt Xu=>Az7 Ahb (A7.o2 p1) Gl Qj rfl rfl (A7.o p0) (A7.dj p0 p1 AOs) λAv Qk Ql Qm=>AOz<|Aiz (λh'=>UpT ([Aa] ++ []) Av h') AO5 ?_;have Ai:=A7.m2 p0 p1 AOs Ql Qk λz hz=> .inl<|Qm z hz;have De:UpT ([Aa] ++ []) Av Av:=UpT.start<|Aiv (Anl (Ai.b p2) rfl) all_nil;refine AOr<|AOr ?_;obtain ⟨Xv,Df,Qn⟩:=AOw Qi;refine Aii APa rfl (Ai.o2 p1) rfl Df λXw Xx Qo Qp Qq=>Ahk Ahb rfl De (λh' hb=>Ats Qq hb<|Azs (Ai.dj p1 p2 AOs _<|by simp [aO,aO2,Qo]) Azt) (AOr<|AOr<|AOr ?_);obtain ⟨Qr,Qs,Gm⟩:=AOw Qn;have Qt:UpT ([Aa] ++ []) Av Av:=UpT.start<|Aiv (Anl (Ai.b p2) rfl) all_nil;refine Ahr (K':=(λxr h'=> ∃ x:(Int) × (Int),(x.1,x.2)=Qr/\xr=(.int .i64 x.1)/\Kst h h' ((Apc Ai.L [1,2]).set 1 (aB 109 Aa [Ab,(.int .i64 x.2)]))/\UpT ([Aa] ++ []) Av h')) De rfl ?_ λXy Xz Qu=>?_
        ·refine cwf (l:=[_,_]) Tryz.func74 rfl rfl (AOv<|Ah4<|AOr ?_);obtain ⟨Qv,Gn,Gp⟩:=AOw Qs;have Gq:UpT ([Aa] ++ []) Av Av:=UpT.start<|Aiv (Anl (Ai.b p2) rfl) all_nil;refine Ahr (K':=(λxr h'=> ∃ x:(Int) × (Int),(x.1,x.2)=Qv/\xr=(.int .i64 x.1)/\Kst h h' ((Apc Ai.L [1,2]).set 1 (aB 109 Aa [Ab,(.int .i64 x.2)]))/\UpT ([Aa] ++ []) Av h')) trivial rfl ?_ λX0 X3 Qw=>?_
         ·refine cwf (l:=[_]) Tryz.func135 rfl rfl (AOv<|AO1<|AOx<|AOx<|Ana<|AOr<|Ah2 rfl (Ah1 Aj9 rfl (Aht Aiw rfl ((Ai.b p2).cell (i:=1) rfl) (AOr<|Ah2 rfl (Ah1 Arb rfl (Aht Aye rfl ((Ai.b p2).cell (i:=0) rfl) (Aio Azc rfl H4 (Auh rfl rfl (AOz<|⟨_,rfl,λDg=>?_,λDg=>?_⟩)))))))))
          ·refine AOv<|AO1<|AO6<|Ag9<|⟨_,AO7,((0,Bx):(Int) × (Int)),?_,rfl,?_,?_⟩
           ·exact AOu<|Ahx Gn Dg
           ·exact Ai.sel [1,2] AOs
           ·exact Gq
          ·refine AO4<|q_t<|AOv<|AOr<|Ah2 rfl (Ah1 Aj9 rfl (Aht Aiw rfl ((Ai.b p2).cell (i:=1) rfl) (Ahp rfl rfl (Ah2 rfl (Ah1 Aj9 rfl (Au6 [Ab,(.int .i64<|w64<|Bx + 1)] Aiw rfl rfl rfl (Ai.b p2) (Nat.le_of_ble_eq_true rfl) rfl λX4 Gr Gt=>AOz<|AOx<|Ana<|AOr<|Ah2 rfl (Ah1 Arb rfl ?_)))))));have Bz:=Ai.sb p2 Gt Gr rfl;refine Aht Aye rfl ((Bz.b p2).cell (i:=0) rfl) (AOr<|Ah2 rfl (Ah1 Aj9 rfl (Aht Aiw rfl ((Bz.b p2).cell (i:=1) rfl) (Anj rfl rfl ?_))));obtain ⟨Qx,Qy,Qz⟩:=AOw<|Ahy Gn Dg;refine Aqe (c:=(cI .i8)) Azc rfl H4 rfl Qy λX5 X6 X8 Q0 Q1=>?_;obtain rfl:=Q0;refine Aht A65 rfl (AO8 (Q1 0 _ rfl) Bz.x) (Asv A66 Arp rfl (AO1<|AO6<|⟨_,AO7,(((w64 Qx),(w64<|Bx + 1)):(Int) × (Int)),?_,rfl,?_,?_⟩))
           ·exact AOu Qz
           ·exact Bz.sel [1,2] AOs
           ·exact (Gq.then (Gr.stA Gt (Anl (Ai.b p2) rfl) rfl)<|Am2 rfl)
         obtain ⟨⟨Q2,Q3⟩,Q4,rfl,Gu,Q6⟩:=Qw;(try dsimp only [Kst.L,List.set,Apc,As8] at Gu);refine ⟨trivial,?_⟩;subst Q4;(try dsimp only at Gp);refine Asv Arp Axw rfl (Asv Axw Awq rfl (AOr<|Ajh rfl rfl AOs (AO1<|AO6<|⟨_,AO7,(((Int.tmod (w64<|IntKind.wrap .u8 Q2) 1),Q3):(Int) × (Int)),?_,rfl,?_,?_⟩)))
         ·exact AOu Gp
         ·exact Gu
         ·exact (Qt.then Q6<|Aiv (Am2 rfl) all_nil)
        obtain ⟨⟨Q7,Ya⟩,Q8,rfl,Dh,Q9⟩:=Qu;(try dsimp only [Kst.L,List.set,Apc,As8] at Dh);refine ⟨(De.then Q9<|Aiv (Am2 rfl) all_nil),?_⟩;subst Q8;(try dsimp only at Gm);refine Ahp rfl rfl ?_;obtain ⟨Yb,Gv,Rc⟩:=AOw Gm;refine Ain (m:=Db) APd rfl (Ai.o2 p1) Qp Df rfl Gv λYc Rd=>Aon (m:=Db) (Ame AO9 rfl rfl rfl) (Dh.o2 p0) Rd Df Gv (show ((cI .i64)).rep _ (w64<|1 + Q7) _ from rfl) λYd Re Rf=>Ahh<|q_b<|q_t<|Ag6<|Ahp rfl rfl (AOr<|AOz ?_);exact ⟨(_,_,_,_,_,_),(AOu Rc).symm,(Dh.uO2 p0 Rf Re),rfl,trivial⟩
       ·have Gw:=Qb _ (AOu<|Ahy By Dd).symm;(try dsimp only at Gw);refine Ahf<|Ahg<|Ahg<|Aim<|q_t<|AOv<|AOr<|AO1<|AO6<|⟨_,AO7,((P5,Gk,P6,P7,P8,Bx):(LiI) × (Value) × LnA × LnN × LvA × (Int)),?_,rfl,?_⟩
        ·exact AOu Gw
        ·exact Dc
      obtain ⟨⟨Rg,Gj,Rh,Ri,Rj,Rm⟩,Rn,rfl,Gx⟩:=Pw;(try dsimp only [Kst.L,List.set,Apc,As8] at Gx);refine ⟨trivial,?_⟩;subst Rn;(try dsimp only at Gi);refine Ahl<|Ahh<|q_b<|q_t ?_;exact ⟨((Rg,Gj,Rh,Ri,Rj,Rm):(LiI) × (Value) × LnA × LnN × LvA × (Int)),⟨AOu Gi,Gx⟩,rfl,trivial⟩
 rintro ⟨Ye,Ro,Yf,Yg,Yh,Rq⟩ Rr Rs ⟨Rt,Di⟩;(try dsimp only [Kst.L,List.set,Apc,As8] at Di);refine (show W _ _ _ (setL [(7,Ro)]<|mix _ Rr _) Rs from ?_);subst Rt;(try dsimp only at Dy);refine AOx<|AOv<|AOr ?_;obtain ⟨Yi,Ru,Gy⟩:=AOw Dy;refine Aj5 Di (A06 (Di.o2 p0).rd Ru) λYj Yk A8=>Akg rfl (AOz<|⟨_,rfl,λDj=>?_,λDj=>?_⟩)
 ·refine AOv<|AOr<|AOr ?_;obtain ⟨Rv,Rw,Gz⟩:=AOw<|ifT Gy Dj;refine Ahr (K':=(λxr h'=> ∃ x:(LiI) × (Value) × LnA × LnN × LvA × (Int),(x.1,x.2.2.2.2.2)=Rv/\xr=x.2.1/\Kst h h' (aO2 (cI .i64) 61 2 x.2.2.1 x.2.2.2.1 x.2.2.2.2.1 x.2.1 x.1 :: (A8.L.set 1<|aB 109 Aa [Ab,(.int .i64 x.2.2.2.2.2)])))) trivial rfl ?_ λRx Yl Ry=>?_
  ·refine cwf (l:=[_,_,_]) Tryz.func75 rfl rfl (AOv<|Ah4<|AOr ?_);obtain ⟨Rz,R3⟩:=ifN Rw;refine Azg (cI .i64) 2 APa Atu rfl trivial tt2 rfl rfl AOs Rz λR4 R5 R6 G3 Ym R7 R8 R9=>AO1<|AOx<|AOv<|AOr ?_;have Dk:=A8.no2 R8 R9 R7;refine Ahw APa rfl (Dk.o2 p0).rd (AOr<|AOz<|AO0<|Anb 4294959360 (λx:(Int) × (Int) × (LiI) × LnA × LnN × LvA=>(x.1,x.2.1,x.2.2.1)) ((0,Rq,(List.replicate (Int.toNat<|w64<|1 + (Int.tmod (w64 a1) Am)) ([]:List Int)),R4,R5,R6):(Int) × (Int) × (LiI) × LnA × LnN × LvA) R3 (λx=>[(13,(.int .i64 x.1))]) (λx=>(Dk.L.set 0<|aO2 (cI .i64) 61 2 x.2.2.2.1 x.2.2.2.2.1 x.2.2.2.2.2 G3 x.2.2.1).set 2 (aB 109 Aa [Ab,(.int .i64 x.2.1)])) Dk ⟨rfl,trivial⟩ ?_);rintro ⟨Dl,B1,Sa,Sb,Sc,Sd⟩ Se Sf Yn Do B3 Sg;(try dsimp only [Kst.L,List.set,Apc,As8] at Do);refine (show W _ _ _ (setL [(13,(.int .i64 Dl))]<|mix _ Se _) Sf from ?_);(try dsimp only at B3);unfold Al4 at B3;refine AOv<|Aho rfl rfl (AOz<|AOx<|⟨_,rfl,λDp=>?_,λDp=>?_⟩)
   ·refine AO4<|q_t<|AOx<|AO0<|AOv<|AOr<|Ah4<|AOr<|AOr<|AOr ?_;obtain ⟨Sh,Si⟩:=ifN<|Ahx B3 Dp;refine Axl (c:=(cI .i64)) (a:=0) APd Arq rfl rfl (λ_=>rfl) rfl trivial tt2 rfl rfl AOs Sh λYo Yp Yq Sj Sk Sm Sn=>?_;have A9:=Do.no Sk (Anx Sm Sn) Sj;obtain ⟨Yr,G4,So⟩:=AOw Si;refine Aii APa rfl (A9.o2 p1) rfl G4 λYs Yt Sq Yu Yv=>Az7 Ahb (A9.o2 p1) G4 Sq rfl rfl (A9.o p0) (A9.dj p0 p1 AOs) λAw Sr Ss St=>AOz<|Aiz (λh'=>UpT ([Aa] ++ []) Aw h') AO5 ?_;have Aj:=A9.m2 p0 p1 AOs Ss Sr λz hz=> .inl<|St z hz;have Dq:UpT ([Aa] ++ []) Aw Aw:=UpT.start<|Aiv (Anl (Aj.b p3) rfl) all_nil;refine AOr<|AOr ?_;obtain ⟨Yw,Dr,Su⟩:=AOw So;refine Aii APa rfl (Aj.o2 p1) rfl Dr λYx Yy Sv Sw Sx=>Ahk Ahb rfl Dq (λh' hb=>Ats Sx hb<|Azs (Aj.dj p1 p3 AOs _<|by simp [aO,aO2,Sv]) Azt) (AOr<|AOr<|AOr ?_);obtain ⟨Sy,Sz,G5⟩:=AOw Su;have S5:UpT ([Aa] ++ []) Aw Aw:=UpT.start<|Aiv (Anl (Aj.b p3) rfl) all_nil;refine Ahr (K':=(λxr h'=> ∃ x:(Int) × (Int),(x.1,x.2)=Sy/\xr=(.int .i64 x.1)/\Kst h h' ((Apc Aj.L [1,2,3]).set 2 (aB 109 Aa [Ab,(.int .i64 x.2)]))/\UpT ([Aa] ++ []) Aw h')) Dq rfl ?_ λYz Y1 S7=>?_
    ·refine cwf (l:=[_,_]) Tryz.func74 rfl rfl (AOv<|Ah4<|AOr ?_);obtain ⟨Ta,G6,G7⟩:=AOw Sz;have G8:UpT ([Aa] ++ []) Aw Aw:=UpT.start<|Aiv (Anl (Aj.b p3) rfl) all_nil;refine Ahr (K':=(λxr h'=> ∃ x:(Int) × (Int),(x.1,x.2)=Ta/\xr=(.int .i64 x.1)/\Kst h h' ((Apc Aj.L [1,2,3]).set 2 (aB 109 Aa [Ab,(.int .i64 x.2)]))/\UpT ([Aa] ++ []) Aw h')) trivial rfl ?_ λY2 Y3 Tb=>?_
     ·refine cwf (l:=[_]) Tryz.func135 rfl rfl (AOv<|AO1<|AOx<|AOx<|Ana<|AOr<|Ah2 rfl (Ah1 Aj9 rfl (Aht Aiw rfl ((Aj.b p3).cell (i:=1) rfl) (AOr<|Ah2 rfl (Ah1 Arb rfl (Aht Aye rfl ((Aj.b p3).cell (i:=0) rfl) (Aio Azc rfl H4 (Auh rfl rfl (AOz<|⟨_,rfl,λDs=>?_,λDs=>?_⟩)))))))))
      ·refine AOv<|AO1<|AO6<|Ag9<|⟨_,AO7,((0,B1):(Int) × (Int)),?_,rfl,?_,?_⟩
       ·exact AOu<|Ahx G6 Ds
       ·exact Aj.sel [1,2,3] AOs
       ·exact G8
      ·refine AO4<|q_t<|AOv<|AOr<|Ah2 rfl (Ah1 Aj9 rfl (Aht Aiw rfl ((Aj.b p3).cell (i:=1) rfl) (Ahp rfl rfl (Ah2 rfl (Ah1 Aj9 rfl (Au6 [Ab,(.int .i64<|w64<|B1 + 1)] Aiw rfl rfl rfl (Aj.b p3) (Nat.le_of_ble_eq_true rfl) rfl λY4 G9 Hb=>AOz<|AOx<|Ana<|AOr<|Ah2 rfl (Ah1 Arb rfl ?_)))))));have B4:=Aj.sb p3 Hb G9 rfl;refine Aht Aye rfl ((B4.b p3).cell (i:=0) rfl) (AOr<|Ah2 rfl (Ah1 Aj9 rfl (Aht Aiw rfl ((B4.b p3).cell (i:=1) rfl) (Anj rfl rfl ?_))));obtain ⟨Tc,Td,Te⟩:=AOw<|Ahy G6 Ds;refine Aqe (c:=(cI .i8)) Azc rfl H4 rfl Td λY5 Y6 Y7 Tf Tg=>?_;obtain rfl:=Tf;refine Aht A65 rfl (AO8 (Tg 0 _ rfl) B4.x) (Asv A66 Arp rfl (AO1<|AO6<|⟨_,AO7,(((w64 Tc),(w64<|B1 + 1)):(Int) × (Int)),?_,rfl,?_,?_⟩))
       ·exact AOu Te
       ·exact B4.sel [1,2,3] AOs
       ·exact (G8.then (G9.stA Hb (Anl (Aj.b p3) rfl) rfl)<|Am2 rfl)
     obtain ⟨⟨Th,Ti⟩,Tj,rfl,Hc,Tk⟩:=Tb;(try dsimp only [Kst.L,List.set,Apc,As8] at Hc);refine ⟨trivial,?_⟩;subst Tj;(try dsimp only at G7);refine Asv Arp Axw rfl (Asv Axw Awq rfl (AOr<|Ajh rfl rfl AOs (AO1<|AO6<|⟨_,AO7,(((Int.tmod (w64<|IntKind.wrap .u8 Th) 2),Ti):(Int) × (Int)),?_,rfl,?_,?_⟩)))
     ·exact AOu G7
     ·exact Hc
     ·exact (S5.then Tk<|Aiv (Am2 rfl) all_nil)
    obtain ⟨⟨Tl,Y8⟩,Tm,rfl,Dt,Tn⟩:=S7;(try dsimp only [Kst.L,List.set,Apc,As8] at Dt);refine ⟨(Dq.then Tn<|Aiv (Am2 rfl) all_nil),?_⟩;subst Tm;(try dsimp only at G5);refine Ahp rfl rfl ?_;obtain ⟨Y9,Hd,To⟩:=AOw G5;refine Ain (m:=Dl) APd rfl (Aj.o2 p1) Sw Dr rfl Hd λZa Tp=>Aon (m:=Dl) (Ame AO9 rfl rfl rfl) (Dt.o2 p0) Tp Dr Hd (show ((cI .i64)).rep _ (w64<|1 + Tl) _ from rfl) λZd Tq Tr=>Ahh<|q_b<|q_t<|Ag6<|Ahp rfl rfl (AOr<|AOz ?_);exact ⟨(_,_,_,_,_,_),(AOu To).symm,(Dt.uO2 p0 Tr Tq),rfl,trivial⟩
   ·have He:=Sg _ (AOu<|Ahy B3 Dp).symm;(try dsimp only at He);refine Ahf<|Ahg<|Ahg<|Aim<|q_t<|AOv<|AOr<|AO1<|AO6<|⟨_,AO7,((Sa,G3,Sb,Sc,Sd,B1):(LiI) × (Value) × LnA × LnN × LvA × (Int)),?_,rfl,?_⟩
    ·exact AOu He
    ·exact Do
  obtain ⟨⟨Ze,Rx,Zf,Zg,Zh,Zj⟩,Ts,rfl,B5⟩:=Ry;(try dsimp only [Kst.L,List.set,Apc,As8] at B5);refine ⟨trivial,?_⟩;subst Ts;(try dsimp only at Gz);refine AO1<|AO6<|Ag9 ?_;obtain rfl:=AOu Gz;exact ⟨_,AO7,B5.x,_,_,_,_,rfl,(B5.o2 p0),B5.s.sel [0] AOs⟩
 ·refine AO4<|q_t<|AOv<|AOr<|AO1<|AO6 ?_;obtain rfl:=AOu<|Aoy Gy Dj;exact ⟨_,AO7,A8.x,_,_,_,_,rfl,(A8.o2 p0),A8.s.sel [0] AOs⟩
def Alu (fuel:Nat) (a1 a2:Int) (a5 a9:LiA) (Ae:Int):Option LiI:=
 (Als fuel a1 a2 a5 a9 Ae).bind λAf=>(Ak6 fuel Af).bind λAg=>(An6 fuel Ag).bind λ(Ah,Ai,Aj)=>some Ah
theorem Aww {a5:LiA} {a9:LiA} {Ai:Int} {r:LiI} (H4:SlC (cI .i8) h Ac a5) (H8:SlC (cI .i8) h Ad a9) (hp:Alu fuel a1 a2 a5 a9 Ai=some r):Ahq Tryz.prog 9 #[(.agg #[(.int .u8 a1),(.int .u8 a2),Ac,Ad]),(.int .i64 Ai)] h (λx h'=>Ext h h'/\ ∃ (x0:Value) (F0:List Nat) (Au:List LnA) (Av:List Value),x=x0/\Aj0 (cI .i64) 61 2 h' F0 Au Av x0 r/\Sp h' h.size [F0]):=by
 unfold Alu at hp;refine cwf (l:=[_,_]) Tryz.func9 rfl rfl (AOv<|Ao1 (Kst.k0 h) [(.int .u8 a1),(.int .u8 a2),Ac,Ad] λBl Bm Bn Ae=>Ah4<|Apd [(.int .u8 a1),(.int .u8 a2),Ac,Ad] BKd rfl rfl (Ae.b p0).agg (AOr ?_));obtain ⟨Bo,Aw,Ax⟩:=AOw hp;refine Aus Ae (Awv (H4.ext Ae.x) (H8.ext Ae.x) Aw) λBp Bq Br Bt Bu Bv Am=>?_;obtain ⟨Bw,Ay,Az⟩:=AOw Ax;refine Aus Am (Aqo (Am.o2 p0).rd Ay) λBx By Bz B1 B3 B4 Ao=>?_;obtain ⟨⟨A3,A4,B5⟩,A5,Ap⟩:=AOw Az;dsimp only at Ap;refine Aqy rfl (Ay3 (Ao.o2 p0).rd A5) λB6 B7 A6 A7=>?_;obtain ⟨A8,A9,Ba,Bb,Bc,Be,Bf,Bg,rfl,Bh,Bi,Bj⟩:=A7;have Af:=Ao.n A6 [aO2 (cI .i64) 61 2 A9 Ba Bb A8 A3,aO2 cZ 146 129 Be Bf Bg Bc A4] Bj ⟨Bh,Bi,trivial⟩;simp only [List.cons_append,List.nil_append] at Af;refine AOr<|Ait rfl rfl (Ait rfl rfl (Ait rfl rfl (Ahl<|Ahl<|Ah4<|AOr<|AO1<|AO6 ?_)));obtain rfl:=AOu Ap;exact ⟨_,AO7,Af.x,_,_,_,_,rfl,(Af.o2 p0),Af.s.sel [0] AOs⟩
end Go.Proofs.YtkakafabeobahaaGreatDoor
namespace Go.Proofs.YtkakafabeobahaaGreatDoor.Ig
open Go Go.QF
set_option maxRecDepth 100000
structure BM8 (h:AO2) (v:Value) (L:List Nat) (v':Value) (L':List Nat):Prop where
 sl:Sl h v' (L'.map Au7)
 cap:Aud v'
 dig:Dig L'
 blk:v'.ownBlock=v.ownBlock
 val:nv L'=nv L
 len:L'.length<=L.length
 tg:∀ g,v.ownBlock=some g-> ∃ cur off,h[g]? =some (.cells cur 200 off)
theorem BM8.ds {lo:Nat} {v':Value} {L L':List Nat} (H:BM8 h v L v' L') (hl:∀ g,v.ownBlock=some g->lo<=g):DS h lo v' L':=⟨H.sl,H.cap,H.dig,λg hg=>hl g<|H.blk ▸ hg,λg hg=>H.tg g<|H.blk ▸ hg⟩
theorem BKe {L:List Nat} (h:L[L.length - 1]? =some 0):nv (L.take<|L.length - 1)=nv L:=by
 have h1:L=L.take (L.length - 1) ++ [0]:=by
  have:=A8t h
  grind
 conv=>rhs;rw [h1,As4]
 simp
theorem At7 {L:List Nat} (H:DS h 0 v L) (hn:L.length<=1000000):Ahq Tryz.prog 191 #[v] h λx h'=>h'=h/\ ∃ L',BM8 h v L x L'/\TL L':=by
 refine Aie (l:=[_]) mx Tryz.func191 rfl rfl rfl rfl rfl AO5 (AOv<|AO1<|AOx<|AO0<|Aj4 1048569 (λy:Value × List Nat=>[(0,y.1)]) (λk y h'=>h'=h/\y.2.length=k/\BM8 h v L y.1 y.2) AO5 L.length (v,L) ?_ ⟨rfl,trivial⟩ ?_)
 ·exact ⟨rfl,rfl,H.sl,H.cap,H.dig,rfl,rfl,Nat.le_refl _,H.tg⟩
 rintro k ⟨u,Lu⟩ s1 h ⟨rfl,rfl,HT⟩;dsimp only at HT ⊢;refine AOx<|AOv<|AOr<|A3l Ahm rfl HT.sl ?_;rw [List.length_map];have hLlen:=HT.len;refine Ayd rfl rfl (λAa=>?_) (λAa=>?_)
 ·refine AOr<|Aix 6 true AO5 rfl rfl (AOr<|Aix 6 true AO5 rfl rfl (AOr<|Aix 6 true AO5 rfl rfl (A3l Ahm rfl HT.sl ?_)));rw [List.length_map];refine Aix 6 true AO5 rfl rfl (Auc rfl rfl AOq AOq ?_);rw [show ((Lu.length:Nat):Int) - 1=((Lu.length - 1:Nat):Int) by omega];obtain ⟨x,hx⟩:∃ x,Lu[Lu.length - 1]? =some x:=⟨_,List.getElem?_eq_getElem AOq⟩;refine Aix 6 true AO5 rfl rfl (A60 Ahm rfl HT.sl rfl (Azd hx) λa1 Ab=>Aix 6 true AO5 rfl rfl (Aht Ajo rfl Ab (Aix 6 true AO5 rfl rfl (Az2 rfl rfl (λAc=>?_) (λAc=>?_)))))
  ·refine Ag7 rfl (AOz<|Ahn rfl (AO4<|q_t<|AO0<|Ag6<|AOr<|AOr<|A3l Ahm rfl HT.sl ?_));rw [List.length_map];refine Auc rfl rfl AOq AOq ?_;rw [show ((Lu.length:Nat):Int) - 1=((Lu.length - 1:Nat):Int) by omega];have Ad:Lu[Lu.length - 1]? =some 0:=by rw [hx];congr 1;omega
   refine A9t (v:=u) Ahm rfl HT.sl HT.cap rfl (by rw [List.length_map];omega) λv9 Af Ag Ah=>?_;refine Ahl<|Ahh<|q_b<|q_t ?_;exact ⟨Lu.length - 1,(v9,Lu.take<|Lu.length - 1),by first | omega | (dsimp only;omega),⟨rfl,Ah7,⟨by dsimp only;rw [List.map_take];exact Af,Ag,A4d HT.dig _,Ah.trans HT.blk,by rw [BKe Ad];exact HT.val,by rw [List.length_take];have:=HT.len;omega,HT.tg⟩⟩,rfl,trivial⟩
  ·refine Ag7 rfl (AOz<|Ahs rfl (Ahf<|Ahg<|Ahg<|Aim<|q_t<|AOv<|AOr<|AO1<|AO6<|⟨_,AO7,?_⟩));refine ⟨rfl,Lu,HT,λy hy=>?_⟩
   first
   | (have:Lu=[]:=List.length_eq_zero_iff.1 AOq;rw [this] at hy;cases hy)
   | (rw [List.getLast?_eq_getElem?,hx] at hy;injection hy with hy;subst hy;omega)
 ·refine AOr<|Ail 6 false AO5 rfl rfl (Ail 6 false AO5 rfl rfl (Ail 6 false AO5 rfl rfl (Ail 6 false AO5 rfl rfl (Ail 6 false AO5 rfl rfl (Ail 6 false AO5 rfl rfl (Ail 6 false AO5 rfl rfl (APb rfl (AOz<|Ahs rfl (Ahf<|Ahg<|Ahg<|Aim<|q_t<|AOv<|AOr<|AO1<|AO6<|⟨_,AO7,?_⟩)))))))));refine ⟨rfl,Lu,HT,λy hy=>?_⟩
  first
  | (have:Lu=[]:=List.length_eq_zero_iff.1 AOq;rw [this] at hy;cases hy)
  | (rw [List.getLast?_eq_getElem?,hx] at hy;injection hy with hy;subst hy;omega)
theorem Axa (w:Nat) (hw:w < 18446744073709551616) (h:AO2):Ahq Tryz.prog 188 #[.int .u64 (w:Int)] h λx h'=>Ext h h'/\ ∃ L,DS h' (Array.size h) x L/\TL L/\nv L=w/\L.length<=2:=by
 refine Aie (l:=[_]) mx Tryz.func188 rfl rfl rfl rfl rfl AO5 (AOv<|Ah4<|AOr<|Asv Ajp Akc rfl ?_);rw [show IntKind.u32.wrap (w:Int)=((w % 4294967296:Nat):Int) by rw [wrap_u32];omega];refine AOr<|A7a (n:=32) rfl rfl AOs (Asv Ajp Akc rfl ?_);rw [show IntKind.u32.wrap ((w:Int) / 2 ^ 32)=((w / 4294967296:Nat):Int) by rw [wrap_u32];omega];have e1:IntKind.u32.wrap (w:Int)=((w % 4294967296:Nat):Int):=by rw [wrap_u32];omega
 have e2:IntKind.u32.wrap ((w:Int) / 2 ^ 32)=((w / 4294967296:Nat):Int):=by rw [wrap_u32];omega
 have hdg:Dig [w % 4294967296,w / 4294967296]:=by intro x hx;simp only [List.mem_cons,List.not_mem_nil,or_false] at hx;rcases hx with rfl | rfl <;> omega
 refine BIv ([w % 4294967296,w / 4294967296].map Au7) Ahm As7 rfl (λ_=>trivial) rfl AOq AOq rfl (by simp [Au7,isOne]) λg1 v1 h1 Ad E1 Ae Aj=>?_;have Ak:=E1.1;have Z2:=(Ext.refl h).trans E1;have Ab:=Ad.ds (lo:=Array.size h) hdg Ae;refine Ahr trivial rfl (At7 (Ab.mono<|Nat.zero_le _) Ah7) λx3 h1 hk=>?_;obtain ⟨rfl,L2,HT,htl⟩:=hk;refine ⟨trivial,?_⟩;refine AO1<|AO6<|⟨_,AO7,?_⟩;exact ⟨E1,L2,HT.ds Ab.lo,htl,by rw [HT.val];simp only [nv];omega,by have:=HT.len;simpa using this⟩
theorem A6o {lo:Nat} {L:List Nat} (H:DS h lo v L) (hn:L.length<=2):Ahq Tryz.prog 205 #[v] h λx h'=>h'=h/\x= .int .u64 (nv L:Int):=by
 refine Aie (l:=[_]) mx Tryz.func205 rfl rfl rfl rfl rfl AO5 (AOv<|Ah4<|AO1<|AOx<|AOv<|AOr<|A3l Ahm rfl H.sl ?_);rw [List.length_map];refine AOr<|AOz<|AO0<|Aj4 2096952 (λy:Nat × Nat=>[(8,.int .i64 (y.1:Int)),(3,.int .u64 (y.2:Int))]) (λk y h'=>h'=h/\k=L.length - y.1/\y.1<=L.length/\y.2=nv (L.take y.1)) AO5 L.length (0,0) ?_ ⟨rfl,rfl,trivial⟩ ?_
 ·exact ⟨rfl,rfl,Nat.zero_le _,rfl⟩
 rintro k ⟨i,w⟩ s1 h ⟨rfl,rfl,hi,hw⟩;dsimp only at hi hw ⊢;subst hw;refine AOv<|Amb rfl rfl (λAb=>?_) (λAb=>?_)
 ·refine AOz<|AOx<|Ahn rfl (AO4<|q_t<|AOx<|AO0<|AOx ?_);obtain ⟨x,hx⟩:∃ x,L[i]? =some x:=⟨_,List.getElem?_eq_getElem AOq⟩;have hxb:=H.dig x<|List.mem_of_getElem? hx;refine Ag6<|AOr<|A60 Ahm rfl H.sl rfl (Azd hx) λAf Ac=>Aht Ajo rfl Ac (Ahl<|AO1<|Ag6<|AOr<|AOr<|BOs Akc Ajp rfl (by rw [wrap_u64];omega) ?_);refine AOr<|Avj rfl rfl AOq AOq ?_;rw [show (32:Int) * (i:Int)=((32 * i:Nat):Int) by omega];refine A8v (n:=32 * i) rfl rfl (by show 32 * i<=64;omega) ?_;have Aa:i=0∨i=1:=by omega
  have hlt:=Ayh H.dig hi
  have hsh:IntKind.u64.wrap ((x:Int) * 2 ^ (32 * i))=((2 ^ (32 * i) * x:Nat):Int):=by
   rw [wrap_u64]
   rcases Aa with rfl | rfl
   ·simp;omega
   ·simp;omega
  rw [hsh]
  have Ad:2 ^ (32 * i) * x < 18446744073709551616:=by
   rcases Aa with rfl | rfl
   ·simp;omega
   ·simp;omega
  have Ae:nv (L.take i) < 18446744073709551616:=by
   rcases Aa with rfl | rfl
   ·simp at hlt ⊢;omega
   ·simp at hlt ⊢;omega
  refine A3q rfl rfl (.inr<|.inl rfl) (BIx Ae Ad) ?_;rw [BIy (by rw [<- A3r];exact hlt),<- A3r,<- Aja hx];refine Ahl<|Ahh<|q_b<|q_t<|Ag6<|Ara rfl AOq (AOr<|AOz ?_);exact ⟨L.length - (i + 1),(i + 1,nv<|L.take<|i + 1),by first | omega | (dsimp only;omega),⟨rfl,rfl,by first | omega | (dsimp only;omega),rfl⟩,rfl,rfl,trivial⟩
 ·refine AOz<|AOx<|Ahs rfl (Ahf<|Ahg<|Ahg<|Aim<|q_t<|AOv<|AOr<|AO1<|AO6<|⟨_,AO7,?_⟩);obtain rfl:i=L.length:=by omega
  exact ⟨rfl,by rw [List.take_length] at *;rfl⟩
theorem Awb (w:World):(Instr.build 129 #[]).run Tryz.prog w= .ok (.agg #[.bool false,.slice none 0 0]) w:=by kernel_rfl
theorem A4g (b:Bool) (a:Option Addr) (n c:Nat) (w:World):(Instr.build 129 #[(0,.bool b),(1,.slice a n c)]).run Tryz.prog w= .ok (.agg #[.bool b,.slice a n c]) w:=by kernel_rfl
theorem Are {lo:Nat} {s:Value} {L:List Nat} (neg:Bool) (H:DS h lo s L) (htl:TL L) (hn:L.length<=100):Ahq Tryz.prog 187 #[.bool neg,s] h λx h'=>Ext h h'/\ZV h' lo x (sgn neg<|nv L):=by
 obtain ⟨a,n,c,rfl,hnc⟩:=H.cap;refine Aie (l:=[_,_]) mx Tryz.func187 rfl rfl rfl rfl rfl AO5 (AOv<|Aou [.bool false,.slice none 0 0] Amo rfl (λ_=>trivial) λAa h2 V3 E4 Ak Ar=>?_);have Au:Array.size h<=Aa:=Ak;have Av:=E4.1;have Z8:=(Ext.refl h).trans E4;refine AOz<|AOx<|AOv<|AOr<|A3l Ahm rfl (H.sl.ext E4) ?_;rw [List.length_map];refine Az2 rfl rfl (λAm=>?_) (λAm=>?_)
 ·refine AOz<|Ahn rfl (AOv<|Akh (v:= .agg #[.bool false,.slice none 0 0]) Awb<|Ai5 [.bool false,.slice none 0 0] Aip rfl rfl rfl rfl (by simp [isOne]) V3 λh9 Ao Ad=>?_);have Af:=E4.thenUpd Ad (λk hk=>by have Ac:k=Aa:=hk;omega);have Ax:=Ad.1;have Ay:=Z8.thenUpd Ad (λk hk=>by have Ac:k=Aa:=hk;omega);have Az:=E4.thenUpd Ad (λk hk=>by have Ac:k=Aa:=hk;omega);refine AOz (AO6<|Ag9<|⟨_,Ai1 Aip rfl rfl Ao,?_⟩)
  first
  | (have h0:L=[]:=List.length_eq_zero_iff.1 AOq
     subst h0
     exact ⟨Af,⟨false,_,[],rfl,Ayg _ _,Azq,Ah7,by cases neg <;> rfl⟩⟩)
  | exact ⟨Af,⟨neg,_,L,rfl,H.ext Af,htl,hn,rfl⟩⟩
 ·refine AOz<|Ahs rfl (AO4<|q_t<|AOv<|AOr<|AOr<|Akh (v:= .agg #[.bool neg,.slice a n c]) (A4g neg a n c)<|Ai5 [.bool neg,.slice a n c] Aip rfl rfl rfl rfl (by simp [isOne]) V3 λA3 Ap Ae=>?_);have Ah:=E4.thenUpd Ae (λk hk=>by have Ac:k=Aa:=hk;omega);have A4:=Ae.1;have A5:=Z8.thenUpd Ae (λk hk=>by have Ac:k=Aa:=hk;omega);have A6:=E4.thenUpd Ae (λk hk=>by have Ac:k=Aa:=hk;omega);refine AOz (AO6<|⟨_,Ai1 Aip rfl rfl Ap,?_⟩)
  first
  | (have h0:L=[]:=List.length_eq_zero_iff.1 AOq
     subst h0
     exact ⟨Ah,⟨false,_,[],rfl,Ayg _ _,Azq,Ah7,by cases neg <;> rfl⟩⟩)
  | exact ⟨Ah,⟨neg,_,L,rfl,H.ext Ah,htl,hn,rfl⟩⟩
theorem Small_ok {n:Int} (hn: -9223372036854775808<=n/\n<=9223372036854775807) (h:AO2):Ahq Tryz.prog 152 #[.int .i64 n] h λx h'=>Ext h h'/\ZV h' (Array.size h) x n:=by
 refine Aie (l:=[_]) mx Tryz.func152 rfl rfl rfl rfl rfl AO5 (AOv<|Aou [.bool false,.slice none 0 0] Amo rfl (λ_=>trivial) λAa h2 V3 E4 Az By=>?_);have Bz:Array.size h<=Aa:=Az;have B1:=E4.1;have Z8:=(Ext.refl h).trans E4;refine AOz<|AOx<|AOv<|AOr<|Amb rfl rfl (λA3=>?_) (λA3=>?_)
 ·refine AOz<|Ahn rfl (AOv<|AOr<|Asv Arp Ajp rfl ?_);rw [show IntKind.u64.wrap n=n + 18446744073709551616 by rw [wrap_u64];omega];refine Azz rfl ?_;rw [show IntKind.u64.wrap (0 - (n + 18446744073709551616))=((n.natAbs:Nat):Int) by rw [wrap_u64];omega];refine Ahr trivial rfl (Axa n.natAbs AOq _) λx9 B4 hk=>?_;obtain ⟨Ag,L1,Ah,Ao,Ap,A5⟩:=hk;refine ⟨trivial,?_⟩;have B5:=Ag.1;have A6:=Z8.trans Ag;have A7:=E4.trans Ag;have A8:=V3.ext Ag;have A9:=E4.trans Ag;refine Ahr trivial rfl (Are true Ah Ao AOq) λB6 B7 hk=>?_;obtain ⟨Ac,Aq⟩:=hk;refine ⟨trivial,?_⟩;have B8:=Ac.1;have Ba:=A6.trans Ac;have Bb:=A7.trans Ac;have Bc:=A8.ext Ac;have Be:=A9.trans Ac;have Bf:=Ah.ext Ac;obtain ⟨Ai,s2,L2,rfl,Aj,Au,Av,Aw⟩:=Aq.out;refine Ai5 [.bool Ai,s2] Aip rfl rfl rfl rfl (Aqv Aj.cap) Bc λB9 Bg Ad=>?_;have Bh:=Bb.thenUpd Ad (λk hk=>by have Ak:k=Aa:=hk;omega);have Ca:=Ad.1;have Cb:=Ba.thenUpd Ad (λk hk=>by have Ak:k=Aa:=hk;omega);have Cd:=Be.thenUpd Ad (λk hk=>by have Ak:k=Aa:=hk;omega);have Ce:=Bf.updLo Ad AOq;have Bi:=Aj.updLo Ad AOq;refine AOz<|AO6<|Ag9<|⟨_,Ai1 Aip rfl rfl Bg,?_⟩;exact ⟨Bh,⟨Ai,s2,L2,rfl,Bi.mono AOq,Au,Av,by rw [<- Aw,Ap];unfold sgn;first | (rw [if_pos rfl];omega) | (rw [if_neg AOs];omega)⟩⟩
 ·refine AOz<|Ahs rfl (AO4<|q_t<|AOv<|AOr<|Asv Arp Ajp rfl ?_);rw [show IntKind.u64.wrap n=((n.natAbs:Nat):Int) by rw [wrap_u64];omega];refine Ahr trivial rfl (Axa n.natAbs AOq _) λCf Cg hk=>?_;obtain ⟨Am,L1,Ah,Ao,Ap,A5⟩:=hk;refine ⟨trivial,?_⟩;have Ch:=Am.1;have Bj:=Z8.trans Am;have Bl:=E4.trans Am;have Bm:=V3.ext Am;have Bn:=E4.trans Am;refine Ahr trivial rfl (Are false Ah Ao AOq) λCi Cj hk=>?_;obtain ⟨Ae,Aq⟩:=hk;refine ⟨trivial,?_⟩;have Ck:=Ae.1;have Bo:=Bj.trans Ae;have Bp:=Bl.trans Ae;have Bq:=Bm.ext Ae;have Br:=Bn.trans Ae;have Bt:=Ah.ext Ae;obtain ⟨Ai,s2,L2,rfl,Aj,Au,Av,Aw⟩:=Aq.out;refine Ai5 [.bool Ai,s2] Aip rfl rfl rfl rfl (Aqv Aj.cap) Bq λCm Bu Af=>?_;have Bv:=Bp.thenUpd Af (λk hk=>by have Ak:k=Aa:=hk;omega);have Cn:=Af.1;have Co:=Bo.thenUpd Af (λk hk=>by have Ak:k=Aa:=hk;omega);have Cp:=Br.thenUpd Af (λk hk=>by have Ak:k=Aa:=hk;omega);have Cq:=Bt.updLo Af AOq;have Bw:=Aj.updLo Af AOq;refine AOz<|AO6<|⟨_,Ai1 Aip rfl rfl Bu,?_⟩;exact ⟨Bv,⟨Ai,s2,L2,rfl,Bw.mono AOq,Au,Av,by rw [<- Aw,Ap];unfold sgn;first | (rw [if_pos rfl];omega) | (rw [if_neg AOs];omega)⟩⟩
theorem A5j {lo:Nat} {L:List Nat} (H:DS h lo v L) (hn:L.length<=1000000):Ahq Tryz.prog 192 #[v] h λx h'=>Ext h h'/\DS h' (Array.size h) x L:=by
 obtain ⟨a,n,c,rfl,hnc⟩:=H.cap;refine Aie (l:=[_]) mx Tryz.func192 rfl rfl rfl rfl rfl AO5 (AOv<|AO1<|AOx<|AOv<|AOr<|BL3 Tryz.underlying127 rfl ?_);cases Ad:a.isNone
 ·refine AOz<|Ahs rfl (AO4<|q_t<|AOx ?_);obtain ⟨xa,rfl⟩:∃ q,a=some q:=Option.ne_none_iff_exists'.1 (λhe=>by rw [he] at Ad;cases Ad);refine Ag6<|BRy Ahm (λ_=>trivial) λg1 v1 h1 Af E1 Ag Ap=>?_;have Aq:=E1.1;have Z2:=(Ext.refl h).trans E1;refine AOr ?_;by_cases hL:L=[]
  ·subst hL;obtain rfl:n=0:=BIw H;refine BPj Ahm (λ_=>trivial) rfl Af rfl λv2 h2 Ab U2=>AO1<|AO6<|⟨_,AO7,?_⟩;exact ⟨E1.thenUpd U2 (λk hk=>by have Ai:k=g1:=hk;omega),Ab.ds H.dig Ag⟩
  refine BOm Ahm As7 rfl trivial rfl Af rfl (H.sl.ext E1) (λu hu=>by obtain ⟨y,_,rfl⟩:=List.mem_map.1 hu;rfl) (by simpa using hL) (by simp;omega) (by simp;omega) λv2 g2 h2 Ab Ak U2=>?_;refine ⟨trivial,?_⟩;have XZ:=E1.thenUpd U2 (λk hk=>by have Ai:k=g1:=hk;omega);have hg2l:Array.size h<=g2:=by rcases Ak with rfl | rfl;exact Ag;omega
  refine AO1<|AO6<|⟨_,AO7,?_⟩;exact ⟨XZ,Ab.ds H.dig hg2l⟩
 ·refine AOz<|Ahn rfl (AOx ?_);have h0:L=[]:=BL4 (Option.isNone_iff_eq_none.1<|by assumption) H;refine Ag6<|AO1<|AO6<|Ag9<|⟨_,AO7,?_⟩;subst h0;exact ⟨Ext.refl _,Ayg _ _⟩
def Anz (z:Int):Int:=if z < 0 then -1 else if z=0 then 0 else 1
theorem sign_zero {z:Int} (h:z=0):Anz z=0:=by subst h;rfl
theorem sign_neg {z:Int} (h:z < 0):Anz z= -1:=if_pos h
theorem Ayj {z:Int} (h:0 < z):Anz z=1:=by unfold Anz;omega
theorem Sign_ok {lo:Nat} {z:Int} (HA:ZV h lo va z):Ahq Tryz.prog 155 #[va] h λx h'=>Ext h h'/\x= .int .i64 (Anz z):=by
 obtain ⟨na,sa,LA,rfl,HDa,htla,hla,hza⟩:=HA.out;have hna:LA.length<=1000000:=by omega
 refine Aie (l:=[_]) mx Tryz.func155 rfl rfl rfl rfl rfl AO5 (AOv<|Aqx [.bool na,sa] (λ_=>trivial) rfl rfl λAj h2 V3 E4 Ak Aq=>?_);have Ar:Array.size h<=Aj:=Ak;have Au:=E4.1;have Z8:=(Ext.refl h).trans E4;refine AO1<|AOx<|AO0<|AOv<|Ank (fs:=1) Atl AO5 AOs rfl (Aht Apk rfl (V3.cell (i:=1) rfl) (Ahr trivial rfl (At7 (DS.mono (HDa.ext E4)<|Nat.zero_le _) hna) λx9 h2 hk=>?_));obtain ⟨rfl,L1,Af,Ag⟩:=hk;refine ⟨trivial,?_⟩;have Am:=Af.ds (lo:=lo) HDa.lo;refine Ai4 Ahm rfl Am (Az2 rfl rfl (λAo=>?_) (λAo=>?_))
 ·refine AO1 (Ahn rfl (AOv<|AO1<|AO6<|Aiq<|Ag9<|⟨_,AO7,?_⟩))
  first
  | (have h0:L1=[]:=List.length_eq_zero_iff.1 AOq
     have h1:nv LA=0:=by rw [<- Af.val,h0];rfl
     exact ⟨E4,congrArg (Value.int .i64) (sign_zero<|hza.trans (by rw [h1];cases na <;> rfl)).symm⟩)
  | (have h1:nv LA≠0:=λh0=>by rw [<- Af.val] at h0;have:=congrArg List.length<|Aox Ag h0;rw [List.length_nil] at this;omega
     have h2:z=sgn na (nv LA):=hza
     have h3:na=true:=by assumption
     exact ⟨E4,congrArg (Value.int .i64) (sign_neg (by rw [h2,h3];unfold sgn;rw [if_pos rfl];omega)).symm⟩)
  | (have h1:nv LA≠0:=λh0=>by rw [<- Af.val] at h0;have:=congrArg List.length<|Aox Ag h0;rw [List.length_nil] at this;omega
     have h2:z=sgn na (nv LA):=hza
     have h3:na=false:=by assumption
     exact ⟨E4,congrArg (Value.int .i64) (Ayj (by rw [h2,h3];unfold sgn;rw [if_neg AOs];omega)).symm⟩)
 ·refine AO1<|Ahs rfl (AOv<|Ank (fs:=1) As0 AO5 AOs rfl (Aht Amd rfl (V3.cell (i:=0) rfl) (AO1<|⟨_,rfl,λAp=>?_,λAp=>?_⟩)))
  ·refine AOv (AO1<|AO6<|Aiq<|Ag9<|⟨_,AO7,?_⟩)
   first
   | (have h0:L1=[]:=List.length_eq_zero_iff.1 AOq
      have h1:nv LA=0:=by rw [<- Af.val,h0];rfl
      exact ⟨E4,congrArg (Value.int .i64) (sign_zero<|hza.trans (by rw [h1];cases na <;> rfl)).symm⟩)
   | (have h1:nv LA≠0:=λh0=>by rw [<- Af.val] at h0;have:=congrArg List.length<|Aox Ag h0;rw [List.length_nil] at this;omega
      have h2:z=sgn na (nv LA):=hza
      have h3:na=true:=by assumption
      exact ⟨E4,congrArg (Value.int .i64) (sign_neg (by rw [h2,h3];unfold sgn;rw [if_pos rfl];omega)).symm⟩)
   | (have h1:nv LA≠0:=λh0=>by rw [<- Af.val] at h0;have:=congrArg List.length<|Aox Ag h0;rw [List.length_nil] at this;omega
      have h2:z=sgn na (nv LA):=hza
      have h3:na=false:=by assumption
      exact ⟨E4,congrArg (Value.int .i64) (Ayj (by rw [h2,h3];unfold sgn;rw [if_neg AOs];omega)).symm⟩)
  ·refine AO4 (q_b<|q_t<|AOv<|AO1<|AO6<|⟨_,AO7,?_⟩)
   first
   | (have h0:L1=[]:=List.length_eq_zero_iff.1 AOq
      have h1:nv LA=0:=by rw [<- Af.val,h0];rfl
      exact ⟨E4,congrArg (Value.int .i64) (sign_zero<|hza.trans (by rw [h1];cases na <;> rfl)).symm⟩)
   | (have h1:nv LA≠0:=λh0=>by rw [<- Af.val] at h0;have:=congrArg List.length<|Aox Ag h0;rw [List.length_nil] at this;omega
      have h2:z=sgn na (nv LA):=hza
      have h3:na=true:=by assumption
      exact ⟨E4,congrArg (Value.int .i64) (sign_neg (by rw [h2,h3];unfold sgn;rw [if_pos rfl];omega)).symm⟩)
   | (have h1:nv LA≠0:=λh0=>by rw [<- Af.val] at h0;have:=congrArg List.length<|Aox Ag h0;rw [List.length_nil] at this;omega
      have h2:z=sgn na (nv LA):=hza
      have h3:na=false:=by assumption
      exact ⟨E4,congrArg (Value.int .i64) (Ayj (by rw [h2,h3];unfold sgn;rw [if_neg AOs];omega)).symm⟩)
theorem Neg_ok {lo:Nat} {z:Int} (HA:ZV h lo va z):Ahq Tryz.prog 190 #[va] h λx h'=>Ext h h'/\ZV h' (Array.size h) x (-z):=by
 obtain ⟨na,sa,LA,rfl,HDa,htla,hla,hza⟩:=HA.out;have hna:LA.length<=1000000:=by omega
 refine Aie (l:=[_]) mx Tryz.func190 rfl rfl rfl rfl rfl AO5 (AOv<|Aqx [.bool na,sa] (λ_=>trivial) rfl rfl λAm h2 V3 E4 Az Bx=>?_);have By:Array.size h<=Am:=Az;have Bz:=E4.1;have Z8:=(Ext.refl h).trans E4;refine Aou [.bool false,.slice none 0 0] Amo rfl (λ_=>trivial) λAd Ah A4 Ae A5 B1=>?_;have B3:Array.size h<=Ad:=Nat.le_trans E4.1 A5;have nebq1bq9:Am≠Ad:=by have:=V3.lt;omega
 have B4:=Ae.1;have A6:=Z8.trans Ae;have Ap:=E4.trans Ae;have Aq:=V3.ext Ae;have A7:=E4.trans Ae;refine AOz<|AOx<|Aiz (λh'=>Ext Ah h') AO5 ?_;have Af:=Ext.refl Ah;refine Ank (fs:=1) As0 AO5 AOs rfl (Ahk Amd rfl Af (λh' hb=>(Aq.ext hb).cell (i:=0) rfl) (Akg rfl (Ank (fs:=1) Atl AO5 AOs rfl (Ahk Apk rfl Af (λh' hb=>(Aq.ext hb).cell (i:=1) rfl) (Ahr Af rfl (At7 (DS.mono (HDa.ext Ap)<|Nat.zero_le _) hna) λB5 Ah hk=>?_)))));obtain ⟨rfl,L1,Ai,A8⟩:=hk;refine ⟨Af,?_⟩;have A9:=Ai.ds (lo:=lo) HDa.lo;have Ar:=Ai.val;have B7:=Ai.len;refine Ahr Af rfl (A5j A9 AOq) λB8 B9 hk=>?_;obtain ⟨Ab,Au⟩:=hk;have Aj:=Af.trans Ab;refine ⟨Aj,?_⟩;have Ca:=Ab.1;have Ba:=A6.trans Ab;have Bb:=Ap.trans Ab;have Bc:=A7.trans Ab;have Be:=A4.ext Ab;have Bf:=Ae.trans Ab;refine Ahr Aj rfl (Are (!na) Au A8 AOq) λCb Cd hk=>?_;obtain ⟨Aa,Bg⟩:=hk;have Bh:=Aj.trans Aa;refine ⟨Bh,?_⟩;have Ce:=Aa.1;have Bi:=Ba.trans Aa;have Bj:=Bb.trans Aa;have Bl:=Bc.trans Aa;have Bm:=Be.ext Aa;have Bn:=Bf.trans Aa;have Bo:=Au.ext Aa;obtain ⟨Av,s3,L3,rfl,Ax,Bq,Br,Ay⟩:=Bg.out;refine Ai5 [.bool Av,s3] Aip rfl rfl rfl rfl (Aqv Ax.cap) Bm λCf Bt Ac=>?_;have Bu:=Bj.thenUpd Ac (λk hk=>by have Ak:k=Ad:=hk;omega);have Cg:=Ac.1;have Ch:=Bi.thenUpd Ac (λk hk=>by have Ak:k=Ad:=hk;omega);have Ci:=Bn.thenUpd Ac (λk hk=>by have Ak:k=Ad:=hk;omega);have Cj:=Bl.thenUpd Ac (λk hk=>by have Ak:k=Ad:=hk;omega);have Ck:=Bo.updLo Ac AOq;have Bv:=Ax.updLo Ac AOq;refine AOz<|AO6<|⟨_,Ai1 Aip rfl rfl Bt,?_⟩;exact ⟨Bu,⟨Av,s3,L3,rfl,Bv.mono AOq,Bq,Br,by first | (rw [<- Ay,Ar,hza];done) | (rw [<- Ay,Ar,hza];cases na <;> simp [sgn])⟩⟩
theorem Normalize_ok {lo:Nat} {z:Int} (HA:ZV h lo va z):Ahq Tryz.prog 156 #[va] h λx h'=>Ext h h'/\ZV h' (Array.size h) x (z):=by
 obtain ⟨na,sa,LA,rfl,HDa,htla,hla,hza⟩:=HA.out;have hna:LA.length<=1000000:=by omega
 refine Aie (l:=[_]) mx Tryz.func156 rfl rfl rfl rfl rfl AO5 (AOv<|Aqx [.bool na,sa] (λ_=>trivial) rfl rfl λAm h2 V3 E4 Az Bx=>?_);have By:Array.size h<=Am:=Az;have Bz:=E4.1;have Z8:=(Ext.refl h).trans E4;refine Aou [.bool false,.slice none 0 0] Amo rfl (λ_=>trivial) λAd Ah A4 Ae A5 B1=>?_;have B3:Array.size h<=Ad:=Nat.le_trans E4.1 A5;have nebq1bq9:Am≠Ad:=by have:=V3.lt;omega
 have B4:=Ae.1;have A6:=Z8.trans Ae;have Ap:=E4.trans Ae;have Aq:=V3.ext Ae;have A7:=E4.trans Ae;refine AOz<|AOx<|Aiz (λh'=>Ext Ah h') AO5 ?_;have Af:=Ext.refl Ah;refine Ank (fs:=1) As0 AO5 AOs rfl (Ahk Amd rfl Af (λh' hb=>(Aq.ext hb).cell (i:=0) rfl) (Ank (fs:=1) Atl AO5 AOs rfl (Ahk Apk rfl Af (λh' hb=>(Aq.ext hb).cell (i:=1) rfl) (Ahr Af rfl (At7 (DS.mono (HDa.ext Ap)<|Nat.zero_le _) hna) λB5 Ah hk=>?_))));obtain ⟨rfl,L1,Ai,A8⟩:=hk;refine ⟨Af,?_⟩;have A9:=Ai.ds (lo:=lo) HDa.lo;have Ar:=Ai.val;have B7:=Ai.len;refine Ahr Af rfl (A5j A9 AOq) λB8 B9 hk=>?_;obtain ⟨Ab,Au⟩:=hk;have Aj:=Af.trans Ab;refine ⟨Aj,?_⟩;have Ca:=Ab.1;have Ba:=A6.trans Ab;have Bb:=Ap.trans Ab;have Bc:=A7.trans Ab;have Be:=A4.ext Ab;have Bf:=Ae.trans Ab;refine Ahr Aj rfl (Are na Au A8 AOq) λCb Cd hk=>?_;obtain ⟨Aa,Bg⟩:=hk;have Bh:=Aj.trans Aa;refine ⟨Bh,?_⟩;have Ce:=Aa.1;have Bi:=Ba.trans Aa;have Bj:=Bb.trans Aa;have Bl:=Bc.trans Aa;have Bm:=Be.ext Aa;have Bn:=Bf.trans Aa;have Bo:=Au.ext Aa;obtain ⟨Av,s3,L3,rfl,Ax,Bq,Br,Ay⟩:=Bg.out;refine Ai5 [.bool Av,s3] Aip rfl rfl rfl rfl (Aqv Ax.cap) Bm λCf Bt Ac=>?_;have Bu:=Bj.thenUpd Ac (λk hk=>by have Ak:k=Ad:=hk;omega);have Cg:=Ac.1;have Ch:=Bi.thenUpd Ac (λk hk=>by have Ak:k=Ad:=hk;omega);have Ci:=Bn.thenUpd Ac (λk hk=>by have Ak:k=Ad:=hk;omega);have Cj:=Bl.thenUpd Ac (λk hk=>by have Ak:k=Ad:=hk;omega);have Ck:=Bo.updLo Ac AOq;have Bv:=Ax.updLo Ac AOq;refine AOz<|AO6<|⟨_,Ai1 Aip rfl rfl Bt,?_⟩;exact ⟨Bu,⟨Av,s3,L3,rfl,Bv.mono AOq,Bq,Br,by first | (rw [<- Ay,Ar,hza];done) | (rw [<- Ay,Ar,hza];cases na <;> simp [sgn])⟩⟩
def Au4 (a b:Nat):Int:=if a < b then -1 else if a=b then 0 else 1
theorem Arr {b:Nat} (h:a < b):Au4 a b= -1:=if_pos h
theorem Ars {b:Nat} (h:b < a):Au4 a b=1:=by unfold Au4;omega
theorem Ayk {b:Nat} (h:a=b):Au4 a b=0:=by unfold Au4;omega
theorem Art {A:List Nat} (ha:Dig A) (hb:TL B) (h:A.length < B.length):nv A < nv B:=by
 have h1:=Auw ha;have h2:=BIu hb (λhe=>by grind);have h3:4294967296 ^ A.length<=4294967296 ^ (B.length - 1):=Nat.pow_le_pow_right AOs AOq;omega
theorem Aru {A:List Nat} (ha:Dig A) (hb:Dig B) {x:Nat} (hl:A.length=B.length) (hx:A[i]? =some x) (hy:B[i]? =some y) (hxy:x < y) (hs:∀ q,i < q->A[q]? =B[q]?):nv A < nv B:=by
 have hi:=(List.getElem?_eq_some_iff.1 hx).1;have hd:A.drop (i + 1)=B.drop (i + 1):=List.ext_getElem? λq=>by grind
 have e:∀ L:List Nat,nv L=nv (L.take<|i + 1) + 4294967296 ^ (L.take<|i + 1).length * nv (L.drop<|i + 1):=λL=>by rw [<- A2q,List.take_append_drop]
 rw [e A,e B,hd,Aja hx,Aja hy,List.length_take,List.length_take,hl];have h1:=Ayh ha (i:=i) AOq;have h2:4294967296 ^ i * (x + 1)<=4294967296 ^ i * y:=Nat.mul_le_mul_left _ hxy;grind
theorem A3h (HA:DS h la va LA) (HB:DS h lb vb LB) (hta:TL LA) (htb:TL LB) (hna:LA.length<=1000000) (hnb:LB.length<=1000000):Ahq Tryz.prog 204 #[va,vb] h λx h'=>h'=h/\x= .int .i64 (Au4 (nv LA)<|nv LB):=by
 refine Aie (l:=[_,_]) mx Tryz.func204 rfl rfl rfl rfl rfl AO5 (AOv<|AO1<|AOx<|AO0<|AOv<|AOr<|Ai4 Ahm rfl HA (AOr<|Ai4 Ahm rfl HB (Amb rfl rfl (λAc=>?_) (λAc=>?_))))
 ·refine AO1 (Ahn rfl (AOv<|AO1<|AO6<|Aiq<|Ag9<|⟨_,AO7,?_⟩))
  first
  | exact ⟨rfl,congrArg (Value.int .i64) (Arr<|Art HA.dig htb AOq).symm⟩
  | exact ⟨rfl,congrArg (Value.int .i64) (Ars<|Art HB.dig hta AOq).symm⟩
  | exact ⟨rfl,congrArg (Value.int .i64) (Arr<|Aru HA.dig HB.dig AOq hx hy AOq λq hq=>hsame q AOq).symm⟩
  | exact ⟨rfl,congrArg (Value.int .i64) (Ars<|Aru HB.dig HA.dig AOq hy hx AOq λq hq=>(hsame q AOq).symm).symm⟩
  | exact ⟨rfl,congrArg (Value.int .i64) (Ayk<|congrArg nv<|List.ext_getElem? λq=>hsame q AOq).symm⟩
 ·refine AO1<|Ahs rfl (AOv<|AOr<|Ai4 Ahm rfl HA (AOr<|Ai4 Ahm rfl HB (Ayd rfl rfl (λAd=>?_) (λAd=>?_))))
  ·refine AO1 (Ahn rfl (AOv<|AO1<|AO6<|Aiq<|Ag9<|⟨_,AO7,?_⟩))
   first
   | exact ⟨rfl,congrArg (Value.int .i64) (Arr<|Art HA.dig htb AOq).symm⟩
   | exact ⟨rfl,congrArg (Value.int .i64) (Ars<|Art HB.dig hta AOq).symm⟩
   | exact ⟨rfl,congrArg (Value.int .i64) (Arr<|Aru HA.dig HB.dig AOq hx hy AOq λq hq=>hsame q AOq).symm⟩
   | exact ⟨rfl,congrArg (Value.int .i64) (Ars<|Aru HB.dig HA.dig AOq hy hx AOq λq hq=>(hsame q AOq).symm).symm⟩
   | exact ⟨rfl,congrArg (Value.int .i64) (Ayk<|congrArg nv<|List.ext_getElem? λq=>hsame q AOq).symm⟩
  ·refine AO1<|Ahs rfl (AO4<|q_b<|q_t<|AOx<|AOv<|AOr<|Ai4 Ahm rfl HA (Auc rfl rfl AOq AOq (AO1<|AO0<|Aj4 35184369991728 (λi:Nat=>[(5,.int .i64<|(i:Int) - 1)]) (λk i h'=>h'=h/\i=k/\i<=LA.length/\ ∀ q,i<=q->LA[q]? =LB[q]?) AO5 LA.length LA.length ?_ ⟨rfl,trivial⟩ ?_)))
   ·exact ⟨rfl,rfl,Nat.le_refl _,λq hq=>by rw [List.getElem?_eq_none hq,List.getElem?_eq_none AOq]⟩
   rintro k i s1 h ⟨rfl,rfl,hi,hsame⟩;refine AOx<|AOv<|AOr<|A11 rfl rfl (λAe=>?_) (λAe=>?_)
   ·refine AOz<|Ahn rfl (AO4<|q_t<|AOx<|AO0<|AO0<|AOx ?_);obtain ⟨x,hx⟩:∃ x,LA[i - 1]? =some x:=⟨_,List.getElem?_eq_getElem AOq⟩;obtain ⟨y,hy⟩:∃ y,LB[i - 1]? =some y:=⟨_,List.getElem?_eq_getElem AOq⟩;have e1:((i:Int) - 1)=((i - 1:Nat):Int):=by omega
    refine Ayc AO5<|AOr<|AOr<|Aqd (n:=i - 1) Ahm rfl HA (show Value.int .i64 ((i:Int) - 1)=_ by rw [e1]) hx λa1 Af=>?_;refine Aht Ajo rfl Af (AOr<|AOr<|Aqd (n:=i - 1) Ahm rfl HB (show Value.int .i64 ((i:Int) - 1)=_ by rw [e1]) hy λa2 Ag=>?_);refine Aht Ajo rfl Ag (Amb rfl rfl (λAh=>?_) (λAh=>?_))
    ·refine AO1 (Ahn rfl (AOv<|AO1<|AO6<|Aiq<|Aiq<|Ag9<|Ag9<|Aiq<|Ag9<|⟨_,AO7,?_⟩))
     first
     | exact ⟨rfl,congrArg (Value.int .i64) (Arr<|Art HA.dig htb AOq).symm⟩
     | exact ⟨rfl,congrArg (Value.int .i64) (Ars<|Art HB.dig hta AOq).symm⟩
     | exact ⟨rfl,congrArg (Value.int .i64) (Arr<|Aru HA.dig HB.dig AOq hx hy AOq λq hq=>hsame q AOq).symm⟩
     | exact ⟨rfl,congrArg (Value.int .i64) (Ars<|Aru HB.dig HA.dig AOq hy hx AOq λq hq=>(hsame q AOq).symm).symm⟩
     | exact ⟨rfl,congrArg (Value.int .i64) (Ayk<|congrArg nv<|List.ext_getElem? λq=>hsame q AOq).symm⟩
    ·refine AO1<|Ahs rfl (AOx<|Ayc AO5<|AOr<|AOr<|Aqd (n:=i - 1) Ahm rfl HA (show Value.int .i64 ((i:Int) - 1)=_ by rw [e1]) hx λa3 Ai=>?_);refine Aht Ajo rfl Ai (AOr<|AOr<|Aqd (n:=i - 1) Ahm rfl HB (show Value.int .i64 ((i:Int) - 1)=_ by rw [e1]) hy λa4 Aj=>?_);refine Aht Ajo rfl Aj (Ayd rfl rfl (λAk=>?_) (λAk=>?_))
     ·refine AO1 (Ahn rfl (AOv<|AO1<|AO6<|Aiq<|Aiq<|Ag9<|Ag9<|Aiq<|Ag9<|⟨_,AO7,?_⟩))
      first
      | exact ⟨rfl,congrArg (Value.int .i64) (Arr<|Art HA.dig htb AOq).symm⟩
      | exact ⟨rfl,congrArg (Value.int .i64) (Ars<|Art HB.dig hta AOq).symm⟩
      | exact ⟨rfl,congrArg (Value.int .i64) (Arr<|Aru HA.dig HB.dig AOq hx hy AOq λq hq=>hsame q AOq).symm⟩
      | exact ⟨rfl,congrArg (Value.int .i64) (Ars<|Aru HB.dig HA.dig AOq hy hx AOq λq hq=>(hsame q AOq).symm).symm⟩
      | exact ⟨rfl,congrArg (Value.int .i64) (Ayk<|congrArg nv<|List.ext_getElem? λq=>hsame q AOq).symm⟩
     ·refine AO1<|Ahs rfl (AO4<|q_b<|q_b<|q_t<|Ag6<|AOr<|Auc rfl rfl AOq AOq (AO1 ?_));exact ⟨i - 1,i - 1,AOq,⟨rfl,rfl,AOq,λq hq=>by rcases Nat.lt_or_ge q i with h2 | h2;obtain rfl:q=i - 1:=AOq;rw [hx,hy];congr 1;omega;exact hsame q h2⟩,by rw [show ((i - 1:Nat):Int) - 1=(i:Int) - 1 - 1 by omega];rfl,trivial⟩
   ·refine AOz (Ahs rfl (Ahf<|Ahg<|Ahg<|Aim<|q_t<|AOv<|AO1<|AO6<|⟨_,AO7,?_⟩))
    first
    | exact ⟨rfl,congrArg (Value.int .i64) (Arr<|Art HA.dig htb AOq).symm⟩
    | exact ⟨rfl,congrArg (Value.int .i64) (Ars<|Art HB.dig hta AOq).symm⟩
    | exact ⟨rfl,congrArg (Value.int .i64) (Arr<|Aru HA.dig HB.dig AOq hx hy AOq λq hq=>hsame q AOq).symm⟩
    | exact ⟨rfl,congrArg (Value.int .i64) (Ars<|Aru HB.dig HA.dig AOq hy hx AOq λq hq=>(hsame q AOq).symm).symm⟩
    | exact ⟨rfl,congrArg (Value.int .i64) (Ayk<|congrArg nv<|List.ext_getElem? λq=>hsame q AOq).symm⟩
theorem A9c (HA:DS h la va LA) (HB:DS h lb vb LB) (hna:LA.length<=1000) (hnb:LB.length<=1000):Ahq Tryz.prog 194 #[va,vb] h λx h'=>Ext h h'/\ ∃ L,DS h' (Array.size h) x L/\TL L/\nv L=nv LA + nv LB/\L.length<=1001:=by
 refine Aie (l:=[_,_]) mx Tryz.func194 rfl rfl rfl rfl rfl AO5 (AOv<|AO1<|A1x 65027 (λy:Value × Value × List Nat × List Nat=>[(0,y.1),(1,y.2.1)]) (λy h'=>h'=h/\DS h 0 y.1 y.2.2.1/\DS h 0 y.2.1 y.2.2.2/\y.2.2.2.length<=y.2.2.1.length/\y.2.2.1.length<=1000/\nv y.2.2.1 + nv y.2.2.2=nv LA + nv LB) AO5 ?_ ?_)
 ·refine AOv<|AOr<|Ai4 Ahm rfl HA (AOr<|Ai4 Ahm rfl HB (Amb rfl rfl (λAo=>?_) (λAo=>?_)))
  ·refine AOz<|Ahn rfl (Ag6<|AOr<|AOr<|Ahl<|AO1 ?_);exact ⟨(_,_,LB,LA),⟨rfl,HB.mono<|Nat.zero_le _,HA.mono<|Nat.zero_le _,by first | omega | (dsimp only;omega),hnb,Nat.add_comm _ _⟩,rfl,rfl,trivial⟩
  ·refine AOz<|Ahs rfl (AO4<|q_t ?_);exact ⟨(_,_,LA,LB),⟨rfl,HA.mono<|Nat.zero_le _,HB.mono<|Nat.zero_le _,by first | omega | (dsimp only;omega),hna,rfl⟩,rfl,rfl,trivial⟩
 rintro ⟨A9,Ba,A,B⟩ s0 h ⟨rfl,HX,HY,hBA,Ap,hsum⟩;dsimp only at HX HY hBA Ap hsum ⊢;refine AOv<|AOr<|Ai4 Ahm rfl HX (Awr (b:=1) rfl rfl AOq (A7d (n:=A.length + 1) Ahm As7 (λ_=>trivial) rfl rfl AOs AOq λg1 v1 h1 Aq E1 Ar Be=>?_));have Bf:=E1.1;have Z2:=(Ext.refl h).trans E1;refine Ah4<|AO1<|AOx<|AOv<|AOr<|Ai4 Ahm rfl (HY.ext E1) (AOr<|AOz<|AO0<|Aj4 70368739983552 (λy:Nat × Nat=>[(22,.int .i64 (y.1:Int)),(6,.int .u64 (y.2:Int))]) (λk y h'=>k=B.length - y.1/\y.1<=B.length/\Ext h h'/\y.2<=1/\ ∃ D,Alg h' 200 g1 v1 ((D ++ List.replicate ((A.length + 1) - y.1) 0).map Au7)/\D.length=y.1/\Dig D/\nv D + 4294967296 ^ y.1 * y.2=nv (A.take y.1) + nv (B.take y.1)) AO5 B.length (0,0) ?_ ⟨rfl,rfl,trivial⟩ ?_)
 ·exact ⟨rfl,Nat.zero_le _,E1,by first | omega | (dsimp only;omega),[],by simpa using Aq,rfl,λx hx=>(by simp at hx),rfl⟩
 rintro k ⟨i,c⟩ s1 h2 ⟨rfl,hi,E2,hc,D,Ag,hDl,hDd,hDv⟩;dsimp only at hi hc Ag hDl hDv ⊢;have Bi:=E2.1;refine AOv<|Amb rfl rfl (λAu=>?_) (λAu=>?_)
 ·refine AOz<|AOx<|Ahn rfl (AO4<|q_t<|AOx<|AO0<|AOv<|AOr<|AO1<|AOx ?_);obtain ⟨x,hx⟩:∃ x,A[i]? =some x:=⟨_,List.getElem?_eq_getElem AOq⟩;have hbx:=HX.dig x<|List.mem_of_getElem? hx;obtain ⟨y,hy⟩:∃ x,B[i]? =some x:=⟨_,List.getElem?_eq_getElem AOq⟩;have hby:=HY.dig y<|List.mem_of_getElem? hy;refine Ayc AO5<|AOr<|AOr<|AOr<|Aqd Ahm rfl (HX.ext E2) rfl hx λBj Av=>Aht Ajo rfl Av (Azr Akc Ajp rfl hbx (AOr<|AOr<|Aqd Ahm rfl (HY.ext E2) rfl hy λBl Aw=>Aht Ajo rfl Aw (Azr Akc Ajp rfl hby (Av8 rfl rfl AOq (Av8 rfl rfl AOq (Ah4<|AOr<|AOr<|AOr<|A1j Ajp Akc rfl (Az0 Ahm rfl Ag rfl (by simp;omega) ?_)))))));refine A1i (D ++ [(c + (x + y)) % 4294967296] ++ List.replicate (A.length + 1 - (i + 1)) 0) Ajo rfl rfl Ag (by simp;omega) (A6f hDl AOq) λh4 Ax U4=>?_;have Bn:=U4.1;have X7:=E2.thenUpd U4 (λk hk=>by have Ad:k=g1:=hk;omega);have Z8:=E2.thenUpd U4 (λk hk=>by have Ad:k=g1:=hk;omega);refine AOz<|Ag6<|AOr<|A0w rfl rfl (Ahl<|Ahh<|q_b<|q_t<|Ag6<|Ara rfl AOq (AOr<|AOz ?_));exact ⟨B.length - (i + 1),(i + 1,(c + (x + y)) / 4294967296),by first | omega | (dsimp only;omega),⟨rfl,by first | omega | (dsimp only;omega),X7,by first | omega | (dsimp only;omega),_,Ax,by simp [hDl],Aue hDd<|Nat.mod_lt _ AOs,by rw [As4,hDl,A0x hDv,Aja hx,Aja hy,Nat.mul_add];omega⟩,rfl,rfl,trivial⟩
 ·refine AOz<|AOx<|Ahs rfl (Ahf<|Ahg<|Ahg<|Aim<|q_t<|AOx<|AOv<|AOr<|Ai4 Ahm rfl (HX.ext E2) (AOr<|Ai4 Ahm rfl (HY.ext E2) (Auc rfl rfl AOq AOq ?_)));rw [show ((A.length:Nat):Int) - ((B.length:Nat):Int)=((A.length - B.length:Nat):Int) by omega];refine AOr<|AOz<|AO0 ?_;obtain rfl:i=B.length:=by omega
  rw [List.take_length] at hDv;refine Aj4 37778929611157348024640 (λy:Nat × Nat=>[(51,.int .i64 (y.1:Int)),(6,.int .u64 (y.2:Int))]) (λk y h'=>k=A.length - B.length - y.1/\y.1<=A.length - B.length/\Ext h h'/\y.2<=1/\ ∃ D,Alg h' 200 g1 v1 ((D ++ List.replicate ((A.length + 1) - (B.length + y.1)) 0).map Au7)/\D.length=B.length + y.1/\Dig D/\nv D + 4294967296 ^ (B.length + y.1) * y.2=nv (A.take<|B.length + y.1) + nv B) AO5 (A.length - B.length) (0,c) ?_ ⟨rfl,rfl,trivial⟩ ?_
  ·exact ⟨rfl,Nat.zero_le _,E2,hc,D,Ag,hDl,hDd,hDv⟩
  rintro k ⟨j,c⟩ s2 h3 ⟨rfl,hj,E3,hc,D,Ae,hDl,hDd,hDv⟩;dsimp only at hj hc Ae hDl hDv ⊢;have Bq:=E3.1;refine AOv<|Amb rfl rfl (λAz=>?_) (λAz=>?_)
  ·refine AOz<|AOx<|Ahn rfl (AO4<|q_t<|AOx<|AO0<|AOv<|AOr<|AO1<|AOx ?_);obtain ⟨x,hx⟩:∃ x,A[(B.length + j)]? =some x:=⟨_,List.getElem?_eq_getElem AOq⟩;have hbx:=HX.dig x<|List.mem_of_getElem? hx;refine Ag6<|AOr<|AOr<|AOr<|Ai4 Ahm rfl (HY.ext E3) (AOr<|Awr rfl rfl AOq (Aqd Ahm rfl (HX.ext E3) rfl hx λBr A3=>Aht Ajo rfl A3 (Azr Akc Ajp rfl hbx (Av8 rfl rfl AOq (Ah4<|AOr<|AOr<|Ai4 Ahm rfl (HY.ext E3) (AOr<|Awr rfl rfl AOq (AOr<|A1j Ajp Akc rfl (Az0 Ahm rfl Ae rfl (by simp;omega) ?_))))))));refine A1i (D ++ [(c + x) % 4294967296] ++ List.replicate (A.length + 1 - (B.length + j + 1)) 0) Ajo rfl rfl Ae (by simp;omega) (A6f hDl AOq) λh5 A4 U5=>?_;have Bu:=U5.1;have A5:=E3.thenUpd U5 (λk hk=>by have Ad:k=g1:=hk;omega);have Bv:=E3.thenUpd U5 (λk hk=>by have Ad:k=g1:=hk;omega);refine AOz<|Ag6<|AOr<|A0w rfl rfl (Ahl<|Ahh<|q_b<|q_t<|Ag6<|Ara rfl AOq (AOr<|AOz ?_));exact ⟨A.length - B.length - (j + 1),(j + 1,(c + x) / 4294967296),by first | omega | (dsimp only;omega),⟨rfl,by first | omega | (dsimp only;omega),A5,by first | omega | (dsimp only;omega),_,A4,by simp [hDl];omega,Aue hDd<|Nat.mod_lt _ AOs,by rw [As4,hDl,<- Nat.add_assoc,A0x hDv,Aja hx];omega⟩,rfl,rfl,trivial⟩
  ·refine AOz<|AOx<|Ahs rfl (Ahf<|Ahg<|Ahg<|Aim<|q_t<|AOx ?_);obtain rfl:j=A.length - B.length:=by omega
   have hBj:B.length + (A.length - B.length)=A.length:=by omega
   rw [hBj,List.take_length] at hDv;rw [hBj] at hDl;refine Ag6<|AOr<|AOr<|Ai4 Ahm rfl (HX.ext E3) (AOr<|A1j Ajp Akc rfl (Az0 Ahm rfl Ae rfl (by simp;omega) ?_));refine A1i (D ++ [c % 4294967296] ++ List.replicate (A.length + 1 - (A.length + 1)) 0) Ajo rfl rfl Ae (by simp;omega) (by rw [hBj];exact A6f hDl AOq) λh6 Ak U6=>?_;have Bw:=U6.1;have A7:=E3.thenUpd U6 (λk hk=>by have Ad:k=g1:=hk;omega);have Bx:=E3.thenUpd U6 (λk hk=>by have Ad:k=g1:=hk;omega);rw [Nat.sub_self,List.replicate_zero,List.append_nil,Nat.mod_eq_of_lt AOq] at Ak;have Am:=Ak.ds (lo:=Array.size h) (Aue hDd AOq) Ar;refine Apu<|AOr<|Ahr trivial rfl (At7 (Am.mono<|Nat.zero_le _) (by simp;omega)) λBy h6 hk=>?_;obtain ⟨rfl,L2,HT,htl⟩:=hk;refine ⟨trivial,?_⟩;refine AO1<|AO6<|⟨_,AO7,?_⟩;exact ⟨A7,L2,HT.ds Am.lo,htl,by rw [HT.val,As4,hDl,hDv];exact hsum,by have:=HT.len;simp at this;omega⟩
theorem A5k (HA:DS h la va LA) (HB:DS h lb vb LB) (htb:TL LB) (hle:nv LB<=nv LA) (hna:LA.length<=1000):Ahq Tryz.prog 195 #[va,vb] h λx h'=>Ext h h'/\ ∃ L,DS h' (Array.size h) x L/\TL L/\nv L=nv LA - nv LB/\L.length<=LA.length:=by
 refine Aie (l:=[_,_]) mx Tryz.func195 rfl rfl rfl rfl rfl AO5 (AOv<|Ah4<|AOr<|Ai4 Ahm rfl HA (A7d (n:=LA.length) Ahm As7 (λ_=>trivial) rfl rfl AOs AOq λg1 v1 h1 Aj E1 Ak Az=>?_));have A3:=E1.1;have Z2:=(Ext.refl h).trans E1;refine Ah4<|AO1<|AOx<|AOv<|AOr<|Ai4 Ahm rfl (HA.ext E1) (AOr<|AOz<|AO0<|Aj4 8796093006272 (λy:Nat × Nat=>[(14,.int .i64 (y.1:Int)),(6,.int .u64 (y.2:Int))]) (λk y h'=>k=LA.length - y.1/\y.1<=LA.length/\Ext h h'/\y.2<=1/\ ∃ D,Alg h' 200 g1 v1 ((D ++ List.replicate (LA.length - y.1) 0).map Au7)/\D.length=y.1/\Dig D/\nv D + nv (LB.take y.1)=nv (LA.take y.1) + 4294967296 ^ y.1 * y.2) AO5 LA.length (0,0) ?_ ⟨rfl,rfl,trivial⟩ ?_)
 ·exact ⟨rfl,Nat.zero_le _,E1,by first | omega | (dsimp only;omega),[],by simpa using Aj,rfl,λx hx=>(by simp at hx),rfl⟩
 rintro k ⟨i,c⟩ s1 h2 ⟨rfl,hi,E2,hc,D,Ab,hDl,hDd,hDv⟩;dsimp only at hi hc Ab hDl hDv ⊢;have A5:=E2.1;refine AOv<|Amb rfl rfl (λAm=>?_) (λAm=>?_)
 ·refine AOz<|AOx<|Ahn rfl (AO4<|q_t<|AOx<|AO0<|AOv<|AOr<|AO1<|AOx ?_);obtain ⟨x,hx⟩:∃ x,LA[i]? =some x:=⟨_,List.getElem?_eq_getElem AOq⟩;have hbx:=HA.dig x<|List.mem_of_getElem? hx;refine Ag6<|AOr<|AOr<|Aqd Ahm rfl (HA.ext E2) rfl hx λA6 Ao=>Aht Ajo rfl Ao (Azr Akc Ajp rfl hbx (AOr<|Anj rfl rfl ?_));rw [wrap_u64];refine AO1<|A1x 34342961408 (λs:Int=>[(8,.int .u64<|s % 18446744073709551616)]) (λs h'=>h'=h2/\s=((x:Int) - (c:Int) - ((LB[i]?.getD 0:Nat):Int))) AO5 ?_ ?_
  ·refine AOv<|AOr<|AOr<|Ai4 Ahm rfl (HB.ext E2) (Amb rfl rfl (λAp=>?_) (λAp=>?_))
   ·refine AOz<|Ahn rfl ?_;obtain ⟨y,Af⟩:∃ y,LB[i]? =some y:=⟨_,List.getElem?_eq_getElem AOq⟩;have hby:=HB.dig y<|List.mem_of_getElem? Af;refine Ag6<|AOr<|AOr<|AOr<|Aqd Ahm rfl (HB.ext E2) rfl Af λA7 Aq=>Aht Ajo rfl Aq (Azr Akc Ajp rfl hby (Anj rfl rfl (AO1 ?_)));exact ⟨((x:Int) - (c:Int) - ((LB[i]?.getD 0:Nat):Int)),⟨rfl,rfl⟩,by rw [Af];show Value.int .u64 _=_;congr 1;rw [wrap_u64];simp only [Option.getD_some];omega,trivial⟩
   ·refine AOz<|Ahs rfl (AO4<|q_t ?_);exact ⟨((x:Int) - (c:Int) - ((LB[i]?.getD 0:Nat):Int)),⟨rfl,rfl⟩,by rw [List.getElem?_eq_none AOq];show Value.int .u64 _=_;congr 1;simp only [Option.getD_none];omega,trivial⟩
  rintro s s2 h2 ⟨rfl,hs⟩;obtain ⟨y,hy⟩:∃ y,LB[i]?.getD 0=y:=⟨_,rfl⟩;rw [hy] at hs;refine AOx ?_
  have hby:y < 4294967296:=by
   rw [<- hy]
   cases hq:LB[i]? with
   | none=>simp
   | some q=>exact HB.dig q<|List.mem_of_getElem? hq
  refine Ag6<|AOr<|AOr<|AOr<|Asv Ajp Akc rfl ?_;obtain ⟨dg,hdg⟩:∃ dg:Nat,(dg:Int)=s % 4294967296:=⟨(s % 4294967296).toNat,AOq⟩;rw [show IntKind.u32.wrap (s % 18446744073709551616)=(dg:Int) by rw [wrap_u32,hdg];omega];refine Az0 Ahm rfl Ab rfl (by simp;omega) ?_;refine A1i (D ++ [dg] ++ List.replicate (LA.length - (i + 1)) 0) Ajo rfl rfl Ab (by simp;omega) (A6f hDl AOq) λh4 Ar U4=>?_;have A9:=U4.1;have X7:=E2.thenUpd U4 (λk hk=>by have Av:k=g1:=hk;omega);have Z8:=E2.thenUpd U4 (λk hk=>by have Av:k=g1:=hk;omega);refine AOz<|Ag6<|AOr<|A7a (n:=63) rfl rfl AOs ?_;rw [show s % 18446744073709551616 / 2 ^ 63=((if s < 0 then 1 else 0:Nat):Int) by split <;> omega];refine Ahl<|Ahh<|q_b<|q_t<|Ag6<|Ara rfl AOq (AOr<|AOz ?_);exact ⟨LA.length - (i + 1),(i + 1,if s < 0 then 1 else 0),by first | omega | (dsimp only;omega),⟨rfl,by first | omega | (dsimp only;omega),X7,by dsimp only;split <;> omega,_,Ar,by simp [hDl],Aue hDd AOq,by rw [As4,hDl,As5 LB,hy,Aja hx];exact A16 hDv (by split <;> omega)⟩,rfl,rfl,trivial⟩
 ·refine AOz<|AOx<|Ahs rfl (Ahf<|Ahg<|Ahg<|Aim<|q_t<|AOx ?_);obtain rfl:i=LA.length:=by omega
  rw [List.take_length,List.take_of_length_le (by have:=Atv htb<|Nat.lt_of_le_of_lt hle<|Auw HA.dig;omega)] at hDv;have hDlt:=Auw hDd;rw [hDl] at hDlt
  have Aw:c=0:=by
   rcases Nat.eq_zero_or_pos c with h0 | h0
   ·exact h0
   ·obtain rfl:c=1:=by omega
    rw [Nat.mul_one] at hDv;omega
  subst Aw;rw [Nat.mul_zero,Nat.add_zero] at hDv;rw [Nat.sub_self,List.replicate_zero,List.append_nil] at Ab;have Ai:=Ab.ds (lo:=Array.size h) hDd Ak;refine Ag6<|AOr<|Ahr trivial rfl (At7 (Ai.mono<|Nat.zero_le _) AOq) λx9 h2 hk=>?_;obtain ⟨rfl,L2,HT,htl⟩:=hk;refine ⟨trivial,?_⟩;refine AO1<|AO6<|⟨_,AO7,?_⟩;exact ⟨E2,L2,HT.ds Ai.lo,htl,by rw [HT.val];omega,by have:=HT.len;omega⟩
theorem BKf {L:List Nat} (h:Dig L) (hl:L.length<=1):nv L<=4294967295:=by
 have h1:=Auw h;have h2:4294967296 ^ L.length<=4294967296 ^ 1:=Nat.pow_le_pow_right AOs hl;omega
theorem BKg {A:List Nat} (ha:Dig A) (hb:Dig B) (la:A.length<=1) (lb:B.length<=1):nv A * nv B < 18446744073709551616:=by
 have:=Nat.mul_le_mul (BKf ha la)<|BKf hb lb;omega
theorem Awt {b:Nat} (h:0<=Au4 a b):b<=a:=by
 unfold Au4 at h;omega
theorem A0z {b:Nat} (h:Au4 a b < 0):a<=b:=by
 unfold Au4 at h;omega
theorem A7g {A:List Nat} (ha:Dig A) (hb:Dig B) (la:A.length<=99) (lb:B.length<=99):nv A + nv B < 4294967296 ^ 100:=by
 have h1:=Auw ha;have h2:=Auw hb;have h3:4294967296 ^ A.length<=4294967296 ^ 99:=Nat.pow_le_pow_right AOs la;have h4:4294967296 ^ B.length<=4294967296 ^ 99:=Nat.pow_le_pow_right AOs lb;omega
theorem A00 {a b:Bool} {x:Nat} (h:a=b):sgn a x + sgn b y=sgn a (x + y):=by
 subst h;cases a <;> simp [sgn] <;> omega
theorem A01 {a b:Bool} {x:Nat} (h:a≠b) (hl:y<=x):sgn a x + sgn b y=sgn a (x - y):=by
 cases a <;> cases b <;> simp [sgn] at h ⊢ <;> omega
theorem Ayl {a b:Bool} {x:Nat} (h:a≠b) (hl:x<=y):sgn a x + sgn b y=sgn b (y - x):=by
 cases a <;> cases b <;> simp [sgn] at h ⊢ <;> omega
theorem BAf (na nb:Bool) (HA:DS h la va LA) (HB:DS h lb vb LB) (hta:TL LA) (htb:TL LB) (hna:LA.length<=99) (hnb:LB.length<=99):Ahq Tryz.prog 203 #[.bool na,va,.bool nb,vb] h λx h'=>Ext h h'/\ZV h' (Array.size h) x (sgn na (nv LA) + sgn nb (nv LB)):=by
 refine Aie (l:=[_,_,_,_]) mx Tryz.func203 rfl rfl rfl rfl rfl AO5 (AOv<|Aou [.bool false,.slice none 0 0] Amo rfl (λ_=>trivial) λAb h2 V3 E4 A8 Cg=>?_);have Ch:Array.size h<=Ab:=A8;have Ci:=E4.1;have Z8:=(Ext.refl h).trans E4;refine AOz<|AOx<|AO0<|AOv<|AOr<|AOr<|BBd A2t rfl rfl ?_;cases Cj:na == nb
 ·refine AO1<|Ahs rfl (AOv<|AOr<|AOr<|Ahr trivial rfl (A3h (HA.ext E4) (HB.ext E4) hta htb AOq AOq) λx9 h2 hk=>?_);obtain ⟨rfl,rfl⟩:=hk;refine ⟨trivial,?_⟩;refine A11 rfl rfl (λA9=>?_) (λA9=>?_)
  ·refine AO1<|Ahn rfl (AOv<|AOr<|AOr<|AOr<|Ahr trivial rfl (A5k (HA.ext E4) (HB.ext E4) htb (Awt<|by assumption) AOq) λCm Cn hk=>?_);obtain ⟨Aq,L1,Ac,Ag,Ah,A6⟩:=hk;refine ⟨trivial,?_⟩;have Co:=Aq.1;have Ba:=Z8.trans Aq;have Bb:=E4.trans Aq;have Bc:=V3.ext Aq;have Be:=E4.trans Aq;refine Ahr trivial rfl (Are na Ac Ag AOq) λCp Cq hk=>?_;obtain ⟨Ai,Ar⟩:=hk;refine ⟨trivial,?_⟩;have Cr:=Ai.1;have Bf:=Ba.trans Ai;have Bg:=Bb.trans Ai;have Bh:=Bc.ext Ai;have Bi:=Be.trans Ai;have Bj:=Ac.ext Ai;obtain ⟨Ad,s2,L2,rfl,Ae,Av,Aw,Ax⟩:=Ar.out;refine Ai5 [.bool Ad,s2] Aip rfl rfl rfl rfl (Aqv Ae.cap) Bh λCt Bl Aj=>?_;have Bm:=Bg.thenUpd Aj (λk hk=>by have Af:k=Ab:=hk;omega);have Cu:=Aj.1;have Cv:=Bf.thenUpd Aj (λk hk=>by have Af:k=Ab:=hk;omega);have Cw:=Bi.thenUpd Aj (λk hk=>by have Af:k=Ab:=hk;omega);have Cx:=Bj.updLo Aj AOq;have Bn:=Ae.updLo Aj AOq;refine AOz<|AO6<|Aiq<|Ag9<|⟨_,Ai1 Aip rfl rfl Bl,?_⟩;exact ⟨Bm,⟨Ad,s2,L2,rfl,Bn.mono AOq,Av,Aw,by rw [<- Ax,Ah];first | exact A00 (eq_of_beq<|by assumption) | exact A01 (ne_of_beq_false<|by assumption) (Awt<|by assumption) | exact Ayl (ne_of_beq_false<|by assumption)<|A0z<|by assumption⟩⟩
  ·refine AO1<|Ahs rfl (AO4<|q_b<|q_t<|AOv<|AOr<|AOr<|AOr<|Ahr trivial rfl (A5k (HB.ext E4) (HA.ext E4) hta (A0z<|by assumption) AOq) λCy Cz hk=>?_);obtain ⟨Ay,L1,Ac,Ag,Ah,A6⟩:=hk;refine ⟨trivial,?_⟩;have C0:=Ay.1;have Bo:=Z8.trans Ay;have Bp:=E4.trans Ay;have Bq:=V3.ext Ay;have Br:=E4.trans Ay;refine Ahr trivial rfl (Are nb Ac Ag AOq) λC1 C2 hk=>?_;obtain ⟨Ak,Ar⟩:=hk;refine ⟨trivial,?_⟩;have C3:=Ak.1;have Bt:=Bo.trans Ak;have Bu:=Bp.trans Ak;have Bv:=Bq.ext Ak;have Bw:=Br.trans Ak;have Bx:=Ac.ext Ak;obtain ⟨Ad,s2,L2,rfl,Ae,Av,Aw,Ax⟩:=Ar.out;refine Ai5 [.bool Ad,s2] Aip rfl rfl rfl rfl (Aqv Ae.cap) Bv λC4 By Am=>?_;have Bz:=Bu.thenUpd Am (λk hk=>by have Af:k=Ab:=hk;omega);have C5:=Am.1;have C6:=Bt.thenUpd Am (λk hk=>by have Af:k=Ab:=hk;omega);have C7:=Bw.thenUpd Am (λk hk=>by have Af:k=Ab:=hk;omega);have C8:=Bx.updLo Am AOq;have B1:=Ae.updLo Am AOq;refine AOz<|AO6<|⟨_,Ai1 Aip rfl rfl By,?_⟩;exact ⟨Bz,⟨Ad,s2,L2,rfl,B1.mono AOq,Av,Aw,by rw [<- Ax,Ah];first | exact A00 (eq_of_beq<|by assumption) | exact A01 (ne_of_beq_false<|by assumption) (Awt<|by assumption) | exact Ayl (ne_of_beq_false<|by assumption)<|A0z<|by assumption⟩⟩
 ·refine AO1<|Ahn rfl (AOv<|AOr<|AOr<|AOr<|Ahr trivial rfl (A9c (HA.ext E4) (HB.ext E4) AOq AOq) λC9 Da hk=>?_);obtain ⟨Az,L1,Ac,Ag,Ah,A6⟩:=hk;refine ⟨trivial,?_⟩;have Db:=Az.1;have B3:=Z8.trans Az;have B4:=E4.trans Az;have B5:=V3.ext Az;have B6:=E4.trans Az;refine Ahr trivial rfl (Are na Ac Ag<|Atv Ag (by rw [Ah];exact A7g HA.dig HB.dig hna hnb)) λDc Dd hk=>?_;obtain ⟨Ao,Ar⟩:=hk;refine ⟨trivial,?_⟩;have De:=Ao.1;have B7:=B3.trans Ao;have B8:=B4.trans Ao;have B9:=B5.ext Ao;have Ca:=B6.trans Ao;have Cb:=Ac.ext Ao;obtain ⟨Ad,s2,L2,rfl,Ae,Av,Aw,Ax⟩:=Ar.out;refine Ai5 [.bool Ad,s2] Aip rfl rfl rfl rfl (Aqv Ae.cap) B9 λDf Cd Ap=>?_;have Ce:=B8.thenUpd Ap (λk hk=>by have Af:k=Ab:=hk;omega);have Dg:=Ap.1;have Dh:=B7.thenUpd Ap (λk hk=>by have Af:k=Ab:=hk;omega);have Di:=Ca.thenUpd Ap (λk hk=>by have Af:k=Ab:=hk;omega);have Dj:=Cb.updLo Ap AOq;have Cf:=Ae.updLo Ap AOq;refine AOz<|AO6<|Aiq<|Ag9<|⟨_,Ai1 Aip rfl rfl Cd,?_⟩;exact ⟨Ce,⟨Ad,s2,L2,rfl,Cf.mono AOq,Av,Aw,by rw [<- Ax,Ah];first | exact A00 (eq_of_beq<|by assumption) | exact A01 (ne_of_beq_false<|by assumption) (Awt<|by assumption) | exact Ayl (ne_of_beq_false<|by assumption)<|A0z<|by assumption⟩⟩
theorem Amv {ng:Bool} {n:Nat} {z:Int} (h:z=sgn ng n):z.natAbs=n:=by
 subst h;cases ng <;> simp [sgn]
theorem BE2 (ng:Bool) (n:Nat):sgn (!ng) n= -sgn ng n:=by cases ng <;> simp [sgn]
theorem Sub_ok {a b:Int} (HA:ZV h la va a) (HB:ZV h lb vb b) (hba:a.natAbs < 4294967296 ^ 99) (hbb:b.natAbs < 4294967296 ^ 99):Ahq Tryz.prog 189 #[va,vb] h λx h'=>Ext h h'/\ZV h' (Array.size h) x (a - b):=by
 obtain ⟨na,sa,LA,rfl,HDa,htla,hla,hza⟩:=HA.out;obtain ⟨nb,sb,LB,rfl,HDb,htlb,hlb,hzb⟩:=HB.out;refine Aie (l:=[_,_]) mx Tryz.func189 rfl rfl rfl rfl rfl AO5 (AOv<|Aqx [.bool na,sa] (λ_=>trivial) rfl rfl λAj h2 V3 E4 A8 B3=>?_);have B4:Array.size h<=Aj:=A8;have B5:=E4.1;have Z8:=(Ext.refl h).trans E4;refine Aqx [.bool nb,sb] (λ_=>trivial) rfl rfl λAk B6 Ar Af Ba B7=>?_;have B8:Array.size h<=Ak:=Nat.le_trans E4.1 Ba;have nebq1bq9:Aj≠Ak:=by have:=V3.lt;omega
 have B9:=Af.1;have Au:=E4.trans Af;have Av:=V3.ext Af;refine Aou [.bool false,.slice none 0 0] Amo rfl (λ_=>trivial) λAb Ah Bb Ac Bc Ca=>?_;have Cb:Array.size h<=Ab:=Nat.le_trans Au.1 Bc;have nebq1bq20:Aj≠Ab:=by have:=Av.lt;omega
 have nebq9bq20:Ak≠Ab:=by have:=Ar.lt;omega
 have Cd:=Ac.1;have Be:=(Z8.trans Af).trans Ac;have Am:=Au.trans Ac;have Aw:=Av.ext Ac;have Bf:=(E4.trans Af).trans Ac;have Ax:=Ar.ext Ac;have Bg:=Af.trans Ac;refine AOz<|AOx<|Aiz (λh'=>Ext Ah h') AO5 ?_;have Aa:=Ext.refl Ah;refine Ank (fs:=1) As0 AO5 AOs rfl (Ahk Amd rfl Aa (λh' hb=>(Aw.ext hb).cell (i:=0) rfl) (Ank (fs:=1) Atl AO5 AOs rfl (Ahk Apk rfl Aa (λh' hb=>(Aw.ext hb).cell (i:=1) rfl) (Ahr Aa rfl (At7 (DS.mono (HDa.ext Am)<|Nat.zero_le _) AOq) λCe Ah hk=>?_))));obtain ⟨rfl,L1,Ao,Ay⟩:=hk;refine ⟨Aa,?_⟩;have Bh:=Ao.ds (lo:=la) HDa.lo;have Az:=Ao.val;have Cg:=Ao.len;refine Ank (fs:=1) As0 AO5 AOs rfl (Ahk Amd rfl Aa (λh' hb=>(Ax.ext hb).cell (i:=0) rfl) (Akg rfl (Ank (fs:=1) Atl AO5 AOs rfl (Ahk Apk rfl Aa (λh' hb=>(Ax.ext hb).cell (i:=1) rfl) (Ahr Aa rfl (At7 (DS.mono (HDb.ext Am)<|Nat.zero_le _) AOq) λCh Ah hk=>?_)))));obtain ⟨rfl,L2,Ap,A3⟩:=hk;refine ⟨Aa,?_⟩;have Bi:=Ap.ds (lo:=lb) HDb.lo;have A4:=Ap.val;have Cj:=Ap.len;refine Ahr Aa rfl (BAf na (!nb) Bh Bi Ay A3 (Atv Ay (by rw [Az,<- Amv hza];exact hba))<|Atv A3 (by rw [A4,<- Amv hzb];exact hbb)) λCk Cm hk=>?_;obtain ⟨Ad,Bj⟩:=hk;have Bl:=Aa.trans Ad;refine ⟨Bl,?_⟩;have Cn:=Ad.1;have Bm:=Be.trans Ad;have Bn:=Am.trans Ad;have Bo:=Bf.trans Ad;have Bp:=Bg.trans Ad;have Bq:=Bb.ext Ad;have Br:=Ac.trans Ad;obtain ⟨A5,s3,L3,rfl,A7,Bu,Bv,Bw⟩:=Bj.out;refine Ai5 [.bool A5,s3] Aip rfl rfl rfl rfl (Aqv A7.cap) Bq λCo Bx Ae=>?_;have By:=Bn.thenUpd Ae (λk hk=>by have Ai:k=Ab:=hk;omega);have Cp:=Ae.1;have Cq:=Bm.thenUpd Ae (λk hk=>by have Ai:k=Ab:=hk;omega);have Cr:=Br.thenUpd Ae (λk hk=>by have Ai:k=Ab:=hk;omega);have Ct:=Bo.thenUpd Ae (λk hk=>by have Ai:k=Ab:=hk;omega);have Cu:=Bp.thenUpd Ae (λk hk=>by have Ai:k=Ab:=hk;omega);have Bz:=A7.updLo Ae AOq;refine AOz<|AO6<|⟨_,Ai1 Aip rfl rfl Bx,?_⟩;exact ⟨By,⟨A5,s3,L3,rfl,Bz.mono AOq,Bu,Bv,by rw [<- Bw,Az,A4,hza,hzb,BE2];omega⟩⟩
theorem A9z (a b:Bool) (x y:Nat):sgn a x * sgn b y=sgn (!(a == b)) (x * y):=by
 cases a <;> cases b <;> simp [sgn,Int.neg_mul,Int.mul_neg]
theorem BDf {L:List Nat} (h:Dig L) (hl:L.length<=2):nv L < 18446744073709551616:=by
 have h1:=Auw h;have h2:4294967296 ^ L.length<=4294967296 ^ 2:=Nat.pow_le_pow_right AOs hl;omega
theorem A4j {b:Nat} (h:Au4 a b < 0):a < b:=by
 unfold Au4 at h;omega
theorem BDv (HA:DS h la va LA) (HB:DS h lb vb LB) (hta:TL LA) (htb:TL LB) (Ar:nv LB≠0) (hna:LA.length<=2) (hnb:LB.length<=2):Ahq Tryz.prog 193 #[va,vb] h λx h'=>Ext h h'/\ ∃ q r,x= .tuple #[q,r]/\ ∃ LQ LR,DS h' (Array.size h) q LQ/\DS h' (Array.size h) r LR/\TL LQ/\TL LR/\nv LQ=nv LA / nv LB/\nv LR=nv LA % nv LB/\LQ.length<=2/\LR.length<=2:=by
 refine Aie (l:=[_,_]) mx Tryz.func193 rfl rfl rfl rfl rfl AO5 (AOv<|Ahl<|AO1<|AOx<|AO0<|AOv<|AOr<|AOr<|Ahr trivial rfl (A3h HA HB hta htb AOq AOq) λx1 h hk=>?_);obtain ⟨rfl,rfl⟩:=hk;refine ⟨trivial,?_⟩;refine Amb rfl rfl (λAm=>?_) (λAm=>?_)
 ·refine AO1<|Ahn rfl (AOv<|AOr<|Ahr trivial rfl (A5j HA AOq) λx2 h3 hk=>?_);obtain ⟨E4,Aa⟩:=hk;refine ⟨trivial,?_⟩;have Ax:=E4.1;have Z6:=(Ext.refl h).trans E4;refine Ahl (AO1<|AO6<|Aiq<|Ag9<|⟨_,Air,?_⟩)
  first
  | (have hlt:=A4j (by assumption:Au4 (nv LA) (nv LB) < 0)
     exact ⟨E4,_,_,rfl,[],LA,Ayg _ _,Aa,Azq,hta,by rw [Nat.div_eq_of_lt hlt];rfl,by rw [Nat.mod_eq_of_lt hlt],Ah7,AOq⟩)
  | exact ⟨E4,_,_,rfl,L1,L2,lacks_HD1.mono AOq,Aa.mono AOq,Ag,Ah,Ai,Aj,AOq,AOq⟩
 ·refine AO1<|Ahs rfl (AOv<|AOr<|Ai4 Ahm rfl HA (Az1 rfl rfl (λ_=>?_) (λhc=>absurd hc AOq)));refine AO1<|Ahn rfl (AOv<|AOr<|Ahr trivial rfl (A6o HA AOq) λx7 h hk=>?_);obtain ⟨rfl,rfl⟩:=hk;refine ⟨trivial,?_⟩;refine AOr<|Ahr trivial rfl (A6o HB AOq) λx8 h hk=>?_;obtain ⟨rfl,rfl⟩:=hk;refine ⟨trivial,?_⟩;refine Ahl<|AO1<|AOx ?_;have hlt:=BDf HA.dig hna;refine Ayc AO5<|AOr<|AOr<|Aub rfl rfl AOq ?_;rw [show IntKind.u64.wrap (((nv LA:Nat):Int).tdiv ((nv LB:Nat):Int))=((nv LA / nv LB:Nat):Int) by rw [Int.tdiv_eq_ediv_of_nonneg AOq,<- Int.natCast_ediv,wrap_u64];have hq:=Nat.div_le_self (nv LA)<|nv LB;generalize nv LA / nv LB=q at hq ⊢;omega];refine Ahr trivial rfl (Axa (nv LA / nv LB) (by have:=Nat.div_le_self (nv LA)<|nv LB;omega) _) λx9 A5 hk=>?_;obtain ⟨Ad,L1,Ao,Ag,Ai,A6⟩:=hk;refine ⟨trivial,?_⟩;have A7:=Ad.1;have Ap:=(Ext.refl h).trans Ad;refine AOr<|AOr<|BIm rfl rfl AOq (Ahr trivial rfl (Axa (nv LA % nv LB) (by have:=Nat.mod_le (nv LA)<|nv LB;omega) _) λA8 A9 hk=>?_);obtain ⟨Ac,L2,Aa,Ah,Aj,Ba⟩:=hk;refine ⟨trivial,?_⟩;have Bb:=Ac.1;have Bc:=Ap.trans Ac;have Ak:=Ad.trans Ac;have Aq:=Ao.ext Ac;refine Ahl (AO1<|AO6<|Aiq<|Ag9<|⟨_,Air,?_⟩)
  first
  | (have hlt:=A4j (by assumption:Au4 (nv LA) (nv LB) < 0)
     exact ⟨Ak,_,_,rfl,[],LA,Ayg _ _,Aa,Azq,hta,by rw [Nat.div_eq_of_lt hlt];rfl,by rw [Nat.mod_eq_of_lt hlt],Ah7,AOq⟩)
  | exact ⟨Ak,_,_,rfl,L1,L2,Aq.mono AOq,Aa.mono AOq,Ag,Ah,Ai,Aj,AOq,AOq⟩
theorem Att {a b r:Int} (hb:b≠0) (h:a=b * q + r) (h0:0<=r) (h1:r < b.natAbs):a / b=q/\a % b=r:=by
 have hr:r % b=r:=by
  rcases A3d 0 b with hp | hn
  ·exact Int.emod_eq_of_lt h0 AOq
  ·rw [<- Int.emod_neg];exact Int.emod_eq_of_lt h0 AOq
 have hm:a % b=r:=by simp_all
 refine ⟨?_,hm⟩;have h2:=Int.mul_ediv_add_emod a b;rw [hm] at h2;have h3:b * (a / b)=b * q:=by omega
 exact Int.eq_of_mul_eq_mul_left hb h3
theorem BP2 {A B:Nat} (hA:A < 18446744073709551616) (hr:A % B≠0):A / B + 1 < 18446744073709551616:=by
 match B with
 | 0=>simp
 | 1=>omega
 | n + 2=>
   have:A / (n + 2)<=A / 2:=Nat.div_le_div_left (show 2<=n + 2 by omega) AOq
   omega
theorem BP3 {nb:Bool} {A B:Nat} (hB:B≠0):sgn nb (A / B)=(A:Int) / sgn nb B/\sgn false (A % B)=(A:Int) % sgn nb B:=by
 have h:=Nat.div_add_mod A B;have hl:=Nat.mod_lt A<|Nat.pos_of_ne_zero hB;have h2:(A:Int)=(B:Int) * ((A / B:Nat):Int) + ((A % B:Nat):Int):=by omega
 have:=Att (a:=A) (b:=sgn nb B) (q:=sgn nb<|A / B) (r:=((A % B:Nat):Int)) (by cases nb <;> simp [sgn] <;> omega) (by cases nb <;> simp only [sgn] <;> simp [Int.neg_mul_neg] <;> (rw [<- Int.natCast_ediv,<- Int.natCast_emod];exact h2)) AOq (by cases nb <;> simp only [sgn] <;> simp <;> omega);exact ⟨this.1.symm,this.2.symm⟩
theorem BM9 {nb:Bool} {A B:Nat} (hB:B≠0) (hr:A % B≠0):sgn (!nb) (A / B + 1)= -(A:Int) / sgn nb B/\sgn false (B - A % B)= -(A:Int) % sgn nb B:=by
 have h:=Nat.div_add_mod A B;have hl:=Nat.mod_lt A<|Nat.pos_of_ne_zero hB;have h2:(A:Int)=(B:Int) * ((A / B:Nat):Int) + ((A % B:Nat):Int):=by omega
 obtain ⟨q,hq⟩:∃ q,A / B=q:=⟨_,rfl⟩;obtain ⟨r,hrr⟩:∃ r,A % B=r:=⟨_,rfl⟩;rw [hq,hrr] at h2;rw [hrr] at hl hr;rw [hq,hrr];have e:((B - r:Nat):Int)=(B:Int) - (r:Int):=by omega
 have:=Att (a:= -(A:Int)) (b:=sgn nb B) (q:=sgn (!nb)<|q + 1) (r:=((B - r:Nat):Int)) (by cases nb <;> simp [sgn] <;> omega) (by rw [h2,e];cases nb <;> simp [sgn] <;> grind) AOq (by cases nb <;> simp only [sgn] <;> simp <;> omega);exact ⟨this.1.symm,this.2.symm⟩
theorem BNa {nb:Bool} {A B:Nat} (hB:B≠0) (hr:A % B=0):sgn (!nb) (A / B)= -(A:Int) / sgn nb B/\sgn false (A % B)= -(A:Int) % sgn nb B:=by
 have h:=Nat.div_add_mod A B;have h2:(A:Int)=(B:Int) * ((A / B:Nat):Int):=by omega
 obtain ⟨q,hq⟩:∃ q,A / B=q:=⟨_,rfl⟩;rw [hq] at h2;rw [hq,hr];have:=Att (a:= -(A:Int)) (b:=sgn nb B) (q:=sgn (!nb) q) (r:=0) (by cases nb <;> simp [sgn] <;> omega) (by rw [h2];cases nb <;> simp [sgn] <;> grind) AOq (by cases nb <;> simp only [sgn] <;> simp <;> omega);exact ⟨this.1.symm,this.2.symm⟩
theorem DivMod2_ok {a b:Int} (HA:ZV h la va a) (HB:ZV h lb vb b) (hba:a.natAbs < 18446744073709551616) (hbb:b.natAbs < 18446744073709551616) (C6:b≠0):Ahq Tryz.prog 158 #[va,vb] h λx h'=>Ext h h'/\ ∃ q r,x= .tuple #[q,r,.bool true]/\ZV h' (Array.size h) q (a / b)/\ZV h' (Array.size h) r (a % b):=by
 obtain ⟨na,sa,LA,rfl,HDa,htla,hla,hza⟩:=HA.out;obtain ⟨nb,sb,LB,rfl,HDb,htlb,hlb,hzb⟩:=HB.out;refine Aie (l:=[_,_]) mx Tryz.func158 rfl rfl rfl rfl rfl AO5 (AOv<|Aqx [.bool na,sa] (λ_=>trivial) rfl rfl λA6 h2 V3 E4 C7 C8=>?_);have Ho:Array.size h<=A6:=C7;have Hq:=E4.1;have Z8:=(Ext.refl h).trans E4;refine Aqx [.bool nb,sb] (λ_=>trivial) rfl rfl λA7 Hr Bc Ba Da Hs=>?_;have Ht:Array.size h<=A7:=Nat.le_trans E4.1 Da;have nebq1bq9:A6≠A7:=by have:=V3.lt;omega
 have Hu:=Ba.1;have Ch:=E4.trans Ba;have Be:=V3.ext Ba;refine Aou [.bool false,.slice none 0 0] Amo rfl (λ_=>trivial) λAc Hv Ci Ay Db Hw=>?_;have Hx:Array.size h<=Ac:=Nat.le_trans Ch.1 Db;have nebq1bq20:A6≠Ac:=by have:=Be.lt;omega
 have nebq9bq20:A7≠Ac:=by have:=Bc.lt;omega
 have Hy:=Ay.1;have Dc:=(Z8.trans Ba).trans Ay;have Cj:=Ch.trans Ay;have Ck:=Be.ext Ay;have Dd:=(E4.trans Ba).trans Ay;have Cm:=Bc.ext Ay;refine Aou [.bool false,.slice none 0 0] Amo rfl (λ_=>trivial) λAa Cn De Ax Df Hz=>?_;have H5:Array.size h<=Aa:=Nat.le_trans Cj.1 Df;have nebq1bq33:A6≠Aa:=by have:=Ck.lt;omega
 have nebq9bq33:A7≠Aa:=by have:=Cm.lt;omega
 have nebq20bq33:Ac≠Aa:=by have:=Ci.lt;omega
 have Ia:=Ax.1;have Dg:=Dc.trans Ax;have Bv:=Cj.trans Ax;have Co:=Ck.ext Ax;have Dh:=Dd.trans Ax;have Cp:=Cm.ext Ax;have Di:=(Ba.trans Ay).trans Ax;have Dj:=Ci.ext Ax;have Dk:=Ay.trans Ax;refine Ah4<|Ank (fs:=1) Atl AO5 AOs rfl (Aht Apk rfl (Cp.cell (i:=1) rfl) (Ahr trivial rfl (At7 (DS.mono (HDb.ext Bv)<|Nat.zero_le _) AOq) λIb Cn hk=>?_));obtain ⟨rfl,L2,Bw,Bx⟩:=hk;refine ⟨trivial,?_⟩;have By:=Bw.ds (lo:=lb) HDb.lo;have A8:=Bw.val;have Ic:=Bw.len;refine AO1<|AOx<|AOv<|AOr<|Ai4 Ahm rfl By ?_;have Bf:nv LB≠0:=λh0=>C6 (by rw [hzb,h0];cases nb <;> rfl);have hLB:L2≠[]:=λh0=>Bf (by rw [<- A8,h0];rfl);have hLp:=List.length_pos_iff.2 hLB;refine Az2 rfl rfl (λhc=>absurd hc AOq) (λ_=>AOz<|Ahs rfl (AO4<|q_t<|AOv<|Ank (fs:=1) Atl AO5 AOs rfl (Aht Apk rfl (Co.cell (i:=1) rfl) (Ahr trivial rfl (At7 (DS.mono (HDa.ext Bv)<|Nat.zero_le _) AOq) λId Cn hk=>?_))));obtain ⟨rfl,L1,Bz,Cr⟩:=hk;refine ⟨trivial,?_⟩;have Ct:=Bz.ds (lo:=la) HDa.lo;have Cu:=Bz.val;have If:=Bz.len;refine AOr<|Ahr trivial rfl (BDv Ct By Cr Bx (by rw [A8];exact Bf) (Atv Cr (by rw [Cu,<- Amv hza];omega))<|Atv Bx (by rw [A8,<- Amv hzb];omega)) λIh Ii hk=>?_;obtain ⟨Am,qv,rv,rfl,LQ,LR,HQ,HR,htq,htr,hvq,hvr,hlq,hlr⟩:=hk;refine ⟨trivial,?_⟩;have Ij:=Am.1;have B1:=Dg.trans Am;have B3:=Bv.trans Am;have B4:=Co.ext Am;have B5:=Dh.trans Am;have Dl:=Cp.ext Am;have B6:=Di.trans Am;have B7:=Dj.ext Am;have B8:=Dk.trans Am;have B9:=De.ext Am;have Ca:=By.ext Am;have Cb:=Ct.ext Am;rw [Cu,A8] at hvq hvr;have Ik:L2.length<=2:=Atv Bx (by rw [A8,<- Amv hzb];omega);refine AOr<|Ait rfl rfl (Ait rfl rfl (Ahl<|Ah4<|Ank (fs:=1) As0 AO5 AOs rfl (Aht Amd rfl (Dl.cell (i:=0) rfl) (AO1<|AOx<|AO0<|AOx<|AO0<|AOx<|AO0<|AOx<|AOx<|AOx ?_))));have hrl:LR.length=0↔nv LA % nv LB=0:=⟨λh0=>by rw [<- hvr,List.length_eq_zero_iff.1 h0];rfl,λh0=>by rw [Aox htr<|hvr.trans h0];rfl⟩;refine Ag6<|Ank (fs:=1) As0 AO5 AOs rfl (Aht Amd rfl (B4.cell (i:=0) rfl) ?_);cases Bg:na
 ·refine AOr<|Ail 32 false AO5 rfl rfl (Ail 32 false AO5 rfl rfl (Ail 32 false AO5 rfl rfl (APb rfl (AO1<|Ahs rfl (AO4<|q_t<|AOv<|Ank (fs:=1) As0 AO5 AOs rfl (Aht Amd rfl (B4.cell (i:=0) rfl) ?_))))));rw [Bg];refine AO1<|Ahs rfl (AO4<|q_t<|Ahf<|A9o AOs<|Ahg<|A9o AOs<|Ahg<|Aim<|q_t<|AOv<|AOr<|AOr<|Ahr trivial rfl (Are nb HQ htq AOq) λIl Im hk=>?_);obtain ⟨Ao,Bh⟩:=hk;refine ⟨trivial,?_⟩;have Io:=Ao.1;have Do:=B1.trans Ao;have Dp:=B3.trans Ao;have Dq:=B5.trans Ao;have Dr:=B6.trans Ao;have Ds:=B7.ext Ao;have Dt:=B8.trans Ao;have Du:=B9.ext Ao;have Ip:=Ca.ext Ao;have Iq:=Cb.ext Ao;have HQ_82:=HQ.ext Ao;have HR_83:=HR.ext Ao;obtain ⟨Az,s7,L7,rfl,Bj,Bl,Bm,Bn⟩:=Bh.out;refine AOr<|Ahr trivial rfl (Are false HR_83 htr AOq) λIr Is hk=>?_;obtain ⟨Ar,Bo⟩:=hk;refine ⟨trivial,?_⟩;have It:=Ar.1;have Dv:=Do.trans Ar;have Dw:=Dp.trans Ar;have Dx:=Dq.trans Ar;have Dy:=Dr.trans Ar;have Dz:=Ds.ext Ar;have D0:=Dt.trans Ar;have D1:=Du.ext Ar;have HQ_98:=HQ_82.ext Ar;have HR_99:=HR_83.ext Ar;have Cv:=Bj.ext Ar;obtain ⟨A4,s8,L8,rfl,Bq,Br,Bt,Bu⟩:=Bo.out;refine Ai5 [.bool Az,s7] Aip rfl rfl rfl rfl (Aqv Cv.cap) Dz λIu D2 Au=>?_;have D3:=Dw.thenUpd Au (λk hk=>by have Ab:k=Ac:=hk;omega);have Iv:=Au.1;have D4:=Dv.thenUpd Au (λk hk=>by have Ab:k=Ac:=hk;omega);have Cd:=D0.thenUpd Au (λk hk=>by have Ab:k=Ac:=hk;omega);have D5:=Dx.thenUpd Au (λk hk=>by have Ab:k=Ac:=hk;omega);have D6:=Dy.thenUpd Au (λk hk=>by have Ab:k=Ac:=hk;omega);have D7:=D1.upd Au λhe=>(Ne.symm nebq20bq33) (he:Aa=Ac);have HQ_113:=HQ_98.updLo Au AOq;have HR_114:=HR_99.updLo Au AOq;have D8:=Cv.updLo Au AOq;have Cw:=Bq.updLo Au AOq;refine Ai5 [.bool A4,s8] Aip rfl rfl rfl rfl (Aqv Cw.cap) D7 λIw D9 Ag=>?_;have Ea:=D3.thenUpd Ag (λk hk=>by have Ab:k=Aa:=hk;omega);have Ix:=Ag.1;have Iy:=D4.thenUpd Ag (λk hk=>by have Ab:k=Aa:=hk;omega);have Iz:=(Be.ext Cd).upd Ag (λhe=>nebq1bq33 (he:A6=Aa));have I0:=D5.thenUpd Ag (λk hk=>by have Ab:k=Aa:=hk;omega);have I1:=(Bc.ext Cd).upd Ag (λhe=>nebq9bq33 (he:A7=Aa));have I2:=D6.thenUpd Ag (λk hk=>by have Ab:k=Aa:=hk;omega);have Eb:=D2.upd Ag λhe=>nebq20bq33 (he:Ac=Aa);have I3:=Cd.thenUpd Ag (λk hk=>by have Ab:k=Aa:=hk;omega);have HQ_129:=HQ_113.updLo Ag AOq;have HR_130:=HR_114.updLo Ag AOq;have Ec:=D8.updLo Ag AOq;have Ed:=Cw.updLo Ag AOq;refine AO1<|AO6<|⟨_,Av7 Aip rfl rfl Eb Aip rfl rfl D9,?_⟩;have hk:=BP3 (nb:=nb) (A:=nv LA) Bf;have ea:a=((nv LA:Nat):Int):=by rw [hza,Bg];rfl
  exact ⟨Ea,_,_,rfl,⟨Az,s7,L7,rfl,Ec.mono AOq,Bl,Bm,by rw [<- Bn,hvq,ea,hzb];exact hk.1.symm⟩,⟨A4,s8,L8,rfl,Ed.mono AOq,Br,Bt,by rw [<- Bu,hvr,ea,hzb];exact hk.2.symm⟩⟩
 ·refine AOr<|Aix 32 true AO5 rfl rfl (AOr<|Aix 32 true AO5 rfl rfl (Ai4 Ahm rfl HR (Aix 32 true AO5 rfl rfl (Ayd rfl rfl (λEe=>?_) (λEe=>?_)))))
  ·refine Ag7 rfl (AO1<|Ahn rfl (Ahf<|Ahg<|Ahg<|Aim<|q_t<|AOv<|AOr<|BIv [Au7 1] Ahm As7 rfl (λ_=>trivial) rfl AOq AOq rfl (by simp [Au7,isOne]) λg8 v8 h8 Eh E8 I7 I9=>?_));have Ja:=E8.1;have Ei:=B1.trans E8;have Ej:=B3.trans E8;have Ek:=B5.trans E8;have El:=B6.trans E8;have Em:=B7.ext E8;have En:=B8.trans E8;have Eo:=B9.ext E8;have Ep:=Ca.ext E8;have Er:=Cb.ext E8;have HQ_146:=HQ.ext E8;have HR_147:=HR.ext E8;have HDu:DS h8 0 v8 [1]:=Alg.ds (L:=[1]) Eh (by intro x hx;rw [List.mem_singleton.1 hx];decide)<|Nat.zero_le _;refine Ahr trivial rfl (A9c HQ_146 HDu AOq Ah7) λJc Je hk=>?_;obtain ⟨Ah,L5,Et,Cx,Cy,Jf⟩:=hk;refine ⟨trivial,?_⟩;have Jg:=Ah.1;have Eu:=Ei.trans Ah;have Ev:=Ej.trans Ah;have Ew:=Ek.trans Ah;have Ey:=El.trans Ah;have Ez:=Em.ext Ah;have Fa:=En.trans Ah;have Fb:=Eo.ext Ah;have Cz:=Ep.ext Ah;have Fc:=Er.ext Ah;have HQ_164:=HQ_146.ext Ah;have HR_165:=HR_147.ext Ah;have HDu_166:=HDu.ext Ah;refine AO1<|Ag6<|AOr<|AOr<|Ahr trivial rfl (A5k Cz HR_165 htr (by rw [hvr,A8];exact Nat.le_of_lt<|Nat.mod_lt _ AOq) AOq) λJh Ji hk=>?_;obtain ⟨Af,L6,Fd,Fe,Ff,C8⟩:=hk;refine ⟨trivial,?_⟩;have Jk:=Af.1;have Fg:=Eu.trans Af;have Fh:=Ev.trans Af;have Fi:=Ew.trans Af;have Fj:=Ey.trans Af;have Fk:=Ez.ext Af;have Fl:=Fa.trans Af;have Fm:=Fb.ext Af;have Fo:=Cz.ext Af;have Fp:=Fc.ext Af;have HQ_183:=HQ_164.ext Af;have HR_184:=HR_165.ext Af;have HDu_185:=HDu_166.ext Af;have C0:=Et.ext Af;refine Ahl<|Ahh<|q_b<|q_t<|AOv<|AOr<|Akg rfl (AO1<|Ahf<|Aim<|q_t<|AOv<|AOr<|AOr<|Ahr trivial rfl (Are (!nb) C0 Cx (by have h5:L5.length<=2:=Atv Cx (by rw [Cy,hvq];exact BP2 (A:=nv LA) (B:=nv LB) (by rw [<- Amv hza];exact hba) AOq);omega)) λJm Jn hk=>?_);obtain ⟨Ad,Bh⟩:=hk;refine ⟨trivial,?_⟩;have Jo:=Ad.1;have Fq:=Fg.trans Ad;have Fr:=Fh.trans Ad;have Ft:=Fi.trans Ad;have Fu:=Fj.trans Ad;have Fv:=Fk.ext Ad;have Fw:=Fl.trans Ad;have Fx:=Fm.ext Ad;have Jp:=Fo.ext Ad;have Jq:=Fp.ext Ad;have HQ_203:=HQ_183.ext Ad;have HR_204:=HR_184.ext Ad;have HDu_205:=HDu_185.ext Ad;have Fy:=C0.ext Ad;have C1:=Fd.ext Ad;obtain ⟨Az,s7,L7,rfl,Bj,Bl,Bm,Bn⟩:=Bh.out;refine AOr<|Ahr trivial rfl (Are false C1 Fe AOq) λJr Js hk=>?_;obtain ⟨Ai,Bo⟩:=hk;refine ⟨trivial,?_⟩;have Jt:=Ai.1;have Fz:=Fq.trans Ai;have F4:=Fr.trans Ai;have F5:=Ft.trans Ai;have F6:=Fu.trans Ai;have F7:=Fv.ext Ai;have F8:=Fw.trans Ai;have F9:=Fx.ext Ai;have HQ_222:=HQ_203.ext Ai;have HR_223:=HR_204.ext Ai;have Ga:=Fy.ext Ai;have Gb:=C1.ext Ai;have C2:=Bj.ext Ai;obtain ⟨A4,s8,L8,rfl,Bq,Br,Bt,Bu⟩:=Bo.out;refine Ai5 [.bool Az,s7] Aip rfl rfl rfl rfl (Aqv C2.cap) F7 λJu Gc Aj=>?_;have Gd:=F4.thenUpd Aj (λk hk=>by have Ab:k=Ac:=hk;omega);have Jv:=Aj.1;have Ge:=Fz.thenUpd Aj (λk hk=>by have Ab:k=Ac:=hk;omega);have Ce:=F8.thenUpd Aj (λk hk=>by have Ab:k=Ac:=hk;omega);have Gf:=F5.thenUpd Aj (λk hk=>by have Ab:k=Ac:=hk;omega);have Gg:=F6.thenUpd Aj (λk hk=>by have Ab:k=Ac:=hk;omega);have Gh:=F9.upd Aj λhe=>(Ne.symm nebq20bq33) (he:Aa=Ac);have HQ_239:=HQ_222.updLo Aj AOq;have HR_240:=HR_223.updLo Aj AOq;have Gi:=Ga.updLo Aj AOq;have Gj:=Gb.updLo Aj AOq;have Gk:=C2.updLo Aj AOq;have C3:=Bq.updLo Aj AOq;refine Ai5 [.bool A4,s8] Aip rfl rfl rfl rfl (Aqv C3.cap) Gh λJw Gl Ae=>?_;have Gm:=Gd.thenUpd Ae (λk hk=>by have Ab:k=Aa:=hk;omega);have Jx:=Ae.1;have Jy:=Ge.thenUpd Ae (λk hk=>by have Ab:k=Aa:=hk;omega);have Jz:=(Be.ext Ce).upd Ae (λhe=>nebq1bq33 (he:A6=Aa));have J0:=Gf.thenUpd Ae (λk hk=>by have Ab:k=Aa:=hk;omega);have J1:=(Bc.ext Ce).upd Ae (λhe=>nebq9bq33 (he:A7=Aa));have J2:=Gg.thenUpd Ae (λk hk=>by have Ab:k=Aa:=hk;omega);have Gn:=Gc.upd Ae λhe=>nebq20bq33 (he:Ac=Aa);have J3:=Ce.thenUpd Ae (λk hk=>by have Ab:k=Aa:=hk;omega);have HQ_257:=HQ_239.updLo Ae AOq;have HR_258:=HR_240.updLo Ae AOq;have J4:=Gi.updLo Ae AOq;have J5:=Gj.updLo Ae AOq;have Gp:=Gk.updLo Ae AOq;have Gq:=C3.updLo Ae AOq;refine AO1<|AO6<|⟨_,Av7 Aip rfl rfl Gn Aip rfl rfl Gl,?_⟩;have hk:=BM9 (nb:=nb) (A:=nv LA) Bf AOq;have ea:a= -((nv LA:Nat):Int):=by rw [hza,Bg];rfl
   exact ⟨Gm,_,_,rfl,⟨Az,s7,L7,rfl,Gp.mono AOq,Bl,Bm,by rw [<- Bn,Cy,hvq,ea,hzb];exact hk.1.symm⟩,⟨A4,s8,L8,rfl,Gq.mono AOq,Br,Bt,by rw [<- Bu,Ff,A8,hvr,ea,hzb];exact hk.2.symm⟩⟩
  ·refine Ag7 rfl (AO1<|Ahs rfl (AO4<|q_t<|AOv<|Ank (fs:=1) As0 AO5 AOs rfl (Aht Amd rfl (B4.cell (i:=0) rfl) ?_)));rw [Bg];refine AO1<|Ahn rfl (Ahf<|Ahg<|A9o AOs<|Ahg<|Aim<|q_t<|AOv<|AOr<|Akg rfl (AO1<|Ahf<|Aim<|q_t<|AOv<|AOr<|AOr<|Ahr trivial rfl (Are (!nb) HQ htq AOq) λJ6 J7 hk=>?_));obtain ⟨Aq,Bh⟩:=hk;refine ⟨trivial,?_⟩;have J8:=Aq.1;have Gr:=B1.trans Aq;have Gt:=B3.trans Aq;have Gu:=B5.trans Aq;have Gv:=B6.trans Aq;have Gw:=B7.ext Aq;have Gx:=B8.trans Aq;have Gy:=B9.ext Aq;have J9:=Ca.ext Aq;have Ka:=Cb.ext Aq;have HQ_279:=HQ.ext Aq;have HR_280:=HR.ext Aq;obtain ⟨Az,s7,L7,rfl,Bj,Bl,Bm,Bn⟩:=Bh.out;refine AOr<|Ahr trivial rfl (Are false HR_280 htr AOq) λKb Kc hk=>?_;obtain ⟨Av,Bo⟩:=hk;refine ⟨trivial,?_⟩;have Kd:=Av.1;have Gz:=Gr.trans Av;have G3:=Gt.trans Av;have G4:=Gu.trans Av;have G5:=Gv.trans Av;have G6:=Gw.ext Av;have G7:=Gx.trans Av;have G8:=Gy.ext Av;have HQ_295:=HQ_279.ext Av;have HR_296:=HR_280.ext Av;have C4:=Bj.ext Av;obtain ⟨A4,s8,L8,rfl,Bq,Br,Bt,Bu⟩:=Bo.out;refine Ai5 [.bool Az,s7] Aip rfl rfl rfl rfl (Aqv C4.cap) G6 λKe G9 Aw=>?_;have Hb:=G3.thenUpd Aw (λk hk=>by have Ab:k=Ac:=hk;omega);have Kf:=Aw.1;have Hc:=Gz.thenUpd Aw (λk hk=>by have Ab:k=Ac:=hk;omega);have Cf:=G7.thenUpd Aw (λk hk=>by have Ab:k=Ac:=hk;omega);have Hd:=G4.thenUpd Aw (λk hk=>by have Ab:k=Ac:=hk;omega);have He:=G5.thenUpd Aw (λk hk=>by have Ab:k=Ac:=hk;omega);have Hf:=G8.upd Aw λhe=>(Ne.symm nebq20bq33) (he:Aa=Ac);have HQ_310:=HQ_295.updLo Aw AOq;have HR_311:=HR_296.updLo Aw AOq;have Hg:=C4.updLo Aw AOq;have C5:=Bq.updLo Aw AOq;refine Ai5 [.bool A4,s8] Aip rfl rfl rfl rfl (Aqv C5.cap) Hf λKg Hh Ak=>?_;have Hj:=Hb.thenUpd Ak (λk hk=>by have Ab:k=Aa:=hk;omega);have Kh:=Ak.1;have Ki:=Hc.thenUpd Ak (λk hk=>by have Ab:k=Aa:=hk;omega);have Kj:=(Be.ext Cf).upd Ak (λhe=>nebq1bq33 (he:A6=Aa));have Kk:=Hd.thenUpd Ak (λk hk=>by have Ab:k=Aa:=hk;omega);have Kl:=(Bc.ext Cf).upd Ak (λhe=>nebq9bq33 (he:A7=Aa));have Km:=He.thenUpd Ak (λk hk=>by have Ab:k=Aa:=hk;omega);have Hk:=G9.upd Ak λhe=>nebq20bq33 (he:Ac=Aa);have Kn:=Cf.thenUpd Ak (λk hk=>by have Ab:k=Aa:=hk;omega);have HQ_326:=HQ_310.updLo Ak AOq;have HR_327:=HR_311.updLo Ak AOq;have Hl:=Hg.updLo Ak AOq;have Hm:=C5.updLo Ak AOq;refine AO1<|AO6<|⟨_,Av7 Aip rfl rfl Hk Aip rfl rfl Hh,?_⟩;have hk:=BNa (nb:=nb) (A:=nv LA) Bf AOq;have ea:a= -((nv LA:Nat):Int):=by rw [hza,Bg];rfl
   exact ⟨Hj,_,_,rfl,⟨Az,s7,L7,rfl,Hl.mono AOq,Bl,Bm,by rw [<- Bn,hvq,ea,hzb];exact hk.1.symm⟩,⟨A4,s8,L8,rfl,Hm.mono AOq,Br,Bt,by rw [<- Bu,hvr,ea,hzb];exact hk.2.symm⟩⟩
end Go.Proofs.YtkakafabeobahaaGreatDoor.Ig
namespace Go.QF
open Go
section
variable {P:Program} {B:AO2->Prop} {st:Bool} {ops:Array Oper} {rest:List Oper} {e:Env} {h:AO2} {K:Env->AO2->Prop} {d:Nat} {ty:TypeId} {pos:String} {af:Array Edge}
theorem BFg {x y z:Operand} {t el er g lo hi:Nat} {l:List Value} {k1 k2:IntKind} (hT:SlT P t el 1) (hx:e.ev x=v) (HO:Alg h er g v l) (hy:e.ev y= .int k1 (lo:Int)) (hz:e.ev z= .int k2 (hi:Int)) (hlt:lo < hi) (hle:hi<=l.length)
 (H:∀ c,RL P B st ops rest (e.set d<|.slice (some ⟨g,lo,none⟩) (hi - lo) c) h K):RL P B st ops (⟨some d,.slice t x (some y) (some z) none,ty,pos,af,none⟩ :: rest) e h K:=by
 obtain ⟨cap,cur,rfl,hg,h1,h2,h3,h4⟩:=HO;refine Am0 (v:= .slice (some ⟨g,lo,none⟩) (hi - lo)<|cap - lo) rfl rfl (λw=>?_) (H _);obtain ⟨hu,i,hi',hs⟩:=hT;have a4: ¬ cap=lo:=by omega
 simp [execOp,hx,hy,hz,Instr.sliceAt,Instr.slice,Aua hu,Instr.sliceBounds,Instr.sliceBound,asIntOf,a4,Awn hi',hs,Addr.add];rw [if_pos AOq,if_pos AOq]
 by_cases h0:lo=0
 ·subst h0;simp
 ·rw [if_neg h0]
theorem A9d {x i:Operand} {t el g o n c:Nat} {k:IntKind} (hT:SlT P t el 1) (hx:e.ev x= .slice (some ⟨g,o,none⟩) n c) (hi:e.ev i= .int k (j:Int)) (hj:j < n)
 (H:RL P B st ops rest (e.set d<|.pointer<|some ⟨g,o + j,none⟩) h K):RL P B st ops (⟨some d,.indexAddr t x i,ty,pos,af,none⟩ :: rest) e h K:=by
 refine BF8 hT hx hi AOq AOq ?_;have he:(⟨g,o,none⟩:Addr).add ((j:Int).toNat * 1)=⟨g,o + j,none⟩:=by rw [Ano];simp
 rw [he];exact H
end
end Go.QF
namespace Go.Proofs.YtkakafabeobahaaGreatDoor.Ig
open Go Go.QF
set_option maxRecDepth 100000
theorem BG1 (HA:DS h la va LA) (HB:DS h lb vb LB) (hna:LA.length<=1000) (hnb:LB.length<=1000):Ahq Tryz.prog 196 #[va,vb] h λx h'=>Ext h h'/\ ∃ L,DS h' (Array.size h) x L/\TL L/\nv L=nv LA * nv LB/\L.length<=LA.length + LB.length + 2:=by
 refine Aie (l:=[_,_]) mx Tryz.func196 rfl rfl rfl rfl rfl AO5 (AOv<|AO1<|AOx<|AOv<|AOr<|Ai4 Ahm rfl HA (Az1 rfl rfl (λAw=>?_) (λAw=>?_)))
 ·refine AOr<|Aix 15 true AO5 rfl rfl (AOr<|Aix 15 true AO5 rfl rfl (Ai4 Ahm rfl HB (Aix 15 true AO5 rfl rfl (Az1 rfl rfl (λAx=>?_) (λAx=>?_)))))
  ·refine Ag7 rfl (AOz<|Ahn rfl (AOv<|AOr<|Ahr trivial rfl (A6o HA AOq) λx1 h hk=>?_));obtain ⟨rfl,rfl⟩:=hk;refine ⟨trivial,?_⟩;refine AOr<|Ahr trivial rfl (A6o HB AOq) λx2 h hk=>?_;obtain ⟨rfl,rfl⟩:=hk;refine ⟨trivial,?_⟩;have hm:=BKg HA.dig HB.dig AOq AOq;refine A9u rfl rfl hm (Ahr trivial rfl (Axa (nv LA * nv LB) AOq _) λx3 h4 hk=>?_);obtain ⟨E5,L1,Ay,Ak,Am,Av⟩:=hk;refine ⟨trivial,?_⟩;have Bo:=E5.1;have Z7:=(Ext.refl h).trans E5;refine AO1 (AO6<|Ag9<|⟨_,AO7,?_⟩)
   first
   | exact ⟨E5,L1,Ay,Ak,Am,AOq⟩
   | exact ⟨E5,L2,HT.ds HDo.lo,htl,by rw [HT.val,hOv],by have:=HT.len;omega⟩
  ·refine Ag7 rfl (AOz<|Ahs rfl (AO4<|q_t<|AOv<|AOr<|Ai4 Ahm rfl HA (AOr<|Ai4 Ahm rfl HB (Awr rfl rfl AOq (A7d (n:=LA.length + LB.length) Ahm As7 (λ_=>trivial) rfl rfl AOs AOq λg1 v1 h1 Ao E1 Az Av=>?_)))));have Bq:=E1.1;have Z9:=(Ext.refl h).trans E1;refine AO1<|AOx<|AOv<|AOr<|Ai4 Ahm rfl (HA.ext E1) (AOr<|AOz<|AO0<|Aj4 19342813113834049615433664 (λy:Nat × List Nat=>[(34,.int .i64 (y.1:Int))]) (λk y h'=>k=LA.length - y.1/\y.1<=LA.length/\Ext h h'/\g1 < Array.size h'/\Alg h' 200 g1 v1 (y.2.map Au7)/\y.2.length=LA.length + LB.length/\Dig y.2/\nv y.2=nv (LA.take y.1) * nv LB/\ ∀ q,y.1 + LB.length<=q->q < LA.length + LB.length->y.2[q]? =some 0) AO5 LA.length (0,List.replicate (LA.length + LB.length) 0) ?_ ⟨rfl,trivial⟩ ?_)
   ·exact ⟨rfl,Nat.zero_le _,E1,AOq,Ao,Ah7,λx hx=>by rw [(List.mem_replicate.1 hx).2];decide,by simp [nv,A7h],λq hq A3=>by dsimp only;rw [List.getElem?_replicate];simp;omega⟩
   rintro k ⟨i,O⟩ s1 hq ⟨rfl,hi,XQ,hgq,Aa,hOl,hOd,hOv,hOz⟩;dsimp only at hi Aa hOl hOd hOv hOz ⊢;refine AOv<|Amb rfl rfl (λA4=>?_) (λA4=>?_)
   ·refine AOz<|AOx<|Ahn rfl (AO4<|q_t<|AOx<|AO0<|AOx ?_);obtain ⟨x,hx⟩:∃ x,LA[i]? =some x:=⟨_,List.getElem?_eq_getElem AOq⟩;have hbx:=HA.dig x<|List.mem_of_getElem? hx;refine Ag6<|AOr<|Aqd Ahm rfl (HA.ext XQ) rfl hx λBt A5=>Aht Ajo rfl A5 (Ahl<|AO1<|AOx<|AOv<|AOr<|Az2 rfl rfl (λA6=>?_) (λA6=>?_))
    ·refine AOz<|Ahn rfl (Ahf<|Ahg<|Aim<|q_t<|Ag6<|Ara rfl AOq (AOr<|AOz ?_));exact ⟨LA.length - (i + 1),(i + 1,O),by first | omega | (dsimp only;omega),⟨rfl,by first | omega | (dsimp only;omega),XQ,AOq,Aa,hOl,hOd,by dsimp only;rw [hOv,Aja hx,show x=0 by omega];simp,λq h1 h2=>hOz q (by dsimp only at h1;omega) h2⟩,rfl,trivial⟩
    ·refine AOz<|Ahs rfl (AO4<|q_t<|AOv<|AOr<|AOr<|AOr<|AOr<|Ai4 Ahm rfl (HB.ext XQ) (Awr rfl rfl AOq (Awr (b:=1) rfl rfl AOq (BFg (lo:=i) (hi:=i + LB.length + 1) Ahm rfl Aa rfl rfl AOq (by rw [List.length_map];omega) λcw=>?_))));refine Ah4<|AO1<|AOx<|AOv<|AOr<|Ai4 Ahm rfl (HB.ext XQ) (AOr<|AOz<|AO0<|Aj4 151115725200028833156608 (λy:Nat × Nat × List Nat=>[(51,.int .i64 (y.1:Int)),(9,.int .u64 (y.2.1:Int))]) (λk y h'=>k=LB.length - y.1/\y.1<=LB.length/\Ext h h'/\g1 < Array.size h'/\Alg h' 200 g1 v1 (y.2.2.map Au7)/\y.2.2.length=LA.length + LB.length/\Dig y.2.2/\y.2.1 < 4294967296/\nv y.2.2 + 4294967296 ^ (i + y.1) * y.2.1=nv (LA.take i) * nv LB + 4294967296 ^ i * (x * nv (LB.take y.1))/\ ∀ q,i + LB.length<=q->q < LA.length + LB.length->y.2.2[q]? =some 0) AO5 LB.length (0,0,O) ?_ ⟨rfl,rfl,trivial⟩ ?_)
     ·exact ⟨rfl,Nat.zero_le _,XQ,AOq,Aa,hOl,hOd,by dsimp only;omega,by simp [nv,hOv],hOz⟩
     rintro k ⟨j,c,O⟩ s2 hp ⟨rfl,hj,XQ,hgq,Aa,hOl,hOd,hc,hOv,hOz⟩;dsimp only at hj Aa hOl hOd hc hOv hOz ⊢;refine AOv<|Amb rfl rfl (λA7=>?_) (λA7=>?_)
     ·refine AOz<|AOx<|Ahn rfl (AO4<|q_t<|AOx<|AO0<|AOx ?_);obtain ⟨y,hy⟩:∃ x,LB[j]? =some x:=⟨_,List.getElem?_eq_getElem AOq⟩;have hby:=HB.dig y<|List.mem_of_getElem? hy;obtain ⟨ov,hov⟩:∃ x,O[i + j]? =some x:=⟨_,List.getElem?_eq_getElem AOq⟩;have hbo:=hOd ov<|List.mem_of_getElem? hov;have htb:=A9v hc hbx hby hbo;have hxy:x * y<=4294967295 * 4294967295:=Nat.mul_le_mul AOq AOq;refine Ag6<|AOr<|Aqd Ahm rfl (HB.ext XQ) rfl hy λBu A8=>Aht Ajo rfl A8 (Ahl<|Ah4<|AOr<|AOr<|Azr Akc Ajp rfl hbx (AOr<|Azr Akc Ajp rfl hby (A9u rfl rfl AOq (AOr<|AOr<|A9d Ahm rfl rfl AOq (Aht Ajo rfl (Alg.cell Aa<|Azd hov) (Azr Akc Ajp rfl hbo (Av8 rfl rfl AOq (Av8 rfl rfl AOq ?_))))))));refine Ah4<|AOr<|AOr<|AOr<|A1j Ajp Akc rfl (A9d Ahm rfl rfl AOq (A1i (O.set (i + j)<|(c + (x * y + ov)) % 4294967296) Ajo rfl rfl Aa AOq rfl λh4 Ap U4=>?_));have Bv:=U4.1;have A9:=XQ.thenUpd U4 (λk hk=>by have Aq:k=g1:=hk;omega);refine AOz<|Ag6<|AOr<|A0w rfl rfl (Ahl<|Ahh<|q_b<|q_t<|Ag6<|Ara rfl AOq (AOr<|AOz ?_));exact ⟨LB.length - (j + 1),(j + 1,(c + (x * y + ov)) / 4294967296,O.set (i + j)<|(c + (x * y + ov)) % 4294967296),by first | omega | (dsimp only;omega),⟨rfl,by first | omega | (dsimp only;omega),A9,AOq,Ap,by simp [hOl],Aze hOd<|Nat.mod_lt _ AOs,by dsimp only;exact Nat.div_lt_of_lt_mul htb,by dsimp only;rw [Aja hy];exact A7e (Pi:=0) (A17 _ hov) hOv<|Nat.mod_add_div _ _,λq h1 h2=>by dsimp only;rw [List.getElem?_set_ne AOq];exact hOz q h1 h2⟩,rfl,rfl,trivial⟩
     ·refine AOz<|AOx<|Ahs rfl (Ahf<|Ahg<|Ahg<|Aim<|q_t ?_);obtain rfl:j=LB.length:=by omega
      refine Ag6<|AOr<|AOr<|Ai4 Ahm rfl (HB.ext XQ) (AOr<|A1j Ajp Akc rfl ?_);rw [Nat.mod_eq_of_lt hc];refine A9d Ahm rfl rfl AOq (A1i (O.set (i + LB.length)<|c) Ajo rfl rfl Aa AOq rfl λh5 Ar U5=>?_);have Bw:=U5.1;have Bb:=XQ.thenUpd U5 (λk hk=>by have Aq:k=g1:=hk;omega);refine Ahh<|q_b<|q_t<|Ag6<|Ara rfl AOq (AOr<|AOz ?_);exact ⟨LA.length - (i + 1),(i + 1,O.set (i + LB.length) c),by first | omega | (dsimp only;omega),⟨rfl,by first | omega | (dsimp only;omega),Bb,AOq,Ar,by simp [hOl],Aze hOd hc,by dsimp only;have h1:=A17 c<|hOz (i + LB.length) (Nat.le_refl _) AOq;rw [Nat.mul_zero,Nat.add_zero] at h1;rw [h1,hOv,List.take_length,Aja hx,Nat.add_mul,Nat.mul_assoc],λq h1 h2=>by dsimp only;rw [List.getElem?_set_ne AOq];exact hOz q AOq h2⟩,rfl,trivial⟩
   ·refine AOz<|AOx<|Ahs rfl (Ahf<|Ahg<|Ahg<|Aim<|q_t<|AOx ?_);obtain rfl:i=LA.length:=by omega
    rw [List.take_length] at hOv;have HDo:=Aa.ds (lo:=Array.size h) hOd AOq;refine Ag6<|AOr<|Ahr trivial rfl (At7 (DS.mono HDo<|Nat.zero_le _) AOq) λBx hq hk=>?_;obtain ⟨rfl,L2,HT,htl⟩:=hk;refine ⟨trivial,?_⟩;refine AO1 (AO6<|⟨_,AO7,?_⟩)
    first
    | exact ⟨XQ,L1,lacks_HD1,Ak,Am,AOq⟩
    | exact ⟨XQ,L2,HT.ds HDo.lo,htl,by rw [HT.val,hOv],by have:=HT.len;omega⟩
 ·refine AOr<|Ail 15 false AO5 rfl rfl (Ail 15 false AO5 rfl rfl (Ail 15 false AO5 rfl rfl (APb rfl (AOz<|Ahs rfl (AO4<|q_t<|AOv<|AOr<|Ai4 Ahm rfl HA (AOr<|Ai4 Ahm rfl HB (Awr rfl rfl AOq (A7d (n:=LA.length + LB.length) Ahm As7 (λ_=>trivial) rfl rfl AOs AOq λg1 v1 h1 Ao E1 Az Av=>?_))))))));have By:=E1.1;have Bz:=(Ext.refl h).trans E1;refine AO1<|AOx<|AOv<|AOr<|Ai4 Ahm rfl (HA.ext E1) (AOr<|AOz<|AO0<|Aj4 19342813113834049615433664 (λy:Nat × List Nat=>[(34,.int .i64 (y.1:Int))]) (λk y h'=>k=LA.length - y.1/\y.1<=LA.length/\Ext h h'/\g1 < Array.size h'/\Alg h' 200 g1 v1 (y.2.map Au7)/\y.2.length=LA.length + LB.length/\Dig y.2/\nv y.2=nv (LA.take y.1) * nv LB/\ ∀ q,y.1 + LB.length<=q->q < LA.length + LB.length->y.2[q]? =some 0) AO5 LA.length (0,List.replicate (LA.length + LB.length) 0) ?_ ⟨rfl,trivial⟩ ?_)
  ·exact ⟨rfl,Nat.zero_le _,E1,AOq,Ao,Ah7,λx hx=>by rw [(List.mem_replicate.1 hx).2];decide,by simp [nv,A7h],λq hq A3=>by dsimp only;rw [List.getElem?_replicate];simp;omega⟩
  rintro k ⟨i,O⟩ s1 hq ⟨rfl,hi,XQ,hgq,Aa,hOl,hOd,hOv,hOz⟩;dsimp only at hi Aa hOl hOd hOv hOz ⊢;refine AOv<|Amb rfl rfl (λBc=>?_) (λBc=>?_)
  ·refine AOz<|AOx<|Ahn rfl (AO4<|q_t<|AOx<|AO0<|AOx ?_);obtain ⟨x,hx⟩:∃ x,LA[i]? =some x:=⟨_,List.getElem?_eq_getElem AOq⟩;have hbx:=HA.dig x<|List.mem_of_getElem? hx;refine Ag6<|AOr<|Aqd Ahm rfl (HA.ext XQ) rfl hx λB1 Be=>Aht Ajo rfl Be (Ahl<|AO1<|AOx<|AOv<|AOr<|Az2 rfl rfl (λBf=>?_) (λBf=>?_))
   ·refine AOz<|Ahn rfl (Ahf<|Ahg<|Aim<|q_t<|Ag6<|Ara rfl AOq (AOr<|AOz ?_));exact ⟨LA.length - (i + 1),(i + 1,O),by first | omega | (dsimp only;omega),⟨rfl,by first | omega | (dsimp only;omega),XQ,AOq,Aa,hOl,hOd,by dsimp only;rw [hOv,Aja hx,show x=0 by omega];simp,λq h1 h2=>hOz q (by dsimp only at h1;omega) h2⟩,rfl,trivial⟩
   ·refine AOz<|Ahs rfl (AO4<|q_t<|AOv<|AOr<|AOr<|AOr<|AOr<|Ai4 Ahm rfl (HB.ext XQ) (Awr rfl rfl AOq (Awr (b:=1) rfl rfl AOq (BFg (lo:=i) (hi:=i + LB.length + 1) Ahm rfl Aa rfl rfl AOq (by rw [List.length_map];omega) λcw=>?_))));refine Ah4<|AO1<|AOx<|AOv<|AOr<|Ai4 Ahm rfl (HB.ext XQ) (AOr<|AOz<|AO0<|Aj4 151115725200028833156608 (λy:Nat × Nat × List Nat=>[(51,.int .i64 (y.1:Int)),(9,.int .u64 (y.2.1:Int))]) (λk y h'=>k=LB.length - y.1/\y.1<=LB.length/\Ext h h'/\g1 < Array.size h'/\Alg h' 200 g1 v1 (y.2.2.map Au7)/\y.2.2.length=LA.length + LB.length/\Dig y.2.2/\y.2.1 < 4294967296/\nv y.2.2 + 4294967296 ^ (i + y.1) * y.2.1=nv (LA.take i) * nv LB + 4294967296 ^ i * (x * nv (LB.take y.1))/\ ∀ q,i + LB.length<=q->q < LA.length + LB.length->y.2.2[q]? =some 0) AO5 LB.length (0,0,O) ?_ ⟨rfl,rfl,trivial⟩ ?_)
    ·exact ⟨rfl,Nat.zero_le _,XQ,AOq,Aa,hOl,hOd,by dsimp only;omega,by simp [nv,hOv],hOz⟩
    rintro k ⟨j,c,O⟩ s2 hp ⟨rfl,hj,XQ,hgq,Aa,hOl,hOd,hc,hOv,hOz⟩;dsimp only at hj Aa hOl hOd hc hOv hOz ⊢;refine AOv<|Amb rfl rfl (λBg=>?_) (λBg=>?_)
    ·refine AOz<|AOx<|Ahn rfl (AO4<|q_t<|AOx<|AO0<|AOx ?_);obtain ⟨y,hy⟩:∃ x,LB[j]? =some x:=⟨_,List.getElem?_eq_getElem AOq⟩;have hby:=HB.dig y<|List.mem_of_getElem? hy;obtain ⟨ov,hov⟩:∃ x,O[i + j]? =some x:=⟨_,List.getElem?_eq_getElem AOq⟩;have hbo:=hOd ov<|List.mem_of_getElem? hov;have htb:=A9v hc hbx hby hbo;have hxy:x * y<=4294967295 * 4294967295:=Nat.mul_le_mul AOq AOq;refine Ag6<|AOr<|Aqd Ahm rfl (HB.ext XQ) rfl hy λB3 Bh=>Aht Ajo rfl Bh (Ahl<|Ah4<|AOr<|AOr<|Azr Akc Ajp rfl hbx (AOr<|Azr Akc Ajp rfl hby (A9u rfl rfl AOq (AOr<|AOr<|A9d Ahm rfl rfl AOq (Aht Ajo rfl (Alg.cell Aa<|Azd hov) (Azr Akc Ajp rfl hbo (Av8 rfl rfl AOq (Av8 rfl rfl AOq ?_))))))));refine Ah4<|AOr<|AOr<|AOr<|A1j Ajp Akc rfl (A9d Ahm rfl rfl AOq (A1i (O.set (i + j)<|(c + (x * y + ov)) % 4294967296) Ajo rfl rfl Aa AOq rfl λh4 Ap U4=>?_));have B4:=U4.1;have Bi:=XQ.thenUpd U4 (λk hk=>by have Aq:k=g1:=hk;omega);refine AOz<|Ag6<|AOr<|A0w rfl rfl (Ahl<|Ahh<|q_b<|q_t<|Ag6<|Ara rfl AOq (AOr<|AOz ?_));exact ⟨LB.length - (j + 1),(j + 1,(c + (x * y + ov)) / 4294967296,O.set (i + j)<|(c + (x * y + ov)) % 4294967296),by first | omega | (dsimp only;omega),⟨rfl,by first | omega | (dsimp only;omega),Bi,AOq,Ap,by simp [hOl],Aze hOd<|Nat.mod_lt _ AOs,by dsimp only;exact Nat.div_lt_of_lt_mul htb,by dsimp only;rw [Aja hy];exact A7e (Pi:=0) (A17 _ hov) hOv<|Nat.mod_add_div _ _,λq h1 h2=>by dsimp only;rw [List.getElem?_set_ne AOq];exact hOz q h1 h2⟩,rfl,rfl,trivial⟩
    ·refine AOz<|AOx<|Ahs rfl (Ahf<|Ahg<|Ahg<|Aim<|q_t ?_);obtain rfl:j=LB.length:=by omega
     refine Ag6<|AOr<|AOr<|Ai4 Ahm rfl (HB.ext XQ) (AOr<|A1j Ajp Akc rfl ?_);rw [Nat.mod_eq_of_lt hc];refine A9d Ahm rfl rfl AOq (A1i (O.set (i + LB.length)<|c) Ajo rfl rfl Aa AOq rfl λh5 Ar U5=>?_);have B5:=U5.1;have Bj:=XQ.thenUpd U5 (λk hk=>by have Aq:k=g1:=hk;omega);refine Ahh<|q_b<|q_t<|Ag6<|Ara rfl AOq (AOr<|AOz ?_);exact ⟨LA.length - (i + 1),(i + 1,O.set (i + LB.length) c),by first | omega | (dsimp only;omega),⟨rfl,by first | omega | (dsimp only;omega),Bj,AOq,Ar,by simp [hOl],Aze hOd hc,by dsimp only;have h1:=A17 c<|hOz (i + LB.length) (Nat.le_refl _) AOq;rw [Nat.mul_zero,Nat.add_zero] at h1;rw [h1,hOv,List.take_length,Aja hx,Nat.add_mul,Nat.mul_assoc],λq h1 h2=>by dsimp only;rw [List.getElem?_set_ne AOq];exact hOz q AOq h2⟩,rfl,trivial⟩
  ·refine AOz<|AOx<|Ahs rfl (Ahf<|Ahg<|Ahg<|Aim<|q_t<|AOx ?_);obtain rfl:i=LA.length:=by omega
   rw [List.take_length] at hOv;have HDo:=Aa.ds (lo:=Array.size h) hOd AOq;refine Ag6<|AOr<|Ahr trivial rfl (At7 (DS.mono HDo<|Nat.zero_le _) AOq) λB6 hq hk=>?_;obtain ⟨rfl,L2,HT,htl⟩:=hk;refine ⟨trivial,?_⟩;refine AO1 (AO6<|⟨_,AO7,?_⟩)
   first
   | exact ⟨XQ,L1,lacks_HD1,Ak,Am,AOq⟩
   | exact ⟨XQ,L2,HT.ds HDo.lo,htl,by rw [HT.val,hOv],by have:=HT.len;omega⟩
theorem MulZ_ok {a b:Int} (HA:ZV h la va a) (HB:ZV h lb vb b) (hab:a.natAbs * b.natAbs < 4294967296 ^ 100):Ahq Tryz.prog 159 #[va,vb] h λx h'=>Ext h h'/\ZV h' (Array.size h) x (a * b):=by
 obtain ⟨na,sa,LA,rfl,HDa,htla,hla,hza⟩:=HA.out;obtain ⟨nb,sb,LB,rfl,HDb,htlb,hlb,hzb⟩:=HB.out;refine Aie (l:=[_,_]) mx Tryz.func159 rfl rfl rfl rfl rfl AO5 (AOv<|Aqx [.bool na,sa] (λ_=>trivial) rfl rfl λAk h2 V3 E4 Bb Ce=>?_);have Cf:Array.size h<=Ak:=Bb;have Cg:=E4.1;have Z8:=(Ext.refl h).trans E4;refine Aqx [.bool nb,sb] (λ_=>trivial) rfl rfl λAm Ch Av Ag Be Ci=>?_;have Cj:Array.size h<=Am:=Nat.le_trans E4.1 Be;have nebq1bq9:Ak≠Am:=by have:=V3.lt;omega
 have Ck:=Ag.1;have Aw:=E4.trans Ag;have Ax:=V3.ext Ag;refine Aou [.bool false,.slice none 0 0] Amo rfl (λ_=>trivial) λAc Ai Bf Ad Bg Cm=>?_;have Cn:Array.size h<=Ac:=Nat.le_trans Aw.1 Bg;have nebq1bq20:Ak≠Ac:=by have:=Ax.lt;omega
 have nebq9bq20:Am≠Ac:=by have:=Av.lt;omega
 have Co:=Ad.1;have Bh:=(Z8.trans Ag).trans Ad;have Ao:=Aw.trans Ad;have Ay:=Ax.ext Ad;have Bi:=(E4.trans Ag).trans Ad;have Az:=Av.ext Ad;have Bj:=Ag.trans Ad;refine AOz<|AOx<|Aiz (λh'=>Ext Ai h') AO5 ?_;have Aa:=Ext.refl Ai;refine Ank (fs:=1) As0 AO5 AOs rfl (Ahk Amd rfl Aa (λh' hb=>(Ay.ext hb).cell (i:=0) rfl) (Ank (fs:=1) As0 AO5 AOs rfl (Ahk Amd rfl Aa (λh' hb=>(Az.ext hb).cell (i:=0) rfl) (A7c A2t rfl rfl (Ank (fs:=1) Atl AO5 AOs rfl (Ahk Apk rfl Aa (λh' hb=>(Ay.ext hb).cell (i:=1) rfl) (Ahr Aa rfl (At7 (DS.mono (HDa.ext Ao)<|Nat.zero_le _) AOq) λCp Ai hk=>?_)))))));obtain ⟨rfl,L1,Ap,Cr⟩:=hk;refine ⟨Aa,?_⟩;have Bl:=Ap.ds (lo:=la) HDa.lo;have A3:=Ap.val;have Ct:=Ap.len;refine Ank (fs:=1) Atl AO5 AOs rfl (Ahk Apk rfl Aa (λh' hb=>(Az.ext hb).cell (i:=1) rfl) (Ahr Aa rfl (At7 (DS.mono (HDb.ext Ao)<|Nat.zero_le _) AOq) λCu Ai hk=>?_));obtain ⟨rfl,L2,Aq,Cw⟩:=hk;refine ⟨Aa,?_⟩;have Bm:=Aq.ds (lo:=lb) HDb.lo;have A4:=Aq.val;have Cx:=Aq.len;refine Ahr Aa rfl (BG1 Bl Bm AOq AOq) λCy Cz hk=>?_;obtain ⟨Ae,L4,A5,A6,A7,C1⟩:=hk;have Ar:=Aa.trans Ae;refine ⟨Ar,?_⟩;have C2:=Ae.1;have Bn:=Bh.trans Ae;have Bo:=Ao.trans Ae;have Bp:=Bi.trans Ae;have Bq:=Bj.trans Ae;have Br:=Bf.ext Ae;have Bt:=Ad.trans Ae;refine Ahr Ar rfl (Are (!(na == nb)) A5 A6<|Atv A6 (by rw [A7,A3,A4,<- Amv hza,<- Amv hzb];exact hab)) λC3 C4 hk=>?_;obtain ⟨Ab,Bu⟩:=hk;have Bv:=Ar.trans Ab;refine ⟨Bv,?_⟩;have C5:=Ab.1;have Bw:=Bn.trans Ab;have Bx:=Bo.trans Ab;have By:=Bp.trans Ab;have Bz:=Bq.trans Ab;have B1:=Br.ext Ab;have B3:=Bt.trans Ab;have B4:=A5.ext Ab;obtain ⟨A8,s3,L3,rfl,Ba,B6,B7,B8⟩:=Bu.out;refine Ai5 [.bool A8,s3] Aip rfl rfl rfl rfl (Aqv Ba.cap) B1 λC6 B9 Af=>?_;have Ca:=Bx.thenUpd Af (λk hk=>by have Aj:k=Ac:=hk;omega);have C7:=Af.1;have C8:=Bw.thenUpd Af (λk hk=>by have Aj:k=Ac:=hk;omega);have C9:=B3.thenUpd Af (λk hk=>by have Aj:k=Ac:=hk;omega);have Da:=By.thenUpd Af (λk hk=>by have Aj:k=Ac:=hk;omega);have Db:=Bz.thenUpd Af (λk hk=>by have Aj:k=Ac:=hk;omega);have Dc:=B4.updLo Af AOq;have Cb:=Ba.updLo Af AOq;refine AOz<|AO6<|⟨_,Ai1 Aip rfl rfl B9,?_⟩;exact ⟨Ca,⟨A8,s3,L3,rfl,Cb.mono AOq,B6,B7,by rw [<- B8,A7,A3,A4,hza,hzb,A9z]⟩⟩
end Go.Proofs.YtkakafabeobahaaGreatDoor.Ig
namespace Go.Proofs.YtkakafabeobahaaGreatDoor
open Go Go.QF
def BO1 (fuel:Nat) (a b:Int):Option Int:=if a.natAbs < Alf/\b.natAbs < Alf then some (a - b) else none
def BFh (fuel:Nat) (a b:Int):Option Int:=if a.natAbs * b.natAbs < Alf then some (a * b) else none
def A2f (fuel:Nat) (a b:Int):Option (Int × Int × Bool):=if a.natAbs < 18446744073709551616/\b.natAbs < 18446744073709551616/\b≠0 then some (a / b,a % b,true) else none
def BO2 (fuel:Nat) (a:Int):Option Int:=some<|-a
def A2g (fuel:Nat) (a:Int):Option Int:=some a
def A6p (fuel:Nat) (a:Int):Option Int:=if -9223372036854775808<=a/\a<=9223372036854775807 then some a else none
def A7x (fuel:Nat) (a:Int):Option Int:=some<|Anz a
theorem BP4 {u:Value} {a b r:Int} (H1:ZZ h u a) (H2:ZZ h v b) (hp:BO1 fuel a b=some r):Ahq Tryz.prog 189 #[u,v] h (λx h'=>Ext h h'/\ ∃ (x0:Value),x=x0/\ZZ h' x0 r):=by
 obtain ⟨⟨h1,h2⟩,hp⟩:=ifN hp;cases hp;exact (Ig.Sub_ok H1 H2 h1 h2).mono λx h' hk=>⟨hk.1,x,rfl,hk.2.zz⟩
theorem BDw {u:Value} {a b r:Int} (H1:ZZ h u a) (H2:ZZ h v b) (hp:BFh fuel a b=some r):Ahq Tryz.prog 159 #[u,v] h (λx h'=>Ext h h'/\ ∃ (x0:Value),x=x0/\ZZ h' x0 r):=by
 obtain ⟨h1,hp⟩:=ifN hp;cases hp;exact (Ig.MulZ_ok H1 H2<|BJf h1).mono λx h' hk=>⟨hk.1,x,rfl,hk.2.zz⟩
theorem BP5 {u:Value} {a r:Int} (H1:ZZ h u a) (hp:BO2 fuel a=some r):Ahq Tryz.prog 190 #[u] h (λx h'=>Ext h h'/\ ∃ (x0:Value),x=x0/\ZZ h' x0 r):=by
 cases hp;exact (Ig.Neg_ok H1).mono λx h' hk=>⟨hk.1,x,rfl,hk.2.zz⟩
theorem A4q {u:Value} {a r:Int} (H1:ZZ h u a) (hp:A2g fuel a=some r):Ahq Tryz.prog 156 #[u] h (λx h'=>Ext h h'/\ ∃ (x0:Value),x=x0/\ZZ h' x0 r):=by
 cases hp;exact (Ig.Normalize_ok H1).mono λx h' hk=>⟨hk.1,x,rfl,hk.2.zz⟩
theorem A7y {a r:Int} (hp:A6p fuel a=some r):Ahq Tryz.prog 152 #[.int .i64 a] h (λx h'=>Ext h h'/\ ∃ (x0:Value),x=x0/\ZZ h' x0 r):=by
 obtain ⟨h1,hp⟩:=ifN hp;cases hp;exact (Ig.Small_ok h1 h).mono λx h' hk=>⟨hk.1,x,rfl,hk.2.zz⟩
theorem A6q {u:Value} {a r:Int} (H1:ZZ h u a) (hp:A7x fuel a=some r):Ahq Tryz.prog 155 #[u] h (λx h'=>Ext h h'/\x= .int .i64 r):=by
 cases hp;exact Ig.Sign_ok H1
theorem A5l {u:Value} {a b:Int} {r:Int × Int × Bool} (H1:ZZ h u a) (H2:ZZ h v b) (hp:A2f fuel a b=some r):Ahq Tryz.prog 158 #[u,v] h (λx h'=>Ext h h'/\ ∃ (x0:Value) (x1:Value),x= .tuple #[x0,x1,.bool r.2.2]/\ZZ h' x0 r.1/\ZZ h' x1 r.2.1):=by
 obtain ⟨⟨h1,h2,h3⟩,hp⟩:=ifN hp;cases hp;exact (Ig.DivMod2_ok H1 H2 h1 h2 h3).mono λx h' ⟨E,q,r,hx,hq,hr⟩=>⟨E,q,r,hx,hq.zz,hr.zz⟩
end Go.Proofs.YtkakafabeobahaaGreatDoor
