/-
  Texts of a proof, joined. Conditions stand in each statement.
-/
import Derived.Test.YtkakafabeobahaaGreatDoorMDyadicShape2
set_option linter.unusedVariables false
set_option linter.unusedSimpArgs false
open Go
variable {na neg:Bool} {h:Go.QF.AG0} {F A A0:Go.QF.ATa} {a1 a5 a2 x a9 d q last:Int} {fuel r a k j i p D:Nat} {f g:Nat->Int} {α:Type} {Ad Af Ab Aq Ai Ak Ac Ae Ah:Value}
namespace Go.Proofs.YtkakafabeobahaaGreatDoor
open Go Go.QF
set_option maxRecDepth 100000
set_option maxHeartbeats 40000000
abbrev LnN:=List<|List Nat
abbrev LnA:=List Nat
abbrev LvA:=List Value
abbrev LiI:=List<|List Int
abbrev LiA:=List Int
theorem AGs {α:Type _} {a b:α} (h:some a=some b):a=b:=Option.some.inj h
theorem tt2 {α:Sort _} {β:α->Sort _}:∀ x,β x->True:=λ_ _=>trivial
def AV9 (fuel:Nat) (a1 a5:Int):Option Int:=
 (Aps fuel a1 a5).bind λ(Ac,Ad,Ae)=>some Ac
theorem Aaq {r:Int} (H3:ZZ h Ad a1) (H7:ZZ h Af a5) (hp:AV9 fuel a1 a5=some r):AT3 Tryz.prog 172 #[Ad,Af] h (λx h'=>Ext h h'/\ ∃ (x0:Value),x=x0/\ZZ h' x0 r):=by
 unfold AV9 at hp;obtain ⟨Ar,rfl,Ai⟩:=H3.cs;obtain ⟨Au,rfl,Aj⟩:=H7.cs;refine cwf (l:=[_,_]) Tryz.func172 rfl rfl (AGt<|AZa (Kst.k0 h) Ar λb9 Bc Be Av=>AZa Av Au λBf Bg Bh Aw=>AV7 Aw [.bool false,.slice none 0 0] AXy λBi Bj Bl Aa=>AZ4<|Adh (Aa.zx Ai) (Aa.b p2)<|Adh (Aa.zx Aj) (Aa.b p1) ?_);obtain ⟨⟨Bm,Bn,Bo⟩,Ax,Ak⟩:=AGu hp;dsimp only at Ak;refine Aeq rfl (Aum (Aa.zx Ai).2 (Aa.zx Aj).2 Ax) λBp Bq Ay Az=>?_;obtain ⟨Br,Bt,rfl,A3,A4⟩:=Az;obtain ⟨Bu,rfl,A5⟩:=A3.cs;obtain ⟨Bv,rfl,A6⟩:=A4.cs;refine AGq<|AUh rfl rfl (AUh rfl rfl (AUh rfl rfl (AV7 (((Aa.e Ay).az A5).az A6) [.bool false,.slice none 0 0] AXy λBw Bx By A7=>AV7 A7 [.bool false,.slice none 0 0] AXy λBz A8 B3 Am=>AYu Am p1 (ATi A8) (Am.z p3) λA9 Ao=>AYu Ao p0 (ATi A9) (Ao.z p2) λBa Ab=>AT7<|Adh (Ab.z p3) (Ab.b p1)<|AYu Ab p4 (ATi Ba) (Ab.z p3) λB4 Ac=>AGw<|AG6 ?_)));obtain rfl:=AGs Ak;exact ⟨_,AVn AUj (cZ.klen<|Ac.z p3) rfl (Ac.b p4),Ac.x,_,rfl,(Ac.z p3).2⟩
def Aaj (fuel:Nat) (a1 a5:Int):Option Int:=
 (Aps fuel a1 a5).bind λ(Ad,Ac,Ae)=>some Ac
theorem Amd {r:Int} (H3:ZZ h Ad a1) (H7:ZZ h Af a5) (hp:Aaj fuel a1 a5=some r):AT3 Tryz.prog 186 #[Ad,Af] h (λx h'=>Ext h h'/\ ∃ (x0:Value),x=x0/\ZZ h' x0 r):=by
 unfold Aaj at hp;obtain ⟨Ar,rfl,Ai⟩:=H3.cs;obtain ⟨Au,rfl,Aj⟩:=H7.cs;refine cwf (l:=[_,_]) Tryz.func186 rfl rfl (AGt<|AZa (Kst.k0 h) Ar λb9 Bc Be Av=>AZa Av Au λBf Bg Bh Aw=>AV7 Aw [.bool false,.slice none 0 0] AXy λBi Bj Bl Aa=>AZ4<|Adh (Aa.zx Ai) (Aa.b p2)<|Adh (Aa.zx Aj) (Aa.b p1) ?_);obtain ⟨⟨Bm,Bn,Bo⟩,Ax,Ak⟩:=AGu hp;dsimp only at Ak;refine Aeq rfl (Aum (Aa.zx Ai).2 (Aa.zx Aj).2 Ax) λBp Bq Ay Az=>?_;obtain ⟨Br,Bt,rfl,A3,A4⟩:=Az;obtain ⟨Bu,rfl,A5⟩:=A3.cs;obtain ⟨Bv,rfl,A6⟩:=A4.cs;refine AGq<|AUh rfl rfl (AUh rfl rfl (AUh rfl rfl (AV7 (((Aa.e Ay).az A5).az A6) [.bool false,.slice none 0 0] AXy λBw Bx By A7=>AV7 A7 [.bool false,.slice none 0 0] AXy λBz A8 B3 Am=>AYu Am p1 (ATi A8) (Am.z p3) λA9 Ao=>AYu Ao p0 (ATi A9) (Ao.z p2) λBa Ab=>AT7<|Adh (Ab.z p2) (Ab.b p0)<|AYu Ab p4 (ATi Ba) (Ab.z p2) λB4 Ac=>AGw<|AG6 ?_)));obtain rfl:=AGs Ak;exact ⟨_,AVn AUj (cZ.klen<|Ac.z p2) rfl (Ac.b p4),Ac.x,_,rfl,(Ac.z p2).2⟩
def Adi (fuel:Nat) (a1 a2 Aa:Int) (Ac:LiI):Option ((Int × LiI) ⊕ LiI):=
 if Aa < ((List.replicate (Int.toNat a1) ([]:List Int)).length:Int) then if 0<=a2/\a2<=100000000 then (gI Ac Aa).bind λAe=>some (.inl (w64<|Aa + 1,sI Ac Aa<|List.replicate (Int.toNat a2) (0:Int))) else none else some<|.inr Ac
def AWh (fuel:Nat) (a1 a2:Int):Option LiI:=
 if 0<=a1/\a1<=100000000 then (iter (λs=>Adi fuel a1 a2 s.1 s.2) fuel (0,List.replicate (Int.toNat a1) ([]:List Int))).bind (λ(Ac:LiI)=>some Ac) else none
theorem AZ8 {r:LiI} (hp:AWh fuel a1 a2=some r):AT3 Tryz.prog 115 #[(.int .i64 a1),(.int .i64 a2)] h (λx h'=>Ext h h'/\ ∃ (x0:Value) (F0:List Nat) (Ak:List LnA) (Am:List Value),x=x0/\AV3 cZ 146 129 h' F0 Ak Am x0 r/\Sp h' h.size [F0]):=by
 unfold AWh at hp;refine cwf (l:=[_,_]) Tryz.func115 rfl rfl (AGt<|AT7<|AGq ?_);obtain ⟨Ao,Ap⟩:=ifN hp;refine Ajk cZ 129 AU3 Axy rfl trivial tt2 rfl rfl AGr Ao λAq Ar Au v9 h7 I8 E5 S6=>AG1<|AGv<|AGt<|AGq ?_;have Ad:=(Kst.k0 h).no2 E5 S6 I8;refine AUb AU3 rfl (Ad.o2 p0).rd (AGq<|AGw<|AGx<|AYo 1046592 (λx:(Int) × (LiI) × LnA × LnN × LvA=>(x.1,x.2.1)) ((0,(List.replicate (Int.toNat a1) ([]:List Int)),Aq,Ar,Au):(Int) × (LiI) × LnA × LnN × LvA) Ap (λx=>[(11,(.int .i64 x.1))]) (λx=>Ad.L.set 0<|aO2 cZ 146 129 x.2.2.1 x.2.2.2.1 x.2.2.2.2 v9 x.2.1) Ad ⟨rfl,trivial⟩ ?_);rintro ⟨Bg,Bh,Bi,Bj,Bl⟩ Bm Bn Bo Ab Ae Az;unfold Adi at Ae;refine AGt<|ATz rfl rfl (AGw<|AGv<|⟨_,rfl,λAf=>?_,λAf=>?_⟩)
 ·refine AG5<|q_t<|AGv<|AGx<|AGt<|AGq<|AG1<|ATc<|AGq<|AGq<|AGq ?_;obtain ⟨A3,A4⟩:=ifN<|AT9 Ae Af;refine Az0 AV5 AXy rfl trivial tt2 rfl rfl AGr A3 λBp Bq Br A5 A6 A7 A8=>?_;have Aa:=Ab.no A6 (AX4 A7 A8) A5;obtain ⟨Bt,Aj,A9⟩:=AGu A4;refine AUy AU3 rfl (Aa.o2 p1) rfl Aj λBu Bv Ba Bw Bx=>Ajj AWx (Aa.o2 p1) Aj Ba rfl rfl (Aa.o p0) (Aa.dj p0 p1 AGr) λBy Bb Bc Be=>ATr<|q_b<|q_t<|ATc<|ATp rfl rfl (AGq<|AGw ?_);exact ⟨(_,_,_,_,_),(AGs A9).symm,(Aa.m2 p0 p1 AGr Bc Bb λz hz=> .inl<|Be z hz).sel [1] AGr,rfl,trivial⟩
 ·refine ATk<|ATl<|ATl<|AUi<|q_t<|AGt<|AGq<|AG1<|AG6 ?_;obtain rfl:=AGs<|Az _ (AGs<|AUa Ae Af).symm;exact ⟨_,AS9,Ab.x,_,_,_,_,rfl,(Ab.o2 p0),Ab.s.sel [0] AGr⟩
def Aar (fuel:Nat) (a3:LiI) (Ab:Int) (Af:LiA) (Aa:Int) (Ac:LiI):Option ((Int × LiI) ⊕ LiI):=
 if Aa < (Af.length:Int) then (gI Ac Ab).bind λAd=>(gI a3 Ab).bind λAg=>(gI Ag Aa).bind λAh=>(Aev fuel Ah).bind λAi=>(gI Ad Aa).bind λAj=>some (.inl (w64<|Aa + 1,sI Ac Ab<|sI Ad Aa Ai)) else some<|.inr Ac
def Aas (fuel:Nat) (a3:LiI) (Aa:Int) (Ac:LiI):Option ((Int × LiI) ⊕ LiI):=
 if Aa < (a3.length:Int) then (gI a3 Aa).bind λAd=>(iter (λs=>Aar fuel a3 Aa Ad s.1 s.2) fuel (0,Ac)).bind (λ(Ae:LiI)=>some<|.inl (w64<|Aa + 1,Ae)) else some<|.inr Ac
def Aat (fuel:Nat) (a3:LiI) (Ab:Int):Option (Int ⊕ ((LiI × Bool) ⊕ Unit)):=
 if Ab < (a3.length:Int) then (gI a3 Ab).bind λAc=>if (Ac.length:Int) < 1 then some (.inr<|.inl ([],false)) else if 16 < (Ac.length:Int) then some (.inr<|.inl ([],false)) else (gI a3 0).bind λAd=>if ¬ (Ac.length:Int)=(Ad.length:Int) then some (.inr<|.inl ([],false)) else some (.inl<|w64<|Ab + 1) else some<|.inr<|.inr ()
def AVt (fuel:Nat) (a3:LiI):Option (LiI × Bool):=
 ((if (a3.length:Int) < 1 then some (.inl ([],false)) else if 16 < (a3.length:Int) then some (.inl ([],false)) else some<|.inr ()):Option ((LiI × Bool) ⊕ Unit)).bind (λex=>match ex with | .inl Ab=>(some Ab) | .inr _=>(iter (λs=>Aat fuel a3 s) fuel 0).bind (λex=>match ex with | .inl Ac=>(some Ac) | .inr _=>(gI a3 0).bind λAd=>(AWh fuel (a3.length:Int) (Ad.length:Int)).bind λAe=>(iter (λs=>Aas fuel a3 s.1 s.2) fuel (0,Ae)).bind (λ(Af:LiI)=>some (Af,true))))
theorem Ai0 {Ba:Value} {a3:LiI} {r:(LiI × Bool)} (H2:AX8 (cI .i64) h Ba a3) (hp:AVt fuel a3=some r):AT3 Tryz.prog 60 #[Ba] h (λx h'=>Ext h h'/\ ∃ (x0:Value) (F0:List Nat) (Bq:List LnA) (Br:List Value),x= .tuple #[x0,.bool r.2]/\AV3 cZ 146 129 h' F0 Bq Br x0 r.1/\Sp h' h.size [F0]):=by
 unfold AVt at hp;refine cwf (l:=[_]) Tryz.func60 rfl rfl (AGt<|ATu<|AG1 ?_);have K0:=Kst.k0 h;obtain ⟨Bt,Be,Ao⟩:=AGu hp;refine Ae6 130572 (λx:Unit=>[]) (λx h'=>(Sum.inr <| ())=Bt/\Kst h h' (K0.L)) ?_ ?_
 ·refine AGt<|AGq<|AUb ATg rfl H2 (ATz rfl rfl (AGq ?_));by_cases Ag:(a3.length:Int) < 1
  ·rw [decide_eq_true Ag];refine Acj 12 true<|ATn rfl (AGw<|ATv rfl (AGt<|ATu<|AG1 ?_));obtain rfl:=AGs<|ifT Be Ag;refine AG6<|ATj ?_;have Ap:=Kst.anil2 cZ 146 129 K0;obtain rfl:=AGs Ao;exact ⟨_,AU0,Ap.x,_,_,_,_,rfl,(Ap.o2 p0),Ap.s.sel [0] AGr⟩
  ·have Bf:=ifF Be Ag;rw [decide_eq_false Ag];refine ATt 12 false<|AGq<|ATt 12 false<|AUb ATg rfl H2 (ATt 12 false<|AZv rfl rfl (ATx rfl (AGw<|⟨_,rfl,λAq=>?_,λAq=>?_⟩)))
   ·refine AGt<|ATu<|AG1 ?_;obtain rfl:=AGs<|AT9 Bf Aq;refine AG6<|ATj ?_;have Ar:=Kst.anil2 cZ 146 129 K0;obtain rfl:=AGs Ao;exact ⟨_,AU0,Ar.x,_,_,_,_,rfl,(Ar.o2 p0),Ar.s.sel [0] AGr⟩
   ·refine AG5<|q_t ?_;exact ⟨(():Unit),⟨AGs<|AUa Bf Aq,K0⟩,trivial⟩
 rintro ⟨⟩ C4 C5 ⟨Bu,Bg⟩;subst Bu;refine AGv<|AGt<|AGq<|AUb ATg rfl H2 (AGq<|AGw<|AGx<|AZp 2199022731308 Ao (λx=>[(19,(.int .i64 x))]) (λx=>Bg.L) Bg ⟨rfl,trivial⟩ ?_);rintro C6 C7 C8 C9 Ab Au Ah;unfold Aat at Au;refine AGt<|ATz rfl rfl (AGw<|AGv<|⟨_,rfl,λAv=>?_,λAv=>?_⟩)
 ·refine AG5<|q_t<|AGv<|AGx<|AGt ?_;obtain ⟨Bh,Bv,Bi⟩:=AGu<|AT9 Au Av;refine Ad3 ATg ATq H2 Ab.x Bv λ_ Da Aw=>AT7<|AGq<|AUu ATe rfl Aw (ATz rfl rfl (AGq ?_));by_cases Ai:(Bh.length:Int) < 1
  ·rw [decide_eq_true Ai];refine Acj 26 true<|ATn rfl (AGq<|AY4 31 true<|Ab3 31 true<|ATn rfl (AGw<|ATv rfl (AGt<|ATu<|AG1<|AG6<|AUp<|ATj<|ATj<|AUp<|ATj ?_)));have Ax:=Kst.anil2 cZ 146 129 Ab;obtain rfl:=AGs<|Ah _ (AGs<|ifT Bi Ai).symm;exact ⟨_,AU0,Ax.x,_,_,_,_,rfl,(Ax.o2 p0),Ax.s.sel [0] AGr⟩
  ·have Bj:=ifF Bi Ai;rw [decide_eq_false Ai];refine ATt 26 false<|AGq<|ATt 26 false<|AUu ATe rfl Aw (ATt 26 false<|AZv rfl rfl (ATx rfl (AGq ?_)));by_cases Aj:16 < (Bh.length:Int)
   ·rw [decide_eq_true Aj];refine AY4 31 true<|Ab3 31 true<|ATn rfl (AGw<|ATv rfl (AGt<|ATu<|AG1<|AG6<|AUp<|ATj<|ATj<|AUp<|ATj ?_));have Ay:=Kst.anil2 cZ 146 129 Ab;obtain rfl:=AGs<|Ah _ (AGs<|ifT Bj Aj).symm;exact ⟨_,AU0,Ay.x,_,_,_,_,rfl,(Ay.o2 p0),Ay.s.sel [0] AGr⟩
   ·rw [decide_eq_false Aj];refine ATt 31 false<|AGq<|ATt 31 false<|AUu ATe rfl Aw (ATt 31 false<|AGq<|ATt 31 false ?_);obtain ⟨Db,Bw,Bl⟩:=AGu<|ifF Bj Aj;refine Anh ATg rfl H2 rfl Bw λDc Dd De Bx By=>ATt 31 false<|AT1 ATq rfl (ATw Bx Ab.x) (ATt 31 false<|AUu ATe rfl By (ATt 31 false<|AV2 rfl rfl (ATx rfl (AGw<|⟨_,rfl,λAz=>?_,λAz=>?_⟩))))
    ·refine AGt<|ATu<|AG1<|AG6<|AUp<|ATj<|ATj<|AUp<|ATj ?_;have A3:=Kst.anil2 cZ 146 129 Ab;obtain rfl:=AGs<|Ah _ (AGs<|AT9 Bl Az).symm;exact ⟨_,AU0,A3.x,_,_,_,_,rfl,(A3.o2 p0),A3.s.sel [0] AGr⟩
    ·refine AG5<|q_b<|q_t<|ATc<|ATp rfl rfl (AGq<|AGw ?_);exact ⟨_,(AGs<|AUa Bl Az).symm,Ab,rfl,trivial⟩
 ·refine ATk<|ATl<|ATl<|AUi<|q_t<|AGt<|AGq<|AUb ATg rfl H2 (AGq ?_);obtain ⟨Df,Bz,B3⟩:=AGu<|Ah _ (AGs<|AUa Au Av).symm;refine Ad3 ATg ATq H2 Ab.x Bz λ_ Dg B4=>AUu ATe rfl B4 ?_;obtain ⟨B5,B6,B7⟩:=AGu B3;refine Ahr Ab (AZ8 B6) λB8 B9 Ca Bm Dh Di Bn=>AG1<|AGv<|AGt<|AGq<|AUb ATg rfl H2 (AGq<|AGw<|AGx<|AYo 151115726325928739996032 (λx:(Int) × (LiI) × LnA × LnN × LvA=>(x.1,x.2.1)) ((0,B5,B8,B9,Ca):(Int) × (LiI) × LnA × LnN × LvA) B7 (λx=>[(50,(.int .i64 x.1))]) (λx=>Bn.L.set 0<|aO2 cZ 146 129 x.2.2.1 x.2.2.2.1 x.2.2.2.2 Bm x.2.1) Bn ⟨rfl,trivial⟩ ?_);rintro ⟨Bo,Cb,Cd,Ce,Cf⟩ Dj Dk Dl Ac A4 Cg;unfold Aas at A4;refine AGt<|ATz rfl rfl (AGw<|AGv<|⟨_,rfl,λA5=>?_,λA5=>?_⟩)
  ·refine AG5<|q_t<|AGv<|AGx<|AGt<|AGq<|AT7<|AGq<|AGq ?_;obtain ⟨Do,Ch,Ci⟩:=AGu<|AT9 A4 A5;refine Ad3 ATg ATq H2 Ac.x Ch λ_ Dp Cj=>AUu ATe rfl Cj (AGq<|AGw<|AGx<|AYo 75557575495538171707648 (λx:(Int) × (LiI) × LnA × LnN × LvA=>(x.1,x.2.1)) ((0,Cb,Cd,Ce,Cf):(Int) × (LiI) × LnA × LnN × LvA) Ci (λx=>[(58,(.int .i64 x.1))]) (λx=>Ac.L.set 0<|aO2 cZ 146 129 x.2.2.1 x.2.2.2.1 x.2.2.2.2 Bm x.2.1) Ac ⟨rfl,trivial⟩ ?_);rintro ⟨Dq,Dr,Ds,Dt,Du⟩ Dv A6 Dw Ad A7 Ck;unfold Aar at A7;refine AGt<|ATz rfl rfl (AGw<|AGv<|⟨_,rfl,λA8=>?_,λA8=>?_⟩)
   ·refine AG5<|q_t<|AGv<|AGx<|AGt<|AGq<|AG1<|AVl (λh'=>UpT [] A6 h') AG3 ?_;have Ak:UpT [] A6 A6:=UpT.start all_nil;refine AGq<|AGq ?_;obtain ⟨Dx,A9,Cm⟩:=AGu<|AT9 A7 A8;refine AUy AU3 rfl (Ad.o2 p0) rfl A9 λDy Dz D0 Cn Co=>AVe AWx rfl Ak (λh' hb=>ATw Co hb.ext) (AGq<|AGq<|AGq ?_);obtain ⟨D2,Cp,Cq⟩:=AGu Cm;refine Anh ATg rfl H2 rfl Cp λD3 D4 D5 Cr Ct=>AVe ATq rfl Ak (λh' hb=>ATw Cr<|Ad.x.trans hb.ext) (AGq ?_);obtain ⟨D6,Cu,Cv⟩:=AGu Cq;refine Ack (c:=(cI .i64)) ATe rfl Ct rfl Cu λD7 D8 D9 Cw Cx=>?_;obtain rfl:=Cw;refine AVe ATh rfl Ak (λh' hb=>ATw (Cx 0 _ rfl)<|Ad.x.trans hb.ext) ?_;obtain ⟨Ea,Cy,Cz⟩:=AGu Cv;refine AYh Ad Ak (Adg Cy) λEb Ec Ed Ae Ee=>?_;obtain ⟨Ef,Bp,C0⟩:=AGu Cz;refine AU7 (m:=Bo) AV5 rfl (Ad.o2 p0) Cn A9 rfl Bp λEg C1=>AYs (m:=Bo) (Aj9 AUj (cZ.klen<|Ae.z p0) rfl rfl (cZ.one<|Ae.z p0)) (Ae.o2 p1) C1 A9 Bp (Ae.z p0) λEh C2 C3=>ATr<|q_b<|q_t<|ATc<|ATp rfl rfl (AGq<|AGw ?_);exact ⟨(_,_,_,_,_),(AGs C0).symm,(Ae.uO2 p1 C3 C2).sel [1] AGr,rfl,trivial⟩
   ·refine ATk<|ATl<|ATl<|AUi<|q_b<|q_t<|ATc<|ATp rfl rfl (AGq<|AGw ?_);exact ⟨(_,_,_,_,_),(AGs<|Ck _ (AGs<|AUa A7 A8).symm).symm,Ad,rfl,trivial⟩
  ·refine ATk<|ATl<|ATl<|AUi<|q_t<|AGt<|AGq<|ATu<|AG1<|AG6 ?_;obtain rfl:=AGs<|Cg _ (AGs<|AUa A4 A5).symm;exact ⟨_,AU0,Ac.x,_,_,_,_,rfl,(Ac.o2 p0),Ac.s.sel [0] AGr⟩
def AV4 (fuel:Nat) (a3:LiI):Option LiI:=
 (AVt fuel a3).bind λ(x5,x6)=>some x5
theorem Abu {a3 r:LiI} (H2:AX8 (cI .i64) h Ab a3) (hp:AV4 fuel a3=some r):AT3 Tryz.prog 30 #[Ab] h (λx h'=>Ext h h'/\ ∃ (x0:Value) (F0:List Nat) (Ai:List LnA) (Aj:List Value),x=x0/\AV3 cZ 146 129 h' F0 Ai Aj x0 r/\Sp h' h.size [F0]):=by
 unfold AV4 at hp;refine cwf (l:=[_]) Tryz.func30 rfl rfl (AGt<|AT7<|AGq ?_);have K0:=Kst.k0 h;obtain ⟨⟨x5,x6⟩,Ak,Ag⟩:=AGu hp;dsimp only at Ag;refine Aeq rfl (Ai0 (H2.ext K0.x) Ak) λAv Aw E9 Ao=>?_;obtain ⟨Ax,Ay,Az,A3,rfl,Ap,Aq⟩:=Ao;refine AGq<|AUh rfl rfl (AUh rfl rfl (ATu<|AT7<|AGq<|AG1<|AG6 ?_));have Aa:=K0.no2 E9 Aq Ap;obtain rfl:=AGs Ag;exact ⟨_,AS9,Aa.x,_,_,_,_,rfl,(Aa.o2 p0),Aa.s.sel [0] AGr⟩
def AZq (fuel:Nat) (a3:LiI) (Ab:Int):Option (Int ⊕ ((Int × Int × Bool) ⊕ Unit)):=
 if Ab < (a3.length:Int) then (gI a3 Ab).bind λAc=>if (Ac.length:Int) < 1 then some (.inr<|.inl (0,0,false)) else if 16 < (Ac.length:Int) then some (.inr<|.inl (0,0,false)) else (gI a3 0).bind λAd=>if ¬ (Ac.length:Int)=(Ad.length:Int) then some (.inr<|.inl (0,0,false)) else some (.inl<|w64<|Ab + 1) else some<|.inr<|.inr ()
def AVx (fuel:Nat) (a3:LiI):Option (Int × Int × Bool):=
 ((if (a3.length:Int) < 1 then some (.inl (0,0,false)) else if 16 < (a3.length:Int) then some (.inl (0,0,false)) else some<|.inr ()):Option ((Int × Int × Bool) ⊕ Unit)).bind (λex=>match ex with | .inl Ab=>(some Ab) | .inr _=>(iter (λs=>AZq fuel a3 s) fuel 0).bind (λex=>match ex with | .inl Ac=>(some Ac) | .inr _=>(gI a3 0).bind λAd=>some ((a3.length:Int),(Ad.length:Int),true)))
theorem AZr {a3:LiI} {r:(Int × Int × Bool)} (H2:AX8 cZ h Aq a3) (hp:AVx fuel a3=some r):AT3 Tryz.prog 131 #[Aq] h (λx h'=>Ext h h'/\x= .tuple #[.int .i64 r.1,.int .i64 r.2.1,.bool r.2.2]):=by
 unfold AVx at hp;refine cwf (l:=[_]) Tryz.func131 rfl rfl (AGt<|ATu<|ATu<|AG1 ?_);have K0:=Kst.k0 h;obtain ⟨A3,Ar,Ai⟩:=AGu hp;refine Ae6 32668 (λx:Unit=>[]) (λx h'=>(Sum.inr <| ())=A3/\Kst h h' (K0.L)) ?_ ?_
 ·refine AGt<|AGq<|AUb AU3 rfl H2 (ATz rfl rfl (AGq ?_));by_cases Ad:(a3.length:Int) < 1
  ·rw [decide_eq_true Ad];refine Acj 10 true<|ATn rfl (AGw<|ATv rfl (AGt<|ATu<|ATu<|AG1 ?_));obtain rfl:=AGs<|ifT Ar Ad;refine AG6<|ATj ?_;obtain rfl:=AGs Ai;exact ⟨_,Ab5,K0.x,rfl⟩
  ·have Au:=ifF Ar Ad;rw [decide_eq_false Ad];refine ATt 10 false<|AGq<|ATt 10 false<|AUb AU3 rfl H2 (ATt 10 false<|AZv rfl rfl (ATx rfl (AGw<|⟨_,rfl,λAj=>?_,λAj=>?_⟩)))
   ·refine AGt<|ATu<|ATu<|AG1 ?_;obtain rfl:=AGs<|AT9 Au Aj;refine AG6<|ATj ?_;obtain rfl:=AGs Ai;exact ⟨_,Ab5,K0.x,rfl⟩
   ·refine AG5<|q_t ?_;exact ⟨(():Unit),⟨AGs<|AUa Au Aj,K0⟩,trivial⟩
 rintro ⟨⟩ Bc Be ⟨A4,Av⟩;subst A4;refine AGv<|AGt<|AGq<|AUb AU3 rfl H2 (AGq<|AGw<|AGx<|AZp 549755682908 Ai (λx=>[(17,(.int .i64 x))]) (λx=>Av.L) Av ⟨rfl,trivial⟩ ?_);rintro Bf Bg Bh Bi Aa Ak Ae;unfold AZq at Ak;refine AGt<|ATz rfl rfl (AGw<|AGv<|⟨_,rfl,λAm=>?_,λAm=>?_⟩)
 ·refine AG5<|q_t<|AGv<|AGx<|AGt ?_;obtain ⟨Aw,A5,Ax⟩:=AGu<|AT9 Ak Am;refine Ad3 AU3 AWx H2 Aa.x A5 λ_ Bj Ao=>AT7<|AGq<|AUu AV5 rfl Ao (ATz rfl rfl (AGq ?_));by_cases Af:(Aw.length:Int) < 1
  ·rw [decide_eq_true Af];refine Acj 24 true<|ATn rfl (AGq<|AY4 29 true<|Ab3 29 true<|ATn rfl (AGw<|ATv rfl (AGt<|ATu<|ATu<|AG1<|AG6<|AUp<|ATj<|ATj<|AUp<|ATj ?_)));obtain rfl:=AGs<|Ae _ (AGs<|ifT Ax Af).symm;exact ⟨_,Ab5,Aa.x,rfl⟩
  ·have Ay:=ifF Ax Af;rw [decide_eq_false Af];refine ATt 24 false<|AGq<|ATt 24 false<|AUu AV5 rfl Ao (ATt 24 false<|AZv rfl rfl (ATx rfl (AGq ?_)));by_cases Ag:16 < (Aw.length:Int)
   ·rw [decide_eq_true Ag];refine AY4 29 true<|Ab3 29 true<|ATn rfl (AGw<|ATv rfl (AGt<|ATu<|ATu<|AG1<|AG6<|AUp<|ATj<|ATj<|AUp<|ATj ?_));obtain rfl:=AGs<|Ae _ (AGs<|ifT Ay Ag).symm;exact ⟨_,Ab5,Aa.x,rfl⟩
   ·rw [decide_eq_false Ag];refine ATt 29 false<|AGq<|ATt 29 false<|AUu AV5 rfl Ao (ATt 29 false<|AGq<|ATt 29 false ?_);obtain ⟨Bl,A6,Az⟩:=AGu<|ifF Ay Ag;refine Anh AU3 rfl H2 rfl A6 λBm Bn Bo A7 A8=>ATt 29 false<|AT1 AWx rfl (ATw A7 Aa.x) (ATt 29 false<|AUu AV5 rfl A8 (ATt 29 false<|AV2 rfl rfl (ATx rfl (AGw<|⟨_,rfl,λAp=>?_,λAp=>?_⟩))))
    ·refine AGt<|ATu<|ATu<|AG1<|AG6<|AUp<|ATj<|ATj<|AUp<|ATj ?_;obtain rfl:=AGs<|Ae _ (AGs<|AT9 Az Ap).symm;exact ⟨_,Ab5,Aa.x,rfl⟩
    ·refine AG5<|q_b<|q_t<|ATc<|ATp rfl rfl (AGq<|AGw ?_);exact ⟨_,(AGs<|AUa Az Ap).symm,Aa,rfl,trivial⟩
 ·refine ATk<|ATl<|ATl<|AUi<|q_t<|AGv<|AWg<|AGq<|AUb AU3 rfl H2 (AGq ?_);obtain ⟨Bp,A9,Ba⟩:=AGu<|Ae _ (AGs<|AUa Ak Am).symm;refine Ad3 AU3 AWx H2 Aa.x A9 λ_ Bq Bb=>AUu AV5 rfl Bb (ATu<|ATu<|AG1<|AG6 ?_);obtain rfl:=AGs Ba;exact ⟨_,Ab5,Aa.x,rfl⟩
def AXj (fuel:Nat) (a3:LiI):Option (Int × Bool):=
 (AVx fuel a3).bind λ(x5,x6,x7)=>if (!x7)=true then some (0,false) else if ¬ x5=x6 then some (0,false) else some (x5,true)
theorem Afx {a3:LiI} {r:(Int × Bool)} (H2:AX8 cZ h Ad a3) (hp:AXj fuel a3=some r):AT3 Tryz.prog 117 #[Ad] h (λx h'=>Ext h h'/\x= .tuple #[.int .i64 r.1,.bool r.2]):=by
 unfold AXj at hp;refine cwf (l:=[_]) Tryz.func117 rfl rfl (AGt<|ATu<|AT7<|AGq ?_);have K0:=Kst.k0 h;obtain ⟨⟨x5,x6,x7⟩,Ak,Aa⟩:=AGu hp;dsimp only at Aa;refine AYn K0 (AZr (H2.ext K0.x) Ak) λAp Aq Ab=>AGq<|AUh rfl rfl (AUh rfl rfl (AUh rfl rfl (ATu<|ATu<|AG1<|AGv<|AGt<|AGq<|AW0 rfl (AGq ?_))));cases Ag:(!x7)
 ·refine ATt 15 false<|AGq<|ATt 15 false<|AGq<|ATt 15 false<|AV2 rfl rfl (ATx rfl (AGw ?_));have Ah:=Abh Aa Ag;refine ⟨_,rfl,λAc=>?_,λAc=>?_⟩
  ·refine AGt<|ATu<|AG1<|AG6<|ATj ?_;obtain rfl:=AGs<|AT9 Ah Ac;exact ⟨_,AU0,Ab.x,rfl⟩
  ·refine AG5<|q_t<|AGt<|AGq<|ATu<|AG1<|AG6 ?_;obtain rfl:=AGs<|AUa Ah Ac;exact ⟨_,AU0,Ab.x,rfl⟩
 ·refine Acj 15 true<|ATn rfl (AGw<|ATv rfl (AGt<|ATu<|AG1<|AG6<|ATj ?_));obtain rfl:=AGs<|ifT Aa Ag;exact ⟨_,AU0,Ab.x,rfl⟩
def Adj (fuel:Nat) (Ac:Int) (Ad:LiA) (Aa:Int) (Ab:LiI):Option ((Int × LiI) ⊕ LiI):=
 if Aa < (Ad.length:Int) then (gI Ad Aa).bind λAf=>(gI Ab Ac).bind λAe=>(Akd fuel Af).bind λAg=>if Ae.length<=100000000 then some (.inl (w64<|Aa + 1,sI Ab Ac<|Ae ++ [Ag])) else none else some<|.inr Ab
def Adk (fuel:Nat) (a3:LiI) (Aa:Int) (Ac:LiI):Option ((Int × LiI) ⊕ LiI):=
 if Aa < (a3.length:Int) then (gI a3 Aa).bind λAd=>(iter (λs=>Adj fuel Aa Ad s.1 s.2) fuel (0,Ac)).bind (λ(Ae:LiI)=>some<|.inl (w64<|Aa + 1,Ae)) else some<|.inr Ac
def AYi (fuel:Nat) (a3:LiI):Option LiI:=
 if 0<=(a3.length:Int)/\(a3.length:Int)<=100000000 then (iter (λs=>Adk fuel a3 s.1 s.2) fuel (0,List.replicate (Int.toNat (a3.length:Int)) ([]:List Int))).bind (λ(Ab:LiI)=>some Ab) else none
theorem Ago {a3 r:LiI} (H2:AX8 cZ h Aq a3) (hp:AYi fuel a3=some r):AT3 Tryz.prog 66 #[Aq] h (λx h'=>Ext h h'/\ ∃ (x0:Value) (F0:List Nat) (A4:List LnA) (A5:List Value),x=x0/\AV3 cZ 146 129 h' F0 A4 A5 x0 r/\Sp h' h.size [F0]):=by
 unfold AYi at hp;refine cwf (l:=[_]) Tryz.func66 rfl rfl (AGt<|AT7<|AGq<|AUb AU3 rfl H2 ?_);obtain ⟨A6,A7⟩:=ifN hp;refine Ajk cZ 129 AU3 Axy rfl trivial tt2 rfl rfl AGr A6 λA8 A9 Ba v11 h9 Bb E7 S8=>AG1<|AGv<|AGt<|AGq<|AUb AU3 rfl H2 (AGq<|AGw<|AGx ?_);have Av:=(Kst.k0 h).no2 E7 S8 Bb;refine AYo 137438949456 (λx:(Int) × (LiI) × LnA × LnN × LvA=>(x.1,x.2.1)) ((0,(List.replicate (Int.toNat (a3.length:Int)) ([]:List Int)),A8,A9,Ba):(Int) × (LiI) × LnA × LnN × LvA) A7 (λx=>[(12,(.int .i64 x.1))]) (λx=>Av.L.set 0<|aO2 cZ 146 129 x.2.2.1 x.2.2.2.1 x.2.2.2.2 v11 x.2.1) Av ⟨rfl,trivial⟩ ?_;rintro ⟨Ch,Bf,Bg,Bh,Bi⟩ Ci Cj Ck Ab Ah Bj;unfold Adk at Ah;refine AGt<|ATz rfl rfl (AGw<|AGv<|⟨_,rfl,λAi=>?_,λAi=>?_⟩)
 ·refine AG5<|q_t<|AGv<|AGx<|AGt<|AGq<|AT7<|AGq<|AGq ?_;obtain ⟨Cm,Bl,Bm⟩:=AGu<|AT9 Ah Ai;refine Ad3 AU3 AWx H2 Ab.x Bl λ_ Cn Aw=>AUu AV5 rfl Aw (AGq<|AGw<|AGx<|AYo 68718428224 (λx:(Int) × (LiI) × LnA × LnN × LvA=>(x.1,x.2.1)) ((0,Bf,Bg,Bh,Bi):(Int) × (LiI) × LnA × LnN × LvA) Bm (λx=>[(20,(.int .i64 x.1))]) (λx=>Ab.L.set 0<|aO2 cZ 146 129 x.2.2.1 x.2.2.2.1 x.2.2.2.2 v11 x.2.1) Ab ⟨rfl,trivial⟩ ?_);rintro ⟨Co,Cp,Cq,Cr,Ct⟩ Cu Cv Cw Ad Aj Bn;unfold Adj at Aj;refine AGt<|ATz rfl rfl (AGw<|AGv<|⟨_,rfl,λAk=>?_,λAk=>?_⟩)
  ·refine AG5<|q_t<|AGv<|AGx<|AGt ?_;obtain ⟨Cx,Bo,Bp⟩:=AGu<|AT9 Aj Ak;refine Ack (c:=cZ) AV5 rfl Aw rfl Bo λCy Cz Bq Ae Br=>Agm (c:=cZ) AUj rfl (Ad.zx Ae) (λj u hu=>(ATw (Br j u hu) Ad.x)) (AV7 Ad [.bool false,.slice none 0 0] AXy λC0 Bt C1 Ax=>AYu Ax p0 (ATi Bt) (Ax.zx Ae) λAm Aa=>AGw ?_);obtain ⟨C2,Ao,Bu⟩:=AGu Bp;obtain ⟨Ay,Bv,Bw,Bx,By⟩:=(Aa.o2 p1).rowG Ao;refine AVl (λh'=>UpT (Ay ++ []) Am h') AG3 ?_;have Ac:UpT (Ay ++ []) Am Am:=UpT.start<|AV1 Bx all_nil;refine AGq<|AGq<|AGq<|AGq<|AUy AU3 rfl (Aa.o2 p1) rfl Ao λC3 C4 Bz B3 B4=>AVe AWx rfl Ac (λh' hb=>Aen B4 hb<|Aks (By _ Bz) Akt) (Abj Bq AUj (cZ.klen<|Aa.zx Ae) rfl Ac (λh' hb=>((Aa.b p0).upT hb (A5q (λb hb hg=>(Aa.dj p0 p1 AGr) b hb (Bw b hg)) A5r)).agg) ?_);obtain ⟨C5,B5,B6⟩:=AGu Bu;refine AWs Ac (λ_ E=>Ac.thenE E) rfl (Amc (Aa.zx Ae).2 B5) λC6 C7 Az B7=>?_;obtain ⟨C8,rfl,B8⟩:=B7;have A3:=Ac.thenE Az;obtain ⟨C9,rfl,B9⟩:=B8.cs;have Ap:=(Aa.e Az).az B9;obtain ⟨Ca,Cb⟩:=ifN B6;refine A3j AV5 AXy rfl rfl AU3 AWx (Ap.o2 p2) B3 Ao Bv A3 (λ_ U=>A3.then U<|Afv rfl) (λ_=>rfl) rfl (Ap.z p0) (λ_ _=>rfl) (λ_ _=>rfl) rfl AGr Ca λDa Db Dc Dd De Df Dg Cd Ce Cf=>ATr<|q_b<|q_t<|ATc<|ATp rfl rfl (AGq<|AGw ?_);exact ⟨(_,_,_,_,_),(AGs Cb).symm,(Ap.uo2 p2 Ce Cd Cf).sel [2] AGr,rfl,trivial⟩
  ·refine ATk<|ATl<|ATl<|AUi<|q_b<|q_t<|ATc<|ATp rfl rfl (AGq<|AGw ?_);exact ⟨(_,_,_,_,_),(AGs<|Bn _ (AGs<|AUa Aj Ak).symm).symm,Ad,rfl,trivial⟩
 ·refine ATk<|ATl<|ATl<|AUi<|q_t<|AGt<|AGq<|AG1<|AG6 ?_;obtain rfl:=AGs<|Bj _ (AGs<|AUa Ah Ai).symm;exact ⟨_,AS9,Ab.x,_,_,_,_,rfl,(Ab.o2 p0),Ab.s.sel [0] AGr⟩
def Ab8 (fuel:Nat) (a3:LiI) (Ac:LiA) (Ae:Int) (Aa:LiA) (Ab:Int):Option ((LiA × Int) ⊕ LiA):=
 if Ab < (Ac.length:Int) then (gI Ac Ab).bind λAf=>(gI a3 Ae).bind λAg=>(gI Ag Af).bind λAh=>if Aa.length<=100000000 then some (.inl (Aa ++ [Ah],w64<|Ab + 1)) else none else some<|.inr Aa
def Ab9 (fuel:Nat) (a3:LiI) (a7 Ae:LiA) (Aa:LiI) (Ab:Int):Option ((LiI × Int) ⊕ LiI):=
 if Ab < (a7.length:Int) then (gI a7 Ab).bind λAf=>(iter (λs=>Ab8 fuel a3 Ae Af s.1 s.2) fuel ([],0)).bind (λ(Ag:LiA)=>if Aa.length<=100000000 then some (.inl (Aa ++ [Ag],w64<|Ab + 1)) else none) else some<|.inr Aa
def AXk (fuel:Nat) (a3:LiI) (a7 Ac:LiA):Option LiI:=
 (iter (λs=>Ab9 fuel a3 a7 Ac s.1 s.2) fuel ([],0)).bind (λ(Ad:LiI)=>some Ad)
theorem Afy {Ag:Value} {a3:LiI} {a7:LiA} {Am:LiA} {r:LiI} (H2:AX8 cZ h Ag a3) (H6:SlC (cI .i64) h Ai a7) (Ap:SlC (cI .i64) h Ak Am) (hp:AXk fuel a3 a7 Am=some r):AT3 Tryz.prog 175 #[Ag,Ai,Ak] h (λx h'=>Ext h h'/\ ∃ (x0:Value) (F0:List Nat) (Ay:List LnA) (Az:List Value),x=x0/\AV3 cZ 146 129 h' F0 Ay Az x0 r/\Sp h' h.size [F0]):=by
 unfold AXk at hp;refine cwf (l:=[_,_,_]) Tryz.func175 rfl rfl (AGt<|AT7<|AG1<|AGv<|AGt<|AGq<|AUu Aop rfl H6 (AGq<|AGw<|AGx ?_));have Au:=Kst.anil2 cZ 146 129<|Kst.k0 h;refine AYo 2199023228544 (λx:(LiI) × (Value) × LnA × LnN × LvA × (Int)=>(x.1,x.2.2.2.2.2)) (([],(.slice none 0 0),[],[],[],0):(LiI) × (Value) × LnA × LnN × LvA × (Int)) hp (λx=>[(7,x.2.1),(15,(.int .i64 x.2.2.2.2.2))]) (λx=>Au.L.set 0<|aO2 cZ 146 129 x.2.2.1 x.2.2.2.1 x.2.2.2.2.1 x.2.1 x.1) Au ⟨rfl,rfl,trivial⟩ ?_;rintro ⟨Br,Bt,Bu,Bv,Bw,Bx⟩ By Bz B3 Ab Ac A3;unfold Ab9 at Ac;refine AGt<|ATz rfl rfl (AGw<|AGv<|⟨_,rfl,λAd=>?_,λAd=>?_⟩)
 ·refine AG5<|q_t<|AGv<|AGx<|AGt ?_;obtain ⟨B4,A4,A5⟩:=AGu<|AT9 Ac Ad;refine Asy Aop AT8 H6 Ab.x A4 λ_=>(AT7<|AG1<|AGv<|AGt<|AGq<|AUu Aop rfl Ap (AGq<|AGw<|AGx ?_));have Av:=Kst.anil cZ 129 Ab;refine AYo 68717384704 (λx:(LiA) × (Value) × LnA × (Int)=>(x.1,x.2.2.2)) (([],(.slice none 0 0),[],0):(LiA) × (Value) × LnA × (Int)) A5 (λx=>[(10,x.2.1),(21,(.int .i64 x.2.2.2))]) (λx=>Av.L.set 0<|aO cZ 129 x.2.2.1 x.2.1 x.1) Av ⟨rfl,rfl,trivial⟩ ?_;rintro ⟨B5,B6,B7,B8⟩ B9 Ca Cb Aa Ae A6;unfold Ab8 at Ae;refine AGt<|ATz rfl rfl (AGw<|AGv<|⟨_,rfl,λAf=>?_,λAf=>?_⟩)
  ·refine AG5<|q_t<|AGv<|AGx<|AGt ?_;obtain ⟨Cd,A7,A8⟩:=AGu<|AT9 Ae Af;refine Asy Aop AT8 Ap Aa.x A7 λ_=>(AG1<|ATc<|AGq<|AGq<|AGq ?_);obtain ⟨Ce,A9,Ba⟩:=AGu A8;refine Ad3 AU3 AWx H2 Aa.x A9 λ_ Cf Bb=>AGq ?_;obtain ⟨Cg,Bc,Be⟩:=AGu Ba;refine Ack (c:=cZ) AV5 rfl Bb rfl Bc λCh Ci Cj Aw Bf=>Agm (c:=cZ) AUj rfl (Aa.zx Aw) (λj u hu=>(ATw (Bf j u hu) Aa.x)) ?_;obtain ⟨Bg,Bh⟩:=ifN Be;refine Afp AV5 AXy rfl rfl trivial tt2 (λ_=>rfl) rfl (Aa.zx Aw) (Aa.o p0) AGr Bg λCk Cm Cn Co Bi Bj Bl=>ATu<|ATr<|q_b<|q_t<|ATc<|ATp rfl rfl (AGq<|AGw ?_);exact ⟨(_,_,_,_),(AGs Bh).symm,(Aa.uo p0 Bj Bi Bl),rfl,rfl,trivial⟩
  ·refine ATk<|ATl<|ATl<|AUi<|q_t<|ATc<|AGq<|AGq ?_;obtain ⟨Bm,Bn⟩:=ifN<|A6 _ (AGs<|AUa Ae Af).symm;refine A1g AU3 Axy rfl rfl trivial tt2 (λ_=>rfl) rfl (Aa.o p0) (Aa.o2 p1) (Aa.dj p0 p1 AGr) AGr Bm λCp Cq Cr Ct Bo Bp Bq=>ATu<|ATr<|q_b<|q_t<|ATc<|ATp rfl rfl (AGq<|AGw ?_);exact ⟨(_,_,_,_,_,_),(AGs Bn).symm,(Aa.m2 p0 p1 AGr Bp Bo Bq).sel [1] AGr,rfl,rfl,trivial⟩
 ·refine ATk<|ATl<|ATl<|AUi<|q_t<|AGt<|AGq<|AG1<|AG6 ?_;obtain rfl:=AGs<|A3 _ (AGs<|AUa Ac Ad).symm;exact ⟨_,AS9,Ab.x,_,_,_,_,rfl,(Ab.o2 p0),Ab.s.sel [0] AGr⟩
def AZi (fuel:Nat) (Ab:LiI) (Ac:Int) (Ad:LiI) (Aa:Int):Option (Int ⊕ Int):=
 ((if Aa < (Ab.length:Int) then (gI Ad Aa).bind λAe=>(gI Ae Ac).bind λAf=>(Aqh fuel Af).bind λAg=>if Ag=0 then some (.inl ()) else some (.inr ()) else some<|.inr ()):Option (Unit ⊕ Unit)).bind (λex=>match ex with | .inl _=>(some<|.inl<|w64<|Aa + 1) | .inr _=>some<|.inr Aa)
def AZj (fuel:Nat) (Ag:LiI) (Ac Ah Ae Aa:Int) (Ab:LiI):Option ((Int × LiI) ⊕ LiI):=
 if Aa < (Ag.length:Int) then (gI Ab Ae).bind λAd=>(gI Ab Ac).bind λAf=>(gI Af Ac).bind λAi=>(gI Ad Aa).bind λAj=>(Akc fuel Ai Aj).bind λAk=>(gI Ad Ac).bind λAm=>(gI Af Aa).bind λAo=>(Akc fuel Am Ao).bind λAp=>(BBh fuel Ak Ap).bind λAq=>(AV9 fuel Aq Ah).bind λAr=>some (.inl (w64<|Aa + 1,sI Ab Ae<|sI Ad Aa Ar)) else some<|.inr Ab
def AZk (fuel:Nat) (Ab:LiI) (Ac Ae Aa:Int) (Ad:LiI):Option ((Int × LiI) ⊕ LiI):=
 if Aa < (Ab.length:Int) then (iter (λs=>AZj fuel Ab Ac Ae Aa s.1 s.2) fuel (w64<|Ac + 1,Ad)).bind (λ(Af:LiI)=>some<|.inl (w64<|Aa + 1,Af)) else some<|.inr Ad
def AZl (fuel:Nat) (Ac:LiI) (Ae:Bool) (Aa:Int) (Ab:LiI) (Af:Int):Option ((Bool × Int × LiI × Int) ⊕ (Int ⊕ (Bool × Int))):=
 if Aa < (Ac.length:Int) then (((((iter (λs=>AZi fuel Ac Aa Ab s) fuel Aa).bind (λ(Ah:Int)=>some Ah)):Option Int).bind (λ(Ad:Int)=>if Ad=(Ac.length:Int) then some (.inl 0) else ((if Aa < Ad then (gI Ab Aa).bind λAi=>(gI Ab Ad).bind λAj=>some (!Ae,sI (sI Ab Ad Ai) Aa Aj) else some (Ae,Ab)):Option (Bool × LiI)).bind (λ((Ak,Am):Bool × LiI)=>(iter (λs=>AZk fuel Ac Aa Af s.1 s.2) fuel (w64<|Aa + 1,Am)).bind (λ(Ag:LiI)=>(gI Ag Aa).bind λAo=>(gI Ao Aa).bind λAp=>some<|.inr (Ak,Ag,Ap))))):Option (Int ⊕ (Bool × LiI × Int))).bind (λex=>match ex with | .inl Aq=>(some<|.inr<|.inl Aq) | .inr (Ar,Au,Av)=>some<|.inl (Ar,w64<|Aa + 1,Au,Av)) else some<|.inr<|.inr (Ae,Af)
def AUx (fuel:Nat) (a3:LiI):Option Int:=
 (AYi fuel a3).bind λAa=>(Aev fuel 1).bind λAd=>(iter (λs=>AZl fuel Aa s.1 s.2.1 s.2.2.1 s.2.2.2) fuel (false,0,Aa,Ad)).bind (λex=>match ex with | .inl Ae=>(some Ae) | .inr (Af,Ab)=>if Af=true then (Axz fuel Ab).bind λAg=>some Ag else some Ab)
theorem AXl {Bj:Value} {a3:LiI} {r:Int} (H2:AX8 cZ h Bj a3) (hp:AUx fuel a3=some r):AT3 Tryz.prog 121 #[Bj] h (λx h'=>Ext h h'/\ ∃ (x0:Value),x=x0/\ZZ h' x0 r):=by
 unfold AUx at hp;refine cwf (l:=[_]) Tryz.func121 rfl rfl (AGt<|AV7 (Kst.k0 h) [.bool false,.slice none 0 0] AXy λb5 h6 E8 Bn=>AZ4<|AGq ?_);obtain ⟨Bo,Cy,Cz⟩:=AGu hp;refine Ahr Bn (Ago (H2.ext Bn.x) Cy) λC0 C1 C2 v20 Gk Gl Bp=>AT7<|AGq<|AUb AU3 rfl (Bp.o2 p0).rd (AT7 ?_);obtain ⟨C3,C4,C5⟩:=AGu Cz;refine Ag5 Bp (Adg C4) λC6 Gm Gn C7=>AV7 C7 [.bool false,.slice none 0 0] AXy λBq C8 Gp Br=>AYu Br p0 (ATi C8) (Br.z p1) λGq Bt=>AG1<|AGv<|AGt<|AG1<|AGx<|AYo 2658455991569831745807614120560625600 (λx:(Bool) × (Int) × (LiI) × LnA × LnN × LvA × (Int) × LvA=>(x.1,x.2.1,x.2.2.1,x.2.2.2.2.2.2.1)) ((false,0,Bo,C0,C1,C2,C3,C6):(Bool) × (Int) × (LiI) × LnA × LnN × LvA × (Int) × LvA) C5 (λx=>[(6,(.bool x.1)),(7,(.int .i64 x.2.1))]) (λx=>((Bt.L.set 2<|aO2 cZ 146 129 x.2.2.2.1 x.2.2.2.2.1 x.2.2.2.2.2.1 v20 x.2.2.1).set 1 (aZ x.2.2.2.2.2.2.2 x.2.2.2.2.2.2.1)).set 0 (aB 129 Bq x.2.2.2.2.2.2.2)) Bt ⟨rfl,rfl,trivial⟩ ?_;rintro ⟨Bu,Ag,Bv,C9,Da,Db,Gr,Gt⟩ Gu Dc Gv Ab Ax Bw;unfold AZl at Ax;refine AGv<|AGt<|AGq<|AGq<|ATz rfl rfl (AGw<|⟨_,rfl,λAy=>?_,λAy=>?_⟩)
 ·refine AG5<|q_t ?_;obtain ⟨Dd,De,Bx⟩:=AGu<|AT9 Ax Ay;refine Ae6 2658455991569831745807614120558593856 (λx:(Bool) × (LiI) × LnA × LnN × LvA × (Int) × LvA=>[(6,(.bool x.1))]) (λx h'=>(Sum.inr <| (x.1,x.2.1,x.2.2.2.2.2.1))=Dd/\Kst h h' (((Ab.L.set 2<|aO2 cZ 146 129 x.2.2.1 x.2.2.2.1 x.2.2.2.2.1 v20 x.2.1).set 1 (aZ x.2.2.2.2.2.2 x.2.2.2.2.2.1)).set 0 (aB 129 Bq x.2.2.2.2.2.2))) ?_ ?_
  ·refine AGx<|AGt<|AGq<|AG1 ?_;obtain ⟨Df,Dg,By⟩:=AGu De;refine Ae6 274873712896 (λx:(Int)=>[(8,(.int .i64 x))]) (λx h'=>( x)=Df/\Kst h h' (Ab.L)) ?_ ?_
   ·refine AGx<|AZp 274873712896 Dg (λx=>[(8,(.int .i64 x))]) (λx=>Ab.L) Ab ⟨rfl,trivial⟩ ?_;rintro Am Gw Gx Gy Ah Bz B3;unfold AZi at Bz;obtain ⟨Dh,B4,Az⟩:=AGu Bz;refine Ae6 68715282432 (λx:Unit=>[]) (λx h'=>(Sum.inl <| ())=Dh/\Kst h h' (Ah.L)) ?_ ?_
    ·refine AGt<|AGq<|AGq<|ATz rfl rfl (AGq ?_);by_cases Ao:Am < (Bo.length:Int)
     ·rw [decide_eq_true Ao];refine ATt 25 true<|AGq<|ATt 25 true<|AGq<|ATt 25 true ?_;obtain ⟨Gz,A3,Di⟩:=AGu<|ifT B4 Ao;refine AUy AU3 rfl (Ah.o2 p2) rfl A3 λG3 G4 G5 Dj Dk=>ATt 25 true<|AT1 AWx rfl Dk (ATt 25 true<|AGq<|ATt 25 true ?_);obtain ⟨G6,B5,Dl⟩:=AGu Di;refine AU7 (m:=Am) AV5 rfl (Ah.o2 p2) Dj A3 rfl B5 λG7 Do=>ATt 25 true ?_;obtain ⟨G8,Dp,Dq⟩:=(Ah.o2 p2).cells Do A3 B5;have A4:=Ah.az Dp;refine Agm (c:=cZ) AUj rfl (A4.z p0) (λj u hu=>(Dq j u hu)) (ATt 25 true ?_);obtain ⟨G9,Dr,B6⟩:=AGu Dl;refine AYn A4 (Apq (A4.z p0).2 Dr) λHb Hc B7=>ATt 25 true<|AWe rfl rfl (ATn rfl (AGw<|⟨_,rfl,λA5=>?_,λA5=>?_⟩))
      ·refine AG5<|q_t ?_;exact ⟨(():Unit),⟨AGs<|AT9 B6 A5,B7.sel [1,2,3,4] AGr⟩,trivial⟩
      ·obtain rfl:=AGs<|AUa B6 A5;refine ATk<|ATl<|ATl<|AUi<|q_t ?_;exact ⟨(Am:(Int)),⟨AGs<|B3 _ (AGs Az).symm,B7.sel [1,2,3,4] AGr⟩,rfl,trivial⟩
     ·rw [decide_eq_false Ao];refine AY4 25 false<|Ah6 25 false<|ATx rfl (AGw<|ATy rfl ?_);obtain rfl:=AGs<|ifF B4 Ao;refine ATk<|ATl<|ATl<|AUi<|q_t ?_;exact ⟨(Am:(Int)),⟨AGs<|B3 _ (AGs Az).symm,Ah⟩,rfl,trivial⟩
    rintro ⟨⟩ Hd He ⟨Ds,Dt⟩;subst Ds;refine AGx<|ATc<|AGq<|ATp rfl rfl (ATu<|ATr<|q_b<|q_t ?_);exact ⟨_,(AGs Az).symm,Dt,rfl,trivial⟩
   rintro Du Hf B8 ⟨Dv,Ae⟩;subst Dv;refine AGv<|AGt<|AGq<|AGq<|AWe rfl rfl (AGw<|⟨_,rfl,λA6=>?_,λA6=>?_⟩)
   ·refine AGt<|AWr (Ag3 )<|AYu Ae p3 (ATi B8) (ATi B8) λB9 Ca=>AGw ?_;obtain rfl:=AGs<|AT9 By A6;refine AG6<|ATj<|AUp<|ATj<|ATj<|AUp<|ATj ?_;obtain rfl:=AGs<|Bw _ (AGs Bx).symm;exact ⟨_,AVn AUj (cZ.klen<|ATi B9) rfl (Ca.b p3),Ca.x,_,rfl,(ATi B9).2⟩
   ·refine AG5<|q_t ?_;obtain ⟨Dw,Cb,Dx⟩:=AGu<|AUa By A6;refine Ae6 2305838611167182912 (λx:(Bool) × (LiI) × LnA × LnN × LvA=>[(6,(.bool x.1))]) (λx h'=>( (x.1,x.2.1))=Dw/\Kst h h' (Ae.L.set 2<|aO2 cZ 146 129 x.2.2.1 x.2.2.2.1 x.2.2.2.2 v20 x.2.1)) ?_ ?_
    ·refine AGt<|AGq<|AGq<|AZv rfl rfl (AGw<|⟨_,rfl,λA7=>?_,λA7=>?_⟩)
     ·refine AGv<|AWg<|AGq<|AGq<|AGq<|AGq<|AGq<|AGq ?_;obtain ⟨Dy,Cd,Dz⟩:=AGu<|AT9 Cb A7;refine AUs AU3 AWx (Ae.o2 p2) Cd λ_ Hg D0=>AGq<|AGq ?_;obtain ⟨D2,Ce,D3⟩:=AGu Dz;refine AUs AU3 AWx (Ae.o2 p2) Ce λ_ Hh D4=>Agj AU3 AWx (Ae.o2 p2) D4 D0 Ce Cd rfl rfl (λ_=>rfl) (λ_=>rfl) (λ_=>rfl) (λ_ _=>rfl) λHj Hk D5 D6 D7 Hl D8 D9 Ea=>AGw<|ATc<|AGq<|AW0 rfl (AG1 ?_);exact ⟨(((!Bu),(sI (sI Bv Du Dy) Ag D2),D5,D6,D7):(Bool) × (LiI) × LnA × LnN × LvA),⟨AGs D3,(Ae.uo2 p2 D9 D8 Ea)⟩,rfl,trivial⟩
     ·refine AG5<|q_t ?_;exact ⟨((Bu,Bv,C9,Da,Db):(Bool) × (LiI) × LnA × LnN × LvA),⟨AGs<|AUa Cb A7,Ae⟩,rfl,trivial⟩
    rintro ⟨Eb,Ec,Ed,Ee,Ef⟩ Hm Hn ⟨Eg,Cf⟩;subst Eg;refine AGv<|AGt<|AGq<|ATp rfl rfl (AG1<|AGx<|AYo 20769187434139301290749948462106112 (λx:(Int) × (LiI) × LnA × LnN × LvA=>(x.1,x.2.1)) (((w64<|Ag + 1),Ec,Ed,Ee,Ef):(Int) × (LiI) × LnA × LnN × LvA) Dx (λx=>[(9,(.int .i64 x.1))]) (λx=>Cf.L.set 2<|aO2 cZ 146 129 x.2.2.1 x.2.2.2.1 x.2.2.2.2 v20 x.2.1) Cf ⟨rfl,trivial⟩ ?_);rintro ⟨Ap,Cg,Ch,Ci,Cj⟩ Ho Hq Hr Ai A8 Eh;unfold AZk at A8;refine AGv<|AGt<|AGq<|AGq<|ATz rfl rfl (AGw<|⟨_,rfl,λA9=>?_,λA9=>?_⟩)
    ·refine AG5<|q_t<|AGv<|AGx<|AGt<|AGq<|ATp rfl rfl (AG1<|AGx<|AYo 20769187434138129922501267905577984 (λx:(Int) × (LiI) × LnA × LnN × LvA=>(x.1,x.2.1)) (((w64<|Ag + 1),Cg,Ch,Ci,Cj):(Int) × (LiI) × LnA × LnN × LvA) (AT9 A8 A9) (λx=>[(10,(.int .i64 x.1))]) (λx=>Ai.L.set 2<|aO2 cZ 146 129 x.2.2.1 x.2.2.2.1 x.2.2.2.2 v20 x.2.1) Ai ⟨rfl,trivial⟩ ?_);rintro ⟨Hs,Ht,Hu,Hv,Hw⟩ Hx Ba Hy Aa Bb Ei;unfold AZj at Bb;refine AGv<|AGt<|AGq<|AGq<|ATz rfl rfl (AGw<|⟨_,rfl,λBc=>?_,λBc=>?_⟩)
     ·refine AG5<|q_t<|AGv<|AGx<|AVl (λh'=>UpT [] Ba h') AG3 ?_;have Ad:UpT [] Ba Ba:=UpT.start all_nil;refine AGq<|AGq ?_;obtain ⟨Hz,Ac,Ej⟩:=AGu<|AT9 Bb Bc;refine AUy AU3 rfl (Aa.o2 p2) rfl Ac λIa Ib Ic Ek El=>AVe AWx rfl Ad (λh' hb=>ATw El hb.ext) (AGq<|AGq<|AGq ?_);obtain ⟨Id,Aj,Em⟩:=AGu Ej;refine AUy AU3 rfl (Aa.o2 p2) rfl Aj λIe If Ih En Eo=>AVe AWx rfl Ad (λh' hb=>ATw Eo hb.ext) (AGq ?_);obtain ⟨Ii,Ck,Ep⟩:=AGu Em;refine AU7 (m:=Ag) AV5 rfl (Aa.o2 p2) En Aj rfl Ck λIj Er=>?_;obtain ⟨Ik,Cm,Es⟩:=(Aa.o2 p2).cells Er Aj Ck;refine Akr (c:=cZ) AUj rfl Cm Ad (λh' hb j u hu=>ATw (Es j u hu) hb.ext) (AGq<|AGq<|AUy AU3 rfl (Aa.o2 p2) rfl Ac λIl Im Io Et Eu=>AVe AWx rfl Ad (λh' hb=>ATw Eu hb.ext) (AGq ?_));obtain ⟨Ip,Aq,Ev⟩:=AGu Ep;refine AU7 (m:=Ap) AV5 rfl (Aa.o2 p2) Et Ac rfl Aq λIq Ew=>?_;obtain ⟨Ir,Cn,Ey⟩:=(Aa.o2 p2).cells Ew Ac Aq;refine Akr (c:=cZ) AUj rfl Cn Ad (λh' hb j u hu=>ATw (Ey j u hu) hb.ext) ?_;have Be:=(Aa.az<|cZ.upT Cm Ad).az (cZ.upT Cn Ad);obtain ⟨Is,Ez,Fa⟩:=AGu Ev;refine AYh Be Ad (Aiq (Be.z p1).2 (Be.z p0).2 Ez) λIt Iu Iv Fb Af=>AGq<|AGq<|AUy AU3 rfl (Aa.o2 p2) rfl Ac λIw Ix Iy Fc Fd=>AVe AWx rfl Af (λh' hb=>ATw Fd hb.ext) (AGq ?_);obtain ⟨Iz,Co,Fe⟩:=AGu Fa;refine AU7 (m:=Ap) AV5 rfl (Aa.o2 p2) Fc Ac rfl Co λI0 Ff=>?_;obtain ⟨I1,Cp,Fg⟩:=(Aa.o2 p2).cells Ff Ac Co;refine Akr (c:=cZ) AUj rfl Cp Af (λh' hb j u hu=>ATw (Fg j u hu) hb.ext) (AGq<|AGq<|AUy AU3 rfl (Aa.o2 p2) rfl Aj λI2 I3 I6 Fh Fi=>AVe AWx rfl Af (λh' hb=>ATw Fi hb.ext) (AGq ?_));obtain ⟨I7,Cq,Fj⟩:=AGu Fe;refine AU7 (m:=Ag) AV5 rfl (Aa.o2 p2) Fh Aj rfl Cq λI9 Fk=>?_;obtain ⟨Ja,Cr,Fl⟩:=(Aa.o2 p2).cells Fk Aj Cq;refine Akr (c:=cZ) AUj rfl Cr Af (λh' hb j u hu=>ATw (Fl j u hu) hb.ext) ?_;have Bf:=(Fb.az<|cZ.upT Cp Af).az (cZ.upT Cr Af);obtain ⟨Jc,Fm,Fo⟩:=AGu Fj;refine AYh Bf Af (Aiq (Bf.z p1).2 (Bf.z p0).2 Fm) λJe Jf Jg Bg Fp=>?_;obtain ⟨Jh,Fq,Ft⟩:=AGu Fo;refine AYh Bg Fp (BCl (Bg.z p3).2 (Bg.z p0).2 Fq) λJi Jj Jk Ar Ct=>Ag6 (Ar.z p8) Ct (Aa.b p0) ?_;obtain ⟨Jl,Fu,Fv⟩:=AGu Ft;refine AYh Ar Ct (Aaq (Ar.z p0).2 (Ar.z p8).2 Fu) λJm Jn Jo Ak Jp=>AU7 (m:=Ap) AV5 rfl (Aa.o2 p2) Ek Ac rfl Aq λJq Fw=>AYs (m:=Ap) (Aj9 AUj (cZ.klen<|Ak.z p0) rfl rfl (cZ.one<|Ak.z p0)) (Ak.o2 p10) Fw Ac Aq (Ak.z p0) λJr Fx Fy=>ATr<|q_b<|q_t<|ATc<|AGq<|ATp rfl rfl (AG1 ?_);exact ⟨(_,_,_,_,_),(AGs Fv).symm,(Ak.uO2 p10 Fy Fx).sel [8,9,10,11] AGr,rfl,trivial⟩
     ·refine ATk<|ATl<|ATl<|AUi<|q_b<|q_t<|ATc<|AGq<|ATp rfl rfl (AG1 ?_);exact ⟨(_,_,_,_,_),(AGs<|Ei _ (AGs<|AUa Bb Bc).symm).symm,Aa,rfl,trivial⟩
    ·refine ATk<|ATl<|ATl<|AUi<|q_t<|ATc<|AGq<|AGq ?_;obtain ⟨Js,Bh,Fz⟩:=AGu<|Eh _ (AGs<|AUa A8 A9).symm;refine AUs AU3 AWx (Ai.o2 p2) Bh λ_ Jt F4=>AGq ?_;obtain ⟨F5,Cu,F6⟩:=AGu Fz;refine AU7 (m:=Ag) AV5 rfl (Ai.o2 p2) F4 Bh rfl Cu λJu F7=>?_;obtain ⟨F8,F9,Ga⟩:=(Ai.o2 p2).cells F7 Bh Cu;have Au:=Ai.az F9;refine Agm (c:=cZ) AUj rfl (Au.z p0) (λj u hu=>(Ga j u hu)) (AYu Au p1 (Au.z p2) (Au.z p0) λJv Gb=>ATr<|q_b<|q_t ?_);exact ⟨((Eb,Cg,Ch,Ci,Cj,F5,F8):(Bool) × (LiI) × LnA × LnN × LvA × (Int) × LvA),⟨AGs F6,Gb.sel [1,0,3,4] AGr⟩,rfl,trivial⟩
  rintro ⟨Jw,Jx,Jy,Jz,J0,J1,J2⟩ J3 J4 ⟨Gc,Gd⟩;subst Gc;refine ATc<|AGq<|ATp rfl rfl (AG1 ?_);exact ⟨(_,_,_,_,_,_,_,_),(AGs Bx).symm,Gd,rfl,rfl,trivial⟩
 ·refine ATk<|ATl<|ATl<|AUi<|q_t<|AGv<|AGt<|AGq<|AGw ?_;have Cv:=Bw _ (AGs<|AUa Ax Ay).symm;refine ⟨_,rfl,λBi=>?_,λBi=>?_⟩
  ·refine AGt<|Adh (Ab.z p1) (Ab.b p0) ?_;obtain ⟨J5,Ge,Gf⟩:=AGu<|ifT Cv Bi;refine Ag5 Ab (Avz (Ab.z p1).2 Ge) λJ6 Gg J7 Cw=>AYu Cw p4 (ATi Gg) (Cw.z p0) λJ8 Av=>AGw<|AG6<|ATj ?_;obtain rfl:=AGs Gf;exact ⟨_,AVn AUj (cZ.klen<|Av.z p0) rfl (Av.b p4),Av.x,_,rfl,(Av.z p0).2⟩
  ·refine AG5<|q_t<|AGt<|Adh (Ab.z p1) (Ab.b p0)<|AYu Ab p3 (ATi Dc) (Ab.z p1) λJ9 Aw=>AGw<|AG6 ?_;obtain rfl:=AGs<|Abh Cv Bi;exact ⟨_,AVn AUj (cZ.klen<|Aw.z p1) rfl (Aw.b p3),Aw.x,_,rfl,(Aw.z p1).2⟩
end Go.Proofs.YtkakafabeobahaaGreatDoor
open Go
variable {a3:Go.Proofs.YtkakafabeobahaaGreatDoor.LiI}
namespace Go.Proofs.YtkakafabeobahaaGreatDoor
open Go Go.QF
set_option maxRecDepth 100000
theorem A6d {m:Nat} {z:Int} (h:z=sgn na m):AYp z=1->z=m:=by
 cases na
 ·intro _;rw [h];rfl
 ·intro h1;rw [h] at h1 ⊢;unfold AYp sgn at h1;unfold sgn;simp at h1 ⊢;split at h1 <;> (try split at h1) <;> omega
theorem A6e {m:Nat} {z:Int} (h:z=sgn na m):AYp z= -1->z= -(m:Int):=by
 cases na
 ·intro h1;rw [h] at h1 ⊢;unfold AYp sgn at h1;unfold sgn;simp at h1 ⊢;split at h1 <;> (try split at h1) <;> omega
 ·intro _;rw [h];rfl
def Ala (a b:Int):Int:=if a < b then -1 else if a=b then 0 else 1
theorem A0c {a b:Int} (h:AYp a≠AYp b) (h2:AYp a < AYp b):Ala a b= -1:=by
 unfold AYp at h h2;unfold Ala;repeat' split at h2
 all_goals (rw [if_pos AGp])
theorem A0d {a b:Int} (h:AYp a≠AYp b) (h2: ¬ AYp a < AYp b):Ala a b=1:=by
 unfold AYp at h h2;unfold Ala
 rw [if_neg (by
  repeat' split at h2
  all_goals (repeat' split at h)
  all_goals omega),if_neg (by
   repeat' split at h2
   all_goals (repeat' split at h)
   all_goals omega)]
theorem Av1 {nb:Bool} {m:Nat} {a b:Int} (ha:a=sgn na m) (hb:b=sgn nb k) (h:AYp a=AYp b):AYp a * Af2 m k=Ala a b:=by
 have h3:AYp a= -1∨AYp a=0∨AYp a=1:=by unfold AYp;split;exact .inl rfl;split;exact .inr<|.inl rfl;exact .inr<|.inr rfl
 rcases h3 with h1 | h1 | h1
 ·have e1:=A6e ha h1;have e2:=A6e hb<|h ▸ h1;rw [h1];unfold Af2 Ala;repeat' split
  all_goals omega
 ·have z:∀ x:Int,AYp x=0->x=0:=λx hx=>by unfold AYp at hx;repeat' split at hx;all_goals omega
  have e1:=z a h1;have e2:=z b<|h ▸ h1;rw [h1,e1,e2];simp [Ala]
 ·have e1:=A6d ha h1;have e2:=A6d hb<|h ▸ h1;rw [h1];unfold Af2 Ala;repeat' split
  all_goals omega
theorem A9u (a b:Nat): -1<=Af2 a b/\Af2 a b<=1:=by
 unfold Af2;repeat' split;all_goals omega
theorem A9v (a:Int): -1<=AYp a/\AYp a<=1:=by
 unfold AYp;repeat' split;all_goals omega
theorem A9w {y:Int} (hx: -1<=x/\x<=1) (hy: -1<=y/\y<=1):IntKind.i64.wrap (x * y)=x * y:=by
 obtain ⟨x1,x2⟩:=hx;obtain ⟨y1,y2⟩:=hy;have Aa:x= -1∨x=0∨x=1:=by omega
 have Ab:y= -1∨y=0∨y=1:=by omega
 rcases Aa with rfl | rfl | rfl <;> rcases Ab with rfl | rfl | rfl <;> decide
theorem A9x {lo:Nat} {va:Value} {z:Int} (HA:ZV h lo va z):AT3 Tryz.prog 177 #[va] h λx h'=>Ext h h'/\ZV h' (Array.size h) x (z.natAbs:Int):=by
 obtain ⟨na,sa,LA,rfl,HDa,htla,hla,hza⟩:=HA.out;have hna:LA.length<=1000000:=by omega
 have hba:nv LA < 4294967296 ^ 100:=Nat.lt_of_lt_of_le (Afu HDa.dig)<|Nat.pow_le_pow_right AGr hla;refine AUc (l:=[_]) mx Tryz.func177 rfl rfl rfl rfl rfl AG3 (AGt<|Ab7 [.bool na,sa] (λ_=>trivial) rfl rfl λAg h2 V3 E4 Ao Be=>?_);have Bf:Array.size h<=Ag:=Ao;have Bg:=E4.1;have Z8:=(Ext.refl h).trans E4;refine AY8 [.bool false,.slice none 0 0] AXy rfl (λ_=>trivial) λAa Bh Aq Ab Ar Bi=>?_;have Bj:Array.size h<=Aa:=Nat.le_trans E4.1 Ar;have nebq1bq9:Ag≠Aa:=by have:=V3.lt;omega
 have Bl:=Ab.1;have Au:=Z8.trans Ab;have Ai:=E4.trans Ab;have Av:=E4.trans Ab;refine AZ4<|AYe (fs:=1) Aej AG3 AGr rfl (AT1 Aaa rfl ((V3.ext Ab).cell (i:=1) rfl) (ATm trivial rfl (Afa false (HDa.ext Ai) hna hba) λBm Bn hk=>?_));obtain ⟨Ac,Aw⟩:=hk;refine ⟨trivial,?_⟩;have Bo:=Ac.1;have Ax:=Au.trans Ac;have Ay:=Ai.trans Ac;have Az:=Av.trans Ac;have A3:=Aq.ext Ac;have A4:=Ab.trans Ac;obtain ⟨Aj,s3,L3,rfl,Am,A6,A7,A8⟩:=Aw.out;refine AVf [.bool Aj,s3] AUj rfl rfl rfl rfl (Ab4 Am.cap) A3 λBp A9 Ad=>?_;have Ba:=Ay.thenUpd Ad (λk hk=>by have Af:k=Aa:=hk;omega);have Bq:=Ad.1;have Br:=Ax.thenUpd Ad (λk hk=>by have Af:k=Aa:=hk;omega);have Bt:=A4.thenUpd Ad (λk hk=>by have Af:k=Aa:=hk;omega);have Bu:=Az.thenUpd Ad (λk hk=>by have Af:k=Aa:=hk;omega);have Bb:=Am.updLo Ad AGp;refine AGw<|AG6<|⟨_,AVn AUj rfl rfl A9,?_⟩;exact ⟨Ba,⟨Aj,s3,L3,rfl,Bb.mono AGp,A6,A7,by rw [<- A8,AX0 hza];rfl⟩⟩
theorem A9y {la lb:Nat} {va vb:Value} {a b:Int} (HA:ZV h la va a) (HB:ZV h lb vb b):AT3 Tryz.prog 120 #[va,vb] h λx h'=>Ext h h'/\x= .int .i64 (Ala a b):=by
 obtain ⟨na,sa,LA,rfl,HDa,htla,hla,hza⟩:=HA.out;obtain ⟨nb,sb,LB,rfl,HDb,htlb,hlb,hzb⟩:=HB.out;refine AUc (l:=[_,_]) mx Tryz.func120 rfl rfl rfl rfl rfl AG3 (AGt<|Ab7 [.bool na,sa] (λ_=>trivial) rfl rfl λAq h2 V3 E4 A7 B5=>?_);have B6:Array.size h<=Aq:=A7;have B7:=E4.1;have Z8:=(Ext.refl h).trans E4;refine Ab7 [.bool nb,sb] (λ_=>trivial) rfl rfl λAu Av Aw Ag A9 B8=>?_;have B9:Array.size h<=Au:=Nat.le_trans E4.1 A9;have nebq1bq9:Aq≠Au:=by have:=V3.lt;omega
 have Ca:=Ag.1;have Ba:=Z8.trans Ag;have Ax:=E4.trans Ag;have Ay:=V3.ext Ag;have Bb:=E4.trans Ag;refine AG1<|AGv<|AVl (λh'=>Ext Av h') AG3 ?_;have Af:=Ext.refl Av;refine Abj [.bool na,sa] AUj rfl rfl Af (λh' hb=>(Ay.ext hb).agg) (ATm Af rfl (Anl<|HA.ext Ax) λCb Cd hk=>?_);obtain ⟨Ab,rfl⟩:=hk;have Ai:=Af.trans Ab;refine ⟨Ai,?_⟩;have Ce:=Ab.1;have Bc:=Ba.trans Ab;have Az:=Ax.trans Ab;have Be:=Ay.ext Ab;have Bf:=Bb.trans Ab;have Bg:=Aw.ext Ab;have Bh:=Ag.trans Ab;refine Abj [.bool nb,sb] AUj rfl rfl Ai (λh' hb=>(Aw.ext hb).agg) (ATm Ai rfl (Anl<|HB.ext Az) λCf A3 hk=>?_);obtain ⟨Ac,rfl⟩:=hk;have Bi:=Ai.trans Ac;refine ⟨Bi,?_⟩;have Cg:=Ac.1;have Bj:=Bc.trans Ac;have Ad:=Az.trans Ac;have A4:=Be.ext Ac;have Bl:=Bf.trans Ac;have A5:=Bg.ext Ac;have Bm:=Bh.trans Ac;refine ATu<|AG1<|AGv<|AGt<|AGq<|AGq<|Axg rfl rfl (λBn=>?_) (λBn=>?_)
 ·refine AGw<|ATv rfl (AGv<|AGt<|AGq<|AGq<|AXi rfl rfl (λBo=>?_) (λBo=>?_))
  ·refine AGw<|ATv rfl (AGt<|AG1<|AG6<|ATj<|ATj<|⟨_,AS9,?_⟩);first | exact ⟨Ad,congrArg (Value.int .i64) (by rw [Ak,Am];exact Av1 hza hzb AGp)⟩ | exact ⟨Ad,congrArg (Value.int .i64) (A0c (by assumption)<|by assumption).symm⟩ | exact ⟨Ad,congrArg (Value.int .i64) (A0d (by assumption) AGp).symm⟩
  ·refine AGw<|ATy rfl (AG5<|q_t<|AGt<|AG1<|AG6<|ATj<|⟨_,AS9,?_⟩);first | exact ⟨Ad,congrArg (Value.int .i64) (by rw [Ak,Am];exact Av1 hza hzb AGp)⟩ | exact ⟨Ad,congrArg (Value.int .i64) (A0c (by assumption)<|by assumption).symm⟩ | exact ⟨Ad,congrArg (Value.int .i64) (A0d (by assumption) AGp).symm⟩
 ·refine AGw<|ATy rfl (AG5<|q_t<|AGv<|AVl (λh'=>Ext A3 h') AG3 ?_);have Af:=Ext.refl A3;refine AGq<|AYe (fs:=1) Aej AG3 AGr rfl (AVe Aaa rfl Af (λh' hb=>(A4.ext hb).cell (i:=1) rfl) (ATm Af rfl (Abl (DS.ext HDa Ad) AGp) λCh Ci hk=>?_));obtain ⟨Ae,L1,Bp,Bq,Ak,Ck⟩:=hk;have Aj:=Af.trans Ae;refine ⟨Aj,?_⟩;have Cm:=Ae.1;have Br:=Bj.trans Ae;have A6:=Ad.trans Ae;have Bt:=A4.ext Ae;have Bu:=Bl.trans Ae;have Bv:=A5.ext Ae;have Bw:=Bm.trans Ae;refine AYe (fs:=1) Aej AG3 AGr rfl (AVe Aaa rfl Aj (λh' hb=>(A5.ext hb).cell (i:=1) rfl) (ATm Aj rfl (Abl (DS.ext HDb A6) AGp) λCn Bx hk=>?_));obtain ⟨Aa,L2,By,Bz,Am,Cp⟩:=hk;have Ao:=Aj.trans Aa;refine ⟨Ao,?_⟩;have Cq:=Aa.1;have Cr:=Br.trans Aa;have Ap:=A6.trans Aa;have Ct:=Bt.ext Aa;have Cu:=Bu.trans Aa;have Cv:=Bv.ext Aa;have Cw:=Bw.trans Aa;have B3:=Bp.ext Aa;refine ATm Ao rfl (Aro B3 By Bq Bz AGp AGp) λCx Bx hk=>?_;obtain ⟨rfl,rfl⟩:=hk;refine ⟨Ao,?_⟩;refine Aai rfl rfl ?_;rw [A9w (A9v _)<|A9u _ _];refine AG1<|AG6<|⟨_,AS9,?_⟩;first | exact ⟨Ap,congrArg (Value.int .i64) (by rw [Ak,Am];exact Av1 hza hzb AGp)⟩ | exact ⟨Ap,congrArg (Value.int .i64) (A0c (by assumption)<|by assumption).symm⟩ | exact ⟨Ap,congrArg (Value.int .i64) (A0d (by assumption) AGp).symm⟩
def A1u (fuel:Nat) (a:Int):Option Int:=some (a.natAbs:Int)
def Aun (fuel:Nat) (a b:Int):Option Int:=some<|Ala a b
theorem A0e {u:Value} {a r:Int} (H1:ZZ h u a) (hp:A1u fuel a=some r):AT3 Tryz.prog 177 #[u] h (λx h'=>Ext h h'/\ ∃ (x0:Value),x=x0/\ZZ h' x0 r):=by
 cases hp;exact (A9x H1).mono λx h' hk=>⟨hk.1,x,rfl,hk.2.zz⟩
theorem Asz {u v:Value} {a b r:Int} (H1:ZZ h u a) (H2:ZZ h v b) (hp:Aun fuel a b=some r):AT3 Tryz.prog 120 #[u,v] h (λx h'=>Ext h h'/\x= .int .i64 r):=by
 cases hp;exact A9y H1 H2
end Go.Proofs.YtkakafabeobahaaGreatDoor
namespace Go.Proofs.YtkakafabeobahaaGreatDoor
open Go Go.QF
set_option maxRecDepth 100000
set_option maxHeartbeats 40000000
def Aca (fuel:Nat) (a3:LiI) (Ab:Int) (Af:LiA) (Aa:Int) (Ac:LiI):Option ((Int × LiI) ⊕ ((LiI × Bool) ⊕ LiI)):=
 if Aa < (Af.length:Int) then (gI a3 Ab).bind λAg=>(gI Ag Aa).bind λAh=>(Avy fuel Ah).bind λ(Ai,Aj)=>if (!Aj)=true then some (.inr<|.inl ([],false)) else (gI Ac Ab).bind λAd=>(gI Ad Aa).bind λAk=>some (.inl (w64<|Aa + 1,sI Ac Ab<|sI Ad Aa Ai)) else some<|.inr<|.inr Ac
def Acb (fuel:Nat) (a3:LiI) (x5 x6 Aa:Int) (Ac:LiI):Option ((Int × LiI) ⊕ ((LiI × Bool) ⊕ LiI)):=
 if Aa < ((List.replicate (Int.toNat x5) ([]:List Int)).length:Int) then if 0<=x6/\x6<=100000000 then (gI Ac Aa).bind λAi=>(gI (sI Ac Aa<|List.replicate (Int.toNat x6) (0:Int)) Aa).bind λAf=>(iter (λs=>Aca fuel a3 Aa Af s.1 s.2) fuel (0,sI Ac Aa<|List.replicate (Int.toNat x6) (0:Int))).bind (λex=>match ex with | .inl Ag=>(some<|.inr<|.inl Ag) | .inr Ah=>some<|.inl (w64<|Aa + 1,Ah)) else none else some<|.inr<|.inr Ac
def AYv (fuel:Nat) (a3:LiI):Option (LiI × Bool):=
 (AVx fuel a3).bind λ(x5,x6,x7)=>if (!x7)=true then some ([],false) else if 0<=x5/\x5<=100000000 then (iter (λs=>Acb fuel a3 x5 x6 s.1 s.2) fuel (0,List.replicate (Int.toNat x5) ([]:List Int))).bind (λex=>match ex with | .inl Ae=>(some Ae) | .inr Af=>some (Af,true)) else none
theorem Aj2 {Aw:Value} {r:(LiI × Bool)} (H2:AX8 cZ h Aw a3) (hp:AYv fuel a3=some r):AT3 Tryz.prog 69 #[Aw] h (λx h'=>Ext h h'/\ ∃ (x0:Value) (F0:List Nat) (Bg:List LnA) (Bh:List Value),x= .tuple #[x0,.bool r.2]/\AV3 (cI .i64) 61 2 h' F0 Bg Bh x0 r.1/\Sp h' h.size [F0]):=by
 unfold AYv at hp;refine cwf (l:=[_]) Tryz.func69 rfl rfl (AGt<|ATu<|AT7<|AGq ?_);have K0:=Kst.k0 h;obtain ⟨⟨x5,x6,x7⟩,Bl,Ae⟩:=AGu hp;dsimp only at Ae;refine AYn K0 (AZr (H2.ext K0.x) Bl) λCv Cw A5=>AGq<|AUh rfl rfl (AUh rfl rfl (AUh rfl rfl (ATu<|ATu<|AG1<|AGv<|AGt<|AGq<|AW0 rfl (AGw<|⟨_,rfl,λAf=>?_,λAf=>?_⟩))))
 ·refine AGt<|ATu<|AG1<|AG6<|ATj ?_;have Ag:=Kst.anil2 (cI .i64) 61 2 A5;obtain rfl:=AGs<|ifT Ae Af;exact ⟨_,AU0,Ag.x,_,_,_,_,rfl,(Ag.o2 p0),Ag.s.sel [0] AGr⟩
 ·refine AG5<|q_t<|AGt<|AGq ?_;obtain ⟨Bm,Bn⟩:=ifN<|Abh Ae Af;refine Ajk (cI .i64) 2 ATg Ae8 rfl trivial tt2 rfl rfl AGr Bm λBo Bp Bq A6 Cx Br Bt Bu=>AG1<|AGv<|AGt<|AGq ?_;have Ah:=A5.no2 Bt Bu Br;refine AUb ATg rfl (Ah.o2 p0).rd (AGq<|AGw<|AGx<|AYo 4611686018410614540 (λx:(Int) × (LiI) × LnA × LnN × LvA=>(x.1,x.2.1)) ((0,(List.replicate (Int.toNat x5) ([]:List Int)),Bo,Bp,Bq):(Int) × (LiI) × LnA × LnN × LvA) Bn (λx=>[(24,(.int .i64 x.1))]) (λx=>Ah.L.set 0<|aO2 (cI .i64) 61 2 x.2.2.1 x.2.2.2.1 x.2.2.2.2 A6 x.2.1) Ah ⟨rfl,trivial⟩ ?_);rintro ⟨Ab,Bv,Cy,A7,Bw⟩ Cz C0 C1 Ad Ai A8;unfold Acb at Ai;refine AGt<|ATz rfl rfl (AGw<|AGv<|⟨_,rfl,λAj=>?_,λAj=>?_⟩)
  ·refine AG5<|q_t<|AGv<|AGx<|AGt<|AGq<|AT7<|AGq<|AGq<|AGq ?_;obtain ⟨Bx,By⟩:=ifN<|AT9 Ai Aj;refine Aip (c:=(cI .i64)) (a:=0) ATe Acs rfl rfl (λ_=>rfl) rfl trivial tt2 rfl rfl AGr Bx λA9 Bz C2 B3 B4 B5 B6=>?_;have Ac:=Ad.no B4 (AX4 B5 B6) B3;obtain ⟨C3,Ba,B7⟩:=AGu By;refine AUy ATg rfl (Ac.o2 p1) rfl Ba λB8 C4 B9 C5 C6=>Ajj ATq (Ac.o2 p1) Ba B9 rfl rfl (Ac.o p0) (Ac.dj p0 p1 AGr) λC7 Ca Cb Cd=>AZ4<|AGq<|AGq ?_;have Ak:=Ac.m2 p0 p1 AGr Cb Ca λz hz=> .inl<|Cd z hz;obtain ⟨C8,Bb,Ce⟩:=AGu B7;refine AUs ATg ATq (Ak.o2 p1) Bb λ_ C9 Cf=>AUu ATe rfl ((Ak.o2 p1).rowI Cf Bb) (AGq<|AGw<|AGx ?_);have Am:=Ak.sel [1] AGr;dsimp only [AY6,Acl] at Am;refine AYo 2305842871774744076 (λx:(Int) × (LiI) × LnA × LnN × LvA=>(x.1,x.2.1)) ((0,(sI Bv Ab<|List.replicate (Int.toNat x6) (0:Int)),(B8 :: (A7.set (Int.toNat Ab) [A9]).flatten),(A7.set (Int.toNat Ab) [A9]),(Bw.set (Int.toNat Ab) Bz)):(Int) × (LiI) × LnA × LnN × LvA) Ce (λx=>[(37,(.int .i64 x.1))]) (λx=>Am.L.set 0<|aO2 (cI .i64) 61 2 x.2.2.1 x.2.2.2.1 x.2.2.2.2 A6 x.2.1) Am ⟨rfl,trivial⟩ ?_;rintro ⟨Da,Db,Dc,Dd,De⟩ Df Dg Dh Aa Ao Bc;unfold Aca at Ao;refine AGt<|ATz rfl rfl (AGw<|AGv<|⟨_,rfl,λAp=>?_,λAp=>?_⟩)
   ·refine AG5<|q_t<|AGv<|AGx<|AGt<|AGq<|AT7<|AGq<|AGq ?_;obtain ⟨Di,Cg,Ch⟩:=AGu<|AT9 Ao Ap;refine Ad3 AU3 AWx H2 Aa.x Cg λ_ Dj Ci=>AGq ?_;obtain ⟨Dk,Cj,Ck⟩:=AGu Ch;refine Ack (c:=cZ) AV5 rfl Ci rfl Cj λDl Do Dp Be Cm=>Agm (c:=cZ) AUj rfl (Aa.zx Be) (λj u hu=>(ATw (Cm j u hu) Aa.x)) ?_;obtain ⟨⟨Dq,Dr⟩,Cn,Aq⟩:=AGu Ck;dsimp only at Aq;refine AYn Aa (A52 (Aa.zx Be).2 Cn) λDs Dt Ar=>AGq<|AUh rfl rfl (AUh rfl rfl (ATu<|AG1<|AGv<|AGt<|AGq<|AW0 rfl (AGw<|⟨_,rfl,λAu=>?_,λAu=>?_⟩)))
    ·refine AGt<|ATu<|AG1<|AG6<|ATj<|AUp<|ATj<|ATj<|AUp<|AUp<|ATj<|ATj<|AUp<|ATj ?_;have Av:=Kst.anil2 (cI .i64) 61 2 Ar;obtain rfl:=AGs<|A8 _ (AGs<|Bc _ (AGs<|ifT Aq Au).symm).symm;exact ⟨_,AU0,Av.x,_,_,_,_,rfl,(Av.o2 p0),Av.s.sel [0] AGr⟩
    ·refine AG5<|q_t<|ATc<|AGq<|AGq ?_;obtain ⟨Du,Bf,Co⟩:=AGu<|Abh Aq Au;refine AUs ATg ATq (Ar.o2 p0) Bf λ_ Dv Cp=>AGq<|AGq ?_;obtain ⟨Dw,Cq,Cr⟩:=AGu Co;refine AZ7 (m:=Ab) Ar p0 ATe ATh Cp Bf Cq (λ_=>rfl) λ_ Dx Ct=>ATr<|q_b<|q_t<|ATc<|ATp rfl rfl (AGq<|AGw ?_);exact ⟨(_,_,_,_,_),(AGs Cr).symm,Ct,rfl,trivial⟩
   ·refine ATk<|ATl<|ATl<|AUi<|q_b<|q_t<|ATc<|ATp rfl rfl (AGq<|AGw ?_);exact ⟨(_,_,_,_,_),(AGs<|Bc _ (AGs<|AUa Ao Ap).symm).symm,Aa,rfl,trivial⟩
  ·refine ATk<|ATl<|ATl<|AUi<|q_t<|AGt<|AGq<|ATu<|AG1<|AG6 ?_;obtain rfl:=AGs<|A8 _ (AGs<|AUa Ai Aj).symm;exact ⟨_,AU0,Ad.x,_,_,_,_,rfl,(Ad.o2 p0),Ad.s.sel [0] AGr⟩
def Aau (fuel:Nat) (Ad:LiI) (Aa:Int) (Ab:LiI):Option ((Int × LiI) ⊕ LiI):=
 if Aa < (Ad.length:Int) then (gI Ab Aa).bind λAc=>(Aev fuel 1).bind λAe=>(gI Ac Aa).bind λAf=>some (.inl (w64<|Aa + 1,sI Ab Aa<|sI Ac Aa Ae)) else some<|.inr Ab
def AWt (fuel:Nat) (a1:Int):Option (LiI × Bool):=
 ((if a1 < 1 then some (.inl ([],false)) else if 16 < a1 then some (.inl ([],false)) else some<|.inr ()):Option ((LiI × Bool) ⊕ Unit)).bind (λex=>match ex with | .inl Ac=>(some Ac) | .inr _=>(AWh fuel a1 a1).bind λAb=>(iter (λs=>Aau fuel Ab s.1 s.2) fuel (0,Ab)).bind (λ(Ad:LiI)=>some (Ad,true)))
theorem Aex {r:(LiI × Bool)} (hp:AWt fuel a1=some r):AT3 Tryz.prog 67 #[(.int .i64 a1)] h (λx h'=>Ext h h'/\ ∃ (x0:Value) (F0:List Nat) (Az:List LnA) (A3:List Value),x= .tuple #[x0,.bool r.2]/\AV3 cZ 146 129 h' F0 Az A3 x0 r.1/\Sp h' h.size [F0]):=by
 unfold AWt at hp;refine cwf (l:=[_]) Tryz.func67 rfl rfl (AGt<|ATu<|AG1 ?_);have K0:=Kst.k0 h;obtain ⟨A4,Au,Af⟩:=AGu hp;refine Ae6 4044 (λx:Unit=>[]) (λx h'=>(Sum.inr <| ())=A4/\Kst h h' (K0.L)) ?_ ?_
 ·refine AGt<|AGq<|ATz rfl rfl (AGq ?_);by_cases Ad:a1 < 1
  ·rw [decide_eq_true Ad];refine Ab3 8 true<|ATn rfl (AGw<|ATv rfl (AGt<|ATu<|AG1 ?_));obtain rfl:=AGs<|ifT Au Ad;refine AG6<|ATj ?_;have Ag:=Kst.anil2 cZ 146 129 K0;obtain rfl:=AGs Af;exact ⟨_,AU0,Ag.x,_,_,_,_,rfl,(Ag.o2 p0),Ag.s.sel [0] AGr⟩
  ·have Av:=ifF Au Ad;rw [decide_eq_false Ad];refine ATt 8 false<|AGq<|ATt 8 false<|AZv rfl rfl (ATx rfl (AGw<|⟨_,rfl,λAh=>?_,λAh=>?_⟩))
   ·refine AGt<|ATu<|AG1 ?_;obtain rfl:=AGs<|AT9 Av Ah;refine AG6<|ATj ?_;have Ai:=Kst.anil2 cZ 146 129 K0;obtain rfl:=AGs Af;exact ⟨_,AU0,Ai.x,_,_,_,_,rfl,(Ai.o2 p0),Ai.s.sel [0] AGr⟩
   ·refine AG5<|q_t ?_;exact ⟨(():Unit),⟨AGs<|AUa Av Ah,K0⟩,trivial⟩
 rintro ⟨⟩ Bq Br ⟨A5,A6⟩;subst A5;refine AGt<|AGq<|AGq ?_;obtain ⟨A7,A8,A9⟩:=AGu Af;refine Ahr A6 (AZ8 A8) λBa Bb Bc Be Bt Bu Aj=>AG1<|AGv<|AGt<|AGq<|AUb AU3 rfl (Aj.o2 p0).rd (AGq<|AGw<|AGx<|AYo 268304416 (λx:(Int) × (LiI) × LnA × LnN × LvA=>(x.1,x.2.1)) ((0,A7,Ba,Bb,Bc):(Int) × (LiI) × LnA × LnN × LvA) A9 (λx=>[(17,(.int .i64 x.1))]) (λx=>Aj.L.set 0<|aO2 cZ 146 129 x.2.2.1 x.2.2.2.1 x.2.2.2.2 Be x.2.1) Aj ⟨rfl,trivial⟩ ?_);rintro ⟨Aw,Bv,Bw,Bx,By⟩ Bz Ak B3 Aa Am Bf;unfold Aau at Am;refine AGt<|ATz rfl rfl (AGw<|AGv<|⟨_,rfl,λAo=>?_,λAo=>?_⟩)
 ·refine AG5<|q_t<|AGv<|AGx<|AGt<|AGq<|AG1<|AVl (λh'=>UpT [] Ak h') AG3 ?_;have Ax:UpT [] Ak Ak:=UpT.start all_nil;refine AGq<|AGq ?_;obtain ⟨B4,Ap,Bg⟩:=AGu<|AT9 Am Ao;refine AUy AU3 rfl (Aa.o2 p0) rfl Ap λB5 B6 B7 Bh Bi=>AVe AWx rfl Ax (λh' hb=>ATw Bi hb.ext) (AGq ?_);obtain ⟨B8,Bj,Bl⟩:=AGu Bg;refine AYh Aa Ax (Adg Bj) λB9 Ca Cb Ab Cd=>?_;obtain ⟨Ce,Ay,Bm⟩:=AGu Bl;refine AU7 (m:=Aw) AV5 rfl (Aa.o2 p0) Bh Ap rfl Ay λCf Bn=>AYs (m:=Aw) (Aj9 AUj (cZ.klen<|Ab.z p0) rfl rfl (cZ.one<|Ab.z p0)) (Ab.o2 p1) Bn Ap Ay (Ab.z p0) λCg Bo Bp=>ATr<|q_b<|q_t<|ATc<|ATp rfl rfl (AGq<|AGw ?_);exact ⟨(_,_,_,_,_),(AGs Bm).symm,(Ab.uO2 p1 Bp Bo).sel [1] AGr,rfl,trivial⟩
 ·refine ATk<|ATl<|ATl<|AUi<|q_t<|AGt<|AGq<|ATu<|AG1<|AG6 ?_;obtain rfl:=AGs<|Bf _ (AGs<|AUa Am Ao).symm;exact ⟨_,AU0,Aa.x,_,_,_,_,rfl,(Aa.o2 p0),Aa.s.sel [0] AGr⟩
def Aab (fuel:Nat) (a3:LiI) (Ab:Int) (Af:LiA) (Aa:Int) (Ac:LiI):Option ((Int × LiI) ⊕ LiI):=
 if Aa < (Af.length:Int) then (gI Ac Aa).bind λAd=>(gI a3 Ab).bind λAg=>(gI Ag Aa).bind λAh=>(Akd fuel Ah).bind λAi=>(gI Ad Ab).bind λAj=>some (.inl (w64<|Aa + 1,sI Ac Aa<|sI Ad Ab Ai)) else some<|.inr Ac
def Aac (fuel:Nat) (a3:LiI) (Aa:Int) (Ac:LiI):Option ((Int × LiI) ⊕ LiI):=
 if Aa < (a3.length:Int) then (gI a3 Aa).bind λAd=>(iter (λs=>Aab fuel a3 Aa Ad s.1 s.2) fuel (0,Ac)).bind (λ(Ae:LiI)=>some<|.inl (w64<|Aa + 1,Ae)) else some<|.inr Ac
def AWj (fuel:Nat) (a3:LiI):Option (LiI × Bool):=
 (AVx fuel a3).bind λ(x5,x6,x7)=>if (!x7)=true then some ([],false) else (AWh fuel x6 x5).bind λAe=>(iter (λs=>Aac fuel a3 s.1 s.2) fuel (0,Ae)).bind (λ(Af:LiI)=>some (Af,true))
theorem Aek {r:(LiI × Bool)} (H2:AX8 cZ h Aq a3) (hp:AWj fuel a3=some r):AT3 Tryz.prog 133 #[Aq] h (λx h'=>Ext h h'/\ ∃ (x0:Value) (F0:List Nat) (A6:List LnA) (A7:List Value),x= .tuple #[x0,.bool r.2]/\AV3 cZ 146 129 h' F0 A6 A7 x0 r.1/\Sp h' h.size [F0]):=by
 unfold AWj at hp;refine cwf (l:=[_]) Tryz.func133 rfl rfl (AGt<|ATu<|AT7<|AGq ?_);have K0:=Kst.k0 h;obtain ⟨⟨x5,x6,x7⟩,A8,Af⟩:=AGu hp;dsimp only at Af;refine AYn K0 (AZr (H2.ext K0.x) A8) λCe Cf Ax=>AGq<|AUh rfl rfl (AUh rfl rfl (AUh rfl rfl (ATu<|ATu<|AG1<|AGv<|AGt<|AGq<|AW0 rfl (AGw<|⟨_,rfl,λAg=>?_,λAg=>?_⟩))))
 ·refine AGt<|ATu<|AG1<|AG6<|ATj ?_;have Ah:=Kst.anil2 cZ 146 129 Ax;obtain rfl:=AGs<|ifT Af Ag;exact ⟨_,AU0,Ah.x,_,_,_,_,rfl,(Ah.o2 p0),Ah.s.sel [0] AGr⟩
 ·refine AG5<|q_t<|AGt<|AGq<|AGq ?_;obtain ⟨A9,Ba,Bb⟩:=AGu<|Abh Af Ag;refine Ahr Ax (AZ8 Ba) λBc Be Bf Ay Cg Ch Az=>AG1<|AGv<|AGt<|AGq<|AUb AU3 rfl H2 (AGq<|AGw<|AGx<|AYo 1125899898454784 (λx:(Int) × (LiI) × LnA × LnN × LvA=>(x.1,x.2.1)) ((0,A9,Bc,Be,Bf):(Int) × (LiI) × LnA × LnN × LvA) Bb (λx=>[(23,(.int .i64 x.1))]) (λx=>Az.L.set 0<|aO2 cZ 146 129 x.2.2.1 x.2.2.2.1 x.2.2.2.2 Ay x.2.1) Az ⟨rfl,trivial⟩ ?_);rintro ⟨Ci,Bg,Bh,Bi,Bj⟩ Cj Ck Cm Ab Ai Bl;unfold Aac at Ai;refine AGt<|ATz rfl rfl (AGw<|AGv<|⟨_,rfl,λAj=>?_,λAj=>?_⟩)
  ·refine AG5<|q_t<|AGv<|AGx<|AGt<|AGq<|AT7<|AGq<|AGq ?_;obtain ⟨Cn,Bm,Bn⟩:=AGu<|AT9 Ai Aj;refine Ad3 AU3 AWx H2 Ab.x Bm λ_ Co Bo=>AUu AV5 rfl Bo (AGq<|AGw<|AGx<|AYo 562947805938176 (λx:(Int) × (LiI) × LnA × LnN × LvA=>(x.1,x.2.1)) ((0,Bg,Bh,Bi,Bj):(Int) × (LiI) × LnA × LnN × LvA) Bn (λx=>[(31,(.int .i64 x.1))]) (λx=>Ab.L.set 0<|aO2 cZ 146 129 x.2.2.1 x.2.2.2.1 x.2.2.2.2 Ay x.2.1) Ab ⟨rfl,trivial⟩ ?_);rintro ⟨A3,u64,Cp,Cq,Cr⟩ Ct Ak Cu Aa Am Bp;unfold Aab at Am;refine AGt<|ATz rfl rfl (AGw<|AGv<|⟨_,rfl,λAo=>?_,λAo=>?_⟩)
   ·refine AG5<|q_t<|AGv<|AGx<|AGt<|AGq<|AG1<|AVl (λh'=>UpT [] Ak h') AG3 ?_;have Ae:UpT [] Ak Ak:=UpT.start all_nil;refine AGq<|AGq ?_;obtain ⟨Cv,Ap,Bq⟩:=AGu<|AT9 Am Ao;refine AUy AU3 rfl (Aa.o2 p0) rfl Ap λCw Cx Cy Br Bt=>AVe AWx rfl Ae (λh' hb=>ATw Bt hb.ext) (AGq<|AGq<|AGq ?_);obtain ⟨Cz,Bu,Bv⟩:=AGu Bq;refine Anh AU3 rfl H2 rfl Bu λC0 C1 C2 Bw Bx=>AVe AWx rfl Ae (λh' hb=>ATw Bw<|Aa.x.trans hb.ext) (AGq ?_);obtain ⟨C3,By,Bz⟩:=AGu Bv;refine Ack (c:=cZ) AV5 rfl Bx rfl By λC4 C5 C6 A4 B3=>Akr (c:=cZ) AUj rfl A4 Ae (λh' hb j u hu=>ATw (B3 j u hu)<|Aa.x.trans hb.ext) ?_;obtain ⟨C7,B4,B5⟩:=AGu Bz;refine AYh Aa Ae (Amc (Aa.zx A4).2 B4) λC8 C9 Da Ac Db=>?_;obtain ⟨Dc,A5,B6⟩:=AGu B5;refine AU7 (m:=A3) AV5 rfl (Aa.o2 p0) Br Ap rfl A5 λDd B7=>AYs (m:=A3) (Aj9 AUj (cZ.klen<|Ac.z p0) rfl rfl (cZ.one<|Ac.z p0)) (Ac.o2 p1) B7 Ap A5 (Ac.z p0) λDe B8 B9=>ATr<|q_b<|q_t<|ATc<|ATp rfl rfl (AGq<|AGw ?_);exact ⟨(_,_,_,_,_),(AGs B6).symm,(Ac.uO2 p1 B9 B8).sel [1] AGr,rfl,trivial⟩
   ·refine ATk<|ATl<|ATl<|AUi<|q_b<|q_t<|ATc<|ATp rfl rfl (AGq<|AGw ?_);exact ⟨(_,_,_,_,_),(AGs<|Bp _ (AGs<|AUa Am Ao).symm).symm,Aa,rfl,trivial⟩
  ·refine ATk<|ATl<|ATl<|AUi<|q_t<|AGt<|AGq<|ATu<|AG1<|AG6 ?_;obtain rfl:=AGs<|Bl _ (AGs<|AUa Ai Aj).symm;exact ⟨_,AU0,Ab.x,_,_,_,_,rfl,(Ab.o2 p0),Ab.s.sel [0] AGr⟩
def Ad8 (fuel:Nat) (a3 a7:LiA) (Aa Ac:Int):Option ((Int × Int) ⊕ Int):=
 if Aa < (a3.length:Int) then (gI a3 Aa).bind λAe=>(gI a7 Aa).bind λAf=>(Akc fuel Ae Af).bind λAg=>(A1p fuel Ac Ag).bind λAh=>some (.inl (w64<|Aa + 1,Ah)) else some<|.inr Ac
def Aak (fuel:Nat) (a3 a7:LiA):Option Int:=
 (iter (λs=>Ad8 fuel a3 a7 s.1 s.2) fuel (0,0)).bind (λ(Ac:Int)=>some Ac)
theorem Ame {a3:LiA} {a7:LiA} {r:Int} (H2:SlC cZ h Ai a3) (H6:SlC cZ h Ak a7) (hp:Aak fuel a3 a7=some r):AT3 Tryz.prog 185 #[Ai,Ak] h (λx h'=>Ext h h'/\ ∃ (x0:Value),x=x0/\ZZ h' x0 r):=by
 unfold Aak at hp;refine cwf (l:=[_,_]) Tryz.func185 rfl rfl (AGt<|AV7 (Kst.k0 h) [.bool false,.slice none 0 0] AXy λb9 Bn Bo Ax=>AZ4<|AWr (Ag3 )<|AV7 Ax [.bool false,.slice none 0 0] AXy λAy Aq Bp Az=>AYu Az p0 (ATi Aq) (ATi Aq) λA3 A4=>AGw<|AGv<|AGv ?_);refine ATc<|AGq<|AUu AV5 rfl H2 (AGq<|AGw<|AGx ?_);have Ar:=A4.az<|ATi A3;refine AYo 33553472 (λx:(Int) × (Int) × LvA=>(x.1,x.2.1)) ((0,0,[Value.bool false,Value.slice none 0 0]):(Int) × (Int) × LvA) hp (λx=>[(10,(.int .i64 x.1))]) (λx=>(Ar.L.set 0<|aZ x.2.2 x.2.1).set 1 (aB 129 Ay x.2.2)) Ar ⟨rfl,trivial⟩ ?_;rintro ⟨Bq,Br,Bt⟩ Bu Ac Bv Aa Af A5;unfold Ad8 at Af;refine AGt<|ATz rfl rfl (AGw<|AGv<|⟨_,rfl,λAg=>?_,λAg=>?_⟩)
 ·refine AG5<|q_t<|AGv<|AGx<|AGt<|AGq<|AG1<|AVl (λh'=>UpT [] Ac h') AG3 ?_;have Ad:UpT [] Ac Ac:=UpT.start all_nil;refine Ag6 (Aa.z p0) Ad (Aa.b p1)<|AGq<|AGq ?_;obtain ⟨Bw,A6,A7⟩:=AGu<|AT9 Af Ag;refine Ack (c:=cZ) AV5 rfl H2 rfl A6 λBx By Bz Au A8=>Akr (c:=cZ) AUj rfl Au Ad (λh' hb j u hu=>ATw (A8 j u hu)<|Aa.x.trans hb.ext) (AGq<|AGq ?_);obtain ⟨B3,A9,Ba⟩:=AGu A7;refine Ack (c:=cZ) AV5 rfl H6 rfl A9 λB4 B5 B6 Av Bb=>Akr (c:=cZ) AUj rfl Av Ad (λh' hb j u hu=>ATw (Bb j u hu)<|Aa.x.trans hb.ext) ?_;obtain ⟨B7,Bc,Be⟩:=AGu Ba;refine AYh Aa Ad (Aiq (Aa.zx Au).2 (Aa.zx Av).2 Bc) λB8 B9 Ca Ah Bf=>?_;obtain ⟨Cb,Bg,Bh⟩:=AGu Be;refine AYh Ah Bf (Az4 (Ah.z p1).2 (Ah.z p0).2 Bg) λBi Cd Ce Ab Cf=>AVf Bi AUj (cZ.klen<|Ab.z p0) (cZ.klen<|Ab.z p2) rfl rfl (cZ.one<|Ab.z p0) (Ab.b p3) λCg Bj Bl=>ATr<|q_b<|q_t<|ATc<|ATp rfl rfl (AGq<|AGw ?_);exact ⟨(_,_,_),(AGs Bh).symm,(Ab.sb p3 Bl Bj rfl).sel [0,3,4] AGr,rfl,trivial⟩
 ·refine ATk<|ATl<|ATl<|AUi<|q_t<|AGt<|Adh (Aa.z p0) (Aa.b p1)<|AYu Aa p2 (ATi Ac) (Aa.z p0) λCh Ae=>AGw<|AG6 ?_;obtain rfl:=AGs<|A5 _ (AGs<|AUa Af Ag).symm;exact ⟨_,AVn AUj (cZ.klen<|Ae.z p0) rfl (Ae.b p2),Ae.x,_,rfl,(Ae.z p0).2⟩
def Ad9 (fuel:Nat) (a3 Ad:LiI) (Ab Aa:Int) (Ac:LiI):Option ((Int × LiI) ⊕ LiI):=
 if Aa < (Ad.length:Int) then (gI Ac Ab).bind λAe=>(gI a3 Ab).bind λAg=>(gI Ad Aa).bind λAh=>(Aak fuel Ag Ah).bind λAi=>(gI Ae Aa).bind λAj=>some (.inl (w64<|Aa + 1,sI Ac Ab<|sI Ae Aa Ai)) else some<|.inr Ac
def Aea (fuel:Nat) (a3 Ad:LiI) (Aa:Int) (Ac:LiI):Option ((Int × LiI) ⊕ LiI):=
 if Aa < (a3.length:Int) then (iter (λs=>Ad9 fuel a3 Ad Aa s.1 s.2) fuel (0,Ac)).bind (λ(Ae:LiI)=>some<|.inl (w64<|Aa + 1,Ae)) else some<|.inr Ac
def Aal (fuel:Nat) (a3 a7:LiI):Option (LiI × Bool):=
 (AVx fuel a3).bind λ(x9,Ad,Ae)=>(AWj fuel a7).bind λ(Ac,Af)=>((if (!Ae)=true then some (.inl ([],false)) else if (!Af)=true then some (.inl ([],false)) else if ¬ (a7.length:Int)=Ad then some (.inl ([],false)) else some<|.inr ()):Option ((LiI × Bool) ⊕ Unit)).bind (λex=>match ex with | .inl Ag=>(some Ag) | .inr _=>(AWh fuel (a3.length:Int) (Ac.length:Int)).bind λAh=>(iter (λs=>Aea fuel a3 Ac s.1 s.2) fuel (0,Ah)).bind (λ(Ai:LiI)=>some (Ai,true)))
theorem Amf {Av:Value} {Ax:Value} {a7:LiI} {r:(LiI × Bool)} (H2:AX8 cZ h Av a3) (H6:AX8 cZ h Ax a7) (hp:Aal fuel a3 a7=some r):AT3 Tryz.prog 134 #[Av,Ax] h (λx h'=>Ext h h'/\ ∃ (x0:Value) (F0:List Nat) (Bm:List LnA) (Bn:List Value),x= .tuple #[x0,.bool r.2]/\AV3 cZ 146 129 h' F0 Bm Bn x0 r.1/\Sp h' h.size [F0]):=by
 unfold Aal at hp;refine cwf (l:=[_,_]) Tryz.func134 rfl rfl (AGt<|ATu<|AT7<|AGq ?_);have K0:=Kst.k0 h;obtain ⟨⟨x9,Cy,Bo⟩,Bp,A6⟩:=AGu hp;dsimp only at A6;refine AYn K0 (AZr (H2.ext K0.x) Bp) λCz C0 A7=>AGq<|AUh rfl rfl (AUh rfl rfl (AUh rfl rfl (ATu<|ATu<|AT7<|AGq ?_)));obtain ⟨⟨C1,Bq⟩,Br,A8⟩:=AGu A6;dsimp only at A8;refine Aeq rfl (Aek (H6.ext A7.x) Br) λC2 C3 Bt Bu=>?_;obtain ⟨C4,C5,C6,C7,rfl,Bv,Bw⟩:=Bu;refine AGq<|AUh rfl rfl (AUh rfl rfl (ATu<|AG1 ?_));have Ac:=A7.no2 Bt Bw Bv;obtain ⟨Bx,A9,Af⟩:=AGu A8;refine Ae6 137405399088 (λx:Unit=>[]) (λx h'=>(Sum.inr <| ())=Bx/\Kst h h' (Ac.L)) ?_ ?_
 ·refine AGt<|AGq<|AW0 rfl (AGq ?_);cases Ba:(!Bo)
  ·refine ATt 27 false<|AGq<|ATt 27 false<|AW0 rfl (ATx rfl (AGq ?_));have Bb:=Abh A9 Ba;cases Bc:(!Bq)
   ·refine ATt 31 false<|AGq<|ATt 31 false<|AUb AU3 rfl H6 (ATt 31 false<|AGq<|ATt 31 false<|AV2 rfl rfl (ATx rfl (AGw ?_)));have Be:=Abh Bb Bc;refine ⟨_,rfl,λAh=>?_,λAh=>?_⟩
    ·refine AGt<|ATu<|AG1 ?_;obtain rfl:=AGs<|AT9 Be Ah;refine AG6<|ATj ?_;have Ai:=Kst.anil2 cZ 146 129 Ac;obtain rfl:=AGs Af;exact ⟨_,AU0,Ai.x,_,_,_,_,rfl,(Ai.o2 p0),Ai.s.sel [0] AGr⟩
    ·refine AG5<|q_t ?_;exact ⟨(():Unit),⟨AGs<|AUa Be Ah,Ac⟩,trivial⟩
   ·refine Ah6 31 true<|ATn rfl (AGw<|ATv rfl (AGt<|ATu<|AG1 ?_));obtain rfl:=AGs<|ifT Bb Bc;refine AG6<|ATj ?_;have Aj:=Kst.anil2 cZ 146 129 Ac;obtain rfl:=AGs Af;exact ⟨_,AU0,Aj.x,_,_,_,_,rfl,(Aj.o2 p0),Aj.s.sel [0] AGr⟩
  ·refine Ab3 27 true<|ATn rfl (AGq<|Ah6 31 true<|ATn rfl (AGw<|ATv rfl (AGt<|ATu<|AG1 ?_)));obtain rfl:=AGs<|ifT A9 Ba;refine AG6<|ATj ?_;have Ak:=Kst.anil2 cZ 146 129 Ac;obtain rfl:=AGs Af;exact ⟨_,AU0,Ak.x,_,_,_,_,rfl,(Ak.o2 p0),Ak.s.sel [0] AGr⟩
 rintro ⟨⟩ C8 C9 ⟨By,Bf⟩;subst By;refine AGt<|AGq<|AUb AU3 rfl H2 (AGq<|AUb AU3 rfl (Bf.o2 p0).rd ?_);obtain ⟨Bz,B3,B4⟩:=AGu Af;refine Ahr Bf (AZ8 B3) λB5 B6 B7 Bg Da Db Bh=>AG1<|AGv<|AGt<|AGq<|AUb AU3 rfl H2 (AGq<|AGw<|AGx<|AYo 590295792766519619584 (λx:(Int) × (LiI) × LnA × LnN × LvA=>(x.1,x.2.1)) ((0,Bz,B5,B6,B7):(Int) × (LiI) × LnA × LnN × LvA) B4 (λx=>[(44,(.int .i64 x.1))]) (λx=>Bh.L.set 0<|aO2 cZ 146 129 x.2.2.1 x.2.2.2.1 x.2.2.2.2 Bg x.2.1) Bh ⟨rfl,trivial⟩ ?_);rintro ⟨Bi,B8,B9,Ca,Cb⟩ Dc Dd De Ab Am Cd;unfold Aea at Am;refine AGt<|ATz rfl rfl (AGw<|AGv<|⟨_,rfl,λAo=>?_,λAo=>?_⟩)
 ·refine AG5<|q_t<|AGv<|AGx<|AGt<|AGq<|AT7<|AGq<|AUb AU3 rfl (Ab.o2 p1).rd (AGq<|AGw<|AGx<|AYo 295147342229399412736 (λx:(Int) × (LiI) × LnA × LnN × LvA=>(x.1,x.2.1)) ((0,B8,B9,Ca,Cb):(Int) × (LiI) × LnA × LnN × LvA) (AT9 Am Ao) (λx=>[(49,(.int .i64 x.1))]) (λx=>Ab.L.set 0<|aO2 cZ 146 129 x.2.2.1 x.2.2.2.1 x.2.2.2.2 Bg x.2.1) Ab ⟨rfl,trivial⟩ ?_);rintro ⟨Df,Dg,Dh,Di,Dj⟩ Dk Ap Dl Aa Aq Ce;unfold Ad9 at Aq;refine AGt<|ATz rfl rfl (AGw<|AGv<|⟨_,rfl,λAr=>?_,λAr=>?_⟩)
  ·refine AG5<|q_t<|AGv<|AGx<|AGt<|AGq<|AG1<|AVl (λh'=>UpT [] Ap h') AG3 ?_;have Ag:UpT [] Ap Ap:=UpT.start all_nil;refine AGq<|AGq ?_;obtain ⟨Do,Au,Cf⟩:=AGu<|AT9 Aq Ar;refine AUy AU3 rfl (Aa.o2 p0) rfl Au λDp Dq Dr Cg Ch=>AVe AWx rfl Ag (λh' hb=>ATw Ch hb.ext) (AGq<|AGq<|AGq ?_);obtain ⟨Ds,Ci,Cj⟩:=AGu Cf;refine Anh AU3 rfl H2 rfl Ci λDt Du Dv Ck Cm=>AVe AWx rfl Ag (λh' hb=>ATw Ck<|Aa.x.trans hb.ext) (AGq<|AGq ?_);obtain ⟨Dw,Bj,Cn⟩:=AGu Cj;refine AUy AU3 rfl (Aa.o2 p1) rfl Bj λDx Dy Dz Co Cp=>AVe AWx rfl Ag (λh' hb=>ATw Cp hb.ext) ?_;obtain ⟨D0,Cq,Cr⟩:=AGu Cn;refine AYh Aa Ag (Ame (Cm.ext Aa.x) ((Aa.o2 p1).rowI Co Bj) Cq) λD2 D3 D4 Ad D5=>?_;obtain ⟨D6,Bl,Ct⟩:=AGu Cr;refine AU7 (m:=Bi) AV5 rfl (Aa.o2 p0) Cg Au rfl Bl λD7 Cu=>AYs (m:=Bi) (Aj9 AUj (cZ.klen<|Ad.z p0) rfl rfl (cZ.one<|Ad.z p0)) (Ad.o2 p1) Cu Au Bl (Ad.z p0) λD8 Cv Cw=>ATr<|q_b<|q_t<|ATc<|ATp rfl rfl (AGq<|AGw ?_);exact ⟨(_,_,_,_,_),(AGs Ct).symm,(Ad.uO2 p1 Cw Cv).sel [1,2] AGr,rfl,trivial⟩
  ·refine ATk<|ATl<|ATl<|AUi<|q_b<|q_t<|ATc<|ATp rfl rfl (AGq<|AGw ?_);exact ⟨(_,_,_,_,_),(AGs<|Ce _ (AGs<|AUa Aq Ar).symm).symm,Aa,rfl,trivial⟩
 ·refine ATk<|ATl<|ATl<|AUi<|q_t<|AGt<|AGq<|ATu<|AG1<|AG6 ?_;obtain rfl:=AGs<|Cd _ (AGs<|AUa Am Ao).symm;exact ⟨_,AU0,Ab.x,_,_,_,_,rfl,(Ab.o2 p0),Ab.s.sel [0] AGr⟩
def AVh (fuel:Nat) (a3 a7:LiI):Option LiI:=
 (Aal fuel a3 a7).bind λ(x9,Ad)=>some x9
theorem Abn {a7 r:LiI} (H2:AX8 cZ h Ac a3) (H6:AX8 cZ h Ae a7) (hp:AVh fuel a3 a7=some r):AT3 Tryz.prog 71 #[Ac,Ae] h (λx h'=>Ext h h'/\ ∃ (x0:Value) (F0:List Nat) (Am:List LnA) (Ao:List Value),x=x0/\AV3 cZ 146 129 h' F0 Am Ao x0 r/\Sp h' h.size [F0]):=by
 unfold AVh at hp;refine cwf (l:=[_,_]) Tryz.func71 rfl rfl (AGt<|AT7<|AGq<|AGq ?_);have K0:=Kst.k0 h;obtain ⟨⟨x9,Ax⟩,Ap,Ai⟩:=AGu hp;dsimp only at Ai;refine Aeq rfl (Amf (H2.ext K0.x) (H6.ext K0.x) Ap) λAy Az Aq Ar=>?_;obtain ⟨A3,A4,A5,A6,rfl,Au,Av⟩:=Ar;refine AGq<|AUh rfl rfl (AUh rfl rfl (ATu<|AT7<|AGq<|AG1<|AG6 ?_));have Ab:=K0.no2 Aq Av Au;obtain rfl:=AGs Ai;exact ⟨_,AS9,Ab.x,_,_,_,_,rfl,(Ab.o2 p0),Ab.s.sel [0] AGr⟩
def Acy (fuel:Nat) (a1:Int) (Aa:LiA) (Ab:Int):Option ((LiA × Int) ⊕ LiA):=
 if Ab < a1 then if Aa.length<=100000000 then some (.inl (Aa ++ [Ab],w64<|Ab + 1)) else none else some<|.inr Aa
def AX1 (fuel:Nat) (a1 a2:Int):Option LiA:=
 (iter (λs=>Acy fuel a1 s.1 s.2) fuel ([],0)).bind (λ(Aa:LiA)=>if Aa.length<=100000000 then some (Aa ++ [a2]) else none)
theorem Aga {r:LiA} (hp:AX1 fuel a1 a2=some r):AT3 Tryz.prog 176 #[(.int .i64 a1),(.int .i64 a2)] h (λx h'=>Ext h h'/\ ∃ (x0:Value) (F0:List Nat),x=x0/\OwC (cI .i64) 3 h' F0 x0 r/\Sp h' h.size [F0]):=by
 unfold AX1 at hp;refine cwf (l:=[_,_]) Tryz.func176 rfl rfl (AGt<|AT7<|AG1<|AGv<|AGt<|AG1<|AGx ?_);have K4:=Kst.anil (cI .i64) 3<|Kst.k0 h;refine AYo 65504 (λx:(LiA) × (Value) × LnA × (Int)=>(x.1,x.2.2.2)) (([],(.slice none 0 0),[],0):(LiA) × (Value) × LnA × (Int)) hp (λx=>[(5,x.2.1),(6,(.int .i64 x.2.2.2))]) (λx=>K4.L.set 0<|aO (cI .i64) 3 x.2.2.1 x.2.1 x.1) K4 ⟨rfl,rfl,trivial⟩ ?_;rintro ⟨Az,A3,A4,Aj⟩ A5 h9 y8 Ab Ac Ak;unfold Acy at Ac;refine AGv<|AGt<|AGq<|AGq<|ATz rfl rfl (AGw<|⟨_,rfl,λAd=>?_,λAd=>?_⟩)
 ·refine AG5<|q_t<|AGv<|AGx<|ATc<|AGq<|AGq ?_;obtain ⟨Am,Ao⟩:=ifN<|AT9 Ac Ad;refine Afp Aop Ao0 rfl rfl trivial tt2 (λ_=>rfl) rfl (show ((cI .i64)).rep _ Aj [(.int .i64 Aj)] from rfl) (Ab.o p0) AGr Am λA8 A9 Ba Bb Ap Aq Ar=>ATu<|ATr<|q_b<|q_t<|ATc<|AGq<|ATp rfl rfl (AG1 ?_);exact ⟨(_,_,_,_),(AGs Ao).symm,(Ab.uo p0 Aq Ap Ar),rfl,rfl,trivial⟩
 ·refine ATk<|ATl<|ATl<|AUi<|q_t<|AGt<|AGq<|AGq ?_;obtain ⟨Au,Av⟩:=ifN<|Ak _ (AGs<|AUa Ac Ad).symm;refine Afp Aop Ao0 rfl rfl trivial tt2 (λ_=>rfl) rfl (show ((cI .i64)).rep _ a2 [(.int .i64 a2)] from rfl) (Ab.o p0) AGr Au λBc Be Bf Bg Aw Ax Ay=>AG1<|AG6 ?_;have Ae:=Ab.uo p0 Ax Aw Ay;obtain rfl:=AGs Av;exact ⟨_,AS9,Ae.x,_,_,rfl,(Ae.o p0),Ae.s.sel [0] AGr⟩
def Abo (fuel:Nat) (a3:LiI) (x5:Int) (Ab:LiA) (Aa:Int):Option ((LiA × Int) ⊕ LiA):=
 if Aa < x5 then (AX1 fuel Aa Aa).bind λAe=>(AX1 fuel Aa Aa).bind λAf=>(AXk fuel a3 Ae Af).bind λAg=>(AUx fuel Ag).bind λAh=>if Ab.length<=100000000 then some (.inl (Ab ++ [Ah],w64<|Aa + 1)) else none else some<|.inr Ab
def AW6 (fuel:Nat) (a3:LiI):Option (LiA × Bool):=
 (AXj fuel a3).bind λ(x5,x6)=>if (!x6)=true then some ([],false) else (iter (λs=>Abo fuel a3 x5 s.1 s.2) fuel ([],0)).bind (λ(Ad:LiA)=>some (Ad,true))
theorem Afc {r:(LiA × Bool)} (H2:AX8 cZ h Ai a3) (hp:AW6 fuel a3=some r):AT3 Tryz.prog 122 #[Ai] h (λx h'=>Ext h h'/\ ∃ (x0:Value) (F0:List Nat),x= .tuple #[x0,.bool r.2]/\OwC cZ 129 h' F0 x0 r.1/\Sp h' h.size [F0]):=by
 unfold AW6 at hp;refine cwf (l:=[_]) Tryz.func122 rfl rfl (AGt<|ATu<|AT7<|AGq ?_);have K0:=Kst.k0 h;obtain ⟨⟨x5,x6⟩,Av,Ac⟩:=AGu hp;dsimp only at Ac;refine AYn K0 (Afx (H2.ext K0.x) Av) λBh E9 Aq=>AGq<|AUh rfl rfl (AUh rfl rfl (ATu<|AG1<|AGv<|AGt<|AGq<|AW0 rfl (AGw<|⟨_,rfl,λAd=>?_,λAd=>?_⟩)))
 ·refine AGt<|ATu<|AG1<|AG6<|ATj ?_;have Ae:=Kst.anil cZ 129 Aq;obtain rfl:=AGs<|ifT Ac Ad;exact ⟨_,AU0,Ae.x,_,_,rfl,(Ae.o p0),Ae.s.sel [0] AGr⟩
 ·refine AG5<|q_t<|AGt<|AG1<|AGv<|AGt<|AG1<|AGx ?_;have Ar:=Kst.anil cZ 129 Aq;refine AYo 4294934720 (λx:(LiA) × (Value) × LnA × (Int)=>(x.1,x.2.2.2)) (([],(.slice none 0 0),[],0):(LiA) × (Value) × LnA × (Int)) (Abh Ac Ad) (λx=>[(6,x.2.1),(7,(.int .i64 x.2.2.2))]) (λx=>Ar.L.set 0<|aO cZ 129 x.2.2.1 x.2.1 x.1) Ar ⟨rfl,rfl,trivial⟩ ?_;rintro ⟨Bj,Bl,Bm,u32⟩ Bn Bo Bp Aa Af Aw;unfold Abo at Af;refine AGv<|AGt<|AGq<|AGq<|ATz rfl rfl (AGw<|⟨_,rfl,λAg=>?_,λAg=>?_⟩)
  ·refine AG5<|q_t<|AGv<|AGx<|ATc<|AGq<|AGq<|AGq<|AGq ?_;obtain ⟨Bq,Ax,Ay⟩:=AGu<|AT9 Af Ag;refine BE3 Aa (Aga Ax) λBr Bt Bu Bv Az=>AGq<|AGq ?_;obtain ⟨Bw,A3,A4⟩:=AGu Ay;refine BE3 Az (Aga A3) λBx By Bz B3 Ab=>?_;obtain ⟨B4,A5,A6⟩:=AGu A4;refine Ahr Ab (Afy (H2.ext Ab.x) (Ab.o p1).rd (Ab.o p0).rd A5) λB5 B6 B7 B8 B9 Ca Au=>?_;obtain ⟨Cb,A7,A8⟩:=AGu A6;refine Ag5 Au (AXl (Au.o2 p0).rd A7) λCd Ce Cf Ah=>?_;obtain ⟨A9,Ba⟩:=ifN A8;refine Afp AV5 AXy rfl rfl trivial tt2 (λ_=>rfl) rfl (Ah.z p0) (Ah.o p4) AGr A9 λCg Ch Ci Cj Bb Bc Be=>ATu<|ATr<|q_b<|q_t<|ATc<|AGq<|ATp rfl rfl (AG1 ?_);exact ⟨(_,_,_,_),(AGs Ba).symm,(Ah.uo p4 Bc Bb Be).sel [4] AGr,rfl,rfl,trivial⟩
  ·refine ATk<|ATl<|ATl<|AUi<|q_t<|AGt<|AGq<|ATu<|AG1<|AG6 ?_;obtain rfl:=AGs<|Aw _ (AGs<|AUa Af Ag).symm;exact ⟨_,AU0,Aa.x,_,_,rfl,(Aa.o p0),Aa.s.sel [0] AGr⟩
def Aad (fuel:Nat) (a3:LiI) (Ab Aa:Int):Option (Int ⊕ (Bool ⊕ Unit)):=
 if Aa < Ab then (gI a3 Ab).bind λAd=>(gI Ad Aa).bind λAe=>(gI a3 Aa).bind λAf=>(gI Af Ab).bind λAg=>(Aun fuel Ae Ag).bind λAh=>if ¬ Ah=0 then some (.inr<|.inl false) else some (.inl<|w64<|Aa + 1) else some<|.inr<|.inr ()
def Aae (fuel:Nat) (a3:LiI) (Aa:Int):Option (Int ⊕ (Bool ⊕ Unit)):=
 if Aa < (a3.length:Int) then (iter (λs=>Aad fuel a3 Aa s) fuel 0).bind (λex=>match ex with | .inl Ac=>(some<|.inr<|.inl Ac) | .inr _=>some<|.inl<|w64<|Aa + 1) else some<|.inr<|.inr ()
def AWk (fuel:Nat) (a3:LiI):Option Bool:=
 (iter (λs=>Aae fuel a3 s) fuel 0).bind (λex=>match ex with | .inl Ab=>(some Ab) | .inr _=>some true)
theorem Ael {r:Bool} (H2:AX8 cZ h Ai a3) (hp:AWk fuel a3=some r):AT3 Tryz.prog 118 #[Ai] h (λx h'=>Ext h h'/\x= .bool r):=by
 unfold AWk at hp;refine cwf (l:=[_]) Tryz.func118 rfl rfl (AGt<|AG1<|AGv<|AGt<|AGq<|AUb AU3 rfl H2 (AGq<|AGw<|AGx ?_));have K0:=Kst.k0 h;refine AZp 4294967196 hp (λx=>[(7,(.int .i64 x))]) (λx=>K0.L) K0 ⟨rfl,trivial⟩ ?_;rintro Bb Bc h8 y7 Ac Ad Am;unfold Aae at Ad;refine AGt<|ATz rfl rfl (AGw<|AGv<|⟨_,rfl,λAe=>?_,λAe=>?_⟩)
 ·refine AG5<|q_t<|AGv<|AGx<|AGt<|AGq<|AT7<|AG1<|AGx<|AZp 2147482644 (AT9 Ad Ae) (λx=>[(4,(.int .i64 x))]) (λx=>Ac.L) Ac ⟨rfl,trivial⟩ ?_;rintro Bg Bh Bi Bj Aa Af Ao;unfold Aad at Af;refine AGv<|AGt<|AGq<|AGq<|ATz rfl rfl (AGw<|⟨_,rfl,λAg=>?_,λAg=>?_⟩)
  ·refine AG5<|q_t<|AGv<|AGx<|AGv<|AWg<|AGq<|AGq ?_;obtain ⟨Bl,Av,Aw⟩:=AGu<|AT9 Af Ag;refine Ad3 AU3 AWx H2 Aa.x Av λ_ Bm Ax=>AGq ?_;obtain ⟨Bn,Ay,Az⟩:=AGu Aw;refine Ack (c:=cZ) AV5 rfl Ax rfl Ay λBo Bp Bq Ap A3=>Agm (c:=cZ) AUj rfl (Aa.zx Ap) (λj u hu=>(ATw (A3 j u hu) Aa.x)) (AGq<|AGq ?_);obtain ⟨Br,A4,A5⟩:=AGu Az;refine Ad3 AU3 AWx H2 Aa.x A4 λ_ Bt A6=>AGq ?_;obtain ⟨Bu,A7,A8⟩:=AGu A5;refine Ack (c:=cZ) AV5 rfl A6 rfl A7 λBv Bw Bx Aq A9=>Agm (c:=cZ) AUj rfl (Aa.zx Aq) (λj u hu=>(ATw (A9 j u hu) Aa.x)) ?_;obtain ⟨By,Ba,Ar⟩:=AGu A8;refine AYn Aa (Asz (Aa.zx Ap).2 (Aa.zx Aq).2 Ba) λBz B3 Au=>AV2 rfl rfl (AGw<|⟨_,rfl,λAh=>?_,λAh=>?_⟩)
   ·refine AGt<|AG1<|AG6<|AUp<|ATj<|ATj<|AUp<|AUp<|ATj<|ATj<|AUp<|ATj ?_;obtain rfl:=AGs<|Am _ (AGs<|Ao _ (AGs<|AT9 Ar Ah).symm).symm;exact ⟨_,AS9,Au.x,rfl⟩
   ·refine AG5<|q_b<|q_t<|ATc<|AGq<|ATp rfl rfl (AG1 ?_);exact ⟨_,(AGs<|AUa Ar Ah).symm,Au,rfl,trivial⟩
  ·refine ATk<|ATl<|ATl<|AUi<|q_b<|q_t<|ATc<|ATp rfl rfl (AGq<|AGw ?_);exact ⟨_,(AGs<|Ao _ (AGs<|AUa Af Ag).symm).symm,Aa,rfl,trivial⟩
 ·refine ATk<|ATl<|ATl<|AUi<|q_t<|AGt<|AG1<|AG6 ?_;obtain rfl:=AGs<|Am _ (AGs<|AUa Ad Ae).symm;exact ⟨_,AS9,Ac.x,rfl⟩
def Aav (fuel:Nat) (x5:LiA) (Aa:Int):Option (Int ⊕ (Bool ⊕ Unit)):=
 if Aa < (x5.length:Int) then (gI x5 Aa).bind λAc=>(Aqh fuel Ac).bind λAd=>if Ad<=0 then some (.inr<|.inl false) else some (.inl<|w64<|Aa + 1) else some<|.inr<|.inr ()
def AX6 (fuel:Nat) (a3:LiI):Option Bool:=
 (AW6 fuel a3).bind λ(x5,x6)=>((if (!x6)=true then some (.inl false) else (AWk fuel a3).bind λAd=>if (!Ad)=true then some (.inl false) else some<|.inr ()):Option (Bool ⊕ Unit)).bind (λex=>match ex with | .inl Ae=>(some Ae) | .inr _=>(iter (λs=>Aav fuel x5 s) fuel 0).bind (λex=>match ex with | .inl Af=>(some Af) | .inr _=>some true))
theorem Ai1 {Aj:Value} {r:Bool} (H2:AX8 cZ h Aj a3) (hp:AX6 fuel a3=some r):AT3 Tryz.prog 119 #[Aj] h (λx h'=>Ext h h'/\x= .bool r):=by
 unfold AX6 at hp;refine cwf (l:=[_]) Tryz.func119 rfl rfl (AGt<|AT7<|AGq ?_);have K0:=Kst.k0 h;obtain ⟨⟨x5,x6⟩,A6,Ap⟩:=AGu hp;dsimp only at Ap;refine Aeq rfl (Afc (H2.ext K0.x) A6) λBn Bo E9 A8=>?_;obtain ⟨Bp,Bq,rfl,A9,Ba⟩:=A8;refine AGq<|AUh rfl rfl (AUh rfl rfl (ATu<|AG1 ?_));have Aa:=K0.no E9 Ba A9;obtain ⟨Bb,Aq,Ad⟩:=AGu Ap;refine Ae6 520196 (λx:Unit=>[]) (λx h'=>(Sum.inr <| ())=Bb/\Kst h h' (Aa.L)) ?_ ?_
 ·refine AGt<|AGq<|AW0 rfl (AGq ?_);cases Ar:(!x6)
  ·refine ATt 14 false<|AGq<|ATt 14 false ?_;obtain ⟨Br,Bc,Au⟩:=AGu<|Abh Aq Ar;refine AYn Aa (Ael (H2.ext Aa.x) Bc) λBt Bu Av=>ATt 14 false<|AW0 rfl (ATx rfl (AGw<|⟨_,rfl,λAe=>?_,λAe=>?_⟩))
   ·refine AGt<|AG1 ?_;obtain rfl:=AGs<|ifT Au Ae;refine AG6<|ATj ?_;obtain rfl:=AGs Ad;exact ⟨_,AS9,Av.x,rfl⟩
   ·refine AG5<|q_t ?_;exact ⟨(():Unit),⟨AGs<|Abh Au Ae,Av⟩,trivial⟩
  ·refine Acj 14 true<|ATn rfl (AGw<|ATv rfl (AGt<|AG1 ?_));obtain rfl:=AGs<|ifT Aq Ar;refine AG6<|ATj ?_;obtain rfl:=AGs Ad;exact ⟨_,AS9,Aa.x,rfl⟩
 rintro ⟨⟩ Bv Bw ⟨Be,Af⟩;subst Be;refine AGv<|AGt<|AGq<|AUu AV5 rfl (Af.o p0).rd (AGq<|AGw<|AGx<|AZp 534773828 Ad (λx=>[(21,(.int .i64 x))]) (λx=>Af.L) Af ⟨rfl,trivial⟩ ?_);rintro Bx By Bz B3 Ab Ag Aw;unfold Aav at Ag;refine AGt<|ATz rfl rfl (AGw<|AGv<|⟨_,rfl,λAh=>?_,λAh=>?_⟩)
 ·refine AG5<|q_t<|AGv<|AGx<|AGt ?_;obtain ⟨B4,Ax,Bf⟩:=AGu<|AT9 Ag Ah;refine Ak8 AV5 rfl (Ab.o p0) rfl Ax λB5 Bg=>?_;obtain ⟨B6,Bh,Bi⟩:=(Ab.o p0).cells Bg Ax;have Ay:=Ab.az Bh;refine Agm (c:=cZ) AUj rfl (Ay.z p0) (λj u hu=>(Bi j u hu)) (AV7 Ay [.bool false,.slice none 0 0] AXy λB7 Bj B8 Az=>AYu Az p0 (ATi Bj) (Az.z p1) λB9 Ac=>AZ4<|Adh (Ac.z p1) (Ac.b p0) ?_);obtain ⟨Ca,Bl,A3⟩:=AGu Bf;refine AYn Ac (Apq (Ac.z p1).2 Bl) λCb Cd A4=>Ast rfl rfl (AGw<|⟨_,rfl,λAi=>?_,λAi=>?_⟩)
  ·refine AGt<|AG1<|AG6<|AUp<|ATj<|ATj<|AUp<|ATj ?_;obtain rfl:=AGs<|Aw _ (AGs<|AT9 A3 Ai).symm;exact ⟨_,AS9,A4.x,rfl⟩
  ·refine AG5<|q_b<|q_t<|ATc<|ATp rfl rfl (AGq<|AGw ?_);exact ⟨_,(AGs<|AUa A3 Ai).symm,A4.sel [2] AGr,rfl,trivial⟩
 ·refine ATk<|ATl<|ATl<|AUi<|q_t<|AGt<|AG1<|AG6 ?_;obtain rfl:=AGs<|Aw _ (AGs<|AUa Ag Ah).symm;exact ⟨_,AS9,Ab.x,rfl⟩
def AWu (fuel:Nat) (a3:LiI):Option Int:=
 (AXj fuel a3).bind λ(x5,x6)=>if (!x6)=true then some 3 else if 8 < x5 then some 3 else (AWk fuel a3).bind λAd=>if (!Ad)=true then some 4 else (AX6 fuel a3).bind λAe=>if (!Ae)=true then some 5 else some 0
theorem Aey {r:Int} (H2:AX8 cZ h Ah a3) (hp:AWu fuel a3=some r):AT3 Tryz.prog 61 #[Ah] h (λx h'=>Ext h h'/\x= .int .i64 r):=by
 unfold AWu at hp;refine cwf (l:=[_]) Tryz.func61 rfl rfl (AGt<|AT7<|AGq ?_);have K0:=Kst.k0 h;obtain ⟨⟨x5,x6⟩,Au,Ac⟩:=AGu hp;dsimp only at Ac;refine AYn K0 (Afx (H2.ext K0.x) Au) λAy E9 Aa=>AGq<|AUh rfl rfl (AUh rfl rfl (ATu<|AG1<|AGv<|AGx<|AGt<|AGq<|AW0 rfl (AGq ?_)));cases Ak:(!x6)
 ·refine ATt 13 false<|AGq<|ATt 13 false<|AZv rfl rfl (ATx rfl (AG1 ?_));have Am:=Abh Ac Ak;refine ⟨_,rfl,λAd=>?_,λAd=>?_⟩
  ·refine AGt<|AG1<|AG6<|AUp<|ATj ?_;obtain rfl:=AGs<|AT9 Am Ad;exact ⟨_,AS9,Aa.x,rfl⟩
  ·refine AGt<|AGq ?_;obtain ⟨A3,Av,Ao⟩:=AGu<|AUa Am Ad;refine AYn Aa (Ael (H2.ext Aa.x) Av) λA4 A5 Ae=>AW0 rfl (AG1<|⟨_,rfl,λAf=>?_,λAf=>?_⟩)
   ·refine AGt<|AG1<|AG6<|AUp<|ATj ?_;obtain rfl:=AGs<|ifT Ao Af;exact ⟨_,AS9,Ae.x,rfl⟩
   ·refine AGt<|AGq ?_;obtain ⟨A6,Aw,Ap⟩:=AGu<|Abh Ao Af;refine AYn Ae (Ai1 (H2.ext Ae.x) Aw) λA7 A8 Aq=>AW0 rfl (AG1<|⟨_,rfl,λAg=>?_,λAg=>?_⟩)
    ·refine AGt<|AG1<|AG6<|AUp<|ATj ?_;obtain rfl:=AGs<|ifT Ap Ag;exact ⟨_,AS9,Aq.x,rfl⟩
    ·refine AG5<|q_b<|q_t<|AGt<|AG1<|AG6 ?_;obtain rfl:=AGs<|Abh Ap Ag;exact ⟨_,AS9,Aq.x,rfl⟩
 ·refine Ab3 13 true<|ATn rfl (AG1<|ATv rfl (AGt<|AG1<|AG6<|AUp<|ATj ?_));obtain rfl:=AGs<|ifT Ac Ak;exact ⟨_,AS9,Aa.x,rfl⟩
def AVz (fuel:Nat) (a3 a7:LiI):Option LiI:=
 (AWj fuel a7).bind λ(x9,Af)=>(AVh fuel x9 a3).bind λAd=>(AVh fuel Ad a7).bind λAe=>some Ae
theorem Aem {a7 r:LiI} (H2:AX8 cZ h Ad a3) (H6:AX8 cZ h Af a7) (hp:AVz fuel a3 a7=some r):AT3 Tryz.prog 70 #[Ad,Af] h (λx h'=>Ext h h'/\ ∃ (x0:Value) (F0:List Nat) (Ap:List LnA) (Aq:List Value),x=x0/\AV3 cZ 146 129 h' F0 Ap Aq x0 r/\Sp h' h.size [F0]):=by
 unfold AVz at hp;refine cwf (l:=[_,_]) Tryz.func70 rfl rfl (AGt<|AT7<|AGq ?_);have K0:=Kst.k0 h;obtain ⟨⟨x9,A6⟩,Ar,Am⟩:=AGu hp;dsimp only at Am;refine Aeq rfl (Aek (H6.ext K0.x) Ar) λA7 A8 Au Av=>?_;obtain ⟨A9,Ba,Bb,Bc,rfl,Aw,Ax⟩:=Av;refine AGq<|AUh rfl rfl (AUh rfl rfl (ATu<|AT7<|AGq<|AGq ?_));have Aa:=K0.no2 Au Ax Aw;obtain ⟨Be,Ay,Az⟩:=AGu Am;refine Ahr Aa (Abn (Aa.o2 p0).rd (H2.ext Aa.x) Ay) λBf Bg Bh Bi Bj Bl Ab=>AGq ?_;obtain ⟨Bm,A3,A4⟩:=AGu Az;refine Ahr Ab (Abn (Ab.o2 p0).rd (H6.ext Ab.x) A3) λBn Bo Bp Bq Br Bt Ac=>AG1<|AG6 ?_;obtain rfl:=AGs A4;exact ⟨_,AS9,Ac.x,_,_,_,_,rfl,(Ac.o2 p0),Ac.s.sel [0] AGr⟩
def Acd (fuel:Nat) (a6:Int) (Ab Ac:LiA) (Aa:Int):Option ((LiA × LiA × Int) ⊕ (LiA × LiA)):=
 if Aa < a6 then if Ab.length<=100000000 then if Ac.length<=100000000 then some (.inl (Ab ++ [Aa],Ac ++ [Aa],w64<|Aa + 1)) else none else none else some<|.inr (Ab,Ac)
def AWn (fuel:Nat) (a3:LiI) (a5 a6:Int):Option Int:=
 (iter (λs=>Acd fuel a6 s.1 s.2.1 s.2.2) fuel ([],[],0)).bind (λ((Ab,Ac):LiA × LiA)=>if Ab.length<=100000000 then if Ac.length<=100000000 then (AXk fuel a3 (Ab ++ [a5])<|Ac ++ [a6]).bind λAf=>(AUx fuel Af).bind λAg=>some Ag else none else none)
theorem Ace {a6 r:Int} (H2:AX8 cZ h Ah a3) (hp:AWn fuel a3 a5 a6=some r):AT3 Tryz.prog 129 #[Ah,(.int .i64 a5),(.int .i64 a6)] h (λx h'=>Ext h h'/\ ∃ (x0:Value),x=x0/\ZZ h' x0 r):=by
 unfold AWn at hp;refine cwf (l:=[_,_,_]) Tryz.func129 rfl rfl (AGt<|AV7 (Kst.k0 h) [.bool false,.slice none 0 0] AXy λb7 h8 Bt Au=>AZ4<|ATu<|AG1<|AGv<|AGt<|AG1<|AGx ?_);have Ak:=Kst.anil (cI .i64) 3<|Kst.anil (cI .i64) 3 Au;refine AYo 8388480 (λx:(LiA) × (Value) × LnA × (LiA) × (Value) × LnA × (Int)=>(x.1,x.2.2.2.1,x.2.2.2.2.2.2)) (([],(.slice none 0 0),[],[],(.slice none 0 0),[],0):(LiA) × (Value) × LnA × (LiA) × (Value) × LnA × (Int)) hp (λx=>[(7,x.2.1),(8,x.2.2.2.2.1),(9,(.int .i64 x.2.2.2.2.2.2))]) (λx=>(Ak.L.set 1<|aO (cI .i64) 3 x.2.2.1 x.2.1 x.1).set 0 (aO (cI .i64) 3 x.2.2.2.2.2.1 x.2.2.2.2.1 x.2.2.2.1)) Ak ⟨rfl,rfl,rfl,trivial⟩ ?_;rintro ⟨Bu,Bv,Bw,Bx,By,Bz,u32⟩ B3 B4 B5 Ac Af Av;unfold Acd at Af;refine AGv<|AGt<|AGq<|AGq<|ATz rfl rfl (AGw<|⟨_,rfl,λAg=>?_,λAg=>?_⟩)
 ·refine AG5<|q_t<|AGv<|AGx<|AGt<|AGq<|AGq ?_;obtain ⟨Aw,Ax⟩:=ifN<|AT9 Af Ag;refine Afp Aop Ao0 rfl rfl trivial tt2 (λ_=>rfl) rfl (show ((cI .i64)).rep _ u32 [(.int .i64 u32)] from rfl) (Ac.o p1) AGr Aw λB6 B7 B8 B9 Ay Az A3=>AG1<|ATc<|AGq<|AGq ?_;have Am:=Ac.uo p1 Az Ay A3;obtain ⟨A4,A5⟩:=ifN Ax;refine Afp Aop Ao0 rfl rfl trivial tt2 (λ_=>rfl) rfl (show ((cI .i64)).rep _ u32 [(.int .i64 u32)] from rfl) (Am.o p0) AGr A4 λCa Cb Cd Ce A6 A7 A8=>ATu<|ATr<|q_b<|q_t<|ATc<|AGq<|ATp rfl rfl (AG1 ?_);exact ⟨(_,_,_,_,_,_,_),(AGs A5).symm,(Am.uo p0 A7 A6 A8),rfl,rfl,rfl,trivial⟩
 ·refine ATk<|ATl<|ATl<|AUi<|q_t<|AGt<|AGq<|AGq<|AGq ?_;obtain ⟨A9,Ba⟩:=ifN<|Av _ (AGs<|AUa Af Ag).symm;refine Afp Aop Ao0 rfl rfl trivial tt2 (λ_=>rfl) rfl (show ((cI .i64)).rep _ a5 [(.int .i64 a5)] from rfl) (Ac.o p1) AGr A9 λCf Cg Ch Ci Bb Bc Be=>AGq<|AGq ?_;have Ao:=Ac.uo p1 Bc Bb Be;obtain ⟨Bf,Bg⟩:=ifN Ba;refine Afp Aop Ao0 rfl rfl trivial tt2 (λ_=>rfl) rfl (show ((cI .i64)).rep _ a6 [(.int .i64 a6)] from rfl) (Ao.o p0) AGr Bf λCj Ck Cm Cn Bh Bi Bj=>?_;have Ad:=Ao.uo p0 Bi Bh Bj;obtain ⟨Co,Bl,Bm⟩:=AGu Bg;refine Ahr Ad (Afy (H2.ext Ad.x) (Ad.o p1).rd (Ad.o p0).rd Bl) λCp Cq Cr Ct Cu Cv Ap=>?_;obtain ⟨Cw,Bn,Bo⟩:=AGu Bm;refine Ag5 Ap (AXl (Ap.o2 p0).rd Bn) λCx Bp Cy Aq=>AYu Aq p4 (ATi Bp) (Aq.z p0) λCz Ae=>AGw<|AG6 ?_;obtain rfl:=AGs Bo;exact ⟨_,AVn AUj (cZ.klen<|Ae.z p0) rfl (Ae.b p4),Ae.x,_,rfl,(Ae.z p0).2⟩
def AVi (fuel:Nat) (a3:LiA) (a5:Int):Option Int:=
 if a5=0 then (Aev fuel 1).bind λAc=>some Ac else (gI a3<|w64<|a5 - 1).bind λAd=>some Ad
theorem AWv {a3:LiA} {r:Int} (H2:SlC cZ h Af a3) (hp:AVi fuel a3 a5=some r):AT3 Tryz.prog 130 #[Af,(.int .i64 a5)] h (λx h'=>Ext h h'/\ ∃ (x0:Value),x=x0/\ZZ h' x0 r):=by
 unfold AVi at hp;refine cwf (l:=[_,_]) Tryz.func130 rfl rfl (AGt<|AV7 (Kst.k0 h) [.bool false,.slice none 0 0] AXy λb6 h7 E9 Aa=>AGw<|AGv<|AGt<|AGq<|AWe rfl rfl (AGw<|⟨_,rfl,λAe=>?_,λAe=>?_⟩))
 ·refine AGt ?_;obtain ⟨Ay,Ao,Ap⟩:=AGu<|AT9 hp Ae;refine Ag5 Aa (Adg Ao) λAz Aq A3 Aj=>AYu Aj p1 (ATi Aq) (Aj.z p0) λA4 Ab=>AGw<|AG6<|ATj ?_;obtain rfl:=AGs Ap;exact ⟨_,AVn AUj (cZ.klen<|Ab.z p0) rfl (Ab.b p1),Ab.x,_,rfl,(Ab.z p0).2⟩
 ·refine AG5<|q_t<|AGt<|AGq<|AGq<|AVm rfl rfl ?_;obtain ⟨A5,Ar,Au⟩:=AGu<|AUa hp Ae;refine Ack (c:=cZ) AV5 rfl H2 rfl Ar λA6 A7 A8 Ac Av=>Agm (c:=cZ) AUj rfl (Aa.zx Ac) (λj u hu=>(ATw (Av j u hu) Aa.x)) (AYu Aa p0 (ATi h7) (Aa.zx Ac) λA9 Ad=>AGw<|AG6 ?_);obtain rfl:=AGs Au;exact ⟨_,AVn AUj (cZ.klen<|Ad.zx Ac) rfl (Ad.b p0),Ad.x,_,rfl,(Ad.zx Ac).2⟩
def AZb (fuel:Nat) (a3:LiI) (a7:LiA) (a9 Aa:Int):Option Bool:=
 (Aev fuel 2).bind λAe=>(AWn fuel a3 a9 Aa).bind λAf=>(A1u fuel Af).bind λAg=>(Akc fuel Ae Ag).bind λAh=>(AVi fuel a7<|w64<|Aa + 1).bind λAi=>(Aun fuel Ah Ai).bind λAj=>some<|decide (Aj<=0)
theorem Aku {a7:LiA} {Ah:Int} {r:Bool} (H2:AX8 cZ h Ac a3) (H6:SlC cZ h Ae a7) (hp:AZb fuel a3 a7 a9 Ah=some r):AT3 Tryz.prog 123 #[Ac,Ae,(.int .i64 a9),(.int .i64 Ah)] h (λx h'=>Ext h h'/\x= .bool r):=by
 unfold AZb at hp;refine cwf (l:=[_,_,_,_]) Tryz.func123 rfl rfl (AGt<|AT7 ?_);obtain ⟨A7,Ap,Aq⟩:=AGu hp;refine Ag5 (Kst.k0 h) (Adg Ap) λA8 A9 Ba Ai=>AGq<|AGq<|AGq ?_;obtain ⟨Bb,Ar,Au⟩:=AGu Aq;refine Ag5 Ai (Ace (H2.ext Ai.x) Ar) λBc Be Bf Aj=>?_;obtain ⟨Bg,Av,Aw⟩:=AGu Au;refine Ag5 Aj (A0e (Aj.z p0).2 Av) λBh Bi Bj Aa=>?_;obtain ⟨Bl,Ax,Ay⟩:=AGu Aw;refine Ag5 Aa (Aiq (Aa.z p2).2 (Aa.z p0).2 Ax) λBm Bn Bo Ak=>AGq<|AGq<|ATp rfl rfl ?_;obtain ⟨Bp,Az,A3⟩:=AGu Ay;refine Ag5 Ak (AWv (H6.ext Ak.x) Az) λBq Br Bt Ab=>?_;obtain ⟨Bu,A4,A5⟩:=AGu A3;refine AYn Ab (Asz (Ab.z p1).2 (Ab.z p0).2 A4) λBv Bw A6=>Ast rfl rfl (AG1<|AG6 ?_);obtain rfl:=AGs A5;exact ⟨_,AS9,A6.x,rfl⟩
def AZc (fuel:Nat) (a3:LiI):Option Bool:=
 (AUx fuel a3).bind λx5=>(Aev fuel 10000).bind λAc=>(Aun fuel x5 Ac).bind λAd=>some<|decide (Ad<=0)
theorem Akv {r:Bool} (H2:AX8 cZ h Ab a3) (hp:AZc fuel a3=some r):AT3 Tryz.prog 62 #[Ab] h (λx h'=>Ext h h'/\x= .bool r):=by
 unfold AZc at hp;refine cwf (l:=[_]) Tryz.func62 rfl rfl (AGt<|AT7<|AGq ?_);have K0:=Kst.k0 h;obtain ⟨x5,Af,Ag⟩:=AGu hp;refine Ag5 K0 (AXl (H2.ext K0.x) Af) λAq h9 E8 Ah=>?_;obtain ⟨Av,Ai,Aj⟩:=AGu Ag;refine Ag5 Ah (Adg Ai) λAw Ax Ay Aa=>?_;obtain ⟨Az,Ak,Am⟩:=AGu Aj;refine AYn Aa (Asz (Aa.z p1).2 (Aa.z p0).2 Ak) λA3 A4 Ao=>Ast rfl rfl (AG1<|AG6 ?_);obtain rfl:=AGs Am;exact ⟨_,AS9,Ao.x,rfl⟩
def Adl (fuel:Nat) (a1:Int) (a2:Bool) (Aa:Int) (Ac:LiI):Option ((Int × LiI) ⊕ LiI):=
 if Aa < ((List.replicate (Int.toNat a1) ([]:List Int)).length:Int) then if 0<=a1/\a1<=100000000 then (gI Ac Aa).bind λAi=>(gI (sI Ac Aa<|List.replicate (Int.toNat a1) (0:Int)) Aa).bind λAe=>(gI Ae Aa).bind λAj=>((if a2=true then if Aa=w64 (a1 - 1) then if 3 < a1 then some (w64<|Aa - 2) else some (w64<|Aa - 1) else some (w64<|Aa - 1) else some<|w64<|Aa - 1):Option Int).bind (λ(Ad:Int)=>if 0<=Ad then (gI (sI (sI Ac Aa<|List.replicate (Int.toNat a1) (0:Int)) Aa<|sI Ae Aa 2) Aa).bind λAf=>(gI (sI (sI Ac Aa<|List.replicate (Int.toNat a1) (0:Int)) Aa<|sI Ae Aa 2) Ad).bind λAk=>(gI Af Ad).bind λAm=>(gI (sI (sI (sI Ac Aa<|List.replicate (Int.toNat a1) (0:Int)) Aa<|sI Ae Aa 2) Aa<|sI Af Ad<|-1) Ad).bind λAg=>(gI Ag Aa).bind λAo=>some (.inl (w64<|Aa + 1,sI (sI (sI (sI Ac Aa<|List.replicate (Int.toNat a1) (0:Int)) Aa<|sI Ae Aa 2) Aa<|sI Af Ad<|-1) Ad<|sI Ag Aa<|-1)) else some<|.inl (w64<|Aa + 1,sI (sI Ac Aa<|List.replicate (Int.toNat a1) (0:Int)) Aa<|sI Ae Aa 2)) else none else some<|.inr Ac
def AYj (fuel:Nat) (a1:Int) (a2:Bool):Option LiI:=
 if 0<=a1/\a1<=100000000 then (iter (λs=>Adl fuel a1 a2 s.1 s.2) fuel (0,List.replicate (Int.toNat a1) ([]:List Int))).bind (λ(Ac:LiI)=>some Ac) else none
theorem Agp {a2:Bool} {r:LiI} (hp:AYj fuel a1 a2=some r):AT3 Tryz.prog 73 #[(.int .i64 a1),(.bool a2)] h (λx h'=>Ext h h'/\ ∃ (x0:Value) (F0:List Nat) (A5:List LnA) (A6:List Value),x=x0/\AV3 (cI .i64) 61 2 h' F0 A5 A6 x0 r/\Sp h' h.size [F0]):=by
 unfold AYj at hp;refine cwf (l:=[_,_]) Tryz.func73 rfl rfl (AGt<|AT7<|AGq ?_);obtain ⟨A7,A8⟩:=ifN hp;refine Ajk (cI .i64) 2 ATg Ae8 rfl trivial tt2 rfl rfl AGr A7 λA9 Ba Bb v9 h7 I8 E5 S6=>AG1<|AGv<|AGt<|AGq ?_;have Ai:=(Kst.k0 h).no2 E5 S6 I8;refine AUb ATg rfl (Ai.o2 p0).rd (AGq<|AGw<|AGx<|AYo 72057594037924032 (λx:(Int) × (LiI) × LnA × LnN × LvA=>(x.1,x.2.1)) ((0,(List.replicate (Int.toNat a1) ([]:List Int)),A9,Ba,Bb):(Int) × (LiI) × LnA × LnN × LvA) A8 (λx=>[(12,(.int .i64 x.1))]) (λx=>Ai.L.set 0<|aO2 (cI .i64) 61 2 x.2.2.1 x.2.2.2.1 x.2.2.2.2 v9 x.2.1) Ai ⟨rfl,trivial⟩ ?_);rintro ⟨Aa,Ck,Cm,Cn,Co⟩ Cp Cq Cr Ae Aj Bh;unfold Adl at Aj;refine AGt<|ATz rfl rfl (AGw<|AGv<|⟨_,rfl,λAk=>?_,λAk=>?_⟩)
 ·refine AG5<|q_t<|AGv<|AGx<|AGt<|AGq<|AT7<|AGq<|AGq<|AGq ?_;obtain ⟨Bi,Bj⟩:=ifN<|AT9 Aj Ak;refine Aip (c:=(cI .i64)) (a:=0) ATe Acs rfl rfl (λ_=>rfl) rfl trivial tt2 rfl rfl AGr Bi λCt Cu Cv Bl Bm Bn Bo=>?_;have Ab:=Ae.no Bm (AX4 Bn Bo) Bl;obtain ⟨Cw,Ar,Bp⟩:=AGu Bj;refine AUy ATg rfl (Ab.o2 p1) rfl Ar λCx Cy Bq Cz C0=>Ajj ATq (Ab.o2 p1) Ar Bq rfl rfl (Ab.o p0) (Ab.dj p0 p1 AGr) λC1 Br Bt Bu=>AZ4<|AGq<|AGq ?_;have Au:=Ab.m2 p0 p1 AGr Bt Br λz hz=> .inl<|Bu z hz;obtain ⟨C2,Av,Bv⟩:=AGu Bp;refine AUs ATg ATq (Au.o2 p1) Av λ_ C3 Bw=>AGq ?_;obtain ⟨C4,Bx,By⟩:=AGu Bv;refine AZ7 (m:=Aa) Au p1 ATe ATh Bw Av Bx (λ_=>rfl) λ_ C5 Ac=>AZ4<|AGq<|AVm rfl rfl (AG1 ?_);obtain ⟨Bz,Aw,Ax⟩:=AGu By;refine Ae6 2198754820224 (λx:(Int)=>[(7,(.int .i64 x))]) (λx h'=>( x)=Bz/\Kst h h' (AY6 Ac.L [1])) ?_ ?_
  ·refine AGt<|AGq<|AGq ?_;cases Ay:a2
   ·refine Ah6 29 false<|ATx rfl (AGq<|Ab3 35 false<|ATx rfl (AGw<|ATy rfl (AG5<|q_t ?_)));exact ⟨((w64<|Aa - 1):(Int)),⟨AGs<|Abh Aw Ay,Ac.sel [1] AGr⟩,rfl,trivial⟩
   ·refine ATt 29 true<|AGq<|ATt 29 true<|AGq<|ATt 29 true<|AVm rfl rfl (ATt 29 true<|AWe rfl rfl (ATn rfl (AGq ?_)));have Az:=ifT Aw Ay;by_cases Af:Aa=(w64<|a1 - 1)
    ·have A3:=ifT Az Af;rw [decide_eq_true Af];refine ATt 35 true<|AGq<|ATt 35 true<|AZv rfl rfl (ATn rfl (AGw<|⟨_,rfl,λAm=>?_,λAm=>?_⟩))
     ·refine ATc<|AGq<|AVm rfl rfl (AG1 ?_);exact ⟨((w64<|Aa - 2):(Int)),⟨AGs<|AT9 A3 Am,Ac.sel [1] AGr⟩,rfl,trivial⟩
     ·refine AG5<|q_t ?_;exact ⟨((w64<|Aa - 1):(Int)),⟨AGs<|AUa A3 Am,Ac.sel [1] AGr⟩,rfl,trivial⟩
    ·rw [decide_eq_false Af];refine Ab3 35 false<|ATx rfl (AGw<|ATy rfl (AG5<|q_t ?_));exact ⟨((w64<|Aa - 1):(Int)),⟨AGs<|ifF Az Af,Ac.sel [1] AGr⟩,rfl,trivial⟩
  rintro B3 C6 C7 ⟨B4,Ag⟩;subst B4;refine AGt<|AGq<|Afb rfl rfl (AGw<|⟨_,rfl,λAo=>?_,λAo=>?_⟩)
  ·refine AWg<|AGq<|AGq ?_;obtain ⟨C8,A4,B5⟩:=AGu<|AT9 Ax Ao;refine AUs ATg ATq (Ag.o2 p0) A4 λ_ C9 B6=>AGq<|AGq<|AGq ?_;obtain ⟨Da,B7,B8⟩:=AGu B5;refine AUs ATg ATq (Ag.o2 p0) B7 λ_ Db B9=>AGq ?_;obtain ⟨Dc,Ca,Cb⟩:=AGu B8;refine AZ7 (m:=Aa) Ag p0 ATe ATh B6 A4 Ca (λ_=>rfl) λ_ Dd Cd=>?_;obtain ⟨De,Ce,Cf⟩:=AGu Cb;obtain ⟨Df,Cg,Ch⟩:=AGu Cf;refine AZ7 (m:=B3) Cd p0 ATe ATh B9 Ce Cg (λ_=>rfl) λ_ Dg Ci=>ATr<|q_b<|q_t<|ATc<|ATp rfl rfl (AGq<|AGw ?_);exact ⟨(_,_,_,_,_),(AGs Ch).symm,Ci,rfl,trivial⟩
  ·refine AG5<|q_b<|q_t<|ATc<|ATp rfl rfl (AGq<|AGw ?_);exact ⟨(_,_,_,_,_),(AGs<|AUa Ax Ao).symm,Ag,rfl,trivial⟩
 ·refine ATk<|ATl<|ATl<|AUi<|q_t<|AGt<|AGq<|AG1<|AG6 ?_;obtain rfl:=AGs<|Bh _ (AGs<|AUa Aj Ak).symm;exact ⟨_,AS9,Ae.x,_,_,_,_,rfl,(Ae.o2 p0),Ae.s.sel [0] AGr⟩
def Aam (fuel:Nat) (a3:LiI):Option Bool:=
 (AV4 fuel a3).bind λx5=>(AWu fuel x5).bind λAc=>if Ac=0 then (AUx fuel x5).bind λAd=>(Aev fuel 10000).bind λAe=>(Aun fuel Ad Ae).bind λAf=>some (decide (Af<=0)) else some false
theorem Amg {r:Bool} (H2:AX8 (cI .i64) h Ad a3) (hp:Aam fuel a3=some r):AT3 Tryz.prog 76 #[Ad] h (λx h'=>Ext h h'/\x= .bool r):=by
 unfold Aam at hp;refine cwf (l:=[_]) Tryz.func76 rfl rfl (AGt<|AT7<|AGq ?_);have K0:=Kst.k0 h;obtain ⟨x5,Aj,Ak⟩:=AGu hp;refine Ahr K0 (Abu (H2.ext K0.x) Aj) λA3 A4 A5 A6 h9 E8 Ag=>AT7<|AGq ?_;obtain ⟨Am,Ao,Ah⟩:=AGu Ak;refine AYn Ag (Aey (Ag.o2 p0).rd Ao) λA9 Ba Ab=>AWe rfl rfl (AGq ?_);by_cases Aa:Am=0
 ·rw [decide_eq_true Aa];refine ATt 9 true<|AGq<|ATt 9 true ?_;obtain ⟨Bb,Ap,Aq⟩:=AGu<|ifT Ah Aa;refine Ag5 Ab (AXl (Ab.o2 p0).rd Ap) λBc Be Bf Ar=>ATt 9 true ?_;obtain ⟨Bg,Au,Av⟩:=AGu Aq;refine Ag5 Ar (Adg Au) λBh Bi Bj Ac=>ATt 9 true ?_;obtain ⟨Bl,Aw,Ax⟩:=AGu Av;refine AYn Ac (Asz (Ac.z p1).2 (Ac.z p0).2 Aw) λBm Bn Ay=>ATt 9 true<|Ast rfl rfl (ATn rfl (AG1<|AG6 ?_));obtain rfl:=AGs Ax;exact ⟨_,AS9,Ay.x,rfl⟩
 ·rw [decide_eq_false Aa];refine AY4 9 false<|ATx rfl (AG1<|AG6 ?_);obtain rfl:=AGs<|ifF Ah Aa;exact ⟨_,AS9,Ab.x,rfl⟩
def Aeb (fuel:Nat) (Ab Aa:Int):Option ((Int × Int) ⊕ Int):=
 (Aqh fuel Aa).bind λAc=>if ¬ Ac=0 then (Aaj fuel Ab Aa).bind λAd=>some (.inl (Aa,Ad)) else some<|.inr Ab
def Aan (fuel:Nat) (a1 a5:Int):Option Int:=
 (A1u fuel a1).bind λAc=>(A1u fuel a5).bind λAd=>(iter (λs=>Aeb fuel s.1 s.2) fuel (Ac,Ad)).bind (λ(Ae:Int)=>some Ae)
theorem Amh {Au:Value} {r:Int} (H3:ZZ h Aq a1) (H7:ZZ h Au a5) (hp:Aan fuel a1 a5=some r):AT3 Tryz.prog 212 #[Aq,Au] h (λx h'=>Ext h h'/\ ∃ (x0:Value),x=x0/\ZZ h' x0 r):=by
 unfold Aan at hp;obtain ⟨Bj,rfl,Ax⟩:=H3.cs;obtain ⟨Bl,rfl,Ay⟩:=H7.cs;refine cwf (l:=[_,_]) Tryz.func212 rfl rfl (AGt<|AZa (Kst.k0 h) Bj λb9 Cq Cr Bm=>AZa Bm Bl λCt Cu Cv Bn=>AV7 Bn [.bool false,.slice none 0 0] AXy λCw Ak Cx Ab=>AGw<|AGv ?_);have Am:UpT [] Ak Ak:=UpT.start all_nil;refine An4 (B:=λh'=>UpT [] Ak h') 4 [⟨5,129,[.bool false,.slice none 0 0]⟩,⟨6,129,[.bool false,.slice none 0 0]⟩] (λ_ _ U E=>U.thenE E) AG3 Am (Az8 rfl rfl AXy rfl AXy rfl (λ_ _ U E=>U.thenE E))<|h_l rfl (Ag6 (Ab.zx Ax) Am (Ab.b p2)<|ATr<|h_e rfl λCy Az=>?_);have A3:=Ab.e Az;obtain ⟨Bo,Bp,Bq⟩:=AGu hp;refine AYh A3 (Am.thenE Az) (A0e (A3.zx Ax).2 Bp) λA4 Cz Br A5 A6=>ATr ⟨Br,?_⟩;refine h_l rfl (Ag6 (A5.zx Ay) A6 (Ab.b p1)<|ATr<|h_e rfl λC0 A7=>?_);have A8:=A5.e A7;obtain ⟨Bt,Bu,Bv⟩:=AGu Bq;refine AYh A8 (A6.thenE A7) (A0e (A8.zx Ay).2 Bu) λA9 C1 Bw Bx By=>ATr ⟨Bw,?_⟩;refine Auk λBz Ba=>BCo λB3 B4 Bb Bc B5 B6 B7 C2 C3=>?_;have Be:=Bx.e Ba;have Ae:=((Ab.nb2 (By.thenE Ba).ext (Az9 B6 B7 Bb.lt Bc.lt B5) Bb Bc).az (Be.z p1)).az (Be.z p0);refine AVf A4 AUj (cZ.klen<|Ae.z p1) (cZ.klen<|ATi Bz) rfl rfl (cZ.one<|Ae.z p1) (Ae.b p2) λB8 B9 Ca=>?_;have Af:=Ae.sb p2 Ca B9 rfl;refine AVf A9 AUj (cZ.klen<|Af.z p0) (cZ.klen<|ATi B8) rfl rfl (cZ.one<|Af.z p0) (Af.b p3) λC4 Cb Cd=>AGw<|AGv<|AGx ?_;have Ao:=(Af.sb p3 Cd Cb rfl).sel [0,1,2,3,4] AGr;dsimp only [AY6,Acl] at Ao;refine AYo 260096 (λx:(Int) × LvA × (Int) × LvA=>(x.1,x.2.2.1)) ((Bo,A4,Bt,A9):(Int) × LvA × (Int) × LvA) Bv (λx=>[]) (λx=>(((Ao.L.set 1<|aZ x.2.1 x.1).set 0 (aZ x.2.2.2 x.2.2.1)).set 2 (aB 129 B3 x.2.1)).set 3 (aB 129 B4 x.2.2.2)) Ao trivial ?_;rintro ⟨C5,C6,C7,Ce⟩ C8 C9 Da Ag Bf Cf;unfold Aeb at Bf;refine AGv<|AGt<|Adh (Ag.z p0) (Ag.b p3) ?_;obtain ⟨Db,Cg,Bg⟩:=AGu Bf;refine AYn Ag (Apq (Ag.z p0).2 Cg) λAh Dc Aa=>AV2 rfl rfl (AGw<|⟨_,rfl,λAp=>?_,λAp=>?_⟩)
 ·refine AG5<|q_t<|AGx<|AVl (λh'=>UpT [] Ah h') AG3 ?_;have Ai:UpT [] Ah Ah:=UpT.start all_nil;refine Ag6 (Aa.z p0) Ai (Aa.b p3)<|Ag6 (Aa.z p1) Ai (Aa.b p2)<|Ag6 (Aa.z p0) Ai (Aa.b p3) ?_;obtain ⟨Dd,Ch,Ci⟩:=AGu<|AT9 Bg Ap;refine AYh Aa Ai (Amd (Aa.z p1).2 (Aa.z p0).2 Ch) λCj De Df Ac Dg=>AVf Ce AUj (cZ.klen<|Ac.z p1) (cZ.klen<|Ac.z p2) rfl rfl (cZ.one<|Ac.z p1) (Ac.b p3) λDh Ck Cm=>?_;have Ad:=Ac.sb p3 Cm Ck rfl;refine AVf Cj AUj (cZ.klen<|Ad.z p0) (cZ.klen<|Ad.z p1) rfl rfl (cZ.one<|Ad.z p0) (Ad.b p4) λDi Cn Co=>ATr<|q_b<|q_t ?_;exact ⟨(_,_,_,_),(AGs Ci).symm,(Ad.sb p4 Co Cn rfl).sel [0,1,3,4,5] AGr,trivial⟩
 ·refine ATk<|ATl<|ATl<|AUi<|q_t<|AGt<|Adh (Aa.z p1) (Aa.b p2)<|AYu Aa p4 (ATi Ah) (Aa.z p1) λDj Aj=>AGw<|AG6 ?_;obtain rfl:=AGs<|Cf _ (AGs<|AUa Bg Ap).symm;exact ⟨_,AVn AUj (cZ.klen<|Aj.z p1) rfl (Aj.b p4),Aj.x,_,rfl,(Aj.z p1).2⟩
def AY3 (fuel:Nat) (a1 a5:Int):Option ((Int × Int) × Bool):=
 (Aqh fuel a5).bind λAf=>if Af=0 then some ((0,0),false) else (((Aqh fuel a5).bind λAg=>if Ag < 0 then (Axz fuel a1).bind λAh=>(Axz fuel a5).bind λAi=>some (Ah,Ai) else some (a1,a5)):Option (Int × Int)).bind (λ((Ac,Ad):Int × Int)=>(Aan fuel Ac Ad).bind λAe=>(AV9 fuel Ac Ae).bind λAj=>(AV9 fuel Ad Ae).bind λAk=>some ((Aj,Ak),true))
theorem Ag7 {A4:Value} {A5:Value} {r:((Int × Int) × Bool)} (H3:ZZ h A4 a1) (H7:ZZ h A5 a5) (hp:AY3 fuel a1 a5=some r):AT3 Tryz.prog 201 #[A4,A5] h (λx h'=>Ext h h'/\ ∃ (x0:Value),x= .tuple #[x0,.bool r.2]/\Are h' x0 r.1.1 r.1.2):=by
 unfold AY3 at hp;obtain ⟨A7,rfl,Am⟩:=H3.cs;obtain ⟨A8,rfl,Ab⟩:=H7.cs;refine cwf (l:=[_,_]) Tryz.func201 rfl rfl (AGt<|AZa (Kst.k0 h) A7 λb9 Cr Ct Bo=>AZa Bo A8 λBp Cu Cv Bq=>AV7 Bq [.bool false,.slice none 0 0,.bool false,.slice none 0 0] Air λCw Cx Cy Ao=>AG1<|AGv<|AGt<|Adh (Ao.zx Ab) (Ao.b p1) ?_);obtain ⟨Cz,Br,A9⟩:=AGu hp;refine AYn Ao (Apq (Ao.zx Ab).2 Br) λAg C0 Ad=>AWe rfl rfl (AGw<|⟨_,rfl,λAu=>?_,λAu=>?_⟩)
 ·refine AGt<|AWr (A0a )<|AVf ([Value.bool false,Value.slice none 0 0] ++ [Value.bool false,Value.slice none 0 0]) AYt (AVd (ATi Ag)<|ATi Ag) (AVd (ATi Ag)<|ATi Ag) rfl rfl (Aew (ATi Ag)<|ATi Ag) (Ad.b p0) λAp Bt Bu=>AG1<|AG6<|ATj ?_;have Ba:=Ad.sb p0 Bu Bt rfl;obtain rfl:=AGs<|AT9 A9 Au;exact ⟨_,Al4 AYt (AVd (ATi Ap)<|ATi Ap) rfl (Ba.b p0),Ba.x,_,rfl,⟨_,_,rfl,(ATi Ap),(ATi Ap)⟩⟩
 ·refine AG5<|q_t ?_;obtain ⟨Bv,Bw,Bx⟩:=AGu<|AUa A9 Au;refine Ae6 260096 (λx:(Int) × LvA × (Int) × LvA=>[]) (λx h'=>( (x.1,x.2.2.1))=Bv/\Kst h h' (aZ x.2.1 x.1 :: aZ x.2.2.2 x.2.2.1 :: ((Ad.L.set 2<|aB 129 b9 x.2.1).set 1 (aB 129 Bp x.2.2.2)))) ?_ ?_
  ·refine AGt<|Adh (Ad.zx Ab) (Ad.b p1) ?_;obtain ⟨C1,By,Bb⟩:=AGu Bw;refine AYn Ad (Apq (Ad.zx Ab).2 By) λAv C2 Ae=>ATz rfl rfl (AGw<|⟨_,rfl,λAw=>?_,λAw=>?_⟩)
   ·refine AVl (λh'=>UpT [] Av h') AG3 ?_;have Bc:UpT [] Av Av:=UpT.start all_nil;refine Ag6 (Ae.zx Am) Bc (Ae.b p2) ?_;obtain ⟨Bz,B3,B4⟩:=AGu<|AT9 Bb Aw;refine AYh Ae Bc (Avz (Ae.zx Am).2 B3) λBe C3 C4 Ax Bf=>Ag6 (Ax.zx Ab) Bf (Ae.b p1) ?_;obtain ⟨B5,B6,B7⟩:=AGu B4;refine AYh Ax Bf (Avz (Ax.zx Ab).2 B6) λBg C5 C6 Ai C7=>AVf Be AUj (cZ.klen<|Ai.z p1) (cZ.klen<|Ai.zx Am) rfl rfl (cZ.one<|Ai.z p1) (Ai.b p4) λC8 B8 B9=>?_;have Aj:=Ai.sb p4 B9 B8 rfl;refine AVf Bg AUj (cZ.klen<|Aj.z p0) (cZ.klen<|Aj.zx Ab) rfl rfl (cZ.one<|Aj.z p0) (Aj.b p3) λC9 Ca Cb=>AGw ?_;exact ⟨((Bz,Be,B5,Bg):(Int) × LvA × (Int) × LvA),⟨AGs B7,(Aj.sb p3 Cb Ca rfl).sel [1,0,2,3,4] AGr⟩,trivial⟩
   ·refine AG5<|q_t ?_;have Bh:=Ae.az<|Ae.zx Am;exact ⟨((a1,A7,a5,A8):(Int) × LvA × (Int) × LvA),⟨AGs<|AUa Bb Aw,(Bh.az<|Bh.zx Ab).sel [1,0,2,3,4] AGr⟩,trivial⟩
  rintro ⟨Da,Db,Dc,Dd⟩ De Df ⟨Cd,Af⟩;subst Cd;refine AGt<|Adh (Af.z p0) (Af.b p4)<|Adh (Af.z p1) (Af.b p3) ?_;obtain ⟨Dg,Ce,Cf⟩:=AGu Bx;refine Ag5 Af (Amh (Af.z p0).2 (Af.z p1).2 Ce) λDh Di Dj Cg=>AV7 Cg [.bool false,.slice none 0 0] AXy λDk Ch Dl Bi=>AYu Bi p0 (ATi Ch) (Bi.z p1) λAy Aa=>AGw<|AGv<|AVl (λh'=>UpT [] Ay h') AG3 ?_;have Az:UpT [] Ay Ay:=UpT.start all_nil;refine Ag6 (Aa.z p2) Az (Aa.b p6)<|Ag6 (Aa.z p1) Az (Aa.b p0) ?_;obtain ⟨Do,Ci,Cj⟩:=AGu Cf;refine AYh Aa Az (Aaq (Aa.z p2).2 (Aa.z p1).2 Ci) λCk Dp Dq Ak A3=>Ag6 (Ak.z p4) A3 (Aa.b p5)<|Ag6 (Ak.z p2) A3 (Aa.b p0) ?_;obtain ⟨Dr,Cm,Cn⟩:=AGu Cj;refine AYh Ak A3 (Aaq (Ak.z p4).2 (Ak.z p2).2 Cm) λCo Bj Ds Ac Dt=>AWr (An6 (Ac.z p1)<|Ac.z p0)<|AVf (Ck ++ Co) AYt (AVd (Ac.z p1)<|Ac.z p0) (AVd (ATi Bj)<|ATi Bj) rfl rfl (Aew (Ac.z p1)<|Ac.z p0) (Ac.b p6) λDu Cp Cq=>AG1<|AG6 ?_;have Ah:=Ac.sb p6 Cq Cp rfl;obtain rfl:=AGs Cn;exact ⟨_,Al4 AYt (AVd (Ah.z p1)<|Ah.z p0) rfl (Ah.b p6),Ah.x,_,rfl,⟨_,_,rfl,(Ah.z p1),(Ah.z p0)⟩⟩
def Aer (fuel:Nat) (a1:Int):Option (Int × Int):=
 (Akd fuel a1).bind λAb=>(Aev fuel 1).bind λAc=>some (Ab,Ac)
theorem Akw {r:(Int × Int)} (H3:ZZ h Ad a1) (hp:Aer fuel a1=some r):AT3 Tryz.prog 213 #[Ad] h (λx h'=>Ext h h'/\ ∃ (x0:Value),x=x0/\Are h' x0 r.1 r.2):=by
 unfold Aer at hp;obtain ⟨Aj,rfl,Ag⟩:=H3.cs;refine cwf (l:=[_]) Tryz.func213 rfl rfl (AGt<|AZa (Kst.k0 h) Aj λb5 h6 E8 Ak=>AV7 Ak [.bool false,.slice none 0 0,.bool false,.slice none 0 0] Air λA4 A5 A6 Ac=>AZ4<|Adh (Ac.zx Ag) (Ac.b p1) ?_);obtain ⟨A7,Am,Ao⟩:=AGu hp;refine Ag5 Ac (Amc (Ac.zx Ag).2 Am) λAp A8 A9 Aq=>?_;obtain ⟨Ba,Ar,Au⟩:=AGu Ao;refine Ag5 Aq (Adg Ar) λAv Ah Bb Aa=>AWr (An6 (Aa.z p1)<|Aa.z p0)<|AVf (Ap ++ Av) AYt (AVd (Aa.z p1)<|Aa.z p0) (AVd (ATi Ah)<|ATi Ah) rfl rfl (Aew (Aa.z p1)<|Aa.z p0) (Aa.b p2) λBc Aw Ax=>AGw<|AG6 ?_;have Ab:=Aa.sb p2 Ax Aw rfl;obtain rfl:=AGs Au;exact ⟨_,AVn AYt (AVd (Ab.z p1)<|Ab.z p0) rfl (Ab.b p2),Ab.x,_,rfl,⟨_,_,rfl,(Ab.z p1),(Ab.z p0)⟩⟩
def Aes (fuel:Nat) (a1:Int):Option (Int × Int):=
 (Aev fuel a1).bind λx9=>(Aer fuel x9).bind λAa=>some (Aa.1,Aa.2)
theorem Akx {r:(Int × Int)} (hp:Aes fuel a1=some r):AT3 Tryz.prog 202 #[(.int .i64 a1)] h (λx h'=>Ext h h'/\ ∃ (x0:Value),x=x0/\Are h' x0 r.1 r.2):=by
 unfold Aes at hp;refine cwf (l:=[_]) Tryz.func202 rfl rfl (AGt<|AV7 (Kst.k0 h) [.bool false,.slice none 0 0,.bool false,.slice none 0 0] Air λb2 h3 E5 K8=>AZ4<|AGq ?_);obtain ⟨x9,Ah,Ai⟩:=AGu hp;refine Ag5 K8 (Adg Ah) λA5 A6 A7 Ae=>?_;obtain ⟨A8,Aj,Ak⟩:=AGu Ai;refine Aeq rfl (Akw (Ae.z p0).2 Aj) λA9 Af Am Ao=>?_;obtain ⟨Ba,rfl,Ap⟩:=Ao;obtain ⟨Aq,Ar,rfl,Au,Av⟩:=Ap;have Aa:=((Ae.e Am).az Au).az Av;refine AVf (Aq ++ Ar) AYt (AVd (Aa.z p1)<|Aa.z p0) (AVd (ATi Af)<|ATi Af) rfl rfl (Aew (Aa.z p1)<|Aa.z p0) (Aa.b p3) λBb Aw Ax=>AGw<|AG6 ?_;have Ab:=Aa.sb p3 Ax Aw rfl;obtain rfl:=AGs Ak;exact ⟨_,AVn AYt (AVd (Ab.z p1)<|Ab.z p0) rfl (Ab.b p3),Ab.x,_,rfl,⟨_,_,rfl,(Ab.z p1),(Ab.z p0)⟩⟩
def AVj (fuel:Nat) (a3 a5:Int):Option (Int × Int):=
 (AY3 fuel a3 a5).bind λ(Aa,Ae)=>if (!Ae)=true then (Aes fuel 0).bind λAb=>some (Ab.1,Ab.2) else some (Aa.1,Aa.2)
theorem AYa {a3:Int} {r:(Int × Int)} (H2:Are h Ak a3 a5) (hp:AVj fuel a3 a5=some r):AT3 Tryz.prog 183 #[Ak] h (λx h'=>Ext h h'/\ ∃ (x0:Value),x=x0/\Are h' x0 r.1 r.2):=by
 unfold AVj at hp;obtain ⟨Aq,Ar,rfl,H2z0,H2z1⟩:=H2;refine cwf (l:=[_]) Tryz.func183 rfl rfl (AGt<|AZa (Kst.k0 h) (Aq ++ Ar) λb7 h8 Br Ay=>AV7 Ay [.bool false,.slice none 0 0,.bool false,.slice none 0 0] Air λBt Bu Bv Ab=>AZ4<|AYe (fs:=2) Arq AG3 AGr rfl (Abi Aq AUj (cZ.klen<|Ab.zx H2z0) rfl ((Ab.b p1).aggL) (AYe (fs:=2) An5 AG3 AGr rfl (Abi Ar AUj (cZ.klen<|Ab.zx H2z1) rfl ((Ab.b p1).aggR (cZ.klen<|Ab.zx H2z0)) ?_))));obtain ⟨⟨Bw,Bx⟩,Az,Ag⟩:=AGu hp;dsimp only at Ag;refine Aeq rfl (Ag7 (Ab.zx H2z0).2 (Ab.zx H2z1).2 Az) λBy Bz A3 A4=>?_;obtain ⟨B3,rfl,A5⟩:=A4;obtain ⟨Ah,Ai,rfl,A6,A7⟩:=A5;refine AGq<|AUh rfl rfl (AUh rfl rfl (AV7 (((Ab.e A3).az A6).az A7) [.bool false,.slice none 0 0,.bool false,.slice none 0 0] Air λB4 Au B5 Ac=>AVf (Ah ++ Ai) AYt (AVd (Ac.z p2)<|Ac.z p1) (AVd (ATi Au)<|ATi Au) rfl rfl (Aew (Ac.z p2)<|Ac.z p1) (Ac.b p0) λAv A8 A9=>AG1<|AGv<|AGt<|AGq<|AW0 rfl (AGw ?_)));have Aa:=Ac.sb p0 A9 A8 rfl;refine ⟨_,rfl,λAj=>?_,λAj=>?_⟩
 ·refine AGt ?_;obtain ⟨B6,Ba,Bb⟩:=AGu<|ifT Ag Aj;refine Aeq rfl (Akx Ba) λB7 Aw Bc Be=>?_;obtain ⟨B8,rfl,Bf⟩:=Be;obtain ⟨Bg,Bh,rfl,Bi,Bj⟩:=Bf;have Ad:=((Aa.e Bc).az Bi).az Bj;refine AVf (Bg ++ Bh) AYt (AVd (Ad.z p1)<|Ad.z p0) (AVd (ATi Aw)<|ATi Aw) rfl rfl (Aew (Ad.z p1)<|Ad.z p0) (Ad.b p5) λB9 Bl Bm=>AGw<|AG6<|ATj ?_;have Ae:=Ad.sb p5 Bm Bl rfl;obtain rfl:=AGs Bb;exact ⟨_,AVn AYt (AVd (Ae.z p1)<|Ae.z p0) rfl (Ae.b p5),Ae.x,_,rfl,⟨_,_,rfl,(Ae.z p1),(Ae.z p0)⟩⟩
 ·refine AG5<|q_t<|AGt<|Abi (Ah ++ Ai) AYt (AVd (Aa.z p2)<|Aa.z p1) rfl ((Aa.b p0).agg) (AVf (Ah ++ Ai) AYt (AVd (Aa.z p2)<|Aa.z p1) (AVd (ATi Av)<|ATi Av) rfl rfl (Aew (Aa.z p2)<|Aa.z p1) (Aa.b p3) λCa Bn Bo=>AGw<|AG6 ?_);have Af:=Aa.sb p3 Bo Bn rfl;obtain rfl:=AGs<|Abh Ag Aj;exact ⟨_,AVn AYt (AVd (Af.z p2)<|Af.z p1) rfl (Af.b p3),Af.x,_,rfl,⟨_,_,rfl,(Af.z p2),(Af.z p1)⟩⟩
def AX7 (fuel:Nat) (a1 a5:Int):Option (Int × Int):=
 (AVj fuel a1 a5).bind λAa=>some (Aa.1,Aa.2)
theorem Ai2 {r:(Int × Int)} (H3:ZZ h Af a1) (H7:ZZ h Ah a5) (hp:AX7 fuel a1 a5=some r):AT3 Tryz.prog 128 #[Af,Ah] h (λx h'=>Ext h h'/\ ∃ (x0:Value),x=x0/\Are h' x0 r.1 r.2):=by
 unfold AX7 at hp;obtain ⟨Ap,rfl,Ad⟩:=H3.cs;obtain ⟨Aq,rfl,Ae⟩:=H7.cs;refine cwf (l:=[_,_]) Tryz.func128 rfl rfl (AGt<|AZa (Kst.k0 h) Ap λb9 Ba Bb Ar=>AZa Ar Aq λBc Be Bf Au=>AV7 Au [.bool false,.slice none 0 0,.bool false,.slice none 0 0] Air λBg Bh Bi Aa=>AZ4<|Adh (Aa.zx Ad) (Aa.b p2)<|Adh (Aa.zx Ae) (Aa.b p1)<|AWr (An6 (Aa.zx Ad)<|Aa.zx Ae) ?_);obtain ⟨Bj,Av,Aw⟩:=AGu hp;refine Aeq rfl (AYa ⟨_,_,rfl,(Aa.zx Ad),(Aa.zx Ae)⟩ Av) λBl Ak Ax Ay=>?_;obtain ⟨Bm,rfl,Az⟩:=Ay;obtain ⟨A3,A4,rfl,A5,A6⟩:=Az;have Ab:=((Aa.e Ax).az A5).az A6;refine AVf (A3 ++ A4) AYt (AVd (Ab.z p1)<|Ab.z p0) (AVd (ATi Ak)<|ATi Ak) rfl rfl (Aew (Ab.z p1)<|Ab.z p0) (Ab.b p2) λBn A7 A8=>AGw<|AG6 ?_;have Ac:=Ab.sb p2 A8 A7 rfl;obtain rfl:=AGs Aw;exact ⟨_,AVn AYt (AVd (Ac.z p1)<|Ac.z p0) rfl (Ac.b p2),Ac.x,_,rfl,⟨_,_,rfl,(Ac.z p1),(Ac.z p0)⟩⟩
def Acm (fuel:Nat):Option (Int × Int):=
 (Aev fuel 1).bind λx8=>(Aev fuel 2).bind λAb=>some (x8,Ab)
theorem Alb {r:(Int × Int)} (hp:Acm fuel=some r):AT3 Tryz.prog 182 #[] h (λx h'=>Ext h h'/\ ∃ (x0:Value),x=x0/\Are h' x0 r.1 r.2):=by
 unfold Acm at hp;refine cwf (l:=[]) Tryz.func182 rfl rfl (AGt<|AV7 (Kst.k0 h) [.bool false,.slice none 0 0,.bool false,.slice none 0 0] Air λb1 h2 E4 K7=>AZ4 ?_);obtain ⟨x8,Af,Ag⟩:=AGu hp;refine Ag5 K7 (Adg Af) λAh Aw Ax Ai=>?_;obtain ⟨Ay,Aj,Ak⟩:=AGu Ag;refine Ag5 Ai (Adg Aj) λAm Ad Az Aa=>AWr (An6 (Aa.z p1)<|Aa.z p0)<|AVf (Ah ++ Am) AYt (AVd (Aa.z p1)<|Aa.z p0) (AVd (ATi Ad)<|ATi Ad) rfl rfl (Aew (Aa.z p1)<|Aa.z p0) (Aa.b p2) λA3 Ao Ap=>AGw<|AG6 ?_;have Ab:=Aa.sb p2 Ap Ao rfl;obtain rfl:=AGs Ak;exact ⟨_,AVn AYt (AVd (Ab.z p1)<|Ab.z p0) rfl (Ab.b p2),Ab.x,_,rfl,⟨_,_,rfl,(Ab.z p1),(Ab.z p0)⟩⟩
def Ac8 (fuel:Nat) (a3 a5 a9 Ag:Int):Option (Int × Int):=
 (AVj fuel a3 a5).bind λAa=>(AVj fuel a9 Ag).bind λAb=>(Akc fuel Aa.1 Ab.2).bind λAh=>(Akc fuel Ab.1 Aa.2).bind λAi=>(A1p fuel Ah Ai).bind λAj=>(Akc fuel Aa.2 Ab.2).bind λAk=>(AY3 fuel Aj Ak).bind λ(Ac,Am)=>some (Ac.1,Ac.2)
theorem Ami {Bh:Value} {a3:Int} {Bl:Value} {Bn:Int} {r:(Int × Int)} (H2:Are h Bh a3 a5) (H8:Are h Bl a9 Bn) (hp:Ac8 fuel a3 a5 a9 Bn=some r):AT3 Tryz.prog 181 #[Bh,Bl] h (λx h'=>Ext h h'/\ ∃ (x0:Value),x=x0/\Are h' x0 r.1 r.2):=by
 unfold Ac8 at hp;obtain ⟨Bp,Bq,rfl,H2z0,H2z1⟩:=H2;obtain ⟨Br,Bt,rfl,H8z0,H8z1⟩:=H8;refine cwf (l:=[_,_]) Tryz.func181 rfl rfl (AGt<|AZa (Kst.k0 h) (Bp ++ Bq) λD2 D3 D4 Ck=>AZa Ck (Br ++ Bt) λD5 D6 D7 Cm=>AV7 Cm [.bool false,.slice none 0 0,.bool false,.slice none 0 0] Air λD8 Ao D9 Ac=>AGw<|AGv ?_);have Ap:UpT [] Ao Ao:=UpT.start all_nil;refine An4 (B:=λh'=>UpT [] Ao h') 4 [⟨5,158,[.bool false,.slice none 0 0,.bool false,.slice none 0 0]⟩,⟨6,158,[.bool false,.slice none 0 0,.bool false,.slice none 0 0]⟩] (λ_ _ U E=>U.thenE E) AG3 Ap (Az8 rfl rfl Air rfl Air rfl (λ_ _ U E=>U.thenE E))<|h_l rfl (Abj (Bp ++ Bq) AYt (AVd (Ac.zx H2z0)<|Ac.zx H2z1) rfl Ap (λh' hb=>((Ac.b p2).ext hb.ext).agg) (ATr<|h_e rfl λEa Bu=>?_));have Aq:=Ap.thenE Bu;have Ar:=Ac.e Bu;obtain ⟨Eb,Cn,Co⟩:=AGu hp;refine AWs Aq (λ_ E=>Aq.thenE E) rfl (AYa ⟨_,_,rfl,(Ar.zx H2z0),(Ar.zx H2z1)⟩ Cn) λEc Ed Au Cp=>?_;obtain ⟨Ee,rfl,Cq⟩:=Cp;have Bv:=Aq.thenE Au;obtain ⟨Bw,Av,rfl,Cr,Ct⟩:=Cq;have Aw:=((Ar.e Au).az Cr).az Ct;refine ATr ⟨Au,?_⟩;refine h_l rfl (Abj (Br ++ Bt) AYt (AVd (Aw.zx H8z0)<|Aw.zx H8z1) rfl Bv (λh' hb=>((Ac.b p1).ext hb.ext).agg) (ATr<|h_e rfl λEf Bx=>?_));have Ax:=Bv.thenE Bx;have Ay:=Aw.e Bx;obtain ⟨Eg,Cu,Cv⟩:=AGu Co;refine AWs Ax (λ_ E=>Ax.thenE E) rfl (AYa ⟨_,_,rfl,(Ay.zx H8z0),(Ay.zx H8z1)⟩ Cu) λEh Ei Az Cw=>?_;obtain ⟨Ej,rfl,Cx⟩:=Cw;have Cy:=Ax.thenE Az;obtain ⟨By,A3,rfl,Cz,C0⟩:=Cx;refine ATr ⟨Az,?_⟩;refine Auk λBz B3=>BCo λEk El B4 B5 C1 C2 C3 Em En=>?_;have Aj:=(((Ay.e Az).az Cz).az C0).e B3;have Ad:=((((Ac.nb2 (Cy.thenE B3).ext (Az9 C2 C3 B4.lt B5.lt C1) B4 B5).az (Aj.z p3)).az (Aj.z p2)).az (Aj.z p1)).az (Aj.z p0);refine AVf (Bw ++ Av) AYt (AVd (Ad.z p3)<|Ad.z p2) (AVd (ATi Bz)<|ATi Bz) rfl rfl (Aew (Ad.z p3)<|Ad.z p2) (Ad.b p4) λB6 C4 C5=>?_;have Ae:=Ad.sb p4 C5 C4 rfl;refine AVf (By ++ A3) AYt (AVd (Ae.z p1)<|Ae.z p0) (AVd (ATi B6)<|ATi B6) rfl rfl (Aew (Ae.z p1)<|Ae.z p0) (Ae.b p5) λA4 C6 C7=>AGw<|AGv ?_;have Aa:=Ae.sb p5 C7 C6 rfl;have Ak:UpT [] A4 A4:=UpT.start all_nil;refine An4 (B:=λh'=>UpT [] A4 h') 20 [⟨7,158,[.bool false,.slice none 0 0,.bool false,.slice none 0 0]⟩] (λ_ _ U E=>U.thenE E) AG3 Ak (Az7 rfl Air rfl (λ_ _ U E=>U.thenE E))<|h_l rfl (AYe (fs:=2) Arq AG3 AGr rfl (ATr<|h_l rfl (Abj Bw AUj (cZ.klen<|Aa.z p3) rfl Ak (λh' hb=>((Aa.b p4).ext hb.ext).aggL) (ATr<|h_l rfl (AYe (fs:=2) An5 AG3 AGr rfl (ATr<|h_l rfl (Abj A3 AUj (cZ.klen<|Aa.z p0) rfl Ak (λh' hb=>((Aa.b p5).ext hb.ext).aggR (cZ.klen<|Aa.z p1)) (ATr<|h_e rfl λEo B7=>?_))))))));have A5:=Aa.e B7;obtain ⟨Ep,C8,C9⟩:=AGu Cv;refine AYh A5 (Ak.thenE B7) (Aiq (A5.z p3).2 (A5.z p0).2 C8) λEr Es Da Am A6=>ATr ⟨Da,?_⟩;refine h_l rfl (AYe (fs:=2) Arq AG3 AGr rfl (ATr<|h_l rfl (Abj By AUj (cZ.klen<|Am.z p2) rfl A6 (λh' hb=>((Aa.b p5).ext hb.ext).aggL) (ATr<|h_l rfl (AYe (fs:=2) An5 AG3 AGr rfl (ATr<|h_l rfl (Abj Av AUj (cZ.klen<|Am.z p3) rfl A6 (λh' hb=>((Aa.b p4).ext hb.ext).aggR (cZ.klen<|Am.z p4)) (ATr<|h_e rfl λEt B8=>?_))))))));have A7:=Am.e B8;obtain ⟨Eu,Db,Dc⟩:=AGu C9;refine AYh A7 (A6.thenE B8) (Aiq (A7.z p2).2 (A7.z p3).2 Db) λEv Ew Dd De Df=>ATr ⟨Dd,?_⟩;refine h_e rfl λEy B9=>?_;have A8:=De.e B9;obtain ⟨Ez,Dg,Dh⟩:=AGu Dc;refine AYh A8 (Df.thenE B9) (Az4 (A8.z p1).2 (A8.z p0).2 Dg) λFa Fb Di Ai A9=>ATr ⟨Di,?_⟩;refine h_l rfl (AYe (fs:=2) An5 AG3 AGr rfl (ATr<|h_l rfl (Abj Av AUj (cZ.klen<|Ai.z p5) rfl A9 (λh' hb=>((Aa.b p4).ext hb.ext).aggR (cZ.klen<|Ai.z p6)) (ATr<|h_l rfl (AYe (fs:=2) An5 AG3 AGr rfl (ATr<|h_l rfl (Abj A3 AUj (cZ.klen<|Ai.z p3) rfl A9 (λh' hb=>((Aa.b p5).ext hb.ext).aggR (cZ.klen<|Ai.z p4)) (ATr<|h_e rfl λFc Ca=>?_))))))));have Ba:=Ai.e Ca;obtain ⟨Fd,Dj,Dk⟩:=AGu Dh;refine AYh Ba (A9.thenE Ca) (Aiq (Ba.z p5).2 (Ba.z p3).2 Dj) λFe Ff Dl Do Dp=>ATr ⟨Dl,?_⟩;refine h_e rfl λFg Cb=>?_;have Bb:=Dp.thenE Cb;have Bc:=Do.e Cb;obtain ⟨⟨Fh,Fi⟩,Dq,Cd⟩:=AGu Dk;dsimp only at Cd;refine AWs Bb (λ_ E=>Bb.thenE E) rfl (Ag7 (Bc.z p1).2 (Bc.z p0).2 Dq) λFj Fk Be Dr=>?_;obtain ⟨Fl,rfl,Ds⟩:=Dr;have Dt:=Bb.thenE Be;obtain ⟨Bf,Bg,rfl,Du,Dv⟩:=Ds;refine ATr ⟨Be,?_⟩;refine h_l rfl (AGq<|ATr<|h_l rfl (AUh rfl rfl (ATr<|h_l rfl (AUh rfl rfl (ATr<|Auk λCe Cf=>BCn λFm Cg Dw Fo=>?_)))));have Af:=(((Bc.e Be).az Du).az Dv).e Cf;have Ag:=((((((Aa.nb (Dt.thenE Cf).ext (AX4 Dw Cg.lt) Cg).az (Af.z p5)).az (Af.z p4)).az (Af.z p3)).az (Af.z p2)).az (Af.z p1)).az (Af.z p0);refine AVf (Bf ++ Bg) AYt (AVd (Ag.z p1)<|Ag.z p0) (AVd (ATi Ce)<|ATi Ce) rfl rfl (Aew (Ag.z p1)<|Ag.z p0) (Ag.b p6) λCh Dx Dy=>AT7 ?_;have Ab:=Ag.sb p6 Dy Dx rfl;refine Abi (Bf ++ Bg) AYt (AVd (Ab.z p1)<|Ab.z p0) rfl ((Ab.b p6).agg) (AVf (Bf ++ Bg) AYt (AVd (Ab.z p1)<|Ab.z p0) (AVd (ATi Ch)<|ATi Ch) rfl rfl (Aew (Ab.z p1)<|Ab.z p0) (Ab.b p13) λFp Dz D0=>AGw<|AG6 ?_);have Ah:=Ab.sb p13 D0 Dz rfl;obtain rfl:=AGs Cd;exact ⟨_,AVn AYt (AVd (Ah.z p1)<|Ah.z p0) rfl (Ah.b p13),Ah.x,_,rfl,⟨_,_,rfl,(Ah.z p1),(Ah.z p0)⟩⟩
def Abv (fuel:Nat) (a3 a5:Int):Option Int:=
 (AVj fuel a3 a5).bind λAa=>(AV9 fuel Aa.1 Aa.2).bind λAd=>some Ad
theorem Aky {a3 r:Int} (H2:Are h Ae a3 a5) (hp:Abv fuel a3 a5=some r):AT3 Tryz.prog 180 #[Ae] h (λx h'=>Ext h h'/\ ∃ (x0:Value),x=x0/\ZZ h' x0 r):=by
 unfold Abv at hp;obtain ⟨Ai,Aj,rfl,H2z0,H2z1⟩:=H2;refine cwf (l:=[_]) Tryz.func180 rfl rfl (AGt<|AZa (Kst.k0 h) (Ai ++ Aj) λb7 h8 Bb Ar=>AV7 Ar [.bool false,.slice none 0 0] AXy λBc Be Bf Ab=>AZ4<|Abi (Ai ++ Aj) AYt (AVd (Ab.zx H2z0)<|Ab.zx H2z1) rfl ((Ab.b p1).agg) ?_);obtain ⟨Bg,Au,Av⟩:=AGu hp;refine Aeq rfl (AYa ⟨_,_,rfl,(Ab.zx H2z0),(Ab.zx H2z1)⟩ Au) λBh Bi Aw Ax=>?_;obtain ⟨Bj,rfl,Ay⟩:=Ax;obtain ⟨Ak,Am,rfl,Az,A3⟩:=Ay;refine AV7 (((Ab.e Aw).az Az).az A3) [.bool false,.slice none 0 0,.bool false,.slice none 0 0] Air λBl Ao Bm Ac=>AVf (Ak ++ Am) AYt (AVd (Ac.z p2)<|Ac.z p1) (AVd (ATi Ao)<|ATi Ao) rfl rfl (Aew (Ac.z p2)<|Ac.z p1) (Ac.b p0) λBn A4 A5=>AZ4<|AYe (fs:=2) Arq AG3 AGr rfl ?_;have Aa:=Ac.sb p0 A5 A4 rfl;refine Abi Ak AUj (cZ.klen<|Aa.z p2) rfl ((Aa.b p0).aggL) (AYe (fs:=2) An5 AG3 AGr rfl (Abi Am AUj (cZ.klen<|Aa.z p1) rfl ((Aa.b p0).aggR (cZ.klen<|Aa.z p2)) ?_));obtain ⟨Bo,A6,A7⟩:=AGu Av;refine Ag5 Aa (Aaq (Aa.z p2).2 (Aa.z p1).2 A6) λBp A8 Bq Ap=>AYu Ap p4 (ATi A8) (Ap.z p0) λBr Ad=>AGw<|AG6 ?_;obtain rfl:=AGs A7;exact ⟨_,AVn AUj (cZ.klen<|Ad.z p0) rfl (Ad.b p4),Ad.x,_,rfl,(Ad.z p0).2⟩
def AYk (fuel:Nat) (a3 a5:Int):Option Int:=
 (Acm fuel).bind λAa=>(Ac8 fuel a3 a5 Aa.1 Aa.2).bind λAb=>(Abv fuel Ab.1 Ab.2).bind λAe=>some Ae
theorem Ajq {a3 r:Int} (H2:Are h Ai a3 a5) (hp:AYk fuel a3 a5=some r):AT3 Tryz.prog 127 #[Ai] h (λx h'=>Ext h h'/\ ∃ (x0:Value),x=x0/\ZZ h' x0 r):=by
 unfold AYk at hp;obtain ⟨Ao,Ap,rfl,H2z0,H2z1⟩:=H2;refine cwf (l:=[_]) Tryz.func127 rfl rfl (AGt<|AZa (Kst.k0 h) (Ao ++ Ap) λb7 h8 Bm Av=>AV7 Av [.bool false,.slice none 0 0] AXy λBn Af Bo Ab=>AGw<|AGv<|AVl (λh'=>UpT [] Af h') AG3 ?_);have Ac:UpT [] Af Af:=UpT.start all_nil;refine Abj (Ao ++ Ap) AYt (AVd (Ab.zx H2z0)<|Ab.zx H2z1) rfl Ac (λh' hb=>((Ab.b p1).ext hb.ext).agg) ?_;obtain ⟨Bp,Aw,Ax⟩:=AGu hp;refine AWs Ac (λ_ E=>Ac.thenE E) rfl (Alb Aw) λBq Br Aq Ay=>?_;obtain ⟨Bt,rfl,Az⟩:=Ay;have Ag:=Ac.thenE Aq;obtain ⟨Bu,Bv,rfl,A3,A4⟩:=Az;have Aa:=((Ab.e Aq).az A3).az A4;obtain ⟨Bw,A5,A6⟩:=AGu Ax;refine AWs Ag (λ_ E=>Ag.thenE E) rfl (Ami ⟨_,_,rfl,(Aa.zx H2z0),(Aa.zx H2z1)⟩ ⟨_,_,rfl,(Aa.z p1),(Aa.z p0)⟩ A5) λBx By Ar A7=>?_;obtain ⟨Bz,rfl,A8⟩:=A7;have A9:=Ag.thenE Ar;obtain ⟨B3,B4,rfl,Ba,Bb⟩:=A8;have Ah:=((Aa.e Ar).az Ba).az Bb;obtain ⟨B5,Bc,Be⟩:=AGu A6;refine AYh Ah A9 (Aky ⟨_,_,rfl,(Ah.z p1),(Ah.z p0)⟩ Bc) λBf Bg B6 Ad B7=>AVf Bf AUj (cZ.klen<|Ad.z p0) (cZ.klen<|ATi Bg) rfl rfl (cZ.one<|Ad.z p0) (Ad.b p5) λB8 Bh Bi=>AGw<|AG6 ?_;have Ae:=Ad.sb p5 Bi Bh rfl;obtain rfl:=AGs Be;exact ⟨_,AVn AUj (cZ.klen<|Ae.z p0) rfl (Ae.b p5),Ae.x,_,rfl,(Ae.z p0).2⟩
def AYw (fuel:Nat) (a3:LiI) (a7:LiA) (a9:Int):Option Bool:=
 (AWn fuel a3 a9<|w64<|a9 - 1).bind λAc=>(Aev fuel 4).bind λAe=>(AVi fuel a7<|w64<|a9 - 1).bind λAf=>(AVi fuel a7<|w64<|a9 + 1).bind λAg=>(Akc fuel Af Ag).bind λAh=>(Akc fuel Ac Ac).bind λAi=>(A1p fuel Ah Ai).bind λAj=>(Akc fuel Ae Aj).bind λAk=>(Aev fuel 3).bind λAm=>(AVi fuel a7 a9).bind λAo=>(AVi fuel a7 a9).bind λAp=>(Akc fuel Ao Ap).bind λAq=>(Akc fuel Am Aq).bind λAr=>(Aun fuel Ak Ar).bind λAu=>some<|decide (0<=Au)
theorem Aj3 {Au:Value} {Aw:Value} {a7:LiA} {r:Bool} (H2:AX8 cZ h Au a3) (H6:SlC cZ h Aw a7) (hp:AYw fuel a3 a7 a9=some r):AT3 Tryz.prog 124 #[Au,Aw,(.int .i64 a9)] h (λx h'=>Ext h h'/\x= .bool r):=by
 unfold AYw at hp;refine cwf (l:=[_,_,_]) Tryz.func124 rfl rfl (AGt<|AT7<|AGq<|AGq<|AGq<|AVm rfl rfl ?_);have K0:=Kst.k0 h;obtain ⟨Dh,Bm,Bn⟩:=AGu hp;refine Ag5 K0 (Ace (H2.ext K0.x) Bm) λDi Dj Dk Bo=>AV7 Bo [.bool false,.slice none 0 0] AXy λDl Bp Do A3=>AYu A3 p0 (ATi Bp) (A3.z p1) λAe Ac=>AGw<|AGv ?_;have A4:UpT [] Ae Ae:=UpT.start all_nil;refine An4 (B:=λh'=>UpT [] Ae h') 15 [⟨8,129,[.bool false,.slice none 0 0]⟩] (λ_ _ U E=>U.thenE E) AG3 A4 (Az7 rfl AXy rfl (λ_ _ U E=>U.thenE E))<|h_e rfl λDp A5=>?_;obtain ⟨Dq,Bq,Br⟩:=AGu Bn;refine AYh (Ac.e A5) (A4.thenE A5) (Adg Bq) λDr Ds Bt Bu Bv=>ATr ⟨Bt,?_⟩;refine h_l rfl (AGq<|ATr<|h_l rfl (AGq<|ATr<|h_l rfl (AVm rfl rfl (ATr<|h_e rfl λDt A6=>?_))));have A7:=Bu.e A6;obtain ⟨Du,Bw,Bx⟩:=AGu Br;refine AYh A7 (Bv.thenE A6) (AWv (H6.ext A7.x) Bw) λDv Dw By Bz B3=>ATr ⟨By,?_⟩;refine h_l rfl (AGq<|ATr<|h_l rfl (AGq<|ATr<|h_l rfl (ATp rfl rfl (ATr<|h_e rfl λDx A8=>?_))));have A9:=Bz.e A8;obtain ⟨Dy,B4,B5⟩:=AGu Bx;refine AYh A9 (B3.thenE A8) (AWv (H6.ext A9.x) B4) λDz D0 B6 B7 B8=>ATr ⟨B6,?_⟩;refine h_e rfl λD2 Ba=>?_;have Af:=B7.e Ba;obtain ⟨D3,B9,Ca⟩:=AGu B5;refine AYh Af (B8.thenE Ba) (Aiq (Af.z p1).2 (Af.z p0).2 B9) λD4 D5 Cb Ag Ah=>ATr ⟨Cb,?_⟩;refine h_l rfl (Ag6 (Ag.z p5) Ah (Ac.b p0)<|ATr<|h_l rfl (Ag6 (Ag.z p5) Ah (Ac.b p0)<|ATr<|h_e rfl λD6 Bb=>?_));have Ai:=Ag.e Bb;obtain ⟨D7,Cd,Ce⟩:=AGu Ca;refine AYh Ai (Ah.thenE Bb) (Aiq (Ai.z p5).2 (Ai.z p5).2 Cd) λD8 D9 Cf Cg Ch=>ATr ⟨Cf,?_⟩;refine h_e rfl λEa Bc=>?_;have Aj:=Cg.e Bc;obtain ⟨Eb,Ci,Cj⟩:=AGu Ce;refine AYh Aj (Ch.thenE Bc) (Az4 (Aj.z p1).2 (Aj.z p0).2 Ci) λEc Ed Ck Cm Cn=>ATr ⟨Ck,?_⟩;refine h_e rfl λEe Be=>?_;have Ak:=Cm.e Be;obtain ⟨Ef,Co,Cp⟩:=AGu Cj;refine AYh Ak (Cn.thenE Be) (Aiq (Ak.z p5).2 (Ak.z p0).2 Co) λCq Eg Cr Ct Cu=>ATr ⟨Cr,?_⟩;refine Auk λCv Bf=>BCn λEh Bg Cw Ei=>?_;have Aa:=Ct.e Bf;have Ad:=(((((((Ac.nb (Cu.thenE Bf).ext (AX4 Cw Bg.lt) Bg).az (Aa.z p6)).az (Aa.z p5)).az (Aa.z p4)).az (Aa.z p3)).az (Aa.z p2)).az (Aa.z p1)).az (Aa.z p0);refine AVf Cq AUj (cZ.klen<|Ad.z p0) (cZ.klen<|ATi Cv) rfl rfl (cZ.one<|Ad.z p0) (Ad.b p7) λAm Cx Cy=>AGw<|AGv<|AVl (λh'=>UpT [] Am h') AG3 ?_;have Ao:=Ad.sb p7 Cy Cx rfl;have Bh:UpT [] Am Am:=UpT.start all_nil;refine Ag6 (Ao.z p0) Bh (Ao.b p7) ?_;obtain ⟨Ej,Cz,C0⟩:=AGu Cp;refine AYh Ao Bh (Adg Cz) λEk El Em Bi C1=>AGq<|AGq ?_;obtain ⟨En,C2,C3⟩:=AGu C0;refine AYh Bi C1 (AWv (H6.ext Bi.x) C2) λEo Ep Er Bj C4=>AGq<|AGq ?_;obtain ⟨Es,C5,C6⟩:=AGu C3;refine AYh Bj C4 (AWv (H6.ext Bj.x) C5) λEt Eu Ev Ap C7=>?_;obtain ⟨Ew,C8,C9⟩:=AGu C6;refine AYh Ap C7 (Aiq (Ap.z p1).2 (Ap.z p0).2 C8) λEy Ez Fa Aq Da=>?_;obtain ⟨Fb,Db,Dc⟩:=AGu C9;refine AYh Aq Da (Aiq (Aq.z p3).2 (Aq.z p0).2 Db) λFc Fd Fe Ar Dd=>?_;obtain ⟨Ff,De,Df⟩:=AGu Dc;refine BE4 Ar Dd (Asz (Ar.z p5).2 (Ar.z p0).2 De) λFg Fh Dg Fi=>Afb rfl rfl (AG1<|AG6 ?_);obtain rfl:=AGs Df;exact ⟨_,AS9,Dg.x,rfl⟩
def Adm (fuel:Nat) (a3:LiI) (x5:LiA) (Ab Aa:Int) (Ac:LiI):Option ((Int × LiI) ⊕ ((LiI × Bool) ⊕ LiI)):=
 if 0<=Aa then (AZb fuel a3 x5 Ab Aa).bind λAh=>if (!Ah)=true then (gI Ac Aa).bind λAf=>(AWn fuel a3 Ab Aa).bind λAi=>(AVi fuel x5<|w64<|Aa + 1).bind λAj=>(AX7 fuel Ai Aj).bind λAg=>(AYk fuel Ag.1 Ag.2).bind λAk=>(Axz fuel Ak).bind λAm=>(gI Af Ab).bind λAo=>some (.inr<|.inl (sI Ac Aa<|sI Af Ab Am,true)) else some (.inl (w64<|Aa - 1,Ac)) else some<|.inr<|.inr Ac
def Adn (fuel:Nat) (a3:LiI) (x5:LiA) (Aa:Int) (Ae:LiI):Option ((Int × LiI) ⊕ ((LiI × Bool) ⊕ Unit)):=
 if Aa < (a3.length:Int) then (iter (λs=>Adm fuel a3 x5 Aa s.1 s.2) fuel (w64<|Aa - 1,Ae)).bind (λex=>match ex with | .inl Af=>(some<|.inr<|.inl Af) | .inr Ab=>if 0 < Aa then (AYw fuel a3 x5 Aa).bind λAg=>if (!Ag)=true then (gI Ab<|w64<|Aa - 1).bind λAh=>(gI Ab Aa).bind λAi=>some (.inr<|.inl (sI (sI Ab Aa Ah) (w64<|Aa - 1) Ai,true)) else some (.inl (w64<|Aa + 1,Ab)) else some<|.inl (w64<|Aa + 1,Ab)) else some<|.inr<|.inr ()
def AZx (fuel:Nat) (a3:LiI):Option (LiI × Bool):=
 (AW6 fuel a3).bind λ(x5,x6)=>(AWt fuel (a3.length:Int)).bind λ(Ac,Af)=>(iter (λs=>Adn fuel a3 x5 s.1 s.2) fuel (0,Ac)).bind (λex=>match ex with | .inl Ad=>(some Ad) | .inr _=>some ([],false))
theorem Alc {A3:Value} {r:(LiI × Bool)} (H2:AX8 cZ h A3 a3) (hp:AZx fuel a3=some r):AT3 Tryz.prog 68 #[A3] h (λx h'=>Ext h h'/\ ∃ (x0:Value) (F0:List Nat) (Br:List LnA) (Bt:List Value),x= .tuple #[x0,.bool r.2]/\AV3 cZ 146 129 h' F0 Br Bt x0 r.1/\Sp h' h.size [F0]):=by
 unfold AZx at hp;refine cwf (l:=[_]) Tryz.func68 rfl rfl (AGt<|ATu<|AT7<|AGq ?_);have K0:=Kst.k0 h;obtain ⟨⟨x5,x6⟩,Bu,A8⟩:=AGu hp;dsimp only at A8;refine Aeq rfl (Afc (H2.ext K0.x) Bu) λDh Di E9 Bw=>?_;obtain ⟨Dj,Dk,rfl,Bx,By⟩:=Bw;refine AGq<|AUh rfl rfl (AUh rfl rfl (ATu<|AT7<|AGq<|AUb AU3 rfl H2 ?_));obtain ⟨⟨Bz,Dl⟩,B3,A9⟩:=AGu A8;dsimp only at A9;refine Aeq rfl (Aex B3) λDo Dp B4 B5=>?_;obtain ⟨Ba,B6,B7,B8,rfl,B9,Ca⟩:=B5;refine AGq<|AUh rfl rfl (AUh rfl rfl (ATu<|AG1<|AGv<|AGt<|AGq<|AUb AU3 rfl H2 (AGq<|AGw<|AGx ?_)));have Bb:=(K0.no E9 By Bx).no2 B4 Ca B9;refine AYo 9671406556917033389261580 (λx:(Int) × (LiI) × LnA × LnN × LvA=>(x.1,x.2.1)) ((0,Bz,B6,B7,B8):(Int) × (LiI) × LnA × LnN × LvA) A9 (λx=>[(23,(.int .i64 x.1))]) (λx=>Bb.L.set 0<|aO2 cZ 146 129 x.2.2.1 x.2.2.2.1 x.2.2.2.2 Ba x.2.1) Bb ⟨rfl,trivial⟩ ?_;rintro ⟨Bc,Cb,Cd,Ce,Cf⟩ Dq Dr Ds Ag Ah Ai;unfold Adn at Ah;refine AGt<|ATz rfl rfl (AGw<|AGv<|⟨_,rfl,λAj=>?_,λAj=>?_⟩)
 ·refine AG5<|q_t<|AGv<|AGx<|AGt<|AGq<|AG1<|AGv<|AGt<|AGq<|AVm rfl rfl (AG1<|AGx<|AYo 72057593769493004 (λx:(Int) × (LiI) × LnA × LnN × LvA=>(x.1,x.2.1)) (((w64<|Bc - 1),Cb,Cd,Ce,Cf):(Int) × (LiI) × LnA × LnN × LvA) (AT9 Ah Aj) (λx=>[(9,(.int .i64 x.1))]) (λx=>Ag.L.set 0<|aO2 cZ 146 129 x.2.2.1 x.2.2.2.1 x.2.2.2.2 Ba x.2.1) Ag ⟨rfl,trivial⟩ ?_);rintro ⟨Be,Dt,Du,Dv,Dw⟩ Dx Dy Dz Aa Ak Bf;unfold Adm at Ak;refine AGv<|AGt<|AGq<|Afb rfl rfl (AGw<|⟨_,rfl,λAm=>?_,λAm=>?_⟩)
  ·refine AG5<|q_t<|AGv<|AGx<|AGt<|AGq<|AGq<|AGq<|AGq ?_;obtain ⟨D0,Cg,Bg⟩:=AGu<|AT9 Ak Am;refine AYn Aa (Aku (H2.ext Aa.x) (Aa.o p1).rd Cg) λAo D2 Ac=>AW0 rfl (AGw<|⟨_,rfl,λAp=>?_,λAp=>?_⟩)
   ·refine AGv<|AVl (λh'=>UpT [] Ao h') AG3 ?_;have Bh:UpT [] Ao Ao:=UpT.start all_nil;refine AGq<|AGq ?_;obtain ⟨D3,Aq,Ch⟩:=AGu<|ifT Bg Ap;refine AUy AU3 rfl (Ac.o2 p0) rfl Aq λD4 D5 D6 Ci Cj=>AVe AWx rfl Bh (λh' hb=>ATw Cj hb.ext) (AGq<|AGq<|AGq<|AGq ?_);obtain ⟨D7,Ck,Cm⟩:=AGu Ch;refine AYh Ac Bh (Ace (H2.ext Ac.x) Ck) λD8 D9 Ea Bi Cn=>AGq<|AGq<|ATp rfl rfl ?_;obtain ⟨Eb,Co,Cp⟩:=AGu Cm;refine AYh Bi Cn (AWv (Bi.o p2).rd Co) λEc Ed Ee Ar Au=>?_;obtain ⟨Ef,Cq,Cr⟩:=AGu Cp;refine AWs Au (λ_ E=>Au.thenE E) rfl (Ai2 (Ar.z p1).2 (Ar.z p0).2 Cq) λEg Eh Bj Ct=>?_;obtain ⟨Ei,rfl,Cu⟩:=Ct;have Cv:=Au.thenE Bj;obtain ⟨Ej,Ek,rfl,Cw,Cx⟩:=Cu;have Av:=((Ar.e Bj).az Cw).az Cx;obtain ⟨El,Cy,Cz⟩:=AGu Cr;refine AYh Av Cv (Ajq ⟨_,_,rfl,(Av.z p1),(Av.z p0)⟩ Cy) λEm En Eo Bl C0=>?_;obtain ⟨Ep,C1,C2⟩:=AGu Cz;refine AYh Bl C0 (Avz (Bl.z p0).2 C1) λEr Es Et Ad Eu=>?_;obtain ⟨Ev,Bm,C3⟩:=AGu C2;refine AU7 (m:=Be) AV5 rfl (Ac.o2 p0) Ci Aq rfl Bm λEw C4=>AYs (m:=Be) (Aj9 AUj (cZ.klen<|Ad.z p0) rfl rfl (cZ.one<|Ad.z p0)) (Ad.o2 p6) C4 Aq Bm (Ad.z p0) λEy C5 C6=>AZ4<|AGq<|ATu<|AG1<|AG6<|AUp<|ATj<|ATj<|AUp<|ATj<|AUp<|ATj<|ATj<|AUp<|ATj ?_;have Aw:=Ad.uO2 p6 C6 C5;obtain rfl:=AGs<|Ai _ (AGs<|Bf _ (AGs C3).symm).symm;exact ⟨_,AU0,Aw.x,_,_,_,_,rfl,(Aw.o2 p6),Aw.s.sel [6] AGr⟩
   ·refine AG5<|q_b<|q_t<|ATc<|AGq<|AVm rfl rfl (AG1 ?_);exact ⟨(_,_,_,_,_),(AGs<|Abh Bg Ap).symm,Ac,rfl,trivial⟩
  ·refine ATk<|ATl<|ATl<|AUi<|q_t<|AGt<|AGq<|AZv rfl rfl (AGq ?_);have Bn:=Bf _ (AGs<|AUa Ak Am).symm;by_cases Af:0 < Bc
   ·rw [decide_eq_true Af];refine ATt 58 true<|AGq<|ATt 58 true<|AGq<|ATt 58 true<|AGq<|ATt 58 true ?_;obtain ⟨Ez,C7,Bo⟩:=AGu<|ifT Bn Af;refine AYn Aa (Aj3 (H2.ext Aa.x) (Aa.o p1).rd C7) λFa Fb Ae=>ATt 58 true<|AW0 rfl (ATn rfl (AGw<|⟨_,rfl,λAx=>?_,λAx=>?_⟩))
    ·refine AGv<|AWg<|AGq<|AGq<|AGq<|AGq<|AVm rfl rfl (AGq<|AGq<|AVm rfl rfl ?_);obtain ⟨Fc,Bp,C8⟩:=AGu<|ifT Bo Ax;refine AUs AU3 AWx (Ae.o2 p0) Bp λ_ Fd C9=>AGq<|AGq ?_;obtain ⟨Fe,Bq,Da⟩:=AGu C8;refine AUs AU3 AWx (Ae.o2 p0) Bq λ_ Ff Db=>Agj AU3 AWx (Ae.o2 p0) Db C9 Bq Bp rfl rfl (λ_=>rfl) (λ_=>rfl) (λ_=>rfl) (λ_ _=>rfl) λFg Fh Fi Fj Fk Fl Dc Dd De=>AZ4<|AGq<|ATu<|AG1<|AG6<|AUp<|ATj<|ATj<|AUp<|ATj ?_;have Ay:=Ae.uo2 p0 Dd Dc De;obtain rfl:=AGs<|Ai _ (AGs Da).symm;exact ⟨_,AU0,Ay.x,_,_,_,_,rfl,(Ay.o2 p0),Ay.s.sel [0] AGr⟩
    ·refine AG5<|q_b<|q_t<|ATc<|ATp rfl rfl (AGq<|AGw ?_);exact ⟨(_,_,_,_,_),(AGs<|Abh Bo Ax).symm,Ae,rfl,trivial⟩
   ·rw [decide_eq_false Af];refine AY4 58 false<|ATx rfl (AGw<|ATy rfl (AG5<|q_b<|q_t<|ATc<|ATp rfl rfl (AGq<|AGw ?_)));exact ⟨(_,_,_,_,_),(AGs<|ifF Bn Af).symm,Aa,rfl,trivial⟩
 ·refine ATk<|ATl<|ATl<|AUi<|q_t<|AGt<|ATu<|AG1<|AG6 ?_;have Az:=Kst.anil2 cZ 146 129 Ag;obtain rfl:=AGs<|Ai _ (AGs<|AUa Ah Aj).symm;exact ⟨_,AU0,Az.x,_,_,_,_,rfl,(Az.o2 p0),Az.s.sel [0] AGr⟩
def Acf (fuel:Nat) (Aa Ab:LiI):Option ((LiI × LiI) ⊕ (LiI × LiI × Int)):=
 (AZx fuel Aa).bind λ(Ac,Ad)=>if (!Ad)=true then (AYv fuel Aa).bind λ(Ae,Ah)=>some (.inr (Ae,Ab,0)) else (AVz fuel Aa Ac).bind λAf=>(AVh fuel Ab Ac).bind λAg=>some<|.inl (Af,Ag)
def AXm (fuel:Nat) (a3:LiI):Option (LiI × LiI × Int):=
 (AWu fuel a3).bind λx5=>if ¬ x5=0 then some ([],[],x5) else (AZc fuel a3).bind λAc=>if (!Ac)=true then some ([],[],7) else (AYi fuel a3).bind λAd=>(AWt fuel (a3.length:Int)).bind λ(Ae,Ag)=>(iter (λs=>Acf fuel s.1 s.2) fuel (Ad,Ae)).bind (λ(Af:(LiI × LiI × Int))=>some Af)
theorem Afz {Ao:Value} {r:(LiI × LiI × Int)} (H2:AX8 cZ h Ao a3) (hp:AXm fuel a3=some r):AT3 Tryz.prog 29 #[Ao] h (λx h'=>Ext h h'/\ ∃ (x0:Value) (F0:List Nat) (A7:List LnA) (A8:List Value) (x1:Value) (F1:List Nat) (A9:List LnA) (Ba:List Value),x= .tuple #[x0,x1,.int .i64 r.2.2]/\AV3 (cI .i64) 61 2 h' F0 A7 A8 x0 r.1/\AV3 cZ 146 129 h' F1 A9 Ba x1 r.2.1/\Sp h' h.size [F0,F1]):=by
 unfold AXm at hp;refine cwf (l:=[_]) Tryz.func29 rfl rfl (AGt<|ATu<|ATu<|AG1<|AGv<|AGt<|AGq ?_);have K0:=Kst.k0 h;obtain ⟨x5,Bb,Ax⟩:=AGu hp;refine AYn K0 (Aey (H2.ext K0.x) Bb) λh9 E8 Af=>AT7<|AGq<|AV2 rfl rfl (AGw<|⟨_,rfl,λAg=>?_,λAg=>?_⟩)
 ·refine AGt<|AGq<|ATu<|ATu<|AG1<|AG6<|ATj ?_;have Ac:=Kst.anil2 cZ 146 129<|Kst.anil2 (cI .i64) 61 2 Af;obtain rfl:=AGs<|AT9 Ax Ag;exact ⟨_,Ab5,Ac.x,_,_,_,_,_,_,_,_,rfl,(Ac.o2 p1),(Ac.o2 p0),Ac.s.sel [1,0] AGr⟩
 ·refine AG5<|q_t<|AGv<|AGt<|AGq ?_;obtain ⟨Cm,Bc,Ay⟩:=AGu<|AUa Ax Ag;refine AYn Af (Akv (H2.ext Af.x) Bc) λCn Co Ah=>AW0 rfl (AGw<|⟨_,rfl,λAi=>?_,λAi=>?_⟩)
  ·refine AGt<|ATu<|ATu<|AG1<|AG6<|ATj ?_;have Ad:=Kst.anil2 cZ 146 129<|Kst.anil2 (cI .i64) 61 2 Ah;obtain rfl:=AGs<|ifT Ay Ai;exact ⟨_,Ab5,Ad.x,_,_,_,_,_,_,_,_,rfl,(Ad.o2 p1),(Ad.o2 p0),Ad.s.sel [1,0] AGr⟩
  ·refine AG5<|q_t<|AGt<|AGq ?_;obtain ⟨Be,Bf,Bg⟩:=AGu<|Abh Ay Ai;refine Ahr Ah (Ago (H2.ext Ah.x) Bf) λBh Bi Bj Bl Cp Cq Bm=>AT7<|AGq<|AUb AU3 rfl H2 ?_;obtain ⟨⟨Bn,Cr⟩,Bo,Az⟩:=AGu Bg;dsimp only at Az;refine Aeq rfl (Aex Bo) λCt Cu Bp Bq=>?_;obtain ⟨Br,Bt,Bu,Bv,rfl,Bw,Bx⟩:=Bq;refine AGq<|AUh rfl rfl (AUh rfl rfl (ATu<|AG1<|AGx ?_));have A3:=Bm.no2 Bp Bx Bw;refine AYo 562949416558300 (λx:(LiI) × (Value) × LnA × LnN × LvA × (LiI) × (Value) × LnA × LnN × LvA=>(x.1,x.2.2.2.2.2.1)) ((Be,Bl,Bh,Bi,Bj,Bn,Br,Bt,Bu,Bv):(LiI) × (Value) × LnA × LnN × LvA × (LiI) × (Value) × LnA × LnN × LvA) Az (λx=>[(6,x.2.1),(7,x.2.2.2.2.2.2.1)]) (λx=>(A3.L.set 1<|aO2 cZ 146 129 x.2.2.1 x.2.2.2.1 x.2.2.2.2.1 x.2.1 x.1).set 0 (aO2 cZ 146 129 x.2.2.2.2.2.2.2.1 x.2.2.2.2.2.2.2.2.1 x.2.2.2.2.2.2.2.2.2 x.2.2.2.2.2.2.1 x.2.2.2.2.2.1)) A3 ⟨rfl,rfl,trivial⟩ ?_;rintro ⟨Cv,Cw,Cx,Cy,Cz,C0,C1,C2,C3,C4⟩ C5 C6 C7 A4 A5 By;unfold Acf at A5;refine AGx<|AGt<|AGq ?_;obtain ⟨⟨C8,C9⟩,Bz,Aj⟩:=AGu A5;dsimp only at Aj;refine Aeq rfl (Alc (A4.o2 p1).rd Bz) λDa Db B3 B4=>?_;obtain ⟨Dc,Dd,De,Df,rfl,B5,B6⟩:=B4;refine AGq<|AUh rfl rfl (AUh rfl rfl (ATu<|AG1<|AGv<|AGt<|AGq<|AW0 rfl (AGw ?_)));have Aa:=A4.no2 B3 B6 B5;refine ⟨_,rfl,λAk=>?_,λAk=>?_⟩
   ·refine AGt<|AGq ?_;obtain ⟨⟨Dg,Dh⟩,B7,A6⟩:=AGu<|ifT Aj Ak;dsimp only at A6;refine Aeq rfl (Aj2 (Aa.o2 p2).rd B7) λDi Dj B8 B9=>?_;obtain ⟨Dk,Dl,Do,Dp,rfl,Ca,Cb⟩:=B9;refine AGq<|AUh rfl rfl (AUh rfl rfl (ATu<|AT7<|AGq<|AGq<|ATu<|ATu<|AG1<|AG6<|ATj<|AUp<|ATj<|AUp ?_));have Ae:=Aa.no2 B8 Cb Ca;obtain rfl:=AGs<|By _ (AGs A6).symm;exact ⟨_,Ab5,Ae.x,_,_,_,_,_,_,_,_,rfl,(Ae.o2 p0),(Ae.o2 p2),Ae.s.sel [0,2] AGr⟩
   ·refine AG5<|q_t<|ATc<|AGq<|AGq ?_;obtain ⟨Dq,Cd,Ce⟩:=AGu<|Abh Aj Ak;refine Ahr Aa (Aem (Aa.o2 p2).rd (Aa.o2 p0).rd Cd) λDr Ds Dt Du Dv Dw Am=>AGq<|AGq ?_;obtain ⟨Dx,Cf,Cg⟩:=AGu Ce;refine Ahr Am (Abn (Am.o2 p2).rd (Am.o2 p1).rd Cf) λDy Dz D0 D2 D3 D4 Ch=>ATu<|ATu<|ATr<|q_b<|q_t ?_;exact ⟨(_,_,_,_,_,_,_,_,_,_),(AGs Cg).symm,Ch.sel [0,1] AGr,rfl,rfl,trivial⟩
end Go.Proofs.YtkakafabeobahaaGreatDoor
namespace Go.QF
open Go
def Ok {α:Type} (o:Option α) (Q:α->Prop):Prop:= ∃ r,o=some r/\Q r
theorem AGy {a:α} {Q:α->Prop} (h:Q a):Ok (some a) Q:=⟨a,rfl,h⟩
theorem AG4 {β:Type} {o:Option α} {f:α->Option β} {Q:α->Prop} {R:β->Prop} (h:Ok o Q) (k:∀ x,Q x->Ok (f x) R):Ok (o.bind f) R:=by
 obtain ⟨x,rfl,hx⟩:=h;exact k x hx
theorem AT2 {c:Prop} [Decidable c] {a b:Option α} {R:α->Prop} (ht:c->Ok a R) (hf: ¬ c->Ok b R):Ok (if c then a else b) R:=by
 grind
theorem AVb {c:Prop} [Decidable c] {a:Option α} {R:α->Prop} (hc:c) (h:Ok a R):Ok (if c then a else none) R:=by grind
theorem ok_eq {o:Option α} {a:α} (h:Ok o (· =a)):o=some a:=by obtain ⟨x,h1,rfl⟩:=h;exact h1
theorem AUn {o:Option α} {a:α} (h:o=some a):Ok o (· =a):=⟨a,h,rfl⟩
theorem AT0 {β:Type} {L:List α} {i:Int} {n:Nat} {x:α} {f:α->Option β} {R:β->Prop} (hx:L[n]? =some x) (hi:i=n) (k:Ok (f x) R):Ok ((gI L i).bind f) R:=by
 subst hi;unfold gI;grind
theorem AUk {S E:Type} {body:S->Option (S ⊕ E)} {s0:S} (I:Nat->S->Prop) (n:Nat) {Q:E->Prop} (h0:I 0 s0) (hf:n < fuel) (hs:∀ i s,i<=n->I i s->Ok (body s) λr=>match r with | .inl s'=>i < n/\I (i + 1) s' | .inr e=>Q e):Ok (iter body fuel s0) Q:=by
 have key:∀ k fuel i s,n - i=k->k < fuel->i<=n->I i s->Ok (iter body fuel s) Q:=by
  intro k;induction k with
  | zero=>
    intro fuel i s hk hf hi hI;obtain ⟨r,hr,hq⟩:=hs i s hi hI;cases fuel with
    | zero=>omega
    | succ f=>
      cases r with
      | inl s'=>omega
      | inr e=>exact ⟨e,by simp [iter,hr],hq⟩
  | succ k ih=>
    intro fuel i s hk hf hi hI;obtain ⟨r,hr,hq⟩:=hs i s hi hI;cases fuel with
    | zero=>omega
    | succ f=>
      cases r with
      | inl s'=>
        obtain ⟨e,he,hQ⟩:=ih f (i + 1) s' AGp AGp AGp hq.2;exact ⟨e,by simp [iter,hr,he],hQ⟩
      | inr e=>exact ⟨e,by simp [iter,hr],hq⟩
 grind
theorem AW1 (h1: -9223372036854775808<=x) (h2:x<=9223372036854775807):w64 x=x:=by
 show IntKind.i64.wrap x=x;rw [IntKind.wrap_i64];omega
theorem wk (h: -9223372036854775808<=x/\x<=9223372036854775807):w64 x=x:=AW1 h.1 h.2
def AV0 {α:Type} (m:Nat) (f:Nat->α):List α:=(List.range m).map f
theorem AUv (m:Nat) (f:Nat->α):(AV0 m f).length=m:=by simp [AV0]
theorem AT4 {m:Nat} {f:Nat->α} (h:j < m):(AV0 m f)[j]? =some (f j):=by simp [AV0,h]
theorem AUq {m:Nat} {f g:Nat->α} (h:∀ j,j < m->f j=g j):AV0 m f=AV0 m g:=by
 unfold AV0;simp_all
theorem AWi {m:Nat} {f:Nat->α} {x:α}:(AV0 m f).set j x=AV0 m λc=>if c=j then x else f c:=by
 apply List.ext_getElem?;intro i;rw [List.getElem?_set];by_cases h:j=i
 ·subst h;simp only [if_true,AUv];by_cases hj:j < m
  ·simp [hj,AT4 hj]
  ·simp [hj,AV0]
 ·rw [if_neg h];by_cases hi:i < m
  ·rw [AT4 hi,AT4 hi,if_neg λhe=>h he.symm]
  ·simp [AV0,hi]
theorem Ahs (m:Nat) (f:Nat->α):AV0 m f ++ [f m]=AV0 (m + 1) f:=by simp [AV0,List.range_succ]
theorem AYx (m:Nat) (a:α):List.replicate m a=AV0 m λ_=>a:=by
 apply List.ext_getElem?;intro i;by_cases h:i < m
 ·rw [AT4 h];simp [h]
 ·simp [AV0,h]
theorem Aib (r c:Nat) (F:ATa):tab r c F=AV0 r λi=>AV0 c (F i):=rfl
theorem AUl {c:Nat} (h:i < r):(tab r c F)[i]? =some (AV0 c<|F i):=AT4 (f:=λi=>AV0 c<|F i) h
theorem A6f {c:Nat}:(tab r c F).set i (AV0 c λq=>if q=j then x else F i q)=tab r c (AU4 F i λq=>if q=j then x else F i q):=Ade
theorem AU1 (L:List α) (n:Nat) (x:α):sI L (n:Int) x=L.set n x:=by simp [sI]
end Go.QF
namespace Go.QF
theorem An8 (F:ATa) (i:Nat) (f g:Nat->Int):AU4 (AU4 F i f) i g=AU4 F i g:=by
 funext k;by_cases h:k=i
 ·subst h;rw [AU8,AU8]
 ·rw [AYq _ _ h,AYq _ _ h,AYq _ _ h]
theorem Aht (F:ATa) (i:Nat):AU4 F i (F i)=F:=by
 funext k;by_cases h:k=i
 ·subst h;rw [AU8]
 ·rw [AYq _ _ h]
theorem Acn (f g:Nat->Int) (n:Nat):psum (λi=>f i + g i) n=psum f n + psum g n:=by
 induction n with
 | zero=>rfl
 | succ n ih=>simp only [psum];rw [ih];omega
theorem AWb (c:Int) (f:Nat->Int) (n:Nat):psum (λi=>c * f i) n=c * psum f n:=by
 induction n with
 | zero=>simp [psum]
 | succ n ih=>simp only [psum];grind
theorem AW7 (n:Nat):psum (λ_=>0) n=0:=by
 induction n with
 | zero=>rfl
 | succ n ih=>simp only [psum];rw [ih];rfl
theorem Ai8 (f:ATa) (n m:Nat):psum (λi=>psum (λj=>f i j) m) n=psum (λj=>psum (λi=>f i j) n) m:=by
 induction n with
 | zero=>simp only [psum];exact (AW7 m).symm
 | succ n ih=>
   simp only [psum]
   rw [ih,<- Acn]
theorem A6g {n:Nat} (ha:a < n) (h:∀ i,i≠a->g i=f i):psum g n=psum f n + (g a - f a):=by
 induction n with
 | zero=>omega
 | succ n ih=>
   simp only [psum]
   by_cases hn:a=n
   ·subst hn;rw [ATf (f:=g) (g:=f) λk hk=>h k AGp];omega
   grind
theorem Ado {n:Nat} (ha:a < n) (h:∀ i,i≠a->f i=0):psum f n=f a:=by
 rw [A6g (f:=λ_=>0) ha h,AW7];omega
def Eqm (m a b:Int):Prop:=a % m=b % m
theorem Eqm.refl (m a:Int):Eqm m a a:=rfl
theorem Eqm.of_eq {m a b:Int} (h:a=b):Eqm m a b:=h ▸ rfl
theorem Eqm.symm {m a b:Int} (h:Eqm m a b):Eqm m b a:=Eq.symm h
theorem Eqm.trans {m a b c:Int} (h:Eqm m a b) (k:Eqm m b c):Eqm m a c:=Eq.trans h k
theorem Eqm.add {m a b c:Int} (h:Eqm m a b) (k:Eqm m c d):Eqm m (a + c) (b + d):=by
 unfold Eqm at *;rw [Int.add_emod,h,k,<- Int.add_emod]
theorem Eqm.sub {m a b c:Int} (h:Eqm m a b) (k:Eqm m c d):Eqm m (a - c) (b - d):=by
 unfold Eqm at *;rw [Int.sub_emod,h,k,<- Int.sub_emod]
theorem Eqm.mul {m a b c:Int} (h:Eqm m a b) (k:Eqm m c d):Eqm m (a * c) (b * d):=by
 unfold Eqm at *;rw [Int.mul_emod,h,k,<- Int.mul_emod]
theorem Eqm.mod (m a:Int):Eqm m (a % m) a:=Int.emod_emod_of_dvd a<|Int.dvd_refl m
theorem Eqm.psum {m:Int} {f g:Nat->Int} {n:Nat} (h:∀ i,i < n->Eqm m (f i) (g i)):Eqm m (psum f n) (psum g n):=by
 induction n with
 | zero=>rfl
 | succ n ih=>exact (ih λi hi=>h i AGp).add (h n AGp)
theorem Eqm.zero {m a:Int} (h:Eqm m a 0):a % m=0:=by simpa [Eqm] using h
theorem A3p {m a b:Int} (h:Eqm m a b) (ha:0<=a/\a < m) (hb:0<=b/\b < m):a=b:=by
 unfold Eqm at h;rwa [Int.emod_eq_of_lt ha.1 ha.2,Int.emod_eq_of_lt hb.1 hb.2] at h
end Go.QF
namespace Go.QF
theorem Ax4 (hk:k<=r) (h:∀ i,k<=i->i < r->f i=0):psum f r=psum f k:=by
 induction r with
 | zero=>rw [Nat.le_zero.1 hk]
 | succ r ih=>
   rcases Nat.lt_or_ge k (r + 1) with h1 | h1
   ·simp only [psum]
    rw [ih AGp λi h2 h3=>h i h2 AGp,h r AGp AGp];omega
   ·obtain rfl:k=r + 1:=by omega
    rfl
def dl (a b:Nat):Int:=if a=b then 1 else 0
def skp (i a:Nat):Nat:=if a < i then a else a + 1
def usk (i r:Nat):Nat:=if r < i then r else r - 1
def sg (i:Nat):Int:=if i % 2=0 then 1 else -1
theorem A1v (i:Nat):sg (i + 1)= -sg i:=by unfold sg;omega
theorem BCu (i a:Nat):skp i a≠i:=by unfold skp;split <;> omega
theorem A6h {n:Nat} (ha:a < n):skp i a < n + 1:=by unfold skp;split <;> omega
theorem A9z (h:r≠i):skp i (usk i r)=r:=by
 unfold usk;split <;> (unfold skp;split <;> omega)
theorem A90 (h:skp i a=r):a=usk i r:=by unfold skp at h;unfold usk;grind
theorem A6i {n:Nat} (h:r≠i) (hi:i < n + 1) (hr:r < n + 1):usk i r < n:=by unfold usk;split <;> omega
theorem AT6 (F:ATa) (a:Nat) (g:Nat->Int) (i j:Nat):AU4 F a g i j=if i=a then g j else F i j:=by
 unfold AU4;split <;> rfl
theorem Afq (F:ATa) (a b i j:Nat):AYg F a b i j=if i=b then F a j else if i=a then F b j else F i j:=by
 unfold AYg;rw [AT6,AT6]
def AW4 (i:Nat) (F:ATa):ATa:=λa b=>F (skp i a)<|b + 1
def det:Nat->(ATa)->Int
 | 0,_=>1
 | n + 1,F=>psum (λi=>sg i * F i 0 * det n (AW4 i F))<|n + 1
theorem AUd:∀ {n:Nat} {F G:ATa},(∀ i j,i < n->j < n->F i j=G i j)->det n F=det n G:=by
 intro n
 induction n with
 | zero=>intro _ _ _;rfl
 | succ n ih=>
   intro F G h
   refine ATf λi hi=>?_
   rw [h i 0 hi AGp,ih (F:=AW4 i F) (G:=AW4 i G) λa b ha hb=>h _ _ (A6h ha) AGp]
theorem Amj (h:r≠i):AW4 i (AU4 F r g)=AU4 (AW4 i F) (usk i r) (λb=>g<|b + 1):=by
 funext a b;unfold AW4 AU4;by_cases ha:skp i a=r
 ·rw [if_pos ha,if_pos<|A90 ha]
 ·rw [if_neg ha,if_neg λhe=>ha<|by rw [he,A9z h]]
theorem Amw:AW4 i (AU4 F i g)=AW4 i F:=by
 funext a b;unfold AW4;rw [AYq _ _<|BCu i a]
theorem Akg:∀ {n:Nat} {F:ATa} {r:Nat} (u v:Nat->Int) (c d:Int),r < n->det n (AU4 F r λq=>c * u q + d * v q)=c * det n (AU4 F r u) + d * det n (AU4 F r v):=by
 intro n
 induction n with
 | zero=>omega
 | succ n ih=>
   intro F r u v c d hr
   simp only [det]
   rw [<- AWb,<- AWb,<- Acn]
   refine ATf λi hi=>?_
   by_cases h:r=i
   ·subst h
    simp only [Amw,AU8]
    grind
   ·rw [Amj h,Amj h,Amj h,AYq _ _<|Ne.symm h,AYq _ _<|Ne.symm h,AYq _ _<|Ne.symm h,ih (λb=>u<|b + 1) (λb=>v<|b + 1) c d<|A6i h hi hr]
    grind
theorem A6j {n s:Nat} (hr:r < n) (hs:s < n) (hrs:r≠s) (h:∀ i,i < n->i≠r->i≠s->f i=0):psum f n=f r + f s:=by
 have h1:psum f n=psum (λi=>(if i=r then f r else 0) + (if i=s then f s else 0)) n:=ATf λi hi=>by
  grind
 rw [h1,Acn,Ado (f:=λi=>if i=r then f r else 0) hr λi hi=>if_neg hi,Ado (f:=λi=>if i=s then f s else 0) hs λi hi=>if_neg hi,if_pos rfl,if_pos rfl]
theorem A1w:∀ {n:Nat} {F:ATa} {r:Nat},r + 1 < n->(∀ q,q < n->F r q=F (r + 1) q)->det n F=0:=by
 intro n
 induction n with
 | zero=>omega
 | succ n ih=>
   intro F r hr h
   simp only [det]
   rw [A6j (r:=r) (s:=r + 1) AGp AGp AGp]
   ·have:det n (AW4 r F)=det n (AW4 (r + 1) F):=AUd λa b ha hb=>by
     unfold AW4 skp
     grind
    rw [this,A1v,h 0 AGp]
    grind
   ·intro i hi h1 h2
    rcases Nat.lt_or_ge i r with hlt | hge
    ·rw [ih (F:=AW4 i F) (r:=r - 1) AGp]
     ·simp
     ·intro q hq
      unfold AW4 skp
      grind
    ·rw [ih (F:=AW4 i F) (r:=r) AGp]
     ·simp
     ·intro q hq
      unfold AW4 skp
      grind
theorem Ai9 {b:Nat} (h:a≠b) (u v:Nat->Int):AU4 (AU4 F a u) b v=AU4 (AU4 F b v) a u:=by
 funext k;unfold AU4;grind
theorem Ax5 {n:Nat} {b:Nat} (ha:a < n) (hb:b < n) (hab:a≠b) (h0:∀ G:ATa,G a=G b->det n G=0):det n (AYg F a b)= -det n F:=by
 have key:∀ u v:Nat->Int,det n (AU4 (AU4 F a u) b v)= -det n (AU4 (AU4 F a v) b u):=by
  intro u v;have h1:=h0 (AU4 (AU4 F a λq=>1 * u q + 1 * v q) b λq=>1 * u q + 1 * v q) (by rw [AU8,AYq _ _ hab,AU8]);rw [Akg u v 1 1 hb,Ai9 hab,Ai9 hab,Akg u v 1 1 ha,Akg u v 1 1 ha,Ai9<|Ne.symm hab,Ai9<|Ne.symm hab,Ai9<|Ne.symm hab,Ai9<|Ne.symm hab] at h1;have h2:=h0 (AU4 (AU4 F a u) b u) (by rw [AU8,AYq _ _ hab,AU8]);have h3:=h0 (AU4 (AU4 F a v) b v) (by rw [AU8,AYq _ _ hab,AU8]);omega
 unfold AYg;rw [key (F b)<|F a,Aht];rw [show AU4 F b (F b)=F from Aht F b]
theorem A1x:∀ {d n:Nat} {F:ATa} {a:Nat},a + d + 1 < n->F a=F (a + d + 1)->det n F=0:=by
 intro d
 induction d with
 | zero=>intro n F a hn h;exact A1w hn λq _=>by rw [h]
 | succ d ih=>
   intro n F a hn h
   have h1:=Ax5 (n:=n) (F:=F) (a:=a + d + 1) (b:=a + d + 1 + 1) AGp AGp AGp λG hG=>A1w (r:=a + d + 1) AGp λq _=>congrFun hG q
   have h2:=ih (n:=n) (F:=AYg F (a + d + 1)<|a + d + 1 + 1) (a:=a) AGp (by rw [Aqc,Asd _ AGp AGp,h];rfl)
   omega
theorem Agq {n:Nat} {b:Nat} (ha:a < n) (hb:b < n) (hab:a≠b) (h:F a=F b):det n F=0:=by
 rcases Nat.lt_or_ge a b with hlt | hge
 ·exact A1x (d:=b - a - 1) (a:=a) AGp (by grind)
 ·exact A1x (d:=a - b - 1) (a:=b) AGp (by grind)
theorem Ajr {n:Nat} {b:Nat} (ha:a < n) (hb:b < n) (hab:a≠b):det n (AYg F a b)= -det n F:=
 Ax5 ha hb hab λ_ h=>Agq ha hb hab h
theorem Auo {n:Nat} (u:Nat->Int) (c:Int) (hr:r < n):det n (AU4 F r λq=>c * u q)=c * det n (AU4 F r u):=by
 have:=Akg (F:=F) u (λ_=>0) c 0 hr;grind
theorem Ag8 {n:Nat} (hr:r < n) (h:∀ q,q < n->F r q=0):det n F=0:=by
 have:=Auo (F:=F) (F r) 0 hr;rw [Int.zero_mul] at this;rw [<- this]
 exact AUd λi j hi hj=>by
  unfold AU4
  split
  ·grind
  ·rfl
theorem Afd {n:Nat} {b:Nat} (ha:a < n) (hb:b < n) (hab:a≠b) (q:Int):det n (AU4 F a λx=>F a x + q * F b x)=det n F:=by
 have:=Akg (F:=F) (F a) (F b) 1 q ha;rw [Aht,Agq (F:=AU4 F a<|F b) ha hb hab<|by rw [AU8,AYq _ _<|Ne.symm hab]] at this;grind
theorem As0 {n:Nat} (hr:r < n) (y:Nat->Int) (u:ATa):∀ t,det n (AU4 F r λq=>psum (λk=>y k * u k q) t)=psum (λk=>y k * det n (AU4 F r<|u k)) t:=by
 intro t
 induction t with
 | zero=>exact Ag8 hr λq _=>by rw [AU8];rfl
 | succ t ih=>
   have:=Akg (F:=F) (λq=>psum (λk=>y k * u k q) t) (u t) 1 (y t) hr
   simp only [psum]
   grind
theorem A6k {n:Nat} (hr:r < n) (y:Nat->Int):det n (AU4 F r λq=>psum (λk=>y k * F k q) n)=y r * det n F:=by
 rw [As0 hr y F n,ATf (g:=λk=>if k=r then y r * det n F else 0),Ado hr λi hi=>if_neg hi,if_pos rfl];intro k hk
 by_cases h:k=r
 ·subst h;rw [if_pos rfl,Aht]
 ·rw [if_neg h,Agq (F:=AU4 F r<|F k) hr hk (Ne.symm h)<|by rw [AU8,AYq _ _ h]];simp
def AY5 (f:Nat->Int):Nat->Int
 | 0=>1
 | n + 1=>AY5 f n * f n
theorem Aq6 (f:Nat->Int) (n:Nat):AY5 f (n + 1)=f 0 * AY5 (λi=>f<|i + 1) n:=by
 induction n with
 | zero=>simp [AY5]
 | succ n ih=>rw [AY5,ih,AY5];grind
theorem Ann {n:Nat} (h:∀ i,i < n->f i=g i):AY5 f n=AY5 g n:=by
 induction n with
 | zero=>rfl
 | succ n ih=>rw [AY5,AY5,ih λi hi=>h i AGp,h n AGp]
theorem Ald:∀ {n:Nat} {F:ATa},Zc n F n->det n F=AY5 (λi=>F i i) n:=by
 intro n
 induction n with
 | zero=>intro _ _;rfl
 | succ n ih=>
   intro F h
   rw [Aq6,det,ATf (g:=λi=>if i=0 then F 0 0 * det n (AW4 0 F) else 0),Ado (a:=0) AGp λi hi=>if_neg hi,if_pos rfl]
   ·rw [ih (F:=AW4 0 F) (λc' i h1 h2 h3=>by unfold AW4 skp;rw [if_neg AGp];exact h (c' + 1) (i + 1) AGp AGp AGp)]
    rfl
   ·intro i hi
    by_cases h0:i=0
    ·subst h0;simp [sg]
    ·rw [if_neg h0,h 0 i AGp AGp hi];simp
theorem Aup:∀ {n:Nat} {F:ATa},(∀ i j,i < j->j < n->F i j=0)->det n F=AY5 (λi=>F i i) n:=by
 intro n
 induction n with
 | zero=>intro _ _;rfl
 | succ n ih=>
   intro F h
   rw [Aq6,det,ATf (g:=λi=>if i=0 then F 0 0 * det n (AW4 0 F) else 0),Ado (a:=0) AGp λi hi=>if_neg hi,if_pos rfl]
   ·rw [ih (F:=AW4 0 F) (λi j h1 h2=>by unfold AW4 skp;grind)]
    rfl
   ·intro i hi
    by_cases h0:i=0
    ·subst h0;simp [sg]
    ·rw [if_neg h0,Ag8 (F:=AW4 i F) (r:=0) AGp (λq hq=>by unfold AW4 skp;grind)];simp
def Aos (F:ATa) (c i:Nat) (q:Int):ATa:=AYg (AU4 F c λx=>F c x + -q * F i x) c i
theorem A1y (F:ATa) {c:Nat} (q:Int):Aos F c i q i=λx=>F c x + -q * F i x:=by
 unfold Aos;rw [Axm,AU8]
theorem A91 (F:ATa) {c:Nat} (h:c≠i) (q:Int):Aos F c i q c=F i:=by
 unfold Aos;rw [Aqc,AYq _ _<|Ne.symm h]
theorem Ax6 (F:ATa) {c:Nat} (hc:k≠c) (hi:k≠i) (q:Int):Aos F c i q k=F k:=by
 unfold Aos;rw [Asd _ hc hi,AYq _ _ hc]
theorem A6l {n:Nat} {c:Nat} (H:Zc n F c) (hci:c < i) (hi:i < n):Zc n (Aos F c i q) c:=by
 intro c' k h1 h2 h3;by_cases hk:k=i
 ·subst hk;rw [A1y];simp [H c' c h1 h1 AGp,H c' k h1 h2 h3]
 ·by_cases Ad:k=c
  ·subst Ad;rw [A91 F hk];exact H c' i h1 AGp hi
  ·rw [Ax6 F Ad hk];exact H c' k h1 h2 h3
theorem A6m {c:Nat} (H:Zi F c i):Zi (Aos F c i q) c i:=by
 intro k h1 h2;rw [Ax6 F AGp AGp];exact H k h1 h2
theorem A1z {n:Nat} {P:(ATa)->Prop} (hadd:∀ F a b q,a < n->b < n->a≠b->P (AU4 F a λx=>F a x + q * F b x)->P F) (hswap:∀ F a b,a < n->b < n->a≠b->P (AYg F a b)->P F) (htri:∀ F,Zc n F n->P F):∀ F,P F:=by
 have key:∀ d c,c + d=n-> ∀ F,Zc n F c->P F:=by
  intro d;induction d with
  | zero=>grind
  | succ d ih=>
    intro c hc
    have inner:∀ e i,i + e=n->c < i-> ∀ F,Zc n F c->Zi F c i->P F:=by
     intro e;induction e with
     | zero=>
        intro i hi hci F hF hz;obtain rfl:i=n:=by omega
        exact ih (c + 1) AGp F (A86 hF hz)
     | succ e ihe=>
       intro i hi hci
       have strong:∀ k F,(F i c).natAbs=k->Zc n F c->Zi F c i->P F:=by
        intro k;induction k using Nat.strongRecOn with
        | _ k ihk=>
          intro F hk hF hz
          by_cases h0:F i c=0
          ·exact ihe (i + 1) AGp AGp F hF<|A85 hz h0
          ·refine hadd F c i (-(F c c / F i c)) AGp AGp AGp<|hswap _ c i AGp AGp AGp ?_;refine ihk ((Aos F c i<|F c c / F i c) i c).natAbs ?_ (Aos F c i<|F c c / F i c) rfl (A6l hF hci AGp) (A6m hz);rw [A1y,<- hk];show (F c c + -(F c c / F i c) * F i c).natAbs < _;have h1:=Int.mul_ediv_add_emod (F c c)<|F i c;have h2:F c c + -(F c c / F i c) * F i c=F c c % F i c:=by grind
           rw [h2];have h3:=Int.emod_nonneg (F c c) h0;have h4:=Int.emod_lt (F c c) h0;omega
       grind
    exact λF hF=>inner (n - (c + 1)) (c + 1) AGp AGp F hF λk h1 h2=>by omega
 exact λF=>key n 0 AGp F λc' i h=>by omega
def AUg (n:Nat) (A B:ATa):ATa:=λi j=>psum (λk=>A i k * B k j) n
theorem A6n {n:Nat} {B:ATa} {b:Nat}:AUg n (AU4 A a λx=>A a x + q * A b x) B=AU4 (AUg n A B) a λx=>AUg n A B a x + q * AUg n A B b x:=by
 funext i j;unfold AUg AU4;by_cases h:i=a
 ·simp only [if_pos h];rw [<- AWb,<- Acn];grind
 simp_all
theorem Ax7 {n:Nat} {B:ATa} {u:Nat->Int}:AUg n (AU4 A a u) B=AU4 (AUg n A B) a λx=>psum (λk=>u k * B k x) n:=by
 funext i j;unfold AUg AU4;by_cases h:i=a
 ·simp_all
 simp_all
theorem A3q {n:Nat} {B:ATa} {b:Nat}:AUg n (AYg A a b) B=AYg (AUg n A B) a b:=by
 unfold AYg;rw [Ax7,Ax7];rfl
theorem Ac9 {n:Nat} (A B:ATa):det n (AUg n A B)=det n A * det n B:=by
 refine A1z (n:=n) (P:=λA=>det n (AUg n A B)=det n A * det n B) (λF a b q ha hb hab h=>?_) (λF a b ha hb hab h=>?_) (λF hF=>?_) A
 ·rw [A6n,Afd ha hb hab,Afd ha hb hab] at h;exact h
 ·rw [A3q,Ajr ha hb hab,Ajr ha hb hab] at h;grind
 ·rw [Ald hF]
  have key:∀ j,j<=n->det n (λi=>if i < j then AUg n F B i else B i)=AY5 (λi=>F i i) j * det n B:=by
   intro j
   induction j with
   | zero=>intro _;simp [AY5]
   | succ j ih=>
     intro hj
     rw [AY5,Int.mul_assoc,Int.mul_comm<|F j j,<- Int.mul_assoc,<- ih AGp,Int.mul_comm]
     rw [<- A6k (F:=λi=>if i < j then AUg n F B i else B i) (r:=j) AGp (F j)]
     refine AUd λi q hi hq=>?_
     unfold AU4
     by_cases h:i=j
     ·subst h
      simp only [if_pos<|Nat.lt_succ_self i,if_pos]
      unfold AUg
      refine ATf λk hk=>?_
      by_cases hlt:k < i
      ·rw [hF k i AGp hlt hi];simp
      grind
     grind
  rw [<- key n (Nat.le_refl _)];exact AUd λi j hi hj=>by rw [if_pos hi]
def trF (F:ATa):ATa:=λi j=>F j i
theorem Ano (n:Nat):det n dl=1:=by
 rw [Ald (λc' i h1 h2 h3=>by unfold dl;omega)]
 have:∀ k,AY5 (λi=>dl i i) k=1:=by
  intro k
  induction k with
  | zero=>rfl
  | succ k ih=>rw [AY5,ih];simp [dl]
 exact this n
theorem A0f {n:Nat} (hj:j < n):psum (λk=>F i k * dl k j) n=F i j:=by
 rw [Ado hj (λk hk=>by unfold dl;grind)];simp [dl]
theorem A0g {n:Nat} (y:Nat->Int) (ha:a < n):det n (trF<|AU4 F a λx=>psum (λk=>y k * F k x) n)=det n (trF F) * det n (trF<|AU4 dl a y):=by
 rw [<- Ac9];refine AUd λi j hi hj=>?_;unfold AUg trF AU4
 by_cases h:j=a
 ·simp only [if_pos h];grind
 ·simp only [if_neg h];rw [Ado hj (λk hk=>by unfold dl;grind)];simp [dl]
theorem Aec {n:Nat} (F:ATa):det n (trF F)=det n F:=by
 refine A1z (n:=n) (P:=λF=>det n (trF F)=det n F) (λF a b q ha hb hab h=>?_) (λF a b ha hb hab h=>?_) (λF hF=>?_) F
 ·rw [Afd ha hb hab] at h;rw [<- h];have h1:=A0g (n:=n) (F:=F) (a:=a) (λk=>dl k a + q * dl k b) ha
  have h2:det n (trF<|AU4 dl a λk=>dl k a + q * dl k b)=1:=by
   rw [<- Ano n,<- Afd (F:=dl) hb ha (Ne.symm hab) q]
   refine AUd λi j hi hj=>?_
   clear h1 h
   simp only [trF,AT6,dl]
   grind
  rw [h2,Int.mul_one] at h1;rw [<- h1];refine AUd λi j hi hj=>?_;unfold trF AU4;by_cases hja:j=a
  ·simp only [if_pos hja];rw [ATf (g:=λk=>F k i * dl k a + q * (F k i * dl k b)) (λk _=>by grind),Acn,AWb];rw [Ado (a:=a) ha (λk hk=>by unfold dl;grind),Ado (a:=b) hb (λk hk=>by unfold dl;grind)];simp [dl]
  grind
 ·rw [Ajr ha hb hab] at h
  have h1:det n (trF<|AYg F a b)=det n (trF F) * det n (AYg dl a b):=by
   rw [<- Ac9]
   refine AUd λi j hi hj=>?_
   unfold AUg trF
   have hsym:∀ k,AYg dl a b k j=if j=a then dl k b else if j=b then dl k a else dl k j:=by
    intro k
    simp only [Afq,dl]
    grind
   rw [ATf (g:=λk=>F k i * dl k (if j=a then b else if j=b then a else j)) (λk _=>by rw [hsym];grind)]
   rw [Ado (a:=if j=a then b else if j=b then a else j) (by grind) (λk hk=>by unfold dl;grind)]
   simp only [dl,if_pos,Int.mul_one]
   by_cases h3:j=a
   ·subst h3;rw [Aqc,if_pos rfl]
   ·rw [if_neg h3]
    by_cases h4:j=b
    ·subst h4;rw [Axm,if_pos rfl]
    ·rw [Asd _ h3 h4,if_neg h4]
  rw [Ajr ha hb hab,Ano] at h1;omega
 ·rw [Ald hF,Aup (F:=trF F) λi j h1 h2=>hF i j AGp h1 h2];rfl
def shF (k:Nat) (F:ATa):ATa:=λi j=>F (k + i)<|k + j
theorem Auq (h:i < k + 1):skp i (k + a)=k + 1 + a:=by unfold skp;grind
theorem Ale:∀ {k m:Nat} {T:ATa},(∀ i j,k<=i->i < k + m->j < k->T i j=0)->det (k + m) T=det k T * det m (shF k T):=by
 intro k;induction k with
 | zero=>
   intro m T _;have e:shF 0 T=T:=by funext i j;simp [shF]
   rw [e,Nat.zero_add];simp [det]
 | succ k ih=>
   intro m T h;rw [show k + 1 + m=(k + m) + 1 by omega];simp only [det];rw [Ax4 (k:=k + 1) AGp λi h1 h2=>by grind];rw [Int.mul_comm,<- AWb];refine ATf λi hi=>?_
   rw [ih (T:=AW4 i T) (m:=m) (λa b ha ha2 hb=>by
    obtain ⟨c,rfl⟩:∃ c,a=k + c:=⟨a - k,AGp⟩;unfold AW4;rw [Auq hi];grind)]
   have e:shF k (AW4 i T)=shF (k + 1) T:=by
    funext a b;unfold shF AW4;rw [Auq hi,show k + b + 1=k + 1 + b by omega]
   rw [e];grind
theorem Av2 {n:Nat} (h:∀ i,i < n + 1->F i 0=0):det (n + 1) F=0:=by
 simp only [det];rw [ATf (g:=λ_=>0) λi hi=>by grind];exact AW7 _
theorem Akh {n:Nat} {b:Nat} (ha:a < n) (hb:b < n) (hab:a≠b) (h:∀ i,F i a=F i b):det n F=0:=by
 rw [<- Aec];exact Agq ha hb hab (by funext i;exact h i)
theorem A92 (F:ATa):det 2 F=F 0 0 * F 1 1 - F 1 0 * F 0 1:=by
 simp [det,psum,AW4,skp,sg];grind
def bro (k i r:Nat):Nat:=if r < k then r else i
def Mn (k:Nat) (A:ATa) (i j:Nat):Int:=det (k + 1) λr c=>A (bro k i r)<|bro k j c
theorem Aez (A:ATa) (i j:Nat):Mn 0 A i j=A i j:=by
 simp [Mn,det,psum,bro,sg]
theorem Abw (k:Nat) (A:ATa):Mn k A k k=det (k + 1) A:=by
 refine AUd λr c hr hc=>?_;have e:∀ r,r < k + 1->bro k k r=r:=λr hr=>by unfold bro;split <;> omega
 grind
theorem BBl (A:ATa) (i:Nat) (hj:j < k):Mn k A i j=0:=by
 refine Akh (a:=j) (b:=k) AGp AGp AGp λr=>?_;unfold bro;simp [hj]
def cof (k:Nat) (A:ATa) (i s:Nat):Int:=det (k + 1)<|AU4 (λc r=>A (bro k i r) c) k<|dl s
theorem Agf {n:Nat} (f:Nat->Int) {q:Nat} (hq:q < n):psum (λs=>f s * dl s q) n=f q:=by
 rw [Ado hq (λi hi=>by unfold dl;grind)];simp [dl]
theorem BCv (k:Nat) (A:ATa) (i j:Nat):Mn k A i j=psum (λs=>cof k A i s * A s j) k + det k A * A i j:=by
 have h1:Mn k A i j=det (k + 1) (AU4 (λc r=>A (bro k i r) c) k λq=>psum (λs=>A (bro k i s) j * dl s q)<|k + 1):=by
  unfold Mn
  rw [<- Aec]
  refine AUd λc r hc hr=>?_
  rw [AT6,Agf _ hr]
  unfold trF
  split
  ·subst_vars;simp [bro]
  ·have:c < k:=by omega
   simp [bro,this]
 rw [h1,As0 AGp]
 have hk:det (k + 1) (AU4 (λc r=>A (bro k i r) c) k<|dl k)=det k A:=by
  rw [Ale (k:=k) (m:=1) (T:=AU4 (λc r=>A (bro k i r) c) k<|dl k) (λa b h1 h2 h3=>by
   obtain rfl:a=k:=by omega
   rw [AT6,if_pos rfl];unfold dl;omega)]
  have e1:det k (AU4 (λc r=>A (bro k i r) c) k<|dl k)=det k A:=by
   rw [<- Aec]
   refine AUd λr c hr hc=>?_
   unfold trF
   rw [AT6,if_neg AGp]
   simp [bro,hr]
  have e2:det 1 (shF k<|AU4 (λc r=>A (bro k i r) c) k<|dl k)=1:=by
   simp [det,psum,shF,sg,AT6,dl]
  grind
 show psum (λs=>A (bro k i s) j * det (k + 1) (AU4 (λc r=>A (bro k i r) c) k<|dl s)) k + A (bro k i k) j * det (k + 1) (AU4 (λc r=>A (bro k i r) c) k<|dl k)=_;rw [hk];congr 1
 ·refine ATf λs hs=>?_;show _=cof k A i s * A s j;unfold cof;rw [Int.mul_comm];simp [bro,hs]
 ·simp [bro,Int.mul_comm]
theorem Ax9 (f:Nat->Int) (k m:Nat):AY5 f (k + m)=AY5 f k * AY5 (λi=>f<|k + i) m:=by
 induction m with
 | zero=>simp [AY5]
 | succ m ih=>rw [<- Nat.add_assoc];simp only [AY5];rw [ih];grind
theorem Aur {f:Nat->Int}:∀ {n:Nat},(∀ i,i < n->f i=1)->AY5 f n=1
 | 0,_=>rfl
 | n + 1,h=>by rw [AY5,Aur λi hi=>h i AGp,h n AGp];rfl
theorem Aya {f:Nat->Int}:∀ {n:Nat},(∀ i,i < n->f i≠0)->AY5 f n≠0
 | 0,_=>by simp [AY5]
 | n + 1,h=>by rw [AY5];exact Int.mul_ne_zero (Aya λi hi=>h i AGp)<|h n AGp
def Amy (k:Nat) (A:ATa) (ρ:Nat->Nat):ATa:=λr s=>if r < k then dl r s else if s < k then cof k A (ρ r) s else if s=r then det k A else 0
theorem Ayb {n:Nat} {B:ATa} {ρ γ:Nat->Nat} (hkn:k<=n) (hρ:∀ r,r < k->ρ r=r) (hB:∀ r c,B r c=A (ρ r) (γ c)) {c:Nat} (hr:r < n):AUg n (Amy k A ρ) B r c=if r < k then B r c else Mn k A (ρ r) (γ c):=by
 unfold AUg;by_cases h:r < k
 ·rw [if_pos h,Ado hr (λi hi=>by unfold Amy;rw [if_pos h];unfold dl;grind)];unfold Amy;rw [if_pos h];simp [dl]
 ·rw [if_neg h,BCv];obtain ⟨m,rfl⟩:∃ m,n=k + m:=⟨n - k,AGp⟩
  have hs:∀ t,psum (λs=>Amy k A ρ r s * B s c) (k + t)=psum (λs=>cof k A (ρ r) s * A s (γ c)) k + (if r < k + t then det k A * A (ρ r) (γ c) else 0):=by
   intro t
   induction t with
   | zero=>
     rw [if_neg AGp,Int.add_zero,Nat.add_zero]
     refine ATf λs hs=>?_
     unfold Amy
     grind
   | succ t ih=>
     show psum (λs=>Amy k A ρ r s * B s c) (k + t) + Amy k A ρ r (k + t) * B (k + t) c=_
     rw [ih]
     have e:Amy k A ρ r (k + t)=if k + t=r then det k A else 0:=by unfold Amy;omega
     grind
  grind
theorem Ayc {m:Nat} {ρ:Nat->Nat}:det (k + m) (Amy k A ρ)=AY5 (λ_=>det k A) m:=by
 rw [Aup (λi j hij hj=>by
  unfold Amy
  split
  ·unfold dl;omega
  omega),Ax9,Aur,Int.one_mul]
 ·refine Ann λi hi=>?_;unfold Amy;omega
 ·intro i hi;unfold Amy;rw [if_pos hi];simp [dl]
theorem An9 (h0:det k A≠0) (i j:Nat):Mn k A k k * Mn k A i j - Mn k A i k * Mn k A k j=det k A * Mn (k + 1) A i j:=by
 have h1:=Ac9 (n:=k + 2) (Amy k A<|bro (k + 1) i) λr c=>A (bro (k + 1) i r)<|bro (k + 1) j c
 have hm:∀ r c,r < k + 2->AUg (k + 2) (Amy k A<|bro (k + 1) i) (λr c=>A (bro (k + 1) i r)<|bro (k + 1) j c) r c=if r < k then A (bro (k + 1) i r) (bro (k + 1) j c) else Mn k A (bro (k + 1) i r) (bro (k + 1) j c):=λr c hr=>
  Ayb (k:=k) (n:=k + 2) (A:=A) (B:=λr c=>A (bro (k + 1) i r)<|bro (k + 1) j c) (ρ:=bro (k + 1) i) (γ:=bro (k + 1) j) AGp (λr hr=>by unfold bro;grind) (λr c=>rfl) hr
 rw [Ayc,Ale (k:=k) (m:=2) (λa b ha ha2 hb=>by
  rw [hm a b ha2,if_neg AGp,show bro (k + 1) j b=b by unfold bro;grind];exact BBl _ _ hb)] at h1
 have e1:det k (AUg (k + 2) (Amy k A<|bro (k + 1) i) λr c=>A (bro (k + 1) i r)<|bro (k + 1) j c)=det k A:=by
  refine AUd λr c hr hc=>?_;rw [hm r c AGp,if_pos hr];simp only [bro];grind
 have b0:∀ q,bro (k + 1) q (k + 0)=k:=λq=>by unfold bro;grind
 have b1:∀ q,bro (k + 1) q (k + 1)=q:=λq=>by unfold bro;grind
 rw [e1,A92] at h1;simp only [shF] at h1;rw [hm _ _ AGp,hm _ _ AGp,hm _ _ AGp,hm _ _ AGp,if_neg AGp,if_neg AGp,if_neg AGp,if_neg AGp,b0,b0,b1,b1] at h1;have e2:AY5 (λ_=>det k A) 2=det k A * det k A:=by simp [AY5]
 have e3:(det (k + 2) λr c=>A (bro (k + 1) i r)<|bro (k + 1) j c)=Mn (k + 1) A i j:=rfl;rw [e2,e3,Int.mul_assoc] at h1;exact Int.eq_of_mul_eq_mul_left h0 h1
theorem Ayd {n:Nat} (h0:det k A≠0) (hk:k < n) (hz:∀ i,k<=i->i < n->Mn k A i k=0):det n A=0:=by
 obtain ⟨m,rfl⟩:∃ m,n=k + (m + 1):=⟨n - k - 1,AGp⟩;have h1:=Ac9 (n:=k + (m + 1)) (Amy k A id) A
 have hm:∀ r c,r < k + (m + 1)->AUg (k + (m + 1)) (Amy k A id) A r c=if r < k then A r c else Mn k A r c:=λr c hr=>
  Ayb (k:=k) (n:=k + (m + 1)) (A:=A) (B:=A) (ρ:=id) (γ:=id) AGp (λr hr=>rfl) (λr c=>rfl) hr
 rw [Ayc,Ale (k:=k) (m:=m + 1) (λa b ha ha2 hb=>by rw [hm a b ha2,if_neg AGp];exact BBl _ _ hb),Av2 (F:=shF k _) (λi hi=>by
  unfold shF;grind),Int.mul_zero] at h1
 rcases Int.mul_eq_zero.1 h1.symm with h2 | h2
 ·exact absurd h2<|Aya λi hi=>h0
 ·exact h2
def dBd (m:Nat):Nat->Nat
 | 0=>1
 | n + 1=>(n + 1) * m * dBd m n
theorem psum_abs {f:Nat->Int} {B:Nat}:∀ {n:Nat},(∀ i,i < n->(f i).natAbs<=B)->(psum f n).natAbs<=n * B
 | 0,_=>by simp [psum]
 | n + 1,h=>by
   have h1:=psum_abs (n:=n) λi hi=>h i AGp
   have h2:=h n AGp
   have h3:=Int.natAbs_add_le (psum f n)<|f n
   show (psum f n + f n).natAbs<=_
   grind
theorem Arr {m:Nat}:∀ {n:Nat} {F:ATa},(∀ i j,(F i j).natAbs<=m)->(det n F).natAbs<=dBd m n
 | 0,_,_=>by simp [det,dBd]
 | n + 1,F,h=>by
   have h1:=psum_abs (f:=λi=>sg i * F i 0 * det n (AW4 i F)) (B:=m * dBd m n) (n:=n + 1) λi hi=>by
    have e:=Arr (n:=n) (F:=AW4 i F) λa b=>h _ _
    have es:(sg i).natAbs=1:=by unfold sg;split <;> rfl
    rw [Int.natAbs_mul,Int.natAbs_mul,es,Nat.one_mul]
    exact Nat.mul_le_mul (h i 0) e
   rw [dBd,Nat.mul_assoc]
   exact h1
theorem A93 {n:Nat} (hp:k < p) (hi:k<=i):Mn k (AYg A p k) i j=Mn k A (if i=k then p else if i=p then k else i) j:=by
 refine AUd λr c hr hc=>?_;rw [Afq];unfold bro;grind
theorem Av3 (hp:k < p):det k (AYg A p k)=det k A:=by
 refine AUd λr c hr hc=>?_;rw [Afq,if_neg AGp,if_neg AGp]
def sgB (neg:Bool):Int:=if neg then -1 else 1
def Aqk (m:Nat) (A0:ATa) (n k:Nat) (F:ATa) (last:Int) (neg:Bool):Prop:=
 ∃ A:ATa,det n A=sgB neg * det n A0/\(∀ i j,k<=i->i < n->k<=j->j < n->F i j=Mn k A i j)/\last=det k A/\last≠0/\ ∀ i j,(A i j).natAbs<=m
theorem A0h {m n:Nat} (h:∀ i j,(A0 i j).natAbs<=m):Aqk m A0 n 0 A0 1 false:=
 ⟨A0,by simp [sgB],λi j _ _ _ _=>(Aez A0 i j).symm,rfl,AGr,h⟩
theorem A3r {m n:Nat} (H:Aqk m A0 n k F last neg) (hkp:k < p) (hp:p < n):Aqk m A0 n k (AYg F p k) last (!neg):=by
 obtain ⟨A,h1,h2,h3,h4,h5⟩:=H;refine ⟨AYg A p k,?_,λi j hi hin hj hjn=>?_,by rw [Av3 hkp];exact h3,h4,λi j=>?_⟩
 ·rw [Ajr hp AGp AGp,h1];cases neg <;> simp [sgB]
 ·rw [A93 (n:=n) hkp hi,Afq];grind
 ·rw [Afq];grind
def bQ (k:Nat) (F:ATa) (last:Int) (r c:Nat):Int:=(F k k * F r c - F r k * F k c) / last
def bF (k:Nat) (F:ATa) (last:Int) (i j:Nat):ATa:=λr c=>if k < r/\k < c/\(r < i∨r=i/\c < j) then bQ k F last r c else F r c
theorem Aye (k:Nat) (F:ATa) (last:Int):bF k F last (k + 1) (k + 1)=F:=by
 funext r c;unfold bF;omega
theorem A6o (k n:Nat) (F:ATa) (last:Int) (i:Nat) {c:Nat} (hc:c < n):bF k F last i n r c=bF k F last (i + 1) (k + 1) r c:=by
 unfold bF;omega
theorem A6p (k:Nat) (F:ATa) (last:Int) (hi:k < i) (hj:k < j):(AU4 (bF k F last i j) i λc=>if c=j then bQ k F last i j else bF k F last i j i c)=bF k F last i (j + 1):=by
 funext r c;rw [AT6];split
 ·subst_vars
  split
  ·subst_vars;unfold bF;omega
  ·unfold bF;omega
 ·unfold bF;omega
theorem A10 (k:Nat) (F:ATa) (last:Int) (i j c:Nat):bF k F last i j k c=F k c:=by unfold bF;omega
theorem BBm (k:Nat) (F:ATa) (last:Int) (i j r:Nat):bF k F last i j r k=F r k:=by unfold bF;omega
theorem BBn (k:Nat) (F:ATa) (last:Int) (i j:Nat):bF k F last i j i j=F i j:=by unfold bF;omega
theorem BBo {m n:Nat} (H:Aqk m A0 n k F last neg) (hk:k < n):∃ A,(∀ i j,(A i j).natAbs<=m)/\det n A=sgB neg * det n A0/\F k k=det (k + 1) A/\ ∀ i j,k<=i->i < n->k<=j->j < n->F i j=Mn k A i j/\bQ k F last i j=Mn (k + 1) A i j:=by
 obtain ⟨A,h1,h2,h3,h4,h5⟩:=H;refine ⟨A,h5,h1,by rw [h2 k k AGp hk AGp hk,Abw],λi j hi hin hj hjn=>⟨h2 i j hi hin hj hjn,?_⟩⟩;unfold bQ;rw [h2 k k AGp hk AGp hk,h2 i j hi hin hj hjn,h2 i k hi hin AGp hk,h2 k j AGp hk hj hjn,An9 AGp,<- h3,Int.mul_ediv_cancel_left _ h4]
theorem A3s {m n:Nat} (H:Aqk m A0 n k F last neg) (hk:k < n) (h0:F k k≠0):Aqk m A0 n (k + 1) (bF k F last n<|k + 1) (F k k) neg:=by
 obtain ⟨A,h5,h1,h6,h2⟩:=BBo H hk;refine ⟨A,h1,λi j hi hin hj hjn=>?_,h6,h0,h5⟩;unfold bF;grind
theorem A3t {m n:Nat} (H:Aqk m A0 n k F last neg) (hk:k < n) (hz:∀ i,k<=i->i < n->F i k=0):det n A0=0:=by
 obtain ⟨A,h1,h2,h3,h4,h5⟩:=H;have h:=Ayd (A:=A) AGp hk λi hi hin=>by grind
 rw [h1] at h;rcases Int.mul_eq_zero.1 h with h6 | h6
 ·cases neg <;> simp [sgB] at h6
 ·exact h6
theorem A6q {m n:Nat} (H:Aqk m A0 n n F last neg):det n A0=if neg then -last else last:=by
 obtain ⟨A,h1,h2,h3,h4,h5⟩:=H;rw [<- h3] at h1;rw [h1];cases neg
 ·simp [sgB]
 ·simp [sgB]
theorem A0i {m:Nat} (h:∀ i j,(A i j).natAbs<=m) (i j:Nat):(Mn k A i j).natAbs<=dBd m (k + 1):=Arr λr c=>h _ _
theorem Aic {m:Nat} (hm:1<=m) {b:Nat} (h:a<=b):dBd m a<=dBd m b:=by
 induction h with
 | refl=>omega
 | step h ih=>
   refine Nat.le_trans ih ?_
   rw [dBd]
   exact Nat.le_mul_of_pos_left _<|Nat.mul_pos AGp AGp
theorem A6r {m n:Nat} (hm:1<=m) (H:Aqk m A0 n k F last neg) (hk:k < n) (hi:k<=i) (hin:i < n) (hj:k<=j) (hjn:j < n):(F i j).natAbs<=dBd m n/\(bQ k F last i j).natAbs<=dBd m (n + 1):=by
 obtain ⟨A,h5,h1,h6,h2⟩:=BBo H hk;obtain ⟨h7,h8⟩:=h2 i j hi hin hj hjn;rw [h7,h8];exact ⟨Nat.le_trans (A0i h5 _ _)<|Aic hm AGp,Nat.le_trans (A0i h5 _ _)<|Aic hm AGp⟩
theorem A3u {m n:Nat} (hm:1<=m) (H:Aqk m A0 n k F last neg) (hk:k<=n):last≠0/\last.natAbs<=dBd m n:=by
 obtain ⟨A,h1,h2,h3,h4,h5⟩:=H;exact ⟨h4,by rw [h3];exact Nat.le_trans (Arr h5)<|Aic hm hk⟩
end Go.QF
namespace Go.Proofs.YtkakafabeobahaaGreatDoor
open Go Go.QF
theorem A94 {n:Nat} {a b c:α} (h:i < n):(List.replicate i a ++ List.replicate (n - i) b).set i c=List.replicate i a ++ (c :: List.replicate (n - i - 1) b):=by
 rw [List.set_append_right _ _ AT5,List.length_replicate,Nat.sub_self,show n - i=(n - i - 1) + 1 by omega,List.replicate_succ];rfl
theorem Ars {n m:Nat} (hn:n<=100000000) (hm:m<=100000000) (hf:n < fuel):AWh fuel n m=some (List.replicate n<|List.replicate m 0):=by
 apply ok_eq;unfold AWh;refine AVb AGp<|AG4 (AUk (λi s=>s=((i:Int),List.replicate i (List.replicate m 0) ++ List.replicate (n - i) [])) n (Q:=(· =List.replicate n (List.replicate m 0))) AT5 hf λi s hi hI=>?_) λx hx=>AGy hx;subst hI;unfold Adi;dsimp only;rw [List.length_replicate,Int.toNat_natCast];refine AT2 (λh=>AVb AGp<|AT0 (n:=i) (x:=[]) ?_ rfl (AGy ⟨AGp,?_⟩)) λh=>AGy ?_
 ·grind
 ·rw [wk AGp,AU1,Int.toNat_natCast,A94 AGp];congr 1;rw [show n - (i + 1)=n - i - 1 by omega,List.replicate_succ'];simp
 ·obtain rfl:i=n:=by omega
  simp
theorem Av4 {A:List (List α)} {row:List α} (hi:i < A.length):(A.take i ++ row :: List.replicate (A.length - i - 1) []).set i=λr=>A.take i ++ r :: List.replicate (A.length - i - 1) []:=by
 funext r;rw [List.set_append_right _ _ (by simp;omega),List.length_take,Nat.min_eq_left AGp,Nat.sub_self];rfl
theorem A11 {A:List (List Int)} (hn:A.length<=100000000) (hm:∀ z∈A,z.length<=100000000/\z.length < fuel) (hf:A.length < fuel):AYi fuel A=some A:=by
 apply ok_eq;unfold AYi;refine AVb AGp<|AG4 (AUk (λi s=>s=((i:Int),A.take i ++ List.replicate (A.length - i) [])) A.length (Q:=(· =A)) AT5 hf λi s hi hI=>?_) λx hx=>AGy hx;subst hI;unfold Adk;dsimp only;refine AT2 (λh=>?_) λh=>AGy ?_
 ·have hi':i < A.length:=by omega
  obtain ⟨row,hrow⟩:∃ row,A[i]? =some row:=⟨A[i],List.getElem?_eq_getElem hi'⟩;have hr:=hm row<|List.mem_of_getElem? hrow;refine AT0 hrow rfl (AG4 (AUk (λj s=>s=((j:Int),A.take i ++ row.take j :: List.replicate (A.length - i - 1) [])) row.length (Q:=(· =A.take i ++ row :: List.replicate (A.length - i - 1) [])) ?_ hr.2 λj s hj hJ=>?_) λx hx=>AGy ⟨hi',?_⟩)
  ·rw [show A.length - i=(A.length - i - 1) + 1 by omega,List.replicate_succ];simp
  ·subst hJ;unfold Adj;dsimp only;refine AT2 (λh2=>?_) λh2=>AGy ?_
   ·obtain ⟨x,hx⟩:∃ x,row[j]? =some x:=⟨row[j]'AGp,List.getElem?_eq_getElem _⟩;refine AT0 hx rfl (AT0 (n:=i) (x:=row.take j) ?_ rfl (AG4 (Q:=(· =x)) ⟨x,rfl,rfl⟩ λy hy=>AVb ?_<|AGy ⟨AGp,?_⟩))
    ·grind
    ·grind
    ·subst hy;rw [wk AGp,AU1,Av4 hi',List.take_add_one,hx];rfl
   grind
  ·subst hx;rw [wk AGp,List.take_add_one,hrow,show A.length - (i + 1)=A.length - i - 1 by omega];simp
 ·obtain rfl:i=A.length:=by omega
  simp
def okM (A:List (List Int)):Bool:=decide (1<=A.length/\A.length<=16/\ ∀ z∈A,1<=z.length/\z.length<=16/\z.length=Ah8 A)
theorem A3v {A:List (List Int)} {z:List Int} (h:A[0]? =some z):Ah8 A=z.length:=by unfold Ah8;rw [h];rfl
theorem Ayf {A:List (List Int)} (hr:∀ z∈A,∀ x∈z,-9223372036854775808<=x/\x<=9223372036854775807) (hf:17 < fuel):AVt fuel A=some (if okM A then (A,true) else ([],false)):=by
 apply ok_eq;unfold AVt
 have key:∀ R:List (List Int) × Bool->Prop,(okM A=false->R ([],false))->(okM A=true->R (A,true))->Ok (AVt fuel A) R:=by
  intro R hF hT
  unfold AVt
  refine AG4 (Q:=λex=>match ex with | .inl e=>e=([],false)/\okM A=false | .inr _=>1<=A.length/\A.length<=16) (AT2 (λh=>AGy ⟨rfl,by unfold okM;grind⟩) λh=>AT2 (λh2=>AGy ⟨rfl,by unfold okM;grind⟩) λh2=>AGy ⟨AGp,AGp⟩) λex hex=>?_
  cases ex with
  | inl e=>obtain ⟨rfl,h⟩:=hex;exact AGy (hF h)
  | inr u=>
    dsimp only at hex ⊢
    obtain ⟨z0,Ac⟩:∃ z,A[0]? =some z:=⟨A[0]'AGp,List.getElem?_eq_getElem _⟩
    have hc:=A3v Ac
    refine AG4 (AUk (λi (s:Int)=>s=(i:Int)/\ ∀ z∈A.take i,1<=z.length/\z.length<=16/\z.length=Ah8 A) A.length (Q:=λex=>match ex with | .inl e=>e=([],false)/\okM A=false | .inr _=>okM A=true) ⟨rfl,AT5⟩ AGp λi s hi hI=>?_) λex Ab=>?_
    ·obtain ⟨rfl,hI⟩:=hI
     unfold Aat
     refine AT2 (λh=>?_) λh=>AGy ?_
     ·have hi':i < A.length:=by omega
      obtain ⟨row,hrow⟩:∃ row,A[i]? =some row:=⟨A[i],List.getElem?_eq_getElem hi'⟩
      have bad: ¬ (1<=row.length/\row.length<=16/\row.length=Ah8 A)->okM A=false:=λhb=>by
       unfold okM;grind
      refine AT0 hrow rfl (AT2 (λh1=>AGy ⟨rfl,bad AGp⟩) λh1=>AT2 (λh2=>AGy ⟨rfl,bad AGp⟩) λh2=>AT0 Ac rfl (AT2 (λh3=>AGy ⟨rfl,bad AGp⟩) λh3=>AGy ⟨hi',wk AGp,?_⟩))
      rw [List.take_add_one,hrow]
      grind
     ·obtain rfl:i=A.length:=by omega
      rw [List.take_length] at hI
      unfold okM;grind
    ·cases ex with
     | inl e=>obtain ⟨rfl,h⟩:=Ab;exact AGy (hF h)
     | inr u=>
       dsimp only at Ab ⊢
       have hv:=Ab
       unfold okM at hv;rw [decide_eq_true_eq] at hv
       have hcA:∀ z∈A,z.length=Ah8 A:=λz hz=>(hv.2.2 z hz).2.2
       have Af:1<=Ah8 A/\Ah8 A<=16:=by grind
       refine AT0 Ac rfl (AG4 (AUn<|Ars AGp AGp AGp) λO hO=>?_)
       subst hO
       rw [<- hc]
       refine AG4 (AUk (λi s=>s=((i:Int),A.take i ++ List.replicate (A.length - i) (List.replicate (Ah8 A) 0))) A.length (Q:=(· =A)) AT5 AGp λi s hi hI=>?_) λx hx=>AGy<|hx ▸ hT Ab
       subst hI
       unfold Aas
       dsimp only
       refine AT2 (λh=>?_) λh=>AGy ?_
       ·have hi':i < A.length:=by omega
        obtain ⟨row,hrow⟩:∃ row,A[i]? =some row:=⟨A[i],List.getElem?_eq_getElem hi'⟩
        have hrl:=hcA row<|List.mem_of_getElem? hrow
        refine AT0 hrow rfl (AG4 (AUk (λj s=>s=((j:Int),A.take i ++ (row.take j ++ List.replicate (Ah8 A - j) 0) :: List.replicate (A.length - i - 1) (List.replicate (Ah8 A) 0))) row.length (Q:=(· =A.take i ++ row :: List.replicate (A.length - i - 1) (List.replicate (Ah8 A) 0))) ?_ AGp λj s hj hJ=>?_) λx hx=>AGy ⟨hi',?_⟩)
        ·rw [show A.length - i=(A.length - i - 1) + 1 by omega,List.replicate_succ];simp
        ·subst hJ
         unfold Aar
         dsimp only
         refine AT2 (λh2=>?_) λh2=>AGy ?_
         ·obtain ⟨x,hx⟩:∃ x,row[j]? =some x:=⟨row[j]'AGp,List.getElem?_eq_getElem _⟩
          have hxr:=hr row (List.mem_of_getElem? hrow) x<|List.mem_of_getElem? hx
          refine AT0 (n:=i) (x:=row.take j ++ List.replicate (Ah8 A - j) 0) ?_ rfl (AT0 hrow rfl (AT0 hx rfl (AG4 (Q:=(· =x)) ⟨x,if_pos hxr,rfl⟩ λy hy=>AT0 (n:=j) (x:=0) ?_ rfl (AGy ⟨AGp,?_⟩))))
          ·grind
          ·grind
          ·subst hy
           rw [wk AGp,AU1,AU1]
           congr 1
           rw [List.set_append_right _ _ (by simp;omega),List.length_take,Nat.min_eq_left AGp,Nat.sub_self,List.set_cons_zero]
           congr 2
           rw [List.set_append_right _ _ (by simp;omega),List.length_take,Nat.min_eq_left AGp,Nat.sub_self,show Ah8 A - j=(Ah8 A - (j + 1)) + 1 by omega,List.replicate_succ,List.set_cons_zero,List.take_add_one,hx]
           simp
         ·obtain rfl:j=row.length:=by omega
          rw [List.take_length,show Ah8 A - row.length=0 by omega];simp
        ·subst hx
         rw [wk AGp,List.take_add_one,hrow,show A.length - (i + 1)=A.length - i - 1 by omega]
         simp
       ·obtain rfl:i=A.length:=by omega
        simp
 have:=key (λr=>r=if okM A then (A,true) else ([],false)) (λh=>by rw [h];rfl) (λh=>by rw [h];rfl);unfold AVt at this;exact this
theorem BE6 {A:List (List Int)} (hr:∀ z∈A,∀ x∈z,-9223372036854775808<=x/\x<=9223372036854775807) (hf:17 < fuel):AV4 fuel A=some (if okM A then A else []):=by
 unfold AV4;rw [Ayf hr hf];grind
theorem Ayg {z:Int}:AYp z=0↔z=0:=by
 unfold AYp;omega
theorem As1 {c:Nat}:sI (tab r c F) (i:Int) (sI (AV0 c<|F i) (j:Int) x)=tab r c (AU4 F i λq=>if q=j then x else F i q):=by
 rw [AU1,AU1,AWi];exact A6f
theorem Aq7 {b:Nat} (hG:2 * (D * D) < AXw) (ha:a<=D) (hb:b<=D):a * b < AXw:=by
 have:=Nat.mul_le_mul ha hb;omega
theorem A95 (hG:2 * (D * D) < AXw) (ha:a<=D):a < AXw:=by
 rcases Nat.eq_zero_or_pos D with h | h
 ·omega
 ·have h2:=Nat.mul_le_mul h<|Nat.le_refl D;omega
theorem Aql {a b:Int} (hG:2 * (D * D) < AXw) (ha:a.natAbs<=D) (hb:b.natAbs<=D):Akc fuel a b=some (a * b):=if_pos<|Aq7 hG ha hb
theorem Aus {a b:Int} (hG:2 * (D * D) < AXw) (ha:a.natAbs<=D) (hb:b.natAbs<=D):(a * b).natAbs < AXw:=by rw [Int.natAbs_mul];exact Aq7 hG ha hb
theorem A6s {a b c:Int} (hG:2 * (D * D) < AXw) (ha:a.natAbs<=D) (hb:b.natAbs<=D) (hc:c.natAbs<=D) (hd:d.natAbs<=D):(a * b - c * d).natAbs < AXw:=by
 have h1:=Nat.mul_le_mul ha hb;have h2:=Nat.mul_le_mul hc hd;rw [<- Int.natAbs_mul] at h1 h2;omega
theorem A96 {n M N:Nat} (hM:1<=M) (hG:2 * (dBd M (N + 1) * dBd M (N + 1)) < AXw) (hnN:n<=N) (hn:n<=16) (hb:∀ i j,(F i j).natAbs<=M) (hf:17 < fuel):AUx fuel (tab n n F)=some (det n F):=by
 apply ok_eq;unfold AUx;refine AG4 (AUn<|A11 (by rw [AUe];omega) (λz hz=>by rw [Apg z hz];omega) (by rw [AUe];omega)) λA hA=>?_;subst hA;refine AG4 (Q:=(· =1)) ⟨1,if_pos AGp,rfl⟩ λone h1=>?_;subst h1;have hD:dBd M n<=dBd M (N + 1):=Aic hM AGp;have Ap:dBd M (n + 1)<=dBd M (N + 1):=Aic hM AGp;refine AG4 (AUk (λk s=> ∃ G last neg,s=(neg,((k:Int),tab n n G,last))/\Aqk M F n k G last neg) n (Q:=λex=>match ex with | .inl e=>e=det n F | .inr (neg,last)=>det n F=if neg then -last else last) ⟨F,1,false,rfl,A0h hb⟩ AGp λk s hk hI=>?_) λex hex=>?_
 ·obtain ⟨G,last,neg,rfl,hB⟩:=hI;unfold AZl;dsimp only;rw [AUe];refine AT2 (λh=>?_) λh=>AGy ?_
  ·have hk':k < n:=by omega
   refine AG4 (Q:=λex=>match ex with | .inl e=>e=det n F | .inr (neg',a',last')=> ∃ G',a'=tab n n G'/\Aqk M F n (k + 1) G' last' neg') ?_ λex hex=>?_
   ·refine AG4 (Q:=λ(e:Int)=> ∃ p:Nat,e=p/\k<=p/\p<=n/\(∀ i,k<=i->i < p->G i k=0)/\(p < n->G p k≠0)) (AG4 (AUk (λj (s:Int)=>s=((k + j:Nat):Int)/\k + j<=n/\ ∀ i,k<=i->i < k + j->G i k=0) (n - k) (Q:=λ(e:Int)=> ∃ p:Nat,e=p/\k<=p/\p<=n/\(∀ i,k<=i->i < p->G i k=0)/\(p < n->G p k≠0)) ⟨rfl,AGp,λi h1 h2=>by omega⟩ AGp λj s hj hJ=>?_) λe he=>AGy he) λe he=>?_
    ·obtain ⟨rfl,hjn,hz⟩:=hJ;unfold AZi;rw [AUe];refine AG4 (Q:=λex=>match ex with | .inl _=>k + j < n/\G (k + j) k=0 | .inr _=>k + j < n->G (k + j) k≠0) (AT2 (λh2=>AT0 (AUl AGp) rfl (AT0 (AT4 AGp) rfl (AG4 (AUn (a:=AYp<|G (k + j) k) rfl) λsg hsg=>AT2 (λh3=>AGy ⟨AGp,?_⟩) λh3=>AGy λ_=>?_))) λh2=>AGy λh3=>by omega) λex hex=>?_
     ·subst hsg;exact Ayg.1 h3
     ·subst hsg;exact λh4=>h3<|Ayg.2 h4
     ·cases ex with
      | inl u=>exact AGy ⟨AGp,by rw [wk AGp];omega,AGp,λi h1 h2=>by
         grind⟩
      | inr u=>exact AGy ⟨k + j,rfl,AGp,hjn,hz,hex⟩
    ·obtain ⟨p,rfl,hkp,hpn,hz,hp⟩:=he;refine AT2 (λh2=>AGy ?_) λh2=>?_
     ·obtain rfl:p=n:=by omega
      exact (A3t hB hk' hz).symm
     ·have hp':p < n:=by omega
      refine AG4 (Q:=λ(r:Bool × List (List Int))=> ∃ G',r.2=tab n n G'/\Aqk M F n k G' last r.1/\G' k k≠0) (AT2 (λh3=>AT0 (AUl AGp) rfl (AT0 (AUl AGp) rfl (AGy ⟨AYg G p k,?_,A3r hB AGp hp',?_⟩))) λh3=>AGy ⟨G,rfl,hB,?_⟩) λr hr=>?_
      ·dsimp only;rw [AU1,AU1];show ((tab n n G).set p (AV0 n<|G k)).set k (AV0 n<|G p)=_;rw [show AV0 n (G k)=(List.range n).map (G k) from rfl,show AV0 n (G p)=(List.range n).map (G p) from rfl,Ade,Ade];rfl
      ·rw [Afq,if_pos rfl];exact hp hp'
      ·grind
      ·obtain ⟨Aq,a2⟩:=r;obtain ⟨G2,Ag,Af,hne⟩:=hr;dsimp only at Ag Af ⊢;subst Ag;have hlast:=A3u hM Af AGp;have habs:∀ i j,k<=i->i < n->k<=j->j < n->(G2 i j).natAbs<=dBd M (N + 1):=λi j h1 h2 h3 h4=>Nat.le_trans (A6r hM Af hk' h1 h2 h3 h4).1 hD;have hl':last.natAbs<=dBd M (N + 1):=Nat.le_trans hlast.2 hD;rw [wk AGp];refine AG4 (AUk (λi s=>s=(((k + 1 + i:Nat):Int),tab n n<|bF k G2 last (k + 1 + i)<|k + 1)/\k + 1 + i<=n) (n - (k + 1)) (Q:=(· =tab n n (bF k G2 last n<|k + 1))) ⟨by rw [Nat.add_zero,Aye];simp,AGp⟩ AGp λi s hi hI=>?_) λa3 Ah=>?_
       ·obtain ⟨rfl,hin⟩:=hI;unfold AZk;dsimp only;rw [AUe];obtain ⟨q,hq⟩:∃ q,k + 1 + i=q:=⟨_,rfl⟩;rw [hq] at hin ⊢;refine AT2 (λh3=>?_) λh3=>AGy ?_
        ·have hqn:q < n:=by omega
         rw [wk AGp];refine AG4 (AUk (λj s=>s=(((k + 1 + j:Nat):Int),tab n n<|bF k G2 last q<|k + 1 + j)/\k + 1 + j<=n) (n - (k + 1)) (Q:=(· =tab n n (bF k G2 last q n))) ⟨AT5,AGp⟩ AGp λj s hj hJ=>?_) λa4 Ai=>AGy ?_
         ·obtain ⟨rfl,hjn⟩:=hJ;unfold AZj;dsimp only;rw [AUe];obtain ⟨c,hc⟩:∃ c,k + 1 + j=c:=⟨_,rfl⟩;rw [hc] at hjn ⊢;refine AT2 (λh4=>?_) λh4=>AGy ?_
          ·have hcn:c < n:=by omega
           refine AT0 (AUl hqn) rfl (AT0 (AUl hk') rfl (AT0 (AT4 hk') rfl (AT0 (AT4 hcn) rfl ?_)));rw [A10,BBn];refine AG4 (AUn<|Aql hG (habs _ _ AGp AGp AGp AGp)<|habs _ _ AGp AGp AGp AGp) λx1 Aj=>AT0 (AT4 hk') rfl (AT0 (AT4 hcn) rfl ?_);subst Aj;rw [BBm,A10];refine AG4 (AUn<|Aql hG (habs _ _ AGp AGp AGp AGp)<|habs _ _ AGp AGp AGp AGp) λx2 Ak=>?_;subst Ak;refine AG4 (Q:=(· =G2 k k * G2 q c - G2 q k * G2 k c)) ⟨_,if_pos ⟨Aus hG (habs _ _ AGp AGp AGp AGp)<|habs _ _ AGp AGp AGp AGp,Aus hG (habs _ _ AGp AGp AGp AGp)<|habs _ _ AGp AGp AGp AGp⟩,rfl⟩ λx3 Am=>?_
           ·subst Am;refine AG4 (Q:=(· =bQ k G2 last q c)) ?_ λx4 Ao=>AGy ⟨AGp,?_,AGp⟩
            ·unfold AV9 Aps;rw [if_pos ⟨A6s hG (habs _ _ AGp AGp AGp AGp) (habs _ _ AGp AGp AGp AGp) (habs _ _ AGp AGp AGp AGp)<|habs _ _ AGp AGp AGp AGp,A95 hG hl',hlast.1⟩];exact ⟨_,rfl,rfl⟩
            ·subst Ao;rw [wk AGp,As1,A6p k G2 last AGp AGp];grind
          grind
         ·subst Ai;refine ⟨AGp,?_,AGp⟩;rw [wk AGp];congr 1
          ·omega
          ·refine Agk λr c hr hc=>?_;rw [A6o k n G2 last q hc,<- Nat.add_assoc,hq]
        grind
       ·subst Ah;refine AT0 (AUl hk') rfl (AT0 (AT4 hk') rfl (AGy ⟨_,rfl,?_⟩));rw [A10];exact A3s Af hk' hne
   ·match ex,hex with
    | .inl e,hex=>exact AGy hex
    | .inr (neg',a',last'),hex=>
      obtain ⟨G',rfl,hB'⟩:=hex
      exact AGy ⟨hk',G',last',neg',by rw [wk AGp];rfl,hB'⟩
  ·obtain rfl:k=n:=by omega
   exact A6q hB
 ·match ex,hex with
  | .inl e,hex=>exact AGy hex
  | .inr (neg,last),hex=>
    dsimp only at hex ⊢
    rw [hex]
    refine AT2 (λh=>AG4 (AUn (a:= -last) rfl) λx hx=>AGy ?_) λh=>AGy ?_
    ·rw [hx,h];rfl
    ·rw [if_neg h]
def mN (n:Nat):Nat:=if n<=6 then 2 ^ 194 else 2 ^ 100
def gN (n:Nat):Nat:=if n<=6 then dBd (2 ^ 194) 7 else dBd (2 ^ 100) 9
theorem Ayh (n:Nat):2 ^ 100<=mN n:=by unfold mN;split <;> decide
theorem A6t (n:Nat):64 * (gN n * gN n) < AXw:=by unfold gN;split <;> decide
theorem A6u (n:Nat):3<=gN n:=by unfold gN;split <;> decide
theorem BE7 (n:Nat):24 * (gN n * mN n)<=(2 ^ 158) ^ 10:=by unfold gN mN;split <;> decide
theorem A6v {n:Nat} (hn:n<=8) (hk:k<=n + 1):dBd (mN n) k<=gN n:=by
 unfold mN gN;split
 ·exact Aic AGr AGp
 ·exact Aic AGr AGp
theorem A6w (n:Nat):2 * (gN n * gN n) < AXw:=by have:=A6t n;omega
theorem Apt {n N:Nat} (hN:N<=8) (hn:n<=N) (hb:∀ i j,i < n->j < n->(F i j).natAbs<=mN N) (hf:17 < fuel):AUx fuel (tab n n F)=some (det n F):=by
 have e1:tab n n F=tab n n λi j=>if i < n/\j < n then F i j else 0:=by
  rw [Aib,Aib]
  exact AUq λi hi=>AUq λj hj=>by omega
 have e2:det n F=det n λi j=>if i < n/\j < n then F i j else 0:=AUd λi j hi hj=>by omega
 have hg:=A6v hN<|Nat.le_refl<|N + 1;have h1:=Ayh N;rw [e1,e2];refine A96 (M:=mN N) (Nat.le_trans AGr h1) (Nat.lt_of_le_of_lt (Nat.mul_le_mul_left 2<|Nat.mul_le_mul hg hg)<|A6w N) hn AGp (λi j=>?_) hf;grind
theorem A97:FdT Tryz.prog 24 0 0 5:=⟨_,_,Tryz.underlying24,rfl,rfl,rfl⟩
theorem A98:FdT Tryz.prog 24 1 1 5:=⟨_,_,Tryz.underlying24,rfl,rfl,rfl⟩
theorem A99:FdT Tryz.prog 24 2 2 22:=⟨_,_,Tryz.underlying24,rfl,rfl,rfl⟩
theorem BAa:FdT Tryz.prog 24 3 3 22:=⟨_,_,Tryz.underlying24,rfl,rfl,rfl⟩
theorem As2:AgT Tryz.prog 24 4:=Aox Tryz.underlying24 rfl AG3
end Go.Proofs.YtkakafabeobahaaGreatDoor
namespace Go.Proofs.YtkakafabeobahaaGreatDoor
open Go Go.QF
set_option maxRecDepth 100000
set_option maxHeartbeats 40000000
def AXn (fuel:Nat) (a1:Int) (a5:LiA) (Ac Aa Ad:Int) (Ae:LiI):Option ((Int × Int × LiI) ⊕ (Int × LiI)):=
 if Aa < ((List.replicate (Int.toNat<|w64<|1 + Int.tmod (w64 a1) Ac) ([]:List Int)).length:Int) then if 0<=w64 (1 + Int.tmod (w64 a1) Ac)/\w64 (1 + Int.tmod (w64 a1) Ac)<=100000000 then (gI Ae Aa).bind λAo=>(gI (sI Ae Aa<|List.replicate (Int.toNat<|w64<|1 + Int.tmod (w64 a1) Ac) (0:Int)) Aa).bind λAg=>((((if (a5.length:Int)<=Ad then some (0,Ad) else (gI a5<|w64<|w64 (Ad + 1) - 1).bind λAh=>some (w64 Ah,w64<|Ad + 1)):Option (Int × Int)).bind λ(Ai,Aj)=>some (Int.tmod (w64<|IntKind.wrap .u8 Ai) 6,Aj)):Option (Int × Int)).bind λ(Ak,Am)=>(gI Ag Aa).bind λAp=>some (.inl (w64<|Aa + 1,Am,sI (sI Ae Aa<|List.replicate (Int.toNat<|w64<|1 + Int.tmod (w64 a1) Ac) (0:Int)) Aa<|sI Ag Aa<|w64<|1 + Ak)) else none else some<|.inr (Ad,Ae)
def AZm (fuel:Nat) (a5:LiA) (Ab Aa Ac:Int) (Ad:LiI):Option ((Int × Int × LiI) ⊕ (Int × LiI)):=
 if Aa < Ab then (gI Ad Ab).bind λAe=>((if (a5.length:Int)<=Ac then some (0,Ac) else (gI a5<|w64<|w64 (Ac + 1) - 1).bind λAi=>some (w64 Ai,w64<|Ac + 1)):Option (Int × Int)).bind λ(Af,Aj)=>(gI Ae Aa).bind λAo=>(gI (sI Ad Ab<|sI Ae Aa<|Int.tmod Af 3) Aa).bind λAh=>(gI (sI Ad Ab<|sI Ae Aa<|Int.tmod Af 3) Ab).bind λAk=>(gI Ak Aa).bind λAm=>(gI Ah Ab).bind λAp=>some (.inl (w64<|Aa + 1,Aj,sI (sI Ad Ab<|sI Ae Aa<|Int.tmod Af 3) Aa<|sI Ah Ab Am)) else some<|.inr (Ac,Ad)
def AXo (fuel:Nat) (a5:LiA) (Ae:LiI) (Aa Ab:Int) (Ac:LiI):Option ((Int × Int × LiI) ⊕ (Int × LiI)):=
 if Aa < (Ae.length:Int) then (iter (λs=>AZm fuel a5 Aa s.1 s.2.1 s.2.2) fuel (0,Ab,Ac)).bind (λ((Af,Ag):Int × LiI)=>some<|.inl (w64<|Aa + 1,Af,Ag)) else some<|.inr (Ab,Ac)
def AW8 (fuel:Nat) (a1:Int) (a5:LiA) (Ac Aa Ad:Int) (Ae:LiI):Option ((Int × Int × LiI) ⊕ (Int × LiI)):=
 if Aa < ((List.replicate (Int.toNat<|w64<|1 + Int.tmod (w64 a1) Ac) ([]:List Int)).length:Int) then if 0<=w64 (1 + Int.tmod (w64 a1) Ac)/\w64 (1 + Int.tmod (w64 a1) Ac)<=100000000 then (gI Ae Aa).bind λAo=>(gI (sI Ae Aa<|List.replicate (Int.toNat<|w64<|1 + Int.tmod (w64 a1) Ac) (0:Int)) Aa).bind λAg=>((((if (a5.length:Int)<=Ad then some (0,Ad) else (gI a5<|w64<|w64 (Ad + 1) - 1).bind λAh=>some (w64 Ah,w64<|Ad + 1)):Option (Int × Int)).bind λ(Ai,Aj)=>some (Int.tmod (w64<|IntKind.wrap .u8 Ai) 9,Aj)):Option (Int × Int)).bind λ(Ak,Am)=>(gI Ag Aa).bind λAp=>some (.inl (w64<|Aa + 1,Am,sI (sI Ae Aa<|List.replicate (Int.toNat<|w64<|1 + Int.tmod (w64 a1) Ac) (0:Int)) Aa<|sI Ag Aa<|w64<|1 + Ak)) else none else some<|.inr (Ad,Ae)
def AW9 (fuel:Nat) (a1:Int) (a5:LiA) (Ac Aa Ad:Int) (Ae:LiI):Option ((Int × Int × LiI) ⊕ (Int × LiI)):=
 if Aa < ((List.replicate (Int.toNat<|w64<|1 + Int.tmod (w64 a1) Ac) ([]:List Int)).length:Int) then if 0<=w64 (1 + Int.tmod (w64 a1) Ac)/\w64 (1 + Int.tmod (w64 a1) Ac)<=100000000 then (gI Ae Aa).bind λAo=>(gI (sI Ae Aa<|List.replicate (Int.toNat<|w64<|1 + Int.tmod (w64 a1) Ac) (0:Int)) Aa).bind λAg=>((((if (a5.length:Int)<=Ad then some (0,Ad) else (gI a5<|w64<|w64 (Ad + 1) - 1).bind λAh=>some (w64 Ah,w64<|Ad + 1)):Option (Int × Int)).bind λ(Ai,Aj)=>some (Int.tmod (w64<|IntKind.wrap .u8 Ai) 1,Aj)):Option (Int × Int)).bind λ(Ak,Am)=>(gI Ag Aa).bind λAp=>some (.inl (w64<|Aa + 1,Am,sI (sI Ae Aa<|List.replicate (Int.toNat<|w64<|1 + Int.tmod (w64 a1) Ac) (0:Int)) Aa<|sI Ag Aa<|w64<|1 + Ak)) else none else some<|.inr (Ad,Ae)
def AXa (fuel:Nat) (a1:Int) (a5:LiA) (Ac Aa Ad:Int) (Ae:LiI):Option ((Int × Int × LiI) ⊕ (Int × LiI)):=
 if Aa < ((List.replicate (Int.toNat<|w64<|1 + Int.tmod (w64 a1) Ac) ([]:List Int)).length:Int) then if 0<=w64 (1 + Int.tmod (w64 a1) Ac)/\w64 (1 + Int.tmod (w64 a1) Ac)<=100000000 then (gI Ae Aa).bind λAo=>(gI (sI Ae Aa<|List.replicate (Int.toNat<|w64<|1 + Int.tmod (w64 a1) Ac) (0:Int)) Aa).bind λAg=>((((if (a5.length:Int)<=Ad then some (0,Ad) else (gI a5<|w64<|w64 (Ad + 1) - 1).bind λAh=>some (w64 Ah,w64<|Ad + 1)):Option (Int × Int)).bind λ(Ai,Aj)=>some (Int.tmod (w64<|IntKind.wrap .u8 Ai) 2,Aj)):Option (Int × Int)).bind λ(Ak,Am)=>(gI Ag Aa).bind λAp=>some (.inl (w64<|Aa + 1,Am,sI (sI Ae Aa<|List.replicate (Int.toNat<|w64<|1 + Int.tmod (w64 a1) Ac) (0:Int)) Aa<|sI Ag Aa<|w64<|1 + Ak)) else none else some<|.inr (Ad,Ae)
def AVq (fuel:Nat) (a1 a2:Int) (a5 a9:LiA) (Aa:Int):Option LiI:=
 if Aa≠0 then ((((if Int.tmod a2 8=0 then some (decide (Int.tmod a2 8=0)) else if Int.tmod a2 8=1 then some (decide (Int.tmod a2 8=1)) else if Int.tmod a2 8=2 then some (decide (Int.tmod a2 8=2)) else some<|decide (Int.tmod a2 8=3)):Option Bool).bind (λ(Ak:Bool)=>if Ak=true then ((((if 0<=w64 (1 + Int.tmod (w64 a1) Aa)/\w64 (1 + Int.tmod (w64 a1) Aa)<=100000000 then (iter (λs=>AXn fuel a1 a5 Aa s.1 s.2.1 s.2.2) fuel (0,0,List.replicate (Int.toNat<|w64<|1 + Int.tmod (w64 a1) Aa) ([]:List Int))).bind (λ((Am,Ao):Int × LiI)=>some (Ao,Am)) else none):Option (LiI × Int)).bind λ(Ae,Ap)=>(iter (λs=>AXo fuel a5 Ae s.1 s.2.1 s.2.2) fuel (0,Ap,Ae)).bind (λ((Aq,Ar):Int × LiI)=>some (Ar,Aq))):Option (LiI × Int)).bind λ(Au,Av)=>some (Au,Av) else if Int.tmod a2 8=4 then (AYj fuel (w64<|1 + Int.tmod (w64 a1) Aa) false).bind λAf=>(gI Af 0).bind λAg=>(gI Ag 0).bind λAw=>((((if (a5.length:Int)<=0 then some (0,0) else (gI a5<|w64<|w64 (0 + 1) - 1).bind λAx=>some (w64 Ax,w64<|0 + 1)):Option (Int × Int)).bind λ(Ay,Az)=>some (Int.tmod (w64<|IntKind.wrap .u8 Ay) 3,Az)):Option (Int × Int)).bind λ(A3,A4)=>some (sI Af 0<|sI Ag 0<|w64<|Aw + A3,A4) else if Int.tmod a2 8=5 then (AYj fuel (w64<|1 + Int.tmod (w64 a1) Aa) true).bind λAh=>(gI Ah<|w64<|w64 (1 + Int.tmod (w64 a1) Aa) - 1).bind λAi=>(gI Ai<|w64<|w64 (1 + Int.tmod (w64 a1) Aa) - 1).bind λA5=>((((if (a5.length:Int)<=0 then some (0,0) else (gI a5<|w64<|w64 (0 + 1) - 1).bind λA6=>some (w64 A6,w64<|0 + 1)):Option (Int × Int)).bind λ(A7,A8)=>some (Int.tmod (w64<|IntKind.wrap .u8 A7) 2,A8)):Option (Int × Int)).bind λ(A9,Ba)=>some (sI Ah (w64<|w64 (1 + Int.tmod (w64 a1) Aa) - 1)<|sI Ai (w64<|w64 (1 + Int.tmod (w64 a1) Aa) - 1)<|w64<|A5 + A9,Ba) else if Int.tmod a2 8=6 then ((if 0<=w64 (1 + Int.tmod (w64 a1) Aa)/\w64 (1 + Int.tmod (w64 a1) Aa)<=100000000 then (iter (λs=>AW8 fuel a1 a5 Aa s.1 s.2.1 s.2.2) fuel (0,0,List.replicate (Int.toNat<|w64<|1 + Int.tmod (w64 a1) Aa) ([]:List Int))).bind (λ((Bb,Bc):Int × LiI)=>some (Bc,Bb)) else none):Option (LiI × Int)).bind λ(Be,Bf)=>some (Be,Bf) else ((if 0<=w64 (1 + Int.tmod (w64 a1) Aa)/\w64 (1 + Int.tmod (w64 a1) Aa)<=100000000 then (iter (λs=>AW9 fuel a1 a5 Aa s.1 s.2.1 s.2.2) fuel (0,0,List.replicate (Int.toNat<|w64<|1 + Int.tmod (w64 a1) Aa) ([]:List Int))).bind (λ((Bg,Bh):Int × LiI)=>some (Bh,Bg)) else none):Option (LiI × Int)).bind λ(Bi,Bj)=>some (Bi,Bj))):Option (LiI × Int)).bind (λ((Aj,Bl):LiI × Int)=>(Aam fuel Aj).bind λBm=>if (!Bm)=true then ((if 0<=w64 (1 + Int.tmod (w64 a1) Aa)/\w64 (1 + Int.tmod (w64 a1) Aa)<=100000000 then (iter (λs=>AXa fuel a1 a5 Aa s.1 s.2.1 s.2.2) fuel (0,Bl,List.replicate (Int.toNat<|w64<|1 + Int.tmod (w64 a1) Aa) ([]:List Int))).bind (λ((Bn,Bo):Int × LiI)=>some (Bo,Bn)) else none):Option (LiI × Int)).bind λ(Bp,Br)=>some Bp else some Aj) else none
theorem Adp {a5:LiA} {B7:Value} {a9:LiA} {Am:Int} {r:LiI} (H4:SlC (cI .i8) h Ab a5) (H8:SlC (cI .i8) h B7 a9) (hp:AVq fuel a1 a2 a5 a9 Am=some r):AT3 Tryz.prog 31 #[(.agg #[(.int .u8 a1),(.int .u8 a2),Ab,B7]),(.int .i64 Am)] h (λx h'=>Ext h h'/\ ∃ (x0:Value) (F0:List Nat) (Hj:List LnA) (Hk:List Value),x=x0/\AV3 (cI .i64) 61 2 h' F0 Hj Hk x0 r/\Sp h' h.size [F0]):=by
 unfold AVq at hp;refine cwf (l:=[_,_]) Tryz.func31 rfl rfl (AGt<|AZa (Kst.k0 h) [(.int .u8 a1),(.int .u8 a2),Ab,B7] λTz T0 T3 B8=>AT7<|AU9 A99 Ae7 (B8.b p0) 2 rfl ?_);obtain ⟨_,_,_,Hl⟩:=(H4.ext B8.x).shape;refine AWr (v:=(.agg #[Ab,(.int .i64 0)])) (λ_=>by subst Hl;kernel_rfl)<|AZa B8 [Ab,(.int .i64 0)] λAa T4 T5 Ax=>AT7<|AU9 A97 BBd (Ax.b p1) 0 rfl (Ac3 Ah7 Ajf rfl (AGq ?_));obtain ⟨Hm,Hn⟩:=ifN hp;refine Aft rfl rfl Hm (ATp rfl rfl (AT7<|AG1 ?_));obtain ⟨Ho,Hq,Dz⟩:=AGu Hn;refine Ae6 147573952589676150912 (λx:(LiI) × (Value) × LnA × LnN × LvA × (Int)=>[(7,x.2.1)]) (λx h'=>( (x.1,x.2.2.2.2.2))=Ho/\Kst h h' (aO2 (cI .i64) 61 2 x.2.2.1 x.2.2.2.1 x.2.2.2.2.1 x.2.1 x.1 :: ((AY6 Ax.L [0]).set 0 (aB 109 Aa [Ab,(.int .i64 x.2.2.2.2.2)])))) ?_ ?_
 ·refine AGt<|AU9 A98 BBd (Ax.b p1) 1 rfl (Aft rfl rfl AGr (AGw<|AGx ?_));obtain ⟨Hr,D0,B9⟩:=AGu Hq;refine Ae6 520093696 (λx:(Bool)=>[(24,(.bool x))]) (λx h'=>( x)=Hr/\Kst h h' (AY6 Ax.L [0])) ?_ ?_
  ·refine AGt<|AWe rfl rfl (AG1<|⟨_,rfl,λCa=>?_,λCa=>?_⟩)
   ·refine AG5<|q_t ?_;exact ⟨((decide ((Int.tmod a2 8)=0)):(Bool)),⟨AGs<|AT9 D0 Ca,Ax.sel [0] AGr⟩,rfl,trivial⟩
   ·refine AGt<|AWe rfl rfl (AG1 ?_);have D2:=AUa D0 Ca;refine ⟨_,rfl,λCb=>?_,λCb=>?_⟩
    ·refine AG5<|q_t ?_;exact ⟨((decide ((Int.tmod a2 8)=1)):(Bool)),⟨AGs<|AT9 D2 Cb,Ax.sel [0] AGr⟩,rfl,trivial⟩
    ·refine AGt<|AWe rfl rfl (AG1 ?_);have D3:=AUa D2 Cb;refine ⟨_,rfl,λCd=>?_,λCd=>?_⟩
     ·refine AG5<|q_t ?_;exact ⟨((decide ((Int.tmod a2 8)=2)):(Bool)),⟨AGs<|AT9 D3 Cd,Ax.sel [0] AGr⟩,rfl,trivial⟩
     ·refine ATc<|AWe rfl rfl (AG1 ?_);exact ⟨((decide ((Int.tmod a2 8)=3)):(Bool)),⟨AGs<|AUa D3 Cd,Ax.sel [0] AGr⟩,rfl,trivial⟩
  rintro Hs Ht Hu ⟨Hv,Ao⟩;(try dsimp only [Kst.L,List.set,AY6,Acl] at Ao);refine (show W _ _ _ (setL [(24,(.bool Hs))]<|mix _ Ht _) Hu from ?_);subst Hv;(try dsimp only at B9);refine ⟨_,rfl,λCe=>?_,λCe=>?_⟩
  ·refine ATc<|AGq<|AGq ?_;obtain ⟨Hw,Hx,D4⟩:=AGu<|ifT B9 Ce;refine ATm (K':=(λxr h'=> ∃ x:(LiI) × (Value) × LnA × LnN × LvA × (Int),(x.1,x.2.2.2.2.2)=Hw/\xr=x.2.1/\Kst h h' (aO2 (cI .i64) 61 2 x.2.2.1 x.2.2.2.1 x.2.2.2.2.1 x.2.1 x.1 :: (Ao.L.set 0<|aB 109 Aa [Ab,(.int .i64 x.2.2.2.2.2)])))) trivial rfl ?_ λD5 T6 Hy=>?_
   ·refine cwf (l:=[_,_]) Tryz.func72 rfl rfl (AGt<|AT7<|AGq<|AGq ?_);obtain ⟨Hz,Ia,D6⟩:=AGu Hx;refine ATm (K':=(λxr h'=> ∃ x:(LiI) × (Value) × LnA × LnN × LvA × (Int),(x.1,x.2.2.2.2.2)=Hz/\xr=x.2.1/\Kst h h' (aO2 (cI .i64) 61 2 x.2.2.1 x.2.2.2.1 x.2.2.2.2.1 x.2.1 x.1 :: (Ao.L.set 0<|aB 109 Aa [Ab,(.int .i64 x.2.2.2.2.2)])))) trivial rfl ?_ λBa T7 Ib=>?_
    ·refine cwf (l:=[_,_,_]) Tryz.func75 rfl rfl (AGt<|AT7<|AGq ?_);obtain ⟨Ic,Id⟩:=ifN Ia;refine Ajk (cI .i64) 2 ATg Ae8 rfl trivial tt2 rfl rfl AGr Ic λIe If Ih D7 T8 Ii Ij Ik=>AG1<|AGv<|AGt<|AGq ?_;have Cf:=Ao.no2 Ij Ik Ii;refine AUb ATg rfl (Cf.o2 p0).rd (AGq<|AGw<|AGx<|AYo 4294959360 (λx:(Int) × (Int) × (LiI) × LnA × LnN × LvA=>(x.1,x.2.1,x.2.2.1)) ((0,0,(List.replicate (Int.toNat<|w64<|1 + (Int.tmod (w64 a1) Am)) ([]:List Int)),Ie,If,Ih):(Int) × (Int) × (LiI) × LnA × LnN × LvA) Id (λx=>[(13,(.int .i64 x.1))]) (λx=>(Cf.L.set 0<|aO2 (cI .i64) 61 2 x.2.2.2.1 x.2.2.2.2.1 x.2.2.2.2.2 D7 x.2.2.1).set 1 (aB 109 Aa [Ab,(.int .i64 x.2.1)])) Cf ⟨rfl,trivial⟩ ?_);rintro ⟨Cg,Bb,Il,Im,Io,Ip⟩ Iq Ir T9 Ch Bc Is;(try dsimp only [Kst.L,List.set,AY6,Acl] at Ch);refine (show W _ _ _ (setL [(13,(.int .i64 Cg))]<|mix _ Iq _) Ir from ?_);(try dsimp only at Bc);unfold AXn at Bc;refine AGt<|ATz rfl rfl (AGw<|AGv<|⟨_,rfl,λCi=>?_,λCi=>?_⟩)
     ·refine AG5<|q_t<|AGv<|AGx<|AGt<|AGq<|AT7<|AGq<|AGq<|AGq ?_;obtain ⟨It,Iu⟩:=ifN<|AT9 Bc Ci;refine Aip (c:=(cI .i64)) (a:=0) ATe Acs rfl rfl (λ_=>rfl) rfl trivial tt2 rfl rfl AGr It λUa Ub Uc Iv Iw Ix Iy=>?_;have A3:=Ch.no Iw (AX4 Ix Iy) Iv;obtain ⟨Ud,D8,Iz⟩:=AGu Iu;refine AUy ATg rfl (A3.o2 p1) rfl D8 λUe Uf I0 Ug Uh=>Ajj ATq (A3.o2 p1) D8 I0 rfl rfl (A3.o p0) (A3.dj p0 p1 AGr) λAp I1 I2 I3=>AGw<|AVl (λh'=>UpT ([Aa] ++ []) Ap h') AG3 ?_;have Af:=A3.m2 p0 p1 AGr I2 I1 λz hz=> .inl<|I3 z hz;have Cj:UpT ([Aa] ++ []) Ap Ap:=UpT.start<|AV1 (AYr (Af.b p2) rfl) all_nil;refine AGq<|AGq ?_;obtain ⟨Ui,Ck,I6⟩:=AGu Iz;refine AUy ATg rfl (Af.o2 p1) rfl Ck λUj Uk I7 I9 Ja=>AVe ATq rfl Cj (λh' hb=>Aen Ja hb<|Aks (Af.dj p1 p2 AGr _<|by simp [aO,aO2,I7]) Akt) (AGq<|AGq<|AGq ?_);obtain ⟨Jc,Je,D9⟩:=AGu I6;have Jf:UpT ([Aa] ++ []) Ap Ap:=UpT.start<|AV1 (AYr (Af.b p2) rfl) all_nil;refine ATm (K':=(λxr h'=> ∃ x:(Int) × (Int),(x.1,x.2)=Jc/\xr=(.int .i64 x.1)/\Kst h h' ((AY6 Af.L [1,2]).set 1 (aB 109 Aa [Ab,(.int .i64 x.2)]))/\UpT ([Aa] ++ []) Ap h')) Cj rfl ?_ λUl Um Jg=>?_
      ·refine cwf (l:=[_,_]) Tryz.func74 rfl rfl (AGt<|AT7<|AGq ?_);obtain ⟨Jh,Ea,Eb⟩:=AGu Je;have Ec:UpT ([Aa] ++ []) Ap Ap:=UpT.start<|AV1 (AYr (Af.b p2) rfl) all_nil;refine ATm (K':=(λxr h'=> ∃ x:(Int) × (Int),(x.1,x.2)=Jh/\xr=(.int .i64 x.1)/\Kst h h' ((AY6 Af.L [1,2]).set 1 (aB 109 Aa [Ab,(.int .i64 x.2)]))/\UpT ([Aa] ++ []) Ap h')) trivial rfl ?_ λUn Uo Ji=>?_
       ·refine cwf (l:=[_]) Tryz.func135 rfl rfl (AGt<|AG1<|AGv<|AGv<|AWg<|AGq<|AUw rfl (AVa AU2 rfl (AT1 AT8 rfl ((Af.b p2).cell (i:=1) rfl) (AGq<|AUw rfl (AVa AX5 rfl (AT1 Ae7 rfl ((Af.b p2).cell (i:=0) rfl) (AUu Af5 rfl H4 (Afb rfl rfl (AGw<|⟨_,rfl,λCm=>?_,λCm=>?_⟩)))))))))
        ·refine AGt<|AG1<|AG6<|ATj<|⟨_,AS9,((0,Bb):(Int) × (Int)),?_,rfl,?_,?_⟩
         ·exact AGs<|AT9 Ea Cm
         ·exact Af.sel [1,2] AGr
         ·exact Ec
        ·refine AG5<|q_t<|AGt<|AGq<|AUw rfl (AVa AU2 rfl (AT1 AT8 rfl ((Af.b p2).cell (i:=1) rfl) (ATp rfl rfl (AUw rfl (AVa AU2 rfl (Af7 [Ab,(.int .i64<|w64<|Bb + 1)] AT8 rfl rfl rfl (Af.b p2) (Nat.le_of_ble_eq_true rfl) rfl λUp Ed Ee=>AGw<|AGv<|AWg<|AGq<|AUw rfl (AVa AX5 rfl ?_)))))));have Be:=Af.sb p2 Ee Ed rfl;refine AT1 Ae7 rfl ((Be.b p2).cell (i:=0) rfl) (AGq<|AUw rfl (AVa AU2 rfl (AT1 AT8 rfl ((Be.b p2).cell (i:=1) rfl) (AVm rfl rfl ?_))));obtain ⟨Jj,Jk,Jl⟩:=AGu<|AUa Ea Cm;refine Ack (c:=(cI .i8)) Af5 rfl H4 rfl Jk λUq Ur Us Jm Jn=>?_;obtain rfl:=Jm;refine AT1 Aoq rfl (ATw (Jn 0 _ rfl) Be.x) (Ac3 Aor Aap rfl (AG1<|AG6<|⟨_,AS9,(((w64 Jj),(w64<|Bb + 1)):(Int) × (Int)),?_,rfl,?_,?_⟩))
         ·exact AGs Jl
         ·exact Be.sel [1,2] AGr
         ·exact (Ec.then (Ed.stA Ee (AYr (Af.b p2) rfl) rfl)<|Afv rfl)
       obtain ⟨⟨Jo,Jp⟩,Jq,rfl,Ef,Jr⟩:=Ji;(try dsimp only [Kst.L,List.set,AY6,Acl] at Ef);refine ⟨trivial,?_⟩;subst Jq;(try dsimp only at Eb);refine Ac3 Aap Ah7 rfl (Ac3 Ah7 Ajf rfl (AGq<|Aft rfl rfl AGr (AG1<|AG6<|⟨_,AS9,(((Int.tmod (w64<|IntKind.wrap .u8 Jo) 6),Jp):(Int) × (Int)),?_,rfl,?_,?_⟩)))
       ·exact AGs Eb
       ·exact Ef
       ·exact (Jf.then Jr<|AV1 (Afv rfl) all_nil)
      obtain ⟨⟨Js,Ut⟩,Jt,rfl,Cn,Ju⟩:=Jg;(try dsimp only [Kst.L,List.set,AY6,Acl] at Cn);refine ⟨(Cj.then Ju<|AV1 (Afv rfl) all_nil),?_⟩;subst Jt;(try dsimp only at D9);refine ATp rfl rfl ?_;obtain ⟨Uu,Eg,Jv⟩:=AGu D9;refine AU7 (m:=Cg) ATe rfl (Af.o2 p1) I9 Ck rfl Eg λUv Jw=>AYs (m:=Cg) (AX9 ATh rfl rfl rfl) (Cn.o2 p0) Jw Ck Eg (show ((cI .i64)).rep _ (w64<|1 + Js) _ from rfl) λUw Jx Jy=>ATr<|q_b<|q_t<|ATc<|ATp rfl rfl (AGq<|AGw ?_);exact ⟨(_,_,_,_,_,_),(AGs Jv).symm,(Cn.uO2 p0 Jy Jx),rfl,trivial⟩
     ·have Eh:=Is _ (AGs<|AUa Bc Ci).symm;(try dsimp only at Eh);refine ATk<|ATl<|ATl<|AUi<|q_t<|AGt<|AGq<|AG1<|AG6<|⟨_,AS9,((Il,D7,Im,Io,Ip,Bb):(LiI) × (Value) × LnA × LnN × LvA × (Int)),?_,rfl,?_⟩
      ·exact AGs Eh
      ·exact Ch
    obtain ⟨⟨Jz,Ba,J0,J1,J2,J3⟩,J4,rfl,Bf⟩:=Ib;(try dsimp only [Kst.L,List.set,AY6,Acl] at Bf);refine ⟨trivial,?_⟩;subst J4;(try dsimp only at D6);refine AG1<|AGv<|AGt<|AGq<|AUb ATg rfl (Bf.o2 p0).rd (AGq<|AGw<|AGx<|AYo 17592186036416 (λx:(Int) × (Int) × (LiI) × LnA × LnN × LvA=>(x.1,x.2.1,x.2.2.1)) ((0,J3,Jz,J0,J1,J2):(Int) × (Int) × (LiI) × LnA × LnN × LvA) D6 (λx=>[(13,(.int .i64 x.1))]) (λx=>(Bf.L.set 0<|aO2 (cI .i64) 61 2 x.2.2.2.1 x.2.2.2.2.1 x.2.2.2.2.2 Ba x.2.2.1).set 1 (aB 109 Aa [Ab,(.int .i64 x.2.1)])) Bf ⟨rfl,trivial⟩ ?_);rintro ⟨Bg,Ei,Ej,Ek,El,Em⟩ J5 J6 Ux Bh Bi J7;(try dsimp only [Kst.L,List.set,AY6,Acl] at Bh);refine (show W _ _ _ (setL [(13,(.int .i64 Bg))]<|mix _ J5 _) J6 from ?_);(try dsimp only at Bi);unfold AXo at Bi;refine AGt<|ATz rfl rfl (AGw<|AGv<|⟨_,rfl,λCo=>?_,λCo=>?_⟩)
    ·refine AG5<|q_t<|AGv<|AGx<|AGt<|AGq<|AT7<|AG1<|AGx<|AYo 8796092956800 (λx:(Int) × (Int) × (LiI) × LnA × LnN × LvA=>(x.1,x.2.1,x.2.2.1)) ((0,Ei,Ej,Ek,El,Em):(Int) × (Int) × (LiI) × LnA × LnN × LvA) (AT9 Bi Co) (λx=>[(7,(.int .i64 x.1))]) (λx=>(Bh.L.set 0<|aO2 (cI .i64) 61 2 x.2.2.2.1 x.2.2.2.2.1 x.2.2.2.2.2 Ba x.2.2.1).set 1 (aB 109 Aa [Ab,(.int .i64 x.2.1)])) Bh ⟨rfl,trivial⟩ ?_;rintro ⟨En,Cp,Uy,Uz,U0,U3⟩ J8 Az U8 Ag Bj J9;(try dsimp only [Kst.L,List.set,AY6,Acl] at Ag);refine (show W _ _ _ (setL [(7,(.int .i64 En))]<|mix _ J8 _) Az from ?_);(try dsimp only at Bj);unfold AZm at Bj;refine AGv<|AGt<|AGq<|AGq<|ATz rfl rfl (AGw<|⟨_,rfl,λCq=>?_,λCq=>?_⟩)
     ·refine AG5<|q_t<|AGv<|AGx<|AGv<|AVl (λh'=>UpT ([Aa] ++ []) Az h') AG3 ?_;have Cr:UpT ([Aa] ++ []) Az Az:=UpT.start<|AV1 (AYr (Ag.b p1) rfl) all_nil;refine AGq<|AGq ?_;obtain ⟨Va,Ct,Ka⟩:=AGu<|AT9 Bj Cq;refine AUy ATg rfl (Ag.o2 p0) rfl Ct λVb Vc Kb Kc Kd=>AVe ATq rfl Cr (λh' hb=>Aen Kd hb<|Aks (Ag.dj p0 p1 AGr _<|by simp [aO,aO2,Kb]) Akt) (AGq<|AGq ?_);obtain ⟨Ke,Eo,Ep⟩:=AGu Ka;have Er:UpT ([Aa] ++ []) Az Az:=UpT.start<|AV1 (AYr (Ag.b p1) rfl) all_nil;refine ATm (K':=(λxr h'=> ∃ x:(Int) × (Int),(x.1,x.2)=Ke/\xr=(.int .i64 x.1)/\Kst h h' (Ag.L.set 1<|aB 109 Aa [Ab,(.int .i64 x.2)])/\UpT ([Aa] ++ []) Az h')) Cr rfl ?_ λVd Ve Kf=>?_
      ·refine cwf (l:=[_]) Tryz.func135 rfl rfl (AGt<|AG1<|AGv<|AGv<|AWg<|AGq<|AUw rfl (AVa AU2 rfl (AT1 AT8 rfl ((Ag.b p1).cell (i:=1) rfl) (AGq<|AUw rfl (AVa AX5 rfl (AT1 Ae7 rfl ((Ag.b p1).cell (i:=0) rfl) (AUu Af5 rfl H4 (Afb rfl rfl (AGw<|⟨_,rfl,λCu=>?_,λCu=>?_⟩)))))))))
       ·refine AGt<|AG1<|AG6<|ATj<|⟨_,AS9,((0,Cp):(Int) × (Int)),?_,rfl,?_,?_⟩
        ·exact AGs<|AT9 Eo Cu
        ·exact Ag
        ·exact Er
       ·refine AG5<|q_t<|AGt<|AGq<|AUw rfl (AVa AU2 rfl (AT1 AT8 rfl ((Ag.b p1).cell (i:=1) rfl) (ATp rfl rfl (AUw rfl (AVa AU2 rfl (Af7 [Ab,(.int .i64<|w64<|Cp + 1)] AT8 rfl rfl rfl (Ag.b p1) (Nat.le_of_ble_eq_true rfl) rfl λVf Es Et=>AGw<|AGv<|AWg<|AGq<|AUw rfl (AVa AX5 rfl ?_)))))));have Bl:=Ag.sb p1 Et Es rfl;refine AT1 Ae7 rfl ((Bl.b p1).cell (i:=0) rfl) (AGq<|AUw rfl (AVa AU2 rfl (AT1 AT8 rfl ((Bl.b p1).cell (i:=1) rfl) (AVm rfl rfl ?_))));obtain ⟨Kg,Kh,Ki⟩:=AGu<|AUa Eo Cu;refine Ack (c:=(cI .i8)) Af5 rfl H4 rfl Kh λVg Vh Vi Kj Kk=>?_;obtain rfl:=Kj;refine AT1 Aoq rfl (ATw (Kk 0 _ rfl) Bl.x) (Ac3 Aor Aap rfl (AG1<|AG6<|⟨_,AS9,(((w64 Kg),(w64<|Cp + 1)):(Int) × (Int)),?_,rfl,?_,?_⟩))
        ·exact AGs Ki
        ·exact Bl
        ·exact (Er.then (Es.stA Et (AYr (Ag.b p1) rfl) rfl)<|Afv rfl)
      obtain ⟨⟨Kl,Vj⟩,Km,rfl,Cv,Kn⟩:=Kf;(try dsimp only [Kst.L,List.set,AY6,Acl] at Cv);refine ⟨(Cr.then Kn<|AV1 (Afv rfl) all_nil),?_⟩;subst Km;(try dsimp only at Ep);refine Aft rfl rfl AGr ?_;obtain ⟨Vk,Eu,Ko⟩:=AGu Ep;refine AU7 (m:=Bg) ATe rfl (Ag.o2 p0) Kc Ct rfl Eu λVl Kp=>AYs (m:=Bg) (AX9 ATh rfl rfl rfl) (Cv.o2 p0) Kp Ct Eu (show ((cI .i64)).rep _ (Int.tmod Kl 3) _ from rfl) λVm Kr Kt=>AGw<|AWg<|AGq<|AGq ?_;have Bm:=Cv.uO2 p0 Kt Kr;obtain ⟨Vn,Ev,Ku⟩:=AGu Ko;refine AUs ATg ATq (Bm.o2 p0) Ev λ_ Vo Kv=>AGq<|AGq<|AGq ?_;obtain ⟨Vp,Ew,Kw⟩:=AGu Ku;refine AUs ATg ATq (Bm.o2 p0) Ew λ_ Vs Kx=>AGq ?_;obtain ⟨Vt,Ky,Kz⟩:=AGu Kw;refine AW5 (m:=Bg) ATe ATh (Bm.o2 p0) Kx Ew Ky λ_=>?_;obtain ⟨Vu,La,Lb⟩:=AGu Kz;refine AZ7 (m:=En) Bm p0 ATe ATh Kv Ev La (λ_=>rfl) λ_ Vv Lc=>ATr<|q_b<|q_t<|ATc<|AGq<|ATp rfl rfl (AG1 ?_);exact ⟨(_,_,_,_,_,_),(AGs Lb).symm,Lc,rfl,trivial⟩
     ·have Ey:=J9 _ (AGs<|AUa Bj Cq).symm;(try dsimp only at Ey);refine ATk<|ATl<|ATl<|AUi<|q_b<|q_t<|ATc<|ATp rfl rfl (AGq<|AGw ?_);exact ⟨(_,_,_,_,_,_),(AGs Ey).symm,Ag,rfl,trivial⟩
    ·have Ez:=J7 _ (AGs<|AUa Bi Co).symm;(try dsimp only at Ez);refine ATk<|ATl<|ATl<|AUi<|q_t<|AGt<|AGq<|AG1<|AG6<|⟨_,AS9,((Ej,Ba,Ek,El,Em,Ei):(LiI) × (Value) × LnA × LnN × LvA × (Int)),?_,rfl,?_⟩
     ·exact AGs Ez
     ·exact Bh
   obtain ⟨⟨Ld,D5,Le,Lf,Lg,Lh⟩,Li,rfl,Fa⟩:=Hy;(try dsimp only [Kst.L,List.set,AY6,Acl] at Fa);refine ⟨trivial,?_⟩;subst Li;(try dsimp only at D4);refine ATu<|ATr<|q_b<|q_t ?_;exact ⟨((Ld,D5,Le,Lf,Lg,Lh):(LiI) × (Value) × LnA × LnN × LvA × (Int)),⟨AGs D4,Fa⟩,rfl,trivial⟩
  ·refine AGt<|AWe rfl rfl (AG1 ?_);have Fb:=Abh B9 Ce;refine ⟨_,rfl,λCw=>?_,λCw=>?_⟩
   ·refine AGt<|AGq ?_;obtain ⟨Lj,Lk,Ll⟩:=AGu<|AT9 Fb Cw;refine Ahr Ao (Agp Lk) λLm Lo Lq Lr Aq Vw Ac=>AG1<|AVl (λh'=>UpT ([Aa] ++ []) Aq h') AG3 ?_;have Bn:UpT ([Aa] ++ []) Aq Aq:=UpT.start<|AV1 (AYr (Ac.b p1) rfl) all_nil;refine AGq ?_;obtain ⟨Lv,A4,Lw⟩:=AGu Ll;refine AUy ATg rfl (Ac.o2 p0) rfl A4 λVx Vy Lx Fc Ly=>AVe ATq rfl Bn (λh' hb=>Aen Ly hb<|Aks (Ac.dj p0 p1 AGr _<|by simp [aO,aO2,Lx]) Akt) ?_;obtain ⟨Fd,Bo,Lz⟩:=AGu Lw;refine AU7 (m:=0) ATe rfl (Ac.o2 p0) Fc A4 rfl Bo λVz Fe=>?_;obtain ⟨V1,L9,Ma⟩:=(Ac.o2 p0).cells Fe A4 Bo;obtain rfl:=L9;refine AVe ATh rfl Bn (λh' hb=>Aen (Ma 0 _ rfl) hb<|Aks (Ac.dj p0 p1 AGr _<|(Ac.o2 p0).gmem Fe) Akt) (AGq ?_);obtain ⟨Mb,Mc,Ff⟩:=AGu Lz;have Md:UpT ([Aa] ++ []) Aq Aq:=UpT.start<|AV1 (AYr (Ac.b p1) rfl) all_nil;refine ATm (K':=(λxr h'=> ∃ x:(Int) × (Int),(x.1,x.2)=Mb/\xr=(.int .i64 x.1)/\Kst h h' (Ac.L.set 1<|aB 109 Aa [Ab,(.int .i64 x.2)])/\UpT ([Aa] ++ []) Aq h')) Bn rfl ?_ λV4 V6 Me=>?_
    ·refine cwf (l:=[_,_]) Tryz.func74 rfl rfl (AGt<|AT7<|AGq ?_);obtain ⟨Mf,Fg,Fh⟩:=AGu Mc;have Fi:UpT ([Aa] ++ []) Aq Aq:=UpT.start<|AV1 (AYr (Ac.b p1) rfl) all_nil;refine ATm (K':=(λxr h'=> ∃ x:(Int) × (Int),(x.1,x.2)=Mf/\xr=(.int .i64 x.1)/\Kst h h' (Ac.L.set 1<|aB 109 Aa [Ab,(.int .i64 x.2)])/\UpT ([Aa] ++ []) Aq h')) trivial rfl ?_ λV8 Wa Mg=>?_
     ·refine cwf (l:=[_]) Tryz.func135 rfl rfl (AGt<|AG1<|AGv<|AGv<|AWg<|AGq<|AUw rfl (AVa AU2 rfl (AT1 AT8 rfl ((Ac.b p1).cell (i:=1) rfl) (AGq<|AUw rfl (AVa AX5 rfl (AT1 Ae7 rfl ((Ac.b p1).cell (i:=0) rfl) (AUu Af5 rfl H4 (Afb rfl rfl (AGw<|⟨_,rfl,λCx=>?_,λCx=>?_⟩)))))))))
      ·refine AGt<|AG1<|AG6<|ATj<|⟨_,AS9,((0,0):(Int) × (Int)),?_,rfl,?_,?_⟩
       ·exact AGs<|AT9 Fg Cx
       ·exact Ac
       ·exact Fi
      ·refine AG5<|q_t<|AGt<|AGq<|AUw rfl (AVa AU2 rfl (AT1 AT8 rfl ((Ac.b p1).cell (i:=1) rfl) (ATp rfl rfl (AUw rfl (AVa AU2 rfl (Af7 [Ab,(.int .i64<|w64<|0 + 1)] AT8 rfl rfl rfl (Ac.b p1) (Nat.le_of_ble_eq_true rfl) rfl λWb Fj Fk=>AGw<|AGv<|AWg<|AGq<|AUw rfl (AVa AX5 rfl ?_)))))));have Bp:=Ac.sb p1 Fk Fj rfl;refine AT1 Ae7 rfl ((Bp.b p1).cell (i:=0) rfl) (AGq<|AUw rfl (AVa AU2 rfl (AT1 AT8 rfl ((Bp.b p1).cell (i:=1) rfl) (AVm rfl rfl ?_))));obtain ⟨Mh,Mi,Mj⟩:=AGu<|AUa Fg Cx;refine Ack (c:=(cI .i8)) Af5 rfl H4 rfl Mi λWc Wd We Mk Ml=>?_;obtain rfl:=Mk;refine AT1 Aoq rfl (ATw (Ml 0 _ rfl) Bp.x) (Ac3 Aor Aap rfl (AG1<|AG6<|⟨_,AS9,(((w64 Mh),(w64<|0 + 1)):(Int) × (Int)),?_,rfl,?_,?_⟩))
       ·exact AGs Mj
       ·exact Bp
       ·exact (Fi.then (Fj.stA Fk (AYr (Ac.b p1) rfl) rfl)<|Afv rfl)
     obtain ⟨⟨Mm,Mo⟩,Mq,rfl,Fl,Mr⟩:=Mg;(try dsimp only [Kst.L,List.set,AY6,Acl] at Fl);refine ⟨trivial,?_⟩;subst Mq;(try dsimp only at Fh);refine Ac3 Aap Ah7 rfl (Ac3 Ah7 Ajf rfl (AGq<|Aft rfl rfl AGr (AG1<|AG6<|⟨_,AS9,(((Int.tmod (w64<|IntKind.wrap .u8 Mm) 3),Mo):(Int) × (Int)),?_,rfl,?_,?_⟩)))
     ·exact AGs Fh
     ·exact Fl
     ·exact (Md.then Mr<|AV1 (Afv rfl) all_nil)
    obtain ⟨⟨Fm,Ms⟩,Mt,rfl,Cy,Mu⟩:=Me;(try dsimp only [Kst.L,List.set,AY6,Acl] at Cy);refine ⟨(Bn.then Mu<|AV1 (Afv rfl) all_nil),?_⟩;subst Mt;(try dsimp only at Ff);refine ATp rfl rfl (AU7 (m:=0) ATe rfl (Ac.o2 p0) Fc A4 rfl Bo λWf Mv=>AYs (m:=0) (AX9 ATh rfl rfl rfl) (Cy.o2 p0) Mv A4 Bo (show ((cI .i64)).rep _ (w64<|Fd + Fm) _ from rfl) λWg Mw Mx=>ATr<|q_b<|q_t ?_);exact ⟨(((sI Lj 0<|sI Lv 0<|w64<|Fd + Fm),Lr,Lm,Lo,Lq,Ms):(LiI) × (Value) × LnA × LnN × LvA × (Int)),⟨AGs Ff,(Cy.uO2 p0 Mx Mw)⟩,rfl,trivial⟩
   ·refine AGt<|AWe rfl rfl (AG1 ?_);have Fo:=AUa Fb Cw;refine ⟨_,rfl,λCz=>?_,λCz=>?_⟩
    ·refine AGt<|AGq ?_;obtain ⟨My,Mz,M0⟩:=AGu<|AT9 Fo Cz;refine Ahr Ao (Agp Mz) λM1 M2 M3 M4 Ar Wh Ad=>AG1<|AVl (λh'=>UpT ([Aa] ++ []) Ar h') AG3 ?_;have Bq:UpT ([Aa] ++ []) Ar Ar:=UpT.start<|AV1 (AYr (Ad.b p1) rfl) all_nil;refine AGq<|AGq<|AVm rfl rfl ?_;obtain ⟨M5,A5,M6⟩:=AGu M0;refine AUy ATg rfl (Ad.o2 p0) rfl A5 λWi Wj M7 Fp M8=>AVe ATq rfl Bq (λh' hb=>Aen M8 hb<|Aks (Ad.dj p0 p1 AGr _<|by simp [aO,aO2,M7]) Akt) (AGq<|AVm rfl rfl ?_);obtain ⟨Fq,Br,M9⟩:=AGu M6;refine AU7 (m:=(w64<|(w64<|1 + (Int.tmod (w64 a1) Am)) - 1)) ATe rfl (Ad.o2 p0) Fp A5 rfl Br λWk Ft=>?_;obtain ⟨Wl,Na,Nb⟩:=(Ad.o2 p0).cells Ft A5 Br;obtain rfl:=Na;refine AVe ATh rfl Bq (λh' hb=>Aen (Nb 0 _ rfl) hb<|Aks (Ad.dj p0 p1 AGr _<|(Ad.o2 p0).gmem Ft) Akt) (AGq ?_);obtain ⟨Nc,Nd,Fu⟩:=AGu M9;have Nf:UpT ([Aa] ++ []) Ar Ar:=UpT.start<|AV1 (AYr (Ad.b p1) rfl) all_nil;refine ATm (K':=(λxr h'=> ∃ x:(Int) × (Int),(x.1,x.2)=Nc/\xr=(.int .i64 x.1)/\Kst h h' (Ad.L.set 1<|aB 109 Aa [Ab,(.int .i64 x.2)])/\UpT ([Aa] ++ []) Ar h')) Bq rfl ?_ λWm Wn Ng=>?_
     ·refine cwf (l:=[_,_]) Tryz.func74 rfl rfl (AGt<|AT7<|AGq ?_);obtain ⟨Nh,Fv,Fw⟩:=AGu Nd;have Fx:UpT ([Aa] ++ []) Ar Ar:=UpT.start<|AV1 (AYr (Ad.b p1) rfl) all_nil;refine ATm (K':=(λxr h'=> ∃ x:(Int) × (Int),(x.1,x.2)=Nh/\xr=(.int .i64 x.1)/\Kst h h' (Ad.L.set 1<|aB 109 Aa [Ab,(.int .i64 x.2)])/\UpT ([Aa] ++ []) Ar h')) trivial rfl ?_ λWo Wp Ni=>?_
      ·refine cwf (l:=[_]) Tryz.func135 rfl rfl (AGt<|AG1<|AGv<|AGv<|AWg<|AGq<|AUw rfl (AVa AU2 rfl (AT1 AT8 rfl ((Ad.b p1).cell (i:=1) rfl) (AGq<|AUw rfl (AVa AX5 rfl (AT1 Ae7 rfl ((Ad.b p1).cell (i:=0) rfl) (AUu Af5 rfl H4 (Afb rfl rfl (AGw<|⟨_,rfl,λC0=>?_,λC0=>?_⟩)))))))))
       ·refine AGt<|AG1<|AG6<|ATj<|⟨_,AS9,((0,0):(Int) × (Int)),?_,rfl,?_,?_⟩
        ·exact AGs<|AT9 Fv C0
        ·exact Ad
        ·exact Fx
       ·refine AG5<|q_t<|AGt<|AGq<|AUw rfl (AVa AU2 rfl (AT1 AT8 rfl ((Ad.b p1).cell (i:=1) rfl) (ATp rfl rfl (AUw rfl (AVa AU2 rfl (Af7 [Ab,(.int .i64<|w64<|0 + 1)] AT8 rfl rfl rfl (Ad.b p1) (Nat.le_of_ble_eq_true rfl) rfl λWq Fy Fz=>AGw<|AGv<|AWg<|AGq<|AUw rfl (AVa AX5 rfl ?_)))))));have Bt:=Ad.sb p1 Fz Fy rfl;refine AT1 Ae7 rfl ((Bt.b p1).cell (i:=0) rfl) (AGq<|AUw rfl (AVa AU2 rfl (AT1 AT8 rfl ((Bt.b p1).cell (i:=1) rfl) (AVm rfl rfl ?_))));obtain ⟨Nj,Nk,Nl⟩:=AGu<|AUa Fv C0;refine Ack (c:=(cI .i8)) Af5 rfl H4 rfl Nk λWr Ws Wt Nm Nn=>?_;obtain rfl:=Nm;refine AT1 Aoq rfl (ATw (Nn 0 _ rfl) Bt.x) (Ac3 Aor Aap rfl (AG1<|AG6<|⟨_,AS9,(((w64 Nj),(w64<|0 + 1)):(Int) × (Int)),?_,rfl,?_,?_⟩))
        ·exact AGs Nl
        ·exact Bt
        ·exact (Fx.then (Fy.stA Fz (AYr (Ad.b p1) rfl) rfl)<|Afv rfl)
      obtain ⟨⟨Np,Nq⟩,Nr,rfl,F4,Ns⟩:=Ni;(try dsimp only [Kst.L,List.set,AY6,Acl] at F4);refine ⟨trivial,?_⟩;subst Nr;(try dsimp only at Fw);refine Ac3 Aap Ah7 rfl (Ac3 Ah7 Ajf rfl (AGq<|Aft rfl rfl AGr (AG1<|AG6<|⟨_,AS9,(((Int.tmod (w64<|IntKind.wrap .u8 Np) 2),Nq):(Int) × (Int)),?_,rfl,?_,?_⟩)))
      ·exact AGs Fw
      ·exact F4
      ·exact (Nf.then Ns<|AV1 (Afv rfl) all_nil)
     obtain ⟨⟨F5,Nt⟩,Nu,rfl,C1,Nv⟩:=Ng;(try dsimp only [Kst.L,List.set,AY6,Acl] at C1);refine ⟨(Bq.then Nv<|AV1 (Afv rfl) all_nil),?_⟩;subst Nu;(try dsimp only at Fu);refine ATp rfl rfl (AU7 (m:=(w64<|(w64<|1 + (Int.tmod (w64 a1) Am)) - 1)) ATe rfl (Ad.o2 p0) Fp A5 rfl Br λWu Nw=>AYs (m:=(w64<|(w64<|1 + (Int.tmod (w64 a1) Am)) - 1)) (AX9 ATh rfl rfl rfl) (C1.o2 p0) Nw A5 Br (show ((cI .i64)).rep _ (w64<|Fq + F5) _ from rfl) λWv Ny Nz=>ATr<|q_b<|q_t ?_);exact ⟨(((sI My (w64<|(w64<|1 + (Int.tmod (w64 a1) Am)) - 1)<|sI M5 (w64<|(w64<|1 + (Int.tmod (w64 a1) Am)) - 1)<|w64<|Fq + F5),M4,M1,M2,M3,Nt):(LiI) × (Value) × LnA × LnN × LvA × (Int)),⟨AGs Fu,(C1.uO2 p0 Nz Ny)⟩,rfl,trivial⟩
    ·refine AGt<|AWe rfl rfl (AG1 ?_);have F6:=AUa Fo Cz;refine ⟨_,rfl,λC2=>?_,λC2=>?_⟩
     ·refine ATc<|AGq<|AGq ?_;obtain ⟨N0,N3,F7⟩:=AGu<|AT9 F6 C2;refine ATm (K':=(λxr h'=> ∃ x:(LiI) × (Value) × LnA × LnN × LvA × (Int),(x.1,x.2.2.2.2.2)=N0/\xr=x.2.1/\Kst h h' (aO2 (cI .i64) 61 2 x.2.2.1 x.2.2.2.1 x.2.2.2.2.1 x.2.1 x.1 :: (Ao.L.set 0<|aB 109 Aa [Ab,(.int .i64 x.2.2.2.2.2)])))) trivial rfl ?_ λF8 Ww N4=>?_
      ·refine cwf (l:=[_,_,_]) Tryz.func75 rfl rfl (AGt<|AT7<|AGq ?_);obtain ⟨N5,N6⟩:=ifN N3;refine Ajk (cI .i64) 2 ATg Ae8 rfl trivial tt2 rfl rfl AGr N5 λN7 N8 N9 F9 Wx Oa Ob Oc=>AG1<|AGv<|AGt<|AGq ?_;have C3:=Ao.no2 Ob Oc Oa;refine AUb ATg rfl (C3.o2 p0).rd (AGq<|AGw<|AGx<|AYo 4294959360 (λx:(Int) × (Int) × (LiI) × LnA × LnN × LvA=>(x.1,x.2.1,x.2.2.1)) ((0,0,(List.replicate (Int.toNat<|w64<|1 + (Int.tmod (w64 a1) Am)) ([]:List Int)),N7,N8,N9):(Int) × (Int) × (LiI) × LnA × LnN × LvA) N6 (λx=>[(13,(.int .i64 x.1))]) (λx=>(C3.L.set 0<|aO2 (cI .i64) 61 2 x.2.2.2.1 x.2.2.2.2.1 x.2.2.2.2.2 F9 x.2.2.1).set 1 (aB 109 Aa [Ab,(.int .i64 x.2.1)])) C3 ⟨rfl,trivial⟩ ?_);rintro ⟨C4,Bu,Od,Oe,Og,Oh⟩ Oi Oj Wy C5 Bv Ol;(try dsimp only [Kst.L,List.set,AY6,Acl] at C5);refine (show W _ _ _ (setL [(13,(.int .i64 C4))]<|mix _ Oi _) Oj from ?_);(try dsimp only at Bv);unfold AW8 at Bv;refine AGt<|ATz rfl rfl (AGw<|AGv<|⟨_,rfl,λC6=>?_,λC6=>?_⟩)
       ·refine AG5<|q_t<|AGv<|AGx<|AGt<|AGq<|AT7<|AGq<|AGq<|AGq ?_;obtain ⟨Om,On⟩:=ifN<|AT9 Bv C6;refine Aip (c:=(cI .i64)) (a:=0) ATe Acs rfl rfl (λ_=>rfl) rfl trivial tt2 rfl rfl AGr Om λWz W0 W1 Oo Oq Ot Ou=>?_;have A6:=C5.no Oq (AX4 Ot Ou) Oo;obtain ⟨W3,Ga,Ov⟩:=AGu On;refine AUy ATg rfl (A6.o2 p1) rfl Ga λW4 W5 Ow W6 W7=>Ajj ATq (A6.o2 p1) Ga Ow rfl rfl (A6.o p0) (A6.dj p0 p1 AGr) λAu Ox Oy Oz=>AGw<|AVl (λh'=>UpT ([Aa] ++ []) Au h') AG3 ?_;have Ah:=A6.m2 p0 p1 AGr Oy Ox λz hz=> .inl<|Oz z hz;have C7:UpT ([Aa] ++ []) Au Au:=UpT.start<|AV1 (AYr (Ah.b p2) rfl) all_nil;refine AGq<|AGq ?_;obtain ⟨W8,C8,O0⟩:=AGu Ov;refine AUy ATg rfl (Ah.o2 p1) rfl C8 λXa Xb O1 O2 O3=>AVe ATq rfl C7 (λh' hb=>Aen O3 hb<|Aks (Ah.dj p1 p2 AGr _<|by simp [aO,aO2,O1]) Akt) (AGq<|AGq<|AGq ?_);obtain ⟨O4,O5,Gb⟩:=AGu O0;have O6:UpT ([Aa] ++ []) Au Au:=UpT.start<|AV1 (AYr (Ah.b p2) rfl) all_nil;refine ATm (K':=(λxr h'=> ∃ x:(Int) × (Int),(x.1,x.2)=O4/\xr=(.int .i64 x.1)/\Kst h h' ((AY6 Ah.L [1,2]).set 1 (aB 109 Aa [Ab,(.int .i64 x.2)]))/\UpT ([Aa] ++ []) Au h')) C7 rfl ?_ λXc Xd O7=>?_
        ·refine cwf (l:=[_,_]) Tryz.func74 rfl rfl (AGt<|AT7<|AGq ?_);obtain ⟨O8,Gc,Gd⟩:=AGu O5;have Ge:UpT ([Aa] ++ []) Au Au:=UpT.start<|AV1 (AYr (Ah.b p2) rfl) all_nil;refine ATm (K':=(λxr h'=> ∃ x:(Int) × (Int),(x.1,x.2)=O8/\xr=(.int .i64 x.1)/\Kst h h' ((AY6 Ah.L [1,2]).set 1 (aB 109 Aa [Ab,(.int .i64 x.2)]))/\UpT ([Aa] ++ []) Au h')) trivial rfl ?_ λXe Xf O9=>?_
         ·refine cwf (l:=[_]) Tryz.func135 rfl rfl (AGt<|AG1<|AGv<|AGv<|AWg<|AGq<|AUw rfl (AVa AU2 rfl (AT1 AT8 rfl ((Ah.b p2).cell (i:=1) rfl) (AGq<|AUw rfl (AVa AX5 rfl (AT1 Ae7 rfl ((Ah.b p2).cell (i:=0) rfl) (AUu Af5 rfl H4 (Afb rfl rfl (AGw<|⟨_,rfl,λC9=>?_,λC9=>?_⟩)))))))))
          ·refine AGt<|AG1<|AG6<|ATj<|⟨_,AS9,((0,Bu):(Int) × (Int)),?_,rfl,?_,?_⟩
           ·exact AGs<|AT9 Gc C9
           ·exact Ah.sel [1,2] AGr
           ·exact Ge
          ·refine AG5<|q_t<|AGt<|AGq<|AUw rfl (AVa AU2 rfl (AT1 AT8 rfl ((Ah.b p2).cell (i:=1) rfl) (ATp rfl rfl (AUw rfl (AVa AU2 rfl (Af7 [Ab,(.int .i64<|w64<|Bu + 1)] AT8 rfl rfl rfl (Ah.b p2) (Nat.le_of_ble_eq_true rfl) rfl λXg Gf Gg=>AGw<|AGv<|AWg<|AGq<|AUw rfl (AVa AX5 rfl ?_)))))));have Bw:=Ah.sb p2 Gg Gf rfl;refine AT1 Ae7 rfl ((Bw.b p2).cell (i:=0) rfl) (AGq<|AUw rfl (AVa AU2 rfl (AT1 AT8 rfl ((Bw.b p2).cell (i:=1) rfl) (AVm rfl rfl ?_))));obtain ⟨Pa,Pb,Pc⟩:=AGu<|AUa Gc C9;refine Ack (c:=(cI .i8)) Af5 rfl H4 rfl Pb λXh Xi Xj Pd Pe=>?_;obtain rfl:=Pd;refine AT1 Aoq rfl (ATw (Pe 0 _ rfl) Bw.x) (Ac3 Aor Aap rfl (AG1<|AG6<|⟨_,AS9,(((w64 Pa),(w64<|Bu + 1)):(Int) × (Int)),?_,rfl,?_,?_⟩))
           ·exact AGs Pc
           ·exact Bw.sel [1,2] AGr
           ·exact (Ge.then (Gf.stA Gg (AYr (Ah.b p2) rfl) rfl)<|Afv rfl)
         obtain ⟨⟨Pf,Pg⟩,Ph,rfl,Gh,Pj⟩:=O9;(try dsimp only [Kst.L,List.set,AY6,Acl] at Gh);refine ⟨trivial,?_⟩;subst Ph;(try dsimp only at Gd);refine Ac3 Aap Ah7 rfl (Ac3 Ah7 Ajf rfl (AGq<|Aft rfl rfl AGr (AG1<|AG6<|⟨_,AS9,(((Int.tmod (w64<|IntKind.wrap .u8 Pf) 9),Pg):(Int) × (Int)),?_,rfl,?_,?_⟩)))
         ·exact AGs Gd
         ·exact Gh
         ·exact (O6.then Pj<|AV1 (Afv rfl) all_nil)
        obtain ⟨⟨Pk,Xk⟩,Pl,rfl,Da,Pm⟩:=O7;(try dsimp only [Kst.L,List.set,AY6,Acl] at Da);refine ⟨(C7.then Pm<|AV1 (Afv rfl) all_nil),?_⟩;subst Pl;(try dsimp only at Gb);refine ATp rfl rfl ?_;obtain ⟨Xl,Gi,Pn⟩:=AGu Gb;refine AU7 (m:=C4) ATe rfl (Ah.o2 p1) O2 C8 rfl Gi λXm Po=>AYs (m:=C4) (AX9 ATh rfl rfl rfl) (Da.o2 p0) Po C8 Gi (show ((cI .i64)).rep _ (w64<|1 + Pk) _ from rfl) λXn Pp Pq=>ATr<|q_b<|q_t<|ATc<|ATp rfl rfl (AGq<|AGw ?_);exact ⟨(_,_,_,_,_,_),(AGs Pn).symm,(Da.uO2 p0 Pq Pp),rfl,trivial⟩
       ·have Gj:=Ol _ (AGs<|AUa Bv C6).symm;(try dsimp only at Gj);refine ATk<|ATl<|ATl<|AUi<|q_t<|AGt<|AGq<|AG1<|AG6<|⟨_,AS9,((Od,F9,Oe,Og,Oh,Bu):(LiI) × (Value) × LnA × LnN × LvA × (Int)),?_,rfl,?_⟩
        ·exact AGs Gj
        ·exact C5
      obtain ⟨⟨Ps,F8,Pt,Pu,Pw,Px⟩,Py,rfl,Gk⟩:=N4;(try dsimp only [Kst.L,List.set,AY6,Acl] at Gk);refine ⟨trivial,?_⟩;subst Py;(try dsimp only at F7);refine ATu<|ATr<|q_b<|q_t ?_;exact ⟨((Ps,F8,Pt,Pu,Pw,Px):(LiI) × (Value) × LnA × LnN × LvA × (Int)),⟨AGs F7,Gk⟩,rfl,trivial⟩
     ·refine ATc<|AGq<|AGq ?_;obtain ⟨Pz,P0,Gl⟩:=AGu<|AUa F6 C2;refine ATm (K':=(λxr h'=> ∃ x:(LiI) × (Value) × LnA × LnN × LvA × (Int),(x.1,x.2.2.2.2.2)=Pz/\xr=x.2.1/\Kst h h' (aO2 (cI .i64) 61 2 x.2.2.1 x.2.2.2.1 x.2.2.2.2.1 x.2.1 x.1 :: (Ao.L.set 0<|aB 109 Aa [Ab,(.int .i64 x.2.2.2.2.2)])))) trivial rfl ?_ λGm Xo P1=>?_
      ·refine cwf (l:=[_,_,_]) Tryz.func75 rfl rfl (AGt<|AT7<|AGq ?_);obtain ⟨P2,P3⟩:=ifN P0;refine Ajk (cI .i64) 2 ATg Ae8 rfl trivial tt2 rfl rfl AGr P2 λP4 P5 P6 Gn Xp P7 P8 P9=>AG1<|AGv<|AGt<|AGq ?_;have Db:=Ao.no2 P8 P9 P7;refine AUb ATg rfl (Db.o2 p0).rd (AGq<|AGw<|AGx<|AYo 4294959360 (λx:(Int) × (Int) × (LiI) × LnA × LnN × LvA=>(x.1,x.2.1,x.2.2.1)) ((0,0,(List.replicate (Int.toNat<|w64<|1 + (Int.tmod (w64 a1) Am)) ([]:List Int)),P4,P5,P6):(Int) × (Int) × (LiI) × LnA × LnN × LvA) P3 (λx=>[(13,(.int .i64 x.1))]) (λx=>(Db.L.set 0<|aO2 (cI .i64) 61 2 x.2.2.2.1 x.2.2.2.2.1 x.2.2.2.2.2 Gn x.2.2.1).set 1 (aB 109 Aa [Ab,(.int .i64 x.2.1)])) Db ⟨rfl,trivial⟩ ?_);rintro ⟨Dc,Bx,Qa,Qb,Qc,Qd⟩ Qe Qf Xq Dd By Qg;(try dsimp only [Kst.L,List.set,AY6,Acl] at Dd);refine (show W _ _ _ (setL [(13,(.int .i64 Dc))]<|mix _ Qe _) Qf from ?_);(try dsimp only at By);unfold AW9 at By;refine AGt<|ATz rfl rfl (AGw<|AGv<|⟨_,rfl,λDe=>?_,λDe=>?_⟩)
       ·refine AG5<|q_t<|AGv<|AGx<|AGt<|AGq<|AT7<|AGq<|AGq<|AGq ?_;obtain ⟨Qh,Qi⟩:=ifN<|AT9 By De;refine Aip (c:=(cI .i64)) (a:=0) ATe Acs rfl rfl (λ_=>rfl) rfl trivial tt2 rfl rfl AGr Qh λXr Xt Xu Qj Qk Ql Qm=>?_;have A7:=Dd.no Qk (AX4 Ql Qm) Qj;obtain ⟨Xv,Gp,Qn⟩:=AGu Qi;refine AUy ATg rfl (A7.o2 p1) rfl Gp λXw Xx Qo Xy Xz=>Ajj ATq (A7.o2 p1) Gp Qo rfl rfl (A7.o p0) (A7.dj p0 p1 AGr) λAv Qp Qq Qr=>AGw<|AVl (λh'=>UpT ([Aa] ++ []) Av h') AG3 ?_;have Ai:=A7.m2 p0 p1 AGr Qq Qp λz hz=> .inl<|Qr z hz;have Df:UpT ([Aa] ++ []) Av Av:=UpT.start<|AV1 (AYr (Ai.b p2) rfl) all_nil;refine AGq<|AGq ?_;obtain ⟨X0,Dg,Qs⟩:=AGu Qn;refine AUy ATg rfl (Ai.o2 p1) rfl Dg λX3 X4 Qt Qu Qv=>AVe ATq rfl Df (λh' hb=>Aen Qv hb<|Aks (Ai.dj p1 p2 AGr _<|by simp [aO,aO2,Qt]) Akt) (AGq<|AGq<|AGq ?_);obtain ⟨Qw,Qx,Gq⟩:=AGu Qs;have Qy:UpT ([Aa] ++ []) Av Av:=UpT.start<|AV1 (AYr (Ai.b p2) rfl) all_nil;refine ATm (K':=(λxr h'=> ∃ x:(Int) × (Int),(x.1,x.2)=Qw/\xr=(.int .i64 x.1)/\Kst h h' ((AY6 Ai.L [1,2]).set 1 (aB 109 Aa [Ab,(.int .i64 x.2)]))/\UpT ([Aa] ++ []) Av h')) Df rfl ?_ λX5 X6 Qz=>?_
        ·refine cwf (l:=[_,_]) Tryz.func74 rfl rfl (AGt<|AT7<|AGq ?_);obtain ⟨Q0,Gr,Gt⟩:=AGu Qx;have Gu:UpT ([Aa] ++ []) Av Av:=UpT.start<|AV1 (AYr (Ai.b p2) rfl) all_nil;refine ATm (K':=(λxr h'=> ∃ x:(Int) × (Int),(x.1,x.2)=Q0/\xr=(.int .i64 x.1)/\Kst h h' ((AY6 Ai.L [1,2]).set 1 (aB 109 Aa [Ab,(.int .i64 x.2)]))/\UpT ([Aa] ++ []) Av h')) trivial rfl ?_ λX8 Ya Q1=>?_
         ·refine cwf (l:=[_]) Tryz.func135 rfl rfl (AGt<|AG1<|AGv<|AGv<|AWg<|AGq<|AUw rfl (AVa AU2 rfl (AT1 AT8 rfl ((Ai.b p2).cell (i:=1) rfl) (AGq<|AUw rfl (AVa AX5 rfl (AT1 Ae7 rfl ((Ai.b p2).cell (i:=0) rfl) (AUu Af5 rfl H4 (Afb rfl rfl (AGw<|⟨_,rfl,λDh=>?_,λDh=>?_⟩)))))))))
          ·refine AGt<|AG1<|AG6<|ATj<|⟨_,AS9,((0,Bx):(Int) × (Int)),?_,rfl,?_,?_⟩
           ·exact AGs<|AT9 Gr Dh
           ·exact Ai.sel [1,2] AGr
           ·exact Gu
          ·refine AG5<|q_t<|AGt<|AGq<|AUw rfl (AVa AU2 rfl (AT1 AT8 rfl ((Ai.b p2).cell (i:=1) rfl) (ATp rfl rfl (AUw rfl (AVa AU2 rfl (Af7 [Ab,(.int .i64<|w64<|Bx + 1)] AT8 rfl rfl rfl (Ai.b p2) (Nat.le_of_ble_eq_true rfl) rfl λYb Gv Gw=>AGw<|AGv<|AWg<|AGq<|AUw rfl (AVa AX5 rfl ?_)))))));have Bz:=Ai.sb p2 Gw Gv rfl;refine AT1 Ae7 rfl ((Bz.b p2).cell (i:=0) rfl) (AGq<|AUw rfl (AVa AU2 rfl (AT1 AT8 rfl ((Bz.b p2).cell (i:=1) rfl) (AVm rfl rfl ?_))));obtain ⟨Q2,Q3,Q4⟩:=AGu<|AUa Gr Dh;refine Ack (c:=(cI .i8)) Af5 rfl H4 rfl Q3 λYc Yd Ye Q6 Q7=>?_;obtain rfl:=Q6;refine AT1 Aoq rfl (ATw (Q7 0 _ rfl) Bz.x) (Ac3 Aor Aap rfl (AG1<|AG6<|⟨_,AS9,(((w64 Q2),(w64<|Bx + 1)):(Int) × (Int)),?_,rfl,?_,?_⟩))
           ·exact AGs Q4
           ·exact Bz.sel [1,2] AGr
           ·exact (Gu.then (Gv.stA Gw (AYr (Ai.b p2) rfl) rfl)<|Afv rfl)
         obtain ⟨⟨Q8,Q9⟩,Rc,rfl,Gx,Rd⟩:=Q1;(try dsimp only [Kst.L,List.set,AY6,Acl] at Gx);refine ⟨trivial,?_⟩;subst Rc;(try dsimp only at Gt);refine Ac3 Aap Ah7 rfl (Ac3 Ah7 Ajf rfl (AGq<|Aft rfl rfl AGr (AG1<|AG6<|⟨_,AS9,(((Int.tmod (w64<|IntKind.wrap .u8 Q8) 1),Q9):(Int) × (Int)),?_,rfl,?_,?_⟩)))
         ·exact AGs Gt
         ·exact Gx
         ·exact (Qy.then Rd<|AV1 (Afv rfl) all_nil)
        obtain ⟨⟨Re,Yf⟩,Rf,rfl,Di,Rg⟩:=Qz;(try dsimp only [Kst.L,List.set,AY6,Acl] at Di);refine ⟨(Df.then Rg<|AV1 (Afv rfl) all_nil),?_⟩;subst Rf;(try dsimp only at Gq);refine ATp rfl rfl ?_;obtain ⟨Yg,Gy,Rh⟩:=AGu Gq;refine AU7 (m:=Dc) ATe rfl (Ai.o2 p1) Qu Dg rfl Gy λYh Ri=>AYs (m:=Dc) (AX9 ATh rfl rfl rfl) (Di.o2 p0) Ri Dg Gy (show ((cI .i64)).rep _ (w64<|1 + Re) _ from rfl) λYi Rj Rm=>ATr<|q_b<|q_t<|ATc<|ATp rfl rfl (AGq<|AGw ?_);exact ⟨(_,_,_,_,_,_),(AGs Rh).symm,(Di.uO2 p0 Rm Rj),rfl,trivial⟩
       ·have Gz:=Qg _ (AGs<|AUa By De).symm;(try dsimp only at Gz);refine ATk<|ATl<|ATl<|AUi<|q_t<|AGt<|AGq<|AG1<|AG6<|⟨_,AS9,((Qa,Gn,Qb,Qc,Qd,Bx):(LiI) × (Value) × LnA × LnN × LvA × (Int)),?_,rfl,?_⟩
        ·exact AGs Gz
        ·exact Dd
      obtain ⟨⟨Rn,Gm,Ro,Rq,Rr,Rs⟩,Rt,rfl,G3⟩:=P1;(try dsimp only [Kst.L,List.set,AY6,Acl] at G3);refine ⟨trivial,?_⟩;subst Rt;(try dsimp only at Gl);refine ATu<|ATr<|q_b<|q_t ?_;exact ⟨((Rn,Gm,Ro,Rq,Rr,Rs):(LiI) × (Value) × LnA × LnN × LvA × (Int)),⟨AGs Gl,G3⟩,rfl,trivial⟩
 rintro ⟨Yj,Ru,Yk,Yl,Ym,Rv⟩ Rw Rx ⟨Ry,Dj⟩;(try dsimp only [Kst.L,List.set,AY6,Acl] at Dj);refine (show W _ _ _ (setL [(7,Ru)]<|mix _ Rw _) Rx from ?_);subst Ry;(try dsimp only at Dz);refine AGv<|AGt<|AGq ?_;obtain ⟨Yn,Rz,G4⟩:=AGu Dz;refine AYn Dj (Amg (Dj.o2 p0).rd Rz) λYo Yp A8=>AW0 rfl (AGw<|⟨_,rfl,λDk=>?_,λDk=>?_⟩)
 ·refine AGt<|AGq<|AGq ?_;obtain ⟨R3,R4,G5⟩:=AGu<|ifT G4 Dk;refine ATm (K':=(λxr h'=> ∃ x:(LiI) × (Value) × LnA × LnN × LvA × (Int),(x.1,x.2.2.2.2.2)=R3/\xr=x.2.1/\Kst h h' (aO2 (cI .i64) 61 2 x.2.2.1 x.2.2.2.1 x.2.2.2.2.1 x.2.1 x.1 :: (A8.L.set 1<|aB 109 Aa [Ab,(.int .i64 x.2.2.2.2.2)])))) trivial rfl ?_ λR5 Yq R6=>?_
  ·refine cwf (l:=[_,_,_]) Tryz.func75 rfl rfl (AGt<|AT7<|AGq ?_);obtain ⟨R7,R8⟩:=ifN R4;refine Ajk (cI .i64) 2 ATg Ae8 rfl trivial tt2 rfl rfl AGr R7 λR9 Sa Sb G6 Yr Sc Sd Se=>AG1<|AGv<|AGt<|AGq ?_;have Dl:=A8.no2 Sd Se Sc;refine AUb ATg rfl (Dl.o2 p0).rd (AGq<|AGw<|AGx<|AYo 4294959360 (λx:(Int) × (Int) × (LiI) × LnA × LnN × LvA=>(x.1,x.2.1,x.2.2.1)) ((0,Rv,(List.replicate (Int.toNat<|w64<|1 + (Int.tmod (w64 a1) Am)) ([]:List Int)),R9,Sa,Sb):(Int) × (Int) × (LiI) × LnA × LnN × LvA) R8 (λx=>[(13,(.int .i64 x.1))]) (λx=>(Dl.L.set 0<|aO2 (cI .i64) 61 2 x.2.2.2.1 x.2.2.2.2.1 x.2.2.2.2.2 G6 x.2.2.1).set 2 (aB 109 Aa [Ab,(.int .i64 x.2.1)])) Dl ⟨rfl,trivial⟩ ?_);rintro ⟨Do,B3,Sf,Sg,Sh,Si⟩ Sj Sk Ys Dp B4 Sm;(try dsimp only [Kst.L,List.set,AY6,Acl] at Dp);refine (show W _ _ _ (setL [(13,(.int .i64 Do))]<|mix _ Sj _) Sk from ?_);(try dsimp only at B4);unfold AXa at B4;refine AGt<|ATz rfl rfl (AGw<|AGv<|⟨_,rfl,λDq=>?_,λDq=>?_⟩)
   ·refine AG5<|q_t<|AGv<|AGx<|AGt<|AGq<|AT7<|AGq<|AGq<|AGq ?_;obtain ⟨Sn,So⟩:=ifN<|AT9 B4 Dq;refine Aip (c:=(cI .i64)) (a:=0) ATe Acs rfl rfl (λ_=>rfl) rfl trivial tt2 rfl rfl AGr Sn λYt Yu Yv Sq Sr Ss St=>?_;have A9:=Dp.no Sr (AX4 Ss St) Sq;obtain ⟨Yw,G7,Su⟩:=AGu So;refine AUy ATg rfl (A9.o2 p1) rfl G7 λYx Yy Sv Yz Y1=>Ajj ATq (A9.o2 p1) G7 Sv rfl rfl (A9.o p0) (A9.dj p0 p1 AGr) λAw Sw Sx Sy=>AGw<|AVl (λh'=>UpT ([Aa] ++ []) Aw h') AG3 ?_;have Aj:=A9.m2 p0 p1 AGr Sx Sw λz hz=> .inl<|Sy z hz;have Dr:UpT ([Aa] ++ []) Aw Aw:=UpT.start<|AV1 (AYr (Aj.b p3) rfl) all_nil;refine AGq<|AGq ?_;obtain ⟨Y2,Ds,Sz⟩:=AGu Su;refine AUy ATg rfl (Aj.o2 p1) rfl Ds λY3 Y4 S5 S7 Ta=>AVe ATq rfl Dr (λh' hb=>Aen Ta hb<|Aks (Aj.dj p1 p3 AGr _<|by simp [aO,aO2,S5]) Akt) (AGq<|AGq<|AGq ?_);obtain ⟨Tb,Tc,G8⟩:=AGu Sz;have Td:UpT ([Aa] ++ []) Aw Aw:=UpT.start<|AV1 (AYr (Aj.b p3) rfl) all_nil;refine ATm (K':=(λxr h'=> ∃ x:(Int) × (Int),(x.1,x.2)=Tb/\xr=(.int .i64 x.1)/\Kst h h' ((AY6 Aj.L [1,2,3]).set 2 (aB 109 Aa [Ab,(.int .i64 x.2)]))/\UpT ([Aa] ++ []) Aw h')) Dr rfl ?_ λY5 Y6 Te=>?_
    ·refine cwf (l:=[_,_]) Tryz.func74 rfl rfl (AGt<|AT7<|AGq ?_);obtain ⟨Tf,G9,Hb⟩:=AGu Tc;have Hc:UpT ([Aa] ++ []) Aw Aw:=UpT.start<|AV1 (AYr (Aj.b p3) rfl) all_nil;refine ATm (K':=(λxr h'=> ∃ x:(Int) × (Int),(x.1,x.2)=Tf/\xr=(.int .i64 x.1)/\Kst h h' ((AY6 Aj.L [1,2,3]).set 2 (aB 109 Aa [Ab,(.int .i64 x.2)]))/\UpT ([Aa] ++ []) Aw h')) trivial rfl ?_ λY7 Y8 Tg=>?_
     ·refine cwf (l:=[_]) Tryz.func135 rfl rfl (AGt<|AG1<|AGv<|AGv<|AWg<|AGq<|AUw rfl (AVa AU2 rfl (AT1 AT8 rfl ((Aj.b p3).cell (i:=1) rfl) (AGq<|AUw rfl (AVa AX5 rfl (AT1 Ae7 rfl ((Aj.b p3).cell (i:=0) rfl) (AUu Af5 rfl H4 (Afb rfl rfl (AGw<|⟨_,rfl,λDt=>?_,λDt=>?_⟩)))))))))
      ·refine AGt<|AG1<|AG6<|ATj<|⟨_,AS9,((0,B3):(Int) × (Int)),?_,rfl,?_,?_⟩
       ·exact AGs<|AT9 G9 Dt
       ·exact Aj.sel [1,2,3] AGr
       ·exact Hc
      ·refine AG5<|q_t<|AGt<|AGq<|AUw rfl (AVa AU2 rfl (AT1 AT8 rfl ((Aj.b p3).cell (i:=1) rfl) (ATp rfl rfl (AUw rfl (AVa AU2 rfl (Af7 [Ab,(.int .i64<|w64<|B3 + 1)] AT8 rfl rfl rfl (Aj.b p3) (Nat.le_of_ble_eq_true rfl) rfl λY9 Hd He=>AGw<|AGv<|AWg<|AGq<|AUw rfl (AVa AX5 rfl ?_)))))));have B5:=Aj.sb p3 He Hd rfl;refine AT1 Ae7 rfl ((B5.b p3).cell (i:=0) rfl) (AGq<|AUw rfl (AVa AU2 rfl (AT1 AT8 rfl ((B5.b p3).cell (i:=1) rfl) (AVm rfl rfl ?_))));obtain ⟨Th,Ti,Tj⟩:=AGu<|AUa G9 Dt;refine Ack (c:=(cI .i8)) Af5 rfl H4 rfl Ti λZa Zd Ze Tk Tl=>?_;obtain rfl:=Tk;refine AT1 Aoq rfl (ATw (Tl 0 _ rfl) B5.x) (Ac3 Aor Aap rfl (AG1<|AG6<|⟨_,AS9,(((w64 Th),(w64<|B3 + 1)):(Int) × (Int)),?_,rfl,?_,?_⟩))
       ·exact AGs Tj
       ·exact B5.sel [1,2,3] AGr
       ·exact (Hc.then (Hd.stA He (AYr (Aj.b p3) rfl) rfl)<|Afv rfl)
     obtain ⟨⟨Tm,Tn⟩,To,rfl,Hf,Tp⟩:=Tg;(try dsimp only [Kst.L,List.set,AY6,Acl] at Hf);refine ⟨trivial,?_⟩;subst To;(try dsimp only at Hb);refine Ac3 Aap Ah7 rfl (Ac3 Ah7 Ajf rfl (AGq<|Aft rfl rfl AGr (AG1<|AG6<|⟨_,AS9,(((Int.tmod (w64<|IntKind.wrap .u8 Tm) 2),Tn):(Int) × (Int)),?_,rfl,?_,?_⟩)))
     ·exact AGs Hb
     ·exact Hf
     ·exact (Td.then Tp<|AV1 (Afv rfl) all_nil)
    obtain ⟨⟨Tq,Zf⟩,Tr,rfl,Du,Ts⟩:=Te;(try dsimp only [Kst.L,List.set,AY6,Acl] at Du);refine ⟨(Dr.then Ts<|AV1 (Afv rfl) all_nil),?_⟩;subst Tr;(try dsimp only at G8);refine ATp rfl rfl ?_;obtain ⟨Zg,Hg,Tt⟩:=AGu G8;refine AU7 (m:=Do) ATe rfl (Aj.o2 p1) S7 Ds rfl Hg λZh Tu=>AYs (m:=Do) (AX9 ATh rfl rfl rfl) (Du.o2 p0) Tu Ds Hg (show ((cI .i64)).rep _ (w64<|1 + Tq) _ from rfl) λZj Tv Tw=>ATr<|q_b<|q_t<|ATc<|ATp rfl rfl (AGq<|AGw ?_);exact ⟨(_,_,_,_,_,_),(AGs Tt).symm,(Du.uO2 p0 Tw Tv),rfl,trivial⟩
   ·have Hh:=Sm _ (AGs<|AUa B4 Dq).symm;(try dsimp only at Hh);refine ATk<|ATl<|ATl<|AUi<|q_t<|AGt<|AGq<|AG1<|AG6<|⟨_,AS9,((Sf,G6,Sg,Sh,Si,B3):(LiI) × (Value) × LnA × LnN × LvA × (Int)),?_,rfl,?_⟩
    ·exact AGs Hh
    ·exact Dp
  obtain ⟨⟨Zk,R5,Zl,Zm,Zn,Zo⟩,Tx,rfl,B6⟩:=R6;(try dsimp only [Kst.L,List.set,AY6,Acl] at B6);refine ⟨trivial,?_⟩;subst Tx;(try dsimp only at G5);refine AG1<|AG6<|ATj ?_;obtain rfl:=AGs G5;exact ⟨_,AS9,B6.x,_,_,_,_,rfl,(B6.o2 p0),B6.s.sel [0] AGr⟩
 ·refine AG5<|q_t<|AGt<|AGq<|AG1<|AG6 ?_;obtain rfl:=AGs<|Abh G4 Dk;exact ⟨_,AS9,A8.x,_,_,_,_,rfl,(A8.o2 p0),A8.s.sel [0] AGr⟩
def AW2 (fuel:Nat) (a1 a2:Int) (a5 a9:LiA) (Ae:Int):Option LiI:=
 (AVq fuel a1 a2 a5 a9 Ae).bind λAf=>(AV4 fuel Af).bind λAg=>(AXm fuel Ag).bind λ(Ah,Ai,Aj)=>some Ah
theorem Ahu {a5:LiA} {a9:LiA} {Ai:Int} {r:LiI} (H4:SlC (cI .i8) h Ac a5) (H8:SlC (cI .i8) h Ad a9) (hp:AW2 fuel a1 a2 a5 a9 Ai=some r):AT3 Tryz.prog 9 #[(.agg #[(.int .u8 a1),(.int .u8 a2),Ac,Ad]),(.int .i64 Ai)] h (λx h'=>Ext h h'/\ ∃ (x0:Value) (F0:List Nat) (Au:List LnA) (Av:List Value),x=x0/\AV3 (cI .i64) 61 2 h' F0 Au Av x0 r/\Sp h' h.size [F0]):=by
 unfold AW2 at hp;refine cwf (l:=[_,_]) Tryz.func9 rfl rfl (AGt<|AZa (Kst.k0 h) [(.int .u8 a1),(.int .u8 a2),Ac,Ad] λBl Bm Bn Ae=>AT7<|Abi [(.int .u8 a1),(.int .u8 a2),Ac,Ad] As2 rfl rfl (Ae.b p0).agg (AGq ?_));obtain ⟨Bo,Aw,Ax⟩:=AGu hp;refine Ahr Ae (Adp (H4.ext Ae.x) (H8.ext Ae.x) Aw) λBp Bq Br Bt Bu Bv Am=>?_;obtain ⟨Bw,Ay,Az⟩:=AGu Ax;refine Ahr Am (Abu (Am.o2 p0).rd Ay) λBx By Bz B3 B4 B5 Ao=>?_;obtain ⟨⟨A3,A4,B6⟩,A5,Ap⟩:=AGu Az;dsimp only at Ap;refine Aeq rfl (Afz (Ao.o2 p0).rd A5) λB7 B8 A6 A7=>?_;obtain ⟨A8,A9,Ba,Bb,Bc,Be,Bf,Bg,rfl,Bh,Bi,Bj⟩:=A7;have Af:=Ao.n A6 [aO2 (cI .i64) 61 2 A9 Ba Bb A8 A3,aO2 cZ 146 129 Be Bf Bg Bc A4] Bj ⟨Bh,Bi,trivial⟩;simp only [List.cons_append,List.nil_append] at Af;refine AGq<|AUh rfl rfl (AUh rfl rfl (AUh rfl rfl (ATu<|ATu<|AT7<|AGq<|AG1<|AG6 ?_)));obtain rfl:=AGs Ap;exact ⟨_,AS9,Af.x,_,_,_,_,rfl,(Af.o2 p0),Af.s.sel [0] AGr⟩
def AYb (fuel:Nat) (Au:LiI) (Ab Ad Ae Aa:Int) (Ac:LiI):Option ((Int × LiI) ⊕ LiI):=
 if Aa < (Au.length:Int) then if Ab=Ad then if Int.tmod Ae 3 < 0 then (gI Ac Aa).bind λAm=>(gI Am Ab).bind λAv=>some (.inl (w64<|Aa + 1,sI Ac Aa<|sI Am Ab<|w64<|0 - Av)) else if ¬ Ab=Ad then if Int.tmod Ae 3=0 then (gI Ac Aa).bind λAf=>(gI Af Ad).bind λAo=>(gI Af Ab).bind λAw=>(gI (sI Ac Aa<|sI Af Ab Ao) Aa).bind λAp=>(gI Ap Ad).bind λA9=>some (.inl (w64<|Aa + 1,sI (sI Ac Aa<|sI Af Ab Ao) Aa<|sI Ap Ad Aw)) else if ¬ Ab=Ad then (gI Ac Aa).bind λAh=>(gI Ah Ab).bind λAx=>(gI Ah Ad).bind λAy=>some (.inl (w64<|Aa + 1,sI Ac Aa<|sI Ah Ab<|w64<|Ax + w64 (Int.tmod Ae 3 * Ay))) else some (.inl (w64<|Aa + 1,Ac)) else if ¬ Ab=Ad then (gI Ac Aa).bind λAi=>(gI Ai Ab).bind λAz=>(gI Ai Ad).bind λA3=>some (.inl (w64<|Aa + 1,sI Ac Aa<|sI Ai Ab<|w64<|Az + w64 (Int.tmod Ae 3 * A3))) else some (.inl (w64<|Aa + 1,Ac)) else if ¬ Ab=Ad then if Int.tmod Ae 3=0 then (gI Ac Aa).bind λAg=>(gI Ag Ad).bind λAq=>(gI Ag Ab).bind λA4=>(gI (sI Ac Aa<|sI Ag Ab Aq) Aa).bind λAr=>(gI Ar Ad).bind λBa=>some (.inl (w64<|Aa + 1,sI (sI Ac Aa<|sI Ag Ab Aq) Aa<|sI Ar Ad A4)) else if ¬ Ab=Ad then (gI Ac Aa).bind λAj=>(gI Aj Ab).bind λA5=>(gI Aj Ad).bind λA6=>some (.inl (w64<|Aa + 1,sI Ac Aa<|sI Aj Ab<|w64<|A5 + w64 (Int.tmod Ae 3 * A6))) else some (.inl (w64<|Aa + 1,Ac)) else if ¬ Ab=Ad then (gI Ac Aa).bind λAk=>(gI Ak Ab).bind λA7=>(gI Ak Ad).bind λA8=>some (.inl (w64<|Aa + 1,sI Ac Aa<|sI Ak Ab<|w64<|A7 + w64 (Int.tmod Ae 3 * A8))) else some (.inl (w64<|Aa + 1,Ac)) else some<|.inr Ac
def Aaf (fuel:Nat) (a3:LiA) (a5 Ag:Int) (Af:LiI) (Ab:Int):Option ((Int × LiI × Int) ⊕ LiI):=
 ((if Ag < 12 then if Ab < (a3.length:Int) then some (.inl ()) else some (.inr ()) else some<|.inr ()):Option (Unit ⊕ Unit)).bind (λex=>match ex with | .inl _=>(((((if (a3.length:Int)<=Ab then some (0,Ab) else (gI a3<|w64<|w64 (Ab + 1) - 1).bind λAh=>some (w64 Ah,w64<|Ab + 1)):Option (Int × Int)).bind λ(Ai,Aj)=>if a5≠0 then some (Int.tmod (w64<|IntKind.wrap .u8 Ai) a5,Aj) else none):Option (Int × Int)).bind λ(Ak,Ad)=>((((if (a3.length:Int)<=Ad then some (0,Ad) else (gI a3<|w64<|w64 (Ad + 1) - 1).bind λAm=>some (w64 Am,w64<|Ad + 1)):Option (Int × Int)).bind λ(Ao,Ap)=>if a5≠0 then some (Int.tmod (w64<|IntKind.wrap .u8 Ao) a5,Ap) else none):Option (Int × Int)).bind λ(Aq,Ae)=>((if (a3.length:Int)<=Ae then some (0,Ae) else (gI a3<|w64<|w64 (Ae + 1) - 1).bind λAr=>some (w64 Ar,w64<|Ae + 1)):Option (Int × Int)).bind λ(Au,Av)=>(iter (λs=>AYb fuel Af Ak Aq Au s.1 s.2) fuel (0,Af)).bind (λ(Aw:LiI)=>some<|.inl (w64<|Ag + 1,Aw,Av))) | .inr _=>some<|.inr Af)
def AYc (fuel:Nat) (a5 Aa:Int) (Ac:LiI):Option ((Int × LiI) ⊕ LiI):=
 if Aa < ((List.replicate (Int.toNat a5) ([]:List Int)).length:Int) then if 0<=a5/\a5<=100000000 then (gI Ac Aa).bind λAe=>(gI (sI Ac Aa<|List.replicate (Int.toNat a5) (0:Int)) Aa).bind λAd=>(gI Ad Aa).bind λAf=>some (.inl (w64<|Aa + 1,sI (sI Ac Aa<|List.replicate (Int.toNat a5) (0:Int)) Aa<|sI Ad Aa 1)) else none else some<|.inr Ac
def AXx (fuel:Nat) (a3:LiA) (a5:Int):Option LiI:=
 if 0<=a5/\a5<=100000000 then (iter (λs=>AYc fuel a5 s.1 s.2) fuel (0,List.replicate (Int.toNat a5) ([]:List Int))).bind (λ(Ac:LiI)=>(iter (λs=>Aaf fuel a3 a5 s.1 s.2.1 s.2.2) fuel (0,Ac,0)).bind (λ(Ad:LiI)=>some Ad)) else none
theorem Ais {a3:LiA} {r:LiI} (H2:SlC (cI .i8) h Ac a3) (hp:AXx fuel a3 a5=some r):AT3 Tryz.prog 105 #[Ac,(.int .i64 a5)] h (λx h'=>Ext h h'/\ ∃ (x0:Value) (F0:List Nat) (Ee:List LnA) (Ef:List Value),x=x0/\AV3 (cI .i64) 61 2 h' F0 Ee Ef x0 r/\Sp h' h.size [F0]):=by
 unfold AXx at hp;refine cwf (l:=[_,_]) Tryz.func105 rfl rfl (AGt<|AT7<|AGq ?_);obtain ⟨Eg,Eh⟩:=ifN hp;refine Ajk (cI .i64) 2 ATg Ae8 rfl trivial tt2 rfl rfl AGr Eg λEi Ej Ek Bv M8 El E8 S9=>AG1<|AGv<|AGt<|AGq ?_;have Bw:=(Kst.k0 h).no2 E8 S9 El;refine AUb ATg rfl (Bw.o2 p0).rd (AGq<|AGw<|AGx ?_);obtain ⟨Cv,Eo,Ep⟩:=AGu Eh;obtain ⟨Er,Es,Et⟩:=Ash Eo;refine AXb 4294836288 (λx:(Int) × (LiI) × LnA × LnN × LvA=>[(17,(.int .i64 x.1))]) (λk x h'=>iter Er k (x.1,x.2.1)=some Cv/\Kst h h' (Bw.L.set 0<|aO2 (cI .i64) 61 2 x.2.2.1 x.2.2.2.1 x.2.2.2.2 Bv x.2.1)) AG3 fuel ((0,(List.replicate (Int.toNat a5) ([]:List Int)),Ei,Ej,Ek):(Int) × (LiI) × LnA × LnN × LvA) ?_ ⟨rfl,trivial⟩ ?_
 ·exact ⟨Et,Bw⟩
 rintro M9 ⟨Ap,Cw,Eu,Bx,Cx⟩ Na Nb ⟨Ev,By⟩;obtain ⟨Ew,Nc,rfl,A7,Bz⟩:=An2 Ev;rw [Es] at A7;dsimp only at A7;unfold AYc at A7;refine AGt<|ATz rfl rfl (AGw<|AGv<|⟨_,rfl,λB3=>?_,λB3=>?_⟩)
 ·refine AG5<|q_t<|AGv<|AGx<|AGt<|AGq<|AT7<|AGq<|AGq<|AGq ?_;obtain ⟨Ey,Ez⟩:=ifN<|AT9 A7 B3;refine Aip (c:=(cI .i64)) (a:=0) ATe Acs rfl rfl (λ_=>rfl) rfl trivial tt2 rfl rfl AGr Ey λCy Fa Nd Fb Fc Fd Fe=>?_;have A8:=By.no Fc (AX4 Fd Fe) Fb;obtain ⟨Nf,Cz,Ff⟩:=AGu Ez;refine AUy ATg rfl (A8.o2 p1) rfl Cz λFg Ng Fh Nh Ni=>Ajj ATq (A8.o2 p1) Cz Fh rfl rfl (A8.o p0) (A8.dj p0 p1 AGr) λNj Fi Fj Fk=>AGw<|ATc<|AGq<|AGq ?_;have Bc:=A8.m2 p0 p1 AGr Fj Fi λz hz=> .inl<|Fk z hz;obtain ⟨Fl,B4,Fm⟩:=AGu Ff;refine AUy ATg rfl (Bc.o2 p1) rfl B4 λNk Nl Nm Fo Fp=>AT1 ATq rfl Fp (AGq ?_);obtain ⟨Nn,C0,Fq⟩:=AGu Fm;refine AU7 (m:=Ap) ATe rfl (Bc.o2 p1) Fo B4 rfl C0 λNp Ft=>AYs (m:=Ap) (AX9 ATh rfl rfl rfl) (Bc.o2 p1) Ft B4 C0 (show ((cI .i64)).rep _ 1 _ from rfl) λNq Fu Fv=>ATr<|q_b<|q_t<|ATc<|ATp rfl rfl (AGq<|AGw ?_);obtain rfl:=AGs Fq;exact ⟨Ew,(((w64<|Ap + 1),(sI (sI Cw Ap<|List.replicate (Int.toNat a5) (0:Int)) Ap<|sI Fl Ap 1),(Fg :: (Bx.set (Int.toNat Ap) [Cy]).flatten),(Bx.set (Int.toNat Ap) [Cy]),(Cx.set (Int.toNat Ap) Fa)):(Int) × (LiI) × LnA × LnN × LvA),Nat.lt_succ_self _,⟨Bz,(Bc.uO2 p1 Fv Fu).sel [1] AGr⟩,rfl,trivial⟩
 ·obtain rfl:=AGs<|AUa A7 B3;change _=Cv at Bz;subst Bz;refine ATk<|ATl<|ATl<|AUi<|q_t<|AGt<|AGq ?_;obtain ⟨_,_,_,Fw⟩:=(H2.ext By.x).shape;refine AWr (v:=(.agg #[Ac,(.int .i64 0)])) (λ_=>by subst Fw;kernel_rfl)<|Asi [Ac,(.int .i64 0)] trivial tt2 rfl rfl λA5 Nr Fx Fy Fz=>AG1<|AGv<|AGt<|AG1<|AGx ?_;have C1:=By.nb Fy Fz Fx;obtain ⟨B5,F4,C2⟩:=AGu Ep;obtain ⟨F5,F6,F7⟩:=Ash F4;refine AXb 22300745198530623141535718272648327146249984 (λx:(Int) × (LiI) × LnA × LnN × LvA × (Int)=>[(8,(.int .i64 x.1))]) (λk x h'=>iter F5 k (x.1,x.2.1,x.2.2.2.2.2)=some B5/\Kst h h' ((C1.L.set 1<|aO2 (cI .i64) 61 2 x.2.2.1 x.2.2.2.1 x.2.2.2.2.1 Bv x.2.1).set 0 (aB 109 A5 [Ac,(.int .i64 x.2.2.2.2.2)]))) AG3 fuel ((0,Cw,Eu,Bx,Cx,0):(Int) × (LiI) × LnA × LnN × LvA × (Int)) ?_ ⟨rfl,trivial⟩ ?_
  ·exact ⟨F7,C1⟩
  rintro Ns ⟨C3,F8,F9,Ga,Gb,B6⟩ Nt Nu ⟨Gc,Aj⟩;obtain ⟨Gd,Nv,rfl,Be,A9⟩:=An2 Gc;rw [F6] at Be;dsimp only at Be;unfold Aaf at Be;obtain ⟨Ge,C4,B7⟩:=AGu Be;refine Ae6 562915593682944 (λx:Unit=>[]) (λx h'=>(Sum.inl <| ())=Ge/\Kst h h' (Aj.L)) ?_ ?_
  ·refine AGv<|AWg<|AGq<|ATz rfl rfl (AGq ?_);by_cases Bf:C3 < 12
   ·have C5:=ifT C4 Bf;rw [decide_eq_true Bf];refine ATt 37 true<|AGq<|ATt 37 true<|AUw rfl (ATt 37 true<|AVa AU2 rfl (ATt 37 true<|AT1 AT8 rfl ((Aj.b p0).cell (i:=1) rfl) (ATt 37 true<|AGq<|ATt 37 true<|AUw rfl (ATt 37 true<|AVa AX5 rfl (ATt 37 true<|AT1 Ae7 rfl ((Aj.b p0).cell (i:=0) rfl) (ATt 37 true<|AUu Af5 rfl H2 (ATt 37 true<|ATz rfl rfl (ATn rfl (AGw<|⟨_,rfl,λB8=>?_,λB8=>?_⟩)))))))))
    ·refine AG5<|q_t ?_;exact ⟨(():Unit),⟨AGs<|AT9 C5 B8,Aj⟩,trivial⟩
    ·obtain rfl:=AGs<|AUa C5 B8;obtain rfl:=AGs B7;change _=B5 at A9;subst A9;refine ATk<|ATl<|ATl<|AUi<|q_t<|AGt<|AGq<|AG1<|AG6 ?_;obtain rfl:=AGs C2;exact ⟨_,AS9,Aj.x,_,_,_,_,rfl,(Aj.o2 p1),Aj.s.sel [1] AGr⟩
   ·rw [decide_eq_false Bf];refine AY4 37 false<|AY4 37 false<|ATx rfl (AGw<|ATy rfl ?_);obtain rfl:=AGs<|ifF C4 Bf;obtain rfl:=AGs B7;change _=B5 at A9;subst A9;refine ATk<|ATl<|ATl<|AUi<|q_t<|AGt<|AGq<|AG1<|AG6 ?_;obtain rfl:=AGs C2;exact ⟨_,AS9,Aj.x,_,_,_,_,rfl,(Aj.o2 p1),Aj.s.sel [1] AGr⟩
  rintro ⟨⟩ Nw Ny ⟨Gf,Ar⟩;subst Gf;refine AGv<|AGx<|AGt<|AGq<|AGq ?_;obtain ⟨Gg,Gh,Gi⟩:=AGu B7;refine ATm (K':=(λxr h'=> ∃ x:(Int) × (Int),(x.1,x.2)=Gg/\xr=(.int .i64 x.1)/\Kst h h' (Ar.L.set 0<|aB 109 A5 [Ac,(.int .i64 x.2)]))) trivial rfl ?_ λNz N0 Gj=>?_
  ·refine cwf (l:=[_,_]) Tryz.func74 rfl rfl (AGt<|AT7<|AGq ?_);obtain ⟨Gk,C6,Gl⟩:=AGu Gh;refine ATm (K':=(λxr h'=> ∃ x:(Int) × (Int),(x.1,x.2)=Gk/\xr=(.int .i64 x.1)/\Kst h h' (Ar.L.set 0<|aB 109 A5 [Ac,(.int .i64 x.2)]))) trivial rfl ?_ λN3 N4 Gm=>?_
   ·refine cwf (l:=[_]) Tryz.func135 rfl rfl (AGt<|AG1<|AGv<|AGv<|AWg<|AGq<|AUw rfl (AVa AU2 rfl (AT1 AT8 rfl ((Ar.b p0).cell (i:=1) rfl) (AGq<|AUw rfl (AVa AX5 rfl (AT1 Ae7 rfl ((Ar.b p0).cell (i:=0) rfl) (AUu Af5 rfl H2 (Afb rfl rfl (AGw<|⟨_,rfl,λB9=>?_,λB9=>?_⟩)))))))))
    ·refine AGt<|AG1<|AG6<|ATj<|⟨_,AS9,((0,B6):(Int) × (Int)),?_,rfl,?_⟩
     ·exact AGs<|AT9 C6 B9
     ·exact Ar
    ·refine AG5<|q_t<|AGt<|AGq<|AUw rfl (AVa AU2 rfl (AT1 AT8 rfl ((Ar.b p0).cell (i:=1) rfl) (ATp rfl rfl (AUw rfl (AVa AU2 rfl (Af7 [Ac,(.int .i64<|w64<|B6 + 1)] AT8 rfl rfl rfl (Ar.b p0) (Nat.le_of_ble_eq_true rfl) rfl λN5 Gn Gp=>AGw<|AGv<|AWg<|AGq<|AUw rfl (AVa AX5 rfl ?_)))))));have Bg:=Ar.sb p0 Gp Gn rfl;refine AT1 Ae7 rfl ((Bg.b p0).cell (i:=0) rfl) (AGq<|AUw rfl (AVa AU2 rfl (AT1 AT8 rfl ((Bg.b p0).cell (i:=1) rfl) (AVm rfl rfl ?_))));obtain ⟨Gq,Gr,Gt⟩:=AGu<|AUa C6 B9;refine Ack (c:=(cI .i8)) Af5 rfl H2 rfl Gr λN6 N7 N8 Gu Gv=>?_;obtain rfl:=Gu;refine AT1 Aoq rfl (ATw (Gv 0 _ rfl) Bg.x) (Ac3 Aor Aap rfl (AG1<|AG6<|⟨_,AS9,(((w64 Gq),(w64<|B6 + 1)):(Int) × (Int)),?_,rfl,?_⟩))
     ·exact AGs Gt
     ·exact Bg
   obtain ⟨⟨Gw,Gx⟩,Gy,rfl,Gz⟩:=Gm;refine ⟨trivial,?_⟩;subst Gy;refine Ac3 Aap Ah7 rfl (Ac3 Ah7 Ajf rfl (AGq ?_));obtain ⟨G3,G4⟩:=ifN Gl;refine Aft rfl rfl G3 (AG1<|AG6<|⟨_,AS9,(((Int.tmod (w64<|IntKind.wrap .u8 Gw) a5),Gx):(Int) × (Int)),?_,rfl,?_⟩)
   ·exact AGs G4
   ·exact Gz
  obtain ⟨⟨Ak,Ca⟩,G5,rfl,Au⟩:=Gj;refine ⟨trivial,?_⟩;subst G5;refine AGq<|AGq ?_;obtain ⟨G6,G7,G8⟩:=AGu Gi;refine ATm (K':=(λxr h'=> ∃ x:(Int) × (Int),(x.1,x.2)=G6/\xr=(.int .i64 x.1)/\Kst h h' (Au.L.set 0<|aB 109 A5 [Ac,(.int .i64 x.2)]))) trivial rfl ?_ λN9 Oa G9=>?_
  ·refine cwf (l:=[_,_]) Tryz.func74 rfl rfl (AGt<|AT7<|AGq ?_);obtain ⟨Hb,C7,Hc⟩:=AGu G7;refine ATm (K':=(λxr h'=> ∃ x:(Int) × (Int),(x.1,x.2)=Hb/\xr=(.int .i64 x.1)/\Kst h h' (Au.L.set 0<|aB 109 A5 [Ac,(.int .i64 x.2)]))) trivial rfl ?_ λOb Oc Hd=>?_
   ·refine cwf (l:=[_]) Tryz.func135 rfl rfl (AGt<|AG1<|AGv<|AGv<|AWg<|AGq<|AUw rfl (AVa AU2 rfl (AT1 AT8 rfl ((Au.b p0).cell (i:=1) rfl) (AGq<|AUw rfl (AVa AX5 rfl (AT1 Ae7 rfl ((Au.b p0).cell (i:=0) rfl) (AUu Af5 rfl H2 (Afb rfl rfl (AGw<|⟨_,rfl,λCb=>?_,λCb=>?_⟩)))))))))
    ·refine AGt<|AG1<|AG6<|ATj<|⟨_,AS9,((0,Ca):(Int) × (Int)),?_,rfl,?_⟩
     ·exact AGs<|AT9 C7 Cb
     ·exact Au
    ·refine AG5<|q_t<|AGt<|AGq<|AUw rfl (AVa AU2 rfl (AT1 AT8 rfl ((Au.b p0).cell (i:=1) rfl) (ATp rfl rfl (AUw rfl (AVa AU2 rfl (Af7 [Ac,(.int .i64<|w64<|Ca + 1)] AT8 rfl rfl rfl (Au.b p0) (Nat.le_of_ble_eq_true rfl) rfl λOd He Hf=>AGw<|AGv<|AWg<|AGq<|AUw rfl (AVa AX5 rfl ?_)))))));have Bh:=Au.sb p0 Hf He rfl;refine AT1 Ae7 rfl ((Bh.b p0).cell (i:=0) rfl) (AGq<|AUw rfl (AVa AU2 rfl (AT1 AT8 rfl ((Bh.b p0).cell (i:=1) rfl) (AVm rfl rfl ?_))));obtain ⟨Hg,Hh,Hj⟩:=AGu<|AUa C7 Cb;refine Ack (c:=(cI .i8)) Af5 rfl H2 rfl Hh λOe Og Oh Hk Hl=>?_;obtain rfl:=Hk;refine AT1 Aoq rfl (ATw (Hl 0 _ rfl) Bh.x) (Ac3 Aor Aap rfl (AG1<|AG6<|⟨_,AS9,(((w64 Hg),(w64<|Ca + 1)):(Int) × (Int)),?_,rfl,?_⟩))
     ·exact AGs Hj
     ·exact Bh
   obtain ⟨⟨Hm,Hn⟩,Ho,rfl,Hq⟩:=Hd;refine ⟨trivial,?_⟩;subst Ho;refine Ac3 Aap Ah7 rfl (Ac3 Ah7 Ajf rfl (AGq ?_));obtain ⟨Hr,Hs⟩:=ifN Hc;refine Aft rfl rfl Hr (AG1<|AG6<|⟨_,AS9,(((Int.tmod (w64<|IntKind.wrap .u8 Hm) a5),Hn):(Int) × (Int)),?_,rfl,?_⟩)
   ·exact AGs Hs
   ·exact Hq
  obtain ⟨⟨Ba,Cd⟩,Ht,rfl,A3⟩:=G9;refine ⟨trivial,?_⟩;subst Ht;refine ATu<|AT7<|AGq ?_;obtain ⟨Hu,C8,Hv⟩:=AGu G8;refine ATm (K':=(λxr h'=> ∃ x:(Int) × (Int),(x.1,x.2)=Hu/\xr=(.int .i64 x.1)/\Kst h h' (A3.L.set 0<|aB 109 A5 [Ac,(.int .i64 x.2)]))) trivial rfl ?_ λOi Oj Hw=>?_
  ·refine cwf (l:=[_]) Tryz.func135 rfl rfl (AGt<|AG1<|AGv<|AGv<|AWg<|AGq<|AUw rfl (AVa AU2 rfl (AT1 AT8 rfl ((A3.b p0).cell (i:=1) rfl) (AGq<|AUw rfl (AVa AX5 rfl (AT1 Ae7 rfl ((A3.b p0).cell (i:=0) rfl) (AUu Af5 rfl H2 (Afb rfl rfl (AGw<|⟨_,rfl,λCe=>?_,λCe=>?_⟩)))))))))
   ·refine AGt<|AG1<|AG6<|ATj<|⟨_,AS9,((0,Cd):(Int) × (Int)),?_,rfl,?_⟩
    ·exact AGs<|AT9 C8 Ce
    ·exact A3
   ·refine AG5<|q_t<|AGt<|AGq<|AUw rfl (AVa AU2 rfl (AT1 AT8 rfl ((A3.b p0).cell (i:=1) rfl) (ATp rfl rfl (AUw rfl (AVa AU2 rfl (Af7 [Ac,(.int .i64<|w64<|Cd + 1)] AT8 rfl rfl rfl (A3.b p0) (Nat.le_of_ble_eq_true rfl) rfl λOl Hx Hy=>AGw<|AGv<|AWg<|AGq<|AUw rfl (AVa AX5 rfl ?_)))))));have Bi:=A3.sb p0 Hy Hx rfl;refine AT1 Ae7 rfl ((Bi.b p0).cell (i:=0) rfl) (AGq<|AUw rfl (AVa AU2 rfl (AT1 AT8 rfl ((Bi.b p0).cell (i:=1) rfl) (AVm rfl rfl ?_))));obtain ⟨Hz,Ia,Ib⟩:=AGu<|AUa C8 Ce;refine Ack (c:=(cI .i8)) Af5 rfl H2 rfl Ia λOm On Oo Ic Id=>?_;obtain rfl:=Ic;refine AT1 Aoq rfl (ATw (Id 0 _ rfl) Bi.x) (Ac3 Aor Aap rfl (AG1<|AG6<|⟨_,AS9,(((w64 Hz),(w64<|Cd + 1)):(Int) × (Int)),?_,rfl,?_⟩))
    ·exact AGs Ib
    ·exact Bi
  obtain ⟨⟨Av,Ie⟩,If,rfl,Cf⟩:=Hw;refine ⟨trivial,?_⟩;subst If;refine Aft rfl rfl AGr (AT7<|AGq<|AUb ATg rfl (Cf.o2 p1).rd (AGq<|AGw<|AGx ?_));obtain ⟨C9,Ih,Ii⟩:=AGu Hv;obtain ⟨Ij,Ik,Il⟩:=Ash Ih;refine AXb 22300745198530623141535713660962343078596608 (λx:(Int) × (LiI) × LnA × LnN × LvA=>[(62,(.int .i64 x.1))]) (λk x h'=>iter Ij k (x.1,x.2.1)=some C9/\Kst h h' (Cf.L.set 1<|aO2 (cI .i64) 61 2 x.2.2.1 x.2.2.2.1 x.2.2.2.2 Bv x.2.1)) AG3 fuel ((0,F8,F9,Ga,Gb):(Int) × (LiI) × LnA × LnN × LvA) ?_ ⟨rfl,trivial⟩ ?_
  ·exact ⟨Il,Cf⟩
  rintro Oq ⟨Ab,Ae,Af,Ag,Ah⟩ Ot Ou ⟨Im,Aa⟩;obtain ⟨Ai,Ov,rfl,Bb,Ad⟩:=An2 Im;rw [Ik] at Bb;dsimp only at Bb;unfold AYb at Bb;refine AGt<|ATz rfl rfl (AGw<|AGv<|⟨_,rfl,λCg=>?_,λCg=>?_⟩)
  ·refine AG5<|q_t<|AGv<|AGx<|AGt<|AGq<|AG1<|AGx<|AGt<|AGq<|AGq<|AWe rfl rfl (AGq ?_);have Da:=AT9 Bb Cg;by_cases Bj:Ak=Ba
   ·have Db:=ifT Da Bj;rw [decide_eq_true Bj];refine ATt 69 true<|AGq<|ATt 69 true<|ATz rfl rfl (ATn rfl (AG1<|⟨_,rfl,λCh=>?_,λCh=>?_⟩))
    ·refine AWg<|AGq<|AGq ?_;obtain ⟨Io,A6,Ip⟩:=AGu<|AT9 Db Ch;refine AUy ATg rfl (Aa.o2 p1) rfl A6 λOw Ox Oy Iq Ir=>AT1 ATq rfl Ir (AGq<|AGq<|AGq<|AUy ATg rfl (Aa.o2 p1) rfl A6 λOz O0 O1 Is It=>AT1 ATq rfl It (AGq ?_));obtain ⟨Dc,Bl,Iu⟩:=AGu Ip;refine AU7 (m:=Ab) ATe rfl (Aa.o2 p1) Is A6 rfl Bl λO2 Iv=>?_;obtain ⟨O3,Iw,Ix⟩:=(Aa.o2 p1).cells Iv A6 Bl;obtain rfl:=Iw;refine AT1 ATh rfl (Ix 0 _ rfl) (Aq1 rfl (AU7 (m:=Ab) ATe rfl (Aa.o2 p1) Iq A6 rfl Bl λO4 Iy=>AYs (m:=Ab) (AX9 ATh rfl rfl rfl) (Aa.o2 p1) Iy A6 Bl (show ((cI .i64)).rep _ (w64<|0 - Dc) _ from rfl) λO5 Iz I0=>ATr<|q_b<|q_b<|q_t<|ATc<|ATp rfl rfl (AGq<|AGw ?_)));obtain rfl:=AGs Iu;exact ⟨Ai,(((w64<|Ab + 1),(sI Ae Ab<|sI Io Ak<|w64<|0 - Dc),Af,Ag,Ah):(Int) × (LiI) × LnA × LnN × LvA),Nat.lt_succ_self _,⟨Ad,(Aa.uO2 p1 I0 Iz)⟩,rfl,trivial⟩
    ·refine AGt<|AGq<|AGq<|AV2 rfl rfl (AGq ?_);have Dd:=AUa Db Ch;by_cases Bm: ¬ Ak=Ba
     ·have De:=ifT Dd Bm;rw [decide_eq_true Bm];refine ATt 91 true<|AGq<|ATt 91 true<|AWe rfl rfl (ATn rfl (AG1<|⟨_,rfl,λCi=>?_,λCi=>?_⟩))
      ·refine AWg<|AGq<|AGq ?_;obtain ⟨I1,Am,I2⟩:=AGu<|AT9 De Ci;refine AUy ATg rfl (Aa.o2 p1) rfl Am λO6 O7 O8 I3 I6=>AT1 ATq rfl I6 (AGq<|AGq<|AGq<|AUy ATg rfl (Aa.o2 p1) rfl Am λO9 Pa Pb I7 I9=>AT1 ATq rfl I9 (AGq<|AGq<|AGq<|AUy ATg rfl (Aa.o2 p1) rfl Am λPc Pd Pe Ja Jc=>AT1 ATq rfl Jc (AGq ?_)));obtain ⟨Df,Dg,Je⟩:=AGu I2;refine AU7 (m:=Ab) ATe rfl (Aa.o2 p1) Ja Am rfl Dg λPf Jf=>?_;obtain ⟨Pg,Jg,Jh⟩:=(Aa.o2 p1).cells Jf Am Dg;obtain rfl:=Jg;refine AT1 ATh rfl (Jh 0 _ rfl) (AGq<|AGq<|AUy ATg rfl (Aa.o2 p1) rfl Am λPh Pj Pk Ji Jj=>AT1 ATq rfl Jj (AGq ?_));obtain ⟨Dh,Bn,Jk⟩:=AGu Je;refine AU7 (m:=Ab) ATe rfl (Aa.o2 p1) Ji Am rfl Bn λPl Jl=>?_;obtain ⟨Pm,Jm,Jn⟩:=(Aa.o2 p1).cells Jl Am Bn;obtain rfl:=Jm;refine AT1 ATh rfl (Jn 0 _ rfl) (AU7 (m:=Ab) ATe rfl (Aa.o2 p1) I3 Am rfl Bn λPn Jo=>AYs (m:=Ab) (AX9 ATh rfl rfl rfl) (Aa.o2 p1) Jo Am Bn (show ((cI .i64)).rep _ Df _ from rfl) λPo Jp Jq=>?_);have Cj:=Aa.uO2 p1 Jq Jp;obtain ⟨Jr,Di,Js⟩:=AGu Jk;obtain ⟨Pp,Dj,Jt⟩:=AGu Js;refine AU7 (m:=Ab) ATe rfl (Cj.o2 p1) I7 Di rfl Dj λPq Ju=>AYs (m:=Ab) (AX9 ATh rfl rfl rfl) (Cj.o2 p1) Ju Di Dj (show ((cI .i64)).rep _ Dh _ from rfl) λPs Jv Jw=>ATr<|q_b<|q_b<|q_t<|ATc<|ATp rfl rfl (AGq<|AGw ?_);obtain rfl:=AGs Jt;exact ⟨Ai,(((w64<|Ab + 1),(sI (sI Ae Ab<|sI I1 Ak Df) Ab<|sI Jr Ba Dh),Af,Ag,Ah):(Int) × (LiI) × LnA × LnN × LvA),Nat.lt_succ_self _,⟨Ad,(Cj.uO2 p1 Jw Jv)⟩,rfl,trivial⟩
      ·refine AGt<|AGq<|AGq<|AV2 rfl rfl (AG1 ?_);have Dk:=AUa De Ci;refine ⟨_,rfl,λCk=>?_,λCk=>?_⟩
       ·refine AWg<|AGq<|AGq ?_;obtain ⟨Jx,Aw,Jy⟩:=AGu<|AT9 Dk Ck;refine AUy ATg rfl (Aa.o2 p1) rfl Aw λPt Pu Pw Dl Jz=>AT1 ATq rfl Jz (AGq ?_);obtain ⟨Do,Bo,J0⟩:=AGu Jy;refine AU7 (m:=Ab) ATe rfl (Aa.o2 p1) Dl Aw rfl Bo λPx J1=>?_;obtain ⟨Py,J2,J3⟩:=(Aa.o2 p1).cells J1 Aw Bo;obtain rfl:=J2;refine AT1 ATh rfl (J3 0 _ rfl) (AGq<|AGq<|AGq<|AUy ATg rfl (Aa.o2 p1) rfl Aw λPz P0 P1 J4 J5=>AT1 ATq rfl J5 (AGq ?_));obtain ⟨Dp,Dq,J6⟩:=AGu J0;refine AU7 (m:=Ab) ATe rfl (Aa.o2 p1) J4 Aw rfl Dq λP2 J7=>?_;obtain ⟨P3,J8,J9⟩:=(Aa.o2 p1).cells J7 Aw Dq;obtain rfl:=J8;refine AT1 ATh rfl (J9 0 _ rfl) (Aai rfl rfl (ATp rfl rfl (AU7 (m:=Ab) ATe rfl (Aa.o2 p1) Dl Aw rfl Bo λP4 Ka=>AYs (m:=Ab) (AX9 ATh rfl rfl rfl) (Aa.o2 p1) Ka Aw Bo (show ((cI .i64)).rep _ (w64<|Do + (w64<|(Int.tmod Av 3) * Dp)) _ from rfl) λP5 Kb Kc=>ATr<|q_b<|q_b<|q_t<|ATc<|ATp rfl rfl (AGq<|AGw ?_))));obtain rfl:=AGs J6;exact ⟨Ai,(((w64<|Ab + 1),(sI Ae Ab<|sI Jx Ak<|w64<|Do + (w64<|(Int.tmod Av 3) * Dp)),Af,Ag,Ah):(Int) × (LiI) × LnA × LnN × LvA),Nat.lt_succ_self _,⟨Ad,(Aa.uO2 p1 Kc Kb)⟩,rfl,trivial⟩
       ·refine AG5<|q_b<|q_b<|q_t<|ATc<|ATp rfl rfl (AGq<|AGw ?_);obtain rfl:=AGs<|AUa Dk Ck;exact ⟨Ai,(((w64<|Ab + 1),Ae,Af,Ag,Ah):(Int) × (LiI) × LnA × LnN × LvA),Nat.lt_succ_self _,⟨Ad,Aa⟩,rfl,trivial⟩
     ·have Dr:=ifF Dd Bm;rw [decide_eq_false Bm];refine Ab3 91 false<|ATx rfl (AG1<|ATy rfl (AGt<|AGq<|AGq<|AV2 rfl rfl (AG1<|⟨_,rfl,λCm=>?_,λCm=>?_⟩)))
      ·refine AWg<|AGq<|AGq ?_;obtain ⟨Kd,Ax,Ke⟩:=AGu<|AT9 Dr Cm;refine AUy ATg rfl (Aa.o2 p1) rfl Ax λP6 P7 P8 Ds Kf=>AT1 ATq rfl Kf (AGq ?_);obtain ⟨Dt,Bp,Kg⟩:=AGu Ke;refine AU7 (m:=Ab) ATe rfl (Aa.o2 p1) Ds Ax rfl Bp λP9 Kh=>?_;obtain ⟨Qa,Ki,Kj⟩:=(Aa.o2 p1).cells Kh Ax Bp;obtain rfl:=Ki;refine AT1 ATh rfl (Kj 0 _ rfl) (AGq<|AGq<|AGq<|AUy ATg rfl (Aa.o2 p1) rfl Ax λQb Qc Qd Kk Kl=>AT1 ATq rfl Kl (AGq ?_));obtain ⟨Du,Dv,Km⟩:=AGu Kg;refine AU7 (m:=Ab) ATe rfl (Aa.o2 p1) Kk Ax rfl Dv λQe Kn=>?_;obtain ⟨Qf,Ko,Kp⟩:=(Aa.o2 p1).cells Kn Ax Dv;obtain rfl:=Ko;refine AT1 ATh rfl (Kp 0 _ rfl) (Aai rfl rfl (ATp rfl rfl (AU7 (m:=Ab) ATe rfl (Aa.o2 p1) Ds Ax rfl Bp λQg Kr=>AYs (m:=Ab) (AX9 ATh rfl rfl rfl) (Aa.o2 p1) Kr Ax Bp (show ((cI .i64)).rep _ (w64<|Dt + (w64<|(Int.tmod Av 3) * Du)) _ from rfl) λQh Kt Ku=>ATr<|q_b<|q_b<|q_t<|ATc<|ATp rfl rfl (AGq<|AGw ?_))));obtain rfl:=AGs Km;exact ⟨Ai,(((w64<|Ab + 1),(sI Ae Ab<|sI Kd Ak<|w64<|Dt + (w64<|(Int.tmod Av 3) * Du)),Af,Ag,Ah):(Int) × (LiI) × LnA × LnN × LvA),Nat.lt_succ_self _,⟨Ad,(Aa.uO2 p1 Ku Kt)⟩,rfl,trivial⟩
      ·refine AG5<|q_b<|q_b<|q_t<|ATc<|ATp rfl rfl (AGq<|AGw ?_);obtain rfl:=AGs<|AUa Dr Cm;exact ⟨Ai,(((w64<|Ab + 1),Ae,Af,Ag,Ah):(Int) × (LiI) × LnA × LnN × LvA),Nat.lt_succ_self _,⟨Ad,Aa⟩,rfl,trivial⟩
   ·have Dw:=ifF Da Bj;rw [decide_eq_false Bj];refine Ab3 69 false<|ATx rfl (AG1<|ATy rfl (AGt<|AGq<|AGq<|AV2 rfl rfl (AGq ?_)));by_cases Bq: ¬ Ak=Ba
    ·have Dx:=ifT Dw Bq;rw [decide_eq_true Bq];refine ATt 91 true<|AGq<|ATt 91 true<|AWe rfl rfl (ATn rfl (AG1<|⟨_,rfl,λCn=>?_,λCn=>?_⟩))
     ·refine AWg<|AGq<|AGq ?_;obtain ⟨Kv,Ao,Kw⟩:=AGu<|AT9 Dx Cn;refine AUy ATg rfl (Aa.o2 p1) rfl Ao λQi Qj Qk Kx Ky=>AT1 ATq rfl Ky (AGq<|AGq<|AGq<|AUy ATg rfl (Aa.o2 p1) rfl Ao λQl Qm Qn Kz La=>AT1 ATq rfl La (AGq<|AGq<|AGq<|AUy ATg rfl (Aa.o2 p1) rfl Ao λQo Qp Qq Lb Lc=>AT1 ATq rfl Lc (AGq ?_)));obtain ⟨Dy,Dz,Ld⟩:=AGu Kw;refine AU7 (m:=Ab) ATe rfl (Aa.o2 p1) Lb Ao rfl Dz λQr Le=>?_;obtain ⟨Qs,Lf,Lg⟩:=(Aa.o2 p1).cells Le Ao Dz;obtain rfl:=Lf;refine AT1 ATh rfl (Lg 0 _ rfl) (AGq<|AGq<|AUy ATg rfl (Aa.o2 p1) rfl Ao λQt Qu Qv Lh Li=>AT1 ATq rfl Li (AGq ?_));obtain ⟨D0,Br,Lj⟩:=AGu Ld;refine AU7 (m:=Ab) ATe rfl (Aa.o2 p1) Lh Ao rfl Br λQw Lk=>?_;obtain ⟨Qx,Ll,Lm⟩:=(Aa.o2 p1).cells Lk Ao Br;obtain rfl:=Ll;refine AT1 ATh rfl (Lm 0 _ rfl) (AU7 (m:=Ab) ATe rfl (Aa.o2 p1) Kx Ao rfl Br λQy Lo=>AYs (m:=Ab) (AX9 ATh rfl rfl rfl) (Aa.o2 p1) Lo Ao Br (show ((cI .i64)).rep _ Dy _ from rfl) λQz Lq Lr=>?_);have Co:=Aa.uO2 p1 Lr Lq;obtain ⟨Lv,D2,Lw⟩:=AGu Lj;obtain ⟨Q0,D3,Lx⟩:=AGu Lw;refine AU7 (m:=Ab) ATe rfl (Co.o2 p1) Kz D2 rfl D3 λQ1 Ly=>AYs (m:=Ab) (AX9 ATh rfl rfl rfl) (Co.o2 p1) Ly D2 D3 (show ((cI .i64)).rep _ D0 _ from rfl) λQ2 Lz L9=>ATr<|q_b<|q_b<|q_t<|ATc<|ATp rfl rfl (AGq<|AGw ?_);obtain rfl:=AGs Lx;exact ⟨Ai,(((w64<|Ab + 1),(sI (sI Ae Ab<|sI Kv Ak Dy) Ab<|sI Lv Ba D0),Af,Ag,Ah):(Int) × (LiI) × LnA × LnN × LvA),Nat.lt_succ_self _,⟨Ad,(Co.uO2 p1 L9 Lz)⟩,rfl,trivial⟩
     ·refine AGt<|AGq<|AGq<|AV2 rfl rfl (AG1 ?_);have D4:=AUa Dx Cn;refine ⟨_,rfl,λCp=>?_,λCp=>?_⟩
      ·refine AWg<|AGq<|AGq ?_;obtain ⟨Ma,Ay,Mb⟩:=AGu<|AT9 D4 Cp;refine AUy ATg rfl (Aa.o2 p1) rfl Ay λQ3 Q4 Q6 D5 Mc=>AT1 ATq rfl Mc (AGq ?_);obtain ⟨D6,Bt,Md⟩:=AGu Mb;refine AU7 (m:=Ab) ATe rfl (Aa.o2 p1) D5 Ay rfl Bt λQ7 Me=>?_;obtain ⟨Q8,Mf,Mg⟩:=(Aa.o2 p1).cells Me Ay Bt;obtain rfl:=Mf;refine AT1 ATh rfl (Mg 0 _ rfl) (AGq<|AGq<|AGq<|AUy ATg rfl (Aa.o2 p1) rfl Ay λQ9 Rc Rd Mh Mi=>AT1 ATq rfl Mi (AGq ?_));obtain ⟨D7,D8,Mj⟩:=AGu Md;refine AU7 (m:=Ab) ATe rfl (Aa.o2 p1) Mh Ay rfl D8 λRe Mk=>?_;obtain ⟨Rf,Ml,Mm⟩:=(Aa.o2 p1).cells Mk Ay D8;obtain rfl:=Ml;refine AT1 ATh rfl (Mm 0 _ rfl) (Aai rfl rfl (ATp rfl rfl (AU7 (m:=Ab) ATe rfl (Aa.o2 p1) D5 Ay rfl Bt λRg Mo=>AYs (m:=Ab) (AX9 ATh rfl rfl rfl) (Aa.o2 p1) Mo Ay Bt (show ((cI .i64)).rep _ (w64<|D6 + (w64<|(Int.tmod Av 3) * D7)) _ from rfl) λRh Mq Mr=>ATr<|q_b<|q_b<|q_t<|ATc<|ATp rfl rfl (AGq<|AGw ?_))));obtain rfl:=AGs Mj;exact ⟨Ai,(((w64<|Ab + 1),(sI Ae Ab<|sI Ma Ak<|w64<|D6 + (w64<|(Int.tmod Av 3) * D7)),Af,Ag,Ah):(Int) × (LiI) × LnA × LnN × LvA),Nat.lt_succ_self _,⟨Ad,(Aa.uO2 p1 Mr Mq)⟩,rfl,trivial⟩
      ·refine AG5<|q_b<|q_b<|q_t<|ATc<|ATp rfl rfl (AGq<|AGw ?_);obtain rfl:=AGs<|AUa D4 Cp;exact ⟨Ai,(((w64<|Ab + 1),Ae,Af,Ag,Ah):(Int) × (LiI) × LnA × LnN × LvA),Nat.lt_succ_self _,⟨Ad,Aa⟩,rfl,trivial⟩
    ·have D9:=ifF Dw Bq;rw [decide_eq_false Bq];refine Ab3 91 false<|ATx rfl (AG1<|ATy rfl (AGt<|AGq<|AGq<|AV2 rfl rfl (AG1<|⟨_,rfl,λCq=>?_,λCq=>?_⟩)))
     ·refine AWg<|AGq<|AGq ?_;obtain ⟨Ms,Az,Mt⟩:=AGu<|AT9 D9 Cq;refine AUy ATg rfl (Aa.o2 p1) rfl Az λRi Rj Rm Ea Mu=>AT1 ATq rfl Mu (AGq ?_);obtain ⟨Eb,Bu,Mv⟩:=AGu Mt;refine AU7 (m:=Ab) ATe rfl (Aa.o2 p1) Ea Az rfl Bu λRn Mw=>?_;obtain ⟨Ro,Mx,My⟩:=(Aa.o2 p1).cells Mw Az Bu;obtain rfl:=Mx;refine AT1 ATh rfl (My 0 _ rfl) (AGq<|AGq<|AGq<|AUy ATg rfl (Aa.o2 p1) rfl Az λRq Rr Rs Mz M0=>AT1 ATq rfl M0 (AGq ?_));obtain ⟨Ec,Ed,M1⟩:=AGu Mv;refine AU7 (m:=Ab) ATe rfl (Aa.o2 p1) Mz Az rfl Ed λRt M2=>?_;obtain ⟨Ru,M3,M4⟩:=(Aa.o2 p1).cells M2 Az Ed;obtain rfl:=M3;refine AT1 ATh rfl (M4 0 _ rfl) (Aai rfl rfl (ATp rfl rfl (AU7 (m:=Ab) ATe rfl (Aa.o2 p1) Ea Az rfl Bu λRv M5=>AYs (m:=Ab) (AX9 ATh rfl rfl rfl) (Aa.o2 p1) M5 Az Bu (show ((cI .i64)).rep _ (w64<|Eb + (w64<|(Int.tmod Av 3) * Ec)) _ from rfl) λRw M6 M7=>ATr<|q_b<|q_b<|q_t<|ATc<|ATp rfl rfl (AGq<|AGw ?_))));obtain rfl:=AGs M1;exact ⟨Ai,(((w64<|Ab + 1),(sI Ae Ab<|sI Ms Ak<|w64<|Eb + (w64<|(Int.tmod Av 3) * Ec)),Af,Ag,Ah):(Int) × (LiI) × LnA × LnN × LvA),Nat.lt_succ_self _,⟨Ad,(Aa.uO2 p1 M7 M6)⟩,rfl,trivial⟩
     ·refine AG5<|q_b<|q_b<|q_t<|ATc<|ATp rfl rfl (AGq<|AGw ?_);obtain rfl:=AGs<|AUa D9 Cq;exact ⟨Ai,(((w64<|Ab + 1),Ae,Af,Ag,Ah):(Int) × (LiI) × LnA × LnN × LvA),Nat.lt_succ_self _,⟨Ad,Aa⟩,rfl,trivial⟩
  ·obtain rfl:=AGs<|AUa Bb Cg;change _=C9 at Ad;subst Ad;refine ATk<|ATl<|ATl<|AUi<|q_b<|q_t<|ATc<|AGq<|ATp rfl rfl (AG1 ?_);obtain rfl:=AGs Ii;exact ⟨Gd,(((w64<|C3 + 1),Ae,Af,Ag,Ah,Ie):(Int) × (LiI) × LnA × LnN × LvA × (Int)),Nat.lt_succ_self _,⟨A9,Aa⟩,rfl,trivial⟩
def AXe (fuel:Nat) (a1 a2:Int) (a5 a9:LiA) (Af:Int):Option LiI:=
 (AVq fuel a1 a2 a5 a9 Af).bind λAb=>(AV4 fuel Ab).bind λAg=>(AXx fuel a9 (Ab.length:Int)).bind λAh=>(AV4 fuel Ah).bind λAi=>(AVz fuel Ag Ai).bind λAj=>some Aj
theorem Aid {a5:LiA} {a9:LiA} {Ar:Int} {r:LiI} (H4:SlC (cI .i8) h Ac a5) (H8:SlC (cI .i8) h Ad a9) (hp:AXe fuel a1 a2 a5 a9 Ar=some r):AT3 Tryz.prog 55 #[(.agg #[(.int .u8 a1),(.int .u8 a2),Ac,Ad]),(.int .i64 Ar)] h (λx h'=>Ext h h'/\ ∃ (x0:Value) (F0:List Nat) (A6:List LnA) (A7:List Value),x=x0/\AV3 cZ 146 129 h' F0 A6 A7 x0 r/\Sp h' h.size [F0]):=by
 unfold AXe at hp;refine cwf (l:=[_,_]) Tryz.func55 rfl rfl (AGt<|Asi [(.int .u8 a1),(.int .u8 a2),Ac,Ad] trivial tt2 rfl rfl λB8 B9 A8 A9 Ba=>AT7 ?_);have Ae:=(Kst.k0 h).nb A9 Ba A8;refine Abi [(.int .u8 a1),(.int .u8 a2),Ac,Ad] As2 rfl rfl (Ae.b p0).agg (AGq ?_);obtain ⟨Ca,Bb,Bc⟩:=AGu hp;refine Aeq rfl (Adp (H4.ext Ae.x) (H8.ext Ae.x) Bb) λCb Ag Be Bf=>?_;obtain ⟨Cd,Ce,Cf,Cg,rfl,Bg,Bh⟩:=Bf;refine AG1<|AGv<|AVl (λh'=>UpT [] Ag h') AG3 ?_;have Ah:=Ae.no2 Be Bh Bg;have Ai:UpT [] Ag Ag:=UpT.start all_nil;refine AGq ?_;obtain ⟨Ch,Bi,Bj⟩:=AGu Bc;refine AWs Ai (λ_ E=>Ai.thenE E) rfl (Abu (Ah.o2 p0).rd Bi) λCi Cj Ax Bl=>?_;obtain ⟨Ck,Cm,Cn,Co,rfl,Bm,Bn⟩:=Bl;refine AVa BAa rfl ?_;have Af:=Ai.thenE Ax;refine AVe Ae7 rfl Af (λh' hb=>((Ah.b p1).ext hb.ext).cell (i:=3) rfl) (AGq ?_);have Aj:=Ah.no2 Ax Bn Bm;refine AUb ATg rfl (Aj.o2 p1).rd ?_;obtain ⟨Cp,Bo,Bp⟩:=AGu Bj;refine AWs Af (λ_ E=>Af.thenE E) rfl (Ais (H8.ext Aj.x) Bo) λCq Cr Ay Bq=>?_;obtain ⟨Ct,Cu,Cv,Cw,rfl,Br,Bt⟩:=Bq;have Ak:=Af.thenE Ay;have Az:=Aj.no2 Ay Bt Br;obtain ⟨Cx,Bu,Bv⟩:=AGu Bp;refine AWs Ak (λ_ E=>Ak.thenE E) rfl (Abu (Az.o2 p0).rd Bu) λCy Cz A3 Bw=>?_;obtain ⟨C0,C1,C2,C3,rfl,Bx,By⟩:=Bw;have A4:=Ak.thenE A3;have Am:=Az.no2 A3 By Bx;obtain ⟨C4,Bz,B3⟩:=AGu Bv;refine AWs A4 (λ_ E=>A4.thenE E) rfl (Aem (Am.o2 p2).rd (Am.o2 p0).rd Bz) λC5 C6 B4 B5=>?_;obtain ⟨C7,C8,C9,Da,rfl,B6,B7⟩:=B5;refine AG1<|AG6 ?_;have Ao:=Am.no2 B4 B7 B6;obtain rfl:=AGs B3;exact ⟨_,AS9,Ao.x,_,_,_,_,rfl,(Ao.o2 p0),Ao.s.sel [0] AGr⟩
def AWp (fuel:Nat) (a1 a2:Int) (a5 a9:LiA) (Ae:Int):Option LiI:=
 (AXe fuel a1 a2 a5 a9 Ae).bind λAf=>(AXm fuel Af).bind λ(Ag,Ah,Ai)=>some Ag
theorem Ahi {a5:LiA} {a9:LiA} {Ai:Int} {r:LiI} (H4:SlC (cI .i8) h Ac a5) (H8:SlC (cI .i8) h Ad a9) (hp:AWp fuel a1 a2 a5 a9 Ai=some r):AT3 Tryz.prog 20 #[(.agg #[(.int .u8 a1),(.int .u8 a2),Ac,Ad]),(.int .i64 Ai)] h (λx h'=>Ext h h'/\ ∃ (x0:Value) (F0:List Nat) (Ar:List LnA) (Au:List Value),x=x0/\AV3 (cI .i64) 61 2 h' F0 Ar Au x0 r/\Sp h' h.size [F0]):=by
 unfold AWp at hp;refine cwf (l:=[_,_]) Tryz.func20 rfl rfl (AGt<|Asi [(.int .u8 a1),(.int .u8 a2),Ac,Ad] trivial tt2 rfl rfl λBp Bq Av Aw Ax=>AT7 ?_);have Ae:=(Kst.k0 h).nb Aw Ax Av;refine Abi [(.int .u8 a1),(.int .u8 a2),Ac,Ad] As2 rfl rfl (Ae.b p0).agg (AGq ?_);obtain ⟨Br,Ay,Az⟩:=AGu hp;refine Aeq rfl (Aid (H4.ext Ae.x) (H8.ext Ae.x) Ay) λBt Bu A3 A4=>?_;obtain ⟨Bv,Bw,Bx,By,rfl,A5,A6⟩:=A4;have Am:=Ae.no2 A3 A6 A5;obtain ⟨⟨A7,A8,Bz⟩,A9,Ao⟩:=AGu Az;dsimp only at Ao;refine Aeq rfl (Afz (Am.o2 p0).rd A9) λB3 B4 Ba Bb=>?_;obtain ⟨Bc,Be,Bf,Bg,Bh,Bi,Bj,Bl,rfl,Bm,Bn,Bo⟩:=Bb;have Af:=Am.n Ba [aO2 (cI .i64) 61 2 Be Bf Bg Bc A7,aO2 cZ 146 129 Bi Bj Bl Bh A8] Bo ⟨Bm,Bn,trivial⟩;simp only [List.cons_append,List.nil_append] at Af;refine AGq<|AUh rfl rfl (AUh rfl rfl (AUh rfl rfl (ATu<|ATu<|AT7<|AGq<|AG1<|AG6 ?_)));obtain rfl:=AGs Ao;exact ⟨_,AS9,Af.x,_,_,_,_,rfl,(Af.o2 p0),Af.s.sel [0] AGr⟩
end Go.Proofs.YtkakafabeobahaaGreatDoor
