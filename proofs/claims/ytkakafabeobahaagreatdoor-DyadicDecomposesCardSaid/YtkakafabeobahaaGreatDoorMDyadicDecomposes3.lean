/-
  Texts of a proof, joined. Conditions stand in each statement.
-/
import Derived.Test.YtkakafabeobahaaGreatDoorMDyadicDecomposes2
set_option linter.unusedVariables false
set_option linter.unusedSimpArgs false
open Go
variable {na neg:Bool} {h:Go.QF.AGz} {F A A0:Go.QF.AS9} {a1 a5 a2 x a9 d q last:Int} {fuel r a k j i p D:Nat} {f g:Nat->Int} {α:Type} {Ad Af Ab Aq Ai Ak Ac Ae Ah:Value}
namespace Go.Proofs.YtkakafabeobahaaGreatDoor
open Go Go.QF
set_option maxRecDepth 100000
set_option maxHeartbeats 4000000
abbrev LnN:=List<|List Nat
abbrev LnA:=List Nat
abbrev LvA:=List Value
abbrev LiI:=List<|List Int
abbrev LiA:=List Int
theorem AGo {α:Type _} {a b:α} (h:some a=some b):a=b:=Option.some.inj h
theorem tt2 {α:Sort _} {β:α->Sort _}:∀ x,β x->True:=λ_ _=>trivial
def AV2 (fuel:Nat) (a1 a5:Int):Option Int:=
 (Ams fuel a1 a5).bind λ(Ac,Ad,Ae)=>some Ac
theorem Abn {r:Int} (H3:ZZ h Ad a1) (H7:ZZ h Af a5) (hp:AV2 fuel a1 a5=some r):ATz Tryz.prog 172 #[Ad,Af] h (λx h'=>Ext h h'/\ ∃ (x0:Value),x=x0/\ZZ h' x0 r):=by
 unfold AV2 at hp;obtain ⟨Ar,rfl,Ai⟩:=H3.cs;obtain ⟨Au,rfl,Aj⟩:=H7.cs;refine cwf (l:=[_,_]) Tryz.func172 rfl rfl (AGq<|AY3 (Kst.k0 h) Ar λb9 Bc Be Av=>AY3 Av Au λBf Bg Bh Aw=>AV6 Aw [.bool false,.slice none 0 0] AYd λBi Bj Bl Aa=>Aal<|Aew (Aa.zx Ai) (Aa.b p2)<|Aew (Aa.zx Aj) (Aa.b p1) ?_);obtain ⟨⟨Bm,Bn,Bo⟩,Ax,Ak⟩:=AGr hp;dsimp only at Ak;refine Agw rfl (Awc (Aa.zx Ai).2 (Aa.zx Aj).2 Ax) λBp Bq Ay Az=>?_;obtain ⟨Br,Bt,rfl,A3,A4⟩:=Az;obtain ⟨Bu,rfl,A5⟩:=A3.cs;obtain ⟨Bv,rfl,A6⟩:=A4.cs;refine AGm<|AUk rfl rfl (AUk rfl rfl (AUk rfl rfl (AV6 (((Aa.e Ay).az A5).az A6) [.bool false,.slice none 0 0] AYd λBw Bx By A7=>AV6 A7 [.bool false,.slice none 0 0] AYd λBz A8 B1 Am=>AZf Am p1 (ATk A8) (Am.z p3) λA9 Ao=>AZf Ao p0 (ATk A9) (Ao.z p2) λBa Ab=>AT2<|Aew (Ab.z p3) (Ab.b p1)<|AZf Ab p4 (ATk Ba) (Ab.z p3) λB3 Ac=>AGu<|AG1 ?_)));obtain rfl:=AGo Ak;exact ⟨_,AVk AUm (cZ.klen<|Ac.z p3) rfl (Ac.b p4),Ac.x,_,rfl,(Ac.z p3).2⟩
def AW7 (fuel:Nat) (a1 a5:Int):Option Int:=
 (Ams fuel a1 a5).bind λ(Ad,Ac,Ae)=>some Ac
theorem Aix {r:Int} (H3:ZZ h Ad a1) (H7:ZZ h Af a5) (hp:AW7 fuel a1 a5=some r):ATz Tryz.prog 186 #[Ad,Af] h (λx h'=>Ext h h'/\ ∃ (x0:Value),x=x0/\ZZ h' x0 r):=by
 unfold AW7 at hp;obtain ⟨Ar,rfl,Ai⟩:=H3.cs;obtain ⟨Au,rfl,Aj⟩:=H7.cs;refine cwf (l:=[_,_]) Tryz.func186 rfl rfl (AGq<|AY3 (Kst.k0 h) Ar λb9 Bc Be Av=>AY3 Av Au λBf Bg Bh Aw=>AV6 Aw [.bool false,.slice none 0 0] AYd λBi Bj Bl Aa=>Aal<|Aew (Aa.zx Ai) (Aa.b p2)<|Aew (Aa.zx Aj) (Aa.b p1) ?_);obtain ⟨⟨Bm,Bn,Bo⟩,Ax,Ak⟩:=AGr hp;dsimp only at Ak;refine Agw rfl (Awc (Aa.zx Ai).2 (Aa.zx Aj).2 Ax) λBp Bq Ay Az=>?_;obtain ⟨Br,Bt,rfl,A3,A4⟩:=Az;obtain ⟨Bu,rfl,A5⟩:=A3.cs;obtain ⟨Bv,rfl,A6⟩:=A4.cs;refine AGm<|AUk rfl rfl (AUk rfl rfl (AUk rfl rfl (AV6 (((Aa.e Ay).az A5).az A6) [.bool false,.slice none 0 0] AYd λBw Bx By A7=>AV6 A7 [.bool false,.slice none 0 0] AYd λBz A8 B1 Am=>AZf Am p1 (ATk A8) (Am.z p3) λA9 Ao=>AZf Ao p0 (ATk A9) (Ao.z p2) λBa Ab=>AT2<|Aew (Ab.z p2) (Ab.b p0)<|AZf Ab p4 (ATk Ba) (Ab.z p2) λB3 Ac=>AGu<|AG1 ?_)));obtain rfl:=AGo Ak;exact ⟨_,AVk AUm (cZ.klen<|Ac.z p2) rfl (Ac.b p4),Ac.x,_,rfl,(Ac.z p2).2⟩
def Aex (fuel:Nat) (a1 a2 Aa:Int) (Ac:LiI):Option ((Int × LiI) ⊕ LiI):=
 if Aa < ((List.replicate (Int.toNat a1) ([]:List Int)).length:Int) then if 0<=a2/\a2<=100000000 then (gI Ac Aa).bind λAe=>some (.inl (w64<|Aa + 1,sI Ac Aa<|List.replicate (Int.toNat a2) (0:Int))) else none else some<|.inr Ac
def AWr (fuel:Nat) (a1 a2:Int):Option LiI:=
 if 0<=a1/\a1<=100000000 then (iter (λs=>Aex fuel a1 a2 s.1 s.2) fuel (0,List.replicate (Int.toNat a1) ([]:List Int))).bind (λ(Ac:LiI)=>some Ac) else none
theorem Aa1 {r:LiI} (hp:AWr fuel a1 a2=some r):ATz Tryz.prog 115 #[(.int .i64 a1),(.int .i64 a2)] h (λx h'=>Ext h h'/\ ∃ (x0:Value) (F0:List Nat) (Ak:List LnA) (Am:List Value),x=x0/\AV8 cZ 146 129 h' F0 Ak Am x0 r/\Sp h' h.size [F0]):=by
 unfold AWr at hp;refine cwf (l:=[_,_]) Tryz.func115 rfl rfl (AGq<|AT2<|AGm ?_);obtain ⟨Ao,Ap⟩:=ifN hp;refine Ak0 cZ 129 AUy Azg rfl trivial tt2 rfl rfl AGn Ao λAq Ar Au v9 h7 I8 E5 S6=>AGx<|AGs<|AGq<|AGm ?_;have Ad:=(Kst.k0 h).no2 E5 S6 I8;refine AT3 AUy rfl (Ad.o2 p0).rd (AGm<|AGu<|AGt<|AXv 1046592 (λx:(Int) × (LiI) × LnA × LnN × LvA=>(x.1,x.2.1)) ((0,(List.replicate (Int.toNat a1) ([]:List Int)),Aq,Ar,Au):(Int) × (LiI) × LnA × LnN × LvA) Ap (λx=>[(11,(.int .i64 x.1))]) (λx=>Ad.L.set 0<|aO2 cZ 146 129 x.2.2.1 x.2.2.2.1 x.2.2.2.2 v9 x.2.1) Ad ⟨rfl,trivial⟩ ?_);rintro ⟨Bg,Bh,Bi,Bj,Bl⟩ Bm Bn Bo Ab Ae Az;unfold Aex at Ae;refine AGq<|ATp rfl rfl (AGu<|AGs<|⟨_,rfl,λAf=>?_,λAf=>?_⟩)
 ·refine AG0<|q_t<|AGs<|AGt<|AGq<|AGm<|AGx<|AS8<|AGm<|AGm<|AGm ?_;obtain ⟨A3,A4⟩:=ifN<|AT4 Ae Af;refine A1b AWc AYd rfl trivial tt2 rfl rfl AGn A3 λBp Bq Br A5 A6 A7 A8=>?_;have Aa:=Ab.no A6 (AYh A7 A8) A5;obtain ⟨Bt,Aj,A9⟩:=AGr A4;refine AVv AUy rfl (Aa.o2 p1) rfl Aj λBu Bv Ba Bw Bx=>Akz AW5 (Aa.o2 p1) Aj Ba rfl rfl (Aa.o p0) (Aa.dj p0 p1 AGn) λBy Bb Bc Be=>ATu<|q_b<|q_t<|AS8<|ATn rfl rfl (AGm<|AGu ?_);exact ⟨(_,_,_,_,_),(AGo A9).symm,(Aa.m2 p0 p1 AGn Bc Bb λz hz=> .inl<|Be z hz).sel [1] AGn,rfl,trivial⟩
 ·refine ATh<|ATi<|ATi<|AUf<|q_t<|AGq<|AGm<|AGx<|AG1 ?_;obtain rfl:=AGo<|Az _ (AGo<|AT5 Ae Af).symm;exact ⟨_,AS5,Ab.x,_,_,_,_,rfl,(Ab.o2 p0),Ab.s.sel [0] AGn⟩
def Abo (fuel:Nat) (a3:LiI) (Ab:Int) (Af:LiA) (Aa:Int) (Ac:LiI):Option ((Int × LiI) ⊕ LiI):=
 if Aa < (Af.length:Int) then (gI Ac Ab).bind λAd=>(gI a3 Ab).bind λAg=>(gI Ag Aa).bind λAh=>(Aen fuel Ah).bind λAi=>(gI Ad Aa).bind λAj=>some (.inl (w64<|Aa + 1,sI Ac Ab<|sI Ad Aa Ai)) else some<|.inr Ac
def Abp (fuel:Nat) (a3:LiI) (Aa:Int) (Ac:LiI):Option ((Int × LiI) ⊕ LiI):=
 if Aa < (a3.length:Int) then (gI a3 Aa).bind λAd=>(iter (λs=>Abo fuel a3 Aa Ad s.1 s.2) fuel (0,Ac)).bind (λ(Ae:LiI)=>some<|.inl (w64<|Aa + 1,Ae)) else some<|.inr Ac
def Abq (fuel:Nat) (a3:LiI) (Ab:Int):Option (Int ⊕ ((LiI × Bool) ⊕ Unit)):=
 if Ab < (a3.length:Int) then (gI a3 Ab).bind λAc=>if (Ac.length:Int) < 1 then some (.inr<|.inl ([],false)) else if 16 < (Ac.length:Int) then some (.inr<|.inl ([],false)) else (gI a3 0).bind λAd=>if ¬ (Ac.length:Int)=(Ad.length:Int) then some (.inr<|.inl ([],false)) else some (.inl<|w64<|Ab + 1) else some<|.inr<|.inr ()
def AVf (fuel:Nat) (a3:LiI):Option (LiI × Bool):=
 ((if (a3.length:Int) < 1 then some (.inl ([],false)) else if 16 < (a3.length:Int) then some (.inl ([],false)) else some<|.inr ()):Option ((LiI × Bool) ⊕ Unit)).bind (λex=>match ex with | .inl Ab=>(some Ab) | .inr _=>(iter (λs=>Abq fuel a3 s) fuel 0).bind (λex=>match ex with | .inl Ac=>(some Ac) | .inr _=>(gI a3 0).bind λAd=>(AWr fuel (a3.length:Int) (Ad.length:Int)).bind λAe=>(iter (λs=>Abp fuel a3 s.1 s.2) fuel (0,Ae)).bind (λ(Af:LiI)=>some (Af,true))))
theorem Agl {Ba:Value} {a3:LiI} {r:(LiI × Bool)} (H2:AV4 (cI .i64) h Ba a3) (hp:AVf fuel a3=some r):ATz Tryz.prog 60 #[Ba] h (λx h'=>Ext h h'/\ ∃ (x0:Value) (F0:List Nat) (Bq:List LnA) (Br:List Value),x= .tuple #[x0,.bool r.2]/\AV8 cZ 146 129 h' F0 Bq Br x0 r.1/\Sp h' h.size [F0]):=by
 unfold AVf at hp;refine cwf (l:=[_]) Tryz.func60 rfl rfl (AGq<|ATs<|AGx ?_);have K0:=Kst.k0 h;obtain ⟨Bt,Be,Ao⟩:=AGr hp;refine Aer 130572 (λx:Unit=>[]) (λx h'=>(Sum.inr <| ())=Bt/\Kst h h' (K0.L)) ?_ ?_
 ·refine AGq<|AGm<|AT3 ATb rfl H2 (ATp rfl rfl (AGm ?_));by_cases Ag:(a3.length:Int) < 1
  ·rw [decide_eq_true Ag];refine AWi 12 true<|ATf rfl (AGu<|ATx rfl (AGq<|ATs<|AGx ?_));obtain rfl:=AGo<|ifT Be Ag;refine AG1<|ATd ?_;have Ap:=Kst.anil2 cZ 146 129 K0;obtain rfl:=AGo Ao;exact ⟨_,AUp,Ap.x,_,_,_,_,rfl,(Ap.o2 p0),Ap.s.sel [0] AGn⟩
  ·have Bf:=ifF Be Ag;rw [decide_eq_false Ag];refine ATc 12 false<|AGm<|ATc 12 false<|AT3 ATb rfl H2 (ATc 12 false<|AXr rfl rfl (AS6 rfl (AGu<|⟨_,rfl,λAq=>?_,λAq=>?_⟩)))
   ·refine AGq<|ATs<|AGx ?_;obtain rfl:=AGo<|AT4 Bf Aq;refine AG1<|ATd ?_;have Ar:=Kst.anil2 cZ 146 129 K0;obtain rfl:=AGo Ao;exact ⟨_,AUp,Ar.x,_,_,_,_,rfl,(Ar.o2 p0),Ar.s.sel [0] AGn⟩
   ·refine AG0<|q_t ?_;exact ⟨(():Unit),⟨AGo<|AT5 Bf Aq,K0⟩,trivial⟩
 rintro ⟨⟩ C3 C4 ⟨Bu,Bg⟩;subst Bu;refine AGs<|AGq<|AGm<|AT3 ATb rfl H2 (AGm<|AGu<|AGt<|AYr 2199022731308 Ao (λx=>[(19,(.int .i64 x))]) (λx=>Bg.L) Bg ⟨rfl,trivial⟩ ?_);rintro C5 C6 C7 C8 Ab Au Ah;unfold Abq at Au;refine AGq<|ATp rfl rfl (AGu<|AGs<|⟨_,rfl,λAv=>?_,λAv=>?_⟩)
 ·refine AG0<|q_t<|AGs<|AGt<|AGq ?_;obtain ⟨Bh,Bv,Bi⟩:=AGr<|AT4 Au Av;refine AZ1 ATb ATq H2 Ab.x Bv λ_ C9 Aw=>AT2<|AGm<|AUl ATa rfl Aw (ATp rfl rfl (AGm ?_));by_cases Ai:(Bh.length:Int) < 1
  ·rw [decide_eq_true Ai];refine AWi 26 true<|ATf rfl (AGm<|AY2 31 true<|Adc 31 true<|ATf rfl (AGu<|ATx rfl (AGq<|ATs<|AGx<|AG1<|AUg<|ATd<|ATd<|AUg<|ATd ?_)));have Ax:=Kst.anil2 cZ 146 129 Ab;obtain rfl:=AGo<|Ah _ (AGo<|ifT Bi Ai).symm;exact ⟨_,AUp,Ax.x,_,_,_,_,rfl,(Ax.o2 p0),Ax.s.sel [0] AGn⟩
  ·have Bj:=ifF Bi Ai;rw [decide_eq_false Ai];refine ATc 26 false<|AGm<|ATc 26 false<|AUl ATa rfl Aw (ATc 26 false<|AXr rfl rfl (AS6 rfl (AGm ?_)));by_cases Aj:16 < (Bh.length:Int)
   ·rw [decide_eq_true Aj];refine AY2 31 true<|Adc 31 true<|ATf rfl (AGu<|ATx rfl (AGq<|ATs<|AGx<|AG1<|AUg<|ATd<|ATd<|AUg<|ATd ?_));have Ay:=Kst.anil2 cZ 146 129 Ab;obtain rfl:=AGo<|Ah _ (AGo<|ifT Bj Aj).symm;exact ⟨_,AUp,Ay.x,_,_,_,_,rfl,(Ay.o2 p0),Ay.s.sel [0] AGn⟩
   ·rw [decide_eq_false Aj];refine ATc 31 false<|AGm<|ATc 31 false<|AUl ATa rfl Aw (ATc 31 false<|AGm<|ATc 31 false ?_);obtain ⟨Da,Bw,Bl⟩:=AGr<|ifF Bj Aj;refine Alx ATb rfl H2 rfl Bw λDb Dc Dd Bx By=>ATc 31 false<|AT6 ATq rfl (ATw Bx Ab.x) (ATc 31 false<|AUl ATa rfl By (ATc 31 false<|AVz rfl rfl (AS6 rfl (AGu<|⟨_,rfl,λAz=>?_,λAz=>?_⟩))))
    ·refine AGq<|ATs<|AGx<|AG1<|AUg<|ATd<|ATd<|AUg<|ATd ?_;have A3:=Kst.anil2 cZ 146 129 Ab;obtain rfl:=AGo<|Ah _ (AGo<|AT4 Bl Az).symm;exact ⟨_,AUp,A3.x,_,_,_,_,rfl,(A3.o2 p0),A3.s.sel [0] AGn⟩
    ·refine AG0<|q_b<|q_t<|AS8<|ATn rfl rfl (AGm<|AGu ?_);exact ⟨_,(AGo<|AT5 Bl Az).symm,Ab,rfl,trivial⟩
 ·refine ATh<|ATi<|ATi<|AUf<|q_t<|AGq<|AGm<|AT3 ATb rfl H2 (AGm ?_);obtain ⟨De,Bz,B1⟩:=AGr<|Ah _ (AGo<|AT5 Au Av).symm;refine AZ1 ATb ATq H2 Ab.x Bz λ_ Df B3=>AUl ATa rfl B3 ?_;obtain ⟨B4,B5,B6⟩:=AGr B1;refine Agx Ab (Aa1 B5) λB7 B8 B9 Bm Dg Dh Bn=>AGx<|AGs<|AGq<|AGm<|AT3 ATb rfl H2 (AGm<|AGu<|AGt<|AXv 151115726325928739996032 (λx:(Int) × (LiI) × LnA × LnN × LvA=>(x.1,x.2.1)) ((0,B4,B7,B8,B9):(Int) × (LiI) × LnA × LnN × LvA) B6 (λx=>[(50,(.int .i64 x.1))]) (λx=>Bn.L.set 0<|aO2 cZ 146 129 x.2.2.1 x.2.2.2.1 x.2.2.2.2 Bm x.2.1) Bn ⟨rfl,trivial⟩ ?_);rintro ⟨Bo,Ca,Cb,Cd,Ce⟩ Di Dj Dk Ac A4 Cf;unfold Abp at A4;refine AGq<|ATp rfl rfl (AGu<|AGs<|⟨_,rfl,λA5=>?_,λA5=>?_⟩)
  ·refine AG0<|q_t<|AGs<|AGt<|AGq<|AGm<|AT2<|AGm<|AGm ?_;obtain ⟨Dl,Cg,Ch⟩:=AGr<|AT4 A4 A5;refine AZ1 ATb ATq H2 Ac.x Cg λ_ Do Ci=>AUl ATa rfl Ci (AGm<|AGu<|AGt<|AXv 75557575495538171707648 (λx:(Int) × (LiI) × LnA × LnN × LvA=>(x.1,x.2.1)) ((0,Ca,Cb,Cd,Ce):(Int) × (LiI) × LnA × LnN × LvA) Ch (λx=>[(58,(.int .i64 x.1))]) (λx=>Ac.L.set 0<|aO2 cZ 146 129 x.2.2.1 x.2.2.2.1 x.2.2.2.2 Bm x.2.1) Ac ⟨rfl,trivial⟩ ?_);rintro ⟨Dp,Dq,Dr,Ds,Dt⟩ Du A6 Dv Ad A7 Cj;unfold Abo at A7;refine AGq<|ATp rfl rfl (AGu<|AGs<|⟨_,rfl,λA8=>?_,λA8=>?_⟩)
   ·refine AG0<|q_t<|AGs<|AGt<|AGq<|AGm<|AGx<|AVn (λh'=>UpT [] A6 h') AG2 ?_;have Ak:UpT [] A6 A6:=UpT.start all_nil;refine AGm<|AGm ?_;obtain ⟨Dw,A9,Ck⟩:=AGr<|AT4 A7 A8;refine AVv AUy rfl (Ad.o2 p0) rfl A9 λDx Dy Dz Cm Cn=>AVg AW5 rfl Ak (λh' hb=>ATw Cn hb.ext) (AGm<|AGm<|AGm ?_);obtain ⟨D0,Co,Cp⟩:=AGr Ck;refine Alx ATb rfl H2 rfl Co λD1 D2 D3 Cq Cr=>AVg ATq rfl Ak (λh' hb=>ATw Cq<|Ad.x.trans hb.ext) (AGm ?_);obtain ⟨D4,Ct,Cu⟩:=AGr Cp;refine Adg (c:=(cI .i64)) ATa rfl Cr rfl Ct λD5 D6 D7 Cv Cw=>?_;obtain rfl:=Cv;refine AVg ATg rfl Ak (λh' hb=>ATw (Cw 0 _ rfl)<|Ad.x.trans hb.ext) ?_;obtain ⟨D8,Cx,Cy⟩:=AGr Cu;refine AYq Ad Ak (Ad0 Cx) λD9 Ea Eb Ae Ec=>?_;obtain ⟨Ed,Bp,Cz⟩:=AGr Cy;refine AXj (m:=Bo) AWc rfl (Ad.o2 p0) Cm A9 rfl Bp λEe C0=>Afl (m:=Bo) (Aly AUm (cZ.klen<|Ae.z p0) rfl rfl (cZ.one<|Ae.z p0)) (Ae.o2 p1) C0 A9 Bp (Ae.z p0) λEf C1 C2=>ATu<|q_b<|q_t<|AS8<|ATn rfl rfl (AGm<|AGu ?_);exact ⟨(_,_,_,_,_),(AGo Cz).symm,(Ae.uO2 p1 C2 C1).sel [1] AGn,rfl,trivial⟩
   ·refine ATh<|ATi<|ATi<|AUf<|q_b<|q_t<|AS8<|ATn rfl rfl (AGm<|AGu ?_);exact ⟨(_,_,_,_,_),(AGo<|Cj _ (AGo<|AT5 A7 A8).symm).symm,Ad,rfl,trivial⟩
  ·refine ATh<|ATi<|ATi<|AUf<|q_t<|AGq<|AGm<|ATs<|AGx<|AG1 ?_;obtain rfl:=AGo<|Cf _ (AGo<|AT5 A4 A5).symm;exact ⟨_,AUp,Ac.x,_,_,_,_,rfl,(Ac.o2 p0),Ac.s.sel [0] AGn⟩
def AWw (fuel:Nat) (a3:LiI):Option LiI:=
 (AVf fuel a3).bind λ(x5,x6)=>some x5
theorem Ac3 {a3 r:LiI} (H2:AV4 (cI .i64) h Ab a3) (hp:AWw fuel a3=some r):ATz Tryz.prog 30 #[Ab] h (λx h'=>Ext h h'/\ ∃ (x0:Value) (F0:List Nat) (Ai:List LnA) (Aj:List Value),x=x0/\AV8 cZ 146 129 h' F0 Ai Aj x0 r/\Sp h' h.size [F0]):=by
 unfold AWw at hp;refine cwf (l:=[_]) Tryz.func30 rfl rfl (AGq<|AT2<|AGm ?_);have K0:=Kst.k0 h;obtain ⟨⟨x5,x6⟩,Ak,Ag⟩:=AGr hp;dsimp only at Ag;refine Agw rfl (Agl (H2.ext K0.x) Ak) λAv Aw E9 Ao=>?_;obtain ⟨Ax,Ay,Az,A3,rfl,Ap,Aq⟩:=Ao;refine AGm<|AUk rfl rfl (AUk rfl rfl (ATs<|AT2<|AGm<|AGx<|AG1 ?_));have Aa:=K0.no2 E9 Aq Ap;obtain rfl:=AGo Ag;exact ⟨_,AS5,Aa.x,_,_,_,_,rfl,(Aa.o2 p0),Aa.s.sel [0] AGn⟩
def AYs (fuel:Nat) (a3:LiI) (Ab:Int):Option (Int ⊕ ((Int × Int × Bool) ⊕ Unit)):=
 if Ab < (a3.length:Int) then (gI a3 Ab).bind λAc=>if (Ac.length:Int) < 1 then some (.inr<|.inl (0,0,false)) else if 16 < (Ac.length:Int) then some (.inr<|.inl (0,0,false)) else (gI a3 0).bind λAd=>if ¬ (Ac.length:Int)=(Ad.length:Int) then some (.inr<|.inl (0,0,false)) else some (.inl<|w64<|Ab + 1) else some<|.inr<|.inr ()
def AU8 (fuel:Nat) (a3:LiI):Option (Int × Int × Bool):=
 ((if (a3.length:Int) < 1 then some (.inl (0,0,false)) else if 16 < (a3.length:Int) then some (.inl (0,0,false)) else some<|.inr ()):Option ((Int × Int × Bool) ⊕ Unit)).bind (λex=>match ex with | .inl Ab=>(some Ab) | .inr _=>(iter (λs=>AYs fuel a3 s) fuel 0).bind (λex=>match ex with | .inl Ac=>(some Ac) | .inr _=>(gI a3 0).bind λAd=>some ((a3.length:Int),(Ad.length:Int),true)))
theorem Aao {a3:LiI} {r:(Int × Int × Bool)} (H2:AV4 cZ h Aq a3) (hp:AU8 fuel a3=some r):ATz Tryz.prog 131 #[Aq] h (λx h'=>Ext h h'/\x= .tuple #[.int .i64 r.1,.int .i64 r.2.1,.bool r.2.2]):=by
 unfold AU8 at hp;refine cwf (l:=[_]) Tryz.func131 rfl rfl (AGq<|ATs<|ATs<|AGx ?_);have K0:=Kst.k0 h;obtain ⟨A3,Ar,Ai⟩:=AGr hp;refine Aer 32668 (λx:Unit=>[]) (λx h'=>(Sum.inr <| ())=A3/\Kst h h' (K0.L)) ?_ ?_
 ·refine AGq<|AGm<|AT3 AUy rfl H2 (ATp rfl rfl (AGm ?_));by_cases Ad:(a3.length:Int) < 1
  ·rw [decide_eq_true Ad];refine AWi 10 true<|ATf rfl (AGu<|ATx rfl (AGq<|ATs<|ATs<|AGx ?_));obtain rfl:=AGo<|ifT Ar Ad;refine AG1<|ATd ?_;obtain rfl:=AGo Ai;exact ⟨_,Adh,K0.x,rfl⟩
  ·have Au:=ifF Ar Ad;rw [decide_eq_false Ad];refine ATc 10 false<|AGm<|ATc 10 false<|AT3 AUy rfl H2 (ATc 10 false<|AXr rfl rfl (AS6 rfl (AGu<|⟨_,rfl,λAj=>?_,λAj=>?_⟩)))
   ·refine AGq<|ATs<|ATs<|AGx ?_;obtain rfl:=AGo<|AT4 Au Aj;refine AG1<|ATd ?_;obtain rfl:=AGo Ai;exact ⟨_,Adh,K0.x,rfl⟩
   ·refine AG0<|q_t ?_;exact ⟨(():Unit),⟨AGo<|AT5 Au Aj,K0⟩,trivial⟩
 rintro ⟨⟩ Bc Be ⟨A4,Av⟩;subst A4;refine AGs<|AGq<|AGm<|AT3 AUy rfl H2 (AGm<|AGu<|AGt<|AYr 549755682908 Ai (λx=>[(17,(.int .i64 x))]) (λx=>Av.L) Av ⟨rfl,trivial⟩ ?_);rintro Bf Bg Bh Bi Aa Ak Ae;unfold AYs at Ak;refine AGq<|ATp rfl rfl (AGu<|AGs<|⟨_,rfl,λAm=>?_,λAm=>?_⟩)
 ·refine AG0<|q_t<|AGs<|AGt<|AGq ?_;obtain ⟨Aw,A5,Ax⟩:=AGr<|AT4 Ak Am;refine AZ1 AUy AW5 H2 Aa.x A5 λ_ Bj Ao=>AT2<|AGm<|AUl AWc rfl Ao (ATp rfl rfl (AGm ?_));by_cases Af:(Aw.length:Int) < 1
  ·rw [decide_eq_true Af];refine AWi 24 true<|ATf rfl (AGm<|AY2 29 true<|Adc 29 true<|ATf rfl (AGu<|ATx rfl (AGq<|ATs<|ATs<|AGx<|AG1<|AUg<|ATd<|ATd<|AUg<|ATd ?_)));obtain rfl:=AGo<|Ae _ (AGo<|ifT Ax Af).symm;exact ⟨_,Adh,Aa.x,rfl⟩
  ·have Ay:=ifF Ax Af;rw [decide_eq_false Af];refine ATc 24 false<|AGm<|ATc 24 false<|AUl AWc rfl Ao (ATc 24 false<|AXr rfl rfl (AS6 rfl (AGm ?_)));by_cases Ag:16 < (Aw.length:Int)
   ·rw [decide_eq_true Ag];refine AY2 29 true<|Adc 29 true<|ATf rfl (AGu<|ATx rfl (AGq<|ATs<|ATs<|AGx<|AG1<|AUg<|ATd<|ATd<|AUg<|ATd ?_));obtain rfl:=AGo<|Ae _ (AGo<|ifT Ay Ag).symm;exact ⟨_,Adh,Aa.x,rfl⟩
   ·rw [decide_eq_false Ag];refine ATc 29 false<|AGm<|ATc 29 false<|AUl AWc rfl Ao (ATc 29 false<|AGm<|ATc 29 false ?_);obtain ⟨Bl,A6,Az⟩:=AGr<|ifF Ay Ag;refine Alx AUy rfl H2 rfl A6 λBm Bn Bo A7 A8=>ATc 29 false<|AT6 AW5 rfl (ATw A7 Aa.x) (ATc 29 false<|AUl AWc rfl A8 (ATc 29 false<|AVz rfl rfl (AS6 rfl (AGu<|⟨_,rfl,λAp=>?_,λAp=>?_⟩))))
    ·refine AGq<|ATs<|ATs<|AGx<|AG1<|AUg<|ATd<|ATd<|AUg<|ATd ?_;obtain rfl:=AGo<|Ae _ (AGo<|AT4 Az Ap).symm;exact ⟨_,Adh,Aa.x,rfl⟩
    ·refine AG0<|q_b<|q_t<|AS8<|ATn rfl rfl (AGm<|AGu ?_);exact ⟨_,(AGo<|AT5 Az Ap).symm,Aa,rfl,trivial⟩
 ·refine ATh<|ATi<|ATi<|AUf<|q_t<|AGs<|AXi<|AGm<|AT3 AUy rfl H2 (AGm ?_);obtain ⟨Bp,A9,Ba⟩:=AGr<|Ae _ (AGo<|AT5 Ak Am).symm;refine AZ1 AUy AW5 H2 Aa.x A9 λ_ Bq Bb=>AUl AWc rfl Bb (ATs<|ATs<|AGx<|AG1 ?_);obtain rfl:=AGo Ba;exact ⟨_,Adh,Aa.x,rfl⟩
def AWx (fuel:Nat) (a3:LiI):Option (Int × Bool):=
 (AU8 fuel a3).bind λ(x5,x6,x7)=>if (!x7)=true then some (0,false) else if ¬ x5=x6 then some (0,false) else some (x5,true)
theorem Ahj {a3:LiI} {r:(Int × Bool)} (H2:AV4 cZ h Ad a3) (hp:AWx fuel a3=some r):ATz Tryz.prog 117 #[Ad] h (λx h'=>Ext h h'/\x= .tuple #[.int .i64 r.1,.bool r.2]):=by
 unfold AWx at hp;refine cwf (l:=[_]) Tryz.func117 rfl rfl (AGq<|ATs<|AT2<|AGm ?_);have K0:=Kst.k0 h;obtain ⟨⟨x5,x6,x7⟩,Ak,Aa⟩:=AGr hp;dsimp only at Aa;refine AVs K0 (Aao (H2.ext K0.x) Ak) λAp Aq Ab=>AGm<|AUk rfl rfl (AUk rfl rfl (AUk rfl rfl (ATs<|ATs<|AGx<|AGs<|AGq<|AGm<|AV5 rfl (AGm ?_))));cases Ag:(!x7)
 ·refine ATc 15 false<|AGm<|ATc 15 false<|AGm<|ATc 15 false<|AVz rfl rfl (AS6 rfl (AGu ?_));have Ah:=AY5 Aa Ag;refine ⟨_,rfl,λAc=>?_,λAc=>?_⟩
  ·refine AGq<|ATs<|AGx<|AG1<|ATd ?_;obtain rfl:=AGo<|AT4 Ah Ac;exact ⟨_,AUp,Ab.x,rfl⟩
  ·refine AG0<|q_t<|AGq<|AGm<|ATs<|AGx<|AG1 ?_;obtain rfl:=AGo<|AT5 Ah Ac;exact ⟨_,AUp,Ab.x,rfl⟩
 ·refine AWi 15 true<|ATf rfl (AGu<|ATx rfl (AGq<|ATs<|AGx<|AG1<|ATd ?_));obtain rfl:=AGo<|ifT Aa Ag;exact ⟨_,AUp,Ab.x,rfl⟩
def Aey (fuel:Nat) (Ac:Int) (Ad:LiA) (Aa:Int) (Ab:LiI):Option ((Int × LiI) ⊕ LiI):=
 if Aa < (Ad.length:Int) then (gI Ad Aa).bind λAf=>(gI Ab Ac).bind λAe=>(Al0 fuel Af).bind λAg=>if Ae.length<=100000000 then some (.inl (w64<|Aa + 1,sI Ab Ac<|Ae ++ [Ag])) else none else some<|.inr Ab
def Aez (fuel:Nat) (a3:LiI) (Aa:Int) (Ac:LiI):Option ((Int × LiI) ⊕ LiI):=
 if Aa < (a3.length:Int) then (gI a3 Aa).bind λAd=>(iter (λs=>Aey fuel Aa Ad s.1 s.2) fuel (0,Ac)).bind (λ(Ae:LiI)=>some<|.inl (w64<|Aa + 1,Ae)) else some<|.inr Ac
def AY7 (fuel:Nat) (a3:LiI):Option LiI:=
 if 0<=(a3.length:Int)/\(a3.length:Int)<=100000000 then (iter (λs=>Aez fuel a3 s.1 s.2) fuel (0,List.replicate (Int.toNat (a3.length:Int)) ([]:List Int))).bind (λ(Ab:LiI)=>some Ab) else none
theorem Aic {a3 r:LiI} (H2:AV4 cZ h Aq a3) (hp:AY7 fuel a3=some r):ATz Tryz.prog 66 #[Aq] h (λx h'=>Ext h h'/\ ∃ (x0:Value) (F0:List Nat) (A4:List LnA) (A5:List Value),x=x0/\AV8 cZ 146 129 h' F0 A4 A5 x0 r/\Sp h' h.size [F0]):=by
 unfold AY7 at hp;refine cwf (l:=[_]) Tryz.func66 rfl rfl (AGq<|AT2<|AGm<|AT3 AUy rfl H2 ?_);obtain ⟨A6,A7⟩:=ifN hp;refine Ak0 cZ 129 AUy Azg rfl trivial tt2 rfl rfl AGn A6 λA8 A9 Ba v11 h9 Bb E7 S8=>AGx<|AGs<|AGq<|AGm<|AT3 AUy rfl H2 (AGm<|AGu<|AGt ?_);have Av:=(Kst.k0 h).no2 E7 S8 Bb;refine AXv 137438949456 (λx:(Int) × (LiI) × LnA × LnN × LvA=>(x.1,x.2.1)) ((0,(List.replicate (Int.toNat (a3.length:Int)) ([]:List Int)),A8,A9,Ba):(Int) × (LiI) × LnA × LnN × LvA) A7 (λx=>[(12,(.int .i64 x.1))]) (λx=>Av.L.set 0<|aO2 cZ 146 129 x.2.2.1 x.2.2.2.1 x.2.2.2.2 v11 x.2.1) Av ⟨rfl,trivial⟩ ?_;rintro ⟨Cg,Bf,Bg,Bh,Bi⟩ Ch Ci Cj Ab Ah Bj;unfold Aez at Ah;refine AGq<|ATp rfl rfl (AGu<|AGs<|⟨_,rfl,λAi=>?_,λAi=>?_⟩)
 ·refine AG0<|q_t<|AGs<|AGt<|AGq<|AGm<|AT2<|AGm<|AGm ?_;obtain ⟨Ck,Bl,Bm⟩:=AGr<|AT4 Ah Ai;refine AZ1 AUy AW5 H2 Ab.x Bl λ_ Cm Aw=>AUl AWc rfl Aw (AGm<|AGu<|AGt<|AXv 68718428224 (λx:(Int) × (LiI) × LnA × LnN × LvA=>(x.1,x.2.1)) ((0,Bf,Bg,Bh,Bi):(Int) × (LiI) × LnA × LnN × LvA) Bm (λx=>[(20,(.int .i64 x.1))]) (λx=>Ab.L.set 0<|aO2 cZ 146 129 x.2.2.1 x.2.2.2.1 x.2.2.2.2 v11 x.2.1) Ab ⟨rfl,trivial⟩ ?_);rintro ⟨Cn,Co,Cp,Cq,Cr⟩ Ct Cu Cv Ad Aj Bn;unfold Aey at Aj;refine AGq<|ATp rfl rfl (AGu<|AGs<|⟨_,rfl,λAk=>?_,λAk=>?_⟩)
  ·refine AG0<|q_t<|AGs<|AGt<|AGq ?_;obtain ⟨Cw,Bo,Bp⟩:=AGr<|AT4 Aj Ak;refine Adg (c:=cZ) AWc rfl Aw rfl Bo λCx Cy Bq Ae Br=>Agu (c:=cZ) AUm rfl (Ad.zx Ae) (λj u hu=>(ATw (Br j u hu) Ad.x)) (AV6 Ad [.bool false,.slice none 0 0] AYd λCz Bt C0 Ax=>AZf Ax p0 (ATk Bt) (Ax.zx Ae) λAm Aa=>AGu ?_);obtain ⟨C1,Ao,Bu⟩:=AGr Bp;obtain ⟨Ay,Bv,Bw,Bx,By⟩:=(Aa.o2 p1).rowG Ao;refine AVn (λh'=>UpT (Ay ++ []) Am h') AG2 ?_;have Ac:UpT (Ay ++ []) Am Am:=UpT.start<|AV9 Bx all_nil;refine AGm<|AGm<|AGm<|AGm<|AVv AUy rfl (Aa.o2 p1) rfl Ao λC2 C3 Bz B1 B3=>AVg AW5 rfl Ac (λh' hb=>Agd B3 hb<|Amd (By _ Bz) Ame) (Acm Bq AUm (cZ.klen<|Aa.zx Ae) rfl Ac (λh' hb=>((Aa.b p0).upT hb (A7a (λb hb hg=>(Aa.dj p0 p1 AGn) b hb (Bw b hg)) A7b)).agg) ?_);obtain ⟨C4,B4,B5⟩:=AGr Bu;refine AYj Ac (λ_ E=>Ac.thenE E) rfl (Anp (Aa.zx Ae).2 B4) λC5 C6 Az B6=>?_;obtain ⟨C7,rfl,B7⟩:=B6;have A3:=Ac.thenE Az;obtain ⟨C8,rfl,B8⟩:=B7.cs;have Ap:=(Aa.e Az).az B8;obtain ⟨B9,Ca⟩:=ifN B5;refine A4v AWc AYd rfl rfl AUy AW5 (Ap.o2 p2) B1 Ao Bv A3 (λ_ U=>A3.then U<|Ahi rfl) (λ_=>rfl) rfl (Ap.z p0) (λ_ _=>rfl) (λ_ _=>rfl) rfl AGn B9 λC9 Da Db Dc Dd De Df Cb Cd Ce=>ATu<|q_b<|q_t<|AS8<|ATn rfl rfl (AGm<|AGu ?_);exact ⟨(_,_,_,_,_),(AGo Ca).symm,(Ap.uo2 p2 Cd Cb Ce).sel [2] AGn,rfl,trivial⟩
  ·refine ATh<|ATi<|ATi<|AUf<|q_b<|q_t<|AS8<|ATn rfl rfl (AGm<|AGu ?_);exact ⟨(_,_,_,_,_),(AGo<|Bn _ (AGo<|AT5 Aj Ak).symm).symm,Ad,rfl,trivial⟩
 ·refine ATh<|ATi<|ATi<|AUf<|q_t<|AGq<|AGm<|AGx<|AG1 ?_;obtain rfl:=AGo<|Bj _ (AGo<|AT5 Ah Ai).symm;exact ⟨_,AS5,Ab.x,_,_,_,_,rfl,(Ab.o2 p0),Ab.s.sel [0] AGn⟩
def Adl (fuel:Nat) (a3:LiI) (Ac:LiA) (Ae:Int) (Aa:LiA) (Ab:Int):Option ((LiA × Int) ⊕ LiA):=
 if Ab < (Ac.length:Int) then (gI Ac Ab).bind λAf=>(gI a3 Ae).bind λAg=>(gI Ag Af).bind λAh=>if Aa.length<=100000000 then some (.inl (Aa ++ [Ah],w64<|Ab + 1)) else none else some<|.inr Aa
def Adm (fuel:Nat) (a3:LiI) (a7 Ae:LiA) (Aa:LiI) (Ab:Int):Option ((LiI × Int) ⊕ LiI):=
 if Ab < (a7.length:Int) then (gI a7 Ab).bind λAf=>(iter (λs=>Adl fuel a3 Ae Af s.1 s.2) fuel ([],0)).bind (λ(Ag:LiA)=>if Aa.length<=100000000 then some (.inl (Aa ++ [Ag],w64<|Ab + 1)) else none) else some<|.inr Aa
def AXy (fuel:Nat) (a3:LiI) (a7 Ac:LiA):Option LiI:=
 (iter (λs=>Adm fuel a3 a7 Ac s.1 s.2) fuel ([],0)).bind (λ(Ad:LiI)=>some Ad)
theorem Ahk {Ag:Value} {a3:LiI} {a7:LiA} {Am:LiA} {r:LiI} (H2:AV4 cZ h Ag a3) (H6:SlC (cI .i64) h Ai a7) (Ap:SlC (cI .i64) h Ak Am) (hp:AXy fuel a3 a7 Am=some r):ATz Tryz.prog 175 #[Ag,Ai,Ak] h (λx h'=>Ext h h'/\ ∃ (x0:Value) (F0:List Nat) (Ay:List LnA) (Az:List Value),x=x0/\AV8 cZ 146 129 h' F0 Ay Az x0 r/\Sp h' h.size [F0]):=by
 unfold AXy at hp;refine cwf (l:=[_,_,_]) Tryz.func175 rfl rfl (AGq<|AT2<|AGx<|AGs<|AGq<|AGm<|AUl Ap6 rfl H6 (AGm<|AGu<|AGt ?_));have Au:=Kst.anil2 cZ 146 129<|Kst.k0 h;refine AXv 2199023228544 (λx:(LiI) × (Value) × LnA × LnN × LvA × (Int)=>(x.1,x.2.2.2.2.2)) (([],(.slice none 0 0),[],[],[],0):(LiI) × (Value) × LnA × LnN × LvA × (Int)) hp (λx=>[(7,x.2.1),(15,(.int .i64 x.2.2.2.2.2))]) (λx=>Au.L.set 0<|aO2 cZ 146 129 x.2.2.1 x.2.2.2.1 x.2.2.2.2.1 x.2.1 x.1) Au ⟨rfl,rfl,trivial⟩ ?_;rintro ⟨Br,Bt,Bu,Bv,Bw,Bx⟩ By Bz B1 Ab Ac A3;unfold Adm at Ac;refine AGq<|ATp rfl rfl (AGu<|AGs<|⟨_,rfl,λAd=>?_,λAd=>?_⟩)
 ·refine AG0<|q_t<|AGs<|AGt<|AGq ?_;obtain ⟨B3,A4,A5⟩:=AGr<|AT4 Ac Ad;refine Aoc Ap6 AT9 H6 Ab.x A4 λ_=>(AT2<|AGx<|AGs<|AGq<|AGm<|AUl Ap6 rfl Ap (AGm<|AGu<|AGt ?_));have Av:=Kst.anil cZ 129 Ab;refine AXv 68717384704 (λx:(LiA) × (Value) × LnA × (Int)=>(x.1,x.2.2.2)) (([],(.slice none 0 0),[],0):(LiA) × (Value) × LnA × (Int)) A5 (λx=>[(10,x.2.1),(21,(.int .i64 x.2.2.2))]) (λx=>Av.L.set 0<|aO cZ 129 x.2.2.1 x.2.1 x.1) Av ⟨rfl,rfl,trivial⟩ ?_;rintro ⟨B4,B5,B6,B7⟩ B8 B9 Ca Aa Ae A6;unfold Adl at Ae;refine AGq<|ATp rfl rfl (AGu<|AGs<|⟨_,rfl,λAf=>?_,λAf=>?_⟩)
  ·refine AG0<|q_t<|AGs<|AGt<|AGq ?_;obtain ⟨Cb,A7,A8⟩:=AGr<|AT4 Ae Af;refine Aoc Ap6 AT9 Ap Aa.x A7 λ_=>(AGx<|AS8<|AGm<|AGm<|AGm ?_);obtain ⟨Cd,A9,Ba⟩:=AGr A8;refine AZ1 AUy AW5 H2 Aa.x A9 λ_ Ce Bb=>AGm ?_;obtain ⟨Cf,Bc,Be⟩:=AGr Ba;refine Adg (c:=cZ) AWc rfl Bb rfl Bc λCg Ch Ci Aw Bf=>Agu (c:=cZ) AUm rfl (Aa.zx Aw) (λj u hu=>(ATw (Bf j u hu) Aa.x)) ?_;obtain ⟨Bg,Bh⟩:=ifN Be;refine Afm AWc AYd rfl rfl trivial tt2 (λ_=>rfl) rfl (Aa.zx Aw) (Aa.o p0) AGn Bg λCj Ck Cm Cn Bi Bj Bl=>ATs<|ATu<|q_b<|q_t<|AS8<|ATn rfl rfl (AGm<|AGu ?_);exact ⟨(_,_,_,_),(AGo Bh).symm,(Aa.uo p0 Bj Bi Bl),rfl,rfl,trivial⟩
  ·refine ATh<|ATi<|ATi<|AUf<|q_t<|AS8<|AGm<|AGm ?_;obtain ⟨Bm,Bn⟩:=ifN<|A6 _ (AGo<|AT5 Ae Af).symm;refine Aq9 AUy Azg rfl rfl trivial tt2 (λ_=>rfl) rfl (Aa.o p0) (Aa.o2 p1) (Aa.dj p0 p1 AGn) AGn Bm λCo Cp Cq Cr Bo Bp Bq=>ATs<|ATu<|q_b<|q_t<|AS8<|ATn rfl rfl (AGm<|AGu ?_);exact ⟨(_,_,_,_,_,_),(AGo Bn).symm,(Aa.m2 p0 p1 AGn Bp Bo Bq).sel [1] AGn,rfl,rfl,trivial⟩
 ·refine ATh<|ATi<|ATi<|AUf<|q_t<|AGq<|AGm<|AGx<|AG1 ?_;obtain rfl:=AGo<|A3 _ (AGo<|AT5 Ac Ad).symm;exact ⟨_,AS5,Ab.x,_,_,_,_,rfl,(Ab.o2 p0),Ab.s.sel [0] AGn⟩
def AXz (fuel:Nat) (Ab:LiI) (Ac:Int) (Ad:LiI) (Aa:Int):Option (Int ⊕ Int):=
 ((if Aa < (Ab.length:Int) then (gI Ad Aa).bind λAe=>(gI Ae Ac).bind λAf=>(Ar4 fuel Af).bind λAg=>if Ag=0 then some (.inl ()) else some (.inr ()) else some<|.inr ()):Option (Unit ⊕ Unit)).bind (λex=>match ex with | .inl _=>(some<|.inl<|w64<|Aa + 1) | .inr _=>some<|.inr Aa)
def AX0 (fuel:Nat) (Ag:LiI) (Ac Ah Ae Aa:Int) (Ab:LiI):Option ((Int × LiI) ⊕ LiI):=
 if Aa < (Ag.length:Int) then (gI Ab Ae).bind λAd=>(gI Ab Ac).bind λAf=>(gI Af Ac).bind λAi=>(gI Ad Aa).bind λAj=>(Ak7 fuel Ai Aj).bind λAk=>(gI Ad Ac).bind λAm=>(gI Af Aa).bind λAo=>(Ak7 fuel Am Ao).bind λAp=>(BC6 fuel Ak Ap).bind λAq=>(AV2 fuel Aq Ah).bind λAr=>some (.inl (w64<|Aa + 1,sI Ab Ae<|sI Ad Aa Ar)) else some<|.inr Ab
def AX1 (fuel:Nat) (Ab:LiI) (Ac Ae Aa:Int) (Ad:LiI):Option ((Int × LiI) ⊕ LiI):=
 if Aa < (Ab.length:Int) then (iter (λs=>AX0 fuel Ab Ac Ae Aa s.1 s.2) fuel (w64<|Ac + 1,Ad)).bind (λ(Af:LiI)=>some<|.inl (w64<|Aa + 1,Af)) else some<|.inr Ad
def AX2 (fuel:Nat) (Ac:LiI) (Ae:Bool) (Aa:Int) (Ab:LiI) (Af:Int):Option ((Bool × Int × LiI × Int) ⊕ (Int ⊕ (Bool × Int))):=
 if Aa < (Ac.length:Int) then (((((iter (λs=>AXz fuel Ac Aa Ab s) fuel Aa).bind (λ(Ah:Int)=>some Ah)):Option Int).bind (λ(Ad:Int)=>if Ad=(Ac.length:Int) then some (.inl 0) else ((if Aa < Ad then (gI Ab Aa).bind λAi=>(gI Ab Ad).bind λAj=>some (!Ae,sI (sI Ab Ad Ai) Aa Aj) else some (Ae,Ab)):Option (Bool × LiI)).bind (λ((Ak,Am):Bool × LiI)=>(iter (λs=>AX1 fuel Ac Aa Af s.1 s.2) fuel (w64<|Aa + 1,Am)).bind (λ(Ag:LiI)=>(gI Ag Aa).bind λAo=>(gI Ao Aa).bind λAp=>some<|.inr (Ak,Ag,Ap))))):Option (Int ⊕ (Bool × LiI × Int))).bind (λex=>match ex with | .inl Aq=>(some<|.inr<|.inl Aq) | .inr (Ar,Au,Av)=>some<|.inl (Ar,w64<|Aa + 1,Au,Av)) else some<|.inr<|.inr (Ae,Af)
def AUd (fuel:Nat) (a3:LiI):Option Int:=
 (AY7 fuel a3).bind λAa=>(Aen fuel 1).bind λAd=>(iter (λs=>AX2 fuel Aa s.1 s.2.1 s.2.2.1 s.2.2.2) fuel (false,0,Aa,Ad)).bind (λex=>match ex with | .inl Ae=>(some Ae) | .inr (Af,Ab)=>if Af=true then (Azh fuel Ab).bind λAg=>some Ag else some Ab)
theorem AVw {Bj:Value} {a3:LiI} {r:Int} (H2:AV4 cZ h Bj a3) (hp:AUd fuel a3=some r):ATz Tryz.prog 121 #[Bj] h (λx h'=>Ext h h'/\ ∃ (x0:Value),x=x0/\ZZ h' x0 r):=by
 unfold AUd at hp;refine cwf (l:=[_]) Tryz.func121 rfl rfl (AGq<|AV6 (Kst.k0 h) [.bool false,.slice none 0 0] AYd λb5 h6 E8 Bn=>Aal<|AGm ?_);obtain ⟨Bo,Cx,Cy⟩:=AGr hp;refine Agx Bn (Aic (H2.ext Bn.x) Cx) λCz C0 C1 v20 Gh Gi Bp=>AT2<|AGm<|AT3 AUy rfl (Bp.o2 p0).rd (AT2 ?_);obtain ⟨C2,C3,C4⟩:=AGr Cy;refine Ahs Bp (Ad0 C3) λC5 Gj Gk C6=>AV6 C6 [.bool false,.slice none 0 0] AYd λBq C7 Gl Br=>AZf Br p0 (ATk C7) (Br.z p1) λGm Bt=>AGx<|AGs<|AGq<|AGx<|AGt<|AXv 2658455991569831745807614120560625600 (λx:(Bool) × (Int) × (LiI) × LnA × LnN × LvA × (Int) × LvA=>(x.1,x.2.1,x.2.2.1,x.2.2.2.2.2.2.1)) ((false,0,Bo,Cz,C0,C1,C2,C5):(Bool) × (Int) × (LiI) × LnA × LnN × LvA × (Int) × LvA) C4 (λx=>[(6,(.bool x.1)),(7,(.int .i64 x.2.1))]) (λx=>((Bt.L.set 2<|aO2 cZ 146 129 x.2.2.2.1 x.2.2.2.2.1 x.2.2.2.2.2.1 v20 x.2.2.1).set 1 (aZ x.2.2.2.2.2.2.2 x.2.2.2.2.2.2.1)).set 0 (aB 129 Bq x.2.2.2.2.2.2.2)) Bt ⟨rfl,rfl,trivial⟩ ?_;rintro ⟨Bu,Ag,Bv,C8,C9,Da,Gn,Gp⟩ Gq Db Gr Ab Ax Bw;unfold AX2 at Ax;refine AGs<|AGq<|AGm<|AGm<|ATp rfl rfl (AGu<|⟨_,rfl,λAy=>?_,λAy=>?_⟩)
 ·refine AG0<|q_t ?_;obtain ⟨Dc,Dd,Bx⟩:=AGr<|AT4 Ax Ay;refine Aer 2658455991569831745807614120558593856 (λx:(Bool) × (LiI) × LnA × LnN × LvA × (Int) × LvA=>[(6,(.bool x.1))]) (λx h'=>(Sum.inr <| (x.1,x.2.1,x.2.2.2.2.2.1))=Dc/\Kst h h' (((Ab.L.set 2<|aO2 cZ 146 129 x.2.2.1 x.2.2.2.1 x.2.2.2.2.1 v20 x.2.1).set 1 (aZ x.2.2.2.2.2.2 x.2.2.2.2.2.1)).set 0 (aB 129 Bq x.2.2.2.2.2.2))) ?_ ?_
  ·refine AGt<|AGq<|AGm<|AGx ?_;obtain ⟨De,Df,By⟩:=AGr Dd;refine Aer 274873712896 (λx:(Int)=>[(8,(.int .i64 x))]) (λx h'=>( x)=De/\Kst h h' (Ab.L)) ?_ ?_
   ·refine AGt<|AYr 274873712896 Df (λx=>[(8,(.int .i64 x))]) (λx=>Ab.L) Ab ⟨rfl,trivial⟩ ?_;rintro Am Gt Gu Gv Ah Bz B1;unfold AXz at Bz;obtain ⟨Dg,B3,Az⟩:=AGr Bz;refine Aer 68715282432 (λx:Unit=>[]) (λx h'=>(Sum.inl <| ())=Dg/\Kst h h' (Ah.L)) ?_ ?_
    ·refine AGq<|AGm<|AGm<|ATp rfl rfl (AGm ?_);by_cases Ao:Am < (Bo.length:Int)
     ·rw [decide_eq_true Ao];refine ATc 25 true<|AGm<|ATc 25 true<|AGm<|ATc 25 true ?_;obtain ⟨Gw,A3,Dh⟩:=AGr<|ifT B3 Ao;refine AVv AUy rfl (Ah.o2 p2) rfl A3 λGx Gy Gz Di Dj=>ATc 25 true<|AT6 AW5 rfl Dj (ATc 25 true<|AGm<|ATc 25 true ?_);obtain ⟨G3,B4,Dk⟩:=AGr Dh;refine AXj (m:=Am) AWc rfl (Ah.o2 p2) Di A3 rfl B4 λG4 Dl=>ATc 25 true ?_;obtain ⟨G5,Do,Dp⟩:=(Ah.o2 p2).cells Dl A3 B4;have A4:=Ah.az Do;refine Agu (c:=cZ) AUm rfl (A4.z p0) (λj u hu=>(Dp j u hu)) (ATc 25 true ?_);obtain ⟨G6,Dq,B5⟩:=AGr Dk;refine AVs A4 (Are (A4.z p0).2 Dq) λG7 G8 B6=>ATc 25 true<|AU0 rfl rfl (ATf rfl (AGu<|⟨_,rfl,λA5=>?_,λA5=>?_⟩))
      ·refine AG0<|q_t ?_;exact ⟨(():Unit),⟨AGo<|AT4 B5 A5,B6.sel [1,2,3,4] AGn⟩,trivial⟩
      ·obtain rfl:=AGo<|AT5 B5 A5;refine ATh<|ATi<|ATi<|AUf<|q_t ?_;exact ⟨(Am:(Int)),⟨AGo<|B1 _ (AGo Az).symm,B6.sel [1,2,3,4] AGn⟩,rfl,trivial⟩
     ·rw [decide_eq_false Ao];refine AY2 25 false<|AWe 25 false<|AS6 rfl (AGu<|AT0 rfl ?_);obtain rfl:=AGo<|ifF B3 Ao;refine ATh<|ATi<|ATi<|AUf<|q_t ?_;exact ⟨(Am:(Int)),⟨AGo<|B1 _ (AGo Az).symm,Ah⟩,rfl,trivial⟩
    rintro ⟨⟩ G9 Hb ⟨Dr,Ds⟩;subst Dr;refine AGt<|AS8<|AGm<|ATn rfl rfl (ATs<|ATu<|q_b<|q_t ?_);exact ⟨_,(AGo Az).symm,Ds,rfl,trivial⟩
   rintro Dt Hc B7 ⟨Du,Ae⟩;subst Du;refine AGs<|AGq<|AGm<|AGm<|AU0 rfl rfl (AGu<|⟨_,rfl,λA6=>?_,λA6=>?_⟩)
   ·refine AGq<|AXa (Aiv )<|AZf Ae p3 (ATk B7) (ATk B7) λB8 B9=>AGu ?_;obtain rfl:=AGo<|AT4 By A6;refine AG1<|ATd<|AUg<|ATd<|ATd<|AUg<|ATd ?_;obtain rfl:=AGo<|Bw _ (AGo Bx).symm;exact ⟨_,AVk AUm (cZ.klen<|ATk B8) rfl (B9.b p3),B9.x,_,rfl,(ATk B8).2⟩
   ·refine AG0<|q_t ?_;obtain ⟨Dv,Ca,Dw⟩:=AGr<|AT5 By A6;refine Aer 2305838611167182912 (λx:(Bool) × (LiI) × LnA × LnN × LvA=>[(6,(.bool x.1))]) (λx h'=>( (x.1,x.2.1))=Dv/\Kst h h' (Ae.L.set 2<|aO2 cZ 146 129 x.2.2.1 x.2.2.2.1 x.2.2.2.2 v20 x.2.1)) ?_ ?_
    ·refine AGq<|AGm<|AGm<|AXr rfl rfl (AGu<|⟨_,rfl,λA7=>?_,λA7=>?_⟩)
     ·refine AGs<|AXi<|AGm<|AGm<|AGm<|AGm<|AGm<|AGm ?_;obtain ⟨Dx,Cb,Dy⟩:=AGr<|AT4 Ca A7;refine AUo AUy AW5 (Ae.o2 p2) Cb λ_ Hd Dz=>AGm<|AGm ?_;obtain ⟨D0,Cd,D1⟩:=AGr Dy;refine AUo AUy AW5 (Ae.o2 p2) Cd λ_ He D2=>Ah6 AUy AW5 (Ae.o2 p2) D2 Dz Cd Cb rfl rfl (λ_=>rfl) (λ_=>rfl) (λ_=>rfl) (λ_ _=>rfl) λHf Hg D3 D4 D5 Hh D6 D7 D8=>AGu<|AS8<|AGm<|AV5 rfl (AGx ?_);exact ⟨(((!Bu),(sI (sI Bv Dt Dx) Ag D0),D3,D4,D5):(Bool) × (LiI) × LnA × LnN × LvA),⟨AGo D1,(Ae.uo2 p2 D7 D6 D8)⟩,rfl,trivial⟩
     ·refine AG0<|q_t ?_;exact ⟨((Bu,Bv,C8,C9,Da):(Bool) × (LiI) × LnA × LnN × LvA),⟨AGo<|AT5 Ca A7,Ae⟩,rfl,trivial⟩
    rintro ⟨D9,Ea,Eb,Ec,Ed⟩ Hj Hk ⟨Ee,Ce⟩;subst Ee;refine AGs<|AGq<|AGm<|ATn rfl rfl (AGx<|AGt<|AXv 20769187434139301290749948462106112 (λx:(Int) × (LiI) × LnA × LnN × LvA=>(x.1,x.2.1)) (((w64<|Ag + 1),Ea,Eb,Ec,Ed):(Int) × (LiI) × LnA × LnN × LvA) Dw (λx=>[(9,(.int .i64 x.1))]) (λx=>Ce.L.set 2<|aO2 cZ 146 129 x.2.2.1 x.2.2.2.1 x.2.2.2.2 v20 x.2.1) Ce ⟨rfl,trivial⟩ ?_);rintro ⟨Ap,Cf,Cg,Ch,Ci⟩ Hl Hm Hn Ai A8 Ef;unfold AX1 at A8;refine AGs<|AGq<|AGm<|AGm<|ATp rfl rfl (AGu<|⟨_,rfl,λA9=>?_,λA9=>?_⟩)
    ·refine AG0<|q_t<|AGs<|AGt<|AGq<|AGm<|ATn rfl rfl (AGx<|AGt<|AXv 20769187434138129922501267905577984 (λx:(Int) × (LiI) × LnA × LnN × LvA=>(x.1,x.2.1)) (((w64<|Ag + 1),Cf,Cg,Ch,Ci):(Int) × (LiI) × LnA × LnN × LvA) (AT4 A8 A9) (λx=>[(10,(.int .i64 x.1))]) (λx=>Ai.L.set 2<|aO2 cZ 146 129 x.2.2.1 x.2.2.2.1 x.2.2.2.2 v20 x.2.1) Ai ⟨rfl,trivial⟩ ?_);rintro ⟨Ho,Hq,Hr,Hs,Ht⟩ Hu Ba Hv Aa Bb Eg;unfold AX0 at Bb;refine AGs<|AGq<|AGm<|AGm<|ATp rfl rfl (AGu<|⟨_,rfl,λBc=>?_,λBc=>?_⟩)
     ·refine AG0<|q_t<|AGs<|AGt<|AVn (λh'=>UpT [] Ba h') AG2 ?_;have Ad:UpT [] Ba Ba:=UpT.start all_nil;refine AGm<|AGm ?_;obtain ⟨Hw,Ac,Eh⟩:=AGr<|AT4 Bb Bc;refine AVv AUy rfl (Aa.o2 p2) rfl Ac λHx Hy Hz Ei Ej=>AVg AW5 rfl Ad (λh' hb=>ATw Ej hb.ext) (AGm<|AGm<|AGm ?_);obtain ⟨H5,Aj,Ek⟩:=AGr Eh;refine AVv AUy rfl (Aa.o2 p2) rfl Aj λIa Ib Ic El Em=>AVg AW5 rfl Ad (λh' hb=>ATw Em hb.ext) (AGm ?_);obtain ⟨Id,Cj,En⟩:=AGr Ek;refine AXj (m:=Ag) AWc rfl (Aa.o2 p2) El Aj rfl Cj λIe Eo=>?_;obtain ⟨If,Ck,Ep⟩:=(Aa.o2 p2).cells Eo Aj Cj;refine Amc (c:=cZ) AUm rfl Ck Ad (λh' hb j u hu=>ATw (Ep j u hu) hb.ext) (AGm<|AGm<|AVv AUy rfl (Aa.o2 p2) rfl Ac λIh Ii Ij Er Es=>AVg AW5 rfl Ad (λh' hb=>ATw Es hb.ext) (AGm ?_));obtain ⟨Ik,Aq,Et⟩:=AGr En;refine AXj (m:=Ap) AWc rfl (Aa.o2 p2) Er Ac rfl Aq λIl Eu=>?_;obtain ⟨Im,Cm,Ev⟩:=(Aa.o2 p2).cells Eu Ac Aq;refine Amc (c:=cZ) AUm rfl Cm Ad (λh' hb j u hu=>ATw (Ev j u hu) hb.ext) ?_;have Be:=(Aa.az<|cZ.upT Ck Ad).az (cZ.upT Cm Ad);obtain ⟨Io,Ew,Ey⟩:=AGr Et;refine AYq Be Ad (Aj6 (Be.z p1).2 (Be.z p0).2 Ew) λIp Iq Ir Ez Af=>AGm<|AGm<|AVv AUy rfl (Aa.o2 p2) rfl Ac λIs It Iu Fa Fb=>AVg AW5 rfl Af (λh' hb=>ATw Fb hb.ext) (AGm ?_);obtain ⟨Iv,Cn,Fc⟩:=AGr Ey;refine AXj (m:=Ap) AWc rfl (Aa.o2 p2) Fa Ac rfl Cn λIw Fd=>?_;obtain ⟨Ix,Co,Fe⟩:=(Aa.o2 p2).cells Fd Ac Cn;refine Amc (c:=cZ) AUm rfl Co Af (λh' hb j u hu=>ATw (Fe j u hu) hb.ext) (AGm<|AGm<|AVv AUy rfl (Aa.o2 p2) rfl Aj λIy Iz I0 Ff Fg=>AVg AW5 rfl Af (λh' hb=>ATw Fg hb.ext) (AGm ?_));obtain ⟨I1,Cp,Fh⟩:=AGr Fc;refine AXj (m:=Ag) AWc rfl (Aa.o2 p2) Ff Aj rfl Cp λI2 Fi=>?_;obtain ⟨I3,Cq,Fj⟩:=(Aa.o2 p2).cells Fi Aj Cp;refine Amc (c:=cZ) AUm rfl Cq Af (λh' hb j u hu=>ATw (Fj j u hu) hb.ext) ?_;have Bf:=(Ez.az<|cZ.upT Co Af).az (cZ.upT Cq Af);obtain ⟨I6,Fk,Fl⟩:=AGr Fh;refine AYq Bf Af (Aj6 (Bf.z p1).2 (Bf.z p0).2 Fk) λI7 I9 Ja Bg Fm=>?_;obtain ⟨Jc,Fo,Fp⟩:=AGr Fl;refine AYq Bg Fm (BD3 (Bg.z p3).2 (Bg.z p0).2 Fo) λJe Jf Jg Ar Cr=>Aib (Ar.z p8) Cr (Aa.b p0) ?_;obtain ⟨Jh,Fq,Fr⟩:=AGr Fp;refine AYq Ar Cr (Abn (Ar.z p0).2 (Ar.z p8).2 Fq) λJi Jj Jk Ak Jl=>AXj (m:=Ap) AWc rfl (Aa.o2 p2) Ei Ac rfl Aq λJm Ft=>Afl (m:=Ap) (Aly AUm (cZ.klen<|Ak.z p0) rfl rfl (cZ.one<|Ak.z p0)) (Ak.o2 p10) Ft Ac Aq (Ak.z p0) λJn Fu Fv=>ATu<|q_b<|q_t<|AS8<|AGm<|ATn rfl rfl (AGx ?_);exact ⟨(_,_,_,_,_),(AGo Fr).symm,(Ak.uO2 p10 Fv Fu).sel [8,9,10,11] AGn,rfl,trivial⟩
     ·refine ATh<|ATi<|ATi<|AUf<|q_b<|q_t<|AS8<|AGm<|ATn rfl rfl (AGx ?_);exact ⟨(_,_,_,_,_),(AGo<|Eg _ (AGo<|AT5 Bb Bc).symm).symm,Aa,rfl,trivial⟩
    ·refine ATh<|ATi<|ATi<|AUf<|q_t<|AS8<|AGm<|AGm ?_;obtain ⟨Jo,Bh,Fw⟩:=AGr<|Ef _ (AGo<|AT5 A8 A9).symm;refine AUo AUy AW5 (Ai.o2 p2) Bh λ_ Jp Fx=>AGm ?_;obtain ⟨Fy,Ct,Fz⟩:=AGr Fw;refine AXj (m:=Ag) AWc rfl (Ai.o2 p2) Fx Bh rfl Ct λJq F4=>?_;obtain ⟨F5,F6,F7⟩:=(Ai.o2 p2).cells F4 Bh Ct;have Au:=Ai.az F6;refine Agu (c:=cZ) AUm rfl (Au.z p0) (λj u hu=>(F7 j u hu)) (AZf Au p1 (Au.z p2) (Au.z p0) λJr F8=>ATu<|q_b<|q_t ?_);exact ⟨((D9,Cf,Cg,Ch,Ci,Fy,F5):(Bool) × (LiI) × LnA × LnN × LvA × (Int) × LvA),⟨AGo Fz,F8.sel [1,0,3,4] AGn⟩,rfl,trivial⟩
  rintro ⟨Js,Jt,Ju,Jv,Jw,Jx,Jy⟩ Jz J0 ⟨F9,Ga⟩;subst F9;refine AS8<|AGm<|ATn rfl rfl (AGx ?_);exact ⟨(_,_,_,_,_,_,_,_),(AGo Bx).symm,Ga,rfl,rfl,trivial⟩
 ·refine ATh<|ATi<|ATi<|AUf<|q_t<|AGs<|AGq<|AGm<|AGu ?_;have Cu:=Bw _ (AGo<|AT5 Ax Ay).symm;refine ⟨_,rfl,λBi=>?_,λBi=>?_⟩
  ·refine AGq<|Aew (Ab.z p1) (Ab.b p0) ?_;obtain ⟨J1,Gb,Gc⟩:=AGr<|ifT Cu Bi;refine Ahs Ab (Axn (Ab.z p1).2 Gb) λJ2 Gd J3 Cv=>AZf Cv p4 (ATk Gd) (Cv.z p0) λJ4 Av=>AGu<|AG1<|ATd ?_;obtain rfl:=AGo Gc;exact ⟨_,AVk AUm (cZ.klen<|Av.z p0) rfl (Av.b p4),Av.x,_,rfl,(Av.z p0).2⟩
  ·refine AG0<|q_t<|AGq<|Aew (Ab.z p1) (Ab.b p0)<|AZf Ab p3 (ATk Db) (Ab.z p1) λJ5 Aw=>AGu<|AG1 ?_;obtain rfl:=AGo<|AY5 Cu Bi;exact ⟨_,AVk AUm (cZ.klen<|Aw.z p1) rfl (Aw.b p3),Aw.x,_,rfl,(Aw.z p1).2⟩
end Go.Proofs.YtkakafabeobahaaGreatDoor
open Go
variable {a3:Go.Proofs.YtkakafabeobahaaGreatDoor.LiI}
namespace Go.Proofs.YtkakafabeobahaaGreatDoor
open Go Go.QF
set_option maxRecDepth 100000
theorem A7y {m:Nat} {z:Int} (h:z=sgn na m):AZd z=1->z=m:=by
 cases na
 ·intro _;rw [h];rfl
 ·intro h1;rw [h] at h1 ⊢;unfold AZd sgn at h1;unfold sgn;simp at h1 ⊢;split at h1 <;> (try split at h1) <;> omega
theorem A7z {m:Nat} {z:Int} (h:z=sgn na m):AZd z= -1->z= -(m:Int):=by
 cases na
 ·intro h1;rw [h] at h1 ⊢;unfold AZd sgn at h1;unfold sgn;simp at h1 ⊢;split at h1 <;> (try split at h1) <;> omega
 ·intro _;rw [h];rfl
def Amt (a b:Int):Int:=if a < b then -1 else if a=b then 0 else 1
theorem A1n {a b:Int} (h:AZd a≠AZd b) (h2:AZd a < AZd b):Amt a b= -1:=by
 unfold AZd at h h2;unfold Amt;repeat' split at h2
 all_goals (rw [if_pos AGl])
theorem A1o {a b:Int} (h:AZd a≠AZd b) (h2: ¬ AZd a < AZd b):Amt a b=1:=by
 unfold AZd at h h2;unfold Amt
 rw [if_neg (by
  repeat' split at h2
  all_goals (repeat' split at h)
  all_goals omega),if_neg (by
   repeat' split at h2
   all_goals (repeat' split at h)
   all_goals omega)]
theorem Axp {nb:Bool} {m:Nat} {a b:Int} (ha:a=sgn na m) (hb:b=sgn nb k) (h:AZd a=AZd b):AZd a * Ahn m k=Amt a b:=by
 have h3:AZd a= -1∨AZd a=0∨AZd a=1:=by unfold AZd;split;exact .inl rfl;split;exact .inr<|.inl rfl;exact .inr<|.inr rfl
 rcases h3 with h1 | h1 | h1
 ·have e1:=A7z ha h1;have e2:=A7z hb<|h ▸ h1;rw [h1];unfold Ahn Amt;repeat' split
  all_goals omega
 ·have z:∀ x:Int,AZd x=0->x=0:=λx hx=>by unfold AZd at hx;repeat' split at hx;all_goals omega
  have e1:=z a h1;have e2:=z b<|h ▸ h1;rw [h1,e1,e2];simp [Amt]
 ·have e1:=A7y ha h1;have e2:=A7y hb<|h ▸ h1;rw [h1];unfold Ahn Amt;repeat' split
  all_goals omega
theorem BBf (a b:Nat): -1<=Ahn a b/\Ahn a b<=1:=by
 unfold Ahn;repeat' split;all_goals omega
theorem BBg (a:Int): -1<=AZd a/\AZd a<=1:=by
 unfold AZd;repeat' split;all_goals omega
theorem BBh {y:Int} (hx: -1<=x/\x<=1) (hy: -1<=y/\y<=1):IntKind.i64.wrap (x * y)=x * y:=by
 obtain ⟨x1,x2⟩:=hx;obtain ⟨y1,y2⟩:=hy;have Aa:x= -1∨x=0∨x=1:=by omega
 have Ab:y= -1∨y=0∨y=1:=by omega
 rcases Aa with rfl | rfl | rfl <;> rcases Ab with rfl | rfl | rfl <;> decide
theorem BBi {lo:Nat} {va:Value} {z:Int} (HA:ZV h lo va z):ATz Tryz.prog 177 #[va] h λx h'=>Ext h h'/\ZV h' (Array.size h) x (z.natAbs:Int):=by
 obtain ⟨na,sa,LA,rfl,HDa,htla,hla,hza⟩:=HA.out;have hna:LA.length<=1000000:=by omega
 have hba:nv LA < 4294967296 ^ 100:=Nat.lt_of_lt_of_le (Ahh HDa.dig)<|Nat.pow_le_pow_right AGn hla;refine AUc (l:=[_]) mx Tryz.func177 rfl rfl rfl rfl rfl AG2 (AGq<|Adj [.bool na,sa] (λ_=>trivial) rfl rfl λAg h2 V3 E4 Ao Be=>?_);have Bf:Array.size h<=Ag:=Ao;have Bg:=E4.1;have Z8:=(Ext.refl h).trans E4;refine Aab [.bool false,.slice none 0 0] AYd rfl (λ_=>trivial) λAa Bh Aq Ab Ar Bi=>?_;have Bj:Array.size h<=Aa:=Nat.le_trans E4.1 Ar;have nebq1bq9:Ag≠Aa:=by have:=V3.lt;omega
 have Bl:=Ab.1;have Au:=Z8.trans Ab;have Ai:=E4.trans Ab;have Av:=E4.trans Ab;refine Aal<|AY4 (fs:=1) Af5 AG2 AGn rfl (AT6 Aa7 rfl ((V3.ext Ab).cell (i:=1) rfl) (ATo trivial rfl (Agv false (HDa.ext Ai) hna hba) λBm Bn hk=>?_));obtain ⟨Ac,Aw⟩:=hk;refine ⟨trivial,?_⟩;have Bo:=Ac.1;have Ax:=Au.trans Ac;have Ay:=Ai.trans Ac;have Az:=Av.trans Ac;have A3:=Aq.ext Ac;have A4:=Ab.trans Ac;obtain ⟨Aj,s3,L3,rfl,Am,A6,A7,A8⟩:=Aw.out;refine AVa [.bool Aj,s3] AUm rfl rfl rfl rfl (Ade Am.cap) A3 λBp A9 Ad=>?_;have Ba:=Ay.thenUpd Ad (λk hk=>by have Af:k=Aa:=hk;omega);have Bq:=Ad.1;have Br:=Ax.thenUpd Ad (λk hk=>by have Af:k=Aa:=hk;omega);have Bt:=A4.thenUpd Ad (λk hk=>by have Af:k=Aa:=hk;omega);have Bu:=Az.thenUpd Ad (λk hk=>by have Af:k=Aa:=hk;omega);have Bb:=Am.updLo Ad AGl;refine AGu<|AG1<|⟨_,AVk AUm rfl rfl A9,?_⟩;exact ⟨Ba,⟨Aj,s3,L3,rfl,Bb.mono AGl,A6,A7,by rw [<- A8,AYk hza];rfl⟩⟩
theorem BBj {la lb:Nat} {va vb:Value} {a b:Int} (HA:ZV h la va a) (HB:ZV h lb vb b):ATz Tryz.prog 120 #[va,vb] h λx h'=>Ext h h'/\x= .int .i64 (Amt a b):=by
 obtain ⟨na,sa,LA,rfl,HDa,htla,hla,hza⟩:=HA.out;obtain ⟨nb,sb,LB,rfl,HDb,htlb,hlb,hzb⟩:=HB.out;refine AUc (l:=[_,_]) mx Tryz.func120 rfl rfl rfl rfl rfl AG2 (AGq<|Adj [.bool na,sa] (λ_=>trivial) rfl rfl λAq h2 V3 E4 A7 B4=>?_);have B5:Array.size h<=Aq:=A7;have B6:=E4.1;have Z8:=(Ext.refl h).trans E4;refine Adj [.bool nb,sb] (λ_=>trivial) rfl rfl λAu Av Aw Ag A9 B7=>?_;have B8:Array.size h<=Au:=Nat.le_trans E4.1 A9;have nebq1bq9:Aq≠Au:=by have:=V3.lt;omega
 have B9:=Ag.1;have Ba:=Z8.trans Ag;have Ax:=E4.trans Ag;have Ay:=V3.ext Ag;have Bb:=E4.trans Ag;refine AGx<|AGs<|AVn (λh'=>Ext Av h') AG2 ?_;have Af:=Ext.refl Av;refine Acm [.bool na,sa] AUm rfl rfl Af (λh' hb=>(Ay.ext hb).agg) (ATo Af rfl (Ao0<|HA.ext Ax) λCa Cb hk=>?_);obtain ⟨Ab,rfl⟩:=hk;have Ai:=Af.trans Ab;refine ⟨Ai,?_⟩;have Cd:=Ab.1;have Bc:=Ba.trans Ab;have Az:=Ax.trans Ab;have Be:=Ay.ext Ab;have Bf:=Bb.trans Ab;have Bg:=Aw.ext Ab;have Bh:=Ag.trans Ab;refine Acm [.bool nb,sb] AUm rfl rfl Ai (λh' hb=>(Aw.ext hb).agg) (ATo Ai rfl (Ao0<|HB.ext Az) λCe A3 hk=>?_);obtain ⟨Ac,rfl⟩:=hk;have Bi:=Ai.trans Ac;refine ⟨Bi,?_⟩;have Cf:=Ac.1;have Bj:=Bc.trans Ac;have Ad:=Az.trans Ac;have A4:=Be.ext Ac;have Bl:=Bf.trans Ac;have A5:=Bg.ext Ac;have Bm:=Bh.trans Ac;refine ATs<|AGx<|AGs<|AGq<|AGm<|AGm<|Ayz rfl rfl (λBn=>?_) (λBn=>?_)
 ·refine AGu<|ATx rfl (AGs<|AGq<|AGm<|AGm<|AXw rfl rfl (λBo=>?_) (λBo=>?_))
  ·refine AGu<|ATx rfl (AGq<|AGx<|AG1<|ATd<|ATd<|⟨_,AS5,?_⟩);first | exact ⟨Ad,congrArg (Value.int .i64) (by rw [Ak,Am];exact Axp hza hzb AGl)⟩ | exact ⟨Ad,congrArg (Value.int .i64) (A1n (by assumption)<|by assumption).symm⟩ | exact ⟨Ad,congrArg (Value.int .i64) (A1o (by assumption) AGl).symm⟩
  ·refine AGu<|AT0 rfl (AG0<|q_t<|AGq<|AGx<|AG1<|ATd<|⟨_,AS5,?_⟩);first | exact ⟨Ad,congrArg (Value.int .i64) (by rw [Ak,Am];exact Axp hza hzb AGl)⟩ | exact ⟨Ad,congrArg (Value.int .i64) (A1n (by assumption)<|by assumption).symm⟩ | exact ⟨Ad,congrArg (Value.int .i64) (A1o (by assumption) AGl).symm⟩
 ·refine AGu<|AT0 rfl (AG0<|q_t<|AGs<|AVn (λh'=>Ext A3 h') AG2 ?_);have Af:=Ext.refl A3;refine AGm<|AY4 (fs:=1) Af5 AG2 AGn rfl (AVg Aa7 rfl Af (λh' hb=>(A4.ext hb).cell (i:=1) rfl) (ATo Af rfl (Aco (DS.ext HDa Ad) AGl) λCg Ch hk=>?_));obtain ⟨Ae,L1,Bp,Bq,Ak,Cj⟩:=hk;have Aj:=Af.trans Ae;refine ⟨Aj,?_⟩;have Ck:=Ae.1;have Br:=Bj.trans Ae;have A6:=Ad.trans Ae;have Bt:=A4.ext Ae;have Bu:=Bl.trans Ae;have Bv:=A5.ext Ae;have Bw:=Bm.trans Ae;refine AY4 (fs:=1) Af5 AG2 AGn rfl (AVg Aa7 rfl Aj (λh' hb=>(A5.ext hb).cell (i:=1) rfl) (ATo Aj rfl (Aco (DS.ext HDb A6) AGl) λCm Bx hk=>?_));obtain ⟨Aa,L2,By,Bz,Am,Co⟩:=hk;have Ao:=Aj.trans Aa;refine ⟨Ao,?_⟩;have Cp:=Aa.1;have Cq:=Br.trans Aa;have Ap:=A6.trans Aa;have Cr:=Bt.ext Aa;have Ct:=Bu.trans Aa;have Cu:=Bv.ext Aa;have Cv:=Bw.trans Aa;have B1:=Bp.ext Aa;refine ATo Ao rfl (Atd B1 By Bq Bz AGl AGl) λCw Bx hk=>?_;obtain ⟨rfl,rfl⟩:=hk;refine ⟨Ao,?_⟩;refine Aaq rfl rfl ?_;rw [BBh (BBg _)<|BBf _ _];refine AGx<|AG1<|⟨_,AS5,?_⟩;first | exact ⟨Ap,congrArg (Value.int .i64) (by rw [Ak,Am];exact Axp hza hzb AGl)⟩ | exact ⟨Ap,congrArg (Value.int .i64) (A1n (by assumption)<|by assumption).symm⟩ | exact ⟨Ap,congrArg (Value.int .i64) (A1o (by assumption) AGl).symm⟩
def A28 (fuel:Nat) (a:Int):Option Int:=some (a.natAbs:Int)
def Awd (fuel:Nat) (a b:Int):Option Int:=some<|Amt a b
theorem A1p {u:Value} {a r:Int} (H1:ZZ h u a) (hp:A28 fuel a=some r):ATz Tryz.prog 177 #[u] h (λx h'=>Ext h h'/\ ∃ (x0:Value),x=x0/\ZZ h' x0 r):=by
 cases hp;exact (BBi H1).mono λx h' hk=>⟨hk.1,x,rfl,hk.2.zz⟩
theorem Aun {u v:Value} {a b r:Int} (H1:ZZ h u a) (H2:ZZ h v b) (hp:Awd fuel a b=some r):ATz Tryz.prog 120 #[u,v] h (λx h'=>Ext h h'/\x= .int .i64 r):=by
 cases hp;exact BBj H1 H2
end Go.Proofs.YtkakafabeobahaaGreatDoor
namespace Go.Proofs.YtkakafabeobahaaGreatDoor
open Go Go.QF
set_option maxRecDepth 100000
set_option maxHeartbeats 4000000
def Adn (fuel:Nat) (a3:LiI) (Ab:Int) (Af:LiA) (Aa:Int) (Ac:LiI):Option ((Int × LiI) ⊕ ((LiI × Bool) ⊕ LiI)):=
 if Aa < (Af.length:Int) then (gI a3 Ab).bind λAg=>(gI Ag Aa).bind λAh=>(Apl fuel Ah).bind λ(Ai,Aj)=>if (!Aj)=true then some (.inr<|.inl ([],false)) else (gI Ac Ab).bind λAd=>(gI Ad Aa).bind λAk=>some (.inl (w64<|Aa + 1,sI Ac Ab<|sI Ad Aa Ai)) else some<|.inr<|.inr Ac
def Ado (fuel:Nat) (a3:LiI) (x5 x6 Aa:Int) (Ac:LiI):Option ((Int × LiI) ⊕ ((LiI × Bool) ⊕ LiI)):=
 if Aa < ((List.replicate (Int.toNat x5) ([]:List Int)).length:Int) then if 0<=x6/\x6<=100000000 then (gI Ac Aa).bind λAi=>(gI (sI Ac Aa<|List.replicate (Int.toNat x6) (0:Int)) Aa).bind λAf=>(iter (λs=>Adn fuel a3 Aa Af s.1 s.2) fuel (0,sI Ac Aa<|List.replicate (Int.toNat x6) (0:Int))).bind (λex=>match ex with | .inl Ag=>(some<|.inr<|.inl Ag) | .inr Ah=>some<|.inl (w64<|Aa + 1,Ah)) else none else some<|.inr<|.inr Ac
def AZj (fuel:Nat) (a3:LiI):Option (LiI × Bool):=
 (AU8 fuel a3).bind λ(x5,x6,x7)=>if (!x7)=true then some ([],false) else if 0<=x5/\x5<=100000000 then (iter (λs=>Ado fuel a3 x5 x6 s.1 s.2) fuel (0,List.replicate (Int.toNat x5) ([]:List Int))).bind (λex=>match ex with | .inl Ae=>(some Ae) | .inr Af=>some (Af,true)) else none
theorem Alf {Aw:Value} {r:(LiI × Bool)} (H2:AV4 cZ h Aw a3) (hp:AZj fuel a3=some r):ATz Tryz.prog 69 #[Aw] h (λx h'=>Ext h h'/\ ∃ (x0:Value) (F0:List Nat) (Bg:List LnA) (Bh:List Value),x= .tuple #[x0,.bool r.2]/\AV8 (cI .i64) 61 2 h' F0 Bg Bh x0 r.1/\Sp h' h.size [F0]):=by
 unfold AZj at hp;refine cwf (l:=[_]) Tryz.func69 rfl rfl (AGq<|ATs<|AT2<|AGm ?_);have K0:=Kst.k0 h;obtain ⟨⟨x5,x6,x7⟩,Bl,Ae⟩:=AGr hp;dsimp only at Ae;refine AVs K0 (Aao (H2.ext K0.x) Bl) λCu Cv A5=>AGm<|AUk rfl rfl (AUk rfl rfl (AUk rfl rfl (ATs<|ATs<|AGx<|AGs<|AGq<|AGm<|AV5 rfl (AGu<|⟨_,rfl,λAf=>?_,λAf=>?_⟩))))
 ·refine AGq<|ATs<|AGx<|AG1<|ATd ?_;have Ag:=Kst.anil2 (cI .i64) 61 2 A5;obtain rfl:=AGo<|ifT Ae Af;exact ⟨_,AUp,Ag.x,_,_,_,_,rfl,(Ag.o2 p0),Ag.s.sel [0] AGn⟩
 ·refine AG0<|q_t<|AGq<|AGm ?_;obtain ⟨Bm,Bn⟩:=ifN<|AY5 Ae Af;refine Ak0 (cI .i64) 2 ATb Aet rfl trivial tt2 rfl rfl AGn Bm λBo Bp Bq A6 Cw Br Bt Bu=>AGx<|AGs<|AGq<|AGm ?_;have Ah:=A5.no2 Bt Bu Br;refine AT3 ATb rfl (Ah.o2 p0).rd (AGm<|AGu<|AGt<|AXv 4611686018410614540 (λx:(Int) × (LiI) × LnA × LnN × LvA=>(x.1,x.2.1)) ((0,(List.replicate (Int.toNat x5) ([]:List Int)),Bo,Bp,Bq):(Int) × (LiI) × LnA × LnN × LvA) Bn (λx=>[(24,(.int .i64 x.1))]) (λx=>Ah.L.set 0<|aO2 (cI .i64) 61 2 x.2.2.1 x.2.2.2.1 x.2.2.2.2 A6 x.2.1) Ah ⟨rfl,trivial⟩ ?_);rintro ⟨Ab,Bv,Cx,A7,Bw⟩ Cy Cz C0 Ad Ai A8;unfold Ado at Ai;refine AGq<|ATp rfl rfl (AGu<|AGs<|⟨_,rfl,λAj=>?_,λAj=>?_⟩)
  ·refine AG0<|q_t<|AGs<|AGt<|AGq<|AGm<|AT2<|AGm<|AGm<|AGm ?_;obtain ⟨Bx,By⟩:=ifN<|AT4 Ai Aj;refine Ajb (c:=(cI .i64)) (a:=0) ATa Abm rfl rfl (λ_=>rfl) rfl trivial tt2 rfl rfl AGn Bx λA9 Bz C1 B1 B3 B4 B5=>?_;have Ac:=Ad.no B3 (AYh B4 B5) B1;obtain ⟨C2,Ba,B6⟩:=AGr By;refine AVv ATb rfl (Ac.o2 p1) rfl Ba λB7 C3 B8 C4 C5=>Akz ATq (Ac.o2 p1) Ba B8 rfl rfl (Ac.o p0) (Ac.dj p0 p1 AGn) λC6 B9 Ca Cb=>Aal<|AGm<|AGm ?_;have Ak:=Ac.m2 p0 p1 AGn Ca B9 λz hz=> .inl<|Cb z hz;obtain ⟨C7,Bb,Cd⟩:=AGr B6;refine AUo ATb ATq (Ak.o2 p1) Bb λ_ C8 Ce=>AUl ATa rfl ((Ak.o2 p1).rowI Ce Bb) (AGm<|AGu<|AGt ?_);have Am:=Ak.sel [1] AGn;dsimp only [AZ3,Adk] at Am;refine AXv 2305842871774744076 (λx:(Int) × (LiI) × LnA × LnN × LvA=>(x.1,x.2.1)) ((0,(sI Bv Ab<|List.replicate (Int.toNat x6) (0:Int)),(B7 :: (A7.set (Int.toNat Ab) [A9]).flatten),(A7.set (Int.toNat Ab) [A9]),(Bw.set (Int.toNat Ab) Bz)):(Int) × (LiI) × LnA × LnN × LvA) Cd (λx=>[(37,(.int .i64 x.1))]) (λx=>Am.L.set 0<|aO2 (cI .i64) 61 2 x.2.2.1 x.2.2.2.1 x.2.2.2.2 A6 x.2.1) Am ⟨rfl,trivial⟩ ?_;rintro ⟨C9,Da,Db,Dc,Dd⟩ De Df Dg Aa Ao Bc;unfold Adn at Ao;refine AGq<|ATp rfl rfl (AGu<|AGs<|⟨_,rfl,λAp=>?_,λAp=>?_⟩)
   ·refine AG0<|q_t<|AGs<|AGt<|AGq<|AGm<|AT2<|AGm<|AGm ?_;obtain ⟨Dh,Cf,Cg⟩:=AGr<|AT4 Ao Ap;refine AZ1 AUy AW5 H2 Aa.x Cf λ_ Di Ch=>AGm ?_;obtain ⟨Dj,Ci,Cj⟩:=AGr Cg;refine Adg (c:=cZ) AWc rfl Ch rfl Ci λDk Dl Do Be Ck=>Agu (c:=cZ) AUm rfl (Aa.zx Be) (λj u hu=>(ATw (Ck j u hu) Aa.x)) ?_;obtain ⟨⟨Dp,Dq⟩,Cm,Aq⟩:=AGr Cj;dsimp only at Aq;refine AVs Aa (Auk (Aa.zx Be).2 Cm) λDr Ds Ar=>AGm<|AUk rfl rfl (AUk rfl rfl (ATs<|AGx<|AGs<|AGq<|AGm<|AV5 rfl (AGu<|⟨_,rfl,λAu=>?_,λAu=>?_⟩)))
    ·refine AGq<|ATs<|AGx<|AG1<|ATd<|AUg<|ATd<|ATd<|AUg<|AUg<|ATd<|ATd<|AUg<|ATd ?_;have Av:=Kst.anil2 (cI .i64) 61 2 Ar;obtain rfl:=AGo<|A8 _ (AGo<|Bc _ (AGo<|ifT Aq Au).symm).symm;exact ⟨_,AUp,Av.x,_,_,_,_,rfl,(Av.o2 p0),Av.s.sel [0] AGn⟩
    ·refine AG0<|q_t<|AS8<|AGm<|AGm ?_;obtain ⟨Dt,Bf,Cn⟩:=AGr<|AY5 Aq Au;refine AUo ATb ATq (Ar.o2 p0) Bf λ_ Du Co=>AGm<|AGm ?_;obtain ⟨Dv,Cp,Cq⟩:=AGr Cn;refine AZ0 (m:=Ab) Ar p0 ATa ATg Co Bf Cp (λ_=>rfl) λ_ Dw Cr=>ATu<|q_b<|q_t<|AS8<|ATn rfl rfl (AGm<|AGu ?_);exact ⟨(_,_,_,_,_),(AGo Cq).symm,Cr,rfl,trivial⟩
   ·refine ATh<|ATi<|ATi<|AUf<|q_b<|q_t<|AS8<|ATn rfl rfl (AGm<|AGu ?_);exact ⟨(_,_,_,_,_),(AGo<|Bc _ (AGo<|AT5 Ao Ap).symm).symm,Aa,rfl,trivial⟩
  ·refine ATh<|ATi<|ATi<|AUf<|q_t<|AGq<|AGm<|ATs<|AGx<|AG1 ?_;obtain rfl:=AGo<|A8 _ (AGo<|AT5 Ai Aj).symm;exact ⟨_,AUp,Ad.x,_,_,_,_,rfl,(Ad.o2 p0),Ad.s.sel [0] AGn⟩
def Abr (fuel:Nat) (Ad:LiI) (Aa:Int) (Ab:LiI):Option ((Int × LiI) ⊕ LiI):=
 if Aa < (Ad.length:Int) then (gI Ab Aa).bind λAc=>(Aen fuel 1).bind λAe=>(gI Ac Aa).bind λAf=>some (.inl (w64<|Aa + 1,sI Ab Aa<|sI Ac Aa Ae)) else some<|.inr Ab
def AW2 (fuel:Nat) (a1:Int):Option (LiI × Bool):=
 ((if a1 < 1 then some (.inl ([],false)) else if 16 < a1 then some (.inl ([],false)) else some<|.inr ()):Option ((LiI × Bool) ⊕ Unit)).bind (λex=>match ex with | .inl Ac=>(some Ac) | .inr _=>(AWr fuel a1 a1).bind λAb=>(iter (λs=>Abr fuel Ab s.1 s.2) fuel (0,Ab)).bind (λ(Ad:LiI)=>some (Ad,true)))
theorem Agm {r:(LiI × Bool)} (hp:AW2 fuel a1=some r):ATz Tryz.prog 67 #[(.int .i64 a1)] h (λx h'=>Ext h h'/\ ∃ (x0:Value) (F0:List Nat) (Az:List LnA) (A3:List Value),x= .tuple #[x0,.bool r.2]/\AV8 cZ 146 129 h' F0 Az A3 x0 r.1/\Sp h' h.size [F0]):=by
 unfold AW2 at hp;refine cwf (l:=[_]) Tryz.func67 rfl rfl (AGq<|ATs<|AGx ?_);have K0:=Kst.k0 h;obtain ⟨A4,Au,Af⟩:=AGr hp;refine Aer 4044 (λx:Unit=>[]) (λx h'=>(Sum.inr <| ())=A4/\Kst h h' (K0.L)) ?_ ?_
 ·refine AGq<|AGm<|ATp rfl rfl (AGm ?_);by_cases Ad:a1 < 1
  ·rw [decide_eq_true Ad];refine Adc 8 true<|ATf rfl (AGu<|ATx rfl (AGq<|ATs<|AGx ?_));obtain rfl:=AGo<|ifT Au Ad;refine AG1<|ATd ?_;have Ag:=Kst.anil2 cZ 146 129 K0;obtain rfl:=AGo Af;exact ⟨_,AUp,Ag.x,_,_,_,_,rfl,(Ag.o2 p0),Ag.s.sel [0] AGn⟩
  ·have Av:=ifF Au Ad;rw [decide_eq_false Ad];refine ATc 8 false<|AGm<|ATc 8 false<|AXr rfl rfl (AS6 rfl (AGu<|⟨_,rfl,λAh=>?_,λAh=>?_⟩))
   ·refine AGq<|ATs<|AGx ?_;obtain rfl:=AGo<|AT4 Av Ah;refine AG1<|ATd ?_;have Ai:=Kst.anil2 cZ 146 129 K0;obtain rfl:=AGo Af;exact ⟨_,AUp,Ai.x,_,_,_,_,rfl,(Ai.o2 p0),Ai.s.sel [0] AGn⟩
   ·refine AG0<|q_t ?_;exact ⟨(():Unit),⟨AGo<|AT5 Av Ah,K0⟩,trivial⟩
 rintro ⟨⟩ Bq Br ⟨A5,A6⟩;subst A5;refine AGq<|AGm<|AGm ?_;obtain ⟨A7,A8,A9⟩:=AGr Af;refine Agx A6 (Aa1 A8) λBa Bb Bc Be Bt Bu Aj=>AGx<|AGs<|AGq<|AGm<|AT3 AUy rfl (Aj.o2 p0).rd (AGm<|AGu<|AGt<|AXv 268304416 (λx:(Int) × (LiI) × LnA × LnN × LvA=>(x.1,x.2.1)) ((0,A7,Ba,Bb,Bc):(Int) × (LiI) × LnA × LnN × LvA) A9 (λx=>[(17,(.int .i64 x.1))]) (λx=>Aj.L.set 0<|aO2 cZ 146 129 x.2.2.1 x.2.2.2.1 x.2.2.2.2 Be x.2.1) Aj ⟨rfl,trivial⟩ ?_);rintro ⟨Aw,Bv,Bw,Bx,By⟩ Bz Ak B1 Aa Am Bf;unfold Abr at Am;refine AGq<|ATp rfl rfl (AGu<|AGs<|⟨_,rfl,λAo=>?_,λAo=>?_⟩)
 ·refine AG0<|q_t<|AGs<|AGt<|AGq<|AGm<|AGx<|AVn (λh'=>UpT [] Ak h') AG2 ?_;have Ax:UpT [] Ak Ak:=UpT.start all_nil;refine AGm<|AGm ?_;obtain ⟨B3,Ap,Bg⟩:=AGr<|AT4 Am Ao;refine AVv AUy rfl (Aa.o2 p0) rfl Ap λB4 B5 B6 Bh Bi=>AVg AW5 rfl Ax (λh' hb=>ATw Bi hb.ext) (AGm ?_);obtain ⟨B7,Bj,Bl⟩:=AGr Bg;refine AYq Aa Ax (Ad0 Bj) λB8 B9 Ca Ab Cb=>?_;obtain ⟨Cd,Ay,Bm⟩:=AGr Bl;refine AXj (m:=Aw) AWc rfl (Aa.o2 p0) Bh Ap rfl Ay λCe Bn=>Afl (m:=Aw) (Aly AUm (cZ.klen<|Ab.z p0) rfl rfl (cZ.one<|Ab.z p0)) (Ab.o2 p1) Bn Ap Ay (Ab.z p0) λCf Bo Bp=>ATu<|q_b<|q_t<|AS8<|ATn rfl rfl (AGm<|AGu ?_);exact ⟨(_,_,_,_,_),(AGo Bm).symm,(Ab.uO2 p1 Bp Bo).sel [1] AGn,rfl,trivial⟩
 ·refine ATh<|ATi<|ATi<|AUf<|q_t<|AGq<|AGm<|ATs<|AGx<|AG1 ?_;obtain rfl:=AGo<|Bf _ (AGo<|AT5 Am Ao).symm;exact ⟨_,AUp,Aa.x,_,_,_,_,rfl,(Aa.o2 p0),Aa.s.sel [0] AGn⟩
def Aa8 (fuel:Nat) (a3:LiI) (Ab:Int) (Af:LiA) (Aa:Int) (Ac:LiI):Option ((Int × LiI) ⊕ LiI):=
 if Aa < (Af.length:Int) then (gI Ac Aa).bind λAd=>(gI a3 Ab).bind λAg=>(gI Ag Aa).bind λAh=>(Al0 fuel Ah).bind λAi=>(gI Ad Ab).bind λAj=>some (.inl (w64<|Aa + 1,sI Ac Aa<|sI Ad Ab Ai)) else some<|.inr Ac
def Aa9 (fuel:Nat) (a3:LiI) (Aa:Int) (Ac:LiI):Option ((Int × LiI) ⊕ LiI):=
 if Aa < (a3.length:Int) then (gI a3 Aa).bind λAd=>(iter (λs=>Aa8 fuel a3 Aa Ad s.1 s.2) fuel (0,Ac)).bind (λ(Ae:LiI)=>some<|.inl (w64<|Aa + 1,Ae)) else some<|.inr Ac
def AWs (fuel:Nat) (a3:LiI):Option (LiI × Bool):=
 (AU8 fuel a3).bind λ(x5,x6,x7)=>if (!x7)=true then some ([],false) else (AWr fuel x6 x5).bind λAe=>(iter (λs=>Aa9 fuel a3 s.1 s.2) fuel (0,Ae)).bind (λ(Af:LiI)=>some (Af,true))
theorem Af6 {r:(LiI × Bool)} (H2:AV4 cZ h Aq a3) (hp:AWs fuel a3=some r):ATz Tryz.prog 133 #[Aq] h (λx h'=>Ext h h'/\ ∃ (x0:Value) (F0:List Nat) (A6:List LnA) (A7:List Value),x= .tuple #[x0,.bool r.2]/\AV8 cZ 146 129 h' F0 A6 A7 x0 r.1/\Sp h' h.size [F0]):=by
 unfold AWs at hp;refine cwf (l:=[_]) Tryz.func133 rfl rfl (AGq<|ATs<|AT2<|AGm ?_);have K0:=Kst.k0 h;obtain ⟨⟨x5,x6,x7⟩,A8,Af⟩:=AGr hp;dsimp only at Af;refine AVs K0 (Aao (H2.ext K0.x) A8) λCd Ce Ax=>AGm<|AUk rfl rfl (AUk rfl rfl (AUk rfl rfl (ATs<|ATs<|AGx<|AGs<|AGq<|AGm<|AV5 rfl (AGu<|⟨_,rfl,λAg=>?_,λAg=>?_⟩))))
 ·refine AGq<|ATs<|AGx<|AG1<|ATd ?_;have Ah:=Kst.anil2 cZ 146 129 Ax;obtain rfl:=AGo<|ifT Af Ag;exact ⟨_,AUp,Ah.x,_,_,_,_,rfl,(Ah.o2 p0),Ah.s.sel [0] AGn⟩
 ·refine AG0<|q_t<|AGq<|AGm<|AGm ?_;obtain ⟨A9,Ba,Bb⟩:=AGr<|AY5 Af Ag;refine Agx Ax (Aa1 Ba) λBc Be Bf Ay Cf Cg Az=>AGx<|AGs<|AGq<|AGm<|AT3 AUy rfl H2 (AGm<|AGu<|AGt<|AXv 1125899898454784 (λx:(Int) × (LiI) × LnA × LnN × LvA=>(x.1,x.2.1)) ((0,A9,Bc,Be,Bf):(Int) × (LiI) × LnA × LnN × LvA) Bb (λx=>[(23,(.int .i64 x.1))]) (λx=>Az.L.set 0<|aO2 cZ 146 129 x.2.2.1 x.2.2.2.1 x.2.2.2.2 Ay x.2.1) Az ⟨rfl,trivial⟩ ?_);rintro ⟨Ch,Bg,Bh,Bi,Bj⟩ Ci Cj Ck Ab Ai Bl;unfold Aa9 at Ai;refine AGq<|ATp rfl rfl (AGu<|AGs<|⟨_,rfl,λAj=>?_,λAj=>?_⟩)
  ·refine AG0<|q_t<|AGs<|AGt<|AGq<|AGm<|AT2<|AGm<|AGm ?_;obtain ⟨Cm,Bm,Bn⟩:=AGr<|AT4 Ai Aj;refine AZ1 AUy AW5 H2 Ab.x Bm λ_ Cn Bo=>AUl AWc rfl Bo (AGm<|AGu<|AGt<|AXv 562947805938176 (λx:(Int) × (LiI) × LnA × LnN × LvA=>(x.1,x.2.1)) ((0,Bg,Bh,Bi,Bj):(Int) × (LiI) × LnA × LnN × LvA) Bn (λx=>[(31,(.int .i64 x.1))]) (λx=>Ab.L.set 0<|aO2 cZ 146 129 x.2.2.1 x.2.2.2.1 x.2.2.2.2 Ay x.2.1) Ab ⟨rfl,trivial⟩ ?_);rintro ⟨A3,u64,Co,Cp,Cq⟩ Cr Ak Ct Aa Am Bp;unfold Aa8 at Am;refine AGq<|ATp rfl rfl (AGu<|AGs<|⟨_,rfl,λAo=>?_,λAo=>?_⟩)
   ·refine AG0<|q_t<|AGs<|AGt<|AGq<|AGm<|AGx<|AVn (λh'=>UpT [] Ak h') AG2 ?_;have Ae:UpT [] Ak Ak:=UpT.start all_nil;refine AGm<|AGm ?_;obtain ⟨Cu,Ap,Bq⟩:=AGr<|AT4 Am Ao;refine AVv AUy rfl (Aa.o2 p0) rfl Ap λCv Cw Cx Br Bt=>AVg AW5 rfl Ae (λh' hb=>ATw Bt hb.ext) (AGm<|AGm<|AGm ?_);obtain ⟨Cy,Bu,Bv⟩:=AGr Bq;refine Alx AUy rfl H2 rfl Bu λCz C0 C1 Bw Bx=>AVg AW5 rfl Ae (λh' hb=>ATw Bw<|Aa.x.trans hb.ext) (AGm ?_);obtain ⟨C2,By,Bz⟩:=AGr Bv;refine Adg (c:=cZ) AWc rfl Bx rfl By λC3 C4 C5 A4 B1=>Amc (c:=cZ) AUm rfl A4 Ae (λh' hb j u hu=>ATw (B1 j u hu)<|Aa.x.trans hb.ext) ?_;obtain ⟨C6,B3,B4⟩:=AGr Bz;refine AYq Aa Ae (Anp (Aa.zx A4).2 B3) λC7 C8 C9 Ac Da=>?_;obtain ⟨Db,A5,B5⟩:=AGr B4;refine AXj (m:=A3) AWc rfl (Aa.o2 p0) Br Ap rfl A5 λDc B6=>Afl (m:=A3) (Aly AUm (cZ.klen<|Ac.z p0) rfl rfl (cZ.one<|Ac.z p0)) (Ac.o2 p1) B6 Ap A5 (Ac.z p0) λDd B7 B8=>ATu<|q_b<|q_t<|AS8<|ATn rfl rfl (AGm<|AGu ?_);exact ⟨(_,_,_,_,_),(AGo B5).symm,(Ac.uO2 p1 B8 B7).sel [1] AGn,rfl,trivial⟩
   ·refine ATh<|ATi<|ATi<|AUf<|q_b<|q_t<|AS8<|ATn rfl rfl (AGm<|AGu ?_);exact ⟨(_,_,_,_,_),(AGo<|Bp _ (AGo<|AT5 Am Ao).symm).symm,Aa,rfl,trivial⟩
  ·refine ATh<|ATi<|ATi<|AUf<|q_t<|AGq<|AGm<|ATs<|AGx<|AG1 ?_;obtain rfl:=AGo<|Bl _ (AGo<|AT5 Ai Aj).symm;exact ⟨_,AUp,Ab.x,_,_,_,_,rfl,(Ab.o2 p0),Ab.s.sel [0] AGn⟩
def Afq (fuel:Nat) (a3 a7:LiA) (Aa Ac:Int):Option ((Int × Int) ⊕ Int):=
 if Aa < (a3.length:Int) then (gI a3 Aa).bind λAe=>(gI a7 Aa).bind λAf=>(Ak7 fuel Ae Af).bind λAg=>(A23 fuel Ac Ag).bind λAh=>some (.inl (w64<|Aa + 1,Ah)) else some<|.inr Ac
def Abe (fuel:Nat) (a3 a7:LiA):Option Int:=
 (iter (λs=>Afq fuel a3 a7 s.1 s.2) fuel (0,0)).bind (λ(Ac:Int)=>some Ac)
theorem Anq {a3:LiA} {a7:LiA} {r:Int} (H2:SlC cZ h Ai a3) (H6:SlC cZ h Ak a7) (hp:Abe fuel a3 a7=some r):ATz Tryz.prog 185 #[Ai,Ak] h (λx h'=>Ext h h'/\ ∃ (x0:Value),x=x0/\ZZ h' x0 r):=by
 unfold Abe at hp;refine cwf (l:=[_,_]) Tryz.func185 rfl rfl (AGq<|AV6 (Kst.k0 h) [.bool false,.slice none 0 0] AYd λb9 Bn Bo Ax=>Aal<|AXa (Aiv )<|AV6 Ax [.bool false,.slice none 0 0] AYd λAy Aq Bp Az=>AZf Az p0 (ATk Aq) (ATk Aq) λA3 A4=>AGu<|AGs<|AGs ?_);refine AS8<|AGm<|AUl AWc rfl H2 (AGm<|AGu<|AGt ?_);have Ar:=A4.az<|ATk A3;refine AXv 33553472 (λx:(Int) × (Int) × LvA=>(x.1,x.2.1)) ((0,0,[Value.bool false,Value.slice none 0 0]):(Int) × (Int) × LvA) hp (λx=>[(10,(.int .i64 x.1))]) (λx=>(Ar.L.set 0<|aZ x.2.2 x.2.1).set 1 (aB 129 Ay x.2.2)) Ar ⟨rfl,trivial⟩ ?_;rintro ⟨Bq,Br,Bt⟩ Bu Ac Bv Aa Af A5;unfold Afq at Af;refine AGq<|ATp rfl rfl (AGu<|AGs<|⟨_,rfl,λAg=>?_,λAg=>?_⟩)
 ·refine AG0<|q_t<|AGs<|AGt<|AGq<|AGm<|AGx<|AVn (λh'=>UpT [] Ac h') AG2 ?_;have Ad:UpT [] Ac Ac:=UpT.start all_nil;refine Aib (Aa.z p0) Ad (Aa.b p1)<|AGm<|AGm ?_;obtain ⟨Bw,A6,A7⟩:=AGr<|AT4 Af Ag;refine Adg (c:=cZ) AWc rfl H2 rfl A6 λBx By Bz Au A8=>Amc (c:=cZ) AUm rfl Au Ad (λh' hb j u hu=>ATw (A8 j u hu)<|Aa.x.trans hb.ext) (AGm<|AGm ?_);obtain ⟨B1,A9,Ba⟩:=AGr A7;refine Adg (c:=cZ) AWc rfl H6 rfl A9 λB3 B4 B5 Av Bb=>Amc (c:=cZ) AUm rfl Av Ad (λh' hb j u hu=>ATw (Bb j u hu)<|Aa.x.trans hb.ext) ?_;obtain ⟨B6,Bc,Be⟩:=AGr Ba;refine AYq Aa Ad (Aj6 (Aa.zx Au).2 (Aa.zx Av).2 Bc) λB7 B8 B9 Ah Bf=>?_;obtain ⟨Ca,Bg,Bh⟩:=AGr Be;refine AYq Ah Bf (A1f (Ah.z p1).2 (Ah.z p0).2 Bg) λBi Cb Cd Ab Ce=>AVa Bi AUm (cZ.klen<|Ab.z p0) (cZ.klen<|Ab.z p2) rfl rfl (cZ.one<|Ab.z p0) (Ab.b p3) λCf Bj Bl=>ATu<|q_b<|q_t<|AS8<|ATn rfl rfl (AGm<|AGu ?_);exact ⟨(_,_,_),(AGo Bh).symm,(Ab.sb p3 Bl Bj rfl).sel [0,3,4] AGn,rfl,trivial⟩
 ·refine ATh<|ATi<|ATi<|AUf<|q_t<|AGq<|Aew (Aa.z p0) (Aa.b p1)<|AZf Aa p2 (ATk Ac) (Aa.z p0) λCg Ae=>AGu<|AG1 ?_;obtain rfl:=AGo<|A5 _ (AGo<|AT5 Af Ag).symm;exact ⟨_,AVk AUm (cZ.klen<|Ae.z p0) rfl (Ae.b p2),Ae.x,_,rfl,(Ae.z p0).2⟩
def Afr (fuel:Nat) (a3 Ad:LiI) (Ab Aa:Int) (Ac:LiI):Option ((Int × LiI) ⊕ LiI):=
 if Aa < (Ad.length:Int) then (gI Ac Ab).bind λAe=>(gI a3 Ab).bind λAg=>(gI Ad Aa).bind λAh=>(Abe fuel Ag Ah).bind λAi=>(gI Ae Aa).bind λAj=>some (.inl (w64<|Aa + 1,sI Ac Ab<|sI Ae Aa Ai)) else some<|.inr Ac
def Afs (fuel:Nat) (a3 Ad:LiI) (Aa:Int) (Ac:LiI):Option ((Int × LiI) ⊕ LiI):=
 if Aa < (a3.length:Int) then (iter (λs=>Afr fuel a3 Ad Aa s.1 s.2) fuel (0,Ac)).bind (λ(Ae:LiI)=>some<|.inl (w64<|Aa + 1,Ae)) else some<|.inr Ac
def Abf (fuel:Nat) (a3 a7:LiI):Option (LiI × Bool):=
 (AU8 fuel a3).bind λ(x9,Ad,Ae)=>(AWs fuel a7).bind λ(Ac,Af)=>((if (!Ae)=true then some (.inl ([],false)) else if (!Af)=true then some (.inl ([],false)) else if ¬ (a7.length:Int)=Ad then some (.inl ([],false)) else some<|.inr ()):Option ((LiI × Bool) ⊕ Unit)).bind (λex=>match ex with | .inl Ag=>(some Ag) | .inr _=>(AWr fuel (a3.length:Int) (Ac.length:Int)).bind λAh=>(iter (λs=>Afs fuel a3 Ac s.1 s.2) fuel (0,Ah)).bind (λ(Ai:LiI)=>some (Ai,true)))
theorem Anr {Av:Value} {Ax:Value} {a7:LiI} {r:(LiI × Bool)} (H2:AV4 cZ h Av a3) (H6:AV4 cZ h Ax a7) (hp:Abf fuel a3 a7=some r):ATz Tryz.prog 134 #[Av,Ax] h (λx h'=>Ext h h'/\ ∃ (x0:Value) (F0:List Nat) (Bm:List LnA) (Bn:List Value),x= .tuple #[x0,.bool r.2]/\AV8 cZ 146 129 h' F0 Bm Bn x0 r.1/\Sp h' h.size [F0]):=by
 unfold Abf at hp;refine cwf (l:=[_,_]) Tryz.func134 rfl rfl (AGq<|ATs<|AT2<|AGm ?_);have K0:=Kst.k0 h;obtain ⟨⟨x9,Cx,Bo⟩,Bp,A6⟩:=AGr hp;dsimp only at A6;refine AVs K0 (Aao (H2.ext K0.x) Bp) λCy Cz A7=>AGm<|AUk rfl rfl (AUk rfl rfl (AUk rfl rfl (ATs<|ATs<|AT2<|AGm ?_)));obtain ⟨⟨C0,Bq⟩,Br,A8⟩:=AGr A6;dsimp only at A8;refine Agw rfl (Af6 (H6.ext A7.x) Br) λC1 C2 Bt Bu=>?_;obtain ⟨C3,C4,C5,C6,rfl,Bv,Bw⟩:=Bu;refine AGm<|AUk rfl rfl (AUk rfl rfl (ATs<|AGx ?_));have Ac:=A7.no2 Bt Bw Bv;obtain ⟨Bx,A9,Af⟩:=AGr A8;refine Aer 137405399088 (λx:Unit=>[]) (λx h'=>(Sum.inr <| ())=Bx/\Kst h h' (Ac.L)) ?_ ?_
 ·refine AGq<|AGm<|AV5 rfl (AGm ?_);cases Ba:(!Bo)
  ·refine ATc 27 false<|AGm<|ATc 27 false<|AV5 rfl (AS6 rfl (AGm ?_));have Bb:=AY5 A9 Ba;cases Bc:(!Bq)
   ·refine ATc 31 false<|AGm<|ATc 31 false<|AT3 AUy rfl H6 (ATc 31 false<|AGm<|ATc 31 false<|AVz rfl rfl (AS6 rfl (AGu ?_)));have Be:=AY5 Bb Bc;refine ⟨_,rfl,λAh=>?_,λAh=>?_⟩
    ·refine AGq<|ATs<|AGx ?_;obtain rfl:=AGo<|AT4 Be Ah;refine AG1<|ATd ?_;have Ai:=Kst.anil2 cZ 146 129 Ac;obtain rfl:=AGo Af;exact ⟨_,AUp,Ai.x,_,_,_,_,rfl,(Ai.o2 p0),Ai.s.sel [0] AGn⟩
    ·refine AG0<|q_t ?_;exact ⟨(():Unit),⟨AGo<|AT5 Be Ah,Ac⟩,trivial⟩
   ·refine AWe 31 true<|ATf rfl (AGu<|ATx rfl (AGq<|ATs<|AGx ?_));obtain rfl:=AGo<|ifT Bb Bc;refine AG1<|ATd ?_;have Aj:=Kst.anil2 cZ 146 129 Ac;obtain rfl:=AGo Af;exact ⟨_,AUp,Aj.x,_,_,_,_,rfl,(Aj.o2 p0),Aj.s.sel [0] AGn⟩
  ·refine Adc 27 true<|ATf rfl (AGm<|AWe 31 true<|ATf rfl (AGu<|ATx rfl (AGq<|ATs<|AGx ?_)));obtain rfl:=AGo<|ifT A9 Ba;refine AG1<|ATd ?_;have Ak:=Kst.anil2 cZ 146 129 Ac;obtain rfl:=AGo Af;exact ⟨_,AUp,Ak.x,_,_,_,_,rfl,(Ak.o2 p0),Ak.s.sel [0] AGn⟩
 rintro ⟨⟩ C7 C8 ⟨By,Bf⟩;subst By;refine AGq<|AGm<|AT3 AUy rfl H2 (AGm<|AT3 AUy rfl (Bf.o2 p0).rd ?_);obtain ⟨Bz,B1,B3⟩:=AGr Af;refine Agx Bf (Aa1 B1) λB4 B5 B6 Bg C9 Da Bh=>AGx<|AGs<|AGq<|AGm<|AT3 AUy rfl H2 (AGm<|AGu<|AGt<|AXv 590295792766519619584 (λx:(Int) × (LiI) × LnA × LnN × LvA=>(x.1,x.2.1)) ((0,Bz,B4,B5,B6):(Int) × (LiI) × LnA × LnN × LvA) B3 (λx=>[(44,(.int .i64 x.1))]) (λx=>Bh.L.set 0<|aO2 cZ 146 129 x.2.2.1 x.2.2.2.1 x.2.2.2.2 Bg x.2.1) Bh ⟨rfl,trivial⟩ ?_);rintro ⟨Bi,B7,B8,B9,Ca⟩ Db Dc Dd Ab Am Cb;unfold Afs at Am;refine AGq<|ATp rfl rfl (AGu<|AGs<|⟨_,rfl,λAo=>?_,λAo=>?_⟩)
 ·refine AG0<|q_t<|AGs<|AGt<|AGq<|AGm<|AT2<|AGm<|AT3 AUy rfl (Ab.o2 p1).rd (AGm<|AGu<|AGt<|AXv 295147342229399412736 (λx:(Int) × (LiI) × LnA × LnN × LvA=>(x.1,x.2.1)) ((0,B7,B8,B9,Ca):(Int) × (LiI) × LnA × LnN × LvA) (AT4 Am Ao) (λx=>[(49,(.int .i64 x.1))]) (λx=>Ab.L.set 0<|aO2 cZ 146 129 x.2.2.1 x.2.2.2.1 x.2.2.2.2 Bg x.2.1) Ab ⟨rfl,trivial⟩ ?_);rintro ⟨De,Df,Dg,Dh,Di⟩ Dj Ap Dk Aa Aq Cd;unfold Afr at Aq;refine AGq<|ATp rfl rfl (AGu<|AGs<|⟨_,rfl,λAr=>?_,λAr=>?_⟩)
  ·refine AG0<|q_t<|AGs<|AGt<|AGq<|AGm<|AGx<|AVn (λh'=>UpT [] Ap h') AG2 ?_;have Ag:UpT [] Ap Ap:=UpT.start all_nil;refine AGm<|AGm ?_;obtain ⟨Dl,Au,Ce⟩:=AGr<|AT4 Aq Ar;refine AVv AUy rfl (Aa.o2 p0) rfl Au λDo Dp Dq Cf Cg=>AVg AW5 rfl Ag (λh' hb=>ATw Cg hb.ext) (AGm<|AGm<|AGm ?_);obtain ⟨Dr,Ch,Ci⟩:=AGr Ce;refine Alx AUy rfl H2 rfl Ch λDs Dt Du Cj Ck=>AVg AW5 rfl Ag (λh' hb=>ATw Cj<|Aa.x.trans hb.ext) (AGm<|AGm ?_);obtain ⟨Dv,Bj,Cm⟩:=AGr Ci;refine AVv AUy rfl (Aa.o2 p1) rfl Bj λDw Dx Dy Cn Co=>AVg AW5 rfl Ag (λh' hb=>ATw Co hb.ext) ?_;obtain ⟨Dz,Cp,Cq⟩:=AGr Cm;refine AYq Aa Ag (Anq (Ck.ext Aa.x) ((Aa.o2 p1).rowI Cn Bj) Cp) λD0 D1 D2 Ad D3=>?_;obtain ⟨D4,Bl,Cr⟩:=AGr Cq;refine AXj (m:=Bi) AWc rfl (Aa.o2 p0) Cf Au rfl Bl λD5 Ct=>Afl (m:=Bi) (Aly AUm (cZ.klen<|Ad.z p0) rfl rfl (cZ.one<|Ad.z p0)) (Ad.o2 p1) Ct Au Bl (Ad.z p0) λD6 Cu Cv=>ATu<|q_b<|q_t<|AS8<|ATn rfl rfl (AGm<|AGu ?_);exact ⟨(_,_,_,_,_),(AGo Cr).symm,(Ad.uO2 p1 Cv Cu).sel [1,2] AGn,rfl,trivial⟩
  ·refine ATh<|ATi<|ATi<|AUf<|q_b<|q_t<|AS8<|ATn rfl rfl (AGm<|AGu ?_);exact ⟨(_,_,_,_,_),(AGo<|Cd _ (AGo<|AT5 Aq Ar).symm).symm,Aa,rfl,trivial⟩
 ·refine ATh<|ATi<|ATi<|AUf<|q_t<|AGq<|AGm<|ATs<|AGx<|AG1 ?_;obtain rfl:=AGo<|Cb _ (AGo<|AT5 Am Ao).symm;exact ⟨_,AUp,Ab.x,_,_,_,_,rfl,(Ab.o2 p0),Ab.s.sel [0] AGn⟩
def AVi (fuel:Nat) (a3 a7:LiI):Option LiI:=
 (Abf fuel a3 a7).bind λ(x9,Ad)=>some x9
theorem Acq {a7 r:LiI} (H2:AV4 cZ h Ac a3) (H6:AV4 cZ h Ae a7) (hp:AVi fuel a3 a7=some r):ATz Tryz.prog 71 #[Ac,Ae] h (λx h'=>Ext h h'/\ ∃ (x0:Value) (F0:List Nat) (Am:List LnA) (Ao:List Value),x=x0/\AV8 cZ 146 129 h' F0 Am Ao x0 r/\Sp h' h.size [F0]):=by
 unfold AVi at hp;refine cwf (l:=[_,_]) Tryz.func71 rfl rfl (AGq<|AT2<|AGm<|AGm ?_);have K0:=Kst.k0 h;obtain ⟨⟨x9,Ax⟩,Ap,Ai⟩:=AGr hp;dsimp only at Ai;refine Agw rfl (Anr (H2.ext K0.x) (H6.ext K0.x) Ap) λAy Az Aq Ar=>?_;obtain ⟨A3,A4,A5,A6,rfl,Au,Av⟩:=Ar;refine AGm<|AUk rfl rfl (AUk rfl rfl (ATs<|AT2<|AGm<|AGx<|AG1 ?_));have Ab:=K0.no2 Aq Av Au;obtain rfl:=AGo Ai;exact ⟨_,AS5,Ab.x,_,_,_,_,rfl,(Ab.o2 p0),Ab.s.sel [0] AGn⟩
def Aee (fuel:Nat) (a1:Int) (Aa:LiA) (Ab:Int):Option ((LiA × Int) ⊕ LiA):=
 if Ab < a1 then if Aa.length<=100000000 then some (.inl (Aa ++ [Ab],w64<|Ab + 1)) else none else some<|.inr Aa
def AYl (fuel:Nat) (a1 a2:Int):Option LiA:=
 (iter (λs=>Aee fuel a1 s.1 s.2) fuel ([],0)).bind (λ(Aa:LiA)=>if Aa.length<=100000000 then some (Aa ++ [a2]) else none)
theorem Aht {r:LiA} (hp:AYl fuel a1 a2=some r):ATz Tryz.prog 176 #[(.int .i64 a1),(.int .i64 a2)] h (λx h'=>Ext h h'/\ ∃ (x0:Value) (F0:List Nat),x=x0/\OwC (cI .i64) 3 h' F0 x0 r/\Sp h' h.size [F0]):=by
 unfold AYl at hp;refine cwf (l:=[_,_]) Tryz.func176 rfl rfl (AGq<|AT2<|AGx<|AGs<|AGq<|AGx<|AGt ?_);have K4:=Kst.anil (cI .i64) 3<|Kst.k0 h;refine AXv 65504 (λx:(LiA) × (Value) × LnA × (Int)=>(x.1,x.2.2.2)) (([],(.slice none 0 0),[],0):(LiA) × (Value) × LnA × (Int)) hp (λx=>[(5,x.2.1),(6,(.int .i64 x.2.2.2))]) (λx=>K4.L.set 0<|aO (cI .i64) 3 x.2.2.1 x.2.1 x.1) K4 ⟨rfl,rfl,trivial⟩ ?_;rintro ⟨Az,A3,A4,Aj⟩ A5 h9 y8 Ab Ac Ak;unfold Aee at Ac;refine AGs<|AGq<|AGm<|AGm<|ATp rfl rfl (AGu<|⟨_,rfl,λAd=>?_,λAd=>?_⟩)
 ·refine AG0<|q_t<|AGs<|AGt<|AS8<|AGm<|AGm ?_;obtain ⟨Am,Ao⟩:=ifN<|AT4 Ac Ad;refine Afm Ap6 Aqg rfl rfl trivial tt2 (λ_=>rfl) rfl (show ((cI .i64)).rep _ Aj [(.int .i64 Aj)] from rfl) (Ab.o p0) AGn Am λA8 A9 Ba Bb Ap Aq Ar=>ATs<|ATu<|q_b<|q_t<|AS8<|AGm<|ATn rfl rfl (AGx ?_);exact ⟨(_,_,_,_),(AGo Ao).symm,(Ab.uo p0 Aq Ap Ar),rfl,rfl,trivial⟩
 ·refine ATh<|ATi<|ATi<|AUf<|q_t<|AGq<|AGm<|AGm ?_;obtain ⟨Au,Av⟩:=ifN<|Ak _ (AGo<|AT5 Ac Ad).symm;refine Afm Ap6 Aqg rfl rfl trivial tt2 (λ_=>rfl) rfl (show ((cI .i64)).rep _ a2 [(.int .i64 a2)] from rfl) (Ab.o p0) AGn Au λBc Be Bf Bg Aw Ax Ay=>AGx<|AG1 ?_;have Ae:=Ab.uo p0 Ax Aw Ay;obtain rfl:=AGo Av;exact ⟨_,AS5,Ae.x,_,_,rfl,(Ae.o p0),Ae.s.sel [0] AGn⟩
def Acr (fuel:Nat) (a3:LiI) (x5:Int) (Ab:LiA) (Aa:Int):Option ((LiA × Int) ⊕ LiA):=
 if Aa < x5 then (AYl fuel Aa Aa).bind λAe=>(AYl fuel Aa Aa).bind λAf=>(AXy fuel a3 Ae Af).bind λAg=>(AUd fuel Ag).bind λAh=>if Ab.length<=100000000 then some (.inl (Ab ++ [Ah],w64<|Aa + 1)) else none else some<|.inr Ab
def AWl (fuel:Nat) (a3:LiI):Option (LiA × Bool):=
 (AWx fuel a3).bind λ(x5,x6)=>if (!x6)=true then some ([],false) else (iter (λs=>Acr fuel a3 x5 s.1 s.2) fuel ([],0)).bind (λ(Ad:LiA)=>some (Ad,true))
theorem Acs {r:(LiA × Bool)} (H2:AV4 cZ h Ai a3) (hp:AWl fuel a3=some r):ATz Tryz.prog 122 #[Ai] h (λx h'=>Ext h h'/\ ∃ (x0:Value) (F0:List Nat),x= .tuple #[x0,.bool r.2]/\OwC cZ 129 h' F0 x0 r.1/\Sp h' h.size [F0]):=by
 unfold AWl at hp;refine cwf (l:=[_]) Tryz.func122 rfl rfl (AGq<|ATs<|AT2<|AGm ?_);have K0:=Kst.k0 h;obtain ⟨⟨x5,x6⟩,Av,Ac⟩:=AGr hp;dsimp only at Ac;refine AVs K0 (Ahj (H2.ext K0.x) Av) λBh E9 Aq=>AGm<|AUk rfl rfl (AUk rfl rfl (ATs<|AGx<|AGs<|AGq<|AGm<|AV5 rfl (AGu<|⟨_,rfl,λAd=>?_,λAd=>?_⟩)))
 ·refine AGq<|ATs<|AGx<|AG1<|ATd ?_;have Ae:=Kst.anil cZ 129 Aq;obtain rfl:=AGo<|ifT Ac Ad;exact ⟨_,AUp,Ae.x,_,_,rfl,(Ae.o p0),Ae.s.sel [0] AGn⟩
 ·refine AG0<|q_t<|AGq<|AGx<|AGs<|AGq<|AGx<|AGt ?_;have Ar:=Kst.anil cZ 129 Aq;refine AXv 4294934720 (λx:(LiA) × (Value) × LnA × (Int)=>(x.1,x.2.2.2)) (([],(.slice none 0 0),[],0):(LiA) × (Value) × LnA × (Int)) (AY5 Ac Ad) (λx=>[(6,x.2.1),(7,(.int .i64 x.2.2.2))]) (λx=>Ar.L.set 0<|aO cZ 129 x.2.2.1 x.2.1 x.1) Ar ⟨rfl,rfl,trivial⟩ ?_;rintro ⟨Bj,Bl,Bm,u32⟩ Bn Bo Bp Aa Af Aw;unfold Acr at Af;refine AGs<|AGq<|AGm<|AGm<|ATp rfl rfl (AGu<|⟨_,rfl,λAg=>?_,λAg=>?_⟩)
  ·refine AG0<|q_t<|AGs<|AGt<|AS8<|AGm<|AGm<|AGm<|AGm ?_;obtain ⟨Bq,Ax,Ay⟩:=AGr<|AT4 Af Ag;refine BGl Aa (Aht Ax) λBr Bt Bu Bv Az=>AGm<|AGm ?_;obtain ⟨Bw,A3,A4⟩:=AGr Ay;refine BGl Az (Aht A3) λBx By Bz B1 Ab=>?_;obtain ⟨B3,A5,A6⟩:=AGr A4;refine Agx Ab (Ahk (H2.ext Ab.x) (Ab.o p1).rd (Ab.o p0).rd A5) λB4 B5 B6 B7 B8 B9 Au=>?_;obtain ⟨Ca,A7,A8⟩:=AGr A6;refine Ahs Au (AVw (Au.o2 p0).rd A7) λCb Cd Ce Ah=>?_;obtain ⟨A9,Ba⟩:=ifN A8;refine Afm AWc AYd rfl rfl trivial tt2 (λ_=>rfl) rfl (Ah.z p0) (Ah.o p4) AGn A9 λCf Cg Ch Ci Bb Bc Be=>ATs<|ATu<|q_b<|q_t<|AS8<|AGm<|ATn rfl rfl (AGx ?_);exact ⟨(_,_,_,_),(AGo Ba).symm,(Ah.uo p4 Bc Bb Be).sel [4] AGn,rfl,rfl,trivial⟩
  ·refine ATh<|ATi<|ATi<|AUf<|q_t<|AGq<|AGm<|ATs<|AGx<|AG1 ?_;obtain rfl:=AGo<|Aw _ (AGo<|AT5 Af Ag).symm;exact ⟨_,AUp,Aa.x,_,_,rfl,(Aa.o p0),Aa.s.sel [0] AGn⟩
def Aba (fuel:Nat) (a3:LiI) (Ab Aa:Int):Option (Int ⊕ (Bool ⊕ Unit)):=
 if Aa < Ab then (gI a3 Ab).bind λAd=>(gI Ad Aa).bind λAe=>(gI a3 Aa).bind λAf=>(gI Af Ab).bind λAg=>(Awd fuel Ae Ag).bind λAh=>if ¬ Ah=0 then some (.inr<|.inl false) else some (.inl<|w64<|Aa + 1) else some<|.inr<|.inr ()
def Abb (fuel:Nat) (a3:LiI) (Aa:Int):Option (Int ⊕ (Bool ⊕ Unit)):=
 if Aa < (a3.length:Int) then (iter (λs=>Aba fuel a3 Aa s) fuel 0).bind (λex=>match ex with | .inl Ac=>(some<|.inr<|.inl Ac) | .inr _=>some<|.inl<|w64<|Aa + 1) else some<|.inr<|.inr ()
def AWt (fuel:Nat) (a3:LiI):Option Bool:=
 (iter (λs=>Abb fuel a3 s) fuel 0).bind (λex=>match ex with | .inl Ab=>(some Ab) | .inr _=>some true)
theorem Af7 {r:Bool} (H2:AV4 cZ h Ai a3) (hp:AWt fuel a3=some r):ATz Tryz.prog 118 #[Ai] h (λx h'=>Ext h h'/\x= .bool r):=by
 unfold AWt at hp;refine cwf (l:=[_]) Tryz.func118 rfl rfl (AGq<|AGx<|AGs<|AGq<|AGm<|AT3 AUy rfl H2 (AGm<|AGu<|AGt ?_));have K0:=Kst.k0 h;refine AYr 4294967196 hp (λx=>[(7,(.int .i64 x))]) (λx=>K0.L) K0 ⟨rfl,trivial⟩ ?_;rintro Bb Bc h8 y7 Ac Ad Am;unfold Abb at Ad;refine AGq<|ATp rfl rfl (AGu<|AGs<|⟨_,rfl,λAe=>?_,λAe=>?_⟩)
 ·refine AG0<|q_t<|AGs<|AGt<|AGq<|AGm<|AT2<|AGx<|AGt<|AYr 2147482644 (AT4 Ad Ae) (λx=>[(4,(.int .i64 x))]) (λx=>Ac.L) Ac ⟨rfl,trivial⟩ ?_;rintro Bg Bh Bi Bj Aa Af Ao;unfold Aba at Af;refine AGs<|AGq<|AGm<|AGm<|ATp rfl rfl (AGu<|⟨_,rfl,λAg=>?_,λAg=>?_⟩)
  ·refine AG0<|q_t<|AGs<|AGt<|AGs<|AXi<|AGm<|AGm ?_;obtain ⟨Bl,Av,Aw⟩:=AGr<|AT4 Af Ag;refine AZ1 AUy AW5 H2 Aa.x Av λ_ Bm Ax=>AGm ?_;obtain ⟨Bn,Ay,Az⟩:=AGr Aw;refine Adg (c:=cZ) AWc rfl Ax rfl Ay λBo Bp Bq Ap A3=>Agu (c:=cZ) AUm rfl (Aa.zx Ap) (λj u hu=>(ATw (A3 j u hu) Aa.x)) (AGm<|AGm ?_);obtain ⟨Br,A4,A5⟩:=AGr Az;refine AZ1 AUy AW5 H2 Aa.x A4 λ_ Bt A6=>AGm ?_;obtain ⟨Bu,A7,A8⟩:=AGr A5;refine Adg (c:=cZ) AWc rfl A6 rfl A7 λBv Bw Bx Aq A9=>Agu (c:=cZ) AUm rfl (Aa.zx Aq) (λj u hu=>(ATw (A9 j u hu) Aa.x)) ?_;obtain ⟨By,Ba,Ar⟩:=AGr A8;refine AVs Aa (Aun (Aa.zx Ap).2 (Aa.zx Aq).2 Ba) λBz B1 Au=>AVz rfl rfl (AGu<|⟨_,rfl,λAh=>?_,λAh=>?_⟩)
   ·refine AGq<|AGx<|AG1<|AUg<|ATd<|ATd<|AUg<|AUg<|ATd<|ATd<|AUg<|ATd ?_;obtain rfl:=AGo<|Am _ (AGo<|Ao _ (AGo<|AT4 Ar Ah).symm).symm;exact ⟨_,AS5,Au.x,rfl⟩
   ·refine AG0<|q_b<|q_t<|AS8<|AGm<|ATn rfl rfl (AGx ?_);exact ⟨_,(AGo<|AT5 Ar Ah).symm,Au,rfl,trivial⟩
  ·refine ATh<|ATi<|ATi<|AUf<|q_b<|q_t<|AS8<|ATn rfl rfl (AGm<|AGu ?_);exact ⟨_,(AGo<|Ao _ (AGo<|AT5 Af Ag).symm).symm,Aa,rfl,trivial⟩
 ·refine ATh<|ATi<|ATi<|AUf<|q_t<|AGq<|AGx<|AG1 ?_;obtain rfl:=AGo<|Am _ (AGo<|AT5 Ad Ae).symm;exact ⟨_,AS5,Ac.x,rfl⟩
def Abt (fuel:Nat) (x5:LiA) (Aa:Int):Option (Int ⊕ (Bool ⊕ Unit)):=
 if Aa < (x5.length:Int) then (gI x5 Aa).bind λAc=>(Ar4 fuel Ac).bind λAd=>if Ad<=0 then some (.inr<|.inl false) else some (.inl<|w64<|Aa + 1) else some<|.inr<|.inr ()
def AYt (fuel:Nat) (a3:LiI):Option Bool:=
 (AWl fuel a3).bind λ(x5,x6)=>((if (!x6)=true then some (.inl false) else (AWt fuel a3).bind λAd=>if (!Ad)=true then some (.inl false) else some<|.inr ()):Option (Bool ⊕ Unit)).bind (λex=>match ex with | .inl Ae=>(some Ae) | .inr _=>(iter (λs=>Abt fuel x5 s) fuel 0).bind (λex=>match ex with | .inl Af=>(some Af) | .inr _=>some true))
theorem Akh {Aj:Value} {r:Bool} (H2:AV4 cZ h Aj a3) (hp:AYt fuel a3=some r):ATz Tryz.prog 119 #[Aj] h (λx h'=>Ext h h'/\x= .bool r):=by
 unfold AYt at hp;refine cwf (l:=[_]) Tryz.func119 rfl rfl (AGq<|AT2<|AGm ?_);have K0:=Kst.k0 h;obtain ⟨⟨x5,x6⟩,A6,Ap⟩:=AGr hp;dsimp only at Ap;refine Agw rfl (Acs (H2.ext K0.x) A6) λBn Bo E9 A8=>?_;obtain ⟨Bp,Bq,rfl,A9,Ba⟩:=A8;refine AGm<|AUk rfl rfl (AUk rfl rfl (ATs<|AGx ?_));have Aa:=K0.no E9 Ba A9;obtain ⟨Bb,Aq,Ad⟩:=AGr Ap;refine Aer 520196 (λx:Unit=>[]) (λx h'=>(Sum.inr <| ())=Bb/\Kst h h' (Aa.L)) ?_ ?_
 ·refine AGq<|AGm<|AV5 rfl (AGm ?_);cases Ar:(!x6)
  ·refine ATc 14 false<|AGm<|ATc 14 false ?_;obtain ⟨Br,Bc,Au⟩:=AGr<|AY5 Aq Ar;refine AVs Aa (Af7 (H2.ext Aa.x) Bc) λBt Bu Av=>ATc 14 false<|AV5 rfl (AS6 rfl (AGu<|⟨_,rfl,λAe=>?_,λAe=>?_⟩))
   ·refine AGq<|AGx ?_;obtain rfl:=AGo<|ifT Au Ae;refine AG1<|ATd ?_;obtain rfl:=AGo Ad;exact ⟨_,AS5,Av.x,rfl⟩
   ·refine AG0<|q_t ?_;exact ⟨(():Unit),⟨AGo<|AY5 Au Ae,Av⟩,trivial⟩
  ·refine AWi 14 true<|ATf rfl (AGu<|ATx rfl (AGq<|AGx ?_));obtain rfl:=AGo<|ifT Aq Ar;refine AG1<|ATd ?_;obtain rfl:=AGo Ad;exact ⟨_,AS5,Aa.x,rfl⟩
 rintro ⟨⟩ Bv Bw ⟨Be,Af⟩;subst Be;refine AGs<|AGq<|AGm<|AUl AWc rfl (Af.o p0).rd (AGm<|AGu<|AGt<|AYr 534773828 Ad (λx=>[(21,(.int .i64 x))]) (λx=>Af.L) Af ⟨rfl,trivial⟩ ?_);rintro Bx By Bz B1 Ab Ag Aw;unfold Abt at Ag;refine AGq<|ATp rfl rfl (AGu<|AGs<|⟨_,rfl,λAh=>?_,λAh=>?_⟩)
 ·refine AG0<|q_t<|AGs<|AGt<|AGq ?_;obtain ⟨B3,Ax,Bf⟩:=AGr<|AT4 Ag Ah;refine Aq8 AWc rfl (Ab.o p0) rfl Ax λB4 Bg=>?_;obtain ⟨B5,Bh,Bi⟩:=(Ab.o p0).cells Bg Ax;have Ay:=Ab.az Bh;refine Agu (c:=cZ) AUm rfl (Ay.z p0) (λj u hu=>(Bi j u hu)) (AV6 Ay [.bool false,.slice none 0 0] AYd λB6 Bj B7 Az=>AZf Az p0 (ATk Bj) (Az.z p1) λB8 Ac=>Aal<|Aew (Ac.z p1) (Ac.b p0) ?_);obtain ⟨B9,Bl,A3⟩:=AGr Bf;refine AVs Ac (Are (Ac.z p1).2 Bl) λCa Cb A4=>Aqi rfl rfl (AGu<|⟨_,rfl,λAi=>?_,λAi=>?_⟩)
  ·refine AGq<|AGx<|AG1<|AUg<|ATd<|ATd<|AUg<|ATd ?_;obtain rfl:=AGo<|Aw _ (AGo<|AT4 A3 Ai).symm;exact ⟨_,AS5,A4.x,rfl⟩
  ·refine AG0<|q_b<|q_t<|AS8<|ATn rfl rfl (AGm<|AGu ?_);exact ⟨_,(AGo<|AT5 A3 Ai).symm,A4.sel [2] AGn,rfl,trivial⟩
 ·refine ATh<|ATi<|ATi<|AUf<|q_t<|AGq<|AGx<|AG1 ?_;obtain rfl:=AGo<|Aw _ (AGo<|AT5 Ag Ah).symm;exact ⟨_,AS5,Ab.x,rfl⟩
def AVt (fuel:Nat) (a3:LiI):Option Int:=
 (AWx fuel a3).bind λ(x5,x6)=>if (!x6)=true then some 3 else if 8 < x5 then some 3 else (AWt fuel a3).bind λAd=>if (!Ad)=true then some 4 else (AYt fuel a3).bind λAe=>if (!Ae)=true then some 5 else some 0
theorem Abu {r:Int} (H2:AV4 cZ h Ah a3) (hp:AVt fuel a3=some r):ATz Tryz.prog 61 #[Ah] h (λx h'=>Ext h h'/\x= .int .i64 r):=by
 unfold AVt at hp;refine cwf (l:=[_]) Tryz.func61 rfl rfl (AGq<|AT2<|AGm ?_);have K0:=Kst.k0 h;obtain ⟨⟨x5,x6⟩,Au,Ac⟩:=AGr hp;dsimp only at Ac;refine AVs K0 (Ahj (H2.ext K0.x) Au) λAy E9 Aa=>AGm<|AUk rfl rfl (AUk rfl rfl (ATs<|AGx<|AGs<|AGt<|AGq<|AGm<|AV5 rfl (AGm ?_)));cases Ak:(!x6)
 ·refine ATc 13 false<|AGm<|ATc 13 false<|AXr rfl rfl (AS6 rfl (AGx ?_));have Am:=AY5 Ac Ak;refine ⟨_,rfl,λAd=>?_,λAd=>?_⟩
  ·refine AGq<|AGx<|AG1<|AUg<|ATd ?_;obtain rfl:=AGo<|AT4 Am Ad;exact ⟨_,AS5,Aa.x,rfl⟩
  ·refine AGq<|AGm ?_;obtain ⟨A3,Av,Ao⟩:=AGr<|AT5 Am Ad;refine AVs Aa (Af7 (H2.ext Aa.x) Av) λA4 A5 Ae=>AV5 rfl (AGx<|⟨_,rfl,λAf=>?_,λAf=>?_⟩)
   ·refine AGq<|AGx<|AG1<|AUg<|ATd ?_;obtain rfl:=AGo<|ifT Ao Af;exact ⟨_,AS5,Ae.x,rfl⟩
   ·refine AGq<|AGm ?_;obtain ⟨A6,Aw,Ap⟩:=AGr<|AY5 Ao Af;refine AVs Ae (Akh (H2.ext Ae.x) Aw) λA7 A8 Aq=>AV5 rfl (AGx<|⟨_,rfl,λAg=>?_,λAg=>?_⟩)
    ·refine AGq<|AGx<|AG1<|AUg<|ATd ?_;obtain rfl:=AGo<|ifT Ap Ag;exact ⟨_,AS5,Aq.x,rfl⟩
    ·refine AG0<|q_b<|q_t<|AGq<|AGx<|AG1 ?_;obtain rfl:=AGo<|AY5 Ap Ag;exact ⟨_,AS5,Aq.x,rfl⟩
 ·refine Adc 13 true<|ATf rfl (AGx<|ATx rfl (AGq<|AGx<|AG1<|AUg<|ATd ?_));obtain rfl:=AGo<|ifT Ac Ak;exact ⟨_,AS5,Aa.x,rfl⟩
def AWu (fuel:Nat) (a3 a7:LiI):Option LiI:=
 (AWs fuel a7).bind λ(x9,Af)=>(AVi fuel x9 a3).bind λAd=>(AVi fuel Ad a7).bind λAe=>some Ae
theorem Aj8 {a7 r:LiI} (H2:AV4 cZ h Ad a3) (H6:AV4 cZ h Af a7) (hp:AWu fuel a3 a7=some r):ATz Tryz.prog 70 #[Ad,Af] h (λx h'=>Ext h h'/\ ∃ (x0:Value) (F0:List Nat) (Ap:List LnA) (Aq:List Value),x=x0/\AV8 cZ 146 129 h' F0 Ap Aq x0 r/\Sp h' h.size [F0]):=by
 unfold AWu at hp;refine cwf (l:=[_,_]) Tryz.func70 rfl rfl (AGq<|AT2<|AGm ?_);have K0:=Kst.k0 h;obtain ⟨⟨x9,A6⟩,Ar,Am⟩:=AGr hp;dsimp only at Am;refine Agw rfl (Af6 (H6.ext K0.x) Ar) λA7 A8 Au Av=>?_;obtain ⟨A9,Ba,Bb,Bc,rfl,Aw,Ax⟩:=Av;refine AGm<|AUk rfl rfl (AUk rfl rfl (ATs<|AT2<|AGm<|AGm ?_));have Aa:=K0.no2 Au Ax Aw;obtain ⟨Be,Ay,Az⟩:=AGr Am;refine Agx Aa (Acq (Aa.o2 p0).rd (H2.ext Aa.x) Ay) λBf Bg Bh Bi Bj Bl Ab=>AGm ?_;obtain ⟨Bm,A3,A4⟩:=AGr Az;refine Agx Ab (Acq (Ab.o2 p0).rd (H6.ext Ab.x) A3) λBn Bo Bp Bq Br Bt Ac=>AGx<|AG1 ?_;obtain rfl:=AGo A4;exact ⟨_,AS5,Ac.x,_,_,_,_,rfl,(Ac.o2 p0),Ac.s.sel [0] AGn⟩
def Adp (fuel:Nat) (a6:Int) (Ab Ac:LiA) (Aa:Int):Option ((LiA × LiA × Int) ⊕ (LiA × LiA)):=
 if Aa < a6 then if Ab.length<=100000000 then if Ac.length<=100000000 then some (.inl (Ab ++ [Aa],Ac ++ [Aa],w64<|Aa + 1)) else none else none else some<|.inr (Ab,Ac)
def AWy (fuel:Nat) (a3:LiI) (a5 a6:Int):Option Int:=
 (iter (λs=>Adp fuel a6 s.1 s.2.1 s.2.2) fuel ([],[],0)).bind (λ((Ab,Ac):LiA × LiA)=>if Ab.length<=100000000 then if Ac.length<=100000000 then (AXy fuel a3 (Ab ++ [a5])<|Ac ++ [a6]).bind λAf=>(AUd fuel Af).bind λAg=>some Ag else none else none)
theorem Adq {a6 r:Int} (H2:AV4 cZ h Ah a3) (hp:AWy fuel a3 a5 a6=some r):ATz Tryz.prog 129 #[Ah,(.int .i64 a5),(.int .i64 a6)] h (λx h'=>Ext h h'/\ ∃ (x0:Value),x=x0/\ZZ h' x0 r):=by
 unfold AWy at hp;refine cwf (l:=[_,_,_]) Tryz.func129 rfl rfl (AGq<|AV6 (Kst.k0 h) [.bool false,.slice none 0 0] AYd λb7 h8 Bt Au=>Aal<|ATs<|AGx<|AGs<|AGq<|AGx<|AGt ?_);have Ak:=Kst.anil (cI .i64) 3<|Kst.anil (cI .i64) 3 Au;refine AXv 8388480 (λx:(LiA) × (Value) × LnA × (LiA) × (Value) × LnA × (Int)=>(x.1,x.2.2.2.1,x.2.2.2.2.2.2)) (([],(.slice none 0 0),[],[],(.slice none 0 0),[],0):(LiA) × (Value) × LnA × (LiA) × (Value) × LnA × (Int)) hp (λx=>[(7,x.2.1),(8,x.2.2.2.2.1),(9,(.int .i64 x.2.2.2.2.2.2))]) (λx=>(Ak.L.set 1<|aO (cI .i64) 3 x.2.2.1 x.2.1 x.1).set 0 (aO (cI .i64) 3 x.2.2.2.2.2.1 x.2.2.2.2.1 x.2.2.2.1)) Ak ⟨rfl,rfl,rfl,trivial⟩ ?_;rintro ⟨Bu,Bv,Bw,Bx,By,Bz,u32⟩ B1 B3 B4 Ac Af Av;unfold Adp at Af;refine AGs<|AGq<|AGm<|AGm<|ATp rfl rfl (AGu<|⟨_,rfl,λAg=>?_,λAg=>?_⟩)
 ·refine AG0<|q_t<|AGs<|AGt<|AGq<|AGm<|AGm ?_;obtain ⟨Aw,Ax⟩:=ifN<|AT4 Af Ag;refine Afm Ap6 Aqg rfl rfl trivial tt2 (λ_=>rfl) rfl (show ((cI .i64)).rep _ u32 [(.int .i64 u32)] from rfl) (Ac.o p1) AGn Aw λB5 B6 B7 B8 Ay Az A3=>AGx<|AS8<|AGm<|AGm ?_;have Am:=Ac.uo p1 Az Ay A3;obtain ⟨A4,A5⟩:=ifN Ax;refine Afm Ap6 Aqg rfl rfl trivial tt2 (λ_=>rfl) rfl (show ((cI .i64)).rep _ u32 [(.int .i64 u32)] from rfl) (Am.o p0) AGn A4 λB9 Ca Cb Cd A6 A7 A8=>ATs<|ATu<|q_b<|q_t<|AS8<|AGm<|ATn rfl rfl (AGx ?_);exact ⟨(_,_,_,_,_,_,_),(AGo A5).symm,(Am.uo p0 A7 A6 A8),rfl,rfl,rfl,trivial⟩
 ·refine ATh<|ATi<|ATi<|AUf<|q_t<|AGq<|AGm<|AGm<|AGm ?_;obtain ⟨A9,Ba⟩:=ifN<|Av _ (AGo<|AT5 Af Ag).symm;refine Afm Ap6 Aqg rfl rfl trivial tt2 (λ_=>rfl) rfl (show ((cI .i64)).rep _ a5 [(.int .i64 a5)] from rfl) (Ac.o p1) AGn A9 λCe Cf Cg Ch Bb Bc Be=>AGm<|AGm ?_;have Ao:=Ac.uo p1 Bc Bb Be;obtain ⟨Bf,Bg⟩:=ifN Ba;refine Afm Ap6 Aqg rfl rfl trivial tt2 (λ_=>rfl) rfl (show ((cI .i64)).rep _ a6 [(.int .i64 a6)] from rfl) (Ao.o p0) AGn Bf λCi Cj Ck Cm Bh Bi Bj=>?_;have Ad:=Ao.uo p0 Bi Bh Bj;obtain ⟨Cn,Bl,Bm⟩:=AGr Bg;refine Agx Ad (Ahk (H2.ext Ad.x) (Ad.o p1).rd (Ad.o p0).rd Bl) λCo Cp Cq Cr Ct Cu Ap=>?_;obtain ⟨Cv,Bn,Bo⟩:=AGr Bm;refine Ahs Ap (AVw (Ap.o2 p0).rd Bn) λCw Bp Cx Aq=>AZf Aq p4 (ATk Bp) (Aq.z p0) λCy Ae=>AGu<|AG1 ?_;obtain rfl:=AGo Bo;exact ⟨_,AVk AUm (cZ.klen<|Ae.z p0) rfl (Ae.b p4),Ae.x,_,rfl,(Ae.z p0).2⟩
def AVj (fuel:Nat) (a3:LiA) (a5:Int):Option Int:=
 if a5=0 then (Aen fuel 1).bind λAc=>some Ac else (gI a3<|w64<|a5 - 1).bind λAd=>some Ad
theorem AW3 {a3:LiA} {r:Int} (H2:SlC cZ h Af a3) (hp:AVj fuel a3 a5=some r):ATz Tryz.prog 130 #[Af,(.int .i64 a5)] h (λx h'=>Ext h h'/\ ∃ (x0:Value),x=x0/\ZZ h' x0 r):=by
 unfold AVj at hp;refine cwf (l:=[_,_]) Tryz.func130 rfl rfl (AGq<|AV6 (Kst.k0 h) [.bool false,.slice none 0 0] AYd λb6 h7 E9 Aa=>AGu<|AGs<|AGq<|AGm<|AU0 rfl rfl (AGu<|⟨_,rfl,λAe=>?_,λAe=>?_⟩))
 ·refine AGq ?_;obtain ⟨Ay,Ao,Ap⟩:=AGr<|AT4 hp Ae;refine Ahs Aa (Ad0 Ao) λAz Aq A3 Aj=>AZf Aj p1 (ATk Aq) (Aj.z p0) λA4 Ab=>AGu<|AG1<|ATd ?_;obtain rfl:=AGo Ap;exact ⟨_,AVk AUm (cZ.klen<|Ab.z p0) rfl (Ab.b p1),Ab.x,_,rfl,(Ab.z p0).2⟩
 ·refine AG0<|q_t<|AGq<|AGm<|AGm<|AVh rfl rfl ?_;obtain ⟨A5,Ar,Au⟩:=AGr<|AT5 hp Ae;refine Adg (c:=cZ) AWc rfl H2 rfl Ar λA6 A7 A8 Ac Av=>Agu (c:=cZ) AUm rfl (Aa.zx Ac) (λj u hu=>(ATw (Av j u hu) Aa.x)) (AZf Aa p0 (ATk h7) (Aa.zx Ac) λA9 Ad=>AGu<|AG1 ?_);obtain rfl:=AGo Au;exact ⟨_,AVk AUm (cZ.klen<|Ad.zx Ac) rfl (Ad.b p0),Ad.x,_,rfl,(Ad.zx Ac).2⟩
def AYm (fuel:Nat) (a3:LiI) (a7:LiA) (a9 Aa:Int):Option Bool:=
 (Aen fuel 2).bind λAe=>(AWy fuel a3 a9 Aa).bind λAf=>(A28 fuel Af).bind λAg=>(Ak7 fuel Ae Ag).bind λAh=>(AVj fuel a7<|w64<|Aa + 1).bind λAi=>(Awd fuel Ah Ai).bind λAj=>some<|decide (Aj<=0)
theorem Ahu {a7:LiA} {Ah:Int} {r:Bool} (H2:AV4 cZ h Ac a3) (H6:SlC cZ h Ae a7) (hp:AYm fuel a3 a7 a9 Ah=some r):ATz Tryz.prog 123 #[Ac,Ae,(.int .i64 a9),(.int .i64 Ah)] h (λx h'=>Ext h h'/\x= .bool r):=by
 unfold AYm at hp;refine cwf (l:=[_,_,_,_]) Tryz.func123 rfl rfl (AGq<|AT2 ?_);obtain ⟨A7,Ap,Aq⟩:=AGr hp;refine Ahs (Kst.k0 h) (Ad0 Ap) λA8 A9 Ba Ai=>AGm<|AGm<|AGm ?_;obtain ⟨Bb,Ar,Au⟩:=AGr Aq;refine Ahs Ai (Adq (H2.ext Ai.x) Ar) λBc Be Bf Aj=>?_;obtain ⟨Bg,Av,Aw⟩:=AGr Au;refine Ahs Aj (A1p (Aj.z p0).2 Av) λBh Bi Bj Aa=>?_;obtain ⟨Bl,Ax,Ay⟩:=AGr Aw;refine Ahs Aa (Aj6 (Aa.z p2).2 (Aa.z p0).2 Ax) λBm Bn Bo Ak=>AGm<|AGm<|ATn rfl rfl ?_;obtain ⟨Bp,Az,A3⟩:=AGr Ay;refine Ahs Ak (AW3 (H6.ext Ak.x) Az) λBq Br Bt Ab=>?_;obtain ⟨Bu,A4,A5⟩:=AGr A3;refine AVs Ab (Aun (Ab.z p1).2 (Ab.z p0).2 A4) λBv Bw A6=>Aqi rfl rfl (AGx<|AG1 ?_);obtain rfl:=AGo A5;exact ⟨_,AS5,A6.x,rfl⟩
def AYn (fuel:Nat) (a3:LiI):Option Bool:=
 (AUd fuel a3).bind λx5=>(Aen fuel 10000).bind λAc=>(Awd fuel x5 Ac).bind λAd=>some<|decide (Ad<=0)
theorem Ahv {r:Bool} (H2:AV4 cZ h Ab a3) (hp:AYn fuel a3=some r):ATz Tryz.prog 62 #[Ab] h (λx h'=>Ext h h'/\x= .bool r):=by
 unfold AYn at hp;refine cwf (l:=[_]) Tryz.func62 rfl rfl (AGq<|AT2<|AGm ?_);have K0:=Kst.k0 h;obtain ⟨x5,Af,Ag⟩:=AGr hp;refine Ahs K0 (AVw (H2.ext K0.x) Af) λAq h9 E8 Ah=>?_;obtain ⟨Av,Ai,Aj⟩:=AGr Ag;refine Ahs Ah (Ad0 Ai) λAw Ax Ay Aa=>?_;obtain ⟨Az,Ak,Am⟩:=AGr Aj;refine AVs Aa (Aun (Aa.z p1).2 (Aa.z p0).2 Ak) λA3 A4 Ao=>Aqi rfl rfl (AGx<|AG1 ?_);obtain rfl:=AGo Am;exact ⟨_,AS5,Ao.x,rfl⟩
def Ae0 (fuel:Nat) (a1:Int) (a2:Bool) (Aa:Int) (Ac:LiI):Option ((Int × LiI) ⊕ LiI):=
 if Aa < ((List.replicate (Int.toNat a1) ([]:List Int)).length:Int) then if 0<=a1/\a1<=100000000 then (gI Ac Aa).bind λAi=>(gI (sI Ac Aa<|List.replicate (Int.toNat a1) (0:Int)) Aa).bind λAe=>(gI Ae Aa).bind λAj=>((if a2=true then if Aa=w64 (a1 - 1) then if 3 < a1 then some (w64<|Aa - 2) else some (w64<|Aa - 1) else some (w64<|Aa - 1) else some<|w64<|Aa - 1):Option Int).bind (λ(Ad:Int)=>if 0<=Ad then (gI (sI (sI Ac Aa<|List.replicate (Int.toNat a1) (0:Int)) Aa<|sI Ae Aa 2) Aa).bind λAf=>(gI (sI (sI Ac Aa<|List.replicate (Int.toNat a1) (0:Int)) Aa<|sI Ae Aa 2) Ad).bind λAk=>(gI Af Ad).bind λAm=>(gI (sI (sI (sI Ac Aa<|List.replicate (Int.toNat a1) (0:Int)) Aa<|sI Ae Aa 2) Aa<|sI Af Ad<|-1) Ad).bind λAg=>(gI Ag Aa).bind λAo=>some (.inl (w64<|Aa + 1,sI (sI (sI (sI Ac Aa<|List.replicate (Int.toNat a1) (0:Int)) Aa<|sI Ae Aa 2) Aa<|sI Af Ad<|-1) Ad<|sI Ag Aa<|-1)) else some<|.inl (w64<|Aa + 1,sI (sI Ac Aa<|List.replicate (Int.toNat a1) (0:Int)) Aa<|sI Ae Aa 2)) else none else some<|.inr Ac
def AY8 (fuel:Nat) (a1:Int) (a2:Bool):Option LiI:=
 if 0<=a1/\a1<=100000000 then (iter (λs=>Ae0 fuel a1 a2 s.1 s.2) fuel (0,List.replicate (Int.toNat a1) ([]:List Int))).bind (λ(Ac:LiI)=>some Ac) else none
theorem Aid {a2:Bool} {r:LiI} (hp:AY8 fuel a1 a2=some r):ATz Tryz.prog 73 #[(.int .i64 a1),(.bool a2)] h (λx h'=>Ext h h'/\ ∃ (x0:Value) (F0:List Nat) (A5:List LnA) (A6:List Value),x=x0/\AV8 (cI .i64) 61 2 h' F0 A5 A6 x0 r/\Sp h' h.size [F0]):=by
 unfold AY8 at hp;refine cwf (l:=[_,_]) Tryz.func73 rfl rfl (AGq<|AT2<|AGm ?_);obtain ⟨A7,A8⟩:=ifN hp;refine Ak0 (cI .i64) 2 ATb Aet rfl trivial tt2 rfl rfl AGn A7 λA9 Ba Bb v9 h7 I8 E5 S6=>AGx<|AGs<|AGq<|AGm ?_;have Ai:=(Kst.k0 h).no2 E5 S6 I8;refine AT3 ATb rfl (Ai.o2 p0).rd (AGm<|AGu<|AGt<|AXv 72057594037924032 (λx:(Int) × (LiI) × LnA × LnN × LvA=>(x.1,x.2.1)) ((0,(List.replicate (Int.toNat a1) ([]:List Int)),A9,Ba,Bb):(Int) × (LiI) × LnA × LnN × LvA) A8 (λx=>[(12,(.int .i64 x.1))]) (λx=>Ai.L.set 0<|aO2 (cI .i64) 61 2 x.2.2.1 x.2.2.2.1 x.2.2.2.2 v9 x.2.1) Ai ⟨rfl,trivial⟩ ?_);rintro ⟨Aa,Cj,Ck,Cm,Cn⟩ Co Cp Cq Ae Aj Bh;unfold Ae0 at Aj;refine AGq<|ATp rfl rfl (AGu<|AGs<|⟨_,rfl,λAk=>?_,λAk=>?_⟩)
 ·refine AG0<|q_t<|AGs<|AGt<|AGq<|AGm<|AT2<|AGm<|AGm<|AGm ?_;obtain ⟨Bi,Bj⟩:=ifN<|AT4 Aj Ak;refine Ajb (c:=(cI .i64)) (a:=0) ATa Abm rfl rfl (λ_=>rfl) rfl trivial tt2 rfl rfl AGn Bi λCr Ct Cu Bl Bm Bn Bo=>?_;have Ab:=Ae.no Bm (AYh Bn Bo) Bl;obtain ⟨Cv,Ar,Bp⟩:=AGr Bj;refine AVv ATb rfl (Ab.o2 p1) rfl Ar λCw Cx Bq Cy Cz=>Akz ATq (Ab.o2 p1) Ar Bq rfl rfl (Ab.o p0) (Ab.dj p0 p1 AGn) λC0 Br Bt Bu=>Aal<|AGm<|AGm ?_;have Au:=Ab.m2 p0 p1 AGn Bt Br λz hz=> .inl<|Bu z hz;obtain ⟨C1,Av,Bv⟩:=AGr Bp;refine AUo ATb ATq (Au.o2 p1) Av λ_ C2 Bw=>AGm ?_;obtain ⟨C3,Bx,By⟩:=AGr Bv;refine AZ0 (m:=Aa) Au p1 ATa ATg Bw Av Bx (λ_=>rfl) λ_ C4 Ac=>Aal<|AGm<|AVh rfl rfl (AGx ?_);obtain ⟨Bz,Aw,Ax⟩:=AGr By;refine Aer 2198754820224 (λx:(Int)=>[(7,(.int .i64 x))]) (λx h'=>( x)=Bz/\Kst h h' (AZ3 Ac.L [1])) ?_ ?_
  ·refine AGq<|AGm<|AGm ?_;cases Ay:a2
   ·refine AWe 29 false<|AS6 rfl (AGm<|Adc 35 false<|AS6 rfl (AGu<|AT0 rfl (AG0<|q_t ?_)));exact ⟨((w64<|Aa - 1):(Int)),⟨AGo<|AY5 Aw Ay,Ac.sel [1] AGn⟩,rfl,trivial⟩
   ·refine ATc 29 true<|AGm<|ATc 29 true<|AGm<|ATc 29 true<|AVh rfl rfl (ATc 29 true<|AU0 rfl rfl (ATf rfl (AGm ?_)));have Az:=ifT Aw Ay;by_cases Af:Aa=(w64<|a1 - 1)
    ·have A3:=ifT Az Af;rw [decide_eq_true Af];refine ATc 35 true<|AGm<|ATc 35 true<|AXr rfl rfl (ATf rfl (AGu<|⟨_,rfl,λAm=>?_,λAm=>?_⟩))
     ·refine AS8<|AGm<|AVh rfl rfl (AGx ?_);exact ⟨((w64<|Aa - 2):(Int)),⟨AGo<|AT4 A3 Am,Ac.sel [1] AGn⟩,rfl,trivial⟩
     ·refine AG0<|q_t ?_;exact ⟨((w64<|Aa - 1):(Int)),⟨AGo<|AT5 A3 Am,Ac.sel [1] AGn⟩,rfl,trivial⟩
    ·rw [decide_eq_false Af];refine Adc 35 false<|AS6 rfl (AGu<|AT0 rfl (AG0<|q_t ?_));exact ⟨((w64<|Aa - 1):(Int)),⟨AGo<|ifF Az Af,Ac.sel [1] AGn⟩,rfl,trivial⟩
  rintro B1 C5 C6 ⟨B3,Ag⟩;subst B3;refine AGq<|AGm<|Afp rfl rfl (AGu<|⟨_,rfl,λAo=>?_,λAo=>?_⟩)
  ·refine AXi<|AGm<|AGm ?_;obtain ⟨C7,A4,B4⟩:=AGr<|AT4 Ax Ao;refine AUo ATb ATq (Ag.o2 p0) A4 λ_ C8 B5=>AGm<|AGm<|AGm ?_;obtain ⟨C9,B6,B7⟩:=AGr B4;refine AUo ATb ATq (Ag.o2 p0) B6 λ_ Da B8=>AGm ?_;obtain ⟨Db,B9,Ca⟩:=AGr B7;refine AZ0 (m:=Aa) Ag p0 ATa ATg B5 A4 B9 (λ_=>rfl) λ_ Dc Cb=>?_;obtain ⟨Dd,Cd,Ce⟩:=AGr Ca;obtain ⟨De,Cf,Cg⟩:=AGr Ce;refine AZ0 (m:=B1) Cb p0 ATa ATg B8 Cd Cf (λ_=>rfl) λ_ Df Ch=>ATu<|q_b<|q_t<|AS8<|ATn rfl rfl (AGm<|AGu ?_);exact ⟨(_,_,_,_,_),(AGo Cg).symm,Ch,rfl,trivial⟩
  ·refine AG0<|q_b<|q_t<|AS8<|ATn rfl rfl (AGm<|AGu ?_);exact ⟨(_,_,_,_,_),(AGo<|AT5 Ax Ao).symm,Ag,rfl,trivial⟩
 ·refine ATh<|ATi<|ATi<|AUf<|q_t<|AGq<|AGm<|AGx<|AG1 ?_;obtain rfl:=AGo<|Bh _ (AGo<|AT5 Aj Ak).symm;exact ⟨_,AS5,Ae.x,_,_,_,_,rfl,(Ae.o2 p0),Ae.s.sel [0] AGn⟩
def Abg (fuel:Nat) (a3:LiI):Option Bool:=
 (AWw fuel a3).bind λx5=>(AVt fuel x5).bind λAc=>if Ac=0 then (AUd fuel x5).bind λAd=>(Aen fuel 10000).bind λAe=>(Awd fuel Ad Ae).bind λAf=>some (decide (Af<=0)) else some false
theorem Ans {r:Bool} (H2:AV4 (cI .i64) h Ad a3) (hp:Abg fuel a3=some r):ATz Tryz.prog 76 #[Ad] h (λx h'=>Ext h h'/\x= .bool r):=by
 unfold Abg at hp;refine cwf (l:=[_]) Tryz.func76 rfl rfl (AGq<|AT2<|AGm ?_);have K0:=Kst.k0 h;obtain ⟨x5,Aj,Ak⟩:=AGr hp;refine Agx K0 (Ac3 (H2.ext K0.x) Aj) λA3 A4 A5 A6 h9 E8 Ag=>AT2<|AGm ?_;obtain ⟨Am,Ao,Ah⟩:=AGr Ak;refine AVs Ag (Abu (Ag.o2 p0).rd Ao) λA9 Ba Ab=>AU0 rfl rfl (AGm ?_);by_cases Aa:Am=0
 ·rw [decide_eq_true Aa];refine ATc 9 true<|AGm<|ATc 9 true ?_;obtain ⟨Bb,Ap,Aq⟩:=AGr<|ifT Ah Aa;refine Ahs Ab (AVw (Ab.o2 p0).rd Ap) λBc Be Bf Ar=>ATc 9 true ?_;obtain ⟨Bg,Au,Av⟩:=AGr Aq;refine Ahs Ar (Ad0 Au) λBh Bi Bj Ac=>ATc 9 true ?_;obtain ⟨Bl,Aw,Ax⟩:=AGr Av;refine AVs Ac (Aun (Ac.z p1).2 (Ac.z p0).2 Aw) λBm Bn Ay=>ATc 9 true<|Aqi rfl rfl (ATf rfl (AGx<|AG1 ?_));obtain rfl:=AGo Ax;exact ⟨_,AS5,Ay.x,rfl⟩
 ·rw [decide_eq_false Aa];refine AY2 9 false<|AS6 rfl (AGx<|AG1 ?_);obtain rfl:=AGo<|ifF Ah Aa;exact ⟨_,AS5,Ab.x,rfl⟩
def Aft (fuel:Nat) (Ab Aa:Int):Option ((Int × Int) ⊕ Int):=
 (Ar4 fuel Aa).bind λAc=>if ¬ Ac=0 then (AW7 fuel Ab Aa).bind λAd=>some (.inl (Aa,Ad)) else some<|.inr Ab
def Abh (fuel:Nat) (a1 a5:Int):Option Int:=
 (A28 fuel a1).bind λAc=>(A28 fuel a5).bind λAd=>(iter (λs=>Aft fuel s.1 s.2) fuel (Ac,Ad)).bind (λ(Ae:Int)=>some Ae)
theorem Ant {Au:Value} {r:Int} (H3:ZZ h Aq a1) (H7:ZZ h Au a5) (hp:Abh fuel a1 a5=some r):ATz Tryz.prog 212 #[Aq,Au] h (λx h'=>Ext h h'/\ ∃ (x0:Value),x=x0/\ZZ h' x0 r):=by
 unfold Abh at hp;obtain ⟨Bj,rfl,Ax⟩:=H3.cs;obtain ⟨Bl,rfl,Ay⟩:=H7.cs;refine cwf (l:=[_,_]) Tryz.func212 rfl rfl (AGq<|AY3 (Kst.k0 h) Bj λb9 Cp Cq Bm=>AY3 Bm Bl λCr Ct Cu Bn=>AV6 Bn [.bool false,.slice none 0 0] AYd λCv Ak Cw Ab=>AGu<|AGs ?_);have Am:UpT [] Ak Ak:=UpT.start all_nil;refine Apm (B:=λh'=>UpT [] Ak h') 4 [⟨5,129,[.bool false,.slice none 0 0]⟩,⟨6,129,[.bool false,.slice none 0 0]⟩] (λ_ _ U E=>U.thenE E) AG2 Am (A1j rfl rfl AYd rfl AYd rfl (λ_ _ U E=>U.thenE E))<|h_l rfl (Aib (Ab.zx Ax) Am (Ab.b p2)<|ATu<|h_e rfl λCx Az=>?_);have A3:=Ab.e Az;obtain ⟨Bo,Bp,Bq⟩:=AGr hp;refine AYq A3 (Am.thenE Az) (A1p (A3.zx Ax).2 Bp) λA4 Cy Br A5 A6=>ATu ⟨Br,?_⟩;refine h_l rfl (Aib (A5.zx Ay) A6 (Ab.b p1)<|ATu<|h_e rfl λCz A7=>?_);have A8:=A5.e A7;obtain ⟨Bt,Bu,Bv⟩:=AGr Bq;refine AYq A8 (A6.thenE A7) (A1p (A8.zx Ay).2 Bu) λA9 C0 Bw Bx By=>ATu ⟨Bw,?_⟩;refine Awa λBz Ba=>BD6 λB1 B3 Bb Bc B4 B5 B6 C1 C2=>?_;have Be:=Bx.e Ba;have Ae:=((Ab.nb2 (By.thenE Ba).ext (A1k B5 B6 Bb.lt Bc.lt B4) Bb Bc).az (Be.z p1)).az (Be.z p0);refine AVa A4 AUm (cZ.klen<|Ae.z p1) (cZ.klen<|ATk Bz) rfl rfl (cZ.one<|Ae.z p1) (Ae.b p2) λB7 B8 B9=>?_;have Af:=Ae.sb p2 B9 B8 rfl;refine AVa A9 AUm (cZ.klen<|Af.z p0) (cZ.klen<|ATk B7) rfl rfl (cZ.one<|Af.z p0) (Af.b p3) λC3 Ca Cb=>AGu<|AGs<|AGt ?_;have Ao:=(Af.sb p3 Cb Ca rfl).sel [0,1,2,3,4] AGn;dsimp only [AZ3,Adk] at Ao;refine AXv 260096 (λx:(Int) × LvA × (Int) × LvA=>(x.1,x.2.2.1)) ((Bo,A4,Bt,A9):(Int) × LvA × (Int) × LvA) Bv (λx=>[]) (λx=>(((Ao.L.set 1<|aZ x.2.1 x.1).set 0 (aZ x.2.2.2 x.2.2.1)).set 2 (aB 129 B1 x.2.1)).set 3 (aB 129 B3 x.2.2.2)) Ao trivial ?_;rintro ⟨C4,C5,C6,Cd⟩ C7 C8 C9 Ag Bf Ce;unfold Aft at Bf;refine AGs<|AGq<|Aew (Ag.z p0) (Ag.b p3) ?_;obtain ⟨Da,Cf,Bg⟩:=AGr Bf;refine AVs Ag (Are (Ag.z p0).2 Cf) λAh Db Aa=>AVz rfl rfl (AGu<|⟨_,rfl,λAp=>?_,λAp=>?_⟩)
 ·refine AG0<|q_t<|AGt<|AVn (λh'=>UpT [] Ah h') AG2 ?_;have Ai:UpT [] Ah Ah:=UpT.start all_nil;refine Aib (Aa.z p0) Ai (Aa.b p3)<|Aib (Aa.z p1) Ai (Aa.b p2)<|Aib (Aa.z p0) Ai (Aa.b p3) ?_;obtain ⟨Dc,Cg,Ch⟩:=AGr<|AT4 Bg Ap;refine AYq Aa Ai (Aix (Aa.z p1).2 (Aa.z p0).2 Cg) λCi Dd De Ac Df=>AVa Cd AUm (cZ.klen<|Ac.z p1) (cZ.klen<|Ac.z p2) rfl rfl (cZ.one<|Ac.z p1) (Ac.b p3) λDg Cj Ck=>?_;have Ad:=Ac.sb p3 Ck Cj rfl;refine AVa Ci AUm (cZ.klen<|Ad.z p0) (cZ.klen<|Ad.z p1) rfl rfl (cZ.one<|Ad.z p0) (Ad.b p4) λDh Cm Cn=>ATu<|q_b<|q_t ?_;exact ⟨(_,_,_,_),(AGo Ch).symm,(Ad.sb p4 Cn Cm rfl).sel [0,1,3,4,5] AGn,trivial⟩
 ·refine ATh<|ATi<|ATi<|AUf<|q_t<|AGq<|Aew (Aa.z p1) (Aa.b p2)<|AZf Aa p4 (ATk Ah) (Aa.z p1) λDi Aj=>AGu<|AG1 ?_;obtain rfl:=AGo<|Ce _ (AGo<|AT5 Bg Ap).symm;exact ⟨_,AVk AUm (cZ.klen<|Aj.z p1) rfl (Aj.b p4),Aj.x,_,rfl,(Aj.z p1).2⟩
def AZx (fuel:Nat) (a1 a5:Int):Option ((Int × Int) × Bool):=
 (Ar4 fuel a5).bind λAf=>if Af=0 then some ((0,0),false) else (((Ar4 fuel a5).bind λAg=>if Ag < 0 then (Azh fuel a1).bind λAh=>(Azh fuel a5).bind λAi=>some (Ah,Ai) else some (a1,a5)):Option (Int × Int)).bind (λ((Ac,Ad):Int × Int)=>(Abh fuel Ac Ad).bind λAe=>(AV2 fuel Ac Ae).bind λAj=>(AV2 fuel Ad Ae).bind λAk=>some ((Aj,Ak),true))
theorem Aiy {A4:Value} {A5:Value} {r:((Int × Int) × Bool)} (H3:ZZ h A4 a1) (H7:ZZ h A5 a5) (hp:AZx fuel a1 a5=some r):ATz Tryz.prog 201 #[A4,A5] h (λx h'=>Ext h h'/\ ∃ (x0:Value),x= .tuple #[x0,.bool r.2]/\As5 h' x0 r.1.1 r.1.2):=by
 unfold AZx at hp;obtain ⟨A7,rfl,Am⟩:=H3.cs;obtain ⟨A8,rfl,Ab⟩:=H7.cs;refine cwf (l:=[_,_]) Tryz.func201 rfl rfl (AGq<|AY3 (Kst.k0 h) A7 λb9 Cq Cr Bo=>AY3 Bo A8 λBp Ct Cu Bq=>AV6 Bq [.bool false,.slice none 0 0,.bool false,.slice none 0 0] Aj7 λCv Cw Cx Ao=>AGx<|AGs<|AGq<|Aew (Ao.zx Ab) (Ao.b p1) ?_);obtain ⟨Cy,Br,A9⟩:=AGr hp;refine AVs Ao (Are (Ao.zx Ab).2 Br) λAg Cz Ad=>AU0 rfl rfl (AGu<|⟨_,rfl,λAu=>?_,λAu=>?_⟩)
 ·refine AGq<|AXa (A1l )<|AVa ([Value.bool false,Value.slice none 0 0] ++ [Value.bool false,Value.slice none 0 0]) AZi (AVe (ATk Ag)<|ATk Ag) (AVe (ATk Ag)<|ATk Ag) rfl rfl (Agk (ATk Ag)<|ATk Ag) (Ad.b p0) λAp Bt Bu=>AGx<|AG1<|ATd ?_;have Ba:=Ad.sb p0 Bu Bt rfl;obtain rfl:=AGo<|AT4 A9 Au;exact ⟨_,Ani AZi (AVe (ATk Ap)<|ATk Ap) rfl (Ba.b p0),Ba.x,_,rfl,⟨_,_,rfl,(ATk Ap),(ATk Ap)⟩⟩
 ·refine AG0<|q_t ?_;obtain ⟨Bv,Bw,Bx⟩:=AGr<|AT5 A9 Au;refine Aer 260096 (λx:(Int) × LvA × (Int) × LvA=>[]) (λx h'=>( (x.1,x.2.2.1))=Bv/\Kst h h' (aZ x.2.1 x.1 :: aZ x.2.2.2 x.2.2.1 :: ((Ad.L.set 2<|aB 129 b9 x.2.1).set 1 (aB 129 Bp x.2.2.2)))) ?_ ?_
  ·refine AGq<|Aew (Ad.zx Ab) (Ad.b p1) ?_;obtain ⟨C0,By,Bb⟩:=AGr Bw;refine AVs Ad (Are (Ad.zx Ab).2 By) λAv C1 Ae=>ATp rfl rfl (AGu<|⟨_,rfl,λAw=>?_,λAw=>?_⟩)
   ·refine AVn (λh'=>UpT [] Av h') AG2 ?_;have Bc:UpT [] Av Av:=UpT.start all_nil;refine Aib (Ae.zx Am) Bc (Ae.b p2) ?_;obtain ⟨Bz,B1,B3⟩:=AGr<|AT4 Bb Aw;refine AYq Ae Bc (Axn (Ae.zx Am).2 B1) λBe C2 C3 Ax Bf=>Aib (Ax.zx Ab) Bf (Ae.b p1) ?_;obtain ⟨B4,B5,B6⟩:=AGr B3;refine AYq Ax Bf (Axn (Ax.zx Ab).2 B5) λBg C4 C5 Ai C6=>AVa Be AUm (cZ.klen<|Ai.z p1) (cZ.klen<|Ai.zx Am) rfl rfl (cZ.one<|Ai.z p1) (Ai.b p4) λC7 B7 B8=>?_;have Aj:=Ai.sb p4 B8 B7 rfl;refine AVa Bg AUm (cZ.klen<|Aj.z p0) (cZ.klen<|Aj.zx Ab) rfl rfl (cZ.one<|Aj.z p0) (Aj.b p3) λC8 B9 Ca=>AGu ?_;exact ⟨((Bz,Be,B4,Bg):(Int) × LvA × (Int) × LvA),⟨AGo B6,(Aj.sb p3 Ca B9 rfl).sel [1,0,2,3,4] AGn⟩,trivial⟩
   ·refine AG0<|q_t ?_;have Bh:=Ae.az<|Ae.zx Am;exact ⟨((a1,A7,a5,A8):(Int) × LvA × (Int) × LvA),⟨AGo<|AT5 Bb Aw,(Bh.az<|Bh.zx Ab).sel [1,0,2,3,4] AGn⟩,trivial⟩
  rintro ⟨C9,Da,Db,Dc⟩ Dd De ⟨Cb,Af⟩;subst Cb;refine AGq<|Aew (Af.z p0) (Af.b p4)<|Aew (Af.z p1) (Af.b p3) ?_;obtain ⟨Df,Cd,Ce⟩:=AGr Bx;refine Ahs Af (Ant (Af.z p0).2 (Af.z p1).2 Cd) λDg Dh Di Cf=>AV6 Cf [.bool false,.slice none 0 0] AYd λDj Cg Dk Bi=>AZf Bi p0 (ATk Cg) (Bi.z p1) λAy Aa=>AGu<|AGs<|AVn (λh'=>UpT [] Ay h') AG2 ?_;have Az:UpT [] Ay Ay:=UpT.start all_nil;refine Aib (Aa.z p2) Az (Aa.b p6)<|Aib (Aa.z p1) Az (Aa.b p0) ?_;obtain ⟨Dl,Ch,Ci⟩:=AGr Ce;refine AYq Aa Az (Abn (Aa.z p2).2 (Aa.z p1).2 Ch) λCj Do Dp Ak A3=>Aib (Ak.z p4) A3 (Aa.b p5)<|Aib (Ak.z p2) A3 (Aa.b p0) ?_;obtain ⟨Dq,Ck,Cm⟩:=AGr Ci;refine AYq Ak A3 (Abn (Ak.z p4).2 (Ak.z p2).2 Ck) λCn Bj Dr Ac Ds=>AXa (Apo (Ac.z p1)<|Ac.z p0)<|AVa (Cj ++ Cn) AZi (AVe (Ac.z p1)<|Ac.z p0) (AVe (ATk Bj)<|ATk Bj) rfl rfl (Agk (Ac.z p1)<|Ac.z p0) (Ac.b p6) λDt Co Cp=>AGx<|AG1 ?_;have Ah:=Ac.sb p6 Cp Co rfl;obtain rfl:=AGo Cm;exact ⟨_,Ani AZi (AVe (Ah.z p1)<|Ah.z p0) rfl (Ah.b p6),Ah.x,_,rfl,⟨_,_,rfl,(Ah.z p1),(Ah.z p0)⟩⟩
def Agg (fuel:Nat) (a1:Int):Option (Int × Int):=
 (Al0 fuel a1).bind λAb=>(Aen fuel 1).bind λAc=>some (Ab,Ac)
theorem Amf {r:(Int × Int)} (H3:ZZ h Ad a1) (hp:Agg fuel a1=some r):ATz Tryz.prog 213 #[Ad] h (λx h'=>Ext h h'/\ ∃ (x0:Value),x=x0/\As5 h' x0 r.1 r.2):=by
 unfold Agg at hp;obtain ⟨Aj,rfl,Ag⟩:=H3.cs;refine cwf (l:=[_]) Tryz.func213 rfl rfl (AGq<|AY3 (Kst.k0 h) Aj λb5 h6 E8 Ak=>AV6 Ak [.bool false,.slice none 0 0,.bool false,.slice none 0 0] Aj7 λA4 A5 A6 Ac=>Aal<|Aew (Ac.zx Ag) (Ac.b p1) ?_);obtain ⟨A7,Am,Ao⟩:=AGr hp;refine Ahs Ac (Anp (Ac.zx Ag).2 Am) λAp A8 A9 Aq=>?_;obtain ⟨Ba,Ar,Au⟩:=AGr Ao;refine Ahs Aq (Ad0 Ar) λAv Ah Bb Aa=>AXa (Apo (Aa.z p1)<|Aa.z p0)<|AVa (Ap ++ Av) AZi (AVe (Aa.z p1)<|Aa.z p0) (AVe (ATk Ah)<|ATk Ah) rfl rfl (Agk (Aa.z p1)<|Aa.z p0) (Aa.b p2) λBc Aw Ax=>AGu<|AG1 ?_;have Ab:=Aa.sb p2 Ax Aw rfl;obtain rfl:=AGo Au;exact ⟨_,AVk AZi (AVe (Ab.z p1)<|Ab.z p0) rfl (Ab.b p2),Ab.x,_,rfl,⟨_,_,rfl,(Ab.z p1),(Ab.z p0)⟩⟩
def Agh (fuel:Nat) (a1:Int):Option (Int × Int):=
 (Aen fuel a1).bind λx9=>(Agg fuel x9).bind λAa=>some (Aa.1,Aa.2)
theorem Amg {r:(Int × Int)} (hp:Agh fuel a1=some r):ATz Tryz.prog 202 #[(.int .i64 a1)] h (λx h'=>Ext h h'/\ ∃ (x0:Value),x=x0/\As5 h' x0 r.1 r.2):=by
 unfold Agh at hp;refine cwf (l:=[_]) Tryz.func202 rfl rfl (AGq<|AV6 (Kst.k0 h) [.bool false,.slice none 0 0,.bool false,.slice none 0 0] Aj7 λb2 h3 E5 K8=>Aal<|AGm ?_);obtain ⟨x9,Ah,Ai⟩:=AGr hp;refine Ahs K8 (Ad0 Ah) λA5 A6 A7 Ae=>?_;obtain ⟨A8,Aj,Ak⟩:=AGr Ai;refine Agw rfl (Amf (Ae.z p0).2 Aj) λA9 Af Am Ao=>?_;obtain ⟨Ba,rfl,Ap⟩:=Ao;obtain ⟨Aq,Ar,rfl,Au,Av⟩:=Ap;have Aa:=((Ae.e Am).az Au).az Av;refine AVa (Aq ++ Ar) AZi (AVe (Aa.z p1)<|Aa.z p0) (AVe (ATk Af)<|ATk Af) rfl rfl (Agk (Aa.z p1)<|Aa.z p0) (Aa.b p3) λBb Aw Ax=>AGu<|AG1 ?_;have Ab:=Aa.sb p3 Ax Aw rfl;obtain rfl:=AGo Ak;exact ⟨_,AVk AZi (AVe (Ab.z p1)<|Ab.z p0) rfl (Ab.b p3),Ab.x,_,rfl,⟨_,_,rfl,(Ab.z p1),(Ab.z p0)⟩⟩
def AVm (fuel:Nat) (a3 a5:Int):Option (Int × Int):=
 (AZx fuel a3 a5).bind λ(Aa,Ae)=>if (!Ae)=true then (Agh fuel 0).bind λAb=>some (Ab.1,Ab.2) else some (Aa.1,Aa.2)
theorem AYx {a3:Int} {r:(Int × Int)} (H2:As5 h Ak a3 a5) (hp:AVm fuel a3 a5=some r):ATz Tryz.prog 183 #[Ak] h (λx h'=>Ext h h'/\ ∃ (x0:Value),x=x0/\As5 h' x0 r.1 r.2):=by
 unfold AVm at hp;obtain ⟨Aq,Ar,rfl,H2z0,H2z1⟩:=H2;refine cwf (l:=[_]) Tryz.func183 rfl rfl (AGq<|AY3 (Kst.k0 h) (Aq ++ Ar) λb7 h8 Br Ay=>AV6 Ay [.bool false,.slice none 0 0,.bool false,.slice none 0 0] Aj7 λBt Bu Bv Ab=>Aal<|AY4 (fs:=2) Atf AG2 AGn rfl (Abd Aq AUm (cZ.klen<|Ab.zx H2z0) rfl ((Ab.b p1).aggL) (AY4 (fs:=2) Apn AG2 AGn rfl (Abd Ar AUm (cZ.klen<|Ab.zx H2z1) rfl ((Ab.b p1).aggR (cZ.klen<|Ab.zx H2z0)) ?_))));obtain ⟨⟨Bw,Bx⟩,Az,Ag⟩:=AGr hp;dsimp only at Ag;refine Agw rfl (Aiy (Ab.zx H2z0).2 (Ab.zx H2z1).2 Az) λBy Bz A3 A4=>?_;obtain ⟨B1,rfl,A5⟩:=A4;obtain ⟨Ah,Ai,rfl,A6,A7⟩:=A5;refine AGm<|AUk rfl rfl (AUk rfl rfl (AV6 (((Ab.e A3).az A6).az A7) [.bool false,.slice none 0 0,.bool false,.slice none 0 0] Aj7 λB3 Au B4 Ac=>AVa (Ah ++ Ai) AZi (AVe (Ac.z p2)<|Ac.z p1) (AVe (ATk Au)<|ATk Au) rfl rfl (Agk (Ac.z p2)<|Ac.z p1) (Ac.b p0) λAv A8 A9=>AGx<|AGs<|AGq<|AGm<|AV5 rfl (AGu ?_)));have Aa:=Ac.sb p0 A9 A8 rfl;refine ⟨_,rfl,λAj=>?_,λAj=>?_⟩
 ·refine AGq ?_;obtain ⟨B5,Ba,Bb⟩:=AGr<|ifT Ag Aj;refine Agw rfl (Amg Ba) λB6 Aw Bc Be=>?_;obtain ⟨B7,rfl,Bf⟩:=Be;obtain ⟨Bg,Bh,rfl,Bi,Bj⟩:=Bf;have Ad:=((Aa.e Bc).az Bi).az Bj;refine AVa (Bg ++ Bh) AZi (AVe (Ad.z p1)<|Ad.z p0) (AVe (ATk Aw)<|ATk Aw) rfl rfl (Agk (Ad.z p1)<|Ad.z p0) (Ad.b p5) λB8 Bl Bm=>AGu<|AG1<|ATd ?_;have Ae:=Ad.sb p5 Bm Bl rfl;obtain rfl:=AGo Bb;exact ⟨_,AVk AZi (AVe (Ae.z p1)<|Ae.z p0) rfl (Ae.b p5),Ae.x,_,rfl,⟨_,_,rfl,(Ae.z p1),(Ae.z p0)⟩⟩
 ·refine AG0<|q_t<|AGq<|Abd (Ah ++ Ai) AZi (AVe (Aa.z p2)<|Aa.z p1) rfl ((Aa.b p0).agg) (AVa (Ah ++ Ai) AZi (AVe (Aa.z p2)<|Aa.z p1) (AVe (ATk Av)<|ATk Av) rfl rfl (Agk (Aa.z p2)<|Aa.z p1) (Aa.b p3) λB9 Bn Bo=>AGu<|AG1 ?_);have Af:=Aa.sb p3 Bo Bn rfl;obtain rfl:=AGo<|AY5 Ag Aj;exact ⟨_,AVk AZi (AVe (Af.z p2)<|Af.z p1) rfl (Af.b p3),Af.x,_,rfl,⟨_,_,rfl,(Af.z p2),(Af.z p1)⟩⟩
def AYu (fuel:Nat) (a1 a5:Int):Option (Int × Int):=
 (AVm fuel a1 a5).bind λAa=>some (Aa.1,Aa.2)
theorem Aki {r:(Int × Int)} (H3:ZZ h Af a1) (H7:ZZ h Ah a5) (hp:AYu fuel a1 a5=some r):ATz Tryz.prog 128 #[Af,Ah] h (λx h'=>Ext h h'/\ ∃ (x0:Value),x=x0/\As5 h' x0 r.1 r.2):=by
 unfold AYu at hp;obtain ⟨Ap,rfl,Ad⟩:=H3.cs;obtain ⟨Aq,rfl,Ae⟩:=H7.cs;refine cwf (l:=[_,_]) Tryz.func128 rfl rfl (AGq<|AY3 (Kst.k0 h) Ap λb9 Ba Bb Ar=>AY3 Ar Aq λBc Be Bf Au=>AV6 Au [.bool false,.slice none 0 0,.bool false,.slice none 0 0] Aj7 λBg Bh Bi Aa=>Aal<|Aew (Aa.zx Ad) (Aa.b p2)<|Aew (Aa.zx Ae) (Aa.b p1)<|AXa (Apo (Aa.zx Ad)<|Aa.zx Ae) ?_);obtain ⟨Bj,Av,Aw⟩:=AGr hp;refine Agw rfl (AYx ⟨_,_,rfl,(Aa.zx Ad),(Aa.zx Ae)⟩ Av) λBl Ak Ax Ay=>?_;obtain ⟨Bm,rfl,Az⟩:=Ay;obtain ⟨A3,A4,rfl,A5,A6⟩:=Az;have Ab:=((Aa.e Ax).az A5).az A6;refine AVa (A3 ++ A4) AZi (AVe (Ab.z p1)<|Ab.z p0) (AVe (ATk Ak)<|ATk Ak) rfl rfl (Agk (Ab.z p1)<|Ab.z p0) (Ab.b p2) λBn A7 A8=>AGu<|AG1 ?_;have Ac:=Ab.sb p2 A8 A7 rfl;obtain rfl:=AGo Aw;exact ⟨_,AVk AZi (AVe (Ac.z p1)<|Ac.z p0) rfl (Ac.b p2),Ac.x,_,rfl,⟨_,_,rfl,(Ac.z p1),(Ac.z p0)⟩⟩
def Ad1 (fuel:Nat):Option (Int × Int):=
 (Aen fuel 1).bind λx8=>(Aen fuel 2).bind λAb=>some (x8,Ab)
theorem Amu {r:(Int × Int)} (hp:Ad1 fuel=some r):ATz Tryz.prog 182 #[] h (λx h'=>Ext h h'/\ ∃ (x0:Value),x=x0/\As5 h' x0 r.1 r.2):=by
 unfold Ad1 at hp;refine cwf (l:=[]) Tryz.func182 rfl rfl (AGq<|AV6 (Kst.k0 h) [.bool false,.slice none 0 0,.bool false,.slice none 0 0] Aj7 λb1 h2 E4 K7=>Aal ?_);obtain ⟨x8,Af,Ag⟩:=AGr hp;refine Ahs K7 (Ad0 Af) λAh Aw Ax Ai=>?_;obtain ⟨Ay,Aj,Ak⟩:=AGr Ag;refine Ahs Ai (Ad0 Aj) λAm Ad Az Aa=>AXa (Apo (Aa.z p1)<|Aa.z p0)<|AVa (Ah ++ Am) AZi (AVe (Aa.z p1)<|Aa.z p0) (AVe (ATk Ad)<|ATk Ad) rfl rfl (Agk (Aa.z p1)<|Aa.z p0) (Aa.b p2) λA3 Ao Ap=>AGu<|AG1 ?_;have Ab:=Aa.sb p2 Ap Ao rfl;obtain rfl:=AGo Ak;exact ⟨_,AVk AZi (AVe (Ab.z p1)<|Ab.z p0) rfl (Ab.b p2),Ab.x,_,rfl,⟨_,_,rfl,(Ab.z p1),(Ab.z p0)⟩⟩
def Aeo (fuel:Nat) (a3 a5 a9 Ag:Int):Option (Int × Int):=
 (AVm fuel a3 a5).bind λAa=>(AVm fuel a9 Ag).bind λAb=>(Ak7 fuel Aa.1 Ab.2).bind λAh=>(Ak7 fuel Ab.1 Aa.2).bind λAi=>(A23 fuel Ah Ai).bind λAj=>(Ak7 fuel Aa.2 Ab.2).bind λAk=>(AZx fuel Aj Ak).bind λ(Ac,Am)=>some (Ac.1,Ac.2)
theorem Anu {Bh:Value} {a3:Int} {Bl:Value} {Bn:Int} {r:(Int × Int)} (H2:As5 h Bh a3 a5) (H8:As5 h Bl a9 Bn) (hp:Aeo fuel a3 a5 a9 Bn=some r):ATz Tryz.prog 181 #[Bh,Bl] h (λx h'=>Ext h h'/\ ∃ (x0:Value),x=x0/\As5 h' x0 r.1 r.2):=by
 unfold Aeo at hp;obtain ⟨Bp,Bq,rfl,H2z0,H2z1⟩:=H2;obtain ⟨Br,Bt,rfl,H8z0,H8z1⟩:=H8;refine cwf (l:=[_,_]) Tryz.func181 rfl rfl (AGq<|AY3 (Kst.k0 h) (Bp ++ Bq) λD0 D1 D2 Cj=>AY3 Cj (Br ++ Bt) λD3 D4 D5 Ck=>AV6 Ck [.bool false,.slice none 0 0,.bool false,.slice none 0 0] Aj7 λD6 Ao D7 Ac=>AGu<|AGs ?_);have Ap:UpT [] Ao Ao:=UpT.start all_nil;refine Apm (B:=λh'=>UpT [] Ao h') 4 [⟨5,158,[.bool false,.slice none 0 0,.bool false,.slice none 0 0]⟩,⟨6,158,[.bool false,.slice none 0 0,.bool false,.slice none 0 0]⟩] (λ_ _ U E=>U.thenE E) AG2 Ap (A1j rfl rfl Aj7 rfl Aj7 rfl (λ_ _ U E=>U.thenE E))<|h_l rfl (Acm (Bp ++ Bq) AZi (AVe (Ac.zx H2z0)<|Ac.zx H2z1) rfl Ap (λh' hb=>((Ac.b p2).ext hb.ext).agg) (ATu<|h_e rfl λD8 Bu=>?_));have Aq:=Ap.thenE Bu;have Ar:=Ac.e Bu;obtain ⟨D9,Cm,Cn⟩:=AGr hp;refine AYj Aq (λ_ E=>Aq.thenE E) rfl (AYx ⟨_,_,rfl,(Ar.zx H2z0),(Ar.zx H2z1)⟩ Cm) λEa Eb Au Co=>?_;obtain ⟨Ec,rfl,Cp⟩:=Co;have Bv:=Aq.thenE Au;obtain ⟨Bw,Av,rfl,Cq,Cr⟩:=Cp;have Aw:=((Ar.e Au).az Cq).az Cr;refine ATu ⟨Au,?_⟩;refine h_l rfl (Acm (Br ++ Bt) AZi (AVe (Aw.zx H8z0)<|Aw.zx H8z1) rfl Bv (λh' hb=>((Ac.b p1).ext hb.ext).agg) (ATu<|h_e rfl λEd Bx=>?_));have Ax:=Bv.thenE Bx;have Ay:=Aw.e Bx;obtain ⟨Ee,Ct,Cu⟩:=AGr Cn;refine AYj Ax (λ_ E=>Ax.thenE E) rfl (AYx ⟨_,_,rfl,(Ay.zx H8z0),(Ay.zx H8z1)⟩ Ct) λEf Eg Az Cv=>?_;obtain ⟨Eh,rfl,Cw⟩:=Cv;have Cx:=Ax.thenE Az;obtain ⟨By,A3,rfl,Cy,Cz⟩:=Cw;refine ATu ⟨Az,?_⟩;refine Awa λBz B1=>BD6 λEi Ej B3 B4 C0 C1 C2 Ek El=>?_;have Aj:=(((Ay.e Az).az Cy).az Cz).e B1;have Ad:=((((Ac.nb2 (Cx.thenE B1).ext (A1k C1 C2 B3.lt B4.lt C0) B3 B4).az (Aj.z p3)).az (Aj.z p2)).az (Aj.z p1)).az (Aj.z p0);refine AVa (Bw ++ Av) AZi (AVe (Ad.z p3)<|Ad.z p2) (AVe (ATk Bz)<|ATk Bz) rfl rfl (Agk (Ad.z p3)<|Ad.z p2) (Ad.b p4) λB5 C3 C4=>?_;have Ae:=Ad.sb p4 C4 C3 rfl;refine AVa (By ++ A3) AZi (AVe (Ae.z p1)<|Ae.z p0) (AVe (ATk B5)<|ATk B5) rfl rfl (Agk (Ae.z p1)<|Ae.z p0) (Ae.b p5) λA4 C5 C6=>AGu<|AGs ?_;have Aa:=Ae.sb p5 C6 C5 rfl;have Ak:UpT [] A4 A4:=UpT.start all_nil;refine Apm (B:=λh'=>UpT [] A4 h') 20 [⟨7,158,[.bool false,.slice none 0 0,.bool false,.slice none 0 0]⟩] (λ_ _ U E=>U.thenE E) AG2 Ak (A1i rfl Aj7 rfl (λ_ _ U E=>U.thenE E))<|h_l rfl (AY4 (fs:=2) Atf AG2 AGn rfl (ATu<|h_l rfl (Acm Bw AUm (cZ.klen<|Aa.z p3) rfl Ak (λh' hb=>((Aa.b p4).ext hb.ext).aggL) (ATu<|h_l rfl (AY4 (fs:=2) Apn AG2 AGn rfl (ATu<|h_l rfl (Acm A3 AUm (cZ.klen<|Aa.z p0) rfl Ak (λh' hb=>((Aa.b p5).ext hb.ext).aggR (cZ.klen<|Aa.z p1)) (ATu<|h_e rfl λEm B6=>?_))))))));have A5:=Aa.e B6;obtain ⟨En,C7,C8⟩:=AGr Cu;refine AYq A5 (Ak.thenE B6) (Aj6 (A5.z p3).2 (A5.z p0).2 C7) λEo Ep C9 Am A6=>ATu ⟨C9,?_⟩;refine h_l rfl (AY4 (fs:=2) Atf AG2 AGn rfl (ATu<|h_l rfl (Acm By AUm (cZ.klen<|Am.z p2) rfl A6 (λh' hb=>((Aa.b p5).ext hb.ext).aggL) (ATu<|h_l rfl (AY4 (fs:=2) Apn AG2 AGn rfl (ATu<|h_l rfl (Acm Av AUm (cZ.klen<|Am.z p3) rfl A6 (λh' hb=>((Aa.b p4).ext hb.ext).aggR (cZ.klen<|Am.z p4)) (ATu<|h_e rfl λEr B7=>?_))))))));have A7:=Am.e B7;obtain ⟨Es,Da,Db⟩:=AGr C8;refine AYq A7 (A6.thenE B7) (Aj6 (A7.z p2).2 (A7.z p3).2 Da) λEt Eu Dc Dd De=>ATu ⟨Dc,?_⟩;refine h_e rfl λEv B8=>?_;have A8:=Dd.e B8;obtain ⟨Ew,Df,Dg⟩:=AGr Db;refine AYq A8 (De.thenE B8) (A1f (A8.z p1).2 (A8.z p0).2 Df) λEy Ez Dh Ai A9=>ATu ⟨Dh,?_⟩;refine h_l rfl (AY4 (fs:=2) Apn AG2 AGn rfl (ATu<|h_l rfl (Acm Av AUm (cZ.klen<|Ai.z p5) rfl A9 (λh' hb=>((Aa.b p4).ext hb.ext).aggR (cZ.klen<|Ai.z p6)) (ATu<|h_l rfl (AY4 (fs:=2) Apn AG2 AGn rfl (ATu<|h_l rfl (Acm A3 AUm (cZ.klen<|Ai.z p3) rfl A9 (λh' hb=>((Aa.b p5).ext hb.ext).aggR (cZ.klen<|Ai.z p4)) (ATu<|h_e rfl λFa B9=>?_))))))));have Ba:=Ai.e B9;obtain ⟨Fb,Di,Dj⟩:=AGr Dg;refine AYq Ba (A9.thenE B9) (Aj6 (Ba.z p5).2 (Ba.z p3).2 Di) λFc Fd Dk Dl Do=>ATu ⟨Dk,?_⟩;refine h_e rfl λFe Ca=>?_;have Bb:=Do.thenE Ca;have Bc:=Dl.e Ca;obtain ⟨⟨Ff,Fg⟩,Dp,Cb⟩:=AGr Dj;dsimp only at Cb;refine AYj Bb (λ_ E=>Bb.thenE E) rfl (Aiy (Bc.z p1).2 (Bc.z p0).2 Dp) λFh Fi Be Dq=>?_;obtain ⟨Fj,rfl,Dr⟩:=Dq;have Ds:=Bb.thenE Be;obtain ⟨Bf,Bg,rfl,Dt,Du⟩:=Dr;refine ATu ⟨Be,?_⟩;refine h_l rfl (AGm<|ATu<|h_l rfl (AUk rfl rfl (ATu<|h_l rfl (AUk rfl rfl (ATu<|Awa λCd Ce=>BD5 λFk Cf Dv Fl=>?_)))));have Af:=(((Bc.e Be).az Dt).az Du).e Ce;have Ag:=((((((Aa.nb (Ds.thenE Ce).ext (AYh Dv Cf.lt) Cf).az (Af.z p5)).az (Af.z p4)).az (Af.z p3)).az (Af.z p2)).az (Af.z p1)).az (Af.z p0);refine AVa (Bf ++ Bg) AZi (AVe (Ag.z p1)<|Ag.z p0) (AVe (ATk Cd)<|ATk Cd) rfl rfl (Agk (Ag.z p1)<|Ag.z p0) (Ag.b p6) λCg Dw Dx=>AT2 ?_;have Ab:=Ag.sb p6 Dx Dw rfl;refine Abd (Bf ++ Bg) AZi (AVe (Ab.z p1)<|Ab.z p0) rfl ((Ab.b p6).agg) (AVa (Bf ++ Bg) AZi (AVe (Ab.z p1)<|Ab.z p0) (AVe (ATk Cg)<|ATk Cg) rfl rfl (Agk (Ab.z p1)<|Ab.z p0) (Ab.b p13) λFm Dy Dz=>AGu<|AG1 ?_);have Ah:=Ab.sb p13 Dz Dy rfl;obtain rfl:=AGo Cb;exact ⟨_,AVk AZi (AVe (Ah.z p1)<|Ah.z p0) rfl (Ah.b p13),Ah.x,_,rfl,⟨_,_,rfl,(Ah.z p1),(Ah.z p0)⟩⟩
def Ac4 (fuel:Nat) (a3 a5:Int):Option Int:=
 (AVm fuel a3 a5).bind λAa=>(AV2 fuel Aa.1 Aa.2).bind λAd=>some Ad
theorem Amh {a3 r:Int} (H2:As5 h Ae a3 a5) (hp:Ac4 fuel a3 a5=some r):ATz Tryz.prog 180 #[Ae] h (λx h'=>Ext h h'/\ ∃ (x0:Value),x=x0/\ZZ h' x0 r):=by
 unfold Ac4 at hp;obtain ⟨Ai,Aj,rfl,H2z0,H2z1⟩:=H2;refine cwf (l:=[_]) Tryz.func180 rfl rfl (AGq<|AY3 (Kst.k0 h) (Ai ++ Aj) λb7 h8 Bb Ar=>AV6 Ar [.bool false,.slice none 0 0] AYd λBc Be Bf Ab=>Aal<|Abd (Ai ++ Aj) AZi (AVe (Ab.zx H2z0)<|Ab.zx H2z1) rfl ((Ab.b p1).agg) ?_);obtain ⟨Bg,Au,Av⟩:=AGr hp;refine Agw rfl (AYx ⟨_,_,rfl,(Ab.zx H2z0),(Ab.zx H2z1)⟩ Au) λBh Bi Aw Ax=>?_;obtain ⟨Bj,rfl,Ay⟩:=Ax;obtain ⟨Ak,Am,rfl,Az,A3⟩:=Ay;refine AV6 (((Ab.e Aw).az Az).az A3) [.bool false,.slice none 0 0,.bool false,.slice none 0 0] Aj7 λBl Ao Bm Ac=>AVa (Ak ++ Am) AZi (AVe (Ac.z p2)<|Ac.z p1) (AVe (ATk Ao)<|ATk Ao) rfl rfl (Agk (Ac.z p2)<|Ac.z p1) (Ac.b p0) λBn A4 A5=>Aal<|AY4 (fs:=2) Atf AG2 AGn rfl ?_;have Aa:=Ac.sb p0 A5 A4 rfl;refine Abd Ak AUm (cZ.klen<|Aa.z p2) rfl ((Aa.b p0).aggL) (AY4 (fs:=2) Apn AG2 AGn rfl (Abd Am AUm (cZ.klen<|Aa.z p1) rfl ((Aa.b p0).aggR (cZ.klen<|Aa.z p2)) ?_));obtain ⟨Bo,A6,A7⟩:=AGr Av;refine Ahs Aa (Abn (Aa.z p2).2 (Aa.z p1).2 A6) λBp A8 Bq Ap=>AZf Ap p4 (ATk A8) (Ap.z p0) λBr Ad=>AGu<|AG1 ?_;obtain rfl:=AGo A7;exact ⟨_,AVk AUm (cZ.klen<|Ad.z p0) rfl (Ad.b p4),Ad.x,_,rfl,(Ad.z p0).2⟩
def AY9 (fuel:Nat) (a3 a5:Int):Option Int:=
 (Ad1 fuel).bind λAa=>(Aeo fuel a3 a5 Aa.1 Aa.2).bind λAb=>(Ac4 fuel Ab.1 Ab.2).bind λAe=>some Ae
theorem Ak9 {a3 r:Int} (H2:As5 h Ai a3 a5) (hp:AY9 fuel a3 a5=some r):ATz Tryz.prog 127 #[Ai] h (λx h'=>Ext h h'/\ ∃ (x0:Value),x=x0/\ZZ h' x0 r):=by
 unfold AY9 at hp;obtain ⟨Ao,Ap,rfl,H2z0,H2z1⟩:=H2;refine cwf (l:=[_]) Tryz.func127 rfl rfl (AGq<|AY3 (Kst.k0 h) (Ao ++ Ap) λb7 h8 Bm Av=>AV6 Av [.bool false,.slice none 0 0] AYd λBn Af Bo Ab=>AGu<|AGs<|AVn (λh'=>UpT [] Af h') AG2 ?_);have Ac:UpT [] Af Af:=UpT.start all_nil;refine Acm (Ao ++ Ap) AZi (AVe (Ab.zx H2z0)<|Ab.zx H2z1) rfl Ac (λh' hb=>((Ab.b p1).ext hb.ext).agg) ?_;obtain ⟨Bp,Aw,Ax⟩:=AGr hp;refine AYj Ac (λ_ E=>Ac.thenE E) rfl (Amu Aw) λBq Br Aq Ay=>?_;obtain ⟨Bt,rfl,Az⟩:=Ay;have Ag:=Ac.thenE Aq;obtain ⟨Bu,Bv,rfl,A3,A4⟩:=Az;have Aa:=((Ab.e Aq).az A3).az A4;obtain ⟨Bw,A5,A6⟩:=AGr Ax;refine AYj Ag (λ_ E=>Ag.thenE E) rfl (Anu ⟨_,_,rfl,(Aa.zx H2z0),(Aa.zx H2z1)⟩ ⟨_,_,rfl,(Aa.z p1),(Aa.z p0)⟩ A5) λBx By Ar A7=>?_;obtain ⟨Bz,rfl,A8⟩:=A7;have A9:=Ag.thenE Ar;obtain ⟨B1,B3,rfl,Ba,Bb⟩:=A8;have Ah:=((Aa.e Ar).az Ba).az Bb;obtain ⟨B4,Bc,Be⟩:=AGr A6;refine AYq Ah A9 (Amh ⟨_,_,rfl,(Ah.z p1),(Ah.z p0)⟩ Bc) λBf Bg B5 Ad B6=>AVa Bf AUm (cZ.klen<|Ad.z p0) (cZ.klen<|ATk Bg) rfl rfl (cZ.one<|Ad.z p0) (Ad.b p5) λB7 Bh Bi=>AGu<|AG1 ?_;have Ae:=Ad.sb p5 Bi Bh rfl;obtain rfl:=AGo Be;exact ⟨_,AVk AUm (cZ.klen<|Ae.z p0) rfl (Ae.b p5),Ae.x,_,rfl,(Ae.z p0).2⟩
def AX3 (fuel:Nat) (a3:LiI) (a7:LiA) (a9:Int):Option Bool:=
 (AWy fuel a3 a9<|w64<|a9 - 1).bind λAc=>(Aen fuel 4).bind λAe=>(AVj fuel a7<|w64<|a9 - 1).bind λAf=>(AVj fuel a7<|w64<|a9 + 1).bind λAg=>(Ak7 fuel Af Ag).bind λAh=>(Ak7 fuel Ac Ac).bind λAi=>(A23 fuel Ah Ai).bind λAj=>(Ak7 fuel Ae Aj).bind λAk=>(Aen fuel 3).bind λAm=>(AVj fuel a7 a9).bind λAo=>(AVj fuel a7 a9).bind λAp=>(Ak7 fuel Ao Ap).bind λAq=>(Ak7 fuel Am Aq).bind λAr=>(Awd fuel Ak Ar).bind λAu=>some<|decide (0<=Au)
theorem Ahl {Au:Value} {Aw:Value} {a7:LiA} {r:Bool} (H2:AV4 cZ h Au a3) (H6:SlC cZ h Aw a7) (hp:AX3 fuel a3 a7 a9=some r):ATz Tryz.prog 124 #[Au,Aw,(.int .i64 a9)] h (λx h'=>Ext h h'/\x= .bool r):=by
 unfold AX3 at hp;refine cwf (l:=[_,_,_]) Tryz.func124 rfl rfl (AGq<|AT2<|AGm<|AGm<|AGm<|AVh rfl rfl ?_);have K0:=Kst.k0 h;obtain ⟨Dg,Bm,Bn⟩:=AGr hp;refine Ahs K0 (Adq (H2.ext K0.x) Bm) λDh Di Dj Bo=>AV6 Bo [.bool false,.slice none 0 0] AYd λDk Bp Dl A3=>AZf A3 p0 (ATk Bp) (A3.z p1) λAe Ac=>AGu<|AGs ?_;have A4:UpT [] Ae Ae:=UpT.start all_nil;refine Apm (B:=λh'=>UpT [] Ae h') 15 [⟨8,129,[.bool false,.slice none 0 0]⟩] (λ_ _ U E=>U.thenE E) AG2 A4 (A1i rfl AYd rfl (λ_ _ U E=>U.thenE E))<|h_e rfl λDo A5=>?_;obtain ⟨Dp,Bq,Br⟩:=AGr Bn;refine AYq (Ac.e A5) (A4.thenE A5) (Ad0 Bq) λDq Dr Bt Bu Bv=>ATu ⟨Bt,?_⟩;refine h_l rfl (AGm<|ATu<|h_l rfl (AGm<|ATu<|h_l rfl (AVh rfl rfl (ATu<|h_e rfl λDs A6=>?_))));have A7:=Bu.e A6;obtain ⟨Dt,Bw,Bx⟩:=AGr Br;refine AYq A7 (Bv.thenE A6) (AW3 (H6.ext A7.x) Bw) λDu Dv By Bz B1=>ATu ⟨By,?_⟩;refine h_l rfl (AGm<|ATu<|h_l rfl (AGm<|ATu<|h_l rfl (ATn rfl rfl (ATu<|h_e rfl λDw A8=>?_))));have A9:=Bz.e A8;obtain ⟨Dx,B3,B4⟩:=AGr Bx;refine AYq A9 (B1.thenE A8) (AW3 (H6.ext A9.x) B3) λDy Dz B5 B6 B7=>ATu ⟨B5,?_⟩;refine h_e rfl λD0 Ba=>?_;have Af:=B6.e Ba;obtain ⟨D1,B8,B9⟩:=AGr B4;refine AYq Af (B7.thenE Ba) (Aj6 (Af.z p1).2 (Af.z p0).2 B8) λD2 D3 Ca Ag Ah=>ATu ⟨Ca,?_⟩;refine h_l rfl (Aib (Ag.z p5) Ah (Ac.b p0)<|ATu<|h_l rfl (Aib (Ag.z p5) Ah (Ac.b p0)<|ATu<|h_e rfl λD4 Bb=>?_));have Ai:=Ag.e Bb;obtain ⟨D5,Cb,Cd⟩:=AGr B9;refine AYq Ai (Ah.thenE Bb) (Aj6 (Ai.z p5).2 (Ai.z p5).2 Cb) λD6 D7 Ce Cf Cg=>ATu ⟨Ce,?_⟩;refine h_e rfl λD8 Bc=>?_;have Aj:=Cf.e Bc;obtain ⟨D9,Ch,Ci⟩:=AGr Cd;refine AYq Aj (Cg.thenE Bc) (A1f (Aj.z p1).2 (Aj.z p0).2 Ch) λEa Eb Cj Ck Cm=>ATu ⟨Cj,?_⟩;refine h_e rfl λEc Be=>?_;have Ak:=Ck.e Be;obtain ⟨Ed,Cn,Co⟩:=AGr Ci;refine AYq Ak (Cm.thenE Be) (Aj6 (Ak.z p5).2 (Ak.z p0).2 Cn) λCp Ee Cq Cr Ct=>ATu ⟨Cq,?_⟩;refine Awa λCu Bf=>BD5 λEf Bg Cv Eg=>?_;have Aa:=Cr.e Bf;have Ad:=(((((((Ac.nb (Ct.thenE Bf).ext (AYh Cv Bg.lt) Bg).az (Aa.z p6)).az (Aa.z p5)).az (Aa.z p4)).az (Aa.z p3)).az (Aa.z p2)).az (Aa.z p1)).az (Aa.z p0);refine AVa Cp AUm (cZ.klen<|Ad.z p0) (cZ.klen<|ATk Cu) rfl rfl (cZ.one<|Ad.z p0) (Ad.b p7) λAm Cw Cx=>AGu<|AGs<|AVn (λh'=>UpT [] Am h') AG2 ?_;have Ao:=Ad.sb p7 Cx Cw rfl;have Bh:UpT [] Am Am:=UpT.start all_nil;refine Aib (Ao.z p0) Bh (Ao.b p7) ?_;obtain ⟨Eh,Cy,Cz⟩:=AGr Co;refine AYq Ao Bh (Ad0 Cy) λEi Ej Ek Bi C0=>AGm<|AGm ?_;obtain ⟨El,C1,C2⟩:=AGr Cz;refine AYq Bi C0 (AW3 (H6.ext Bi.x) C1) λEm En Eo Bj C3=>AGm<|AGm ?_;obtain ⟨Ep,C4,C5⟩:=AGr C2;refine AYq Bj C3 (AW3 (H6.ext Bj.x) C4) λEr Es Et Ap C6=>?_;obtain ⟨Eu,C7,C8⟩:=AGr C5;refine AYq Ap C6 (Aj6 (Ap.z p1).2 (Ap.z p0).2 C7) λEv Ew Ey Aq C9=>?_;obtain ⟨Ez,Da,Db⟩:=AGr C8;refine AYq Aq C9 (Aj6 (Aq.z p3).2 (Aq.z p0).2 Da) λFa Fb Fc Ar Dc=>?_;obtain ⟨Fd,Dd,De⟩:=AGr Db;refine BC9 Ar Dc (Aun (Ar.z p5).2 (Ar.z p0).2 Dd) λFe Ff Df Fg=>Afp rfl rfl (AGx<|AG1 ?_);obtain rfl:=AGo De;exact ⟨_,AS5,Df.x,rfl⟩
def Ae1 (fuel:Nat) (a3:LiI) (x5:LiA) (Ab Aa:Int) (Ac:LiI):Option ((Int × LiI) ⊕ ((LiI × Bool) ⊕ LiI)):=
 if 0<=Aa then (AYm fuel a3 x5 Ab Aa).bind λAh=>if (!Ah)=true then (gI Ac Aa).bind λAf=>(AWy fuel a3 Ab Aa).bind λAi=>(AVj fuel x5<|w64<|Aa + 1).bind λAj=>(AYu fuel Ai Aj).bind λAg=>(AY9 fuel Ag.1 Ag.2).bind λAk=>(Azh fuel Ak).bind λAm=>(gI Af Ab).bind λAo=>some (.inr<|.inl (sI Ac Aa<|sI Af Ab Am,true)) else some (.inl (w64<|Aa - 1,Ac)) else some<|.inr<|.inr Ac
def Ae2 (fuel:Nat) (a3:LiI) (x5:LiA) (Aa:Int) (Ae:LiI):Option ((Int × LiI) ⊕ ((LiI × Bool) ⊕ Unit)):=
 if Aa < (a3.length:Int) then (iter (λs=>Ae1 fuel a3 x5 Aa s.1 s.2) fuel (w64<|Aa - 1,Ae)).bind (λex=>match ex with | .inl Af=>(some<|.inr<|.inl Af) | .inr Ab=>if 0 < Aa then (AX3 fuel a3 x5 Aa).bind λAg=>if (!Ag)=true then (gI Ab<|w64<|Aa - 1).bind λAh=>(gI Ab Aa).bind λAi=>some (.inr<|.inl (sI (sI Ab Aa Ah) (w64<|Aa - 1) Ai,true)) else some (.inl (w64<|Aa + 1,Ab)) else some<|.inl (w64<|Aa + 1,Ab)) else some<|.inr<|.inr ()
def Aar (fuel:Nat) (a3:LiI):Option (LiI × Bool):=
 (AWl fuel a3).bind λ(x5,x6)=>(AW2 fuel (a3.length:Int)).bind λ(Ac,Af)=>(iter (λs=>Ae2 fuel a3 x5 s.1 s.2) fuel (0,Ac)).bind (λex=>match ex with | .inl Ad=>(some Ad) | .inr _=>some ([],false))
theorem Amv {A3:Value} {r:(LiI × Bool)} (H2:AV4 cZ h A3 a3) (hp:Aar fuel a3=some r):ATz Tryz.prog 68 #[A3] h (λx h'=>Ext h h'/\ ∃ (x0:Value) (F0:List Nat) (Br:List LnA) (Bt:List Value),x= .tuple #[x0,.bool r.2]/\AV8 cZ 146 129 h' F0 Br Bt x0 r.1/\Sp h' h.size [F0]):=by
 unfold Aar at hp;refine cwf (l:=[_]) Tryz.func68 rfl rfl (AGq<|ATs<|AT2<|AGm ?_);have K0:=Kst.k0 h;obtain ⟨⟨x5,x6⟩,Bu,A8⟩:=AGr hp;dsimp only at A8;refine Agw rfl (Acs (H2.ext K0.x) Bu) λDg Dh E9 Bw=>?_;obtain ⟨Di,Dj,rfl,Bx,By⟩:=Bw;refine AGm<|AUk rfl rfl (AUk rfl rfl (ATs<|AT2<|AGm<|AT3 AUy rfl H2 ?_));obtain ⟨⟨Bz,Dk⟩,B1,A9⟩:=AGr A8;dsimp only at A9;refine Agw rfl (Agm B1) λDl Do B3 B4=>?_;obtain ⟨Ba,B5,B6,B7,rfl,B8,B9⟩:=B4;refine AGm<|AUk rfl rfl (AUk rfl rfl (ATs<|AGx<|AGs<|AGq<|AGm<|AT3 AUy rfl H2 (AGm<|AGu<|AGt ?_)));have Bb:=(K0.no E9 By Bx).no2 B3 B9 B8;refine AXv 9671406556917033389261580 (λx:(Int) × (LiI) × LnA × LnN × LvA=>(x.1,x.2.1)) ((0,Bz,B5,B6,B7):(Int) × (LiI) × LnA × LnN × LvA) A9 (λx=>[(23,(.int .i64 x.1))]) (λx=>Bb.L.set 0<|aO2 cZ 146 129 x.2.2.1 x.2.2.2.1 x.2.2.2.2 Ba x.2.1) Bb ⟨rfl,trivial⟩ ?_;rintro ⟨Bc,Ca,Cb,Cd,Ce⟩ Dp Dq Dr Ag Ah Ai;unfold Ae2 at Ah;refine AGq<|ATp rfl rfl (AGu<|AGs<|⟨_,rfl,λAj=>?_,λAj=>?_⟩)
 ·refine AG0<|q_t<|AGs<|AGt<|AGq<|AGm<|AGx<|AGs<|AGq<|AGm<|AVh rfl rfl (AGx<|AGt<|AXv 72057593769493004 (λx:(Int) × (LiI) × LnA × LnN × LvA=>(x.1,x.2.1)) (((w64<|Bc - 1),Ca,Cb,Cd,Ce):(Int) × (LiI) × LnA × LnN × LvA) (AT4 Ah Aj) (λx=>[(9,(.int .i64 x.1))]) (λx=>Ag.L.set 0<|aO2 cZ 146 129 x.2.2.1 x.2.2.2.1 x.2.2.2.2 Ba x.2.1) Ag ⟨rfl,trivial⟩ ?_);rintro ⟨Be,Ds,Dt,Du,Dv⟩ Dw Dx Dy Aa Ak Bf;unfold Ae1 at Ak;refine AGs<|AGq<|AGm<|Afp rfl rfl (AGu<|⟨_,rfl,λAm=>?_,λAm=>?_⟩)
  ·refine AG0<|q_t<|AGs<|AGt<|AGq<|AGm<|AGm<|AGm<|AGm ?_;obtain ⟨Dz,Cf,Bg⟩:=AGr<|AT4 Ak Am;refine AVs Aa (Ahu (H2.ext Aa.x) (Aa.o p1).rd Cf) λAo D0 Ac=>AV5 rfl (AGu<|⟨_,rfl,λAp=>?_,λAp=>?_⟩)
   ·refine AGs<|AVn (λh'=>UpT [] Ao h') AG2 ?_;have Bh:UpT [] Ao Ao:=UpT.start all_nil;refine AGm<|AGm ?_;obtain ⟨D1,Aq,Cg⟩:=AGr<|ifT Bg Ap;refine AVv AUy rfl (Ac.o2 p0) rfl Aq λD2 D3 D4 Ch Ci=>AVg AW5 rfl Bh (λh' hb=>ATw Ci hb.ext) (AGm<|AGm<|AGm<|AGm ?_);obtain ⟨D5,Cj,Ck⟩:=AGr Cg;refine AYq Ac Bh (Adq (H2.ext Ac.x) Cj) λD6 D7 D8 Bi Cm=>AGm<|AGm<|ATn rfl rfl ?_;obtain ⟨D9,Cn,Co⟩:=AGr Ck;refine AYq Bi Cm (AW3 (Bi.o p2).rd Cn) λEa Eb Ec Ar Au=>?_;obtain ⟨Ed,Cp,Cq⟩:=AGr Co;refine AYj Au (λ_ E=>Au.thenE E) rfl (Aki (Ar.z p1).2 (Ar.z p0).2 Cp) λEe Ef Bj Cr=>?_;obtain ⟨Eg,rfl,Ct⟩:=Cr;have Cu:=Au.thenE Bj;obtain ⟨Eh,Ei,rfl,Cv,Cw⟩:=Ct;have Av:=((Ar.e Bj).az Cv).az Cw;obtain ⟨Ej,Cx,Cy⟩:=AGr Cq;refine AYq Av Cu (Ak9 ⟨_,_,rfl,(Av.z p1),(Av.z p0)⟩ Cx) λEk El Em Bl Cz=>?_;obtain ⟨En,C0,C1⟩:=AGr Cy;refine AYq Bl Cz (Axn (Bl.z p0).2 C0) λEo Ep Er Ad Es=>?_;obtain ⟨Et,Bm,C2⟩:=AGr C1;refine AXj (m:=Be) AWc rfl (Ac.o2 p0) Ch Aq rfl Bm λEu C3=>Afl (m:=Be) (Aly AUm (cZ.klen<|Ad.z p0) rfl rfl (cZ.one<|Ad.z p0)) (Ad.o2 p6) C3 Aq Bm (Ad.z p0) λEv C4 C5=>Aal<|AGm<|ATs<|AGx<|AG1<|AUg<|ATd<|ATd<|AUg<|ATd<|AUg<|ATd<|ATd<|AUg<|ATd ?_;have Aw:=Ad.uO2 p6 C5 C4;obtain rfl:=AGo<|Ai _ (AGo<|Bf _ (AGo C2).symm).symm;exact ⟨_,AUp,Aw.x,_,_,_,_,rfl,(Aw.o2 p6),Aw.s.sel [6] AGn⟩
   ·refine AG0<|q_b<|q_t<|AS8<|AGm<|AVh rfl rfl (AGx ?_);exact ⟨(_,_,_,_,_),(AGo<|AY5 Bg Ap).symm,Ac,rfl,trivial⟩
  ·refine ATh<|ATi<|ATi<|AUf<|q_t<|AGq<|AGm<|AXr rfl rfl (AGm ?_);have Bn:=Bf _ (AGo<|AT5 Ak Am).symm;by_cases Af:0 < Bc
   ·rw [decide_eq_true Af];refine ATc 58 true<|AGm<|ATc 58 true<|AGm<|ATc 58 true<|AGm<|ATc 58 true ?_;obtain ⟨Ew,C6,Bo⟩:=AGr<|ifT Bn Af;refine AVs Aa (Ahl (H2.ext Aa.x) (Aa.o p1).rd C6) λEy Ez Ae=>ATc 58 true<|AV5 rfl (ATf rfl (AGu<|⟨_,rfl,λAx=>?_,λAx=>?_⟩))
    ·refine AGs<|AXi<|AGm<|AGm<|AGm<|AGm<|AVh rfl rfl (AGm<|AGm<|AVh rfl rfl ?_);obtain ⟨Fa,Bp,C7⟩:=AGr<|ifT Bo Ax;refine AUo AUy AW5 (Ae.o2 p0) Bp λ_ Fb C8=>AGm<|AGm ?_;obtain ⟨Fc,Bq,C9⟩:=AGr C7;refine AUo AUy AW5 (Ae.o2 p0) Bq λ_ Fd Da=>Ah6 AUy AW5 (Ae.o2 p0) Da C8 Bq Bp rfl rfl (λ_=>rfl) (λ_=>rfl) (λ_=>rfl) (λ_ _=>rfl) λFe Ff Fg Fh Fi Fj Db Dc Dd=>Aal<|AGm<|ATs<|AGx<|AG1<|AUg<|ATd<|ATd<|AUg<|ATd ?_;have Ay:=Ae.uo2 p0 Dc Db Dd;obtain rfl:=AGo<|Ai _ (AGo C9).symm;exact ⟨_,AUp,Ay.x,_,_,_,_,rfl,(Ay.o2 p0),Ay.s.sel [0] AGn⟩
    ·refine AG0<|q_b<|q_t<|AS8<|ATn rfl rfl (AGm<|AGu ?_);exact ⟨(_,_,_,_,_),(AGo<|AY5 Bo Ax).symm,Ae,rfl,trivial⟩
   ·rw [decide_eq_false Af];refine AY2 58 false<|AS6 rfl (AGu<|AT0 rfl (AG0<|q_b<|q_t<|AS8<|ATn rfl rfl (AGm<|AGu ?_)));exact ⟨(_,_,_,_,_),(AGo<|ifF Bn Af).symm,Aa,rfl,trivial⟩
 ·refine ATh<|ATi<|ATi<|AUf<|q_t<|AGq<|ATs<|AGx<|AG1 ?_;have Az:=Kst.anil2 cZ 146 129 Ag;obtain rfl:=AGo<|Ai _ (AGo<|AT5 Ah Aj).symm;exact ⟨_,AUp,Az.x,_,_,_,_,rfl,(Az.o2 p0),Az.s.sel [0] AGn⟩
def Adr (fuel:Nat) (Aa Ab:LiI):Option ((LiI × LiI) ⊕ (LiI × LiI × Int)):=
 (Aar fuel Aa).bind λ(Ac,Ad)=>if (!Ad)=true then (AZj fuel Aa).bind λ(Ae,Ah)=>some (.inr (Ae,Ab,0)) else (AWu fuel Aa Ac).bind λAf=>(AVi fuel Ab Ac).bind λAg=>some<|.inl (Af,Ag)
def AZk (fuel:Nat) (a3:LiI):Option (LiI × LiI × Int):=
 (AVt fuel a3).bind λx5=>if ¬ x5=0 then some ([],[],x5) else (AYn fuel a3).bind λAc=>if (!Ac)=true then some ([],[],7) else (AY7 fuel a3).bind λAd=>(AW2 fuel (a3.length:Int)).bind λ(Ae,Ag)=>(iter (λs=>Adr fuel s.1 s.2) fuel (Ad,Ae)).bind (λ(Af:(LiI × LiI × Int))=>some Af)
theorem Alg {Ao:Value} {r:(LiI × LiI × Int)} (H2:AV4 cZ h Ao a3) (hp:AZk fuel a3=some r):ATz Tryz.prog 29 #[Ao] h (λx h'=>Ext h h'/\ ∃ (x0:Value) (F0:List Nat) (A7:List LnA) (A8:List Value) (x1:Value) (F1:List Nat) (A9:List LnA) (Ba:List Value),x= .tuple #[x0,x1,.int .i64 r.2.2]/\AV8 (cI .i64) 61 2 h' F0 A7 A8 x0 r.1/\AV8 cZ 146 129 h' F1 A9 Ba x1 r.2.1/\Sp h' h.size [F0,F1]):=by
 unfold AZk at hp;refine cwf (l:=[_]) Tryz.func29 rfl rfl (AGq<|ATs<|ATs<|AGx<|AGs<|AGq<|AGm ?_);have K0:=Kst.k0 h;obtain ⟨x5,Bb,Ax⟩:=AGr hp;refine AVs K0 (Abu (H2.ext K0.x) Bb) λh9 E8 Af=>AT2<|AGm<|AVz rfl rfl (AGu<|⟨_,rfl,λAg=>?_,λAg=>?_⟩)
 ·refine AGq<|AGm<|ATs<|ATs<|AGx<|AG1<|ATd ?_;have Ac:=Kst.anil2 cZ 146 129<|Kst.anil2 (cI .i64) 61 2 Af;obtain rfl:=AGo<|AT4 Ax Ag;exact ⟨_,Adh,Ac.x,_,_,_,_,_,_,_,_,rfl,(Ac.o2 p1),(Ac.o2 p0),Ac.s.sel [1,0] AGn⟩
 ·refine AG0<|q_t<|AGs<|AGq<|AGm ?_;obtain ⟨Ck,Bc,Ay⟩:=AGr<|AT5 Ax Ag;refine AVs Af (Ahv (H2.ext Af.x) Bc) λCm Cn Ah=>AV5 rfl (AGu<|⟨_,rfl,λAi=>?_,λAi=>?_⟩)
  ·refine AGq<|ATs<|ATs<|AGx<|AG1<|ATd ?_;have Ad:=Kst.anil2 cZ 146 129<|Kst.anil2 (cI .i64) 61 2 Ah;obtain rfl:=AGo<|ifT Ay Ai;exact ⟨_,Adh,Ad.x,_,_,_,_,_,_,_,_,rfl,(Ad.o2 p1),(Ad.o2 p0),Ad.s.sel [1,0] AGn⟩
  ·refine AG0<|q_t<|AGq<|AGm ?_;obtain ⟨Be,Bf,Bg⟩:=AGr<|AY5 Ay Ai;refine Agx Ah (Aic (H2.ext Ah.x) Bf) λBh Bi Bj Bl Co Cp Bm=>AT2<|AGm<|AT3 AUy rfl H2 ?_;obtain ⟨⟨Bn,Cq⟩,Bo,Az⟩:=AGr Bg;dsimp only at Az;refine Agw rfl (Agm Bo) λCr Ct Bp Bq=>?_;obtain ⟨Br,Bt,Bu,Bv,rfl,Bw,Bx⟩:=Bq;refine AGm<|AUk rfl rfl (AUk rfl rfl (ATs<|AGx<|AGt ?_));have A3:=Bm.no2 Bp Bx Bw;refine AXv 562949416558300 (λx:(LiI) × (Value) × LnA × LnN × LvA × (LiI) × (Value) × LnA × LnN × LvA=>(x.1,x.2.2.2.2.2.1)) ((Be,Bl,Bh,Bi,Bj,Bn,Br,Bt,Bu,Bv):(LiI) × (Value) × LnA × LnN × LvA × (LiI) × (Value) × LnA × LnN × LvA) Az (λx=>[(6,x.2.1),(7,x.2.2.2.2.2.2.1)]) (λx=>(A3.L.set 1<|aO2 cZ 146 129 x.2.2.1 x.2.2.2.1 x.2.2.2.2.1 x.2.1 x.1).set 0 (aO2 cZ 146 129 x.2.2.2.2.2.2.2.1 x.2.2.2.2.2.2.2.2.1 x.2.2.2.2.2.2.2.2.2 x.2.2.2.2.2.2.1 x.2.2.2.2.2.1)) A3 ⟨rfl,rfl,trivial⟩ ?_;rintro ⟨Cu,Cv,Cw,Cx,Cy,Cz,C0,C1,C2,C3⟩ C4 C5 C6 A4 A5 By;unfold Adr at A5;refine AGt<|AGq<|AGm ?_;obtain ⟨⟨C7,C8⟩,Bz,Aj⟩:=AGr A5;dsimp only at Aj;refine Agw rfl (Amv (A4.o2 p1).rd Bz) λC9 Da B1 B3=>?_;obtain ⟨Db,Dc,Dd,De,rfl,B4,B5⟩:=B3;refine AGm<|AUk rfl rfl (AUk rfl rfl (ATs<|AGx<|AGs<|AGq<|AGm<|AV5 rfl (AGu ?_)));have Aa:=A4.no2 B1 B5 B4;refine ⟨_,rfl,λAk=>?_,λAk=>?_⟩
   ·refine AGq<|AGm ?_;obtain ⟨⟨Df,Dg⟩,B6,A6⟩:=AGr<|ifT Aj Ak;dsimp only at A6;refine Agw rfl (Alf (Aa.o2 p2).rd B6) λDh Di B7 B8=>?_;obtain ⟨Dj,Dk,Dl,Do,rfl,B9,Ca⟩:=B8;refine AGm<|AUk rfl rfl (AUk rfl rfl (ATs<|AT2<|AGm<|AGm<|ATs<|ATs<|AGx<|AG1<|ATd<|AUg<|ATd<|AUg ?_));have Ae:=Aa.no2 B7 Ca B9;obtain rfl:=AGo<|By _ (AGo A6).symm;exact ⟨_,Adh,Ae.x,_,_,_,_,_,_,_,_,rfl,(Ae.o2 p0),(Ae.o2 p2),Ae.s.sel [0,2] AGn⟩
   ·refine AG0<|q_t<|AS8<|AGm<|AGm ?_;obtain ⟨Dp,Cb,Cd⟩:=AGr<|AY5 Aj Ak;refine Agx Aa (Aj8 (Aa.o2 p2).rd (Aa.o2 p0).rd Cb) λDq Dr Ds Dt Du Dv Am=>AGm<|AGm ?_;obtain ⟨Dw,Ce,Cf⟩:=AGr Cd;refine Agx Am (Acq (Am.o2 p2).rd (Am.o2 p1).rd Ce) λDx Dy Dz D0 D1 D2 Cg=>ATs<|ATs<|ATu<|q_b<|q_t ?_;exact ⟨(_,_,_,_,_,_,_,_,_,_),(AGo Cf).symm,Cg.sel [0,1] AGn,rfl,rfl,trivial⟩
def Acu (fuel:Nat) (a3:LiI) (x5:LiA) (Ab Aa:Int):Option (Int ⊕ (Bool ⊕ Unit)):=
 if Aa < Ab then (AYm fuel a3 x5 Ab Aa).bind λAe=>if (!Ae)=true then some (.inr<|.inl false) else some (.inl<|w64<|Aa + 1) else some<|.inr<|.inr ()
def Acv (fuel:Nat) (a3:LiI) (x5:LiA) (Aa:Int):Option (Int ⊕ (Bool ⊕ Unit)):=
 if Aa < (a3.length:Int) then (iter (λs=>Acu fuel a3 x5 Aa s) fuel 0).bind (λex=>match ex with | .inl Ad=>(some<|.inr<|.inl Ad) | .inr _=>if 0 < Aa then (AX3 fuel a3 x5 Aa).bind λAe=>if (!Ae)=true then some (.inr<|.inl false) else some (.inl<|w64<|Aa + 1) else some<|.inl<|w64<|Aa + 1) else some<|.inr<|.inr ()
def AZa (fuel:Nat) (a3:LiI):Option Bool:=
 (AWl fuel a3).bind λ(x5,x6)=>(iter (λs=>Acv fuel a3 x5 s) fuel 0).bind (λex=>match ex with | .inl Ac=>(some Ac) | .inr _=>some true)
theorem Ala {Am:Value} {r:Bool} (H2:AV4 cZ h Am a3) (hp:AZa fuel a3=some r):ATz Tryz.prog 63 #[Am] h (λx h'=>Ext h h'/\x= .bool r):=by
 unfold AZa at hp;refine cwf (l:=[_]) Tryz.func63 rfl rfl (AGq<|AT2<|AGm ?_);have K0:=Kst.k0 h;obtain ⟨⟨x5,x6⟩,A3,Aq⟩:=AGr hp;dsimp only at Aq;refine Agw rfl (Acs (H2.ext K0.x) A3) λBe Bf E9 A5=>?_;obtain ⟨Bg,Bh,rfl,A6,A7⟩:=A5;refine AGm<|AUk rfl rfl (AUk rfl rfl (ATs<|AGx<|AGs<|AGq<|AGm<|AT3 AUy rfl H2 (AGm<|AGu<|AGt ?_)));have Ar:=K0.no E9 A7 A6;refine AYr 274877890660 Aq (λx=>[(14,(.int .i64 x))]) (λx=>Ar.L) Ar ⟨rfl,trivial⟩ ?_;rintro A8 Bi Bj Bl Ad Ae Af;unfold Acv at Ae;refine AGq<|ATp rfl rfl (AGu<|AGs<|⟨_,rfl,λAg=>?_,λAg=>?_⟩)
 ·refine AG0<|q_t<|AGs<|AGt<|AGq<|AGm<|AGx<|AGs<|AGq<|AGx<|AGt<|AYr 268304452 (AT4 Ae Ag) (λx=>[(6,(.int .i64 x))]) (λx=>Ad.L) Ad ⟨rfl,trivial⟩ ?_;rintro Bm Bn Bo Bp Aa Ah Au;unfold Acu at Ah;refine AGs<|AGq<|AGm<|AGm<|ATp rfl rfl (AGu<|⟨_,rfl,λAi=>?_,λAi=>?_⟩)
  ·refine AG0<|q_t<|AGs<|AGt<|AGq<|AGm<|AGm<|AGm<|AGm ?_;obtain ⟨Bq,A9,Av⟩:=AGr<|AT4 Ah Ai;refine AVs Aa (Ahu (H2.ext Aa.x) (Aa.o p0).rd A9) λBr Bt Aw=>AV5 rfl (AGu<|⟨_,rfl,λAj=>?_,λAj=>?_⟩)
   ·refine AGq<|AGx<|AG1<|AUg<|ATd<|ATd<|AUg<|ATd<|AUg<|ATd<|ATd<|AUg<|ATd ?_;obtain rfl:=AGo<|Af _ (AGo<|Au _ (AGo<|ifT Av Aj).symm).symm;exact ⟨_,AS5,Aw.x,rfl⟩
   ·refine AG0<|q_b<|q_t<|AS8<|AGm<|ATn rfl rfl (AGx ?_);exact ⟨_,(AGo<|AY5 Av Aj).symm,Aw,rfl,trivial⟩
  ·refine ATh<|ATi<|ATi<|AUf<|q_t<|AGq<|AGm<|AXr rfl rfl (AGm ?_);have Ax:=Au _ (AGo<|AT5 Ah Ai).symm;by_cases Ac:0 < A8
   ·rw [decide_eq_true Ac];refine ATc 30 true<|AGm<|ATc 30 true<|AGm<|ATc 30 true<|AGm<|ATc 30 true ?_;obtain ⟨Bu,Ba,Ay⟩:=AGr<|ifT Ax Ac;refine AVs Aa (Ahl (H2.ext Aa.x) (Aa.o p0).rd Ba) λBv Bw Az=>ATc 30 true<|AV5 rfl (ATf rfl (AGu<|⟨_,rfl,λAk=>?_,λAk=>?_⟩))
    ·refine AGq<|AGx<|AG1<|AUg<|ATd<|ATd<|AUg<|ATd ?_;obtain rfl:=AGo<|Af _ (AGo<|ifT Ay Ak).symm;exact ⟨_,AS5,Az.x,rfl⟩
    ·refine AG0<|q_b<|q_t<|AS8<|ATn rfl rfl (AGm<|AGu ?_);exact ⟨_,(AGo<|AY5 Ay Ak).symm,Az,rfl,trivial⟩
   ·rw [decide_eq_false Ac];refine AY2 30 false<|AS6 rfl (AGu<|AT0 rfl (AG0<|q_b<|q_t<|AS8<|ATn rfl rfl (AGm<|AGu ?_)));exact ⟨_,(AGo<|ifF Ax Ac).symm,Aa,rfl,trivial⟩
 ·refine ATh<|ATi<|ATi<|AUf<|q_t<|AGq<|AGx<|AG1 ?_;obtain rfl:=AGo<|Af _ (AGo<|AT5 Ae Ag).symm;exact ⟨_,AS5,Ad.x,rfl⟩
def AU7 (fuel:Nat) (a3:LiI):Option Bool:=
 (AVf fuel a3).bind λ(x5,x6)=>if x6=true then (AVt fuel x5).bind λAd=>if Ad=0 then (AYn fuel x5).bind λAe=>if Ae=true then (AZa fuel x5).bind λAf=>some Af else some false else some false else some false
theorem Abc {r:Bool} (H2:AV4 (cI .i64) h Af a3) (hp:AU7 fuel a3=some r):ATz Tryz.prog 26 #[Af] h (λx h'=>Ext h h'/\x= .bool r):=by
 unfold AU7 at hp;refine cwf (l:=[_]) Tryz.func26 rfl rfl (AGq<|AT2<|AGm ?_);have K0:=Kst.k0 h;obtain ⟨⟨x5,x6⟩,Aq,Ab⟩:=AGr hp;dsimp only at Ab;refine Agw rfl (Agl (H2.ext K0.x) Aq) λA8 A9 E9 Au=>?_;obtain ⟨Ba,Bb,Bc,Be,rfl,Av,Aw⟩:=Au;refine AGm<|AUk rfl rfl (AUk rfl rfl (ATs<|AT2<|AGm<|AGm ?_));have Ac:=K0.no2 E9 Aw Av;cases Ai:x6
 ·refine AWi 11 false<|AS6 rfl (AGm<|Adc 16 false<|AS6 rfl (AGm<|Adc 20 false<|AS6 rfl (AGx<|AG1 ?_)));obtain rfl:=AGo<|AY5 Ab Ai;exact ⟨_,AS5,Ac.x,rfl⟩
 ·refine ATc 11 true<|AGm<|ATc 11 true ?_;obtain ⟨Ax,Ay,Aj⟩:=AGr<|ifT Ab Ai;refine AVs Ac (Abu (Ac.o2 p0).rd Ay) λBf Bg Ad=>ATc 11 true<|AU0 rfl rfl (ATf rfl (AGm ?_));by_cases Aa:Ax=0
  ·rw [decide_eq_true Aa];refine ATc 16 true<|AGm<|ATc 16 true ?_;obtain ⟨Az,A3,Ak⟩:=AGr<|ifT Aj Aa;refine AVs Ad (Ahv (Ad.o2 p0).rd A3) λBh Bi Ae=>ATf rfl (AGm ?_);cases Am:Az
   ·refine Adc 20 false<|AS6 rfl (AGx<|AG1 ?_);obtain rfl:=AGo<|AY5 Ak Am;exact ⟨_,AS5,Ae.x,rfl⟩
   ·refine ATc 20 true<|AGm<|ATc 20 true ?_;obtain ⟨Bj,A4,A5⟩:=AGr<|ifT Ak Am;refine AVs Ae (Ala (Ae.o2 p0).rd A4) λBl Bm A6=>ATf rfl (AGx<|AG1 ?_);obtain rfl:=AGo A5;exact ⟨_,AS5,A6.x,rfl⟩
  ·rw [decide_eq_false Aa];refine Adc 16 false<|AS6 rfl (AGm<|Adc 20 false<|AS6 rfl (AGx<|AG1 ?_));obtain rfl:=AGo<|ifF Aj Aa;exact ⟨_,AS5,Ad.x,rfl⟩
end Go.Proofs.YtkakafabeobahaaGreatDoor
namespace Go.QF
open Go
def Ok {α:Type} (o:Option α) (Q:α->Prop):Prop:= ∃ r,o=some r/\Q r
theorem AGp {a:α} {Q:α->Prop} (h:Q a):Ok (some a) Q:=⟨a,rfl,h⟩
theorem AGw {β:Type} {o:Option α} {f:α->Option β} {Q:α->Prop} {R:β->Prop} (h:Ok o Q) (k:∀ x,Q x->Ok (f x) R):Ok (o.bind f) R:=by
 obtain ⟨x,rfl,hx⟩:=h;exact k x hx
theorem ATj {c:Prop} [Decidable c] {a b:Option α} {R:α->Prop} (ht:c->Ok a R) (hf: ¬ c->Ok b R):Ok (if c then a else b) R:=by
 grind
theorem AVc {c:Prop} [Decidable c] {a:Option α} {R:α->Prop} (hc:c) (h:Ok a R):Ok (if c then a else none) R:=by grind
theorem BBk {o:Option α} {Q R:α->Prop} (h:Ok o Q) (k:∀ x,Q x->R x):Ok o R:=let ⟨x,h1,h2⟩:=h;⟨x,h1,k x h2⟩
theorem ok_eq {o:Option α} {a:α} (h:Ok o (· =a)):o=some a:=by obtain ⟨x,h1,rfl⟩:=h;exact h1
theorem AUa {o:Option α} {a:α} (h:o=some a):Ok o (· =a):=⟨a,h,rfl⟩
theorem ATy {β:Type} {L:List α} {i:Int} {n:Nat} {x:α} {f:α->Option β} {R:β->Prop} (hx:L[n]? =some x) (hi:i=n) (k:Ok (f x) R):Ok ((gI L i).bind f) R:=by
 subst hi;unfold gI;grind
theorem AT8 {S E:Type} {body:S->Option (S ⊕ E)} {s0:S} (I:Nat->S->Prop) (n:Nat) {Q:E->Prop} (h0:I 0 s0) (hf:n < fuel) (hs:∀ i s,i<=n->I i s->Ok (body s) λr=>match r with | .inl s'=>i < n/\I (i + 1) s' | .inr e=>Q e):Ok (iter body fuel s0) Q:=by
 have key:∀ k fuel i s,n - i=k->k < fuel->i<=n->I i s->Ok (iter body fuel s) Q:=by
  intro k;induction k with
  | zero=>
    intro fuel i s hk hf hi hI;obtain ⟨r,hr,hq⟩:=hs i s hi hI;cases fuel with
    | zero=>omega
    | succ f=>
      cases r with
      | inl s'=>omega
      | inr e=>exact ⟨e,by simp [iter,hr],hq⟩
  | succ k ih=>
    intro fuel i s hk hf hi hI;obtain ⟨r,hr,hq⟩:=hs i s hi hI;cases fuel with
    | zero=>omega
    | succ f=>
      cases r with
      | inl s'=>
        obtain ⟨e,he,hQ⟩:=ih f (i + 1) s' AGl AGl AGl hq.2;exact ⟨e,by simp [iter,hr,he],hQ⟩
      | inr e=>exact ⟨e,by simp [iter,hr],hq⟩
 grind
theorem AVq (h1: -9223372036854775808<=x) (h2:x<=9223372036854775807):w64 x=x:=by
 show IntKind.i64.wrap x=x;rw [IntKind.wrap_i64];omega
theorem wk (h: -9223372036854775808<=x/\x<=9223372036854775807):w64 x=x:=AVq h.1 h.2
def AU9 {α:Type} (m:Nat) (f:Nat->α):List α:=(List.range m).map f
theorem AT1 (m:Nat) (f:Nat->α):(AU9 m f).length=m:=by simp [AU9]
theorem ATm {m:Nat} {f:Nat->α} (h:j < m):(AU9 m f)[j]? =some (f j):=by simp [AU9,h]
theorem AUq {m:Nat} {f g:Nat->α} (h:∀ j,j < m->f j=g j):AU9 m f=AU9 m g:=by
 unfold AU9;simp_all
theorem AXd {m:Nat} {f:Nat->α} {x:α}:(AU9 m f).set j x=AU9 m λc=>if c=j then x else f c:=by
 apply List.ext_getElem?;intro i;rw [List.getElem?_set];by_cases h:j=i
 ·subst h;simp only [if_true,AT1];by_cases hj:j < m
  ·simp [hj,ATm hj]
  ·simp [hj,AU9]
 ·rw [if_neg h];by_cases hi:i < m
  ·rw [ATm hi,ATm hi,if_neg λhe=>h he.symm]
  ·simp [AU9,hi]
theorem Aie (m:Nat) (f:Nat->α):AU9 m f ++ [f m]=AU9 (m + 1) f:=by simp [AU9,List.range_succ]
theorem AXs (m:Nat) (a:α):List.replicate m a=AU9 m λ_=>a:=by
 apply List.ext_getElem?;intro i;by_cases h:i < m
 ·rw [ATm h];simp [h]
 ·simp [AU9,h]
theorem Ajv (r c:Nat) (F:AS9):tab r c F=AU9 r λi=>AU9 c (F i):=rfl
theorem ATv {c:Nat} (h:i < r):(tab r c F)[i]? =some (AU9 c<|F i):=ATm (f:=λi=>AU9 c<|F i) h
theorem A70 {c:Nat}:(tab r c F).set i (AU9 c λq=>if q=j then x else F i q)=tab r c (AUw F i λq=>if q=j then x else F i q):=Aeu
theorem AUx (L:List α) (n:Nat) (x:α):sI L (n:Int) x=L.set n x:=by simp [sI]
end Go.QF
namespace Go.QF
theorem Ahd (F:AS9) (i:Nat) (f g:Nat->Int):AUw (AUw F i f) i g=AUw F i g:=by
 funext k;by_cases h:k=i
 ·subst h;rw [AUt,AUt]
 ·rw [AXc _ _ h,AXc _ _ h,AXc _ _ h]
theorem Aif (F:AS9) (i:Nat):AUw F i (F i)=F:=by
 funext k;by_cases h:k=i
 ·subst h;rw [AUt]
 ·rw [AXc _ _ h]
theorem Agz (f g:Nat->Int) (n:Nat):psum (λi=>f i + g i) n=psum f n + psum g n:=by
 induction n with
 | zero=>rfl
 | succ n ih=>simp only [psum];rw [ih];omega
theorem AZb (c:Int) (f:Nat->Int) (n:Nat):psum (λi=>c * f i) n=c * psum f n:=by
 induction n with
 | zero=>simp [psum]
 | succ n ih=>simp only [psum];grind
theorem Akn (n:Nat):psum (λ_=>0) n=0:=by
 induction n with
 | zero=>rfl
 | succ n ih=>simp only [psum];rw [ih];rfl
theorem Ar7 (f:AS9) (n m:Nat):psum (λi=>psum (λj=>f i j) m) n=psum (λj=>psum (λi=>f i j) n) m:=by
 induction n with
 | zero=>simp only [psum];exact (Akn m).symm
 | succ n ih=>
   simp only [psum]
   rw [ih,<- Agz]
theorem A71 {n:Nat} (ha:a < n) (h:∀ i,i≠a->g i=f i):psum g n=psum f n + (g a - f a):=by
 induction n with
 | zero=>omega
 | succ n ih=>
   simp only [psum]
   by_cases hn:a=n
   ·subst hn;rw [AUi (f:=g) (g:=f) λk hk=>h k AGl];omega
   grind
theorem Ae3 {n:Nat} (ha:a < n) (h:∀ i,i≠a->f i=0):psum f n=f a:=by
 rw [A71 (f:=λ_=>0) ha h,Akn];omega
def Eqm (m a b:Int):Prop:=a % m=b % m
theorem Eqm.refl (m a:Int):Eqm m a a:=rfl
theorem Eqm.of_eq {m a b:Int} (h:a=b):Eqm m a b:=h ▸ rfl
theorem Eqm.symm {m a b:Int} (h:Eqm m a b):Eqm m b a:=Eq.symm h
theorem Eqm.trans {m a b c:Int} (h:Eqm m a b) (k:Eqm m b c):Eqm m a c:=Eq.trans h k
theorem Eqm.add {m a b c:Int} (h:Eqm m a b) (k:Eqm m c d):Eqm m (a + c) (b + d):=by
 unfold Eqm at *;rw [Int.add_emod,h,k,<- Int.add_emod]
theorem Eqm.sub {m a b c:Int} (h:Eqm m a b) (k:Eqm m c d):Eqm m (a - c) (b - d):=by
 unfold Eqm at *;rw [Int.sub_emod,h,k,<- Int.sub_emod]
theorem Eqm.mul {m a b c:Int} (h:Eqm m a b) (k:Eqm m c d):Eqm m (a * c) (b * d):=by
 unfold Eqm at *;rw [Int.mul_emod,h,k,<- Int.mul_emod]
theorem Eqm.mod (m a:Int):Eqm m (a % m) a:=Int.emod_emod_of_dvd a<|Int.dvd_refl m
theorem Eqm.psum {m:Int} {f g:Nat->Int} {n:Nat} (h:∀ i,i < n->Eqm m (f i) (g i)):Eqm m (psum f n) (psum g n):=by
 induction n with
 | zero=>rfl
 | succ n ih=>exact (ih λi hi=>h i AGl).add (h n AGl)
theorem Eqm.zero {m a:Int} (h:Eqm m a 0):a % m=0:=by simpa [Eqm] using h
theorem Awe {m a b:Int} (h:Eqm m a b) (ha:0<=a/\a < m) (hb:0<=b/\b < m):a=b:=by
 unfold Eqm at h;rwa [Int.emod_eq_of_lt ha.1 ha.2,Int.emod_eq_of_lt hb.1 hb.2] at h
end Go.QF
namespace Go.QF
theorem A72 (hk:k<=r) (h:∀ i,k<=i->i < r->f i=0):psum f r=psum f k:=by
 induction r with
 | zero=>rw [Nat.le_zero.1 hk]
 | succ r ih=>
   rcases Nat.lt_or_ge k (r + 1) with h1 | h1
   ·simp only [psum]
    rw [ih AGl λi h2 h3=>h i h2 AGl,h r AGl AGl];omega
   ·obtain rfl:k=r + 1:=by omega
    rfl
def dl (a b:Nat):Int:=if a=b then 1 else 0
def skp (i a:Nat):Nat:=if a < i then a else a + 1
def usk (i r:Nat):Nat:=if r < i then r else r - 1
def sg (i:Nat):Int:=if i % 2=0 then 1 else -1
theorem BBl (i:Nat):sg (i + 1)= -sg i:=by unfold sg;omega
theorem BEd (i a:Nat):skp i a≠i:=by unfold skp;split <;> omega
theorem A73 {n:Nat} (ha:a < n):skp i a < n + 1:=by unfold skp;split <;> omega
theorem BBm (h:r≠i):skp i (usk i r)=r:=by
 unfold usk;split <;> (unfold skp;split <;> omega)
theorem BBn (h:skp i a=r):a=usk i r:=by unfold skp at h;unfold usk;grind
theorem BEe {n:Nat} (h:r≠i) (hi:i < n + 1) (hr:r < n + 1):usk i r < n:=by unfold usk;split <;> omega
theorem AUb (F:AS9) (a:Nat) (g:Nat->Int) (i j:Nat):AUw F a g i j=if i=a then g j else F i j:=by
 unfold AUw;split <;> rfl
theorem Adx (F:AS9) (a b i j:Nat):AXx F a b i j=if i=b then F a j else if i=a then F b j else F i j:=by
 unfold AXx;rw [AUb,AUb]
def AYi (i:Nat) (F:AS9):AS9:=λa b=>F (skp i a)<|b + 1
def det:Nat->(AS9)->Int
 | 0,_=>1
 | n + 1,F=>psum (λi=>sg i * F i 0 * det n (AYi i F))<|n + 1
theorem AU6:∀ {n:Nat} {F G:AS9},(∀ i j,i < n->j < n->F i j=G i j)->det n F=det n G:=by
 intro n
 induction n with
 | zero=>intro _ _ _;rfl
 | succ n ih=>
   intro F G h
   refine AUi λi hi=>?_
   rw [h i 0 hi AGl,ih (F:=AYi i F) (G:=AYi i G) λa b ha hb=>h _ _ (A73 ha) AGl]
theorem Aqk (h:r≠i):AYi i (AUw F r g)=AUw (AYi i F) (usk i r) (λb=>g<|b + 1):=by
 funext a b;unfold AYi AUw;by_cases ha:skp i a=r
 ·rw [if_pos ha,if_pos<|BBn ha]
 ·rw [if_neg ha,if_neg λhe=>ha<|by rw [he,BBm h]]
theorem As6:AYi i (AUw F i g)=AYi i F:=by
 funext a b;unfold AYi;rw [AXc _ _<|BEd i a]
theorem Anv:∀ {n:Nat} {F:AS9} {r:Nat} (u v:Nat->Int) (c d:Int),r < n->det n (AUw F r λq=>c * u q + d * v q)=c * det n (AUw F r u) + d * det n (AUw F r v):=by
 intro n
 induction n with
 | zero=>omega
 | succ n ih=>
   intro F r u v c d hr
   simp only [det]
   rw [<- AZb,<- AZb,<- Agz]
   refine AUi λi hi=>?_
   by_cases h:r=i
   ·subst h
    simp only [As6,AUt]
    grind
   ·rw [Aqk h,Aqk h,Aqk h,AXc _ _<|Ne.symm h,AXc _ _<|Ne.symm h,AXc _ _<|Ne.symm h,ih (λb=>u<|b + 1) (λb=>v<|b + 1) c d<|BEe h hi hr]
    grind
theorem A74 {n s:Nat} (hr:r < n) (hs:s < n) (hrs:r≠s) (h:∀ i,i < n->i≠r->i≠s->f i=0):psum f n=f r + f s:=by
 have h1:psum f n=psum (λi=>(if i=r then f r else 0) + (if i=s then f s else 0)) n:=AUi λi hi=>by
  grind
 rw [h1,Agz,Ae3 (f:=λi=>if i=r then f r else 0) hr λi hi=>if_neg hi,Ae3 (f:=λi=>if i=s then f s else 0) hs λi hi=>if_neg hi,if_pos rfl,if_pos rfl]
theorem A29:∀ {n:Nat} {F:AS9} {r:Nat},r + 1 < n->(∀ q,q < n->F r q=F (r + 1) q)->det n F=0:=by
 intro n
 induction n with
 | zero=>omega
 | succ n ih=>
   intro F r hr h
   simp only [det]
   rw [A74 (r:=r) (s:=r + 1) AGl AGl AGl]
   ·have:det n (AYi r F)=det n (AYi (r + 1) F):=AU6 λa b ha hb=>by
     unfold AYi skp
     grind
    rw [this,BBl,h 0 AGl]
    grind
   ·intro i hi h1 h2
    rcases Nat.lt_or_ge i r with hlt | hge
    ·rw [ih (F:=AYi i F) (r:=r - 1) AGl]
     ·simp
     ·intro q hq
      unfold AYi skp
      grind
    ·rw [ih (F:=AYi i F) (r:=r) AGl]
     ·simp
     ·intro q hq
      unfold AYi skp
      grind
theorem Ako {b:Nat} (h:a≠b) (u v:Nat->Int):AUw (AUw F a u) b v=AUw (AUw F b v) a u:=by
 funext k;unfold AUw;grind
theorem Azm {n:Nat} {b:Nat} (ha:a < n) (hb:b < n) (hab:a≠b) (h0:∀ G:AS9,G a=G b->det n G=0):det n (AXx F a b)= -det n F:=by
 have key:∀ u v:Nat->Int,det n (AUw (AUw F a u) b v)= -det n (AUw (AUw F a v) b u):=by
  intro u v;have h1:=h0 (AUw (AUw F a λq=>1 * u q + 1 * v q) b λq=>1 * u q + 1 * v q) (by rw [AUt,AXc _ _ hab,AUt]);rw [Anv u v 1 1 hb,Ako hab,Ako hab,Anv u v 1 1 ha,Anv u v 1 1 ha,Ako<|Ne.symm hab,Ako<|Ne.symm hab,Ako<|Ne.symm hab,Ako<|Ne.symm hab] at h1;have h2:=h0 (AUw (AUw F a u) b u) (by rw [AUt,AXc _ _ hab,AUt]);have h3:=h0 (AUw (AUw F a v) b v) (by rw [AUt,AXc _ _ hab,AUt]);omega
 unfold AXx;rw [key (F b)<|F a,Aif];rw [show AUw F b (F b)=F from Aif F b]
theorem A3a:∀ {d n:Nat} {F:AS9} {a:Nat},a + d + 1 < n->F a=F (a + d + 1)->det n F=0:=by
 intro d
 induction d with
 | zero=>intro n F a hn h;exact A29 hn λq _=>by rw [h]
 | succ d ih=>
   intro n F a hn h
   have h1:=Azm (n:=n) (F:=F) (a:=a + d + 1) (b:=a + d + 1 + 1) AGl AGl AGl λG hG=>A29 (r:=a + d + 1) AGl λq _=>congrFun hG q
   have h2:=ih (n:=n) (F:=AXx F (a + d + 1)<|a + d + 1 + 1) (a:=a) AGl (by rw [Apf,Aq4 _ AGl AGl,h];rfl)
   omega
theorem Aig {n:Nat} {b:Nat} (ha:a < n) (hb:b < n) (hab:a≠b) (h:F a=F b):det n F=0:=by
 rcases Nat.lt_or_ge a b with hlt | hge
 ·exact A3a (d:=b - a - 1) (a:=a) AGl (by grind)
 ·exact A3a (d:=a - b - 1) (a:=b) AGl (by grind)
theorem Ajw {n:Nat} {b:Nat} (ha:a < n) (hb:b < n) (hab:a≠b):det n (AXx F a b)= -det n F:=
 Azm ha hb hab λ_ h=>Aig ha hb hab h
theorem Awf {n:Nat} (u:Nat->Int) (c:Int) (hr:r < n):det n (AUw F r λq=>c * u q)=c * det n (AUw F r u):=by
 have:=Anv (F:=F) u (λ_=>0) c 0 hr;grind
theorem Anw {n:Nat} (hr:r < n) (h:∀ q,q < n->F r q=0):det n F=0:=by
 have:=Awf (F:=F) (F r) 0 hr;rw [Int.zero_mul] at this;rw [<- this]
 exact AU6 λi j hi hj=>by
  unfold AUw
  split
  ·grind
  ·rfl
theorem Afg {n:Nat} {b:Nat} (ha:a < n) (hb:b < n) (hab:a≠b) (q:Int):det n (AUw F a λx=>F a x + q * F b x)=det n F:=by
 have:=Anv (F:=F) (F a) (F b) 1 q ha;rw [Aif,Aig (F:=AUw F a<|F b) ha hb hab<|by rw [AUt,AXc _ _<|Ne.symm hab]] at this;grind
theorem Auo {n:Nat} (hr:r < n) (y:Nat->Int) (u:AS9):∀ t,det n (AUw F r λq=>psum (λk=>y k * u k q) t)=psum (λk=>y k * det n (AUw F r<|u k)) t:=by
 intro t
 induction t with
 | zero=>exact Anw hr λq _=>by rw [AUt];rfl
 | succ t ih=>
   have:=Anv (F:=F) (λq=>psum (λk=>y k * u k q) t) (u t) 1 (y t) hr
   simp only [psum]
   grind
theorem A75 {n:Nat} (hr:r < n) (y:Nat->Int):det n (AUw F r λq=>psum (λk=>y k * F k q) n)=y r * det n F:=by
 rw [Auo hr y F n,AUi (g:=λk=>if k=r then y r * det n F else 0),Ae3 hr λi hi=>if_neg hi,if_pos rfl];intro k hk
 by_cases h:k=r
 ·subst h;rw [if_pos rfl,Aif]
 ·rw [if_neg h,Aig (F:=AUw F r<|F k) hr hk (Ne.symm h)<|by rw [AUt,AXc _ _ h]];simp
def AZ2 (f:Nat->Int):Nat->Int
 | 0=>1
 | n + 1=>AZ2 f n * f n
theorem Asw (f:Nat->Int) (n:Nat):AZ2 f (n + 1)=f 0 * AZ2 (λi=>f<|i + 1) n:=by
 induction n with
 | zero=>simp [AZ2]
 | succ n ih=>rw [AZ2,ih,AZ2];grind
theorem Asx {n:Nat} (h:∀ i,i < n->f i=g i):AZ2 f n=AZ2 g n:=by
 induction n with
 | zero=>rfl
 | succ n ih=>rw [AZ2,AZ2,ih λi hi=>h i AGl,h n AGl]
theorem Amw:∀ {n:Nat} {F:AS9},Zc n F n->det n F=AZ2 (λi=>F i i) n:=by
 intro n
 induction n with
 | zero=>intro _ _;rfl
 | succ n ih=>
   intro F h
   rw [Asw,det,AUi (g:=λi=>if i=0 then F 0 0 * det n (AYi 0 F) else 0),Ae3 (a:=0) AGl λi hi=>if_neg hi,if_pos rfl]
   ·rw [ih (F:=AYi 0 F) (λc' i h1 h2 h3=>by unfold AYi skp;rw [if_neg AGl];exact h (c' + 1) (i + 1) AGl AGl AGl)]
    rfl
   ·intro i hi
    by_cases h0:i=0
    ·subst h0;simp [sg]
    ·rw [if_neg h0,h 0 i AGl AGl hi];simp
theorem Awg:∀ {n:Nat} {F:AS9},(∀ i j,i < j->j < n->F i j=0)->det n F=AZ2 (λi=>F i i) n:=by
 intro n
 induction n with
 | zero=>intro _ _;rfl
 | succ n ih=>
   intro F h
   rw [Asw,det,AUi (g:=λi=>if i=0 then F 0 0 * det n (AYi 0 F) else 0),Ae3 (a:=0) AGl λi hi=>if_neg hi,if_pos rfl]
   ·rw [ih (F:=AYi 0 F) (λi j h1 h2=>by unfold AYi skp;grind)]
    rfl
   ·intro i hi
    by_cases h0:i=0
    ·subst h0;simp [sg]
    ·rw [if_neg h0,Anw (F:=AYi i F) (r:=0) AGl (λq hq=>by unfold AYi skp;grind)];simp
def Ap7 (F:AS9) (c i:Nat) (q:Int):AS9:=AXx (AUw F c λx=>F c x + -q * F i x) c i
theorem A3b (F:AS9) {c:Nat} (q:Int):Ap7 F c i q i=λx=>F c x + -q * F i x:=by
 unfold Ap7;rw [At5,AUt]
theorem BBo (F:AS9) {c:Nat} (h:c≠i) (q:Int):Ap7 F c i q c=F i:=by
 unfold Ap7;rw [Apf,AXc _ _<|Ne.symm h]
theorem Azn (F:AS9) {c:Nat} (hc:k≠c) (hi:k≠i) (q:Int):Ap7 F c i q k=F k:=by
 unfold Ap7;rw [Aq4 _ hc hi,AXc _ _ hc]
theorem A76 {n:Nat} {c:Nat} (H:Zc n F c) (hci:c < i) (hi:i < n):Zc n (Ap7 F c i q) c:=by
 intro c' k h1 h2 h3;by_cases hk:k=i
 ·subst hk;rw [A3b];simp [H c' c h1 h1 AGl,H c' k h1 h2 h3]
 ·by_cases Ad:k=c
  ·subst Ad;rw [BBo F hk];exact H c' i h1 AGl hi
  ·rw [Azn F Ad hk];exact H c' k h1 h2 h3
theorem A77 {c:Nat} (H:Zi F c i):Zi (Ap7 F c i q) c i:=by
 intro k h1 h2;rw [Azn F AGl AGl];exact H k h1 h2
theorem A3c {n:Nat} {P:(AS9)->Prop} (hadd:∀ F a b q,a < n->b < n->a≠b->P (AUw F a λx=>F a x + q * F b x)->P F) (hswap:∀ F a b,a < n->b < n->a≠b->P (AXx F a b)->P F) (htri:∀ F,Zc n F n->P F):∀ F,P F:=by
 have key:∀ d c,c + d=n-> ∀ F,Zc n F c->P F:=by
  intro d;induction d with
  | zero=>grind
  | succ d ih=>
    intro c hc
    have inner:∀ e i,i + e=n->c < i-> ∀ F,Zc n F c->Zi F c i->P F:=by
     intro e;induction e with
     | zero=>
        intro i hi hci F hF hz;obtain rfl:i=n:=by omega
        exact ih (c + 1) AGl F (A2n hF hz)
     | succ e ihe=>
       intro i hi hci
       have strong:∀ k F,(F i c).natAbs=k->Zc n F c->Zi F c i->P F:=by
        intro k;induction k using Nat.strongRecOn with
        | _ k ihk=>
          intro F hk hF hz
          by_cases h0:F i c=0
          ·exact ihe (i + 1) AGl AGl F hF<|A2m hz h0
          ·refine hadd F c i (-(F c c / F i c)) AGl AGl AGl<|hswap _ c i AGl AGl AGl ?_;refine ihk ((Ap7 F c i<|F c c / F i c) i c).natAbs ?_ (Ap7 F c i<|F c c / F i c) rfl (A76 hF hci AGl) (A77 hz);rw [A3b,<- hk];show (F c c + -(F c c / F i c) * F i c).natAbs < _;have h1:=Int.mul_ediv_add_emod (F c c)<|F i c;have h2:F c c + -(F c c / F i c) * F i c=F c c % F i c:=by grind
           rw [h2];have h3:=Int.emod_nonneg (F c c) h0;have h4:=Int.emod_lt (F c c) h0;omega
       grind
    exact λF hF=>inner (n - (c + 1)) (c + 1) AGl AGl F hF λk h1 h2=>by omega
 exact λF=>key n 0 AGl F λc' i h=>by omega
def AV3 (n:Nat) (A B:AS9):AS9:=λi j=>psum (λk=>A i k * B k j) n
theorem A78 {n:Nat} {B:AS9} {b:Nat}:AV3 n (AUw A a λx=>A a x + q * A b x) B=AUw (AV3 n A B) a λx=>AV3 n A B a x + q * AV3 n A B b x:=by
 funext i j;unfold AV3 AUw;by_cases h:i=a
 ·simp only [if_pos h];rw [<- AZb,<- Agz];grind
 simp_all
theorem Azo {n:Nat} {B:AS9} {u:Nat->Int}:AV3 n (AUw A a u) B=AUw (AV3 n A B) a λx=>psum (λk=>u k * B k x) n:=by
 funext i j;unfold AV3 AUw;by_cases h:i=a
 ·simp_all
 simp_all
theorem A41 {n:Nat} {B:AS9} {b:Nat}:AV3 n (AXx A a b) B=AXx (AV3 n A B) a b:=by
 unfold AXx;rw [Azo,Azo];rfl
theorem Anx {n:Nat} (A B:AS9):det n (AV3 n A B)=det n A * det n B:=by
 refine A3c (n:=n) (P:=λA=>det n (AV3 n A B)=det n A * det n B) (λF a b q ha hb hab h=>?_) (λF a b ha hb hab h=>?_) (λF hF=>?_) A
 ·rw [A78,Afg ha hb hab,Afg ha hb hab] at h;exact h
 ·rw [A41,Ajw ha hb hab,Ajw ha hb hab] at h;grind
 ·rw [Amw hF]
  have key:∀ j,j<=n->det n (λi=>if i < j then AV3 n F B i else B i)=AZ2 (λi=>F i i) j * det n B:=by
   intro j
   induction j with
   | zero=>intro _;simp [AZ2]
   | succ j ih=>
     intro hj
     rw [AZ2,Int.mul_assoc,Int.mul_comm<|F j j,<- Int.mul_assoc,<- ih AGl,Int.mul_comm]
     rw [<- A75 (F:=λi=>if i < j then AV3 n F B i else B i) (r:=j) AGl (F j)]
     refine AU6 λi q hi hq=>?_
     unfold AUw
     by_cases h:i=j
     ·subst h
      simp only [if_pos<|Nat.lt_succ_self i,if_pos]
      unfold AV3
      refine AUi λk hk=>?_
      by_cases hlt:k < i
      ·rw [hF k i AGl hlt hi];simp
      grind
     grind
  rw [<- key n (Nat.le_refl _)];exact AU6 λi j hi hj=>by rw [if_pos hi]
def trF (F:AS9):AS9:=λi j=>F j i
theorem Ar8 (n:Nat):det n dl=1:=by
 rw [Amw (λc' i h1 h2 h3=>by unfold dl;omega)]
 have:∀ k,AZ2 (λi=>dl i i) k=1:=by
  intro k
  induction k with
  | zero=>rfl
  | succ k ih=>rw [AZ2,ih];simp [dl]
 exact this n
theorem A1q {n:Nat} (hj:j < n):psum (λk=>F i k * dl k j) n=F i j:=by
 rw [Ae3 hj (λk hk=>by unfold dl;grind)];simp [dl]
theorem A1r {n:Nat} (y:Nat->Int) (ha:a < n):det n (trF<|AUw F a λx=>psum (λk=>y k * F k x) n)=det n (trF F) * det n (trF<|AUw dl a y):=by
 rw [<- Anx];refine AU6 λi j hi hj=>?_;unfold AV3 trF AUw
 by_cases h:j=a
 ·simp only [if_pos h];grind
 ·simp only [if_neg h];rw [Ae3 hj (λk hk=>by unfold dl;grind)];simp [dl]
theorem Aj9 {n:Nat} (F:AS9):det n (trF F)=det n F:=by
 refine A3c (n:=n) (P:=λF=>det n (trF F)=det n F) (λF a b q ha hb hab h=>?_) (λF a b ha hb hab h=>?_) (λF hF=>?_) F
 ·rw [Afg ha hb hab] at h;rw [<- h];have h1:=A1r (n:=n) (F:=F) (a:=a) (λk=>dl k a + q * dl k b) ha
  have h2:det n (trF<|AUw dl a λk=>dl k a + q * dl k b)=1:=by
   rw [<- Ar8 n,<- Afg (F:=dl) hb ha (Ne.symm hab) q]
   refine AU6 λi j hi hj=>?_
   clear h1 h
   simp only [trF,AUb,dl]
   grind
  rw [h2,Int.mul_one] at h1;rw [<- h1];refine AU6 λi j hi hj=>?_;unfold trF AUw;by_cases hja:j=a
  ·simp only [if_pos hja];rw [AUi (g:=λk=>F k i * dl k a + q * (F k i * dl k b)) (λk _=>by grind),Agz,AZb];rw [Ae3 (a:=a) ha (λk hk=>by unfold dl;grind),Ae3 (a:=b) hb (λk hk=>by unfold dl;grind)];simp [dl]
  grind
 ·rw [Ajw ha hb hab] at h
  have h1:det n (trF<|AXx F a b)=det n (trF F) * det n (AXx dl a b):=by
   rw [<- Anx]
   refine AU6 λi j hi hj=>?_
   unfold AV3 trF
   have hsym:∀ k,AXx dl a b k j=if j=a then dl k b else if j=b then dl k a else dl k j:=by
    intro k
    simp only [Adx,dl]
    grind
   rw [AUi (g:=λk=>F k i * dl k (if j=a then b else if j=b then a else j)) (λk _=>by rw [hsym];grind)]
   rw [Ae3 (a:=if j=a then b else if j=b then a else j) (by grind) (λk hk=>by unfold dl;grind)]
   simp only [dl,if_pos,Int.mul_one]
   by_cases h3:j=a
   ·subst h3;rw [Apf,if_pos rfl]
   ·rw [if_neg h3]
    by_cases h4:j=b
    ·subst h4;rw [At5,if_pos rfl]
    ·rw [Aq4 _ h3 h4,if_neg h4]
  rw [Ajw ha hb hab,Ar8] at h1;omega
 ·rw [Amw hF,Awg (F:=trF F) λi j h1 h2=>hF i j AGl h1 h2];rfl
def shF (k:Nat) (F:AS9):AS9:=λi j=>F (k + i)<|k + j
theorem Awh (h:i < k + 1):skp i (k + a)=k + 1 + a:=by unfold skp;grind
theorem Ar9:∀ {k m:Nat} {T:AS9},(∀ i j,k<=i->i < k + m->j < k->T i j=0)->det (k + m) T=det k T * det m (shF k T):=by
 intro k;induction k with
 | zero=>
   intro m T _;have e:shF 0 T=T:=by funext i j;simp [shF]
   rw [e,Nat.zero_add];simp [det]
 | succ k ih=>
   intro m T h;rw [show k + 1 + m=(k + m) + 1 by omega];simp only [det];rw [A72 (k:=k + 1) AGl λi h1 h2=>by grind];rw [Int.mul_comm,<- AZb];refine AUi λi hi=>?_
   rw [ih (T:=AYi i T) (m:=m) (λa b ha ha2 hb=>by
    obtain ⟨c,rfl⟩:∃ c,a=k + c:=⟨a - k,AGl⟩;unfold AYi;rw [Awh hi];grind)]
   have e:shF k (AYi i T)=shF (k + 1) T:=by
    funext a b;unfold shF AYi;rw [Awh hi,show k + b + 1=k + 1 + b by omega]
   rw [e];grind
theorem Axr {n:Nat} (h:∀ i,i < n + 1->F i 0=0):det (n + 1) F=0:=by
 simp only [det];rw [AUi (g:=λ_=>0) λi hi=>by grind];exact Akn _
theorem Azp {n:Nat} {b:Nat} (ha:a < n) (hb:b < n) (hab:a≠b) (h:∀ i,F i a=F i b):det n F=0:=by
 rw [<- Aj9];exact Aig ha hb hab (by funext i;exact h i)
theorem BBp (F:AS9):det 2 F=F 0 0 * F 1 1 - F 1 0 * F 0 1:=by
 simp [det,psum,AYi,skp,sg];grind
def bro (k i r:Nat):Nat:=if r < k then r else i
def Mn (k:Nat) (A:AS9) (i j:Nat):Int:=det (k + 1) λr c=>A (bro k i r)<|bro k j c
theorem Aiz (A:AS9) (i j:Nat):Mn 0 A i j=A i j:=by
 simp [Mn,det,psum,bro,sg]
theorem Aep (k:Nat) (A:AS9):Mn k A k k=det (k + 1) A:=by
 refine AU6 λr c hr hc=>?_;have e:∀ r,r < k + 1->bro k k r=r:=λr hr=>by unfold bro;split <;> omega
 grind
theorem BDa (A:AS9) (i:Nat) (hj:j < k):Mn k A i j=0:=by
 refine Azp (a:=j) (b:=k) AGl AGl AGl λr=>?_;unfold bro;simp [hj]
def cof (k:Nat) (A:AS9) (i s:Nat):Int:=det (k + 1)<|AUw (λc r=>A (bro k i r) c) k<|dl s
theorem Axs {n:Nat} (f:Nat->Int) {q:Nat} (hq:q < n):psum (λs=>f s * dl s q) n=f q:=by
 rw [Ae3 hq (λi hi=>by unfold dl;grind)];simp [dl]
theorem BEf (k:Nat) (A:AS9) (i j:Nat):Mn k A i j=psum (λs=>cof k A i s * A s j) k + det k A * A i j:=by
 have h1:Mn k A i j=det (k + 1) (AUw (λc r=>A (bro k i r) c) k λq=>psum (λs=>A (bro k i s) j * dl s q)<|k + 1):=by
  unfold Mn
  rw [<- Aj9]
  refine AU6 λc r hc hr=>?_
  rw [AUb,Axs _ hr]
  unfold trF
  split
  ·subst_vars;simp [bro]
  ·have:c < k:=by omega
   simp [bro,this]
 rw [h1,Auo AGl]
 have hk:det (k + 1) (AUw (λc r=>A (bro k i r) c) k<|dl k)=det k A:=by
  rw [Ar9 (k:=k) (m:=1) (T:=AUw (λc r=>A (bro k i r) c) k<|dl k) (λa b h1 h2 h3=>by
   obtain rfl:a=k:=by omega
   rw [AUb,if_pos rfl];unfold dl;omega)]
  have e1:det k (AUw (λc r=>A (bro k i r) c) k<|dl k)=det k A:=by
   rw [<- Aj9]
   refine AU6 λr c hr hc=>?_
   unfold trF
   rw [AUb,if_neg AGl]
   simp [bro,hr]
  have e2:det 1 (shF k<|AUw (λc r=>A (bro k i r) c) k<|dl k)=1:=by
   simp [det,psum,shF,sg,AUb,dl]
  grind
 show psum (λs=>A (bro k i s) j * det (k + 1) (AUw (λc r=>A (bro k i r) c) k<|dl s)) k + A (bro k i k) j * det (k + 1) (AUw (λc r=>A (bro k i r) c) k<|dl k)=_;rw [hk];congr 1
 ·refine AUi λs hs=>?_;show _=cof k A i s * A s j;unfold cof;rw [Int.mul_comm];simp [bro,hs]
 ·simp [bro,Int.mul_comm]
theorem Azq (f:Nat->Int) (k m:Nat):AZ2 f (k + m)=AZ2 f k * AZ2 (λi=>f<|k + i) m:=by
 induction m with
 | zero=>simp [AZ2]
 | succ m ih=>rw [<- Nat.add_assoc];simp only [AZ2];rw [ih];grind
theorem Awi {f:Nat->Int}:∀ {n:Nat},(∀ i,i < n->f i=1)->AZ2 f n=1
 | 0,_=>rfl
 | n + 1,h=>by rw [AZ2,Awi λi hi=>h i AGl,h n AGl];rfl
theorem Azr {f:Nat->Int}:∀ {n:Nat},(∀ i,i < n->f i≠0)->AZ2 f n≠0
 | 0,_=>by simp [AZ2]
 | n + 1,h=>by rw [AZ2];exact Int.mul_ne_zero (Azr λi hi=>h i AGl)<|h n AGl
def Aof (k:Nat) (A:AS9) (ρ:Nat->Nat):AS9:=λr s=>if r < k then dl r s else if s < k then cof k A (ρ r) s else if s=r then det k A else 0
theorem Azs {n:Nat} {B:AS9} {ρ γ:Nat->Nat} (hkn:k<=n) (hρ:∀ r,r < k->ρ r=r) (hB:∀ r c,B r c=A (ρ r) (γ c)) {c:Nat} (hr:r < n):AV3 n (Aof k A ρ) B r c=if r < k then B r c else Mn k A (ρ r) (γ c):=by
 unfold AV3;by_cases h:r < k
 ·rw [if_pos h,Ae3 hr (λi hi=>by unfold Aof;rw [if_pos h];unfold dl;grind)];unfold Aof;rw [if_pos h];simp [dl]
 ·rw [if_neg h,BEf];obtain ⟨m,rfl⟩:∃ m,n=k + m:=⟨n - k,AGl⟩
  have hs:∀ t,psum (λs=>Aof k A ρ r s * B s c) (k + t)=psum (λs=>cof k A (ρ r) s * A s (γ c)) k + (if r < k + t then det k A * A (ρ r) (γ c) else 0):=by
   intro t
   induction t with
   | zero=>
     rw [if_neg AGl,Int.add_zero,Nat.add_zero]
     refine AUi λs hs=>?_
     unfold Aof
     grind
   | succ t ih=>
     show psum (λs=>Aof k A ρ r s * B s c) (k + t) + Aof k A ρ r (k + t) * B (k + t) c=_
     rw [ih]
     have e:Aof k A ρ r (k + t)=if k + t=r then det k A else 0:=by unfold Aof;omega
     grind
  grind
theorem Azt {m:Nat} {ρ:Nat->Nat}:det (k + m) (Aof k A ρ)=AZ2 (λ_=>det k A) m:=by
 rw [Awg (λi j hij hj=>by
  unfold Aof
  split
  ·unfold dl;omega
  omega),Azq,Awi,Int.one_mul]
 ·refine Asx λi hi=>?_;unfold Aof;omega
 ·intro i hi;unfold Aof;rw [if_pos hi];simp [dl]
theorem Apr (h0:det k A≠0) (i j:Nat):Mn k A k k * Mn k A i j - Mn k A i k * Mn k A k j=det k A * Mn (k + 1) A i j:=by
 have h1:=Anx (n:=k + 2) (Aof k A<|bro (k + 1) i) λr c=>A (bro (k + 1) i r)<|bro (k + 1) j c
 have hm:∀ r c,r < k + 2->AV3 (k + 2) (Aof k A<|bro (k + 1) i) (λr c=>A (bro (k + 1) i r)<|bro (k + 1) j c) r c=if r < k then A (bro (k + 1) i r) (bro (k + 1) j c) else Mn k A (bro (k + 1) i r) (bro (k + 1) j c):=λr c hr=>
  Azs (k:=k) (n:=k + 2) (A:=A) (B:=λr c=>A (bro (k + 1) i r)<|bro (k + 1) j c) (ρ:=bro (k + 1) i) (γ:=bro (k + 1) j) AGl (λr hr=>by unfold bro;grind) (λr c=>rfl) hr
 rw [Azt,Ar9 (k:=k) (m:=2) (λa b ha ha2 hb=>by
  rw [hm a b ha2,if_neg AGl,show bro (k + 1) j b=b by unfold bro;grind];exact BDa _ _ hb)] at h1
 have e1:det k (AV3 (k + 2) (Aof k A<|bro (k + 1) i) λr c=>A (bro (k + 1) i r)<|bro (k + 1) j c)=det k A:=by
  refine AU6 λr c hr hc=>?_;rw [hm r c AGl,if_pos hr];simp only [bro];grind
 have b0:∀ q,bro (k + 1) q (k + 0)=k:=λq=>by unfold bro;grind
 have b1:∀ q,bro (k + 1) q (k + 1)=q:=λq=>by unfold bro;grind
 rw [e1,BBp] at h1;simp only [shF] at h1;rw [hm _ _ AGl,hm _ _ AGl,hm _ _ AGl,hm _ _ AGl,if_neg AGl,if_neg AGl,if_neg AGl,if_neg AGl,b0,b0,b1,b1] at h1;have e2:AZ2 (λ_=>det k A) 2=det k A * det k A:=by simp [AZ2]
 have e3:(det (k + 2) λr c=>A (bro (k + 1) i r)<|bro (k + 1) j c)=Mn (k + 1) A i j:=rfl;rw [e2,e3,Int.mul_assoc] at h1;exact Int.eq_of_mul_eq_mul_left h0 h1
theorem Azu {n:Nat} (h0:det k A≠0) (hk:k < n) (hz:∀ i,k<=i->i < n->Mn k A i k=0):det n A=0:=by
 obtain ⟨m,rfl⟩:∃ m,n=k + (m + 1):=⟨n - k - 1,AGl⟩;have h1:=Anx (n:=k + (m + 1)) (Aof k A id) A
 have hm:∀ r c,r < k + (m + 1)->AV3 (k + (m + 1)) (Aof k A id) A r c=if r < k then A r c else Mn k A r c:=λr c hr=>
  Azs (k:=k) (n:=k + (m + 1)) (A:=A) (B:=A) (ρ:=id) (γ:=id) AGl (λr hr=>rfl) (λr c=>rfl) hr
 rw [Azt,Ar9 (k:=k) (m:=m + 1) (λa b ha ha2 hb=>by rw [hm a b ha2,if_neg AGl];exact BDa _ _ hb),Axr (F:=shF k _) (λi hi=>by
  unfold shF;grind),Int.mul_zero] at h1
 rcases Int.mul_eq_zero.1 h1.symm with h2 | h2
 ·exact absurd h2<|Azr λi hi=>h0
 ·exact h2
def dBd (m:Nat):Nat->Nat
 | 0=>1
 | n + 1=>(n + 1) * m * dBd m n
theorem psum_abs {f:Nat->Int} {B:Nat}:∀ {n:Nat},(∀ i,i < n->(f i).natAbs<=B)->(psum f n).natAbs<=n * B
 | 0,_=>by simp [psum]
 | n + 1,h=>by
   have h1:=psum_abs (n:=n) λi hi=>h i AGl
   have h2:=h n AGl
   have h3:=Int.natAbs_add_le (psum f n)<|f n
   show (psum f n + f n).natAbs<=_
   grind
theorem Arh {m:Nat}:∀ {n:Nat} {F:AS9},(∀ i j,(F i j).natAbs<=m)->(det n F).natAbs<=dBd m n
 | 0,_,_=>by simp [det,dBd]
 | n + 1,F,h=>by
   have h1:=psum_abs (f:=λi=>sg i * F i 0 * det n (AYi i F)) (B:=m * dBd m n) (n:=n + 1) λi hi=>by
    have e:=Arh (n:=n) (F:=AYi i F) λa b=>h _ _
    have es:(sg i).natAbs=1:=by unfold sg;split <;> rfl
    rw [Int.natAbs_mul,Int.natAbs_mul,es,Nat.one_mul]
    exact Nat.mul_le_mul (h i 0) e
   rw [dBd,Nat.mul_assoc]
   exact h1
theorem BBq {n:Nat} (hp:k < p) (hi:k<=i):Mn k (AXx A p k) i j=Mn k A (if i=k then p else if i=p then k else i) j:=by
 refine AU6 λr c hr hc=>?_;rw [Adx];unfold bro;grind
theorem Axt (hp:k < p):det k (AXx A p k)=det k A:=by
 refine AU6 λr c hr hc=>?_;rw [Adx,if_neg AGl,if_neg AGl]
def sgB (neg:Bool):Int:=if neg then -1 else 1
def Ap2 (m:Nat) (A0:AS9) (n k:Nat) (F:AS9) (last:Int) (neg:Bool):Prop:=
 ∃ A:AS9,det n A=sgB neg * det n A0/\(∀ i j,k<=i->i < n->k<=j->j < n->F i j=Mn k A i j)/\last=det k A/\last≠0/\ ∀ i j,(A i j).natAbs<=m
theorem Aup {m n:Nat} (h:∀ i j,(A0 i j).natAbs<=m):Ap2 m A0 n 0 A0 1 false:=
 ⟨A0,by simp [sgB],λi j _ _ _ _=>(Aiz A0 i j).symm,rfl,AGn,h⟩
theorem Awj {m n:Nat} (H:Ap2 m A0 n k F last neg) (hkp:k < p) (hp:p < n):Ap2 m A0 n k (AXx F p k) last (!neg):=by
 obtain ⟨A,h1,h2,h3,h4,h5⟩:=H;refine ⟨AXx A p k,?_,λi j hi hin hj hjn=>?_,by rw [Axt hkp];exact h3,h4,λi j=>?_⟩
 ·rw [Ajw hp AGl AGl,h1];cases neg <;> simp [sgB]
 ·rw [BBq (n:=n) hkp hi,Adx];grind
 ·rw [Adx];grind
def bQ (k:Nat) (F:AS9) (last:Int) (r c:Nat):Int:=(F k k * F r c - F r k * F k c) / last
def bF (k:Nat) (F:AS9) (last:Int) (i j:Nat):AS9:=λr c=>if k < r/\k < c/\(r < i∨r=i/\c < j) then bQ k F last r c else F r c
theorem Auq (k:Nat) (F:AS9) (last:Int):bF k F last (k + 1) (k + 1)=F:=by
 funext r c;unfold bF;omega
theorem A1s (k n:Nat) (F:AS9) (last:Int) (i:Nat) {c:Nat} (hc:c < n):bF k F last i n r c=bF k F last (i + 1) (k + 1) r c:=by
 unfold bF;omega
theorem A1t (k:Nat) (F:AS9) (last:Int) (hi:k < i) (hj:k < j):(AUw (bF k F last i j) i λc=>if c=j then bQ k F last i j else bF k F last i j i c)=bF k F last i (j + 1):=by
 funext r c;rw [AUb];split
 ·subst_vars
  split
  ·subst_vars;unfold bF;omega
  ·unfold bF;omega
 ·unfold bF;omega
theorem Aur (k:Nat) (F:AS9) (last:Int) (i j c:Nat):bF k F last i j k c=F k c:=by unfold bF;omega
theorem A8a (k:Nat) (F:AS9) (last:Int) (i j r:Nat):bF k F last i j r k=F r k:=by unfold bF;omega
theorem A8b (k:Nat) (F:AS9) (last:Int) (i j:Nat):bF k F last i j i j=F i j:=by unfold bF;omega
theorem BDb {m n:Nat} (H:Ap2 m A0 n k F last neg) (hk:k < n):∃ A,(∀ i j,(A i j).natAbs<=m)/\det n A=sgB neg * det n A0/\F k k=det (k + 1) A/\ ∀ i j,k<=i->i < n->k<=j->j < n->F i j=Mn k A i j/\bQ k F last i j=Mn (k + 1) A i j:=by
 obtain ⟨A,h1,h2,h3,h4,h5⟩:=H;refine ⟨A,h5,h1,by rw [h2 k k AGl hk AGl hk,Aep],λi j hi hin hj hjn=>⟨h2 i j hi hin hj hjn,?_⟩⟩;unfold bQ;rw [h2 k k AGl hk AGl hk,h2 i j hi hin hj hjn,h2 i k hi hin AGl hk,h2 k j AGl hk hj hjn,Apr AGl,<- h3,Int.mul_ediv_cancel_left _ h4]
theorem Awk {m n:Nat} (H:Ap2 m A0 n k F last neg) (hk:k < n) (h0:F k k≠0):Ap2 m A0 n (k + 1) (bF k F last n<|k + 1) (F k k) neg:=by
 obtain ⟨A,h5,h1,h6,h2⟩:=BDb H hk;refine ⟨A,h1,λi j hi hin hj hjn=>?_,h6,h0,h5⟩;unfold bF;grind
theorem Awl {m n:Nat} (H:Ap2 m A0 n k F last neg) (hk:k < n) (hz:∀ i,k<=i->i < n->F i k=0):det n A0=0:=by
 obtain ⟨A,h1,h2,h3,h4,h5⟩:=H;have h:=Azu (A:=A) AGl hk λi hi hin=>by grind
 rw [h1] at h;rcases Int.mul_eq_zero.1 h with h6 | h6
 ·cases neg <;> simp [sgB] at h6
 ·exact h6
theorem Azv {m n:Nat} (H:Ap2 m A0 n n F last neg):det n A0=if neg then -last else last:=by
 obtain ⟨A,h1,h2,h3,h4,h5⟩:=H;rw [<- h3] at h1;rw [h1];cases neg
 ·simp [sgB]
 ·simp [sgB]
theorem A1u {m:Nat} (h:∀ i j,(A i j).natAbs<=m) (i j:Nat):(Mn k A i j).natAbs<=dBd m (k + 1):=Arh λr c=>h _ _
theorem Ahw {m:Nat} (hm:1<=m) {b:Nat} (h:a<=b):dBd m a<=dBd m b:=by
 induction h with
 | refl=>omega
 | step h ih=>
   refine Nat.le_trans ih ?_
   rw [dBd]
   exact Nat.le_mul_of_pos_left _<|Nat.mul_pos AGl AGl
theorem Azw {m n:Nat} (hm:1<=m) (H:Ap2 m A0 n k F last neg) (hk:k < n) (hi:k<=i) (hin:i < n) (hj:k<=j) (hjn:j < n):(F i j).natAbs<=dBd m n/\(bQ k F last i j).natAbs<=dBd m (n + 1):=by
 obtain ⟨A,h5,h1,h6,h2⟩:=BDb H hk;obtain ⟨h7,h8⟩:=h2 i j hi hin hj hjn;rw [h7,h8];exact ⟨Nat.le_trans (A1u h5 _ _)<|Ahw hm AGl,Nat.le_trans (A1u h5 _ _)<|Ahw hm AGl⟩
theorem Awm {m n:Nat} (hm:1<=m) (H:Ap2 m A0 n k F last neg) (hk:k<=n):last≠0/\last.natAbs<=dBd m n:=by
 obtain ⟨A,h1,h2,h3,h4,h5⟩:=H;exact ⟨h4,by rw [h3];exact Nat.le_trans (Arh h5)<|Ahw hm hk⟩
end Go.QF
namespace Go.Proofs.YtkakafabeobahaaGreatDoor
open Go Go.QF
theorem BBr {n:Nat} {a b c:α} (h:i < n):(List.replicate i a ++ List.replicate (n - i) b).set i c=List.replicate i a ++ (c :: List.replicate (n - i - 1) b):=by
 rw [List.set_append_right _ _ AT7,List.length_replicate,Nat.sub_self,show n - i=(n - i - 1) + 1 by omega,List.replicate_succ];rfl
theorem Atg {n m:Nat} (hn:n<=100000000) (hm:m<=100000000) (hf:n < fuel):AWr fuel n m=some (List.replicate n<|List.replicate m 0):=by
 apply ok_eq;unfold AWr;refine AVc AGl<|AGw (AT8 (λi s=>s=((i:Int),List.replicate i (List.replicate m 0) ++ List.replicate (n - i) [])) n (Q:=(· =List.replicate n (List.replicate m 0))) AT7 hf λi s hi hI=>?_) λx hx=>AGp hx;subst hI;unfold Aex;dsimp only;rw [List.length_replicate,Int.toNat_natCast];refine ATj (λh=>AVc AGl<|ATy (n:=i) (x:=[]) ?_ rfl (AGp ⟨AGl,?_⟩)) λh=>AGp ?_
 ·grind
 ·rw [wk AGl,AUx,Int.toNat_natCast,BBr AGl];congr 1;rw [show n - (i + 1)=n - i - 1 by omega,List.replicate_succ'];simp
 ·obtain rfl:i=n:=by omega
  simp
theorem Axu {A:List (List α)} {row:List α} (hi:i < A.length):(A.take i ++ row :: List.replicate (A.length - i - 1) []).set i=λr=>A.take i ++ r :: List.replicate (A.length - i - 1) []:=by
 funext r;rw [List.set_append_right _ _ (by simp;omega),List.length_take,Nat.min_eq_left AGl,Nat.sub_self];rfl
theorem Axv {A:List (List Int)} (hn:A.length<=100000000) (hm:∀ z∈A,z.length<=100000000/\z.length < fuel) (hf:A.length < fuel):AY7 fuel A=some A:=by
 apply ok_eq;unfold AY7;refine AVc AGl<|AGw (AT8 (λi s=>s=((i:Int),A.take i ++ List.replicate (A.length - i) [])) A.length (Q:=(· =A)) AT7 hf λi s hi hI=>?_) λx hx=>AGp hx;subst hI;unfold Aez;dsimp only;refine ATj (λh=>?_) λh=>AGp ?_
 ·have hi':i < A.length:=by omega
  obtain ⟨row,hrow⟩:∃ row,A[i]? =some row:=⟨A[i],List.getElem?_eq_getElem hi'⟩;have hr:=hm row<|List.mem_of_getElem? hrow;refine ATy hrow rfl (AGw (AT8 (λj s=>s=((j:Int),A.take i ++ row.take j :: List.replicate (A.length - i - 1) [])) row.length (Q:=(· =A.take i ++ row :: List.replicate (A.length - i - 1) [])) ?_ hr.2 λj s hj hJ=>?_) λx hx=>AGp ⟨hi',?_⟩)
  ·rw [show A.length - i=(A.length - i - 1) + 1 by omega,List.replicate_succ];simp
  ·subst hJ;unfold Aey;dsimp only;refine ATj (λh2=>?_) λh2=>AGp ?_
   ·obtain ⟨x,hx⟩:∃ x,row[j]? =some x:=⟨row[j]'AGl,List.getElem?_eq_getElem _⟩;refine ATy hx rfl (ATy (n:=i) (x:=row.take j) ?_ rfl (AGw (Q:=(· =x)) ⟨x,rfl,rfl⟩ λy hy=>AVc ?_<|AGp ⟨AGl,?_⟩))
    ·grind
    ·grind
    ·subst hy;rw [wk AGl,AUx,Axu hi',List.take_add_one,hx];rfl
   grind
  ·subst hx;rw [wk AGl,List.take_add_one,hrow,show A.length - (i + 1)=A.length - i - 1 by omega];simp
 ·obtain rfl:i=A.length:=by omega
  simp
def okM (A:List (List Int)):Bool:=decide (1<=A.length/\A.length<=16/\ ∀ z∈A,1<=z.length/\z.length<=16/\z.length=Agp A)
theorem Akp {A:List (List Int)} {z:List Int} (h:A[0]? =some z):Agp A=z.length:=by unfold Agp;rw [h];rfl
theorem Asy {A:List (List Int)} (hr:∀ z∈A,∀ x∈z,-9223372036854775808<=x/\x<=9223372036854775807) (hf:17 < fuel):AVf fuel A=some (if okM A then (A,true) else ([],false)):=by
 apply ok_eq;unfold AVf
 have key:∀ R:List (List Int) × Bool->Prop,(okM A=false->R ([],false))->(okM A=true->R (A,true))->Ok (AVf fuel A) R:=by
  intro R hF hT
  unfold AVf
  refine AGw (Q:=λex=>match ex with | .inl e=>e=([],false)/\okM A=false | .inr _=>1<=A.length/\A.length<=16) (ATj (λh=>AGp ⟨rfl,by unfold okM;grind⟩) λh=>ATj (λh2=>AGp ⟨rfl,by unfold okM;grind⟩) λh2=>AGp ⟨AGl,AGl⟩) λex hex=>?_
  cases ex with
  | inl e=>obtain ⟨rfl,h⟩:=hex;exact AGp (hF h)
  | inr u=>
    dsimp only at hex ⊢
    obtain ⟨z0,Ac⟩:∃ z,A[0]? =some z:=⟨A[0]'AGl,List.getElem?_eq_getElem _⟩
    have hc:=Akp Ac
    refine AGw (AT8 (λi (s:Int)=>s=(i:Int)/\ ∀ z∈A.take i,1<=z.length/\z.length<=16/\z.length=Agp A) A.length (Q:=λex=>match ex with | .inl e=>e=([],false)/\okM A=false | .inr _=>okM A=true) ⟨rfl,AT7⟩ AGl λi s hi hI=>?_) λex Ab=>?_
    ·obtain ⟨rfl,hI⟩:=hI
     unfold Abq
     refine ATj (λh=>?_) λh=>AGp ?_
     ·have hi':i < A.length:=by omega
      obtain ⟨row,hrow⟩:∃ row,A[i]? =some row:=⟨A[i],List.getElem?_eq_getElem hi'⟩
      have bad: ¬ (1<=row.length/\row.length<=16/\row.length=Agp A)->okM A=false:=λhb=>by
       unfold okM;grind
      refine ATy hrow rfl (ATj (λh1=>AGp ⟨rfl,bad AGl⟩) λh1=>ATj (λh2=>AGp ⟨rfl,bad AGl⟩) λh2=>ATy Ac rfl (ATj (λh3=>AGp ⟨rfl,bad AGl⟩) λh3=>AGp ⟨hi',wk AGl,?_⟩))
      rw [List.take_add_one,hrow]
      grind
     ·obtain rfl:i=A.length:=by omega
      rw [List.take_length] at hI
      unfold okM;grind
    ·cases ex with
     | inl e=>obtain ⟨rfl,h⟩:=Ab;exact AGp (hF h)
     | inr u=>
       dsimp only at Ab ⊢
       have hv:=Ab
       unfold okM at hv;rw [decide_eq_true_eq] at hv
       have hcA:∀ z∈A,z.length=Agp A:=λz hz=>(hv.2.2 z hz).2.2
       have Ag:1<=Agp A/\Agp A<=16:=by grind
       refine ATy Ac rfl (AGw (AUa<|Atg AGl AGl AGl) λO hO=>?_)
       subst hO
       rw [<- hc]
       refine AGw (AT8 (λi s=>s=((i:Int),A.take i ++ List.replicate (A.length - i) (List.replicate (Agp A) 0))) A.length (Q:=(· =A)) AT7 AGl λi s hi hI=>?_) λx hx=>AGp<|hx ▸ hT Ab
       subst hI
       unfold Abp
       dsimp only
       refine ATj (λh=>?_) λh=>AGp ?_
       ·have hi':i < A.length:=by omega
        obtain ⟨row,hrow⟩:∃ row,A[i]? =some row:=⟨A[i],List.getElem?_eq_getElem hi'⟩
        have hrl:=hcA row<|List.mem_of_getElem? hrow
        refine ATy hrow rfl (AGw (AT8 (λj s=>s=((j:Int),A.take i ++ (row.take j ++ List.replicate (Agp A - j) 0) :: List.replicate (A.length - i - 1) (List.replicate (Agp A) 0))) row.length (Q:=(· =A.take i ++ row :: List.replicate (A.length - i - 1) (List.replicate (Agp A) 0))) ?_ AGl λj s hj hJ=>?_) λx hx=>AGp ⟨hi',?_⟩)
        ·rw [show A.length - i=(A.length - i - 1) + 1 by omega,List.replicate_succ];simp
        ·subst hJ
         unfold Abo
         dsimp only
         refine ATj (λh2=>?_) λh2=>AGp ?_
         ·obtain ⟨x,hx⟩:∃ x,row[j]? =some x:=⟨row[j]'AGl,List.getElem?_eq_getElem _⟩
          have hxr:=hr row (List.mem_of_getElem? hrow) x<|List.mem_of_getElem? hx
          refine ATy (n:=i) (x:=row.take j ++ List.replicate (Agp A - j) 0) ?_ rfl (ATy hrow rfl (ATy hx rfl (AGw (Q:=(· =x)) ⟨x,if_pos hxr,rfl⟩ λy hy=>ATy (n:=j) (x:=0) ?_ rfl (AGp ⟨AGl,?_⟩))))
          ·grind
          ·grind
          ·subst hy
           rw [wk AGl,AUx,AUx]
           congr 1
           rw [List.set_append_right _ _ (by simp;omega),List.length_take,Nat.min_eq_left AGl,Nat.sub_self,List.set_cons_zero]
           congr 2
           rw [List.set_append_right _ _ (by simp;omega),List.length_take,Nat.min_eq_left AGl,Nat.sub_self,show Agp A - j=(Agp A - (j + 1)) + 1 by omega,List.replicate_succ,List.set_cons_zero,List.take_add_one,hx]
           simp
         ·obtain rfl:j=row.length:=by omega
          rw [List.take_length,show Agp A - row.length=0 by omega];simp
        ·subst hx
         rw [wk AGl,List.take_add_one,hrow,show A.length - (i + 1)=A.length - i - 1 by omega]
         simp
       ·obtain rfl:i=A.length:=by omega
        simp
 have:=key (λr=>r=if okM A then (A,true) else ([],false)) (λh=>by rw [h];rfl) (λh=>by rw [h];rfl);unfold AVf at this;exact this
theorem BDc {A:List (List Int)} (hr:∀ z∈A,∀ x∈z,-9223372036854775808<=x/\x<=9223372036854775807) (hf:17 < fuel):AWw fuel A=some (if okM A then A else []):=by
 unfold AWw;rw [Asy hr hf];grind
def m63:Nat:=9223372036854775808
def Anz:Nat:=dBd m63 17
theorem Axw:2 * (Anz * Anz) < AWk:=by decide
theorem A8c:1<=Anz:=by decide
theorem Aus {b:Nat} (ha:a<=Anz) (hb:b<=Anz):a * b < AWk:=by
 have:=Nat.mul_le_mul ha hb;have:=Axw;omega
theorem A8d (ha:a<=Anz):a < AWk:=by
 have h1:=Axw;have h2:=Nat.mul_le_mul A8c<|Nat.le_refl Anz;omega
theorem A8e {n:Nat} (hn:n<=16):dBd m63 n<=Anz/\dBd m63 (n + 1)<=Anz:=⟨Ahw AGn AGl,Ahw AGn AGl⟩
theorem Ari {z:Int}:AZd z=0↔z=0:=by
 unfold AZd;omega
theorem Azx {a b:Int} (ha:a.natAbs<=Anz) (hb:b.natAbs<=Anz):Ak7 fuel a b=some (a * b):=if_pos<|Aus ha hb
theorem Azy {a b:Int} (ha:a.natAbs<=Anz) (hb:b.natAbs<=Anz):(a * b).natAbs < AWk:=by rw [Int.natAbs_mul];exact Aus ha hb
theorem BBt {a b c:Int} (ha:a.natAbs<=Anz) (hb:b.natAbs<=Anz) (hc:c.natAbs<=Anz) (hd:d.natAbs<=Anz):(a * b - c * d).natAbs < AWk:=by
 have h1:=Nat.mul_le_mul ha hb;have h2:=Nat.mul_le_mul hc hd;rw [<- Int.natAbs_mul] at h1 h2;have:=Axw;omega
theorem Aqm {c:Nat}:sI (tab r c F) (i:Int) (sI (AU9 c<|F i) (j:Int) x)=tab r c (AUw F i λq=>if q=j then x else F i q):=by
 rw [AUx,AUx,AXd];exact A70
theorem BEh {n:Nat} (hn:n<=16) (hb:∀ i j,(F i j).natAbs<=m63) (hf:17 < fuel):AUd fuel (tab n n F)=some (det n F):=by
 apply ok_eq;unfold AUd;refine AGw (AUa<|Axv (by rw [ATt];omega) (λz hz=>by rw [Aq3 z hz];omega) (by rw [ATt];omega)) λA hA=>?_;subst hA;refine AGw (Q:=(· =1)) ⟨1,if_pos AGl,rfl⟩ λone h1=>?_;subst h1;obtain ⟨hD,Ap⟩:=A8e hn;refine AGw (AT8 (λk s=> ∃ G last neg,s=(neg,((k:Int),tab n n G,last))/\Ap2 m63 F n k G last neg) n (Q:=λex=>match ex with | .inl e=>e=det n F | .inr (neg,last)=>det n F=if neg then -last else last) ⟨F,1,false,rfl,Aup hb⟩ AGl λk s hk hI=>?_) λex hex=>?_
 ·obtain ⟨G,last,neg,rfl,hB⟩:=hI;unfold AX2;dsimp only;rw [ATt];refine ATj (λh=>?_) λh=>AGp ?_
  ·have hk':k < n:=by omega
   refine AGw (Q:=λex=>match ex with | .inl e=>e=det n F | .inr (neg',a',last')=> ∃ G',a'=tab n n G'/\Ap2 m63 F n (k + 1) G' last' neg') ?_ λex hex=>?_
   ·refine AGw (Q:=λ(e:Int)=> ∃ p:Nat,e=p/\k<=p/\p<=n/\(∀ i,k<=i->i < p->G i k=0)/\(p < n->G p k≠0)) (AGw (AT8 (λj (s:Int)=>s=((k + j:Nat):Int)/\k + j<=n/\ ∀ i,k<=i->i < k + j->G i k=0) (n - k) (Q:=λ(e:Int)=> ∃ p:Nat,e=p/\k<=p/\p<=n/\(∀ i,k<=i->i < p->G i k=0)/\(p < n->G p k≠0)) ⟨rfl,AGl,λi h1 h2=>by omega⟩ AGl λj s hj hJ=>?_) λe he=>AGp he) λe he=>?_
    ·obtain ⟨rfl,hjn,hz⟩:=hJ;unfold AXz;rw [ATt];refine AGw (Q:=λex=>match ex with | .inl _=>k + j < n/\G (k + j) k=0 | .inr _=>k + j < n->G (k + j) k≠0) (ATj (λh2=>ATy (ATv AGl) rfl (ATy (ATm AGl) rfl (AGw (AUa (a:=AZd<|G (k + j) k) rfl) λsg hsg=>ATj (λh3=>AGp ⟨AGl,?_⟩) λh3=>AGp λ_=>?_))) λh2=>AGp λh3=>by omega) λex hex=>?_
     ·subst hsg;exact Ari.1 h3
     ·subst hsg;exact λh4=>h3<|Ari.2 h4
     ·cases ex with
      | inl u=>exact AGp ⟨AGl,by rw [wk AGl];omega,AGl,λi h1 h2=>by
         grind⟩
      | inr u=>exact AGp ⟨k + j,rfl,AGl,hjn,hz,hex⟩
    ·obtain ⟨p,rfl,hkp,hpn,hz,hp⟩:=he;refine ATj (λh2=>AGp ?_) λh2=>?_
     ·obtain rfl:p=n:=by omega
      exact (Awl hB hk' hz).symm
     ·have hp':p < n:=by omega
      refine AGw (Q:=λ(r:Bool × List (List Int))=> ∃ G',r.2=tab n n G'/\Ap2 m63 F n k G' last r.1/\G' k k≠0) (ATj (λh3=>ATy (ATv AGl) rfl (ATy (ATv AGl) rfl (AGp ⟨AXx G p k,?_,Awj hB AGl hp',?_⟩))) λh3=>AGp ⟨G,rfl,hB,?_⟩) λr hr=>?_
      ·dsimp only;rw [AUx,AUx];show ((tab n n G).set p (AU9 n<|G k)).set k (AU9 n<|G p)=_;rw [show AU9 n (G k)=(List.range n).map (G k) from rfl,show AU9 n (G p)=(List.range n).map (G p) from rfl,Aeu,Aeu];rfl
      ·rw [Adx,if_pos rfl];exact hp hp'
      ·grind
      ·obtain ⟨Aq,a2⟩:=r;obtain ⟨G2,Ag,Af,hne⟩:=hr;dsimp only at Ag Af ⊢;subst Ag;have hlast:=Awm AGn Af AGl;have habs:∀ i j,k<=i->i < n->k<=j->j < n->(G2 i j).natAbs<=Anz:=λi j h1 h2 h3 h4=>Nat.le_trans (Azw AGn Af hk' h1 h2 h3 h4).1 hD;have hl':last.natAbs<=Anz:=Nat.le_trans hlast.2 hD;rw [wk AGl];refine AGw (AT8 (λi s=>s=(((k + 1 + i:Nat):Int),tab n n<|bF k G2 last (k + 1 + i)<|k + 1)/\k + 1 + i<=n) (n - (k + 1)) (Q:=(· =tab n n (bF k G2 last n<|k + 1))) ⟨by rw [Nat.add_zero,Auq];simp,AGl⟩ AGl λi s hi hI=>?_) λa3 Ah=>?_
       ·obtain ⟨rfl,hin⟩:=hI;unfold AX1;dsimp only;rw [ATt];obtain ⟨q,hq⟩:∃ q,k + 1 + i=q:=⟨_,rfl⟩;rw [hq] at hin ⊢;refine ATj (λh3=>?_) λh3=>AGp ?_
        ·have hqn:q < n:=by omega
         rw [wk AGl];refine AGw (AT8 (λj s=>s=(((k + 1 + j:Nat):Int),tab n n<|bF k G2 last q<|k + 1 + j)/\k + 1 + j<=n) (n - (k + 1)) (Q:=(· =tab n n (bF k G2 last q n))) ⟨AT7,AGl⟩ AGl λj s hj hJ=>?_) λa4 Ai=>AGp ?_
         ·obtain ⟨rfl,hjn⟩:=hJ;unfold AX0;dsimp only;rw [ATt];obtain ⟨c,hc⟩:∃ c,k + 1 + j=c:=⟨_,rfl⟩;rw [hc] at hjn ⊢;refine ATj (λh4=>?_) λh4=>AGp ?_
          ·have hcn:c < n:=by omega
           refine ATy (ATv hqn) rfl (ATy (ATv hk') rfl (ATy (ATm hk') rfl (ATy (ATm hcn) rfl ?_)));rw [Aur,A8b];refine AGw (AUa<|Azx (habs _ _ AGl AGl AGl AGl)<|habs _ _ AGl AGl AGl AGl) λx1 Aj=>ATy (ATm hk') rfl (ATy (ATm hcn) rfl ?_);subst Aj;rw [A8a,Aur];refine AGw (AUa<|Azx (habs _ _ AGl AGl AGl AGl)<|habs _ _ AGl AGl AGl AGl) λx2 Ak=>?_;subst Ak;refine AGw (Q:=(· =G2 k k * G2 q c - G2 q k * G2 k c)) ⟨_,if_pos ⟨Azy (habs _ _ AGl AGl AGl AGl)<|habs _ _ AGl AGl AGl AGl,Azy (habs _ _ AGl AGl AGl AGl)<|habs _ _ AGl AGl AGl AGl⟩,rfl⟩ λx3 Am=>?_
           ·subst Am;refine AGw (Q:=(· =bQ k G2 last q c)) ?_ λx4 Ao=>AGp ⟨AGl,?_,AGl⟩
            ·unfold AV2 Ams;rw [if_pos ⟨BBt (habs _ _ AGl AGl AGl AGl) (habs _ _ AGl AGl AGl AGl) (habs _ _ AGl AGl AGl AGl)<|habs _ _ AGl AGl AGl AGl,A8d hl',hlast.1⟩];exact ⟨_,rfl,rfl⟩
            ·subst Ao;rw [wk AGl,Aqm,A1t k G2 last AGl AGl];grind
          grind
         ·subst Ai;refine ⟨AGl,?_,AGl⟩;rw [wk AGl];congr 1
          ·omega
          ·refine Aha λr c hr hc=>?_;rw [A1s k n G2 last q hc,<- Nat.add_assoc,hq]
        grind
       ·subst Ah;refine ATy (ATv hk') rfl (ATy (ATm hk') rfl (AGp ⟨_,rfl,?_⟩));rw [Aur];exact Awk Af hk' hne
   ·match ex,hex with
    | .inl e,hex=>exact AGp hex
    | .inr (neg',a',last'),hex=>
      obtain ⟨G',rfl,hB'⟩:=hex
      exact AGp ⟨hk',G',last',neg',by rw [wk AGl];rfl,hB'⟩
  ·obtain rfl:k=n:=by omega
   exact Azv hB
 ·match ex,hex with
  | .inl e,hex=>exact AGp hex
  | .inr (neg,last),hex=>
    dsimp only at hex ⊢
    rw [hex]
    refine ATj (λh=>AGw (AUa (a:= -last) rfl) λx hx=>AGp ?_) λh=>AGp ?_
    ·rw [hx,h];rfl
    ·rw [if_neg h]
theorem Asz {b:Nat} (hG:2 * (D * D) < AWk) (ha:a<=D) (hb:b<=D):a * b < AWk:=by
 have:=Nat.mul_le_mul ha hb;omega
theorem BBu (hG:2 * (D * D) < AWk) (ha:a<=D):a < AWk:=by
 rcases Nat.eq_zero_or_pos D with h | h
 ·omega
 ·have h2:=Nat.mul_le_mul h<|Nat.le_refl D;omega
theorem Asa {a b:Int} (hG:2 * (D * D) < AWk) (ha:a.natAbs<=D) (hb:b.natAbs<=D):Ak7 fuel a b=some (a * b):=if_pos<|Asz hG ha hb
theorem Awn {a b:Int} (hG:2 * (D * D) < AWk) (ha:a.natAbs<=D) (hb:b.natAbs<=D):(a * b).natAbs < AWk:=by rw [Int.natAbs_mul];exact Asz hG ha hb
theorem A8f {a b c:Int} (hG:2 * (D * D) < AWk) (ha:a.natAbs<=D) (hb:b.natAbs<=D) (hc:c.natAbs<=D) (hd:d.natAbs<=D):(a * b - c * d).natAbs < AWk:=by
 have h1:=Nat.mul_le_mul ha hb;have h2:=Nat.mul_le_mul hc hd;rw [<- Int.natAbs_mul] at h1 h2;omega
theorem BBv {n M N:Nat} (hM:1<=M) (hG:2 * (dBd M (N + 1) * dBd M (N + 1)) < AWk) (hnN:n<=N) (hn:n<=16) (hb:∀ i j,(F i j).natAbs<=M) (hf:17 < fuel):AUd fuel (tab n n F)=some (det n F):=by
 apply ok_eq;unfold AUd;refine AGw (AUa<|Axv (by rw [ATt];omega) (λz hz=>by rw [Aq3 z hz];omega) (by rw [ATt];omega)) λA hA=>?_;subst hA;refine AGw (Q:=(· =1)) ⟨1,if_pos AGl,rfl⟩ λone h1=>?_;subst h1;have hD:dBd M n<=dBd M (N + 1):=Ahw hM AGl;have Ap:dBd M (n + 1)<=dBd M (N + 1):=Ahw hM AGl;refine AGw (AT8 (λk s=> ∃ G last neg,s=(neg,((k:Int),tab n n G,last))/\Ap2 M F n k G last neg) n (Q:=λex=>match ex with | .inl e=>e=det n F | .inr (neg,last)=>det n F=if neg then -last else last) ⟨F,1,false,rfl,Aup hb⟩ AGl λk s hk hI=>?_) λex hex=>?_
 ·obtain ⟨G,last,neg,rfl,hB⟩:=hI;unfold AX2;dsimp only;rw [ATt];refine ATj (λh=>?_) λh=>AGp ?_
  ·have hk':k < n:=by omega
   refine AGw (Q:=λex=>match ex with | .inl e=>e=det n F | .inr (neg',a',last')=> ∃ G',a'=tab n n G'/\Ap2 M F n (k + 1) G' last' neg') ?_ λex hex=>?_
   ·refine AGw (Q:=λ(e:Int)=> ∃ p:Nat,e=p/\k<=p/\p<=n/\(∀ i,k<=i->i < p->G i k=0)/\(p < n->G p k≠0)) (AGw (AT8 (λj (s:Int)=>s=((k + j:Nat):Int)/\k + j<=n/\ ∀ i,k<=i->i < k + j->G i k=0) (n - k) (Q:=λ(e:Int)=> ∃ p:Nat,e=p/\k<=p/\p<=n/\(∀ i,k<=i->i < p->G i k=0)/\(p < n->G p k≠0)) ⟨rfl,AGl,λi h1 h2=>by omega⟩ AGl λj s hj hJ=>?_) λe he=>AGp he) λe he=>?_
    ·obtain ⟨rfl,hjn,hz⟩:=hJ;unfold AXz;rw [ATt];refine AGw (Q:=λex=>match ex with | .inl _=>k + j < n/\G (k + j) k=0 | .inr _=>k + j < n->G (k + j) k≠0) (ATj (λh2=>ATy (ATv AGl) rfl (ATy (ATm AGl) rfl (AGw (AUa (a:=AZd<|G (k + j) k) rfl) λsg hsg=>ATj (λh3=>AGp ⟨AGl,?_⟩) λh3=>AGp λ_=>?_))) λh2=>AGp λh3=>by omega) λex hex=>?_
     ·subst hsg;exact Ari.1 h3
     ·subst hsg;exact λh4=>h3<|Ari.2 h4
     ·cases ex with
      | inl u=>exact AGp ⟨AGl,by rw [wk AGl];omega,AGl,λi h1 h2=>by
         grind⟩
      | inr u=>exact AGp ⟨k + j,rfl,AGl,hjn,hz,hex⟩
    ·obtain ⟨p,rfl,hkp,hpn,hz,hp⟩:=he;refine ATj (λh2=>AGp ?_) λh2=>?_
     ·obtain rfl:p=n:=by omega
      exact (Awl hB hk' hz).symm
     ·have hp':p < n:=by omega
      refine AGw (Q:=λ(r:Bool × List (List Int))=> ∃ G',r.2=tab n n G'/\Ap2 M F n k G' last r.1/\G' k k≠0) (ATj (λh3=>ATy (ATv AGl) rfl (ATy (ATv AGl) rfl (AGp ⟨AXx G p k,?_,Awj hB AGl hp',?_⟩))) λh3=>AGp ⟨G,rfl,hB,?_⟩) λr hr=>?_
      ·dsimp only;rw [AUx,AUx];show ((tab n n G).set p (AU9 n<|G k)).set k (AU9 n<|G p)=_;rw [show AU9 n (G k)=(List.range n).map (G k) from rfl,show AU9 n (G p)=(List.range n).map (G p) from rfl,Aeu,Aeu];rfl
      ·rw [Adx,if_pos rfl];exact hp hp'
      ·grind
      ·obtain ⟨Aq,a2⟩:=r;obtain ⟨G2,Ag,Af,hne⟩:=hr;dsimp only at Ag Af ⊢;subst Ag;have hlast:=Awm hM Af AGl;have habs:∀ i j,k<=i->i < n->k<=j->j < n->(G2 i j).natAbs<=dBd M (N + 1):=λi j h1 h2 h3 h4=>Nat.le_trans (Azw hM Af hk' h1 h2 h3 h4).1 hD;have hl':last.natAbs<=dBd M (N + 1):=Nat.le_trans hlast.2 hD;rw [wk AGl];refine AGw (AT8 (λi s=>s=(((k + 1 + i:Nat):Int),tab n n<|bF k G2 last (k + 1 + i)<|k + 1)/\k + 1 + i<=n) (n - (k + 1)) (Q:=(· =tab n n (bF k G2 last n<|k + 1))) ⟨by rw [Nat.add_zero,Auq];simp,AGl⟩ AGl λi s hi hI=>?_) λa3 Ah=>?_
       ·obtain ⟨rfl,hin⟩:=hI;unfold AX1;dsimp only;rw [ATt];obtain ⟨q,hq⟩:∃ q,k + 1 + i=q:=⟨_,rfl⟩;rw [hq] at hin ⊢;refine ATj (λh3=>?_) λh3=>AGp ?_
        ·have hqn:q < n:=by omega
         rw [wk AGl];refine AGw (AT8 (λj s=>s=(((k + 1 + j:Nat):Int),tab n n<|bF k G2 last q<|k + 1 + j)/\k + 1 + j<=n) (n - (k + 1)) (Q:=(· =tab n n (bF k G2 last q n))) ⟨AT7,AGl⟩ AGl λj s hj hJ=>?_) λa4 Ai=>AGp ?_
         ·obtain ⟨rfl,hjn⟩:=hJ;unfold AX0;dsimp only;rw [ATt];obtain ⟨c,hc⟩:∃ c,k + 1 + j=c:=⟨_,rfl⟩;rw [hc] at hjn ⊢;refine ATj (λh4=>?_) λh4=>AGp ?_
          ·have hcn:c < n:=by omega
           refine ATy (ATv hqn) rfl (ATy (ATv hk') rfl (ATy (ATm hk') rfl (ATy (ATm hcn) rfl ?_)));rw [Aur,A8b];refine AGw (AUa<|Asa hG (habs _ _ AGl AGl AGl AGl)<|habs _ _ AGl AGl AGl AGl) λx1 Aj=>ATy (ATm hk') rfl (ATy (ATm hcn) rfl ?_);subst Aj;rw [A8a,Aur];refine AGw (AUa<|Asa hG (habs _ _ AGl AGl AGl AGl)<|habs _ _ AGl AGl AGl AGl) λx2 Ak=>?_;subst Ak;refine AGw (Q:=(· =G2 k k * G2 q c - G2 q k * G2 k c)) ⟨_,if_pos ⟨Awn hG (habs _ _ AGl AGl AGl AGl)<|habs _ _ AGl AGl AGl AGl,Awn hG (habs _ _ AGl AGl AGl AGl)<|habs _ _ AGl AGl AGl AGl⟩,rfl⟩ λx3 Am=>?_
           ·subst Am;refine AGw (Q:=(· =bQ k G2 last q c)) ?_ λx4 Ao=>AGp ⟨AGl,?_,AGl⟩
            ·unfold AV2 Ams;rw [if_pos ⟨A8f hG (habs _ _ AGl AGl AGl AGl) (habs _ _ AGl AGl AGl AGl) (habs _ _ AGl AGl AGl AGl)<|habs _ _ AGl AGl AGl AGl,BBu hG hl',hlast.1⟩];exact ⟨_,rfl,rfl⟩
            ·subst Ao;rw [wk AGl,Aqm,A1t k G2 last AGl AGl];grind
          grind
         ·subst Ai;refine ⟨AGl,?_,AGl⟩;rw [wk AGl];congr 1
          ·omega
          ·refine Aha λr c hr hc=>?_;rw [A1s k n G2 last q hc,<- Nat.add_assoc,hq]
        grind
       ·subst Ah;refine ATy (ATv hk') rfl (ATy (ATm hk') rfl (AGp ⟨_,rfl,?_⟩));rw [Aur];exact Awk Af hk' hne
   ·match ex,hex with
    | .inl e,hex=>exact AGp hex
    | .inr (neg',a',last'),hex=>
      obtain ⟨G',rfl,hB'⟩:=hex
      exact AGp ⟨hk',G',last',neg',by rw [wk AGl];rfl,hB'⟩
  ·obtain rfl:k=n:=by omega
   exact Azv hB
 ·match ex,hex with
  | .inl e,hex=>exact AGp hex
  | .inr (neg,last),hex=>
    dsimp only at hex ⊢
    rw [hex]
    refine ATj (λh=>AGw (AUa (a:= -last) rfl) λx hx=>AGp ?_) λh=>AGp ?_
    ·rw [hx,h];rfl
    ·rw [if_neg h]
def mN (n:Nat):Nat:=if n<=6 then 2 ^ 194 else 2 ^ 100
def gN (n:Nat):Nat:=if n<=6 then dBd (2 ^ 194) 7 else dBd (2 ^ 100) 9
theorem Awo (n:Nat):2 ^ 100<=mN n:=by unfold mN;split <;> decide
theorem A8g (n:Nat):64 * (gN n * gN n) < AWk:=by unfold gN;split <;> decide
theorem A8h (n:Nat):3<=gN n:=by unfold gN;split <;> decide
theorem BGn (n:Nat):24 * (gN n * mN n)<=(2 ^ 158) ^ 10:=by unfold gN mN;split <;> decide
theorem A8i {n:Nat} (hn:n<=8) (hk:k<=n + 1):dBd (mN n) k<=gN n:=by
 unfold mN gN;split
 ·exact Ahw AGn AGl
 ·exact Ahw AGn AGl
theorem A8j (n:Nat):2 * (gN n * gN n) < AWk:=by have:=A8g n;omega
theorem Arj {n N:Nat} (hN:N<=8) (hn:n<=N) (hb:∀ i j,i < n->j < n->(F i j).natAbs<=mN N) (hf:17 < fuel):AUd fuel (tab n n F)=some (det n F):=by
 have e1:tab n n F=tab n n λi j=>if i < n/\j < n then F i j else 0:=by
  rw [Ajv,Ajv]
  exact AUq λi hi=>AUq λj hj=>by omega
 have e2:det n F=det n λi j=>if i < n/\j < n then F i j else 0:=AU6 λi j hi hj=>by omega
 have hg:=A8i hN<|Nat.le_refl<|N + 1;have h1:=Awo N;rw [e1,e2];refine BBv (M:=mN N) (Nat.le_trans AGn h1) (Nat.lt_of_le_of_lt (Nat.mul_le_mul_left 2<|Nat.mul_le_mul hg hg)<|A8j N) hn AGl (λi j=>?_) hf;grind
theorem BBw:FdT Tryz.prog 24 0 0 5:=⟨_,_,Tryz.underlying24,rfl,rfl,rfl⟩
theorem BBx:FdT Tryz.prog 24 1 1 5:=⟨_,_,Tryz.underlying24,rfl,rfl,rfl⟩
theorem BBy:FdT Tryz.prog 24 2 2 22:=⟨_,_,Tryz.underlying24,rfl,rfl,rfl⟩
theorem A8k:AgT Tryz.prog 24 4:=Aqd Tryz.underlying24 rfl AG2
end Go.Proofs.YtkakafabeobahaaGreatDoor
namespace Go.Proofs.YtkakafabeobahaaGreatDoor
open Go Go.QF
set_option maxRecDepth 100000
set_option maxHeartbeats 4000000
def AX4 (fuel:Nat) (a1:Int) (a5:LiA) (Ac Aa Ad:Int) (Ae:LiI):Option ((Int × Int × LiI) ⊕ (Int × LiI)):=
 if Aa < ((List.replicate (Int.toNat<|w64<|1 + Int.tmod (w64 a1) Ac) ([]:List Int)).length:Int) then if 0<=w64 (1 + Int.tmod (w64 a1) Ac)/\w64 (1 + Int.tmod (w64 a1) Ac)<=100000000 then (gI Ae Aa).bind λAo=>(gI (sI Ae Aa<|List.replicate (Int.toNat<|w64<|1 + Int.tmod (w64 a1) Ac) (0:Int)) Aa).bind λAg=>((((if (a5.length:Int)<=Ad then some (0,Ad) else (gI a5<|w64<|w64 (Ad + 1) - 1).bind λAh=>some (w64 Ah,w64<|Ad + 1)):Option (Int × Int)).bind λ(Ai,Aj)=>some (Int.tmod (w64<|IntKind.wrap .u8 Ai) 6,Aj)):Option (Int × Int)).bind λ(Ak,Am)=>(gI Ag Aa).bind λAp=>some (.inl (w64<|Aa + 1,Am,sI (sI Ae Aa<|List.replicate (Int.toNat<|w64<|1 + Int.tmod (w64 a1) Ac) (0:Int)) Aa<|sI Ag Aa<|w64<|1 + Ak)) else none else some<|.inr (Ad,Ae)
def Aai (fuel:Nat) (a5:LiA) (Ab Aa Ac:Int) (Ad:LiI):Option ((Int × Int × LiI) ⊕ (Int × LiI)):=
 if Aa < Ab then (gI Ad Ab).bind λAe=>((if (a5.length:Int)<=Ac then some (0,Ac) else (gI a5<|w64<|w64 (Ac + 1) - 1).bind λAi=>some (w64 Ai,w64<|Ac + 1)):Option (Int × Int)).bind λ(Af,Aj)=>(gI Ae Aa).bind λAo=>(gI (sI Ad Ab<|sI Ae Aa<|Int.tmod Af 3) Aa).bind λAh=>(gI (sI Ad Ab<|sI Ae Aa<|Int.tmod Af 3) Ab).bind λAk=>(gI Ak Aa).bind λAm=>(gI Ah Ab).bind λAp=>some (.inl (w64<|Aa + 1,Aj,sI (sI Ad Ab<|sI Ae Aa<|Int.tmod Af 3) Aa<|sI Ah Ab Am)) else some<|.inr (Ac,Ad)
def AX5 (fuel:Nat) (a5:LiA) (Ae:LiI) (Aa Ab:Int) (Ac:LiI):Option ((Int × Int × LiI) ⊕ (Int × LiI)):=
 if Aa < (Ae.length:Int) then (iter (λs=>Aai fuel a5 Aa s.1 s.2.1 s.2.2) fuel (0,Ab,Ac)).bind (λ((Af,Ag):Int × LiI)=>some<|.inl (w64<|Aa + 1,Af,Ag)) else some<|.inr (Ab,Ac)
def AXm (fuel:Nat) (a1:Int) (a5:LiA) (Ac Aa Ad:Int) (Ae:LiI):Option ((Int × Int × LiI) ⊕ (Int × LiI)):=
 if Aa < ((List.replicate (Int.toNat<|w64<|1 + Int.tmod (w64 a1) Ac) ([]:List Int)).length:Int) then if 0<=w64 (1 + Int.tmod (w64 a1) Ac)/\w64 (1 + Int.tmod (w64 a1) Ac)<=100000000 then (gI Ae Aa).bind λAo=>(gI (sI Ae Aa<|List.replicate (Int.toNat<|w64<|1 + Int.tmod (w64 a1) Ac) (0:Int)) Aa).bind λAg=>((((if (a5.length:Int)<=Ad then some (0,Ad) else (gI a5<|w64<|w64 (Ad + 1) - 1).bind λAh=>some (w64 Ah,w64<|Ad + 1)):Option (Int × Int)).bind λ(Ai,Aj)=>some (Int.tmod (w64<|IntKind.wrap .u8 Ai) 9,Aj)):Option (Int × Int)).bind λ(Ak,Am)=>(gI Ag Aa).bind λAp=>some (.inl (w64<|Aa + 1,Am,sI (sI Ae Aa<|List.replicate (Int.toNat<|w64<|1 + Int.tmod (w64 a1) Ac) (0:Int)) Aa<|sI Ag Aa<|w64<|1 + Ak)) else none else some<|.inr (Ad,Ae)
def AXn (fuel:Nat) (a1:Int) (a5:LiA) (Ac Aa Ad:Int) (Ae:LiI):Option ((Int × Int × LiI) ⊕ (Int × LiI)):=
 if Aa < ((List.replicate (Int.toNat<|w64<|1 + Int.tmod (w64 a1) Ac) ([]:List Int)).length:Int) then if 0<=w64 (1 + Int.tmod (w64 a1) Ac)/\w64 (1 + Int.tmod (w64 a1) Ac)<=100000000 then (gI Ae Aa).bind λAo=>(gI (sI Ae Aa<|List.replicate (Int.toNat<|w64<|1 + Int.tmod (w64 a1) Ac) (0:Int)) Aa).bind λAg=>((((if (a5.length:Int)<=Ad then some (0,Ad) else (gI a5<|w64<|w64 (Ad + 1) - 1).bind λAh=>some (w64 Ah,w64<|Ad + 1)):Option (Int × Int)).bind λ(Ai,Aj)=>some (Int.tmod (w64<|IntKind.wrap .u8 Ai) 1,Aj)):Option (Int × Int)).bind λ(Ak,Am)=>(gI Ag Aa).bind λAp=>some (.inl (w64<|Aa + 1,Am,sI (sI Ae Aa<|List.replicate (Int.toNat<|w64<|1 + Int.tmod (w64 a1) Ac) (0:Int)) Aa<|sI Ag Aa<|w64<|1 + Ak)) else none else some<|.inr (Ad,Ae)
def AXo (fuel:Nat) (a1:Int) (a5:LiA) (Ac Aa Ad:Int) (Ae:LiI):Option ((Int × Int × LiI) ⊕ (Int × LiI)):=
 if Aa < ((List.replicate (Int.toNat<|w64<|1 + Int.tmod (w64 a1) Ac) ([]:List Int)).length:Int) then if 0<=w64 (1 + Int.tmod (w64 a1) Ac)/\w64 (1 + Int.tmod (w64 a1) Ac)<=100000000 then (gI Ae Aa).bind λAo=>(gI (sI Ae Aa<|List.replicate (Int.toNat<|w64<|1 + Int.tmod (w64 a1) Ac) (0:Int)) Aa).bind λAg=>((((if (a5.length:Int)<=Ad then some (0,Ad) else (gI a5<|w64<|w64 (Ad + 1) - 1).bind λAh=>some (w64 Ah,w64<|Ad + 1)):Option (Int × Int)).bind λ(Ai,Aj)=>some (Int.tmod (w64<|IntKind.wrap .u8 Ai) 2,Aj)):Option (Int × Int)).bind λ(Ak,Am)=>(gI Ag Aa).bind λAp=>some (.inl (w64<|Aa + 1,Am,sI (sI Ae Aa<|List.replicate (Int.toNat<|w64<|1 + Int.tmod (w64 a1) Ac) (0:Int)) Aa<|sI Ag Aa<|w64<|1 + Ak)) else none else some<|.inr (Ad,Ae)
def AXe (fuel:Nat) (a1 a2:Int) (a5 a9:LiA) (Aa:Int):Option LiI:=
 if Aa≠0 then ((((if Int.tmod a2 8=0 then some (decide (Int.tmod a2 8=0)) else if Int.tmod a2 8=1 then some (decide (Int.tmod a2 8=1)) else if Int.tmod a2 8=2 then some (decide (Int.tmod a2 8=2)) else some<|decide (Int.tmod a2 8=3)):Option Bool).bind (λ(Ak:Bool)=>if Ak=true then ((((if 0<=w64 (1 + Int.tmod (w64 a1) Aa)/\w64 (1 + Int.tmod (w64 a1) Aa)<=100000000 then (iter (λs=>AX4 fuel a1 a5 Aa s.1 s.2.1 s.2.2) fuel (0,0,List.replicate (Int.toNat<|w64<|1 + Int.tmod (w64 a1) Aa) ([]:List Int))).bind (λ((Am,Ao):Int × LiI)=>some (Ao,Am)) else none):Option (LiI × Int)).bind λ(Ae,Ap)=>(iter (λs=>AX5 fuel a5 Ae s.1 s.2.1 s.2.2) fuel (0,Ap,Ae)).bind (λ((Aq,Ar):Int × LiI)=>some (Ar,Aq))):Option (LiI × Int)).bind λ(Au,Av)=>some (Au,Av) else if Int.tmod a2 8=4 then (AY8 fuel (w64<|1 + Int.tmod (w64 a1) Aa) false).bind λAf=>(gI Af 0).bind λAg=>(gI Ag 0).bind λAw=>((((if (a5.length:Int)<=0 then some (0,0) else (gI a5<|w64<|w64 (0 + 1) - 1).bind λAx=>some (w64 Ax,w64<|0 + 1)):Option (Int × Int)).bind λ(Ay,Az)=>some (Int.tmod (w64<|IntKind.wrap .u8 Ay) 3,Az)):Option (Int × Int)).bind λ(A3,A4)=>some (sI Af 0<|sI Ag 0<|w64<|Aw + A3,A4) else if Int.tmod a2 8=5 then (AY8 fuel (w64<|1 + Int.tmod (w64 a1) Aa) true).bind λAh=>(gI Ah<|w64<|w64 (1 + Int.tmod (w64 a1) Aa) - 1).bind λAi=>(gI Ai<|w64<|w64 (1 + Int.tmod (w64 a1) Aa) - 1).bind λA5=>((((if (a5.length:Int)<=0 then some (0,0) else (gI a5<|w64<|w64 (0 + 1) - 1).bind λA6=>some (w64 A6,w64<|0 + 1)):Option (Int × Int)).bind λ(A7,A8)=>some (Int.tmod (w64<|IntKind.wrap .u8 A7) 2,A8)):Option (Int × Int)).bind λ(A9,Ba)=>some (sI Ah (w64<|w64 (1 + Int.tmod (w64 a1) Aa) - 1)<|sI Ai (w64<|w64 (1 + Int.tmod (w64 a1) Aa) - 1)<|w64<|A5 + A9,Ba) else if Int.tmod a2 8=6 then ((if 0<=w64 (1 + Int.tmod (w64 a1) Aa)/\w64 (1 + Int.tmod (w64 a1) Aa)<=100000000 then (iter (λs=>AXm fuel a1 a5 Aa s.1 s.2.1 s.2.2) fuel (0,0,List.replicate (Int.toNat<|w64<|1 + Int.tmod (w64 a1) Aa) ([]:List Int))).bind (λ((Bb,Bc):Int × LiI)=>some (Bc,Bb)) else none):Option (LiI × Int)).bind λ(Be,Bf)=>some (Be,Bf) else ((if 0<=w64 (1 + Int.tmod (w64 a1) Aa)/\w64 (1 + Int.tmod (w64 a1) Aa)<=100000000 then (iter (λs=>AXn fuel a1 a5 Aa s.1 s.2.1 s.2.2) fuel (0,0,List.replicate (Int.toNat<|w64<|1 + Int.tmod (w64 a1) Aa) ([]:List Int))).bind (λ((Bg,Bh):Int × LiI)=>some (Bh,Bg)) else none):Option (LiI × Int)).bind λ(Bi,Bj)=>some (Bi,Bj))):Option (LiI × Int)).bind (λ((Aj,Bl):LiI × Int)=>(Abg fuel Aj).bind λBm=>if (!Bm)=true then ((if 0<=w64 (1 + Int.tmod (w64 a1) Aa)/\w64 (1 + Int.tmod (w64 a1) Aa)<=100000000 then (iter (λs=>AXo fuel a1 a5 Aa s.1 s.2.1 s.2.2) fuel (0,Bl,List.replicate (Int.toNat<|w64<|1 + Int.tmod (w64 a1) Aa) ([]:List Int))).bind (λ((Bn,Bo):Int × LiI)=>some (Bo,Bn)) else none):Option (LiI × Int)).bind λ(Bp,Br)=>some Bp else some Aj) else none
theorem Aje {a5:LiA} {B6:Value} {a9:LiA} {Am:Int} {r:LiI} (H4:SlC (cI .i8) h Ab a5) (H8:SlC (cI .i8) h B6 a9) (hp:AXe fuel a1 a2 a5 a9 Am=some r):ATz Tryz.prog 31 #[(.agg #[(.int .u8 a1),(.int .u8 a2),Ab,B6]),(.int .i64 Am)] h (λx h'=>Ext h h'/\ ∃ (x0:Value) (F0:List Nat) (Hf:List LnA) (Hg:List Value),x=x0/\AV8 (cI .i64) 61 2 h' F0 Hf Hg x0 r/\Sp h' h.size [F0]):=by
 unfold AXe at hp;refine cwf (l:=[_,_]) Tryz.func31 rfl rfl (AGq<|AY3 (Kst.k0 h) [(.int .u8 a1),(.int .u8 a2),Ab,B6] λTv Tw Tx B7=>AT2<|AUs BBy Akv (B7.b p0) 2 rfl ?_);obtain ⟨_,_,_,Hh⟩:=(H4.ext B7.x).shape;refine AXa (v:=(.agg #[Ab,(.int .i64 0)])) (λ_=>by subst Hh;kernel_rfl)<|AY3 B7 [Ab,(.int .i64 0)] λAa Ty Tz Ax=>AT2<|AUs BBw BC2 (Ax.b p1) 0 rfl (Agr Amp Ang rfl (AGm ?_));obtain ⟨Hj,Hk⟩:=ifN hp;refine Acl rfl rfl Hj (ATn rfl rfl (AT2<|AGx ?_));obtain ⟨Hl,Hm,Dy⟩:=AGr Hk;refine Aer 147573952589676150912 (λx:(LiI) × (Value) × LnA × LnN × LvA × (Int)=>[(7,x.2.1)]) (λx h'=>( (x.1,x.2.2.2.2.2))=Hl/\Kst h h' (aO2 (cI .i64) 61 2 x.2.2.1 x.2.2.2.1 x.2.2.2.2.1 x.2.1 x.1 :: ((AZ3 Ax.L [0]).set 0 (aB 109 Aa [Ab,(.int .i64 x.2.2.2.2.2)])))) ?_ ?_
 ·refine AGq<|AUs BBx BC2 (Ax.b p1) 1 rfl (Acl rfl rfl AGn (AGu<|AGt ?_));obtain ⟨Hn,Dz,B8⟩:=AGr Hm;refine Aer 520093696 (λx:(Bool)=>[(24,(.bool x))]) (λx h'=>( x)=Hn/\Kst h h' (AZ3 Ax.L [0])) ?_ ?_
  ·refine AGq<|AU0 rfl rfl (AGx<|⟨_,rfl,λB9=>?_,λB9=>?_⟩)
   ·refine AG0<|q_t ?_;exact ⟨((decide ((Int.tmod a2 8)=0)):(Bool)),⟨AGo<|AT4 Dz B9,Ax.sel [0] AGn⟩,rfl,trivial⟩
   ·refine AGq<|AU0 rfl rfl (AGx ?_);have D0:=AT5 Dz B9;refine ⟨_,rfl,λCa=>?_,λCa=>?_⟩
    ·refine AG0<|q_t ?_;exact ⟨((decide ((Int.tmod a2 8)=1)):(Bool)),⟨AGo<|AT4 D0 Ca,Ax.sel [0] AGn⟩,rfl,trivial⟩
    ·refine AGq<|AU0 rfl rfl (AGx ?_);have D1:=AT5 D0 Ca;refine ⟨_,rfl,λCb=>?_,λCb=>?_⟩
     ·refine AG0<|q_t ?_;exact ⟨((decide ((Int.tmod a2 8)=2)):(Bool)),⟨AGo<|AT4 D1 Cb,Ax.sel [0] AGn⟩,rfl,trivial⟩
     ·refine AS8<|AU0 rfl rfl (AGx ?_);exact ⟨((decide ((Int.tmod a2 8)=3)):(Bool)),⟨AGo<|AT5 D1 Cb,Ax.sel [0] AGn⟩,rfl,trivial⟩
  rintro Ho Hq Hr ⟨Hs,Ao⟩;(try dsimp only [Kst.L,List.set,AZ3,Adk] at Ao);refine (show W _ _ _ (setL [(24,(.bool Ho))]<|mix _ Hq _) Hr from ?_);subst Hs;(try dsimp only at B8);refine ⟨_,rfl,λCd=>?_,λCd=>?_⟩
  ·refine AS8<|AGm<|AGm ?_;obtain ⟨Ht,Hu,D2⟩:=AGr<|ifT B8 Cd;refine ATo (K':=(λxr h'=> ∃ x:(LiI) × (Value) × LnA × LnN × LvA × (Int),(x.1,x.2.2.2.2.2)=Ht/\xr=x.2.1/\Kst h h' (aO2 (cI .i64) 61 2 x.2.2.1 x.2.2.2.1 x.2.2.2.2.1 x.2.1 x.1 :: (Ao.L.set 0<|aB 109 Aa [Ab,(.int .i64 x.2.2.2.2.2)])))) trivial rfl ?_ λD3 T0 Hv=>?_
   ·refine cwf (l:=[_,_]) Tryz.func72 rfl rfl (AGq<|AT2<|AGm<|AGm ?_);obtain ⟨Hw,Hx,D4⟩:=AGr Hu;refine ATo (K':=(λxr h'=> ∃ x:(LiI) × (Value) × LnA × LnN × LvA × (Int),(x.1,x.2.2.2.2.2)=Hw/\xr=x.2.1/\Kst h h' (aO2 (cI .i64) 61 2 x.2.2.1 x.2.2.2.1 x.2.2.2.2.1 x.2.1 x.1 :: (Ao.L.set 0<|aB 109 Aa [Ab,(.int .i64 x.2.2.2.2.2)])))) trivial rfl ?_ λBa T3 Hy=>?_
    ·refine cwf (l:=[_,_,_]) Tryz.func75 rfl rfl (AGq<|AT2<|AGm ?_);obtain ⟨Hz,H5⟩:=ifN Hx;refine Ak0 (cI .i64) 2 ATb Aet rfl trivial tt2 rfl rfl AGn Hz λIa Ib Ic D5 T4 Id Ie If=>AGx<|AGs<|AGq<|AGm ?_;have Ce:=Ao.no2 Ie If Id;refine AT3 ATb rfl (Ce.o2 p0).rd (AGm<|AGu<|AGt<|AXv 4294959360 (λx:(Int) × (Int) × (LiI) × LnA × LnN × LvA=>(x.1,x.2.1,x.2.2.1)) ((0,0,(List.replicate (Int.toNat<|w64<|1 + (Int.tmod (w64 a1) Am)) ([]:List Int)),Ia,Ib,Ic):(Int) × (Int) × (LiI) × LnA × LnN × LvA) H5 (λx=>[(13,(.int .i64 x.1))]) (λx=>(Ce.L.set 0<|aO2 (cI .i64) 61 2 x.2.2.2.1 x.2.2.2.2.1 x.2.2.2.2.2 D5 x.2.2.1).set 1 (aB 109 Aa [Ab,(.int .i64 x.2.1)])) Ce ⟨rfl,trivial⟩ ?_);rintro ⟨Cf,Bb,Ih,Ii,Ij,Ik⟩ Il Im T5 Cg Bc Io;(try dsimp only [Kst.L,List.set,AZ3,Adk] at Cg);refine (show W _ _ _ (setL [(13,(.int .i64 Cf))]<|mix _ Il _) Im from ?_);(try dsimp only at Bc);unfold AX4 at Bc;refine AGq<|ATp rfl rfl (AGu<|AGs<|⟨_,rfl,λCh=>?_,λCh=>?_⟩)
     ·refine AG0<|q_t<|AGs<|AGt<|AGq<|AGm<|AT2<|AGm<|AGm<|AGm ?_;obtain ⟨Ip,Iq⟩:=ifN<|AT4 Bc Ch;refine Ajb (c:=(cI .i64)) (a:=0) ATa Abm rfl rfl (λ_=>rfl) rfl trivial tt2 rfl rfl AGn Ip λT6 T7 T8 Ir Is It Iu=>?_;have A3:=Cg.no Is (AYh It Iu) Ir;obtain ⟨T9,D6,Iv⟩:=AGr Iq;refine AVv ATb rfl (A3.o2 p1) rfl D6 λUa Ub Iw Uc Ud=>Akz ATq (A3.o2 p1) D6 Iw rfl rfl (A3.o p0) (A3.dj p0 p1 AGn) λAp Ix Iy Iz=>AGu<|AVn (λh'=>UpT ([Aa] ++ []) Ap h') AG2 ?_;have Af:=A3.m2 p0 p1 AGn Iy Ix λz hz=> .inl<|Iz z hz;have Ci:UpT ([Aa] ++ []) Ap Ap:=UpT.start<|AV9 (AZh (Af.b p2) rfl) all_nil;refine AGm<|AGm ?_;obtain ⟨Ue,Cj,I0⟩:=AGr Iv;refine AVv ATb rfl (Af.o2 p1) rfl Cj λUf Ug I1 I2 I3=>AVg ATq rfl Ci (λh' hb=>Agd I3 hb<|Amd (Af.dj p1 p2 AGn _<|by simp [aO,aO2,I1]) Ame) (AGm<|AGm<|AGm ?_);obtain ⟨I6,I7,D7⟩:=AGr I0;have I9:UpT ([Aa] ++ []) Ap Ap:=UpT.start<|AV9 (AZh (Af.b p2) rfl) all_nil;refine ATo (K':=(λxr h'=> ∃ x:(Int) × (Int),(x.1,x.2)=I6/\xr=(.int .i64 x.1)/\Kst h h' ((AZ3 Af.L [1,2]).set 1 (aB 109 Aa [Ab,(.int .i64 x.2)]))/\UpT ([Aa] ++ []) Ap h')) Ci rfl ?_ λUh Ui Ja=>?_
      ·refine cwf (l:=[_,_]) Tryz.func74 rfl rfl (AGq<|AT2<|AGm ?_);obtain ⟨Jc,D8,D9⟩:=AGr I7;have Ea:UpT ([Aa] ++ []) Ap Ap:=UpT.start<|AV9 (AZh (Af.b p2) rfl) all_nil;refine ATo (K':=(λxr h'=> ∃ x:(Int) × (Int),(x.1,x.2)=Jc/\xr=(.int .i64 x.1)/\Kst h h' ((AZ3 Af.L [1,2]).set 1 (aB 109 Aa [Ab,(.int .i64 x.2)]))/\UpT ([Aa] ++ []) Ap h')) trivial rfl ?_ λUj Uk Je=>?_
       ·refine cwf (l:=[_]) Tryz.func135 rfl rfl (AGq<|AGx<|AGs<|AGs<|AXi<|AGm<|AU2 rfl (AVd AWd rfl (AT6 AT9 rfl ((Af.b p2).cell (i:=1) rfl) (AGm<|AU2 rfl (AVd Adz rfl (AT6 Akv rfl ((Af.b p2).cell (i:=0) rfl) (AUl Als rfl H4 (Afp rfl rfl (AGu<|⟨_,rfl,λCk=>?_,λCk=>?_⟩)))))))))
        ·refine AGq<|AGx<|AG1<|ATd<|⟨_,AS5,((0,Bb):(Int) × (Int)),?_,rfl,?_,?_⟩
         ·exact AGo<|AT4 D8 Ck
         ·exact Af.sel [1,2] AGn
         ·exact Ea
        ·refine AG0<|q_t<|AGq<|AGm<|AU2 rfl (AVd AWd rfl (AT6 AT9 rfl ((Af.b p2).cell (i:=1) rfl) (ATn rfl rfl (AU2 rfl (AVd AWd rfl (Ai5 [Ab,(.int .i64<|w64<|Bb + 1)] AT9 rfl rfl rfl (Af.b p2) (Nat.le_of_ble_eq_true rfl) rfl λUl Eb Ec=>AGu<|AGs<|AXi<|AGm<|AU2 rfl (AVd Adz rfl ?_)))))));have Be:=Af.sb p2 Ec Eb rfl;refine AT6 Akv rfl ((Be.b p2).cell (i:=0) rfl) (AGm<|AU2 rfl (AVd AWd rfl (AT6 AT9 rfl ((Be.b p2).cell (i:=1) rfl) (AVh rfl rfl ?_))));obtain ⟨Jf,Jg,Jh⟩:=AGr<|AT5 D8 Ck;refine Adg (c:=(cI .i8)) Als rfl H4 rfl Jg λUm Un Uo Ji Jj=>?_;obtain rfl:=Ji;refine AT6 At0 rfl (ATw (Jj 0 _ rfl) Be.x) (Agr At1 Afh rfl (AGx<|AG1<|⟨_,AS5,(((w64 Jf),(w64<|Bb + 1)):(Int) × (Int)),?_,rfl,?_,?_⟩))
         ·exact AGo Jh
         ·exact Be.sel [1,2] AGn
         ·exact (Ea.then (Eb.stA Ec (AZh (Af.b p2) rfl) rfl)<|Ahi rfl)
       obtain ⟨⟨Jk,Jl⟩,Jm,rfl,Ed,Jn⟩:=Je;(try dsimp only [Kst.L,List.set,AZ3,Adk] at Ed);refine ⟨trivial,?_⟩;subst Jm;(try dsimp only at D9);refine Agr Afh Amp rfl (Agr Amp Ang rfl (AGm<|Acl rfl rfl AGn (AGx<|AG1<|⟨_,AS5,(((Int.tmod (w64<|IntKind.wrap .u8 Jk) 6),Jl):(Int) × (Int)),?_,rfl,?_,?_⟩)))
       ·exact AGo D9
       ·exact Ed
       ·exact (I9.then Jn<|AV9 (Ahi rfl) all_nil)
      obtain ⟨⟨Jo,Up⟩,Jp,rfl,Cm,Jq⟩:=Ja;(try dsimp only [Kst.L,List.set,AZ3,Adk] at Cm);refine ⟨(Ci.then Jq<|AV9 (Ahi rfl) all_nil),?_⟩;subst Jp;(try dsimp only at D7);refine ATn rfl rfl ?_;obtain ⟨Uq,Ee,Jr⟩:=AGr D7;refine AXj (m:=Cf) ATa rfl (Af.o2 p1) I2 Cj rfl Ee λUr Js=>Afl (m:=Cf) (Aem ATg rfl rfl rfl) (Cm.o2 p0) Js Cj Ee (show ((cI .i64)).rep _ (w64<|1 + Jo) _ from rfl) λUs Jt Ju=>ATu<|q_b<|q_t<|AS8<|ATn rfl rfl (AGm<|AGu ?_);exact ⟨(_,_,_,_,_,_),(AGo Jr).symm,(Cm.uO2 p0 Ju Jt),rfl,trivial⟩
     ·have Ef:=Io _ (AGo<|AT5 Bc Ch).symm;(try dsimp only at Ef);refine ATh<|ATi<|ATi<|AUf<|q_t<|AGq<|AGm<|AGx<|AG1<|⟨_,AS5,((Ih,D5,Ii,Ij,Ik,Bb):(LiI) × (Value) × LnA × LnN × LvA × (Int)),?_,rfl,?_⟩
      ·exact AGo Ef
      ·exact Cg
    obtain ⟨⟨Jv,Ba,Jw,Jx,Jy,Jz⟩,J0,rfl,Bf⟩:=Hy;(try dsimp only [Kst.L,List.set,AZ3,Adk] at Bf);refine ⟨trivial,?_⟩;subst J0;(try dsimp only at D4);refine AGx<|AGs<|AGq<|AGm<|AT3 ATb rfl (Bf.o2 p0).rd (AGm<|AGu<|AGt<|AXv 17592186036416 (λx:(Int) × (Int) × (LiI) × LnA × LnN × LvA=>(x.1,x.2.1,x.2.2.1)) ((0,Jz,Jv,Jw,Jx,Jy):(Int) × (Int) × (LiI) × LnA × LnN × LvA) D4 (λx=>[(13,(.int .i64 x.1))]) (λx=>(Bf.L.set 0<|aO2 (cI .i64) 61 2 x.2.2.2.1 x.2.2.2.2.1 x.2.2.2.2.2 Ba x.2.2.1).set 1 (aB 109 Aa [Ab,(.int .i64 x.2.1)])) Bf ⟨rfl,trivial⟩ ?_);rintro ⟨Bg,Eg,Eh,Ei,Ej,Ek⟩ J1 J2 Ut Bh Bi J3;(try dsimp only [Kst.L,List.set,AZ3,Adk] at Bh);refine (show W _ _ _ (setL [(13,(.int .i64 Bg))]<|mix _ J1 _) J2 from ?_);(try dsimp only at Bi);unfold AX5 at Bi;refine AGq<|ATp rfl rfl (AGu<|AGs<|⟨_,rfl,λCn=>?_,λCn=>?_⟩)
    ·refine AG0<|q_t<|AGs<|AGt<|AGq<|AGm<|AT2<|AGx<|AGt<|AXv 8796092956800 (λx:(Int) × (Int) × (LiI) × LnA × LnN × LvA=>(x.1,x.2.1,x.2.2.1)) ((0,Eg,Eh,Ei,Ej,Ek):(Int) × (Int) × (LiI) × LnA × LnN × LvA) (AT4 Bi Cn) (λx=>[(7,(.int .i64 x.1))]) (λx=>(Bh.L.set 0<|aO2 (cI .i64) 61 2 x.2.2.2.1 x.2.2.2.2.1 x.2.2.2.2.2 Ba x.2.2.1).set 1 (aB 109 Aa [Ab,(.int .i64 x.2.1)])) Bh ⟨rfl,trivial⟩ ?_;rintro ⟨El,Co,Uu,Uv,Uw,Ux⟩ J4 Az Uy Ag Bj J5;(try dsimp only [Kst.L,List.set,AZ3,Adk] at Ag);refine (show W _ _ _ (setL [(7,(.int .i64 El))]<|mix _ J4 _) Az from ?_);(try dsimp only at Bj);unfold Aai at Bj;refine AGs<|AGq<|AGm<|AGm<|ATp rfl rfl (AGu<|⟨_,rfl,λCp=>?_,λCp=>?_⟩)
     ·refine AG0<|q_t<|AGs<|AGt<|AGs<|AVn (λh'=>UpT ([Aa] ++ []) Az h') AG2 ?_;have Cq:UpT ([Aa] ++ []) Az Az:=UpT.start<|AV9 (AZh (Ag.b p1) rfl) all_nil;refine AGm<|AGm ?_;obtain ⟨Uz,Cr,J6⟩:=AGr<|AT4 Bj Cp;refine AVv ATb rfl (Ag.o2 p0) rfl Cr λU0 U3 J7 J8 J9=>AVg ATq rfl Cq (λh' hb=>Agd J9 hb<|Amd (Ag.dj p0 p1 AGn _<|by simp [aO,aO2,J7]) Ame) (AGm<|AGm ?_);obtain ⟨Ka,Em,En⟩:=AGr J6;have Eo:UpT ([Aa] ++ []) Az Az:=UpT.start<|AV9 (AZh (Ag.b p1) rfl) all_nil;refine ATo (K':=(λxr h'=> ∃ x:(Int) × (Int),(x.1,x.2)=Ka/\xr=(.int .i64 x.1)/\Kst h h' (Ag.L.set 1<|aB 109 Aa [Ab,(.int .i64 x.2)])/\UpT ([Aa] ++ []) Az h')) Cq rfl ?_ λU8 Va Kb=>?_
      ·refine cwf (l:=[_]) Tryz.func135 rfl rfl (AGq<|AGx<|AGs<|AGs<|AXi<|AGm<|AU2 rfl (AVd AWd rfl (AT6 AT9 rfl ((Ag.b p1).cell (i:=1) rfl) (AGm<|AU2 rfl (AVd Adz rfl (AT6 Akv rfl ((Ag.b p1).cell (i:=0) rfl) (AUl Als rfl H4 (Afp rfl rfl (AGu<|⟨_,rfl,λCt=>?_,λCt=>?_⟩)))))))))
       ·refine AGq<|AGx<|AG1<|ATd<|⟨_,AS5,((0,Co):(Int) × (Int)),?_,rfl,?_,?_⟩
        ·exact AGo<|AT4 Em Ct
        ·exact Ag
        ·exact Eo
       ·refine AG0<|q_t<|AGq<|AGm<|AU2 rfl (AVd AWd rfl (AT6 AT9 rfl ((Ag.b p1).cell (i:=1) rfl) (ATn rfl rfl (AU2 rfl (AVd AWd rfl (Ai5 [Ab,(.int .i64<|w64<|Co + 1)] AT9 rfl rfl rfl (Ag.b p1) (Nat.le_of_ble_eq_true rfl) rfl λVb Ep Er=>AGu<|AGs<|AXi<|AGm<|AU2 rfl (AVd Adz rfl ?_)))))));have Bl:=Ag.sb p1 Er Ep rfl;refine AT6 Akv rfl ((Bl.b p1).cell (i:=0) rfl) (AGm<|AU2 rfl (AVd AWd rfl (AT6 AT9 rfl ((Bl.b p1).cell (i:=1) rfl) (AVh rfl rfl ?_))));obtain ⟨Kc,Kd,Ke⟩:=AGr<|AT5 Em Ct;refine Adg (c:=(cI .i8)) Als rfl H4 rfl Kd λVc Vd Ve Kf Kg=>?_;obtain rfl:=Kf;refine AT6 At0 rfl (ATw (Kg 0 _ rfl) Bl.x) (Agr At1 Afh rfl (AGx<|AG1<|⟨_,AS5,(((w64 Kc),(w64<|Co + 1)):(Int) × (Int)),?_,rfl,?_,?_⟩))
        ·exact AGo Ke
        ·exact Bl
        ·exact (Eo.then (Ep.stA Er (AZh (Ag.b p1) rfl) rfl)<|Ahi rfl)
      obtain ⟨⟨Kh,Vf⟩,Ki,rfl,Cu,Kj⟩:=Kb;(try dsimp only [Kst.L,List.set,AZ3,Adk] at Cu);refine ⟨(Cq.then Kj<|AV9 (Ahi rfl) all_nil),?_⟩;subst Ki;(try dsimp only at En);refine Acl rfl rfl AGn ?_;obtain ⟨Vg,Es,Kk⟩:=AGr En;refine AXj (m:=Bg) ATa rfl (Ag.o2 p0) J8 Cr rfl Es λVh Kl=>Afl (m:=Bg) (Aem ATg rfl rfl rfl) (Cu.o2 p0) Kl Cr Es (show ((cI .i64)).rep _ (Int.tmod Kh 3) _ from rfl) λVi Km Kn=>AGu<|AXi<|AGm<|AGm ?_;have Bm:=Cu.uO2 p0 Kn Km;obtain ⟨Vj,Et,Ko⟩:=AGr Kk;refine AUo ATb ATq (Bm.o2 p0) Et λ_ Vk Kp=>AGm<|AGm<|AGm ?_;obtain ⟨Vl,Eu,Kr⟩:=AGr Ko;refine AUo ATb ATq (Bm.o2 p0) Eu λ_ Vm Kt=>AGm ?_;obtain ⟨Vn,Ku,Kv⟩:=AGr Kr;refine AW6 (m:=Bg) ATa ATg (Bm.o2 p0) Kt Eu Ku λ_=>?_;obtain ⟨Vo,Kw,Kx⟩:=AGr Kv;refine AZ0 (m:=El) Bm p0 ATa ATg Kp Et Kw (λ_=>rfl) λ_ Vp Ky=>ATu<|q_b<|q_t<|AS8<|AGm<|ATn rfl rfl (AGx ?_);exact ⟨(_,_,_,_,_,_),(AGo Kx).symm,Ky,rfl,trivial⟩
     ·have Ev:=J5 _ (AGo<|AT5 Bj Cp).symm;(try dsimp only at Ev);refine ATh<|ATi<|ATi<|AUf<|q_b<|q_t<|AS8<|ATn rfl rfl (AGm<|AGu ?_);exact ⟨(_,_,_,_,_,_),(AGo Ev).symm,Ag,rfl,trivial⟩
    ·have Ew:=J3 _ (AGo<|AT5 Bi Cn).symm;(try dsimp only at Ew);refine ATh<|ATi<|ATi<|AUf<|q_t<|AGq<|AGm<|AGx<|AG1<|⟨_,AS5,((Eh,Ba,Ei,Ej,Ek,Eg):(LiI) × (Value) × LnA × LnN × LvA × (Int)),?_,rfl,?_⟩
     ·exact AGo Ew
     ·exact Bh
   obtain ⟨⟨Kz,D3,La,Lb,Lc,Ld⟩,Le,rfl,Ey⟩:=Hv;(try dsimp only [Kst.L,List.set,AZ3,Adk] at Ey);refine ⟨trivial,?_⟩;subst Le;(try dsimp only at D2);refine ATs<|ATu<|q_b<|q_t ?_;exact ⟨((Kz,D3,La,Lb,Lc,Ld):(LiI) × (Value) × LnA × LnN × LvA × (Int)),⟨AGo D2,Ey⟩,rfl,trivial⟩
  ·refine AGq<|AU0 rfl rfl (AGx ?_);have Ez:=AY5 B8 Cd;refine ⟨_,rfl,λCv=>?_,λCv=>?_⟩
   ·refine AGq<|AGm ?_;obtain ⟨Lf,Lg,Lh⟩:=AGr<|AT4 Ez Cv;refine Agx Ao (Aid Lg) λLi Lj Lk Ll Aq Vs Ac=>AGx<|AVn (λh'=>UpT ([Aa] ++ []) Aq h') AG2 ?_;have Bn:UpT ([Aa] ++ []) Aq Aq:=UpT.start<|AV9 (AZh (Ac.b p1) rfl) all_nil;refine AGm ?_;obtain ⟨Lm,A4,Lo⟩:=AGr Lh;refine AVv ATb rfl (Ac.o2 p0) rfl A4 λVt Vu Lq Fa Lr=>AVg ATq rfl Bn (λh' hb=>Agd Lr hb<|Amd (Ac.dj p0 p1 AGn _<|by simp [aO,aO2,Lq]) Ame) ?_;obtain ⟨Fb,Bo,Lv⟩:=AGr Lo;refine AXj (m:=0) ATa rfl (Ac.o2 p0) Fa A4 rfl Bo λVv Fc=>?_;obtain ⟨Vw,Lw,Lx⟩:=(Ac.o2 p0).cells Fc A4 Bo;obtain rfl:=Lw;refine AVg ATg rfl Bn (λh' hb=>Agd (Lx 0 _ rfl) hb<|Amd (Ac.dj p0 p1 AGn _<|(Ac.o2 p0).gmem Fc) Ame) (AGm ?_);obtain ⟨Ly,Lz,Fd⟩:=AGr Lv;have L9:UpT ([Aa] ++ []) Aq Aq:=UpT.start<|AV9 (AZh (Ac.b p1) rfl) all_nil;refine ATo (K':=(λxr h'=> ∃ x:(Int) × (Int),(x.1,x.2)=Ly/\xr=(.int .i64 x.1)/\Kst h h' (Ac.L.set 1<|aB 109 Aa [Ab,(.int .i64 x.2)])/\UpT ([Aa] ++ []) Aq h')) Bn rfl ?_ λVx Vy Ma=>?_
    ·refine cwf (l:=[_,_]) Tryz.func74 rfl rfl (AGq<|AT2<|AGm ?_);obtain ⟨Mb,Fe,Ff⟩:=AGr Lz;have Fg:UpT ([Aa] ++ []) Aq Aq:=UpT.start<|AV9 (AZh (Ac.b p1) rfl) all_nil;refine ATo (K':=(λxr h'=> ∃ x:(Int) × (Int),(x.1,x.2)=Mb/\xr=(.int .i64 x.1)/\Kst h h' (Ac.L.set 1<|aB 109 Aa [Ab,(.int .i64 x.2)])/\UpT ([Aa] ++ []) Aq h')) trivial rfl ?_ λVz V1 Mc=>?_
     ·refine cwf (l:=[_]) Tryz.func135 rfl rfl (AGq<|AGx<|AGs<|AGs<|AXi<|AGm<|AU2 rfl (AVd AWd rfl (AT6 AT9 rfl ((Ac.b p1).cell (i:=1) rfl) (AGm<|AU2 rfl (AVd Adz rfl (AT6 Akv rfl ((Ac.b p1).cell (i:=0) rfl) (AUl Als rfl H4 (Afp rfl rfl (AGu<|⟨_,rfl,λCw=>?_,λCw=>?_⟩)))))))))
      ·refine AGq<|AGx<|AG1<|ATd<|⟨_,AS5,((0,0):(Int) × (Int)),?_,rfl,?_,?_⟩
       ·exact AGo<|AT4 Fe Cw
       ·exact Ac
       ·exact Fg
      ·refine AG0<|q_t<|AGq<|AGm<|AU2 rfl (AVd AWd rfl (AT6 AT9 rfl ((Ac.b p1).cell (i:=1) rfl) (ATn rfl rfl (AU2 rfl (AVd AWd rfl (Ai5 [Ab,(.int .i64<|w64<|0 + 1)] AT9 rfl rfl rfl (Ac.b p1) (Nat.le_of_ble_eq_true rfl) rfl λV4 Fh Fi=>AGu<|AGs<|AXi<|AGm<|AU2 rfl (AVd Adz rfl ?_)))))));have Bp:=Ac.sb p1 Fi Fh rfl;refine AT6 Akv rfl ((Bp.b p1).cell (i:=0) rfl) (AGm<|AU2 rfl (AVd AWd rfl (AT6 AT9 rfl ((Bp.b p1).cell (i:=1) rfl) (AVh rfl rfl ?_))));obtain ⟨Md,Me,Mf⟩:=AGr<|AT5 Fe Cw;refine Adg (c:=(cI .i8)) Als rfl H4 rfl Me λV6 V8 Wa Mg Mh=>?_;obtain rfl:=Mg;refine AT6 At0 rfl (ATw (Mh 0 _ rfl) Bp.x) (Agr At1 Afh rfl (AGx<|AG1<|⟨_,AS5,(((w64 Md),(w64<|0 + 1)):(Int) × (Int)),?_,rfl,?_,?_⟩))
       ·exact AGo Mf
       ·exact Bp
       ·exact (Fg.then (Fh.stA Fi (AZh (Ac.b p1) rfl) rfl)<|Ahi rfl)
     obtain ⟨⟨Mi,Mj⟩,Mk,rfl,Fj,Ml⟩:=Mc;(try dsimp only [Kst.L,List.set,AZ3,Adk] at Fj);refine ⟨trivial,?_⟩;subst Mk;(try dsimp only at Ff);refine Agr Afh Amp rfl (Agr Amp Ang rfl (AGm<|Acl rfl rfl AGn (AGx<|AG1<|⟨_,AS5,(((Int.tmod (w64<|IntKind.wrap .u8 Mi) 3),Mj):(Int) × (Int)),?_,rfl,?_,?_⟩)))
     ·exact AGo Ff
     ·exact Fj
     ·exact (L9.then Ml<|AV9 (Ahi rfl) all_nil)
    obtain ⟨⟨Fk,Mm⟩,Mo,rfl,Cx,Mq⟩:=Ma;(try dsimp only [Kst.L,List.set,AZ3,Adk] at Cx);refine ⟨(Bn.then Mq<|AV9 (Ahi rfl) all_nil),?_⟩;subst Mo;(try dsimp only at Fd);refine ATn rfl rfl (AXj (m:=0) ATa rfl (Ac.o2 p0) Fa A4 rfl Bo λWb Mr=>Afl (m:=0) (Aem ATg rfl rfl rfl) (Cx.o2 p0) Mr A4 Bo (show ((cI .i64)).rep _ (w64<|Fb + Fk) _ from rfl) λWc Ms Mt=>ATu<|q_b<|q_t ?_);exact ⟨(((sI Lf 0<|sI Lm 0<|w64<|Fb + Fk),Ll,Li,Lj,Lk,Mm):(LiI) × (Value) × LnA × LnN × LvA × (Int)),⟨AGo Fd,(Cx.uO2 p0 Mt Ms)⟩,rfl,trivial⟩
   ·refine AGq<|AU0 rfl rfl (AGx ?_);have Fl:=AT5 Ez Cv;refine ⟨_,rfl,λCy=>?_,λCy=>?_⟩
    ·refine AGq<|AGm ?_;obtain ⟨Mu,Mv,Mw⟩:=AGr<|AT4 Fl Cy;refine Agx Ao (Aid Mv) λMx My Mz M0 Ar Wd Ad=>AGx<|AVn (λh'=>UpT ([Aa] ++ []) Ar h') AG2 ?_;have Bq:UpT ([Aa] ++ []) Ar Ar:=UpT.start<|AV9 (AZh (Ad.b p1) rfl) all_nil;refine AGm<|AGm<|AVh rfl rfl ?_;obtain ⟨M2,A5,M3⟩:=AGr Mw;refine AVv ATb rfl (Ad.o2 p0) rfl A5 λWe Wf M4 Fm M5=>AVg ATq rfl Bq (λh' hb=>Agd M5 hb<|Amd (Ad.dj p0 p1 AGn _<|by simp [aO,aO2,M4]) Ame) (AGm<|AVh rfl rfl ?_);obtain ⟨Fo,Br,M6⟩:=AGr M3;refine AXj (m:=(w64<|(w64<|1 + (Int.tmod (w64 a1) Am)) - 1)) ATa rfl (Ad.o2 p0) Fm A5 rfl Br λWg Fp=>?_;obtain ⟨Wh,M7,M8⟩:=(Ad.o2 p0).cells Fp A5 Br;obtain rfl:=M7;refine AVg ATg rfl Bq (λh' hb=>Agd (M8 0 _ rfl) hb<|Amd (Ad.dj p0 p1 AGn _<|(Ad.o2 p0).gmem Fp) Ame) (AGm ?_);obtain ⟨M9,Na,Fq⟩:=AGr M6;have Nb:UpT ([Aa] ++ []) Ar Ar:=UpT.start<|AV9 (AZh (Ad.b p1) rfl) all_nil;refine ATo (K':=(λxr h'=> ∃ x:(Int) × (Int),(x.1,x.2)=M9/\xr=(.int .i64 x.1)/\Kst h h' (Ad.L.set 1<|aB 109 Aa [Ab,(.int .i64 x.2)])/\UpT ([Aa] ++ []) Ar h')) Bq rfl ?_ λWi Wj Nc=>?_
     ·refine cwf (l:=[_,_]) Tryz.func74 rfl rfl (AGq<|AT2<|AGm ?_);obtain ⟨Nd,Fr,Ft⟩:=AGr Na;have Fu:UpT ([Aa] ++ []) Ar Ar:=UpT.start<|AV9 (AZh (Ad.b p1) rfl) all_nil;refine ATo (K':=(λxr h'=> ∃ x:(Int) × (Int),(x.1,x.2)=Nd/\xr=(.int .i64 x.1)/\Kst h h' (Ad.L.set 1<|aB 109 Aa [Ab,(.int .i64 x.2)])/\UpT ([Aa] ++ []) Ar h')) trivial rfl ?_ λWk Wl Nf=>?_
      ·refine cwf (l:=[_]) Tryz.func135 rfl rfl (AGq<|AGx<|AGs<|AGs<|AXi<|AGm<|AU2 rfl (AVd AWd rfl (AT6 AT9 rfl ((Ad.b p1).cell (i:=1) rfl) (AGm<|AU2 rfl (AVd Adz rfl (AT6 Akv rfl ((Ad.b p1).cell (i:=0) rfl) (AUl Als rfl H4 (Afp rfl rfl (AGu<|⟨_,rfl,λCz=>?_,λCz=>?_⟩)))))))))
       ·refine AGq<|AGx<|AG1<|ATd<|⟨_,AS5,((0,0):(Int) × (Int)),?_,rfl,?_,?_⟩
        ·exact AGo<|AT4 Fr Cz
        ·exact Ad
        ·exact Fu
       ·refine AG0<|q_t<|AGq<|AGm<|AU2 rfl (AVd AWd rfl (AT6 AT9 rfl ((Ad.b p1).cell (i:=1) rfl) (ATn rfl rfl (AU2 rfl (AVd AWd rfl (Ai5 [Ab,(.int .i64<|w64<|0 + 1)] AT9 rfl rfl rfl (Ad.b p1) (Nat.le_of_ble_eq_true rfl) rfl λWm Fv Fw=>AGu<|AGs<|AXi<|AGm<|AU2 rfl (AVd Adz rfl ?_)))))));have Bt:=Ad.sb p1 Fw Fv rfl;refine AT6 Akv rfl ((Bt.b p1).cell (i:=0) rfl) (AGm<|AU2 rfl (AVd AWd rfl (AT6 AT9 rfl ((Bt.b p1).cell (i:=1) rfl) (AVh rfl rfl ?_))));obtain ⟨Ng,Nh,Ni⟩:=AGr<|AT5 Fr Cz;refine Adg (c:=(cI .i8)) Als rfl H4 rfl Nh λWn Wo Wp Nj Nk=>?_;obtain rfl:=Nj;refine AT6 At0 rfl (ATw (Nk 0 _ rfl) Bt.x) (Agr At1 Afh rfl (AGx<|AG1<|⟨_,AS5,(((w64 Ng),(w64<|0 + 1)):(Int) × (Int)),?_,rfl,?_,?_⟩))
        ·exact AGo Ni
        ·exact Bt
        ·exact (Fu.then (Fv.stA Fw (AZh (Ad.b p1) rfl) rfl)<|Ahi rfl)
      obtain ⟨⟨Nl,Nm⟩,Nn,rfl,Fx,Np⟩:=Nf;(try dsimp only [Kst.L,List.set,AZ3,Adk] at Fx);refine ⟨trivial,?_⟩;subst Nn;(try dsimp only at Ft);refine Agr Afh Amp rfl (Agr Amp Ang rfl (AGm<|Acl rfl rfl AGn (AGx<|AG1<|⟨_,AS5,(((Int.tmod (w64<|IntKind.wrap .u8 Nl) 2),Nm):(Int) × (Int)),?_,rfl,?_,?_⟩)))
      ·exact AGo Ft
      ·exact Fx
      ·exact (Nb.then Np<|AV9 (Ahi rfl) all_nil)
     obtain ⟨⟨Fy,Nq⟩,Nr,rfl,C0,Ns⟩:=Nc;(try dsimp only [Kst.L,List.set,AZ3,Adk] at C0);refine ⟨(Bq.then Ns<|AV9 (Ahi rfl) all_nil),?_⟩;subst Nr;(try dsimp only at Fq);refine ATn rfl rfl (AXj (m:=(w64<|(w64<|1 + (Int.tmod (w64 a1) Am)) - 1)) ATa rfl (Ad.o2 p0) Fm A5 rfl Br λWq Nt=>Afl (m:=(w64<|(w64<|1 + (Int.tmod (w64 a1) Am)) - 1)) (Aem ATg rfl rfl rfl) (C0.o2 p0) Nt A5 Br (show ((cI .i64)).rep _ (w64<|Fo + Fy) _ from rfl) λWr Nu Nv=>ATu<|q_b<|q_t ?_);exact ⟨(((sI Mu (w64<|(w64<|1 + (Int.tmod (w64 a1) Am)) - 1)<|sI M2 (w64<|(w64<|1 + (Int.tmod (w64 a1) Am)) - 1)<|w64<|Fo + Fy),M0,Mx,My,Mz,Nq):(LiI) × (Value) × LnA × LnN × LvA × (Int)),⟨AGo Fq,(C0.uO2 p0 Nv Nu)⟩,rfl,trivial⟩
    ·refine AGq<|AU0 rfl rfl (AGx ?_);have Fz:=AT5 Fl Cy;refine ⟨_,rfl,λC1=>?_,λC1=>?_⟩
     ·refine AS8<|AGm<|AGm ?_;obtain ⟨Nw,Ny,F4⟩:=AGr<|AT4 Fz C1;refine ATo (K':=(λxr h'=> ∃ x:(LiI) × (Value) × LnA × LnN × LvA × (Int),(x.1,x.2.2.2.2.2)=Nw/\xr=x.2.1/\Kst h h' (aO2 (cI .i64) 61 2 x.2.2.1 x.2.2.2.1 x.2.2.2.2.1 x.2.1 x.1 :: (Ao.L.set 0<|aB 109 Aa [Ab,(.int .i64 x.2.2.2.2.2)])))) trivial rfl ?_ λF5 Ws Nz=>?_
      ·refine cwf (l:=[_,_,_]) Tryz.func75 rfl rfl (AGq<|AT2<|AGm ?_);obtain ⟨N0,N3⟩:=ifN Ny;refine Ak0 (cI .i64) 2 ATb Aet rfl trivial tt2 rfl rfl AGn N0 λN4 N5 N6 F6 Wt N7 N8 N9=>AGx<|AGs<|AGq<|AGm ?_;have C2:=Ao.no2 N8 N9 N7;refine AT3 ATb rfl (C2.o2 p0).rd (AGm<|AGu<|AGt<|AXv 4294959360 (λx:(Int) × (Int) × (LiI) × LnA × LnN × LvA=>(x.1,x.2.1,x.2.2.1)) ((0,0,(List.replicate (Int.toNat<|w64<|1 + (Int.tmod (w64 a1) Am)) ([]:List Int)),N4,N5,N6):(Int) × (Int) × (LiI) × LnA × LnN × LvA) N3 (λx=>[(13,(.int .i64 x.1))]) (λx=>(C2.L.set 0<|aO2 (cI .i64) 61 2 x.2.2.2.1 x.2.2.2.2.1 x.2.2.2.2.2 F6 x.2.2.1).set 1 (aB 109 Aa [Ab,(.int .i64 x.2.1)])) C2 ⟨rfl,trivial⟩ ?_);rintro ⟨C3,Bu,Oa,Ob,Oc,Od⟩ Oe Og Wu C4 Bv Oh;(try dsimp only [Kst.L,List.set,AZ3,Adk] at C4);refine (show W _ _ _ (setL [(13,(.int .i64 C3))]<|mix _ Oe _) Og from ?_);(try dsimp only at Bv);unfold AXm at Bv;refine AGq<|ATp rfl rfl (AGu<|AGs<|⟨_,rfl,λC5=>?_,λC5=>?_⟩)
       ·refine AG0<|q_t<|AGs<|AGt<|AGq<|AGm<|AT2<|AGm<|AGm<|AGm ?_;obtain ⟨Oi,Oj⟩:=ifN<|AT4 Bv C5;refine Ajb (c:=(cI .i64)) (a:=0) ATa Abm rfl rfl (λ_=>rfl) rfl trivial tt2 rfl rfl AGn Oi λWv Ww Wx Ol Om On Oo=>?_;have A6:=C4.no Om (AYh On Oo) Ol;obtain ⟨Wy,F7,Oq⟩:=AGr Oj;refine AVv ATb rfl (A6.o2 p1) rfl F7 λWz W0 Ot W1 W3=>Akz ATq (A6.o2 p1) F7 Ot rfl rfl (A6.o p0) (A6.dj p0 p1 AGn) λAu Ou Ov Ow=>AGu<|AVn (λh'=>UpT ([Aa] ++ []) Au h') AG2 ?_;have Ah:=A6.m2 p0 p1 AGn Ov Ou λz hz=> .inl<|Ow z hz;have C6:UpT ([Aa] ++ []) Au Au:=UpT.start<|AV9 (AZh (Ah.b p2) rfl) all_nil;refine AGm<|AGm ?_;obtain ⟨W4,C7,Ox⟩:=AGr Oq;refine AVv ATb rfl (Ah.o2 p1) rfl C7 λW5 W6 Oy Oz O0=>AVg ATq rfl C6 (λh' hb=>Agd O0 hb<|Amd (Ah.dj p1 p2 AGn _<|by simp [aO,aO2,Oy]) Ame) (AGm<|AGm<|AGm ?_);obtain ⟨O1,O2,F8⟩:=AGr Ox;have O3:UpT ([Aa] ++ []) Au Au:=UpT.start<|AV9 (AZh (Ah.b p2) rfl) all_nil;refine ATo (K':=(λxr h'=> ∃ x:(Int) × (Int),(x.1,x.2)=O1/\xr=(.int .i64 x.1)/\Kst h h' ((AZ3 Ah.L [1,2]).set 1 (aB 109 Aa [Ab,(.int .i64 x.2)]))/\UpT ([Aa] ++ []) Au h')) C6 rfl ?_ λW7 W8 O4=>?_
        ·refine cwf (l:=[_,_]) Tryz.func74 rfl rfl (AGq<|AT2<|AGm ?_);obtain ⟨O5,F9,Ga⟩:=AGr O2;have Gb:UpT ([Aa] ++ []) Au Au:=UpT.start<|AV9 (AZh (Ah.b p2) rfl) all_nil;refine ATo (K':=(λxr h'=> ∃ x:(Int) × (Int),(x.1,x.2)=O5/\xr=(.int .i64 x.1)/\Kst h h' ((AZ3 Ah.L [1,2]).set 1 (aB 109 Aa [Ab,(.int .i64 x.2)]))/\UpT ([Aa] ++ []) Au h')) trivial rfl ?_ λXa Xb O6=>?_
         ·refine cwf (l:=[_]) Tryz.func135 rfl rfl (AGq<|AGx<|AGs<|AGs<|AXi<|AGm<|AU2 rfl (AVd AWd rfl (AT6 AT9 rfl ((Ah.b p2).cell (i:=1) rfl) (AGm<|AU2 rfl (AVd Adz rfl (AT6 Akv rfl ((Ah.b p2).cell (i:=0) rfl) (AUl Als rfl H4 (Afp rfl rfl (AGu<|⟨_,rfl,λC8=>?_,λC8=>?_⟩)))))))))
          ·refine AGq<|AGx<|AG1<|ATd<|⟨_,AS5,((0,Bu):(Int) × (Int)),?_,rfl,?_,?_⟩
           ·exact AGo<|AT4 F9 C8
           ·exact Ah.sel [1,2] AGn
           ·exact Gb
          ·refine AG0<|q_t<|AGq<|AGm<|AU2 rfl (AVd AWd rfl (AT6 AT9 rfl ((Ah.b p2).cell (i:=1) rfl) (ATn rfl rfl (AU2 rfl (AVd AWd rfl (Ai5 [Ab,(.int .i64<|w64<|Bu + 1)] AT9 rfl rfl rfl (Ah.b p2) (Nat.le_of_ble_eq_true rfl) rfl λXc Gc Gd=>AGu<|AGs<|AXi<|AGm<|AU2 rfl (AVd Adz rfl ?_)))))));have Bw:=Ah.sb p2 Gd Gc rfl;refine AT6 Akv rfl ((Bw.b p2).cell (i:=0) rfl) (AGm<|AU2 rfl (AVd AWd rfl (AT6 AT9 rfl ((Bw.b p2).cell (i:=1) rfl) (AVh rfl rfl ?_))));obtain ⟨O7,O8,O9⟩:=AGr<|AT5 F9 C8;refine Adg (c:=(cI .i8)) Als rfl H4 rfl O8 λXd Xe Xf Pa Pb=>?_;obtain rfl:=Pa;refine AT6 At0 rfl (ATw (Pb 0 _ rfl) Bw.x) (Agr At1 Afh rfl (AGx<|AG1<|⟨_,AS5,(((w64 O7),(w64<|Bu + 1)):(Int) × (Int)),?_,rfl,?_,?_⟩))
           ·exact AGo O9
           ·exact Bw.sel [1,2] AGn
           ·exact (Gb.then (Gc.stA Gd (AZh (Ah.b p2) rfl) rfl)<|Ahi rfl)
         obtain ⟨⟨Pc,Pd⟩,Pe,rfl,Ge,Pf⟩:=O6;(try dsimp only [Kst.L,List.set,AZ3,Adk] at Ge);refine ⟨trivial,?_⟩;subst Pe;(try dsimp only at Ga);refine Agr Afh Amp rfl (Agr Amp Ang rfl (AGm<|Acl rfl rfl AGn (AGx<|AG1<|⟨_,AS5,(((Int.tmod (w64<|IntKind.wrap .u8 Pc) 9),Pd):(Int) × (Int)),?_,rfl,?_,?_⟩)))
         ·exact AGo Ga
         ·exact Ge
         ·exact (O3.then Pf<|AV9 (Ahi rfl) all_nil)
        obtain ⟨⟨Pg,Xg⟩,Ph,rfl,C9,Pj⟩:=O4;(try dsimp only [Kst.L,List.set,AZ3,Adk] at C9);refine ⟨(C6.then Pj<|AV9 (Ahi rfl) all_nil),?_⟩;subst Ph;(try dsimp only at F8);refine ATn rfl rfl ?_;obtain ⟨Xh,Gf,Pk⟩:=AGr F8;refine AXj (m:=C3) ATa rfl (Ah.o2 p1) Oz C7 rfl Gf λXi Pl=>Afl (m:=C3) (Aem ATg rfl rfl rfl) (C9.o2 p0) Pl C7 Gf (show ((cI .i64)).rep _ (w64<|1 + Pg) _ from rfl) λXj Pm Pn=>ATu<|q_b<|q_t<|AS8<|ATn rfl rfl (AGm<|AGu ?_);exact ⟨(_,_,_,_,_,_),(AGo Pk).symm,(C9.uO2 p0 Pn Pm),rfl,trivial⟩
       ·have Gg:=Oh _ (AGo<|AT5 Bv C5).symm;(try dsimp only at Gg);refine ATh<|ATi<|ATi<|AUf<|q_t<|AGq<|AGm<|AGx<|AG1<|⟨_,AS5,((Oa,F6,Ob,Oc,Od,Bu):(LiI) × (Value) × LnA × LnN × LvA × (Int)),?_,rfl,?_⟩
        ·exact AGo Gg
        ·exact C4
      obtain ⟨⟨Po,F5,Pp,Pq,Ps,Pt⟩,Pu,rfl,Gh⟩:=Nz;(try dsimp only [Kst.L,List.set,AZ3,Adk] at Gh);refine ⟨trivial,?_⟩;subst Pu;(try dsimp only at F4);refine ATs<|ATu<|q_b<|q_t ?_;exact ⟨((Po,F5,Pp,Pq,Ps,Pt):(LiI) × (Value) × LnA × LnN × LvA × (Int)),⟨AGo F4,Gh⟩,rfl,trivial⟩
     ·refine AS8<|AGm<|AGm ?_;obtain ⟨Pv,Pw,Gi⟩:=AGr<|AT5 Fz C1;refine ATo (K':=(λxr h'=> ∃ x:(LiI) × (Value) × LnA × LnN × LvA × (Int),(x.1,x.2.2.2.2.2)=Pv/\xr=x.2.1/\Kst h h' (aO2 (cI .i64) 61 2 x.2.2.1 x.2.2.2.1 x.2.2.2.2.1 x.2.1 x.1 :: (Ao.L.set 0<|aB 109 Aa [Ab,(.int .i64 x.2.2.2.2.2)])))) trivial rfl ?_ λGj Xk Px=>?_
      ·refine cwf (l:=[_,_,_]) Tryz.func75 rfl rfl (AGq<|AT2<|AGm ?_);obtain ⟨Py,Pz⟩:=ifN Pw;refine Ak0 (cI .i64) 2 ATb Aet rfl trivial tt2 rfl rfl AGn Py λP0 P1 P2 Gk Xl P3 P4 P5=>AGx<|AGs<|AGq<|AGm ?_;have Da:=Ao.no2 P4 P5 P3;refine AT3 ATb rfl (Da.o2 p0).rd (AGm<|AGu<|AGt<|AXv 4294959360 (λx:(Int) × (Int) × (LiI) × LnA × LnN × LvA=>(x.1,x.2.1,x.2.2.1)) ((0,0,(List.replicate (Int.toNat<|w64<|1 + (Int.tmod (w64 a1) Am)) ([]:List Int)),P0,P1,P2):(Int) × (Int) × (LiI) × LnA × LnN × LvA) Pz (λx=>[(13,(.int .i64 x.1))]) (λx=>(Da.L.set 0<|aO2 (cI .i64) 61 2 x.2.2.2.1 x.2.2.2.2.1 x.2.2.2.2.2 Gk x.2.2.1).set 1 (aB 109 Aa [Ab,(.int .i64 x.2.1)])) Da ⟨rfl,trivial⟩ ?_);rintro ⟨Db,Bx,P6,P7,P8,P9⟩ Qa Qb Xm Dc By Qc;(try dsimp only [Kst.L,List.set,AZ3,Adk] at Dc);refine (show W _ _ _ (setL [(13,(.int .i64 Db))]<|mix _ Qa _) Qb from ?_);(try dsimp only at By);unfold AXn at By;refine AGq<|ATp rfl rfl (AGu<|AGs<|⟨_,rfl,λDd=>?_,λDd=>?_⟩)
       ·refine AG0<|q_t<|AGs<|AGt<|AGq<|AGm<|AT2<|AGm<|AGm<|AGm ?_;obtain ⟨Qd,Qe⟩:=ifN<|AT4 By Dd;refine Ajb (c:=(cI .i64)) (a:=0) ATa Abm rfl rfl (λ_=>rfl) rfl trivial tt2 rfl rfl AGn Qd λXn Xo Xp Qf Qg Qh Qi=>?_;have A7:=Dc.no Qg (AYh Qh Qi) Qf;obtain ⟨Xq,Gl,Qj⟩:=AGr Qe;refine AVv ATb rfl (A7.o2 p1) rfl Gl λXr Xt Qk Xu Xv=>Akz ATq (A7.o2 p1) Gl Qk rfl rfl (A7.o p0) (A7.dj p0 p1 AGn) λAv Ql Qm Qn=>AGu<|AVn (λh'=>UpT ([Aa] ++ []) Av h') AG2 ?_;have Ai:=A7.m2 p0 p1 AGn Qm Ql λz hz=> .inl<|Qn z hz;have De:UpT ([Aa] ++ []) Av Av:=UpT.start<|AV9 (AZh (Ai.b p2) rfl) all_nil;refine AGm<|AGm ?_;obtain ⟨Xw,Df,Qo⟩:=AGr Qj;refine AVv ATb rfl (Ai.o2 p1) rfl Df λXx Xy Qp Qq Qr=>AVg ATq rfl De (λh' hb=>Agd Qr hb<|Amd (Ai.dj p1 p2 AGn _<|by simp [aO,aO2,Qp]) Ame) (AGm<|AGm<|AGm ?_);obtain ⟨Qs,Qt,Gm⟩:=AGr Qo;have Qu:UpT ([Aa] ++ []) Av Av:=UpT.start<|AV9 (AZh (Ai.b p2) rfl) all_nil;refine ATo (K':=(λxr h'=> ∃ x:(Int) × (Int),(x.1,x.2)=Qs/\xr=(.int .i64 x.1)/\Kst h h' ((AZ3 Ai.L [1,2]).set 1 (aB 109 Aa [Ab,(.int .i64 x.2)]))/\UpT ([Aa] ++ []) Av h')) De rfl ?_ λXz X0 Qv=>?_
        ·refine cwf (l:=[_,_]) Tryz.func74 rfl rfl (AGq<|AT2<|AGm ?_);obtain ⟨Qw,Gn,Gp⟩:=AGr Qt;have Gq:UpT ([Aa] ++ []) Av Av:=UpT.start<|AV9 (AZh (Ai.b p2) rfl) all_nil;refine ATo (K':=(λxr h'=> ∃ x:(Int) × (Int),(x.1,x.2)=Qw/\xr=(.int .i64 x.1)/\Kst h h' ((AZ3 Ai.L [1,2]).set 1 (aB 109 Aa [Ab,(.int .i64 x.2)]))/\UpT ([Aa] ++ []) Av h')) trivial rfl ?_ λX3 X4 Qx=>?_
         ·refine cwf (l:=[_]) Tryz.func135 rfl rfl (AGq<|AGx<|AGs<|AGs<|AXi<|AGm<|AU2 rfl (AVd AWd rfl (AT6 AT9 rfl ((Ai.b p2).cell (i:=1) rfl) (AGm<|AU2 rfl (AVd Adz rfl (AT6 Akv rfl ((Ai.b p2).cell (i:=0) rfl) (AUl Als rfl H4 (Afp rfl rfl (AGu<|⟨_,rfl,λDg=>?_,λDg=>?_⟩)))))))))
          ·refine AGq<|AGx<|AG1<|ATd<|⟨_,AS5,((0,Bx):(Int) × (Int)),?_,rfl,?_,?_⟩
           ·exact AGo<|AT4 Gn Dg
           ·exact Ai.sel [1,2] AGn
           ·exact Gq
          ·refine AG0<|q_t<|AGq<|AGm<|AU2 rfl (AVd AWd rfl (AT6 AT9 rfl ((Ai.b p2).cell (i:=1) rfl) (ATn rfl rfl (AU2 rfl (AVd AWd rfl (Ai5 [Ab,(.int .i64<|w64<|Bx + 1)] AT9 rfl rfl rfl (Ai.b p2) (Nat.le_of_ble_eq_true rfl) rfl λX5 Gr Gt=>AGu<|AGs<|AXi<|AGm<|AU2 rfl (AVd Adz rfl ?_)))))));have Bz:=Ai.sb p2 Gt Gr rfl;refine AT6 Akv rfl ((Bz.b p2).cell (i:=0) rfl) (AGm<|AU2 rfl (AVd AWd rfl (AT6 AT9 rfl ((Bz.b p2).cell (i:=1) rfl) (AVh rfl rfl ?_))));obtain ⟨Qy,Qz,Q0⟩:=AGr<|AT5 Gn Dg;refine Adg (c:=(cI .i8)) Als rfl H4 rfl Qz λX6 X8 Ya Q1 Q2=>?_;obtain rfl:=Q1;refine AT6 At0 rfl (ATw (Q2 0 _ rfl) Bz.x) (Agr At1 Afh rfl (AGx<|AG1<|⟨_,AS5,(((w64 Qy),(w64<|Bx + 1)):(Int) × (Int)),?_,rfl,?_,?_⟩))
           ·exact AGo Q0
           ·exact Bz.sel [1,2] AGn
           ·exact (Gq.then (Gr.stA Gt (AZh (Ai.b p2) rfl) rfl)<|Ahi rfl)
         obtain ⟨⟨Q3,Q4⟩,Q6,rfl,Gu,Q7⟩:=Qx;(try dsimp only [Kst.L,List.set,AZ3,Adk] at Gu);refine ⟨trivial,?_⟩;subst Q6;(try dsimp only at Gp);refine Agr Afh Amp rfl (Agr Amp Ang rfl (AGm<|Acl rfl rfl AGn (AGx<|AG1<|⟨_,AS5,(((Int.tmod (w64<|IntKind.wrap .u8 Q3) 1),Q4):(Int) × (Int)),?_,rfl,?_,?_⟩)))
         ·exact AGo Gp
         ·exact Gu
         ·exact (Qu.then Q7<|AV9 (Ahi rfl) all_nil)
        obtain ⟨⟨Q8,Yb⟩,Q9,rfl,Dh,Rc⟩:=Qv;(try dsimp only [Kst.L,List.set,AZ3,Adk] at Dh);refine ⟨(De.then Rc<|AV9 (Ahi rfl) all_nil),?_⟩;subst Q9;(try dsimp only at Gm);refine ATn rfl rfl ?_;obtain ⟨Yc,Gv,Rd⟩:=AGr Gm;refine AXj (m:=Db) ATa rfl (Ai.o2 p1) Qq Df rfl Gv λYd Re=>Afl (m:=Db) (Aem ATg rfl rfl rfl) (Dh.o2 p0) Re Df Gv (show ((cI .i64)).rep _ (w64<|1 + Q8) _ from rfl) λYe Rf Rg=>ATu<|q_b<|q_t<|AS8<|ATn rfl rfl (AGm<|AGu ?_);exact ⟨(_,_,_,_,_,_),(AGo Rd).symm,(Dh.uO2 p0 Rg Rf),rfl,trivial⟩
       ·have Gw:=Qc _ (AGo<|AT5 By Dd).symm;(try dsimp only at Gw);refine ATh<|ATi<|ATi<|AUf<|q_t<|AGq<|AGm<|AGx<|AG1<|⟨_,AS5,((P6,Gk,P7,P8,P9,Bx):(LiI) × (Value) × LnA × LnN × LvA × (Int)),?_,rfl,?_⟩
        ·exact AGo Gw
        ·exact Dc
      obtain ⟨⟨Rh,Gj,Ri,Rj,Rm,Rn⟩,Ro,rfl,Gx⟩:=Px;(try dsimp only [Kst.L,List.set,AZ3,Adk] at Gx);refine ⟨trivial,?_⟩;subst Ro;(try dsimp only at Gi);refine ATs<|ATu<|q_b<|q_t ?_;exact ⟨((Rh,Gj,Ri,Rj,Rm,Rn):(LiI) × (Value) × LnA × LnN × LvA × (Int)),⟨AGo Gi,Gx⟩,rfl,trivial⟩
 rintro ⟨Yf,Rq,Yg,Yh,Yi,Rr⟩ Rs Rt ⟨Ru,Di⟩;(try dsimp only [Kst.L,List.set,AZ3,Adk] at Di);refine (show W _ _ _ (setL [(7,Rq)]<|mix _ Rs _) Rt from ?_);subst Ru;(try dsimp only at Dy);refine AGs<|AGq<|AGm ?_;obtain ⟨Yj,Rv,Gy⟩:=AGr Dy;refine AVs Di (Ans (Di.o2 p0).rd Rv) λYk Yl A8=>AV5 rfl (AGu<|⟨_,rfl,λDj=>?_,λDj=>?_⟩)
 ·refine AGq<|AGm<|AGm ?_;obtain ⟨Rw,Rx,Gz⟩:=AGr<|ifT Gy Dj;refine ATo (K':=(λxr h'=> ∃ x:(LiI) × (Value) × LnA × LnN × LvA × (Int),(x.1,x.2.2.2.2.2)=Rw/\xr=x.2.1/\Kst h h' (aO2 (cI .i64) 61 2 x.2.2.1 x.2.2.2.1 x.2.2.2.2.1 x.2.1 x.1 :: (A8.L.set 1<|aB 109 Aa [Ab,(.int .i64 x.2.2.2.2.2)])))) trivial rfl ?_ λRy Ym Rz=>?_
  ·refine cwf (l:=[_,_,_]) Tryz.func75 rfl rfl (AGq<|AT2<|AGm ?_);obtain ⟨R3,R4⟩:=ifN Rx;refine Ak0 (cI .i64) 2 ATb Aet rfl trivial tt2 rfl rfl AGn R3 λR5 R6 R7 G3 Yn R8 R9 Sa=>AGx<|AGs<|AGq<|AGm ?_;have Dk:=A8.no2 R9 Sa R8;refine AT3 ATb rfl (Dk.o2 p0).rd (AGm<|AGu<|AGt<|AXv 4294959360 (λx:(Int) × (Int) × (LiI) × LnA × LnN × LvA=>(x.1,x.2.1,x.2.2.1)) ((0,Rr,(List.replicate (Int.toNat<|w64<|1 + (Int.tmod (w64 a1) Am)) ([]:List Int)),R5,R6,R7):(Int) × (Int) × (LiI) × LnA × LnN × LvA) R4 (λx=>[(13,(.int .i64 x.1))]) (λx=>(Dk.L.set 0<|aO2 (cI .i64) 61 2 x.2.2.2.1 x.2.2.2.2.1 x.2.2.2.2.2 G3 x.2.2.1).set 2 (aB 109 Aa [Ab,(.int .i64 x.2.1)])) Dk ⟨rfl,trivial⟩ ?_);rintro ⟨Dl,B1,Sb,Sc,Sd,Se⟩ Sf Sg Yo Do B3 Sh;(try dsimp only [Kst.L,List.set,AZ3,Adk] at Do);refine (show W _ _ _ (setL [(13,(.int .i64 Dl))]<|mix _ Sf _) Sg from ?_);(try dsimp only at B3);unfold AXo at B3;refine AGq<|ATp rfl rfl (AGu<|AGs<|⟨_,rfl,λDp=>?_,λDp=>?_⟩)
   ·refine AG0<|q_t<|AGs<|AGt<|AGq<|AGm<|AT2<|AGm<|AGm<|AGm ?_;obtain ⟨Si,Sj⟩:=ifN<|AT4 B3 Dp;refine Ajb (c:=(cI .i64)) (a:=0) ATa Abm rfl rfl (λ_=>rfl) rfl trivial tt2 rfl rfl AGn Si λYp Yq Yr Sk Sm Sn So=>?_;have A9:=Do.no Sm (AYh Sn So) Sk;obtain ⟨Ys,G4,Sq⟩:=AGr Sj;refine AVv ATb rfl (A9.o2 p1) rfl G4 λYt Yu Sr Yv Yw=>Akz ATq (A9.o2 p1) G4 Sr rfl rfl (A9.o p0) (A9.dj p0 p1 AGn) λAw Ss St Su=>AGu<|AVn (λh'=>UpT ([Aa] ++ []) Aw h') AG2 ?_;have Aj:=A9.m2 p0 p1 AGn St Ss λz hz=> .inl<|Su z hz;have Dq:UpT ([Aa] ++ []) Aw Aw:=UpT.start<|AV9 (AZh (Aj.b p3) rfl) all_nil;refine AGm<|AGm ?_;obtain ⟨Yx,Dr,Sv⟩:=AGr Sq;refine AVv ATb rfl (Aj.o2 p1) rfl Dr λYy Yz Sw Sx Sy=>AVg ATq rfl Dq (λh' hb=>Agd Sy hb<|Amd (Aj.dj p1 p3 AGn _<|by simp [aO,aO2,Sw]) Ame) (AGm<|AGm<|AGm ?_);obtain ⟨Sz,S5,G5⟩:=AGr Sv;have S7:UpT ([Aa] ++ []) Aw Aw:=UpT.start<|AV9 (AZh (Aj.b p3) rfl) all_nil;refine ATo (K':=(λxr h'=> ∃ x:(Int) × (Int),(x.1,x.2)=Sz/\xr=(.int .i64 x.1)/\Kst h h' ((AZ3 Aj.L [1,2,3]).set 2 (aB 109 Aa [Ab,(.int .i64 x.2)]))/\UpT ([Aa] ++ []) Aw h')) Dq rfl ?_ λY1 Y2 Ta=>?_
    ·refine cwf (l:=[_,_]) Tryz.func74 rfl rfl (AGq<|AT2<|AGm ?_);obtain ⟨Tb,G6,G7⟩:=AGr S5;have G8:UpT ([Aa] ++ []) Aw Aw:=UpT.start<|AV9 (AZh (Aj.b p3) rfl) all_nil;refine ATo (K':=(λxr h'=> ∃ x:(Int) × (Int),(x.1,x.2)=Tb/\xr=(.int .i64 x.1)/\Kst h h' ((AZ3 Aj.L [1,2,3]).set 2 (aB 109 Aa [Ab,(.int .i64 x.2)]))/\UpT ([Aa] ++ []) Aw h')) trivial rfl ?_ λY3 Y4 Tc=>?_
     ·refine cwf (l:=[_]) Tryz.func135 rfl rfl (AGq<|AGx<|AGs<|AGs<|AXi<|AGm<|AU2 rfl (AVd AWd rfl (AT6 AT9 rfl ((Aj.b p3).cell (i:=1) rfl) (AGm<|AU2 rfl (AVd Adz rfl (AT6 Akv rfl ((Aj.b p3).cell (i:=0) rfl) (AUl Als rfl H4 (Afp rfl rfl (AGu<|⟨_,rfl,λDs=>?_,λDs=>?_⟩)))))))))
      ·refine AGq<|AGx<|AG1<|ATd<|⟨_,AS5,((0,B1):(Int) × (Int)),?_,rfl,?_,?_⟩
       ·exact AGo<|AT4 G6 Ds
       ·exact Aj.sel [1,2,3] AGn
       ·exact G8
      ·refine AG0<|q_t<|AGq<|AGm<|AU2 rfl (AVd AWd rfl (AT6 AT9 rfl ((Aj.b p3).cell (i:=1) rfl) (ATn rfl rfl (AU2 rfl (AVd AWd rfl (Ai5 [Ab,(.int .i64<|w64<|B1 + 1)] AT9 rfl rfl rfl (Aj.b p3) (Nat.le_of_ble_eq_true rfl) rfl λY5 G9 Hb=>AGu<|AGs<|AXi<|AGm<|AU2 rfl (AVd Adz rfl ?_)))))));have B4:=Aj.sb p3 Hb G9 rfl;refine AT6 Akv rfl ((B4.b p3).cell (i:=0) rfl) (AGm<|AU2 rfl (AVd AWd rfl (AT6 AT9 rfl ((B4.b p3).cell (i:=1) rfl) (AVh rfl rfl ?_))));obtain ⟨Td,Te,Tf⟩:=AGr<|AT5 G6 Ds;refine Adg (c:=(cI .i8)) Als rfl H4 rfl Te λY6 Y7 Y8 Tg Th=>?_;obtain rfl:=Tg;refine AT6 At0 rfl (ATw (Th 0 _ rfl) B4.x) (Agr At1 Afh rfl (AGx<|AG1<|⟨_,AS5,(((w64 Td),(w64<|B1 + 1)):(Int) × (Int)),?_,rfl,?_,?_⟩))
       ·exact AGo Tf
       ·exact B4.sel [1,2,3] AGn
       ·exact (G8.then (G9.stA Hb (AZh (Aj.b p3) rfl) rfl)<|Ahi rfl)
     obtain ⟨⟨Ti,Tj⟩,Tk,rfl,Hc,Tl⟩:=Tc;(try dsimp only [Kst.L,List.set,AZ3,Adk] at Hc);refine ⟨trivial,?_⟩;subst Tk;(try dsimp only at G7);refine Agr Afh Amp rfl (Agr Amp Ang rfl (AGm<|Acl rfl rfl AGn (AGx<|AG1<|⟨_,AS5,(((Int.tmod (w64<|IntKind.wrap .u8 Ti) 2),Tj):(Int) × (Int)),?_,rfl,?_,?_⟩)))
     ·exact AGo G7
     ·exact Hc
     ·exact (S7.then Tl<|AV9 (Ahi rfl) all_nil)
    obtain ⟨⟨Tm,Y9⟩,Tn,rfl,Dt,To⟩:=Ta;(try dsimp only [Kst.L,List.set,AZ3,Adk] at Dt);refine ⟨(Dq.then To<|AV9 (Ahi rfl) all_nil),?_⟩;subst Tn;(try dsimp only at G5);refine ATn rfl rfl ?_;obtain ⟨Za,Hd,Tp⟩:=AGr G5;refine AXj (m:=Dl) ATa rfl (Aj.o2 p1) Sx Dr rfl Hd λZd Tq=>Afl (m:=Dl) (Aem ATg rfl rfl rfl) (Dt.o2 p0) Tq Dr Hd (show ((cI .i64)).rep _ (w64<|1 + Tm) _ from rfl) λZe Tr Ts=>ATu<|q_b<|q_t<|AS8<|ATn rfl rfl (AGm<|AGu ?_);exact ⟨(_,_,_,_,_,_),(AGo Tp).symm,(Dt.uO2 p0 Ts Tr),rfl,trivial⟩
   ·have He:=Sh _ (AGo<|AT5 B3 Dp).symm;(try dsimp only at He);refine ATh<|ATi<|ATi<|AUf<|q_t<|AGq<|AGm<|AGx<|AG1<|⟨_,AS5,((Sb,G3,Sc,Sd,Se,B1):(LiI) × (Value) × LnA × LnN × LvA × (Int)),?_,rfl,?_⟩
    ·exact AGo He
    ·exact Do
  obtain ⟨⟨Zf,Ry,Zg,Zh,Zj,Zk⟩,Tt,rfl,B5⟩:=Rz;(try dsimp only [Kst.L,List.set,AZ3,Adk] at B5);refine ⟨trivial,?_⟩;subst Tt;(try dsimp only at Gz);refine AGx<|AG1<|ATd ?_;obtain rfl:=AGo Gz;exact ⟨_,AS5,B5.x,_,_,_,_,rfl,(B5.o2 p0),B5.s.sel [0] AGn⟩
 ·refine AG0<|q_t<|AGq<|AGm<|AGx<|AG1 ?_;obtain rfl:=AGo<|AY5 Gy Dj;exact ⟨_,AS5,A8.x,_,_,_,_,rfl,(A8.o2 p0),A8.s.sel [0] AGn⟩
def AXf (fuel:Nat) (a1 a2:Int) (a5 a9:LiA) (Ae:Int):Option LiI:=
 (AXe fuel a1 a2 a5 a9 Ae).bind λAf=>(AWw fuel Af).bind λAg=>(AZk fuel Ag).bind λ(Ah,Ai,Aj)=>some Ah
theorem Ajf {a5:LiA} {a9:LiA} {Ai:Int} {r:LiI} (H4:SlC (cI .i8) h Ac a5) (H8:SlC (cI .i8) h Ad a9) (hp:AXf fuel a1 a2 a5 a9 Ai=some r):ATz Tryz.prog 9 #[(.agg #[(.int .u8 a1),(.int .u8 a2),Ac,Ad]),(.int .i64 Ai)] h (λx h'=>Ext h h'/\ ∃ (x0:Value) (F0:List Nat) (Au:List LnA) (Av:List Value),x=x0/\AV8 (cI .i64) 61 2 h' F0 Au Av x0 r/\Sp h' h.size [F0]):=by
 unfold AXf at hp;refine cwf (l:=[_,_]) Tryz.func9 rfl rfl (AGq<|AY3 (Kst.k0 h) [(.int .u8 a1),(.int .u8 a2),Ac,Ad] λBl Bm Bn Ae=>AT2<|Abd [(.int .u8 a1),(.int .u8 a2),Ac,Ad] A8k rfl rfl (Ae.b p0).agg (AGm ?_));obtain ⟨Bo,Aw,Ax⟩:=AGr hp;refine Agx Ae (Aje (H4.ext Ae.x) (H8.ext Ae.x) Aw) λBp Bq Br Bt Bu Bv Am=>?_;obtain ⟨Bw,Ay,Az⟩:=AGr Ax;refine Agx Am (Ac3 (Am.o2 p0).rd Ay) λBx By Bz B1 B3 B4 Ao=>?_;obtain ⟨⟨A3,A4,B5⟩,A5,Ap⟩:=AGr Az;dsimp only at Ap;refine Agw rfl (Alg (Ao.o2 p0).rd A5) λB6 B7 A6 A7=>?_;obtain ⟨A8,A9,Ba,Bb,Bc,Be,Bf,Bg,rfl,Bh,Bi,Bj⟩:=A7;have Af:=Ao.n A6 [aO2 (cI .i64) 61 2 A9 Ba Bb A8 A3,aO2 cZ 146 129 Be Bf Bg Bc A4] Bj ⟨Bh,Bi,trivial⟩;simp only [List.cons_append,List.nil_append] at Af;refine AGm<|AUk rfl rfl (AUk rfl rfl (AUk rfl rfl (ATs<|ATs<|AT2<|AGm<|AGx<|AG1 ?_)));obtain rfl:=AGo Ap;exact ⟨_,AS5,Af.x,_,_,_,_,rfl,(Af.o2 p0),Af.s.sel [0] AGn⟩
end Go.Proofs.YtkakafabeobahaaGreatDoor
