/-
  Texts of a proof, joined. Conditions stand in each statement.
-/
import Derived.Test.YtegoafpaljeobaaGreatDoorMJordanInvariant2
set_option linter.unusedVariables false
set_option linter.unusedSimpArgs false
set_option maxRecDepth 100000
set_option maxHeartbeats 40000000
open Go Go.QF
variable {na neg:Bool} {h:Go.QF.AH8} {F A A0:Go.QF.AIe} {a1 a5 a2 x a9 d q last:Int} {fuel r a k j i p D:Nat} {f g:Nat->Int} {α:Type} {Ad Af Ab Aq Ai Ak Ac Ae Ah:Value}
namespace Go.Proofs.YtegoafpaljeobaaGreatDoor
abbrev LnN:=List<|List Nat
abbrev LnA:=List Nat
abbrev LvA:=List Value
abbrev LiI:=List<|List Int
abbrev LiA:=List Int
theorem AH0 {α:Type _} {a b:α} (h:some a=some b):a=b:=Option.some.inj h
theorem tt2 {α:Sort _} {β:α->Sort _}:∀ x,β x->True:=λ_ _=>trivial
def ALv (fuel:Nat) (a1 a5:Int):Option Int:=
 (Ags fuel a1 a5).bind λ(Ac,Ad,Ae)=>some Ac
theorem AQt {r:Int} (H3:ZZ h Ad a1) (H7:ZZ h Af a5) (hp:ALv fuel a1 a5=some r):AI7 Tryz.prog 133 #[Ad,Af] h (λx h'=>Ext h h'/\ ∃ (x0:Value),x=x0/\ZZ h' x0 r):=by
 unfold ALv at hp;obtain ⟨Ar,rfl,Ai⟩:=H3.cs;obtain ⟨Au,rfl,Aj⟩:=H7.cs;refine cwf (l:=[_,_]) Tryz.func133 rfl rfl (AH1<|AP5 (Kst.k0 h) Ar λb9 Bc Be Av=>AP5 Av Au λBf Bg Bh Aw=>ALm Aw [.bool false,.slice none 0 0] ANt λBi Bj Bl Aa=>AQs<|ATd (Aa.zx Ai) (Aa.b p2)<|ATd (Aa.zx Aj) (Aa.b p1) ?_);obtain ⟨⟨Bm,Bn,Bo⟩,Ax,Ak⟩:=AH2 hp;dsimp only at Ak;refine ASt rfl (Al0 (Aa.zx Ai).2 (Aa.zx Aj).2 Ax) λBp Bq Ay Az=>?_;obtain ⟨Br,Bt,rfl,A3,A4⟩:=Az;obtain ⟨Bu,rfl,A5⟩:=A3.cs;obtain ⟨Bv,rfl,A6⟩:=A4.cs;refine AHy<|AJs rfl rfl (AJs rfl rfl (AJs rfl rfl (ALm (((Aa.e Ay).az A5).az A6) [.bool false,.slice none 0 0] ANt λBw Bx By A7=>ALm A7 [.bool false,.slice none 0 0] ANt λBz A8 B2 Am=>AOv Am p1 (AIo A8) (Am.z p3) λA9 Ao=>AOv Ao p0 (AIo A9) (Ao.z p2) λBa Ab=>AJd<|ATd (Ab.z p3) (Ab.b p1)<|AOv Ab p4 (AIo Ba) (Ab.z p3) λB3 Ac=>AH5<|AIc ?_)));obtain rfl:=AH0 Ak;exact ⟨_,AKs AJz (cZ.klen<|Ac.z p3) rfl (Ac.b p4),Ac.x,_,rfl,(Ac.z p3).2⟩
def AQj (fuel:Nat) (a1 a5:Int):Option Int:=
 (Ags fuel a1 a5).bind λ(Ad,Ac,Ae)=>some Ac
theorem Acy {r:Int} (H3:ZZ h Ad a1) (H7:ZZ h Af a5) (hp:AQj fuel a1 a5=some r):AI7 Tryz.prog 168 #[Ad,Af] h (λx h'=>Ext h h'/\ ∃ (x0:Value),x=x0/\ZZ h' x0 r):=by
 unfold AQj at hp;obtain ⟨Ar,rfl,Ai⟩:=H3.cs;obtain ⟨Au,rfl,Aj⟩:=H7.cs;refine cwf (l:=[_,_]) Tryz.func168 rfl rfl (AH1<|AP5 (Kst.k0 h) Ar λb9 Bc Be Av=>AP5 Av Au λBf Bg Bh Aw=>ALm Aw [.bool false,.slice none 0 0] ANt λBi Bj Bl Aa=>AQs<|ATd (Aa.zx Ai) (Aa.b p2)<|ATd (Aa.zx Aj) (Aa.b p1) ?_);obtain ⟨⟨Bm,Bn,Bo⟩,Ax,Ak⟩:=AH2 hp;dsimp only at Ak;refine ASt rfl (Al0 (Aa.zx Ai).2 (Aa.zx Aj).2 Ax) λBp Bq Ay Az=>?_;obtain ⟨Br,Bt,rfl,A3,A4⟩:=Az;obtain ⟨Bu,rfl,A5⟩:=A3.cs;obtain ⟨Bv,rfl,A6⟩:=A4.cs;refine AHy<|AJs rfl rfl (AJs rfl rfl (AJs rfl rfl (ALm (((Aa.e Ay).az A5).az A6) [.bool false,.slice none 0 0] ANt λBw Bx By A7=>ALm A7 [.bool false,.slice none 0 0] ANt λBz A8 B2 Am=>AOv Am p1 (AIo A8) (Am.z p3) λA9 Ao=>AOv Ao p0 (AIo A9) (Ao.z p2) λBa Ab=>AJd<|ATd (Ab.z p2) (Ab.b p0)<|AOv Ab p4 (AIo Ba) (Ab.z p2) λB3 Ac=>AH5<|AIc ?_)));obtain rfl:=AH0 Ak;exact ⟨_,AKs AJz (cZ.klen<|Ac.z p2) rfl (Ac.b p4),Ac.x,_,rfl,(Ac.z p2).2⟩
def ATe (fuel:Nat) (a1 a2 Aa:Int) (Ac:LiI):Option ((Int × LiI) ⊕ LiI):=
 if Aa < ((List.replicate (Int.toNat a1) ([]:List Int)).length:Int) then if 0<=a2/\a2<=100000000 then (gI Ac Aa).bind λAe=>some (.inl (w64<|Aa + 1,sI Ac Aa<|List.replicate (Int.toNat a2) (0:Int))) else none else some<|.inr Ac
def AL6 (fuel:Nat) (a1 a2:Int):Option LiI:=
 if 0<=a1/\a1<=100000000 then (iter (λs=>ATe fuel a1 a2 s.1 s.2) fuel (0,List.replicate (Int.toNat a1) ([]:List Int))).bind (λ(Ac:LiI)=>some Ac) else none
theorem AP6 {r:LiI} (hp:AL6 fuel a1 a2=some r):AI7 Tryz.prog 101 #[(.int .i64 a1),(.int .i64 a2)] h (λx h'=>Ext h h'/\ ∃ (x0:Value) (F0:List Nat) (Ak:List LnA) (Am:List Value),x=x0/\ALl cZ 127 81 h' F0 Ak Am x0 r/\Sp h' h.size [F0]):=by
 unfold AL6 at hp;refine cwf (l:=[_,_]) Tryz.func101 rfl rfl (AH1<|AJd<|AHy ?_);obtain ⟨Ao,Ap⟩:=ifN hp;refine Aay cZ 81 AKj Ao3 rfl trivial tt2 rfl rfl AHz Ao λAq Ar Au v9 h7 I8 E5 S6=>AH7<|AH3<|AH1<|AHy ?_;have Ad:=(Kst.k0 h).no2 E5 S6 I8;refine AJh AKj rfl (Ad.o2 p0).rd (AHy<|AH5<|AH6<|AOq 1046592 (λx:(Int) × (LiI) × LnA × LnN × LvA=>(x.1,x.2.1)) ((0,(List.replicate (Int.toNat a1) ([]:List Int)),Aq,Ar,Au):(Int) × (LiI) × LnA × LnN × LvA) Ap (λx=>[(11,(.int .i64 x.1))]) (λx=>Ad.L.set 0<|aO2 cZ 127 81 x.2.2.1 x.2.2.2.1 x.2.2.2.2 v9 x.2.1) Ad ⟨rfl,trivial⟩ ?_);rintro ⟨Bg,Bh,Bi,Bj,Bl⟩ Bm Bn Bo Ab Ae Az;unfold ATe at Ae;refine AH1<|AI3 rfl rfl (AH5<|AH3<|⟨_,rfl,λAf=>?_,λAf=>?_⟩)
 ·refine AIa<|q_t<|AH3<|AH6<|AH1<|AHy<|AH7<|AIf<|AHy<|AHy<|AHy ?_;obtain ⟨A3,A4⟩:=ifN<|AJb Ae Af;refine Aq9 ALs ANt rfl trivial tt2 rfl rfl AHz A3 λBp Bq Br A5 A6 A7 A8=>?_;have Aa:=Ab.no A6 (ANs A7 A8) A5;obtain ⟨Bt,Aj,A9⟩:=AH2 A4;refine AJr AKj rfl (Aa.o2 p1) rfl Aj λBu Bv Ba Bw Bx=>Aax AMq (Aa.o2 p1) Aj Ba rfl rfl (Aa.o p0) (Aa.dj p0 p1 AHz) λBy Bb Bc Be=>AIu<|q_b<|q_t<|AIf<|AI0 rfl rfl (AHy<|AH5 ?_);exact ⟨(_,_,_,_,_),(AH0 A9).symm,(Aa.m2 p0 p1 AHz Bc Bb λz hz=> .inl<|Be z hz).sel [1] AHz,rfl,trivial⟩
 ·refine AIq<|AIr<|AIr<|AJt<|q_t<|AH1<|AHy<|AH7<|AIc ?_;obtain rfl:=AH0<|Az _ (AH0<|AJc Ae Af).symm;exact ⟨_,AId,Ab.x,_,_,_,_,rfl,(Ab.o2 p0),Ab.s.sel [0] AHz⟩
def AQu (fuel:Nat) (a3:LiI) (Ab:Int) (Af:LiA) (Aa:Int) (Ac:LiI):Option ((Int × LiI) ⊕ LiI):=
 if Aa < (Af.length:Int) then (gI Ac Ab).bind λAd=>(gI a3 Ab).bind λAg=>(gI Ag Aa).bind λAh=>(AUx fuel Ah).bind λAi=>(gI Ad Aa).bind λAj=>some (.inl (w64<|Aa + 1,sI Ac Ab<|sI Ad Aa Ai)) else some<|.inr Ac
def AQv (fuel:Nat) (a3:LiI) (Aa:Int) (Ac:LiI):Option ((Int × LiI) ⊕ LiI):=
 if Aa < (a3.length:Int) then (gI a3 Aa).bind λAd=>(iter (λs=>AQu fuel a3 Aa Ad s.1 s.2) fuel (0,Ac)).bind (λ(Ae:LiI)=>some<|.inl (w64<|Aa + 1,Ae)) else some<|.inr Ac
def AQw (fuel:Nat) (a3:LiI) (Ab:Int):Option (Int ⊕ ((LiI × Bool) ⊕ Unit)):=
 if Ab < (a3.length:Int) then (gI a3 Ab).bind λAc=>if (Ac.length:Int) < 1 then some (.inr<|.inl ([],false)) else if 16 < (Ac.length:Int) then some (.inr<|.inl ([],false)) else (gI a3 0).bind λAd=>if ¬ (Ac.length:Int)=(Ad.length:Int) then some (.inr<|.inl ([],false)) else some (.inl<|w64<|Ab + 1) else some<|.inr<|.inr ()
def AK6 (fuel:Nat) (a3:LiI):Option (LiI × Bool):=
 ((if (a3.length:Int) < 1 then some (.inl ([],false)) else if 16 < (a3.length:Int) then some (.inl ([],false)) else some<|.inr ()):Option ((LiI × Bool) ⊕ Unit)).bind (λex=>match ex with | .inl Ab=>(some Ab) | .inr _=>(iter (λs=>AQw fuel a3 s) fuel 0).bind (λex=>match ex with | .inl Ac=>(some Ac) | .inr _=>(gI a3 0).bind λAd=>(AL6 fuel (a3.length:Int) (Ad.length:Int)).bind λAe=>(iter (λs=>AQv fuel a3 s.1 s.2) fuel (0,Ae)).bind (λ(Af:LiI)=>some (Af,true))))
theorem AZc {Ba:Value} {a3:LiI} {r:(LiI × Bool)} (H2:ANp (cI .i64) h Ba a3) (hp:AK6 fuel a3=some r):AI7 Tryz.prog 59 #[Ba] h (λx h'=>Ext h h'/\ ∃ (x0:Value) (F0:List Nat) (Bq:List LnA) (Br:List Value),x= .tuple #[x0,.bool r.2]/\ALl cZ 127 81 h' F0 Bq Br x0 r.1/\Sp h' h.size [F0]):=by
 unfold AK6 at hp;refine cwf (l:=[_]) Tryz.func59 rfl rfl (AH1<|AIw<|AH7 ?_);have K0:=Kst.k0 h;obtain ⟨Bt,Be,Ao⟩:=AH2 hp;refine ARb 130572 (λx:Unit=>[]) (λx h'=>(Sum.inr <| ())=Bt/\Kst h h' (K0.L)) ?_ ?_
 ·refine AH1<|AHy<|AJh AIk rfl H2 (AI3 rfl rfl (AHy ?_));by_cases Ag:(a3.length:Int) < 1
  ·rw [decide_eq_true Ag];refine ANe 12 true<|AIm rfl (AH5<|AI2 rfl (AH1<|AIw<|AH7 ?_));obtain rfl:=AH0<|ifT Be Ag;refine AIc<|AIt ?_;have Ap:=Kst.anil2 cZ 127 81 K0;obtain rfl:=AH0 Ao;exact ⟨_,AJu,Ap.x,_,_,_,_,rfl,(Ap.o2 p0),Ap.s.sel [0] AHz⟩
  ·have Bf:=ifF Be Ag;rw [decide_eq_false Ag];refine AIs 12 false<|AHy<|AIs 12 false<|AJh AIk rfl H2 (AIs 12 false<|APu rfl rfl (AIn rfl (AH5<|⟨_,rfl,λAq=>?_,λAq=>?_⟩)))
   ·refine AH1<|AIw<|AH7 ?_;obtain rfl:=AH0<|AJb Bf Aq;refine AIc<|AIt ?_;have Ar:=Kst.anil2 cZ 127 81 K0;obtain rfl:=AH0 Ao;exact ⟨_,AJu,Ar.x,_,_,_,_,rfl,(Ar.o2 p0),Ar.s.sel [0] AHz⟩
   ·refine AIa<|q_t ?_;exact ⟨(():Unit),⟨AH0<|AJc Bf Aq,K0⟩,trivial⟩
 rintro ⟨⟩ C4 C5 ⟨Bu,Bg⟩;subst Bu;refine AH3<|AH1<|AHy<|AJh AIk rfl H2 (AHy<|AH5<|AH6<|APb 2199022731308 Ao (λx=>[(19,(.int .i64 x))]) (λx=>Bg.L) Bg ⟨rfl,trivial⟩ ?_);rintro C6 C7 C8 C9 Ab Au Ah;unfold AQw at Au;refine AH1<|AI3 rfl rfl (AH5<|AH3<|⟨_,rfl,λAv=>?_,λAv=>?_⟩)
 ·refine AIa<|q_t<|AH3<|AH6<|AH1 ?_;obtain ⟨Bh,Bv,Bi⟩:=AH2<|AJb Au Av;refine ATc AIk AIv H2 Ab.x Bv λ_ Da Aw=>AJd<|AHy<|AJ8 AIi rfl Aw (AI3 rfl rfl (AHy ?_));by_cases Ai:(Bh.length:Int) < 1
  ·rw [decide_eq_true Ai];refine ANe 26 true<|AIm rfl (AHy<|AN1 31 true<|AP2 31 true<|AIm rfl (AH5<|AI2 rfl (AH1<|AIw<|AH7<|AIc<|AKa<|AIt<|AIt<|AKa<|AIt ?_)));have Ax:=Kst.anil2 cZ 127 81 Ab;obtain rfl:=AH0<|Ah _ (AH0<|ifT Bi Ai).symm;exact ⟨_,AJu,Ax.x,_,_,_,_,rfl,(Ax.o2 p0),Ax.s.sel [0] AHz⟩
  ·have Bj:=ifF Bi Ai;rw [decide_eq_false Ai];refine AIs 26 false<|AHy<|AIs 26 false<|AJ8 AIi rfl Aw (AIs 26 false<|APu rfl rfl (AIn rfl (AHy ?_)));by_cases Aj:16 < (Bh.length:Int)
   ·rw [decide_eq_true Aj];refine AN1 31 true<|AP2 31 true<|AIm rfl (AH5<|AI2 rfl (AH1<|AIw<|AH7<|AIc<|AKa<|AIt<|AIt<|AKa<|AIt ?_));have Ay:=Kst.anil2 cZ 127 81 Ab;obtain rfl:=AH0<|Ah _ (AH0<|ifT Bj Aj).symm;exact ⟨_,AJu,Ay.x,_,_,_,_,rfl,(Ay.o2 p0),Ay.s.sel [0] AHz⟩
   ·rw [decide_eq_false Aj];refine AIs 31 false<|AHy<|AIs 31 false<|AJ8 AIi rfl Aw (AIs 31 false<|AHy<|AIs 31 false ?_);obtain ⟨Db,Bw,Bl⟩:=AH2<|ifF Bj Aj;refine Ad7 AIk rfl H2 rfl Bw λDc Dd De Bx By=>AIs 31 false<|AI1 AIv rfl (AIj Bx Ab.x) (AIs 31 false<|AJ8 AIi rfl By (AIs 31 false<|AK0 rfl rfl (AIn rfl (AH5<|⟨_,rfl,λAz=>?_,λAz=>?_⟩))))
    ·refine AH1<|AIw<|AH7<|AIc<|AKa<|AIt<|AIt<|AKa<|AIt ?_;have A3:=Kst.anil2 cZ 127 81 Ab;obtain rfl:=AH0<|Ah _ (AH0<|AJb Bl Az).symm;exact ⟨_,AJu,A3.x,_,_,_,_,rfl,(A3.o2 p0),A3.s.sel [0] AHz⟩
    ·refine AIa<|q_b<|q_t<|AIf<|AI0 rfl rfl (AHy<|AH5 ?_);exact ⟨_,(AH0<|AJc Bl Az).symm,Ab,rfl,trivial⟩
 ·refine AIq<|AIr<|AIr<|AJt<|q_t<|AH1<|AHy<|AJh AIk rfl H2 (AHy ?_);obtain ⟨Df,Bz,B2⟩:=AH2<|Ah _ (AH0<|AJc Au Av).symm;refine ATc AIk AIv H2 Ab.x Bz λ_ Dg B3=>AJ8 AIi rfl B3 ?_;obtain ⟨B4,B5,B6⟩:=AH2 B2;refine AWs Ab (AP6 B5) λB7 B8 B9 Bm Dh Di Bn=>AH7<|AH3<|AH1<|AHy<|AJh AIk rfl H2 (AHy<|AH5<|AH6<|AOq 151115726325928739996032 (λx:(Int) × (LiI) × LnA × LnN × LvA=>(x.1,x.2.1)) ((0,B4,B7,B8,B9):(Int) × (LiI) × LnA × LnN × LvA) B6 (λx=>[(50,(.int .i64 x.1))]) (λx=>Bn.L.set 0<|aO2 cZ 127 81 x.2.2.1 x.2.2.2.1 x.2.2.2.2 Bm x.2.1) Bn ⟨rfl,trivial⟩ ?_);rintro ⟨Bo,Ca,Cb,Cd,Ce⟩ Dj Dk Dl Ac A4 Cf;unfold AQv at A4;refine AH1<|AI3 rfl rfl (AH5<|AH3<|⟨_,rfl,λA5=>?_,λA5=>?_⟩)
  ·refine AIa<|q_t<|AH3<|AH6<|AH1<|AHy<|AJd<|AHy<|AHy ?_;obtain ⟨Do,Cg,Ch⟩:=AH2<|AJb A4 A5;refine ATc AIk AIv H2 Ac.x Cg λ_ Dp Ci=>AJ8 AIi rfl Ci (AHy<|AH5<|AH6<|AOq 75557575495538171707648 (λx:(Int) × (LiI) × LnA × LnN × LvA=>(x.1,x.2.1)) ((0,Ca,Cb,Cd,Ce):(Int) × (LiI) × LnA × LnN × LvA) Ch (λx=>[(58,(.int .i64 x.1))]) (λx=>Ac.L.set 0<|aO2 cZ 127 81 x.2.2.1 x.2.2.2.1 x.2.2.2.2 Bm x.2.1) Ac ⟨rfl,trivial⟩ ?_);rintro ⟨Dq,Dr,Ds,Dt,Du⟩ Dv A6 Dw Ad A7 Cj;unfold AQu at A7;refine AH1<|AI3 rfl rfl (AH5<|AH3<|⟨_,rfl,λA8=>?_,λA8=>?_⟩)
   ·refine AIa<|q_t<|AH3<|AH6<|AH1<|AHy<|AH7<|AKg (λh'=>UpT [] A6 h') AIb ?_;have Ak:UpT [] A6 A6:=UpT.start all_nil;refine AHy<|AHy ?_;obtain ⟨Dx,A9,Ck⟩:=AH2<|AJb A7 A8;refine AJr AKj rfl (Ad.o2 p0) rfl A9 λDy Dz D0 Cm Cn=>AJe AMq rfl Ak (λh' hb=>AIj Cn hb.ext) (AHy<|AHy<|AHy ?_);obtain ⟨D3,Co,Cp⟩:=AH2 Ck;refine Ad7 AIk rfl H2 rfl Co λD4 D5 D6 Cq Cr=>AJe AIv rfl Ak (λh' hb=>AIj Cq<|Ad.x.trans hb.ext) (AHy ?_);obtain ⟨D7,Ct,Cu⟩:=AH2 Cp;refine AQi (c:=(cI .i64)) AIi rfl Cr rfl Ct λD8 D9 Ea Cv Cw=>?_;obtain rfl:=Cv;refine AJe AIg rfl Ak (λh' hb=>AIj (Cw 0 _ rfl)<|Ad.x.trans hb.ext) ?_;obtain ⟨Eb,Cx,Cy⟩:=AH2 Cu;refine AOi Ad Ak (ATb Cx) λEc Ed Ee Ae Ef=>?_;obtain ⟨Eg,Bp,Cz⟩:=AH2 Cy;refine AJy (m:=Bo) ALs rfl (Ad.o2 p0) Cm A9 rfl Bp λEh C0=>AN2 (m:=Bo) (Aaw AJz (cZ.klen<|Ae.z p0) rfl rfl (cZ.one<|Ae.z p0)) (Ae.o2 p1) C0 A9 Bp (Ae.z p0) λEi C1 C3=>AIu<|q_b<|q_t<|AIf<|AI0 rfl rfl (AHy<|AH5 ?_);exact ⟨(_,_,_,_,_),(AH0 Cz).symm,(Ae.uO2 p1 C3 C1).sel [1] AHz,rfl,trivial⟩
   ·refine AIq<|AIr<|AIr<|AJt<|q_b<|q_t<|AIf<|AI0 rfl rfl (AHy<|AH5 ?_);exact ⟨(_,_,_,_,_),(AH0<|Cj _ (AH0<|AJc A7 A8).symm).symm,Ad,rfl,trivial⟩
  ·refine AIq<|AIr<|AIr<|AJt<|q_t<|AH1<|AHy<|AIw<|AH7<|AIc ?_;obtain rfl:=AH0<|Cf _ (AH0<|AJc A4 A5).symm;exact ⟨_,AJu,Ac.x,_,_,_,_,rfl,(Ac.o2 p0),Ac.s.sel [0] AHz⟩
def ALn (fuel:Nat) (a3:LiI):Option LiI:=
 (AK6 fuel a3).bind λ(x5,x6)=>some x5
theorem APc {a3 r:LiI} (H2:ANp (cI .i64) h Ab a3) (hp:ALn fuel a3=some r):AI7 Tryz.prog 20 #[Ab] h (λx h'=>Ext h h'/\ ∃ (x0:Value) (F0:List Nat) (Ai:List LnA) (Aj:List Value),x=x0/\ALl cZ 127 81 h' F0 Ai Aj x0 r/\Sp h' h.size [F0]):=by
 unfold ALn at hp;refine cwf (l:=[_]) Tryz.func20 rfl rfl (AH1<|AJd<|AHy ?_);have K0:=Kst.k0 h;obtain ⟨⟨x5,x6⟩,Ak,Ag⟩:=AH2 hp;dsimp only at Ag;refine ASt rfl (AZc (H2.ext K0.x) Ak) λAv Aw E9 Ao=>?_;obtain ⟨Ax,Ay,Az,A3,rfl,Ap,Aq⟩:=Ao;refine AHy<|AJs rfl rfl (AJs rfl rfl (AIw<|AJd<|AHy<|AH7<|AIc ?_));have Aa:=K0.no2 E9 Aq Ap;obtain rfl:=AH0 Ag;exact ⟨_,AId,Aa.x,_,_,_,_,rfl,(Aa.o2 p0),Aa.s.sel [0] AHz⟩
def APs (fuel:Nat) (a3:LiI) (Ab:Int):Option (Int ⊕ ((Int × Int × Bool) ⊕ Unit)):=
 if Ab < (a3.length:Int) then (gI a3 Ab).bind λAc=>if (Ac.length:Int) < 1 then some (.inr<|.inl (0,0,false)) else if 16 < (Ac.length:Int) then some (.inr<|.inl (0,0,false)) else (gI a3 0).bind λAd=>if ¬ (Ac.length:Int)=(Ad.length:Int) then some (.inr<|.inl (0,0,false)) else some (.inl<|w64<|Ab + 1) else some<|.inr<|.inr ()
def ALf (fuel:Nat) (a3:LiI):Option (Int × Int × Bool):=
 ((if (a3.length:Int) < 1 then some (.inl (0,0,false)) else if 16 < (a3.length:Int) then some (.inl (0,0,false)) else some<|.inr ()):Option ((Int × Int × Bool) ⊕ Unit)).bind (λex=>match ex with | .inl Ab=>(some Ab) | .inr _=>(iter (λs=>APs fuel a3 s) fuel 0).bind (λex=>match ex with | .inl Ac=>(some Ac) | .inr _=>(gI a3 0).bind λAd=>some ((a3.length:Int),(Ad.length:Int),true)))
theorem APt {a3:LiI} {r:(Int × Int × Bool)} (H2:ANp cZ h Aq a3) (hp:ALf fuel a3=some r):AI7 Tryz.prog 110 #[Aq] h (λx h'=>Ext h h'/\x= .tuple #[.int .i64 r.1,.int .i64 r.2.1,.bool r.2.2]):=by
 unfold ALf at hp;refine cwf (l:=[_]) Tryz.func110 rfl rfl (AH1<|AIw<|AIw<|AH7 ?_);have K0:=Kst.k0 h;obtain ⟨A3,Ar,Ai⟩:=AH2 hp;refine ARb 32668 (λx:Unit=>[]) (λx h'=>(Sum.inr <| ())=A3/\Kst h h' (K0.L)) ?_ ?_
 ·refine AH1<|AHy<|AJh AKj rfl H2 (AI3 rfl rfl (AHy ?_));by_cases Ad:(a3.length:Int) < 1
  ·rw [decide_eq_true Ad];refine ANe 10 true<|AIm rfl (AH5<|AI2 rfl (AH1<|AIw<|AIw<|AH7 ?_));obtain rfl:=AH0<|ifT Ar Ad;refine AIc<|AIt ?_;obtain rfl:=AH0 Ai;exact ⟨_,ASo,K0.x,rfl⟩
  ·have Au:=ifF Ar Ad;rw [decide_eq_false Ad];refine AIs 10 false<|AHy<|AIs 10 false<|AJh AKj rfl H2 (AIs 10 false<|APu rfl rfl (AIn rfl (AH5<|⟨_,rfl,λAj=>?_,λAj=>?_⟩)))
   ·refine AH1<|AIw<|AIw<|AH7 ?_;obtain rfl:=AH0<|AJb Au Aj;refine AIc<|AIt ?_;obtain rfl:=AH0 Ai;exact ⟨_,ASo,K0.x,rfl⟩
   ·refine AIa<|q_t ?_;exact ⟨(():Unit),⟨AH0<|AJc Au Aj,K0⟩,trivial⟩
 rintro ⟨⟩ Bc Be ⟨A4,Av⟩;subst A4;refine AH3<|AH1<|AHy<|AJh AKj rfl H2 (AHy<|AH5<|AH6<|APb 549755682908 Ai (λx=>[(17,(.int .i64 x))]) (λx=>Av.L) Av ⟨rfl,trivial⟩ ?_);rintro Bf Bg Bh Bi Aa Ak Ae;unfold APs at Ak;refine AH1<|AI3 rfl rfl (AH5<|AH3<|⟨_,rfl,λAm=>?_,λAm=>?_⟩)
 ·refine AIa<|q_t<|AH3<|AH6<|AH1 ?_;obtain ⟨Aw,A5,Ax⟩:=AH2<|AJb Ak Am;refine ATc AKj AMq H2 Aa.x A5 λ_ Bj Ao=>AJd<|AHy<|AJ8 ALs rfl Ao (AI3 rfl rfl (AHy ?_));by_cases Af:(Aw.length:Int) < 1
  ·rw [decide_eq_true Af];refine ANe 24 true<|AIm rfl (AHy<|AN1 29 true<|AP2 29 true<|AIm rfl (AH5<|AI2 rfl (AH1<|AIw<|AIw<|AH7<|AIc<|AKa<|AIt<|AIt<|AKa<|AIt ?_)));obtain rfl:=AH0<|Ae _ (AH0<|ifT Ax Af).symm;exact ⟨_,ASo,Aa.x,rfl⟩
  ·have Ay:=ifF Ax Af;rw [decide_eq_false Af];refine AIs 24 false<|AHy<|AIs 24 false<|AJ8 ALs rfl Ao (AIs 24 false<|APu rfl rfl (AIn rfl (AHy ?_)));by_cases Ag:16 < (Aw.length:Int)
   ·rw [decide_eq_true Ag];refine AN1 29 true<|AP2 29 true<|AIm rfl (AH5<|AI2 rfl (AH1<|AIw<|AIw<|AH7<|AIc<|AKa<|AIt<|AIt<|AKa<|AIt ?_));obtain rfl:=AH0<|Ae _ (AH0<|ifT Ay Ag).symm;exact ⟨_,ASo,Aa.x,rfl⟩
   ·rw [decide_eq_false Ag];refine AIs 29 false<|AHy<|AIs 29 false<|AJ8 ALs rfl Ao (AIs 29 false<|AHy<|AIs 29 false ?_);obtain ⟨Bl,A6,Az⟩:=AH2<|ifF Ay Ag;refine Ad7 AKj rfl H2 rfl A6 λBm Bn Bo A7 A8=>AIs 29 false<|AI1 AMq rfl (AIj A7 Aa.x) (AIs 29 false<|AJ8 ALs rfl A8 (AIs 29 false<|AK0 rfl rfl (AIn rfl (AH5<|⟨_,rfl,λAp=>?_,λAp=>?_⟩))))
    ·refine AH1<|AIw<|AIw<|AH7<|AIc<|AKa<|AIt<|AIt<|AKa<|AIt ?_;obtain rfl:=AH0<|Ae _ (AH0<|AJb Az Ap).symm;exact ⟨_,ASo,Aa.x,rfl⟩
    ·refine AIa<|q_b<|q_t<|AIf<|AI0 rfl rfl (AHy<|AH5 ?_);exact ⟨_,(AH0<|AJc Az Ap).symm,Aa,rfl,trivial⟩
 ·refine AIq<|AIr<|AIr<|AJt<|q_t<|AH3<|AMw<|AHy<|AJh AKj rfl H2 (AHy ?_);obtain ⟨Bp,A9,Ba⟩:=AH2<|Ae _ (AH0<|AJc Ak Am).symm;refine ATc AKj AMq H2 Aa.x A9 λ_ Bq Bb=>AJ8 ALs rfl Bb (AIw<|AIw<|AH7<|AIc ?_);obtain rfl:=AH0 Ba;exact ⟨_,ASo,Aa.x,rfl⟩
def ANg (fuel:Nat) (a3:LiI):Option (Int × Bool):=
 (ALf fuel a3).bind λ(x5,x6,x7)=>if (!x7)=true then some (0,false) else if ¬ x5=x6 then some (0,false) else some (x5,true)
theorem AVz {a3:LiI} {r:(Int × Bool)} (H2:ANp cZ h Ad a3) (hp:ANg fuel a3=some r):AI7 Tryz.prog 94 #[Ad] h (λx h'=>Ext h h'/\x= .tuple #[.int .i64 r.1,.bool r.2]):=by
 unfold ANg at hp;refine cwf (l:=[_]) Tryz.func94 rfl rfl (AH1<|AIw<|AJd<|AHy ?_);have K0:=Kst.k0 h;obtain ⟨⟨x5,x6,x7⟩,Ak,Aa⟩:=AH2 hp;dsimp only at Aa;refine ALx K0 (APt (H2.ext K0.x) Ak) λAp Aq Ab=>AHy<|AJs rfl rfl (AJs rfl rfl (AJs rfl rfl (AIw<|AIw<|AH7<|AH3<|AH1<|AHy<|AMp rfl (AHy ?_))));cases Ag:(!x7)
 ·refine AIs 15 false<|AHy<|AIs 15 false<|AHy<|AIs 15 false<|AK0 rfl rfl (AIn rfl (AH5 ?_));have Ah:=AQa Aa Ag;refine ⟨_,rfl,λAc=>?_,λAc=>?_⟩
  ·refine AH1<|AIw<|AH7<|AIc<|AIt ?_;obtain rfl:=AH0<|AJb Ah Ac;exact ⟨_,AJu,Ab.x,rfl⟩
  ·refine AIa<|q_t<|AH1<|AHy<|AIw<|AH7<|AIc ?_;obtain rfl:=AH0<|AJc Ah Ac;exact ⟨_,AJu,Ab.x,rfl⟩
 ·refine ANe 15 true<|AIm rfl (AH5<|AI2 rfl (AH1<|AIw<|AH7<|AIc<|AIt ?_));obtain rfl:=AH0<|ifT Aa Ag;exact ⟨_,AJu,Ab.x,rfl⟩
def ATf (fuel:Nat) (Ac:Int) (Ad:LiA) (Aa:Int) (Ab:LiI):Option ((Int × LiI) ⊕ LiI):=
 if Aa < (Ad.length:Int) then (gI Ad Aa).bind λAf=>(gI Ab Ac).bind λAe=>(Aa0 fuel Af).bind λAg=>if Ae.length<=100000000 then some (.inl (w64<|Aa + 1,sI Ab Ac<|Ae ++ [Ag])) else none else some<|.inr Ab
def ATg (fuel:Nat) (a3:LiI) (Aa:Int) (Ac:LiI):Option ((Int × LiI) ⊕ LiI):=
 if Aa < (a3.length:Int) then (gI a3 Aa).bind λAd=>(iter (λs=>ATf fuel Aa Ad s.1 s.2) fuel (0,Ac)).bind (λ(Ae:LiI)=>some<|.inl (w64<|Aa + 1,Ae)) else some<|.inr Ac
def AOj (fuel:Nat) (a3:LiI):Option LiI:=
 if 0<=(a3.length:Int)/\(a3.length:Int)<=100000000 then (iter (λs=>ATg fuel a3 s.1 s.2) fuel (0,List.replicate (Int.toNat (a3.length:Int)) ([]:List Int))).bind (λ(Ab:LiI)=>some Ab) else none
theorem AWo {a3 r:LiI} (H2:ANp cZ h Aq a3) (hp:AOj fuel a3=some r):AI7 Tryz.prog 53 #[Aq] h (λx h'=>Ext h h'/\ ∃ (x0:Value) (F0:List Nat) (A4:List LnA) (A5:List Value),x=x0/\ALl cZ 127 81 h' F0 A4 A5 x0 r/\Sp h' h.size [F0]):=by
 unfold AOj at hp;refine cwf (l:=[_]) Tryz.func53 rfl rfl (AH1<|AJd<|AHy<|AJh AKj rfl H2 ?_);obtain ⟨A6,A7⟩:=ifN hp;refine Aay cZ 81 AKj Ao3 rfl trivial tt2 rfl rfl AHz A6 λA8 A9 Ba v11 h9 Bb E7 S8=>AH7<|AH3<|AH1<|AHy<|AJh AKj rfl H2 (AHy<|AH5<|AH6 ?_);have Av:=(Kst.k0 h).no2 E7 S8 Bb;refine AOq 137438949456 (λx:(Int) × (LiI) × LnA × LnN × LvA=>(x.1,x.2.1)) ((0,(List.replicate (Int.toNat (a3.length:Int)) ([]:List Int)),A8,A9,Ba):(Int) × (LiI) × LnA × LnN × LvA) A7 (λx=>[(12,(.int .i64 x.1))]) (λx=>Av.L.set 0<|aO2 cZ 127 81 x.2.2.1 x.2.2.2.1 x.2.2.2.2 v11 x.2.1) Av ⟨rfl,trivial⟩ ?_;rintro ⟨Cg,Bf,Bg,Bh,Bi⟩ Ch Ci Cj Ab Ah Bj;unfold ATg at Ah;refine AH1<|AI3 rfl rfl (AH5<|AH3<|⟨_,rfl,λAi=>?_,λAi=>?_⟩)
 ·refine AIa<|q_t<|AH3<|AH6<|AH1<|AHy<|AJd<|AHy<|AHy ?_;obtain ⟨Ck,Bl,Bm⟩:=AH2<|AJb Ah Ai;refine ATc AKj AMq H2 Ab.x Bl λ_ Cm Aw=>AJ8 ALs rfl Aw (AHy<|AH5<|AH6<|AOq 68718428224 (λx:(Int) × (LiI) × LnA × LnN × LvA=>(x.1,x.2.1)) ((0,Bf,Bg,Bh,Bi):(Int) × (LiI) × LnA × LnN × LvA) Bm (λx=>[(20,(.int .i64 x.1))]) (λx=>Ab.L.set 0<|aO2 cZ 127 81 x.2.2.1 x.2.2.2.1 x.2.2.2.2 v11 x.2.1) Ab ⟨rfl,trivial⟩ ?_);rintro ⟨Cn,Co,Cp,Cq,Cr⟩ Ct Cu Cv Ad Aj Bn;unfold ATf at Aj;refine AH1<|AI3 rfl rfl (AH5<|AH3<|⟨_,rfl,λAk=>?_,λAk=>?_⟩)
  ·refine AIa<|q_t<|AH3<|AH6<|AH1 ?_;obtain ⟨Cw,Bo,Bp⟩:=AH2<|AJb Aj Ak;refine AQi (c:=cZ) ALs rfl Aw rfl Bo λCx Cy Bq Ae Br=>AW5 (c:=cZ) AJz rfl (Ad.zx Ae) (λj u hu=>(AIj (Br j u hu) Ad.x)) (ALm Ad [.bool false,.slice none 0 0] ANt λCz Bt C0 Ax=>AOv Ax p0 (AIo Bt) (Ax.zx Ae) λAm Aa=>AH5 ?_);obtain ⟨C1,Ao,Bu⟩:=AH2 Bp;obtain ⟨Ay,Bv,Bw,Bx,By⟩:=(Aa.o2 p1).rowG Ao;refine AKg (λh'=>UpT (Ay ++ []) Am h') AIb ?_;have Ac:UpT (Ay ++ []) Am Am:=UpT.start<|AKm Bx all_nil;refine AHy<|AHy<|AHy<|AHy<|AJr AKj rfl (Aa.o2 p1) rfl Ao λC3 C4 Bz B2 B3=>AJe AMq rfl Ac (λh' hb=>AUo B3 hb<|Abf (By _ Bz) Abg) (AQr Bq AJz (cZ.klen<|Aa.zx Ae) rfl Ac (λh' hb=>((Aa.b p0).upT hb (Aj2 (λb hb hg=>(Aa.dj p0 p1 AHz) b hb (Bw b hg)) Aq8)).agg) ?_);obtain ⟨C5,B4,B5⟩:=AH2 Bu;refine ALp Ac (λ_ E=>Ac.thenE E) rfl (Acw (Aa.zx Ae).2 B4) λC6 C7 Az B6=>?_;obtain ⟨C8,rfl,B7⟩:=B6;have A3:=Ac.thenE Az;obtain ⟨C9,rfl,B8⟩:=B7.cs;have Ap:=(Aa.e Az).az B8;obtain ⟨B9,Ca⟩:=ifN B5;refine Au5 ALs ANt rfl rfl AKj AMq (Ap.o2 p2) B2 Ao Bv A3 (λ_ U=>A3.then U<|ARx rfl) (λ_=>rfl) rfl (Ap.z p0) (λ_ _=>rfl) (λ_ _=>rfl) rfl AHz B9 λDa Db Dc Dd De Df Dg Cb Cd Ce=>AIu<|q_b<|q_t<|AIf<|AI0 rfl rfl (AHy<|AH5 ?_);exact ⟨(_,_,_,_,_),(AH0 Ca).symm,(Ap.uo2 p2 Cd Cb Ce).sel [2] AHz,rfl,trivial⟩
  ·refine AIq<|AIr<|AIr<|AJt<|q_b<|q_t<|AIf<|AI0 rfl rfl (AHy<|AH5 ?_);exact ⟨(_,_,_,_,_),(AH0<|Bn _ (AH0<|AJc Aj Ak).symm).symm,Ad,rfl,trivial⟩
 ·refine AIq<|AIr<|AIr<|AJt<|q_t<|AH1<|AHy<|AH7<|AIc ?_;obtain rfl:=AH0<|Bj _ (AH0<|AJc Ah Ai).symm;exact ⟨_,AId,Ab.x,_,_,_,_,rfl,(Ab.o2 p0),Ab.s.sel [0] AHz⟩
def AR1 (fuel:Nat) (a3:LiI) (Ac:LiA) (Ae:Int) (Aa:LiA) (Ab:Int):Option ((LiA × Int) ⊕ LiA):=
 if Ab < (Ac.length:Int) then (gI Ac Ab).bind λAf=>(gI a3 Ae).bind λAg=>(gI Ag Af).bind λAh=>if Aa.length<=100000000 then some (.inl (Aa ++ [Ah],w64<|Ab + 1)) else none else some<|.inr Aa
def AR2 (fuel:Nat) (a3:LiI) (a7 Ae:LiA) (Aa:LiI) (Ab:Int):Option ((LiI × Int) ⊕ LiI):=
 if Ab < (a7.length:Int) then (gI a7 Ab).bind λAf=>(iter (λs=>AR1 fuel a3 Ae Af s.1 s.2) fuel ([],0)).bind (λ(Ag:LiA)=>if Aa.length<=100000000 then some (.inl (Aa ++ [Ag],w64<|Ab + 1)) else none) else some<|.inr Aa
def ANh (fuel:Nat) (a3:LiI) (a7 Ac:LiA):Option LiI:=
 (iter (λs=>AR2 fuel a3 a7 Ac s.1 s.2) fuel ([],0)).bind (λ(Ad:LiI)=>some Ad)
theorem AV0 {Ag:Value} {a3:LiI} {a7:LiA} {Am:LiA} {r:LiI} (H2:ANp cZ h Ag a3) (H6:SlC (cI .i64) h Ai a7) (Ap:SlC (cI .i64) h Ak Am) (hp:ANh fuel a3 a7 Am=some r):AI7 Tryz.prog 138 #[Ag,Ai,Ak] h (λx h'=>Ext h h'/\ ∃ (x0:Value) (F0:List Nat) (Ay:List LnA) (Az:List Value),x=x0/\ALl cZ 127 81 h' F0 Ay Az x0 r/\Sp h' h.size [F0]):=by
 unfold ANh at hp;refine cwf (l:=[_,_,_]) Tryz.func138 rfl rfl (AH1<|AJd<|AH7<|AH3<|AH1<|AHy<|AJ8 Afk rfl H6 (AHy<|AH5<|AH6 ?_));have Au:=Kst.anil2 cZ 127 81<|Kst.k0 h;refine AOq 2199023228544 (λx:(LiI) × (Value) × LnA × LnN × LvA × (Int)=>(x.1,x.2.2.2.2.2)) (([],(.slice none 0 0),[],[],[],0):(LiI) × (Value) × LnA × LnN × LvA × (Int)) hp (λx=>[(7,x.2.1),(15,(.int .i64 x.2.2.2.2.2))]) (λx=>Au.L.set 0<|aO2 cZ 127 81 x.2.2.1 x.2.2.2.1 x.2.2.2.2.1 x.2.1 x.1) Au ⟨rfl,rfl,trivial⟩ ?_;rintro ⟨Br,Bt,Bu,Bv,Bw,Bx⟩ By Bz B2 Ab Ac A3;unfold AR2 at Ac;refine AH1<|AI3 rfl rfl (AH5<|AH3<|⟨_,rfl,λAd=>?_,λAd=>?_⟩)
 ·refine AIa<|q_t<|AH3<|AH6<|AH1 ?_;obtain ⟨B3,A4,A5⟩:=AH2<|AJb Ac Ad;refine Aii Afk AJq H6 Ab.x A4 λ_=>(AJd<|AH7<|AH3<|AH1<|AHy<|AJ8 Afk rfl Ap (AHy<|AH5<|AH6 ?_));have Av:=Kst.anil cZ 81 Ab;refine AOq 68717384704 (λx:(LiA) × (Value) × LnA × (Int)=>(x.1,x.2.2.2)) (([],(.slice none 0 0),[],0):(LiA) × (Value) × LnA × (Int)) A5 (λx=>[(10,x.2.1),(21,(.int .i64 x.2.2.2))]) (λx=>Av.L.set 0<|aO cZ 81 x.2.2.1 x.2.1 x.1) Av ⟨rfl,rfl,trivial⟩ ?_;rintro ⟨B4,B5,B6,B7⟩ B8 B9 Ca Aa Ae A6;unfold AR1 at Ae;refine AH1<|AI3 rfl rfl (AH5<|AH3<|⟨_,rfl,λAf=>?_,λAf=>?_⟩)
  ·refine AIa<|q_t<|AH3<|AH6<|AH1 ?_;obtain ⟨Cb,A7,A8⟩:=AH2<|AJb Ae Af;refine Aii Afk AJq Ap Aa.x A7 λ_=>(AH7<|AIf<|AHy<|AHy<|AHy ?_);obtain ⟨Cd,A9,Ba⟩:=AH2 A8;refine ATc AKj AMq H2 Aa.x A9 λ_ Ce Bb=>AHy ?_;obtain ⟨Cf,Bc,Be⟩:=AH2 Ba;refine AQi (c:=cZ) ALs rfl Bb rfl Bc λCg Ch Ci Aw Bf=>AW5 (c:=cZ) AJz rfl (Aa.zx Aw) (λj u hu=>(AIj (Bf j u hu) Aa.x)) ?_;obtain ⟨Bg,Bh⟩:=ifN Be;refine ASg ALs ANt rfl rfl trivial tt2 (λ_=>rfl) rfl (Aa.zx Aw) (Aa.o p0) AHz Bg λCj Ck Cm Cn Bi Bj Bl=>AIw<|AIu<|q_b<|q_t<|AIf<|AI0 rfl rfl (AHy<|AH5 ?_);exact ⟨(_,_,_,_),(AH0 Bh).symm,(Aa.uo p0 Bj Bi Bl),rfl,rfl,trivial⟩
  ·refine AIq<|AIr<|AIr<|AJt<|q_t<|AIf<|AHy<|AHy ?_;obtain ⟨Bm,Bn⟩:=ifN<|A6 _ (AH0<|AJc Ae Af).symm;refine Ai0 AKj Ao3 rfl rfl trivial tt2 (λ_=>rfl) rfl (Aa.o p0) (Aa.o2 p1) (Aa.dj p0 p1 AHz) AHz Bm λCo Cp Cq Cr Bo Bp Bq=>AIw<|AIu<|q_b<|q_t<|AIf<|AI0 rfl rfl (AHy<|AH5 ?_);exact ⟨(_,_,_,_,_,_),(AH0 Bn).symm,(Aa.m2 p0 p1 AHz Bp Bo Bq).sel [1] AHz,rfl,rfl,trivial⟩
 ·refine AIq<|AIr<|AIr<|AJt<|q_t<|AH1<|AHy<|AH7<|AIc ?_;obtain rfl:=AH0<|A3 _ (AH0<|AJc Ac Ad).symm;exact ⟨_,AId,Ab.x,_,_,_,_,rfl,(Ab.o2 p0),Ab.s.sel [0] AHz⟩
def APi (fuel:Nat) (Ab:LiI) (Ac:Int) (Ad:LiI) (Aa:Int):Option (Int ⊕ Int):=
 ((if Aa < (Ab.length:Int) then (gI Ad Aa).bind λAe=>(gI Ae Ac).bind λAf=>(Ahq fuel Af).bind λAg=>if Ag=0 then some (.inl ()) else some (.inr ()) else some<|.inr ()):Option (Unit ⊕ Unit)).bind (λex=>match ex with | .inl _=>(some<|.inl<|w64<|Aa + 1) | .inr _=>some<|.inr Aa)
def APj (fuel:Nat) (Ag:LiI) (Ac Ah Ae Aa:Int) (Ab:LiI):Option ((Int × LiI) ⊕ LiI):=
 if Aa < (Ag.length:Int) then (gI Ab Ae).bind λAd=>(gI Ab Ac).bind λAf=>(gI Af Ac).bind λAi=>(gI Ad Aa).bind λAj=>(Aaz fuel Ai Aj).bind λAk=>(gI Ad Ac).bind λAm=>(gI Af Aa).bind λAo=>(Aaz fuel Am Ao).bind λAp=>(A3l fuel Ak Ap).bind λAq=>(ALv fuel Aq Ah).bind λAr=>some (.inl (w64<|Aa + 1,sI Ab Ae<|sI Ad Aa Ar)) else some<|.inr Ab
def APk (fuel:Nat) (Ab:LiI) (Ac Ae Aa:Int) (Ad:LiI):Option ((Int × LiI) ⊕ LiI):=
 if Aa < (Ab.length:Int) then (iter (λs=>APj fuel Ab Ac Ae Aa s.1 s.2) fuel (w64<|Ac + 1,Ad)).bind (λ(Af:LiI)=>some<|.inl (w64<|Aa + 1,Af)) else some<|.inr Ad
def APl (fuel:Nat) (Ac:LiI) (Ae:Bool) (Aa:Int) (Ab:LiI) (Af:Int):Option ((Bool × Int × LiI × Int) ⊕ (Int ⊕ (Bool × Int))):=
 if Aa < (Ac.length:Int) then (((((iter (λs=>APi fuel Ac Aa Ab s) fuel Aa).bind (λ(Ah:Int)=>some Ah)):Option Int).bind (λ(Ad:Int)=>if Ad=(Ac.length:Int) then some (.inl 0) else ((if Aa < Ad then (gI Ab Aa).bind λAi=>(gI Ab Ad).bind λAj=>some (!Ae,sI (sI Ab Ad Ai) Aa Aj) else some (Ae,Ab)):Option (Bool × LiI)).bind (λ((Ak,Am):Bool × LiI)=>(iter (λs=>APk fuel Ac Aa Af s.1 s.2) fuel (w64<|Aa + 1,Am)).bind (λ(Ag:LiI)=>(gI Ag Aa).bind λAo=>(gI Ao Aa).bind λAp=>some<|.inr (Ak,Ag,Ap))))):Option (Int ⊕ (Bool × LiI × Int))).bind (λex=>match ex with | .inl Aq=>(some<|.inr<|.inl Aq) | .inr (Ar,Au,Av)=>some<|.inl (Ar,w64<|Aa + 1,Au,Av)) else some<|.inr<|.inr (Ae,Af)
def AKb (fuel:Nat) (a3:LiI):Option Int:=
 (AOj fuel a3).bind λAa=>(AUx fuel 1).bind λAd=>(iter (λs=>APl fuel Aa s.1 s.2.1 s.2.2.1 s.2.2.2) fuel (false,0,Aa,Ad)).bind (λex=>match ex with | .inl Ae=>(some Ae) | .inr (Af,Ab)=>if Af=true then (Ao4 fuel Ab).bind λAg=>some Ag else some Ab)
theorem ALy {Bj:Value} {a3:LiI} {r:Int} (H2:ANp cZ h Bj a3) (hp:AKb fuel a3=some r):AI7 Tryz.prog 98 #[Bj] h (λx h'=>Ext h h'/\ ∃ (x0:Value),x=x0/\ZZ h' x0 r):=by
 unfold AKb at hp;refine cwf (l:=[_]) Tryz.func98 rfl rfl (AH1<|ALm (Kst.k0 h) [.bool false,.slice none 0 0] ANt λb5 h6 E8 Bn=>AQs<|AHy ?_);obtain ⟨Bo,Cx,Cy⟩:=AH2 hp;refine AWs Bn (AWo (H2.ext Bn.x) Cx) λCz C0 C1 v20 Gl Gm Bp=>AJd<|AHy<|AJh AKj rfl (Bp.o2 p0).rd (AJd ?_);obtain ⟨C3,C4,C5⟩:=AH2 Cy;refine AWr Bp (ATb C4) λC6 Gn Gp C7=>ALm C7 [.bool false,.slice none 0 0] ANt λBq C8 Gq Br=>AOv Br p0 (AIo C8) (Br.z p1) λGr Bt=>AH7<|AH3<|AH1<|AH7<|AH6<|AOq 2658455991569831745807614120560625600 (λx:(Bool) × (Int) × (LiI) × LnA × LnN × LvA × (Int) × LvA=>(x.1,x.2.1,x.2.2.1,x.2.2.2.2.2.2.1)) ((false,0,Bo,Cz,C0,C1,C3,C6):(Bool) × (Int) × (LiI) × LnA × LnN × LvA × (Int) × LvA) C5 (λx=>[(6,(.bool x.1)),(7,(.int .i64 x.2.1))]) (λx=>((Bt.L.set 2<|aO2 cZ 127 81 x.2.2.2.1 x.2.2.2.2.1 x.2.2.2.2.2.1 v20 x.2.2.1).set 1 (aZ x.2.2.2.2.2.2.2 x.2.2.2.2.2.2.1)).set 0 (aB 81 Bq x.2.2.2.2.2.2.2)) Bt ⟨rfl,rfl,trivial⟩ ?_;rintro ⟨Bu,Ag,Bv,C9,Da,Db,Gt,Gu⟩ Gv Dc Gw Ab Ax Bw;unfold APl at Ax;refine AH3<|AH1<|AHy<|AHy<|AI3 rfl rfl (AH5<|⟨_,rfl,λAy=>?_,λAy=>?_⟩)
 ·refine AIa<|q_t ?_;obtain ⟨Dd,De,Bx⟩:=AH2<|AJb Ax Ay;refine ARb 2658455991569831745807614120558593856 (λx:(Bool) × (LiI) × LnA × LnN × LvA × (Int) × LvA=>[(6,(.bool x.1))]) (λx h'=>(Sum.inr <| (x.1,x.2.1,x.2.2.2.2.2.1))=Dd/\Kst h h' (((Ab.L.set 2<|aO2 cZ 127 81 x.2.2.1 x.2.2.2.1 x.2.2.2.2.1 v20 x.2.1).set 1 (aZ x.2.2.2.2.2.2 x.2.2.2.2.2.1)).set 0 (aB 81 Bq x.2.2.2.2.2.2))) ?_ ?_
  ·refine AH6<|AH1<|AHy<|AH7 ?_;obtain ⟨Df,Dg,By⟩:=AH2 De;refine ARb 274873712896 (λx:(Int)=>[(8,(.int .i64 x))]) (λx h'=>( x)=Df/\Kst h h' (Ab.L)) ?_ ?_
   ·refine AH6<|APb 274873712896 Dg (λx=>[(8,(.int .i64 x))]) (λx=>Ab.L) Ab ⟨rfl,trivial⟩ ?_;rintro Am Gx Gy Gz Ah Bz B2;unfold APi at Bz;obtain ⟨Dh,B3,Az⟩:=AH2 Bz;refine ARb 68715282432 (λx:Unit=>[]) (λx h'=>(Sum.inl <| ())=Dh/\Kst h h' (Ah.L)) ?_ ?_
    ·refine AH1<|AHy<|AHy<|AI3 rfl rfl (AHy ?_);by_cases Ao:Am < (Bo.length:Int)
     ·rw [decide_eq_true Ao];refine AIs 25 true<|AHy<|AIs 25 true<|AHy<|AIs 25 true ?_;obtain ⟨G3,A3,Di⟩:=AH2<|ifT B3 Ao;refine AJr AKj rfl (Ah.o2 p2) rfl A3 λG4 G5 G6 Dj Dk=>AIs 25 true<|AI1 AMq rfl Dk (AIs 25 true<|AHy<|AIs 25 true ?_);obtain ⟨G7,B4,Dl⟩:=AH2 Di;refine AJy (m:=Am) ALs rfl (Ah.o2 p2) Dj A3 rfl B4 λG8 Do=>AIs 25 true ?_;obtain ⟨G9,Dp,Dq⟩:=(Ah.o2 p2).cells Do A3 B4;have A4:=Ah.az Dp;refine AW5 (c:=cZ) AJz rfl (A4.z p0) (λj u hu=>(Dq j u hu)) (AIs 25 true ?_);obtain ⟨Hb,Dr,B5⟩:=AH2 Dl;refine ALx A4 (Agq (A4.z p0).2 Dr) λHc Hd B6=>AIs 25 true<|AKd rfl rfl (AIm rfl (AH5<|⟨_,rfl,λA5=>?_,λA5=>?_⟩))
      ·refine AIa<|q_t ?_;exact ⟨(():Unit),⟨AH0<|AJb B5 A5,B6.sel [1,2,3,4] AHz⟩,trivial⟩
      ·obtain rfl:=AH0<|AJc B5 A5;refine AIq<|AIr<|AIr<|AJt<|q_t ?_;exact ⟨(Am:(Int)),⟨AH0<|B2 _ (AH0 Az).symm,B6.sel [1,2,3,4] AHz⟩,rfl,trivial⟩
     ·rw [decide_eq_false Ao];refine AN1 25 false<|AUi 25 false<|AIn rfl (AH5<|AI6 rfl ?_);obtain rfl:=AH0<|ifF B3 Ao;refine AIq<|AIr<|AIr<|AJt<|q_t ?_;exact ⟨(Am:(Int)),⟨AH0<|B2 _ (AH0 Az).symm,Ah⟩,rfl,trivial⟩
    rintro ⟨⟩ He Hf ⟨Ds,Dt⟩;subst Ds;refine AH6<|AIf<|AHy<|AI0 rfl rfl (AIw<|AIu<|q_b<|q_t ?_);exact ⟨_,(AH0 Az).symm,Dt,rfl,trivial⟩
   rintro Du Hg B7 ⟨Dv,Ae⟩;subst Dv;refine AH3<|AH1<|AHy<|AHy<|AKd rfl rfl (AH5<|⟨_,rfl,λA6=>?_,λA6=>?_⟩)
   ·refine AH1<|ALe (AW6 )<|AOv Ae p3 (AIo B7) (AIo B7) λB8 B9=>AH5 ?_;obtain rfl:=AH0<|AJb By A6;refine AIc<|AIt<|AKa<|AIt<|AIt<|AKa<|AIt ?_;obtain rfl:=AH0<|Bw _ (AH0 Bx).symm;exact ⟨_,AKs AJz (cZ.klen<|AIo B8) rfl (B9.b p3),B9.x,_,rfl,(AIo B8).2⟩
   ·refine AIa<|q_t ?_;obtain ⟨Dw,Ca,Dx⟩:=AH2<|AJc By A6;refine ARb 2305838611167182912 (λx:(Bool) × (LiI) × LnA × LnN × LvA=>[(6,(.bool x.1))]) (λx h'=>( (x.1,x.2.1))=Dw/\Kst h h' (Ae.L.set 2<|aO2 cZ 127 81 x.2.2.1 x.2.2.2.1 x.2.2.2.2 v20 x.2.1)) ?_ ?_
    ·refine AH1<|AHy<|AHy<|APu rfl rfl (AH5<|⟨_,rfl,λA7=>?_,λA7=>?_⟩)
     ·refine AH3<|AMw<|AHy<|AHy<|AHy<|AHy<|AHy<|AHy ?_;obtain ⟨Dy,Cb,Dz⟩:=AH2<|AJb Ca A7;refine AKe AKj AMq (Ae.o2 p2) Cb λ_ Hh D0=>AHy<|AHy ?_;obtain ⟨D3,Cd,D4⟩:=AH2 Dz;refine AKe AKj AMq (Ae.o2 p2) Cd λ_ Hj D5=>AX2 AKj AMq (Ae.o2 p2) D5 D0 Cd Cb rfl rfl (λ_=>rfl) (λ_=>rfl) (λ_=>rfl) (λ_ _=>rfl) λHk Hl D6 D7 D8 Hm D9 Ea Eb=>AH5<|AIf<|AHy<|AMp rfl (AH7 ?_);exact ⟨(((!Bu),(sI (sI Bv Du Dy) Ag D3),D6,D7,D8):(Bool) × (LiI) × LnA × LnN × LvA),⟨AH0 D4,(Ae.uo2 p2 Ea D9 Eb)⟩,rfl,trivial⟩
     ·refine AIa<|q_t ?_;exact ⟨((Bu,Bv,C9,Da,Db):(Bool) × (LiI) × LnA × LnN × LvA),⟨AH0<|AJc Ca A7,Ae⟩,rfl,trivial⟩
    rintro ⟨Ec,Ed,Ee,Ef,Eg⟩ Hn Ho ⟨Eh,Ce⟩;subst Eh;refine AH3<|AH1<|AHy<|AI0 rfl rfl (AH7<|AH6<|AOq 20769187434139301290749948462106112 (λx:(Int) × (LiI) × LnA × LnN × LvA=>(x.1,x.2.1)) (((w64<|Ag + 1),Ed,Ee,Ef,Eg):(Int) × (LiI) × LnA × LnN × LvA) Dx (λx=>[(9,(.int .i64 x.1))]) (λx=>Ce.L.set 2<|aO2 cZ 127 81 x.2.2.1 x.2.2.2.1 x.2.2.2.2 v20 x.2.1) Ce ⟨rfl,trivial⟩ ?_);rintro ⟨Ap,Cf,Cg,Ch,Ci⟩ Hq Hr Hs Ai A8 Ei;unfold APk at A8;refine AH3<|AH1<|AHy<|AHy<|AI3 rfl rfl (AH5<|⟨_,rfl,λA9=>?_,λA9=>?_⟩)
    ·refine AIa<|q_t<|AH3<|AH6<|AH1<|AHy<|AI0 rfl rfl (AH7<|AH6<|AOq 20769187434138129922501267905577984 (λx:(Int) × (LiI) × LnA × LnN × LvA=>(x.1,x.2.1)) (((w64<|Ag + 1),Cf,Cg,Ch,Ci):(Int) × (LiI) × LnA × LnN × LvA) (AJb A8 A9) (λx=>[(10,(.int .i64 x.1))]) (λx=>Ai.L.set 2<|aO2 cZ 127 81 x.2.2.1 x.2.2.2.1 x.2.2.2.2 v20 x.2.1) Ai ⟨rfl,trivial⟩ ?_);rintro ⟨Ht,Hu,Hv,Hw,Hx⟩ Hy Ba Hz Aa Bb Ej;unfold APj at Bb;refine AH3<|AH1<|AHy<|AHy<|AI3 rfl rfl (AH5<|⟨_,rfl,λBc=>?_,λBc=>?_⟩)
     ·refine AIa<|q_t<|AH3<|AH6<|AKg (λh'=>UpT [] Ba h') AIb ?_;have Ad:UpT [] Ba Ba:=UpT.start all_nil;refine AHy<|AHy ?_;obtain ⟨Ia,Ac,Ek⟩:=AH2<|AJb Bb Bc;refine AJr AKj rfl (Aa.o2 p2) rfl Ac λIb Ic Id El Em=>AJe AMq rfl Ad (λh' hb=>AIj Em hb.ext) (AHy<|AHy<|AHy ?_);obtain ⟨Ie,Aj,En⟩:=AH2 Ek;refine AJr AKj rfl (Aa.o2 p2) rfl Aj λIf Ih Ii Eo Ep=>AJe AMq rfl Ad (λh' hb=>AIj Ep hb.ext) (AHy ?_);obtain ⟨Ij,Cj,Er⟩:=AH2 En;refine AJy (m:=Ag) ALs rfl (Aa.o2 p2) Eo Aj rfl Cj λIk Es=>?_;obtain ⟨Il,Ck,Et⟩:=(Aa.o2 p2).cells Es Aj Cj;refine AZ0 (c:=cZ) AJz rfl Ck Ad (λh' hb j u hu=>AIj (Et j u hu) hb.ext) (AHy<|AHy<|AJr AKj rfl (Aa.o2 p2) rfl Ac λIm Io Ip Eu Ev=>AJe AMq rfl Ad (λh' hb=>AIj Ev hb.ext) (AHy ?_));obtain ⟨Iq,Aq,Ew⟩:=AH2 Er;refine AJy (m:=Ap) ALs rfl (Aa.o2 p2) Eu Ac rfl Aq λIr Ey=>?_;obtain ⟨Is,Cm,Ez⟩:=(Aa.o2 p2).cells Ey Ac Aq;refine AZ0 (c:=cZ) AJz rfl Cm Ad (λh' hb j u hu=>AIj (Ez j u hu) hb.ext) ?_;have Be:=(Aa.az<|cZ.upT Ck Ad).az (cZ.upT Cm Ad);obtain ⟨It,Fa,Fb⟩:=AH2 Ew;refine AOi Be Ad (AYy (Be.z p1).2 (Be.z p0).2 Fa) λIu Iv Iw Fc Af=>AHy<|AHy<|AJr AKj rfl (Aa.o2 p2) rfl Ac λIx Iy Iz Fd Fe=>AJe AMq rfl Af (λh' hb=>AIj Fe hb.ext) (AHy ?_);obtain ⟨I0,Cn,Ff⟩:=AH2 Fb;refine AJy (m:=Ap) ALs rfl (Aa.o2 p2) Fd Ac rfl Cn λI1 Fg=>?_;obtain ⟨I2,Co,Fh⟩:=(Aa.o2 p2).cells Fg Ac Cn;refine AZ0 (c:=cZ) AJz rfl Co Af (λh' hb j u hu=>AIj (Fh j u hu) hb.ext) (AHy<|AHy<|AJr AKj rfl (Aa.o2 p2) rfl Aj λI3 I6 I7 Fi Fj=>AJe AMq rfl Af (λh' hb=>AIj Fj hb.ext) (AHy ?_));obtain ⟨I9,Cp,Fk⟩:=AH2 Ff;refine AJy (m:=Ag) ALs rfl (Aa.o2 p2) Fi Aj rfl Cp λJa Fl=>?_;obtain ⟨Jc,Cq,Fm⟩:=(Aa.o2 p2).cells Fl Aj Cp;refine AZ0 (c:=cZ) AJz rfl Cq Af (λh' hb j u hu=>AIj (Fm j u hu) hb.ext) ?_;have Bf:=(Fc.az<|cZ.upT Co Af).az (cZ.upT Cq Af);obtain ⟨Je,Fo,Fp⟩:=AH2 Fk;refine AOi Bf Af (AYy (Bf.z p1).2 (Bf.z p0).2 Fo) λJf Jg Jh Bg Fq=>?_;obtain ⟨Ji,Ft,Fu⟩:=AH2 Fp;refine AOi Bg Fq (A4q (Bg.z p3).2 (Bg.z p0).2 Ft) λJj Jk Jl Ar Cr=>AW8 (Ar.z p8) Cr (Aa.b p0) ?_;obtain ⟨Jm,Fv,Fw⟩:=AH2 Fu;refine AOi Ar Cr (AQt (Ar.z p0).2 (Ar.z p8).2 Fv) λJn Jo Jp Ak Jq=>AJy (m:=Ap) ALs rfl (Aa.o2 p2) El Ac rfl Aq λJr Fx=>AN2 (m:=Ap) (Aaw AJz (cZ.klen<|Ak.z p0) rfl rfl (cZ.one<|Ak.z p0)) (Ak.o2 p10) Fx Ac Aq (Ak.z p0) λJs Fy Fz=>AIu<|q_b<|q_t<|AIf<|AHy<|AI0 rfl rfl (AH7 ?_);exact ⟨(_,_,_,_,_),(AH0 Fw).symm,(Ak.uO2 p10 Fz Fy).sel [8,9,10,11] AHz,rfl,trivial⟩
     ·refine AIq<|AIr<|AIr<|AJt<|q_b<|q_t<|AIf<|AHy<|AI0 rfl rfl (AH7 ?_);exact ⟨(_,_,_,_,_),(AH0<|Ej _ (AH0<|AJc Bb Bc).symm).symm,Aa,rfl,trivial⟩
    ·refine AIq<|AIr<|AIr<|AJt<|q_t<|AIf<|AHy<|AHy ?_;obtain ⟨Jt,Bh,F4⟩:=AH2<|Ei _ (AH0<|AJc A8 A9).symm;refine AKe AKj AMq (Ai.o2 p2) Bh λ_ Ju F5=>AHy ?_;obtain ⟨F6,Ct,F7⟩:=AH2 F4;refine AJy (m:=Ag) ALs rfl (Ai.o2 p2) F5 Bh rfl Ct λJv F8=>?_;obtain ⟨F9,Ga,Gb⟩:=(Ai.o2 p2).cells F8 Bh Ct;have Au:=Ai.az Ga;refine AW5 (c:=cZ) AJz rfl (Au.z p0) (λj u hu=>(Gb j u hu)) (AOv Au p1 (Au.z p2) (Au.z p0) λJw Gc=>AIu<|q_b<|q_t ?_);exact ⟨((Ec,Cf,Cg,Ch,Ci,F6,F9):(Bool) × (LiI) × LnA × LnN × LvA × (Int) × LvA),⟨AH0 F7,Gc.sel [1,0,3,4] AHz⟩,rfl,trivial⟩
  rintro ⟨Jx,Jy,Jz,J0,J1,J2,J3⟩ J4 J5 ⟨Gd,Ge⟩;subst Gd;refine AIf<|AHy<|AI0 rfl rfl (AH7 ?_);exact ⟨(_,_,_,_,_,_,_,_),(AH0 Bx).symm,Ge,rfl,rfl,trivial⟩
 ·refine AIq<|AIr<|AIr<|AJt<|q_t<|AH3<|AH1<|AHy<|AH5 ?_;have Cu:=Bw _ (AH0<|AJc Ax Ay).symm;refine ⟨_,rfl,λBi=>?_,λBi=>?_⟩
  ·refine AH1<|ATd (Ab.z p1) (Ab.b p0) ?_;obtain ⟨J6,Gf,Gg⟩:=AH2<|ifT Cu Bi;refine AWr Ab (Am7 (Ab.z p1).2 Gf) λJ7 Gh J8 Cv=>AOv Cv p4 (AIo Gh) (Cv.z p0) λJ9 Av=>AH5<|AIc<|AIt ?_;obtain rfl:=AH0 Gg;exact ⟨_,AKs AJz (cZ.klen<|Av.z p0) rfl (Av.b p4),Av.x,_,rfl,(Av.z p0).2⟩
  ·refine AIa<|q_t<|AH1<|ATd (Ab.z p1) (Ab.b p0)<|AOv Ab p3 (AIo Dc) (Ab.z p1) λKa Aw=>AH5<|AIc ?_;obtain rfl:=AH0<|AQa Cu Bi;exact ⟨_,AKs AJz (cZ.klen<|Aw.z p1) rfl (Aw.b p3),Aw.x,_,rfl,(Aw.z p1).2⟩
end Go.Proofs.YtegoafpaljeobaaGreatDoor
variable {a3:Go.Proofs.YtegoafpaljeobaaGreatDoor.LiI}
namespace Go.Proofs.YtegoafpaljeobaaGreatDoor
theorem Ax3 {m:Nat} {z:Int} (h:z=sgn na m):AOr z=1->z=m:=by
 cases na
 ·intro _;rw [h];rfl
 ·intro h1;rw [h] at h1 ⊢;unfold AOr sgn at h1;unfold sgn;simp at h1 ⊢;split at h1 <;> (try split at h1) <;> omega
theorem Ax4 {m:Nat} {z:Int} (h:z=sgn na m):AOr z= -1->z= -(m:Int):=by
 cases na
 ·intro h1;rw [h] at h1 ⊢;unfold AOr sgn at h1;unfold sgn;simp at h1 ⊢;split at h1 <;> (try split at h1) <;> omega
 ·intro _;rw [h];rfl
def Abw (a b:Int):Int:=if a < b then -1 else if a=b then 0 else 1
theorem Arm {a b:Int} (h:AOr a≠AOr b) (h2:AOr a < AOr b):Abw a b= -1:=by
 unfold AOr at h h2;unfold Abw;repeat' split at h2
 all_goals (rw [if_pos AHx])
theorem Arn {a b:Int} (h:AOr a≠AOr b) (h2: ¬ AOr a < AOr b):Abw a b=1:=by
 unfold AOr at h h2;unfold Abw
 rw [if_neg (by
  repeat' split at h2
  all_goals (repeat' split at h)
  all_goals omega),if_neg (by
   repeat' split at h2
   all_goals (repeat' split at h)
   all_goals omega)]
theorem Ana {nb:Bool} {m:Nat} {a b:Int} (ha:a=sgn na m) (hb:b=sgn nb k) (h:AOr a=AOr b):AOr a * AV3 m k=Abw a b:=by
 have h3:AOr a= -1∨AOr a=0∨AOr a=1:=by unfold AOr;split;exact .inl rfl;split;exact .inr<|.inl rfl;exact .inr<|.inr rfl
 rcases h3 with h1 | h1 | h1
 ·have e1:=Ax4 ha h1;have e2:=Ax4 hb<|h ▸ h1;rw [h1];unfold AV3 Abw;repeat' split
  all_goals omega
 ·have z:∀ x:Int,AOr x=0->x=0:=λx hx=>by unfold AOr at hx;repeat' split at hx;all_goals omega
  have e1:=z a h1;have e2:=z b<|h ▸ h1;rw [h1,e1,e2];simp [Abw]
 ·have e1:=Ax3 ha h1;have e2:=Ax3 hb<|h ▸ h1;rw [h1];unfold AV3 Abw;repeat' split
  all_goals omega
theorem A1r (a b:Nat): -1<=AV3 a b/\AV3 a b<=1:=by
 unfold AV3;repeat' split;all_goals omega
theorem A1s (a:Int): -1<=AOr a/\AOr a<=1:=by
 unfold AOr;repeat' split;all_goals omega
theorem A1t {y:Int} (hx: -1<=x/\x<=1) (hy: -1<=y/\y<=1):IntKind.i64.wrap (x * y)=x * y:=by
 obtain ⟨x1,x2⟩:=hx;obtain ⟨y1,y2⟩:=hy;have Aa:x= -1∨x=0∨x=1:=by omega
 have Ab:y= -1∨y=0∨y=1:=by omega
 rcases Aa with rfl | rfl | rfl <;> rcases Ab with rfl | rfl | rfl <;> decide
theorem A1u {lo:Nat} {va:Value} {z:Int} (HA:ZV h lo va z):AI7 Tryz.prog 140 #[va] h λx h'=>Ext h h'/\ZV h' (Array.size h) x (z.natAbs:Int):=by
 obtain ⟨na,sa,LA,rfl,HDa,htla,hla,hza⟩:=HA.out;have hna:LA.length<=1000000:=by omega
 have hba:nv LA < 4294967296 ^ 100:=Nat.lt_of_lt_of_le (AVx HDa.dig)<|Nat.pow_le_pow_right AHz hla;refine AJi (l:=[_]) mx Tryz.func140 rfl rfl rfl rfl rfl AIb (AH1<|AR0 [.bool na,sa] (λ_=>trivial) rfl rfl λAg h2 V3 E4 Ao Be=>?_);have Bf:Array.size h<=Ag:=Ao;have Bg:=E4.1;have Z8:=(Ext.refl h).trans E4;refine APa [.bool false,.slice none 0 0] ANt rfl (λ_=>trivial) λAa Bh Aq Ab Ar Bi=>?_;have Bj:Array.size h<=Aa:=Nat.le_trans E4.1 Ar;have nebq1bq9:Ag≠Aa:=by have:=V3.lt;omega
 have Bl:=Ab.1;have Au:=Z8.trans Ab;have Ai:=E4.trans Ab;have Av:=E4.trans Ab;refine AQs<|AOe (fs:=1) AUj AIb AHz rfl (AI1 AQb rfl ((V3.ext Ab).cell (i:=1) rfl) (AIz trivial rfl (AVd false (HDa.ext Ai) hna hba) λBm Bn hk=>?_));obtain ⟨Ac,Aw⟩:=hk;refine ⟨trivial,?_⟩;have Bo:=Ac.1;have Ax:=Au.trans Ac;have Ay:=Ai.trans Ac;have Az:=Av.trans Ac;have A3:=Aq.ext Ac;have A4:=Ab.trans Ac;obtain ⟨Aj,s3,L3,rfl,Am,A6,A7,A8⟩:=Aw.out;refine AKo [.bool Aj,s3] AJz rfl rfl rfl rfl (ARw Am.cap) A3 λBp A9 Ad=>?_;have Ba:=Ay.thenUpd Ad (λk hk=>by have Af:k=Aa:=hk;omega);have Bq:=Ad.1;have Br:=Ax.thenUpd Ad (λk hk=>by have Af:k=Aa:=hk;omega);have Bt:=A4.thenUpd Ad (λk hk=>by have Af:k=Aa:=hk;omega);have Bu:=Az.thenUpd Ad (λk hk=>by have Af:k=Aa:=hk;omega);have Bb:=Am.updLo Ad AHx;refine AH5<|AIc<|⟨_,AKs AJz rfl rfl A9,?_⟩;exact ⟨Ba,⟨Aj,s3,L3,rfl,Bb.mono AHx,A6,A7,by rw [<- A8,ANu hza];rfl⟩⟩
theorem A1v {la lb:Nat} {va vb:Value} {a b:Int} (HA:ZV h la va a) (HB:ZV h lb vb b):AI7 Tryz.prog 97 #[va,vb] h λx h'=>Ext h h'/\x= .int .i64 (Abw a b):=by
 obtain ⟨na,sa,LA,rfl,HDa,htla,hla,hza⟩:=HA.out;obtain ⟨nb,sb,LB,rfl,HDb,htlb,hlb,hzb⟩:=HB.out;refine AJi (l:=[_,_]) mx Tryz.func97 rfl rfl rfl rfl rfl AIb (AH1<|AR0 [.bool na,sa] (λ_=>trivial) rfl rfl λAq h2 V3 E4 A7 B4=>?_);have B5:Array.size h<=Aq:=A7;have B6:=E4.1;have Z8:=(Ext.refl h).trans E4;refine AR0 [.bool nb,sb] (λ_=>trivial) rfl rfl λAu Av Aw Ag A9 B7=>?_;have B8:Array.size h<=Au:=Nat.le_trans E4.1 A9;have nebq1bq9:Aq≠Au:=by have:=V3.lt;omega
 have B9:=Ag.1;have Ba:=Z8.trans Ag;have Ax:=E4.trans Ag;have Ay:=V3.ext Ag;have Bb:=E4.trans Ag;refine AH7<|AH3<|AKg (λh'=>Ext Av h') AIb ?_;have Af:=Ext.refl Av;refine AQr [.bool na,sa] AJz rfl rfl Af (λh' hb=>(Ay.ext hb).agg) (AIz Af rfl (Ad9<|HA.ext Ax) λCa Cb hk=>?_);obtain ⟨Ab,rfl⟩:=hk;have Ai:=Af.trans Ab;refine ⟨Ai,?_⟩;have Cd:=Ab.1;have Bc:=Ba.trans Ab;have Az:=Ax.trans Ab;have Be:=Ay.ext Ab;have Bf:=Bb.trans Ab;have Bg:=Aw.ext Ab;have Bh:=Ag.trans Ab;refine AQr [.bool nb,sb] AJz rfl rfl Ai (λh' hb=>(Aw.ext hb).agg) (AIz Ai rfl (Ad9<|HB.ext Az) λCe A3 hk=>?_);obtain ⟨Ac,rfl⟩:=hk;have Bi:=Ai.trans Ac;refine ⟨Bi,?_⟩;have Cf:=Ac.1;have Bj:=Bc.trans Ac;have Ad:=Az.trans Ac;have A4:=Be.ext Ac;have Bl:=Bf.trans Ac;have A5:=Bg.ext Ac;have Bm:=Bh.trans Ac;refine AIw<|AH7<|AH3<|AH1<|AHy<|AHy<|Aln rfl rfl (λBn=>?_) (λBn=>?_)
 ·refine AH5<|AI2 rfl (AH3<|AH1<|AHy<|AHy<|ANd rfl rfl (λBo=>?_) (λBo=>?_))
  ·refine AH5<|AI2 rfl (AH1<|AH7<|AIc<|AIt<|AIt<|⟨_,AId,?_⟩);first | exact ⟨Ad,congrArg (Value.int .i64) (by rw [Ak,Am];exact Ana hza hzb AHx)⟩ | exact ⟨Ad,congrArg (Value.int .i64) (Arm (by assumption)<|by assumption).symm⟩ | exact ⟨Ad,congrArg (Value.int .i64) (Arn (by assumption) AHx).symm⟩
  ·refine AH5<|AI6 rfl (AIa<|q_t<|AH1<|AH7<|AIc<|AIt<|⟨_,AId,?_⟩);first | exact ⟨Ad,congrArg (Value.int .i64) (by rw [Ak,Am];exact Ana hza hzb AHx)⟩ | exact ⟨Ad,congrArg (Value.int .i64) (Arm (by assumption)<|by assumption).symm⟩ | exact ⟨Ad,congrArg (Value.int .i64) (Arn (by assumption) AHx).symm⟩
 ·refine AH5<|AI6 rfl (AIa<|q_t<|AH3<|AKg (λh'=>Ext A3 h') AIb ?_);have Af:=Ext.refl A3;refine AHy<|AOe (fs:=1) AUj AIb AHz rfl (AJe AQb rfl Af (λh' hb=>(A4.ext hb).cell (i:=1) rfl) (AIz Af rfl (ARe (DS.ext HDa Ad) AHx) λCg Ch hk=>?_));obtain ⟨Ae,L1,Bp,Bq,Ak,Cj⟩:=hk;have Aj:=Af.trans Ae;refine ⟨Aj,?_⟩;have Ck:=Ae.1;have Br:=Bj.trans Ae;have A6:=Ad.trans Ae;have Bt:=A4.ext Ae;have Bu:=Bl.trans Ae;have Bv:=A5.ext Ae;have Bw:=Bm.trans Ae;refine AOe (fs:=1) AUj AIb AHz rfl (AJe AQb rfl Aj (λh' hb=>(A5.ext hb).cell (i:=1) rfl) (AIz Aj rfl (ARe (DS.ext HDb A6) AHx) λCm Bx hk=>?_));obtain ⟨Aa,L2,By,Bz,Am,Co⟩:=hk;have Ao:=Aj.trans Aa;refine ⟨Ao,?_⟩;have Cp:=Aa.1;have Cq:=Br.trans Aa;have Ap:=A6.trans Aa;have Cr:=Bt.ext Aa;have Ct:=Bu.trans Aa;have Cu:=Bv.ext Aa;have Cv:=Bw.trans Aa;have B2:=Bp.ext Aa;refine AIz Ao rfl (Ai4 B2 By Bq Bz AHx AHx) λCw Bx hk=>?_;obtain ⟨rfl,rfl⟩:=hk;refine ⟨Ao,?_⟩;refine APo rfl rfl ?_;rw [A1t (A1s _)<|A1r _ _];refine AH7<|AIc<|⟨_,AId,?_⟩;first | exact ⟨Ap,congrArg (Value.int .i64) (by rw [Ak,Am];exact Ana hza hzb AHx)⟩ | exact ⟨Ap,congrArg (Value.int .i64) (Arm (by assumption)<|by assumption).symm⟩ | exact ⟨Ap,congrArg (Value.int .i64) (Arn (by assumption) AHx).symm⟩
def Atb (fuel:Nat) (a:Int):Option Int:=some (a.natAbs:Int)
def Al1 (fuel:Nat) (a b:Int):Option Int:=some<|Abw a b
theorem Aro {u:Value} {a r:Int} (H1:ZZ h u a) (hp:Atb fuel a=some r):AI7 Tryz.prog 140 #[u] h (λx h'=>Ext h h'/\ ∃ (x0:Value),x=x0/\ZZ h' x0 r):=by
 cases hp;exact (A1u H1).mono λx h' hk=>⟨hk.1,x,rfl,hk.2.zz⟩
theorem Ake {u v:Value} {a b r:Int} (H1:ZZ h u a) (H2:ZZ h v b) (hp:Al1 fuel a b=some r):AI7 Tryz.prog 97 #[u,v] h (λx h'=>Ext h h'/\x= .int .i64 r):=by
 cases hp;exact A1v H1 H2
def AR3 (fuel:Nat) (a3:LiI) (Ab:Int) (Af:LiA) (Aa:Int) (Ac:LiI):Option ((Int × LiI) ⊕ ((LiI × Bool) ⊕ LiI)):=
 if Aa < (Af.length:Int) then (gI a3 Ab).bind λAg=>(gI Ag Aa).bind λAh=>(Am6 fuel Ah).bind λ(Ai,Aj)=>if (!Aj)=true then some (.inr<|.inl ([],false)) else (gI Ac Ab).bind λAd=>(gI Ad Aa).bind λAk=>some (.inl (w64<|Aa + 1,sI Ac Ab<|sI Ad Aa Ai)) else some<|.inr<|.inr Ac
def AR4 (fuel:Nat) (a3:LiI) (x5 x6 Aa:Int) (Ac:LiI):Option ((Int × LiI) ⊕ ((LiI × Bool) ⊕ LiI)):=
 if Aa < ((List.replicate (Int.toNat x5) ([]:List Int)).length:Int) then if 0<=x6/\x6<=100000000 then (gI Ac Aa).bind λAi=>(gI (sI Ac Aa<|List.replicate (Int.toNat x6) (0:Int)) Aa).bind λAf=>(iter (λs=>AR3 fuel a3 Aa Af s.1 s.2) fuel (0,sI Ac Aa<|List.replicate (Int.toNat x6) (0:Int))).bind (λex=>match ex with | .inl Ag=>(some<|.inr<|.inl Ag) | .inr Ah=>some<|.inl (w64<|Aa + 1,Ah)) else none else some<|.inr<|.inr Ac
def AOw (fuel:Nat) (a3:LiI):Option (LiI × Bool):=
 (ALf fuel a3).bind λ(x5,x6,x7)=>if (!x7)=true then some ([],false) else if 0<=x5/\x5<=100000000 then (iter (λs=>AR4 fuel a3 x5 x6 s.1 s.2) fuel (0,List.replicate (Int.toNat x5) ([]:List Int))).bind (λex=>match ex with | .inl Ae=>(some Ae) | .inr Af=>some (Af,true)) else none
theorem Aak {Aw:Value} {r:(LiI × Bool)} (H2:ANp cZ h Aw a3) (hp:AOw fuel a3=some r):AI7 Tryz.prog 56 #[Aw] h (λx h'=>Ext h h'/\ ∃ (x0:Value) (F0:List Nat) (Bg:List LnA) (Bh:List Value),x= .tuple #[x0,.bool r.2]/\ALl (cI .i64) 41 2 h' F0 Bg Bh x0 r.1/\Sp h' h.size [F0]):=by
 unfold AOw at hp;refine cwf (l:=[_]) Tryz.func56 rfl rfl (AH1<|AIw<|AJd<|AHy ?_);have K0:=Kst.k0 h;obtain ⟨⟨x5,x6,x7⟩,Bl,Ae⟩:=AH2 hp;dsimp only at Ae;refine ALx K0 (APt (H2.ext K0.x) Bl) λCu Cv A5=>AHy<|AJs rfl rfl (AJs rfl rfl (AJs rfl rfl (AIw<|AIw<|AH7<|AH3<|AH1<|AHy<|AMp rfl (AH5<|⟨_,rfl,λAf=>?_,λAf=>?_⟩))))
 ·refine AH1<|AIw<|AH7<|AIc<|AIt ?_;have Ag:=Kst.anil2 (cI .i64) 41 2 A5;obtain rfl:=AH0<|ifT Ae Af;exact ⟨_,AJu,Ag.x,_,_,_,_,rfl,(Ag.o2 p0),Ag.s.sel [0] AHz⟩
 ·refine AIa<|q_t<|AH1<|AHy ?_;obtain ⟨Bm,Bn⟩:=ifN<|AQa Ae Af;refine Aay (cI .i64) 2 AIk AU9 rfl trivial tt2 rfl rfl AHz Bm λBo Bp Bq A6 Cw Br Bt Bu=>AH7<|AH3<|AH1<|AHy ?_;have Ah:=A5.no2 Bt Bu Br;refine AJh AIk rfl (Ah.o2 p0).rd (AHy<|AH5<|AH6<|AOq 4611686018410614540 (λx:(Int) × (LiI) × LnA × LnN × LvA=>(x.1,x.2.1)) ((0,(List.replicate (Int.toNat x5) ([]:List Int)),Bo,Bp,Bq):(Int) × (LiI) × LnA × LnN × LvA) Bn (λx=>[(24,(.int .i64 x.1))]) (λx=>Ah.L.set 0<|aO2 (cI .i64) 41 2 x.2.2.1 x.2.2.2.1 x.2.2.2.2 A6 x.2.1) Ah ⟨rfl,trivial⟩ ?_);rintro ⟨Ab,Bv,Cx,A7,Bw⟩ Cy Cz C0 Ad Ai A8;unfold AR4 at Ai;refine AH1<|AI3 rfl rfl (AH5<|AH3<|⟨_,rfl,λAj=>?_,λAj=>?_⟩)
  ·refine AIa<|q_t<|AH3<|AH6<|AH1<|AHy<|AJd<|AHy<|AHy<|AHy ?_;obtain ⟨Bx,By⟩:=ifN<|AJb Ai Aj;refine AYw (c:=(cI .i64)) (a:=0) AIi ARy rfl rfl (λ_=>rfl) rfl trivial tt2 rfl rfl AHz Bx λA9 Bz C1 B2 B3 B4 B5=>?_;have Ac:=Ad.no B3 (ANs B4 B5) B2;obtain ⟨C3,Ba,B6⟩:=AH2 By;refine AJr AIk rfl (Ac.o2 p1) rfl Ba λB7 C4 B8 C5 C6=>Aax AIv (Ac.o2 p1) Ba B8 rfl rfl (Ac.o p0) (Ac.dj p0 p1 AHz) λC7 B9 Ca Cb=>AQs<|AHy<|AHy ?_;have Ak:=Ac.m2 p0 p1 AHz Ca B9 λz hz=> .inl<|Cb z hz;obtain ⟨C8,Bb,Cd⟩:=AH2 B6;refine AKe AIk AIv (Ak.o2 p1) Bb λ_ C9 Ce=>AJ8 AIi rfl ((Ak.o2 p1).rowI Ce Bb) (AHy<|AH5<|AH6 ?_);have Am:=Ak.sel [1] AHz;dsimp only [APr,AS0] at Am;refine AOq 2305842871774744076 (λx:(Int) × (LiI) × LnA × LnN × LvA=>(x.1,x.2.1)) ((0,(sI Bv Ab<|List.replicate (Int.toNat x6) (0:Int)),(B7 :: (A7.set (Int.toNat Ab) [A9]).flatten),(A7.set (Int.toNat Ab) [A9]),(Bw.set (Int.toNat Ab) Bz)):(Int) × (LiI) × LnA × LnN × LvA) Cd (λx=>[(37,(.int .i64 x.1))]) (λx=>Am.L.set 0<|aO2 (cI .i64) 41 2 x.2.2.1 x.2.2.2.1 x.2.2.2.2 A6 x.2.1) Am ⟨rfl,trivial⟩ ?_;rintro ⟨Da,Db,Dc,Dd,De⟩ Df Dg Dh Aa Ao Bc;unfold AR3 at Ao;refine AH1<|AI3 rfl rfl (AH5<|AH3<|⟨_,rfl,λAp=>?_,λAp=>?_⟩)
   ·refine AIa<|q_t<|AH3<|AH6<|AH1<|AHy<|AJd<|AHy<|AHy ?_;obtain ⟨Di,Cf,Cg⟩:=AH2<|AJb Ao Ap;refine ATc AKj AMq H2 Aa.x Cf λ_ Dj Ch=>AHy ?_;obtain ⟨Dk,Ci,Cj⟩:=AH2 Cg;refine AQi (c:=cZ) ALs rfl Ch rfl Ci λDl Do Dp Be Ck=>AW5 (c:=cZ) AJz rfl (Aa.zx Be) (λj u hu=>(AIj (Ck j u hu) Aa.x)) ?_;obtain ⟨⟨Dq,Dr⟩,Cm,Aq⟩:=AH2 Cj;dsimp only at Aq;refine ALx Aa (Ao5 (Aa.zx Be).2 Cm) λDs Dt Ar=>AHy<|AJs rfl rfl (AJs rfl rfl (AIw<|AH7<|AH3<|AH1<|AHy<|AMp rfl (AH5<|⟨_,rfl,λAu=>?_,λAu=>?_⟩)))
    ·refine AH1<|AIw<|AH7<|AIc<|AIt<|AKa<|AIt<|AIt<|AKa<|AKa<|AIt<|AIt<|AKa<|AIt ?_;have Av:=Kst.anil2 (cI .i64) 41 2 Ar;obtain rfl:=AH0<|A8 _ (AH0<|Bc _ (AH0<|ifT Aq Au).symm).symm;exact ⟨_,AJu,Av.x,_,_,_,_,rfl,(Av.o2 p0),Av.s.sel [0] AHz⟩
    ·refine AIa<|q_t<|AIf<|AHy<|AHy ?_;obtain ⟨Du,Bf,Cn⟩:=AH2<|AQa Aq Au;refine AKe AIk AIv (Ar.o2 p0) Bf λ_ Dv Co=>AHy<|AHy ?_;obtain ⟨Dw,Cp,Cq⟩:=AH2 Cn;refine AT0 (m:=Ab) Ar p0 AIi AIg Co Bf Cp (λ_=>rfl) λ_ Dx Cr=>AIu<|q_b<|q_t<|AIf<|AI0 rfl rfl (AHy<|AH5 ?_);exact ⟨(_,_,_,_,_),(AH0 Cq).symm,Cr,rfl,trivial⟩
   ·refine AIq<|AIr<|AIr<|AJt<|q_b<|q_t<|AIf<|AI0 rfl rfl (AHy<|AH5 ?_);exact ⟨(_,_,_,_,_),(AH0<|Bc _ (AH0<|AJc Ao Ap).symm).symm,Aa,rfl,trivial⟩
  ·refine AIq<|AIr<|AIr<|AJt<|q_t<|AH1<|AHy<|AIw<|AH7<|AIc ?_;obtain rfl:=AH0<|A8 _ (AH0<|AJc Ai Aj).symm;exact ⟨_,AJu,Ad.x,_,_,_,_,rfl,(Ad.o2 p0),Ad.s.sel [0] AHz⟩
def AQx (fuel:Nat) (Ad:LiI) (Aa:Int) (Ab:LiI):Option ((Int × LiI) ⊕ LiI):=
 if Aa < (Ad.length:Int) then (gI Ab Aa).bind λAc=>(AUx fuel 1).bind λAe=>(gI Ac Aa).bind λAf=>some (.inl (w64<|Aa + 1,sI Ab Aa<|sI Ac Aa Ae)) else some<|.inr Ab
def AMl (fuel:Nat) (a1:Int):Option (LiI × Bool):=
 ((if a1 < 1 then some (.inl ([],false)) else if 16 < a1 then some (.inl ([],false)) else some<|.inr ()):Option ((LiI × Bool) ⊕ Unit)).bind (λex=>match ex with | .inl Ac=>(some Ac) | .inr _=>(AL6 fuel a1 a1).bind λAb=>(iter (λs=>AQx fuel Ab s.1 s.2) fuel (0,Ab)).bind (λ(Ad:LiI)=>some (Ad,true)))
theorem AUz {r:(LiI × Bool)} (hp:AMl fuel a1=some r):AI7 Tryz.prog 54 #[(.int .i64 a1)] h (λx h'=>Ext h h'/\ ∃ (x0:Value) (F0:List Nat) (Az:List LnA) (A3:List Value),x= .tuple #[x0,.bool r.2]/\ALl cZ 127 81 h' F0 Az A3 x0 r.1/\Sp h' h.size [F0]):=by
 unfold AMl at hp;refine cwf (l:=[_]) Tryz.func54 rfl rfl (AH1<|AIw<|AH7 ?_);have K0:=Kst.k0 h;obtain ⟨A4,Au,Af⟩:=AH2 hp;refine ARb 4044 (λx:Unit=>[]) (λx h'=>(Sum.inr <| ())=A4/\Kst h h' (K0.L)) ?_ ?_
 ·refine AH1<|AHy<|AI3 rfl rfl (AHy ?_);by_cases Ad:a1 < 1
  ·rw [decide_eq_true Ad];refine AP2 8 true<|AIm rfl (AH5<|AI2 rfl (AH1<|AIw<|AH7 ?_));obtain rfl:=AH0<|ifT Au Ad;refine AIc<|AIt ?_;have Ag:=Kst.anil2 cZ 127 81 K0;obtain rfl:=AH0 Af;exact ⟨_,AJu,Ag.x,_,_,_,_,rfl,(Ag.o2 p0),Ag.s.sel [0] AHz⟩
  ·have Av:=ifF Au Ad;rw [decide_eq_false Ad];refine AIs 8 false<|AHy<|AIs 8 false<|APu rfl rfl (AIn rfl (AH5<|⟨_,rfl,λAh=>?_,λAh=>?_⟩))
   ·refine AH1<|AIw<|AH7 ?_;obtain rfl:=AH0<|AJb Av Ah;refine AIc<|AIt ?_;have Ai:=Kst.anil2 cZ 127 81 K0;obtain rfl:=AH0 Af;exact ⟨_,AJu,Ai.x,_,_,_,_,rfl,(Ai.o2 p0),Ai.s.sel [0] AHz⟩
   ·refine AIa<|q_t ?_;exact ⟨(():Unit),⟨AH0<|AJc Av Ah,K0⟩,trivial⟩
 rintro ⟨⟩ Bq Br ⟨A5,A6⟩;subst A5;refine AH1<|AHy<|AHy ?_;obtain ⟨A7,A8,A9⟩:=AH2 Af;refine AWs A6 (AP6 A8) λBa Bb Bc Be Bt Bu Aj=>AH7<|AH3<|AH1<|AHy<|AJh AKj rfl (Aj.o2 p0).rd (AHy<|AH5<|AH6<|AOq 268304416 (λx:(Int) × (LiI) × LnA × LnN × LvA=>(x.1,x.2.1)) ((0,A7,Ba,Bb,Bc):(Int) × (LiI) × LnA × LnN × LvA) A9 (λx=>[(17,(.int .i64 x.1))]) (λx=>Aj.L.set 0<|aO2 cZ 127 81 x.2.2.1 x.2.2.2.1 x.2.2.2.2 Be x.2.1) Aj ⟨rfl,trivial⟩ ?_);rintro ⟨Aw,Bv,Bw,Bx,By⟩ Bz Ak B2 Aa Am Bf;unfold AQx at Am;refine AH1<|AI3 rfl rfl (AH5<|AH3<|⟨_,rfl,λAo=>?_,λAo=>?_⟩)
 ·refine AIa<|q_t<|AH3<|AH6<|AH1<|AHy<|AH7<|AKg (λh'=>UpT [] Ak h') AIb ?_;have Ax:UpT [] Ak Ak:=UpT.start all_nil;refine AHy<|AHy ?_;obtain ⟨B3,Ap,Bg⟩:=AH2<|AJb Am Ao;refine AJr AKj rfl (Aa.o2 p0) rfl Ap λB4 B5 B6 Bh Bi=>AJe AMq rfl Ax (λh' hb=>AIj Bi hb.ext) (AHy ?_);obtain ⟨B7,Bj,Bl⟩:=AH2 Bg;refine AOi Aa Ax (ATb Bj) λB8 B9 Ca Ab Cb=>?_;obtain ⟨Cd,Ay,Bm⟩:=AH2 Bl;refine AJy (m:=Aw) ALs rfl (Aa.o2 p0) Bh Ap rfl Ay λCe Bn=>AN2 (m:=Aw) (Aaw AJz (cZ.klen<|Ab.z p0) rfl rfl (cZ.one<|Ab.z p0)) (Ab.o2 p1) Bn Ap Ay (Ab.z p0) λCf Bo Bp=>AIu<|q_b<|q_t<|AIf<|AI0 rfl rfl (AHy<|AH5 ?_);exact ⟨(_,_,_,_,_),(AH0 Bm).symm,(Ab.uO2 p1 Bp Bo).sel [1] AHz,rfl,trivial⟩
 ·refine AIq<|AIr<|AIr<|AJt<|q_t<|AH1<|AHy<|AIw<|AH7<|AIc ?_;obtain rfl:=AH0<|Bf _ (AH0<|AJc Am Ao).symm;exact ⟨_,AJu,Aa.x,_,_,_,_,rfl,(Aa.o2 p0),Aa.s.sel [0] AHz⟩
def AQc (fuel:Nat) (a3:LiI) (Ab:Int) (Af:LiA) (Aa:Int) (Ac:LiI):Option ((Int × LiI) ⊕ LiI):=
 if Aa < (Af.length:Int) then (gI Ac Aa).bind λAd=>(gI a3 Ab).bind λAg=>(gI Ag Aa).bind λAh=>(Aa0 fuel Ah).bind λAi=>(gI Ad Ab).bind λAj=>some (.inl (w64<|Aa + 1,sI Ac Aa<|sI Ad Ab Ai)) else some<|.inr Ac
def AQd (fuel:Nat) (a3:LiI) (Aa:Int) (Ac:LiI):Option ((Int × LiI) ⊕ LiI):=
 if Aa < (a3.length:Int) then (gI a3 Aa).bind λAd=>(iter (λs=>AQc fuel a3 Aa Ad s.1 s.2) fuel (0,Ac)).bind (λ(Ae:LiI)=>some<|.inl (w64<|Aa + 1,Ae)) else some<|.inr Ac
def AMa (fuel:Nat) (a3:LiI):Option (LiI × Bool):=
 (ALf fuel a3).bind λ(x5,x6,x7)=>if (!x7)=true then some ([],false) else (AL6 fuel x6 x5).bind λAe=>(iter (λs=>AQd fuel a3 s.1 s.2) fuel (0,Ae)).bind (λ(Af:LiI)=>some (Af,true))
theorem AUk {r:(LiI × Bool)} (H2:ANp cZ h Aq a3) (hp:AMa fuel a3=some r):AI7 Tryz.prog 112 #[Aq] h (λx h'=>Ext h h'/\ ∃ (x0:Value) (F0:List Nat) (A6:List LnA) (A7:List Value),x= .tuple #[x0,.bool r.2]/\ALl cZ 127 81 h' F0 A6 A7 x0 r.1/\Sp h' h.size [F0]):=by
 unfold AMa at hp;refine cwf (l:=[_]) Tryz.func112 rfl rfl (AH1<|AIw<|AJd<|AHy ?_);have K0:=Kst.k0 h;obtain ⟨⟨x5,x6,x7⟩,A8,Af⟩:=AH2 hp;dsimp only at Af;refine ALx K0 (APt (H2.ext K0.x) A8) λCd Ce Ax=>AHy<|AJs rfl rfl (AJs rfl rfl (AJs rfl rfl (AIw<|AIw<|AH7<|AH3<|AH1<|AHy<|AMp rfl (AH5<|⟨_,rfl,λAg=>?_,λAg=>?_⟩))))
 ·refine AH1<|AIw<|AH7<|AIc<|AIt ?_;have Ah:=Kst.anil2 cZ 127 81 Ax;obtain rfl:=AH0<|ifT Af Ag;exact ⟨_,AJu,Ah.x,_,_,_,_,rfl,(Ah.o2 p0),Ah.s.sel [0] AHz⟩
 ·refine AIa<|q_t<|AH1<|AHy<|AHy ?_;obtain ⟨A9,Ba,Bb⟩:=AH2<|AQa Af Ag;refine AWs Ax (AP6 Ba) λBc Be Bf Ay Cf Cg Az=>AH7<|AH3<|AH1<|AHy<|AJh AKj rfl H2 (AHy<|AH5<|AH6<|AOq 1125899898454784 (λx:(Int) × (LiI) × LnA × LnN × LvA=>(x.1,x.2.1)) ((0,A9,Bc,Be,Bf):(Int) × (LiI) × LnA × LnN × LvA) Bb (λx=>[(23,(.int .i64 x.1))]) (λx=>Az.L.set 0<|aO2 cZ 127 81 x.2.2.1 x.2.2.2.1 x.2.2.2.2 Ay x.2.1) Az ⟨rfl,trivial⟩ ?_);rintro ⟨Ch,Bg,Bh,Bi,Bj⟩ Ci Cj Ck Ab Ai Bl;unfold AQd at Ai;refine AH1<|AI3 rfl rfl (AH5<|AH3<|⟨_,rfl,λAj=>?_,λAj=>?_⟩)
  ·refine AIa<|q_t<|AH3<|AH6<|AH1<|AHy<|AJd<|AHy<|AHy ?_;obtain ⟨Cm,Bm,Bn⟩:=AH2<|AJb Ai Aj;refine ATc AKj AMq H2 Ab.x Bm λ_ Cn Bo=>AJ8 ALs rfl Bo (AHy<|AH5<|AH6<|AOq 562947805938176 (λx:(Int) × (LiI) × LnA × LnN × LvA=>(x.1,x.2.1)) ((0,Bg,Bh,Bi,Bj):(Int) × (LiI) × LnA × LnN × LvA) Bn (λx=>[(31,(.int .i64 x.1))]) (λx=>Ab.L.set 0<|aO2 cZ 127 81 x.2.2.1 x.2.2.2.1 x.2.2.2.2 Ay x.2.1) Ab ⟨rfl,trivial⟩ ?_);rintro ⟨A3,u64,Co,Cp,Cq⟩ Cr Ak Ct Aa Am Bp;unfold AQc at Am;refine AH1<|AI3 rfl rfl (AH5<|AH3<|⟨_,rfl,λAo=>?_,λAo=>?_⟩)
   ·refine AIa<|q_t<|AH3<|AH6<|AH1<|AHy<|AH7<|AKg (λh'=>UpT [] Ak h') AIb ?_;have Ae:UpT [] Ak Ak:=UpT.start all_nil;refine AHy<|AHy ?_;obtain ⟨Cu,Ap,Bq⟩:=AH2<|AJb Am Ao;refine AJr AKj rfl (Aa.o2 p0) rfl Ap λCv Cw Cx Br Bt=>AJe AMq rfl Ae (λh' hb=>AIj Bt hb.ext) (AHy<|AHy<|AHy ?_);obtain ⟨Cy,Bu,Bv⟩:=AH2 Bq;refine Ad7 AKj rfl H2 rfl Bu λCz C0 C1 Bw Bx=>AJe AMq rfl Ae (λh' hb=>AIj Bw<|Aa.x.trans hb.ext) (AHy ?_);obtain ⟨C3,By,Bz⟩:=AH2 Bv;refine AQi (c:=cZ) ALs rfl Bx rfl By λC4 C5 C6 A4 B2=>AZ0 (c:=cZ) AJz rfl A4 Ae (λh' hb j u hu=>AIj (B2 j u hu)<|Aa.x.trans hb.ext) ?_;obtain ⟨C7,B3,B4⟩:=AH2 Bz;refine AOi Aa Ae (Acw (Aa.zx A4).2 B3) λC8 C9 Da Ac Db=>?_;obtain ⟨Dc,A5,B5⟩:=AH2 B4;refine AJy (m:=A3) ALs rfl (Aa.o2 p0) Br Ap rfl A5 λDd B6=>AN2 (m:=A3) (Aaw AJz (cZ.klen<|Ac.z p0) rfl rfl (cZ.one<|Ac.z p0)) (Ac.o2 p1) B6 Ap A5 (Ac.z p0) λDe B7 B8=>AIu<|q_b<|q_t<|AIf<|AI0 rfl rfl (AHy<|AH5 ?_);exact ⟨(_,_,_,_,_),(AH0 B5).symm,(Ac.uO2 p1 B8 B7).sel [1] AHz,rfl,trivial⟩
   ·refine AIq<|AIr<|AIr<|AJt<|q_b<|q_t<|AIf<|AI0 rfl rfl (AHy<|AH5 ?_);exact ⟨(_,_,_,_,_),(AH0<|Bp _ (AH0<|AJc Am Ao).symm).symm,Aa,rfl,trivial⟩
  ·refine AIq<|AIr<|AIr<|AJt<|q_t<|AH1<|AHy<|AIw<|AH7<|AIc ?_;obtain rfl:=AH0<|Bl _ (AH0<|AJc Ai Aj).symm;exact ⟨_,AJu,Ab.x,_,_,_,_,rfl,(Ab.o2 p0),Ab.s.sel [0] AHz⟩
def AT6 (fuel:Nat) (a3 a7:LiA) (Aa Ac:Int):Option ((Int × Int) ⊕ Int):=
 if Aa < (a3.length:Int) then (gI a3 Aa).bind λAe=>(gI a7 Aa).bind λAf=>(Aaz fuel Ae Af).bind λAg=>(As7 fuel Ac Ag).bind λAh=>some (.inl (w64<|Aa + 1,Ah)) else some<|.inr Ac
def AQk (fuel:Nat) (a3 a7:LiA):Option Int:=
 (iter (λs=>AT6 fuel a3 a7 s.1 s.2) fuel (0,0)).bind (λ(Ac:Int)=>some Ac)
theorem Acz {a3:LiA} {a7:LiA} {r:Int} (H2:SlC cZ h Ai a3) (H6:SlC cZ h Ak a7) (hp:AQk fuel a3 a7=some r):AI7 Tryz.prog 147 #[Ai,Ak] h (λx h'=>Ext h h'/\ ∃ (x0:Value),x=x0/\ZZ h' x0 r):=by
 unfold AQk at hp;refine cwf (l:=[_,_]) Tryz.func147 rfl rfl (AH1<|ALm (Kst.k0 h) [.bool false,.slice none 0 0] ANt λb9 Bn Bo Ax=>AQs<|ALe (AW6 )<|ALm Ax [.bool false,.slice none 0 0] ANt λAy Aq Bp Az=>AOv Az p0 (AIo Aq) (AIo Aq) λA3 A4=>AH5<|AH3<|AH3 ?_);refine AIf<|AHy<|AJ8 ALs rfl H2 (AHy<|AH5<|AH6 ?_);have Ar:=A4.az<|AIo A3;refine AOq 33553472 (λx:(Int) × (Int) × LvA=>(x.1,x.2.1)) ((0,0,[Value.bool false,Value.slice none 0 0]):(Int) × (Int) × LvA) hp (λx=>[(10,(.int .i64 x.1))]) (λx=>(Ar.L.set 0<|aZ x.2.2 x.2.1).set 1 (aB 81 Ay x.2.2)) Ar ⟨rfl,trivial⟩ ?_;rintro ⟨Bq,Br,Bt⟩ Bu Ac Bv Aa Af A5;unfold AT6 at Af;refine AH1<|AI3 rfl rfl (AH5<|AH3<|⟨_,rfl,λAg=>?_,λAg=>?_⟩)
 ·refine AIa<|q_t<|AH3<|AH6<|AH1<|AHy<|AH7<|AKg (λh'=>UpT [] Ac h') AIb ?_;have Ad:UpT [] Ac Ac:=UpT.start all_nil;refine AW8 (Aa.z p0) Ad (Aa.b p1)<|AHy<|AHy ?_;obtain ⟨Bw,A6,A7⟩:=AH2<|AJb Af Ag;refine AQi (c:=cZ) ALs rfl H2 rfl A6 λBx By Bz Au A8=>AZ0 (c:=cZ) AJz rfl Au Ad (λh' hb j u hu=>AIj (A8 j u hu)<|Aa.x.trans hb.ext) (AHy<|AHy ?_);obtain ⟨B2,A9,Ba⟩:=AH2 A7;refine AQi (c:=cZ) ALs rfl H6 rfl A9 λB3 B4 B5 Av Bb=>AZ0 (c:=cZ) AJz rfl Av Ad (λh' hb j u hu=>AIj (Bb j u hu)<|Aa.x.trans hb.ext) ?_;obtain ⟨B6,Bc,Be⟩:=AH2 Ba;refine AOi Aa Ad (AYy (Aa.zx Au).2 (Aa.zx Av).2 Bc) λB7 B8 B9 Ah Bf=>?_;obtain ⟨Ca,Bg,Bh⟩:=AH2 Be;refine AOi Ah Bf (Ard (Ah.z p1).2 (Ah.z p0).2 Bg) λBi Cb Cd Ab Ce=>AKo Bi AJz (cZ.klen<|Ab.z p0) (cZ.klen<|Ab.z p2) rfl rfl (cZ.one<|Ab.z p0) (Ab.b p3) λCf Bj Bl=>AIu<|q_b<|q_t<|AIf<|AI0 rfl rfl (AHy<|AH5 ?_);exact ⟨(_,_,_),(AH0 Bh).symm,(Ab.sb p3 Bl Bj rfl).sel [0,3,4] AHz,rfl,trivial⟩
 ·refine AIq<|AIr<|AIr<|AJt<|q_t<|AH1<|ATd (Aa.z p0) (Aa.b p1)<|AOv Aa p2 (AIo Ac) (Aa.z p0) λCg Ae=>AH5<|AIc ?_;obtain rfl:=AH0<|A5 _ (AH0<|AJc Af Ag).symm;exact ⟨_,AKs AJz (cZ.klen<|Ae.z p0) rfl (Ae.b p2),Ae.x,_,rfl,(Ae.z p0).2⟩
def AT7 (fuel:Nat) (a3 Ad:LiI) (Ab Aa:Int) (Ac:LiI):Option ((Int × LiI) ⊕ LiI):=
 if Aa < (Ad.length:Int) then (gI Ac Ab).bind λAe=>(gI a3 Ab).bind λAg=>(gI Ad Aa).bind λAh=>(AQk fuel Ag Ah).bind λAi=>(gI Ae Aa).bind λAj=>some (.inl (w64<|Aa + 1,sI Ac Ab<|sI Ae Aa Ai)) else some<|.inr Ac
def AT8 (fuel:Nat) (a3 Ad:LiI) (Aa:Int) (Ac:LiI):Option ((Int × LiI) ⊕ LiI):=
 if Aa < (a3.length:Int) then (iter (λs=>AT7 fuel a3 Ad Aa s.1 s.2) fuel (0,Ac)).bind (λ(Ae:LiI)=>some<|.inl (w64<|Aa + 1,Ae)) else some<|.inr Ac
def AQl (fuel:Nat) (a3 a7:LiI):Option (LiI × Bool):=
 (ALf fuel a3).bind λ(x9,Ad,Ae)=>(AMa fuel a7).bind λ(Ac,Af)=>((if (!Ae)=true then some (.inl ([],false)) else if (!Af)=true then some (.inl ([],false)) else if ¬ (a7.length:Int)=Ad then some (.inl ([],false)) else some<|.inr ()):Option ((LiI × Bool) ⊕ Unit)).bind (λex=>match ex with | .inl Ag=>(some Ag) | .inr _=>(AL6 fuel (a3.length:Int) (Ac.length:Int)).bind λAh=>(iter (λs=>AT8 fuel a3 Ac s.1 s.2) fuel (0,Ah)).bind (λ(Ai:LiI)=>some (Ai,true)))
theorem Ac0 {Av:Value} {Ax:Value} {a7:LiI} {r:(LiI × Bool)} (H2:ANp cZ h Av a3) (H6:ANp cZ h Ax a7) (hp:AQl fuel a3 a7=some r):AI7 Tryz.prog 113 #[Av,Ax] h (λx h'=>Ext h h'/\ ∃ (x0:Value) (F0:List Nat) (Bm:List LnA) (Bn:List Value),x= .tuple #[x0,.bool r.2]/\ALl cZ 127 81 h' F0 Bm Bn x0 r.1/\Sp h' h.size [F0]):=by
 unfold AQl at hp;refine cwf (l:=[_,_]) Tryz.func113 rfl rfl (AH1<|AIw<|AJd<|AHy ?_);have K0:=Kst.k0 h;obtain ⟨⟨x9,Cx,Bo⟩,Bp,A6⟩:=AH2 hp;dsimp only at A6;refine ALx K0 (APt (H2.ext K0.x) Bp) λCy Cz A7=>AHy<|AJs rfl rfl (AJs rfl rfl (AJs rfl rfl (AIw<|AIw<|AJd<|AHy ?_)));obtain ⟨⟨C0,Bq⟩,Br,A8⟩:=AH2 A6;dsimp only at A8;refine ASt rfl (AUk (H6.ext A7.x) Br) λC1 C3 Bt Bu=>?_;obtain ⟨C4,C5,C6,C7,rfl,Bv,Bw⟩:=Bu;refine AHy<|AJs rfl rfl (AJs rfl rfl (AIw<|AH7 ?_));have Ac:=A7.no2 Bt Bw Bv;obtain ⟨Bx,A9,Af⟩:=AH2 A8;refine ARb 137405399088 (λx:Unit=>[]) (λx h'=>(Sum.inr <| ())=Bx/\Kst h h' (Ac.L)) ?_ ?_
 ·refine AH1<|AHy<|AMp rfl (AHy ?_);cases Ba:(!Bo)
  ·refine AIs 27 false<|AHy<|AIs 27 false<|AMp rfl (AIn rfl (AHy ?_));have Bb:=AQa A9 Ba;cases Bc:(!Bq)
   ·refine AIs 31 false<|AHy<|AIs 31 false<|AJh AKj rfl H6 (AIs 31 false<|AHy<|AIs 31 false<|AK0 rfl rfl (AIn rfl (AH5 ?_)));have Be:=AQa Bb Bc;refine ⟨_,rfl,λAh=>?_,λAh=>?_⟩
    ·refine AH1<|AIw<|AH7 ?_;obtain rfl:=AH0<|AJb Be Ah;refine AIc<|AIt ?_;have Ai:=Kst.anil2 cZ 127 81 Ac;obtain rfl:=AH0 Af;exact ⟨_,AJu,Ai.x,_,_,_,_,rfl,(Ai.o2 p0),Ai.s.sel [0] AHz⟩
    ·refine AIa<|q_t ?_;exact ⟨(():Unit),⟨AH0<|AJc Be Ah,Ac⟩,trivial⟩
   ·refine AUi 31 true<|AIm rfl (AH5<|AI2 rfl (AH1<|AIw<|AH7 ?_));obtain rfl:=AH0<|ifT Bb Bc;refine AIc<|AIt ?_;have Aj:=Kst.anil2 cZ 127 81 Ac;obtain rfl:=AH0 Af;exact ⟨_,AJu,Aj.x,_,_,_,_,rfl,(Aj.o2 p0),Aj.s.sel [0] AHz⟩
  ·refine AP2 27 true<|AIm rfl (AHy<|AUi 31 true<|AIm rfl (AH5<|AI2 rfl (AH1<|AIw<|AH7 ?_)));obtain rfl:=AH0<|ifT A9 Ba;refine AIc<|AIt ?_;have Ak:=Kst.anil2 cZ 127 81 Ac;obtain rfl:=AH0 Af;exact ⟨_,AJu,Ak.x,_,_,_,_,rfl,(Ak.o2 p0),Ak.s.sel [0] AHz⟩
 rintro ⟨⟩ C8 C9 ⟨By,Bf⟩;subst By;refine AH1<|AHy<|AJh AKj rfl H2 (AHy<|AJh AKj rfl (Bf.o2 p0).rd ?_);obtain ⟨Bz,B2,B3⟩:=AH2 Af;refine AWs Bf (AP6 B2) λB4 B5 B6 Bg Da Db Bh=>AH7<|AH3<|AH1<|AHy<|AJh AKj rfl H2 (AHy<|AH5<|AH6<|AOq 590295792766519619584 (λx:(Int) × (LiI) × LnA × LnN × LvA=>(x.1,x.2.1)) ((0,Bz,B4,B5,B6):(Int) × (LiI) × LnA × LnN × LvA) B3 (λx=>[(44,(.int .i64 x.1))]) (λx=>Bh.L.set 0<|aO2 cZ 127 81 x.2.2.1 x.2.2.2.1 x.2.2.2.2 Bg x.2.1) Bh ⟨rfl,trivial⟩ ?_);rintro ⟨Bi,B7,B8,B9,Ca⟩ Dc Dd De Ab Am Cb;unfold AT8 at Am;refine AH1<|AI3 rfl rfl (AH5<|AH3<|⟨_,rfl,λAo=>?_,λAo=>?_⟩)
 ·refine AIa<|q_t<|AH3<|AH6<|AH1<|AHy<|AJd<|AHy<|AJh AKj rfl (Ab.o2 p1).rd (AHy<|AH5<|AH6<|AOq 295147342229399412736 (λx:(Int) × (LiI) × LnA × LnN × LvA=>(x.1,x.2.1)) ((0,B7,B8,B9,Ca):(Int) × (LiI) × LnA × LnN × LvA) (AJb Am Ao) (λx=>[(49,(.int .i64 x.1))]) (λx=>Ab.L.set 0<|aO2 cZ 127 81 x.2.2.1 x.2.2.2.1 x.2.2.2.2 Bg x.2.1) Ab ⟨rfl,trivial⟩ ?_);rintro ⟨Df,Dg,Dh,Di,Dj⟩ Dk Ap Dl Aa Aq Cd;unfold AT7 at Aq;refine AH1<|AI3 rfl rfl (AH5<|AH3<|⟨_,rfl,λAr=>?_,λAr=>?_⟩)
  ·refine AIa<|q_t<|AH3<|AH6<|AH1<|AHy<|AH7<|AKg (λh'=>UpT [] Ap h') AIb ?_;have Ag:UpT [] Ap Ap:=UpT.start all_nil;refine AHy<|AHy ?_;obtain ⟨Do,Au,Ce⟩:=AH2<|AJb Aq Ar;refine AJr AKj rfl (Aa.o2 p0) rfl Au λDp Dq Dr Cf Cg=>AJe AMq rfl Ag (λh' hb=>AIj Cg hb.ext) (AHy<|AHy<|AHy ?_);obtain ⟨Ds,Ch,Ci⟩:=AH2 Ce;refine Ad7 AKj rfl H2 rfl Ch λDt Du Dv Cj Ck=>AJe AMq rfl Ag (λh' hb=>AIj Cj<|Aa.x.trans hb.ext) (AHy<|AHy ?_);obtain ⟨Dw,Bj,Cm⟩:=AH2 Ci;refine AJr AKj rfl (Aa.o2 p1) rfl Bj λDx Dy Dz Cn Co=>AJe AMq rfl Ag (λh' hb=>AIj Co hb.ext) ?_;obtain ⟨D0,Cp,Cq⟩:=AH2 Cm;refine AOi Aa Ag (Acz (Ck.ext Aa.x) ((Aa.o2 p1).rowI Cn Bj) Cp) λD3 D4 D5 Ad D6=>?_;obtain ⟨D7,Bl,Cr⟩:=AH2 Cq;refine AJy (m:=Bi) ALs rfl (Aa.o2 p0) Cf Au rfl Bl λD8 Ct=>AN2 (m:=Bi) (Aaw AJz (cZ.klen<|Ad.z p0) rfl rfl (cZ.one<|Ad.z p0)) (Ad.o2 p1) Ct Au Bl (Ad.z p0) λD9 Cu Cv=>AIu<|q_b<|q_t<|AIf<|AI0 rfl rfl (AHy<|AH5 ?_);exact ⟨(_,_,_,_,_),(AH0 Cr).symm,(Ad.uO2 p1 Cv Cu).sel [1,2] AHz,rfl,trivial⟩
  ·refine AIq<|AIr<|AIr<|AJt<|q_b<|q_t<|AIf<|AI0 rfl rfl (AHy<|AH5 ?_);exact ⟨(_,_,_,_,_),(AH0<|Cd _ (AH0<|AJc Aq Ar).symm).symm,Aa,rfl,trivial⟩
 ·refine AIq<|AIr<|AIr<|AJt<|q_t<|AH1<|AHy<|AIw<|AH7<|AIc ?_;obtain rfl:=AH0<|Cb _ (AH0<|AJc Am Ao).symm;exact ⟨_,AJu,Ab.x,_,_,_,_,rfl,(Ab.o2 p0),Ab.s.sel [0] AHz⟩
def AKt (fuel:Nat) (a3 a7:LiI):Option LiI:=
 (AQl fuel a3 a7).bind λ(x9,Ad)=>some x9
theorem ARf {a7 r:LiI} (H2:ANp cZ h Ac a3) (H6:ANp cZ h Ae a7) (hp:AKt fuel a3 a7=some r):AI7 Tryz.prog 58 #[Ac,Ae] h (λx h'=>Ext h h'/\ ∃ (x0:Value) (F0:List Nat) (Am:List LnA) (Ao:List Value),x=x0/\ALl cZ 127 81 h' F0 Am Ao x0 r/\Sp h' h.size [F0]):=by
 unfold AKt at hp;refine cwf (l:=[_,_]) Tryz.func58 rfl rfl (AH1<|AJd<|AHy<|AHy ?_);have K0:=Kst.k0 h;obtain ⟨⟨x9,Ax⟩,Ap,Ai⟩:=AH2 hp;dsimp only at Ai;refine ASt rfl (Ac0 (H2.ext K0.x) (H6.ext K0.x) Ap) λAy Az Aq Ar=>?_;obtain ⟨A3,A4,A5,A6,rfl,Au,Av⟩:=Ar;refine AHy<|AJs rfl rfl (AJs rfl rfl (AIw<|AJd<|AHy<|AH7<|AIc ?_));have Ab:=K0.no2 Aq Av Au;obtain rfl:=AH0 Ai;exact ⟨_,AId,Ab.x,_,_,_,_,rfl,(Ab.o2 p0),Ab.s.sel [0] AHz⟩
def ASu (fuel:Nat) (a1:Int) (Aa:LiA) (Ab:Int):Option ((LiA × Int) ⊕ LiA):=
 if Ab < a1 then if Aa.length<=100000000 then some (.inl (Aa ++ [Ab],w64<|Ab + 1)) else none else some<|.inr Aa
def ANw (fuel:Nat) (a1 a2:Int):Option LiA:=
 (iter (λs=>ASu fuel a1 s.1 s.2) fuel ([],0)).bind (λ(Aa:LiA)=>if Aa.length<=100000000 then some (Aa ++ [a2]) else none)
theorem AWa {r:LiA} (hp:ANw fuel a1 a2=some r):AI7 Tryz.prog 139 #[(.int .i64 a1),(.int .i64 a2)] h (λx h'=>Ext h h'/\ ∃ (x0:Value) (F0:List Nat),x=x0/\OwC (cI .i64) 3 h' F0 x0 r/\Sp h' h.size [F0]):=by
 unfold ANw at hp;refine cwf (l:=[_,_]) Tryz.func139 rfl rfl (AH1<|AJd<|AH7<|AH3<|AH1<|AH7<|AH6 ?_);have K4:=Kst.anil (cI .i64) 3<|Kst.k0 h;refine AOq 65504 (λx:(LiA) × (Value) × LnA × (Int)=>(x.1,x.2.2.2)) (([],(.slice none 0 0),[],0):(LiA) × (Value) × LnA × (Int)) hp (λx=>[(5,x.2.1),(6,(.int .i64 x.2.2.2))]) (λx=>K4.L.set 0<|aO (cI .i64) 3 x.2.2.1 x.2.1 x.1) K4 ⟨rfl,rfl,trivial⟩ ?_;rintro ⟨Az,A3,A4,Aj⟩ A5 h9 y8 Ab Ac Ak;unfold ASu at Ac;refine AH3<|AH1<|AHy<|AHy<|AI3 rfl rfl (AH5<|⟨_,rfl,λAd=>?_,λAd=>?_⟩)
 ·refine AIa<|q_t<|AH3<|AH6<|AIf<|AHy<|AHy ?_;obtain ⟨Am,Ao⟩:=ifN<|AJb Ac Ad;refine ASg Afk Afx rfl rfl trivial tt2 (λ_=>rfl) rfl (show ((cI .i64)).rep _ Aj [(.int .i64 Aj)] from rfl) (Ab.o p0) AHz Am λA8 A9 Ba Bb Ap Aq Ar=>AIw<|AIu<|q_b<|q_t<|AIf<|AHy<|AI0 rfl rfl (AH7 ?_);exact ⟨(_,_,_,_),(AH0 Ao).symm,(Ab.uo p0 Aq Ap Ar),rfl,rfl,trivial⟩
 ·refine AIq<|AIr<|AIr<|AJt<|q_t<|AH1<|AHy<|AHy ?_;obtain ⟨Au,Av⟩:=ifN<|Ak _ (AH0<|AJc Ac Ad).symm;refine ASg Afk Afx rfl rfl trivial tt2 (λ_=>rfl) rfl (show ((cI .i64)).rep _ a2 [(.int .i64 a2)] from rfl) (Ab.o p0) AHz Au λBc Be Bf Bg Aw Ax Ay=>AH7<|AIc ?_;have Ae:=Ab.uo p0 Ax Aw Ay;obtain rfl:=AH0 Av;exact ⟨_,AId,Ae.x,_,_,rfl,(Ae.o p0),Ae.s.sel [0] AHz⟩
def ARg (fuel:Nat) (a3:LiI) (x5:Int) (Ab:LiA) (Aa:Int):Option ((LiA × Int) ⊕ LiA):=
 if Aa < x5 then (ANw fuel Aa Aa).bind λAe=>(ANw fuel Aa Aa).bind λAf=>(ANh fuel a3 Ae Af).bind λAg=>(AKb fuel Ag).bind λAh=>if Ab.length<=100000000 then some (.inl (Ab ++ [Ah],w64<|Aa + 1)) else none else some<|.inr Ab
def AMz (fuel:Nat) (a3:LiI):Option (LiA × Bool):=
 (ANg fuel a3).bind λ(x5,x6)=>if (!x6)=true then some ([],false) else (iter (λs=>ARg fuel a3 x5 s.1 s.2) fuel ([],0)).bind (λ(Ad:LiA)=>some (Ad,true))
theorem AVe {r:(LiA × Bool)} (H2:ANp cZ h Ai a3) (hp:AMz fuel a3=some r):AI7 Tryz.prog 102 #[Ai] h (λx h'=>Ext h h'/\ ∃ (x0:Value) (F0:List Nat),x= .tuple #[x0,.bool r.2]/\OwC cZ 81 h' F0 x0 r.1/\Sp h' h.size [F0]):=by
 unfold AMz at hp;refine cwf (l:=[_]) Tryz.func102 rfl rfl (AH1<|AIw<|AJd<|AHy ?_);have K0:=Kst.k0 h;obtain ⟨⟨x5,x6⟩,Av,Ac⟩:=AH2 hp;dsimp only at Ac;refine ALx K0 (AVz (H2.ext K0.x) Av) λBh E9 Aq=>AHy<|AJs rfl rfl (AJs rfl rfl (AIw<|AH7<|AH3<|AH1<|AHy<|AMp rfl (AH5<|⟨_,rfl,λAd=>?_,λAd=>?_⟩)))
 ·refine AH1<|AIw<|AH7<|AIc<|AIt ?_;have Ae:=Kst.anil cZ 81 Aq;obtain rfl:=AH0<|ifT Ac Ad;exact ⟨_,AJu,Ae.x,_,_,rfl,(Ae.o p0),Ae.s.sel [0] AHz⟩
 ·refine AIa<|q_t<|AH1<|AH7<|AH3<|AH1<|AH7<|AH6 ?_;have Ar:=Kst.anil cZ 81 Aq;refine AOq 4294934720 (λx:(LiA) × (Value) × LnA × (Int)=>(x.1,x.2.2.2)) (([],(.slice none 0 0),[],0):(LiA) × (Value) × LnA × (Int)) (AQa Ac Ad) (λx=>[(6,x.2.1),(7,(.int .i64 x.2.2.2))]) (λx=>Ar.L.set 0<|aO cZ 81 x.2.2.1 x.2.1 x.1) Ar ⟨rfl,rfl,trivial⟩ ?_;rintro ⟨Bj,Bl,Bm,u32⟩ Bn Bo Bp Aa Af Aw;unfold ARg at Af;refine AH3<|AH1<|AHy<|AHy<|AI3 rfl rfl (AH5<|⟨_,rfl,λAg=>?_,λAg=>?_⟩)
  ·refine AIa<|q_t<|AH3<|AH6<|AIf<|AHy<|AHy<|AHy<|AHy ?_;obtain ⟨Bq,Ax,Ay⟩:=AH2<|AJb Af Ag;refine A7i Aa (AWa Ax) λBr Bt Bu Bv Az=>AHy<|AHy ?_;obtain ⟨Bw,A3,A4⟩:=AH2 Ay;refine A7i Az (AWa A3) λBx By Bz B2 Ab=>?_;obtain ⟨B3,A5,A6⟩:=AH2 A4;refine AWs Ab (AV0 (H2.ext Ab.x) (Ab.o p1).rd (Ab.o p0).rd A5) λB4 B5 B6 B7 B8 B9 Au=>?_;obtain ⟨Ca,A7,A8⟩:=AH2 A6;refine AWr Au (ALy (Au.o2 p0).rd A7) λCb Cd Ce Ah=>?_;obtain ⟨A9,Ba⟩:=ifN A8;refine ASg ALs ANt rfl rfl trivial tt2 (λ_=>rfl) rfl (Ah.z p0) (Ah.o p4) AHz A9 λCf Cg Ch Ci Bb Bc Be=>AIw<|AIu<|q_b<|q_t<|AIf<|AHy<|AI0 rfl rfl (AH7 ?_);exact ⟨(_,_,_,_),(AH0 Ba).symm,(Ah.uo p4 Bc Bb Be).sel [4] AHz,rfl,rfl,trivial⟩
  ·refine AIq<|AIr<|AIr<|AJt<|q_t<|AH1<|AHy<|AIw<|AH7<|AIc ?_;obtain rfl:=AH0<|Aw _ (AH0<|AJc Af Ag).symm;exact ⟨_,AJu,Aa.x,_,_,rfl,(Aa.o p0),Aa.s.sel [0] AHz⟩
def AQe (fuel:Nat) (a3:LiI) (Ab Aa:Int):Option (Int ⊕ (Bool ⊕ Unit)):=
 if Aa < Ab then (gI a3 Ab).bind λAd=>(gI Ad Aa).bind λAe=>(gI a3 Aa).bind λAf=>(gI Af Ab).bind λAg=>(Al1 fuel Ae Ag).bind λAh=>if ¬ Ah=0 then some (.inr<|.inl false) else some (.inl<|w64<|Aa + 1) else some<|.inr<|.inr ()
def AQf (fuel:Nat) (a3:LiI) (Aa:Int):Option (Int ⊕ (Bool ⊕ Unit)):=
 if Aa < (a3.length:Int) then (iter (λs=>AQe fuel a3 Aa s) fuel 0).bind (λex=>match ex with | .inl Ac=>(some<|.inr<|.inl Ac) | .inr _=>some<|.inl<|w64<|Aa + 1) else some<|.inr<|.inr ()
def AMb (fuel:Nat) (a3:LiI):Option Bool:=
 (iter (λs=>AQf fuel a3 s) fuel 0).bind (λex=>match ex with | .inl Ab=>(some Ab) | .inr _=>some true)
theorem AUl {r:Bool} (H2:ANp cZ h Ai a3) (hp:AMb fuel a3=some r):AI7 Tryz.prog 95 #[Ai] h (λx h'=>Ext h h'/\x= .bool r):=by
 unfold AMb at hp;refine cwf (l:=[_]) Tryz.func95 rfl rfl (AH1<|AH7<|AH3<|AH1<|AHy<|AJh AKj rfl H2 (AHy<|AH5<|AH6 ?_));have K0:=Kst.k0 h;refine APb 4294967196 hp (λx=>[(7,(.int .i64 x))]) (λx=>K0.L) K0 ⟨rfl,trivial⟩ ?_;rintro Bb Bc h8 y7 Ac Ad Am;unfold AQf at Ad;refine AH1<|AI3 rfl rfl (AH5<|AH3<|⟨_,rfl,λAe=>?_,λAe=>?_⟩)
 ·refine AIa<|q_t<|AH3<|AH6<|AH1<|AHy<|AJd<|AH7<|AH6<|APb 2147482644 (AJb Ad Ae) (λx=>[(4,(.int .i64 x))]) (λx=>Ac.L) Ac ⟨rfl,trivial⟩ ?_;rintro Bg Bh Bi Bj Aa Af Ao;unfold AQe at Af;refine AH3<|AH1<|AHy<|AHy<|AI3 rfl rfl (AH5<|⟨_,rfl,λAg=>?_,λAg=>?_⟩)
  ·refine AIa<|q_t<|AH3<|AH6<|AH3<|AMw<|AHy<|AHy ?_;obtain ⟨Bl,Av,Aw⟩:=AH2<|AJb Af Ag;refine ATc AKj AMq H2 Aa.x Av λ_ Bm Ax=>AHy ?_;obtain ⟨Bn,Ay,Az⟩:=AH2 Aw;refine AQi (c:=cZ) ALs rfl Ax rfl Ay λBo Bp Bq Ap A3=>AW5 (c:=cZ) AJz rfl (Aa.zx Ap) (λj u hu=>(AIj (A3 j u hu) Aa.x)) (AHy<|AHy ?_);obtain ⟨Br,A4,A5⟩:=AH2 Az;refine ATc AKj AMq H2 Aa.x A4 λ_ Bt A6=>AHy ?_;obtain ⟨Bu,A7,A8⟩:=AH2 A5;refine AQi (c:=cZ) ALs rfl A6 rfl A7 λBv Bw Bx Aq A9=>AW5 (c:=cZ) AJz rfl (Aa.zx Aq) (λj u hu=>(AIj (A9 j u hu) Aa.x)) ?_;obtain ⟨By,Ba,Ar⟩:=AH2 A8;refine ALx Aa (Ake (Aa.zx Ap).2 (Aa.zx Aq).2 Ba) λBz B2 Au=>AK0 rfl rfl (AH5<|⟨_,rfl,λAh=>?_,λAh=>?_⟩)
   ·refine AH1<|AH7<|AIc<|AKa<|AIt<|AIt<|AKa<|AKa<|AIt<|AIt<|AKa<|AIt ?_;obtain rfl:=AH0<|Am _ (AH0<|Ao _ (AH0<|AJb Ar Ah).symm).symm;exact ⟨_,AId,Au.x,rfl⟩
   ·refine AIa<|q_b<|q_t<|AIf<|AHy<|AI0 rfl rfl (AH7 ?_);exact ⟨_,(AH0<|AJc Ar Ah).symm,Au,rfl,trivial⟩
  ·refine AIq<|AIr<|AIr<|AJt<|q_b<|q_t<|AIf<|AI0 rfl rfl (AHy<|AH5 ?_);exact ⟨_,(AH0<|Ao _ (AH0<|AJc Af Ag).symm).symm,Aa,rfl,trivial⟩
 ·refine AIq<|AIr<|AIr<|AJt<|q_t<|AH1<|AH7<|AIc ?_;obtain rfl:=AH0<|Am _ (AH0<|AJc Ad Ae).symm;exact ⟨_,AId,Ac.x,rfl⟩
def AQy (fuel:Nat) (x5:LiA) (Aa:Int):Option (Int ⊕ (Bool ⊕ Unit)):=
 if Aa < (x5.length:Int) then (gI x5 Aa).bind λAc=>(Ahq fuel Ac).bind λAd=>if Ad<=0 then some (.inr<|.inl false) else some (.inl<|w64<|Aa + 1) else some<|.inr<|.inr ()
def AN4 (fuel:Nat) (a3:LiI):Option Bool:=
 (AMz fuel a3).bind λ(x5,x6)=>((if (!x6)=true then some (.inl false) else (AMb fuel a3).bind λAd=>if (!Ad)=true then some (.inl false) else some<|.inr ()):Option (Bool ⊕ Unit)).bind (λex=>match ex with | .inl Ae=>(some Ae) | .inr _=>(iter (λs=>AQy fuel x5 s) fuel 0).bind (λex=>match ex with | .inl Af=>(some Af) | .inr _=>some true))
theorem AZd {Aj:Value} {r:Bool} (H2:ANp cZ h Aj a3) (hp:AN4 fuel a3=some r):AI7 Tryz.prog 96 #[Aj] h (λx h'=>Ext h h'/\x= .bool r):=by
 unfold AN4 at hp;refine cwf (l:=[_]) Tryz.func96 rfl rfl (AH1<|AJd<|AHy ?_);have K0:=Kst.k0 h;obtain ⟨⟨x5,x6⟩,A6,Ap⟩:=AH2 hp;dsimp only at Ap;refine ASt rfl (AVe (H2.ext K0.x) A6) λBn Bo E9 A8=>?_;obtain ⟨Bp,Bq,rfl,A9,Ba⟩:=A8;refine AHy<|AJs rfl rfl (AJs rfl rfl (AIw<|AH7 ?_));have Aa:=K0.no E9 Ba A9;obtain ⟨Bb,Aq,Ad⟩:=AH2 Ap;refine ARb 520196 (λx:Unit=>[]) (λx h'=>(Sum.inr <| ())=Bb/\Kst h h' (Aa.L)) ?_ ?_
 ·refine AH1<|AHy<|AMp rfl (AHy ?_);cases Ar:(!x6)
  ·refine AIs 14 false<|AHy<|AIs 14 false ?_;obtain ⟨Br,Bc,Au⟩:=AH2<|AQa Aq Ar;refine ALx Aa (AUl (H2.ext Aa.x) Bc) λBt Bu Av=>AIs 14 false<|AMp rfl (AIn rfl (AH5<|⟨_,rfl,λAe=>?_,λAe=>?_⟩))
   ·refine AH1<|AH7 ?_;obtain rfl:=AH0<|ifT Au Ae;refine AIc<|AIt ?_;obtain rfl:=AH0 Ad;exact ⟨_,AId,Av.x,rfl⟩
   ·refine AIa<|q_t ?_;exact ⟨(():Unit),⟨AH0<|AQa Au Ae,Av⟩,trivial⟩
  ·refine ANe 14 true<|AIm rfl (AH5<|AI2 rfl (AH1<|AH7 ?_));obtain rfl:=AH0<|ifT Aq Ar;refine AIc<|AIt ?_;obtain rfl:=AH0 Ad;exact ⟨_,AId,Aa.x,rfl⟩
 rintro ⟨⟩ Bv Bw ⟨Be,Af⟩;subst Be;refine AH3<|AH1<|AHy<|AJ8 ALs rfl (Af.o p0).rd (AHy<|AH5<|AH6<|APb 534773828 Ad (λx=>[(21,(.int .i64 x))]) (λx=>Af.L) Af ⟨rfl,trivial⟩ ?_);rintro Bx By Bz B2 Ab Ag Aw;unfold AQy at Ag;refine AH1<|AI3 rfl rfl (AH5<|AH3<|⟨_,rfl,λAh=>?_,λAh=>?_⟩)
 ·refine AIa<|q_t<|AH3<|AH6<|AH1 ?_;obtain ⟨B3,Ax,Bf⟩:=AH2<|AJb Ag Ah;refine Afn ALs rfl (Ab.o p0) rfl Ax λB4 Bg=>?_;obtain ⟨B5,Bh,Bi⟩:=(Ab.o p0).cells Bg Ax;have Ay:=Ab.az Bh;refine AW5 (c:=cZ) AJz rfl (Ay.z p0) (λj u hu=>(Bi j u hu)) (ALm Ay [.bool false,.slice none 0 0] ANt λB6 Bj B7 Az=>AOv Az p0 (AIo Bj) (Az.z p1) λB8 Ac=>AQs<|ATd (Ac.z p1) (Ac.b p0) ?_);obtain ⟨B9,Bl,A3⟩:=AH2 Bf;refine ALx Ac (Agq (Ac.z p1).2 Bl) λCa Cb A4=>Aho rfl rfl (AH5<|⟨_,rfl,λAi=>?_,λAi=>?_⟩)
  ·refine AH1<|AH7<|AIc<|AKa<|AIt<|AIt<|AKa<|AIt ?_;obtain rfl:=AH0<|Aw _ (AH0<|AJb A3 Ai).symm;exact ⟨_,AId,A4.x,rfl⟩
  ·refine AIa<|q_b<|q_t<|AIf<|AI0 rfl rfl (AHy<|AH5 ?_);exact ⟨_,(AH0<|AJc A3 Ai).symm,A4.sel [2] AHz,rfl,trivial⟩
 ·refine AIq<|AIr<|AIr<|AJt<|q_t<|AH1<|AH7<|AIc ?_;obtain rfl:=AH0<|Aw _ (AH0<|AJc Ag Ah).symm;exact ⟨_,AId,Ab.x,rfl⟩
def AMm (fuel:Nat) (a3:LiI):Option Int:=
 (ANg fuel a3).bind λ(x5,x6)=>if (!x6)=true then some 3 else if 8 < x5 then some 3 else (AMb fuel a3).bind λAd=>if (!Ad)=true then some 4 else (AN4 fuel a3).bind λAe=>if (!Ae)=true then some 5 else some 0
theorem AU0 {r:Int} (H2:ANp cZ h Ah a3) (hp:AMm fuel a3=some r):AI7 Tryz.prog 51 #[Ah] h (λx h'=>Ext h h'/\x= .int .i64 r):=by
 unfold AMm at hp;refine cwf (l:=[_]) Tryz.func51 rfl rfl (AH1<|AJd<|AHy ?_);have K0:=Kst.k0 h;obtain ⟨⟨x5,x6⟩,Au,Ac⟩:=AH2 hp;dsimp only at Ac;refine ALx K0 (AVz (H2.ext K0.x) Au) λAy E9 Aa=>AHy<|AJs rfl rfl (AJs rfl rfl (AIw<|AH7<|AH3<|AH6<|AH1<|AHy<|AMp rfl (AHy ?_)));cases Ak:(!x6)
 ·refine AIs 13 false<|AHy<|AIs 13 false<|APu rfl rfl (AIn rfl (AH7 ?_));have Am:=AQa Ac Ak;refine ⟨_,rfl,λAd=>?_,λAd=>?_⟩
  ·refine AH1<|AH7<|AIc<|AKa<|AIt ?_;obtain rfl:=AH0<|AJb Am Ad;exact ⟨_,AId,Aa.x,rfl⟩
  ·refine AH1<|AHy ?_;obtain ⟨A3,Av,Ao⟩:=AH2<|AJc Am Ad;refine ALx Aa (AUl (H2.ext Aa.x) Av) λA4 A5 Ae=>AMp rfl (AH7<|⟨_,rfl,λAf=>?_,λAf=>?_⟩)
   ·refine AH1<|AH7<|AIc<|AKa<|AIt ?_;obtain rfl:=AH0<|ifT Ao Af;exact ⟨_,AId,Ae.x,rfl⟩
   ·refine AH1<|AHy ?_;obtain ⟨A6,Aw,Ap⟩:=AH2<|AQa Ao Af;refine ALx Ae (AZd (H2.ext Ae.x) Aw) λA7 A8 Aq=>AMp rfl (AH7<|⟨_,rfl,λAg=>?_,λAg=>?_⟩)
    ·refine AH1<|AH7<|AIc<|AKa<|AIt ?_;obtain rfl:=AH0<|ifT Ap Ag;exact ⟨_,AId,Aq.x,rfl⟩
    ·refine AIa<|q_b<|q_t<|AH1<|AH7<|AIc ?_;obtain rfl:=AH0<|AQa Ap Ag;exact ⟨_,AId,Aq.x,rfl⟩
 ·refine AP2 13 true<|AIm rfl (AH7<|AI2 rfl (AH1<|AH7<|AIc<|AKa<|AIt ?_));obtain rfl:=AH0<|ifT Ac Ak;exact ⟨_,AId,Aa.x,rfl⟩
def ALk (fuel:Nat) (a3 a7:LiI):Option LiI:=
 (AMa fuel a7).bind λ(x9,Af)=>(AKt fuel x9 a3).bind λAd=>(AKt fuel Ad a7).bind λAe=>some Ae
theorem AUm {a7 r:LiI} (H2:ANp cZ h Ad a3) (H6:ANp cZ h Af a7) (hp:ALk fuel a3 a7=some r):AI7 Tryz.prog 57 #[Ad,Af] h (λx h'=>Ext h h'/\ ∃ (x0:Value) (F0:List Nat) (Ap:List LnA) (Aq:List Value),x=x0/\ALl cZ 127 81 h' F0 Ap Aq x0 r/\Sp h' h.size [F0]):=by
 unfold ALk at hp;refine cwf (l:=[_,_]) Tryz.func57 rfl rfl (AH1<|AJd<|AHy ?_);have K0:=Kst.k0 h;obtain ⟨⟨x9,A6⟩,Ar,Am⟩:=AH2 hp;dsimp only at Am;refine ASt rfl (AUk (H6.ext K0.x) Ar) λA7 A8 Au Av=>?_;obtain ⟨A9,Ba,Bb,Bc,rfl,Aw,Ax⟩:=Av;refine AHy<|AJs rfl rfl (AJs rfl rfl (AIw<|AJd<|AHy<|AHy ?_));have Aa:=K0.no2 Au Ax Aw;obtain ⟨Be,Ay,Az⟩:=AH2 Am;refine AWs Aa (ARf (Aa.o2 p0).rd (H2.ext Aa.x) Ay) λBf Bg Bh Bi Bj Bl Ab=>AHy ?_;obtain ⟨Bm,A3,A4⟩:=AH2 Az;refine AWs Ab (ARf (Ab.o2 p0).rd (H6.ext Ab.x) A3) λBn Bo Bp Bq Br Bt Ac=>AH7<|AIc ?_;obtain rfl:=AH0 A4;exact ⟨_,AId,Ac.x,_,_,_,_,rfl,(Ac.o2 p0),Ac.s.sel [0] AHz⟩
def AR5 (fuel:Nat) (a6:Int) (Ab Ac:LiA) (Aa:Int):Option ((LiA × LiA × Int) ⊕ (LiA × LiA)):=
 if Aa < a6 then if Ab.length<=100000000 then if Ac.length<=100000000 then some (.inl (Ab ++ [Aa],Ac ++ [Aa],w64<|Aa + 1)) else none else none else some<|.inr (Ab,Ac)
def AMe (fuel:Nat) (a3:LiI) (a5 a6:Int):Option Int:=
 (iter (λs=>AR5 fuel a6 s.1 s.2.1 s.2.2) fuel ([],[],0)).bind (λ((Ab,Ac):LiA × LiA)=>if Ab.length<=100000000 then if Ac.length<=100000000 then (ANh fuel a3 (Ab ++ [a5])<|Ac ++ [a6]).bind λAf=>(AKb fuel Af).bind λAg=>some Ag else none else none)
theorem AR6 {a6 r:Int} (H2:ANp cZ h Ah a3) (hp:AMe fuel a3 a5 a6=some r):AI7 Tryz.prog 107 #[Ah,(.int .i64 a5),(.int .i64 a6)] h (λx h'=>Ext h h'/\ ∃ (x0:Value),x=x0/\ZZ h' x0 r):=by
 unfold AMe at hp;refine cwf (l:=[_,_,_]) Tryz.func107 rfl rfl (AH1<|ALm (Kst.k0 h) [.bool false,.slice none 0 0] ANt λb7 h8 Bt Au=>AQs<|AIw<|AH7<|AH3<|AH1<|AH7<|AH6 ?_);have Ak:=Kst.anil (cI .i64) 3<|Kst.anil (cI .i64) 3 Au;refine AOq 8388480 (λx:(LiA) × (Value) × LnA × (LiA) × (Value) × LnA × (Int)=>(x.1,x.2.2.2.1,x.2.2.2.2.2.2)) (([],(.slice none 0 0),[],[],(.slice none 0 0),[],0):(LiA) × (Value) × LnA × (LiA) × (Value) × LnA × (Int)) hp (λx=>[(7,x.2.1),(8,x.2.2.2.2.1),(9,(.int .i64 x.2.2.2.2.2.2))]) (λx=>(Ak.L.set 1<|aO (cI .i64) 3 x.2.2.1 x.2.1 x.1).set 0 (aO (cI .i64) 3 x.2.2.2.2.2.1 x.2.2.2.2.1 x.2.2.2.1)) Ak ⟨rfl,rfl,rfl,trivial⟩ ?_;rintro ⟨Bu,Bv,Bw,Bx,By,Bz,u32⟩ B2 B3 B4 Ac Af Av;unfold AR5 at Af;refine AH3<|AH1<|AHy<|AHy<|AI3 rfl rfl (AH5<|⟨_,rfl,λAg=>?_,λAg=>?_⟩)
 ·refine AIa<|q_t<|AH3<|AH6<|AH1<|AHy<|AHy ?_;obtain ⟨Aw,Ax⟩:=ifN<|AJb Af Ag;refine ASg Afk Afx rfl rfl trivial tt2 (λ_=>rfl) rfl (show ((cI .i64)).rep _ u32 [(.int .i64 u32)] from rfl) (Ac.o p1) AHz Aw λB5 B6 B7 B8 Ay Az A3=>AH7<|AIf<|AHy<|AHy ?_;have Am:=Ac.uo p1 Az Ay A3;obtain ⟨A4,A5⟩:=ifN Ax;refine ASg Afk Afx rfl rfl trivial tt2 (λ_=>rfl) rfl (show ((cI .i64)).rep _ u32 [(.int .i64 u32)] from rfl) (Am.o p0) AHz A4 λB9 Ca Cb Cd A6 A7 A8=>AIw<|AIu<|q_b<|q_t<|AIf<|AHy<|AI0 rfl rfl (AH7 ?_);exact ⟨(_,_,_,_,_,_,_),(AH0 A5).symm,(Am.uo p0 A7 A6 A8),rfl,rfl,rfl,trivial⟩
 ·refine AIq<|AIr<|AIr<|AJt<|q_t<|AH1<|AHy<|AHy<|AHy ?_;obtain ⟨A9,Ba⟩:=ifN<|Av _ (AH0<|AJc Af Ag).symm;refine ASg Afk Afx rfl rfl trivial tt2 (λ_=>rfl) rfl (show ((cI .i64)).rep _ a5 [(.int .i64 a5)] from rfl) (Ac.o p1) AHz A9 λCe Cf Cg Ch Bb Bc Be=>AHy<|AHy ?_;have Ao:=Ac.uo p1 Bc Bb Be;obtain ⟨Bf,Bg⟩:=ifN Ba;refine ASg Afk Afx rfl rfl trivial tt2 (λ_=>rfl) rfl (show ((cI .i64)).rep _ a6 [(.int .i64 a6)] from rfl) (Ao.o p0) AHz Bf λCi Cj Ck Cm Bh Bi Bj=>?_;have Ad:=Ao.uo p0 Bi Bh Bj;obtain ⟨Cn,Bl,Bm⟩:=AH2 Bg;refine AWs Ad (AV0 (H2.ext Ad.x) (Ad.o p1).rd (Ad.o p0).rd Bl) λCo Cp Cq Cr Ct Cu Ap=>?_;obtain ⟨Cv,Bn,Bo⟩:=AH2 Bm;refine AWr Ap (ALy (Ap.o2 p0).rd Bn) λCw Bp Cx Aq=>AOv Aq p4 (AIo Bp) (Aq.z p0) λCy Ae=>AH5<|AIc ?_;obtain rfl:=AH0 Bo;exact ⟨_,AKs AJz (cZ.klen<|Ae.z p0) rfl (Ae.b p4),Ae.x,_,rfl,(Ae.z p0).2⟩
def AKu (fuel:Nat) (a3:LiA) (a5:Int):Option Int:=
 if a5=0 then (AUx fuel 1).bind λAc=>some Ac else (gI a3<|w64<|a5 - 1).bind λAd=>some Ad
theorem AMn {a3:LiA} {r:Int} (H2:SlC cZ h Af a3) (hp:AKu fuel a3 a5=some r):AI7 Tryz.prog 108 #[Af,(.int .i64 a5)] h (λx h'=>Ext h h'/\ ∃ (x0:Value),x=x0/\ZZ h' x0 r):=by
 unfold AKu at hp;refine cwf (l:=[_,_]) Tryz.func108 rfl rfl (AH1<|ALm (Kst.k0 h) [.bool false,.slice none 0 0] ANt λb6 h7 E9 Aa=>AH5<|AH3<|AH1<|AHy<|AKd rfl rfl (AH5<|⟨_,rfl,λAe=>?_,λAe=>?_⟩))
 ·refine AH1 ?_;obtain ⟨Ay,Ao,Ap⟩:=AH2<|AJb hp Ae;refine AWr Aa (ATb Ao) λAz Aq A3 Aj=>AOv Aj p1 (AIo Aq) (Aj.z p0) λA4 Ab=>AH5<|AIc<|AIt ?_;obtain rfl:=AH0 Ap;exact ⟨_,AKs AJz (cZ.klen<|Ab.z p0) rfl (Ab.b p1),Ab.x,_,rfl,(Ab.z p0).2⟩
 ·refine AIa<|q_t<|AH1<|AHy<|AHy<|AMy rfl rfl ?_;obtain ⟨A5,Ar,Au⟩:=AH2<|AJc hp Ae;refine AQi (c:=cZ) ALs rfl H2 rfl Ar λA6 A7 A8 Ac Av=>AW5 (c:=cZ) AJz rfl (Aa.zx Ac) (λj u hu=>(AIj (Av j u hu) Aa.x)) (AOv Aa p0 (AIo h7) (Aa.zx Ac) λA9 Ad=>AH5<|AIc ?_);obtain rfl:=AH0 Au;exact ⟨_,AKs AJz (cZ.klen<|Ad.zx Ac) rfl (Ad.b p0),Ad.x,_,rfl,(Ad.zx Ac).2⟩
def APd (fuel:Nat) (a3:LiI) (a7:LiA) (a9 Aa:Int):Option Bool:=
 (AUx fuel 2).bind λAe=>(AMe fuel a3 a9 Aa).bind λAf=>(Atb fuel Af).bind λAg=>(Aaz fuel Ae Ag).bind λAh=>(AKu fuel a7<|w64<|Aa + 1).bind λAi=>(Al1 fuel Ah Ai).bind λAj=>some<|decide (Aj<=0)
theorem Abh {a7:LiA} {Ah:Int} {r:Bool} (H2:ANp cZ h Ac a3) (H6:SlC cZ h Ae a7) (hp:APd fuel a3 a7 a9 Ah=some r):AI7 Tryz.prog 103 #[Ac,Ae,(.int .i64 a9),(.int .i64 Ah)] h (λx h'=>Ext h h'/\x= .bool r):=by
 unfold APd at hp;refine cwf (l:=[_,_,_,_]) Tryz.func103 rfl rfl (AH1<|AJd ?_);obtain ⟨A7,Ap,Aq⟩:=AH2 hp;refine AWr (Kst.k0 h) (ATb Ap) λA8 A9 Ba Ai=>AHy<|AHy<|AHy ?_;obtain ⟨Bb,Ar,Au⟩:=AH2 Aq;refine AWr Ai (AR6 (H2.ext Ai.x) Ar) λBc Be Bf Aj=>?_;obtain ⟨Bg,Av,Aw⟩:=AH2 Au;refine AWr Aj (Aro (Aj.z p0).2 Av) λBh Bi Bj Aa=>?_;obtain ⟨Bl,Ax,Ay⟩:=AH2 Aw;refine AWr Aa (AYy (Aa.z p2).2 (Aa.z p0).2 Ax) λBm Bn Bo Ak=>AHy<|AHy<|AI0 rfl rfl ?_;obtain ⟨Bp,Az,A3⟩:=AH2 Ay;refine AWr Ak (AMn (H6.ext Ak.x) Az) λBq Br Bt Ab=>?_;obtain ⟨Bu,A4,A5⟩:=AH2 A3;refine ALx Ab (Ake (Ab.z p1).2 (Ab.z p0).2 A4) λBv Bw A6=>Aho rfl rfl (AH7<|AIc ?_);obtain rfl:=AH0 A5;exact ⟨_,AId,A6.x,rfl⟩
def APe (fuel:Nat) (a3:LiI):Option Bool:=
 (AKb fuel a3).bind λx5=>(AUx fuel 10000).bind λAc=>(Al1 fuel x5 Ac).bind λAd=>some<|decide (Ad<=0)
theorem Abi {r:Bool} (H2:ANp cZ h Ab a3) (hp:APe fuel a3=some r):AI7 Tryz.prog 52 #[Ab] h (λx h'=>Ext h h'/\x= .bool r):=by
 unfold APe at hp;refine cwf (l:=[_]) Tryz.func52 rfl rfl (AH1<|AJd<|AHy ?_);have K0:=Kst.k0 h;obtain ⟨x5,Af,Ag⟩:=AH2 hp;refine AWr K0 (ALy (H2.ext K0.x) Af) λAq h9 E8 Ah=>?_;obtain ⟨Av,Ai,Aj⟩:=AH2 Ag;refine AWr Ah (ATb Ai) λAw Ax Ay Aa=>?_;obtain ⟨Az,Ak,Am⟩:=AH2 Aj;refine ALx Aa (Ake (Aa.z p1).2 (Aa.z p0).2 Ak) λA3 A4 Ao=>Aho rfl rfl (AH7<|AIc ?_);obtain rfl:=AH0 Am;exact ⟨_,AId,Ao.x,rfl⟩
def ATh (fuel:Nat) (a1:Int) (a2:Bool) (Aa:Int) (Ac:LiI):Option ((Int × LiI) ⊕ LiI):=
 if Aa < ((List.replicate (Int.toNat a1) ([]:List Int)).length:Int) then if 0<=a1/\a1<=100000000 then (gI Ac Aa).bind λAi=>(gI (sI Ac Aa<|List.replicate (Int.toNat a1) (0:Int)) Aa).bind λAe=>(gI Ae Aa).bind λAj=>((if a2=true then if Aa=w64 (a1 - 1) then if 3 < a1 then some (w64<|Aa - 2) else some (w64<|Aa - 1) else some (w64<|Aa - 1) else some<|w64<|Aa - 1):Option Int).bind (λ(Ad:Int)=>if 0<=Ad then (gI (sI (sI Ac Aa<|List.replicate (Int.toNat a1) (0:Int)) Aa<|sI Ae Aa 2) Aa).bind λAf=>(gI (sI (sI Ac Aa<|List.replicate (Int.toNat a1) (0:Int)) Aa<|sI Ae Aa 2) Ad).bind λAk=>(gI Af Ad).bind λAm=>(gI (sI (sI (sI Ac Aa<|List.replicate (Int.toNat a1) (0:Int)) Aa<|sI Ae Aa 2) Aa<|sI Af Ad<|-1) Ad).bind λAg=>(gI Ag Aa).bind λAo=>some (.inl (w64<|Aa + 1,sI (sI (sI (sI Ac Aa<|List.replicate (Int.toNat a1) (0:Int)) Aa<|sI Ae Aa 2) Aa<|sI Af Ad<|-1) Ad<|sI Ag Aa<|-1)) else some<|.inl (w64<|Aa + 1,sI (sI Ac Aa<|List.replicate (Int.toNat a1) (0:Int)) Aa<|sI Ae Aa 2)) else none else some<|.inr Ac
def AOk (fuel:Nat) (a1:Int) (a2:Bool):Option LiI:=
 if 0<=a1/\a1<=100000000 then (iter (λs=>ATh fuel a1 a2 s.1 s.2) fuel (0,List.replicate (Int.toNat a1) ([]:List Int))).bind (λ(Ac:LiI)=>some Ac) else none
theorem AWp {a2:Bool} {r:LiI} (hp:AOk fuel a1 a2=some r):AI7 Tryz.prog 61 #[(.int .i64 a1),(.bool a2)] h (λx h'=>Ext h h'/\ ∃ (x0:Value) (F0:List Nat) (A5:List LnA) (A6:List Value),x=x0/\ALl (cI .i64) 41 2 h' F0 A5 A6 x0 r/\Sp h' h.size [F0]):=by
 unfold AOk at hp;refine cwf (l:=[_,_]) Tryz.func61 rfl rfl (AH1<|AJd<|AHy ?_);obtain ⟨A7,A8⟩:=ifN hp;refine Aay (cI .i64) 2 AIk AU9 rfl trivial tt2 rfl rfl AHz A7 λA9 Ba Bb v9 h7 I8 E5 S6=>AH7<|AH3<|AH1<|AHy ?_;have Ai:=(Kst.k0 h).no2 E5 S6 I8;refine AJh AIk rfl (Ai.o2 p0).rd (AHy<|AH5<|AH6<|AOq 72057594037924032 (λx:(Int) × (LiI) × LnA × LnN × LvA=>(x.1,x.2.1)) ((0,(List.replicate (Int.toNat a1) ([]:List Int)),A9,Ba,Bb):(Int) × (LiI) × LnA × LnN × LvA) A8 (λx=>[(12,(.int .i64 x.1))]) (λx=>Ai.L.set 0<|aO2 (cI .i64) 41 2 x.2.2.1 x.2.2.2.1 x.2.2.2.2 v9 x.2.1) Ai ⟨rfl,trivial⟩ ?_);rintro ⟨Aa,Cj,Ck,Cm,Cn⟩ Co Cp Cq Ae Aj Bh;unfold ATh at Aj;refine AH1<|AI3 rfl rfl (AH5<|AH3<|⟨_,rfl,λAk=>?_,λAk=>?_⟩)
 ·refine AIa<|q_t<|AH3<|AH6<|AH1<|AHy<|AJd<|AHy<|AHy<|AHy ?_;obtain ⟨Bi,Bj⟩:=ifN<|AJb Aj Ak;refine AYw (c:=(cI .i64)) (a:=0) AIi ARy rfl rfl (λ_=>rfl) rfl trivial tt2 rfl rfl AHz Bi λCr Ct Cu Bl Bm Bn Bo=>?_;have Ab:=Ae.no Bm (ANs Bn Bo) Bl;obtain ⟨Cv,Ar,Bp⟩:=AH2 Bj;refine AJr AIk rfl (Ab.o2 p1) rfl Ar λCw Cx Bq Cy Cz=>Aax AIv (Ab.o2 p1) Ar Bq rfl rfl (Ab.o p0) (Ab.dj p0 p1 AHz) λC0 Br Bt Bu=>AQs<|AHy<|AHy ?_;have Au:=Ab.m2 p0 p1 AHz Bt Br λz hz=> .inl<|Bu z hz;obtain ⟨C1,Av,Bv⟩:=AH2 Bp;refine AKe AIk AIv (Au.o2 p1) Av λ_ C3 Bw=>AHy ?_;obtain ⟨C4,Bx,By⟩:=AH2 Bv;refine AT0 (m:=Aa) Au p1 AIi AIg Bw Av Bx (λ_=>rfl) λ_ C5 Ac=>AQs<|AHy<|AMy rfl rfl (AH7 ?_);obtain ⟨Bz,Aw,Ax⟩:=AH2 By;refine ARb 2198754820224 (λx:(Int)=>[(7,(.int .i64 x))]) (λx h'=>( x)=Bz/\Kst h h' (APr Ac.L [1])) ?_ ?_
  ·refine AH1<|AHy<|AHy ?_;cases Ay:a2
   ·refine AUi 29 false<|AIn rfl (AHy<|AP2 35 false<|AIn rfl (AH5<|AI6 rfl (AIa<|q_t ?_)));exact ⟨((w64<|Aa - 1):(Int)),⟨AH0<|AQa Aw Ay,Ac.sel [1] AHz⟩,rfl,trivial⟩
   ·refine AIs 29 true<|AHy<|AIs 29 true<|AHy<|AIs 29 true<|AMy rfl rfl (AIs 29 true<|AKd rfl rfl (AIm rfl (AHy ?_)));have Az:=ifT Aw Ay;by_cases Af:Aa=(w64<|a1 - 1)
    ·have A3:=ifT Az Af;rw [decide_eq_true Af];refine AIs 35 true<|AHy<|AIs 35 true<|APu rfl rfl (AIm rfl (AH5<|⟨_,rfl,λAm=>?_,λAm=>?_⟩))
     ·refine AIf<|AHy<|AMy rfl rfl (AH7 ?_);exact ⟨((w64<|Aa - 2):(Int)),⟨AH0<|AJb A3 Am,Ac.sel [1] AHz⟩,rfl,trivial⟩
     ·refine AIa<|q_t ?_;exact ⟨((w64<|Aa - 1):(Int)),⟨AH0<|AJc A3 Am,Ac.sel [1] AHz⟩,rfl,trivial⟩
    ·rw [decide_eq_false Af];refine AP2 35 false<|AIn rfl (AH5<|AI6 rfl (AIa<|q_t ?_));exact ⟨((w64<|Aa - 1):(Int)),⟨AH0<|ifF Az Af,Ac.sel [1] AHz⟩,rfl,trivial⟩
  rintro B2 C6 C7 ⟨B3,Ag⟩;subst B3;refine AH1<|AHy<|AUr rfl rfl (AH5<|⟨_,rfl,λAo=>?_,λAo=>?_⟩)
  ·refine AMw<|AHy<|AHy ?_;obtain ⟨C8,A4,B4⟩:=AH2<|AJb Ax Ao;refine AKe AIk AIv (Ag.o2 p0) A4 λ_ C9 B5=>AHy<|AHy<|AHy ?_;obtain ⟨Da,B6,B7⟩:=AH2 B4;refine AKe AIk AIv (Ag.o2 p0) B6 λ_ Db B8=>AHy ?_;obtain ⟨Dc,B9,Ca⟩:=AH2 B7;refine AT0 (m:=Aa) Ag p0 AIi AIg B5 A4 B9 (λ_=>rfl) λ_ Dd Cb=>?_;obtain ⟨De,Cd,Ce⟩:=AH2 Ca;obtain ⟨Df,Cf,Cg⟩:=AH2 Ce;refine AT0 (m:=B2) Cb p0 AIi AIg B8 Cd Cf (λ_=>rfl) λ_ Dg Ch=>AIu<|q_b<|q_t<|AIf<|AI0 rfl rfl (AHy<|AH5 ?_);exact ⟨(_,_,_,_,_),(AH0 Cg).symm,Ch,rfl,trivial⟩
  ·refine AIa<|q_b<|q_t<|AIf<|AI0 rfl rfl (AHy<|AH5 ?_);exact ⟨(_,_,_,_,_),(AH0<|AJc Ax Ao).symm,Ag,rfl,trivial⟩
 ·refine AIq<|AIr<|AIr<|AJt<|q_t<|AH1<|AHy<|AH7<|AIc ?_;obtain rfl:=AH0<|Bh _ (AH0<|AJc Aj Ak).symm;exact ⟨_,AId,Ae.x,_,_,_,_,rfl,(Ae.o2 p0),Ae.s.sel [0] AHz⟩
def AQm (fuel:Nat) (a3:LiI):Option Bool:=
 (ALn fuel a3).bind λx5=>(AMm fuel x5).bind λAc=>if Ac=0 then (AKb fuel x5).bind λAd=>(AUx fuel 10000).bind λAe=>(Al1 fuel Ad Ae).bind λAf=>some (decide (Af<=0)) else some false
theorem Ac1 {r:Bool} (H2:ANp (cI .i64) h Ad a3) (hp:AQm fuel a3=some r):AI7 Tryz.prog 64 #[Ad] h (λx h'=>Ext h h'/\x= .bool r):=by
 unfold AQm at hp;refine cwf (l:=[_]) Tryz.func64 rfl rfl (AH1<|AJd<|AHy ?_);have K0:=Kst.k0 h;obtain ⟨x5,Aj,Ak⟩:=AH2 hp;refine AWs K0 (APc (H2.ext K0.x) Aj) λA3 A4 A5 A6 h9 E8 Ag=>AJd<|AHy ?_;obtain ⟨Am,Ao,Ah⟩:=AH2 Ak;refine ALx Ag (AU0 (Ag.o2 p0).rd Ao) λA9 Ba Ab=>AKd rfl rfl (AHy ?_);by_cases Aa:Am=0
 ·rw [decide_eq_true Aa];refine AIs 9 true<|AHy<|AIs 9 true ?_;obtain ⟨Bb,Ap,Aq⟩:=AH2<|ifT Ah Aa;refine AWr Ab (ALy (Ab.o2 p0).rd Ap) λBc Be Bf Ar=>AIs 9 true ?_;obtain ⟨Bg,Au,Av⟩:=AH2 Aq;refine AWr Ar (ATb Au) λBh Bi Bj Ac=>AIs 9 true ?_;obtain ⟨Bl,Aw,Ax⟩:=AH2 Av;refine ALx Ac (Ake (Ac.z p1).2 (Ac.z p0).2 Aw) λBm Bn Ay=>AIs 9 true<|Aho rfl rfl (AIm rfl (AH7<|AIc ?_));obtain rfl:=AH0 Ax;exact ⟨_,AId,Ay.x,rfl⟩
 ·rw [decide_eq_false Aa];refine AN1 9 false<|AIn rfl (AH7<|AIc ?_);obtain rfl:=AH0<|ifF Ah Aa;exact ⟨_,AId,Ab.x,rfl⟩
def AT9 (fuel:Nat) (Ab Aa:Int):Option ((Int × Int) ⊕ Int):=
 (Ahq fuel Aa).bind λAc=>if ¬ Ac=0 then (AQj fuel Ab Aa).bind λAd=>some (.inl (Aa,Ad)) else some<|.inr Ab
def AQn (fuel:Nat) (a1 a5:Int):Option Int:=
 (Atb fuel a1).bind λAc=>(Atb fuel a5).bind λAd=>(iter (λs=>AT9 fuel s.1 s.2) fuel (Ac,Ad)).bind (λ(Ae:Int)=>some Ae)
theorem Ac2 {Au:Value} {r:Int} (H3:ZZ h Aq a1) (H7:ZZ h Au a5) (hp:AQn fuel a1 a5=some r):AI7 Tryz.prog 165 #[Aq,Au] h (λx h'=>Ext h h'/\ ∃ (x0:Value),x=x0/\ZZ h' x0 r):=by
 unfold AQn at hp;obtain ⟨Bj,rfl,Ax⟩:=H3.cs;obtain ⟨Bl,rfl,Ay⟩:=H7.cs;refine cwf (l:=[_,_]) Tryz.func165 rfl rfl (AH1<|AP5 (Kst.k0 h) Bj λb9 Cp Cq Bm=>AP5 Bm Bl λCr Ct Cu Bn=>ALm Bn [.bool false,.slice none 0 0] ANt λCv Ak Cw Ab=>AH5<|AH3 ?_);have Am:UpT [] Ak Ak:=UpT.start all_nil;refine Acx (B:=λh'=>UpT [] Ak h') 4 [⟨5,81,[.bool false,.slice none 0 0]⟩,⟨6,81,[.bool false,.slice none 0 0]⟩] (λ_ _ U E=>U.thenE E) AIb Am (Arh rfl rfl ANt rfl ANt rfl (λ_ _ U E=>U.thenE E))<|h_l rfl (AW8 (Ab.zx Ax) Am (Ab.b p2)<|AIu<|h_e rfl λCx Az=>?_);have A3:=Ab.e Az;obtain ⟨Bo,Bp,Bq⟩:=AH2 hp;refine AOi A3 (Am.thenE Az) (Aro (A3.zx Ax).2 Bp) λA4 Cy Br A5 A6=>AIu ⟨Br,?_⟩;refine h_l rfl (AW8 (A5.zx Ay) A6 (Ab.b p1)<|AIu<|h_e rfl λCz A7=>?_);have A8:=A5.e A7;obtain ⟨Bt,Bu,Bv⟩:=AH2 Bq;refine AOi A8 (A6.thenE A7) (Aro (A8.zx Ay).2 Bu) λA9 C0 Bw Bx By=>AIu ⟨Bw,?_⟩;refine Akd λBz Ba=>A4s λB2 B3 Bb Bc B4 B5 B6 C1 C3=>?_;have Be:=Bx.e Ba;have Ae:=((Ab.nb2 (By.thenE Ba).ext (Ari B5 B6 Bb.lt Bc.lt B4) Bb Bc).az (Be.z p1)).az (Be.z p0);refine AKo A4 AJz (cZ.klen<|Ae.z p1) (cZ.klen<|AIo Bz) rfl rfl (cZ.one<|Ae.z p1) (Ae.b p2) λB7 B8 B9=>?_;have Af:=Ae.sb p2 B9 B8 rfl;refine AKo A9 AJz (cZ.klen<|Af.z p0) (cZ.klen<|AIo B7) rfl rfl (cZ.one<|Af.z p0) (Af.b p3) λC4 Ca Cb=>AH5<|AH3<|AH6 ?_;have Ao:=(Af.sb p3 Cb Ca rfl).sel [0,1,2,3,4] AHz;dsimp only [APr,AS0] at Ao;refine AOq 260096 (λx:(Int) × LvA × (Int) × LvA=>(x.1,x.2.2.1)) ((Bo,A4,Bt,A9):(Int) × LvA × (Int) × LvA) Bv (λx=>[]) (λx=>(((Ao.L.set 1<|aZ x.2.1 x.1).set 0 (aZ x.2.2.2 x.2.2.1)).set 2 (aB 81 B2 x.2.1)).set 3 (aB 81 B3 x.2.2.2)) Ao trivial ?_;rintro ⟨C5,C6,C7,Cd⟩ C8 C9 Da Ag Bf Ce;unfold AT9 at Bf;refine AH3<|AH1<|ATd (Ag.z p0) (Ag.b p3) ?_;obtain ⟨Db,Cf,Bg⟩:=AH2 Bf;refine ALx Ag (Agq (Ag.z p0).2 Cf) λAh Dc Aa=>AK0 rfl rfl (AH5<|⟨_,rfl,λAp=>?_,λAp=>?_⟩)
 ·refine AIa<|q_t<|AH6<|AKg (λh'=>UpT [] Ah h') AIb ?_;have Ai:UpT [] Ah Ah:=UpT.start all_nil;refine AW8 (Aa.z p0) Ai (Aa.b p3)<|AW8 (Aa.z p1) Ai (Aa.b p2)<|AW8 (Aa.z p0) Ai (Aa.b p3) ?_;obtain ⟨Dd,Cg,Ch⟩:=AH2<|AJb Bg Ap;refine AOi Aa Ai (Acy (Aa.z p1).2 (Aa.z p0).2 Cg) λCi De Df Ac Dg=>AKo Cd AJz (cZ.klen<|Ac.z p1) (cZ.klen<|Ac.z p2) rfl rfl (cZ.one<|Ac.z p1) (Ac.b p3) λDh Cj Ck=>?_;have Ad:=Ac.sb p3 Ck Cj rfl;refine AKo Ci AJz (cZ.klen<|Ad.z p0) (cZ.klen<|Ad.z p1) rfl rfl (cZ.one<|Ad.z p0) (Ad.b p4) λDi Cm Cn=>AIu<|q_b<|q_t ?_;exact ⟨(_,_,_,_),(AH0 Ch).symm,(Ad.sb p4 Cn Cm rfl).sel [0,1,3,4,5] AHz,trivial⟩
 ·refine AIq<|AIr<|AIr<|AJt<|q_t<|AH1<|ATd (Aa.z p1) (Aa.b p2)<|AOv Aa p4 (AIo Ah) (Aa.z p1) λDj Aj=>AH5<|AIc ?_;obtain rfl:=AH0<|Ce _ (AH0<|AJc Bg Ap).symm;exact ⟨_,AKs AJz (cZ.klen<|Aj.z p1) rfl (Aj.b p4),Aj.x,_,rfl,(Aj.z p1).2⟩
def AO5 (fuel:Nat) (a1 a5:Int):Option ((Int × Int) × Bool):=
 (Ahq fuel a5).bind λAf=>if Af=0 then some ((0,0),false) else (((Ahq fuel a5).bind λAg=>if Ag < 0 then (Ao4 fuel a1).bind λAh=>(Ao4 fuel a5).bind λAi=>some (Ah,Ai) else some (a1,a5)):Option (Int × Int)).bind (λ((Ac,Ad):Int × Int)=>(AQn fuel Ac Ad).bind λAe=>(ALv fuel Ac Ae).bind λAj=>(ALv fuel Ad Ae).bind λAk=>some ((Aj,Ak),true))
theorem AW9 {A4:Value} {A5:Value} {r:((Int × Int) × Bool)} (H3:ZZ h A4 a1) (H7:ZZ h A5 a5) (hp:AO5 fuel a1 a5=some r):AI7 Tryz.prog 159 #[A4,A5] h (λx h'=>Ext h h'/\ ∃ (x0:Value),x= .tuple #[x0,.bool r.2]/\Ais h' x0 r.1.1 r.1.2):=by
 unfold AO5 at hp;obtain ⟨A7,rfl,Am⟩:=H3.cs;obtain ⟨A8,rfl,Ab⟩:=H7.cs;refine cwf (l:=[_,_]) Tryz.func159 rfl rfl (AH1<|AP5 (Kst.k0 h) A7 λb9 Cq Cr Bo=>AP5 Bo A8 λBp Ct Cu Bq=>ALm Bq [.bool false,.slice none 0 0,.bool false,.slice none 0 0] AYz λCv Cw Cx Ao=>AH7<|AH3<|AH1<|ATd (Ao.zx Ab) (Ao.b p1) ?_);obtain ⟨Cy,Br,A9⟩:=AH2 hp;refine ALx Ao (Agq (Ao.zx Ab).2 Br) λAg Cz Ad=>AKd rfl rfl (AH5<|⟨_,rfl,λAu=>?_,λAu=>?_⟩)
 ·refine AH1<|ALe (Arj )<|AKo ([Value.bool false,Value.slice none 0 0] ++ [Value.bool false,Value.slice none 0 0]) AOu (AKp (AIo Ag)<|AIo Ag) (AKp (AIo Ag)<|AIo Ag) rfl rfl (AUy (AIo Ag)<|AIo Ag) (Ad.b p0) λAp Bt Bu=>AH7<|AIc<|AIt ?_;have Ba:=Ad.sb p0 Bu Bt rfl;obtain rfl:=AH0<|AJb A9 Au;exact ⟨_,Aat AOu (AKp (AIo Ap)<|AIo Ap) rfl (Ba.b p0),Ba.x,_,rfl,⟨_,_,rfl,(AIo Ap),(AIo Ap)⟩⟩
 ·refine AIa<|q_t ?_;obtain ⟨Bv,Bw,Bx⟩:=AH2<|AJc A9 Au;refine ARb 260096 (λx:(Int) × LvA × (Int) × LvA=>[]) (λx h'=>( (x.1,x.2.2.1))=Bv/\Kst h h' (aZ x.2.1 x.1 :: aZ x.2.2.2 x.2.2.1 :: ((Ad.L.set 2<|aB 81 b9 x.2.1).set 1 (aB 81 Bp x.2.2.2)))) ?_ ?_
  ·refine AH1<|ATd (Ad.zx Ab) (Ad.b p1) ?_;obtain ⟨C0,By,Bb⟩:=AH2 Bw;refine ALx Ad (Agq (Ad.zx Ab).2 By) λAv C1 Ae=>AI3 rfl rfl (AH5<|⟨_,rfl,λAw=>?_,λAw=>?_⟩)
   ·refine AKg (λh'=>UpT [] Av h') AIb ?_;have Bc:UpT [] Av Av:=UpT.start all_nil;refine AW8 (Ae.zx Am) Bc (Ae.b p2) ?_;obtain ⟨Bz,B2,B3⟩:=AH2<|AJb Bb Aw;refine AOi Ae Bc (Am7 (Ae.zx Am).2 B2) λBe C3 C4 Ax Bf=>AW8 (Ax.zx Ab) Bf (Ae.b p1) ?_;obtain ⟨B4,B5,B6⟩:=AH2 B3;refine AOi Ax Bf (Am7 (Ax.zx Ab).2 B5) λBg C5 C6 Ai C7=>AKo Be AJz (cZ.klen<|Ai.z p1) (cZ.klen<|Ai.zx Am) rfl rfl (cZ.one<|Ai.z p1) (Ai.b p4) λC8 B7 B8=>?_;have Aj:=Ai.sb p4 B8 B7 rfl;refine AKo Bg AJz (cZ.klen<|Aj.z p0) (cZ.klen<|Aj.zx Ab) rfl rfl (cZ.one<|Aj.z p0) (Aj.b p3) λC9 B9 Ca=>AH5 ?_;exact ⟨((Bz,Be,B4,Bg):(Int) × LvA × (Int) × LvA),⟨AH0 B6,(Aj.sb p3 Ca B9 rfl).sel [1,0,2,3,4] AHz⟩,trivial⟩
   ·refine AIa<|q_t ?_;have Bh:=Ae.az<|Ae.zx Am;exact ⟨((a1,A7,a5,A8):(Int) × LvA × (Int) × LvA),⟨AH0<|AJc Bb Aw,(Bh.az<|Bh.zx Ab).sel [1,0,2,3,4] AHz⟩,trivial⟩
  rintro ⟨Da,Db,Dc,Dd⟩ De Df ⟨Cb,Af⟩;subst Cb;refine AH1<|ATd (Af.z p0) (Af.b p4)<|ATd (Af.z p1) (Af.b p3) ?_;obtain ⟨Dg,Cd,Ce⟩:=AH2 Bx;refine AWr Af (Ac2 (Af.z p0).2 (Af.z p1).2 Cd) λDh Di Dj Cf=>ALm Cf [.bool false,.slice none 0 0] ANt λDk Cg Dl Bi=>AOv Bi p0 (AIo Cg) (Bi.z p1) λAy Aa=>AH5<|AH3<|AKg (λh'=>UpT [] Ay h') AIb ?_;have Az:UpT [] Ay Ay:=UpT.start all_nil;refine AW8 (Aa.z p2) Az (Aa.b p6)<|AW8 (Aa.z p1) Az (Aa.b p0) ?_;obtain ⟨Do,Ch,Ci⟩:=AH2 Ce;refine AOi Aa Az (AQt (Aa.z p2).2 (Aa.z p1).2 Ch) λCj Dp Dq Ak A3=>AW8 (Ak.z p4) A3 (Aa.b p5)<|AW8 (Ak.z p2) A3 (Aa.b p0) ?_;obtain ⟨Dr,Ck,Cm⟩:=AH2 Ci;refine AOi Ak A3 (AQt (Ak.z p4).2 (Ak.z p2).2 Ck) λCn Bj Ds Ac Dt=>ALe (Aex (Ac.z p1)<|Ac.z p0)<|AKo (Cj ++ Cn) AOu (AKp (Ac.z p1)<|Ac.z p0) (AKp (AIo Bj)<|AIo Bj) rfl rfl (AUy (Ac.z p1)<|Ac.z p0) (Ac.b p6) λDu Co Cp=>AH7<|AIc ?_;have Ah:=Ac.sb p6 Cp Co rfl;obtain rfl:=AH0 Cm;exact ⟨_,Aat AOu (AKp (Ah.z p1)<|Ah.z p0) rfl (Ah.b p6),Ah.x,_,rfl,⟨_,_,rfl,(Ah.z p1),(Ah.z p0)⟩⟩
def AUs (fuel:Nat) (a1:Int):Option (Int × Int):=
 (Aa0 fuel a1).bind λAb=>(AUx fuel 1).bind λAc=>some (Ab,Ac)
theorem Abj {r:(Int × Int)} (H3:ZZ h Ad a1) (hp:AUs fuel a1=some r):AI7 Tryz.prog 166 #[Ad] h (λx h'=>Ext h h'/\ ∃ (x0:Value),x=x0/\Ais h' x0 r.1 r.2):=by
 unfold AUs at hp;obtain ⟨Aj,rfl,Ag⟩:=H3.cs;refine cwf (l:=[_]) Tryz.func166 rfl rfl (AH1<|AP5 (Kst.k0 h) Aj λb5 h6 E8 Ak=>ALm Ak [.bool false,.slice none 0 0,.bool false,.slice none 0 0] AYz λA4 A5 A6 Ac=>AQs<|ATd (Ac.zx Ag) (Ac.b p1) ?_);obtain ⟨A7,Am,Ao⟩:=AH2 hp;refine AWr Ac (Acw (Ac.zx Ag).2 Am) λAp A8 A9 Aq=>?_;obtain ⟨Ba,Ar,Au⟩:=AH2 Ao;refine AWr Aq (ATb Ar) λAv Ah Bb Aa=>ALe (Aex (Aa.z p1)<|Aa.z p0)<|AKo (Ap ++ Av) AOu (AKp (Aa.z p1)<|Aa.z p0) (AKp (AIo Ah)<|AIo Ah) rfl rfl (AUy (Aa.z p1)<|Aa.z p0) (Aa.b p2) λBc Aw Ax=>AH5<|AIc ?_;have Ab:=Aa.sb p2 Ax Aw rfl;obtain rfl:=AH0 Au;exact ⟨_,AKs AOu (AKp (Ab.z p1)<|Ab.z p0) rfl (Ab.b p2),Ab.x,_,rfl,⟨_,_,rfl,(Ab.z p1),(Ab.z p0)⟩⟩
def AUt (fuel:Nat) (a1:Int):Option (Int × Int):=
 (AUx fuel a1).bind λx9=>(AUs fuel x9).bind λAa=>some (Aa.1,Aa.2)
theorem Abk {r:(Int × Int)} (hp:AUt fuel a1=some r):AI7 Tryz.prog 160 #[(.int .i64 a1)] h (λx h'=>Ext h h'/\ ∃ (x0:Value),x=x0/\Ais h' x0 r.1 r.2):=by
 unfold AUt at hp;refine cwf (l:=[_]) Tryz.func160 rfl rfl (AH1<|ALm (Kst.k0 h) [.bool false,.slice none 0 0,.bool false,.slice none 0 0] AYz λb2 h3 E5 K8=>AQs<|AHy ?_);obtain ⟨x9,Ah,Ai⟩:=AH2 hp;refine AWr K8 (ATb Ah) λA5 A6 A7 Ae=>?_;obtain ⟨A8,Aj,Ak⟩:=AH2 Ai;refine ASt rfl (Abj (Ae.z p0).2 Aj) λA9 Af Am Ao=>?_;obtain ⟨Ba,rfl,Ap⟩:=Ao;obtain ⟨Aq,Ar,rfl,Au,Av⟩:=Ap;have Aa:=((Ae.e Am).az Au).az Av;refine AKo (Aq ++ Ar) AOu (AKp (Aa.z p1)<|Aa.z p0) (AKp (AIo Af)<|AIo Af) rfl rfl (AUy (Aa.z p1)<|Aa.z p0) (Aa.b p3) λBb Aw Ax=>AH5<|AIc ?_;have Ab:=Aa.sb p3 Ax Aw rfl;obtain rfl:=AH0 Ak;exact ⟨_,AKs AOu (AKp (Ab.z p1)<|Ab.z p0) rfl (Ab.b p3),Ab.x,_,rfl,⟨_,_,rfl,(Ab.z p1),(Ab.z p0)⟩⟩
def AKy (fuel:Nat) (a3 a5:Int):Option (Int × Int):=
 (AO5 fuel a3 a5).bind λ(Aa,Ae)=>if (!Ae)=true then (AUt fuel 0).bind λAb=>some (Ab.1,Ab.2) else some (Aa.1,Aa.2)
theorem AOa {a3:Int} {r:(Int × Int)} (H2:Ais h Ak a3 a5) (hp:AKy fuel a3 a5=some r):AI7 Tryz.prog 144 #[Ak] h (λx h'=>Ext h h'/\ ∃ (x0:Value),x=x0/\Ais h' x0 r.1 r.2):=by
 unfold AKy at hp;obtain ⟨Aq,Ar,rfl,H2z0,H2z1⟩:=H2;refine cwf (l:=[_]) Tryz.func144 rfl rfl (AH1<|AP5 (Kst.k0 h) (Aq ++ Ar) λb7 h8 Br Ay=>ALm Ay [.bool false,.slice none 0 0,.bool false,.slice none 0 0] AYz λBt Bu Bv Ab=>AQs<|AOe (fs:=2) Ai6 AIb AHz rfl (ATy Aq AJz (cZ.klen<|Ab.zx H2z0) rfl ((Ab.b p1).aggL) (AOe (fs:=2) Aew AIb AHz rfl (ATy Ar AJz (cZ.klen<|Ab.zx H2z1) rfl ((Ab.b p1).aggR (cZ.klen<|Ab.zx H2z0)) ?_))));obtain ⟨⟨Bw,Bx⟩,Az,Ag⟩:=AH2 hp;dsimp only at Ag;refine ASt rfl (AW9 (Ab.zx H2z0).2 (Ab.zx H2z1).2 Az) λBy Bz A3 A4=>?_;obtain ⟨B2,rfl,A5⟩:=A4;obtain ⟨Ah,Ai,rfl,A6,A7⟩:=A5;refine AHy<|AJs rfl rfl (AJs rfl rfl (ALm (((Ab.e A3).az A6).az A7) [.bool false,.slice none 0 0,.bool false,.slice none 0 0] AYz λB3 Au B4 Ac=>AKo (Ah ++ Ai) AOu (AKp (Ac.z p2)<|Ac.z p1) (AKp (AIo Au)<|AIo Au) rfl rfl (AUy (Ac.z p2)<|Ac.z p1) (Ac.b p0) λAv A8 A9=>AH7<|AH3<|AH1<|AHy<|AMp rfl (AH5 ?_)));have Aa:=Ac.sb p0 A9 A8 rfl;refine ⟨_,rfl,λAj=>?_,λAj=>?_⟩
 ·refine AH1 ?_;obtain ⟨B5,Ba,Bb⟩:=AH2<|ifT Ag Aj;refine ASt rfl (Abk Ba) λB6 Aw Bc Be=>?_;obtain ⟨B7,rfl,Bf⟩:=Be;obtain ⟨Bg,Bh,rfl,Bi,Bj⟩:=Bf;have Ad:=((Aa.e Bc).az Bi).az Bj;refine AKo (Bg ++ Bh) AOu (AKp (Ad.z p1)<|Ad.z p0) (AKp (AIo Aw)<|AIo Aw) rfl rfl (AUy (Ad.z p1)<|Ad.z p0) (Ad.b p5) λB8 Bl Bm=>AH5<|AIc<|AIt ?_;have Ae:=Ad.sb p5 Bm Bl rfl;obtain rfl:=AH0 Bb;exact ⟨_,AKs AOu (AKp (Ae.z p1)<|Ae.z p0) rfl (Ae.b p5),Ae.x,_,rfl,⟨_,_,rfl,(Ae.z p1),(Ae.z p0)⟩⟩
 ·refine AIa<|q_t<|AH1<|ATy (Ah ++ Ai) AOu (AKp (Aa.z p2)<|Aa.z p1) rfl ((Aa.b p0).agg) (AKo (Ah ++ Ai) AOu (AKp (Aa.z p2)<|Aa.z p1) (AKp (AIo Av)<|AIo Av) rfl rfl (AUy (Aa.z p2)<|Aa.z p1) (Aa.b p3) λB9 Bn Bo=>AH5<|AIc ?_);have Af:=Aa.sb p3 Bo Bn rfl;obtain rfl:=AH0<|AQa Ag Aj;exact ⟨_,AKs AOu (AKp (Af.z p2)<|Af.z p1) rfl (Af.b p3),Af.x,_,rfl,⟨_,_,rfl,(Af.z p2),(Af.z p1)⟩⟩
def AN5 (fuel:Nat) (a1 a5:Int):Option (Int × Int):=
 (AKy fuel a1 a5).bind λAa=>some (Aa.1,Aa.2)
theorem AZe {r:(Int × Int)} (H3:ZZ h Af a1) (H7:ZZ h Ah a5) (hp:AN5 fuel a1 a5=some r):AI7 Tryz.prog 106 #[Af,Ah] h (λx h'=>Ext h h'/\ ∃ (x0:Value),x=x0/\Ais h' x0 r.1 r.2):=by
 unfold AN5 at hp;obtain ⟨Ap,rfl,Ad⟩:=H3.cs;obtain ⟨Aq,rfl,Ae⟩:=H7.cs;refine cwf (l:=[_,_]) Tryz.func106 rfl rfl (AH1<|AP5 (Kst.k0 h) Ap λb9 Ba Bb Ar=>AP5 Ar Aq λBc Be Bf Au=>ALm Au [.bool false,.slice none 0 0,.bool false,.slice none 0 0] AYz λBg Bh Bi Aa=>AQs<|ATd (Aa.zx Ad) (Aa.b p2)<|ATd (Aa.zx Ae) (Aa.b p1)<|ALe (Aex (Aa.zx Ad)<|Aa.zx Ae) ?_);obtain ⟨Bj,Av,Aw⟩:=AH2 hp;refine ASt rfl (AOa ⟨_,_,rfl,(Aa.zx Ad),(Aa.zx Ae)⟩ Av) λBl Ak Ax Ay=>?_;obtain ⟨Bm,rfl,Az⟩:=Ay;obtain ⟨A3,A4,rfl,A5,A6⟩:=Az;have Ab:=((Aa.e Ax).az A5).az A6;refine AKo (A3 ++ A4) AOu (AKp (Ab.z p1)<|Ab.z p0) (AKp (AIo Ak)<|AIo Ak) rfl rfl (AUy (Ab.z p1)<|Ab.z p0) (Ab.b p2) λBn A7 A8=>AH5<|AIc ?_;have Ac:=Ab.sb p2 A8 A7 rfl;obtain rfl:=AH0 Aw;exact ⟨_,AKs AOu (AKp (Ac.z p1)<|Ac.z p0) rfl (Ac.b p2),Ac.x,_,rfl,⟨_,_,rfl,(Ac.z p1),(Ac.z p0)⟩⟩
def ASh (fuel:Nat):Option (Int × Int):=
 (AUx fuel 1).bind λx8=>(AUx fuel 2).bind λAb=>some (x8,Ab)
theorem Abx {r:(Int × Int)} (hp:ASh fuel=some r):AI7 Tryz.prog 143 #[] h (λx h'=>Ext h h'/\ ∃ (x0:Value),x=x0/\Ais h' x0 r.1 r.2):=by
 unfold ASh at hp;refine cwf (l:=[]) Tryz.func143 rfl rfl (AH1<|ALm (Kst.k0 h) [.bool false,.slice none 0 0,.bool false,.slice none 0 0] AYz λb1 h2 E4 K7=>AQs ?_);obtain ⟨x8,Af,Ag⟩:=AH2 hp;refine AWr K7 (ATb Af) λAh Aw Ax Ai=>?_;obtain ⟨Ay,Aj,Ak⟩:=AH2 Ag;refine AWr Ai (ATb Aj) λAm Ad Az Aa=>ALe (Aex (Aa.z p1)<|Aa.z p0)<|AKo (Ah ++ Am) AOu (AKp (Aa.z p1)<|Aa.z p0) (AKp (AIo Ad)<|AIo Ad) rfl rfl (AUy (Aa.z p1)<|Aa.z p0) (Aa.b p2) λA3 Ao Ap=>AH5<|AIc ?_;have Ab:=Aa.sb p2 Ap Ao rfl;obtain rfl:=AH0 Ak;exact ⟨_,AKs AOu (AKp (Ab.z p1)<|Ab.z p0) rfl (Ab.b p2),Ab.x,_,rfl,⟨_,_,rfl,(Ab.z p1),(Ab.z p0)⟩⟩
def AS4 (fuel:Nat) (a3 a5 a9 Ag:Int):Option (Int × Int):=
 (AKy fuel a3 a5).bind λAa=>(AKy fuel a9 Ag).bind λAb=>(Aaz fuel Aa.1 Ab.2).bind λAh=>(Aaz fuel Ab.1 Aa.2).bind λAi=>(As7 fuel Ah Ai).bind λAj=>(Aaz fuel Aa.2 Ab.2).bind λAk=>(AO5 fuel Aj Ak).bind λ(Ac,Am)=>some (Ac.1,Ac.2)
theorem Ac3 {Bh:Value} {a3:Int} {Bl:Value} {Bn:Int} {r:(Int × Int)} (H2:Ais h Bh a3 a5) (H8:Ais h Bl a9 Bn) (hp:AS4 fuel a3 a5 a9 Bn=some r):AI7 Tryz.prog 142 #[Bh,Bl] h (λx h'=>Ext h h'/\ ∃ (x0:Value),x=x0/\Ais h' x0 r.1 r.2):=by
 unfold AS4 at hp;obtain ⟨Bp,Bq,rfl,H2z0,H2z1⟩:=H2;obtain ⟨Br,Bt,rfl,H8z0,H8z1⟩:=H8;refine cwf (l:=[_,_]) Tryz.func142 rfl rfl (AH1<|AP5 (Kst.k0 h) (Bp ++ Bq) λD3 D4 D5 Cj=>AP5 Cj (Br ++ Bt) λD6 D7 D8 Ck=>ALm Ck [.bool false,.slice none 0 0,.bool false,.slice none 0 0] AYz λD9 Ao Ea Ac=>AH5<|AH3 ?_);have Ap:UpT [] Ao Ao:=UpT.start all_nil;refine Acx (B:=λh'=>UpT [] Ao h') 4 [⟨5,143,[.bool false,.slice none 0 0,.bool false,.slice none 0 0]⟩,⟨6,143,[.bool false,.slice none 0 0,.bool false,.slice none 0 0]⟩] (λ_ _ U E=>U.thenE E) AIb Ap (Arh rfl rfl AYz rfl AYz rfl (λ_ _ U E=>U.thenE E))<|h_l rfl (AQr (Bp ++ Bq) AOu (AKp (Ac.zx H2z0)<|Ac.zx H2z1) rfl Ap (λh' hb=>((Ac.b p2).ext hb.ext).agg) (AIu<|h_e rfl λEb Bu=>?_));have Aq:=Ap.thenE Bu;have Ar:=Ac.e Bu;obtain ⟨Ec,Cm,Cn⟩:=AH2 hp;refine ALp Aq (λ_ E=>Aq.thenE E) rfl (AOa ⟨_,_,rfl,(Ar.zx H2z0),(Ar.zx H2z1)⟩ Cm) λEd Ee Au Co=>?_;obtain ⟨Ef,rfl,Cp⟩:=Co;have Bv:=Aq.thenE Au;obtain ⟨Bw,Av,rfl,Cq,Cr⟩:=Cp;have Aw:=((Ar.e Au).az Cq).az Cr;refine AIu ⟨Au,?_⟩;refine h_l rfl (AQr (Br ++ Bt) AOu (AKp (Aw.zx H8z0)<|Aw.zx H8z1) rfl Bv (λh' hb=>((Ac.b p1).ext hb.ext).agg) (AIu<|h_e rfl λEg Bx=>?_));have Ax:=Bv.thenE Bx;have Ay:=Aw.e Bx;obtain ⟨Eh,Ct,Cu⟩:=AH2 Cn;refine ALp Ax (λ_ E=>Ax.thenE E) rfl (AOa ⟨_,_,rfl,(Ay.zx H8z0),(Ay.zx H8z1)⟩ Ct) λEi Ej Az Cv=>?_;obtain ⟨Ek,rfl,Cw⟩:=Cv;have Cx:=Ax.thenE Az;obtain ⟨By,A3,rfl,Cy,Cz⟩:=Cw;refine AIu ⟨Az,?_⟩;refine Akd λBz B2=>A4s λEl Em B3 B4 C0 C1 C3 En Eo=>?_;have Aj:=(((Ay.e Az).az Cy).az Cz).e B2;have Ad:=((((Ac.nb2 (Cx.thenE B2).ext (Ari C1 C3 B3.lt B4.lt C0) B3 B4).az (Aj.z p3)).az (Aj.z p2)).az (Aj.z p1)).az (Aj.z p0);refine AKo (Bw ++ Av) AOu (AKp (Ad.z p3)<|Ad.z p2) (AKp (AIo Bz)<|AIo Bz) rfl rfl (AUy (Ad.z p3)<|Ad.z p2) (Ad.b p4) λB5 C4 C5=>?_;have Ae:=Ad.sb p4 C5 C4 rfl;refine AKo (By ++ A3) AOu (AKp (Ae.z p1)<|Ae.z p0) (AKp (AIo B5)<|AIo B5) rfl rfl (AUy (Ae.z p1)<|Ae.z p0) (Ae.b p5) λA4 C6 C7=>AH5<|AH3 ?_;have Aa:=Ae.sb p5 C7 C6 rfl;have Ak:UpT [] A4 A4:=UpT.start all_nil;refine Acx (B:=λh'=>UpT [] A4 h') 20 [⟨7,143,[.bool false,.slice none 0 0,.bool false,.slice none 0 0]⟩] (λ_ _ U E=>U.thenE E) AIb Ak (Am8 rfl AYz rfl (λ_ _ U E=>U.thenE E))<|h_l rfl (AOe (fs:=2) Ai6 AIb AHz rfl (AIu<|h_l rfl (AQr Bw AJz (cZ.klen<|Aa.z p3) rfl Ak (λh' hb=>((Aa.b p4).ext hb.ext).aggL) (AIu<|h_l rfl (AOe (fs:=2) Aew AIb AHz rfl (AIu<|h_l rfl (AQr A3 AJz (cZ.klen<|Aa.z p0) rfl Ak (λh' hb=>((Aa.b p5).ext hb.ext).aggR (cZ.klen<|Aa.z p1)) (AIu<|h_e rfl λEp B6=>?_))))))));have A5:=Aa.e B6;obtain ⟨Er,C8,C9⟩:=AH2 Cu;refine AOi A5 (Ak.thenE B6) (AYy (A5.z p3).2 (A5.z p0).2 C8) λEs Et Da Am A6=>AIu ⟨Da,?_⟩;refine h_l rfl (AOe (fs:=2) Ai6 AIb AHz rfl (AIu<|h_l rfl (AQr By AJz (cZ.klen<|Am.z p2) rfl A6 (λh' hb=>((Aa.b p5).ext hb.ext).aggL) (AIu<|h_l rfl (AOe (fs:=2) Aew AIb AHz rfl (AIu<|h_l rfl (AQr Av AJz (cZ.klen<|Am.z p3) rfl A6 (λh' hb=>((Aa.b p4).ext hb.ext).aggR (cZ.klen<|Am.z p4)) (AIu<|h_e rfl λEu B7=>?_))))))));have A7:=Am.e B7;obtain ⟨Ev,Db,Dc⟩:=AH2 C9;refine AOi A7 (A6.thenE B7) (AYy (A7.z p2).2 (A7.z p3).2 Db) λEw Ey Dd De Df=>AIu ⟨Dd,?_⟩;refine h_e rfl λEz B8=>?_;have A8:=De.e B8;obtain ⟨Fa,Dg,Dh⟩:=AH2 Dc;refine AOi A8 (Df.thenE B8) (Ard (A8.z p1).2 (A8.z p0).2 Dg) λFb Fc Di Ai A9=>AIu ⟨Di,?_⟩;refine h_l rfl (AOe (fs:=2) Aew AIb AHz rfl (AIu<|h_l rfl (AQr Av AJz (cZ.klen<|Ai.z p5) rfl A9 (λh' hb=>((Aa.b p4).ext hb.ext).aggR (cZ.klen<|Ai.z p6)) (AIu<|h_l rfl (AOe (fs:=2) Aew AIb AHz rfl (AIu<|h_l rfl (AQr A3 AJz (cZ.klen<|Ai.z p3) rfl A9 (λh' hb=>((Aa.b p5).ext hb.ext).aggR (cZ.klen<|Ai.z p4)) (AIu<|h_e rfl λFd B9=>?_))))))));have Ba:=Ai.e B9;obtain ⟨Fe,Dj,Dk⟩:=AH2 Dh;refine AOi Ba (A9.thenE B9) (AYy (Ba.z p5).2 (Ba.z p3).2 Dj) λFf Fg Dl Do Dp=>AIu ⟨Dl,?_⟩;refine h_e rfl λFh Ca=>?_;have Bb:=Dp.thenE Ca;have Bc:=Do.e Ca;obtain ⟨⟨Fi,Fj⟩,Dq,Cb⟩:=AH2 Dk;dsimp only at Cb;refine ALp Bb (λ_ E=>Bb.thenE E) rfl (AW9 (Bc.z p1).2 (Bc.z p0).2 Dq) λFk Fl Be Dr=>?_;obtain ⟨Fm,rfl,Ds⟩:=Dr;have Dt:=Bb.thenE Be;obtain ⟨Bf,Bg,rfl,Du,Dv⟩:=Ds;refine AIu ⟨Be,?_⟩;refine h_l rfl (AHy<|AIu<|h_l rfl (AJs rfl rfl (AIu<|h_l rfl (AJs rfl rfl (AIu<|Akd λCd Ce=>A1l λFo Cf Dw Fp=>?_)))));have Af:=(((Bc.e Be).az Du).az Dv).e Ce;have Ag:=((((((Aa.nb (Dt.thenE Ce).ext (ANs Dw Cf.lt) Cf).az (Af.z p5)).az (Af.z p4)).az (Af.z p3)).az (Af.z p2)).az (Af.z p1)).az (Af.z p0);refine AKo (Bf ++ Bg) AOu (AKp (Ag.z p1)<|Ag.z p0) (AKp (AIo Cd)<|AIo Cd) rfl rfl (AUy (Ag.z p1)<|Ag.z p0) (Ag.b p6) λCg Dx Dy=>AJd ?_;have Ab:=Ag.sb p6 Dy Dx rfl;refine ATy (Bf ++ Bg) AOu (AKp (Ab.z p1)<|Ab.z p0) rfl ((Ab.b p6).agg) (AKo (Bf ++ Bg) AOu (AKp (Ab.z p1)<|Ab.z p0) (AKp (AIo Cg)<|AIo Cg) rfl rfl (AUy (Ab.z p1)<|Ab.z p0) (Ab.b p13) λFq Dz D0=>AH5<|AIc ?_);have Ah:=Ab.sb p13 D0 Dz rfl;obtain rfl:=AH0 Cb;exact ⟨_,AKs AOu (AKp (Ah.z p1)<|Ah.z p0) rfl (Ah.b p13),Ah.x,_,rfl,⟨_,_,rfl,(Ah.z p1),(Ah.z p0)⟩⟩
def ARn (fuel:Nat) (a3 a5:Int):Option Int:=
 (AKy fuel a3 a5).bind λAa=>(ALv fuel Aa.1 Aa.2).bind λAd=>some Ad
theorem Abl {a3 r:Int} (H2:Ais h Ae a3 a5) (hp:ARn fuel a3 a5=some r):AI7 Tryz.prog 141 #[Ae] h (λx h'=>Ext h h'/\ ∃ (x0:Value),x=x0/\ZZ h' x0 r):=by
 unfold ARn at hp;obtain ⟨Ai,Aj,rfl,H2z0,H2z1⟩:=H2;refine cwf (l:=[_]) Tryz.func141 rfl rfl (AH1<|AP5 (Kst.k0 h) (Ai ++ Aj) λb7 h8 Bb Ar=>ALm Ar [.bool false,.slice none 0 0] ANt λBc Be Bf Ab=>AQs<|ATy (Ai ++ Aj) AOu (AKp (Ab.zx H2z0)<|Ab.zx H2z1) rfl ((Ab.b p1).agg) ?_);obtain ⟨Bg,Au,Av⟩:=AH2 hp;refine ASt rfl (AOa ⟨_,_,rfl,(Ab.zx H2z0),(Ab.zx H2z1)⟩ Au) λBh Bi Aw Ax=>?_;obtain ⟨Bj,rfl,Ay⟩:=Ax;obtain ⟨Ak,Am,rfl,Az,A3⟩:=Ay;refine ALm (((Ab.e Aw).az Az).az A3) [.bool false,.slice none 0 0,.bool false,.slice none 0 0] AYz λBl Ao Bm Ac=>AKo (Ak ++ Am) AOu (AKp (Ac.z p2)<|Ac.z p1) (AKp (AIo Ao)<|AIo Ao) rfl rfl (AUy (Ac.z p2)<|Ac.z p1) (Ac.b p0) λBn A4 A5=>AQs<|AOe (fs:=2) Ai6 AIb AHz rfl ?_;have Aa:=Ac.sb p0 A5 A4 rfl;refine ATy Ak AJz (cZ.klen<|Aa.z p2) rfl ((Aa.b p0).aggL) (AOe (fs:=2) Aew AIb AHz rfl (ATy Am AJz (cZ.klen<|Aa.z p1) rfl ((Aa.b p0).aggR (cZ.klen<|Aa.z p2)) ?_));obtain ⟨Bo,A6,A7⟩:=AH2 Av;refine AWr Aa (AQt (Aa.z p2).2 (Aa.z p1).2 A6) λBp A8 Bq Ap=>AOv Ap p4 (AIo A8) (Ap.z p0) λBr Ad=>AH5<|AIc ?_;obtain rfl:=AH0 A7;exact ⟨_,AKs AJz (cZ.klen<|Ad.z p0) rfl (Ad.b p4),Ad.x,_,rfl,(Ad.z p0).2⟩
def AOl (fuel:Nat) (a3 a5:Int):Option Int:=
 (ASh fuel).bind λAa=>(AS4 fuel a3 a5 Aa.1 Aa.2).bind λAb=>(ARn fuel Ab.1 Ab.2).bind λAe=>some Ae
theorem AZ7 {a3 r:Int} (H2:Ais h Ai a3 a5) (hp:AOl fuel a3 a5=some r):AI7 Tryz.prog 105 #[Ai] h (λx h'=>Ext h h'/\ ∃ (x0:Value),x=x0/\ZZ h' x0 r):=by
 unfold AOl at hp;obtain ⟨Ao,Ap,rfl,H2z0,H2z1⟩:=H2;refine cwf (l:=[_]) Tryz.func105 rfl rfl (AH1<|AP5 (Kst.k0 h) (Ao ++ Ap) λb7 h8 Bm Av=>ALm Av [.bool false,.slice none 0 0] ANt λBn Af Bo Ab=>AH5<|AH3<|AKg (λh'=>UpT [] Af h') AIb ?_);have Ac:UpT [] Af Af:=UpT.start all_nil;refine AQr (Ao ++ Ap) AOu (AKp (Ab.zx H2z0)<|Ab.zx H2z1) rfl Ac (λh' hb=>((Ab.b p1).ext hb.ext).agg) ?_;obtain ⟨Bp,Aw,Ax⟩:=AH2 hp;refine ALp Ac (λ_ E=>Ac.thenE E) rfl (Abx Aw) λBq Br Aq Ay=>?_;obtain ⟨Bt,rfl,Az⟩:=Ay;have Ag:=Ac.thenE Aq;obtain ⟨Bu,Bv,rfl,A3,A4⟩:=Az;have Aa:=((Ab.e Aq).az A3).az A4;obtain ⟨Bw,A5,A6⟩:=AH2 Ax;refine ALp Ag (λ_ E=>Ag.thenE E) rfl (Ac3 ⟨_,_,rfl,(Aa.zx H2z0),(Aa.zx H2z1)⟩ ⟨_,_,rfl,(Aa.z p1),(Aa.z p0)⟩ A5) λBx By Ar A7=>?_;obtain ⟨Bz,rfl,A8⟩:=A7;have A9:=Ag.thenE Ar;obtain ⟨B2,B3,rfl,Ba,Bb⟩:=A8;have Ah:=((Aa.e Ar).az Ba).az Bb;obtain ⟨B4,Bc,Be⟩:=AH2 A6;refine AOi Ah A9 (Abl ⟨_,_,rfl,(Ah.z p1),(Ah.z p0)⟩ Bc) λBf Bg B5 Ad B6=>AKo Bf AJz (cZ.klen<|Ad.z p0) (cZ.klen<|AIo Bg) rfl rfl (cZ.one<|Ad.z p0) (Ad.b p5) λB7 Bh Bi=>AH5<|AIc ?_;have Ae:=Ad.sb p5 Bi Bh rfl;obtain rfl:=AH0 Be;exact ⟨_,AKs AJz (cZ.klen<|Ae.z p0) rfl (Ae.b p5),Ae.x,_,rfl,(Ae.z p0).2⟩
def AOx (fuel:Nat) (a3:LiI) (a7:LiA) (a9:Int):Option Bool:=
 (AMe fuel a3 a9<|w64<|a9 - 1).bind λAc=>(AUx fuel 4).bind λAe=>(AKu fuel a7<|w64<|a9 - 1).bind λAf=>(AKu fuel a7<|w64<|a9 + 1).bind λAg=>(Aaz fuel Af Ag).bind λAh=>(Aaz fuel Ac Ac).bind λAi=>(As7 fuel Ah Ai).bind λAj=>(Aaz fuel Ae Aj).bind λAk=>(AUx fuel 3).bind λAm=>(AKu fuel a7 a9).bind λAo=>(AKu fuel a7 a9).bind λAp=>(Aaz fuel Ao Ap).bind λAq=>(Aaz fuel Am Aq).bind λAr=>(Al1 fuel Ak Ar).bind λAu=>some<|decide (0<=Au)
theorem Aal {Au:Value} {Aw:Value} {a7:LiA} {r:Bool} (H2:ANp cZ h Au a3) (H6:SlC cZ h Aw a7) (hp:AOx fuel a3 a7 a9=some r):AI7 Tryz.prog 109 #[Au,Aw,(.int .i64 a9)] h (λx h'=>Ext h h'/\x= .bool r):=by
 unfold AOx at hp;refine cwf (l:=[_,_,_]) Tryz.func109 rfl rfl (AH1<|AJd<|AHy<|AHy<|AHy<|AMy rfl rfl ?_);have K0:=Kst.k0 h;obtain ⟨Dh,Bm,Bn⟩:=AH2 hp;refine AWr K0 (AR6 (H2.ext K0.x) Bm) λDi Dj Dk Bo=>ALm Bo [.bool false,.slice none 0 0] ANt λDl Bp Do A3=>AOv A3 p0 (AIo Bp) (A3.z p1) λAe Ac=>AH5<|AH3 ?_;have A4:UpT [] Ae Ae:=UpT.start all_nil;refine Acx (B:=λh'=>UpT [] Ae h') 15 [⟨8,81,[.bool false,.slice none 0 0]⟩] (λ_ _ U E=>U.thenE E) AIb A4 (Am8 rfl ANt rfl (λ_ _ U E=>U.thenE E))<|h_e rfl λDp A5=>?_;obtain ⟨Dq,Bq,Br⟩:=AH2 Bn;refine AOi (Ac.e A5) (A4.thenE A5) (ATb Bq) λDr Ds Bt Bu Bv=>AIu ⟨Bt,?_⟩;refine h_l rfl (AHy<|AIu<|h_l rfl (AHy<|AIu<|h_l rfl (AMy rfl rfl (AIu<|h_e rfl λDt A6=>?_))));have A7:=Bu.e A6;obtain ⟨Du,Bw,Bx⟩:=AH2 Br;refine AOi A7 (Bv.thenE A6) (AMn (H6.ext A7.x) Bw) λDv Dw By Bz B2=>AIu ⟨By,?_⟩;refine h_l rfl (AHy<|AIu<|h_l rfl (AHy<|AIu<|h_l rfl (AI0 rfl rfl (AIu<|h_e rfl λDx A8=>?_))));have A9:=Bz.e A8;obtain ⟨Dy,B3,B4⟩:=AH2 Bx;refine AOi A9 (B2.thenE A8) (AMn (H6.ext A9.x) B3) λDz D0 B5 B6 B7=>AIu ⟨B5,?_⟩;refine h_e rfl λD3 Ba=>?_;have Af:=B6.e Ba;obtain ⟨D4,B8,B9⟩:=AH2 B4;refine AOi Af (B7.thenE Ba) (AYy (Af.z p1).2 (Af.z p0).2 B8) λD5 D6 Ca Ag Ah=>AIu ⟨Ca,?_⟩;refine h_l rfl (AW8 (Ag.z p5) Ah (Ac.b p0)<|AIu<|h_l rfl (AW8 (Ag.z p5) Ah (Ac.b p0)<|AIu<|h_e rfl λD7 Bb=>?_));have Ai:=Ag.e Bb;obtain ⟨D8,Cb,Cd⟩:=AH2 B9;refine AOi Ai (Ah.thenE Bb) (AYy (Ai.z p5).2 (Ai.z p5).2 Cb) λD9 Ea Ce Cf Cg=>AIu ⟨Ce,?_⟩;refine h_e rfl λEb Bc=>?_;have Aj:=Cf.e Bc;obtain ⟨Ec,Ch,Ci⟩:=AH2 Cd;refine AOi Aj (Cg.thenE Bc) (Ard (Aj.z p1).2 (Aj.z p0).2 Ch) λEd Ee Cj Ck Cm=>AIu ⟨Cj,?_⟩;refine h_e rfl λEf Be=>?_;have Ak:=Ck.e Be;obtain ⟨Eg,Cn,Co⟩:=AH2 Ci;refine AOi Ak (Cm.thenE Be) (AYy (Ak.z p5).2 (Ak.z p0).2 Cn) λCp Eh Cq Cr Ct=>AIu ⟨Cq,?_⟩;refine Akd λCu Bf=>A1l λEi Bg Cv Ej=>?_;have Aa:=Cr.e Bf;have Ad:=(((((((Ac.nb (Ct.thenE Bf).ext (ANs Cv Bg.lt) Bg).az (Aa.z p6)).az (Aa.z p5)).az (Aa.z p4)).az (Aa.z p3)).az (Aa.z p2)).az (Aa.z p1)).az (Aa.z p0);refine AKo Cp AJz (cZ.klen<|Ad.z p0) (cZ.klen<|AIo Cu) rfl rfl (cZ.one<|Ad.z p0) (Ad.b p7) λAm Cw Cx=>AH5<|AH3<|AKg (λh'=>UpT [] Am h') AIb ?_;have Ao:=Ad.sb p7 Cx Cw rfl;have Bh:UpT [] Am Am:=UpT.start all_nil;refine AW8 (Ao.z p0) Bh (Ao.b p7) ?_;obtain ⟨Ek,Cy,Cz⟩:=AH2 Co;refine AOi Ao Bh (ATb Cy) λEl Em En Bi C0=>AHy<|AHy ?_;obtain ⟨Eo,C1,C3⟩:=AH2 Cz;refine AOi Bi C0 (AMn (H6.ext Bi.x) C1) λEp Er Es Bj C4=>AHy<|AHy ?_;obtain ⟨Et,C5,C6⟩:=AH2 C3;refine AOi Bj C4 (AMn (H6.ext Bj.x) C5) λEu Ev Ew Ap C7=>?_;obtain ⟨Ey,C8,C9⟩:=AH2 C6;refine AOi Ap C7 (AYy (Ap.z p1).2 (Ap.z p0).2 C8) λEz Fa Fb Aq Da=>?_;obtain ⟨Fc,Db,Dc⟩:=AH2 C9;refine AOi Aq Da (AYy (Aq.z p3).2 (Aq.z p0).2 Db) λFd Fe Ff Ar Dd=>?_;obtain ⟨Fg,De,Df⟩:=AH2 Dc;refine Afo Ar Dd (Ake (Ar.z p5).2 (Ar.z p0).2 De) λFh Fi Dg Fj=>AUr rfl rfl (AH7<|AIc ?_);obtain rfl:=AH0 Df;exact ⟨_,AId,Dg.x,rfl⟩
def ATi (fuel:Nat) (a3:LiI) (x5:LiA) (Ab Aa:Int) (Ac:LiI):Option ((Int × LiI) ⊕ ((LiI × Bool) ⊕ LiI)):=
 if 0<=Aa then (APd fuel a3 x5 Ab Aa).bind λAh=>if (!Ah)=true then (gI Ac Aa).bind λAf=>(AMe fuel a3 Ab Aa).bind λAi=>(AKu fuel x5<|w64<|Aa + 1).bind λAj=>(AN5 fuel Ai Aj).bind λAg=>(AOl fuel Ag.1 Ag.2).bind λAk=>(Ao4 fuel Ak).bind λAm=>(gI Af Ab).bind λAo=>some (.inr<|.inl (sI Ac Aa<|sI Af Ab Am,true)) else some (.inl (w64<|Aa - 1,Ac)) else some<|.inr<|.inr Ac
def ATj (fuel:Nat) (a3:LiI) (x5:LiA) (Aa:Int) (Ae:LiI):Option ((Int × LiI) ⊕ ((LiI × Bool) ⊕ Unit)):=
 if Aa < (a3.length:Int) then (iter (λs=>ATi fuel a3 x5 Aa s.1 s.2) fuel (w64<|Aa - 1,Ae)).bind (λex=>match ex with | .inl Af=>(some<|.inr<|.inl Af) | .inr Ab=>if 0 < Aa then (AOx fuel a3 x5 Aa).bind λAg=>if (!Ag)=true then (gI Ab<|w64<|Aa - 1).bind λAh=>(gI Ab Aa).bind λAi=>some (.inr<|.inl (sI (sI Ab Aa Ah) (w64<|Aa - 1) Ai,true)) else some (.inl (w64<|Aa + 1,Ab)) else some<|.inl (w64<|Aa + 1,Ab)) else some<|.inr<|.inr ()
def APv (fuel:Nat) (a3:LiI):Option (LiI × Bool):=
 (AMz fuel a3).bind λ(x5,x6)=>(AMl fuel (a3.length:Int)).bind λ(Ac,Af)=>(iter (λs=>ATj fuel a3 x5 s.1 s.2) fuel (0,Ac)).bind (λex=>match ex with | .inl Ad=>(some Ad) | .inr _=>some ([],false))
theorem Aby {A3:Value} {r:(LiI × Bool)} (H2:ANp cZ h A3 a3) (hp:APv fuel a3=some r):AI7 Tryz.prog 55 #[A3] h (λx h'=>Ext h h'/\ ∃ (x0:Value) (F0:List Nat) (Br:List LnA) (Bt:List Value),x= .tuple #[x0,.bool r.2]/\ALl cZ 127 81 h' F0 Br Bt x0 r.1/\Sp h' h.size [F0]):=by
 unfold APv at hp;refine cwf (l:=[_]) Tryz.func55 rfl rfl (AH1<|AIw<|AJd<|AHy ?_);have K0:=Kst.k0 h;obtain ⟨⟨x5,x6⟩,Bu,A8⟩:=AH2 hp;dsimp only at A8;refine ASt rfl (AVe (H2.ext K0.x) Bu) λDh Di E9 Bw=>?_;obtain ⟨Dj,Dk,rfl,Bx,By⟩:=Bw;refine AHy<|AJs rfl rfl (AJs rfl rfl (AIw<|AJd<|AHy<|AJh AKj rfl H2 ?_));obtain ⟨⟨Bz,Dl⟩,B2,A9⟩:=AH2 A8;dsimp only at A9;refine ASt rfl (AUz B2) λDo Dp B3 B4=>?_;obtain ⟨Ba,B5,B6,B7,rfl,B8,B9⟩:=B4;refine AHy<|AJs rfl rfl (AJs rfl rfl (AIw<|AH7<|AH3<|AH1<|AHy<|AJh AKj rfl H2 (AHy<|AH5<|AH6 ?_)));have Bb:=(K0.no E9 By Bx).no2 B3 B9 B8;refine AOq 9671406556917033389261580 (λx:(Int) × (LiI) × LnA × LnN × LvA=>(x.1,x.2.1)) ((0,Bz,B5,B6,B7):(Int) × (LiI) × LnA × LnN × LvA) A9 (λx=>[(23,(.int .i64 x.1))]) (λx=>Bb.L.set 0<|aO2 cZ 127 81 x.2.2.1 x.2.2.2.1 x.2.2.2.2 Ba x.2.1) Bb ⟨rfl,trivial⟩ ?_;rintro ⟨Bc,Ca,Cb,Cd,Ce⟩ Dq Dr Ds Ag Ah Ai;unfold ATj at Ah;refine AH1<|AI3 rfl rfl (AH5<|AH3<|⟨_,rfl,λAj=>?_,λAj=>?_⟩)
 ·refine AIa<|q_t<|AH3<|AH6<|AH1<|AHy<|AH7<|AH3<|AH1<|AHy<|AMy rfl rfl (AH7<|AH6<|AOq 72057593769493004 (λx:(Int) × (LiI) × LnA × LnN × LvA=>(x.1,x.2.1)) (((w64<|Bc - 1),Ca,Cb,Cd,Ce):(Int) × (LiI) × LnA × LnN × LvA) (AJb Ah Aj) (λx=>[(9,(.int .i64 x.1))]) (λx=>Ag.L.set 0<|aO2 cZ 127 81 x.2.2.1 x.2.2.2.1 x.2.2.2.2 Ba x.2.1) Ag ⟨rfl,trivial⟩ ?_);rintro ⟨Be,Dt,Du,Dv,Dw⟩ Dx Dy Dz Aa Ak Bf;unfold ATi at Ak;refine AH3<|AH1<|AHy<|AUr rfl rfl (AH5<|⟨_,rfl,λAm=>?_,λAm=>?_⟩)
  ·refine AIa<|q_t<|AH3<|AH6<|AH1<|AHy<|AHy<|AHy<|AHy ?_;obtain ⟨D0,Cf,Bg⟩:=AH2<|AJb Ak Am;refine ALx Aa (Abh (H2.ext Aa.x) (Aa.o p1).rd Cf) λAo D3 Ac=>AMp rfl (AH5<|⟨_,rfl,λAp=>?_,λAp=>?_⟩)
   ·refine AH3<|AKg (λh'=>UpT [] Ao h') AIb ?_;have Bh:UpT [] Ao Ao:=UpT.start all_nil;refine AHy<|AHy ?_;obtain ⟨D4,Aq,Cg⟩:=AH2<|ifT Bg Ap;refine AJr AKj rfl (Ac.o2 p0) rfl Aq λD5 D6 D7 Ch Ci=>AJe AMq rfl Bh (λh' hb=>AIj Ci hb.ext) (AHy<|AHy<|AHy<|AHy ?_);obtain ⟨D8,Cj,Ck⟩:=AH2 Cg;refine AOi Ac Bh (AR6 (H2.ext Ac.x) Cj) λD9 Ea Eb Bi Cm=>AHy<|AHy<|AI0 rfl rfl ?_;obtain ⟨Ec,Cn,Co⟩:=AH2 Ck;refine AOi Bi Cm (AMn (Bi.o p2).rd Cn) λEd Ee Ef Ar Au=>?_;obtain ⟨Eg,Cp,Cq⟩:=AH2 Co;refine ALp Au (λ_ E=>Au.thenE E) rfl (AZe (Ar.z p1).2 (Ar.z p0).2 Cp) λEh Ei Bj Cr=>?_;obtain ⟨Ej,rfl,Ct⟩:=Cr;have Cu:=Au.thenE Bj;obtain ⟨Ek,El,rfl,Cv,Cw⟩:=Ct;have Av:=((Ar.e Bj).az Cv).az Cw;obtain ⟨Em,Cx,Cy⟩:=AH2 Cq;refine AOi Av Cu (AZ7 ⟨_,_,rfl,(Av.z p1),(Av.z p0)⟩ Cx) λEn Eo Ep Bl Cz=>?_;obtain ⟨Er,C0,C1⟩:=AH2 Cy;refine AOi Bl Cz (Am7 (Bl.z p0).2 C0) λEs Et Eu Ad Ev=>?_;obtain ⟨Ew,Bm,C3⟩:=AH2 C1;refine AJy (m:=Be) ALs rfl (Ac.o2 p0) Ch Aq rfl Bm λEy C4=>AN2 (m:=Be) (Aaw AJz (cZ.klen<|Ad.z p0) rfl rfl (cZ.one<|Ad.z p0)) (Ad.o2 p6) C4 Aq Bm (Ad.z p0) λEz C5 C6=>AQs<|AHy<|AIw<|AH7<|AIc<|AKa<|AIt<|AIt<|AKa<|AIt<|AKa<|AIt<|AIt<|AKa<|AIt ?_;have Aw:=Ad.uO2 p6 C6 C5;obtain rfl:=AH0<|Ai _ (AH0<|Bf _ (AH0 C3).symm).symm;exact ⟨_,AJu,Aw.x,_,_,_,_,rfl,(Aw.o2 p6),Aw.s.sel [6] AHz⟩
   ·refine AIa<|q_b<|q_t<|AIf<|AHy<|AMy rfl rfl (AH7 ?_);exact ⟨(_,_,_,_,_),(AH0<|AQa Bg Ap).symm,Ac,rfl,trivial⟩
  ·refine AIq<|AIr<|AIr<|AJt<|q_t<|AH1<|AHy<|APu rfl rfl (AHy ?_);have Bn:=Bf _ (AH0<|AJc Ak Am).symm;by_cases Af:0 < Bc
   ·rw [decide_eq_true Af];refine AIs 58 true<|AHy<|AIs 58 true<|AHy<|AIs 58 true<|AHy<|AIs 58 true ?_;obtain ⟨Fa,C7,Bo⟩:=AH2<|ifT Bn Af;refine ALx Aa (Aal (H2.ext Aa.x) (Aa.o p1).rd C7) λFb Fc Ae=>AIs 58 true<|AMp rfl (AIm rfl (AH5<|⟨_,rfl,λAx=>?_,λAx=>?_⟩))
    ·refine AH3<|AMw<|AHy<|AHy<|AHy<|AHy<|AMy rfl rfl (AHy<|AHy<|AMy rfl rfl ?_);obtain ⟨Fd,Bp,C8⟩:=AH2<|ifT Bo Ax;refine AKe AKj AMq (Ae.o2 p0) Bp λ_ Fe C9=>AHy<|AHy ?_;obtain ⟨Ff,Bq,Da⟩:=AH2 C8;refine AKe AKj AMq (Ae.o2 p0) Bq λ_ Fg Db=>AX2 AKj AMq (Ae.o2 p0) Db C9 Bq Bp rfl rfl (λ_=>rfl) (λ_=>rfl) (λ_=>rfl) (λ_ _=>rfl) λFh Fi Fj Fk Fl Fm Dc Dd De=>AQs<|AHy<|AIw<|AH7<|AIc<|AKa<|AIt<|AIt<|AKa<|AIt ?_;have Ay:=Ae.uo2 p0 Dd Dc De;obtain rfl:=AH0<|Ai _ (AH0 Da).symm;exact ⟨_,AJu,Ay.x,_,_,_,_,rfl,(Ay.o2 p0),Ay.s.sel [0] AHz⟩
    ·refine AIa<|q_b<|q_t<|AIf<|AI0 rfl rfl (AHy<|AH5 ?_);exact ⟨(_,_,_,_,_),(AH0<|AQa Bo Ax).symm,Ae,rfl,trivial⟩
   ·rw [decide_eq_false Af];refine AN1 58 false<|AIn rfl (AH5<|AI6 rfl (AIa<|q_b<|q_t<|AIf<|AI0 rfl rfl (AHy<|AH5 ?_)));exact ⟨(_,_,_,_,_),(AH0<|ifF Bn Af).symm,Aa,rfl,trivial⟩
 ·refine AIq<|AIr<|AIr<|AJt<|q_t<|AH1<|AIw<|AH7<|AIc ?_;have Az:=Kst.anil2 cZ 127 81 Ag;obtain rfl:=AH0<|Ai _ (AH0<|AJc Ah Aj).symm;exact ⟨_,AJu,Az.x,_,_,_,_,rfl,(Az.o2 p0),Az.s.sel [0] AHz⟩
def AR7 (fuel:Nat) (Aa Ab:LiI):Option ((LiI × LiI) ⊕ (LiI × LiI × Int)):=
 (APv fuel Aa).bind λ(Ac,Ad)=>if (!Ad)=true then (AOw fuel Aa).bind λ(Ae,Ah)=>some (.inr (Ae,Ab,0)) else (ALk fuel Aa Ac).bind λAf=>(AKt fuel Ab Ac).bind λAg=>some<|.inl (Af,Ag)
def ANi (fuel:Nat) (a3:LiI):Option (LiI × LiI × Int):=
 (AMm fuel a3).bind λx5=>if ¬ x5=0 then some ([],[],x5) else (APe fuel a3).bind λAc=>if (!Ac)=true then some ([],[],7) else (AOj fuel a3).bind λAd=>(AMl fuel (a3.length:Int)).bind λ(Ae,Ag)=>(iter (λs=>AR7 fuel s.1 s.2) fuel (Ad,Ae)).bind (λ(Af:(LiI × LiI × Int))=>some Af)
theorem AV1 {Ao:Value} {r:(LiI × LiI × Int)} (H2:ANp cZ h Ao a3) (hp:ANi fuel a3=some r):AI7 Tryz.prog 19 #[Ao] h (λx h'=>Ext h h'/\ ∃ (x0:Value) (F0:List Nat) (A7:List LnA) (A8:List Value) (x1:Value) (F1:List Nat) (A9:List LnA) (Ba:List Value),x= .tuple #[x0,x1,.int .i64 r.2.2]/\ALl (cI .i64) 41 2 h' F0 A7 A8 x0 r.1/\ALl cZ 127 81 h' F1 A9 Ba x1 r.2.1/\Sp h' h.size [F0,F1]):=by
 unfold ANi at hp;refine cwf (l:=[_]) Tryz.func19 rfl rfl (AH1<|AIw<|AIw<|AH7<|AH3<|AH1<|AHy ?_);have K0:=Kst.k0 h;obtain ⟨x5,Bb,Ax⟩:=AH2 hp;refine ALx K0 (AU0 (H2.ext K0.x) Bb) λh9 E8 Af=>AJd<|AHy<|AK0 rfl rfl (AH5<|⟨_,rfl,λAg=>?_,λAg=>?_⟩)
 ·refine AH1<|AHy<|AIw<|AIw<|AH7<|AIc<|AIt ?_;have Ac:=Kst.anil2 cZ 127 81<|Kst.anil2 (cI .i64) 41 2 Af;obtain rfl:=AH0<|AJb Ax Ag;exact ⟨_,ASo,Ac.x,_,_,_,_,_,_,_,_,rfl,(Ac.o2 p1),(Ac.o2 p0),Ac.s.sel [1,0] AHz⟩
 ·refine AIa<|q_t<|AH3<|AH1<|AHy ?_;obtain ⟨Ck,Bc,Ay⟩:=AH2<|AJc Ax Ag;refine ALx Af (Abi (H2.ext Af.x) Bc) λCm Cn Ah=>AMp rfl (AH5<|⟨_,rfl,λAi=>?_,λAi=>?_⟩)
  ·refine AH1<|AIw<|AIw<|AH7<|AIc<|AIt ?_;have Ad:=Kst.anil2 cZ 127 81<|Kst.anil2 (cI .i64) 41 2 Ah;obtain rfl:=AH0<|ifT Ay Ai;exact ⟨_,ASo,Ad.x,_,_,_,_,_,_,_,_,rfl,(Ad.o2 p1),(Ad.o2 p0),Ad.s.sel [1,0] AHz⟩
  ·refine AIa<|q_t<|AH1<|AHy ?_;obtain ⟨Be,Bf,Bg⟩:=AH2<|AQa Ay Ai;refine AWs Ah (AWo (H2.ext Ah.x) Bf) λBh Bi Bj Bl Co Cp Bm=>AJd<|AHy<|AJh AKj rfl H2 ?_;obtain ⟨⟨Bn,Cq⟩,Bo,Az⟩:=AH2 Bg;dsimp only at Az;refine ASt rfl (AUz Bo) λCr Ct Bp Bq=>?_;obtain ⟨Br,Bt,Bu,Bv,rfl,Bw,Bx⟩:=Bq;refine AHy<|AJs rfl rfl (AJs rfl rfl (AIw<|AH7<|AH6 ?_));have A3:=Bm.no2 Bp Bx Bw;refine AOq 562949416558300 (λx:(LiI) × (Value) × LnA × LnN × LvA × (LiI) × (Value) × LnA × LnN × LvA=>(x.1,x.2.2.2.2.2.1)) ((Be,Bl,Bh,Bi,Bj,Bn,Br,Bt,Bu,Bv):(LiI) × (Value) × LnA × LnN × LvA × (LiI) × (Value) × LnA × LnN × LvA) Az (λx=>[(6,x.2.1),(7,x.2.2.2.2.2.2.1)]) (λx=>(A3.L.set 1<|aO2 cZ 127 81 x.2.2.1 x.2.2.2.1 x.2.2.2.2.1 x.2.1 x.1).set 0 (aO2 cZ 127 81 x.2.2.2.2.2.2.2.1 x.2.2.2.2.2.2.2.2.1 x.2.2.2.2.2.2.2.2.2 x.2.2.2.2.2.2.1 x.2.2.2.2.2.1)) A3 ⟨rfl,rfl,trivial⟩ ?_;rintro ⟨Cu,Cv,Cw,Cx,Cy,Cz,C0,C1,C3,C4⟩ C5 C6 C7 A4 A5 By;unfold AR7 at A5;refine AH6<|AH1<|AHy ?_;obtain ⟨⟨C8,C9⟩,Bz,Aj⟩:=AH2 A5;dsimp only at Aj;refine ASt rfl (Aby (A4.o2 p1).rd Bz) λDa Db B2 B3=>?_;obtain ⟨Dc,Dd,De,Df,rfl,B4,B5⟩:=B3;refine AHy<|AJs rfl rfl (AJs rfl rfl (AIw<|AH7<|AH3<|AH1<|AHy<|AMp rfl (AH5 ?_)));have Aa:=A4.no2 B2 B5 B4;refine ⟨_,rfl,λAk=>?_,λAk=>?_⟩
   ·refine AH1<|AHy ?_;obtain ⟨⟨Dg,Dh⟩,B6,A6⟩:=AH2<|ifT Aj Ak;dsimp only at A6;refine ASt rfl (Aak (Aa.o2 p2).rd B6) λDi Dj B7 B8=>?_;obtain ⟨Dk,Dl,Do,Dp,rfl,B9,Ca⟩:=B8;refine AHy<|AJs rfl rfl (AJs rfl rfl (AIw<|AJd<|AHy<|AHy<|AIw<|AIw<|AH7<|AIc<|AIt<|AKa<|AIt<|AKa ?_));have Ae:=Aa.no2 B7 Ca B9;obtain rfl:=AH0<|By _ (AH0 A6).symm;exact ⟨_,ASo,Ae.x,_,_,_,_,_,_,_,_,rfl,(Ae.o2 p0),(Ae.o2 p2),Ae.s.sel [0,2] AHz⟩
   ·refine AIa<|q_t<|AIf<|AHy<|AHy ?_;obtain ⟨Dq,Cb,Cd⟩:=AH2<|AQa Aj Ak;refine AWs Aa (AUm (Aa.o2 p2).rd (Aa.o2 p0).rd Cb) λDr Ds Dt Du Dv Dw Am=>AHy<|AHy ?_;obtain ⟨Dx,Ce,Cf⟩:=AH2 Cd;refine AWs Am (ARf (Am.o2 p2).rd (Am.o2 p1).rd Ce) λDy Dz D0 D3 D4 D5 Cg=>AIw<|AIw<|AIu<|q_b<|q_t ?_;exact ⟨(_,_,_,_,_,_,_,_,_,_),(AH0 Cf).symm,Cg.sel [0,1] AHz,rfl,rfl,trivial⟩
end Go.Proofs.YtegoafpaljeobaaGreatDoor
namespace Go.QF
def Ok {α:Type} (o:Option α) (Q:α->Prop):Prop:= ∃ r,o=some r/\Q r
theorem AH4 {a:α} {Q:α->Prop} (h:Q a):Ok (some a) Q:=⟨a,rfl,h⟩
theorem AH9 {β:Type} {o:Option α} {f:α->Option β} {Q:α->Prop} {R:β->Prop} (h:Ok o Q) (k:∀ x,Q x->Ok (f x) R):Ok (o.bind f) R:=by
 obtain ⟨x,rfl,hx⟩:=h;exact k x hx
theorem AI4 {c:Prop} [Decidable c] {a b:Option α} {R:α->Prop} (ht:c->Ok a R) (hf: ¬ c->Ok b R):Ok (if c then a else b) R:=by
 grind
theorem AJ4 {c:Prop} [Decidable c] {a:Option α} {R:α->Prop} (hc:c) (h:Ok a R):Ok (if c then a else none) R:=by grind
theorem ok_eq {o:Option α} {a:α} (h:Ok o (· =a)):o=some a:=by obtain ⟨x,h1,rfl⟩:=h;exact h1
theorem AJ2 {o:Option α} {a:α} (h:o=some a):Ok o (· =a):=⟨a,h,rfl⟩
theorem AI8 {β:Type} {L:List α} {i:Int} {n:Nat} {x:α} {f:α->Option β} {R:β->Prop} (hx:L[n]? =some x) (hi:i=n) (k:Ok (f x) R):Ok ((gI L i).bind f) R:=by
 subst hi;unfold gI;grind
theorem AJg {S E:Type} {body:S->Option (S ⊕ E)} {s0:S} (I:Nat->S->Prop) (n:Nat) {Q:E->Prop} (h0:I 0 s0) (hf:n < fuel) (hs:∀ i s,i<=n->I i s->Ok (body s) λr=>match r with | .inl s'=>i < n/\I (i + 1) s' | .inr e=>Q e):Ok (iter body fuel s0) Q:=by
 have key:∀ k fuel i s,n - i=k->k < fuel->i<=n->I i s->Ok (iter body fuel s) Q:=by
  intro k;induction k with
  | zero=>
    intro fuel i s hk hf hi hI;obtain ⟨r,hr,hq⟩:=hs i s hi hI;cases fuel with
    | zero=>omega
    | succ f=>
      cases r with
      | inl s'=>omega
      | inr e=>exact ⟨e,by simp [iter,hr],hq⟩
  | succ k ih=>
    intro fuel i s hk hf hi hI;obtain ⟨r,hr,hq⟩:=hs i s hi hI;cases fuel with
    | zero=>omega
    | succ f=>
      cases r with
      | inl s'=>
        obtain ⟨e,he,hQ⟩:=ih f (i + 1) s' AHx AHx AHx hq.2;exact ⟨e,by simp [iter,hr,he],hQ⟩
      | inr e=>exact ⟨e,by simp [iter,hr],hq⟩
 grind
theorem AKn (h1: -9223372036854775808<=x) (h2:x<=9223372036854775807):w64 x=x:=by
 show IntKind.i64.wrap x=x;rw [IntKind.wrap_i64];omega
theorem wk (h: -9223372036854775808<=x/\x<=9223372036854775807):w64 x=x:=AKn h.1 h.2
def AK7 {α:Type} (m:Nat) (f:Nat->α):List α:=(List.range m).map f
theorem AJ5 (m:Nat) (f:Nat->α):(AK7 m f).length=m:=by simp [AK7]
theorem AI5 {m:Nat} {f:Nat->α} (h:j < m):(AK7 m f)[j]? =some (f j):=by simp [AK7,h]
theorem AJ3 {m:Nat} {f g:Nat->α} (h:∀ j,j < m->f j=g j):AK7 m f=AK7 m g:=by
 unfold AK7;simp_all
theorem AL7 {m:Nat} {f:Nat->α} {x:α}:(AK7 m f).set j x=AK7 m λc=>if c=j then x else f c:=by
 apply List.ext_getElem?;intro i;rw [List.getElem?_set];by_cases h:j=i
 ·subst h;simp only [if_true,AJ5];by_cases hj:j < m
  ·simp [hj,AI5 hj]
  ·simp [hj,AK7]
 ·rw [if_neg h];by_cases hi:i < m
  ·rw [AI5 hi,AI5 hi,if_neg λhe=>h he.symm]
  ·simp [AK7,hi]
theorem AX3 (m:Nat) (f:Nat->α):AK7 m f ++ [f m]=AK7 (m + 1) f:=by simp [AK7,List.range_succ]
theorem AOm (m:Nat) (a:α):List.replicate m a=AK7 m λ_=>a:=by
 apply List.ext_getElem?;intro i;by_cases h:i < m
 ·rw [AI5 h];simp [h]
 ·simp [AK7,h]
theorem AYg (r c:Nat) (F:AIe):tab r c F=AK7 r λi=>AK7 c (F i):=rfl
theorem AJo {c:Nat} (h:i < r):(tab r c F)[i]? =some (AK7 c<|F i):=AI5 (f:=λi=>AK7 c<|F i) h
theorem Ax5 {c:Nat}:(tab r c F).set i (AK7 c λq=>if q=j then x else F i q)=tab r c (AKi F i λq=>if q=j then x else F i q):=AS8
theorem AKf (L:List α) (n:Nat) (x:α):sI L (n:Int) x=L.set n x:=by simp [sI]
theorem Aey (F:AIe) (i:Nat) (f g:Nat->Int):AKi (AKi F i f) i g=AKi F i g:=by
 funext k;by_cases h:k=i
 ·subst h;rw [AKk,AKk]
 ·rw [AOt _ _ h,AOt _ _ h,AOt _ _ h]
theorem AX4 (F:AIe) (i:Nat):AKi F i (F i)=F:=by
 funext k;by_cases h:k=i
 ·subst h;rw [AKk]
 ·rw [AOt _ _ h]
theorem ATk (f g:Nat->Int) (n:Nat):psum (λi=>f i + g i) n=psum f n + psum g n:=by
 induction n with
 | zero=>rfl
 | succ n ih=>simp only [psum];rw [ih];omega
theorem ALz (c:Int) (f:Nat->Int) (n:Nat):psum (λi=>c * f i) n=c * psum f n:=by
 induction n with
 | zero=>simp [psum]
 | succ n ih=>simp only [psum];grind
theorem AM0 (n:Nat):psum (λ_=>0) n=0:=by
 induction n with
 | zero=>rfl
 | succ n ih=>simp only [psum];rw [ih];rfl
theorem AZm (f:AIe) (n m:Nat):psum (λi=>psum (λj=>f i j) m) n=psum (λj=>psum (λi=>f i j) n) m:=by
 induction n with
 | zero=>simp only [psum];exact (AM0 m).symm
 | succ n ih=>
   simp only [psum]
   rw [ih,<- ATk]
theorem Ax6 {n:Nat} (ha:a < n) (h:∀ i,i≠a->g i=f i):psum g n=psum f n + (g a - f a):=by
 induction n with
 | zero=>omega
 | succ n ih=>
   simp only [psum]
   by_cases hn:a=n
   ·subst hn;rw [AIl (f:=g) (g:=f) λk hk=>h k AHx];omega
   grind
theorem ATl {n:Nat} (ha:a < n) (h:∀ i,i≠a->f i=0):psum f n=f a:=by
 rw [Ax6 (f:=λ_=>0) ha h,AM0];omega
def Eqm (m a b:Int):Prop:=a % m=b % m
theorem Eqm.refl (m a:Int):Eqm m a a:=rfl
theorem Eqm.of_eq {m a b:Int} (h:a=b):Eqm m a b:=h ▸ rfl
theorem Eqm.symm {m a b:Int} (h:Eqm m a b):Eqm m b a:=Eq.symm h
theorem Eqm.trans {m a b c:Int} (h:Eqm m a b) (k:Eqm m b c):Eqm m a c:=Eq.trans h k
theorem Eqm.add {m a b c:Int} (h:Eqm m a b) (k:Eqm m c d):Eqm m (a + c) (b + d):=by
 unfold Eqm at *;rw [Int.add_emod,h,k,<- Int.add_emod]
theorem Eqm.sub {m a b c:Int} (h:Eqm m a b) (k:Eqm m c d):Eqm m (a - c) (b - d):=by
 unfold Eqm at *;rw [Int.sub_emod,h,k,<- Int.sub_emod]
theorem Eqm.mul {m a b c:Int} (h:Eqm m a b) (k:Eqm m c d):Eqm m (a * c) (b * d):=by
 unfold Eqm at *;rw [Int.mul_emod,h,k,<- Int.mul_emod]
theorem Eqm.mod (m a:Int):Eqm m (a % m) a:=Int.emod_emod_of_dvd a<|Int.dvd_refl m
theorem Eqm.psum {m:Int} {f g:Nat->Int} {n:Nat} (h:∀ i,i < n->Eqm m (f i) (g i)):Eqm m (psum f n) (psum g n):=by
 induction n with
 | zero=>rfl
 | succ n ih=>exact (ih λi hi=>h i AHx).add (h n AHx)
theorem Eqm.zero {m a:Int} (h:Eqm m a 0):a % m=0:=by simpa [Eqm] using h
theorem Avc {m a b:Int} (h:Eqm m a b) (ha:0<=a/\a < m) (hb:0<=b/\b < m):a=b:=by
 unfold Eqm at h;rwa [Int.emod_eq_of_lt ha.1 ha.2,Int.emod_eq_of_lt hb.1 hb.2] at h
theorem Apa (hk:k<=r) (h:∀ i,k<=i->i < r->f i=0):psum f r=psum f k:=by
 induction r with
 | zero=>rw [Nat.le_zero.1 hk]
 | succ r ih=>
   rcases Nat.lt_or_ge k (r + 1) with h1 | h1
   ·simp only [psum]
    rw [ih AHx λi h2 h3=>h i h2 AHx,h r AHx AHx];omega
   ·obtain rfl:k=r + 1:=by omega
    rfl
def dl (a b:Nat):Int:=if a=b then 1 else 0
def skp (i a:Nat):Nat:=if a < i then a else a + 1
def usk (i r:Nat):Nat:=if r < i then r else r - 1
def sg (i:Nat):Int:=if i % 2=0 then 1 else -1
theorem Atc (i:Nat):sg (i + 1)= -sg i:=by unfold sg;omega
theorem A4y (i a:Nat):skp i a≠i:=by unfold skp;split <;> omega
theorem Ax7 {n:Nat} (ha:a < n):skp i a < n + 1:=by unfold skp;split <;> omega
theorem A1w (h:r≠i):skp i (usk i r)=r:=by
 unfold usk;split <;> (unfold skp;split <;> omega)
theorem A1x (h:skp i a=r):a=usk i r:=by unfold skp at h;unfold usk;grind
theorem Ax8 {n:Nat} (h:r≠i) (hi:i < n + 1) (hr:r < n + 1):usk i r < n:=by unfold usk;split <;> omega
theorem AJa (F:AIe) (a:Nat) (g:Nat->Int) (i j:Nat):AKi F a g i j=if i=a then g j else F i j:=by
 unfold AKi;split <;> rfl
theorem AVu (F:AIe) (a b i j:Nat):AOg F a b i j=if i=b then F a j else if i=a then F b j else F i j:=by
 unfold AOg;rw [AJa,AJa]
def AMx (i:Nat) (F:AIe):AIe:=λa b=>F (skp i a)<|b + 1
def det:Nat->(AIe)->Int
 | 0,_=>1
 | n + 1,F=>psum (λi=>sg i * F i 0 * det n (AMx i F))<|n + 1
theorem AJm:∀ {n:Nat} {F G:AIe},(∀ i j,i < n->j < n->F i j=G i j)->det n F=det n G:=by
 intro n
 induction n with
 | zero=>intro _ _ _;rfl
 | succ n ih=>
   intro F G h
   refine AIl λi hi=>?_
   rw [h i 0 hi AHx,ih (F:=AMx i F) (G:=AMx i G) λa b ha hb=>h _ _ (Ax7 ha) AHx]
theorem Ac4 (h:r≠i):AMx i (AKi F r g)=AKi (AMx i F) (usk i r) (λb=>g<|b + 1):=by
 funext a b;unfold AMx AKi;by_cases ha:skp i a=r
 ·rw [if_pos ha,if_pos<|A1x ha]
 ·rw [if_neg ha,if_neg λhe=>ha<|by rw [he,A1w h]]
theorem Adn:AMx i (AKi F i g)=AMx i F:=by
 funext a b;unfold AMx;rw [AOt _ _<|A4y i a]
theorem Aa3:∀ {n:Nat} {F:AIe} {r:Nat} (u v:Nat->Int) (c d:Int),r < n->det n (AKi F r λq=>c * u q + d * v q)=c * det n (AKi F r u) + d * det n (AKi F r v):=by
 intro n
 induction n with
 | zero=>omega
 | succ n ih=>
   intro F r u v c d hr
   simp only [det]
   rw [<- ALz,<- ALz,<- ATk]
   refine AIl λi hi=>?_
   by_cases h:r=i
   ·subst h
    simp only [Adn,AKk]
    grind
   ·rw [Ac4 h,Ac4 h,Ac4 h,AOt _ _<|Ne.symm h,AOt _ _<|Ne.symm h,AOt _ _<|Ne.symm h,ih (λb=>u<|b + 1) (λb=>v<|b + 1) c d<|Ax8 h hi hr]
    grind
theorem Ax9 {n s:Nat} (hr:r < n) (hs:s < n) (hrs:r≠s) (h:∀ i,i < n->i≠r->i≠s->f i=0):psum f n=f r + f s:=by
 have h1:psum f n=psum (λi=>(if i=r then f r else 0) + (if i=s then f s else 0)) n:=AIl λi hi=>by
  grind
 rw [h1,ATk,ATl (f:=λi=>if i=r then f r else 0) hr λi hi=>if_neg hi,ATl (f:=λi=>if i=s then f s else 0) hs λi hi=>if_neg hi,if_pos rfl,if_pos rfl]
theorem Atd:∀ {n:Nat} {F:AIe} {r:Nat},r + 1 < n->(∀ q,q < n->F r q=F (r + 1) q)->det n F=0:=by
 intro n
 induction n with
 | zero=>omega
 | succ n ih=>
   intro F r hr h
   simp only [det]
   rw [Ax9 (r:=r) (s:=r + 1) AHx AHx AHx]
   ·have:det n (AMx r F)=det n (AMx (r + 1) F):=AJm λa b ha hb=>by
     unfold AMx skp
     grind
    rw [this,Atc,h 0 AHx]
    grind
   ·intro i hi h1 h2
    rcases Nat.lt_or_ge i r with hlt | hge
    ·rw [ih (F:=AMx i F) (r:=r - 1) AHx]
     ·simp
     ·intro q hq
      unfold AMx skp
      grind
    ·rw [ih (F:=AMx i F) (r:=r) AHx]
     ·simp
     ·intro q hq
      unfold AMx skp
      grind
theorem AZn {b:Nat} (h:a≠b) (u v:Nat->Int):AKi (AKi F a u) b v=AKi (AKi F b v) a u:=by
 funext k;unfold AKi;grind
theorem Apb {n:Nat} {b:Nat} (ha:a < n) (hb:b < n) (hab:a≠b) (h0:∀ G:AIe,G a=G b->det n G=0):det n (AOg F a b)= -det n F:=by
 have key:∀ u v:Nat->Int,det n (AKi (AKi F a u) b v)= -det n (AKi (AKi F a v) b u):=by
  intro u v;have h1:=h0 (AKi (AKi F a λq=>1 * u q + 1 * v q) b λq=>1 * u q + 1 * v q) (by rw [AKk,AOt _ _ hab,AKk]);rw [Aa3 u v 1 1 hb,AZn hab,AZn hab,Aa3 u v 1 1 ha,Aa3 u v 1 1 ha,AZn<|Ne.symm hab,AZn<|Ne.symm hab,AZn<|Ne.symm hab,AZn<|Ne.symm hab] at h1;have h2:=h0 (AKi (AKi F a u) b u) (by rw [AKk,AOt _ _ hab,AKk]);have h3:=h0 (AKi (AKi F a v) b v) (by rw [AKk,AOt _ _ hab,AKk]);omega
 unfold AOg;rw [key (F b)<|F a,AX4];rw [show AKi F b (F b)=F from AX4 F b]
theorem Ate:∀ {d n:Nat} {F:AIe} {a:Nat},a + d + 1 < n->F a=F (a + d + 1)->det n F=0:=by
 intro d
 induction d with
 | zero=>intro n F a hn h;exact Atd hn λq _=>by rw [h]
 | succ d ih=>
   intro n F a hn h
   have h1:=Apb (n:=n) (F:=F) (a:=a + d + 1) (b:=a + d + 1 + 1) AHx AHx AHx λG hG=>Atd (r:=a + d + 1) AHx λq _=>congrFun hG q
   have h2:=ih (n:=n) (F:=AOg F (a + d + 1)<|a + d + 1 + 1) (a:=a) AHx (by rw [Ahi,Ajw _ AHx AHx,h];rfl)
   omega
theorem AWq {n:Nat} {b:Nat} (ha:a < n) (hb:b < n) (hab:a≠b) (h:F a=F b):det n F=0:=by
 rcases Nat.lt_or_ge a b with hlt | hge
 ·exact Ate (d:=b - a - 1) (a:=a) AHx (by grind)
 ·exact Ate (d:=a - b - 1) (a:=b) AHx (by grind)
theorem AZ8 {n:Nat} {b:Nat} (ha:a < n) (hb:b < n) (hab:a≠b):det n (AOg F a b)= -det n F:=
 Apb ha hb hab λ_ h=>AWq ha hb hab h
theorem Avd {n:Nat} (u:Nat->Int) (c:Int) (hr:r < n):det n (AKi F r λq=>c * u q)=c * det n (AKi F r u):=by
 have:=Aa3 (F:=F) u (λ_=>0) c 0 hr;grind
theorem AXa {n:Nat} (hr:r < n) (h:∀ q,q < n->F r q=0):det n F=0:=by
 have:=Avd (F:=F) (F r) 0 hr;rw [Int.zero_mul] at this;rw [<- this]
 exact AJm λi j hi hj=>by
  unfold AKi
  split
  ·grind
  ·rfl
theorem AVf {n:Nat} {b:Nat} (ha:a < n) (hb:b < n) (hab:a≠b) (q:Int):det n (AKi F a λx=>F a x + q * F b x)=det n F:=by
 have:=Aa3 (F:=F) (F a) (F b) 1 q ha;rw [AX4,AWq (F:=AKi F a<|F b) ha hb hab<|by rw [AKk,AOt _ _<|Ne.symm hab]] at this;grind
theorem Akf {n:Nat} (hr:r < n) (y:Nat->Int) (u:AIe):∀ t,det n (AKi F r λq=>psum (λk=>y k * u k q) t)=psum (λk=>y k * det n (AKi F r<|u k)) t:=by
 intro t
 induction t with
 | zero=>exact AXa hr λq _=>by rw [AKk];rfl
 | succ t ih=>
   have:=Aa3 (F:=F) (λq=>psum (λk=>y k * u k q) t) (u t) 1 (y t) hr
   simp only [psum]
   grind
theorem Aya {n:Nat} (hr:r < n) (y:Nat->Int):det n (AKi F r λq=>psum (λk=>y k * F k q) n)=y r * det n F:=by
 rw [Akf hr y F n,AIl (g:=λk=>if k=r then y r * det n F else 0),ATl hr λi hi=>if_neg hi,if_pos rfl];intro k hk
 by_cases h:k=r
 ·subst h;rw [if_pos rfl,AX4]
 ·rw [if_neg h,AWq (F:=AKi F r<|F k) hr hk (Ne.symm h)<|by rw [AKk,AOt _ _ h]];simp
def ANq (f:Nat->Int):Nat->Int
 | 0=>1
 | n + 1=>ANq f n * f n
theorem Aij (f:Nat->Int) (n:Nat):ANq f (n + 1)=f 0 * ANq (λi=>f<|i + 1) n:=by
 induction n with
 | zero=>simp [ANq]
 | succ n ih=>rw [ANq,ih,ANq];grind
theorem AYh {n:Nat} (h:∀ i,i < n->f i=g i):ANq f n=ANq g n:=by
 induction n with
 | zero=>rfl
 | succ n ih=>rw [ANq,ANq,ih λi hi=>h i AHx,h n AHx]
theorem Abz:∀ {n:Nat} {F:AIe},Zc n F n->det n F=ANq (λi=>F i i) n:=by
 intro n
 induction n with
 | zero=>intro _ _;rfl
 | succ n ih=>
   intro F h
   rw [Aij,det,AIl (g:=λi=>if i=0 then F 0 0 * det n (AMx 0 F) else 0),ATl (a:=0) AHx λi hi=>if_neg hi,if_pos rfl]
   ·rw [ih (F:=AMx 0 F) (λc' i h1 h2 h3=>by unfold AMx skp;rw [if_neg AHx];exact h (c' + 1) (i + 1) AHx AHx AHx)]
    rfl
   ·intro i hi
    by_cases h0:i=0
    ·subst h0;simp [sg]
    ·rw [if_neg h0,h 0 i AHx AHx hi];simp
theorem Aht:∀ {n:Nat} {F:AIe},(∀ i j,i < j->j < n->F i j=0)->det n F=ANq (λi=>F i i) n:=by
 intro n
 induction n with
 | zero=>intro _ _;rfl
 | succ n ih=>
   intro F h
   rw [Aij,det,AIl (g:=λi=>if i=0 then F 0 0 * det n (AMx 0 F) else 0),ATl (a:=0) AHx λi hi=>if_neg hi,if_pos rfl]
   ·rw [ih (F:=AMx 0 F) (λi j h1 h2=>by unfold AMx skp;grind)]
    rfl
   ·intro i hi
    by_cases h0:i=0
    ·subst h0;simp [sg]
    ·rw [if_neg h0,AXa (F:=AMx i F) (r:=0) AHx (λq hq=>by unfold AMx skp;grind)];simp
def Afp (F:AIe) (c i:Nat) (q:Int):AIe:=AOg (AKi F c λx=>F c x + -q * F i x) c i
theorem Atf (F:AIe) {c:Nat} (q:Int):Afp F c i q i=λx=>F c x + -q * F i x:=by
 unfold Afp;rw [Aor,AKk]
theorem A1y (F:AIe) {c:Nat} (h:c≠i) (q:Int):Afp F c i q c=F i:=by
 unfold Afp;rw [Ahi,AOt _ _<|Ne.symm h]
theorem Apc (F:AIe) {c:Nat} (hc:k≠c) (hi:k≠i) (q:Int):Afp F c i q k=F k:=by
 unfold Afp;rw [Ajw _ hc hi,AOt _ _ hc]
theorem Ayb {n:Nat} {c:Nat} (H:Zc n F c) (hci:c < i) (hi:i < n):Zc n (Afp F c i q) c:=by
 intro c' k h1 h2 h3;by_cases hk:k=i
 ·subst hk;rw [Atf];simp [H c' c h1 h1 AHx,H c' k h1 h2 h3]
 ·by_cases Ad:k=c
  ·subst Ad;rw [A1y F hk];exact H c' i h1 AHx hi
  ·rw [Apc F Ad hk];exact H c' k h1 h2 h3
theorem Ayc {c:Nat} (H:Zi F c i):Zi (Afp F c i q) c i:=by
 intro k h1 h2;rw [Apc F AHx AHx];exact H k h1 h2
theorem Atg {n:Nat} {P:(AIe)->Prop} (hadd:∀ F a b q,a < n->b < n->a≠b->P (AKi F a λx=>F a x + q * F b x)->P F) (hswap:∀ F a b,a < n->b < n->a≠b->P (AOg F a b)->P F) (htri:∀ F,Zc n F n->P F):∀ F,P F:=by
 have key:∀ d c,c + d=n-> ∀ F,Zc n F c->P F:=by
  intro d;induction d with
  | zero=>grind
  | succ d ih=>
    intro c hc
    have inner:∀ e i,i + e=n->c < i-> ∀ F,Zc n F c->Zi F c i->P F:=by
     intro e;induction e with
     | zero=>
        intro i hi hci F hF hz;obtain rfl:i=n:=by omega
        exact ih (c + 1) AHx F (A00 hF hz)
     | succ e ihe=>
       intro i hi hci
       have strong:∀ k F,(F i c).natAbs=k->Zc n F c->Zi F c i->P F:=by
        intro k;induction k using Nat.strongRecOn with
        | _ k ihk=>
          intro F hk hF hz
          by_cases h0:F i c=0
          ·exact ihe (i + 1) AHx AHx F hF<|A0z hz h0
          ·refine hadd F c i (-(F c c / F i c)) AHx AHx AHx<|hswap _ c i AHx AHx AHx ?_;refine ihk ((Afp F c i<|F c c / F i c) i c).natAbs ?_ (Afp F c i<|F c c / F i c) rfl (Ayb hF hci AHx) (Ayc hz);rw [Atf,<- hk];show (F c c + -(F c c / F i c) * F i c).natAbs < _;have h1:=Int.mul_ediv_add_emod (F c c)<|F i c;have h2:F c c + -(F c c / F i c) * F i c=F c c % F i c:=by grind
           rw [h2];have h3:=Int.emod_nonneg (F c c) h0;have h4:=Int.emod_lt (F c c) h0;omega
       grind
    exact λF hF=>inner (n - (c + 1)) (c + 1) AHx AHx F hF λk h1 h2=>by omega
 exact λF=>key n 0 AHx F λc' i h=>by omega
def AJv (n:Nat) (A B:AIe):AIe:=λi j=>psum (λk=>A i k * B k j) n
theorem Ayd {n:Nat} {B:AIe} {b:Nat}:AJv n (AKi A a λx=>A a x + q * A b x) B=AKi (AJv n A B) a λx=>AJv n A B a x + q * AJv n A B b x:=by
 funext i j;unfold AJv AKi;by_cases h:i=a
 ·simp only [if_pos h];rw [<- ALz,<- ATk];grind
 simp_all
theorem Apd {n:Nat} {B:AIe} {u:Nat->Int}:AJv n (AKi A a u) B=AKi (AJv n A B) a λx=>psum (λk=>u k * B k x) n:=by
 funext i j;unfold AJv AKi;by_cases h:i=a
 ·simp_all
 simp_all
theorem Ave {n:Nat} {B:AIe} {b:Nat}:AJv n (AOg A a b) B=AOg (AJv n A B) a b:=by
 unfold AOg;rw [Apd,Apd];rfl
theorem ARo {n:Nat} (A B:AIe):det n (AJv n A B)=det n A * det n B:=by
 refine Atg (n:=n) (P:=λA=>det n (AJv n A B)=det n A * det n B) (λF a b q ha hb hab h=>?_) (λF a b ha hb hab h=>?_) (λF hF=>?_) A
 ·rw [Ayd,AVf ha hb hab,AVf ha hb hab] at h;exact h
 ·rw [Ave,AZ8 ha hb hab,AZ8 ha hb hab] at h;grind
 ·rw [Abz hF]
  have key:∀ j,j<=n->det n (λi=>if i < j then AJv n F B i else B i)=ANq (λi=>F i i) j * det n B:=by
   intro j
   induction j with
   | zero=>intro _;simp [ANq]
   | succ j ih=>
     intro hj
     rw [ANq,Int.mul_assoc,Int.mul_comm<|F j j,<- Int.mul_assoc,<- ih AHx,Int.mul_comm]
     rw [<- Aya (F:=λi=>if i < j then AJv n F B i else B i) (r:=j) AHx (F j)]
     refine AJm λi q hi hq=>?_
     unfold AKi
     by_cases h:i=j
     ·subst h
      simp only [if_pos<|Nat.lt_succ_self i,if_pos]
      unfold AJv
      refine AIl λk hk=>?_
      by_cases hlt:k < i
      ·rw [hF k i AHx hlt hi];simp
      grind
     grind
  rw [<- key n (Nat.le_refl _)];exact AJm λi j hi hj=>by rw [if_pos hi]
def trF (F:AIe):AIe:=λi j=>F j i
theorem Ac5 (n:Nat):det n dl=1:=by
 rw [Abz (λc' i h1 h2 h3=>by unfold dl;omega)]
 have:∀ k,ANq (λi=>dl i i) k=1:=by
  intro k
  induction k with
  | zero=>rfl
  | succ k ih=>rw [ANq,ih];simp [dl]
 exact this n
theorem Arp {n:Nat} (hj:j < n):psum (λk=>F i k * dl k j) n=F i j:=by
 rw [ATl hj (λk hk=>by unfold dl;grind)];simp [dl]
theorem Arq {n:Nat} (y:Nat->Int) (ha:a < n):det n (trF<|AKi F a λx=>psum (λk=>y k * F k x) n)=det n (trF F) * det n (trF<|AKi dl a y):=by
 rw [<- ARo];refine AJm λi j hi hj=>?_;unfold AJv trF AKi
 by_cases h:j=a
 ·simp only [if_pos h];grind
 ·simp only [if_neg h];rw [ATl hj (λk hk=>by unfold dl;grind)];simp [dl]
theorem ARh {n:Nat} (F:AIe):det n (trF F)=det n F:=by
 refine Atg (n:=n) (P:=λF=>det n (trF F)=det n F) (λF a b q ha hb hab h=>?_) (λF a b ha hb hab h=>?_) (λF hF=>?_) F
 ·rw [AVf ha hb hab] at h;rw [<- h];have h1:=Arq (n:=n) (F:=F) (a:=a) (λk=>dl k a + q * dl k b) ha
  have h2:det n (trF<|AKi dl a λk=>dl k a + q * dl k b)=1:=by
   rw [<- Ac5 n,<- AVf (F:=dl) hb ha (Ne.symm hab) q]
   refine AJm λi j hi hj=>?_
   clear h1 h
   simp only [trF,AJa,dl]
   grind
  rw [h2,Int.mul_one] at h1;rw [<- h1];refine AJm λi j hi hj=>?_;unfold trF AKi;by_cases hja:j=a
  ·simp only [if_pos hja];rw [AIl (g:=λk=>F k i * dl k a + q * (F k i * dl k b)) (λk _=>by grind),ATk,ALz];rw [ATl (a:=a) ha (λk hk=>by unfold dl;grind),ATl (a:=b) hb (λk hk=>by unfold dl;grind)];simp [dl]
  grind
 ·rw [AZ8 ha hb hab] at h
  have h1:det n (trF<|AOg F a b)=det n (trF F) * det n (AOg dl a b):=by
   rw [<- ARo]
   refine AJm λi j hi hj=>?_
   unfold AJv trF
   have hsym:∀ k,AOg dl a b k j=if j=a then dl k b else if j=b then dl k a else dl k j:=by
    intro k
    simp only [AVu,dl]
    grind
   rw [AIl (g:=λk=>F k i * dl k (if j=a then b else if j=b then a else j)) (λk _=>by rw [hsym];grind)]
   rw [ATl (a:=if j=a then b else if j=b then a else j) (by grind) (λk hk=>by unfold dl;grind)]
   simp only [dl,if_pos,Int.mul_one]
   by_cases h3:j=a
   ·subst h3;rw [Ahi,if_pos rfl]
   ·rw [if_neg h3]
    by_cases h4:j=b
    ·subst h4;rw [Aor,if_pos rfl]
    ·rw [Ajw _ h3 h4,if_neg h4]
  rw [AZ8 ha hb hab,Ac5] at h1;omega
 ·rw [Abz hF,Aht (F:=trF F) λi j h1 h2=>hF i j AHx h1 h2];rfl
def shF (k:Nat) (F:AIe):AIe:=λi j=>F (k + i)<|k + j
theorem Al2 (h:i < k + 1):skp i (k + a)=k + 1 + a:=by unfold skp;grind
theorem AZo:∀ {k m:Nat} {T:AIe},(∀ i j,k<=i->i < k + m->j < k->T i j=0)->det (k + m) T=det k T * det m (shF k T):=by
 intro k;induction k with
 | zero=>
   intro m T _;have e:shF 0 T=T:=by funext i j;simp [shF]
   rw [e,Nat.zero_add];simp [det]
 | succ k ih=>
   intro m T h;rw [show k + 1 + m=(k + m) + 1 by omega];simp only [det];rw [Apa (k:=k + 1) AHx λi h1 h2=>by grind];rw [Int.mul_comm,<- ALz];refine AIl λi hi=>?_
   rw [ih (T:=AMx i T) (m:=m) (λa b ha ha2 hb=>by
    obtain ⟨c,rfl⟩:∃ c,a=k + c:=⟨a - k,AHx⟩;unfold AMx;rw [Al2 hi];grind)]
   have e:shF k (AMx i T)=shF (k + 1) T:=by
    funext a b;unfold shF AMx;rw [Al2 hi,show k + b + 1=k + 1 + b by omega]
   rw [e];grind
theorem Anb {n:Nat} (h:∀ i,i < n + 1->F i 0=0):det (n + 1) F=0:=by
 simp only [det];rw [AIl (g:=λ_=>0) λi hi=>by grind];exact AM0 _
theorem Aa4 {n:Nat} {b:Nat} (ha:a < n) (hb:b < n) (hab:a≠b) (h:∀ i,F i a=F i b):det n F=0:=by
 rw [<- ARh];exact AWq ha hb hab (by funext i;exact h i)
theorem A1z (F:AIe):det 2 F=F 0 0 * F 1 1 - F 1 0 * F 0 1:=by
 simp [det,psum,AMx,skp,sg];grind
def bro (k i r:Nat):Nat:=if r < k then r else i
def Mn (k:Nat) (A:AIe) (i j:Nat):Int:=det (k + 1) λr c=>A (bro k i r)<|bro k j c
theorem AU1 (A:AIe) (i j:Nat):Mn 0 A i j=A i j:=by
 simp [Mn,det,psum,bro,sg]
theorem ARp (k:Nat) (A:AIe):Mn k A k k=det (k + 1) A:=by
 refine AJm λr c hr hc=>?_;have e:∀ r,r < k + 1->bro k k r=r:=λr hr=>by unfold bro;split <;> omega
 grind
theorem A3p (A:AIe) (i:Nat) (hj:j < k):Mn k A i j=0:=by
 refine Aa4 (a:=j) (b:=k) AHx AHx AHx λr=>?_;unfold bro;simp [hj]
def cof (k:Nat) (A:AIe) (i s:Nat):Int:=det (k + 1)<|AKi (λc r=>A (bro k i r) c) k<|dl s
theorem AWf {n:Nat} (f:Nat->Int) {q:Nat} (hq:q < n):psum (λs=>f s * dl s q) n=f q:=by
 rw [ATl hq (λi hi=>by unfold dl;grind)];simp [dl]
theorem A4z (k:Nat) (A:AIe) (i j:Nat):Mn k A i j=psum (λs=>cof k A i s * A s j) k + det k A * A i j:=by
 have h1:Mn k A i j=det (k + 1) (AKi (λc r=>A (bro k i r) c) k λq=>psum (λs=>A (bro k i s) j * dl s q)<|k + 1):=by
  unfold Mn
  rw [<- ARh]
  refine AJm λc r hc hr=>?_
  rw [AJa,AWf _ hr]
  unfold trF
  split
  ·subst_vars;simp [bro]
  ·have:c < k:=by omega
   simp [bro,this]
 rw [h1,Akf AHx]
 have hk:det (k + 1) (AKi (λc r=>A (bro k i r) c) k<|dl k)=det k A:=by
  rw [AZo (k:=k) (m:=1) (T:=AKi (λc r=>A (bro k i r) c) k<|dl k) (λa b h1 h2 h3=>by
   obtain rfl:a=k:=by omega
   rw [AJa,if_pos rfl];unfold dl;omega)]
  have e1:det k (AKi (λc r=>A (bro k i r) c) k<|dl k)=det k A:=by
   rw [<- ARh]
   refine AJm λr c hr hc=>?_
   unfold trF
   rw [AJa,if_neg AHx]
   simp [bro,hr]
  have e2:det 1 (shF k<|AKi (λc r=>A (bro k i r) c) k<|dl k)=1:=by
   simp [det,psum,shF,sg,AJa,dl]
  grind
 show psum (λs=>A (bro k i s) j * det (k + 1) (AKi (λc r=>A (bro k i r) c) k<|dl s)) k + A (bro k i k) j * det (k + 1) (AKi (λc r=>A (bro k i r) c) k<|dl k)=_;rw [hk];congr 1
 ·refine AIl λs hs=>?_;show _=cof k A i s * A s j;unfold cof;rw [Int.mul_comm];simp [bro,hs]
 ·simp [bro,Int.mul_comm]
theorem Aa5 (f:Nat->Int) (k m:Nat):ANq f (k + m)=ANq f k * ANq (λi=>f<|k + i) m:=by
 induction m with
 | zero=>simp [ANq]
 | succ m ih=>rw [<- Nat.add_assoc];simp only [ANq];rw [ih];grind
theorem Aez {f:Nat->Int}:∀ {n:Nat},(∀ i,i < n->f i=1)->ANq f n=1
 | 0,_=>rfl
 | n + 1,h=>by rw [ANq,Aez λi hi=>h i AHx,h n AHx];rfl
theorem Ape {f:Nat->Int}:∀ {n:Nat},(∀ i,i < n->f i≠0)->ANq f n≠0
 | 0,_=>by simp [ANq]
 | n + 1,h=>by rw [ANq];exact Int.mul_ne_zero (Ape λi hi=>h i AHx)<|h n AHx
def Adp (k:Nat) (A:AIe) (ρ:Nat->Nat):AIe:=λr s=>if r < k then dl r s else if s < k then cof k A (ρ r) s else if s=r then det k A else 0
theorem Apf {n:Nat} {B:AIe} {ρ γ:Nat->Nat} (hkn:k<=n) (hρ:∀ r,r < k->ρ r=r) (hB:∀ r c,B r c=A (ρ r) (γ c)) {c:Nat} (hr:r < n):AJv n (Adp k A ρ) B r c=if r < k then B r c else Mn k A (ρ r) (γ c):=by
 unfold AJv;by_cases h:r < k
 ·rw [if_pos h,ATl hr (λi hi=>by unfold Adp;rw [if_pos h];unfold dl;grind)];unfold Adp;rw [if_pos h];simp [dl]
 ·rw [if_neg h,A4z];obtain ⟨m,rfl⟩:∃ m,n=k + m:=⟨n - k,AHx⟩
  have hs:∀ t,psum (λs=>Adp k A ρ r s * B s c) (k + t)=psum (λs=>cof k A (ρ r) s * A s (γ c)) k + (if r < k + t then det k A * A (ρ r) (γ c) else 0):=by
   intro t
   induction t with
   | zero=>
     rw [if_neg AHx,Int.add_zero,Nat.add_zero]
     refine AIl λs hs=>?_
     unfold Adp
     grind
   | succ t ih=>
     show psum (λs=>Adp k A ρ r s * B s c) (k + t) + Adp k A ρ r (k + t) * B (k + t) c=_
     rw [ih]
     have e:Adp k A ρ r (k + t)=if k + t=r then det k A else 0:=by unfold Adp;omega
     grind
  grind
theorem Apg {m:Nat} {ρ:Nat->Nat}:det (k + m) (Adp k A ρ)=ANq (λ_=>det k A) m:=by
 rw [Aht (λi j hij hj=>by
  unfold Adp
  split
  ·unfold dl;omega
  omega),Aa5,Aez,Int.one_mul]
 ·refine AYh λi hi=>?_;unfold Adp;omega
 ·intro i hi;unfold Adp;rw [if_pos hi];simp [dl]
theorem Ae0 (h0:det k A≠0) (i j:Nat):Mn k A k k * Mn k A i j - Mn k A i k * Mn k A k j=det k A * Mn (k + 1) A i j:=by
 have h1:=ARo (n:=k + 2) (Adp k A<|bro (k + 1) i) λr c=>A (bro (k + 1) i r)<|bro (k + 1) j c
 have hm:∀ r c,r < k + 2->AJv (k + 2) (Adp k A<|bro (k + 1) i) (λr c=>A (bro (k + 1) i r)<|bro (k + 1) j c) r c=if r < k then A (bro (k + 1) i r) (bro (k + 1) j c) else Mn k A (bro (k + 1) i r) (bro (k + 1) j c):=λr c hr=>
  Apf (k:=k) (n:=k + 2) (A:=A) (B:=λr c=>A (bro (k + 1) i r)<|bro (k + 1) j c) (ρ:=bro (k + 1) i) (γ:=bro (k + 1) j) AHx (λr hr=>by unfold bro;grind) (λr c=>rfl) hr
 rw [Apg,AZo (k:=k) (m:=2) (λa b ha ha2 hb=>by
  rw [hm a b ha2,if_neg AHx,show bro (k + 1) j b=b by unfold bro;grind];exact A3p _ _ hb)] at h1
 have e1:det k (AJv (k + 2) (Adp k A<|bro (k + 1) i) λr c=>A (bro (k + 1) i r)<|bro (k + 1) j c)=det k A:=by
  refine AJm λr c hr hc=>?_;rw [hm r c AHx,if_pos hr];simp only [bro];grind
 have b0:∀ q,bro (k + 1) q (k + 0)=k:=λq=>by unfold bro;grind
 have b1:∀ q,bro (k + 1) q (k + 1)=q:=λq=>by unfold bro;grind
 rw [e1,A1z] at h1;simp only [shF] at h1;rw [hm _ _ AHx,hm _ _ AHx,hm _ _ AHx,hm _ _ AHx,if_neg AHx,if_neg AHx,if_neg AHx,if_neg AHx,b0,b0,b1,b1] at h1;have e2:ANq (λ_=>det k A) 2=det k A * det k A:=by simp [ANq]
 have e3:(det (k + 2) λr c=>A (bro (k + 1) i r)<|bro (k + 1) j c)=Mn (k + 1) A i j:=rfl;rw [e2,e3,Int.mul_assoc] at h1;exact Int.eq_of_mul_eq_mul_left h0 h1
theorem Aph {n:Nat} (h0:det k A≠0) (hk:k < n) (hz:∀ i,k<=i->i < n->Mn k A i k=0):det n A=0:=by
 obtain ⟨m,rfl⟩:∃ m,n=k + (m + 1):=⟨n - k - 1,AHx⟩;have h1:=ARo (n:=k + (m + 1)) (Adp k A id) A
 have hm:∀ r c,r < k + (m + 1)->AJv (k + (m + 1)) (Adp k A id) A r c=if r < k then A r c else Mn k A r c:=λr c hr=>
  Apf (k:=k) (n:=k + (m + 1)) (A:=A) (B:=A) (ρ:=id) (γ:=id) AHx (λr hr=>rfl) (λr c=>rfl) hr
 rw [Apg,AZo (k:=k) (m:=m + 1) (λa b ha ha2 hb=>by rw [hm a b ha2,if_neg AHx];exact A3p _ _ hb),Anb (F:=shF k _) (λi hi=>by
  unfold shF;grind),Int.mul_zero] at h1
 rcases Int.mul_eq_zero.1 h1.symm with h2 | h2
 ·exact absurd h2<|Ape λi hi=>h0
 ·exact h2
def dBd (m:Nat):Nat->Nat
 | 0=>1
 | n + 1=>(n + 1) * m * dBd m n
theorem psum_abs {f:Nat->Int} {B:Nat}:∀ {n:Nat},(∀ i,i < n->(f i).natAbs<=B)->(psum f n).natAbs<=n * B
 | 0,_=>by simp [psum]
 | n + 1,h=>by
   have h1:=psum_abs (n:=n) λi hi=>h i AHx
   have h2:=h n AHx
   have h3:=Int.natAbs_add_le (psum f n)<|f n
   show (psum f n + f n).natAbs<=_
   grind
theorem Ai9 {m:Nat}:∀ {n:Nat} {F:AIe},(∀ i j,(F i j).natAbs<=m)->(det n F).natAbs<=dBd m n
 | 0,_,_=>by simp [det,dBd]
 | n + 1,F,h=>by
   have h1:=psum_abs (f:=λi=>sg i * F i 0 * det n (AMx i F)) (B:=m * dBd m n) (n:=n + 1) λi hi=>by
    have e:=Ai9 (n:=n) (F:=AMx i F) λa b=>h _ _
    have es:(sg i).natAbs=1:=by unfold sg;split <;> rfl
    rw [Int.natAbs_mul,Int.natAbs_mul,es,Nat.one_mul]
    exact Nat.mul_le_mul (h i 0) e
   rw [dBd,Nat.mul_assoc]
   exact h1
theorem A10 {n:Nat} (hp:k < p) (hi:k<=i):Mn k (AOg A p k) i j=Mn k A (if i=k then p else if i=p then k else i) j:=by
 refine AJm λr c hr hc=>?_;rw [AVu];unfold bro;grind
theorem Anc (hp:k < p):det k (AOg A p k)=det k A:=by
 refine AJm λr c hr hc=>?_;rw [AVu,if_neg AHx,if_neg AHx]
def sgB (neg:Bool):Int:=if neg then -1 else 1
def Ahu (m:Nat) (A0:AIe) (n k:Nat) (F:AIe) (last:Int) (neg:Bool):Prop:=
 ∃ A:AIe,det n A=sgB neg * det n A0/\(∀ i j,k<=i->i < n->k<=j->j < n->F i j=Mn k A i j)/\last=det k A/\last≠0/\ ∀ i j,(A i j).natAbs<=m
theorem Arr {m n:Nat} (h:∀ i j,(A0 i j).natAbs<=m):Ahu m A0 n 0 A0 1 false:=
 ⟨A0,by simp [sgB],λi j _ _ _ _=>(AU1 A0 i j).symm,rfl,AHz,h⟩
theorem Avf {m n:Nat} (H:Ahu m A0 n k F last neg) (hkp:k < p) (hp:p < n):Ahu m A0 n k (AOg F p k) last (!neg):=by
 obtain ⟨A,h1,h2,h3,h4,h5⟩:=H;refine ⟨AOg A p k,?_,λi j hi hin hj hjn=>?_,by rw [Anc hkp];exact h3,h4,λi j=>?_⟩
 ·rw [AZ8 hp AHx AHx,h1];cases neg <;> simp [sgB]
 ·rw [A10 (n:=n) hkp hi,AVu];grind
 ·rw [AVu];grind
def bQ (k:Nat) (F:AIe) (last:Int) (r c:Nat):Int:=(F k k * F r c - F r k * F k c) / last
def bF (k:Nat) (F:AIe) (last:Int) (i j:Nat):AIe:=λr c=>if k < r/\k < c/\(r < i∨r=i/\c < j) then bQ k F last r c else F r c
theorem Api (k:Nat) (F:AIe) (last:Int):bF k F last (k + 1) (k + 1)=F:=by
 funext r c;unfold bF;omega
theorem Aye (k n:Nat) (F:AIe) (last:Int) (i:Nat) {c:Nat} (hc:c < n):bF k F last i n r c=bF k F last (i + 1) (k + 1) r c:=by
 unfold bF;omega
theorem Ayf (k:Nat) (F:AIe) (last:Int) (hi:k < i) (hj:k < j):(AKi (bF k F last i j) i λc=>if c=j then bQ k F last i j else bF k F last i j i c)=bF k F last i (j + 1):=by
 funext r c;rw [AJa];split
 ·subst_vars
  split
  ·subst_vars;unfold bF;omega
  ·unfold bF;omega
 ·unfold bF;omega
theorem Ath (k:Nat) (F:AIe) (last:Int) (i j c:Nat):bF k F last i j k c=F k c:=by unfold bF;omega
theorem A3q (k:Nat) (F:AIe) (last:Int) (i j r:Nat):bF k F last i j r k=F r k:=by unfold bF;omega
theorem A3r (k:Nat) (F:AIe) (last:Int) (i j:Nat):bF k F last i j i j=F i j:=by unfold bF;omega
theorem A3s {m n:Nat} (H:Ahu m A0 n k F last neg) (hk:k < n):∃ A,(∀ i j,(A i j).natAbs<=m)/\det n A=sgB neg * det n A0/\F k k=det (k + 1) A/\ ∀ i j,k<=i->i < n->k<=j->j < n->F i j=Mn k A i j/\bQ k F last i j=Mn (k + 1) A i j:=by
 obtain ⟨A,h1,h2,h3,h4,h5⟩:=H;refine ⟨A,h5,h1,by rw [h2 k k AHx hk AHx hk,ARp],λi j hi hin hj hjn=>⟨h2 i j hi hin hj hjn,?_⟩⟩;unfold bQ;rw [h2 k k AHx hk AHx hk,h2 i j hi hin hj hjn,h2 i k hi hin AHx hk,h2 k j AHx hk hj hjn,Ae0 AHx,<- h3,Int.mul_ediv_cancel_left _ h4]
theorem Avg {m n:Nat} (H:Ahu m A0 n k F last neg) (hk:k < n) (h0:F k k≠0):Ahu m A0 n (k + 1) (bF k F last n<|k + 1) (F k k) neg:=by
 obtain ⟨A,h5,h1,h6,h2⟩:=A3s H hk;refine ⟨A,h1,λi j hi hin hj hjn=>?_,h6,h0,h5⟩;unfold bF;grind
theorem Avh {m n:Nat} (H:Ahu m A0 n k F last neg) (hk:k < n) (hz:∀ i,k<=i->i < n->F i k=0):det n A0=0:=by
 obtain ⟨A,h1,h2,h3,h4,h5⟩:=H;have h:=Aph (A:=A) AHx hk λi hi hin=>by grind
 rw [h1] at h;rcases Int.mul_eq_zero.1 h with h6 | h6
 ·cases neg <;> simp [sgB] at h6
 ·exact h6
theorem Ayg {m n:Nat} (H:Ahu m A0 n n F last neg):det n A0=if neg then -last else last:=by
 obtain ⟨A,h1,h2,h3,h4,h5⟩:=H;rw [<- h3] at h1;rw [h1];cases neg
 ·simp [sgB]
 ·simp [sgB]
theorem Ars {m:Nat} (h:∀ i j,(A i j).natAbs<=m) (i j:Nat):(Mn k A i j).natAbs<=dBd m (k + 1):=Ai9 λr c=>h _ _
theorem AYi {m:Nat} (hm:1<=m) {b:Nat} (h:a<=b):dBd m a<=dBd m b:=by
 induction h with
 | refl=>omega
 | step h ih=>
   refine Nat.le_trans ih ?_
   rw [dBd]
   exact Nat.le_mul_of_pos_left _<|Nat.mul_pos AHx AHx
theorem Ayh {m n:Nat} (hm:1<=m) (H:Ahu m A0 n k F last neg) (hk:k < n) (hi:k<=i) (hin:i < n) (hj:k<=j) (hjn:j < n):(F i j).natAbs<=dBd m n/\(bQ k F last i j).natAbs<=dBd m (n + 1):=by
 obtain ⟨A,h5,h1,h6,h2⟩:=A3s H hk;obtain ⟨h7,h8⟩:=h2 i j hi hin hj hjn;rw [h7,h8];exact ⟨Nat.le_trans (Ars h5 _ _)<|AYi hm AHx,Nat.le_trans (Ars h5 _ _)<|AYi hm AHx⟩
theorem Avi {m n:Nat} (hm:1<=m) (H:Ahu m A0 n k F last neg) (hk:k<=n):last≠0/\last.natAbs<=dBd m n:=by
 obtain ⟨A,h1,h2,h3,h4,h5⟩:=H;exact ⟨h4,by rw [h3];exact Nat.le_trans (Ai9 h5)<|AYi hm hk⟩
end Go.QF
namespace Go.Proofs.YtegoafpaljeobaaGreatDoor
theorem A11 {n:Nat} {a b c:α} (h:i < n):(List.replicate i a ++ List.replicate (n - i) b).set i c=List.replicate i a ++ (c :: List.replicate (n - i - 1) b):=by
 rw [List.set_append_right _ _ AI9,List.length_replicate,Nat.sub_self,show n - i=(n - i - 1) + 1 by omega,List.replicate_succ];rfl
theorem Aja {n m:Nat} (hn:n<=100000000) (hm:m<=100000000) (hf:n < fuel):AL6 fuel n m=some (List.replicate n<|List.replicate m 0):=by
 apply ok_eq;unfold AL6;refine AJ4 AHx<|AH9 (AJg (λi s=>s=((i:Int),List.replicate i (List.replicate m 0) ++ List.replicate (n - i) [])) n (Q:=(· =List.replicate n (List.replicate m 0))) AI9 hf λi s hi hI=>?_) λx hx=>AH4 hx;subst hI;unfold ATe;dsimp only;rw [List.length_replicate,Int.toNat_natCast];refine AI4 (λh=>AJ4 AHx<|AI8 (n:=i) (x:=[]) ?_ rfl (AH4 ⟨AHx,?_⟩)) λh=>AH4 ?_
 ·grind
 ·rw [wk AHx,AKf,Int.toNat_natCast,A11 AHx];congr 1;rw [show n - (i + 1)=n - i - 1 by omega,List.replicate_succ'];simp
 ·obtain rfl:i=n:=by omega
  simp
theorem Ane {A:List (List α)} {row:List α} (hi:i < A.length):(A.take i ++ row :: List.replicate (A.length - i - 1) []).set i=λr=>A.take i ++ r :: List.replicate (A.length - i - 1) []:=by
 funext r;rw [List.set_append_right _ _ (by simp;omega),List.length_take,Nat.min_eq_left AHx,Nat.sub_self];rfl
theorem Ati {A:List (List Int)} (hn:A.length<=100000000) (hm:∀ z∈A,z.length<=100000000/\z.length < fuel) (hf:A.length < fuel):AOj fuel A=some A:=by
 apply ok_eq;unfold AOj;refine AJ4 AHx<|AH9 (AJg (λi s=>s=((i:Int),A.take i ++ List.replicate (A.length - i) [])) A.length (Q:=(· =A)) AI9 hf λi s hi hI=>?_) λx hx=>AH4 hx;subst hI;unfold ATg;dsimp only;refine AI4 (λh=>?_) λh=>AH4 ?_
 ·have hi':i < A.length:=by omega
  obtain ⟨row,hrow⟩:∃ row,A[i]? =some row:=⟨A[i],List.getElem?_eq_getElem hi'⟩;have hr:=hm row<|List.mem_of_getElem? hrow;refine AI8 hrow rfl (AH9 (AJg (λj s=>s=((j:Int),A.take i ++ row.take j :: List.replicate (A.length - i - 1) [])) row.length (Q:=(· =A.take i ++ row :: List.replicate (A.length - i - 1) [])) ?_ hr.2 λj s hj hJ=>?_) λx hx=>AH4 ⟨hi',?_⟩)
  ·rw [show A.length - i=(A.length - i - 1) + 1 by omega,List.replicate_succ];simp
  ·subst hJ;unfold ATf;dsimp only;refine AI4 (λh2=>?_) λh2=>AH4 ?_
   ·obtain ⟨x,hx⟩:∃ x,row[j]? =some x:=⟨row[j]'AHx,List.getElem?_eq_getElem _⟩;refine AI8 hx rfl (AI8 (n:=i) (x:=row.take j) ?_ rfl (AH9 (Q:=(· =x)) ⟨x,rfl,rfl⟩ λy hy=>AJ4 ?_<|AH4 ⟨AHx,?_⟩))
    ·grind
    ·grind
    ·subst hy;rw [wk AHx,AKf,Ane hi',List.take_add_one,hx];rfl
   grind
  ·subst hx;rw [wk AHx,List.take_add_one,hrow,show A.length - (i + 1)=A.length - i - 1 by omega];simp
 ·obtain rfl:i=A.length:=by omega
  simp
def okM (A:List (List Int)):Bool:=decide (1<=A.length/\A.length<=16/\ ∀ z∈A,1<=z.length/\z.length<=16/\z.length=AYd A)
theorem Avj {A:List (List Int)} {z:List Int} (h:A[0]? =some z):AYd A=z.length:=by unfold AYd;rw [h];rfl
theorem Apj {A:List (List Int)} (hr:∀ z∈A,∀ x∈z,-9223372036854775808<=x/\x<=9223372036854775807) (hf:17 < fuel):AK6 fuel A=some (if okM A then (A,true) else ([],false)):=by
 apply ok_eq;unfold AK6
 have key:∀ R:List (List Int) × Bool->Prop,(okM A=false->R ([],false))->(okM A=true->R (A,true))->Ok (AK6 fuel A) R:=by
  intro R hF hT
  unfold AK6
  refine AH9 (Q:=λex=>match ex with | .inl e=>e=([],false)/\okM A=false | .inr _=>1<=A.length/\A.length<=16) (AI4 (λh=>AH4 ⟨rfl,by unfold okM;grind⟩) λh=>AI4 (λh2=>AH4 ⟨rfl,by unfold okM;grind⟩) λh2=>AH4 ⟨AHx,AHx⟩) λex hex=>?_
  cases ex with
  | inl e=>obtain ⟨rfl,h⟩:=hex;exact AH4 (hF h)
  | inr u=>
    dsimp only at hex ⊢
    obtain ⟨z0,Ac⟩:∃ z,A[0]? =some z:=⟨A[0]'AHx,List.getElem?_eq_getElem _⟩
    have hc:=Avj Ac
    refine AH9 (AJg (λi (s:Int)=>s=(i:Int)/\ ∀ z∈A.take i,1<=z.length/\z.length<=16/\z.length=AYd A) A.length (Q:=λex=>match ex with | .inl e=>e=([],false)/\okM A=false | .inr _=>okM A=true) ⟨rfl,AI9⟩ AHx λi s hi hI=>?_) λex Ab=>?_
    ·obtain ⟨rfl,hI⟩:=hI
     unfold AQw
     refine AI4 (λh=>?_) λh=>AH4 ?_
     ·have hi':i < A.length:=by omega
      obtain ⟨row,hrow⟩:∃ row,A[i]? =some row:=⟨A[i],List.getElem?_eq_getElem hi'⟩
      have bad: ¬ (1<=row.length/\row.length<=16/\row.length=AYd A)->okM A=false:=λhb=>by
       unfold okM;grind
      refine AI8 hrow rfl (AI4 (λh1=>AH4 ⟨rfl,bad AHx⟩) λh1=>AI4 (λh2=>AH4 ⟨rfl,bad AHx⟩) λh2=>AI8 Ac rfl (AI4 (λh3=>AH4 ⟨rfl,bad AHx⟩) λh3=>AH4 ⟨hi',wk AHx,?_⟩))
      rw [List.take_add_one,hrow]
      grind
     ·obtain rfl:i=A.length:=by omega
      rw [List.take_length] at hI
      unfold okM;grind
    ·cases ex with
     | inl e=>obtain ⟨rfl,h⟩:=Ab;exact AH4 (hF h)
     | inr u=>
       dsimp only at Ab ⊢
       have hv:=Ab
       unfold okM at hv;rw [decide_eq_true_eq] at hv
       have hcA:∀ z∈A,z.length=AYd A:=λz hz=>(hv.2.2 z hz).2.2
       have Af:1<=AYd A/\AYd A<=16:=by grind
       refine AI8 Ac rfl (AH9 (AJ2<|Aja AHx AHx AHx) λO hO=>?_)
       subst hO
       rw [<- hc]
       refine AH9 (AJg (λi s=>s=((i:Int),A.take i ++ List.replicate (A.length - i) (List.replicate (AYd A) 0))) A.length (Q:=(· =A)) AI9 AHx λi s hi hI=>?_) λx hx=>AH4<|hx ▸ hT Ab
       subst hI
       unfold AQv
       dsimp only
       refine AI4 (λh=>?_) λh=>AH4 ?_
       ·have hi':i < A.length:=by omega
        obtain ⟨row,hrow⟩:∃ row,A[i]? =some row:=⟨A[i],List.getElem?_eq_getElem hi'⟩
        have hrl:=hcA row<|List.mem_of_getElem? hrow
        refine AI8 hrow rfl (AH9 (AJg (λj s=>s=((j:Int),A.take i ++ (row.take j ++ List.replicate (AYd A - j) 0) :: List.replicate (A.length - i - 1) (List.replicate (AYd A) 0))) row.length (Q:=(· =A.take i ++ row :: List.replicate (A.length - i - 1) (List.replicate (AYd A) 0))) ?_ AHx λj s hj hJ=>?_) λx hx=>AH4 ⟨hi',?_⟩)
        ·rw [show A.length - i=(A.length - i - 1) + 1 by omega,List.replicate_succ];simp
        ·subst hJ
         unfold AQu
         dsimp only
         refine AI4 (λh2=>?_) λh2=>AH4 ?_
         ·obtain ⟨x,hx⟩:∃ x,row[j]? =some x:=⟨row[j]'AHx,List.getElem?_eq_getElem _⟩
          have hxr:=hr row (List.mem_of_getElem? hrow) x<|List.mem_of_getElem? hx
          refine AI8 (n:=i) (x:=row.take j ++ List.replicate (AYd A - j) 0) ?_ rfl (AI8 hrow rfl (AI8 hx rfl (AH9 (Q:=(· =x)) ⟨x,if_pos hxr,rfl⟩ λy hy=>AI8 (n:=j) (x:=0) ?_ rfl (AH4 ⟨AHx,?_⟩))))
          ·grind
          ·grind
          ·subst hy
           rw [wk AHx,AKf,AKf]
           congr 1
           rw [List.set_append_right _ _ (by simp;omega),List.length_take,Nat.min_eq_left AHx,Nat.sub_self,List.set_cons_zero]
           congr 2
           rw [List.set_append_right _ _ (by simp;omega),List.length_take,Nat.min_eq_left AHx,Nat.sub_self,show AYd A - j=(AYd A - (j + 1)) + 1 by omega,List.replicate_succ,List.set_cons_zero,List.take_add_one,hx]
           simp
         ·obtain rfl:j=row.length:=by omega
          rw [List.take_length,show AYd A - row.length=0 by omega];simp
        ·subst hx
         rw [wk AHx,List.take_add_one,hrow,show A.length - (i + 1)=A.length - i - 1 by omega]
         simp
       ·obtain rfl:i=A.length:=by omega
        simp
 have:=key (λr=>r=if okM A then (A,true) else ([],false)) (λh=>by rw [h];rfl) (λh=>by rw [h];rfl);unfold AK6 at this;exact this
theorem A7k {A:List (List Int)} (hr:∀ z∈A,∀ x∈z,-9223372036854775808<=x/\x<=9223372036854775807) (hf:17 < fuel):ALn fuel A=some (if okM A then A else []):=by
 unfold ALn;rw [Apj hr hf];grind
theorem Apk {z:Int}:AOr z=0↔z=0:=by
 unfold AOr;omega
theorem Akg {c:Nat}:sI (tab r c F) (i:Int) (sI (AK7 c<|F i) (j:Int) x)=tab r c (AKi F i λq=>if q=j then x else F i q):=by
 rw [AKf,AKf,AL7];exact Ax5
theorem Aik {b:Nat} (hG:2 * (D * D) < AM1) (ha:a<=D) (hb:b<=D):a * b < AM1:=by
 have:=Nat.mul_le_mul ha hb;omega
theorem A12 (hG:2 * (D * D) < AM1) (ha:a<=D):a < AM1:=by
 rcases Nat.eq_zero_or_pos D with h | h
 ·omega
 ·have h2:=Nat.mul_le_mul h<|Nat.le_refl D;omega
theorem Ahv {a b:Int} (hG:2 * (D * D) < AM1) (ha:a.natAbs<=D) (hb:b.natAbs<=D):Aaz fuel a b=some (a * b):=if_pos<|Aik hG ha hb
theorem Al3 {a b:Int} (hG:2 * (D * D) < AM1) (ha:a.natAbs<=D) (hb:b.natAbs<=D):(a * b).natAbs < AM1:=by rw [Int.natAbs_mul];exact Aik hG ha hb
theorem Ayi {a b c:Int} (hG:2 * (D * D) < AM1) (ha:a.natAbs<=D) (hb:b.natAbs<=D) (hc:c.natAbs<=D) (hd:d.natAbs<=D):(a * b - c * d).natAbs < AM1:=by
 have h1:=Nat.mul_le_mul ha hb;have h2:=Nat.mul_le_mul hc hd;rw [<- Int.natAbs_mul] at h1 h2;omega
theorem A13 {n M N:Nat} (hM:1<=M) (hG:2 * (dBd M (N + 1) * dBd M (N + 1)) < AM1) (hnN:n<=N) (hn:n<=16) (hb:∀ i j,(F i j).natAbs<=M) (hf:17 < fuel):AKb fuel (tab n n F)=some (det n F):=by
 apply ok_eq;unfold AKb;refine AH9 (AJ2<|Ati (by rw [AJf];omega) (λz hz=>by rw [Agg z hz];omega) (by rw [AJf];omega)) λA hA=>?_;subst hA;refine AH9 (Q:=(· =1)) ⟨1,if_pos AHx,rfl⟩ λone h1=>?_;subst h1;have hD:dBd M n<=dBd M (N + 1):=AYi hM AHx;have Ap:dBd M (n + 1)<=dBd M (N + 1):=AYi hM AHx;refine AH9 (AJg (λk s=> ∃ G last neg,s=(neg,((k:Int),tab n n G,last))/\Ahu M F n k G last neg) n (Q:=λex=>match ex with | .inl e=>e=det n F | .inr (neg,last)=>det n F=if neg then -last else last) ⟨F,1,false,rfl,Arr hb⟩ AHx λk s hk hI=>?_) λex hex=>?_
 ·obtain ⟨G,last,neg,rfl,hB⟩:=hI;unfold APl;dsimp only;rw [AJf];refine AI4 (λh=>?_) λh=>AH4 ?_
  ·have hk':k < n:=by omega
   refine AH9 (Q:=λex=>match ex with | .inl e=>e=det n F | .inr (neg',a',last')=> ∃ G',a'=tab n n G'/\Ahu M F n (k + 1) G' last' neg') ?_ λex hex=>?_
   ·refine AH9 (Q:=λ(e:Int)=> ∃ p:Nat,e=p/\k<=p/\p<=n/\(∀ i,k<=i->i < p->G i k=0)/\(p < n->G p k≠0)) (AH9 (AJg (λj (s:Int)=>s=((k + j:Nat):Int)/\k + j<=n/\ ∀ i,k<=i->i < k + j->G i k=0) (n - k) (Q:=λ(e:Int)=> ∃ p:Nat,e=p/\k<=p/\p<=n/\(∀ i,k<=i->i < p->G i k=0)/\(p < n->G p k≠0)) ⟨rfl,AHx,λi h1 h2=>by omega⟩ AHx λj s hj hJ=>?_) λe he=>AH4 he) λe he=>?_
    ·obtain ⟨rfl,hjn,hz⟩:=hJ;unfold APi;rw [AJf];refine AH9 (Q:=λex=>match ex with | .inl _=>k + j < n/\G (k + j) k=0 | .inr _=>k + j < n->G (k + j) k≠0) (AI4 (λh2=>AI8 (AJo AHx) rfl (AI8 (AI5 AHx) rfl (AH9 (AJ2 (a:=AOr<|G (k + j) k) rfl) λsg hsg=>AI4 (λh3=>AH4 ⟨AHx,?_⟩) λh3=>AH4 λ_=>?_))) λh2=>AH4 λh3=>by omega) λex hex=>?_
     ·subst hsg;exact Apk.1 h3
     ·subst hsg;exact λh4=>h3<|Apk.2 h4
     ·cases ex with
      | inl u=>exact AH4 ⟨AHx,by rw [wk AHx];omega,AHx,λi h1 h2=>by
         grind⟩
      | inr u=>exact AH4 ⟨k + j,rfl,AHx,hjn,hz,hex⟩
    ·obtain ⟨p,rfl,hkp,hpn,hz,hp⟩:=he;refine AI4 (λh2=>AH4 ?_) λh2=>?_
     ·obtain rfl:p=n:=by omega
      exact (Avh hB hk' hz).symm
     ·have hp':p < n:=by omega
      refine AH9 (Q:=λ(r:Bool × List (List Int))=> ∃ G',r.2=tab n n G'/\Ahu M F n k G' last r.1/\G' k k≠0) (AI4 (λh3=>AI8 (AJo AHx) rfl (AI8 (AJo AHx) rfl (AH4 ⟨AOg G p k,?_,Avf hB AHx hp',?_⟩))) λh3=>AH4 ⟨G,rfl,hB,?_⟩) λr hr=>?_
      ·dsimp only;rw [AKf,AKf];show ((tab n n G).set p (AK7 n<|G k)).set k (AK7 n<|G p)=_;rw [show AK7 n (G k)=(List.range n).map (G k) from rfl,show AK7 n (G p)=(List.range n).map (G p) from rfl,AS8,AS8];rfl
      ·rw [AVu,if_pos rfl];exact hp hp'
      ·grind
      ·obtain ⟨Aq,a2⟩:=r;obtain ⟨G2,Ag,Af,hne⟩:=hr;dsimp only at Ag Af ⊢;subst Ag;have hlast:=Avi hM Af AHx;have habs:∀ i j,k<=i->i < n->k<=j->j < n->(G2 i j).natAbs<=dBd M (N + 1):=λi j h1 h2 h3 h4=>Nat.le_trans (Ayh hM Af hk' h1 h2 h3 h4).1 hD;have hl':last.natAbs<=dBd M (N + 1):=Nat.le_trans hlast.2 hD;rw [wk AHx];refine AH9 (AJg (λi s=>s=(((k + 1 + i:Nat):Int),tab n n<|bF k G2 last (k + 1 + i)<|k + 1)/\k + 1 + i<=n) (n - (k + 1)) (Q:=(· =tab n n (bF k G2 last n<|k + 1))) ⟨by rw [Nat.add_zero,Api];simp,AHx⟩ AHx λi s hi hI=>?_) λa3 Ah=>?_
       ·obtain ⟨rfl,hin⟩:=hI;unfold APk;dsimp only;rw [AJf];obtain ⟨q,hq⟩:∃ q,k + 1 + i=q:=⟨_,rfl⟩;rw [hq] at hin ⊢;refine AI4 (λh3=>?_) λh3=>AH4 ?_
        ·have hqn:q < n:=by omega
         rw [wk AHx];refine AH9 (AJg (λj s=>s=(((k + 1 + j:Nat):Int),tab n n<|bF k G2 last q<|k + 1 + j)/\k + 1 + j<=n) (n - (k + 1)) (Q:=(· =tab n n (bF k G2 last q n))) ⟨AI9,AHx⟩ AHx λj s hj hJ=>?_) λa4 Ai=>AH4 ?_
         ·obtain ⟨rfl,hjn⟩:=hJ;unfold APj;dsimp only;rw [AJf];obtain ⟨c,hc⟩:∃ c,k + 1 + j=c:=⟨_,rfl⟩;rw [hc] at hjn ⊢;refine AI4 (λh4=>?_) λh4=>AH4 ?_
          ·have hcn:c < n:=by omega
           refine AI8 (AJo hqn) rfl (AI8 (AJo hk') rfl (AI8 (AI5 hk') rfl (AI8 (AI5 hcn) rfl ?_)));rw [Ath,A3r];refine AH9 (AJ2<|Ahv hG (habs _ _ AHx AHx AHx AHx)<|habs _ _ AHx AHx AHx AHx) λx1 Aj=>AI8 (AI5 hk') rfl (AI8 (AI5 hcn) rfl ?_);subst Aj;rw [A3q,Ath];refine AH9 (AJ2<|Ahv hG (habs _ _ AHx AHx AHx AHx)<|habs _ _ AHx AHx AHx AHx) λx2 Ak=>?_;subst Ak;refine AH9 (Q:=(· =G2 k k * G2 q c - G2 q k * G2 k c)) ⟨_,if_pos ⟨Al3 hG (habs _ _ AHx AHx AHx AHx)<|habs _ _ AHx AHx AHx AHx,Al3 hG (habs _ _ AHx AHx AHx AHx)<|habs _ _ AHx AHx AHx AHx⟩,rfl⟩ λx3 Am=>?_
           ·subst Am;refine AH9 (Q:=(· =bQ k G2 last q c)) ?_ λx4 Ao=>AH4 ⟨AHx,?_,AHx⟩
            ·unfold ALv Ags;rw [if_pos ⟨Ayi hG (habs _ _ AHx AHx AHx AHx) (habs _ _ AHx AHx AHx AHx) (habs _ _ AHx AHx AHx AHx)<|habs _ _ AHx AHx AHx AHx,A12 hG hl',hlast.1⟩];exact ⟨_,rfl,rfl⟩
            ·subst Ao;rw [wk AHx,Akg,Ayf k G2 last AHx AHx];grind
          grind
         ·subst Ai;refine ⟨AHx,?_,AHx⟩;rw [wk AHx];congr 1
          ·omega
          ·refine ARc λr c hr hc=>?_;rw [Aye k n G2 last q hc,<- Nat.add_assoc,hq]
        grind
       ·subst Ah;refine AI8 (AJo hk') rfl (AI8 (AI5 hk') rfl (AH4 ⟨_,rfl,?_⟩));rw [Ath];exact Avg Af hk' hne
   ·match ex,hex with
    | .inl e,hex=>exact AH4 hex
    | .inr (neg',a',last'),hex=>
      obtain ⟨G',rfl,hB'⟩:=hex
      exact AH4 ⟨hk',G',last',neg',by rw [wk AHx];rfl,hB'⟩
  ·obtain rfl:k=n:=by omega
   exact Ayg hB
 ·match ex,hex with
  | .inl e,hex=>exact AH4 hex
  | .inr (neg,last),hex=>
    dsimp only at hex ⊢
    rw [hex]
    refine AI4 (λh=>AH9 (AJ2 (a:= -last) rfl) λx hx=>AH4 ?_) λh=>AH4 ?_
    ·rw [hx,h];rfl
    ·rw [if_neg h]
def mN (n:Nat):Nat:=if n<=6 then 2 ^ 194 else 2 ^ 100
def gN (n:Nat):Nat:=if n<=6 then dBd (2 ^ 194) 7 else dBd (2 ^ 100) 9
theorem Apl (n:Nat):2 ^ 100<=mN n:=by unfold mN;split <;> decide
theorem Ayj (n:Nat):64 * (gN n * gN n) < AM1:=by unfold gN;split <;> decide
theorem Ayk (n:Nat):3<=gN n:=by unfold gN;split <;> decide
theorem A7l (n:Nat):24 * (gN n * mN n)<=(2 ^ 158) ^ 10:=by unfold gN mN;split <;> decide
theorem Ayl {n:Nat} (hn:n<=8) (hk:k<=n + 1):dBd (mN n) k<=gN n:=by
 unfold mN gN;split
 ·exact AYi AHz AHx
 ·exact AYi AHz AHx
theorem Aym (n:Nat):2 * (gN n * gN n) < AM1:=by have:=Ayj n;omega
theorem Agt {n N:Nat} (hN:N<=8) (hn:n<=N) (hb:∀ i j,i < n->j < n->(F i j).natAbs<=mN N) (hf:17 < fuel):AKb fuel (tab n n F)=some (det n F):=by
 have e1:tab n n F=tab n n λi j=>if i < n/\j < n then F i j else 0:=by
  rw [AYg,AYg]
  exact AJ3 λi hi=>AJ3 λj hj=>by omega
 have e2:det n F=det n λi j=>if i < n/\j < n then F i j else 0:=AJm λi j hi hj=>by omega
 have hg:=Ayl hN<|Nat.le_refl<|N + 1;have h1:=Apl N;rw [e1,e2];refine A13 (M:=mN N) (Nat.le_trans AHz h1) (Nat.lt_of_le_of_lt (Nat.mul_le_mul_left 2<|Nat.mul_le_mul hg hg)<|Aym N) hn AHx (λi j=>?_) hf;grind
theorem A14:FdT Tryz.prog 24 0 0 5:=⟨_,_,Tryz.underlying24,rfl,rfl,rfl⟩
theorem A15:FdT Tryz.prog 24 1 1 5:=⟨_,_,Tryz.underlying24,rfl,rfl,rfl⟩
theorem A16:FdT Tryz.prog 24 2 2 22:=⟨_,_,Tryz.underlying24,rfl,rfl,rfl⟩
theorem A17:FdT Tryz.prog 24 3 3 22:=⟨_,_,Tryz.underlying24,rfl,rfl,rfl⟩
theorem Ahw:AgT Tryz.prog 24 4:=Afu Tryz.underlying24 rfl AIb
def ANj (fuel:Nat) (a1:Int) (a5:LiA) (Ac Aa Ad:Int) (Ae:LiI):Option ((Int × Int × LiI) ⊕ (Int × LiI)):=
 if Aa < ((List.replicate (Int.toNat<|w64<|1 + Int.tmod (w64 a1) Ac) ([]:List Int)).length:Int) then if 0<=w64 (1 + Int.tmod (w64 a1) Ac)/\w64 (1 + Int.tmod (w64 a1) Ac)<=100000000 then (gI Ae Aa).bind λAo=>(gI (sI Ae Aa<|List.replicate (Int.toNat<|w64<|1 + Int.tmod (w64 a1) Ac) (0:Int)) Aa).bind λAg=>((((if (a5.length:Int)<=Ad then some (0,Ad) else (gI a5<|w64<|w64 (Ad + 1) - 1).bind λAh=>some (w64 Ah,w64<|Ad + 1)):Option (Int × Int)).bind λ(Ai,Aj)=>some (Int.tmod (w64<|IntKind.wrap .u8 Ai) 6,Aj)):Option (Int × Int)).bind λ(Ak,Am)=>(gI Ag Aa).bind λAp=>some (.inl (w64<|Aa + 1,Am,sI (sI Ae Aa<|List.replicate (Int.toNat<|w64<|1 + Int.tmod (w64 a1) Ac) (0:Int)) Aa<|sI Ag Aa<|w64<|1 + Ak)) else none else some<|.inr (Ad,Ae)
def APm (fuel:Nat) (a5:LiA) (Ab Aa Ac:Int) (Ad:LiI):Option ((Int × Int × LiI) ⊕ (Int × LiI)):=
 if Aa < Ab then (gI Ad Ab).bind λAe=>((if (a5.length:Int)<=Ac then some (0,Ac) else (gI a5<|w64<|w64 (Ac + 1) - 1).bind λAi=>some (w64 Ai,w64<|Ac + 1)):Option (Int × Int)).bind λ(Af,Aj)=>(gI Ae Aa).bind λAo=>(gI (sI Ad Ab<|sI Ae Aa<|Int.tmod Af 3) Aa).bind λAh=>(gI (sI Ad Ab<|sI Ae Aa<|Int.tmod Af 3) Ab).bind λAk=>(gI Ak Aa).bind λAm=>(gI Ah Ab).bind λAp=>some (.inl (w64<|Aa + 1,Aj,sI (sI Ad Ab<|sI Ae Aa<|Int.tmod Af 3) Aa<|sI Ah Ab Am)) else some<|.inr (Ac,Ad)
def ANk (fuel:Nat) (a5:LiA) (Ae:LiI) (Aa Ab:Int) (Ac:LiI):Option ((Int × Int × LiI) ⊕ (Int × LiI)):=
 if Aa < (Ae.length:Int) then (iter (λs=>APm fuel a5 Aa s.1 s.2.1 s.2.2) fuel (0,Ab,Ac)).bind (λ((Af,Ag):Int × LiI)=>some<|.inl (w64<|Aa + 1,Af,Ag)) else some<|.inr (Ab,Ac)
def AM2 (fuel:Nat) (a1:Int) (a5:LiA) (Ac Aa Ad:Int) (Ae:LiI):Option ((Int × Int × LiI) ⊕ (Int × LiI)):=
 if Aa < ((List.replicate (Int.toNat<|w64<|1 + Int.tmod (w64 a1) Ac) ([]:List Int)).length:Int) then if 0<=w64 (1 + Int.tmod (w64 a1) Ac)/\w64 (1 + Int.tmod (w64 a1) Ac)<=100000000 then (gI Ae Aa).bind λAo=>(gI (sI Ae Aa<|List.replicate (Int.toNat<|w64<|1 + Int.tmod (w64 a1) Ac) (0:Int)) Aa).bind λAg=>((((if (a5.length:Int)<=Ad then some (0,Ad) else (gI a5<|w64<|w64 (Ad + 1) - 1).bind λAh=>some (w64 Ah,w64<|Ad + 1)):Option (Int × Int)).bind λ(Ai,Aj)=>some (Int.tmod (w64<|IntKind.wrap .u8 Ai) 9,Aj)):Option (Int × Int)).bind λ(Ak,Am)=>(gI Ag Aa).bind λAp=>some (.inl (w64<|Aa + 1,Am,sI (sI Ae Aa<|List.replicate (Int.toNat<|w64<|1 + Int.tmod (w64 a1) Ac) (0:Int)) Aa<|sI Ag Aa<|w64<|1 + Ak)) else none else some<|.inr (Ad,Ae)
def AM3 (fuel:Nat) (a1:Int) (a5:LiA) (Ac Aa Ad:Int) (Ae:LiI):Option ((Int × Int × LiI) ⊕ (Int × LiI)):=
 if Aa < ((List.replicate (Int.toNat<|w64<|1 + Int.tmod (w64 a1) Ac) ([]:List Int)).length:Int) then if 0<=w64 (1 + Int.tmod (w64 a1) Ac)/\w64 (1 + Int.tmod (w64 a1) Ac)<=100000000 then (gI Ae Aa).bind λAo=>(gI (sI Ae Aa<|List.replicate (Int.toNat<|w64<|1 + Int.tmod (w64 a1) Ac) (0:Int)) Aa).bind λAg=>((((if (a5.length:Int)<=Ad then some (0,Ad) else (gI a5<|w64<|w64 (Ad + 1) - 1).bind λAh=>some (w64 Ah,w64<|Ad + 1)):Option (Int × Int)).bind λ(Ai,Aj)=>some (Int.tmod (w64<|IntKind.wrap .u8 Ai) 1,Aj)):Option (Int × Int)).bind λ(Ak,Am)=>(gI Ag Aa).bind λAp=>some (.inl (w64<|Aa + 1,Am,sI (sI Ae Aa<|List.replicate (Int.toNat<|w64<|1 + Int.tmod (w64 a1) Ac) (0:Int)) Aa<|sI Ag Aa<|w64<|1 + Ak)) else none else some<|.inr (Ad,Ae)
def AM4 (fuel:Nat) (a1:Int) (a5:LiA) (Ac Aa Ad:Int) (Ae:LiI):Option ((Int × Int × LiI) ⊕ (Int × LiI)):=
 if Aa < ((List.replicate (Int.toNat<|w64<|1 + Int.tmod (w64 a1) Ac) ([]:List Int)).length:Int) then if 0<=w64 (1 + Int.tmod (w64 a1) Ac)/\w64 (1 + Int.tmod (w64 a1) Ac)<=100000000 then (gI Ae Aa).bind λAo=>(gI (sI Ae Aa<|List.replicate (Int.toNat<|w64<|1 + Int.tmod (w64 a1) Ac) (0:Int)) Aa).bind λAg=>((((if (a5.length:Int)<=Ad then some (0,Ad) else (gI a5<|w64<|w64 (Ad + 1) - 1).bind λAh=>some (w64 Ah,w64<|Ad + 1)):Option (Int × Int)).bind λ(Ai,Aj)=>some (Int.tmod (w64<|IntKind.wrap .u8 Ai) 2,Aj)):Option (Int × Int)).bind λ(Ak,Am)=>(gI Ag Aa).bind λAp=>some (.inl (w64<|Aa + 1,Am,sI (sI Ae Aa<|List.replicate (Int.toNat<|w64<|1 + Int.tmod (w64 a1) Ac) (0:Int)) Aa<|sI Ag Aa<|w64<|1 + Ak)) else none else some<|.inr (Ad,Ae)
def AK3 (fuel:Nat) (a1 a2:Int) (a5 a9:LiA) (Aa:Int):Option LiI:=
 if Aa≠0 then ((((if Int.tmod a2 8=0 then some (decide (Int.tmod a2 8=0)) else if Int.tmod a2 8=1 then some (decide (Int.tmod a2 8=1)) else if Int.tmod a2 8=2 then some (decide (Int.tmod a2 8=2)) else some<|decide (Int.tmod a2 8=3)):Option Bool).bind (λ(Ak:Bool)=>if Ak=true then ((((if 0<=w64 (1 + Int.tmod (w64 a1) Aa)/\w64 (1 + Int.tmod (w64 a1) Aa)<=100000000 then (iter (λs=>ANj fuel a1 a5 Aa s.1 s.2.1 s.2.2) fuel (0,0,List.replicate (Int.toNat<|w64<|1 + Int.tmod (w64 a1) Aa) ([]:List Int))).bind (λ((Am,Ao):Int × LiI)=>some (Ao,Am)) else none):Option (LiI × Int)).bind λ(Ae,Ap)=>(iter (λs=>ANk fuel a5 Ae s.1 s.2.1 s.2.2) fuel (0,Ap,Ae)).bind (λ((Aq,Ar):Int × LiI)=>some (Ar,Aq))):Option (LiI × Int)).bind λ(Au,Av)=>some (Au,Av) else if Int.tmod a2 8=4 then (AOk fuel (w64<|1 + Int.tmod (w64 a1) Aa) false).bind λAf=>(gI Af 0).bind λAg=>(gI Ag 0).bind λAw=>((((if (a5.length:Int)<=0 then some (0,0) else (gI a5<|w64<|w64 (0 + 1) - 1).bind λAx=>some (w64 Ax,w64<|0 + 1)):Option (Int × Int)).bind λ(Ay,Az)=>some (Int.tmod (w64<|IntKind.wrap .u8 Ay) 3,Az)):Option (Int × Int)).bind λ(A3,A4)=>some (sI Af 0<|sI Ag 0<|w64<|Aw + A3,A4) else if Int.tmod a2 8=5 then (AOk fuel (w64<|1 + Int.tmod (w64 a1) Aa) true).bind λAh=>(gI Ah<|w64<|w64 (1 + Int.tmod (w64 a1) Aa) - 1).bind λAi=>(gI Ai<|w64<|w64 (1 + Int.tmod (w64 a1) Aa) - 1).bind λA5=>((((if (a5.length:Int)<=0 then some (0,0) else (gI a5<|w64<|w64 (0 + 1) - 1).bind λA6=>some (w64 A6,w64<|0 + 1)):Option (Int × Int)).bind λ(A7,A8)=>some (Int.tmod (w64<|IntKind.wrap .u8 A7) 2,A8)):Option (Int × Int)).bind λ(A9,Ba)=>some (sI Ah (w64<|w64 (1 + Int.tmod (w64 a1) Aa) - 1)<|sI Ai (w64<|w64 (1 + Int.tmod (w64 a1) Aa) - 1)<|w64<|A5 + A9,Ba) else if Int.tmod a2 8=6 then ((if 0<=w64 (1 + Int.tmod (w64 a1) Aa)/\w64 (1 + Int.tmod (w64 a1) Aa)<=100000000 then (iter (λs=>AM2 fuel a1 a5 Aa s.1 s.2.1 s.2.2) fuel (0,0,List.replicate (Int.toNat<|w64<|1 + Int.tmod (w64 a1) Aa) ([]:List Int))).bind (λ((Bb,Bc):Int × LiI)=>some (Bc,Bb)) else none):Option (LiI × Int)).bind λ(Be,Bf)=>some (Be,Bf) else ((if 0<=w64 (1 + Int.tmod (w64 a1) Aa)/\w64 (1 + Int.tmod (w64 a1) Aa)<=100000000 then (iter (λs=>AM3 fuel a1 a5 Aa s.1 s.2.1 s.2.2) fuel (0,0,List.replicate (Int.toNat<|w64<|1 + Int.tmod (w64 a1) Aa) ([]:List Int))).bind (λ((Bg,Bh):Int × LiI)=>some (Bh,Bg)) else none):Option (LiI × Int)).bind λ(Bi,Bj)=>some (Bi,Bj))):Option (LiI × Int)).bind (λ((Aj,Bl):LiI × Int)=>(AQm fuel Aj).bind λBm=>if (!Bm)=true then ((if 0<=w64 (1 + Int.tmod (w64 a1) Aa)/\w64 (1 + Int.tmod (w64 a1) Aa)<=100000000 then (iter (λs=>AM4 fuel a1 a5 Aa s.1 s.2.1 s.2.2) fuel (0,Bl,List.replicate (Int.toNat<|w64<|1 + Int.tmod (w64 a1) Aa) ([]:List Int))).bind (λ((Bn,Bo):Int × LiI)=>some (Bo,Bn)) else none):Option (LiI × Int)).bind λ(Bp,Br)=>some Bp else some Aj) else none
theorem ATm {a5:LiA} {B6:Value} {a9:LiA} {Am:Int} {r:LiI} (H4:SlC (cI .i8) h Ab a5) (H8:SlC (cI .i8) h B6 a9) (hp:AK3 fuel a1 a2 a5 a9 Am=some r):AI7 Tryz.prog 21 #[(.agg #[(.int .u8 a1),(.int .u8 a2),Ab,B6]),(.int .i64 Am)] h (λx h'=>Ext h h'/\ ∃ (x0:Value) (F0:List Nat) (Hk:List LnA) (Hl:List Value),x=x0/\ALl (cI .i64) 41 2 h' F0 Hk Hl x0 r/\Sp h' h.size [F0]):=by
 unfold AK3 at hp;refine cwf (l:=[_,_]) Tryz.func21 rfl rfl (AH1<|AP5 (Kst.k0 h) [(.int .u8 a1),(.int .u8 a2),Ab,B6] λT0 T3 T4 B7=>AJd<|ALt A16 AU8 (B7.b p0) 2 rfl ?_);obtain ⟨_,_,_,Hm⟩:=(H4.ext B7.x).shape;refine ALe (v:=(.agg #[Ab,(.int .i64 0)])) (λ_=>by subst Hm;kernel_rfl)<|AP5 B7 [Ab,(.int .i64 0)] λAa T5 T6 Ax=>AJd<|ALt A14 A3g (Ax.b p1) 0 rfl (ASz AYc AYv rfl (AHy ?_));obtain ⟨Hn,Ho⟩:=ifN hp;refine ALg rfl rfl Hn (AI0 rfl rfl (AJd<|AH7 ?_));obtain ⟨Hq,Hr,Dz⟩:=AH2 Ho;refine ARb 147573952589676150912 (λx:(LiI) × (Value) × LnA × LnN × LvA × (Int)=>[(7,x.2.1)]) (λx h'=>( (x.1,x.2.2.2.2.2))=Hq/\Kst h h' (aO2 (cI .i64) 41 2 x.2.2.1 x.2.2.2.1 x.2.2.2.2.1 x.2.1 x.1 :: ((APr Ax.L [0]).set 0 (aB 100 Aa [Ab,(.int .i64 x.2.2.2.2.2)])))) ?_ ?_
 ·refine AH1<|ALt A15 A3g (Ax.b p1) 1 rfl (ALg rfl rfl AHz (AH5<|AH6 ?_));obtain ⟨Hs,D0,B8⟩:=AH2 Hr;refine ARb 520093696 (λx:(Bool)=>[(24,(.bool x))]) (λx h'=>( x)=Hs/\Kst h h' (APr Ax.L [0])) ?_ ?_
  ·refine AH1<|AKd rfl rfl (AH7<|⟨_,rfl,λB9=>?_,λB9=>?_⟩)
   ·refine AIa<|q_t ?_;exact ⟨((decide ((Int.tmod a2 8)=0)):(Bool)),⟨AH0<|AJb D0 B9,Ax.sel [0] AHz⟩,rfl,trivial⟩
   ·refine AH1<|AKd rfl rfl (AH7 ?_);have D3:=AJc D0 B9;refine ⟨_,rfl,λCa=>?_,λCa=>?_⟩
    ·refine AIa<|q_t ?_;exact ⟨((decide ((Int.tmod a2 8)=1)):(Bool)),⟨AH0<|AJb D3 Ca,Ax.sel [0] AHz⟩,rfl,trivial⟩
    ·refine AH1<|AKd rfl rfl (AH7 ?_);have D4:=AJc D3 Ca;refine ⟨_,rfl,λCb=>?_,λCb=>?_⟩
     ·refine AIa<|q_t ?_;exact ⟨((decide ((Int.tmod a2 8)=2)):(Bool)),⟨AH0<|AJb D4 Cb,Ax.sel [0] AHz⟩,rfl,trivial⟩
     ·refine AIf<|AKd rfl rfl (AH7 ?_);exact ⟨((decide ((Int.tmod a2 8)=3)):(Bool)),⟨AH0<|AJc D4 Cb,Ax.sel [0] AHz⟩,rfl,trivial⟩
  rintro Ht Hu Hv ⟨Hw,Ao⟩;(try dsimp only [Kst.L,List.set,APr,AS0] at Ao);refine (show W _ _ _ (setL [(24,(.bool Ht))]<|mix _ Hu _) Hv from ?_);subst Hw;(try dsimp only at B8);refine ⟨_,rfl,λCd=>?_,λCd=>?_⟩
  ·refine AIf<|AHy<|AHy ?_;obtain ⟨Hx,Hy,D5⟩:=AH2<|ifT B8 Cd;refine AIz (K':=(λxr h'=> ∃ x:(LiI) × (Value) × LnA × LnN × LvA × (Int),(x.1,x.2.2.2.2.2)=Hx/\xr=x.2.1/\Kst h h' (aO2 (cI .i64) 41 2 x.2.2.1 x.2.2.2.1 x.2.2.2.2.1 x.2.1 x.1 :: (Ao.L.set 0<|aB 100 Aa [Ab,(.int .i64 x.2.2.2.2.2)])))) trivial rfl ?_ λD6 T7 Hz=>?_
   ·refine cwf (l:=[_,_]) Tryz.func60 rfl rfl (AH1<|AJd<|AHy<|AHy ?_);obtain ⟨Ia,Ib,D7⟩:=AH2 Hy;refine AIz (K':=(λxr h'=> ∃ x:(LiI) × (Value) × LnA × LnN × LvA × (Int),(x.1,x.2.2.2.2.2)=Ia/\xr=x.2.1/\Kst h h' (aO2 (cI .i64) 41 2 x.2.2.1 x.2.2.2.1 x.2.2.2.2.1 x.2.1 x.1 :: (Ao.L.set 0<|aB 100 Aa [Ab,(.int .i64 x.2.2.2.2.2)])))) trivial rfl ?_ λBa T8 Ic=>?_
    ·refine cwf (l:=[_,_,_]) Tryz.func63 rfl rfl (AH1<|AJd<|AHy ?_);obtain ⟨Id,Ie⟩:=ifN Ib;refine Aay (cI .i64) 2 AIk AU9 rfl trivial tt2 rfl rfl AHz Id λIf Ih Ii D8 T9 Ij Ik Il=>AH7<|AH3<|AH1<|AHy ?_;have Ce:=Ao.no2 Ik Il Ij;refine AJh AIk rfl (Ce.o2 p0).rd (AHy<|AH5<|AH6<|AOq 4294959360 (λx:(Int) × (Int) × (LiI) × LnA × LnN × LvA=>(x.1,x.2.1,x.2.2.1)) ((0,0,(List.replicate (Int.toNat<|w64<|1 + (Int.tmod (w64 a1) Am)) ([]:List Int)),If,Ih,Ii):(Int) × (Int) × (LiI) × LnA × LnN × LvA) Ie (λx=>[(13,(.int .i64 x.1))]) (λx=>(Ce.L.set 0<|aO2 (cI .i64) 41 2 x.2.2.2.1 x.2.2.2.2.1 x.2.2.2.2.2 D8 x.2.2.1).set 1 (aB 100 Aa [Ab,(.int .i64 x.2.1)])) Ce ⟨rfl,trivial⟩ ?_);rintro ⟨Cf,Bb,Im,Io,Ip,Iq⟩ Ir Is Ua Cg Bc It;(try dsimp only [Kst.L,List.set,APr,AS0] at Cg);refine (show W _ _ _ (setL [(13,(.int .i64 Cf))]<|mix _ Ir _) Is from ?_);(try dsimp only at Bc);unfold ANj at Bc;refine AH1<|AI3 rfl rfl (AH5<|AH3<|⟨_,rfl,λCh=>?_,λCh=>?_⟩)
     ·refine AIa<|q_t<|AH3<|AH6<|AH1<|AHy<|AJd<|AHy<|AHy<|AHy ?_;obtain ⟨Iu,Iv⟩:=ifN<|AJb Bc Ch;refine AYw (c:=(cI .i64)) (a:=0) AIi ARy rfl rfl (λ_=>rfl) rfl trivial tt2 rfl rfl AHz Iu λUb Uc Ud Iw Ix Iy Iz=>?_;have A3:=Cg.no Ix (ANs Iy Iz) Iw;obtain ⟨Ue,D9,I0⟩:=AH2 Iv;refine AJr AIk rfl (A3.o2 p1) rfl D9 λUf Ug I1 Uh Ui=>Aax AIv (A3.o2 p1) D9 I1 rfl rfl (A3.o p0) (A3.dj p0 p1 AHz) λAp I2 I3 I6=>AH5<|AKg (λh'=>UpT ([Aa] ++ []) Ap h') AIb ?_;have Af:=A3.m2 p0 p1 AHz I3 I2 λz hz=> .inl<|I6 z hz;have Ci:UpT ([Aa] ++ []) Ap Ap:=UpT.start<|AKm (AOp (Af.b p2) rfl) all_nil;refine AHy<|AHy ?_;obtain ⟨Uj,Cj,I7⟩:=AH2 I0;refine AJr AIk rfl (Af.o2 p1) rfl Cj λUk Ul I9 Ja Jc=>AJe AIv rfl Ci (λh' hb=>AUo Jc hb<|Abf (Af.dj p1 p2 AHz _<|by simp [aO,aO2,I9]) Abg) (AHy<|AHy<|AHy ?_);obtain ⟨Je,Jf,Ea⟩:=AH2 I7;have Jg:UpT ([Aa] ++ []) Ap Ap:=UpT.start<|AKm (AOp (Af.b p2) rfl) all_nil;refine AIz (K':=(λxr h'=> ∃ x:(Int) × (Int),(x.1,x.2)=Je/\xr=(.int .i64 x.1)/\Kst h h' ((APr Af.L [1,2]).set 1 (aB 100 Aa [Ab,(.int .i64 x.2)]))/\UpT ([Aa] ++ []) Ap h')) Ci rfl ?_ λUm Un Jh=>?_
      ·refine cwf (l:=[_,_]) Tryz.func62 rfl rfl (AH1<|AJd<|AHy ?_);obtain ⟨Ji,Eb,Ec⟩:=AH2 Jf;have Ed:UpT ([Aa] ++ []) Ap Ap:=UpT.start<|AKm (AOp (Af.b p2) rfl) all_nil;refine AIz (K':=(λxr h'=> ∃ x:(Int) × (Int),(x.1,x.2)=Ji/\xr=(.int .i64 x.1)/\Kst h h' ((APr Af.L [1,2]).set 1 (aB 100 Aa [Ab,(.int .i64 x.2)]))/\UpT ([Aa] ++ []) Ap h')) trivial rfl ?_ λUo Up Jj=>?_
       ·refine cwf (l:=[_]) Tryz.func114 rfl rfl (AH1<|AH7<|AH3<|AH3<|AMw<|AHy<|AJj rfl (AJp AKh rfl (AI1 AJq rfl ((Af.b p2).cell (i:=1) rfl) (AHy<|AJj rfl (AJp AN3 rfl (AI1 AU8 rfl ((Af.b p2).cell (i:=0) rfl) (AJ8 AV6 rfl H4 (AUr rfl rfl (AH5<|⟨_,rfl,λCk=>?_,λCk=>?_⟩)))))))))
        ·refine AH1<|AH7<|AIc<|AIt<|⟨_,AId,((0,Bb):(Int) × (Int)),?_,rfl,?_,?_⟩
         ·exact AH0<|AJb Eb Ck
         ·exact Af.sel [1,2] AHz
         ·exact Ed
        ·refine AIa<|q_t<|AH1<|AHy<|AJj rfl (AJp AKh rfl (AI1 AJq rfl ((Af.b p2).cell (i:=1) rfl) (AI0 rfl rfl (AJj rfl (AJp AKh rfl (AVa [Ab,(.int .i64<|w64<|Bb + 1)] AJq rfl rfl rfl (Af.b p2) (Nat.le_of_ble_eq_true rfl) rfl λUq Ee Ef=>AH5<|AH3<|AMw<|AHy<|AJj rfl (AJp AN3 rfl ?_)))))));have Be:=Af.sb p2 Ef Ee rfl;refine AI1 AU8 rfl ((Be.b p2).cell (i:=0) rfl) (AHy<|AJj rfl (AJp AKh rfl (AI1 AJq rfl ((Be.b p2).cell (i:=1) rfl) (AMy rfl rfl ?_))));obtain ⟨Jk,Jl,Jm⟩:=AH2<|AJc Eb Ck;refine AQi (c:=(cI .i8)) AV6 rfl H4 rfl Jl λUr Us Ut Jn Jo=>?_;obtain rfl:=Jn;refine AI1 Afl rfl (AIj (Jo 0 _ rfl) Be.x) (ASz Afm AP8 rfl (AH7<|AIc<|⟨_,AId,(((w64 Jk),(w64<|Bb + 1)):(Int) × (Int)),?_,rfl,?_,?_⟩))
         ·exact AH0 Jm
         ·exact Be.sel [1,2] AHz
         ·exact (Ed.then (Ee.stA Ef (AOp (Af.b p2) rfl) rfl)<|ARx rfl)
       obtain ⟨⟨Jp,Jq⟩,Jr,rfl,Eg,Js⟩:=Jj;(try dsimp only [Kst.L,List.set,APr,AS0] at Eg);refine ⟨trivial,?_⟩;subst Jr;(try dsimp only at Ec);refine ASz AP8 AYc rfl (ASz AYc AYv rfl (AHy<|ALg rfl rfl AHz (AH7<|AIc<|⟨_,AId,(((Int.tmod (w64<|IntKind.wrap .u8 Jp) 6),Jq):(Int) × (Int)),?_,rfl,?_,?_⟩)))
       ·exact AH0 Ec
       ·exact Eg
       ·exact (Jg.then Js<|AKm (ARx rfl) all_nil)
      obtain ⟨⟨Jt,Uu⟩,Ju,rfl,Cm,Jv⟩:=Jh;(try dsimp only [Kst.L,List.set,APr,AS0] at Cm);refine ⟨(Ci.then Jv<|AKm (ARx rfl) all_nil),?_⟩;subst Ju;(try dsimp only at Ea);refine AI0 rfl rfl ?_;obtain ⟨Uv,Eh,Jw⟩:=AH2 Ea;refine AJy (m:=Cf) AIi rfl (Af.o2 p1) Ja Cj rfl Eh λUw Jx=>AN2 (m:=Cf) (AMt AIg rfl rfl rfl) (Cm.o2 p0) Jx Cj Eh (show ((cI .i64)).rep _ (w64<|1 + Jt) _ from rfl) λUx Jy Jz=>AIu<|q_b<|q_t<|AIf<|AI0 rfl rfl (AHy<|AH5 ?_);exact ⟨(_,_,_,_,_,_),(AH0 Jw).symm,(Cm.uO2 p0 Jz Jy),rfl,trivial⟩
     ·have Ei:=It _ (AH0<|AJc Bc Ch).symm;(try dsimp only at Ei);refine AIq<|AIr<|AIr<|AJt<|q_t<|AH1<|AHy<|AH7<|AIc<|⟨_,AId,((Im,D8,Io,Ip,Iq,Bb):(LiI) × (Value) × LnA × LnN × LvA × (Int)),?_,rfl,?_⟩
      ·exact AH0 Ei
      ·exact Cg
    obtain ⟨⟨J0,Ba,J1,J2,J3,J4⟩,J5,rfl,Bf⟩:=Ic;(try dsimp only [Kst.L,List.set,APr,AS0] at Bf);refine ⟨trivial,?_⟩;subst J5;(try dsimp only at D7);refine AH7<|AH3<|AH1<|AHy<|AJh AIk rfl (Bf.o2 p0).rd (AHy<|AH5<|AH6<|AOq 17592186036416 (λx:(Int) × (Int) × (LiI) × LnA × LnN × LvA=>(x.1,x.2.1,x.2.2.1)) ((0,J4,J0,J1,J2,J3):(Int) × (Int) × (LiI) × LnA × LnN × LvA) D7 (λx=>[(13,(.int .i64 x.1))]) (λx=>(Bf.L.set 0<|aO2 (cI .i64) 41 2 x.2.2.2.1 x.2.2.2.2.1 x.2.2.2.2.2 Ba x.2.2.1).set 1 (aB 100 Aa [Ab,(.int .i64 x.2.1)])) Bf ⟨rfl,trivial⟩ ?_);rintro ⟨Bg,Ej,Ek,El,Em,En⟩ J6 J7 Uy Bh Bi J8;(try dsimp only [Kst.L,List.set,APr,AS0] at Bh);refine (show W _ _ _ (setL [(13,(.int .i64 Bg))]<|mix _ J6 _) J7 from ?_);(try dsimp only at Bi);unfold ANk at Bi;refine AH1<|AI3 rfl rfl (AH5<|AH3<|⟨_,rfl,λCn=>?_,λCn=>?_⟩)
    ·refine AIa<|q_t<|AH3<|AH6<|AH1<|AHy<|AJd<|AH7<|AH6<|AOq 8796092956800 (λx:(Int) × (Int) × (LiI) × LnA × LnN × LvA=>(x.1,x.2.1,x.2.2.1)) ((0,Ej,Ek,El,Em,En):(Int) × (Int) × (LiI) × LnA × LnN × LvA) (AJb Bi Cn) (λx=>[(7,(.int .i64 x.1))]) (λx=>(Bh.L.set 0<|aO2 (cI .i64) 41 2 x.2.2.2.1 x.2.2.2.2.1 x.2.2.2.2.2 Ba x.2.2.1).set 1 (aB 100 Aa [Ab,(.int .i64 x.2.1)])) Bh ⟨rfl,trivial⟩ ?_;rintro ⟨Eo,Co,Uz,U0,U3,U8⟩ J9 Az Va Ag Bj Ka;(try dsimp only [Kst.L,List.set,APr,AS0] at Ag);refine (show W _ _ _ (setL [(7,(.int .i64 Eo))]<|mix _ J9 _) Az from ?_);(try dsimp only at Bj);unfold APm at Bj;refine AH3<|AH1<|AHy<|AHy<|AI3 rfl rfl (AH5<|⟨_,rfl,λCp=>?_,λCp=>?_⟩)
     ·refine AIa<|q_t<|AH3<|AH6<|AH3<|AKg (λh'=>UpT ([Aa] ++ []) Az h') AIb ?_;have Cq:UpT ([Aa] ++ []) Az Az:=UpT.start<|AKm (AOp (Ag.b p1) rfl) all_nil;refine AHy<|AHy ?_;obtain ⟨Vb,Cr,Kb⟩:=AH2<|AJb Bj Cp;refine AJr AIk rfl (Ag.o2 p0) rfl Cr λVc Vd Kc Kd Ke=>AJe AIv rfl Cq (λh' hb=>AUo Ke hb<|Abf (Ag.dj p0 p1 AHz _<|by simp [aO,aO2,Kc]) Abg) (AHy<|AHy ?_);obtain ⟨Kf,Ep,Er⟩:=AH2 Kb;have Es:UpT ([Aa] ++ []) Az Az:=UpT.start<|AKm (AOp (Ag.b p1) rfl) all_nil;refine AIz (K':=(λxr h'=> ∃ x:(Int) × (Int),(x.1,x.2)=Kf/\xr=(.int .i64 x.1)/\Kst h h' (Ag.L.set 1<|aB 100 Aa [Ab,(.int .i64 x.2)])/\UpT ([Aa] ++ []) Az h')) Cq rfl ?_ λVe Vf Kg=>?_
      ·refine cwf (l:=[_]) Tryz.func114 rfl rfl (AH1<|AH7<|AH3<|AH3<|AMw<|AHy<|AJj rfl (AJp AKh rfl (AI1 AJq rfl ((Ag.b p1).cell (i:=1) rfl) (AHy<|AJj rfl (AJp AN3 rfl (AI1 AU8 rfl ((Ag.b p1).cell (i:=0) rfl) (AJ8 AV6 rfl H4 (AUr rfl rfl (AH5<|⟨_,rfl,λCt=>?_,λCt=>?_⟩)))))))))
       ·refine AH1<|AH7<|AIc<|AIt<|⟨_,AId,((0,Co):(Int) × (Int)),?_,rfl,?_,?_⟩
        ·exact AH0<|AJb Ep Ct
        ·exact Ag
        ·exact Es
       ·refine AIa<|q_t<|AH1<|AHy<|AJj rfl (AJp AKh rfl (AI1 AJq rfl ((Ag.b p1).cell (i:=1) rfl) (AI0 rfl rfl (AJj rfl (AJp AKh rfl (AVa [Ab,(.int .i64<|w64<|Co + 1)] AJq rfl rfl rfl (Ag.b p1) (Nat.le_of_ble_eq_true rfl) rfl λVg Et Eu=>AH5<|AH3<|AMw<|AHy<|AJj rfl (AJp AN3 rfl ?_)))))));have Bl:=Ag.sb p1 Eu Et rfl;refine AI1 AU8 rfl ((Bl.b p1).cell (i:=0) rfl) (AHy<|AJj rfl (AJp AKh rfl (AI1 AJq rfl ((Bl.b p1).cell (i:=1) rfl) (AMy rfl rfl ?_))));obtain ⟨Kh,Ki,Kj⟩:=AH2<|AJc Ep Ct;refine AQi (c:=(cI .i8)) AV6 rfl H4 rfl Ki λVh Vi Vj Kk Kl=>?_;obtain rfl:=Kk;refine AI1 Afl rfl (AIj (Kl 0 _ rfl) Bl.x) (ASz Afm AP8 rfl (AH7<|AIc<|⟨_,AId,(((w64 Kh),(w64<|Co + 1)):(Int) × (Int)),?_,rfl,?_,?_⟩))
        ·exact AH0 Kj
        ·exact Bl
        ·exact (Es.then (Et.stA Eu (AOp (Ag.b p1) rfl) rfl)<|ARx rfl)
      obtain ⟨⟨Km,Vk⟩,Kn,rfl,Cu,Ko⟩:=Kg;(try dsimp only [Kst.L,List.set,APr,AS0] at Cu);refine ⟨(Cq.then Ko<|AKm (ARx rfl) all_nil),?_⟩;subst Kn;(try dsimp only at Er);refine ALg rfl rfl AHz ?_;obtain ⟨Vl,Ev,Kp⟩:=AH2 Er;refine AJy (m:=Bg) AIi rfl (Ag.o2 p0) Kd Cr rfl Ev λVm Kr=>AN2 (m:=Bg) (AMt AIg rfl rfl rfl) (Cu.o2 p0) Kr Cr Ev (show ((cI .i64)).rep _ (Int.tmod Km 3) _ from rfl) λVn Kt Ku=>AH5<|AMw<|AHy<|AHy ?_;have Bm:=Cu.uO2 p0 Ku Kt;obtain ⟨Vo,Ew,Kv⟩:=AH2 Kp;refine AKe AIk AIv (Bm.o2 p0) Ew λ_ Vp Kw=>AHy<|AHy<|AHy ?_;obtain ⟨Vs,Ey,Kx⟩:=AH2 Kv;refine AKe AIk AIv (Bm.o2 p0) Ey λ_ Vt Ky=>AHy ?_;obtain ⟨Vu,Kz,La⟩:=AH2 Kx;refine AP4 (m:=Bg) AIi AIg (Bm.o2 p0) Ky Ey Kz λ_=>?_;obtain ⟨Vv,Lb,Lc⟩:=AH2 La;refine AT0 (m:=Eo) Bm p0 AIi AIg Kw Ew Lb (λ_=>rfl) λ_ Vw Ld=>AIu<|q_b<|q_t<|AIf<|AHy<|AI0 rfl rfl (AH7 ?_);exact ⟨(_,_,_,_,_,_),(AH0 Lc).symm,Ld,rfl,trivial⟩
     ·have Ez:=Ka _ (AH0<|AJc Bj Cp).symm;(try dsimp only at Ez);refine AIq<|AIr<|AIr<|AJt<|q_b<|q_t<|AIf<|AI0 rfl rfl (AHy<|AH5 ?_);exact ⟨(_,_,_,_,_,_),(AH0 Ez).symm,Ag,rfl,trivial⟩
    ·have Fa:=J8 _ (AH0<|AJc Bi Cn).symm;(try dsimp only at Fa);refine AIq<|AIr<|AIr<|AJt<|q_t<|AH1<|AHy<|AH7<|AIc<|⟨_,AId,((Ek,Ba,El,Em,En,Ej):(LiI) × (Value) × LnA × LnN × LvA × (Int)),?_,rfl,?_⟩
     ·exact AH0 Fa
     ·exact Bh
   obtain ⟨⟨Le,D6,Lf,Lg,Lh,Li⟩,Lj,rfl,Fb⟩:=Hz;(try dsimp only [Kst.L,List.set,APr,AS0] at Fb);refine ⟨trivial,?_⟩;subst Lj;(try dsimp only at D5);refine AIw<|AIu<|q_b<|q_t ?_;exact ⟨((Le,D6,Lf,Lg,Lh,Li):(LiI) × (Value) × LnA × LnN × LvA × (Int)),⟨AH0 D5,Fb⟩,rfl,trivial⟩
  ·refine AH1<|AKd rfl rfl (AH7 ?_);have Fc:=AQa B8 Cd;refine ⟨_,rfl,λCv=>?_,λCv=>?_⟩
   ·refine AH1<|AHy ?_;obtain ⟨Lk,Ll,Lm⟩:=AH2<|AJb Fc Cv;refine AWs Ao (AWp Ll) λLo Lq Lr Lv Aq Vx Ac=>AH7<|AKg (λh'=>UpT ([Aa] ++ []) Aq h') AIb ?_;have Bn:UpT ([Aa] ++ []) Aq Aq:=UpT.start<|AKm (AOp (Ac.b p1) rfl) all_nil;refine AHy ?_;obtain ⟨Lw,A4,Lx⟩:=AH2 Lm;refine AJr AIk rfl (Ac.o2 p0) rfl A4 λVy Vz Ly Fd Lz=>AJe AIv rfl Bn (λh' hb=>AUo Lz hb<|Abf (Ac.dj p0 p1 AHz _<|by simp [aO,aO2,Ly]) Abg) ?_;obtain ⟨Fe,Bo,L9⟩:=AH2 Lx;refine AJy (m:=0) AIi rfl (Ac.o2 p0) Fd A4 rfl Bo λV1 Ff=>?_;obtain ⟨V4,Ma,Mb⟩:=(Ac.o2 p0).cells Ff A4 Bo;obtain rfl:=Ma;refine AJe AIg rfl Bn (λh' hb=>AUo (Mb 0 _ rfl) hb<|Abf (Ac.dj p0 p1 AHz _<|(Ac.o2 p0).gmem Ff) Abg) (AHy ?_);obtain ⟨Mc,Md,Fg⟩:=AH2 L9;have Me:UpT ([Aa] ++ []) Aq Aq:=UpT.start<|AKm (AOp (Ac.b p1) rfl) all_nil;refine AIz (K':=(λxr h'=> ∃ x:(Int) × (Int),(x.1,x.2)=Mc/\xr=(.int .i64 x.1)/\Kst h h' (Ac.L.set 1<|aB 100 Aa [Ab,(.int .i64 x.2)])/\UpT ([Aa] ++ []) Aq h')) Bn rfl ?_ λV6 V8 Mf=>?_
    ·refine cwf (l:=[_,_]) Tryz.func62 rfl rfl (AH1<|AJd<|AHy ?_);obtain ⟨Mg,Fh,Fi⟩:=AH2 Md;have Fj:UpT ([Aa] ++ []) Aq Aq:=UpT.start<|AKm (AOp (Ac.b p1) rfl) all_nil;refine AIz (K':=(λxr h'=> ∃ x:(Int) × (Int),(x.1,x.2)=Mg/\xr=(.int .i64 x.1)/\Kst h h' (Ac.L.set 1<|aB 100 Aa [Ab,(.int .i64 x.2)])/\UpT ([Aa] ++ []) Aq h')) trivial rfl ?_ λWa Wb Mh=>?_
     ·refine cwf (l:=[_]) Tryz.func114 rfl rfl (AH1<|AH7<|AH3<|AH3<|AMw<|AHy<|AJj rfl (AJp AKh rfl (AI1 AJq rfl ((Ac.b p1).cell (i:=1) rfl) (AHy<|AJj rfl (AJp AN3 rfl (AI1 AU8 rfl ((Ac.b p1).cell (i:=0) rfl) (AJ8 AV6 rfl H4 (AUr rfl rfl (AH5<|⟨_,rfl,λCw=>?_,λCw=>?_⟩)))))))))
      ·refine AH1<|AH7<|AIc<|AIt<|⟨_,AId,((0,0):(Int) × (Int)),?_,rfl,?_,?_⟩
       ·exact AH0<|AJb Fh Cw
       ·exact Ac
       ·exact Fj
      ·refine AIa<|q_t<|AH1<|AHy<|AJj rfl (AJp AKh rfl (AI1 AJq rfl ((Ac.b p1).cell (i:=1) rfl) (AI0 rfl rfl (AJj rfl (AJp AKh rfl (AVa [Ab,(.int .i64<|w64<|0 + 1)] AJq rfl rfl rfl (Ac.b p1) (Nat.le_of_ble_eq_true rfl) rfl λWc Fk Fl=>AH5<|AH3<|AMw<|AHy<|AJj rfl (AJp AN3 rfl ?_)))))));have Bp:=Ac.sb p1 Fl Fk rfl;refine AI1 AU8 rfl ((Bp.b p1).cell (i:=0) rfl) (AHy<|AJj rfl (AJp AKh rfl (AI1 AJq rfl ((Bp.b p1).cell (i:=1) rfl) (AMy rfl rfl ?_))));obtain ⟨Mi,Mj,Mk⟩:=AH2<|AJc Fh Cw;refine AQi (c:=(cI .i8)) AV6 rfl H4 rfl Mj λWd We Wf Ml Mm=>?_;obtain rfl:=Ml;refine AI1 Afl rfl (AIj (Mm 0 _ rfl) Bp.x) (ASz Afm AP8 rfl (AH7<|AIc<|⟨_,AId,(((w64 Mi),(w64<|0 + 1)):(Int) × (Int)),?_,rfl,?_,?_⟩))
       ·exact AH0 Mk
       ·exact Bp
       ·exact (Fj.then (Fk.stA Fl (AOp (Ac.b p1) rfl) rfl)<|ARx rfl)
     obtain ⟨⟨Mo,Mq⟩,Mr,rfl,Fm,Ms⟩:=Mh;(try dsimp only [Kst.L,List.set,APr,AS0] at Fm);refine ⟨trivial,?_⟩;subst Mr;(try dsimp only at Fi);refine ASz AP8 AYc rfl (ASz AYc AYv rfl (AHy<|ALg rfl rfl AHz (AH7<|AIc<|⟨_,AId,(((Int.tmod (w64<|IntKind.wrap .u8 Mo) 3),Mq):(Int) × (Int)),?_,rfl,?_,?_⟩)))
     ·exact AH0 Fi
     ·exact Fm
     ·exact (Me.then Ms<|AKm (ARx rfl) all_nil)
    obtain ⟨⟨Fo,Mt⟩,Mu,rfl,Cx,Mv⟩:=Mf;(try dsimp only [Kst.L,List.set,APr,AS0] at Cx);refine ⟨(Bn.then Mv<|AKm (ARx rfl) all_nil),?_⟩;subst Mu;(try dsimp only at Fg);refine AI0 rfl rfl (AJy (m:=0) AIi rfl (Ac.o2 p0) Fd A4 rfl Bo λWg Mw=>AN2 (m:=0) (AMt AIg rfl rfl rfl) (Cx.o2 p0) Mw A4 Bo (show ((cI .i64)).rep _ (w64<|Fe + Fo) _ from rfl) λWh Mx My=>AIu<|q_b<|q_t ?_);exact ⟨(((sI Lk 0<|sI Lw 0<|w64<|Fe + Fo),Lv,Lo,Lq,Lr,Mt):(LiI) × (Value) × LnA × LnN × LvA × (Int)),⟨AH0 Fg,(Cx.uO2 p0 My Mx)⟩,rfl,trivial⟩
   ·refine AH1<|AKd rfl rfl (AH7 ?_);have Fp:=AJc Fc Cv;refine ⟨_,rfl,λCy=>?_,λCy=>?_⟩
    ·refine AH1<|AHy ?_;obtain ⟨Mz,M0,M1⟩:=AH2<|AJb Fp Cy;refine AWs Ao (AWp M0) λM2 M3 M4 M5 Ar Wi Ad=>AH7<|AKg (λh'=>UpT ([Aa] ++ []) Ar h') AIb ?_;have Bq:UpT ([Aa] ++ []) Ar Ar:=UpT.start<|AKm (AOp (Ad.b p1) rfl) all_nil;refine AHy<|AHy<|AMy rfl rfl ?_;obtain ⟨M6,A5,M7⟩:=AH2 M1;refine AJr AIk rfl (Ad.o2 p0) rfl A5 λWj Wk M8 Fq M9=>AJe AIv rfl Bq (λh' hb=>AUo M9 hb<|Abf (Ad.dj p0 p1 AHz _<|by simp [aO,aO2,M8]) Abg) (AHy<|AMy rfl rfl ?_);obtain ⟨Ft,Br,Na⟩:=AH2 M7;refine AJy (m:=(w64<|(w64<|1 + (Int.tmod (w64 a1) Am)) - 1)) AIi rfl (Ad.o2 p0) Fq A5 rfl Br λWl Fu=>?_;obtain ⟨Wm,Nb,Nc⟩:=(Ad.o2 p0).cells Fu A5 Br;obtain rfl:=Nb;refine AJe AIg rfl Bq (λh' hb=>AUo (Nc 0 _ rfl) hb<|Abf (Ad.dj p0 p1 AHz _<|(Ad.o2 p0).gmem Fu) Abg) (AHy ?_);obtain ⟨Nd,Nf,Fv⟩:=AH2 Na;have Ng:UpT ([Aa] ++ []) Ar Ar:=UpT.start<|AKm (AOp (Ad.b p1) rfl) all_nil;refine AIz (K':=(λxr h'=> ∃ x:(Int) × (Int),(x.1,x.2)=Nd/\xr=(.int .i64 x.1)/\Kst h h' (Ad.L.set 1<|aB 100 Aa [Ab,(.int .i64 x.2)])/\UpT ([Aa] ++ []) Ar h')) Bq rfl ?_ λWn Wo Nh=>?_
     ·refine cwf (l:=[_,_]) Tryz.func62 rfl rfl (AH1<|AJd<|AHy ?_);obtain ⟨Ni,Fw,Fx⟩:=AH2 Nf;have Fy:UpT ([Aa] ++ []) Ar Ar:=UpT.start<|AKm (AOp (Ad.b p1) rfl) all_nil;refine AIz (K':=(λxr h'=> ∃ x:(Int) × (Int),(x.1,x.2)=Ni/\xr=(.int .i64 x.1)/\Kst h h' (Ad.L.set 1<|aB 100 Aa [Ab,(.int .i64 x.2)])/\UpT ([Aa] ++ []) Ar h')) trivial rfl ?_ λWp Wq Nj=>?_
      ·refine cwf (l:=[_]) Tryz.func114 rfl rfl (AH1<|AH7<|AH3<|AH3<|AMw<|AHy<|AJj rfl (AJp AKh rfl (AI1 AJq rfl ((Ad.b p1).cell (i:=1) rfl) (AHy<|AJj rfl (AJp AN3 rfl (AI1 AU8 rfl ((Ad.b p1).cell (i:=0) rfl) (AJ8 AV6 rfl H4 (AUr rfl rfl (AH5<|⟨_,rfl,λCz=>?_,λCz=>?_⟩)))))))))
       ·refine AH1<|AH7<|AIc<|AIt<|⟨_,AId,((0,0):(Int) × (Int)),?_,rfl,?_,?_⟩
        ·exact AH0<|AJb Fw Cz
        ·exact Ad
        ·exact Fy
       ·refine AIa<|q_t<|AH1<|AHy<|AJj rfl (AJp AKh rfl (AI1 AJq rfl ((Ad.b p1).cell (i:=1) rfl) (AI0 rfl rfl (AJj rfl (AJp AKh rfl (AVa [Ab,(.int .i64<|w64<|0 + 1)] AJq rfl rfl rfl (Ad.b p1) (Nat.le_of_ble_eq_true rfl) rfl λWr Fz F4=>AH5<|AH3<|AMw<|AHy<|AJj rfl (AJp AN3 rfl ?_)))))));have Bt:=Ad.sb p1 F4 Fz rfl;refine AI1 AU8 rfl ((Bt.b p1).cell (i:=0) rfl) (AHy<|AJj rfl (AJp AKh rfl (AI1 AJq rfl ((Bt.b p1).cell (i:=1) rfl) (AMy rfl rfl ?_))));obtain ⟨Nk,Nl,Nm⟩:=AH2<|AJc Fw Cz;refine AQi (c:=(cI .i8)) AV6 rfl H4 rfl Nl λWs Wt Wu Nn Np=>?_;obtain rfl:=Nn;refine AI1 Afl rfl (AIj (Np 0 _ rfl) Bt.x) (ASz Afm AP8 rfl (AH7<|AIc<|⟨_,AId,(((w64 Nk),(w64<|0 + 1)):(Int) × (Int)),?_,rfl,?_,?_⟩))
        ·exact AH0 Nm
        ·exact Bt
        ·exact (Fy.then (Fz.stA F4 (AOp (Ad.b p1) rfl) rfl)<|ARx rfl)
      obtain ⟨⟨Nq,Nr⟩,Ns,rfl,F5,Nt⟩:=Nj;(try dsimp only [Kst.L,List.set,APr,AS0] at F5);refine ⟨trivial,?_⟩;subst Ns;(try dsimp only at Fx);refine ASz AP8 AYc rfl (ASz AYc AYv rfl (AHy<|ALg rfl rfl AHz (AH7<|AIc<|⟨_,AId,(((Int.tmod (w64<|IntKind.wrap .u8 Nq) 2),Nr):(Int) × (Int)),?_,rfl,?_,?_⟩)))
      ·exact AH0 Fx
      ·exact F5
      ·exact (Ng.then Nt<|AKm (ARx rfl) all_nil)
     obtain ⟨⟨F6,Nu⟩,Nv,rfl,C0,Nw⟩:=Nh;(try dsimp only [Kst.L,List.set,APr,AS0] at C0);refine ⟨(Bq.then Nw<|AKm (ARx rfl) all_nil),?_⟩;subst Nv;(try dsimp only at Fv);refine AI0 rfl rfl (AJy (m:=(w64<|(w64<|1 + (Int.tmod (w64 a1) Am)) - 1)) AIi rfl (Ad.o2 p0) Fq A5 rfl Br λWv Ny=>AN2 (m:=(w64<|(w64<|1 + (Int.tmod (w64 a1) Am)) - 1)) (AMt AIg rfl rfl rfl) (C0.o2 p0) Ny A5 Br (show ((cI .i64)).rep _ (w64<|Ft + F6) _ from rfl) λWw Nz N0=>AIu<|q_b<|q_t ?_);exact ⟨(((sI Mz (w64<|(w64<|1 + (Int.tmod (w64 a1) Am)) - 1)<|sI M6 (w64<|(w64<|1 + (Int.tmod (w64 a1) Am)) - 1)<|w64<|Ft + F6),M5,M2,M3,M4,Nu):(LiI) × (Value) × LnA × LnN × LvA × (Int)),⟨AH0 Fv,(C0.uO2 p0 N0 Nz)⟩,rfl,trivial⟩
    ·refine AH1<|AKd rfl rfl (AH7 ?_);have F7:=AJc Fp Cy;refine ⟨_,rfl,λC1=>?_,λC1=>?_⟩
     ·refine AIf<|AHy<|AHy ?_;obtain ⟨N3,N4,F8⟩:=AH2<|AJb F7 C1;refine AIz (K':=(λxr h'=> ∃ x:(LiI) × (Value) × LnA × LnN × LvA × (Int),(x.1,x.2.2.2.2.2)=N3/\xr=x.2.1/\Kst h h' (aO2 (cI .i64) 41 2 x.2.2.1 x.2.2.2.1 x.2.2.2.2.1 x.2.1 x.1 :: (Ao.L.set 0<|aB 100 Aa [Ab,(.int .i64 x.2.2.2.2.2)])))) trivial rfl ?_ λF9 Wx N5=>?_
      ·refine cwf (l:=[_,_,_]) Tryz.func63 rfl rfl (AH1<|AJd<|AHy ?_);obtain ⟨N6,N7⟩:=ifN N4;refine Aay (cI .i64) 2 AIk AU9 rfl trivial tt2 rfl rfl AHz N6 λN8 N9 Oa Ga Wy Ob Oc Od=>AH7<|AH3<|AH1<|AHy ?_;have C3:=Ao.no2 Oc Od Ob;refine AJh AIk rfl (C3.o2 p0).rd (AHy<|AH5<|AH6<|AOq 4294959360 (λx:(Int) × (Int) × (LiI) × LnA × LnN × LvA=>(x.1,x.2.1,x.2.2.1)) ((0,0,(List.replicate (Int.toNat<|w64<|1 + (Int.tmod (w64 a1) Am)) ([]:List Int)),N8,N9,Oa):(Int) × (Int) × (LiI) × LnA × LnN × LvA) N7 (λx=>[(13,(.int .i64 x.1))]) (λx=>(C3.L.set 0<|aO2 (cI .i64) 41 2 x.2.2.2.1 x.2.2.2.2.1 x.2.2.2.2.2 Ga x.2.2.1).set 1 (aB 100 Aa [Ab,(.int .i64 x.2.1)])) C3 ⟨rfl,trivial⟩ ?_);rintro ⟨C4,Bu,Oe,Og,Oh,Oi⟩ Oj Ol Wz C5 Bv Om;(try dsimp only [Kst.L,List.set,APr,AS0] at C5);refine (show W _ _ _ (setL [(13,(.int .i64 C4))]<|mix _ Oj _) Ol from ?_);(try dsimp only at Bv);unfold AM2 at Bv;refine AH1<|AI3 rfl rfl (AH5<|AH3<|⟨_,rfl,λC6=>?_,λC6=>?_⟩)
       ·refine AIa<|q_t<|AH3<|AH6<|AH1<|AHy<|AJd<|AHy<|AHy<|AHy ?_;obtain ⟨On,Oo⟩:=ifN<|AJb Bv C6;refine AYw (c:=(cI .i64)) (a:=0) AIi ARy rfl rfl (λ_=>rfl) rfl trivial tt2 rfl rfl AHz On λW0 W1 W3 Oq Ot Ou Ov=>?_;have A6:=C5.no Ot (ANs Ou Ov) Oq;obtain ⟨W4,Gb,Ow⟩:=AH2 Oo;refine AJr AIk rfl (A6.o2 p1) rfl Gb λW5 W6 Ox W7 W8=>Aax AIv (A6.o2 p1) Gb Ox rfl rfl (A6.o p0) (A6.dj p0 p1 AHz) λAu Oy Oz O0=>AH5<|AKg (λh'=>UpT ([Aa] ++ []) Au h') AIb ?_;have Ah:=A6.m2 p0 p1 AHz Oz Oy λz hz=> .inl<|O0 z hz;have C7:UpT ([Aa] ++ []) Au Au:=UpT.start<|AKm (AOp (Ah.b p2) rfl) all_nil;refine AHy<|AHy ?_;obtain ⟨Xa,C8,O1⟩:=AH2 Ow;refine AJr AIk rfl (Ah.o2 p1) rfl C8 λXb Xc O2 O3 O4=>AJe AIv rfl C7 (λh' hb=>AUo O4 hb<|Abf (Ah.dj p1 p2 AHz _<|by simp [aO,aO2,O2]) Abg) (AHy<|AHy<|AHy ?_);obtain ⟨O5,O6,Gc⟩:=AH2 O1;have O7:UpT ([Aa] ++ []) Au Au:=UpT.start<|AKm (AOp (Ah.b p2) rfl) all_nil;refine AIz (K':=(λxr h'=> ∃ x:(Int) × (Int),(x.1,x.2)=O5/\xr=(.int .i64 x.1)/\Kst h h' ((APr Ah.L [1,2]).set 1 (aB 100 Aa [Ab,(.int .i64 x.2)]))/\UpT ([Aa] ++ []) Au h')) C7 rfl ?_ λXd Xe O8=>?_
        ·refine cwf (l:=[_,_]) Tryz.func62 rfl rfl (AH1<|AJd<|AHy ?_);obtain ⟨O9,Gd,Ge⟩:=AH2 O6;have Gf:UpT ([Aa] ++ []) Au Au:=UpT.start<|AKm (AOp (Ah.b p2) rfl) all_nil;refine AIz (K':=(λxr h'=> ∃ x:(Int) × (Int),(x.1,x.2)=O9/\xr=(.int .i64 x.1)/\Kst h h' ((APr Ah.L [1,2]).set 1 (aB 100 Aa [Ab,(.int .i64 x.2)]))/\UpT ([Aa] ++ []) Au h')) trivial rfl ?_ λXf Xg Pa=>?_
         ·refine cwf (l:=[_]) Tryz.func114 rfl rfl (AH1<|AH7<|AH3<|AH3<|AMw<|AHy<|AJj rfl (AJp AKh rfl (AI1 AJq rfl ((Ah.b p2).cell (i:=1) rfl) (AHy<|AJj rfl (AJp AN3 rfl (AI1 AU8 rfl ((Ah.b p2).cell (i:=0) rfl) (AJ8 AV6 rfl H4 (AUr rfl rfl (AH5<|⟨_,rfl,λC9=>?_,λC9=>?_⟩)))))))))
          ·refine AH1<|AH7<|AIc<|AIt<|⟨_,AId,((0,Bu):(Int) × (Int)),?_,rfl,?_,?_⟩
           ·exact AH0<|AJb Gd C9
           ·exact Ah.sel [1,2] AHz
           ·exact Gf
          ·refine AIa<|q_t<|AH1<|AHy<|AJj rfl (AJp AKh rfl (AI1 AJq rfl ((Ah.b p2).cell (i:=1) rfl) (AI0 rfl rfl (AJj rfl (AJp AKh rfl (AVa [Ab,(.int .i64<|w64<|Bu + 1)] AJq rfl rfl rfl (Ah.b p2) (Nat.le_of_ble_eq_true rfl) rfl λXh Gg Gh=>AH5<|AH3<|AMw<|AHy<|AJj rfl (AJp AN3 rfl ?_)))))));have Bw:=Ah.sb p2 Gh Gg rfl;refine AI1 AU8 rfl ((Bw.b p2).cell (i:=0) rfl) (AHy<|AJj rfl (AJp AKh rfl (AI1 AJq rfl ((Bw.b p2).cell (i:=1) rfl) (AMy rfl rfl ?_))));obtain ⟨Pb,Pc,Pd⟩:=AH2<|AJc Gd C9;refine AQi (c:=(cI .i8)) AV6 rfl H4 rfl Pc λXi Xj Xk Pe Pf=>?_;obtain rfl:=Pe;refine AI1 Afl rfl (AIj (Pf 0 _ rfl) Bw.x) (ASz Afm AP8 rfl (AH7<|AIc<|⟨_,AId,(((w64 Pb),(w64<|Bu + 1)):(Int) × (Int)),?_,rfl,?_,?_⟩))
           ·exact AH0 Pd
           ·exact Bw.sel [1,2] AHz
           ·exact (Gf.then (Gg.stA Gh (AOp (Ah.b p2) rfl) rfl)<|ARx rfl)
         obtain ⟨⟨Pg,Ph⟩,Pj,rfl,Gi,Pk⟩:=Pa;(try dsimp only [Kst.L,List.set,APr,AS0] at Gi);refine ⟨trivial,?_⟩;subst Pj;(try dsimp only at Ge);refine ASz AP8 AYc rfl (ASz AYc AYv rfl (AHy<|ALg rfl rfl AHz (AH7<|AIc<|⟨_,AId,(((Int.tmod (w64<|IntKind.wrap .u8 Pg) 9),Ph):(Int) × (Int)),?_,rfl,?_,?_⟩)))
         ·exact AH0 Ge
         ·exact Gi
         ·exact (O7.then Pk<|AKm (ARx rfl) all_nil)
        obtain ⟨⟨Pl,Xl⟩,Pm,rfl,Da,Pn⟩:=O8;(try dsimp only [Kst.L,List.set,APr,AS0] at Da);refine ⟨(C7.then Pn<|AKm (ARx rfl) all_nil),?_⟩;subst Pm;(try dsimp only at Gc);refine AI0 rfl rfl ?_;obtain ⟨Xm,Gj,Po⟩:=AH2 Gc;refine AJy (m:=C4) AIi rfl (Ah.o2 p1) O3 C8 rfl Gj λXn Pp=>AN2 (m:=C4) (AMt AIg rfl rfl rfl) (Da.o2 p0) Pp C8 Gj (show ((cI .i64)).rep _ (w64<|1 + Pl) _ from rfl) λXo Pq Ps=>AIu<|q_b<|q_t<|AIf<|AI0 rfl rfl (AHy<|AH5 ?_);exact ⟨(_,_,_,_,_,_),(AH0 Po).symm,(Da.uO2 p0 Ps Pq),rfl,trivial⟩
       ·have Gk:=Om _ (AH0<|AJc Bv C6).symm;(try dsimp only at Gk);refine AIq<|AIr<|AIr<|AJt<|q_t<|AH1<|AHy<|AH7<|AIc<|⟨_,AId,((Oe,Ga,Og,Oh,Oi,Bu):(LiI) × (Value) × LnA × LnN × LvA × (Int)),?_,rfl,?_⟩
        ·exact AH0 Gk
        ·exact C5
      obtain ⟨⟨Pt,F9,Pu,Pw,Px,Py⟩,Pz,rfl,Gl⟩:=N5;(try dsimp only [Kst.L,List.set,APr,AS0] at Gl);refine ⟨trivial,?_⟩;subst Pz;(try dsimp only at F8);refine AIw<|AIu<|q_b<|q_t ?_;exact ⟨((Pt,F9,Pu,Pw,Px,Py):(LiI) × (Value) × LnA × LnN × LvA × (Int)),⟨AH0 F8,Gl⟩,rfl,trivial⟩
     ·refine AIf<|AHy<|AHy ?_;obtain ⟨P0,P1,Gm⟩:=AH2<|AJc F7 C1;refine AIz (K':=(λxr h'=> ∃ x:(LiI) × (Value) × LnA × LnN × LvA × (Int),(x.1,x.2.2.2.2.2)=P0/\xr=x.2.1/\Kst h h' (aO2 (cI .i64) 41 2 x.2.2.1 x.2.2.2.1 x.2.2.2.2.1 x.2.1 x.1 :: (Ao.L.set 0<|aB 100 Aa [Ab,(.int .i64 x.2.2.2.2.2)])))) trivial rfl ?_ λGn Xp P2=>?_
      ·refine cwf (l:=[_,_,_]) Tryz.func63 rfl rfl (AH1<|AJd<|AHy ?_);obtain ⟨P3,P4⟩:=ifN P1;refine Aay (cI .i64) 2 AIk AU9 rfl trivial tt2 rfl rfl AHz P3 λP5 P6 P7 Gp Xq P8 P9 Qa=>AH7<|AH3<|AH1<|AHy ?_;have Db:=Ao.no2 P9 Qa P8;refine AJh AIk rfl (Db.o2 p0).rd (AHy<|AH5<|AH6<|AOq 4294959360 (λx:(Int) × (Int) × (LiI) × LnA × LnN × LvA=>(x.1,x.2.1,x.2.2.1)) ((0,0,(List.replicate (Int.toNat<|w64<|1 + (Int.tmod (w64 a1) Am)) ([]:List Int)),P5,P6,P7):(Int) × (Int) × (LiI) × LnA × LnN × LvA) P4 (λx=>[(13,(.int .i64 x.1))]) (λx=>(Db.L.set 0<|aO2 (cI .i64) 41 2 x.2.2.2.1 x.2.2.2.2.1 x.2.2.2.2.2 Gp x.2.2.1).set 1 (aB 100 Aa [Ab,(.int .i64 x.2.1)])) Db ⟨rfl,trivial⟩ ?_);rintro ⟨Dc,Bx,Qb,Qc,Qd,Qe⟩ Qf Qg Xr Dd By Qh;(try dsimp only [Kst.L,List.set,APr,AS0] at Dd);refine (show W _ _ _ (setL [(13,(.int .i64 Dc))]<|mix _ Qf _) Qg from ?_);(try dsimp only at By);unfold AM3 at By;refine AH1<|AI3 rfl rfl (AH5<|AH3<|⟨_,rfl,λDe=>?_,λDe=>?_⟩)
       ·refine AIa<|q_t<|AH3<|AH6<|AH1<|AHy<|AJd<|AHy<|AHy<|AHy ?_;obtain ⟨Qi,Qj⟩:=ifN<|AJb By De;refine AYw (c:=(cI .i64)) (a:=0) AIi ARy rfl rfl (λ_=>rfl) rfl trivial tt2 rfl rfl AHz Qi λXt Xu Xv Qk Ql Qm Qn=>?_;have A7:=Dd.no Ql (ANs Qm Qn) Qk;obtain ⟨Xw,Gq,Qo⟩:=AH2 Qj;refine AJr AIk rfl (A7.o2 p1) rfl Gq λXx Xy Qp Xz X0=>Aax AIv (A7.o2 p1) Gq Qp rfl rfl (A7.o p0) (A7.dj p0 p1 AHz) λAv Qq Qr Qs=>AH5<|AKg (λh'=>UpT ([Aa] ++ []) Av h') AIb ?_;have Ai:=A7.m2 p0 p1 AHz Qr Qq λz hz=> .inl<|Qs z hz;have Df:UpT ([Aa] ++ []) Av Av:=UpT.start<|AKm (AOp (Ai.b p2) rfl) all_nil;refine AHy<|AHy ?_;obtain ⟨X3,Dg,Qt⟩:=AH2 Qo;refine AJr AIk rfl (Ai.o2 p1) rfl Dg λX4 X5 Qu Qv Qw=>AJe AIv rfl Df (λh' hb=>AUo Qw hb<|Abf (Ai.dj p1 p2 AHz _<|by simp [aO,aO2,Qu]) Abg) (AHy<|AHy<|AHy ?_);obtain ⟨Qx,Qy,Gr⟩:=AH2 Qt;have Qz:UpT ([Aa] ++ []) Av Av:=UpT.start<|AKm (AOp (Ai.b p2) rfl) all_nil;refine AIz (K':=(λxr h'=> ∃ x:(Int) × (Int),(x.1,x.2)=Qx/\xr=(.int .i64 x.1)/\Kst h h' ((APr Ai.L [1,2]).set 1 (aB 100 Aa [Ab,(.int .i64 x.2)]))/\UpT ([Aa] ++ []) Av h')) Df rfl ?_ λX6 X8 Q0=>?_
        ·refine cwf (l:=[_,_]) Tryz.func62 rfl rfl (AH1<|AJd<|AHy ?_);obtain ⟨Q1,Gt,Gu⟩:=AH2 Qy;have Gv:UpT ([Aa] ++ []) Av Av:=UpT.start<|AKm (AOp (Ai.b p2) rfl) all_nil;refine AIz (K':=(λxr h'=> ∃ x:(Int) × (Int),(x.1,x.2)=Q1/\xr=(.int .i64 x.1)/\Kst h h' ((APr Ai.L [1,2]).set 1 (aB 100 Aa [Ab,(.int .i64 x.2)]))/\UpT ([Aa] ++ []) Av h')) trivial rfl ?_ λYa Yb Q2=>?_
         ·refine cwf (l:=[_]) Tryz.func114 rfl rfl (AH1<|AH7<|AH3<|AH3<|AMw<|AHy<|AJj rfl (AJp AKh rfl (AI1 AJq rfl ((Ai.b p2).cell (i:=1) rfl) (AHy<|AJj rfl (AJp AN3 rfl (AI1 AU8 rfl ((Ai.b p2).cell (i:=0) rfl) (AJ8 AV6 rfl H4 (AUr rfl rfl (AH5<|⟨_,rfl,λDh=>?_,λDh=>?_⟩)))))))))
          ·refine AH1<|AH7<|AIc<|AIt<|⟨_,AId,((0,Bx):(Int) × (Int)),?_,rfl,?_,?_⟩
           ·exact AH0<|AJb Gt Dh
           ·exact Ai.sel [1,2] AHz
           ·exact Gv
          ·refine AIa<|q_t<|AH1<|AHy<|AJj rfl (AJp AKh rfl (AI1 AJq rfl ((Ai.b p2).cell (i:=1) rfl) (AI0 rfl rfl (AJj rfl (AJp AKh rfl (AVa [Ab,(.int .i64<|w64<|Bx + 1)] AJq rfl rfl rfl (Ai.b p2) (Nat.le_of_ble_eq_true rfl) rfl λYc Gw Gx=>AH5<|AH3<|AMw<|AHy<|AJj rfl (AJp AN3 rfl ?_)))))));have Bz:=Ai.sb p2 Gx Gw rfl;refine AI1 AU8 rfl ((Bz.b p2).cell (i:=0) rfl) (AHy<|AJj rfl (AJp AKh rfl (AI1 AJq rfl ((Bz.b p2).cell (i:=1) rfl) (AMy rfl rfl ?_))));obtain ⟨Q3,Q4,Q6⟩:=AH2<|AJc Gt Dh;refine AQi (c:=(cI .i8)) AV6 rfl H4 rfl Q4 λYd Ye Yf Q7 Q8=>?_;obtain rfl:=Q7;refine AI1 Afl rfl (AIj (Q8 0 _ rfl) Bz.x) (ASz Afm AP8 rfl (AH7<|AIc<|⟨_,AId,(((w64 Q3),(w64<|Bx + 1)):(Int) × (Int)),?_,rfl,?_,?_⟩))
           ·exact AH0 Q6
           ·exact Bz.sel [1,2] AHz
           ·exact (Gv.then (Gw.stA Gx (AOp (Ai.b p2) rfl) rfl)<|ARx rfl)
         obtain ⟨⟨Q9,Rc⟩,Rd,rfl,Gy,Re⟩:=Q2;(try dsimp only [Kst.L,List.set,APr,AS0] at Gy);refine ⟨trivial,?_⟩;subst Rd;(try dsimp only at Gu);refine ASz AP8 AYc rfl (ASz AYc AYv rfl (AHy<|ALg rfl rfl AHz (AH7<|AIc<|⟨_,AId,(((Int.tmod (w64<|IntKind.wrap .u8 Q9) 1),Rc):(Int) × (Int)),?_,rfl,?_,?_⟩)))
         ·exact AH0 Gu
         ·exact Gy
         ·exact (Qz.then Re<|AKm (ARx rfl) all_nil)
        obtain ⟨⟨Rf,Yg⟩,Rg,rfl,Di,Rh⟩:=Q0;(try dsimp only [Kst.L,List.set,APr,AS0] at Di);refine ⟨(Df.then Rh<|AKm (ARx rfl) all_nil),?_⟩;subst Rg;(try dsimp only at Gr);refine AI0 rfl rfl ?_;obtain ⟨Yh,Gz,Ri⟩:=AH2 Gr;refine AJy (m:=Dc) AIi rfl (Ai.o2 p1) Qv Dg rfl Gz λYi Rj=>AN2 (m:=Dc) (AMt AIg rfl rfl rfl) (Di.o2 p0) Rj Dg Gz (show ((cI .i64)).rep _ (w64<|1 + Rf) _ from rfl) λYj Rm Rn=>AIu<|q_b<|q_t<|AIf<|AI0 rfl rfl (AHy<|AH5 ?_);exact ⟨(_,_,_,_,_,_),(AH0 Ri).symm,(Di.uO2 p0 Rn Rm),rfl,trivial⟩
       ·have G3:=Qh _ (AH0<|AJc By De).symm;(try dsimp only at G3);refine AIq<|AIr<|AIr<|AJt<|q_t<|AH1<|AHy<|AH7<|AIc<|⟨_,AId,((Qb,Gp,Qc,Qd,Qe,Bx):(LiI) × (Value) × LnA × LnN × LvA × (Int)),?_,rfl,?_⟩
        ·exact AH0 G3
        ·exact Dd
      obtain ⟨⟨Ro,Gn,Rq,Rr,Rs,Rt⟩,Ru,rfl,G4⟩:=P2;(try dsimp only [Kst.L,List.set,APr,AS0] at G4);refine ⟨trivial,?_⟩;subst Ru;(try dsimp only at Gm);refine AIw<|AIu<|q_b<|q_t ?_;exact ⟨((Ro,Gn,Rq,Rr,Rs,Rt):(LiI) × (Value) × LnA × LnN × LvA × (Int)),⟨AH0 Gm,G4⟩,rfl,trivial⟩
 rintro ⟨Yk,Rv,Yl,Ym,Yn,Rw⟩ Rx Ry ⟨Rz,Dj⟩;(try dsimp only [Kst.L,List.set,APr,AS0] at Dj);refine (show W _ _ _ (setL [(7,Rv)]<|mix _ Rx _) Ry from ?_);subst Rz;(try dsimp only at Dz);refine AH3<|AH1<|AHy ?_;obtain ⟨Yo,R3,G5⟩:=AH2 Dz;refine ALx Dj (Ac1 (Dj.o2 p0).rd R3) λYp Yq A8=>AMp rfl (AH5<|⟨_,rfl,λDk=>?_,λDk=>?_⟩)
 ·refine AH1<|AHy<|AHy ?_;obtain ⟨R4,R5,G6⟩:=AH2<|ifT G5 Dk;refine AIz (K':=(λxr h'=> ∃ x:(LiI) × (Value) × LnA × LnN × LvA × (Int),(x.1,x.2.2.2.2.2)=R4/\xr=x.2.1/\Kst h h' (aO2 (cI .i64) 41 2 x.2.2.1 x.2.2.2.1 x.2.2.2.2.1 x.2.1 x.1 :: (A8.L.set 1<|aB 100 Aa [Ab,(.int .i64 x.2.2.2.2.2)])))) trivial rfl ?_ λR6 Yr R7=>?_
  ·refine cwf (l:=[_,_,_]) Tryz.func63 rfl rfl (AH1<|AJd<|AHy ?_);obtain ⟨R8,R9⟩:=ifN R5;refine Aay (cI .i64) 2 AIk AU9 rfl trivial tt2 rfl rfl AHz R8 λSa Sb Sc G7 Ys Sd Se Sf=>AH7<|AH3<|AH1<|AHy ?_;have Dl:=A8.no2 Se Sf Sd;refine AJh AIk rfl (Dl.o2 p0).rd (AHy<|AH5<|AH6<|AOq 4294959360 (λx:(Int) × (Int) × (LiI) × LnA × LnN × LvA=>(x.1,x.2.1,x.2.2.1)) ((0,Rw,(List.replicate (Int.toNat<|w64<|1 + (Int.tmod (w64 a1) Am)) ([]:List Int)),Sa,Sb,Sc):(Int) × (Int) × (LiI) × LnA × LnN × LvA) R9 (λx=>[(13,(.int .i64 x.1))]) (λx=>(Dl.L.set 0<|aO2 (cI .i64) 41 2 x.2.2.2.1 x.2.2.2.2.1 x.2.2.2.2.2 G7 x.2.2.1).set 2 (aB 100 Aa [Ab,(.int .i64 x.2.1)])) Dl ⟨rfl,trivial⟩ ?_);rintro ⟨Do,B2,Sg,Sh,Si,Sj⟩ Sk Sm Yt Dp B3 Sn;(try dsimp only [Kst.L,List.set,APr,AS0] at Dp);refine (show W _ _ _ (setL [(13,(.int .i64 Do))]<|mix _ Sk _) Sm from ?_);(try dsimp only at B3);unfold AM4 at B3;refine AH1<|AI3 rfl rfl (AH5<|AH3<|⟨_,rfl,λDq=>?_,λDq=>?_⟩)
   ·refine AIa<|q_t<|AH3<|AH6<|AH1<|AHy<|AJd<|AHy<|AHy<|AHy ?_;obtain ⟨So,Sq⟩:=ifN<|AJb B3 Dq;refine AYw (c:=(cI .i64)) (a:=0) AIi ARy rfl rfl (λ_=>rfl) rfl trivial tt2 rfl rfl AHz So λYu Yv Yw Sr Ss St Su=>?_;have A9:=Dp.no Ss (ANs St Su) Sr;obtain ⟨Yx,G8,Sv⟩:=AH2 Sq;refine AJr AIk rfl (A9.o2 p1) rfl G8 λYy Yz Sw Y1 Y2=>Aax AIv (A9.o2 p1) G8 Sw rfl rfl (A9.o p0) (A9.dj p0 p1 AHz) λAw Sx Sy Sz=>AH5<|AKg (λh'=>UpT ([Aa] ++ []) Aw h') AIb ?_;have Aj:=A9.m2 p0 p1 AHz Sy Sx λz hz=> .inl<|Sz z hz;have Dr:UpT ([Aa] ++ []) Aw Aw:=UpT.start<|AKm (AOp (Aj.b p3) rfl) all_nil;refine AHy<|AHy ?_;obtain ⟨Y3,Ds,S5⟩:=AH2 Sv;refine AJr AIk rfl (Aj.o2 p1) rfl Ds λY4 Y5 S7 Ta Tb=>AJe AIv rfl Dr (λh' hb=>AUo Tb hb<|Abf (Aj.dj p1 p3 AHz _<|by simp [aO,aO2,S7]) Abg) (AHy<|AHy<|AHy ?_);obtain ⟨Tc,Td,G9⟩:=AH2 S5;have Te:UpT ([Aa] ++ []) Aw Aw:=UpT.start<|AKm (AOp (Aj.b p3) rfl) all_nil;refine AIz (K':=(λxr h'=> ∃ x:(Int) × (Int),(x.1,x.2)=Tc/\xr=(.int .i64 x.1)/\Kst h h' ((APr Aj.L [1,2,3]).set 2 (aB 100 Aa [Ab,(.int .i64 x.2)]))/\UpT ([Aa] ++ []) Aw h')) Dr rfl ?_ λY6 Y7 Tf=>?_
    ·refine cwf (l:=[_,_]) Tryz.func62 rfl rfl (AH1<|AJd<|AHy ?_);obtain ⟨Tg,Hb,Hc⟩:=AH2 Td;have Hd:UpT ([Aa] ++ []) Aw Aw:=UpT.start<|AKm (AOp (Aj.b p3) rfl) all_nil;refine AIz (K':=(λxr h'=> ∃ x:(Int) × (Int),(x.1,x.2)=Tg/\xr=(.int .i64 x.1)/\Kst h h' ((APr Aj.L [1,2,3]).set 2 (aB 100 Aa [Ab,(.int .i64 x.2)]))/\UpT ([Aa] ++ []) Aw h')) trivial rfl ?_ λY8 Y9 Th=>?_
     ·refine cwf (l:=[_]) Tryz.func114 rfl rfl (AH1<|AH7<|AH3<|AH3<|AMw<|AHy<|AJj rfl (AJp AKh rfl (AI1 AJq rfl ((Aj.b p3).cell (i:=1) rfl) (AHy<|AJj rfl (AJp AN3 rfl (AI1 AU8 rfl ((Aj.b p3).cell (i:=0) rfl) (AJ8 AV6 rfl H4 (AUr rfl rfl (AH5<|⟨_,rfl,λDt=>?_,λDt=>?_⟩)))))))))
      ·refine AH1<|AH7<|AIc<|AIt<|⟨_,AId,((0,B2):(Int) × (Int)),?_,rfl,?_,?_⟩
       ·exact AH0<|AJb Hb Dt
       ·exact Aj.sel [1,2,3] AHz
       ·exact Hd
      ·refine AIa<|q_t<|AH1<|AHy<|AJj rfl (AJp AKh rfl (AI1 AJq rfl ((Aj.b p3).cell (i:=1) rfl) (AI0 rfl rfl (AJj rfl (AJp AKh rfl (AVa [Ab,(.int .i64<|w64<|B2 + 1)] AJq rfl rfl rfl (Aj.b p3) (Nat.le_of_ble_eq_true rfl) rfl λZa He Hf=>AH5<|AH3<|AMw<|AHy<|AJj rfl (AJp AN3 rfl ?_)))))));have B4:=Aj.sb p3 Hf He rfl;refine AI1 AU8 rfl ((B4.b p3).cell (i:=0) rfl) (AHy<|AJj rfl (AJp AKh rfl (AI1 AJq rfl ((B4.b p3).cell (i:=1) rfl) (AMy rfl rfl ?_))));obtain ⟨Ti,Tj,Tk⟩:=AH2<|AJc Hb Dt;refine AQi (c:=(cI .i8)) AV6 rfl H4 rfl Tj λZd Ze Zf Tl Tm=>?_;obtain rfl:=Tl;refine AI1 Afl rfl (AIj (Tm 0 _ rfl) B4.x) (ASz Afm AP8 rfl (AH7<|AIc<|⟨_,AId,(((w64 Ti),(w64<|B2 + 1)):(Int) × (Int)),?_,rfl,?_,?_⟩))
       ·exact AH0 Tk
       ·exact B4.sel [1,2,3] AHz
       ·exact (Hd.then (He.stA Hf (AOp (Aj.b p3) rfl) rfl)<|ARx rfl)
     obtain ⟨⟨Tn,To⟩,Tp,rfl,Hg,Tq⟩:=Th;(try dsimp only [Kst.L,List.set,APr,AS0] at Hg);refine ⟨trivial,?_⟩;subst Tp;(try dsimp only at Hc);refine ASz AP8 AYc rfl (ASz AYc AYv rfl (AHy<|ALg rfl rfl AHz (AH7<|AIc<|⟨_,AId,(((Int.tmod (w64<|IntKind.wrap .u8 Tn) 2),To):(Int) × (Int)),?_,rfl,?_,?_⟩)))
     ·exact AH0 Hc
     ·exact Hg
     ·exact (Te.then Tq<|AKm (ARx rfl) all_nil)
    obtain ⟨⟨Tr,Zg⟩,Ts,rfl,Du,Tt⟩:=Tf;(try dsimp only [Kst.L,List.set,APr,AS0] at Du);refine ⟨(Dr.then Tt<|AKm (ARx rfl) all_nil),?_⟩;subst Ts;(try dsimp only at G9);refine AI0 rfl rfl ?_;obtain ⟨Zh,Hh,Tu⟩:=AH2 G9;refine AJy (m:=Do) AIi rfl (Aj.o2 p1) Ta Ds rfl Hh λZj Tv=>AN2 (m:=Do) (AMt AIg rfl rfl rfl) (Du.o2 p0) Tv Ds Hh (show ((cI .i64)).rep _ (w64<|1 + Tr) _ from rfl) λZk Tw Tx=>AIu<|q_b<|q_t<|AIf<|AI0 rfl rfl (AHy<|AH5 ?_);exact ⟨(_,_,_,_,_,_),(AH0 Tu).symm,(Du.uO2 p0 Tx Tw),rfl,trivial⟩
   ·have Hj:=Sn _ (AH0<|AJc B3 Dq).symm;(try dsimp only at Hj);refine AIq<|AIr<|AIr<|AJt<|q_t<|AH1<|AHy<|AH7<|AIc<|⟨_,AId,((Sg,G7,Sh,Si,Sj,B2):(LiI) × (Value) × LnA × LnN × LvA × (Int)),?_,rfl,?_⟩
    ·exact AH0 Hj
    ·exact Dp
  obtain ⟨⟨Zl,R6,Zm,Zn,Zo,Zp⟩,Ty,rfl,B5⟩:=R7;(try dsimp only [Kst.L,List.set,APr,AS0] at B5);refine ⟨trivial,?_⟩;subst Ty;(try dsimp only at G6);refine AH7<|AIc<|AIt ?_;obtain rfl:=AH0 G6;exact ⟨_,AId,B5.x,_,_,_,_,rfl,(B5.o2 p0),B5.s.sel [0] AHz⟩
 ·refine AIa<|q_t<|AH1<|AHy<|AH7<|AIc ?_;obtain rfl:=AH0<|AQa G5 Dk;exact ⟨_,AId,A8.x,_,_,_,_,rfl,(A8.o2 p0),A8.s.sel [0] AHz⟩
def ALq (fuel:Nat) (a1 a2:Int) (a5 a9:LiA) (Ae:Int):Option LiI:=
 (AK3 fuel a1 a2 a5 a9 Ae).bind λAf=>(ALn fuel Af).bind λAg=>(ANi fuel Ag).bind λ(Ah,Ai,Aj)=>some Ah
theorem ATn {a5:LiA} {a9:LiA} {Ai:Int} {r:LiI} (H4:SlC (cI .i8) h Ac a5) (H8:SlC (cI .i8) h Ad a9) (hp:ALq fuel a1 a2 a5 a9 Ai=some r):AI7 Tryz.prog 6 #[(.agg #[(.int .u8 a1),(.int .u8 a2),Ac,Ad]),(.int .i64 Ai)] h (λx h'=>Ext h h'/\ ∃ (x0:Value) (F0:List Nat) (Au:List LnA) (Av:List Value),x=x0/\ALl (cI .i64) 41 2 h' F0 Au Av x0 r/\Sp h' h.size [F0]):=by
 unfold ALq at hp;refine cwf (l:=[_,_]) Tryz.func6 rfl rfl (AH1<|AP5 (Kst.k0 h) [(.int .u8 a1),(.int .u8 a2),Ac,Ad] λBl Bm Bn Ae=>AJd<|ATy [(.int .u8 a1),(.int .u8 a2),Ac,Ad] Ahw rfl rfl (Ae.b p0).agg (AHy ?_));obtain ⟨Bo,Aw,Ax⟩:=AH2 hp;refine AWs Ae (ATm (H4.ext Ae.x) (H8.ext Ae.x) Aw) λBp Bq Br Bt Bu Bv Am=>?_;obtain ⟨Bw,Ay,Az⟩:=AH2 Ax;refine AWs Am (APc (Am.o2 p0).rd Ay) λBx By Bz B2 B3 B4 Ao=>?_;obtain ⟨⟨A3,A4,B5⟩,A5,Ap⟩:=AH2 Az;dsimp only at Ap;refine ASt rfl (AV1 (Ao.o2 p0).rd A5) λB6 B7 A6 A7=>?_;obtain ⟨A8,A9,Ba,Bb,Bc,Be,Bf,Bg,rfl,Bh,Bi,Bj⟩:=A7;have Af:=Ao.n A6 [aO2 (cI .i64) 41 2 A9 Ba Bb A8 A3,aO2 cZ 127 81 Be Bf Bg Bc A4] Bj ⟨Bh,Bi,trivial⟩;simp only [List.cons_append,List.nil_append] at Af;refine AHy<|AJs rfl rfl (AJs rfl rfl (AJs rfl rfl (AIw<|AIw<|AJd<|AHy<|AH7<|AIc ?_)));obtain rfl:=AH0 Ap;exact ⟨_,AId,Af.x,_,_,_,_,rfl,(Af.o2 p0),Af.s.sel [0] AHz⟩
def AOb (fuel:Nat) (Au:LiI) (Ab Ad Ae Aa:Int) (Ac:LiI):Option ((Int × LiI) ⊕ LiI):=
 if Aa < (Au.length:Int) then if Ab=Ad then if Int.tmod Ae 3 < 0 then (gI Ac Aa).bind λAm=>(gI Am Ab).bind λAv=>some (.inl (w64<|Aa + 1,sI Ac Aa<|sI Am Ab<|w64<|0 - Av)) else if ¬ Ab=Ad then if Int.tmod Ae 3=0 then (gI Ac Aa).bind λAf=>(gI Af Ad).bind λAo=>(gI Af Ab).bind λAw=>(gI (sI Ac Aa<|sI Af Ab Ao) Aa).bind λAp=>(gI Ap Ad).bind λA9=>some (.inl (w64<|Aa + 1,sI (sI Ac Aa<|sI Af Ab Ao) Aa<|sI Ap Ad Aw)) else if ¬ Ab=Ad then (gI Ac Aa).bind λAh=>(gI Ah Ab).bind λAx=>(gI Ah Ad).bind λAy=>some (.inl (w64<|Aa + 1,sI Ac Aa<|sI Ah Ab<|w64<|Ax + w64 (Int.tmod Ae 3 * Ay))) else some (.inl (w64<|Aa + 1,Ac)) else if ¬ Ab=Ad then (gI Ac Aa).bind λAi=>(gI Ai Ab).bind λAz=>(gI Ai Ad).bind λA3=>some (.inl (w64<|Aa + 1,sI Ac Aa<|sI Ai Ab<|w64<|Az + w64 (Int.tmod Ae 3 * A3))) else some (.inl (w64<|Aa + 1,Ac)) else if ¬ Ab=Ad then if Int.tmod Ae 3=0 then (gI Ac Aa).bind λAg=>(gI Ag Ad).bind λAq=>(gI Ag Ab).bind λA4=>(gI (sI Ac Aa<|sI Ag Ab Aq) Aa).bind λAr=>(gI Ar Ad).bind λBa=>some (.inl (w64<|Aa + 1,sI (sI Ac Aa<|sI Ag Ab Aq) Aa<|sI Ar Ad A4)) else if ¬ Ab=Ad then (gI Ac Aa).bind λAj=>(gI Aj Ab).bind λA5=>(gI Aj Ad).bind λA6=>some (.inl (w64<|Aa + 1,sI Ac Aa<|sI Aj Ab<|w64<|A5 + w64 (Int.tmod Ae 3 * A6))) else some (.inl (w64<|Aa + 1,Ac)) else if ¬ Ab=Ad then (gI Ac Aa).bind λAk=>(gI Ak Ab).bind λA7=>(gI Ak Ad).bind λA8=>some (.inl (w64<|Aa + 1,sI Ac Aa<|sI Ak Ab<|w64<|A7 + w64 (Int.tmod Ae 3 * A8))) else some (.inl (w64<|Aa + 1,Ac)) else some<|.inr Ac
def AQg (fuel:Nat) (a3:LiA) (a5 Ag:Int) (Af:LiI) (Ab:Int):Option ((Int × LiI × Int) ⊕ LiI):=
 ((if Ag < 12 then if Ab < (a3.length:Int) then some (.inl ()) else some (.inr ()) else some<|.inr ()):Option (Unit ⊕ Unit)).bind (λex=>match ex with | .inl _=>(((((if (a3.length:Int)<=Ab then some (0,Ab) else (gI a3<|w64<|w64 (Ab + 1) - 1).bind λAh=>some (w64 Ah,w64<|Ab + 1)):Option (Int × Int)).bind λ(Ai,Aj)=>if a5≠0 then some (Int.tmod (w64<|IntKind.wrap .u8 Ai) a5,Aj) else none):Option (Int × Int)).bind λ(Ak,Ad)=>((((if (a3.length:Int)<=Ad then some (0,Ad) else (gI a3<|w64<|w64 (Ad + 1) - 1).bind λAm=>some (w64 Am,w64<|Ad + 1)):Option (Int × Int)).bind λ(Ao,Ap)=>if a5≠0 then some (Int.tmod (w64<|IntKind.wrap .u8 Ao) a5,Ap) else none):Option (Int × Int)).bind λ(Aq,Ae)=>((if (a3.length:Int)<=Ae then some (0,Ae) else (gI a3<|w64<|w64 (Ae + 1) - 1).bind λAr=>some (w64 Ar,w64<|Ae + 1)):Option (Int × Int)).bind λ(Au,Av)=>(iter (λs=>AOb fuel Af Ak Aq Au s.1 s.2) fuel (0,Af)).bind (λ(Aw:LiI)=>some<|.inl (w64<|Ag + 1,Aw,Av))) | .inr _=>some<|.inr Af)
def AOc (fuel:Nat) (a5 Aa:Int) (Ac:LiI):Option ((Int × LiI) ⊕ LiI):=
 if Aa < ((List.replicate (Int.toNat a5) ([]:List Int)).length:Int) then if 0<=a5/\a5<=100000000 then (gI Ac Aa).bind λAe=>(gI (sI Ac Aa<|List.replicate (Int.toNat a5) (0:Int)) Aa).bind λAd=>(gI Ad Aa).bind λAf=>some (.inl (w64<|Aa + 1,sI (sI Ac Aa<|List.replicate (Int.toNat a5) (0:Int)) Aa<|sI Ad Aa 1)) else none else some<|.inr Ac
def ANr (fuel:Nat) (a3:LiA) (a5:Int):Option LiI:=
 if 0<=a5/\a5<=100000000 then (iter (λs=>AOc fuel a5 s.1 s.2) fuel (0,List.replicate (Int.toNat a5) ([]:List Int))).bind (λ(Ac:LiI)=>(iter (λs=>AQg fuel a3 a5 s.1 s.2.1 s.2.2) fuel (0,Ac,0)).bind (λ(Ad:LiI)=>some Ad)) else none
theorem AY0 {a3:LiA} {r:LiI} (H2:SlC (cI .i8) h Ac a3) (hp:ANr fuel a3 a5=some r):AI7 Tryz.prog 65 #[Ac,(.int .i64 a5)] h (λx h'=>Ext h h'/\ ∃ (x0:Value) (F0:List Nat) (Ef:List LnA) (Eg:List Value),x=x0/\ALl (cI .i64) 41 2 h' F0 Ef Eg x0 r/\Sp h' h.size [F0]):=by
 unfold ANr at hp;refine cwf (l:=[_,_]) Tryz.func65 rfl rfl (AH1<|AJd<|AHy ?_);obtain ⟨Eh,Ei⟩:=ifN hp;refine Aay (cI .i64) 2 AIk AU9 rfl trivial tt2 rfl rfl AHz Eh λEj Ek El Bv M9 Em E8 S9=>AH7<|AH3<|AH1<|AHy ?_;have Bw:=(Kst.k0 h).no2 E8 S9 Em;refine AJh AIk rfl (Bw.o2 p0).rd (AHy<|AH5<|AH6 ?_);obtain ⟨Cu,Ep,Er⟩:=AH2 Ei;obtain ⟨Es,Et,Eu⟩:=AZz Ep;refine AMc 4294836288 (λx:(Int) × (LiI) × LnA × LnN × LvA=>[(17,(.int .i64 x.1))]) (λk x h'=>iter Es k (x.1,x.2.1)=some Cu/\Kst h h' (Bw.L.set 0<|aO2 (cI .i64) 41 2 x.2.2.1 x.2.2.2.1 x.2.2.2.2 Bv x.2.1)) AIb fuel ((0,(List.replicate (Int.toNat a5) ([]:List Int)),Ej,Ek,El):(Int) × (LiI) × LnA × LnN × LvA) ?_ ⟨rfl,trivial⟩ ?_
 ·exact ⟨Eu,Bw⟩
 rintro Na ⟨Ap,Cv,Ev,Bx,Cw⟩ Nb Nc ⟨Ew,By⟩;obtain ⟨Ey,Nd,rfl,A7,Bz⟩:=AWm Ew;rw [Et] at A7;dsimp only at A7;unfold AOc at A7;refine AH1<|AI3 rfl rfl (AH5<|AH3<|⟨_,rfl,λB2=>?_,λB2=>?_⟩)
 ·refine AIa<|q_t<|AH3<|AH6<|AH1<|AHy<|AJd<|AHy<|AHy<|AHy ?_;obtain ⟨Ez,Fa⟩:=ifN<|AJb A7 B2;refine AYw (c:=(cI .i64)) (a:=0) AIi ARy rfl rfl (λ_=>rfl) rfl trivial tt2 rfl rfl AHz Ez λCx Fb Nf Fc Fd Fe Ff=>?_;have A8:=By.no Fd (ANs Fe Ff) Fc;obtain ⟨Ng,Cy,Fg⟩:=AH2 Fa;refine AJr AIk rfl (A8.o2 p1) rfl Cy λFh Nh Fi Ni Nj=>Aax AIv (A8.o2 p1) Cy Fi rfl rfl (A8.o p0) (A8.dj p0 p1 AHz) λNk Fj Fk Fl=>AH5<|AIf<|AHy<|AHy ?_;have Bc:=A8.m2 p0 p1 AHz Fk Fj λz hz=> .inl<|Fl z hz;obtain ⟨Fm,B3,Fo⟩:=AH2 Fg;refine AJr AIk rfl (Bc.o2 p1) rfl B3 λNl Nm Nn Fp Fq=>AI1 AIv rfl Fq (AHy ?_);obtain ⟨Np,Cz,Ft⟩:=AH2 Fo;refine AJy (m:=Ap) AIi rfl (Bc.o2 p1) Fp B3 rfl Cz λNq Fu=>AN2 (m:=Ap) (AMt AIg rfl rfl rfl) (Bc.o2 p1) Fu B3 Cz (show ((cI .i64)).rep _ 1 _ from rfl) λNr Fv Fw=>AIu<|q_b<|q_t<|AIf<|AI0 rfl rfl (AHy<|AH5 ?_);obtain rfl:=AH0 Ft;exact ⟨Ey,(((w64<|Ap + 1),(sI (sI Cv Ap<|List.replicate (Int.toNat a5) (0:Int)) Ap<|sI Fm Ap 1),(Fh :: (Bx.set (Int.toNat Ap) [Cx]).flatten),(Bx.set (Int.toNat Ap) [Cx]),(Cw.set (Int.toNat Ap) Fb)):(Int) × (LiI) × LnA × LnN × LvA),Nat.lt_succ_self _,⟨Bz,(Bc.uO2 p1 Fw Fv).sel [1] AHz⟩,rfl,trivial⟩
 ·obtain rfl:=AH0<|AJc A7 B2;change _=Cu at Bz;subst Bz;refine AIq<|AIr<|AIr<|AJt<|q_t<|AH1<|AHy ?_;obtain ⟨_,_,_,Fx⟩:=(H2.ext By.x).shape;refine ALe (v:=(.agg #[Ac,(.int .i64 0)])) (λ_=>by subst Fx;kernel_rfl)<|Ahl [Ac,(.int .i64 0)] trivial tt2 rfl rfl λA5 Ns Fy Fz F4=>AH7<|AH3<|AH1<|AH7<|AH6 ?_;have C0:=By.nb Fz F4 Fy;obtain ⟨B4,F5,C1⟩:=AH2 Er;obtain ⟨F6,F7,F8⟩:=AZz F5;refine AMc 22300745198530623141535718272648327146249984 (λx:(Int) × (LiI) × LnA × LnN × LvA × (Int)=>[(8,(.int .i64 x.1))]) (λk x h'=>iter F6 k (x.1,x.2.1,x.2.2.2.2.2)=some B4/\Kst h h' ((C0.L.set 1<|aO2 (cI .i64) 41 2 x.2.2.1 x.2.2.2.1 x.2.2.2.2.1 Bv x.2.1).set 0 (aB 100 A5 [Ac,(.int .i64 x.2.2.2.2.2)]))) AIb fuel ((0,Cv,Ev,Bx,Cw,0):(Int) × (LiI) × LnA × LnN × LvA × (Int)) ?_ ⟨rfl,trivial⟩ ?_
  ·exact ⟨F8,C0⟩
  rintro Nt ⟨C3,F9,Ga,Gb,Gc,B5⟩ Nu Nv ⟨Gd,Aj⟩;obtain ⟨Ge,Nw,rfl,Be,A9⟩:=AWm Gd;rw [F7] at Be;dsimp only at Be;unfold AQg at Be;obtain ⟨Gf,C4,B6⟩:=AH2 Be;refine ARb 562915593682944 (λx:Unit=>[]) (λx h'=>(Sum.inl <| ())=Gf/\Kst h h' (Aj.L)) ?_ ?_
  ·refine AH3<|AMw<|AHy<|AI3 rfl rfl (AHy ?_);by_cases Bf:C3 < 12
   ·have C5:=ifT C4 Bf;rw [decide_eq_true Bf];refine AIs 37 true<|AHy<|AIs 37 true<|AJj rfl (AIs 37 true<|AJp AKh rfl (AIs 37 true<|AI1 AJq rfl ((Aj.b p0).cell (i:=1) rfl) (AIs 37 true<|AHy<|AIs 37 true<|AJj rfl (AIs 37 true<|AJp AN3 rfl (AIs 37 true<|AI1 AU8 rfl ((Aj.b p0).cell (i:=0) rfl) (AIs 37 true<|AJ8 AV6 rfl H2 (AIs 37 true<|AI3 rfl rfl (AIm rfl (AH5<|⟨_,rfl,λB7=>?_,λB7=>?_⟩)))))))))
    ·refine AIa<|q_t ?_;exact ⟨(():Unit),⟨AH0<|AJb C5 B7,Aj⟩,trivial⟩
    ·obtain rfl:=AH0<|AJc C5 B7;obtain rfl:=AH0 B6;change _=B4 at A9;subst A9;refine AIq<|AIr<|AIr<|AJt<|q_t<|AH1<|AHy<|AH7<|AIc ?_;obtain rfl:=AH0 C1;exact ⟨_,AId,Aj.x,_,_,_,_,rfl,(Aj.o2 p1),Aj.s.sel [1] AHz⟩
   ·rw [decide_eq_false Bf];refine AN1 37 false<|AN1 37 false<|AIn rfl (AH5<|AI6 rfl ?_);obtain rfl:=AH0<|ifF C4 Bf;obtain rfl:=AH0 B6;change _=B4 at A9;subst A9;refine AIq<|AIr<|AIr<|AJt<|q_t<|AH1<|AHy<|AH7<|AIc ?_;obtain rfl:=AH0 C1;exact ⟨_,AId,Aj.x,_,_,_,_,rfl,(Aj.o2 p1),Aj.s.sel [1] AHz⟩
  rintro ⟨⟩ Ny Nz ⟨Gg,Ar⟩;subst Gg;refine AH3<|AH6<|AH1<|AHy<|AHy ?_;obtain ⟨Gh,Gi,Gj⟩:=AH2 B6;refine AIz (K':=(λxr h'=> ∃ x:(Int) × (Int),(x.1,x.2)=Gh/\xr=(.int .i64 x.1)/\Kst h h' (Ar.L.set 0<|aB 100 A5 [Ac,(.int .i64 x.2)]))) trivial rfl ?_ λN0 N3 Gk=>?_
  ·refine cwf (l:=[_,_]) Tryz.func62 rfl rfl (AH1<|AJd<|AHy ?_);obtain ⟨Gl,C6,Gm⟩:=AH2 Gi;refine AIz (K':=(λxr h'=> ∃ x:(Int) × (Int),(x.1,x.2)=Gl/\xr=(.int .i64 x.1)/\Kst h h' (Ar.L.set 0<|aB 100 A5 [Ac,(.int .i64 x.2)]))) trivial rfl ?_ λN4 N5 Gn=>?_
   ·refine cwf (l:=[_]) Tryz.func114 rfl rfl (AH1<|AH7<|AH3<|AH3<|AMw<|AHy<|AJj rfl (AJp AKh rfl (AI1 AJq rfl ((Ar.b p0).cell (i:=1) rfl) (AHy<|AJj rfl (AJp AN3 rfl (AI1 AU8 rfl ((Ar.b p0).cell (i:=0) rfl) (AJ8 AV6 rfl H2 (AUr rfl rfl (AH5<|⟨_,rfl,λB8=>?_,λB8=>?_⟩)))))))))
    ·refine AH1<|AH7<|AIc<|AIt<|⟨_,AId,((0,B5):(Int) × (Int)),?_,rfl,?_⟩
     ·exact AH0<|AJb C6 B8
     ·exact Ar
    ·refine AIa<|q_t<|AH1<|AHy<|AJj rfl (AJp AKh rfl (AI1 AJq rfl ((Ar.b p0).cell (i:=1) rfl) (AI0 rfl rfl (AJj rfl (AJp AKh rfl (AVa [Ac,(.int .i64<|w64<|B5 + 1)] AJq rfl rfl rfl (Ar.b p0) (Nat.le_of_ble_eq_true rfl) rfl λN6 Gp Gq=>AH5<|AH3<|AMw<|AHy<|AJj rfl (AJp AN3 rfl ?_)))))));have Bg:=Ar.sb p0 Gq Gp rfl;refine AI1 AU8 rfl ((Bg.b p0).cell (i:=0) rfl) (AHy<|AJj rfl (AJp AKh rfl (AI1 AJq rfl ((Bg.b p0).cell (i:=1) rfl) (AMy rfl rfl ?_))));obtain ⟨Gr,Gt,Gu⟩:=AH2<|AJc C6 B8;refine AQi (c:=(cI .i8)) AV6 rfl H2 rfl Gt λN7 N8 N9 Gv Gw=>?_;obtain rfl:=Gv;refine AI1 Afl rfl (AIj (Gw 0 _ rfl) Bg.x) (ASz Afm AP8 rfl (AH7<|AIc<|⟨_,AId,(((w64 Gr),(w64<|B5 + 1)):(Int) × (Int)),?_,rfl,?_⟩))
     ·exact AH0 Gu
     ·exact Bg
   obtain ⟨⟨Gx,Gy⟩,Gz,rfl,G3⟩:=Gn;refine ⟨trivial,?_⟩;subst Gz;refine ASz AP8 AYc rfl (ASz AYc AYv rfl (AHy ?_));obtain ⟨G4,G5⟩:=ifN Gm;refine ALg rfl rfl G4 (AH7<|AIc<|⟨_,AId,(((Int.tmod (w64<|IntKind.wrap .u8 Gx) a5),Gy):(Int) × (Int)),?_,rfl,?_⟩)
   ·exact AH0 G5
   ·exact G3
  obtain ⟨⟨Ak,B9⟩,G6,rfl,Au⟩:=Gk;refine ⟨trivial,?_⟩;subst G6;refine AHy<|AHy ?_;obtain ⟨G7,G8,G9⟩:=AH2 Gj;refine AIz (K':=(λxr h'=> ∃ x:(Int) × (Int),(x.1,x.2)=G7/\xr=(.int .i64 x.1)/\Kst h h' (Au.L.set 0<|aB 100 A5 [Ac,(.int .i64 x.2)]))) trivial rfl ?_ λOa Ob Hb=>?_
  ·refine cwf (l:=[_,_]) Tryz.func62 rfl rfl (AH1<|AJd<|AHy ?_);obtain ⟨Hc,C7,Hd⟩:=AH2 G8;refine AIz (K':=(λxr h'=> ∃ x:(Int) × (Int),(x.1,x.2)=Hc/\xr=(.int .i64 x.1)/\Kst h h' (Au.L.set 0<|aB 100 A5 [Ac,(.int .i64 x.2)]))) trivial rfl ?_ λOc Od He=>?_
   ·refine cwf (l:=[_]) Tryz.func114 rfl rfl (AH1<|AH7<|AH3<|AH3<|AMw<|AHy<|AJj rfl (AJp AKh rfl (AI1 AJq rfl ((Au.b p0).cell (i:=1) rfl) (AHy<|AJj rfl (AJp AN3 rfl (AI1 AU8 rfl ((Au.b p0).cell (i:=0) rfl) (AJ8 AV6 rfl H2 (AUr rfl rfl (AH5<|⟨_,rfl,λCa=>?_,λCa=>?_⟩)))))))))
    ·refine AH1<|AH7<|AIc<|AIt<|⟨_,AId,((0,B9):(Int) × (Int)),?_,rfl,?_⟩
     ·exact AH0<|AJb C7 Ca
     ·exact Au
    ·refine AIa<|q_t<|AH1<|AHy<|AJj rfl (AJp AKh rfl (AI1 AJq rfl ((Au.b p0).cell (i:=1) rfl) (AI0 rfl rfl (AJj rfl (AJp AKh rfl (AVa [Ac,(.int .i64<|w64<|B9 + 1)] AJq rfl rfl rfl (Au.b p0) (Nat.le_of_ble_eq_true rfl) rfl λOe Hf Hg=>AH5<|AH3<|AMw<|AHy<|AJj rfl (AJp AN3 rfl ?_)))))));have Bh:=Au.sb p0 Hg Hf rfl;refine AI1 AU8 rfl ((Bh.b p0).cell (i:=0) rfl) (AHy<|AJj rfl (AJp AKh rfl (AI1 AJq rfl ((Bh.b p0).cell (i:=1) rfl) (AMy rfl rfl ?_))));obtain ⟨Hh,Hj,Hk⟩:=AH2<|AJc C7 Ca;refine AQi (c:=(cI .i8)) AV6 rfl H2 rfl Hj λOg Oh Oi Hl Hm=>?_;obtain rfl:=Hl;refine AI1 Afl rfl (AIj (Hm 0 _ rfl) Bh.x) (ASz Afm AP8 rfl (AH7<|AIc<|⟨_,AId,(((w64 Hh),(w64<|B9 + 1)):(Int) × (Int)),?_,rfl,?_⟩))
     ·exact AH0 Hk
     ·exact Bh
   obtain ⟨⟨Hn,Ho⟩,Hq,rfl,Hr⟩:=He;refine ⟨trivial,?_⟩;subst Hq;refine ASz AP8 AYc rfl (ASz AYc AYv rfl (AHy ?_));obtain ⟨Hs,Ht⟩:=ifN Hd;refine ALg rfl rfl Hs (AH7<|AIc<|⟨_,AId,(((Int.tmod (w64<|IntKind.wrap .u8 Hn) a5),Ho):(Int) × (Int)),?_,rfl,?_⟩)
   ·exact AH0 Ht
   ·exact Hr
  obtain ⟨⟨Ba,Cb⟩,Hu,rfl,A3⟩:=Hb;refine ⟨trivial,?_⟩;subst Hu;refine AIw<|AJd<|AHy ?_;obtain ⟨Hv,C8,Hw⟩:=AH2 G9;refine AIz (K':=(λxr h'=> ∃ x:(Int) × (Int),(x.1,x.2)=Hv/\xr=(.int .i64 x.1)/\Kst h h' (A3.L.set 0<|aB 100 A5 [Ac,(.int .i64 x.2)]))) trivial rfl ?_ λOj Ol Hx=>?_
  ·refine cwf (l:=[_]) Tryz.func114 rfl rfl (AH1<|AH7<|AH3<|AH3<|AMw<|AHy<|AJj rfl (AJp AKh rfl (AI1 AJq rfl ((A3.b p0).cell (i:=1) rfl) (AHy<|AJj rfl (AJp AN3 rfl (AI1 AU8 rfl ((A3.b p0).cell (i:=0) rfl) (AJ8 AV6 rfl H2 (AUr rfl rfl (AH5<|⟨_,rfl,λCd=>?_,λCd=>?_⟩)))))))))
   ·refine AH1<|AH7<|AIc<|AIt<|⟨_,AId,((0,Cb):(Int) × (Int)),?_,rfl,?_⟩
    ·exact AH0<|AJb C8 Cd
    ·exact A3
   ·refine AIa<|q_t<|AH1<|AHy<|AJj rfl (AJp AKh rfl (AI1 AJq rfl ((A3.b p0).cell (i:=1) rfl) (AI0 rfl rfl (AJj rfl (AJp AKh rfl (AVa [Ac,(.int .i64<|w64<|Cb + 1)] AJq rfl rfl rfl (A3.b p0) (Nat.le_of_ble_eq_true rfl) rfl λOm Hy Hz=>AH5<|AH3<|AMw<|AHy<|AJj rfl (AJp AN3 rfl ?_)))))));have Bi:=A3.sb p0 Hz Hy rfl;refine AI1 AU8 rfl ((Bi.b p0).cell (i:=0) rfl) (AHy<|AJj rfl (AJp AKh rfl (AI1 AJq rfl ((Bi.b p0).cell (i:=1) rfl) (AMy rfl rfl ?_))));obtain ⟨Ia,Ib,Ic⟩:=AH2<|AJc C8 Cd;refine AQi (c:=(cI .i8)) AV6 rfl H2 rfl Ib λOn Oo Oq Id Ie=>?_;obtain rfl:=Id;refine AI1 Afl rfl (AIj (Ie 0 _ rfl) Bi.x) (ASz Afm AP8 rfl (AH7<|AIc<|⟨_,AId,(((w64 Ia),(w64<|Cb + 1)):(Int) × (Int)),?_,rfl,?_⟩))
    ·exact AH0 Ic
    ·exact Bi
  obtain ⟨⟨Av,If⟩,Ih,rfl,Ce⟩:=Hx;refine ⟨trivial,?_⟩;subst Ih;refine ALg rfl rfl AHz (AJd<|AHy<|AJh AIk rfl (Ce.o2 p1).rd (AHy<|AH5<|AH6 ?_));obtain ⟨C9,Ii,Ij⟩:=AH2 Hw;obtain ⟨Ik,Il,Im⟩:=AZz Ii;refine AMc 22300745198530623141535713660962343078596608 (λx:(Int) × (LiI) × LnA × LnN × LvA=>[(62,(.int .i64 x.1))]) (λk x h'=>iter Ik k (x.1,x.2.1)=some C9/\Kst h h' (Ce.L.set 1<|aO2 (cI .i64) 41 2 x.2.2.1 x.2.2.2.1 x.2.2.2.2 Bv x.2.1)) AIb fuel ((0,F9,Ga,Gb,Gc):(Int) × (LiI) × LnA × LnN × LvA) ?_ ⟨rfl,trivial⟩ ?_
  ·exact ⟨Im,Ce⟩
  rintro Ot ⟨Ab,Ae,Af,Ag,Ah⟩ Ou Ov ⟨Io,Aa⟩;obtain ⟨Ai,Ow,rfl,Bb,Ad⟩:=AWm Io;rw [Il] at Bb;dsimp only at Bb;unfold AOb at Bb;refine AH1<|AI3 rfl rfl (AH5<|AH3<|⟨_,rfl,λCf=>?_,λCf=>?_⟩)
  ·refine AIa<|q_t<|AH3<|AH6<|AH1<|AHy<|AH7<|AH6<|AH1<|AHy<|AHy<|AKd rfl rfl (AHy ?_);have Da:=AJb Bb Cf;by_cases Bj:Ak=Ba
   ·have Db:=ifT Da Bj;rw [decide_eq_true Bj];refine AIs 69 true<|AHy<|AIs 69 true<|AI3 rfl rfl (AIm rfl (AH7<|⟨_,rfl,λCg=>?_,λCg=>?_⟩))
    ·refine AMw<|AHy<|AHy ?_;obtain ⟨Ip,A6,Iq⟩:=AH2<|AJb Db Cg;refine AJr AIk rfl (Aa.o2 p1) rfl A6 λOx Oy Oz Ir Is=>AI1 AIv rfl Is (AHy<|AHy<|AHy<|AJr AIk rfl (Aa.o2 p1) rfl A6 λO0 O1 O2 It Iu=>AI1 AIv rfl Iu (AHy ?_));obtain ⟨Dc,Bl,Iv⟩:=AH2 Iq;refine AJy (m:=Ab) AIi rfl (Aa.o2 p1) It A6 rfl Bl λO3 Iw=>?_;obtain ⟨O4,Ix,Iy⟩:=(Aa.o2 p1).cells Iw A6 Bl;obtain rfl:=Ix;refine AI1 AIg rfl (Iy 0 _ rfl) (Adj rfl (AJy (m:=Ab) AIi rfl (Aa.o2 p1) Ir A6 rfl Bl λO5 Iz=>AN2 (m:=Ab) (AMt AIg rfl rfl rfl) (Aa.o2 p1) Iz A6 Bl (show ((cI .i64)).rep _ (w64<|0 - Dc) _ from rfl) λO6 I0 I1=>AIu<|q_b<|q_b<|q_t<|AIf<|AI0 rfl rfl (AHy<|AH5 ?_)));obtain rfl:=AH0 Iv;exact ⟨Ai,(((w64<|Ab + 1),(sI Ae Ab<|sI Ip Ak<|w64<|0 - Dc),Af,Ag,Ah):(Int) × (LiI) × LnA × LnN × LvA),Nat.lt_succ_self _,⟨Ad,(Aa.uO2 p1 I1 I0)⟩,rfl,trivial⟩
    ·refine AH1<|AHy<|AHy<|AK0 rfl rfl (AHy ?_);have Dd:=AJc Db Cg;by_cases Bm: ¬ Ak=Ba
     ·have De:=ifT Dd Bm;rw [decide_eq_true Bm];refine AIs 91 true<|AHy<|AIs 91 true<|AKd rfl rfl (AIm rfl (AH7<|⟨_,rfl,λCh=>?_,λCh=>?_⟩))
      ·refine AMw<|AHy<|AHy ?_;obtain ⟨I2,Am,I3⟩:=AH2<|AJb De Ch;refine AJr AIk rfl (Aa.o2 p1) rfl Am λO7 O8 O9 I6 I7=>AI1 AIv rfl I7 (AHy<|AHy<|AHy<|AJr AIk rfl (Aa.o2 p1) rfl Am λPa Pb Pc I9 Ja=>AI1 AIv rfl Ja (AHy<|AHy<|AHy<|AJr AIk rfl (Aa.o2 p1) rfl Am λPd Pe Pf Jc Je=>AI1 AIv rfl Je (AHy ?_)));obtain ⟨Df,Dg,Jf⟩:=AH2 I3;refine AJy (m:=Ab) AIi rfl (Aa.o2 p1) Jc Am rfl Dg λPg Jg=>?_;obtain ⟨Ph,Jh,Ji⟩:=(Aa.o2 p1).cells Jg Am Dg;obtain rfl:=Jh;refine AI1 AIg rfl (Ji 0 _ rfl) (AHy<|AHy<|AJr AIk rfl (Aa.o2 p1) rfl Am λPj Pk Pl Jj Jk=>AI1 AIv rfl Jk (AHy ?_));obtain ⟨Dh,Bn,Jl⟩:=AH2 Jf;refine AJy (m:=Ab) AIi rfl (Aa.o2 p1) Jj Am rfl Bn λPm Jm=>?_;obtain ⟨Pn,Jn,Jo⟩:=(Aa.o2 p1).cells Jm Am Bn;obtain rfl:=Jn;refine AI1 AIg rfl (Jo 0 _ rfl) (AJy (m:=Ab) AIi rfl (Aa.o2 p1) I6 Am rfl Bn λPo Jp=>AN2 (m:=Ab) (AMt AIg rfl rfl rfl) (Aa.o2 p1) Jp Am Bn (show ((cI .i64)).rep _ Df _ from rfl) λPp Jq Jr=>?_);have Ci:=Aa.uO2 p1 Jr Jq;obtain ⟨Js,Di,Jt⟩:=AH2 Jl;obtain ⟨Pq,Dj,Ju⟩:=AH2 Jt;refine AJy (m:=Ab) AIi rfl (Ci.o2 p1) I9 Di rfl Dj λPs Jv=>AN2 (m:=Ab) (AMt AIg rfl rfl rfl) (Ci.o2 p1) Jv Di Dj (show ((cI .i64)).rep _ Dh _ from rfl) λPt Jw Jx=>AIu<|q_b<|q_b<|q_t<|AIf<|AI0 rfl rfl (AHy<|AH5 ?_);obtain rfl:=AH0 Ju;exact ⟨Ai,(((w64<|Ab + 1),(sI (sI Ae Ab<|sI I2 Ak Df) Ab<|sI Js Ba Dh),Af,Ag,Ah):(Int) × (LiI) × LnA × LnN × LvA),Nat.lt_succ_self _,⟨Ad,(Ci.uO2 p1 Jx Jw)⟩,rfl,trivial⟩
      ·refine AH1<|AHy<|AHy<|AK0 rfl rfl (AH7 ?_);have Dk:=AJc De Ch;refine ⟨_,rfl,λCj=>?_,λCj=>?_⟩
       ·refine AMw<|AHy<|AHy ?_;obtain ⟨Jy,Aw,Jz⟩:=AH2<|AJb Dk Cj;refine AJr AIk rfl (Aa.o2 p1) rfl Aw λPu Pw Px Dl J0=>AI1 AIv rfl J0 (AHy ?_);obtain ⟨Do,Bo,J1⟩:=AH2 Jz;refine AJy (m:=Ab) AIi rfl (Aa.o2 p1) Dl Aw rfl Bo λPy J2=>?_;obtain ⟨Pz,J3,J4⟩:=(Aa.o2 p1).cells J2 Aw Bo;obtain rfl:=J3;refine AI1 AIg rfl (J4 0 _ rfl) (AHy<|AHy<|AHy<|AJr AIk rfl (Aa.o2 p1) rfl Aw λP0 P1 P2 J5 J6=>AI1 AIv rfl J6 (AHy ?_));obtain ⟨Dp,Dq,J7⟩:=AH2 J1;refine AJy (m:=Ab) AIi rfl (Aa.o2 p1) J5 Aw rfl Dq λP3 J8=>?_;obtain ⟨P4,J9,Ka⟩:=(Aa.o2 p1).cells J8 Aw Dq;obtain rfl:=J9;refine AI1 AIg rfl (Ka 0 _ rfl) (APo rfl rfl (AI0 rfl rfl (AJy (m:=Ab) AIi rfl (Aa.o2 p1) Dl Aw rfl Bo λP5 Kb=>AN2 (m:=Ab) (AMt AIg rfl rfl rfl) (Aa.o2 p1) Kb Aw Bo (show ((cI .i64)).rep _ (w64<|Do + (w64<|(Int.tmod Av 3) * Dp)) _ from rfl) λP6 Kc Kd=>AIu<|q_b<|q_b<|q_t<|AIf<|AI0 rfl rfl (AHy<|AH5 ?_))));obtain rfl:=AH0 J7;exact ⟨Ai,(((w64<|Ab + 1),(sI Ae Ab<|sI Jy Ak<|w64<|Do + (w64<|(Int.tmod Av 3) * Dp)),Af,Ag,Ah):(Int) × (LiI) × LnA × LnN × LvA),Nat.lt_succ_self _,⟨Ad,(Aa.uO2 p1 Kd Kc)⟩,rfl,trivial⟩
       ·refine AIa<|q_b<|q_b<|q_t<|AIf<|AI0 rfl rfl (AHy<|AH5 ?_);obtain rfl:=AH0<|AJc Dk Cj;exact ⟨Ai,(((w64<|Ab + 1),Ae,Af,Ag,Ah):(Int) × (LiI) × LnA × LnN × LvA),Nat.lt_succ_self _,⟨Ad,Aa⟩,rfl,trivial⟩
     ·have Dr:=ifF Dd Bm;rw [decide_eq_false Bm];refine AP2 91 false<|AIn rfl (AH7<|AI6 rfl (AH1<|AHy<|AHy<|AK0 rfl rfl (AH7<|⟨_,rfl,λCk=>?_,λCk=>?_⟩)))
      ·refine AMw<|AHy<|AHy ?_;obtain ⟨Ke,Ax,Kf⟩:=AH2<|AJb Dr Ck;refine AJr AIk rfl (Aa.o2 p1) rfl Ax λP7 P8 P9 Ds Kg=>AI1 AIv rfl Kg (AHy ?_);obtain ⟨Dt,Bp,Kh⟩:=AH2 Kf;refine AJy (m:=Ab) AIi rfl (Aa.o2 p1) Ds Ax rfl Bp λQa Ki=>?_;obtain ⟨Qb,Kj,Kk⟩:=(Aa.o2 p1).cells Ki Ax Bp;obtain rfl:=Kj;refine AI1 AIg rfl (Kk 0 _ rfl) (AHy<|AHy<|AHy<|AJr AIk rfl (Aa.o2 p1) rfl Ax λQc Qd Qe Kl Km=>AI1 AIv rfl Km (AHy ?_));obtain ⟨Du,Dv,Kn⟩:=AH2 Kh;refine AJy (m:=Ab) AIi rfl (Aa.o2 p1) Kl Ax rfl Dv λQf Ko=>?_;obtain ⟨Qg,Kp,Kr⟩:=(Aa.o2 p1).cells Ko Ax Dv;obtain rfl:=Kp;refine AI1 AIg rfl (Kr 0 _ rfl) (APo rfl rfl (AI0 rfl rfl (AJy (m:=Ab) AIi rfl (Aa.o2 p1) Ds Ax rfl Bp λQh Kt=>AN2 (m:=Ab) (AMt AIg rfl rfl rfl) (Aa.o2 p1) Kt Ax Bp (show ((cI .i64)).rep _ (w64<|Dt + (w64<|(Int.tmod Av 3) * Du)) _ from rfl) λQi Ku Kv=>AIu<|q_b<|q_b<|q_t<|AIf<|AI0 rfl rfl (AHy<|AH5 ?_))));obtain rfl:=AH0 Kn;exact ⟨Ai,(((w64<|Ab + 1),(sI Ae Ab<|sI Ke Ak<|w64<|Dt + (w64<|(Int.tmod Av 3) * Du)),Af,Ag,Ah):(Int) × (LiI) × LnA × LnN × LvA),Nat.lt_succ_self _,⟨Ad,(Aa.uO2 p1 Kv Ku)⟩,rfl,trivial⟩
      ·refine AIa<|q_b<|q_b<|q_t<|AIf<|AI0 rfl rfl (AHy<|AH5 ?_);obtain rfl:=AH0<|AJc Dr Ck;exact ⟨Ai,(((w64<|Ab + 1),Ae,Af,Ag,Ah):(Int) × (LiI) × LnA × LnN × LvA),Nat.lt_succ_self _,⟨Ad,Aa⟩,rfl,trivial⟩
   ·have Dw:=ifF Da Bj;rw [decide_eq_false Bj];refine AP2 69 false<|AIn rfl (AH7<|AI6 rfl (AH1<|AHy<|AHy<|AK0 rfl rfl (AHy ?_)));by_cases Bq: ¬ Ak=Ba
    ·have Dx:=ifT Dw Bq;rw [decide_eq_true Bq];refine AIs 91 true<|AHy<|AIs 91 true<|AKd rfl rfl (AIm rfl (AH7<|⟨_,rfl,λCm=>?_,λCm=>?_⟩))
     ·refine AMw<|AHy<|AHy ?_;obtain ⟨Kw,Ao,Kx⟩:=AH2<|AJb Dx Cm;refine AJr AIk rfl (Aa.o2 p1) rfl Ao λQj Qk Ql Ky Kz=>AI1 AIv rfl Kz (AHy<|AHy<|AHy<|AJr AIk rfl (Aa.o2 p1) rfl Ao λQm Qn Qo La Lb=>AI1 AIv rfl Lb (AHy<|AHy<|AHy<|AJr AIk rfl (Aa.o2 p1) rfl Ao λQp Qq Qr Lc Ld=>AI1 AIv rfl Ld (AHy ?_)));obtain ⟨Dy,Dz,Le⟩:=AH2 Kx;refine AJy (m:=Ab) AIi rfl (Aa.o2 p1) Lc Ao rfl Dz λQs Lf=>?_;obtain ⟨Qt,Lg,Lh⟩:=(Aa.o2 p1).cells Lf Ao Dz;obtain rfl:=Lg;refine AI1 AIg rfl (Lh 0 _ rfl) (AHy<|AHy<|AJr AIk rfl (Aa.o2 p1) rfl Ao λQu Qv Qw Li Lj=>AI1 AIv rfl Lj (AHy ?_));obtain ⟨D0,Br,Lk⟩:=AH2 Le;refine AJy (m:=Ab) AIi rfl (Aa.o2 p1) Li Ao rfl Br λQx Ll=>?_;obtain ⟨Qy,Lm,Lo⟩:=(Aa.o2 p1).cells Ll Ao Br;obtain rfl:=Lm;refine AI1 AIg rfl (Lo 0 _ rfl) (AJy (m:=Ab) AIi rfl (Aa.o2 p1) Ky Ao rfl Br λQz Lq=>AN2 (m:=Ab) (AMt AIg rfl rfl rfl) (Aa.o2 p1) Lq Ao Br (show ((cI .i64)).rep _ Dy _ from rfl) λQ0 Lr Lv=>?_);have Cn:=Aa.uO2 p1 Lv Lr;obtain ⟨Lw,D3,Lx⟩:=AH2 Lk;obtain ⟨Q1,D4,Ly⟩:=AH2 Lx;refine AJy (m:=Ab) AIi rfl (Cn.o2 p1) La D3 rfl D4 λQ2 Lz=>AN2 (m:=Ab) (AMt AIg rfl rfl rfl) (Cn.o2 p1) Lz D3 D4 (show ((cI .i64)).rep _ D0 _ from rfl) λQ3 L9 Ma=>AIu<|q_b<|q_b<|q_t<|AIf<|AI0 rfl rfl (AHy<|AH5 ?_);obtain rfl:=AH0 Ly;exact ⟨Ai,(((w64<|Ab + 1),(sI (sI Ae Ab<|sI Kw Ak Dy) Ab<|sI Lw Ba D0),Af,Ag,Ah):(Int) × (LiI) × LnA × LnN × LvA),Nat.lt_succ_self _,⟨Ad,(Cn.uO2 p1 Ma L9)⟩,rfl,trivial⟩
     ·refine AH1<|AHy<|AHy<|AK0 rfl rfl (AH7 ?_);have D5:=AJc Dx Cm;refine ⟨_,rfl,λCo=>?_,λCo=>?_⟩
      ·refine AMw<|AHy<|AHy ?_;obtain ⟨Mb,Ay,Mc⟩:=AH2<|AJb D5 Co;refine AJr AIk rfl (Aa.o2 p1) rfl Ay λQ4 Q6 Q7 D6 Md=>AI1 AIv rfl Md (AHy ?_);obtain ⟨D7,Bt,Me⟩:=AH2 Mc;refine AJy (m:=Ab) AIi rfl (Aa.o2 p1) D6 Ay rfl Bt λQ8 Mf=>?_;obtain ⟨Q9,Mg,Mh⟩:=(Aa.o2 p1).cells Mf Ay Bt;obtain rfl:=Mg;refine AI1 AIg rfl (Mh 0 _ rfl) (AHy<|AHy<|AHy<|AJr AIk rfl (Aa.o2 p1) rfl Ay λRc Rd Re Mi Mj=>AI1 AIv rfl Mj (AHy ?_));obtain ⟨D8,D9,Mk⟩:=AH2 Me;refine AJy (m:=Ab) AIi rfl (Aa.o2 p1) Mi Ay rfl D9 λRf Ml=>?_;obtain ⟨Rg,Mm,Mo⟩:=(Aa.o2 p1).cells Ml Ay D9;obtain rfl:=Mm;refine AI1 AIg rfl (Mo 0 _ rfl) (APo rfl rfl (AI0 rfl rfl (AJy (m:=Ab) AIi rfl (Aa.o2 p1) D6 Ay rfl Bt λRh Mq=>AN2 (m:=Ab) (AMt AIg rfl rfl rfl) (Aa.o2 p1) Mq Ay Bt (show ((cI .i64)).rep _ (w64<|D7 + (w64<|(Int.tmod Av 3) * D8)) _ from rfl) λRi Mr Ms=>AIu<|q_b<|q_b<|q_t<|AIf<|AI0 rfl rfl (AHy<|AH5 ?_))));obtain rfl:=AH0 Mk;exact ⟨Ai,(((w64<|Ab + 1),(sI Ae Ab<|sI Mb Ak<|w64<|D7 + (w64<|(Int.tmod Av 3) * D8)),Af,Ag,Ah):(Int) × (LiI) × LnA × LnN × LvA),Nat.lt_succ_self _,⟨Ad,(Aa.uO2 p1 Ms Mr)⟩,rfl,trivial⟩
      ·refine AIa<|q_b<|q_b<|q_t<|AIf<|AI0 rfl rfl (AHy<|AH5 ?_);obtain rfl:=AH0<|AJc D5 Co;exact ⟨Ai,(((w64<|Ab + 1),Ae,Af,Ag,Ah):(Int) × (LiI) × LnA × LnN × LvA),Nat.lt_succ_self _,⟨Ad,Aa⟩,rfl,trivial⟩
    ·have Ea:=ifF Dw Bq;rw [decide_eq_false Bq];refine AP2 91 false<|AIn rfl (AH7<|AI6 rfl (AH1<|AHy<|AHy<|AK0 rfl rfl (AH7<|⟨_,rfl,λCp=>?_,λCp=>?_⟩)))
     ·refine AMw<|AHy<|AHy ?_;obtain ⟨Mt,Az,Mu⟩:=AH2<|AJb Ea Cp;refine AJr AIk rfl (Aa.o2 p1) rfl Az λRj Rm Rn Eb Mv=>AI1 AIv rfl Mv (AHy ?_);obtain ⟨Ec,Bu,Mw⟩:=AH2 Mu;refine AJy (m:=Ab) AIi rfl (Aa.o2 p1) Eb Az rfl Bu λRo Mx=>?_;obtain ⟨Rq,My,Mz⟩:=(Aa.o2 p1).cells Mx Az Bu;obtain rfl:=My;refine AI1 AIg rfl (Mz 0 _ rfl) (AHy<|AHy<|AHy<|AJr AIk rfl (Aa.o2 p1) rfl Az λRr Rs Rt M0 M1=>AI1 AIv rfl M1 (AHy ?_));obtain ⟨Ed,Ee,M2⟩:=AH2 Mw;refine AJy (m:=Ab) AIi rfl (Aa.o2 p1) M0 Az rfl Ee λRu M3=>?_;obtain ⟨Rv,M4,M5⟩:=(Aa.o2 p1).cells M3 Az Ee;obtain rfl:=M4;refine AI1 AIg rfl (M5 0 _ rfl) (APo rfl rfl (AI0 rfl rfl (AJy (m:=Ab) AIi rfl (Aa.o2 p1) Eb Az rfl Bu λRw M6=>AN2 (m:=Ab) (AMt AIg rfl rfl rfl) (Aa.o2 p1) M6 Az Bu (show ((cI .i64)).rep _ (w64<|Ec + (w64<|(Int.tmod Av 3) * Ed)) _ from rfl) λRx M7 M8=>AIu<|q_b<|q_b<|q_t<|AIf<|AI0 rfl rfl (AHy<|AH5 ?_))));obtain rfl:=AH0 M2;exact ⟨Ai,(((w64<|Ab + 1),(sI Ae Ab<|sI Mt Ak<|w64<|Ec + (w64<|(Int.tmod Av 3) * Ed)),Af,Ag,Ah):(Int) × (LiI) × LnA × LnN × LvA),Nat.lt_succ_self _,⟨Ad,(Aa.uO2 p1 M8 M7)⟩,rfl,trivial⟩
     ·refine AIa<|q_b<|q_b<|q_t<|AIf<|AI0 rfl rfl (AHy<|AH5 ?_);obtain rfl:=AH0<|AJc Ea Cp;exact ⟨Ai,(((w64<|Ab + 1),Ae,Af,Ag,Ah):(Int) × (LiI) × LnA × LnN × LvA),Nat.lt_succ_self _,⟨Ad,Aa⟩,rfl,trivial⟩
  ·obtain rfl:=AH0<|AJc Bb Cf;change _=C9 at Ad;subst Ad;refine AIq<|AIr<|AIr<|AJt<|q_b<|q_t<|AIf<|AHy<|AI0 rfl rfl (AH7 ?_);obtain rfl:=AH0 Ij;exact ⟨Ge,(((w64<|C3 + 1),Ae,Af,Ag,Ah,If):(Int) × (LiI) × LnA × LnN × LvA × (Int)),Nat.lt_succ_self _,⟨A9,Aa⟩,rfl,trivial⟩
def AM8 (fuel:Nat) (a1 a2:Int) (a5 a9:LiA) (Af:Int):Option LiI:=
 (AK3 fuel a1 a2 a5 a9 Af).bind λAb=>(ALn fuel Ab).bind λAg=>(ANr fuel a9 (Ab.length:Int)).bind λAh=>(ALn fuel Ah).bind λAi=>(ALk fuel Ag Ai).bind λAj=>some Aj
theorem AYj {a5:LiA} {a9:LiA} {Ar:Int} {r:LiI} (H4:SlC (cI .i8) h Ac a5) (H8:SlC (cI .i8) h Ad a9) (hp:AM8 fuel a1 a2 a5 a9 Ar=some r):AI7 Tryz.prog 22 #[(.agg #[(.int .u8 a1),(.int .u8 a2),Ac,Ad]),(.int .i64 Ar)] h (λx h'=>Ext h h'/\ ∃ (x0:Value) (F0:List Nat) (A6:List LnA) (A7:List Value),x=x0/\ALl cZ 127 81 h' F0 A6 A7 x0 r/\Sp h' h.size [F0]):=by
 unfold AM8 at hp;refine cwf (l:=[_,_]) Tryz.func22 rfl rfl (AH1<|Ahl [(.int .u8 a1),(.int .u8 a2),Ac,Ad] trivial tt2 rfl rfl λB7 B8 A8 A9 Ba=>AJd ?_);have Ae:=(Kst.k0 h).nb A9 Ba A8;refine ATy [(.int .u8 a1),(.int .u8 a2),Ac,Ad] Ahw rfl rfl (Ae.b p0).agg (AHy ?_);obtain ⟨B9,Bb,Bc⟩:=AH2 hp;refine ASt rfl (ATm (H4.ext Ae.x) (H8.ext Ae.x) Bb) λCa Ag Be Bf=>?_;obtain ⟨Cb,Cd,Ce,Cf,rfl,Bg,Bh⟩:=Bf;refine AH7<|AH3<|AKg (λh'=>UpT [] Ag h') AIb ?_;have Ah:=Ae.no2 Be Bh Bg;have Ai:UpT [] Ag Ag:=UpT.start all_nil;refine AHy ?_;obtain ⟨Cg,Bi,Bj⟩:=AH2 Bc;refine ALp Ai (λ_ E=>Ai.thenE E) rfl (APc (Ah.o2 p0).rd Bi) λCh Ci Ax Bl=>?_;obtain ⟨Cj,Ck,Cm,Cn,rfl,Bm,Bn⟩:=Bl;refine AJp A17 rfl ?_;have Af:=Ai.thenE Ax;refine AJe AU8 rfl Af (λh' hb=>((Ah.b p1).ext hb.ext).cell (i:=3) rfl) (AHy ?_);have Aj:=Ah.no2 Ax Bn Bm;refine AJh AIk rfl (Aj.o2 p1).rd ?_;obtain ⟨Co,Bo,Bp⟩:=AH2 Bj;refine ALp Af (λ_ E=>Af.thenE E) rfl (AY0 (H8.ext Aj.x) Bo) λCp Cq Ay Bq=>?_;obtain ⟨Cr,Ct,Cu,Cv,rfl,Br,Bt⟩:=Bq;have Ak:=Af.thenE Ay;have Az:=Aj.no2 Ay Bt Br;obtain ⟨Cw,Bu,Bv⟩:=AH2 Bp;refine ALp Ak (λ_ E=>Ak.thenE E) rfl (APc (Az.o2 p0).rd Bu) λCx Cy A3 Bw=>?_;obtain ⟨Cz,C0,C1,C3,rfl,Bx,By⟩:=Bw;have A4:=Ak.thenE A3;have Am:=Az.no2 A3 By Bx;obtain ⟨C4,Bz,B2⟩:=AH2 Bv;refine ALp A4 (λ_ E=>A4.thenE E) rfl (AUm (Am.o2 p2).rd (Am.o2 p0).rd Bz) λC5 C6 B3 B4=>?_;obtain ⟨C7,C8,C9,Da,rfl,B5,B6⟩:=B4;refine AH7<|AIc ?_;have Ao:=Am.no2 B3 B6 B5;obtain rfl:=AH0 B2;exact ⟨_,AId,Ao.x,_,_,_,_,rfl,(Ao.o2 p0),Ao.s.sel [0] AHz⟩
def AMj (fuel:Nat) (a1 a2:Int) (a5 a9:LiA) (Ae:Int):Option LiI:=
 (AM8 fuel a1 a2 a5 a9 Ae).bind λAf=>(ANi fuel Af).bind λ(Ag,Ah,Ai)=>some Ag
theorem AXq {a5:LiA} {a9:LiA} {Ai:Int} {r:LiI} (H4:SlC (cI .i8) h Ac a5) (H8:SlC (cI .i8) h Ad a9) (hp:AMj fuel a1 a2 a5 a9 Ai=some r):AI7 Tryz.prog 7 #[(.agg #[(.int .u8 a1),(.int .u8 a2),Ac,Ad]),(.int .i64 Ai)] h (λx h'=>Ext h h'/\ ∃ (x0:Value) (F0:List Nat) (Ar:List LnA) (Au:List Value),x=x0/\ALl (cI .i64) 41 2 h' F0 Ar Au x0 r/\Sp h' h.size [F0]):=by
 unfold AMj at hp;refine cwf (l:=[_,_]) Tryz.func7 rfl rfl (AH1<|Ahl [(.int .u8 a1),(.int .u8 a2),Ac,Ad] trivial tt2 rfl rfl λBp Bq Av Aw Ax=>AJd ?_);have Ae:=(Kst.k0 h).nb Aw Ax Av;refine ATy [(.int .u8 a1),(.int .u8 a2),Ac,Ad] Ahw rfl rfl (Ae.b p0).agg (AHy ?_);obtain ⟨Br,Ay,Az⟩:=AH2 hp;refine ASt rfl (AYj (H4.ext Ae.x) (H8.ext Ae.x) Ay) λBt Bu A3 A4=>?_;obtain ⟨Bv,Bw,Bx,By,rfl,A5,A6⟩:=A4;have Am:=Ae.no2 A3 A6 A5;obtain ⟨⟨A7,A8,Bz⟩,A9,Ao⟩:=AH2 Az;dsimp only at Ao;refine ASt rfl (AV1 (Am.o2 p0).rd A9) λB2 B3 Ba Bb=>?_;obtain ⟨Bc,Be,Bf,Bg,Bh,Bi,Bj,Bl,rfl,Bm,Bn,Bo⟩:=Bb;have Af:=Am.n Ba [aO2 (cI .i64) 41 2 Be Bf Bg Bc A7,aO2 cZ 127 81 Bi Bj Bl Bh A8] Bo ⟨Bm,Bn,trivial⟩;simp only [List.cons_append,List.nil_append] at Af;refine AHy<|AJs rfl rfl (AJs rfl rfl (AJs rfl rfl (AIw<|AIw<|AJd<|AHy<|AH7<|AIc ?_)));obtain rfl:=AH0 Ao;exact ⟨_,AId,Af.x,_,_,_,_,rfl,(Af.o2 p0),Af.s.sel [0] AHz⟩
end Go.Proofs.YtegoafpaljeobaaGreatDoor
