/-
  Texts of a proof, joined. Conditions stand in each statement.
-/
import Derived.Test.YtkakafabeobahaaGreatDoorMJordanVerifies4
set_option linter.unusedVariables false
set_option linter.unusedSimpArgs false
open Go
variable {r:Bool} {a3:Go.Proofs.YtkakafabeobahaaGreatDoor.LiI} {h:Go.QF.AO2} {G F A T:Go.QF.Ahe} {a1 a5 x a2 q p:Int} {fuel i k:Nat} {g:Nat->Int} {α:Type} {Ao Ax:Value}
namespace Go.Proofs.YtkakafabeobahaaGreatDoor
open Go Go.QF
set_option maxRecDepth 100000
set_option maxHeartbeats 40000000
def Atf (fuel:Nat) (a3:LiI) (Ab:Int):Option (Int ⊕ (Bool ⊕ Unit)):=
 if Ab < (a3.length:Int) then (gI a3 Ab).bind λAc=>(gI a3 0).bind λAd=>if ¬ (Ac.length:Int)=(Ad.length:Int) then some (.inr<|.inl false) else some (.inl<|w64<|Ab + 1) else some<|.inr<|.inr ()
def Apq (fuel:Nat) (a3:LiI):Option Bool:=
 ((if (a3.length:Int) < 1 then some (.inl false) else if 16 < (a3.length:Int) then some (.inl false) else (gI a3 0).bind λAb=>if (Ab.length:Int) < 1 then some (.inl false) else if 16 < (Ab.length:Int) then some (.inl false) else some<|.inr ()):Option (Bool ⊕ Unit)).bind (λex=>match ex with | .inl Ac=>(some Ac) | .inr _=>(iter (λs=>Atf fuel a3 s) fuel 0).bind (λex=>match ex with | .inl Ad=>(some Ad) | .inr _=>some true))
theorem Avm (H2:Ajx (cI .i64) h Ao a3) (hp:Apq fuel a3=some r):Ahq Tryz.prog 98 #[Ao] h (λx h'=>Ext h h'/\x= .bool r):=by
 unfold Apq at hp;refine cwf (l:=[_]) Tryz.func98 rfl rfl (AOv<|AO1 ?_);have K0:=Kst.k0 h;obtain ⟨Az,Ap,Ac⟩:=AOw hp;refine Aqt 134217700 (λx:Unit=>[]) (λx h'=>(Sum.inr <| ())=Az/\Kst h h' (K0.L)) ?_ ?_
 ·refine AOv<|AOr<|Ahw APa rfl H2 (Aho rfl rfl (AOr ?_));by_cases Af:(a3.length:Int) < 1
  ·rw [decide_eq_true Af];refine Alb 8 true<|Ag7 rfl (AOr<|Ald 13 true<|Ag7 rfl (AOr<|Ald 20 true<|Ag7 rfl (AOz<|Ahn rfl (AOv<|AO1 ?_))));obtain rfl:=AOu<|ifT Ap Af;refine AO6<|Ag9 ?_;obtain rfl:=AOu Ac;exact ⟨_,AO7,K0.x,rfl⟩
  ·have Aq:=ifF Ap Af;rw [decide_eq_false Af];refine Ag8 8 false<|AOr<|Ag8 8 false<|Ahw APa rfl H2 (Ag8 8 false<|An0 rfl rfl (APb rfl (AOr ?_)));by_cases Ag:16 < (a3.length:Int)
   ·rw [decide_eq_true Ag];refine Ald 13 true<|Ag7 rfl (AOr<|Ald 20 true<|Ag7 rfl (AOz<|Ahn rfl (AOv<|AO1 ?_)));obtain rfl:=AOu<|ifT Aq Ag;refine AO6<|Ag9 ?_;obtain rfl:=AOu Ac;exact ⟨_,AO7,K0.x,rfl⟩
   ·rw [decide_eq_false Ag];refine Ag8 13 false<|AOr<|Ag8 13 false ?_;obtain ⟨A3,Ar,Au⟩:=AOw<|ifF Aq Ag;refine Az6 APa rfl H2 rfl Ar λBf Bg Bh A4 A5=>Ag8 13 false<|Aht Ahb rfl (AO8 A4 K0.x) (Ag8 13 false<|Aio APd rfl A5 (Ag8 13 false<|Aho rfl rfl (APb rfl (AOr ?_))));by_cases Ah:(A3.length:Int) < 1
    ·rw [decide_eq_true Ah];refine Ald 20 true<|Ag7 rfl (AOz<|Ahn rfl (AOv<|AO1 ?_));obtain rfl:=AOu<|ifT Au Ah;refine AO6<|Ag9 ?_;obtain rfl:=AOu Ac;exact ⟨_,AO7,K0.x,rfl⟩
    ·have Av:=ifF Au Ah;rw [decide_eq_false Ah];refine Ag8 20 false<|AOr<|Ag8 20 false<|Az6 APa rfl H2 rfl Ar λBi Bj Bl A6 A7=>Ag8 20 false<|Aht Ahb rfl (AO8 A6 K0.x) (Ag8 20 false<|Aio APd rfl A7 (Ag8 20 false<|An0 rfl rfl (APb rfl (AOz<|⟨_,rfl,λAi=>?_,λAi=>?_⟩))))
     ·refine AOv<|AO1 ?_;obtain rfl:=AOu<|Ahx Av Ai;refine AO6<|Ag9 ?_;obtain rfl:=AOu Ac;exact ⟨_,AO7,K0.x,rfl⟩
     ·refine AO4<|q_t ?_;exact ⟨(():Unit),⟨AOu<|Ahy Av Ai,K0⟩,trivial⟩
 rintro ⟨⟩ Bm Bn ⟨A8,Aw⟩;subst A8;refine AOx<|AOv<|AOr<|Ahw APa rfl H2 (AOr<|AOz<|AO0<|Aqu 2198486384660 Ac (λx=>[(29,(.int .i64 x))]) (λx=>Aw.L) Aw ⟨rfl,trivial⟩ ?_);rintro Bo Bp Bq Br Ad Aj Ax;unfold Atf at Aj;refine AOv<|Aho rfl rfl (AOz<|AOx<|⟨_,rfl,λAk=>?_,λAk=>?_⟩)
 ·refine AO4<|q_t<|AOx<|AO0<|AOv ?_;obtain ⟨Bt,A9,Ba⟩:=AOw<|Ahx Aj Ak;refine An4 APa Ahb H2 Ad.x A9 λ_ Bu Bb=>Ah4<|AOr<|Aio APd rfl Bb (AOr ?_);obtain ⟨Bv,Bc,Ay⟩:=AOw Ba;refine An4 APa Ahb H2 Ad.x Bc λ_ Bw Be=>Aio APd rfl Be (Ajq rfl rfl (AOz<|⟨_,rfl,λAm=>?_,λAm=>?_⟩))
  ·refine AOv<|AO1<|AO6<|Aiq<|Ag9<|Ag9<|Aiq<|Ag9 ?_;obtain rfl:=AOu<|Ax _ (AOu<|Ahx Ay Am).symm;exact ⟨_,AO7,Ad.x,rfl⟩
  ·refine AO4<|q_b<|q_t<|Ag6<|Ahp rfl rfl (AOr<|AOz ?_);exact ⟨_,(AOu<|Ahy Ay Am).symm,Ad,rfl,trivial⟩
 ·refine Ahf<|Ahg<|Ahg<|Aim<|q_t<|AOv<|AO1<|AO6 ?_;obtain rfl:=AOu<|Ax _ (AOu<|Ahy Aj Ak).symm;exact ⟨_,AO7,Ad.x,rfl⟩
def Atq (fuel:Nat) (a3:LiI):Option Bool:=
 (Apq fuel a3).bind λx5=>if x5=true then (gI a3 0).bind λAc=>if (a3.length:Int)=(Ac.length:Int) then some (decide ((a3.length:Int)<=8)) else some false else some false
theorem A33 {Ae:Value} (H2:Ajx (cI .i64) h Ae a3) (hp:Atq fuel a3=some r):Ahq Tryz.prog 137 #[Ae] h (λx h'=>Ext h h'/\x= .bool r):=by
 unfold Atq at hp;refine cwf (l:=[_]) Tryz.func137 rfl rfl (AOv<|Ah4<|AOr ?_);have K0:=Kst.k0 h;obtain ⟨x5,Ak,Ag⟩:=AOw hp;refine Aj5 K0 (Avm (H2.ext K0.x) Ak) λh9 E8 Ab=>AOr ?_;cases Ah:x5
 ·refine Ald 5 false<|Aol 5 false<|APb rfl (AOr<|Alb 14 false<|APb rfl (AO1<|AO6 ?_));obtain rfl:=AOu<|Aoy Ag Ah;exact ⟨_,AO7,Ab.x,rfl⟩
 ·refine Ag8 5 true<|AOr<|Ag8 5 true<|Ahw APa rfl H2 (Ag8 5 true<|AOr<|Ag8 5 true ?_);obtain ⟨Am,Ao,Ai⟩:=AOw<|ifT Ag Ah;refine Az6 APa rfl H2 rfl Ao λAv Aw Ax Ap Aq=>Ag8 5 true<|Aht Ahb rfl (AO8 Ap Ab.x) (Ag8 5 true<|Aio APd rfl Aq (Ag8 5 true<|Aiy rfl rfl (Ag7 rfl (AOr ?_))));by_cases Ac:(a3.length:Int)=(Am.length:Int)
  ·rw [decide_eq_true Ac];refine Ag8 14 true<|AOr<|Ag8 14 true<|Ahw APa rfl H2 (Ag8 14 true<|A3s rfl rfl (Ag7 rfl (AO1<|AO6 ?_)));obtain rfl:=AOu<|ifT Ai Ac;exact ⟨_,AO7,Ab.x,rfl⟩
  ·rw [decide_eq_false Ac];refine Alb 14 false<|APb rfl (AO1<|AO6 ?_);obtain rfl:=AOu<|ifF Ai Ac;exact ⟨_,AO7,Ab.x,rfl⟩
def Aj2 (fuel:Nat) (a1:Int):Option Int:=
 if a1 < 2 then some 1 else if 2147483647 < a1 then some 1 else some 0
theorem Au1 {r:Int} (hp:Aj2 fuel a1=some r):Ahq Tryz.prog 99 #[(.int .i64 a1)] h (λx h'=>Ext h h'/\x= .int .i64 r):=by
 unfold Aj2 at hp;refine cwf (l:=[_]) Tryz.func99 rfl rfl (AOv<|AO1<|AOx<|AOv<|AOr<|Aho rfl rfl (AOr ?_));have K0:=Kst.k0 h;by_cases Aa:a1 < 2
 ·rw [decide_eq_true Aa];refine Aol 5 true<|Ag7 rfl (AOz<|Ahn rfl (AOv<|AO1<|AO6<|Ag9 ?_));obtain rfl:=AOu<|ifT hp Aa;exact ⟨_,AO7,K0.x,rfl⟩
 ·have Ae:=ifF hp Aa;rw [decide_eq_false Aa];refine Ag8 5 false<|AOr<|Ag8 5 false<|An0 rfl rfl (APb rfl (AOz<|⟨_,rfl,λAd=>?_,λAd=>?_⟩))
  ·refine AOv<|AO1<|AO6<|Ag9 ?_;obtain rfl:=AOu<|Ahx Ae Ad;exact ⟨_,AO7,K0.x,rfl⟩
  ·refine AO4<|q_t<|AOv<|AO1<|AO6 ?_;obtain rfl:=AOu<|Ahy Ae Ad;exact ⟨_,AO7,K0.x,rfl⟩
def Aqq (fuel:Nat) (a5 Ad:Int) (Ae:LiA) (Ab:Int) (Ac:LiI):Option ((Int × LiI) ⊕ LiI):=
 if Ab < (Ae.length:Int) then (gI Ae Ab).bind λAg=>(gI Ac Ad).bind λAf=>if a5≠0 then if a5≠0 then (gI Af Ab).bind λAh=>some (.inl (w64<|Ab + 1,sI Ac Ad<|sI Af Ab<|Int.tmod (w64<|Int.tmod Ag a5 + a5) a5)) else none else none else some<|.inr Ac
def Aqr (fuel:Nat) (a3:LiI) (a5 Aa:Int) (Ac:LiI):Option ((Int × LiI) ⊕ LiI):=
 if Aa < (a3.length:Int) then (gI a3 Aa).bind λAb=>if 0<=(Ab.length:Int)/\(Ab.length:Int)<=100000000 then (gI Ac Aa).bind λAg=>(iter (λs=>Aqq fuel a5 Aa Ab s.1 s.2) fuel (0,sI Ac Aa<|List.replicate (Int.toNat (Ab.length:Int)) (0:Int))).bind (λ(Af:LiI)=>some<|.inl (w64<|Aa + 1,Af)) else none else some<|.inr Ac
def Ann (fuel:Nat) (a3:LiI) (a5:Int):Option LiI:=
 if 0<=(a3.length:Int)/\(a3.length:Int)<=100000000 then (iter (λs=>Aqr fuel a3 a5 s.1 s.2) fuel (0,List.replicate (Int.toNat (a3.length:Int)) ([]:List Int))).bind (λ(Ac:LiI)=>some Ac) else none
theorem At0 {r:LiI} (H2:Ajx (cI .i64) h Ao a3) (hp:Ann fuel a3 a5=some r):Ahq Tryz.prog 100 #[Ao,(.int .i64 a5)] h (λx h'=>Ext h h'/\ ∃ (x0:Value) (F0:List Nat) (A3:List LnA) (A4:List Value),x=x0/\Aj0 (cI .i64) 61 2 h' F0 A3 A4 x0 r/\Sp h' h.size [F0]):=by
 unfold Ann at hp;refine cwf (l:=[_,_]) Tryz.func100 rfl rfl (AOv<|Ah4<|AOr<|Ahw APa rfl H2 ?_);obtain ⟨A5,A6⟩:=ifN hp;refine Azg (cI .i64) 2 APa Atu rfl trivial tt2 rfl rfl AOs A5 λA7 A8 A9 Au Ce Ba E8 S9=>AO1<|AOx<|AOv<|AOr<|Ahw APa rfl H2 (AOr<|AOz<|AO0 ?_);have Av:=(Kst.k0 h).no2 E8 S9 Ba;refine Anb 281474976678848 (λx:(Int) × (LiI) × LnA × LnN × LvA=>(x.1,x.2.1)) ((0,(List.replicate (Int.toNat (a3.length:Int)) ([]:List Int)),A7,A8,A9):(Int) × (LiI) × LnA × LnN × LvA) A6 (λx=>[(15,(.int .i64 x.1))]) (λx=>Av.L.set 0<|aO2 (cI .i64) 61 2 x.2.2.1 x.2.2.2.1 x.2.2.2.2 Au x.2.1) Av ⟨rfl,trivial⟩ ?_;rintro ⟨Aa,Be,Cf,Aw,Bf⟩ Cg Ch Ci Ab Ag Bg;unfold Aqr at Ag;refine AOv<|Aho rfl rfl (AOz<|AOx<|⟨_,rfl,λAh=>?_,λAh=>?_⟩)
 ·refine AO4<|q_t<|AOx<|AO0<|AOv<|AOr ?_;obtain ⟨Bh,Bi,Bj⟩:=AOw<|Ahx Ag Ah;refine An4 APa Ahb H2 Ab.x Bi λ_ Cj Ai=>Ahl<|Ah4<|AOr<|AOr<|AOr<|Aio APd rfl Ai ?_;obtain ⟨Bl,Bm⟩:=ifN Bj;refine Axl (c:=(cI .i64)) (a:=0) APd Arq rfl rfl (λ_=>rfl) rfl trivial tt2 rfl rfl AOs Bl λAx Bn Ck Bo Bp Bq Br=>?_;have Ac:=Ab.no Bp (Anx Bq Br) Bo;obtain ⟨Cm,Ay,Bt⟩:=AOw Bm;refine Aii APa rfl (Ac.o2 p1) rfl Ay λBu Cn Bv Co Cp=>Az7 Ahb (Ac.o2 p1) Ay Bv rfl rfl (Ac.o p0) (Ac.dj p0 p1 AOs) λCq Bw Bx By=>Apu<|AOr<|Aio APd rfl Ai (AOr<|AOz<|AO0 ?_);have Aj:=(Ac.m2 p0 p1 AOs Bx Bw λz hz=> .inl<|By z hz).sel [1] AOs;dsimp only [Apc,As8] at Aj;refine Anb 140737219920640 (λx:(Int) × (LiI) × LnA × LnN × LvA=>(x.1,x.2.1)) ((0,(sI Be Aa<|List.replicate (Int.toNat (Bh.length:Int)) (0:Int)),(Bu :: (Aw.set (Int.toNat Aa) [Ax]).flatten),(Aw.set (Int.toNat Aa) [Ax]),(Bf.set (Int.toNat Aa) Bn)):(Int) × (LiI) × LnA × LnN × LvA) Bt (λx=>[(28,(.int .i64 x.1))]) (λx=>Aj.L.set 0<|aO2 (cI .i64) 61 2 x.2.2.1 x.2.2.2.1 x.2.2.2.2 Au x.2.1) Aj ⟨rfl,trivial⟩ ?_;rintro ⟨Cr,Ct,Cu,Cv,Cw⟩ Cx Cy Cz Ad Ak Bz;unfold Aqq at Ak;refine AOv<|Aho rfl rfl (AOz<|AOx<|⟨_,rfl,λAm=>?_,λAm=>?_⟩)
  ·refine AO4<|q_t<|AOx<|AO0<|AOv<|AOr ?_;obtain ⟨C0,B1,B3⟩:=AOw<|Ahx Ak Am;refine A1l APd AO9 Ai Ad.x B1 λ_=>(Ahl<|AO1<|Ana<|AOr<|AOr ?_);obtain ⟨C1,Az,B4⟩:=AOw B3;refine Ai2 APa Ahb (Ad.o2 p0) Az λ_ C2 B5=>AOr<|AOr<|AOr ?_;obtain ⟨B6,B7⟩:=ifN B4;refine Ajh rfl rfl B6 (AOr<|Ahp rfl rfl (AOr ?_));obtain ⟨B8,B9⟩:=ifN B7;refine Ajh rfl rfl B8 ?_;obtain ⟨C3,Ca,Cb⟩:=AOw B9;refine As1 (m:=Aa) Ad p0 APd AO9 B5 Az Ca (λ_=>rfl) λ_ C4 Cd=>Ahh<|q_b<|q_t<|Ag6<|Ahp rfl rfl (AOr<|AOz ?_);exact ⟨(_,_,_,_,_),(AOu Cb).symm,Cd,rfl,trivial⟩
  ·refine Ahf<|Ahg<|Ahg<|Aim<|q_b<|q_t<|Ag6<|Ahp rfl rfl (AOr<|AOz ?_);exact ⟨(_,_,_,_,_),(AOu<|Bz _ (AOu<|Ahy Ak Am).symm).symm,Ad,rfl,trivial⟩
 ·refine Ahf<|Ahg<|Ahg<|Aim<|q_t<|AOv<|AOr<|AO1<|AO6 ?_;obtain rfl:=AOu<|Bg _ (AOu<|Ahy Ag Ah).symm;exact ⟨_,AO7,Ab.x,_,_,_,_,rfl,(Ab.o2 p0),Ab.s.sel [0] AOs⟩
def Ap9 (fuel:Nat) (a3:LiI) (Ab Aa:Int) (Ac:LiI):Option ((Int × LiI) ⊕ LiI):=
 if Aa < (a3.length:Int) then (gI a3 Aa).bind λAf=>(gI Ac Ab).bind λAe=>(gI Af Ab).bind λAg=>(gI Ae Aa).bind λAh=>some (.inl (w64<|Aa + 1,sI Ac Ab<|sI Ae Aa Ag)) else some<|.inr Ac
def Aqa (fuel:Nat) (a3:LiI) (x5:LiA) (Aa:Int) (Ac:LiI):Option ((Int × LiI) ⊕ LiI):=
 if Aa < ((List.replicate (Int.toNat (x5.length:Int)) ([]:List Int)).length:Int) then if 0<=(a3.length:Int)/\(a3.length:Int)<=100000000 then (gI Ac Aa).bind λAf=>(iter (λs=>Ap9 fuel a3 Aa s.1 s.2) fuel (0,sI Ac Aa<|List.replicate (Int.toNat (a3.length:Int)) (0:Int))).bind (λ(Ae:LiI)=>some<|.inl (w64<|Aa + 1,Ae)) else none else some<|.inr Ac
def Ap1 (fuel:Nat) (a3:LiI):Option LiI:=
 (gI a3 0).bind λx5=>if 0<=(x5.length:Int)/\(x5.length:Int)<=100000000 then (iter (λs=>Aqa fuel a3 x5 s.1 s.2) fuel (0,List.replicate (Int.toNat (x5.length:Int)) ([]:List Int))).bind (λ(Ac:LiI)=>some Ac) else none
theorem A1f {r:LiI} (H2:Ajx (cI .i64) h Ao a3) (hp:Ap1 fuel a3=some r):Ahq Tryz.prog 140 #[Ao] h (λx h'=>Ext h h'/\ ∃ (x0:Value) (F0:List Nat) (Az:List LnA) (A3:List Value),x=x0/\Aj0 (cI .i64) 61 2 h' F0 Az A3 x0 r/\Sp h' h.size [F0]):=by
 unfold Ap1 at hp;refine cwf (l:=[_]) Tryz.func140 rfl rfl (AOv<|Ah4<|AOr ?_);have K0:=Kst.k0 h;obtain ⟨x5,A5,A6⟩:=AOw hp;refine An4 APa Ahb H2 K0.x A5 λ_ r8 H9=>Aio APd rfl H9 ?_;obtain ⟨A8,A9⟩:=ifN A6;refine Azg (cI .i64) 2 APa Atu rfl trivial tt2 rfl rfl AOs A8 λBa Bb Bc Au Ce Be Bf Bg=>AO1<|AOx<|AOv<|AOr ?_;have Ag:=K0.no2 Bf Bg Be;refine Ahw APa rfl (Ag.o2 p0).rd (AOr<|AOz<|AO0<|Anb 4398046494832 (λx:(Int) × (LiI) × LnA × LnN × LvA=>(x.1,x.2.1)) ((0,(List.replicate (Int.toNat (x5.length:Int)) ([]:List Int)),Ba,Bb,Bc):(Int) × (LiI) × LnA × LnN × LvA) A9 (λx=>[(14,(.int .i64 x.1))]) (λx=>Ag.L.set 0<|aO2 (cI .i64) 61 2 x.2.2.1 x.2.2.2.1 x.2.2.2.2 Au x.2.1) Ag ⟨rfl,trivial⟩ ?_);rintro ⟨Aa,Bh,Cf,Av,Bi⟩ Cg Ch Ci Ae Ah Bj;unfold Aqa at Ah;refine AOv<|Aho rfl rfl (AOz<|AOx<|⟨_,rfl,λAi=>?_,λAi=>?_⟩)
 ·refine AO4<|q_t<|AOx<|AO0<|AOv<|AOr<|Ah4<|AOr<|AOr<|AOr<|Ahw APa rfl H2 ?_;obtain ⟨Bl,Bm⟩:=ifN<|Ahx Ah Ai;refine Axl (c:=(cI .i64)) (a:=0) APd Arq rfl rfl (λ_=>rfl) rfl trivial tt2 rfl rfl AOs Bl λAw Bn Cj Bo Bp Bq Br=>?_;have Ab:=Ae.no Bp (Anx Bq Br) Bo;obtain ⟨Ck,Ax,Bt⟩:=AOw Bm;refine Aii APa rfl (Ab.o2 p1) rfl Ax λBu Cm Bv Cn Co=>Az7 Ahb (Ab.o2 p1) Ax Bv rfl rfl (Ab.o p0) (Ab.dj p0 p1 AOs) λCp Bw Bx By=>Apu<|AOr<|Ahw APa rfl H2 (AOr<|AOz<|AO0 ?_);have Aj:=(Ab.m2 p0 p1 AOs Bx Bw λz hz=> .inl<|By z hz).sel [1] AOs;dsimp only [Apc,As8] at Aj;refine Anb 2198989701216 (λx:(Int) × (LiI) × LnA × LnN × LvA=>(x.1,x.2.1)) ((0,(sI Bh Aa<|List.replicate (Int.toNat (a3.length:Int)) (0:Int)),(Bu :: (Av.set (Int.toNat Aa) [Aw]).flatten),(Av.set (Int.toNat Aa) [Aw]),(Bi.set (Int.toNat Aa) Bn)):(Int) × (LiI) × LnA × LnN × LvA) Bt (λx=>[(25,(.int .i64 x.1))]) (λx=>Aj.L.set 0<|aO2 (cI .i64) 61 2 x.2.2.1 x.2.2.2.1 x.2.2.2.2 Au x.2.1) Aj ⟨rfl,trivial⟩ ?_;rintro ⟨Cq,Cr,Ct,Cu,Cv⟩ Cw Cx Cy Ac Ak Bz;unfold Ap9 at Ak;refine AOv<|Aho rfl rfl (AOz<|AOx<|⟨_,rfl,λAm=>?_,λAm=>?_⟩)
  ·refine AO4<|q_t<|AOx<|AO0<|AOv<|AOr ?_;obtain ⟨Cz,B1,B3⟩:=AOw<|Ahx Ak Am;refine An4 APa Ahb H2 Ac.x B1 λ_ C0 B4=>Ahl<|AO1<|Ana<|AOr<|AOr ?_;obtain ⟨C1,Ay,B5⟩:=AOw B3;refine Ai2 APa Ahb (Ac.o2 p0) Ay λ_ C2 B6=>AOr<|AOr<|AOr ?_;obtain ⟨C3,B7,B8⟩:=AOw B5;refine A1l APd AO9 B4 Ac.x B7 λ_=>?_;obtain ⟨C4,B9,Ca⟩:=AOw B8;refine As1 (m:=Aa) Ac p0 APd AO9 B6 Ay B9 (λ_=>rfl) λ_ C5 Cb=>Ahh<|q_b<|q_t<|Ag6<|Ahp rfl rfl (AOr<|AOz ?_);exact ⟨(_,_,_,_,_),(AOu Ca).symm,Cb,rfl,trivial⟩
  ·refine Ahf<|Ahg<|Ahg<|Aim<|q_b<|q_t<|Ag6<|Ahp rfl rfl (AOr<|AOz ?_);exact ⟨(_,_,_,_,_),(AOu<|Bz _ (AOu<|Ahy Ak Am).symm).symm,Ac,rfl,trivial⟩
 ·refine Ahf<|Ahg<|Ahg<|Aim<|q_t<|AOv<|AOr<|AO1<|AO6 ?_;obtain rfl:=AOu<|Bj _ (AOu<|Ahy Ah Ai).symm;exact ⟨_,AO7,Ae.x,_,_,_,_,rfl,(Ae.o2 p0),Ae.s.sel [0] AOs⟩
def Ark (fuel:Nat) (a9 Ad Ag:Int) (Ae:LiA) (Aa:Int) (Ab:LiI):Option ((Int × LiI) ⊕ LiI):=
 if Aa < (Ae.length:Int) then (gI Ae Aa).bind λAh=>(gI Ab Ad).bind λAf=>(gI Af Aa).bind λAi=>if a9≠0 then some (.inl (w64<|Aa + 1,sI Ab Ad<|sI Af Aa<|Int.tmod (w64<|Ai + w64 (Ag * Ah)) a9)) else none else some<|.inr Ab
def Arl (fuel:Nat) (a7:LiI) (a9 Af:Int) (Ab:LiA) (Aa:Int) (Ac:LiI):Option ((Int × LiI) ⊕ LiI):=
 if Aa < (Ab.length:Int) then (gI Ab Aa).bind λAg=>(gI a7 Aa).bind λAh=>(iter (λs=>Ark fuel a9 Af Ag Ah s.1 s.2) fuel (0,Ac)).bind (λ(Ai:LiI)=>some<|.inl (w64<|Aa + 1,Ai)) else some<|.inr Ac
def Arm (fuel:Nat) (a3 a7:LiI) (a9 Aa:Int) (Ab:LiI):Option ((Int × LiI) ⊕ LiI):=
 if Aa < (a3.length:Int) then (gI a3 Aa).bind λAg=>(gI a7 0).bind λAc=>if 0<=(Ac.length:Int)/\(Ac.length:Int)<=100000000 then (gI Ab Aa).bind λAi=>(iter (λs=>Arl fuel a7 a9 Aa Ag s.1 s.2) fuel (0,sI Ab Aa<|List.replicate (Int.toNat (Ac.length:Int)) (0:Int))).bind (λ(Ah:LiI)=>some<|.inl (w64<|Aa + 1,Ah)) else none else some<|.inr Ab
def Apj (fuel:Nat) (a3 a7:LiI) (a9:Int):Option LiI:=
 if 0<=(a3.length:Int)/\(a3.length:Int)<=100000000 then (iter (λs=>Arm fuel a3 a7 a9 s.1 s.2) fuel (0,List.replicate (Int.toNat (a3.length:Int)) ([]:List Int))).bind (λ(Ad:LiI)=>some Ad) else none
theorem Axc {Au:Value} {Av:Value} {a7:LiI} {a9:Int} {r:LiI} (H2:Ajx (cI .i64) h Au a3) (H6:Ajx (cI .i64) h Av a7) (hp:Apj fuel a3 a7 a9=some r):Ahq Tryz.prog 139 #[Au,Av,(.int .i64 a9)] h (λx h'=>Ext h h'/\ ∃ (x0:Value) (F0:List Nat) (Bb:List LnA) (Bc:List Value),x=x0/\Aj0 (cI .i64) 61 2 h' F0 Bb Bc x0 r/\Sp h' h.size [F0]):=by
 unfold Apj at hp;refine cwf (l:=[_,_,_]) Tryz.func139 rfl rfl (AOv<|Ah4<|AOr<|Ahw APa rfl H2 ?_);obtain ⟨Be,Bf⟩:=ifN hp;refine Azg (cI .i64) 2 APa Atu rfl trivial tt2 rfl rfl AOs Be λBg Bh Bi Ai Cy Bj Bl Bm=>AO1<|AOx<|AOv<|AOr<|Ahw APa rfl H2 (AOr<|AOz<|AO0 ?_);have A4:=(Kst.k0 h).no2 Bl Bm Bj;refine Anb 2361183241434822098688 (λx:(Int) × (LiI) × LnA × LnN × LvA=>(x.1,x.2.1)) ((0,(List.replicate (Int.toNat (a3.length:Int)) ([]:List Int)),Bg,Bh,Bi):(Int) × (LiI) × LnA × LnN × LvA) Bf (λx=>[(19,(.int .i64 x.1))]) (λx=>A4.L.set 0<|aO2 (cI .i64) 61 2 x.2.2.1 x.2.2.2.1 x.2.2.2.2 Ai x.2.1) A4 ⟨rfl,trivial⟩ ?_;rintro ⟨Aa,Bn,Cz,A5,Bo⟩ C0 C1 C2 Ab Aj Bp;unfold Arm at Aj;refine AOv<|Aho rfl rfl (AOz<|AOx<|⟨_,rfl,λAk=>?_,λAk=>?_⟩)
 ·refine AO4<|q_t<|AOx<|AO0<|AOv<|AOr ?_;obtain ⟨C3,Bq,Br⟩:=AOw<|Ahx Aj Ak;refine An4 APa Ahb H2 Ab.x Bq λ_ C4 A6=>Ahl<|Ah4<|AOr<|AOr<|AOr ?_;obtain ⟨Bt,Bu,Bv⟩:=AOw Br;refine An4 APa Ahb H6 Ab.x Bu λ_ C5 Bw=>Aio APd rfl Bw ?_;obtain ⟨Bx,By⟩:=ifN Bv;refine Axl (c:=(cI .i64)) (a:=0) APd Arq rfl rfl (λ_=>rfl) rfl trivial tt2 rfl rfl AOs Bx λA7 Bz C6 B1 B3 B4 B5=>?_;have Ad:=Ab.no B3 (Anx B4 B5) B1;obtain ⟨C7,A8,B6⟩:=AOw By;refine Aii APa rfl (Ad.o2 p1) rfl A8 λB7 C8 B8 C9 Da=>Az7 Ahb (Ad.o2 p1) A8 B8 rfl rfl (Ad.o p0) (Ad.dj p0 p1 AOs) λDb B9 Ca Cb=>Apu<|AOr<|Aio APd rfl A6 (AOr<|AOz<|AO0 ?_);have Am:=(Ad.m2 p0 p1 AOs Ca B9 λz hz=> .inl<|Cb z hz).sel [1] AOs;dsimp only [Apc,As8] at Am;refine Anb 1180591620700231449600 (λx:(Int) × (LiI) × LnA × LnN × LvA=>(x.1,x.2.1)) ((0,(sI Bn Aa<|List.replicate (Int.toNat (Bt.length:Int)) (0:Int)),(B7 :: (A5.set (Int.toNat Aa) [A7]).flatten),(A5.set (Int.toNat Aa) [A7]),(Bo.set (Int.toNat Aa) Bz)):(Int) × (LiI) × LnA × LnN × LvA) B6 (λx=>[(34,(.int .i64 x.1))]) (λx=>Am.L.set 0<|aO2 (cI .i64) 61 2 x.2.2.1 x.2.2.2.1 x.2.2.2.2 Ai x.2.1) Am ⟨rfl,trivial⟩ ?_;rintro ⟨Dc,Cd,Ce,Cf,Cg⟩ Dd De Df Ae Ao Ch;unfold Arl at Ao;refine AOv<|Aho rfl rfl (AOz<|AOx<|⟨_,rfl,λAp=>?_,λAp=>?_⟩)
  ·refine AO4<|q_t<|AOx<|AO0<|AOv<|AOr ?_;obtain ⟨Dg,Ci,Cj⟩:=AOw<|Ahx Ao Ap;refine A1l APd AO9 A6 Ae.x Ci λ_=>(Ahl<|Ah4<|AOr<|AOr ?_);obtain ⟨Dh,Ck,Cm⟩:=AOw Cj;refine An4 APa Ahb H6 Ae.x Ck λ_ Di A9=>Aio APd rfl A9 (AOr<|AOz<|AO0<|Anb 590295792766519619584 (λx:(Int) × (LiI) × LnA × LnN × LvA=>(x.1,x.2.1)) ((0,Cd,Ce,Cf,Cg):(Int) × (LiI) × LnA × LnN × LvA) Cm (λx=>[(44,(.int .i64 x.1))]) (λx=>Ae.L.set 0<|aO2 (cI .i64) 61 2 x.2.2.1 x.2.2.2.1 x.2.2.2.2 Ai x.2.1) Ae ⟨rfl,trivial⟩ ?_);rintro ⟨Dj,Dk,Dl,Do,Dp⟩ Dq Dr Ds Ac Aq Cn;unfold Ark at Aq;refine AOv<|Aho rfl rfl (AOz<|AOx<|⟨_,rfl,λAr=>?_,λAr=>?_⟩)
   ·refine AO4<|q_t<|AOx<|AO0<|AOv<|AOr ?_;obtain ⟨Dt,Co,Cp⟩:=AOw<|Ahx Aq Ar;refine A1l APd AO9 A9 Ac.x Co λ_=>(Ahl<|AO1<|Ana<|AOr<|AOr ?_);obtain ⟨Du,Af,Cq⟩:=AOw Cp;refine Ai2 APa Ahb (Ac.o2 p0) Af λ_ Dv Cr=>AOr<|AOr<|AOr<|Ai2 APa Ahb (Ac.o2 p0) Af λ_ Dw Ct=>AOr ?_;obtain ⟨Dx,Ba,Cu⟩:=AOw Cq;refine At4 (m:=Aa) APd AO9 (Ac.o2 p0) Ct Af Ba λ_=>(AOr<|AOr<|Aok rfl rfl (Ahp rfl rfl (AOr ?_)));obtain ⟨Cv,Cw⟩:=ifN Cu;refine Ajh rfl rfl Cv (As1 (m:=Aa) Ac p0 APd AO9 Cr Af Ba (λ_=>rfl) λ_ Dy Cx=>Ahh<|q_b<|q_t<|Ag6<|Ahp rfl rfl (AOr<|AOz ?_));exact ⟨(_,_,_,_,_),(AOu Cw).symm,Cx,rfl,trivial⟩
   ·refine Ahf<|Ahg<|Ahg<|Aim<|q_b<|q_t<|Ag6<|Ahp rfl rfl (AOr<|AOz ?_);exact ⟨(_,_,_,_,_),(AOu<|Cn _ (AOu<|Ahy Aq Ar).symm).symm,Ac,rfl,trivial⟩
  ·refine Ahf<|Ahg<|Ahg<|Aim<|q_b<|q_t<|Ag6<|Ahp rfl rfl (AOr<|AOz ?_);exact ⟨(_,_,_,_,_),(AOu<|Ch _ (AOu<|Ahy Ao Ap).symm).symm,Ae,rfl,trivial⟩
 ·refine Ahf<|Ahg<|Ahg<|Aim<|q_t<|AOv<|AOr<|AO1<|AO6 ?_;obtain rfl:=AOu<|Bp _ (AOu<|Ahy Aj Ak).symm;exact ⟨_,AO7,Ab.x,_,_,_,_,rfl,(Ab.o2 p0),Ab.s.sel [0] AOs⟩
def Ao9 (fuel:Nat) (a3 a7:LiI) (a9:Int):Option (LiI × Int):=
 (((Apq fuel a3).bind λAf=>if (!Af)=true then some (.inl ([],3)) else (Apq fuel a7).bind λAg=>if (!Ag)=true then some (.inl ([],3)) else (gI a3 0).bind λAh=>if ¬ (a3.length:Int)=(Ah.length:Int) then some (.inl ([],3)) else if ¬ (a7.length:Int)=(a3.length:Int) then some (.inl ([],3)) else some<|.inr ()):Option ((LiI × Int) ⊕ Unit)).bind (λex=>match ex with | .inl Ai=>(some Ai) | .inr _=>(Aj2 fuel a9).bind λAd=>if ¬ Ad=0 then some ([],Ad) else (Ann fuel a7 a9).bind λAe=>(Ap1 fuel Ae).bind λAj=>(Ann fuel a3 a9).bind λAk=>(Apj fuel Ak Ae a9).bind λAm=>(Apj fuel Aj Am a9).bind λAo=>some (Ao,0))
theorem A0n {Ay:Value} {a7:LiI} {a9:Int} {r:(LiI × Int)} (H2:Ajx (cI .i64) h Ax a3) (H6:Ajx (cI .i64) h Ay a7) (hp:Ao9 fuel a3 a7 a9=some r):Ahq Tryz.prog 86 #[Ax,Ay,(.int .i64 a9)] h (λx h'=>Ext h h'/\ ∃ (x0:Value) (F0:List Nat) (Bg:List LnA) (Bh:List Value),x= .tuple #[x0,.int .i64 r.2]/\Aj0 (cI .i64) 61 2 h' F0 Bg Bh x0 r.1/\Sp h' h.size [F0]):=by
 unfold Ao9 at hp;refine cwf (l:=[_,_,_]) Tryz.func86 rfl rfl (AOv<|Ahl<|AO1 ?_);have K0:=Kst.k0 h;obtain ⟨Bi,Bj,Ab⟩:=AOw hp;refine Aqt 17179868352 (λx:Unit=>[]) (λx h'=>(Sum.inr <| ())=Bi/\Kst h h' (K0.L)) ?_ ?_
 ·refine AOv<|AOr ?_;obtain ⟨Bl,Bm,A6⟩:=AOw Bj;refine Aj5 K0 (Avm (H2.ext K0.x) Bm) λB9 Ca Ah=>Akg rfl (AOr ?_);cases A7:(!Bl)
  ·refine Ag8 13 false<|AOr<|Ag8 13 false ?_;obtain ⟨Bn,Bo,A8⟩:=AOw<|Aoy A6 A7;refine Aj5 Ah (Avm (H6.ext Ah.x) Bo) λCb Cd Ac=>Ag8 13 false<|Akg rfl (APb rfl (AOr ?_));cases A9:(!Bn)
   ·refine Ag8 18 false<|AOr<|Ag8 18 false<|Ahw APa rfl H2 (Ag8 18 false<|AOr<|Ag8 18 false ?_);obtain ⟨Bp,Bq,Ba⟩:=AOw<|Aoy A8 A9;refine Az6 APa rfl H2 rfl Bq λCe Cf Cg Br Bt=>Ag8 18 false<|Aht Ahb rfl (AO8 Br Ac.x) (Ag8 18 false<|Aio APd rfl Bt (Ag8 18 false<|Ajq rfl rfl (APb rfl (AOr ?_))));by_cases Ad: ¬ (a3.length:Int)=(Bp.length:Int)
    ·rw [decide_eq_true Ad];refine Ald 27 true<|Ag7 rfl (AOz<|Ahn rfl (AOv<|Ahl<|AO1 ?_));obtain rfl:=AOu<|ifT Ba Ad;refine AO6<|Ag9 ?_;have Ai:=Kst.anil2 (cI .i64) 61 2 Ac;obtain rfl:=AOu Ab;exact ⟨_,Air,Ai.x,_,_,_,_,rfl,(Ai.o2 p0),Ai.s.sel [0] AOs⟩
    ·have Bb:=ifF Ba Ad;rw [decide_eq_false Ad];refine Ag8 27 false<|AOr<|Ag8 27 false<|Ahw APa rfl H6 (Ag8 27 false<|AOr<|Ag8 27 false<|Ahw APa rfl H2 (Ag8 27 false<|Ajq rfl rfl (APb rfl (AOz<|⟨_,rfl,λAj=>?_,λAj=>?_⟩))))
     ·refine AOv<|Ahl<|AO1 ?_;obtain rfl:=AOu<|Ahx Bb Aj;refine AO6<|Ag9 ?_;have Ak:=Kst.anil2 (cI .i64) 61 2 Ac;obtain rfl:=AOu Ab;exact ⟨_,Air,Ak.x,_,_,_,_,rfl,(Ak.o2 p0),Ak.s.sel [0] AOs⟩
     ·refine AO4<|q_t ?_;exact ⟨(():Unit),⟨AOu<|Ahy Bb Aj,Ac⟩,trivial⟩
   ·refine Ald 18 true<|Aol 18 true<|Ag7 rfl (AOr<|Ald 27 true<|Ag7 rfl (AOz<|Ahn rfl (AOv<|Ahl<|AO1 ?_)));obtain rfl:=AOu<|ifT A8 A9;refine AO6<|Ag9 ?_;have Am:=Kst.anil2 (cI .i64) 61 2 Ac;obtain rfl:=AOu Ab;exact ⟨_,Air,Am.x,_,_,_,_,rfl,(Am.o2 p0),Am.s.sel [0] AOs⟩
  ·refine Alb 13 true<|Ag7 rfl (AOr<|Ald 18 true<|Aol 18 true<|Ag7 rfl (AOr<|Ald 27 true<|Ag7 rfl (AOz<|Ahn rfl (AOv<|Ahl<|AO1 ?_))));obtain rfl:=AOu<|ifT A6 A7;refine AO6<|Ag9 ?_;have Ao:=Kst.anil2 (cI .i64) 61 2 Ah;obtain rfl:=AOu Ab;exact ⟨_,Air,Ao.x,_,_,_,_,rfl,(Ao.o2 p0),Ao.s.sel [0] AOs⟩
 rintro ⟨⟩ Ch Ci ⟨Bu,Bv⟩;subst Bu;refine AOx<|AOv<|AOr ?_;obtain ⟨Cj,Bw,Bc⟩:=AOw Ab;refine Aj5 Bv (Au1 Bw) λCk Cm Ap=>Ah4<|AOr<|Ajq rfl rfl (AOz<|⟨_,rfl,λAq=>?_,λAq=>?_⟩)
 ·refine AOv<|AOr<|Ahl<|AO1<|AO6<|Ag9 ?_;have Ar:=Kst.anil2 (cI .i64) 61 2 Ap;obtain rfl:=AOu<|Ahx Bc Aq;exact ⟨_,Air,Ar.x,_,_,_,_,rfl,(Ar.o2 p0),Ar.s.sel [0] AOs⟩
 ·refine AO4<|q_t<|AOv<|AOr<|AOr ?_;obtain ⟨Cn,Bx,By⟩:=AOw<|Ahy Bc Aq;refine Aus Ap (At0 (H6.ext Ap.x) Bx) λCo Cp Cq Cr Ct Cu Be=>Ah4<|AOr ?_;obtain ⟨Cv,Bz,B1⟩:=AOw By;refine Aus Be (A1f (Be.o2 p0).rd Bz) λCw Cx Cy Cz C0 C1 Bf=>AOr<|AOr ?_;obtain ⟨C2,B3,B4⟩:=AOw B1;refine Aus Bf (At0 (H2.ext Bf.x) B3) λC3 C4 C5 C6 C7 C8 Au=>AOr<|AOr ?_;obtain ⟨C9,B5,B6⟩:=AOw B4;refine Aus Au (Axc (Au.o2 p0).rd (Au.o2 p2).rd B5) λDa Db Dc Dd De Df Av=>AOr ?_;obtain ⟨Dg,B7,B8⟩:=AOw B6;refine Aus Av (Axc (Av.o2 p2).rd (Av.o2 p0).rd B7) λDh Di Dj Dk Dl Do Aw=>Ahl<|AO1<|AO6 ?_;obtain rfl:=AOu B8;exact ⟨_,Air,Aw.x,_,_,_,_,rfl,(Aw.o2 p0),Aw.s.sel [0] AOs⟩
end Go.Proofs.YtkakafabeobahaaGreatDoor
namespace Go.Proofs.YtkakafabeobahaaGreatDoor
open Go Go.QF
set_option maxRecDepth 100000
theorem Amr {β:Type} {L:List α} {n:Nat} {x:α} {f:α->Option β} (hx:L[n]? =some x):(gI L (n:Int)).bind f=f x:=by
 unfold gI;grind
theorem A4z {β:Type} {L:List α} {x:α} {f:α->Option β} (hx:L[0]? =some x):(gI L 0).bind f=f x:=Amr (n:=0) hx
theorem Ah6 (h:i<=1000000000):w64 ((i:Int) + 1)=((i + 1:Nat):Int):=by rw [wk AOq];omega
theorem A8c {n r:Nat} {g':Nat->Int} (h:∀ c,c < n->g c=g' c):part n i (Ajb G r g)=part n i (Ajb G r g'):=by
 unfold part;refine Ai0 λk _=>?_;split
 ·refine Ai0 λc hc=>?_;by_cases hk:k=r
  ·subst hk;rw [Ai3,Ai3,h c hc]
  ·rw [Alp _ _ hk,Alp _ _ hk]
 ·rfl
theorem A40 {n:Nat} (h:∀ c,c < n->g c=F i c):part n (i + 1) (Ajb F i g)=part n (i + 1) F:=by
 rw [A8c h,Avu]
theorem BAt {body:Int × List (List Int)->Option ((Int × List (List Int)) ⊕ List (List Int))} {n:Nat} (v:Nat->Int) (hf:n < fuel)
 (hs:∀ (j:Nat) (g:Nat->Int),j < n->g j=G i j->body ((j:Int),part n (i + 1)<|Ajb G i g)=some (.inl (((j + 1:Nat):Int),part n (i + 1)<|Ajb G i λc=>if c=j then v j else g c)))
 (he:∀ X,body ((n:Int),X)=some (.inr X)):iter body fuel (0,part n (i + 1) G)=some (part n (i + 1)<|Ajb G i v):=by
 apply ok_eq
 refine Ah3 (λj s=>s=((j:Int),part n (i + 1)<|Ajb G i λc=>if c < j then v c else G i c)) n ?_ hf λj s hj hI=>?_
 ·have:(λc=>if c < 0 then v c else G i c)=G i:=funext λc=>if_neg AOq;rw [this,Avu];rfl
 ·subst hI
  by_cases h:j < n
  ·rw [hs j _ h<|if_neg AOq];refine AOt ⟨h,?_⟩;refine congrArg (λz=>(((j + 1:Nat):Int),part n (i + 1)<|Ajb G i z))<|funext λc=>?_
   by_cases h1:c=j
   ·grind
   omega
  ·obtain rfl:j=n:=by omega
   rw [he];exact AOt<|A8c λc hc=>if_pos hc
theorem A41 {body:Int × List (List Int)->Option ((Int × List (List Int)) ⊕ List (List Int))} {n:Nat} (F:Ahe) (hf:n < fuel)
 (hs:∀ i:Nat,i < n->body ((i:Int),part n i F)=some (.inl (((i + 1:Nat):Int),part n (i + 1) F))) (he:∀ X,body ((n:Int),X)=some (.inr X)):iter body fuel (0,List.replicate n ([]:List Int))=some (tab n n F):=by
 apply ok_eq;refine Ah3 (λi s=>s=((i:Int),part n i F)) n (by rw [Avx n F];rfl) hf λi s hi hI=>?_;subst hI
 by_cases h:i < n
 ·rw [hs i h];exact AOt ⟨h,rfl⟩
 ·obtain rfl:i=n:=by omega
  rw [he];exact AOt<|Avw _ _
theorem BHl {m:Int} (hm:2<=m) (Ab:m<=2147483647):Int.tmod (w64<|Int.tmod x m + m) m=x % m:=by
 have h1:=Int.tmod_lt_of_pos x (show 0 < m by omega);have h2:=Int.tmod_lt_of_pos (-x) (show 0 < m by omega);rw [Int.neg_tmod] at h2;rw [wk AOq,Int.tmod_eq_emod_of_nonneg AOq,Int.add_emod_right,Int.tmod_def,Int.sub_mul_emod_self_left]
theorem BD8 {n:Nat} {m:Int} (hn:n<=8) (hm:2<=m) (Aa:m<=2147483647) (hf:100 < fuel):Ann fuel (tab n n F) m=some (tab n n λi j=>F i j % m):=by
 unfold Ann;rw [Ahv,if_pos AOq,Int.toNat_natCast,A41 (n:=n) (λi j=>F i j % m) AOq (λi hi=>?_) λX=>?_]
 ·rfl
 ·unfold Aqr;dsimp only;rw [Ahv,if_pos AOq,Amr<|Ah0 hi,Ahz,if_pos AOq,Amr<|Awk hi,Ai9,Int.toNat_natCast,Amp n (0:Int),Auq,BAt (n:=n) (λj=>F i j % m) AOq (λj g hj hg=>?_) λX=>?_]
  ·dsimp only [Option.bind_some];rw [Aut,A40 λc _=>rfl,Ah6 AOq]
  ·unfold Aqq;dsimp only;rw [Ahz,if_pos AOq,Amr<|Ahu hj,Amr<|Ari AOq hi,if_pos AOq,if_pos AOq,Ai3,Amr<|Ahu hj,BHl hm Aa,Ai9,Ai9,Alr,Atp AOq,Aut,Ah6 AOq]
  ·unfold Aqq;dsimp only;rw [Ahz,if_neg AOq]
 ·unfold Aqr;dsimp only;rw [Ahv,if_neg AOq]
theorem BK8 {n:Nat} (Aa:1<=n) (hn:n<=8) (hf:100 < fuel):Ap1 fuel (tab n n F)=some (tab n n λi j=>F j i):=by
 unfold Ap1;rw [A4z<|Ah0 AOq,Ahz,if_pos AOq,Int.toNat_natCast,A41 (n:=n) (λi j=>F j i) AOq (λi hi=>?_) λX=>?_]
 ·rfl
 ·unfold Aqa;dsimp only;rw [Ahz,Int.toNat_natCast,List.length_replicate,if_pos AOq,Ahv,if_pos AOq,Amr<|Awk hi,Ai9,Int.toNat_natCast,Amp n (0:Int),Auq,BAt (n:=n) (λj=>F j i) AOq (λj g hj hg=>?_) λX=>?_]
  ·dsimp only [Option.bind_some];rw [Aut,A40 λc _=>rfl,Ah6 AOq]
  ·unfold Ap9;dsimp only;rw [Ahv,if_pos AOq,Amr<|Ah0 hj,Amr<|Ari AOq hi,Amr<|Ahu hi,Ai3,Amr<|Ahu hj,Ai9,Ai9,Alr,Atp AOq,Aut,Ah6 AOq]
  ·unfold Ap9;dsimp only;rw [Ahv,if_neg AOq]
 ·unfold Aqa;dsimp only;rw [Ahz,Int.toNat_natCast,List.length_replicate,if_neg AOq]
def BQ1 (n:Nat) (m:Int) (F:Ahe):Prop:= ∀ i j,i < n->j < n->0<=F i j/\F i j < m
theorem BD9 {m:Int} {f:Nat->Int} {y:Int} (hm:2<=m) (Aa:m<=2147483647) (hx:0<=x/\x < m) (hy:0<=y/\y < m) (hf:f k=x * y):Int.tmod (w64<|psum f k % m + (w64<|x * y)) m=psum f (k + 1) % m:=by
 have h0:=Int.mul_nonneg hx.1 hy.1;have h1:x * y<=2147483646 * 2147483646:=Int.mul_le_mul AOq AOq hy.1 AOq;have h2:=Int.emod_nonneg (psum f k) (show m≠0 by omega);have h3:=Int.emod_lt_of_pos (psum f k) (show 0 < m by omega);rw [Aj7 (x:=x * y) AOq AOq,wk AOq,Int.tmod_eq_emod_of_nonneg AOq,<- hf,BGg]
theorem BF2 {n:Nat} {m:Int} (Ab:1<=n) (hn:n<=8) (hm:2<=m) (Aa:m<=2147483647) (hF:BQ1 n m F) (hG:BQ1 n m G) (hf:100 < fuel):Apj fuel (tab n n F) (tab n n G) m=some (tab n n λi j=>psum (λk=>F i k * G k j) n % m):=by
 unfold Apj;rw [Ahv,if_pos AOq,Int.toNat_natCast,A41 (n:=n) (λi j=>psum (λk=>F i k * G k j) n % m) AOq (λi hi=>?_) λX=>?_]
 ·rfl
 ·unfold Arm;dsimp only;rw [Ahv,if_pos AOq,Amr<|Ah0 hi,A4z<|Ah0 AOq,Ahz,if_pos AOq,Amr<|Awk hi,Ai9,Int.toNat_natCast,Amp n (0:Int),Auq]
  have key:∀ X,iter (λs=>Arl fuel (tab n n G) m i (Aju n<|F i) s.1 s.2) fuel (0,part n (i + 1)<|Ajb X i λ_=>0)=some (part n (i + 1)<|Ajb X i λj=>psum (λk=>F i k * G k j) n % m):=λX=>by
   apply ok_eq
   refine Ah3 (λk s=>s=((k:Int),part n (i + 1)<|Ajb X i λj=>psum (λk=>F i k * G k j) k % m)) n ?_ AOq λk s hk hI=>?_
   ·refine congrArg (λz=>((0:Int),part n (i + 1)<|Ajb X i z))<|funext λc=>?_
    show 0=0 % m
    rw [Int.zero_emod]
   ·subst hI
    unfold Arl
    dsimp only
    rw [Ahz]
    by_cases h:k < n
    ·rw [if_pos AOq,Amr<|Ahu h,Amr<|Ah0 h,BAt (n:=n) (λj=>psum (λk=>F i k * G k j) (k + 1) % m) AOq (λj g hj hg=>?_) λX=>?_]
     ·dsimp only [Option.bind_some]
      rw [Aut,Ah6 AOq]
      exact AOt ⟨h,rfl⟩
     ·unfold Ark
      dsimp only
      rw [Ahz,if_pos AOq,Amr<|Ahu hj,Amr<|Ari AOq hi,Ai3,Amr<|Ahu hj,if_pos AOq,hg,Ai3,BD9 (f:=λk=>F i k * G k j) hm Aa (hF i k hi h) (hG k j h hj) rfl,Ai9,Ai9,Alr,Atp AOq,Aut,Ah6 AOq]
     ·unfold Ark
      dsimp only
      rw [Ahz,if_neg AOq]
    ·obtain rfl:k=n:=by omega
     rw [if_neg AOq]
     exact AOt rfl
  rw [key];dsimp only [Option.bind_some];rw [A40 λc _=>rfl,Ah6 AOq]
 ·unfold Arm;dsimp only;rw [Ahv,if_neg AOq]
end Go.Proofs.YtkakafabeobahaaGreatDoor
namespace Go.Proofs.YtkakafabeobahaaGreatDoor
open Go Go.QF
set_option maxRecDepth 100000
set_option maxHeartbeats 40000000
def Auu (fuel:Nat) (Ac Ad Af:Int) (Ag:LiA) (Ah Ai Aa:Int) (Ab:LiI):Option ((Int × LiI) ⊕ LiI):=
 if Aa < (Ag.length:Int) then (gI Ab Af).bind λAj=>(gI Aj Aa).bind λAk=>(gI Ab Ad).bind λAe=>(gI Ae Aa).bind λAm=>if Ac≠0 then some (.inl (w64<|Aa + 1,sI Ab Ad<|sI Ae Aa<|Int.tmod (w64<|Am + w64 (w64 (Ac - w64 (Int.tdiv Ai Ah)) * Ak)) Ac)) else none else some<|.inr Ab
def Auv (fuel:Nat) (Ah Aa Ab Af:Int) (Ac:LiI):Option ((Int × LiI) ⊕ (Int × LiI)):=
 (gI Ac Ab).bind λAg=>(gI Ag Aa).bind λAd=>if ¬ Ad=0 then (gI Ac Aa).bind λAi=>(gI Ai Aa).bind λAj=>if Ad≠0 then (((iter (λs=>Auu fuel Ah Aa Ab Ag Ad Aj s.1 s.2) fuel (0,Ac)).bind (λ(Ak:LiI)=>some Ak)):Option LiI).bind λAe=>(gI Ae Ab).bind λAm=>(gI Ae Aa).bind λAo=>some (.inl (w64<|0 - Af,sI (sI Ae Aa Am) Ab Ao)) else none else some<|.inr (Af,Ac)
def Aw0 (fuel:Nat) (Ad Ae Ac Aa:Int) (Ab:LiI):Option ((Int × Int × LiI) ⊕ (Int × LiI)):=
 if Aa < (Ab.length:Int) then (iter (λs=>Auv fuel Ad Ae Aa s.1 s.2) fuel (Ac,Ab)).bind (λ((Af,Ag):Int × LiI)=>some<|.inl (Af,w64<|Aa + 1,Ag)) else some<|.inr (Ac,Ab)
def Aw1 (fuel:Nat) (Ad:LiI) (Ae Ab Aa:Int) (Ac:LiI):Option ((Int × Int × LiI) ⊕ (Int × LiI)):=
 if Aa < (Ad.length:Int) then (iter (λs=>Aw0 fuel Ae Aa s.1 s.2.1 s.2.2) fuel (Ab,w64<|Aa + 1,Ac)).bind (λ((Af,Ag):Int × LiI)=>some<|.inl (Af,w64<|Aa + 1,Ag)) else some<|.inr (Ab,Ac)
def Aw2 (fuel:Nat) (a5:Int) (Ac:LiI) (Ad Ab:Int):Option ((Int × Int) ⊕ Int):=
 if Ab < (Ac.length:Int) then (gI Ac Ab).bind λAe=>if a5≠0 then (gI Ae Ab).bind λAf=>if a5≠0 then some (.inl (Int.tmod (w64<|Int.tmod Ad a5 * Af) a5,w64<|Ab + 1)) else none else none else some<|.inr Ad
def Avf (fuel:Nat) (a3:LiI) (a5:Int):Option (Int × Int):=
 (Atq fuel a3).bind λx6=>if (!x6)=true then some (0,3) else (Aj2 fuel a5).bind λAc=>if ¬ Ac=0 then some (0,Ac) else (Ann fuel a3 a5).bind λAd=>((((some a5):Option Int).bind λAf=>(iter (λs=>Aw1 fuel Ad Af s.1 s.2.1 s.2.2) fuel (1,0,Ad)).bind (λ((Ag,Ah):Int × LiI)=>some (Ag,Ah))):Option (Int × LiI)).bind λ(Ai,Aj)=>(iter (λs=>Aw2 fuel a5 Aj s.1 s.2) fuel (w64<|Ai + a5,0)).bind (λ(Ak:Int)=>some (Ak,0))
theorem A5v {A8:Value} {r:(Int × Int)} (H2:Ajx (cI .i64) h A8 a3) (hp:Avf fuel a3 a5=some r):Ahq Tryz.prog 84 #[A8,(.int .i64 a5)] h (λx h'=>Ext h h'/\x= .tuple #[.int .i64 r.1,.int .i64 r.2]):=by
 unfold Avf at hp;refine cwf (l:=[_,_]) Tryz.func84 rfl rfl (AOv<|Ahl<|AO1<|AOx<|AOv<|AOr ?_);have K0:=Kst.k0 h;obtain ⟨x6,B1,Bc⟩:=AOw hp;refine Aj5 K0 (A33 (H2.ext K0.x) B1) λEb E9 Be=>Akg rfl (AOz<|⟨_,rfl,λAj=>?_,λAj=>?_⟩)
 ·refine AOv<|Ahl<|AO1<|AO6<|Ag9 ?_;obtain rfl:=AOu<|ifT Bc Aj;exact ⟨_,Air,Be.x,rfl⟩
 ·refine AO4<|q_t<|AOx<|AOv<|AOr ?_;obtain ⟨Ed,B3,Bf⟩:=AOw<|Aoy Bc Aj;refine Aj5 Be (Au1 B3) λEe Ef Ak=>Ah4<|AOr<|Ajq rfl rfl (AOz<|⟨_,rfl,λAm=>?_,λAm=>?_⟩)
  ·refine AOv<|AOr<|Ahl<|AO1<|AO6<|Ag9 ?_;obtain rfl:=AOu<|Ahx Bf Am;exact ⟨_,Air,Ak.x,rfl⟩
  ·refine AO4<|q_t<|AOv<|AOr<|AOr ?_;obtain ⟨B4,B5,B6⟩:=AOw<|Ahy Bf Am;refine Aus Ak (At0 (H2.ext Ak.x) B5) λB7 B8 B9 Ab Eg Eh Ao=>Ah4<|AOr<|AOr ?_;obtain ⟨Ca,Cb,Cd⟩:=AOw B6;refine Ahr (K':=(λxr h'=> ∃ x:(Int) × (LiI) × LnA × LnN × LvA,(x.1,x.2.1)=Ca/\xr=(.int .i64 x.1)/\Kst h h' (Ao.L.set 0<|aO2 (cI .i64) 61 2 x.2.2.1 x.2.2.2.1 x.2.2.2.2 Ab x.2.1))) trivial rfl ?_ λEi Ej Ce=>?_
   ·refine cwf (l:=[_,_]) Tryz.func138 rfl rfl (AOv<|Ah4<|AOr ?_);obtain ⟨Cf,Cg,Ch⟩:=AOw Cb;refine Ahr (K':=(λxr h'=> ∃ x:(Nat) × (Int),x.2=Cf/\xr=(.func (.func 197) #[] #[(.pointer<|some ⟨x.1,0,none⟩)])/\Kst h h' (aB 2 x.1 [(.int .i64 x.2)] :: Ao.L))) trivial rfl ?_ λEk El Ci=>?_
    ·refine cwf (l:=[_]) Tryz.func161 rfl rfl (AOv<|Ao1 Ao [(.int .i64 a5)] λCj Em En Ck=>Ah4<|BPd rfl (AO1<|AO6<|⟨_,AO7,((Cj,a5):(Nat) × (Int)),?_,rfl,?_⟩))
     ·exact AOu Cg
     ·exact Ck
    obtain ⟨⟨Cm,Eo⟩,Cn,rfl,Ap⟩:=Ci;refine ⟨trivial,?_⟩;subst Cn;refine Ah4<|AO1<|AOx<|AOv<|AOr<|Ahw APa rfl (Ap.o2 p1).rd (AOr<|AOz<|AO0<|Anb 18889465931478580847040 (λx:(Int) × (Int) × (LiI) × LnA × LnN × LvA=>(x.1,x.2.1,x.2.2.1)) ((1,0,B4,B7,B8,B9):(Int) × (Int) × (LiI) × LnA × LnN × LvA) Ch (λx=>[(6,(.int .i64 x.1)),(13,(.int .i64 x.2.1))]) (λx=>Ap.L.set 1<|aO2 (cI .i64) 61 2 x.2.2.2.1 x.2.2.2.2.1 x.2.2.2.2.2 Ab x.2.2.1) Ap ⟨rfl,rfl,trivial⟩ ?_);rintro ⟨Bg,Af,Bh,Bi,Bj,Bl⟩ Ep Er Es Aq Ar Co;unfold Aw1 at Ar;refine AOv<|Aho rfl rfl (AOz<|AOx<|⟨_,rfl,λAu=>?_,λAu=>?_⟩)
    ·refine AO4<|q_t<|AOx<|AO0<|AOv<|AOr<|Ah4<|AOr<|Ahp rfl rfl (AO1<|AO0<|Anb 9444732965739290165568 (λx:(Int) × (Int) × (LiI) × LnA × LnN × LvA=>(x.1,x.2.1,x.2.2.1)) ((Bg,(w64<|Af + 1),Bh,Bi,Bj,Bl):(Int) × (Int) × (LiI) × LnA × LnN × LvA) (Ahx Ar Au) (λx=>[(6,(.int .i64 x.1)),(8,(.int .i64 x.2.1))]) (λx=>Aq.L.set 1<|aO2 (cI .i64) 61 2 x.2.2.2.1 x.2.2.2.2.1 x.2.2.2.2.2 Ab x.2.2.1) Aq ⟨rfl,rfl,trivial⟩ ?_);rintro ⟨Cp,Av,Cq,Cr,Ct,Cu⟩ Et Eu Ev Ag Aw Cv;unfold Aw0 at Aw;refine AOx<|AOv<|AOr<|AOr<|Ahw APa rfl (Ag.o2 p1).rd (Aho rfl rfl (AOz<|⟨_,rfl,λAx=>?_,λAx=>?_⟩))
     ·refine AO4<|q_t<|AOx<|AO0<|AO0<|Anb 9444732965739273650240 (λx:(Int) × (LiI) × LnA × LnN × LvA=>(x.1,x.2.1)) ((Cp,Cq,Cr,Ct,Cu):(Int) × (LiI) × LnA × LnN × LvA) (Ahx Aw Ax) (λx=>[(6,(.int .i64 x.1))]) (λx=>Ag.L.set 1<|aO2 (cI .i64) 61 2 x.2.2.1 x.2.2.2.1 x.2.2.2.2 Ab x.2.1) Ag ⟨rfl,trivial⟩ ?_;rintro ⟨Ew,Ey,Bm,Bn,Bo⟩ Ez Fa Fb Aa Bp Cw;unfold Auv at Bp;refine AOx<|AOv<|AOr<|AOr ?_;obtain ⟨Fc,Ac,Cx⟩:=AOw Bp;refine Ai2 APa Ahb (Aa.o2 p1) Ac λ_ Fd Cy=>AOr ?_;obtain ⟨Cz,Bq,Br⟩:=AOw Cx;refine At4 (m:=Av) APd AO9 (Aa.o2 p1) Cy Ac Bq λ_=>(Ajq rfl rfl (AOz<|⟨_,rfl,λAy=>?_,λAy=>?_⟩))
      ·refine AO4<|q_t<|AO0<|AOx<|Ana<|AOr<|AOr<|AOr ?_;obtain ⟨Fe,Az,C0⟩:=AOw<|Ahx Br Ay;refine Ai2 APa Ahb (Aa.o2 p1) Az λ_ C1 Bt=>AOr<|AOr<|Ai2 APa Ahb (Aa.o2 p1) Ac λ_ C2 Bu=>AOr<|AOr<|Ai2 APa Ahb (Aa.o2 p1) Az λ_ Ff C3=>AOr ?_;obtain ⟨C4,C5,C6⟩:=AOw C0;refine At4 (m:=Af) APd AO9 (Aa.o2 p1) C3 Az C5 λ_=>(AOr<|AOr<|Ai2 APa Ahb (Aa.o2 p1) Ac λ_ Fg C7=>AOr<|At4 (m:=Av) APd AO9 (Aa.o2 p1) C7 Ac Bq λ_=>?_);obtain ⟨C8,C9⟩:=ifN C6;refine Aub rfl rfl C8 ?_;obtain ⟨Da,Db,Dc⟩:=AOw C9;refine A6e (l:=[C1,C2,(.int .i64<|w64<|Int.tdiv C4 Cz)]) (cl:=[(.pointer<|some ⟨Cm,0,none⟩)]) (K':=(λxr h'=> ∃ x:(LiI),x=Da/\xr= .tuple #[]/\Kst h h' (Aa.L.set 1<|aO2 (cI .i64) 61 2 Bm Bn Bo Ab x))) trivial rfl rfl ?_ λFh Fi Dd=>?_
       ·refine cwf (l:=[_,_,_,_]) Tryz.func197 rfl rfl (AOv<|AOr<|Aio APd rfl ((Aa.o2 p1).rowI Bu Ac) (AOr<|AOz<|AO0<|Aqu 4294965632 Db (λx=>[(11,(.int .i64 x.1))]) (λx=>Aa.L.set 1<|aO2 (cI .i64) 61 2 Bm Bn Bo Ab x.2) Aa ⟨rfl,trivial⟩ ?_));rintro ⟨Fj,De⟩ Fk Fl Fm Ad A3 Df;unfold Auu at A3;refine AOv<|Aho rfl rfl (AOz<|AOx<|⟨_,rfl,λA4=>?_,λA4=>?_⟩)
        ·refine AO4<|q_t<|AOx<|AO0<|AOv<|AOr ?_;obtain ⟨Fo,Dg,Dh⟩:=AOw<|Ahx A3 A4;obtain ⟨Fp,Di,Dj⟩:=AOw Dh;refine At4 (m:=Av) APd AO9 (Ad.o2 p1) Bu Dg Di λ_=>(Ahl<|AO1<|Ana<|AOr<|AOr<|AOr<|AOr ?_);obtain ⟨Fq,Bv,Dk⟩:=AOw Dj;obtain ⟨Fr,Bw,Dl⟩:=AOw Dk;refine At4 (m:=Af) APd AO9 (Ad.o2 p1) Bt Bv Bw λ_=>Aht AO9 rfl ((Ad.b p0).cell (i:=0) rfl) (AOr<|Anj rfl rfl (AOr<|Aok rfl rfl (Ahp rfl rfl (Aht AO9 rfl ((Ad.b p0).cell (i:=0) rfl) ?_))));obtain ⟨Do,Dp⟩:=ifN Dl;refine Ajh rfl rfl Do (As1 (m:=Af) Ad p1 APd AO9 Bt Bv Bw (λ_=>rfl) λ_ Ft Dq=>Ahh<|q_b<|q_t<|Ag6<|Ahp rfl rfl (AOr<|AOz ?_));exact ⟨_,(AOu Dp).symm,Dq,rfl,trivial⟩
        ·refine Ahf<|Ahg<|Ahg<|Aim<|⟨_,Avn,(De:(LiI)),?_,rfl,?_⟩
         ·exact AOu<|Df _ (AOu<|Ahy A3 A4).symm
         ·exact Ad
       obtain ⟨Fu,Dr,rfl,Ah⟩:=Dd;refine ⟨trivial,?_⟩;subst Dr;refine AOz<|AOx<|Ana<|AOr<|AOr<|AOr<|AOr<|AOr<|AOr ?_;obtain ⟨Fv,Bx,Ds⟩:=AOw Dc;refine Ai2 APa Ahb (Ah.o2 p1) Bx λ_ Fw Dt=>AOr<|AOr ?_;obtain ⟨Fx,By,Du⟩:=AOw Ds;refine Ai2 APa Ahb (Ah.o2 p1) By λ_ Fy Dv=>Avk APa Ahb (Ah.o2 p1) Dv Dt By Bx rfl rfl (λ_=>rfl) (λ_=>rfl) (λ_=>rfl) (λ_ _=>rfl) λFz F4 F5 F6 F7 F8 Dw Dx Dy=>AOz<|Ag6<|AOr<|Azz rfl (Ahl<|Ahh<|q_b<|q_t ?_);exact ⟨(_,_,_,_,_),(AOu Du).symm,(Ah.uo2 p1 Dx Dw Dy),rfl,trivial⟩
      ·refine Ahf<|Ahg<|Ahg<|Aim<|q_b<|q_t<|Ag6<|AOr<|Ahp rfl rfl (AO1 ?_);exact ⟨(_,_,_,_,_,_),(AOu<|Cw _ (AOu<|Ahy Br Ay).symm).symm,Aa,rfl,rfl,trivial⟩
     ·refine Ahf<|Ahg<|Ahg<|Aim<|q_b<|q_t<|Ag6<|Ahp rfl rfl (AOr<|AOz ?_);exact ⟨(_,_,_,_,_,_),(AOu<|Cv _ (AOu<|Ahy Aw Ax).symm).symm,Ag,rfl,rfl,trivial⟩
    ·refine Ahf<|Ahg<|Ahg<|Aim<|q_t<|AOv<|AOr<|AO1<|AO6<|⟨_,AO7,((Bg,Bh,Bi,Bj,Bl):(Int) × (LiI) × LnA × LnN × LvA),?_,rfl,?_⟩
     ·exact AOu<|Co _ (AOu<|Ahy Ar Au).symm
     ·exact Aq.sel [1] AOs
   obtain ⟨⟨F9,Ga,Gb,Gc,Gd⟩,Dz,rfl,A5⟩:=Ce;refine ⟨trivial,?_⟩;subst Dz;refine AOr<|Ahp rfl rfl (AO1<|AOx<|AOv<|AOr<|Ahw APa rfl (A5.o2 p0).rd (AOr<|AOz<|AO0<|Aqu 35183835219712 Cd (λx=>[(8,(.int .i64 x.1)),(29,(.int .i64 x.2))]) (λx=>A5.L) A5 ⟨rfl,rfl,trivial⟩ ?_));rintro ⟨Ge,D0⟩ Gf Gg Gh Ai A6 D1;unfold Aw2 at A6;refine AOv<|Aho rfl rfl (AOz<|AOx<|⟨_,rfl,λA7=>?_,λA7=>?_⟩)
   ·refine AO4<|q_t<|AOx<|AO0<|AOv<|AOr ?_;obtain ⟨Gi,Bz,D2⟩:=AOw<|Ahx A6 A7;refine Ai2 APa Ahb (Ai.o2 p0) Bz λ_ Gj D3=>Ahl<|AO1<|Ana<|AOr<|AOr ?_;obtain ⟨D4,D5⟩:=ifN D2;refine Ajh rfl rfl D4 (AOr<|AOr ?_);obtain ⟨Gk,D6,D7⟩:=AOw D5;refine At4 (m:=D0) APd AO9 (Ai.o2 p0) D3 Bz D6 λ_=>(Aok rfl rfl (AOr ?_));obtain ⟨D8,D9⟩:=ifN D7;refine Ajh rfl rfl D8 (Ahl<|Ahh<|q_b<|q_t<|Ag6<|Ahp rfl rfl (AOr<|AOz ?_));exact ⟨_,(AOu D9).symm,Ai,rfl,rfl,trivial⟩
   ·refine Ahf<|Ahg<|Ahg<|Aim<|q_t<|AOv<|AOr<|Ahl<|AO1<|AO6 ?_;obtain rfl:=AOu<|D1 _ (AOu<|Ahy A6 A7).symm;exact ⟨_,Air,Ai.x,rfl⟩
end Go.Proofs.YtkakafabeobahaaGreatDoor
namespace Go.Proofs.YtkakafabeobahaaGreatDoor
open Go Go.QF
set_option maxRecDepth 100000
theorem BK9 {E:Type} {body:Int->Option (Int ⊕ E)} {n:Nat} {e:E} (hf:n < fuel) (hs:∀ i:Nat,i < n->body (i:Int)=some (.inl ((i + 1:Nat):Int))) (he:body (n:Int)=some (.inr e)):iter body fuel 0=some e:=by
 apply ok_eq;refine Ah3 (λi s=>s=(i:Int)) n rfl hf λi s hi hI=>?_;subst hI;by_cases h:i < n
 ·rw [hs i h];exact AOt ⟨h,rfl⟩
 ·obtain rfl:i=n:=by omega
  rw [he];exact AOt rfl
theorem A8d {n:Nat} (Aa:1<=n) (hn:n<=8) (hf:100 < fuel):Apq fuel (tab n n F)=some true:=by
 unfold Apq;rw [Ahv,if_neg AOq,if_neg AOq,A4z<|Ah0 AOq,Ahz,if_neg AOq,if_neg AOq];simp only [Option.bind_some];rw [BK9 (n:=n) (e:= .inr ()) AOq (λi hi=>?_) ?_]
 ·rfl
 ·unfold Atf;rw [Ahv,if_neg AOq]
 ·unfold Atf;rw [Ahv,if_pos AOq,Amr<|Ah0 hi,A4z<|Ah0 AOq,Ahz,Ahz,if_neg λh=>h rfl,Ah6 AOq]
theorem BNt {n j:Nat}:sI (Aju n g) (j:Int) x=Aju n λc=>if c=j then x else g c:=by rw [Ai9,Alr]
theorem As3 {n:Nat}:sI (tab n n F) (i:Int) (Aju n g)=tab n n (Ajb F i g):=by
 rw [Ai9];exact Ar9
theorem BLa {n r:Nat} {g':Nat->Int} (h:∀ c,c < n->g c=g' c):tab n n (Ajb F r g)=tab n n (Ajb F r g'):=A2o λi j _ hj=>by
 rw [Aiu,Aiu,h j hj]
structure A8m (n:Nat) (m:Int) (A F:Ahe) (s:Int) (c:Nat):Prop where
 sg:s=1∨s= -1
 bd:Bd n n m F
 z:Zc n F c
 d:Eqm m (det n F) (s * det n A)
theorem BNu {m a b y:Int} (hm:2<=m) (Ab:m<=2147483647) (ha:0<=a/\a < m) (hb:0 < b/\b < m) (hx:0<=x/\x < m) (hy:0<=y/\y < m):Int.tmod (w64<|x + (w64<|(w64<|m - (w64<|Int.tdiv a b)) * y)) m=(x + (m - a / b) * y) % m:=by
 have hq:=BPi ha.1 ha.2 hb.1;have h1:Int.tdiv a b=a / b:=Int.tdiv_eq_ediv_of_nonneg ha.1;have h0:0<=(m - a / b) * y:=Int.mul_nonneg AOq hy.1;have h2:(m - a / b) * y<=2147483647 * 2147483647:=Int.mul_le_mul AOq AOq hy.1 AOq;rw [h1,Aj7 (x:=a / b) AOq AOq,Aj7 (x:=m - a / b) AOq AOq,Aj7 (x:=(m - a / b) * y) AOq AOq,wk AOq,Int.tmod_eq_emod_of_nonneg AOq]
theorem BNv {n c:Nat} {m:Int} (hn:n<=8) (hm:2<=m) (Aa:m<=2147483647) (hc:c < n) (hi:i < n) (hne:c≠i) (hB:Bd n n m F) (h0:F i c≠0) (hf:100 < fuel):
 iter (λs=>Auu fuel m c i (Aju n<|F i) (F i c) (F c c) s.1 s.2) fuel (0,tab n n F)=some (tab n n<|Ajb F c λx=>(F c x + (m - F c c / F i c) * F i x) % m):=by
 apply ok_eq;refine Ah3 (λj s=>s=((j:Int),tab n n<|Ajb F c λx=>if x < j then (F c x + (m - F c c / F i c) * F i x) % m else F c x)) n ?_ AOq λj s hj hI=>?_
 ·have:(λx=>if x < 0 then (F c x + (m - F c c / F i c) * F i x) % m else F c x)=F c:=funext λx=>if_neg AOq;rw [this,Avu];rfl
 ·subst hI;unfold Auu;dsimp only;rw [Ahz];by_cases h:j < n
  ·have b1:=hB c c hc hc;have b2:=hB i c hi hc;rw [if_pos AOq,Amr<|Ah0 hi,Alp _ _<|Ne.symm hne,Amr<|Ahu h,Amr<|Ah0 hc,Ai3,Amr<|Ahu h,if_pos AOq,if_neg AOq,BNu hm Aa (hB c c hc hc) ⟨AOq,b2.2⟩ (hB c j hc h)<|hB i j hi h,BNt,As3,Aut,Ah6 AOq];refine AOt ⟨h,congrArg (λz=>(((j + 1:Nat):Int),tab n n<|Ajb F c z))<|funext λx=>?_⟩;grind
  ·obtain rfl:j=n:=by omega
   rw [if_neg AOq];exact AOt<|BLa λx hx=>if_pos hx
theorem BHm {n c:Nat} {m s:Int} (hm:2<=m) (hc:c < n) (hi:i < n) (hci:c < i) (H:A8m n m A F s c) (q:Int):A8m n m A (Az5 F c i q m) (-s) c:=by
 have h1:=(Eqm.refl m 0).sub H.d;rw [Int.zero_sub,Int.zero_sub] at h1;refine ⟨by rcases H.sg with h | h <;> rw [h] <;> simp,BLu AOq H.bd hc hi,BLv H.z hci hi,(BG7 hc hi AOq).trans ?_⟩;grind
theorem BEa {n c:Nat} {m s:Int} (hn:n<=8) (hm:2<=m) (Ab:m<=2147483647) (hc:c < n) (hi:i < n) (hci:c < i) (H:A8m n m A F s c) (hZ:Zi F c i) (hf:2147483648 < fuel):
 Ok (iter (λs=>Auv fuel m c i s.1 s.2) fuel (s,tab n n F)) λe=> ∃ s' F',e=(s',tab n n F')/\A8m n m A F' s' c/\Zi F' c i/\F' i c=0:=by
 refine Ah3 (λk st=> ∃ s' F',st=(s',tab n n F')/\A8m n m A F' s' c/\Zi F' c i/\F' i c + k<=m) m.toNat ⟨s,F,rfl,H,hZ,by have:=H.bd i c hi hc;omega⟩ AOq λk st hk hI=>?_;obtain ⟨s',F',rfl,H',hZ',hk'⟩:=hI;have hB:=H'.bd;have b2:=hB i c hi hc;unfold Auv;dsimp only;rw [Amr<|Ah0 hi,Amr<|Ahu hc];refine Aha (λh=>?_) λh=>AOt ⟨s',F',rfl,H',hZ',Decidable.not_not.1 h⟩;rw [Amr<|Ah0 hc,Amr<|Ahu hc,if_pos h,BNv hn hm Ab hc hi AOq hB h AOq];simp only [Option.bind_some]
 have e1:∀ g,sI (sI (tab n n<|Ajb F' c g) (c:Int)<|Aju n<|F' i) (i:Int) (Aju n g)=tab n n (Anp (Ajb F' c g) c i):=λg=>by
  rw [As3,As3]
  unfold Anp
  rw [Ai3,Alp _ _<|show i≠c by omega]
 have b1:=hB c c hc hc;rw [Amr<|Ah0 hi,Alp _ _ (show i≠c by omega),Amr<|Ah0 hc,Ai3,e1,Aj7 (by rcases H'.sg with h | h <;> omega) (by rcases H'.sg with h | h <;> omega),Int.zero_sub];refine AOt ⟨AOq,-s',_,rfl,BHm hm hc hi hci H' _,BLw hZ',?_⟩;show Az5 F' c i (F' c c / F' i c) m i c + ((k + 1:Nat):Int)<=m;rw [BEn];dsimp only;rw [BLx b1.1 b1.2 AOq b2.2];have:=Int.emod_lt_of_pos (F' c c) (show 0 < F' i c by omega);omega
theorem BQ2 {n:Nat} {m:Int} (Af:1<=n) (hn:n<=8) (hm:2<=m) (Ad:m<=2147483647) (hf:2147483648 < fuel):Avf fuel (tab n n T) m=some (det n T % m,0):=by
 unfold Avf
 have h0:Atq fuel (tab n n T)=some true:=by
  unfold Atq
  rw [A8d Af hn AOq]
  simp only [Option.bind_some,reduceIte]
  rw [A4z<|Ah0 AOq,Ahz,Ahv,if_pos rfl,decide_eq_true AOq]
 have h1:Aj2 fuel m=some 0:=by unfold Aj2;grind
 rw [h0];simp only [Option.bind_some];rw [if_neg AOs,h1];simp only [Option.bind_some];rw [if_neg AOs,BD8 hn hm Ad AOq];simp only [Option.bind_some];apply ok_eq;generalize hA:(λi j=>T i j % m)=A;have hAd:Eqm m (det n A) (det n T):=by subst hA;exact A6s λi j _ _=>Eqm.mod _ _
 have hAb:Bd n n m A:=by subst hA;exact λi j _ _=>⟨Int.emod_nonneg _ AOq,Int.emod_lt_of_pos _ AOq⟩
 refine AOy (Q:=λe:Int × List (List Int)=> ∃ F,e.2=tab n n F/\A8m n m A F e.1 n) (AOy (Ah3 (λc st=> ∃ s F,st=(s,(c:Int),tab n n F)/\c<=n/\A8m n m A F s c) n (Q:=λe:Int × List (List Int)=> ∃ F,e.2=tab n n F/\A8m n m A F e.1 n) ⟨1,A,rfl,Nat.zero_le _,.inl rfl,hAb,λc' i h=>absurd h<|Nat.not_lt_zero _,by rw [Int.one_mul];exact Eqm.refl _ _⟩ AOq λc st hc hI=>?_) λe he=>AOt he) λe he=>?_
 ·obtain ⟨s,F,rfl,hcn,H⟩:=hI;unfold Aw1;dsimp only;rw [Ahv];refine Aha (λh=>?_) λh=>AOt ⟨F,rfl,(show c=n by omega) ▸ H⟩;have hc':c < n:=by omega
  rw [Ah6 AOq];refine AOy (Ah3 (λk st=> ∃ s F,st=(s,((c + 1 + k:Nat):Int),tab n n F)/\c + 1 + k<=n/\A8m n m A F s c/\Zi F c (c + 1 + k)) (n - (c + 1)) (Q:=λe:Int × List (List Int)=> ∃ F,e.2=tab n n F/\A8m n m A F e.1 (c + 1)) ⟨s,F,rfl,AOq,H,λk h1 h2=>by omega⟩ AOq λk st hk hI=>?_) λe he=>?_
  ·obtain ⟨s',F',rfl,hkn,H',hZ'⟩:=hI;unfold Aw0;dsimp only;rw [Ahv];refine Aha (λh2=>AOy (BEa hn hm Ad hc' AOq AOq H' hZ' hf) λe he=>?_) λh2=>AOt ⟨F',rfl,H'.sg,H'.bd,BEp H'.z<|(show c + 1 + k=n by omega) ▸ hZ',H'.d⟩;obtain ⟨s2,F2,rfl,H2,Aj,h3⟩:=he;exact AOt ⟨AOq,s2,F2,by rw [Ah6 AOq];rfl,AOq,H2,BEo Aj h3⟩
  ·obtain ⟨e1,e2⟩:=e;obtain ⟨F',h2,H'⟩:=he;dsimp only at h2 H';subst h2;exact AOt ⟨AOq,e1,F',rfl,AOq,H'⟩
 ·obtain ⟨s,M⟩:=e;obtain ⟨F,h2,H⟩:=he;dsimp only at h2 H;subst h2;dsimp only;rw [Aj7 (by rcases H.sg with h | h <;> omega) (by rcases H.sg with h | h <;> omega)];refine AOy (Ah3 (λk st=>st=(A0v F m s k,(k:Int))/\k<=n) n (Q:=(· =A0v F m s n)) ⟨rfl,Nat.zero_le _⟩ AOq λk st hk hI=>?_) λe he=>AOt ?_
  ·obtain ⟨rfl,hkn⟩:=hI;unfold Aw2;dsimp only;rw [Ahv];by_cases h:k < n
   ·have hd:=BLy (F:=F) (m:=m) (s:=s) hm H.sg k;have hb:=H.bd k k h h;have h3:=Int.emod_nonneg (A0v F m s k) (show m≠0 by omega);have h4:=Int.emod_lt_of_pos (A0v F m s k) (show 0 < m by omega);have h5:=Int.mul_nonneg h3 hb.1;have h6:A0v F m s k % m * F k k<=2147483647 * 2147483647:=Int.mul_le_mul AOq AOq hb.1 AOq;rw [if_pos AOq,Amr<|Ah0 h,if_pos AOq,Amr<|Ahu h,if_pos AOq,Int.tmod_eq_emod_of_nonneg hd.1,Aj7 (x:=A0v F m s k % m * F k k) AOq AOq,Int.tmod_eq_emod_of_nonneg h5,Ah6 AOq];exact AOt ⟨h,rfl,AOq⟩
   ·obtain rfl:k=n:=by omega
    rw [if_neg AOq];exact AOt rfl
  ·subst he
   have h3:Eqm m (A0v F m s n) (det n T):=by
    refine (BKl _).trans ?_
    rw [<- A0e H.z]
    refine ((Eqm.refl m s).mul H.d).trans (Eqm.trans (Eqm.of_eq ?_) hAd)
    rcases H.sg with h | h <;> rw [h] <;> grind
   have h4:0<=A0v F m s n/\A0v F m s n < m:=by
    obtain ⟨k,rfl⟩:∃ k,n=k + 1:=⟨n - 1,AOq⟩
    unfold A0v
    exact ⟨Int.emod_nonneg _ AOq,Int.emod_lt_of_pos _ AOq⟩
   unfold Eqm at h3;rw [<- h3,Int.emod_eq_of_lt h4.1 h4.2]
end Go.Proofs.YtkakafabeobahaaGreatDoor
namespace Go.Proofs.YtkakafabeobahaaGreatDoor
open Go Go.QF
set_option maxRecDepth 100000
set_option maxHeartbeats 40000000
def Awl (fuel:Nat) (a2 Ac Ab:Int):Option ((Int × Int) ⊕ (Int × Int)):=
 if a2≠0 then if Int.tmod Ab a2=0 then if a2≠0 then some (.inl (w64<|Ac + 1,w64<|Int.tdiv Ab a2)) else none else some (.inr (Ac,Ab)) else none
def Aur (fuel:Nat) (a1 a2:Int):Option Alq:=
 (iter (λs=>Awl fuel a2 s.1 s.2) fuel (0,a1)).bind (λ((Ac,Ad):Int × Int)=>some (Ac,1,Ad,0,0))
theorem A42 {r:Alq} (hp:Aur fuel a1 a2=some r):Ahq Tryz.prog 93 #[(.int .i64 a1),(.int .i64 a2)] h (λx h'=>Ext h h'/\x= .agg #[.int .i64 r.1,.int .i64 r.2.1,.int .i64 r.2.2.1,.int .i64 r.2.2.2.1,.int .i64 r.2.2.2.2]):=by
 unfold Aur at hp;refine cwf (l:=[_,_]) Tryz.func93 rfl rfl (AOv<|Aj3 (Kst.k0 h) [(.int .i64 0),(.int .i64 0),(.int .i64 0),(.int .i64 0),(.int .i64 0)] Axm λb3 h4 E6 K9=>Apu<|AOr<|Akh (v:=(.agg #[(.int .i64 0),(.int .i64 1),(.int .i64 a1),(.int .i64 0),(.int .i64 0)])) (λ_=>by kernel_rfl)<|Aj3 K9 [(.int .i64 0),(.int .i64 0),(.int .i64 0),(.int .i64 0),(.int .i64 0)] Axm λAp Ba Bb Ah=>Ai5 [(.int .i64 0),(.int .i64 1),(.int .i64 a1),(.int .i64 0),(.int .i64 0)] Atw rfl rfl rfl rfl (by simp [isOne]) (Ah.b p0) λBc Aq Ar=>AOz<|AOx ?_);refine AO0 ?_;have Ai:=Ah.sb p0 Ar Aq rfl;refine Aqu 4194048 hp (λx=>[]) (λx=>Ai.L.set 0<|aB 60 Ap [(.int .i64 x.1),(.int .i64 1),(.int .i64 x.2),(.int .i64 0),(.int .i64 0)]) Ai trivial ?_;rintro ⟨Ad,Ae⟩ Be Bf Bg Aa Aj Au;unfold Awl at Aj;refine AOx<|AOv<|Ajl At2 AO9 (Aa.b p0) 2 rfl (AOr ?_);obtain ⟨Av,Ak⟩:=ifN Aj;refine Ajh rfl rfl Av (Aiy rfl rfl (AOz<|⟨_,rfl,λAf=>?_,λAf=>?_⟩))
 ·refine AO4<|q_t<|AO0<|AOv<|Ajl At2 AO9 (Aa.b p0) 2 rfl (AOr ?_);obtain ⟨Aw,Ax⟩:=ifN<|Ahx Ak Af;refine Aub rfl rfl Aw (Ah1 At2 rfl (Au6 [(.int .i64 Ad),(.int .i64 1),(.int .i64<|w64<|Int.tdiv Ae a2),(.int .i64 0),(.int .i64 0)] AO9 rfl rfl rfl (Aa.b p0) (Nat.le_of_ble_eq_true rfl) rfl λBh Ay Az=>AOz<|Ag6 ?_));have Ag:=Aa.sb p0 Az Ay rfl;refine Ajl Apf Aiw (Ag.b p0) 0 rfl (Ahp rfl rfl (Ah1 Apf rfl (Au6 [(.int .i64<|w64<|Ad + 1),(.int .i64 1),(.int .i64<|w64<|Int.tdiv Ae a2),(.int .i64 0),(.int .i64 0)] Aiw rfl rfl rfl (Ag.b p0) (Nat.le_of_ble_eq_true rfl) rfl λBi A3 A4=>Ahh<|q_b<|q_t ?_)));exact ⟨_,(AOu Ax).symm,(Ag.sb p0 A4 A3 rfl),trivial⟩
 ·refine Ahf<|Ahg<|Ahg<|Aim<|q_t<|AOv<|Apd [(.int .i64 Ad),(.int .i64 1),(.int .i64 Ae),(.int .i64 0),(.int .i64 0)] Atw rfl rfl (Aa.b p0).agg (Ai5 [(.int .i64 Ad),(.int .i64 1),(.int .i64 Ae),(.int .i64 0),(.int .i64 0)] Atw rfl rfl rfl rfl (by simp [isOne]) (Aa.b p1) λBj A5 A6=>AOz<|AO6 ?_);have Am:=Aa.sb p1 A6 A5 rfl;obtain rfl:=AOu<|Au _ (AOu<|Ahy Ak Af).symm;exact ⟨_,Ai1 Atw rfl rfl (Am.b p1),Am.x,rfl⟩
def Atg (fuel:Nat) (Ad:Int) (Ab:LiA) (Aa:Int):Option (Int ⊕ (Bool ⊕ Unit)):=
 if Aa < (Ab.length:Int) then (gI Ab Aa).bind λAc=>if Ac < 0 then some (.inr<|.inl false) else if Ad<=Ac then some (.inr<|.inl false) else some (.inl<|w64<|Aa + 1) else some<|.inr<|.inr ()
def Ath (fuel:Nat) (Ac:LiI) (Ab:Int) (Ad:LiA) (Aa:Int):Option (Int ⊕ (Bool ⊕ Unit)):=
 if Aa < (Ad.length:Int) then (gI Ac Ab).bind λAe=>(gI Ae Aa).bind λAf=>if ¬ Aa=Ab then if ¬ Af=0 then some (.inr<|.inl false) else some (.inl<|w64<|Aa + 1) else some (.inl<|w64<|Aa + 1) else some<|.inr<|.inr ()
def Ati (fuel:Nat) (a5:Int) (Ae:List Alq) (Ad:LiI) (Aa:Int):Option (Int ⊕ (Bool ⊕ Unit)):=
 if Aa < (Ad.length:Int) then (gI Ad Aa).bind λAh=>(((gI Ad Aa).bind λAi=>(gI Ai Aa).bind λAf=>if Af=0 then some (.inl false) else (gI Ae Aa).bind λAb=>(Aur fuel Af a5).bind λAc=>if (!(decide ((Ab.1,Ab.2.1,Ab.2.2.1,Ab.2.2.2.1,Ab.2.2.2.2)=(Ac.1,Ac.2.1,Ac.2.2.1,Ac.2.2.2.1,Ac.2.2.2.2))))=true then some (.inl false) else some<|.inr ()):Option (Bool ⊕ Unit)).bind (λex=>match ex with | .inl Aj=>(some<|.inr<|.inl Aj) | .inr _=>((if 0 < Aa then (gI Ae Aa).bind λAk=>(gI Ae<|w64<|Aa - 1).bind λAm=>if Ak.1 < Am.1 then some (.inl false) else some (.inr ()) else some<|.inr ()):Option (Bool ⊕ Unit)).bind (λex=>match ex with | .inl Ao=>(some<|.inr<|.inl Ao) | .inr _=>(iter (λs=>Ath fuel Ad Aa Ah s) fuel 0).bind (λex=>match ex with | .inl Ap=>(some<|.inr<|.inl Ap) | .inr _=>some<|.inl<|w64<|Aa + 1))) else some<|.inr<|.inr ()
def Aql (fuel:Nat) (a8:LiI) (Ac Aa:Int):Option (Int ⊕ (Bool ⊕ Unit)):=
 if Aa < (a8.length:Int) then (gI a8 Aa).bind λAd=>(iter (λs=>Atg fuel Ac Ad s) fuel 0).bind (λex=>match ex with | .inl Ae=>(some<|.inr<|.inl Ae) | .inr _=>some<|.inl<|w64<|Aa + 1) else some<|.inr<|.inr ()
def Atr (fuel:Nat) (a3:LiI) (a5:Int) (a8:LiI) (Ae:List Alq) (Ac:Int):Option Bool:=
 (iter (λs=>Aql fuel a8 Ac s) fuel 0).bind (λex=>match ex with | .inl Af=>(some Af) | .inr _=>(Avf fuel a8 a5).bind λ(Ag,Aj)=>if Ag=0 then some false else (Ao9 fuel a3 a8 Ac).bind λ(Ah,Ak)=>(iter (λs=>Ati fuel a5 Ae Ah s) fuel 0).bind (λex=>match ex with | .inl Ai=>(some Ai) | .inr _=>some true))
theorem A34 {Bp:Value} {Aw:Value} {a8:LiI} {Bt:(List Alq)} {Bu:Int} (H2:Ajx (cI .i64) h Bp a3) (H7:Ajx (cI .i64) h Aw a8) (Ay:SlC Ar1 h Ax Bt) (hp:Atr fuel a3 a5 a8 Bt Bu=some r):Ahq Tryz.prog 48 #[Bp,(.agg #[(.int .i64 a5),Aw,Ax]),(.int .i64 Bu)] h (λx h'=>Ext h h'/\x= .bool r):=by
 unfold Atr at hp;refine cwf (l:=[_,_,_]) Tryz.func48 rfl rfl (AOv<|Ao1 (Kst.k0 h) [(.int .i64 a5),Aw,Ax] λDj Dk Dl Az=>AO1<|AOx<|AOv<|Ajl Ape Aia (Az.b p0) 1 rfl (Ahw APa rfl H7 (AOr<|AOz<|AO0<|Aqu 2199019062592 hp (λx=>[(22,(.int .i64 x))]) (λx=>Az.L) Az ⟨rfl,trivial⟩ ?_)));rintro Do Dp Dq Dr Ac A3 A4;unfold Aql at A3;refine AOv<|Aho rfl rfl (AOz<|AOx<|⟨_,rfl,λA5=>?_,λA5=>?_⟩)
 ·refine AO4<|q_t<|AOx<|AO0<|AOv ?_;obtain ⟨Ds,Cd,Ce⟩:=AOw<|Ahx A3 A5;refine An4 APa Ahb H7 Ac.x Cd λ_ Dt Bv=>Ah4<|AOr<|Aio APd rfl Bv (AOr<|AOz<|AO0<|Aqu 1099243193408 Ce (λx=>[(28,(.int .i64 x))]) (λx=>Ac.L) Ac ⟨rfl,trivial⟩ ?_);rintro Du Dv Dw Dx Ae A6 A7;unfold Atg at A6;refine AOv<|Aho rfl rfl (AOz<|AOx<|⟨_,rfl,λA8=>?_,λA8=>?_⟩)
  ·refine AO4<|q_t<|AOx<|AO0<|AOv ?_;obtain ⟨Cf,Cg,Bw⟩:=AOw<|Ahx A6 A8;refine A1l APd AO9 Bv Ae.x Cg λ_=>(Ah4<|AOr<|Aho rfl rfl (AOr ?_));by_cases Ak:Cf < 0
   ·rw [decide_eq_true Ak];refine Alb 34 true<|Ag7 rfl (AOz<|Ahn rfl (AOv<|AO1<|AO6<|Aiq<|Ag9<|Ag9<|Aiq<|Aiq<|Ag9<|Ag9<|Aiq<|Ag9 ?_));obtain rfl:=AOu<|A4 _ (AOu<|A7 _ (AOu<|ifT Bw Ak).symm).symm;exact ⟨_,AO7,Ae.x,rfl⟩
   ·have Bx:=ifF Bw Ak;rw [decide_eq_false Ak];refine Ag8 34 false<|AOr<|Ag8 34 false<|AOr<|Ag8 34 false<|Auh rfl rfl (APb rfl (AOz<|⟨_,rfl,λA9=>?_,λA9=>?_⟩))
    ·refine AOv<|AO1<|AO6<|Aiq<|Ag9<|Ag9<|Aiq<|Aiq<|Ag9<|Ag9<|Aiq<|Ag9 ?_;obtain rfl:=AOu<|A4 _ (AOu<|A7 _ (AOu<|Ahx Bx A9).symm).symm;exact ⟨_,AO7,Ae.x,rfl⟩
    ·refine AO4<|q_b<|q_t<|Ag6<|Ahp rfl rfl (AOr<|AOz ?_);exact ⟨_,(AOu<|Ahy Bx A9).symm,Ae,rfl,trivial⟩
  ·refine Ahf<|Ahg<|Ahg<|Aim<|q_b<|q_t<|Ag6<|Ahp rfl rfl (AOr<|AOz ?_);exact ⟨_,(AOu<|A7 _ (AOu<|Ahy A6 A8).symm).symm,Ae,rfl,trivial⟩
 ·refine Ahf<|Ahg<|Ahg<|Aim<|q_t<|AOx<|AOv<|Ajl Ape Aia (Ac.b p0) 1 rfl (Ajl Aqn AO9 (Ac.b p0) 0 rfl ?_);obtain ⟨⟨Dy,Dz⟩,Ch,Ba⟩:=AOw<|A4 _ (AOu<|Ahy A3 A5).symm;dsimp only at Ba;refine Aj5 Ac (A5v (H7.ext Ac.x) Ch) λD0 D1 Af=>AOr<|Ait rfl rfl (Ait rfl rfl (Ahl<|Ah4<|AOr<|Aiy rfl rfl (AOz<|⟨_,rfl,λBb=>?_,λBb=>?_⟩)))
  ·refine AOv<|AO1<|AO6<|Ag9 ?_;obtain rfl:=AOu<|Ahx Ba Bb;exact ⟨_,AO7,Af.x,rfl⟩
  ·refine AO4<|q_t<|AOv<|AOr<|Ajl Ape Aia (Af.b p0) 1 rfl (AOr ?_);obtain ⟨⟨D2,D3⟩,Ci,By⟩:=AOw<|Ahy Ba Bb;dsimp only at By;refine Aqy rfl (A0n (H2.ext Af.x) (H7.ext Af.x) Ci) λD4 D5 Cj Ck=>?_;obtain ⟨D6,D7,D8,D9,rfl,Cm,Cn⟩:=Ck;refine AOr<|Ait rfl rfl (Ait rfl rfl (Ahl<|AO1<|AOx<|AOv<|AOr ?_));have Bc:=Af.no2 Cj Cn Cm;refine Ahw APa rfl (Bc.o2 p0).rd (AOr<|AOz<|AO0<|Aqu 1329227995784915870597964051067142208 By (λx=>[(61,(.int .i64 x))]) (λx=>Bc.L) Bc ⟨rfl,trivial⟩ ?_);rintro Ag Ea Be Eb Aa Bf Ah;unfold Ati at Bf;refine AOv<|Aho rfl rfl (AOz<|AOx<|⟨_,rfl,λBg=>?_,λBg=>?_⟩)
   ·refine AO4<|q_t<|AOx<|AO0<|AOv<|AOr ?_;obtain ⟨Ec,Bz,Co⟩:=AOw<|Ahx Bf Bg;refine Ai2 APa Ahb (Aa.o2 p0) Bz λ_ Ed Am=>Ahl<|AO1 ?_;obtain ⟨Cp,Cq,Bh⟩:=AOw Co;refine Aqt 77371178668359972342988864 (λx:Unit=>[]) (λx h'=>(Sum.inr <| ())=Cp/\Kst h h' (Aa.L)) ?_ ?_
    ·refine AOx<|Aiz (λh'=>UpT [] Be h') AO5 ?_;have Ad:UpT [] Be Be:=UpT.start all_nil;refine AOr<|AOr ?_;obtain ⟨Ee,Ao,Cr⟩:=AOw Cq;obtain ⟨Ct,Ap,B1⟩:=AOw Cr;refine Ain (m:=Ag) APd rfl (Aa.o2 p0) Am Ao rfl Ap λEf Cu=>?_;obtain ⟨Eg,Cv,Cw⟩:=(Aa.o2 p0).cells Cu Ao Ap;obtain rfl:=Cv;refine Ahk AO9 rfl Ad (λh' hb=>AO8 (Cw 0 _ rfl) hb.ext) (Aiy rfl rfl (AOr ?_));by_cases Aq:Ct=0
     ·rw [decide_eq_true Aq];refine Ald 71 true<|Ald 71 true<|Alb 71 true<|Ag7 rfl (AOz<|Ahn rfl (AOv<|AO1 ?_));obtain rfl:=AOu<|ifT B1 Aq;refine AO6<|Ag9<|Aiq<|Ag9<|Ag9<|Aiq<|Ag9 ?_;obtain rfl:=AOu<|Ah _ (AOu Bh).symm;exact ⟨_,AO7,Aa.x,rfl⟩
     ·rw [decide_eq_false Aq];refine Ag8 71 false<|Ah1 Anw rfl (Ag8 71 false<|Ahk At1 rfl Ad (λh' hb=>((Aa.b p1).ext hb.ext).cell (i:=2) rfl) (Ag8 71 false<|AOr<|Ag8 71 false ?_));obtain ⟨Eh,Cx,Cy⟩:=AOw<|ifF B1 Aq;refine Aqe (c:=Ar1) Asz rfl Ay rfl Cx λEi Ej Ek Cz C0=>?_;obtain rfl:=Cz;refine Ag8 71 false<|Ayi (c:=Ar1) (h0:=h) Atw rfl rfl Ad (λh' hb j u hu=>AO8 (C0 j u hu)<|Aa.x.trans hb.ext) (Ag8 71 false<|AOr<|Ag8 71 false<|AOr<|Ag8 71 false<|Ain (m:=Ag) APd rfl (Aa.o2 p0) Am Ao rfl Ap λEl C1=>Ag8 71 false ?_);obtain ⟨Em,C2,C3⟩:=(Aa.o2 p0).cells C1 Ao Ap;obtain rfl:=C2;refine Ahk AO9 rfl Ad (λh' hb=>AO8 (C3 0 _ rfl) hb.ext) (Ag8 71 false<|Ah1 Aqn rfl (Ag8 71 false<|Ahk AO9 rfl Ad (λh' hb=>((Aa.b p1).ext hb.ext).cell (i:=0) rfl) (Ag8 71 false ?_)));obtain ⟨En,C4,B3⟩:=AOw Cy;refine A1m Aa Ad (A42 C4) λEo Ep B4 Er=>Ag8 71 false<|BOt AO5 rfl rfl (BR3 _ _ _ _ _ _ _ _ _ _) (APb rfl (AOz<|⟨_,rfl,λBi=>?_,λBi=>?_⟩))
      ·refine AOv<|AO1 ?_;obtain rfl:=AOu<|ifT B3 Bi;refine AO6<|Ag9<|Aiq<|Ag9<|Ag9<|Aiq<|Ag9 ?_;obtain rfl:=AOu<|Ah _ (AOu Bh).symm;exact ⟨_,AO7,B4.x,rfl⟩
      ·refine AO4<|q_t ?_;exact ⟨(():Unit),⟨AOu<|Aoy B3 Bi,B4⟩,trivial⟩
    rintro ⟨⟩ Es Et ⟨C5,Ab⟩;subst C5;obtain ⟨C6,B5,B6⟩:=AOw Bh;refine Aqt 20282332232399215087680070090816 (λx:Unit=>[]) (λx h'=>(Sum.inr <| ())=C6/\Kst h h' (Ab.L)) ?_ ?_
    ·refine AOx<|Ana<|AOr<|An0 rfl rfl (AOr ?_);by_cases Ar:0 < Ag
     ·rw [decide_eq_true Ar];refine Ag8 88 true<|Ah1 Anw rfl (Ag8 88 true<|Aht At1 rfl ((Ab.b p1).cell (i:=2) rfl) (Ag8 88 true<|AOr<|Ag8 88 true ?_));obtain ⟨Eu,C7,C8⟩:=AOw<|ifT B5 Ar;refine Aqe (c:=Ar1) Asz rfl Ay rfl C7 λEv Ew Ey C9 Da=>?_;obtain rfl:=C9;refine Ag8 88 true<|Ah1 Apf rfl (Ag8 88 true<|Aht Aiw rfl (AO8 (Da 0 _ rfl) Ab.x) (Ag8 88 true<|Ah1 Anw rfl (Ag8 88 true<|Aht At1 rfl ((Ab.b p1).cell (i:=2) rfl) (Ag8 88 true<|AOr<|Ag8 88 true<|Anj rfl rfl (Ag8 88 true ?_)))));obtain ⟨Ez,Db,B7⟩:=AOw C8;refine Aqe (c:=Ar1) Asz rfl Ay rfl Db λFa Fb Fc Dc Dd=>?_;obtain rfl:=Dc;refine Ag8 88 true<|Ah1 Apf rfl (Ag8 88 true<|Aht Aiw rfl (AO8 (Dd 0 _ rfl) Ab.x) (Ag8 88 true<|Aho rfl rfl (Ag7 rfl (AOz<|⟨_,rfl,λBj=>?_,λBj=>?_⟩))))
      ·refine AOv<|AO1 ?_;obtain rfl:=AOu<|Ahx B7 Bj;refine AO6<|Ag9<|Aiq<|Ag9<|Ag9<|Aiq<|Ag9 ?_;obtain rfl:=AOu<|Ah _ (AOu B6).symm;exact ⟨_,AO7,Ab.x,rfl⟩
      ·refine AO4<|q_t ?_;exact ⟨(():Unit),⟨AOu<|Ahy B7 Bj,Ab⟩,trivial⟩
     ·rw [decide_eq_false Ar];refine Ald 88 false<|Ald 88 false<|Alo 88 false<|APb rfl (AOz<|Ahs rfl (AO4<|q_t ?_));exact ⟨(():Unit),⟨AOu<|ifF B5 Ar,Ab⟩,trivial⟩
    rintro ⟨⟩ Fd Fe ⟨De,Bl⟩;subst De;refine AOv<|AOr<|Aio APd rfl ((Bl.o2 p0).rowI Am Bz) (AOr<|AOz<|AO0<|Aqu 664532868254043329770207741135421504 B6 (λx=>[(106,(.int .i64 x))]) (λx=>Bl.L) Bl ⟨rfl,trivial⟩ ?_);rintro Df Ff Fg Fh Ai Bm B8;unfold Ath at Bm;refine AOv<|Aho rfl rfl (AOz<|AOx<|⟨_,rfl,λBn=>?_,λBn=>?_⟩)
    ·refine AO4<|q_t<|AOx<|AO0<|AOv<|AOr ?_;obtain ⟨Fi,Dg,Dh⟩:=AOw<|Ahx Bm Bn;obtain ⟨Fj,Di,B9⟩:=AOw Dh;refine At4 (m:=Ag) APd AO9 (Ai.o2 p0) Am Dg Di λ_=>(Ahl<|Ah4<|AOr<|AOr<|Ajq rfl rfl (AOr ?_));by_cases Au: ¬ Df=Ag
     ·have Ca:=ifT B9 Au;rw [decide_eq_true Au];refine Ag8 114 true<|AOr<|Ag8 114 true<|Ajq rfl rfl (Ag7 rfl (AOz<|⟨_,rfl,λBo=>?_,λBo=>?_⟩))
      ·refine AOv<|AO1<|AO6<|Aiq<|Ag9<|Ag9<|Aiq<|Aiq<|Ag9<|Ag9<|Aiq<|Ag9 ?_;obtain rfl:=AOu<|Ah _ (AOu<|B8 _ (AOu<|Ahx Ca Bo).symm).symm;exact ⟨_,AO7,Ai.x,rfl⟩
      ·refine AO4<|q_b<|q_t<|Ag6<|Ahp rfl rfl (AOr<|AOz ?_);exact ⟨_,(AOu<|Ahy Ca Bo).symm,Ai,rfl,trivial⟩
     ·rw [decide_eq_false Au];refine Aol 114 false<|APb rfl (AOz<|Ahs rfl (AO4<|q_b<|q_t<|Ag6<|Ahp rfl rfl (AOr<|AOz ?_)));exact ⟨_,(AOu<|ifF B9 Au).symm,Ai,rfl,trivial⟩
    ·refine Ahf<|Ahg<|Ahg<|Aim<|q_b<|q_t<|Ag6<|Ahp rfl rfl (AOr<|AOz ?_);exact ⟨_,(AOu<|B8 _ (AOu<|Ahy Bm Bn).symm).symm,Ai,rfl,trivial⟩
   ·refine Ahf<|Ahg<|Ahg<|Aim<|q_t<|AOv<|AO1<|AO6 ?_;obtain rfl:=AOu<|Ah _ (AOu<|Ahy Bf Bg).symm;exact ⟨_,AO7,Aa.x,rfl⟩
noncomputable def Aqm (fuel:Nat) (a3 a8:LiI) (Aa:Int):Option (Int ⊕ (Int ⊕ Unit)):=
 if Aa < (a8.length:Int) then (gI a8 Aa).bind λAd=>if ¬ (Ad.length:Int)=(a3.length:Int) then some (.inr<|.inl 3) else some (.inl<|w64<|Aa + 1) else some<|.inr<|.inr ()
noncomputable def Apr (fuel:Nat) (a3:LiI) (a5:Int) (a8:LiI) (Ad:List Alq):Option Int:=
 (A0i fuel a3).bind λAe=>if (!Ae)=true then some 6 else (Awy fuel a5).bind λAf=>if (!Af)=true then some 20 else ((if ¬ (a8.length:Int)=(a3.length:Int) then some (.inl 3) else if ¬ (Ad.length:Int)=(a3.length:Int) then some (.inl 3) else some<|.inr ()):Option (Int ⊕ Unit)).bind (λex=>match ex with | .inl Ag=>(some Ag) | .inr _=>(iter (λs=>Aqm fuel a3 a8 s) fuel 0).bind (λex=>match ex with | .inl Ah=>(some Ah) | .inr _=>(Anm fuel a3 a5).bind λAi=>(Aun fuel a5 Ai).bind λAj=>(Atr fuel a3 a5 a8 Ad Aj).bind λAk=>if (!Ak)=true then some 10 else some 0))
theorem Ayx {A4:Value} {Ad:Value} {a8:LiI} {Ae:Value} {A5:(List Alq)} {r:Int} (H2:Ajx (cI .i64) h A4 a3) (H7:Ajx (cI .i64) h Ad a8) (A6:SlC Ar1 h Ae A5) (HO:A26 h) (hp:Apr fuel a3 a5 a8 A5=some r):Ahq Tryz.prog 16 #[A4,(.agg #[(.int .i64 a5),Ad,Ae])] h (λx h'=>Ext h h'/\x= .int .i64 r):=by
 unfold Apr at hp;refine cwf (l:=[_,_]) Tryz.func16 rfl rfl (AOv<|Ao1 (Kst.k0 h) [(.int .i64 a5),Ad,Ae] λBx By Bz A7=>AO1<|AOx<|AOv<|AOr ?_);obtain ⟨B1,Bh,A8⟩:=AOw hp;refine Aj5 A7 (A72 (H2.ext A7.x) Bh) λB3 B4 Ah=>Akg rfl (AOz<|⟨_,rfl,λAp=>?_,λAp=>?_⟩)
 ·refine AOv<|AO1<|AO6<|Ag9 ?_;obtain rfl:=AOu<|ifT A8 Ap;exact ⟨_,AO7,Ah.x,rfl⟩
 ·refine AO4<|q_t<|AOx<|AOv<|Ajl Aqn AO9 (Ah.b p0) 0 rfl ?_;obtain ⟨B5,Bi,A9⟩:=AOw<|Aoy A8 Ap;refine Aj5 Ah (A2i (HO.ext Ah.x) Bi) λB6 B7 Ab=>Akg rfl (AOz<|⟨_,rfl,λAq=>?_,λAq=>?_⟩)
  ·refine AOv<|AO1<|AO6<|Ag9 ?_;obtain rfl:=AOu<|ifT A9 Aq;exact ⟨_,AO7,Ab.x,rfl⟩
  ·refine AO4<|q_t<|AOv<|AOr<|Ahw APa rfl H2 (AO1 ?_);obtain ⟨Bj,Ba,Ar⟩:=AOw<|Aoy A9 Aq;refine Aqt 536739856 (λx:Unit=>[]) (λx h'=>(Sum.inr <| ())=Bj/\Kst h h' (Ab.L)) ?_ ?_
   ·refine AOv<|Ajl Ape Aia (Ab.b p0) 1 rfl (Ahw APa rfl H7 (AOr<|Ajq rfl rfl (AOr ?_)));by_cases Ai: ¬ (a8.length:Int)=(a3.length:Int)
    ·rw [decide_eq_true Ai];refine Ald 22 true<|Ag7 rfl (AOz<|Ahn rfl (AOv<|AO1 ?_));obtain rfl:=AOu<|ifT Ba Ai;refine AO6<|Ag9 ?_;obtain rfl:=AOu Ar;exact ⟨_,AO7,Ab.x,rfl⟩
    ·have Bb:=ifF Ba Ai;rw [decide_eq_false Ai];refine Ag8 22 false<|Ah1 Anw rfl (Ag8 22 false<|Aht At1 rfl ((Ab.b p0).cell (i:=2) rfl) (Ag8 22 false<|Aio Asz rfl A6 (Ag8 22 false<|AOr<|Ag8 22 false<|Ajq rfl rfl (APb rfl (AOz<|⟨_,rfl,λAu=>?_,λAu=>?_⟩)))))
     ·refine AOv<|AO1 ?_;obtain rfl:=AOu<|Ahx Bb Au;refine AO6<|Ag9 ?_;obtain rfl:=AOu Ar;exact ⟨_,AO7,Ab.x,rfl⟩
     ·refine AO4<|q_t ?_;exact ⟨(():Unit),⟨AOu<|Ahy Bb Au,Ab⟩,trivial⟩
   rintro ⟨⟩ B8 B9 ⟨Bl,Av⟩;subst Bl;refine AOx<|AOv<|Ajl Ape Aia (Av.b p0) 1 rfl (Ahw APa rfl H7 (AOr<|AOz<|AO0<|Aqu 2194728288400 Ar (λx=>[(32,(.int .i64 x))]) (λx=>Av.L) Av ⟨rfl,trivial⟩ ?_));rintro Ca Cb Aw Cd Aa Ax Bc;unfold Aqm at Ax;refine AOv<|Aho rfl rfl (AOz<|AOx<|⟨_,rfl,λAy=>?_,λAy=>?_⟩)
   ·refine AO4<|q_t<|AOx<|AO0<|AOv ?_;obtain ⟨Ce,Bm,Be⟩:=AOw<|Ahx Ax Ay;refine An4 APa Ahb H7 Aa.x Bm λ_ Cf Bn=>Ah4<|AOr<|Aio APd rfl Bn (AOr<|Ajq rfl rfl (AOz<|⟨_,rfl,λAz=>?_,λAz=>?_⟩))
    ·refine AOv<|AO1<|AO6<|Aiq<|Ag9<|Ag9<|Aiq<|Ag9 ?_;obtain rfl:=AOu<|Bc _ (AOu<|Ahx Be Az).symm;exact ⟨_,AO7,Aa.x,rfl⟩
    ·refine AO4<|q_b<|q_t<|Ag6<|Ahp rfl rfl (AOr<|AOz ?_);exact ⟨_,(AOu<|Ahy Be Az).symm,Aa,rfl,trivial⟩
   ·refine Ahf<|Ahg<|Ahg<|Aim<|q_t<|AOx<|AOx<|Aiz (λh'=>UpT [] Aw h') AO5 ?_;have Aj:UpT [] Aw Aw:=UpT.start all_nil;refine AOr<|Ao4 [(.int .i64 a5),Ad,Ae] Ai8 rfl rfl Aj (λh' hb=>((Aa.b p0).ext hb.ext).agg) (Ah1 Aqn rfl (Ahk AO9 rfl Aj (λh' hb=>((Aa.b p0).ext hb.ext).cell (i:=0) rfl) (AOr<|Ah1 Aqn rfl (Ahk AO9 rfl Aj (λh' hb=>((Aa.b p0).ext hb.ext).cell (i:=0) rfl) ?_))));obtain ⟨Cg,Bo,Bp⟩:=AOw<|Bc _ (AOu<|Ahy Ax Ay).symm;refine A1m Aa Aj (Atz (H2.ext Aa.x) (HO.ext Aa.x) Bo) λCh Ci Bq Br=>?_;obtain ⟨Cj,Bt,Bu⟩:=AOw Bp;refine A1m Bq Br (A4r Bt) λCk Cm Ak Bv=>?_;obtain ⟨Cn,Bw,Bf⟩:=AOw Bu;refine A1m Ak Bv (A34 (H2.ext Ak.x) (H7.ext Ak.x) (A6.ext Ak.x) Bw) λCo Cp Bg Cq=>Akg rfl (AOz<|⟨_,rfl,λA3=>?_,λA3=>?_⟩)
    ·refine AOv<|AO1<|AO6<|Ag9 ?_;obtain rfl:=AOu<|ifT Bf A3;exact ⟨_,AO7,Bg.x,rfl⟩
    ·refine AO4<|q_t<|AOv<|AO1<|AO6 ?_;obtain rfl:=AOu<|Aoy Bf A3;exact ⟨_,AO7,Bg.x,rfl⟩
def Aoc (fuel:Nat) (a1 a2 a3 a4 a5 a6 a7:Int):Option Bool:=
 ((if a6=2 then some (w64<|a7 - 3) else some<|w64<|a7 - 1):Option Int).bind (λ(Ai:Int)=>((if a1 < 0 then some (.inl false) else if Ai < a1 then some (.inl false) else some<|.inr ()):Option (Bool ⊕ Unit)).bind (λex=>match ex with | .inl Aj=>(some Aj) | .inr _=>(Ajk fuel a6<|w64<|a7 - a1).bind λAe=>if a2=1 then if 0 < a3 then if a3 < Ae then if a6≠0 then if ¬ (Int.tmod a3 a6)=0 then if a4=0 then some (decide (a5=0)) else some false else some false else none else some false else some false else if 0<=a3 then if a3 < Ae then if 0<=a4 then if a4 < Ae then if 0<=a5 then if a5 < Ae then if Int.tmod a3 2=0 then if Int.tmod a4 2=1 then some (decide (Int.tmod a5 2=0)) else some false else some false else some false else some false else some false else some false else some false else some false))
theorem Ay7 {a3 a4 a6 a7:Int} (hp:Aoc fuel a1 a2 a3 a4 a5 a6 a7=some r):Ahq Tryz.prog 87 #[(.agg #[(.int .i64 a1),(.int .i64 a2),(.int .i64 a3),(.int .i64 a4),(.int .i64 a5)]),(.int .i64 a6),(.int .i64 a7)] h (λx h'=>Ext h h'/\x= .bool r):=by
 unfold Aoc at hp;refine cwf (l:=[_,_,_]) Tryz.func87 rfl rfl (AOv<|Ao1 (Kst.k0 h) [(.int .i64 a1),(.int .i64 a2),(.int .i64 a3),(.int .i64 a4),(.int .i64 a5)] λb8 h9 B4 A4=>Ah4<|AOr<|Anj rfl rfl (AO1 ?_));obtain ⟨Bt,A9,Bu⟩:=AOw hp;refine Aqt 30848 (λx:(Int)=>[(7,(.int .i64 x))]) (λx h'=>( x)=Bt/\Kst h h' (A4.L)) ?_ ?_
 ·refine AOv<|AOr<|Aiy rfl rfl (AOz<|⟨_,rfl,λA5=>?_,λA5=>?_⟩)
  ·refine Ag6<|AOr<|Anj rfl rfl (AO1 ?_);exact ⟨((w64<|a7 - 3):(Int)),⟨AOu<|Ahx A9 A5,A4⟩,rfl,trivial⟩
  ·refine AO4<|q_t ?_;exact ⟨((w64<|a7 - 1):(Int)),⟨AOu<|Ahy A9 A5,A4⟩,rfl,trivial⟩
 rintro B5 B6 B7 ⟨Bv,Ad⟩;subst Bv;obtain ⟨Bw,Ba,A6⟩:=AOw Bu;refine Aqt 16744512 (λx:Unit=>[]) (λx h'=>(Sum.inr <| ())=Bw/\Kst h h' (Ad.L)) ?_ ?_
 ·refine AOv<|Ajl Apf Aiw (Ad.b p0) 0 rfl (Aho rfl rfl (AOr ?_));by_cases Ah:a1 < 0
  ·rw [decide_eq_true Ah];refine Alo 18 true<|Ag7 rfl (AOz<|Ahn rfl (AOv<|AO1 ?_));obtain rfl:=AOu<|ifT Ba Ah;refine AO6<|Ag9 ?_;obtain rfl:=AOu A6;exact ⟨_,AO7,Ad.x,rfl⟩
  ·have Bb:=ifF Ba Ah;rw [decide_eq_false Ah];refine Ag8 18 false<|Ah1 Apf rfl (Ag8 18 false<|Aht Aiw rfl ((Ad.b p0).cell (i:=0) rfl) (Ag8 18 false<|AOr<|Ag8 18 false<|An0 rfl rfl (APb rfl (AOz<|⟨_,rfl,λA7=>?_,λA7=>?_⟩))))
   ·refine AOv<|AO1 ?_;obtain rfl:=AOu<|Ahx Bb A7;refine AO6<|Ag9 ?_;obtain rfl:=AOu A6;exact ⟨_,AO7,Ad.x,rfl⟩
   ·refine AO4<|q_t ?_;exact ⟨(():Unit),⟨AOu<|Ahy Bb A7,Ad⟩,trivial⟩
 rintro ⟨⟩ B8 B9 ⟨Bx,Bc⟩;subst Bx;refine AOv<|AOr<|AOr<|Ajl Apf Aiw (Bc.b p0) 0 rfl (Anj rfl rfl ?_);obtain ⟨Ai,By,Be⟩:=AOw A6;refine Aj5 Bc (Alk By) λCa Cb Aa=>AO1<|AOx<|AOv<|Ajl A2u Aiw (Aa.b p0) 1 rfl (Aiy rfl rfl (AOz<|⟨_,rfl,λA8=>?_,λA8=>?_⟩))
 ·refine AOv<|Ajl At2 AO9 (Aa.b p0) 2 rfl (An0 rfl rfl (AOr ?_));have Bf:=Ahx Be A8;by_cases Aj:0 < a3
  ·have Bg:=ifT Bf Aj;rw [decide_eq_true Aj];refine Ag8 36 true<|Ah1 At2 rfl (Ag8 36 true<|Aht AO9 rfl ((Aa.b p0).cell (i:=2) rfl) (Ag8 36 true<|AOr<|Ag8 36 true<|Aho rfl rfl (Ag7 rfl (AOr ?_))));by_cases Ak:a3 < Ai
   ·rw [decide_eq_true Ak];refine Ag8 42 true<|Ah1 At2 rfl (Ag8 42 true<|Aht AO9 rfl ((Aa.b p0).cell (i:=2) rfl) (Ag8 42 true<|AOr<|Ag8 42 true ?_));obtain ⟨Bz,Bh⟩:=ifN<|ifT Bg Ak;refine Ajh rfl rfl Bz (Ag8 42 true<|Ajq rfl rfl (Ag7 rfl (AOr ?_)));by_cases Am: ¬ (Int.tmod a3 a6)=0
    ·have Bi:=ifT Bh Am;rw [decide_eq_true Am];refine Ag8 49 true<|Ah1 Ax1 rfl (Ag8 49 true<|Aht AO9 rfl ((Aa.b p0).cell (i:=3) rfl) (Ag8 49 true<|Aiy rfl rfl (Ag7 rfl (AOr ?_))));by_cases Ao:a4=0
     ·rw [decide_eq_true Ao];refine Ag8 54 true<|Ah1 Azh rfl (Ag8 54 true<|Aht AO9 rfl ((Aa.b p0).cell (i:=4) rfl) (Ag8 54 true<|Aiy rfl rfl (Ag7 rfl (AO1<|AO6<|Ag9 ?_))));obtain rfl:=AOu<|ifT Bi Ao;exact ⟨_,AO7,Aa.x,rfl⟩
     ·rw [decide_eq_false Ao];refine Alb 54 false<|APb rfl (AO1<|AO6<|Ag9 ?_);obtain rfl:=AOu<|ifF Bi Ao;exact ⟨_,AO7,Aa.x,rfl⟩
    ·rw [decide_eq_false Am];refine Alb 49 false<|APb rfl (AOr<|Alb 54 false<|APb rfl (AO1<|AO6<|Ag9 ?_));obtain rfl:=AOu<|ifF Bh Am;exact ⟨_,AO7,Aa.x,rfl⟩
   ·rw [decide_eq_false Ak];refine Ald 42 false<|APb rfl (AOr<|Alb 49 false<|APb rfl (AOr<|Alb 54 false<|APb rfl (AO1<|AO6<|Ag9 ?_)));obtain rfl:=AOu<|ifF Bg Ak;exact ⟨_,AO7,Aa.x,rfl⟩
  ·rw [decide_eq_false Aj];refine Alo 36 false<|APb rfl (AOr<|Ald 42 false<|APb rfl (AOr<|Alb 49 false<|APb rfl (AOr<|Alb 54 false<|APb rfl (AO1<|AO6<|Ag9 ?_))));obtain rfl:=AOu<|ifF Bf Aj;exact ⟨_,AO7,Aa.x,rfl⟩
 ·refine AO4<|q_t<|AOv<|Ajl At2 AO9 (Aa.b p0) 2 rfl (Auh rfl rfl (AOr ?_));have Bj:=Ahy Be A8;by_cases Ap:0<=a3
  ·have Bl:=ifT Bj Ap;rw [decide_eq_true Ap];refine Ag8 62 true<|Ah1 At2 rfl (Ag8 62 true<|Aht AO9 rfl ((Aa.b p0).cell (i:=2) rfl) (Ag8 62 true<|AOr<|Ag8 62 true<|Aho rfl rfl (Ag7 rfl (AOr ?_))));by_cases Aq:a3 < Ai
   ·have Bm:=ifT Bl Aq;rw [decide_eq_true Aq];refine Ag8 68 true<|Ah1 Ax1 rfl (Ag8 68 true<|Aht AO9 rfl ((Aa.b p0).cell (i:=3) rfl) (Ag8 68 true<|Auh rfl rfl (Ag7 rfl (AOr ?_))));by_cases Ar:0<=a4
    ·have Bn:=ifT Bm Ar;rw [decide_eq_true Ar];refine Ag8 73 true<|Ah1 Ax1 rfl (Ag8 73 true<|Aht AO9 rfl ((Aa.b p0).cell (i:=3) rfl) (Ag8 73 true<|AOr<|Ag8 73 true<|Aho rfl rfl (Ag7 rfl (AOr ?_))));by_cases Au:a4 < Ai
     ·have Bo:=ifT Bn Au;rw [decide_eq_true Au];refine Ag8 79 true<|Ah1 Azh rfl (Ag8 79 true<|Aht AO9 rfl ((Aa.b p0).cell (i:=4) rfl) (Ag8 79 true<|Auh rfl rfl (Ag7 rfl (AOr ?_))));by_cases Av:0<=a5
      ·have Bp:=ifT Bo Av;rw [decide_eq_true Av];refine Ag8 84 true<|Ah1 Azh rfl (Ag8 84 true<|Aht AO9 rfl ((Aa.b p0).cell (i:=4) rfl) (Ag8 84 true<|AOr<|Ag8 84 true<|Aho rfl rfl (Ag7 rfl (AOr ?_))));by_cases Aw:a5 < Ai
       ·have Bq:=ifT Bp Aw;rw [decide_eq_true Aw];refine Ag8 90 true<|Ah1 At2 rfl (Ag8 90 true<|Aht AO9 rfl ((Aa.b p0).cell (i:=2) rfl) (Ag8 90 true<|Ajh rfl rfl AOs (Ag8 90 true<|Aiy rfl rfl (Ag7 rfl (AOr ?_)))));by_cases Ax:(Int.tmod a3 2)=0
        ·have Br:=ifT Bq Ax;rw [decide_eq_true Ax];refine Ag8 96 true<|Ah1 Ax1 rfl (Ag8 96 true<|Aht AO9 rfl ((Aa.b p0).cell (i:=3) rfl) (Ag8 96 true<|Ajh rfl rfl AOs (Ag8 96 true<|Aiy rfl rfl (Ag7 rfl (AOr ?_)))));by_cases Ay:(Int.tmod a4 2)=1
         ·rw [decide_eq_true Ay];refine Ag8 102 true<|Ah1 Azh rfl (Ag8 102 true<|Aht AO9 rfl ((Aa.b p0).cell (i:=4) rfl) (Ag8 102 true<|Ajh rfl rfl AOs (Ag8 102 true<|Aiy rfl rfl (Ag7 rfl (AO1<|AO6 ?_)))));obtain rfl:=AOu<|ifT Br Ay;exact ⟨_,AO7,Aa.x,rfl⟩
         ·rw [decide_eq_false Ay];refine Alo 102 false<|APb rfl (AO1<|AO6 ?_);obtain rfl:=AOu<|ifF Br Ay;exact ⟨_,AO7,Aa.x,rfl⟩
        ·rw [decide_eq_false Ax];refine Alo 96 false<|APb rfl (AOr<|Alo 102 false<|APb rfl (AO1<|AO6 ?_));obtain rfl:=AOu<|ifF Bq Ax;exact ⟨_,AO7,Aa.x,rfl⟩
       ·rw [decide_eq_false Aw];refine Alo 90 false<|APb rfl (AOr<|Alo 96 false<|APb rfl (AOr<|Alo 102 false<|APb rfl (AO1<|AO6 ?_)));obtain rfl:=AOu<|ifF Bp Aw;exact ⟨_,AO7,Aa.x,rfl⟩
      ·rw [decide_eq_false Av];refine Alo 84 false<|APb rfl (AOr<|Alo 90 false<|APb rfl (AOr<|Alo 96 false<|APb rfl (AOr<|Alo 102 false<|APb rfl (AO1<|AO6 ?_))));obtain rfl:=AOu<|ifF Bo Av;exact ⟨_,AO7,Aa.x,rfl⟩
     ·rw [decide_eq_false Au];refine Alb 79 false<|APb rfl (AOr<|Alo 84 false<|APb rfl (AOr<|Alo 90 false<|APb rfl (AOr<|Alo 96 false<|APb rfl (AOr<|Alo 102 false<|APb rfl (AO1<|AO6 ?_)))));obtain rfl:=AOu<|ifF Bn Au;exact ⟨_,AO7,Aa.x,rfl⟩
    ·rw [decide_eq_false Ar];refine Alo 73 false<|APb rfl (AOr<|Alb 79 false<|APb rfl (AOr<|Alo 84 false<|APb rfl (AOr<|Alo 90 false<|APb rfl (AOr<|Alo 96 false<|APb rfl (AOr<|Alo 102 false<|APb rfl (AO1<|AO6 ?_))))));obtain rfl:=AOu<|ifF Bm Ar;exact ⟨_,AO7,Aa.x,rfl⟩
   ·rw [decide_eq_false Aq];refine Alb 68 false<|APb rfl (AOr<|Alo 73 false<|APb rfl (AOr<|Alb 79 false<|APb rfl (AOr<|Alo 84 false<|APb rfl (AOr<|Alo 90 false<|APb rfl (AOr<|Alo 96 false<|APb rfl (AOr<|Alo 102 false<|APb rfl (AO1<|AO6 ?_)))))));obtain rfl:=AOu<|ifF Bl Aq;exact ⟨_,AO7,Aa.x,rfl⟩
  ·rw [decide_eq_false Ap];refine Alo 62 false<|APb rfl (AOr<|Alb 68 false<|APb rfl (AOr<|Alo 73 false<|APb rfl (AOr<|Alb 79 false<|APb rfl (AOr<|Alo 84 false<|APb rfl (AOr<|Alo 90 false<|APb rfl (AOr<|Alo 96 false<|APb rfl (AOr<|Alo 102 false<|APb rfl (AO1<|AO6 ?_))))))));obtain rfl:=AOu<|ifF Bj Ap;exact ⟨_,AO7,Aa.x,rfl⟩
def Aq8 (fuel:Nat) (a3:List Alq) (a6 a7 Aa Ah:Int) (Ae:LiI):Option ((Int × Int × LiI) ⊕ LiI):=
 if Ah < (a3.length:Int) then (gI a3 Ah).bind λAc=>(Ajk fuel a6 Ac.1).bind λAd=>(gI Ae Aa).bind λAf=>if a7≠0 then (gI Af Aa).bind λAp=>((if Ac.2.1=2 then (gI (sI Ae Aa<|sI Af Aa<|Int.tmod (w64<|Ad * Ac.2.2.1) a7) Aa).bind λAg=>if a7≠0 then (gI Ag<|w64<|Aa + 1).bind λAq=>(gI (sI (sI Ae Aa<|sI Af Aa<|Int.tmod (w64<|Ad * Ac.2.2.1) a7) Aa<|sI Ag (w64<|Aa + 1)<|Int.tmod (w64<|Ad * Ac.2.2.2.1) a7)<|w64<|Aa + 1).bind λAi=>if a7≠0 then (gI Ai Aa).bind λAr=>(gI (sI (sI (sI Ae Aa<|sI Af Aa<|Int.tmod (w64<|Ad * Ac.2.2.1) a7) Aa<|sI Ag (w64<|Aa + 1)<|Int.tmod (w64<|Ad * Ac.2.2.2.1) a7) (w64<|Aa + 1)<|sI Ai Aa<|Int.tmod (w64<|Ad * Ac.2.2.2.1) a7)<|w64<|Aa + 1).bind λAk=>if a7≠0 then (gI Ak<|w64<|Aa + 1).bind λAu=>some (sI (sI (sI (sI Ae Aa<|sI Af Aa<|Int.tmod (w64<|Ad * Ac.2.2.1) a7) Aa<|sI Ag (w64<|Aa + 1)<|Int.tmod (w64<|Ad * Ac.2.2.2.1) a7) (w64<|Aa + 1)<|sI Ai Aa<|Int.tmod (w64<|Ad * Ac.2.2.2.1) a7) (w64<|Aa + 1)<|sI Ak (w64<|Aa + 1)<|Int.tmod (w64<|Ad * Ac.2.2.2.2) a7) else none else none else none else some<|sI Ae Aa<|sI Af Aa<|Int.tmod (w64<|Ad * Ac.2.2.1) a7):Option LiI).bind (λ(Ao:LiI)=>some<|.inl (w64<|Aa + Ac.2.1,w64<|Ah + 1,Ao)) else none else some<|.inr Ae
def Aor (fuel:Nat) (a5 Ab:Int) (Ac:LiI):Option ((Int × LiI) ⊕ LiI):=
 if Ab < ((List.replicate (Int.toNat a5) ([]:List Int)).length:Int) then if 0<=a5/\a5<=100000000 then (gI Ac Ab).bind λAd=>some (.inl (w64<|Ab + 1,sI Ac Ab<|List.replicate (Int.toNat a5) (0:Int))) else none else some<|.inr Ac
def Aod (fuel:Nat) (a3:List Alq) (a5 a6 a7:Int):Option LiI:=
 if 0<=a5/\a5<=100000000 then (iter (λs=>Aor fuel a5 s.1 s.2) fuel (0,List.replicate (Int.toNat a5) ([]:List Int))).bind (λ(Ae:LiI)=>(iter (λs=>Aq8 fuel a3 a6 a7 s.1 s.2.1 s.2.2) fuel (0,0,Ae)).bind (λ(Af:LiI)=>some Af)) else none
theorem Ay8 {a3:(List Alq)} {a6 a7:Int} {r:LiI} (H2:SlC Ar1 h Ax a3) (hp:Aod fuel a3 a5 a6 a7=some r):Ahq Tryz.prog 91 #[Ax,(.int .i64 a5),(.int .i64 a6),(.int .i64 a7)] h (λx h'=>Ext h h'/\ ∃ (x0:Value) (F0:List Nat) (Bm:List LnA) (Bn:List Value),x=x0/\Aj0 (cI .i64) 61 2 h' F0 Bm Bn x0 r/\Sp h' h.size [F0]):=by
 unfold Aod at hp;refine cwf (l:=[_,_,_,_]) Tryz.func91 rfl rfl (AOv<|Ah4<|AOr ?_);obtain ⟨Bo,Bp⟩:=ifN hp;refine Azg (cI .i64) 2 APa Atu rfl trivial tt2 rfl rfl AOs Bo λBq Br Bt Ai Do Bu Bv Bw=>AO1<|AOx<|AOv<|AOr ?_;have Aj:=(Kst.k0 h).no2 Bv Bw Bu;refine Ahw APa rfl (Aj.o2 p0).rd (AOr<|AOz<|AO0<|Anb 267912192 (λx:(Int) × (LiI) × LnA × LnN × LvA=>(x.1,x.2.1)) ((0,(List.replicate (Int.toNat a5) ([]:List Int)),Bq,Br,Bt):(Int) × (LiI) × LnA × LnN × LvA) Bp (λx=>[(19,(.int .i64 x.1))]) (λx=>Aj.L.set 0<|aO2 (cI .i64) 61 2 x.2.2.1 x.2.2.2.1 x.2.2.2.2 Ai x.2.1) Aj ⟨rfl,trivial⟩ ?_);rintro ⟨Dp,Bx,By,Bz,B1⟩ Dq Dr Ds Ak Am B3;unfold Aor at Am;refine AOv<|Aho rfl rfl (AOz<|AOx<|⟨_,rfl,λAo=>?_,λAo=>?_⟩)
 ·refine AO4<|q_t<|AOx<|AO0<|AOv<|AOr<|AO1<|Ag6<|AOr<|AOr<|AOr ?_;obtain ⟨B4,B5⟩:=ifN<|Ahx Am Ao;refine Axl (c:=(cI .i64)) (a:=0) APd Arq rfl rfl (λ_=>rfl) rfl trivial tt2 rfl rfl AOs B4 λDt Du Dv B6 B7 B8 B9=>?_;have Ae:=Ak.no B7 (Anx B8 B9) B6;obtain ⟨Dw,A6,Ca⟩:=AOw B5;refine Aii APa rfl (Ae.o2 p1) rfl A6 λDx Dy Cb Dz D0=>Az7 Ahb (Ae.o2 p1) A6 Cb rfl rfl (Ae.o p0) (Ae.dj p0 p1 AOs) λD1 Cd Ce Cf=>Ahh<|q_b<|q_t<|Ag6<|Ahp rfl rfl (AOr<|AOz ?_);exact ⟨(_,_,_,_,_),(AOu Ca).symm,(Ae.m2 p0 p1 AOs Ce Cd λz hz=> .inl<|Cf z hz).sel [1] AOs,rfl,trivial⟩
 ·refine Ahf<|Ahg<|Ahg<|Aim<|q_t<|AOv<|AO1<|AOx<|AOv<|AOr<|Aio Asz rfl H2 (AOr<|AOz<|AO0<|Anb 316912650057057350373102086144 (λx:(Int) × (Int) × (LiI) × LnA × LnN × LvA=>(x.1,x.2.1,x.2.2.1)) ((0,0,Bx,By,Bz,B1):(Int) × (Int) × (LiI) × LnA × LnN × LvA) (B3 _ (AOu<|Ahy Am Ao).symm) (λx=>[(11,(.int .i64 x.1)),(30,(.int .i64 x.2.1))]) (λx=>Ak.L.set 0<|aO2 (cI .i64) 61 2 x.2.2.2.1 x.2.2.2.2.1 x.2.2.2.2.2 Ai x.2.2.1) Ak ⟨rfl,rfl,trivial⟩ ?_);rintro ⟨Aa,D2,A7,A8,A9,Ba⟩ D3 D4 D5 Af Ap Cg;unfold Aq8 at Ap;refine AOv<|Aho rfl rfl (AOz<|AOx<|⟨_,rfl,λAq=>?_,λAq=>?_⟩)
  ·refine AO4<|q_t<|AOx<|AO0<|AOv ?_;obtain ⟨Ab,Ch,Ci⟩:=AOw<|Ahx Ap Aq;refine Aqe (c:=Ar1) Asz rfl H2 rfl Ch λD6 D7 D8 Cj Ck=>?_;obtain rfl:=Cj;refine Avo (c:=Ar1) Atw rfl rfl (λj u hu=>(AO8 (Ck j u hu) Af.x)) (Aj3 Af [(.int .i64 0),(.int .i64 0),(.int .i64 0),(.int .i64 0),(.int .i64 0)] Axm λD9 Ea Eb Bb=>Ai5 [(.int .i64 Ab.1),(.int .i64 Ab.2.1),(.int .i64 Ab.2.2.1),(.int .i64 Ab.2.2.2.1),(.int .i64 Ab.2.2.2.2)] Atw rfl rfl rfl rfl (by simp [isOne]) (Bb.b p0) λEc Cm Cn=>Apu ?_);have Bc:=Bb.sb p0 Cn Cm rfl;refine AOr<|Ajl Apf Aiw (Bc.b p0) 0 rfl ?_;obtain ⟨Ag,Co,Cp⟩:=AOw Ci;refine Aj5 Bc (Alk Co) λEd Ee Ar=>AO1<|AOx<|Ana<|AOr<|AOr ?_;obtain ⟨Be,Bf,Cq⟩:=AOw Cp;refine Ai2 APa Ahb (Ar.o2 p1) Bf λ_ Ef Cr=>AOr<|AOr<|Ajl At2 AO9 (Ar.b p0) 2 rfl (Aok rfl rfl (AOr ?_));obtain ⟨Ct,Cu⟩:=ifN Cq;refine Ajh rfl rfl Ct ?_;obtain ⟨Eg,Cv,Cw⟩:=AOw Cu;refine As1 (m:=Aa) Ar p1 APd AO9 Cr Bf Cv (λ_=>rfl) λ_ Eh Ad=>AOz ?_;obtain ⟨Cx,Bg,Cy⟩:=AOw Cw;refine Aqt 9903520314281916299286151168 (λx:(LiI) × LnA × LnN × LvA=>[]) (λx h'=>( x.1)=Cx/\Kst h h' (Ad.L.set 1<|aO2 (cI .i64) 61 2 x.2.1 x.2.2.1 x.2.2.2 Ai x.1)) ?_ ?_
   ·refine AOv<|Ajl A2u Aiw (Ad.b p0) 1 rfl (Aiy rfl rfl (AOz<|⟨_,rfl,λAu=>?_,λAu=>?_⟩))
    ·refine AOx<|Ana<|AOr<|AOr ?_;obtain ⟨Cz,Bh,C0⟩:=AOw<|Ahx Bg Au;refine Ai2 APa Ahb (Ad.o2 p1) Bh λ_ Ei C1=>AOr<|Ahp rfl rfl (AOr<|Ajl Ax1 AO9 (Ad.b p0) 3 rfl (Aok rfl rfl (AOr ?_)));obtain ⟨C2,C3⟩:=ifN C0;refine Ajh rfl rfl C2 ?_;obtain ⟨Ej,C4,C5⟩:=AOw C3;refine As1 (m:=Aa) Ad p1 APd AO9 C1 Bh C4 (λ_=>rfl) λ_ Ek Av=>AOz<|AOx<|Ana<|AOr<|AOr<|Ahp rfl rfl ?_;obtain ⟨C6,Bi,C7⟩:=AOw C5;refine Ai2 APa Ahb (Av.o2 p1) Bi λ_ El C8=>AOr<|AOr<|Ajl Ax1 AO9 (Av.b p0) 3 rfl (Aok rfl rfl (AOr ?_));obtain ⟨C9,Da⟩:=ifN C7;refine Ajh rfl rfl C9 ?_;obtain ⟨Em,Db,Dc⟩:=AOw Da;refine As1 (m:=(w64<|Aa + 1)) Av p1 APd AO9 C8 Bi Db (λ_=>rfl) λ_ En Aw=>AOz<|Ana<|AOr<|AOr<|Ahp rfl rfl ?_;obtain ⟨Dd,Bj,De⟩:=AOw Dc;refine Ai2 APa Ahb (Aw.o2 p1) Bj λ_ Eo Df=>AOr<|Ahp rfl rfl (AOr<|Ajl Azh AO9 (Aw.b p0) 4 rfl (Aok rfl rfl (AOr ?_)));obtain ⟨Dg,Dh⟩:=ifN De;refine Ajh rfl rfl Dg ?_;obtain ⟨Ep,Di,Dj⟩:=AOw Dh;refine As1 (m:=(w64<|Aa + 1)) Aw p1 APd AO9 Df Bj Di (λ_=>rfl) λ_ Er Dk=>AOz ?_;exact ⟨(((sI (sI (sI (sI A7 Aa<|sI Be Aa<|Int.tmod (w64<|Ag * Ab.2.2.1) a7) Aa<|sI Cz (w64<|Aa + 1)<|Int.tmod (w64<|Ag * Ab.2.2.2.1) a7) (w64<|Aa + 1)<|sI C6 Aa<|Int.tmod (w64<|Ag * Ab.2.2.2.1) a7) (w64<|Aa + 1)<|sI Dd (w64<|Aa + 1)<|Int.tmod (w64<|Ag * Ab.2.2.2.2) a7),A8,A9,Ba):(LiI) × LnA × LnN × LvA),⟨AOu Dj,Dk⟩,trivial⟩
    ·refine AO4<|q_t ?_;exact ⟨(((sI A7 Aa<|sI Be Aa<|Int.tmod (w64<|Ag * Ab.2.2.1) a7),A8,A9,Ba):(LiI) × LnA × LnN × LvA),⟨AOu<|Ahy Bg Au,Ad⟩,trivial⟩
   rintro ⟨Es,Et,Eu,Ev⟩ Ew Ey ⟨Dl,Bl⟩;subst Dl;refine Ag6<|AOr<|Ajl A2u Aiw (Bl.b p0) 1 rfl (Ahp rfl rfl (Ahl<|Ahh<|q_b<|q_t<|Ag6<|Ahp rfl rfl (AOr<|AOz ?_)));exact ⟨(_,_,_,_,_,_),(AOu Cy).symm,Bl.sel [1] AOs,rfl,rfl,trivial⟩
  ·refine Ahf<|Ahg<|Ahg<|Aim<|q_t<|AOv<|AOr<|AO1<|AO6 ?_;obtain rfl:=AOu<|Cg _ (AOu<|Ahy Ap Aq).symm;exact ⟨_,AO7,Af.x,_,_,_,_,rfl,(Af.o2 p0),Af.s.sel [0] AOs⟩
def Aoe (fuel:Nat) (a3:LiI) (Ab:Int):Option (Int ⊕ (Bool ⊕ Unit)):=
 if Ab < (a3.length:Int) then (gI a3 Ab).bind λAc=>if ¬ (Ac.length:Int)=(a3.length:Int) then some (.inr<|.inl false) else some (.inl<|w64<|Ab + 1) else some<|.inr<|.inr ()
def Anv (fuel:Nat) (a3:LiI):Option Bool:=
 (iter (λs=>Aoe fuel a3 s) fuel 0).bind (λex=>match ex with | .inl Ab=>(some Ab) | .inr _=>some true)
theorem Ayy {Af:Value} (H2:Ajx (cI .i64) h Af a3) (hp:Anv fuel a3=some r):Ahq Tryz.prog 52 #[Af] h (λx h'=>Ext h h'/\x= .bool r):=by
 unfold Anv at hp;refine cwf (l:=[_]) Tryz.func52 rfl rfl (AOv<|AO1<|AOx<|AOv<|AOr<|Ahw APa rfl H2 (AOr<|AOz<|AO0 ?_));have K0:=Kst.k0 h;refine Aqu 130964 hp (λx=>[(7,(.int .i64 x))]) (λx=>K0.L) K0 ⟨rfl,trivial⟩ ?_;rintro Ao Ap h8 y7 Aa Ac Ai;unfold Aoe at Ac;refine AOv<|Aho rfl rfl (AOz<|AOx<|⟨_,rfl,λAd=>?_,λAd=>?_⟩)
 ·refine AO4<|q_t<|AOx<|AO0<|AOv ?_;obtain ⟨Au,Ak,Aj⟩:=AOw<|Ahx Ac Ad;refine An4 APa Ahb H2 Aa.x Ak λ_ Av Am=>Ah4<|AOr<|Aio APd rfl Am (AOr<|Ahw APa rfl H2 (Ajq rfl rfl (AOz<|⟨_,rfl,λAe=>?_,λAe=>?_⟩)))
  ·refine AOv<|AO1<|AO6<|Aiq<|Ag9<|Ag9<|Aiq<|Ag9 ?_;obtain rfl:=AOu<|Ai _ (AOu<|Ahx Aj Ae).symm;exact ⟨_,AO7,Aa.x,rfl⟩
  ·refine AO4<|q_b<|q_t<|Ag6<|Ahp rfl rfl (AOr<|AOz ?_);exact ⟨_,(AOu<|Ahy Aj Ae).symm,Aa,rfl,trivial⟩
 ·refine Ahf<|Ahg<|Ahg<|Aim<|q_t<|AOv<|AO1<|AO6 ?_;obtain rfl:=AOu<|Ai _ (AOu<|Ahy Ac Ad).symm;exact ⟨_,AO7,Aa.x,rfl⟩
def Aos (fuel:Nat) (Ad:Int) (Ab:LiA) (Aa:Int):Option (Int ⊕ (Bool ⊕ Unit)):=
 if Aa < (Ab.length:Int) then (gI Ab Aa).bind λAc=>if Ac < 0 then some (.inr<|.inl false) else if Ad<=Ac then some (.inr<|.inl false) else some (.inl<|w64<|Aa + 1) else some<|.inr<|.inr ()
def Ams (fuel:Nat) (a8:LiI) (Ac Aa:Int):Option (Int ⊕ (Bool ⊕ Unit)):=
 if Aa < (a8.length:Int) then (gI a8 Aa).bind λAd=>(iter (λs=>Aos fuel Ac Ad s) fuel 0).bind (λex=>match ex with | .inl Ae=>(some<|.inr<|.inl Ae) | .inr _=>some<|.inl<|w64<|Aa + 1) else some<|.inr<|.inr ()
def Aot (fuel:Nat) (a5:Int) (Ac:List Alq) (Ae Aa:Int):Option (Int ⊕ (Bool ⊕ Unit)):=
 if Aa < (Ac.length:Int) then (gI Ac Aa).bind λAb=>(Aoc fuel Ab.1 Ab.2.1 Ab.2.2.1 Ab.2.2.2.1 Ab.2.2.2.2 a5 Ae).bind λAf=>if (!Af)=true then some (.inr<|.inl false) else if 0 < Aa then (gI Ac<|w64<|Aa - 1).bind λAg=>if Ab.1 < Ag.1 then some (.inr<|.inl false) else some (.inl<|w64<|Aa + 1) else some (.inl<|w64<|Aa + 1) else some<|.inr<|.inr ()
def Aof (fuel:Nat) (a3:LiI) (a5:Int) (a8:LiI) (Ae:List Alq):Option Bool:=
 (Ak9 fuel a3 a5).bind λAf=>(Ajk fuel a5 Af).bind λAd=>(iter (λs=>Aot fuel a5 Ae Af s) fuel 0).bind (λex=>match ex with | .inl Ag=>(some Ag) | .inr _=>(iter (λs=>Ams fuel a8 Ad s) fuel 0).bind (λex=>match ex with | .inl Ah=>(some Ah) | .inr _=>(Aoj fuel a8 a5).bind λ(Ai,Ao)=>(Al8 fuel a3 a8 Ad).bind λ(Aj,Ap)=>if ¬ Ai=0 then (Aod fuel Ae (a3.length:Int) a5 Ad).bind λAk=>(Ao8 fuel Aj Ak).bind λAm=>some Am else some false))
theorem Ay9 {Be:Value} {Ap:Value} {a8:LiI} {Aq:Value} {Bh:(List Alq)} (H2:Ajx (cI .i64) h Be a3) (H7:Ajx (cI .i64) h Ap a8) (Ah:SlC Ar1 h Aq Bh) (hp:Aof fuel a3 a5 a8 Bh=some r):Ahq Tryz.prog 45 #[Be,(.agg #[(.int .i64 a5),Ap,Aq])] h (λx h'=>Ext h h'/\x= .bool r):=by
 unfold Aof at hp;refine cwf (l:=[_,_]) Tryz.func45 rfl rfl (AOv<|Ao1 (Kst.k0 h) [(.int .i64 a5),Ap,Aq] λCv Cw Cx Au=>Ah4<|AOr<|Ajl Aqn AO9 (Au.b p0) 0 rfl ?_);obtain ⟨Cy,Bu,Bv⟩:=AOw hp;refine Aj5 Au (Au0 (H2.ext Au.x) Bu) λCz C0 Bi=>Ah4<|Ajl Aqn AO9 (Bi.b p0) 0 rfl (AOr ?_);obtain ⟨C1,Bw,Bx⟩:=AOw Bv;refine Aj5 Bi (Alk Bw) λC2 C3 Av=>AO1<|AOx<|AOv<|Ajl Anw At1 (Av.b p0) 2 rfl (Aio Asz rfl Ah (AOr<|AOz<|AO0<|Aqu 72057593769492880 Bx (λx=>[(28,(.int .i64 x))]) (λx=>Av.L) Av ⟨rfl,trivial⟩ ?_));rintro By C4 C5 C6 Ad Aw Ax;unfold Aot at Aw;refine AOv<|Aho rfl rfl (AOz<|AOx<|⟨_,rfl,λAy=>?_,λAy=>?_⟩)
 ·refine AO4<|q_t<|AOx<|AO0<|AOv<|AOr ?_;obtain ⟨Aa,Bz,B1⟩:=AOw<|Ahx Aw Ay;refine Aqe (c:=Ar1) Asz rfl Ah rfl Bz λC7 C8 C9 B3 B4=>?_;obtain rfl:=B3;refine Avo (c:=Ar1) Atw rfl rfl (λj u hu=>(AO8 (B4 j u hu) Ad.x)) (Aj3 Ad [(.int .i64 0),(.int .i64 0),(.int .i64 0),(.int .i64 0),(.int .i64 0)] Axm λDa Db Dc Bj=>Ahl<|Ai5 [(.int .i64 Aa.1),(.int .i64 Aa.2.1),(.int .i64 Aa.2.2.1),(.int .i64 Aa.2.2.2.1),(.int .i64 Aa.2.2.2.2)] Atw rfl rfl rfl rfl (by simp [isOne]) (Bj.b p0) λDd B5 B6=>AOz<|AOx<|Ana ?_);have Az:=Bj.sb p0 B6 B5 rfl;refine Apd [(.int .i64 Aa.1),(.int .i64 Aa.2.1),(.int .i64 Aa.2.2.1),(.int .i64 Aa.2.2.2.1),(.int .i64 Aa.2.2.2.2)] Atw rfl rfl (Az.b p0).agg (Ajl Aqn AO9 (Az.b p1) 0 rfl (AOr ?_));obtain ⟨B7,B8,Bl⟩:=AOw B1;refine Aj5 Az (Ay7 B8) λDe Df Ab=>Akg rfl (AOr ?_);cases Bm:(!B7)
  ·refine Ag8 39 false<|AOr<|Ag8 39 false<|An0 rfl rfl (Ag8 39 false<|AOr ?_);have Bn:=Aoy Bl Bm;by_cases Ai:0 < By
   ·rw [decide_eq_true Ai];refine Ag8 42 true<|Ah1 Apf rfl (Ag8 42 true<|Aht Aiw rfl ((Ab.b p0).cell (i:=0) rfl) (Ag8 42 true<|Ah1 Anw rfl (Ag8 42 true<|Aht At1 rfl ((Ab.b p1).cell (i:=2) rfl) (Ag8 42 true<|AOr<|Ag8 42 true<|Anj rfl rfl (Ag8 42 true ?_)))));obtain ⟨Dg,B9,Bo⟩:=AOw<|ifT Bn Ai;refine Aqe (c:=Ar1) Asz rfl Ah rfl B9 λDh Di Dj Ca Cb=>?_;obtain rfl:=Ca;refine Ag8 42 true<|Ah1 Apf rfl (Ag8 42 true<|Aht Aiw rfl (AO8 (Cb 0 _ rfl) Ab.x) (Ag8 42 true<|Aho rfl rfl (Ag8 39 false<|Ag7 rfl (APb rfl (AOz<|⟨_,rfl,λA3=>?_,λA3=>?_⟩)))))
    ·refine AOv<|AO1<|AO6<|Aiq<|Ag9<|Ag9<|Aiq<|Ag9 ?_;obtain rfl:=AOu<|Ax _ (AOu<|Ahx Bo A3).symm;exact ⟨_,AO7,Ab.x,rfl⟩
    ·refine AO4<|q_b<|q_t<|Ag6<|Ahp rfl rfl (AOr<|AOz ?_);exact ⟨_,(AOu<|Ahy Bo A3).symm,Ab.sel [1] AOs,rfl,trivial⟩
   ·rw [decide_eq_false Ai];refine Ald 42 false<|Ald 42 false<|Ag8 39 false<|APb rfl (APb rfl (AOz<|Ahs rfl (AO4<|q_b<|q_t<|Ag6<|Ahp rfl rfl (AOr<|AOz ?_))));exact ⟨_,(AOu<|ifF Bn Ai).symm,Ab.sel [1] AOs,rfl,trivial⟩
  ·refine Alb 39 true<|Aw3 42 AO5 rfl (Aw3 42 AO5 rfl (Aw3 42 AO5 rfl (Aw3 42 AO5 rfl (Aw3 42 AO5 rfl (Aw3 42 AO5 rfl (Aw3 42 AO5 rfl (Aw3 42 AO5 rfl (Aw3 42 AO5 rfl (Aw3 42 AO5 rfl (A5z 39 true<|Ag7 rfl (AOz<|Ahn rfl (AOv<|AO1<|AO6<|Aiq<|Ag9<|Ag9<|Aiq<|Ag9 ?_))))))))))));obtain rfl:=AOu<|Ax _ (AOu<|ifT Bl Bm).symm;exact ⟨_,AO7,Ab.x,rfl⟩
 ·refine Ahf<|Ahg<|Ahg<|Aim<|q_t<|AOx<|AOv<|Ajl Ape Aia (Ad.b p0) 1 rfl (Ahw APa rfl H7 (AOr<|AOz<|AO0<|Aqu 302230878442904990258192 (Ax _ (AOu<|Ahy Aw Ay).symm) (λx=>[(59,(.int .i64 x))]) (λx=>Ad.L) Ad ⟨rfl,trivial⟩ ?_));rintro Dk Dl Do Dp Ac A4 A5;unfold Ams at A4;refine AOv<|Aho rfl rfl (AOz<|AOx<|⟨_,rfl,λA6=>?_,λA6=>?_⟩)
  ·refine AO4<|q_t<|AOx<|AO0<|AOv ?_;obtain ⟨Dq,Cd,Ce⟩:=AOw<|Ahx A4 A6;refine An4 APa Ahb H7 Ac.x Cd λ_ Dr Bp=>Ah4<|AOr<|Aio APd rfl Bp (AOr<|AOz<|AO0<|Aqu 151078833963681227739152 Ce (λx=>[(65,(.int .i64 x))]) (λx=>Ac.L) Ac ⟨rfl,trivial⟩ ?_);rintro Ds Dt Du Dv Ae A7 A8;unfold Aos at A7;refine AOv<|Aho rfl rfl (AOz<|AOx<|⟨_,rfl,λA9=>?_,λA9=>?_⟩)
   ·refine AO4<|q_t<|AOx<|AO0<|AOv ?_;obtain ⟨Cf,Cg,Bq⟩:=AOw<|Ahx A7 A9;refine A1l APd AO9 Bp Ae.x Cg λ_=>(Ah4<|AOr<|Aho rfl rfl (AOr ?_));by_cases Aj:Cf < 0
    ·rw [decide_eq_true Aj];refine Alb 71 true<|Ag7 rfl (AOz<|Ahn rfl (AOv<|AO1<|AO6<|Aiq<|Ag9<|Ag9<|Aiq<|Aiq<|Ag9<|Ag9<|Aiq<|Ag9 ?_));obtain rfl:=AOu<|A5 _ (AOu<|A8 _ (AOu<|ifT Bq Aj).symm).symm;exact ⟨_,AO7,Ae.x,rfl⟩
    ·have Br:=ifF Bq Aj;rw [decide_eq_false Aj];refine Ag8 71 false<|AOr<|Ag8 71 false<|AOr<|Ag8 71 false<|Auh rfl rfl (APb rfl (AOz<|⟨_,rfl,λBa=>?_,λBa=>?_⟩))
     ·refine AOv<|AO1<|AO6<|Aiq<|Ag9<|Ag9<|Aiq<|Aiq<|Ag9<|Ag9<|Aiq<|Ag9 ?_;obtain rfl:=AOu<|A5 _ (AOu<|A8 _ (AOu<|Ahx Br Ba).symm).symm;exact ⟨_,AO7,Ae.x,rfl⟩
     ·refine AO4<|q_b<|q_t<|Ag6<|Ahp rfl rfl (AOr<|AOz ?_);exact ⟨_,(AOu<|Ahy Br Ba).symm,Ae,rfl,trivial⟩
   ·refine Ahf<|Ahg<|Ahg<|Aim<|q_b<|q_t<|Ag6<|Ahp rfl rfl (AOr<|AOz ?_);exact ⟨_,(AOu<|A8 _ (AOu<|Ahy A7 A9).symm).symm,Ae,rfl,trivial⟩
  ·refine Ahf<|Ahg<|Ahg<|Aim<|q_t<|AOv<|Ajl Ape Aia (Ac.b p0) 1 rfl (Ajl Aqn AO9 (Ac.b p0) 0 rfl ?_);obtain ⟨⟨Ch,Dw⟩,Ci,Bt⟩:=AOw<|A5 _ (AOu<|Ahy A4 A6).symm;dsimp only at Bt;refine Aj5 Ac (A1c (H7.ext Ac.x) Ci) λDx Dy Ak=>AOr<|Ait rfl rfl (Ait rfl rfl (Ahl<|Ah4<|AOr<|Ajl Ape Aia (Ak.b p0) 1 rfl (AOr ?_)));obtain ⟨⟨Dz,D0⟩,Cj,Bb⟩:=AOw Bt;dsimp only at Bb;refine Aqy rfl (Axb (H2.ext Ak.x) (H7.ext Ak.x) Cj) λD1 D2 Ck Cm=>?_;obtain ⟨D3,D4,D5,D6,rfl,Cn,Co⟩:=Cm;refine AOr<|Ait rfl rfl (Ait rfl rfl (Ahl<|Ah4<|AOr<|Ajq rfl rfl (AOr ?_)));have Af:=Ak.no2 Ck Co Cn;by_cases Am: ¬ Ch=0
   ·rw [decide_eq_true Am];refine Ag8 96 true<|AOr<|Ag8 96 true<|Ah1 Anw rfl (Ag8 96 true<|Aht At1 rfl ((Af.b p1).cell (i:=2) rfl) (Ag8 96 true<|AOr<|Ag8 96 true<|Ahw APa rfl H2 (Ag8 96 true<|Ah1 Aqn rfl (Ag8 96 true<|Aht AO9 rfl ((Af.b p1).cell (i:=0) rfl) (Ag8 96 true<|AOr<|Ag8 96 true ?_)))));obtain ⟨D7,Cp,Cq⟩:=AOw<|ifT Bb Am;refine Aus Af (Ay8 (Ah.ext Af.x) Cp) λD8 D9 Ea Eb Ec Ed Bc=>Ag8 96 true ?_;obtain ⟨Ee,Cr,Ct⟩:=AOw Cq;refine Aj5 Bc (A0j (Bc.o2 p1).rd (Bc.o2 p0).rd Cr) λEf Eg Cu=>Ag7 rfl (AO1<|AO6 ?_);obtain rfl:=AOu Ct;exact ⟨_,AO7,Cu.x,rfl⟩
   ·rw [decide_eq_false Am];refine Ald 96 false<|Ald 96 false<|APb rfl (AO1<|AO6 ?_);obtain rfl:=AOu<|ifF Bb Am;exact ⟨_,AO7,Af.x,rfl⟩
noncomputable def Amt (fuel:Nat) (Ab:List Alq) (Aa:Int):Option (Int ⊕ (Int ⊕ Unit)):=
 if Aa < (Ab.length:Int) then (gI Ab Aa).bind λAc=>if ¬ Ac.2.1=1 then some (.inr<|.inl 10) else some (.inl<|w64<|Aa + 1) else some<|.inr<|.inr ()
noncomputable def Aog (fuel:Nat) (a3:LiI) (a5:Int) (a8:LiI) (Ac:List Alq):Option Int:=
 (Ak4 fuel a3).bind λAe=>if (!Ae)=true then some 6 else (BAh fuel a5).bind λAf=>if (!Af)=true then some 20 else ((if ¬ (a8.length:Int)=(a3.length:Int) then some (.inl 3) else if ¬ (Ac.length:Int)=(a3.length:Int) then some (.inl 3) else (Anv fuel a8).bind λAg=>if (!Ag)=true then some (.inl 3) else some<|.inr ()):Option (Int ⊕ Unit)).bind (λex=>match ex with | .inl Ah=>(some Ah) | .inr _=>(iter (λs=>Amt fuel Ac s) fuel 0).bind (λex=>match ex with | .inl Ai=>(some Ai) | .inr _=>(Aof fuel a3 a5 a8 Ac).bind λAj=>if (!Aj)=true then some 10 else some 0))
theorem Aza {A6:Value} {Af:Value} {a8:LiI} {Ag:Value} {Ap:(List Alq)} {r:Int} (H2:Ajx (cI .i64) h A6 a3) (H7:Ajx (cI .i64) h Af a8) (Ai:SlC Ar1 h Ag Ap) (hp:Aog fuel a3 a5 a8 Ap=some r):Ahq Tryz.prog 17 #[A6,(.agg #[(.int .i64 a5),Af,Ag])] h (λx h'=>Ext h h'/\x= .int .i64 r):=by
 unfold Aog at hp;refine cwf (l:=[_,_]) Tryz.func17 rfl rfl (AOv<|Ao1 (Kst.k0 h) [(.int .i64 a5),Af,Ag] λBx By Bz A7=>AO1<|AOx<|AOv<|AOr ?_);obtain ⟨B1,Bl,A8⟩:=AOw hp;refine Aj5 A7 (Axq (H2.ext A7.x) Bl) λB3 B4 Ar=>Akg rfl (AOz<|⟨_,rfl,λAu=>?_,λAu=>?_⟩)
 ·refine AOv<|AO1<|AO6<|Ag9 ?_;obtain rfl:=AOu<|ifT A8 Au;exact ⟨_,AO7,Ar.x,rfl⟩
 ·refine AO4<|q_t<|AOx<|AOv<|Ajl Aqn AO9 (Ar.b p0) 0 rfl ?_;obtain ⟨B5,Bm,A9⟩:=AOw<|Aoy A8 Au;refine Aj5 Ar (BKk Bm) λB6 B7 Aa=>Akg rfl (AOz<|⟨_,rfl,λAv=>?_,λAv=>?_⟩)
  ·refine AOv<|AO1<|AO6<|Ag9 ?_;obtain rfl:=AOu<|ifT A9 Av;exact ⟨_,AO7,Aa.x,rfl⟩
  ·refine AO4<|q_t ?_;obtain ⟨Bn,Ba,Aj⟩:=AOw<|Aoy A9 Av;refine Aqt 17179852816 (λx:Unit=>[]) (λx h'=>(Sum.inr <| ())=Bn/\Kst h h' (Aa.L)) ?_ ?_
   ·refine AOv<|Ajl Ape Aia (Aa.b p0) 1 rfl (Ahw APa rfl H7 (AOr<|Ahw APa rfl H2 (Ajq rfl rfl (AOr ?_))));by_cases Ak: ¬ (a8.length:Int)=(a3.length:Int)
    ·rw [decide_eq_true Ak];refine Ald 20 true<|A5z 20 true<|Ag7 rfl (AOr<|Alo 28 true<|Ag7 rfl (AOz<|Ahn rfl (AOv<|AO1 ?_)));obtain rfl:=AOu<|ifT Ba Ak;refine AO6<|Ag9 ?_;obtain rfl:=AOu Aj;exact ⟨_,AO7,Aa.x,rfl⟩
    ·have Bb:=ifF Ba Ak;rw [decide_eq_false Ak];refine Ag8 20 false<|Ah1 Anw rfl (Ag8 20 false<|Aht At1 rfl ((Aa.b p0).cell (i:=2) rfl) (Ag8 20 false<|Aio Asz rfl Ai (Ag8 20 false<|AOr<|Ag8 20 false<|Ahw APa rfl H2 (Ag8 20 false<|Ajq rfl rfl (APb rfl (AOr ?_))))));by_cases Am: ¬ (Ap.length:Int)=(a3.length:Int)
     ·rw [decide_eq_true Am];refine Alo 28 true<|Ag7 rfl (AOz<|Ahn rfl (AOv<|AO1 ?_));obtain rfl:=AOu<|ifT Bb Am;refine AO6<|Ag9 ?_;obtain rfl:=AOu Aj;exact ⟨_,AO7,Aa.x,rfl⟩
     ·rw [decide_eq_false Am];refine Ag8 28 false<|Ah1 Ape rfl (Ag8 28 false<|Aht Aia rfl ((Aa.b p0).cell (i:=1) rfl) (Ag8 28 false ?_));obtain ⟨B8,Bo,Bc⟩:=AOw<|ifF Bb Am;refine Aj5 Aa (Ayy (H7.ext Aa.x) Bo) λB9 Ca Be=>Ag8 28 false<|Akg rfl (APb rfl (AOz<|⟨_,rfl,λAw=>?_,λAw=>?_⟩))
      ·refine AOv<|AO1 ?_;obtain rfl:=AOu<|ifT Bc Aw;refine AO6<|Ag9 ?_;obtain rfl:=AOu Aj;exact ⟨_,AO7,Be.x,rfl⟩
      ·refine AO4<|q_t ?_;exact ⟨(():Unit),⟨AOu<|Aoy Bc Aw,Be⟩,trivial⟩
   rintro ⟨⟩ Cb Cd ⟨Bp,Ax⟩;subst Bp;refine AOx<|AOv<|Ajl Anw At1 (Ax.b p0) 2 rfl (Aio Asz rfl Ai (AOr<|AOz<|AO0<|Aqu 35046933135440 Aj (λx=>[(37,(.int .i64 x))]) (λx=>Ax.L) Ax ⟨rfl,trivial⟩ ?_));rintro Ce Cf Cg Ch Ab Ay Bf;unfold Amt at Ay;refine AOv<|Aho rfl rfl (AOz<|AOx<|⟨_,rfl,λAz=>?_,λAz=>?_⟩)
   ·refine AO4<|q_t<|AOx<|AO0<|AOv ?_;obtain ⟨Ac,Bq,Bg⟩:=AOw<|Ahx Ay Az;refine Aqe (c:=Ar1) Asz rfl Ai rfl Bq λCi Cj Ck Br Bt=>?_;obtain rfl:=Br;refine Avo (c:=Ar1) Atw rfl rfl (λj u hu=>(AO8 (Bt j u hu) Ab.x)) (Aj3 Ab [(.int .i64 0),(.int .i64 0),(.int .i64 0),(.int .i64 0),(.int .i64 0)] Axm λCm Cn Co Bh=>Ai5 [(.int .i64 Ac.1),(.int .i64 Ac.2.1),(.int .i64 Ac.2.2.1),(.int .i64 Ac.2.2.2.1),(.int .i64 Ac.2.2.2.2)] Atw rfl rfl rfl rfl (by simp [isOne]) (Bh.b p0) λCp Bu Bv=>Apu ?_);have A3:=Bh.sb p0 Bv Bu rfl;refine Ajl A2u Aiw (A3.b p0) 1 rfl (Ajq rfl rfl (AOz<|⟨_,rfl,λA4=>?_,λA4=>?_⟩))
    ·refine AOv<|AO1<|AO6<|Aiq<|Ag9<|Ag9<|Aiq<|Ag9 ?_;obtain rfl:=AOu<|Bf _ (AOu<|Ahx Bg A4).symm;exact ⟨_,AO7,A3.x,rfl⟩
    ·refine AO4<|q_b<|q_t<|Ag6<|Ahp rfl rfl (AOr<|AOz ?_);exact ⟨_,(AOu<|Ahy Bg A4).symm,A3.sel [1] AOs,rfl,trivial⟩
   ·refine Ahf<|Ahg<|Ahg<|Aim<|q_t<|AOx<|AOv<|AOr<|Apd [(.int .i64 a5),Af,Ag] Ai8 rfl rfl (Ab.b p0).agg ?_;obtain ⟨Cq,Bw,Bi⟩:=AOw<|Bf _ (AOu<|Ahy Ay Az).symm;refine Aj5 Ab (Ay9 (H2.ext Ab.x) (H7.ext Ab.x) (Ai.ext Ab.x) Bw) λCr Ct Bj=>Akg rfl (AOz<|⟨_,rfl,λA5=>?_,λA5=>?_⟩)
    ·refine AOv<|AO1<|AO6<|Ag9 ?_;obtain rfl:=AOu<|ifT Bi A5;exact ⟨_,AO7,Bj.x,rfl⟩
    ·refine AO4<|q_t<|AOv<|AO1<|AO6 ?_;obtain rfl:=AOu<|Aoy Bi A5;exact ⟨_,AO7,Bj.x,rfl⟩
def At8 (fuel:Nat) (a3 a7:List Ax0) (Ac:Int):Option (Int ⊕ (Bool ⊕ Unit)):=
 if Ac < (a3.length:Int) then (gI a3 Ac).bind λAa=>(gI a7 Ac).bind λAb=>if (!(decide ((Aa.1,Aa.2.1,Aa.2.2.1,Aa.2.2.2.1,Aa.2.2.2.2)=(Ab.1,Ab.2.1,Ab.2.2.1,Ab.2.2.2.1,Ab.2.2.2.2))))=true then some (.inr<|.inl false) else some (.inl<|w64<|Ac + 1) else some<|.inr<|.inr ()
def Arz (fuel:Nat) (a3 a7:List Ax0):Option Bool:=
 if ¬ (a3.length:Int)=(a7.length:Int) then some false else (iter (λs=>At8 fuel a3 a7 s) fuel 0).bind (λex=>match ex with | .inl Ac=>(some Ac) | .inr _=>some true)
theorem Ax7 {Ah:Value} {a3:(List Ax0)} {Aj:Value} {a7:(List Ax0)} (H2:SlC Axk h Ah a3) (H6:SlC Axk h Aj a7) (hp:Arz fuel a3 a7=some r):Ahq Tryz.prog 23 #[Ah,Aj] h (λx h'=>Ext h h'/\x= .bool r):=by
 unfold Arz at hp;refine cwf (l:=[_,_]) Tryz.func23 rfl rfl (AOv<|AO1<|AOx<|AOv<|AOr<|Aio A3f rfl H2 (AOr<|Aio A3f rfl H6 (Ajq rfl rfl (AOz ?_))));have K0:=Kst.k0 h;refine ⟨_,rfl,λAd=>?_,λAd=>?_⟩
 ·refine AOv<|AO1<|AO6<|Ag9 ?_;obtain rfl:=AOu<|Ahx hp Ad;exact ⟨_,AO7,K0.x,rfl⟩
 ·refine AO4<|q_t<|AOx<|AOv<|AOr<|Aio A3f rfl H2 (AOr<|AOz<|AO0<|Aqu 67100720 (Ahy hp Ad) (λx=>[(13,(.int .i64 x))]) (λx=>K0.L) K0 ⟨rfl,trivial⟩ ?_);rintro Az A3 A4 A5 Aa Ae Ao;unfold At8 at Ae;refine AOv<|Aho rfl rfl (AOz<|AOx<|⟨_,rfl,λAf=>?_,λAf=>?_⟩)
  ·refine AO4<|q_t<|AOx<|AO0<|AOv<|AOr<|AO1<|AOx<|Ana<|AOr<|AOr ?_;obtain ⟨A6,Aq,Ar⟩:=AOw<|Ahx Ae Af;refine Aqe (c:=Axk) A3f rfl H2 rfl Aq λA7 A8 A9 Au Av=>?_;obtain rfl:=Au;refine Avo (c:=Axk) BI7 rfl rfl (λj u hu=>(AO8 (Av j u hu) Aa.x)) (AOr<|AOr ?_);obtain ⟨Ba,Aw,Ap⟩:=AOw Ar;refine Aqe (c:=Axk) A3f rfl H6 rfl Aw λBb Bc Be Ax Ay=>?_;obtain rfl:=Ax;refine Avo (c:=Axk) BI7 rfl rfl (λj u hu=>(AO8 (Ay j u hu) Aa.x)) (BOt AO5 rfl rfl (BR4 _ _ _ _ _ _ _ _ _ _) (AOz<|⟨_,rfl,λAg=>?_,λAg=>?_⟩))
   ·refine AOv<|AO1<|AO6<|Aiq<|Ag9<|Ag9<|Aiq<|Ag9 ?_;obtain rfl:=AOu<|Ao _ (AOu<|ifT Ap Ag).symm;exact ⟨_,AO7,Aa.x,rfl⟩
   ·refine AO4<|q_b<|q_t<|Ag6<|Ahp rfl rfl (AOr<|AOz ?_);exact ⟨_,(AOu<|Aoy Ap Ag).symm,Aa,rfl,trivial⟩
  ·refine Ahf<|Ahg<|Ahg<|Aim<|q_t<|AOv<|AO1<|AO6 ?_;obtain rfl:=AOu<|Ao _ (AOu<|Ahy Ae Af).symm;exact ⟨_,AO7,Aa.x,rfl⟩
end Go.Proofs.YtkakafabeobahaaGreatDoor
namespace Go.Proofs.YtkakafabeobahaaGreatDoor
open Go Go.QF
set_option maxRecDepth 100000
theorem Axu {E:Type} {body:Int->Option (Int ⊕ (E ⊕ Unit))} {n:Nat} (good:Nat->Prop) (bad:E) (hf:n < fuel) (hs:∀ i:Nat,i < n->Ok (body (i:Int)) λr=>(r= .inl ((i + 1:Nat):Int)/\good i)∨(r= .inr (.inl bad)/\¬ good i)) (he:body (n:Int)=some (.inr<|.inr ())):
 Ok (iter body fuel 0) λex=>(ex= .inr ()/\ ∀ i,i < n->good i)∨(ex= .inl bad/\¬ ∀ i,i < n->good i):=by
 refine Ah3 (λi s=>s=(i:Int)/\ ∀ j,j < i->good j) n ⟨rfl,λj hj=>absurd hj<|Nat.not_lt_zero j⟩ hf λi s hi hI=>?_;obtain ⟨rfl,hI⟩:=hI
 by_cases h:i < n
 ·refine A6l (hs i h) λr hr=>?_;grind
 ·obtain rfl:i=n:=by omega
  rw [he];exact AOt<|.inl ⟨rfl,hI⟩
theorem BAu {body:List α × Int->Option ((List α × Int) ⊕ List α)} {n:Nat} (f:Nat->α) (hf:n < fuel) (hs:∀ i:Nat,i < n->body (Aju i f,(i:Int))=some (.inl (Aju i f ++ [f i],((i + 1:Nat):Int)))) (he:∀ X,body (X,(n:Int))=some (.inr X)):iter body fuel ([],0)=some (Aju n f):=by
 apply ok_eq;refine Ah3 (λi s=>s=(Aju i f,(i:Int))) n rfl hf λi s hi hI=>?_;subst hI
 by_cases h:i < n
 ·rw [hs i h,Avt];exact AOt ⟨h,rfl⟩
 ·obtain rfl:i=n:=by omega
  rw [he];exact AOt rfl
theorem BLb {body:Int × List Int->Option ((Int × List Int) ⊕ List Int)} {n:Nat} {g0:Nat->Int} (v:Nat->Int) (hf:n < fuel)
 (hs:∀ (j:Nat) (g:Nat->Int),j < n->g j=g0 j->body ((j:Int),Aju n g)=some (.inl (((j + 1:Nat):Int),Aju n λc=>if c=j then v j else g c)))
 (he:∀ X,body ((n:Int),X)=some (.inr X)):iter body fuel (0,Aju n g0)=some (Aju n v):=by
 apply ok_eq
 refine Ah3 (λj s=>s=((j:Int),Aju n λc=>if c < j then v c else g0 c)) n ?_ hf λj s hj hI=>?_
 ·grind
 ·subst hI
  by_cases h:j < n
  ·rw [hs j _ h<|if_neg AOq];refine AOt ⟨h,?_⟩;refine congrArg (λz=>(((j + 1:Nat):Int),Aju n z))<|funext λc=>?_
   by_cases h1:c=j
   ·grind
   omega
  ·obtain rfl:j=n:=by omega
   rw [he];exact AOt<|Ai0 λc hc=>if_pos hc
def A1o (n:Nat) (q:Int) (A T:Ahe):Ahe:=λi j=>psum (λk=>T k i % q * (psum (λl=>A k l % q * (T l j % q)) n % q)) n % q
theorem A0o (n:Nat) (hq:2<=q) (F:Ahe):BQ1 n q λi j=>F i j % q:=λi j _ _=>⟨Int.emod_nonneg _ AOq,Int.emod_lt_of_pos _ AOq⟩
theorem BNw {n:Nat} (Aa:1<=n) (hn:n<=8) (hq:2<=q) (Ab:q<=2147483647) (hf:100 < fuel):Ao9 fuel (tab n n A) (tab n n T) q=some (tab n n<|A1o n q A T,0):=by
 unfold Ao9;have h1:Aj2 fuel q=some 0:=by unfold Aj2;grind
 rw [A8d Aa hn hf,A8d Aa hn hf];simp only [Option.bind_some];rw [if_neg AOs,A4z<|Ah0 AOq,Ahz,Ahv,Ahv,if_neg AOs,if_neg λh=>h rfl,if_neg λh=>h rfl];simp only [Option.bind_some];rw [h1];simp only [Option.bind_some];rw [if_neg AOs,BD8 hn hq Ab hf];simp only [Option.bind_some];rw [BK8 Aa hn hf];simp only [Option.bind_some];rw [BD8 hn hq Ab hf];simp only [Option.bind_some];rw [BF2 Aa hn hq Ab (A0o n hq A) (A0o n hq T) hf];simp only [Option.bind_some];rw [BF2 Aa hn hq Ab (λi j hi hj=>A0o n hq T j i hj hi) (A0o n hq _) hf];rfl
theorem BHn {r c:Nat} {m:Int}:Aw8 (tab r c F) m=tab r c λi j=>F i j % m:=by
 simp [Aw8,tab,Function.comp_def]
theorem BEb {n:Nat} {m:Int} (hn:n<=8) (hm:2<=m) (Ab:m<=2147483647) (hf:100 < fuel):Ajg fuel (tab n n F) m=some (tab n n λi j=>F i j % m):=by
 rw [BB9 AOq Ab (by rw [Ahv];omega) (by rw [Ahv];omega) (λz hz=>by
  obtain ⟨i,hi⟩:=List.getElem?_of_mem hz
  have h1:=(List.getElem?_eq_some_iff.1 hi).1
  rw [Ahv] at h1
  rw [Ah0 h1] at hi
  cases hi
  rw [Ahz];omega),BHn]
theorem BF3 {n:Nat} {m:Int} (Ae:1<=n) (hn:n<=8) (hm:2<=m) (Ab:m<=2147483647) (hf:100 < fuel):Al0 fuel (tab n n F) (tab n n G) m=some (tab n n λi j=>psum (λk=>F i k % m * (G k j % m)) n % m):=by
 unfold Al0;rw [BEb hn hm Ab hf];simp only [Option.bind_some];rw [BEb hn hm Ab hf];simp only [Option.bind_some];rw [BAu (n:=n) (λi=>Aju n λj=>psum (λk=>F i k % m * (G k j % m)) n % m) AOq (λi hi=>?_) λX=>?_]
 ·rfl
 ·unfold Aoa;dsimp only;rw [Ahv,if_pos AOq,A4z<|Ah0 AOq,Ahz,if_pos AOq,Int.toNat_natCast,Amp n (0:Int),BLb (n:=n) (λj=>psum (λk=>F i k % m * (G k j % m)) n % m) AOq (λj g hj hg=>?_) λX=>?_]
  ·simp only [Option.bind_some];rw [Ahz,if_pos AOq,Ah6 AOq]
  ·unfold An9;dsimp only;rw [Ahz,Int.toNat_natCast,List.length_replicate,if_pos AOq]
   have key:iter (λs=>An8 fuel m (tab n n λi j=>F i j % m) (tab n n λi j=>G i j % m) i j s.1 s.2) fuel (0,Aju n g)=some (Aju n λc=>if c=j then psum (λk=>F i k % m * (G k j % m)) n % m else g c):=by
    apply ok_eq
    refine Ah3 (λk s=>s=((k:Int),Aju n λc=>if c=j then psum (λk=>F i k % m * (G k j % m)) k % m else g c)) n ?_ AOq λk s hk hI=>?_
    ·refine congrArg (λz=>((0:Int),Aju n z))<|funext λc=>?_
     split
     ·next h=>subst h;rw [hg];show 0=0 % m;rw [Int.zero_emod]
     ·rfl
    ·subst hI
     unfold An8
     dsimp only
     rw [Ahv]
     by_cases h:k < n
     ·have b1:=A0o n hm F i k hi h
      have b2:=A0o n hm G k j h hj
      dsimp only at b1 b2
      have b0:=Int.mul_nonneg b1.1 b2.1
      have b3:F i k % m * (G k j % m)<=2147483646 * 2147483646:=Int.mul_le_mul AOq AOq b2.1 AOq
      have b4:=Int.emod_nonneg (F i k % m * (G k j % m)) (show m≠0 by omega)
      have b5:=Int.emod_lt_of_pos (F i k % m * (G k j % m)) (show 0 < m by omega)
      have b6:=Int.emod_nonneg (psum (λk=>F i k % m * (G k j % m)) k) (show m≠0 by omega)
      have b7:=Int.emod_lt_of_pos (psum (λk=>F i k % m * (G k j % m)) k) (show 0 < m by omega)
      rw [if_pos AOq,Amr<|Ahu hj,Amr<|Ah0 hi,Amr<|Ahu h,Amr<|Ah0 h,Amr<|Ahu hj,if_pos AOq,if_pos AOq,if_pos rfl,Aj7 (x:=F i k % m * (G k j % m)) AOq AOq,Int.tmod_eq_emod_of_nonneg b0,Aj7 (x:=psum (λk=>F i k % m * (G k j % m)) k % m + F i k % m * (G k j % m) % m) AOq AOq,Int.tmod_eq_emod_of_nonneg AOq,BC4 (f:=λk=>F i k % m * (G k j % m)),Ai9,Alr,Ah6 AOq]
      refine AOt ⟨h,congrArg (λz=>(((k + 1:Nat):Int),Aju n z))<|funext λc=>?_⟩
      omega
     ·obtain rfl:k=n:=by omega
      rw [if_neg AOq];exact AOt rfl
   rw [key];simp only [Option.bind_some];rw [Ah6 AOq]
  ·unfold An9;dsimp only;rw [Ahz,Int.toNat_natCast,List.length_replicate,if_neg AOq]
 ·unfold Aoa;dsimp only;rw [Ahv,if_neg AOq]
theorem BLc {n:Nat} (Aa:1<=n) (hn:n<=8) (hf:100 < fuel):Amq fuel (tab n n F)=some (tab n n λi j=>F j i):=by
 unfold Amq;rw [A4z<|Ah0 AOq,BAu (n:=n) (λi=>Aju n λj=>F j i) AOq (λi hi=>?_) λX=>?_]
 ·rfl
 ·unfold Anf;dsimp only;rw [Ahz,if_pos AOq,BAu (n:=n) (λj=>F j i) AOq (λj hj=>?_) λX=>?_]
  ·simp only [Option.bind_some];rw [Ahz,if_pos AOq,Ah6 AOq]
  ·unfold Ane;dsimp only;rw [Ahv,if_pos AOq,Amr<|Ah0 hj,Amr<|Ahu hi,Ahz,if_pos AOq,Ah6 AOq]
  ·unfold Ane;dsimp only;rw [Ahv,if_neg AOq]
 ·unfold Anf;dsimp only;rw [Ahz,if_neg AOq]
theorem A8e {n:Nat} (Ab:1<=n) (hn:n<=8):A67 (tab n n F):=by
 have hc:Au2 (tab n n F)=n:=by rw [Aya<|Ah0 (show 0 < n by omega),Ahz]
 refine ⟨⟨by rw [Ahv];omega,by rw [Ahv];omega,AOq,AOq,λz hz=>?_⟩,by rw [Ahv,hc],by rw [Ahv];omega⟩;obtain ⟨i,hi⟩:=List.getElem?_of_mem hz;have h1:=(List.getElem?_eq_some_iff.1 hi).1;rw [Ahv] at h1;rw [Ah0 h1] at hi;cases hi;rw [Ahz,hc]
theorem BNx {n:Nat} (Aa:1<=n) (hn:n<=8) (hq:2<=q) (Ab:q<=2147483647) (hf:100 < fuel):Al8 fuel (tab n n A) (tab n n T) q=some (tab n n<|A1o n q A T,0):=by
 unfold Al8
 have hv:∀ F,Aka fuel (tab n n F)=some true:=λF=>by
  rw [BFi AOq]
  exact congrArg some<|decide_eq_true (A8e Aa hn).1
 have h1:A58 q=true:=by unfold A58;grind
 rw [hv,hv];simp only [Option.bind_some];rw [if_neg AOs,A4z<|Ah0 AOq,Ahz,Ahv,Ahv,if_neg AOs,if_neg λh=>h rfl,if_neg λh=>h rfl];simp only [Option.bind_some];rw [A9g,h1];simp only [Option.bind_some];rw [if_neg AOs,BLc Aa hn hf];simp only [Option.bind_some];rw [BF3 Aa hn hq Ab hf];simp only [Option.bind_some];rw [BF3 Aa hn hq Ab hf];simp only [Option.bind_some,Int.emod_emod];rfl
theorem BQ3 {n:Nat} (Ab:1<=n) (hn:n<=8) (hp:2<=p) (Ad:p<=2147483647) (hf:100 < fuel):Aoj fuel (tab n n T) p=some (det n T % p,0):=by
 have hs:=A8e (F:=T) Ab hn;rw [BKn AOq ⟨by rw [Ahv];omega,λz hz=>by have h2:=hs.1.2.2.2.2 z hz;have:=hs.1.2.2.2.1;omega⟩];have h1:Av4 (tab n n T)=true:=decide_eq_true hs;have h2:A58 p=true:=by unfold A58;grind
 unfold BP8 BP9;rw [h1,h2,Ahv];refine congrArg (λz=>some (z,(0:Int))) ?_;exact A6s λi j hi hj=>by rw [BEk hi hj];rfl
theorem BNy {n:Nat} (hn:n<=8) (hf:100 < fuel):Ok (Ao8 fuel (tab n n F)<|tab n n G) λb=>b=true↔ ∀ i,i < n-> ∀ j,j < n->F i j=G i j:=by
 unfold Ao8;rw [Ahv,Ahv,if_neg λh=>h rfl];refine AOy (Axu (n:=n) (λi=> ∀ j,j < n->F i j=G i j) false AOq (λi hi=>?_) ?_) λex hex=>?_
 ·unfold Api;rw [Ahv,if_pos AOq,Amr<|Ah0 hi,Amr<|Ah0 hi,Ahz,Ahz,if_neg λh=>h rfl];refine AOy (Axu (n:=n) (λj=>F i j=G i j) false AOq (λj hj=>?_) ?_) λex hex=>?_
  ·unfold Aph;rw [Ahz,if_pos AOq,Amr<|Ah0 hi,Amr<|Ahu hj,Amr<|Ah0 hi,Amr<|Ahu hj];exact Aha (λh=>AOt<|.inr ⟨rfl,h⟩) λh=>AOt<|.inl ⟨by rw [Ah6 AOq],Decidable.not_not.1 h⟩
  ·unfold Aph;rw [Ahz,if_neg AOq]
  ·rcases hex with ⟨rfl,h⟩ | ⟨rfl,h⟩
   ·exact AOt<|.inl ⟨by rw [Ah6 AOq],h⟩
   ·exact AOt<|.inr ⟨rfl,h⟩
 ·unfold Api;rw [Ahv,if_neg AOq]
 ·rcases hex with ⟨rfl,h⟩ | ⟨rfl,h⟩
  ·exact AOt ⟨λ_=>h,λ_=>rfl⟩
  ·exact AOt ⟨λe=>(nomatch e),λe=>absurd e h⟩
def Rng (n:Nat) (q:Int) (T:Ahe):Prop:= ∀ i,i < n-> ∀ j,j < n->0<=T i j/\T i j < q
theorem BQ4 {n:Nat} (hn:n<=8) (hf:100 < fuel):Ok (iter (λs=>Aql fuel (tab n n T) q s) fuel 0) λex=>(ex= .inr ()/\Rng n q T)∨(ex= .inl false/\¬ Rng n q T):=by
 refine Axu (n:=n) (λi=> ∀ j,j < n->0<=T i j/\T i j < q) false AOq (λi hi=>?_) ?_
 ·unfold Aql;rw [Ahv,if_pos AOq,Amr<|Ah0 hi];refine AOy (Axu (n:=n) (λj=>0<=T i j/\T i j < q) false AOq (λj hj=>?_) ?_) λex hex=>?_
  ·unfold Atg;rw [Ahz,if_pos AOq,Amr<|Ahu hj];exact Aha (λh=>AOt<|.inr ⟨rfl,AOq⟩) λh=>Aha (λh2=>AOt<|.inr ⟨rfl,AOq⟩) λh2=>AOt<|.inl ⟨by rw [Ah6 AOq],AOq⟩
  ·unfold Atg;rw [Ahz,if_neg AOq]
  ·rcases hex with ⟨rfl,h⟩ | ⟨rfl,h⟩
   ·exact AOt<|.inl ⟨by rw [Ah6 AOq],h⟩
   ·exact AOt<|.inr ⟨rfl,h⟩
 ·unfold Aql;rw [Ahv,if_neg AOq]
theorem BQ5 {n:Nat} (hn:n<=8) (hf:100 < fuel):Ok (iter (λs=>Ams fuel (tab n n T) q s) fuel 0) λex=>(ex= .inr ()/\Rng n q T)∨(ex= .inl false/\¬ Rng n q T):=by
 refine Axu (n:=n) (λi=> ∀ j,j < n->0<=T i j/\T i j < q) false AOq (λi hi=>?_) ?_
 ·unfold Ams;rw [Ahv,if_pos AOq,Amr<|Ah0 hi];refine AOy (Axu (n:=n) (λj=>0<=T i j/\T i j < q) false AOq (λj hj=>?_) ?_) λex hex=>?_
  ·unfold Aos;rw [Ahz,if_pos AOq,Amr<|Ahu hj];exact Aha (λh=>AOt<|.inr ⟨rfl,AOq⟩) λh=>Aha (λh2=>AOt<|.inr ⟨rfl,AOq⟩) λh2=>AOt<|.inl ⟨by rw [Ah6 AOq],AOq⟩
  ·unfold Aos;rw [Ahz,if_neg AOq]
  ·rcases hex with ⟨rfl,h⟩ | ⟨rfl,h⟩
   ·exact AOt<|.inl ⟨by rw [Ah6 AOq],h⟩
   ·exact AOt<|.inr ⟨rfl,h⟩
 ·unfold Ams;rw [Ahv,if_neg AOq]
theorem Aly (hp:1<=p) {a b:Nat} (h:a<=b):p ^ a<=p ^ b:=by
 obtain ⟨c,rfl⟩:∃ c,b=a + c:=⟨b - a,AOq⟩;rw [Int.pow_add];have h1:0 < p ^ a:=Int.pow_pos AOq;have h2:0 < p ^ c:=Int.pow_pos AOq;have:=Int.mul_le_mul_of_nonneg_left (show 1<=p ^ c by omega)<|Int.le_of_lt h1;omega
theorem BEc (hp:2<=p) {a b:Nat} (h:p ^ a < p ^ b):a < b:=by
 rcases Nat.lt_or_ge a b with h1 | h1
 ·exact h1
 ·have:=Aly (p:=p) AOq h1;omega
theorem A43 (hp:2<=p) (h:p ^ k<=2147483647):k<=30:=by
 rcases Nat.lt_or_ge 30 k with h1 | h1
 ·exfalso;have h2:=Aly (p:=p) AOq (show 31<=k by omega);have h3:(2:Int) ^ 31<=p ^ 31:=Arj AOq hp 31;omega
 ·exact h1
theorem BLd (hp:2<=p) (h:p ^ k<=2147483647) (hf:100 < fuel):Aun fuel p k=some (p ^ k):=by
 have hk:=A43 hp h;apply ok_eq;unfold Aun;refine AOy (Ah3 (λi s=>s=(p ^ i,(i:Int))/\i<=k) k (Q:=(· =p ^ k)) ⟨Ah7,AOq⟩ AOq λi s hi hI=>?_) λe he=>AOt he;obtain ⟨rfl,hik⟩:=hI;unfold Awh;dsimp only;refine Aha (λh2=>AOt ⟨AOq,?_,AOq⟩) λh2=>AOt ?_
 ·have h3:=Aly (p:=p) AOq (show i + 1<=k by omega);have h4:0 < p ^ (i + 1):=Int.pow_pos AOq;rw [show p ^ i * p=p ^ (i + 1) from (Int.pow_succ p i).symm,wk AOq,Ah6 AOq]
 grind
theorem A5w (hp:2<=p) (h:p ^ k<=2147483647) (hf:100 < fuel):Ajk fuel p k=some (p ^ k):=by
 have hk:=A43 hp h;apply ok_eq;unfold Ajk;refine AOy (Ah3 (λi s=>s=(p ^ i,(i:Int))/\i<=k) k (Q:=(· =p ^ k)) ⟨Ah7,AOq⟩ AOq λi s hi hI=>?_) λe he=>AOt he;obtain ⟨rfl,hik⟩:=hI;unfold Arw;dsimp only;refine Aha (λh2=>AOt ⟨AOq,?_,AOq⟩) λh2=>AOt ?_
 ·have h3:=Aly (p:=p) AOq (show i + 1<=k by omega);have h4:0 < p ^ (i + 1):=Int.pow_pos AOq;rw [show p ^ i * p=p ^ (i + 1) from (Int.pow_succ p i).symm,wk AOq,Ah6 AOq]
 grind
def IsB (p x:Int) (b:Alq):Prop:= ∃ (e:Nat) (u:Int),b=((e:Int),1,u,0,0)/\x=u * p ^ e/\¬ p ∣ u
theorem BQ6 {b c:Alq} (hp:2<=p) (hb:IsB p x b) (hc:IsB p x c):b=c:=by
 obtain ⟨e,u,rfl,h1,h2⟩:=hb;obtain ⟨f,v,rfl,h3,h4⟩:=hc;have he:=BAs hp ⟨e,u,rfl,h1,h2⟩ ⟨f,v,rfl,h3,h4⟩;obtain rfl:e=f:=by omega
 have:u=v:=Int.eq_of_mul_eq_mul_right (Int.pow_ne_zero<|show p≠0 by omega)<|h1.symm.trans h3;rw [this]
theorem BLe (hp:2<=p) (Ad:p<=9973) (hx:0 < x) (Ae:x<=2147483647) (hf:100 < fuel):Ok (Aur fuel x p) (IsB p x):=by
 unfold Aur;refine AOy (Ah3 (λi s=> ∃ r:Int,s=((i:Int),r)/\0 < r/\x=r * p ^ i) 31 (Q:=λe=> ∃ (k:Nat) (u:Int),e=((k:Int),u)/\x=u * p ^ k/\¬ p ∣ u) ⟨x,rfl,AOq,Ah7⟩ AOq λi s hi hI=>?_) λe he=>?_
 ·obtain ⟨r,rfl,hr,hdr⟩:=hI;have hpi:0 < p ^ i:=Int.pow_pos AOq;have hpx:1 * p ^ i<=r * p ^ i:=Int.mul_le_mul_of_nonneg_right AOq AOq;have Af:=A43 (k:=i) hp AOq;have hrd:r * 1<=r * p ^ i:=Int.mul_le_mul_of_nonneg_left AOq AOq;unfold Awl;dsimp only;refine Ah8 AOq<|Aha (λh=>Ah8 AOq ?_) λh=>AOt ⟨i,r,rfl,hdr,λh3=>h<|Int.tmod_eq_zero_of_dvd h3⟩;obtain ⟨q,rfl⟩:p ∣ r:=Int.dvd_of_tmod_eq_zero h;have hq:0 < q:=Int.pos_of_mul_pos_right hr AOq;have hqr:1 * q<=p * q:=Int.mul_le_mul_of_nonneg_right AOq AOq;refine AOt ⟨AOq,q,?_,hq,by grind⟩;rw [Int.mul_tdiv_cancel_left _ AOq,Aj7 (x:=q) AOq AOq,Ah6 AOq]
 ·obtain ⟨k,u,rfl,h1,h2⟩:=he;exact AOt ⟨k,u,rfl,h1,h2⟩
def BCu (F:Ahe) (r c:Nat) (x:Int):Ahe:=Ajb F r λq=>if q=c then x else F r q
theorem BLf (F:Ahe) (r c:Nat) (x:Int) (i j:Nat):BCu F r c x i j=if i=r/\j=c then x else F i j:=by
 unfold BCu;rw [Aiu];grind
theorem A6v {n r c:Nat}:sI (tab n n F) (r:Int) (sI (Aju n<|F r) (c:Int) x)=tab n n (BCu F r c x):=A3w
def BS0 (F:Ahe) (r:Nat) (a b c:Int):Ahe:=BCu (BCu (BCu (BCu F r r a) r (r + 1) b) (r + 1) r b) (r + 1) (r + 1) c
def A8f (p:Int):List Alq->Nat->(Ahe)->(Ahe)
 | [],_,F=>F
 | b :: l,r,F=>if b.2.1=2 then A8f p l (r + 2) (BS0 F r (p ^ b.1.toNat * b.2.2.1) (p ^ b.1.toNat * b.2.2.2.1)<|p ^ b.1.toNat * b.2.2.2.2) else A8f p l (r + 1)<|BCu F r r<|p ^ b.1.toNat * b.2.2.1
def BEd:List Alq->Nat
 | []=>0
 | b :: l=>b.2.1.toNat + BEd l
def BOk (p:Int) (k:Nat) (b:Alq):Prop:= ∃ e:Nat,b.1=e/\e<=k/\(0<=b.2.2.1/\b.2.2.1 < p ^ (k - e))/\(b.2.1=1∨b.2.1=2/\(0<=b.2.2.2.1/\b.2.2.2.1 < p ^ (k - e))/\0<=b.2.2.2.2/\b.2.2.2.2 < p ^ (k - e))
theorem BAv {a:Int} {e:Nat} (hp:2<=p) (hek:e<=k) (hq:p ^ k<=2147483647) (h:0<=a/\a < p ^ (k - e)):Int.tmod (w64<|p ^ e * a) (p ^ k)=p ^ e * a/\0<=p ^ e * a/\p ^ e * a < p ^ k:=by
 have h1:0 < p ^ e:=Int.pow_pos AOq;have h2:p ^ e * a < p ^ e * p ^ (k - e):=Int.mul_lt_mul_of_pos_left h.2 h1;rw [<- Int.pow_add,show e + (k - e)=k by omega] at h2;have h3:=Int.mul_nonneg (Int.le_of_lt h1) h.1;rw [wk AOq,Int.tmod_eq_emod_of_nonneg h3,Int.emod_eq_of_lt h3 h2];omega
theorem BQ7 {n:Nat} {L:List Alq} (hn:n<=8) (hp:2<=p) (hq:p ^ k<=2147483647) (hL:∀ b∈L,BOk p k b) (hs:BEd L=n) (hll:L.length<=n) (hf:100 < fuel):Aod fuel L n p (p ^ k)=some (tab n n<|A8f p L 0 λ_ _=>0):=by
 have Af:0 < p ^ k:=Int.pow_pos AOq;unfold Aod;rw [if_pos AOq,Int.toNat_natCast,A41 (n:=n) (λ_ _=>0) AOq (λi hi=>?_) λX=>?_]
 ·simp only [Option.bind_some];apply ok_eq;refine AOy (Ah3 (λi s=> ∃ (r:Nat) (F:Ahe),s=((r:Int),(i:Int),tab n n F)/\r + BEd (L.drop i)=n/\A8f p (L.drop i) r F=A8f p L 0 λ_ _=>0) L.length (Q:=(· =tab n n (A8f p L 0 λ_ _=>0))) ⟨0,λ_ _=>0,rfl,by simpa using hs,rfl⟩ AOq λi s hi hI=>?_) λe he=>AOt he;obtain ⟨r,F,rfl,hr,hb⟩:=hI;unfold Aq8;dsimp only;by_cases h:i < L.length
  ·obtain ⟨b,hbi⟩:∃ b,L[i]? =some b:=⟨L[i],List.getElem?_eq_getElem h⟩
   have hdr:L.drop i=b :: L.drop (i + 1):=by
    rw [List.drop_eq_getElem_cons h]
    grind
   rw [hdr] at hr hb;obtain ⟨e,he,hek,hA,hsz⟩:=hL b<|List.mem_of_getElem? hbi;have hpe:p ^ e<=2147483647:=Int.le_trans (Aly AOq hek) hq;have heN:b.1.toNat=e:=by omega
   have e1:=BAv hp hek hq hA;unfold BEd at hr;rw [A8f] at hb;rw [heN] at hb;rw [if_pos AOq,Amr hbi,he,A5w hp hpe hf];simp only [Option.bind_some];have Aa:r < n:=by omega
   rw [Amr<|Ah0 Aa,if_pos AOq,Amr<|Ahu Aa,e1.1,A6v];rcases hsz with hz | ⟨hz,hB,hC⟩
   ·rw [if_neg AOq];simp only [Option.bind_some];rw [if_neg AOq] at hb;refine AOt ⟨h,r + 1,_,?_,AOq,hb⟩;rw [hz,Ah6 AOq,Ah6 AOq]
   ·have Ab:r + 1 < n:=by omega
    have e2:=BAv hp hek hq hB;have e3:=BAv hp hek hq hC;rw [if_pos hz,Amr<|Ah0 Aa,if_pos AOq,Ah6 AOq,Amr<|Ahu Ab,e2.1,A6v,Amr<|Ah0 Ab,if_pos AOq,Amr<|Ahu Aa,A6v,Amr<|Ah0 Ab,if_pos AOq,Amr<|Ahu Ab,e3.1,A6v];simp only [Option.bind_some];rw [if_pos hz] at hb;refine AOt ⟨h,r + 2,_,?_,AOq,hb⟩;rw [hz,Aj7 (x:=(r:Int) + 2) AOq AOq,Ah6 AOq];rfl
  ·obtain rfl:i=L.length:=by omega
   rw [if_neg AOq];rw [List.drop_length] at hb;exact AOt (by rw [<- hb];rfl)
 ·unfold Aor;dsimp only;rw [Int.toNat_natCast,List.length_replicate,if_pos AOq,if_pos AOq,Amr<|Awk hi,Ai9,Amp n (0:Int),Auq,A40 λc _=>rfl,Ah6 AOq]
 ·unfold Aor;grind
theorem BO7 {p:Int}:∀ {L:List Alq} {r:Nat} {F:Ahe},(∀ b∈L,b.2.1=1)-> ∀ i j,A8f p L r F i j=if i=j/\r<=i then (match L[i - r]? with | some b=>p ^ b.1.toNat * b.2.2.1 | none=>F i j) else F i j
 | [],r,F,h,i,j=>by simp [A8f]
 | b :: l,r,F,h,i,j=>by
   have hb:=h b Ah7;unfold A8f;rw [if_neg AOq,BO7 λc hc=>h c<|by simp [hc]];rw [BLf];grind
def A5x (p:Int) (k:Nat) (b:Alq):Prop:=(0<=b.1/\b.1<=if p=2 then (k:Int) - 3 else (k:Int) - 1)/\
 if b.2.1=1 then (0 < b.2.2.1/\b.2.2.1 < p ^ (k - b.1.toNat))/\¬ p ∣ b.2.2.1/\b.2.2.2.1=0/\b.2.2.2.2=0
 else ((0<=b.2.2.1/\b.2.2.1 < p ^ (k - b.1.toNat))/\(0<=b.2.2.2.1/\b.2.2.2.1 < p ^ (k - b.1.toNat))/\0<=b.2.2.2.2/\b.2.2.2.2 < p ^ (k - b.1.toNat))/\b.2.2.1 % 2=0/\b.2.2.2.1 % 2=1/\b.2.2.2.2 % 2=0
theorem tm2 (h:0<=x):Int.tmod x 2=x % 2:=Int.tmod_eq_emod_of_nonneg h
theorem BLg {b:Alq} (hp:2<=p) (hq:p ^ k<=2147483647) (hk:1<=k) (Aj:p=2->3<=k) (hf:100 < fuel):Ok (Aoc fuel b.1 b.2.1 b.2.2.1 b.2.2.2.1 b.2.2.2.2 p k) λr=>r=true↔A5x p k b:=by
 have Ak:=A43 hp hq;obtain ⟨e,s,x,y,z⟩:=b;unfold Aoc A5x;dsimp only;refine AOy (Q:=(· =if p=2 then (k:Int) - 3 else (k:Int) - 1)) (Aha (λh=>AOt ?_) λh=>AOt ?_) λtop ht=>?_
 ·rw [if_pos h,wk AOq]
 ·rw [if_neg h,wk AOq]
 subst ht;have htop:(if p=2 then (k:Int) - 3 else (k:Int) - 1)<=k - 1:=by split <;> omega
 refine AOy (Q:=λex=>(ex= .inr ()/\0<=e/\e<=if p=2 then (k:Int) - 3 else (k:Int) - 1)∨(ex= .inl false/\¬ (0<=e/\e<=if p=2 then (k:Int) - 3 else (k:Int) - 1))) (Aha (λh=>AOt<|.inr ⟨rfl,AOq⟩) λh=>Aha (λh2=>AOt<|.inr ⟨rfl,AOq⟩) λh2=>AOt<|.inl ⟨rfl,AOq,AOq⟩) λex hex=>?_;rcases hex with ⟨rfl,h1,h2⟩ | ⟨rfl,h⟩
 ·obtain ⟨e,rfl⟩:∃ e':Nat,e=e':=⟨e.toNat,AOq⟩;have hek:e<=k:=by omega
  have hpk:p ^ (k - e)<=2147483647:=Int.le_trans (Aly AOq AOq) hq;dsimp only;rw [wk AOq,show (k:Int) - (e:Int)=((k - e:Nat):Int) by omega,Int.toNat_natCast];refine AOy (Aid<|A5w hp hpk hf) λm hm=>?_;subst hm;refine Aha (λh3=>?_) λh3=>?_
  ·rw [if_pos h3];refine Aha (λh4=>Aha (λh5=>Ah8 AOq<|Aha (λh6=>Aha (λh7=>AOt ?_) λh7=>AOt ?_) λh6=>AOt ?_) λh5=>AOt ?_) λh4=>AOt ?_
   ·rw [decide_eq_true_eq];exact ⟨λh8=>⟨⟨h1,h2⟩,⟨h4,h5⟩,λh9=>h6<|Int.tmod_eq_zero_of_dvd h9,h7,h8⟩,λh8=>h8.2.2.2.2⟩
   ·grind
   ·exact ⟨λh=>(nomatch h),λh=>absurd (Int.dvd_of_tmod_eq_zero<|Decidable.not_not.1 h6) h.2.2.1⟩
   ·grind
   grind
  ·rw [if_neg h3];refine Aha (λh4=>Aha (λh5=>Aha (λh6=>Aha (λh7=>Aha (λh8=>Aha (λh9=>?_) λh9=>AOt ?_) λh8=>AOt ?_) λh7=>AOt ?_) λh6=>AOt ?_) λh5=>AOt ?_) λh4=>AOt ?_
   ·rw [tm2 h4,tm2 h6,tm2 h8];refine Aha (λha=>Aha (λhb=>AOt ?_) λhb=>AOt ?_) λha=>AOt ?_
    ·grind
    ·grind
    grind
   ·grind
   ·grind
   ·grind
   ·grind
   ·grind
   grind
 ·exact AOt ⟨λh=>(nomatch h),λh2=>absurd h2.1 h⟩
theorem BHo {b:Alq} (hk:1<=k) (hs:b.2.1=1∨b.2.1=2) (h:A5x p k b):BOk p k b:=by
 obtain ⟨e,s,x,y,z⟩:=b;obtain ⟨⟨h1,h2⟩,h3⟩:=h;dsimp only at h1 h2 h3 hs;obtain ⟨e,rfl⟩:∃ e':Nat,e=e':=⟨e.toNat,AOq⟩;rw [Int.toNat_natCast] at h3;refine ⟨e,rfl,?_,?_⟩
 ·omega
 grind
def Asc (L:List Alq) (i:Nat):Prop:=0 < i-> ∀ b c,L[i]? =some b->L[i - 1]? =some c->c.1<=b.1
def RG (p:Int) (k:Nat) (L:List Alq) (i:Nat):Prop:=(∀ b,L[i]? =some b->A5x p k b)/\Asc L i
def RC (n k:Nat) (p:Int) (A T:Ahe) (L:List Alq):Prop:=(∀ i,i < L.length->RG p k L i)/\Rng n (p ^ k) T/\det n T % p≠0/\ ∀ i,i < n-> ∀ j,j < n->A1o n (p ^ k) A T i j=A8f p L 0 (λ_ _=>0) i j
theorem BHp {n:Nat} {L:List Alq} (Ab:1<=n) (hn:n<=8) (hdig:Ak9 fuel (tab n n A) p=some (k:Int)) (hp:2<=p) (hq:p ^ k<=2147483647) (hk:1<=k) (Ac:p=2->3<=k) (hsz:∀ b∈L,b.2.1=1∨b.2.1=2) (hs:BEd L=n) (hl:L.length<=n) (Ad:p<=2147483647) (hf:100 < fuel):
 Ok (Aof fuel (tab n n A) p (tab n n T) L) λb=>b=true↔RC n k p A T L:=by
 have Ae:2<=p ^ k:=by
  have:=Aly (p:=p) AOq hk
  grind
 unfold Aof RC;refine AOy (Aid hdig) λx hx=>?_;subst hx;refine AOy (Aid<|A5w hp hq hf) λq hqq=>?_;subst hqq;refine AOy (Axu (n:=L.length) (RG p k L) false AOq (λi hi=>?_) ?_) λex hex=>?_
 ·obtain ⟨b,hb⟩:∃ b,L[i]? =some b:=⟨L[i],List.getElem?_eq_getElem hi⟩;unfold Aot;rw [if_pos AOq,Amr hb];refine AOy (BLg (b:=b) hp hq hk Ac hf) λr hr=>Aha (λh=>AOt<|.inr ⟨rfl,λhg=>?_⟩) λh=>?_
  ·have:=hr.2<|hg.1 b hb;grind
  ·have hpb:A5x p k b:=hr.1 (by grind);have hP:∀ c,L[i]? =some c->A5x p k c:=λc hc=>by grind
   refine Aha (λh0=>?_) λh0=>AOt<|.inl ⟨by rw [Ah6 AOq],hP,λh1=>by omega⟩;have Ag:i - 1 < L.length:=by omega
   obtain ⟨c,hc⟩:∃ c,L[i - 1]? =some c:=⟨L[i - 1],List.getElem?_eq_getElem Ag⟩;refine Ahj hc (by rw [wk AOq];omega)<|Aha (λh2=>AOt<|.inr ⟨rfl,λhg=>?_⟩) λh2=>AOt<|.inl ⟨by rw [Ah6 AOq],hP,λh3 b' c' hb' hc'=>?_⟩
   ·have:=hg.2 AOq b c hb hc;omega
   grind
 ·unfold Aot;grind
 rcases hex with ⟨rfl,hG⟩ | ⟨rfl,hG⟩
 ·refine AOy (BQ5 hn hf) λex hex=>?_;rcases hex with ⟨rfl,hR⟩ | ⟨rfl,hR⟩
  ·refine AOy (Aid<|BQ3 Ab hn hp Ad hf) λd hd=>?_;subst hd;refine AOy (Aid<|BNx Ab hn Ae hq hf) λg hg=>?_;subst hg;dsimp only;refine Aha (λh=>?_) λh=>AOt ⟨λh2=>(nomatch h2),λh2=>absurd h2.2.2.1 h⟩;rw [Ahv];refine AOy (Aid<|BQ7 hn hp hq (λb hb=>?_) hs hl hf) λg hg=>?_
   ·obtain ⟨i,hi⟩:=List.getElem?_of_mem hb;exact BHo hk (hsz b hb)<|(hG i (List.getElem?_eq_some_iff.1 hi).1).1 b hi
   ·subst hg;exact AOy (BNy hn hf) λr hr=>AOt ⟨λh2=>⟨hG,hR,h,hr.1 h2⟩,λh2=>hr.2 h2.2.2.2⟩
  ·exact AOt ⟨λh=>(nomatch h),λh=>absurd h.2.1 hR⟩
 ·exact AOt ⟨λh=>(nomatch h),λh=>absurd h.1 hG⟩
def JG (p:Int) (n:Nat) (G:Ahe) (L:List Alq) (i:Nat):Prop:=(G i i≠0/\ ∀ b,L[i]? =some b->IsB p (G i i) b)/\Asc L i/\ ∀ j,j < n->(j≠i->G i j=0)
def JC (n k:Nat) (p:Int) (A T:Ahe) (L:List Alq):Prop:=Rng n (p ^ k) T/\det n T % p≠0/\ ∀ i,i < n->JG p n (A1o n (p ^ k) A T) L i
theorem A9m {n:Nat} (hq:2<=q) (i j:Nat):0<=A1o n q A T i j/\A1o n q A T i j < q:=⟨Int.emod_nonneg _ AOq,Int.emod_lt_of_pos _ AOq⟩
theorem BHq {n:Nat} {L:List Alq} (Ag:1<=n) (hn:n<=8) (hp:2<=p) (Ai:p<=9973) (hq:p ^ k<=2147483647) (hk:1<=k) (hl:L.length=n) (hf:2147483648 < fuel):Ok (Atr fuel (tab n n A) p (tab n n T) L<|p ^ k) λb=>b=true↔JC n k p A T L:=by
 have Ah:2<=p ^ k:=by
  have:=Aly (p:=p) AOq hk
  grind
 have Af:100 < fuel:=by omega
 unfold Atr JC;refine AOy (BQ4 hn Af) λex hex=>?_;rcases hex with ⟨rfl,hR⟩ | ⟨rfl,hR⟩
 ·refine AOy (Aid<|BQ2 Ag hn hp AOq hf) λd hd=>?_;subst hd;dsimp only;refine Aha (λh=>AOt ⟨λh2=>(nomatch h2),λh2=>absurd h h2.2.1⟩) λh=>AOy (Aid<|BNw Ag hn Ah hq Af) λg hg=>?_;subst hg;dsimp only;have hb:∀ i j,0<=A1o n (p ^ k) A T i j/\A1o n (p ^ k) A T i j < p ^ k:=A9m Ah;generalize A1o n (p ^ k) A T=G at *;refine AOy (Axu (n:=n) (JG p n G L) false AOq (λi hi=>?_) ?_) λex hex=>?_
  ·obtain ⟨b,hbi⟩:∃ b,L[i]? =some b:=⟨L[i]'AOq,List.getElem?_eq_getElem _⟩;unfold Ati;rw [Ahv,if_pos AOq,Amr<|Ah0 hi,Amr<|Ah0 hi,Amr<|Ahu hi];refine AOy (Q:=λex=>(ex= .inr ()/\G i i≠0/\ ∀ b,L[i]? =some b->IsB p (G i i) b)∨(ex= .inl false/\¬ (G i i≠0/\ ∀ b,L[i]? =some b->IsB p (G i i) b))) (Aha (λh1=>AOt<|.inr ⟨rfl,λh2=>h2.1 h1⟩) λh1=>Ahj hbi rfl ?_) λex hex=>?_
   ·have:=hb i i;refine AOy (BLe hp Ai AOq AOq Af) λb0 Ak=>Aha (λh2=>AOt<|.inr ⟨rfl,λh3=>?_⟩) λh2=>AOt<|.inl ⟨rfl,h1,λc hc=>?_⟩
    ·have h4:(!decide (b=b0))=true:=h2;rw [BQ6 hp (h3.2 b hbi) Ak] at h4;simp at h4
    grind
   ·rcases hex with ⟨rfl,h1,h2⟩ | ⟨rfl,h1⟩
    ·refine AOy (Q:=λex=>(ex= .inr ()/\Asc L i)∨(ex= .inl false/\¬ Asc L i)) (Aha (λh0=>Ahj hbi rfl ?_) λh0=>AOt<|.inl ⟨rfl,λh3=>by omega⟩) λex hex=>?_
     ·obtain ⟨c,hc⟩:∃ c,L[i - 1]? =some c:=⟨L[i - 1]'AOq,List.getElem?_eq_getElem _⟩;refine Ahj hc (by rw [wk AOq];omega)<|Aha (λh2=>AOt<|.inr ⟨rfl,λhg=>?_⟩) λh2=>AOt<|.inl ⟨rfl,λh3 b' c' hb' hc'=>?_⟩
      ·have:=hg AOq b c hbi hc;omega
      grind
     ·rcases hex with ⟨rfl,h3⟩ | ⟨rfl,h3⟩
      ·refine AOy (Axu (n:=n) (λj=>j≠i->G i j=0) false AOq (λj hj=>?_) ?_) λex hex=>?_
       ·unfold Ath;rw [Ahz,if_pos AOq,Amr<|Ah0 hi,Amr<|Ahu hj];refine Aha (λh4=>Aha (λh5=>AOt<|.inr ⟨rfl,λh6=>h5<|h6 AOq⟩) λh5=>AOt<|.inl ⟨by rw [Ah6 AOq],λ_=>Decidable.not_not.1 h5⟩) λh4=>AOt<|.inl ⟨by rw [Ah6 AOq],λh5=>by omega⟩
       ·unfold Ath;rw [Ahz,if_neg AOq]
       ·rcases hex with ⟨rfl,h4⟩ | ⟨rfl,h4⟩
        ·exact AOt<|.inl ⟨by rw [Ah6 AOq],⟨h1,h2⟩,h3,h4⟩
        ·exact AOt<|.inr ⟨rfl,λhg=>h4 hg.2.2⟩
      ·exact AOt<|.inr ⟨rfl,λhg=>h3 hg.2.1⟩
    ·exact AOt<|.inr ⟨rfl,λhg=>h1 hg.1⟩
  ·unfold Ati;rw [Ahv,if_neg AOq]
  ·rcases hex with ⟨rfl,h1⟩ | ⟨rfl,h1⟩
   ·exact AOt ⟨λ_=>⟨hR,h,h1⟩,λ_=>rfl⟩
   ·exact AOt ⟨λh=>(nomatch h),λh=>absurd h.2.2 h1⟩
 ·exact AOt ⟨λh=>(nomatch h),λh=>absurd h.1 hR⟩
theorem BHr {n:Nat} {L:List Alq} (hp:3<=p) (hq:p ^ k<=2147483647) (hk:1<=k) (hsz:∀ b∈L,b.2.1=1) (hl:L.length=n):JC n k p A T L↔RC n k p A T L:=by
 have hq2:2<=p ^ k:=by
  have:=Aly (p:=p) AOq hk;grind
 have hb:∀ i j,0<=A1o n (p ^ k) A T i j/\A1o n (p ^ k) A T i j < p ^ k:=A9m hq2;have hm:=BO7 (p:=p) (r:=0) (F:=λ_ _=>0) hsz;unfold JC RC;generalize A1o n (p ^ k) A T=G at *
 have hget:∀ i,i < n-> ∃ b,L[i]? =some b:=λi hi=>⟨L[i]'AOq,List.getElem?_eq_getElem _⟩
 constructor
 ·rintro ⟨h1,h2,h3⟩
  refine ⟨λi hi=>⟨λb hb2=>?_,(h3 i AOq).2.1⟩,h1,h2,λi hi j hj=>?_⟩
  ·obtain ⟨⟨hne,hI⟩,-,-⟩:=h3 i AOq;obtain ⟨e,u,rfl,hx,hu⟩:=hI b hb2;have hbi:=hb i i;have hpe:0 < p ^ e:=Int.pow_pos AOq
   have hu0:0 < u:=by
    rcases Int.lt_or_le 0 u with h | h
    ·exact h
    ·have:=Int.mul_nonpos_of_nonpos_of_nonneg h<|Int.le_of_lt hpe;omega
   have hle:1 * p ^ e<=u * p ^ e:=Int.mul_le_mul_of_nonneg_right AOq AOq;have hek:e < k:=BEc (p:=p) AOq AOq;refine ⟨⟨AOq,AOq⟩,?_⟩;rw [if_pos rfl];refine ⟨⟨hu0,?_⟩,hu,rfl,rfl⟩;rw [Int.toNat_natCast];show u < p ^ (k - e);have h4:u * p ^ e < p ^ (k - e) * p ^ e:=by rw [<- Int.pow_add,show k - e + e=k by omega];omega
   exact Int.lt_of_mul_lt_mul_right h4<|Int.le_of_lt hpe
  ·rw [hm i j]
   by_cases hij:i=j
   ·subst hij;obtain ⟨b,hbi⟩:=hget i hi;obtain ⟨e,u,rfl,hx,hu⟩:=(h3 i hi).1.2 b hbi;grind
   ·rw [if_neg λh=>hij h.1];exact (h3 i hi).2.2 j hj (λh=>hij h.symm)
 ·rintro ⟨h1,h2,h3,h4⟩;refine ⟨h2,h3,λi hi=>?_⟩;obtain ⟨b,hbi⟩:=hget i hi;obtain ⟨hP,hA⟩:=h1 i AOq;have hPb:=hP b hbi;have hs1:=hsz b<|List.mem_of_getElem? hbi;obtain ⟨e,s,x,y,z⟩:=b;dsimp only at hs1;subst hs1;obtain ⟨⟨ha,hb2⟩,hc⟩:=hPb;dsimp only at ha hb2 hc;rw [if_pos rfl] at hc;obtain ⟨⟨c1,c2⟩,c3,rfl,rfl⟩:=hc;have hd:=h4 i hi i hi;rw [hm i i,if_pos ⟨rfl,Nat.zero_le _⟩,Nat.sub_zero,hbi] at hd;dsimp only at hd;have hpe:0 < p ^ e.toNat:=Int.pow_pos AOq;have:=Int.mul_pos hpe c1
  refine ⟨⟨AOq,λc hc=>?_⟩,hA,λj hj hne=>?_⟩
  ·rw [hbi] at hc;cases hc;refine ⟨e.toNat,x,?_,by grind,c3⟩;grind
  grind
theorem BQ8 {T:List (List Int)} {n:Nat} (h1:T.length=n) (h2:∀ z∈T,z.length=n):T=tab n n (ent T):=by
 have:=A5a h2;rwa [h1] at this
theorem BLh {T:List (List Int)} {n:Nat} (h:∀ i,i < T.length-> ∀ z,T[i]? =some z->z.length=n):∀ z∈T,z.length=n:=λz hz=>by
 obtain ⟨i,hi⟩:=List.getElem?_of_mem hz
 grind
theorem BNz {n:Nat} {M T:List (List Int)} (hM:M.length=n) (hT:T.length<=8) (hf:100 < fuel):Ok (iter (λs=>Aqm fuel M T s) fuel 0) λex=>(ex= .inr ()/\ ∀ i,i < T.length-> ∀ z,T[i]? =some z->z.length=n)∨(ex= .inl 3/\¬ ∀ i,i < T.length-> ∀ z,T[i]? =some z->z.length=n):=by
 refine Axu (n:=T.length) (λi=> ∀ z,T[i]? =some z->z.length=n) 3 AOq (λi hi=>?_) ?_
 ·obtain ⟨z,hz⟩:∃ z,T[i]? =some z:=⟨T[i],List.getElem?_eq_getElem hi⟩;unfold Aqm;rw [if_pos AOq,Amr hz];exact Aha (λh=>AOt<|.inr ⟨rfl,λh2=>h<|by grind⟩) λh=>AOt<|.inl ⟨by rw [Ah6 AOq],λy hy=>by grind⟩
 ·unfold Aqm;grind
theorem BN0 {T:List (List Int)} (hT:T.length<=8) (hf:100 < fuel):Ok (Anv fuel T) λb=>b=true↔ ∀ i,i < T.length-> ∀ z,T[i]? =some z->z.length=T.length:=by
 unfold Anv;refine AOy (Axu (n:=T.length) (λi=> ∀ z,T[i]? =some z->z.length=T.length) false AOq (λi hi=>?_) ?_) λex hex=>?_
 ·obtain ⟨z,hz⟩:∃ z,T[i]? =some z:=⟨T[i],List.getElem?_eq_getElem hi⟩;unfold Aoe;rw [if_pos AOq,Amr hz];exact Aha (λh=>AOt<|.inr ⟨rfl,λh2=>h<|by grind⟩) λh=>AOt<|.inl ⟨by rw [Ah6 AOq],λy hy=>by grind⟩
 ·unfold Aoe;grind
 ·rcases hex with ⟨rfl,h⟩ | ⟨rfl,h⟩
  ·exact AOt ⟨λ_=>h,λ_=>rfl⟩
  ·exact AOt ⟨λh=>(nomatch h),λh2=>absurd h2 h⟩
theorem BLi {L:List Alq} (h:∀ b∈L,b.2.1=1):BEd L=L.length:=by
 induction L with
 | nil=>rfl
 | cons b l ih=>
   have hb:=h b Ah7
   unfold BEd
   grind
theorem BCv {M:List (List Int)} {v:Int} (R:A5s M) (hp:2<=p) (hp2:p<=9973) (h:BAr (det M.length<|ent M) p v):∃ k:Nat,((if p=2 then v + 3 else v + 1)=(k:Int))/\p ^ k<=2147483647/\1<=k/\(p=2->3<=k):=by
 obtain ⟨v1,v2⟩:=A8b R;obtain ⟨e,r,rfl,h1,h2⟩:=h;have hpe:0 < p ^ e:=Int.pow_pos AOq
 have hr:0 < r:=by
  rcases Int.lt_or_le 0 r with h | h
  ·exact h
  ·have:=Int.mul_nonpos_of_nonpos_of_nonneg h<|Int.le_of_lt hpe;omega
 have hle:1 * p ^ e<=r * p ^ e:=Int.mul_le_mul_of_nonneg_right AOq AOq
 by_cases h:p=2
 ·subst h;refine ⟨e + 3,AOq,?_,AOq,λ_=>by omega⟩;grind
 ·refine ⟨e + 1,AOq,?_,AOq,λh2=>absurd h2 h⟩;rw [Int.pow_succ];have:=Int.mul_le_mul (show p ^ e<=10000 by omega) hp2 AOq AOq;omega
theorem BHs {M T:List (List Int)} {L:List Alq} (hM:BQw M) (hg:2147483648 < fuel):∃ r,Apr fuel M p T L=some r/\Aog fuel M p T L=some r:=by
 have hf:100 < fuel:=by omega
 have e0:=BD7 hM hf;unfold Apr Aog;rw [e0];simp only [A0i,Awy,BAh,Option.bind_some]
 cases hr:isRed M with
 | false=>simp_all
 | true=>
   cases ho:A6d p with
   | false=>simp_all
   | true=>
     have R:=(A5t M).1 hr
     have ho':2 < p/\p<=9973/\Pr p:=by simpa [A6d] using ho
     simp only [Bool.not_true,Bool.false_eq_true,reduceIte]
     by_cases hT:(T.length:Int)=M.length
     ·by_cases hL:(L.length:Int)=M.length
      ·have hn:=R.1
       obtain ⟨n,hMn⟩:∃ n,M.length=n:=⟨_,rfl⟩
       rw [if_neg (show ¬ ¬ (T.length:Int)=M.length from λh=>h hT),if_neg (show ¬ ¬ (L.length:Int)=M.length from λh=>h hL),if_neg (show ¬ ¬ (T.length:Int)=M.length from λh=>h hT),if_neg<|show ¬ ¬ (L.length:Int)=M.length from λh=>h hL]
       simp only [Option.bind_some]
       obtain ⟨ex,h1,h2⟩:=BNz (fuel:=fuel) (T:=T) hMn AOq hf
       obtain ⟨b,h3,h4⟩:=BN0 (fuel:=fuel) (T:=T) AOq hf
       rw [h1,h3]
       simp only [Option.bind_some]
       have hTn:T.length=n:=by omega
       rw [hTn] at h4 h2
       rcases h2 with ⟨rfl,h2⟩ | ⟨rfl,h2⟩
       ·obtain rfl:b=true:=h4.2 h2
        rw [if_neg AOs]
        simp only [Option.bind_some]
        have hTt:=BQ8 hTn<|BLh (T:=T) (n:=n) (by rw [hTn];exact h2)
        have hMt:=A4y R
        obtain ⟨v,hv,Ap,hj,hd⟩:=A5u (fuel:=fuel) R ho'.2.2 ho'.2.1 hf
        obtain ⟨k,hk,hq,Ad,Ai⟩:=BCv R AOq ho'.2.1 hv
        rw [hk] at hj hd
        rw [hj]
        simp only [Option.bind_some]
        rw [BLd AOq hq hf]
        simp only [Option.bind_some]
        rw [hMn] at hMt hn
        rw [hMt] at hd
        rw [hMt,hTt]
        obtain ⟨c,h5,h6⟩:=BHq (fuel:=fuel) (A:=ent M) (T:=ent T) (L:=L) hn.1 hn.2 (show 2<=p by omega) ho'.2.1 hq Ad (show L.length=n by omega) hg
        rw [h5]
        simp only [Option.bind_some]
        have hall:Ok (iter (λs=>Amt fuel L s) fuel 0) λex=>(ex= .inr ()/\ ∀ i,i < L.length-> ∀ b,L[i]? =some b->b.2.1=1)∨(ex= .inl 10/\¬ ∀ i,i < L.length-> ∀ b,L[i]? =some b->b.2.1=1):=by
         refine Axu (n:=L.length) (λi=> ∀ b,L[i]? =some b->b.2.1=1) 10 AOq (λi hi=>?_) ?_
         ·obtain ⟨z,hz⟩:∃ z,L[i]? =some z:=⟨L[i],List.getElem?_eq_getElem hi⟩
          unfold Amt
          rw [if_pos AOq,Amr hz]
          exact Aha (λh=>AOt<|.inr ⟨rfl,λh2=>h<|h2 z hz⟩) λh=>AOt<|.inl ⟨by rw [Ah6 AOq],λy hy=>by rw [hz] at hy;cases hy;omega⟩
         ·unfold Amt
          rw [if_neg AOq]
        obtain ⟨ex,h7,h8⟩:=hall
        rw [h7]
        simp only [Option.bind_some]
        rcases h8 with ⟨rfl,h8⟩ | ⟨rfl,h8⟩
        ·have hsz:∀ b∈L,b.2.1=1:=λb hb=>by
          obtain ⟨i,hi⟩:=List.getElem?_of_mem hb
          exact h8 i (List.getElem?_eq_some_iff.1 hi).1 b hi
         obtain ⟨d,h9,Ao⟩:=BHp (fuel:=fuel) (A:=ent M) (T:=ent T) (L:=L) hn.1 hn.2 hd (show 2<=p by omega) hq Ad Ai (λb hb=> .inl<|hsz b hb) (by rw [BLi hsz];omega) (show L.length<=n by omega) AOq hf
         simp only []
         rw [h9]
         simp only [Option.bind_some]
         have:c=d:=by
          rw [Bool.eq_iff_iff,h6,Ao]
          exact BHr AOq hq Ad hsz AOq
         subst this
         cases c
         ·exact ⟨10,rfl,rfl⟩
         ·exact ⟨0,rfl,rfl⟩
        ·have: ¬ c=true:=λhc=>h8 λi hi b hb=>by
          obtain ⟨e,u,rfl,-,-⟩:=((h6.1 hc).2.2 i AOq).1.2 b hb
          rfl
         exact ⟨10,by rw [if_pos<|by simpa using this],rfl⟩
       ·have hb: ¬ b=true:=λhb=>h2<|h4.1 hb
        rw [if_pos<|by simpa using hb]
        exact ⟨3,rfl,rfl⟩
      ·rw [if_neg (show ¬ ¬ (T.length:Int)=M.length from λh=>h hT),if_pos (show ¬ (L.length:Int)=M.length from hL),if_neg (show ¬ ¬ (T.length:Int)=M.length from λh=>h hT),if_pos<|show ¬ (L.length:Int)=M.length from hL];exact ⟨3,rfl,rfl⟩
     ·rw [if_pos hT,if_pos hT];exact ⟨3,rfl,rfl⟩
end Go.Proofs.YtkakafabeobahaaGreatDoor
namespace Go.Proofs.YtkakafabeobahaaGreatDoor
open Go Go.QF
set_option maxRecDepth 100000
set_option maxHeartbeats 40000000
def Avi (fuel:Nat) (a1 a2:Int):Option Int:=
 if a2≠0 then if a2≠0 then some (Int.tmod (w64<|Int.tmod a1 a2 + a2) a2) else none else none
theorem Ayz {r:Int} (hp:Avi fuel a1 a2=some r):Ahq Tryz.prog 106 #[(.int .i64 a1),(.int .i64 a2)] h (λx h'=>Ext h h'/\x= .int .i64 r):=by
 unfold Avi at hp;refine cwf (l:=[_,_]) Tryz.func106 rfl rfl (AOv<|Ah4<|AOr<|AOr ?_);obtain ⟨Ac,Ad⟩:=ifN hp;refine Ajh rfl rfl Ac (AOr<|Ahp rfl rfl (AOr ?_));obtain ⟨Ae,Af⟩:=ifN Ad;refine Ajh rfl rfl Ae (AO1<|AO6 ?_);obtain rfl:=AOu Af;exact ⟨_,AO7,(Kst.k0 h).x,rfl⟩
def Azk (fuel:Nat) (Ac Aa Ab:Int):Option ((Int × Int) ⊕ (Int × Int)):=
 if Int.tmod Aa 2=0 then if Int.tmod Ac 8=3 then some (.inl (w64<|Int.tdiv Aa 2,w64<|0 - Ab)) else if Int.tmod Ac 8=5 then some (.inl (w64<|Int.tdiv Aa 2,w64<|0 - Ab)) else some (.inl (w64<|Int.tdiv Aa 2,Ab)) else some<|.inr (Aa,Ab)
def Azl (fuel:Nat) (Ad Aa Ae:Int):Option ((Int × Int × Int) ⊕ (Int × Int)):=
 if ¬ Ad=0 then (iter (λs=>Azk fuel Aa s.1 s.2) fuel (Ad,Ae)).bind (λ((Ab,Ac):Int × Int)=>((if Int.tmod Ab 4=3 then if Int.tmod Aa 4=3 then some (w64<|0 - Ac) else some Ac else some Ac):Option Int).bind (λ(Af:Int)=>if Ab≠0 then some (.inl (Int.tmod Aa Ab,Ab,Af)) else none)) else some<|.inr (Aa,Ae)
def Ay0 (fuel:Nat) (a1 a2:Int):Option Int:=
 (iter (λs=>Azl fuel s.1 s.2.1 s.2.2) fuel (a1,a2,1)).bind (λ((Ac,Ad):Int × Int)=>if ¬ Ac=1 then some 0 else some Ad)
theorem A44 {r:Int} (hp:Ay0 fuel a1 a2=some r):Ahq Tryz.prog 107 #[(.int .i64 a1),(.int .i64 a2)] h (λx h'=>Ext h h'/\x= .int .i64 r):=by
 unfold Ay0 at hp;refine cwf (l:=[_,_]) Tryz.func107 rfl rfl (AOv<|Ah4<|AO1<|AOx<|AO0 ?_);have K0:=Kst.k0 h;refine Aqu 137438953443 hp (λx=>[(0,(.int .i64 x.1)),(1,(.int .i64 x.2.1)),(5,(.int .i64 x.2.2))]) (λx=>K0.L) K0 ⟨rfl,rfl,rfl,trivial⟩ ?_;rintro ⟨u9,Ay,Bc⟩ Be h6 y5 K8 Ae Az;unfold Azl at Ae;refine AOx<|AOv<|AOr<|Ajq rfl rfl (AOz<|⟨_,rfl,λAf=>?_,λAf=>?_⟩)
 ·refine AO4<|q_t<|AO0<|AOx<|AO0<|Aqu 8388385 (Ahx Ae Af) (λx=>[(0,(.int .i64 x.1)),(5,(.int .i64 x.2))]) (λx=>K8.L) K8 ⟨rfl,rfl,trivial⟩ ?_;rintro ⟨A3,Ag⟩ Bh Bi Bj Aa Ah A4;unfold Azk at Ah;refine AOx<|AOv<|AOr<|Ajh rfl rfl AOs (Aiy rfl rfl (AOz<|⟨_,rfl,λAi=>?_,λAi=>?_⟩))
  ·refine AO4<|q_t<|AO0<|AOv<|AOr<|Aub rfl rfl AOs (Ah4<|AOr<|Ajh rfl rfl AOs (Aiy rfl rfl (AOr ?_)));have Ar:=Ahx Ah Ai;by_cases Ac:(Int.tmod Ay 8)=3
   ·rw [decide_eq_true Ac];refine Alb 16 true<|Ag7 rfl (AOz<|Ahn rfl (Ag6<|AOr<|Azz rfl (Ahl<|Ahh<|q_b<|q_t ?_)));exact ⟨_,(AOu<|ifT Ar Ac).symm,Aa,rfl,rfl,trivial⟩
   ·have Au:=ifF Ar Ac;rw [decide_eq_false Ac];refine Ag8 16 false<|AOr<|Ag8 16 false<|Ajh rfl rfl AOs (Ag8 16 false<|Aiy rfl rfl (APb rfl (AOz<|⟨_,rfl,λAj=>?_,λAj=>?_⟩)))
    ·refine Ag6<|AOr<|Azz rfl (Ahl<|Ahh<|q_b<|q_t ?_);exact ⟨_,(AOu<|Ahx Au Aj).symm,Aa,rfl,rfl,trivial⟩
    ·refine AO4<|q_b<|q_t ?_;exact ⟨_,(AOu<|Ahy Au Aj).symm,Aa,rfl,rfl,trivial⟩
  ·refine Ahf<|Ahg<|Ahg<|Aim<|q_t ?_;obtain ⟨A5,Av,A6⟩:=AOw<|A4 _ (AOu<|Ahy Ah Ai).symm;refine Aqt 8581546016 (λx:(Int)=>[(5,(.int .i64 x))]) (λx h'=>( x)=A5/\Kst h h' (Aa.L)) ?_ ?_
   ·refine AOv<|AOr<|Ajh rfl rfl AOs (Aiy rfl rfl (AOr ?_));by_cases Ad:(Int.tmod A3 4)=3
    ·have Aw:=ifT Av Ad;rw [decide_eq_true Ad];refine Ag8 26 true<|AOr<|Ag8 26 true<|Ajh rfl rfl AOs (Ag8 26 true<|Aiy rfl rfl (Ag7 rfl (AOz<|⟨_,rfl,λAk=>?_,λAk=>?_⟩)))
     ·refine Ag6<|AOr<|Azz rfl (AO1 ?_);exact ⟨((w64<|0 - Ag):(Int)),⟨AOu<|Ahx Aw Ak,Aa⟩,rfl,trivial⟩
     ·refine AO4<|q_t ?_;exact ⟨(Ag:(Int)),⟨AOu<|Ahy Aw Ak,Aa⟩,rfl,trivial⟩
    ·rw [decide_eq_false Ad];refine Alb 26 false<|APb rfl (AOz<|Ahs rfl (AO4<|q_t ?_));exact ⟨(Ag:(Int)),⟨AOu<|ifF Av Ad,Aa⟩,rfl,trivial⟩
   rintro Bl Bm Bn ⟨A7,A8⟩;subst A7;refine Ag6<|AOr<|AOr ?_;obtain ⟨A9,Ba⟩:=ifN A6;refine Ajh rfl rfl A9 (AOr<|Ahl<|Ahl<|Ahh<|q_b<|q_t ?_);exact ⟨_,(AOu Ba).symm,A8,rfl,rfl,rfl,trivial⟩
 ·refine Ahf<|Ahg<|Ahg<|Aim<|q_t<|AOx<|AOv<|AOr<|Ajq rfl rfl (AOz ?_);have Ax:=Az _ (AOu<|Ahy Ae Af).symm;refine ⟨_,rfl,λAm=>?_,λAm=>?_⟩
  ·refine AOv<|AO1<|AO6<|Ag9 ?_;obtain rfl:=AOu<|Ahx Ax Am;exact ⟨_,AO7,K8.x,rfl⟩
  ·refine AO4<|q_t<|AOv<|AOr<|AO1<|AO6 ?_;obtain rfl:=AOu<|Ahy Ax Am;exact ⟨_,AO7,K8.x,rfl⟩
def Axd (fuel:Nat) (a1 Ab Aa:Int):Option ((Int × Int) ⊕ ((Int × Int) ⊕ (Int × Int))):=
 if Int.tmod Ab 2=0 then if Int.tmod a1 2=0 then some (.inr<|.inl (0,0)) else (((Avi fuel a1 8).bind λAd=>if Ad=3 then some (w64<|0 - Aa) else if Ad=5 then some (w64<|0 - Aa) else some Aa):Option Int).bind (λ(Ae:Int)=>some<|.inl (w64<|Int.tdiv Ab 2,Ae)) else some<|.inr<|.inr (Ab,Aa)
def Awm (fuel:Nat) (a1 a2:Int):Option (Int × Int):=
 ((if a1 < (-2147483647) then some (.inl (0,1)) else if 2147483647 < a1 then some (.inl (0,1)) else if a2 < (-2147483647) then some (.inl (0,1)) else if 2147483647 < a2 then some (.inl (0,1)) else some<|.inr ()):Option ((Int × Int) ⊕ Unit)).bind (λex=>match ex with | .inl Ad=>(some Ad) | .inr _=>if a2=0 then if a1=1 then some (1,0) else if a1=(-1) then some (1,0) else some (0,0) else ((if a2 < 0 then if a1 < 0 then some (w64<|0 - a2,-1) else some (w64<|0 - a2,1) else some (a2,1)):Option (Int × Int)).bind (λ((Ae,Af):Int × Int)=>(iter (λs=>Axd fuel a1 s.1 s.2) fuel (Ae,Af)).bind (λex=>match ex with | .inl Ag=>(some Ag) | .inr (Ac,Ah)=>(Avi fuel a1 Ac).bind λAi=>(Ay0 fuel Ai Ac).bind λAj=>some (w64<|Ah * Aj,0))))
theorem A2n {r:(Int × Int)} (hp:Awm fuel a1 a2=some r):Ahq Tryz.prog 56 #[(.int .i64 a1),(.int .i64 a2)] h (λx h'=>Ext h h'/\x= .tuple #[.int .i64 r.1,.int .i64 r.2]):=by
 unfold Awm at hp;refine cwf (l:=[_,_]) Tryz.func56 rfl rfl (AOv<|Ahl<|AO1 ?_);have K0:=Kst.k0 h;obtain ⟨Bh,A3,Ad⟩:=AOw hp;refine Aqt 4194096 (λx:Unit=>[]) (λx h'=>(Sum.inr <| ())=Bh/\Kst h h' (K0.L)) ?_ ?_
 ·refine AOv<|AOr<|Aho rfl rfl (AOr ?_);by_cases Af:a1 < (-2147483647)
  ·rw [decide_eq_true Af];refine Aol 10 true<|Ag7 rfl (AOr<|Aol 14 true<|Ag7 rfl (AOr<|Aol 18 true<|Ag7 rfl (AOz<|Ahn rfl (AOv<|Ahl<|AO1 ?_))));obtain rfl:=AOu<|ifT A3 Af;refine AO6<|Ag9 ?_;obtain rfl:=AOu Ad;exact ⟨_,Air,K0.x,rfl⟩
  ·have A4:=ifF A3 Af;rw [decide_eq_false Af];refine Ag8 10 false<|AOr<|Ag8 10 false<|An0 rfl rfl (APb rfl (AOr ?_));by_cases Ag:2147483647 < a1
   ·rw [decide_eq_true Ag];refine Aol 14 true<|Ag7 rfl (AOr<|Aol 18 true<|Ag7 rfl (AOz<|Ahn rfl (AOv<|Ahl<|AO1 ?_)));obtain rfl:=AOu<|ifT A4 Ag;refine AO6<|Ag9 ?_;obtain rfl:=AOu Ad;exact ⟨_,Air,K0.x,rfl⟩
   ·have A5:=ifF A4 Ag;rw [decide_eq_false Ag];refine Ag8 14 false<|AOr<|Ag8 14 false<|Aho rfl rfl (APb rfl (AOr ?_));by_cases Ah:a2 < (-2147483647)
    ·rw [decide_eq_true Ah];refine Aol 18 true<|Ag7 rfl (AOz<|Ahn rfl (AOv<|Ahl<|AO1 ?_));obtain rfl:=AOu<|ifT A5 Ah;refine AO6<|Ag9 ?_;obtain rfl:=AOu Ad;exact ⟨_,Air,K0.x,rfl⟩
    ·have A6:=ifF A5 Ah;rw [decide_eq_false Ah];refine Ag8 18 false<|AOr<|Ag8 18 false<|An0 rfl rfl (APb rfl (AOz<|⟨_,rfl,λAm=>?_,λAm=>?_⟩))
     ·refine AOv<|Ahl<|AO1 ?_;obtain rfl:=AOu<|Ahx A6 Am;refine AO6<|Ag9 ?_;obtain rfl:=AOu Ad;exact ⟨_,Air,K0.x,rfl⟩
     ·refine AO4<|q_t ?_;exact ⟨(():Unit),⟨AOu<|Ahy A6 Am,K0⟩,trivial⟩
 rintro ⟨⟩ B3 B4 ⟨Bi,Aa⟩;subst Bi;refine AOx<|AOv<|AOr<|Aiy rfl rfl (AOz<|⟨_,rfl,λAo=>?_,λAo=>?_⟩)
 ·refine AOx<|AOv<|AOr<|Aiy rfl rfl (AOr ?_);have A7:=Ahx Ad Ao;by_cases Ai:a1=1
  ·rw [decide_eq_true Ai];refine Aol 26 true<|Ag7 rfl (AOz<|Ahn rfl (AOv<|Ahl<|AO1<|AO6<|Ag9<|Ag9 ?_));obtain rfl:=AOu<|ifT A7 Ai;exact ⟨_,Air,Aa.x,rfl⟩
  ·have A8:=ifF A7 Ai;rw [decide_eq_false Ai];refine Ag8 26 false<|AOr<|Ag8 26 false<|Aiy rfl rfl (APb rfl (AOz<|⟨_,rfl,λAp=>?_,λAp=>?_⟩))
   ·refine AOv<|Ahl<|AO1<|AO6<|Ag9<|Ag9 ?_;obtain rfl:=AOu<|Ahx A8 Ap;exact ⟨_,Air,Aa.x,rfl⟩
   ·refine AO4<|q_t<|AOv<|Ahl<|AO1<|AO6<|Ag9 ?_;obtain rfl:=AOu<|Ahy A8 Ap;exact ⟨_,Air,Aa.x,rfl⟩
 ·refine AO4<|q_t<|AOv<|AO1 ?_;obtain ⟨Bj,A9,Bl⟩:=AOw<|Ahy Ad Ao;refine Aqt 67645734978 (λx:(Int) × (Int)=>[(1,(.int .i64 x.1)),(6,(.int .i64 x.2))]) (λx h'=>( (x.1,x.2))=Bj/\Kst h h' (Aa.L)) ?_ ?_
  ·refine AOv<|AOr<|Aho rfl rfl (AOz<|⟨_,rfl,λAq=>?_,λAq=>?_⟩)
   ·refine AOv<|AOr<|Azz rfl (Ah4<|AOr<|Aho rfl rfl (AOz ?_));have Ba:=Ahx A9 Aq;refine ⟨_,rfl,λAr=>?_,λAr=>?_⟩
    ·refine Ag6<|AO1 ?_;exact ⟨(((w64<|0 - a2),(-1)):(Int) × (Int)),⟨AOu<|Ahx Ba Ar,Aa⟩,rfl,rfl,trivial⟩
    ·refine AO4<|q_t ?_;exact ⟨(((w64<|0 - a2),1):(Int) × (Int)),⟨AOu<|Ahy Ba Ar,Aa⟩,rfl,rfl,trivial⟩
   ·refine AO4<|q_t ?_;exact ⟨((a2,1):(Int) × (Int)),⟨AOu<|Ahy A9 Aq,Aa⟩,rfl,rfl,trivial⟩
  rintro ⟨u64,B5⟩ B6 B7 ⟨Bm,Bb⟩;subst Bm;refine AOx<|AO0<|Aqu 18014329790005490 Bl (λx=>[(1,(.int .i64 x.1)),(6,(.int .i64 x.2))]) (λx=>Bb.L) Bb ⟨rfl,rfl,trivial⟩ ?_;rintro ⟨B8,Au⟩ B9 Ca Cb Aj Av Bc;unfold Axd at Av;refine AOx<|AOv<|AOr<|Ajh rfl rfl AOs (Aiy rfl rfl (AOz<|⟨_,rfl,λAw=>?_,λAw=>?_⟩))
  ·refine AO4<|q_t<|AO0<|AOx<|AOv<|AOr<|Ajh rfl rfl AOs (Aiy rfl rfl (AOz ?_));have Be:=Ahx Av Aw;refine ⟨_,rfl,λAx=>?_,λAx=>?_⟩
   ·refine AOv<|Ahl<|AO1<|AO6<|Ag9<|Aiq<|Ag9<|Aiq<|Ag9 ?_;obtain rfl:=AOu<|Bc _ (AOu<|Ahx Be Ax).symm;exact ⟨_,Air,Aj.x,rfl⟩
   ·refine AO4<|q_t ?_;obtain ⟨Bn,Bo,Bp⟩:=AOw<|Ahy Be Ax;refine Aqt 4499201580859584 (λx:(Int)=>[(6,(.int .i64 x))]) (λx h'=>( x)=Bn/\Kst h h' (Aj.L)) ?_ ?_
    ·refine AOv<|AOr ?_;obtain ⟨Bq,Br,Bf⟩:=AOw Bo;refine Aj5 Aj (Ayz Br) λCd Ce Ay=>Ah4<|AOr<|Aiy rfl rfl (AOr ?_);by_cases Ak:Bq=3
     ·rw [decide_eq_true Ak];refine Aol 46 true<|Ag7 rfl (AOz<|Ahn rfl (Ag6<|AOr<|Azz rfl (AO1 ?_)));exact ⟨((w64<|0 - Au):(Int)),⟨AOu<|ifT Bf Ak,Ay⟩,rfl,trivial⟩
     ·have Bg:=ifF Bf Ak;rw [decide_eq_false Ak];refine Ag8 46 false<|AOr<|Ag8 46 false<|Aiy rfl rfl (APb rfl (AOz<|⟨_,rfl,λAz=>?_,λAz=>?_⟩))
      ·refine Ag6<|AOr<|Azz rfl (AO1 ?_);exact ⟨((w64<|0 - Au):(Int)),⟨AOu<|Ahx Bg Az,Ay⟩,rfl,trivial⟩
      ·refine AO4<|q_t ?_;exact ⟨(Au:(Int)),⟨AOu<|Ahy Bg Az,Ay⟩,rfl,trivial⟩
    rintro Cf Cg Ch ⟨Bt,Bu⟩;subst Bt;refine Ag6<|AOr<|Aub rfl rfl AOs (Ahl<|Ahh<|q_b<|q_t ?_);exact ⟨_,(AOu Bp).symm,Bu,rfl,rfl,trivial⟩
  ·refine Ahf<|Ahg<|Ahg<|Aim<|q_t<|AOv<|AOr<|AOr<|AOr ?_;obtain ⟨Ci,Bv,Bw⟩:=AOw<|Bc _ (AOu<|Ahy Av Aw).symm;refine Aj5 Aj (Ayz Bv) λCj Ck Bx=>AOr ?_;obtain ⟨Cm,By,Bz⟩:=AOw Bw;refine Aj5 Bx (A44 By) λCn Co B1=>Aok rfl rfl (Ahl<|AO1<|AO6 ?_);obtain rfl:=AOu Bz;exact ⟨_,Air,B1.x,rfl⟩
noncomputable def Avg (fuel:Nat) (a1:Int) (a8:List Alq) (Ae:List Ax0) (Ad:Int):Option ((List Ax0 × Int) ⊕ ((List Ax0 × Bool) ⊕ List Ax0)):=
 if Ad < (a8.length:Int) then (gI a8 Ad).bind λAa=>((if ¬ Aa.2.1=1 then some (.inl ([],false)) else if Aa.1 < 0 then some (.inl ([],false)) else if 60 < Aa.1 then some (.inl ([],false)) else if ¬ Aa.2.2.2.1=0 then some (.inl ([],false)) else if ¬ Aa.2.2.2.2=0 then some (.inl ([],false)) else if a1≠0 then if Int.tmod Aa.2.2.1 a1=0 then some (.inl ([],false)) else some (.inr ()) else none):Option ((List Ax0 × Bool) ⊕ Unit)).bind (λex=>match ex with | .inl Ai=>(some<|.inr<|.inl Ai) | .inr _=>((if 0 < Ad then (gI a8<|w64<|Ad - 1).bind λAj=>if Aa.1 < Aj.1 then some (.inl ([],false)) else some (.inr ()) else some<|.inr ()):Option ((List Ax0 × Bool) ⊕ Unit)).bind (λex=>match ex with | .inl Ak=>(some<|.inr<|.inl Ak) | .inr _=>((if Ad=0 then if Ae.length<=100000000 then some (Ae ++ [(Aa.1,0,1,false,0)]) else none else (gI a8<|w64<|Ad - 1).bind λAm=>if Am.1 < Aa.1 then if Ae.length<=100000000 then some (Ae ++ [(Aa.1,0,1,false,0)]) else none else some Ae):Option (List Ax0)).bind (λ(Ac:(List Ax0))=>if a1≠0 then (Awm fuel (Int.tmod Aa.2.2.1 a1) a1).bind λ(Ao,Ap)=>(gI Ac<|w64<|(Ac.length:Int) - 1).bind λAb=>(gI (sI Ac (w64<|(Ac.length:Int) - 1) (Ab.1,w64<|Ab.2.1 + 1,Ab.2.2.1,Ab.2.2.2.1,Ab.2.2.2.2))<|w64<|(Ac.length:Int) - 1).bind λAg=>some (.inl (sI (sI Ac (w64<|(Ac.length:Int) - 1) (Ab.1,w64<|Ab.2.1 + 1,Ab.2.2.1,Ab.2.2.2.1,Ab.2.2.2.2)) (w64<|(Ac.length:Int) - 1) (Ag.1,Ag.2.1,w64<|Ag.2.2.1 * Ao,Ag.2.2.2.1,Ag.2.2.2.2),w64<|Ad + 1)) else none))) else some<|.inr<|.inr Ae
noncomputable def Aqs (fuel:Nat) (a1:Int) (a4:LiI) (a8:List Alq):Option ((List Ax0) × Bool):=
 (((Awy fuel a1).bind λAc=>if (!Ac)=true then some (.inl ([],false)) else if (a8.length:Int) < 1 then some (.inl ([],false)) else if 8 < (a8.length:Int) then some (.inl ([],false)) else some<|.inr ()):Option ((List Ax0 × Bool) ⊕ Unit)).bind (λex=>match ex with | .inl Ad=>(some Ad) | .inr _=>(iter (λs=>Avg fuel a1 a8 s.1 s.2) fuel ([],0)).bind (λex=>match ex with | .inl Ae=>(some Ae) | .inr Af=>some (Af,true)))
theorem Azx {A6:Value} {a4:LiI} {A7:Value} {a8:(List Alq)} {r:((List Ax0) × Bool)} (H3:Ajx (cI .i64) h A6 a4) (H7:SlC Ar1 h A7 a8) (HO:A26 h) (hp:Aqs fuel a1 a4 a8=some r):Ahq Tryz.prog 21 #[(.agg #[(.int .i64 a1),A6,A7])] h (λx h'=>Ext h h'/\ ∃ (x0:Value) (F0:List Nat),x= .tuple #[x0,.bool r.2]/\OwC Axk 49 h' F0 x0 r.1/\Sp h' h.size [F0]):=by
 unfold Aqs at hp;refine cwf (l:=[_]) Tryz.func21 rfl rfl (AOv<|Ao1 (Kst.k0 h) [(.int .i64 a1),A6,A7] λEa Eb Ec Ao=>Ahl<|AO1 ?_);obtain ⟨Cn,Co,Ap⟩:=AOw hp;refine Aqt 67107852 (λx:Unit=>[]) (λx h'=>(Sum.inr <| ())=Cn/\Kst h h' (Ao.L)) ?_ ?_
 ·refine AOv<|Ajl Aqn AO9 (Ao.b p0) 0 rfl ?_;obtain ⟨Cp,Cq,By⟩:=AOw Co;refine Aj5 Ao (A2i (HO.ext Ao.x) Cq) λEd Ee Ah=>Akg rfl (AOr ?_);cases Bz:(!Cp)
  ·refine Ag8 14 false<|Ah1 Anw rfl (Ag8 14 false<|Aht At1 rfl ((Ah.b p0).cell (i:=2) rfl) (Ag8 14 false<|Aio Asz rfl H7 (Ag8 14 false<|Aho rfl rfl (APb rfl (AOr ?_)))));have B1:=Aoy By Bz;by_cases Aq:(a8.length:Int) < 1
   ·rw [decide_eq_true Aq];refine Alo 20 true<|Ag7 rfl (AOz<|Ahn rfl (AOv<|Ahl<|AO1 ?_));obtain rfl:=AOu<|ifT B1 Aq;refine AO6<|Ag9 ?_;have A9:=Kst.anil Axk 49 Ah;obtain rfl:=AOu Ap;exact ⟨_,Air,A9.x,_,_,rfl,(A9.o p0),A9.s.sel [0] AOs⟩
   ·have B3:=ifF B1 Aq;rw [decide_eq_false Aq];refine Ag8 20 false<|Ah1 Anw rfl (Ag8 20 false<|Aht At1 rfl ((Ah.b p0).cell (i:=2) rfl) (Ag8 20 false<|Aio Asz rfl H7 (Ag8 20 false<|An0 rfl rfl (APb rfl (AOz<|⟨_,rfl,λBa=>?_,λBa=>?_⟩)))))
    ·refine AOv<|Ahl<|AO1 ?_;obtain rfl:=AOu<|Ahx B3 Ba;refine AO6<|Ag9 ?_;have Bb:=Kst.anil Axk 49 Ah;obtain rfl:=AOu Ap;exact ⟨_,Air,Bb.x,_,_,rfl,(Bb.o p0),Bb.s.sel [0] AOs⟩
    ·refine AO4<|q_t ?_;exact ⟨(():Unit),⟨AOu<|Ahy B3 Ba,Ah⟩,trivial⟩
  ·refine Alo 14 true<|Ag7 rfl (AOr<|Alo 20 true<|Ag7 rfl (AOz<|Ahn rfl (AOv<|Ahl<|AO1 ?_)));obtain rfl:=AOu<|ifT By Bz;refine AO6<|Ag9 ?_;have Bc:=Kst.anil Axk 49 Ah;obtain rfl:=AOu Ap;exact ⟨_,Air,Bc.x,_,_,rfl,(Bc.o p0),Bc.s.sel [0] AOs⟩
 rintro ⟨⟩ Ef Eg ⟨Cr,B4⟩;subst Cr;refine AOv<|AO1<|AOx<|AOv<|Ajl Anw At1 (B4.b p0) 2 rfl (Aio Asz rfl H7 (AOr<|AOz<|AO0 ?_));have B5:=Kst.anil Axk 49 B4;refine Anb 2722258935367507707706996859453608821756 (λx:((List Ax0)) × (Value) × LnA × (Int)=>(x.1,x.2.2.2)) (([],(.slice none 0 0),[],0):((List Ax0)) × (Value) × LnA × (Int)) Ap (λx=>[(4,x.2.1),(29,(.int .i64 x.2.2.2))]) (λx=>B5.L.set 0<|aO Axk 49 x.2.2.1 x.2.1 x.1) B5 ⟨rfl,rfl,trivial⟩ ?_;rintro ⟨Be,Ct,Cu,B6⟩ Eh Ei Ej Ai Bf Ad;unfold Avg at Bf;refine AOv<|Aho rfl rfl (AOz<|AOx<|⟨_,rfl,λBg=>?_,λBg=>?_⟩)
 ·refine AO4<|q_t<|AOx<|AO0<|AOv<|AOr ?_;obtain ⟨Aa,Cv,Cw⟩:=AOw<|Ahx Bf Bg;refine Aqe (c:=Ar1) Asz rfl H7 rfl Cv λEk El Em Cx Cy=>?_;obtain rfl:=Cx;refine Avo (c:=Ar1) Atw rfl rfl (λj u hu=>(AO8 (Cy j u hu) Ai.x)) (Aj3 Ai [(.int .i64 0),(.int .i64 0),(.int .i64 0),(.int .i64 0),(.int .i64 0)] Axm λEn Eo Ep B7=>Ahl<|Ai5 [(.int .i64 Aa.1),(.int .i64 Aa.2.1),(.int .i64 Aa.2.2.1),(.int .i64 Aa.2.2.2.1),(.int .i64 Aa.2.2.2.2)] Atw rfl rfl rfl rfl (by simp [isOne]) (B7.b p0) λEr Cz C0=>AOz ?_);have Ab:=B7.sb p0 C0 Cz rfl;obtain ⟨C1,B8,Ae⟩:=AOw Cw;refine Aqt 36893488130239234060 (λx:Unit=>[]) (λx h'=>(Sum.inr <| ())=C1/\Kst h h' (Ab.L)) ?_ ?_
  ·refine AOv<|Ajl A2u Aiw (Ab.b p0) 1 rfl (Ajq rfl rfl (AOr ?_));by_cases Ar: ¬ Aa.2.1=1
   ·rw [decide_eq_true Ar];refine Alb 37 true<|Ag7 rfl (AOr<|Alb 42 true<|Ag7 rfl (AOr<|Alb 47 true<|Ag7 rfl (AOr<|Alb 52 true<|Ag7 rfl (AOr<|Ald 57 true<|A5z 57 true<|Ag7 rfl (AOz<|Ahn rfl (AOv<|Ahl<|AO1 ?_))))));obtain rfl:=AOu<|ifT B8 Ar;refine AO6<|Ag9<|Aiq<|Ag9<|Ag9<|Aiq<|Ag9 ?_;have Bh:=Kst.anil Axk 49 Ab;obtain rfl:=AOu<|Ad _ (AOu Ae).symm;exact ⟨_,Air,Bh.x,_,_,rfl,(Bh.o p0),Bh.s.sel [0] AOs⟩
   ·have B9:=ifF B8 Ar;rw [decide_eq_false Ar];refine Ag8 37 false<|Ah1 Apf rfl (Ag8 37 false<|Aht Aiw rfl ((Ab.b p0).cell (i:=0) rfl) (Ag8 37 false<|Aho rfl rfl (APb rfl (AOr ?_))));by_cases Au:Aa.1 < 0
    ·rw [decide_eq_true Au];refine Alb 42 true<|Ag7 rfl (AOr<|Alb 47 true<|Ag7 rfl (AOr<|Alb 52 true<|Ag7 rfl (AOr<|Ald 57 true<|A5z 57 true<|Ag7 rfl (AOz<|Ahn rfl (AOv<|Ahl<|AO1 ?_)))));obtain rfl:=AOu<|ifT B9 Au;refine AO6<|Ag9<|Aiq<|Ag9<|Ag9<|Aiq<|Ag9 ?_;have Bi:=Kst.anil Axk 49 Ab;obtain rfl:=AOu<|Ad _ (AOu Ae).symm;exact ⟨_,Air,Bi.x,_,_,rfl,(Bi.o p0),Bi.s.sel [0] AOs⟩
    ·have Ca:=ifF B9 Au;rw [decide_eq_false Au];refine Ag8 42 false<|Ah1 Apf rfl (Ag8 42 false<|Aht Aiw rfl ((Ab.b p0).cell (i:=0) rfl) (Ag8 42 false<|An0 rfl rfl (APb rfl (AOr ?_))));by_cases Av:60 < Aa.1
     ·rw [decide_eq_true Av];refine Alb 47 true<|Ag7 rfl (AOr<|Alb 52 true<|Ag7 rfl (AOr<|Ald 57 true<|A5z 57 true<|Ag7 rfl (AOz<|Ahn rfl (AOv<|Ahl<|AO1 ?_))));obtain rfl:=AOu<|ifT Ca Av;refine AO6<|Ag9<|Aiq<|Ag9<|Ag9<|Aiq<|Ag9 ?_;have Bj:=Kst.anil Axk 49 Ab;obtain rfl:=AOu<|Ad _ (AOu Ae).symm;exact ⟨_,Air,Bj.x,_,_,rfl,(Bj.o p0),Bj.s.sel [0] AOs⟩
     ·have Cb:=ifF Ca Av;rw [decide_eq_false Av];refine Ag8 47 false<|Ah1 Ax1 rfl (Ag8 47 false<|Aht AO9 rfl ((Ab.b p0).cell (i:=3) rfl) (Ag8 47 false<|Ajq rfl rfl (APb rfl (AOr ?_))));by_cases Aw: ¬ Aa.2.2.2.1=0
      ·rw [decide_eq_true Aw];refine Alb 52 true<|Ag7 rfl (AOr<|Ald 57 true<|A5z 57 true<|Ag7 rfl (AOz<|Ahn rfl (AOv<|Ahl<|AO1 ?_)));obtain rfl:=AOu<|ifT Cb Aw;refine AO6<|Ag9<|Aiq<|Ag9<|Ag9<|Aiq<|Ag9 ?_;have Bl:=Kst.anil Axk 49 Ab;obtain rfl:=AOu<|Ad _ (AOu Ae).symm;exact ⟨_,Air,Bl.x,_,_,rfl,(Bl.o p0),Bl.s.sel [0] AOs⟩
      ·have Cd:=ifF Cb Aw;rw [decide_eq_false Aw];refine Ag8 52 false<|Ah1 Azh rfl (Ag8 52 false<|Aht AO9 rfl ((Ab.b p0).cell (i:=4) rfl) (Ag8 52 false<|Ajq rfl rfl (APb rfl (AOr ?_))));by_cases Ax: ¬ Aa.2.2.2.2=0
       ·rw [decide_eq_true Ax];refine Ald 57 true<|A5z 57 true<|Ag7 rfl (AOz<|Ahn rfl (AOv<|Ahl<|AO1 ?_));obtain rfl:=AOu<|ifT Cd Ax;refine AO6<|Ag9<|Aiq<|Ag9<|Ag9<|Aiq<|Ag9 ?_;have Bm:=Kst.anil Axk 49 Ab;obtain rfl:=AOu<|Ad _ (AOu Ae).symm;exact ⟨_,Air,Bm.x,_,_,rfl,(Bm.o p0),Bm.s.sel [0] AOs⟩
       ·rw [decide_eq_false Ax];refine Ag8 57 false<|Ah1 At2 rfl (Ag8 57 false<|Aht AO9 rfl ((Ab.b p0).cell (i:=2) rfl) (Ag8 57 false<|Ah1 Aqn rfl (Ag8 57 false<|Aht AO9 rfl ((Ab.b p2).cell (i:=0) rfl) (Ag8 57 false ?_))));obtain ⟨C2,Ce⟩:=ifN<|ifF Cd Ax;refine Ajh rfl rfl C2 (Ag8 57 false<|Aiy rfl rfl (APb rfl (AOz<|⟨_,rfl,λBn=>?_,λBn=>?_⟩)))
        ·refine AOv<|Ahl<|AO1 ?_;obtain rfl:=AOu<|Ahx Ce Bn;refine AO6<|Ag9<|Aiq<|Ag9<|Ag9<|Aiq<|Ag9 ?_;have Bo:=Kst.anil Axk 49 Ab;obtain rfl:=AOu<|Ad _ (AOu Ae).symm;exact ⟨_,Air,Bo.x,_,_,rfl,(Bo.o p0),Bo.s.sel [0] AOs⟩
        ·refine AO4<|q_t ?_;exact ⟨(():Unit),⟨AOu<|Ahy Ce Bn,Ab⟩,trivial⟩
  rintro ⟨⟩ Es Et ⟨C3,Af⟩;subst C3;obtain ⟨C4,Cf,Cg⟩:=AOw Ae;refine Aqt 604426016319167168249868 (λx:Unit=>[]) (λx h'=>(Sum.inr <| ())=C4/\Kst h h' (Af.L)) ?_ ?_
  ·refine AOx<|Ana<|AOr<|An0 rfl rfl (AOr ?_);by_cases Ay:0 < B6
   ·rw [decide_eq_true Ay];refine Ag8 67 true<|Ah1 Apf rfl (Ag8 67 true<|Aht Aiw rfl ((Af.b p0).cell (i:=0) rfl) (Ag8 67 true<|Ah1 Anw rfl (Ag8 67 true<|Aht At1 rfl ((Af.b p2).cell (i:=2) rfl) (Ag8 67 true<|AOr<|Ag8 67 true<|Anj rfl rfl (Ag8 67 true ?_)))));obtain ⟨Eu,C5,Ch⟩:=AOw<|ifT Cf Ay;refine Aqe (c:=Ar1) Asz rfl H7 rfl C5 λEv Ew Ey C6 C7=>?_;obtain rfl:=C6;refine Ag8 67 true<|Ah1 Apf rfl (Ag8 67 true<|Aht Aiw rfl (AO8 (C7 0 _ rfl) Af.x) (Ag8 67 true<|Aho rfl rfl (Ag7 rfl (AOz<|⟨_,rfl,λBp=>?_,λBp=>?_⟩))))
    ·refine AOv<|Ahl<|AO1 ?_;obtain rfl:=AOu<|Ahx Ch Bp;refine AO6<|Ag9<|Aiq<|Ag9<|Ag9<|Aiq<|Ag9 ?_;have Bq:=Kst.anil Axk 49 Af;obtain rfl:=AOu<|Ad _ (AOu Cg).symm;exact ⟨_,Air,Bq.x,_,_,rfl,(Bq.o p0),Bq.s.sel [0] AOs⟩
    ·refine AO4<|q_t ?_;exact ⟨(():Unit),⟨AOu<|Ahy Ch Bp,Af⟩,trivial⟩
   ·rw [decide_eq_false Ay];refine Ald 67 false<|Ald 67 false<|APb rfl (AOz<|Ahs rfl (AO4<|q_t ?_));exact ⟨(():Unit),⟨AOu<|ifF Cf Ay,Af⟩,trivial⟩
  rintro ⟨⟩ Ez Fa ⟨C8,Ac⟩;subst C8;obtain ⟨C9,Ci,Da⟩:=AOw Cg;refine Aqt 633824695651204893433764249616 (λx:((List Ax0)) × (Value) × LnA=>[(4,x.2.1)]) (λx h'=>( x.1)=C9/\Kst h h' (Ac.L.set 1<|aO Axk 49 x.2.2 x.2.1 x.1)) ?_ ?_
  ·refine AOx<|Ana<|AOr<|Aiy rfl rfl (AOr ?_);by_cases Az:B6=0
   ·rw [decide_eq_true Az];refine Ald 81 true<|Ald 81 true<|Ag7 rfl (AOz<|Ahn rfl (Ag6<|AOr<|Ajl Apf Aiw (Ac.b p0) 0 rfl (Akh (v:=(.agg #[(.int .i64 Aa.1),(.int .i64 0),(.int .i64 1),(.bool false),(.int .i64 0)])) (λ_=>by kernel_rfl) ?_)));obtain ⟨Db,Dc⟩:=ifN<|ifT Ci Az;refine Ar3 A3f BDd rfl rfl trivial tt2 (λ_=>rfl) rfl (show (Axk).rep _ (Aa.1,0,1,false,0) [(.int .i64 Aa.1),(.int .i64 0),(.int .i64 1),(.bool false),(.int .i64 0)] from rfl) (Ac.o p1) AOs Db λFb Dd De Fc Df Dg Dh=>AO1 ?_;exact ⟨(((Be ++ [(Aa.1,0,1,false,0)]),De,Dd):((List Ax0)) × (Value) × LnA),⟨AOu Dc,(Ac.uo p1 Dg Df Dh)⟩,rfl,trivial⟩
   ·rw [decide_eq_false Az];refine Ag8 81 false<|Ah1 Apf rfl (Ag8 81 false<|Aht Aiw rfl ((Ac.b p0).cell (i:=0) rfl) (Ag8 81 false<|Ah1 Anw rfl (Ag8 81 false<|Aht At1 rfl ((Ac.b p2).cell (i:=2) rfl) (Ag8 81 false<|AOr<|Ag8 81 false<|Anj rfl rfl (Ag8 81 false ?_)))));obtain ⟨Fd,Di,Cj⟩:=AOw<|ifF Ci Az;refine Aqe (c:=Ar1) Asz rfl H7 rfl Di λFe Ff Fg Dj Dk=>?_;obtain rfl:=Dj;refine Ag8 81 false<|Ah1 Apf rfl (Ag8 81 false<|Aht Aiw rfl (AO8 (Dk 0 _ rfl) Ac.x) (Ag8 81 false<|An0 rfl rfl (APb rfl (AOz<|⟨_,rfl,λBr=>?_,λBr=>?_⟩))))
    ·refine Ag6<|AOr<|Ajl Apf Aiw (Ac.b p0) 0 rfl (Akh (v:=(.agg #[(.int .i64 Aa.1),(.int .i64 0),(.int .i64 1),(.bool false),(.int .i64 0)])) (λ_=>by kernel_rfl) ?_);obtain ⟨Dl,Do⟩:=ifN<|Ahx Cj Br;refine Ar3 A3f BDd rfl rfl trivial tt2 (λ_=>rfl) rfl (show (Axk).rep _ (Aa.1,0,1,false,0) [(.int .i64 Aa.1),(.int .i64 0),(.int .i64 1),(.bool false),(.int .i64 0)] from rfl) (Ac.o p1) AOs Dl λFh Dp Dq Fi Dr Ds Dt=>AO1 ?_;exact ⟨(((Be ++ [(Aa.1,0,1,false,0)]),Dq,Dp):((List Ax0)) × (Value) × LnA),⟨AOu Do,(Ac.uo p1 Ds Dr Dt)⟩,rfl,trivial⟩
    ·refine AO4<|q_t ?_;exact ⟨((Be,Ct,Cu):((List Ax0)) × (Value) × LnA),⟨AOu<|Ahy Cj Br,Ac⟩,rfl,trivial⟩
  rintro ⟨Fj,Fk,Fl⟩ Fm Fo ⟨Du,A3⟩;subst Du;refine AOx<|Ana<|Ajl At2 AO9 (A3.b p0) 2 rfl (Ajl Aqn AO9 (A3.b p2) 0 rfl ?_);obtain ⟨Dv,Dw⟩:=ifN Da;refine Ajh rfl rfl Dv (Ajl Aqn AO9 (A3.b p2) 0 rfl ?_);obtain ⟨⟨Dx,Fp⟩,Dy,Ck⟩:=AOw Dw;dsimp only at Ck;refine Aj5 A3 (A2n Dy) λFq Fr Aj=>AOr<|Ait rfl rfl (Ait rfl rfl (Ahl<|Ah4<|AOr<|AOr<|Aio A3f rfl (Aj.o p1).rd (Anj rfl rfl ?_)));obtain ⟨Ak,Bt,Dz⟩:=AOw Ck;refine A19 A3f rfl (Aj.o p1) rfl Bt λFt A4=>Ah4<|AOr<|Ah2 rfl (Ah1 BEz rfl ?_);obtain ⟨Fu,D0,D1⟩:=(Aj.o p1).cells A4 Bt;obtain rfl:=D0;refine Aht Aiw rfl (D1 1 _ rfl) (Ahp rfl rfl (Ah2 rfl (Ah1 BEz rfl (A3t (c:=Axk) (a':=(Ak.1,(w64<|Ak.2.1 + 1),Ak.2.2.1,Ak.2.2.2.1,Ak.2.2.2.2)) Aiw rfl rfl rfl AOs (Aj.o p1) A4 Bt (λ_ q=>by cases q;rfl) λFv D2 D3=>AOz<|Ag6<|AOr<|Ah2 rfl (Ah1 BE0 rfl ?_)))));have Bu:=Aj.uO p1 D3 D2;obtain ⟨Am,Cm,D4⟩:=AOw Dz;obtain ⟨Fw,D5,D6⟩:=(Bu.o p1).cells A4 Cm;obtain rfl:=D5;refine Aht Aiw rfl (D6 2 _ rfl) (AOr<|Aok rfl rfl (Ah2 rfl (Ah1 BE0 rfl (A3t (c:=Axk) (a':=(Am.1,Am.2.1,(w64<|Am.2.2.1 * Dx),Am.2.2.2.1,Am.2.2.2.2)) Aiw rfl rfl rfl AOs (Bu.o p1) A4 Cm (λ_ q=>by cases q;rfl) λFx D7 D8=>Ahh<|q_b<|q_t<|Ag6<|Ahp rfl rfl (AOr<|AOz ?_)))));exact ⟨(_,_,_,_),(AOu D4).symm,(Bu.uO p1 D8 D7).sel [1,2] AOs,rfl,rfl,trivial⟩
 ·refine Ahf<|Ahg<|Ahg<|Aim<|q_t<|AOv<|AOr<|Ahl<|AO1<|AO6 ?_;obtain rfl:=AOu<|Ad _ (AOu<|Ahy Bf Bg).symm;exact ⟨_,Air,Ai.x,_,_,rfl,(Ai.o p0),Ai.s.sel [0] AOs⟩
noncomputable def Aow (fuel:Nat):Option Bool:=
 (Aqs fuel 3 ([([1,4]:List Int),([0,1]:List Int)]:List LiA) ([(0,1,2,0,0),(1,1,2,0,0)]:List Alq)).bind λ(Aa,Ab)=>(Ate fuel ([([2,1]:List Int),([1,2]:List Int)]:List LiA) 3).bind λ(Ac,Ad)=>if Ab=true then if Ac=2 then if Ad=0 then (Apr fuel ([([2,1]:List Int),([1,2]:List Int)]:List LiA) 3 ([([1,4]:List Int),([0,1]:List Int)]:List LiA) ([(0,1,2,0,0),(1,1,2,0,0)]:List Alq)).bind λAe=>if Ae=0 then (Arz fuel Aa ([(0,1,-1,false,0),(1,1,-1,false,0)]:List Ax0)).bind λAf=>some Af else some false else some false else some false else some false
theorem Azy (HO:A26 h) (hp:Aow fuel=some r):Ahq Tryz.prog 18 #[] h (λx h'=>Ext h h'/\x= .bool r):=by
 unfold Aow at hp;refine cwf (l:=[]) Tryz.func18 rfl rfl (AOv<|Ah4<|A7m (κ:= .i64) [2,1] APd Arq rfl rfl trivial tt2 rfl rfl rfl rfl λb1 v2 h3 I4 E5 A6 A7=>A7m (κ:= .i64) [1,2] APd Arq rfl rfl trivial tt2 rfl rfl rfl rfl λA8 A9 Cv Ba Bb Bc Be=>?_);have Ab:=((Kst.k0 h).no E5 (Anx A6 A7) I4).no Bb (Anx Bc Be) Ba;have Aq:=(((Ab.a0).grab p1).grab p0);refine A8z (c:=(cI .i64)) (el:=2) [[b1],[A8]] [v2,A9] [([2,1]:List Int),([1,2]:List Int)] APa Atu rfl rfl trivial tt2 rfl rfl rfl rfl (Aic (Ab.o p1).isOne<|Aic (Ab.o p0).isOne Aoo) ⟨(Ab.o p1),(Ab.o p0),trivial⟩ (by simpa using Aq.ndT) λCw Cx Cy Bf Bg Bh=>Ah4<|A7m (κ:= .i64) [1,4] APd Arq rfl rfl trivial tt2 rfl rfl rfl rfl λBi Bj Cz Bl Bm Bn Bo=>A7m (κ:= .i64) [0,1] APd Arq rfl rfl trivial tt2 rfl rfl rfl rfl λBp Bq C0 Br Bt Bu Bv=>?_;have Ac:=((Aq.lit Bg Bf<|by simpa using Bh).no Bm (Anx Bn Bo) Bl).no Bt (Anx Bu Bv) Br;have Ar:=(((Ac.a0).grab p1).grab p0);refine A8z (c:=(cI .i64)) (el:=2) [[Bi],[Bp]] [Bj,Bq] [([1,4]:List Int),([0,1]:List Int)] APa Atu rfl rfl trivial tt2 rfl rfl rfl rfl (Aic (Ac.o p1).isOne<|Aic (Ac.o p0).isOne Aoo) ⟨(Ac.o p1),(Ac.o p0),trivial⟩ (by simpa using Ar.ndT) λC1 Ae C2 Bw Bx By=>Akh (v:=(.agg #[(.int .i64 0),(.int .i64 1),(.int .i64 2),(.int .i64 0),(.int .i64 0)])) (λ_=>by kernel_rfl)<|Akh (v:=(.agg #[(.int .i64 1),(.int .i64 1),(.int .i64 2),(.int .i64 0),(.int .i64 0)])) (λ_=>by kernel_rfl)<|BJn Ar1 ([(0,1,2,0,0),(1,1,2,0,0)]:List Alq) [[(.int .i64 0),(.int .i64 1),(.int .i64 2),(.int .i64 0),(.int .i64 0)],[(.int .i64 1),(.int .i64 1),(.int .i64 2),(.int .i64 0),(.int .i64 0)]] [(0,(.agg #[(.int .i64 0),(.int .i64 1),(.int .i64 2),(.int .i64 0),(.int .i64 0)])),(1,(.agg #[(.int .i64 1),(.int .i64 1),(.int .i64 2),(.int .i64 0),(.int .i64 0)]))] Asz Axm rfl trivial tt2 rfl rfl rfl AO5 rfl (A6k (λ_=>rfl)<|A6k (λ_=>rfl) BFa) λC3 Af C4 Bz B1 B3 B4=>?_;have Ak:=(Ar.lit Bx Bw<|by simpa using By).no B1 (Anx B3 B4) Bz;obtain ⟨_,_,_,B5⟩:=(Ak.o2 p1).rd.shape;obtain ⟨_,_,_,B6⟩:=(Ak.o p0).rd.shape;refine Akh (v:=(.agg #[(.int .i64 3),Ae,Af])) (λ_=>by subst B5;subst B6;kernel_rfl)<|Aj3 Ak [(.int .i64 0),(.slice none 0 0),(.slice none 0 0)] A2c λC5 C6 C7 Ag=>Ai5 [(.int .i64 3),Ae,Af] Ai8 rfl rfl rfl rfl (Aic rfl (Aic (Ag.o2 p2).isOne<|Aic (Ag.o p1).isOne Aoo)) (Ag.b p0) λC8 B7 B8=>Apu ?_;have Ad:=Ag.sb p0 B8 B7 rfl;refine Apd [(.int .i64 3),Ae,Af] Ai8 rfl rfl (Ad.b p0).agg ?_;obtain ⟨⟨C9,B9⟩,Ca,Au⟩:=AOw hp;dsimp only at Au;refine Aqy rfl (Azx (Ad.o2 p2).rd (Ad.o p1).rd (HO.ext Ad.x) Ca) λDa Db Cb Cd=>?_;obtain ⟨Dc,Dd,rfl,Ce,Cf⟩:=Cd;refine AOr<|Ait rfl rfl (Ait rfl rfl (Ahl<|Ah4<|AOr ?_));have Am:=Ad.no Cb Cf Ce;obtain ⟨⟨Cg,Ch⟩,Ci,Ao⟩:=AOw Au;dsimp only at Ao;refine Aj5 Am (A1s (Am.o2 p6).rd (HO.ext Am.x) Ci) λDe Df Aa=>AOr<|Ait rfl rfl (Ait rfl rfl (Ahl<|Ah4<|AOr<|AOr ?_));cases Av:B9
 ·refine Aol 28 false<|APb rfl (AOr<|Aol 32 false<|APb rfl (AOr<|Alo 36 false<|APb rfl (AOr<|Ald 42 false<|APb rfl (AO1<|AO6 ?_))));obtain rfl:=AOu<|Aoy Ao Av;exact ⟨_,AO7,Aa.x,rfl⟩
 ·refine Ag8 28 true<|AOr<|Ag8 28 true<|Aiy rfl rfl (Ag7 rfl (AOr ?_));have Aw:=ifT Ao Av;by_cases Ah:Cg=2
  ·have Ax:=ifT Aw Ah;rw [decide_eq_true Ah];refine Ag8 32 true<|AOr<|Ag8 32 true<|Aiy rfl rfl (Ag7 rfl (AOr ?_));by_cases Ai:Ch=0
   ·rw [decide_eq_true Ai];refine Ag8 36 true<|AOr<|Ag8 36 true<|Apd [(.int .i64 3),Ae,Af] Ai8 rfl rfl (Aa.b p1).agg (Ag8 36 true ?_);obtain ⟨Cj,Ck,Ay⟩:=AOw<|ifT Ax Ai;refine Aj5 Aa (Ayx (Aa.o2 p6).rd (Aa.o2 p3).rd (Aa.o p2).rd (HO.ext Aa.x) Ck) λDg Dh Az=>Ag8 36 true<|Aiy rfl rfl (Ag7 rfl (AOr ?_));by_cases Aj:Cj=0
    ·rw [decide_eq_true Aj];refine Ag8 42 true<|AOr<|Ag8 42 true<|Akh (v:=(.agg #[(.int .i64 0),(.int .i64 1),(.int .i64<|-1),(.bool false),(.int .i64 0)])) (λ_=>by kernel_rfl)<|Ag8 42 true<|Akh (v:=(.agg #[(.int .i64 1),(.int .i64 1),(.int .i64<|-1),(.bool false),(.int .i64 0)])) (λ_=>by kernel_rfl)<|Ag8 42 true<|BJn Axk ([(0,1,(-1),false,0),(1,1,(-1),false,0)]:List Ax0) [[(.int .i64 0),(.int .i64 1),(.int .i64<|-1),(.bool false),(.int .i64 0)],[(.int .i64 1),(.int .i64 1),(.int .i64<|-1),(.bool false),(.int .i64 0)]] [(0,(.agg #[(.int .i64 0),(.int .i64 1),(.int .i64<|-1),(.bool false),(.int .i64 0)])),(1,(.agg #[(.int .i64 1),(.int .i64 1),(.int .i64<|-1),(.bool false),(.int .i64 0)]))] A3f BDd rfl trivial tt2 rfl rfl rfl AO5 rfl (A6k (λ_=>rfl)<|A6k (λ_=>rfl) BFa) λDi Dj Dk Cm Cn Co Cp=>Ag8 42 true ?_;have Ap:=Az.no Cn (Anx Co Cp) Cm;obtain ⟨Dl,Cq,Cr⟩:=AOw<|ifT Ay Aj;refine Aj5 Ap (Ax7 (Ap.o p1).rd (Ap.o p0).rd Cq) λDo Dp Ct=>Ag7 rfl (AO1<|AO6 ?_);obtain rfl:=AOu Cr;exact ⟨_,AO7,Ct.x,rfl⟩
    ·rw [decide_eq_false Aj];refine Ald 42 false<|APb rfl (AO1<|AO6 ?_);obtain rfl:=AOu<|ifF Ay Aj;exact ⟨_,AO7,Az.x,rfl⟩
   ·rw [decide_eq_false Ai];refine Alo 36 false<|APb rfl (AOr<|Ald 42 false<|APb rfl (AO1<|AO6 ?_));obtain rfl:=AOu<|ifF Ax Ai;exact ⟨_,AO7,Aa.x,rfl⟩
  ·rw [decide_eq_false Ah];refine Aol 32 false<|APb rfl (AOr<|Alo 36 false<|APb rfl (AOr<|Ald 42 false<|APb rfl (AO1<|AO6 ?_)));obtain rfl:=AOu<|ifF Aw Ah;exact ⟨_,AO7,Aa.x,rfl⟩
end Go.Proofs.YtkakafabeobahaaGreatDoor
namespace Go.Proofs.YtkakafabeobahaaGreatDoor
open Go Go.QF
theorem Azm:FdT Tryz.prog 67 0 0 2:=⟨_,_,Tryz.underlying67,rfl,rfl,rfl⟩
theorem Al5:FdT Tryz.prog 67 1 1 2:=⟨_,_,Tryz.underlying67,rfl,rfl,rfl⟩
theorem A24:FdT Tryz.prog 67 2 2 3:=⟨_,_,Tryz.underlying67,rfl,rfl,rfl⟩
theorem Ah9:FdT Tryz.prog 67 3 3 25:=⟨_,_,Tryz.underlying67,rfl,rfl,rfl⟩
theorem Ala:FdT Tryz.prog 67 4 4 25:=⟨_,_,Tryz.underlying67,rfl,rfl,rfl⟩
end Go.Proofs.YtkakafabeobahaaGreatDoor
namespace Go.Proofs.YtkakafabeobahaaGreatDoor
open Go Go.QF
set_option maxRecDepth 100000
set_option maxHeartbeats 40000000
def Atj (fuel:Nat) (s8 s9:Int):Option ((Int × Int) ⊕ Int):=
 if ¬ s9=0 then if s9≠0 then some (.inl (s9,Int.tmod s8 s9)) else none else some<|.inr s8
def Ar7 (fuel:Nat) (a1 a2:Int):Option Int:=
 (iter (λs=>Atj fuel s.1 s.2) fuel (a1,a2)).bind (λ(Ac:Int)=>some Ac)
theorem A1g {r:Int} (hp:Ar7 fuel a1 a2=some r):Ahq Tryz.prog 136 #[(.int .i64 a1),(.int .i64 a2)] h (λx h'=>Ext h h'/\x= .int .i64 r):=by
 unfold Ar7 at hp;refine cwf (l:=[_,_]) Tryz.func136 rfl rfl (AOv<|AO1<|AOx<|AO0 ?_);have K0:=Kst.k0 h;refine Aqu 2019 hp (λx=>[(0,(.int .i64 x.1)),(1,(.int .i64 x.2))]) (λx=>K0.L) K0 ⟨rfl,rfl,trivial⟩ ?_;rintro ⟨u9,Ak⟩ Am h6 y5 K8 Aa Ag;unfold Atj at Aa;refine AOx<|AOv<|AOr<|Ajq rfl rfl (AOz<|⟨_,rfl,λAb=>?_,λAb=>?_⟩)
 ·refine AO4<|q_t<|AO0<|Ana<|AOr<|AOr<|AOr ?_;obtain ⟨Ah,Ai⟩:=ifN<|Ahx Aa Ab;refine Ajh rfl rfl Ah (Ahl<|Ahl<|Ahh<|q_b<|q_t ?_);exact ⟨_,(AOu Ai).symm,K8,rfl,rfl,trivial⟩
 ·refine Ahf<|Ahg<|Ahg<|Aim<|q_t<|AOv<|AOr<|AO1<|AO6 ?_;obtain rfl:=AOu<|Ag _ (AOu<|Ahy Aa Ab).symm;exact ⟨_,AO7,K8.x,rfl⟩
def Apa (fuel:Nat) (Ab Aa Ac Ad:Int):Option ((Int × Int × Int × Int) ⊕ Int):=
 if ¬ Aa=0 then if Aa≠0 then some (.inl (Aa,w64<|Ab - w64 (w64 (Int.tdiv Ab Aa) * Aa),Ad,w64<|Ac - w64 (w64 (Int.tdiv Ab Aa) * Ad))) else none else some<|.inr Ac
def Ake (fuel:Nat) (a1 a2:Int):Option (Int × Bool):=
 (Ar7 fuel a1 a2).bind λx3=>if ¬ x3=1 then some (0,false) else (iter (λs=>Apa fuel s.1 s.2.1 s.2.2.1 s.2.2.2) fuel (a1,a2,1,0)).bind (λ(Ad:Int)=>(Ah5 fuel Ad a2).bind λAe=>some (Ae,true))
theorem As2 {r:(Int × Bool)} (hp:Ake fuel a1 a2=some r):Ahq Tryz.prog 81 #[(.int .i64 a1),(.int .i64 a2)] h (λx h'=>Ext h h'/\x= .tuple #[.int .i64 r.1,.bool r.2]):=by
 unfold Ake at hp;refine cwf (l:=[_,_]) Tryz.func81 rfl rfl (AOv<|Ahl<|AO1<|AOx<|AOv<|AOr<|AOr ?_);obtain ⟨x3,Ai,Ag⟩:=AOw hp;refine Aj5 (Kst.k0 h) (A1g Ai) λh7 E6 Aa=>Ajq rfl rfl (AOz<|⟨_,rfl,λAb=>?_,λAb=>?_⟩)
 ·refine AOv<|Ahl<|AO1<|AO6<|Ag9 ?_;obtain rfl:=AOu<|Ahx Ag Ab;exact ⟨_,Air,Aa.x,rfl⟩
 ·refine AO4<|q_t<|AOv<|AOr<|AOr<|Ahl<|Ahl<|Ahl<|AO1<|AOx<|AO0<|Aqu 17179740096 (Ahy Ag Ab) (λx=>[(6,(.int .i64 x.1)),(7,(.int .i64 x.2.1)),(8,(.int .i64 x.2.2.1)),(9,(.int .i64 x.2.2.2))]) (λx=>Aa.L) Aa ⟨rfl,rfl,rfl,rfl,trivial⟩ ?_;rintro ⟨Aw,Ax,Ay,Az⟩ A3 A4 A5 Ah Ac Aj;unfold Apa at Ac;refine AOx<|AOv<|AOr<|Ajq rfl rfl (AOz<|⟨_,rfl,λAd=>?_,λAd=>?_⟩)
  ·refine AO4<|q_t<|AO0<|AOv<|AOr<|AOr ?_;obtain ⟨Ak,Am⟩:=ifN<|Ahx Ac Ad;refine Aub rfl rfl Ak (Ah4<|AOr<|AOr<|AOr<|AOr<|Aok rfl rfl (Anj rfl rfl (Ahl<|AO1<|Ag6<|AOr<|AOr<|AOr<|AOr<|Aok rfl rfl (Anj rfl rfl (Ahl<|Ahl<|Ahh<|q_b<|q_t ?_)))));exact ⟨_,(AOu Am).symm,Ah,rfl,rfl,rfl,rfl,trivial⟩
  ·refine Ahf<|Ahg<|Ahg<|Aim<|q_t<|AOv<|AOr<|AOr ?_;obtain ⟨A6,Ao,Ap⟩:=AOw<|Aj _ (AOu<|Ahy Ac Ad).symm;refine Aj5 Ah (Aij Ao) λA7 A8 Aq=>Ahl<|AO1<|AO6 ?_;obtain rfl:=AOu Ap;exact ⟨_,Air,Aq.x,rfl⟩
def Aps (fuel:Nat) (a5 Af:Int) (Ab:LiI) (Ag Ac Ad Aa:Int):Option ((Int × Int × Int) ⊕ (Int × Int)):=
 if Aa < (Ab.length:Int) then (((gI Ab Ag).bind λAj=>(gI Aj Aa).bind λAh=>((if Ah=0 then some Af else (Aih fuel Ah a5).bind λAk=>some Ak):Option Int).bind λAm=>(gI Ab Ac).bind λAo=>(gI Ao Ad).bind λAi=>((if Ai=0 then some Af else (Aih fuel Ai a5).bind λAp=>some Ap):Option Int).bind λAq=>if Am < Aq then some (Ag,Aa) else some (Ac,Ad)):Option (Int × Int)).bind (λ((Ar,Au):Int × Int)=>some<|.inl (Ar,Au,w64<|Aa + 1)) else some<|.inr (Ac,Ad)
def Ang (fuel:Nat) (a5 Af:Int) (Ab:LiI) (Ac Ad Aa:Int):Option ((Int × Int × Int) ⊕ (Int × Int)):=
 if Aa < (Ab.length:Int) then (iter (λs=>Aps fuel a5 Af Ab Aa s.1 s.2.1 s.2.2) fuel (Ac,Ad,w64<|Aa + 1)).bind (λ((Ag,Ah):Int × Int)=>some<|.inl (Ag,Ah,w64<|Aa + 1)) else some<|.inr (Ac,Ad)
def Anh (fuel:Nat) (a5 Af:Int) (Ab:LiI) (Ac Ad Aa:Int):Option ((Int × Int × Int) ⊕ (Int × Int)):=
 if Aa < (Ab.length:Int) then (((gI Ab Aa).bind λAi=>(gI Ai Aa).bind λAg=>((if Ag=0 then some Af else (Aih fuel Ag a5).bind λAj=>some Aj):Option Int).bind λAk=>(gI Ab Ac).bind λAm=>(gI Am Ad).bind λAh=>((if Ah=0 then some Af else (Aih fuel Ah a5).bind λAo=>some Ao):Option Int).bind λAp=>if Ak < Ap then some (Aa,Aa) else some (Ac,Ad)):Option (Int × Int)).bind (λ((Aq,Ar):Int × Int)=>some<|.inl (Aq,Ar,w64<|Aa + 1)) else some<|.inr (Ac,Ad)
def Akj (fuel:Nat) (Ab:Int) (Am:LiI) (Ac Aa:Int) (Ad Ae:LiI):Option ((Int × LiI × LiI) ⊕ (LiI × LiI)):=
 if Aa < (Am.length:Int) then (gI Ad Aa).bind λAf=>(gI Af Ac).bind λAh=>(gI Af Ab).bind λAo=>(gI (sI Ad Aa<|sI Af Ab Ah) Aa).bind λAi=>(gI Ai Ac).bind λAq=>(gI Ae Aa).bind λAg=>(gI Ag Ac).bind λAj=>(gI Ag Ab).bind λAp=>(gI (sI Ae Aa<|sI Ag Ab Aj) Aa).bind λAk=>(gI Ak Ac).bind λAr=>some (.inl (w64<|Aa + 1,sI (sI Ad Aa<|sI Af Ab Ah) Aa<|sI Ai Ac Ao,sI (sI Ae Aa<|sI Ag Ab Aj) Aa<|sI Ak Ac Ap)) else some<|.inr (Ad,Ae)
def Akk (fuel:Nat) (Ab Ac:Int) (Am:LiI) (Aa:Int) (Ad Ae:LiI):Option ((Int × LiI × LiI) ⊕ (LiI × LiI)):=
 if Aa < (Am.length:Int) then (gI Ad Aa).bind λAf=>(gI Af Ac).bind λAh=>(gI Af<|w64<|Ab + 1).bind λAo=>(gI (sI Ad Aa<|sI Af (w64<|Ab + 1) Ah) Aa).bind λAi=>(gI Ai Ac).bind λAq=>(gI Ae Aa).bind λAg=>(gI Ag Ac).bind λAj=>(gI Ag<|w64<|Ab + 1).bind λAp=>(gI (sI Ae Aa<|sI Ag (w64<|Ab + 1) Aj) Aa).bind λAk=>(gI Ak Ac).bind λAr=>some (.inl (w64<|Aa + 1,sI (sI Ad Aa<|sI Af (w64<|Ab + 1) Ah) Aa<|sI Ai Ac Ao,sI (sI Ae Aa<|sI Ag (w64<|Ab + 1) Aj) Aa<|sI Ak Ac Ap)) else some<|.inr (Ad,Ae)
def Akl (fuel:Nat) (Aa Af Ag Ah Ae:Int) (Ai:LiI) (Aj Ab:Int) (Ac:LiI):Option ((Int × LiI) ⊕ LiI):=
 if Ab < (Ai.length:Int) then (gI Ac Ab).bind λAd=>(gI Ad Ae).bind λAk=>(gI Ad Af).bind λAm=>if Aa≠0 then (Ah5 fuel (w64<|Ak + Int.tmod (w64<|w64 (0 - Int.tmod (w64<|Aj * Ah) (w64<|Int.tdiv Aa Ag)) * Am) Aa) Aa).bind λAo=>some (.inl (w64<|Ab + 1,sI Ac Ab<|sI Ad Ae Ao)) else none else some<|.inr Ac
def Akm (fuel:Nat) (Ab Af Ag Ah Ad Ai:Int) (Aj:LiI) (Aa:Int) (Ac:LiI):Option ((Int × LiI) ⊕ LiI):=
 if Aa < (Aj.length:Int) then (gI Ac Ad).bind λAe=>(gI Ae Aa).bind λAk=>(gI Ac Af).bind λAm=>(gI Am Aa).bind λAo=>if Ab≠0 then (Ah5 fuel (w64<|Ak + Int.tmod (w64<|w64 (0 - Int.tmod (w64<|Ai * Ah) (w64<|Int.tdiv Ab Ag)) * Ao) Ab) Ab).bind λAp=>some (.inl (w64<|Aa + 1,sI Ac Ad<|sI Ae Aa Ap)) else none else some<|.inr Ac
def Akn (fuel:Nat) (Aa Af Ag Ah Ae:Int) (Ai:LiI) (Aj Ab:Int) (Ac:LiI):Option ((Int × LiI) ⊕ LiI):=
 if Ab < (Ai.length:Int) then (gI Ac Ab).bind λAd=>(gI Ad Ae).bind λAk=>(gI Ad Af).bind λAm=>if Aa≠0 then (Ah5 fuel (w64<|Ak + Int.tmod (w64<|w64 (0 - Int.tmod (w64<|Aj * Ah) (w64<|Int.tdiv Aa Ag)) * Am) Aa) Aa).bind λAo=>some (.inl (w64<|Ab + 1,sI Ac Ab<|sI Ad Ae Ao)) else none else some<|.inr Ac
def Ako (fuel:Nat) (Aa Af Ag Ah Ae Ai:Int) (Aj:LiI) (Ab:Int) (Ac:LiI):Option ((Int × LiI) ⊕ LiI):=
 if Ab < (Aj.length:Int) then (gI Ac Ab).bind λAd=>(gI Ad Ae).bind λAk=>(gI Ad<|w64<|Af + 1).bind λAm=>if Aa≠0 then (Ah5 fuel (w64<|Ak + Int.tmod (w64<|w64 (0 - Int.tmod (w64<|Ai * Ah) (w64<|Int.tdiv Aa Ag)) * Am) Aa) Aa).bind λAo=>some (.inl (w64<|Ab + 1,sI Ac Ab<|sI Ad Ae Ao)) else none else some<|.inr Ac
def Akp (fuel:Nat) (Ab Af Ag Ah Ad Ai:Int) (Aj:LiI) (Aa:Int) (Ac:LiI):Option ((Int × LiI) ⊕ LiI):=
 if Aa < (Aj.length:Int) then (gI Ac Ad).bind λAe=>(gI Ae Aa).bind λAk=>(gI Ac<|w64<|Af + 1).bind λAm=>(gI Am Aa).bind λAo=>if Ab≠0 then (Ah5 fuel (w64<|Ak + Int.tmod (w64<|w64 (0 - Int.tmod (w64<|Ai * Ah) (w64<|Int.tdiv Ab Ag)) * Ao) Ab) Ab).bind λAp=>some (.inl (w64<|Aa + 1,sI Ac Ad<|sI Ae Aa Ap)) else none else some<|.inr Ac
def Akq (fuel:Nat) (Aa Af Ag Ah Ae Ai:Int) (Aj:LiI) (Ab:Int) (Ac:LiI):Option ((Int × LiI) ⊕ LiI):=
 if Ab < (Aj.length:Int) then (gI Ac Ab).bind λAd=>(gI Ad Ae).bind λAk=>(gI Ad<|w64<|Af + 1).bind λAm=>if Aa≠0 then (Ah5 fuel (w64<|Ak + Int.tmod (w64<|w64 (0 - Int.tmod (w64<|Ai * Ah) (w64<|Int.tdiv Aa Ag)) * Am) Aa) Aa).bind λAo=>some (.inl (w64<|Ab + 1,sI Ac Ab<|sI Ad Ae Ao)) else none else some<|.inr Ac
def Akr (fuel:Nat) (Ab Ad Aj Aa Au Av Ae Ac:Int) (Af Ag:LiI):Option ((Int × LiI × LiI) ⊕ (LiI × LiI)):=
 if Ac < (Af.length:Int) then (gI Af Ad).bind λAw=>(gI Aw Ac).bind λAk=>if Aa≠0 then (gI Af<|w64<|Ad + 1).bind λAx=>(gI Ax Ac).bind λAm=>if Aa≠0 then if w64 (Int.tdiv Ab Aa)≠0 then if w64 (Int.tdiv Ab Aa)≠0 then (Ah5 fuel (w64<|Int.tmod (w64<|w64 (Int.tdiv Av Aa) * w64 (Int.tdiv Ak Aa)) (w64<|Int.tdiv Ab Aa) - Int.tmod (w64<|w64 (Int.tdiv Aj Aa) * w64 (Int.tdiv Am Aa)) (w64<|Int.tdiv Ab Aa))<|w64<|Int.tdiv Ab Aa).bind λAh=>if w64 (Int.tdiv Ab Aa)≠0 then if w64 (Int.tdiv Ab Aa)≠0 then if w64 (Int.tdiv Ab Aa)≠0 then (Ah5 fuel (w64<|Int.tmod (w64<|w64 (Int.tdiv Au Aa) * w64 (Int.tdiv Am Aa)) (w64<|Int.tdiv Ab Aa) - Int.tmod (w64<|w64 (Int.tdiv Aj Aa) * w64 (Int.tdiv Ak Aa)) (w64<|Int.tdiv Ab Aa))<|w64<|Int.tdiv Ab Aa).bind λAi=>if w64 (Int.tdiv Ab Aa)≠0 then (((iter (λs=>Akn fuel Ab Ad Aa Ae Ac Af Ah s.1 s.2) fuel (0,Af)).bind (λ(Ao:LiI)=>(iter (λs=>Akm fuel Ab Ad Aa Ae Ac Ah Ao s.1 s.2) fuel (0,Ao)).bind (λ(Ay:LiI)=>(iter (λs=>Akl fuel Ab Ad Aa Ae Ac Ag Ah s.1 s.2) fuel (0,Ag)).bind (λ(Az:LiI)=>some (Ay,Az))))):Option (LiI × LiI)).bind λ(Ap,Aq)=>(((iter (λs=>Akq fuel Ab Ad Aa Ae Ac Ai Ap s.1 s.2) fuel (0,Ap)).bind (λ(Ar:LiI)=>(iter (λs=>Akp fuel Ab Ad Aa Ae Ac Ai Ar s.1 s.2) fuel (0,Ar)).bind (λ(A3:LiI)=>(iter (λs=>Ako fuel Ab Ad Aa Ae Ac Ai Aq s.1 s.2) fuel (0,Aq)).bind (λ(A4:LiI)=>some (A3,A4))))):Option (LiI × LiI)).bind λ(A5,A6)=>some (.inl (w64<|Ac + 1,A5,A6)) else none else none else none else none else none else none else none else none else some<|.inr (Af,Ag)
def Aks (fuel:Nat) (Ab Ae Af:Int) (Ag:LiI) (Aa:Int) (Ac:LiI):Option ((Int × LiI) ⊕ LiI):=
 if Aa < (Ag.length:Int) then (gI Ac Aa).bind λAd=>(gI Ad Ae).bind λAh=>(gI Ad Af).bind λAi=>if Ab≠0 then (Ah5 fuel (w64<|Ah + Int.tmod (w64<|1 * Ai) Ab) Ab).bind λAj=>some (.inl (w64<|Aa + 1,sI Ac Aa<|sI Ad Ae Aj)) else none else some<|.inr Ac
def Akt (fuel:Nat) (Ac Ad Af:Int) (Ag:LiI) (Aa:Int) (Ab:LiI):Option ((Int × LiI) ⊕ LiI):=
 if Aa < (Ag.length:Int) then (gI Ab Ad).bind λAe=>(gI Ae Aa).bind λAh=>(gI Ab Af).bind λAi=>(gI Ai Aa).bind λAj=>if Ac≠0 then (Ah5 fuel (w64<|Ah + Int.tmod (w64<|1 * Aj) Ac) Ac).bind λAk=>some (.inl (w64<|Aa + 1,sI Ab Ad<|sI Ae Aa Ak)) else none else some<|.inr Ab
def Aku (fuel:Nat) (Ab Ae Af:Int) (Ag:LiI) (Aa:Int) (Ac:LiI):Option ((Int × LiI) ⊕ LiI):=
 if Aa < (Ag.length:Int) then (gI Ac Aa).bind λAd=>(gI Ad Ae).bind λAh=>(gI Ad Af).bind λAi=>if Ab≠0 then (Ah5 fuel (w64<|Ah + Int.tmod (w64<|1 * Ai) Ab) Ab).bind λAj=>some (.inl (w64<|Aa + 1,sI Ac Aa<|sI Ad Ae Aj)) else none else some<|.inr Ac
def Akv (fuel:Nat) (Ab Ac:Int) (Am:LiI) (Aa:Int) (Ad Ae:LiI):Option ((Int × LiI × LiI) ⊕ (LiI × LiI)):=
 if Aa < (Am.length:Int) then (gI Ad Aa).bind λAf=>(gI Af Ab).bind λAh=>(gI Af Ac).bind λAo=>(gI (sI Ad Aa<|sI Af Ac Ah) Aa).bind λAi=>(gI Ai Ab).bind λAq=>(gI Ae Aa).bind λAg=>(gI Ag Ab).bind λAj=>(gI Ag Ac).bind λAp=>(gI (sI Ae Aa<|sI Ag Ac Aj) Aa).bind λAk=>(gI Ak Ab).bind λAr=>some (.inl (w64<|Aa + 1,sI (sI Ad Aa<|sI Af Ac Ah) Aa<|sI Ai Ab Ao,sI (sI Ae Aa<|sI Ag Ac Aj) Aa<|sI Ak Ab Ap)) else some<|.inr (Ad,Ae)
def Akw (fuel:Nat) (Aa Ag Ae Ah Af:Int) (Ai:LiI) (Aj Ab:Int) (Ac:LiI):Option ((Int × LiI) ⊕ LiI):=
 if Ab < (Ai.length:Int) then (gI Ac Ab).bind λAd=>(gI Ad Af).bind λAk=>(gI Ad Ag).bind λAm=>if Aa≠0 then (Ah5 fuel (w64<|Ak + Int.tmod (w64<|w64 (0 - Int.tmod (w64<|w64 (Int.tdiv Aj Ae) * Ah) (w64<|Int.tdiv Aa Ae)) * Am) Aa) Aa).bind λAo=>some (.inl (w64<|Ab + 1,sI Ac Ab<|sI Ad Af Ao)) else none else some<|.inr Ac
def Akx (fuel:Nat) (Ab Ag Ad Ah Ae Ai:Int) (Aj:LiI) (Aa:Int) (Ac:LiI):Option ((Int × LiI) ⊕ LiI):=
 if Aa < (Aj.length:Int) then (gI Ac Ae).bind λAf=>(gI Af Aa).bind λAk=>(gI Ac Ag).bind λAm=>(gI Am Aa).bind λAo=>if Ab≠0 then (Ah5 fuel (w64<|Ak + Int.tmod (w64<|w64 (0 - Int.tmod (w64<|w64 (Int.tdiv Ai Ad) * Ah) (w64<|Int.tdiv Ab Ad)) * Ao) Ab) Ab).bind λAp=>some (.inl (w64<|Aa + 1,sI Ac Ae<|sI Af Aa Ap)) else none else some<|.inr Ac
def Aky (fuel:Nat) (Aa Ag Ae Ah Af:Int) (Ai:LiI) (Aj Ab:Int) (Ac:LiI):Option ((Int × LiI) ⊕ LiI):=
 if Ab < (Ai.length:Int) then (gI Ac Ab).bind λAd=>(gI Ad Af).bind λAk=>(gI Ad Ag).bind λAm=>if Aa≠0 then (Ah5 fuel (w64<|Ak + Int.tmod (w64<|w64 (0 - Int.tmod (w64<|w64 (Int.tdiv Aj Ae) * Ah) (w64<|Int.tdiv Aa Ae)) * Am) Aa) Aa).bind λAo=>some (.inl (w64<|Ab + 1,sI Ac Ab<|sI Ad Af Ao)) else none else some<|.inr Ac
def Akz (fuel:Nat) (Ad Ae Aa Af Ab:Int) (Ac Ag:LiI):Option ((Int × LiI × LiI) ⊕ (LiI × LiI)):=
 if Ab < (Ac.length:Int) then (gI Ac Ae).bind λAj=>(gI Aj Ab).bind λAh=>if Aa≠0 then if Aa≠0 then if w64 (Int.tdiv Ad Aa)≠0 then (((iter (λs=>Aky fuel Ad Ae Aa Af Ab Ac Ah s.1 s.2) fuel (0,Ac)).bind (λ(Ai:LiI)=>(iter (λs=>Akx fuel Ad Ae Aa Af Ab Ah Ai s.1 s.2) fuel (0,Ai)).bind (λ(Ak:LiI)=>(iter (λs=>Akw fuel Ad Ae Aa Af Ab Ag Ah s.1 s.2) fuel (0,Ag)).bind (λ(Am:LiI)=>some (Ak,Am))))):Option (LiI × LiI)).bind λ(Ao,Ap)=>some (.inl (w64<|Ab + 1,Ao,Ap)) else none else none else none else some<|.inr (Ac,Ag)
def Ani (fuel:Nat) (a3:LiI) (a5 Am Ac Aa:Int) (Ah Ao:LiI) (Ak:List Alq):Option ((Int × LiI × LiI × List Alq) ⊕ (LiI × LiI × List Alq)):=
 if Aa < (a3.length:Int) then (((iter (λs=>Anh fuel a5 Am Ah s.1 s.2.1 s.2.2) fuel (Aa,Aa,Aa)).bind (λ((Be,Bf):Int × Int)=>(iter (λs=>Ang fuel a5 Am Ah s.1 s.2.1 s.2.2) fuel (Be,Bf,Aa)).bind (λ((Bg,Bh):Int × Int)=>some (Bg,Bh)))):Option (Int × Int)).bind λ(Ad,Af)=>((if ¬ Ad=Af then if a5=2 then (((iter (λs=>Akj fuel Aa Ah Ad s.1 s.2.1 s.2.2) fuel (0,Ah,Ao)).bind (λ((Ap,Bi):LiI × LiI)=>(gI Ap Ad).bind λBj=>(gI Ap Aa).bind λBl=>some (sI (sI Ap Aa Bj) Ad Bl,Bi))):Option (LiI × LiI)).bind λ(A3,Bm)=>(((iter (λs=>Akk fuel Aa Af A3 s.1 s.2.1 s.2.2) fuel (0,A3,Bm)).bind (λ((Aq,Bn):LiI × LiI)=>(gI Aq Af).bind λBo=>(gI Aq<|w64<|Aa + 1).bind λBp=>some (sI (sI Aq (w64<|Aa + 1) Bo) Af Bp,Bn))):Option (LiI × LiI)).bind λ(Ar,Bq)=>(((gI Ar Aa).bind λA4=>(gI A4<|w64<|Aa + 1).bind λAj=>((if Aj=0 then some Am else (Aih fuel Aj a5).bind λBr=>some Br):Option Int).bind λA5=>(Ajk fuel a5 A5).bind λAb=>if Ab≠0 then (gI A4 Aa).bind λAu=>if Ab≠0 then if Ab≠0 then (gI Ar<|w64<|Aa + 1).bind λBt=>(gI Bt<|w64<|Aa + 1).bind λAv=>if Ab≠0 then if w64 (Int.tdiv Ac Ab)≠0 then if w64 (Int.tdiv Ac Ab)≠0 then (Ah5 fuel (w64<|Int.tmod (w64<|w64 (Int.tdiv Au Ab) * w64 (Int.tdiv Av Ab)) (w64<|Int.tdiv Ac Ab) - Int.tmod (w64<|w64 (Int.tdiv Aj Ab) * w64 (Int.tdiv Aj Ab)) (w64<|Int.tdiv Ac Ab))<|w64<|Int.tdiv Ac Ab).bind λBu=>(Ake fuel Bu<|w64<|Int.tdiv Ac Ab).bind λ(Bv,C0)=>(iter (λs=>Akr fuel Ac Aa Aj Ab Au Av Bv s.1 s.2.1 s.2.2) fuel (w64<|Aa + 2,Ar,Bq)).bind (λ((Bw,Bx):LiI × LiI)=>some (A5,2,w64<|Int.tdiv Au Ab,w64<|Int.tdiv Aj Ab,w64<|Int.tdiv Av Ab,Bw,Bx)) else none else none else none else none else none else none):Option (Int × Int × Int × Int × Int × LiI × LiI)).bind λ(By,Bz,B1,B3,B4,B5,B6)=>if Ak.length<=100000000 then some (.inl (w64<|Aa + 2,B5,B6,Ak ++ [(By,Bz,B1,B3,B4)])) else none else some (.inr (Aa,Ah,Ao,Ak)) else some<|.inr (Aa,Ah,Ao,Ak)):Option ((Int × LiI × LiI × List Alq) ⊕ (Int × LiI × LiI × List Alq))).bind (λex=>match ex with | .inl (B7,B8,B9,Ca)=>(some<|.inl (B7,B8,B9,Ca)) | .inr (Ae,Aw,Ax,A6)=>((if ¬ Ad=Af then (((iter (λs=>Aku fuel Ac Ad Af Aw s.1 s.2) fuel (0,Aw)).bind (λ(A7:LiI)=>(iter (λs=>Akt fuel Ac Ad Af A7 s.1 s.2) fuel (0,A7)).bind (λ(Cb:LiI)=>(iter (λs=>Aks fuel Ac Ad Af Ax s.1 s.2) fuel (0,Ax)).bind (λ(Cd:LiI)=>some (Cb,Cd))))):Option (LiI × LiI)).bind λ(Ce,Cf)=>some (Ce,Cf) else some (Aw,Ax)):Option (LiI × LiI)).bind (λ((A8,Cg):LiI × LiI)=>(((iter (λs=>Akv fuel Ad Ae A8 s.1 s.2.1 s.2.2) fuel (0,A8,Cg)).bind (λ((Ay,Ch):LiI × LiI)=>(gI Ay Ad).bind λCi=>(gI Ay Ae).bind λCj=>some (sI (sI Ay Ae Ci) Ad Cj,Ch))):Option (LiI × LiI)).bind λ(A9,Ck)=>(((gI A9 Ae).bind λCm=>(gI Cm Ae).bind λAz=>((if Az=0 then some Am else (Aih fuel Az a5).bind λCn=>some Cn):Option Int).bind λBa=>(Ajk fuel a5 Ba).bind λAi=>if Ai≠0 then if Ai≠0 then (Ake fuel (w64<|Int.tdiv Az Ai)<|w64<|Int.tdiv Ac Ai).bind λ(Co,C1)=>(iter (λs=>Akz fuel Ac Ae Ai Co s.1 s.2.1 s.2.2) fuel (w64<|Ae + 1,A9,Ck)).bind (λ((Bb,Cp):LiI × LiI)=>(gI Bb Ae).bind λCq=>(gI Cq Ae).bind λCr=>if Ai≠0 then some (Ba,1,w64<|Int.tdiv Cr Ai,0,0,Bb,Cp) else none) else none else none):Option (Int × Int × Int × Int × Int × LiI × LiI)).bind λ(Ct,Cu,Cv,Cw,Cx,Cy,Cz)=>if A6.length<=100000000 then some (.inl (w64<|Ae + 1,Cy,Cz,A6 ++ [(Ct,Cu,Cv,Cw,Cx)])) else none)) else some<|.inr (Ah,Ao,Ak)
def Apt (fuel:Nat) (a3:LiI) (Ab:Int) (Ac:LiI):Option ((Int × LiI) ⊕ LiI):=
 if Ab < (a3.length:Int) then if 0<=(a3.length:Int)/\(a3.length:Int)<=100000000 then (gI (List.replicate (Int.toNat (a3.length:Int)) (0:Int)) Ab).bind λAd=>if Ac.length<=100000000 then some (.inl (w64<|Ab + 1,Ac ++ [sI (List.replicate (Int.toNat (a3.length:Int)) (0:Int)) Ab 1])) else none else none else some<|.inr Ac
def Ak5 (fuel:Nat) (a3:LiI) (a5:Int):Option (Int × LiI × (List Alq)):=
 (Ak9 fuel a3 a5).bind λAc=>(Ajk fuel a5 Ac).bind λAd=>(Ajg fuel a3 Ad).bind λAe=>(iter (λs=>Apt fuel a3 s.1 s.2) fuel (0,[])).bind (λ(Af:LiI)=>(iter (λs=>Ani fuel a3 a5 Ac Ad s.1 s.2.1 s.2.2.1 s.2.2.2) fuel (0,Ae,Af,[])).bind (λ((Ai,Ag,Ah):LiI × LiI × List Alq)=>some (a5,Ag,Ah)))
theorem Axv {J7:Value} {r:(Int × LiI × (List Alq))} (H2:Ajx (cI .i64) h J7 a3) (hp:Ak5 fuel a3 a5=some r):Ahq Tryz.prog 11 #[J7,(.int .i64 a5)] h (λx h'=>Ext h h'/\ ∃ (J9:Value) (Ka:Value) (Kb:List Nat) (Pv:List LnA) (Pw:List Value) (Kc:List Nat),x= .agg #[.int .i64 r.1,J9,Ka]/\Aj0 (cI .i64) 61 2 h' Kb Pv Pw J9 r.2.1/\OwC Ar1 60 h' Kc Ka r.2.2/\Sp h' h.size [Kb,Kc]):=by
 unfold Ak5 at hp;refine cwf (l:=[_,_]) Tryz.func11 rfl rfl (AOv<|Aj3 (Kst.k0 h) [(.int .i64 0),(.slice none 0 0),(.slice none 0 0)] A2c λb6 h7 E9 Kd=>Apu<|AOr<|AOr ?_);obtain ⟨Bm,Px,Py⟩:=AOw hp;refine Aj5 Kd (Au0 (H2.ext Kd.x) Px) λh17 E16 Pz=>Ah4<|AOr<|AOr<|AOr<|AOr ?_;obtain ⟨Di,P0,P1⟩:=AOw Py;refine Aj5 Pz (Alk P0) λh25 E24 P2=>Akh (v:=(.agg #[(.int .i64 a5),(.int .i64 Di),(.int .i64 Bm),(.slice none 0 0),(.slice none 0 0)])) (λ_=>by kernel_rfl)<|Ao1 P2 [(.int .i64 a5),(.int .i64 Di),(.int .i64 Bm),(.slice none 0 0),(.slice none 0 0)] λP3 h30 E32 Ev=>Ah4<|AOr<|AOr<|AOr<|Ah2 rfl (Ajl Al5 AO9 (Ev.b p0) 1 rfl ?_);obtain ⟨P4,P5,P6⟩:=AOw P1;refine Aus Ev (Aoq (H2.ext Ev.x) P5) λP7 P8 P9 Ab h40 E39 Ew=>Ah2 rfl (Ah1 Ah9 rfl (Au6 [(.int .i64 a5),(.int .i64 Di),(.int .i64 Bm),Ab,(.slice none 0 0)] Aia rfl rfl (Ew.o2 p0).isOne (Ew.b p1) (Nat.le_of_ble_eq_true rfl) rfl λh49 Qa Qb=>AOz<|AOx<|AOv<|AOr<|Ahw APa rfl H2 (AOr<|AOz<|AO0 ?_)));have Ke:=Kst.anil2 (cI .i64) 61 2<|Ew.sb p1 Qb Qa rfl;refine Anb 18014381329613184 (λx:(Int) × (LiI) × (Value) × LnA × LnN × LvA=>(x.1,x.2.1)) ((0,[],(.slice none 0 0),[],[],[]):(Int) × (LiI) × (Value) × LnA × LnN × LvA) P6 (λx=>[(34,(.int .i64 x.1))]) (λx=>(Ke.L.set 0<|aO2 (cI .i64) 61 2 x.2.2.2.1 x.2.2.2.2.1 x.2.2.2.2.2 x.2.2.1 x.2.1).set 2 (aB 67 P3 [(.int .i64 a5),(.int .i64 Di),(.int .i64 Bm),Ab,x.2.2.1])) Ke ⟨rfl,trivial⟩ ?_;rintro ⟨u63,u64,Ac,Aa,Ae,Af⟩ AO3 h60 y59 Kf Ey Qc;unfold Apt at Ey;refine AOv<|Aho rfl rfl (AOz<|AOx<|⟨_,rfl,λEz=>?_,λEz=>?_⟩)
 ·refine AO4<|q_t<|AOx<|AO0<|AOv<|AOr<|Ah4<|AOr<|Ahw APa rfl H2 ?_;obtain ⟨Qd,Qe⟩:=ifN<|Ahx Ey Ez;refine Axl (c:=(cI .i64)) (a:=0) APd Arq rfl rfl (λ_=>rfl) rfl trivial tt2 rfl rfl AOs Qd λb80 v79 h77 Qf Qg Qh Qi=>Ah4<|AOr<|AOr ?_;have Fa:=Kf.no Qg (Anx Qh Qi) Qf;obtain ⟨x85,Kg,Qj⟩:=AOw Qe;refine A19 APd rfl (Fa.o p0) rfl Kg λg88 Qk=>BOv (Ame AO9 rfl rfl rfl) (Fa.o p0) Qk Kg (show ((cI .i64)).rep _ 1 _ from rfl) λh90 Ql Qm=>AOz<|Ag6 ?_;have Dj:=Fa.uO p0 Qm Ql;refine AOr<|AOr<|Ah2 rfl (Ajl Ala Aia (Dj.b p3) 4 rfl (AOr ?_));obtain ⟨Qn,Qo⟩:=ifN Qj;refine A2s APa Atu rfl rfl trivial tt2 (λ_=>rfl) rfl (Dj.o p0) (Dj.o2 p1) (Dj.dj p0 p1 AOs) AOs Qn λAPc F97 Qp h99 Qq Qr Qs=>Ah2 rfl (Ah1 Ala rfl ?_);have Fb:=Dj.m2 p0 p1 AOs Qr Qq Qs;refine Au6 [(.int .i64 a5),(.int .i64 Di),(.int .i64 Bm),Ab,Qp] Aia rfl rfl (Fb.o2 p1).isOne (Fb.b p3) (Nat.le_of_ble_eq_true rfl) rfl λAPf Qt Qu=>Ahh<|q_b<|q_t<|Ag6<|Ahp rfl rfl (AOr<|AOz ?_);exact ⟨(_,_,_,_,_,_),(AOu Qo).symm,(Fb.sb p3 Qu Qt rfl).sel [1,2,3,4] AOs,rfl,trivial⟩
 ·refine Ahf<|Ahg<|Ahg<|Aim<|q_t<|AOv<|AOr<|Akh (v:=(.agg #[(.int .i64 a5),(.slice none 0 0),(.slice none 0 0)])) (λ_=>by kernel_rfl)<|Aj3 Kf [(.int .i64 0),(.slice none 0 0),(.slice none 0 0)] A2c λKh APg APh Ki=>Ai5 [(.int .i64 a5),(.slice none 0 0),(.slice none 0 0)] Ai8 rfl rfl rfl rfl (by simp [isOne]) (Ki.b p0) λAPi Qv Qw=>AOz<|AOx<|AOv<|AO1<|AO0 ?_;have Kj:=Kst.anil Ar1 60<|Ki.sb p0 Qw Qv rfl;refine Anb 10384593717069655185003398620519424 (λx:(Int) × (LiI) × LnA × LnN × LvA × (LiI) × ((List Alq)) × (Value) × LnA=>(x.1,x.2.1,x.2.2.2.2.2.1,x.2.2.2.2.2.2.1)) ((0,P4,P7,P8,P9,u64,[],(.slice none 0 0),[]):(Int) × (LiI) × LnA × LnN × LvA × (LiI) × ((List Alq)) × (Value) × LnA) (Qc _ (AOu<|Ahy Ey Ez).symm) (λx=>[(10,(.int .i64 x.1))]) (λx=>(((Kj.L.set 3<|aO2 (cI .i64) 61 2 x.2.2.1 x.2.2.2.1 x.2.2.2.2.1 Ab x.2.1).set 2 (aO2 (cI .i64) 61 2 Aa Ae Af Ac x.2.2.2.2.2.1)).set 0 (aO Ar1 60 x.2.2.2.2.2.2.2.2 x.2.2.2.2.2.2.2.1 x.2.2.2.2.2.2.1)).set 1 (aB 29 Kh [(.int .i64 a5),(.slice none 0 0),x.2.2.2.2.2.2.2.1])) Kj ⟨rfl,trivial⟩ ?_;rintro ⟨A9,Kk,Fc,Fd,Fe,Kl,Km,Dk,Ec⟩ APj APk APl Ch Ff Qx;unfold Ani at Ff;refine AOx<|AOv<|AOr<|AOr<|Ahw APa rfl H2 (Aho rfl rfl (AOz<|⟨_,rfl,λFg=>?_,λFg=>?_⟩))
  ·refine AO4<|q_t<|AO0<|AOv<|AOr<|AOr ?_;obtain ⟨Qy,Qz,Q0⟩:=AOw<|Ahx Ff Fg;refine Ahr (K':=(λxr h'=> ∃ x:(Int) × (Int),(x.1,x.2)=Qy/\xr= .tuple #[(.int .i64 x.1),(.int .i64 x.2)]/\Kst h h' (Ch.L))) trivial rfl ?_ λAPm APn Q1=>?_
   ·refine cwf (l:=[_,_]) Tryz.func36 rfl rfl (AOv<|Ahl<|Ah4<|AOr<|AOr<|Ahl<|AO1<|AOx<|AOv<|AOr<|AO1<|AO0<|Aqu 1125899906826688 Qz (λx=>[(6,(.int .i64 x.1)),(7,(.int .i64 x.2.1)),(8,(.int .i64 x.2.2))]) (λx=>Ch.L) Ch ⟨rfl,rfl,rfl,trivial⟩ ?_);rintro ⟨Kn,Q2,Fh⟩ APo Cx APp Ak Fi Q3;unfold Anh at Fi;refine AOx<|AOv<|AOr<|AOr<|Ah2 rfl (Ajl Ah9 Aia (Ak.b p4) 3 rfl (Ahw APa rfl (Ak.o2 p3).rd (Aho rfl rfl (AOz<|⟨_,rfl,λFj=>?_,λFj=>?_⟩))))
    ·refine AO4<|q_t ?_;obtain ⟨Q4,Q6,Q7⟩:=AOw<|Ahx Fi Fj;refine Aqt 1125899898454208 (λx:(Int) × (Int)=>[(6,(.int .i64 x.1)),(7,(.int .i64 x.2))]) (λx h'=>( (x.1,x.2))=Q4/\Kst h h' (Ak.L)) ?_ ?_
     ·refine AO0<|AOx<|Aiz (λh'=>UpT [] Cx h') AO5 ?_;have Dl:UpT [] Cx Cx:=UpT.start all_nil;refine AOr<|AOr<|Ah2 rfl (Ah1 Ah9 rfl (Ahk Aia rfl Dl (λh' hb=>((Ak.b p4).ext hb.ext).cell (i:=3) rfl) (AOr ?_)));obtain ⟨APq,Fk,Q8⟩:=AOw Q6;refine Aii APa rfl (Ak.o2 p3) rfl Fk λAPr APs APt Q9 Rc=>Ahk Ahb rfl Dl (λh' hb=>AO8 Rc hb.ext) (AOr ?_);obtain ⟨APu,Ko,Rd⟩:=AOw Q8;refine Ain (m:=Fh) APd rfl (Ak.o2 p3) Q9 Fk rfl Ko λAPv Re=>?_;obtain ⟨APw,Rf,Rg⟩:=(Ak.o2 p3).cells Re Fk Ko;obtain rfl:=Rf;refine Ahk AO9 rfl Dl (λh' hb=>AO8 (Rg 0 _ rfl) hb.ext) ?_;obtain ⟨Rh,Kp,Ri⟩:=AOw Rd;have Kr:UpT [] Cx Cx:=UpT.start all_nil;refine Ahr (K':=(λxr h'=> ∃ x:(Int),x=Rh/\xr=(.int .i64 x)/\Kst h h' (Ak.L)/\UpT [] Cx h')) Dl rfl ?_ λAPx Fl Rj=>?_
      ·refine cwf (l:=[_,_]) Tryz.func80 rfl rfl (AOv<|AO1<|AOx<|AOv<|AOr<|Aiy rfl rfl (AOz<|⟨_,rfl,λFm=>?_,λFm=>?_⟩))
       ·refine AOv<|AOr<|Ah2 rfl (Ah1 A24 rfl (Aht Aiw rfl ((Ak.b p4).cell (i:=2) rfl) (AO1<|AO6<|Ag9<|⟨_,AO7,(Bm:(Int)),?_,rfl,?_,?_⟩)))
        ·exact AOu<|Ahx Kp Fm
        ·exact Ak
        ·exact Kr
       ·refine AO4<|q_t<|AOv<|AOr<|AOr<|Ah2 rfl (Ah1 Azm rfl (Aht AO9 rfl ((Ak.b p4).cell (i:=0) rfl) ?_));obtain ⟨Rm,Rn,Ro⟩:=AOw<|Ahy Kp Fm;refine Aqy rfl (Ajr Rn) λAPy APz Fo Rq=>?_;subst Rq;refine AO1<|AO6 ?_;have AP0:=Fo.1;refine ⟨_,AO7,(Rm:(Int)),?_,rfl,?_,?_⟩
        ·exact AOu Ro
        ·exact (Ak.e Fo)
        ·exact (Kr.thenE Fo)
      obtain ⟨AP1,Rr,rfl,Do,Kt⟩:=Rj;have AP2:=Kt.size;have Cy:=Dl.then Kt all_nil;refine ⟨Cy,?_⟩;subst Rr;refine AOr<|AOr<|Ah2 rfl (Ah1 Ah9 rfl (Ahk Aia rfl Cy (λh' hb=>((Ak.b p4).ext hb.ext).cell (i:=3) rfl) (AOr ?_)));obtain ⟨AP3,Fp,Rs⟩:=AOw Ri;refine Aii APa rfl (Ak.o2 p3) rfl Fp λAP4 AP5 AP6 Rt Ru=>Ahk Ahb rfl Cy (λh' hb=>AO8 Ru hb.ext) (AOr ?_);obtain ⟨AP7,Ku,Rv⟩:=AOw Rs;refine Ain (m:=Kn) APd rfl (Ak.o2 p3) Rt Fp rfl Ku λAP8 Rw=>?_;obtain ⟨AP9,Rx,Ry⟩:=(Ak.o2 p3).cells Rw Fp Ku;obtain rfl:=Rx;refine Ahk AO9 rfl Cy (λh' hb=>AO8 (Ry 0 _ rfl) hb.ext) ?_;obtain ⟨Rz,Kv,Kw⟩:=AOw Rv;have Kx:UpT [] Fl Fl:=UpT.start all_nil;refine Ahr (K':=(λxr h'=> ∃ x:(Int),x=Rz/\xr=(.int .i64 x)/\Kst h h' (Do.L)/\UpT [] Fl h')) Cy rfl ?_ λAQa AQb R3=>?_
      ·refine cwf (l:=[_,_]) Tryz.func80 rfl rfl (AOv<|AO1<|AOx<|AOv<|AOr<|Aiy rfl rfl (AOz<|⟨_,rfl,λFq=>?_,λFq=>?_⟩))
       ·refine AOv<|AOr<|Ah2 rfl (Ah1 A24 rfl (Aht Aiw rfl ((Do.b p4).cell (i:=2) rfl) (AO1<|AO6<|Ag9<|⟨_,AO7,(Bm:(Int)),?_,rfl,?_,?_⟩)))
        ·exact AOu<|Ahx Kv Fq
        ·exact Do
        ·exact Kx
       ·refine AO4<|q_t<|AOv<|AOr<|AOr<|Ah2 rfl (Ah1 Azm rfl (Aht AO9 rfl ((Do.b p4).cell (i:=0) rfl) ?_));obtain ⟨R4,R5,R6⟩:=AOw<|Ahy Kv Fq;refine Aqy rfl (Ajr R5) λAQc AQd Fr R7=>?_;subst R7;refine AO1<|AO6 ?_;have AQe:=Fr.1;refine ⟨_,AO7,(R4:(Int)),?_,rfl,?_,?_⟩
        ·exact AOu R6
        ·exact (Do.e Fr)
        ·exact (Kx.thenE Fr)
      obtain ⟨AQf,R8,rfl,Ky,Kz⟩:=R3;have AQg:=Kz.size;refine ⟨(Cy.then Kz all_nil),?_⟩;subst R8;refine Aho rfl rfl (AOz<|⟨_,rfl,λFt=>?_,λFt=>?_⟩)
      ·refine Ag6<|AOr<|AOr<|Ahl<|Ahl<|Ahh<|q_b<|q_t ?_;exact ⟨((Fh,Fh):(Int) × (Int)),⟨AOu<|Ahx Kw Ft,Ky⟩,rfl,rfl,trivial⟩
      ·refine AO4<|q_b<|q_t ?_;exact ⟨((Kn,Q2):(Int) × (Int)),⟨AOu<|Ahy Kw Ft,Ky⟩,rfl,rfl,trivial⟩
     rintro ⟨AQh,AQi⟩ AQj AQk ⟨R9,Sa⟩;subst R9;refine Ag6<|AOr<|Ahp rfl rfl (AO1 ?_);exact ⟨_,(AOu Q7).symm,Sa,rfl,rfl,rfl,trivial⟩
    ·refine Ahf<|Ahg<|Ahg<|Aim<|q_t<|AOx<|AOv<|AOr<|AO1<|AO0<|Aqu 316912650057055098574362117824 (Q3 _ (AOu<|Ahy Fi Fj).symm) (λx=>[(6,(.int .i64 x.1)),(7,(.int .i64 x.2.1)),(9,(.int .i64 x.2.2))]) (λx=>Ak.L) Ak ⟨rfl,rfl,rfl,trivial⟩ ?_;rintro ⟨Sb,Sc,La⟩ AQl AQm AQn Dp Fu Sd;unfold Ang at Fu;refine AOx<|AOv<|AOr<|AOr<|Ah2 rfl (Ajl Ah9 Aia (Dp.b p4) 3 rfl (Ahw APa rfl (Dp.o2 p3).rd (Aho rfl rfl (AOz<|⟨_,rfl,λFv=>?_,λFv=>?_⟩))))
     ·refine AO4<|q_t<|AOx<|AO0<|AOv<|AOr<|Ahp rfl rfl (AO1<|AO0<|Aqu 316912650052445664355748414656 (Ahx Fu Fv) (λx=>[(6,(.int .i64 x.1)),(7,(.int .i64 x.2.1)),(10,(.int .i64 x.2.2))]) (λx=>Dp.L) Dp ⟨rfl,rfl,rfl,trivial⟩ ?_);rintro ⟨Lb,Se,Sf⟩ AQo Cz AQp Ax Fw Sg;unfold Aps at Fw;refine AOx<|AOv<|AOr<|AOr<|Ah2 rfl (Ajl Ah9 Aia (Ax.b p4) 3 rfl (Ahw APa rfl (Ax.o2 p3).rd (Aho rfl rfl (AOz<|⟨_,rfl,λFx=>?_,λFx=>?_⟩))))
      ·refine AO4<|q_t ?_;obtain ⟨Sh,Si,Sj⟩:=AOw<|Ahx Fw Fx;refine Aqt 316912647695874108939353194688 (λx:(Int) × (Int)=>[(6,(.int .i64 x.1)),(7,(.int .i64 x.2))]) (λx h'=>( (x.1,x.2))=Sh/\Kst h h' (Ax.L)) ?_ ?_
       ·refine AO0<|AOx<|Aiz (λh'=>UpT [] Cz h') AO5 ?_;have Dq:UpT [] Cz Cz:=UpT.start all_nil;refine AOr<|AOr<|Ah2 rfl (Ah1 Ah9 rfl (Ahk Aia rfl Dq (λh' hb=>((Ax.b p4).ext hb.ext).cell (i:=3) rfl) (AOr ?_)));obtain ⟨AQq,Fy,Sk⟩:=AOw Si;refine Aii APa rfl (Ax.o2 p3) rfl Fy λAQr AQs AQt Sm Sn=>Ahk Ahb rfl Dq (λh' hb=>AO8 Sn hb.ext) (AOr ?_);obtain ⟨AQu,Lc,So⟩:=AOw Sk;refine Ain (m:=La) APd rfl (Ax.o2 p3) Sm Fy rfl Lc λAQv Sq=>?_;obtain ⟨AQw,Sr,Ss⟩:=(Ax.o2 p3).cells Sq Fy Lc;obtain rfl:=Sr;refine Ahk AO9 rfl Dq (λh' hb=>AO8 (Ss 0 _ rfl) hb.ext) ?_;obtain ⟨St,Ld,Su⟩:=AOw So;have Le:UpT [] Cz Cz:=UpT.start all_nil;refine Ahr (K':=(λxr h'=> ∃ x:(Int),x=St/\xr=(.int .i64 x)/\Kst h h' (Ax.L)/\UpT [] Cz h')) Dq rfl ?_ λAQx Fz Sv=>?_
        ·refine cwf (l:=[_,_]) Tryz.func80 rfl rfl (AOv<|AO1<|AOx<|AOv<|AOr<|Aiy rfl rfl (AOz<|⟨_,rfl,λF4=>?_,λF4=>?_⟩))
         ·refine AOv<|AOr<|Ah2 rfl (Ah1 A24 rfl (Aht Aiw rfl ((Ax.b p4).cell (i:=2) rfl) (AO1<|AO6<|Ag9<|⟨_,AO7,(Bm:(Int)),?_,rfl,?_,?_⟩)))
          ·exact AOu<|Ahx Ld F4
          ·exact Ax
          ·exact Le
         ·refine AO4<|q_t<|AOv<|AOr<|AOr<|Ah2 rfl (Ah1 Azm rfl (Aht AO9 rfl ((Ax.b p4).cell (i:=0) rfl) ?_));obtain ⟨Sw,Sx,Sy⟩:=AOw<|Ahy Ld F4;refine Aqy rfl (Ajr Sx) λAQy AQz F5 Sz=>?_;subst Sz;refine AO1<|AO6 ?_;have AQ0:=F5.1;refine ⟨_,AO7,(Sw:(Int)),?_,rfl,?_,?_⟩
          ·exact AOu Sy
          ·exact (Ax.e F5)
          ·exact (Le.thenE F5)
        obtain ⟨AQ1,S5,rfl,Dr,Lf⟩:=Sv;have AQ2:=Lf.size;have C0:=Dq.then Lf all_nil;refine ⟨C0,?_⟩;subst S5;refine AOr<|AOr<|Ah2 rfl (Ah1 Ah9 rfl (Ahk Aia rfl C0 (λh' hb=>((Ax.b p4).ext hb.ext).cell (i:=3) rfl) (AOr ?_)));obtain ⟨AQ3,F6,S7⟩:=AOw Su;refine Aii APa rfl (Ax.o2 p3) rfl F6 λAQ4 AQ5 AQ6 Ta Tb=>Ahk Ahb rfl C0 (λh' hb=>AO8 Tb hb.ext) (AOr ?_);obtain ⟨AQ7,Lg,Tc⟩:=AOw S7;refine Ain (m:=Lb) APd rfl (Ax.o2 p3) Ta F6 rfl Lg λAQ8 Td=>?_;obtain ⟨AQ9,Te,Tf⟩:=(Ax.o2 p3).cells Td F6 Lg;obtain rfl:=Te;refine Ahk AO9 rfl C0 (λh' hb=>AO8 (Tf 0 _ rfl) hb.ext) ?_;obtain ⟨Tg,Lh,Li⟩:=AOw Tc;have Lj:UpT [] Fz Fz:=UpT.start all_nil;refine Ahr (K':=(λxr h'=> ∃ x:(Int),x=Tg/\xr=(.int .i64 x)/\Kst h h' (Dr.L)/\UpT [] Fz h')) C0 rfl ?_ λARa ARb Th=>?_
        ·refine cwf (l:=[_,_]) Tryz.func80 rfl rfl (AOv<|AO1<|AOx<|AOv<|AOr<|Aiy rfl rfl (AOz<|⟨_,rfl,λF7=>?_,λF7=>?_⟩))
         ·refine AOv<|AOr<|Ah2 rfl (Ah1 A24 rfl (Aht Aiw rfl ((Dr.b p4).cell (i:=2) rfl) (AO1<|AO6<|Ag9<|⟨_,AO7,(Bm:(Int)),?_,rfl,?_,?_⟩)))
          ·exact AOu<|Ahx Lh F7
          ·exact Dr
          ·exact Lj
         ·refine AO4<|q_t<|AOv<|AOr<|AOr<|Ah2 rfl (Ah1 Azm rfl (Aht AO9 rfl ((Dr.b p4).cell (i:=0) rfl) ?_));obtain ⟨Ti,Tj,Tk⟩:=AOw<|Ahy Lh F7;refine Aqy rfl (Ajr Tj) λARc ARd F8 Tl=>?_;subst Tl;refine AO1<|AO6 ?_;have ARe:=F8.1;refine ⟨_,AO7,(Ti:(Int)),?_,rfl,?_,?_⟩
          ·exact AOu Tk
          ·exact (Dr.e F8)
          ·exact (Lj.thenE F8)
        obtain ⟨ARf,Tm,rfl,Lk,Ll⟩:=Th;have ARg:=Ll.size;refine ⟨(C0.then Ll all_nil),?_⟩;subst Tm;refine Aho rfl rfl (AOz<|⟨_,rfl,λF9=>?_,λF9=>?_⟩)
        ·refine Ag6<|AOr<|AOr<|Ahl<|Ahl<|Ahh<|q_b<|q_t ?_;exact ⟨((La,Sf):(Int) × (Int)),⟨AOu<|Ahx Li F9,Lk⟩,rfl,rfl,trivial⟩
        ·refine AO4<|q_b<|q_t ?_;exact ⟨((Lb,Se):(Int) × (Int)),⟨AOu<|Ahy Li F9,Lk⟩,rfl,rfl,trivial⟩
       rintro ⟨ARh,ARi⟩ ARj ARk ⟨Tn,To⟩;subst Tn;refine Ag6<|AOr<|Ahp rfl rfl (AO1 ?_);exact ⟨_,(AOu Sj).symm,To,rfl,rfl,rfl,trivial⟩
      ·refine Ahf<|Ahg<|Ahg<|Aim<|q_b<|q_t<|Ag6<|AOr<|Ahp rfl rfl (AO1 ?_);exact ⟨_,(AOu<|Sg _ (AOu<|Ahy Fw Fx).symm).symm,Ax,rfl,rfl,rfl,trivial⟩
     ·refine Ahf<|Ahg<|Ahg<|Aim<|q_t<|AOv<|AOr<|AOr<|Ahl<|AO1<|AO6<|⟨_,Air,((Sb,Sc):(Int) × (Int)),?_,rfl,?_⟩
      ·exact AOu<|Sd _ (AOu<|Ahy Fu Fv).symm
      ·exact Dp
   obtain ⟨⟨C1,Ga⟩,Tp,rfl,Ca⟩:=Q1;refine ⟨trivial,?_⟩;subst Tp;refine AOr<|Ait rfl rfl (Ait rfl rfl (Ahl<|AO1 ?_));obtain ⟨Tq,Lm,Lo⟩:=AOw Q0;refine Aqt 4951760083354544804758291456 (λx:(Int) × (LiI) × LnA × LnN × LvA × (LiI) × ((List Alq)) × (Value) × LnA=>[(10,(.int .i64 x.1))]) (λx h'=>(Sum.inr <| (x.1,x.2.1,x.2.2.2.2.2.1,x.2.2.2.2.2.2.1))=Tq/\Kst h h' ((((Ca.L.set 3<|aO2 (cI .i64) 61 2 x.2.2.1 x.2.2.2.1 x.2.2.2.2.1 Ab x.2.1).set 2 (aO2 (cI .i64) 61 2 Aa Ae Af Ac x.2.2.2.2.2.1)).set 0 (aO Ar1 60 x.2.2.2.2.2.2.2.2 x.2.2.2.2.2.2.2.1 x.2.2.2.2.2.2.1)).set 1 (aB 29 Kh [(.int .i64 a5),(.slice none 0 0),x.2.2.2.2.2.2.2.1]))) ?_ ?_
   ·refine AOv<|AOr<|AOr<|Ajq rfl rfl (AOr ?_);by_cases Ed: ¬ C1=Ga
    ·have Lq:=ifT Lm Ed;rw [decide_eq_true Ed];refine Ag8 69 true<|AOr<|Ag8 69 true<|Aiy rfl rfl (Ag7 rfl (AOz<|⟨_,rfl,λGb=>?_,λGb=>?_⟩))
     ·refine AOv<|AOr<|AOr<|AOr ?_;obtain ⟨Tr,Ts,Tt⟩:=AOw<|Ahx Lq Gb;refine Ahr (K':=(λxr h'=> ∃ x:(LiI) × LnA × LnN × LvA × (LiI),(x.1,x.2.2.2.2)=Tr/\xr= .tuple #[]/\Kst h h' ((Ca.L.set 3<|aO2 (cI .i64) 61 2 x.2.1 x.2.2.1 x.2.2.2.1 Ab x.1).set 2 (aO2 (cI .i64) 61 2 Aa Ae Af Ac x.2.2.2.2)))) trivial rfl ?_ λARl ARm Tu=>?_
      ·refine cwf (l:=[_,_,_]) Tryz.func37 rfl rfl (AOx<|AOv<|AOr<|Ah2 rfl (Ajl Ah9 Aia (Ca.b p4) 3 rfl (Ahw APa rfl (Ca.o2 p3).rd (AOr<|AOz<|AO0<|Aqu 4951760157141521099596492864 Ts (λx=>[(12,(.int .i64 x.1))]) (λx=>(Ca.L.set 3<|aO2 (cI .i64) 61 2 Fc Fd Fe Ab x.2.1).set 2 (aO2 (cI .i64) 61 2 Aa Ae Af Ac x.2.2)) Ca ⟨rfl,trivial⟩ ?_))));rintro ⟨Cb,Tv,Tw⟩ ARn ARo ARp Ah Gc Tx;unfold Akj at Gc;refine AOv<|Aho rfl rfl (AOz<|AOx<|⟨_,rfl,λGd=>?_,λGd=>?_⟩)
       ·refine AO4<|q_t<|AOx<|AO0<|AOv<|AOr<|AO1<|AOx<|Ana<|AOr<|Ah2 rfl (Ajl Ah9 Aia (Ah.b p4) 3 rfl (AOr ?_));obtain ⟨ARq,Ci,Ty⟩:=AOw<|Ahx Gc Gd;refine Ai2 APa Ahb (Ah.o2 p3) Ci λ_ ARr Tz=>AOr<|AOr<|Ah2 rfl (Ajl Ah9 Aia (Ah.b p4) 3 rfl (AOr<|Ai2 APa Ahb (Ah.o2 p3) Ci λ_ ARs T0=>AOr<|AOr<|Ah2 rfl (Ajl Ah9 Aia (Ah.b p4) 3 rfl (AOr<|Ai2 APa Ahb (Ah.o2 p3) Ci λ_ ARt T3=>AOr ?_))));obtain ⟨ARu,T4,T5⟩:=AOw Ty;refine At4 (m:=Cb) APd AO9 (Ah.o2 p3) T3 Ci T4 λ_=>(AOr<|Ah2 rfl (Ajl Ah9 Aia (Ah.b p4) 3 rfl (AOr<|Ai2 APa Ahb (Ah.o2 p3) Ci λ_ ARv T6=>AOr ?_)));obtain ⟨ARw,Lr,T7⟩:=AOw T5;refine At4 (m:=Cb) APd AO9 (Ah.o2 p3) T6 Ci Lr λ_=>As1 (m:=Cb) Ah p3 APd AO9 Tz Ci Lr (λ_=>rfl) λ_ ARx T8=>?_;obtain ⟨ARy,T9,Ua⟩:=AOw T7;obtain ⟨ARz,Ub,Uc⟩:=AOw Ua;refine As1 (m:=Cb) T8 p3 APd AO9 T0 T9 Ub (λ_=>rfl) λ_ AR0 Bn=>AOz<|Ana<|AOr<|Ah2 rfl (Ajl Ala Aia (Bn.b p4) 4 rfl (AOr ?_));obtain ⟨AR1,Cj,Ud⟩:=AOw Uc;refine Ai2 APa Ahb (Bn.o2 p2) Cj λ_ AR2 Ue=>AOr<|AOr<|Ah2 rfl (Ajl Ala Aia (Bn.b p4) 4 rfl (AOr<|Ai2 APa Ahb (Bn.o2 p2) Cj λ_ AR3 Uf=>AOr<|AOr<|Ah2 rfl (Ajl Ala Aia (Bn.b p4) 4 rfl (AOr<|Ai2 APa Ahb (Bn.o2 p2) Cj λ_ AR4 Ug=>AOr ?_))));obtain ⟨AR5,Uh,Ui⟩:=AOw Ud;refine At4 (m:=Cb) APd AO9 (Bn.o2 p2) Ug Cj Uh λ_=>(AOr<|Ah2 rfl (Ajl Ala Aia (Bn.b p4) 4 rfl (AOr<|Ai2 APa Ahb (Bn.o2 p2) Cj λ_ AR6 Uj=>AOr ?_)));obtain ⟨AR7,Lv,Uk⟩:=AOw Ui;refine At4 (m:=Cb) APd AO9 (Bn.o2 p2) Uj Cj Lv λ_=>As1 (m:=Cb) Bn p2 APd AO9 Ue Cj Lv (λ_=>rfl) λ_ AR8 Ul=>?_;obtain ⟨AR9,Um,Un⟩:=AOw Uk;obtain ⟨ASa,Uo,Up⟩:=AOw Un;refine As1 (m:=Cb) Ul p2 APd AO9 Uf Um Uo (λ_=>rfl) λ_ ASb Uq=>Ahh<|q_b<|q_t<|Ag6<|Ahp rfl rfl (AOr<|AOz ?_);exact ⟨_,(AOu Up).symm,Uq,rfl,trivial⟩
       ·refine Ahf<|Ahg<|Ahg<|Aim<|q_t<|Ana<|AOr<|Ah2 rfl (Ajl Ah9 Aia (Ah.b p4) 3 rfl (AOr<|AOr<|Ah2 rfl (Ajl Ah9 Aia (Ah.b p4) 3 rfl (AOr<|AOr<|Ah2 rfl (Ajl Ah9 Aia (Ah.b p4) 3 rfl (AOr ?_))))));obtain ⟨Ur,Lw,Us⟩:=AOw<|Tx _ (AOu<|Ahy Gc Gd).symm;refine Ai2 APa Ahb (Ah.o2 p3) Lw λ_ ASc Ut=>AOr<|Ah2 rfl (Ajl Ah9 Aia (Ah.b p4) 3 rfl (AOr ?_));obtain ⟨Uu,Lx,Uv⟩:=AOw Us;refine Ai2 APa Ahb (Ah.o2 p3) Lx λ_ ASd Uw=>Avk APa Ahb (Ah.o2 p3) Uw Ut Lx Lw rfl rfl (λ_=>rfl) (λ_=>rfl) (λ_=>rfl) (λ_ _=>rfl) λASe ASf Ux Uy Uz ASg U0 U3 U8=>Ahh<|⟨_,Avn,(((sI (sI Tv A9 Ur) C1 Uu),Ux,Uy,Uz,Tw):(LiI) × LnA × LnN × LvA × (LiI)),?_,rfl,?_⟩
        ·exact AOu Uv
        ·exact (Ah.uo2 p3 U3 U0 U8)
      obtain ⟨⟨ASh,Va,Vb,Vc,ASi⟩,Vd,rfl,Ds⟩:=Tu;refine ⟨trivial,?_⟩;subst Vd;refine Apu<|AOr<|AOr<|Ahp rfl rfl (AOr ?_);obtain ⟨Ve,Vf,Vg⟩:=AOw Tt;refine Ahr (K':=(λxr h'=> ∃ x:(LiI) × LnA × LnN × LvA × (LiI),(x.1,x.2.2.2.2)=Ve/\xr= .tuple #[]/\Kst h h' ((Ds.L.set 3<|aO2 (cI .i64) 61 2 x.2.1 x.2.2.1 x.2.2.2.1 Ab x.1).set 2 (aO2 (cI .i64) 61 2 Aa Ae Af Ac x.2.2.2.2)))) trivial rfl ?_ λASj Ck Vh=>?_
      ·refine cwf (l:=[_,_,_]) Tryz.func37 rfl rfl (AOx<|AOv<|AOr<|Ah2 rfl (Ajl Ah9 Aia (Ds.b p4) 3 rfl (Ahw APa rfl (Ds.o2 p3).rd (AOr<|AOz<|AO0<|Aqu 4951760157141521099596492864 Vf (λx=>[(12,(.int .i64 x.1))]) (λx=>(Ds.L.set 3<|aO2 (cI .i64) 61 2 Va Vb Vc Ab x.2.1).set 2 (aO2 (cI .i64) 61 2 Aa Ae Af Ac x.2.2)) Ds ⟨rfl,trivial⟩ ?_))));rintro ⟨Cd,Vi,Vj⟩ ASk ASl ASm Ai Ge Vk;unfold Akk at Ge;refine AOv<|Aho rfl rfl (AOz<|AOx<|⟨_,rfl,λGf=>?_,λGf=>?_⟩)
       ·refine AO4<|q_t<|AOx<|AO0<|AOv<|AOr<|AO1<|AOx<|Ana<|AOr<|Ah2 rfl (Ajl Ah9 Aia (Ai.b p4) 3 rfl (AOr ?_));obtain ⟨ASn,Cm,Vl⟩:=AOw<|Ahx Ge Gf;refine Ai2 APa Ahb (Ai.o2 p3) Cm λ_ ASo Vm=>AOr<|AOr<|Ah2 rfl (Ajl Ah9 Aia (Ai.b p4) 3 rfl (AOr<|Ai2 APa Ahb (Ai.o2 p3) Cm λ_ ASp Vn=>AOr<|AOr<|Ah2 rfl (Ajl Ah9 Aia (Ai.b p4) 3 rfl (AOr<|Ai2 APa Ahb (Ai.o2 p3) Cm λ_ ASq Vo=>AOr ?_))));obtain ⟨ASr,Vp,Vs⟩:=AOw Vl;refine At4 (m:=Cd) APd AO9 (Ai.o2 p3) Vo Cm Vp λ_=>(AOr<|Ah2 rfl (Ajl Ah9 Aia (Ai.b p4) 3 rfl (AOr<|Ai2 APa Ahb (Ai.o2 p3) Cm λ_ ASs Vt=>AOr ?_)));obtain ⟨ASt,Ly,Vu⟩:=AOw Vs;refine At4 (m:=Cd) APd AO9 (Ai.o2 p3) Vt Cm Ly λ_=>As1 (m:=Cd) Ai p3 APd AO9 Vm Cm Ly (λ_=>rfl) λ_ ASu Vv=>?_;obtain ⟨ASv,Vw,Vx⟩:=AOw Vu;obtain ⟨ASw,Vy,Vz⟩:=AOw Vx;refine As1 (m:=Cd) Vv p3 APd AO9 Vn Vw Vy (λ_=>rfl) λ_ ASx Bo=>AOz<|Ana<|AOr<|Ah2 rfl (Ajl Ala Aia (Bo.b p4) 4 rfl (AOr ?_));obtain ⟨ASy,Cn,V1⟩:=AOw Vz;refine Ai2 APa Ahb (Bo.o2 p2) Cn λ_ ASz V4=>AOr<|AOr<|Ah2 rfl (Ajl Ala Aia (Bo.b p4) 4 rfl (AOr<|Ai2 APa Ahb (Bo.o2 p2) Cn λ_ AS0 V6=>AOr<|AOr<|Ah2 rfl (Ajl Ala Aia (Bo.b p4) 4 rfl (AOr<|Ai2 APa Ahb (Bo.o2 p2) Cn λ_ AS1 V8=>AOr ?_))));obtain ⟨AS2,Wa,Wb⟩:=AOw V1;refine At4 (m:=Cd) APd AO9 (Bo.o2 p2) V8 Cn Wa λ_=>(AOr<|Ah2 rfl (Ajl Ala Aia (Bo.b p4) 4 rfl (AOr<|Ai2 APa Ahb (Bo.o2 p2) Cn λ_ AS3 Wc=>AOr ?_)));obtain ⟨AS4,Lz,Wd⟩:=AOw Wb;refine At4 (m:=Cd) APd AO9 (Bo.o2 p2) Wc Cn Lz λ_=>As1 (m:=Cd) Bo p2 APd AO9 V4 Cn Lz (λ_=>rfl) λ_ AS5 We=>?_;obtain ⟨AS6,Wf,Wg⟩:=AOw Wd;obtain ⟨AS7,Wh,Wi⟩:=AOw Wg;refine As1 (m:=Cd) We p2 APd AO9 V6 Wf Wh (λ_=>rfl) λ_ AS8 Wj=>Ahh<|q_b<|q_t<|Ag6<|Ahp rfl rfl (AOr<|AOz ?_);exact ⟨_,(AOu Wi).symm,Wj,rfl,trivial⟩
       ·refine Ahf<|Ahg<|Ahg<|Aim<|q_t<|Ana<|AOr<|Ah2 rfl (Ajl Ah9 Aia (Ai.b p4) 3 rfl (AOr<|AOr<|Ah2 rfl (Ajl Ah9 Aia (Ai.b p4) 3 rfl (AOr<|AOr<|Ah2 rfl (Ajl Ah9 Aia (Ai.b p4) 3 rfl (AOr ?_))))));obtain ⟨Wk,L9,Wl⟩:=AOw<|Vk _ (AOu<|Ahy Ge Gf).symm;refine Ai2 APa Ahb (Ai.o2 p3) L9 λ_ AS9 Wm=>AOr<|Ah2 rfl (Ajl Ah9 Aia (Ai.b p4) 3 rfl (AOr ?_));obtain ⟨Wn,Ma,Wo⟩:=AOw Wl;refine Ai2 APa Ahb (Ai.o2 p3) Ma λ_ ATa Wp=>Avk APa Ahb (Ai.o2 p3) Wp Wm Ma L9 rfl rfl (λ_=>rfl) (λ_=>rfl) (λ_=>rfl) (λ_ _=>rfl) λATb ATc Wq Wr Ws ATd Wt Wu Wv=>Ahh<|⟨_,Avn,(((sI (sI Vi (w64<|A9 + 1) Wk) Ga Wn),Wq,Wr,Ws,Vj):(LiI) × LnA × LnN × LvA × (LiI)),?_,rfl,?_⟩
        ·exact AOu Wo
        ·exact (Ai.uo2 p3 Wu Wt Wv)
      obtain ⟨⟨Ww,Ad,Ce,Cf,Wx⟩,Wy,rfl,Bp⟩:=Vh;refine ⟨trivial,?_⟩;subst Wy;refine AOz<|AOx<|Aiz (λh'=>UpT (Ec ++ (Ad ++ (Aa ++ []))) Ck h') AO5 ?_;have Gg:UpT (Ec ++ (Ad ++ (Aa ++ []))) Ck Ck:=UpT.start<|Aiv (Bp.o p0).notD<|Aiv (Bp.o2 p3).notD<|Aiv (Bp.o2 p2).notD all_nil;refine Ah1 Anw rfl (Ahk At1 rfl Gg (λh' hb=>((Bp.b p1).upT hb (A18 (Bp.dj p1 p0 AOs)<|A18 (Bp.dj p1 p3 AOs)<|A18 (Bp.dj p1 p2 AOs) A9x)).cell (i:=2) rfl) (AOr<|AOr ?_));obtain ⟨Wz,W0,W1⟩:=AOw Vg;have W3:UpT (Ad ++ (Aa ++ [])) Ck Ck:=UpT.start<|Aiv (Bp.o2 p3).notD<|Aiv (Bp.o2 p2).notD all_nil;refine Ahr (K':=(λxr h'=> ∃ x:(Int) × (Int) × (Int) × (Int) × (Int) × (LiI) × (LiI),(x.1,x.2.1,x.2.2.1,x.2.2.2.1,x.2.2.2.2.1,x.2.2.2.2.2.1,x.2.2.2.2.2.2)=Wz/\xr=(.agg #[(.int .i64 x.1),(.int .i64 x.2.1),(.int .i64 x.2.2.1),(.int .i64 x.2.2.2.1),(.int .i64 x.2.2.2.2.1)])/\Kst h h' ((Bp.L.set 3<|aO2 (cI .i64) 61 2 Ad Ce Cf Ab x.2.2.2.2.2.1).set 2 (aO2 (cI .i64) 61 2 Aa Ae Af Ac x.2.2.2.2.2.2))/\UpT (Ad ++ (Aa ++ [])) Ck h')) Gg rfl ?_ λATe ATf W4=>?_
      ·refine cwf (l:=[_,_]) Tryz.func38 rfl rfl (AOv<|A2b [(.int .i64 0),(.int .i64 0),(.int .i64 0),(.int .i64 0),(.int .i64 0)] Axm rfl trivial tt2 λATg Gh W5 Gi Mb=>Apu<|AOr<|AOr<|Ah2 rfl (Ah1 Ah9 rfl ?_));have ATh:=Gi.1;have Bw:=Bp.nb Gi Mb W5;refine Aht Aia rfl ((Bw.b p5).cell (i:=3) rfl) (AOr ?_);have W6:=Mb.loAll 0 rfl;obtain ⟨ATi,Bx,W7⟩:=AOw W0;refine Aii APa rfl (Bw.o2 p4) rfl Bx λATj ATk ATl W8 Xa=>Aht Ahb rfl Xa (AOr<|Ahp rfl rfl ?_);obtain ⟨Gj,Ee,Xb⟩:=AOw W7;refine Ain (m:=A9) APd rfl (Bw.o2 p4) W8 Bx rfl Ee λATm Xc=>?_;obtain ⟨ATn,Xd,Xe⟩:=(Bw.o2 p4).cells Xc Bx Ee;obtain rfl:=Xd;refine Aht AO9 rfl (Xe 0 _ rfl) ?_;obtain ⟨Xf,Mc,Xg⟩:=AOw Xb;have Md:UpT [] Gh Gh:=UpT.start all_nil;refine Ahr (K':=(λxr h'=> ∃ x:(Int),x=Xf/\xr=(.int .i64 x)/\Kst h h' (Bw.L)/\UpT [] Gh h')) trivial rfl ?_ λATo ATp Xh=>?_
       ·refine cwf (l:=[_,_]) Tryz.func80 rfl rfl (AOv<|AO1<|AOx<|AOv<|AOr<|Aiy rfl rfl (AOz<|⟨_,rfl,λGk=>?_,λGk=>?_⟩))
        ·refine AOv<|AOr<|Ah2 rfl (Ah1 A24 rfl (Aht Aiw rfl ((Bw.b p5).cell (i:=2) rfl) (AO1<|AO6<|Ag9<|⟨_,AO7,(Bm:(Int)),?_,rfl,?_,?_⟩)))
         ·exact AOu<|Ahx Mc Gk
         ·exact Bw
         ·exact Md
        ·refine AO4<|q_t<|AOv<|AOr<|AOr<|Ah2 rfl (Ah1 Azm rfl (Aht AO9 rfl ((Bw.b p5).cell (i:=0) rfl) ?_));obtain ⟨Xi,Xj,Xk⟩:=AOw<|Ahy Mc Gk;refine Aqy rfl (Ajr Xj) λATq ATr Gl Xl=>?_;subst Xl;refine AO1<|AO6 ?_;have ATs:=Gl.1;refine ⟨_,AO7,(Xi:(Int)),?_,rfl,?_,?_⟩
         ·exact AOu Xk
         ·exact (Bw.e Gl)
         ·exact (Md.thenE Gl)
       obtain ⟨Gm,Xm,rfl,Me,Mf⟩:=Xh;have ATt:=Mf.size;refine ⟨trivial,?_⟩;subst Xm;refine Ah4<|AOr<|Ah2 rfl (Ah1 Azm rfl (Aht AO9 rfl ((Me.b p5).cell (i:=0) rfl) (AOr ?_)));obtain ⟨By,Xn,Xo⟩:=AOw Xg;refine Aqy rfl (Alk Xn) λATu ATv Gn Xp=>?_;subst Xp;refine Ah4<|AOr<|Ah2 rfl (Ah1 Al5 rfl ?_);have ATw:=Gn.1;have A7:=Me.e Gn;refine Aht AO9 rfl ((A7.b p5).cell (i:=1) rfl) (AOr ?_);obtain ⟨Xq,Xr⟩:=ifN Xo;refine Aub rfl rfl Xq (AO1<|AOx<|Ana<|AOr<|Ah2 rfl (Ah1 Ah9 rfl (Aht Aia rfl ((A7.b p5).cell (i:=3) rfl) (AOr<|Aii APa rfl (A7.o2 p4) rfl Bx λATx ATy ATz Xt Xu=>Aht Ahb rfl Xu (AOr ?_)))));obtain ⟨Gp,Mg,Xv⟩:=AOw Xr;refine Ain (m:=A9) APd rfl (A7.o2 p4) Xt Bx rfl Mg λAT0 Xw=>?_;obtain ⟨AT1,Xx,Xy⟩:=(A7.o2 p4).cells Xw Bx Mg;obtain rfl:=Xx;refine Aht AO9 rfl (Xy 0 _ rfl) (AOr ?_);obtain ⟨Xz,X0⟩:=ifN Xv;refine Aub rfl rfl Xz (AOr<|Ah2 rfl (Ah1 Ah9 rfl (Aht Aia rfl ((A7.b p5).cell (i:=3) rfl) (AOr<|Aii APa rfl (A7.o2 p4) rfl Bx λAT2 AT3 AT4 X3 X4=>Aht Ahb rfl X4 (AOr<|Ahp rfl rfl (Ain (m:=A9) APd rfl (A7.o2 p4) X3 Bx rfl Ee λAT5 X5=>?_))))));obtain ⟨AT6,X6,X8⟩:=(A7.o2 p4).cells X5 Bx Ee;obtain rfl:=X6;refine Aht AO9 rfl (X8 0 _ rfl) (AOr ?_);obtain ⟨Ya,Yb⟩:=ifN X0;refine Aub rfl rfl Ya (AOr<|Ah2 rfl (Ah1 Ah9 rfl (Aht Aia rfl ((A7.b p5).cell (i:=3) rfl) (AOr<|Ahp rfl rfl ?_))));obtain ⟨AT7,Gq,Yc⟩:=AOw Yb;refine Aii APa rfl (A7.o2 p4) rfl Gq λAT8 AT9 AUa Yd Ye=>Aht Ahb rfl Ye (AOr<|Ahp rfl rfl ?_);obtain ⟨Gr,Mh,Yf⟩:=AOw Yc;refine Ain (m:=(w64<|A9 + 1)) APd rfl (A7.o2 p4) Yd Gq rfl Mh λAUb Yg=>?_;obtain ⟨AUc,Yh,Yi⟩:=(A7.o2 p4).cells Yg Gq Mh;obtain rfl:=Yh;refine Aht AO9 rfl (Yi 0 _ rfl) (AOr ?_);obtain ⟨Yj,Yk⟩:=ifN Yf;refine Aub rfl rfl Yj (Ahl<|Ahl<|AO1<|AOx<|Ana<|AOr<|AOr<|Aok rfl rfl (AOr ?_));obtain ⟨Yl,Ym⟩:=ifN Yk;refine Ajh rfl rfl Yl (AOr<|AOr<|Aok rfl rfl (AOr ?_));obtain ⟨Yn,Yo⟩:=ifN Ym;refine Ajh rfl rfl Yn (Anj rfl rfl (AOr ?_));obtain ⟨AUd,Yp,Yq⟩:=AOw Yo;refine Aqy rfl (Aij Yp) λAUe AUf Gt Yr=>?_;subst Yr;refine AOr ?_;have AUg:=Gt.1;obtain ⟨⟨AUh,AUi⟩,Ys,Mi⟩:=AOw Yq;dsimp only at Mi;refine Aqy rfl (As2 Ys) λAUj AUk Gu Yt=>?_;subst Yt;refine AOr<|Ait rfl rfl (Ait rfl rfl (Ahl<|AO1<|AOx<|AOv<|AOr<|Ahp rfl rfl (AO1<|AO0 ?_)));have AUl:=Gu.1;have Mj:=(A7.e Gt).e Gu;obtain ⟨Mk,Yu,Yv⟩:=AOw Mi;obtain ⟨Yw,Yx,Yy⟩:=Auf Yu;refine Aj4 12259964326927110866866771146600072556032306990656249856 (λx:(Int) × (LiI) × (LiI)=>[(13,(.int .i64 x.1))]) (λk x h'=>iter Yw k (x.1,x.2.1,x.2.2)=some Mk/\Kst h h' ((Mj.L.set 4<|aO2 (cI .i64) 61 2 Ad Ce Cf Ab x.2.1).set 3 (aO2 (cI .i64) 61 2 Aa Ae Af Ac x.2.2))/\UpT (Ad ++ (Aa ++ [])) Ck h') AO5 fuel (((w64<|A9 + 2),Ww,Wx):(Int) × (LiI) × (LiI)) ?_ ⟨rfl,trivial⟩ ?_
       ·exact ⟨Yy,Mj,(((((W3.thenE Gi).then Mf all_nil).thenE Gn).thenE Gt).thenE Gu)⟩
       rintro AUm ⟨Ba,Ml,Mm⟩ AUn AUo ⟨Yz,A8,Gv⟩;have AUp:=Gv.size;obtain ⟨Y1,AUq,rfl,Dt,Gw⟩:=Aq9 Yz;rw [Yx] at Dt;dsimp only at Dt;unfold Akr at Dt;refine AOx<|AOv<|AOr<|AOr<|Ah2 rfl (Ah1 Ah9 rfl (Aht Aia rfl ((A8.b p5).cell (i:=3) rfl) (Ahw APa rfl (A8.o2 p4).rd (Aho rfl rfl (AOz<|⟨_,rfl,λGx=>?_,λGx=>?_⟩)))))
       ·refine AO4<|q_t<|AOx<|AO0<|AOx<|Ana<|AOr<|Ah2 rfl (Ah1 Ah9 rfl (Aht Aia rfl ((A8.b p5).cell (i:=3) rfl) (AOr ?_)));obtain ⟨AUr,Gy,Y2⟩:=AOw<|Ahx Dt Gx;refine Aii APa rfl (A8.o2 p4) rfl Gy λAUs AUt AUu Y3 Y4=>Aht Ahb rfl Y4 (AOr ?_);obtain ⟨AUv,Mo,Y5⟩:=AOw Y2;refine Ain (m:=A9) APd rfl (A8.o2 p4) Y3 Gy rfl Mo λAUw Y6=>?_;obtain ⟨AUx,Y7,Y8⟩:=(A8.o2 p4).cells Y6 Gy Mo;obtain rfl:=Y7;refine Aht AO9 rfl (Y8 0 _ rfl) (AOr ?_);obtain ⟨Y9,Za⟩:=ifN Y5;refine Aub rfl rfl Y9 (AOr<|Ah2 rfl (Ah1 Ah9 rfl (Aht Aia rfl ((A8.b p5).cell (i:=3) rfl) (AOr<|Ahp rfl rfl ?_))));obtain ⟨AUy,Gz,Zd⟩:=AOw Za;refine Aii APa rfl (A8.o2 p4) rfl Gz λAUz AU0 AU1 Ze Zf=>Aht Ahb rfl Zf (AOr ?_);obtain ⟨AU2,Mq,Zg⟩:=AOw Zd;refine Ain (m:=(w64<|A9 + 1)) APd rfl (A8.o2 p4) Ze Gz rfl Mq λAU3 Zh=>?_;obtain ⟨AU4,Zj,Zk⟩:=(A8.o2 p4).cells Zh Gz Mq;obtain rfl:=Zj;refine Aht AO9 rfl (Zk 0 _ rfl) (AOr ?_);obtain ⟨Zl,Zm⟩:=ifN Zg;refine Aub rfl rfl Zl (Ahl<|AO1<|AOx<|Ana<|AOr<|AOr<|Aok rfl rfl (AOr ?_));obtain ⟨Zn,Zo⟩:=ifN Zm;refine Ajh rfl rfl Zn (AOr<|AOr<|Aok rfl rfl (AOr ?_));obtain ⟨Zp,Zq⟩:=ifN Zo;refine Ajh rfl rfl Zp (Anj rfl rfl (AOr ?_));obtain ⟨AU5,Zr,Zs⟩:=AOw Zq;refine Aqy rfl (Aij Zr) λAU6 AU7 G3 Zt=>?_;subst Zt;refine AOr<|Aok rfl rfl (AOr ?_);have AU8:=G3.1;obtain ⟨Zu,Zv⟩:=ifN Zs;refine Ajh rfl rfl Zu (AO1<|AOx<|Ana<|AOr<|AOr<|Aok rfl rfl (AOr ?_));obtain ⟨Zw,Zx⟩:=ifN Zv;refine Ajh rfl rfl Zw (AOr<|AOr<|Aok rfl rfl (AOr ?_));obtain ⟨Zy,Zz⟩:=ifN Zx;refine Ajh rfl rfl Zy (Anj rfl rfl (AOr ?_));obtain ⟨AU9,Z1,Z4⟩:=AOw Zz;refine Aqy rfl (Aij Z1) λAVa C2 G4 AAa=>?_;subst AAa;refine AOr<|Aok rfl rfl (AOr ?_);have AVb:=G4.1;have Co:=(A8.e G3).e G4;obtain ⟨AAb,AAc⟩:=ifN Z4;refine Ajh rfl rfl AAb (Ah4<|AOr<|AOr<|Azz rfl (AOr<|AOr ?_));obtain ⟨AAd,AAe,AAf⟩:=AOw AAc;have AAg:UpT (Ad ++ (Aa ++ [])) C2 C2:=UpT.start<|Aiv (Co.o2 p4).notD<|Aiv (Co.o2 p3).notD all_nil;refine Ahr (K':=(λxr h'=> ∃ x:(LiI) × (LiI),(x.1,x.2)=AAd/\xr= .tuple #[]/\Kst h h' ((Co.L.set 4<|aO2 (cI .i64) 61 2 Ad Ce Cf Ab x.1).set 3 (aO2 (cI .i64) 61 2 Aa Ae Af Ac x.2))/\UpT (Ad ++ (Aa ++ [])) C2 h')) trivial rfl ?_ λAVc C3 AAh=>?_
        ·refine cwf (l:=[_,_,_,_]) Tryz.func39 rfl rfl (AOx<|AOv<|AOr<|Ah2 rfl (Ah1 Ah9 rfl (Aht Aia rfl ((Co.b p5).cell (i:=3) rfl) (Ahw APa rfl (Co.o2 p4).rd (AOr<|AOz<|AO0 ?_)))));obtain ⟨Mr,AAi,AAj⟩:=AOw AAe;obtain ⟨AAk,AAl,AAm⟩:=Auf AAi;refine Aj4 4611686018427322624 (λx:(Int) × (LiI)=>[(16,(.int .i64 x.1))]) (λk x h'=>iter AAk k (x.1,x.2)=some Mr/\Kst h h' (Co.L.set 4<|aO2 (cI .i64) 61 2 Ad Ce Cf Ab x.2)/\UpT (Ad ++ (Aa ++ [])) C2 h') AO5 fuel ((0,Ml):(Int) × (LiI)) ?_ ⟨rfl,trivial⟩ ?_
         ·exact ⟨AAm,Co,AAg⟩
         rintro AVd ⟨C4,Ms⟩ AVe G5 ⟨AAn,Am,G6⟩;have AVf:=G6.size;obtain ⟨AAo,AVg,rfl,Du,G7⟩:=Aq9 AAn;rw [AAl] at Du;dsimp only at Du;unfold Akn at Du;refine AOv<|Aho rfl rfl (AOz<|AOx<|⟨_,rfl,λG8=>?_,λG8=>?_⟩)
         ·refine AO4<|q_t<|AOx<|AO0<|AOv<|AOr<|AO1<|Aiz (λh'=>UpT [] G5 h') AO5 ?_;have Bb:UpT [] G5 G5:=UpT.start all_nil;refine AOr<|Ah2 rfl (Ah1 Ah9 rfl (Ahk Aia rfl Bb (λh' hb=>((Am.b p5).ext hb.ext).cell (i:=3) rfl) (AOr ?_)));obtain ⟨AAp,Bz,AAq⟩:=AOw<|Ahx Du G8;refine Aii APa rfl (Am.o2 p4) rfl Bz λAVh AVi AVj AAr AAs=>Ahk Ahb rfl Bb (λh' hb=>AO8 AAs hb.ext) (AOr<|AOr<|Ah2 rfl (Ah1 Ah9 rfl (Ahk Aia rfl Bb (λh' hb=>((Am.b p5).ext hb.ext).cell (i:=3) rfl) (AOr<|Aii APa rfl (Am.o2 p4) rfl Bz λAVk AVl AVm AAt AAu=>Ahk Ahb rfl Bb (λh' hb=>AO8 AAu hb.ext) (AOr ?_)))));obtain ⟨AVn,Ef,AAv⟩:=AOw AAq;refine Ain (m:=C4) APd rfl (Am.o2 p4) AAt Bz rfl Ef λAVo AAw=>?_;obtain ⟨AVp,AAx,AAy⟩:=(Am.o2 p4).cells AAw Bz Ef;obtain rfl:=AAx;refine Ahk AO9 rfl Bb (λh' hb=>AO8 (AAy 0 _ rfl) hb.ext) (AOr<|AOr<|Ah2 rfl (Ah1 Ah9 rfl (Ahk Aia rfl Bb (λh' hb=>((Am.b p5).ext hb.ext).cell (i:=3) rfl) (AOr<|Aii APa rfl (Am.o2 p4) rfl Bz λAVq AVr AVs AAz AA0=>Ahk Ahb rfl Bb (λh' hb=>AO8 AA0 hb.ext) (AOr ?_)))));obtain ⟨AVt,Mt,AA1⟩:=AOw AAv;refine Ain (m:=C4) APd rfl (Am.o2 p4) AAz Bz rfl Mt λAVu AA2=>?_;obtain ⟨AVv,AA3,AA4⟩:=(Am.o2 p4).cells AA2 Bz Mt;obtain rfl:=AA3;refine Ahk AO9 rfl Bb (λh' hb=>AO8 (AA4 0 _ rfl) hb.ext) (Aok rfl rfl (AOr<|Ah2 rfl (Ah1 Al5 rfl (Ahk AO9 rfl Bb (λh' hb=>((Am.b p5).ext hb.ext).cell (i:=1) rfl) ?_))));obtain ⟨AA5,AA6⟩:=ifN AA1;refine Ajh rfl rfl AA5 (Ahp rfl rfl (AOr<|Ah2 rfl (Ah1 Al5 rfl (Ahk AO9 rfl Bb (λh' hb=>((Am.b p5).ext hb.ext).cell (i:=1) rfl) ?_))));obtain ⟨Mu,AA7,AA8⟩:=AOw AA6;refine Aj1 Bb (λ_ E=>Bb.thenE E) rfl (Aij AA7) λAVw AVx G9 AA9=>?_;subst AA9;refine Ain (m:=C4) APd rfl (Am.o2 p4) AAr Bz rfl Ef λAVy ABa=>?_;have AVz:=G9.1;have Mv:=Am.e G9;refine Aon (m:=C4) (Ame AO9 rfl rfl rfl) (Mv.o2 p4) ABa Bz Ef (show ((cI .i64)).rep _ Mu _ from rfl) λAV0 ABb Hb=>Ahh<|q_b<|q_t<|Ag6<|Ahp rfl rfl (AOr<|AOz ?_);have AV1:=Hb.size;obtain rfl:=AOu AA8;exact ⟨AAo,(((w64<|C4 + 1),(sI Ms C4<|sI AAp Ba Mu)):(Int) × (LiI)),Nat.lt_succ_self _,⟨G7,(Mv.uO2 p4 Hb ABb),((G6.thenE G9).then Hb<|Am2 rfl)⟩,rfl,trivial⟩
         ·obtain rfl:=AOu<|Ahy Du G8;change _=Mr at G7;subst G7;refine Ahf<|Ahg<|Ahg<|Aim<|q_t<|AOx<|AOv<|AOr<|Ah2 rfl (Ah1 Ah9 rfl (Aht Aia rfl ((Am.b p5).cell (i:=3) rfl) (Ahw APa rfl (Am.o2 p4).rd (AOr<|AOz<|AO0 ?_))));obtain ⟨Mw,ABc,ABd⟩:=AOw AAj;obtain ⟨ABe,ABf,ABg⟩:=Auf ABc;refine Aj4 10384593717069507683108402982027776 (λx:(Int) × (LiI)=>[(67,(.int .i64 x.1))]) (λk x h'=>iter ABe k (x.1,x.2)=some Mw/\Kst h h' (Am.L.set 4<|aO2 (cI .i64) 61 2 Ad Ce Cf Ab x.2)/\UpT (Ad ++ (Aa ++ [])) C2 h') AO5 fuel ((0,Ms):(Int) × (LiI)) ?_ ⟨rfl,trivial⟩ ?_
          ·exact ⟨ABg,Am,G6⟩
          rintro AV2 ⟨Mx,My⟩ AV3 Hc ⟨ABh,Ao,Hd⟩;have AV4:=Hd.size;obtain ⟨ABi,AV5,rfl,Dv,He⟩:=Aq9 ABh;rw [ABf] at Dv;dsimp only at Dv;unfold Akm at Dv;refine AOv<|Aho rfl rfl (AOz<|AOx<|⟨_,rfl,λHf=>?_,λHf=>?_⟩)
          ·refine AO4<|q_t<|AOx<|AO0<|AOv<|AOr<|AO1<|Aiz (λh'=>UpT [] Hc h') AO5 ?_;have Bc:UpT [] Hc Hc:=UpT.start all_nil;refine AOr<|Ah2 rfl (Ah1 Ah9 rfl (Ahk Aia rfl Bc (λh' hb=>((Ao.b p5).ext hb.ext).cell (i:=3) rfl) (AOr ?_)));obtain ⟨ABj,C5,ABk⟩:=AOw<|Ahx Dv Hf;refine Aii APa rfl (Ao.o2 p4) rfl C5 λAV6 AV7 AV8 ABl ABm=>Ahk Ahb rfl Bc (λh' hb=>AO8 ABm hb.ext) (AOr<|AOr<|Ah2 rfl (Ah1 Ah9 rfl (Ahk Aia rfl Bc (λh' hb=>((Ao.b p5).ext hb.ext).cell (i:=3) rfl) (AOr<|Aii APa rfl (Ao.o2 p4) rfl C5 λAV9 AWa AWb ABn ABo=>Ahk Ahb rfl Bc (λh' hb=>AO8 ABo hb.ext) (AOr ?_)))));obtain ⟨AWc,Eg,ABp⟩:=AOw ABk;refine Ain (m:=Ba) APd rfl (Ao.o2 p4) ABn C5 rfl Eg λAWd ABq=>?_;obtain ⟨AWe,ABr,ABs⟩:=(Ao.o2 p4).cells ABq C5 Eg;obtain rfl:=ABr;refine Ahk AO9 rfl Bc (λh' hb=>AO8 (ABs 0 _ rfl) hb.ext) (AOr<|AOr<|Ah2 rfl (Ah1 Ah9 rfl (Ahk Aia rfl Bc (λh' hb=>((Ao.b p5).ext hb.ext).cell (i:=3) rfl) (AOr ?_))));obtain ⟨AWf,Hg,ABt⟩:=AOw ABp;refine Aii APa rfl (Ao.o2 p4) rfl Hg λAWg AWh AWi ABu ABv=>Ahk Ahb rfl Bc (λh' hb=>AO8 ABv hb.ext) (AOr ?_);obtain ⟨AWj,Mz,ABw⟩:=AOw ABt;refine Ain (m:=A9) APd rfl (Ao.o2 p4) ABu Hg rfl Mz λAWk ABx=>?_;obtain ⟨AWl,ABy,ABz⟩:=(Ao.o2 p4).cells ABx Hg Mz;obtain rfl:=ABy;refine Ahk AO9 rfl Bc (λh' hb=>AO8 (ABz 0 _ rfl) hb.ext) (Aok rfl rfl (AOr<|Ah2 rfl (Ah1 Al5 rfl (Ahk AO9 rfl Bc (λh' hb=>((Ao.b p5).ext hb.ext).cell (i:=1) rfl) ?_))));obtain ⟨AB0,AB1⟩:=ifN ABw;refine Ajh rfl rfl AB0 (Ahp rfl rfl (AOr<|Ah2 rfl (Ah1 Al5 rfl (Ahk AO9 rfl Bc (λh' hb=>((Ao.b p5).ext hb.ext).cell (i:=1) rfl) ?_))));obtain ⟨M0,AB2,AB3⟩:=AOw AB1;refine Aj1 Bc (λ_ E=>Bc.thenE E) rfl (Aij AB2) λAWm AWn Hh AB4=>?_;subst AB4;refine Ain (m:=Ba) APd rfl (Ao.o2 p4) ABl C5 rfl Eg λAWo AB5=>?_;have AWp:=Hh.1;have M1:=Ao.e Hh;refine Aon (m:=Ba) (Ame AO9 rfl rfl rfl) (M1.o2 p4) AB5 C5 Eg (show ((cI .i64)).rep _ M0 _ from rfl) λAWq AB6 Hj=>Ahh<|q_b<|q_t<|Ag6<|Ahp rfl rfl (AOr<|AOz ?_);have AWr:=Hj.size;obtain rfl:=AOu AB3;exact ⟨ABi,(((w64<|Mx + 1),(sI My Ba<|sI ABj Mx M0)):(Int) × (LiI)),Nat.lt_succ_self _,⟨He,(M1.uO2 p4 Hj AB6),((Hd.thenE Hh).then Hj<|Am2 rfl)⟩,rfl,trivial⟩
          ·obtain rfl:=AOu<|Ahy Dv Hf;change _=Mw at He;subst He;refine Ahf<|Ahg<|Ahg<|Aim<|q_t<|AOv<|AOr<|Ah2 rfl (Ah1 Ala rfl (Aht Aia rfl ((Ao.b p5).cell (i:=4) rfl) (Ahw APa rfl (Ao.o2 p3).rd (AOr<|AOz<|AO0 ?_))));obtain ⟨M2,AB7,AB8⟩:=AOw ABd;obtain ⟨AB9,ACa,ACb⟩:=Auf AB7;refine Aj4 23384026197294114384260011094492302362729850602496 (λx:(Int) × (LiI)=>[(118,(.int .i64 x.1))]) (λk x h'=>iter AB9 k (x.1,x.2)=some M2/\Kst h h' (Ao.L.set 3<|aO2 (cI .i64) 61 2 Aa Ae Af Ac x.2)/\UpT (Ad ++ (Aa ++ [])) C2 h') AO5 fuel ((0,Mm):(Int) × (LiI)) ?_ ⟨rfl,trivial⟩ ?_
           ·exact ⟨ACb,Ao,Hd⟩
           rintro AWs ⟨C6,M3⟩ AWt Hk ⟨ACc,Az,Hl⟩;have AWu:=Hl.size;obtain ⟨ACd,AWv,rfl,Dw,Hm⟩:=Aq9 ACc;rw [ACa] at Dw;dsimp only at Dw;unfold Akl at Dw;refine AOv<|Aho rfl rfl (AOz<|AOx<|⟨_,rfl,λHn=>?_,λHn=>?_⟩)
           ·refine AO4<|q_t<|AOx<|AO0<|AOv<|AOr<|AO1<|Aiz (λh'=>UpT [] Hk h') AO5 ?_;have Be:UpT [] Hk Hk:=UpT.start all_nil;refine AOr<|Ah2 rfl (Ah1 Ala rfl (Ahk Aia rfl Be (λh' hb=>((Az.b p5).ext hb.ext).cell (i:=4) rfl) (AOr ?_)));obtain ⟨ACe,B1,ACf⟩:=AOw<|Ahx Dw Hn;refine Aii APa rfl (Az.o2 p3) rfl B1 λAWw AWx AWy ACg ACh=>Ahk Ahb rfl Be (λh' hb=>AO8 ACh hb.ext) (AOr<|AOr<|Ah2 rfl (Ah1 Ala rfl (Ahk Aia rfl Be (λh' hb=>((Az.b p5).ext hb.ext).cell (i:=4) rfl) (AOr<|Aii APa rfl (Az.o2 p3) rfl B1 λAWz AW0 AW1 ACi ACj=>Ahk Ahb rfl Be (λh' hb=>AO8 ACj hb.ext) (AOr ?_)))));obtain ⟨AW2,Eh,ACk⟩:=AOw ACf;refine Ain (m:=C6) APd rfl (Az.o2 p3) ACi B1 rfl Eh λAW3 ACl=>?_;obtain ⟨AW4,ACm,ACn⟩:=(Az.o2 p3).cells ACl B1 Eh;obtain rfl:=ACm;refine Ahk AO9 rfl Be (λh' hb=>AO8 (ACn 0 _ rfl) hb.ext) (AOr<|AOr<|Ah2 rfl (Ah1 Ala rfl (Ahk Aia rfl Be (λh' hb=>((Az.b p5).ext hb.ext).cell (i:=4) rfl) (AOr<|Aii APa rfl (Az.o2 p3) rfl B1 λAW5 AW6 AW7 ACo ACp=>Ahk Ahb rfl Be (λh' hb=>AO8 ACp hb.ext) (AOr ?_)))));obtain ⟨AW8,M4,ACq⟩:=AOw ACk;refine Ain (m:=C6) APd rfl (Az.o2 p3) ACo B1 rfl M4 λAW9 ACr=>?_;obtain ⟨AXa,ACs,ACt⟩:=(Az.o2 p3).cells ACr B1 M4;obtain rfl:=ACs;refine Ahk AO9 rfl Be (λh' hb=>AO8 (ACt 0 _ rfl) hb.ext) (Aok rfl rfl (AOr<|Ah2 rfl (Ah1 Al5 rfl (Ahk AO9 rfl Be (λh' hb=>((Az.b p5).ext hb.ext).cell (i:=1) rfl) ?_))));obtain ⟨ACu,ACv⟩:=ifN ACq;refine Ajh rfl rfl ACu (Ahp rfl rfl (AOr<|Ah2 rfl (Ah1 Al5 rfl (Ahk AO9 rfl Be (λh' hb=>((Az.b p5).ext hb.ext).cell (i:=1) rfl) ?_))));obtain ⟨M5,ACw,ACx⟩:=AOw ACv;refine Aj1 Be (λ_ E=>Be.thenE E) rfl (Aij ACw) λAXb AXc Ho ACy=>?_;subst ACy;refine Ain (m:=C6) APd rfl (Az.o2 p3) ACg B1 rfl Eh λAXd ACz=>?_;have AXe:=Ho.1;have M6:=Az.e Ho;refine Aon (m:=C6) (Ame AO9 rfl rfl rfl) (M6.o2 p3) ACz B1 Eh (show ((cI .i64)).rep _ M5 _ from rfl) λAXf AC0 Hq=>Ahh<|q_b<|q_t<|Ag6<|Ahp rfl rfl (AOr<|AOz ?_);have AXg:=Hq.size;obtain rfl:=AOu ACx;exact ⟨ACd,(((w64<|C6 + 1),(sI M3 C6<|sI ACe Ba M5)):(Int) × (LiI)),Nat.lt_succ_self _,⟨Hm,(M6.uO2 p3 Hq AC0),((Hl.thenE Ho).then Hq<|A1k<|Am2 rfl)⟩,rfl,trivial⟩
           ·obtain rfl:=AOu<|Ahy Dw Hn;change _=M2 at Hm;subst Hm;refine Ahf<|Ahg<|Ahg<|Aim<|⟨_,Avn,((My,M3):(LiI) × (LiI)),?_,rfl,?_,?_⟩
            ·exact AOu AB8
            ·exact Az
            ·exact Hl
        obtain ⟨⟨AC1,AC2⟩,AC3,rfl,Cp,M7⟩:=AAh;have AXh:=M7.size;refine ⟨trivial,?_⟩;subst AC3;refine AOz<|Ag6<|AOr<|AOr<|Azz rfl (AOr<|Ahp rfl rfl (AOr ?_));obtain ⟨AC4,AC5,AC6⟩:=AOw AAf;have AC7:UpT (Ad ++ (Aa ++ [])) C3 C3:=UpT.start<|Aiv (Cp.o2 p4).notD<|Aiv (Cp.o2 p3).notD all_nil;refine Ahr (K':=(λxr h'=> ∃ x:(LiI) × (LiI),(x.1,x.2)=AC4/\xr= .tuple #[]/\Kst h h' ((Cp.L.set 4<|aO2 (cI .i64) 61 2 Ad Ce Cf Ab x.1).set 3 (aO2 (cI .i64) 61 2 Aa Ae Af Ac x.2))/\UpT (Ad ++ (Aa ++ [])) C3 h')) trivial rfl ?_ λAXi AXj AC8=>?_
        ·refine cwf (l:=[_,_,_,_]) Tryz.func39 rfl rfl (AOx<|AOv<|AOr<|Ah2 rfl (Ah1 Ah9 rfl (Aht Aia rfl ((Cp.b p5).cell (i:=3) rfl) (Ahw APa rfl (Cp.o2 p4).rd (AOr<|AOz<|AO0 ?_)))));obtain ⟨M8,AC9,ADa⟩:=AOw AC5;obtain ⟨ADb,ADc,ADd⟩:=Auf AC9;refine Aj4 4611686018427322624 (λx:(Int) × (LiI)=>[(16,(.int .i64 x.1))]) (λk x h'=>iter ADb k (x.1,x.2)=some M8/\Kst h h' (Cp.L.set 4<|aO2 (cI .i64) 61 2 Ad Ce Cf Ab x.2)/\UpT (Ad ++ (Aa ++ [])) C3 h') AO5 fuel ((0,AC1):(Int) × (LiI)) ?_ ⟨rfl,trivial⟩ ?_
         ·exact ⟨ADd,Cp,AC7⟩
         rintro AXk ⟨C7,M9⟩ AXl Hr ⟨ADe,Ap,Hs⟩;have AXm:=Hs.size;obtain ⟨ADf,AXn,rfl,Dx,Ht⟩:=Aq9 ADe;rw [ADc] at Dx;dsimp only at Dx;unfold Akq at Dx;refine AOv<|Aho rfl rfl (AOz<|AOx<|⟨_,rfl,λHu=>?_,λHu=>?_⟩)
         ·refine AO4<|q_t<|AOx<|AO0<|AOv<|AOr<|AO1<|Aiz (λh'=>UpT [] Hr h') AO5 ?_;have Bf:UpT [] Hr Hr:=UpT.start all_nil;refine AOr<|Ah2 rfl (Ah1 Ah9 rfl (Ahk Aia rfl Bf (λh' hb=>((Ap.b p5).ext hb.ext).cell (i:=3) rfl) (AOr ?_)));obtain ⟨ADg,B3,ADh⟩:=AOw<|Ahx Dx Hu;refine Aii APa rfl (Ap.o2 p4) rfl B3 λAXo AXp AXq ADi ADj=>Ahk Ahb rfl Bf (λh' hb=>AO8 ADj hb.ext) (AOr<|AOr<|Ah2 rfl (Ah1 Ah9 rfl (Ahk Aia rfl Bf (λh' hb=>((Ap.b p5).ext hb.ext).cell (i:=3) rfl) (AOr<|Aii APa rfl (Ap.o2 p4) rfl B3 λAXr AXs AXt ADk ADl=>Ahk Ahb rfl Bf (λh' hb=>AO8 ADl hb.ext) (AOr ?_)))));obtain ⟨AXu,Ei,ADm⟩:=AOw ADh;refine Ain (m:=C7) APd rfl (Ap.o2 p4) ADk B3 rfl Ei λAXv ADn=>?_;obtain ⟨AXw,ADo,ADp⟩:=(Ap.o2 p4).cells ADn B3 Ei;obtain rfl:=ADo;refine Ahk AO9 rfl Bf (λh' hb=>AO8 (ADp 0 _ rfl) hb.ext) (AOr<|AOr<|Ah2 rfl (Ah1 Ah9 rfl (Ahk Aia rfl Bf (λh' hb=>((Ap.b p5).ext hb.ext).cell (i:=3) rfl) (AOr<|Aii APa rfl (Ap.o2 p4) rfl B3 λAXx AXy AXz ADq ADr=>Ahk Ahb rfl Bf (λh' hb=>AO8 ADr hb.ext) (AOr ?_)))));obtain ⟨AX0,Na,ADs⟩:=AOw ADm;refine Ain (m:=C7) APd rfl (Ap.o2 p4) ADq B3 rfl Na λAX1 ADt=>?_;obtain ⟨AX2,ADu,ADv⟩:=(Ap.o2 p4).cells ADt B3 Na;obtain rfl:=ADu;refine Ahk AO9 rfl Bf (λh' hb=>AO8 (ADv 0 _ rfl) hb.ext) (Aok rfl rfl (AOr<|Ah2 rfl (Ah1 Al5 rfl (Ahk AO9 rfl Bf (λh' hb=>((Ap.b p5).ext hb.ext).cell (i:=1) rfl) ?_))));obtain ⟨ADw,ADx⟩:=ifN ADs;refine Ajh rfl rfl ADw (Ahp rfl rfl (AOr<|Ah2 rfl (Ah1 Al5 rfl (Ahk AO9 rfl Bf (λh' hb=>((Ap.b p5).ext hb.ext).cell (i:=1) rfl) ?_))));obtain ⟨Nb,ADy,ADz⟩:=AOw ADx;refine Aj1 Bf (λ_ E=>Bf.thenE E) rfl (Aij ADy) λAX3 AX4 Hv AD0=>?_;subst AD0;refine Ain (m:=C7) APd rfl (Ap.o2 p4) ADi B3 rfl Ei λAX5 AD1=>?_;have AX6:=Hv.1;have Nc:=Ap.e Hv;refine Aon (m:=C7) (Ame AO9 rfl rfl rfl) (Nc.o2 p4) AD1 B3 Ei (show ((cI .i64)).rep _ Nb _ from rfl) λAX7 AD2 Hw=>Ahh<|q_b<|q_t<|Ag6<|Ahp rfl rfl (AOr<|AOz ?_);have AX8:=Hw.size;obtain rfl:=AOu ADz;exact ⟨ADf,(((w64<|C7 + 1),(sI M9 C7<|sI ADg Ba Nb)):(Int) × (LiI)),Nat.lt_succ_self _,⟨Ht,(Nc.uO2 p4 Hw AD2),((Hs.thenE Hv).then Hw<|Am2 rfl)⟩,rfl,trivial⟩
         ·obtain rfl:=AOu<|Ahy Dx Hu;change _=M8 at Ht;subst Ht;refine Ahf<|Ahg<|Ahg<|Aim<|q_t<|AOx<|AOv<|AOr<|Ah2 rfl (Ah1 Ah9 rfl (Aht Aia rfl ((Ap.b p5).cell (i:=3) rfl) (Ahw APa rfl (Ap.o2 p4).rd (AOr<|AOz<|AO0 ?_))));obtain ⟨Nd,AD3,AD4⟩:=AOw ADa;obtain ⟨AD5,AD6,AD7⟩:=Auf AD3;refine Aj4 10384593717069507683108402982027776 (λx:(Int) × (LiI)=>[(67,(.int .i64 x.1))]) (λk x h'=>iter AD5 k (x.1,x.2)=some Nd/\Kst h h' (Ap.L.set 4<|aO2 (cI .i64) 61 2 Ad Ce Cf Ab x.2)/\UpT (Ad ++ (Aa ++ [])) C3 h') AO5 fuel ((0,M9):(Int) × (LiI)) ?_ ⟨rfl,trivial⟩ ?_
          ·exact ⟨AD7,Ap,Hs⟩
          rintro AX9 ⟨Nf,Ng⟩ AYa Hx ⟨AD8,Aq,Hy⟩;have AYb:=Hy.size;obtain ⟨AD9,AYc,rfl,Dy,Hz⟩:=Aq9 AD8;rw [AD6] at Dy;dsimp only at Dy;unfold Akp at Dy;refine AOv<|Aho rfl rfl (AOz<|AOx<|⟨_,rfl,λH5=>?_,λH5=>?_⟩)
          ·refine AO4<|q_t<|AOx<|AO0<|AOv<|AOr<|AO1<|Aiz (λh'=>UpT [] Hx h') AO5 ?_;have Bg:UpT [] Hx Hx:=UpT.start all_nil;refine AOr<|Ah2 rfl (Ah1 Ah9 rfl (Ahk Aia rfl Bg (λh' hb=>((Aq.b p5).ext hb.ext).cell (i:=3) rfl) (AOr ?_)));obtain ⟨AEa,C8,AEb⟩:=AOw<|Ahx Dy H5;refine Aii APa rfl (Aq.o2 p4) rfl C8 λAYd AYe AYf AEc AEd=>Ahk Ahb rfl Bg (λh' hb=>AO8 AEd hb.ext) (AOr<|AOr<|Ah2 rfl (Ah1 Ah9 rfl (Ahk Aia rfl Bg (λh' hb=>((Aq.b p5).ext hb.ext).cell (i:=3) rfl) (AOr<|Aii APa rfl (Aq.o2 p4) rfl C8 λAYg AYh AYi AEe AEf=>Ahk Ahb rfl Bg (λh' hb=>AO8 AEf hb.ext) (AOr ?_)))));obtain ⟨AYj,Ej,AEg⟩:=AOw AEb;refine Ain (m:=Ba) APd rfl (Aq.o2 p4) AEe C8 rfl Ej λAYk AEh=>?_;obtain ⟨AYl,AEi,AEj⟩:=(Aq.o2 p4).cells AEh C8 Ej;obtain rfl:=AEi;refine Ahk AO9 rfl Bg (λh' hb=>AO8 (AEj 0 _ rfl) hb.ext) (AOr<|AOr<|Ah2 rfl (Ah1 Ah9 rfl (Ahk Aia rfl Bg (λh' hb=>((Aq.b p5).ext hb.ext).cell (i:=3) rfl) (AOr ?_))));obtain ⟨AYm,Ia,AEk⟩:=AOw AEg;refine Aii APa rfl (Aq.o2 p4) rfl Ia λAYn AYo AYp AEl AEm=>Ahk Ahb rfl Bg (λh' hb=>AO8 AEm hb.ext) (AOr ?_);obtain ⟨AYq,Nh,AEn⟩:=AOw AEk;refine Ain (m:=(w64<|A9 + 1)) APd rfl (Aq.o2 p4) AEl Ia rfl Nh λAYr AEo=>?_;obtain ⟨AYs,AEp,AEq⟩:=(Aq.o2 p4).cells AEo Ia Nh;obtain rfl:=AEp;refine Ahk AO9 rfl Bg (λh' hb=>AO8 (AEq 0 _ rfl) hb.ext) (Aok rfl rfl (AOr<|Ah2 rfl (Ah1 Al5 rfl (Ahk AO9 rfl Bg (λh' hb=>((Aq.b p5).ext hb.ext).cell (i:=1) rfl) ?_))));obtain ⟨AEr,AEs⟩:=ifN AEn;refine Ajh rfl rfl AEr (Ahp rfl rfl (AOr<|Ah2 rfl (Ah1 Al5 rfl (Ahk AO9 rfl Bg (λh' hb=>((Aq.b p5).ext hb.ext).cell (i:=1) rfl) ?_))));obtain ⟨Ni,AEt,AEu⟩:=AOw AEs;refine Aj1 Bg (λ_ E=>Bg.thenE E) rfl (Aij AEt) λAYt AYu Ib AEv=>?_;subst AEv;refine Ain (m:=Ba) APd rfl (Aq.o2 p4) AEc C8 rfl Ej λAYv AEw=>?_;have AYw:=Ib.1;have Nj:=Aq.e Ib;refine Aon (m:=Ba) (Ame AO9 rfl rfl rfl) (Nj.o2 p4) AEw C8 Ej (show ((cI .i64)).rep _ Ni _ from rfl) λAYx AEx Ic=>Ahh<|q_b<|q_t<|Ag6<|Ahp rfl rfl (AOr<|AOz ?_);have AYy:=Ic.size;obtain rfl:=AOu AEu;exact ⟨AD9,(((w64<|Nf + 1),(sI Ng Ba<|sI AEa Nf Ni)):(Int) × (LiI)),Nat.lt_succ_self _,⟨Hz,(Nj.uO2 p4 Ic AEx),((Hy.thenE Ib).then Ic<|Am2 rfl)⟩,rfl,trivial⟩
          ·obtain rfl:=AOu<|Ahy Dy H5;change _=Nd at Hz;subst Hz;refine Ahf<|Ahg<|Ahg<|Aim<|q_t<|AOv<|AOr<|Ah2 rfl (Ah1 Ala rfl (Aht Aia rfl ((Aq.b p5).cell (i:=4) rfl) (Ahw APa rfl (Aq.o2 p3).rd (AOr<|AOz<|AO0 ?_))));obtain ⟨Nk,AEy,AEz⟩:=AOw AD4;obtain ⟨AE0,AE1,AE2⟩:=Auf AEy;refine Aj4 23384026197294114384260011094492302362729850602496 (λx:(Int) × (LiI)=>[(118,(.int .i64 x.1))]) (λk x h'=>iter AE0 k (x.1,x.2)=some Nk/\Kst h h' (Aq.L.set 3<|aO2 (cI .i64) 61 2 Aa Ae Af Ac x.2)/\UpT (Ad ++ (Aa ++ [])) C3 h') AO5 fuel ((0,AC2):(Int) × (LiI)) ?_ ⟨rfl,trivial⟩ ?_
           ·exact ⟨AE2,Aq,Hy⟩
           rintro AYz ⟨C9,Nl⟩ AY0 Id ⟨AE3,A3,Ie⟩;have AY1:=Ie.size;obtain ⟨AE4,AY2,rfl,Dz,If⟩:=Aq9 AE3;rw [AE1] at Dz;dsimp only at Dz;unfold Ako at Dz;refine AOv<|Aho rfl rfl (AOz<|AOx<|⟨_,rfl,λIh=>?_,λIh=>?_⟩)
           ·refine AO4<|q_t<|AOx<|AO0<|AOv<|AOr<|AO1<|Aiz (λh'=>UpT [] Id h') AO5 ?_;have Bh:UpT [] Id Id:=UpT.start all_nil;refine AOr<|Ah2 rfl (Ah1 Ala rfl (Ahk Aia rfl Bh (λh' hb=>((A3.b p5).ext hb.ext).cell (i:=4) rfl) (AOr ?_)));obtain ⟨AE5,B4,AE6⟩:=AOw<|Ahx Dz Ih;refine Aii APa rfl (A3.o2 p3) rfl B4 λAY3 AY4 AY5 AE7 AE8=>Ahk Ahb rfl Bh (λh' hb=>AO8 AE8 hb.ext) (AOr<|AOr<|Ah2 rfl (Ah1 Ala rfl (Ahk Aia rfl Bh (λh' hb=>((A3.b p5).ext hb.ext).cell (i:=4) rfl) (AOr<|Aii APa rfl (A3.o2 p3) rfl B4 λAY6 AY7 AY8 AE9 AFa=>Ahk Ahb rfl Bh (λh' hb=>AO8 AFa hb.ext) (AOr ?_)))));obtain ⟨AY9,Ek,AFb⟩:=AOw AE6;refine Ain (m:=C9) APd rfl (A3.o2 p3) AE9 B4 rfl Ek λAZa AFc=>?_;obtain ⟨AZb,AFd,AFe⟩:=(A3.o2 p3).cells AFc B4 Ek;obtain rfl:=AFd;refine Ahk AO9 rfl Bh (λh' hb=>AO8 (AFe 0 _ rfl) hb.ext) (AOr<|AOr<|Ah2 rfl (Ah1 Ala rfl (Ahk Aia rfl Bh (λh' hb=>((A3.b p5).ext hb.ext).cell (i:=4) rfl) (AOr<|Aii APa rfl (A3.o2 p3) rfl B4 λAZc AZd AZe AFf AFg=>Ahk Ahb rfl Bh (λh' hb=>AO8 AFg hb.ext) (AOr ?_)))));obtain ⟨AZf,Nm,AFh⟩:=AOw AFb;refine Ain (m:=C9) APd rfl (A3.o2 p3) AFf B4 rfl Nm λAZg AFi=>?_;obtain ⟨AZh,AFj,AFk⟩:=(A3.o2 p3).cells AFi B4 Nm;obtain rfl:=AFj;refine Ahk AO9 rfl Bh (λh' hb=>AO8 (AFk 0 _ rfl) hb.ext) (Aok rfl rfl (AOr<|Ah2 rfl (Ah1 Al5 rfl (Ahk AO9 rfl Bh (λh' hb=>((A3.b p5).ext hb.ext).cell (i:=1) rfl) ?_))));obtain ⟨AFl,AFm⟩:=ifN AFh;refine Ajh rfl rfl AFl (Ahp rfl rfl (AOr<|Ah2 rfl (Ah1 Al5 rfl (Ahk AO9 rfl Bh (λh' hb=>((A3.b p5).ext hb.ext).cell (i:=1) rfl) ?_))));obtain ⟨Nn,AFn,AFo⟩:=AOw AFm;refine Aj1 Bh (λ_ E=>Bh.thenE E) rfl (Aij AFn) λAZi AZj Ii AFp=>?_;subst AFp;refine Ain (m:=C9) APd rfl (A3.o2 p3) AE7 B4 rfl Ek λAZk AFq=>?_;have AZl:=Ii.1;have Np:=A3.e Ii;refine Aon (m:=C9) (Ame AO9 rfl rfl rfl) (Np.o2 p3) AFq B4 Ek (show ((cI .i64)).rep _ Nn _ from rfl) λAZm AFr Ij=>Ahh<|q_b<|q_t<|Ag6<|Ahp rfl rfl (AOr<|AOz ?_);have AZn:=Ij.size;obtain rfl:=AOu AFo;exact ⟨AE4,(((w64<|C9 + 1),(sI Nl C9<|sI AE5 Ba Nn)):(Int) × (LiI)),Nat.lt_succ_self _,⟨If,(Np.uO2 p3 Ij AFr),((Ie.thenE Ii).then Ij<|A1k<|Am2 rfl)⟩,rfl,trivial⟩
           ·obtain rfl:=AOu<|Ahy Dz Ih;change _=Nk at If;subst If;refine Ahf<|Ahg<|Ahg<|Aim<|⟨_,Avn,((Ng,Nl):(LiI) × (LiI)),?_,rfl,?_,?_⟩
            ·exact AOu AEz
            ·exact A3
            ·exact Ie
        obtain ⟨⟨AFs,AFt⟩,AFu,rfl,AFv,Nq⟩:=AC8;have AZo:=Nq.size;refine ⟨trivial,?_⟩;subst AFu;refine Ahh<|q_b<|q_t<|Ag6<|AOr<|Ahp rfl rfl (AO1 ?_);obtain rfl:=AOu AC6;exact ⟨Y1,(((w64<|Ba + 1),AFs,AFt):(Int) × (LiI) × (LiI)),Nat.lt_succ_self _,⟨Gw,AFv,((((Gv.thenE G3).thenE G4).then M7<|Aiv (Am2 rfl)<|Aiv (A1k<|Am2 rfl) all_nil).then Nq<|Aiv (Am2 rfl)<|Aiv (A1k<|Am2 rfl) all_nil)⟩,rfl,trivial⟩
       ·obtain rfl:=AOu<|Ahy Dt Gx;change _=Mk at Gw;subst Gw;refine Ahf<|Ahg<|Ahg<|Aim<|q_t<|AOv<|AOr<|AOr<|AOr<|AOr<|Akh (v:=(.agg #[(.int .i64 Gm),(.int .i64 2),(.int .i64<|w64<|Int.tdiv Gp By),(.int .i64<|w64<|Int.tdiv Gj By),(.int .i64<|w64<|Int.tdiv Gr By)])) (λ_=>by kernel_rfl)<|Ai5 [(.int .i64 Gm),(.int .i64 2),(.int .i64<|w64<|Int.tdiv Gp By),(.int .i64<|w64<|Int.tdiv Gj By),(.int .i64<|w64<|Int.tdiv Gr By)] Atw rfl rfl rfl rfl (by simp [isOne]) (A8.b p0) λAZp Nr Ik=>AOz<|AO6 ?_;have AZq:=Ik.1;have Ns:=A8.sb p0 Ik Nr rfl;refine ⟨_,Ai1 Atw rfl rfl (Ns.b p0),((Gm,2,(w64<|Int.tdiv Gp By),(w64<|Int.tdiv Gj By),(w64<|Int.tdiv Gr By),Ml,Mm):(Int) × (Int) × (Int) × (Int) × (Int) × (LiI) × (LiI)),?_,rfl,?_,?_⟩
        ·exact AOu Yv
        ·exact Ns.sel [1,2,3,4,5,6] AOs
        ·exact (Gv.then (Nr.stA Ik (Anl (A8.b p0) rfl) rfl)<|BDb W6 AOq)
      obtain ⟨⟨Nt,Nu,Nv,Nw,Ny,AZr,AZs⟩,AFw,rfl,Nz,N0⟩:=W4;have AZt:=N0.size;have Il:=Gg.then N0<|Aiv (A1k<|Am2 rfl)<|Aiv (A1k<|A1k<|Am2 rfl) all_nil;refine ⟨Il,?_⟩;subst AFw;obtain ⟨AFx,AFy⟩:=ifN W1;refine Ar3 Asz Axm rfl rfl Il (λ_ U=>Il.then U<|Am2 rfl) (λ_=>rfl) rfl (show (Ar1).rep _ (Nt,Nu,Nv,Nw,Ny) [(.int .i64 Nt),(.int .i64 Nu),(.int .i64 Nv),(.int .i64 Nw),(.int .i64 Ny)] from rfl) (Nz.o p0) AOs AFx λAZu AZv AFz AZw AF0 N3 AF1=>Ah1 Anw rfl ?_;have AZx:=N3.size;have Im:=Nz.uo p0 N3 AF0 AF1;refine Au6 [(.int .i64 a5),(.slice none 0 0),AFz] At1 rfl rfl (Im.o p0).isOne (Im.b p1) (Nat.le_of_ble_eq_true rfl) rfl λAZy AF2 N4=>Apu<|AOr<|Ahp rfl rfl (AO1 ?_);have AZz:=N4.1;obtain rfl:=AOu AFy;refine Ahf<|Ahg<|Aim<|q_t ?_;exact ⟨(_,_,_,_,_,_,_,_,_),(AOu Lo).symm,(Im.sb p1 N4 AF2 rfl),rfl,trivial⟩
     ·refine AO4<|q_t ?_;exact ⟨((A9,Kk,Fc,Fd,Fe,Kl,Km,Dk,Ec):(Int) × (LiI) × LnA × LnN × LvA × (LiI) × ((List Alq)) × (Value) × LnA),⟨AOu<|Ahy Lq Gb,Ca⟩,rfl,trivial⟩
    ·rw [decide_eq_false Ed];refine Aol 69 false<|APb rfl (AOz<|Ahs rfl (AO4<|q_t ?_));exact ⟨((A9,Kk,Fc,Fd,Fe,Kl,Km,Dk,Ec):(Int) × (LiI) × LnA × LnN × LvA × (LiI) × ((List Alq)) × (Value) × LnA),⟨AOu<|ifF Lm Ed,Ca⟩,rfl,trivial⟩
   rintro ⟨Cq,AF3,D0,D1,D2,AF4,AZ0,AZ1,N5⟩ AZ2 AZ3 ⟨AF5,Cr⟩;subst AF5;obtain ⟨AF6,N6,AF7⟩:=AOw Lo;refine Aqt 628873539956973179648755105792 (λx:(LiI) × (LiI)=>[]) (λx h'=>( (x.1,x.2))=AF6/\Kst h h' ((Cr.L.set 3<|aO2 (cI .i64) 61 2 D0 D1 D2 Ab x.1).set 2 (aO2 (cI .i64) 61 2 Aa Ae Af Ac x.2))) ?_ ?_
   ·refine AOv<|AOr<|AOr<|Ajq rfl rfl (AOz<|⟨_,rfl,λIo=>?_,λIo=>?_⟩)
    ·refine Ag6<|AOr<|AOr<|AOr ?_;obtain ⟨AF8,AF9,AGa⟩:=AOw<|Ahx N6 Io;refine Ahr (K':=(λxr h'=> ∃ x:(LiI) × (LiI),(x.1,x.2)=AF8/\xr= .tuple #[]/\Kst h h' ((Cr.L.set 3<|aO2 (cI .i64) 61 2 D0 D1 D2 Ab x.1).set 2 (aO2 (cI .i64) 61 2 Aa Ae Af Ac x.2)))) trivial rfl ?_ λAZ4 AZ5 AGb=>?_
     ·refine cwf (l:=[_,_,_,_]) Tryz.func39 rfl rfl (AOx<|AOv<|AOr<|Ah2 rfl (Ajl Ah9 Aia (Cr.b p4) 3 rfl (Ahw APa rfl (Cr.o2 p3).rd (AOr<|AOz<|AO0<|Aqu 4611686018427322624 AF9 (λx=>[(16,(.int .i64 x.1))]) (λx=>Cr.L.set 3<|aO2 (cI .i64) 61 2 D0 D1 D2 Ab x.2) Cr ⟨rfl,trivial⟩ ?_))));rintro ⟨El,AZ6⟩ AZ7 Ip AZ8 Ar Iq AGc;unfold Aku at Iq;refine AOv<|Aho rfl rfl (AOz<|AOx<|⟨_,rfl,λIr=>?_,λIr=>?_⟩)
      ·refine AO4<|q_t<|AOx<|AO0<|AOv<|AOr<|AO1<|Aiz (λh'=>UpT [] Ip h') AO5 ?_;have Bq:UpT [] Ip Ip:=UpT.start all_nil;refine AOr<|Ah2 rfl (Ah1 Ah9 rfl (Ahk Aia rfl Bq (λh' hb=>((Ar.b p4).ext hb.ext).cell (i:=3) rfl) (AOr ?_)));obtain ⟨AZ9,B5,AGd⟩:=AOw<|Ahx Iq Ir;refine Aii APa rfl (Ar.o2 p3) rfl B5 λAaa Aab Aac AGe AGf=>Ahk Ahb rfl Bq (λh' hb=>AO8 AGf hb.ext) (AOr<|AOr<|Ah2 rfl (Ah1 Ah9 rfl (Ahk Aia rfl Bq (λh' hb=>((Ar.b p4).ext hb.ext).cell (i:=3) rfl) (AOr<|Aii APa rfl (Ar.o2 p3) rfl B5 λAad Aae Aaf AGg AGh=>Ahk Ahb rfl Bq (λh' hb=>AO8 AGh hb.ext) (AOr ?_)))));obtain ⟨Aag,Em,AGi⟩:=AOw AGd;refine Ain (m:=El) APd rfl (Ar.o2 p3) AGg B5 rfl Em λAah AGj=>?_;obtain ⟨Aai,AGk,AGl⟩:=(Ar.o2 p3).cells AGj B5 Em;obtain rfl:=AGk;refine Ahk AO9 rfl Bq (λh' hb=>AO8 (AGl 0 _ rfl) hb.ext) (AOr<|AOr<|Ah2 rfl (Ah1 Ah9 rfl (Ahk Aia rfl Bq (λh' hb=>((Ar.b p4).ext hb.ext).cell (i:=3) rfl) (AOr<|Aii APa rfl (Ar.o2 p3) rfl B5 λAaj Aak Aal AGm AGn=>Ahk Ahb rfl Bq (λh' hb=>AO8 AGn hb.ext) (AOr ?_)))));obtain ⟨Aam,N7,AGo⟩:=AOw AGi;refine Ain (m:=El) APd rfl (Ar.o2 p3) AGm B5 rfl N7 λAan AGp=>?_;obtain ⟨Aao,AGq,AGr⟩:=(Ar.o2 p3).cells AGp B5 N7;obtain rfl:=AGq;refine Ahk AO9 rfl Bq (λh' hb=>AO8 (AGr 0 _ rfl) hb.ext) (Aok rfl rfl (AOr<|Ah2 rfl (Ah1 Al5 rfl (Ahk AO9 rfl Bq (λh' hb=>((Ar.b p4).ext hb.ext).cell (i:=1) rfl) ?_))));obtain ⟨AGs,AGt⟩:=ifN AGo;refine Ajh rfl rfl AGs (Ahp rfl rfl (AOr<|Ah2 rfl (Ah1 Al5 rfl (Ahk AO9 rfl Bq (λh' hb=>((Ar.b p4).ext hb.ext).cell (i:=1) rfl) ?_))));obtain ⟨AGu,AGv,AGw⟩:=AOw AGt;refine A1m Ar Bq (Aij AGv) λAap Aaq N8 Aar=>Ain (m:=El) APd rfl (Ar.o2 p3) AGe B5 rfl Em λAas AGx=>Aon (m:=El) (Ame AO9 rfl rfl rfl) (N8.o2 p3) AGx B5 Em (show ((cI .i64)).rep _ AGu _ from rfl) λAat AGy N9=>Ahh<|q_b<|q_t<|Ag6<|Ahp rfl rfl (AOr<|AOz ?_);have Aau:=N9.size;exact ⟨_,(AOu AGw).symm,(N8.uO2 p3 N9 AGy),rfl,trivial⟩
      ·refine Ahf<|Ahg<|Ahg<|Aim<|q_t<|AOx<|AOv<|AOr<|Ah2 rfl (Ajl Ah9 Aia (Ar.b p4) 3 rfl (Ahw APa rfl (Ar.o2 p3).rd (AOr<|AOz<|AO0<|Aqu 10384593717069507683108402982027776 (AGc _ (AOu<|Ahy Iq Ir).symm) (λx=>[(67,(.int .i64 x.1))]) (λx=>Ar.L.set 3<|aO2 (cI .i64) 61 2 D0 D1 D2 Ab x.2) Ar ⟨rfl,trivial⟩ ?_)));rintro ⟨Aav,AGz⟩ Aaw Is Aax Au It AG0;unfold Akt at It;refine AOv<|Aho rfl rfl (AOz<|AOx<|⟨_,rfl,λIu=>?_,λIu=>?_⟩)
       ·refine AO4<|q_t<|AOx<|AO0<|AOv<|AOr<|AO1<|Aiz (λh'=>UpT [] Is h') AO5 ?_;have Br:UpT [] Is Is:=UpT.start all_nil;refine AOr<|Ah2 rfl (Ah1 Ah9 rfl (Ahk Aia rfl Br (λh' hb=>((Au.b p4).ext hb.ext).cell (i:=3) rfl) (AOr ?_)));obtain ⟨Aay,Da,AG1⟩:=AOw<|Ahx It Iu;refine Aii APa rfl (Au.o2 p3) rfl Da λAaz Aa0 Aa1 AG2 AG3=>Ahk Ahb rfl Br (λh' hb=>AO8 AG3 hb.ext) (AOr<|AOr<|Ah2 rfl (Ah1 Ah9 rfl (Ahk Aia rfl Br (λh' hb=>((Au.b p4).ext hb.ext).cell (i:=3) rfl) (AOr<|Aii APa rfl (Au.o2 p3) rfl Da λAa2 Aa3 Aa4 AG4 AG5=>Ahk Ahb rfl Br (λh' hb=>AO8 AG5 hb.ext) (AOr ?_)))));obtain ⟨Aa5,En,AG6⟩:=AOw AG1;refine Ain (m:=C1) APd rfl (Au.o2 p3) AG4 Da rfl En λAa6 AG7=>?_;obtain ⟨Aa7,AG8,AG9⟩:=(Au.o2 p3).cells AG7 Da En;obtain rfl:=AG8;refine Ahk AO9 rfl Br (λh' hb=>AO8 (AG9 0 _ rfl) hb.ext) (AOr<|AOr<|Ah2 rfl (Ah1 Ah9 rfl (Ahk Aia rfl Br (λh' hb=>((Au.b p4).ext hb.ext).cell (i:=3) rfl) (AOr ?_))));obtain ⟨Aa8,Iv,AHa⟩:=AOw AG6;refine Aii APa rfl (Au.o2 p3) rfl Iv λAa9 Aba Abb AHb AHc=>Ahk Ahb rfl Br (λh' hb=>AO8 AHc hb.ext) (AOr ?_);obtain ⟨Abc,Oa,AHd⟩:=AOw AHa;refine Ain (m:=Ga) APd rfl (Au.o2 p3) AHb Iv rfl Oa λAbd AHe=>?_;obtain ⟨Abe,AHf,AHg⟩:=(Au.o2 p3).cells AHe Iv Oa;obtain rfl:=AHf;refine Ahk AO9 rfl Br (λh' hb=>AO8 (AHg 0 _ rfl) hb.ext) (Aok rfl rfl (AOr<|Ah2 rfl (Ah1 Al5 rfl (Ahk AO9 rfl Br (λh' hb=>((Au.b p4).ext hb.ext).cell (i:=1) rfl) ?_))));obtain ⟨AHh,AHi⟩:=ifN AHd;refine Ajh rfl rfl AHh (Ahp rfl rfl (AOr<|Ah2 rfl (Ah1 Al5 rfl (Ahk AO9 rfl Br (λh' hb=>((Au.b p4).ext hb.ext).cell (i:=1) rfl) ?_))));obtain ⟨AHj,AHk,AHl⟩:=AOw AHi;refine A1m Au Br (Aij AHk) λAbf Abg Ob Abh=>Ain (m:=C1) APd rfl (Au.o2 p3) AG2 Da rfl En λAbi AHm=>Aon (m:=C1) (Ame AO9 rfl rfl rfl) (Ob.o2 p3) AHm Da En (show ((cI .i64)).rep _ AHj _ from rfl) λAbj AHn Oc=>Ahh<|q_b<|q_t<|Ag6<|Ahp rfl rfl (AOr<|AOz ?_);have Abk:=Oc.size;exact ⟨_,(AOu AHl).symm,(Ob.uO2 p3 Oc AHn),rfl,trivial⟩
       ·refine Ahf<|Ahg<|Ahg<|Aim<|q_t<|AOv<|AOr<|Ah2 rfl (Ajl Ala Aia (Au.b p4) 4 rfl (Ahw APa rfl (Au.o2 p2).rd (AOr<|AOz<|AO0<|Aqu 23384026197294114384260011094492302362729850602496 (AG0 _ (AOu<|Ahy It Iu).symm) (λx=>[(118,(.int .i64 x.1))]) (λx=>Au.L.set 2<|aO2 (cI .i64) 61 2 Aa Ae Af Ac x.2) Au ⟨rfl,trivial⟩ ?_)));rintro ⟨Eo,AHo⟩ Abl Iw Abm A4 Ix AHp;unfold Aks at Ix;refine AOv<|Aho rfl rfl (AOz<|AOx<|⟨_,rfl,λIy=>?_,λIy=>?_⟩)
        ·refine AO4<|q_t<|AOx<|AO0<|AOv<|AOr<|AO1<|Aiz (λh'=>UpT [] Iw h') AO5 ?_;have Bt:UpT [] Iw Iw:=UpT.start all_nil;refine AOr<|Ah2 rfl (Ah1 Ala rfl (Ahk Aia rfl Bt (λh' hb=>((A4.b p4).ext hb.ext).cell (i:=4) rfl) (AOr ?_)));obtain ⟨Abn,B6,AHq⟩:=AOw<|Ahx Ix Iy;refine Aii APa rfl (A4.o2 p2) rfl B6 λAbo Abp Abq AHr AHs=>Ahk Ahb rfl Bt (λh' hb=>AO8 AHs hb.ext) (AOr<|AOr<|Ah2 rfl (Ah1 Ala rfl (Ahk Aia rfl Bt (λh' hb=>((A4.b p4).ext hb.ext).cell (i:=4) rfl) (AOr<|Aii APa rfl (A4.o2 p2) rfl B6 λAbr Abt Abu AHt AHu=>Ahk Ahb rfl Bt (λh' hb=>AO8 AHu hb.ext) (AOr ?_)))));obtain ⟨Abv,Ep,AHv⟩:=AOw AHq;refine Ain (m:=Eo) APd rfl (A4.o2 p2) AHt B6 rfl Ep λAbw AHw=>?_;obtain ⟨Abx,AHx,AHy⟩:=(A4.o2 p2).cells AHw B6 Ep;obtain rfl:=AHx;refine Ahk AO9 rfl Bt (λh' hb=>AO8 (AHy 0 _ rfl) hb.ext) (AOr<|AOr<|Ah2 rfl (Ah1 Ala rfl (Ahk Aia rfl Bt (λh' hb=>((A4.b p4).ext hb.ext).cell (i:=4) rfl) (AOr<|Aii APa rfl (A4.o2 p2) rfl B6 λAby Abz Ab0 AHz AH0=>Ahk Ahb rfl Bt (λh' hb=>AO8 AH0 hb.ext) (AOr ?_)))));obtain ⟨Ab1,Od,AH1⟩:=AOw AHv;refine Ain (m:=Eo) APd rfl (A4.o2 p2) AHz B6 rfl Od λAb2 AH2=>?_;obtain ⟨Ab3,AH3,AH4⟩:=(A4.o2 p2).cells AH2 B6 Od;obtain rfl:=AH3;refine Ahk AO9 rfl Bt (λh' hb=>AO8 (AH4 0 _ rfl) hb.ext) (Aok rfl rfl (AOr<|Ah2 rfl (Ah1 Al5 rfl (Ahk AO9 rfl Bt (λh' hb=>((A4.b p4).ext hb.ext).cell (i:=1) rfl) ?_))));obtain ⟨AH5,AH6⟩:=ifN AH1;refine Ajh rfl rfl AH5 (Ahp rfl rfl (AOr<|Ah2 rfl (Ah1 Al5 rfl (Ahk AO9 rfl Bt (λh' hb=>((A4.b p4).ext hb.ext).cell (i:=1) rfl) ?_))));obtain ⟨AH7,AH8,AH9⟩:=AOw AH6;refine A1m A4 Bt (Aij AH8) λAb4 Ab5 Oe Ab6=>Ain (m:=Eo) APd rfl (A4.o2 p2) AHr B6 rfl Ep λAb7 AIa=>Aon (m:=Eo) (Ame AO9 rfl rfl rfl) (Oe.o2 p2) AIa B6 Ep (show ((cI .i64)).rep _ AH7 _ from rfl) λAb8 AIb Og=>Ahh<|q_b<|q_t<|Ag6<|Ahp rfl rfl (AOr<|AOz ?_);have Ab9:=Og.size;exact ⟨_,(AOu AH9).symm,(Oe.uO2 p2 Og AIb),rfl,trivial⟩
        ·refine Ahf<|Ahg<|Ahg<|Aim<|⟨_,Avn,((AGz,AHo):(LiI) × (LiI)),?_,rfl,?_⟩
         ·exact AOu<|AHp _ (AOu<|Ahy Ix Iy).symm
         ·exact A4
     obtain ⟨⟨AIc,AId⟩,AIe,rfl,AIf⟩:=AGb;refine ⟨trivial,?_⟩;subst AIe;refine AOz ?_;exact ⟨((AIc,AId):(LiI) × (LiI)),⟨AOu AGa,AIf⟩,trivial⟩
    ·refine AO4<|q_t ?_;exact ⟨((AF3,AF4):(LiI) × (LiI)),⟨AOu<|Ahy N6 Io,Cr⟩,trivial⟩
   rintro ⟨Aca,Acb⟩ Acc Acd ⟨AIg,D3⟩;subst AIg;refine AOv<|AOr<|AOr<|AOr ?_;obtain ⟨AIh,AIi,AIj⟩:=AOw AF7;refine Ahr (K':=(λxr h'=> ∃ x:(LiI) × LnA × LnN × LvA × (LiI),(x.1,x.2.2.2.2)=AIh/\xr= .tuple #[]/\Kst h h' ((D3.L.set 3<|aO2 (cI .i64) 61 2 x.2.1 x.2.2.1 x.2.2.2.1 Ab x.1).set 2 (aO2 (cI .i64) 61 2 Aa Ae Af Ac x.2.2.2.2)))) trivial rfl ?_ λAce Ct AIk=>?_
   ·refine cwf (l:=[_,_,_]) Tryz.func37 rfl rfl (AOx<|AOv<|AOr<|Ah2 rfl (Ajl Ah9 Aia (D3.b p4) 3 rfl (Ahw APa rfl (D3.o2 p3).rd (AOr<|AOz<|AO0<|Aqu 4951760157141521099596492864 AIi (λx=>[(12,(.int .i64 x.1))]) (λx=>(D3.L.set 3<|aO2 (cI .i64) 61 2 D0 D1 D2 Ab x.2.1).set 2 (aO2 (cI .i64) 61 2 Aa Ae Af Ac x.2.2)) D3 ⟨rfl,trivial⟩ ?_))));rintro ⟨Cg,AIl,AIm⟩ Acf Acg Ach Aj Iz AIn;unfold Akv at Iz;refine AOv<|Aho rfl rfl (AOz<|AOx<|⟨_,rfl,λI0=>?_,λI0=>?_⟩)
    ·refine AO4<|q_t<|AOx<|AO0<|AOv<|AOr<|AO1<|AOx<|Ana<|AOr<|Ah2 rfl (Ajl Ah9 Aia (Aj.b p4) 3 rfl (AOr ?_));obtain ⟨Aci,Cu,AIo⟩:=AOw<|Ahx Iz I0;refine Ai2 APa Ahb (Aj.o2 p3) Cu λ_ Acj AIp=>AOr<|AOr<|Ah2 rfl (Ajl Ah9 Aia (Aj.b p4) 3 rfl (AOr<|Ai2 APa Ahb (Aj.o2 p3) Cu λ_ Ack AIq=>AOr<|AOr<|Ah2 rfl (Ajl Ah9 Aia (Aj.b p4) 3 rfl (AOr<|Ai2 APa Ahb (Aj.o2 p3) Cu λ_ Acl AIr=>AOr ?_))));obtain ⟨Acm,AIs,AIt⟩:=AOw AIo;refine At4 (m:=Cg) APd AO9 (Aj.o2 p3) AIr Cu AIs λ_=>(AOr<|Ah2 rfl (Ajl Ah9 Aia (Aj.b p4) 3 rfl (AOr<|Ai2 APa Ahb (Aj.o2 p3) Cu λ_ Acn AIu=>AOr ?_)));obtain ⟨Aco,Oh,AIv⟩:=AOw AIt;refine At4 (m:=Cg) APd AO9 (Aj.o2 p3) AIu Cu Oh λ_=>As1 (m:=Cg) Aj p3 APd AO9 AIp Cu Oh (λ_=>rfl) λ_ Acp AIw=>?_;obtain ⟨Acq,AIx,AIy⟩:=AOw AIv;obtain ⟨Acr,AIz,AI0⟩:=AOw AIy;refine As1 (m:=Cg) AIw p3 APd AO9 AIq AIx AIz (λ_=>rfl) λ_ Acs Bu=>AOz<|Ana<|AOr<|Ah2 rfl (Ajl Ala Aia (Bu.b p4) 4 rfl (AOr ?_));obtain ⟨Acu,Cv,AI1⟩:=AOw AI0;refine Ai2 APa Ahb (Bu.o2 p2) Cv λ_ Acv AI2=>AOr<|AOr<|Ah2 rfl (Ajl Ala Aia (Bu.b p4) 4 rfl (AOr<|Ai2 APa Ahb (Bu.o2 p2) Cv λ_ Acw AI3=>AOr<|AOr<|Ah2 rfl (Ajl Ala Aia (Bu.b p4) 4 rfl (AOr<|Ai2 APa Ahb (Bu.o2 p2) Cv λ_ Acx AI4=>AOr ?_))));obtain ⟨Acy,AI5,AI6⟩:=AOw AI1;refine At4 (m:=Cg) APd AO9 (Bu.o2 p2) AI4 Cv AI5 λ_=>(AOr<|Ah2 rfl (Ajl Ala Aia (Bu.b p4) 4 rfl (AOr<|Ai2 APa Ahb (Bu.o2 p2) Cv λ_ Acz AI7=>AOr ?_)));obtain ⟨Ac0,Oi,AI8⟩:=AOw AI6;refine At4 (m:=Cg) APd AO9 (Bu.o2 p2) AI7 Cv Oi λ_=>As1 (m:=Cg) Bu p2 APd AO9 AI2 Cv Oi (λ_=>rfl) λ_ Ac1 AI9=>?_;obtain ⟨Ac2,AJa,AJb⟩:=AOw AI8;obtain ⟨Ac3,AJc,AJd⟩:=AOw AJb;refine As1 (m:=Cg) AI9 p2 APd AO9 AI3 AJa AJc (λ_=>rfl) λ_ Ac4 AJe=>Ahh<|q_b<|q_t<|Ag6<|Ahp rfl rfl (AOr<|AOz ?_);exact ⟨_,(AOu AJd).symm,AJe,rfl,trivial⟩
    ·refine Ahf<|Ahg<|Ahg<|Aim<|q_t<|Ana<|AOr<|Ah2 rfl (Ajl Ah9 Aia (Aj.b p4) 3 rfl (AOr<|AOr<|Ah2 rfl (Ajl Ah9 Aia (Aj.b p4) 3 rfl (AOr<|AOr<|Ah2 rfl (Ajl Ah9 Aia (Aj.b p4) 3 rfl (AOr ?_))))));obtain ⟨AJf,Oj,AJg⟩:=AOw<|AIn _ (AOu<|Ahy Iz I0).symm;refine Ai2 APa Ahb (Aj.o2 p3) Oj λ_ Ac5 AJh=>AOr<|Ah2 rfl (Ajl Ah9 Aia (Aj.b p4) 3 rfl (AOr ?_));obtain ⟨AJi,Ol,AJj⟩:=AOw AJg;refine Ai2 APa Ahb (Aj.o2 p3) Ol λ_ Ac6 AJk=>Avk APa Ahb (Aj.o2 p3) AJk AJh Ol Oj rfl rfl (λ_=>rfl) (λ_=>rfl) (λ_=>rfl) (λ_ _=>rfl) λAc7 Ac8 AJl AJm AJn Ac9 AJo AJp AJq=>Ahh<|⟨_,Avn,(((sI (sI AIl Cq AJf) C1 AJi),AJl,AJm,AJn,AIm):(LiI) × LnA × LnN × LvA × (LiI)),?_,rfl,?_⟩
     ·exact AOu AJj
     ·exact (Aj.uo2 p3 AJp AJo AJq)
   obtain ⟨⟨AJr,A5,D4,D5,AJs⟩,AJt,rfl,Bv⟩:=AIk;refine ⟨trivial,?_⟩;subst AJt;refine AOz<|AOx<|Aiz (λh'=>UpT (N5 ++ (A5 ++ (Aa ++ []))) Ct h') AO5 ?_;have I1:UpT (N5 ++ (A5 ++ (Aa ++ []))) Ct Ct:=UpT.start<|Aiv (Bv.o p0).notD<|Aiv (Bv.o2 p3).notD<|Aiv (Bv.o2 p2).notD all_nil;refine Ah1 Anw rfl (Ahk At1 rfl I1 (λh' hb=>((Bv.b p1).upT hb (A18 (Bv.dj p1 p0 AOs)<|A18 (Bv.dj p1 p3 AOs)<|A18 (Bv.dj p1 p2 AOs) A9x)).cell (i:=2) rfl) (AOr<|AOr ?_));obtain ⟨AJu,AJv,AJw⟩:=AOw AIj;have AJx:UpT (A5 ++ (Aa ++ [])) Ct Ct:=UpT.start<|Aiv (Bv.o2 p3).notD<|Aiv (Bv.o2 p2).notD all_nil;refine Ahr (K':=(λxr h'=> ∃ x:(Int) × (Int) × (Int) × (Int) × (Int) × (LiI) × (LiI),(x.1,x.2.1,x.2.2.1,x.2.2.2.1,x.2.2.2.2.1,x.2.2.2.2.2.1,x.2.2.2.2.2.2)=AJu/\xr=(.agg #[(.int .i64 x.1),(.int .i64 x.2.1),(.int .i64 x.2.2.1),(.int .i64 x.2.2.2.1),(.int .i64 x.2.2.2.2.1)])/\Kst h h' ((Bv.L.set 3<|aO2 (cI .i64) 61 2 A5 D4 D5 Ab x.2.2.2.2.2.1).set 2 (aO2 (cI .i64) 61 2 Aa Ae Af Ac x.2.2.2.2.2.2))/\UpT (A5 ++ (Aa ++ [])) Ct h')) I1 rfl ?_ λAda Adb AJy=>?_
   ·refine cwf (l:=[_,_]) Tryz.func40 rfl rfl (AOv<|A2b [(.int .i64 0),(.int .i64 0),(.int .i64 0),(.int .i64 0),(.int .i64 0)] Axm rfl trivial tt2 λAdc I2 AJz I3 Om=>Apu<|AOr<|AOr<|Ah2 rfl (Ah1 Ah9 rfl ?_));have Ade:=I3.1;have B7:=Bv.nb I3 Om AJz;refine Aht Aia rfl ((B7.b p5).cell (i:=3) rfl) (AOr ?_);have AJ0:=Om.loAll 0 rfl;obtain ⟨Adf,Db,AJ1⟩:=AOw AJv;refine Aii APa rfl (B7.o2 p4) rfl Db λAdg Adh Adi AJ2 AJ3=>Aht Ahb rfl AJ3 (AOr ?_);obtain ⟨Adj,Er,AJ4⟩:=AOw AJ1;refine Ain (m:=Cq) APd rfl (B7.o2 p4) AJ2 Db rfl Er λAdk AJ5=>?_;obtain ⟨Adl,AJ6,AJ7⟩:=(B7.o2 p4).cells AJ5 Db Er;obtain rfl:=AJ6;refine Aht AO9 rfl (AJ7 0 _ rfl) ?_;obtain ⟨AJ8,On,AJ9⟩:=AOw AJ4;have Oo:UpT [] I2 I2:=UpT.start all_nil;refine Ahr (K':=(λxr h'=> ∃ x:(Int),x=AJ8/\xr=(.int .i64 x)/\Kst h h' (B7.L)/\UpT [] I2 h')) trivial rfl ?_ λAdm Adn AKa=>?_
    ·refine cwf (l:=[_,_]) Tryz.func80 rfl rfl (AOv<|AO1<|AOx<|AOv<|AOr<|Aiy rfl rfl (AOz<|⟨_,rfl,λI6=>?_,λI6=>?_⟩))
     ·refine AOv<|AOr<|Ah2 rfl (Ah1 A24 rfl (Aht Aiw rfl ((B7.b p5).cell (i:=2) rfl) (AO1<|AO6<|Ag9<|⟨_,AO7,(Bm:(Int)),?_,rfl,?_,?_⟩)))
      ·exact AOu<|Ahx On I6
      ·exact B7
      ·exact Oo
     ·refine AO4<|q_t<|AOv<|AOr<|AOr<|Ah2 rfl (Ah1 Azm rfl (Aht AO9 rfl ((B7.b p5).cell (i:=0) rfl) ?_));obtain ⟨AKb,AKc,AKd⟩:=AOw<|Ahy On I6;refine Aqy rfl (Ajr AKc) λAdo Adp I7 AKe=>?_;subst AKe;refine AO1<|AO6 ?_;have Adq:=I7.1;refine ⟨_,AO7,(AKb:(Int)),?_,rfl,?_,?_⟩
      ·exact AOu AKd
      ·exact (B7.e I7)
      ·exact (Oo.thenE I7)
    obtain ⟨I9,AKf,rfl,Oq,Ot⟩:=AKa;have Adr:=Ot.size;refine ⟨trivial,?_⟩;subst AKf;refine Ah4<|AOr<|Ah2 rfl (Ah1 Azm rfl (Aht AO9 rfl ((Oq.b p5).cell (i:=0) rfl) (AOr ?_)));obtain ⟨Ja,AKg,AKh⟩:=AOw AJ9;refine Aqy rfl (Alk AKg) λAds Adt Jc AKi=>?_;subst AKi;refine AO1<|AOx<|Ana<|AOr<|Ah2 rfl (Ah1 Ah9 rfl ?_);have Adu:=Jc.1;have Dc:=Oq.e Jc;refine Aht Aia rfl ((Dc.b p5).cell (i:=3) rfl) (AOr<|Aii APa rfl (Dc.o2 p4) rfl Db λAdv Adw Adx AKj AKk=>Aht Ahb rfl AKk (AOr<|Ain (m:=Cq) APd rfl (Dc.o2 p4) AKj Db rfl Er λAdy AKl=>?_));obtain ⟨Adz,AKm,AKn⟩:=(Dc.o2 p4).cells AKl Db Er;obtain rfl:=AKm;refine Aht AO9 rfl (AKn 0 _ rfl) (AOr ?_);obtain ⟨AKo,AKp⟩:=ifN AKh;refine Aub rfl rfl AKo (AOr<|Ah2 rfl (Ah1 Al5 rfl (Aht AO9 rfl ((Dc.b p5).cell (i:=1) rfl) (AOr ?_))));obtain ⟨AKq,AKr⟩:=ifN AKp;refine Aub rfl rfl AKq ?_;obtain ⟨⟨Ad0,Ad1⟩,AKs,Ou⟩:=AOw AKr;dsimp only at Ou;refine Aqy rfl (As2 AKs) λAd2 Ad3 Je AKt=>?_;subst AKt;refine AOr<|Ait rfl rfl (Ait rfl rfl (Ahl<|AO1<|AOx<|AOv<|AOr<|Ahp rfl rfl (AO1<|AO0 ?_)));have Ad4:=Je.1;have Ov:=Dc.e Je;obtain ⟨Ow,AKu,AKv⟩:=AOw Ou;obtain ⟨AKw,AKx,AKy⟩:=Auf AKu;refine Aj4 154742504906168934735020544 (λx:(Int) × (LiI) × (LiI)=>[(9,(.int .i64 x.1))]) (λk x h'=>iter AKw k (x.1,x.2.1,x.2.2)=some Ow/\Kst h h' ((Ov.L.set 4<|aO2 (cI .i64) 61 2 A5 D4 D5 Ab x.2.1).set 3 (aO2 (cI .i64) 61 2 Aa Ae Af Ac x.2.2))/\UpT (A5 ++ (Aa ++ [])) Ct h') AO5 fuel (((w64<|Cq + 1),AJr,AJs):(Int) × (LiI) × (LiI)) ?_ ⟨rfl,trivial⟩ ?_
    ·exact ⟨AKy,Ov,((((AJx.thenE I3).then Ot all_nil).thenE Jc).thenE Je)⟩
    rintro Ad5 ⟨Cw,Ox,Oy⟩ Ad6 Dd ⟨AKz,Ag,Jf⟩;have Ad7:=Jf.size;obtain ⟨AK0,Ad8,rfl,D6,Jg⟩:=Aq9 AKz;rw [AKx] at D6;dsimp only at D6;unfold Akz at D6;refine AOx<|AOv<|AOr<|AOr<|Ah2 rfl (Ah1 Ah9 rfl (Aht Aia rfl ((Ag.b p5).cell (i:=3) rfl) (Ahw APa rfl (Ag.o2 p4).rd (Aho rfl rfl (AOz<|⟨_,rfl,λJh=>?_,λJh=>?_⟩)))))
    ·refine AO4<|q_t<|AOx<|AO0<|Ana<|AOr<|AOr<|Ah2 rfl (Ah1 Ah9 rfl (Aht Aia rfl ((Ag.b p5).cell (i:=3) rfl) (AOr ?_)));obtain ⟨Ad9,Ji,AK1⟩:=AOw<|Ahx D6 Jh;refine Aii APa rfl (Ag.o2 p4) rfl Ji λAea Aeb Aec AK2 AK3=>Aht Ahb rfl AK3 (AOr ?_);obtain ⟨Aed,Oz,AK4⟩:=AOw AK1;refine Ain (m:=Cq) APd rfl (Ag.o2 p4) AK2 Ji rfl Oz λAee AK5=>?_;obtain ⟨Aef,AK6,AK7⟩:=(Ag.o2 p4).cells AK5 Ji Oz;obtain rfl:=AK6;refine Aht AO9 rfl (AK7 0 _ rfl) (AOr ?_);obtain ⟨AK8,AK9⟩:=ifN AK4;refine Aub rfl rfl AK8 (AOr<|Aok rfl rfl (AOr<|Ah2 rfl (Ah1 Al5 rfl (Aht AO9 rfl ((Ag.b p5).cell (i:=1) rfl) (AOr ?_)))));obtain ⟨ALa,ALb⟩:=ifN AK9;refine Aub rfl rfl ALa ?_;obtain ⟨ALc,ALd⟩:=ifN ALb;refine Ajh rfl rfl ALc (Azz rfl (AOr<|AOr ?_));obtain ⟨ALe,ALf,ALg⟩:=AOw ALd;have ALh:UpT (A5 ++ (Aa ++ [])) Dd Dd:=UpT.start<|Aiv (Ag.o2 p4).notD<|Aiv (Ag.o2 p3).notD all_nil;refine Ahr (K':=(λxr h'=> ∃ x:(LiI) × (LiI),(x.1,x.2)=ALe/\xr= .tuple #[]/\Kst h h' ((Ag.L.set 4<|aO2 (cI .i64) 61 2 A5 D4 D5 Ab x.1).set 3 (aO2 (cI .i64) 61 2 Aa Ae Af Ac x.2))/\UpT (A5 ++ (Aa ++ [])) Dd h')) trivial rfl ?_ λAeg Aeh ALi=>?_
     ·refine cwf (l:=[_,_,_,_]) Tryz.func39 rfl rfl (AOx<|AOv<|AOr<|Ah2 rfl (Ah1 Ah9 rfl (Aht Aia rfl ((Ag.b p5).cell (i:=3) rfl) (Ahw APa rfl (Ag.o2 p4).rd (AOr<|AOz<|AO0 ?_)))));obtain ⟨O0,ALj,ALk⟩:=AOw ALf;obtain ⟨ALl,ALm,ALn⟩:=Auf ALj;refine Aj4 4611686018427322624 (λx:(Int) × (LiI)=>[(16,(.int .i64 x.1))]) (λk x h'=>iter ALl k (x.1,x.2)=some O0/\Kst h h' (Ag.L.set 4<|aO2 (cI .i64) 61 2 A5 D4 D5 Ab x.2)/\UpT (A5 ++ (Aa ++ [])) Dd h') AO5 fuel ((0,Ox):(Int) × (LiI)) ?_ ⟨rfl,trivial⟩ ?_
      ·exact ⟨ALn,Ag,ALh⟩
      rintro Aei ⟨De,O1⟩ Aej Jj ⟨ALo,Av,Jk⟩;have Aek:=Jk.size;obtain ⟨ALp,Ael,rfl,D7,Jl⟩:=Aq9 ALo;rw [ALm] at D7;dsimp only at D7;unfold Aky at D7;refine AOv<|Aho rfl rfl (AOz<|AOx<|⟨_,rfl,λJm=>?_,λJm=>?_⟩)
      ·refine AO4<|q_t<|AOx<|AO0<|AOv<|AOr<|AO1<|Aiz (λh'=>UpT [] Jj h') AO5 ?_;have Bi:UpT [] Jj Jj:=UpT.start all_nil;refine AOr<|Ah2 rfl (Ah1 Ah9 rfl (Ahk Aia rfl Bi (λh' hb=>((Av.b p5).ext hb.ext).cell (i:=3) rfl) (AOr ?_)));obtain ⟨ALq,B8,ALr⟩:=AOw<|Ahx D7 Jm;refine Aii APa rfl (Av.o2 p4) rfl B8 λAem Aen Aeo ALs ALt=>Ahk Ahb rfl Bi (λh' hb=>AO8 ALt hb.ext) (AOr<|AOr<|Ah2 rfl (Ah1 Ah9 rfl (Ahk Aia rfl Bi (λh' hb=>((Av.b p5).ext hb.ext).cell (i:=3) rfl) (AOr<|Aii APa rfl (Av.o2 p4) rfl B8 λAep Aeq Aer ALu ALv=>Ahk Ahb rfl Bi (λh' hb=>AO8 ALv hb.ext) (AOr ?_)))));obtain ⟨Aes,Es,ALw⟩:=AOw ALr;refine Ain (m:=De) APd rfl (Av.o2 p4) ALu B8 rfl Es λAet ALx=>?_;obtain ⟨Aeu,ALy,ALz⟩:=(Av.o2 p4).cells ALx B8 Es;obtain rfl:=ALy;refine Ahk AO9 rfl Bi (λh' hb=>AO8 (ALz 0 _ rfl) hb.ext) (AOr<|AOr<|Ah2 rfl (Ah1 Ah9 rfl (Ahk Aia rfl Bi (λh' hb=>((Av.b p5).ext hb.ext).cell (i:=3) rfl) (AOr<|Aii APa rfl (Av.o2 p4) rfl B8 λAev Aew Aex AL0 AL1=>Ahk Ahb rfl Bi (λh' hb=>AO8 AL1 hb.ext) (AOr ?_)))));obtain ⟨Aey,O2,AL2⟩:=AOw ALw;refine Ain (m:=De) APd rfl (Av.o2 p4) AL0 B8 rfl O2 λAez AL3=>?_;obtain ⟨Ae0,AL4,AL5⟩:=(Av.o2 p4).cells AL3 B8 O2;obtain rfl:=AL4;refine Ahk AO9 rfl Bi (λh' hb=>AO8 (AL5 0 _ rfl) hb.ext) (Aok rfl rfl (AOr<|Ah2 rfl (Ah1 Al5 rfl (Ahk AO9 rfl Bi (λh' hb=>((Av.b p5).ext hb.ext).cell (i:=1) rfl) ?_))));obtain ⟨AL6,AL7⟩:=ifN AL2;refine Ajh rfl rfl AL6 (Ahp rfl rfl (AOr<|Ah2 rfl (Ah1 Al5 rfl (Ahk AO9 rfl Bi (λh' hb=>((Av.b p5).ext hb.ext).cell (i:=1) rfl) ?_))));obtain ⟨O3,AL8,AL9⟩:=AOw AL7;refine Aj1 Bi (λ_ E=>Bi.thenE E) rfl (Aij AL8) λAe1 Ae2 Jn AMa=>?_;subst AMa;refine Ain (m:=De) APd rfl (Av.o2 p4) ALs B8 rfl Es λAe3 AMb=>?_;have Ae4:=Jn.1;have O4:=Av.e Jn;refine Aon (m:=De) (Ame AO9 rfl rfl rfl) (O4.o2 p4) AMb B8 Es (show ((cI .i64)).rep _ O3 _ from rfl) λAe5 AMc Jo=>Ahh<|q_b<|q_t<|Ag6<|Ahp rfl rfl (AOr<|AOz ?_);have Ae6:=Jo.size;obtain rfl:=AOu AL9;exact ⟨ALp,(((w64<|De + 1),(sI O1 De<|sI ALq Cw O3)):(Int) × (LiI)),Nat.lt_succ_self _,⟨Jl,(O4.uO2 p4 Jo AMc),((Jk.thenE Jn).then Jo<|Am2 rfl)⟩,rfl,trivial⟩
      ·obtain rfl:=AOu<|Ahy D7 Jm;change _=O0 at Jl;subst Jl;refine Ahf<|Ahg<|Ahg<|Aim<|q_t<|AOx<|AOv<|AOr<|Ah2 rfl (Ah1 Ah9 rfl (Aht Aia rfl ((Av.b p5).cell (i:=3) rfl) (Ahw APa rfl (Av.o2 p4).rd (AOr<|AOz<|AO0 ?_))));obtain ⟨O5,AMd,AMe⟩:=AOw ALk;obtain ⟨AMf,AMg,AMh⟩:=Auf AMd;refine Aj4 10384593717069507683108402982027776 (λx:(Int) × (LiI)=>[(67,(.int .i64 x.1))]) (λk x h'=>iter AMf k (x.1,x.2)=some O5/\Kst h h' (Av.L.set 4<|aO2 (cI .i64) 61 2 A5 D4 D5 Ab x.2)/\UpT (A5 ++ (Aa ++ [])) Dd h') AO5 fuel ((0,O1):(Int) × (LiI)) ?_ ⟨rfl,trivial⟩ ?_
       ·exact ⟨AMh,Av,Jk⟩
       rintro Ae7 ⟨O6,O7⟩ Ae8 Jp ⟨AMi,Aw,Jq⟩;have Ae9:=Jq.size;obtain ⟨AMj,Afa,rfl,D8,Jr⟩:=Aq9 AMi;rw [AMg] at D8;dsimp only at D8;unfold Akx at D8;refine AOv<|Aho rfl rfl (AOz<|AOx<|⟨_,rfl,λJs=>?_,λJs=>?_⟩)
       ·refine AO4<|q_t<|AOx<|AO0<|AOv<|AOr<|AO1<|Aiz (λh'=>UpT [] Jp h') AO5 ?_;have Bj:UpT [] Jp Jp:=UpT.start all_nil;refine AOr<|Ah2 rfl (Ah1 Ah9 rfl (Ahk Aia rfl Bj (λh' hb=>((Aw.b p5).ext hb.ext).cell (i:=3) rfl) (AOr ?_)));obtain ⟨AMk,Df,AMl⟩:=AOw<|Ahx D8 Js;refine Aii APa rfl (Aw.o2 p4) rfl Df λAfb Afc Afd AMm AMn=>Ahk Ahb rfl Bj (λh' hb=>AO8 AMn hb.ext) (AOr<|AOr<|Ah2 rfl (Ah1 Ah9 rfl (Ahk Aia rfl Bj (λh' hb=>((Aw.b p5).ext hb.ext).cell (i:=3) rfl) (AOr<|Aii APa rfl (Aw.o2 p4) rfl Df λAfe Aff Afg AMo AMp=>Ahk Ahb rfl Bj (λh' hb=>AO8 AMp hb.ext) (AOr ?_)))));obtain ⟨Afh,Et,AMq⟩:=AOw AMl;refine Ain (m:=Cw) APd rfl (Aw.o2 p4) AMo Df rfl Et λAfi AMr=>?_;obtain ⟨Afj,AMs,AMt⟩:=(Aw.o2 p4).cells AMr Df Et;obtain rfl:=AMs;refine Ahk AO9 rfl Bj (λh' hb=>AO8 (AMt 0 _ rfl) hb.ext) (AOr<|AOr<|Ah2 rfl (Ah1 Ah9 rfl (Ahk Aia rfl Bj (λh' hb=>((Aw.b p5).ext hb.ext).cell (i:=3) rfl) (AOr ?_))));obtain ⟨Afk,Jt,AMu⟩:=AOw AMq;refine Aii APa rfl (Aw.o2 p4) rfl Jt λAfl Afm Afn AMv AMw=>Ahk Ahb rfl Bj (λh' hb=>AO8 AMw hb.ext) (AOr ?_);obtain ⟨Afo,O8,AMx⟩:=AOw AMu;refine Ain (m:=Cq) APd rfl (Aw.o2 p4) AMv Jt rfl O8 λAfp AMy=>?_;obtain ⟨Afq,AMz,AM0⟩:=(Aw.o2 p4).cells AMy Jt O8;obtain rfl:=AMz;refine Ahk AO9 rfl Bj (λh' hb=>AO8 (AM0 0 _ rfl) hb.ext) (Aok rfl rfl (AOr<|Ah2 rfl (Ah1 Al5 rfl (Ahk AO9 rfl Bj (λh' hb=>((Aw.b p5).ext hb.ext).cell (i:=1) rfl) ?_))));obtain ⟨AM1,AM2⟩:=ifN AMx;refine Ajh rfl rfl AM1 (Ahp rfl rfl (AOr<|Ah2 rfl (Ah1 Al5 rfl (Ahk AO9 rfl Bj (λh' hb=>((Aw.b p5).ext hb.ext).cell (i:=1) rfl) ?_))));obtain ⟨O9,AM3,AM4⟩:=AOw AM2;refine Aj1 Bj (λ_ E=>Bj.thenE E) rfl (Aij AM3) λAfr Afs Ju AM5=>?_;subst AM5;refine Ain (m:=Cw) APd rfl (Aw.o2 p4) AMm Df rfl Et λAft AM6=>?_;have Afu:=Ju.1;have Pa:=Aw.e Ju;refine Aon (m:=Cw) (Ame AO9 rfl rfl rfl) (Pa.o2 p4) AM6 Df Et (show ((cI .i64)).rep _ O9 _ from rfl) λAfv AM7 Jv=>Ahh<|q_b<|q_t<|Ag6<|Ahp rfl rfl (AOr<|AOz ?_);have Afw:=Jv.size;obtain rfl:=AOu AM4;exact ⟨AMj,(((w64<|O6 + 1),(sI O7 Cw<|sI AMk O6 O9)):(Int) × (LiI)),Nat.lt_succ_self _,⟨Jr,(Pa.uO2 p4 Jv AM7),((Jq.thenE Ju).then Jv<|Am2 rfl)⟩,rfl,trivial⟩
       ·obtain rfl:=AOu<|Ahy D8 Js;change _=O5 at Jr;subst Jr;refine Ahf<|Ahg<|Ahg<|Aim<|q_t<|AOv<|AOr<|Ah2 rfl (Ah1 Ala rfl (Aht Aia rfl ((Aw.b p5).cell (i:=4) rfl) (Ahw APa rfl (Aw.o2 p3).rd (AOr<|AOz<|AO0 ?_))));obtain ⟨Pb,AM8,AM9⟩:=AOw AMe;obtain ⟨ANa,ANb,ANc⟩:=Auf AM8;refine Aj4 23384026197294114384260011094492302362729850602496 (λx:(Int) × (LiI)=>[(118,(.int .i64 x.1))]) (λk x h'=>iter ANa k (x.1,x.2)=some Pb/\Kst h h' (Aw.L.set 3<|aO2 (cI .i64) 61 2 Aa Ae Af Ac x.2)/\UpT (A5 ++ (Aa ++ [])) Dd h') AO5 fuel ((0,Oy):(Int) × (LiI)) ?_ ⟨rfl,trivial⟩ ?_
        ·exact ⟨ANc,Aw,Jq⟩
        rintro Afx ⟨Dg,Pc⟩ Afy Jw ⟨ANd,A6,Jx⟩;have Afz:=Jx.size;obtain ⟨ANe,Af0,rfl,D9,Jy⟩:=Aq9 ANd;rw [ANb] at D9;dsimp only at D9;unfold Akw at D9;refine AOv<|Aho rfl rfl (AOz<|AOx<|⟨_,rfl,λJz=>?_,λJz=>?_⟩)
        ·refine AO4<|q_t<|AOx<|AO0<|AOv<|AOr<|AO1<|Aiz (λh'=>UpT [] Jw h') AO5 ?_;have Bl:UpT [] Jw Jw:=UpT.start all_nil;refine AOr<|Ah2 rfl (Ah1 Ala rfl (Ahk Aia rfl Bl (λh' hb=>((A6.b p5).ext hb.ext).cell (i:=4) rfl) (AOr ?_)));obtain ⟨ANf,B9,ANg⟩:=AOw<|Ahx D9 Jz;refine Aii APa rfl (A6.o2 p3) rfl B9 λAf1 Af2 Af3 ANh ANi=>Ahk Ahb rfl Bl (λh' hb=>AO8 ANi hb.ext) (AOr<|AOr<|Ah2 rfl (Ah1 Ala rfl (Ahk Aia rfl Bl (λh' hb=>((A6.b p5).ext hb.ext).cell (i:=4) rfl) (AOr<|Aii APa rfl (A6.o2 p3) rfl B9 λAf4 Af5 Af6 ANj ANk=>Ahk Ahb rfl Bl (λh' hb=>AO8 ANk hb.ext) (AOr ?_)))));obtain ⟨Af7,Eu,ANl⟩:=AOw ANg;refine Ain (m:=Dg) APd rfl (A6.o2 p3) ANj B9 rfl Eu λAf8 ANm=>?_;obtain ⟨Af9,ANn,ANo⟩:=(A6.o2 p3).cells ANm B9 Eu;obtain rfl:=ANn;refine Ahk AO9 rfl Bl (λh' hb=>AO8 (ANo 0 _ rfl) hb.ext) (AOr<|AOr<|Ah2 rfl (Ah1 Ala rfl (Ahk Aia rfl Bl (λh' hb=>((A6.b p5).ext hb.ext).cell (i:=4) rfl) (AOr<|Aii APa rfl (A6.o2 p3) rfl B9 λAga Agb Agc ANp ANq=>Ahk Ahb rfl Bl (λh' hb=>AO8 ANq hb.ext) (AOr ?_)))));obtain ⟨Agd,Pd,ANr⟩:=AOw ANl;refine Ain (m:=Dg) APd rfl (A6.o2 p3) ANp B9 rfl Pd λAge ANs=>?_;obtain ⟨Agf,ANt,ANu⟩:=(A6.o2 p3).cells ANs B9 Pd;obtain rfl:=ANt;refine Ahk AO9 rfl Bl (λh' hb=>AO8 (ANu 0 _ rfl) hb.ext) (Aok rfl rfl (AOr<|Ah2 rfl (Ah1 Al5 rfl (Ahk AO9 rfl Bl (λh' hb=>((A6.b p5).ext hb.ext).cell (i:=1) rfl) ?_))));obtain ⟨ANv,ANw⟩:=ifN ANr;refine Ajh rfl rfl ANv (Ahp rfl rfl (AOr<|Ah2 rfl (Ah1 Al5 rfl (Ahk AO9 rfl Bl (λh' hb=>((A6.b p5).ext hb.ext).cell (i:=1) rfl) ?_))));obtain ⟨Pe,ANx,ANy⟩:=AOw ANw;refine Aj1 Bl (λ_ E=>Bl.thenE E) rfl (Aij ANx) λAgg Agh J0 ANz=>?_;subst ANz;refine Ain (m:=Dg) APd rfl (A6.o2 p3) ANh B9 rfl Eu λAgi AN0=>?_;have Agj:=J0.1;have Pf:=A6.e J0;refine Aon (m:=Dg) (Ame AO9 rfl rfl rfl) (Pf.o2 p3) AN0 B9 Eu (show ((cI .i64)).rep _ Pe _ from rfl) λAgk AN1 J1=>Ahh<|q_b<|q_t<|Ag6<|Ahp rfl rfl (AOr<|AOz ?_);have Agl:=J1.size;obtain rfl:=AOu ANy;exact ⟨ANe,(((w64<|Dg + 1),(sI Pc Dg<|sI ANf Cw Pe)):(Int) × (LiI)),Nat.lt_succ_self _,⟨Jy,(Pf.uO2 p3 J1 AN1),((Jx.thenE J0).then J1<|A1k<|Am2 rfl)⟩,rfl,trivial⟩
        ·obtain rfl:=AOu<|Ahy D9 Jz;change _=Pb at Jy;subst Jy;refine Ahf<|Ahg<|Ahg<|Aim<|⟨_,Avn,((O7,Pc):(LiI) × (LiI)),?_,rfl,?_,?_⟩
         ·exact AOu AM9
         ·exact A6
         ·exact Jx
     obtain ⟨⟨AN2,AN3⟩,AN4,rfl,AN5,Pg⟩:=ALi;have Agm:=Pg.size;refine ⟨trivial,?_⟩;subst AN4;refine Ahh<|q_b<|q_t<|Ag6<|AOr<|Ahp rfl rfl (AO1 ?_);obtain rfl:=AOu ALg;exact ⟨AK0,(((w64<|Cw + 1),AN2,AN3):(Int) × (LiI) × (LiI)),Nat.lt_succ_self _,⟨Jg,AN5,(Jf.then Pg<|Aiv (Am2 rfl)<|Aiv (A1k<|Am2 rfl) all_nil)⟩,rfl,trivial⟩
    ·obtain rfl:=AOu<|Ahy D6 Jh;change _=Ow at Jg;subst Jg;refine Ahf<|Ahg<|Ahg<|Aim<|q_t<|AOv<|AOr<|AOr<|Ah2 rfl (Ah1 Ah9 rfl (Aht Aia rfl ((Ag.b p5).cell (i:=3) rfl) (AOr ?_)));obtain ⟨Agn,J2,AN6⟩:=AOw AKv;refine Aii APa rfl (Ag.o2 p4) rfl J2 λAgo Agp Agq AN7 AN8=>Aht Ahb rfl AN8 (AOr ?_);obtain ⟨J3,Ph,AN9⟩:=AOw AN6;refine Ain (m:=Cq) APd rfl (Ag.o2 p4) AN7 J2 rfl Ph λAgr AOa=>?_;obtain ⟨Ags,AOb,AOc⟩:=(Ag.o2 p4).cells AOa J2 Ph;obtain rfl:=AOb;refine Aht AO9 rfl (AOc 0 _ rfl) (AOr ?_);obtain ⟨AOd,AOe⟩:=ifN AN9;refine Aub rfl rfl AOd (Akh (v:=(.agg #[(.int .i64 I9),(.int .i64 1),(.int .i64<|w64<|Int.tdiv J3 Ja),(.int .i64 0),(.int .i64 0)])) (λ_=>by kernel_rfl)<|Ai5 [(.int .i64 I9),(.int .i64 1),(.int .i64<|w64<|Int.tdiv J3 Ja),(.int .i64 0),(.int .i64 0)] Atw rfl rfl rfl rfl (by simp [isOne]) (Ag.b p0) λAgt Pj J4=>AOz<|AO6 ?_);have Agu:=J4.1;have Pk:=Ag.sb p0 J4 Pj rfl;refine ⟨_,Ai1 Atw rfl rfl (Pk.b p0),((I9,1,(w64<|Int.tdiv J3 Ja),0,0,Ox,Oy):(Int) × (Int) × (Int) × (Int) × (Int) × (LiI) × (LiI)),?_,rfl,?_,?_⟩
     ·exact AOu AOe
     ·exact Pk.sel [1,2,3,4,5,6] AOs
     ·exact (Jf.then (Pj.stA J4 (Anl (Ag.b p0) rfl) rfl)<|BDb AJ0 AOq)
   obtain ⟨⟨Pl,Pm,Pn,Po,Pp,Agv,Agw⟩,AOf,rfl,Pq,Ps⟩:=AJy;have Agx:=Ps.size;have J5:=I1.then Ps<|Aiv (A1k<|Am2 rfl)<|Aiv (A1k<|A1k<|Am2 rfl) all_nil;refine ⟨J5,?_⟩;subst AOf;obtain ⟨AOg,AOh⟩:=ifN AJw;refine Ar3 Asz Axm rfl rfl J5 (λ_ U=>J5.then U<|Am2 rfl) (λ_=>rfl) rfl (show (Ar1).rep _ (Pl,Pm,Pn,Po,Pp) [(.int .i64 Pl),(.int .i64 Pm),(.int .i64 Pn),(.int .i64 Po),(.int .i64 Pp)] from rfl) (Pq.o p0) AOs AOg λAgy Agz AOi Ag0 AOj Pt AOk=>Ah1 Anw rfl ?_;have Ag1:=Pt.size;have J6:=Pq.uo p0 Pt AOj AOk;refine Au6 [(.int .i64 a5),(.slice none 0 0),AOi] At1 rfl rfl (J6.o p0).isOne (J6.b p1) (Nat.le_of_ble_eq_true rfl) rfl λAg2 AOl Pu=>AOz<|Ag6<|AOr<|Ahp rfl rfl (Ahl<|Ahh<|q_b<|q_t ?_);have Ag3:=Pu.1;exact ⟨(_,_,_,_,_,_,_,_,_),(AOu AOh).symm,(J6.sb p1 Pu AOl rfl),rfl,trivial⟩
  ·refine Ahf<|Ahg<|Ahg<|Aim<|q_t<|AOv<|AOr<|Ah2 rfl (Ajl Ala Aia (Ch.b p4) 4 rfl (Ah1 Ape rfl (Au6 [(.int .i64 a5),Ac,Dk] Aia rfl rfl (Ch.o2 p2).isOne (Ch.b p1) (Nat.le_of_ble_eq_true rfl) rfl λAg4 AOm AOn=>Apu ?_)));have Ea:=Ch.sb p1 AOn AOm rfl;refine Apd [(.int .i64 a5),Ac,Dk] Ai8 rfl rfl (Ea.b p1).agg (Ai5 [(.int .i64 a5),Ac,Dk] Ai8 rfl rfl rfl rfl (Aic rfl (Aic (Ea.o2 p2).isOne<|Aic (Ea.o p0).isOne Aoo)) (Ea.b p5) λAg5 AOo AOp=>AOz<|AO6 ?_);have Eb:=Ea.sb p5 AOp AOo rfl;obtain rfl:=AOu<|Qx _ (AOu<|Ahy Ff Fg).symm;exact ⟨_,Ai1 Ai8 rfl rfl (Eb.b p5),Eb.x,_,_,_,_,_,_,rfl,(Eb.o2 p2),(Eb.o p0),Eb.s.sel [2,0] AOs⟩
end Go.Proofs.YtkakafabeobahaaGreatDoor
