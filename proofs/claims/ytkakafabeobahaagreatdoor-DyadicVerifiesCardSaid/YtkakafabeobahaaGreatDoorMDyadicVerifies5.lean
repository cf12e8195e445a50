/-
  Texts of a proof, joined. Conditions stand in each statement.
-/
import Derived.Test.YtkakafabeobahaaGreatDoorMDyadicVerifies4
set_option linter.unusedVariables false
set_option linter.unusedSimpArgs false
open Go
variable {h:Go.QF.AO2} {G F A T:Go.QF.Ahe} {r a1 a5 x a a2 q p j f:Int} {g X t:List (List Int)} {fuel i k:Nat} {α β:Type} {Ao:Value}
namespace Go.Proofs.YtkakafabeobahaaGreatDoor
open Go Go.QF
set_option maxRecDepth 100000
set_option maxHeartbeats 40000000
def Atm (fuel:Nat) (a3:LiI) (Ab:Int):Option (Int ⊕ (Bool ⊕ Unit)):=
 if Ab < (a3.length:Int) then (gI a3 Ab).bind λAc=>(gI a3 0).bind λAd=>if ¬ (Ac.length:Int)=(Ad.length:Int) then some (.inr<|.inl false) else some (.inl<|w64<|Ab + 1) else some<|.inr<|.inr ()
def Apo (fuel:Nat) (a3:LiI):Option Bool:=
 ((if (a3.length:Int) < 1 then some (.inl false) else if 16 < (a3.length:Int) then some (.inl false) else (gI a3 0).bind λAb=>if (Ab.length:Int) < 1 then some (.inl false) else if 16 < (Ab.length:Int) then some (.inl false) else some<|.inr ()):Option (Bool ⊕ Unit)).bind (λex=>match ex with | .inl Ac=>(some Ac) | .inr _=>(iter (λs=>Atm fuel a3 s) fuel 0).bind (λex=>match ex with | .inl Ad=>(some Ad) | .inr _=>some true))
theorem Avt {a3:LiI} {r:Bool} (H2:Ajw (cI .i64) h Ao a3) (hp:Apo fuel a3=some r):Ahs Tryz.prog 98 #[Ao] h (λx h'=>Ext h h'/\x= .bool r):=by
 unfold Apo at hp;refine cwf (l:=[_]) Tryz.func98 rfl rfl (AOv<|AO1 ?_);have K0:=Kst.k0 h;obtain ⟨Az,Ap,Ac⟩:=AOw hp;refine Arb 134217700 (λx:Unit=>[]) (λx h'=>(Sum.inr <| ())=Az/\Kst h h' (K0.L)) ?_ ?_
 ·refine AOv<|AOr<|Ahx APa rfl H2 (Ahn rfl rfl (AOr ?_));by_cases Af:(a3.length:Int) < 1
  ·rw [decide_eq_true Af];refine Aki 8 true<|Ahc rfl (AOr<|An1 13 true<|Ahc rfl (AOr<|An1 20 true<|Ahc rfl (AOz<|Ahp rfl (AOv<|AO1 ?_))));obtain rfl:=AOu<|ifT Ap Af;refine AO6<|Ag7 ?_;obtain rfl:=AOu Ac;exact ⟨_,AO7,K0.x,rfl⟩
  ·have Aq:=ifF Ap Af;rw [decide_eq_false Af];refine Ahb 8 false<|AOr<|Ahb 8 false<|Ahx APa rfl H2 (Ahb 8 false<|Anj rfl rfl (APd rfl (AOr ?_)));by_cases Ag:16 < (a3.length:Int)
   ·rw [decide_eq_true Ag];refine An1 13 true<|Ahc rfl (AOr<|An1 20 true<|Ahc rfl (AOz<|Ahp rfl (AOv<|AO1 ?_)));obtain rfl:=AOu<|ifT Aq Ag;refine AO6<|Ag7 ?_;obtain rfl:=AOu Ac;exact ⟨_,AO7,K0.x,rfl⟩
   ·rw [decide_eq_false Ag];refine Ahb 13 false<|AOr<|Ahb 13 false ?_;obtain ⟨A3,Ar,Au⟩:=AOw<|ifF Aq Ag;refine Az4 APa rfl H2 rfl Ar λBf Bg Bh A4 A5=>Ahb 13 false<|Ahu Aha rfl (AO8 A4 K0.x) (Ahb 13 false<|Aim APe rfl A5 (Ahb 13 false<|Ahn rfl rfl (APd rfl (AOr ?_))));by_cases Ah:(A3.length:Int) < 1
    ·rw [decide_eq_true Ah];refine An1 20 true<|Ahc rfl (AOz<|Ahp rfl (AOv<|AO1 ?_));obtain rfl:=AOu<|ifT Au Ah;refine AO6<|Ag7 ?_;obtain rfl:=AOu Ac;exact ⟨_,AO7,K0.x,rfl⟩
    ·have Av:=ifF Au Ah;rw [decide_eq_false Ah];refine Ahb 20 false<|AOr<|Ahb 20 false<|Az4 APa rfl H2 rfl Ar λBi Bj Bl A6 A7=>Ahb 20 false<|Ahu Aha rfl (AO8 A6 K0.x) (Ahb 20 false<|Aim APe rfl A7 (Ahb 20 false<|Anj rfl rfl (APd rfl (AOz<|⟨_,rfl,λAi=>?_,λAi=>?_⟩))))
     ·refine AOv<|AO1 ?_;obtain rfl:=AOu<|Ahy Av Ai;refine AO6<|Ag7 ?_;obtain rfl:=AOu Ac;exact ⟨_,AO7,K0.x,rfl⟩
     ·refine AO5<|q_t ?_;exact ⟨(():Unit),⟨AOu<|Ahz Av Ai,K0⟩,trivial⟩
 rintro ⟨⟩ Bm Bn ⟨A8,Aw⟩;subst A8;refine AOx<|AOv<|AOr<|Ahx APa rfl H2 (AOr<|AOz<|AO0<|Arf 2198486384660 Ac (λx=>[(29,(.int .i64 x))]) (λx=>Aw.L) Aw ⟨rfl,trivial⟩ ?_);rintro Bo Bp Bq Br Ad Aj Ax;unfold Atm at Aj;refine AOv<|Ahn rfl rfl (AOz<|AOx<|⟨_,rfl,λAk=>?_,λAk=>?_⟩)
 ·refine AO5<|q_t<|AOx<|AO0<|AOv ?_;obtain ⟨Bt,A9,Ba⟩:=AOw<|Ahy Aj Ak;refine An3 APa Aha H2 Ad.x A9 λ_ Bu Bb=>Ah7<|AOr<|Aim APe rfl Bb (AOr ?_);obtain ⟨Bv,Bc,Ay⟩:=AOw Ba;refine An3 APa Aha H2 Ad.x Bc λ_ Bw Be=>Aim APe rfl Be (Ajs rfl rfl (AOz<|⟨_,rfl,λAm=>?_,λAm=>?_⟩))
  ·refine AOv<|AO1<|AO6<|Ail<|Ag7<|Ag7<|Ail<|Ag7 ?_;obtain rfl:=AOu<|Ax _ (AOu<|Ahy Ay Am).symm;exact ⟨_,AO7,Ad.x,rfl⟩
  ·refine AO5<|q_b<|q_t<|Ag6<|Ahk rfl rfl (AOr<|AOz ?_);exact ⟨_,(AOu<|Ahz Ay Am).symm,Ad,rfl,trivial⟩
 ·refine Ahf<|Ahg<|Ahg<|Aio<|q_t<|AOv<|AO1<|AO6 ?_;obtain rfl:=AOu<|Ax _ (AOu<|Ahz Aj Ak).symm;exact ⟨_,AO7,Ad.x,rfl⟩
def At2 (fuel:Nat) (a3:LiI):Option Bool:=
 (Apo fuel a3).bind λx5=>if x5=true then (gI a3 0).bind λAc=>if (a3.length:Int)=(Ac.length:Int) then some (decide ((a3.length:Int)<=8)) else some false else some false
theorem A31 {Ae:Value} {a3:LiI} {r:Bool} (H2:Ajw (cI .i64) h Ae a3) (hp:At2 fuel a3=some r):Ahs Tryz.prog 137 #[Ae] h (λx h'=>Ext h h'/\x= .bool r):=by
 unfold At2 at hp;refine cwf (l:=[_]) Tryz.func137 rfl rfl (AOv<|Ah7<|AOr ?_);have K0:=Kst.k0 h;obtain ⟨x5,Ak,Ag⟩:=AOw hp;refine Akb K0 (Avt (H2.ext K0.x) Ak) λh9 E8 Ab=>AOr ?_;cases Ah:x5
 ·refine An1 5 false<|Aqc 5 false<|APd rfl (AOr<|Aki 14 false<|APd rfl (AO1<|AO6 ?_));obtain rfl:=AOu<|Aok Ag Ah;exact ⟨_,AO7,Ab.x,rfl⟩
 ·refine Ahb 5 true<|AOr<|Ahb 5 true<|Ahx APa rfl H2 (Ahb 5 true<|AOr<|Ahb 5 true ?_);obtain ⟨Am,Ao,Ai⟩:=AOw<|ifT Ag Ah;refine Az4 APa rfl H2 rfl Ao λAv Aw Ax Ap Aq=>Ahb 5 true<|Ahu Aha rfl (AO8 Ap Ab.x) (Ahb 5 true<|Aim APe rfl Aq (Ahb 5 true<|Ai0 rfl rfl (Ahc rfl (AOr ?_))));by_cases Ac:(a3.length:Int)=(Am.length:Int)
  ·rw [decide_eq_true Ac];refine Ahb 14 true<|AOr<|Ahb 14 true<|Ahx APa rfl H2 (Ahb 14 true<|A3r rfl rfl (Ahc rfl (AO1<|AO6 ?_)));obtain rfl:=AOu<|ifT Ai Ac;exact ⟨_,AO7,Ab.x,rfl⟩
  ·rw [decide_eq_false Ac];refine Aki 14 false<|APd rfl (AO1<|AO6 ?_);obtain rfl:=AOu<|ifF Ai Ac;exact ⟨_,AO7,Ab.x,rfl⟩
def Aj5 (fuel:Nat) (a1:Int):Option Int:=
 if a1 < 2 then some 1 else if 2147483647 < a1 then some 1 else some 0
theorem Au7 (hp:Aj5 fuel a1=some r):Ahs Tryz.prog 99 #[(.int .i64 a1)] h (λx h'=>Ext h h'/\x= .int .i64 r):=by
 unfold Aj5 at hp;refine cwf (l:=[_]) Tryz.func99 rfl rfl (AOv<|AO1<|AOx<|AOv<|AOr<|Ahn rfl rfl (AOr ?_));have K0:=Kst.k0 h;by_cases Aa:a1 < 2
 ·rw [decide_eq_true Aa];refine Aqc 5 true<|Ahc rfl (AOz<|Ahp rfl (AOv<|AO1<|AO6<|Ag7 ?_));obtain rfl:=AOu<|ifT hp Aa;exact ⟨_,AO7,K0.x,rfl⟩
 ·have Ae:=ifF hp Aa;rw [decide_eq_false Aa];refine Ahb 5 false<|AOr<|Ahb 5 false<|Anj rfl rfl (APd rfl (AOz<|⟨_,rfl,λAd=>?_,λAd=>?_⟩))
  ·refine AOv<|AO1<|AO6<|Ag7 ?_;obtain rfl:=AOu<|Ahy Ae Ad;exact ⟨_,AO7,K0.x,rfl⟩
  ·refine AO5<|q_t<|AOv<|AO1<|AO6 ?_;obtain rfl:=AOu<|Ahz Ae Ad;exact ⟨_,AO7,K0.x,rfl⟩
def Aqp (fuel:Nat) (a5 Ad:Int) (Ae:LiA) (Ab:Int) (Ac:LiI):Option ((Int × LiI) ⊕ LiI):=
 if Ab < (Ae.length:Int) then (gI Ae Ab).bind λAg=>(gI Ac Ad).bind λAf=>if a5≠0 then if a5≠0 then (gI Af Ab).bind λAh=>some (.inl (w64<|Ab + 1,sI Ac Ad<|sI Af Ab<|Int.tmod (w64<|Int.tmod Ag a5 + a5) a5)) else none else none else some<|.inr Ac
def Aqq (fuel:Nat) (a3:LiI) (a5 Aa:Int) (Ac:LiI):Option ((Int × LiI) ⊕ LiI):=
 if Aa < (a3.length:Int) then (gI a3 Aa).bind λAb=>if 0<=(Ab.length:Int)/\(Ab.length:Int)<=100000000 then (gI Ac Aa).bind λAg=>(iter (λs=>Aqp fuel a5 Aa Ab s.1 s.2) fuel (0,sI Ac Aa<|List.replicate (Int.toNat (Ab.length:Int)) (0:Int))).bind (λ(Af:LiI)=>some<|.inl (w64<|Aa + 1,Af)) else none else some<|.inr Ac
def Ank (fuel:Nat) (a3:LiI) (a5:Int):Option LiI:=
 if 0<=(a3.length:Int)/\(a3.length:Int)<=100000000 then (iter (λs=>Aqq fuel a3 a5 s.1 s.2) fuel (0,List.replicate (Int.toNat (a3.length:Int)) ([]:List Int))).bind (λ(Ac:LiI)=>some Ac) else none
theorem Aua {a3:LiI} {r:LiI} (H2:Ajw (cI .i64) h Ao a3) (hp:Ank fuel a3 a5=some r):Ahs Tryz.prog 100 #[Ao,(.int .i64 a5)] h (λx h'=>Ext h h'/\ ∃ (x0:Value) (F0:List Nat) (A3:List LnA) (A4:List Value),x=x0/\Aj1 (cI .i64) 61 2 h' F0 A3 A4 x0 r/\Sp h' h.size [F0]):=by
 unfold Ank at hp;refine cwf (l:=[_,_]) Tryz.func100 rfl rfl (AOv<|Ah7<|AOr<|Ahx APa rfl H2 ?_);obtain ⟨A5,A6⟩:=ifN hp;refine Ayj (cI .i64) 2 APa As9 rfl trivial tt2 rfl rfl AOs A5 λA7 A8 A9 Au Ce Ba E8 S9=>AO1<|AOx<|AOv<|AOr<|Ahx APa rfl H2 (AOr<|AOz<|AO0 ?_);have Av:=(Kst.k0 h).no2 E8 S9 Ba;refine Amy 281474976678848 (λx:(Int) × (LiI) × LnA × LnN × LvA=>(x.1,x.2.1)) ((0,(List.replicate (Int.toNat (a3.length:Int)) ([]:List Int)),A7,A8,A9):(Int) × (LiI) × LnA × LnN × LvA) A6 (λx=>[(15,(.int .i64 x.1))]) (λx=>Av.L.set 0<|aO2 (cI .i64) 61 2 x.2.2.1 x.2.2.2.1 x.2.2.2.2 Au x.2.1) Av ⟨rfl,trivial⟩ ?_;rintro ⟨Aa,Be,Cf,Aw,Bf⟩ Cg Ch Ci Ab Ag Bg;unfold Aqq at Ag;refine AOv<|Ahn rfl rfl (AOz<|AOx<|⟨_,rfl,λAh=>?_,λAh=>?_⟩)
 ·refine AO5<|q_t<|AOx<|AO0<|AOv<|AOr ?_;obtain ⟨Bh,Bi,Bj⟩:=AOw<|Ahy Ag Ah;refine An3 APa Aha H2 Ab.x Bi λ_ Cj Ai=>Aho<|Ah7<|AOr<|AOr<|AOr<|Aim APe rfl Ai ?_;obtain ⟨Bl,Bm⟩:=ifN Bj;refine Awz (c:=(cI .i64)) (a:=0) APe Ars rfl rfl (λ_=>rfl) rfl trivial tt2 rfl rfl AOs Bl λAx Bn Ck Bo Bp Bq Br=>?_;have Ac:=Ab.no Bp (Anw Bq Br) Bo;obtain ⟨Cm,Ay,Bt⟩:=AOw Bm;refine Aij APa rfl (Ac.o2 p1) rfl Ay λBu Cn Bv Co Cp=>Azf Aha (Ac.o2 p1) Ay Bv rfl rfl (Ac.o p0) (Ac.dj p0 p1 AOs) λCq Bw Bx By=>Apt<|AOr<|Aim APe rfl Ai (AOr<|AOz<|AO0 ?_);have Aj:=(Ac.m2 p0 p1 AOs Bx Bw λz hz=> .inl<|By z hz).sel [1] AOs;dsimp only [Aoz,Ar4] at Aj;refine Amy 140737219920640 (λx:(Int) × (LiI) × LnA × LnN × LvA=>(x.1,x.2.1)) ((0,(sI Be Aa<|List.replicate (Int.toNat (Bh.length:Int)) (0:Int)),(Bu :: (Aw.set (Int.toNat Aa) [Ax]).flatten),(Aw.set (Int.toNat Aa) [Ax]),(Bf.set (Int.toNat Aa) Bn)):(Int) × (LiI) × LnA × LnN × LvA) Bt (λx=>[(28,(.int .i64 x.1))]) (λx=>Aj.L.set 0<|aO2 (cI .i64) 61 2 x.2.2.1 x.2.2.2.1 x.2.2.2.2 Au x.2.1) Aj ⟨rfl,trivial⟩ ?_;rintro ⟨Cr,Ct,Cu,Cv,Cw⟩ Cx Cy Cz Ad Ak Bz;unfold Aqp at Ak;refine AOv<|Ahn rfl rfl (AOz<|AOx<|⟨_,rfl,λAm=>?_,λAm=>?_⟩)
  ·refine AO5<|q_t<|AOx<|AO0<|AOv<|AOr ?_;obtain ⟨C0,B1,B3⟩:=AOw<|Ahy Ak Am;refine A1l APe AO9 Ai Ad.x B1 λ_=>(Aho<|AO1<|Ame<|AOr<|AOr ?_);obtain ⟨C1,Az,B4⟩:=AOw B3;refine Aiw APa Aha (Ad.o2 p0) Az λ_ C2 B5=>AOr<|AOr<|AOr ?_;obtain ⟨B6,B7⟩:=ifN B4;refine Aj6 rfl rfl B6 (AOr<|Ahk rfl rfl (AOr ?_));obtain ⟨B8,B9⟩:=ifN B7;refine Aj6 rfl rfl B8 ?_;obtain ⟨C3,Ca,Cb⟩:=AOw B9;refine Aqv (m:=Aa) Ad p0 APe AO9 B5 Az Ca (λ_=>rfl) λ_ C4 Cd=>Ahh<|q_b<|q_t<|Ag6<|Ahk rfl rfl (AOr<|AOz ?_);exact ⟨(_,_,_,_,_),(AOu Cb).symm,Cd,rfl,trivial⟩
  ·refine Ahf<|Ahg<|Ahg<|Aio<|q_b<|q_t<|Ag6<|Ahk rfl rfl (AOr<|AOz ?_);exact ⟨(_,_,_,_,_),(AOu<|Bz _ (AOu<|Ahz Ak Am).symm).symm,Ad,rfl,trivial⟩
 ·refine Ahf<|Ahg<|Ahg<|Aio<|q_t<|AOv<|AOr<|AO1<|AO6 ?_;obtain rfl:=AOu<|Bg _ (AOu<|Ahz Ag Ah).symm;exact ⟨_,AO7,Ab.x,_,_,_,_,rfl,(Ab.o2 p0),Ab.s.sel [0] AOs⟩
def Ap8 (fuel:Nat) (a3:LiI) (Ab Aa:Int) (Ac:LiI):Option ((Int × LiI) ⊕ LiI):=
 if Aa < (a3.length:Int) then (gI a3 Aa).bind λAf=>(gI Ac Ab).bind λAe=>(gI Af Ab).bind λAg=>(gI Ae Aa).bind λAh=>some (.inl (w64<|Aa + 1,sI Ac Ab<|sI Ae Aa Ag)) else some<|.inr Ac
def Ap9 (fuel:Nat) (a3:LiI) (x5:LiA) (Aa:Int) (Ac:LiI):Option ((Int × LiI) ⊕ LiI):=
 if Aa < ((List.replicate (Int.toNat (x5.length:Int)) ([]:List Int)).length:Int) then if 0<=(a3.length:Int)/\(a3.length:Int)<=100000000 then (gI Ac Aa).bind λAf=>(iter (λs=>Ap8 fuel a3 Aa s.1 s.2) fuel (0,sI Ac Aa<|List.replicate (Int.toNat (a3.length:Int)) (0:Int))).bind (λ(Ae:LiI)=>some<|.inl (w64<|Aa + 1,Ae)) else none else some<|.inr Ac
def Ap0 (fuel:Nat) (a3:LiI):Option LiI:=
 (gI a3 0).bind λx5=>if 0<=(x5.length:Int)/\(x5.length:Int)<=100000000 then (iter (λs=>Ap9 fuel a3 x5 s.1 s.2) fuel (0,List.replicate (Int.toNat (x5.length:Int)) ([]:List Int))).bind (λ(Ac:LiI)=>some Ac) else none
theorem A1e {a3 r:LiI} (H2:Ajw (cI .i64) h Ao a3) (hp:Ap0 fuel a3=some r):Ahs Tryz.prog 140 #[Ao] h (λx h'=>Ext h h'/\ ∃ (x0:Value) (F0:List Nat) (Az:List LnA) (A3:List Value),x=x0/\Aj1 (cI .i64) 61 2 h' F0 Az A3 x0 r/\Sp h' h.size [F0]):=by
 unfold Ap0 at hp;refine cwf (l:=[_]) Tryz.func140 rfl rfl (AOv<|Ah7<|AOr ?_);have K0:=Kst.k0 h;obtain ⟨x5,A5,A6⟩:=AOw hp;refine An3 APa Aha H2 K0.x A5 λ_ r8 H9=>Aim APe rfl H9 ?_;obtain ⟨A8,A9⟩:=ifN A6;refine Ayj (cI .i64) 2 APa As9 rfl trivial tt2 rfl rfl AOs A8 λBa Bb Bc Au Ce Be Bf Bg=>AO1<|AOx<|AOv<|AOr ?_;have Ag:=K0.no2 Bf Bg Be;refine Ahx APa rfl (Ag.o2 p0).rd (AOr<|AOz<|AO0<|Amy 4398046494832 (λx:(Int) × (LiI) × LnA × LnN × LvA=>(x.1,x.2.1)) ((0,(List.replicate (Int.toNat (x5.length:Int)) ([]:List Int)),Ba,Bb,Bc):(Int) × (LiI) × LnA × LnN × LvA) A9 (λx=>[(14,(.int .i64 x.1))]) (λx=>Ag.L.set 0<|aO2 (cI .i64) 61 2 x.2.2.1 x.2.2.2.1 x.2.2.2.2 Au x.2.1) Ag ⟨rfl,trivial⟩ ?_);rintro ⟨Aa,Bh,Cf,Av,Bi⟩ Cg Ch Ci Ae Ah Bj;unfold Ap9 at Ah;refine AOv<|Ahn rfl rfl (AOz<|AOx<|⟨_,rfl,λAi=>?_,λAi=>?_⟩)
 ·refine AO5<|q_t<|AOx<|AO0<|AOv<|AOr<|Ah7<|AOr<|AOr<|AOr<|Ahx APa rfl H2 ?_;obtain ⟨Bl,Bm⟩:=ifN<|Ahy Ah Ai;refine Awz (c:=(cI .i64)) (a:=0) APe Ars rfl rfl (λ_=>rfl) rfl trivial tt2 rfl rfl AOs Bl λAw Bn Cj Bo Bp Bq Br=>?_;have Ab:=Ae.no Bp (Anw Bq Br) Bo;obtain ⟨Ck,Ax,Bt⟩:=AOw Bm;refine Aij APa rfl (Ab.o2 p1) rfl Ax λBu Cm Bv Cn Co=>Azf Aha (Ab.o2 p1) Ax Bv rfl rfl (Ab.o p0) (Ab.dj p0 p1 AOs) λCp Bw Bx By=>Apt<|AOr<|Ahx APa rfl H2 (AOr<|AOz<|AO0 ?_);have Aj:=(Ab.m2 p0 p1 AOs Bx Bw λz hz=> .inl<|By z hz).sel [1] AOs;dsimp only [Aoz,Ar4] at Aj;refine Amy 2198989701216 (λx:(Int) × (LiI) × LnA × LnN × LvA=>(x.1,x.2.1)) ((0,(sI Bh Aa<|List.replicate (Int.toNat (a3.length:Int)) (0:Int)),(Bu :: (Av.set (Int.toNat Aa) [Aw]).flatten),(Av.set (Int.toNat Aa) [Aw]),(Bi.set (Int.toNat Aa) Bn)):(Int) × (LiI) × LnA × LnN × LvA) Bt (λx=>[(25,(.int .i64 x.1))]) (λx=>Aj.L.set 0<|aO2 (cI .i64) 61 2 x.2.2.1 x.2.2.2.1 x.2.2.2.2 Au x.2.1) Aj ⟨rfl,trivial⟩ ?_;rintro ⟨Cq,Cr,Ct,Cu,Cv⟩ Cw Cx Cy Ac Ak Bz;unfold Ap8 at Ak;refine AOv<|Ahn rfl rfl (AOz<|AOx<|⟨_,rfl,λAm=>?_,λAm=>?_⟩)
  ·refine AO5<|q_t<|AOx<|AO0<|AOv<|AOr ?_;obtain ⟨Cz,B1,B3⟩:=AOw<|Ahy Ak Am;refine An3 APa Aha H2 Ac.x B1 λ_ C0 B4=>Aho<|AO1<|Ame<|AOr<|AOr ?_;obtain ⟨C1,Ay,B5⟩:=AOw B3;refine Aiw APa Aha (Ac.o2 p0) Ay λ_ C2 B6=>AOr<|AOr<|AOr ?_;obtain ⟨C3,B7,B8⟩:=AOw B5;refine A1l APe AO9 B4 Ac.x B7 λ_=>?_;obtain ⟨C4,B9,Ca⟩:=AOw B8;refine Aqv (m:=Aa) Ac p0 APe AO9 B6 Ay B9 (λ_=>rfl) λ_ C5 Cb=>Ahh<|q_b<|q_t<|Ag6<|Ahk rfl rfl (AOr<|AOz ?_);exact ⟨(_,_,_,_,_),(AOu Ca).symm,Cb,rfl,trivial⟩
  ·refine Ahf<|Ahg<|Ahg<|Aio<|q_b<|q_t<|Ag6<|Ahk rfl rfl (AOr<|AOz ?_);exact ⟨(_,_,_,_,_),(AOu<|Bz _ (AOu<|Ahz Ak Am).symm).symm,Ac,rfl,trivial⟩
 ·refine Ahf<|Ahg<|Ahg<|Aio<|q_t<|AOv<|AOr<|AO1<|AO6 ?_;obtain rfl:=AOu<|Bj _ (AOu<|Ahz Ah Ai).symm;exact ⟨_,AO7,Ae.x,_,_,_,_,rfl,(Ae.o2 p0),Ae.s.sel [0] AOs⟩
def Arn (fuel:Nat) (a9 Ad Ag:Int) (Ae:LiA) (Aa:Int) (Ab:LiI):Option ((Int × LiI) ⊕ LiI):=
 if Aa < (Ae.length:Int) then (gI Ae Aa).bind λAh=>(gI Ab Ad).bind λAf=>(gI Af Aa).bind λAi=>if a9≠0 then some (.inl (w64<|Aa + 1,sI Ab Ad<|sI Af Aa<|Int.tmod (w64<|Ai + w64 (Ag * Ah)) a9)) else none else some<|.inr Ab
def Aro (fuel:Nat) (a7:LiI) (a9 Af:Int) (Ab:LiA) (Aa:Int) (Ac:LiI):Option ((Int × LiI) ⊕ LiI):=
 if Aa < (Ab.length:Int) then (gI Ab Aa).bind λAg=>(gI a7 Aa).bind λAh=>(iter (λs=>Arn fuel a9 Af Ag Ah s.1 s.2) fuel (0,Ac)).bind (λ(Ai:LiI)=>some<|.inl (w64<|Aa + 1,Ai)) else some<|.inr Ac
def Arp (fuel:Nat) (a3 a7:LiI) (a9 Aa:Int) (Ab:LiI):Option ((Int × LiI) ⊕ LiI):=
 if Aa < (a3.length:Int) then (gI a3 Aa).bind λAg=>(gI a7 0).bind λAc=>if 0<=(Ac.length:Int)/\(Ac.length:Int)<=100000000 then (gI Ab Aa).bind λAi=>(iter (λs=>Aro fuel a7 a9 Aa Ag s.1 s.2) fuel (0,sI Ab Aa<|List.replicate (Int.toNat (Ac.length:Int)) (0:Int))).bind (λ(Ah:LiI)=>some<|.inl (w64<|Aa + 1,Ah)) else none else some<|.inr Ab
def Aph (fuel:Nat) (a3 a7:LiI) (a9:Int):Option LiI:=
 if 0<=(a3.length:Int)/\(a3.length:Int)<=100000000 then (iter (λs=>Arp fuel a3 a7 a9 s.1 s.2) fuel (0,List.replicate (Int.toNat (a3.length:Int)) ([]:List Int))).bind (λ(Ad:LiI)=>some Ad) else none
theorem Axh {Au:Value} {a3:LiI} {Av:Value} {a7:LiI} {a9:Int} {r:LiI} (H2:Ajw (cI .i64) h Au a3) (H6:Ajw (cI .i64) h Av a7) (hp:Aph fuel a3 a7 a9=some r):Ahs Tryz.prog 139 #[Au,Av,(.int .i64 a9)] h (λx h'=>Ext h h'/\ ∃ (x0:Value) (F0:List Nat) (Bb:List LnA) (Bc:List Value),x=x0/\Aj1 (cI .i64) 61 2 h' F0 Bb Bc x0 r/\Sp h' h.size [F0]):=by
 unfold Aph at hp;refine cwf (l:=[_,_,_]) Tryz.func139 rfl rfl (AOv<|Ah7<|AOr<|Ahx APa rfl H2 ?_);obtain ⟨Be,Bf⟩:=ifN hp;refine Ayj (cI .i64) 2 APa As9 rfl trivial tt2 rfl rfl AOs Be λBg Bh Bi Ai Cy Bj Bl Bm=>AO1<|AOx<|AOv<|AOr<|Ahx APa rfl H2 (AOr<|AOz<|AO0 ?_);have A4:=(Kst.k0 h).no2 Bl Bm Bj;refine Amy 2361183241434822098688 (λx:(Int) × (LiI) × LnA × LnN × LvA=>(x.1,x.2.1)) ((0,(List.replicate (Int.toNat (a3.length:Int)) ([]:List Int)),Bg,Bh,Bi):(Int) × (LiI) × LnA × LnN × LvA) Bf (λx=>[(19,(.int .i64 x.1))]) (λx=>A4.L.set 0<|aO2 (cI .i64) 61 2 x.2.2.1 x.2.2.2.1 x.2.2.2.2 Ai x.2.1) A4 ⟨rfl,trivial⟩ ?_;rintro ⟨Aa,Bn,Cz,A5,Bo⟩ C0 C1 C2 Ab Aj Bp;unfold Arp at Aj;refine AOv<|Ahn rfl rfl (AOz<|AOx<|⟨_,rfl,λAk=>?_,λAk=>?_⟩)
 ·refine AO5<|q_t<|AOx<|AO0<|AOv<|AOr ?_;obtain ⟨C3,Bq,Br⟩:=AOw<|Ahy Aj Ak;refine An3 APa Aha H2 Ab.x Bq λ_ C4 A6=>Aho<|Ah7<|AOr<|AOr<|AOr ?_;obtain ⟨Bt,Bu,Bv⟩:=AOw Br;refine An3 APa Aha H6 Ab.x Bu λ_ C5 Bw=>Aim APe rfl Bw ?_;obtain ⟨Bx,By⟩:=ifN Bv;refine Awz (c:=(cI .i64)) (a:=0) APe Ars rfl rfl (λ_=>rfl) rfl trivial tt2 rfl rfl AOs Bx λA7 Bz C6 B1 B3 B4 B5=>?_;have Ad:=Ab.no B3 (Anw B4 B5) B1;obtain ⟨C7,A8,B6⟩:=AOw By;refine Aij APa rfl (Ad.o2 p1) rfl A8 λB7 C8 B8 C9 Da=>Azf Aha (Ad.o2 p1) A8 B8 rfl rfl (Ad.o p0) (Ad.dj p0 p1 AOs) λDb B9 Ca Cb=>Apt<|AOr<|Aim APe rfl A6 (AOr<|AOz<|AO0 ?_);have Am:=(Ad.m2 p0 p1 AOs Ca B9 λz hz=> .inl<|Cb z hz).sel [1] AOs;dsimp only [Aoz,Ar4] at Am;refine Amy 1180591620700231449600 (λx:(Int) × (LiI) × LnA × LnN × LvA=>(x.1,x.2.1)) ((0,(sI Bn Aa<|List.replicate (Int.toNat (Bt.length:Int)) (0:Int)),(B7 :: (A5.set (Int.toNat Aa) [A7]).flatten),(A5.set (Int.toNat Aa) [A7]),(Bo.set (Int.toNat Aa) Bz)):(Int) × (LiI) × LnA × LnN × LvA) B6 (λx=>[(34,(.int .i64 x.1))]) (λx=>Am.L.set 0<|aO2 (cI .i64) 61 2 x.2.2.1 x.2.2.2.1 x.2.2.2.2 Ai x.2.1) Am ⟨rfl,trivial⟩ ?_;rintro ⟨Dc,Cd,Ce,Cf,Cg⟩ Dd De Df Ae Ao Ch;unfold Aro at Ao;refine AOv<|Ahn rfl rfl (AOz<|AOx<|⟨_,rfl,λAp=>?_,λAp=>?_⟩)
  ·refine AO5<|q_t<|AOx<|AO0<|AOv<|AOr ?_;obtain ⟨Dg,Ci,Cj⟩:=AOw<|Ahy Ao Ap;refine A1l APe AO9 A6 Ae.x Ci λ_=>(Aho<|Ah7<|AOr<|AOr ?_);obtain ⟨Dh,Ck,Cm⟩:=AOw Cj;refine An3 APa Aha H6 Ae.x Ck λ_ Di A9=>Aim APe rfl A9 (AOr<|AOz<|AO0<|Amy 590295792766519619584 (λx:(Int) × (LiI) × LnA × LnN × LvA=>(x.1,x.2.1)) ((0,Cd,Ce,Cf,Cg):(Int) × (LiI) × LnA × LnN × LvA) Cm (λx=>[(44,(.int .i64 x.1))]) (λx=>Ae.L.set 0<|aO2 (cI .i64) 61 2 x.2.2.1 x.2.2.2.1 x.2.2.2.2 Ai x.2.1) Ae ⟨rfl,trivial⟩ ?_);rintro ⟨Dj,Dk,Dl,Do,Dp⟩ Dq Dr Ds Ac Aq Cn;unfold Arn at Aq;refine AOv<|Ahn rfl rfl (AOz<|AOx<|⟨_,rfl,λAr=>?_,λAr=>?_⟩)
   ·refine AO5<|q_t<|AOx<|AO0<|AOv<|AOr ?_;obtain ⟨Dt,Co,Cp⟩:=AOw<|Ahy Aq Ar;refine A1l APe AO9 A9 Ac.x Co λ_=>(Aho<|AO1<|Ame<|AOr<|AOr ?_);obtain ⟨Du,Af,Cq⟩:=AOw Cp;refine Aiw APa Aha (Ac.o2 p0) Af λ_ Dv Cr=>AOr<|AOr<|AOr<|Aiw APa Aha (Ac.o2 p0) Af λ_ Dw Ct=>AOr ?_;obtain ⟨Dx,Ba,Cu⟩:=AOw Cq;refine Atw (m:=Aa) APe AO9 (Ac.o2 p0) Ct Af Ba λ_=>(AOr<|AOr<|Aou rfl rfl (Ahk rfl rfl (AOr ?_)));obtain ⟨Cv,Cw⟩:=ifN Cu;refine Aj6 rfl rfl Cv (Aqv (m:=Aa) Ac p0 APe AO9 Cr Af Ba (λ_=>rfl) λ_ Dy Cx=>Ahh<|q_b<|q_t<|Ag6<|Ahk rfl rfl (AOr<|AOz ?_));exact ⟨(_,_,_,_,_),(AOu Cw).symm,Cx,rfl,trivial⟩
   ·refine Ahf<|Ahg<|Ahg<|Aio<|q_b<|q_t<|Ag6<|Ahk rfl rfl (AOr<|AOz ?_);exact ⟨(_,_,_,_,_),(AOu<|Cn _ (AOu<|Ahz Aq Ar).symm).symm,Ac,rfl,trivial⟩
  ·refine Ahf<|Ahg<|Ahg<|Aio<|q_b<|q_t<|Ag6<|Ahk rfl rfl (AOr<|AOz ?_);exact ⟨(_,_,_,_,_),(AOu<|Ch _ (AOu<|Ahz Ao Ap).symm).symm,Ae,rfl,trivial⟩
 ·refine Ahf<|Ahg<|Ahg<|Aio<|q_t<|AOv<|AOr<|AO1<|AO6 ?_;obtain rfl:=AOu<|Bp _ (AOu<|Ahz Aj Ak).symm;exact ⟨_,AO7,Ab.x,_,_,_,_,rfl,(Ab.o2 p0),Ab.s.sel [0] AOs⟩
def Apa (fuel:Nat) (a3 a7:LiI) (a9:Int):Option (LiI × Int):=
 (((Apo fuel a3).bind λAf=>if (!Af)=true then some (.inl ([],3)) else (Apo fuel a7).bind λAg=>if (!Ag)=true then some (.inl ([],3)) else (gI a3 0).bind λAh=>if ¬ (a3.length:Int)=(Ah.length:Int) then some (.inl ([],3)) else if ¬ (a7.length:Int)=(a3.length:Int) then some (.inl ([],3)) else some<|.inr ()):Option ((LiI × Int) ⊕ Unit)).bind (λex=>match ex with | .inl Ai=>(some Ai) | .inr _=>(Aj5 fuel a9).bind λAd=>if ¬ Ad=0 then some ([],Ad) else (Ank fuel a7 a9).bind λAe=>(Ap0 fuel Ae).bind λAj=>(Ank fuel a3 a9).bind λAk=>(Aph fuel Ak Ae a9).bind λAm=>(Aph fuel Aj Am a9).bind λAo=>some (Ao,0))
theorem A0j {Ax:Value} {a3:LiI} {Ay:Value} {a7:LiI} {a9:Int} {r:(LiI × Int)} (H2:Ajw (cI .i64) h Ax a3) (H6:Ajw (cI .i64) h Ay a7) (hp:Apa fuel a3 a7 a9=some r):Ahs Tryz.prog 86 #[Ax,Ay,(.int .i64 a9)] h (λx h'=>Ext h h'/\ ∃ (x0:Value) (F0:List Nat) (Bg:List LnA) (Bh:List Value),x= .tuple #[x0,.int .i64 r.2]/\Aj1 (cI .i64) 61 2 h' F0 Bg Bh x0 r.1/\Sp h' h.size [F0]):=by
 unfold Apa at hp;refine cwf (l:=[_,_,_]) Tryz.func86 rfl rfl (AOv<|Aho<|AO1 ?_);have K0:=Kst.k0 h;obtain ⟨Bi,Bj,Ab⟩:=AOw hp;refine Arb 17179868352 (λx:Unit=>[]) (λx h'=>(Sum.inr <| ())=Bi/\Kst h h' (K0.L)) ?_ ?_
 ·refine AOv<|AOr ?_;obtain ⟨Bl,Bm,A6⟩:=AOw Bj;refine Akb K0 (Avt (H2.ext K0.x) Bm) λB9 Ca Ah=>Akc rfl (AOr ?_);cases A7:(!Bl)
  ·refine Ahb 13 false<|AOr<|Ahb 13 false ?_;obtain ⟨Bn,Bo,A8⟩:=AOw<|Aok A6 A7;refine Akb Ah (Avt (H6.ext Ah.x) Bo) λCb Cd Ac=>Ahb 13 false<|Akc rfl (APd rfl (AOr ?_));cases A9:(!Bn)
   ·refine Ahb 18 false<|AOr<|Ahb 18 false<|Ahx APa rfl H2 (Ahb 18 false<|AOr<|Ahb 18 false ?_);obtain ⟨Bp,Bq,Ba⟩:=AOw<|Aok A8 A9;refine Az4 APa rfl H2 rfl Bq λCe Cf Cg Br Bt=>Ahb 18 false<|Ahu Aha rfl (AO8 Br Ac.x) (Ahb 18 false<|Aim APe rfl Bt (Ahb 18 false<|Ajs rfl rfl (APd rfl (AOr ?_))));by_cases Ad: ¬ (a3.length:Int)=(Bp.length:Int)
    ·rw [decide_eq_true Ad];refine An1 27 true<|Ahc rfl (AOz<|Ahp rfl (AOv<|Aho<|AO1 ?_));obtain rfl:=AOu<|ifT Ba Ad;refine AO6<|Ag7 ?_;have Ai:=Kst.anil2 (cI .i64) 61 2 Ac;obtain rfl:=AOu Ab;exact ⟨_,Aiz,Ai.x,_,_,_,_,rfl,(Ai.o2 p0),Ai.s.sel [0] AOs⟩
    ·have Bb:=ifF Ba Ad;rw [decide_eq_false Ad];refine Ahb 27 false<|AOr<|Ahb 27 false<|Ahx APa rfl H6 (Ahb 27 false<|AOr<|Ahb 27 false<|Ahx APa rfl H2 (Ahb 27 false<|Ajs rfl rfl (APd rfl (AOz<|⟨_,rfl,λAj=>?_,λAj=>?_⟩))))
     ·refine AOv<|Aho<|AO1 ?_;obtain rfl:=AOu<|Ahy Bb Aj;refine AO6<|Ag7 ?_;have Ak:=Kst.anil2 (cI .i64) 61 2 Ac;obtain rfl:=AOu Ab;exact ⟨_,Aiz,Ak.x,_,_,_,_,rfl,(Ak.o2 p0),Ak.s.sel [0] AOs⟩
     ·refine AO5<|q_t ?_;exact ⟨(():Unit),⟨AOu<|Ahz Bb Aj,Ac⟩,trivial⟩
   ·refine An1 18 true<|Aqc 18 true<|Ahc rfl (AOr<|An1 27 true<|Ahc rfl (AOz<|Ahp rfl (AOv<|Aho<|AO1 ?_)));obtain rfl:=AOu<|ifT A8 A9;refine AO6<|Ag7 ?_;have Am:=Kst.anil2 (cI .i64) 61 2 Ac;obtain rfl:=AOu Ab;exact ⟨_,Aiz,Am.x,_,_,_,_,rfl,(Am.o2 p0),Am.s.sel [0] AOs⟩
  ·refine Aki 13 true<|Ahc rfl (AOr<|An1 18 true<|Aqc 18 true<|Ahc rfl (AOr<|An1 27 true<|Ahc rfl (AOz<|Ahp rfl (AOv<|Aho<|AO1 ?_))));obtain rfl:=AOu<|ifT A6 A7;refine AO6<|Ag7 ?_;have Ao:=Kst.anil2 (cI .i64) 61 2 Ah;obtain rfl:=AOu Ab;exact ⟨_,Aiz,Ao.x,_,_,_,_,rfl,(Ao.o2 p0),Ao.s.sel [0] AOs⟩
 rintro ⟨⟩ Ch Ci ⟨Bu,Bv⟩;subst Bu;refine AOx<|AOv<|AOr ?_;obtain ⟨Cj,Bw,Bc⟩:=AOw Ab;refine Akb Bv (Au7 Bw) λCk Cm Ap=>Ah7<|AOr<|Ajs rfl rfl (AOz<|⟨_,rfl,λAq=>?_,λAq=>?_⟩)
 ·refine AOv<|AOr<|Aho<|AO1<|AO6<|Ag7 ?_;have Ar:=Kst.anil2 (cI .i64) 61 2 Ap;obtain rfl:=AOu<|Ahy Bc Aq;exact ⟨_,Aiz,Ar.x,_,_,_,_,rfl,(Ar.o2 p0),Ar.s.sel [0] AOs⟩
 ·refine AO5<|q_t<|AOv<|AOr<|AOr ?_;obtain ⟨Cn,Bx,By⟩:=AOw<|Ahz Bc Aq;refine Aux Ap (Aua (H6.ext Ap.x) Bx) λCo Cp Cq Cr Ct Cu Be=>Ah7<|AOr ?_;obtain ⟨Cv,Bz,B1⟩:=AOw By;refine Aux Be (A1e (Be.o2 p0).rd Bz) λCw Cx Cy Cz C0 C1 Bf=>AOr<|AOr ?_;obtain ⟨C2,B3,B4⟩:=AOw B1;refine Aux Bf (Aua (H2.ext Bf.x) B3) λC3 C4 C5 C6 C7 C8 Au=>AOr<|AOr ?_;obtain ⟨C9,B5,B6⟩:=AOw B4;refine Aux Au (Axh (Au.o2 p0).rd (Au.o2 p2).rd B5) λDa Db Dc Dd De Df Av=>AOr ?_;obtain ⟨Dg,B7,B8⟩:=AOw B6;refine Aux Av (Axh (Av.o2 p2).rd (Av.o2 p0).rd B7) λDh Di Dj Dk Dl Do Aw=>Aho<|AO1<|AO6 ?_;obtain rfl:=AOu B8;exact ⟨_,Aiz,Aw.x,_,_,_,_,rfl,(Aw.o2 p0),Aw.s.sel [0] AOs⟩
end Go.Proofs.YtkakafabeobahaaGreatDoor
namespace Go.Proofs.YtkakafabeobahaaGreatDoor
open Go Go.QF
set_option maxRecDepth 100000
theorem Akk {L:List α} {n:Nat} {x:α} {f:α->Option β} (hx:L[n]? =some x):(gI L (n:Int)).bind f=f x:=by
 unfold gI;grind
theorem A4w {L:List α} {x:α} {f:α->Option β} (hx:L[0]? =some x):(gI L 0).bind f=f x:=Akk (n:=0) hx
theorem Ah1 (h:i<=1000000000):w64 ((i:Int) + 1)=((i + 1:Nat):Int):=by rw [wk AOq];omega
theorem A74 {n r:Nat} {g g':Nat->Int} (h:∀ c,c < n->g c=g' c):part n i (Ajc G r g)=part n i (Ajc G r g'):=by
 unfold part;refine Aiy λk _=>?_;split
 ·refine Aiy λc hc=>?_;by_cases hk:k=r
  ·subst hk;rw [Ai2,Ai2,h c hc]
  ·rw [Alu _ _ hk,Alu _ _ hk]
 ·rfl
theorem A2m {n:Nat} {g:Nat->Int} (h:∀ c,c < n->g c=F i c):part n (i + 1) (Ajc F i g)=part n (i + 1) F:=by
 rw [A74 h,Av1]
theorem BAk {body:Int × List (List Int)->Option ((Int × List (List Int)) ⊕ List (List Int))} {n:Nat} (v:Nat->Int) (hf:n < fuel)
 (hs:∀ (j:Nat) (g:Nat->Int),j < n->g j=G i j->body ((j:Int),part n (i + 1)<|Ajc G i g)=some (.inl (((j + 1:Nat):Int),part n (i + 1)<|Ajc G i λc=>if c=j then v j else g c)))
 (he:∀ X,body ((n:Int),X)=some (.inr X)):iter body fuel (0,part n (i + 1) G)=some (part n (i + 1)<|Ajc G i v):=by
 apply ok_eq
 refine Ah4 (λj s=>s=((j:Int),part n (i + 1)<|Ajc G i λc=>if c < j then v c else G i c)) n ?_ hf λj s hj hI=>?_
 ·have:(λc=>if c < 0 then v c else G i c)=G i:=funext λc=>if_neg AOq;rw [this,Av1];rfl
 ·subst hI
  by_cases h:j < n
  ·rw [hs j _ h<|if_neg AOq];refine AOt ⟨h,?_⟩;refine congrArg (λz=>(((j + 1:Nat):Int),part n (i + 1)<|Ajc G i z))<|funext λc=>?_
   by_cases h1:c=j
   ·grind
   omega
  ·obtain rfl:j=n:=by omega
   rw [he];exact AOt<|A74 λc hc=>if_pos hc
theorem A2n {body:Int × List (List Int)->Option ((Int × List (List Int)) ⊕ List (List Int))} {n:Nat} (F:Ahe) (hf:n < fuel)
 (hs:∀ i:Nat,i < n->body ((i:Int),part n i F)=some (.inl (((i + 1:Nat):Int),part n (i + 1) F))) (he:∀ X,body ((n:Int),X)=some (.inr X)):iter body fuel (0,List.replicate n ([]:List Int))=some (tab n n F):=by
 apply ok_eq;refine Ah4 (λi s=>s=((i:Int),part n i F)) n (by rw [Av4 n F];rfl) hf λi s hi hI=>?_;subst hI
 by_cases h:i < n
 ·rw [hs i h];exact AOt ⟨h,rfl⟩
 ·obtain rfl:i=n:=by omega
  rw [he];exact AOt<|Av3 _ _
theorem BHi {m:Int} (hm:2<=m) (Ab:m<=2147483647):Int.tmod (w64<|Int.tmod x m + m) m=x % m:=by
 have h1:=Int.tmod_lt_of_pos x (show 0 < m by omega);have h2:=Int.tmod_lt_of_pos (-x) (show 0 < m by omega);rw [Int.neg_tmod] at h2;rw [wk AOq,Int.tmod_eq_emod_of_nonneg AOq,Int.add_emod_right,Int.tmod_def,Int.sub_mul_emod_self_left]
theorem BD4 {n:Nat} {m:Int} (hn:n<=8) (hm:2<=m) (Aa:m<=2147483647) (hf:100 < fuel):Ank fuel (tab n n F) m=some (tab n n λi j=>F i j % m):=by
 unfold Ank;rw [Ahv,if_pos AOq,Int.toNat_natCast,A2n (n:=n) (λi j=>F i j % m) AOq (λi hi=>?_) λX=>?_]
 ·rfl
 ·unfold Aqq;dsimp only;rw [Ahv,if_pos AOq,Akk<|Ahw hi,Ah0,if_pos AOq,Akk<|Avp hi,Aja,Int.toNat_natCast,Ama n (0:Int),At1,BAk (n:=n) (λj=>F i j % m) AOq (λj g hj hg=>?_) λX=>?_]
  ·dsimp only [Option.bind_some];rw [Auy,A2m λc _=>rfl,Ah1 AOq]
  ·unfold Aqp;dsimp only;rw [Ah0,if_pos AOq,Akk<|Ahr hj,Akk<|Arl AOq hi,if_pos AOq,if_pos AOq,Ai2,Akk<|Ahr hj,BHi hm Aa,Aja,Aja,Alw,At0 AOq,Auy,Ah1 AOq]
  ·unfold Aqp;dsimp only;rw [Ah0,if_neg AOq]
 ·unfold Aqq;dsimp only;rw [Ahv,if_neg AOq]
theorem BK3 {n:Nat} (Aa:1<=n) (hn:n<=8) (hf:100 < fuel):Ap0 fuel (tab n n F)=some (tab n n λi j=>F j i):=by
 unfold Ap0;rw [A4w<|Ahw AOq,Ah0,if_pos AOq,Int.toNat_natCast,A2n (n:=n) (λi j=>F j i) AOq (λi hi=>?_) λX=>?_]
 ·rfl
 ·unfold Ap9;dsimp only;rw [Ah0,Int.toNat_natCast,List.length_replicate,if_pos AOq,Ahv,if_pos AOq,Akk<|Avp hi,Aja,Int.toNat_natCast,Ama n (0:Int),At1,BAk (n:=n) (λj=>F j i) AOq (λj g hj hg=>?_) λX=>?_]
  ·dsimp only [Option.bind_some];rw [Auy,A2m λc _=>rfl,Ah1 AOq]
  ·unfold Ap8;dsimp only;rw [Ahv,if_pos AOq,Akk<|Ahw hj,Akk<|Arl AOq hi,Akk<|Ahr hi,Ai2,Akk<|Ahr hj,Aja,Aja,Alw,At0 AOq,Auy,Ah1 AOq]
  ·unfold Ap8;dsimp only;rw [Ahv,if_neg AOq]
 ·unfold Ap9;dsimp only;rw [Ah0,Int.toNat_natCast,List.length_replicate,if_neg AOq]
def BQt (n:Nat) (m:Int) (F:Ahe):Prop:= ∀ i j,i < n->j < n->0<=F i j/\F i j < m
theorem BD5 {m:Int} {f:Nat->Int} {y:Int} (hm:2<=m) (Aa:m<=2147483647) (hx:0<=x/\x < m) (hy:0<=y/\y < m) (hf:f k=x * y):Int.tmod (w64<|psum f k % m + (w64<|x * y)) m=psum f (k + 1) % m:=by
 have h0:=Int.mul_nonneg hx.1 hy.1;have h1:x * y<=2147483646 * 2147483646:=Int.mul_le_mul AOq AOq hy.1 AOq;have h2:=Int.emod_nonneg (psum f k) (show m≠0 by omega);have h3:=Int.emod_lt_of_pos (psum f k) (show 0 < m by omega);rw [Ajz (x:=x * y) AOq AOq,wk AOq,Int.tmod_eq_emod_of_nonneg AOq,<- hf,BGc]
theorem BFx {n:Nat} {m:Int} (Ab:1<=n) (hn:n<=8) (hm:2<=m) (Aa:m<=2147483647) (hF:BQt n m F) (hG:BQt n m G) (hf:100 < fuel):Aph fuel (tab n n F) (tab n n G) m=some (tab n n λi j=>psum (λk=>F i k * G k j) n % m):=by
 unfold Aph;rw [Ahv,if_pos AOq,Int.toNat_natCast,A2n (n:=n) (λi j=>psum (λk=>F i k * G k j) n % m) AOq (λi hi=>?_) λX=>?_]
 ·rfl
 ·unfold Arp;dsimp only;rw [Ahv,if_pos AOq,Akk<|Ahw hi,A4w<|Ahw AOq,Ah0,if_pos AOq,Akk<|Avp hi,Aja,Int.toNat_natCast,Ama n (0:Int),At1]
  have key:∀ X,iter (λs=>Aro fuel (tab n n G) m i (Aju n<|F i) s.1 s.2) fuel (0,part n (i + 1)<|Ajc X i λ_=>0)=some (part n (i + 1)<|Ajc X i λj=>psum (λk=>F i k * G k j) n % m):=λX=>by
   apply ok_eq
   refine Ah4 (λk s=>s=((k:Int),part n (i + 1)<|Ajc X i λj=>psum (λk=>F i k * G k j) k % m)) n ?_ AOq λk s hk hI=>?_
   ·refine congrArg (λz=>((0:Int),part n (i + 1)<|Ajc X i z))<|funext λc=>?_
    show 0=0 % m
    rw [Int.zero_emod]
   ·subst hI
    unfold Aro
    dsimp only
    rw [Ah0]
    by_cases h:k < n
    ·rw [if_pos AOq,Akk<|Ahr h,Akk<|Ahw h,BAk (n:=n) (λj=>psum (λk=>F i k * G k j) (k + 1) % m) AOq (λj g hj hg=>?_) λX=>?_]
     ·dsimp only [Option.bind_some]
      rw [Auy,Ah1 AOq]
      exact AOt ⟨h,rfl⟩
     ·unfold Arn
      dsimp only
      rw [Ah0,if_pos AOq,Akk<|Ahr hj,Akk<|Arl AOq hi,Ai2,Akk<|Ahr hj,if_pos AOq,hg,Ai2,BD5 (f:=λk=>F i k * G k j) hm Aa (hF i k hi h) (hG k j h hj) rfl,Aja,Aja,Alw,At0 AOq,Auy,Ah1 AOq]
     ·unfold Arn
      dsimp only
      rw [Ah0,if_neg AOq]
    ·obtain rfl:k=n:=by omega
     rw [if_neg AOq]
     exact AOt rfl
  rw [key];dsimp only [Option.bind_some];rw [A2m λc _=>rfl,Ah1 AOq]
 ·unfold Arp;dsimp only;rw [Ahv,if_neg AOq]
end Go.Proofs.YtkakafabeobahaaGreatDoor
namespace Go.Proofs.YtkakafabeobahaaGreatDoor
open Go Go.QF
set_option maxRecDepth 100000
set_option maxHeartbeats 40000000
def Auz (fuel:Nat) (Ac Ad Af:Int) (Ag:LiA) (Ah Ai Aa:Int) (Ab:LiI):Option ((Int × LiI) ⊕ LiI):=
 if Aa < (Ag.length:Int) then (gI Ab Af).bind λAj=>(gI Aj Aa).bind λAk=>(gI Ab Ad).bind λAe=>(gI Ae Aa).bind λAm=>if Ac≠0 then some (.inl (w64<|Aa + 1,sI Ab Ad<|sI Ae Aa<|Int.tmod (w64<|Am + w64 (w64 (Ac - w64 (Int.tdiv Ai Ah)) * Ak)) Ac)) else none else some<|.inr Ab
def Au0 (fuel:Nat) (Ah Aa Ab Af:Int) (Ac:LiI):Option ((Int × LiI) ⊕ (Int × LiI)):=
 (gI Ac Ab).bind λAg=>(gI Ag Aa).bind λAd=>if ¬ Ad=0 then (gI Ac Aa).bind λAi=>(gI Ai Aa).bind λAj=>if Ad≠0 then (((iter (λs=>Auz fuel Ah Aa Ab Ag Ad Aj s.1 s.2) fuel (0,Ac)).bind (λ(Ak:LiI)=>some Ak)):Option LiI).bind λAe=>(gI Ae Ab).bind λAm=>(gI Ae Aa).bind λAo=>some (.inl (w64<|0 - Af,sI (sI Ae Aa Am) Ab Ao)) else none else some<|.inr (Af,Ac)
def Aw6 (fuel:Nat) (Ad Ae Ac Aa:Int) (Ab:LiI):Option ((Int × Int × LiI) ⊕ (Int × LiI)):=
 if Aa < (Ab.length:Int) then (iter (λs=>Au0 fuel Ad Ae Aa s.1 s.2) fuel (Ac,Ab)).bind (λ((Af,Ag):Int × LiI)=>some<|.inl (Af,w64<|Aa + 1,Ag)) else some<|.inr (Ac,Ab)
def Aw7 (fuel:Nat) (Ad:LiI) (Ae Ab Aa:Int) (Ac:LiI):Option ((Int × Int × LiI) ⊕ (Int × LiI)):=
 if Aa < (Ad.length:Int) then (iter (λs=>Aw6 fuel Ae Aa s.1 s.2.1 s.2.2) fuel (Ab,w64<|Aa + 1,Ac)).bind (λ((Af,Ag):Int × LiI)=>some<|.inl (Af,w64<|Aa + 1,Ag)) else some<|.inr (Ab,Ac)
def Aw8 (fuel:Nat) (a5:Int) (Ac:LiI) (Ad Ab:Int):Option ((Int × Int) ⊕ Int):=
 if Ab < (Ac.length:Int) then (gI Ac Ab).bind λAe=>if a5≠0 then (gI Ae Ab).bind λAf=>if a5≠0 then some (.inl (Int.tmod (w64<|Int.tmod Ad a5 * Af) a5,w64<|Ab + 1)) else none else none else some<|.inr Ad
def Avk (fuel:Nat) (a3:LiI) (a5:Int):Option (Int × Int):=
 (At2 fuel a3).bind λx6=>if (!x6)=true then some (0,3) else (Aj5 fuel a5).bind λAc=>if ¬ Ac=0 then some (0,Ac) else (Ank fuel a3 a5).bind λAd=>((((some a5):Option Int).bind λAf=>(iter (λs=>Aw7 fuel Ad Af s.1 s.2.1 s.2.2) fuel (1,0,Ad)).bind (λ((Ag,Ah):Int × LiI)=>some (Ag,Ah))):Option (Int × LiI)).bind λ(Ai,Aj)=>(iter (λs=>Aw8 fuel a5 Aj s.1 s.2) fuel (w64<|Ai + a5,0)).bind (λ(Ak:Int)=>some (Ak,0))
theorem A5l {A8:Value} {a3:LiI} {r:(Int × Int)} (H2:Ajw (cI .i64) h A8 a3) (hp:Avk fuel a3 a5=some r):Ahs Tryz.prog 84 #[A8,(.int .i64 a5)] h (λx h'=>Ext h h'/\x= .tuple #[.int .i64 r.1,.int .i64 r.2]):=by
 unfold Avk at hp;refine cwf (l:=[_,_]) Tryz.func84 rfl rfl (AOv<|Aho<|AO1<|AOx<|AOv<|AOr ?_);have K0:=Kst.k0 h;obtain ⟨x6,B1,Bc⟩:=AOw hp;refine Akb K0 (A31 (H2.ext K0.x) B1) λEb E9 Be=>Akc rfl (AOz<|⟨_,rfl,λAj=>?_,λAj=>?_⟩)
 ·refine AOv<|Aho<|AO1<|AO6<|Ag7 ?_;obtain rfl:=AOu<|ifT Bc Aj;exact ⟨_,Aiz,Be.x,rfl⟩
 ·refine AO5<|q_t<|AOx<|AOv<|AOr ?_;obtain ⟨Ed,B3,Bf⟩:=AOw<|Aok Bc Aj;refine Akb Be (Au7 B3) λEe Ef Ak=>Ah7<|AOr<|Ajs rfl rfl (AOz<|⟨_,rfl,λAm=>?_,λAm=>?_⟩)
  ·refine AOv<|AOr<|Aho<|AO1<|AO6<|Ag7 ?_;obtain rfl:=AOu<|Ahy Bf Am;exact ⟨_,Aiz,Ak.x,rfl⟩
  ·refine AO5<|q_t<|AOv<|AOr<|AOr ?_;obtain ⟨B4,B5,B6⟩:=AOw<|Ahz Bf Am;refine Aux Ak (Aua (H2.ext Ak.x) B5) λB7 B8 B9 Ab Eg Eh Ao=>Ah7<|AOr<|AOr ?_;obtain ⟨Ca,Cb,Cd⟩:=AOw B6;refine Ahq (K':=(λxr h'=> ∃ x:(Int) × (LiI) × LnA × LnN × LvA,(x.1,x.2.1)=Ca/\xr=(.int .i64 x.1)/\Kst h h' (Ao.L.set 0<|aO2 (cI .i64) 61 2 x.2.2.1 x.2.2.2.1 x.2.2.2.2 Ab x.2.1))) trivial rfl ?_ λEi Ej Ce=>?_
   ·refine cwf (l:=[_,_]) Tryz.func138 rfl rfl (AOv<|Ah7<|AOr ?_);obtain ⟨Cf,Cg,Ch⟩:=AOw Cb;refine Ahq (K':=(λxr h'=> ∃ x:(Nat) × (Int),x.2=Cf/\xr=(.func (.func 197) #[] #[(.pointer<|some ⟨x.1,0,none⟩)])/\Kst h h' (aB 2 x.1 [(.int .i64 x.2)] :: Ao.L))) trivial rfl ?_ λEk El Ci=>?_
    ·refine cwf (l:=[_]) Tryz.func161 rfl rfl (AOv<|Ano Ao [(.int .i64 a5)] λCj Em En Ck=>Ah7<|BO5 rfl (AO1<|AO6<|⟨_,AO7,((Cj,a5):(Nat) × (Int)),?_,rfl,?_⟩))
     ·exact AOu Cg
     ·exact Ck
    obtain ⟨⟨Cm,Eo⟩,Cn,rfl,Ap⟩:=Ci;refine ⟨trivial,?_⟩;subst Cn;refine Ah7<|AO1<|AOx<|AOv<|AOr<|Ahx APa rfl (Ap.o2 p1).rd (AOr<|AOz<|AO0<|Amy 18889465931478580847040 (λx:(Int) × (Int) × (LiI) × LnA × LnN × LvA=>(x.1,x.2.1,x.2.2.1)) ((1,0,B4,B7,B8,B9):(Int) × (Int) × (LiI) × LnA × LnN × LvA) Ch (λx=>[(6,(.int .i64 x.1)),(13,(.int .i64 x.2.1))]) (λx=>Ap.L.set 1<|aO2 (cI .i64) 61 2 x.2.2.2.1 x.2.2.2.2.1 x.2.2.2.2.2 Ab x.2.2.1) Ap ⟨rfl,rfl,trivial⟩ ?_);rintro ⟨Bg,Af,Bh,Bi,Bj,Bl⟩ Ep Er Es Aq Ar Co;unfold Aw7 at Ar;refine AOv<|Ahn rfl rfl (AOz<|AOx<|⟨_,rfl,λAu=>?_,λAu=>?_⟩)
    ·refine AO5<|q_t<|AOx<|AO0<|AOv<|AOr<|Ah7<|AOr<|Ahk rfl rfl (AO1<|AO0<|Amy 9444732965739290165568 (λx:(Int) × (Int) × (LiI) × LnA × LnN × LvA=>(x.1,x.2.1,x.2.2.1)) ((Bg,(w64<|Af + 1),Bh,Bi,Bj,Bl):(Int) × (Int) × (LiI) × LnA × LnN × LvA) (Ahy Ar Au) (λx=>[(6,(.int .i64 x.1)),(8,(.int .i64 x.2.1))]) (λx=>Aq.L.set 1<|aO2 (cI .i64) 61 2 x.2.2.2.1 x.2.2.2.2.1 x.2.2.2.2.2 Ab x.2.2.1) Aq ⟨rfl,rfl,trivial⟩ ?_);rintro ⟨Cp,Av,Cq,Cr,Ct,Cu⟩ Et Eu Ev Ag Aw Cv;unfold Aw6 at Aw;refine AOx<|AOv<|AOr<|AOr<|Ahx APa rfl (Ag.o2 p1).rd (Ahn rfl rfl (AOz<|⟨_,rfl,λAx=>?_,λAx=>?_⟩))
     ·refine AO5<|q_t<|AOx<|AO0<|AO0<|Amy 9444732965739273650240 (λx:(Int) × (LiI) × LnA × LnN × LvA=>(x.1,x.2.1)) ((Cp,Cq,Cr,Ct,Cu):(Int) × (LiI) × LnA × LnN × LvA) (Ahy Aw Ax) (λx=>[(6,(.int .i64 x.1))]) (λx=>Ag.L.set 1<|aO2 (cI .i64) 61 2 x.2.2.1 x.2.2.2.1 x.2.2.2.2 Ab x.2.1) Ag ⟨rfl,trivial⟩ ?_;rintro ⟨Ew,Ey,Bm,Bn,Bo⟩ Ez Fa Fb Aa Bp Cw;unfold Au0 at Bp;refine AOx<|AOv<|AOr<|AOr ?_;obtain ⟨Fc,Ac,Cx⟩:=AOw Bp;refine Aiw APa Aha (Aa.o2 p1) Ac λ_ Fd Cy=>AOr ?_;obtain ⟨Cz,Bq,Br⟩:=AOw Cx;refine Atw (m:=Av) APe AO9 (Aa.o2 p1) Cy Ac Bq λ_=>(Ajs rfl rfl (AOz<|⟨_,rfl,λAy=>?_,λAy=>?_⟩))
      ·refine AO5<|q_t<|AO0<|AOx<|Ame<|AOr<|AOr<|AOr ?_;obtain ⟨Fe,Az,C0⟩:=AOw<|Ahy Br Ay;refine Aiw APa Aha (Aa.o2 p1) Az λ_ C1 Bt=>AOr<|AOr<|Aiw APa Aha (Aa.o2 p1) Ac λ_ C2 Bu=>AOr<|AOr<|Aiw APa Aha (Aa.o2 p1) Az λ_ Ff C3=>AOr ?_;obtain ⟨C4,C5,C6⟩:=AOw C0;refine Atw (m:=Af) APe AO9 (Aa.o2 p1) C3 Az C5 λ_=>(AOr<|AOr<|Aiw APa Aha (Aa.o2 p1) Ac λ_ Fg C7=>AOr<|Atw (m:=Av) APe AO9 (Aa.o2 p1) C7 Ac Bq λ_=>?_);obtain ⟨C8,C9⟩:=ifN C6;refine Avu rfl rfl C8 ?_;obtain ⟨Da,Db,Dc⟩:=AOw C9;refine A56 (l:=[C1,C2,(.int .i64<|w64<|Int.tdiv C4 Cz)]) (cl:=[(.pointer<|some ⟨Cm,0,none⟩)]) (K':=(λxr h'=> ∃ x:(LiI),x=Da/\xr= .tuple #[]/\Kst h h' (Aa.L.set 1<|aO2 (cI .i64) 61 2 Bm Bn Bo Ab x))) trivial rfl rfl ?_ λFh Fi Dd=>?_
       ·refine cwf (l:=[_,_,_,_]) Tryz.func197 rfl rfl (AOv<|AOr<|Aim APe rfl ((Aa.o2 p1).rowI Bu Ac) (AOr<|AOz<|AO0<|Arf 4294965632 Db (λx=>[(11,(.int .i64 x.1))]) (λx=>Aa.L.set 1<|aO2 (cI .i64) 61 2 Bm Bn Bo Ab x.2) Aa ⟨rfl,trivial⟩ ?_));rintro ⟨Fj,De⟩ Fk Fl Fm Ad A3 Df;unfold Auz at A3;refine AOv<|Ahn rfl rfl (AOz<|AOx<|⟨_,rfl,λA4=>?_,λA4=>?_⟩)
        ·refine AO5<|q_t<|AOx<|AO0<|AOv<|AOr ?_;obtain ⟨Fo,Dg,Dh⟩:=AOw<|Ahy A3 A4;obtain ⟨Fp,Di,Dj⟩:=AOw Dh;refine Atw (m:=Av) APe AO9 (Ad.o2 p1) Bu Dg Di λ_=>(Aho<|AO1<|Ame<|AOr<|AOr<|AOr<|AOr ?_);obtain ⟨Fq,Bv,Dk⟩:=AOw Dj;obtain ⟨Fr,Bw,Dl⟩:=AOw Dk;refine Atw (m:=Af) APe AO9 (Ad.o2 p1) Bt Bv Bw λ_=>Ahu AO9 rfl ((Ad.b p0).cell (i:=0) rfl) (AOr<|Amr rfl rfl (AOr<|Aou rfl rfl (Ahk rfl rfl (Ahu AO9 rfl ((Ad.b p0).cell (i:=0) rfl) ?_))));obtain ⟨Do,Dp⟩:=ifN Dl;refine Aj6 rfl rfl Do (Aqv (m:=Af) Ad p1 APe AO9 Bt Bv Bw (λ_=>rfl) λ_ Ft Dq=>Ahh<|q_b<|q_t<|Ag6<|Ahk rfl rfl (AOr<|AOz ?_));exact ⟨_,(AOu Dp).symm,Dq,rfl,trivial⟩
        ·refine Ahf<|Ahg<|Ahg<|Aio<|⟨_,Auv,(De:(LiI)),?_,rfl,?_⟩
         ·exact AOu<|Df _ (AOu<|Ahz A3 A4).symm
         ·exact Ad
       obtain ⟨Fu,Dr,rfl,Ah⟩:=Dd;refine ⟨trivial,?_⟩;subst Dr;refine AOz<|AOx<|Ame<|AOr<|AOr<|AOr<|AOr<|AOr<|AOr ?_;obtain ⟨Fv,Bx,Ds⟩:=AOw Dc;refine Aiw APa Aha (Ah.o2 p1) Bx λ_ Fw Dt=>AOr<|AOr ?_;obtain ⟨Fx,By,Du⟩:=AOw Ds;refine Aiw APa Aha (Ah.o2 p1) By λ_ Fy Dv=>Avr APa Aha (Ah.o2 p1) Dv Dt By Bx rfl rfl (λ_=>rfl) (λ_=>rfl) (λ_=>rfl) (λ_ _=>rfl) λFz F4 F5 F6 F7 F8 Dw Dx Dy=>AOz<|Ag6<|AOr<|A36 rfl (Aho<|Ahh<|q_b<|q_t ?_);exact ⟨(_,_,_,_,_),(AOu Du).symm,(Ah.uo2 p1 Dx Dw Dy),rfl,trivial⟩
      ·refine Ahf<|Ahg<|Ahg<|Aio<|q_b<|q_t<|Ag6<|AOr<|Ahk rfl rfl (AO1 ?_);exact ⟨(_,_,_,_,_,_),(AOu<|Cw _ (AOu<|Ahz Br Ay).symm).symm,Aa,rfl,rfl,trivial⟩
     ·refine Ahf<|Ahg<|Ahg<|Aio<|q_b<|q_t<|Ag6<|Ahk rfl rfl (AOr<|AOz ?_);exact ⟨(_,_,_,_,_,_),(AOu<|Cv _ (AOu<|Ahz Aw Ax).symm).symm,Ag,rfl,rfl,trivial⟩
    ·refine Ahf<|Ahg<|Ahg<|Aio<|q_t<|AOv<|AOr<|AO1<|AO6<|⟨_,AO7,((Bg,Bh,Bi,Bj,Bl):(Int) × (LiI) × LnA × LnN × LvA),?_,rfl,?_⟩
     ·exact AOu<|Co _ (AOu<|Ahz Ar Au).symm
     ·exact Aq.sel [1] AOs
   obtain ⟨⟨F9,Ga,Gb,Gc,Gd⟩,Dz,rfl,A5⟩:=Ce;refine ⟨trivial,?_⟩;subst Dz;refine AOr<|Ahk rfl rfl (AO1<|AOx<|AOv<|AOr<|Ahx APa rfl (A5.o2 p0).rd (AOr<|AOz<|AO0<|Arf 35183835219712 Cd (λx=>[(8,(.int .i64 x.1)),(29,(.int .i64 x.2))]) (λx=>A5.L) A5 ⟨rfl,rfl,trivial⟩ ?_));rintro ⟨Ge,D0⟩ Gf Gg Gh Ai A6 D1;unfold Aw8 at A6;refine AOv<|Ahn rfl rfl (AOz<|AOx<|⟨_,rfl,λA7=>?_,λA7=>?_⟩)
   ·refine AO5<|q_t<|AOx<|AO0<|AOv<|AOr ?_;obtain ⟨Gi,Bz,D2⟩:=AOw<|Ahy A6 A7;refine Aiw APa Aha (Ai.o2 p0) Bz λ_ Gj D3=>Aho<|AO1<|Ame<|AOr<|AOr ?_;obtain ⟨D4,D5⟩:=ifN D2;refine Aj6 rfl rfl D4 (AOr<|AOr ?_);obtain ⟨Gk,D6,D7⟩:=AOw D5;refine Atw (m:=D0) APe AO9 (Ai.o2 p0) D3 Bz D6 λ_=>(Aou rfl rfl (AOr ?_));obtain ⟨D8,D9⟩:=ifN D7;refine Aj6 rfl rfl D8 (Aho<|Ahh<|q_b<|q_t<|Ag6<|Ahk rfl rfl (AOr<|AOz ?_));exact ⟨_,(AOu D9).symm,Ai,rfl,rfl,trivial⟩
   ·refine Ahf<|Ahg<|Ahg<|Aio<|q_t<|AOv<|AOr<|Aho<|AO1<|AO6 ?_;obtain rfl:=AOu<|D1 _ (AOu<|Ahz A6 A7).symm;exact ⟨_,Aiz,Ai.x,rfl⟩
end Go.Proofs.YtkakafabeobahaaGreatDoor
namespace Go.Proofs.YtkakafabeobahaaGreatDoor
open Go Go.QF
set_option maxRecDepth 100000
theorem BK4 {E:Type} {body:Int->Option (Int ⊕ E)} {n:Nat} {e:E} (hf:n < fuel) (hs:∀ i:Nat,i < n->body (i:Int)=some (.inl ((i + 1:Nat):Int))) (he:body (n:Int)=some (.inr e)):iter body fuel 0=some e:=by
 apply ok_eq;refine Ah4 (λi s=>s=(i:Int)) n rfl hf λi s hi hI=>?_;subst hI;by_cases h:i < n
 ·rw [hs i h];exact AOt ⟨h,rfl⟩
 ·obtain rfl:i=n:=by omega
  rw [he];exact AOt rfl
theorem A75 {n:Nat} (Aa:1<=n) (hn:n<=8) (hf:100 < fuel):Apo fuel (tab n n F)=some true:=by
 unfold Apo;rw [Ahv,if_neg AOq,if_neg AOq,A4w<|Ahw AOq,Ah0,if_neg AOq,if_neg AOq];simp only [Option.bind_some];rw [BK4 (n:=n) (e:= .inr ()) AOq (λi hi=>?_) ?_]
 ·rfl
 ·unfold Atm;rw [Ahv,if_neg AOq]
 ·unfold Atm;rw [Ahv,if_pos AOq,Akk<|Ahw hi,A4w<|Ahw AOq,Ah0,Ah0,if_neg λh=>h rfl,Ah1 AOq]
theorem BNp {n j:Nat} {g:Nat->Int}:sI (Aju n g) (j:Int) x=Aju n λc=>if c=j then x else g c:=by rw [Aja,Alw]
theorem Ata {n:Nat} {g:Nat->Int}:sI (tab n n F) (i:Int) (Aju n g)=tab n n (Ajc F i g):=by
 rw [Aja];exact Ash
theorem BK5 {n r:Nat} {g g':Nat->Int} (h:∀ c,c < n->g c=g' c):tab n n (Ajc F r g)=tab n n (Ajc F r g'):=A2o λi j _ hj=>by
 rw [Aiu,Aiu,h j hj]
structure A8e (n:Nat) (m:Int) (A F:Ahe) (s:Int) (c:Nat):Prop where
 sg:s=1∨s= -1
 bd:Bd n n m F
 z:Zc n F c
 d:Eqm m (det n F) (s * det n A)
theorem BNq {m b y:Int} (hm:2<=m) (Ab:m<=2147483647) (ha:0<=a/\a < m) (hb:0 < b/\b < m) (hx:0<=x/\x < m) (hy:0<=y/\y < m):Int.tmod (w64<|x + (w64<|(w64<|m - (w64<|Int.tdiv a b)) * y)) m=(x + (m - a / b) * y) % m:=by
 have hq:=BPa ha.1 ha.2 hb.1;have h1:Int.tdiv a b=a / b:=Int.tdiv_eq_ediv_of_nonneg ha.1;have h0:0<=(m - a / b) * y:=Int.mul_nonneg AOq hy.1;have h2:(m - a / b) * y<=2147483647 * 2147483647:=Int.mul_le_mul AOq AOq hy.1 AOq;rw [h1,Ajz (x:=a / b) AOq AOq,Ajz (x:=m - a / b) AOq AOq,Ajz (x:=(m - a / b) * y) AOq AOq,wk AOq,Int.tmod_eq_emod_of_nonneg AOq]
theorem BNr {n c:Nat} {m:Int} (hn:n<=8) (hm:2<=m) (Aa:m<=2147483647) (hc:c < n) (hi:i < n) (hne:c≠i) (hB:Bd n n m F) (h0:F i c≠0) (hf:100 < fuel):
 iter (λs=>Auz fuel m c i (Aju n<|F i) (F i c) (F c c) s.1 s.2) fuel (0,tab n n F)=some (tab n n<|Ajc F c λx=>(F c x + (m - F c c / F i c) * F i x) % m):=by
 apply ok_eq;refine Ah4 (λj s=>s=((j:Int),tab n n<|Ajc F c λx=>if x < j then (F c x + (m - F c c / F i c) * F i x) % m else F c x)) n ?_ AOq λj s hj hI=>?_
 ·have:(λx=>if x < 0 then (F c x + (m - F c c / F i c) * F i x) % m else F c x)=F c:=funext λx=>if_neg AOq;rw [this,Av1];rfl
 ·subst hI;unfold Auz;dsimp only;rw [Ah0];by_cases h:j < n
  ·have b1:=hB c c hc hc;have b2:=hB i c hi hc;rw [if_pos AOq,Akk<|Ahw hi,Alu _ _<|Ne.symm hne,Akk<|Ahr h,Akk<|Ahw hc,Ai2,Akk<|Ahr h,if_pos AOq,if_neg AOq,BNq hm Aa (hB c c hc hc) ⟨AOq,b2.2⟩ (hB c j hc h)<|hB i j hi h,BNp,Ata,Auy,Ah1 AOq];refine AOt ⟨h,congrArg (λz=>(((j + 1:Nat):Int),tab n n<|Ajc F c z))<|funext λx=>?_⟩;grind
  ·obtain rfl:j=n:=by omega
   rw [if_neg AOq];exact AOt<|BK5 λx hx=>if_pos hx
theorem BHj {n c:Nat} {m s:Int} (hm:2<=m) (hc:c < n) (hi:i < n) (hci:c < i) (H:A8e n m A F s c) (q:Int):A8e n m A (Az3 F c i q m) (-s) c:=by
 have h1:=(Eqm.refl m 0).sub H.d;rw [Int.zero_sub,Int.zero_sub] at h1;refine ⟨by rcases H.sg with h | h <;> rw [h] <;> simp,BLp AOq H.bd hc hi,BLq H.z hci hi,(BG4 hc hi AOq).trans ?_⟩;grind
theorem BD6 {n c:Nat} {m s:Int} (hn:n<=8) (hm:2<=m) (Ab:m<=2147483647) (hc:c < n) (hi:i < n) (hci:c < i) (H:A8e n m A F s c) (hZ:Zi F c i) (hf:2147483648 < fuel):
 Ok (iter (λs=>Au0 fuel m c i s.1 s.2) fuel (s,tab n n F)) λe=> ∃ s' F',e=(s',tab n n F')/\A8e n m A F' s' c/\Zi F' c i/\F' i c=0:=by
 refine Ah4 (λk st=> ∃ s' F',st=(s',tab n n F')/\A8e n m A F' s' c/\Zi F' c i/\F' i c + k<=m) m.toNat ⟨s,F,rfl,H,hZ,by have:=H.bd i c hi hc;omega⟩ AOq λk st hk hI=>?_;obtain ⟨s',F',rfl,H',hZ',hk'⟩:=hI;have hB:=H'.bd;have b2:=hB i c hi hc;unfold Au0;dsimp only;rw [Akk<|Ahw hi,Akk<|Ahr hc];refine Ag9 (λh=>?_) λh=>AOt ⟨s',F',rfl,H',hZ',Decidable.not_not.1 h⟩;rw [Akk<|Ahw hc,Akk<|Ahr hc,if_pos h,BNr hn hm Ab hc hi AOq hB h AOq];simp only [Option.bind_some]
 have e1:∀ g,sI (sI (tab n n<|Ajc F' c g) (c:Int)<|Aju n<|F' i) (i:Int) (Aju n g)=tab n n (Ann (Ajc F' c g) c i):=λg=>by
  rw [Ata,Ata]
  unfold Ann
  rw [Ai2,Alu _ _<|show i≠c by omega]
 have b1:=hB c c hc hc;rw [Akk<|Ahw hi,Alu _ _ (show i≠c by omega),Akk<|Ahw hc,Ai2,e1,Ajz (by rcases H'.sg with h | h <;> omega) (by rcases H'.sg with h | h <;> omega),Int.zero_sub];refine AOt ⟨AOq,-s',_,rfl,BHj hm hc hi hci H' _,BLr hZ',?_⟩;show Az3 F' c i (F' c c / F' i c) m i c + ((k + 1:Nat):Int)<=m;rw [BEf];dsimp only;rw [BLs b1.1 b1.2 AOq b2.2];have:=Int.emod_lt_of_pos (F' c c) (show 0 < F' i c by omega);omega
theorem BQu {n:Nat} {m:Int} (Af:1<=n) (hn:n<=8) (hm:2<=m) (Ad:m<=2147483647) (hf:2147483648 < fuel):Avk fuel (tab n n T) m=some (det n T % m,0):=by
 unfold Avk
 have h0:At2 fuel (tab n n T)=some true:=by
  unfold At2
  rw [A75 Af hn AOq]
  simp only [Option.bind_some,reduceIte]
  rw [A4w<|Ahw AOq,Ah0,Ahv,if_pos rfl,decide_eq_true AOq]
 have h1:Aj5 fuel m=some 0:=by unfold Aj5;grind
 rw [h0];simp only [Option.bind_some];rw [if_neg AOs,h1];simp only [Option.bind_some];rw [if_neg AOs,BD4 hn hm Ad AOq];simp only [Option.bind_some];apply ok_eq;generalize hA:(λi j=>T i j % m)=A;have hAd:Eqm m (det n A) (det n T):=by subst hA;exact A6k λi j _ _=>Eqm.mod _ _
 have hAb:Bd n n m A:=by subst hA;exact λi j _ _=>⟨Int.emod_nonneg _ AOq,Int.emod_lt_of_pos _ AOq⟩
 refine AOy (Q:=λe:Int × List (List Int)=> ∃ F,e.2=tab n n F/\A8e n m A F e.1 n) (AOy (Ah4 (λc st=> ∃ s F,st=(s,(c:Int),tab n n F)/\c<=n/\A8e n m A F s c) n (Q:=λe:Int × List (List Int)=> ∃ F,e.2=tab n n F/\A8e n m A F e.1 n) ⟨1,A,rfl,Nat.zero_le _,.inl rfl,hAb,λc' i h=>absurd h<|Nat.not_lt_zero _,by rw [Int.one_mul];exact Eqm.refl _ _⟩ AOq λc st hc hI=>?_) λe he=>AOt he) λe he=>?_
 ·obtain ⟨s,F,rfl,hcn,H⟩:=hI;unfold Aw7;dsimp only;rw [Ahv];refine Ag9 (λh=>?_) λh=>AOt ⟨F,rfl,(show c=n by omega) ▸ H⟩;have hc':c < n:=by omega
  rw [Ah1 AOq];refine AOy (Ah4 (λk st=> ∃ s F,st=(s,((c + 1 + k:Nat):Int),tab n n F)/\c + 1 + k<=n/\A8e n m A F s c/\Zi F c (c + 1 + k)) (n - (c + 1)) (Q:=λe:Int × List (List Int)=> ∃ F,e.2=tab n n F/\A8e n m A F e.1 (c + 1)) ⟨s,F,rfl,AOq,H,λk h1 h2=>by omega⟩ AOq λk st hk hI=>?_) λe he=>?_
  ·obtain ⟨s',F',rfl,hkn,H',hZ'⟩:=hI;unfold Aw6;dsimp only;rw [Ahv];refine Ag9 (λh2=>AOy (BD6 hn hm Ad hc' AOq AOq H' hZ' hf) λe he=>?_) λh2=>AOt ⟨F',rfl,H'.sg,H'.bd,BEh H'.z<|(show c + 1 + k=n by omega) ▸ hZ',H'.d⟩;obtain ⟨s2,F2,rfl,H2,Aj,h3⟩:=he;exact AOt ⟨AOq,s2,F2,by rw [Ah1 AOq];rfl,AOq,H2,BEg Aj h3⟩
  ·obtain ⟨e1,e2⟩:=e;obtain ⟨F',h2,H'⟩:=he;dsimp only at h2 H';subst h2;exact AOt ⟨AOq,e1,F',rfl,AOq,H'⟩
 ·obtain ⟨s,M⟩:=e;obtain ⟨F,h2,H⟩:=he;dsimp only at h2 H;subst h2;dsimp only;rw [Ajz (by rcases H.sg with h | h <;> omega) (by rcases H.sg with h | h <;> omega)];refine AOy (Ah4 (λk st=>st=(A0s F m s k,(k:Int))/\k<=n) n (Q:=(· =A0s F m s n)) ⟨rfl,Nat.zero_le _⟩ AOq λk st hk hI=>?_) λe he=>AOt ?_
  ·obtain ⟨rfl,hkn⟩:=hI;unfold Aw8;dsimp only;rw [Ahv];by_cases h:k < n
   ·have hd:=BLt (F:=F) (m:=m) (s:=s) hm H.sg k;have hb:=H.bd k k h h;have h3:=Int.emod_nonneg (A0s F m s k) (show m≠0 by omega);have h4:=Int.emod_lt_of_pos (A0s F m s k) (show 0 < m by omega);have h5:=Int.mul_nonneg h3 hb.1;have h6:A0s F m s k % m * F k k<=2147483647 * 2147483647:=Int.mul_le_mul AOq AOq hb.1 AOq;rw [if_pos AOq,Akk<|Ahw h,if_pos AOq,Akk<|Ahr h,if_pos AOq,Int.tmod_eq_emod_of_nonneg hd.1,Ajz (x:=A0s F m s k % m * F k k) AOq AOq,Int.tmod_eq_emod_of_nonneg h5,Ah1 AOq];exact AOt ⟨h,rfl,AOq⟩
   ·obtain rfl:k=n:=by omega
    rw [if_neg AOq];exact AOt rfl
  ·subst he
   have h3:Eqm m (A0s F m s n) (det n T):=by
    refine (BKg _).trans ?_
    rw [<- A0b H.z]
    refine ((Eqm.refl m s).mul H.d).trans (Eqm.trans (Eqm.of_eq ?_) hAd)
    rcases H.sg with h | h <;> rw [h] <;> grind
   have h4:0<=A0s F m s n/\A0s F m s n < m:=by
    obtain ⟨k,rfl⟩:∃ k,n=k + 1:=⟨n - 1,AOq⟩
    unfold A0s
    exact ⟨Int.emod_nonneg _ AOq,Int.emod_lt_of_pos _ AOq⟩
   unfold Eqm at h3;rw [<- h3,Int.emod_eq_of_lt h4.1 h4.2]
end Go.Proofs.YtkakafabeobahaaGreatDoor
namespace Go.Proofs.YtkakafabeobahaaGreatDoor
open Go Go.QF
set_option maxRecDepth 100000
set_option maxHeartbeats 40000000
def Aob (fuel:Nat) (a1 a2 a3 a4 a5 a6 a7:Int):Option Bool:=
 ((if a6=2 then some (w64<|a7 - 3) else some<|w64<|a7 - 1):Option Int).bind (λ(Ai:Int)=>((if a1 < 0 then some (.inl false) else if Ai < a1 then some (.inl false) else some<|.inr ()):Option (Bool ⊕ Unit)).bind (λex=>match ex with | .inl Aj=>(some Aj) | .inr _=>(Ajl fuel a6<|w64<|a7 - a1).bind λAe=>if a2=1 then if 0 < a3 then if a3 < Ae then if a6≠0 then if ¬ (Int.tmod a3 a6)=0 then if a4=0 then some (decide (a5=0)) else some false else some false else none else some false else some false else if 0<=a3 then if a3 < Ae then if 0<=a4 then if a4 < Ae then if 0<=a5 then if a5 < Ae then if Int.tmod a3 2=0 then if Int.tmod a4 2=1 then some (decide (Int.tmod a5 2=0)) else some false else some false else some false else some false else some false else some false else some false else some false))
theorem Ay6 {a3 a4 a6 a7:Int} {r:Bool} (hp:Aob fuel a1 a2 a3 a4 a5 a6 a7=some r):Ahs Tryz.prog 87 #[(.agg #[(.int .i64 a1),(.int .i64 a2),(.int .i64 a3),(.int .i64 a4),(.int .i64 a5)]),(.int .i64 a6),(.int .i64 a7)] h (λx h'=>Ext h h'/\x= .bool r):=by
 unfold Aob at hp;refine cwf (l:=[_,_,_]) Tryz.func87 rfl rfl (AOv<|Ano (Kst.k0 h) [(.int .i64 a1),(.int .i64 a2),(.int .i64 a3),(.int .i64 a4),(.int .i64 a5)] λb8 h9 B4 A4=>Ah7<|AOr<|Amr rfl rfl (AO1 ?_));obtain ⟨Bt,A9,Bu⟩:=AOw hp;refine Arb 30848 (λx:(Int)=>[(7,(.int .i64 x))]) (λx h'=>( x)=Bt/\Kst h h' (A4.L)) ?_ ?_
 ·refine AOv<|AOr<|Ai0 rfl rfl (AOz<|⟨_,rfl,λA5=>?_,λA5=>?_⟩)
  ·refine Ag6<|AOr<|Amr rfl rfl (AO1 ?_);exact ⟨((w64<|a7 - 3):(Int)),⟨AOu<|Ahy A9 A5,A4⟩,rfl,trivial⟩
  ·refine AO5<|q_t ?_;exact ⟨((w64<|a7 - 1):(Int)),⟨AOu<|Ahz A9 A5,A4⟩,rfl,trivial⟩
 rintro B5 B6 B7 ⟨Bv,Ad⟩;subst Bv;obtain ⟨Bw,Ba,A6⟩:=AOw Bu;refine Arb 16744512 (λx:Unit=>[]) (λx h'=>(Sum.inr <| ())=Bw/\Kst h h' (Ad.L)) ?_ ?_
 ·refine AOv<|Ai6 Anv Aii (Ad.b p0) 0 rfl (Ahn rfl rfl (AOr ?_));by_cases Ah:a1 < 0
  ·rw [decide_eq_true Ah];refine Alf 18 true<|Ahc rfl (AOz<|Ahp rfl (AOv<|AO1 ?_));obtain rfl:=AOu<|ifT Ba Ah;refine AO6<|Ag7 ?_;obtain rfl:=AOu A6;exact ⟨_,AO7,Ad.x,rfl⟩
  ·have Bb:=ifF Ba Ah;rw [decide_eq_false Ah];refine Ahb 18 false<|Ah2 Anv rfl (Ahb 18 false<|Ahu Aii rfl ((Ad.b p0).cell (i:=0) rfl) (Ahb 18 false<|AOr<|Ahb 18 false<|Anj rfl rfl (APd rfl (AOz<|⟨_,rfl,λA7=>?_,λA7=>?_⟩))))
   ·refine AOv<|AO1 ?_;obtain rfl:=AOu<|Ahy Bb A7;refine AO6<|Ag7 ?_;obtain rfl:=AOu A6;exact ⟨_,AO7,Ad.x,rfl⟩
   ·refine AO5<|q_t ?_;exact ⟨(():Unit),⟨AOu<|Ahz Bb A7,Ad⟩,trivial⟩
 rintro ⟨⟩ B8 B9 ⟨Bx,Bc⟩;subst Bx;refine AOv<|AOr<|AOr<|Ai6 Anv Aii (Bc.b p0) 0 rfl (Amr rfl rfl ?_);obtain ⟨Ai,By,Be⟩:=AOw A6;refine Akb Bc (Alo By) λCa Cb Aa=>AO1<|AOx<|AOv<|Ai6 Ar7 Aii (Aa.b p0) 1 rfl (Ai0 rfl rfl (AOz<|⟨_,rfl,λA8=>?_,λA8=>?_⟩))
 ·refine AOv<|Ai6 Ar8 AO9 (Aa.b p0) 2 rfl (Anj rfl rfl (AOr ?_));have Bf:=Ahy Be A8;by_cases Aj:0 < a3
  ·have Bg:=ifT Bf Aj;rw [decide_eq_true Aj];refine Ahb 36 true<|Ah2 Ar8 rfl (Ahb 36 true<|Ahu AO9 rfl ((Aa.b p0).cell (i:=2) rfl) (Ahb 36 true<|AOr<|Ahb 36 true<|Ahn rfl rfl (Ahc rfl (AOr ?_))));by_cases Ak:a3 < Ai
   ·rw [decide_eq_true Ak];refine Ahb 42 true<|Ah2 Ar8 rfl (Ahb 42 true<|Ahu AO9 rfl ((Aa.b p0).cell (i:=2) rfl) (Ahb 42 true<|AOr<|Ahb 42 true ?_));obtain ⟨Bz,Bh⟩:=ifN<|ifT Bg Ak;refine Aj6 rfl rfl Bz (Ahb 42 true<|Ajs rfl rfl (Ahc rfl (AOr ?_)));by_cases Am: ¬ (Int.tmod a3 a6)=0
    ·have Bi:=ifT Bh Am;rw [decide_eq_true Am];refine Ahb 49 true<|Ah2 Ate rfl (Ahb 49 true<|Ahu AO9 rfl ((Aa.b p0).cell (i:=3) rfl) (Ahb 49 true<|Ai0 rfl rfl (Ahc rfl (AOr ?_))));by_cases Ao:a4=0
     ·rw [decide_eq_true Ao];refine Ahb 54 true<|Ah2 Avn rfl (Ahb 54 true<|Ahu AO9 rfl ((Aa.b p0).cell (i:=4) rfl) (Ahb 54 true<|Ai0 rfl rfl (Ahc rfl (AO1<|AO6<|Ag7 ?_))));obtain rfl:=AOu<|ifT Bi Ao;exact ⟨_,AO7,Aa.x,rfl⟩
     ·rw [decide_eq_false Ao];refine Aki 54 false<|APd rfl (AO1<|AO6<|Ag7 ?_);obtain rfl:=AOu<|ifF Bi Ao;exact ⟨_,AO7,Aa.x,rfl⟩
    ·rw [decide_eq_false Am];refine Aki 49 false<|APd rfl (AOr<|Aki 54 false<|APd rfl (AO1<|AO6<|Ag7 ?_));obtain rfl:=AOu<|ifF Bh Am;exact ⟨_,AO7,Aa.x,rfl⟩
   ·rw [decide_eq_false Ak];refine An1 42 false<|APd rfl (AOr<|Aki 49 false<|APd rfl (AOr<|Aki 54 false<|APd rfl (AO1<|AO6<|Ag7 ?_)));obtain rfl:=AOu<|ifF Bg Ak;exact ⟨_,AO7,Aa.x,rfl⟩
  ·rw [decide_eq_false Aj];refine Alf 36 false<|APd rfl (AOr<|An1 42 false<|APd rfl (AOr<|Aki 49 false<|APd rfl (AOr<|Aki 54 false<|APd rfl (AO1<|AO6<|Ag7 ?_))));obtain rfl:=AOu<|ifF Bf Aj;exact ⟨_,AO7,Aa.x,rfl⟩
 ·refine AO5<|q_t<|AOv<|Ai6 Ar8 AO9 (Aa.b p0) 2 rfl (At7 rfl rfl (AOr ?_));have Bj:=Ahz Be A8;by_cases Ap:0<=a3
  ·have Bl:=ifT Bj Ap;rw [decide_eq_true Ap];refine Ahb 62 true<|Ah2 Ar8 rfl (Ahb 62 true<|Ahu AO9 rfl ((Aa.b p0).cell (i:=2) rfl) (Ahb 62 true<|AOr<|Ahb 62 true<|Ahn rfl rfl (Ahc rfl (AOr ?_))));by_cases Aq:a3 < Ai
   ·have Bm:=ifT Bl Aq;rw [decide_eq_true Aq];refine Ahb 68 true<|Ah2 Ate rfl (Ahb 68 true<|Ahu AO9 rfl ((Aa.b p0).cell (i:=3) rfl) (Ahb 68 true<|At7 rfl rfl (Ahc rfl (AOr ?_))));by_cases Ar:0<=a4
    ·have Bn:=ifT Bm Ar;rw [decide_eq_true Ar];refine Ahb 73 true<|Ah2 Ate rfl (Ahb 73 true<|Ahu AO9 rfl ((Aa.b p0).cell (i:=3) rfl) (Ahb 73 true<|AOr<|Ahb 73 true<|Ahn rfl rfl (Ahc rfl (AOr ?_))));by_cases Au:a4 < Ai
     ·have Bo:=ifT Bn Au;rw [decide_eq_true Au];refine Ahb 79 true<|Ah2 Avn rfl (Ahb 79 true<|Ahu AO9 rfl ((Aa.b p0).cell (i:=4) rfl) (Ahb 79 true<|At7 rfl rfl (Ahc rfl (AOr ?_))));by_cases Av:0<=a5
      ·have Bp:=ifT Bo Av;rw [decide_eq_true Av];refine Ahb 84 true<|Ah2 Avn rfl (Ahb 84 true<|Ahu AO9 rfl ((Aa.b p0).cell (i:=4) rfl) (Ahb 84 true<|AOr<|Ahb 84 true<|Ahn rfl rfl (Ahc rfl (AOr ?_))));by_cases Aw:a5 < Ai
       ·have Bq:=ifT Bp Aw;rw [decide_eq_true Aw];refine Ahb 90 true<|Ah2 Ar8 rfl (Ahb 90 true<|Ahu AO9 rfl ((Aa.b p0).cell (i:=2) rfl) (Ahb 90 true<|Aj6 rfl rfl AOs (Ahb 90 true<|Ai0 rfl rfl (Ahc rfl (AOr ?_)))));by_cases Ax:(Int.tmod a3 2)=0
        ·have Br:=ifT Bq Ax;rw [decide_eq_true Ax];refine Ahb 96 true<|Ah2 Ate rfl (Ahb 96 true<|Ahu AO9 rfl ((Aa.b p0).cell (i:=3) rfl) (Ahb 96 true<|Aj6 rfl rfl AOs (Ahb 96 true<|Ai0 rfl rfl (Ahc rfl (AOr ?_)))));by_cases Ay:(Int.tmod a4 2)=1
         ·rw [decide_eq_true Ay];refine Ahb 102 true<|Ah2 Avn rfl (Ahb 102 true<|Ahu AO9 rfl ((Aa.b p0).cell (i:=4) rfl) (Ahb 102 true<|Aj6 rfl rfl AOs (Ahb 102 true<|Ai0 rfl rfl (Ahc rfl (AO1<|AO6 ?_)))));obtain rfl:=AOu<|ifT Br Ay;exact ⟨_,AO7,Aa.x,rfl⟩
         ·rw [decide_eq_false Ay];refine Alf 102 false<|APd rfl (AO1<|AO6 ?_);obtain rfl:=AOu<|ifF Br Ay;exact ⟨_,AO7,Aa.x,rfl⟩
        ·rw [decide_eq_false Ax];refine Alf 96 false<|APd rfl (AOr<|Alf 102 false<|APd rfl (AO1<|AO6 ?_));obtain rfl:=AOu<|ifF Bq Ax;exact ⟨_,AO7,Aa.x,rfl⟩
       ·rw [decide_eq_false Aw];refine Alf 90 false<|APd rfl (AOr<|Alf 96 false<|APd rfl (AOr<|Alf 102 false<|APd rfl (AO1<|AO6 ?_)));obtain rfl:=AOu<|ifF Bp Aw;exact ⟨_,AO7,Aa.x,rfl⟩
      ·rw [decide_eq_false Av];refine Alf 84 false<|APd rfl (AOr<|Alf 90 false<|APd rfl (AOr<|Alf 96 false<|APd rfl (AOr<|Alf 102 false<|APd rfl (AO1<|AO6 ?_))));obtain rfl:=AOu<|ifF Bo Av;exact ⟨_,AO7,Aa.x,rfl⟩
     ·rw [decide_eq_false Au];refine Aki 79 false<|APd rfl (AOr<|Alf 84 false<|APd rfl (AOr<|Alf 90 false<|APd rfl (AOr<|Alf 96 false<|APd rfl (AOr<|Alf 102 false<|APd rfl (AO1<|AO6 ?_)))));obtain rfl:=AOu<|ifF Bn Au;exact ⟨_,AO7,Aa.x,rfl⟩
    ·rw [decide_eq_false Ar];refine Alf 73 false<|APd rfl (AOr<|Aki 79 false<|APd rfl (AOr<|Alf 84 false<|APd rfl (AOr<|Alf 90 false<|APd rfl (AOr<|Alf 96 false<|APd rfl (AOr<|Alf 102 false<|APd rfl (AO1<|AO6 ?_))))));obtain rfl:=AOu<|ifF Bm Ar;exact ⟨_,AO7,Aa.x,rfl⟩
   ·rw [decide_eq_false Aq];refine Aki 68 false<|APd rfl (AOr<|Alf 73 false<|APd rfl (AOr<|Aki 79 false<|APd rfl (AOr<|Alf 84 false<|APd rfl (AOr<|Alf 90 false<|APd rfl (AOr<|Alf 96 false<|APd rfl (AOr<|Alf 102 false<|APd rfl (AO1<|AO6 ?_)))))));obtain rfl:=AOu<|ifF Bl Aq;exact ⟨_,AO7,Aa.x,rfl⟩
  ·rw [decide_eq_false Ap];refine Alf 62 false<|APd rfl (AOr<|Aki 68 false<|APd rfl (AOr<|Alf 73 false<|APd rfl (AOr<|Aki 79 false<|APd rfl (AOr<|Alf 84 false<|APd rfl (AOr<|Alf 90 false<|APd rfl (AOr<|Alf 96 false<|APd rfl (AOr<|Alf 102 false<|APd rfl (AO1<|AO6 ?_))))))));obtain rfl:=AOu<|ifF Bj Ap;exact ⟨_,AO7,Aa.x,rfl⟩
def Aq7 (fuel:Nat) (a3:List Ak8) (a6 a7 Aa Ah:Int) (Ae:LiI):Option ((Int × Int × LiI) ⊕ LiI):=
 if Ah < (a3.length:Int) then (gI a3 Ah).bind λAc=>(Ajl fuel a6 Ac.1).bind λAd=>(gI Ae Aa).bind λAf=>if a7≠0 then (gI Af Aa).bind λAp=>((if Ac.2.1=2 then (gI (sI Ae Aa<|sI Af Aa<|Int.tmod (w64<|Ad * Ac.2.2.1) a7) Aa).bind λAg=>if a7≠0 then (gI Ag<|w64<|Aa + 1).bind λAq=>(gI (sI (sI Ae Aa<|sI Af Aa<|Int.tmod (w64<|Ad * Ac.2.2.1) a7) Aa<|sI Ag (w64<|Aa + 1)<|Int.tmod (w64<|Ad * Ac.2.2.2.1) a7)<|w64<|Aa + 1).bind λAi=>if a7≠0 then (gI Ai Aa).bind λAr=>(gI (sI (sI (sI Ae Aa<|sI Af Aa<|Int.tmod (w64<|Ad * Ac.2.2.1) a7) Aa<|sI Ag (w64<|Aa + 1)<|Int.tmod (w64<|Ad * Ac.2.2.2.1) a7) (w64<|Aa + 1)<|sI Ai Aa<|Int.tmod (w64<|Ad * Ac.2.2.2.1) a7)<|w64<|Aa + 1).bind λAk=>if a7≠0 then (gI Ak<|w64<|Aa + 1).bind λAu=>some (sI (sI (sI (sI Ae Aa<|sI Af Aa<|Int.tmod (w64<|Ad * Ac.2.2.1) a7) Aa<|sI Ag (w64<|Aa + 1)<|Int.tmod (w64<|Ad * Ac.2.2.2.1) a7) (w64<|Aa + 1)<|sI Ai Aa<|Int.tmod (w64<|Ad * Ac.2.2.2.1) a7) (w64<|Aa + 1)<|sI Ak (w64<|Aa + 1)<|Int.tmod (w64<|Ad * Ac.2.2.2.2) a7) else none else none else none else some<|sI Ae Aa<|sI Af Aa<|Int.tmod (w64<|Ad * Ac.2.2.1) a7):Option LiI).bind (λ(Ao:LiI)=>some<|.inl (w64<|Aa + Ac.2.1,w64<|Ah + 1,Ao)) else none else some<|.inr Ae
def Aoq (fuel:Nat) (a5 Ab:Int) (Ac:LiI):Option ((Int × LiI) ⊕ LiI):=
 if Ab < ((List.replicate (Int.toNat a5) ([]:List Int)).length:Int) then if 0<=a5/\a5<=100000000 then (gI Ac Ab).bind λAd=>some (.inl (w64<|Ab + 1,sI Ac Ab<|List.replicate (Int.toNat a5) (0:Int))) else none else some<|.inr Ac
def Aoc (fuel:Nat) (a3:List Ak8) (a5 a6 a7:Int):Option LiI:=
 if 0<=a5/\a5<=100000000 then (iter (λs=>Aoq fuel a5 s.1 s.2) fuel (0,List.replicate (Int.toNat a5) ([]:List Int))).bind (λ(Ae:LiI)=>(iter (λs=>Aq7 fuel a3 a6 a7 s.1 s.2.1 s.2.2) fuel (0,0,Ae)).bind (λ(Af:LiI)=>some Af)) else none
theorem Ay7 {Ax:Value} {a3:(List Ak8)} {a6 a7:Int} {r:LiI} (H2:SlC Arc h Ax a3) (hp:Aoc fuel a3 a5 a6 a7=some r):Ahs Tryz.prog 91 #[Ax,(.int .i64 a5),(.int .i64 a6),(.int .i64 a7)] h (λx h'=>Ext h h'/\ ∃ (x0:Value) (F0:List Nat) (Bm:List LnA) (Bn:List Value),x=x0/\Aj1 (cI .i64) 61 2 h' F0 Bm Bn x0 r/\Sp h' h.size [F0]):=by
 unfold Aoc at hp;refine cwf (l:=[_,_,_,_]) Tryz.func91 rfl rfl (AOv<|Ah7<|AOr ?_);obtain ⟨Bo,Bp⟩:=ifN hp;refine Ayj (cI .i64) 2 APa As9 rfl trivial tt2 rfl rfl AOs Bo λBq Br Bt Ai Do Bu Bv Bw=>AO1<|AOx<|AOv<|AOr ?_;have Aj:=(Kst.k0 h).no2 Bv Bw Bu;refine Ahx APa rfl (Aj.o2 p0).rd (AOr<|AOz<|AO0<|Amy 267912192 (λx:(Int) × (LiI) × LnA × LnN × LvA=>(x.1,x.2.1)) ((0,(List.replicate (Int.toNat a5) ([]:List Int)),Bq,Br,Bt):(Int) × (LiI) × LnA × LnN × LvA) Bp (λx=>[(19,(.int .i64 x.1))]) (λx=>Aj.L.set 0<|aO2 (cI .i64) 61 2 x.2.2.1 x.2.2.2.1 x.2.2.2.2 Ai x.2.1) Aj ⟨rfl,trivial⟩ ?_);rintro ⟨Dp,Bx,By,Bz,B1⟩ Dq Dr Ds Ak Am B3;unfold Aoq at Am;refine AOv<|Ahn rfl rfl (AOz<|AOx<|⟨_,rfl,λAo=>?_,λAo=>?_⟩)
 ·refine AO5<|q_t<|AOx<|AO0<|AOv<|AOr<|AO1<|Ag6<|AOr<|AOr<|AOr ?_;obtain ⟨B4,B5⟩:=ifN<|Ahy Am Ao;refine Awz (c:=(cI .i64)) (a:=0) APe Ars rfl rfl (λ_=>rfl) rfl trivial tt2 rfl rfl AOs B4 λDt Du Dv B6 B7 B8 B9=>?_;have Ae:=Ak.no B7 (Anw B8 B9) B6;obtain ⟨Dw,A6,Ca⟩:=AOw B5;refine Aij APa rfl (Ae.o2 p1) rfl A6 λDx Dy Cb Dz D0=>Azf Aha (Ae.o2 p1) A6 Cb rfl rfl (Ae.o p0) (Ae.dj p0 p1 AOs) λD1 Cd Ce Cf=>Ahh<|q_b<|q_t<|Ag6<|Ahk rfl rfl (AOr<|AOz ?_);exact ⟨(_,_,_,_,_),(AOu Ca).symm,(Ae.m2 p0 p1 AOs Ce Cd λz hz=> .inl<|Cf z hz).sel [1] AOs,rfl,trivial⟩
 ·refine Ahf<|Ahg<|Ahg<|Aio<|q_t<|AOv<|AO1<|AOx<|AOv<|AOr<|Aim Atu rfl H2 (AOr<|AOz<|AO0<|Amy 316912650057057350373102086144 (λx:(Int) × (Int) × (LiI) × LnA × LnN × LvA=>(x.1,x.2.1,x.2.2.1)) ((0,0,Bx,By,Bz,B1):(Int) × (Int) × (LiI) × LnA × LnN × LvA) (B3 _ (AOu<|Ahz Am Ao).symm) (λx=>[(11,(.int .i64 x.1)),(30,(.int .i64 x.2.1))]) (λx=>Ak.L.set 0<|aO2 (cI .i64) 61 2 x.2.2.2.1 x.2.2.2.2.1 x.2.2.2.2.2 Ai x.2.2.1) Ak ⟨rfl,rfl,trivial⟩ ?_);rintro ⟨Aa,D2,A7,A8,A9,Ba⟩ D3 D4 D5 Af Ap Cg;unfold Aq7 at Ap;refine AOv<|Ahn rfl rfl (AOz<|AOx<|⟨_,rfl,λAq=>?_,λAq=>?_⟩)
  ·refine AO5<|q_t<|AOx<|AO0<|AOv ?_;obtain ⟨Ab,Ch,Ci⟩:=AOw<|Ahy Ap Aq;refine Aqu (c:=Arc) Atu rfl H2 rfl Ch λD6 D7 D8 Cj Ck=>?_;obtain rfl:=Cj;refine Aum (c:=Arc) Art rfl rfl (λj u hu=>(AO8 (Ck j u hu) Af.x)) (Aj4 Af [(.int .i64 0),(.int .i64 0),(.int .i64 0),(.int .i64 0),(.int .i64 0)] Axp λD9 Ea Eb Bb=>Ai5 [(.int .i64 Ab.1),(.int .i64 Ab.2.1),(.int .i64 Ab.2.2.1),(.int .i64 Ab.2.2.2.1),(.int .i64 Ab.2.2.2.2)] Art rfl rfl rfl rfl (by simp [isOne]) (Bb.b p0) λEc Cm Cn=>Apt ?_);have Bc:=Bb.sb p0 Cn Cm rfl;refine AOr<|Ai6 Anv Aii (Bc.b p0) 0 rfl ?_;obtain ⟨Ag,Co,Cp⟩:=AOw Ci;refine Akb Bc (Alo Co) λEd Ee Ar=>AO1<|AOx<|Ame<|AOr<|AOr ?_;obtain ⟨Be,Bf,Cq⟩:=AOw Cp;refine Aiw APa Aha (Ar.o2 p1) Bf λ_ Ef Cr=>AOr<|AOr<|Ai6 Ar8 AO9 (Ar.b p0) 2 rfl (Aou rfl rfl (AOr ?_));obtain ⟨Ct,Cu⟩:=ifN Cq;refine Aj6 rfl rfl Ct ?_;obtain ⟨Eg,Cv,Cw⟩:=AOw Cu;refine Aqv (m:=Aa) Ar p1 APe AO9 Cr Bf Cv (λ_=>rfl) λ_ Eh Ad=>AOz ?_;obtain ⟨Cx,Bg,Cy⟩:=AOw Cw;refine Arb 9903520314281916299286151168 (λx:(LiI) × LnA × LnN × LvA=>[]) (λx h'=>( x.1)=Cx/\Kst h h' (Ad.L.set 1<|aO2 (cI .i64) 61 2 x.2.1 x.2.2.1 x.2.2.2 Ai x.1)) ?_ ?_
   ·refine AOv<|Ai6 Ar7 Aii (Ad.b p0) 1 rfl (Ai0 rfl rfl (AOz<|⟨_,rfl,λAu=>?_,λAu=>?_⟩))
    ·refine AOx<|Ame<|AOr<|AOr ?_;obtain ⟨Cz,Bh,C0⟩:=AOw<|Ahy Bg Au;refine Aiw APa Aha (Ad.o2 p1) Bh λ_ Ei C1=>AOr<|Ahk rfl rfl (AOr<|Ai6 Ate AO9 (Ad.b p0) 3 rfl (Aou rfl rfl (AOr ?_)));obtain ⟨C2,C3⟩:=ifN C0;refine Aj6 rfl rfl C2 ?_;obtain ⟨Ej,C4,C5⟩:=AOw C3;refine Aqv (m:=Aa) Ad p1 APe AO9 C1 Bh C4 (λ_=>rfl) λ_ Ek Av=>AOz<|AOx<|Ame<|AOr<|AOr<|Ahk rfl rfl ?_;obtain ⟨C6,Bi,C7⟩:=AOw C5;refine Aiw APa Aha (Av.o2 p1) Bi λ_ El C8=>AOr<|AOr<|Ai6 Ate AO9 (Av.b p0) 3 rfl (Aou rfl rfl (AOr ?_));obtain ⟨C9,Da⟩:=ifN C7;refine Aj6 rfl rfl C9 ?_;obtain ⟨Em,Db,Dc⟩:=AOw Da;refine Aqv (m:=(w64<|Aa + 1)) Av p1 APe AO9 C8 Bi Db (λ_=>rfl) λ_ En Aw=>AOz<|Ame<|AOr<|AOr<|Ahk rfl rfl ?_;obtain ⟨Dd,Bj,De⟩:=AOw Dc;refine Aiw APa Aha (Aw.o2 p1) Bj λ_ Eo Df=>AOr<|Ahk rfl rfl (AOr<|Ai6 Avn AO9 (Aw.b p0) 4 rfl (Aou rfl rfl (AOr ?_)));obtain ⟨Dg,Dh⟩:=ifN De;refine Aj6 rfl rfl Dg ?_;obtain ⟨Ep,Di,Dj⟩:=AOw Dh;refine Aqv (m:=(w64<|Aa + 1)) Aw p1 APe AO9 Df Bj Di (λ_=>rfl) λ_ Er Dk=>AOz ?_;exact ⟨(((sI (sI (sI (sI A7 Aa<|sI Be Aa<|Int.tmod (w64<|Ag * Ab.2.2.1) a7) Aa<|sI Cz (w64<|Aa + 1)<|Int.tmod (w64<|Ag * Ab.2.2.2.1) a7) (w64<|Aa + 1)<|sI C6 Aa<|Int.tmod (w64<|Ag * Ab.2.2.2.1) a7) (w64<|Aa + 1)<|sI Dd (w64<|Aa + 1)<|Int.tmod (w64<|Ag * Ab.2.2.2.2) a7),A8,A9,Ba):(LiI) × LnA × LnN × LvA),⟨AOu Dj,Dk⟩,trivial⟩
    ·refine AO5<|q_t ?_;exact ⟨(((sI A7 Aa<|sI Be Aa<|Int.tmod (w64<|Ag * Ab.2.2.1) a7),A8,A9,Ba):(LiI) × LnA × LnN × LvA),⟨AOu<|Ahz Bg Au,Ad⟩,trivial⟩
   rintro ⟨Es,Et,Eu,Ev⟩ Ew Ey ⟨Dl,Bl⟩;subst Dl;refine Ag6<|AOr<|Ai6 Ar7 Aii (Bl.b p0) 1 rfl (Ahk rfl rfl (Aho<|Ahh<|q_b<|q_t<|Ag6<|Ahk rfl rfl (AOr<|AOz ?_)));exact ⟨(_,_,_,_,_,_),(AOu Cy).symm,Bl.sel [1] AOs,rfl,rfl,trivial⟩
  ·refine Ahf<|Ahg<|Ahg<|Aio<|q_t<|AOv<|AOr<|AO1<|AO6 ?_;obtain rfl:=AOu<|Cg _ (AOu<|Ahz Ap Aq).symm;exact ⟨_,AO7,Af.x,_,_,_,_,rfl,(Af.o2 p0),Af.s.sel [0] AOs⟩
def Aor (fuel:Nat) (Ad:Int) (Ab:LiA) (Aa:Int):Option (Int ⊕ (Bool ⊕ Unit)):=
 if Aa < (Ab.length:Int) then (gI Ab Aa).bind λAc=>if Ac < 0 then some (.inr<|.inl false) else if Ad<=Ac then some (.inr<|.inl false) else some (.inl<|w64<|Aa + 1) else some<|.inr<|.inr ()
def Amu (fuel:Nat) (a8:LiI) (Ac Aa:Int):Option (Int ⊕ (Bool ⊕ Unit)):=
 if Aa < (a8.length:Int) then (gI a8 Aa).bind λAd=>(iter (λs=>Aor fuel Ac Ad s) fuel 0).bind (λex=>match ex with | .inl Ae=>(some<|.inr<|.inl Ae) | .inr _=>some<|.inl<|w64<|Aa + 1) else some<|.inr<|.inr ()
def Aos (fuel:Nat) (a5:Int) (Ac:List Ak8) (Ae Aa:Int):Option (Int ⊕ (Bool ⊕ Unit)):=
 if Aa < (Ac.length:Int) then (gI Ac Aa).bind λAb=>(Aob fuel Ab.1 Ab.2.1 Ab.2.2.1 Ab.2.2.2.1 Ab.2.2.2.2 a5 Ae).bind λAf=>if (!Af)=true then some (.inr<|.inl false) else if 0 < Aa then (gI Ac<|w64<|Aa - 1).bind λAg=>if Ab.1 < Ag.1 then some (.inr<|.inl false) else some (.inl<|w64<|Aa + 1) else some (.inl<|w64<|Aa + 1) else some<|.inr<|.inr ()
def Aod (fuel:Nat) (a3:LiI) (a5:Int) (a8:LiI) (Ae:List Ak8):Option Bool:=
 (Alc fuel a3 a5).bind λAf=>(Ajl fuel a5 Af).bind λAd=>(iter (λs=>Aos fuel a5 Ae Af s) fuel 0).bind (λex=>match ex with | .inl Ag=>(some Ag) | .inr _=>(iter (λs=>Amu fuel a8 Ad s) fuel 0).bind (λex=>match ex with | .inl Ah=>(some Ah) | .inr _=>(Aoh fuel a8 a5).bind λ(Ai,Ao)=>(Amc fuel a3 a8 Ad).bind λ(Aj,Ap)=>if ¬ Ai=0 then (Aoc fuel Ae (a3.length:Int) a5 Ad).bind λAk=>(Ao9 fuel Aj Ak).bind λAm=>some Am else some false))
theorem Ay8 {Be:Value} {a3:LiI} {Ap:Value} {a8:LiI} {Aq:Value} {Bh:(List Ak8)} {r:Bool} (H2:Ajw (cI .i64) h Be a3) (H7:Ajw (cI .i64) h Ap a8) (Ah:SlC Arc h Aq Bh) (hp:Aod fuel a3 a5 a8 Bh=some r):Ahs Tryz.prog 45 #[Be,(.agg #[(.int .i64 a5),Ap,Aq])] h (λx h'=>Ext h h'/\x= .bool r):=by
 unfold Aod at hp;refine cwf (l:=[_,_]) Tryz.func45 rfl rfl (AOv<|Ano (Kst.k0 h) [(.int .i64 a5),Ap,Aq] λCv Cw Cx Au=>Ah7<|AOr<|Ai6 Awj AO9 (Au.b p0) 0 rfl ?_);obtain ⟨Cy,Bu,Bv⟩:=AOw hp;refine Akb Au (Au6 (H2.ext Au.x) Bu) λCz C0 Bi=>Ah7<|Ai6 Awj AO9 (Bi.b p0) 0 rfl (AOr ?_);obtain ⟨C1,Bw,Bx⟩:=AOw Bv;refine Akb Bi (Alo Bw) λC2 C3 Av=>AO1<|AOx<|AOv<|Ai6 Ao4 Avc (Av.b p0) 2 rfl (Aim Atu rfl Ah (AOr<|AOz<|AO0<|Arf 72057593769492880 Bx (λx=>[(28,(.int .i64 x))]) (λx=>Av.L) Av ⟨rfl,trivial⟩ ?_));rintro By C4 C5 C6 Ad Aw Ax;unfold Aos at Aw;refine AOv<|Ahn rfl rfl (AOz<|AOx<|⟨_,rfl,λAy=>?_,λAy=>?_⟩)
 ·refine AO5<|q_t<|AOx<|AO0<|AOv<|AOr ?_;obtain ⟨Aa,Bz,B1⟩:=AOw<|Ahy Aw Ay;refine Aqu (c:=Arc) Atu rfl Ah rfl Bz λC7 C8 C9 B3 B4=>?_;obtain rfl:=B3;refine Aum (c:=Arc) Art rfl rfl (λj u hu=>(AO8 (B4 j u hu) Ad.x)) (Aj4 Ad [(.int .i64 0),(.int .i64 0),(.int .i64 0),(.int .i64 0),(.int .i64 0)] Axp λDa Db Dc Bj=>Aho<|Ai5 [(.int .i64 Aa.1),(.int .i64 Aa.2.1),(.int .i64 Aa.2.2.1),(.int .i64 Aa.2.2.2.1),(.int .i64 Aa.2.2.2.2)] Art rfl rfl rfl rfl (by simp [isOne]) (Bj.b p0) λDd B5 B6=>AOz<|AOx<|Ame ?_);have Az:=Bj.sb p0 B6 B5 rfl;refine Anm [(.int .i64 Aa.1),(.int .i64 Aa.2.1),(.int .i64 Aa.2.2.1),(.int .i64 Aa.2.2.2.1),(.int .i64 Aa.2.2.2.2)] Art rfl rfl (Az.b p0).agg (Ai6 Awj AO9 (Az.b p1) 0 rfl (AOr ?_));obtain ⟨B7,B8,Bl⟩:=AOw B1;refine Akb Az (Ay6 B8) λDe Df Ab=>Akc rfl (AOr ?_);cases Bm:(!B7)
  ·refine Ahb 39 false<|AOr<|Ahb 39 false<|Anj rfl rfl (Ahb 39 false<|AOr ?_);have Bn:=Aok Bl Bm;by_cases Ai:0 < By
   ·rw [decide_eq_true Ai];refine Ahb 42 true<|Ah2 Anv rfl (Ahb 42 true<|Ahu Aii rfl ((Ab.b p0).cell (i:=0) rfl) (Ahb 42 true<|Ah2 Ao4 rfl (Ahb 42 true<|Ahu Avc rfl ((Ab.b p1).cell (i:=2) rfl) (Ahb 42 true<|AOr<|Ahb 42 true<|Amr rfl rfl (Ahb 42 true ?_)))));obtain ⟨Dg,B9,Bo⟩:=AOw<|ifT Bn Ai;refine Aqu (c:=Arc) Atu rfl Ah rfl B9 λDh Di Dj Ca Cb=>?_;obtain rfl:=Ca;refine Ahb 42 true<|Ah2 Anv rfl (Ahb 42 true<|Ahu Aii rfl (AO8 (Cb 0 _ rfl) Ab.x) (Ahb 42 true<|Ahn rfl rfl (Ahb 39 false<|Ahc rfl (APd rfl (AOz<|⟨_,rfl,λA3=>?_,λA3=>?_⟩)))))
    ·refine AOv<|AO1<|AO6<|Ail<|Ag7<|Ag7<|Ail<|Ag7 ?_;obtain rfl:=AOu<|Ax _ (AOu<|Ahy Bo A3).symm;exact ⟨_,AO7,Ab.x,rfl⟩
    ·refine AO5<|q_b<|q_t<|Ag6<|Ahk rfl rfl (AOr<|AOz ?_);exact ⟨_,(AOu<|Ahz Bo A3).symm,Ab.sel [1] AOs,rfl,trivial⟩
   ·rw [decide_eq_false Ai];refine An1 42 false<|An1 42 false<|Ahb 39 false<|APd rfl (APd rfl (AOz<|Aht rfl (AO5<|q_b<|q_t<|Ag6<|Ahk rfl rfl (AOr<|AOz ?_))));exact ⟨_,(AOu<|ifF Bn Ai).symm,Ab.sel [1] AOs,rfl,trivial⟩
  ·refine Aki 39 true<|Ajn 42 AO4 rfl (Ajn 42 AO4 rfl (Ajn 42 AO4 rfl (Ajn 42 AO4 rfl (Ajn 42 AO4 rfl (Ajn 42 AO4 rfl (Ajn 42 AO4 rfl (Ajn 42 AO4 rfl (Ajn 42 AO4 rfl (Ajn 42 AO4 rfl (BA1 39 true<|Ahc rfl (AOz<|Ahp rfl (AOv<|AO1<|AO6<|Ail<|Ag7<|Ag7<|Ail<|Ag7 ?_))))))))))));obtain rfl:=AOu<|Ax _ (AOu<|ifT Bl Bm).symm;exact ⟨_,AO7,Ab.x,rfl⟩
 ·refine Ahf<|Ahg<|Ahg<|Aio<|q_t<|AOx<|AOv<|Ai6 Apd Aia (Ad.b p0) 1 rfl (Ahx APa rfl H7 (AOr<|AOz<|AO0<|Arf 302230878442904990258192 (Ax _ (AOu<|Ahz Aw Ay).symm) (λx=>[(59,(.int .i64 x))]) (λx=>Ad.L) Ad ⟨rfl,trivial⟩ ?_));rintro Dk Dl Do Dp Ac A4 A5;unfold Amu at A4;refine AOv<|Ahn rfl rfl (AOz<|AOx<|⟨_,rfl,λA6=>?_,λA6=>?_⟩)
  ·refine AO5<|q_t<|AOx<|AO0<|AOv ?_;obtain ⟨Dq,Cd,Ce⟩:=AOw<|Ahy A4 A6;refine An3 APa Aha H7 Ac.x Cd λ_ Dr Bp=>Ah7<|AOr<|Aim APe rfl Bp (AOr<|AOz<|AO0<|Arf 151078833963681227739152 Ce (λx=>[(65,(.int .i64 x))]) (λx=>Ac.L) Ac ⟨rfl,trivial⟩ ?_);rintro Ds Dt Du Dv Ae A7 A8;unfold Aor at A7;refine AOv<|Ahn rfl rfl (AOz<|AOx<|⟨_,rfl,λA9=>?_,λA9=>?_⟩)
   ·refine AO5<|q_t<|AOx<|AO0<|AOv ?_;obtain ⟨Cf,Cg,Bq⟩:=AOw<|Ahy A7 A9;refine A1l APe AO9 Bp Ae.x Cg λ_=>(Ah7<|AOr<|Ahn rfl rfl (AOr ?_));by_cases Aj:Cf < 0
    ·rw [decide_eq_true Aj];refine Aki 71 true<|Ahc rfl (AOz<|Ahp rfl (AOv<|AO1<|AO6<|Ail<|Ag7<|Ag7<|Ail<|Ail<|Ag7<|Ag7<|Ail<|Ag7 ?_));obtain rfl:=AOu<|A5 _ (AOu<|A8 _ (AOu<|ifT Bq Aj).symm).symm;exact ⟨_,AO7,Ae.x,rfl⟩
    ·have Br:=ifF Bq Aj;rw [decide_eq_false Aj];refine Ahb 71 false<|AOr<|Ahb 71 false<|AOr<|Ahb 71 false<|At7 rfl rfl (APd rfl (AOz<|⟨_,rfl,λBa=>?_,λBa=>?_⟩))
     ·refine AOv<|AO1<|AO6<|Ail<|Ag7<|Ag7<|Ail<|Ail<|Ag7<|Ag7<|Ail<|Ag7 ?_;obtain rfl:=AOu<|A5 _ (AOu<|A8 _ (AOu<|Ahy Br Ba).symm).symm;exact ⟨_,AO7,Ae.x,rfl⟩
     ·refine AO5<|q_b<|q_t<|Ag6<|Ahk rfl rfl (AOr<|AOz ?_);exact ⟨_,(AOu<|Ahz Br Ba).symm,Ae,rfl,trivial⟩
   ·refine Ahf<|Ahg<|Ahg<|Aio<|q_b<|q_t<|Ag6<|Ahk rfl rfl (AOr<|AOz ?_);exact ⟨_,(AOu<|A8 _ (AOu<|Ahz A7 A9).symm).symm,Ae,rfl,trivial⟩
  ·refine Ahf<|Ahg<|Ahg<|Aio<|q_t<|AOv<|Ai6 Apd Aia (Ac.b p0) 1 rfl (Ai6 Awj AO9 (Ac.b p0) 0 rfl ?_);obtain ⟨⟨Ch,Dw⟩,Ci,Bt⟩:=AOw<|A5 _ (AOu<|Ahz A4 A6).symm;dsimp only at Bt;refine Akb Ac (A1b (H7.ext Ac.x) Ci) λDx Dy Ak=>AOr<|Ait rfl rfl (Ait rfl rfl (Aho<|Ah7<|AOr<|Ai6 Apd Aia (Ak.b p0) 1 rfl (AOr ?_)));obtain ⟨⟨Dz,D0⟩,Cj,Bb⟩:=AOw Bt;dsimp only at Bb;refine Aqs rfl (Axg (H2.ext Ak.x) (H7.ext Ak.x) Cj) λD1 D2 Ck Cm=>?_;obtain ⟨D3,D4,D5,D6,rfl,Cn,Co⟩:=Cm;refine AOr<|Ait rfl rfl (Ait rfl rfl (Aho<|Ah7<|AOr<|Ajs rfl rfl (AOr ?_)));have Af:=Ak.no2 Ck Co Cn;by_cases Am: ¬ Ch=0
   ·rw [decide_eq_true Am];refine Ahb 96 true<|AOr<|Ahb 96 true<|Ah2 Ao4 rfl (Ahb 96 true<|Ahu Avc rfl ((Af.b p1).cell (i:=2) rfl) (Ahb 96 true<|AOr<|Ahb 96 true<|Ahx APa rfl H2 (Ahb 96 true<|Ah2 Awj rfl (Ahb 96 true<|Ahu AO9 rfl ((Af.b p1).cell (i:=0) rfl) (Ahb 96 true<|AOr<|Ahb 96 true ?_)))));obtain ⟨D7,Cp,Cq⟩:=AOw<|ifT Bb Am;refine Aux Af (Ay7 (Ah.ext Af.x) Cp) λD8 D9 Ea Eb Ec Ed Bc=>Ahb 96 true ?_;obtain ⟨Ee,Cr,Ct⟩:=AOw Cq;refine Akb Bc (A0f (Bc.o2 p1).rd (Bc.o2 p0).rd Cr) λEf Eg Cu=>Ahc rfl (AO1<|AO6 ?_);obtain rfl:=AOu Ct;exact ⟨_,AO7,Cu.x,rfl⟩
   ·rw [decide_eq_false Am];refine An1 96 false<|An1 96 false<|APd rfl (AO1<|AO6 ?_);obtain rfl:=AOu<|ifF Bb Am;exact ⟨_,AO7,Af.x,rfl⟩
def Auf (fuel:Nat) (a3 a7:List Att) (Ac:Int):Option (Int ⊕ (Bool ⊕ Unit)):=
 if Ac < (a3.length:Int) then (gI a3 Ac).bind λAa=>(gI a7 Ac).bind λAb=>if (!(decide ((Aa.1,Aa.2.1,Aa.2.2.1,Aa.2.2.2.1,Aa.2.2.2.2)=(Ab.1,Ab.2.1,Ab.2.2.1,Ab.2.2.2.1,Ab.2.2.2.2))))=true then some (.inr<|.inl false) else some (.inl<|w64<|Ac + 1) else some<|.inr<|.inr ()
def Ar2 (fuel:Nat) (a3 a7:List Att):Option Bool:=
 if ¬ (a3.length:Int)=(a7.length:Int) then some false else (iter (λs=>Auf fuel a3 a7 s) fuel 0).bind (λex=>match ex with | .inl Ac=>(some Ac) | .inr _=>some true)
theorem Ax7 {Ah:Value} {a3:(List Att)} {Aj:Value} {a7:(List Att)} {r:Bool} (H2:SlC Awh h Ah a3) (H6:SlC Awh h Aj a7) (hp:Ar2 fuel a3 a7=some r):Ahs Tryz.prog 23 #[Ah,Aj] h (λx h'=>Ext h h'/\x= .bool r):=by
 unfold Ar2 at hp;refine cwf (l:=[_,_]) Tryz.func23 rfl rfl (AOv<|AO1<|AOx<|AOv<|AOr<|Aim A1k rfl H2 (AOr<|Aim A1k rfl H6 (Ajs rfl rfl (AOz ?_))));have K0:=Kst.k0 h;refine ⟨_,rfl,λAd=>?_,λAd=>?_⟩
 ·refine AOv<|AO1<|AO6<|Ag7 ?_;obtain rfl:=AOu<|Ahy hp Ad;exact ⟨_,AO7,K0.x,rfl⟩
 ·refine AO5<|q_t<|AOx<|AOv<|AOr<|Aim A1k rfl H2 (AOr<|AOz<|AO0<|Arf 67100720 (Ahz hp Ad) (λx=>[(13,(.int .i64 x))]) (λx=>K0.L) K0 ⟨rfl,trivial⟩ ?_);rintro Az A3 A4 A5 Aa Ae Ao;unfold Auf at Ae;refine AOv<|Ahn rfl rfl (AOz<|AOx<|⟨_,rfl,λAf=>?_,λAf=>?_⟩)
  ·refine AO5<|q_t<|AOx<|AO0<|AOv<|AOr<|AO1<|AOx<|Ame<|AOr<|AOr ?_;obtain ⟨A6,Aq,Ar⟩:=AOw<|Ahy Ae Af;refine Aqu (c:=Awh) A1k rfl H2 rfl Aq λA7 A8 A9 Au Av=>?_;obtain rfl:=Au;refine Aum (c:=Awh) A9o rfl rfl (λj u hu=>(AO8 (Av j u hu) Aa.x)) (AOr<|AOr ?_);obtain ⟨Ba,Aw,Ap⟩:=AOw Ar;refine Aqu (c:=Awh) A1k rfl H6 rfl Aw λBb Bc Be Ax Ay=>?_;obtain rfl:=Ax;refine Aum (c:=Awh) A9o rfl rfl (λj u hu=>(AO8 (Ay j u hu) Aa.x)) (BRm AO4 rfl rfl (BRv _ _ _ _ _ _ _ _ _ _) (AOz<|⟨_,rfl,λAg=>?_,λAg=>?_⟩))
   ·refine AOv<|AO1<|AO6<|Ail<|Ag7<|Ag7<|Ail<|Ag7 ?_;obtain rfl:=AOu<|Ao _ (AOu<|ifT Ap Ag).symm;exact ⟨_,AO7,Aa.x,rfl⟩
   ·refine AO5<|q_b<|q_t<|Ag6<|Ahk rfl rfl (AOr<|AOz ?_);exact ⟨_,(AOu<|Aok Ap Ag).symm,Aa,rfl,trivial⟩
  ·refine Ahf<|Ahg<|Ahg<|Aio<|q_t<|AOv<|AO1<|AO6 ?_;obtain rfl:=AOu<|Ao _ (AOu<|Ahz Ae Af).symm;exact ⟨_,AO7,Aa.x,rfl⟩
def Aq8 (fuel:Nat) (a8:List Ak8) (Ad Aa:Int):Option ((Int × Int) ⊕ (Bool ⊕ Int)):=
 if Aa < (a8.length:Int) then (gI a8 Aa).bind λAb=>((if ¬ Ab.2.1=1 then if ¬ Ab.2.1=2 then some (.inl false) else some (.inr ()) else some<|.inr ()):Option (Bool ⊕ Unit)).bind (λex=>match ex with | .inl Ae=>(some<|.inr<|.inl Ae) | .inr _=>some<|.inl (w64<|Ad - Ab.2.1,w64<|Aa + 1)) else some<|.inr<|.inr Ad
def Aot (fuel:Nat) (a4:LiI) (Ac Aa:Int):Option (Int ⊕ (Bool ⊕ Unit)):=
 if Aa < (a4.length:Int) then (gI a4 Aa).bind λAd=>if ¬ (Ad.length:Int)=Ac then some (.inr<|.inl false) else some (.inl<|w64<|Aa + 1) else some<|.inr<|.inr ()
def Aoe (fuel:Nat) (a1:Int) (a4:LiI) (a8:List Ak8) (Aa:Int):Option Bool:=
 ((if ¬ (a4.length:Int)=Aa then some (.inl false) else if Aa < (a8.length:Int) then some (.inl false) else some<|.inr ()):Option (Bool ⊕ Unit)).bind (λex=>match ex with | .inl Ad=>(some Ad) | .inr _=>(iter (λs=>Aot fuel a4 Aa s) fuel 0).bind (λex=>match ex with | .inl Ae=>(some Ae) | .inr _=>(iter (λs=>Aq8 fuel a8 s.1 s.2) fuel (Aa,0)).bind (λex=>match ex with | .inl Af=>(some Af) | .inr Ag=>some<|decide (Ag=0))))
theorem Ay9 {Ah:Value} {a4:LiI} {Aj:Value} {a8:(List Ak8)} {Ak:Int} {r:Bool} (H3:Ajw (cI .i64) h Ah a4) (H7:SlC Arc h Aj a8) (hp:Aoe fuel a1 a4 a8 Ak=some r):Ahs Tryz.prog 44 #[(.agg #[(.int .i64 a1),Ah,Aj]),(.int .i64 Ak)] h (λx h'=>Ext h h'/\x= .bool r):=by
 unfold Aoe at hp;refine cwf (l:=[_,_]) Tryz.func44 rfl rfl (AOv<|Ano (Kst.k0 h) [(.int .i64 a1),Ah,Aj] λBv Bw Bx Aa=>AO1 ?_);obtain ⟨Bh,A6,Ap⟩:=AOw hp;refine Arb 2096656 (λx:Unit=>[]) (λx h'=>(Sum.inr <| ())=Bh/\Kst h h' (Aa.L)) ?_ ?_
 ·refine AOv<|Ai6 Apd Aia (Aa.b p0) 1 rfl (Ahx APa rfl H3 (AOr<|Ajs rfl rfl (AOr ?_)));by_cases Ae: ¬ (a4.length:Int)=Ak
  ·rw [decide_eq_true Ae];refine An1 14 true<|Ahc rfl (AOz<|Ahp rfl (AOv<|AO1 ?_));obtain rfl:=AOu<|ifT A6 Ae;refine AO6<|Ag7 ?_;obtain rfl:=AOu Ap;exact ⟨_,AO7,Aa.x,rfl⟩
  ·have A7:=ifF A6 Ae;rw [decide_eq_false Ae];refine Ahb 14 false<|Ah2 Ao4 rfl (Ahb 14 false<|Ahu Avc rfl ((Aa.b p0).cell (i:=2) rfl) (Ahb 14 false<|Aim Atu rfl H7 (Ahb 14 false<|AOr<|Ahb 14 false<|Anj rfl rfl (APd rfl (AOz<|⟨_,rfl,λAq=>?_,λAq=>?_⟩)))))
   ·refine AOv<|AO1 ?_;obtain rfl:=AOu<|Ahy A7 Aq;refine AO6<|Ag7 ?_;obtain rfl:=AOu Ap;exact ⟨_,AO7,Aa.x,rfl⟩
   ·refine AO5<|q_t ?_;exact ⟨(():Unit),⟨AOu<|Ahz A7 Aq,Aa⟩,trivial⟩
 rintro ⟨⟩ By Bz ⟨Bi,Ar⟩;subst Bi;refine AOx<|AOv<|Ai6 Apd Aia (Ar.b p0) 1 rfl (Ahx APa rfl H3 (AOr<|AOz<|AO0<|Arf 8573157456 Ap (λx=>[(24,(.int .i64 x))]) (λx=>Ar.L) Ar ⟨rfl,trivial⟩ ?_));rintro B1 B3 B4 B5 Ad Au A8;unfold Aot at Au;refine AOv<|Ahn rfl rfl (AOz<|AOx<|⟨_,rfl,λAv=>?_,λAv=>?_⟩)
 ·refine AO5<|q_t<|AOx<|AO0<|AOv ?_;obtain ⟨B6,Bj,A9⟩:=AOw<|Ahy Au Av;refine An3 APa Aha H3 Ad.x Bj λ_ B7 Bl=>Ah7<|AOr<|Aim APe rfl Bl (AOr<|Ajs rfl rfl (AOz<|⟨_,rfl,λAw=>?_,λAw=>?_⟩))
  ·refine AOv<|AO1<|AO6<|Ail<|Ag7<|Ag7<|Ail<|Ag7 ?_;obtain rfl:=AOu<|A8 _ (AOu<|Ahy A9 Aw).symm;exact ⟨_,AO7,Ad.x,rfl⟩
  ·refine AO5<|q_b<|q_t<|Ag6<|Ahk rfl rfl (AOr<|AOz ?_);exact ⟨_,(AOu<|Ahz A9 Aw).symm,Ad,rfl,trivial⟩
 ·refine Ahf<|Ahg<|Ahg<|Aio<|q_t<|AOx<|AOv<|Ai6 Ao4 Avc (Ad.b p0) 2 rfl (Aim Atu rfl H7 (AOr<|AOz<|AO0 ?_));have Ax:=Ad.sel [] AOs;dsimp only [Aoz,Ar4] at Ax;refine Arf 9007130535264530 (A8 _ (AOu<|Ahz Au Av).symm) (λx=>[(1,(.int .i64 x.1)),(36,(.int .i64 x.2))]) (λx=>Ax.L) Ax ⟨rfl,rfl,trivial⟩ ?_;rintro ⟨B8,B9⟩ Ca Cb Cd Ay Az Ba;unfold Aq8 at Az;refine AOv<|Ahn rfl rfl (AOz<|AOx<|⟨_,rfl,λA3=>?_,λA3=>?_⟩)
  ·refine AO5<|q_t<|AOx<|AO0<|AOv ?_;obtain ⟨Ab,Bm,Bn⟩:=AOw<|Ahy Az A3;refine Aqu (c:=Arc) Atu rfl H7 rfl Bm λCe Cf Cg Bo Bp=>?_;obtain rfl:=Bo;refine Aum (c:=Arc) Art rfl rfl (λj u hu=>(AO8 (Bp j u hu) Ay.x)) (Aj4 Ay [(.int .i64 0),(.int .i64 0),(.int .i64 0),(.int .i64 0),(.int .i64 0)] Axp λCh Ci Cj Bb=>Ai5 [(.int .i64 Ab.1),(.int .i64 Ab.2.1),(.int .i64 Ab.2.2.1),(.int .i64 Ab.2.2.2.1),(.int .i64 Ab.2.2.2.2)] Art rfl rfl rfl rfl (by simp [isOne]) (Bb.b p0) λCk Bq Br=>AOz ?_);have Ac:=Bb.sb p0 Br Bq rfl;obtain ⟨Bt,Bc,Be⟩:=AOw Bn;refine Arb 280375465082896 (λx:Unit=>[]) (λx h'=>(Sum.inr <| ())=Bt/\Kst h h' (Ac.L)) ?_ ?_
   ·refine AOv<|Ai6 Ar7 Aii (Ac.b p0) 1 rfl (Ajs rfl rfl (AOr ?_));by_cases Af: ¬ Ab.2.1=1
    ·have Bf:=ifT Bc Af;rw [decide_eq_true Af];refine Ahb 43 true<|Ah2 Ar7 rfl (Ahb 43 true<|Ahu Aii rfl ((Ac.b p0).cell (i:=1) rfl) (Ahb 43 true<|Ajs rfl rfl (Ahc rfl (AOz<|⟨_,rfl,λA4=>?_,λA4=>?_⟩))))
     ·refine AOv<|AO1 ?_;obtain rfl:=AOu<|Ahy Bf A4;refine AO6<|Ag7<|Ail<|Ag7<|Ag7<|Ail<|Ag7 ?_;obtain rfl:=AOu<|Ba _ (AOu Be).symm;exact ⟨_,AO7,Ac.x,rfl⟩
     ·refine AO5<|q_t ?_;exact ⟨(():Unit),⟨AOu<|Ahz Bf A4,Ac⟩,trivial⟩
    ·rw [decide_eq_false Af];refine Aki 43 false<|APd rfl (AOz<|Aht rfl (AO5<|q_t ?_));exact ⟨(():Unit),⟨AOu<|ifF Bc Af,Ac⟩,trivial⟩
   rintro ⟨⟩ Cm Cn ⟨Bu,Bg⟩;subst Bu;refine Ag6<|AOr<|Ai6 Ar7 Aii (Bg.b p0) 1 rfl (Amr rfl rfl (Aho<|Ahh<|q_b<|q_t<|Ag6<|Ahk rfl rfl (AOr<|AOz ?_)));exact ⟨_,(AOu Be).symm,Bg.sel [] AOs,rfl,rfl,trivial⟩
  ·refine Ahf<|Ahg<|Ahg<|Aio<|q_t<|AOv<|AOr<|Ai0 rfl rfl (AO1<|AO6 ?_);obtain rfl:=AOu<|Ba _ (AOu<|Ahz Az A3).symm;exact ⟨_,AO7,Ay.x,rfl⟩
def Anu (fuel:Nat) (a3:LiI) (a5:Int) (a8:LiI) (Ad:List Ak8):Option Int:=
 (Ak6 fuel a3).bind λAe=>if (!Ae)=true then some 6 else if ¬ a5=2 then some 20 else (Aoe fuel a5 a8 Ad (a3.length:Int)).bind λAf=>if (!Af)=true then some 3 else (Aod fuel a3 a5 a8 Ad).bind λAg=>if (!Ag)=true then some 10 else some 0
theorem Ayy {Ak:Value} {a3:LiI} {Ad:Value} {a8:LiI} {Ae:Value} {Ap:(List Ak8)} (H2:Ajw (cI .i64) h Ak a3) (H7:Ajw (cI .i64) h Ad a8) (Ar:SlC Arc h Ae Ap) (hp:Anu fuel a3 a5 a8 Ap=some r):Ahs Tryz.prog 13 #[Ak,(.agg #[(.int .i64 a5),Ad,Ae])] h (λx h'=>Ext h h'/\x= .int .i64 r):=by
 unfold Anu at hp;refine cwf (l:=[_,_]) Tryz.func13 rfl rfl (AOv<|Ano (Kst.k0 h) [(.int .i64 a5),Ad,Ae] λA6 A7 A8 Au=>AO1<|AOx<|AOv<|AOr ?_);obtain ⟨A9,A3,Av⟩:=AOw hp;refine Akb Au (Axt (H2.ext Au.x) A3) λBa Bb Aa=>Akc rfl (AOz<|⟨_,rfl,λAg=>?_,λAg=>?_⟩)
 ·refine AOv<|AO1<|AO6<|Ag7 ?_;obtain rfl:=AOu<|ifT Av Ag;exact ⟨_,AO7,Aa.x,rfl⟩
 ·refine AO5<|q_t<|AOx<|AOv<|Ai6 Awj AO9 (Aa.b p0) 0 rfl (Ajs rfl rfl (AOz ?_));have Aw:=Aok Av Ag;refine ⟨_,rfl,λAh=>?_,λAh=>?_⟩
  ·refine AOv<|AO1<|AO6<|Ag7 ?_;obtain rfl:=AOu<|Ahy Aw Ah;exact ⟨_,AO7,Aa.x,rfl⟩
  ·refine AO5<|q_t<|AOx<|AOv<|Anm [(.int .i64 a5),Ad,Ae] Ai7 rfl rfl (Aa.b p0).agg (AOr<|Ahx APa rfl H2 ?_);obtain ⟨Bc,A4,Ax⟩:=AOw<|Ahz Aw Ah;refine Akb Aa (Ay9 (H7.ext Aa.x) (Ar.ext Aa.x) A4) λBe Bf Ab=>Akc rfl (AOz<|⟨_,rfl,λAi=>?_,λAi=>?_⟩)
   ·refine AOv<|AO1<|AO6<|Ag7 ?_;obtain rfl:=AOu<|ifT Ax Ai;exact ⟨_,AO7,Ab.x,rfl⟩
   ·refine AO5<|q_t<|AOx<|AOv<|AOr<|Anm [(.int .i64 a5),Ad,Ae] Ai7 rfl rfl (Ab.b p0).agg ?_;obtain ⟨Bg,A5,Ay⟩:=AOw<|Aok Ax Ai;refine Akb Ab (Ay8 (H2.ext Ab.x) (H7.ext Ab.x) (Ar.ext Ab.x) A5) λBh Bi Az=>Akc rfl (AOz<|⟨_,rfl,λAj=>?_,λAj=>?_⟩)
    ·refine AOv<|AO1<|AO6<|Ag7 ?_;obtain rfl:=AOu<|ifT Ay Aj;exact ⟨_,AO7,Az.x,rfl⟩
    ·refine AO5<|q_t<|AOv<|AO1<|AO6 ?_;obtain rfl:=AOu<|Aok Ay Aj;exact ⟨_,AO7,Az.x,rfl⟩
end Go.Proofs.YtkakafabeobahaaGreatDoor
namespace Go.Proofs.YtkakafabeobahaaGreatDoor
open Go Go.QF
set_option maxRecDepth 100000
theorem Axx {E:Type} {body:Int->Option (Int ⊕ (E ⊕ Unit))} {n:Nat} (good:Nat->Prop) (bad:E) (hf:n < fuel) (hs:∀ i:Nat,i < n->Ok (body (i:Int)) λr=>(r= .inl ((i + 1:Nat):Int)/\good i)∨(r= .inr (.inl bad)/\¬ good i)) (he:body (n:Int)=some (.inr<|.inr ())):
 Ok (iter body fuel 0) λex=>(ex= .inr ()/\ ∀ i,i < n->good i)∨(ex= .inl bad/\¬ ∀ i,i < n->good i):=by
 refine Ah4 (λi s=>s=(i:Int)/\ ∀ j,j < i->good j) n ⟨rfl,λj hj=>absurd hj<|Nat.not_lt_zero j⟩ hf λi s hi hI=>?_;obtain ⟨rfl,hI⟩:=hI
 by_cases h:i < n
 ·refine A6d (hs i h) λr hr=>?_;grind
 ·obtain rfl:i=n:=by omega
  rw [he];exact AOt<|.inl ⟨rfl,hI⟩
theorem BAl {body:List α × Int->Option ((List α × Int) ⊕ List α)} {n:Nat} (f:Nat->α) (hf:n < fuel) (hs:∀ i:Nat,i < n->body (Aju i f,(i:Int))=some (.inl (Aju i f ++ [f i],((i + 1:Nat):Int)))) (he:∀ X,body (X,(n:Int))=some (.inr X)):iter body fuel ([],0)=some (Aju n f):=by
 apply ok_eq;refine Ah4 (λi s=>s=(Aju i f,(i:Int))) n rfl hf λi s hi hI=>?_;subst hI
 by_cases h:i < n
 ·rw [hs i h,Av0];exact AOt ⟨h,rfl⟩
 ·obtain rfl:i=n:=by omega
  rw [he];exact AOt rfl
theorem BK6 {body:Int × List Int->Option ((Int × List Int) ⊕ List Int)} {n:Nat} {g0:Nat->Int} (v:Nat->Int) (hf:n < fuel)
 (hs:∀ (j:Nat) (g:Nat->Int),j < n->g j=g0 j->body ((j:Int),Aju n g)=some (.inl (((j + 1:Nat):Int),Aju n λc=>if c=j then v j else g c)))
 (he:∀ X,body ((n:Int),X)=some (.inr X)):iter body fuel (0,Aju n g0)=some (Aju n v):=by
 apply ok_eq
 refine Ah4 (λj s=>s=((j:Int),Aju n λc=>if c < j then v c else g0 c)) n ?_ hf λj s hj hI=>?_
 ·grind
 ·subst hI
  by_cases h:j < n
  ·rw [hs j _ h<|if_neg AOq];refine AOt ⟨h,?_⟩;refine congrArg (λz=>(((j + 1:Nat):Int),Aju n z))<|funext λc=>?_
   by_cases h1:c=j
   ·grind
   omega
  ·obtain rfl:j=n:=by omega
   rw [he];exact AOt<|Aiy λc hc=>if_pos hc
def BK7 (n:Nat) (q:Int) (A T:Ahe):Ahe:=λi j=>psum (λk=>T k i % q * (psum (λl=>A k l % q * (T l j % q)) n % q)) n % q
theorem A0k (n:Nat) (hq:2<=q) (F:Ahe):BQt n q λi j=>F i j % q:=λi j _ _=>⟨Int.emod_nonneg _ AOq,Int.emod_lt_of_pos _ AOq⟩
theorem BNs {n:Nat} (Aa:1<=n) (hn:n<=8) (hq:2<=q) (Ab:q<=2147483647) (hf:100 < fuel):Apa fuel (tab n n A) (tab n n T) q=some (tab n n<|BK7 n q A T,0):=by
 unfold Apa;have h1:Aj5 fuel q=some 0:=by unfold Aj5;grind
 rw [A75 Aa hn hf,A75 Aa hn hf];simp only [Option.bind_some];rw [if_neg AOs,A4w<|Ahw AOq,Ah0,Ahv,Ahv,if_neg AOs,if_neg λh=>h rfl,if_neg λh=>h rfl];simp only [Option.bind_some];rw [h1];simp only [Option.bind_some];rw [if_neg AOs,BD4 hn hq Ab hf];simp only [Option.bind_some];rw [BK3 Aa hn hf];simp only [Option.bind_some];rw [BD4 hn hq Ab hf];simp only [Option.bind_some];rw [BFx Aa hn hq Ab (A0k n hq A) (A0k n hq T) hf];simp only [Option.bind_some];rw [BFx Aa hn hq Ab (λi j hi hj=>A0k n hq T j i hj hi) (A0k n hq _) hf];rfl
theorem BHk {r c:Nat} {m:Int}:Axd (tab r c F) m=tab r c λi j=>F i j % m:=by
 simp [Axd,tab,Function.comp_def]
theorem BD7 {n:Nat} {m:Int} (hn:n<=8) (hm:2<=m) (Ab:m<=2147483647) (hf:100 < fuel):Ajh fuel (tab n n F) m=some (tab n n λi j=>F i j % m):=by
 rw [BB5 AOq Ab (by rw [Ahv];omega) (by rw [Ahv];omega) (λz hz=>by
  obtain ⟨i,hi⟩:=List.getElem?_of_mem hz
  have h1:=(List.getElem?_eq_some_iff.1 hi).1
  rw [Ahv] at h1
  rw [Ahw h1] at hi
  cases hi
  rw [Ah0];omega),BHk]
theorem BFy {n:Nat} {m:Int} (Ae:1<=n) (hn:n<=8) (hm:2<=m) (Ab:m<=2147483647) (hf:100 < fuel):Al3 fuel (tab n n F) (tab n n G) m=some (tab n n λi j=>psum (λk=>F i k % m * (G k j % m)) n % m):=by
 unfold Al3;rw [BD7 hn hm Ab hf];simp only [Option.bind_some];rw [BD7 hn hm Ab hf];simp only [Option.bind_some];rw [BAl (n:=n) (λi=>Aju n λj=>psum (λk=>F i k % m * (G k j % m)) n % m) AOq (λi hi=>?_) λX=>?_]
 ·rfl
 ·unfold An9;dsimp only;rw [Ahv,if_pos AOq,A4w<|Ahw AOq,Ah0,if_pos AOq,Int.toNat_natCast,Ama n (0:Int),BK6 (n:=n) (λj=>psum (λk=>F i k % m * (G k j % m)) n % m) AOq (λj g hj hg=>?_) λX=>?_]
  ·simp only [Option.bind_some];rw [Ah0,if_pos AOq,Ah1 AOq]
  ·unfold An8;dsimp only;rw [Ah0,Int.toNat_natCast,List.length_replicate,if_pos AOq]
   have key:iter (λs=>An7 fuel m (tab n n λi j=>F i j % m) (tab n n λi j=>G i j % m) i j s.1 s.2) fuel (0,Aju n g)=some (Aju n λc=>if c=j then psum (λk=>F i k % m * (G k j % m)) n % m else g c):=by
    apply ok_eq
    refine Ah4 (λk s=>s=((k:Int),Aju n λc=>if c=j then psum (λk=>F i k % m * (G k j % m)) k % m else g c)) n ?_ AOq λk s hk hI=>?_
    ·refine congrArg (λz=>((0:Int),Aju n z))<|funext λc=>?_
     split
     ·next h=>subst h;rw [hg];show 0=0 % m;rw [Int.zero_emod]
     ·rfl
    ·subst hI
     unfold An7
     dsimp only
     rw [Ahv]
     by_cases h:k < n
     ·have b1:=A0k n hm F i k hi h
      have b2:=A0k n hm G k j h hj
      dsimp only at b1 b2
      have b0:=Int.mul_nonneg b1.1 b2.1
      have b3:F i k % m * (G k j % m)<=2147483646 * 2147483646:=Int.mul_le_mul AOq AOq b2.1 AOq
      have b4:=Int.emod_nonneg (F i k % m * (G k j % m)) (show m≠0 by omega)
      have b5:=Int.emod_lt_of_pos (F i k % m * (G k j % m)) (show 0 < m by omega)
      have b6:=Int.emod_nonneg (psum (λk=>F i k % m * (G k j % m)) k) (show m≠0 by omega)
      have b7:=Int.emod_lt_of_pos (psum (λk=>F i k % m * (G k j % m)) k) (show 0 < m by omega)
      rw [if_pos AOq,Akk<|Ahr hj,Akk<|Ahw hi,Akk<|Ahr h,Akk<|Ahw h,Akk<|Ahr hj,if_pos AOq,if_pos AOq,if_pos rfl,Ajz (x:=F i k % m * (G k j % m)) AOq AOq,Int.tmod_eq_emod_of_nonneg b0,Ajz (x:=psum (λk=>F i k % m * (G k j % m)) k % m + F i k % m * (G k j % m) % m) AOq AOq,Int.tmod_eq_emod_of_nonneg AOq,BC1 (f:=λk=>F i k % m * (G k j % m)),Aja,Alw,Ah1 AOq]
      refine AOt ⟨h,congrArg (λz=>(((k + 1:Nat):Int),Aju n z))<|funext λc=>?_⟩
      omega
     ·obtain rfl:k=n:=by omega
      rw [if_neg AOq];exact AOt rfl
   rw [key];simp only [Option.bind_some];rw [Ah1 AOq]
  ·unfold An8;dsimp only;rw [Ah0,Int.toNat_natCast,List.length_replicate,if_neg AOq]
 ·unfold An9;dsimp only;rw [Ahv,if_neg AOq]
theorem BK8 {n:Nat} (Aa:1<=n) (hn:n<=8) (hf:100 < fuel):Amt fuel (tab n n F)=some (tab n n λi j=>F j i):=by
 unfold Amt;rw [A4w<|Ahw AOq,BAl (n:=n) (λi=>Aju n λj=>F j i) AOq (λi hi=>?_) λX=>?_]
 ·rfl
 ·unfold Anc;dsimp only;rw [Ah0,if_pos AOq,BAl (n:=n) (λj=>F j i) AOq (λj hj=>?_) λX=>?_]
  ·simp only [Option.bind_some];rw [Ah0,if_pos AOq,Ah1 AOq]
  ·unfold Anb;dsimp only;rw [Ahv,if_pos AOq,Akk<|Ahw hj,Akk<|Ahr hi,Ah0,if_pos AOq,Ah1 AOq]
  ·unfold Anb;dsimp only;rw [Ahv,if_neg AOq]
 ·unfold Anc;dsimp only;rw [Ah0,if_neg AOq]
theorem A76 {n:Nat} (Ab:1<=n) (hn:n<=8):A6z (tab n n F):=by
 have hc:Au8 (tab n n F)=n:=by rw [Aya<|Ahw (show 0 < n by omega),Ah0]
 refine ⟨⟨by rw [Ahv];omega,by rw [Ahv];omega,AOq,AOq,λz hz=>?_⟩,by rw [Ahv,hc],by rw [Ahv];omega⟩;obtain ⟨i,hi⟩:=List.getElem?_of_mem hz;have h1:=(List.getElem?_eq_some_iff.1 hi).1;rw [Ahv] at h1;rw [Ahw h1] at hi;cases hi;rw [Ah0,hc]
theorem BNt {n:Nat} (Aa:1<=n) (hn:n<=8) (hq:2<=q) (Ab:q<=2147483647) (hf:100 < fuel):Amc fuel (tab n n A) (tab n n T) q=some (tab n n<|BK7 n q A T,0):=by
 unfold Amc
 have hv:∀ F,Aka fuel (tab n n F)=some true:=λF=>by
  rw [BFc AOq]
  exact congrArg some<|decide_eq_true (A76 Aa hn).1
 have h1:A50 q=true:=by unfold A50;grind
 rw [hv,hv];simp only [Option.bind_some];rw [if_neg AOs,A4w<|Ahw AOq,Ah0,Ahv,Ahv,if_neg AOs,if_neg λh=>h rfl,if_neg λh=>h rfl];simp only [Option.bind_some];rw [A87,h1];simp only [Option.bind_some];rw [if_neg AOs,BK8 Aa hn hf];simp only [Option.bind_some];rw [BFy Aa hn hq Ab hf];simp only [Option.bind_some];rw [BFy Aa hn hq Ab hf];simp only [Option.bind_some,Int.emod_emod];rfl
theorem BQv {n:Nat} (Ab:1<=n) (hn:n<=8) (hp:2<=p) (Ad:p<=2147483647) (hf:100 < fuel):Aoh fuel (tab n n T) p=some (det n T % p,0):=by
 have hs:=A76 (F:=T) Ab hn;rw [BKi AOq ⟨by rw [Ahv];omega,λz hz=>by have h2:=hs.1.2.2.2.2 z hz;have:=hs.1.2.2.2.1;omega⟩];have h1:Awa (tab n n T)=true:=decide_eq_true hs;have h2:A50 p=true:=by unfold A50;grind
 unfold BP0 BP1;rw [h1,h2,Ahv];refine congrArg (λz=>some (z,(0:Int))) ?_;exact A6k λi j hi hj=>by rw [BEc hi hj];rfl
theorem BNu {n:Nat} (hn:n<=8) (hf:100 < fuel):Ok (Ao9 fuel (tab n n F)<|tab n n G) λb=>b=true↔ ∀ i,i < n-> ∀ j,j < n->F i j=G i j:=by
 unfold Ao9;rw [Ahv,Ahv,if_neg λh=>h rfl];refine AOy (Axx (n:=n) (λi=> ∀ j,j < n->F i j=G i j) false AOq (λi hi=>?_) ?_) λex hex=>?_
 ·unfold Apg;rw [Ahv,if_pos AOq,Akk<|Ahw hi,Akk<|Ahw hi,Ah0,Ah0,if_neg λh=>h rfl];refine AOy (Axx (n:=n) (λj=>F i j=G i j) false AOq (λj hj=>?_) ?_) λex hex=>?_
  ·unfold Apf;rw [Ah0,if_pos AOq,Akk<|Ahw hi,Akk<|Ahr hj,Akk<|Ahw hi,Akk<|Ahr hj];exact Ag9 (λh=>AOt<|.inr ⟨rfl,h⟩) λh=>AOt<|.inl ⟨by rw [Ah1 AOq],Decidable.not_not.1 h⟩
  ·unfold Apf;rw [Ah0,if_neg AOq]
  ·rcases hex with ⟨rfl,h⟩ | ⟨rfl,h⟩
   ·exact AOt<|.inl ⟨by rw [Ah1 AOq],h⟩
   ·exact AOt<|.inr ⟨rfl,h⟩
 ·unfold Apg;rw [Ahv,if_neg AOq]
 ·rcases hex with ⟨rfl,h⟩ | ⟨rfl,h⟩
  ·exact AOt ⟨λ_=>h,λ_=>rfl⟩
  ·exact AOt ⟨λe=>(nomatch e),λe=>absurd e h⟩
def Rng (n:Nat) (q:Int) (T:Ahe):Prop:= ∀ i,i < n-> ∀ j,j < n->0<=T i j/\T i j < q
theorem BQw {n:Nat} (hn:n<=8) (hf:100 < fuel):Ok (iter (λs=>Amu fuel (tab n n T) q s) fuel 0) λex=>(ex= .inr ()/\Rng n q T)∨(ex= .inl false/\¬ Rng n q T):=by
 refine Axx (n:=n) (λi=> ∀ j,j < n->0<=T i j/\T i j < q) false AOq (λi hi=>?_) ?_
 ·unfold Amu;rw [Ahv,if_pos AOq,Akk<|Ahw hi];refine AOy (Axx (n:=n) (λj=>0<=T i j/\T i j < q) false AOq (λj hj=>?_) ?_) λex hex=>?_
  ·unfold Aor;rw [Ah0,if_pos AOq,Akk<|Ahr hj];exact Ag9 (λh=>AOt<|.inr ⟨rfl,AOq⟩) λh=>Ag9 (λh2=>AOt<|.inr ⟨rfl,AOq⟩) λh2=>AOt<|.inl ⟨by rw [Ah1 AOq],AOq⟩
  ·unfold Aor;rw [Ah0,if_neg AOq]
  ·rcases hex with ⟨rfl,h⟩ | ⟨rfl,h⟩
   ·exact AOt<|.inl ⟨by rw [Ah1 AOq],h⟩
   ·exact AOt<|.inr ⟨rfl,h⟩
 ·unfold Amu;rw [Ahv,if_neg AOq]
theorem Al1 (hp:1<=p) {a b:Nat} (h:a<=b):p ^ a<=p ^ b:=by
 obtain ⟨c,rfl⟩:∃ c,b=a + c:=⟨b - a,AOq⟩;rw [Int.pow_add];have h1:0 < p ^ a:=Int.pow_pos AOq;have h2:0 < p ^ c:=Int.pow_pos AOq;have:=Int.mul_le_mul_of_nonneg_left (show 1<=p ^ c by omega)<|Int.le_of_lt h1;omega
theorem A77 (hp:2<=p) (h:p ^ k<=2147483647):k<=30:=by
 rcases Nat.lt_or_ge 30 k with h1 | h1
 ·exfalso;have h2:=Al1 (p:=p) AOq (show 31<=k by omega);have h3:(2:Int) ^ 31<=p ^ 31:=Arm AOq hp 31;omega
 ·exact h1
theorem A5m (hp:2<=p) (h:p ^ k<=2147483647) (hf:100 < fuel):Ajl fuel p k=some (p ^ k):=by
 have hk:=A77 hp h;apply ok_eq;unfold Ajl;refine AOy (Ah4 (λi s=>s=(p ^ i,(i:Int))/\i<=k) k (Q:=(· =p ^ k)) ⟨Ah6,AOq⟩ AOq λi s hi hI=>?_) λe he=>AOt he;obtain ⟨rfl,hik⟩:=hI;unfold Arz;dsimp only;refine Ag9 (λh2=>AOt ⟨AOq,?_,AOq⟩) λh2=>AOt ?_
 ·have h3:=Al1 (p:=p) AOq (show i + 1<=k by omega);have h4:0 < p ^ (i + 1):=Int.pow_pos AOq;rw [show p ^ i * p=p ^ (i + 1) from (Int.pow_succ p i).symm,wk AOq,Ah1 AOq]
 grind
def BHl (F:Ahe) (r c:Nat) (x:Int):Ahe:=Ajc F r λq=>if q=c then x else F r q
theorem Azi {n r c:Nat}:sI (tab n n F) (r:Int) (sI (Aju n<|F r) (c:Int) x)=tab n n (BHl F r c x):=A3v
def BSu (F:Ahe) (r:Nat) (a b c:Int):Ahe:=BHl (BHl (BHl (BHl F r r a) r (r + 1) b) (r + 1) r b) (r + 1) (r + 1) c
def A55 (p:Int):List Ak8->Nat->(Ahe)->(Ahe)
 | [],_,F=>F
 | b :: l,r,F=>if b.2.1=2 then A55 p l (r + 2) (BSu F r (p ^ b.1.toNat * b.2.2.1) (p ^ b.1.toNat * b.2.2.2.1)<|p ^ b.1.toNat * b.2.2.2.2) else A55 p l (r + 1)<|BHl F r r<|p ^ b.1.toNat * b.2.2.1
def Aws:List Ak8->Nat
 | []=>0
 | b :: l=>b.2.1.toNat + Aws l
def BOk (p:Int) (k:Nat) (b:Ak8):Prop:= ∃ e:Nat,b.1=e/\e<=k/\(0<=b.2.2.1/\b.2.2.1 < p ^ (k - e))/\(b.2.1=1∨b.2.1=2/\(0<=b.2.2.2.1/\b.2.2.2.1 < p ^ (k - e))/\0<=b.2.2.2.2/\b.2.2.2.2 < p ^ (k - e))
theorem A6n {e:Nat} (hp:2<=p) (hek:e<=k) (hq:p ^ k<=2147483647) (h:0<=a/\a < p ^ (k - e)):Int.tmod (w64<|p ^ e * a) (p ^ k)=p ^ e * a/\0<=p ^ e * a/\p ^ e * a < p ^ k:=by
 have h1:0 < p ^ e:=Int.pow_pos AOq;have h2:p ^ e * a < p ^ e * p ^ (k - e):=Int.mul_lt_mul_of_pos_left h.2 h1;rw [<- Int.pow_add,show e + (k - e)=k by omega] at h2;have h3:=Int.mul_nonneg (Int.le_of_lt h1) h.1;rw [wk AOq,Int.tmod_eq_emod_of_nonneg h3,Int.emod_eq_of_lt h3 h2];omega
theorem BQx {n:Nat} {L:List Ak8} (hn:n<=8) (hp:2<=p) (hq:p ^ k<=2147483647) (hL:∀ b∈L,BOk p k b) (hs:Aws L=n) (hll:L.length<=n) (hf:100 < fuel):Aoc fuel L n p (p ^ k)=some (tab n n<|A55 p L 0 λ_ _=>0):=by
 have Af:0 < p ^ k:=Int.pow_pos AOq;unfold Aoc;rw [if_pos AOq,Int.toNat_natCast,A2n (n:=n) (λ_ _=>0) AOq (λi hi=>?_) λX=>?_]
 ·simp only [Option.bind_some];apply ok_eq;refine AOy (Ah4 (λi s=> ∃ (r:Nat) (F:Ahe),s=((r:Int),(i:Int),tab n n F)/\r + Aws (L.drop i)=n/\A55 p (L.drop i) r F=A55 p L 0 λ_ _=>0) L.length (Q:=(· =tab n n (A55 p L 0 λ_ _=>0))) ⟨0,λ_ _=>0,rfl,by simpa using hs,rfl⟩ AOq λi s hi hI=>?_) λe he=>AOt he;obtain ⟨r,F,rfl,hr,hb⟩:=hI;unfold Aq7;dsimp only;by_cases h:i < L.length
  ·obtain ⟨b,hbi⟩:∃ b,L[i]? =some b:=⟨L[i],List.getElem?_eq_getElem h⟩
   have hdr:L.drop i=b :: L.drop (i + 1):=by
    rw [List.drop_eq_getElem_cons h]
    grind
   rw [hdr] at hr hb;obtain ⟨e,he,hek,hA,hsz⟩:=hL b<|List.mem_of_getElem? hbi;have hpe:p ^ e<=2147483647:=Int.le_trans (Al1 AOq hek) hq;have heN:b.1.toNat=e:=by omega
   have e1:=A6n hp hek hq hA;unfold Aws at hr;rw [A55] at hb;rw [heN] at hb;rw [if_pos AOq,Akk hbi,he,A5m hp hpe hf];simp only [Option.bind_some];have Aa:r < n:=by omega
   rw [Akk<|Ahw Aa,if_pos AOq,Akk<|Ahr Aa,e1.1,Azi];rcases hsz with hz | ⟨hz,hB,hC⟩
   ·rw [if_neg AOq];simp only [Option.bind_some];rw [if_neg AOq] at hb;refine AOt ⟨h,r + 1,_,?_,AOq,hb⟩;rw [hz,Ah1 AOq,Ah1 AOq]
   ·have Ab:r + 1 < n:=by omega
    have e2:=A6n hp hek hq hB;have e3:=A6n hp hek hq hC;rw [if_pos hz,Akk<|Ahw Aa,if_pos AOq,Ah1 AOq,Akk<|Ahr Ab,e2.1,Azi,Akk<|Ahw Ab,if_pos AOq,Akk<|Ahr Aa,Azi,Akk<|Ahw Ab,if_pos AOq,Akk<|Ahr Ab,e3.1,Azi];simp only [Option.bind_some];rw [if_pos hz] at hb;refine AOt ⟨h,r + 2,_,?_,AOq,hb⟩;rw [hz,Ajz (x:=(r:Int) + 2) AOq AOq,Ah1 AOq];rfl
  ·obtain rfl:i=L.length:=by omega
   rw [if_neg AOq];rw [List.drop_length] at hb;exact AOt (by rw [<- hb];rfl)
 ·unfold Aoq;dsimp only;rw [Int.toNat_natCast,List.length_replicate,if_pos AOq,if_pos AOq,Akk<|Avp hi,Aja,Ama n (0:Int),At1,A2m λc _=>rfl,Ah1 AOq]
 ·unfold Aoq;grind
def A5n (p:Int) (k:Nat) (b:Ak8):Prop:=(0<=b.1/\b.1<=if p=2 then (k:Int) - 3 else (k:Int) - 1)/\
 if b.2.1=1 then (0 < b.2.2.1/\b.2.2.1 < p ^ (k - b.1.toNat))/\¬ p ∣ b.2.2.1/\b.2.2.2.1=0/\b.2.2.2.2=0
 else ((0<=b.2.2.1/\b.2.2.1 < p ^ (k - b.1.toNat))/\(0<=b.2.2.2.1/\b.2.2.2.1 < p ^ (k - b.1.toNat))/\0<=b.2.2.2.2/\b.2.2.2.2 < p ^ (k - b.1.toNat))/\b.2.2.1 % 2=0/\b.2.2.2.1 % 2=1/\b.2.2.2.2 % 2=0
theorem tm2 (h:0<=x):Int.tmod x 2=x % 2:=Int.tmod_eq_emod_of_nonneg h
theorem BK9 {b:Ak8} (hp:2<=p) (hq:p ^ k<=2147483647) (hk:1<=k) (Aj:p=2->3<=k) (hf:100 < fuel):Ok (Aob fuel b.1 b.2.1 b.2.2.1 b.2.2.2.1 b.2.2.2.2 p k) λr=>r=true↔A5n p k b:=by
 have Ak:=A77 hp hq;obtain ⟨e,s,x,y,z⟩:=b;unfold Aob A5n;dsimp only;refine AOy (Q:=(· =if p=2 then (k:Int) - 3 else (k:Int) - 1)) (Ag9 (λh=>AOt ?_) λh=>AOt ?_) λtop ht=>?_
 ·rw [if_pos h,wk AOq]
 ·rw [if_neg h,wk AOq]
 subst ht;have htop:(if p=2 then (k:Int) - 3 else (k:Int) - 1)<=k - 1:=by split <;> omega
 refine AOy (Q:=λex=>(ex= .inr ()/\0<=e/\e<=if p=2 then (k:Int) - 3 else (k:Int) - 1)∨(ex= .inl false/\¬ (0<=e/\e<=if p=2 then (k:Int) - 3 else (k:Int) - 1))) (Ag9 (λh=>AOt<|.inr ⟨rfl,AOq⟩) λh=>Ag9 (λh2=>AOt<|.inr ⟨rfl,AOq⟩) λh2=>AOt<|.inl ⟨rfl,AOq,AOq⟩) λex hex=>?_;rcases hex with ⟨rfl,h1,h2⟩ | ⟨rfl,h⟩
 ·obtain ⟨e,rfl⟩:∃ e':Nat,e=e':=⟨e.toNat,AOq⟩;have hek:e<=k:=by omega
  have hpk:p ^ (k - e)<=2147483647:=Int.le_trans (Al1 AOq AOq) hq;dsimp only;rw [wk AOq,show (k:Int) - (e:Int)=((k - e:Nat):Int) by omega,Int.toNat_natCast];refine AOy (Aid<|A5m hp hpk hf) λm hm=>?_;subst hm;refine Ag9 (λh3=>?_) λh3=>?_
  ·rw [if_pos h3];refine Ag9 (λh4=>Ag9 (λh5=>Ah8 AOq<|Ag9 (λh6=>Ag9 (λh7=>AOt ?_) λh7=>AOt ?_) λh6=>AOt ?_) λh5=>AOt ?_) λh4=>AOt ?_
   ·rw [decide_eq_true_eq];exact ⟨λh8=>⟨⟨h1,h2⟩,⟨h4,h5⟩,λh9=>h6<|Int.tmod_eq_zero_of_dvd h9,h7,h8⟩,λh8=>h8.2.2.2.2⟩
   ·grind
   ·exact ⟨λh=>(nomatch h),λh=>absurd (Int.dvd_of_tmod_eq_zero<|Decidable.not_not.1 h6) h.2.2.1⟩
   ·grind
   grind
  ·rw [if_neg h3];refine Ag9 (λh4=>Ag9 (λh5=>Ag9 (λh6=>Ag9 (λh7=>Ag9 (λh8=>Ag9 (λh9=>?_) λh9=>AOt ?_) λh8=>AOt ?_) λh7=>AOt ?_) λh6=>AOt ?_) λh5=>AOt ?_) λh4=>AOt ?_
   ·rw [tm2 h4,tm2 h6,tm2 h8];refine Ag9 (λha=>Ag9 (λhb=>AOt ?_) λhb=>AOt ?_) λha=>AOt ?_
    ·grind
    ·grind
    grind
   ·grind
   ·grind
   ·grind
   ·grind
   ·grind
   grind
 ·exact AOt ⟨λh=>(nomatch h),λh2=>absurd h2.1 h⟩
theorem A5o {b:Ak8} (hk:1<=k) (hs:b.2.1=1∨b.2.1=2) (h:A5n p k b):BOk p k b:=by
 obtain ⟨e,s,x,y,z⟩:=b;obtain ⟨⟨h1,h2⟩,h3⟩:=h;dsimp only at h1 h2 h3 hs;obtain ⟨e,rfl⟩:∃ e':Nat,e=e':=⟨e.toNat,AOq⟩;rw [Int.toNat_natCast] at h3;refine ⟨e,rfl,?_,?_⟩
 ·omega
 grind
def Asc (L:List Ak8) (i:Nat):Prop:=0 < i-> ∀ b c,L[i]? =some b->L[i - 1]? =some c->c.1<=b.1
def RG (p:Int) (k:Nat) (L:List Ak8) (i:Nat):Prop:=(∀ b,L[i]? =some b->A5n p k b)/\Asc L i
def RC (n k:Nat) (p:Int) (A T:Ahe) (L:List Ak8):Prop:=(∀ i,i < L.length->RG p k L i)/\Rng n (p ^ k) T/\det n T % p≠0/\ ∀ i,i < n-> ∀ j,j < n->BK7 n (p ^ k) A T i j=A55 p L 0 (λ_ _=>0) i j
theorem BHm {n:Nat} {L:List Ak8} (Ab:1<=n) (hn:n<=8) (hdig:Alc fuel (tab n n A) p=some (k:Int)) (hp:2<=p) (hq:p ^ k<=2147483647) (hk:1<=k) (Ac:p=2->3<=k) (hsz:∀ b∈L,b.2.1=1∨b.2.1=2) (hs:Aws L=n) (hl:L.length<=n) (Ad:p<=2147483647) (hf:100 < fuel):
 Ok (Aod fuel (tab n n A) p (tab n n T) L) λb=>b=true↔RC n k p A T L:=by
 have Ae:2<=p ^ k:=by
  have:=Al1 (p:=p) AOq hk
  grind
 unfold Aod RC;refine AOy (Aid hdig) λx hx=>?_;subst hx;refine AOy (Aid<|A5m hp hq hf) λq hqq=>?_;subst hqq;refine AOy (Axx (n:=L.length) (RG p k L) false AOq (λi hi=>?_) ?_) λex hex=>?_
 ·obtain ⟨b,hb⟩:∃ b,L[i]? =some b:=⟨L[i],List.getElem?_eq_getElem hi⟩;unfold Aos;rw [if_pos AOq,Akk hb];refine AOy (BK9 (b:=b) hp hq hk Ac hf) λr hr=>Ag9 (λh=>AOt<|.inr ⟨rfl,λhg=>?_⟩) λh=>?_
  ·have:=hr.2<|hg.1 b hb;grind
  ·have hpb:A5n p k b:=hr.1 (by grind);have hP:∀ c,L[i]? =some c->A5n p k c:=λc hc=>by grind
   refine Ag9 (λh0=>?_) λh0=>AOt<|.inl ⟨by rw [Ah1 AOq],hP,λh1=>by omega⟩;have Ag:i - 1 < L.length:=by omega
   obtain ⟨c,hc⟩:∃ c,L[i - 1]? =some c:=⟨L[i - 1],List.getElem?_eq_getElem Ag⟩;refine Ahj hc (by rw [wk AOq];omega)<|Ag9 (λh2=>AOt<|.inr ⟨rfl,λhg=>?_⟩) λh2=>AOt<|.inl ⟨by rw [Ah1 AOq],hP,λh3 b' c' hb' hc'=>?_⟩
   ·have:=hg.2 AOq b c hb hc;omega
   grind
 ·unfold Aos;grind
 rcases hex with ⟨rfl,hG⟩ | ⟨rfl,hG⟩
 ·refine AOy (BQw hn hf) λex hex=>?_;rcases hex with ⟨rfl,hR⟩ | ⟨rfl,hR⟩
  ·refine AOy (Aid<|BQv Ab hn hp Ad hf) λd hd=>?_;subst hd;refine AOy (Aid<|BNt Ab hn Ae hq hf) λg hg=>?_;subst hg;dsimp only;refine Ag9 (λh=>?_) λh=>AOt ⟨λh2=>(nomatch h2),λh2=>absurd h2.2.2.1 h⟩;rw [Ahv];refine AOy (Aid<|BQx hn hp hq (λb hb=>?_) hs hl hf) λg hg=>?_
   ·obtain ⟨i,hi⟩:=List.getElem?_of_mem hb;exact A5o hk (hsz b hb)<|(hG i (List.getElem?_eq_some_iff.1 hi).1).1 b hi
   ·subst hg;exact AOy (BNu hn hf) λr hr=>AOt ⟨λh2=>⟨hG,hR,h,hr.1 h2⟩,λh2=>hr.2 h2.2.2.2⟩
  ·exact AOt ⟨λh=>(nomatch h),λh=>absurd h.2.1 hR⟩
 ·exact AOt ⟨λh=>(nomatch h),λh=>absurd h.1 hG⟩
theorem BQy {T:List (List Int)} {n:Nat} (h1:T.length=n) (h2:∀ z∈T,z.length=n):T=tab n n (ent T):=by
 have:=A41 h2;rwa [h1] at this
theorem BLa {T:List (List Int)} {n:Nat} (h:∀ i,i < T.length-> ∀ z,T[i]? =some z->z.length=n):∀ z∈T,z.length=n:=λz hz=>by
 obtain ⟨i,hi⟩:=List.getElem?_of_mem hz
 grind
theorem BCr {M:List (List Int)} {v:Int} (R:A5i M) (hp:2<=p) (hp2:p<=9973) (h:BCq (det M.length<|ent M) p v):∃ k:Nat,((if p=2 then v + 3 else v + 1)=(k:Int))/\p ^ k<=2147483647/\1<=k/\(p=2->3<=k):=by
 obtain ⟨v1,v2⟩:=A73 R;obtain ⟨e,r,rfl,h1,h2⟩:=h;have hpe:0 < p ^ e:=Int.pow_pos AOq
 have hr:0 < r:=by
  rcases Int.lt_or_le 0 r with h | h
  ·exact h
  ·have:=Int.mul_nonpos_of_nonpos_of_nonneg h<|Int.le_of_lt hpe;omega
 have hle:1 * p ^ e<=r * p ^ e:=Int.mul_le_mul_of_nonneg_right AOq AOq
 by_cases h:p=2
 ·subst h;refine ⟨e + 3,AOq,?_,AOq,λ_=>by omega⟩;grind
 ·refine ⟨e + 1,AOq,?_,AOq,λh2=>absurd h2 h⟩;rw [Int.pow_succ];have:=Int.mul_le_mul (show p ^ e<=10000 by omega) hp2 AOq AOq;omega
end Go.Proofs.YtkakafabeobahaaGreatDoor
namespace Go.Proofs.YtkakafabeobahaaGreatDoor
open Go Go.QF
theorem Azj:FdT Tryz.prog 67 0 0 2:=⟨_,_,Tryz.underlying67,rfl,rfl,rfl⟩
theorem Al8:FdT Tryz.prog 67 1 1 2:=⟨_,_,Tryz.underlying67,rfl,rfl,rfl⟩
theorem A23:FdT Tryz.prog 67 2 2 3:=⟨_,_,Tryz.underlying67,rfl,rfl,rfl⟩
theorem Ah9:FdT Tryz.prog 67 3 3 25:=⟨_,_,Tryz.underlying67,rfl,rfl,rfl⟩
theorem Ald:FdT Tryz.prog 67 4 4 25:=⟨_,_,Tryz.underlying67,rfl,rfl,rfl⟩
end Go.Proofs.YtkakafabeobahaaGreatDoor
namespace Go.Proofs.YtkakafabeobahaaGreatDoor
open Go Go.QF
set_option maxRecDepth 100000
set_option maxHeartbeats 40000000
def Atn (fuel:Nat) (s8 s9:Int):Option ((Int × Int) ⊕ Int):=
 if ¬ s9=0 then if s9≠0 then some (.inl (s9,Int.tmod s8 s9)) else none else some<|.inr s8
def Asd (fuel:Nat) (a1 a2:Int):Option Int:=
 (iter (λs=>Atn fuel s.1 s.2) fuel (a1,a2)).bind (λ(Ac:Int)=>some Ac)
theorem A1f (hp:Asd fuel a1 a2=some r):Ahs Tryz.prog 136 #[(.int .i64 a1),(.int .i64 a2)] h (λx h'=>Ext h h'/\x= .int .i64 r):=by
 unfold Asd at hp;refine cwf (l:=[_,_]) Tryz.func136 rfl rfl (AOv<|AO1<|AOx<|AO0 ?_);have K0:=Kst.k0 h;refine Arf 2019 hp (λx=>[(0,(.int .i64 x.1)),(1,(.int .i64 x.2))]) (λx=>K0.L) K0 ⟨rfl,rfl,trivial⟩ ?_;rintro ⟨u9,Ak⟩ Am h6 y5 K8 Aa Ag;unfold Atn at Aa;refine AOx<|AOv<|AOr<|Ajs rfl rfl (AOz<|⟨_,rfl,λAb=>?_,λAb=>?_⟩)
 ·refine AO5<|q_t<|AO0<|Ame<|AOr<|AOr<|AOr ?_;obtain ⟨Ah,Ai⟩:=ifN<|Ahy Aa Ab;refine Aj6 rfl rfl Ah (Aho<|Aho<|Ahh<|q_b<|q_t ?_);exact ⟨_,(AOu Ai).symm,K8,rfl,rfl,trivial⟩
 ·refine Ahf<|Ahg<|Ahg<|Aio<|q_t<|AOv<|AOr<|AO1<|AO6 ?_;obtain rfl:=AOu<|Ag _ (AOu<|Ahz Aa Ab).symm;exact ⟨_,AO7,K8.x,rfl⟩
def Apb (fuel:Nat) (Ab Aa Ac Ad:Int):Option ((Int × Int × Int × Int) ⊕ Int):=
 if ¬ Aa=0 then if Aa≠0 then some (.inl (Aa,w64<|Ab - w64 (w64 (Int.tdiv Ab Aa) * Aa),Ad,w64<|Ac - w64 (w64 (Int.tdiv Ab Aa) * Ad))) else none else some<|.inr Ac
def Akg (fuel:Nat) (a1 a2:Int):Option (Int × Bool):=
 (Asd fuel a1 a2).bind λx3=>if ¬ x3=1 then some (0,false) else (iter (λs=>Apb fuel s.1 s.2.1 s.2.2.1 s.2.2.2) fuel (a1,a2,1,0)).bind (λ(Ad:Int)=>(Ah5 fuel Ad a2).bind λAe=>some (Ae,true))
theorem As8 {r:(Int × Bool)} (hp:Akg fuel a1 a2=some r):Ahs Tryz.prog 81 #[(.int .i64 a1),(.int .i64 a2)] h (λx h'=>Ext h h'/\x= .tuple #[.int .i64 r.1,.bool r.2]):=by
 unfold Akg at hp;refine cwf (l:=[_,_]) Tryz.func81 rfl rfl (AOv<|Aho<|AO1<|AOx<|AOv<|AOr<|AOr ?_);obtain ⟨x3,Ai,Ag⟩:=AOw hp;refine Akb (Kst.k0 h) (A1f Ai) λh7 E6 Aa=>Ajs rfl rfl (AOz<|⟨_,rfl,λAb=>?_,λAb=>?_⟩)
 ·refine AOv<|Aho<|AO1<|AO6<|Ag7 ?_;obtain rfl:=AOu<|Ahy Ag Ab;exact ⟨_,Aiz,Aa.x,rfl⟩
 ·refine AO5<|q_t<|AOv<|AOr<|AOr<|Aho<|Aho<|Aho<|AO1<|AOx<|AO0<|Arf 17179740096 (Ahz Ag Ab) (λx=>[(6,(.int .i64 x.1)),(7,(.int .i64 x.2.1)),(8,(.int .i64 x.2.2.1)),(9,(.int .i64 x.2.2.2))]) (λx=>Aa.L) Aa ⟨rfl,rfl,rfl,rfl,trivial⟩ ?_;rintro ⟨Aw,Ax,Ay,Az⟩ A3 A4 A5 Ah Ac Aj;unfold Apb at Ac;refine AOx<|AOv<|AOr<|Ajs rfl rfl (AOz<|⟨_,rfl,λAd=>?_,λAd=>?_⟩)
  ·refine AO5<|q_t<|AO0<|AOv<|AOr<|AOr ?_;obtain ⟨Ak,Am⟩:=ifN<|Ahy Ac Ad;refine Avu rfl rfl Ak (Ah7<|AOr<|AOr<|AOr<|AOr<|Aou rfl rfl (Amr rfl rfl (Aho<|AO1<|Ag6<|AOr<|AOr<|AOr<|AOr<|Aou rfl rfl (Amr rfl rfl (Aho<|Aho<|Ahh<|q_b<|q_t ?_)))));exact ⟨_,(AOu Am).symm,Ah,rfl,rfl,rfl,rfl,trivial⟩
  ·refine Ahf<|Ahg<|Ahg<|Aio<|q_t<|AOv<|AOr<|AOr ?_;obtain ⟨A6,Ao,Ap⟩:=AOw<|Aj _ (AOu<|Ahz Ac Ad).symm;refine Akb Ah (Aik Ao) λA7 A8 Aq=>Aho<|AO1<|AO6 ?_;obtain rfl:=AOu Ap;exact ⟨_,Aiz,Aq.x,rfl⟩
def Apq (fuel:Nat) (a5 Af:Int) (Ab:LiI) (Ag Ac Ad Aa:Int):Option ((Int × Int × Int) ⊕ (Int × Int)):=
 if Aa < (Ab.length:Int) then (((gI Ab Ag).bind λAj=>(gI Aj Aa).bind λAh=>((if Ah=0 then some Af else (Aig fuel Ah a5).bind λAk=>some Ak):Option Int).bind λAm=>(gI Ab Ac).bind λAo=>(gI Ao Ad).bind λAi=>((if Ai=0 then some Af else (Aig fuel Ai a5).bind λAp=>some Ap):Option Int).bind λAq=>if Am < Aq then some (Ag,Aa) else some (Ac,Ad)):Option (Int × Int)).bind (λ((Ar,Au):Int × Int)=>some<|.inl (Ar,Au,w64<|Aa + 1)) else some<|.inr (Ac,Ad)
def Ane (fuel:Nat) (a5 Af:Int) (Ab:LiI) (Ac Ad Aa:Int):Option ((Int × Int × Int) ⊕ (Int × Int)):=
 if Aa < (Ab.length:Int) then (iter (λs=>Apq fuel a5 Af Ab Aa s.1 s.2.1 s.2.2) fuel (Ac,Ad,w64<|Aa + 1)).bind (λ((Ag,Ah):Int × Int)=>some<|.inl (Ag,Ah,w64<|Aa + 1)) else some<|.inr (Ac,Ad)
def Anf (fuel:Nat) (a5 Af:Int) (Ab:LiI) (Ac Ad Aa:Int):Option ((Int × Int × Int) ⊕ (Int × Int)):=
 if Aa < (Ab.length:Int) then (((gI Ab Aa).bind λAi=>(gI Ai Aa).bind λAg=>((if Ag=0 then some Af else (Aig fuel Ag a5).bind λAj=>some Aj):Option Int).bind λAk=>(gI Ab Ac).bind λAm=>(gI Am Ad).bind λAh=>((if Ah=0 then some Af else (Aig fuel Ah a5).bind λAo=>some Ao):Option Int).bind λAp=>if Ak < Ap then some (Aa,Aa) else some (Ac,Ad)):Option (Int × Int)).bind (λ((Aq,Ar):Int × Int)=>some<|.inl (Aq,Ar,w64<|Aa + 1)) else some<|.inr (Ac,Ad)
def Akl (fuel:Nat) (Ab:Int) (Am:LiI) (Ac Aa:Int) (Ad Ae:LiI):Option ((Int × LiI × LiI) ⊕ (LiI × LiI)):=
 if Aa < (Am.length:Int) then (gI Ad Aa).bind λAf=>(gI Af Ac).bind λAh=>(gI Af Ab).bind λAo=>(gI (sI Ad Aa<|sI Af Ab Ah) Aa).bind λAi=>(gI Ai Ac).bind λAq=>(gI Ae Aa).bind λAg=>(gI Ag Ac).bind λAj=>(gI Ag Ab).bind λAp=>(gI (sI Ae Aa<|sI Ag Ab Aj) Aa).bind λAk=>(gI Ak Ac).bind λAr=>some (.inl (w64<|Aa + 1,sI (sI Ad Aa<|sI Af Ab Ah) Aa<|sI Ai Ac Ao,sI (sI Ae Aa<|sI Ag Ab Aj) Aa<|sI Ak Ac Ap)) else some<|.inr (Ad,Ae)
def Akm (fuel:Nat) (Ab Ac:Int) (Am:LiI) (Aa:Int) (Ad Ae:LiI):Option ((Int × LiI × LiI) ⊕ (LiI × LiI)):=
 if Aa < (Am.length:Int) then (gI Ad Aa).bind λAf=>(gI Af Ac).bind λAh=>(gI Af<|w64<|Ab + 1).bind λAo=>(gI (sI Ad Aa<|sI Af (w64<|Ab + 1) Ah) Aa).bind λAi=>(gI Ai Ac).bind λAq=>(gI Ae Aa).bind λAg=>(gI Ag Ac).bind λAj=>(gI Ag<|w64<|Ab + 1).bind λAp=>(gI (sI Ae Aa<|sI Ag (w64<|Ab + 1) Aj) Aa).bind λAk=>(gI Ak Ac).bind λAr=>some (.inl (w64<|Aa + 1,sI (sI Ad Aa<|sI Af (w64<|Ab + 1) Ah) Aa<|sI Ai Ac Ao,sI (sI Ae Aa<|sI Ag (w64<|Ab + 1) Aj) Aa<|sI Ak Ac Ap)) else some<|.inr (Ad,Ae)
def Akn (fuel:Nat) (Aa Af Ag Ah Ae:Int) (Ai:LiI) (Aj Ab:Int) (Ac:LiI):Option ((Int × LiI) ⊕ LiI):=
 if Ab < (Ai.length:Int) then (gI Ac Ab).bind λAd=>(gI Ad Ae).bind λAk=>(gI Ad Af).bind λAm=>if Aa≠0 then (Ah5 fuel (w64<|Ak + Int.tmod (w64<|w64 (0 - Int.tmod (w64<|Aj * Ah) (w64<|Int.tdiv Aa Ag)) * Am) Aa) Aa).bind λAo=>some (.inl (w64<|Ab + 1,sI Ac Ab<|sI Ad Ae Ao)) else none else some<|.inr Ac
def Ako (fuel:Nat) (Ab Af Ag Ah Ad Ai:Int) (Aj:LiI) (Aa:Int) (Ac:LiI):Option ((Int × LiI) ⊕ LiI):=
 if Aa < (Aj.length:Int) then (gI Ac Ad).bind λAe=>(gI Ae Aa).bind λAk=>(gI Ac Af).bind λAm=>(gI Am Aa).bind λAo=>if Ab≠0 then (Ah5 fuel (w64<|Ak + Int.tmod (w64<|w64 (0 - Int.tmod (w64<|Ai * Ah) (w64<|Int.tdiv Ab Ag)) * Ao) Ab) Ab).bind λAp=>some (.inl (w64<|Aa + 1,sI Ac Ad<|sI Ae Aa Ap)) else none else some<|.inr Ac
def Akp (fuel:Nat) (Aa Af Ag Ah Ae:Int) (Ai:LiI) (Aj Ab:Int) (Ac:LiI):Option ((Int × LiI) ⊕ LiI):=
 if Ab < (Ai.length:Int) then (gI Ac Ab).bind λAd=>(gI Ad Ae).bind λAk=>(gI Ad Af).bind λAm=>if Aa≠0 then (Ah5 fuel (w64<|Ak + Int.tmod (w64<|w64 (0 - Int.tmod (w64<|Aj * Ah) (w64<|Int.tdiv Aa Ag)) * Am) Aa) Aa).bind λAo=>some (.inl (w64<|Ab + 1,sI Ac Ab<|sI Ad Ae Ao)) else none else some<|.inr Ac
def Akq (fuel:Nat) (Aa Af Ag Ah Ae Ai:Int) (Aj:LiI) (Ab:Int) (Ac:LiI):Option ((Int × LiI) ⊕ LiI):=
 if Ab < (Aj.length:Int) then (gI Ac Ab).bind λAd=>(gI Ad Ae).bind λAk=>(gI Ad<|w64<|Af + 1).bind λAm=>if Aa≠0 then (Ah5 fuel (w64<|Ak + Int.tmod (w64<|w64 (0 - Int.tmod (w64<|Ai * Ah) (w64<|Int.tdiv Aa Ag)) * Am) Aa) Aa).bind λAo=>some (.inl (w64<|Ab + 1,sI Ac Ab<|sI Ad Ae Ao)) else none else some<|.inr Ac
def Akr (fuel:Nat) (Ab Af Ag Ah Ad Ai:Int) (Aj:LiI) (Aa:Int) (Ac:LiI):Option ((Int × LiI) ⊕ LiI):=
 if Aa < (Aj.length:Int) then (gI Ac Ad).bind λAe=>(gI Ae Aa).bind λAk=>(gI Ac<|w64<|Af + 1).bind λAm=>(gI Am Aa).bind λAo=>if Ab≠0 then (Ah5 fuel (w64<|Ak + Int.tmod (w64<|w64 (0 - Int.tmod (w64<|Ai * Ah) (w64<|Int.tdiv Ab Ag)) * Ao) Ab) Ab).bind λAp=>some (.inl (w64<|Aa + 1,sI Ac Ad<|sI Ae Aa Ap)) else none else some<|.inr Ac
def Aks (fuel:Nat) (Aa Af Ag Ah Ae Ai:Int) (Aj:LiI) (Ab:Int) (Ac:LiI):Option ((Int × LiI) ⊕ LiI):=
 if Ab < (Aj.length:Int) then (gI Ac Ab).bind λAd=>(gI Ad Ae).bind λAk=>(gI Ad<|w64<|Af + 1).bind λAm=>if Aa≠0 then (Ah5 fuel (w64<|Ak + Int.tmod (w64<|w64 (0 - Int.tmod (w64<|Ai * Ah) (w64<|Int.tdiv Aa Ag)) * Am) Aa) Aa).bind λAo=>some (.inl (w64<|Ab + 1,sI Ac Ab<|sI Ad Ae Ao)) else none else some<|.inr Ac
def Akt (fuel:Nat) (Ab Ad Aj Aa Au Av Ae Ac:Int) (Af Ag:LiI):Option ((Int × LiI × LiI) ⊕ (LiI × LiI)):=
 if Ac < (Af.length:Int) then (gI Af Ad).bind λAw=>(gI Aw Ac).bind λAk=>if Aa≠0 then (gI Af<|w64<|Ad + 1).bind λAx=>(gI Ax Ac).bind λAm=>if Aa≠0 then if w64 (Int.tdiv Ab Aa)≠0 then if w64 (Int.tdiv Ab Aa)≠0 then (Ah5 fuel (w64<|Int.tmod (w64<|w64 (Int.tdiv Av Aa) * w64 (Int.tdiv Ak Aa)) (w64<|Int.tdiv Ab Aa) - Int.tmod (w64<|w64 (Int.tdiv Aj Aa) * w64 (Int.tdiv Am Aa)) (w64<|Int.tdiv Ab Aa))<|w64<|Int.tdiv Ab Aa).bind λAh=>if w64 (Int.tdiv Ab Aa)≠0 then if w64 (Int.tdiv Ab Aa)≠0 then if w64 (Int.tdiv Ab Aa)≠0 then (Ah5 fuel (w64<|Int.tmod (w64<|w64 (Int.tdiv Au Aa) * w64 (Int.tdiv Am Aa)) (w64<|Int.tdiv Ab Aa) - Int.tmod (w64<|w64 (Int.tdiv Aj Aa) * w64 (Int.tdiv Ak Aa)) (w64<|Int.tdiv Ab Aa))<|w64<|Int.tdiv Ab Aa).bind λAi=>if w64 (Int.tdiv Ab Aa)≠0 then (((iter (λs=>Akp fuel Ab Ad Aa Ae Ac Af Ah s.1 s.2) fuel (0,Af)).bind (λ(Ao:LiI)=>(iter (λs=>Ako fuel Ab Ad Aa Ae Ac Ah Ao s.1 s.2) fuel (0,Ao)).bind (λ(Ay:LiI)=>(iter (λs=>Akn fuel Ab Ad Aa Ae Ac Ag Ah s.1 s.2) fuel (0,Ag)).bind (λ(Az:LiI)=>some (Ay,Az))))):Option (LiI × LiI)).bind λ(Ap,Aq)=>(((iter (λs=>Aks fuel Ab Ad Aa Ae Ac Ai Ap s.1 s.2) fuel (0,Ap)).bind (λ(Ar:LiI)=>(iter (λs=>Akr fuel Ab Ad Aa Ae Ac Ai Ar s.1 s.2) fuel (0,Ar)).bind (λ(A3:LiI)=>(iter (λs=>Akq fuel Ab Ad Aa Ae Ac Ai Aq s.1 s.2) fuel (0,Aq)).bind (λ(A4:LiI)=>some (A3,A4))))):Option (LiI × LiI)).bind λ(A5,A6)=>some (.inl (w64<|Ac + 1,A5,A6)) else none else none else none else none else none else none else none else none else some<|.inr (Af,Ag)
def Aku (fuel:Nat) (Ab Ae Af:Int) (Ag:LiI) (Aa:Int) (Ac:LiI):Option ((Int × LiI) ⊕ LiI):=
 if Aa < (Ag.length:Int) then (gI Ac Aa).bind λAd=>(gI Ad Ae).bind λAh=>(gI Ad Af).bind λAi=>if Ab≠0 then (Ah5 fuel (w64<|Ah + Int.tmod (w64<|1 * Ai) Ab) Ab).bind λAj=>some (.inl (w64<|Aa + 1,sI Ac Aa<|sI Ad Ae Aj)) else none else some<|.inr Ac
def Akv (fuel:Nat) (Ac Ad Af:Int) (Ag:LiI) (Aa:Int) (Ab:LiI):Option ((Int × LiI) ⊕ LiI):=
 if Aa < (Ag.length:Int) then (gI Ab Ad).bind λAe=>(gI Ae Aa).bind λAh=>(gI Ab Af).bind λAi=>(gI Ai Aa).bind λAj=>if Ac≠0 then (Ah5 fuel (w64<|Ah + Int.tmod (w64<|1 * Aj) Ac) Ac).bind λAk=>some (.inl (w64<|Aa + 1,sI Ab Ad<|sI Ae Aa Ak)) else none else some<|.inr Ab
def Akw (fuel:Nat) (Ab Ae Af:Int) (Ag:LiI) (Aa:Int) (Ac:LiI):Option ((Int × LiI) ⊕ LiI):=
 if Aa < (Ag.length:Int) then (gI Ac Aa).bind λAd=>(gI Ad Ae).bind λAh=>(gI Ad Af).bind λAi=>if Ab≠0 then (Ah5 fuel (w64<|Ah + Int.tmod (w64<|1 * Ai) Ab) Ab).bind λAj=>some (.inl (w64<|Aa + 1,sI Ac Aa<|sI Ad Ae Aj)) else none else some<|.inr Ac
def Akx (fuel:Nat) (Ab Ac:Int) (Am:LiI) (Aa:Int) (Ad Ae:LiI):Option ((Int × LiI × LiI) ⊕ (LiI × LiI)):=
 if Aa < (Am.length:Int) then (gI Ad Aa).bind λAf=>(gI Af Ab).bind λAh=>(gI Af Ac).bind λAo=>(gI (sI Ad Aa<|sI Af Ac Ah) Aa).bind λAi=>(gI Ai Ab).bind λAq=>(gI Ae Aa).bind λAg=>(gI Ag Ab).bind λAj=>(gI Ag Ac).bind λAp=>(gI (sI Ae Aa<|sI Ag Ac Aj) Aa).bind λAk=>(gI Ak Ab).bind λAr=>some (.inl (w64<|Aa + 1,sI (sI Ad Aa<|sI Af Ac Ah) Aa<|sI Ai Ab Ao,sI (sI Ae Aa<|sI Ag Ac Aj) Aa<|sI Ak Ab Ap)) else some<|.inr (Ad,Ae)
def Aky (fuel:Nat) (Aa Ag Ae Ah Af:Int) (Ai:LiI) (Aj Ab:Int) (Ac:LiI):Option ((Int × LiI) ⊕ LiI):=
 if Ab < (Ai.length:Int) then (gI Ac Ab).bind λAd=>(gI Ad Af).bind λAk=>(gI Ad Ag).bind λAm=>if Aa≠0 then (Ah5 fuel (w64<|Ak + Int.tmod (w64<|w64 (0 - Int.tmod (w64<|w64 (Int.tdiv Aj Ae) * Ah) (w64<|Int.tdiv Aa Ae)) * Am) Aa) Aa).bind λAo=>some (.inl (w64<|Ab + 1,sI Ac Ab<|sI Ad Af Ao)) else none else some<|.inr Ac
def Akz (fuel:Nat) (Ab Ag Ad Ah Ae Ai:Int) (Aj:LiI) (Aa:Int) (Ac:LiI):Option ((Int × LiI) ⊕ LiI):=
 if Aa < (Aj.length:Int) then (gI Ac Ae).bind λAf=>(gI Af Aa).bind λAk=>(gI Ac Ag).bind λAm=>(gI Am Aa).bind λAo=>if Ab≠0 then (Ah5 fuel (w64<|Ak + Int.tmod (w64<|w64 (0 - Int.tmod (w64<|w64 (Int.tdiv Ai Ad) * Ah) (w64<|Int.tdiv Ab Ad)) * Ao) Ab) Ab).bind λAp=>some (.inl (w64<|Aa + 1,sI Ac Ae<|sI Af Aa Ap)) else none else some<|.inr Ac
def Ak0 (fuel:Nat) (Aa Ag Ae Ah Af:Int) (Ai:LiI) (Aj Ab:Int) (Ac:LiI):Option ((Int × LiI) ⊕ LiI):=
 if Ab < (Ai.length:Int) then (gI Ac Ab).bind λAd=>(gI Ad Af).bind λAk=>(gI Ad Ag).bind λAm=>if Aa≠0 then (Ah5 fuel (w64<|Ak + Int.tmod (w64<|w64 (0 - Int.tmod (w64<|w64 (Int.tdiv Aj Ae) * Ah) (w64<|Int.tdiv Aa Ae)) * Am) Aa) Aa).bind λAo=>some (.inl (w64<|Ab + 1,sI Ac Ab<|sI Ad Af Ao)) else none else some<|.inr Ac
def Ak1 (fuel:Nat) (Ad Ae Aa Af Ab:Int) (Ac Ag:LiI):Option ((Int × LiI × LiI) ⊕ (LiI × LiI)):=
 if Ab < (Ac.length:Int) then (gI Ac Ae).bind λAj=>(gI Aj Ab).bind λAh=>if Aa≠0 then if Aa≠0 then if w64 (Int.tdiv Ad Aa)≠0 then (((iter (λs=>Ak0 fuel Ad Ae Aa Af Ab Ac Ah s.1 s.2) fuel (0,Ac)).bind (λ(Ai:LiI)=>(iter (λs=>Akz fuel Ad Ae Aa Af Ab Ah Ai s.1 s.2) fuel (0,Ai)).bind (λ(Ak:LiI)=>(iter (λs=>Aky fuel Ad Ae Aa Af Ab Ag Ah s.1 s.2) fuel (0,Ag)).bind (λ(Am:LiI)=>some (Ak,Am))))):Option (LiI × LiI)).bind λ(Ao,Ap)=>some (.inl (w64<|Ab + 1,Ao,Ap)) else none else none else none else some<|.inr (Ac,Ag)
def Ang (fuel:Nat) (a3:LiI) (a5 Am Ac Aa:Int) (Ah Ao:LiI) (Ak:List Ak8):Option ((Int × LiI × LiI × List Ak8) ⊕ (LiI × LiI × List Ak8)):=
 if Aa < (a3.length:Int) then (((iter (λs=>Anf fuel a5 Am Ah s.1 s.2.1 s.2.2) fuel (Aa,Aa,Aa)).bind (λ((Be,Bf):Int × Int)=>(iter (λs=>Ane fuel a5 Am Ah s.1 s.2.1 s.2.2) fuel (Be,Bf,Aa)).bind (λ((Bg,Bh):Int × Int)=>some (Bg,Bh)))):Option (Int × Int)).bind λ(Ad,Af)=>((if ¬ Ad=Af then if a5=2 then (((iter (λs=>Akl fuel Aa Ah Ad s.1 s.2.1 s.2.2) fuel (0,Ah,Ao)).bind (λ((Ap,Bi):LiI × LiI)=>(gI Ap Ad).bind λBj=>(gI Ap Aa).bind λBl=>some (sI (sI Ap Aa Bj) Ad Bl,Bi))):Option (LiI × LiI)).bind λ(A3,Bm)=>(((iter (λs=>Akm fuel Aa Af A3 s.1 s.2.1 s.2.2) fuel (0,A3,Bm)).bind (λ((Aq,Bn):LiI × LiI)=>(gI Aq Af).bind λBo=>(gI Aq<|w64<|Aa + 1).bind λBp=>some (sI (sI Aq (w64<|Aa + 1) Bo) Af Bp,Bn))):Option (LiI × LiI)).bind λ(Ar,Bq)=>(((gI Ar Aa).bind λA4=>(gI A4<|w64<|Aa + 1).bind λAj=>((if Aj=0 then some Am else (Aig fuel Aj a5).bind λBr=>some Br):Option Int).bind λA5=>(Ajl fuel a5 A5).bind λAb=>if Ab≠0 then (gI A4 Aa).bind λAu=>if Ab≠0 then if Ab≠0 then (gI Ar<|w64<|Aa + 1).bind λBt=>(gI Bt<|w64<|Aa + 1).bind λAv=>if Ab≠0 then if w64 (Int.tdiv Ac Ab)≠0 then if w64 (Int.tdiv Ac Ab)≠0 then (Ah5 fuel (w64<|Int.tmod (w64<|w64 (Int.tdiv Au Ab) * w64 (Int.tdiv Av Ab)) (w64<|Int.tdiv Ac Ab) - Int.tmod (w64<|w64 (Int.tdiv Aj Ab) * w64 (Int.tdiv Aj Ab)) (w64<|Int.tdiv Ac Ab))<|w64<|Int.tdiv Ac Ab).bind λBu=>(Akg fuel Bu<|w64<|Int.tdiv Ac Ab).bind λ(Bv,C0)=>(iter (λs=>Akt fuel Ac Aa Aj Ab Au Av Bv s.1 s.2.1 s.2.2) fuel (w64<|Aa + 2,Ar,Bq)).bind (λ((Bw,Bx):LiI × LiI)=>some (A5,2,w64<|Int.tdiv Au Ab,w64<|Int.tdiv Aj Ab,w64<|Int.tdiv Av Ab,Bw,Bx)) else none else none else none else none else none else none):Option (Int × Int × Int × Int × Int × LiI × LiI)).bind λ(By,Bz,B1,B3,B4,B5,B6)=>if Ak.length<=100000000 then some (.inl (w64<|Aa + 2,B5,B6,Ak ++ [(By,Bz,B1,B3,B4)])) else none else some (.inr (Aa,Ah,Ao,Ak)) else some<|.inr (Aa,Ah,Ao,Ak)):Option ((Int × LiI × LiI × List Ak8) ⊕ (Int × LiI × LiI × List Ak8))).bind (λex=>match ex with | .inl (B7,B8,B9,Ca)=>(some<|.inl (B7,B8,B9,Ca)) | .inr (Ae,Aw,Ax,A6)=>((if ¬ Ad=Af then (((iter (λs=>Akw fuel Ac Ad Af Aw s.1 s.2) fuel (0,Aw)).bind (λ(A7:LiI)=>(iter (λs=>Akv fuel Ac Ad Af A7 s.1 s.2) fuel (0,A7)).bind (λ(Cb:LiI)=>(iter (λs=>Aku fuel Ac Ad Af Ax s.1 s.2) fuel (0,Ax)).bind (λ(Cd:LiI)=>some (Cb,Cd))))):Option (LiI × LiI)).bind λ(Ce,Cf)=>some (Ce,Cf) else some (Aw,Ax)):Option (LiI × LiI)).bind (λ((A8,Cg):LiI × LiI)=>(((iter (λs=>Akx fuel Ad Ae A8 s.1 s.2.1 s.2.2) fuel (0,A8,Cg)).bind (λ((Ay,Ch):LiI × LiI)=>(gI Ay Ad).bind λCi=>(gI Ay Ae).bind λCj=>some (sI (sI Ay Ae Ci) Ad Cj,Ch))):Option (LiI × LiI)).bind λ(A9,Ck)=>(((gI A9 Ae).bind λCm=>(gI Cm Ae).bind λAz=>((if Az=0 then some Am else (Aig fuel Az a5).bind λCn=>some Cn):Option Int).bind λBa=>(Ajl fuel a5 Ba).bind λAi=>if Ai≠0 then if Ai≠0 then (Akg fuel (w64<|Int.tdiv Az Ai)<|w64<|Int.tdiv Ac Ai).bind λ(Co,C1)=>(iter (λs=>Ak1 fuel Ac Ae Ai Co s.1 s.2.1 s.2.2) fuel (w64<|Ae + 1,A9,Ck)).bind (λ((Bb,Cp):LiI × LiI)=>(gI Bb Ae).bind λCq=>(gI Cq Ae).bind λCr=>if Ai≠0 then some (Ba,1,w64<|Int.tdiv Cr Ai,0,0,Bb,Cp) else none) else none else none):Option (Int × Int × Int × Int × Int × LiI × LiI)).bind λ(Ct,Cu,Cv,Cw,Cx,Cy,Cz)=>if A6.length<=100000000 then some (.inl (w64<|Ae + 1,Cy,Cz,A6 ++ [(Ct,Cu,Cv,Cw,Cx)])) else none)) else some<|.inr (Ah,Ao,Ak)
def Apr (fuel:Nat) (a3:LiI) (Ab:Int) (Ac:LiI):Option ((Int × LiI) ⊕ LiI):=
 if Ab < (a3.length:Int) then if 0<=(a3.length:Int)/\(a3.length:Int)<=100000000 then (gI (List.replicate (Int.toNat (a3.length:Int)) (0:Int)) Ab).bind λAd=>if Ac.length<=100000000 then some (.inl (w64<|Ab + 1,Ac ++ [sI (List.replicate (Int.toNat (a3.length:Int)) (0:Int)) Ab 1])) else none else none else some<|.inr Ac
def Ak7 (fuel:Nat) (a3:LiI) (a5:Int):Option (Int × LiI × (List Ak8)):=
 (Alc fuel a3 a5).bind λAc=>(Ajl fuel a5 Ac).bind λAd=>(Ajh fuel a3 Ad).bind λAe=>(iter (λs=>Apr fuel a3 s.1 s.2) fuel (0,[])).bind (λ(Af:LiI)=>(iter (λs=>Ang fuel a3 a5 Ac Ad s.1 s.2.1 s.2.2.1 s.2.2.2) fuel (0,Ae,Af,[])).bind (λ((Ai,Ag,Ah):LiI × LiI × List Ak8)=>some (a5,Ag,Ah)))
theorem Axy {J7:Value} {a3:LiI} {r:(Int × LiI × (List Ak8))} (H2:Ajw (cI .i64) h J7 a3) (hp:Ak7 fuel a3 a5=some r):Ahs Tryz.prog 11 #[J7,(.int .i64 a5)] h (λx h'=>Ext h h'/\ ∃ (J9:Value) (Ka:Value) (Kb:List Nat) (Pv:List LnA) (Pw:List Value) (Kc:List Nat),x= .agg #[.int .i64 r.1,J9,Ka]/\Aj1 (cI .i64) 61 2 h' Kb Pv Pw J9 r.2.1/\OwC Arc 60 h' Kc Ka r.2.2/\Sp h' h.size [Kb,Kc]):=by
 unfold Ak7 at hp;refine cwf (l:=[_,_]) Tryz.func11 rfl rfl (AOv<|Aj4 (Kst.k0 h) [(.int .i64 0),(.slice none 0 0),(.slice none 0 0)] A2b λb6 h7 E9 Kd=>Apt<|AOr<|AOr ?_);obtain ⟨Bm,Px,Py⟩:=AOw hp;refine Akb Kd (Au6 (H2.ext Kd.x) Px) λh17 E16 Pz=>Ah7<|AOr<|AOr<|AOr<|AOr ?_;obtain ⟨Di,P0,P1⟩:=AOw Py;refine Akb Pz (Alo P0) λh25 E24 P2=>Alh (v:=(.agg #[(.int .i64 a5),(.int .i64 Di),(.int .i64 Bm),(.slice none 0 0),(.slice none 0 0)])) (λ_=>by kernel_rfl)<|Ano P2 [(.int .i64 a5),(.int .i64 Di),(.int .i64 Bm),(.slice none 0 0),(.slice none 0 0)] λP3 h30 E32 Ev=>Ah7<|AOr<|AOr<|AOr<|Ah3 rfl (Ai6 Al8 AO9 (Ev.b p0) 1 rfl ?_);obtain ⟨P4,P5,P6⟩:=AOw P1;refine Aux Ev (Aop (H2.ext Ev.x) P5) λP7 P8 P9 Ab h40 E39 Ew=>Ah3 rfl (Ah2 Ah9 rfl (Awc [(.int .i64 a5),(.int .i64 Di),(.int .i64 Bm),Ab,(.slice none 0 0)] Aia rfl rfl (Ew.o2 p0).isOne (Ew.b p1) (Nat.le_of_ble_eq_true rfl) rfl λh49 Qa Qb=>AOz<|AOx<|AOv<|AOr<|Ahx APa rfl H2 (AOr<|AOz<|AO0 ?_)));have Ke:=Kst.anil2 (cI .i64) 61 2<|Ew.sb p1 Qb Qa rfl;refine Amy 18014381329613184 (λx:(Int) × (LiI) × (Value) × LnA × LnN × LvA=>(x.1,x.2.1)) ((0,[],(.slice none 0 0),[],[],[]):(Int) × (LiI) × (Value) × LnA × LnN × LvA) P6 (λx=>[(34,(.int .i64 x.1))]) (λx=>(Ke.L.set 0<|aO2 (cI .i64) 61 2 x.2.2.2.1 x.2.2.2.2.1 x.2.2.2.2.2 x.2.2.1 x.2.1).set 2 (aB 67 P3 [(.int .i64 a5),(.int .i64 Di),(.int .i64 Bm),Ab,x.2.2.1])) Ke ⟨rfl,trivial⟩ ?_;rintro ⟨u63,u64,Ac,Aa,Ae,Af⟩ AO3 h60 y59 Kf Ey Qc;unfold Apr at Ey;refine AOv<|Ahn rfl rfl (AOz<|AOx<|⟨_,rfl,λEz=>?_,λEz=>?_⟩)
 ·refine AO5<|q_t<|AOx<|AO0<|AOv<|AOr<|Ah7<|AOr<|Ahx APa rfl H2 ?_;obtain ⟨Qd,Qe⟩:=ifN<|Ahy Ey Ez;refine Awz (c:=(cI .i64)) (a:=0) APe Ars rfl rfl (λ_=>rfl) rfl trivial tt2 rfl rfl AOs Qd λb80 v79 h77 Qf Qg Qh Qi=>Ah7<|AOr<|AOr ?_;have Fa:=Kf.no Qg (Anw Qh Qi) Qf;obtain ⟨x85,Kg,Qj⟩:=AOw Qe;refine A18 APe rfl (Fa.o p0) rfl Kg λg88 Qk=>BOq (Amg AO9 rfl rfl rfl) (Fa.o p0) Qk Kg (show ((cI .i64)).rep _ 1 _ from rfl) λh90 Ql Qm=>AOz<|Ag6 ?_;have Dj:=Fa.uO p0 Qm Ql;refine AOr<|AOr<|Ah3 rfl (Ai6 Ald Aia (Dj.b p3) 4 rfl (AOr ?_));obtain ⟨Qn,Qo⟩:=ifN Qj;refine A2s APa As9 rfl rfl trivial tt2 (λ_=>rfl) rfl (Dj.o p0) (Dj.o2 p1) (Dj.dj p0 p1 AOs) AOs Qn λAPc F97 Qp h99 Qq Qr Qs=>Ah3 rfl (Ah2 Ald rfl ?_);have Fb:=Dj.m2 p0 p1 AOs Qr Qq Qs;refine Awc [(.int .i64 a5),(.int .i64 Di),(.int .i64 Bm),Ab,Qp] Aia rfl rfl (Fb.o2 p1).isOne (Fb.b p3) (Nat.le_of_ble_eq_true rfl) rfl λAPf Qt Qu=>Ahh<|q_b<|q_t<|Ag6<|Ahk rfl rfl (AOr<|AOz ?_);exact ⟨(_,_,_,_,_,_),(AOu Qo).symm,(Fb.sb p3 Qu Qt rfl).sel [1,2,3,4] AOs,rfl,trivial⟩
 ·refine Ahf<|Ahg<|Ahg<|Aio<|q_t<|AOv<|AOr<|Alh (v:=(.agg #[(.int .i64 a5),(.slice none 0 0),(.slice none 0 0)])) (λ_=>by kernel_rfl)<|Aj4 Kf [(.int .i64 0),(.slice none 0 0),(.slice none 0 0)] A2b λKh APg APh Ki=>Ai5 [(.int .i64 a5),(.slice none 0 0),(.slice none 0 0)] Ai7 rfl rfl rfl rfl (by simp [isOne]) (Ki.b p0) λAPi Qv Qw=>AOz<|AOx<|AOv<|AO1<|AO0 ?_;have Kj:=Kst.anil Arc 60<|Ki.sb p0 Qw Qv rfl;refine Amy 10384593717069655185003398620519424 (λx:(Int) × (LiI) × LnA × LnN × LvA × (LiI) × ((List Ak8)) × (Value) × LnA=>(x.1,x.2.1,x.2.2.2.2.2.1,x.2.2.2.2.2.2.1)) ((0,P4,P7,P8,P9,u64,[],(.slice none 0 0),[]):(Int) × (LiI) × LnA × LnN × LvA × (LiI) × ((List Ak8)) × (Value) × LnA) (Qc _ (AOu<|Ahz Ey Ez).symm) (λx=>[(10,(.int .i64 x.1))]) (λx=>(((Kj.L.set 3<|aO2 (cI .i64) 61 2 x.2.2.1 x.2.2.2.1 x.2.2.2.2.1 Ab x.2.1).set 2 (aO2 (cI .i64) 61 2 Aa Ae Af Ac x.2.2.2.2.2.1)).set 0 (aO Arc 60 x.2.2.2.2.2.2.2.2 x.2.2.2.2.2.2.2.1 x.2.2.2.2.2.2.1)).set 1 (aB 29 Kh [(.int .i64 a5),(.slice none 0 0),x.2.2.2.2.2.2.2.1])) Kj ⟨rfl,trivial⟩ ?_;rintro ⟨A9,Kk,Fc,Fd,Fe,Kl,Km,Dk,Ec⟩ APj APk APl Ch Ff Qx;unfold Ang at Ff;refine AOx<|AOv<|AOr<|AOr<|Ahx APa rfl H2 (Ahn rfl rfl (AOz<|⟨_,rfl,λFg=>?_,λFg=>?_⟩))
  ·refine AO5<|q_t<|AO0<|AOv<|AOr<|AOr ?_;obtain ⟨Qy,Qz,Q0⟩:=AOw<|Ahy Ff Fg;refine Ahq (K':=(λxr h'=> ∃ x:(Int) × (Int),(x.1,x.2)=Qy/\xr= .tuple #[(.int .i64 x.1),(.int .i64 x.2)]/\Kst h h' (Ch.L))) trivial rfl ?_ λAPm APn Q1=>?_
   ·refine cwf (l:=[_,_]) Tryz.func36 rfl rfl (AOv<|Aho<|Ah7<|AOr<|AOr<|Aho<|AO1<|AOx<|AOv<|AOr<|AO1<|AO0<|Arf 1125899906826688 Qz (λx=>[(6,(.int .i64 x.1)),(7,(.int .i64 x.2.1)),(8,(.int .i64 x.2.2))]) (λx=>Ch.L) Ch ⟨rfl,rfl,rfl,trivial⟩ ?_);rintro ⟨Kn,Q2,Fh⟩ APo Cx APp Ak Fi Q3;unfold Anf at Fi;refine AOx<|AOv<|AOr<|AOr<|Ah3 rfl (Ai6 Ah9 Aia (Ak.b p4) 3 rfl (Ahx APa rfl (Ak.o2 p3).rd (Ahn rfl rfl (AOz<|⟨_,rfl,λFj=>?_,λFj=>?_⟩))))
    ·refine AO5<|q_t ?_;obtain ⟨Q4,Q6,Q7⟩:=AOw<|Ahy Fi Fj;refine Arb 1125899898454208 (λx:(Int) × (Int)=>[(6,(.int .i64 x.1)),(7,(.int .i64 x.2))]) (λx h'=>( (x.1,x.2))=Q4/\Kst h h' (Ak.L)) ?_ ?_
     ·refine AO0<|AOx<|Ai1 (λh'=>UpT [] Cx h') AO4 ?_;have Dl:UpT [] Cx Cx:=UpT.start all_nil;refine AOr<|AOr<|Ah3 rfl (Ah2 Ah9 rfl (Ahm Aia rfl Dl (λh' hb=>((Ak.b p4).ext hb.ext).cell (i:=3) rfl) (AOr ?_)));obtain ⟨APq,Fk,Q8⟩:=AOw Q6;refine Aij APa rfl (Ak.o2 p3) rfl Fk λAPr APs APt Q9 Rc=>Ahm Aha rfl Dl (λh' hb=>AO8 Rc hb.ext) (AOr ?_);obtain ⟨APu,Ko,Rd⟩:=AOw Q8;refine Air (m:=Fh) APe rfl (Ak.o2 p3) Q9 Fk rfl Ko λAPv Re=>?_;obtain ⟨APw,Rf,Rg⟩:=(Ak.o2 p3).cells Re Fk Ko;obtain rfl:=Rf;refine Ahm AO9 rfl Dl (λh' hb=>AO8 (Rg 0 _ rfl) hb.ext) ?_;obtain ⟨Rh,Kp,Ri⟩:=AOw Rd;have Kr:UpT [] Cx Cx:=UpT.start all_nil;refine Ahq (K':=(λxr h'=> ∃ x:(Int),x=Rh/\xr=(.int .i64 x)/\Kst h h' (Ak.L)/\UpT [] Cx h')) Dl rfl ?_ λAPx Fl Rj=>?_
      ·refine cwf (l:=[_,_]) Tryz.func80 rfl rfl (AOv<|AO1<|AOx<|AOv<|AOr<|Ai0 rfl rfl (AOz<|⟨_,rfl,λFm=>?_,λFm=>?_⟩))
       ·refine AOv<|AOr<|Ah3 rfl (Ah2 A23 rfl (Ahu Aii rfl ((Ak.b p4).cell (i:=2) rfl) (AO1<|AO6<|Ag7<|⟨_,AO7,(Bm:(Int)),?_,rfl,?_,?_⟩)))
        ·exact AOu<|Ahy Kp Fm
        ·exact Ak
        ·exact Kr
       ·refine AO5<|q_t<|AOv<|AOr<|AOr<|Ah3 rfl (Ah2 Azj rfl (Ahu AO9 rfl ((Ak.b p4).cell (i:=0) rfl) ?_));obtain ⟨Rm,Rn,Ro⟩:=AOw<|Ahz Kp Fm;refine Aqs rfl (Ajq Rn) λAPy APz Fo Rq=>?_;subst Rq;refine AO1<|AO6 ?_;have AP0:=Fo.1;refine ⟨_,AO7,(Rm:(Int)),?_,rfl,?_,?_⟩
        ·exact AOu Ro
        ·exact (Ak.e Fo)
        ·exact (Kr.thenE Fo)
      obtain ⟨AP1,Rr,rfl,Do,Kt⟩:=Rj;have AP2:=Kt.size;have Cy:=Dl.then Kt all_nil;refine ⟨Cy,?_⟩;subst Rr;refine AOr<|AOr<|Ah3 rfl (Ah2 Ah9 rfl (Ahm Aia rfl Cy (λh' hb=>((Ak.b p4).ext hb.ext).cell (i:=3) rfl) (AOr ?_)));obtain ⟨AP3,Fp,Rs⟩:=AOw Ri;refine Aij APa rfl (Ak.o2 p3) rfl Fp λAP4 AP5 AP6 Rt Ru=>Ahm Aha rfl Cy (λh' hb=>AO8 Ru hb.ext) (AOr ?_);obtain ⟨AP7,Ku,Rv⟩:=AOw Rs;refine Air (m:=Kn) APe rfl (Ak.o2 p3) Rt Fp rfl Ku λAP8 Rw=>?_;obtain ⟨AP9,Rx,Ry⟩:=(Ak.o2 p3).cells Rw Fp Ku;obtain rfl:=Rx;refine Ahm AO9 rfl Cy (λh' hb=>AO8 (Ry 0 _ rfl) hb.ext) ?_;obtain ⟨Rz,Kv,Kw⟩:=AOw Rv;have Kx:UpT [] Fl Fl:=UpT.start all_nil;refine Ahq (K':=(λxr h'=> ∃ x:(Int),x=Rz/\xr=(.int .i64 x)/\Kst h h' (Do.L)/\UpT [] Fl h')) Cy rfl ?_ λAQa AQb R3=>?_
      ·refine cwf (l:=[_,_]) Tryz.func80 rfl rfl (AOv<|AO1<|AOx<|AOv<|AOr<|Ai0 rfl rfl (AOz<|⟨_,rfl,λFq=>?_,λFq=>?_⟩))
       ·refine AOv<|AOr<|Ah3 rfl (Ah2 A23 rfl (Ahu Aii rfl ((Do.b p4).cell (i:=2) rfl) (AO1<|AO6<|Ag7<|⟨_,AO7,(Bm:(Int)),?_,rfl,?_,?_⟩)))
        ·exact AOu<|Ahy Kv Fq
        ·exact Do
        ·exact Kx
       ·refine AO5<|q_t<|AOv<|AOr<|AOr<|Ah3 rfl (Ah2 Azj rfl (Ahu AO9 rfl ((Do.b p4).cell (i:=0) rfl) ?_));obtain ⟨R4,R5,R6⟩:=AOw<|Ahz Kv Fq;refine Aqs rfl (Ajq R5) λAQc AQd Fr R7=>?_;subst R7;refine AO1<|AO6 ?_;have AQe:=Fr.1;refine ⟨_,AO7,(R4:(Int)),?_,rfl,?_,?_⟩
        ·exact AOu R6
        ·exact (Do.e Fr)
        ·exact (Kx.thenE Fr)
      obtain ⟨AQf,R8,rfl,Ky,Kz⟩:=R3;have AQg:=Kz.size;refine ⟨(Cy.then Kz all_nil),?_⟩;subst R8;refine Ahn rfl rfl (AOz<|⟨_,rfl,λFt=>?_,λFt=>?_⟩)
      ·refine Ag6<|AOr<|AOr<|Aho<|Aho<|Ahh<|q_b<|q_t ?_;exact ⟨((Fh,Fh):(Int) × (Int)),⟨AOu<|Ahy Kw Ft,Ky⟩,rfl,rfl,trivial⟩
      ·refine AO5<|q_b<|q_t ?_;exact ⟨((Kn,Q2):(Int) × (Int)),⟨AOu<|Ahz Kw Ft,Ky⟩,rfl,rfl,trivial⟩
     rintro ⟨AQh,AQi⟩ AQj AQk ⟨R9,Sa⟩;subst R9;refine Ag6<|AOr<|Ahk rfl rfl (AO1 ?_);exact ⟨_,(AOu Q7).symm,Sa,rfl,rfl,rfl,trivial⟩
    ·refine Ahf<|Ahg<|Ahg<|Aio<|q_t<|AOx<|AOv<|AOr<|AO1<|AO0<|Arf 316912650057055098574362117824 (Q3 _ (AOu<|Ahz Fi Fj).symm) (λx=>[(6,(.int .i64 x.1)),(7,(.int .i64 x.2.1)),(9,(.int .i64 x.2.2))]) (λx=>Ak.L) Ak ⟨rfl,rfl,rfl,trivial⟩ ?_;rintro ⟨Sb,Sc,La⟩ AQl AQm AQn Dp Fu Sd;unfold Ane at Fu;refine AOx<|AOv<|AOr<|AOr<|Ah3 rfl (Ai6 Ah9 Aia (Dp.b p4) 3 rfl (Ahx APa rfl (Dp.o2 p3).rd (Ahn rfl rfl (AOz<|⟨_,rfl,λFv=>?_,λFv=>?_⟩))))
     ·refine AO5<|q_t<|AOx<|AO0<|AOv<|AOr<|Ahk rfl rfl (AO1<|AO0<|Arf 316912650052445664355748414656 (Ahy Fu Fv) (λx=>[(6,(.int .i64 x.1)),(7,(.int .i64 x.2.1)),(10,(.int .i64 x.2.2))]) (λx=>Dp.L) Dp ⟨rfl,rfl,rfl,trivial⟩ ?_);rintro ⟨Lb,Se,Sf⟩ AQo Cz AQp Ax Fw Sg;unfold Apq at Fw;refine AOx<|AOv<|AOr<|AOr<|Ah3 rfl (Ai6 Ah9 Aia (Ax.b p4) 3 rfl (Ahx APa rfl (Ax.o2 p3).rd (Ahn rfl rfl (AOz<|⟨_,rfl,λFx=>?_,λFx=>?_⟩))))
      ·refine AO5<|q_t ?_;obtain ⟨Sh,Si,Sj⟩:=AOw<|Ahy Fw Fx;refine Arb 316912647695874108939353194688 (λx:(Int) × (Int)=>[(6,(.int .i64 x.1)),(7,(.int .i64 x.2))]) (λx h'=>( (x.1,x.2))=Sh/\Kst h h' (Ax.L)) ?_ ?_
       ·refine AO0<|AOx<|Ai1 (λh'=>UpT [] Cz h') AO4 ?_;have Dq:UpT [] Cz Cz:=UpT.start all_nil;refine AOr<|AOr<|Ah3 rfl (Ah2 Ah9 rfl (Ahm Aia rfl Dq (λh' hb=>((Ax.b p4).ext hb.ext).cell (i:=3) rfl) (AOr ?_)));obtain ⟨AQq,Fy,Sk⟩:=AOw Si;refine Aij APa rfl (Ax.o2 p3) rfl Fy λAQr AQs AQt Sm Sn=>Ahm Aha rfl Dq (λh' hb=>AO8 Sn hb.ext) (AOr ?_);obtain ⟨AQu,Lc,So⟩:=AOw Sk;refine Air (m:=La) APe rfl (Ax.o2 p3) Sm Fy rfl Lc λAQv Sq=>?_;obtain ⟨AQw,Sr,Ss⟩:=(Ax.o2 p3).cells Sq Fy Lc;obtain rfl:=Sr;refine Ahm AO9 rfl Dq (λh' hb=>AO8 (Ss 0 _ rfl) hb.ext) ?_;obtain ⟨St,Ld,Su⟩:=AOw So;have Le:UpT [] Cz Cz:=UpT.start all_nil;refine Ahq (K':=(λxr h'=> ∃ x:(Int),x=St/\xr=(.int .i64 x)/\Kst h h' (Ax.L)/\UpT [] Cz h')) Dq rfl ?_ λAQx Fz Sv=>?_
        ·refine cwf (l:=[_,_]) Tryz.func80 rfl rfl (AOv<|AO1<|AOx<|AOv<|AOr<|Ai0 rfl rfl (AOz<|⟨_,rfl,λF4=>?_,λF4=>?_⟩))
         ·refine AOv<|AOr<|Ah3 rfl (Ah2 A23 rfl (Ahu Aii rfl ((Ax.b p4).cell (i:=2) rfl) (AO1<|AO6<|Ag7<|⟨_,AO7,(Bm:(Int)),?_,rfl,?_,?_⟩)))
          ·exact AOu<|Ahy Ld F4
          ·exact Ax
          ·exact Le
         ·refine AO5<|q_t<|AOv<|AOr<|AOr<|Ah3 rfl (Ah2 Azj rfl (Ahu AO9 rfl ((Ax.b p4).cell (i:=0) rfl) ?_));obtain ⟨Sw,Sx,Sy⟩:=AOw<|Ahz Ld F4;refine Aqs rfl (Ajq Sx) λAQy AQz F5 Sz=>?_;subst Sz;refine AO1<|AO6 ?_;have AQ0:=F5.1;refine ⟨_,AO7,(Sw:(Int)),?_,rfl,?_,?_⟩
          ·exact AOu Sy
          ·exact (Ax.e F5)
          ·exact (Le.thenE F5)
        obtain ⟨AQ1,S5,rfl,Dr,Lf⟩:=Sv;have AQ2:=Lf.size;have C0:=Dq.then Lf all_nil;refine ⟨C0,?_⟩;subst S5;refine AOr<|AOr<|Ah3 rfl (Ah2 Ah9 rfl (Ahm Aia rfl C0 (λh' hb=>((Ax.b p4).ext hb.ext).cell (i:=3) rfl) (AOr ?_)));obtain ⟨AQ3,F6,S7⟩:=AOw Su;refine Aij APa rfl (Ax.o2 p3) rfl F6 λAQ4 AQ5 AQ6 Ta Tb=>Ahm Aha rfl C0 (λh' hb=>AO8 Tb hb.ext) (AOr ?_);obtain ⟨AQ7,Lg,Tc⟩:=AOw S7;refine Air (m:=Lb) APe rfl (Ax.o2 p3) Ta F6 rfl Lg λAQ8 Td=>?_;obtain ⟨AQ9,Te,Tf⟩:=(Ax.o2 p3).cells Td F6 Lg;obtain rfl:=Te;refine Ahm AO9 rfl C0 (λh' hb=>AO8 (Tf 0 _ rfl) hb.ext) ?_;obtain ⟨Tg,Lh,Li⟩:=AOw Tc;have Lj:UpT [] Fz Fz:=UpT.start all_nil;refine Ahq (K':=(λxr h'=> ∃ x:(Int),x=Tg/\xr=(.int .i64 x)/\Kst h h' (Dr.L)/\UpT [] Fz h')) C0 rfl ?_ λARa ARb Th=>?_
        ·refine cwf (l:=[_,_]) Tryz.func80 rfl rfl (AOv<|AO1<|AOx<|AOv<|AOr<|Ai0 rfl rfl (AOz<|⟨_,rfl,λF7=>?_,λF7=>?_⟩))
         ·refine AOv<|AOr<|Ah3 rfl (Ah2 A23 rfl (Ahu Aii rfl ((Dr.b p4).cell (i:=2) rfl) (AO1<|AO6<|Ag7<|⟨_,AO7,(Bm:(Int)),?_,rfl,?_,?_⟩)))
          ·exact AOu<|Ahy Lh F7
          ·exact Dr
          ·exact Lj
         ·refine AO5<|q_t<|AOv<|AOr<|AOr<|Ah3 rfl (Ah2 Azj rfl (Ahu AO9 rfl ((Dr.b p4).cell (i:=0) rfl) ?_));obtain ⟨Ti,Tj,Tk⟩:=AOw<|Ahz Lh F7;refine Aqs rfl (Ajq Tj) λARc ARd F8 Tl=>?_;subst Tl;refine AO1<|AO6 ?_;have ARe:=F8.1;refine ⟨_,AO7,(Ti:(Int)),?_,rfl,?_,?_⟩
          ·exact AOu Tk
          ·exact (Dr.e F8)
          ·exact (Lj.thenE F8)
        obtain ⟨ARf,Tm,rfl,Lk,Ll⟩:=Th;have ARg:=Ll.size;refine ⟨(C0.then Ll all_nil),?_⟩;subst Tm;refine Ahn rfl rfl (AOz<|⟨_,rfl,λF9=>?_,λF9=>?_⟩)
        ·refine Ag6<|AOr<|AOr<|Aho<|Aho<|Ahh<|q_b<|q_t ?_;exact ⟨((La,Sf):(Int) × (Int)),⟨AOu<|Ahy Li F9,Lk⟩,rfl,rfl,trivial⟩
        ·refine AO5<|q_b<|q_t ?_;exact ⟨((Lb,Se):(Int) × (Int)),⟨AOu<|Ahz Li F9,Lk⟩,rfl,rfl,trivial⟩
       rintro ⟨ARh,ARi⟩ ARj ARk ⟨Tn,To⟩;subst Tn;refine Ag6<|AOr<|Ahk rfl rfl (AO1 ?_);exact ⟨_,(AOu Sj).symm,To,rfl,rfl,rfl,trivial⟩
      ·refine Ahf<|Ahg<|Ahg<|Aio<|q_b<|q_t<|Ag6<|AOr<|Ahk rfl rfl (AO1 ?_);exact ⟨_,(AOu<|Sg _ (AOu<|Ahz Fw Fx).symm).symm,Ax,rfl,rfl,rfl,trivial⟩
     ·refine Ahf<|Ahg<|Ahg<|Aio<|q_t<|AOv<|AOr<|AOr<|Aho<|AO1<|AO6<|⟨_,Aiz,((Sb,Sc):(Int) × (Int)),?_,rfl,?_⟩
      ·exact AOu<|Sd _ (AOu<|Ahz Fu Fv).symm
      ·exact Dp
   obtain ⟨⟨C1,Ga⟩,Tp,rfl,Ca⟩:=Q1;refine ⟨trivial,?_⟩;subst Tp;refine AOr<|Ait rfl rfl (Ait rfl rfl (Aho<|AO1 ?_));obtain ⟨Tq,Lm,Lo⟩:=AOw Q0;refine Arb 4951760083354544804758291456 (λx:(Int) × (LiI) × LnA × LnN × LvA × (LiI) × ((List Ak8)) × (Value) × LnA=>[(10,(.int .i64 x.1))]) (λx h'=>(Sum.inr <| (x.1,x.2.1,x.2.2.2.2.2.1,x.2.2.2.2.2.2.1))=Tq/\Kst h h' ((((Ca.L.set 3<|aO2 (cI .i64) 61 2 x.2.2.1 x.2.2.2.1 x.2.2.2.2.1 Ab x.2.1).set 2 (aO2 (cI .i64) 61 2 Aa Ae Af Ac x.2.2.2.2.2.1)).set 0 (aO Arc 60 x.2.2.2.2.2.2.2.2 x.2.2.2.2.2.2.2.1 x.2.2.2.2.2.2.1)).set 1 (aB 29 Kh [(.int .i64 a5),(.slice none 0 0),x.2.2.2.2.2.2.2.1]))) ?_ ?_
   ·refine AOv<|AOr<|AOr<|Ajs rfl rfl (AOr ?_);by_cases Ed: ¬ C1=Ga
    ·have Lq:=ifT Lm Ed;rw [decide_eq_true Ed];refine Ahb 69 true<|AOr<|Ahb 69 true<|Ai0 rfl rfl (Ahc rfl (AOz<|⟨_,rfl,λGb=>?_,λGb=>?_⟩))
     ·refine AOv<|AOr<|AOr<|AOr ?_;obtain ⟨Tr,Ts,Tt⟩:=AOw<|Ahy Lq Gb;refine Ahq (K':=(λxr h'=> ∃ x:(LiI) × LnA × LnN × LvA × (LiI),(x.1,x.2.2.2.2)=Tr/\xr= .tuple #[]/\Kst h h' ((Ca.L.set 3<|aO2 (cI .i64) 61 2 x.2.1 x.2.2.1 x.2.2.2.1 Ab x.1).set 2 (aO2 (cI .i64) 61 2 Aa Ae Af Ac x.2.2.2.2)))) trivial rfl ?_ λARl ARm Tu=>?_
      ·refine cwf (l:=[_,_,_]) Tryz.func37 rfl rfl (AOx<|AOv<|AOr<|Ah3 rfl (Ai6 Ah9 Aia (Ca.b p4) 3 rfl (Ahx APa rfl (Ca.o2 p3).rd (AOr<|AOz<|AO0<|Arf 4951760157141521099596492864 Ts (λx=>[(12,(.int .i64 x.1))]) (λx=>(Ca.L.set 3<|aO2 (cI .i64) 61 2 Fc Fd Fe Ab x.2.1).set 2 (aO2 (cI .i64) 61 2 Aa Ae Af Ac x.2.2)) Ca ⟨rfl,trivial⟩ ?_))));rintro ⟨Cb,Tv,Tw⟩ ARn ARo ARp Ah Gc Tx;unfold Akl at Gc;refine AOv<|Ahn rfl rfl (AOz<|AOx<|⟨_,rfl,λGd=>?_,λGd=>?_⟩)
       ·refine AO5<|q_t<|AOx<|AO0<|AOv<|AOr<|AO1<|AOx<|Ame<|AOr<|Ah3 rfl (Ai6 Ah9 Aia (Ah.b p4) 3 rfl (AOr ?_));obtain ⟨ARq,Ci,Ty⟩:=AOw<|Ahy Gc Gd;refine Aiw APa Aha (Ah.o2 p3) Ci λ_ ARr Tz=>AOr<|AOr<|Ah3 rfl (Ai6 Ah9 Aia (Ah.b p4) 3 rfl (AOr<|Aiw APa Aha (Ah.o2 p3) Ci λ_ ARs T0=>AOr<|AOr<|Ah3 rfl (Ai6 Ah9 Aia (Ah.b p4) 3 rfl (AOr<|Aiw APa Aha (Ah.o2 p3) Ci λ_ ARt T3=>AOr ?_))));obtain ⟨ARu,T4,T5⟩:=AOw Ty;refine Atw (m:=Cb) APe AO9 (Ah.o2 p3) T3 Ci T4 λ_=>(AOr<|Ah3 rfl (Ai6 Ah9 Aia (Ah.b p4) 3 rfl (AOr<|Aiw APa Aha (Ah.o2 p3) Ci λ_ ARv T6=>AOr ?_)));obtain ⟨ARw,Lr,T7⟩:=AOw T5;refine Atw (m:=Cb) APe AO9 (Ah.o2 p3) T6 Ci Lr λ_=>Aqv (m:=Cb) Ah p3 APe AO9 Tz Ci Lr (λ_=>rfl) λ_ ARx T8=>?_;obtain ⟨ARy,T9,Ua⟩:=AOw T7;obtain ⟨ARz,Ub,Uc⟩:=AOw Ua;refine Aqv (m:=Cb) T8 p3 APe AO9 T0 T9 Ub (λ_=>rfl) λ_ AR0 Bn=>AOz<|Ame<|AOr<|Ah3 rfl (Ai6 Ald Aia (Bn.b p4) 4 rfl (AOr ?_));obtain ⟨AR1,Cj,Ud⟩:=AOw Uc;refine Aiw APa Aha (Bn.o2 p2) Cj λ_ AR2 Ue=>AOr<|AOr<|Ah3 rfl (Ai6 Ald Aia (Bn.b p4) 4 rfl (AOr<|Aiw APa Aha (Bn.o2 p2) Cj λ_ AR3 Uf=>AOr<|AOr<|Ah3 rfl (Ai6 Ald Aia (Bn.b p4) 4 rfl (AOr<|Aiw APa Aha (Bn.o2 p2) Cj λ_ AR4 Ug=>AOr ?_))));obtain ⟨AR5,Uh,Ui⟩:=AOw Ud;refine Atw (m:=Cb) APe AO9 (Bn.o2 p2) Ug Cj Uh λ_=>(AOr<|Ah3 rfl (Ai6 Ald Aia (Bn.b p4) 4 rfl (AOr<|Aiw APa Aha (Bn.o2 p2) Cj λ_ AR6 Uj=>AOr ?_)));obtain ⟨AR7,Lv,Uk⟩:=AOw Ui;refine Atw (m:=Cb) APe AO9 (Bn.o2 p2) Uj Cj Lv λ_=>Aqv (m:=Cb) Bn p2 APe AO9 Ue Cj Lv (λ_=>rfl) λ_ AR8 Ul=>?_;obtain ⟨AR9,Um,Un⟩:=AOw Uk;obtain ⟨ASa,Uo,Up⟩:=AOw Un;refine Aqv (m:=Cb) Ul p2 APe AO9 Uf Um Uo (λ_=>rfl) λ_ ASb Uq=>Ahh<|q_b<|q_t<|Ag6<|Ahk rfl rfl (AOr<|AOz ?_);exact ⟨_,(AOu Up).symm,Uq,rfl,trivial⟩
       ·refine Ahf<|Ahg<|Ahg<|Aio<|q_t<|Ame<|AOr<|Ah3 rfl (Ai6 Ah9 Aia (Ah.b p4) 3 rfl (AOr<|AOr<|Ah3 rfl (Ai6 Ah9 Aia (Ah.b p4) 3 rfl (AOr<|AOr<|Ah3 rfl (Ai6 Ah9 Aia (Ah.b p4) 3 rfl (AOr ?_))))));obtain ⟨Ur,Lw,Us⟩:=AOw<|Tx _ (AOu<|Ahz Gc Gd).symm;refine Aiw APa Aha (Ah.o2 p3) Lw λ_ ASc Ut=>AOr<|Ah3 rfl (Ai6 Ah9 Aia (Ah.b p4) 3 rfl (AOr ?_));obtain ⟨Uu,Lx,Uv⟩:=AOw Us;refine Aiw APa Aha (Ah.o2 p3) Lx λ_ ASd Uw=>Avr APa Aha (Ah.o2 p3) Uw Ut Lx Lw rfl rfl (λ_=>rfl) (λ_=>rfl) (λ_=>rfl) (λ_ _=>rfl) λASe ASf Ux Uy Uz ASg U0 U3 U8=>Ahh<|⟨_,Auv,(((sI (sI Tv A9 Ur) C1 Uu),Ux,Uy,Uz,Tw):(LiI) × LnA × LnN × LvA × (LiI)),?_,rfl,?_⟩
        ·exact AOu Uv
        ·exact (Ah.uo2 p3 U3 U0 U8)
      obtain ⟨⟨ASh,Va,Vb,Vc,ASi⟩,Vd,rfl,Ds⟩:=Tu;refine ⟨trivial,?_⟩;subst Vd;refine Apt<|AOr<|AOr<|Ahk rfl rfl (AOr ?_);obtain ⟨Ve,Vf,Vg⟩:=AOw Tt;refine Ahq (K':=(λxr h'=> ∃ x:(LiI) × LnA × LnN × LvA × (LiI),(x.1,x.2.2.2.2)=Ve/\xr= .tuple #[]/\Kst h h' ((Ds.L.set 3<|aO2 (cI .i64) 61 2 x.2.1 x.2.2.1 x.2.2.2.1 Ab x.1).set 2 (aO2 (cI .i64) 61 2 Aa Ae Af Ac x.2.2.2.2)))) trivial rfl ?_ λASj Ck Vh=>?_
      ·refine cwf (l:=[_,_,_]) Tryz.func37 rfl rfl (AOx<|AOv<|AOr<|Ah3 rfl (Ai6 Ah9 Aia (Ds.b p4) 3 rfl (Ahx APa rfl (Ds.o2 p3).rd (AOr<|AOz<|AO0<|Arf 4951760157141521099596492864 Vf (λx=>[(12,(.int .i64 x.1))]) (λx=>(Ds.L.set 3<|aO2 (cI .i64) 61 2 Va Vb Vc Ab x.2.1).set 2 (aO2 (cI .i64) 61 2 Aa Ae Af Ac x.2.2)) Ds ⟨rfl,trivial⟩ ?_))));rintro ⟨Cd,Vi,Vj⟩ ASk ASl ASm Ai Ge Vk;unfold Akm at Ge;refine AOv<|Ahn rfl rfl (AOz<|AOx<|⟨_,rfl,λGf=>?_,λGf=>?_⟩)
       ·refine AO5<|q_t<|AOx<|AO0<|AOv<|AOr<|AO1<|AOx<|Ame<|AOr<|Ah3 rfl (Ai6 Ah9 Aia (Ai.b p4) 3 rfl (AOr ?_));obtain ⟨ASn,Cm,Vl⟩:=AOw<|Ahy Ge Gf;refine Aiw APa Aha (Ai.o2 p3) Cm λ_ ASo Vm=>AOr<|AOr<|Ah3 rfl (Ai6 Ah9 Aia (Ai.b p4) 3 rfl (AOr<|Aiw APa Aha (Ai.o2 p3) Cm λ_ ASp Vn=>AOr<|AOr<|Ah3 rfl (Ai6 Ah9 Aia (Ai.b p4) 3 rfl (AOr<|Aiw APa Aha (Ai.o2 p3) Cm λ_ ASq Vo=>AOr ?_))));obtain ⟨ASr,Vp,Vs⟩:=AOw Vl;refine Atw (m:=Cd) APe AO9 (Ai.o2 p3) Vo Cm Vp λ_=>(AOr<|Ah3 rfl (Ai6 Ah9 Aia (Ai.b p4) 3 rfl (AOr<|Aiw APa Aha (Ai.o2 p3) Cm λ_ ASs Vt=>AOr ?_)));obtain ⟨ASt,Ly,Vu⟩:=AOw Vs;refine Atw (m:=Cd) APe AO9 (Ai.o2 p3) Vt Cm Ly λ_=>Aqv (m:=Cd) Ai p3 APe AO9 Vm Cm Ly (λ_=>rfl) λ_ ASu Vv=>?_;obtain ⟨ASv,Vw,Vx⟩:=AOw Vu;obtain ⟨ASw,Vy,Vz⟩:=AOw Vx;refine Aqv (m:=Cd) Vv p3 APe AO9 Vn Vw Vy (λ_=>rfl) λ_ ASx Bo=>AOz<|Ame<|AOr<|Ah3 rfl (Ai6 Ald Aia (Bo.b p4) 4 rfl (AOr ?_));obtain ⟨ASy,Cn,V1⟩:=AOw Vz;refine Aiw APa Aha (Bo.o2 p2) Cn λ_ ASz V4=>AOr<|AOr<|Ah3 rfl (Ai6 Ald Aia (Bo.b p4) 4 rfl (AOr<|Aiw APa Aha (Bo.o2 p2) Cn λ_ AS0 V6=>AOr<|AOr<|Ah3 rfl (Ai6 Ald Aia (Bo.b p4) 4 rfl (AOr<|Aiw APa Aha (Bo.o2 p2) Cn λ_ AS1 V8=>AOr ?_))));obtain ⟨AS2,Wa,Wb⟩:=AOw V1;refine Atw (m:=Cd) APe AO9 (Bo.o2 p2) V8 Cn Wa λ_=>(AOr<|Ah3 rfl (Ai6 Ald Aia (Bo.b p4) 4 rfl (AOr<|Aiw APa Aha (Bo.o2 p2) Cn λ_ AS3 Wc=>AOr ?_)));obtain ⟨AS4,Lz,Wd⟩:=AOw Wb;refine Atw (m:=Cd) APe AO9 (Bo.o2 p2) Wc Cn Lz λ_=>Aqv (m:=Cd) Bo p2 APe AO9 V4 Cn Lz (λ_=>rfl) λ_ AS5 We=>?_;obtain ⟨AS6,Wf,Wg⟩:=AOw Wd;obtain ⟨AS7,Wh,Wi⟩:=AOw Wg;refine Aqv (m:=Cd) We p2 APe AO9 V6 Wf Wh (λ_=>rfl) λ_ AS8 Wj=>Ahh<|q_b<|q_t<|Ag6<|Ahk rfl rfl (AOr<|AOz ?_);exact ⟨_,(AOu Wi).symm,Wj,rfl,trivial⟩
       ·refine Ahf<|Ahg<|Ahg<|Aio<|q_t<|Ame<|AOr<|Ah3 rfl (Ai6 Ah9 Aia (Ai.b p4) 3 rfl (AOr<|AOr<|Ah3 rfl (Ai6 Ah9 Aia (Ai.b p4) 3 rfl (AOr<|AOr<|Ah3 rfl (Ai6 Ah9 Aia (Ai.b p4) 3 rfl (AOr ?_))))));obtain ⟨Wk,L9,Wl⟩:=AOw<|Vk _ (AOu<|Ahz Ge Gf).symm;refine Aiw APa Aha (Ai.o2 p3) L9 λ_ AS9 Wm=>AOr<|Ah3 rfl (Ai6 Ah9 Aia (Ai.b p4) 3 rfl (AOr ?_));obtain ⟨Wn,Ma,Wo⟩:=AOw Wl;refine Aiw APa Aha (Ai.o2 p3) Ma λ_ ATa Wp=>Avr APa Aha (Ai.o2 p3) Wp Wm Ma L9 rfl rfl (λ_=>rfl) (λ_=>rfl) (λ_=>rfl) (λ_ _=>rfl) λATb ATc Wq Wr Ws ATd Wt Wu Wv=>Ahh<|⟨_,Auv,(((sI (sI Vi (w64<|A9 + 1) Wk) Ga Wn),Wq,Wr,Ws,Vj):(LiI) × LnA × LnN × LvA × (LiI)),?_,rfl,?_⟩
        ·exact AOu Wo
        ·exact (Ai.uo2 p3 Wu Wt Wv)
      obtain ⟨⟨Ww,Ad,Ce,Cf,Wx⟩,Wy,rfl,Bp⟩:=Vh;refine ⟨trivial,?_⟩;subst Wy;refine AOz<|AOx<|Ai1 (λh'=>UpT (Ec ++ (Ad ++ (Aa ++ []))) Ck h') AO4 ?_;have Gg:UpT (Ec ++ (Ad ++ (Aa ++ []))) Ck Ck:=UpT.start<|Aiv (Bp.o p0).notD<|Aiv (Bp.o2 p3).notD<|Aiv (Bp.o2 p2).notD all_nil;refine Ah2 Ao4 rfl (Ahm Avc rfl Gg (λh' hb=>((Bp.b p1).upT hb (A17 (Bp.dj p1 p0 AOs)<|A17 (Bp.dj p1 p3 AOs)<|A17 (Bp.dj p1 p2 AOs) A9n)).cell (i:=2) rfl) (AOr<|AOr ?_));obtain ⟨Wz,W0,W1⟩:=AOw Vg;have W3:UpT (Ad ++ (Aa ++ [])) Ck Ck:=UpT.start<|Aiv (Bp.o2 p3).notD<|Aiv (Bp.o2 p2).notD all_nil;refine Ahq (K':=(λxr h'=> ∃ x:(Int) × (Int) × (Int) × (Int) × (Int) × (LiI) × (LiI),(x.1,x.2.1,x.2.2.1,x.2.2.2.1,x.2.2.2.2.1,x.2.2.2.2.2.1,x.2.2.2.2.2.2)=Wz/\xr=(.agg #[(.int .i64 x.1),(.int .i64 x.2.1),(.int .i64 x.2.2.1),(.int .i64 x.2.2.2.1),(.int .i64 x.2.2.2.2.1)])/\Kst h h' ((Bp.L.set 3<|aO2 (cI .i64) 61 2 Ad Ce Cf Ab x.2.2.2.2.2.1).set 2 (aO2 (cI .i64) 61 2 Aa Ae Af Ac x.2.2.2.2.2.2))/\UpT (Ad ++ (Aa ++ [])) Ck h')) Gg rfl ?_ λATe ATf W4=>?_
      ·refine cwf (l:=[_,_]) Tryz.func38 rfl rfl (AOv<|A2a [(.int .i64 0),(.int .i64 0),(.int .i64 0),(.int .i64 0),(.int .i64 0)] Axp rfl trivial tt2 λATg Gh W5 Gi Mb=>Apt<|AOr<|AOr<|Ah3 rfl (Ah2 Ah9 rfl ?_));have ATh:=Gi.1;have Bw:=Bp.nb Gi Mb W5;refine Ahu Aia rfl ((Bw.b p5).cell (i:=3) rfl) (AOr ?_);have W6:=Mb.loAll 0 rfl;obtain ⟨ATi,Bx,W7⟩:=AOw W0;refine Aij APa rfl (Bw.o2 p4) rfl Bx λATj ATk ATl W8 Xa=>Ahu Aha rfl Xa (AOr<|Ahk rfl rfl ?_);obtain ⟨Gj,Ee,Xb⟩:=AOw W7;refine Air (m:=A9) APe rfl (Bw.o2 p4) W8 Bx rfl Ee λATm Xc=>?_;obtain ⟨ATn,Xd,Xe⟩:=(Bw.o2 p4).cells Xc Bx Ee;obtain rfl:=Xd;refine Ahu AO9 rfl (Xe 0 _ rfl) ?_;obtain ⟨Xf,Mc,Xg⟩:=AOw Xb;have Md:UpT [] Gh Gh:=UpT.start all_nil;refine Ahq (K':=(λxr h'=> ∃ x:(Int),x=Xf/\xr=(.int .i64 x)/\Kst h h' (Bw.L)/\UpT [] Gh h')) trivial rfl ?_ λATo ATp Xh=>?_
       ·refine cwf (l:=[_,_]) Tryz.func80 rfl rfl (AOv<|AO1<|AOx<|AOv<|AOr<|Ai0 rfl rfl (AOz<|⟨_,rfl,λGk=>?_,λGk=>?_⟩))
        ·refine AOv<|AOr<|Ah3 rfl (Ah2 A23 rfl (Ahu Aii rfl ((Bw.b p5).cell (i:=2) rfl) (AO1<|AO6<|Ag7<|⟨_,AO7,(Bm:(Int)),?_,rfl,?_,?_⟩)))
         ·exact AOu<|Ahy Mc Gk
         ·exact Bw
         ·exact Md
        ·refine AO5<|q_t<|AOv<|AOr<|AOr<|Ah3 rfl (Ah2 Azj rfl (Ahu AO9 rfl ((Bw.b p5).cell (i:=0) rfl) ?_));obtain ⟨Xi,Xj,Xk⟩:=AOw<|Ahz Mc Gk;refine Aqs rfl (Ajq Xj) λATq ATr Gl Xl=>?_;subst Xl;refine AO1<|AO6 ?_;have ATs:=Gl.1;refine ⟨_,AO7,(Xi:(Int)),?_,rfl,?_,?_⟩
         ·exact AOu Xk
         ·exact (Bw.e Gl)
         ·exact (Md.thenE Gl)
       obtain ⟨Gm,Xm,rfl,Me,Mf⟩:=Xh;have ATt:=Mf.size;refine ⟨trivial,?_⟩;subst Xm;refine Ah7<|AOr<|Ah3 rfl (Ah2 Azj rfl (Ahu AO9 rfl ((Me.b p5).cell (i:=0) rfl) (AOr ?_)));obtain ⟨By,Xn,Xo⟩:=AOw Xg;refine Aqs rfl (Alo Xn) λATu ATv Gn Xp=>?_;subst Xp;refine Ah7<|AOr<|Ah3 rfl (Ah2 Al8 rfl ?_);have ATw:=Gn.1;have A7:=Me.e Gn;refine Ahu AO9 rfl ((A7.b p5).cell (i:=1) rfl) (AOr ?_);obtain ⟨Xq,Xr⟩:=ifN Xo;refine Avu rfl rfl Xq (AO1<|AOx<|Ame<|AOr<|Ah3 rfl (Ah2 Ah9 rfl (Ahu Aia rfl ((A7.b p5).cell (i:=3) rfl) (AOr<|Aij APa rfl (A7.o2 p4) rfl Bx λATx ATy ATz Xt Xu=>Ahu Aha rfl Xu (AOr ?_)))));obtain ⟨Gp,Mg,Xv⟩:=AOw Xr;refine Air (m:=A9) APe rfl (A7.o2 p4) Xt Bx rfl Mg λAT0 Xw=>?_;obtain ⟨AT1,Xx,Xy⟩:=(A7.o2 p4).cells Xw Bx Mg;obtain rfl:=Xx;refine Ahu AO9 rfl (Xy 0 _ rfl) (AOr ?_);obtain ⟨Xz,X0⟩:=ifN Xv;refine Avu rfl rfl Xz (AOr<|Ah3 rfl (Ah2 Ah9 rfl (Ahu Aia rfl ((A7.b p5).cell (i:=3) rfl) (AOr<|Aij APa rfl (A7.o2 p4) rfl Bx λAT2 AT3 AT4 X3 X4=>Ahu Aha rfl X4 (AOr<|Ahk rfl rfl (Air (m:=A9) APe rfl (A7.o2 p4) X3 Bx rfl Ee λAT5 X5=>?_))))));obtain ⟨AT6,X6,X8⟩:=(A7.o2 p4).cells X5 Bx Ee;obtain rfl:=X6;refine Ahu AO9 rfl (X8 0 _ rfl) (AOr ?_);obtain ⟨Ya,Yb⟩:=ifN X0;refine Avu rfl rfl Ya (AOr<|Ah3 rfl (Ah2 Ah9 rfl (Ahu Aia rfl ((A7.b p5).cell (i:=3) rfl) (AOr<|Ahk rfl rfl ?_))));obtain ⟨AT7,Gq,Yc⟩:=AOw Yb;refine Aij APa rfl (A7.o2 p4) rfl Gq λAT8 AT9 AUa Yd Ye=>Ahu Aha rfl Ye (AOr<|Ahk rfl rfl ?_);obtain ⟨Gr,Mh,Yf⟩:=AOw Yc;refine Air (m:=(w64<|A9 + 1)) APe rfl (A7.o2 p4) Yd Gq rfl Mh λAUb Yg=>?_;obtain ⟨AUc,Yh,Yi⟩:=(A7.o2 p4).cells Yg Gq Mh;obtain rfl:=Yh;refine Ahu AO9 rfl (Yi 0 _ rfl) (AOr ?_);obtain ⟨Yj,Yk⟩:=ifN Yf;refine Avu rfl rfl Yj (Aho<|Aho<|AO1<|AOx<|Ame<|AOr<|AOr<|Aou rfl rfl (AOr ?_));obtain ⟨Yl,Ym⟩:=ifN Yk;refine Aj6 rfl rfl Yl (AOr<|AOr<|Aou rfl rfl (AOr ?_));obtain ⟨Yn,Yo⟩:=ifN Ym;refine Aj6 rfl rfl Yn (Amr rfl rfl (AOr ?_));obtain ⟨AUd,Yp,Yq⟩:=AOw Yo;refine Aqs rfl (Aik Yp) λAUe AUf Gt Yr=>?_;subst Yr;refine AOr ?_;have AUg:=Gt.1;obtain ⟨⟨AUh,AUi⟩,Ys,Mi⟩:=AOw Yq;dsimp only at Mi;refine Aqs rfl (As8 Ys) λAUj AUk Gu Yt=>?_;subst Yt;refine AOr<|Ait rfl rfl (Ait rfl rfl (Aho<|AO1<|AOx<|AOv<|AOr<|Ahk rfl rfl (AO1<|AO0 ?_)));have AUl:=Gu.1;have Mj:=(A7.e Gt).e Gu;obtain ⟨Mk,Yu,Yv⟩:=AOw Mi;obtain ⟨Yw,Yx,Yy⟩:=Aul Yu;refine Aj7 12259964326927110866866771146600072556032306990656249856 (λx:(Int) × (LiI) × (LiI)=>[(13,(.int .i64 x.1))]) (λk x h'=>iter Yw k (x.1,x.2.1,x.2.2)=some Mk/\Kst h h' ((Mj.L.set 4<|aO2 (cI .i64) 61 2 Ad Ce Cf Ab x.2.1).set 3 (aO2 (cI .i64) 61 2 Aa Ae Af Ac x.2.2))/\UpT (Ad ++ (Aa ++ [])) Ck h') AO4 fuel (((w64<|A9 + 2),Ww,Wx):(Int) × (LiI) × (LiI)) ?_ ⟨rfl,trivial⟩ ?_
       ·exact ⟨Yy,Mj,(((((W3.thenE Gi).then Mf all_nil).thenE Gn).thenE Gt).thenE Gu)⟩
       rintro AUm ⟨Ba,Ml,Mm⟩ AUn AUo ⟨Yz,A8,Gv⟩;have AUp:=Gv.size;obtain ⟨Y1,AUq,rfl,Dt,Gw⟩:=Aq9 Yz;rw [Yx] at Dt;dsimp only at Dt;unfold Akt at Dt;refine AOx<|AOv<|AOr<|AOr<|Ah3 rfl (Ah2 Ah9 rfl (Ahu Aia rfl ((A8.b p5).cell (i:=3) rfl) (Ahx APa rfl (A8.o2 p4).rd (Ahn rfl rfl (AOz<|⟨_,rfl,λGx=>?_,λGx=>?_⟩)))))
       ·refine AO5<|q_t<|AOx<|AO0<|AOx<|Ame<|AOr<|Ah3 rfl (Ah2 Ah9 rfl (Ahu Aia rfl ((A8.b p5).cell (i:=3) rfl) (AOr ?_)));obtain ⟨AUr,Gy,Y2⟩:=AOw<|Ahy Dt Gx;refine Aij APa rfl (A8.o2 p4) rfl Gy λAUs AUt AUu Y3 Y4=>Ahu Aha rfl Y4 (AOr ?_);obtain ⟨AUv,Mo,Y5⟩:=AOw Y2;refine Air (m:=A9) APe rfl (A8.o2 p4) Y3 Gy rfl Mo λAUw Y6=>?_;obtain ⟨AUx,Y7,Y8⟩:=(A8.o2 p4).cells Y6 Gy Mo;obtain rfl:=Y7;refine Ahu AO9 rfl (Y8 0 _ rfl) (AOr ?_);obtain ⟨Y9,Za⟩:=ifN Y5;refine Avu rfl rfl Y9 (AOr<|Ah3 rfl (Ah2 Ah9 rfl (Ahu Aia rfl ((A8.b p5).cell (i:=3) rfl) (AOr<|Ahk rfl rfl ?_))));obtain ⟨AUy,Gz,Zd⟩:=AOw Za;refine Aij APa rfl (A8.o2 p4) rfl Gz λAUz AU0 AU1 Ze Zf=>Ahu Aha rfl Zf (AOr ?_);obtain ⟨AU2,Mq,Zg⟩:=AOw Zd;refine Air (m:=(w64<|A9 + 1)) APe rfl (A8.o2 p4) Ze Gz rfl Mq λAU3 Zh=>?_;obtain ⟨AU4,Zj,Zk⟩:=(A8.o2 p4).cells Zh Gz Mq;obtain rfl:=Zj;refine Ahu AO9 rfl (Zk 0 _ rfl) (AOr ?_);obtain ⟨Zl,Zm⟩:=ifN Zg;refine Avu rfl rfl Zl (Aho<|AO1<|AOx<|Ame<|AOr<|AOr<|Aou rfl rfl (AOr ?_));obtain ⟨Zn,Zo⟩:=ifN Zm;refine Aj6 rfl rfl Zn (AOr<|AOr<|Aou rfl rfl (AOr ?_));obtain ⟨Zp,Zq⟩:=ifN Zo;refine Aj6 rfl rfl Zp (Amr rfl rfl (AOr ?_));obtain ⟨AU5,Zr,Zs⟩:=AOw Zq;refine Aqs rfl (Aik Zr) λAU6 AU7 G3 Zt=>?_;subst Zt;refine AOr<|Aou rfl rfl (AOr ?_);have AU8:=G3.1;obtain ⟨Zu,Zv⟩:=ifN Zs;refine Aj6 rfl rfl Zu (AO1<|AOx<|Ame<|AOr<|AOr<|Aou rfl rfl (AOr ?_));obtain ⟨Zw,Zx⟩:=ifN Zv;refine Aj6 rfl rfl Zw (AOr<|AOr<|Aou rfl rfl (AOr ?_));obtain ⟨Zy,Zz⟩:=ifN Zx;refine Aj6 rfl rfl Zy (Amr rfl rfl (AOr ?_));obtain ⟨AU9,Z1,Z4⟩:=AOw Zz;refine Aqs rfl (Aik Z1) λAVa C2 G4 AAa=>?_;subst AAa;refine AOr<|Aou rfl rfl (AOr ?_);have AVb:=G4.1;have Co:=(A8.e G3).e G4;obtain ⟨AAb,AAc⟩:=ifN Z4;refine Aj6 rfl rfl AAb (Ah7<|AOr<|AOr<|A36 rfl (AOr<|AOr ?_));obtain ⟨AAd,AAe,AAf⟩:=AOw AAc;have AAg:UpT (Ad ++ (Aa ++ [])) C2 C2:=UpT.start<|Aiv (Co.o2 p4).notD<|Aiv (Co.o2 p3).notD all_nil;refine Ahq (K':=(λxr h'=> ∃ x:(LiI) × (LiI),(x.1,x.2)=AAd/\xr= .tuple #[]/\Kst h h' ((Co.L.set 4<|aO2 (cI .i64) 61 2 Ad Ce Cf Ab x.1).set 3 (aO2 (cI .i64) 61 2 Aa Ae Af Ac x.2))/\UpT (Ad ++ (Aa ++ [])) C2 h')) trivial rfl ?_ λAVc C3 AAh=>?_
        ·refine cwf (l:=[_,_,_,_]) Tryz.func39 rfl rfl (AOx<|AOv<|AOr<|Ah3 rfl (Ah2 Ah9 rfl (Ahu Aia rfl ((Co.b p5).cell (i:=3) rfl) (Ahx APa rfl (Co.o2 p4).rd (AOr<|AOz<|AO0 ?_)))));obtain ⟨Mr,AAi,AAj⟩:=AOw AAe;obtain ⟨AAk,AAl,AAm⟩:=Aul AAi;refine Aj7 4611686018427322624 (λx:(Int) × (LiI)=>[(16,(.int .i64 x.1))]) (λk x h'=>iter AAk k (x.1,x.2)=some Mr/\Kst h h' (Co.L.set 4<|aO2 (cI .i64) 61 2 Ad Ce Cf Ab x.2)/\UpT (Ad ++ (Aa ++ [])) C2 h') AO4 fuel ((0,Ml):(Int) × (LiI)) ?_ ⟨rfl,trivial⟩ ?_
         ·exact ⟨AAm,Co,AAg⟩
         rintro AVd ⟨C4,Ms⟩ AVe G5 ⟨AAn,Am,G6⟩;have AVf:=G6.size;obtain ⟨AAo,AVg,rfl,Du,G7⟩:=Aq9 AAn;rw [AAl] at Du;dsimp only at Du;unfold Akp at Du;refine AOv<|Ahn rfl rfl (AOz<|AOx<|⟨_,rfl,λG8=>?_,λG8=>?_⟩)
         ·refine AO5<|q_t<|AOx<|AO0<|AOv<|AOr<|AO1<|Ai1 (λh'=>UpT [] G5 h') AO4 ?_;have Bb:UpT [] G5 G5:=UpT.start all_nil;refine AOr<|Ah3 rfl (Ah2 Ah9 rfl (Ahm Aia rfl Bb (λh' hb=>((Am.b p5).ext hb.ext).cell (i:=3) rfl) (AOr ?_)));obtain ⟨AAp,Bz,AAq⟩:=AOw<|Ahy Du G8;refine Aij APa rfl (Am.o2 p4) rfl Bz λAVh AVi AVj AAr AAs=>Ahm Aha rfl Bb (λh' hb=>AO8 AAs hb.ext) (AOr<|AOr<|Ah3 rfl (Ah2 Ah9 rfl (Ahm Aia rfl Bb (λh' hb=>((Am.b p5).ext hb.ext).cell (i:=3) rfl) (AOr<|Aij APa rfl (Am.o2 p4) rfl Bz λAVk AVl AVm AAt AAu=>Ahm Aha rfl Bb (λh' hb=>AO8 AAu hb.ext) (AOr ?_)))));obtain ⟨AVn,Ef,AAv⟩:=AOw AAq;refine Air (m:=C4) APe rfl (Am.o2 p4) AAt Bz rfl Ef λAVo AAw=>?_;obtain ⟨AVp,AAx,AAy⟩:=(Am.o2 p4).cells AAw Bz Ef;obtain rfl:=AAx;refine Ahm AO9 rfl Bb (λh' hb=>AO8 (AAy 0 _ rfl) hb.ext) (AOr<|AOr<|Ah3 rfl (Ah2 Ah9 rfl (Ahm Aia rfl Bb (λh' hb=>((Am.b p5).ext hb.ext).cell (i:=3) rfl) (AOr<|Aij APa rfl (Am.o2 p4) rfl Bz λAVq AVr AVs AAz AA0=>Ahm Aha rfl Bb (λh' hb=>AO8 AA0 hb.ext) (AOr ?_)))));obtain ⟨AVt,Mt,AA1⟩:=AOw AAv;refine Air (m:=C4) APe rfl (Am.o2 p4) AAz Bz rfl Mt λAVu AA2=>?_;obtain ⟨AVv,AA3,AA4⟩:=(Am.o2 p4).cells AA2 Bz Mt;obtain rfl:=AA3;refine Ahm AO9 rfl Bb (λh' hb=>AO8 (AA4 0 _ rfl) hb.ext) (Aou rfl rfl (AOr<|Ah3 rfl (Ah2 Al8 rfl (Ahm AO9 rfl Bb (λh' hb=>((Am.b p5).ext hb.ext).cell (i:=1) rfl) ?_))));obtain ⟨AA5,AA6⟩:=ifN AA1;refine Aj6 rfl rfl AA5 (Ahk rfl rfl (AOr<|Ah3 rfl (Ah2 Al8 rfl (Ahm AO9 rfl Bb (λh' hb=>((Am.b p5).ext hb.ext).cell (i:=1) rfl) ?_))));obtain ⟨Mu,AA7,AA8⟩:=AOw AA6;refine Aj3 Bb (λ_ E=>Bb.thenE E) rfl (Aik AA7) λAVw AVx G9 AA9=>?_;subst AA9;refine Air (m:=C4) APe rfl (Am.o2 p4) AAr Bz rfl Ef λAVy ABa=>?_;have AVz:=G9.1;have Mv:=Am.e G9;refine Aol (m:=C4) (Amg AO9 rfl rfl rfl) (Mv.o2 p4) ABa Bz Ef (show ((cI .i64)).rep _ Mu _ from rfl) λAV0 ABb Hb=>Ahh<|q_b<|q_t<|Ag6<|Ahk rfl rfl (AOr<|AOz ?_);have AV1:=Hb.size;obtain rfl:=AOu AA8;exact ⟨AAo,(((w64<|C4 + 1),(sI Ms C4<|sI AAp Ba Mu)):(Int) × (LiI)),Nat.lt_succ_self _,⟨G7,(Mv.uO2 p4 Hb ABb),((G6.thenE G9).then Hb<|Am3 rfl)⟩,rfl,trivial⟩
         ·obtain rfl:=AOu<|Ahz Du G8;change _=Mr at G7;subst G7;refine Ahf<|Ahg<|Ahg<|Aio<|q_t<|AOx<|AOv<|AOr<|Ah3 rfl (Ah2 Ah9 rfl (Ahu Aia rfl ((Am.b p5).cell (i:=3) rfl) (Ahx APa rfl (Am.o2 p4).rd (AOr<|AOz<|AO0 ?_))));obtain ⟨Mw,ABc,ABd⟩:=AOw AAj;obtain ⟨ABe,ABf,ABg⟩:=Aul ABc;refine Aj7 10384593717069507683108402982027776 (λx:(Int) × (LiI)=>[(67,(.int .i64 x.1))]) (λk x h'=>iter ABe k (x.1,x.2)=some Mw/\Kst h h' (Am.L.set 4<|aO2 (cI .i64) 61 2 Ad Ce Cf Ab x.2)/\UpT (Ad ++ (Aa ++ [])) C2 h') AO4 fuel ((0,Ms):(Int) × (LiI)) ?_ ⟨rfl,trivial⟩ ?_
          ·exact ⟨ABg,Am,G6⟩
          rintro AV2 ⟨Mx,My⟩ AV3 Hc ⟨ABh,Ao,Hd⟩;have AV4:=Hd.size;obtain ⟨ABi,AV5,rfl,Dv,He⟩:=Aq9 ABh;rw [ABf] at Dv;dsimp only at Dv;unfold Ako at Dv;refine AOv<|Ahn rfl rfl (AOz<|AOx<|⟨_,rfl,λHf=>?_,λHf=>?_⟩)
          ·refine AO5<|q_t<|AOx<|AO0<|AOv<|AOr<|AO1<|Ai1 (λh'=>UpT [] Hc h') AO4 ?_;have Bc:UpT [] Hc Hc:=UpT.start all_nil;refine AOr<|Ah3 rfl (Ah2 Ah9 rfl (Ahm Aia rfl Bc (λh' hb=>((Ao.b p5).ext hb.ext).cell (i:=3) rfl) (AOr ?_)));obtain ⟨ABj,C5,ABk⟩:=AOw<|Ahy Dv Hf;refine Aij APa rfl (Ao.o2 p4) rfl C5 λAV6 AV7 AV8 ABl ABm=>Ahm Aha rfl Bc (λh' hb=>AO8 ABm hb.ext) (AOr<|AOr<|Ah3 rfl (Ah2 Ah9 rfl (Ahm Aia rfl Bc (λh' hb=>((Ao.b p5).ext hb.ext).cell (i:=3) rfl) (AOr<|Aij APa rfl (Ao.o2 p4) rfl C5 λAV9 AWa AWb ABn ABo=>Ahm Aha rfl Bc (λh' hb=>AO8 ABo hb.ext) (AOr ?_)))));obtain ⟨AWc,Eg,ABp⟩:=AOw ABk;refine Air (m:=Ba) APe rfl (Ao.o2 p4) ABn C5 rfl Eg λAWd ABq=>?_;obtain ⟨AWe,ABr,ABs⟩:=(Ao.o2 p4).cells ABq C5 Eg;obtain rfl:=ABr;refine Ahm AO9 rfl Bc (λh' hb=>AO8 (ABs 0 _ rfl) hb.ext) (AOr<|AOr<|Ah3 rfl (Ah2 Ah9 rfl (Ahm Aia rfl Bc (λh' hb=>((Ao.b p5).ext hb.ext).cell (i:=3) rfl) (AOr ?_))));obtain ⟨AWf,Hg,ABt⟩:=AOw ABp;refine Aij APa rfl (Ao.o2 p4) rfl Hg λAWg AWh AWi ABu ABv=>Ahm Aha rfl Bc (λh' hb=>AO8 ABv hb.ext) (AOr ?_);obtain ⟨AWj,Mz,ABw⟩:=AOw ABt;refine Air (m:=A9) APe rfl (Ao.o2 p4) ABu Hg rfl Mz λAWk ABx=>?_;obtain ⟨AWl,ABy,ABz⟩:=(Ao.o2 p4).cells ABx Hg Mz;obtain rfl:=ABy;refine Ahm AO9 rfl Bc (λh' hb=>AO8 (ABz 0 _ rfl) hb.ext) (Aou rfl rfl (AOr<|Ah3 rfl (Ah2 Al8 rfl (Ahm AO9 rfl Bc (λh' hb=>((Ao.b p5).ext hb.ext).cell (i:=1) rfl) ?_))));obtain ⟨AB0,AB1⟩:=ifN ABw;refine Aj6 rfl rfl AB0 (Ahk rfl rfl (AOr<|Ah3 rfl (Ah2 Al8 rfl (Ahm AO9 rfl Bc (λh' hb=>((Ao.b p5).ext hb.ext).cell (i:=1) rfl) ?_))));obtain ⟨M0,AB2,AB3⟩:=AOw AB1;refine Aj3 Bc (λ_ E=>Bc.thenE E) rfl (Aik AB2) λAWm AWn Hh AB4=>?_;subst AB4;refine Air (m:=Ba) APe rfl (Ao.o2 p4) ABl C5 rfl Eg λAWo AB5=>?_;have AWp:=Hh.1;have M1:=Ao.e Hh;refine Aol (m:=Ba) (Amg AO9 rfl rfl rfl) (M1.o2 p4) AB5 C5 Eg (show ((cI .i64)).rep _ M0 _ from rfl) λAWq AB6 Hj=>Ahh<|q_b<|q_t<|Ag6<|Ahk rfl rfl (AOr<|AOz ?_);have AWr:=Hj.size;obtain rfl:=AOu AB3;exact ⟨ABi,(((w64<|Mx + 1),(sI My Ba<|sI ABj Mx M0)):(Int) × (LiI)),Nat.lt_succ_self _,⟨He,(M1.uO2 p4 Hj AB6),((Hd.thenE Hh).then Hj<|Am3 rfl)⟩,rfl,trivial⟩
          ·obtain rfl:=AOu<|Ahz Dv Hf;change _=Mw at He;subst He;refine Ahf<|Ahg<|Ahg<|Aio<|q_t<|AOv<|AOr<|Ah3 rfl (Ah2 Ald rfl (Ahu Aia rfl ((Ao.b p5).cell (i:=4) rfl) (Ahx APa rfl (Ao.o2 p3).rd (AOr<|AOz<|AO0 ?_))));obtain ⟨M2,AB7,AB8⟩:=AOw ABd;obtain ⟨AB9,ACa,ACb⟩:=Aul AB7;refine Aj7 23384026197294114384260011094492302362729850602496 (λx:(Int) × (LiI)=>[(118,(.int .i64 x.1))]) (λk x h'=>iter AB9 k (x.1,x.2)=some M2/\Kst h h' (Ao.L.set 3<|aO2 (cI .i64) 61 2 Aa Ae Af Ac x.2)/\UpT (Ad ++ (Aa ++ [])) C2 h') AO4 fuel ((0,Mm):(Int) × (LiI)) ?_ ⟨rfl,trivial⟩ ?_
           ·exact ⟨ACb,Ao,Hd⟩
           rintro AWs ⟨C6,M3⟩ AWt Hk ⟨ACc,Az,Hl⟩;have AWu:=Hl.size;obtain ⟨ACd,AWv,rfl,Dw,Hm⟩:=Aq9 ACc;rw [ACa] at Dw;dsimp only at Dw;unfold Akn at Dw;refine AOv<|Ahn rfl rfl (AOz<|AOx<|⟨_,rfl,λHn=>?_,λHn=>?_⟩)
           ·refine AO5<|q_t<|AOx<|AO0<|AOv<|AOr<|AO1<|Ai1 (λh'=>UpT [] Hk h') AO4 ?_;have Be:UpT [] Hk Hk:=UpT.start all_nil;refine AOr<|Ah3 rfl (Ah2 Ald rfl (Ahm Aia rfl Be (λh' hb=>((Az.b p5).ext hb.ext).cell (i:=4) rfl) (AOr ?_)));obtain ⟨ACe,B1,ACf⟩:=AOw<|Ahy Dw Hn;refine Aij APa rfl (Az.o2 p3) rfl B1 λAWw AWx AWy ACg ACh=>Ahm Aha rfl Be (λh' hb=>AO8 ACh hb.ext) (AOr<|AOr<|Ah3 rfl (Ah2 Ald rfl (Ahm Aia rfl Be (λh' hb=>((Az.b p5).ext hb.ext).cell (i:=4) rfl) (AOr<|Aij APa rfl (Az.o2 p3) rfl B1 λAWz AW0 AW1 ACi ACj=>Ahm Aha rfl Be (λh' hb=>AO8 ACj hb.ext) (AOr ?_)))));obtain ⟨AW2,Eh,ACk⟩:=AOw ACf;refine Air (m:=C6) APe rfl (Az.o2 p3) ACi B1 rfl Eh λAW3 ACl=>?_;obtain ⟨AW4,ACm,ACn⟩:=(Az.o2 p3).cells ACl B1 Eh;obtain rfl:=ACm;refine Ahm AO9 rfl Be (λh' hb=>AO8 (ACn 0 _ rfl) hb.ext) (AOr<|AOr<|Ah3 rfl (Ah2 Ald rfl (Ahm Aia rfl Be (λh' hb=>((Az.b p5).ext hb.ext).cell (i:=4) rfl) (AOr<|Aij APa rfl (Az.o2 p3) rfl B1 λAW5 AW6 AW7 ACo ACp=>Ahm Aha rfl Be (λh' hb=>AO8 ACp hb.ext) (AOr ?_)))));obtain ⟨AW8,M4,ACq⟩:=AOw ACk;refine Air (m:=C6) APe rfl (Az.o2 p3) ACo B1 rfl M4 λAW9 ACr=>?_;obtain ⟨AXa,ACs,ACt⟩:=(Az.o2 p3).cells ACr B1 M4;obtain rfl:=ACs;refine Ahm AO9 rfl Be (λh' hb=>AO8 (ACt 0 _ rfl) hb.ext) (Aou rfl rfl (AOr<|Ah3 rfl (Ah2 Al8 rfl (Ahm AO9 rfl Be (λh' hb=>((Az.b p5).ext hb.ext).cell (i:=1) rfl) ?_))));obtain ⟨ACu,ACv⟩:=ifN ACq;refine Aj6 rfl rfl ACu (Ahk rfl rfl (AOr<|Ah3 rfl (Ah2 Al8 rfl (Ahm AO9 rfl Be (λh' hb=>((Az.b p5).ext hb.ext).cell (i:=1) rfl) ?_))));obtain ⟨M5,ACw,ACx⟩:=AOw ACv;refine Aj3 Be (λ_ E=>Be.thenE E) rfl (Aik ACw) λAXb AXc Ho ACy=>?_;subst ACy;refine Air (m:=C6) APe rfl (Az.o2 p3) ACg B1 rfl Eh λAXd ACz=>?_;have AXe:=Ho.1;have M6:=Az.e Ho;refine Aol (m:=C6) (Amg AO9 rfl rfl rfl) (M6.o2 p3) ACz B1 Eh (show ((cI .i64)).rep _ M5 _ from rfl) λAXf AC0 Hq=>Ahh<|q_b<|q_t<|Ag6<|Ahk rfl rfl (AOr<|AOz ?_);have AXg:=Hq.size;obtain rfl:=AOu ACx;exact ⟨ACd,(((w64<|C6 + 1),(sI M3 C6<|sI ACe Ba M5)):(Int) × (LiI)),Nat.lt_succ_self _,⟨Hm,(M6.uO2 p3 Hq AC0),((Hl.thenE Ho).then Hq<|A1j<|Am3 rfl)⟩,rfl,trivial⟩
           ·obtain rfl:=AOu<|Ahz Dw Hn;change _=M2 at Hm;subst Hm;refine Ahf<|Ahg<|Ahg<|Aio<|⟨_,Auv,((My,M3):(LiI) × (LiI)),?_,rfl,?_,?_⟩
            ·exact AOu AB8
            ·exact Az
            ·exact Hl
        obtain ⟨⟨AC1,AC2⟩,AC3,rfl,Cp,M7⟩:=AAh;have AXh:=M7.size;refine ⟨trivial,?_⟩;subst AC3;refine AOz<|Ag6<|AOr<|AOr<|A36 rfl (AOr<|Ahk rfl rfl (AOr ?_));obtain ⟨AC4,AC5,AC6⟩:=AOw AAf;have AC7:UpT (Ad ++ (Aa ++ [])) C3 C3:=UpT.start<|Aiv (Cp.o2 p4).notD<|Aiv (Cp.o2 p3).notD all_nil;refine Ahq (K':=(λxr h'=> ∃ x:(LiI) × (LiI),(x.1,x.2)=AC4/\xr= .tuple #[]/\Kst h h' ((Cp.L.set 4<|aO2 (cI .i64) 61 2 Ad Ce Cf Ab x.1).set 3 (aO2 (cI .i64) 61 2 Aa Ae Af Ac x.2))/\UpT (Ad ++ (Aa ++ [])) C3 h')) trivial rfl ?_ λAXi AXj AC8=>?_
        ·refine cwf (l:=[_,_,_,_]) Tryz.func39 rfl rfl (AOx<|AOv<|AOr<|Ah3 rfl (Ah2 Ah9 rfl (Ahu Aia rfl ((Cp.b p5).cell (i:=3) rfl) (Ahx APa rfl (Cp.o2 p4).rd (AOr<|AOz<|AO0 ?_)))));obtain ⟨M8,AC9,ADa⟩:=AOw AC5;obtain ⟨ADb,ADc,ADd⟩:=Aul AC9;refine Aj7 4611686018427322624 (λx:(Int) × (LiI)=>[(16,(.int .i64 x.1))]) (λk x h'=>iter ADb k (x.1,x.2)=some M8/\Kst h h' (Cp.L.set 4<|aO2 (cI .i64) 61 2 Ad Ce Cf Ab x.2)/\UpT (Ad ++ (Aa ++ [])) C3 h') AO4 fuel ((0,AC1):(Int) × (LiI)) ?_ ⟨rfl,trivial⟩ ?_
         ·exact ⟨ADd,Cp,AC7⟩
         rintro AXk ⟨C7,M9⟩ AXl Hr ⟨ADe,Ap,Hs⟩;have AXm:=Hs.size;obtain ⟨ADf,AXn,rfl,Dx,Ht⟩:=Aq9 ADe;rw [ADc] at Dx;dsimp only at Dx;unfold Aks at Dx;refine AOv<|Ahn rfl rfl (AOz<|AOx<|⟨_,rfl,λHu=>?_,λHu=>?_⟩)
         ·refine AO5<|q_t<|AOx<|AO0<|AOv<|AOr<|AO1<|Ai1 (λh'=>UpT [] Hr h') AO4 ?_;have Bf:UpT [] Hr Hr:=UpT.start all_nil;refine AOr<|Ah3 rfl (Ah2 Ah9 rfl (Ahm Aia rfl Bf (λh' hb=>((Ap.b p5).ext hb.ext).cell (i:=3) rfl) (AOr ?_)));obtain ⟨ADg,B3,ADh⟩:=AOw<|Ahy Dx Hu;refine Aij APa rfl (Ap.o2 p4) rfl B3 λAXo AXp AXq ADi ADj=>Ahm Aha rfl Bf (λh' hb=>AO8 ADj hb.ext) (AOr<|AOr<|Ah3 rfl (Ah2 Ah9 rfl (Ahm Aia rfl Bf (λh' hb=>((Ap.b p5).ext hb.ext).cell (i:=3) rfl) (AOr<|Aij APa rfl (Ap.o2 p4) rfl B3 λAXr AXs AXt ADk ADl=>Ahm Aha rfl Bf (λh' hb=>AO8 ADl hb.ext) (AOr ?_)))));obtain ⟨AXu,Ei,ADm⟩:=AOw ADh;refine Air (m:=C7) APe rfl (Ap.o2 p4) ADk B3 rfl Ei λAXv ADn=>?_;obtain ⟨AXw,ADo,ADp⟩:=(Ap.o2 p4).cells ADn B3 Ei;obtain rfl:=ADo;refine Ahm AO9 rfl Bf (λh' hb=>AO8 (ADp 0 _ rfl) hb.ext) (AOr<|AOr<|Ah3 rfl (Ah2 Ah9 rfl (Ahm Aia rfl Bf (λh' hb=>((Ap.b p5).ext hb.ext).cell (i:=3) rfl) (AOr<|Aij APa rfl (Ap.o2 p4) rfl B3 λAXx AXy AXz ADq ADr=>Ahm Aha rfl Bf (λh' hb=>AO8 ADr hb.ext) (AOr ?_)))));obtain ⟨AX0,Na,ADs⟩:=AOw ADm;refine Air (m:=C7) APe rfl (Ap.o2 p4) ADq B3 rfl Na λAX1 ADt=>?_;obtain ⟨AX2,ADu,ADv⟩:=(Ap.o2 p4).cells ADt B3 Na;obtain rfl:=ADu;refine Ahm AO9 rfl Bf (λh' hb=>AO8 (ADv 0 _ rfl) hb.ext) (Aou rfl rfl (AOr<|Ah3 rfl (Ah2 Al8 rfl (Ahm AO9 rfl Bf (λh' hb=>((Ap.b p5).ext hb.ext).cell (i:=1) rfl) ?_))));obtain ⟨ADw,ADx⟩:=ifN ADs;refine Aj6 rfl rfl ADw (Ahk rfl rfl (AOr<|Ah3 rfl (Ah2 Al8 rfl (Ahm AO9 rfl Bf (λh' hb=>((Ap.b p5).ext hb.ext).cell (i:=1) rfl) ?_))));obtain ⟨Nb,ADy,ADz⟩:=AOw ADx;refine Aj3 Bf (λ_ E=>Bf.thenE E) rfl (Aik ADy) λAX3 AX4 Hv AD0=>?_;subst AD0;refine Air (m:=C7) APe rfl (Ap.o2 p4) ADi B3 rfl Ei λAX5 AD1=>?_;have AX6:=Hv.1;have Nc:=Ap.e Hv;refine Aol (m:=C7) (Amg AO9 rfl rfl rfl) (Nc.o2 p4) AD1 B3 Ei (show ((cI .i64)).rep _ Nb _ from rfl) λAX7 AD2 Hw=>Ahh<|q_b<|q_t<|Ag6<|Ahk rfl rfl (AOr<|AOz ?_);have AX8:=Hw.size;obtain rfl:=AOu ADz;exact ⟨ADf,(((w64<|C7 + 1),(sI M9 C7<|sI ADg Ba Nb)):(Int) × (LiI)),Nat.lt_succ_self _,⟨Ht,(Nc.uO2 p4 Hw AD2),((Hs.thenE Hv).then Hw<|Am3 rfl)⟩,rfl,trivial⟩
         ·obtain rfl:=AOu<|Ahz Dx Hu;change _=M8 at Ht;subst Ht;refine Ahf<|Ahg<|Ahg<|Aio<|q_t<|AOx<|AOv<|AOr<|Ah3 rfl (Ah2 Ah9 rfl (Ahu Aia rfl ((Ap.b p5).cell (i:=3) rfl) (Ahx APa rfl (Ap.o2 p4).rd (AOr<|AOz<|AO0 ?_))));obtain ⟨Nd,AD3,AD4⟩:=AOw ADa;obtain ⟨AD5,AD6,AD7⟩:=Aul AD3;refine Aj7 10384593717069507683108402982027776 (λx:(Int) × (LiI)=>[(67,(.int .i64 x.1))]) (λk x h'=>iter AD5 k (x.1,x.2)=some Nd/\Kst h h' (Ap.L.set 4<|aO2 (cI .i64) 61 2 Ad Ce Cf Ab x.2)/\UpT (Ad ++ (Aa ++ [])) C3 h') AO4 fuel ((0,M9):(Int) × (LiI)) ?_ ⟨rfl,trivial⟩ ?_
          ·exact ⟨AD7,Ap,Hs⟩
          rintro AX9 ⟨Nf,Ng⟩ AYa Hx ⟨AD8,Aq,Hy⟩;have AYb:=Hy.size;obtain ⟨AD9,AYc,rfl,Dy,Hz⟩:=Aq9 AD8;rw [AD6] at Dy;dsimp only at Dy;unfold Akr at Dy;refine AOv<|Ahn rfl rfl (AOz<|AOx<|⟨_,rfl,λH5=>?_,λH5=>?_⟩)
          ·refine AO5<|q_t<|AOx<|AO0<|AOv<|AOr<|AO1<|Ai1 (λh'=>UpT [] Hx h') AO4 ?_;have Bg:UpT [] Hx Hx:=UpT.start all_nil;refine AOr<|Ah3 rfl (Ah2 Ah9 rfl (Ahm Aia rfl Bg (λh' hb=>((Aq.b p5).ext hb.ext).cell (i:=3) rfl) (AOr ?_)));obtain ⟨AEa,C8,AEb⟩:=AOw<|Ahy Dy H5;refine Aij APa rfl (Aq.o2 p4) rfl C8 λAYd AYe AYf AEc AEd=>Ahm Aha rfl Bg (λh' hb=>AO8 AEd hb.ext) (AOr<|AOr<|Ah3 rfl (Ah2 Ah9 rfl (Ahm Aia rfl Bg (λh' hb=>((Aq.b p5).ext hb.ext).cell (i:=3) rfl) (AOr<|Aij APa rfl (Aq.o2 p4) rfl C8 λAYg AYh AYi AEe AEf=>Ahm Aha rfl Bg (λh' hb=>AO8 AEf hb.ext) (AOr ?_)))));obtain ⟨AYj,Ej,AEg⟩:=AOw AEb;refine Air (m:=Ba) APe rfl (Aq.o2 p4) AEe C8 rfl Ej λAYk AEh=>?_;obtain ⟨AYl,AEi,AEj⟩:=(Aq.o2 p4).cells AEh C8 Ej;obtain rfl:=AEi;refine Ahm AO9 rfl Bg (λh' hb=>AO8 (AEj 0 _ rfl) hb.ext) (AOr<|AOr<|Ah3 rfl (Ah2 Ah9 rfl (Ahm Aia rfl Bg (λh' hb=>((Aq.b p5).ext hb.ext).cell (i:=3) rfl) (AOr ?_))));obtain ⟨AYm,Ia,AEk⟩:=AOw AEg;refine Aij APa rfl (Aq.o2 p4) rfl Ia λAYn AYo AYp AEl AEm=>Ahm Aha rfl Bg (λh' hb=>AO8 AEm hb.ext) (AOr ?_);obtain ⟨AYq,Nh,AEn⟩:=AOw AEk;refine Air (m:=(w64<|A9 + 1)) APe rfl (Aq.o2 p4) AEl Ia rfl Nh λAYr AEo=>?_;obtain ⟨AYs,AEp,AEq⟩:=(Aq.o2 p4).cells AEo Ia Nh;obtain rfl:=AEp;refine Ahm AO9 rfl Bg (λh' hb=>AO8 (AEq 0 _ rfl) hb.ext) (Aou rfl rfl (AOr<|Ah3 rfl (Ah2 Al8 rfl (Ahm AO9 rfl Bg (λh' hb=>((Aq.b p5).ext hb.ext).cell (i:=1) rfl) ?_))));obtain ⟨AEr,AEs⟩:=ifN AEn;refine Aj6 rfl rfl AEr (Ahk rfl rfl (AOr<|Ah3 rfl (Ah2 Al8 rfl (Ahm AO9 rfl Bg (λh' hb=>((Aq.b p5).ext hb.ext).cell (i:=1) rfl) ?_))));obtain ⟨Ni,AEt,AEu⟩:=AOw AEs;refine Aj3 Bg (λ_ E=>Bg.thenE E) rfl (Aik AEt) λAYt AYu Ib AEv=>?_;subst AEv;refine Air (m:=Ba) APe rfl (Aq.o2 p4) AEc C8 rfl Ej λAYv AEw=>?_;have AYw:=Ib.1;have Nj:=Aq.e Ib;refine Aol (m:=Ba) (Amg AO9 rfl rfl rfl) (Nj.o2 p4) AEw C8 Ej (show ((cI .i64)).rep _ Ni _ from rfl) λAYx AEx Ic=>Ahh<|q_b<|q_t<|Ag6<|Ahk rfl rfl (AOr<|AOz ?_);have AYy:=Ic.size;obtain rfl:=AOu AEu;exact ⟨AD9,(((w64<|Nf + 1),(sI Ng Ba<|sI AEa Nf Ni)):(Int) × (LiI)),Nat.lt_succ_self _,⟨Hz,(Nj.uO2 p4 Ic AEx),((Hy.thenE Ib).then Ic<|Am3 rfl)⟩,rfl,trivial⟩
          ·obtain rfl:=AOu<|Ahz Dy H5;change _=Nd at Hz;subst Hz;refine Ahf<|Ahg<|Ahg<|Aio<|q_t<|AOv<|AOr<|Ah3 rfl (Ah2 Ald rfl (Ahu Aia rfl ((Aq.b p5).cell (i:=4) rfl) (Ahx APa rfl (Aq.o2 p3).rd (AOr<|AOz<|AO0 ?_))));obtain ⟨Nk,AEy,AEz⟩:=AOw AD4;obtain ⟨AE0,AE1,AE2⟩:=Aul AEy;refine Aj7 23384026197294114384260011094492302362729850602496 (λx:(Int) × (LiI)=>[(118,(.int .i64 x.1))]) (λk x h'=>iter AE0 k (x.1,x.2)=some Nk/\Kst h h' (Aq.L.set 3<|aO2 (cI .i64) 61 2 Aa Ae Af Ac x.2)/\UpT (Ad ++ (Aa ++ [])) C3 h') AO4 fuel ((0,AC2):(Int) × (LiI)) ?_ ⟨rfl,trivial⟩ ?_
           ·exact ⟨AE2,Aq,Hy⟩
           rintro AYz ⟨C9,Nl⟩ AY0 Id ⟨AE3,A3,Ie⟩;have AY1:=Ie.size;obtain ⟨AE4,AY2,rfl,Dz,If⟩:=Aq9 AE3;rw [AE1] at Dz;dsimp only at Dz;unfold Akq at Dz;refine AOv<|Ahn rfl rfl (AOz<|AOx<|⟨_,rfl,λIh=>?_,λIh=>?_⟩)
           ·refine AO5<|q_t<|AOx<|AO0<|AOv<|AOr<|AO1<|Ai1 (λh'=>UpT [] Id h') AO4 ?_;have Bh:UpT [] Id Id:=UpT.start all_nil;refine AOr<|Ah3 rfl (Ah2 Ald rfl (Ahm Aia rfl Bh (λh' hb=>((A3.b p5).ext hb.ext).cell (i:=4) rfl) (AOr ?_)));obtain ⟨AE5,B4,AE6⟩:=AOw<|Ahy Dz Ih;refine Aij APa rfl (A3.o2 p3) rfl B4 λAY3 AY4 AY5 AE7 AE8=>Ahm Aha rfl Bh (λh' hb=>AO8 AE8 hb.ext) (AOr<|AOr<|Ah3 rfl (Ah2 Ald rfl (Ahm Aia rfl Bh (λh' hb=>((A3.b p5).ext hb.ext).cell (i:=4) rfl) (AOr<|Aij APa rfl (A3.o2 p3) rfl B4 λAY6 AY7 AY8 AE9 AFa=>Ahm Aha rfl Bh (λh' hb=>AO8 AFa hb.ext) (AOr ?_)))));obtain ⟨AY9,Ek,AFb⟩:=AOw AE6;refine Air (m:=C9) APe rfl (A3.o2 p3) AE9 B4 rfl Ek λAZa AFc=>?_;obtain ⟨AZb,AFd,AFe⟩:=(A3.o2 p3).cells AFc B4 Ek;obtain rfl:=AFd;refine Ahm AO9 rfl Bh (λh' hb=>AO8 (AFe 0 _ rfl) hb.ext) (AOr<|AOr<|Ah3 rfl (Ah2 Ald rfl (Ahm Aia rfl Bh (λh' hb=>((A3.b p5).ext hb.ext).cell (i:=4) rfl) (AOr<|Aij APa rfl (A3.o2 p3) rfl B4 λAZc AZd AZe AFf AFg=>Ahm Aha rfl Bh (λh' hb=>AO8 AFg hb.ext) (AOr ?_)))));obtain ⟨AZf,Nm,AFh⟩:=AOw AFb;refine Air (m:=C9) APe rfl (A3.o2 p3) AFf B4 rfl Nm λAZg AFi=>?_;obtain ⟨AZh,AFj,AFk⟩:=(A3.o2 p3).cells AFi B4 Nm;obtain rfl:=AFj;refine Ahm AO9 rfl Bh (λh' hb=>AO8 (AFk 0 _ rfl) hb.ext) (Aou rfl rfl (AOr<|Ah3 rfl (Ah2 Al8 rfl (Ahm AO9 rfl Bh (λh' hb=>((A3.b p5).ext hb.ext).cell (i:=1) rfl) ?_))));obtain ⟨AFl,AFm⟩:=ifN AFh;refine Aj6 rfl rfl AFl (Ahk rfl rfl (AOr<|Ah3 rfl (Ah2 Al8 rfl (Ahm AO9 rfl Bh (λh' hb=>((A3.b p5).ext hb.ext).cell (i:=1) rfl) ?_))));obtain ⟨Nn,AFn,AFo⟩:=AOw AFm;refine Aj3 Bh (λ_ E=>Bh.thenE E) rfl (Aik AFn) λAZi AZj Ii AFp=>?_;subst AFp;refine Air (m:=C9) APe rfl (A3.o2 p3) AE7 B4 rfl Ek λAZk AFq=>?_;have AZl:=Ii.1;have Np:=A3.e Ii;refine Aol (m:=C9) (Amg AO9 rfl rfl rfl) (Np.o2 p3) AFq B4 Ek (show ((cI .i64)).rep _ Nn _ from rfl) λAZm AFr Ij=>Ahh<|q_b<|q_t<|Ag6<|Ahk rfl rfl (AOr<|AOz ?_);have AZn:=Ij.size;obtain rfl:=AOu AFo;exact ⟨AE4,(((w64<|C9 + 1),(sI Nl C9<|sI AE5 Ba Nn)):(Int) × (LiI)),Nat.lt_succ_self _,⟨If,(Np.uO2 p3 Ij AFr),((Ie.thenE Ii).then Ij<|A1j<|Am3 rfl)⟩,rfl,trivial⟩
           ·obtain rfl:=AOu<|Ahz Dz Ih;change _=Nk at If;subst If;refine Ahf<|Ahg<|Ahg<|Aio<|⟨_,Auv,((Ng,Nl):(LiI) × (LiI)),?_,rfl,?_,?_⟩
            ·exact AOu AEz
            ·exact A3
            ·exact Ie
        obtain ⟨⟨AFs,AFt⟩,AFu,rfl,AFv,Nq⟩:=AC8;have AZo:=Nq.size;refine ⟨trivial,?_⟩;subst AFu;refine Ahh<|q_b<|q_t<|Ag6<|AOr<|Ahk rfl rfl (AO1 ?_);obtain rfl:=AOu AC6;exact ⟨Y1,(((w64<|Ba + 1),AFs,AFt):(Int) × (LiI) × (LiI)),Nat.lt_succ_self _,⟨Gw,AFv,((((Gv.thenE G3).thenE G4).then M7<|Aiv (Am3 rfl)<|Aiv (A1j<|Am3 rfl) all_nil).then Nq<|Aiv (Am3 rfl)<|Aiv (A1j<|Am3 rfl) all_nil)⟩,rfl,trivial⟩
       ·obtain rfl:=AOu<|Ahz Dt Gx;change _=Mk at Gw;subst Gw;refine Ahf<|Ahg<|Ahg<|Aio<|q_t<|AOv<|AOr<|AOr<|AOr<|AOr<|Alh (v:=(.agg #[(.int .i64 Gm),(.int .i64 2),(.int .i64<|w64<|Int.tdiv Gp By),(.int .i64<|w64<|Int.tdiv Gj By),(.int .i64<|w64<|Int.tdiv Gr By)])) (λ_=>by kernel_rfl)<|Ai5 [(.int .i64 Gm),(.int .i64 2),(.int .i64<|w64<|Int.tdiv Gp By),(.int .i64<|w64<|Int.tdiv Gj By),(.int .i64<|w64<|Int.tdiv Gr By)] Art rfl rfl rfl rfl (by simp [isOne]) (A8.b p0) λAZp Nr Ik=>AOz<|AO6 ?_;have AZq:=Ik.1;have Ns:=A8.sb p0 Ik Nr rfl;refine ⟨_,Ai3 Art rfl rfl (Ns.b p0),((Gm,2,(w64<|Int.tdiv Gp By),(w64<|Int.tdiv Gj By),(w64<|Int.tdiv Gr By),Ml,Mm):(Int) × (Int) × (Int) × (Int) × (Int) × (LiI) × (LiI)),?_,rfl,?_,?_⟩
        ·exact AOu Yv
        ·exact Ns.sel [1,2,3,4,5,6] AOs
        ·exact (Gv.then (Nr.stA Ik (Ani (A8.b p0) rfl) rfl)<|BC8 W6 AOq)
      obtain ⟨⟨Nt,Nu,Nv,Nw,Ny,AZr,AZs⟩,AFw,rfl,Nz,N0⟩:=W4;have AZt:=N0.size;have Il:=Gg.then N0<|Aiv (A1j<|Am3 rfl)<|Aiv (A1j<|A1j<|Am3 rfl) all_nil;refine ⟨Il,?_⟩;subst AFw;obtain ⟨AFx,AFy⟩:=ifN W1;refine Ar6 Atu Axp rfl rfl Il (λ_ U=>Il.then U<|Am3 rfl) (λ_=>rfl) rfl (show (Arc).rep _ (Nt,Nu,Nv,Nw,Ny) [(.int .i64 Nt),(.int .i64 Nu),(.int .i64 Nv),(.int .i64 Nw),(.int .i64 Ny)] from rfl) (Nz.o p0) AOs AFx λAZu AZv AFz AZw AF0 N3 AF1=>Ah2 Ao4 rfl ?_;have AZx:=N3.size;have Im:=Nz.uo p0 N3 AF0 AF1;refine Awc [(.int .i64 a5),(.slice none 0 0),AFz] Avc rfl rfl (Im.o p0).isOne (Im.b p1) (Nat.le_of_ble_eq_true rfl) rfl λAZy AF2 N4=>Apt<|AOr<|Ahk rfl rfl (AO1 ?_);have AZz:=N4.1;obtain rfl:=AOu AFy;refine Ahf<|Ahg<|Aio<|q_t ?_;exact ⟨(_,_,_,_,_,_,_,_,_),(AOu Lo).symm,(Im.sb p1 N4 AF2 rfl),rfl,trivial⟩
     ·refine AO5<|q_t ?_;exact ⟨((A9,Kk,Fc,Fd,Fe,Kl,Km,Dk,Ec):(Int) × (LiI) × LnA × LnN × LvA × (LiI) × ((List Ak8)) × (Value) × LnA),⟨AOu<|Ahz Lq Gb,Ca⟩,rfl,trivial⟩
    ·rw [decide_eq_false Ed];refine Aqc 69 false<|APd rfl (AOz<|Aht rfl (AO5<|q_t ?_));exact ⟨((A9,Kk,Fc,Fd,Fe,Kl,Km,Dk,Ec):(Int) × (LiI) × LnA × LnN × LvA × (LiI) × ((List Ak8)) × (Value) × LnA),⟨AOu<|ifF Lm Ed,Ca⟩,rfl,trivial⟩
   rintro ⟨Cq,AF3,D0,D1,D2,AF4,AZ0,AZ1,N5⟩ AZ2 AZ3 ⟨AF5,Cr⟩;subst AF5;obtain ⟨AF6,N6,AF7⟩:=AOw Lo;refine Arb 628873539956973179648755105792 (λx:(LiI) × (LiI)=>[]) (λx h'=>( (x.1,x.2))=AF6/\Kst h h' ((Cr.L.set 3<|aO2 (cI .i64) 61 2 D0 D1 D2 Ab x.1).set 2 (aO2 (cI .i64) 61 2 Aa Ae Af Ac x.2))) ?_ ?_
   ·refine AOv<|AOr<|AOr<|Ajs rfl rfl (AOz<|⟨_,rfl,λIo=>?_,λIo=>?_⟩)
    ·refine Ag6<|AOr<|AOr<|AOr ?_;obtain ⟨AF8,AF9,AGa⟩:=AOw<|Ahy N6 Io;refine Ahq (K':=(λxr h'=> ∃ x:(LiI) × (LiI),(x.1,x.2)=AF8/\xr= .tuple #[]/\Kst h h' ((Cr.L.set 3<|aO2 (cI .i64) 61 2 D0 D1 D2 Ab x.1).set 2 (aO2 (cI .i64) 61 2 Aa Ae Af Ac x.2)))) trivial rfl ?_ λAZ4 AZ5 AGb=>?_
     ·refine cwf (l:=[_,_,_,_]) Tryz.func39 rfl rfl (AOx<|AOv<|AOr<|Ah3 rfl (Ai6 Ah9 Aia (Cr.b p4) 3 rfl (Ahx APa rfl (Cr.o2 p3).rd (AOr<|AOz<|AO0<|Arf 4611686018427322624 AF9 (λx=>[(16,(.int .i64 x.1))]) (λx=>Cr.L.set 3<|aO2 (cI .i64) 61 2 D0 D1 D2 Ab x.2) Cr ⟨rfl,trivial⟩ ?_))));rintro ⟨El,AZ6⟩ AZ7 Ip AZ8 Ar Iq AGc;unfold Akw at Iq;refine AOv<|Ahn rfl rfl (AOz<|AOx<|⟨_,rfl,λIr=>?_,λIr=>?_⟩)
      ·refine AO5<|q_t<|AOx<|AO0<|AOv<|AOr<|AO1<|Ai1 (λh'=>UpT [] Ip h') AO4 ?_;have Bq:UpT [] Ip Ip:=UpT.start all_nil;refine AOr<|Ah3 rfl (Ah2 Ah9 rfl (Ahm Aia rfl Bq (λh' hb=>((Ar.b p4).ext hb.ext).cell (i:=3) rfl) (AOr ?_)));obtain ⟨AZ9,B5,AGd⟩:=AOw<|Ahy Iq Ir;refine Aij APa rfl (Ar.o2 p3) rfl B5 λAaa Aab Aac AGe AGf=>Ahm Aha rfl Bq (λh' hb=>AO8 AGf hb.ext) (AOr<|AOr<|Ah3 rfl (Ah2 Ah9 rfl (Ahm Aia rfl Bq (λh' hb=>((Ar.b p4).ext hb.ext).cell (i:=3) rfl) (AOr<|Aij APa rfl (Ar.o2 p3) rfl B5 λAad Aae Aaf AGg AGh=>Ahm Aha rfl Bq (λh' hb=>AO8 AGh hb.ext) (AOr ?_)))));obtain ⟨Aag,Em,AGi⟩:=AOw AGd;refine Air (m:=El) APe rfl (Ar.o2 p3) AGg B5 rfl Em λAah AGj=>?_;obtain ⟨Aai,AGk,AGl⟩:=(Ar.o2 p3).cells AGj B5 Em;obtain rfl:=AGk;refine Ahm AO9 rfl Bq (λh' hb=>AO8 (AGl 0 _ rfl) hb.ext) (AOr<|AOr<|Ah3 rfl (Ah2 Ah9 rfl (Ahm Aia rfl Bq (λh' hb=>((Ar.b p4).ext hb.ext).cell (i:=3) rfl) (AOr<|Aij APa rfl (Ar.o2 p3) rfl B5 λAaj Aak Aal AGm AGn=>Ahm Aha rfl Bq (λh' hb=>AO8 AGn hb.ext) (AOr ?_)))));obtain ⟨Aam,N7,AGo⟩:=AOw AGi;refine Air (m:=El) APe rfl (Ar.o2 p3) AGm B5 rfl N7 λAan AGp=>?_;obtain ⟨Aao,AGq,AGr⟩:=(Ar.o2 p3).cells AGp B5 N7;obtain rfl:=AGq;refine Ahm AO9 rfl Bq (λh' hb=>AO8 (AGr 0 _ rfl) hb.ext) (Aou rfl rfl (AOr<|Ah3 rfl (Ah2 Al8 rfl (Ahm AO9 rfl Bq (λh' hb=>((Ar.b p4).ext hb.ext).cell (i:=1) rfl) ?_))));obtain ⟨AGs,AGt⟩:=ifN AGo;refine Aj6 rfl rfl AGs (Ahk rfl rfl (AOr<|Ah3 rfl (Ah2 Al8 rfl (Ahm AO9 rfl Bq (λh' hb=>((Ar.b p4).ext hb.ext).cell (i:=1) rfl) ?_))));obtain ⟨AGu,AGv,AGw⟩:=AOw AGt;refine A5s Ar Bq (Aik AGv) λAap Aaq N8 Aar=>Air (m:=El) APe rfl (Ar.o2 p3) AGe B5 rfl Em λAas AGx=>Aol (m:=El) (Amg AO9 rfl rfl rfl) (N8.o2 p3) AGx B5 Em (show ((cI .i64)).rep _ AGu _ from rfl) λAat AGy N9=>Ahh<|q_b<|q_t<|Ag6<|Ahk rfl rfl (AOr<|AOz ?_);have Aau:=N9.size;exact ⟨_,(AOu AGw).symm,(N8.uO2 p3 N9 AGy),rfl,trivial⟩
      ·refine Ahf<|Ahg<|Ahg<|Aio<|q_t<|AOx<|AOv<|AOr<|Ah3 rfl (Ai6 Ah9 Aia (Ar.b p4) 3 rfl (Ahx APa rfl (Ar.o2 p3).rd (AOr<|AOz<|AO0<|Arf 10384593717069507683108402982027776 (AGc _ (AOu<|Ahz Iq Ir).symm) (λx=>[(67,(.int .i64 x.1))]) (λx=>Ar.L.set 3<|aO2 (cI .i64) 61 2 D0 D1 D2 Ab x.2) Ar ⟨rfl,trivial⟩ ?_)));rintro ⟨Aav,AGz⟩ Aaw Is Aax Au It AG0;unfold Akv at It;refine AOv<|Ahn rfl rfl (AOz<|AOx<|⟨_,rfl,λIu=>?_,λIu=>?_⟩)
       ·refine AO5<|q_t<|AOx<|AO0<|AOv<|AOr<|AO1<|Ai1 (λh'=>UpT [] Is h') AO4 ?_;have Br:UpT [] Is Is:=UpT.start all_nil;refine AOr<|Ah3 rfl (Ah2 Ah9 rfl (Ahm Aia rfl Br (λh' hb=>((Au.b p4).ext hb.ext).cell (i:=3) rfl) (AOr ?_)));obtain ⟨Aay,Da,AG1⟩:=AOw<|Ahy It Iu;refine Aij APa rfl (Au.o2 p3) rfl Da λAaz Aa0 Aa1 AG2 AG3=>Ahm Aha rfl Br (λh' hb=>AO8 AG3 hb.ext) (AOr<|AOr<|Ah3 rfl (Ah2 Ah9 rfl (Ahm Aia rfl Br (λh' hb=>((Au.b p4).ext hb.ext).cell (i:=3) rfl) (AOr<|Aij APa rfl (Au.o2 p3) rfl Da λAa2 Aa3 Aa4 AG4 AG5=>Ahm Aha rfl Br (λh' hb=>AO8 AG5 hb.ext) (AOr ?_)))));obtain ⟨Aa5,En,AG6⟩:=AOw AG1;refine Air (m:=C1) APe rfl (Au.o2 p3) AG4 Da rfl En λAa6 AG7=>?_;obtain ⟨Aa7,AG8,AG9⟩:=(Au.o2 p3).cells AG7 Da En;obtain rfl:=AG8;refine Ahm AO9 rfl Br (λh' hb=>AO8 (AG9 0 _ rfl) hb.ext) (AOr<|AOr<|Ah3 rfl (Ah2 Ah9 rfl (Ahm Aia rfl Br (λh' hb=>((Au.b p4).ext hb.ext).cell (i:=3) rfl) (AOr ?_))));obtain ⟨Aa8,Iv,AHa⟩:=AOw AG6;refine Aij APa rfl (Au.o2 p3) rfl Iv λAa9 Aba Abb AHb AHc=>Ahm Aha rfl Br (λh' hb=>AO8 AHc hb.ext) (AOr ?_);obtain ⟨Abc,Oa,AHd⟩:=AOw AHa;refine Air (m:=Ga) APe rfl (Au.o2 p3) AHb Iv rfl Oa λAbd AHe=>?_;obtain ⟨Abe,AHf,AHg⟩:=(Au.o2 p3).cells AHe Iv Oa;obtain rfl:=AHf;refine Ahm AO9 rfl Br (λh' hb=>AO8 (AHg 0 _ rfl) hb.ext) (Aou rfl rfl (AOr<|Ah3 rfl (Ah2 Al8 rfl (Ahm AO9 rfl Br (λh' hb=>((Au.b p4).ext hb.ext).cell (i:=1) rfl) ?_))));obtain ⟨AHh,AHi⟩:=ifN AHd;refine Aj6 rfl rfl AHh (Ahk rfl rfl (AOr<|Ah3 rfl (Ah2 Al8 rfl (Ahm AO9 rfl Br (λh' hb=>((Au.b p4).ext hb.ext).cell (i:=1) rfl) ?_))));obtain ⟨AHj,AHk,AHl⟩:=AOw AHi;refine A5s Au Br (Aik AHk) λAbf Abg Ob Abh=>Air (m:=C1) APe rfl (Au.o2 p3) AG2 Da rfl En λAbi AHm=>Aol (m:=C1) (Amg AO9 rfl rfl rfl) (Ob.o2 p3) AHm Da En (show ((cI .i64)).rep _ AHj _ from rfl) λAbj AHn Oc=>Ahh<|q_b<|q_t<|Ag6<|Ahk rfl rfl (AOr<|AOz ?_);have Abk:=Oc.size;exact ⟨_,(AOu AHl).symm,(Ob.uO2 p3 Oc AHn),rfl,trivial⟩
       ·refine Ahf<|Ahg<|Ahg<|Aio<|q_t<|AOv<|AOr<|Ah3 rfl (Ai6 Ald Aia (Au.b p4) 4 rfl (Ahx APa rfl (Au.o2 p2).rd (AOr<|AOz<|AO0<|Arf 23384026197294114384260011094492302362729850602496 (AG0 _ (AOu<|Ahz It Iu).symm) (λx=>[(118,(.int .i64 x.1))]) (λx=>Au.L.set 2<|aO2 (cI .i64) 61 2 Aa Ae Af Ac x.2) Au ⟨rfl,trivial⟩ ?_)));rintro ⟨Eo,AHo⟩ Abl Iw Abm A4 Ix AHp;unfold Aku at Ix;refine AOv<|Ahn rfl rfl (AOz<|AOx<|⟨_,rfl,λIy=>?_,λIy=>?_⟩)
        ·refine AO5<|q_t<|AOx<|AO0<|AOv<|AOr<|AO1<|Ai1 (λh'=>UpT [] Iw h') AO4 ?_;have Bt:UpT [] Iw Iw:=UpT.start all_nil;refine AOr<|Ah3 rfl (Ah2 Ald rfl (Ahm Aia rfl Bt (λh' hb=>((A4.b p4).ext hb.ext).cell (i:=4) rfl) (AOr ?_)));obtain ⟨Abn,B6,AHq⟩:=AOw<|Ahy Ix Iy;refine Aij APa rfl (A4.o2 p2) rfl B6 λAbo Abp Abq AHr AHs=>Ahm Aha rfl Bt (λh' hb=>AO8 AHs hb.ext) (AOr<|AOr<|Ah3 rfl (Ah2 Ald rfl (Ahm Aia rfl Bt (λh' hb=>((A4.b p4).ext hb.ext).cell (i:=4) rfl) (AOr<|Aij APa rfl (A4.o2 p2) rfl B6 λAbr Abt Abu AHt AHu=>Ahm Aha rfl Bt (λh' hb=>AO8 AHu hb.ext) (AOr ?_)))));obtain ⟨Abv,Ep,AHv⟩:=AOw AHq;refine Air (m:=Eo) APe rfl (A4.o2 p2) AHt B6 rfl Ep λAbw AHw=>?_;obtain ⟨Abx,AHx,AHy⟩:=(A4.o2 p2).cells AHw B6 Ep;obtain rfl:=AHx;refine Ahm AO9 rfl Bt (λh' hb=>AO8 (AHy 0 _ rfl) hb.ext) (AOr<|AOr<|Ah3 rfl (Ah2 Ald rfl (Ahm Aia rfl Bt (λh' hb=>((A4.b p4).ext hb.ext).cell (i:=4) rfl) (AOr<|Aij APa rfl (A4.o2 p2) rfl B6 λAby Abz Ab0 AHz AH0=>Ahm Aha rfl Bt (λh' hb=>AO8 AH0 hb.ext) (AOr ?_)))));obtain ⟨Ab1,Od,AH1⟩:=AOw AHv;refine Air (m:=Eo) APe rfl (A4.o2 p2) AHz B6 rfl Od λAb2 AH2=>?_;obtain ⟨Ab3,AH3,AH4⟩:=(A4.o2 p2).cells AH2 B6 Od;obtain rfl:=AH3;refine Ahm AO9 rfl Bt (λh' hb=>AO8 (AH4 0 _ rfl) hb.ext) (Aou rfl rfl (AOr<|Ah3 rfl (Ah2 Al8 rfl (Ahm AO9 rfl Bt (λh' hb=>((A4.b p4).ext hb.ext).cell (i:=1) rfl) ?_))));obtain ⟨AH5,AH6⟩:=ifN AH1;refine Aj6 rfl rfl AH5 (Ahk rfl rfl (AOr<|Ah3 rfl (Ah2 Al8 rfl (Ahm AO9 rfl Bt (λh' hb=>((A4.b p4).ext hb.ext).cell (i:=1) rfl) ?_))));obtain ⟨AH7,AH8,AH9⟩:=AOw AH6;refine A5s A4 Bt (Aik AH8) λAb4 Ab5 Oe Ab6=>Air (m:=Eo) APe rfl (A4.o2 p2) AHr B6 rfl Ep λAb7 AIa=>Aol (m:=Eo) (Amg AO9 rfl rfl rfl) (Oe.o2 p2) AIa B6 Ep (show ((cI .i64)).rep _ AH7 _ from rfl) λAb8 AIb Og=>Ahh<|q_b<|q_t<|Ag6<|Ahk rfl rfl (AOr<|AOz ?_);have Ab9:=Og.size;exact ⟨_,(AOu AH9).symm,(Oe.uO2 p2 Og AIb),rfl,trivial⟩
        ·refine Ahf<|Ahg<|Ahg<|Aio<|⟨_,Auv,((AGz,AHo):(LiI) × (LiI)),?_,rfl,?_⟩
         ·exact AOu<|AHp _ (AOu<|Ahz Ix Iy).symm
         ·exact A4
     obtain ⟨⟨AIc,AId⟩,AIe,rfl,AIf⟩:=AGb;refine ⟨trivial,?_⟩;subst AIe;refine AOz ?_;exact ⟨((AIc,AId):(LiI) × (LiI)),⟨AOu AGa,AIf⟩,trivial⟩
    ·refine AO5<|q_t ?_;exact ⟨((AF3,AF4):(LiI) × (LiI)),⟨AOu<|Ahz N6 Io,Cr⟩,trivial⟩
   rintro ⟨Aca,Acb⟩ Acc Acd ⟨AIg,D3⟩;subst AIg;refine AOv<|AOr<|AOr<|AOr ?_;obtain ⟨AIh,AIi,AIj⟩:=AOw AF7;refine Ahq (K':=(λxr h'=> ∃ x:(LiI) × LnA × LnN × LvA × (LiI),(x.1,x.2.2.2.2)=AIh/\xr= .tuple #[]/\Kst h h' ((D3.L.set 3<|aO2 (cI .i64) 61 2 x.2.1 x.2.2.1 x.2.2.2.1 Ab x.1).set 2 (aO2 (cI .i64) 61 2 Aa Ae Af Ac x.2.2.2.2)))) trivial rfl ?_ λAce Ct AIk=>?_
   ·refine cwf (l:=[_,_,_]) Tryz.func37 rfl rfl (AOx<|AOv<|AOr<|Ah3 rfl (Ai6 Ah9 Aia (D3.b p4) 3 rfl (Ahx APa rfl (D3.o2 p3).rd (AOr<|AOz<|AO0<|Arf 4951760157141521099596492864 AIi (λx=>[(12,(.int .i64 x.1))]) (λx=>(D3.L.set 3<|aO2 (cI .i64) 61 2 D0 D1 D2 Ab x.2.1).set 2 (aO2 (cI .i64) 61 2 Aa Ae Af Ac x.2.2)) D3 ⟨rfl,trivial⟩ ?_))));rintro ⟨Cg,AIl,AIm⟩ Acf Acg Ach Aj Iz AIn;unfold Akx at Iz;refine AOv<|Ahn rfl rfl (AOz<|AOx<|⟨_,rfl,λI0=>?_,λI0=>?_⟩)
    ·refine AO5<|q_t<|AOx<|AO0<|AOv<|AOr<|AO1<|AOx<|Ame<|AOr<|Ah3 rfl (Ai6 Ah9 Aia (Aj.b p4) 3 rfl (AOr ?_));obtain ⟨Aci,Cu,AIo⟩:=AOw<|Ahy Iz I0;refine Aiw APa Aha (Aj.o2 p3) Cu λ_ Acj AIp=>AOr<|AOr<|Ah3 rfl (Ai6 Ah9 Aia (Aj.b p4) 3 rfl (AOr<|Aiw APa Aha (Aj.o2 p3) Cu λ_ Ack AIq=>AOr<|AOr<|Ah3 rfl (Ai6 Ah9 Aia (Aj.b p4) 3 rfl (AOr<|Aiw APa Aha (Aj.o2 p3) Cu λ_ Acl AIr=>AOr ?_))));obtain ⟨Acm,AIs,AIt⟩:=AOw AIo;refine Atw (m:=Cg) APe AO9 (Aj.o2 p3) AIr Cu AIs λ_=>(AOr<|Ah3 rfl (Ai6 Ah9 Aia (Aj.b p4) 3 rfl (AOr<|Aiw APa Aha (Aj.o2 p3) Cu λ_ Acn AIu=>AOr ?_)));obtain ⟨Aco,Oh,AIv⟩:=AOw AIt;refine Atw (m:=Cg) APe AO9 (Aj.o2 p3) AIu Cu Oh λ_=>Aqv (m:=Cg) Aj p3 APe AO9 AIp Cu Oh (λ_=>rfl) λ_ Acp AIw=>?_;obtain ⟨Acq,AIx,AIy⟩:=AOw AIv;obtain ⟨Acr,AIz,AI0⟩:=AOw AIy;refine Aqv (m:=Cg) AIw p3 APe AO9 AIq AIx AIz (λ_=>rfl) λ_ Acs Bu=>AOz<|Ame<|AOr<|Ah3 rfl (Ai6 Ald Aia (Bu.b p4) 4 rfl (AOr ?_));obtain ⟨Acu,Cv,AI1⟩:=AOw AI0;refine Aiw APa Aha (Bu.o2 p2) Cv λ_ Acv AI2=>AOr<|AOr<|Ah3 rfl (Ai6 Ald Aia (Bu.b p4) 4 rfl (AOr<|Aiw APa Aha (Bu.o2 p2) Cv λ_ Acw AI3=>AOr<|AOr<|Ah3 rfl (Ai6 Ald Aia (Bu.b p4) 4 rfl (AOr<|Aiw APa Aha (Bu.o2 p2) Cv λ_ Acx AI4=>AOr ?_))));obtain ⟨Acy,AI5,AI6⟩:=AOw AI1;refine Atw (m:=Cg) APe AO9 (Bu.o2 p2) AI4 Cv AI5 λ_=>(AOr<|Ah3 rfl (Ai6 Ald Aia (Bu.b p4) 4 rfl (AOr<|Aiw APa Aha (Bu.o2 p2) Cv λ_ Acz AI7=>AOr ?_)));obtain ⟨Ac0,Oi,AI8⟩:=AOw AI6;refine Atw (m:=Cg) APe AO9 (Bu.o2 p2) AI7 Cv Oi λ_=>Aqv (m:=Cg) Bu p2 APe AO9 AI2 Cv Oi (λ_=>rfl) λ_ Ac1 AI9=>?_;obtain ⟨Ac2,AJa,AJb⟩:=AOw AI8;obtain ⟨Ac3,AJc,AJd⟩:=AOw AJb;refine Aqv (m:=Cg) AI9 p2 APe AO9 AI3 AJa AJc (λ_=>rfl) λ_ Ac4 AJe=>Ahh<|q_b<|q_t<|Ag6<|Ahk rfl rfl (AOr<|AOz ?_);exact ⟨_,(AOu AJd).symm,AJe,rfl,trivial⟩
    ·refine Ahf<|Ahg<|Ahg<|Aio<|q_t<|Ame<|AOr<|Ah3 rfl (Ai6 Ah9 Aia (Aj.b p4) 3 rfl (AOr<|AOr<|Ah3 rfl (Ai6 Ah9 Aia (Aj.b p4) 3 rfl (AOr<|AOr<|Ah3 rfl (Ai6 Ah9 Aia (Aj.b p4) 3 rfl (AOr ?_))))));obtain ⟨AJf,Oj,AJg⟩:=AOw<|AIn _ (AOu<|Ahz Iz I0).symm;refine Aiw APa Aha (Aj.o2 p3) Oj λ_ Ac5 AJh=>AOr<|Ah3 rfl (Ai6 Ah9 Aia (Aj.b p4) 3 rfl (AOr ?_));obtain ⟨AJi,Ol,AJj⟩:=AOw AJg;refine Aiw APa Aha (Aj.o2 p3) Ol λ_ Ac6 AJk=>Avr APa Aha (Aj.o2 p3) AJk AJh Ol Oj rfl rfl (λ_=>rfl) (λ_=>rfl) (λ_=>rfl) (λ_ _=>rfl) λAc7 Ac8 AJl AJm AJn Ac9 AJo AJp AJq=>Ahh<|⟨_,Auv,(((sI (sI AIl Cq AJf) C1 AJi),AJl,AJm,AJn,AIm):(LiI) × LnA × LnN × LvA × (LiI)),?_,rfl,?_⟩
     ·exact AOu AJj
     ·exact (Aj.uo2 p3 AJp AJo AJq)
   obtain ⟨⟨AJr,A5,D4,D5,AJs⟩,AJt,rfl,Bv⟩:=AIk;refine ⟨trivial,?_⟩;subst AJt;refine AOz<|AOx<|Ai1 (λh'=>UpT (N5 ++ (A5 ++ (Aa ++ []))) Ct h') AO4 ?_;have I1:UpT (N5 ++ (A5 ++ (Aa ++ []))) Ct Ct:=UpT.start<|Aiv (Bv.o p0).notD<|Aiv (Bv.o2 p3).notD<|Aiv (Bv.o2 p2).notD all_nil;refine Ah2 Ao4 rfl (Ahm Avc rfl I1 (λh' hb=>((Bv.b p1).upT hb (A17 (Bv.dj p1 p0 AOs)<|A17 (Bv.dj p1 p3 AOs)<|A17 (Bv.dj p1 p2 AOs) A9n)).cell (i:=2) rfl) (AOr<|AOr ?_));obtain ⟨AJu,AJv,AJw⟩:=AOw AIj;have AJx:UpT (A5 ++ (Aa ++ [])) Ct Ct:=UpT.start<|Aiv (Bv.o2 p3).notD<|Aiv (Bv.o2 p2).notD all_nil;refine Ahq (K':=(λxr h'=> ∃ x:(Int) × (Int) × (Int) × (Int) × (Int) × (LiI) × (LiI),(x.1,x.2.1,x.2.2.1,x.2.2.2.1,x.2.2.2.2.1,x.2.2.2.2.2.1,x.2.2.2.2.2.2)=AJu/\xr=(.agg #[(.int .i64 x.1),(.int .i64 x.2.1),(.int .i64 x.2.2.1),(.int .i64 x.2.2.2.1),(.int .i64 x.2.2.2.2.1)])/\Kst h h' ((Bv.L.set 3<|aO2 (cI .i64) 61 2 A5 D4 D5 Ab x.2.2.2.2.2.1).set 2 (aO2 (cI .i64) 61 2 Aa Ae Af Ac x.2.2.2.2.2.2))/\UpT (A5 ++ (Aa ++ [])) Ct h')) I1 rfl ?_ λAda Adb AJy=>?_
   ·refine cwf (l:=[_,_]) Tryz.func40 rfl rfl (AOv<|A2a [(.int .i64 0),(.int .i64 0),(.int .i64 0),(.int .i64 0),(.int .i64 0)] Axp rfl trivial tt2 λAdc I2 AJz I3 Om=>Apt<|AOr<|AOr<|Ah3 rfl (Ah2 Ah9 rfl ?_));have Ade:=I3.1;have B7:=Bv.nb I3 Om AJz;refine Ahu Aia rfl ((B7.b p5).cell (i:=3) rfl) (AOr ?_);have AJ0:=Om.loAll 0 rfl;obtain ⟨Adf,Db,AJ1⟩:=AOw AJv;refine Aij APa rfl (B7.o2 p4) rfl Db λAdg Adh Adi AJ2 AJ3=>Ahu Aha rfl AJ3 (AOr ?_);obtain ⟨Adj,Er,AJ4⟩:=AOw AJ1;refine Air (m:=Cq) APe rfl (B7.o2 p4) AJ2 Db rfl Er λAdk AJ5=>?_;obtain ⟨Adl,AJ6,AJ7⟩:=(B7.o2 p4).cells AJ5 Db Er;obtain rfl:=AJ6;refine Ahu AO9 rfl (AJ7 0 _ rfl) ?_;obtain ⟨AJ8,On,AJ9⟩:=AOw AJ4;have Oo:UpT [] I2 I2:=UpT.start all_nil;refine Ahq (K':=(λxr h'=> ∃ x:(Int),x=AJ8/\xr=(.int .i64 x)/\Kst h h' (B7.L)/\UpT [] I2 h')) trivial rfl ?_ λAdm Adn AKa=>?_
    ·refine cwf (l:=[_,_]) Tryz.func80 rfl rfl (AOv<|AO1<|AOx<|AOv<|AOr<|Ai0 rfl rfl (AOz<|⟨_,rfl,λI6=>?_,λI6=>?_⟩))
     ·refine AOv<|AOr<|Ah3 rfl (Ah2 A23 rfl (Ahu Aii rfl ((B7.b p5).cell (i:=2) rfl) (AO1<|AO6<|Ag7<|⟨_,AO7,(Bm:(Int)),?_,rfl,?_,?_⟩)))
      ·exact AOu<|Ahy On I6
      ·exact B7
      ·exact Oo
     ·refine AO5<|q_t<|AOv<|AOr<|AOr<|Ah3 rfl (Ah2 Azj rfl (Ahu AO9 rfl ((B7.b p5).cell (i:=0) rfl) ?_));obtain ⟨AKb,AKc,AKd⟩:=AOw<|Ahz On I6;refine Aqs rfl (Ajq AKc) λAdo Adp I7 AKe=>?_;subst AKe;refine AO1<|AO6 ?_;have Adq:=I7.1;refine ⟨_,AO7,(AKb:(Int)),?_,rfl,?_,?_⟩
      ·exact AOu AKd
      ·exact (B7.e I7)
      ·exact (Oo.thenE I7)
    obtain ⟨I9,AKf,rfl,Oq,Ot⟩:=AKa;have Adr:=Ot.size;refine ⟨trivial,?_⟩;subst AKf;refine Ah7<|AOr<|Ah3 rfl (Ah2 Azj rfl (Ahu AO9 rfl ((Oq.b p5).cell (i:=0) rfl) (AOr ?_)));obtain ⟨Ja,AKg,AKh⟩:=AOw AJ9;refine Aqs rfl (Alo AKg) λAds Adt Jc AKi=>?_;subst AKi;refine AO1<|AOx<|Ame<|AOr<|Ah3 rfl (Ah2 Ah9 rfl ?_);have Adu:=Jc.1;have Dc:=Oq.e Jc;refine Ahu Aia rfl ((Dc.b p5).cell (i:=3) rfl) (AOr<|Aij APa rfl (Dc.o2 p4) rfl Db λAdv Adw Adx AKj AKk=>Ahu Aha rfl AKk (AOr<|Air (m:=Cq) APe rfl (Dc.o2 p4) AKj Db rfl Er λAdy AKl=>?_));obtain ⟨Adz,AKm,AKn⟩:=(Dc.o2 p4).cells AKl Db Er;obtain rfl:=AKm;refine Ahu AO9 rfl (AKn 0 _ rfl) (AOr ?_);obtain ⟨AKo,AKp⟩:=ifN AKh;refine Avu rfl rfl AKo (AOr<|Ah3 rfl (Ah2 Al8 rfl (Ahu AO9 rfl ((Dc.b p5).cell (i:=1) rfl) (AOr ?_))));obtain ⟨AKq,AKr⟩:=ifN AKp;refine Avu rfl rfl AKq ?_;obtain ⟨⟨Ad0,Ad1⟩,AKs,Ou⟩:=AOw AKr;dsimp only at Ou;refine Aqs rfl (As8 AKs) λAd2 Ad3 Je AKt=>?_;subst AKt;refine AOr<|Ait rfl rfl (Ait rfl rfl (Aho<|AO1<|AOx<|AOv<|AOr<|Ahk rfl rfl (AO1<|AO0 ?_)));have Ad4:=Je.1;have Ov:=Dc.e Je;obtain ⟨Ow,AKu,AKv⟩:=AOw Ou;obtain ⟨AKw,AKx,AKy⟩:=Aul AKu;refine Aj7 154742504906168934735020544 (λx:(Int) × (LiI) × (LiI)=>[(9,(.int .i64 x.1))]) (λk x h'=>iter AKw k (x.1,x.2.1,x.2.2)=some Ow/\Kst h h' ((Ov.L.set 4<|aO2 (cI .i64) 61 2 A5 D4 D5 Ab x.2.1).set 3 (aO2 (cI .i64) 61 2 Aa Ae Af Ac x.2.2))/\UpT (A5 ++ (Aa ++ [])) Ct h') AO4 fuel (((w64<|Cq + 1),AJr,AJs):(Int) × (LiI) × (LiI)) ?_ ⟨rfl,trivial⟩ ?_
    ·exact ⟨AKy,Ov,((((AJx.thenE I3).then Ot all_nil).thenE Jc).thenE Je)⟩
    rintro Ad5 ⟨Cw,Ox,Oy⟩ Ad6 Dd ⟨AKz,Ag,Jf⟩;have Ad7:=Jf.size;obtain ⟨AK0,Ad8,rfl,D6,Jg⟩:=Aq9 AKz;rw [AKx] at D6;dsimp only at D6;unfold Ak1 at D6;refine AOx<|AOv<|AOr<|AOr<|Ah3 rfl (Ah2 Ah9 rfl (Ahu Aia rfl ((Ag.b p5).cell (i:=3) rfl) (Ahx APa rfl (Ag.o2 p4).rd (Ahn rfl rfl (AOz<|⟨_,rfl,λJh=>?_,λJh=>?_⟩)))))
    ·refine AO5<|q_t<|AOx<|AO0<|Ame<|AOr<|AOr<|Ah3 rfl (Ah2 Ah9 rfl (Ahu Aia rfl ((Ag.b p5).cell (i:=3) rfl) (AOr ?_)));obtain ⟨Ad9,Ji,AK1⟩:=AOw<|Ahy D6 Jh;refine Aij APa rfl (Ag.o2 p4) rfl Ji λAea Aeb Aec AK2 AK3=>Ahu Aha rfl AK3 (AOr ?_);obtain ⟨Aed,Oz,AK4⟩:=AOw AK1;refine Air (m:=Cq) APe rfl (Ag.o2 p4) AK2 Ji rfl Oz λAee AK5=>?_;obtain ⟨Aef,AK6,AK7⟩:=(Ag.o2 p4).cells AK5 Ji Oz;obtain rfl:=AK6;refine Ahu AO9 rfl (AK7 0 _ rfl) (AOr ?_);obtain ⟨AK8,AK9⟩:=ifN AK4;refine Avu rfl rfl AK8 (AOr<|Aou rfl rfl (AOr<|Ah3 rfl (Ah2 Al8 rfl (Ahu AO9 rfl ((Ag.b p5).cell (i:=1) rfl) (AOr ?_)))));obtain ⟨ALa,ALb⟩:=ifN AK9;refine Avu rfl rfl ALa ?_;obtain ⟨ALc,ALd⟩:=ifN ALb;refine Aj6 rfl rfl ALc (A36 rfl (AOr<|AOr ?_));obtain ⟨ALe,ALf,ALg⟩:=AOw ALd;have ALh:UpT (A5 ++ (Aa ++ [])) Dd Dd:=UpT.start<|Aiv (Ag.o2 p4).notD<|Aiv (Ag.o2 p3).notD all_nil;refine Ahq (K':=(λxr h'=> ∃ x:(LiI) × (LiI),(x.1,x.2)=ALe/\xr= .tuple #[]/\Kst h h' ((Ag.L.set 4<|aO2 (cI .i64) 61 2 A5 D4 D5 Ab x.1).set 3 (aO2 (cI .i64) 61 2 Aa Ae Af Ac x.2))/\UpT (A5 ++ (Aa ++ [])) Dd h')) trivial rfl ?_ λAeg Aeh ALi=>?_
     ·refine cwf (l:=[_,_,_,_]) Tryz.func39 rfl rfl (AOx<|AOv<|AOr<|Ah3 rfl (Ah2 Ah9 rfl (Ahu Aia rfl ((Ag.b p5).cell (i:=3) rfl) (Ahx APa rfl (Ag.o2 p4).rd (AOr<|AOz<|AO0 ?_)))));obtain ⟨O0,ALj,ALk⟩:=AOw ALf;obtain ⟨ALl,ALm,ALn⟩:=Aul ALj;refine Aj7 4611686018427322624 (λx:(Int) × (LiI)=>[(16,(.int .i64 x.1))]) (λk x h'=>iter ALl k (x.1,x.2)=some O0/\Kst h h' (Ag.L.set 4<|aO2 (cI .i64) 61 2 A5 D4 D5 Ab x.2)/\UpT (A5 ++ (Aa ++ [])) Dd h') AO4 fuel ((0,Ox):(Int) × (LiI)) ?_ ⟨rfl,trivial⟩ ?_
      ·exact ⟨ALn,Ag,ALh⟩
      rintro Aei ⟨De,O1⟩ Aej Jj ⟨ALo,Av,Jk⟩;have Aek:=Jk.size;obtain ⟨ALp,Ael,rfl,D7,Jl⟩:=Aq9 ALo;rw [ALm] at D7;dsimp only at D7;unfold Ak0 at D7;refine AOv<|Ahn rfl rfl (AOz<|AOx<|⟨_,rfl,λJm=>?_,λJm=>?_⟩)
      ·refine AO5<|q_t<|AOx<|AO0<|AOv<|AOr<|AO1<|Ai1 (λh'=>UpT [] Jj h') AO4 ?_;have Bi:UpT [] Jj Jj:=UpT.start all_nil;refine AOr<|Ah3 rfl (Ah2 Ah9 rfl (Ahm Aia rfl Bi (λh' hb=>((Av.b p5).ext hb.ext).cell (i:=3) rfl) (AOr ?_)));obtain ⟨ALq,B8,ALr⟩:=AOw<|Ahy D7 Jm;refine Aij APa rfl (Av.o2 p4) rfl B8 λAem Aen Aeo ALs ALt=>Ahm Aha rfl Bi (λh' hb=>AO8 ALt hb.ext) (AOr<|AOr<|Ah3 rfl (Ah2 Ah9 rfl (Ahm Aia rfl Bi (λh' hb=>((Av.b p5).ext hb.ext).cell (i:=3) rfl) (AOr<|Aij APa rfl (Av.o2 p4) rfl B8 λAep Aeq Aer ALu ALv=>Ahm Aha rfl Bi (λh' hb=>AO8 ALv hb.ext) (AOr ?_)))));obtain ⟨Aes,Es,ALw⟩:=AOw ALr;refine Air (m:=De) APe rfl (Av.o2 p4) ALu B8 rfl Es λAet ALx=>?_;obtain ⟨Aeu,ALy,ALz⟩:=(Av.o2 p4).cells ALx B8 Es;obtain rfl:=ALy;refine Ahm AO9 rfl Bi (λh' hb=>AO8 (ALz 0 _ rfl) hb.ext) (AOr<|AOr<|Ah3 rfl (Ah2 Ah9 rfl (Ahm Aia rfl Bi (λh' hb=>((Av.b p5).ext hb.ext).cell (i:=3) rfl) (AOr<|Aij APa rfl (Av.o2 p4) rfl B8 λAev Aew Aex AL0 AL1=>Ahm Aha rfl Bi (λh' hb=>AO8 AL1 hb.ext) (AOr ?_)))));obtain ⟨Aey,O2,AL2⟩:=AOw ALw;refine Air (m:=De) APe rfl (Av.o2 p4) AL0 B8 rfl O2 λAez AL3=>?_;obtain ⟨Ae0,AL4,AL5⟩:=(Av.o2 p4).cells AL3 B8 O2;obtain rfl:=AL4;refine Ahm AO9 rfl Bi (λh' hb=>AO8 (AL5 0 _ rfl) hb.ext) (Aou rfl rfl (AOr<|Ah3 rfl (Ah2 Al8 rfl (Ahm AO9 rfl Bi (λh' hb=>((Av.b p5).ext hb.ext).cell (i:=1) rfl) ?_))));obtain ⟨AL6,AL7⟩:=ifN AL2;refine Aj6 rfl rfl AL6 (Ahk rfl rfl (AOr<|Ah3 rfl (Ah2 Al8 rfl (Ahm AO9 rfl Bi (λh' hb=>((Av.b p5).ext hb.ext).cell (i:=1) rfl) ?_))));obtain ⟨O3,AL8,AL9⟩:=AOw AL7;refine Aj3 Bi (λ_ E=>Bi.thenE E) rfl (Aik AL8) λAe1 Ae2 Jn AMa=>?_;subst AMa;refine Air (m:=De) APe rfl (Av.o2 p4) ALs B8 rfl Es λAe3 AMb=>?_;have Ae4:=Jn.1;have O4:=Av.e Jn;refine Aol (m:=De) (Amg AO9 rfl rfl rfl) (O4.o2 p4) AMb B8 Es (show ((cI .i64)).rep _ O3 _ from rfl) λAe5 AMc Jo=>Ahh<|q_b<|q_t<|Ag6<|Ahk rfl rfl (AOr<|AOz ?_);have Ae6:=Jo.size;obtain rfl:=AOu AL9;exact ⟨ALp,(((w64<|De + 1),(sI O1 De<|sI ALq Cw O3)):(Int) × (LiI)),Nat.lt_succ_self _,⟨Jl,(O4.uO2 p4 Jo AMc),((Jk.thenE Jn).then Jo<|Am3 rfl)⟩,rfl,trivial⟩
      ·obtain rfl:=AOu<|Ahz D7 Jm;change _=O0 at Jl;subst Jl;refine Ahf<|Ahg<|Ahg<|Aio<|q_t<|AOx<|AOv<|AOr<|Ah3 rfl (Ah2 Ah9 rfl (Ahu Aia rfl ((Av.b p5).cell (i:=3) rfl) (Ahx APa rfl (Av.o2 p4).rd (AOr<|AOz<|AO0 ?_))));obtain ⟨O5,AMd,AMe⟩:=AOw ALk;obtain ⟨AMf,AMg,AMh⟩:=Aul AMd;refine Aj7 10384593717069507683108402982027776 (λx:(Int) × (LiI)=>[(67,(.int .i64 x.1))]) (λk x h'=>iter AMf k (x.1,x.2)=some O5/\Kst h h' (Av.L.set 4<|aO2 (cI .i64) 61 2 A5 D4 D5 Ab x.2)/\UpT (A5 ++ (Aa ++ [])) Dd h') AO4 fuel ((0,O1):(Int) × (LiI)) ?_ ⟨rfl,trivial⟩ ?_
       ·exact ⟨AMh,Av,Jk⟩
       rintro Ae7 ⟨O6,O7⟩ Ae8 Jp ⟨AMi,Aw,Jq⟩;have Ae9:=Jq.size;obtain ⟨AMj,Afa,rfl,D8,Jr⟩:=Aq9 AMi;rw [AMg] at D8;dsimp only at D8;unfold Akz at D8;refine AOv<|Ahn rfl rfl (AOz<|AOx<|⟨_,rfl,λJs=>?_,λJs=>?_⟩)
       ·refine AO5<|q_t<|AOx<|AO0<|AOv<|AOr<|AO1<|Ai1 (λh'=>UpT [] Jp h') AO4 ?_;have Bj:UpT [] Jp Jp:=UpT.start all_nil;refine AOr<|Ah3 rfl (Ah2 Ah9 rfl (Ahm Aia rfl Bj (λh' hb=>((Aw.b p5).ext hb.ext).cell (i:=3) rfl) (AOr ?_)));obtain ⟨AMk,Df,AMl⟩:=AOw<|Ahy D8 Js;refine Aij APa rfl (Aw.o2 p4) rfl Df λAfb Afc Afd AMm AMn=>Ahm Aha rfl Bj (λh' hb=>AO8 AMn hb.ext) (AOr<|AOr<|Ah3 rfl (Ah2 Ah9 rfl (Ahm Aia rfl Bj (λh' hb=>((Aw.b p5).ext hb.ext).cell (i:=3) rfl) (AOr<|Aij APa rfl (Aw.o2 p4) rfl Df λAfe Aff Afg AMo AMp=>Ahm Aha rfl Bj (λh' hb=>AO8 AMp hb.ext) (AOr ?_)))));obtain ⟨Afh,Et,AMq⟩:=AOw AMl;refine Air (m:=Cw) APe rfl (Aw.o2 p4) AMo Df rfl Et λAfi AMr=>?_;obtain ⟨Afj,AMs,AMt⟩:=(Aw.o2 p4).cells AMr Df Et;obtain rfl:=AMs;refine Ahm AO9 rfl Bj (λh' hb=>AO8 (AMt 0 _ rfl) hb.ext) (AOr<|AOr<|Ah3 rfl (Ah2 Ah9 rfl (Ahm Aia rfl Bj (λh' hb=>((Aw.b p5).ext hb.ext).cell (i:=3) rfl) (AOr ?_))));obtain ⟨Afk,Jt,AMu⟩:=AOw AMq;refine Aij APa rfl (Aw.o2 p4) rfl Jt λAfl Afm Afn AMv AMw=>Ahm Aha rfl Bj (λh' hb=>AO8 AMw hb.ext) (AOr ?_);obtain ⟨Afo,O8,AMx⟩:=AOw AMu;refine Air (m:=Cq) APe rfl (Aw.o2 p4) AMv Jt rfl O8 λAfp AMy=>?_;obtain ⟨Afq,AMz,AM0⟩:=(Aw.o2 p4).cells AMy Jt O8;obtain rfl:=AMz;refine Ahm AO9 rfl Bj (λh' hb=>AO8 (AM0 0 _ rfl) hb.ext) (Aou rfl rfl (AOr<|Ah3 rfl (Ah2 Al8 rfl (Ahm AO9 rfl Bj (λh' hb=>((Aw.b p5).ext hb.ext).cell (i:=1) rfl) ?_))));obtain ⟨AM1,AM2⟩:=ifN AMx;refine Aj6 rfl rfl AM1 (Ahk rfl rfl (AOr<|Ah3 rfl (Ah2 Al8 rfl (Ahm AO9 rfl Bj (λh' hb=>((Aw.b p5).ext hb.ext).cell (i:=1) rfl) ?_))));obtain ⟨O9,AM3,AM4⟩:=AOw AM2;refine Aj3 Bj (λ_ E=>Bj.thenE E) rfl (Aik AM3) λAfr Afs Ju AM5=>?_;subst AM5;refine Air (m:=Cw) APe rfl (Aw.o2 p4) AMm Df rfl Et λAft AM6=>?_;have Afu:=Ju.1;have Pa:=Aw.e Ju;refine Aol (m:=Cw) (Amg AO9 rfl rfl rfl) (Pa.o2 p4) AM6 Df Et (show ((cI .i64)).rep _ O9 _ from rfl) λAfv AM7 Jv=>Ahh<|q_b<|q_t<|Ag6<|Ahk rfl rfl (AOr<|AOz ?_);have Afw:=Jv.size;obtain rfl:=AOu AM4;exact ⟨AMj,(((w64<|O6 + 1),(sI O7 Cw<|sI AMk O6 O9)):(Int) × (LiI)),Nat.lt_succ_self _,⟨Jr,(Pa.uO2 p4 Jv AM7),((Jq.thenE Ju).then Jv<|Am3 rfl)⟩,rfl,trivial⟩
       ·obtain rfl:=AOu<|Ahz D8 Js;change _=O5 at Jr;subst Jr;refine Ahf<|Ahg<|Ahg<|Aio<|q_t<|AOv<|AOr<|Ah3 rfl (Ah2 Ald rfl (Ahu Aia rfl ((Aw.b p5).cell (i:=4) rfl) (Ahx APa rfl (Aw.o2 p3).rd (AOr<|AOz<|AO0 ?_))));obtain ⟨Pb,AM8,AM9⟩:=AOw AMe;obtain ⟨ANa,ANb,ANc⟩:=Aul AM8;refine Aj7 23384026197294114384260011094492302362729850602496 (λx:(Int) × (LiI)=>[(118,(.int .i64 x.1))]) (λk x h'=>iter ANa k (x.1,x.2)=some Pb/\Kst h h' (Aw.L.set 3<|aO2 (cI .i64) 61 2 Aa Ae Af Ac x.2)/\UpT (A5 ++ (Aa ++ [])) Dd h') AO4 fuel ((0,Oy):(Int) × (LiI)) ?_ ⟨rfl,trivial⟩ ?_
        ·exact ⟨ANc,Aw,Jq⟩
        rintro Afx ⟨Dg,Pc⟩ Afy Jw ⟨ANd,A6,Jx⟩;have Afz:=Jx.size;obtain ⟨ANe,Af0,rfl,D9,Jy⟩:=Aq9 ANd;rw [ANb] at D9;dsimp only at D9;unfold Aky at D9;refine AOv<|Ahn rfl rfl (AOz<|AOx<|⟨_,rfl,λJz=>?_,λJz=>?_⟩)
        ·refine AO5<|q_t<|AOx<|AO0<|AOv<|AOr<|AO1<|Ai1 (λh'=>UpT [] Jw h') AO4 ?_;have Bl:UpT [] Jw Jw:=UpT.start all_nil;refine AOr<|Ah3 rfl (Ah2 Ald rfl (Ahm Aia rfl Bl (λh' hb=>((A6.b p5).ext hb.ext).cell (i:=4) rfl) (AOr ?_)));obtain ⟨ANf,B9,ANg⟩:=AOw<|Ahy D9 Jz;refine Aij APa rfl (A6.o2 p3) rfl B9 λAf1 Af2 Af3 ANh ANi=>Ahm Aha rfl Bl (λh' hb=>AO8 ANi hb.ext) (AOr<|AOr<|Ah3 rfl (Ah2 Ald rfl (Ahm Aia rfl Bl (λh' hb=>((A6.b p5).ext hb.ext).cell (i:=4) rfl) (AOr<|Aij APa rfl (A6.o2 p3) rfl B9 λAf4 Af5 Af6 ANj ANk=>Ahm Aha rfl Bl (λh' hb=>AO8 ANk hb.ext) (AOr ?_)))));obtain ⟨Af7,Eu,ANl⟩:=AOw ANg;refine Air (m:=Dg) APe rfl (A6.o2 p3) ANj B9 rfl Eu λAf8 ANm=>?_;obtain ⟨Af9,ANn,ANo⟩:=(A6.o2 p3).cells ANm B9 Eu;obtain rfl:=ANn;refine Ahm AO9 rfl Bl (λh' hb=>AO8 (ANo 0 _ rfl) hb.ext) (AOr<|AOr<|Ah3 rfl (Ah2 Ald rfl (Ahm Aia rfl Bl (λh' hb=>((A6.b p5).ext hb.ext).cell (i:=4) rfl) (AOr<|Aij APa rfl (A6.o2 p3) rfl B9 λAga Agb Agc ANp ANq=>Ahm Aha rfl Bl (λh' hb=>AO8 ANq hb.ext) (AOr ?_)))));obtain ⟨Agd,Pd,ANr⟩:=AOw ANl;refine Air (m:=Dg) APe rfl (A6.o2 p3) ANp B9 rfl Pd λAge ANs=>?_;obtain ⟨Agf,ANt,ANu⟩:=(A6.o2 p3).cells ANs B9 Pd;obtain rfl:=ANt;refine Ahm AO9 rfl Bl (λh' hb=>AO8 (ANu 0 _ rfl) hb.ext) (Aou rfl rfl (AOr<|Ah3 rfl (Ah2 Al8 rfl (Ahm AO9 rfl Bl (λh' hb=>((A6.b p5).ext hb.ext).cell (i:=1) rfl) ?_))));obtain ⟨ANv,ANw⟩:=ifN ANr;refine Aj6 rfl rfl ANv (Ahk rfl rfl (AOr<|Ah3 rfl (Ah2 Al8 rfl (Ahm AO9 rfl Bl (λh' hb=>((A6.b p5).ext hb.ext).cell (i:=1) rfl) ?_))));obtain ⟨Pe,ANx,ANy⟩:=AOw ANw;refine Aj3 Bl (λ_ E=>Bl.thenE E) rfl (Aik ANx) λAgg Agh J0 ANz=>?_;subst ANz;refine Air (m:=Dg) APe rfl (A6.o2 p3) ANh B9 rfl Eu λAgi AN0=>?_;have Agj:=J0.1;have Pf:=A6.e J0;refine Aol (m:=Dg) (Amg AO9 rfl rfl rfl) (Pf.o2 p3) AN0 B9 Eu (show ((cI .i64)).rep _ Pe _ from rfl) λAgk AN1 J1=>Ahh<|q_b<|q_t<|Ag6<|Ahk rfl rfl (AOr<|AOz ?_);have Agl:=J1.size;obtain rfl:=AOu ANy;exact ⟨ANe,(((w64<|Dg + 1),(sI Pc Dg<|sI ANf Cw Pe)):(Int) × (LiI)),Nat.lt_succ_self _,⟨Jy,(Pf.uO2 p3 J1 AN1),((Jx.thenE J0).then J1<|A1j<|Am3 rfl)⟩,rfl,trivial⟩
        ·obtain rfl:=AOu<|Ahz D9 Jz;change _=Pb at Jy;subst Jy;refine Ahf<|Ahg<|Ahg<|Aio<|⟨_,Auv,((O7,Pc):(LiI) × (LiI)),?_,rfl,?_,?_⟩
         ·exact AOu AM9
         ·exact A6
         ·exact Jx
     obtain ⟨⟨AN2,AN3⟩,AN4,rfl,AN5,Pg⟩:=ALi;have Agm:=Pg.size;refine ⟨trivial,?_⟩;subst AN4;refine Ahh<|q_b<|q_t<|Ag6<|AOr<|Ahk rfl rfl (AO1 ?_);obtain rfl:=AOu ALg;exact ⟨AK0,(((w64<|Cw + 1),AN2,AN3):(Int) × (LiI) × (LiI)),Nat.lt_succ_self _,⟨Jg,AN5,(Jf.then Pg<|Aiv (Am3 rfl)<|Aiv (A1j<|Am3 rfl) all_nil)⟩,rfl,trivial⟩
    ·obtain rfl:=AOu<|Ahz D6 Jh;change _=Ow at Jg;subst Jg;refine Ahf<|Ahg<|Ahg<|Aio<|q_t<|AOv<|AOr<|AOr<|Ah3 rfl (Ah2 Ah9 rfl (Ahu Aia rfl ((Ag.b p5).cell (i:=3) rfl) (AOr ?_)));obtain ⟨Agn,J2,AN6⟩:=AOw AKv;refine Aij APa rfl (Ag.o2 p4) rfl J2 λAgo Agp Agq AN7 AN8=>Ahu Aha rfl AN8 (AOr ?_);obtain ⟨J3,Ph,AN9⟩:=AOw AN6;refine Air (m:=Cq) APe rfl (Ag.o2 p4) AN7 J2 rfl Ph λAgr AOa=>?_;obtain ⟨Ags,AOb,AOc⟩:=(Ag.o2 p4).cells AOa J2 Ph;obtain rfl:=AOb;refine Ahu AO9 rfl (AOc 0 _ rfl) (AOr ?_);obtain ⟨AOd,AOe⟩:=ifN AN9;refine Avu rfl rfl AOd (Alh (v:=(.agg #[(.int .i64 I9),(.int .i64 1),(.int .i64<|w64<|Int.tdiv J3 Ja),(.int .i64 0),(.int .i64 0)])) (λ_=>by kernel_rfl)<|Ai5 [(.int .i64 I9),(.int .i64 1),(.int .i64<|w64<|Int.tdiv J3 Ja),(.int .i64 0),(.int .i64 0)] Art rfl rfl rfl rfl (by simp [isOne]) (Ag.b p0) λAgt Pj J4=>AOz<|AO6 ?_);have Agu:=J4.1;have Pk:=Ag.sb p0 J4 Pj rfl;refine ⟨_,Ai3 Art rfl rfl (Pk.b p0),((I9,1,(w64<|Int.tdiv J3 Ja),0,0,Ox,Oy):(Int) × (Int) × (Int) × (Int) × (Int) × (LiI) × (LiI)),?_,rfl,?_,?_⟩
     ·exact AOu AOe
     ·exact Pk.sel [1,2,3,4,5,6] AOs
     ·exact (Jf.then (Pj.stA J4 (Ani (Ag.b p0) rfl) rfl)<|BC8 AJ0 AOq)
   obtain ⟨⟨Pl,Pm,Pn,Po,Pp,Agv,Agw⟩,AOf,rfl,Pq,Ps⟩:=AJy;have Agx:=Ps.size;have J5:=I1.then Ps<|Aiv (A1j<|Am3 rfl)<|Aiv (A1j<|A1j<|Am3 rfl) all_nil;refine ⟨J5,?_⟩;subst AOf;obtain ⟨AOg,AOh⟩:=ifN AJw;refine Ar6 Atu Axp rfl rfl J5 (λ_ U=>J5.then U<|Am3 rfl) (λ_=>rfl) rfl (show (Arc).rep _ (Pl,Pm,Pn,Po,Pp) [(.int .i64 Pl),(.int .i64 Pm),(.int .i64 Pn),(.int .i64 Po),(.int .i64 Pp)] from rfl) (Pq.o p0) AOs AOg λAgy Agz AOi Ag0 AOj Pt AOk=>Ah2 Ao4 rfl ?_;have Ag1:=Pt.size;have J6:=Pq.uo p0 Pt AOj AOk;refine Awc [(.int .i64 a5),(.slice none 0 0),AOi] Avc rfl rfl (J6.o p0).isOne (J6.b p1) (Nat.le_of_ble_eq_true rfl) rfl λAg2 AOl Pu=>AOz<|Ag6<|AOr<|Ahk rfl rfl (Aho<|Ahh<|q_b<|q_t ?_);have Ag3:=Pu.1;exact ⟨(_,_,_,_,_,_,_,_,_),(AOu AOh).symm,(J6.sb p1 Pu AOl rfl),rfl,trivial⟩
  ·refine Ahf<|Ahg<|Ahg<|Aio<|q_t<|AOv<|AOr<|Ah3 rfl (Ai6 Ald Aia (Ch.b p4) 4 rfl (Ah2 Apd rfl (Awc [(.int .i64 a5),Ac,Dk] Aia rfl rfl (Ch.o2 p2).isOne (Ch.b p1) (Nat.le_of_ble_eq_true rfl) rfl λAg4 AOm AOn=>Apt ?_)));have Ea:=Ch.sb p1 AOn AOm rfl;refine Anm [(.int .i64 a5),Ac,Dk] Ai7 rfl rfl (Ea.b p1).agg (Ai5 [(.int .i64 a5),Ac,Dk] Ai7 rfl rfl rfl rfl (Aic rfl (Aic (Ea.o2 p2).isOne<|Aic (Ea.o p0).isOne Aon)) (Ea.b p5) λAg5 AOo AOp=>AOz<|AO6 ?_);have Eb:=Ea.sb p5 AOp AOo rfl;obtain rfl:=AOu<|Qx _ (AOu<|Ahz Ff Fg).symm;exact ⟨_,Ai3 Ai7 rfl rfl (Eb.b p5),Eb.x,_,_,_,_,_,_,rfl,(Eb.o2 p2),(Eb.o p0),Eb.s.sel [2,0] AOs⟩
end Go.Proofs.YtkakafabeobahaaGreatDoor
namespace Go.Proofs.YtkakafabeobahaaGreatDoor
open Go Go.QF
set_option maxRecDepth 100000
def BCs (n:Nat) (m:Int) (z:List Int):Prop:=z.length=n/\ ∀ x∈z,0<=x/\x < m
def SqS (n:Nat) (m:Int) (g:List (List Int)):Prop:=g.length=n/\ ∀ z∈g,BCs n m z
theorem Am8 {n:Nat} {m i:Int} {f:List Int->Option β} {R:β->Prop} (hg:SqS n m g) (hi:0<=i/\i < n) (k:∀ z,BCs n m z->Ok (f z) R):Ok ((gI g i).bind f) R:=by
 have hl:=hg.1;have h:i.toNat < g.length:=by omega
 exact Ahj (n:=i.toNat) (List.getElem?_eq_getElem h) AOq<|k _<|hg.2 _<|List.getElem_mem h
theorem Ak2 {n:Nat} {m i:Int} {z:List Int} {f:Int->Option β} {R:β->Prop} (hz:BCs n m z) (hi:0<=i/\i < n) (k:∀ x,0<=x->x < m->Ok (f x) R):Ok ((gI z i).bind f) R:=by
 have hl:=hz.1;have h:i.toNat < z.length:=by omega
 have:=hz.2 _<|List.getElem_mem h;exact Ahj (n:=i.toNat) (List.getElem?_eq_getElem h) AOq<|k _ this.1 this.2
theorem Ajv {n:Nat} {m i:Int} {z:List Int} (hz:BCs n m z) (h0:0<=x) (h1:x < m):BCs n m (sI z i x):=by
 refine ⟨by unfold sI;rw [List.length_set];exact hz.1,λy hy=>?_⟩;rcases List.mem_or_eq_of_mem_set hy with h | rfl
 ·exact hz.2 y h
 ·exact ⟨h0,h1⟩
theorem Aj0 {n:Nat} {m i:Int} {z:List Int} (hg:SqS n m g) (hz:BCs n m z):SqS n m (sI g i z):=by
 refine ⟨by unfold sI;rw [List.length_set];exact hg.1,λy hy=>?_⟩;rcases List.mem_or_eq_of_mem_set hy with h | rfl
 ·exact hg.2 y h
 ·exact hz
theorem Axi {S:Type} (I:S->Prop) {body:Int × S->Option ((Int × S) ⊕ S)} {n i0:Nat} {s0:S} (hn:n<=1000) (Af:i0<=n) (h:∀ (i:Nat) s,i < n->I s->Ok (body ((i:Int),s)) λr=> ∃ s',r= .inl (((i + 1:Nat):Int),s')/\I s') (he:∀ s,I s->body ((n:Int),s)=some (.inr s)) (hI:I s0) (hf:1000 < fuel):Ok (iter body fuel ((i0:Int),s0)) I:=by
 refine Ah4 (λi s=> ∃ s',s=(((i0 + i:Nat):Int),s')/\i0 + i<=n/\I s') (n - i0) ⟨s0,rfl,AOq,hI⟩ AOq λi s hi hI=>?_;obtain ⟨s',rfl,h1,h2⟩:=hI;rcases Nat.lt_or_ge (i0 + i) n with h3 | h3
 ·refine A6d (h (i0 + i) s' h3 h2) λr hr=>?_;obtain ⟨s2,rfl,h4⟩:=hr;exact ⟨AOq,s2,rfl,AOq,h4⟩
 ·rw [show i0 + i=n by omega,he s' h2];exact AOt h2
theorem A28 {m:Int} (hm:0 < m) (Ac:m<=2147483647):Ah5 fuel a m=some (a % m):=by
 unfold Ah5;rw [if_pos AOq];have h1:=Int.emod_nonneg a (show m≠0 by omega);have h2:=Int.emod_lt_of_pos a hm;have h3:=Int.tmod_lt_of_pos a hm;have h5:=Int.tmod_lt_of_pos (-a) hm;rw [Int.neg_tmod] at h5;have h4:a.tmod m % m=a % m:=by rw [Int.tmod_def,Int.sub_emod,Int.mul_emod_right,Int.sub_zero,Int.emod_emod]
 by_cases h:Int.tmod a m < 0
 ·rw [if_pos h,wk AOq];have:(a.tmod m + m) % m=a.tmod m + m:=Int.emod_eq_of_lt AOq AOq;rw [Int.add_emod_right,h4] at this;rw [this]
 ·rw [if_neg h];have:a.tmod m % m=a.tmod m:=Int.emod_eq_of_lt AOq AOq;rw [h4] at this;rw [this]
theorem BSc (hx:1<=x) (Ah:x<=2147483647) (hp:2<=p) (hf:1000 < fuel):Ok (Aig fuel x p) λe=> ∃ E:Nat,e=E/\p ^ E<=x:=by
 unfold Aig
 have Ad:∀ i:Nat,31<=i->(2147483648:Int)<=p ^ i:=λi hi=>by
  have h1:=Arm (x:=2) (y:=p) AOq hp 31
  have h2:=Al1 (p:=p) AOq hi
  have:(2:Int) ^ 31=2147483648:=by decide
  omega
 have hle:∀ (i:Nat) (y:Int),p ^ i * y=x->1<=y->p ^ i<=x:=λi y h h1=>by
  have hpos:0 < p ^ i:=Int.pow_pos AOq
  have:p ^ i * 1<=p ^ i * y:=Int.mul_le_mul_of_nonneg_left h1 AOq
  omega
 refine AOy (Q:=λe:Int=> ∃ E:Nat,e=E/\p ^ E<=x) (Ah4 (body:=λs=>Alz fuel p s.1 s.2) (fuel:=fuel) (s0:=(x,0)) (λ(i:Nat) (s:Int × Int)=>p ^ i * s.1=x/\s.2=(i:Int)/\1<=s.1) 31 ⟨Ah6,rfl,hx⟩ AOq λi s hi hI=>?_) λe he=>⟨e,rfl,he⟩;obtain ⟨y,z⟩:=s;obtain ⟨h1,h2,h3⟩:=hI;dsimp only at h1 h2 h3;subst h2;have hpi:=hle i y h1 h3
 have Ai:i < 31:=by
  refine Nat.lt_of_not_le λhh=>?_
  have:=Ad i hh;omega
 have hyx:y<=x:=by
  have hpos:0 < p ^ i:=Int.pow_pos AOq
  have:1 * y<=p ^ i * y:=Int.mul_le_mul_of_nonneg_right AOq AOq
  omega
 unfold Alz;dsimp only;refine AOy (Q:=λex=>(ex= .inl ()/\y % p=0)∨ex= .inr ()) ?_ λex hex=>?_
 ·rw [if_pos AOq,if_pos AOq,Int.tmod_eq_emod_of_nonneg AOq];exact Ag9 (λh=>AOt<|.inl ⟨rfl,h⟩) λh=>AOt<|.inr rfl
 ·rcases hex with ⟨rfl,h4⟩ | rfl
  ·dsimp only;rw [if_pos AOq,Int.tdiv_eq_ediv_of_nonneg AOq];obtain ⟨q,hq⟩:=Int.dvd_of_emod_eq_zero h4;have e1:y / p=q:=by rw [hq];exact Int.mul_ediv_cancel_left _ AOq
   have Ag:1<=q:=by
    refine Classical.byContradiction λhh=>?_
    have:p * q<=0:=Int.mul_nonpos_of_nonneg_of_nonpos AOq AOq
    omega
   have hqy:q<=y:=by
    have:1 * q<=p * q:=Int.mul_le_mul_of_nonneg_right AOq AOq
    omega
   rw [e1,Ajz (x:=q) AOq AOq,Ah1 AOq];exact AOt ⟨AOq,by rw [Int.pow_succ,Int.mul_assoc,<- hq];exact h1,rfl,Ag⟩
  ·exact AOt ⟨i,rfl,hpi⟩
theorem BNv {m:Int} (hm:p ^ k=m) (hx:0<=x) (hxm:x < m) (Aa:m<=2147483647) (hp:2<=p) (hf:1000 < fuel):Ok (if x=0 then (some<|(k:Int)) else ((Aig fuel x p).bind λy=>(some y))) λe=> ∃ E:Nat,e=E/\E<=k:=by
 refine Ag9 (λh=>AOt ⟨k,rfl,Nat.le_refl _⟩) λh=>AOy (BSc AOq AOq hp hf) λe he=>AOt ?_;obtain ⟨E,rfl,hE⟩:=he;refine ⟨E,rfl,Nat.le_of_not_lt λhh=>?_⟩;have:=Al1 (p:=p) AOq<|Nat.le_of_lt hh;omega
theorem BSd {m:Int} (ha:0<=a) (Af:a<=2147483647) (hm:0 < m) (Ad:m<=2147483647) (hf:2147483648 < fuel):Ok (Akg fuel a m) λ_=>True:=by
 unfold Akg;refine AOy (Q:=λ_=>True) ?_ λx _=>Ag9 (λ_=>AOt trivial) λ_=>?_
 ·unfold Asd;refine AOy (Q:=λ_=>True) (A4s (λs:Int × Int=>0<=s.1/\0<=s.2) (λs=>s.2.toNat) (λs hI=>?_) ⟨ha,Int.le_of_lt hm⟩ (by show m.toNat < fuel;omega)) λe _=>AOt trivial;obtain ⟨y,z⟩:=s;obtain ⟨h1,h2⟩:=hI;unfold Atn;dsimp only at h1 h2 ⊢;refine Ag9 (λh=>Ah8 AOq<|AOt ?_) λh=>AOt trivial;rw [Int.tmod_eq_emod_of_nonneg h1];have g1:=Int.emod_nonneg y (show z≠0 by omega);have g2:=Int.emod_lt_of_pos y (show 0 < z by omega);exact ⟨⟨h2,g1⟩,by dsimp only;omega⟩
 ·refine AOy (Q:=λ_=>True) (A4s (λs:Int × Int × Int × Int=>(0<=s.1/\s.1<=2147483647)/\0<=s.2.1/\s.2.1<=2147483647) (λs=>s.2.1.toNat) (λs hI=>?_) ⟨⟨ha,Af⟩,Int.le_of_lt hm,Ad⟩ (by show m.toNat < fuel;omega)) λe _=>?_
  ·obtain ⟨y,z,u,v⟩:=s;obtain ⟨h1,h2,h3⟩:=hI;unfold Apb;dsimp only at h1 h2 h3 ⊢;refine Ag9 (λh=>Ah8 AOq<|AOt ?_) λh=>AOt trivial;have g1:=Int.emod_nonneg y (show z≠0 by omega);have g2:=Int.emod_lt_of_pos y (show 0 < z by omega);have g3:=Int.mul_ediv_add_emod y z;have g4:0<=y / z:=Int.ediv_nonneg h1.1 h2;have g5:y / z<=y:=Int.ediv_le_self _ h1.1;have g6:Int.tdiv y z=y / z:=Int.tdiv_eq_ediv_of_nonneg h1.1;have g7:y / z * z=z * (y / z):=Int.mul_comm _ _;rw [g6,Ajz (x:=y / z) AOq AOq,Ajz (x:=y / z * z) AOq AOq,Ajz (x:=y - y / z * z) AOq AOq,show y - y / z * z=y % z by omega];exact ⟨⟨⟨h2,h3⟩,g1,by dsimp only;omega⟩,by dsimp only;omega⟩
  ·rw [A28 hm Ad];exact AOt trivial
theorem BNw {n:Nat} {m:Int} (hX:SqS n m X) (hg:SqS n m g) (hm:0 < m) (Aa:m<=2147483647) (hn:n<=8) (hj:0<=j/\j < n) (hr:0<=r/\r < n) (hf:1000 < fuel):Ok (iter (λs=>Akw fuel m j r X s.1 s.2) fuel (0,g)) (SqS n m):=by
 refine Axi (i0:=0) (SqS n m) (n:=n) AOq AOq (λi s hi hs=>?_) (λs hs=>?_) hg hf
 ·unfold Akw;have hl:=hX.1;dsimp only;rw [if_pos AOq];refine Am8 hs ⟨AOq,AOq⟩ λz hz=>Ak2 hz hj λa _ _=>Ak2 hz hr λb _ _=>?_;refine Ah8 AOq ?_;rw [A28 hm Aa];exact AOt ⟨_,by rw [Ah1 AOq],Aj0 hs<|Ajv hz (Int.emod_nonneg _ AOq)<|Int.emod_lt_of_pos _ hm⟩
 ·unfold Akw;have hl:=hX.1;dsimp only;rw [if_neg AOq]
theorem BNx {n:Nat} {m:Int} (hX:SqS n m X) (hg:SqS n m g) (hm:0 < m) (Aa:m<=2147483647) (hn:n<=8) (hj:0<=j/\j < n) (hr:0<=r/\r < n) (hf:1000 < fuel):Ok (iter (λs=>Akv fuel m j r X s.1 s.2) fuel (0,g)) (SqS n m):=by
 refine Axi (i0:=0) (SqS n m) (n:=n) AOq AOq (λi s hi hs=>?_) (λs hs=>?_) hg hf
 ·unfold Akv;have hl:=hX.1;dsimp only;rw [if_pos AOq];refine Am8 hs hj λz hz=>Ak2 hz ⟨AOq,AOq⟩ λa _ _=>Am8 hs hr λz2 Ab=>Ak2 Ab ⟨AOq,AOq⟩ λb _ _=>?_;refine Ah8 AOq ?_;rw [A28 hm Aa];exact AOt ⟨_,by rw [Ah1 AOq],Aj0 hs<|Ajv hz (Int.emod_nonneg _ AOq)<|Int.emod_lt_of_pos _ hm⟩
 ·unfold Akv;have hl:=hX.1;dsimp only;rw [if_neg AOq]
theorem BNy {n:Nat} {m:Int} (hX:SqS n m X) (hg:SqS n m g) (hm:0 < m) (Aa:m<=2147483647) (hn:n<=8) (hj:0<=j/\j < n) (hr:0<=r/\r < n) (hf:1000 < fuel):Ok (iter (λs=>Aku fuel m j r X s.1 s.2) fuel (0,g)) (SqS n m):=by
 refine Axi (i0:=0) (SqS n m) (n:=n) AOq AOq (λi s hi hs=>?_) (λs hs=>?_) hg hf
 ·unfold Aku;have hl:=hX.1;dsimp only;rw [if_pos AOq];refine Am8 hs ⟨AOq,AOq⟩ λz hz=>Ak2 hz hj λa _ _=>Ak2 hz hr λb _ _=>?_;refine Ah8 AOq ?_;rw [A28 hm Aa];exact AOt ⟨_,by rw [Ah1 AOq],Aj0 hs<|Ajv hz (Int.emod_nonneg _ AOq)<|Int.emod_lt_of_pos _ hm⟩
 ·unfold Aku;have hl:=hX.1;dsimp only;rw [if_neg AOq]
theorem BNz {n:Nat} {m u:Int} (hX:SqS n m X) (hg:SqS n m g) (hm:0 < m) (Aa:m<=2147483647) (hn:n<=8) (hj:0<=j/\j < n) (hr:0<=r/\r < n) (hf:1000 < fuel):Ok (iter (λs=>Ak0 fuel m r q u j X x s.1 s.2) fuel (0,g)) (SqS n m):=by
 refine Axi (i0:=0) (SqS n m) (n:=n) AOq AOq (λi s hi hs=>?_) (λs hs=>?_) hg hf
 ·unfold Ak0;have hl:=hX.1;dsimp only;rw [if_pos AOq];refine Am8 hs ⟨AOq,AOq⟩ λz hz=>Ak2 hz hj λa _ _=>Ak2 hz hr λb _ _=>?_;refine Ah8 AOq ?_;rw [A28 hm Aa];exact AOt ⟨_,by rw [Ah1 AOq],Aj0 hs<|Ajv hz (Int.emod_nonneg _ AOq)<|Int.emod_lt_of_pos _ hm⟩
 ·unfold Ak0;have hl:=hX.1;dsimp only;rw [if_neg AOq]
theorem BN0 {n:Nat} {m u:Int} (hX:SqS n m X) (hg:SqS n m g) (hm:0 < m) (Aa:m<=2147483647) (hn:n<=8) (hj:0<=j/\j < n) (hr:0<=r/\r < n) (hf:1000 < fuel):Ok (iter (λs=>Akz fuel m r q u j x X s.1 s.2) fuel (0,g)) (SqS n m):=by
 refine Axi (i0:=0) (SqS n m) (n:=n) AOq AOq (λi s hi hs=>?_) (λs hs=>?_) hg hf
 ·unfold Akz;have hl:=hX.1;dsimp only;rw [if_pos AOq];refine Am8 hs hj λz hz=>Ak2 hz ⟨AOq,AOq⟩ λa _ _=>Am8 hs hr λz2 Ab=>Ak2 Ab ⟨AOq,AOq⟩ λb _ _=>?_;refine Ah8 AOq ?_;rw [A28 hm Aa];exact AOt ⟨_,by rw [Ah1 AOq],Aj0 hs<|Ajv hz (Int.emod_nonneg _ AOq)<|Int.emod_lt_of_pos _ hm⟩
 ·unfold Akz;have hl:=hX.1;dsimp only;rw [if_neg AOq]
theorem BN1 {n:Nat} {m u:Int} (hX:SqS n m X) (hg:SqS n m g) (hm:0 < m) (Aa:m<=2147483647) (hn:n<=8) (hj:0<=j/\j < n) (hr:0<=r/\r < n) (hf:1000 < fuel):Ok (iter (λs=>Aky fuel m r q u j X x s.1 s.2) fuel (0,g)) (SqS n m):=by
 refine Axi (i0:=0) (SqS n m) (n:=n) AOq AOq (λi s hi hs=>?_) (λs hs=>?_) hg hf
 ·unfold Aky;have hl:=hX.1;dsimp only;rw [if_pos AOq];refine Am8 hs ⟨AOq,AOq⟩ λz hz=>Ak2 hz hj λa _ _=>Ak2 hz hr λb _ _=>?_;refine Ah8 AOq ?_;rw [A28 hm Aa];exact AOt ⟨_,by rw [Ah1 AOq],Aj0 hs<|Ajv hz (Int.emod_nonneg _ AOq)<|Int.emod_lt_of_pos _ hm⟩
 ·unfold Aky;have hl:=hX.1;dsimp only;rw [if_neg AOq]
theorem BN2 {n:Nat} {m u:Int} (hX:SqS n m X) (hg:SqS n m g) (hm:0 < m) (Aa:m<=2147483647) (hn:n<=8) (hj:0<=j/\j < n) (hr:0<=r/\r < n) (hf:1000 < fuel):Ok (iter (λs=>Akp fuel m r q u j X f s.1 s.2) fuel (0,g)) (SqS n m):=by
 refine Axi (i0:=0) (SqS n m) (n:=n) AOq AOq (λi s hi hs=>?_) (λs hs=>?_) hg hf
 ·unfold Akp;have hl:=hX.1;dsimp only;rw [if_pos AOq];refine Am8 hs ⟨AOq,AOq⟩ λz hz=>Ak2 hz hj λa _ _=>Ak2 hz hr λb _ _=>?_;refine Ah8 AOq ?_;rw [A28 hm Aa];exact AOt ⟨_,by rw [Ah1 AOq],Aj0 hs<|Ajv hz (Int.emod_nonneg _ AOq)<|Int.emod_lt_of_pos _ hm⟩
 ·unfold Akp;have hl:=hX.1;dsimp only;rw [if_neg AOq]
theorem BN3 {n:Nat} {m u:Int} (hX:SqS n m X) (hg:SqS n m g) (hm:0 < m) (Aa:m<=2147483647) (hn:n<=8) (hj:0<=j/\j < n) (hr:0<=r/\r < n) (hf:1000 < fuel):Ok (iter (λs=>Ako fuel m r q u j f X s.1 s.2) fuel (0,g)) (SqS n m):=by
 refine Axi (i0:=0) (SqS n m) (n:=n) AOq AOq (λi s hi hs=>?_) (λs hs=>?_) hg hf
 ·unfold Ako;have hl:=hX.1;dsimp only;rw [if_pos AOq];refine Am8 hs hj λz hz=>Ak2 hz ⟨AOq,AOq⟩ λa _ _=>Am8 hs hr λz2 Ab=>Ak2 Ab ⟨AOq,AOq⟩ λb _ _=>?_;refine Ah8 AOq ?_;rw [A28 hm Aa];exact AOt ⟨_,by rw [Ah1 AOq],Aj0 hs<|Ajv hz (Int.emod_nonneg _ AOq)<|Int.emod_lt_of_pos _ hm⟩
 ·unfold Ako;have hl:=hX.1;dsimp only;rw [if_neg AOq]
theorem BN4 {n:Nat} {m u:Int} (hX:SqS n m X) (hg:SqS n m g) (hm:0 < m) (Aa:m<=2147483647) (hn:n<=8) (hj:0<=j/\j < n) (hr:0<=r/\r < n) (hf:1000 < fuel):Ok (iter (λs=>Akn fuel m r q u j X f s.1 s.2) fuel (0,g)) (SqS n m):=by
 refine Axi (i0:=0) (SqS n m) (n:=n) AOq AOq (λi s hi hs=>?_) (λs hs=>?_) hg hf
 ·unfold Akn;have hl:=hX.1;dsimp only;rw [if_pos AOq];refine Am8 hs ⟨AOq,AOq⟩ λz hz=>Ak2 hz hj λa _ _=>Ak2 hz hr λb _ _=>?_;refine Ah8 AOq ?_;rw [A28 hm Aa];exact AOt ⟨_,by rw [Ah1 AOq],Aj0 hs<|Ajv hz (Int.emod_nonneg _ AOq)<|Int.emod_lt_of_pos _ hm⟩
 ·unfold Akn;have hl:=hX.1;dsimp only;rw [if_neg AOq]
theorem BN5 {n:Nat} {m u:Int} (hX:SqS n m X) (hg:SqS n m g) (hm:0 < m) (Aa:m<=2147483647) (hn:n<=8) (hj:0<=j/\j < n) (hr:0<=w64 (r + 1)/\w64 (r + 1) < n) (hf:1000 < fuel):Ok (iter (λs=>Aks fuel m r q u j f X s.1 s.2) fuel (0,g)) (SqS n m):=by
 refine Axi (i0:=0) (SqS n m) (n:=n) AOq AOq (λi s hi hs=>?_) (λs hs=>?_) hg hf
 ·unfold Aks;have hl:=hX.1;dsimp only;rw [if_pos AOq];refine Am8 hs ⟨AOq,AOq⟩ λz hz=>Ak2 hz hj λa _ _=>Ak2 hz hr λb _ _=>?_;refine Ah8 AOq ?_;rw [A28 hm Aa];exact AOt ⟨_,by rw [Ah1 AOq],Aj0 hs<|Ajv hz (Int.emod_nonneg _ AOq)<|Int.emod_lt_of_pos _ hm⟩
 ·unfold Aks;have hl:=hX.1;dsimp only;rw [if_neg AOq]
theorem BN6 {n:Nat} {m u:Int} (hX:SqS n m X) (hg:SqS n m g) (hm:0 < m) (Aa:m<=2147483647) (hn:n<=8) (hj:0<=j/\j < n) (hr:0<=w64 (r + 1)/\w64 (r + 1) < n) (hf:1000 < fuel):Ok (iter (λs=>Akr fuel m r q u j f X s.1 s.2) fuel (0,g)) (SqS n m):=by
 refine Axi (i0:=0) (SqS n m) (n:=n) AOq AOq (λi s hi hs=>?_) (λs hs=>?_) hg hf
 ·unfold Akr;have hl:=hX.1;dsimp only;rw [if_pos AOq];refine Am8 hs hj λz hz=>Ak2 hz ⟨AOq,AOq⟩ λa _ _=>Am8 hs hr λz2 Ab=>Ak2 Ab ⟨AOq,AOq⟩ λb _ _=>?_;refine Ah8 AOq ?_;rw [A28 hm Aa];exact AOt ⟨_,by rw [Ah1 AOq],Aj0 hs<|Ajv hz (Int.emod_nonneg _ AOq)<|Int.emod_lt_of_pos _ hm⟩
 ·unfold Akr;have hl:=hX.1;dsimp only;rw [if_neg AOq]
theorem BN7 {n:Nat} {m u:Int} (hX:SqS n m X) (hg:SqS n m g) (hm:0 < m) (Aa:m<=2147483647) (hn:n<=8) (hj:0<=j/\j < n) (hr:0<=w64 (r + 1)/\w64 (r + 1) < n) (hf:1000 < fuel):Ok (iter (λs=>Akq fuel m r q u j f X s.1 s.2) fuel (0,g)) (SqS n m):=by
 refine Axi (i0:=0) (SqS n m) (n:=n) AOq AOq (λi s hi hs=>?_) (λs hs=>?_) hg hf
 ·unfold Akq;have hl:=hX.1;dsimp only;rw [if_pos AOq];refine Am8 hs ⟨AOq,AOq⟩ λz hz=>Ak2 hz hj λa _ _=>Ak2 hz hr λb _ _=>?_;refine Ah8 AOq ?_;rw [A28 hm Aa];exact AOt ⟨_,by rw [Ah1 AOq],Aj0 hs<|Ajv hz (Int.emod_nonneg _ AOq)<|Int.emod_lt_of_pos _ hm⟩
 ·unfold Akq;have hl:=hX.1;dsimp only;rw [if_neg AOq]
def SqP (n:Nat) (m:Int) (s:List (List Int) × List (List Int)):Prop:=SqS n m s.1/\SqS n m s.2
theorem BN8 {n:Nat} {m:Int} (hX:SqS n m X) (hg:SqS n m g) (ht:SqS n m t) (hn:n<=8) (hj:0<=j/\j < n) (hr:0<=r/\r < n) (hf:1000 < fuel):Ok (iter (λs=>Akx fuel j r X s.1 s.2.1 s.2.2) fuel (0,g,t)) (SqP n m):=by
 refine Axi (i0:=0) (SqP n m) (n:=n) AOq AOq (λi s hi hs=>?_) (λs hs=>?_) ⟨hg,ht⟩ hf
 ·obtain ⟨a,b⟩:=s;obtain ⟨h1,h2⟩:=hs;unfold Akx;have hl:=hX.1;dsimp only at h1 h2 ⊢;rw [if_pos AOq];have Ac:0<=(i:Int)/\(i:Int) < n:=⟨AOq,AOq⟩;refine Am8 h1 Ac λz hz=>Ak2 hz hj λx x0 x1=>Ak2 hz hr λy y0 y1=>Am8 (Aj0 h1<|Ajv hz x0 x1) Ac λz2 Af=>Ak2 Af hj λ_ _ _=>Am8 h2 Ac λw hw=>Ak2 hw hj λu u0 u1=>Ak2 hw hr λv v0 v1=>Am8 (Aj0 h2<|Ajv hw u0 u1) Ac λw2 Ai=>Ak2 Ai hj λ_ _ _=>?_;exact AOt ⟨_,by rw [Ah1 AOq],Aj0 (Aj0 h1<|Ajv hz x0 x1)<|Ajv Af y0 y1,Aj0 (Aj0 h2<|Ajv hw u0 u1)<|Ajv Ai v0 v1⟩
 ·unfold Akx;have hl:=hX.1;dsimp only;rw [if_neg AOq]
theorem BN9 {n:Nat} {m:Int} (hX:SqS n m X) (hg:SqS n m g) (ht:SqS n m t) (hn:n<=8) (hj:0<=j/\j < n) (hr:0<=r/\r < n) (hf:1000 < fuel):Ok (iter (λs=>Akl fuel r X j s.1 s.2.1 s.2.2) fuel (0,g,t)) (SqP n m):=by
 refine Axi (i0:=0) (SqP n m) (n:=n) AOq AOq (λi s hi hs=>?_) (λs hs=>?_) ⟨hg,ht⟩ hf
 ·obtain ⟨a,b⟩:=s;obtain ⟨h1,h2⟩:=hs;unfold Akl;have hl:=hX.1;dsimp only at h1 h2 ⊢;rw [if_pos AOq];have Ac:0<=(i:Int)/\(i:Int) < n:=⟨AOq,AOq⟩;refine Am8 h1 Ac λz hz=>Ak2 hz hj λx x0 x1=>Ak2 hz hr λy y0 y1=>Am8 (Aj0 h1<|Ajv hz x0 x1) Ac λz2 Af=>Ak2 Af hj λ_ _ _=>Am8 h2 Ac λw hw=>Ak2 hw hj λu u0 u1=>Ak2 hw hr λv v0 v1=>Am8 (Aj0 h2<|Ajv hw u0 u1) Ac λw2 Ai=>Ak2 Ai hj λ_ _ _=>?_;exact AOt ⟨_,by rw [Ah1 AOq],Aj0 (Aj0 h1<|Ajv hz x0 x1)<|Ajv Af y0 y1,Aj0 (Aj0 h2<|Ajv hw u0 u1)<|Ajv Ai v0 v1⟩
 ·unfold Akl;have hl:=hX.1;dsimp only;rw [if_neg AOq]
theorem BOa {n:Nat} {m:Int} (hX:SqS n m X) (hg:SqS n m g) (ht:SqS n m t) (hn:n<=8) (hj:0<=j/\j < n) (hr:0<=w64 (r + 1)/\w64 (r + 1) < n) (hf:1000 < fuel):Ok (iter (λs=>Akm fuel r j X s.1 s.2.1 s.2.2) fuel (0,g,t)) (SqP n m):=by
 refine Axi (i0:=0) (SqP n m) (n:=n) AOq AOq (λi s hi hs=>?_) (λs hs=>?_) ⟨hg,ht⟩ hf
 ·obtain ⟨a,b⟩:=s;obtain ⟨h1,h2⟩:=hs;unfold Akm;have hl:=hX.1;dsimp only at h1 h2 ⊢;rw [if_pos AOq];have Ac:0<=(i:Int)/\(i:Int) < n:=⟨AOq,AOq⟩;refine Am8 h1 Ac λz hz=>Ak2 hz hj λx x0 x1=>Ak2 hz hr λy y0 y1=>Am8 (Aj0 h1<|Ajv hz x0 x1) Ac λz2 Af=>Ak2 Af hj λ_ _ _=>Am8 h2 Ac λw hw=>Ak2 hw hj λu u0 u1=>Ak2 hw hr λv v0 v1=>Am8 (Aj0 h2<|Ajv hw u0 u1) Ac λw2 Ai=>Ak2 Ai hj λ_ _ _=>?_;exact AOt ⟨_,by rw [Ah1 AOq],Aj0 (Aj0 h1<|Ajv hz x0 x1)<|Ajv Af y0 y1,Aj0 (Aj0 h2<|Ajv hw u0 u1)<|Ajv Ai v0 v1⟩
 ·unfold Akm;have hl:=hX.1;dsimp only;rw [if_neg AOq]
theorem BOb {n:Nat} {m u:Int} {r:Nat} (hg:SqS n m g) (ht:SqS n m t) (hm:0 < m) (Ae:m<=2147483647) (hn:n<=8) (hr:r < n) (hq:q≠0) (hmq:w64 (Int.tdiv m q)≠0) (hf:1000 < fuel):Ok (iter (λs=>Ak1 fuel m (r:Int) q u s.1 s.2.1 s.2.2) fuel (((r + 1:Nat):Int),g,t)) (SqP n m):=by
 refine Axi (i0:=r + 1) (SqP n m) (n:=n) AOq AOq (λi s hi hs=>?_) (λs hs=>?_) ⟨hg,ht⟩ hf
 ·obtain ⟨a,b⟩:=s;obtain ⟨h1,h2⟩:=hs;unfold Ak1;dsimp only at h1 h2 ⊢;have hl:=h1.1;rw [if_pos AOq];have Ac:0<=(i:Int)/\(i:Int) < n:=⟨AOq,AOq⟩;have Ad:0<=(r:Int)/\(r:Int) < n:=⟨AOq,AOq⟩;refine Am8 h1 Ad λz hz=>Ak2 hz Ac λx x0 x1=>Ah8 hq<|Ah8 hq<|Ah8 hmq<|AOy (Q:=SqP n m) ?_ λe he=>AOt ⟨_,by rw [Ah1 AOq],he⟩;exact AOy (BNz h1 h1 hm Ae hn Ac Ad hf) λe1 Af=>AOy (BN0 Af Af hm Ae hn Ac Ad hf) λe2 Ag=>AOy (BN1 h2 h2 hm Ae hn Ac Ad hf) λe3 Ah=>AOt ⟨Ag,Ah⟩
 ·obtain ⟨a,b⟩:=s;obtain ⟨h1,h2⟩:=hs;unfold Ak1;dsimp only at h1 h2 ⊢;have hl:=h1.1;rw [if_neg AOq]
theorem BOc {n:Nat} {m b c u:Int} {r:Nat} (hg:SqS n m g) (ht:SqS n m t) (hm:0 < m) (Ac:m<=2147483647) (hn:n<=8) (hr:r + 1 < n) (hq:q≠0) (hmq:0 < w64 (Int.tdiv m q)) (Am:w64 (Int.tdiv m q)<=2147483647) (hf:1000 < fuel):Ok (iter (λs=>Akt fuel m (r:Int) b q a c u s.1 s.2.1 s.2.2) fuel (((r + 2:Nat):Int),g,t)) (SqP n m):=by
 have hw:w64 ((r:Int) + 1)=((r + 1:Nat):Int):=Ah1 AOq;refine Axi (i0:=r + 2) (SqP n m) (n:=n) AOq AOq (λi s hi hs=>?_) (λs hs=>?_) ⟨hg,ht⟩ hf
 ·obtain ⟨s1,s2⟩:=s;obtain ⟨h1,h2⟩:=hs;unfold Akt;dsimp only at h1 h2 ⊢;have hl:=h1.1;rw [if_pos AOq];have Ab:0<=(i:Int)/\(i:Int) < n:=⟨AOq,AOq⟩;have Af:0<=(r:Int)/\(r:Int) < n:=⟨AOq,AOq⟩;have Ag:0<=w64 ((r:Int) + 1)/\w64 ((r:Int) + 1) < n:=by rw [hw];omega
  have hne:w64 (Int.tdiv m q)≠0:=by omega
  refine Am8 h1 Af λz hz=>Ak2 hz Ab λx x0 x1=>Ah8 hq<|Am8 h1 Ag λz2 Ao=>Ak2 Ao Ab λy y0 y1=>Ah8 hq<|Ah8 hne<|Ah8 hne ?_;rw [A28 hmq Am];simp only [Option.bind_some];refine Ah8 hne<|Ah8 hne<|Ah8 hne ?_;rw [A28 hmq Am];simp only [Option.bind_some];refine Ah8 hne<|AOy (Q:=SqP n m) (AOy (BN2 h1 h1 hm Ac hn Ab Af hf) λe1 Ae=>AOy (BN3 Ae Ae hm Ac hn Ab Af hf) λe2 Ah=>AOy (BN4 h2 h2 hm Ac hn Ab Af hf) λe3 Ai=>AOt ⟨Ah,Ai⟩) λe he=>?_;obtain ⟨g1,t1⟩:=e;obtain ⟨q1,q2⟩:=he;dsimp only at q1 q2 ⊢;refine AOy (Q:=SqP n m) (AOy (BN5 q1 q1 hm Ac hn Ab Ag hf) λe1 Ae=>AOy (BN6 Ae Ae hm Ac hn Ab Ag hf) λe2 Ah=>AOy (BN7 q2 q2 hm Ac hn Ab Ag hf) λe3 Ai=>AOt ⟨Ah,Ai⟩) λe he=>AOt ⟨_,by rw [Ah1 AOq],he⟩
 ·obtain ⟨s1,s2⟩:=s;obtain ⟨h1,h2⟩:=hs;unfold Akt;dsimp only at h1 h2 ⊢;have hl:=h1.1;rw [if_neg AOq]
def IxP (r n:Nat) (s:Int × Int):Prop:=(r:Int)<=s.1/\s.1<=s.2/\s.2 < n
theorem BFz {n r:Nat} {m i b:Int} (hm:p ^ k=m) (hg:SqS n m g) (Ab:m<=2147483647) (hp:2<=p) (hij:(r:Int)<=i/\i<=j/\j < n) (ha:IxP r n (a,b)) (hf:1000 < fuel):Ok (((gI g i).bind λz=>((gI z j).bind λx=>(((if x=0 then (some<| (k:Int)) else ((Aig fuel x p).bind λy=>(some<| y))):Option (Int)).bind λe1=>((gI g a).bind λz2=>((gI z2 b).bind λx2=>(((if x2=0 then (some<| (k:Int)) else ((Aig fuel x2 p).bind λy=>(some<| y))):Option (Int)).bind λe2=>(if e1 < e2 then (some<| (i,j)) else (some<| (a,b))))))))):Option (Int × Int)) (IxP r n):=by
 have Ak:(r:Int)<=a/\a<=b/\b < n:=ha;refine Am8 hg (i:=i) ⟨AOq,AOq⟩ λz hz=>Ak2 hz (i:=j) ⟨AOq,AOq⟩ λx x0 x1=>AOy (BNv hm x0 x1 Ab hp hf) λe1 _=>Am8 hg (i:=a) ⟨AOq,AOq⟩ λz2 Ah=>Ak2 Ah (i:=b) ⟨AOq,AOq⟩ λx2 y0 y1=>AOy (BNv hm y0 y1 Ab hp hf) λe2 _=>Ag9 (λ_=>AOt hij) λ_=>AOt ha
theorem BQz {n r:Nat} {m:Int} (hm:p ^ k=m) (hg:SqS n m g) (Ac:m<=2147483647) (hp:2<=p) (hn:n<=8) (hr:r < n) (hf:1000 < fuel):Ok (iter (λs=>Anf fuel p (k:Int) g s.1 s.2.1 s.2.2) fuel ((r:Int),(r:Int),(r:Int))) (IxP r n):=by
 refine Ah4 (λi s=>IxP r n (s.1,s.2.1)/\s.2.2=((r + i:Nat):Int)/\r + i<=n) n ⟨⟨by dsimp only;omega,by dsimp only;omega,by dsimp only;omega⟩,rfl,AOq⟩ AOq λi s hi hI=>?_;obtain ⟨a,b,c⟩:=s;obtain ⟨h1,h2,h3⟩:=hI;dsimp only at h1 h2;subst h2;have hl:=hg.1;unfold Anf;dsimp only;refine Ag9 (λh=>?_) λh=>AOt h1;have Ae:0<=((r + i:Nat):Int)/\((r + i:Nat):Int) < n:=⟨AOq,AOq⟩;exact AOy (BFz hm hg Ac hp ⟨AOq,AOq,AOq⟩ h1 hf) λe he=>AOt ⟨AOq,he,by rw [Ah1 AOq];rfl,AOq⟩
theorem BQ0 {n r:Nat} {m b:Int} (hm:p ^ k=m) (hg:SqS n m g) (Ae:m<=2147483647) (hp:2<=p) (hn:n<=8) (hr:r < n) (hab:IxP r n (a,b)) (hf:1000 < fuel):Ok (iter (λs=>Ane fuel p (k:Int) g s.1 s.2.1 s.2.2) fuel (a,b,(r:Int))) (IxP r n):=by
 refine Ah4 (λi s=>IxP r n (s.1,s.2.1)/\s.2.2=((r + i:Nat):Int)/\r + i<=n) n ⟨hab,rfl,AOq⟩ AOq λi s hi hI=>?_;obtain ⟨a,b,c⟩:=s;obtain ⟨h1,h2,h3⟩:=hI;dsimp only at h1 h2;subst h2;have hl:=hg.1;unfold Ane;dsimp only;refine Ag9 (λh=>?_) λh=>AOt h1;have Ag:0<=((r + i:Nat):Int)/\((r + i:Nat):Int) < n:=⟨AOq,AOq⟩;refine AOy (Q:=IxP r n) ?_ λe he=>AOt ⟨AOq,he,by rw [Ah1 AOq];rfl,AOq⟩;rw [Ah1 AOq];refine Ah4 (λj s=>IxP r n (s.1,s.2.1)/\s.2.2=((r + i + 1 + j:Nat):Int)/\r + i + 1 + j<=n) n ⟨h1,rfl,AOq⟩ AOq λj s hj hJ=>?_;obtain ⟨a,b,c⟩:=s;obtain ⟨g1,g2,g3⟩:=hJ;dsimp only at g1 g2;subst g2;unfold Apq;dsimp only;refine Ag9 (λh=>?_) λh=>AOt g1;exact AOy (BFz hm hg Ae hp ⟨AOq,AOq,AOq⟩ g1 hf) λe he=>AOt ⟨AOq,he,by rw [Ah1 AOq];rfl,AOq⟩
theorem Awy {m:Int} {E:Nat} (hm:p ^ k=m) (hp:2<=p) (hE:E<=k) (Ab:m<=2147483647):w64 (Int.tdiv m<|p ^ E)=p ^ (k - E)/\1<=p ^ (k - E)/\p ^ (k - E)<=m/\1<=p ^ E/\p ^ E<=m:=by
 have h1:0 < p ^ E:=Int.pow_pos AOq;have h2:0 < p ^ (k - E):=Int.pow_pos AOq;have h3:=Al1 (p:=p) AOq hE;have h4:=Al1 (p:=p) AOq (show k - E<=k by omega);have h5:m=p ^ E * p ^ (k - E):=by rw [<- Int.pow_add,show E + (k - E)=k by omega,hm]
 refine ⟨?_,AOq,AOq,AOq,AOq⟩;rw [h5,Int.mul_tdiv_cancel_left _ AOq,wk AOq]
theorem BQ1 {n r:Nat} {m:Int} {M:List (List Int)} {L:List Ak8} (hM:M.length=n) (hm:p ^ k=m) (hg:SqS n m g) (ht:SqS n m t) (Ac:m<=2147483647) (hp:2<=p) (hn:n<=8) (hr:r<=n) (hL:L.length<=r) (hf:2147483648 < fuel):Ok (Ang fuel M p (k:Int) m (r:Int) g t L) λe=>(∃ (r':Nat) (g' t':List (List Int)) (L':List Ak8),r < r'/\r'<=n/\e= .inl ((r':Int),g',t',L')/\SqS n m g'/\SqS n m t'/\L'.length<=r')∨(r=n/\e= .inr (g,t,L)):=by
 have Aj:0 < m:=by rw [<- hm];exact Int.pow_pos AOq
 unfold Ang;refine Ag9 (λh=>?_) λh=>AOt<|.inr ⟨AOq,rfl⟩;have hrn:r < n:=by omega
 have Ad:0<=(r:Int)/\(r:Int) < n:=⟨AOq,AOq⟩;have Ab:1000 < fuel:=by omega
 refine AOy (Q:=IxP r n) (AOy (BQz hm hg Ac AOq hn hrn Ab) λe he=>AOy (BQ0 hm hg Ac AOq hn hrn he Ab) λe2 A6=>AOt A6) λe he=>?_;obtain ⟨i,j⟩:=e;obtain ⟨A7,A8,A9⟩:=he;dsimp only at A7 A8 A9 ⊢;have hi:0<=i/\i < n:=⟨AOq,AOq⟩;have hj:0<=j/\j < n:=⟨AOq,AOq⟩;refine AOy (Q:=λex=>ex= .inr ((r:Int),g,t,L)∨ ∃ g' t' L',r + 2<=n/\ex= .inl (((r + 2:Nat):Int),g',t',L')/\SqS n m g'/\SqS n m t'/\L'.length<=r + 1) (Ag9 (λhne=>Ag9 (λ_=>?_) λ_=>AOt<|.inl rfl) λ_=>AOt<|.inl rfl) λex hex=>?_
 ·have Ba:r + 1 < n:=by omega
  have hw:w64 ((r:Int) + 1)=((r + 1:Nat):Int):=Ah1 AOq;have A4:w64 ((r:Int) + 2)=((r + 2:Nat):Int):=by rw [wk AOq];rfl
  have Ak:0<=w64 ((r:Int) + 1)/\w64 ((r:Int) + 1) < n:=by rw [hw];omega
  refine AOy (Q:=SqP n m) (AOy (BN9 hg hg ht hn hi Ad Ab) λe2 h2=>Am8 h2.1 hi λz hz=>Am8 h2.1 Ad λw hw=>AOt ⟨Aj0 (Aj0 h2.1 hz) hw,h2.2⟩) λe1 h1=>?_;obtain ⟨g1,t1⟩:=e1;obtain ⟨Ag,Am⟩:=h1;dsimp only at Ag Am ⊢;refine AOy (Q:=SqP n m) (AOy (BOa Ag Ag Am hn hj Ak Ab) λe2 h2=>Am8 h2.1 hj λz hz=>Am8 h2.1 Ak λw hw=>AOt ⟨Aj0 (Aj0 h2.1 hz) hw,h2.2⟩) λe2 h2=>?_;obtain ⟨g2,t2⟩:=e2;obtain ⟨Af,Ao⟩:=h2;dsimp only at Af Ao ⊢;refine AOy (Q:=λe=>SqS n m e.2.2.2.2.2.1/\SqS n m e.2.2.2.2.2.2) ?_ λe3 h3=>?_
  ·refine Am8 Af Ad λz hz=>Ak2 hz Ak λx x0 x1=>AOy (BNv hm x0 x1 Ac AOq Ab) λe he=>?_;obtain ⟨E,rfl,hE⟩:=he;obtain ⟨s1,s2,s3,s4,s5⟩:=Awy hm AOq hE Ac;rw [A5m AOq AOq AOq];simp only [Option.bind_some];refine Ah8 AOq<|Ak2 hz Ad λx2 y0 y1=>Ah8 AOq<|Ah8 AOq<|Am8 Af Ak λz2 Bl=>Ak2 Bl Ak λx3 w0 w1=>Ah8 AOq<|Ah8 (by rw [s1];omega)<|Ah8 (by rw [s1];omega) ?_;rw [s1,A28 AOq AOq];simp only [Option.bind_some];refine AOy (BSd (Int.emod_nonneg _ AOq) (by have:=Int.emod_lt_of_pos (w64<|Int.tmod (w64<|w64 (Int.tdiv x2<|p ^ E) * w64 (Int.tdiv x3<|p ^ E)) (p ^ (k - E)) - Int.tmod (w64<|w64 (Int.tdiv x<|p ^ E) * w64 (Int.tdiv x<|p ^ E)) (p ^ (k - E))) (show 0 < p ^ (k - E) by omega);omega) AOq AOq hf) λu _=>?_;obtain ⟨u,ub⟩:=u;dsimp only;rw [A4];refine AOy (BOc Af Ao Aj Ac hn Ba AOq (by rw [s1];omega) (by rw [s1];omega) Ab) λe4 h4=>AOt h4
  ·obtain ⟨b1,b2,b3,b4,b5,g4,t4⟩:=e3;obtain ⟨Aq,Ar⟩:=h3;dsimp only at Aq Ar ⊢;rw [if_pos AOq,A4];exact AOt<|.inr ⟨g4,t4,_,AOq,rfl,Aq,Ar,by rw [List.length_append];show L.length + 1<=r + 1;omega⟩
 rcases hex with rfl | ⟨g',t',L',q1,rfl,q2,q3,q4⟩;rotate_left
 ·exact AOt<|.inl ⟨r + 2,g',t',L',AOq,q1,rfl,q2,q3,AOq⟩
 dsimp only;refine AOy (Q:=SqP n m) (Ag9 (λ_=>AOy (Q:=SqP n m) (AOy (BNw hg hg Aj Ac hn hi hj Ab) λe1 h1=>AOy (BNx h1 h1 Aj Ac hn hi hj Ab) λe2 h2=>AOy (BNy ht ht Aj Ac hn hi hj Ab) λe3 h3=>AOt ⟨h2,h3⟩) λe h=>AOt h) λ_=>AOt ⟨hg,ht⟩) λe1 h1=>?_;obtain ⟨g1,t1⟩:=e1;obtain ⟨Ag,Am⟩:=h1;dsimp only at Ag Am ⊢;refine AOy (Q:=SqP n m) (AOy (BN8 Ag Ag Am hn hi Ad Ab) λe2 h2=>Am8 h2.1 hi λz hz=>Am8 h2.1 Ad λw hw=>AOt ⟨Aj0 (Aj0 h2.1 hz) hw,h2.2⟩) λe2 h2=>?_;obtain ⟨g2,t2⟩:=e2;obtain ⟨Af,Ao⟩:=h2;dsimp only at Af Ao ⊢;refine AOy (Q:=λe=>SqS n m e.2.2.2.2.2.1/\SqS n m e.2.2.2.2.2.2) ?_ λe3 h3=>?_
 ·refine Am8 Af Ad λz hz=>Ak2 hz Ad λx x0 x1=>AOy (BNv hm x0 x1 Ac AOq Ab) λe he=>?_;obtain ⟨E,rfl,hE⟩:=he;obtain ⟨s1,s2,s3,s4,s5⟩:=Awy hm AOq hE Ac;rw [A5m AOq AOq AOq];simp only [Option.bind_some];rw [if_pos AOq,if_pos AOq,s1]
  have hxq:0<=Int.tdiv x (p ^ E)/\Int.tdiv x (p ^ E)<=x:=by
   rw [Int.tdiv_eq_ediv_of_nonneg x0]
   exact ⟨Int.ediv_nonneg x0 AOq,Int.ediv_le_self _ x0⟩
  rw [Ajz (x:=Int.tdiv x<|p ^ E) AOq AOq];refine AOy (BSd hxq.1 AOq AOq AOq hf) λu _=>?_;obtain ⟨u,ub⟩:=u;dsimp only;have hw:w64 ((r:Int) + 1)=((r + 1:Nat):Int):=Ah1 AOq;rw [hw];refine AOy (BOb Af Ao Aj Ac hn hrn AOq (by rw [s1];omega) Ab) λe4 h4=>?_;obtain ⟨g3,t3⟩:=e4;obtain ⟨A3,A5⟩:=h4;dsimp only at A3 A5 ⊢;refine Am8 A3 Ad λz hz=>Ak2 hz Ad λx x0 x1=>?_;rw [if_pos AOq];exact AOt ⟨A3,A5⟩
 ·obtain ⟨b1,b2,b3,b4,b5,g4,t4⟩:=e3;obtain ⟨Aq,Ar⟩:=h3;dsimp only at Aq Ar ⊢;rw [if_pos AOq,Ah1 AOq];exact AOt<|.inl ⟨r + 1,g4,t4,_,AOq,AOq,rfl,Aq,Ar,by rw [List.length_append];show L.length + 1<=r + 1;omega⟩
theorem BQ2 {M:List (List Int)} (R:A5i M) (hp:Pr p) (hp2:p<=9973) (hf:2147483648 < fuel):Ok (Ak7 fuel M p) λr=>r.1=p/\(∃ m,m<=2147483647/\SqS M.length m r.2.1)/\r.2.2.length<=M.length:=by
 have hp3:=hp.1;obtain ⟨v,hv,hv2,-,hd⟩:=A5k R hp hp2 (show 100 < fuel by omega);obtain ⟨k,hk,hk2,hk1⟩:=BCr R AOq hp2 hv;rw [hk] at hd;have h8:=R.1.2;have hf2:100 < fuel:=by omega
 unfold Ak7;rw [hd];simp only [Option.bind_some];rw [A5m AOq hk2 hf2];simp only [Option.bind_some]
 have hpk:p<=p ^ k:=by
  have:=Al1 (p:=p) AOq (show 1<=k by omega);rwa [Int.pow_succ,Int.pow_zero,Int.one_mul] at this
 have hred:Ajh fuel M (p ^ k)=some (tab M.length M.length λi j=>ent M i j % p ^ k):=by
  conv=>lhs;rw [A4v R]
  exact BD7 h8 AOq hk2 hf2
 rw [hred];simp only [Option.bind_some]
 have hg:SqS M.length (p ^ k) (tab M.length M.length λi j=>ent M i j % p ^ k):=by
  refine ⟨Ahv ..,λz hz=>?_⟩;rw [Awn] at hz;obtain ⟨i,_,rfl⟩:=List.mem_map.1 hz;refine ⟨Ah0 ..,λx hx=>?_⟩;obtain ⟨j,_,rfl⟩:=List.mem_map.1 hx;exact ⟨Int.emod_nonneg _ AOq,Int.emod_lt_of_pos _ AOq⟩
 refine AOy (Q:=SqS M.length<|p ^ k) (Ah4 (λi s=>s.1=(i:Int)/\i<=M.length/\s.2.length=i/\ ∀ z∈s.2,BCs M.length (p ^ k) z) M.length ?_ AOq λi s hi hI=>?_) λe he=>?_
 ·exact ⟨rfl,Nat.zero_le _,rfl,λz hz=>by cases hz⟩
 ·obtain ⟨a,s⟩:=s;obtain ⟨h1,h2,h3,h4⟩:=hI;dsimp only at h1 h3 h4;subst h1;unfold Apr;dsimp only;refine Ag9 (λh=>?_) λh=>AOt ⟨AOq,h4⟩;rw [if_pos AOq];have e3:List.replicate (Int.toNat (M.length:Int)) (0:Int)=Aju M.length λ_=>0:=Ama M.length 0;rw [e3]
  have hz:BCs M.length (p ^ k) (Aju M.length λ_=>0):=⟨Ah0 ..,λx hx=>by
   obtain ⟨j,_,rfl⟩:=List.mem_map.1 hx;omega⟩
  refine Ak2 hz ⟨AOq,AOq⟩ λ_ _ _=>?_;rw [if_pos AOq];refine AOt ⟨AOq,by rw [Ah1 AOq],AOq,by rw [List.length_append,h3];rfl,λw hw=>?_⟩;rw [List.mem_append,List.mem_singleton] at hw
  rcases hw with hw | rfl
  ·exact h4 w hw
  ·exact Ajv hz AOq AOq
 refine AOy (Q:=λe=>SqS M.length (p ^ k) e.2.1/\e.2.2.length<=M.length) ?_ λe3 h3=>?_
 ·refine A4s (λs=> ∃ (i:Nat) (g t:List (List Int)) (L:List Ak8),s=((i:Int),g,t,L)/\i<=M.length/\SqS M.length (p ^ k) g/\SqS M.length (p ^ k) t/\L.length<=i) (λs=>M.length - s.1.toNat) (λs hI=>?_) ⟨0,_,_,_,rfl,AOq,hg,he,Nat.le_refl _⟩ (by show M.length - 0 < fuel;omega);obtain ⟨i,g,t,L,rfl,h1,h2,h3,h4⟩:=hI;refine A6d (BQ1 rfl rfl h2 h3 hk2 AOq h8 h1 h4 hf) λe he=>?_
  rcases he with ⟨r',g',t',L',h5,h6,rfl,h7,h9,h10⟩ | ⟨h5,rfl⟩
  ·exact ⟨⟨r',g',t',L',rfl,h6,h7,h9,h10⟩,by dsimp only;omega⟩
  ·exact ⟨h3,by dsimp only;omega⟩
 ·obtain ⟨g,t,L⟩:=e3;exact AOt ⟨rfl,⟨p ^ k,hk2,h3.1⟩,h3.2⟩
end Go.Proofs.YtkakafabeobahaaGreatDoor
