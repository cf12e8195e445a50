/-
  Texts of a proof, joined. Conditions stand in each statement.
-/
import Derived.Lib.SmallJoins
import Derived.Test.YtkakafabeobahaaGreatDoorMDyadicVerifies3
set_option linter.unusedVariables false
set_option linter.unusedSimpArgs false
open Go
variable {a3:Go.Proofs.YtkakafabeobahaaGreatDoor.LiI} {h:Go.QF.AO2} {F A G:Go.QF.Ahe} {x y a last K p a1 a5 a2 d B Dm Ac most:Int} {M:List (List Int)} {fuel r i j k l s t D N q0:Nat} {f g:Nat->Int} {Aq Ah v Ad:Value}
namespace Go.Proofs.YtkakafabeobahaaGreatDoor
open Go Go.QF
set_option maxRecDepth 100000
set_option maxHeartbeats 40000000
def Asu (fuel:Nat) (a3:LiI) (Ac:LiA) (Aa:Int):Option (Int ⊕ ((Int × Int × Bool) ⊕ Unit)):=
 if Aa < (a3.length:Int) then (gI a3 Aa).bind λAd=>if ¬ (Ad.length:Int)=(Ac.length:Int) then some (.inr<|.inl (0,0,false)) else some (.inl<|w64<|Aa + 1) else some<|.inr<|.inr ()
def Ao7 (fuel:Nat) (a3:LiI):Option (Int × Int × Bool):=
 ((if (a3.length:Int) < 1 then some (.inl (0,0,false)) else if 16 < (a3.length:Int) then some (.inl (0,0,false)) else some<|.inr ()):Option ((Int × Int × Bool) ⊕ Unit)).bind (λex=>match ex with | .inl Ac=>(some Ac) | .inr _=>(gI a3 0).bind λAb=>((if (Ab.length:Int) < 1 then some (.inl (0,0,false)) else if 16 < (Ab.length:Int) then some (.inl (0,0,false)) else some<|.inr ()):Option ((Int × Int × Bool) ⊕ Unit)).bind (λex=>match ex with | .inl Ad=>(some Ad) | .inr _=>(iter (λs=>Asu fuel a3 Ab s) fuel 0).bind (λex=>match ex with | .inl Ae=>(some Ae) | .inr _=>some ((a3.length:Int),(Ab.length:Int),true))))
theorem A0c {r:(Int × Int × Bool)} (H2:Ajw (cI .i64) h Aq a3) (hp:Ao7 fuel a3=some r):Ahs Tryz.prog 149 #[Aq] h (λx h'=>Ext h h'/\x= .tuple #[.int .i64 r.1,.int .i64 r.2.1,.bool r.2.2]):=by
 unfold Ao7 at hp;refine cwf (l:=[_]) Tryz.func149 rfl rfl (AOv<|Aho<|Aho<|AO1 ?_);have K0:=Kst.k0 h;obtain ⟨A3,Ar,Ah⟩:=AOw hp;refine Arb 65308 (λx:Unit=>[]) (λx h'=>(Sum.inr <| ())=A3/\Kst h h' (K0.L)) ?_ ?_
 ·refine AOv<|AOr<|Ahx APa rfl H2 (Ahn rfl rfl (AOr ?_));by_cases Ad:(a3.length:Int) < 1
  ·rw [decide_eq_true Ad];refine Aki 11 true<|Ahc rfl (AOz<|Ahp rfl (AOv<|Aho<|Aho<|AO1 ?_));obtain rfl:=AOu<|ifT Ar Ad;refine AO6<|Ag7 ?_;obtain rfl:=AOu Ah;exact ⟨_,Arr,K0.x,rfl⟩
  ·have Au:=ifF Ar Ad;rw [decide_eq_false Ad];refine Ahb 11 false<|AOr<|Ahb 11 false<|Ahx APa rfl H2 (Ahb 11 false<|Anj rfl rfl (APd rfl (AOz<|⟨_,rfl,λAi=>?_,λAi=>?_⟩)))
   ·refine AOv<|Aho<|Aho<|AO1 ?_;obtain rfl:=AOu<|Ahy Au Ai;refine AO6<|Ag7 ?_;obtain rfl:=AOu Ah;exact ⟨_,Arr,K0.x,rfl⟩
   ·refine AO5<|q_t ?_;exact ⟨(():Unit),⟨AOu<|Ahz Au Ai,K0⟩,trivial⟩
 rintro ⟨⟩ Be Bf ⟨A4,Ab⟩;subst A4;refine AOv<|AOr ?_;obtain ⟨A5,A6,A7⟩:=AOw Ah;refine An3 APa Aha H2 Ab.x A6 λ_ Bg A8=>Aim APe rfl A8 (AO1 ?_);obtain ⟨A9,Av,Aj⟩:=AOw A7;refine Arb 66060316 (λx:Unit=>[]) (λx h'=>(Sum.inr <| ())=A9/\Kst h h' (Ab.L)) ?_ ?_
 ·refine AOv<|AOr<|Ahn rfl rfl (AOr ?_);by_cases Ae:(A5.length:Int) < 1
  ·rw [decide_eq_true Ae];refine Aqc 22 true<|Ahc rfl (AOz<|Ahp rfl (AOv<|Aho<|Aho<|AO1 ?_));obtain rfl:=AOu<|ifT Av Ae;refine AO6<|Ag7 ?_;obtain rfl:=AOu Aj;exact ⟨_,Arr,Ab.x,rfl⟩
  ·have Aw:=ifF Av Ae;rw [decide_eq_false Ae];refine Ahb 22 false<|AOr<|Ahb 22 false<|Anj rfl rfl (APd rfl (AOz<|⟨_,rfl,λAk=>?_,λAk=>?_⟩))
   ·refine AOv<|Aho<|Aho<|AO1 ?_;obtain rfl:=AOu<|Ahy Aw Ak;refine AO6<|Ag7 ?_;obtain rfl:=AOu Aj;exact ⟨_,Arr,Ab.x,rfl⟩
   ·refine AO5<|q_t ?_;exact ⟨(():Unit),⟨AOu<|Ahz Aw Ak,Ab⟩,trivial⟩
 rintro ⟨⟩ Bh Bi ⟨Ba,Ax⟩;subst Ba;refine AOx<|AOv<|AOr<|Ahx APa rfl H2 (AOr<|AOz<|AO0<|Arf 137170518172 Aj (λx=>[(28,(.int .i64 x))]) (λx=>Ax.L) Ax ⟨rfl,trivial⟩ ?_);rintro Bj Bl Bm Bn Af Am Ay;unfold Asu at Am;refine AOv<|Ahn rfl rfl (AOz<|AOx<|⟨_,rfl,λAo=>?_,λAo=>?_⟩)
 ·refine AO5<|q_t<|AOx<|AO0<|AOv ?_;obtain ⟨Bo,Bb,Az⟩:=AOw<|Ahy Am Ao;refine An3 APa Aha H2 Af.x Bb λ_ Bp Bc=>Ah7<|AOr<|Aim APe rfl Bc (AOr<|Ajs rfl rfl (AOz<|⟨_,rfl,λAp=>?_,λAp=>?_⟩))
  ·refine AOv<|Aho<|Aho<|AO1<|AO6<|Ail<|Ag7<|Ag7<|Ail<|Ag7 ?_;obtain rfl:=AOu<|Ay _ (AOu<|Ahy Az Ap).symm;exact ⟨_,Arr,Af.x,rfl⟩
  ·refine AO5<|q_b<|q_t<|Ag6<|Ahk rfl rfl (AOr<|AOz ?_);exact ⟨_,(AOu<|Ahz Az Ap).symm,Af,rfl,trivial⟩
 ·refine Ahf<|Ahg<|Ahg<|Aio<|q_t<|AOv<|AOr<|Ahx APa rfl H2 (AOr<|Aho<|Aho<|AO1<|AO6 ?_);obtain rfl:=AOu<|Ay _ (AOu<|Ahz Am Ao).symm;exact ⟨_,Arr,Af.x,rfl⟩
def Aq5 (fuel:Nat) (a3:LiI) (Ac:LiA) (Aa:Int):Option (Int ⊕ ((Int × Int × Bool) ⊕ Unit)):=
 if Aa < (a3.length:Int) then (gI a3 Aa).bind λAd=>if ¬ (Ad.length:Int)=(Ac.length:Int) then some (.inr<|.inl (0,0,false)) else some (.inl<|w64<|Aa + 1) else some<|.inr<|.inr ()
def An6 (fuel:Nat) (a3:LiI):Option (Int × Int × Bool):=
 ((if (a3.length:Int) < 1 then some (.inl (0,0,false)) else if 16 < (a3.length:Int) then some (.inl (0,0,false)) else some<|.inr ()):Option ((Int × Int × Bool) ⊕ Unit)).bind (λex=>match ex with | .inl Ac=>(some Ac) | .inr _=>(gI a3 0).bind λAb=>((if (Ab.length:Int) < 1 then some (.inl (0,0,false)) else if 16 < (Ab.length:Int) then some (.inl (0,0,false)) else some<|.inr ()):Option ((Int × Int × Bool) ⊕ Unit)).bind (λex=>match ex with | .inl Ad=>(some Ad) | .inr _=>(iter (λs=>Aq5 fuel a3 Ab s) fuel 0).bind (λex=>match ex with | .inl Ae=>(some Ae) | .inr _=>some ((a3.length:Int),(Ab.length:Int),true))))
theorem Ay3 {r:(Int × Int × Bool)} (H2:Ajw cZ h Aq a3) (hp:An6 fuel a3=some r):Ahs Tryz.prog 153 #[Aq] h (λx h'=>Ext h h'/\x= .tuple #[.int .i64 r.1,.int .i64 r.2.1,.bool r.2.2]):=by
 unfold An6 at hp;refine cwf (l:=[_]) Tryz.func153 rfl rfl (AOv<|Aho<|Aho<|AO1 ?_);have K0:=Kst.k0 h;obtain ⟨A3,Ar,Ah⟩:=AOw hp;refine Arb 65308 (λx:Unit=>[]) (λx h'=>(Sum.inr <| ())=A3/\Kst h h' (K0.L)) ?_ ?_
 ·refine AOv<|AOr<|Ahx Ai9 rfl H2 (Ahn rfl rfl (AOr ?_));by_cases Ad:(a3.length:Int) < 1
  ·rw [decide_eq_true Ad];refine Aki 11 true<|Ahc rfl (AOz<|Ahp rfl (AOv<|Aho<|Aho<|AO1 ?_));obtain rfl:=AOu<|ifT Ar Ad;refine AO6<|Ag7 ?_;obtain rfl:=AOu Ah;exact ⟨_,Arr,K0.x,rfl⟩
  ·have Au:=ifF Ar Ad;rw [decide_eq_false Ad];refine Ahb 11 false<|AOr<|Ahb 11 false<|Ahx Ai9 rfl H2 (Ahb 11 false<|Anj rfl rfl (APd rfl (AOz<|⟨_,rfl,λAi=>?_,λAi=>?_⟩)))
   ·refine AOv<|Aho<|Aho<|AO1 ?_;obtain rfl:=AOu<|Ahy Au Ai;refine AO6<|Ag7 ?_;obtain rfl:=AOu Ah;exact ⟨_,Arr,K0.x,rfl⟩
   ·refine AO5<|q_t ?_;exact ⟨(():Unit),⟨AOu<|Ahz Au Ai,K0⟩,trivial⟩
 rintro ⟨⟩ Be Bf ⟨A4,Ab⟩;subst A4;refine AOv<|AOr ?_;obtain ⟨A5,A6,A7⟩:=AOw Ah;refine An3 Ai9 Alp H2 Ab.x A6 λ_ Bg A8=>Aim Aj8 rfl A8 (AO1 ?_);obtain ⟨A9,Av,Aj⟩:=AOw A7;refine Arb 66060316 (λx:Unit=>[]) (λx h'=>(Sum.inr <| ())=A9/\Kst h h' (Ab.L)) ?_ ?_
 ·refine AOv<|AOr<|Ahn rfl rfl (AOr ?_);by_cases Ae:(A5.length:Int) < 1
  ·rw [decide_eq_true Ae];refine Aqc 22 true<|Ahc rfl (AOz<|Ahp rfl (AOv<|Aho<|Aho<|AO1 ?_));obtain rfl:=AOu<|ifT Av Ae;refine AO6<|Ag7 ?_;obtain rfl:=AOu Aj;exact ⟨_,Arr,Ab.x,rfl⟩
  ·have Aw:=ifF Av Ae;rw [decide_eq_false Ae];refine Ahb 22 false<|AOr<|Ahb 22 false<|Anj rfl rfl (APd rfl (AOz<|⟨_,rfl,λAk=>?_,λAk=>?_⟩))
   ·refine AOv<|Aho<|Aho<|AO1 ?_;obtain rfl:=AOu<|Ahy Aw Ak;refine AO6<|Ag7 ?_;obtain rfl:=AOu Aj;exact ⟨_,Arr,Ab.x,rfl⟩
   ·refine AO5<|q_t ?_;exact ⟨(():Unit),⟨AOu<|Ahz Aw Ak,Ab⟩,trivial⟩
 rintro ⟨⟩ Bh Bi ⟨Ba,Ax⟩;subst Ba;refine AOx<|AOv<|AOr<|Ahx Ai9 rfl H2 (AOr<|AOz<|AO0<|Arf 137170518172 Aj (λx=>[(28,(.int .i64 x))]) (λx=>Ax.L) Ax ⟨rfl,trivial⟩ ?_);rintro Bj Bl Bm Bn Af Am Ay;unfold Aq5 at Am;refine AOv<|Ahn rfl rfl (AOz<|AOx<|⟨_,rfl,λAo=>?_,λAo=>?_⟩)
 ·refine AO5<|q_t<|AOx<|AO0<|AOv ?_;obtain ⟨Bo,Bb,Az⟩:=AOw<|Ahy Am Ao;refine An3 Ai9 Alp H2 Af.x Bb λ_ Bp Bc=>Ah7<|AOr<|Aim Aj8 rfl Bc (AOr<|Ajs rfl rfl (AOz<|⟨_,rfl,λAp=>?_,λAp=>?_⟩))
  ·refine AOv<|Aho<|Aho<|AO1<|AO6<|Ail<|Ag7<|Ag7<|Ail<|Ag7 ?_;obtain rfl:=AOu<|Ay _ (AOu<|Ahy Az Ap).symm;exact ⟨_,Arr,Af.x,rfl⟩
  ·refine AO5<|q_b<|q_t<|Ag6<|Ahk rfl rfl (AOr<|AOz ?_);exact ⟨_,(AOu<|Ahz Az Ap).symm,Af,rfl,trivial⟩
 ·refine Ahf<|Ahg<|Ahg<|Aio<|q_t<|AOv<|AOr<|Ahx Ai9 rfl H2 (AOr<|Aho<|Aho<|AO1<|AO6 ?_);obtain rfl:=AOu<|Ay _ (AOu<|Ahz Am Ao).symm;exact ⟨_,Arr,Af.x,rfl⟩
def Aup (fuel:Nat) (a3:LiI) (Ab:Int) (Af:LiA) (Aa:Int) (Ac:LiI):Option ((Int × LiI) ⊕ LiI):=
 if Aa < (Af.length:Int) then (gI Ac Ab).bind λAd=>(((gI a3 Ab).bind λAg=>(gI Ag Aa).bind λAh=>(A6h fuel Ah).bind λAi=>some Ai):Option Int).bind λAj=>(gI Ad Aa).bind λAk=>some (.inl (w64<|Aa + 1,sI Ac Ab<|sI Ad Aa Aj)) else some<|.inr Ac
def Auq (fuel:Nat) (a3:LiI) (Ae Ab Aa:Int) (Ac:LiI):Option ((Int × LiI) ⊕ LiI):=
 if Aa < ((List.replicate (Int.toNat Ae) ([]:List Int)).length:Int) then if 0<=Ab/\Ab<=100000000 then (gI Ac Aa).bind λAh=>(gI (sI Ac Aa<|List.replicate (Int.toNat Ab) (0:Int)) Aa).bind λAf=>(iter (λs=>Aup fuel a3 Aa Af s.1 s.2) fuel (0,sI Ac Aa<|List.replicate (Int.toNat Ab) (0:Int))).bind (λ(Ag:LiI)=>some<|.inl (w64<|Aa + 1,Ag)) else none else some<|.inr Ac
def Arj (fuel:Nat) (a3:LiI):Option (LiI × Bool):=
 (Ao7 fuel a3).bind λ(Aa,Ac,Ad)=>if (!Ad)=true then some ([],false) else ((if 0<=Aa/\Aa<=100000000 then (iter (λs=>Auq fuel a3 Aa Ac s.1 s.2) fuel (0,List.replicate (Int.toNat Aa) ([]:List Int))).bind (λ(Ae:LiI)=>some Ae) else none):Option LiI).bind λAf=>some (Af,true)
theorem A2g {r:(LiI × Bool)} (H2:Ajw (cI .i64) h Ah a3) (hp:Arj fuel a3=some r):Ahs Tryz.prog 94 #[Ah] h (λx h'=>Ext h h'/\ ∃ (x0:Value) (F0:List Nat) (Bu:List LnA) (Bv:List Value),x= .tuple #[x0,.bool r.2]/\Aj1 cZ 146 129 h' F0 Bu Bv x0 r.1/\Sp h' h.size [F0]):=by
 unfold Arj at hp;refine cwf (l:=[_]) Tryz.func94 rfl rfl (AOv ?_);have K0:=Kst.k0 h;refine BI3 [Ah] trivial tt2 rfl (BBi ((H2.ext K0.x)).isOne) λb5 h6 V7 E8 S9=>Aho<|Ah7 ?_;have Aj:=K0.nb E8 S9 V7;refine Ahu Aia rfl ((Aj.b p0).cell (i:=0) rfl) ?_;obtain ⟨⟨B1,B3,D1⟩,B4,Ak⟩:=AOw hp;dsimp only at Ak;refine Akb Aj (A0c (H2.ext Aj.x) B4) λD2 D3 Am=>AOr<|Ait rfl rfl (Ait rfl rfl (Ait rfl rfl (Aho<|Aho<|AO1<|AOx<|AOv<|AOr<|Akc rfl (AOz<|⟨_,rfl,λAo=>?_,λAo=>?_⟩))))
 ·refine AOv<|Aho<|AO1<|AO6<|Ag7 ?_;have Ap:=Kst.anil2 cZ 146 129 Am;obtain rfl:=AOu<|ifT Ak Ao;exact ⟨_,Aiz,Ap.x,_,_,_,_,rfl,(Ap.o2 p0),Ap.s.sel [0] AOs⟩
 ·refine AO5<|q_t<|AOv<|AOr<|AOr<|BO5 rfl ?_;obtain ⟨B5,B6,B7⟩:=AOw<|Aok Ak Ao;refine Ahq (K':=(λxr h'=> ∃ x:(LiI) × (Value) × LnA × LnN × LvA,x.1=B5/\xr=x.2.1/\Kst h h' (aO2 cZ 146 129 x.2.2.1 x.2.2.2.1 x.2.2.2.2 x.2.1 x.1 :: Am.L))) trivial rfl ?_ λB8 D4 B9=>?_
  ·refine cwf (l:=[_,_,_]) Tryz.func150 rfl rfl (AOv<|Ah7<|AOr ?_);obtain ⟨Ca,Cb⟩:=ifN B6;refine Ayj cZ 129 Ai9 BBj rfl trivial tt2 rfl rfl AOs Ca λCd Ce Cf Aq D5 Cg Ch Ci=>AO1<|AOx<|AOv<|AOr ?_;have Ar:=Am.no2 Ch Ci Cg;refine Ahx Ai9 rfl (Ar.o2 p0).rd (AOr<|AOz<|AO0<|Amy 4398046495488 (λx:(Int) × (LiI) × LnA × LnN × LvA=>(x.1,x.2.1)) ((0,(List.replicate (Int.toNat B1) ([]:List Int)),Cd,Ce,Cf):(Int) × (LiI) × LnA × LnN × LvA) Cb (λx=>[(14,(.int .i64 x.1))]) (λx=>Ar.L.set 0<|aO2 cZ 146 129 x.2.2.1 x.2.2.2.1 x.2.2.2.2 Aq x.2.1) Ar ⟨rfl,trivial⟩ ?_);rintro ⟨Aa,Bg,Cj,Au,Bh⟩ D6 D7 D8 Bi Av Ck;unfold Auq at Av;refine AOv<|Ahn rfl rfl (AOz<|AOx<|⟨_,rfl,λAw=>?_,λAw=>?_⟩)
   ·refine AO5<|q_t<|AOx<|AO0<|AOv<|AOr<|Ah7<|AOr<|AOr<|AOr ?_;obtain ⟨Cm,Cn⟩:=ifN<|Ahy Av Aw;refine BC9 Aj8 Ams rfl trivial tt2 rfl rfl AOs Cm λBj Co D9 Cp Cq Cr Ct=>?_;have Ac:=Bi.no Cq (Anw Cr Ct) Cp;obtain ⟨Ea,Bl,Cu⟩:=AOw Cn;refine Aij Ai9 rfl (Ac.o2 p1) rfl Bl λCv Eb Cw Ec Ed=>Azf Alp (Ac.o2 p1) Bl Cw rfl rfl (Ac.o p0) (Ac.dj p0 p1 AOs) λEe Cx Cy Cz=>Apt<|AOr<|AOr ?_;have Ax:=Ac.m2 p0 p1 AOs Cy Cx λz hz=> .inl<|Cz z hz;obtain ⟨Ef,Bm,C0⟩:=AOw Cu;refine Aiw Ai9 Alp (Ax.o2 p1) Bm λ_ Eg C1=>Aim Aj8 rfl ((Ax.o2 p1).rowI C1 Bm) (AOr<|AOz<|AO0 ?_);have Ay:=Ax.sel [1,2] AOs;dsimp only [Aoz,Ar4] at Ay;refine Amy 2198889038336 (λx:(Int) × (LiI) × LnA × LnN × LvA=>(x.1,x.2.1)) ((0,(sI Bg Aa<|List.replicate (Int.toNat B3) (0:Int)),(Cv :: (Au.set (Int.toNat Aa) [Bj]).flatten),(Au.set (Int.toNat Aa) [Bj]),(Bh.set (Int.toNat Aa) Co)):(Int) × (LiI) × LnA × LnN × LvA) C0 (λx=>[(27,(.int .i64 x.1))]) (λx=>Ay.L.set 0<|aO2 cZ 146 129 x.2.2.1 x.2.2.2.1 x.2.2.2.2 Aq x.2.1) Ay ⟨rfl,trivial⟩ ?_;rintro ⟨C2,Eh,Ei,Ej,Ek⟩ El Ab Em Ad Az C3;unfold Aup at Az;refine AOv<|Ahn rfl rfl (AOz<|AOx<|⟨_,rfl,λA3=>?_,λA3=>?_⟩)
    ·refine AO5<|q_t<|AOx<|AO0<|AOv<|AOr<|AO1<|Ai1 (λh'=>UpT [] Ab h') AO4 ?_;have A4:UpT [] Ab Ab:=UpT.start all_nil;refine AOr<|AOr ?_;obtain ⟨En,A5,C4⟩:=AOw<|Ahy Az A3;refine Aij Ai9 rfl (Ad.o2 p0) rfl A5 λEo Ep Er C5 C6=>Ahm Alp rfl A4 (λh' hb=>AO8 C6 hb.ext) (AOr<|AOr<|AOr<|AOr ?_);obtain ⟨C7,C8,C9⟩:=AOw C4;have Da:UpT [] Ab Ab:=UpT.start all_nil;refine A56 (l:=[(.int .i64 Aa),(.int .i64 C2)]) (cl:=[(.pointer<|some ⟨b5,0,none⟩)]) (K':=(λxr h'=> ∃ x:(Int) × LvA,x.1=C7/\xr=(.agg (x.2).toArray)/\Kst h h' (aZ x.2 x.1 :: Ad.L)/\UpT [] Ab h')) A4 rfl rfl ?_ λEs Et Db=>?_
     ·refine cwf (l:=[_,_,_]) Tryz.func151 rfl rfl (AOv<|A2a [.bool false,.slice none 0 0] Ams rfl trivial tt2 λEu Ev Dc A6 Bn=>Apt ?_);have Ew:=A6.1;have Ag:=Ad.nb A6 Bn Dc;refine Ahu Aia rfl ((Ag.b p2).cell (i:=0) rfl) (AOr ?_);have Dd:=Bn.loAll 0 rfl;obtain ⟨Ey,De,Df⟩:=AOw C8;refine Az4 APa rfl H2 rfl De λEz Fa Fb Dg Dh=>Ahu Aha rfl (AO8 Dg Ag.x) (AOr ?_);obtain ⟨Fc,Di,Dj⟩:=AOw Df;refine Aqu (c:=(cI .i64)) APe rfl Dh rfl Di λFd Fe Ff Dk Dl=>?_;obtain rfl:=Dk;refine Ahu AO9 rfl (AO8 (Dl 0 _ rfl) Ag.x) ?_;obtain ⟨Do,Dp,Dq⟩:=AOw Dj;refine Aqs rfl (A7p Dp) λFg Dr A7 Ds=>?_;obtain ⟨Fh,rfl,Dt⟩:=Ds;have Fi:=A7.1;obtain ⟨Bo,rfl,Du⟩:=Dt.cs;have Ae:=(Ag.e A7).az Du;refine Ai5 Bo Aip (cZ.klen<|Ae.z p0) (cZ.klen<|Ahd Dr) rfl rfl (cZ.one<|Ae.z p0) (Ae.b p1) λFj Bp A8=>AOz<|AO6 ?_;have Fk:=A8.1;have A9:=Ae.sb p1 A8 Bp rfl;refine ⟨_,Ai3 Aip (cZ.klen<|A9.z p0) rfl (A9.b p1),((Do,Bo):(Int) × LvA),?_,rfl,?_,?_⟩
      ·exact AOu Dq
      ·exact A9.sel [0,2,3] AOs
      ·exact (((Da.thenE A6).thenE A7).then (Bp.stA A8 (Ani (Ae.b p1) rfl) rfl) (BC8 Dd AOq))
     obtain ⟨⟨Fl,Fm⟩,Dv,rfl,Af,Bq⟩:=Db;have Fo:=Bq.size;refine ⟨(A4.then Bq all_nil),?_⟩;subst Dv;obtain ⟨Fp,Br,Dw⟩:=AOw C9;refine Air (m:=Aa) Aj8 rfl (Ad.o2 p0) C5 A5 rfl Br λFq Dx=>Aol (m:=Aa) (Aze Aip (cZ.klen<|Af.z p0) rfl rfl (cZ.one<|Af.z p0)) (Af.o2 p1) Dx A5 Br (Af.z p0) λFr Dy Bt=>Ahh<|q_b<|q_t<|Ag6<|Ahk rfl rfl (AOr<|AOz ?_);have Ft:=Bt.size;exact ⟨(_,_,_,_,_),(AOu Dw).symm,(Af.uO2 p1 Bt Dy).sel [1,2] AOs,rfl,trivial⟩
    ·refine Ahf<|Ahg<|Ahg<|Aio<|q_b<|q_t<|Ag6<|Ahk rfl rfl (AOr<|AOz ?_);exact ⟨(_,_,_,_,_),(AOu<|C3 _ (AOu<|Ahz Az A3).symm).symm,Ad,rfl,trivial⟩
   ·refine Ahf<|Ahg<|Ahg<|Aio<|q_t<|AOv<|AOr<|AO1<|AO6<|⟨_,AO7,((Bg,Aq,Cj,Au,Bh):(LiI) × (Value) × LnA × LnN × LvA),?_,rfl,?_⟩
    ·exact AOu<|Ck _ (AOu<|Ahz Av Aw).symm
    ·exact Bi
  obtain ⟨⟨Fu,B8,Fv,Fw,Fx⟩,Dz,rfl,Ba⟩:=B9;refine ⟨trivial,?_⟩;subst Dz;refine Aho<|AO1<|AO6 ?_;obtain rfl:=AOu B7;exact ⟨_,Aiz,Ba.x,_,_,_,_,rfl,(Ba.o2 p0),Ba.s.sel [0] AOs⟩
def Asv (fuel:Nat) (a3:LiI) (Ac:Int) (Ad:LiI) (Aa:Int):Option (Int ⊕ Int):=
 ((if Aa < (a3.length:Int) then (gI Ad Aa).bind λAe=>(gI Ae Ac).bind λAf=>(A7o fuel Af).bind λAg=>if Ag=0 then some (.inl ()) else some (.inr ()) else some<|.inr ()):Option (Unit ⊕ Unit)).bind (λex=>match ex with | .inl _=>(some<|.inl<|w64<|Aa + 1) | .inr _=>some<|.inr Aa)
def Asw (fuel:Nat) (a3:LiI) (Ad Ag Ah Ae Aa:Int) (Ab:LiI):Option ((Int × LiI) ⊕ LiI):=
 if Aa < (a3.length:Int) then (gI Ab Ae).bind λAc=>(gI Ac Aa).bind λAi=>(BFb fuel Ah Ai).bind λAj=>(gI Ac Ad).bind λAk=>(gI Ab Ad).bind λAm=>(gI Am Aa).bind λAo=>(BFb fuel Ak Ao).bind λAp=>(BOw fuel Aj Ap).bind λAq=>(A2e fuel Aq Ag).bind λ(Ar,Au,Av)=>some (.inl (w64<|Aa + 1,sI Ab Ae<|sI Ac Aa Ar)) else some<|.inr Ab
def Asx (fuel:Nat) (a3:LiI) (Ac Ae Af Aa:Int) (Ad:LiI):Option ((Int × LiI) ⊕ LiI):=
 if Aa < (a3.length:Int) then (iter (λs=>Asw fuel a3 Ac Ae Af Aa s.1 s.2) fuel (w64<|Ac + 1,Ad)).bind (λ(Ag:LiI)=>some<|.inl (w64<|Aa + 1,Ag)) else some<|.inr Ad
def Asy (fuel:Nat) (a3:LiI) (Ae:Bool) (Aa:Int) (Ab:LiI) (Af:Int):Option ((Bool × Int × LiI × Int) ⊕ (Int ⊕ (Bool × Int))):=
 if Aa < (a3.length:Int) then (((iter (λs=>Asv fuel a3 Aa Ab s) fuel Aa).bind (λ(Ai:Int)=>some Ai)):Option Int).bind (λ(Ad:Int)=>if Ad=(a3.length:Int) then some (.inr<|.inl 0) else ((if ¬ Ad=Aa then (gI Ab Ad).bind λAj=>(gI Ab Aa).bind λAk=>some (!Ae,sI (sI Ab Aa Aj) Ad Ak) else some (Ae,Ab)):Option (Bool × LiI)).bind (λ((Am,Ag):Bool × LiI)=>(gI Ag Aa).bind λAo=>(gI Ao Aa).bind λAh=>(iter (λs=>Asx fuel a3 Aa Af Ah s.1 s.2) fuel (w64<|Aa + 1,Ag)).bind (λ(Ap:LiI)=>some<|.inl (Am,w64<|Aa + 1,Ap,Ah)))) else some<|.inr<|.inr (Ae,Af)
def Asz (fuel:Nat) (a3:LiI) (Aa:Int) (Ac:LiI):Option ((Int × LiI) ⊕ LiI):=
 if Aa < (a3.length:Int) then (gI a3 Aa).bind λAd=>if 0<=(a3.length:Int)/\(a3.length:Int)<=100000000 then (gI Ac Aa).bind λAf=>(gI (sI Ac Aa<|List.replicate (Int.toNat (a3.length:Int)) (0:Int)) Aa).bind λAe=>if Ad.length=Ae.length/\0 < Ae.length then some (.inl (w64<|Aa + 1,sI (sI Ac Aa<|List.replicate (Int.toNat (a3.length:Int)) (0:Int)) Aa Ad)) else none else none else some<|.inr Ac
def Ao8 (fuel:Nat) (a3:LiI):Option Int:=
 if 0<=(a3.length:Int)/\(a3.length:Int)<=100000000 then (iter (λs=>Asz fuel a3 s.1 s.2) fuel (0,List.replicate (Int.toNat (a3.length:Int)) ([]:List Int))).bind (λ(Ac:LiI)=>(A6h fuel 1).bind λAd=>(iter (λs=>Asy fuel a3 s.1 s.2.1 s.2.2.1 s.2.2.2) fuel (false,0,Ac,Ad)).bind (λex=>match ex with | .inl Ae=>(some Ae) | .inr (Af,Ab)=>if Af=true then (BOx fuel Ab).bind λAg=>some Ag else (A2f fuel Ab).bind λAh=>some Ah)) else none
theorem A0d {Bx:Value} {r:Int} (H2:Ajw cZ h Bx a3) (hp:Ao8 fuel a3=some r):Ahs Tryz.prog 154 #[Bx] h (λx h'=>Ext h h'/\ ∃ (x0:Value),x=x0/\ZZ h' x0 r):=by
 unfold Ao8 at hp;refine cwf (l:=[_]) Tryz.func154 rfl rfl (AOv<|Aj4 (Kst.k0 h) [.bool false,.slice none 0 0] Ams λb5 h6 E8 C7=>Apt<|AOr<|Ahx Ai9 rfl H2 (Ah7<|AOr ?_));obtain ⟨C8,C9⟩:=ifN hp;refine Ayj cZ 129 Ai9 BBj rfl trivial tt2 rfl rfl AOs C8 λDa Db Dc Ak Id Dd De Df=>AO1<|AOx<|AOv<|AOr<|Ahx Ai9 rfl H2 (AOr<|AOz<|AO0 ?_);have Bz:=C7.no2 De Df Dd;refine Amy 274875809888 (λx:(Int) × (LiI) × LnA × LnN × LvA=>(x.1,x.2.1)) ((0,(List.replicate (Int.toNat (a3.length:Int)) ([]:List Int)),Da,Db,Dc):(Int) × (LiI) × LnA × LnN × LvA) C9 (λx=>[(21,(.int .i64 x.1))]) (λx=>Bz.L.set 0<|aO2 cZ 146 129 x.2.2.1 x.2.2.2.1 x.2.2.2.2 Ak x.2.1) Bz ⟨rfl,trivial⟩ ?_;rintro ⟨Dg,u32,Dh,Di,Dj⟩ Ie If Ih A7 A8 Dk;unfold Asz at A8;refine AOv<|Ahn rfl rfl (AOz<|AOx<|⟨_,rfl,λA9=>?_,λA9=>?_⟩)
 ·refine AO5<|q_t<|AOx<|AO0<|AOv<|AOr ?_;obtain ⟨Ii,Dl,Do⟩:=AOw<|Ahy A8 A9;refine An3 Ai9 Alp H2 A7.x Dl λ_ Ij Dp=>Aho<|Ah7<|AOr<|AOr<|AOr ?_;obtain ⟨Dq,Dr⟩:=ifN Do;refine BC9 Aj8 Ams rfl trivial tt2 rfl rfl AOs Dq λIk Il Im Ds Dt Du Dv=>?_;have Am:=A7.no Dt (Anw Du Dv) Ds;obtain ⟨Io,B1,Dw⟩:=AOw Dr;refine Aij Ai9 rfl (Am.o2 p1) rfl B1 λIp Iq Dx Ir Is=>Azf Alp (Am.o2 p1) B1 Dx rfl rfl (Am.o p0) (Am.dj p0 p1 AOs) λIt Dy Dz D0=>AOz<|Ag6<|AOr<|AOr ?_;have Au:=Am.m2 p0 p1 AOs Dz Dy λz hz=> .inl<|D0 z hz;obtain ⟨Iu,B3,D1⟩:=AOw Dw;refine Aiw Ai9 Alp (Au.o2 p1) B3 λ_ Iv D2=>AOr ?_;obtain ⟨D3,D4⟩:=ifN D1;refine BJa (m:=Dg) Aj8 trivial rfl rfl (Au.o2 p1) D2 B3 (Dp.ext Au.x) D3 λIw D5 D6=>⟨trivial,?_⟩;refine Ahh<|q_b<|q_t<|Ag6<|Ahk rfl rfl (AOr<|AOz ?_);exact ⟨(_,_,_,_,_),(AOu D4).symm,(Au.uO2 p1 D6 D5).sel [1,2] AOs,rfl,trivial⟩
 ·refine Ahf<|Ahg<|Ahg<|Aio<|q_t<|AOv<|Ah7 ?_;obtain ⟨D7,D8,D9⟩:=AOw<|Dk _ (AOu<|Ahz A8 A9).symm;refine Avd A7 (A7p D8) λEa Ix Iy Eb=>Aj4 Eb [.bool false,.slice none 0 0] Ams λEc Ed Iz B4=>Anz B4 p0 (Ahd Ed) (B4.z p1) λI0 B5=>AOz<|AOx<|AOv<|AOr<|AOr<|AOz<|AO0<|Amy 22300745198530623141535718272647261994385024 (λx:(Bool) × (Int) × (LiI) × LnA × LnN × LvA × (Int) × LvA=>(x.1,x.2.1,x.2.2.1,x.2.2.2.2.2.2.1)) ((false,0,u32,Dh,Di,Dj,D7,Ea):(Bool) × (Int) × (LiI) × LnA × LnN × LvA × (Int) × LvA) D9 (λx=>[(7,(.bool x.1)),(40,(.int .i64 x.2.1))]) (λx=>((B5.L.set 2<|aO2 cZ 146 129 x.2.2.2.1 x.2.2.2.2.1 x.2.2.2.2.2.1 Ak x.2.2.1).set 1 (aZ x.2.2.2.2.2.2.2 x.2.2.2.2.2.2.1)).set 0 (aB 129 Ec x.2.2.2.2.2.2.2)) B5 ⟨rfl,rfl,trivial⟩ ?_;rintro ⟨B6,Ao,B7,Ee,Ef,Eg,I1,I2⟩ I3 I6 I7 Ab Ba B8;unfold Asy at Ba;refine AOv<|Ahn rfl rfl (AOz<|AOx<|⟨_,rfl,λBb=>?_,λBb=>?_⟩)
  ·refine AO5<|q_t<|AOx<|AO0<|AOv<|AOr<|Ah7<|AOr<|AO1 ?_;obtain ⟨Eh,Ei,B9⟩:=AOw<|Ahy Ba Bb;refine Arb 1152903912420803584 (λx:(Int)=>[(10,(.int .i64 x))]) (λx h'=>( x)=Eh/\Kst h h' (Ab.L)) ?_ ?_
   ·refine AO0<|Arf 1152903912420803584 Ei (λx=>[(10,(.int .i64 x))]) (λx=>Ab.L) Ab ⟨rfl,trivial⟩ ?_;rintro Av I9 Ja Jc Ah Ca Cb;unfold Asv at Ca;obtain ⟨Ej,Cd,Bc⟩:=AOw Ca;refine Arb 288212783965667328 (λx:Unit=>[]) (λx h'=>(Sum.inl <| ())=Ej/\Kst h h' (Ah.L)) ?_ ?_
    ·refine AOv<|AOr<|AOr<|Ahn rfl rfl (AOr ?_);by_cases Aw:Av < (a3.length:Int)
     ·rw [decide_eq_true Aw];refine Ahb 47 true<|AOr<|Ahb 47 true<|AOr<|Ahb 47 true ?_;obtain ⟨Je,Be,Ek⟩:=AOw<|ifT Cd Aw;refine Aij Ai9 rfl (Ah.o2 p2) rfl Be λJf Jg Jh El Em=>Ahb 47 true<|Ahu Alp rfl Em (Ahb 47 true<|AOr<|Ahb 47 true ?_);obtain ⟨Ji,Ce,En⟩:=AOw Ek;refine Air (m:=Av) Aj8 rfl (Ah.o2 p2) El Be rfl Ce λJj Eo=>Ahb 47 true ?_;obtain ⟨Jk,Ep,Er⟩:=(Ah.o2 p2).cells Eo Be Ce;have Bf:=Ah.az Ep;refine Aum (c:=cZ) Aip rfl (Bf.z p0) (λj u hu=>(Er j u hu)) (Ahb 47 true ?_);obtain ⟨Jl,Es,Cf⟩:=AOw En;refine Akb Bf (A6i (Bf.z p0).2 Es) λJm Jn Cg=>Ahb 47 true<|Ai0 rfl rfl (Ahc rfl (AOz<|⟨_,rfl,λBg=>?_,λBg=>?_⟩))
      ·refine AO5<|q_t ?_;exact ⟨(():Unit),⟨AOu<|Ahy Cf Bg,Cg.sel [1,2,3,4] AOs⟩,trivial⟩
      ·obtain rfl:=AOu<|Ahz Cf Bg;refine Ahf<|Ahg<|Ahg<|Aio<|q_t ?_;exact ⟨(Av:(Int)),⟨AOu<|Cb _ (AOu Bc).symm,Cg.sel [1,2,3,4] AOs⟩,rfl,trivial⟩
     ·rw [decide_eq_false Aw];refine An1 47 false<|Alf 47 false<|APd rfl (AOz<|Aht rfl ?_);obtain rfl:=AOu<|ifF Cd Aw;refine Ahf<|Ahg<|Ahg<|Aio<|q_t ?_;exact ⟨(Av:(Int)),⟨AOu<|Cb _ (AOu Bc).symm,Ah⟩,rfl,trivial⟩
    rintro ⟨⟩ Jo Jp ⟨Et,Eu⟩;subst Et;refine AO0<|Ag6<|AOr<|Ahk rfl rfl (Aho<|Ahh<|q_b<|q_t ?_);exact ⟨_,(AOu Bc).symm,Eu,rfl,trivial⟩
   rintro Ev Jq Ch ⟨Ew,Ae⟩;subst Ew;refine AOx<|AOv<|AOr<|AOr<|Ai0 rfl rfl (AOz<|⟨_,rfl,λBh=>?_,λBh=>?_⟩)
   ·refine AOv<|Alh (Awk )<|Anz Ae p3 (Ahd Ch) (Ahd Ch) λCi Cj=>AOz<|AO6<|Ag7<|Ail<|Ag7<|Ag7<|Ail<|Ag7 ?_;obtain rfl:=AOu<|B8 _ (AOu<|Ahy B9 Bh).symm;exact ⟨_,Ai3 Aip (cZ.klen<|Ahd Ci) rfl (Cj.b p3),Cj.x,_,rfl,(Ahd Ci).2⟩
   ·refine AO5<|q_t ?_;obtain ⟨Ey,Ck,Ez⟩:=AOw<|Ahz B9 Bh;refine Arb 9671388110172959688097920 (λx:(Bool) × (LiI) × LnA × LnN × LvA=>[(7,(.bool x.1))]) (λx h'=>( (x.1,x.2.1))=Ey/\Kst h h' (Ae.L.set 2<|aO2 cZ 146 129 x.2.2.1 x.2.2.2.1 x.2.2.2.2 Ak x.2.1)) ?_ ?_
    ·refine AOv<|AOr<|AOr<|Ajs rfl rfl (AOz<|⟨_,rfl,λBi=>?_,λBi=>?_⟩)
     ·refine AOx<|Ame<|AOr<|AOr<|AOr<|AOr<|AOr<|AOr ?_;obtain ⟨Fa,Cm,Fb⟩:=AOw<|Ahy Ck Bi;refine Aiw Ai9 Alp (Ae.o2 p2) Cm λ_ Jr Fc=>AOr<|AOr ?_;obtain ⟨Fd,Cn,Fe⟩:=AOw Fb;refine Aiw Ai9 Alp (Ae.o2 p2) Cn λ_ Js Ff=>Avr Ai9 Alp (Ae.o2 p2) Ff Fc Cn Cm rfl rfl (λ_=>rfl) (λ_=>rfl) (λ_=>rfl) (λ_ _=>rfl) λJt Ju Fg Fh Fi Jv Fj Fk Fl=>AOz<|Ag6<|AOr<|Akc rfl (AO1 ?_);exact ⟨(((!B6),(sI (sI B7 Ao Fa) Ev Fd),Fg,Fh,Fi):(Bool) × (LiI) × LnA × LnN × LvA),⟨AOu Fe,(Ae.uo2 p2 Fk Fj Fl)⟩,rfl,trivial⟩
     ·refine AO5<|q_t ?_;exact ⟨((B6,B7,Ee,Ef,Eg):(Bool) × (LiI) × LnA × LnN × LvA),⟨AOu<|Ahz Ck Bi,Ae⟩,rfl,trivial⟩
    rintro ⟨Jw,Fm,Fo,Fp,Fq⟩ Jx Jy ⟨Fr,Ax⟩;subst Fr;refine AOv<|AOr<|AOr ?_;obtain ⟨Jz,Bj,Ft⟩:=AOw Ez;refine Aiw Ai9 Alp (Ax.o2 p2) Bj λ_ J0 Fu=>AOr ?_;obtain ⟨J1,Co,Fv⟩:=AOw Ft;refine Air (m:=Ao) Aj8 rfl (Ax.o2 p2) Fu Bj rfl Co λJ2 Fw=>?_;obtain ⟨J3,Fx,Fy⟩:=(Ax.o2 p2).cells Fw Bj Co;have Cp:=Ax.az Fx;refine Aum (c:=cZ) Aip rfl (Cp.z p0) (λj u hu=>(Fy j u hu)) (Aj4 Cp [.bool false,.slice none 0 0] Ams λJ4 Fz J5 Cq=>Anz Cq p0 (Ahd Fz) (Cq.z p1) λJ6 Cr=>AOz<|AOx<|AOv<|AOr<|Ahk rfl rfl (AO1<|AO0<|Amy 5575186299632650833623772426640990780026880 (λx:(Int) × (LiI) × LnA × LnN × LvA=>(x.1,x.2.1)) (((w64<|Ao + 1),Fm,Fo,Fp,Fq):(Int) × (LiI) × LnA × LnN × LvA) Fv (λx=>[(12,(.int .i64 x.1))]) (λx=>Cr.L.set 4<|aO2 cZ 146 129 x.2.2.1 x.2.2.2.1 x.2.2.2.2 Ak x.2.1) Cr ⟨rfl,trivial⟩ ?_));rintro ⟨Ay,F4,F5,F6,F7⟩ J7 J8 J9 Af Bl F8;unfold Asx at Bl;refine AOx<|AOv<|AOr<|AOr<|Ahn rfl rfl (AOz<|⟨_,rfl,λBm=>?_,λBm=>?_⟩)
    ·refine AO5<|q_t<|AOx<|AO0<|AOv<|AOr<|Ahk rfl rfl (AO1<|AO0<|Amy 5575186299632021960083815453461342024916992 (λx:(Int) × (LiI) × LnA × LnN × LvA=>(x.1,x.2.1)) (((w64<|Ao + 1),F4,F5,F6,F7):(Int) × (LiI) × LnA × LnN × LvA) (Ahy Bl Bm) (λx=>[(13,(.int .i64 x.1))]) (λx=>Af.L.set 4<|aO2 cZ 146 129 x.2.2.1 x.2.2.2.1 x.2.2.2.2 Ak x.2.1) Af ⟨rfl,trivial⟩ ?_);rintro ⟨Ka,Kb,Kc,Kd,Ke⟩ Kf Bn Kg Aa Bo F9;unfold Asw at Bo;refine AOx<|AOv<|AOr<|AOr<|Ahn rfl rfl (AOz<|⟨_,rfl,λBp=>?_,λBp=>?_⟩)
     ·refine AO5<|q_t<|AOx<|AO0<|AOx ?_;have Ai:UpT [] Bn Bn:=UpT.start all_nil;refine A02 (B:=λh'=>UpT [] Bn h') 25 [⟨14,129,[.bool false,.slice none 0 0]⟩] (λ_ _ U E=>U.thenE E) AO4 Ai (A9y rfl Ams rfl (λ_ _ U E=>U.thenE E))<|h_l rfl (Avw (Aa.z p1) Ai (Aa.b p0)<|Ahh<|h_l rfl (AOr<|Ahh<|h_l rfl (AOr<|Ahh<|h_l rfl ?_)));obtain ⟨Kh,Ac,Ga⟩:=AOw<|Ahy Bo Bp;refine Aij Ai9 rfl (Aa.o2 p4) rfl Ac λKi Kj Kk Gb Gc=>Ahh<|h_l rfl (Ahm Alp rfl Ai (λh' hb=>AO8 Gc hb.ext) (Ahh<|h_l rfl (AOr<|Ahh<|h_l rfl ?_)));obtain ⟨Kl,Az,Gd⟩:=AOw Ga;refine Air (m:=Ay) Aj8 rfl (Aa.o2 p4) Gb Ac rfl Az λKm Ge=>Ahh<|h_l rfl ?_;obtain ⟨Kn,Ct,Gf⟩:=(Aa.o2 p4).cells Ge Ac Az;refine Azp (c:=cZ) Aip rfl Ct Ai (λh' hb j u hu=>AO8 (Gf j u hu) hb.ext) (Ahh<|h_e rfl λKo Cu=>?_);have Bq:=(Aa.az<|cZ.upT Ct Ai).e Cu;obtain ⟨Kp,Gg,Gh⟩:=AOw Gd;refine Am4 Bq (Ai.thenE Cu) (BDs (Bq.z p2).2 (Bq.z p0).2 Gg) λKr Kt Gi Gj Ag=>Ahh ⟨Gi,?_⟩;refine h_l rfl (AOr<|Ahh<|h_l rfl (AOr<|Ahh<|h_l rfl (Aij Ai9 rfl (Aa.o2 p4) rfl Ac λKu Kv Kw Gk Gl=>Ahh<|h_l rfl (Ahm Alp rfl Ag (λh' hb=>AO8 Gl hb.ext) (Ahh<|h_l rfl (AOr<|Ahh<|h_l rfl ?_))))));obtain ⟨Kx,Cv,Gm⟩:=AOw Gh;refine Air (m:=Ay) Aj8 rfl (Aa.o2 p4) Gk Ac rfl Cv λKy Gn=>Ahh<|h_l rfl ?_;obtain ⟨Kz,Cw,Gp⟩:=(Aa.o2 p4).cells Gn Ac Cv;refine Azp (c:=cZ) Aip rfl Cw Ag (λh' hb j u hu=>AO8 (Gp j u hu) hb.ext) (Ahh<|h_l rfl (AOr<|Ahh<|h_l rfl (AOr<|Ahh<|h_l rfl ?_)));obtain ⟨La,Br,Gq⟩:=AOw Gm;refine Aij Ai9 rfl (Aa.o2 p4) rfl Br λLb Lc Ld Gr Gt=>Ahh<|h_l rfl (Ahm Alp rfl Ag (λh' hb=>AO8 Gt hb.ext) (Ahh<|h_l rfl (AOr<|Ahh<|h_l rfl ?_)));obtain ⟨Le,Cx,Gu⟩:=AOw Gq;refine Air (m:=Ao) Aj8 rfl (Aa.o2 p4) Gr Br rfl Cx λLf Gv=>Ahh<|h_l rfl ?_;obtain ⟨Lg,Cy,Gw⟩:=(Aa.o2 p4).cells Gv Br Cx;refine Azp (c:=cZ) Aip rfl Cy Ag (λh' hb j u hu=>AO8 (Gw j u hu) hb.ext) (Ahh<|h_e rfl λLh Cz=>?_);have Bt:=((Gj.az<|cZ.upT Cw Ag).az (cZ.upT Cy Ag)).e Cz;obtain ⟨Li,Gx,Gy⟩:=AOw Gu;refine Am4 Bt (Ag.thenE Cz) (BDs (Bt.z p1).2 (Bt.z p0).2 Gx) λLj Lk Gz G3 G4=>Ahh ⟨Gz,?_⟩;refine h_e rfl λLl C0=>?_;have Bu:=G3.e C0;obtain ⟨Lm,G5,G6⟩:=AOw Gy;refine Am4 Bu (G4.thenE C0) (BPw (Bu.z p3).2 (Bu.z p0).2 G5) λG7 Lo G8 G9 Hb=>Ahh ⟨G8,?_⟩;refine A7h λHc C1=>BMf λLq C2 Hd Lr=>?_;have Aj:=G9.e C1;have A3:=((((((Aa.nb (Hb.thenE C1).ext (Anw Hd C2.lt) C2).az (Aj.z p5)).az (Aj.z p4)).az (Aj.z p3)).az (Aj.z p2)).az (Aj.z p1)).az (Aj.z p0);refine Ai5 G7 Aip (cZ.klen<|A3.z p0) (cZ.klen<|Ahd Hc) rfl rfl (cZ.one<|A3.z p0) (A3.b p6) λBv He Hf=>AOz<|Ai1 (λh'=>UpT [] Bv h') AO4 ?_;have Ad:=A3.sb p6 Hf He rfl;have Ap:UpT [] Bv Bv:=UpT.start all_nil;refine AOr<|AOr<|Aij Ai9 rfl (Ad.o2 p11) rfl Ac λLv Lw Lx Hg Hh=>Ahm Alp rfl Ap (λh' hb=>AO8 Hh hb.ext) (AOr<|Avw (Ad.z p0) Ap (Ad.b p6)<|Avw (Ad.z p10) Ap (Ad.b p9) ?_);obtain ⟨⟨Ly,Lz,L9⟩,Hj,C3⟩:=AOw G6;dsimp only at C3;refine Aj3 Ap (λ_ E=>Ap.thenE E) rfl (A5b (Ad.z p0).2 (Ad.z p10).2 Hj) λMa Mb Hk Hl=>?_;obtain ⟨Mc,Md,rfl,Hm,Hn⟩:=Hl;obtain ⟨Me,rfl,Ho⟩:=Hm.cs;obtain ⟨Mf,rfl,Hq⟩:=Hn.cs;refine AOr<|Ait rfl rfl (Ait rfl rfl (Ait rfl rfl (Air (m:=Ay) Aj8 rfl (Ad.o2 p11) Hg Ac rfl Az λMg Hr=>?_)));have Aq:=((Ad.e Hk).az Ho).az Hq;refine Aol (m:=Ay) (Aze Aip (cZ.klen<|Aq.z p1) rfl rfl (cZ.one<|Aq.z p1)) (Aq.o2 p13) Hr Ac Az (Aq.z p1) λMh Hs Ht=>Ahh<|q_b<|q_t<|Ag6<|AOr<|Ahk rfl rfl (AO1 ?_);exact ⟨(_,_,_,_,_),(AOu C3).symm,(Aq.uO2 p13 Ht Hs).sel [9,10,11,12,13,14] AOs,rfl,trivial⟩
     ·refine Ahf<|Ahg<|Ahg<|Aio<|q_b<|q_t<|Ag6<|AOr<|Ahk rfl rfl (AO1 ?_);exact ⟨(_,_,_,_,_),(AOu<|F9 _ (AOu<|Ahz Bo Bp).symm).symm,Aa,rfl,trivial⟩
    ·refine Ahf<|Ahg<|Ahg<|Aio<|q_t<|Ag6<|Asj (Af.z p1) (Af.b p0)<|Anz Af p2 (Af.z p3) (Af.z p1) λMi Hu=>Ahh<|q_b<|q_t<|Ag6<|Ahk rfl rfl (AOr<|AOz ?_);exact ⟨(_,_,_,_,_,_,_,_),(AOu<|F8 _ (AOu<|Ahz Bl Bm).symm).symm,Hu.sel [2,1,4,5] AOs,rfl,rfl,trivial⟩
  ·refine Ahf<|Ahg<|Ahg<|Aio<|q_t<|AOx<|AOv<|AOr<|AOz ?_;have C4:=B8 _ (AOu<|Ahz Ba Bb).symm;refine ⟨_,rfl,λBw=>?_,λBw=>?_⟩
   ·refine AOv<|Asj (Ab.z p1) (Ab.b p0) ?_;obtain ⟨Mj,Hv,Hw⟩:=AOw<|ifT C4 Bw;refine Avd Ab (BPx (Ab.z p1).2 Hv) λMk Hx Ml C5=>Anz C5 p4 (Ahd Hx) (C5.z p0) λMm A4=>AOz<|AO6<|Ag7 ?_;obtain rfl:=AOu Hw;exact ⟨_,Ai3 Aip (cZ.klen<|A4.z p0) rfl (A4.b p4),A4.x,_,rfl,(A4.z p0).2⟩
   ·refine AO5<|q_t<|AOv<|Asj (Ab.z p1) (Ab.b p0) ?_;obtain ⟨Mo,Hy,Hz⟩:=AOw<|Aok C4 Bw;refine Avd Ab (A4o (Ab.z p1).2 Hy) λMq H5 Mr C6=>Anz C6 p4 (Ahd H5) (C6.z p0) λMs A5=>AOz<|AO6 ?_;obtain rfl:=AOu Hz;exact ⟨_,Ai3 Aip (cZ.klen<|A5.z p0) rfl (A5.b p4),A5.x,_,rfl,(A5.z p0).2⟩
def Ax5 (fuel:Nat) (a3:LiI):Option (Int × Bool):=
 (An6 fuel a3).bind λ(Ab,Ac,Ad)=>if (!Ad)=true then some (0,false) else if ¬ Ab=Ac then some (0,false) else (Ao8 fuel a3).bind λAe=>some (Ae,true)
theorem A54 {Af:Value} {r:(Int × Bool)} (H2:Ajw cZ h Af a3) (hp:Ax5 fuel a3=some r):Ahs Tryz.prog 95 #[Af] h (λx h'=>Ext h h'/\ ∃ (x0:Value),x= .tuple #[x0,.bool r.2]/\ZZ h' x0 r.1):=by
 unfold Ax5 at hp;refine cwf (l:=[_]) Tryz.func95 rfl rfl (AOv<|Aj4 (Kst.k0 h) [.bool false,.slice none 0 0] Ams λb5 h6 E8 Aj=>Ah7<|AOr ?_);obtain ⟨⟨A6,A7,Av⟩,Aw,Ad⟩:=AOw hp;dsimp only at Ad;refine Akb Aj (Ay3 (H2.ext Aj.x) Aw) λAa A8 Ab=>AOr<|Ait rfl rfl (Ait rfl rfl (Ait rfl rfl (Aho<|Aho<|AO1<|AOx<|AOv<|AOr<|Akc rfl (AOr ?_))));cases Ak:(!Av)
 ·refine Ahb 15 false<|AOr<|Ahb 15 false<|AOr<|Ahb 15 false<|Ajs rfl rfl (APd rfl (AOz ?_));have Am:=Aok Ad Ak;refine ⟨_,rfl,λAe=>?_,λAe=>?_⟩
  ·refine AOv<|Alh (Awk )<|Anz Ab p0 (Ahd Aa) (Ahd Aa) λAo Ap=>AO1<|AO6<|Ag7 ?_;obtain rfl:=AOu<|Ahy Am Ae;exact ⟨_,A4a Aip (cZ.klen<|Ahd Ao) rfl (Ap.b p0),Ap.x,_,rfl,(Ahd Ao).2⟩
  ·refine AO5<|q_t<|AOv<|AOr ?_;obtain ⟨A9,Ax,Ay⟩:=AOw<|Ahz Am Ae;refine Avd Ab (A0d (H2.ext Ab.x) Ax) λBa Az Bb Aq=>Anz Aq p1 (Ahd Az) (Aq.z p0) λBc Ac=>AO1<|AO6 ?_;obtain rfl:=AOu Ay;exact ⟨_,A4a Aip (cZ.klen<|Ac.z p0) rfl (Ac.b p1),Ac.x,_,rfl,(Ac.z p0).2⟩
 ·refine Aki 15 true<|Ahc rfl (AOz<|Ahp rfl (AOv<|Alh (Awk )<|Anz Ab p0 (Ahd Aa) (Ahd Aa) λAr Au=>AO1<|AO6<|Ag7 ?_));obtain rfl:=AOu<|ifT Ad Ak;exact ⟨_,A4a Aip (cZ.klen<|Ahd Ar) rfl (Au.b p0),Au.x,_,rfl,(Ahd Ar).2⟩
end Go.Proofs.YtkakafabeobahaaGreatDoor
namespace Go.QF
open Go
theorem BGz {l:List Value} (H:Sl h v l):SlK h 1 v (l.map λx=>[x]):=by
 obtain ⟨a,cap,hv,hc⟩:=H;refine ⟨a,cap,by grind,λi row hr=>?_⟩;grind
theorem A85 {l:List Value} (H:SlK h 1 v (l.map λx=>[x])):Sl h v l:=by
 obtain ⟨a,cap,hv,hc⟩:=H;refine ⟨a,cap,by grind,λi x hx=>?_⟩;obtain ⟨b,o,ha,hb⟩:=hc i [x] (by simp [hx]);refine ⟨b,o,ha,?_⟩;have:=hb 0 x rfl;grind
theorem BKd {κ:IntKind} {L:List Int} (H:Sl h v (L.map<|.int κ)):SlC (cI κ) h v L:=by
 refine ⟨L.map λa=>[.int κ a],?_,Ah6,λi cs a h1 h2=>?_⟩
 ·have:=BGz H;rwa [List.map_map] at this
 ·rw [List.getElem?_map,h2] at h1;injection h1 with h1;exact h1.symm
theorem BR0 {κ:IntKind} {L:List Int} (H:SlC (cI κ) h v L):Sl h v (L.map<|.int κ):=by
 obtain ⟨Ls,h1,h2,h3⟩:=H
 have:Ls=(L.map<|Value.int κ).map λx=>[x]:=by
  apply List.ext_getElem?
  intro i
  by_cases hi:i < L.length
  ·obtain ⟨a,ha⟩:∃ a,L[i]? =some a:=⟨L[i],List.getElem?_eq_getElem hi⟩
   obtain ⟨cs,hcs⟩:∃ cs,Ls[i]? =some cs:=⟨Ls[i]'AOq,List.getElem?_eq_getElem _⟩
   have:=h3 i cs a hcs ha
   rw [hcs,List.map_map,List.getElem?_map,ha]
   exact congrArg some this
  grind
 subst this;exact A85 h1
theorem BPy (H:Ajw (cI .i64) h v M):Mat h v M:=by
 obtain ⟨_,rs,h1,h2,h3⟩:=H;exact ⟨rs,A85 h1,h2,λi r z hr hz=>BR0<|h3 i r z hr hz⟩
end Go.QF
namespace Go.QF
def Abs (x b:Int):Prop:= -b<=x/\x<=b
theorem A2y {b:Int} (hx:Abs x a) (hy:Abs y b):Abs (x * y) (a * b):=by
 unfold Abs at *;have ha:0<=a:=by omega
 have hb:0<=b:=by omega
 have h1:0<=(a - x) * (b - y):=Int.mul_nonneg AOq AOq;have h2:0<=(a - x) * (b + y):=Int.mul_nonneg AOq AOq;have h3:0<=(a + x) * (b - y):=Int.mul_nonneg AOq AOq;have h4:0<=(a + x) * (b + y):=Int.mul_nonneg AOq AOq;grind
theorem BKe {b:Int} (hb:0 < b) (hx:Abs x (b * y)):Abs (x.tdiv b) y:=by
 unfold Abs at *;rcases A3c x 0 with h | h
 ·have h1:x.tdiv b= -((-x).tdiv b):=by simp_all
  have h2:(-x).tdiv b=(-x) / b:=Int.tdiv_eq_ediv_of_nonneg AOq
  have h3:(-x) / b<=y:=by
   have:(-x) / b<=(b * y) / b:=Int.ediv_le_ediv hb AOq
   rwa [Int.mul_ediv_cancel_left _ AOq] at this
  have h4:0<=(-x) / b:=Int.ediv_nonneg AOq AOq;omega
 ·have h2:x.tdiv b=x / b:=Int.tdiv_eq_ediv_of_nonneg h
  have h3:x / b<=y:=by
   have:x / b<=(b * y) / b:=Int.ediv_le_ediv hb AOq
   rwa [Int.mul_ediv_cancel_left _ AOq] at this
  have h4:0<=x / b:=Int.ediv_nonneg h AOq;omega
def A7q (M:List (List Int)):Prop:=(1<=M.length/\M.length<=8)/\(∀ z∈M,z.length=M.length)/\ ∀ i j,i < M.length->j < M.length->ent M i j=ent M j i/\ -262144 < ent M i j/\ent M i j < 262144
open Classical in
noncomputable def Atk (M:List (List Int)):Bool:=decide (A7q M)
theorem Ao1 (h:A7q M):true=Atk M:=by simp [Atk,h]
theorem Aln (h: ¬ A7q M):false=Atk M:=by simp [Atk,h]
theorem A7r (h:Atk M=true):A7q M:=by simpa [Atk] using h
def Axu (m:Nat) (F:Ahe):Prop:=(0 < F 0 0/\F 0 0 < 65536)/\ ∀ i,1<=i->i < m->2 * F i 0<=F 0 0/\ -2 * F i 0<=F 0 0
instance (m:Nat) (F:Ahe):Decidable (Axu m F):=by
 unfold Axu
 have:Decidable (∀ i,1<=i->i < m->2 * F i 0<=F 0 0/\ -2 * F i 0<=F 0 0):=
  decidable_of_iff (∀ i,i < m->1<=i->2 * F i 0<=F 0 0/\ -2 * F i 0<=F 0 0) ⟨λh i a b=>h i b a,λh i a b=>h i b a⟩
 infer_instance
def Ay4 (F:Ahe) (last:Int):Ahe:=λi j=>(F 0 0 * F (i + 1) (j + 1) - F (i + 1) 0 * F 0 (j + 1)).tdiv last
def A27 (F:Ahe) (last:Int):Prop:=3 * F 0 0 * F 0 0<=4 * (last * Ay4 F last 0 0 + F 1 0 * F 1 0)
instance (F:Ahe) (last:Int):Decidable (A27 F last):=by unfold A27;infer_instance
def Axv:Nat->(Ahe)->Int->Bool
 | 0,_,_=>false
 | 1,F,_=>decide (0 < F 0 0/\F 0 0<=10000)
 | m + 2,F,last=>decide (Axu (m + 2) F) && (decide (A27 F last) && Axv (m + 1) (Ay4 F last) (F 0 0))
noncomputable def isRed (M:List (List Int)):Bool:=Atk M && Axv M.length (ent M) 1
structure Stg (m:Nat) (F:Ahe) (last:Int) (K:Int):Prop where
 sym:∀ i j,i < m->j < m->F i j=F j i
 bd:∀ i j,i < m->j < m->Abs (F i j) (last * K)
 l1:1<=last
 l2:last<=65535
theorem BB2 {m:Nat} (H:Stg (m + 1) F last K) (hK:0<=K) (hs:Axu (m + 1) F):Stg m (Ay4 F last) (F 0 0) (K + 16384):=by
 have hd:=hs.1
 have hcol:∀ i,i < m->Abs (2 * F (i + 1) 0) (F 0 0):=λi hi=>by
  have:=hs.2 (i + 1) AOq AOq
  exact ⟨AOq,AOq⟩
 refine ⟨λi j hi hj=>?_,λi j hi hj=>?_,AOq,AOq⟩
 ·unfold Ay4;rw [H.sym (i + 1) (j + 1) AOq AOq,H.sym (i + 1) 0 AOq AOq,H.sym 0 (j + 1) AOq AOq,Int.mul_comm<|F 0<|i + 1]
 ·unfold Ay4;refine BKe (by have:=H.l1;omega) ?_;have h1:Abs (F 0 0 * F (i + 1) (j + 1)) (F 0 0 * (last * K)):=A2y ⟨AOq,AOq⟩<|H.bd _ _ AOq AOq
  have h2:Abs (2 * F (i + 1) 0 * (2 * F 0 (j + 1))) (F 0 0 * F 0 0):=by
   refine A2y (hcol i hi) ?_
   rw [H.sym 0 (j + 1) AOq AOq];exact hcol j hj
  have h3:0<=F 0 0 * (65536 - F 0 0):=Int.mul_nonneg AOq AOq;have h4:0<=F 0 0 * (last - 1):=Int.mul_nonneg AOq (by have:=H.l1;omega);unfold Abs at *;grind
theorem BG0 (h:A7q M):Stg M.length (ent M) 1 262144:=by
 refine ⟨λi j hi hj=>(h.2.2 i j hi hj).1,λi j hi hj=>?_,AOq,AOq⟩;have:=h.2.2 i j hi hj;unfold Abs;omega
theorem Aw4 {m:Nat} (h:2<=m) (hs: ¬ Axu m F):Axv m F last=false:=by
 obtain ⟨n,rfl⟩:∃ n,m=n + 2:=⟨m - 2,AOq⟩;unfold Axv;grind
theorem A0e {m:Nat} (h:2<=m) (hs: ¬ A27 F last):Axv m F last=false:=by
 obtain ⟨n,rfl⟩:∃ n,m=n + 2:=⟨m - 2,AOq⟩;unfold Axv;grind
theorem BG1 {m:Nat} (h:2<=m) (hs:Axu m F) (hl:A27 F last):Axv m F last=Axv (m - 1) (Ay4 F last) (F 0 0):=by
 obtain ⟨n,rfl⟩:∃ n,m=n + 2:=⟨m - 2,AOq⟩;rw [Axv,decide_eq_true hs,decide_eq_true hl];rfl
theorem A6j {m:Nat} (H:Stg m F last K) (hK0:0<=K) (hK:K<=393216) (hi:i < m) (hj:j < m):Abs (F i j) 34359738368:=by
 have h1:=H.bd i j hi hj;have h2:=(A3m (a:=last) (b:=K) (A:=65535) (B:=393216) (by have:=H.l1;omega) H.l2 hK0 hK).2;unfold Abs at *;omega
end Go.QF
namespace Go.Proofs.YtkakafabeobahaaGreatDoor
open Go Go.QF
set_option maxRecDepth 100000
theorem As0 {α:Type} {c:Nat} {g:Nat->α} {q:Nat} (hq:q < c):((List.range c).map g)[q]? =some (g q):=by simp [hq]
section
variable {P:Program} {B:AO2->Prop} {st:Bool} {ops:Array Oper} {rest:List Oper} {e:Env} {h:AO2} {K:Env->AO2->Prop}
variable {d:Nat} {ty:TypeId} {pos:String} {af:Array Edge}
end
end Go.Proofs.YtkakafabeobahaaGreatDoor
namespace Go.Proofs.YtkakafabeobahaaGreatDoor
open Go Go.QF
set_option maxRecDepth 100000
theorem BDt (HM:Mat h v M):Ahs Tryz.prog 82 #[v] h λx h'=>h'=h/\x= .bool (Atk M):=by
 refine Aie (l:=[_]) mx Tryz.func82 rfl rfl rfl rfl rfl AO4 (AOv<|Ah7<|AOr<|A4z APa rfl HM (AO1<|AOx<|AOv<|AOr<|Amf rfl rfl (λAb=>?_) (λAb=>?_)))
 ·refine AOr (Aiq 14 true AO4 rfl rfl (Aiq 14 true AO4 rfl rfl (Ahc rfl (AOz<|Ahp rfl (AOv<|AO1<|AO6<|Ag7<|⟨_,AO7,?_⟩)))))
  first
   | exact ⟨rfl,congrArg Value.bool (Aln λhh=>by have:=hh.1;omega)⟩
   | exact ⟨rfl,congrArg Value.bool (Aln λhh=>by have:=hh.2.1 M[i]<|List.getElem_mem _;omega)⟩
   | exact ⟨rfl,congrArg Value.bool (Aln λhh=>by have:=hh.2.2 a b AOq AOq;omega)⟩
   | exact ⟨rfl,congrArg Value.bool<|Ao1 ⟨⟨AOq,AOq⟩,hrows,λx y hx hy=>hall x y AOq hy⟩⟩
 ·refine AOr<|Aix 14 false AO4 rfl rfl (AOr<|Aix 14 false AO4 rfl rfl (Aye rfl rfl (λAc=>?_) (λAc=>?_)))
  ·refine APd rfl (AOz<|Ahp rfl (AOv<|AO1<|AO6<|Ag7<|⟨_,AO7,?_⟩))
   first
    | exact ⟨rfl,congrArg Value.bool (Aln λhh=>by have:=hh.1;omega)⟩
    | exact ⟨rfl,congrArg Value.bool (Aln λhh=>by have:=hh.2.1 M[i]<|List.getElem_mem _;omega)⟩
    | exact ⟨rfl,congrArg Value.bool (Aln λhh=>by have:=hh.2.2 a b AOq AOq;omega)⟩
    | exact ⟨rfl,congrArg Value.bool<|Ao1 ⟨⟨AOq,AOq⟩,hrows,λx y hx hy=>hall x y AOq hy⟩⟩
  ·refine APd rfl (AOz<|Aht rfl (AO5<|q_t<|AOx<|AOv<|AOr<|A4z APa rfl HM (AOr<|AOz<|AO0<|Aj7 535822372 (λi:Nat=>[(20,.int .i64 (i:Int))]) (λk i h'=>h'=h/\k=M.length - i/\i<=M.length/\ ∀ j (hj:j < M.length),j < i->M[j].length=M.length) AO4 M.length 0 ?_ ⟨rfl,trivial⟩ ?_)))
   ·exact ⟨rfl,rfl,Nat.zero_le _,λj _ hj=>by omega⟩
   rintro k i s1 h ⟨rfl,rfl,hi,hrow⟩;refine AOv<|Amf rfl rfl (λAd=>?_) (λAd=>?_)
   ·refine AOz<|AOx<|Ahp rfl (AO5<|q_t<|AOx<|AO0<|AOv<|A10 APa rfl HM rfl (List.getElem?_eq_getElem AOq) λaR rR haR hrR=>?_);refine Ahu Aha rfl haR (Ah7<|AOr<|BH1 APe rfl hrR (AOr<|BA0 rfl rfl (λAe=>?_) (λAe=>?_)))
    ·refine AOz (Ahp rfl (AOv<|AO1<|AO6<|Ail<|Ag7<|Ag7<|Ail<|Ag7<|⟨_,AO7,?_⟩))
     first
      | exact ⟨rfl,congrArg Value.bool (Aln λhh=>by have:=hh.1;omega)⟩
      | exact ⟨rfl,congrArg Value.bool (Aln λhh=>by have:=hh.2.1 M[i]<|List.getElem_mem _;omega)⟩
      | exact ⟨rfl,congrArg Value.bool (Aln λhh=>by have:=hh.2.2 a b AOq AOq;omega)⟩
      | exact ⟨rfl,congrArg Value.bool<|Ao1 ⟨⟨AOq,AOq⟩,hrows,λx y hx hy=>hall x y AOq hy⟩⟩
    ·refine AOz<|Aht rfl (AO5<|q_b<|q_t<|Ag6<|Ara rfl AOq (AOr<|AOz ?_));exact ⟨M.length - (i + 1),i + 1,AOq,⟨rfl,rfl,AOq,λj hj Af=>by rcases Nat.lt_succ_iff_lt_or_eq.1 Af with q | rfl;exact hrow j hj q;omega⟩,rfl,trivial⟩
   ·refine AOz<|AOx<|Aht rfl (Ahf<|Ahg<|Ahg<|Aio<|q_t<|AOx<|AOx ?_);have hrows:∀ z∈M,z.length=M.length:=λz hz=>by obtain ⟨j,hj,rfl⟩:=List.getElem_of_mem hz;exact hrow j hj AOq
    have Aa:Mat h v (tab M.length M.length<|ent M):=(A41 hrows) ▸ HM;refine Ag6<|AOr<|A4z APa rfl Aa ?_;rw [Ahv];refine AOr<|AOz<|AO0<|Aj7 4611686016279905220 (λa:Nat=>[(31,.int .i64 (a:Int))]) (λk a h'=>h'=h/\k=M.length - a/\a<=M.length/\ ∀ x y,x < a->y < M.length->ent M x y=ent M y x/\ -262144 < ent M x y/\ent M x y < 262144) AO4 M.length 0 ?_ ⟨rfl,trivial⟩ ?_
    ·exact ⟨rfl,rfl,Nat.zero_le _,λx y hx=>by omega⟩
    rintro k a s2 h ⟨rfl,rfl,ha,hall⟩;refine AOv<|Amf rfl rfl (λAg=>?_) (λAg=>?_)
    ·refine AOz<|AOx<|Ahp rfl (AO5<|q_t<|AOx<|AO0<|AOv<|AOr<|A10 APa rfl Aa rfl (Ata AOq) λaS rS haS hrS=>Ahu Aha rfl haS (Aho<|Ah7<|AOr<|BH1 APe rfl hrS ?_));rw [List.length_map,List.length_range];refine AOr<|AOz<|AO0<|Aj7 2305842734335787780 (λb:Nat=>[(38,.int .i64 (b:Int))]) (λk b h'=>h'=h/\k=M.length - b/\b<=M.length/\ ∀ y,y < b->ent M a y=ent M y a/\ -262144 < ent M a y/\ent M a y < 262144) AO4 M.length 0 ?_ ⟨rfl,trivial⟩ ?_
     ·exact ⟨rfl,rfl,Nat.zero_le _,λy hy=>by omega⟩
     rintro k b s3 h ⟨rfl,rfl,hb,hrw⟩;refine AOv<|Amf rfl rfl (λAh=>?_) (λAh=>?_)
     ·refine AOz<|AOx<|Ahp rfl (AO5<|q_t<|AOx<|AO0<|AOv<|AOr<|Az1 APe rfl hrS rfl (As0 AOq) λAq Ai=>Ahu AO9 rfl Ai (Aho<|Ah7<|AOr<|AOr<|AOr<|A10 APa rfl Aa rfl (Ata AOq) λaT rT haT hrT=>?_));refine Ahu Aha rfl haT (AOr<|Az1 APe rfl hrT rfl (As0 AOq) λAr Aj=>Ahu AO9 rfl Aj (BA0 rfl rfl (λAk=>?_) (λAk=>?_)))
      ·refine AOr (Aiq 52 true AO4 rfl rfl (Aiq 52 true AO4 rfl rfl (Ahc rfl (AOr<|Aiq 56 true AO4 rfl rfl (Aiq 56 true AO4 rfl rfl (Ahc rfl (AOz<|Ahp rfl (AOv<|AO1<|AO6<|Ail<|Ag7<|Ag7<|Ail<|Ail<|Ag7<|Ag7<|Ail<|Ag7<|⟨_,AO7,?_⟩))))))))
       first
        | exact ⟨rfl,congrArg Value.bool (Aln λhh=>by have:=hh.1;omega)⟩
        | exact ⟨rfl,congrArg Value.bool (Aln λhh=>by have:=hh.2.1 M[i]<|List.getElem_mem _;omega)⟩
        | exact ⟨rfl,congrArg Value.bool (Aln λhh=>by have:=hh.2.2 a b AOq AOq;omega)⟩
        | exact ⟨rfl,congrArg Value.bool<|Ao1 ⟨⟨AOq,AOq⟩,hrows,λx y hx hy=>hall x y AOq hy⟩⟩
      ·refine AOr<|Aix 52 false AO4 rfl rfl (AOr<|Aix 52 false AO4 rfl rfl (Azz rfl rfl (λAm=>?_) (λAm=>?_)))
       ·refine APd rfl (AOr<|Aiq 56 true AO4 rfl rfl (Aiq 56 true AO4 rfl rfl (Ahc rfl (AOz<|Ahp rfl (AOv<|AO1<|AO6<|Ail<|Ag7<|Ag7<|Ail<|Ail<|Ag7<|Ag7<|Ail<|Ag7<|⟨_,AO7,?_⟩)))))
        first
         | exact ⟨rfl,congrArg Value.bool (Aln λhh=>by have:=hh.1;omega)⟩
         | exact ⟨rfl,congrArg Value.bool (Aln λhh=>by have:=hh.2.1 M[i]<|List.getElem_mem _;omega)⟩
         | exact ⟨rfl,congrArg Value.bool (Aln λhh=>by have:=hh.2.2 a b AOq AOq;omega)⟩
         | exact ⟨rfl,congrArg Value.bool<|Ao1 ⟨⟨AOq,AOq⟩,hrows,λx y hx hy=>hall x y AOq hy⟩⟩
       ·refine APd rfl (AOr<|Aix 56 false AO4 rfl rfl (AOr<|Aix 56 false AO4 rfl rfl (A1z rfl rfl (λAo=>?_) (λAo=>?_))))
        ·refine APd rfl (AOz<|Ahp rfl (AOv<|AO1<|AO6<|Ail<|Ag7<|Ag7<|Ail<|Ail<|Ag7<|Ag7<|Ail<|Ag7<|⟨_,AO7,?_⟩))
         first
          | exact ⟨rfl,congrArg Value.bool (Aln λhh=>by have:=hh.1;omega)⟩
          | exact ⟨rfl,congrArg Value.bool (Aln λhh=>by have:=hh.2.1 M[i]<|List.getElem_mem _;omega)⟩
          | exact ⟨rfl,congrArg Value.bool (Aln λhh=>by have:=hh.2.2 a b AOq AOq;omega)⟩
          | exact ⟨rfl,congrArg Value.bool<|Ao1 ⟨⟨AOq,AOq⟩,hrows,λx y hx hy=>hall x y AOq hy⟩⟩
        ·refine APd rfl (AOz<|Aht rfl (AO5<|q_b<|q_t<|Ag6<|Ara rfl AOq (AOr<|AOz ?_)));exact ⟨M.length - (b + 1),b + 1,AOq,⟨rfl,rfl,AOq,λy hy=>by rcases Nat.lt_succ_iff_lt_or_eq.1 hy with q | rfl;exact hrw y q;exact ⟨AOq,AOq,AOq⟩⟩,rfl,trivial⟩
     ·refine AOz<|AOx<|Aht rfl (Ahf<|Ahg<|Ahg<|Aio<|q_b<|q_t<|Ag6<|Ara rfl AOq (AOr<|AOz ?_));exact ⟨M.length - (a + 1),a + 1,AOq,⟨rfl,rfl,AOq,λx y hx hy=>by rcases Nat.lt_succ_iff_lt_or_eq.1 hx with q | rfl;exact hall x y q hy;exact hrw y AOq⟩,rfl,trivial⟩
    ·refine AOz (AOx<|Aht rfl (Ahf<|Ahg<|Ahg<|Aio<|q_t<|AOv<|AO1<|AO6<|⟨_,AO7,?_⟩))
     first
      | exact ⟨rfl,congrArg Value.bool (Aln λhh=>by have:=hh.1;omega)⟩
      | exact ⟨rfl,congrArg Value.bool (Aln λhh=>by have:=hh.2.1 M[i]<|List.getElem_mem _;omega)⟩
      | exact ⟨rfl,congrArg Value.bool (Aln λhh=>by have:=hh.2.2 a b AOq AOq;omega)⟩
      | exact ⟨rfl,congrArg Value.bool<|Ao1 ⟨⟨AOq,AOq⟩,hrows,λx y hx hy=>hall x y AOq hy⟩⟩
theorem BKf {m:Nat}:(tab m m F).drop 1=tab (m - 1) m λi j=>F (i + 1) j:=by
 refine List.ext_getElem (by simp [tab]) λi h1 h2=>?_;simp [tab,Nat.add_comm]
theorem A7s {m:Nat} (HM:Mat h v (tab m m F)) (hcap:Auj v) (hm:1<=m) (Au:m<=8) (hfit:∀ i,i < m->Abs (F i 0) 34359738368):Ahs Tryz.prog 83 #[v] h λx h'=>h'=h/\x= .bool (decide (Axu m F)):=by
 refine Aie (l:=[_]) mx Tryz.func83 rfl rfl rfl rfl rfl AO4 (AOv<|Ah7<|AOr<|A10 (n:=0) APa rfl HM rfl (Ata AOq) λAv Aw Ad Ae=>Ahu Aha rfl Ad (Az1 (n:=0) APe rfl Ae rfl (As0 AOq) λAx Af=>Ahu AO9 rfl Af (AO1<|AOx<|AOv<|AOr<|Azz rfl rfl (λAg=>?_) (λAg=>?_))))
 ·refine AOr (Aiq 13 true AO4 rfl rfl (Aiq 13 true AO4 rfl rfl (Ahc rfl (AOz<|Ahp rfl (AOv<|AO1<|AO6<|Ag7<|⟨_,AO7,?_⟩)))))
  first
   | exact ⟨rfl,congrArg Value.bool (decide_eq_false (λhh=>by have:=hh.1;omega)).symm⟩
   | exact ⟨rfl,congrArg Value.bool (decide_eq_false (λhh=>by have:=hh.2 (i + 1) AOq AOq;omega)).symm⟩
   | exact ⟨rfl,congrArg Value.bool (decide_eq_true ⟨⟨AOq,AOq⟩,λj h1 h2=>hall j h1 AOq⟩).symm⟩
 ·refine AOr<|Aix 13 false AO4 rfl rfl (AOr<|Aix 13 false AO4 rfl rfl (A1z rfl rfl (λAh=>?_) (λAh=>?_)))
  ·refine APd rfl (AOz<|Ahp rfl (AOv<|AO1<|AO6<|Ag7<|⟨_,AO7,?_⟩))
   first
    | exact ⟨rfl,congrArg Value.bool (decide_eq_false (λhh=>by have:=hh.1;omega)).symm⟩
    | exact ⟨rfl,congrArg Value.bool (decide_eq_false (λhh=>by have:=hh.2 (i + 1) AOq AOq;omega)).symm⟩
    | exact ⟨rfl,congrArg Value.bool (decide_eq_true ⟨⟨AOq,AOq⟩,λj h1 h2=>hall j h1 AOq⟩).symm⟩
  ·refine APd rfl (AOz<|Aht rfl (AO5<|q_t<|AOx<|AOv<|AOr<|BGi (k:=1) APa rfl HM hcap rfl (by rw [Ahv];omega) λv1 Ai Ay=>?_));have HD:Mat h v1 (tab (m - 1) m λi j=>F (i + 1) j):=BKf (m:=m) ▸ Ai;refine A4z APa rfl HD ?_;rw [Ahv];refine AOr<|AOz<|AO0<|Aj7 549754765348 (λi:Nat=>[(20,.int .i64 (i:Int))]) (λk i h'=>h'=h/\k=m - 1 - i/\i<=m - 1/\ ∀ j,1<=j->j < i + 1->2 * F j 0<=F 0 0/\ -2 * F j 0<=F 0 0) AO4 (m - 1) 0 ?_ ⟨rfl,trivial⟩ ?_
   ·exact ⟨rfl,rfl,Nat.zero_le _,λj h1 h2=>by omega⟩
   rintro k i s1 h ⟨rfl,rfl,hi,hall⟩;refine AOv<|Amf rfl rfl (λAj=>?_) (λAj=>?_)
   ·refine AOz<|AOx<|Ahp rfl (AO5<|q_t<|AOx<|AO0<|AOv<|A10 APa rfl HD rfl (Ata AOq) λAz A3 Ak Ac=>Ahu Aha rfl Ak (AO1<|AOx ?_));have Am:=hfit (i + 1) AOq;unfold Abs at Am;refine Ag6<|AOr<|Az1 (n:=0) APe rfl Ac rfl (As0 AOq) λA4 Ao=>Ahu AO9 rfl Ao (Avq rfl rfl AOq AOq (AOr<|Aye rfl rfl (λAp=>?_) (λAp=>?_)))
    ·refine AOr (Aiq 30 true AO4 rfl rfl (Aiq 30 true AO4 rfl rfl (Aiq 30 true AO4 rfl rfl (Aiq 30 true AO4 rfl rfl (Aiq 30 true AO4 rfl rfl (Aiq 30 true AO4 rfl rfl (Ahc rfl (AOz<|Ahp rfl (AOv<|AO1<|AO6<|Ail<|Ag7<|Ag7<|Ail<|Ag7<|⟨_,AO7,?_⟩)))))))))
     first
      | exact ⟨rfl,congrArg Value.bool (decide_eq_false (λhh=>by have:=hh.1;omega)).symm⟩
      | exact ⟨rfl,congrArg Value.bool (decide_eq_false (λhh=>by have:=hh.2 (i + 1) AOq AOq;omega)).symm⟩
      | exact ⟨rfl,congrArg Value.bool (decide_eq_true ⟨⟨AOq,AOq⟩,λj h1 h2=>hall j h1 AOq⟩).symm⟩
    ·refine AOr<|Aix 30 false AO4 rfl rfl (AOr<|Aix 30 false AO4 rfl rfl (Az1 (n:=0) APe rfl Ac rfl (As0 AOq) λA5 Aq=>Aix 30 false AO4 rfl rfl (Ahu AO9 rfl Aq (Aix 30 false AO4 rfl rfl (Avq rfl rfl AOq AOq (Aix 30 false AO4 rfl rfl (AOr<|Aix 30 false AO4 rfl rfl (Aye rfl rfl (λAr=>?_) (λAr=>?_)))))))))
     ·refine APd rfl (AOz<|Ahp rfl (AOv<|AO1<|AO6<|Ail<|Ag7<|Ag7<|Ail<|Ag7<|⟨_,AO7,?_⟩))
      first
       | exact ⟨rfl,congrArg Value.bool (decide_eq_false (λhh=>by have:=hh.1;omega)).symm⟩
       | exact ⟨rfl,congrArg Value.bool (decide_eq_false (λhh=>by have:=hh.2 (i + 1) AOq AOq;omega)).symm⟩
       | exact ⟨rfl,congrArg Value.bool (decide_eq_true ⟨⟨AOq,AOq⟩,λj h1 h2=>hall j h1 AOq⟩).symm⟩
     ·refine APd rfl (AOz<|Aht rfl (AO5<|q_b<|q_t<|Ag6<|Ara rfl AOq (AOr<|AOz ?_)));exact ⟨m - 1 - (i + 1),i + 1,AOq,⟨rfl,rfl,AOq,λj h1 h2=>by rcases Nat.lt_succ_iff_lt_or_eq.1 h2 with q | rfl;exact hall j h1 q;exact ⟨AOq,AOq⟩⟩,rfl,trivial⟩
   ·refine AOz (AOx<|Aht rfl (Ahf<|Ahg<|Ahg<|Aio<|q_t<|AOv<|AO1<|AO6<|⟨_,AO7,?_⟩))
    first
     | exact ⟨rfl,congrArg Value.bool (decide_eq_false (λhh=>by have:=hh.1;omega)).symm⟩
     | exact ⟨rfl,congrArg Value.bool (decide_eq_false (λhh=>by have:=hh.2 (i + 1) AOq AOq;omega)).symm⟩
     | exact ⟨rfl,congrArg Value.bool (decide_eq_true ⟨⟨AOq,AOq⟩,λj h1 h2=>hall j h1 AOq⟩).symm⟩
theorem A99 (HM:Mat h v M) (hcap:Auj v):Ahs Tryz.prog 41 #[v] h λx h'=>Ext h h'/\x= .bool (isRed M):=by
 refine Aie (l:=[_]) mx Tryz.func41 rfl rfl rfl rfl rfl AO4 (AOv<|AO1<|AOx<|AOv<|AOr<|Ahq trivial rfl (BDt HM) λx1 h hk=>?_);obtain ⟨rfl,rfl⟩:=hk;refine ⟨trivial,?_⟩;cases Au:Atk M
 ·refine Akc rfl (AOz<|Ahp rfl (AOv<|AO1<|AO6<|Ag7<|⟨_,AO7,?_⟩))
  first
   | exact ⟨(Ext.refl _),congrArg Value.bool (show false=isRed M by unfold isRed;rw [show Atk M=false by assumption];rfl)⟩
   | exact ⟨(Ext.refl _),congrArg Value.bool (show false=isRed M by unfold isRed;rw [hred,Aw4 AOq<|of_decide_eq_false (by assumption),Bool.and_false])⟩
   | exact ⟨(Ext.refl _),congrArg Value.bool (show false=isRed M by unfold isRed;rw [hred,A0e AOq (by unfold A27;omega),Bool.and_false])⟩
   | (obtain rfl:m=1:=by omega
      first
      | exact ⟨(Ext.refl _),congrArg Value.bool (show true=isRed M by unfold isRed;rw [hred,<- Ao1 hsm,Axv,decide_eq_true ⟨AOq,AOq⟩];rfl)⟩
      | exact ⟨(Ext.refl _),congrArg Value.bool (show false=isRed M by unfold isRed;rw [hred,Axv,decide_eq_false AOq,Bool.and_false])⟩)
 ·refine Akc rfl (AOz<|Aht rfl (AO5<|q_t<|AOv<|AOr<|Ah7<|AO1<|AOx<|AO0 ?_));have hsm:=A7r Au;have Av:=BG0 hsm;have Aw:Mat h v (tab M.length M.length<|ent M):=(A41 hsm.2.1) ▸ HM;refine Aj7 20282409603651670423947251255292 (λy:Nat × Value × Int × (Ahe)=>[(3,y.2.1),(4,.int .i64 y.2.2.1)]) (λk y h'=>y.1=k/\Ext h h'/\1<=y.1/\y.1<=M.length/\Mat h' y.2.1 (tab y.1 y.1 y.2.2.2)/\Auj y.2.1/\Stg y.1 y.2.2.2 y.2.2.1 (262144 + 16384 * (M.length - y.1))/\Axv M.length (ent M) 1=Axv y.1 y.2.2.2 y.2.2.1) AO4 M.length (M.length,v,1,ent M) ?_ ⟨rfl,rfl,trivial⟩ ?_
  ·exact ⟨rfl,Ext.refl _,hsm.1.1,Nat.le_refl _,Aw,hcap,by have e0:(262144 + 16384 * ((M.length:Int) - (M.length:Int)))=262144:=AOq;rw [e0];exact Av,rfl⟩
  rintro k ⟨m,vs,last,F⟩ s1 hq ⟨rfl,XQ,Ay,hmn,HS,Aj,hstg,hred⟩;dsimp only at Ay hmn HS Aj hstg hred ⊢;have h8:=hsm.1.2;have B7:=hstg.l1;have B8:=hstg.l2;have szq:=XQ.1;refine AOx<|AOv<|AOr<|A4z APa rfl HS ?_;rw [Ahv];refine Aye rfl rfl (λAz=>?_) (λAz=>?_)
  ·refine AOz<|Ahp rfl (AO5<|q_t<|AO0<|AOv<|AOr<|A10 (n:=0) APa rfl HS rfl (Ata AOq) λB9 Ca A3 A4=>Ahu Aha rfl A3 (Az1 (n:=0) APe rfl A4 rfl (As0 AOq) λCb A5=>Ahu AO9 rfl A5 (AO1<|AOx<|AOv<|AOr<|Ahq trivial rfl (A7s HS Aj AOq AOq λi hi=>A6j hstg AOq AOq hi AOq) λx4 hq hk=>?_)));obtain ⟨rfl,rfl⟩:=hk;refine ⟨trivial,?_⟩;cases Ce:decide (Axu m F)
   ·refine Akc rfl (AOz<|Ahp rfl (AOv<|AO1<|AO6<|Ag7<|Ail<|Ag7<|Ail<|Ag7<|⟨_,AO7,?_⟩))
    first
     | exact ⟨XQ,congrArg Value.bool (show false=isRed M by unfold isRed;rw [show Atk M=false by assumption];rfl)⟩
     | exact ⟨XQ,congrArg Value.bool (show false=isRed M by unfold isRed;rw [hred,Aw4 AOq<|of_decide_eq_false (by assumption),Bool.and_false])⟩
     | exact ⟨XQ,congrArg Value.bool (show false=isRed M by unfold isRed;rw [hred,A0e AOq (by unfold A27;omega),Bool.and_false])⟩
     | (obtain rfl:m=1:=by omega
        first
        | exact ⟨XQ,congrArg Value.bool (show true=isRed M by unfold isRed;rw [hred,<- Ao1 hsm,Axv,decide_eq_true ⟨AOq,AOq⟩];rfl)⟩
        | exact ⟨XQ,congrArg Value.bool (show false=isRed M by unfold isRed;rw [hred,Axv,decide_eq_false AOq,Bool.and_false])⟩)
   ·refine Akc rfl (AOz<|Aht rfl (AO5<|q_t<|AOv<|AOr<|A4z APa rfl HS ?_));rw [Ahv];have hsh:Axu m F:=of_decide_eq_true (by assumption);refine Aui rfl rfl AOq AOq ?_;rw [show ((m:Nat):Int) - 1=((m - 1:Nat):Int) by omega];refine BRn (ei:=tI) APa As9 (λ_=>trivial) rfl rfl AOs AOq λb2 v2 h2 Ak E2 Cg hl2b=>?_;have Ch:=E2.1;have Z6:=(Ext.refl hq).trans E2;have X7:=XQ.trans E2;have HS_8:=HS.ext E2;refine AO1<|AOx<|AOv<|AOr<|BC3 APa rfl Ak.1 (AOr<|AOz<|AO0<|Aj7 1208925819614624879739776 (λi:Nat=>[(32,.int .i64 (i:Int))]) (λk i h'=>k=m - 1 - i/\i<=m - 1/\Ext hq h'/\ ∃ gs,Axe h' tR tI (Array.size hq) b2 gs v2 (m - 1)<|(List.range i).map (λi=>(List.range<|m - 1).map λj=>Ay4 F last i j)) AO4 (m - 1) 0 ?_ ⟨rfl,trivial⟩ ?_)
    ·exact ⟨rfl,Nat.zero_le _,E2,[],Ak⟩
    rintro k i s2 h3 ⟨rfl,hi,E3,gs,HP⟩;have X9:=XQ.trans E3;have Ck:=E3.1;have HS_11:=HS.ext E3;refine AOv<|Amf rfl rfl (λA7=>?_) (λA7=>?_)
    ·refine AOz<|AOx<|Ahp rfl (AO5<|q_t<|AOx<|AO0<|AOv<|AOr<|Ah7<|AOr<|AOr<|Ara rfl AOq (BO8 APa rfl HS E3 rfl (Ata AOq) λaR rR haR hrR=>Ahu Aha rfl haR (AO1 ?_)));refine AOv<|AOr<|AOr<|AOr<|BC3 APa rfl HP.1 (BRo APe Ars (λ_=>trivial) rfl rfl AOs AOq λg4 v4 h4 A8 E4 Cn Co=>?_);have Cp:=E4.1;have A9:=E3.trans E4;have Ba:=X9.trans E4;have HS_15:=HS_11.ext E4;have HP_16:=HP.ext E4;refine BLv APa rfl HP_16 rfl AOq ?_;have hglt:=HP.1.lt;have hblo:=HP.2 b2<|List.mem_cons_self ..;refine BLw Aha rfl rfl HP_16 Ah6 AOq A8 (λhc=>by have:=hglt _ hc;omega) AOq λh4b HPb U4=>?_;have Cq:=U4.1;have Cr:=Ba.thenUpd U4 (λk hk=>by have Ah:k=b2:=hk;omega);have Ao:=A9.thenUpd U4 (λk hk=>by have Ah:k=b2:=hk;omega);have HS_20:=HS.ext Ao;refine Apt<|AOr<|BC3 APa rfl HPb.1 (AOr<|AOz<|AO0<|Aj7 604462909525839610642944 (λj:Nat=>[(48,.int .i64 (j:Int))]) (λk j h'=>k=m - 1 - j/\j<=m - 1/\Ext hq h'/\Axe h' tR tI (Array.size hq) b2 (gs ++ [g4]) v2 (m - 1) ((List.range i).map (λi=>(List.range<|m - 1).map λj=>Ay4 F last i j) ++ [A51 (m - 1) (Ay4 F last i) (λ_=>0) j])) AO4 (m - 1) 0 ?_ ⟨rfl,trivial⟩ ?_)
     ·exact ⟨rfl,Nat.zero_le _,Ao,by rw [BGd,BGe];exact HPb⟩
     rintro k j s3 h5 ⟨rfl,hj,E5,HQ⟩;have Bb:=XQ.trans E5;have Cv:=E5.1;have HS_23:=HS.ext E5;refine AOv<|Amf rfl rfl (λBc=>?_) (λBc=>?_)
     ·refine AOz<|AOx<|Ahp rfl (AO5<|q_t<|AOx<|AO0<|AOv<|AOr<|AO1 ?_);have hd:=hsh.1;have hfit:=λi j hi hj=>A6j hstg AOq AOq (i:=i) (j:=j) hi hj;have q1:=A2y (a:=65535) (b:=34359738368) (x:=F 0 0) (y:=F (i + 1)<|j + 1) ⟨AOq,AOq⟩<|hfit _ _ AOq AOq;have q2:=hsh.2 (i + 1) AOq AOq;have q3:=hsh.2 (j + 1) AOq AOq;rw [<- hstg.sym 0 (j + 1) AOq AOq] at q3;have q4:=A2y (a:=32768) (b:=32768) (x:=F (i + 1) 0) (y:=F 0<|j + 1) ⟨AOq,AOq⟩ ⟨AOq,AOq⟩;unfold Abs at q1 q4;refine Ayd AO4<|AOr<|AOr<|BRp APa rfl HQ rfl (BA5 Ah6) λaQ rQ gQ haQ hgQ hrQ=>?_;refine Ahu Aha rfl haQ (AOr<|AOr<|AOr<|AOr<|Ara rfl AOq (Az1 APe rfl (hrR.ext E5) rfl (As0 AOq) λCw Bi=>Ahu AO9 rfl Bi (Avq rfl rfl AOq AOq (AOr<|Az1 (n:=0) APe rfl (hrR.ext E5) rfl (As0 AOq) λCx Bj=>Ahu AO9 rfl Bj (AOr<|A10 (n:=0) APa rfl HS_23 rfl (Ata AOq) λaZ rZ haZ hrZ=>Ahu Aha rfl haZ (AOr<|Ara rfl AOq (Az1 APe rfl hrZ rfl (As0 AOq) λCy Bl=>Ahu AO9 rfl Bl (Avq rfl rfl AOq AOq (Aui rfl rfl AOq AOq (AOr<|Avu rfl rfl AOq ?_))))))))));have hnf:=A6j (BB2 (m:=m - 1) (by rw [show m - 1 + 1=m by omega];exact hstg) AOq (by rw [show m - 1 + 1=m by omega];exact hsh)) AOq AOq (i:=i) (j:=j) AOq AOq;unfold Abs at hnf;rw [show IntKind.i64.wrap ((F 0 0 * F (i + 1) (j + 1) - F (i + 1) 0 * F 0 (j + 1)).tdiv last)=Ay4 F last i j from Go.QF.wrap_small (by have:(F 0 0 * F (i + 1) (j + 1) - F (i + 1) 0 * F 0 (j + 1)).tdiv last=Ay4 F last i j:=rfl;omega) (by have:(F 0 0 * F (i + 1) (j + 1) - F (i + 1) 0 * F 0 (j + 1)).tdiv last=Ay4 F last i j:=rfl;omega)];refine Azy APe rfl hrQ rfl (by rw [List.length_map,A12];omega) ?_;refine BLx (A51 (m - 1) (Ay4 F last i) (λ_=>0)<|j + 1) AO9 rfl rfl HQ hgQ (BA5 Ah6) hrQ (by rw [A12];omega) (BIb AOq rfl) λh6 Bm U6 C0=>?_;have C1:=U6.1;have C2:=Bb.thenUpd U6 (λk hk=>by have Ah:k=gQ:=hk;omega);have Ap:=E5.thenUpd U6 (λk hk=>by have Ah:k=gQ:=hk;omega);have HS_30:=HS.ext Ap;have Aq:=Bm;rw [BIh Ah6] at Aq;refine Ahh<|q_b<|q_t<|Ag6<|Ara rfl AOq (AOr<|AOz ?_);exact ⟨m - 1 - (j + 1),j + 1,AOq,⟨rfl,AOq,Ap,Aq⟩,rfl,trivial⟩
     ·refine AOz<|AOx<|Aht rfl (Ahf<|Ahg<|Ahg<|Aio<|q_b<|q_t<|Ag6<|Ara rfl AOq (AOr<|AOz ?_));exact ⟨m - 1 - (i + 1),i + 1,AOq,⟨rfl,AOq,E5,gs ++ [g4],by rw [BIa _ _ AOq] at HQ;rw [<- BC2];exact HQ⟩,rfl,trivial⟩
    ·refine AOz<|AOx<|Aht rfl (Ahf<|Ahg<|Ahg<|Aio<|q_t<|AOx ?_);obtain rfl:i=m - 1:=by omega
     have Ar:Axe h3 tR tI (Array.size hq) b2 gs v2 (tab (m - 1) (m - 1)<|Ay4 F last).length (tab (m - 1) (m - 1)<|Ay4 F last):=by rw [Ahv];exact HP
     have HN:=Ar.mat;have hcapn:=Ar.cap;have Bn:=BB2 (m:=m - 1) (by rw [show m - 1 + 1=m by omega];exact hstg) AOq (by rw [show m - 1 + 1=m by omega];exact hsh);have hnx:Stg (m - 1) (Ay4 F last) (F 0 0) (262144 + 16384 * (M.length - ((m - 1:Nat):Int))):=by rw [show (262144 + 16384 * ((M.length:Int) - ((m - 1:Nat):Int)))=262144 + 16384 * ((M.length:Int) - (m:Int)) + 16384 by omega];exact Bn
     refine Ag6<|AOr<|A10 (n:=1) APa rfl HS_11 rfl (Ata AOq) λC3 C4 Bo Bp=>Ahu Aha rfl Bo (Az1 (n:=0) APe rfl Bp rfl (As0 AOq) λC5 Bq=>Ahu AO9 rfl Bq (AO1<|AOx<|AOx ?_));have hd:=hsh.1;have hnf:=A6j hnx AOq AOq (i:=0) (j:=0) AOq AOq;have q5:=A2y (a:=65535) (b:=34359738368) (x:=last) (y:=Ay4 F last 0 0) ⟨AOq,AOq⟩ hnf;have q2:=hsh.2 1 AOq AOq;have q6:=A2y (a:=32768) (b:=32768) (x:=F 1 0) (y:=F 1 0) ⟨AOq,AOq⟩ ⟨AOq,AOq⟩;have q7:=A3m (a:=3 * F 0 0) (b:=F 0 0) (A:=196605) (B:=65535) AOq AOq AOq AOq;unfold Abs at q5 q6;refine Ag6<|AOr<|AOr<|A10 (n:=0) APa rfl HN rfl (Ata AOq) λaN rN haN hrN=>Ahu Aha rfl haN (Az1 (n:=0) APe rfl hrN rfl (As0 AOq) λaO haO=>Ahu AO9 rfl haO (Avq rfl rfl AOq AOq (AOr<|AOr<|Avq rfl rfl AOq AOq (A6t rfl rfl AOq AOq (Avq rfl rfl AOq AOq (AOr<|Avq rfl rfl AOq AOq (AOr<|Avq rfl rfl AOq AOq (Amf rfl rfl (λBu=>?_) (λBu=>?_)))))))))
     ·refine AOz (Ahp rfl (AOv<|AO1<|AO6<|Ag7<|Ail<|Ag7<|Ail<|Ag7<|⟨_,AO7,?_⟩))
      first
       | exact ⟨X9,congrArg Value.bool (show false=isRed M by unfold isRed;rw [show Atk M=false by assumption];rfl)⟩
       | exact ⟨X9,congrArg Value.bool (show false=isRed M by unfold isRed;rw [hred,Aw4 AOq<|of_decide_eq_false (by assumption),Bool.and_false])⟩
       | exact ⟨X9,congrArg Value.bool (show false=isRed M by unfold isRed;rw [hred,A0e AOq (by unfold A27;omega),Bool.and_false])⟩
       | (obtain rfl:m=1:=by omega
          first
          | exact ⟨X9,congrArg Value.bool (show true=isRed M by unfold isRed;rw [hred,<- Ao1 hsm,Axv,decide_eq_true ⟨AOq,AOq⟩];rfl)⟩
          | exact ⟨X9,congrArg Value.bool (show false=isRed M by unfold isRed;rw [hred,Axv,decide_eq_false AOq,Bool.and_false])⟩)
     ·refine AOz<|Aht rfl (AO5<|q_t ?_);have hlov:A27 F last:=by unfold A27;omega
      have hredn:=BG1 (last:=last) AOq hsh hlov;refine Ag6<|AOr<|AOr<|Aho<|Aho<|Ahh<|q_b<|q_t ?_;exact ⟨m - 1,(m - 1,v2,F 0 0,Ay4 F last),by first | omega | (dsimp only;omega),⟨rfl,X9,by first | omega | (dsimp only;omega),by first | omega | (dsimp only;omega),HN,hcapn,hnx,by rw [hred,hredn]⟩,rfl,rfl,trivial⟩
  ·refine AOz<|Aht rfl (Ahf<|Ahg<|Ahg<|Aio<|q_t<|AOv<|AOr<|A10 (n:=0) APa rfl HS rfl (Ata AOq) λC7 C8 Bv Bw=>Ahu Aha rfl Bv (Az1 (n:=0) APe rfl Bw rfl (As0 AOq) λC9 Bx=>Ahu AO9 rfl Bx (Aye rfl rfl (λBy=>?_) (λBy=>?_))))
   ·refine AOr<|Aix 110 true AO4 rfl rfl (AOr<|Aix 110 true AO4 rfl rfl (A10 (n:=0) APa rfl HS rfl (Ata AOq) λDa Db Bz B1=>Aix 110 true AO4 rfl rfl (Ahu Aha rfl Bz (Aix 110 true AO4 rfl rfl (Az1 (n:=0) APe rfl B1 rfl (As0 AOq) λDc B3=>Aix 110 true AO4 rfl rfl (Ahu AO9 rfl B3 (Aix 110 true AO4 rfl rfl (Azz rfl rfl (λB4=>?_) (λB4=>?_)))))))))
    ·refine Ahc rfl (AO1<|AO6<|⟨_,AO7,?_⟩)
     first
      | exact ⟨XQ,congrArg Value.bool (show false=isRed M by unfold isRed;rw [show Atk M=false by assumption];rfl)⟩
      | exact ⟨XQ,congrArg Value.bool (show false=isRed M by unfold isRed;rw [hred,Aw4 AOq<|of_decide_eq_false (by assumption),Bool.and_false])⟩
      | exact ⟨XQ,congrArg Value.bool (show false=isRed M by unfold isRed;rw [hred,A0e AOq (by unfold A27;omega),Bool.and_false])⟩
      | (obtain rfl:m=1:=by omega
         first
         | exact ⟨XQ,congrArg Value.bool (show true=isRed M by unfold isRed;rw [hred,<- Ao1 hsm,Axv,decide_eq_true ⟨AOq,AOq⟩];rfl)⟩
         | exact ⟨XQ,congrArg Value.bool (show false=isRed M by unfold isRed;rw [hred,Axv,decide_eq_false AOq,Bool.and_false])⟩)
    ·refine Ahc rfl (AO1<|AO6<|⟨_,AO7,?_⟩)
     first
      | exact ⟨XQ,congrArg Value.bool (show false=isRed M by unfold isRed;rw [show Atk M=false by assumption];rfl)⟩
      | exact ⟨XQ,congrArg Value.bool (show false=isRed M by unfold isRed;rw [hred,Aw4 AOq<|of_decide_eq_false (by assumption),Bool.and_false])⟩
      | exact ⟨XQ,congrArg Value.bool (show false=isRed M by unfold isRed;rw [hred,A0e AOq (by unfold A27;omega),Bool.and_false])⟩
      | (obtain rfl:m=1:=by omega
         first
         | exact ⟨XQ,congrArg Value.bool (show true=isRed M by unfold isRed;rw [hred,<- Ao1 hsm,Axv,decide_eq_true ⟨AOq,AOq⟩];rfl)⟩
         | exact ⟨XQ,congrArg Value.bool (show false=isRed M by unfold isRed;rw [hred,Axv,decide_eq_false AOq,Bool.and_false])⟩)
   ·refine AOr (Aiq 110 false AO4 rfl rfl (Aiq 110 false AO4 rfl rfl (Aiq 110 false AO4 rfl rfl (Aiq 110 false AO4 rfl rfl (Aiq 110 false AO4 rfl rfl (Aiq 110 false AO4 rfl rfl (APd rfl (AO1<|AO6<|⟨_,AO7,?_⟩))))))))
    first
     | exact ⟨XQ,congrArg Value.bool (show false=isRed M by unfold isRed;rw [show Atk M=false by assumption];rfl)⟩
     | exact ⟨XQ,congrArg Value.bool (show false=isRed M by unfold isRed;rw [hred,Aw4 AOq<|of_decide_eq_false (by assumption),Bool.and_false])⟩
     | exact ⟨XQ,congrArg Value.bool (show false=isRed M by unfold isRed;rw [hred,A0e AOq (by unfold A27;omega),Bool.and_false])⟩
     | (obtain rfl:m=1:=by omega
        first
        | exact ⟨XQ,congrArg Value.bool (show true=isRed M by unfold isRed;rw [hred,<- Ao1 hsm,Axv,decide_eq_true ⟨AOq,AOq⟩];rfl)⟩
        | exact ⟨XQ,congrArg Value.bool (show false=isRed M by unfold isRed;rw [hred,Axv,decide_eq_false AOq,Bool.and_false])⟩)
end Go.Proofs.YtkakafabeobahaaGreatDoor
namespace Go.Proofs.YtkakafabeobahaaGreatDoor
open Go Go.QF
set_option maxRecDepth 100000
open Classical in
noncomputable def BG2 (p:Int):Bool:=decide (2 < p/\p<=9973/\Pr p)
theorem BAa (h:2 < p/\p<=9973/\Pr p):true=BG2 p:=by simp [BG2,h]
theorem A2h (h: ¬ (2 < p/\p<=9973/\Pr p)):false=BG2 p:=by simp [BG2,h]
theorem prB {b:Bool} (h:Asf p=b) (hp:p<=9973):b=true↔Pr p:=by
 subst h;constructor
 ·intro h;exact (BF7 h).2
 ·intro h;exact (A38 AOq h).symm
theorem BM7 (p:Int) (HO:A3p h):Ahs Tryz.prog 47 #[.int .i64 p] h λv h'=>h'=h/\v= .bool (BG2 p):=by
 refine Aie (l:=[_]) mx Tryz.func47 rfl rfl rfl rfl rfl AO4 (AOv<|Ah7<|AOr<|Aye rfl rfl (λAa=>?_) (λAa=>?_))
 ·refine AOr<|Aix 5 true AO4 rfl rfl (AOr<|Aix 5 true AO4 rfl rfl (Azz rfl rfl (λAb=>?_) (λAb=>?_)))
  ·refine Ahc rfl (AOr<|Aix 9 true AO4 rfl rfl (AOr<|Aix 9 true AO4 rfl rfl (Ahq trivial rfl (BOn p HO) λx1 h hk=>?_)));obtain ⟨rfl,rfl⟩:=hk;refine ⟨trivial,?_⟩;cases Ad:Asf p
   ·refine Ahc rfl (AO1<|AO6<|⟨_,AO7,?_⟩)
    first
    | exact ⟨rfl,congrArg Value.bool<|A2h (λhh=>by have:=hh.1;have:=hh.2.1;omega)⟩
    | (have hq:=(prB (by assumption:Asf p=_) AOq);first | exact ⟨rfl,congrArg Value.bool<|BAa ⟨by first | omega | (have:=(hq.1 rfl).1;omega),AOq,hq.1 rfl⟩⟩ | exact ⟨rfl,congrArg Value.bool<|A2h (λhh=>by have:=hq.2 hh.2.2;cases this)⟩)
   ·refine Ahc rfl (AO1<|AO6<|⟨_,AO7,?_⟩)
    first
    | exact ⟨rfl,congrArg Value.bool<|A2h (λhh=>by have:=hh.1;have:=hh.2.1;omega)⟩
    | (have hq:=(prB (by assumption:Asf p=_) AOq);first | exact ⟨rfl,congrArg Value.bool<|BAa ⟨by first | omega | (have:=(hq.1 rfl).1;omega),AOq,hq.1 rfl⟩⟩ | exact ⟨rfl,congrArg Value.bool<|A2h (λhh=>by have:=hq.2 hh.2.2;cases this)⟩)
  ·refine Ahc rfl (AOr<|Aiq 9 false AO4 rfl rfl (Aiq 9 false AO4 rfl rfl (APd rfl (AO1<|AO6<|⟨_,AO7,?_⟩))))
   first
   | exact ⟨rfl,congrArg Value.bool<|A2h (λhh=>by have:=hh.1;have:=hh.2.1;omega)⟩
   | (have hq:=(prB (by assumption:Asf p=_) AOq);first | exact ⟨rfl,congrArg Value.bool<|BAa ⟨by first | omega | (have:=(hq.1 rfl).1;omega),AOq,hq.1 rfl⟩⟩ | exact ⟨rfl,congrArg Value.bool<|A2h (λhh=>by have:=hq.2 hh.2.2;cases this)⟩)
 ·refine AOr (Aiq 5 false AO4 rfl rfl (Aiq 5 false AO4 rfl rfl (APd rfl (AOr<|Aiq 9 false AO4 rfl rfl (Aiq 9 false AO4 rfl rfl (APd rfl (AO1<|AO6<|⟨_,AO7,?_⟩)))))))
  first
  | exact ⟨rfl,congrArg Value.bool<|A2h (λhh=>by have:=hh.1;have:=hh.2.1;omega)⟩
  | (have hq:=(prB (by assumption:Asf p=_) AOq);first | exact ⟨rfl,congrArg Value.bool<|BAa ⟨by first | omega | (have:=(hq.1 rfl).1;omega),AOq,hq.1 rfl⟩⟩ | exact ⟨rfl,congrArg Value.bool<|A2h (λhh=>by have:=hq.2 hh.2.2;cases this)⟩)
open Classical in
noncomputable def Atl (p:Int):Bool:=decide (p<=9973/\Pr p)
theorem Small_ok (p:Int) (h:AO2):Ahs Tryz.prog 97 #[.int .i64 p] h λv h'=>h'=h/\v= .bool (Atl p):=by
 refine Aie (l:=[_]) mx Tryz.func97 rfl rfl rfl rfl rfl AO4 (AOv<|Ah7<|AOr<|Azz rfl rfl (λAa=>?_) (λAa=>?_))
 ·refine AOr<|Aix 5 true AO4 rfl rfl (AOr<|Aix 5 true AO4 rfl rfl (Ahq trivial rfl (BId p _) λx1 h hk=>?_));obtain ⟨rfl,rfl⟩:=hk;refine ⟨trivial,?_⟩;cases Ac:Asf p
  ·refine Ahc rfl (AO1<|AO6<|⟨_,AO7,?_⟩)
   first
   | exact ⟨rfl,congrArg Value.bool (show false=Atl p by simp [Atl];intro hh;omega)⟩
   | (have hq:=(prB (by assumption:Asf p=_) AOq);first | exact ⟨rfl,congrArg Value.bool (show true=Atl p by simp [Atl];exact ⟨AOq,hq.1 rfl⟩)⟩ | exact ⟨rfl,congrArg Value.bool (show false=Atl p by simp [Atl];intro _ hh;have:=hq.2 hh;cases this)⟩)
  ·refine Ahc rfl (AO1<|AO6<|⟨_,AO7,?_⟩)
   first
   | exact ⟨rfl,congrArg Value.bool (show false=Atl p by simp [Atl];intro hh;omega)⟩
   | (have hq:=(prB (by assumption:Asf p=_) AOq);first | exact ⟨rfl,congrArg Value.bool (show true=Atl p by simp [Atl];exact ⟨AOq,hq.1 rfl⟩)⟩ | exact ⟨rfl,congrArg Value.bool (show false=Atl p by simp [Atl];intro _ hh;have:=hq.2 hh;cases this)⟩)
 ·refine AOr (Aiq 5 false AO4 rfl rfl (Aiq 5 false AO4 rfl rfl (APd rfl (AO1<|AO6<|⟨_,AO7,?_⟩))))
  first
  | exact ⟨rfl,congrArg Value.bool (show false=Atl p by simp [Atl];intro hh;omega)⟩
  | (have hq:=(prB (by assumption:Asf p=_) AOq);first | exact ⟨rfl,congrArg Value.bool (show true=Atl p by simp [Atl];exact ⟨AOq,hq.1 rfl⟩)⟩ | exact ⟨rfl,congrArg Value.bool (show false=Atl p by simp [Atl];intro _ hh;have:=hq.2 hh;cases this)⟩)
end Go.Proofs.YtkakafabeobahaaGreatDoor
namespace Go.Proofs.YtkakafabeobahaaGreatDoor
open Go Go.QF
noncomputable def Ayb (fuel:Nat) (M:List (List Int)):Option Bool:=some<|isRed M
theorem A7t {r:Bool} (H:Ajw (cI .i64) h v M) (hp:Ayb fuel M=some r):Ahs Tryz.prog 41 #[v] h (λx h'=>Ext h h'/\x= .bool r):=by
 cases hp;exact A99 (BPy H) H.1
noncomputable def BB3 (fuel:Nat) (n:Int):Option Bool:=some<|Asf n
theorem BG3 {n:Int} {r:Bool} (HO:A3p h) (hp:BB3 fuel n=some r):Ahs Tryz.prog 92 #[.int .i64 n] h (λx h'=>Ext h h'/\x= .bool r):=by
 cases hp;exact (BOn n HO).mono λx h' ⟨he,hx⟩=>⟨he ▸ Ext.refl _,hx⟩
noncomputable def A7u (fuel:Nat) (n:Int):Option Bool:=some<|BG2 n
theorem BB4 {n:Int} {r:Bool} (HO:A3p h) (hp:A7u fuel n=some r):Ahs Tryz.prog 47 #[.int .i64 n] h (λx h'=>Ext h h'/\x= .bool r):=by
 cases hp;exact (BM7 n HO).mono λx h' ⟨he,hx⟩=>⟨he ▸ Ext.refl _,hx⟩
end Go.Proofs.YtkakafabeobahaaGreatDoor
namespace Go.Proofs.YtkakafabeobahaaGreatDoor
open Go Go.QF
set_option maxRecDepth 100000
set_option maxHeartbeats 40000000
noncomputable def Aur (fuel:Nat) (Ad:LiA) (Aa Ab Ac:Int):Option ((Int × Int × Int) ⊕ (Int × Int)):=
 if 0<=Aa then (gI Ad Aa).bind λAe=>if 0<=Aa/\Aa<=64 then (((A2e fuel Ab Ae).bind λ(Af,Ag,Ak)=>(A7o fuel Ag).bind λAh=>if ¬ Ah=0 then some (false,Ab,Ac) else some (true,Af,w64<|Ac + w64 (1 * 2 ^ Int.toNat Aa))):Option (Bool × Int × Int)).bind λ(Am,Ai,Aj)=>some (.inl (w64<|Aa - 1,Ai,Aj)) else none else some<|.inr (Ab,Ac)
noncomputable def Aus (fuel:Nat) (Aa:LiA) (Ac Ad:Int):Option ((LiA × Int × Int) ⊕ (LiA × Int × Int)):=
 (gI Aa<|w64<|(Aa.length:Int) - 1).bind λAb=>if 0<=w64 ((Aa.length:Int) - 1)/\w64 ((Aa.length:Int) - 1)<=64 then (((A2e fuel Ac Ab).bind λ(Ag,Ah,Am)=>(A7o fuel Ah).bind λAi=>if ¬ Ai=0 then some (false,Ac,Ad) else some (true,Ag,w64<|Ad + w64 (1 * 2 ^ Int.toNat (w64<|(Aa.length:Int) - 1)))):Option (Bool × Int × Int)).bind λ(Aj,Ae,Af)=>if Aj=true then (BFb fuel Ab Ab).bind λAk=>if Aa.length<=100000000 then some (.inl (Aa ++ [Ak],Ae,Af)) else none else some (.inr (Aa,Ae,Af)) else none
noncomputable def Ark (fuel:Nat) (a1 a5:Int):Option (Int × Int × Int):=
 (BB3 fuel a5).bind λAd=>if (!Ad)=true then some (0,0,20) else (A7o fuel a1).bind λAe=>if Ae=0 then some (0,0,1) else (A2f fuel a1).bind λAf=>(A6h fuel a5).bind λAg=>(iter (λs=>Aus fuel s.1 s.2.1 s.2.2) fuel ([Ag],Af,0)).bind (λ((Ac,Ah,Ai):LiA × Int × Int)=>(iter (λs=>Aur fuel Ac s.1 s.2.1 s.2.2) fuel (w64<|(Ac.length:Int) - 2,Ah,Ai)).bind (λ((Aj,Ak):Int × Int)=>some (Ak,Aj,0)))
theorem A2i {Bh:Value} {r:(Int × Int × Int)} (H3:ZZ h Bh a1) (HO:A3p h) (hp:Ark fuel a1 a5=some r):Ahs Tryz.prog 96 #[Bh,(.int .i64 a5)] h (λx h'=>Ext h h'/\ ∃ (x1:Value),x= .tuple #[.int .i64 r.1,x1,.int .i64 r.2.2]/\ZZ h' x1 r.2.1):=by
 unfold Ark at hp;obtain ⟨Ci,rfl,Am⟩:=H3.cs;refine cwf (l:=[_,_]) Tryz.func96 rfl rfl (AOv<|Ano (Kst.k0 h) Ci λb6 h7 E9 Cj=>Aho<|Aj4 Cj [.bool false,.slice none 0 0] Ams λFp Fq Fr Bm=>AO1<|AOx<|AOv<|AOr ?_);obtain ⟨Ft,Ck,Bn⟩:=AOw hp;refine Akb Bm (BG3 (HO.ext Bm.x) Ck) λBo Fu Aj=>Akc rfl (AOz<|⟨_,rfl,λAx=>?_,λAx=>?_⟩)
 ·refine AOv<|Alh (Awk )<|Aho<|Anz Aj p0 (Ahd Bo) (Ahd Bo) λBp Bq=>AO1<|AO6<|Ag7 ?_;obtain rfl:=AOu<|ifT Bn Ax;exact ⟨_,A7d Aip (cZ.klen<|Ahd Bp) rfl (Bq.b p0),Bq.x,_,rfl,(Ahd Bp).2⟩
 ·refine AO5<|q_t<|AOx<|AOv<|Asj (Aj.zx Am) (Aj.b p1) ?_;obtain ⟨Fv,Cm,Br⟩:=AOw<|Aok Bn Ax;refine Akb Aj (A6i (Aj.zx Am).2 Cm) λBt Fw Ak=>Ai0 rfl rfl (AOz<|⟨_,rfl,λAy=>?_,λAy=>?_⟩)
  ·refine AOv<|Alh (Awk )<|Aho<|Anz Ak p0 (Ahd Bt) (Ahd Bt) λBu Bv=>AO1<|AO6<|Ag7 ?_;obtain rfl:=AOu<|Ahy Br Ay;exact ⟨_,A7d Aip (cZ.klen<|Ahd Bu) rfl (Bv.b p0),Bv.x,_,rfl,(Ahd Bu).2⟩
  ·refine AO5<|q_t<|AOv<|Asj (Ak.zx Am) (Ak.b p1) ?_;obtain ⟨Cn,Co,Cp⟩:=AOw<|Ahz Br Ay;refine Avd Ak (A4o (Ak.zx Am).2 Co) λCq Fx Fy Cr=>Aj4 Cr [.bool false,.slice none 0 0] Ams λAe Ct Fz Bw=>Anz Bw p0 (Ahd Ct) (Bw.z p1) λF4 Cu=>Apt<|Aj4 Cu [(.int .i64 0)] A3o λAf F5 F6 Bx=>Awc [(.int .i64 0)] Aii rfl rfl rfl (Bx.b p0) (Nat.le_of_ble_eq_true rfl) rfl λF7 Cv Cw=>Apt<|BO5 rfl (AO1<|AOx ?_);refine Ag6<|AOr ?_;obtain ⟨Cx,Cy,Cz⟩:=AOw Cp;refine Avd (Bx.sb p0 Cw Cv rfl) (A7p Cy) λF8 F9 Ga By=>BPh Aj8 Ams rfl trivial tt2 (By.z p0) rfl λC0 C1 Gb C2 C3 C4 C5=>AO1<|AOx<|AO0 ?_;have Az:=(By.no C3 (Anw C4 C5) C2).sel [0,2,3,4,5] AOs;dsimp only [Aoz,Ar4] at Az;refine Amy 2251799679470592 (λx:(LiA) × (Value) × LnA × (Int) × LvA × (Int)=>(x.1,x.2.2.2.1,x.2.2.2.2.2)) (([Cx],C1,[C0],Cn,Cq,0):(LiA) × (Value) × LnA × (Int) × LvA × (Int)) Cz (λx=>[(10,x.2.1)]) (λx=>(((Az.L.set 0<|aO cZ 129 x.2.2.1 x.2.1 x.1).set 3 (aZ x.2.2.2.2.1 x.2.2.2.1)).set 2 (aB 129 Ae x.2.2.2.2.1)).set 1 (aB 3 Af [(.int .i64 x.2.2.2.2.2)])) Az ⟨rfl,trivial⟩ ?_;rintro ⟨Ao,Gc,Gd,C6,C7,A3⟩ Ge Gf Gg Ap Bz C8;unfold Aus at Bz;refine AOx<|AOx<|Ame<|AOr<|AOr<|AOr<|Aim Aj8 rfl (Ap.o p0).rd (Amr rfl rfl ?_);obtain ⟨Gh,Aq,C9⟩:=AOw Bz;refine A18 Aj8 rfl (Ap.o p0) rfl Aq λGi Da=>?_;obtain ⟨B1,Db,Dc⟩:=(Ap.o p0).cells Da Aq;have Ar:=Ap.az Db;refine Aum (c:=cZ) Aip rfl (Ar.z p0) (λj u hu=>(Dc j u hu)) (AOr<|Aim Aj8 rfl (Ar.o p1).rd (Amr rfl rfl ?_));obtain ⟨Dd,De⟩:=ifN C9;refine A00 rfl rfl Dd ?_;obtain ⟨Df,Dg,B3⟩:=AOw De;refine A56 (l:=[(.agg (B1).toArray),(.int .i64<|w64<|1 * 2 ^ Int.toNat (w64<|(Ao.length:Int) - 1))]) (cl:=[(.pointer<|some ⟨Ae,0,none⟩),(.pointer<|some ⟨Af,0,none⟩)]) (K':=(λxr h'=> ∃ x:(Bool) × (Int) × LvA × (Int),(x.1,x.2.1,x.2.2.2)=Df/\xr=(.bool x.1)/\Kst h h' (((Ar.L.set 4<|aZ x.2.2.1 x.2.1).set 3 (aB 129 Ae x.2.2.1)).set 2 (aB 3 Af [(.int .i64 x.2.2.2)])))) trivial rfl rfl ?_ λGj Gk Dh=>?_
   ·refine cwf (l:=[_,_,_,_]) Tryz.func157 rfl rfl (AOv<|Ano Ar B1 λGl Gm Gn Ab=>Ah7<|Asj (Ab.z p5) (Ab.b p4)<|Asj (Ab.z p1) (Ab.b p0) ?_);obtain ⟨⟨Di,Gp,Gq⟩,Dj,B4⟩:=AOw Dg;dsimp only at B4;refine Aqs rfl (A5b (Ab.z p5).2 (Ab.z p1).2 Dj) λGr Gt Dk Dl=>?_;obtain ⟨Gu,Gv,rfl,Do,Dp⟩:=Dl;obtain ⟨Dq,rfl,Dr⟩:=Do.cs;obtain ⟨Gw,rfl,Ds⟩:=Dp.cs;refine AOr<|Ait rfl rfl (Ait rfl rfl (Ait rfl rfl (Aj4 (((Ab.e Dk).az Dr).az Ds) [.bool false,.slice none 0 0] Ams λGx Gy Gz Dt=>Aj4 Dt [.bool false,.slice none 0 0] Ams λG3 Du G4 B5=>Anz B5 p1 (Ahd Du) (B5.z p3) λDv B6=>Anz B6 p0 (Ahd Dv) (B6.z p2) λG5 Au=>AO1<|AOx<|AOv<|Asj (Au.z p2) (Au.b p0) ?_)));obtain ⟨G6,Dw,B7⟩:=AOw B4;refine Akb Au (A6i (Au.z p2).2 Dw) λG7 G8 Ag=>Ajs rfl rfl (AOz<|⟨_,rfl,λA4=>?_,λA4=>?_⟩)
    ·refine AOv<|AO1<|AO6<|Ag7<|⟨_,AO7,((false,C6,C7,A3):(Bool) × (Int) × LvA × (Int)),?_,rfl,?_⟩
     ·exact AOu<|Ahy B7 A4
     ·exact Ag.sel [5,6,7,8,9,10] AOs
    ·refine AO5<|q_t<|AOv<|Asj (Ag.z p3) (Ag.b p1)<|Anz Ag p8 (Ag.z p9) (Ag.z p3) λG9 A5=>Apt<|Ahu Aii rfl ((A5.b p7).cell (i:=0) rfl) (AOr<|Ahk rfl rfl (Awc [(.int .i64<|w64<|A3 + (w64<|1 * 2 ^ Int.toNat (w64<|(Ao.length:Int) - 1)))] Aii rfl rfl rfl (A5.b p7) (Nat.le_of_ble_eq_true rfl) rfl λHb Dx Dy=>Apt ?_));refine AO1<|AO6<|⟨_,AO7,((true,Di,Dq,(w64<|A3 + (w64<|1 * 2 ^ Int.toNat (w64<|(Ao.length:Int) - 1)))):(Bool) × (Int) × LvA × (Int)),?_,rfl,?_⟩
     ·exact AOu<|Ahz B7 A4
     ·exact (A5.sb p7 Dy Dx rfl).sel [5,6,7,8,3,10] AOs
   obtain ⟨⟨Hc,Dz,D0,D1⟩,D2,rfl,Ah⟩:=Dh;refine ⟨trivial,?_⟩;subst D2;refine AOz<|⟨_,rfl,λA6=>?_,λA6=>?_⟩
   ·refine AO5<|q_t<|AO0<|AOv<|AOr<|AOr<|Aim Aj8 rfl (Ah.o p1).rd (Amr rfl rfl (A18 Aj8 rfl (Ah.o p1) rfl Aq λHd D3=>?_));obtain ⟨He,D4,D5⟩:=(Ah.o p1).cells D3 Aq;have B8:=Ah.az D4;refine Aum (c:=cZ) Aip rfl (B8.z p0) (λj u hu=>(D5 j u hu)) (Aj4 B8 [.bool false,.slice none 0 0] Ams λHf D6 Hg B9=>Anz B9 p0 (Ahd D6) (B9.z p1) λHh Ac=>AOz<|Ag6<|AOr<|Asj (Ac.z p1) (Ac.b p0)<|Asj (Ac.z p1) (Ac.b p0) ?_);obtain ⟨Hj,D7,D8⟩:=AOw<|ifT B3 A6;refine Avd Ac (BDs (Ac.z p1).2 (Ac.z p1).2 D7) λHk Hl Hm A7=>?_;obtain ⟨D9,Ea⟩:=ifN D8;refine Ar6 Aj8 Ams rfl rfl trivial tt2 (λ_=>rfl) rfl (A7.z p0) (A7.o p4) AOs D9 λHn Ho Hq Hr Eb Ec Ed=>Aho<|Ahh<|q_b<|q_t ?_;exact ⟨(_,_,_,_,_,_),(AOu Ea).symm,(A7.uo p4 Ec Eb Ed).sel [4,5,6,7,8] AOs,rfl,trivial⟩
   ·refine Ahf<|Ahg<|Ahg<|Aio<|q_t<|AOx<|AOv<|AOr<|Aim Aj8 rfl (Ah.o p1).rd (Amr rfl rfl (AO1<|AO0 ?_));have A8:=Ah.sel [1,2,3,4,5] AOs;dsimp only [Aoz,Ar4] at A8;refine Amy 73768961896328728576 (λx:(Int) × (Int) × LvA × (Int)=>(x.1,x.2.1,x.2.2.2)) (((w64<|(Ao.length:Int) - 2),Dz,D0,D1):(Int) × (Int) × LvA × (Int)) (C8 _ (AOu<|Aok B3 A6).symm) (λx=>[(12,(.int .i64 x.1))]) (λx=>((A8.L.set 3<|aZ x.2.2.1 x.2.1).set 2 (aB 129 Ae x.2.2.1)).set 1 (aB 3 Af [(.int .i64 x.2.2.2)])) A8 ⟨rfl,trivial⟩ ?_;rintro ⟨A9,Ee,Ef,Ba⟩ Hs Eg Ht Aa Bb Eh;unfold Aur at Bb;refine AOx<|AOv<|AOr<|At7 rfl rfl (AOz<|⟨_,rfl,λBc=>?_,λBc=>?_⟩)
    ·refine AO5<|q_t<|AOx<|AO0<|Ame<|AOr<|AOr<|AOr ?_;obtain ⟨Hu,Ca,Ei⟩:=AOw<|Ahy Bb Bc;refine A18 Aj8 rfl (Aa.o p0) rfl Ca λHv Ej=>?_;obtain ⟨Cb,Ek,El⟩:=(Aa.o p0).cells Ej Ca;have Be:=Aa.az Ek;refine Aum (c:=cZ) Aip rfl (Be.z p0) (λj u hu=>(El j u hu)) (AOr ?_);obtain ⟨Em,En⟩:=ifN Ei;refine A00 rfl rfl Em ?_;obtain ⟨Eo,Ep,Er⟩:=AOw En;refine A56 (l:=[(.agg (Cb).toArray),(.int .i64<|w64<|1 * 2 ^ Int.toNat A9)]) (cl:=[(.pointer<|some ⟨Ae,0,none⟩),(.pointer<|some ⟨Af,0,none⟩)]) (K':=(λxr h'=> ∃ x:(Bool) × (Int) × LvA × (Int),(x.1,x.2.1,x.2.2.2)=Eo/\xr=(.bool x.1)/\Kst h h' (((Be.L.set 4<|aZ x.2.2.1 x.2.1).set 3 (aB 129 Ae x.2.2.1)).set 2 (aB 3 Af [(.int .i64 x.2.2.2)])))) trivial rfl rfl ?_ λHw Hx Es=>?_
     ·refine cwf (l:=[_,_,_,_]) Tryz.func157 rfl rfl (AOv<|Ano Be Cb λHy Hz H5 Ad=>Ah7<|Asj (Ad.z p5) (Ad.b p4)<|Asj (Ad.z p1) (Ad.b p0) ?_);obtain ⟨⟨Et,Ia,Ib⟩,Eu,Cd⟩:=AOw Ep;dsimp only at Cd;refine Aqs rfl (A5b (Ad.z p5).2 (Ad.z p1).2 Eu) λIc Id Ev Ew=>?_;obtain ⟨Ie,If,rfl,Ey,Ez⟩:=Ew;obtain ⟨Fa,rfl,Fb⟩:=Ey.cs;obtain ⟨Ih,rfl,Fc⟩:=Ez.cs;refine AOr<|Ait rfl rfl (Ait rfl rfl (Ait rfl rfl (Aj4 (((Ad.e Ev).az Fb).az Fc) [.bool false,.slice none 0 0] Ams λIi Ij Ik Fd=>Aj4 Fd [.bool false,.slice none 0 0] Ams λIl Fe Im Ce=>Anz Ce p1 (Ahd Fe) (Ce.z p3) λFf Cf=>Anz Cf p0 (Ahd Ff) (Cf.z p2) λIo Av=>AO1<|AOx<|AOv<|Asj (Av.z p2) (Av.b p0) ?_)));obtain ⟨Ip,Fg,Cg⟩:=AOw Cd;refine Akb Av (A6i (Av.z p2).2 Fg) λIq Ir Ai=>Ajs rfl rfl (AOz<|⟨_,rfl,λBf=>?_,λBf=>?_⟩)
      ·refine AOv<|AO1<|AO6<|Ag7<|⟨_,AO7,((false,Ee,Ef,Ba):(Bool) × (Int) × LvA × (Int)),?_,rfl,?_⟩
       ·exact AOu<|Ahy Cg Bf
       ·exact Ai.sel [5,6,7,8,9,10] AOs
      ·refine AO5<|q_t<|AOv<|Asj (Ai.z p3) (Ai.b p1)<|Anz Ai p8 (Ai.z p9) (Ai.z p3) λIs Bg=>Apt<|Ahu Aii rfl ((Bg.b p7).cell (i:=0) rfl) (AOr<|Ahk rfl rfl (Awc [(.int .i64<|w64<|Ba + (w64<|1 * 2 ^ Int.toNat A9))] Aii rfl rfl rfl (Bg.b p7) (Nat.le_of_ble_eq_true rfl) rfl λIt Fh Fi=>Apt ?_));refine AO1<|AO6<|⟨_,AO7,((true,Et,Fa,(w64<|Ba + (w64<|1 * 2 ^ Int.toNat A9))):(Bool) × (Int) × LvA × (Int)),?_,rfl,?_⟩
       ·exact AOu<|Ahz Cg Bf
       ·exact (Bg.sb p7 Fi Fh rfl).sel [5,6,7,8,3,10] AOs
     obtain ⟨⟨Iu,Iv,Iw,Ix⟩,Fj,rfl,Fk⟩:=Es;refine ⟨trivial,?_⟩;subst Fj;refine Ahh<|q_b<|q_t<|Ag6<|AOr<|Amr rfl rfl (AO1 ?_);exact ⟨(_,_,_,_),(AOu Er).symm,Fk.sel [1,2,3,4,5] AOs,rfl,trivial⟩
    ·refine Ahf<|Ahg<|Ahg<|Aio<|q_t<|AOx<|Ame<|Ahu Aii rfl ((Aa.b p1).cell (i:=0) rfl) (Asj (Aa.z p3) (Aa.b p2)<|Aho<|Anz Aa p4 (Ahd Eg) (Aa.z p3) λIy Aw=>AO1<|AO6 ?_);obtain rfl:=AOu<|Eh _ (AOu<|Ahz Bb Bc).symm;exact ⟨_,A7d Aip (cZ.klen<|Aw.z p3) rfl (Aw.b p4),Aw.x,_,rfl,(Aw.z p3).2⟩
noncomputable def Ao2 (fuel:Nat) (a3:LiI) (a5:Int):Option Int:=
 (Arj fuel a3).bind λ(x6,x7)=>(Ax5 fuel x6).bind λ(Ae,Ag)=>(Ark fuel Ae a5).bind λ(Ab,Ah,Ai)=>if a5=2 then some (w64<|Ab + 3) else some<|w64<|Ab + 1
theorem Aww {r:Int} (H2:Ajw (cI .i64) h Ad a3) (HO:A3p h) (hp:Ao2 fuel a3 a5=some r):Ahs Tryz.prog 50 #[Ad,(.int .i64 a5)] h (λx h'=>Ext h h'/\x= .int .i64 r):=by
 unfold Ao2 at hp;refine cwf (l:=[_,_]) Tryz.func50 rfl rfl (AOv<|Ah7<|AOr ?_);have K0:=Kst.k0 h;obtain ⟨⟨x6,x7⟩,Aq,Ah⟩:=AOw hp;dsimp only at Ah;refine Aqs rfl (A2g (H2.ext K0.x) Aq) λBf Bg Ar Au=>?_;obtain ⟨Bh,Bi,Bj,Bl,rfl,Av,Aw⟩:=Au;refine AOr<|Ait rfl rfl (Ait rfl rfl (Aho<|Ah7<|AOr ?_));have Ai:=K0.no2 Ar Aw Av;obtain ⟨⟨Bm,Bn⟩,Ax,Aj⟩:=AOw Ah;dsimp only at Aj;refine Aqs rfl (A54 (Ai.o2 p0).rd Ax) λBo Bp Ay Az=>?_;obtain ⟨Bq,rfl,A3⟩:=Az;obtain ⟨Br,rfl,A4⟩:=A3.cs;refine AOr<|Ait rfl rfl (Ait rfl rfl (Aj4 ((Ai.e Ay).az A4) [.bool false,.slice none 0 0] Ams λBt A5 Bu Ak=>Anz Ak p0 (Ahd A5) (Ak.z p1) λBv Aa=>Ah7<|Asj (Aa.z p1) (Aa.b p0)<|AOr ?_));obtain ⟨⟨Bw,Bx,By⟩,A6,Ab⟩:=AOw Aj;dsimp only at Ab;refine Aqs rfl (A2i (Aa.z p1).2 (HO.ext Aa.x) A6) λBz B1 A7 A8=>?_;obtain ⟨B3,rfl,A9⟩:=A8;obtain ⟨B4,rfl,Ba⟩:=A9.cs;refine AOr<|Ait rfl rfl (Ait rfl rfl (Ait rfl rfl (Aj4 ((Aa.e A7).az Ba) [.bool false,.slice none 0 0] Ams λB5 Bb B6 Am=>Aho<|Anz Am p0 (Ahd Bb) (Am.z p1) λB7 Ao=>AO1<|AOx<|AOv<|AOr<|Ai0 rfl rfl (AOz<|⟨_,rfl,λAc=>?_,λAc=>?_⟩))))
 ·refine AOv<|AOr<|Ahk rfl rfl (AO1<|AO6<|Ag7 ?_);obtain rfl:=AOu<|Ahy Ab Ac;exact ⟨_,AO7,Ao.x,rfl⟩
 ·refine AO5<|q_t<|AOv<|AOr<|Ahk rfl rfl (AO1<|AO6 ?_);obtain rfl:=AOu<|Ahz Ab Ac;exact ⟨_,AO7,Ao.x,rfl⟩
noncomputable def Ao3 (fuel:Nat) (a3:LiI) (a5:Int):Option (Int × Int):=
 (Ayb fuel a3).bind λx6=>if (!x6)=true then some (0,6) else if ¬ a5=2 then (A7u fuel a5).bind λAd=>if (!Ad)=true then some (0,20) else (Ao2 fuel a3 a5).bind λAe=>some (Ae,0) else (Ao2 fuel a3 a5).bind λAf=>some (Af,0)
theorem A1q {r:(Int × Int)} (H2:Ajw (cI .i64) h Ah a3) (HO:A3p h) (hp:Ao3 fuel a3 a5=some r):Ahs Tryz.prog 42 #[Ah,(.int .i64 a5)] h (λx h'=>Ext h h'/\x= .tuple #[.int .i64 r.1,.int .i64 r.2]):=by
 unfold Ao3 at hp;refine cwf (l:=[_,_]) Tryz.func42 rfl rfl (AOv<|Aho<|AO1<|AOx<|AOv<|AOr ?_);have K0:=Kst.k0 h;obtain ⟨x6,Ap,Ak⟩:=AOw hp;refine Akb K0 (A7t (H2.ext K0.x) Ap) λA3 E9 Aa=>Akc rfl (AOz<|⟨_,rfl,λAf=>?_,λAf=>?_⟩)
 ·refine AOv<|Aho<|AO1<|AO6<|Ag7 ?_;obtain rfl:=AOu<|ifT Ak Af;exact ⟨_,Aiz,Aa.x,rfl⟩
 ·refine AO5<|q_t<|AOx<|AOv<|AOr<|Ajs rfl rfl (AOr ?_);have Am:=Aok Ak Af;by_cases Ab: ¬ a5=2
  ·rw [decide_eq_true Ab];refine Ahb 11 true<|AOr<|Ahb 11 true ?_;obtain ⟨A5,Aq,Ao⟩:=AOw<|ifT Am Ab;refine Akb Aa (BB4 (HO.ext Aa.x) Aq) λA6 A7 Ac=>Ahb 11 true<|Akc rfl (Ahc rfl (AOz<|⟨_,rfl,λAg=>?_,λAg=>?_⟩))
   ·refine AOv<|Aho<|AO1<|AO6<|Ag7 ?_;obtain rfl:=AOu<|ifT Ao Ag;exact ⟨_,Aiz,Ac.x,rfl⟩
   ·refine AO5<|q_t<|AOv<|AOr<|AOr ?_;obtain ⟨A8,Ar,Au⟩:=AOw<|Aok Ao Ag;refine Akb Ac (Aww (H2.ext Ac.x) (HO.ext Ac.x) Ar) λA9 Ba Av=>Aho<|AO1<|AO6 ?_;obtain rfl:=AOu Au;exact ⟨_,Aiz,Av.x,rfl⟩
  ·rw [decide_eq_false Ab];refine Aki 11 false<|APd rfl (AOz<|Aht rfl (AO5<|q_t<|AOv<|AOr<|AOr ?_));obtain ⟨Bb,Aw,Ax⟩:=AOw<|ifF Am Ab;refine Akb Aa (Aww (H2.ext Aa.x) (HO.ext Aa.x) Aw) λBc Be Ay=>Aho<|AO1<|AO6 ?_;obtain rfl:=AOu Ax;exact ⟨_,Aiz,Ay.x,rfl⟩
def Alz (fuel:Nat) (a2 Ab Ac:Int):Option ((Int × Int) ⊕ Int):=
 ((if ¬ Ab=0 then if a2≠0 then if Int.tmod Ab a2=0 then some (.inl ()) else some (.inr ()) else none else some<|.inr ()):Option (Unit ⊕ Unit)).bind (λex=>match ex with | .inl _=>(if a2≠0 then some (.inl (w64<|Int.tdiv Ab a2,w64<|Ac + 1)) else none) | .inr _=>some<|.inr Ac)
def Aig (fuel:Nat) (a1 a2:Int):Option Int:=
 (iter (λs=>Alz fuel a2 s.1 s.2) fuel (a1,0)).bind (λ(Ac:Int)=>some Ac)
theorem Ajq {r:Int} (hp:Aig fuel a1 a2=some r):Ahs Tryz.prog 77 #[(.int .i64 a1),(.int .i64 a2)] h (λx h'=>Ext h h'/\x= .int .i64 r):=by
 unfold Aig at hp;refine cwf (l:=[_,_]) Tryz.func77 rfl rfl (AOv<|Ah7<|AO1<|AOx<|AO0 ?_);have K0:=Kst.k0 h;refine Arf 524257 hp (λx=>[(0,(.int .i64 x.1)),(5,(.int .i64 x.2))]) (λx=>K0.L) K0 ⟨rfl,rfl,trivial⟩ ?_;rintro ⟨u9,Aw⟩ Ax h6 y5 K8 Ah Ai;unfold Alz at Ah;obtain ⟨Ao,Aj,Ac⟩:=AOw Ah;refine Arb 16320 (λx:Unit=>[]) (λx h'=>(Sum.inl <| ())=Ao/\Kst h h' (K8.L)) ?_ ?_
 ·refine AOv<|AOr<|Ajs rfl rfl (AOr ?_);by_cases Ab: ¬ u9=0
  ·rw [decide_eq_true Ab];refine Ahb 8 true<|AOr<|Ahb 8 true<|AOr<|Ahb 8 true ?_;obtain ⟨Ap,Ak⟩:=ifN<|ifT Aj Ab;refine Aj6 rfl rfl Ap (Ahb 8 true<|Ai0 rfl rfl (Ahc rfl (AOz<|⟨_,rfl,λAd=>?_,λAd=>?_⟩)))
   ·refine AO5<|q_t ?_;exact ⟨(():Unit),⟨AOu<|Ahy Ak Ad,K8⟩,trivial⟩
   ·obtain rfl:=AOu<|Ahz Ak Ad;refine Ahf<|Ahg<|Ahg<|Aio<|q_t<|AOv<|AOr<|AO1<|AO6 ?_;obtain rfl:=AOu<|Ai _ (AOu Ac).symm;exact ⟨_,AO7,K8.x,rfl⟩
  ·rw [decide_eq_false Ab];refine Alf 8 false<|APd rfl (AOz<|Aht rfl ?_);obtain rfl:=AOu<|ifF Aj Ab;refine Ahf<|Ahg<|Ahg<|Aio<|q_t<|AOv<|AOr<|AO1<|AO6 ?_;obtain rfl:=AOu<|Ai _ (AOu Ac).symm;exact ⟨_,AO7,K8.x,rfl⟩
 rintro ⟨⟩ A3 A4 ⟨Aq,Ar⟩;subst Aq;refine AO0<|AOv<|AOr<|AOr ?_;obtain ⟨Au,Av⟩:=ifN Ac;refine Avu rfl rfl Au (AO1<|Ag6<|AOr<|Ahk rfl rfl (Aho<|Ahh<|q_b<|q_t ?_));exact ⟨_,(AOu Av).symm,Ar,rfl,rfl,trivial⟩
def Arz (fuel:Nat) (a1 a2 s8 s9:Int):Option ((Int × Int) ⊕ Int):=
 if s9 < a2 then some (.inl (w64<|s8 * a1,w64<|s9 + 1)) else some<|.inr s8
def Ajl (fuel:Nat) (a1 a2:Int):Option Int:=
 (iter (λs=>Arz fuel a1 a2 s.1 s.2) fuel (1,0)).bind (λ(Ac:Int)=>some Ac)
theorem Alo {r:Int} (hp:Ajl fuel a1 a2=some r):Ahs Tryz.prog 34 #[(.int .i64 a1),(.int .i64 a2)] h (λx h'=>Ext h h'/\x= .int .i64 r):=by
 unfold Ajl at hp;refine cwf (l:=[_,_]) Tryz.func34 rfl rfl (AOv<|Ah7<|AO1<|AOx<|AOv<|AO1<|AO0 ?_);have K0:=Kst.k0 h;refine Arf 32736 hp (λx=>[(5,(.int .i64 x.1)),(6,(.int .i64 x.2))]) (λx=>K0.L) K0 ⟨rfl,rfl,trivial⟩ ?_;rintro ⟨u9,Ai⟩ Aj h6 y5 K8 Aa Ag;unfold Arz at Aa;refine AOx<|AOv<|AOr<|AOr<|Ahn rfl rfl (AOz<|⟨_,rfl,λAb=>?_,λAb=>?_⟩)
 ·refine AO5<|q_t<|AOx<|AO0<|Ag6<|AOr<|AOr<|Aou rfl rfl (Aho<|Ahh<|q_b<|q_t<|Ag6<|AOr<|Ahk rfl rfl (AO1 ?_));exact ⟨_,(AOu<|Ahy Aa Ab).symm,K8,rfl,rfl,trivial⟩
 ·refine Ahf<|Ahg<|Ahg<|Aio<|q_t<|AOv<|AOr<|AO1<|AO6 ?_;obtain rfl:=AOu<|Ag _ (AOu<|Ahz Aa Ab).symm;exact ⟨_,AO7,K8.x,rfl⟩
def Apz (fuel:Nat) (a3:LiI):Option Int:=
 (Ak9 fuel a3).bind λx5=>(Aif fuel x5).bind λAc=>(A2u fuel Ac).bind λ(Ad,Ae)=>some Ad
theorem A1a {Aa:Value} {r:Int} (H2:Ajw (cI .i64) h Aa a3) (hp:Apz fuel a3=some r):Ahs Tryz.prog 78 #[Aa] h (λx h'=>Ext h h'/\x= .int .i64 r):=by
 unfold Apz at hp;refine cwf (l:=[_]) Tryz.func78 rfl rfl (AOv<|Ah7<|AOr ?_);have K0:=Kst.k0 h;obtain ⟨x5,Ah,Ai⟩:=AOw hp;refine Aux K0 (Aqn (H2.ext K0.x) Ah) λAq Ar Au Av h9 E8 Ad=>?_;obtain ⟨Ay,Aj,Ak⟩:=AOw Ai;refine Avd Ad (Ajt (Ad.o2 p0).rd Aj) λAz A3 A4 Ae=>?_;obtain ⟨⟨A5,A6⟩,Am,Af⟩:=AOw Ak;dsimp only at Af;refine Akb Ae (A7e (Ae.z p0).2 Am) λA7 A8 Ao=>AOr<|Ait rfl rfl (Ait rfl rfl (Aho<|Ah7<|AOr<|AO1<|AO6 ?_));obtain rfl:=AOu Af;exact ⟨_,AO7,Ao.x,rfl⟩
def Alc (fuel:Nat) (a3:LiI) (a5:Int):Option Int:=
 (Apz fuel a3).bind λx6=>(Aig fuel x6 a5).bind λAb=>if a5=2 then some (w64<|Ab + 3) else some<|w64<|Ab + 1
theorem Au6 {Ab:Value} {r:Int} (H2:Ajw (cI .i64) h Ab a3) (hp:Alc fuel a3 a5=some r):Ahs Tryz.prog 33 #[Ab,(.int .i64 a5)] h (λx h'=>Ext h h'/\x= .int .i64 r):=by
 unfold Alc at hp;refine cwf (l:=[_,_]) Tryz.func33 rfl rfl (AOv<|Ah7<|AOr ?_);have K0:=Kst.k0 h;obtain ⟨x6,Ai,Aj⟩:=AOw hp;refine Akb K0 (A1a (H2.ext K0.x) Ai) λAp E9 Ak=>AOr ?_;obtain ⟨Ar,Am,Af⟩:=AOw Aj;refine Akb Ak (Ajq Am) λAu Av Ag=>AO1<|AOx<|AOv<|AOr<|Ai0 rfl rfl (AOz<|⟨_,rfl,λAa=>?_,λAa=>?_⟩)
 ·refine AOv<|AOr<|Ahk rfl rfl (AO1<|AO6<|Ag7 ?_);obtain rfl:=AOu<|Ahy Af Aa;exact ⟨_,AO7,Ag.x,rfl⟩
 ·refine AO5<|q_t<|AOv<|AOr<|Ahk rfl rfl (AO1<|AO6 ?_);obtain rfl:=AOu<|Ahz Af Aa;exact ⟨_,AO7,Ag.x,rfl⟩
def Ah5 (fuel:Nat) (a1 a2:Int):Option Int:=
 if a2≠0 then if Int.tmod a1 a2 < 0 then some (w64<|Int.tmod a1 a2 + a2) else some (Int.tmod a1 a2) else none
theorem Aik {r:Int} (hp:Ah5 fuel a1 a2=some r):Ahs Tryz.prog 79 #[(.int .i64 a1),(.int .i64 a2)] h (λx h'=>Ext h h'/\x= .int .i64 r):=by
 unfold Ah5 at hp;refine cwf (l:=[_,_]) Tryz.func79 rfl rfl (AOv<|Ah7<|AOr<|AOr ?_);have K0:=Kst.k0 h;obtain ⟨Af,Ae⟩:=ifN hp;refine Aj6 rfl rfl Af (AO1<|AOx<|AOv<|AOr<|Ahn rfl rfl (AOz<|⟨_,rfl,λAa=>?_,λAa=>?_⟩))
 ·refine Ag6<|AOr<|AOr<|Ahk rfl rfl (Ah7<|AOr<|AO1<|AO6 ?_);obtain rfl:=AOu<|Ahy Ae Aa;exact ⟨_,AO7,K0.x,rfl⟩
 ·refine AO5<|q_t<|AOv<|AOr<|AO1<|AO6 ?_;obtain rfl:=AOu<|Ahz Ae Aa;exact ⟨_,AO7,K0.x,rfl⟩
def Ant (fuel:Nat) (a1 a5:Int):Option Int:=
 (Ar9 fuel a5).bind λAc=>(Alq fuel a1 Ac).bind λAd=>(A2u fuel Ad).bind λ(Ae,Af)=>some Ae
theorem Ayv {r:Int} (H3:ZZ h Ad a1) (hp:Ant fuel a1 a5=some r):Ahs Tryz.prog 143 #[Ad,(.int .i64 a5)] h (λx h'=>Ext h h'/\x= .int .i64 r):=by
 unfold Ant at hp;obtain ⟨Am,rfl,Ag⟩:=H3.cs;refine cwf (l:=[_,_]) Tryz.func143 rfl rfl (AOv<|Ano (Kst.k0 h) Am λb6 h7 E9 Ab=>AO1<|AOx<|Ai1 (λh'=>UpT [] h7 h') AO4 ?_);have Ah:UpT [] h7 h7:=UpT.start all_nil;refine Avw (Ab.zx Ag) Ah (Ab.b p0)<|AOr ?_;obtain ⟨A3,Ao,Ap⟩:=AOw hp;refine Am4 Ab Ah (Are Ao) λA4 A5 A6 Ac Aq=>?_;obtain ⟨A7,Ar,Au⟩:=AOw Ap;refine Am4 Ac Aq (Awl (Ac.zx Ag).2 (Ac.z p0).2 Ar) λA8 A9 Ba Ai Av=>?_;obtain ⟨⟨Bb,Bc⟩,Aw,Aj⟩:=AOw Au;dsimp only at Aj;refine A5s Ai Av (A7e (Ai.z p0).2 Aw) λBe Bf Ax Bg=>AOr<|Ait rfl rfl (Ait rfl rfl (Aho<|Ah7<|AOr<|AO1<|AO6 ?_));obtain rfl:=AOu Aj;exact ⟨_,AO7,Ax.x,rfl⟩
def Ar0 (fuel:Nat) (a3:LiI) (Ab:Int):Option (Int ⊕ (Bool ⊕ Unit)):=
 if Ab < (a3.length:Int) then (gI a3 Ab).bind λAc=>(gI a3 0).bind λAd=>if ¬ (Ac.length:Int)=(Ad.length:Int) then some (.inr<|.inl false) else if (Ac.length:Int) < 1 then some (.inr<|.inl false) else if 16 < (Ac.length:Int) then some (.inr<|.inl false) else some (.inl<|w64<|Ab + 1) else some<|.inr<|.inr ()
def Aka (fuel:Nat) (a3:LiI):Option Bool:=
 ((if (a3.length:Int) < 1 then some (.inl false) else if 16 < (a3.length:Int) then some (.inl false) else some<|.inr ()):Option (Bool ⊕ Unit)).bind (λex=>match ex with | .inl Ab=>(some Ab) | .inr _=>(iter (λs=>Ar0 fuel a3 s) fuel 0).bind (λex=>match ex with | .inl Ac=>(some Ac) | .inr _=>some true))
theorem Ar1 {r:Bool} (H2:Ajw (cI .i64) h Aq a3) (hp:Aka fuel a3=some r):Ahs Tryz.prog 145 #[Aq] h (λx h'=>Ext h h'/\x= .bool r):=by
 unfold Aka at hp;refine cwf (l:=[_]) Tryz.func145 rfl rfl (AOv<|AO1 ?_);have K0:=Kst.k0 h;obtain ⟨A3,Ar,Ai⟩:=AOw hp;refine Arb 8164 (λx:Unit=>[]) (λx h'=>(Sum.inr <| ())=A3/\Kst h h' (K0.L)) ?_ ?_
 ·refine AOv<|AOr<|Ahx APa rfl H2 (Ahn rfl rfl (AOr ?_));by_cases Ad:(a3.length:Int) < 1
  ·rw [decide_eq_true Ad];refine Aki 8 true<|Ahc rfl (AOz<|Ahp rfl (AOv<|AO1 ?_));obtain rfl:=AOu<|ifT Ar Ad;refine AO6<|Ag7 ?_;obtain rfl:=AOu Ai;exact ⟨_,AO7,K0.x,rfl⟩
  ·have Au:=ifF Ar Ad;rw [decide_eq_false Ad];refine Ahb 8 false<|AOr<|Ahb 8 false<|Ahx APa rfl H2 (Ahb 8 false<|Anj rfl rfl (APd rfl (AOz<|⟨_,rfl,λAj=>?_,λAj=>?_⟩)))
   ·refine AOv<|AO1 ?_;obtain rfl:=AOu<|Ahy Au Aj;refine AO6<|Ag7 ?_;obtain rfl:=AOu Ai;exact ⟨_,AO7,K0.x,rfl⟩
   ·refine AO5<|q_t ?_;exact ⟨(():Unit),⟨AOu<|Ahz Au Aj,K0⟩,trivial⟩
 rintro ⟨⟩ Ba Bb ⟨A4,Av⟩;subst A4;refine AOx<|AOv<|AOr<|Ahx APa rfl H2 (AOr<|AOz<|AO0<|Arf 137438920724 Ai (λx=>[(15,(.int .i64 x))]) (λx=>Av.L) Av ⟨rfl,trivial⟩ ?_);rintro Bc Be Bf Bg Aa Ak Ae;unfold Ar0 at Ak;refine AOv<|Ahn rfl rfl (AOz<|AOx<|⟨_,rfl,λAm=>?_,λAm=>?_⟩)
 ·refine AO5<|q_t<|AOx<|AO0<|AOv ?_;obtain ⟨Aw,A5,A6⟩:=AOw<|Ahy Ak Am;refine An3 APa Aha H2 Aa.x A5 λ_ Bh Ao=>Ah7<|AOr<|Aim APe rfl Ao (AOr ?_);obtain ⟨A7,A8,Ax⟩:=AOw A6;refine An3 APa Aha H2 Aa.x A8 λ_ Bi A9=>Aim APe rfl A9 (Ajs rfl rfl (AOr ?_));by_cases Af: ¬ (Aw.length:Int)=(A7.length:Int)
  ·rw [decide_eq_true Af];refine Aki 26 true<|Ahc rfl (AOr<|Aki 31 true<|Ahc rfl (AOz<|Ahp rfl (AOv<|AO1<|AO6<|Ail<|Ag7<|Ag7<|Ail<|Ag7 ?_)));obtain rfl:=AOu<|Ae _ (AOu<|ifT Ax Af).symm;exact ⟨_,AO7,Aa.x,rfl⟩
  ·have Ay:=ifF Ax Af;rw [decide_eq_false Af];refine Ahb 26 false<|AOr<|Ahb 26 false<|Aim APe rfl Ao (Ahb 26 false<|Ahn rfl rfl (APd rfl (AOr ?_)));by_cases Ag:(Aw.length:Int) < 1
   ·rw [decide_eq_true Ag];refine Aki 31 true<|Ahc rfl (AOz<|Ahp rfl (AOv<|AO1<|AO6<|Ail<|Ag7<|Ag7<|Ail<|Ag7 ?_));obtain rfl:=AOu<|Ae _ (AOu<|ifT Ay Ag).symm;exact ⟨_,AO7,Aa.x,rfl⟩
   ·have Az:=ifF Ay Ag;rw [decide_eq_false Ag];refine Ahb 31 false<|AOr<|Ahb 31 false<|Aim APe rfl Ao (Ahb 31 false<|Anj rfl rfl (APd rfl (AOz<|⟨_,rfl,λAp=>?_,λAp=>?_⟩)))
    ·refine AOv<|AO1<|AO6<|Ail<|Ag7<|Ag7<|Ail<|Ag7 ?_;obtain rfl:=AOu<|Ae _ (AOu<|Ahy Az Ap).symm;exact ⟨_,AO7,Aa.x,rfl⟩
    ·refine AO5<|q_b<|q_t<|Ag6<|Ahk rfl rfl (AOr<|AOz ?_);exact ⟨_,(AOu<|Ahz Az Ap).symm,Aa,rfl,trivial⟩
 ·refine Ahf<|Ahg<|Ahg<|Aio<|q_t<|AOv<|AO1<|AO6 ?_;obtain rfl:=AOu<|Ae _ (AOu<|Ahz Ak Am).symm;exact ⟨_,AO7,Aa.x,rfl⟩
def Al2 (fuel:Nat) (a1:Int):Option Bool:=
 if 2<=a1 then some (decide (a1<=2147483647)) else some false
theorem Aut {r:Bool} (hp:Al2 fuel a1=some r):Ahs Tryz.prog 142 #[(.int .i64 a1)] h (λx h'=>Ext h h'/\x= .bool r):=by
 unfold Al2 at hp;refine cwf (l:=[_]) Tryz.func142 rfl rfl (AOv<|Ah7<|AOr<|At7 rfl rfl (AOr ?_));have K0:=Kst.k0 h;by_cases Aa:2<=a1
 ·rw [decide_eq_true Aa];refine Ahb 5 true<|AOr<|Ahb 5 true<|A3r rfl rfl (Ahc rfl (AO1<|AO6 ?_));obtain rfl:=AOu<|ifT hp Aa;exact ⟨_,AO7,K0.x,rfl⟩
 ·rw [decide_eq_false Aa];refine Aqc 5 false<|APd rfl (AO1<|AO6 ?_);obtain rfl:=AOu<|ifF hp Aa;exact ⟨_,AO7,K0.x,rfl⟩
def Aoo (fuel:Nat) (a5:Int) (Ac Aa:LiA) (Ab:Int):Option ((LiA × Int) ⊕ LiA):=
 if Ab < (Ac.length:Int) then (gI Ac Ab).bind λAe=>(Ah5 fuel Ae a5).bind λAf=>if Aa.length<=100000000 then some (.inl (Aa ++ [Af],w64<|Ab + 1)) else none else some<|.inr Aa
def Aq6 (fuel:Nat) (a3:LiI) (a5:Int) (Aa:LiI) (Ab:Int):Option ((LiI × Int) ⊕ LiI):=
 if Ab < (a3.length:Int) then (gI a3 Ab).bind λAe=>(iter (λs=>Aoo fuel a5 Ae s.1 s.2) fuel ([],0)).bind (λ(Af:LiA)=>if Aa.length<=100000000 then some (.inl (Aa ++ [Af],w64<|Ab + 1)) else none) else some<|.inr Aa
def Ajh (fuel:Nat) (a3:LiI) (a5:Int):Option LiI:=
 (iter (λs=>Aq6 fuel a3 a5 s.1 s.2) fuel ([],0)).bind (λ(Ac:LiI)=>some Ac)
theorem Aop {Ag:Value} {r:LiI} (H2:Ajw (cI .i64) h Ag a3) (hp:Ajh fuel a3 a5=some r):Ahs Tryz.prog 35 #[Ag,(.int .i64 a5)] h (λx h'=>Ext h h'/\ ∃ (x0:Value) (F0:List Nat) (Av:List LnA) (Aw:List Value),x=x0/\Aj1 (cI .i64) 61 2 h' F0 Av Aw x0 r/\Sp h' h.size [F0]):=by
 unfold Ajh at hp;refine cwf (l:=[_,_]) Tryz.func35 rfl rfl (AOv<|Ah7<|AO1<|AOx<|AOv<|AOr<|Ahx APa rfl H2 (AOr<|AOz<|AO0 ?_));have K7:=Kst.anil2 (cI .i64) 61 2<|Kst.k0 h;refine Amy 34359731616 (λx:(LiI) × (Value) × LnA × LnN × LvA × (Int)=>(x.1,x.2.2.2.2.2)) (([],(.slice none 0 0),[],[],[],0):(LiI) × (Value) × LnA × LnN × LvA × (Int)) hp (λx=>[(5,x.2.1),(13,(.int .i64 x.2.2.2.2.2))]) (λx=>K7.L.set 0<|aO2 (cI .i64) 61 2 x.2.2.1 x.2.2.2.1 x.2.2.2.2.1 x.2.1 x.1) K7 ⟨rfl,rfl,trivial⟩ ?_;rintro ⟨Bj,Bl,Bm,Bn,Bo,Bp⟩ Bq Br Bt Ab Ac Ax;unfold Aq6 at Ac;refine AOv<|Ahn rfl rfl (AOz<|AOx<|⟨_,rfl,λAd=>?_,λAd=>?_⟩)
 ·refine AO5<|q_t<|AOx<|AO0<|AOv ?_;obtain ⟨Bu,Ay,Az⟩:=AOw<|Ahy Ac Ad;refine An3 APa Aha H2 Ab.x Ay λ_ Bv Ap=>Ah7<|AO1<|AOx<|AOv<|AOr<|Aim APe rfl Ap (AOr<|AOz<|AO0 ?_);have Aq:=Kst.anil (cI .i64) 2 Ab;refine Amy 1073218816 (λx:(LiA) × (Value) × LnA × (Int)=>(x.1,x.2.2.2)) (([],(.slice none 0 0),[],0):(LiA) × (Value) × LnA × (Int)) Az (λx=>[(8,x.2.1),(19,(.int .i64 x.2.2.2))]) (λx=>Aq.L.set 0<|aO (cI .i64) 2 x.2.2.1 x.2.1 x.1) Aq ⟨rfl,rfl,trivial⟩ ?_;rintro ⟨Bw,Bx,By,Bz⟩ B1 B3 B4 Aa Ae A3;unfold Aoo at Ae;refine AOv<|Ahn rfl rfl (AOz<|AOx<|⟨_,rfl,λAf=>?_,λAf=>?_⟩)
  ·refine AO5<|q_t<|AOx<|AO0<|AOv ?_;obtain ⟨B5,A4,A5⟩:=AOw<|Ahy Ae Af;refine A1l APe AO9 Ap Aa.x A4 λ_=>(AO1<|Ag6<|AOr<|AOr<|AOr ?_);obtain ⟨Ar,A6,A7⟩:=AOw A5;refine Akb Aa (Aik A6) λB6 B7 Au=>?_;obtain ⟨A8,A9⟩:=ifN A7;refine Ar6 APe Ars rfl rfl trivial tt2 (λ_=>rfl) rfl (show ((cI .i64)).rep _ Ar [(.int .i64 Ar)] from rfl) (Au.o p0) AOs A8 λB8 B9 Ca Cb Ba Bb Bc=>Aho<|Ahh<|q_b<|q_t<|Ag6<|Ahk rfl rfl (AOr<|AOz ?_);exact ⟨(_,_,_,_),(AOu A9).symm,(Au.uo p0 Bb Ba Bc),rfl,rfl,trivial⟩
  ·refine Ahf<|Ahg<|Ahg<|Aio<|q_t<|Ag6<|AOr<|AOr ?_;obtain ⟨Be,Bf⟩:=ifN<|A3 _ (AOu<|Ahz Ae Af).symm;refine A2s APa As9 rfl rfl trivial tt2 (λ_=>rfl) rfl (Aa.o p0) (Aa.o2 p1) (Aa.dj p0 p1 AOs) AOs Be λCd Ce Cf Cg Bg Bh Bi=>Aho<|Ahh<|q_b<|q_t<|Ag6<|Ahk rfl rfl (AOr<|AOz ?_);exact ⟨(_,_,_,_,_,_),(AOu Bf).symm,(Aa.m2 p0 p1 AOs Bh Bg Bi).sel [1] AOs,rfl,rfl,trivial⟩
 ·refine Ahf<|Ahg<|Ahg<|Aio<|q_t<|AOv<|AOr<|AO1<|AO6 ?_;obtain rfl:=AOu<|Ax _ (AOu<|Ahz Ac Ad).symm;exact ⟨_,AO7,Ab.x,_,_,_,_,rfl,(Ab.o2 p0),Ab.s.sel [0] AOs⟩
def Apf (fuel:Nat) (a3 a7:LiI) (Ab:Int) (Ae:LiA) (Aa:Int):Option (Int ⊕ (Bool ⊕ Unit)):=
 if Aa < (Ae.length:Int) then (gI a3 Ab).bind λAf=>(gI Af Aa).bind λAg=>(gI a7 Ab).bind λAh=>(gI Ah Aa).bind λAi=>if ¬ Ag=Ai then some (.inr<|.inl false) else some (.inl<|w64<|Aa + 1) else some<|.inr<|.inr ()
def Apg (fuel:Nat) (a3 a7:LiI) (Aa:Int):Option (Int ⊕ (Bool ⊕ Unit)):=
 if Aa < (a3.length:Int) then (gI a3 Aa).bind λAd=>(gI a7 Aa).bind λAe=>if ¬ (Ad.length:Int)=(Ae.length:Int) then some (.inr<|.inl false) else (iter (λs=>Apf fuel a3 a7 Aa Ad s) fuel 0).bind (λex=>match ex with | .inl Af=>(some<|.inr<|.inl Af) | .inr _=>some<|.inl<|w64<|Aa + 1) else some<|.inr<|.inr ()
def Ao9 (fuel:Nat) (a3 a7:LiI):Option Bool:=
 if ¬ (a3.length:Int)=(a7.length:Int) then some false else (iter (λs=>Apg fuel a3 a7 s) fuel 0).bind (λex=>match ex with | .inl Ac=>(some Ac) | .inr _=>some true)
theorem A0f {Ap:Value} {Ar:Value} {a7:LiI} {r:Bool} (H2:Ajw (cI .i64) h Ap a3) (H6:Ajw (cI .i64) h Ar a7) (hp:Ao9 fuel a3 a7=some r):Ahs Tryz.prog 90 #[Ap,Ar] h (λx h'=>Ext h h'/\x= .bool r):=by
 unfold Ao9 at hp;refine cwf (l:=[_,_]) Tryz.func90 rfl rfl (AOv<|AO1<|AOx<|AOv<|AOr<|Ahx APa rfl H2 (AOr<|Ahx APa rfl H6 (Ajs rfl rfl (AOz ?_))));have K0:=Kst.k0 h;refine ⟨_,rfl,λAf=>?_,λAf=>?_⟩
 ·refine AOv<|AO1<|AO6<|Ag7 ?_;obtain rfl:=AOu<|Ahy hp Af;exact ⟨_,AO7,K0.x,rfl⟩
 ·refine AO5<|q_t<|AOx<|AOv<|AOr<|Ahx APa rfl H2 (AOr<|AOz<|AO0<|Arf 9007199254724720 (Ahz hp Af) (λx=>[(14,(.int .i64 x))]) (λx=>K0.L) K0 ⟨rfl,trivial⟩ ?_);rintro Bh Bi Bj Bl Aa Ag Ah;unfold Apg at Ag;refine AOv<|Ahn rfl rfl (AOz<|AOx<|⟨_,rfl,λAi=>?_,λAi=>?_⟩)
  ·refine AO5<|q_t<|AOx<|AO0<|AOv<|AOr<|AO1<|AOx<|AOx<|Ame<|AOr<|AOr ?_;obtain ⟨Bm,Av,Az⟩:=AOw<|Ahy Ag Ai;refine An3 APa Aha H2 Aa.x Av λ_ Bn A3=>Aim APe rfl A3 (AOr<|AOr ?_);obtain ⟨Bo,A4,Aw⟩:=AOw Az;refine An3 APa Aha H6 Aa.x A4 λ_ Bp A5=>Aim APe rfl A5 (Ajs rfl rfl (AOz<|⟨_,rfl,λAj=>?_,λAj=>?_⟩))
   ·refine AOv<|AO1<|AO6<|Ag7<|Ail<|Ag7<|Ag7<|Ail<|Ag7 ?_;obtain rfl:=AOu<|Ah _ (AOu<|Ahy Aw Aj).symm;exact ⟨_,AO7,Aa.x,rfl⟩
   ·refine AO5<|q_t<|AOv<|AOr<|AOr<|An3 APa Aha H2 Aa.x Av λ_ Bq A6=>Aim APe rfl A6 (AOr<|AOz<|AO0<|Arf 4503591037435984 (Ahz Aw Aj) (λx=>[(33,(.int .i64 x))]) (λx=>Aa.L) Aa ⟨rfl,trivial⟩ ?_);rintro Br Bt Bu Bv Ab Ak Ax;unfold Apf at Ak;refine AOv<|Ahn rfl rfl (AOz<|AOx<|⟨_,rfl,λAm=>?_,λAm=>?_⟩)
    ·refine AO5<|q_t<|AOx<|AO0<|AOv<|AOr<|AO1<|AOx<|Ame<|AOr<|AOr ?_;obtain ⟨Bw,A7,A8⟩:=AOw<|Ahy Ak Am;refine An3 APa Aha H2 Ab.x A7 λ_ Bx A9=>AOr ?_;obtain ⟨By,Ba,Bb⟩:=AOw A8;refine A1l APe AO9 A9 Ab.x Ba λ_=>(AOr<|AOr ?_);obtain ⟨Bz,Bc,Be⟩:=AOw Bb;refine An3 APa Aha H6 Ab.x Bc λ_ B1 Bf=>AOr ?_;obtain ⟨B3,Bg,Ay⟩:=AOw Be;refine A1l APe AO9 Bf Ab.x Bg λ_=>(Ajs rfl rfl (AOz<|⟨_,rfl,λAo=>?_,λAo=>?_⟩))
     ·refine AOv<|AO1<|AO6<|Ail<|Ag7<|Ag7<|Ail<|Ail<|Ag7<|Ag7<|Ail<|Ag7 ?_;obtain rfl:=AOu<|Ah _ (AOu<|Ax _ (AOu<|Ahy Ay Ao).symm).symm;exact ⟨_,AO7,Ab.x,rfl⟩
     ·refine AO5<|q_b<|q_t<|Ag6<|Ahk rfl rfl (AOr<|AOz ?_);exact ⟨_,(AOu<|Ahz Ay Ao).symm,Ab,rfl,trivial⟩
    ·refine Ahf<|Ahg<|Ahg<|Aio<|q_b<|q_t<|Ag6<|Ahk rfl rfl (AOr<|AOz ?_);exact ⟨_,(AOu<|Ax _ (AOu<|Ahz Ak Am).symm).symm,Ab,rfl,trivial⟩
  ·refine Ahf<|Ahg<|Ahg<|Aio<|q_t<|AOv<|AO1<|AO6 ?_;obtain rfl:=AOu<|Ah _ (AOu<|Ahz Ag Ai).symm;exact ⟨_,AO7,Aa.x,rfl⟩
def An7 (fuel:Nat) (a9:Int) (Af Ae:LiI) (Ag Ac Ab:Int) (Ad:LiA):Option ((Int × LiA) ⊕ LiA):=
 if Ab < (Ae.length:Int) then (gI Ad Ac).bind λAh=>(gI Af Ag).bind λAi=>(gI Ai Ab).bind λAj=>(gI Ae Ab).bind λAk=>(gI Ak Ac).bind λAm=>if a9≠0 then if a9≠0 then some (.inl (w64<|Ab + 1,sI Ad Ac<|Int.tmod (w64<|Ah + Int.tmod (w64<|Aj * Am) a9) a9)) else none else none else some<|.inr Ad
def An8 (fuel:Nat) (a9:Int) (Ad Ae:LiI) (Af:Int) (Ag:LiA) (Aa:Int) (Ab:LiA):Option ((Int × LiA) ⊕ LiA):=
 if Aa < ((List.replicate (Int.toNat (Ag.length:Int)) (0:Int)).length:Int) then (iter (λs=>An7 fuel a9 Ad Ae Af Aa s.1 s.2) fuel (0,Ab)).bind (λ(Ah:LiA)=>some<|.inl (w64<|Aa + 1,Ah)) else some<|.inr Ab
def An9 (fuel:Nat) (a9:Int) (Ad Ae Ab:LiI) (Ac:Int):Option ((LiI × Int) ⊕ LiI):=
 if Ac < (Ad.length:Int) then (gI Ae 0).bind λAa=>if 0<=(Aa.length:Int)/\(Aa.length:Int)<=100000000 then (iter (λs=>An8 fuel a9 Ad Ae Ac Aa s.1 s.2) fuel (0,List.replicate (Int.toNat (Aa.length:Int)) (0:Int))).bind (λ(Ag:LiA)=>if Ab.length<=100000000 then some (.inl (Ab ++ [Ag],w64<|Ac + 1)) else none) else none else some<|.inr Ab
def Al3 (fuel:Nat) (a3 a7:LiI) (a9:Int):Option LiI:=
 (Ajh fuel a3 a9).bind λAd=>(Ajh fuel a7 a9).bind λAe=>(iter (λs=>An9 fuel a9 Ad Ae s.1 s.2) fuel ([],0)).bind (λ(Af:LiI)=>some Af)
theorem Auu {Ao:Value} {a7:LiI} {a9:Int} {r:LiI} (H2:Ajw (cI .i64) h Ao a3) (H6:Ajw (cI .i64) h Aq a7) (hp:Al3 fuel a3 a7 a9=some r):Ahs Tryz.prog 146 #[Ao,Aq,(.int .i64 a9)] h (λx h'=>Ext h h'/\ ∃ (x0:Value) (F0:List Nat) (A9:List LnA) (Ba:List Value),x=x0/\Aj1 (cI .i64) 61 2 h' F0 A9 Ba x0 r/\Sp h' h.size [F0]):=by
 unfold Al3 at hp;refine cwf (l:=[_,_,_]) Tryz.func146 rfl rfl (AOv<|Ah7<|AOr<|AOr ?_);have K0:=Kst.k0 h;obtain ⟨Cv,Bb,Bc⟩:=AOw hp;refine Aux K0 (Aop (H2.ext K0.x) Bb) λCw Cx Cy Cz C0 C1 Ax=>AOr<|AOr ?_;obtain ⟨C2,Be,Bf⟩:=AOw Bc;refine Aux Ax (Aop (H6.ext Ax.x) Be) λC3 C4 C5 C6 C7 C8 Ay=>Aho<|Ah7<|AO1<|AOx<|AOv<|AOr<|Ahx APa rfl (Ay.o2 p1).rd (AOr<|AOz<|AO0 ?_);have Az:=Kst.anil2 (cI .i64) 61 2 Ay;refine Amy 4722366482869644169088 (λx:(LiI) × (Value) × LnA × LnN × LvA × (Int)=>(x.1,x.2.2.2.2.2)) (([],(.slice none 0 0),[],[],[],0):(LiI) × (Value) × LnA × LnN × LvA × (Int)) Bf (λx=>[(7,x.2.1),(20,(.int .i64 x.2.2.2.2.2))]) (λx=>Az.L.set 0<|aO2 (cI .i64) 61 2 x.2.2.1 x.2.2.2.1 x.2.2.2.2.1 x.2.1 x.1) Az ⟨rfl,rfl,trivial⟩ ?_;rintro ⟨C9,Da,Db,Dc,Dd,Bg⟩ De Df Dg Ac Af Bh;unfold An9 at Af;refine AOv<|Ahn rfl rfl (AOz<|AOx<|⟨_,rfl,λAg=>?_,λAg=>?_⟩)
 ·refine AO5<|q_t<|AOx<|AO0<|AOv<|AOr<|Ah7<|AOr ?_;obtain ⟨Bi,A3,Bj⟩:=AOw<|Ahy Af Ag;refine Aiw APa Aha (Ac.o2 p1) A3 λ_ Dh Bl=>Aim APe rfl ((Ac.o2 p1).rowI Bl A3) ?_;obtain ⟨Bm,Bn⟩:=ifN Bj;refine Awz (c:=(cI .i64)) (a:=0) APe Ars rfl rfl (λ_=>rfl) rfl trivial tt2 rfl rfl AOs Bm λBo A4 Di Bp Bq Br Bt=>AO1<|AOx<|AOv<|AOr ?_;have Ah:=Ac.no Bq (Anw Br Bt) Bp;refine Aim APe rfl (Ah.o p0).rd (AOr<|AOz<|AO0<|Amy 147573952588602674176 (λx:(Int) × (LiA) × LnA=>(x.1,x.2.1)) ((0,(List.replicate (Int.toNat (Bi.length:Int)) (0:Int)),[Bo]):(Int) × (LiA) × LnA) Bn (λx=>[(30,(.int .i64 x.1))]) (λx=>Ah.L.set 0<|aO (cI .i64) 2 x.2.2 A4 x.2.1) Ah ⟨rfl,trivial⟩ ?_);rintro ⟨Dj,Bu,Bv⟩ Dk Dl Do Ab Ai Bw;unfold An8 at Ai;refine AOv<|Ahn rfl rfl (AOz<|AOx<|⟨_,rfl,λAj=>?_,λAj=>?_⟩)
  ·refine AO5<|q_t<|AOx<|AO0<|AOv<|AOr<|Ah7<|AOr<|Ahx APa rfl (Ab.o2 p2).rd (AOr<|AOz<|AO0<|Amy 73786976260478470144 (λx:(Int) × (LiA) × LnA=>(x.1,x.2.1)) ((0,Bu,Bv):(Int) × (LiA) × LnA) (Ahy Ai Aj) (λx=>[(35,(.int .i64 x.1))]) (λx=>Ab.L.set 0<|aO (cI .i64) 2 x.2.2 A4 x.2.1) Ab ⟨rfl,trivial⟩ ?_);rintro ⟨Bx,Dp,Dq⟩ Dr Ds Dt Aa Ak By;unfold An7 at Ak;refine AOv<|Ahn rfl rfl (AOz<|AOx<|⟨_,rfl,λAm=>?_,λAm=>?_⟩)
   ·refine AO5<|q_t<|AOx<|AO0<|AOv<|AOr<|AO1<|Ame<|AOr<|AOr<|AOr<|AOr ?_;obtain ⟨Bz,Ae,B1⟩:=AOw<|Ahy Ak Am;refine A18 APe rfl (Aa.o p0) rfl Ae λDu B3=>?_;obtain ⟨Dv,B4,B5⟩:=(Aa.o p0).cells B3 Ae;obtain rfl:=B4;refine Ahu AO9 rfl (B5 0 _ rfl) (AOr<|AOr ?_);obtain ⟨Dw,A5,B6⟩:=AOw B1;refine Aiw APa Aha (Aa.o2 p3) A5 λ_ Dx B7=>AOr ?_;obtain ⟨B8,B9,Ca⟩:=AOw B6;refine Atw (m:=Bg) APe AO9 (Aa.o2 p3) B7 A5 B9 λ_=>(AOr<|AOr ?_);obtain ⟨Dy,A6,Cb⟩:=AOw Ca;refine Aiw APa Aha (Aa.o2 p2) A6 λ_ Dz Cd=>AOr ?_;obtain ⟨Ce,Cf,Cg⟩:=AOw Cb;refine Atw (m:=Bx) APe AO9 (Aa.o2 p2) Cd A6 Cf λ_=>(Aou rfl rfl (AOr ?_));obtain ⟨Ch,Ci⟩:=ifN Cg;refine Aj6 rfl rfl Ch (Ahk rfl rfl (AOr ?_));obtain ⟨Cj,Ck⟩:=ifN Ci;refine Aj6 rfl rfl Cj (A18 APe rfl (Aa.o p0) rfl Ae λD0 Cm=>BOq (Amg AO9 rfl rfl rfl) (Aa.o p0) Cm Ae (show ((cI .i64)).rep _ (Int.tmod (w64<|Bz + (Int.tmod (w64<|B8 * Ce) a9)) a9) _ from rfl) λD1 Cn Co=>Ahh<|q_b<|q_t<|Ag6<|Ahk rfl rfl (AOr<|AOz ?_));exact ⟨(_,_,_),(AOu Ck).symm,(Aa.uO p0 Co Cn),rfl,trivial⟩
   ·refine Ahf<|Ahg<|Ahg<|Aio<|q_b<|q_t<|Ag6<|Ahk rfl rfl (AOr<|AOz ?_);exact ⟨(_,_,_),(AOu<|By _ (AOu<|Ahz Ak Am).symm).symm,Aa,rfl,trivial⟩
  ·refine Ahf<|Ahg<|Ahg<|Aio<|q_t<|Ag6<|AOr<|AOr ?_;obtain ⟨Cp,Cq⟩:=ifN<|Bw _ (AOu<|Ahz Ai Aj).symm;refine A2s APa As9 rfl rfl trivial tt2 (λ_=>rfl) rfl (Ab.o p0) (Ab.o2 p1) (Ab.dj p0 p1 AOs) AOs Cp λD2 D3 D4 D5 Cr Ct Cu=>Aho<|Ahh<|q_b<|q_t<|Ag6<|Ahk rfl rfl (AOr<|AOz ?_);exact ⟨(_,_,_,_,_,_),(AOu Cq).symm,(Ab.m2 p0 p1 AOs Ct Cr Cu).sel [1,2,3] AOs,rfl,rfl,trivial⟩
 ·refine Ahf<|Ahg<|Ahg<|Aio<|q_t<|AOv<|AOr<|AO1<|AO6 ?_;obtain rfl:=AOu<|Bh _ (AOu<|Ahz Af Ag).symm;exact ⟨_,AO7,Ac.x,_,_,_,_,rfl,(Ac.o2 p0),Ac.s.sel [0] AOs⟩
def Anb (fuel:Nat) (a3:LiI) (Ad:Int) (Aa:LiA) (Ab:Int):Option ((LiA × Int) ⊕ LiA):=
 if Ab < (a3.length:Int) then (gI a3 Ab).bind λAe=>(gI Ae Ad).bind λAf=>if Aa.length<=100000000 then some (.inl (Aa ++ [Af],w64<|Ab + 1)) else none else some<|.inr Aa
def Anc (fuel:Nat) (a3:LiI) (x5:LiA) (Aa:LiI) (Ab:Int):Option ((LiI × Int) ⊕ LiI):=
 if Ab < (x5.length:Int) then (iter (λs=>Anb fuel a3 Ab s.1 s.2) fuel ([],0)).bind (λ(Ae:LiA)=>if Aa.length<=100000000 then some (.inl (Aa ++ [Ae],w64<|Ab + 1)) else none) else some<|.inr Aa
def Amt (fuel:Nat) (a3:LiI):Option LiI:=
 (gI a3 0).bind λx5=>(iter (λs=>Anc fuel a3 x5 s.1 s.2) fuel ([],0)).bind (λ(Ac:LiI)=>some Ac)
theorem Axw {r:LiI} (H2:Ajw (cI .i64) h Ah a3) (hp:Amt fuel a3=some r):Ahs Tryz.prog 147 #[Ah] h (λx h'=>Ext h h'/\ ∃ (x0:Value) (F0:List Nat) (Ar:List LnA) (Au:List Value),x=x0/\Aj1 (cI .i64) 61 2 h' F0 Ar Au x0 r/\Sp h' h.size [F0]):=by
 unfold Amt at hp;refine cwf (l:=[_]) Tryz.func147 rfl rfl (AOv<|Ah7<|AO1<|AOx<|AOv<|AOr ?_);have K0:=Kst.k0 h;obtain ⟨x5,Av,Aw⟩:=AOw hp;refine An3 APa Aha H2 K0.x Av λ_ r8 H9=>Aim APe rfl H9 (AOr<|AOz<|AO0 ?_);have Ao:=Kst.anil2 (cI .i64) 61 2 K0;refine Amy 34359736440 (λx:(LiI) × (Value) × LnA × LnN × LvA × (Int)=>(x.1,x.2.2.2.2.2)) (([],(.slice none 0 0),[],[],[],0):(LiI) × (Value) × LnA × LnN × LvA × (Int)) Aw (λx=>[(3,x.2.1),(11,(.int .i64 x.2.2.2.2.2))]) (λx=>Ao.L.set 0<|aO2 (cI .i64) 61 2 x.2.2.1 x.2.2.2.1 x.2.2.2.2.1 x.2.1 x.1) Ao ⟨rfl,rfl,trivial⟩ ?_;rintro ⟨Bm,Bn,Bo,Bp,Bq,Br⟩ Bt Bu Bv Ab Ad Ay;unfold Anc at Ad;refine AOv<|Ahn rfl rfl (AOz<|AOx<|⟨_,rfl,λAe=>?_,λAe=>?_⟩)
 ·refine AO5<|q_t<|AOx<|AO0<|AOv<|AOr<|Ah7<|AO1<|AOx<|AOv<|AOr ?_;refine Ahx APa rfl H2 (AOr<|AOz<|AO0 ?_);have Ap:=Kst.anil (cI .i64) 2 Ab;refine Amy 1073676384 (λx:(LiA) × (Value) × LnA × (Int)=>(x.1,x.2.2.2)) (([],(.slice none 0 0),[],0):(LiA) × (Value) × LnA × (Int)) (Ahy Ad Ae) (λx=>[(5,x.2.1),(16,(.int .i64 x.2.2.2))]) (λx=>Ap.L.set 0<|aO (cI .i64) 2 x.2.2.1 x.2.1 x.1) Ap ⟨rfl,rfl,trivial⟩ ?_;rintro ⟨Bw,Bx,By,Bz⟩ B1 B3 B4 Aa Af Az;unfold Anb at Af;refine AOv<|Ahn rfl rfl (AOz<|AOx<|⟨_,rfl,λAg=>?_,λAg=>?_⟩)
  ·refine AO5<|q_t<|AOx<|AO0<|AOv<|AOr<|AO1<|Ag6<|AOr<|AOr<|AOr ?_;obtain ⟨B5,A3,A4⟩:=AOw<|Ahy Af Ag;refine An3 APa Aha H2 Aa.x A3 λ_ B6 A5=>AOr ?_;obtain ⟨Aq,A6,A7⟩:=AOw A4;refine A1l APe AO9 A5 Aa.x A6 λ_=>?_;obtain ⟨A8,A9⟩:=ifN A7;refine Ar6 APe Ars rfl rfl trivial tt2 (λ_=>rfl) rfl (show ((cI .i64)).rep _ Aq [(.int .i64 Aq)] from rfl) (Aa.o p0) AOs A8 λB7 B8 B9 Ca Ba Bb Bc=>Aho<|Ahh<|q_b<|q_t<|Ag6<|Ahk rfl rfl (AOr<|AOz ?_);exact ⟨(_,_,_,_),(AOu A9).symm,(Aa.uo p0 Bb Ba Bc),rfl,rfl,trivial⟩
  ·refine Ahf<|Ahg<|Ahg<|Aio<|q_t<|Ag6<|AOr<|AOr ?_;obtain ⟨Be,Bf⟩:=ifN<|Az _ (AOu<|Ahz Af Ag).symm;refine A2s APa As9 rfl rfl trivial tt2 (λ_=>rfl) rfl (Aa.o p0) (Aa.o2 p1) (Aa.dj p0 p1 AOs) AOs Be λCb Cd Ce Cf Bg Bh Bi=>Aho<|Ahh<|q_b<|q_t<|Ag6<|Ahk rfl rfl (AOr<|AOz ?_);exact ⟨(_,_,_,_,_,_),(AOu Bf).symm,(Aa.m2 p0 p1 AOs Bh Bg Bi).sel [1] AOs,rfl,rfl,trivial⟩
 ·refine Ahf<|Ahg<|Ahg<|Aio<|q_t<|AOv<|AOr<|AO1<|AO6 ?_;obtain rfl:=AOu<|Ay _ (AOu<|Ahz Ad Ae).symm;exact ⟨_,AO7,Ab.x,_,_,_,_,rfl,(Ab.o2 p0),Ab.s.sel [0] AOs⟩
def Amc (fuel:Nat) (a3 a7:LiI) (a9:Int):Option (LiI × Int):=
 (((Aka fuel a3).bind λAd=>if (!Ad)=true then some (.inl ([],3)) else (Aka fuel a7).bind λAe=>if (!Ae)=true then some (.inl ([],3)) else (gI a3 0).bind λAf=>if ¬ (a3.length:Int)=(Af.length:Int) then some (.inl ([],3)) else if ¬ (a7.length:Int)=(a3.length:Int) then some (.inl ([],3)) else some<|.inr ()):Option ((LiI × Int) ⊕ Unit)).bind (λex=>match ex with | .inl Ag=>(some Ag) | .inr _=>(Al2 fuel a9).bind λAh=>if (!Ah)=true then some ([],1) else (Amt fuel a7).bind λAi=>(Al3 fuel a3 a7 a9).bind λAj=>(Al3 fuel Ai Aj a9).bind λAk=>some (Ak,0))
theorem Axg {Ax:Value} {Ay:Value} {a7:LiI} {a9:Int} {r:(LiI × Int)} (H2:Ajw (cI .i64) h Ax a3) (H6:Ajw (cI .i64) h Ay a7) (hp:Amc fuel a3 a7 a9=some r):Ahs Tryz.prog 89 #[Ax,Ay,(.int .i64 a9)] h (λx h'=>Ext h h'/\ ∃ (x0:Value) (F0:List Nat) (Be:List LnA) (Bf:List Value),x= .tuple #[x0,.int .i64 r.2]/\Aj1 (cI .i64) 61 2 h' F0 Be Bf x0 r.1/\Sp h' h.size [F0]):=by
 unfold Amc at hp;refine cwf (l:=[_,_,_]) Tryz.func89 rfl rfl (AOv<|Aho<|AO1 ?_);have K0:=Kst.k0 h;obtain ⟨Bg,Bh,Ab⟩:=AOw hp;refine Arb 4294967232 (λx:Unit=>[]) (λx h'=>(Sum.inr <| ())=Bg/\Kst h h' (K0.L)) ?_ ?_
 ·refine AOv<|AOr ?_;obtain ⟨Bi,Bj,A6⟩:=AOw Bh;refine Akb K0 (Ar1 (H2.ext K0.x) Bj) λB3 B4 Ah=>Akc rfl (AOr ?_);cases A7:(!Bi)
  ·refine Ahb 11 false<|AOr<|Ahb 11 false ?_;obtain ⟨Bl,Bm,A8⟩:=AOw<|Aok A6 A7;refine Akb Ah (Ar1 (H6.ext Ah.x) Bm) λB5 B6 Ac=>Ahb 11 false<|Akc rfl (APd rfl (AOr ?_));cases A9:(!Bl)
   ·refine Ahb 16 false<|AOr<|Ahb 16 false<|Ahx APa rfl H2 (Ahb 16 false<|AOr<|Ahb 16 false ?_);obtain ⟨Bn,Bo,Ba⟩:=AOw<|Aok A8 A9;refine Az4 APa rfl H2 rfl Bo λB7 B8 B9 Bp Bq=>Ahb 16 false<|Ahu Aha rfl (AO8 Bp Ac.x) (Ahb 16 false<|Aim APe rfl Bq (Ahb 16 false<|Ajs rfl rfl (APd rfl (AOr ?_))));by_cases Ae: ¬ (a3.length:Int)=(Bn.length:Int)
    ·rw [decide_eq_true Ae];refine An1 25 true<|Ahc rfl (AOz<|Ahp rfl (AOv<|Aho<|AO1 ?_));obtain rfl:=AOu<|ifT Ba Ae;refine AO6<|Ag7 ?_;have Ai:=Kst.anil2 (cI .i64) 61 2 Ac;obtain rfl:=AOu Ab;exact ⟨_,Aiz,Ai.x,_,_,_,_,rfl,(Ai.o2 p0),Ai.s.sel [0] AOs⟩
    ·have Bb:=ifF Ba Ae;rw [decide_eq_false Ae];refine Ahb 25 false<|AOr<|Ahb 25 false<|Ahx APa rfl H6 (Ahb 25 false<|AOr<|Ahb 25 false<|Ahx APa rfl H2 (Ahb 25 false<|Ajs rfl rfl (APd rfl (AOz<|⟨_,rfl,λAj=>?_,λAj=>?_⟩))))
     ·refine AOv<|Aho<|AO1 ?_;obtain rfl:=AOu<|Ahy Bb Aj;refine AO6<|Ag7 ?_;have Ak:=Kst.anil2 (cI .i64) 61 2 Ac;obtain rfl:=AOu Ab;exact ⟨_,Aiz,Ak.x,_,_,_,_,rfl,(Ak.o2 p0),Ak.s.sel [0] AOs⟩
     ·refine AO5<|q_t ?_;exact ⟨(():Unit),⟨AOu<|Ahz Bb Aj,Ac⟩,trivial⟩
   ·refine An1 16 true<|Aqc 16 true<|Ahc rfl (AOr<|An1 25 true<|Ahc rfl (AOz<|Ahp rfl (AOv<|Aho<|AO1 ?_)));obtain rfl:=AOu<|ifT A8 A9;refine AO6<|Ag7 ?_;have Am:=Kst.anil2 (cI .i64) 61 2 Ac;obtain rfl:=AOu Ab;exact ⟨_,Aiz,Am.x,_,_,_,_,rfl,(Am.o2 p0),Am.s.sel [0] AOs⟩
  ·refine Aki 11 true<|Ahc rfl (AOr<|An1 16 true<|Aqc 16 true<|Ahc rfl (AOr<|An1 25 true<|Ahc rfl (AOz<|Ahp rfl (AOv<|Aho<|AO1 ?_))));obtain rfl:=AOu<|ifT A6 A7;refine AO6<|Ag7 ?_;have Ao:=Kst.anil2 (cI .i64) 61 2 Ah;obtain rfl:=AOu Ab;exact ⟨_,Aiz,Ao.x,_,_,_,_,rfl,(Ao.o2 p0),Ao.s.sel [0] AOs⟩
 rintro ⟨⟩ Ca Cb ⟨Br,Bt⟩;subst Br;refine AOx<|AOv<|AOr ?_;obtain ⟨Cd,Bu,Bc⟩:=AOw Ab;refine Akb Bt (Aut Bu) λCe Cf Ap=>Akc rfl (AOz<|⟨_,rfl,λAq=>?_,λAq=>?_⟩)
 ·refine AOv<|Aho<|AO1<|AO6<|Ag7 ?_;have Ar:=Kst.anil2 (cI .i64) 61 2 Ap;obtain rfl:=AOu<|ifT Bc Aq;exact ⟨_,Aiz,Ar.x,_,_,_,_,rfl,(Ar.o2 p0),Ar.s.sel [0] AOs⟩
 ·refine AO5<|q_t<|AOv<|AOr ?_;obtain ⟨Cg,Bv,Bw⟩:=AOw<|Aok Bc Aq;refine Aux Ap (Axw (H6.ext Ap.x) Bv) λCh Ci Cj Ck Cm Cn Au=>AOr<|AOr<|AOr ?_;obtain ⟨Co,Bx,By⟩:=AOw Bw;refine Aux Au (Auu (H2.ext Au.x) (H6.ext Au.x) Bx) λCp Cq Cr Ct Cu Cv Av=>AOr ?_;obtain ⟨Cw,Bz,B1⟩:=AOw By;refine Aux Av (Auu (Av.o2 p1).rd (Av.o2 p0).rd Bz) λCx Cy Cz C0 C1 C2 Aw=>Aho<|AO1<|AO6 ?_;obtain rfl:=AOu B1;exact ⟨_,Aiz,Aw.x,_,_,_,_,rfl,(Aw.o2 p0),Aw.s.sel [0] AOs⟩
def Aoa (fuel:Nat) (a3:LiI):Option Bool:=
 (Aka fuel a3).bind λx5=>if x5=true then (gI a3 0).bind λAc=>if (a3.length:Int)=(Ac.length:Int) then some (decide ((a3.length:Int)<=8)) else some false else some false
theorem Ay5 {Ae:Value} {r:Bool} (H2:Ajw (cI .i64) h Ae a3) (hp:Aoa fuel a3=some r):Ahs Tryz.prog 141 #[Ae] h (λx h'=>Ext h h'/\x= .bool r):=by
 unfold Aoa at hp;refine cwf (l:=[_]) Tryz.func141 rfl rfl (AOv<|Ah7<|AOr ?_);have K0:=Kst.k0 h;obtain ⟨x5,Ak,Ag⟩:=AOw hp;refine Akb K0 (Ar1 (H2.ext K0.x) Ak) λh9 E8 Ab=>AOr ?_;cases Ah:x5
 ·refine An1 5 false<|Aqc 5 false<|APd rfl (AOr<|Aki 14 false<|APd rfl (AO1<|AO6 ?_));obtain rfl:=AOu<|Aok Ag Ah;exact ⟨_,AO7,Ab.x,rfl⟩
 ·refine Ahb 5 true<|AOr<|Ahb 5 true<|Ahx APa rfl H2 (Ahb 5 true<|AOr<|Ahb 5 true ?_);obtain ⟨Am,Ao,Ai⟩:=AOw<|ifT Ag Ah;refine Az4 APa rfl H2 rfl Ao λAv Aw Ax Ap Aq=>Ahb 5 true<|Ahu Aha rfl (AO8 Ap Ab.x) (Ahb 5 true<|Aim APe rfl Aq (Ahb 5 true<|Ai0 rfl rfl (Ahc rfl (AOr ?_))));by_cases Ac:(a3.length:Int)=(Am.length:Int)
  ·rw [decide_eq_true Ac];refine Ahb 14 true<|AOr<|Ahb 14 true<|Ahx APa rfl H2 (Ahb 14 true<|A3r rfl rfl (Ahc rfl (AO1<|AO6 ?_)));obtain rfl:=AOu<|ifT Ai Ac;exact ⟨_,AO7,Ab.x,rfl⟩
  ·rw [decide_eq_false Ac];refine Aki 14 false<|APd rfl (AO1<|AO6 ?_);obtain rfl:=AOu<|ifF Ai Ac;exact ⟨_,AO7,Ab.x,rfl⟩
def Al0 (fuel:Nat) (a3:LiI):Option Int:=
 (Ak9 fuel a3).bind λAb=>(Aif fuel Ab).bind λAc=>some Ac
theorem Aw5 {Ab:Value} {r:Int} (H2:Ajw (cI .i64) h Ab a3) (hp:Al0 fuel a3=some r):Ahs Tryz.prog 144 #[Ab] h (λx h'=>Ext h h'/\ ∃ (x0:Value),x=x0/\ZZ h' x0 r):=by
 unfold Al0 at hp;refine cwf (l:=[_]) Tryz.func144 rfl rfl (AOv<|Aj4 (Kst.k0 h) [.bool false,.slice none 0 0] Ams λb5 h6 E8 Ae=>Apt<|AOr ?_);obtain ⟨Au,Ai,Aj⟩:=AOw hp;refine Aux Ae (Aqn (H2.ext Ae.x) Ai) λAv Aw Ax v20 Ay Az Af=>?_;obtain ⟨A3,Ak,Am⟩:=AOw Aj;refine Avd Af (Ajt (Af.o2 p0).rd Ak) λA4 Ao A5 Ag=>Anz Ag p2 (Ahd Ao) (Ag.z p0) λA6 Aa=>AOz<|AO6 ?_;obtain rfl:=AOu Am;exact ⟨_,Ai3 Aip (cZ.klen<|Aa.z p0) rfl (Aa.b p2),Aa.x,_,rfl,(Aa.z p0).2⟩
def Aoh (fuel:Nat) (a3:LiI) (a5:Int):Option (Int × Int):=
 (Aoa fuel a3).bind λx6=>if (!x6)=true then some (0,3) else (Al2 fuel a5).bind λAd=>if (!Ad)=true then some (0,1) else (Ajh fuel a3 a5).bind λAe=>(Al0 fuel Ae).bind λAf=>(Ant fuel Af a5).bind λAg=>some (Ag,0)
theorem A1b {r:(Int × Int)} (H2:Ajw (cI .i64) h Ad a3) (hp:Aoh fuel a3 a5=some r):Ahs Tryz.prog 88 #[Ad,(.int .i64 a5)] h (λx h'=>Ext h h'/\x= .tuple #[.int .i64 r.1,.int .i64 r.2]):=by
 unfold Aoh at hp;refine cwf (l:=[_,_]) Tryz.func88 rfl rfl (AOv<|Aho<|AO1<|AOx<|AOv<|AOr ?_);have K0:=Kst.k0 h;obtain ⟨x6,Ap,Ai⟩:=AOw hp;refine Akb K0 (Ay5 (H2.ext K0.x) Ap) λA4 E9 Aj=>Akc rfl (AOz<|⟨_,rfl,λAa=>?_,λAa=>?_⟩)
 ·refine AOv<|Aho<|AO1<|AO6<|Ag7 ?_;obtain rfl:=AOu<|ifT Ai Aa;exact ⟨_,Aiz,Aj.x,rfl⟩
 ·refine AO5<|q_t<|AOx<|AOv<|AOr ?_;obtain ⟨A6,Aq,Ak⟩:=AOw<|Aok Ai Aa;refine Akb Aj (Aut Aq) λA7 A8 Ab=>Akc rfl (AOz<|⟨_,rfl,λAc=>?_,λAc=>?_⟩)
  ·refine AOv<|Aho<|AO1<|AO6<|Ag7 ?_;obtain rfl:=AOu<|ifT Ak Ac;exact ⟨_,Aiz,Ab.x,rfl⟩
  ·refine AO5<|q_t<|AOv<|AOr<|AOr ?_;obtain ⟨A9,Ar,Au⟩:=AOw<|Aok Ak Ac;refine Aux Ab (Aop (H2.ext Ab.x) Ar) λBa Bb Bc Be Bf Bg Am=>?_;obtain ⟨Bh,Av,Aw⟩:=AOw Au;refine Avd Am (Aw5 (Am.o2 p0).rd Av) λBi Bj Bl Ao=>AOr ?_;obtain ⟨Bm,Ax,Ay⟩:=AOw Aw;refine Akb Ao (Ayv (Ao.z p0).2 Ax) λBn Bo Az=>Aho<|AO1<|AO6 ?_;obtain rfl:=AOu Ay;exact ⟨_,Aiz,Az.x,rfl⟩
end Go.Proofs.YtkakafabeobahaaGreatDoor
namespace Go.QF
theorem A6k:∀ {n:Nat} {m:Int} {F G:Ahe},(∀ i j,i < n->j < n->Eqm m (F i j) (G i j))->Eqm m (det n F) (det n G):=by
 intro n m
 induction n with
 | zero=>intro _ _ _;rfl
 | succ n ih=>
   intro F G h
   refine Eqm.psum λi hi=>?_
   exact ((Eqm.refl _ _).mul (h i 0 hi AOq)).mul (ih (F:=Amv i F) (G:=Amv i G) λa b ha hb=>h _ _ (BJq ha) AOq)
theorem BG4 {n c:Nat} {q m:Int} (hc:c < n) (hi:i < n) (hne:c≠i):Eqm m (det n<|Az3 F c i q m) (-det n F):=by
 rw [<- Auo (F:=F) hc hi hne (-q),<- Ays (F:=Ajc F c λx=>F c x + -q * F i x) hc hi hne];refine A6k λa b ha hb=>?_;unfold Az3;rw [Ast,Ast];simp only [Aiu]
 have key:Eqm m ((F c b + (m - q) * F i b) % m) (F c b + -q * F i b):=by
  refine (Eqm.mod _ _).trans ?_;unfold Eqm;rw [show F c b + (m - q) * F i b=F c b + -q * F i b + m * F i b by grind,Int.add_mul_emod_self_left]
 split
 ·split <;> first | exact key | rfl
 ·split
  ·split <;> first | exact key | rfl
  ·first | rfl | exact key
theorem BKg {m s:Int}:∀ n,Eqm m (A0s F m s n) (s * Aoj (λi=>F i i) n):=by
 intro n
 induction n with
 | zero=>unfold A0s Aoj Eqm;rw [Int.add_emod_right,Int.mul_one]
 | succ n ih=>
   unfold A0s Aoj
   refine (Eqm.mod _ _).trans ?_
   rw [<- Int.mul_assoc]
   exact ((Eqm.mod _ _).trans ih).mul (Eqm.refl _ _)
def BP0 (M:List (List Int)) (m:Int):Int:=if Awa M && A50 m then det M.length (ent M) % m else 0
def BP1 (M:List (List Int)) (m:Int):Int:=if Awa M then (if A50 m then 0 else 1) else 3
end Go.QF
namespace Go.Proofs.YtkakafabeobahaaGreatDoor
open Go Go.QF
end Go.Proofs.YtkakafabeobahaaGreatDoor
namespace Go.Proofs.YtkakafabeobahaaGreatDoor
open Go Go.QF
theorem BP2 {m:Int} (hm:0 < m) (Ab:m<=2147483647):Ah5 fuel a m=some (a % m):=by
 unfold Ah5;rw [if_pos AOq];have h1:=Int.tmod_lt_of_pos a hm
 have h2: -m < Int.tmod a m:=by
  have:=Int.tmod_lt_of_pos (-a) hm
  rw [Int.neg_tmod] at this;omega
 have h3:Int.tmod a m=a % m∨Int.tmod a m=a % m - m:=by
  grind
 have h4:=Int.emod_nonneg a (by omega:m≠0);have h5:=Int.emod_lt_of_pos a hm;rcases h3 with h3 | h3
 ·grind
 ·rw [if_pos AOq,wk AOq];congr 1;omega
theorem BFc {A:List (List Int)} (hf:21 < fuel):Aka fuel A=some (Axo A):=by
 apply ok_eq;unfold Aka;have hbad:∀ h: ¬ Valid A,Axo A=false:=λh=>(BH6 h).symm;refine AOy (Q:=λex=>match ex with | .inl e=>e=false/\Axo A=false | .inr _=>1<=A.length/\A.length<=16) (Ag9 (λh=>AOt ⟨rfl,hbad λhv=>by have:=hv.1;omega⟩) λh=>Ag9 (λh2=>AOt ⟨rfl,hbad λhv=>by have:=hv.2.1;omega⟩) λh2=>AOt ⟨AOq,AOq⟩) λex hex=>?_
 cases ex with
 | inl e=>exact AOt (hex.1.trans hex.2.symm)
 | inr u=>
   dsimp only at hex ⊢
   obtain ⟨z0,Ac⟩:∃ z,A[0]? =some z:=⟨A[0]'AOq,List.getElem?_eq_getElem _⟩
   have hc:=Aya Ac
   refine AOy (Ah4 (λi (s:Int)=>s=(i:Int)/\ ∀ z∈A.take i,1<=z.length/\z.length<=16/\z.length=Au8 A) A.length (Q:=λex=>match ex with | .inl e=>e=false/\Axo A=false | .inr _=>Axo A=true) ⟨rfl,Ah6⟩ AOq λi s hi hI=>?_) λex Ab=>?_
   ·obtain ⟨rfl,hI⟩:=hI
    unfold Ar0
    refine Ag9 (λh=>?_) λh=>AOt ?_
    ·have hi':i < A.length:=by omega
     obtain ⟨row,hrow⟩:∃ row,A[i]? =some row:=⟨A[i],List.getElem?_eq_getElem hi'⟩
     have bad: ¬ (1<=row.length/\row.length<=16/\row.length=Au8 A)->Axo A=false:=λhb=>hbad λhv=>hb (by have:=hv.2.2.2.2 row<|List.mem_of_getElem? hrow;have:=hv.2.2.1;have:=hv.2.2.2.1;omega)
     refine Ahj hrow rfl (Ahj Ac rfl (Ag9 (λh1=>AOt ⟨rfl,bad AOq⟩) λh1=>Ag9 (λh2=>AOt ⟨rfl,bad AOq⟩) λh2=>Ag9 (λh3=>AOt ⟨rfl,bad AOq⟩) λh3=>AOt ⟨hi',wk AOq,?_⟩))
     rw [List.take_add_one,hrow]
     grind
    ·obtain rfl:i=A.length:=by omega
     rw [List.take_length] at hI
     refine (BH7 ⟨hex.1,hex.2,?_,?_,λz hz=>(hI z hz).2.2⟩).symm
     ·grind
     grind
   ·cases ex with
    | inl e=>exact AOt (Ab.1.trans Ab.2.symm)
    | inr u=>exact AOt Ab.symm
theorem BG5 {row:List Int} {m:Int} (hm:0 < m) (Aa:m<=2147483647) (hl:row.length<=100000000) (hf:row.length < fuel):iter (λs=>Aoo fuel m row s.1 s.2) fuel ([],0)=some (row.map (· % m)):=by
 apply ok_eq;refine Ah4 (λi s=>s=((row.take i).map (· % m),(i:Int))) row.length Ah6 hf λi s hi hI=>?_;subst hI;unfold Aoo;dsimp only;refine Ag9 (λh=>?_) λh=>AOt ?_
 ·obtain ⟨x,hx⟩:∃ x,row[i]? =some x:=⟨row[i]'AOq,List.getElem?_eq_getElem _⟩;refine Ahj hx rfl (AOy (Aid<|BP2 hm Aa) λy hy=>Ah8 (by simp;omega)<|AOt ⟨AOq,?_⟩);subst hy;rw [wk AOq,List.take_add_one,hx];simp
 grind
theorem BB5 {A:List (List Int)} {m:Int} (hm:0 < m) (Aa:m<=2147483647) (hl:A.length<=100000000) (hf:A.length < fuel) (hr:∀ z∈A,z.length<=100000000/\z.length < fuel):Ajh fuel A m=some (Axd A m):=by
 apply ok_eq;unfold Ajh;refine AOy (Ah4 (λi s=>s=(Axd (A.take i) m,(i:Int))) A.length (Q:=(· =Axd A m)) (by simp [Axd]) hf λi s hi hI=>?_) λx hx=>AOt hx;subst hI;unfold Aq6;dsimp only;refine Ag9 (λh=>?_) λh=>AOt ?_
 ·have hi':i < A.length:=by omega
  obtain ⟨row,hrow⟩:∃ row,A[i]? =some row:=⟨A[i],List.getElem?_eq_getElem hi'⟩;have:=hr row<|List.mem_of_getElem? hrow;refine Ahj hrow rfl (AOy (Aid<|BG5 hm Aa this.1 this.2) λy hy=>Ah8 (by simp [Axd];omega)<|AOt ⟨hi',?_⟩);subst hy;rw [wk AOq,List.take_add_one,hrow];simp [Axd]
 grind
theorem A87 {m:Int}:Al2 fuel m=some (A50 m):=by
 unfold Al2 A50;grind
theorem BKh {A:List (List Int)} (hf:21 < fuel):Aoa fuel A=some (Awa A):=by
 apply ok_eq;unfold Aoa;refine AOy (Aid<|BFc hf) λv hv=>?_;subst hv;refine Ag9 (λh=>?_) λh=>AOt ?_
 ·have hv:Valid A:=by simpa [Axo] using h
  obtain ⟨z0,Ab⟩:∃ z,A[0]? =some z:=⟨A[0]'(by have:=hv.1;omega),List.getElem?_eq_getElem _⟩;have hc:=Aya Ab;refine Ahj Ab rfl (Ag9 (λh2=>AOt ?_) λh2=>AOt ?_)
  ·unfold Awa;rw [Bool.eq_iff_iff];simp only [decide_eq_true_eq];constructor
   ·intro h3;exact ⟨hv,AOq,AOq⟩
   ·intro h3;have:=h3.2.2;omega
  ·symm;unfold Awa;rw [decide_eq_false_iff_not];intro h3;have:=h3.2.1;omega
 ·symm;unfold Awa;rw [decide_eq_false_iff_not];intro h3;exact h (by simpa [Axo] using h3.1)
theorem BG6 {m:Int} (hm:0 < m) (Aa:m<=2147483647) (hd:d.natAbs < Alj):Ant fuel d m=some (d % m):=by
 have h4:=Int.emod_nonneg d (by omega:m≠0);have h5:=Int.emod_lt_of_pos d hm;have hb:m.natAbs < Alj:=Nat.lt_of_lt_of_le (show m.natAbs < 2147483648 by omega) AOs;unfold Ant Ar9;rw [if_pos AOq];show (Alq fuel d m).bind _=_;unfold Alq Az7;rw [if_pos ⟨hd,hb,AOq⟩];show (A2u fuel<|d % m).bind _=_;unfold A2u;grind
theorem A5x {A:List (List Int)} {m:Int} (hm:0 < m) (Aa:m<=2147483647) (i j:Nat):(ent (Axd A m) i j).natAbs<=m63:=by
 rw [BEe];have h4:=Int.emod_nonneg (ent A i j) (by omega:m≠0);have h5:=Int.emod_lt_of_pos (ent A i j) hm;unfold m63;omega
theorem A7v {A:List (List Int)} {m:Int} (h:Awa A=true):Axd A m=tab A.length A.length (ent<|Axd A m)/\okM (Axd A m)=true/\A.length<=8/\1<=A.length:=by
 have hs:A6z A:=by simpa [Awa] using h
 obtain ⟨hv,h1,h2⟩:=hs
 have hr:∀ z∈Axd A m,z.length=A.length:=λz hz=>by
  obtain ⟨y,hy,rfl⟩:=List.mem_map.1 hz
  rw [List.length_map,hv.2.2.2.2 y hy];omega
 refine ⟨?_,?_,h2,hv.1⟩
 ·have:=A41 hr;rwa [BEd] at this
 ·unfold okM;rw [decide_eq_true_eq,BEd];refine ⟨hv.1,AOq,λz hz=>?_⟩;rw [hr z hz,BIc];exact ⟨hv.1,AOq,h1⟩
theorem BDu {A:List (List Int)} {m:Int} (hf:21 < fuel) (hs:Awa A=true) (hm:A50 m=true):Al0 fuel (Axd A m)=some (det A.length<|ent<|Axd A m):=by
 have hm':2<=m/\m<=2147483647:=by simpa [A50] using hm
 obtain ⟨ht,hok,h8,h1⟩:=A7v (m:=m) hs;unfold Al0
 have hr:∀ z∈Axd A m,∀ x∈z,-9223372036854775808<=x/\x<=9223372036854775807:=λz hz x hx=>by
  obtain ⟨y,hy,rfl⟩:=List.mem_map.1 hz
  obtain ⟨w,hw,rfl⟩:=List.mem_map.1 hx
  have h4:=Int.emod_nonneg w (by omega:m≠0)
  have h5:=Int.emod_lt_of_pos w (by omega:0 < m)
  omega
 rw [BOv hr AOq,hok];show (Aif fuel<|Axd A m).bind _=_;have:=BPt (fuel:=fuel) (n:=A.length) (F:=ent<|Axd A m) AOq (λi j=>A5x AOq AOq i j) AOq;grind
theorem BM8 {A:List (List Int)} {m:Int} {n:Nat} (hm:0 < m) (Aa:m<=2147483647) (hn:n<=16):(det n<|ent<|Axd A m).natAbs < Alj:=BJ2<|Nat.le_trans (A4l λi j=>A5x hm Aa i j) (BJ3 hn).1
theorem BB6 {A:List (List Int)} {m:Int} {n:Nat}:det n (ent<|Axd A m) % m=det n (ent A) % m:=A6k λi j _ _=>by rw [BEe];exact Eqm.mod _ _
theorem BKi {A:List (List Int)} {m:Int} (hf:21 < fuel) (hl:A.length<=20/\ ∀ z∈A,z.length<=20):Aoh fuel A m=some (BP0 A m,BP1 A m):=by
 apply ok_eq;unfold Aoh BP0 BP1;refine AOy (Aid<|BKh hf) λv hv=>?_;subst hv
 cases hs:Awa A with
 | false=>exact AOt rfl
 | true=>
   refine Ag9 (λh=>by cases h) λ_=>AOy (Aid A87) λv hv=>?_
   subst hv
   cases hm:A50 m with
   | false=>exact AOt rfl
   | true=>
     have hm':2<=m/\m<=2147483647:=by simpa [A50] using hm
     refine Ag9 (λh=>by cases h) λ_=>AOy (Aid<|BB5 AOq AOq AOq AOq λz hz=>by grind) λR hR=>?_
     subst hR
     refine AOy (Aid<|BDu hf hs hm) λd hd=>?_
     subst hd
     obtain ⟨ht,hok,h8,h1⟩:=A7v (m:=m) hs
     refine AOy (Aid<|BG6 AOq AOq<|BM8 AOq AOq AOq) λx hx=>AOt ?_
     subst hx
     rw [BB6];rfl
end Go.Proofs.YtkakafabeobahaaGreatDoor
namespace Go.QF
def BP3 (n:Nat) (F:Ahe) (i j:Nat):Int:=det n<|Ajc F i<|dl j
def A7w (n:Nat) (F:Ahe) (i j:Nat):Int:=BP3 n F j i
def tau (j c:Nat):Nat:=if c=j then j + 1 else if c=j + 1 then j else c
theorem BB7 {n:Nat} (hj:j + 1 < n):det n (λr c=>F r<|tau j c)= -det n F:=by
 rw [<- Ayu (λr c=>F r<|tau j c),<- Ayu F,<- Ays (F:=trF F) (a:=j) (b:=j + 1) AOq hj AOq];refine Ajd λc r hc hr=>?_;rw [Ast];show F r (tau j c)=if c=j + 1 then F r j else if c=j then F r (j + 1) else F r c;unfold tau;by_cases h1:c=j + 1
 ·subst h1;simp
 ·by_cases h2:c=j
  ·subst h2;simp
  ·simp [h1,h2]
theorem A0g {n a:Nat} (ha:a < n) (h:∀ i,i < n->i≠a->f i=0):psum f n=f a:=by
 rw [Ais (g:=λi=>if i=a then f a else 0) λk hk=>?_,Ass ha λi hi=>if_neg hi,if_pos rfl];by_cases e:k=a
 ·subst e;rw [if_pos rfl]
 ·rw [if_neg e,h k hk e]
theorem BM9 {n:Nat} (hi:i < n) (hj:j < n):psum (λk=>F i k * BP3 n F j k) n=if i=j then det n F else 0:=by
 have h:=A7j (F:=F) hj (F i) dl n
 have e:det n (Ajc F j λq=>psum (λk=>F i k * dl k q) n)=det n (Ajc F j<|F i):=Ajd λr c _ hc=>by
  rw [Aiu,Aiu]
  split
  ·exact BJx (F:=F) (i:=i) hc
  ·rfl
 unfold BP3;rw [<- h,e];split
 ·subst_vars
  refine Ajd λr c _ _=>?_;rw [Aiu];split
  ·subst_vars;rfl
  ·rfl
 ·rename_i hij;refine Av2 hi hj hij ?_;funext c;rw [Aiu,if_neg hij,Aiu,if_pos rfl]
theorem BG7 {n:Nat} (hi:i < n) (hj:j < n):psum (λk=>F i k * A7w n F k j) n=det n F * dl i j:=by
 unfold A7w;rw [BM9 hi hj];unfold dl;split <;> simp
end Go.QF
namespace Go.Proofs.YtkakafabeobahaaGreatDoor
open Go Go.QF
theorem BB8 {n c:Nat} {f g:Nat->Nat} (hr:r<=100) (hc:c<=100) (hf:100 < fuel) (hfn:∀ a,a < r->f a < n) (hgn:∀ a,a < c->g a < n):Amh fuel (tab n n F) (Aju r λa=>(f a:Int)) (Aju c λa=>(g a:Int))=some (tab r c λa b=>F (f a)<|g b):=by
 apply ok_eq;unfold Amh;refine AOy (Ah4 (λi s=>s=(Aju i λa=>Aju c λb=>F (f a)<|g b,(i:Int))) r (Q:=(· =tab r c λa b=>F (f a)<|g b)) rfl AOq λi s hi hI=>?_) λy hy=>AOt hy;subst hI;unfold Aqz;dsimp only;rw [Ah0];refine Ag9 (λh=>?_) λh=>AOt ?_
 ·have hi':i < r:=by omega
  refine Ahj (Ahr hi') rfl (AOy (Ah4 (λj s=>s=(Aju j λb=>F (f i)<|g b,(j:Int))) c (Q:=(· =Aju c λb=>F (f i)<|g b)) rfl AOq λj s hj hJ=>?_) λe he=>Ah8 (by rw [Ah0];omega)<|AOt ⟨hi',?_⟩)
  ·subst hJ;unfold Aqy;dsimp only;rw [Ah0,Ah0];refine Ag9 (λh2=>?_) λh2=>AOt ?_
   ·have hj':j < c:=by omega
    refine Ahj (Ahr hj') rfl (Ahj (Ahw<|hfn i hi') rfl (Ahj (Ahr<|hgn j hj') rfl (Ah8 AOq<|AOt ⟨hj',?_⟩)));rw [wk AOq,<- Av0];rfl
   ·obtain rfl:j=c:=by omega
    rfl
  ·subst he;rw [wk AOq,<- Av0];rfl
 ·obtain rfl:i=r:=by omega
  rfl
theorem A88 {n:Nat} (hn:1<=n) (Ad:n<=16) (hf:100 < fuel):Ala fuel (tab n n F)=some ((n:Int),true):=by
 apply ok_eq;unfold Ala;refine AOy (Q:=(· =((n:Int),(n:Int),true))) ?_ λe he=>?_
 ·unfold Aje;rw [Ahv];refine AOy (Q:=λex=>match ex with | .inl _=>False | .inr _=>True) (Ag9 (λh=>by omega) λh=>Ag9 (λh2=>by omega) λh2=>AOt trivial) λex hex=>?_
  cases ex with
  | inl e=>exact hex.elim
  | inr u=>
    dsimp only
    refine AOy (Ah4 (λi (s:Int)=>s=i) n (Q:=λex=>match ex with | .inl _=>False | .inr _=>True) rfl AOq λi s hi hI=>?_) λex hex=>?_
    ·subst hI
     unfold Am5
     rw [Ahv]
     refine Ag9 (λh=>Ahj (Ahw AOq) rfl ?_) λh=>AOt trivial
     rw [Ah0]
     refine Ag9 (λh2=>by omega) λh2=>Ag9 (λh3=>by omega) λh3=>Ahj (n:=0) (Ahw AOq) rfl (Ag9 (λh4=>?_) λh4=>AOt ⟨AOq,wk AOq⟩)
     rw [Ah0] at h4;omega
    ·cases ex with
     | inl e=>exact hex.elim
     | inr u=>exact Ahj (n:=0) (Ahw AOq) rfl (AOt<|by rw [Ah0])
 ·subst he;dsimp only;exact Ag9 (λh=>by cases h) λ_=>Ag9 (λh=>absurd rfl h) λ_=>AOt rfl
end Go.Proofs.YtkakafabeobahaaGreatDoor
namespace Go.QF
def Atz (n:Nat) (A:Ahe):Prop:= ∀ i j,i < n->j < n->A i j=A j i
def Avj (n:Nat) (A:Ahe):Prop:= ∀ k,k<=n->0 < det k A
theorem Awp {n:Nat} (hk:k<=n) (hi:i < n):bro k i r < n:=by unfold bro;split <;> omega
theorem BDv {n:Nat} (hs:Atz n A) (hk:k<=n) (hi:i < n) (hj:j < n):Mn k A i j=Mn k A j i:=by
 unfold Mn;rw [<- Ayu];refine Ajd λr c _ _=>?_;exact hs _ _ (Awp hk hi)<|Awp hk hj
theorem BDw (A:Ahe) (j:Nat) (hi:i < k):Mn k A i j=0:=by
 unfold Mn;refine Av2 (a:=i) (b:=k) AOq AOq AOq ?_;funext c;unfold bro;simp [hi]
def bil (n k:Nat) (A:Ahe) (x y:Nat->Int):Int:=psum (λi=>psum (λj=>Mn k A i j * x i * y j) n) n
def lin (n k:Nat) (A:Ahe) (x:Nat->Int):Int:=psum (λj=>Mn k A k j * x j) n
theorem BG8 (f g:Nat->Int) (n:Nat):psum (λi=>psum (λj=>f i * g j) n) n=psum f n * psum g n:=by
 rw [Ais (g:=λi=>psum g n * f i) (λi _=>by rw [Aow,Int.mul_comm]),Aow,Int.mul_comm]
theorem BSq {n:Nat} (hs:Atz n A) (hk:k < n) (h0:det k A≠0) (x y:Nat->Int):det (k + 1) A * bil n k A x y=lin n k A x * lin n k A y + det k A * bil n (k + 1) A x y:=by
 unfold bil;rw [<- Aow,<- Aow];have e1:lin n k A x * lin n k A y=psum (λi=>psum (λj=>Mn k A k i * x i * (Mn k A k j * y j)) n) n:=(BG8 (λi=>Mn k A k i * x i) (λj=>Mn k A k j * y j) n).symm;rw [e1,<- Avh];refine Ais λi hi=>?_;rw [<- Aow,<- Aow,<- Avh];refine Ais λj hj=>?_;have h:=A2x (k:=k) (A:=A) h0 i j;rw [Asb,BDv hs AOq hi hk] at h;grind
theorem BNa (n:Nat) (A:Ahe) (x y:Nat->Int):bil n n A x y=0:=by
 unfold bil;rw [Ais (g:=λ_=>0) λi hi=>?_]
 ·exact Ax8 n
 ·rw [Ais (g:=λ_=>0) λj _=>by rw [BDw A j hi];simp];exact Ax8 n
theorem Ayw {n:Nat} (hs:Atz n A) (hp:Avj n A) (x:Nat->Int):∀ d k,k + d=n->0<=bil n k A x x:=by
 intro d
 induction d with
 | zero=>
    intro k hk;obtain rfl:k=n:=by omega
    rw [BNa];omega
 | succ d ih=>
   intro k hk
   have h1:=ih (k + 1) AOq
   have h2:=hp k AOq
   have h3:=hp (k + 1) AOq
   have h4:=BSq hs (show k < n by omega) AOq x x
   have h5:0<=lin n k A x * lin n k A x:=by
    rcases Int.le_total 0 (lin n k A x) with h | h
    ·exact Int.mul_nonneg h h
    ·exact Int.mul_nonneg_of_nonpos_of_nonpos h h
   have h6:=Int.mul_nonneg (Int.le_of_lt h2) h1
   exact Int.nonneg_of_mul_nonneg_right AOq h3
theorem BAb {n:Nat} (a b:Int) (x y z:Nat->Int):bil n k A (λi=>a * x i + b * y i) z=a * bil n k A x z + b * bil n k A y z:=by
 unfold bil;rw [<- Aow,<- Aow,<- Avh];refine Ais λi _=>?_;rw [<- Aow,<- Aow,<- Avh];grind
theorem BAc {n:Nat} (hs:Atz n A) (hk:k<=n) (x y:Nat->Int):bil n k A x y=bil n k A y x:=by
 unfold bil;rw [A8t];refine Ais λj hj=>Ais λi hi=>?_;rw [BDv hs hk hi hj];grind
theorem BKj {n:Nat} (hs:Atz n A) (hp:Avj n A) (hk:k<=n) (x y:Nat->Int):bil n k A x y * bil n k A x y<=bil n k A x x * bil n k A y y:=by
 obtain ⟨p,hpq⟩:∃ p,bil n k A x y=p:=⟨_,rfl⟩;obtain ⟨q,hq⟩:∃ q,bil n k A x x=q:=⟨_,rfl⟩;obtain ⟨r,hr⟩:∃ r,bil n k A y y=r:=⟨_,rfl⟩;have hyx:bil n k A y x=p:=by rw [BAc hs hk];exact hpq
 have key:∀ a b:Int,0<=a * (a * q + b * p) + b * (a * p + b * r):=λa b=>by
  have h:=Ayw hs hp (λi=>a * x i + b * y i) (n - k) k AOq;rw [BAb,BAc hs hk x λi=>a * x i + b * y i,BAb,BAc hs hk y λi=>a * x i + b * y i,BAb,hpq,hq,hr,hyx] at h;exact h
 rw [hpq,hq,hr];have hq0:0<=q:=hq ▸ Ayw hs hp x (n - k) k AOq
 rcases Int.lt_or_eq_of_le hq0 with h | h
 ·have h1:=key p<|-q;have e:p * (p * q + -q * p) + -q * (p * p + -q * r)=q * (q * r - p * p):=by grind
  rw [e] at h1;have:=Int.nonneg_of_mul_nonneg_right h1 h;omega
 ·subst h;have h1:=key (-(r + 1)) p;have h2:=key 1 0;have e: -(r + 1) * (-(r + 1) * 0 + p * p) + p * (-(r + 1) * p + p * r)= -((r + 2) * (p * p)):=by grind
  rw [e] at h1;have hr0:0<=r:=hr ▸ Ayw hs hp y (n - k) k AOq
  have hpp:0<=p * p:=by
   rcases Int.le_total 0 p with h | h
   ·exact Int.mul_nonneg h h
   ·exact Int.mul_nonneg_of_nonpos_of_nonpos h h
  have:0<=r * (p * p):=Int.mul_nonneg hr0 hpp;grind
theorem A4q {n:Nat} (hi:i < n) (hj:j < n):bil n k A (dl i) (dl j)=Mn k A i j:=by
 unfold bil;rw [A0g hi λa ha hne=>?_,A0g hj λb hb hne=>?_]
 ·simp [dl]
 ·unfold dl;grind
 ·rw [Ais (g:=λ_=>0) λb _=>by unfold dl;grind];exact Ax8 n
theorem A5c {n:Nat} (hs:Atz n A) (hp:Avj n A) (hk:k<=n) (hi:i < n) (hj:j < n):Mn k A i j * Mn k A i j<=Mn k A i i * Mn k A j j:=by
 have:=BKj hs hp hk (dl i)<|dl j;rwa [A4q hi hj,A4q hi hi,A4q hj hj] at this
theorem A5d {n:Nat} (hs:Atz n A) (hp:Avj n A) (hk:k<=n) (hi:i < n):0<=Mn k A i i:=by
 have:=Ayw hs hp (dl i) (n - k) k AOq;rwa [A4q hi hi] at this
theorem BAd {n:Nat} (hs:Atz n A) (hp:Avj n A) (hk:k < n) (hi:i < n):det (k + 1) A * Mn k A i i=Mn k A i k * Mn k A i k + det k A * Mn (k + 1) A i i:=by
 have h:=A2x (k:=k) (A:=A) (by have:=hp k AOq;omega) i i;rw [Asb,<- BDv hs AOq hi hk] at h;omega
theorem BKk {n:Nat} (hs:Atz n A) (hp:Avj n A) (hi:i < n):∀ k,k<=n->Mn k A i i<=det k A * A i i:=by
 intro k
 induction k with
 | zero=>intro _;rw [Awo];simp [det]
 | succ k ih=>
   intro hk
   have h1:=ih AOq
   have h2:=BAd hs hp (show k < n by omega) hi
   have h3:0<=Mn k A i k * Mn k A i k:=by
    rcases Int.le_total 0 (Mn k A i k) with h | h
    ·exact Int.mul_nonneg h h
    ·exact Int.mul_nonneg_of_nonpos_of_nonpos h h
   have h4:=hp k AOq
   have h5:=hp (k + 1) AOq
   have h6:det (k + 1) A * Mn k A i i<=det (k + 1) A * (det k A * A i i):=Int.mul_le_mul_of_nonneg_left h1 AOq
   have h7:det k A * Mn (k + 1) A i i<=det k A * (det (k + 1) A * A i i):=by
    grind
   simp_all
theorem BKl {n:Nat} (hs:Atz n A) (hp:Avj n A) (hB:1<=B) (hA:∀ i,i < n->A i i<=B):∀ k,k<=n->det k A<=B ^ k:=by
 intro k;induction k with
 | zero=>intro _;simp [det]
 | succ k ih=>
   intro hk;have h1:=ih AOq;have h2:=BKk hs hp (show k < n by omega) k AOq;rw [Asb] at h2;have h3:=hp k AOq;have h4:det k A * A k k<=det k A * B:=Int.mul_le_mul_of_nonneg_left (hA k AOq) AOq;have h5:det k A * B<=B ^ k * B:=Int.mul_le_mul_of_nonneg_right h1 AOq;grind
theorem BNb {n:Nat} (hs:Atz n A) (hp:Avj n A) (x:Nat->Int) (hk:k < n):x k * x k<=A7w n A k k * bil n 0 A x x:=by
 have hd:=hp n<|Nat.le_refl _
 have hB:∀ y z:Nat->Int,bil n 0 A y z=psum (λi=>y i * psum (λj=>A i j * z j) n) n:=λy z=>by
  unfold bil;refine Ais λi _=>?_;rw [<- Aow];exact Ais λj _=>by rw [Awo];grind
 have h1:∀ y:Nat->Int,bil n 0 A y (λj=>A7w n A j k)=det n A * y k:=λy=>by
  rw [hB,Ais (g:=λi=>y i * (det n A * dl i k)) λi hi=>by rw [BG7 hi hk]];rw [A0g hk (λi _ hne=>by unfold dl;grind)];simp [dl,Int.mul_comm]
 have h2:=BKj hs hp (Nat.zero_le n) x λj=>A7w n A j k;rw [h1 x,h1 λj=>A7w n A j k] at h2;have e1:det n A * x k * (det n A * x k)=det n A * (det n A * (x k * x k)):=by grind
 have e2:bil n 0 A x x * (det n A * A7w n A k k)=det n A * (A7w n A k k * bil n 0 A x x):=by grind
 rw [e1,e2] at h2;have h3:=Int.le_of_mul_le_mul_left h2 hd
 have h4:0<=x k * x k:=by
  rcases Int.le_total 0 (x k) with h | h
  ·exact Int.mul_nonneg h h
  ·exact Int.mul_nonneg_of_nonpos_of_nonpos h h
 have h5:1 * (x k * x k)<=det n A * (x k * x k):=Int.mul_le_mul_of_nonneg_right AOq h4;omega
def A5e (A:Ahe) (i j:Nat) (c:Int):Ahe:=Ajc A i λs=>A i s + c * A j s
def BKm (A:Ahe) (i j:Nat) (c:Int):Ahe:=trF<|A5e (trF A) i j c
def A4r (A:Ahe) (i j:Nat) (c:Int):Ahe:=BKm (A5e A i j c) i j c
def swA (A:Ahe) (j:Nat):Ahe:=λr s=>A (tau j r)<|tau j s
theorem BKo (l:Nat) (A:Ahe) (r s:Nat):Mn l (trF A) s r=Mn l A r s:=by
 unfold Mn;rw [<- Ayu];rfl
theorem BB9 {c:Int} (hij:j < i):det k (A5e A i j c)=det k A:=by
 rcases Nat.lt_or_ge i k with h | h
 ·exact Auo h AOq AOq c
 ·refine Ajd λr s hr _=>?_;unfold A5e;rw [Aiu,if_neg AOq]
theorem BKp {c:Int} (hij:j < i):det k (BKm A i j c)=det k A:=by
 unfold BKm;rw [Ayu,BB9 hij,Ayu]
theorem Axa {c:Int} (hij:j < i):det k (A4r A i j c)=det k A:=by
 unfold A4r;rw [BKp hij,BB9 hij]
theorem BAe {c:Int} (hij:j < i) (hr:l<=r):Mn l (A5e A i j c) r s=Mn l A r s + if l<=i/\r=i then c * Mn l A j s else 0:=by
 rcases Nat.lt_or_ge i l with h | h
 ·rw [if_neg AOq,Int.add_zero];unfold Mn;have e:=Auo (n:=l + 1) (F:=λa b=>A (bro l r a)<|bro l s b) (a:=i) (b:=j) AOq AOq AOq c;rw [<- e];refine Ajd λa b ha _=>?_;rw [Aiu];unfold A5e;rw [Aiu];have hbi:bro l r i=i:=by unfold bro;rw [if_pos h]
  have hbj:bro l r j=j:=by unfold bro;grind
  by_cases ea:a=i
  ·grind
  ·rw [if_neg ea,if_neg];unfold bro;split <;> omega
 ·by_cases er:r=i
  ·subst er;rw [if_pos ⟨h,rfl⟩];unfold Mn;have e:=A08 (n:=l + 1) (F:=λa b=>A (bro l r a)<|bro l s b) (r:=l) (λb=>A r<|bro l s b) (λb=>A j<|bro l s b) 1 c AOq
   have e1:det (l + 1) (λa b=>A5e A r j c (bro l r a)<|bro l s b)=det (l + 1) (Ajc (λa b=>A (bro l r a)<|bro l s b) l λq=>1 * A r (bro l s q) + c * A j (bro l s q)):=by
    refine Ajd λa b ha _=>?_
    rw [Aiu]
    unfold A5e
    rw [Aiu]
    by_cases ea:a=l
    ·subst ea
     rw [show bro a r a=r by unfold bro;grind,if_pos rfl,if_pos rfl,Int.one_mul]
    ·rw [if_neg ea,if_neg]
     unfold bro;grind
   have e2:det (l + 1) (Ajc (λa b=>A (bro l r a)<|bro l s b) l λb=>A r<|bro l s b)=det (l + 1) (λa b=>A (bro l r a)<|bro l s b):=by
    refine Ajd λa b ha _=>?_
    rw [Aiu]
    by_cases ea:a=l
    ·subst ea;rw [if_pos rfl,show bro a r a=r by unfold bro;grind]
    omega
   have e3:det (l + 1) (Ajc (λa b=>A (bro l r a)<|bro l s b) l λb=>A j<|bro l s b)=det (l + 1) (λa b=>A (bro l j a)<|bro l s b):=by
    refine Ajd λa b ha _=>?_
    rw [Aiu]
    by_cases ea:a=l
    ·subst ea;rw [if_pos rfl,show bro a j a=j by unfold bro;grind]
    ·rw [if_neg ea,show bro l r a=a by unfold bro;grind,show bro l j a=a by unfold bro;grind]
   grind
  ·rw [if_neg λh=>er h.2,Int.add_zero];unfold Mn;refine Ajd λa b ha _=>?_;unfold A5e;rw [Aiu,if_neg];unfold bro;split <;> omega
theorem BNc {c:Int} (hij:j < i) (hs:l<=s):Mn l (BKm A i j c) r s=Mn l A r s + if l<=i/\s=i then c * Mn l A r j else 0:=by
 unfold BKm;rw [BKo,BAe hij hs,BKo,BKo]
theorem BKq {c:Int} (hij:j < i) (hr:l<=r) (hs:l<=s):Mn l (A4r A i j c) r s=Mn l A r s + (if l<=i/\r=i then c * Mn l A j s else 0) + if l<=i/\s=i then c * (Mn l A r j + if l<=i/\r=i then c * Mn l A j j else 0) else 0:=by
 unfold A4r;rw [BNc hij hs,BAe hij hr,BAe hij hr]
theorem A6l (A:Ahe) (i j:Nat) (c:Int) (r s:Nat):A4r A i j c r s=if s=i then (if r=i then A i i + c * A j i else A r i) + c * (if r=i then A i j + c * A j j else A r j) else if r=i then A i s + c * A j s else A r s:=by
 show Ajc (trF<|A5e A i j c) i (λq=>trF (A5e A i j c) i q + c * trF (A5e A i j c) j q) s r=_;rw [Aiu];unfold trF A5e;by_cases h:s=i
 ·rw [if_pos h,if_pos h,Aiu,Aiu]
 ·rw [if_neg h,if_neg h,Aiu]
theorem BNd {n:Nat} {c:Int} (hi:i < n) (hj:j < n) (h:Atz n A):Atz n (A4r A i j c):=by
 intro r s hr hs;rw [A6l,A6l];by_cases h1:r=i
 ·by_cases h2:s=i
  ·rw [h1,h2]
  ·rw [if_neg h2,if_pos h1,if_pos h1,if_neg h2,if_neg h2,h i s hi hs,h j s hj hs]
 ·by_cases h2:s=i
  ·rw [if_pos h2,if_neg h1,if_neg h1,if_neg h1,if_pos h2,h r i hr hi,h r j hr hj]
  ·rw [if_neg h2,if_neg h1,if_neg h1,if_neg h2,h r s hr hs]
theorem BFd (hk:k≠j + 1):det k (swA A j)=det k A:=by
 rcases Nat.lt_or_ge (j + 1) k with h | h
 ·have e1:det k (swA A j)= -det k (λr s=>A (tau j r) s):=BB7 (F:=λr s=>A (tau j r) s) h
  have e2:det k (λr s=>A (tau j r) s)= -det k A:=by
   rw [<- Ayu (λr s=>A (tau j r) s),<- Ayu A]
   exact BB7 (F:=trF A) h
  omega
 ·refine Ajd λr s hr hs=>?_;unfold swA tau;grind
theorem BCa:det (j + 1) (swA A j)=Mn j A (j + 1) (j + 1):=by
 unfold Mn;refine Ajd λr s hr hs=>?_
 have e:∀ r,r < j + 1->tau j r=bro j (j + 1) r:=λr hr=>by
  unfold tau bro
  grind
 unfold swA;grind
theorem BP5 {n:Nat} (hj:j + 1 < n) (h:Atz n A):Atz n (swA A j):=λr s hr hs=>by
 have e:∀ r,r < n->tau j r < n:=λr hr=>by unfold tau;grind
 exact h _ _ (e r hr)<|e s hs
theorem sq_nonneg (x:Int):0<=x * x:=by
 rcases Int.le_total 0 x with h | h
 ·exact Int.mul_nonneg h h
 ·exact Int.mul_nonneg_of_nonpos_of_nonpos h h
theorem BCb (hy:0<=y) (h:x * x<=y * y): -y<=x/\x<=y:=by
 constructor
 ·rcases Int.lt_or_le x (-y) with h1 | h1
  ·have h2:0 < (-x - y) * (-x + y):=Int.mul_pos AOq AOq;grind
  ·exact h1
 ·rcases Int.lt_or_le y x with h1 | h1
  ·have h2:0 < (x - y) * (x + y):=Int.mul_pos AOq AOq;grind
  ·exact h1
theorem A2j (h1: -y<=x) (h2:x<=y):x * x<=y * y:=by
 have h3:0<=(y - x) * (y + x):=Int.mul_nonneg AOq AOq;grind
def SzF (A:Ahe) (i j:Nat):Prop:= -(det (j + 1) A)<=2 * Mn j A i j/\2 * Mn j A i j<=det (j + 1) A
def LvF (A:Ahe) (j:Nat):Prop:=3 * (det (j + 1) A * det (j + 1) A)<=4 * (det j A * det (j + 2) A + Mn j A (j + 1) j * Mn j A (j + 1) j)
def BDx (A:Ahe) (i:Nat) (K:Int):Prop:= ∀ l,l < i-> -(K * det (l + 1) A)<=Mn l A i l/\Mn l A i l<=K * det (l + 1) A
theorem A89 {n:Nat} {q:Int} (hs:Atz n A) (hp:Avj n A) (hi:i < n) (hD:∀ k,k<=n->det k A<=Dm) (p0:0<=p) (q0:0<=q) (hl:∀ l,l < i->q * (Mn l A i l * Mn l A i l)<=p * (det (l + 1) A * det (l + 1) A)):∀ d l:Nat,l + d=i->q * Mn l A i i<=(q + d * p) * (Dm * det l A):=by
 have hD0:1<=Dm:=by
  have:=hD 0 AOq;simpa [det] using this
 have hDl:∀ l k,l<=n->k<=n->det k A<=Dm * det l A:=λl k h1 h2=>by
  have:=hp l h1;have h3:=hD k h2;have h4:Dm * 1<=Dm * det l A:=Int.mul_le_mul_of_nonneg_left AOq AOq;omega
 intro d;induction d with
 | zero=>
   intro l h;obtain rfl:l=i:=by omega
   rw [Asb];have h1:=Int.mul_le_mul_of_nonneg_left (hDl l (l + 1) AOq AOq) q0;simpa using h1
 | succ d ih=>
   intro l h;have h1:=ih (l + 1) AOq;have h2:=BAd hs hp (show l < n by omega) hi;have h3:=hl l AOq;have h4:=hp l AOq;have h5:=hp (l + 1) AOq;have h6:=Int.mul_le_mul_of_nonneg_left h1<|Int.le_of_lt h4
   have h7:det (l + 1) A * (q * Mn l A i i)=q * (Mn l A i l * Mn l A i l) + det l A * (q * Mn (l + 1) A i i):=by
    grind
   have h8:=Int.mul_le_mul_of_nonneg_left (hDl l (l + 1) AOq AOq) p0;have h9:=Int.mul_le_mul_of_nonneg_left h8<|Int.le_of_lt h5;have e2:det (l + 1) A * (p * det (l + 1) A)=p * (det (l + 1) A * det (l + 1) A):=by grind
   have h10:det (l + 1) A * (q * Mn l A i i)<=det (l + 1) A * ((q + ((d + 1:Nat):Int) * p) * (Dm * det l A)):=by
    grind
   exact Int.le_of_mul_le_mul_left h10 h5
theorem BCc {n:Nat} (hn:n<=8) (hs:Atz n A) (hp:Avj n A) (hi:i < n) (hD:∀ k,k<=n->det k A<=Dm) (hz:∀ l,l < i->SzF A i l):A i i<=3 * Dm:=by
 have h:=A89 hs hp hi hD (p:=1) (q:=4) AOq AOq (λl hl=>by
  have:=A2j (hz l hl).1 (hz l hl).2
  grind) i 0 AOq
 rw [Awo] at h
 have Aa:1<=Dm:=by
  have:=hD 0 AOq;simpa [det] using this
 have h2:(4 + (i:Int) * 1) * (Dm * det 0 A)<=12 * Dm:=by
  have:(4 + (i:Int) * 1) * Dm<=12 * Dm:=Int.mul_le_mul_of_nonneg_right AOq AOq
  simpa [det] using this
 omega
theorem BG9 {n:Nat} (hs:Atz n A) (hp:Avj n A) (hi:i < n) (hD:∀ k,k<=n->det k A<=Dm) (hA:A i i<=3 * Dm):BDx A i (2 * Dm):=by
 intro l hl
 have Ad:1<=Dm:=by
  have:=hD 0 AOq;simpa [det] using this
 have h1:=A5c hs hp (show l<=n by omega) hi (show l < n by omega);rw [Asb] at h1;have h2:=BKk hs hp hi l AOq;have h3:=hp l AOq;have h4:=hp (l + 1) AOq
 have h5:det l A * A i i<=Dm * (3 * Dm):=by
  have a1:=Int.mul_le_mul_of_nonneg_left hA<|Int.le_of_lt h3
  have a2:=Int.mul_le_mul_of_nonneg_right (hD l AOq) (show (0:Int)<=3 * Dm by omega)
  omega
 have h6:Mn l A i i * det (l + 1) A<=Dm * (3 * Dm) * det (l + 1) A:=Int.mul_le_mul_of_nonneg_right AOq AOq;have h7:Dm * (3 * Dm) * (det (l + 1) A * 1)<=Dm * (3 * Dm) * (det (l + 1) A * det (l + 1) A):=Int.mul_le_mul_of_nonneg_left (Int.mul_le_mul_of_nonneg_left AOq AOq)<|Int.mul_nonneg AOq AOq;have h8:0<=Dm * Dm * (det (l + 1) A * det (l + 1) A):=Int.mul_nonneg (sq_nonneg _)<|sq_nonneg _;have h9:2 * Dm * det (l + 1) A * (2 * Dm * det (l + 1) A)=Dm * (3 * Dm) * (det (l + 1) A * det (l + 1) A) + Dm * Dm * (det (l + 1) A * det (l + 1) A):=by grind
 rw [Int.mul_one] at h7;exact BCb (Int.mul_nonneg AOq AOq) AOq
theorem BCd {K':Int} (hp:∀ l,l<=i->0 < det l A) (hK:K<=K') (h:BDx A i K):BDx A i K':=λl hl=>by
 have h1:=h l hl
 have h2:=hp (l + 1) AOq
 have h3:=Int.mul_le_mul_of_nonneg_right hK<|Int.le_of_lt h2
 omega
theorem BCe (hd:0 < d): -d<=2 * (a + -((2 * a + d) / (2 * d)) * d)/\2 * (a + -((2 * a + d) / (2 * d)) * d)<=d:=by
 have h1:=Int.mul_ediv_add_emod (2 * a + d)<|2 * d;have h2:=Int.emod_nonneg (2 * a + d) (show 2 * d≠0 by omega);have h3:=Int.emod_lt_of_pos (2 * a + d) (show 0 < 2 * d by omega);grind
theorem BNe (hd:0 < d) (h1: -(K * d)<=a) (h2:a<=K * d): -K<= -((2 * a + d) / (2 * d))/\ -((2 * a + d) / (2 * d))<=K:=by
 have h:=BCe (a:=a) hd;generalize -((2 * a + d) / (2 * d))=c at *;constructor
 ·rcases Int.lt_or_le c (-K) with h3 | h3
  ·have h4:(c + K + 1) * d<=0:=by
    have:=Int.mul_nonneg (show 0<= -(c + K + 1) by omega)<|Int.le_of_lt hd
    grind
   grind
  ·exact h3
 ·rcases Int.lt_or_le K c with h3 | h3
  ·have h4:=Int.mul_nonneg (show 0<=c - K - 1 by omega)<|Int.le_of_lt hd;grind
  ·exact h3
theorem BFe {c:Int} (hij:j < i) (hl:l < i):Mn l (A4r A i j c) i l=Mn l A i l + c * Mn l A j l:=by
 rw [BKq hij AOq<|Nat.le_refl _,if_pos ⟨AOq,rfl⟩,if_neg (λh:l<=i/\l=i=>by omega)];omega
theorem A9a {c:Int} (hij:j < i) (hr:r < i) (hl:l<=r):Mn l (A4r A i j c) r l=Mn l A r l:=by
 rw [BKq hij hl<|Nat.le_refl _,if_neg (λh:l<=i/\r=i=>by omega),if_neg (λh:l<=i/\l=i=>by omega)];omega
theorem BKr {c:Int} (hij:j < i) (hp:∀ l,l<=i->0 < det l A) (hK:0<=K) (h:BDx A i K) (hz:∀ l,l < j->SzF A j l) (Ab: -K<=c) (Ac:c<=K):BDx (A4r A i j c) i (2 * K):=by
 intro l hl;rw [Axa hij,BFe hij hl];have h1:=h l hl;have h2:=hp (l + 1) AOq
 have hm: -(det (l + 1) A)<=Mn l A j l/\Mn l A j l<=det (l + 1) A:=by
  rcases Nat.lt_trichotomy l j with h3 | h3 | h3
  ·have:=hz l h3;unfold SzF at this;omega
  ·subst h3;rw [Asb];omega
  ·rw [BDw A l h3];omega
 have h3: -(K * det (l + 1) A)<=c * Mn l A j l/\c * Mn l A j l<=K * det (l + 1) A:=by
  refine BCb (Int.mul_nonneg hK<|Int.le_of_lt h2) ?_
  have a1:=A2j Ab Ac
  have a2:=A2j hm.1 hm.2
  have a3:c * c * (Mn l A j l * Mn l A j l)<=K * K * (det (l + 1) A * det (l + 1) A):=Int.mul_le_mul a1 a2 (sq_nonneg _)<|sq_nonneg _
  grind
 grind
theorem BKs {c:Int} (hk:k≠i):A4r A i j c k k=A k k:=by
 rw [A6l,if_neg hk,if_neg hk]
structure BAf (n:Nat) (Dm:Int) (A:Ahe) (i t:Nat):Prop where
 sym:Atz n A
 pos:Avj n A
 dm:∀ k,k<=n->det k A<=Dm
 hi:i < n
 ht:t<=i
 rows:∀ k,k < n->k≠i->A k k<=3 * Dm
 row:t=0->A i i<=3 * Dm
 lamb:BDx A i (2 ^ t * (2 * Dm))
 pre:∀ r l,l < r->r < i->SzF A r l
 prei:∀ l,l < i->i<=l + t->SzF A i l
 lov:∀ r,r + 1 < i->LvF A r
theorem A7x {n:Nat} (hn:0 < n) (hs:Atz n A) (hp:Avj n A) (hD:∀ k,k<=n->det k A<=Dm) (hr:∀ k,k < n->A k k<=3 * Dm):BAf n Dm A 0 0:=
 ⟨hs,hp,hD,hn,Nat.le_refl _,λk hk _=>hr k hk,λ_=>hr 0 hn,λl hl=>by omega,λr l h1 h2=>by omega,λl hl=>by omega,λr hr=>by omega⟩
theorem BKt {n:Nat} (h:BAf n Dm A i t):1<=Dm:=by
 have:=h.dm 0 AOq;simpa [det] using this
theorem A2z {n:Nat} (hn:n<=8) (h:BAf n Dm A i t) (hz:∀ l,l < i->SzF A i l):∀ k,k < n->A k k<=3 * Dm:=λk hk=>by
 by_cases e:k=i
 ·subst e;exact BCc hn h.sym h.pos h.hi h.dm hz
 ·exact h.rows k hk e
theorem A2k (t:Nat):(0:Int) < 2 ^ t:=Int.pow_pos AOq
theorem A20 (h:s<=t):(2:Int) ^ s<=2 ^ t:=by
 have:=Nat.pow_le_pow_right (show 0 < 2 by omega) h;grind
theorem BHa {n i':Nat} (hn:n<=8) (h:BAf n Dm A i t) (hi':i' < n) (hj:j < i') (hbad: ¬ SzF A i' j)
 (hz:∀ r l,l < r->r < i'->SzF A r l) (hzi:∀ l,l < i'->j < l->SzF A i' l) (hl:∀ r,r + 1 < i'->LvF A r):
 BAf n Dm (A4r A i' j<|-((2 * Mn j A i' j + det (j + 1) A) / (2 * det (j + 1) A))) i' (i' - j)/\i * 16 + t < i' * 16 + (i' - j):=by
 have hD1:=BKt h
 have hlt:i < i'∨i=i'/\t < i' - j:=by
  rcases Nat.lt_trichotomy i i' with h1 | h1 | h1
  ·exact .inl h1
  ·refine .inr ⟨h1,?_⟩
   rcases Nat.lt_or_ge t (i' - j) with h2 | h2
   ·exact h2
   ·subst h1;exact absurd (h.prei j hj AOq) hbad
  ·exact absurd (h.pre i' j hj h1) hbad
 have hrows:∀ k,k < n->k≠i'->A k k<=3 * Dm:=λk hk hne=>by
  rcases hlt with h1 | h1
  ·exact A2z hn h (λl hl=>hz i l hl h1) k hk
  ·exact h.rows k hk AOq
 have hK0:0<=2 ^ (i' - j - 1) * (2 * Dm):=Int.mul_nonneg (Int.le_of_lt<|A2k _) AOq;have hp':∀ l,l<=i'->0 < det l A:=λl hl=>h.pos l AOq
 have hlam:BDx A i' (2 ^ (i' - j - 1) * (2 * Dm)):=by
  rcases hlt with h1 | h1
  ·refine BCd hp' ?_<|BG9 h.sym h.pos hi' h.dm<|A2z hn h (λl hl=>hz i l hl h1) i' hi';have:=Int.mul_le_mul_of_nonneg_right (A20<|Nat.zero_le<|i' - j - 1) (show (0:Int)<=2 * Dm by omega);simpa using this
  ·obtain ⟨rfl,h1⟩:=h1;exact BCd hp' (Int.mul_le_mul_of_nonneg_right (A20 AOq) AOq) h.lamb
 have hd:=hp' (j + 1) AOq;obtain ⟨c1,c2⟩:=BNe hd (hlam j hj).1 (hlam j hj).2;have hrem:=BCe (a:=Mn j A i' j) hd;generalize hc: -((2 * Mn j A i' j + det (j + 1) A) / (2 * det (j + 1) A))=c at *
 refine ⟨⟨BNd hi' AOq h.sym,λk hk=>by rw [Axa hj];exact h.pos k hk,λk hk=>by rw [Axa hj];exact h.dm k hk,hi',AOq,λk hk hne=>by rw [BKs hne];grind,λh0=>by omega,?_,λr l h1 h2=>?_,λl h1 h2=>?_,λr hr=>?_⟩,by have:=h.ht;omega⟩
 ·have:=BKr hj hp' hK0 hlam (λl hl=>hz j l hl hj) c1 c2
  have e:2 * (2 ^ (i' - j - 1) * (2 * Dm))=2 ^ (i' - j) * (2 * Dm):=by
   rw [show i' - j=i' - j - 1 + 1 by omega,Int.pow_succ];grind
  rwa [e] at this
 ·unfold SzF;rw [Axa hj,A9a hj h2 AOq];exact hz r l h1 h2
 ·unfold SzF;rw [Axa hj,BFe hj h1]
  rcases Nat.lt_or_ge j l with h3 | h3
  ·rw [BDw A l h3,Int.mul_zero,Int.add_zero];exact hzi l h1 h3
  ·obtain rfl:l=j:=by omega
   rw [Asb];exact hrem
 ·unfold LvF;rw [Axa hj,Axa hj,Axa hj,A9a hj AOq AOq];exact hl r hr
def BCf (n:Nat) (A:Ahe):Int:=psum (λk=>det k A)<|n + 1
theorem BNf {n:Nat} (hk:k < n) (hne:∀ l,l≠k->f l=g l) (h:f k < g k):psum f n < psum g n:=by
 induction n with
 | zero=>omega
 | succ n ih=>
   simp only [psum]
   rcases Nat.lt_or_ge k n with h1 | h1
   ·grind
   ·obtain rfl:k=n:=by omega
    rw [Ais (g:=g) λi hi=>hne i AOq];omega
theorem BHb {n:Nat} (hn:n<=8) (h:BAf n Dm A i t) (hj:j + 1 < n) (hbad: ¬ LvF A j)
 (hz:∀ r l,l < r->r<=j + 1->SzF A r l) (hl:∀ r,r < j->LvF A r):
 BAf n Dm (swA A j) 0 0/\BCf n (swA A j) < BCf n A:=by
 have hij:i<=j + 1:=by
  rcases Nat.lt_or_ge (j + 1) i with h1 | h1
  ·exact absurd (h.lov j h1) hbad
  ·exact h1
 have hrest:=A2z hn h λl hl=>hz i l hl hij;have h1:=BAd h.sym h.pos (show j < n by omega) hj;have p0:=h.pos j AOq;have p1:=h.pos (j + 1) AOq;have p2:=h.pos (j + 2) AOq;rw [show Mn (j + 1) A (j + 1) (j + 1)=det (j + 2) A from Asb _ _] at h1
 have hlt:Mn j A (j + 1) (j + 1) < det (j + 1) A:=by
  unfold LvF at hbad
  have h2:det (j + 1) A * (4 * Mn j A (j + 1) (j + 1)) < det (j + 1) A * (3 * det (j + 1) A):=by
   grind
  have:=Int.lt_of_mul_lt_mul_left h2<|Int.le_of_lt p1;omega
 have hpos:0 < Mn j A (j + 1) (j + 1):=by
  have h3:=sq_nonneg<|Mn j A (j + 1) j;have h4:=Int.mul_pos p0 p2;exact Int.pos_of_mul_pos_right (a:=det (j + 1) A) AOq p1
 have hdet:∀ k,det k (swA A j)=if k=j + 1 then Mn j A (j + 1) (j + 1) else det k A:=λk=>by
  by_cases e:k=j + 1
  ·subst e;rw [if_pos rfl,BCa]
  ·rw [if_neg e,BFd e]
 refine ⟨A7x AOq (BP5 hj h.sym) (λk hk=>?_) (λk hk=>?_) λk hk=>?_,?_⟩
 ·rw [hdet];split
  ·exact hpos
  ·exact h.pos k hk
 ·rw [hdet];split
  ·have:=h.dm (j + 1) AOq;omega
  ·exact h.dm k hk
 ·have e:tau j k < n:=by unfold tau;grind
  exact hrest _ e
 ·exact BNf (k:=j + 1) AOq (λl hl=>by grind) (by grind)
end Go.QF
namespace Go.Proofs.YtkakafabeobahaaGreatDoor
open Go Go.QF
theorem BAg (k m:Nat):Aju k (λa=>((a:Nat):Int)) ++ [((m:Nat):Int)]=Aju (k + 1) λa=>((bro k m a:Nat):Int):=by
 rw [<- Av0,Aiy (g:=λa=>((bro k m a:Nat):Int)) λa ha=>by unfold bro;rw [if_pos ha]];unfold bro;grind
theorem BFf {m:Nat} (hk:k<=100) (hf:100 < fuel):Amz fuel (k:Int) (m:Int)=some (Aju (k + 1) λa=>((bro k m a:Nat):Int)):=by
 apply ok_eq;unfold Amz;refine AOy (Ah4 (λi s=>s=(Aju i λa=>((a:Nat):Int),((i:Nat):Int))/\i<=k) k (Q:=(· =Aju k λa=>((a:Nat):Int))) ⟨rfl,Nat.zero_le _⟩ AOq λi s hi hI=>?_) λe he=>?_
 ·obtain ⟨rfl,hik⟩:=hI;unfold Ary;dsimp only;refine Ag9 (λh=>Ah8 (by rw [Ah0];omega)<|AOt ⟨AOq,?_,AOq⟩) λh=>AOt ?_
  ·rw [wk AOq,Av0 i λa=>((a:Nat):Int)];simp
  grind
 ·subst he;refine Ah8 (by rw [Ah0];omega)<|AOt ?_;exact BAg k m
theorem A7y {n:Nat} (hn:n<=8) (hi:i < n) (hj:j < n) (hb:∀ i j,i < n->j < n->(F i j).natAbs<=mN n) (hf:100 < fuel):Alb fuel (tab n n F) (i:Int) (j:Int)=some (Mn j F i j):=by
 apply ok_eq;unfold Alb;refine AOy (Ah4 (λq s=>s=(Aju q λa=>((a:Nat):Int),Aju q λa=>((a:Nat):Int),((q:Nat):Int))/\q<=j) j (Q:=(· =(Aju j λa=>((a:Nat):Int),Aju j λa=>((a:Nat):Int)))) ⟨rfl,Nat.zero_le _⟩ AOq λq s hq hI=>?_) λe he=>?_
 ·obtain ⟨rfl,hqj⟩:=hI;unfold Aq2;dsimp only;refine Ag9 (λh=>Ah8 (by rw [Ah0];omega)<|Ah8 (by rw [Ah0];omega)<|AOt ⟨AOq,?_,AOq⟩) λh=>AOt ?_
  ·rw [wk AOq,Av0 q λa=>((a:Nat):Int)];simp
  grind
 ·subst he;dsimp only;refine Ah8 (by rw [Ah0];omega)<|Ah8 (by rw [Ah0];omega) ?_;rw [BAg,BAg];refine AOy (Aid<|BB8 (n:=n) AOq AOq hf (λa ha=>Awp AOq hi) λa ha=>Awp AOq hj) λx hx=>?_;subst hx;refine AOy (Aid<|A4n hn AOq (λa b ha Aa=>hb _ _ (Awp AOq hi)<|Awp AOq hj) AOq) λy hy=>AOt hy
theorem A21 {n:Nat} (hk:k<=n) (hn:n<=8):Ajk fuel (Aju n λa=>det (a + 1) F) (k:Int)=some (det k F):=by
 apply ok_eq;unfold Ajk;refine Ag9 (λh=>?_) λh=>?_
 ·obtain rfl:k=0:=by omega
  exact ⟨1,rfl,by simp [det]⟩
 ·obtain ⟨q,rfl⟩:∃ q,k=q + 1:=⟨k - 1,AOq⟩;refine Ahj (n:=q) (Ahr AOq) (by rw [wk AOq];omega)<|AOt rfl
theorem A5f {n:Nat} (Aa:1<=n) (hn:n<=8) (hb:∀ i j,i < n->j < n->(F i j).natAbs<=mN n) (hf:100 < fuel):Akf fuel (tab n n F)=some (Aju n λa=>det (a + 1) F,true):=by
 apply ok_eq;unfold Akf;refine AOy (Aid<|A88 Aa AOq hf) λx hx=>?_;subst hx;dsimp only;refine Ag9 (λh=>absurd h AOs) λ_=>AOy (Ah4 (λk s=>s=(Aju k λa=>det (a + 1) F,((k:Nat):Int))/\k<=n) n (Q:=(· =Aju n λa=>det (a + 1) F)) ⟨rfl,Nat.zero_le _⟩ AOq λk s hk hI=>?_) λe he=>AOt (by rw [he]);obtain ⟨rfl,hkn⟩:=hI;unfold Aqg;dsimp only;refine Ag9 (λh=>?_) λh=>AOt ?_
 ·have hk':k < n:=by omega
  refine AOy (Aid<|BFf AOq hf) λr hr=>?_;subst hr;refine AOy (Aid<|BFf AOq hf) λc hc=>?_;subst hc;refine AOy (Aid<|BB8 (n:=n) AOq AOq hf (λa ha=>Awp AOq hk') λa ha=>Awp AOq hk') λx hx=>?_;subst hx;refine AOy (Aid<|A4n hn AOq (λa b ha Ab=>hb _ _ (Awp AOq hk')<|Awp AOq hk') AOq) λy hy=>?_;subst hy;refine Ah8 (by rw [Ah0];omega)<|AOt ⟨AOq,?_,AOq⟩;rw [show (det (k + 1) λa b=>F (bro k k a)<|bro k k b)=det (k + 1) F from Asb k F,wk AOq,Av0 k λa=>det (a + 1) F];simp
 grind
theorem BAh (a b:Int):Az8 a b<=0↔a<=b:=by unfold Az8;omega
theorem A7z {n:Nat} (hn:n<=8) (hi:i < n) (hl:l < n) (hj:j < n) (hb:∀ i j,i < n->j < n->(F i j).natAbs<=mN n):(Mn j F i l).natAbs<=gN n:=by
 have e:Mn j F i l=Mn j (λa b=>if a < n/\b < n then F a b else 0) i l:=by
  unfold Mn
  refine Ajd λa b ha Aa=>?_
  dsimp only
  rw [if_pos ⟨Awp AOq hi,Awp AOq hl⟩]
 rw [e];refine Nat.le_trans (BDq (m:=mN n) (λa b=>?_) i l)<|BJ7 hn AOq;grind
theorem A2l {n:Nat} (hn:n<=8) (hk:k<=n) (hb:∀ i j,i < n->j < n->(F i j).natAbs<=mN n):(det k F).natAbs<=gN n:=by
 rcases Nat.eq_zero_or_pos k with h | h
 ·subst h;have:=BJ6 n;simp only [det];omega
 ·obtain ⟨q,rfl⟩:∃ q,k=q + 1:=⟨k - 1,AOq⟩;rw [<- Asb q F];exact A7z hn AOq AOq AOq hb
theorem BFg {n:Nat} (hn:n<=8) (hi:i < n) (hj:j < n) (hb:∀ i j,i < n->j < n->(F i j).natAbs<=mN n) (hf:100 < fuel):Am0 fuel (tab n n F) (Aju n λa=>det (a + 1) F) (i:Int) (j:Int)=some (decide (2 * ((Mn j F i j).natAbs:Int)<=det (j + 1) F)):=by
 apply ok_eq;unfold Am0;refine AOy (Q:=(· =2)) ⟨2,if_pos AOq,rfl⟩ λtwo h2=>?_;subst h2;refine AOy (Aid<|A7y hn hi hj hb hf) λx hx=>?_;subst hx;refine AOy (Aid (a:=((Mn j F i j).natAbs:Int)) rfl) λy hy=>?_;subst hy;refine AOy (Aid<|A48 (BJ8 n) (show (2:Int).natAbs<=gN n from Nat.le_trans AOs<|BJ6 n) (by rw [Int.natAbs_natCast];exact A7z hn hi hj hj hb)) λw hw=>?_;subst hw;rw [wk AOq];refine AOy (Aid<|A21 (k:=j + 1) AOq hn) λm hm=>?_;subst hm;refine AOy (Aid (a:=Az8 (2 * ((Mn j F i j).natAbs:Int))<|det (j + 1) F) rfl) λc hc=>AOt ?_;subst hc;exact decide_eq_decide.2<|BAh _ _
theorem A6m:2 * ((Mn j F i j).natAbs:Int)<=det (j + 1) F↔SzF F i j:=by
 unfold SzF;omega
theorem psum_abs {f g:Nat->Int} {D:Nat}:∀ (n:Nat),(∀ a,a < n->(f a).natAbs<=D/\(g a).natAbs<=D)->(psum (λa=>f a * g a) n).natAbs<=n * (D * D)
 | 0,_=>by simp [psum]
 | n + 1,h=>by
   have h1:=psum_abs n λa ha=>h a AOq
   have h2:=Nat.mul_le_mul (h n AOq).1 (h n AOq).2
   rw [<- Int.natAbs_mul] at h2
   have e:(n + 1) * (D * D)=n * (D * D) + D * D:=by grind
   simp only [psum]
   omega
theorem BR1 {n:Nat} (hn:n<=16) (hD:16 * (D * D) < Alj) (hb:∀ a,a < n->(f a).natAbs<=D/\(g a).natAbs<=D) (hf:100 < fuel):Apu fuel (Aju n f) (Aju n g)=some (psum (λa=>f a * g a) n):=by
 apply ok_eq;unfold Apu;refine AOy (Ah4 (λk s=>s=(((k:Nat):Int),psum (λa=>f a * g a) k)/\k<=n) n (Q:=(· =psum (λa=>f a * g a) n)) ⟨rfl,Nat.zero_le _⟩ AOq λk s hk hI=>?_) λe he=>AOt he;obtain ⟨rfl,hkn⟩:=hI;unfold Atg;dsimp only;rw [Ah0];refine Ag9 (λh=>?_) λh=>AOt ?_
 ·have hk':k < n:=by omega
  have h1:=psum_abs k λa ha=>hb a AOq;have h2:=Nat.mul_le_mul (hb k hk').1 (hb k hk').2;have h3:k * (D * D)<=16 * (D * D):=Nat.mul_le_mul_right _ AOq;have h4:1 * (D * D)<=16 * (D * D):=Nat.mul_le_mul_right _ AOq;refine Ahj (Ahr hk') rfl (Ahj (Ahr hk') rfl (AOy (Q:=(· =f k * g k)) ⟨_,if_pos AOq,rfl⟩ λx hx=>?_));subst hx;refine AOy (Q:=(· =psum (λa=>f a * g a) k + f k * g k)) ⟨_,if_pos ⟨AOq,by rw [Int.natAbs_mul];omega⟩,rfl⟩ λy hy=>AOt ⟨AOq,?_,AOq⟩;subst hy;rw [wk AOq];simp [psum]
 grind
theorem A70 {n:Nat} (hn:1<=n) (Ad:n<=16) (hf:100 < fuel):Aje fuel (tab n n F)=some ((n:Int),(n:Int),true):=by
 apply ok_eq;unfold Aje;rw [Ahv];refine AOy (Q:=λex=>match ex with | .inl _=>False | .inr _=>True) (Ag9 (λh=>by omega) λh=>Ag9 (λh2=>by omega) λh2=>AOt trivial) λex hex=>?_
 cases ex with
 | inl e=>exact hex.elim
 | inr u=>
   dsimp only
   refine AOy (Ah4 (λi (s:Int)=>s=i) n (Q:=λex=>match ex with | .inl _=>False | .inr _=>True) rfl AOq λi s hi hI=>?_) λex hex=>?_
   ·subst hI
    unfold Am5
    rw [Ahv]
    refine Ag9 (λh=>Ahj (Ahw AOq) rfl ?_) λh=>AOt trivial
    rw [Ah0]
    refine Ag9 (λh2=>by omega) λh2=>Ag9 (λh3=>by omega) λh3=>Ahj (n:=0) (Ahw AOq) rfl (Ag9 (λh4=>?_) λh4=>AOt ⟨AOq,wk AOq⟩)
    rw [Ah0] at h4;omega
   ·cases ex with
    | inl e=>exact hex.elim
    | inr u=>exact Ahj (n:=0) (Ahw AOq) rfl (AOt<|by rw [Ah0])
theorem Awq {c:Nat} (h:∀ i j,i < r->j < c->F i j=G i j):tab r c F=tab r c G:=by
 rw [Awn,Awn];exact Aiy λi hi=>Aiy λj hj=>h i j hi hj
def trS (F:Ahe) (i j r c:Nat):Int:=if c < i∨c=i/\r < j then F c r else 0
theorem BFh {n:Nat} (hn:1<=n) (Aa:n<=16) (hf:100 < fuel):Ak3 fuel (tab n n F)=some (tab n n<|trF F,true):=by
 apply ok_eq;unfold Ak3;refine AOy (Aid<|A70 hn Aa hf) λx hx=>?_;subst hx;dsimp only;refine Ag9 (λh=>absurd h AOs) λ_=>AOy (Aid<|A6f AOq AOq AOq) λO hO=>?_;subst hO;refine AOy (Ah4 (λi s=>s=(((i:Nat):Int),tab n n<|trS F i 0)/\i<=n) n (Q:=(· =tab n n (trF F))) ⟨?_,Nat.zero_le _⟩ AOq λi s hi hI=>?_) λe he=>AOt (by rw [he])
 ·rw [Ama n (0:Int),Ama];refine congrArg (Prod.mk (0:Int)) ?_;rw [Awn];exact Aiy λr _=>Aiy λc _=>by unfold trS;omega
 ·obtain ⟨rfl,hin⟩:=hI;unfold Apl;dsimp only;rw [Ahv];refine Ag9 (λh=>?_) λh=>AOt ?_
  ·have hi':i < n:=by omega
   refine Ahj (Ahw hi') rfl (AOy (Ah4 (λj s=>s=(((j:Nat):Int),tab n n<|trS F i j)/\j<=n) n (Q:=(· =tab n n (trS F (i + 1) 0))) ⟨rfl,Nat.zero_le _⟩ AOq λj s hj hJ=>?_) λe he=>AOt ⟨AOq,by rw [wk AOq,he];simp,AOq⟩);obtain ⟨rfl,hjn⟩:=hJ;unfold Apk;dsimp only;rw [Ah0];refine Ag9 (λh2=>?_) λh2=>AOt ?_
   ·have hj':j < n:=by omega
    refine Ahj (Ahw hj') rfl (Ahj (Ahw hi') rfl (Ahj (Ahr hj') rfl (AOy (Aid (a:=F i j) rfl) λy hy=>Ahj (Ahr hi') rfl (AOt ⟨AOq,?_,AOq⟩))));subst hy;rw [wk AOq,A3v];refine Prod.ext AOq<|Awq λr c hr hc=>?_;rw [Aiu];unfold trS;grind
   ·refine Awq λr c hr hc=>?_;unfold trS;omega
  ·refine Awq λr c hr hc=>?_;unfold trS trF;omega
def muS (H:Ahe) (i j r c:Nat):Int:=if r < i∨r=i/\c < j then H r c else 0
theorem BKu {n:Nat} (hn:1<=n) (Aa:n<=16) (hD:16 * (D * D) < Alj) (hF:∀ i j,i < n->j < n->(F i j).natAbs<=D) (hG:∀ i j,i < n->j < n->(G i j).natAbs<=D) (hf:100 < fuel):Apv fuel (tab n n F) (tab n n G)=some (tab n n<|Amb n F G,true):=by
 apply ok_eq;unfold Apv;refine AOy (Aid<|A70 hn Aa hf) λx hx=>?_;subst hx;dsimp only;refine AOy (Aid<|BFh hn Aa hf) λx hx=>?_;subst hx;dsimp only;rw [Ahv,Ahv];refine AOy (Q:=λex=>match ex with | .inl _=>False | .inr _=>True) (Ag9 (λh=>absurd h AOs) λ_=>Ag9 (λh=>absurd h AOs) λ_=>Ag9 (λh=>absurd rfl h) λ_=>AOt trivial) λex hex=>?_
 cases ex with
 | inl e=>exact hex.elim
 | inr u=>
   dsimp only
   rw [Ahv]
   refine AOy (Aid<|A6f AOq AOq AOq) λO hO=>?_
   subst hO
   refine AOy (Ah4 (λi s=>s=(((i:Nat):Int),tab n n<|muS (Amb n F G) i 0)/\i<=n) n (Q:=(· =tab n n (Amb n F G))) ⟨?_,Nat.zero_le _⟩ AOq λi s hi hI=>?_) λe he=>AOt (by rw [he])
   ·rw [Ama n (0:Int),Ama]
    refine congrArg (Prod.mk (0:Int)) ?_
    rw [Awn]
    exact Aiy λr _=>Aiy λc _=>by unfold muS;omega
   ·obtain ⟨rfl,hin⟩:=hI
    unfold Ati
    dsimp only
    rw [Ahv]
    refine Ag9 (λh=>?_) λh=>AOt ?_
    ·have hi':i < n:=by omega
     refine AOy (Ah4 (λj s=>s=(((j:Nat):Int),tab n n<|muS (Amb n F G) i j)/\j<=n) n (Q:=(· =tab n n (muS (Amb n F G) (i + 1) 0))) ⟨rfl,Nat.zero_le _⟩ AOq λj s hj hJ=>?_) λe he=>AOt ⟨AOq,by rw [wk AOq,he];simp,AOq⟩
     obtain ⟨rfl,hjn⟩:=hJ
     unfold Ath
     dsimp only
     rw [Ahv]
     refine Ag9 (λh2=>?_) λh2=>AOt ?_
     ·have hj':j < n:=by omega
      refine Ahj (Ahw hi') rfl (Ahj (Ahw hi') rfl (Ahj (Ahw hj') rfl (AOy (Aid<|BR1 (D:=D) Aa hD (λa ha=>⟨hF i a hi' ha,hG a j ha hj'⟩) hf) λy hy=>Ahj (Ahr hj') rfl (AOt ⟨AOq,?_,AOq⟩))))
      subst hy
      rw [wk AOq,A3v]
      refine Prod.ext AOq<|Awq λr c hr hc=>?_
      rw [Aiu]
      unfold muS
      by_cases h3:r=i
      ·rw [if_pos h3]
       by_cases h4:c=j
       ·rw [if_pos h4,if_pos AOq,h3,h4];rfl
       ·rw [if_neg h4]
        by_cases h5:c < j
        ·grind
        omega
      omega
     ·refine Awq λr c hr hc=>?_
      unfold muS
      omega
    ·refine Awq λr c hr hc=>?_
     unfold muS
     omega
theorem BFi (a b:Int):Az8 a b=0↔a=b:=by unfold Az8;omega
theorem BOy {n:Nat} (Ae:n<=16) (hf:100 < fuel):Ok (Ak4 fuel<|tab n n F) λr=>r=true↔Atz n F:=by
 unfold Ak4;refine AOy (Ah4 (λi s=>s=((i:Nat):Int)/\i<=n/\ ∀ a b,b < a->a < i->F a b=F b a) n (Q:=λex=>match ex with | .inl e=>e=false/\¬ Atz n F | .inr _=>Atz n F) ⟨rfl,Nat.zero_le _,λa b h1 h2=>by omega⟩ AOq λi s hi hI=>?_) λex hex=>?_
 ·obtain ⟨rfl,hin,hs⟩:=hI;unfold Apn;rw [Ahv];refine Ag9 (λh=>?_) λh=>AOt ?_
  ·have hi':i < n:=by omega
   refine AOy (Ah4 (λj s=>s=((j:Nat):Int)/\j<=i/\ ∀ b,b < j->F i b=F b i) i (Q:=λex=>match ex with | .inl e=>e=false/\¬ Atz n F | .inr _=> ∀ b,b < i->F i b=F b i) ⟨rfl,Nat.zero_le _,λb h1=>by omega⟩ AOq λj s hj hJ=>?_) λex hex=>?_
   ·obtain ⟨rfl,hji,hb⟩:=hJ;unfold Apm;refine Ag9 (λh2=>?_) λh2=>AOt ?_
    ·have hj':j < i:=by omega
     refine Ahj (Ahw hi') rfl (Ahj (Ahr AOq) rfl (Ahj (Ahw AOq) rfl (Ahj (Ahr hi') rfl (AOy (Aid (a:=Az8 (F i j)<|F j i) rfl) λc hc=>?_))));subst hc;refine Ag9 (λh3=>AOt ⟨rfl,λh4=>h3<|(BFi _ _).2 (h4 i j hi' AOq)⟩) λh3=>AOt ⟨AOq,by rw [wk AOq];simp,AOq,λb Af=>?_⟩;rcases Nat.lt_or_ge b j with h4 | h4
     ·exact hb b h4
     ·obtain rfl:b=j:=by omega
      exact (BFi _ _).1 (Classical.not_not.1 h3)
    grind
   ·cases ex with
    | inl e=>exact AOt hex
    | inr u=>exact AOt ⟨AOq,by rw [wk AOq];simp,AOq,λa b h1 h2=>by
       grind⟩
  ·obtain rfl:i=n:=by omega
   intro a b ha hb;grind
 ·cases ex with
  | inl e=>obtain ⟨rfl,h⟩:=hex;exact AOt ⟨λh1=>Bool.noConfusion h1,λh1=>absurd h1 h⟩
  | inr u=>exact AOt ⟨λ_=>hex,λ_=>rfl⟩
theorem BNg {n:Nat} (hn:1<=n) (Aa:n<=16) (hD:16 * (D * D) < Alj) (hF:∀ i j,i < n->j < n->(F i j).natAbs<=D) (hG:∀ i j,i < n->j < n->(G i j).natAbs<=D) (hH:∀ i j,i < n->j < n->(Amb n (trF G) F i j).natAbs<=D) (hf:100 < fuel):Ak5 fuel (tab n n F) (tab n n G)=some (tab n n<|Amb n (Amb n (trF G) F) G):=by
 apply ok_eq;unfold Ak5;refine AOy (Aid<|BFh hn Aa hf) λx hx=>?_;subst hx;dsimp only
 have pr:∀ {F G:Ahe},(∀ i j,i < n->j < n->(F i j).natAbs<=D)->(∀ i j,i < n->j < n->(G i j).natAbs<=D)->Ok (Ajj fuel (tab n n F)<|tab n n G) (· =tab n n (Amb n F G)):=λ{F G} hF hG=>by
  unfold Ajj
  refine AOy (Aid<|BKu hn Aa hD hF hG hf) λx hx=>?_
  subst hx
  exact AOt rfl
 refine AOy (pr (λi j hi hj=>hG j i hj hi) hF) λx hx=>?_;grind
theorem BFj (a:Int):Anx a<=0↔a<=0:=by unfold Anx;omega
theorem BR2 {n:Nat} (Ae:1<=n) (hn:n<=8) (hb:∀ i j,i < n->j < n->(F i j).natAbs<=mN n) (hf:100 < fuel):Ok (Am6 fuel<|tab n n F) λr=>r=true↔Atz n F/\Avj n F:=by
 unfold Am6;refine AOy (Aid<|A5f Ae hn hb hf) λx hx=>?_;subst hx;dsimp only;refine AOy (Q:=λex=>match ex with | .inl e=>e=false/\¬ Atz n F | .inr _=>Atz n F) (Ag9 (λh=>absurd h AOs) λ_=>AOy (BOy AOq hf) λr hr=>?_) λex hex=>?_
 ·refine Ag9 (λh=>AOt ⟨rfl,λh1=>?_⟩) λh=>AOt<|hr.1 ?_
  ·grind
  grind
 ·cases ex with
  | inl e=>obtain ⟨rfl,h⟩:=hex;exact AOt ⟨λh1=>Bool.noConfusion h1,λh1=>absurd h1.1 h⟩
  | inr u=>
    dsimp only at hex ⊢
    have h0:∀ k,k<=0->0 < det k F:=λk hk=>by
     obtain rfl:k=0:=by omega
     simp [det]
    refine AOy (Ah4 (λi s=>s=((i:Nat):Int)/\i<=n/\ ∀ k,k<=i->0 < det k F) n (Q:=λex=>match ex with | .inl e=>e=false/\¬ Avj n F | .inr _=>Avj n F) ⟨rfl,Nat.zero_le _,h0⟩ AOq λi s hi hI=>?_) λex Ad=>?_
    ·obtain ⟨rfl,hin,hp⟩:=hI
     unfold Ap6
     rw [Ah0]
     refine Ag9 (λh=>?_) λh=>AOt ?_
     ·have hi':i < n:=by omega
      refine Ahj (Ahr hi') rfl (AOy (Aid (a:=Anx<|det (i + 1) F) rfl) λc hc=>?_)
      subst hc
      refine Ag9 (λh3=>AOt ⟨rfl,λh4=>?_⟩) λh3=>AOt ⟨AOq,by rw [wk AOq];simp,AOq,λk hk=>?_⟩
      ·have:=h4 (i + 1) AOq;have:=(BFj _).1 h3;omega
      ·rcases Nat.lt_or_ge k (i + 1) with h4 | h4
       ·grind
       ·obtain rfl:k=i + 1:=by omega
        rw [BFj] at h3;omega
     ·obtain rfl:i=n:=by omega
      exact hp
    ·cases ex with
     | inl e=>obtain ⟨rfl,h⟩:=Ad;exact AOt ⟨λh1=>Bool.noConfusion h1,λh1=>absurd h1.2 h⟩
     | inr u=>exact AOt ⟨λ_=>⟨hex,Ad⟩,λ_=>rfl⟩
theorem A3x {n:Nat} (Ab:1<=n) (hn:n<=8) (hb:∀ i j,i < n->j < n->(F i j).natAbs<=mN n) (hf:100 < fuel):Ok (Ajr fuel<|tab n n F) λr=>r=0↔Atz n F/\Avj n F:=by
 unfold Ajr;refine AOy (Aid<|A88 Ab AOq hf) λx hx=>?_;subst hx;dsimp only;refine Ag9 (λh=>absurd h AOs) λ_=>Ag9 (λh=>by omega) λ_=>AOy (BOy AOq hf) λr hr=>Ag9 (λh=>AOt ⟨λh1=>by omega,λh1=>?_⟩) λh=>AOy (BR2 Ab hn hb hf) λq hq=>Ag9 (λh2=>AOt ⟨λh1=>by omega,λh1=>?_⟩) λh2=>AOt ⟨λ_=>hq.1 ?_,λ_=>rfl⟩
 ·grind
 ·grind
 grind
theorem BFk {n:Nat} (hn:n<=8) (hb:∀ i j,i < n->j < n->(F i j).natAbs<=mN n) (hf:100 < fuel):Am1 fuel (tab n n F)=some (decide (det n F<=10000)):=by
 apply ok_eq;unfold Am1;refine AOy (Aid<|A4n hn (Nat.le_refl _) hb AOq) λx hx=>?_;subst hx;refine AOy (Q:=(· =10000)) ⟨10000,if_pos AOq,rfl⟩ λy hy=>?_;subst hy;refine AOy (Aid (a:=Az8 (det n F) 10000) rfl) λc hc=>AOt ?_;subst hc;exact decide_eq_decide.2<|BAh _ _
def idS (i r c:Nat):Int:=if r=c/\r < i then 1 else 0
theorem BFl {n:Nat} (hn:1<=n) (Ab:n<=16) (hf:100 < fuel):Alk fuel (n:Int)=some (tab n n dl,true):=by
 apply ok_eq;unfold Alk;refine AOy (Q:=λex=>match ex with | .inl _=>False | .inr _=>True) (Ag9 (λh=>by omega) λ_=>Ag9 (λh=>by omega) λ_=>AOt trivial) λex hex=>?_
 cases ex with
 | inl e=>exact hex.elim
 | inr u=>
   dsimp only
   refine AOy (Aid<|A6f AOq AOq AOq) λO hO=>?_
   have Aa:O=tab n n (idS 0):=by
    rw [hO,Ama n (0:Int),Ama,Awn]
    exact Aiy λr _=>Aiy λc _=>by unfold idS;omega
   have hlen:O.length=n:=by grind
   refine AOy (Ah4 (λi s=>s=(((i:Nat):Int),tab n n<|idS i)/\i<=n) n (Q:=(· =tab n n dl)) ⟨by rw [Aa];rfl,Nat.zero_le _⟩ AOq λi s hi hI=>?_) λe he=>AOt (by rw [he])
   obtain ⟨rfl,hin⟩:=hI
   unfold Ap5
   dsimp only
   rw [hlen]
   refine Ag9 (λh=>?_) λh=>AOt ?_
   ·have hi':i < n:=by omega
    refine Ahj (Ahw hi') rfl (AOy (Q:=(· =1)) ⟨1,if_pos AOq,rfl⟩ λy hy=>Ahj (Ahr hi') rfl (AOt ⟨AOq,?_,AOq⟩))
    subst hy
    rw [wk AOq,A3v]
    refine Prod.ext AOq<|Awq λr c hr hc=>?_
    rw [Aiu]
    unfold idS
    omega
   ·refine Awq λr c hr hc=>?_
    unfold idS dl
    omega
def toS (n:Nat) (F:Ahe) (i:Nat):List (List Int):=Aju n λr=>if r < i then Aju n (F r) else []
def toR (n:Nat) (F:Ahe) (i j:Nat):List (List Int):=Aju n λr=>if r < i then Aju n (F r) else if r=i then Aju n (λc=>if c < j then F i c else 0) else []
theorem BR4 {n:Nat} (hn:1<=n) (Ac:n<=16) (hb:∀ i j,i < n->j < n->(F i j).natAbs < 9223372036854775808) (hf:100 < fuel):An4 fuel (tab n n F)=some (tab n n F,true):=by
 apply ok_eq;unfold An4;refine AOy (Aid<|A70 hn Ac hf) λx hx=>?_;subst hx;dsimp only;refine Ag9 (λh=>absurd h AOs) λ_=>Ah8 AOq<|AOy (Ah4 (λi s=>s=(((i:Nat):Int),toS n F i)/\i<=n) n (Q:=λex=>match ex with | .inl _=>False | .inr e=>e=tab n n F) ⟨?_,Nat.zero_le _⟩ AOq λi s hi hI=>?_) λex hex=>?_
 ·rw [Int.toNat_natCast,Ama];exact congrArg (Prod.mk (0:Int)) (Aiy λr _=>by grind)
 ·obtain ⟨rfl,hin⟩:=hI;unfold Aq1;dsimp only;rw [List.length_replicate,Int.toNat_natCast];refine Ag9 (λh=>Ah8 AOq ?_) λh=>AOt ?_
  ·have hi':i < n:=by omega
   have e0:sI (toS n F i) (i:Int) (List.replicate n (0:Int))=toR n F i 0:=by
    rw [Aja];unfold toS;rw [Alw]
    refine Aiy λr _=>?_
    by_cases h1:r=i
    ·rw [if_pos h1,if_neg AOq,if_pos h1,Ama];grind
    grind
   refine Ahj (n:=i) (Ahr hi') rfl ?_;rw [e0];refine Ahj (n:=i) (Ahr hi') rfl ?_;rw [if_neg AOq,if_pos rfl];refine AOy (Ah4 (λj s=>s=(((j:Nat):Int),toR n F i j)/\j<=n) n (Q:=λex=>match ex with | .inl _=>False | .inr e=>e=toS n F (i + 1)) ⟨rfl,Nat.zero_le _⟩ AOq λj s hj hJ=>?_) λex hex=>?_
   ·obtain ⟨rfl,hjn⟩:=hJ;unfold Aq0;dsimp only;rw [Ah0];refine Ag9 (λh2=>?_) λh2=>AOt ?_
    ·have hj':j < n:=by omega
     refine Ahj (Ahw hi') rfl (Ahj (Ahr hj') rfl (AOy (Q:=(· =(F i j,true))) ⟨_,if_pos<|hb i j hi' hj',rfl⟩ λy hy=>?_));subst hy;dsimp only;refine Ag9 (λh=>absurd h AOs) λ_=>Ahj (n:=i) (Ahr hi') rfl ?_;rw [if_neg AOq,if_pos rfl];refine Ahj (Ahr hj') rfl (AOt ⟨AOq,?_,AOq⟩);rw [wk AOq,Aja,Aja];refine Prod.ext AOq ?_;dsimp only;unfold toR;rw [Alw,Alw];refine Aiy λr _=>?_;by_cases h1:r=i
     ·grind
     grind
    ·refine Aiy λr _=>?_;by_cases h1:r < i
     ·grind
     ·rw [if_neg h1];by_cases h3:r=i
      ·rw [if_pos h3,if_pos AOq,h3];exact Aiy λc hc=>by omega
      grind
   ·cases ex with
    | inl e=>exact hex.elim
    | inr e=>exact AOt ⟨AOq,by rw [wk AOq,hex];simp,AOq⟩
  ·refine Aiy λr hr=>?_;rw [if_pos AOq];rfl
 ·cases ex with
  | inl e=>exact hex.elim
  | inr e=>exact AOt (by rw [hex])
theorem A4s {S E:Type} {body:S->Option (S ⊕ E)} {Q:E->Prop} (I:S->Prop) (μ:S->Nat) (hs:∀ s,I s->Ok (body s) λr=>match r with | .inl s'=>I s'/\μ s' < μ s | .inr e=>Q e):∀ {fuel:Nat} {s0:S},I s0->μ s0 < fuel->Ok (iter body fuel s0) Q:=by
 intro fuel;induction fuel with
 | zero=>omega
 | succ f ih=>
   intro s0 h0 hf;obtain ⟨r,hr,hq⟩:=hs s0 h0;cases r with
   | inl s'=>
     obtain ⟨e,he,hQ⟩:=ih hq.1 AOq;exact ⟨e,by simp [iter,hr,he],hQ⟩
   | inr e=>exact ⟨e,by simp [iter,hr],hq⟩
theorem Ax6 (a:Int):Anx a=0↔a=0:=by unfold Anx;omega
theorem BFm (a:Int):Anx a < 0↔a < 0:=by unfold Anx;omega
theorem BKv {b:Int} (ha:a.natAbs < Alj) (hb:b.natAbs < Alj) (h0:b≠0):Ajy fuel a b=some (a / b):=by
 apply ok_eq;unfold Ajy;refine AOy (Aid (a:=(a / b,a % b,true))<|if_pos ⟨ha,hb,h0⟩) λx hx=>?_;subst hx;exact AOt rfl
theorem BR5 {b:Int} (ha:a.natAbs < Alj) (hb:b.natAbs < Alj) (h0:b≠0):Alq fuel a b=some (a % b):=by
 apply ok_eq;unfold Alq;refine AOy (Aid (a:=(a / b,a % b,true))<|if_pos ⟨ha,hb,h0⟩) λx hx=>?_;subst hx;exact AOt rfl
theorem BR6 {b:Int} (ha:a.natAbs < Alj) (hb:b.natAbs < Alj) (h0:b≠0) (hf:Alj < fuel):Ok (Apx fuel a b) λg=>0 < g/\g ∣ a/\g ∣ b:=by
 unfold Apx;refine AOy (Aid (a:=(a.natAbs:Int)) rfl) λx hx=>AOy (Aid (a:=(b.natAbs:Int)) rfl) λy hy=>?_;subst hx;subst hy;refine AOy (A4s (λs:Int × Int=>0<=s.1/\0<=s.2/\s.1.natAbs < Alj/\s.2.natAbs < Alj/\(0 < s.1∨0 < s.2)/\ ∀ d:Int,d ∣ s.1->d ∣ s.2->d ∣ a/\d ∣ b) (λs=>s.2.natAbs) (Q:=λg=>0 < g/\g ∣ a/\g ∣ b) (λs hs=>?_) ⟨AOq,AOq,AOq,AOq,.inr AOq,λd h1 h2=>⟨Int.dvd_natAbs.1 h1,Int.dvd_natAbs.1 h2⟩⟩ AOq) λg hg=>AOt hg;obtain ⟨u,v⟩:=s;obtain ⟨h1,h2,h3,h4,h5,h6⟩:=hs;unfold Atj;dsimp only at h1 h2 h3 h4 h5 h6 ⊢;refine AOy (Aid (a:=Anx v) rfl) λs hs=>?_;subst hs;refine Ag9 (λhv=>?_) λhv=>AOt ?_
 ·have Ad:v≠0:=λh=>hv<|(Ax6 v).2 h;refine AOy (Aid<|BR5 h3 h4 Ad) λr hr=>AOt ?_;subst hr;have e1:=Int.emod_nonneg u Ad;have e2:=Int.emod_lt_of_pos u (show 0 < v by omega);refine ⟨⟨h2,e1,h4,AOq,.inl AOq,λd d1 d2=>h6 d ?_ d1⟩,AOq⟩;have:=Int.dvd_add d2<|Int.dvd_trans d1 ⟨u / v,rfl⟩;rwa [Int.emod_add_mul_ediv] at this
 ·have Ad:v=0:=by
   rcases Decidable.em (Anx v=0) with h | h
   ·exact (Ax6 v).1 h
   omega
  simp_all
def FrE (n d n' d':Int):Prop:=0 < d'/\n' * d=n * d'/\n'.natAbs<=n.natAbs/\d'.natAbs<=d.natAbs
theorem BOz {b:Int} (ha:a.natAbs < Alj) (hb:b.natAbs < Alj) (h0:b≠0) (hf:Alj < fuel):Ok (Aog fuel a b) λr=>r.2=true/\FrE a b r.1.1 r.1.2:=by
 unfold Aog;refine AOy (Aid (a:=Anx b) rfl) λs hs=>?_;subst hs;refine Ag9 (λh=>absurd ((Ax6 b).1 h) h0) λ_=>AOy (Q:=λe:Int × Int=>0 < e.2/\e.1 * b=a * e.2/\e.1.natAbs=a.natAbs/\e.2.natAbs=b.natAbs) (AOy (Aid (a:=Anx b) rfl) λs hs=>?_) λe he=>?_
 ·subst hs;refine Ag9 (λh=>?_) λh=>AOt ⟨?_,rfl,rfl,rfl⟩
  ·have:=(BFm b).1 h;refine AOy (Aid (a:= -a) rfl) λx hx=>AOy (Aid (a:= -b) rfl) λy hy=>AOt ?_;grind
  ·have: ¬ b < 0:=λh2=>h<|(BFm b).2 h2;omega
 ·obtain ⟨u,v⟩:=e;obtain ⟨h1,h2,h3,h4⟩:=he;dsimp only at h1 h2 h3 h4 ⊢;refine AOy (BR6 (a:=u) (b:=v) AOq AOq AOq hf) λg hg=>?_;obtain ⟨g1,⟨u',rfl⟩,⟨v',rfl⟩⟩:=hg;have gn:g≠0:=by omega
  have hv':0 < v':=Int.pos_of_mul_pos_right h1 g1;have e1:(g * u').natAbs=g.natAbs * u'.natAbs:=Int.natAbs_mul _ _;have e2:(g * v').natAbs=g.natAbs * v'.natAbs:=Int.natAbs_mul _ _;have g2:1<=g.natAbs:=by omega
  have m1:=Nat.mul_le_mul_right u'.natAbs g2;have m2:=Nat.mul_le_mul_right v'.natAbs g2;have m3:=Nat.mul_le_mul_left g.natAbs (show 1<=v'.natAbs by omega);refine AOy (Aid<|BKv AOq AOq gn) λx hx=>AOy (Aid<|BKv AOq AOq gn) λy hy=>AOt ⟨rfl,?_⟩;subst hx;subst hy;rw [Int.mul_ediv_cancel_left _ gn,Int.mul_ediv_cancel_left _ gn];refine ⟨hv',?_,by grind,by grind⟩;have:g * (u' * b)=g * (a * v'):=by grind
  exact Int.eq_of_mul_eq_mul_left gn this
theorem BAi {b:Int} (ha:a.natAbs < Alj) (hb:b.natAbs < Alj) (h0:b≠0) (hf:Alj < fuel):Ok (Ajm fuel a b) λr=>FrE a b r.1 r.2:=by
 unfold Ajm;refine AOy (BOz ha hb h0 hf) λr hr=>?_;obtain ⟨⟨x,y⟩,c⟩:=r;obtain ⟨h1,h2⟩:=hr;dsimp only at h1 h2 ⊢;subst h1;exact Ag9 (λh=>absurd h AOs) λ_=>AOt h2
theorem BP8 {b:Int} (ha:a.natAbs < Alj) (hb:b.natAbs < Alj) (h0:b≠0) (hf:Alj < fuel):Ok (Am7 fuel a b) λr=>FrE a b r.1 r.2:=by
 unfold Am7;exact AOy (BAi ha hb h0 hf) λr hr=>AOt hr
theorem BCg {N D N' D':Int} (hD:0 < D) (hD':0 < D') (h:N * D'=N' * D):N / D=N' / D':=by
 rw [<- Int.mul_ediv_mul_of_pos_left N D hD',h,Int.mul_comm D D',Int.mul_ediv_mul_of_pos_left N' D' hD]
theorem BP9 {b:Int} (hab:4 * (a.natAbs + b.natAbs) < Alj) (h0:0 < b) (hf:Alj < fuel):Ok (Anr fuel a b) λr=>r=(2 * a + b) / (2 * b):=by
 have Ag:(1:Int).natAbs < Alj:=by
  omega
 have Ah:(2:Int).natAbs < Alj:=by
  omega
 unfold Anr;refine AOy (Q:=(· =(1,2))) ?_ λhh he=>?_
 ·unfold Arh;exact AOy (Q:=(· =1)) ⟨1,if_pos AOq,rfl⟩ λx hx=>AOy (Q:=(· =2)) ⟨2,if_pos AOq,rfl⟩ λy hy=>AOt (by rw [hx,hy])
 subst he;dsimp only;refine AOy (Q:=λr=>0 < r.2/\r.1 * (2 * b)=(2 * a + b) * r.2/\r.1.natAbs < Alj/\r.2.natAbs < Alj) ?_ λr hr=>?_
 ·unfold Asa;refine AOy (BAi AOq AOq AOq hf) λx hx=>AOy (BAi (a:=1) (b:=2) Ag Ah AOq hf) λy hy=>?_;obtain ⟨x1,x2⟩:=x;obtain ⟨y1,y2⟩:=y;obtain ⟨a1,a2,a3,a4⟩:=hx;obtain ⟨b1,b2,b3,b4⟩:=hy;dsimp only at *;obtain rfl:y2=2:=by omega
  obtain rfl:y1=1:=by omega
  refine AOy (Aid (a:=x1 * 2)<|if_pos<|by grind) λu hu=>AOy (Aid (a:=1 * x2)<|if_pos<|by grind) λv hv=>?_;subst hu;subst hv;refine AOy (Aid (a:=x1 * 2 + 1 * x2)<|if_pos ⟨AOq,AOq⟩) λw hw=>AOy (Aid (a:=x2 * 2)<|if_pos<|by grind) λz hz=>?_;subst hw;subst hz;refine AOy (BOz AOq AOq AOq hf) λr hr=>AOt ?_;obtain ⟨⟨r1,r2⟩,c⟩:=r;obtain ⟨-,c1,c2,c3,c4⟩:=hr;dsimp only at *;refine ⟨c1,?_,AOq,AOq⟩;have h1:x2 * (r1 * (2 * b))=x2 * ((2 * a + b) * r2):=by grind
  exact Int.eq_of_mul_eq_mul_left (show x2≠0 by omega) h1
 ·obtain ⟨r1,r2⟩:=r;obtain ⟨h1,h2,h3,h4⟩:=hr;dsimp only at *;unfold Aqo;refine AOy (Q:=λr=>r=(2 * a + b) / (2 * b)) (AOy (BAi h3 h4 AOq hf) λx hx=>?_) λz hz=>AOt hz;obtain ⟨x1,x2⟩:=x;obtain ⟨a1,a2,a3,a4⟩:=hx;dsimp only at *;refine AOy (Aid<|BKv AOq AOq AOq) λq hq=>AOt ?_;subst hq;refine BCg a1 AOq ?_;have h5:r2 * (x1 * (2 * b))=r2 * ((2 * a + b) * x2):=by grind
  exact Int.eq_of_mul_eq_mul_left (show r2≠0 by omega) h5
end Go.Proofs.YtkakafabeobahaaGreatDoor
namespace Go.Proofs.YtkakafabeobahaaGreatDoor
open Go Go.QF
set_option maxRecDepth 100000
theorem BCh {n:Nat} (hn:n<=8) (hj:j + 1 < n) (hb:∀ i j,i < n->j < n->(F i j).natAbs<=mN n) (hf:100 < fuel):Ok (Amm fuel (tab n n F) (Aju n λa=>det (a + 1) F) ((j + 1:Nat):Int)) λr=>r=true↔LvF F j:=by
 show Ok _ λr:Bool=>r=true↔3 * (det (j + 1) F * det (j + 1) F)<=4 * (det j F * det (j + 2) F + Mn j F (j + 1) j * Mn j F (j + 1) j);unfold Amm;have w1:w64 (((j + 1:Nat):Int) - 1)=(j:Int):=by rw [wk AOq];omega
 have w2:w64 (((j + 1:Nat):Int) + 1)=((j + 2:Nat):Int):=by rw [wk AOq];omega
 rw [w1,w2];have hD:=BJ5 n;have bl:(Mn j F (j + 1) j).natAbs<=gN n:=A7z hn AOq AOq AOq hb;have b0:(det j F).natAbs<=gN n:=A2l hn AOq hb;have b1:(det (j + 1) F).natAbs<=gN n:=A2l hn AOq hb;have b2:(det (j + 2) F).natAbs<=gN n:=A2l hn AOq hb;have p1:=Nat.mul_le_mul b0 b2;have p2:=Nat.mul_le_mul bl bl;have p3:=Nat.mul_le_mul b1 b1;have e1:=Int.natAbs_mul (det j F)<|det (j + 2) F;have e2:=Int.natAbs_mul (Mn j F (j + 1) j)<|Mn j F (j + 1) j;have e3:=Int.natAbs_mul (det (j + 1) F)<|det (j + 1) F;refine AOy (Aid<|A7y hn AOq AOq hb hf) λl hl=>?_;subst hl;refine AOy (Q:=(· =4)) ⟨4,if_pos AOq,rfl⟩ λx hx=>?_;subst hx;refine AOy (Aid<|A21 AOq hn) λx hx=>AOy (Aid<|A21 AOq hn) λy hy=>?_;subst hx;subst hy;refine AOy (Aid (a:=det j F * det (j + 2) F)<|if_pos AOq) λx hx=>AOy (Aid (a:=Mn j F (j + 1) j * Mn j F (j + 1) j)<|if_pos AOq) λy hy=>?_;subst hx;subst hy;generalize det j F * det (j + 2) F=P at *;generalize Mn j F (j + 1) j * Mn j F (j + 1) j=L at *;refine AOy (Aid (a:=P + L)<|if_pos AOq) λx hx=>AOy (Aid (a:=4 * x)<|if_pos<|by grind) λy hy=>?_;subst hx;subst hy;refine AOy (Q:=(· =3)) ⟨3,if_pos AOq,rfl⟩ λx hx=>?_;subst hx;refine AOy (Aid<|A21 AOq hn) λx hx=>AOy (Aid<|A21 AOq hn) λy hy=>?_;subst hx;subst hy;refine AOy (Aid (a:=det (j + 1) F * det (j + 1) F)<|if_pos AOq) λx hx=>?_;subst hx;generalize det (j + 1) F * det (j + 1) F=S at *;refine AOy (Aid (a:=3 * S)<|if_pos<|by grind) λx hx=>AOy (Aid (a:=Az8 (4 * (P + L)) x) rfl) λc hc=>AOt ?_;subst hx;subst hc;rw [decide_eq_true_iff];unfold Az8;omega
def A0h (A:Ahe) (i j:Nat):Int:= -((2 * Mn j A i j + det (j + 1) A) / (2 * det (j + 1) A))
def A3y (A:Ahe) (i j:Nat):Ahe:=Ajc dl j λq=>if q=i then A0h A i j else dl j q
def Ayx (A:Ahe) (i:Nat):Prop:= ∀ r l,l < r->r < i->SzF A r l
def A0i (A:Ahe) (i:Nat):Prop:= ∀ r,r + 1 < i->LvF A r
def BKw (n:Nat) (A:Ahe) (r:List (List Int) × Bool):Prop:=
 (r=([],false)/\Ayx A n/\A0i A n)∨
 (∃ i j,j < i/\i < n/\¬ SzF A i j/\Ayx A i/\(∀ l,l < i->j < l->SzF A i l)/\A0i A i/\r=(tab n n<|A3y A i j,true))∨
 ∃ j,j + 1 < n/\¬ LvF A j/\Ayx A (j + 2)/\A0i A (j + 1)/\r=(tab n n<|Ann dl (j + 1) j,true)
theorem BQa {n:Nat} (Ah:1<=n) (hn:n<=8) (hp:Avj n A) (hb:∀ i j,i < n->j < n->(A i j).natAbs<=mN n) (hf:Alj < fuel):Ok (Ao6 fuel<|tab n n A) (BKw n A):=by
 have Ab:100 < fuel:=Nat.lt_of_le_of_lt AOs hf;have hD:=BJ5 n;unfold Ao6;refine AOy (Aid<|A5f Ah hn hb Ab) λx hx=>?_;subst hx;dsimp only;rw [Ahv];refine AOy (Aid<|BFl Ah AOq Ab) λx hx=>?_;subst hx;dsimp only;refine AOy (Ah4 (λi s=>s=(((i:Nat):Int),tab n n dl)/\i<=n/\Ayx A i/\A0i A i) n (Q:=λex=>match ex with | .inl r=>BKw n A r | .inr _=>Ayx A n/\A0i A n) ⟨rfl,Nat.zero_le _,λr l h1 h2=>by omega,λr h=>by omega⟩ AOq λi s hi hI=>?_) λex hex=>?_
 ·obtain ⟨rfl,hin,hsz,hlv⟩:=hI;unfold Asq;dsimp only;rw [Ahv];refine Ag9 (λh=>?_) λh=>AOt ?_
  ·have hi':i < n:=by omega
   refine AOy (Ah4 (λk s=>s=((i:Int) - 1 - k,tab n n dl)/\k<=i/\ ∀ l,l < i->i<=l + k->SzF A i l) i (Q:=λex=>match ex with | .inl r=>BKw n A r | .inr e=>e=tab n n dl/\ ∀ l,l < i->SzF A i l) ⟨by rw [wk AOq];simp,Nat.zero_le _,λl h1 h2=>by omega⟩ AOq λk s hk hK=>?_) λex hex=>?_
   ·obtain ⟨rfl,hki,hz⟩:=hK;unfold Asp;dsimp only;refine Ag9 (λh2=>?_) λh2=>AOt ⟨rfl,λl hl=>hz l hl AOq⟩;obtain ⟨j,hj⟩:∃ j:Nat,(i:Int) - 1 - k=j:=⟨i - 1 - k,AOq⟩;rw [hj];have hji:j < i:=by omega
    refine AOy (Aid<|BFg hn hi' AOq hb Ab) λb Ag=>?_;subst Ag;refine Ag9 (λh3=>?_) λh3=>AOt ⟨AOq,?_,AOq,λl h4 h5=>?_⟩
    ·have hbad: ¬ SzF A i j:=λh=>by rw [<- A6m] at h;simp [h] at h3
     refine Ahj (Ahw AOq) rfl (AOy (Aid<|A7y hn hi' AOq hb Ab) λl hl=>?_);subst hl;rw [show w64 ((j:Int) + 1)=((j + 1:Nat):Int) by rw [wk AOq];omega];refine AOy (Aid<|A21 AOq hn) λd hd=>?_;subst hd;have bl:(Mn j A i j).natAbs<=gN n:=A7z hn hi' AOq AOq hb;have b1:(det (j + 1) A).natAbs<=gN n:=A2l hn AOq hb;have hd:=hp (j + 1) AOq;have hDD:gN n<=gN n * gN n:=Nat.le_mul_of_pos_left _ AOq;refine AOy (BP8 AOq AOq AOq hf) λq hq=>?_;obtain ⟨x,y⟩:=q;obtain ⟨q1,q2,q3,q4⟩:=hq;dsimp only at q1 q2 q3 q4 ⊢;refine AOy (BP9 AOq q1 hf) λm hm=>AOy (Aid (a:= -m) rfl) λc hc=>?_
     have Ao:c=A0h A i j:=by
      rw [hc,hm]
      unfold A0h
      congr 1
      refine BCg AOq AOq ?_
      grind
     clear hm hc;refine Ahj (Ahr hi') rfl (AOt<|.inr<|.inl ⟨i,j,hji,hi',hbad,hsz,λl h4 h5=>hz l h4 AOq,hlv,?_⟩);rw [Aja,Aja,Alw,Ao,show (Aju n λq=>if q=i then A0h A i j else dl j q)=(List.range n).map λq=>if q=i then A0h A i j else dl j q from rfl,Ash];rfl
    ·rw [wk AOq];grind
    ·have hgood:SzF A i j:=by rw [<- A6m];simpa using h3
     grind
   ·cases ex with
    | inl r=>exact AOt hex
    | inr e=>
      obtain ⟨rfl,hzi⟩:=hex
      have hsz':Ayx A (i + 1):=λr l h1 h2=>by
       rcases Nat.lt_or_ge r i with h3 | h3
       ·exact hsz r l h1 h3
       grind
      dsimp only
      have nx:w64 ((i:Int) + 1)=((i + 1:Nat):Int):=by rw [wk AOq];omega
      refine Ag9 (λh4=>?_) λh4=>AOt ⟨AOq,by rw [nx],AOq,hsz',λr hr=>by omega⟩
      obtain ⟨j,rfl⟩:∃ j,i=j + 1:=⟨i - 1,AOq⟩
      refine AOy (BCh hn hi' hb Ab) λb Ag=>?_
      refine Ag9 (λh5=>?_) λh5=>AOt ⟨AOq,by rw [nx],AOq,hsz',λr hr=>?_⟩
      ·have hbad: ¬ LvF A j:=λh=>by grind
       rw [show w64 (((j + 1:Nat):Int) - 1)=(j:Int) by rw [wk AOq];omega]
       refine Ahj (Ahw AOq) rfl (Ahj (Ahw hi') rfl (AOt<|.inr<|.inr ⟨j,hi',hbad,hsz',hlv,?_⟩))
       rw [Aja,Aja,show Aju n (dl j)=(List.range n).map (dl j) from rfl,show Aju n (dl<|j + 1)=(List.range n).map (dl<|j + 1) from rfl,Ash,Ash]
       rfl
      ·have hgood:LvF A j:=Ag.1 (by simpa using h5)
       rcases Nat.lt_or_ge r j with h6 | h6
       ·exact hlv r AOq
       grind
  grind
 ·cases ex with
  | inl r=>exact AOt hex
  | inr u=>exact AOt<|.inl ⟨rfl,hex⟩
end Go.Proofs.YtkakafabeobahaaGreatDoor
namespace Go.QF
open Go
theorem BCi (c:Int) (f:Nat->Int) (n:Nat):c * psum f n=psum (λi=>c * f i) n:=(Aow c f n).symm
theorem BDy (c:Int) (f:Nat->Int) (n:Nat):psum f n * c=psum (λi=>f i * c) n:=by
 rw [Int.mul_comm,BCi];grind
section
variable {n K:Nat} {p:Int} {e f:Nat->Nat} {a b D D' S:Ahe}
theorem A1c {B C:Ahe} (i j:Nat):Amb n (Amb n A B) C i j=Amb n A (Amb n B C) i j:=by
 unfold Amb;rw [Ais (g:=λk=>psum (λl=>A i l * B l k * C k j) n) λk _=>BDy _ _ _,A8t]
 exact Ais λl _=>by
  rw [BCi]
  grind
end
end Go.QF
namespace Go.Proofs.YtkakafabeobahaaGreatDoor
open Go Go.QF
set_option maxRecDepth 100000
theorem BKx {S E:Type} {body:S->Option (S ⊕ E)} {Q:E->Prop} (I:Nat->S->Prop) (hs:∀ k s,I k s->Ok (body s) λr=>match r with | .inl s'=> ∃ k',k' < k/\I k' s' | .inr e=>Q e):∀ {fuel k:Nat} {s0:S},I k s0->k < fuel->Ok (iter body fuel s0) Q:=by
 intro fuel;induction fuel with
 | zero=>omega
 | succ f ih=>
   intro k s0 h0 hf;obtain ⟨r,hr,hq⟩:=hs k s0 h0;cases r with
   | inl s'=>
     obtain ⟨k',h1,h2⟩:=hq;obtain ⟨e,he,hQ⟩:=ih h2 AOq;exact ⟨e,by simp [iter,hr,he],hQ⟩
   | inr e=>exact ⟨e,by simp [iter,hr],hq⟩
theorem BCj {n:Nat} (hj:j < i) (hi:i < n) (hs:s < n) (X:Nat->Int):psum (λk=>X k * A3y A i j k s) n=X s + if s=i then A0h A i j * X j else 0:=by
 have h1:∀ k,X k * A3y A i j k s=X k * dl k s + (if k=j then (if s=i then A0h A i j * X j else 0) else 0):=λk=>by
  unfold A3y
  rw [Aiu]
  split
  ·next h=>
   subst h
   split
   ·next h2=>subst h2;unfold dl;grind
   ·simp
  ·simp
 rw [Ais λk _=>h1 k,Avh,A93 X hs,A0g (a:=j) AOq λk _ hk=>if_neg hk,if_pos rfl]
theorem BCk {n:Nat} (hj:j < i) (hi:i < n) (hr:r < n) (hs:s < n):Amb n (Amb n (trF<|A3y A i j) A) (A3y A i j) r s=A4r A i j (A0h A i j) r s:=by
 have h2:∀ k,Amb n (trF<|A3y A i j) A r k=A r k + if r=i then A0h A i j * A j k else 0:=λk=>by
  show psum (λl=>A3y A i j l r * A l k) n=_
  rw [Ais (g:=λl=>A l k * A3y A i j l r) λl _=>Int.mul_comm _ _]
  exact BCj hj hi hr λl=>A l k
 show psum (λk=>Amb n (trF<|A3y A i j) A r k * A3y A i j k s) n=_;rw [BCj hj hi hs λk=>Amb n (trF<|A3y A i j) A r k];rw [h2,h2,A6l];grind
theorem BAj (j k s:Nat):Ann dl (j + 1) j k s=dl (tau j k) s:=by
 rw [Ast];unfold tau;grind
theorem BFn (j k:Nat):tau j (tau j k)=k:=by unfold tau;grind
theorem BQb {n:Nat} (hj:j + 1 < n) (hk:k < n):tau j k < n:=by unfold tau;grind
theorem BFo {n:Nat} (hj:j + 1 < n) (hs:s < n) (X:Nat->Int):psum (λk=>X k * Ann dl (j + 1) j k s) n=X (tau j s):=by
 rw [A0g (a:=tau j s) (BQb hj hs) λk hk hne=>?_]
 ·rw [BAj,BFn];unfold dl;grind
 ·rw [BAj];unfold dl;rw [if_neg λh=>hne<|by rw [<- h,BFn]];simp
theorem BFp {n:Nat} (hj:j + 1 < n) (hr:r < n) (hs:s < n):Amb n (Amb n (trF<|Ann dl (j + 1) j) A) (Ann dl (j + 1) j) r s=swA A j r s:=by
 show psum (λk=>Amb n (trF<|Ann dl (j + 1) j) A r k * Ann dl (j + 1) j k s) n=_;rw [BFo hj hs λk=>Amb n (trF<|Ann dl (j + 1) j) A r k];show psum (λl=>Ann dl (j + 1) j l r * A l (tau j s)) n=_;rw [Ais (g:=λl=>A l (tau j s) * Ann dl (j + 1) j l r) λl _=>Int.mul_comm _ _];exact BFo hj hr λl=>A l<|tau j s
theorem A1d {n:Nat} {A' B B':Ahe} (hA:∀ k,k < n->A i k=A' i k) (hB:∀ k,k < n->B k j=B' k j):Amb n A B i j=Amb n A' B' i j:=Ais λk hk=>by grind
theorem BNh {n:Nat} {T U:Ahe} (i j:Nat):trF (Amb n T U) i j=Amb n (trF U) (trF T) i j:=Ais λk _=>Int.mul_comm _ _
def BDz (n:Nat) (A0 T A:Ahe):Prop:= ∀ i j,i < n->j < n->A i j=Amb n (trF T) (Amb n A0 T) i j
theorem A9b {n:Nat} {A0 T U B:Ahe} (H:BDz n A0 T A) (K:∀ i j,i < n->j < n->Amb n (Amb n (trF U) A) U i j=B i j):BDz n A0 (Amb n T U) B:=λi j hi hj=>by
 rw [<- K i j hi hj,A1c]
 have h1:Amb n (trF U) (Amb n A U) i j=Amb n (trF U) (Amb n (trF T)<|Amb n A0<|Amb n T U) i j:=by
  refine A1d (λ_ _=>rfl) λk hk=>?_;rw [A1d (A':=Amb n (trF T)<|Amb n A0 T) (λl hl=>H k l hk hl) λ_ _=>rfl,A1c];refine A1d (λ_ _=>rfl) λl hl=>?_;rw [A1c]
 rw [h1,<- A1c];exact A1d (λk _=>(BNh i k).symm) λ_ _=>rfl
theorem BNi {n:Nat}:BDz n A dl A:=λi j hi hj=>by
 show _=psum (λk=>dl k i * Amb n A dl k j) n
 rw [Ais (g:=λk=>Amb n A dl k j * dl k i) λk _=>Int.mul_comm _ _,A93 (λk=>Amb n A dl k j) hi]
 exact (BJx hj).symm
def dmN (n:Nat):Int:=if n<=6 then 2 ^ 59 else 9 ^ 8
def bdN (n:Nat):Int:=if n<=6 then 2 ^ 194 else 2 ^ 97
theorem A5h (n:Nat):9 ^ 8<=dmN n/\dmN n<=2 ^ 59:=by unfold dmN;split <;> decide
theorem BQc (n:Nat):(bdN n).natAbs<=mN n:=by unfold bdN mN;split <;> decide
theorem BO0 {m n:Nat} {D:Int} (hn:n<=m + 1) (hk:k<=m) (hD:0<=D):(1 + (k:Int) * ((2 ^ (n - 1) * (2 * D)) * (2 ^ (n - 1) * (2 * D)))) * D<=(1 + (m:Int) * ((2 ^ m * (2 * D)) * (2 ^ m * (2 * D)))) * D:=by
 have p0:0<=2 ^ (n - 1) * (2 * D):=Int.mul_nonneg (Int.le_of_lt<|A2k _) AOq;have h0:(2:Int) ^ (n - 1) * (2 * D)<=2 ^ m * (2 * D):=Int.mul_le_mul_of_nonneg_right (A20 AOq) AOq;have h1:=Int.mul_le_mul h0 h0 p0 AOq;have h2:=Int.mul_le_mul (show (k:Int)<=m by omega) h1 (Int.mul_nonneg p0 p0) AOq;exact Int.mul_le_mul_of_nonneg_right AOq hD
theorem BQd {n:Nat} (hn:n<=8) (hk:k < n):(1 + (k:Int) * ((2 ^ (n - 1) * (2 * dmN n)) * (2 ^ (n - 1) * (2 * dmN n)))) * dmN n<=bdN n:=by
 unfold dmN bdN;rcases Nat.lt_or_ge 6 n with h | h
 ·rw [if_neg AOq,if_neg AOq];exact Int.le_trans (BO0 (m:=7) AOq AOq AOs) AOs
 ·rw [if_pos h,if_pos h];exact Int.le_trans (BO0 (m:=5) AOq AOq AOs) AOs
theorem BQe (n:Nat):3 * dmN n<=bdN n:=by unfold dmN bdN;split <;> decide
theorem BNj {n:Nat} (hn:n<=8) (h:BAf n (dmN n) A i t):∀ k,k < n->A k k<=bdN n:=λk hk=>by
 by_cases e:k=i
 ·subst e
  have hd:=(A5h n).1
  have h1:=A89 (p:=(2 ^ (n - 1) * (2 * dmN n)) * (2 ^ (n - 1) * (2 * dmN n))) (q:=1) h.sym h.pos h.hi h.dm (sq_nonneg _) AOs (λl hl=>by
   have h2:=h.lamb l hl
   have h3:(2:Int) ^ t * (2 * dmN n)<=2 ^ (n - 1) * (2 * dmN n):=Int.mul_le_mul_of_nonneg_right (A20 (by have:=h.ht;omega)) AOq
   have h4:=h.pos (l + 1) AOq
   have h5:=Int.mul_le_mul_of_nonneg_right h3<|Int.le_of_lt h4
   have h6:=A2j (x:=Mn l A k l) (y:=2 ^ (n - 1) * (2 * dmN n) * det (l + 1) A) AOq AOq
   grind) k 0 AOq
  rw [Awo,show det 0 A=1 from rfl,Int.one_mul,Int.mul_one] at h1
  exact Int.le_trans h1<|BQd hn hk
 ·exact Int.le_trans (h.rows k hk e)<|BQe n
theorem BCl {n:Nat} (hs:Atz n A) (hp:Avj n A) (hB:∀ k,k < n->A k k<=B) (hi:i < n) (hj:j < n): -B<=A i j/\A i j<=B:=by
 have h1:=A5c (k:=0) hs hp (Nat.zero_le _) hi hj;simp only [Awo] at h1;have p1:=A5d (k:=0) hs hp (Nat.zero_le _) hi;have p2:=A5d (k:=0) hs hp (Nat.zero_le _) hj;simp only [Awo] at p1 p2;have h2:=Int.mul_le_mul (hB i hi) (hB j hj) p2<|Int.le_trans p1<|hB i hi;exact BCb (Int.le_trans p1<|hB i hi)<|Int.le_trans h1 h2
theorem BFq {n:Nat} (hs:Atz n A) (hp:Avj n A) (hB:∀ k,k < n->A k k<=B) (hi:i < n) (hj:j < n):(A i j).natAbs<=B.natAbs:=by
 have:=BCl hs hp hB hi hj;omega
def A71:Nat:=(2 ^ 158) ^ 10
theorem BCm:16 * (A71 * A71) < Alj:=by decide
def A9c:Nat:=(2 ^ 220) ^ 5
theorem BR7 {n:Nat} {A0 T:Ahe} (hn:n<=8) (hE:∀ i j,(A0 i j).natAbs<=2 ^ 60) (hs:Atz n A0) (hp:Avj n A0) (H:BDz n A0 T A) (hB:∀ k,k < n->A k k<=bdN n) (hk:k < n) (hs2:s < n):(T k s).natAbs<=A9c:=by
 have h1:=BNb hs hp (λr=>T r s) hk
 have h2:bil n 0 A0 (λr=>T r s) (λr=>T r s)=A s s:=by
  rw [H s s hs2 hs2];show _=psum (λi=>T i s * psum (λj=>A0 i j * T j s) n) n;unfold bil;refine Ais λi _=>?_;rw [<- Aow];exact Ais λj _=>by rw [Awo];grind
 rw [h2] at h1
 have h3:(A7w n A0 k k).natAbs<=dBd (2 ^ 60) 9:=by
  refine Nat.le_trans (A4l (m:=2 ^ 60) λi j=>?_)<|Avi AOs AOq;rw [Aiu]
  split
  ·unfold dl;split <;> decide
  ·exact hE i j
 have h4:A7w n A0 k k * A s s<=(dBd (2 ^ 60) 9:Nat) * bdN n:=by
  have p0:0<=A s s:=by
   have:A s s=bil n 0 A0 (λr=>T r s) (λr=>T r s):=h2.symm;rw [this];exact Ayw hs hp _ n 0 AOq
  have b1:A7w n A0 k k<=(dBd (2 ^ 60) 9:Nat):=by omega
  have b2:=Int.mul_le_mul_of_nonneg_right b1 p0;have b3:=Int.mul_le_mul_of_nonneg_left (hB s hs2) (show (0:Int)<=(dBd (2 ^ 60) 9:Nat) by omega);omega
 have h5:((dBd (2 ^ 60) 9:Nat):Int) * bdN n<=(A9c:Int) * (A9c:Int):=by unfold bdN;split <;> decide
 have h6:=BCb (x:=T k s) (y:=(A9c:Int)) AOq<|Int.le_trans (Int.le_trans h1 h4) h5;omega
structure A72 (n:Nat) (A:Ahe):Prop where
 sym:Atz n A
 pos:Avj n A
 sz:Ayx A n
 lv:A0i A n
 dt:det n A<=10000
structure RSt (n:Nat) (A0 A T:Ahe) (i t:Nat):Prop where
 inv:BAf n (dmN n) A i t
 car:BDz n A0 T A
 dt:det n A=det n A0
def BSt (n:Nat) (A0:Ahe) (k:Nat) (s:List (List Int) × List (List Int)):Prop:=
 ∃ A T i t,RSt n A0 A T i t/\s=(tab n n A,tab n n T)/\k=(BCf n A).toNat * 128 + (128 - (16 * i + t))
theorem BFr {n:Nat} (hp:Avj n A):0<=BCf n A:=by
 have:∀ m,m<=n + 1->0<=psum (λk=>det k A) m:=λm=>by
  induction m with
  | zero=>intro _;exact Int.le_refl _
  | succ m ih=>intro h;have h1:=ih AOq;have h2:=hp m AOq;simp only [psum];omega
 exact this _<|Nat.le_refl _
theorem BNk {n:Nat} (hd:∀ k,k<=n->det k A<=dmN n):BCf n A<=(n + 1:Nat) * dmN n:=by
 have:∀ m,m<=n + 1->psum (λk=>det k A) m<=(m:Nat) * dmN n:=λm=>by
  induction m with
  | zero=>intro _;simp [psum]
  | succ m ih=>intro h;have h1:=ih AOq;have h2:=hd m AOq;simp only [psum];grind
 exact this _<|Nat.le_refl _
theorem BHc {n:Nat} (hn:n<=8) (hj:j < i) (hi:i < n) (hp:Avj n A) (hb:∀ i j,i < n->j < n->(A i j).natAbs<=mN n):(A0h A i j).natAbs<=3 * gN n:=by
 have b1:(Mn j A i j).natAbs<=gN n:=A7z hn hi AOq AOq hb;have b2:(det (j + 1) A).natAbs<=gN n:=A2l hn AOq hb;have hd:=hp (j + 1) AOq;unfold A0h;rw [Int.natAbs_neg];have:=Int.natAbs_ediv_le_natAbs (2 * Mn j A i j + det (j + 1) A)<|2 * det (j + 1) A;omega
theorem BHd {n:Nat} {A0:Ahe} (Ac:1<=n) (hn:n<=8) (hs:Atz n A0) (hp:Avj n A0) (hE:∀ i j,(A0 i j).natAbs<=2 ^ 60) (hD:∀ k,k<=n->det k A0<=dmN n) (hr:∀ k,k < n->A0 k k<=3 * dmN n) (hdt:det n A0<=10000) (hf:Alj < fuel):
 Ok (An5 fuel<|tab n n A0) λr=> ∃ A T,r=(tab n n A,tab n n T,0)/\A72 n A/\BDz n A0 T A/\det n A=det n A0/\ ∀ k,k < n->A k k<=3 * dmN n:=by
 have Ad:100 < fuel:=Nat.lt_of_le_of_lt AOs hf;have Ar:100000000 < fuel:=Nat.lt_of_le_of_lt AOs hf;have Aj:∀ i j,i < n->j < n->(A0 i j).natAbs<=mN n:=λi j _ _=>Nat.le_trans (hE i j)<|Nat.le_trans AOs<|A82 n;unfold An5;refine AOy (A3x Ac hn Aj Ad) λv hv=>?_;have Ao:=hv.2 ⟨hs,hp⟩;subst Ao;refine Ag9 (λh=>absurd rfl h) λ_=>AOy (Aid<|BFk hn Aj Ad) λb hb=>?_;subst hb;refine Ag9 (λh=>by simp [hdt] at h) λ_=>?_;refine AOy (Aid<|A96 (A:=tab n n A0) (by rw [Ahv];omega) (λz hz=>by rw [A11 z hz];omega) (by rw [Ahv];omega)) λx hx=>?_;subst hx;rw [Ahv];refine AOy (Aid<|BFl Ac AOq Ad) λx hx=>?_;subst hx;dsimp only;refine AOy (BKx (BSt n A0) (Q:=λr=> ∃ A T,r=(tab n n A,tab n n T,0)/\A72 n A/\BDz n A0 T A/\det n A=det n A0/\ ∀ k,k < n->A k k<=3 * dmN n) (λk s hI=>?_) (k:=(BCf n A0).toNat * 128 + 128) ⟨A0,dl,0,0,⟨A7x Ac hs hp hD hr,BNi,rfl⟩,rfl,rfl⟩ ?_) λr hr=>AOt hr
 ·obtain ⟨A,T,i,t,R,rfl,rfl⟩:=hI;have L:=R.inv;have hbd:=BNj hn L;have hb:∀ i j,i < n->j < n->(A i j).natAbs<=mN n:=λi j hi hj=>Nat.le_trans (BFq L.sym L.pos hbd hi hj)<|BQc n;have hT:∀ k s,k < n->s < n->(T k s).natAbs<=A9c:=λk s hk Ab=>BR7 hn hE hs hp R.car hbd hk Ab;have hTD:A9c<=A71:=by decide
  have hg:=BJ6 n;have hgm:=BRz n;have Ap:=A82 n;have hMD:mN n<=A71:=Nat.le_trans (Nat.le_trans (Nat.le_mul_of_pos_left _<|show 0 < 24 * gN n by omega)<|Nat.le_of_eq<|Nat.mul_assoc 24 (gN n)<|mN n) hgm;have hGD:3 * gN n<=A71:=Nat.le_trans (Nat.le_trans (show 3 * gN n<=24 * gN n by omega)<|Nat.le_mul_of_pos_right _<|Nat.lt_of_lt_of_le AOs Ap)<|Nat.le_trans (Nat.le_of_eq<|Nat.mul_assoc 24 (gN n)<|mN n) hgm;unfold Aq4;refine AOy (BQa Ac hn L.pos hb hf) λr hr=>?_
  have prod:∀ {U:Ahe},(∀ i j,i < n->j < n->(U i j).natAbs<=3 * gN n)->(Ak5 fuel (tab n n A) (tab n n U)=some (tab n n<|Amb n (Amb n (trF U) A) U)/\Ajj fuel (tab n n T) (tab n n U)=some (tab n n<|Amb n T U)):=λ{U} hU=>by
   have Ak:∀ i j,i < n->j < n->(U i j).natAbs<=A71:=λi j hi hj=>Nat.le_trans (hU i j hi hj) hGD
   refine ⟨BNg Ac AOq BCm (λi j hi hj=>Nat.le_trans (hb i j hi hj) hMD) Ak (λi j hi hj=>?_) Ad,?_⟩
   ·have h3:(Amb n (trF U) A i j).natAbs=(psum (λl=>U l i * A l j) n).natAbs:=rfl
    have h4:∀ l,l < n->(U l i).natAbs<=3 * gN n/\(A l j).natAbs<=mN n:=λl hl=>⟨hU l i hl hi,hb l j hl hj⟩
    have h5:(psum (λl=>U l i * A l j) n).natAbs<=n * (3 * gN n * mN n):=by
     refine QF.psum_abs λl hl=>?_
     rw [Int.natAbs_mul]
     exact Nat.mul_le_mul (h4 l hl).1 (h4 l hl).2
    have h6:n * (3 * gN n * mN n)<=8 * (3 * gN n * mN n):=Nat.mul_le_mul_right _ hn
    have h7:8 * (3 * gN n * mN n)<=A71:=Nat.le_trans (Nat.le_of_eq<|by rw [Nat.mul_assoc 3,<- Nat.mul_assoc 8]) hgm
    omega
   ·unfold Ajj
    rw [BKu Ac AOq BCm (λi j hi hj=>Nat.le_trans (hT i j hi hj) hTD) Ak Ad]
    rfl
  rcases hr with ⟨rfl,hsz,hlv⟩ | ⟨i',j,hji,hi',hbad,hsz,hzi,hlv,rfl⟩ | ⟨j,hj,hbad,hsz,hlv,rfl⟩
  ·dsimp only;refine Ag9 (λ_=>?_) λh=>absurd rfl h;have hrest:=A2z hn L λl hl=>hsz i l hl L.hi;refine AOy (Aid<|BR4 Ac AOq (λi j hi hj=>Nat.lt_of_le_of_lt (BFq L.sym L.pos hrest hi hj) (by have:=A5h n;omega)) Ad) λx hx=>AOt ?_;subst hx;exact ⟨A,T,rfl,⟨L.sym,L.pos,hsz,hlv,by rw [R.dt];exact hdt⟩,R.car,R.dt,hrest⟩
  ·dsimp only;refine Ag9 (λh=>absurd h AOs) λ_=>?_
   have hU:∀ r s,r < n->s < n->(A3y A i' j r s).natAbs<=3 * gN n:=λr s hr Ab=>by
    have hdl:∀ a b,(dl a b).natAbs<=3 * gN n:=λa b=>by unfold dl;split <;> omega
    unfold A3y
    rw [Aiu]
    split
    ·split
     ·exact BHc hn hji hi' L.pos hb
     ·exact hdl _ _
    ·exact hdl _ _
   obtain ⟨e1,e2⟩:=prod hU;refine AOy (Aid e1) λx hx=>AOy (Aid e2) λy hy=>AOt ?_;subst hx;subst hy;obtain ⟨L2,hm⟩:=BHa hn L hi' hji hbad hsz hzi hlv;have hsum:BCf n (A4r A i' j<|A0h A i' j)=BCf n A:=Ais λk _=>Axa hji;refine ⟨_,?_,A4r A i' j<|A0h A i' j,Amb n T<|A3y A i' j,i',i' - j,⟨L2,A9b R.car λr s hr Ab=>BCk hji hi' hr Ab,by rw [Axa hji];exact R.dt⟩,?_,rfl⟩
   ·omega
   ·rw [Awq λr s hr Ab=>BCk hji hi' hr Ab]
  ·dsimp only;refine Ag9 (λh=>absurd h AOs) λ_=>?_
   have hU:∀ r s,r < n->s < n->(Ann dl (j + 1) j r s).natAbs<=3 * gN n:=λr s hr Ab=>by
    rw [BAj];unfold dl;split <;> omega
   obtain ⟨e1,e2⟩:=prod hU;refine AOy (Aid e1) λx hx=>AOy (Aid e2) λy hy=>AOt ?_;subst hx;subst hy;obtain ⟨L2,hm⟩:=BHb hn L hj hbad (λr l h1 h2=>hsz r l h1 AOq) λr hr=>hlv r AOq;refine ⟨_,?_,swA A j,Amb n T<|Ann dl (j + 1) j,0,0,⟨L2,A9b R.car λr s hr Ab=>BFp hj hr Ab,by rw [BFd AOq];exact R.dt⟩,?_,rfl⟩
   ·have h1:=BFr L.pos;have h2:=BFr L2.pos;have:=L.hi;have:=L.ht;omega
   ·rw [Awq λr s hr Ab=>BFp hj hr Ab]
 ·have h1:=BNk hD;have h2:((n + 1:Nat):Int) * dmN n<=9 * dmN n:=Int.mul_le_mul_of_nonneg_right AOq (by have:=A5h n;omega);have h3:9 * dmN n<=9 * 2 ^ 59:=Int.mul_le_mul_of_nonneg_left (A5h n).2 AOs;have h4:9 * 2 ^ 59 * 128 + 128 < Alj:=by decide
  omega
def part (n i:Nat) (G:Ahe):List (List Int):=Aju n λr=>if r < i then Aju n (G r) else []
theorem Arl {n:Nat} (hr:r < i) (hn:r < n):(part n i G)[r]? =some (Aju n<|G r):=by
 unfold part;rw [Ahr hn,if_pos hr]
theorem Avp {n:Nat} (hn:i < n):(part n i G)[i]? =some []:=by
 unfold part;rw [Ahr hn,if_neg<|Nat.lt_irrefl i]
theorem At0 {n:Nat} (hr:r < i):(part n i G).set r (Aju n g)=part n i (Ajc G r g):=by
 unfold part;rw [Alw];refine Aiy λk _=>?_;by_cases h:k=r
 ·subst h;rw [if_pos rfl,if_pos hr,Ai2]
 ·rw [if_neg h,Alu _ _ h]
theorem At1 {n:Nat}:(part n i G).set i (Aju n g)=part n (i + 1) (Ajc G i g):=by
 unfold part;rw [Alw];refine Aiy λk _=>?_;by_cases h:k=i
 ·subst h;rw [if_pos rfl,if_pos AOq,Ai2]
 ·rw [if_neg h,Alu _ _ h];grind
theorem Av3 (n:Nat) (G:Ahe):part n n G=tab n n G:=by
 unfold part;rw [Awn];exact Aiy λk hk=>if_pos hk
theorem Av4 (n:Nat) (G:Ahe):List.replicate n ([]:List Int)=part n 0 G:=by
 rw [Ama];exact Aiy λk _=>(if_neg AOq).symm
theorem A3z {L:List Int} {q:Nat} (hq:q < 4611686018427387904):Ok (if (L.length:Int)<=((q:Nat):Int) then (some ((0:Int),((q:Nat):Int))) else ((gI L<|w64<|(w64<|((q:Nat):Int) + 1) - 1).bind λx=>(some ((w64 x),(w64<|((q:Nat):Int) + 1))))) λe=> ∃ p:Nat,e.2=(p:Int)/\p<=q + 1:=by
 refine Ag9 (λh=>AOt ⟨q,rfl,AOq⟩) λh=>?_;have hl:q < L.length:=by omega
 refine Ahj (n:=q) (List.getElem?_eq_getElem hl) (by rw [Ajz (x:=(q:Int) + 1) AOq AOq,wk AOq];omega)<|AOt ⟨q + 1,?_,AOq⟩;rw [Ajz (x:=(q:Int) + 1) AOq AOq];omega
theorem A1m (x:Int) (m:Nat) (hm:0 < m):0<=Int.tmod (w64<|IntKind.wrap .u8 x) (m:Int)/\Int.tmod (w64<|IntKind.wrap .u8 x) (m:Int) < m:=by
 have h1:IntKind.wrap .u8 x=x % 256:=by rw [IntKind.wrap_u8]
 rw [h1];have a1:=Int.emod_nonneg x (show (256:Int)≠0 by decide);have a2:=Int.emod_lt_of_pos x (show (0:Int) < 256 by decide);rw [wk AOq,Int.tmod_eq_emod_of_nonneg a1];exact ⟨Int.emod_nonneg _ AOq,Int.emod_lt_of_pos _ AOq⟩
def dgF (f:Nat->Int) (r c:Nat):Int:=if c=r then f r else 0
theorem BR8 {L:List Int} (hN:w64 (1 + (Int.tmod (w64 a1) Ac))=(N:Int)) (Af:N<=8) (Ag:q0<=1000) (hf:100 < fuel):
 Ok (iter (λs=>Amn fuel a1 L Ac s.1 s.2.1 s.2.2) fuel (0,(q0:Int),(List.replicate (Int.toNat<|w64<|1 + (Int.tmod (w64 a1) Ac)) ([]:List Int)))) λe=> ∃ (q:Nat) (f:Nat->Int),e=((q:Int),tab N N<|dgF f)/\q<=q0 + N/\ ∀ r,r < N->1<=f r/\f r<=6:=by
 refine Ah4 (λi s=> ∃ (q:Nat) (f:Nat->Int),s=(((i:Nat):Int),(q:Int),part N i<|dgF f)/\i<=N/\q<=q0 + i/\ ∀ r,r < i->1<=f r/\f r<=6) N ⟨q0,λ_=>0,by rw [hN,Int.toNat_natCast,Av4 N<|dgF λ_=>0];rfl,AOq,AOq,λr hr=>by omega⟩ AOq λi s hi hI=>?_;obtain ⟨q,f,rfl,hiN,hq,Ad⟩:=hI;unfold Amn;dsimp only;rw [List.length_replicate,hN,Int.toNat_natCast];refine Ag9 (λh=>Ah8 AOq ?_) λh=>AOt ?_
 ·have hi':i < N:=by omega
  refine Ahj (Avp hi') rfl ?_;rw [Aja,Ama N (0:Int),At1];refine Ahj (Arl AOq hi') rfl ?_;rw [Ai2];refine AOy (Q:=λe:Int × Int=>0<=e.1/\e.1 < 6/\ ∃ p:Nat,e.2=(p:Int)/\p<=q + 1) (AOy (A3z (L:=L) (q:=q) AOq) λe he=>?_) λe he=>Ahj (Ahr hi') rfl (AOt ⟨AOq,?_⟩)
  ·exact AOt ⟨(A1m _ 6 AOs).1,(A1m _ 6 AOs).2,he⟩
  ·obtain ⟨h1,h2,p,h3,h4⟩:=he;refine ⟨p,λr=>if r=i then 1 + e.1 else f r,?_,AOq,AOq,λr hr=>?_⟩
   ·rw [Ajz (x:=(i:Int) + 1) AOq AOq,Ajz (x:=1 + e.1) AOq AOq,h3,Aja,Aja,Alw,At0 AOq];refine congrArg (λz=>(((i + 1:Nat):Int),(p:Int),z))<|Aiy λr hr=>?_;split
    ·refine Aiy λc hc=>?_;rw [Aiu];unfold dgF;dsimp only;split
     ·omega
     ·next h=>rw [Aiu,if_neg h]
    ·rfl
   grind
 ·obtain rfl:i=N:=by omega
  exact ⟨q,f,by rw [Av3],AOq,Ad⟩
theorem BQf {L:List Int} (hN:w64 (1 + (Int.tmod (w64 a1) Ac))=(N:Int)) (Af:N<=8) (Ag:q0<=1000) (hf:100 < fuel):
 Ok (iter (λs=>Al5 fuel a1 L Ac s.1 s.2.1 s.2.2) fuel (0,(q0:Int),(List.replicate (Int.toNat<|w64<|1 + (Int.tmod (w64 a1) Ac)) ([]:List Int)))) λe=> ∃ (q:Nat) (f:Nat->Int),e=((q:Int),tab N N<|dgF f)/\q<=q0 + N/\ ∀ r,r < N->1<=f r/\f r<=9:=by
 refine Ah4 (λi s=> ∃ (q:Nat) (f:Nat->Int),s=(((i:Nat):Int),(q:Int),part N i<|dgF f)/\i<=N/\q<=q0 + i/\ ∀ r,r < i->1<=f r/\f r<=9) N ⟨q0,λ_=>0,by rw [hN,Int.toNat_natCast,Av4 N<|dgF λ_=>0];rfl,AOq,AOq,λr hr=>by omega⟩ AOq λi s hi hI=>?_;obtain ⟨q,f,rfl,hiN,hq,Ad⟩:=hI;unfold Al5;dsimp only;rw [List.length_replicate,hN,Int.toNat_natCast];refine Ag9 (λh=>Ah8 AOq ?_) λh=>AOt ?_
 ·have hi':i < N:=by omega
  refine Ahj (Avp hi') rfl ?_;rw [Aja,Ama N (0:Int),At1];refine Ahj (Arl AOq hi') rfl ?_;rw [Ai2];refine AOy (Q:=λe:Int × Int=>0<=e.1/\e.1 < 9/\ ∃ p:Nat,e.2=(p:Int)/\p<=q + 1) (AOy (A3z (L:=L) (q:=q) AOq) λe he=>?_) λe he=>Ahj (Ahr hi') rfl (AOt ⟨AOq,?_⟩)
  ·exact AOt ⟨(A1m _ 9 AOs).1,(A1m _ 9 AOs).2,he⟩
  ·obtain ⟨h1,h2,p,h3,h4⟩:=he;refine ⟨p,λr=>if r=i then 1 + e.1 else f r,?_,AOq,AOq,λr hr=>?_⟩
   ·rw [Ajz (x:=(i:Int) + 1) AOq AOq,Ajz (x:=1 + e.1) AOq AOq,h3,Aja,Aja,Alw,At0 AOq];refine congrArg (λz=>(((i + 1:Nat):Int),(p:Int),z))<|Aiy λr hr=>?_;split
    ·refine Aiy λc hc=>?_;rw [Aiu];unfold dgF;dsimp only;split
     ·omega
     ·next h=>rw [Aiu,if_neg h]
    ·rfl
   grind
 ·obtain rfl:i=N:=by omega
  exact ⟨q,f,by rw [Av3],AOq,Ad⟩
theorem BQg {L:List Int} (hN:w64 (1 + (Int.tmod (w64 a1) Ac))=(N:Int)) (Af:N<=8) (Ag:q0<=1000) (hf:100 < fuel):
 Ok (iter (λs=>Al6 fuel a1 L Ac s.1 s.2.1 s.2.2) fuel (0,(q0:Int),(List.replicate (Int.toNat<|w64<|1 + (Int.tmod (w64 a1) Ac)) ([]:List Int)))) λe=> ∃ (q:Nat) (f:Nat->Int),e=((q:Int),tab N N<|dgF f)/\q<=q0 + N/\ ∀ r,r < N->1<=f r/\f r<=1:=by
 refine Ah4 (λi s=> ∃ (q:Nat) (f:Nat->Int),s=(((i:Nat):Int),(q:Int),part N i<|dgF f)/\i<=N/\q<=q0 + i/\ ∀ r,r < i->1<=f r/\f r<=1) N ⟨q0,λ_=>0,by rw [hN,Int.toNat_natCast,Av4 N<|dgF λ_=>0];rfl,AOq,AOq,λr hr=>by omega⟩ AOq λi s hi hI=>?_;obtain ⟨q,f,rfl,hiN,hq,Ad⟩:=hI;unfold Al6;dsimp only;rw [List.length_replicate,hN,Int.toNat_natCast];refine Ag9 (λh=>Ah8 AOq ?_) λh=>AOt ?_
 ·have hi':i < N:=by omega
  refine Ahj (Avp hi') rfl ?_;rw [Aja,Ama N (0:Int),At1];refine Ahj (Arl AOq hi') rfl ?_;rw [Ai2];refine AOy (Q:=λe:Int × Int=>0<=e.1/\e.1 < 1/\ ∃ p:Nat,e.2=(p:Int)/\p<=q + 1) (AOy (A3z (L:=L) (q:=q) AOq) λe he=>?_) λe he=>Ahj (Ahr hi') rfl (AOt ⟨AOq,?_⟩)
  ·exact AOt ⟨(A1m _ 1 AOs).1,(A1m _ 1 AOs).2,he⟩
  ·obtain ⟨h1,h2,p,h3,h4⟩:=he;refine ⟨p,λr=>if r=i then 1 + e.1 else f r,?_,AOq,AOq,λr hr=>?_⟩
   ·rw [Ajz (x:=(i:Int) + 1) AOq AOq,Ajz (x:=1 + e.1) AOq AOq,h3,Aja,Aja,Alw,At0 AOq];refine congrArg (λz=>(((i + 1:Nat):Int),(p:Int),z))<|Aiy λr hr=>?_;split
    ·refine Aiy λc hc=>?_;rw [Aiu];unfold dgF;dsimp only;split
     ·omega
     ·next h=>rw [Aiu,if_neg h]
    ·rfl
   grind
 ·obtain rfl:i=N:=by omega
  exact ⟨q,f,by rw [Av3],AOq,Ad⟩
theorem BQh {L:List Int} (hN:w64 (1 + (Int.tmod (w64 a1) Ac))=(N:Int)) (Af:N<=8) (Ag:q0<=1000) (hf:100 < fuel):
 Ok (iter (λs=>Al7 fuel a1 L Ac s.1 s.2.1 s.2.2) fuel (0,(q0:Int),(List.replicate (Int.toNat<|w64<|1 + (Int.tmod (w64 a1) Ac)) ([]:List Int)))) λe=> ∃ (q:Nat) (f:Nat->Int),e=((q:Int),tab N N<|dgF f)/\q<=q0 + N/\ ∀ r,r < N->1<=f r/\f r<=2:=by
 refine Ah4 (λi s=> ∃ (q:Nat) (f:Nat->Int),s=(((i:Nat):Int),(q:Int),part N i<|dgF f)/\i<=N/\q<=q0 + i/\ ∀ r,r < i->1<=f r/\f r<=2) N ⟨q0,λ_=>0,by rw [hN,Int.toNat_natCast,Av4 N<|dgF λ_=>0];rfl,AOq,AOq,λr hr=>by omega⟩ AOq λi s hi hI=>?_;obtain ⟨q,f,rfl,hiN,hq,Ad⟩:=hI;unfold Al7;dsimp only;rw [List.length_replicate,hN,Int.toNat_natCast];refine Ag9 (λh=>Ah8 AOq ?_) λh=>AOt ?_
 ·have hi':i < N:=by omega
  refine Ahj (Avp hi') rfl ?_;rw [Aja,Ama N (0:Int),At1];refine Ahj (Arl AOq hi') rfl ?_;rw [Ai2];refine AOy (Q:=λe:Int × Int=>0<=e.1/\e.1 < 2/\ ∃ p:Nat,e.2=(p:Int)/\p<=q + 1) (AOy (A3z (L:=L) (q:=q) AOq) λe he=>?_) λe he=>Ahj (Ahr hi') rfl (AOt ⟨AOq,?_⟩)
  ·exact AOt ⟨(A1m _ 2 AOs).1,(A1m _ 2 AOs).2,he⟩
  ·obtain ⟨h1,h2,p,h3,h4⟩:=he;refine ⟨p,λr=>if r=i then 1 + e.1 else f r,?_,AOq,AOq,λr hr=>?_⟩
   ·rw [Ajz (x:=(i:Int) + 1) AOq AOq,Ajz (x:=1 + e.1) AOq AOq,h3,Aja,Aja,Alw,At0 AOq];refine congrArg (λz=>(((i + 1:Nat):Int),(p:Int),z))<|Aiy λr hr=>?_;split
    ·refine Aiy λc hc=>?_;rw [Aiu];unfold dgF;dsimp only;split
     ·omega
     ·next h=>rw [Aiu,if_neg h]
    ·rfl
   grind
 ·obtain rfl:i=N:=by omega
  exact ⟨q,f,by rw [Av3],AOq,Ad⟩
theorem BQi {L:List Int} {F0:Ahe} (Ag:N<=8) (Ah:q0<=1000) (Ad:∀ i j,i < N->j < N->(F0 i j).natAbs<=9) (hf:100 < fuel):
 Ok (iter (λs=>Amo fuel L (tab N N F0) s.1 s.2.1 s.2.2) fuel (0,(q0:Int),tab N N F0)) λe=> ∃ (q:Nat) (F:Ahe),e=((q:Int),tab N N F)/\q<=q0 + 8 * N/\ ∀ i j,i < N->j < N->(F i j).natAbs<=9:=by
 refine Ah4 (λi s=> ∃ (q:Nat) (F:Ahe),s=(((i:Nat):Int),(q:Int),tab N N F)/\i<=N/\q<=q0 + 8 * i/\ ∀ i j,i < N->j < N->(F i j).natAbs<=9) N ⟨q0,F0,rfl,AOq,AOq,Ad⟩ AOq λi s hi hI=>?_;obtain ⟨q,F,rfl,hiN,hq,hF⟩:=hI;unfold Amo;dsimp only;rw [Ahv];refine Ag9 (λh=>?_) λh=>AOt ⟨q,F,rfl,AOq,hF⟩;have hi':i < N:=by omega
 refine AOy (Ah4 (λj s=> ∃ (p:Nat) (F:Ahe),s=(((j:Nat):Int),(p:Int),tab N N F)/\j<=i/\p<=q + j/\ ∀ i j,i < N->j < N->(F i j).natAbs<=9) i (Q:=λe=> ∃ (p:Nat) (F:Ahe),e=((p:Int),tab N N F)/\p<=q + i/\ ∀ i j,i < N->j < N->(F i j).natAbs<=9) ⟨q,F,rfl,AOq,AOq,hF⟩ AOq λj s hj hJ=>?_) λe he=>?_
 ·obtain ⟨p,F,rfl,hji,hp,hF⟩:=hJ;unfold Ao0;dsimp only;refine Ag9 (λh=>?_) λh=>AOt ⟨p,F,rfl,AOq,hF⟩;have hj':j < i:=by omega
  refine Ahj (Ahw hi') rfl (AOy (A3z (L:=L) (q:=p) AOq) λe he=>Ahj (Ahr AOq) rfl ?_);obtain ⟨p2,h3,h4⟩:=he;rw [Aja,Aja,Alw,show (Aju N λc=>if c=j then Int.tmod e.1 3 else F i c)=(List.range N).map λc=>if c=j then Int.tmod e.1 3 else F i c from rfl,Ash];refine Ahj (Ahw AOq) rfl (Ahj (Ahw hi') rfl (Ahj (Ahr AOq) rfl (Ahj (Ahr hi') rfl (AOt ⟨AOq,p2,?_⟩))));generalize Af:(Ajc F i λc=>if c=j then Int.tmod e.1 3 else F i c)=F1
  have hv:(Int.tmod e.1 3).natAbs<=9:=by
   grind
  have hF1b:∀ i j,i < N->j < N->(F1 i j).natAbs<=9:=λa b ha hb=>by
   subst Af
   rw [Aiu]
   split
   ·split
    ·exact hv
    grind
   grind
  refine ⟨Ajc F1 j λc=>if c=i then F1 i j else F1 j c,?_,AOq,AOq,λa b ha hb=>?_⟩
  ·rw [wk AOq,h3,Aja,Aja,Alw,show (Aju N λc=>if c=i then F1 i j else F1 j c)=(List.range N).map λc=>if c=i then F1 i j else F1 j c from rfl,Ash];rfl
  ·rw [Aiu];split
   ·split
    ·grind
    grind
   grind
 ·obtain ⟨p,F,rfl,hp,hF⟩:=he;exact AOt ⟨AOq,p,F,by rw [wk AOq];rfl,AOq,AOq,hF⟩
theorem BFs {b:Bool} (Ag:1<=N) (Ah:N<=8) (hf:100 < fuel):Ok (Anq fuel (N:Int) b) λe=> ∃ F,e=tab N N F/\ ∀ i j,i < N->j < N->(F i j).natAbs<=2:=by
 unfold Anq;refine Ah8 AOq ?_;rw [Int.toNat_natCast];refine AOy (Ah4 (λi s=> ∃ G:Ahe,s=(((i:Nat):Int),part N i G)/\i<=N/\ ∀ r c,(G r c).natAbs<=2) N (Q:=λe=> ∃ F,e=tab N N F/\ ∀ i j,i < N->j < N->(F i j).natAbs<=2) ⟨λ_ _=>0,by rw [Av4 N λ_ _=>0];rfl,AOq,λ_ _=>Nat.zero_le _⟩ AOq λi s hi hI=>?_) λe he=>AOt he;obtain ⟨G,rfl,hiN,hG⟩:=hI;unfold Aso;dsimp only;rw [List.length_replicate,Int.toNat_natCast];refine Ag9 (λh=>Ah8 AOq ?_) λh=>AOt ?_
 ·have hi':i < N:=by omega
  refine Ahj (Avp hi') rfl ?_;rw [Aja,Ama N (0:Int),At1];refine Ahj (Arl AOq hi') rfl ?_;rw [Ai2];refine Ahj (Ahr hi') rfl ?_;rw [Aja,Aja,Alw,At0 AOq]
  have Ab:∀ r c,(Ajc (Ajc G i λx=>0) i (λc=>if c=i then 2 else 0) r c).natAbs<=2:=λr c=>by
   rw [Aiu]
   split
   ·split <;> decide
   ·rw [Aiu]
    grind
  generalize (Ajc (Ajc G i λx=>0) i λc=>if c=i then 2 else 0)=G1 at Ab;have wi:w64 ((i:Int) + 1)=((i + 1:Nat):Int):=by rw [wk AOq];omega
  refine AOy (Q:=λk=>k=(i:Int) - 1∨k=(i:Int) - 2) ?_ λk hk=>?_
  ·have w1:w64 ((i:Int) - 1)=(i:Int) - 1:=wk AOq;have w2:w64 ((i:Int) - 2)=(i:Int) - 2:=wk AOq;rw [w1,w2];exact Ag9 (λ_=>Ag9 (λ_=>Ag9 (λ_=>AOt<|.inr rfl) λ_=>AOt<|.inl rfl) λ_=>AOt<|.inl rfl) λ_=>AOt<|.inl rfl
  ·refine Ag9 (λh=>?_) λh=>AOt ⟨AOq,G1,by rw [wi],AOq,Ab⟩;obtain ⟨k,rfl⟩:∃ q:Nat,k=q:=⟨k.toNat,AOq⟩;have hki:k < i:=by omega
   refine Ahj (Arl AOq hi') rfl (Ahj (Arl AOq AOq) rfl (Ahj (Ahr AOq) rfl ?_));rw [Aja,Aja,Alw,At0 AOq]
   have Af:∀ r c,(Ajc G1 i (λc=>if c=k then -1 else G1 i c) r c).natAbs<=2:=λr c=>by
    rw [Aiu]
    grind
   generalize (Ajc G1 i λc=>if c=k then -1 else G1 i c)=G2 at Af;refine Ahj (Arl AOq AOq) rfl (Ahj (Ahr hi') rfl (AOt ⟨AOq,Ajc G2 k λc=>if c=i then -1 else G2 k c,?_,AOq,λr c=>?_⟩))
   ·rw [wi,Aja,Aja,Alw,At0 AOq]
   ·rw [Aiu];grind
 ·obtain rfl:i=N:=by omega
  exact ⟨G,Av3 _ _,λa b _ _=>hG a b⟩
theorem BCn {n B:Nat} (hB:B < 9223372036854775808) (h:∀ i j,i < n->j < n->(F i j).natAbs<=B):∀ z∈tab n n F,∀ x∈z,-9223372036854775808<=x/\x<=9223372036854775807:=λz hz x hx=>by
 obtain ⟨i,hi⟩:=List.getElem?_of_mem hz
 have hin:i < n:=by have:=(List.getElem?_eq_some_iff.1 hi).1;rwa [Ahv] at this
 rw [Ahw hin] at hi
 cases hi
 obtain ⟨j,hj⟩:=List.getElem?_of_mem hx
 have hjn:j < n:=by have:=(List.getElem?_eq_some_iff.1 hj).1;rwa [Ah0] at this
 rw [Ahr hjn] at hj
 grind
theorem BNl {n:Nat} (hn:1<=n) (Aa:n<=16):okM (tab n n F)=true:=by
 have hc:Au8 (tab n n F)=n:=BH9 hn;unfold okM;rw [decide_eq_true_iff,Ahv,hc];exact ⟨hn,Aa,λz hz=>by rw [A11 z hz];omega⟩
theorem BD0 {n:Nat} (hn:1<=n) (Aa:n<=16) (h:∀ i j,i < n->j < n->(F i j).natAbs<=9223372036854775807) (hf:17 < fuel):Ak9 fuel (tab n n F)=some (tab n n F):=by
 rw [BOv (BCn AOs h) hf,if_pos<|BNl hn Aa]
theorem BQj {n:Nat} (Ab:1<=n) (hn:n<=8) (hb:∀ i j,i < n->j < n->(F i j).natAbs<=1000000) (hf:100 < fuel):Ok (Apw fuel<|tab n n F) λr=>r=true↔Atz n F/\Avj n F/\det n F<=10000:=by
 have Ac:∀ i j,i < n->j < n->(F i j).natAbs<=mN n:=λi j hi hj=>Nat.le_trans (hb i j hi hj)<|Nat.le_trans AOs<|A82 n;unfold Apw;refine AOy (Aid<|BD0 Ab AOq (λi j hi hj=>Nat.le_trans (hb i j hi hj) AOs) AOq) λx hx=>?_;subst hx;refine AOy (A3x Ab hn Ac hf) λv hv=>Ag9 (λh=>?_) λh=>AOt<|Iff.intro (λh2=>nomatch h2) λh2=>absurd (hv.2 ⟨h2.1,h2.2.1⟩) h;have h1:=hv.1 h;refine AOy (Aid<|A4n hn (Nat.le_refl _) Ac AOq) λd hd=>AOy (Q:=(· =10000)) ⟨10000,if_pos AOq,rfl⟩ λt ht=>AOy (Aid (a:=Az8 d t) rfl) λc hc=>AOt ?_;subst hd;subst ht;subst hc;rw [decide_eq_true_iff,BAh];grind
theorem BQk {n:Nat} (hn:n<=8) (h:∀ r,r < n->1<=f r/\f r<=2):Atz n (dgF f)/\Avj n (dgF f)/\det n (dgF f)<=10000:=by
 have hd:∀ k,k<=n->det k (dgF f)=Aoj f k:=λk hk=>by
  rw [A0b (F:=dgF f) (λc i hc hci hi=>by unfold dgF;omega)]
  exact A5u λi _=>by unfold dgF;rw [if_pos rfl]
 have hb:∀ k,k<=n->0 < Aoj f k/\Aoj f k<=2 ^ k:=λk=>by
  induction k with
  | zero=>intro _;simp [Aoj]
  | succ k ih=>
    intro hk
    have h1:=ih AOq
    have h2:=h k AOq
    simp only [Aoj]
    refine ⟨Int.mul_pos h1.1 AOq,?_⟩
    rw [Int.pow_succ]
    exact Int.mul_le_mul h1.2 h2.2 AOq<|Int.le_of_lt<|A2k k
 refine ⟨λi j hi hj=>?_,λk hk=>by grind,?_⟩
 ·unfold dgF;grind
 ·rw [hd n<|Nat.le_refl n];have:=(hb n<|Nat.le_refl n).2;have h2:=A20 hn;omega
structure BR9 (n:Nat) (A:Ahe):Prop where
 n1:1<=n
 n8:n<=8
 sym:Atz n A
 pos:Avj n A
 bd:∀ i j,i < n->j < n->(A i j).natAbs<=9
 dt:det n A<=10000
theorem BFt {n m:Nat} (h:∀ r,r < n->1<=f r/\f r<=(m:Int)):∀ i j,i < n->j < n->(dgF f i j).natAbs<=m:=λi j hi hj=>by
 unfold dgF
 grind
theorem BQl {L L2:List Int} (h1:0<=a1/\a1 < 256) (hm:1<=most/\most<=8) (hf:100 < fuel):Ok (Alx fuel a1 a2 L L2 most) λr=> ∃ n A,r=tab n n A/\BR9 n A/\(n:Int)=1 + Int.tmod a1 most:=by
 have t1:=Int.emod_nonneg a1 (show most≠0 by omega);have t2:=Int.emod_lt_of_pos a1 (show 0 < most by omega);have t3:Int.tmod a1 most=a1 % most:=Int.tmod_eq_emod_of_nonneg h1.1
 have hN:w64 (1 + Int.tmod (w64 a1) most)=((1 + a1 % most).toNat:Int):=by
  rw [Ajz (x:=a1) AOq AOq,t3,wk AOq];omega
 generalize hNN:(1 + a1 % most).toNat=N at hN;have Ad:1<=N:=by omega
 have Ab:N<=8:=by omega
 unfold Alx;refine Ah8 AOq<|AOy (Q:=λe=> ∃ (q:Nat) (F:Ahe),e=(tab N N F,(q:Int))/\q<=200/\ ∀ i j,i < N->j < N->(F i j).natAbs<=9) (AOy (Q:=λ_=>True) ?_ λk _=>Ag9 (λ_=>?_) λ_=>Ag9 (λ_=>?_) λ_=>Ag9 (λ_=>?_) λ_=>Ag9 (λ_=>?_) λ_=>?_) λe he=>?_
 ·exact Ag9 (λ_=>AOt trivial) λ_=>Ag9 (λ_=>AOt trivial) λ_=>Ag9 (λ_=>AOt trivial) λ_=>AOt trivial
 ·refine AOy (Q:=λe=> ∃ (q:Nat) (F:Ahe),e=(tab N N F,(q:Int))/\q<=200/\ ∀ i j,i < N->j < N->(F i j).natAbs<=9) (AOy (Q:=λe=> ∃ (q:Nat) (f:Nat->Int),e=(tab N N<|dgF f,(q:Int))/\q<=8/\ ∀ r,r < N->1<=f r/\f r<=6) (Ah8 (by rw [hN];omega)<|AOy (BR8 (q0:=0) (L:=L) hN Ab AOq hf) λe he=>AOt ?_) λe he=>?_) λe he=>AOt he
  ·obtain ⟨q,f,rfl,h2,h3⟩:=he;grind
  ·obtain ⟨q,f,rfl,h2,h3⟩:=he;refine AOy (BQi (L:=L) (q0:=q) Ab AOq (λi j hi hj=>Nat.le_trans (BFt (m:=6) h3 i j hi hj) AOs) hf) λe he=>AOt ?_;obtain ⟨q,F,rfl,h4,h5⟩:=he;grind
 ·rw [hN];refine AOy (BFs Ad Ab hf) λF hF=>?_;obtain ⟨F,rfl,hF⟩:=hF;refine Ahj (n:=0) (Ahw AOq) rfl (Ahj (n:=0) (Ahr AOq) rfl (AOy (Q:=λe:Int × Int=>0<=e.1/\e.1 < 3/\ ∃ p:Nat,e.2=(p:Int)/\p<=0 + 1) (AOy (A3z (L:=L) (q:=0) AOq) λe he=>AOt ⟨(A1m _ 3 AOs).1,(A1m _ 3 AOs).2,he⟩) λe he=>AOt ?_));obtain ⟨c1,c2,p,c3,c4⟩:=he;have c5:=hF 0 0 AOq AOq;refine ⟨p,Ajc F 0 λc=>if c=0 then F 0 0 + e.1 else F 0 c,?_,AOq,λi j hi hj=>?_⟩
  ·rw [c3,wk AOq];refine congrArg (λz=>(z,(p:Int))) ?_;show (tab N N F).set 0 ((Aju N<|F 0).set 0 (F 0 0 + e.1))=_;rw [Alw];exact Ash
  ·rw [Aiu];split
   ·grind
   grind
 ·rw [hN];refine AOy (BFs Ad Ab hf) λF hF=>?_;obtain ⟨F,rfl,hF⟩:=hF;have w1:w64 ((N:Int) - 1)=((N - 1:Nat):Int):=by rw [wk AOq];omega
  rw [w1];refine Ahj (Ahw AOq) rfl (Ahj (Ahr AOq) rfl (AOy (Q:=λe:Int × Int=>0<=e.1/\e.1 < 2/\ ∃ p:Nat,e.2=(p:Int)/\p<=0 + 1) (AOy (A3z (L:=L) (q:=0) AOq) λe he=>AOt ⟨(A1m _ 2 AOs).1,(A1m _ 2 AOs).2,he⟩) λe he=>AOt ?_));obtain ⟨c1,c2,p,c3,c4⟩:=he;have c5:=hF (N - 1) (N - 1) AOq AOq;refine ⟨p,Ajc F (N - 1) λc=>if c=N - 1 then F (N - 1) (N - 1) + e.1 else F (N - 1) c,?_,AOq,λi j hi hj=>?_⟩
  ·rw [c3,wk AOq,Aja,Aja];refine congrArg (λz=>(z,(p:Int))) ?_;rw [Alw];exact Ash
  ·rw [Aiu];split
   ·split
    ·omega
    grind
   grind
 ·refine AOy (Q:=λe=> ∃ (q:Nat) (F:Ahe),e=(tab N N F,(q:Int))/\q<=200/\ ∀ i j,i < N->j < N->(F i j).natAbs<=9) (Ah8 (by rw [hN];omega)<|AOy (BQf (q0:=0) (L:=L) hN Ab AOq hf) λe he=>AOt ?_) λe he=>AOt he;obtain ⟨q,f,rfl,h2,h3⟩:=he;exact ⟨q,dgF f,rfl,AOq,λi j hi hj=>BFt (m:=9) h3 i j hi hj⟩
 ·refine AOy (Q:=λe=> ∃ (q:Nat) (F:Ahe),e=(tab N N F,(q:Int))/\q<=200/\ ∀ i j,i < N->j < N->(F i j).natAbs<=9) (Ah8 (by rw [hN];omega)<|AOy (BQg (q0:=0) (L:=L) hN Ab AOq hf) λe he=>AOt ?_) λe he=>AOt he;obtain ⟨q,f,rfl,h2,h3⟩:=he;exact ⟨q,dgF f,rfl,AOq,λi j hi hj=>Nat.le_trans (BFt (m:=1) h3 i j hi hj) AOs⟩
 ·obtain ⟨q,F,rfl,h2,h3⟩:=he;dsimp only;refine AOy (BQj Ad Ab (λi j hi hj=>Nat.le_trans (h3 i j hi hj) AOs) hf) λb hb=>Ag9 (λhn=>?_) λhn=>AOt ?_
  ·refine AOy (Q:=λe=> ∃ f:Nat->Int,e.1=tab N N (dgF f)/\ ∀ r,r < N->1<=f r/\f r<=2) (Ah8 (by rw [hN];omega)<|AOy (BQh (q0:=q) (L:=L) hN Ab AOq hf) λe he=>AOt ?_) λe he=>AOt ?_
   ·grind
   ·obtain ⟨f,h4,h5⟩:=he;obtain ⟨d1,d2,d3⟩:=BQk Ab h5;exact ⟨N,dgF f,h4,⟨Ad,Ab,d1,d2,λi j hi hj=>Nat.le_trans (BFt (m:=2) h5 i j hi hj) AOs,d3⟩,by rw [t3];omega⟩
  ·have hg:Atz N F/\Avj N F/\det N F<=10000:=hb.1 (by simpa using hn);exact ⟨N,F,rfl,⟨Ad,Ab,hg.1,hg.2.1,h3,hg.2.2⟩,by rw [t3];omega⟩
theorem BQm {L L2:List Int} (h1:0<=a1/\a1 < 256) (hm:1<=most/\most<=8) (hf:Alj < fuel):Ok (Aly fuel a1 a2 L L2 most) λr=> ∃ n A,r=tab n n A/\1<=n/\(n:Int)<=most/\A72 n A/\ ∀ k,k < n->A k k<=3 * dmN n:=by
 have hf2:100 < fuel:=Nat.lt_of_le_of_lt AOs hf;unfold Aly;refine AOy (BQl h1 hm hf2) λg hg=>?_;obtain ⟨n,A,rfl,G,hn⟩:=hg;have t2:=Int.emod_lt_of_pos a1 (show 0 < most by omega);have t3:Int.tmod a1 most=a1 % most:=Int.tmod_eq_emod_of_nonneg h1.1
 let A0:Ahe:=λi j=>if i < n/\j < n then A i j else 0
 have hA0:∀ i j,i < n->j < n->A0 i j=A i j:=λi j hi hj=>if_pos ⟨hi,hj⟩;have e:tab n n A=tab n n A0:=Awq λi j hi hj=>(hA0 i j hi hj).symm;refine AOy (Aid<|BD0 G.n1 AOq (λi j hi hj=>Nat.le_trans (G.bd i j hi hj) AOs) AOq) λx hx=>?_;subst hx;rw [e];have hp:Avj n A0:=λk hk=>by rw [Ajd λi j hi hj=>hA0 i j AOq AOq];exact G.pos k hk
 have hs:Atz n A0:=λi j hi hj=>by rw [hA0 i j hi hj,hA0 j i hj hi];exact G.sym i j hi hj
 have hE:∀ i j,(A0 i j).natAbs<=9:=λi j=>by
  show (if i < n/\j < n then A i j else 0).natAbs<=9
  split
  ·next h=>exact G.bd i j h.1 h.2
  ·decide
 have hh:=BKl hs hp (B:=9) AOs (λi hi=>by grind)
 refine AOy (BHd G.n1 G.n8 hs hp (λi j=>Nat.le_trans (hE i j) AOs) (λk hk=>?_) (λk hk=>?_) ?_ hf) λr hr=>AOt ?_
 ·have h2:=hh k hk
  have h3:(9:Int) ^ k<=9 ^ 8:=by
   have:=Nat.pow_le_pow_right (show 0 < 9 by omega) (show k<=8 by omega);grind
  exact Int.le_trans h2<|Int.le_trans h3 (A5h n).1
 ·have:=hE k k;have:=A5h n;omega
 ·rw [Ajd hA0];exact G.dt
 ·obtain ⟨A',T,rfl,R,-,-,hd⟩:=hr;exact ⟨n,A',rfl,G.n1,AOq,R,hd⟩
theorem BKz (h1:LvF A k) (h2:SzF A (k + 1) k) (hp:0 < det (k + 1) A):det (k + 1) A * det (k + 1) A<=2 * (det k A * det (k + 2) A):=by
 unfold LvF at h1;unfold SzF at h2;have h3:(2 * Mn k A (k + 1) k) * (2 * Mn k A (k + 1) k)<=det (k + 1) A * det (k + 1) A:=A2j AOq h2.2;grind
theorem Arm {x y:Int} (h0:0<=x) (h:x<=y):∀ k:Nat,x ^ k<=y ^ k
 | 0=>by simp
 | k + 1=>by
   rw [Int.pow_succ,Int.pow_succ]
   exact Int.mul_le_mul (Arm h0 h k) h h0<|Int.le_trans (Int.pow_nonneg h0)<|Arm h0 h k
def tri:Nat->Nat
 | 0=>0
 | k + 1=>tri k + (k + 1)
theorem BD1 {n:Nat} (hp:Avj n A) (hs:Ayx A n) (hl:A0i A n):∀ k,k + 1<=n->det k A ^ (k + 1)<=det (k + 1) A ^ k * 2 ^ tri k:=by
 intro k;induction k with
 | zero=>intro _;simp [det,tri]
 | succ k ih=>
   intro hk;have ih:=ih AOq;have p0:=hp k AOq;have p1:=hp (k + 1) AOq;have p2:=hp (k + 2) AOq;have h1:=BKz (hl k AOq) (hs (k + 1) k AOq AOq) p1;generalize det k A=a at *
   generalize det (k + 1) A=b at *
   generalize det (k + 2) A=c at *
   have h2:(b * b) ^ (k + 1)<=(2 * (a * c)) ^ (k + 1):=Arm (Int.le_of_lt<|Int.mul_pos p1 p1) h1 _;rw [Int.mul_pow,Int.mul_pow,Int.mul_pow] at h2;have h3:a ^ (k + 1) * c ^ (k + 1)<=b ^ k * 2 ^ tri k * c ^ (k + 1):=Int.mul_le_mul_of_nonneg_right ih<|Int.le_of_lt<|Int.pow_pos p2;have h4:2 ^ (k + 1) * (a ^ (k + 1) * c ^ (k + 1))<=2 ^ (k + 1) * (b ^ k * 2 ^ tri k * c ^ (k + 1)):=Int.mul_le_mul_of_nonneg_left h3<|Int.le_of_lt<|A2k _;have h5:=Int.le_trans h2 h4;have e1:b ^ (k + 1) * b ^ (k + 1)=b ^ k * b ^ (k + 1 + 1):=by grind
   have e2:(2:Int) ^ (k + 1) * (b ^ k * 2 ^ tri k * c ^ (k + 1))=b ^ k * (c ^ (k + 1) * 2 ^ tri (k + 1)):=by
    have:(2:Int) ^ tri (k + 1)=2 ^ tri k * 2 ^ (k + 1):=by rw [<- Int.pow_add];rfl
    rw [this];grind
   rw [e1,e2] at h5;exact Int.le_of_mul_le_mul_left h5<|Int.pow_pos p1
def dU:Nat->Int
 | 8=>10000
 | 7=>35777
 | 6=>64000
 | 5=>57243
 | 4=>25600
 | _=>10000
theorem BSa (k:Nat):dU k<=64000:=by unfold dU;split <;> omega
theorem BO1 (k:Nat):10000<=dU k:=by unfold dU;split <;> omega
theorem BNm:∀ k,k < 8->dU (k + 1) ^ k * 2 ^ tri k < (dU k + 1) ^ (k + 1):=by decide
theorem BHe {n:Nat} (hn:n<=8) (hp:Avj n A) (hs:Ayx A n) (hl:A0i A n) (hd:det n A<=10000):∀ m k,k + m=n->det k A<=dU k:=by
 intro m
 induction m with
 | zero=>
    intro k hk;obtain rfl:k=n:=by omega
    exact Int.le_trans hd (BO1 _)
 | succ m ih=>
   intro k hk
   have h1:=ih (k + 1) AOq
   have h2:=BD1 hp hs hl k AOq
   have p0:=hp k AOq
   have p1:=hp (k + 1) AOq
   rcases Int.lt_or_le (dU k) (det k A) with h | h
   ·exfalso
    have h3:(dU k + 1) ^ (k + 1)<=det k A ^ (k + 1):=Arm (by have:=BO1 k;omega) AOq _
    have h4:det (k + 1) A ^ k * 2 ^ tri k<=dU (k + 1) ^ k * 2 ^ tri k:=Int.mul_le_mul_of_nonneg_right (Arm (Int.le_of_lt p1) h1 k)<|Int.le_of_lt<|A2k _
    have h5:=BNm k AOq
    omega
   ·exact h
theorem A4t {n:Nat} (hn:n<=8) (R:A72 n A) (hk:k<=n):0 < det k A/\det k A<=64000:=
 ⟨R.pos k hk,Int.le_trans (BHe hn R.pos R.sz R.lv R.dt (n - k) k AOq)<|BSa k⟩
theorem A4u {n:Nat} (hn:n<=8) (R:A72 n A) (hi:i < n) (hj:j < n): -192000<=A i j/\A i j<=192000:=
 BCl R.sym R.pos (λk hk=>BCc (Dm:=64000) hn R.sym R.pos hk (λk hk=>(A4t hn R hk).2) λl hl=>R.sz k l hl hk) hi hj
structure RB (n:Nat) (A:Ahe) (k:Nat):Prop where
 pos:∀ j,k < j->j<=n->0 < det j A
 lt:∀ j,k < j->j < n->det j A < 65536
 sz:∀ l i,k<=l->l < i->i < n->SzF A i l
 lv:∀ l,k<=l->l + 1 < n->LvF A l
 dt:det n A<=10000
theorem BQn {m:Nat} (h0:0 < det k A) (hF:∀ i j,i < m + 1->j < m + 1->F i j=Mn k A (k + i) (k + j)) (hi:i < m) (hj:j < m):Ay4 F (det k A) i j=Mn (k + 1) A (k + 1 + i) (k + 1 + j):=by
 unfold Ay4;rw [hF 0 0 AOq AOq,hF (i + 1) (j + 1) AOq AOq,hF (i + 1) 0 AOq AOq,hF 0 (j + 1) AOq AOq,Nat.add_zero,A2x AOq,Int.mul_tdiv_cancel_left _ AOq];grind
theorem BCo {n:Nat}:∀ (m k:Nat) (F:Ahe),k + m=n->1<=m->0 < det k A->(∀ i j,i < m->j < m->F i j=Mn k A (k + i) (k + j))->(Axv m F (det k A)=true↔RB n A k):=by
 intro m
 induction m with
 | zero=>omega
 | succ m ih=>
   intro k F hk _ h0 hF
   have Ad:F 0 0=det (k + 1) A:=by rw [hF 0 0 AOq AOq];exact Asb k A
   cases m with
   | zero=>
     obtain rfl:k + 1=n:=hk
     show decide (0 < F 0 0/\F 0 0<=10000)=true↔_
     rw [decide_eq_true_iff,Ad]
     exact ⟨λh=>⟨λj h1 h2=>by grind,λj h1 h2=>by omega,λl i h1 h2 h3=>by omega,λl h1 h2=>by omega,h.2⟩,λh=>⟨h.pos (k + 1) AOq<|Nat.le_refl _,h.dt⟩⟩
   | succ m=>
     have hN:∀ i j,i < m + 1->j < m + 1->Ay4 F (det k A) i j=Mn (k + 1) A (k + 1 + i) (k + 1 + j):=λi j hi hj=>BQn h0 hF hi hj
     have hS:Axu (m + 1 + 1) F↔(0 < det (k + 1) A/\det (k + 1) A < 65536)/\ ∀ i,k < i->i < n->SzF A i k:=by
      unfold Axu
      rw [Ad]
      refine and_congr_right λ_=>⟨λh i h1 h2=>?_,λh i h1 h2=>?_⟩
      ·have h3:=h (i - k) AOq AOq
       rw [hF (i - k) 0 AOq AOq,show k + (i - k)=i by omega] at h3
       unfold SzF
       grind
      ·have h3:=h (k + i) AOq AOq
       unfold SzF at h3
       grind
     have hL:A27 F (det k A)↔LvF A k:=by
      unfold A27 LvF
      rw [Ad,hN 0 0 AOq AOq,Nat.add_zero,Asb (k + 1) A,hF 1 0 AOq AOq,Nat.add_zero]
      grind
     show (decide (Axu (m + 1 + 1) F) && (decide (A27 F<|det k A) && Axv (m + 1) (Ay4 F<|det k A) (F 0 0)))=true↔_
     rw [Bool.and_eq_true,Bool.and_eq_true,decide_eq_true_iff,decide_eq_true_iff,hS,hL,Ad]
     constructor
     ·rintro ⟨⟨⟨h1,h2⟩,h3⟩,h4,h5⟩
      have R:=(ih (k + 1) _ AOq AOq h1 hN).1 h5
      refine ⟨λj a b=>?_,λj a b=>?_,λl i a b c=>?_,λl a b=>?_,R.dt⟩
      ·by_cases e:j=k + 1
       ·grind
       ·exact R.pos j AOq b
      ·by_cases e:j=k + 1
       ·grind
       ·exact R.lt j AOq b
      ·by_cases e:l=k
       ·grind
       ·exact R.sz l i AOq b c
      ·by_cases e:l=k
       ·grind
       ·exact R.lv l AOq b
     ·intro R
      have h1:=R.pos (k + 1) AOq AOq
      exact ⟨⟨⟨h1,R.lt (k + 1) AOq AOq⟩,λi a b=>R.sz k i (Nat.le_refl k) a b⟩,R.lv k (Nat.le_refl k) AOq,(ih (k + 1) _ AOq AOq h1 hN).2 ⟨λj a b=>R.pos j AOq b,λj a b=>R.lt j AOq b,λl i a b c=>R.sz l i AOq b c,λl a b=>R.lv l AOq b,R.dt⟩⟩
def A5i (M:List (List Int)):Prop:=(1<=M.length/\M.length<=8)/\(∀ z∈M,z.length=M.length)/\A72 M.length (ent M)
theorem A5j (M:List (List Int)):isRed M=true↔A5i M:=by
 unfold isRed;rw [Bool.and_eq_true];constructor
 ·rintro ⟨h1,h2⟩;have S:=A7r h1;have R:=(BCo (A:=ent M) (n:=M.length) M.length 0 (ent M) AOq S.1.1 (by simp [det]) λi j _ _=>by rw [Awo,Nat.zero_add,Nat.zero_add]).1 (by simpa [det] using h2);refine ⟨S.1,S.2.1,λi j hi hj=>(S.2.2 i j hi hj).1,λk hk=>?_,λr l h3 h4=>R.sz l r (Nat.zero_le _) h3 h4,λl hl=>R.lv l (Nat.zero_le _) hl,R.dt⟩;rcases Nat.eq_zero_or_pos k with h | h
  ·subst h;simp [det]
  ·exact R.pos k h hk
 ·rintro ⟨h1,h2,R⟩;refine ⟨(Ao1 ⟨h1,h2,λi j hi hj=>⟨R.sym i j hi hj,?_,?_⟩⟩).symm,?_⟩
  ·have:=A4u h1.2 R hi hj;omega
  ·have:=A4u h1.2 R hi hj;omega
  ·have h3:=(BCo (A:=ent M) (n:=M.length) M.length 0 (ent M) AOq h1.1 (by simp [det]) λi j _ _=>by rw [Awo,Nat.zero_add,Nat.zero_add]).2 ⟨λj _ hj=>R.pos j hj,λj _ hj=>by have:=A4t h1.2 R (k:=j) AOq;omega,λl i _ a b=>R.sz i l a b,λl _ hl=>R.lv l hl,R.dt⟩;simpa [det] using h3
theorem BD2 {c:Nat} (hr:1<=r) (Ad:r<=16) (hc:1<=c) (Ae:c<=16) (hf:100 < fuel):Aje fuel (tab r c F)=some ((r:Int),(c:Int),true):=by
 apply ok_eq;unfold Aje;rw [Ahv];refine AOy (Q:=λex=>match ex with | .inl _=>False | .inr _=>True) (Ag9 (λh=>by omega) λh=>Ag9 (λh2=>by omega) λh2=>AOt trivial) λex hex=>?_
 cases ex with
 | inl e=>exact hex.elim
 | inr u=>
   dsimp only
   refine AOy (Ah4 (λi (s:Int)=>s=i) r (Q:=λex=>match ex with | .inl _=>False | .inr _=>True) rfl AOq λi s hi hI=>?_) λex hex=>?_
   ·subst hI
    unfold Am5
    rw [Ahv]
    refine Ag9 (λh=>Ahj (Ahw AOq) rfl ?_) λh=>AOt trivial
    rw [Ah0]
    refine Ag9 (λh2=>by omega) λh2=>Ag9 (λh3=>by omega) λh3=>Ahj (n:=0) (Ahw AOq) rfl (Ag9 (λh4=>?_) λh4=>AOt ⟨AOq,wk AOq⟩)
    rw [Ah0] at h4;omega
   ·cases ex with
    | inl e=>exact hex.elim
    | inr u=>exact Ahj (n:=0) (Ahw AOq) rfl (AOt<|by rw [Ah0])
theorem BHf {n:Nat} (Ah:1<=n) (hn:n<=8) (hb:∀ i j,i < n->j < n->(F i j).natAbs<=mN n) (hf:100 < fuel):Ok (Ans fuel<|tab n n F) λr=>r=true↔Ayx F n/\A0i F n:=by
 unfold Ans;refine AOy (Aid<|A5f Ah hn hb hf) λx hx=>?_;subst hx;dsimp only;refine AOy (Ah4 (λi s=>s=((i:Nat):Int)/\i<=n/\Ayx F i/\A0i F i) n (Q:=λex=>match ex with | .inl e=>e=false/\¬ (Ayx F n/\A0i F n) | .inr _=>Ayx F n/\A0i F n) ⟨rfl,Nat.zero_le _,λr l h1 h2=>by omega,λr h=>by omega⟩ AOq λi s hi hI=>?_) λex hex=>?_
 ·obtain ⟨rfl,hin,hsz,hlv⟩:=hI;unfold Aqj;rw [Ahv];refine Ag9 (λh=>?_) λh=>AOt ?_
  ·have hi':i < n:=by omega
   refine AOy (Ah4 (λk s=>s=((k:Nat):Int)/\k<=i/\ ∀ l,l < k->SzF F i l) i (Q:=λex=>match ex with | .inl e=>e=false/\¬ (Ayx F n/\A0i F n) | .inr _=> ∀ l,l < i->SzF F i l) ⟨rfl,Nat.zero_le _,λl h1=>by omega⟩ AOq λk s hk hK=>?_) λex hex=>?_
   ·obtain ⟨rfl,hki,hz⟩:=hK;unfold Aqi;refine Ag9 (λh2=>?_) λh2=>AOt ?_
    ·have hki':k < i:=by omega
     refine AOy (Aid<|BFg hn hi' AOq hb hf) λb Ab=>?_;subst Ab;refine Ag9 (λh3=>AOt ⟨rfl,λh4=>?_⟩) λh3=>AOt ⟨AOq,by rw [wk AOq];omega,AOq,λl hl=>?_⟩
     ·have:=h4.1 i k hki' hi';rw [<- A6m] at this;grind
     ·have hgood:SzF F i k:=by rw [<- A6m];simpa using h3
      grind
    grind
   ·cases ex with
    | inl r=>exact AOt hex
    | inr e=>
      have hsz':Ayx F (i + 1):=λr l h1 h2=>by
       rcases Nat.lt_or_ge r i with h3 | h3
       ·exact hsz r l h1 h3
       grind
      dsimp only
      have nx:w64 ((i:Int) + 1)=((i + 1:Nat):Int):=by rw [wk AOq];omega
      refine Ag9 (λh4=>?_) λh4=>AOt ⟨AOq,nx,AOq,hsz',λr hr=>by omega⟩
      obtain ⟨j,rfl⟩:∃ j,i=j + 1:=⟨i - 1,AOq⟩
      refine AOy (BCh hn hi' hb hf) λb Ab=>?_
      refine Ag9 (λh5=>AOt ⟨rfl,λh6=>?_⟩) λh5=>AOt ⟨AOq,nx,AOq,hsz',λr hr=>?_⟩
      ·rw [Ab.2<|h6.2 j hi'] at h5;cases h5
      ·have hgood:LvF F j:=Ab.1 (by simpa using h5)
       rcases Nat.lt_or_ge r j with h6 | h6
       ·exact hlv r AOq
       grind
  grind
 ·cases ex with
  | inl r=>exact AOt (Iff.intro (λh=>by grind) λh=>absurd h hex.2)
  | inr u=>exact AOt ⟨λ_=>hex,λ_=>rfl⟩
def BQo (M:List (List Int)):Prop:= ∀ z∈M,∀ x∈z,-9223372036854775808<=x/\x<=9223372036854775807
theorem BD3 (hM:BQo M) (hf:100 < fuel):Ak6 fuel M=some (isRed M):=by
 have key:Ok (Ak6 fuel M) λr=>r=true↔A5i M:=by
  unfold Ak6
  refine AOy (Aid<|A5v hM AOq) λx hx=>?_
  subst hx
  by_cases hk:okM M=true
  ·rw [if_pos hk]
   dsimp only
   have Af:=hk
   unfold okM at Af
   rw [decide_eq_true_iff] at Af
   obtain ⟨a1,a2,a3⟩:=Af
   have hne:∃ z,M[0]? =some z:=⟨M[0],List.getElem?_eq_getElem AOq⟩
   obtain ⟨z,hz⟩:=hne
   have hc:Au8 M=z.length:=Aya hz
   have Aj:=a3 z<|List.mem_of_getElem? hz
   have hT:M=tab M.length (Au8 M) (ent M):=A41 λz hz=>(a3 z hz).2.2
   refine Ag9 (λ_=>?_) λh=>absurd rfl h
   by_cases hsq:Au8 M=M.length/\M.length<=8
   ·have Ai:M=tab M.length M.length (ent M):=by grind
    have hb:∀ i j,i < M.length->j < M.length->(ent M i j).natAbs<=mN M.length:=λi j hi hj=>by
     have hl:M[i].length=M.length:=by grind
     rw [BH8 hi AOq]
     have h1:=hM _ (List.getElem_mem hi) _<|List.getElem_mem (show j < M[i].length by omega)
     have h2:(9223372036854775808:Nat)<=mN M.length:=Nat.le_trans AOs<|A82 _
     omega
    have hR:A5i M↔A72 M.length (ent M):=⟨λh=>h.2.2,λh=>⟨⟨a1,hsq.2⟩,λz hz=>by grind,h⟩⟩
    rw [hR]
    generalize hF:ent M=F at *
    generalize hL:M.length=n at *
    rw [Ai]
    refine AOy (A3x a1 hsq.2 hb hf) λv hv=>Ag9 (λh=>?_) λh=>AOt ⟨λh2=>(nomatch h2),λh2=>absurd (hv.2 ⟨h2.sym,h2.pos⟩) h⟩
    have h1:=hv.1 h
    refine AOy (Aid<|BFk hsq.2 hb hf) λb Ad=>?_
    subst Ad
    refine Ag9 (λh2=>?_) λh2=>AOt ⟨λh3=>(nomatch h3),λh3=>absurd (decide_eq_true h3.dt) h2⟩
    refine AOy (BHf a1 hsq.2 hb hf) λb Ad=>AOt ⟨λh3=>?_,λh3=>Ad.2 ⟨h3.sz,h3.lv⟩⟩
    exact ⟨h1.1,h1.2,(Ad.1 h3).1,(Ad.1 h3).2,of_decide_eq_true h2⟩
   ·have hnr: ¬ A5i M:=λh=>hsq ⟨by rw [hc];exact h.2.1 z<|List.mem_of_getElem? hz,h.1.2⟩
    refine AOy (Q:=λv=>v=3) ?_ λv hv=>Ag9 (λh=>by omega) λ_=>AOt ⟨λh=>(nomatch h),λh=>absurd h hnr⟩
    unfold Ajr
    refine AOy (Q:=λe=>e.2=false∨(8:Int) < e.1) ?_ λe he=>?_
    ·unfold Ala
     rw [hT]
     refine AOy (Aid<|BD2 a1 a2 AOq AOq hf) λx hx=>?_
     subst hx
     dsimp only
     refine Ag9 (λh=>absurd h AOs) λ_=>Ag9 (λh=>AOt<|.inl rfl) λh=>AOt<|.inr ?_
     omega
    ·obtain ⟨e1,e2⟩:=e
     dsimp only at he ⊢
     refine Ag9 (λh=>AOt rfl) λh=>Ag9 (λ_=>AOt rfl) λh2=>?_
     grind
  ·rw [if_neg hk]
   refine Ag9 (λh=>(nomatch h)) λ_=>AOt ⟨λh=>(nomatch h),λh=>absurd ?_ hk⟩
   obtain ⟨h1,h2,_⟩:=h
   unfold okM
   rw [decide_eq_true_iff]
   have hc:Au8 M=M.length:=by rw [Aya<|List.getElem?_eq_getElem<|show 0 < M.length by omega];grind
   grind
 obtain ⟨r,h1,h2⟩:=key;rw [h1];congr 1;rw [<- A5j] at h2;grind
end Go.Proofs.YtkakafabeobahaaGreatDoor
namespace Go.Proofs.YtkakafabeobahaaGreatDoor
open Go Go.QF
open Go.ChangeShapes Go.WideShapes Go.ChangeAt Go.RowKit
set_option maxRecDepth 100000
theorem BHg:Tryz.prog.cellsOf 24=4:=by kernel_rfl
theorem BK0 {H:Type} {enc:TypeId × Value->H} {W:World} {r:Reach} {b0:Nat} {d:DataW H} {p:List MemPlace} (hv:Value.okWide Tryz.prog W r b0 24 v) (h:DataW.Trod enc Tryz.prog W 0 (λ_=>true) true 24 v d p):
 ∃ (g k:Int) (lv bv:Value) (Z Y:List Int),v= .agg #[.int .u8 g,.int .u8 k,lv,bv]/\SlC (cI .i8) W.heap lv Z/\SlC (cI .i8) W.heap bv Y/\(0<=g/\g < 256)/\(0<=k/\k < 256)/\(∀ z∈Z,-128<=z/\z<=127)/\ ∀ z∈Y,-128<=z/\z<=127:=by
 obtain ⟨cs,rfl,hsz⟩:=okWide_struct Tryz.underlying24 hv;rw [BHg] at hsz;obtain ⟨l⟩:=cs
 match l,hsz with
 | [c0,c1,c2,c3],_=>
   obtain ⟨fuel,hf⟩:=h;obtain ⟨y0,y1,y2,y3,n,_,_,h0,h1,h2,h3⟩:=Joins.trod_struct4 Tryz.underlying24 hf;simp [Value.cells,BIl,BIm] at h0 h1 h2 h3;obtain ⟨x0,e0,_,w0⟩:=DataW.trod_int Tryz.underlying5 h0;obtain ⟨x1,e1,_,w1⟩:=DataW.trod_int Tryz.underlying5 h1;simp at e0 e1;subst e0;subst e1;have b0:=wf_u8 w0;have b1:=wf_u8 w1;obtain ⟨Z,HZ,hZ⟩:=BIn h2;obtain ⟨Y,HY,hY⟩:=BIn h3;exact ⟨x0,x1,c2,c3,Z,Y,rfl,BKd HZ,BKd HY,AOq,AOq,hZ,hY⟩
end Go.Proofs.YtkakafabeobahaaGreatDoor
namespace Go.Proofs.YtkakafabeobahaaGreatDoor
open Go Go.QF
set_option maxRecDepth 100000
theorem BFu {n:Nat} (hn:n<=8) (R:A72 n A) (hk:k<=n) (hi:i < n) (hj:j < n):(Mn k A i j).natAbs<=12288000000:=by
 have h1:=A5c R.sym R.pos hk hi hj
 have b:∀ i,i < n->Mn k A i i<=12288000000:=λi hi=>by
  have h2:=BKk R.sym R.pos hi k hk
  have h3:=A4t hn R hk
  have h4:=A4u hn R hi hi
  have h5:det k A * A i i<=det k A * 192000:=Int.mul_le_mul_of_nonneg_left h4.2 AOq
  omega
 have p:=λi (hi:i < n)=>A5d R.sym R.pos hk hi;have h2:=Int.mul_le_mul (b i hi) (b j hj) (p j hj) AOq;have:=BCb (x:=Mn k A i j) (y:=12288000000) AOq<|Int.le_trans h1 h2;omega
theorem BQp {n:Nat} (Aq:1<=n) (hn:n<=8) (R:A72 n A) (hf:100 < fuel):Ao8 fuel (tab n n A)=some (det n A):=by
 apply ok_eq;unfold Ao8;rw [Ahv];refine Ah8 AOq ?_;rw [Int.toNat_natCast];refine AOy (Ah4 (λi s=>s=(((i:Nat):Int),part n i A)/\i<=n) n (Q:=(· =tab n n A)) ⟨by rw [Av4 n A];rfl,Nat.zero_le _⟩ AOq λi s hi hI=>?_) λe he=>?_
 ·obtain ⟨rfl,hin⟩:=hI;unfold Asz;dsimp only;rw [Ahv];refine Ag9 (λh=>Ahj (Ahw AOq) rfl (Ah8 AOq<|Ahj (Avp AOq) rfl ?_)) λh=>AOt ?_
  ·have hi':i < n:=by omega
   rw [Int.toNat_natCast,Aja,Ama n (0:Int),At1];refine Ahj (Arl AOq hi') rfl (Ah8 (by rw [Ah0,Ah0];omega)<|AOt ⟨hi',?_,AOq⟩);rw [wk AOq,Aja,At0 AOq,Auy,Av1];grind
  ·obtain rfl:i=n:=by omega
   exact Av3 _ _
 subst he;refine AOy (Q:=(· =1)) ⟨1,if_pos AOq,rfl⟩ λone h1=>?_;subst h1;refine AOy (Ah4 (λk s=> ∃ G,s=(false,((k:Int),tab n n G,det k A))/\k<=n/\ ∀ r c,k<=r->r < n->k<=c->c < n->G r c=Mn k A r c) n (Q:=λex=>match ex with | .inl e=>False | .inr (neg,last)=>neg=false/\last=det n A) ⟨A,rfl,Nat.zero_le _,λr c _ _ _ _=>(Awo A r c).symm⟩ AOq λk s hk hI=>?_) λex hex=>?_
 ·obtain ⟨G,rfl,hkn,hG⟩:=hI;unfold Asy;dsimp only;rw [Ahv];refine Ag9 (λh=>?_) λh=>AOt ⟨rfl,?_⟩
  ·have hk':k < n:=by omega
   have hGk:G k k=det (k + 1) A:=by rw [hG k k AOq hk' AOq hk',Asb]
   have hpos:0 < det (k + 1) A:=R.pos (k + 1) AOq;have hlast:=A4t hn R (k:=k) AOq;refine AOy (Q:=(· =(k:Int))) (AOy (Ah4 (λ_ s=>s=(k:Int)) 0 (Q:=(· =(k:Int))) rfl AOq λi s hi hI=>?_) λe he=>AOt he) λe he=>?_
   ·subst hI;unfold Asv;rw [Ahv];refine AOy (Q:=λex=>match ex with | .inl _=>False | .inr _=>True) (Ag9 (λh2=>Ahj (Ahw hk') rfl (Ahj (Ahr hk') rfl (AOy (Aid (a:=Anx<|G k k) rfl) λsg hsg=>Ag9 (λh3=>?_) λh3=>AOt trivial))) λh2=>absurd h h2) λex hex=>?_
    ·exfalso;rw [hsg] at h3;have:=(Ax6 _).1 h3;omega
    ·cases ex with
     | inl u=>exact hex.elim
     | inr u=>exact AOt rfl
   ·subst he;refine Ag9 (λh2=>by omega) λ_=>AOy (Q:=(· =(false,tab n n G))) (Ag9 (λh2=>absurd rfl h2) λ_=>AOt rfl) λr hr=>?_;subst hr;dsimp only;refine Ahj (Ahw hk') rfl (Ahj (Ahr hk') rfl ?_);rw [wk AOq]
    have hq:∀ r c,k < r->r < n->k < c->c < n->bQ k G (det k A) r c=Mn (k + 1) A r c:=λr c h1 h2 h3 h4=>by
     unfold bQ
     rw [hGk,hG r c AOq h2 AOq h4,hG r k AOq h2 AOq hk',hG k c AOq hk' AOq h4,<- Asb k A,A2x AOq,Int.mul_ediv_cancel_left _ AOq]
    have habs:∀ r c,k<=r->r < n->k<=c->c < n->(G r c).natAbs<=12288000000:=λr c h1 h2 h3 h4=>by rw [hG r c h1 h2 h3 h4];exact BFu hn R AOq h2 h4
    refine AOy (Ah4 (λi s=>s=(((k + 1 + i:Nat):Int),tab n n<|bF k G (det k A) (k + 1 + i)<|k + 1)/\k + 1 + i<=n) (n - (k + 1)) (Q:=(· =tab n n (bF k G (det k A) n<|k + 1))) ⟨by rw [Nat.add_zero,A7l];simp,AOq⟩ AOq λi s hi hI=>?_) λa3 Ag=>?_
    ·obtain ⟨rfl,hin⟩:=hI;unfold Asx;dsimp only;rw [Ahv];obtain ⟨q,hqe⟩:∃ q,k + 1 + i=q:=⟨_,rfl⟩;rw [hqe] at hin ⊢;refine Ag9 (λh3=>?_) λh3=>AOt ?_
     ·have hqn:q < n:=by omega
      rw [wk AOq];refine AOy (Ah4 (λj s=>s=(((k + 1 + j:Nat):Int),tab n n<|bF k G (det k A) q<|k + 1 + j)/\k + 1 + j<=n) (n - (k + 1)) (Q:=(· =tab n n (bF k G (det k A) q n))) ⟨Ah6,AOq⟩ AOq λj s hj hJ=>?_) λa4 Ah=>AOt ?_
      ·obtain ⟨rfl,hjn⟩:=hJ;unfold Asw;dsimp only;rw [Ahv];obtain ⟨c,hc⟩:∃ c,k + 1 + j=c:=⟨_,rfl⟩;rw [hc] at hjn ⊢;refine Ag9 (λh4=>?_) λh4=>AOt ?_
       ·have hcn:c < n:=by omega
        have a1:=habs k k AOq hk' AOq hk';have a2:=habs q c AOq hqn AOq hcn;have a3:=habs q k AOq hqn AOq hk';have a4:=habs k c AOq hk' AOq hcn;have m1:=Nat.mul_le_mul a1 a2;have m2:=Nat.mul_le_mul a3 a4;have hB:12288000000 * 12288000000 < Alj:=by decide
        refine Ahj (Ahw hqn) rfl (Ahj (Ahr hcn) rfl ?_);rw [BJ0];refine AOy (Aid (a:=G k k * G q c)<|if_pos AOq) λx1 Ak=>Ahj (Ahr hk') rfl (Ahj (Ahw hk') rfl (Ahj (Ahr hcn) rfl ?_));subst Ak;rw [BJz,A7m];refine AOy (Aid (a:=G q k * G k c)<|if_pos AOq) λx2 Am=>?_;subst Am;refine AOy (Aid (a:=G k k * G q c - G q k * G k c)<|if_pos ⟨by rw [Int.natAbs_mul];omega,by rw [Int.natAbs_mul];omega⟩) λx3 Ao=>?_;subst Ao
        have hnum:G k k * G q c - G q k * G k c=det k A * Mn (k + 1) A q c:=by
         rw [hGk,hG q c AOq hqn AOq hcn,hG q k AOq hqn AOq hk',hG k c AOq hk' AOq hcn,<- Asb k A,A2x AOq]
        have m3:(det k A * Mn (k + 1) A q c).natAbs<=64000 * 12288000000:=by
         rw [Int.natAbs_mul]
         exact Nat.mul_le_mul AOq<|BFu hn R AOq hqn hcn
        refine AOy (Q:=λx=>x.1=bQ k G (det k A) q c) ⟨_,if_pos ⟨by rw [hnum];omega,AOq,AOq⟩,rfl⟩ λx4 Ap=>AOt ⟨AOq,?_,AOq⟩;rw [Ap,wk AOq,A3v,BDp k G (det k A) AOq AOq];grind
       grind
      ·subst Ah;refine ⟨AOq,?_,AOq⟩;rw [wk AOq];congr 1
       ·omega
       ·refine A2o λr c hr hc=>?_;rw [BDo k n G (det k A) q hc,<- Nat.add_assoc,hqe]
     grind
    ·subst Ag;refine AOt ⟨hk',bF k G (det k A) n<|k + 1,?_,AOq,λr c h1 h2 h3 h4=>?_⟩
     ·rw [hGk];rfl
     ·have:bF k G (det k A) n (k + 1) r c=bQ k G (det k A) r c:=by unfold bF;omega
      grind
  grind
 ·match ex,hex with
  | .inl e,hex=>exact hex.elim
  | .inr (neg,last),hex=>
    obtain ⟨rfl,rfl⟩:=hex
    dsimp only
    exact Ag9 (λh=>nomatch h) λ_=>AOt rfl
theorem BCp {n:Nat} (hn:1<=n) (Ab:n<=16) (hf:100 < fuel):Ao7 fuel (tab n n F)=some ((n:Int),(n:Int),true)/\An6 fuel (tab n n F)=some ((n:Int),(n:Int),true):=by
 constructor <;>
 ·apply ok_eq;first | unfold Ao7 | unfold An6
  rw [Ahv];refine AOy (Q:=λex=>match ex with | .inl _=>False | .inr _=>True) (Ag9 (λh=>by omega) λh=>Ag9 (λh2=>by omega) λh2=>AOt trivial) λex hex=>?_
  cases ex with
  | inl e=>exact hex.elim
  | inr u=>
    dsimp only
    refine Ahj (n:=0) (Ahw AOq) rfl ?_
    rw [Ah0]
    refine AOy (Q:=λex=>match ex with | .inl _=>False | .inr _=>True) (Ag9 (λh=>by omega) λh=>Ag9 (λh2=>by omega) λh2=>AOt trivial) λex hex=>?_
    cases ex with
    | inl e=>exact hex.elim
    | inr u=>
      dsimp only
      refine AOy (Ah4 (λi (s:Int)=>s=i) n (Q:=λex=>match ex with | .inl _=>False | .inr _=>True) rfl AOq λi s hi hI=>?_) λex hex=>?_
      ·subst hI
       first | unfold Asu | unfold Aq5
       rw [Ahv]
       refine Ag9 (λh=>Ahj (Ahw AOq) rfl ?_) λh=>AOt trivial
       rw [Ah0,Ah0]
       exact Ag9 (λh2=>absurd rfl h2) λ_=>AOt ⟨AOq,wk AOq⟩
      ·cases ex with
       | inl e=>exact hex.elim
       | inr u=>exact AOt rfl
theorem BNn {n:Nat} (hn:1<=n) (Aa:n<=16) (hb:∀ i j,i < n->j < n->(F i j).natAbs<=9223372036854775807) (hf:100 < fuel):Arj fuel (tab n n F)=some (tab n n F,true):=by
 apply ok_eq;unfold Arj;refine AOy (Aid (BCp hn Aa hf).1) λx hx=>?_;subst hx;dsimp only;refine Ag9 (λh=>nomatch h) λ_=>AOy (Q:=(· =tab n n F)) (Ah8 AOq ?_) λe he=>AOt (by rw [he]);rw [Int.toNat_natCast];refine AOy (Ah4 (λi s=>s=(((i:Nat):Int),part n i F)/\i<=n) n (Q:=(· =tab n n F)) ⟨by rw [Av4 n F];rfl,Nat.zero_le _⟩ AOq λi s hi hI=>?_) λe he=>AOt he;obtain ⟨rfl,hin⟩:=hI;unfold Auq;dsimp only;rw [List.length_replicate,Int.toNat_natCast];refine Ag9 (λh=>Ah8 AOq<|Ahj (Avp AOq) rfl ?_) λh=>AOt ?_
 ·have hi':i < n:=by omega
  rw [Aja,Ama n (0:Int),At1];refine Ahj (Arl AOq hi') rfl ?_;rw [Ai2];refine AOy (Ah4 (λj s=>s=(((j:Nat):Int),part n (i + 1)<|Ajc F i λc=>if c < j then F i c else 0)/\j<=n) n (Q:=(· =part n (i + 1) F)) ⟨?_,Nat.zero_le _⟩ AOq λj s hj hJ=>?_) λe he=>AOt ⟨hi',?_,AOq⟩
  ·grind
  ·obtain ⟨rfl,hjn⟩:=hJ;unfold Aup;dsimp only;rw [Ah0];refine Ag9 (λh=>?_) λh=>AOt ?_
   ·have hj':j < n:=by omega
    refine Ahj (Arl AOq hi') rfl ?_;rw [Ai2];have:=hb i j hi' hj';refine AOy (Q:=(· =F i j)) (Ahj (Ahw hi') rfl (Ahj (Ahr hj') rfl (AOy (Q:=(· =F i j)) ⟨_,if_pos AOq,rfl⟩ λx hx=>AOt hx))) λx hx=>?_;subst hx;refine Ahj (Ahr hj') rfl (AOt ⟨AOq,?_,AOq⟩);rw [wk AOq,Aja,Aja,Alw,At0 AOq,Auy];grind
   ·obtain rfl:j=n:=by omega
    unfold part;refine Aiy λr hr=>?_;split
    ·refine Aiy λc hc=>?_;rw [Aiu];grind
    ·rfl
  ·rw [he,wk AOq];rfl
 ·obtain rfl:i=n:=by omega
  exact Av3 _ _
def BCq (d p e:Int):Prop:= ∃ (k:Nat) (r:Int),e=k/\d=r * p ^ k/\¬ p ∣ r
theorem BFv {b:Int} (hp:2<=p) (ha:BCq d p a) (hb:BCq d p b):a=b:=by
 have key:∀ (k l:Nat) (r s:Int),k < l->r * p ^ k=s * p ^ l->p ∣ r:=λk l r s hkl h=>by
  obtain ⟨m,rfl⟩:∃ m,l=k + 1 + m:=⟨l - k - 1,AOq⟩
  rw [Int.pow_add,Int.pow_add,Int.pow_one] at h
  have h1:p ^ k * r=p ^ k * (p * (s * p ^ m)):=by grind
  exact ⟨_,Int.eq_of_mul_eq_mul_left (Int.pow_ne_zero AOq) h1⟩
 obtain ⟨k,r,rfl,h1,h2⟩:=ha;obtain ⟨l,s,rfl,h3,h4⟩:=hb;grind
theorem A22 {r:Int} (hp:2<=p) (hr:0 < r) (hd:d<=10000) (h:d=r * p ^ k):k<=13:=by
 rcases Nat.lt_or_ge 13 k with h1 | h1
 ·exfalso;have h2:(2:Int) ^ 14<=2 ^ k:=A20 h1;have h3:(2:Int) ^ k<=p ^ k:=Arm AOq hp k;have h4:1 * p ^ k<=r * p ^ k:=Int.mul_le_mul_of_nonneg_right AOq AOq;omega
 ·exact h1
theorem BQq (Ac:1<=d) (hd:d<=10000) (hp:2<=p) (Ad:p<=9973) (hf:100 < fuel):Ok (Aig fuel d p) (BCq d p):=by
 unfold Aig;refine AOy (Ah4 (λi s=> ∃ r:Int,s=(r,(i:Int))/\0 < r/\d=r * p ^ i) 14 (Q:=BCq d p) ⟨d,rfl,AOq,Ah6⟩ AOq λi s hi hI=>?_) λe he=>AOt he;obtain ⟨r,rfl,hr,hdr⟩:=hI;have Ae:=A22 hp hr hd hdr
 have hrd:r<=d:=by
  have h1:r * 1<=r * p ^ i:=Int.mul_le_mul_of_nonneg_left (Int.pow_pos AOq) AOq
  omega
 unfold Alz;dsimp only;refine AOy (Q:=λex=>match ex with | .inl _=>p ∣ r | .inr _=> ¬ p ∣ r) (Ag9 (λh=>Ah8 AOq<|Ag9 (λh2=>AOt ?_) λh2=>AOt ?_) λh=>by omega) λex hex=>?_
 ·exact Int.dvd_of_tmod_eq_zero h2
 ·exact λh3=>h2<|Int.tmod_eq_zero_of_dvd h3
 ·cases ex with
  | inl u=>
    obtain ⟨q,rfl⟩:p ∣ r:=hex
    have hq:0 < q:=Int.pos_of_mul_pos_right hr AOq
    have hqr:1 * q<=p * q:=Int.mul_le_mul_of_nonneg_right AOq AOq
    refine Ah8 AOq<|AOt ⟨AOq,q,?_,hq,by grind⟩
    rw [Int.mul_tdiv_cancel_left _ AOq,Ajz (x:=q) AOq AOq,wk AOq]
    rfl
  | inr u=>exact AOt ⟨i,r,rfl,hdr,hex⟩
def pwL (p:Int) (m:Nat):List Int:=Aju m λi=>p ^ (2 ^ i)
theorem BK1 {b:Int} (ha:a.natAbs < 18446744073709551616) (hb:b.natAbs < 18446744073709551616) (h0:b≠0):A2e fuel a b=some (a / b,a % b,true):=if_pos ⟨ha,hb,h0⟩
theorem BQr (Am:1<=d) (hd:d<=10000) (hp:Pr p) (Ag:p<=9973) (hf:100 < fuel):Ok (Ark fuel d p) λr=>BCq d p r.1:=by
 have Ae:2<=p:=hp.1;have pw:∀ k:Nat,0 < p ^ k:=λk=>Int.pow_pos AOq;unfold Ark;refine AOy (Aid (a:=Asf p) rfl) λb hb=>?_;rw [<- A38 AOq hp] at hb;subst hb;refine Ag9 (λh=>nomatch h) λ_=>AOy (Aid (a:=Anx d) rfl) λs hs=>?_;subst hs;refine Ag9 (λh=>absurd ((Ax6 d).1 h) AOq) λ_=>AOy (Aid (a:=d) rfl) λx hx=>AOy (Q:=(· =p)) ⟨p,if_pos AOq,rfl⟩ λy hy=>?_;subst hx;subst hy;refine AOy (Ah4 (λj s=> ∃ r:Int,s=(pwL y<|j + 1,r,((2 ^ j - 1:Nat):Int))/\0 < r/\x=r * y ^ (2 ^ j - 1)) 5 (Q:=λe=> ∃ (j:Nat) (r:Int),e=(pwL y<|j + 1,r,((2 ^ j - 1:Nat):Int))/\0 < r/\x=r * y ^ (2 ^ j - 1)/\¬ y ^ (2 ^ j) ∣ r/\j<=4) ⟨x,?_,AOq,Ah6⟩ AOq λj s hj hI=>?_) λe he=>?_
 ·refine congrArg (λl=>(l,x,(0:Int))) ?_;show [y]=[y ^ 1];rw [Int.pow_one]
 ·obtain ⟨r,rfl,hr,hxr⟩:=hI;have Ao:=A22 Ae hr hd hxr
  have Af:j<=3:=by
   rcases Nat.lt_or_ge 3 j with h | h
   ·exfalso
    have:=Nat.pow_le_pow_right (show 0 < 2 by omega) h
    omega
   ·exact h
  have hrx:r<=x:=by
   have h1:r * 1<=r * y ^ (2 ^ j - 1):=Int.mul_le_mul_of_nonneg_left (pw _) AOq
   omega
  have hjp:1<=2 ^ j:=Nat.one_le_two_pow
  have Ap:2 ^ j<=8:=by
   have:=Nat.pow_le_pow_right (show 0 < 2 by omega) Af
   omega
  have hyb:y ^ (2 ^ j)<=10000 * 9973:=by
   have e1:y ^ (2 ^ j)=y ^ (2 ^ j - 1) * y:=by rw [<- Int.pow_succ];congr 1;omega
   have h2:1 * y ^ (2 ^ j - 1)<=r * y ^ (2 ^ j - 1):=Int.mul_le_mul_of_nonneg_right AOq<|Int.le_of_lt<|pw _
   rw [e1]
   exact Int.mul_le_mul AOq Ag AOq AOq
  have Ad:=pw<|2 ^ j;unfold Aus;dsimp only;have hl:(pwL y<|j + 1).length=j + 1:=Ah0 _ _;rw [hl,Ajz (x:=((j + 1:Nat):Int) - 1) AOq AOq];refine Ahj (n:=j) (Ahr AOq) AOq<|Ah8 AOq ?_;rw [show (((j + 1:Nat):Int) - 1).toNat=j by omega,show (1:Int) * 2 ^ j=((2 ^ j:Nat):Int) by simp,Ajz (x:=((2 ^ j:Nat):Int)) AOq AOq];refine AOy (Q:=λe:Bool × Int × Int=>if y ^ (2 ^ j) ∣ r then e=(true,r / y ^ (2 ^ j),((2 ^ (j + 1) - 1:Nat):Int)) else e=(false,r,((2 ^ j - 1:Nat):Int))) (AOy (Aid<|BK1 (fuel:=fuel) (a:=r) (b:=y ^ (2 ^ j)) AOq AOq AOq) λq hq=>AOy (Aid (a:=Anx q.2.1) rfl) λs hs=>?_) λe he=>?_
  ·subst hq;subst hs;dsimp only;refine Ag9 (λh=>AOt ?_) λh=>AOt ?_
   ·have hnd: ¬ y ^ (2 ^ j) ∣ r:=λh2=>h<|(Ax6 _).2 (Int.emod_eq_zero_of_dvd h2);rw [if_neg hnd]
   ·have hdv:y ^ (2 ^ j) ∣ r:=Int.dvd_of_emod_eq_zero<|(Ax6 _).1 (Classical.not_not.1 h);rw [if_pos hdv,wk AOq,Nat.pow_succ];grind
  ·by_cases hdv:y ^ (2 ^ j) ∣ r
   ·rw [if_pos hdv] at he;subst he;dsimp only;refine Ag9 (λ_=>?_) λh=>absurd rfl h;obtain ⟨q,rfl⟩:=hdv;have Ah:0 < q:=Int.pos_of_mul_pos_right hr Ad;have hqm:y ^ (2 ^ j) * 1<=y ^ (2 ^ j) * q:=Int.mul_le_mul_of_nonneg_left AOq AOq;have hB:10000 * 10000 < Alj:=by decide
    have m1:(y ^ (2 ^ j)).natAbs * (y ^ (2 ^ j)).natAbs<=10000 * 10000:=Nat.mul_le_mul AOq AOq;refine AOy (Aid (a:=y ^ (2 ^ j) * y ^ (2 ^ j))<|if_pos AOq) λz hz=>Ah8 AOq<|AOt ⟨AOq,q,?_,Ah,?_⟩
    ·subst hz;rw [Int.mul_ediv_cancel_left _ AOq];refine congrArg (λl=>(l,q,((2 ^ (j + 1) - 1:Nat):Int))) ?_;have e1:y ^ (2 ^ j) * y ^ (2 ^ j)=y ^ (2 ^ (j + 1)):=by rw [<- Int.pow_add,Nat.pow_succ];congr 1;omega
     rw [e1];exact Av0 (j + 1) λi=>y ^ (2 ^ i)
    ·rw [hxr];have e1:y ^ (2 ^ (j + 1) - 1)=y ^ (2 ^ j) * y ^ (2 ^ j - 1):=by rw [<- Int.pow_add,Nat.pow_succ];congr 1;omega
     rw [e1];grind
   ·rw [if_neg hdv] at he;subst he;exact Ag9 (λh=>nomatch h) λ_=>AOt ⟨j,r,rfl,hr,hxr,hdv,AOq⟩
 ·obtain ⟨j,r,rfl,hr,hxr,hnd,Af⟩:=he;dsimp only
  have hY:∀ q,q < j->y ^ (2 ^ q)<=10000:=λq hq=>by
   have h0:=Nat.pow_le_pow_right (show 0 < 2 by omega) (show q + 1<=j by omega)
   have h1:=Nat.one_le_two_pow (n:=q)
   rw [Nat.pow_succ] at h0
   have e1:y ^ (2 ^ j - 1)=y ^ (2 ^ q) * y ^ (2 ^ j - 1 - 2 ^ q):=by rw [<- Int.pow_add];congr 1;omega
   have h2:y ^ (2 ^ q) * 1<=y ^ (2 ^ q) * y ^ (2 ^ j - 1 - 2 ^ q):=Int.mul_le_mul_of_nonneg_left (pw _)<|Int.le_of_lt<|pw _
   have h3:1 * y ^ (2 ^ j - 1)<=r * y ^ (2 ^ j - 1):=Int.mul_le_mul_of_nonneg_right AOq<|Int.le_of_lt<|pw _
   omega
  have hl:(pwL y<|j + 1).length=j + 1:=Ah0 _ _;rw [hl,Ajz (x:=((j + 1:Nat):Int) - 2) AOq AOq];refine AOy (Ah4 (λi s=> ∃ (r:Int) (k:Nat),s=((j:Int) - 1 - i,r,(k:Int))/\i<=j/\0 < r/\x=r * y ^ k/\¬ y ^ (2 ^ (j - i)) ∣ r) j (Q:=λe=> ∃ (r:Int) (k:Nat),e=(r,(k:Int))/\x=r * y ^ k/\¬ y ∣ r) ⟨r,2 ^ j - 1,by grind,AOq,hr,hxr,AOq⟩ AOq λi s hi hI=>?_) λe he=>?_
  ·obtain ⟨r,k,rfl,hij,hr,hxr,hnd⟩:=hI;have Au:=A22 Ae hr hd hxr
   have hrx:r<=x:=by
    have h1:r * 1<=r * y ^ k:=Int.mul_le_mul_of_nonneg_left (pw _) AOq
    omega
   unfold Aur;dsimp only;refine Ag9 (λh=>?_) λh=>AOt ⟨r,k,rfl,hxr,?_⟩
   ·obtain ⟨q,hq⟩:∃ q:Nat,(j:Int) - 1 - i=q:=⟨j - 1 - i,AOq⟩;rw [hq];have hqj:q < j + 1:=by omega
    have Aj:q<=3:=by omega
    have Av:1<=2 ^ q:=Nat.one_le_two_pow;have Aw:2 ^ q<=8:=by have:=Nat.pow_le_pow_right (show 0 < 2 by omega) Aj;omega
    have hyb:=hY q AOq;have Ad:=pw<|2 ^ q;have hsmall:y ^ (2 ^ q) ∣ r->y ^ (2 ^ q)<=r:=λh=>Int.le_of_dvd hr h;refine Ahj (n:=q) (Ahr hqj) rfl (Ah8 AOq ?_);rw [Int.toNat_natCast,show (1:Int) * 2 ^ q=((2 ^ q:Nat):Int) by simp,Ajz (x:=((2 ^ q:Nat):Int)) AOq AOq];refine AOy (Q:=λe:Bool × Int × Int=>if y ^ (2 ^ q) ∣ r then e=(true,r / y ^ (2 ^ q),((k + 2 ^ q:Nat):Int)) else e=(false,r,(k:Int))) (AOy (Aid<|BK1 (fuel:=fuel) (a:=r) (b:=y ^ (2 ^ q)) AOq AOq AOq) λt ht=>AOy (Aid (a:=Anx t.2.1) rfl) λs hs=>?_) λe he=>?_
    ·subst ht;subst hs;dsimp only;refine Ag9 (λh=>AOt ?_) λh=>AOt ?_
     ·have hnd: ¬ y ^ (2 ^ q) ∣ r:=λh2=>h<|(Ax6 _).2 (Int.emod_eq_zero_of_dvd h2);rw [if_neg hnd]
     ·have hdv:y ^ (2 ^ q) ∣ r:=Int.dvd_of_emod_eq_zero<|(Ax6 _).1 (Classical.not_not.1 h);rw [if_pos hdv,wk AOq];grind
    ·rw [Ajz (x:=(q:Int) - 1) AOq AOq];by_cases hdv:y ^ (2 ^ q) ∣ r
     ·rw [if_pos hdv] at he;subst he;obtain ⟨w,rfl⟩:=hdv;have Ak:0 < w:=Int.pos_of_mul_pos_right hr Ad;refine AOt ⟨AOq,w,k + 2 ^ q,?_,AOq,Ak,?_,?_⟩
      ·rw [Int.mul_ediv_cancel_left _ AOq];grind
      ·grind
      ·rw [show j - (i + 1)=q by omega];rintro ⟨u,rfl⟩;refine hnd ⟨u,?_⟩;rw [show j - i=q + 1 by omega,Nat.pow_succ,Nat.mul_two,Int.pow_add];grind
     ·rw [if_neg hdv] at he;subst he;refine AOt ⟨AOq,r,k,?_,AOq,hr,hxr,by grind⟩;grind
   ·have:j - i=0:=by omega
    rw [this,Nat.pow_zero,Int.pow_one] at hnd;exact hnd
  ·obtain ⟨r,k,rfl,h1,h2⟩:=he;exact AOt ⟨k,r,rfl,h1,h2⟩
theorem A4v (R:A5i M):M=tab M.length M.length (ent M):=A41 R.2.1
theorem BNo {n:Nat} (Ac:1<=n) (hn:n<=8) (R:A72 n A):A5i (tab n n A):=by
 refine ⟨by rw [Ahv];omega,λz hz=>by rw [Ahv];exact A11 z hz,?_⟩;rw [Ahv];have e:∀ i j,i < n->j < n->ent (tab n n A) i j=A i j:=λi j hi hj=>BEc hi hj;have hd:∀ k,k<=n->det k (ent<|tab n n A)=det k A:=λk hk=>Ajd λi j hi hj=>e i j AOq AOq
 have hm:∀ k i j,k<=n->i < n->j < n->Mn k (ent<|tab n n A) i j=Mn k A i j:=λk i j hk hi hj=>by
  unfold Mn
  exact Ajd λa b ha hb=>e _ _ (Awp hk hi)<|Awp hk hj
 refine ⟨λi j hi hj=>by rw [e i j hi hj,e j i hj hi];exact R.sym i j hi hj,λk hk=>by rw [hd k hk];exact R.pos k hk,λr l h1 h2=>?_,λr hr=>?_,by rw [hd n<|Nat.le_refl n];exact R.dt⟩
 ·have:=R.sz r l h1 h2;unfold SzF at this ⊢;grind
 ·have:=R.lv r hr;unfold LvF at this ⊢;grind
theorem BK2 {n:Nat} (hn:n<=8) (R:A72 n A):BQo (tab n n A):=BCn (B:=192000) AOs λi j hi hj=>by have:=A4u hn R hi hj;omega
theorem A73 (R:A5i M):1<=det M.length (ent M)/\det M.length (ent M)<=10000:=⟨by have:=R.2.2.pos _<|Nat.le_refl _;omega,R.2.2.dt⟩
theorem BFw (R:A5i M) (hi:i < M.length) (hj:j < M.length):(ent M i j).natAbs<=192000:=by have:=A4u R.1.2 R.2.2 hi hj;omega
theorem BHh (R:A5i M) (hf:100 < fuel):Apz fuel M=some (det M.length<|ent M):=by
 apply ok_eq;obtain ⟨v1,v2⟩:=A73 R;have hT:=A4v R;have h1:=R.1;unfold Apz;generalize hF:ent M=F at *;generalize hL:M.length=n at *;have hb:∀ i j,i < n->j < n->(F i j).natAbs<=192000:=λi j hi hj=>by subst hF;subst hL;exact BFw R hi hj
 rw [hT];refine AOy (Aid<|BD0 h1.1 AOq (λi j hi hj=>Nat.le_trans (hb i j hi hj) AOs) AOq) λx hx=>?_;subst hx;refine AOy (Aid<|A4n h1.2 (Nat.le_refl _) (λi j hi hj=>Nat.le_trans (hb i j hi hj)<|Nat.le_trans AOs<|A82 _) AOq) λy hy=>?_;subst hy;refine AOy (Aid (a:=(det n F,true))<|if_pos AOq) λz hz=>AOt ?_;rw [hz]
theorem BQs {v:Int} (Ab:1<=d) (hd:d<=10000) (hp:2<=p) (h:BCq d p v):0<=v/\v<=13:=by
 obtain ⟨k,r,rfl,h1,h2⟩:=h
 have hr:0 < r:=by
  have hpk:0 < p ^ k:=Int.pow_pos AOq
  rcases Int.lt_or_le 0 r with h | h
  ·exact h
  ·have:=Int.mul_nonpos_of_nonpos_of_nonneg h<|Int.le_of_lt hpk;omega
 have:=A22 hp hr hd h1;omega
theorem A5k (R:A5i M) (hp:Pr p) (hp2:p<=9973) (hf:100 < fuel):∃ v,BCq (det M.length<|ent M) p v/\(0<=v/\v<=13)/\Ao2 fuel M p=some (if p=2 then v + 3 else v + 1)/\Alc fuel M p=some (if p=2 then v + 3 else v + 1):=by
 obtain ⟨v1,v2⟩:=A73 R;obtain ⟨⟨v,r0,e0⟩,hv1,hv⟩:=BQr v1 v2 hp hp2 hf;dsimp only at hv;have hvb:=BQs v1 v2 hp.1 hv
 refine ⟨v,hv,hvb,?_,?_⟩
 ·apply ok_eq;have hT:=A4v R;have h1:=R.1;have RF:=R.2.2;unfold Ao2;generalize hF:ent M=F at *
  generalize hL:M.length=n at *
  have hb:∀ i j,i < n->j < n->(F i j).natAbs<=192000:=λi j hi hj=>by subst hF;subst hL;exact BFw R hi hj
  rw [hT];refine AOy (Aid<|BNn h1.1 AOq (λi j hi hj=>Nat.le_trans (hb i j hi hj) AOs) hf) λx hx=>?_;subst hx;dsimp only
  refine AOy (Q:=(· =(det n F,true))) ?_ λy hy=>?_
  ·unfold Ax5;refine AOy (Aid (BCp h1.1 AOq hf).2) λx hx=>?_;subst hx;dsimp only;exact Ag9 (λh=>nomatch h) λ_=>Ag9 (λh=>absurd rfl h) λ_=>AOy (Aid<|BQp h1.1 h1.2 RF hf) λz hz=>AOt (by rw [hz])
  ·subst hy;dsimp only;refine AOy (Aid hv1) λz hz=>?_;subst hz;dsimp only
   refine Ag9 (λh=>AOt ?_) λh=>AOt ?_
   ·rw [if_pos h,wk AOq]
   ·rw [if_neg h,wk AOq]
 ·apply ok_eq;unfold Alc;refine AOy (Aid<|BHh R hf) λd hd=>?_;subst hd;refine AOy (BQq v1 v2 hp.1 hp2 hf) λw hw=>?_;obtain rfl:=BFv hp.1 hv hw
  refine Ag9 (λh=>AOt ?_) λh=>AOt ?_
  ·rw [if_pos h,wk AOq]
  ·rw [if_neg h,wk AOq]
end Go.Proofs.YtkakafabeobahaaGreatDoor
