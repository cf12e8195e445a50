/-
  Texts of a proof, joined. Conditions stand in each statement.
-/
import Derived.Test.YthbndcbclhkepaaGreatDoorMDyadicEven2
set_option linter.unusedVariables false
set_option linter.unusedSimpArgs false
namespace Go.Proofs.YthbndcbclhkepaaGreatDoor
open Go Go.QF
set_option maxRecDepth 100000
set_option maxHeartbeats 4000000
abbrev LnN:=List (List Nat)
abbrev LnA:=List Nat
abbrev LvA:=List Value
abbrev LiI:=List (List Int)
abbrev LiA:=List Int
theorem AGk {α:Type _} {a b:α} (h:some a=some b):a=b:=Option.some.inj h
theorem tt2 {α:Sort _} {β:α->Sort _}:∀ x,β x->True:=fun _ _=>trivial
def AVr (fuel:Nat) (a1 a5:Int):Option Int:=
  ((Aod fuel a1 a5).bind fun (Ac,Ad,Ae)=>(some Ac))
theorem AZ1 {fuel:Nat} {h:AGs} {Ad:Value} {a1:Int} {Af:Value} {a5 r:Int} (H3:ZZ h Ad a1) (H7:ZZ h Af a5) (hp:AVr fuel a1 a5=some r):ATt Tryz.prog 99 #[Ad,Af] h (fun x h'=>Ext h h'/\ ∃ (x0:Value),x=x0/\ZZ h' x0 r):=by
 unfold AVr at hp;obtain ⟨Ar,rfl,Ai⟩:=H3.cs;obtain ⟨Au,rfl,Aj⟩:=H7.cs;refine cwf (l:=[_,_]) Tryz.func99 rfl rfl (AGl (AYn (Kst.k0 h) Ar fun b9 Bc Be Av=>AYn Av Au fun Bf Bg Bh Aw=>AVt Aw [.bool false,.slice none 0 0] AW9 fun Bi Bj Bl Aa=>AZf (Ach (Aa.zx Ai) (Aa.b p2) (Ach (Aa.zx Aj) (Aa.b p1) ?_))));obtain ⟨⟨Bm,Bn,Bo⟩,Ax,Ak⟩:=AGm hp;dsimp only at Ak;refine Afg rfl (Asz (Aa.zx Ai).2 (Aa.zx Aj).2 Ax) fun Bp Bq Ay Az=>?_;obtain ⟨Br,Bt,rfl,A3,A4⟩:=Az;obtain ⟨Bu,rfl,A5⟩:=A3.cs;obtain ⟨Bv,rfl,A6⟩:=A4.cs;refine AGi (AUe rfl rfl (AUe rfl rfl (AUe rfl rfl (AVt (((Aa.e Ay).az A5).az A6) [.bool false,.slice none 0 0] AW9 fun Bw Bx By A7=>AVt A7 [.bool false,.slice none 0 0] AW9 fun Bz A8 B1 Am=>AYa Am p1 (AS6 A8) (Am.z p3) fun A9 Ao=>AYa Ao p0 (AS6 A9) (Ao.z p2) fun Ba Ab=>ATx (Ach (Ab.z p3) (Ab.b p1) (AYa Ab p4 (AS6 Ba) (Ab.z p3) fun B3 Ac=>AGq (AGy ?_)))))));obtain rfl:=AGk Ak;exact ⟨_,AU6 AT6 (cZ.klen (Ac.z p3)) rfl (Ac.b p4),Ac.x,_,rfl,(Ac.z p3).2⟩
def AZv (fuel:Nat) (a1 a5:Int):Option Int:=
  ((Aod fuel a1 a5).bind fun (Ad,Ac,Ae)=>(some Ac))
theorem Ak3 {fuel:Nat} {h:AGs} {Ad:Value} {a1:Int} {Af:Value} {a5 r:Int} (H3:ZZ h Ad a1) (H7:ZZ h Af a5) (hp:AZv fuel a1 a5=some r):ATt Tryz.prog 160 #[Ad,Af] h (fun x h'=>Ext h h'/\ ∃ (x0:Value),x=x0/\ZZ h' x0 r):=by
 unfold AZv at hp;obtain ⟨Ar,rfl,Ai⟩:=H3.cs;obtain ⟨Au,rfl,Aj⟩:=H7.cs;refine cwf (l:=[_,_]) Tryz.func160 rfl rfl (AGl (AYn (Kst.k0 h) Ar fun b9 Bc Be Av=>AYn Av Au fun Bf Bg Bh Aw=>AVt Aw [.bool false,.slice none 0 0] AW9 fun Bi Bj Bl Aa=>AZf (Ach (Aa.zx Ai) (Aa.b p2) (Ach (Aa.zx Aj) (Aa.b p1) ?_))));obtain ⟨⟨Bm,Bn,Bo⟩,Ax,Ak⟩:=AGm hp;dsimp only at Ak;refine Afg rfl (Asz (Aa.zx Ai).2 (Aa.zx Aj).2 Ax) fun Bp Bq Ay Az=>?_;obtain ⟨Br,Bt,rfl,A3,A4⟩:=Az;obtain ⟨Bu,rfl,A5⟩:=A3.cs;obtain ⟨Bv,rfl,A6⟩:=A4.cs;refine AGi (AUe rfl rfl (AUe rfl rfl (AUe rfl rfl (AVt (((Aa.e Ay).az A5).az A6) [.bool false,.slice none 0 0] AW9 fun Bw Bx By A7=>AVt A7 [.bool false,.slice none 0 0] AW9 fun Bz A8 B1 Am=>AYa Am p1 (AS6 A8) (Am.z p3) fun A9 Ao=>AYa Ao p0 (AS6 A9) (Ao.z p2) fun Ba Ab=>ATx (Ach (Ab.z p2) (Ab.b p0) (AYa Ab p4 (AS6 Ba) (Ab.z p2) fun B3 Ac=>AGq (AGy ?_)))))));obtain rfl:=AGk Ak;exact ⟨_,AU6 AT6 (cZ.klen (Ac.z p2)) rfl (Ac.b p4),Ac.x,_,rfl,(Ac.z p2).2⟩
def Aci (fuel:Nat) (a1 a2 Aa:Int) (Ac:LiI):Option ((Int × LiI) ⊕ ((LiI))):=
  (if Aa < ((List.replicate (Int.toNat a1) ([]:List Int)).length:Int) then (if 0<=a2/\a2<=100000000 then ((gI Ac Aa).bind fun Ae=>(some (Sum.inl ((w64 (Aa + 1)),(sI Ac Aa (List.replicate (Int.toNat a2) (0:Int))))))) else none) else (some (Sum.inr<| Ac)))
def AVx (fuel:Nat) (a1 a2:Int):Option LiI:=
  (if 0<=a1/\a1<=100000000 then ((iter (fun s=>Aci fuel a1 a2 s.1 s.2) fuel (0,(List.replicate (Int.toNat a1) ([]:List Int)))).bind (fun (Ac:LiI)=>(some Ac))) else none)
theorem AZj {fuel:Nat} {h:AGs} {a1 a2:Int} {r:LiI} (hp:AVx fuel a1 a2=some r):ATt Tryz.prog 87 #[(.int .i64 a1),(.int .i64 a2)] h (fun x h'=>Ext h h'/\ ∃ (x0:Value) (F0:List Nat) (Ak:List LnA) (Am:List Value),x=x0/\AVo cZ 131 93 h' F0 Ak Am x0 r/\Sp h' h.size [F0]):=by
 unfold AVx at hp;refine cwf (l:=[_,_]) Tryz.func87 rfl rfl (AGl (ATx (AGi ?_)));obtain ⟨Ao,Ap⟩:=ifN hp;refine Ajd cZ 93 AUo Avz rfl trivial tt2 rfl rfl AGj Ao fun Aq Ar Au v9 h7 I8 E5 S6=>AGw (AGn (AGl (AGi ?_)));have Ad:=(Kst.k0 h).no2 E5 S6 I8;refine AT3 AUo rfl (Ad.o2 p0).rd (AGi (AGq (AGo (AX3 1046592 (fun x:(Int) × (LiI) × LnA × LnN × LvA=>(x.1,x.2.1)) ((0,(List.replicate (Int.toNat a1) ([]:List Int)),Aq,Ar,Au):(Int) × (LiI) × LnA × LnN × LvA) Ap (fun x=>[(11,(.int .i64 x.1))]) (fun x=>Ad.L.set 0 (aO2 cZ 131 93 x.2.2.1 x.2.2.2.1 x.2.2.2.2 v9 x.2.1)) Ad ⟨rfl,trivial⟩ ?_))));rintro ⟨Bg,Bh,Bi,Bj,Bl⟩ Bm Bn Bo Ab Ae Az;unfold Aci at Ae;refine AGl (ATm rfl rfl (AGq (AGn (⟨_,rfl,fun Af=>?_,fun Af=>?_⟩))))
 ·refine AGx (q_t (AGn (AGo (AGl (AGi (AGw (AS3 (AGi (AGi (AGi ?_))))))))));obtain ⟨A3,A4⟩:=ifN (AT0 Ae Af);refine Axr AVl AW9 rfl trivial tt2 rfl rfl AGj A3 fun Bp Bq Br A5 A6 A7 A8=>?_;have Aa:=Ab.no A6 (AXv A7 A8) A5;obtain ⟨Bt,Aj,A9⟩:=AGm A4;refine AVd AUo rfl (Aa.o2 p1) rfl Aj fun Bu Bv Ba Bw Bx=>Ajc AWb (Aa.o2 p1) Aj Ba rfl rfl (Aa.o p0) (Aa.dj p0 p1 AGj) fun By Bb Bc Be=>ATf (q_b (q_t (AS3 (ATj rfl rfl (AGi (AGq ?_))))));exact ⟨(_,_,_,_,_),(AGk A9).symm,(Aa.m2 p0 p1 AGj Bc Bb (fun z hz=> .inl (Be z hz))).sel [1] AGj,rfl,trivial⟩
 ·refine AS9 (ATa (ATa (AT9 (q_t (AGl (AGi (AGw (AGy ?_))))))));obtain rfl:=AGk (Az _ (AGk (AT1 Ae Af)).symm);exact ⟨_,AS1,Ab.x,_,_,_,_,rfl,(Ab.o2 p0),Ab.s.sel [0] AGj⟩
def AZ2 (fuel:Nat) (a3:LiI) (Ab:Int) (Af:LiA) (Aa:Int) (Ac:LiI):Option ((Int × LiI) ⊕ ((LiI))):=
  (if Aa < (Af.length:Int) then ((gI Ac Ab).bind fun Ad=>((gI a3 Ab).bind fun Ag=>((gI Ag Aa).bind fun Ah=>((Ad1 fuel Ah).bind fun Ai=>((gI Ad Aa).bind fun Aj=>(some (Sum.inl ((w64 (Aa + 1)),(sI Ac Ab (sI Ad Aa Ai)))))))))) else (some (Sum.inr<| Ac)))
def AZ3 (fuel:Nat) (a3:LiI) (Aa:Int) (Ac:LiI):Option ((Int × LiI) ⊕ ((LiI))):=
  (if Aa < (a3.length:Int) then ((gI a3 Aa).bind fun Ad=>((iter (fun s=>AZ2 fuel a3 Aa Ad s.1 s.2) fuel (0,Ac)).bind (fun (Ae:LiI)=>(some (Sum.inl ((w64 (Aa + 1)),Ae)))))) else (some (Sum.inr<| Ac)))
def AZ4 (fuel:Nat) (a3:LiI) (Ab:Int):Option ((Int) ⊕ (((LiI × Bool)) ⊕ (Unit))):=
  (if Ab < (a3.length:Int) then ((gI a3 Ab).bind fun Ac=>(if (Ac.length:Int) < 1 then (some (Sum.inr<| Sum.inl <| ([],false))) else (if 16 < (Ac.length:Int) then (some (Sum.inr<| Sum.inl <| ([],false))) else ((gI a3 0).bind fun Ad=>(if ¬ (Ac.length:Int)=(Ad.length:Int) then (some (Sum.inr<| Sum.inl <| ([],false))) else (some (Sum.inl (w64 (Ab + 1))))))))) else (some (Sum.inr<| Sum.inr <| ())))
def AVc (fuel:Nat) (a3:LiI):Option (LiI × Bool):=
  (((if (a3.length:Int) < 1 then (some (Sum.inl <| ([],false))) else (if 16 < (a3.length:Int) then (some (Sum.inl <| ([],false))) else (some (Sum.inr <| ())))):Option (((LiI × Bool)) ⊕ (Unit))).bind (fun ex=>match ex with | Sum.inl Ab=>(some Ab) | Sum.inr (_)=>((iter (fun s=>AZ4 fuel a3 s) fuel 0).bind (fun ex=>match ex with | Sum.inl Ac=>(some Ac) | Sum.inr (_)=>((gI a3 0).bind fun Ad=>((AVx fuel (a3.length:Int) (Ad.length:Int)).bind fun Ae=>((iter (fun s=>AZ3 fuel a3 s.1 s.2) fuel (0,Ae)).bind (fun (Af:LiI)=>(some (Af,true))))))))))
theorem Ah2 {fuel:Nat} {h:AGs} {Ba:Value} {a3:LiI} {r:(LiI × Bool)} (H2:AXq (cI .i64) h Ba a3) (hp:AVc fuel a3=some r):ATt Tryz.prog 42 #[Ba] h (fun x h'=>Ext h h'/\ ∃ (x0:Value) (F0:List Nat) (Bq:List LnA) (Br:List Value),x= .tuple #[x0,.bool r.2]/\AVo cZ 131 93 h' F0 Bq Br x0 r.1/\Sp h' h.size [F0]):=by
 unfold AVc at hp;refine cwf (l:=[_]) Tryz.func42 rfl rfl (AGl (ATi (AGw ?_)));have K0:=Kst.k0 h;obtain ⟨Bt,Be,Ao⟩:=AGm hp;refine Aey 130572 (fun x:Unit=>[]) (fun x h'=>(Sum.inr <| ())=Bt/\Kst h h' (K0.L)) ?_ ?_
 ·refine AGl (AGi (AT3 AS8 rfl H2 (ATm rfl rfl (AGi ?_))));by_cases Ag:(a3.length:Int) < 1
  ·rw [decide_eq_true Ag];refine Abq 12 true (ATh rfl (AGq (ATn rfl (AGl (ATi (AGw ?_))))));obtain rfl:=AGk (ifT Be Ag);refine AGy (ATb ?_);have Ap:=Kst.anil2 cZ 131 93 K0;obtain rfl:=AGk Ao;exact ⟨_,AUm,Ap.x,_,_,_,_,rfl,(Ap.o2 p0),Ap.s.sel [0] AGj⟩
  ·have Bf:=ifF Be Ag;rw [decide_eq_false Ag];refine ATo 12 false (AGi (ATo 12 false (AT3 AS8 rfl H2 (ATo 12 false (AY6 rfl rfl (ATq rfl (AGq (⟨_,rfl,fun Aq=>?_,fun Aq=>?_⟩))))))))
   ·refine AGl (ATi (AGw ?_));obtain rfl:=AGk (AT0 Bf Aq);refine AGy (ATb ?_);have Ar:=Kst.anil2 cZ 131 93 K0;obtain rfl:=AGk Ao;exact ⟨_,AUm,Ar.x,_,_,_,_,rfl,(Ar.o2 p0),Ar.s.sel [0] AGj⟩
   ·refine AGx (q_t ?_);exact ⟨(():Unit),⟨AGk (AT1 Bf Aq),K0⟩,trivial⟩
 rintro ⟨⟩ C3 C4 ⟨Bu,Bg⟩;subst Bu;refine AGn (AGl (AGi (AT3 AS8 rfl H2 (AGi (AGq (AGo (AY2 2199022731308 Ao (fun x=>[(19,(.int .i64 x))]) (fun x=>Bg.L) Bg ⟨rfl,trivial⟩ ?_)))))));rintro C5 C6 C7 C8 Ab Au Ah;unfold AZ4 at Au;refine AGl (ATm rfl rfl (AGq (AGn (⟨_,rfl,fun Av=>?_,fun Av=>?_⟩))))
 ·refine AGx (q_t (AGn (AGo (AGl ?_))));obtain ⟨Bh,Bv,Bi⟩:=AGm (AT0 Au Av);refine Ac2 AS8 ATk H2 Ab.x Bv fun _ C9 Aw=>ATx (AGi (AUn AS7 rfl Aw (ATm rfl rfl (AGi ?_))));by_cases Ai:(Bh.length:Int) < 1
  ·rw [decide_eq_true Ai];refine Abq 26 true (ATh rfl (AGi (Acd 31 true (Ae3 31 true (ATh rfl (AGq (ATn rfl (AGl (ATi (AGw (AGy (AUf (ATb (ATb (AUf (ATb ?_))))))))))))))));have Ax:=Kst.anil2 cZ 131 93 Ab;obtain rfl:=AGk (Ah _ (AGk (ifT Bi Ai)).symm);exact ⟨_,AUm,Ax.x,_,_,_,_,rfl,(Ax.o2 p0),Ax.s.sel [0] AGj⟩
  ·have Bj:=ifF Bi Ai;rw [decide_eq_false Ai];refine ATo 26 false (AGi (ATo 26 false (AUn AS7 rfl Aw (ATo 26 false (AY6 rfl rfl (ATq rfl (AGi ?_)))))));by_cases Aj:16 < (Bh.length:Int)
   ·rw [decide_eq_true Aj];refine Acd 31 true (Ae3 31 true (ATh rfl (AGq (ATn rfl (AGl (ATi (AGw (AGy (AUf (ATb (ATb (AUf (ATb ?_)))))))))))));have Ay:=Kst.anil2 cZ 131 93 Ab;obtain rfl:=AGk (Ah _ (AGk (ifT Bj Aj)).symm);exact ⟨_,AUm,Ay.x,_,_,_,_,rfl,(Ay.o2 p0),Ay.s.sel [0] AGj⟩
   ·rw [decide_eq_false Aj];refine ATo 31 false (AGi (ATo 31 false (AUn AS7 rfl Aw (ATo 31 false (AGi (ATo 31 false ?_))))));obtain ⟨Da,Bw,Bl⟩:=AGm (ifF Bj Aj);refine Al8 AS8 rfl H2 rfl Bw fun Db Dc Dd Bx By=>ATo 31 false (ATz ATk rfl (ATl Bx Ab.x) (ATo 31 false (AUn AS7 rfl By (ATo 31 false (AXa rfl rfl (ATq rfl (AGq (⟨_,rfl,fun Az=>?_,fun Az=>?_⟩))))))))
    ·refine AGl (ATi (AGw (AGy (AUf (ATb (ATb (AUf (ATb ?_))))))));have A3:=Kst.anil2 cZ 131 93 Ab;obtain rfl:=AGk (Ah _ (AGk (AT0 Bl Az)).symm);exact ⟨_,AUm,A3.x,_,_,_,_,rfl,(A3.o2 p0),A3.s.sel [0] AGj⟩
    ·refine AGx (q_b (q_t (AS3 (ATj rfl rfl (AGi (AGq ?_))))));exact ⟨_,(AGk (AT1 Bl Az)).symm,Ab,rfl,trivial⟩
 ·refine AS9 (ATa (ATa (AT9 (q_t (AGl (AGi (AT3 AS8 rfl H2 (AGi ?_))))))));obtain ⟨De,Bz,B1⟩:=AGm (Ah _ (AGk (AT1 Au Av)).symm);refine Ac2 AS8 ATk H2 Ab.x Bz fun _ Df B3=>AUn AS7 rfl B3 ?_;obtain ⟨B4,B5,B6⟩:=AGm B1;refine Ahc Ab (AZj B5) fun B7 B8 B9 Bm Dg Dh Bn=>AGw (AGn (AGl (AGi (AT3 AS8 rfl H2 (AGi (AGq (AGo (AX3 151115726325928739996032 (fun x:(Int) × (LiI) × LnA × LnN × LvA=>(x.1,x.2.1)) ((0,B4,B7,B8,B9):(Int) × (LiI) × LnA × LnN × LvA) B6 (fun x=>[(50,(.int .i64 x.1))]) (fun x=>Bn.L.set 0 (aO2 cZ 131 93 x.2.2.1 x.2.2.2.1 x.2.2.2.2 Bm x.2.1)) Bn ⟨rfl,trivial⟩ ?_))))))));rintro ⟨Bo,Ca,Cb,Cd,Ce⟩ Di Dj Dk Ac A4 Cf;unfold AZ3 at A4;refine AGl (ATm rfl rfl (AGq (AGn (⟨_,rfl,fun A5=>?_,fun A5=>?_⟩))))
  ·refine AGx (q_t (AGn (AGo (AGl (AGi (ATx (AGi (AGi ?_))))))));obtain ⟨Dl,Cg,Ch⟩:=AGm (AT0 A4 A5);refine Ac2 AS8 ATk H2 Ac.x Cg fun _ Do Ci=>AUn AS7 rfl Ci (AGi (AGq (AGo (AX3 75557575495538171707648 (fun x:(Int) × (LiI) × LnA × LnN × LvA=>(x.1,x.2.1)) ((0,Ca,Cb,Cd,Ce):(Int) × (LiI) × LnA × LnN × LvA) Ch (fun x=>[(58,(.int .i64 x.1))]) (fun x=>Ac.L.set 0 (aO2 cZ 131 93 x.2.2.1 x.2.2.2.1 x.2.2.2.2 Bm x.2.1)) Ac ⟨rfl,trivial⟩ ?_))));rintro ⟨Dp,Dq,Dr,Ds,Dt⟩ Du A6 Dv Ad A7 Cj;unfold AZ2 at A7;refine AGl (ATm rfl rfl (AGq (AGn (⟨_,rfl,fun A8=>?_,fun A8=>?_⟩))))
   ·refine AGx (q_t (AGn (AGo (AGl (AGi (AGw (AU8 (fun h'=>UpT [] A6 h') AGv ?_)))))));have Ak:UpT [] A6 A6:=UpT.start all_nil;refine AGi (AGi ?_);obtain ⟨Dw,A9,Ck⟩:=AGm (AT0 A7 A8);refine AVd AUo rfl (Ad.o2 p0) rfl A9 fun Dx Dy Dz Cm Cn=>AUy AWb rfl Ak (fun h' hb=>ATl Cn hb.ext) (AGi (AGi (AGi ?_)));obtain ⟨D0,Co,Cp⟩:=AGm Ck;refine Al8 AS8 rfl H2 rfl Co fun D1 D2 D3 Cq Cr=>AUy ATk rfl Ak (fun h' hb=>ATl Cq (Ad.x.trans hb.ext)) (AGi ?_);obtain ⟨D4,Ct,Cu⟩:=AGm Cp;refine Ac0 (c:=(cI .i64)) AS7 rfl Cr rfl Ct fun D5 D6 D7 Cv Cw=>?_;obtain rfl:=Cv;refine AUy ATd rfl Ak (fun h' hb=>ATl (Cw 0 _ rfl) (Ad.x.trans hb.ext)) ?_;obtain ⟨D8,Cx,Cy⟩:=AGm Cu;refine AXy Ad Ak (Acg Cx) fun D9 Ea Eb Ae Ec=>?_;obtain ⟨Ed,Bp,Cz⟩:=AGm Cy;refine AWc (m:=Bo) AVl rfl (Ad.o2 p0) Cm A9 rfl Bp fun Ee C0=>Ac8 (m:=Bo) (Ajb AT6 (cZ.klen (Ae.z p0)) rfl rfl (cZ.one (Ae.z p0))) (Ae.o2 p1) C0 A9 Bp (Ae.z p0) fun Ef C1 C2=>ATf (q_b (q_t (AS3 (ATj rfl rfl (AGi (AGq ?_))))));exact ⟨(_,_,_,_,_),(AGk Cz).symm,(Ae.uO2 p1 C2 C1).sel [1] AGj,rfl,trivial⟩
   ·refine AS9 (ATa (ATa (AT9 (q_b (q_t (AS3 (ATj rfl rfl (AGi (AGq ?_)))))))));exact ⟨(_,_,_,_,_),(AGk (Cj _ (AGk (AT1 A7 A8)).symm)).symm,Ad,rfl,trivial⟩
  ·refine AS9 (ATa (ATa (AT9 (q_t (AGl (AGi (ATi (AGw (AGy ?_)))))))));obtain rfl:=AGk (Cf _ (AGk (AT1 A4 A5)).symm);exact ⟨_,AUm,Ac.x,_,_,_,_,rfl,(Ac.o2 p0),Ac.s.sel [0] AGj⟩
def AWr (fuel:Nat) (a3:LiI):Option LiI:=
  ((AVc fuel a3).bind fun (x5,x6)=>(some x5))
theorem Agt {fuel:Nat} {h:AGs} {Ab:Value} {a3 r:LiI} (H2:AXq (cI .i64) h Ab a3) (hp:AWr fuel a3=some r):ATt Tryz.prog 23 #[Ab] h (fun x h'=>Ext h h'/\ ∃ (x0:Value) (F0:List Nat) (Ai:List LnA) (Aj:List Value),x=x0/\AVo cZ 131 93 h' F0 Ai Aj x0 r/\Sp h' h.size [F0]):=by
 unfold AWr at hp;refine cwf (l:=[_]) Tryz.func23 rfl rfl (AGl (ATx (AGi ?_)));have K0:=Kst.k0 h;obtain ⟨⟨x5,x6⟩,Ak,Ag⟩:=AGm hp;dsimp only at Ag;refine Afg rfl (Ah2 (H2.ext K0.x) Ak) fun Av Aw E9 Ao=>?_;obtain ⟨Ax,Ay,Az,A3,rfl,Ap,Aq⟩:=Ao;refine AGi (AUe rfl rfl (AUe rfl rfl (ATi (ATx (AGi (AGw (AGy ?_)))))));have Aa:=K0.no2 E9 Aq Ap;obtain rfl:=AGk Ag;exact ⟨_,AS1,Aa.x,_,_,_,_,rfl,(Aa.o2 p0),Aa.s.sel [0] AGj⟩
def AY3 (fuel:Nat) (a3:LiI) (Ab:Int):Option ((Int) ⊕ (((Int × Int × Bool)) ⊕ (Unit))):=
  (if Ab < (a3.length:Int) then ((gI a3 Ab).bind fun Ac=>(if (Ac.length:Int) < 1 then (some (Sum.inr<| Sum.inl <| (0,0,false))) else (if 16 < (Ac.length:Int) then (some (Sum.inr<| Sum.inl <| (0,0,false))) else ((gI a3 0).bind fun Ad=>(if ¬ (Ac.length:Int)=(Ad.length:Int) then (some (Sum.inr<| Sum.inl <| (0,0,false))) else (some (Sum.inl (w64 (Ab + 1))))))))) else (some (Sum.inr<| Sum.inr <| ())))
def AVh (fuel:Nat) (a3:LiI):Option (Int × Int × Bool):=
  (((if (a3.length:Int) < 1 then (some (Sum.inl <| (0,0,false))) else (if 16 < (a3.length:Int) then (some (Sum.inl <| (0,0,false))) else (some (Sum.inr <| ())))):Option (((Int × Int × Bool)) ⊕ (Unit))).bind (fun ex=>match ex with | Sum.inl Ab=>(some Ab) | Sum.inr (_)=>((iter (fun s=>AY3 fuel a3 s) fuel 0).bind (fun ex=>match ex with | Sum.inl Ac=>(some Ac) | Sum.inr (_)=>((gI a3 0).bind fun Ad=>(some ((a3.length:Int),(Ad.length:Int),true)))))))
theorem AY4 {fuel:Nat} {h:AGs} {Aq:Value} {a3:LiI} {r:(Int × Int × Bool)} (H2:AXq cZ h Aq a3) (hp:AVh fuel a3=some r):ATt Tryz.prog 109 #[Aq] h (fun x h'=>Ext h h'/\x= .tuple #[.int .i64 r.1,.int .i64 r.2.1,.bool r.2.2]):=by
 unfold AVh at hp;refine cwf (l:=[_]) Tryz.func109 rfl rfl (AGl (ATi (ATi (AGw ?_))));have K0:=Kst.k0 h;obtain ⟨A3,Ar,Ai⟩:=AGm hp;refine Aey 32668 (fun x:Unit=>[]) (fun x h'=>(Sum.inr <| ())=A3/\Kst h h' (K0.L)) ?_ ?_
 ·refine AGl (AGi (AT3 AUo rfl H2 (ATm rfl rfl (AGi ?_))));by_cases Ad:(a3.length:Int) < 1
  ·rw [decide_eq_true Ad];refine Abq 10 true (ATh rfl (AGq (ATn rfl (AGl (ATi (ATi (AGw ?_)))))));obtain rfl:=AGk (ifT Ar Ad);refine AGy (ATb ?_);obtain rfl:=AGk Ai;exact ⟨_,Abc,K0.x,rfl⟩
  ·have Au:=ifF Ar Ad;rw [decide_eq_false Ad];refine ATo 10 false (AGi (ATo 10 false (AT3 AUo rfl H2 (ATo 10 false (AY6 rfl rfl (ATq rfl (AGq (⟨_,rfl,fun Aj=>?_,fun Aj=>?_⟩))))))))
   ·refine AGl (ATi (ATi (AGw ?_)));obtain rfl:=AGk (AT0 Au Aj);refine AGy (ATb ?_);obtain rfl:=AGk Ai;exact ⟨_,Abc,K0.x,rfl⟩
   ·refine AGx (q_t ?_);exact ⟨(():Unit),⟨AGk (AT1 Au Aj),K0⟩,trivial⟩
 rintro ⟨⟩ Bc Be ⟨A4,Av⟩;subst A4;refine AGn (AGl (AGi (AT3 AUo rfl H2 (AGi (AGq (AGo (AY2 549755682908 Ai (fun x=>[(17,(.int .i64 x))]) (fun x=>Av.L) Av ⟨rfl,trivial⟩ ?_)))))));rintro Bf Bg Bh Bi Aa Ak Ae;unfold AY3 at Ak;refine AGl (ATm rfl rfl (AGq (AGn (⟨_,rfl,fun Am=>?_,fun Am=>?_⟩))))
 ·refine AGx (q_t (AGn (AGo (AGl ?_))));obtain ⟨Aw,A5,Ax⟩:=AGm (AT0 Ak Am);refine Ac2 AUo AWb H2 Aa.x A5 fun _ Bj Ao=>ATx (AGi (AUn AVl rfl Ao (ATm rfl rfl (AGi ?_))));by_cases Af:(Aw.length:Int) < 1
  ·rw [decide_eq_true Af];refine Abq 24 true (ATh rfl (AGi (Acd 29 true (Ae3 29 true (ATh rfl (AGq (ATn rfl (AGl (ATi (ATi (AGw (AGy (AUf (ATb (ATb (AUf (ATb ?_)))))))))))))))));obtain rfl:=AGk (Ae _ (AGk (ifT Ax Af)).symm);exact ⟨_,Abc,Aa.x,rfl⟩
  ·have Ay:=ifF Ax Af;rw [decide_eq_false Af];refine ATo 24 false (AGi (ATo 24 false (AUn AVl rfl Ao (ATo 24 false (AY6 rfl rfl (ATq rfl (AGi ?_)))))));by_cases Ag:16 < (Aw.length:Int)
   ·rw [decide_eq_true Ag];refine Acd 29 true (Ae3 29 true (ATh rfl (AGq (ATn rfl (AGl (ATi (ATi (AGw (AGy (AUf (ATb (ATb (AUf (ATb ?_))))))))))))));obtain rfl:=AGk (Ae _ (AGk (ifT Ay Ag)).symm);exact ⟨_,Abc,Aa.x,rfl⟩
   ·rw [decide_eq_false Ag];refine ATo 29 false (AGi (ATo 29 false (AUn AVl rfl Ao (ATo 29 false (AGi (ATo 29 false ?_))))));obtain ⟨Bl,A6,Az⟩:=AGm (ifF Ay Ag);refine Al8 AUo rfl H2 rfl A6 fun Bm Bn Bo A7 A8=>ATo 29 false (ATz AWb rfl (ATl A7 Aa.x) (ATo 29 false (AUn AVl rfl A8 (ATo 29 false (AXa rfl rfl (ATq rfl (AGq (⟨_,rfl,fun Ap=>?_,fun Ap=>?_⟩))))))))
    ·refine AGl (ATi (ATi (AGw (AGy (AUf (ATb (ATb (AUf (ATb ?_)))))))));obtain rfl:=AGk (Ae _ (AGk (AT0 Az Ap)).symm);exact ⟨_,Abc,Aa.x,rfl⟩
    ·refine AGx (q_b (q_t (AS3 (ATj rfl rfl (AGi (AGq ?_))))));exact ⟨_,(AGk (AT1 Az Ap)).symm,Aa,rfl,trivial⟩
 ·refine AS9 (ATa (ATa (AT9 (q_t (AGn (AXm (AGi (AT3 AUo rfl H2 (AGi ?_)))))))));obtain ⟨Bp,A9,Ba⟩:=AGm (Ae _ (AGk (AT1 Ak Am)).symm);refine Ac2 AUo AWb H2 Aa.x A9 fun _ Bq Bb=>AUn AVl rfl Bb (ATi (ATi (AGw (AGy ?_))));obtain rfl:=AGk Ba;exact ⟨_,Abc,Aa.x,rfl⟩
def AWw (fuel:Nat) (a3:LiI):Option (Int × Bool):=
  ((AVh fuel a3).bind fun (x5,x6,x7)=>(if (!x7)=true then (some (0,false)) else (if ¬ x5=x6 then (some (0,false)) else (some (x5,true)))))
theorem Aev {fuel:Nat} {h:AGs} {Ad:Value} {a3:LiI} {r:(Int × Bool)} (H2:AXq cZ h Ad a3) (hp:AWw fuel a3=some r):ATt Tryz.prog 89 #[Ad] h (fun x h'=>Ext h h'/\x= .tuple #[.int .i64 r.1,.bool r.2]):=by
 unfold AWw at hp;refine cwf (l:=[_]) Tryz.func89 rfl rfl (AGl (ATi (ATx (AGi ?_))));have K0:=Kst.k0 h;obtain ⟨⟨x5,x6,x7⟩,Ak,Aa⟩:=AGm hp;dsimp only at Aa;refine AXx K0 (AY4 (H2.ext K0.x) Ak) fun Ap Aq Ab=>AGi (AUe rfl rfl (AUe rfl rfl (AUe rfl rfl (ATi (ATi (AGw (AGn (AGl (AGi (AWp rfl (AGi ?_)))))))))));cases Ag:(!x7)
 ·refine ATo 15 false (AGi (ATo 15 false (AGi (ATo 15 false (AXa rfl rfl (ATq rfl (AGq ?_)))))));have Ah:=Aav Aa Ag;refine ⟨_,rfl,fun Ac=>?_,fun Ac=>?_⟩
  ·refine AGl (ATi (AGw (AGy (ATb ?_))));obtain rfl:=AGk (AT0 Ah Ac);exact ⟨_,AUm,Ab.x,rfl⟩
  ·refine AGx (q_t (AGl (AGi (ATi (AGw (AGy ?_))))));obtain rfl:=AGk (AT1 Ah Ac);exact ⟨_,AUm,Ab.x,rfl⟩
 ·refine Abq 15 true (ATh rfl (AGq (ATn rfl (AGl (ATi (AGw (AGy (ATb ?_))))))));obtain rfl:=AGk (ifT Aa Ag);exact ⟨_,AUm,Ab.x,rfl⟩
def Acj (fuel:Nat) (Ac:Int) (Ad:LiA) (Aa:Int) (Ab:LiI):Option ((Int × LiI) ⊕ ((LiI))):=
  (if Aa < (Ad.length:Int) then ((gI Ad Aa).bind fun Af=>((gI Ab Ac).bind fun Ae=>((Ajh fuel Af).bind fun Ag=>(if Ae.length<=100000000 then (some (Sum.inl ((w64 (Aa + 1)),(sI Ab Ac (Ae ++ [Ag]))))) else none)))) else (some (Sum.inr<| Ab)))
def Ack (fuel:Nat) (a3:LiI) (Aa:Int) (Ac:LiI):Option ((Int × LiI) ⊕ ((LiI))):=
  (if Aa < (a3.length:Int) then ((gI a3 Aa).bind fun Ad=>((iter (fun s=>Acj fuel Aa Ad s.1 s.2) fuel (0,Ac)).bind (fun (Ae:LiI)=>(some (Sum.inl ((w64 (Aa + 1)),Ae)))))) else (some (Sum.inr<| Ac)))
def AXz (fuel:Nat) (a3:LiI):Option LiI:=
  (if 0<=(a3.length:Int)/\(a3.length:Int)<=100000000 then ((iter (fun s=>Ack fuel a3 s.1 s.2) fuel (0,(List.replicate (Int.toNat (a3.length:Int)) ([]:List Int)))).bind (fun (Ab:LiI)=>(some Ab))) else none)
theorem Afo {fuel:Nat} {h:AGs} {Aq:Value} {a3 r:LiI} (H2:AXq cZ h Aq a3) (hp:AXz fuel a3=some r):ATt Tryz.prog 53 #[Aq] h (fun x h'=>Ext h h'/\ ∃ (x0:Value) (F0:List Nat) (A4:List LnA) (A5:List Value),x=x0/\AVo cZ 131 93 h' F0 A4 A5 x0 r/\Sp h' h.size [F0]):=by
 unfold AXz at hp;refine cwf (l:=[_]) Tryz.func53 rfl rfl (AGl (ATx (AGi (AT3 AUo rfl H2 ?_))));obtain ⟨A6,A7⟩:=ifN hp;refine Ajd cZ 93 AUo Avz rfl trivial tt2 rfl rfl AGj A6 fun A8 A9 Ba v11 h9 Bb E7 S8=>AGw (AGn (AGl (AGi (AT3 AUo rfl H2 (AGi (AGq (AGo ?_)))))));have Av:=(Kst.k0 h).no2 E7 S8 Bb;refine AX3 137438949456 (fun x:(Int) × (LiI) × LnA × LnN × LvA=>(x.1,x.2.1)) ((0,(List.replicate (Int.toNat (a3.length:Int)) ([]:List Int)),A8,A9,Ba):(Int) × (LiI) × LnA × LnN × LvA) A7 (fun x=>[(12,(.int .i64 x.1))]) (fun x=>Av.L.set 0 (aO2 cZ 131 93 x.2.2.1 x.2.2.2.1 x.2.2.2.2 v11 x.2.1)) Av ⟨rfl,trivial⟩ ?_;rintro ⟨Cg,Bf,Bg,Bh,Bi⟩ Ch Ci Cj Ab Ah Bj;unfold Ack at Ah;refine AGl (ATm rfl rfl (AGq (AGn (⟨_,rfl,fun Ai=>?_,fun Ai=>?_⟩))))
 ·refine AGx (q_t (AGn (AGo (AGl (AGi (ATx (AGi (AGi ?_))))))));obtain ⟨Ck,Bl,Bm⟩:=AGm (AT0 Ah Ai);refine Ac2 AUo AWb H2 Ab.x Bl fun _ Cm Aw=>AUn AVl rfl Aw (AGi (AGq (AGo (AX3 68718428224 (fun x:(Int) × (LiI) × LnA × LnN × LvA=>(x.1,x.2.1)) ((0,Bf,Bg,Bh,Bi):(Int) × (LiI) × LnA × LnN × LvA) Bm (fun x=>[(20,(.int .i64 x.1))]) (fun x=>Ab.L.set 0 (aO2 cZ 131 93 x.2.2.1 x.2.2.2.1 x.2.2.2.2 v11 x.2.1)) Ab ⟨rfl,trivial⟩ ?_))));rintro ⟨Cn,Co,Cp,Cq,Cr⟩ Ct Cu Cv Ad Aj Bn;unfold Acj at Aj;refine AGl (ATm rfl rfl (AGq (AGn (⟨_,rfl,fun Ak=>?_,fun Ak=>?_⟩))))
  ·refine AGx (q_t (AGn (AGo (AGl ?_))));obtain ⟨Cw,Bo,Bp⟩:=AGm (AT0 Aj Ak);refine Ac0 (c:=cZ) AVl rfl Aw rfl Bo fun Cx Cy Bq Ae Br=>Afm (c:=cZ) AT6 rfl (Ad.zx Ae) (fun j u hu=>(ATl (Br j u hu) Ad.x)) (AVt Ad [.bool false,.slice none 0 0] AW9 fun Cz Bt C0 Ax=>AYa Ax p0 (AS6 Bt) (Ax.zx Ae) fun Am Aa=>AGq ?_);obtain ⟨C1,Ao,Bu⟩:=AGm Bp;obtain ⟨Ay,Bv,Bw,Bx,By⟩:=(Aa.o2 p1).rowG Ao;refine AU8 (fun h'=>UpT (Ay ++ []) Am h') AGv ?_;have Ac:UpT (Ay ++ []) Am Am:=UpT.start (AVj Bx all_nil);refine AGi (AGi (AGi (AGi (AVd AUo rfl (Aa.o2 p1) rfl Ao fun C2 C3 Bz B1 B3=>AUy AWb rfl Ac (fun h' hb=>Ads B3 hb (Ajs (By _ Bz) Ajt)) (Aat Bq AT6 (cZ.klen (Aa.zx Ae)) rfl Ac (fun h' hb=>((Aa.b p0).upT hb (A3c (fun b hb hg=>(Aa.dj p0 p1 AGj) b hb (Bw b hg)) A3d)).agg) ?_)))));obtain ⟨C4,B4,B5⟩:=AGm Bu;refine AXd Ac (fun _ E=>Ac.thenE E) rfl (Ak1 (Aa.zx Ae).2 B4) fun C5 C6 Az B6=>?_;obtain ⟨C7,rfl,B7⟩:=B6;have A3:=Ac.thenE Az;obtain ⟨C8,rfl,B8⟩:=B7.cs;have Ap:=(Aa.e Az).az B8;obtain ⟨B9,Ca⟩:=ifN B5;refine A06 AVl AW9 rfl rfl AUo AWb (Ap.o2 p2) B1 Ao Bv A3 (fun _ U=>A3.then U (Aeu rfl)) (fun _=>rfl) rfl (Ap.z p0) (fun _ _=>rfl) (fun _ _=>rfl) rfl AGj B9 fun C9 Da Db Dc Dd De Df Cb Cd Ce=>ATf (q_b (q_t (AS3 (ATj rfl rfl (AGi (AGq ?_))))));exact ⟨(_,_,_,_,_),(AGk Ca).symm,(Ap.uo2 p2 Cd Cb Ce).sel [2] AGj,rfl,trivial⟩
  ·refine AS9 (ATa (ATa (AT9 (q_b (q_t (AS3 (ATj rfl rfl (AGi (AGq ?_)))))))));exact ⟨(_,_,_,_,_),(AGk (Bn _ (AGk (AT1 Aj Ak)).symm)).symm,Ad,rfl,trivial⟩
 ·refine AS9 (ATa (ATa (AT9 (q_t (AGl (AGi (AGw (AGy ?_))))))));obtain rfl:=AGk (Bj _ (AGk (AT1 Ah Ai)).symm);exact ⟨_,AS1,Ab.x,_,_,_,_,rfl,(Ab.o2 p0),Ab.s.sel [0] AGj⟩
def Abg (fuel:Nat) (a3:LiI) (Ac:LiA) (Ae:Int) (Aa:LiA) (Ab:Int):Option ((LiA × Int) ⊕ ((LiA))):=
  (if Ab < (Ac.length:Int) then ((gI Ac Ab).bind fun Af=>((gI a3 Ae).bind fun Ag=>((gI Ag Af).bind fun Ah=>(if Aa.length<=100000000 then (some (Sum.inl ((Aa ++ [Ah]),(w64 (Ab + 1))))) else none)))) else (some (Sum.inr<| Aa)))
def Abh (fuel:Nat) (a3:LiI) (a7 Ae:LiA) (Aa:LiI) (Ab:Int):Option ((LiI × Int) ⊕ ((LiI))):=
  (if Ab < (a7.length:Int) then ((gI a7 Ab).bind fun Af=>((iter (fun s=>Abg fuel a3 Ae Af s.1 s.2) fuel ([],0)).bind (fun (Ag:LiA)=>(if Aa.length<=100000000 then (some (Sum.inl ((Aa ++ [Ag]),(w64 (Ab + 1))))) else none)))) else (some (Sum.inr<| Aa)))
def AWx (fuel:Nat) (a3:LiI) (a7 Ac:LiA):Option LiI:=
  ((iter (fun s=>Abh fuel a3 a7 Ac s.1 s.2) fuel ([],0)).bind (fun (Ad:LiI)=>(some Ad)))
theorem Aew {fuel:Nat} {h:AGs} {Ag:Value} {a3:LiI} {Ai:Value} {a7:LiA} {Ak:Value} {Am:LiA} {r:LiI} (H2:AXq cZ h Ag a3) (H6:SlC (cI .i64) h Ai a7) (Ap:SlC (cI .i64) h Ak Am) (hp:AWx fuel a3 a7 Am=some r):ATt Tryz.prog 136 #[Ag,Ai,Ak] h (fun x h'=>Ext h h'/\ ∃ (x0:Value) (F0:List Nat) (Ay:List LnA) (Az:List Value),x=x0/\AVo cZ 131 93 h' F0 Ay Az x0 r/\Sp h' h.size [F0]):=by
 unfold AWx at hp;refine cwf (l:=[_,_,_]) Tryz.func136 rfl rfl (AGl (ATx (AGw (AGn (AGl (AGi (AUn Ana rfl H6 (AGi (AGq (AGo ?_))))))))));have Au:=Kst.anil2 cZ 131 93 (Kst.k0 h);refine AX3 2199023228544 (fun x:(LiI) × (Value) × LnA × LnN × LvA × (Int)=>(x.1,x.2.2.2.2.2)) (([],(.slice none 0 0),[],[],[],0):(LiI) × (Value) × LnA × LnN × LvA × (Int)) hp (fun x=>[(7,x.2.1),(15,(.int .i64 x.2.2.2.2.2))]) (fun x=>Au.L.set 0 (aO2 cZ 131 93 x.2.2.1 x.2.2.2.1 x.2.2.2.2.1 x.2.1 x.1)) Au ⟨rfl,rfl,trivial⟩ ?_;rintro ⟨Br,Bt,Bu,Bv,Bw,Bx⟩ By Bz B1 Ab Ac A3;unfold Abh at Ac;refine AGl (ATm rfl rfl (AGq (AGn (⟨_,rfl,fun Ad=>?_,fun Ad=>?_⟩))))
 ·refine AGx (q_t (AGn (AGo (AGl ?_))));obtain ⟨B3,A4,A5⟩:=AGm (AT0 Ac Ad);refine Ari Ana AT2 H6 Ab.x A4 fun _=>(ATx (AGw (AGn (AGl (AGi (AUn Ana rfl Ap (AGi (AGq (AGo ?_)))))))));have Av:=Kst.anil cZ 93 Ab;refine AX3 68717384704 (fun x:(LiA) × (Value) × LnA × (Int)=>(x.1,x.2.2.2)) (([],(.slice none 0 0),[],0):(LiA) × (Value) × LnA × (Int)) A5 (fun x=>[(10,x.2.1),(21,(.int .i64 x.2.2.2))]) (fun x=>Av.L.set 0 (aO cZ 93 x.2.2.1 x.2.1 x.1)) Av ⟨rfl,rfl,trivial⟩ ?_;rintro ⟨B4,B5,B6,B7⟩ B8 B9 Ca Aa Ae A6;unfold Abg at Ae;refine AGl (ATm rfl rfl (AGq (AGn (⟨_,rfl,fun Af=>?_,fun Af=>?_⟩))))
  ·refine AGx (q_t (AGn (AGo (AGl ?_))));obtain ⟨Cb,A7,A8⟩:=AGm (AT0 Ae Af);refine Ari Ana AT2 Ap Aa.x A7 fun _=>(AGw (AS3 (AGi (AGi (AGi ?_)))));obtain ⟨Cd,A9,Ba⟩:=AGm A8;refine Ac2 AUo AWb H2 Aa.x A9 fun _ Ce Bb=>AGi ?_;obtain ⟨Cf,Bc,Be⟩:=AGm Ba;refine Ac0 (c:=cZ) AVl rfl Bb rfl Bc fun Cg Ch Ci Aw Bf=>Afm (c:=cZ) AT6 rfl (Aa.zx Aw) (fun j u hu=>(ATl (Bf j u hu) Aa.x)) ?_;obtain ⟨Bg,Bh⟩:=ifN Be;refine Aep AVl AW9 rfl rfl trivial tt2 (fun _=>rfl) rfl (Aa.zx Aw) (Aa.o p0) AGj Bg fun Cj Ck Cm Cn Bi Bj Bl=>ATi (ATf (q_b (q_t (AS3 (ATj rfl rfl (AGi (AGq ?_)))))));exact ⟨(_,_,_,_),(AGk Bh).symm,(Aa.uo p0 Bj Bi Bl),rfl,rfl,trivial⟩
  ·refine AS9 (ATa (ATa (AT9 (q_t (AS3 (AGi (AGi ?_)))))));obtain ⟨Bm,Bn⟩:=ifN (A6 _ (AGk (AT1 Ae Af)).symm);refine Ay5 AUo Avz rfl rfl trivial tt2 (fun _=>rfl) rfl (Aa.o p0) (Aa.o2 p1) (Aa.dj p0 p1 AGj) AGj Bm fun Co Cp Cq Cr Bo Bp Bq=>ATi (ATf (q_b (q_t (AS3 (ATj rfl rfl (AGi (AGq ?_)))))));exact ⟨(_,_,_,_,_,_),(AGk Bn).symm,(Aa.m2 p0 p1 AGj Bp Bo Bq).sel [1] AGj,rfl,rfl,trivial⟩
 ·refine AS9 (ATa (ATa (AT9 (q_t (AGl (AGi (AGw (AGy ?_))))))));obtain rfl:=AGk (A3 _ (AGk (AT1 Ac Ad)).symm);exact ⟨_,AS1,Ab.x,_,_,_,_,rfl,(Ab.o2 p0),Ab.s.sel [0] AGj⟩
def AYu (fuel:Nat) (Ab:LiI) (Ac:Int) (Ad:LiI) (Aa:Int):Option ((Int) ⊕ ((Int))):=
  (((if Aa < (Ab.length:Int) then ((gI Ad Aa).bind fun Ae=>((gI Ae Ac).bind fun Af=>((Ao4 fuel Af).bind fun Ag=>(if Ag=0 then (some (Sum.inl <| ())) else (some (Sum.inr <| ())))))) else (some (Sum.inr <| ()))):Option ((Unit) ⊕ (Unit))).bind (fun ex=>match ex with | Sum.inl _=>(some (Sum.inl (w64 (Aa + 1)))) | Sum.inr (_)=>(some (Sum.inr<| Aa))))
def AYv (fuel:Nat) (Ag:LiI) (Ac Ah Ae Aa:Int) (Ab:LiI):Option ((Int × LiI) ⊕ ((LiI))):=
  (if Aa < (Ag.length:Int) then ((gI Ab Ae).bind fun Ad=>((gI Ab Ac).bind fun Af=>((gI Af Ac).bind fun Ai=>((gI Ad Aa).bind fun Aj=>((Ajg fuel Ai Aj).bind fun Ak=>((gI Ad Ac).bind fun Am=>((gI Af Aa).bind fun Ao=>((Ajg fuel Am Ao).bind fun Ap=>((A8m fuel Ak Ap).bind fun Aq=>((AVr fuel Aq Ah).bind fun Ar=>(some (Sum.inl ((w64 (Aa + 1)),(sI Ab Ae (sI Ad Aa Ar))))))))))))))) else (some (Sum.inr<| Ab)))
def AYw (fuel:Nat) (Ab:LiI) (Ac Ae Aa:Int) (Ad:LiI):Option ((Int × LiI) ⊕ ((LiI))):=
  (if Aa < (Ab.length:Int) then ((iter (fun s=>AYv fuel Ab Ac Ae Aa s.1 s.2) fuel ((w64 (Ac + 1)),Ad)).bind (fun (Af:LiI)=>(some (Sum.inl ((w64 (Aa + 1)),Af))))) else (some (Sum.inr<| Ad)))
def AYx (fuel:Nat) (Ac:LiI) (Ae:Bool) (Aa:Int) (Ab:LiI) (Af:Int):Option ((Bool × Int × LiI × Int) ⊕ ((Int) ⊕ (Bool × Int))):=
  (if Aa < (Ac.length:Int) then ((((((iter (fun s=>AYu fuel Ac Aa Ab s) fuel Aa).bind (fun (Ah:Int)=>(some ( Ah)))):Option ((Int))).bind (fun (Ad:Int)=>(if Ad=(Ac.length:Int) then (some (Sum.inl <| 0)) else (((if Aa < Ad then ((gI Ab Aa).bind fun Ai=>((gI Ab Ad).bind fun Aj=>(some ( ((!Ae),(sI (sI Ab Ad Ai) Aa Aj)))))) else (some ( (Ae,Ab)))):Option ((Bool × LiI))).bind (fun ((Ak,Am):Bool × LiI)=>((iter (fun s=>AYw fuel Ac Aa Af s.1 s.2) fuel ((w64 (Aa + 1)),Am)).bind (fun (Ag:LiI)=>((gI Ag Aa).bind fun Ao=>((gI Ao Aa).bind fun Ap=>(some (Sum.inr <| (Ak,Ag,Ap)))))))))))):Option ((Int) ⊕ (Bool × LiI × Int))).bind (fun ex=>match ex with | Sum.inl Aq=>(some (Sum.inr<| Sum.inl <| Aq)) | Sum.inr ((Ar,Au,Av))=>(some (Sum.inl (Ar,(w64 (Aa + 1)),Au,Av))))) else (some (Sum.inr<| Sum.inr <| (Ae,Af))))
def AUj (fuel:Nat) (a3:LiI):Option Int:=
  ((AXz fuel a3).bind fun Aa=>((Ad1 fuel 1).bind fun Ad=>((iter (fun s=>AYx fuel Aa s.1 s.2.1 s.2.2.1 s.2.2.2) fuel (false,0,Aa,Ad)).bind (fun ex=>match ex with | Sum.inl Ae=>(some Ae) | Sum.inr ((Af,Ab))=>(if Af=true then ((Av0 fuel Ab).bind fun Ag=>(some Ag)) else (some Ab))))))
theorem AWy {fuel:Nat} {h:AGs} {Bj:Value} {a3:LiI} {r:Int} (H2:AXq cZ h Bj a3) (hp:AUj fuel a3=some r):ATt Tryz.prog 49 #[Bj] h (fun x h'=>Ext h h'/\ ∃ (x0:Value),x=x0/\ZZ h' x0 r):=by
 unfold AUj at hp;refine cwf (l:=[_]) Tryz.func49 rfl rfl (AGl (AVt (Kst.k0 h) [.bool false,.slice none 0 0] AW9 fun b5 h6 E8 Bn=>AZf (AGi ?_)));obtain ⟨Bo,Cx,Cy⟩:=AGm hp;refine Ahc Bn (Afo (H2.ext Bn.x) Cx) fun Cz C0 C1 v20 Gh Gi Bp=>ATx (AGi (AT3 AUo rfl (Bp.o2 p0).rd (ATx ?_)));obtain ⟨C2,C3,C4⟩:=AGm Cy;refine Agc Bp (Acg C3) fun C5 Gj Gk C6=>AVt C6 [.bool false,.slice none 0 0] AW9 fun Bq C7 Gl Br=>AYa Br p0 (AS6 C7) (Br.z p1) fun Gm Bt=>AGw (AGn (AGl (AGw (AGo (AX3 2658455991569831745807614120560625600 (fun x:(Bool) × (Int) × (LiI) × LnA × LnN × LvA × (Int) × LvA=>(x.1,x.2.1,x.2.2.1,x.2.2.2.2.2.2.1)) ((false,0,Bo,Cz,C0,C1,C2,C5):(Bool) × (Int) × (LiI) × LnA × LnN × LvA × (Int) × LvA) C4 (fun x=>[(6,(.bool x.1)),(7,(.int .i64 x.2.1))]) (fun x=>((Bt.L.set 2 (aO2 cZ 131 93 x.2.2.2.1 x.2.2.2.2.1 x.2.2.2.2.2.1 v20 x.2.2.1)).set 1 (aZ x.2.2.2.2.2.2.2 x.2.2.2.2.2.2.1)).set 0 (aB 93 Bq x.2.2.2.2.2.2.2)) Bt ⟨rfl,rfl,trivial⟩ ?_)))));rintro ⟨Bu,Ag,Bv,C8,C9,Da,Gn,Gp⟩ Gq Db Gr Ab Ax Bw;unfold AYx at Ax;refine AGn (AGl (AGi (AGi (ATm rfl rfl (AGq (⟨_,rfl,fun Ay=>?_,fun Ay=>?_⟩))))))
 ·refine AGx (q_t ?_);obtain ⟨Dc,Dd,Bx⟩:=AGm (AT0 Ax Ay);refine Aey 2658455991569831745807614120558593856 (fun x:(Bool) × (LiI) × LnA × LnN × LvA × (Int) × LvA=>[(6,(.bool x.1))]) (fun x h'=>(Sum.inr <| (x.1,x.2.1,x.2.2.2.2.2.1))=Dc/\Kst h h' (((Ab.L.set 2 (aO2 cZ 131 93 x.2.2.1 x.2.2.2.1 x.2.2.2.2.1 v20 x.2.1)).set 1 (aZ x.2.2.2.2.2.2 x.2.2.2.2.2.1)).set 0 (aB 93 Bq x.2.2.2.2.2.2))) ?_ ?_
  ·refine AGo (AGl (AGi (AGw ?_)));obtain ⟨De,Df,By⟩:=AGm Dd;refine Aey 274873712896 (fun x:(Int)=>[(8,(.int .i64 x))]) (fun x h'=>( x)=De/\Kst h h' (Ab.L)) ?_ ?_
   ·refine AGo (AY2 274873712896 Df (fun x=>[(8,(.int .i64 x))]) (fun x=>Ab.L) Ab ⟨rfl,trivial⟩ ?_);rintro Am Gt Gu Gv Ah Bz B1;unfold AYu at Bz;obtain ⟨Dg,B3,Az⟩:=AGm Bz;refine Aey 68715282432 (fun x:Unit=>[]) (fun x h'=>(Sum.inl <| ())=Dg/\Kst h h' (Ah.L)) ?_ ?_
    ·refine AGl (AGi (AGi (ATm rfl rfl (AGi ?_))));by_cases Ao:Am < (Bo.length:Int)
     ·rw [decide_eq_true Ao];refine ATo 25 true (AGi (ATo 25 true (AGi (ATo 25 true ?_))));obtain ⟨Gw,A3,Dh⟩:=AGm (ifT B3 Ao);refine AVd AUo rfl (Ah.o2 p2) rfl A3 fun Gx Gy Gz Di Dj=>ATo 25 true (ATz AWb rfl Dj (ATo 25 true (AGi (ATo 25 true ?_))));obtain ⟨G3,B4,Dk⟩:=AGm Dh;refine AWc (m:=Am) AVl rfl (Ah.o2 p2) Di A3 rfl B4 fun G4 Dl=>ATo 25 true ?_;obtain ⟨G5,Do,Dp⟩:=(Ah.o2 p2).cells Dl A3 B4;have A4:=Ah.az Do;refine Afm (c:=cZ) AT6 rfl (A4.z p0) (fun j u hu=>(Dp j u hu)) (ATo 25 true ?_);obtain ⟨G6,Dq,B5⟩:=AGm Dk;refine AXx A4 (Aob (A4.z p0).2 Dq) fun G7 G8 B6=>ATo 25 true (AV2 rfl rfl (ATh rfl (AGq (⟨_,rfl,fun A5=>?_,fun A5=>?_⟩))))
      ·refine AGx (q_t ?_);exact ⟨(():Unit),⟨AGk (AT0 B5 A5),B6.sel [1,2,3,4] AGj⟩,trivial⟩
      ·obtain rfl:=AGk (AT1 B5 A5);refine AS9 (ATa (ATa (AT9 (q_t ?_))));exact ⟨(Am:(Int)),⟨AGk (B1 _ (AGk Az).symm),B6.sel [1,2,3,4] AGj⟩,rfl,trivial⟩
     ·rw [decide_eq_false Ao];refine Acd 25 false (Afz 25 false (ATq rfl (AGq (ATp rfl ?_))));obtain rfl:=AGk (ifF B3 Ao);refine AS9 (ATa (ATa (AT9 (q_t ?_))));exact ⟨(Am:(Int)),⟨AGk (B1 _ (AGk Az).symm),Ah⟩,rfl,trivial⟩
    rintro ⟨⟩ G9 Hb ⟨Dr,Ds⟩;subst Dr;refine AGo (AS3 (AGi (ATj rfl rfl (ATi (ATf (q_b (q_t ?_)))))));exact ⟨_,(AGk Az).symm,Ds,rfl,trivial⟩
   rintro Dt Hc B7 ⟨Du,Ae⟩;subst Du;refine AGn (AGl (AGi (AGi (AV2 rfl rfl (AGq (⟨_,rfl,fun A6=>?_,fun A6=>?_⟩))))))
   ·refine AGl (AWe (Af9 ) (AYa Ae p3 (AS6 B7) (AS6 B7) fun B8 B9=>AGq ?_));obtain rfl:=AGk (AT0 By A6);refine AGy (ATb (AUf (ATb (ATb (AUf (ATb ?_))))));obtain rfl:=AGk (Bw _ (AGk Bx).symm);exact ⟨_,AU6 AT6 (cZ.klen (AS6 B8)) rfl (B9.b p3),B9.x,_,rfl,(AS6 B8).2⟩
   ·refine AGx (q_t ?_);obtain ⟨Dv,Ca,Dw⟩:=AGm (AT1 By A6);refine Aey 2305838611167182912 (fun x:(Bool) × (LiI) × LnA × LnN × LvA=>[(6,(.bool x.1))]) (fun x h'=>( (x.1,x.2.1))=Dv/\Kst h h' (Ae.L.set 2 (aO2 cZ 131 93 x.2.2.1 x.2.2.2.1 x.2.2.2.2 v20 x.2.1))) ?_ ?_
    ·refine AGl (AGi (AGi (AY6 rfl rfl (AGq (⟨_,rfl,fun A7=>?_,fun A7=>?_⟩)))))
     ·refine AGn (AXm (AGi (AGi (AGi (AGi (AGi (AGi ?_)))))));obtain ⟨Dx,Cb,Dy⟩:=AGm (AT0 Ca A7);refine AUg AUo AWb (Ae.o2 p2) Cb fun _ Hd Dz=>AGi (AGi ?_);obtain ⟨D0,Cd,D1⟩:=AGm Dy;refine AUg AUo AWb (Ae.o2 p2) Cd fun _ He D2=>Aff AUo AWb (Ae.o2 p2) D2 Dz Cd Cb rfl rfl (fun _=>rfl) (fun _=>rfl) (fun _=>rfl) (fun _ _=>rfl) fun Hf Hg D3 D4 D5 Hh D6 D7 D8=>AGq (AS3 (AGi (AWp rfl (AGw ?_))));exact ⟨(((!Bu),(sI (sI Bv Dt Dx) Ag D0),D3,D4,D5):(Bool) × (LiI) × LnA × LnN × LvA),⟨AGk D1,(Ae.uo2 p2 D7 D6 D8)⟩,rfl,trivial⟩
     ·refine AGx (q_t ?_);exact ⟨((Bu,Bv,C8,C9,Da):(Bool) × (LiI) × LnA × LnN × LvA),⟨AGk (AT1 Ca A7),Ae⟩,rfl,trivial⟩
    rintro ⟨D9,Ea,Eb,Ec,Ed⟩ Hj Hk ⟨Ee,Ce⟩;subst Ee;refine AGn (AGl (AGi (ATj rfl rfl (AGw (AGo (AX3 20769187434139301290749948462106112 (fun x:(Int) × (LiI) × LnA × LnN × LvA=>(x.1,x.2.1)) (((w64 (Ag + 1)),Ea,Eb,Ec,Ed):(Int) × (LiI) × LnA × LnN × LvA) Dw (fun x=>[(9,(.int .i64 x.1))]) (fun x=>Ce.L.set 2 (aO2 cZ 131 93 x.2.2.1 x.2.2.2.1 x.2.2.2.2 v20 x.2.1)) Ce ⟨rfl,trivial⟩ ?_))))));rintro ⟨Ap,Cf,Cg,Ch,Ci⟩ Hl Hm Hn Ai A8 Ef;unfold AYw at A8;refine AGn (AGl (AGi (AGi (ATm rfl rfl (AGq (⟨_,rfl,fun A9=>?_,fun A9=>?_⟩))))))
    ·refine AGx (q_t (AGn (AGo (AGl (AGi (ATj rfl rfl (AGw (AGo (AX3 20769187434138129922501267905577984 (fun x:(Int) × (LiI) × LnA × LnN × LvA=>(x.1,x.2.1)) (((w64 (Ag + 1)),Cf,Cg,Ch,Ci):(Int) × (LiI) × LnA × LnN × LvA) (AT0 A8 A9) (fun x=>[(10,(.int .i64 x.1))]) (fun x=>Ai.L.set 2 (aO2 cZ 131 93 x.2.2.1 x.2.2.2.1 x.2.2.2.2 v20 x.2.1)) Ai ⟨rfl,trivial⟩ ?_)))))))));rintro ⟨Ho,Hq,Hr,Hs,Ht⟩ Hu Ba Hv Aa Bb Eg;unfold AYv at Bb;refine AGn (AGl (AGi (AGi (ATm rfl rfl (AGq (⟨_,rfl,fun Bc=>?_,fun Bc=>?_⟩))))))
     ·refine AGx (q_t (AGn (AGo (AU8 (fun h'=>UpT [] Ba h') AGv ?_))));have Ad:UpT [] Ba Ba:=UpT.start all_nil;refine AGi (AGi ?_);obtain ⟨Hw,Ac,Eh⟩:=AGm (AT0 Bb Bc);refine AVd AUo rfl (Aa.o2 p2) rfl Ac fun Hx Hy Hz Ei Ej=>AUy AWb rfl Ad (fun h' hb=>ATl Ej hb.ext) (AGi (AGi (AGi ?_)));obtain ⟨Ia,Aj,Ek⟩:=AGm Eh;refine AVd AUo rfl (Aa.o2 p2) rfl Aj fun Ib Ic Id El Em=>AUy AWb rfl Ad (fun h' hb=>ATl Em hb.ext) (AGi ?_);obtain ⟨Ie,Cj,En⟩:=AGm Ek;refine AWc (m:=Ag) AVl rfl (Aa.o2 p2) El Aj rfl Cj fun If Eo=>?_;obtain ⟨Ih,Ck,Ep⟩:=(Aa.o2 p2).cells Eo Aj Cj;refine Ajr (c:=cZ) AT6 rfl Ck Ad (fun h' hb j u hu=>ATl (Ep j u hu) hb.ext) (AGi (AGi (AVd AUo rfl (Aa.o2 p2) rfl Ac fun Ii Ij Ik Er Es=>AUy AWb rfl Ad (fun h' hb=>ATl Es hb.ext) (AGi ?_))));obtain ⟨Il,Aq,Et⟩:=AGm En;refine AWc (m:=Ap) AVl rfl (Aa.o2 p2) Er Ac rfl Aq fun Im Eu=>?_;obtain ⟨Io,Cm,Ev⟩:=(Aa.o2 p2).cells Eu Ac Aq;refine Ajr (c:=cZ) AT6 rfl Cm Ad (fun h' hb j u hu=>ATl (Ev j u hu) hb.ext) ?_;have Be:=(Aa.az (cZ.upT Ck Ad)).az (cZ.upT Cm Ad);obtain ⟨Ip,Ew,Ey⟩:=AGm Et;refine AXy Be Ad (Ahr (Be.z p1).2 (Be.z p0).2 Ew) fun Iq Ir Is Ez Af=>AGi (AGi (AVd AUo rfl (Aa.o2 p2) rfl Ac fun It Iu Iv Fa Fb=>AUy AWb rfl Af (fun h' hb=>ATl Fb hb.ext) (AGi ?_)));obtain ⟨Iw,Cn,Fc⟩:=AGm Ey;refine AWc (m:=Ap) AVl rfl (Aa.o2 p2) Fa Ac rfl Cn fun Ix Fd=>?_;obtain ⟨Iy,Co,Fe⟩:=(Aa.o2 p2).cells Fd Ac Cn;refine Ajr (c:=cZ) AT6 rfl Co Af (fun h' hb j u hu=>ATl (Fe j u hu) hb.ext) (AGi (AGi (AVd AUo rfl (Aa.o2 p2) rfl Aj fun Iz I0 I1 Ff Fg=>AUy AWb rfl Af (fun h' hb=>ATl Fg hb.ext) (AGi ?_))));obtain ⟨I2,Cp,Fh⟩:=AGm Fc;refine AWc (m:=Ag) AVl rfl (Aa.o2 p2) Ff Aj rfl Cp fun I3 Fi=>?_;obtain ⟨I5,Cq,Fj⟩:=(Aa.o2 p2).cells Fi Aj Cp;refine Ajr (c:=cZ) AT6 rfl Cq Af (fun h' hb j u hu=>ATl (Fj j u hu) hb.ext) ?_;have Bf:=(Ez.az (cZ.upT Co Af)).az (cZ.upT Cq Af);obtain ⟨I6,Fk,Fl⟩:=AGm Fh;refine AXy Bf Af (Ahr (Bf.z p1).2 (Bf.z p0).2 Fk) fun I7 I9 Ja Bg Fm=>?_;obtain ⟨Jc,Fo,Fp⟩:=AGm Fl;refine AXy Bg Fm (A9k (Bg.z p3).2 (Bg.z p0).2 Fo) fun Je Jf Jg Ar Cr=>Agd (Ar.z p8) Cr (Aa.b p0) ?_;obtain ⟨Jh,Fq,Fr⟩:=AGm Fp;refine AXy Ar Cr (AZ1 (Ar.z p0).2 (Ar.z p8).2 Fq) fun Ji Jj Jk Ak Jl=>AWc (m:=Ap) AVl rfl (Aa.o2 p2) Ei Ac rfl Aq fun Jm Ft=>Ac8 (m:=Ap) (Ajb AT6 (cZ.klen (Ak.z p0)) rfl rfl (cZ.one (Ak.z p0))) (Ak.o2 p10) Ft Ac Aq (Ak.z p0) fun Jn Fu Fv=>ATf (q_b (q_t (AS3 (AGi (ATj rfl rfl (AGw ?_))))));exact ⟨(_,_,_,_,_),(AGk Fr).symm,(Ak.uO2 p10 Fv Fu).sel [8,9,10,11] AGj,rfl,trivial⟩
     ·refine AS9 (ATa (ATa (AT9 (q_b (q_t (AS3 (AGi (ATj rfl rfl (AGw ?_)))))))));exact ⟨(_,_,_,_,_),(AGk (Eg _ (AGk (AT1 Bb Bc)).symm)).symm,Aa,rfl,trivial⟩
    ·refine AS9 (ATa (ATa (AT9 (q_t (AS3 (AGi (AGi ?_)))))));obtain ⟨Jo,Bh,Fw⟩:=AGm (Ef _ (AGk (AT1 A8 A9)).symm);refine AUg AUo AWb (Ai.o2 p2) Bh fun _ Jp Fx=>AGi ?_;obtain ⟨Fy,Ct,Fz⟩:=AGm Fw;refine AWc (m:=Ag) AVl rfl (Ai.o2 p2) Fx Bh rfl Ct fun Jq F4=>?_;obtain ⟨F5,F6,F7⟩:=(Ai.o2 p2).cells F4 Bh Ct;have Au:=Ai.az F6;refine Afm (c:=cZ) AT6 rfl (Au.z p0) (fun j u hu=>(F7 j u hu)) (AYa Au p1 (Au.z p2) (Au.z p0) fun Jr F8=>ATf (q_b (q_t ?_)));exact ⟨((D9,Cf,Cg,Ch,Ci,Fy,F5):(Bool) × (LiI) × LnA × LnN × LvA × (Int) × LvA),⟨AGk Fz,F8.sel [1,0,3,4] AGj⟩,rfl,trivial⟩
  rintro ⟨Js,Jt,Ju,Jv,Jw,Jx,Jy⟩ Jz J0 ⟨F9,Ga⟩;subst F9;refine AS3 (AGi (ATj rfl rfl (AGw ?_)));exact ⟨(_,_,_,_,_,_,_,_),(AGk Bx).symm,Ga,rfl,rfl,trivial⟩
 ·refine AS9 (ATa (ATa (AT9 (q_t (AGn (AGl (AGi (AGq ?_))))))));have Cu:=Bw _ (AGk (AT1 Ax Ay)).symm;refine ⟨_,rfl,fun Bi=>?_,fun Bi=>?_⟩
  ·refine AGl (Ach (Ab.z p1) (Ab.b p0) ?_);obtain ⟨J1,Gb,Gc⟩:=AGm (ifT Cu Bi);refine Agc Ab (Aua (Ab.z p1).2 Gb) fun J2 Gd J3 Cv=>AYa Cv p4 (AS6 Gd) (Cv.z p0) fun J4 Av=>AGq (AGy (ATb ?_));obtain rfl:=AGk Gc;exact ⟨_,AU6 AT6 (cZ.klen (Av.z p0)) rfl (Av.b p4),Av.x,_,rfl,(Av.z p0).2⟩
  ·refine AGx (q_t (AGl (Ach (Ab.z p1) (Ab.b p0) (AYa Ab p3 (AS6 Db) (Ab.z p1) fun J5 Aw=>AGq (AGy ?_)))));obtain rfl:=AGk (Aav Cu Bi);exact ⟨_,AU6 AT6 (cZ.klen (Aw.z p1)) rfl (Aw.b p3),Aw.x,_,rfl,(Aw.z p1).2⟩
end Go.Proofs.YthbndcbclhkepaaGreatDoor
namespace Go.Proofs.YthbndcbclhkepaaGreatDoor
open Go Go.QF
set_option maxRecDepth 100000
theorem A30 {na:Bool} {m:Nat} {z:Int} (h:z=sgn na m):AX5 z=1->z=m:=by
 cases na
 ·intro _;rw [h];rfl
 ·intro h1;rw [h] at h1 ⊢;unfold AX5 sgn at h1;unfold sgn;simp at h1 ⊢;split at h1 <;> (try split at h1) <;> omega
theorem A31 {na:Bool} {m:Nat} {z:Int} (h:z=sgn na m):AX5 z= -1->z= -(m:Int):=by
 cases na
 ·intro h1;rw [h] at h1 ⊢;unfold AX5 sgn at h1;unfold sgn;simp at h1 ⊢;split at h1 <;> (try split at h1) <;> omega
 ·intro _;rw [h];rfl
def Aj5 (a b:Int):Int:=if a < b then -1 else if a=b then 0 else 1
theorem Ax3 {a b:Int} (h:AX5 a≠AX5 b) (h2:AX5 a < AX5 b):Aj5 a b= -1:=by
 unfold AX5 at h h2;unfold Aj5;repeat' split at h2
 all_goals (rw [if_pos AGh])
theorem Ax4 {a b:Int} (h:AX5 a≠AX5 b) (h2: ¬ AX5 a < AX5 b):Aj5 a b=1:=by
 unfold AX5 at h h2;unfold Aj5
 rw [if_neg (by
   repeat' split at h2
   all_goals (repeat' split at h)
   all_goals omega),if_neg (by
     repeat' split at h2
     all_goals (repeat' split at h)
     all_goals omega)]
theorem Auc {na nb:Bool} {m k:Nat} {a b:Int} (ha:a=sgn na m) (hb:b=sgn nb k) (h:AX5 a=AX5 b):AX5 a * Ae0 m k=Aj5 a b:=by
 have h3:AX5 a= -1∨AX5 a=0∨AX5 a=1:=by unfold AX5;split;exact .inl rfl;split;exact .inr (.inl rfl);exact .inr (.inr rfl)
 rcases h3 with h1 | h1 | h1
 ·have e1:=A31 ha h1;have e2:=A31 hb (h ▸ h1);rw [h1];unfold Ae0 Aj5;repeat' split
  all_goals omega
 ·have z:∀ x:Int,AX5 x=0->x=0:=fun x hx=>by unfold AX5 at hx;repeat' split at hx;all_goals omega
  have e1:=z a h1;have e2:=z b (h ▸ h1);rw [h1,e1,e2];simp [Aj5]
 ·have e1:=A30 ha h1;have e2:=A30 hb (h ▸ h1);rw [h1];unfold Ae0 Aj5;repeat' split
  all_goals omega
theorem A6z (a b:Nat): -1<=Ae0 a b/\Ae0 a b<=1:=by
 unfold Ae0;repeat' split;all_goals omega
theorem A60 (a:Int): -1<=AX5 a/\AX5 a<=1:=by
 unfold AX5;repeat' split;all_goals omega
theorem A61 {x y:Int} (hx: -1<=x/\x<=1) (hy: -1<=y/\y<=1):IntKind.i64.wrap (x * y)=x * y:=by
 obtain ⟨x1,x2⟩:=hx;obtain ⟨y1,y2⟩:=hy;have Aa:x= -1∨x=0∨x=1:=by omega
 have Ab:y= -1∨y=0∨y=1:=by omega
 rcases Aa with rfl | rfl | rfl <;> rcases Ab with rfl | rfl | rfl <;> decide
theorem A62 {h:AGs} {lo:Nat} {va:Value} {z:Int} (HA:ZV h lo va z):ATt Tryz.prog 138 #[va] h fun x h'=>Ext h h'/\ZV h' (Array.size h) x (z.natAbs:Int):=by
 obtain ⟨na,sa,LA,rfl,HDa,htla,hla,hza⟩:=HA.out;have hna:LA.length<=1000000:=by omega
 have hba:nv LA < 4294967296 ^ 100:=Nat.lt_of_lt_of_le (Aet HDa.dig) (Nat.pow_le_pow_right AGj hla);refine AT4 (l:=[_]) mx Tryz.func138 rfl rfl rfl rfl rfl AGv (AGl (Abe [.bool na,sa] (fun _=>trivial) rfl rfl fun Ag h2 V3 E4 Ao Be=>?_));have Bf:Array.size h<=Ag:=Ao;have Bg:=E4.1;have Z8:=(Ext.refl h).trans E4;refine AYm [.bool false,.slice none 0 0] AW9 rfl (fun _=>trivial) fun Aa Bh Aq Ab Ar Bi=>?_;have Bj:Array.size h<=Aa:=Nat.le_trans E4.1 Ar;have nebq1bq9:Ag≠Aa:=by have:=V3.lt;omega
 have Bl:=Ab.1;have Au:=Z8.trans Ab;have Ai:=E4.trans Ab;have Av:=E4.trans Ab;refine AZf (AXu (fs:=1) Adl AGv AGj rfl (ATz AZn rfl ((V3.ext Ab).cell (i:=1) rfl) (ATc trivial rfl (Aee false (HDa.ext Ai) hna hba) fun Bm Bn hk=>?_)));obtain ⟨Ac,Aw⟩:=hk;refine ⟨trivial,?_⟩;have Bo:=Ac.1;have Ax:=Au.trans Ac;have Ay:=Ai.trans Ac;have Az:=Av.trans Ac;have A3:=Aq.ext Ac;have A4:=Ab.trans Ac;obtain ⟨Aj,s3,L3,rfl,Am,A6,A7,A8⟩:=Aw.out;refine AUz [.bool Aj,s3] AT6 rfl rfl rfl rfl (Abb Am.cap) A3 fun Bp A9 Ad=>?_;have Ba:=Ay.thenUpd Ad (fun k hk=>by have Af:k=Aa:=hk;omega);have Bq:=Ad.1;have Br:=Ax.thenUpd Ad (fun k hk=>by have Af:k=Aa:=hk;omega);have Bt:=A4.thenUpd Ad (fun k hk=>by have Af:k=Aa:=hk;omega);have Bu:=Az.thenUpd Ad (fun k hk=>by have Af:k=Aa:=hk;omega);have Bb:=Am.updLo Ad AGh;refine AGq (AGy (⟨_,AU6 AT6 rfl rfl A9,?_⟩));exact ⟨Ba,⟨Aj,s3,L3,rfl,Bb.mono AGh,A6,A7,by rw [<- A8,AXe hza];rfl⟩⟩
theorem A63 {h:AGs} {la lb:Nat} {va vb:Value} {a b:Int} (HA:ZV h la va a) (HB:ZV h lb vb b):ATt Tryz.prog 92 #[va,vb] h fun x h'=>Ext h h'/\x= .int .i64 (Aj5 a b):=by
 obtain ⟨na,sa,LA,rfl,HDa,htla,hla,hza⟩:=HA.out;obtain ⟨nb,sb,LB,rfl,HDb,htlb,hlb,hzb⟩:=HB.out;refine AT4 (l:=[_,_]) mx Tryz.func92 rfl rfl rfl rfl rfl AGv (AGl (Abe [.bool na,sa] (fun _=>trivial) rfl rfl fun Aq h2 V3 E4 A7 B4=>?_));have B5:Array.size h<=Aq:=A7;have B6:=E4.1;have Z8:=(Ext.refl h).trans E4;refine Abe [.bool nb,sb] (fun _=>trivial) rfl rfl fun Au Av Aw Ag A9 B7=>?_;have B8:Array.size h<=Au:=Nat.le_trans E4.1 A9;have nebq1bq9:Aq≠Au:=by have:=V3.lt;omega
 have B9:=Ag.1;have Ba:=Z8.trans Ag;have Ax:=E4.trans Ag;have Ay:=V3.ext Ag;have Bb:=E4.trans Ag;refine AGw (AGn (AU8 (fun h'=>Ext Av h') AGv ?_));have Af:=Ext.refl Av;refine Aat [.bool na,sa] AT6 rfl rfl Af (fun h' hb=>(Ay.ext hb).agg) (ATc Af rfl (Amc (HA.ext Ax)) fun Ca Cb hk=>?_);obtain ⟨Ab,rfl⟩:=hk;have Ai:=Af.trans Ab;refine ⟨Ai,?_⟩;have Cd:=Ab.1;have Bc:=Ba.trans Ab;have Az:=Ax.trans Ab;have Be:=Ay.ext Ab;have Bf:=Bb.trans Ab;have Bg:=Aw.ext Ab;have Bh:=Ag.trans Ab;refine Aat [.bool nb,sb] AT6 rfl rfl Ai (fun h' hb=>(Aw.ext hb).agg) (ATc Ai rfl (Amc (HB.ext Az)) fun Ce A3 hk=>?_);obtain ⟨Ac,rfl⟩:=hk;have Bi:=Ai.trans Ac;refine ⟨Bi,?_⟩;have Cf:=Ac.1;have Bj:=Bc.trans Ac;have Ad:=Az.trans Ac;have A4:=Be.ext Ac;have Bl:=Bf.trans Ac;have A5:=Bg.ext Ac;have Bm:=Bh.trans Ac;refine ATi (AGw (AGn (AGl (AGi (AGi (Avi rfl rfl (fun Bn=>?_) (fun Bn=>?_)))))))
 ·refine AGq (ATn rfl (AGn (AGl (AGi (AGi (AW7 rfl rfl (fun Bo=>?_) (fun Bo=>?_)))))))
  ·refine AGq (ATn rfl (AGl (AGw (AGy (ATb (ATb (⟨_,AS1,?_⟩)))))));first | exact ⟨Ad,congrArg (Value.int .i64) (by rw [Ak,Am];exact Auc hza hzb AGh)⟩ | exact ⟨Ad,congrArg (Value.int .i64) (Ax3 (by assumption) (by assumption)).symm⟩ | exact ⟨Ad,congrArg (Value.int .i64) (Ax4 (by assumption) AGh).symm⟩
  ·refine AGq (ATp rfl (AGx (q_t (AGl (AGw (AGy (ATb (⟨_,AS1,?_⟩))))))));first | exact ⟨Ad,congrArg (Value.int .i64) (by rw [Ak,Am];exact Auc hza hzb AGh)⟩ | exact ⟨Ad,congrArg (Value.int .i64) (Ax3 (by assumption) (by assumption)).symm⟩ | exact ⟨Ad,congrArg (Value.int .i64) (Ax4 (by assumption) AGh).symm⟩
 ·refine AGq (ATp rfl (AGx (q_t (AGn (AU8 (fun h'=>Ext A3 h') AGv ?_)))));have Af:=Ext.refl A3;refine AGi (AXu (fs:=1) Adl AGv AGj rfl (AUy AZn rfl Af (fun h' hb=>(A4.ext hb).cell (i:=1) rfl) (ATc Af rfl (Aaw (DS.ext HDa Ad) AGh) fun Cg Ch hk=>?_)));obtain ⟨Ae,L1,Bp,Bq,Ak,Cj⟩:=hk;have Aj:=Af.trans Ae;refine ⟨Aj,?_⟩;have Ck:=Ae.1;have Br:=Bj.trans Ae;have A6:=Ad.trans Ae;have Bt:=A4.ext Ae;have Bu:=Bl.trans Ae;have Bv:=A5.ext Ae;have Bw:=Bm.trans Ae;refine AXu (fs:=1) Adl AGv AGj rfl (AUy AZn rfl Aj (fun h' hb=>(A5.ext hb).cell (i:=1) rfl) (ATc Aj rfl (Aaw (DS.ext HDb A6) AGh) fun Cm Bx hk=>?_));obtain ⟨Aa,L2,By,Bz,Am,Co⟩:=hk;have Ao:=Aj.trans Aa;refine ⟨Ao,?_⟩;have Cp:=Aa.1;have Cq:=Br.trans Aa;have Ap:=A6.trans Aa;have Cr:=Bt.ext Aa;have Ct:=Bu.trans Aa;have Cu:=Bv.ext Aa;have Cv:=Bw.trans Aa;have B1:=Bp.ext Aa;refine ATc Ao rfl (Ap7 B1 By Bq Bz AGh AGh) fun Cw Bx hk=>?_;obtain ⟨rfl,rfl⟩:=hk;refine ⟨Ao,?_⟩;refine Abo rfl rfl ?_;rw [A61 (A60 _) (A6z _ _)];refine AGw (AGy (⟨_,AS1,?_⟩));first | exact ⟨Ap,congrArg (Value.int .i64) (by rw [Ak,Am];exact Auc hza hzb AGh)⟩ | exact ⟨Ap,congrArg (Value.int .i64) (Ax3 (by assumption) (by assumption)).symm⟩ | exact ⟨Ap,congrArg (Value.int .i64) (Ax4 (by assumption) AGh).symm⟩
def Azl (fuel:Nat) (a:Int):Option Int:=some (a.natAbs:Int)
def As0 (fuel:Nat) (a b:Int):Option Int:=some (Aj5 a b)
theorem Ax5 {fuel:Nat} {h:AGs} {u:Value} {a r:Int} (H1:ZZ h u a) (hp:Azl fuel a=some r):ATt Tryz.prog 138 #[u] h (fun x h'=>Ext h h'/\ ∃ (x0:Value),x=x0/\ZZ h' x0 r):=by
 cases hp;exact (A62 H1).mono fun x h' hk=>⟨hk.1,x,rfl,hk.2.zz⟩
theorem Arj {fuel:Nat} {h:AGs} {u v:Value} {a b r:Int} (H1:ZZ h u a) (H2:ZZ h v b) (hp:As0 fuel a b=some r):ATt Tryz.prog 92 #[u,v] h (fun x h'=>Ext h h'/\x= .int .i64 r):=by
 cases hp;exact A63 H1 H2
end Go.Proofs.YthbndcbclhkepaaGreatDoor
namespace Go.Proofs.YthbndcbclhkepaaGreatDoor
open Go Go.QF
set_option maxRecDepth 100000
set_option maxHeartbeats 4000000
def Abi (fuel:Nat) (a3:LiI) (Ab:Int) (Af:LiA) (Aa:Int) (Ac:LiI):Option ((Int × LiI) ⊕ (((LiI × Bool)) ⊕ (LiI))):=
  (if Aa < (Af.length:Int) then ((gI a3 Ab).bind fun Ag=>((gI Ag Aa).bind fun Ah=>((At9 fuel Ah).bind fun (Ai,Aj)=>(if (!Aj)=true then (some (Sum.inr<| Sum.inl <| ([],false))) else ((gI Ac Ab).bind fun Ad=>((gI Ad Aa).bind fun Ak=>(some (Sum.inl ((w64 (Aa + 1)),(sI Ac Ab (sI Ad Aa Ai))))))))))) else (some (Sum.inr<| Sum.inr <| Ac)))
def Abj (fuel:Nat) (a3:LiI) (x5 x6 Aa:Int) (Ac:LiI):Option ((Int × LiI) ⊕ (((LiI × Bool)) ⊕ (LiI))):=
  (if Aa < ((List.replicate (Int.toNat x5) ([]:List Int)).length:Int) then (if 0<=x6/\x6<=100000000 then ((gI Ac Aa).bind fun Ai=>((gI (sI Ac Aa (List.replicate (Int.toNat x6) (0:Int))) Aa).bind fun Af=>((iter (fun s=>Abi fuel a3 Aa Af s.1 s.2) fuel (0,(sI Ac Aa (List.replicate (Int.toNat x6) (0:Int))))).bind (fun ex=>match ex with | Sum.inl Ag=>(some (Sum.inr<| Sum.inl <| Ag)) | Sum.inr (Ah)=>(some (Sum.inl ((w64 (Aa + 1)),Ah))))))) else none) else (some (Sum.inr<| Sum.inr <| Ac)))
def AYb (fuel:Nat) (a3:LiI):Option (LiI × Bool):=
  ((AVh fuel a3).bind fun (x5,x6,x7)=>(if (!x7)=true then (some ([],false)) else (if 0<=x5/\x5<=100000000 then ((iter (fun s=>Abj fuel a3 x5 x6 s.1 s.2) fuel (0,(List.replicate (Int.toNat x5) ([]:List Int)))).bind (fun ex=>match ex with | Sum.inl Ae=>(some Ae) | Sum.inr (Af)=>(some (Af,true)))) else none)))
theorem Ai1 {fuel:Nat} {h:AGs} {Aw:Value} {a3:LiI} {r:(LiI × Bool)} (H2:AXq cZ h Aw a3) (hp:AYb fuel a3=some r):ATt Tryz.prog 56 #[Aw] h (fun x h'=>Ext h h'/\ ∃ (x0:Value) (F0:List Nat) (Bg:List LnA) (Bh:List Value),x= .tuple #[x0,.bool r.2]/\AVo (cI .i64) 49 2 h' F0 Bg Bh x0 r.1/\Sp h' h.size [F0]):=by
 unfold AYb at hp;refine cwf (l:=[_]) Tryz.func56 rfl rfl (AGl (ATi (ATx (AGi ?_))));have K0:=Kst.k0 h;obtain ⟨⟨x5,x6,x7⟩,Bl,Ae⟩:=AGm hp;dsimp only at Ae;refine AXx K0 (AY4 (H2.ext K0.x) Bl) fun Cu Cv A5=>AGi (AUe rfl rfl (AUe rfl rfl (AUe rfl rfl (ATi (ATi (AGw (AGn (AGl (AGi (AWp rfl (AGq (⟨_,rfl,fun Af=>?_,fun Af=>?_⟩))))))))))))
 ·refine AGl (ATi (AGw (AGy (ATb ?_))));have Ag:=Kst.anil2 (cI .i64) 49 2 A5;obtain rfl:=AGk (ifT Ae Af);exact ⟨_,AUm,Ag.x,_,_,_,_,rfl,(Ag.o2 p0),Ag.s.sel [0] AGj⟩
 ·refine AGx (q_t (AGl (AGi ?_)));obtain ⟨Bm,Bn⟩:=ifN (Aav Ae Af);refine Ajd (cI .i64) 2 AS8 Aez rfl trivial tt2 rfl rfl AGj Bm fun Bo Bp Bq A6 Cw Br Bt Bu=>AGw (AGn (AGl (AGi ?_)));have Ah:=A5.no2 Bt Bu Br;refine AT3 AS8 rfl (Ah.o2 p0).rd (AGi (AGq (AGo (AX3 4611686018410614540 (fun x:(Int) × (LiI) × LnA × LnN × LvA=>(x.1,x.2.1)) ((0,(List.replicate (Int.toNat x5) ([]:List Int)),Bo,Bp,Bq):(Int) × (LiI) × LnA × LnN × LvA) Bn (fun x=>[(24,(.int .i64 x.1))]) (fun x=>Ah.L.set 0 (aO2 (cI .i64) 49 2 x.2.2.1 x.2.2.2.1 x.2.2.2.2 A6 x.2.1)) Ah ⟨rfl,trivial⟩ ?_))));rintro ⟨Ab,Bv,Cx,A7,Bw⟩ Cy Cz C0 Ad Ai A8;unfold Abj at Ai;refine AGl (ATm rfl rfl (AGq (AGn (⟨_,rfl,fun Aj=>?_,fun Aj=>?_⟩))))
  ·refine AGx (q_t (AGn (AGo (AGl (AGi (ATx (AGi (AGi (AGi ?_)))))))));obtain ⟨Bx,By⟩:=ifN (AT0 Ai Aj);refine Aii (c:=(cI .i64)) (a:=0) AS7 Ace rfl rfl (fun _=>rfl) rfl trivial tt2 rfl rfl AGj Bx fun A9 Bz C1 B1 B3 B4 B5=>?_;have Ac:=Ad.no B3 (AXv B4 B5) B1;obtain ⟨C2,Ba,B6⟩:=AGm By;refine AVd AS8 rfl (Ac.o2 p1) rfl Ba fun B7 C3 B8 C4 C5=>Ajc ATk (Ac.o2 p1) Ba B8 rfl rfl (Ac.o p0) (Ac.dj p0 p1 AGj) fun C6 B9 Ca Cb=>AZf (AGi (AGi ?_));have Ak:=Ac.m2 p0 p1 AGj Ca B9 (fun z hz=> .inl (Cb z hz));obtain ⟨C7,Bb,Cd⟩:=AGm B6;refine AUg AS8 ATk (Ak.o2 p1) Bb fun _ C8 Ce=>AUn AS7 rfl ((Ak.o2 p1).rowI Ce Bb) (AGi (AGq (AGo ?_)));have Am:=Ak.sel [1] AGj;dsimp only [AYk,Abf] at Am;refine AX3 2305842871774744076 (fun x:(Int) × (LiI) × LnA × LnN × LvA=>(x.1,x.2.1)) ((0,(sI Bv Ab (List.replicate (Int.toNat x6) (0:Int))),(B7 :: (A7.set (Int.toNat Ab) [A9]).flatten),(A7.set (Int.toNat Ab) [A9]),(Bw.set (Int.toNat Ab) Bz)):(Int) × (LiI) × LnA × LnN × LvA) Cd (fun x=>[(37,(.int .i64 x.1))]) (fun x=>Am.L.set 0 (aO2 (cI .i64) 49 2 x.2.2.1 x.2.2.2.1 x.2.2.2.2 A6 x.2.1)) Am ⟨rfl,trivial⟩ ?_;rintro ⟨C9,Da,Db,Dc,Dd⟩ De Df Dg Aa Ao Bc;unfold Abi at Ao;refine AGl (ATm rfl rfl (AGq (AGn (⟨_,rfl,fun Ap=>?_,fun Ap=>?_⟩))))
   ·refine AGx (q_t (AGn (AGo (AGl (AGi (ATx (AGi (AGi ?_))))))));obtain ⟨Dh,Cf,Cg⟩:=AGm (AT0 Ao Ap);refine Ac2 AUo AWb H2 Aa.x Cf fun _ Di Ch=>AGi ?_;obtain ⟨Dj,Ci,Cj⟩:=AGm Cg;refine Ac0 (c:=cZ) AVl rfl Ch rfl Ci fun Dk Dl Do Be Ck=>Afm (c:=cZ) AT6 rfl (Aa.zx Be) (fun j u hu=>(ATl (Ck j u hu) Aa.x)) ?_;obtain ⟨⟨Dp,Dq⟩,Cm,Aq⟩:=AGm Cj;dsimp only at Aq;refine AXx Aa (A3p (Aa.zx Be).2 Cm) fun Dr Ds Ar=>AGi (AUe rfl rfl (AUe rfl rfl (ATi (AGw (AGn (AGl (AGi (AWp rfl (AGq (⟨_,rfl,fun Au=>?_,fun Au=>?_⟩))))))))))
    ·refine AGl (ATi (AGw (AGy (ATb (AUf (ATb (ATb (AUf (AUf (ATb (ATb (AUf (ATb ?_)))))))))))));have Av:=Kst.anil2 (cI .i64) 49 2 Ar;obtain rfl:=AGk (A8 _ (AGk (Bc _ (AGk (ifT Aq Au)).symm)).symm);exact ⟨_,AUm,Av.x,_,_,_,_,rfl,(Av.o2 p0),Av.s.sel [0] AGj⟩
    ·refine AGx (q_t (AS3 (AGi (AGi ?_))));obtain ⟨Dt,Bf,Cn⟩:=AGm (Aav Aq Au);refine AUg AS8 ATk (Ar.o2 p0) Bf fun _ Du Co=>AGi (AGi ?_);obtain ⟨Dv,Cp,Cq⟩:=AGm Cn;refine AZi (m:=Ab) Ar p0 AS7 ATd Co Bf Cp (fun _=>rfl) fun _ Dw Cr=>ATf (q_b (q_t (AS3 (ATj rfl rfl (AGi (AGq ?_))))));exact ⟨(_,_,_,_,_),(AGk Cq).symm,Cr,rfl,trivial⟩
   ·refine AS9 (ATa (ATa (AT9 (q_b (q_t (AS3 (ATj rfl rfl (AGi (AGq ?_)))))))));exact ⟨(_,_,_,_,_),(AGk (Bc _ (AGk (AT1 Ao Ap)).symm)).symm,Aa,rfl,trivial⟩
  ·refine AS9 (ATa (ATa (AT9 (q_t (AGl (AGi (ATi (AGw (AGy ?_)))))))));obtain rfl:=AGk (A8 _ (AGk (AT1 Ai Aj)).symm);exact ⟨_,AUm,Ad.x,_,_,_,_,rfl,(Ad.o2 p0),Ad.s.sel [0] AGj⟩
def AZ5 (fuel:Nat) (Ad:LiI) (Aa:Int) (Ab:LiI):Option ((Int × LiI) ⊕ ((LiI))):=
  (if Aa < (Ad.length:Int) then ((gI Ab Aa).bind fun Ac=>((Ad1 fuel 1).bind fun Ae=>((gI Ac Aa).bind fun Af=>(some (Sum.inl ((w64 (Aa + 1)),(sI Ab Aa (sI Ac Aa Ae)))))))) else (some (Sum.inr<| Ab)))
def AV7 (fuel:Nat) (a1:Int):Option (LiI × Bool):=
  (((if a1 < 1 then (some (Sum.inl <| ([],false))) else (if 16 < a1 then (some (Sum.inl <| ([],false))) else (some (Sum.inr <| ())))):Option (((LiI × Bool)) ⊕ (Unit))).bind (fun ex=>match ex with | Sum.inl Ac=>(some Ac) | Sum.inr (_)=>((AVx fuel a1 a1).bind fun Ab=>((iter (fun s=>AZ5 fuel Ab s.1 s.2) fuel (0,Ab)).bind (fun (Ad:LiI)=>(some (Ad,true)))))))
theorem Ad3 {fuel:Nat} {h:AGs} {a1:Int} {r:(LiI × Bool)} (hp:AV7 fuel a1=some r):ATt Tryz.prog 54 #[(.int .i64 a1)] h (fun x h'=>Ext h h'/\ ∃ (x0:Value) (F0:List Nat) (Az:List LnA) (A3:List Value),x= .tuple #[x0,.bool r.2]/\AVo cZ 131 93 h' F0 Az A3 x0 r.1/\Sp h' h.size [F0]):=by
 unfold AV7 at hp;refine cwf (l:=[_]) Tryz.func54 rfl rfl (AGl (ATi (AGw ?_)));have K0:=Kst.k0 h;obtain ⟨A4,Au,Af⟩:=AGm hp;refine Aey 4044 (fun x:Unit=>[]) (fun x h'=>(Sum.inr <| ())=A4/\Kst h h' (K0.L)) ?_ ?_
 ·refine AGl (AGi (ATm rfl rfl (AGi ?_)));by_cases Ad:a1 < 1
  ·rw [decide_eq_true Ad];refine Ae3 8 true (ATh rfl (AGq (ATn rfl (AGl (ATi (AGw ?_))))));obtain rfl:=AGk (ifT Au Ad);refine AGy (ATb ?_);have Ag:=Kst.anil2 cZ 131 93 K0;obtain rfl:=AGk Af;exact ⟨_,AUm,Ag.x,_,_,_,_,rfl,(Ag.o2 p0),Ag.s.sel [0] AGj⟩
  ·have Av:=ifF Au Ad;rw [decide_eq_false Ad];refine ATo 8 false (AGi (ATo 8 false (AY6 rfl rfl (ATq rfl (AGq (⟨_,rfl,fun Ah=>?_,fun Ah=>?_⟩))))))
   ·refine AGl (ATi (AGw ?_));obtain rfl:=AGk (AT0 Av Ah);refine AGy (ATb ?_);have Ai:=Kst.anil2 cZ 131 93 K0;obtain rfl:=AGk Af;exact ⟨_,AUm,Ai.x,_,_,_,_,rfl,(Ai.o2 p0),Ai.s.sel [0] AGj⟩
   ·refine AGx (q_t ?_);exact ⟨(():Unit),⟨AGk (AT1 Av Ah),K0⟩,trivial⟩
 rintro ⟨⟩ Bq Br ⟨A5,A6⟩;subst A5;refine AGl (AGi (AGi ?_));obtain ⟨A7,A8,A9⟩:=AGm Af;refine Ahc A6 (AZj A8) fun Ba Bb Bc Be Bt Bu Aj=>AGw (AGn (AGl (AGi (AT3 AUo rfl (Aj.o2 p0).rd (AGi (AGq (AGo (AX3 268304416 (fun x:(Int) × (LiI) × LnA × LnN × LvA=>(x.1,x.2.1)) ((0,A7,Ba,Bb,Bc):(Int) × (LiI) × LnA × LnN × LvA) A9 (fun x=>[(17,(.int .i64 x.1))]) (fun x=>Aj.L.set 0 (aO2 cZ 131 93 x.2.2.1 x.2.2.2.1 x.2.2.2.2 Be x.2.1)) Aj ⟨rfl,trivial⟩ ?_))))))));rintro ⟨Aw,Bv,Bw,Bx,By⟩ Bz Ak B1 Aa Am Bf;unfold AZ5 at Am;refine AGl (ATm rfl rfl (AGq (AGn (⟨_,rfl,fun Ao=>?_,fun Ao=>?_⟩))))
 ·refine AGx (q_t (AGn (AGo (AGl (AGi (AGw (AU8 (fun h'=>UpT [] Ak h') AGv ?_)))))));have Ax:UpT [] Ak Ak:=UpT.start all_nil;refine AGi (AGi ?_);obtain ⟨B3,Ap,Bg⟩:=AGm (AT0 Am Ao);refine AVd AUo rfl (Aa.o2 p0) rfl Ap fun B4 B5 B6 Bh Bi=>AUy AWb rfl Ax (fun h' hb=>ATl Bi hb.ext) (AGi ?_);obtain ⟨B7,Bj,Bl⟩:=AGm Bg;refine AXy Aa Ax (Acg Bj) fun B8 B9 Ca Ab Cb=>?_;obtain ⟨Cd,Ay,Bm⟩:=AGm Bl;refine AWc (m:=Aw) AVl rfl (Aa.o2 p0) Bh Ap rfl Ay fun Ce Bn=>Ac8 (m:=Aw) (Ajb AT6 (cZ.klen (Ab.z p0)) rfl rfl (cZ.one (Ab.z p0))) (Ab.o2 p1) Bn Ap Ay (Ab.z p0) fun Cf Bo Bp=>ATf (q_b (q_t (AS3 (ATj rfl rfl (AGi (AGq ?_))))));exact ⟨(_,_,_,_,_),(AGk Bm).symm,(Ab.uO2 p1 Bp Bo).sel [1] AGj,rfl,trivial⟩
 ·refine AS9 (ATa (ATa (AT9 (q_t (AGl (AGi (ATi (AGw (AGy ?_)))))))));obtain rfl:=AGk (Bf _ (AGk (AT1 Am Ao)).symm);exact ⟨_,AUm,Aa.x,_,_,_,_,rfl,(Aa.o2 p0),Aa.s.sel [0] AGj⟩
def AZo (fuel:Nat) (a3:LiI) (Ab:Int) (Af:LiA) (Aa:Int) (Ac:LiI):Option ((Int × LiI) ⊕ ((LiI))):=
  (if Aa < (Af.length:Int) then ((gI Ac Aa).bind fun Ad=>((gI a3 Ab).bind fun Ag=>((gI Ag Aa).bind fun Ah=>((Ajh fuel Ah).bind fun Ai=>((gI Ad Ab).bind fun Aj=>(some (Sum.inl ((w64 (Aa + 1)),(sI Ac Aa (sI Ad Ab Ai)))))))))) else (some (Sum.inr<| Ac)))
def AZp (fuel:Nat) (a3:LiI) (Aa:Int) (Ac:LiI):Option ((Int × LiI) ⊕ ((LiI))):=
  (if Aa < (a3.length:Int) then ((gI a3 Aa).bind fun Ad=>((iter (fun s=>AZo fuel a3 Aa Ad s.1 s.2) fuel (0,Ac)).bind (fun (Ae:LiI)=>(some (Sum.inl ((w64 (Aa + 1)),Ae)))))) else (some (Sum.inr<| Ac)))
def AVy (fuel:Nat) (a3:LiI):Option (LiI × Bool):=
  ((AVh fuel a3).bind fun (x5,x6,x7)=>(if (!x7)=true then (some ([],false)) else ((AVx fuel x6 x5).bind fun Ae=>((iter (fun s=>AZp fuel a3 s.1 s.2) fuel (0,Ae)).bind (fun (Af:LiI)=>(some (Af,true)))))))
theorem Adm {fuel:Nat} {h:AGs} {Aq:Value} {a3:LiI} {r:(LiI × Bool)} (H2:AXq cZ h Aq a3) (hp:AVy fuel a3=some r):ATt Tryz.prog 110 #[Aq] h (fun x h'=>Ext h h'/\ ∃ (x0:Value) (F0:List Nat) (A6:List LnA) (A7:List Value),x= .tuple #[x0,.bool r.2]/\AVo cZ 131 93 h' F0 A6 A7 x0 r.1/\Sp h' h.size [F0]):=by
 unfold AVy at hp;refine cwf (l:=[_]) Tryz.func110 rfl rfl (AGl (ATi (ATx (AGi ?_))));have K0:=Kst.k0 h;obtain ⟨⟨x5,x6,x7⟩,A8,Af⟩:=AGm hp;dsimp only at Af;refine AXx K0 (AY4 (H2.ext K0.x) A8) fun Cd Ce Ax=>AGi (AUe rfl rfl (AUe rfl rfl (AUe rfl rfl (ATi (ATi (AGw (AGn (AGl (AGi (AWp rfl (AGq (⟨_,rfl,fun Ag=>?_,fun Ag=>?_⟩))))))))))))
 ·refine AGl (ATi (AGw (AGy (ATb ?_))));have Ah:=Kst.anil2 cZ 131 93 Ax;obtain rfl:=AGk (ifT Af Ag);exact ⟨_,AUm,Ah.x,_,_,_,_,rfl,(Ah.o2 p0),Ah.s.sel [0] AGj⟩
 ·refine AGx (q_t (AGl (AGi (AGi ?_))));obtain ⟨A9,Ba,Bb⟩:=AGm (Aav Af Ag);refine Ahc Ax (AZj Ba) fun Bc Be Bf Ay Cf Cg Az=>AGw (AGn (AGl (AGi (AT3 AUo rfl H2 (AGi (AGq (AGo (AX3 1125899898454784 (fun x:(Int) × (LiI) × LnA × LnN × LvA=>(x.1,x.2.1)) ((0,A9,Bc,Be,Bf):(Int) × (LiI) × LnA × LnN × LvA) Bb (fun x=>[(23,(.int .i64 x.1))]) (fun x=>Az.L.set 0 (aO2 cZ 131 93 x.2.2.1 x.2.2.2.1 x.2.2.2.2 Ay x.2.1)) Az ⟨rfl,trivial⟩ ?_))))))));rintro ⟨Ch,Bg,Bh,Bi,Bj⟩ Ci Cj Ck Ab Ai Bl;unfold AZp at Ai;refine AGl (ATm rfl rfl (AGq (AGn (⟨_,rfl,fun Aj=>?_,fun Aj=>?_⟩))))
  ·refine AGx (q_t (AGn (AGo (AGl (AGi (ATx (AGi (AGi ?_))))))));obtain ⟨Cm,Bm,Bn⟩:=AGm (AT0 Ai Aj);refine Ac2 AUo AWb H2 Ab.x Bm fun _ Cn Bo=>AUn AVl rfl Bo (AGi (AGq (AGo (AX3 562947805938176 (fun x:(Int) × (LiI) × LnA × LnN × LvA=>(x.1,x.2.1)) ((0,Bg,Bh,Bi,Bj):(Int) × (LiI) × LnA × LnN × LvA) Bn (fun x=>[(31,(.int .i64 x.1))]) (fun x=>Ab.L.set 0 (aO2 cZ 131 93 x.2.2.1 x.2.2.2.1 x.2.2.2.2 Ay x.2.1)) Ab ⟨rfl,trivial⟩ ?_))));rintro ⟨A3,u64,Co,Cp,Cq⟩ Cr Ak Ct Aa Am Bp;unfold AZo at Am;refine AGl (ATm rfl rfl (AGq (AGn (⟨_,rfl,fun Ao=>?_,fun Ao=>?_⟩))))
   ·refine AGx (q_t (AGn (AGo (AGl (AGi (AGw (AU8 (fun h'=>UpT [] Ak h') AGv ?_)))))));have Ae:UpT [] Ak Ak:=UpT.start all_nil;refine AGi (AGi ?_);obtain ⟨Cu,Ap,Bq⟩:=AGm (AT0 Am Ao);refine AVd AUo rfl (Aa.o2 p0) rfl Ap fun Cv Cw Cx Br Bt=>AUy AWb rfl Ae (fun h' hb=>ATl Bt hb.ext) (AGi (AGi (AGi ?_)));obtain ⟨Cy,Bu,Bv⟩:=AGm Bq;refine Al8 AUo rfl H2 rfl Bu fun Cz C0 C1 Bw Bx=>AUy AWb rfl Ae (fun h' hb=>ATl Bw (Aa.x.trans hb.ext)) (AGi ?_);obtain ⟨C2,By,Bz⟩:=AGm Bv;refine Ac0 (c:=cZ) AVl rfl Bx rfl By fun C3 C4 C5 A4 B1=>Ajr (c:=cZ) AT6 rfl A4 Ae (fun h' hb j u hu=>ATl (B1 j u hu) (Aa.x.trans hb.ext)) ?_;obtain ⟨C6,B3,B4⟩:=AGm Bz;refine AXy Aa Ae (Ak1 (Aa.zx A4).2 B3) fun C7 C8 C9 Ac Da=>?_;obtain ⟨Db,A5,B5⟩:=AGm B4;refine AWc (m:=A3) AVl rfl (Aa.o2 p0) Br Ap rfl A5 fun Dc B6=>Ac8 (m:=A3) (Ajb AT6 (cZ.klen (Ac.z p0)) rfl rfl (cZ.one (Ac.z p0))) (Ac.o2 p1) B6 Ap A5 (Ac.z p0) fun Dd B7 B8=>ATf (q_b (q_t (AS3 (ATj rfl rfl (AGi (AGq ?_))))));exact ⟨(_,_,_,_,_),(AGk B5).symm,(Ac.uO2 p1 B8 B7).sel [1] AGj,rfl,trivial⟩
   ·refine AS9 (ATa (ATa (AT9 (q_b (q_t (AS3 (ATj rfl rfl (AGi (AGq ?_)))))))));exact ⟨(_,_,_,_,_),(AGk (Bp _ (AGk (AT1 Am Ao)).symm)).symm,Aa,rfl,trivial⟩
  ·refine AS9 (ATa (ATa (AT9 (q_t (AGl (AGi (ATi (AGw (AGy ?_)))))))));obtain rfl:=AGk (Bl _ (AGk (AT1 Ai Aj)).symm);exact ⟨_,AUm,Ab.x,_,_,_,_,rfl,(Ab.o2 p0),Ab.s.sel [0] AGj⟩
def Ada (fuel:Nat) (a3 a7:LiA) (Aa Ac:Int):Option ((Int × Int) ⊕ ((Int))):=
  (if Aa < (a3.length:Int) then ((gI a3 Aa).bind fun Ae=>((gI a7 Aa).bind fun Af=>((Ajg fuel Ae Af).bind fun Ag=>((Azg fuel Ac Ag).bind fun Ah=>(some (Sum.inl ((w64 (Aa + 1)),Ah))))))) else (some (Sum.inr<| Ac)))
def AZw (fuel:Nat) (a3 a7:LiA):Option Int:=
  ((iter (fun s=>Ada fuel a3 a7 s.1 s.2) fuel (0,0)).bind (fun (Ac:Int)=>(some Ac)))
theorem Ak4 {fuel:Nat} {h:AGs} {Ai:Value} {a3:LiA} {Ak:Value} {a7:LiA} {r:Int} (H2:SlC cZ h Ai a3) (H6:SlC cZ h Ak a7) (hp:AZw fuel a3 a7=some r):ATt Tryz.prog 146 #[Ai,Ak] h (fun x h'=>Ext h h'/\ ∃ (x0:Value),x=x0/\ZZ h' x0 r):=by
 unfold AZw at hp;refine cwf (l:=[_,_]) Tryz.func146 rfl rfl (AGl (AVt (Kst.k0 h) [.bool false,.slice none 0 0] AW9 fun b9 Bn Bo Ax=>AZf (AWe (Af9 ) (AVt Ax [.bool false,.slice none 0 0] AW9 fun Ay Aq Bp Az=>AYa Az p0 (AS6 Aq) (AS6 Aq) fun A3 A4=>AGq (AGn (AGn ?_))))));refine AS3 (AGi (AUn AVl rfl H2 (AGi (AGq (AGo ?_)))));have Ar:=A4.az (AS6 A3);refine AX3 33553472 (fun x:(Int) × (Int) × LvA=>(x.1,x.2.1)) ((0,0,[Value.bool false,Value.slice none 0 0]):(Int) × (Int) × LvA) hp (fun x=>[(10,(.int .i64 x.1))]) (fun x=>(Ar.L.set 0 (aZ x.2.2 x.2.1)).set 1 (aB 93 Ay x.2.2)) Ar ⟨rfl,trivial⟩ ?_;rintro ⟨Bq,Br,Bt⟩ Bu Ac Bv Aa Af A5;unfold Ada at Af;refine AGl (ATm rfl rfl (AGq (AGn (⟨_,rfl,fun Ag=>?_,fun Ag=>?_⟩))))
 ·refine AGx (q_t (AGn (AGo (AGl (AGi (AGw (AU8 (fun h'=>UpT [] Ac h') AGv ?_)))))));have Ad:UpT [] Ac Ac:=UpT.start all_nil;refine Agd (Aa.z p0) Ad (Aa.b p1) (AGi (AGi ?_));obtain ⟨Bw,A6,A7⟩:=AGm (AT0 Af Ag);refine Ac0 (c:=cZ) AVl rfl H2 rfl A6 fun Bx By Bz Au A8=>Ajr (c:=cZ) AT6 rfl Au Ad (fun h' hb j u hu=>ATl (A8 j u hu) (Aa.x.trans hb.ext)) (AGi (AGi ?_));obtain ⟨B1,A9,Ba⟩:=AGm A7;refine Ac0 (c:=cZ) AVl rfl H6 rfl A9 fun B3 B4 B5 Av Bb=>Ajr (c:=cZ) AT6 rfl Av Ad (fun h' hb j u hu=>ATl (Bb j u hu) (Aa.x.trans hb.ext)) ?_;obtain ⟨B6,Bc,Be⟩:=AGm Ba;refine AXy Aa Ad (Ahr (Aa.zx Au).2 (Aa.zx Av).2 Bc) fun B7 B8 B9 Ah Bf=>?_;obtain ⟨Ca,Bg,Bh⟩:=AGm Be;refine AXy Ah Bf (Axv (Ah.z p1).2 (Ah.z p0).2 Bg) fun Bi Cb Cd Ab Ce=>AUz Bi AT6 (cZ.klen (Ab.z p0)) (cZ.klen (Ab.z p2)) rfl rfl (cZ.one (Ab.z p0)) (Ab.b p3) fun Cf Bj Bl=>ATf (q_b (q_t (AS3 (ATj rfl rfl (AGi (AGq ?_))))));exact ⟨(_,_,_),(AGk Bh).symm,(Ab.sb p3 Bl Bj rfl).sel [0,3,4] AGj,rfl,trivial⟩
 ·refine AS9 (ATa (ATa (AT9 (q_t (AGl (Ach (Aa.z p0) (Aa.b p1) (AYa Aa p2 (AS6 Ac) (Aa.z p0) fun Cg Ae=>AGq (AGy ?_))))))));obtain rfl:=AGk (A5 _ (AGk (AT1 Af Ag)).symm);exact ⟨_,AU6 AT6 (cZ.klen (Ae.z p0)) rfl (Ae.b p2),Ae.x,_,rfl,(Ae.z p0).2⟩
def Adb (fuel:Nat) (a3 Ad:LiI) (Ab Aa:Int) (Ac:LiI):Option ((Int × LiI) ⊕ ((LiI))):=
  (if Aa < (Ad.length:Int) then ((gI Ac Ab).bind fun Ae=>((gI a3 Ab).bind fun Ag=>((gI Ad Aa).bind fun Ah=>((AZw fuel Ag Ah).bind fun Ai=>((gI Ae Aa).bind fun Aj=>(some (Sum.inl ((w64 (Aa + 1)),(sI Ac Ab (sI Ae Aa Ai)))))))))) else (some (Sum.inr<| Ac)))
def Adc (fuel:Nat) (a3 Ad:LiI) (Aa:Int) (Ac:LiI):Option ((Int × LiI) ⊕ ((LiI))):=
  (if Aa < (a3.length:Int) then ((iter (fun s=>Adb fuel a3 Ad Aa s.1 s.2) fuel (0,Ac)).bind (fun (Ae:LiI)=>(some (Sum.inl ((w64 (Aa + 1)),Ae))))) else (some (Sum.inr<| Ac)))
def AZx (fuel:Nat) (a3 a7:LiI):Option (LiI × Bool):=
  ((AVh fuel a3).bind fun (x9,Ad,Ae)=>((AVy fuel a7).bind fun (Ac,Af)=>(((if (!Ae)=true then (some (Sum.inl <| ([],false))) else (if (!Af)=true then (some (Sum.inl <| ([],false))) else (if ¬ (a7.length:Int)=Ad then (some (Sum.inl <| ([],false))) else (some (Sum.inr <| ()))))):Option (((LiI × Bool)) ⊕ (Unit))).bind (fun ex=>match ex with | Sum.inl Ag=>(some Ag) | Sum.inr (_)=>((AVx fuel (a3.length:Int) (Ac.length:Int)).bind fun Ah=>((iter (fun s=>Adc fuel a3 Ac s.1 s.2) fuel (0,Ah)).bind (fun (Ai:LiI)=>(some (Ai,true)))))))))
theorem Ak5 {fuel:Nat} {h:AGs} {Av:Value} {a3:LiI} {Ax:Value} {a7:LiI} {r:(LiI × Bool)} (H2:AXq cZ h Av a3) (H6:AXq cZ h Ax a7) (hp:AZx fuel a3 a7=some r):ATt Tryz.prog 111 #[Av,Ax] h (fun x h'=>Ext h h'/\ ∃ (x0:Value) (F0:List Nat) (Bm:List LnA) (Bn:List Value),x= .tuple #[x0,.bool r.2]/\AVo cZ 131 93 h' F0 Bm Bn x0 r.1/\Sp h' h.size [F0]):=by
 unfold AZx at hp;refine cwf (l:=[_,_]) Tryz.func111 rfl rfl (AGl (ATi (ATx (AGi ?_))));have K0:=Kst.k0 h;obtain ⟨⟨x9,Cx,Bo⟩,Bp,A6⟩:=AGm hp;dsimp only at A6;refine AXx K0 (AY4 (H2.ext K0.x) Bp) fun Cy Cz A7=>AGi (AUe rfl rfl (AUe rfl rfl (AUe rfl rfl (ATi (ATi (ATx (AGi ?_)))))));obtain ⟨⟨C0,Bq⟩,Br,A8⟩:=AGm A6;dsimp only at A8;refine Afg rfl (Adm (H6.ext A7.x) Br) fun C1 C2 Bt Bu=>?_;obtain ⟨C3,C4,C5,C6,rfl,Bv,Bw⟩:=Bu;refine AGi (AUe rfl rfl (AUe rfl rfl (ATi (AGw ?_))));have Ac:=A7.no2 Bt Bw Bv;obtain ⟨Bx,A9,Af⟩:=AGm A8;refine Aey 137405399088 (fun x:Unit=>[]) (fun x h'=>(Sum.inr <| ())=Bx/\Kst h h' (Ac.L)) ?_ ?_
 ·refine AGl (AGi (AWp rfl (AGi ?_)));cases Ba:(!Bo)
  ·refine ATo 27 false (AGi (ATo 27 false (AWp rfl (ATq rfl (AGi ?_)))));have Bb:=Aav A9 Ba;cases Bc:(!Bq)
   ·refine ATo 31 false (AGi (ATo 31 false (AT3 AUo rfl H6 (ATo 31 false (AGi (ATo 31 false (AXa rfl rfl (ATq rfl (AGq ?_)))))))));have Be:=Aav Bb Bc;refine ⟨_,rfl,fun Ah=>?_,fun Ah=>?_⟩
    ·refine AGl (ATi (AGw ?_));obtain rfl:=AGk (AT0 Be Ah);refine AGy (ATb ?_);have Ai:=Kst.anil2 cZ 131 93 Ac;obtain rfl:=AGk Af;exact ⟨_,AUm,Ai.x,_,_,_,_,rfl,(Ai.o2 p0),Ai.s.sel [0] AGj⟩
    ·refine AGx (q_t ?_);exact ⟨(():Unit),⟨AGk (AT1 Be Ah),Ac⟩,trivial⟩
   ·refine Afz 31 true (ATh rfl (AGq (ATn rfl (AGl (ATi (AGw ?_))))));obtain rfl:=AGk (ifT Bb Bc);refine AGy (ATb ?_);have Aj:=Kst.anil2 cZ 131 93 Ac;obtain rfl:=AGk Af;exact ⟨_,AUm,Aj.x,_,_,_,_,rfl,(Aj.o2 p0),Aj.s.sel [0] AGj⟩
  ·refine Ae3 27 true (ATh rfl (AGi (Afz 31 true (ATh rfl (AGq (ATn rfl (AGl (ATi (AGw ?_)))))))));obtain rfl:=AGk (ifT A9 Ba);refine AGy (ATb ?_);have Ak:=Kst.anil2 cZ 131 93 Ac;obtain rfl:=AGk Af;exact ⟨_,AUm,Ak.x,_,_,_,_,rfl,(Ak.o2 p0),Ak.s.sel [0] AGj⟩
 rintro ⟨⟩ C7 C8 ⟨By,Bf⟩;subst By;refine AGl (AGi (AT3 AUo rfl H2 (AGi (AT3 AUo rfl (Bf.o2 p0).rd ?_))));obtain ⟨Bz,B1,B3⟩:=AGm Af;refine Ahc Bf (AZj B1) fun B4 B5 B6 Bg C9 Da Bh=>AGw (AGn (AGl (AGi (AT3 AUo rfl H2 (AGi (AGq (AGo (AX3 590295792766519619584 (fun x:(Int) × (LiI) × LnA × LnN × LvA=>(x.1,x.2.1)) ((0,Bz,B4,B5,B6):(Int) × (LiI) × LnA × LnN × LvA) B3 (fun x=>[(44,(.int .i64 x.1))]) (fun x=>Bh.L.set 0 (aO2 cZ 131 93 x.2.2.1 x.2.2.2.1 x.2.2.2.2 Bg x.2.1)) Bh ⟨rfl,trivial⟩ ?_))))))));rintro ⟨Bi,B7,B8,B9,Ca⟩ Db Dc Dd Ab Am Cb;unfold Adc at Am;refine AGl (ATm rfl rfl (AGq (AGn (⟨_,rfl,fun Ao=>?_,fun Ao=>?_⟩))))
 ·refine AGx (q_t (AGn (AGo (AGl (AGi (ATx (AGi (AT3 AUo rfl (Ab.o2 p1).rd (AGi (AGq (AGo (AX3 295147342229399412736 (fun x:(Int) × (LiI) × LnA × LnN × LvA=>(x.1,x.2.1)) ((0,B7,B8,B9,Ca):(Int) × (LiI) × LnA × LnN × LvA) (AT0 Am Ao) (fun x=>[(49,(.int .i64 x.1))]) (fun x=>Ab.L.set 0 (aO2 cZ 131 93 x.2.2.1 x.2.2.2.1 x.2.2.2.2 Bg x.2.1)) Ab ⟨rfl,trivial⟩ ?_))))))))))));rintro ⟨De,Df,Dg,Dh,Di⟩ Dj Ap Dk Aa Aq Cd;unfold Adb at Aq;refine AGl (ATm rfl rfl (AGq (AGn (⟨_,rfl,fun Ar=>?_,fun Ar=>?_⟩))))
  ·refine AGx (q_t (AGn (AGo (AGl (AGi (AGw (AU8 (fun h'=>UpT [] Ap h') AGv ?_)))))));have Ag:UpT [] Ap Ap:=UpT.start all_nil;refine AGi (AGi ?_);obtain ⟨Dl,Au,Ce⟩:=AGm (AT0 Aq Ar);refine AVd AUo rfl (Aa.o2 p0) rfl Au fun Do Dp Dq Cf Cg=>AUy AWb rfl Ag (fun h' hb=>ATl Cg hb.ext) (AGi (AGi (AGi ?_)));obtain ⟨Dr,Ch,Ci⟩:=AGm Ce;refine Al8 AUo rfl H2 rfl Ch fun Ds Dt Du Cj Ck=>AUy AWb rfl Ag (fun h' hb=>ATl Cj (Aa.x.trans hb.ext)) (AGi (AGi ?_));obtain ⟨Dv,Bj,Cm⟩:=AGm Ci;refine AVd AUo rfl (Aa.o2 p1) rfl Bj fun Dw Dx Dy Cn Co=>AUy AWb rfl Ag (fun h' hb=>ATl Co hb.ext) ?_;obtain ⟨Dz,Cp,Cq⟩:=AGm Cm;refine AXy Aa Ag (Ak4 (Ck.ext Aa.x) ((Aa.o2 p1).rowI Cn Bj) Cp) fun D0 D1 D2 Ad D3=>?_;obtain ⟨D4,Bl,Cr⟩:=AGm Cq;refine AWc (m:=Bi) AVl rfl (Aa.o2 p0) Cf Au rfl Bl fun D5 Ct=>Ac8 (m:=Bi) (Ajb AT6 (cZ.klen (Ad.z p0)) rfl rfl (cZ.one (Ad.z p0))) (Ad.o2 p1) Ct Au Bl (Ad.z p0) fun D6 Cu Cv=>ATf (q_b (q_t (AS3 (ATj rfl rfl (AGi (AGq ?_))))));exact ⟨(_,_,_,_,_),(AGk Cr).symm,(Ad.uO2 p1 Cv Cu).sel [1,2] AGj,rfl,trivial⟩
  ·refine AS9 (ATa (ATa (AT9 (q_b (q_t (AS3 (ATj rfl rfl (AGi (AGq ?_)))))))));exact ⟨(_,_,_,_,_),(AGk (Cd _ (AGk (AT1 Aq Ar)).symm)).symm,Aa,rfl,trivial⟩
 ·refine AS9 (ATa (ATa (AT9 (q_t (AGl (AGi (ATi (AGw (AGy ?_)))))))));obtain rfl:=AGk (Cb _ (AGk (AT1 Am Ao)).symm);exact ⟨_,AUm,Ab.x,_,_,_,_,rfl,(Ab.o2 p0),Ab.s.sel [0] AGj⟩
def AU2 (fuel:Nat) (a3 a7:LiI):Option LiI:=
  ((AZx fuel a3 a7).bind fun (x9,Ad)=>(some x9))
theorem Aaz {fuel:Nat} {h:AGs} {Ac:Value} {a3:LiI} {Ae:Value} {a7 r:LiI} (H2:AXq cZ h Ac a3) (H6:AXq cZ h Ae a7) (hp:AU2 fuel a3 a7=some r):ATt Tryz.prog 58 #[Ac,Ae] h (fun x h'=>Ext h h'/\ ∃ (x0:Value) (F0:List Nat) (Am:List LnA) (Ao:List Value),x=x0/\AVo cZ 131 93 h' F0 Am Ao x0 r/\Sp h' h.size [F0]):=by
 unfold AU2 at hp;refine cwf (l:=[_,_]) Tryz.func58 rfl rfl (AGl (ATx (AGi (AGi ?_))));have K0:=Kst.k0 h;obtain ⟨⟨x9,Ax⟩,Ap,Ai⟩:=AGm hp;dsimp only at Ai;refine Afg rfl (Ak5 (H2.ext K0.x) (H6.ext K0.x) Ap) fun Ay Az Aq Ar=>?_;obtain ⟨A3,A4,A5,A6,rfl,Au,Av⟩:=Ar;refine AGi (AUe rfl rfl (AUe rfl rfl (ATi (ATx (AGi (AGw (AGy ?_)))))));have Ab:=K0.no2 Aq Av Au;obtain rfl:=AGk Ai;exact ⟨_,AS1,Ab.x,_,_,_,_,rfl,(Ab.o2 p0),Ab.s.sel [0] AGj⟩
def Ab2 (fuel:Nat) (a1:Int) (Aa:LiA) (Ab:Int):Option ((LiA × Int) ⊕ ((LiA))):=
  (if Ab < a1 then (if Aa.length<=100000000 then (some (Sum.inl ((Aa ++ [Ab]),(w64 (Ab + 1))))) else none) else (some (Sum.inr<| Aa)))
def AXh (fuel:Nat) (a1 a2:Int):Option LiA:=
  ((iter (fun s=>Ab2 fuel a1 s.1 s.2) fuel ([],0)).bind (fun (Aa:LiA)=>(if Aa.length<=100000000 then (some (Aa ++ [a2])) else none)))
theorem Ae5 {fuel:Nat} {h:AGs} {a1 a2:Int} {r:LiA} (hp:AXh fuel a1 a2=some r):ATt Tryz.prog 137 #[(.int .i64 a1),(.int .i64 a2)] h (fun x h'=>Ext h h'/\ ∃ (x0:Value) (F0:List Nat),x=x0/\OwC (cI .i64) 3 h' F0 x0 r/\Sp h' h.size [F0]):=by
 unfold AXh at hp;refine cwf (l:=[_,_]) Tryz.func137 rfl rfl (AGl (ATx (AGw (AGn (AGl (AGw (AGo ?_)))))));have K4:=Kst.anil (cI .i64) 3 (Kst.k0 h);refine AX3 65504 (fun x:(LiA) × (Value) × LnA × (Int)=>(x.1,x.2.2.2)) (([],(.slice none 0 0),[],0):(LiA) × (Value) × LnA × (Int)) hp (fun x=>[(5,x.2.1),(6,(.int .i64 x.2.2.2))]) (fun x=>K4.L.set 0 (aO (cI .i64) 3 x.2.2.1 x.2.1 x.1)) K4 ⟨rfl,rfl,trivial⟩ ?_;rintro ⟨Az,A3,A4,Aj⟩ A5 h9 y8 Ab Ac Ak;unfold Ab2 at Ac;refine AGn (AGl (AGi (AGi (ATm rfl rfl (AGq (⟨_,rfl,fun Ad=>?_,fun Ad=>?_⟩))))))
 ·refine AGx (q_t (AGn (AGo (AS3 (AGi (AGi ?_))))));obtain ⟨Am,Ao⟩:=ifN (AT0 Ac Ad);refine Aep Ana Anl rfl rfl trivial tt2 (fun _=>rfl) rfl (show ((cI .i64)).rep _ Aj [(.int .i64 Aj)] from rfl) (Ab.o p0) AGj Am fun A8 A9 Ba Bb Ap Aq Ar=>ATi (ATf (q_b (q_t (AS3 (AGi (ATj rfl rfl (AGw ?_)))))));exact ⟨(_,_,_,_),(AGk Ao).symm,(Ab.uo p0 Aq Ap Ar),rfl,rfl,trivial⟩
 ·refine AS9 (ATa (ATa (AT9 (q_t (AGl (AGi (AGi ?_)))))));obtain ⟨Au,Av⟩:=ifN (Ak _ (AGk (AT1 Ac Ad)).symm);refine Aep Ana Anl rfl rfl trivial tt2 (fun _=>rfl) rfl (show ((cI .i64)).rep _ a2 [(.int .i64 a2)] from rfl) (Ab.o p0) AGj Au fun Bc Be Bf Bg Aw Ax Ay=>AGw (AGy ?_);have Ae:=Ab.uo p0 Ax Aw Ay;obtain rfl:=AGk Av;exact ⟨_,AS1,Ae.x,_,_,rfl,(Ae.o p0),Ae.s.sel [0] AGj⟩
def Aa0 (fuel:Nat) (a3:LiI) (x5:Int) (Ab:LiA) (Aa:Int):Option ((LiA × Int) ⊕ ((LiA))):=
  (if Aa < x5 then ((AXh fuel Aa Aa).bind fun Ae=>((AXh fuel Aa Aa).bind fun Af=>((AWx fuel a3 Ae Af).bind fun Ag=>((AUj fuel Ag).bind fun Ah=>(if Ab.length<=100000000 then (some (Sum.inl ((Ab ++ [Ah]),(w64 (Aa + 1))))) else none))))) else (some (Sum.inr<| Ab)))
def AWj (fuel:Nat) (a3:LiI):Option (LiA × Bool):=
  ((AWw fuel a3).bind fun (x5,x6)=>(if (!x6)=true then (some ([],false)) else ((iter (fun s=>Aa0 fuel a3 x5 s.1 s.2) fuel ([],0)).bind (fun (Ad:LiA)=>(some (Ad,true))))))
theorem Aef {fuel:Nat} {h:AGs} {Ai:Value} {a3:LiI} {r:(LiA × Bool)} (H2:AXq cZ h Ai a3) (hp:AWj fuel a3=some r):ATt Tryz.prog 93 #[Ai] h (fun x h'=>Ext h h'/\ ∃ (x0:Value) (F0:List Nat),x= .tuple #[x0,.bool r.2]/\OwC cZ 93 h' F0 x0 r.1/\Sp h' h.size [F0]):=by
 unfold AWj at hp;refine cwf (l:=[_]) Tryz.func93 rfl rfl (AGl (ATi (ATx (AGi ?_))));have K0:=Kst.k0 h;obtain ⟨⟨x5,x6⟩,Av,Ac⟩:=AGm hp;dsimp only at Ac;refine AXx K0 (Aev (H2.ext K0.x) Av) fun Bh E9 Aq=>AGi (AUe rfl rfl (AUe rfl rfl (ATi (AGw (AGn (AGl (AGi (AWp rfl (AGq (⟨_,rfl,fun Ad=>?_,fun Ad=>?_⟩))))))))))
 ·refine AGl (ATi (AGw (AGy (ATb ?_))));have Ae:=Kst.anil cZ 93 Aq;obtain rfl:=AGk (ifT Ac Ad);exact ⟨_,AUm,Ae.x,_,_,rfl,(Ae.o p0),Ae.s.sel [0] AGj⟩
 ·refine AGx (q_t (AGl (AGw (AGn (AGl (AGw (AGo ?_)))))));have Ar:=Kst.anil cZ 93 Aq;refine AX3 4294934720 (fun x:(LiA) × (Value) × LnA × (Int)=>(x.1,x.2.2.2)) (([],(.slice none 0 0),[],0):(LiA) × (Value) × LnA × (Int)) (Aav Ac Ad) (fun x=>[(6,x.2.1),(7,(.int .i64 x.2.2.2))]) (fun x=>Ar.L.set 0 (aO cZ 93 x.2.2.1 x.2.1 x.1)) Ar ⟨rfl,rfl,trivial⟩ ?_;rintro ⟨Bj,Bl,Bm,u32⟩ Bn Bo Bp Aa Af Aw;unfold Aa0 at Af;refine AGn (AGl (AGi (AGi (ATm rfl rfl (AGq (⟨_,rfl,fun Ag=>?_,fun Ag=>?_⟩))))))
  ·refine AGx (q_t (AGn (AGo (AS3 (AGi (AGi (AGi (AGi ?_))))))));obtain ⟨Bq,Ax,Ay⟩:=AGm (AT0 Af Ag);refine BBp Aa (Ae5 Ax) fun Br Bt Bu Bv Az=>AGi (AGi ?_);obtain ⟨Bw,A3,A4⟩:=AGm Ay;refine BBp Az (Ae5 A3) fun Bx By Bz B1 Ab=>?_;obtain ⟨B3,A5,A6⟩:=AGm A4;refine Ahc Ab (Aew (H2.ext Ab.x) (Ab.o p1).rd (Ab.o p0).rd A5) fun B4 B5 B6 B7 B8 B9 Au=>?_;obtain ⟨Ca,A7,A8⟩:=AGm A6;refine Agc Au (AWy (Au.o2 p0).rd A7) fun Cb Cd Ce Ah=>?_;obtain ⟨A9,Ba⟩:=ifN A8;refine Aep AVl AW9 rfl rfl trivial tt2 (fun _=>rfl) rfl (Ah.z p0) (Ah.o p4) AGj A9 fun Cf Cg Ch Ci Bb Bc Be=>ATi (ATf (q_b (q_t (AS3 (AGi (ATj rfl rfl (AGw ?_)))))));exact ⟨(_,_,_,_),(AGk Ba).symm,(Ah.uo p4 Bc Bb Be).sel [4] AGj,rfl,rfl,trivial⟩
  ·refine AS9 (ATa (ATa (AT9 (q_t (AGl (AGi (ATi (AGw (AGy ?_)))))))));obtain rfl:=AGk (Aw _ (AGk (AT1 Af Ag)).symm);exact ⟨_,AUm,Aa.x,_,_,rfl,(Aa.o p0),Aa.s.sel [0] AGj⟩
def AZq (fuel:Nat) (a3:LiI) (Ab Aa:Int):Option ((Int) ⊕ ((Bool) ⊕ (Unit))):=
  (if Aa < Ab then ((gI a3 Ab).bind fun Ad=>((gI Ad Aa).bind fun Ae=>((gI a3 Aa).bind fun Af=>((gI Af Ab).bind fun Ag=>((As0 fuel Ae Ag).bind fun Ah=>(if ¬ Ah=0 then (some (Sum.inr<| Sum.inl <| false)) else (some (Sum.inl (w64 (Aa + 1)))))))))) else (some (Sum.inr<| Sum.inr <| ())))
def AZr (fuel:Nat) (a3:LiI) (Aa:Int):Option ((Int) ⊕ ((Bool) ⊕ (Unit))):=
  (if Aa < (a3.length:Int) then ((iter (fun s=>AZq fuel a3 Aa s) fuel 0).bind (fun ex=>match ex with | Sum.inl Ac=>(some (Sum.inr<| Sum.inl <| Ac)) | Sum.inr (_)=>(some (Sum.inl (w64 (Aa + 1)))))) else (some (Sum.inr<| Sum.inr <| ())))
def AVz (fuel:Nat) (a3:LiI):Option Bool:=
  ((iter (fun s=>AZr fuel a3 s) fuel 0).bind (fun ex=>match ex with | Sum.inl Ab=>(some Ab) | Sum.inr (_)=>(some true)))
theorem Adn {fuel:Nat} {h:AGs} {Ai:Value} {a3:LiI} {r:Bool} (H2:AXq cZ h Ai a3) (hp:AVz fuel a3=some r):ATt Tryz.prog 90 #[Ai] h (fun x h'=>Ext h h'/\x= .bool r):=by
 unfold AVz at hp;refine cwf (l:=[_]) Tryz.func90 rfl rfl (AGl (AGw (AGn (AGl (AGi (AT3 AUo rfl H2 (AGi (AGq (AGo ?_)))))))));have K0:=Kst.k0 h;refine AY2 4294967196 hp (fun x=>[(7,(.int .i64 x))]) (fun x=>K0.L) K0 ⟨rfl,trivial⟩ ?_;rintro Bb Bc h8 y7 Ac Ad Am;unfold AZr at Ad;refine AGl (ATm rfl rfl (AGq (AGn (⟨_,rfl,fun Ae=>?_,fun Ae=>?_⟩))))
 ·refine AGx (q_t (AGn (AGo (AGl (AGi (ATx (AGw (AGo (AY2 2147482644 (AT0 Ad Ae) (fun x=>[(4,(.int .i64 x))]) (fun x=>Ac.L) Ac ⟨rfl,trivial⟩ ?_)))))))));rintro Bg Bh Bi Bj Aa Af Ao;unfold AZq at Af;refine AGn (AGl (AGi (AGi (ATm rfl rfl (AGq (⟨_,rfl,fun Ag=>?_,fun Ag=>?_⟩))))))
  ·refine AGx (q_t (AGn (AGo (AGn (AXm (AGi (AGi ?_)))))));obtain ⟨Bl,Av,Aw⟩:=AGm (AT0 Af Ag);refine Ac2 AUo AWb H2 Aa.x Av fun _ Bm Ax=>AGi ?_;obtain ⟨Bn,Ay,Az⟩:=AGm Aw;refine Ac0 (c:=cZ) AVl rfl Ax rfl Ay fun Bo Bp Bq Ap A3=>Afm (c:=cZ) AT6 rfl (Aa.zx Ap) (fun j u hu=>(ATl (A3 j u hu) Aa.x)) (AGi (AGi ?_));obtain ⟨Br,A4,A5⟩:=AGm Az;refine Ac2 AUo AWb H2 Aa.x A4 fun _ Bt A6=>AGi ?_;obtain ⟨Bu,A7,A8⟩:=AGm A5;refine Ac0 (c:=cZ) AVl rfl A6 rfl A7 fun Bv Bw Bx Aq A9=>Afm (c:=cZ) AT6 rfl (Aa.zx Aq) (fun j u hu=>(ATl (A9 j u hu) Aa.x)) ?_;obtain ⟨By,Ba,Ar⟩:=AGm A8;refine AXx Aa (Arj (Aa.zx Ap).2 (Aa.zx Aq).2 Ba) fun Bz B1 Au=>AXa rfl rfl (AGq (⟨_,rfl,fun Ah=>?_,fun Ah=>?_⟩))
   ·refine AGl (AGw (AGy (AUf (ATb (ATb (AUf (AUf (ATb (ATb (AUf (ATb ?_)))))))))));obtain rfl:=AGk (Am _ (AGk (Ao _ (AGk (AT0 Ar Ah)).symm)).symm);exact ⟨_,AS1,Au.x,rfl⟩
   ·refine AGx (q_b (q_t (AS3 (AGi (ATj rfl rfl (AGw ?_))))));exact ⟨_,(AGk (AT1 Ar Ah)).symm,Au,rfl,trivial⟩
  ·refine AS9 (ATa (ATa (AT9 (q_b (q_t (AS3 (ATj rfl rfl (AGi (AGq ?_)))))))));exact ⟨_,(AGk (Ao _ (AGk (AT1 Af Ag)).symm)).symm,Aa,rfl,trivial⟩
 ·refine AS9 (ATa (ATa (AT9 (q_t (AGl (AGw (AGy ?_)))))));obtain rfl:=AGk (Am _ (AGk (AT1 Ad Ae)).symm);exact ⟨_,AS1,Ac.x,rfl⟩
def AZ6 (fuel:Nat) (x5:LiA) (Aa:Int):Option ((Int) ⊕ ((Bool) ⊕ (Unit))):=
  (if Aa < (x5.length:Int) then ((gI x5 Aa).bind fun Ac=>((Ao4 fuel Ac).bind fun Ad=>(if Ad<=0 then (some (Sum.inr<| Sum.inl <| false)) else (some (Sum.inl (w64 (Aa + 1))))))) else (some (Sum.inr<| Sum.inr <| ())))
def AXn (fuel:Nat) (a3:LiI):Option Bool:=
  ((AWj fuel a3).bind fun (x5,x6)=>(((if (!x6)=true then (some (Sum.inl <| false)) else ((AVz fuel a3).bind fun Ad=>(if (!Ad)=true then (some (Sum.inl <| false)) else (some (Sum.inr <| ()))))):Option ((Bool) ⊕ (Unit))).bind (fun ex=>match ex with | Sum.inl Ae=>(some Ae) | Sum.inr (_)=>((iter (fun s=>AZ6 fuel x5 s) fuel 0).bind (fun ex=>match ex with | Sum.inl Af=>(some Af) | Sum.inr (_)=>(some true))))))
theorem Ah3 {fuel:Nat} {h:AGs} {Aj:Value} {a3:LiI} {r:Bool} (H2:AXq cZ h Aj a3) (hp:AXn fuel a3=some r):ATt Tryz.prog 91 #[Aj] h (fun x h'=>Ext h h'/\x= .bool r):=by
 unfold AXn at hp;refine cwf (l:=[_]) Tryz.func91 rfl rfl (AGl (ATx (AGi ?_)));have K0:=Kst.k0 h;obtain ⟨⟨x5,x6⟩,A6,Ap⟩:=AGm hp;dsimp only at Ap;refine Afg rfl (Aef (H2.ext K0.x) A6) fun Bn Bo E9 A8=>?_;obtain ⟨Bp,Bq,rfl,A9,Ba⟩:=A8;refine AGi (AUe rfl rfl (AUe rfl rfl (ATi (AGw ?_))));have Aa:=K0.no E9 Ba A9;obtain ⟨Bb,Aq,Ad⟩:=AGm Ap;refine Aey 520196 (fun x:Unit=>[]) (fun x h'=>(Sum.inr <| ())=Bb/\Kst h h' (Aa.L)) ?_ ?_
 ·refine AGl (AGi (AWp rfl (AGi ?_)));cases Ar:(!x6)
  ·refine ATo 14 false (AGi (ATo 14 false ?_));obtain ⟨Br,Bc,Au⟩:=AGm (Aav Aq Ar);refine AXx Aa (Adn (H2.ext Aa.x) Bc) fun Bt Bu Av=>ATo 14 false (AWp rfl (ATq rfl (AGq (⟨_,rfl,fun Ae=>?_,fun Ae=>?_⟩))))
   ·refine AGl (AGw ?_);obtain rfl:=AGk (ifT Au Ae);refine AGy (ATb ?_);obtain rfl:=AGk Ad;exact ⟨_,AS1,Av.x,rfl⟩
   ·refine AGx (q_t ?_);exact ⟨(():Unit),⟨AGk (Aav Au Ae),Av⟩,trivial⟩
  ·refine Abq 14 true (ATh rfl (AGq (ATn rfl (AGl (AGw ?_)))));obtain rfl:=AGk (ifT Aq Ar);refine AGy (ATb ?_);obtain rfl:=AGk Ad;exact ⟨_,AS1,Aa.x,rfl⟩
 rintro ⟨⟩ Bv Bw ⟨Be,Af⟩;subst Be;refine AGn (AGl (AGi (AUn AVl rfl (Af.o p0).rd (AGi (AGq (AGo (AY2 534773828 Ad (fun x=>[(21,(.int .i64 x))]) (fun x=>Af.L) Af ⟨rfl,trivial⟩ ?_)))))));rintro Bx By Bz B1 Ab Ag Aw;unfold AZ6 at Ag;refine AGl (ATm rfl rfl (AGq (AGn (⟨_,rfl,fun Ah=>?_,fun Ah=>?_⟩))))
 ·refine AGx (q_t (AGn (AGo (AGl ?_))));obtain ⟨B3,Ax,Bf⟩:=AGm (AT0 Ag Ah);refine Aq4 AVl rfl (Ab.o p0) rfl Ax fun B4 Bg=>?_;obtain ⟨B5,Bh,Bi⟩:=(Ab.o p0).cells Bg Ax;have Ay:=Ab.az Bh;refine Afm (c:=cZ) AT6 rfl (Ay.z p0) (fun j u hu=>(Bi j u hu)) (AVt Ay [.bool false,.slice none 0 0] AW9 fun B6 Bj B7 Az=>AYa Az p0 (AS6 Bj) (Az.z p1) fun B8 Ac=>AZf (Ach (Ac.z p1) (Ac.b p0) ?_));obtain ⟨B9,Bl,A3⟩:=AGm Bf;refine AXx Ac (Aob (Ac.z p1).2 Bl) fun Ca Cb A4=>Arc rfl rfl (AGq (⟨_,rfl,fun Ai=>?_,fun Ai=>?_⟩))
  ·refine AGl (AGw (AGy (AUf (ATb (ATb (AUf (ATb ?_)))))));obtain rfl:=AGk (Aw _ (AGk (AT0 A3 Ai)).symm);exact ⟨_,AS1,A4.x,rfl⟩
  ·refine AGx (q_b (q_t (AS3 (ATj rfl rfl (AGi (AGq ?_))))));exact ⟨_,(AGk (AT1 A3 Ai)).symm,A4.sel [2] AGj,rfl,trivial⟩
 ·refine AS9 (ATa (ATa (AT9 (q_t (AGl (AGw (AGy ?_)))))));obtain rfl:=AGk (Aw _ (AGk (AT1 Ag Ah)).symm);exact ⟨_,AS1,Ab.x,rfl⟩
def AV8 (fuel:Nat) (a3:LiI):Option Int:=
  ((AWw fuel a3).bind fun (x5,x6)=>(if (!x6)=true then (some 3) else (if 8 < x5 then (some 3) else ((AVz fuel a3).bind fun Ad=>(if (!Ad)=true then (some 4) else ((AXn fuel a3).bind fun Ae=>(if (!Ae)=true then (some 5) else (some 0))))))))
theorem Ad4 {fuel:Nat} {h:AGs} {Ah:Value} {a3:LiI} {r:Int} (H2:AXq cZ h Ah a3) (hp:AV8 fuel a3=some r):ATt Tryz.prog 43 #[Ah] h (fun x h'=>Ext h h'/\x= .int .i64 r):=by
 unfold AV8 at hp;refine cwf (l:=[_]) Tryz.func43 rfl rfl (AGl (ATx (AGi ?_)));have K0:=Kst.k0 h;obtain ⟨⟨x5,x6⟩,Au,Ac⟩:=AGm hp;dsimp only at Ac;refine AXx K0 (Aev (H2.ext K0.x) Au) fun Ay E9 Aa=>AGi (AUe rfl rfl (AUe rfl rfl (ATi (AGw (AGn (AGo (AGl (AGi (AWp rfl (AGi ?_))))))))));cases Ak:(!x6)
 ·refine ATo 13 false (AGi (ATo 13 false (AY6 rfl rfl (ATq rfl (AGw ?_)))));have Am:=Aav Ac Ak;refine ⟨_,rfl,fun Ad=>?_,fun Ad=>?_⟩
  ·refine AGl (AGw (AGy (AUf (ATb ?_))));obtain rfl:=AGk (AT0 Am Ad);exact ⟨_,AS1,Aa.x,rfl⟩
  ·refine AGl (AGi ?_);obtain ⟨A3,Av,Ao⟩:=AGm (AT1 Am Ad);refine AXx Aa (Adn (H2.ext Aa.x) Av) fun A4 A5 Ae=>AWp rfl (AGw (⟨_,rfl,fun Af=>?_,fun Af=>?_⟩))
   ·refine AGl (AGw (AGy (AUf (ATb ?_))));obtain rfl:=AGk (ifT Ao Af);exact ⟨_,AS1,Ae.x,rfl⟩
   ·refine AGl (AGi ?_);obtain ⟨A6,Aw,Ap⟩:=AGm (Aav Ao Af);refine AXx Ae (Ah3 (H2.ext Ae.x) Aw) fun A7 A8 Aq=>AWp rfl (AGw (⟨_,rfl,fun Ag=>?_,fun Ag=>?_⟩))
    ·refine AGl (AGw (AGy (AUf (ATb ?_))));obtain rfl:=AGk (ifT Ap Ag);exact ⟨_,AS1,Aq.x,rfl⟩
    ·refine AGx (q_b (q_t (AGl (AGw (AGy ?_)))));obtain rfl:=AGk (Aav Ap Ag);exact ⟨_,AS1,Aq.x,rfl⟩
 ·refine Ae3 13 true (ATh rfl (AGw (ATn rfl (AGl (AGw (AGy (AUf (ATb ?_))))))));obtain rfl:=AGk (ifT Ac Ak);exact ⟨_,AS1,Aa.x,rfl⟩
def AV0 (fuel:Nat) (a3 a7:LiI):Option LiI:=
  ((AVy fuel a7).bind fun (x9,Af)=>((AU2 fuel x9 a3).bind fun Ad=>((AU2 fuel Ad a7).bind fun Ae=>(some Ae))))
theorem Aht {fuel:Nat} {h:AGs} {Ad:Value} {a3:LiI} {Af:Value} {a7 r:LiI} (H2:AXq cZ h Ad a3) (H6:AXq cZ h Af a7) (hp:AV0 fuel a3 a7=some r):ATt Tryz.prog 57 #[Ad,Af] h (fun x h'=>Ext h h'/\ ∃ (x0:Value) (F0:List Nat) (Ap:List LnA) (Aq:List Value),x=x0/\AVo cZ 131 93 h' F0 Ap Aq x0 r/\Sp h' h.size [F0]):=by
 unfold AV0 at hp;refine cwf (l:=[_,_]) Tryz.func57 rfl rfl (AGl (ATx (AGi ?_)));have K0:=Kst.k0 h;obtain ⟨⟨x9,A6⟩,Ar,Am⟩:=AGm hp;dsimp only at Am;refine Afg rfl (Adm (H6.ext K0.x) Ar) fun A7 A8 Au Av=>?_;obtain ⟨A9,Ba,Bb,Bc,rfl,Aw,Ax⟩:=Av;refine AGi (AUe rfl rfl (AUe rfl rfl (ATi (ATx (AGi (AGi ?_))))));have Aa:=K0.no2 Au Ax Aw;obtain ⟨Be,Ay,Az⟩:=AGm Am;refine Ahc Aa (Aaz (Aa.o2 p0).rd (H2.ext Aa.x) Ay) fun Bf Bg Bh Bi Bj Bl Ab=>AGi ?_;obtain ⟨Bm,A3,A4⟩:=AGm Az;refine Ahc Ab (Aaz (Ab.o2 p0).rd (H6.ext Ab.x) A3) fun Bn Bo Bp Bq Br Bt Ac=>AGw (AGy ?_);obtain rfl:=AGk A4;exact ⟨_,AS1,Ac.x,_,_,_,_,rfl,(Ac.o2 p0),Ac.s.sel [0] AGj⟩
def Abk (fuel:Nat) (a6:Int) (Ab Ac:LiA) (Aa:Int):Option ((LiA × LiA × Int) ⊕ ((LiA × LiA))):=
  (if Aa < a6 then (if Ab.length<=100000000 then (if Ac.length<=100000000 then (some (Sum.inl ((Ab ++ [Aa]),(Ac ++ [Aa]),(w64 (Aa + 1))))) else none) else none) else (some (Sum.inr<| (Ab,Ac))))
def AV3 (fuel:Nat) (a3:LiI) (a5 a6:Int):Option Int:=
  ((iter (fun s=>Abk fuel a6 s.1 s.2.1 s.2.2) fuel ([],[],0)).bind (fun ((Ab,Ac):LiA × LiA)=>(if Ab.length<=100000000 then (if Ac.length<=100000000 then ((AWx fuel a3 (Ab ++ [a5]) (Ac ++ [a6])).bind fun Af=>((AUj fuel Af).bind fun Ag=>(some Ag))) else none) else none)))
theorem Abl {fuel:Nat} {h:AGs} {Ah:Value} {a3:LiI} {a5 a6 r:Int} (H2:AXq cZ h Ah a3) (hp:AV3 fuel a3 a5 a6=some r):ATt Tryz.prog 107 #[Ah,(.int .i64 a5),(.int .i64 a6)] h (fun x h'=>Ext h h'/\ ∃ (x0:Value),x=x0/\ZZ h' x0 r):=by
 unfold AV3 at hp;refine cwf (l:=[_,_,_]) Tryz.func107 rfl rfl (AGl (AVt (Kst.k0 h) [.bool false,.slice none 0 0] AW9 fun b7 h8 Bt Au=>AZf (ATi (AGw (AGn (AGl (AGw (AGo ?_))))))));have Ak:=Kst.anil (cI .i64) 3 (Kst.anil (cI .i64) 3 Au);refine AX3 8388480 (fun x:(LiA) × (Value) × LnA × (LiA) × (Value) × LnA × (Int)=>(x.1,x.2.2.2.1,x.2.2.2.2.2.2)) (([],(.slice none 0 0),[],[],(.slice none 0 0),[],0):(LiA) × (Value) × LnA × (LiA) × (Value) × LnA × (Int)) hp (fun x=>[(7,x.2.1),(8,x.2.2.2.2.1),(9,(.int .i64 x.2.2.2.2.2.2))]) (fun x=>(Ak.L.set 1 (aO (cI .i64) 3 x.2.2.1 x.2.1 x.1)).set 0 (aO (cI .i64) 3 x.2.2.2.2.2.1 x.2.2.2.2.1 x.2.2.2.1)) Ak ⟨rfl,rfl,rfl,trivial⟩ ?_;rintro ⟨Bu,Bv,Bw,Bx,By,Bz,u32⟩ B1 B3 B4 Ac Af Av;unfold Abk at Af;refine AGn (AGl (AGi (AGi (ATm rfl rfl (AGq (⟨_,rfl,fun Ag=>?_,fun Ag=>?_⟩))))))
 ·refine AGx (q_t (AGn (AGo (AGl (AGi (AGi ?_))))));obtain ⟨Aw,Ax⟩:=ifN (AT0 Af Ag);refine Aep Ana Anl rfl rfl trivial tt2 (fun _=>rfl) rfl (show ((cI .i64)).rep _ u32 [(.int .i64 u32)] from rfl) (Ac.o p1) AGj Aw fun B5 B6 B7 B8 Ay Az A3=>AGw (AS3 (AGi (AGi ?_)));have Am:=Ac.uo p1 Az Ay A3;obtain ⟨A4,A5⟩:=ifN Ax;refine Aep Ana Anl rfl rfl trivial tt2 (fun _=>rfl) rfl (show ((cI .i64)).rep _ u32 [(.int .i64 u32)] from rfl) (Am.o p0) AGj A4 fun B9 Ca Cb Cd A6 A7 A8=>ATi (ATf (q_b (q_t (AS3 (AGi (ATj rfl rfl (AGw ?_)))))));exact ⟨(_,_,_,_,_,_,_),(AGk A5).symm,(Am.uo p0 A7 A6 A8),rfl,rfl,rfl,trivial⟩
 ·refine AS9 (ATa (ATa (AT9 (q_t (AGl (AGi (AGi (AGi ?_))))))));obtain ⟨A9,Ba⟩:=ifN (Av _ (AGk (AT1 Af Ag)).symm);refine Aep Ana Anl rfl rfl trivial tt2 (fun _=>rfl) rfl (show ((cI .i64)).rep _ a5 [(.int .i64 a5)] from rfl) (Ac.o p1) AGj A9 fun Ce Cf Cg Ch Bb Bc Be=>AGi (AGi ?_);have Ao:=Ac.uo p1 Bc Bb Be;obtain ⟨Bf,Bg⟩:=ifN Ba;refine Aep Ana Anl rfl rfl trivial tt2 (fun _=>rfl) rfl (show ((cI .i64)).rep _ a6 [(.int .i64 a6)] from rfl) (Ao.o p0) AGj Bf fun Ci Cj Ck Cm Bh Bi Bj=>?_;have Ad:=Ao.uo p0 Bi Bh Bj;obtain ⟨Cn,Bl,Bm⟩:=AGm Bg;refine Ahc Ad (Aew (H2.ext Ad.x) (Ad.o p1).rd (Ad.o p0).rd Bl) fun Co Cp Cq Cr Ct Cu Ap=>?_;obtain ⟨Cv,Bn,Bo⟩:=AGm Bm;refine Agc Ap (AWy (Ap.o2 p0).rd Bn) fun Cw Bp Cx Aq=>AYa Aq p4 (AS6 Bp) (Aq.z p0) fun Cy Ae=>AGq (AGy ?_);obtain rfl:=AGk Bo;exact ⟨_,AU6 AT6 (cZ.klen (Ae.z p0)) rfl (Ae.b p4),Ae.x,_,rfl,(Ae.z p0).2⟩
def AU4 (fuel:Nat) (a3:LiA) (a5:Int):Option Int:=
  (if a5=0 then ((Ad1 fuel 1).bind fun Ac=>(some Ac)) else ((gI a3 (w64 (a5 - 1))).bind fun Ad=>(some Ad)))
theorem AV9 {fuel:Nat} {h:AGs} {Af:Value} {a3:LiA} {a5 r:Int} (H2:SlC cZ h Af a3) (hp:AU4 fuel a3 a5=some r):ATt Tryz.prog 108 #[Af,(.int .i64 a5)] h (fun x h'=>Ext h h'/\ ∃ (x0:Value),x=x0/\ZZ h' x0 r):=by
 unfold AU4 at hp;refine cwf (l:=[_,_]) Tryz.func108 rfl rfl (AGl (AVt (Kst.k0 h) [.bool false,.slice none 0 0] AW9 fun b6 h7 E9 Aa=>AGq (AGn (AGl (AGi (AV2 rfl rfl (AGq (⟨_,rfl,fun Ae=>?_,fun Ae=>?_⟩))))))))
 ·refine AGl ?_;obtain ⟨Ay,Ao,Ap⟩:=AGm (AT0 hp Ae);refine Agc Aa (Acg Ao) fun Az Aq A3 Aj=>AYa Aj p1 (AS6 Aq) (Aj.z p0) fun A4 Ab=>AGq (AGy (ATb ?_));obtain rfl:=AGk Ap;exact ⟨_,AU6 AT6 (cZ.klen (Ab.z p0)) rfl (Ab.b p1),Ab.x,_,rfl,(Ab.z p0).2⟩
 ·refine AGx (q_t (AGl (AGi (AGi (AVe rfl rfl ?_)))));obtain ⟨A5,Ar,Au⟩:=AGm (AT1 hp Ae);refine Ac0 (c:=cZ) AVl rfl H2 rfl Ar fun A6 A7 A8 Ac Av=>Afm (c:=cZ) AT6 rfl (Aa.zx Ac) (fun j u hu=>(ATl (Av j u hu) Aa.x)) (AYa Aa p0 (AS6 h7) (Aa.zx Ac) fun A9 Ad=>AGq (AGy ?_));obtain rfl:=AGk Au;exact ⟨_,AU6 AT6 (cZ.klen (Ad.zx Ac)) rfl (Ad.b p0),Ad.x,_,rfl,(Ad.zx Ac).2⟩
def AYo (fuel:Nat) (a3:LiI) (a7:LiA) (a9 Aa:Int):Option Bool:=
  ((Ad1 fuel 2).bind fun Ae=>((AV3 fuel a3 a9 Aa).bind fun Af=>((Azl fuel Af).bind fun Ag=>((Ajg fuel Ae Ag).bind fun Ah=>((AU4 fuel a7 (w64 (Aa + 1))).bind fun Ai=>((As0 fuel Ah Ai).bind fun Aj=>(some (decide (Aj<=0)))))))))
theorem Aju {fuel:Nat} {h:AGs} {Ac:Value} {a3:LiI} {Ae:Value} {a7:LiA} {a9 Ah:Int} {r:Bool} (H2:AXq cZ h Ac a3) (H6:SlC cZ h Ae a7) (hp:AYo fuel a3 a7 a9 Ah=some r):ATt Tryz.prog 94 #[Ac,Ae,(.int .i64 a9),(.int .i64 Ah)] h (fun x h'=>Ext h h'/\x= .bool r):=by
 unfold AYo at hp;refine cwf (l:=[_,_,_,_]) Tryz.func94 rfl rfl (AGl (ATx ?_));obtain ⟨A7,Ap,Aq⟩:=AGm hp;refine Agc (Kst.k0 h) (Acg Ap) fun A8 A9 Ba Ai=>AGi (AGi (AGi ?_));obtain ⟨Bb,Ar,Au⟩:=AGm Aq;refine Agc Ai (Abl (H2.ext Ai.x) Ar) fun Bc Be Bf Aj=>?_;obtain ⟨Bg,Av,Aw⟩:=AGm Au;refine Agc Aj (Ax5 (Aj.z p0).2 Av) fun Bh Bi Bj Aa=>?_;obtain ⟨Bl,Ax,Ay⟩:=AGm Aw;refine Agc Aa (Ahr (Aa.z p2).2 (Aa.z p0).2 Ax) fun Bm Bn Bo Ak=>AGi (AGi (ATj rfl rfl ?_));obtain ⟨Bp,Az,A3⟩:=AGm Ay;refine Agc Ak (AV9 (H6.ext Ak.x) Az) fun Bq Br Bt Ab=>?_;obtain ⟨Bu,A4,A5⟩:=AGm A3;refine AXx Ab (Arj (Ab.z p1).2 (Ab.z p0).2 A4) fun Bv Bw A6=>Arc rfl rfl (AGw (AGy ?_));obtain rfl:=AGk A5;exact ⟨_,AS1,A6.x,rfl⟩
def AYp (fuel:Nat) (a3:LiI):Option Bool:=
  ((AUj fuel a3).bind fun x5=>((Ad1 fuel 10000).bind fun Ac=>((As0 fuel x5 Ac).bind fun Ad=>(some (decide (Ad<=0))))))
theorem Ajv {fuel:Nat} {h:AGs} {Ab:Value} {a3:LiI} {r:Bool} (H2:AXq cZ h Ab a3) (hp:AYp fuel a3=some r):ATt Tryz.prog 44 #[Ab] h (fun x h'=>Ext h h'/\x= .bool r):=by
 unfold AYp at hp;refine cwf (l:=[_]) Tryz.func44 rfl rfl (AGl (ATx (AGi ?_)));have K0:=Kst.k0 h;obtain ⟨x5,Af,Ag⟩:=AGm hp;refine Agc K0 (AWy (H2.ext K0.x) Af) fun Aq h9 E8 Ah=>?_;obtain ⟨Av,Ai,Aj⟩:=AGm Ag;refine Agc Ah (Acg Ai) fun Aw Ax Ay Aa=>?_;obtain ⟨Az,Ak,Am⟩:=AGm Aj;refine AXx Aa (Arj (Aa.z p1).2 (Aa.z p0).2 Ak) fun A3 A4 Ao=>Arc rfl rfl (AGw (AGy ?_));obtain rfl:=AGk Am;exact ⟨_,AS1,Ao.x,rfl⟩
def Acl (fuel:Nat) (a1:Int) (a2:Bool) (Aa:Int) (Ac:LiI):Option ((Int × LiI) ⊕ ((LiI))):=
  (if Aa < ((List.replicate (Int.toNat a1) ([]:List Int)).length:Int) then (if 0<=a1/\a1<=100000000 then ((gI Ac Aa).bind fun Ai=>((gI (sI Ac Aa (List.replicate (Int.toNat a1) (0:Int))) Aa).bind fun Ae=>((gI Ae Aa).bind fun Aj=>(((if a2=true then (if Aa=(w64 (a1 - 1)) then (if 3 < a1 then (some ( (w64 (Aa - 2)))) else (some ( (w64 (Aa - 1))))) else (some ( (w64 (Aa - 1))))) else (some ( (w64 (Aa - 1))))):Option ((Int))).bind (fun (Ad:Int)=>(if 0<=Ad then ((gI (sI (sI Ac Aa (List.replicate (Int.toNat a1) (0:Int))) Aa (sI Ae Aa 2)) Aa).bind fun Af=>((gI (sI (sI Ac Aa (List.replicate (Int.toNat a1) (0:Int))) Aa (sI Ae Aa 2)) Ad).bind fun Ak=>((gI Af Ad).bind fun Am=>((gI (sI (sI (sI Ac Aa (List.replicate (Int.toNat a1) (0:Int))) Aa (sI Ae Aa 2)) Aa (sI Af Ad (-1))) Ad).bind fun Ag=>((gI Ag Aa).bind fun Ao=>(some (Sum.inl ((w64 (Aa + 1)),(sI (sI (sI (sI Ac Aa (List.replicate (Int.toNat a1) (0:Int))) Aa (sI Ae Aa 2)) Aa (sI Af Ad (-1))) Ad (sI Ag Aa (-1))))))))))) else (some (Sum.inl ((w64 (Aa + 1)),(sI (sI Ac Aa (List.replicate (Int.toNat a1) (0:Int))) Aa (sI Ae Aa 2))))))))))) else none) else (some (Sum.inr<| Ac)))
def AX0 (fuel:Nat) (a1:Int) (a2:Bool):Option LiI:=
  (if 0<=a1/\a1<=100000000 then ((iter (fun s=>Acl fuel a1 a2 s.1 s.2) fuel (0,(List.replicate (Int.toNat a1) ([]:List Int)))).bind (fun (Ac:LiI)=>(some Ac))) else none)
theorem Afp {fuel:Nat} {h:AGs} {a1:Int} {a2:Bool} {r:LiI} (hp:AX0 fuel a1 a2=some r):ATt Tryz.prog 60 #[(.int .i64 a1),(.bool a2)] h (fun x h'=>Ext h h'/\ ∃ (x0:Value) (F0:List Nat) (A5:List LnA) (A6:List Value),x=x0/\AVo (cI .i64) 49 2 h' F0 A5 A6 x0 r/\Sp h' h.size [F0]):=by
 unfold AX0 at hp;refine cwf (l:=[_,_]) Tryz.func60 rfl rfl (AGl (ATx (AGi ?_)));obtain ⟨A7,A8⟩:=ifN hp;refine Ajd (cI .i64) 2 AS8 Aez rfl trivial tt2 rfl rfl AGj A7 fun A9 Ba Bb v9 h7 I8 E5 S6=>AGw (AGn (AGl (AGi ?_)));have Ai:=(Kst.k0 h).no2 E5 S6 I8;refine AT3 AS8 rfl (Ai.o2 p0).rd (AGi (AGq (AGo (AX3 72057594037924032 (fun x:(Int) × (LiI) × LnA × LnN × LvA=>(x.1,x.2.1)) ((0,(List.replicate (Int.toNat a1) ([]:List Int)),A9,Ba,Bb):(Int) × (LiI) × LnA × LnN × LvA) A8 (fun x=>[(12,(.int .i64 x.1))]) (fun x=>Ai.L.set 0 (aO2 (cI .i64) 49 2 x.2.2.1 x.2.2.2.1 x.2.2.2.2 v9 x.2.1)) Ai ⟨rfl,trivial⟩ ?_))));rintro ⟨Aa,Cj,Ck,Cm,Cn⟩ Co Cp Cq Ae Aj Bh;unfold Acl at Aj;refine AGl (ATm rfl rfl (AGq (AGn (⟨_,rfl,fun Ak=>?_,fun Ak=>?_⟩))))
 ·refine AGx (q_t (AGn (AGo (AGl (AGi (ATx (AGi (AGi (AGi ?_)))))))));obtain ⟨Bi,Bj⟩:=ifN (AT0 Aj Ak);refine Aii (c:=(cI .i64)) (a:=0) AS7 Ace rfl rfl (fun _=>rfl) rfl trivial tt2 rfl rfl AGj Bi fun Cr Ct Cu Bl Bm Bn Bo=>?_;have Ab:=Ae.no Bm (AXv Bn Bo) Bl;obtain ⟨Cv,Ar,Bp⟩:=AGm Bj;refine AVd AS8 rfl (Ab.o2 p1) rfl Ar fun Cw Cx Bq Cy Cz=>Ajc ATk (Ab.o2 p1) Ar Bq rfl rfl (Ab.o p0) (Ab.dj p0 p1 AGj) fun C0 Br Bt Bu=>AZf (AGi (AGi ?_));have Au:=Ab.m2 p0 p1 AGj Bt Br (fun z hz=> .inl (Bu z hz));obtain ⟨C1,Av,Bv⟩:=AGm Bp;refine AUg AS8 ATk (Au.o2 p1) Av fun _ C2 Bw=>AGi ?_;obtain ⟨C3,Bx,By⟩:=AGm Bv;refine AZi (m:=Aa) Au p1 AS7 ATd Bw Av Bx (fun _=>rfl) fun _ C4 Ac=>AZf (AGi (AVe rfl rfl (AGw ?_)));obtain ⟨Bz,Aw,Ax⟩:=AGm By;refine Aey 2198754820224 (fun x:(Int)=>[(7,(.int .i64 x))]) (fun x h'=>( x)=Bz/\Kst h h' (AYk Ac.L [1])) ?_ ?_
  ·refine AGl (AGi (AGi ?_));cases Ay:a2
   ·refine Afz 29 false (ATq rfl (AGi (Ae3 35 false (ATq rfl (AGq (ATp rfl (AGx (q_t ?_))))))));exact ⟨((w64 (Aa - 1)):(Int)),⟨AGk (Aav Aw Ay),Ac.sel [1] AGj⟩,rfl,trivial⟩
   ·refine ATo 29 true (AGi (ATo 29 true (AGi (ATo 29 true (AVe rfl rfl (ATo 29 true (AV2 rfl rfl (ATh rfl (AGi ?_)))))))));have Az:=ifT Aw Ay;by_cases Af:Aa=(w64 (a1 - 1))
    ·have A3:=ifT Az Af;rw [decide_eq_true Af];refine ATo 35 true (AGi (ATo 35 true (AY6 rfl rfl (ATh rfl (AGq (⟨_,rfl,fun Am=>?_,fun Am=>?_⟩))))))
     ·refine AS3 (AGi (AVe rfl rfl (AGw ?_)));exact ⟨((w64 (Aa - 2)):(Int)),⟨AGk (AT0 A3 Am),Ac.sel [1] AGj⟩,rfl,trivial⟩
     ·refine AGx (q_t ?_);exact ⟨((w64 (Aa - 1)):(Int)),⟨AGk (AT1 A3 Am),Ac.sel [1] AGj⟩,rfl,trivial⟩
    ·rw [decide_eq_false Af];refine Ae3 35 false (ATq rfl (AGq (ATp rfl (AGx (q_t ?_)))));exact ⟨((w64 (Aa - 1)):(Int)),⟨AGk (ifF Az Af),Ac.sel [1] AGj⟩,rfl,trivial⟩
  rintro B1 C5 C6 ⟨B3,Ag⟩;subst B3;refine AGl (AGi (Aga rfl rfl (AGq (⟨_,rfl,fun Ao=>?_,fun Ao=>?_⟩))))
  ·refine AXm (AGi (AGi ?_));obtain ⟨C7,A4,B4⟩:=AGm (AT0 Ax Ao);refine AUg AS8 ATk (Ag.o2 p0) A4 fun _ C8 B5=>AGi (AGi (AGi ?_));obtain ⟨C9,B6,B7⟩:=AGm B4;refine AUg AS8 ATk (Ag.o2 p0) B6 fun _ Da B8=>AGi ?_;obtain ⟨Db,B9,Ca⟩:=AGm B7;refine AZi (m:=Aa) Ag p0 AS7 ATd B5 A4 B9 (fun _=>rfl) fun _ Dc Cb=>?_;obtain ⟨Dd,Cd,Ce⟩:=AGm Ca;obtain ⟨De,Cf,Cg⟩:=AGm Ce;refine AZi (m:=B1) Cb p0 AS7 ATd B8 Cd Cf (fun _=>rfl) fun _ Df Ch=>ATf (q_b (q_t (AS3 (ATj rfl rfl (AGi (AGq ?_))))));exact ⟨(_,_,_,_,_),(AGk Cg).symm,Ch,rfl,trivial⟩
  ·refine AGx (q_b (q_t (AS3 (ATj rfl rfl (AGi (AGq ?_))))));exact ⟨(_,_,_,_,_),(AGk (AT1 Ax Ao)).symm,Ag,rfl,trivial⟩
 ·refine AS9 (ATa (ATa (AT9 (q_t (AGl (AGi (AGw (AGy ?_))))))));obtain rfl:=AGk (Bh _ (AGk (AT1 Aj Ak)).symm);exact ⟨_,AS1,Ae.x,_,_,_,_,rfl,(Ae.o2 p0),Ae.s.sel [0] AGj⟩
def AZy (fuel:Nat) (a3:LiI):Option Bool:=
  ((AWr fuel a3).bind fun x5=>((AV8 fuel x5).bind fun Ac=>(if Ac=0 then ((AUj fuel x5).bind fun Ad=>((Ad1 fuel 10000).bind fun Ae=>((As0 fuel Ad Ae).bind fun Af=>(some (decide (Af<=0)))))) else (some false))))
theorem Ak6 {fuel:Nat} {h:AGs} {Ad:Value} {a3:LiI} {r:Bool} (H2:AXq (cI .i64) h Ad a3) (hp:AZy fuel a3=some r):ATt Tryz.prog 63 #[Ad] h (fun x h'=>Ext h h'/\x= .bool r):=by
 unfold AZy at hp;refine cwf (l:=[_]) Tryz.func63 rfl rfl (AGl (ATx (AGi ?_)));have K0:=Kst.k0 h;obtain ⟨x5,Aj,Ak⟩:=AGm hp;refine Ahc K0 (Agt (H2.ext K0.x) Aj) fun A3 A4 A5 A6 h9 E8 Ag=>ATx (AGi ?_);obtain ⟨Am,Ao,Ah⟩:=AGm Ak;refine AXx Ag (Ad4 (Ag.o2 p0).rd Ao) fun A9 Ba Ab=>AV2 rfl rfl (AGi ?_);by_cases Aa:Am=0
 ·rw [decide_eq_true Aa];refine ATo 9 true (AGi (ATo 9 true ?_));obtain ⟨Bb,Ap,Aq⟩:=AGm (ifT Ah Aa);refine Agc Ab (AWy (Ab.o2 p0).rd Ap) fun Bc Be Bf Ar=>ATo 9 true ?_;obtain ⟨Bg,Au,Av⟩:=AGm Aq;refine Agc Ar (Acg Au) fun Bh Bi Bj Ac=>ATo 9 true ?_;obtain ⟨Bl,Aw,Ax⟩:=AGm Av;refine AXx Ac (Arj (Ac.z p1).2 (Ac.z p0).2 Aw) fun Bm Bn Ay=>ATo 9 true (Arc rfl rfl (ATh rfl (AGw (AGy ?_))));obtain rfl:=AGk Ax;exact ⟨_,AS1,Ay.x,rfl⟩
 ·rw [decide_eq_false Aa];refine Acd 9 false (ATq rfl (AGw (AGy ?_)));obtain rfl:=AGk (ifF Ah Aa);exact ⟨_,AS1,Ab.x,rfl⟩
def Ade (fuel:Nat) (Ab Aa:Int):Option ((Int × Int) ⊕ ((Int))):=
  ((Ao4 fuel Aa).bind fun Ac=>(if ¬ Ac=0 then ((AZv fuel Ab Aa).bind fun Ad=>(some (Sum.inl (Aa,Ad)))) else (some (Sum.inr<| Ab))))
def AZz (fuel:Nat) (a1 a5:Int):Option Int:=
  ((Azl fuel a1).bind fun Ac=>((Azl fuel a5).bind fun Ad=>((iter (fun s=>Ade fuel s.1 s.2) fuel (Ac,Ad)).bind (fun (Ae:Int)=>(some Ae)))))
theorem Ak7 {fuel:Nat} {h:AGs} {Aq:Value} {a1:Int} {Au:Value} {a5 r:Int} (H3:ZZ h Aq a1) (H7:ZZ h Au a5) (hp:AZz fuel a1 a5=some r):ATt Tryz.prog 180 #[Aq,Au] h (fun x h'=>Ext h h'/\ ∃ (x0:Value),x=x0/\ZZ h' x0 r):=by
 unfold AZz at hp;obtain ⟨Bj,rfl,Ax⟩:=H3.cs;obtain ⟨Bl,rfl,Ay⟩:=H7.cs;refine cwf (l:=[_,_]) Tryz.func180 rfl rfl (AGl (AYn (Kst.k0 h) Bj fun b9 Cp Cq Bm=>AYn Bm Bl fun Cr Ct Cu Bn=>AVt Bn [.bool false,.slice none 0 0] AW9 fun Cv Ak Cw Ab=>AGq (AGn ?_)));have Am:UpT [] Ak Ak:=UpT.start all_nil;refine Ams (B:=fun h'=>UpT [] Ak h') 4 [⟨5,93,[.bool false,.slice none 0 0]⟩,⟨6,93,[.bool false,.slice none 0 0]⟩] (fun _ _ U E=>U.thenE E) AGv Am (Axz rfl rfl AW9 rfl AW9 rfl (fun _ _ U E=>U.thenE E)) (h_l rfl (Agd (Ab.zx Ax) Am (Ab.b p2) (ATf (h_e rfl fun Cx Az=>?_))));have A3:=Ab.e Az;obtain ⟨Bo,Bp,Bq⟩:=AGm hp;refine AXy A3 (Am.thenE Az) (Ax5 (A3.zx Ax).2 Bp) fun A4 Cy Br A5 A6=>ATf ⟨Br,?_⟩;refine h_l rfl (Agd (A5.zx Ay) A6 (Ab.b p1) (ATf (h_e rfl fun Cz A7=>?_)));have A8:=A5.e A7;obtain ⟨Bt,Bu,Bv⟩:=AGm Bq;refine AXy A8 (A6.thenE A7) (Ax5 (A8.zx Ay).2 Bu) fun A9 C0 Bw Bx By=>ATf ⟨Bw,?_⟩;refine Asx fun Bz Ba=>A9n fun B1 B3 Bb Bc B4 B5 B6 C1 C2=>?_;have Be:=Bx.e Ba;have Ae:=((Ab.nb2 (By.thenE Ba).ext (Ax0 B5 B6 Bb.lt Bc.lt B4) Bb Bc).az (Be.z p1)).az (Be.z p0);refine AUz A4 AT6 (cZ.klen (Ae.z p1)) (cZ.klen (AS6 Bz)) rfl rfl (cZ.one (Ae.z p1)) (Ae.b p2) fun B7 B8 B9=>?_;have Af:=Ae.sb p2 B9 B8 rfl;refine AUz A9 AT6 (cZ.klen (Af.z p0)) (cZ.klen (AS6 B7)) rfl rfl (cZ.one (Af.z p0)) (Af.b p3) fun C3 Ca Cb=>AGq (AGn (AGo ?_));have Ao:=(Af.sb p3 Cb Ca rfl).sel [0,1,2,3,4] AGj;dsimp only [AYk,Abf] at Ao;refine AX3 260096 (fun x:(Int) × LvA × (Int) × LvA=>(x.1,x.2.2.1)) ((Bo,A4,Bt,A9):(Int) × LvA × (Int) × LvA) Bv (fun x=>[]) (fun x=>(((Ao.L.set 1 (aZ x.2.1 x.1)).set 0 (aZ x.2.2.2 x.2.2.1)).set 2 (aB 93 B1 x.2.1)).set 3 (aB 93 B3 x.2.2.2)) Ao trivial ?_;rintro ⟨C4,C5,C6,Cd⟩ C7 C8 C9 Ag Bf Ce;unfold Ade at Bf;refine AGn (AGl (Ach (Ag.z p0) (Ag.b p3) ?_));obtain ⟨Da,Cf,Bg⟩:=AGm Bf;refine AXx Ag (Aob (Ag.z p0).2 Cf) fun Ah Db Aa=>AXa rfl rfl (AGq (⟨_,rfl,fun Ap=>?_,fun Ap=>?_⟩))
 ·refine AGx (q_t (AGo (AU8 (fun h'=>UpT [] Ah h') AGv ?_)));have Ai:UpT [] Ah Ah:=UpT.start all_nil;refine Agd (Aa.z p0) Ai (Aa.b p3) (Agd (Aa.z p1) Ai (Aa.b p2) (Agd (Aa.z p0) Ai (Aa.b p3) ?_));obtain ⟨Dc,Cg,Ch⟩:=AGm (AT0 Bg Ap);refine AXy Aa Ai (Ak3 (Aa.z p1).2 (Aa.z p0).2 Cg) fun Ci Dd De Ac Df=>AUz Cd AT6 (cZ.klen (Ac.z p1)) (cZ.klen (Ac.z p2)) rfl rfl (cZ.one (Ac.z p1)) (Ac.b p3) fun Dg Cj Ck=>?_;have Ad:=Ac.sb p3 Ck Cj rfl;refine AUz Ci AT6 (cZ.klen (Ad.z p0)) (cZ.klen (Ad.z p1)) rfl rfl (cZ.one (Ad.z p0)) (Ad.b p4) fun Dh Cm Cn=>ATf (q_b (q_t ?_));exact ⟨(_,_,_,_),(AGk Ch).symm,(Ad.sb p4 Cn Cm rfl).sel [0,1,3,4,5] AGj,trivial⟩
 ·refine AS9 (ATa (ATa (AT9 (q_t (AGl (Ach (Aa.z p1) (Aa.b p2) (AYa Aa p4 (AS6 Ah) (Aa.z p1) fun Di Aj=>AGq (AGy ?_))))))));obtain rfl:=AGk (Ce _ (AGk (AT1 Bg Ap)).symm);exact ⟨_,AU6 AT6 (cZ.klen (Aj.z p1)) rfl (Aj.b p4),Aj.x,_,rfl,(Aj.z p1).2⟩
def AYj (fuel:Nat) (a1 a5:Int):Option ((Int × Int) × Bool):=
  ((Ao4 fuel a5).bind fun Af=>(if Af=0 then (some ((0,0),false)) else ((((Ao4 fuel a5).bind fun Ag=>(if Ag < 0 then ((Av0 fuel a1).bind fun Ah=>((Av0 fuel a5).bind fun Ai=>(some ( (Ah,Ai))))) else (some ( (a1,a5))))):Option ((Int × Int))).bind (fun ((Ac,Ad):Int × Int)=>((AZz fuel Ac Ad).bind fun Ae=>((AVr fuel Ac Ae).bind fun Aj=>((AVr fuel Ad Ae).bind fun Ak=>(some ((Aj,Ak),true)))))))))
theorem Age {fuel:Nat} {h:AGs} {A4:Value} {a1:Int} {A5:Value} {a5:Int} {r:((Int × Int) × Bool)} (H3:ZZ h A4 a1) (H7:ZZ h A5 a5) (hp:AYj fuel a1 a5=some r):ATt Tryz.prog 166 #[A4,A5] h (fun x h'=>Ext h h'/\ ∃ (x0:Value),x= .tuple #[x0,.bool r.2]/\Apz h' x0 r.1.1 r.1.2):=by
 unfold AYj at hp;obtain ⟨A7,rfl,Am⟩:=H3.cs;obtain ⟨A8,rfl,Ab⟩:=H7.cs;refine cwf (l:=[_,_]) Tryz.func166 rfl rfl (AGl (AYn (Kst.k0 h) A7 fun b9 Cq Cr Bo=>AYn Bo A8 fun Bp Ct Cu Bq=>AVt Bq [.bool false,.slice none 0 0,.bool false,.slice none 0 0] Ahs fun Cv Cw Cx Ao=>AGw (AGn (AGl (Ach (Ao.zx Ab) (Ao.b p1) ?_)))));obtain ⟨Cy,Br,A9⟩:=AGm hp;refine AXx Ao (Aob (Ao.zx Ab).2 Br) fun Ag Cz Ad=>AV2 rfl rfl (AGq (⟨_,rfl,fun Au=>?_,fun Au=>?_⟩))
 ·refine AGl (AWe (Ax1 ) (AUz ([Value.bool false,Value.slice none 0 0] ++ [Value.bool false,Value.slice none 0 0]) AX9 (AUx (AS6 Ag) (AS6 Ag)) (AUx (AS6 Ag) (AS6 Ag)) rfl rfl (Ad2 (AS6 Ag) (AS6 Ag)) (Ad.b p0) fun Ap Bt Bu=>AGw (AGy (ATb ?_))));have Ba:=Ad.sb p0 Bu Bt rfl;obtain rfl:=AGk (AT0 A9 Au);exact ⟨_,Aks AX9 (AUx (AS6 Ap) (AS6 Ap)) rfl (Ba.b p0),Ba.x,_,rfl,⟨_,_,rfl,(AS6 Ap),(AS6 Ap)⟩⟩
 ·refine AGx (q_t ?_);obtain ⟨Bv,Bw,Bx⟩:=AGm (AT1 A9 Au);refine Aey 260096 (fun x:(Int) × LvA × (Int) × LvA=>[]) (fun x h'=>( (x.1,x.2.2.1))=Bv/\Kst h h' (aZ x.2.1 x.1 :: aZ x.2.2.2 x.2.2.1 :: ((Ad.L.set 2 (aB 93 b9 x.2.1)).set 1 (aB 93 Bp x.2.2.2)))) ?_ ?_
  ·refine AGl (Ach (Ad.zx Ab) (Ad.b p1) ?_);obtain ⟨C0,By,Bb⟩:=AGm Bw;refine AXx Ad (Aob (Ad.zx Ab).2 By) fun Av C1 Ae=>ATm rfl rfl (AGq (⟨_,rfl,fun Aw=>?_,fun Aw=>?_⟩))
   ·refine AU8 (fun h'=>UpT [] Av h') AGv ?_;have Bc:UpT [] Av Av:=UpT.start all_nil;refine Agd (Ae.zx Am) Bc (Ae.b p2) ?_;obtain ⟨Bz,B1,B3⟩:=AGm (AT0 Bb Aw);refine AXy Ae Bc (Aua (Ae.zx Am).2 B1) fun Be C2 C3 Ax Bf=>Agd (Ax.zx Ab) Bf (Ae.b p1) ?_;obtain ⟨B4,B5,B6⟩:=AGm B3;refine AXy Ax Bf (Aua (Ax.zx Ab).2 B5) fun Bg C4 C5 Ai C6=>AUz Be AT6 (cZ.klen (Ai.z p1)) (cZ.klen (Ai.zx Am)) rfl rfl (cZ.one (Ai.z p1)) (Ai.b p4) fun C7 B7 B8=>?_;have Aj:=Ai.sb p4 B8 B7 rfl;refine AUz Bg AT6 (cZ.klen (Aj.z p0)) (cZ.klen (Aj.zx Ab)) rfl rfl (cZ.one (Aj.z p0)) (Aj.b p3) fun C8 B9 Ca=>AGq ?_;exact ⟨((Bz,Be,B4,Bg):(Int) × LvA × (Int) × LvA),⟨AGk B6,(Aj.sb p3 Ca B9 rfl).sel [1,0,2,3,4] AGj⟩,trivial⟩
   ·refine AGx (q_t ?_);have Bh:=Ae.az (Ae.zx Am);exact ⟨((a1,A7,a5,A8):(Int) × LvA × (Int) × LvA),⟨AGk (AT1 Bb Aw),(Bh.az (Bh.zx Ab)).sel [1,0,2,3,4] AGj⟩,trivial⟩
  rintro ⟨C9,Da,Db,Dc⟩ Dd De ⟨Cb,Af⟩;subst Cb;refine AGl (Ach (Af.z p0) (Af.b p4) (Ach (Af.z p1) (Af.b p3) ?_));obtain ⟨Df,Cd,Ce⟩:=AGm Bx;refine Agc Af (Ak7 (Af.z p0).2 (Af.z p1).2 Cd) fun Dg Dh Di Cf=>AVt Cf [.bool false,.slice none 0 0] AW9 fun Dj Cg Dk Bi=>AYa Bi p0 (AS6 Cg) (Bi.z p1) fun Ay Aa=>AGq (AGn (AU8 (fun h'=>UpT [] Ay h') AGv ?_));have Az:UpT [] Ay Ay:=UpT.start all_nil;refine Agd (Aa.z p2) Az (Aa.b p6) (Agd (Aa.z p1) Az (Aa.b p0) ?_);obtain ⟨Dl,Ch,Ci⟩:=AGm Ce;refine AXy Aa Az (AZ1 (Aa.z p2).2 (Aa.z p1).2 Ch) fun Cj Do Dp Ak A3=>Agd (Ak.z p4) A3 (Aa.b p5) (Agd (Ak.z p2) A3 (Aa.b p0) ?_);obtain ⟨Dq,Ck,Cm⟩:=AGm Ci;refine AXy Ak A3 (AZ1 (Ak.z p4).2 (Ak.z p2).2 Ck) fun Cn Bj Dr Ac Ds=>AWe (Amu (Ac.z p1) (Ac.z p0)) (AUz (Cj ++ Cn) AX9 (AUx (Ac.z p1) (Ac.z p0)) (AUx (AS6 Bj) (AS6 Bj)) rfl rfl (Ad2 (Ac.z p1) (Ac.z p0)) (Ac.b p6) fun Dt Co Cp=>AGw (AGy ?_));have Ah:=Ac.sb p6 Cp Co rfl;obtain rfl:=AGk Cm;exact ⟨_,Aks AX9 (AUx (Ah.z p1) (Ah.z p0)) rfl (Ah.b p6),Ah.x,_,rfl,⟨_,_,rfl,(Ah.z p1),(Ah.z p0)⟩⟩
def Adw (fuel:Nat) (a1:Int):Option (Int × Int):=
  ((Ajh fuel a1).bind fun Ab=>((Ad1 fuel 1).bind fun Ac=>(some (Ab,Ac))))
theorem Ajw {fuel:Nat} {h:AGs} {Ad:Value} {a1:Int} {r:(Int × Int)} (H3:ZZ h Ad a1) (hp:Adw fuel a1=some r):ATt Tryz.prog 181 #[Ad] h (fun x h'=>Ext h h'/\ ∃ (x0:Value),x=x0/\Apz h' x0 r.1 r.2):=by
 unfold Adw at hp;obtain ⟨Aj,rfl,Ag⟩:=H3.cs;refine cwf (l:=[_]) Tryz.func181 rfl rfl (AGl (AYn (Kst.k0 h) Aj fun b5 h6 E8 Ak=>AVt Ak [.bool false,.slice none 0 0,.bool false,.slice none 0 0] Ahs fun A4 A5 A6 Ac=>AZf (Ach (Ac.zx Ag) (Ac.b p1) ?_)));obtain ⟨A7,Am,Ao⟩:=AGm hp;refine Agc Ac (Ak1 (Ac.zx Ag).2 Am) fun Ap A8 A9 Aq=>?_;obtain ⟨Ba,Ar,Au⟩:=AGm Ao;refine Agc Aq (Acg Ar) fun Av Ah Bb Aa=>AWe (Amu (Aa.z p1) (Aa.z p0)) (AUz (Ap ++ Av) AX9 (AUx (Aa.z p1) (Aa.z p0)) (AUx (AS6 Ah) (AS6 Ah)) rfl rfl (Ad2 (Aa.z p1) (Aa.z p0)) (Aa.b p2) fun Bc Aw Ax=>AGq (AGy ?_));have Ab:=Aa.sb p2 Ax Aw rfl;obtain rfl:=AGk Au;exact ⟨_,AU6 AX9 (AUx (Ab.z p1) (Ab.z p0)) rfl (Ab.b p2),Ab.x,_,rfl,⟨_,_,rfl,(Ab.z p1),(Ab.z p0)⟩⟩
def Adx (fuel:Nat) (a1:Int):Option (Int × Int):=
  ((Ad1 fuel a1).bind fun x9=>((Adw fuel x9).bind fun Aa=>(some (Aa.1,Aa.2))))
theorem Ajx {fuel:Nat} {h:AGs} {a1:Int} {r:(Int × Int)} (hp:Adx fuel a1=some r):ATt Tryz.prog 167 #[(.int .i64 a1)] h (fun x h'=>Ext h h'/\ ∃ (x0:Value),x=x0/\Apz h' x0 r.1 r.2):=by
 unfold Adx at hp;refine cwf (l:=[_]) Tryz.func167 rfl rfl (AGl (AVt (Kst.k0 h) [.bool false,.slice none 0 0,.bool false,.slice none 0 0] Ahs fun b2 h3 E5 K8=>AZf (AGi ?_)));obtain ⟨x9,Ah,Ai⟩:=AGm hp;refine Agc K8 (Acg Ah) fun A5 A6 A7 Ae=>?_;obtain ⟨A8,Aj,Ak⟩:=AGm Ai;refine Afg rfl (Ajw (Ae.z p0).2 Aj) fun A9 Af Am Ao=>?_;obtain ⟨Ba,rfl,Ap⟩:=Ao;obtain ⟨Aq,Ar,rfl,Au,Av⟩:=Ap;have Aa:=((Ae.e Am).az Au).az Av;refine AUz (Aq ++ Ar) AX9 (AUx (Aa.z p1) (Aa.z p0)) (AUx (AS6 Af) (AS6 Af)) rfl rfl (Ad2 (Aa.z p1) (Aa.z p0)) (Aa.b p3) fun Bb Aw Ax=>AGq (AGy ?_);have Ab:=Aa.sb p3 Ax Aw rfl;obtain rfl:=AGk Ak;exact ⟨_,AU6 AX9 (AUx (Ab.z p1) (Ab.z p0)) rfl (Ab.b p3),Ab.x,_,rfl,⟨_,_,rfl,(Ab.z p1),(Ab.z p0)⟩⟩
def AU5 (fuel:Nat) (a3 a5:Int):Option (Int × Int):=
  ((AYj fuel a3 a5).bind fun (Aa,Ae)=>(if (!Ae)=true then ((Adx fuel 0).bind fun Ab=>(some (Ab.1,Ab.2))) else (some (Aa.1,Aa.2))))
theorem AXr {fuel:Nat} {h:AGs} {Ak:Value} {a3 a5:Int} {r:(Int × Int)} (H2:Apz h Ak a3 a5) (hp:AU5 fuel a3 a5=some r):ATt Tryz.prog 145 #[Ak] h (fun x h'=>Ext h h'/\ ∃ (x0:Value),x=x0/\Apz h' x0 r.1 r.2):=by
 unfold AU5 at hp;obtain ⟨Aq,Ar,rfl,H2z0,H2z1⟩:=H2;refine cwf (l:=[_]) Tryz.func145 rfl rfl (AGl (AYn (Kst.k0 h) (Aq ++ Ar) fun b7 h8 Br Ay=>AVt Ay [.bool false,.slice none 0 0,.bool false,.slice none 0 0] Ahs fun Bt Bu Bv Ab=>AZf (AXu (fs:=2) Ap9 AGv AGj rfl (Acb Aq AT6 (cZ.klen (Ab.zx H2z0)) rfl ((Ab.b p1).aggL) (AXu (fs:=2) Amt AGv AGj rfl (Acb Ar AT6 (cZ.klen (Ab.zx H2z1)) rfl ((Ab.b p1).aggR (cZ.klen (Ab.zx H2z0))) ?_))))));obtain ⟨⟨Bw,Bx⟩,Az,Ag⟩:=AGm hp;dsimp only at Ag;refine Afg rfl (Age (Ab.zx H2z0).2 (Ab.zx H2z1).2 Az) fun By Bz A3 A4=>?_;obtain ⟨B1,rfl,A5⟩:=A4;obtain ⟨Ah,Ai,rfl,A6,A7⟩:=A5;refine AGi (AUe rfl rfl (AUe rfl rfl (AVt (((Ab.e A3).az A6).az A7) [.bool false,.slice none 0 0,.bool false,.slice none 0 0] Ahs fun B3 Au B4 Ac=>AUz (Ah ++ Ai) AX9 (AUx (Ac.z p2) (Ac.z p1)) (AUx (AS6 Au) (AS6 Au)) rfl rfl (Ad2 (Ac.z p2) (Ac.z p1)) (Ac.b p0) fun Av A8 A9=>AGw (AGn (AGl (AGi (AWp rfl (AGq ?_))))))));have Aa:=Ac.sb p0 A9 A8 rfl;refine ⟨_,rfl,fun Aj=>?_,fun Aj=>?_⟩
 ·refine AGl ?_;obtain ⟨B5,Ba,Bb⟩:=AGm (ifT Ag Aj);refine Afg rfl (Ajx Ba) fun B6 Aw Bc Be=>?_;obtain ⟨B7,rfl,Bf⟩:=Be;obtain ⟨Bg,Bh,rfl,Bi,Bj⟩:=Bf;have Ad:=((Aa.e Bc).az Bi).az Bj;refine AUz (Bg ++ Bh) AX9 (AUx (Ad.z p1) (Ad.z p0)) (AUx (AS6 Aw) (AS6 Aw)) rfl rfl (Ad2 (Ad.z p1) (Ad.z p0)) (Ad.b p5) fun B8 Bl Bm=>AGq (AGy (ATb ?_));have Ae:=Ad.sb p5 Bm Bl rfl;obtain rfl:=AGk Bb;exact ⟨_,AU6 AX9 (AUx (Ae.z p1) (Ae.z p0)) rfl (Ae.b p5),Ae.x,_,rfl,⟨_,_,rfl,(Ae.z p1),(Ae.z p0)⟩⟩
 ·refine AGx (q_t (AGl (Acb (Ah ++ Ai) AX9 (AUx (Aa.z p2) (Aa.z p1)) rfl ((Aa.b p0).agg) (AUz (Ah ++ Ai) AX9 (AUx (Aa.z p2) (Aa.z p1)) (AUx (AS6 Av) (AS6 Av)) rfl rfl (Ad2 (Aa.z p2) (Aa.z p1)) (Aa.b p3) fun B9 Bn Bo=>AGq (AGy ?_)))));have Af:=Aa.sb p3 Bo Bn rfl;obtain rfl:=AGk (Aav Ag Aj);exact ⟨_,AU6 AX9 (AUx (Af.z p2) (Af.z p1)) rfl (Af.b p3),Af.x,_,rfl,⟨_,_,rfl,(Af.z p2),(Af.z p1)⟩⟩
def AXo (fuel:Nat) (a1 a5:Int):Option (Int × Int):=
  ((AU5 fuel a1 a5).bind fun Aa=>(some (Aa.1,Aa.2)))
theorem Ah4 {fuel:Nat} {h:AGs} {Af:Value} {a1:Int} {Ah:Value} {a5:Int} {r:(Int × Int)} (H3:ZZ h Af a1) (H7:ZZ h Ah a5) (hp:AXo fuel a1 a5=some r):ATt Tryz.prog 106 #[Af,Ah] h (fun x h'=>Ext h h'/\ ∃ (x0:Value),x=x0/\Apz h' x0 r.1 r.2):=by
 unfold AXo at hp;obtain ⟨Ap,rfl,Ad⟩:=H3.cs;obtain ⟨Aq,rfl,Ae⟩:=H7.cs;refine cwf (l:=[_,_]) Tryz.func106 rfl rfl (AGl (AYn (Kst.k0 h) Ap fun b9 Ba Bb Ar=>AYn Ar Aq fun Bc Be Bf Au=>AVt Au [.bool false,.slice none 0 0,.bool false,.slice none 0 0] Ahs fun Bg Bh Bi Aa=>AZf (Ach (Aa.zx Ad) (Aa.b p2) (Ach (Aa.zx Ae) (Aa.b p1) (AWe (Amu (Aa.zx Ad) (Aa.zx Ae)) ?_)))));obtain ⟨Bj,Av,Aw⟩:=AGm hp;refine Afg rfl (AXr ⟨_,_,rfl,(Aa.zx Ad),(Aa.zx Ae)⟩ Av) fun Bl Ak Ax Ay=>?_;obtain ⟨Bm,rfl,Az⟩:=Ay;obtain ⟨A3,A4,rfl,A5,A6⟩:=Az;have Ab:=((Aa.e Ax).az A5).az A6;refine AUz (A3 ++ A4) AX9 (AUx (Ab.z p1) (Ab.z p0)) (AUx (AS6 Ak) (AS6 Ak)) rfl rfl (Ad2 (Ab.z p1) (Ab.z p0)) (Ab.b p2) fun Bn A7 A8=>AGq (AGy ?_);have Ac:=Ab.sb p2 A8 A7 rfl;obtain rfl:=AGk Aw;exact ⟨_,AU6 AX9 (AUx (Ac.z p1) (Ac.z p0)) rfl (Ac.b p2),Ac.x,_,rfl,⟨_,_,rfl,(Ac.z p1),(Ac.z p0)⟩⟩
def Abt (fuel:Nat):Option (Int × Int):=
  ((Ad1 fuel 1).bind fun x8=>((Ad1 fuel 2).bind fun Ab=>(some (x8,Ab))))
theorem Aj6 {fuel:Nat} {h:AGs} {r:(Int × Int)} (hp:Abt fuel=some r):ATt Tryz.prog 144 #[] h (fun x h'=>Ext h h'/\ ∃ (x0:Value),x=x0/\Apz h' x0 r.1 r.2):=by
 unfold Abt at hp;refine cwf (l:=[]) Tryz.func144 rfl rfl (AGl (AVt (Kst.k0 h) [.bool false,.slice none 0 0,.bool false,.slice none 0 0] Ahs fun b1 h2 E4 K7=>AZf ?_));obtain ⟨x8,Af,Ag⟩:=AGm hp;refine Agc K7 (Acg Af) fun Ah Aw Ax Ai=>?_;obtain ⟨Ay,Aj,Ak⟩:=AGm Ag;refine Agc Ai (Acg Aj) fun Am Ad Az Aa=>AWe (Amu (Aa.z p1) (Aa.z p0)) (AUz (Ah ++ Am) AX9 (AUx (Aa.z p1) (Aa.z p0)) (AUx (AS6 Ad) (AS6 Ad)) rfl rfl (Ad2 (Aa.z p1) (Aa.z p0)) (Aa.b p2) fun A3 Ao Ap=>AGq (AGy ?_));have Ab:=Aa.sb p2 Ap Ao rfl;obtain rfl:=AGk Ak;exact ⟨_,AU6 AX9 (AUx (Ab.z p1) (Ab.z p0)) rfl (Ab.b p2),Ab.x,_,rfl,⟨_,_,rfl,(Ab.z p1),(Ab.z p0)⟩⟩
def Ab9 (fuel:Nat) (a3 a5 a9 Ag:Int):Option (Int × Int):=
  ((AU5 fuel a3 a5).bind fun Aa=>((AU5 fuel a9 Ag).bind fun Ab=>((Ajg fuel Aa.1 Ab.2).bind fun Ah=>((Ajg fuel Ab.1 Aa.2).bind fun Ai=>((Azg fuel Ah Ai).bind fun Aj=>((Ajg fuel Aa.2 Ab.2).bind fun Ak=>((AYj fuel Aj Ak).bind fun (Ac,Am)=>(some (Ac.1,Ac.2)))))))))
theorem Ak8 {fuel:Nat} {h:AGs} {Bh:Value} {a3 a5:Int} {Bl:Value} {a9 Bn:Int} {r:(Int × Int)} (H2:Apz h Bh a3 a5) (H8:Apz h Bl a9 Bn) (hp:Ab9 fuel a3 a5 a9 Bn=some r):ATt Tryz.prog 143 #[Bh,Bl] h (fun x h'=>Ext h h'/\ ∃ (x0:Value),x=x0/\Apz h' x0 r.1 r.2):=by
 unfold Ab9 at hp;obtain ⟨Bp,Bq,rfl,H2z0,H2z1⟩:=H2;obtain ⟨Br,Bt,rfl,H8z0,H8z1⟩:=H8;refine cwf (l:=[_,_]) Tryz.func143 rfl rfl (AGl (AYn (Kst.k0 h) (Bp ++ Bq) fun D0 D1 D2 Cj=>AYn Cj (Br ++ Bt) fun D3 D4 D5 Ck=>AVt Ck [.bool false,.slice none 0 0,.bool false,.slice none 0 0] Ahs fun D6 Ao D7 Ac=>AGq (AGn ?_)));have Ap:UpT [] Ao Ao:=UpT.start all_nil;refine Ams (B:=fun h'=>UpT [] Ao h') 4 [⟨5,147,[.bool false,.slice none 0 0,.bool false,.slice none 0 0]⟩,⟨6,147,[.bool false,.slice none 0 0,.bool false,.slice none 0 0]⟩] (fun _ _ U E=>U.thenE E) AGv Ap (Axz rfl rfl Ahs rfl Ahs rfl (fun _ _ U E=>U.thenE E)) (h_l rfl (Aat (Bp ++ Bq) AX9 (AUx (Ac.zx H2z0) (Ac.zx H2z1)) rfl Ap (fun h' hb=>((Ac.b p2).ext hb.ext).agg) (ATf (h_e rfl fun D8 Bu=>?_))));have Aq:=Ap.thenE Bu;have Ar:=Ac.e Bu;obtain ⟨D9,Cm,Cn⟩:=AGm hp;refine AXd Aq (fun _ E=>Aq.thenE E) rfl (AXr ⟨_,_,rfl,(Ar.zx H2z0),(Ar.zx H2z1)⟩ Cm) fun Ea Eb Au Co=>?_;obtain ⟨Ec,rfl,Cp⟩:=Co;have Bv:=Aq.thenE Au;obtain ⟨Bw,Av,rfl,Cq,Cr⟩:=Cp;have Aw:=((Ar.e Au).az Cq).az Cr;refine ATf ⟨Au,?_⟩;refine h_l rfl (Aat (Br ++ Bt) AX9 (AUx (Aw.zx H8z0) (Aw.zx H8z1)) rfl Bv (fun h' hb=>((Ac.b p1).ext hb.ext).agg) (ATf (h_e rfl fun Ed Bx=>?_)));have Ax:=Bv.thenE Bx;have Ay:=Aw.e Bx;obtain ⟨Ee,Ct,Cu⟩:=AGm Cn;refine AXd Ax (fun _ E=>Ax.thenE E) rfl (AXr ⟨_,_,rfl,(Ay.zx H8z0),(Ay.zx H8z1)⟩ Ct) fun Ef Eg Az Cv=>?_;obtain ⟨Eh,rfl,Cw⟩:=Cv;have Cx:=Ax.thenE Az;obtain ⟨By,A3,rfl,Cy,Cz⟩:=Cw;refine ATf ⟨Az,?_⟩;refine Asx fun Bz B1=>A9n fun Ei Ej B3 B4 C0 C1 C2 Ek El=>?_;have Aj:=(((Ay.e Az).az Cy).az Cz).e B1;have Ad:=((((Ac.nb2 (Cx.thenE B1).ext (Ax0 C1 C2 B3.lt B4.lt C0) B3 B4).az (Aj.z p3)).az (Aj.z p2)).az (Aj.z p1)).az (Aj.z p0);refine AUz (Bw ++ Av) AX9 (AUx (Ad.z p3) (Ad.z p2)) (AUx (AS6 Bz) (AS6 Bz)) rfl rfl (Ad2 (Ad.z p3) (Ad.z p2)) (Ad.b p4) fun B5 C3 C4=>?_;have Ae:=Ad.sb p4 C4 C3 rfl;refine AUz (By ++ A3) AX9 (AUx (Ae.z p1) (Ae.z p0)) (AUx (AS6 B5) (AS6 B5)) rfl rfl (Ad2 (Ae.z p1) (Ae.z p0)) (Ae.b p5) fun A4 C5 C6=>AGq (AGn ?_);have Aa:=Ae.sb p5 C6 C5 rfl;have Ak:UpT [] A4 A4:=UpT.start all_nil;refine Ams (B:=fun h'=>UpT [] A4 h') 20 [⟨7,147,[.bool false,.slice none 0 0,.bool false,.slice none 0 0]⟩] (fun _ _ U E=>U.thenE E) AGv Ak (Axy rfl Ahs rfl (fun _ _ U E=>U.thenE E)) (h_l rfl (AXu (fs:=2) Ap9 AGv AGj rfl (ATf (h_l rfl (Aat Bw AT6 (cZ.klen (Aa.z p3)) rfl Ak (fun h' hb=>((Aa.b p4).ext hb.ext).aggL) (ATf (h_l rfl (AXu (fs:=2) Amt AGv AGj rfl (ATf (h_l rfl (Aat A3 AT6 (cZ.klen (Aa.z p0)) rfl Ak (fun h' hb=>((Aa.b p5).ext hb.ext).aggR (cZ.klen (Aa.z p1))) (ATf (h_e rfl fun Em B6=>?_)))))))))))));have A5:=Aa.e B6;obtain ⟨En,C7,C8⟩:=AGm Cu;refine AXy A5 (Ak.thenE B6) (Ahr (A5.z p3).2 (A5.z p0).2 C7) fun Eo Ep C9 Am A6=>ATf ⟨C9,?_⟩;refine h_l rfl (AXu (fs:=2) Ap9 AGv AGj rfl (ATf (h_l rfl (Aat By AT6 (cZ.klen (Am.z p2)) rfl A6 (fun h' hb=>((Aa.b p5).ext hb.ext).aggL) (ATf (h_l rfl (AXu (fs:=2) Amt AGv AGj rfl (ATf (h_l rfl (Aat Av AT6 (cZ.klen (Am.z p3)) rfl A6 (fun h' hb=>((Aa.b p4).ext hb.ext).aggR (cZ.klen (Am.z p4))) (ATf (h_e rfl fun Er B7=>?_))))))))))));have A7:=Am.e B7;obtain ⟨Es,Da,Db⟩:=AGm C8;refine AXy A7 (A6.thenE B7) (Ahr (A7.z p2).2 (A7.z p3).2 Da) fun Et Eu Dc Dd De=>ATf ⟨Dc,?_⟩;refine h_e rfl fun Ev B8=>?_;have A8:=Dd.e B8;obtain ⟨Ew,Df,Dg⟩:=AGm Db;refine AXy A8 (De.thenE B8) (Axv (A8.z p1).2 (A8.z p0).2 Df) fun Ey Ez Dh Ai A9=>ATf ⟨Dh,?_⟩;refine h_l rfl (AXu (fs:=2) Amt AGv AGj rfl (ATf (h_l rfl (Aat Av AT6 (cZ.klen (Ai.z p5)) rfl A9 (fun h' hb=>((Aa.b p4).ext hb.ext).aggR (cZ.klen (Ai.z p6))) (ATf (h_l rfl (AXu (fs:=2) Amt AGv AGj rfl (ATf (h_l rfl (Aat A3 AT6 (cZ.klen (Ai.z p3)) rfl A9 (fun h' hb=>((Aa.b p5).ext hb.ext).aggR (cZ.klen (Ai.z p4))) (ATf (h_e rfl fun Fa B9=>?_))))))))))));have Ba:=Ai.e B9;obtain ⟨Fb,Di,Dj⟩:=AGm Dg;refine AXy Ba (A9.thenE B9) (Ahr (Ba.z p5).2 (Ba.z p3).2 Di) fun Fc Fd Dk Dl Do=>ATf ⟨Dk,?_⟩;refine h_e rfl fun Fe Ca=>?_;have Bb:=Do.thenE Ca;have Bc:=Dl.e Ca;obtain ⟨⟨Ff,Fg⟩,Dp,Cb⟩:=AGm Dj;dsimp only at Cb;refine AXd Bb (fun _ E=>Bb.thenE E) rfl (Age (Bc.z p1).2 (Bc.z p0).2 Dp) fun Fh Fi Be Dq=>?_;obtain ⟨Fj,rfl,Dr⟩:=Dq;have Ds:=Bb.thenE Be;obtain ⟨Bf,Bg,rfl,Dt,Du⟩:=Dr;refine ATf ⟨Be,?_⟩;refine h_l rfl (AGi (ATf (h_l rfl (AUe rfl rfl (ATf (h_l rfl (AUe rfl rfl (ATf (Asx fun Cd Ce=>A9m fun Fk Cf Dv Fl=>?_)))))))));have Af:=(((Bc.e Be).az Dt).az Du).e Ce;have Ag:=((((((Aa.nb (Ds.thenE Ce).ext (AXv Dv Cf.lt) Cf).az (Af.z p5)).az (Af.z p4)).az (Af.z p3)).az (Af.z p2)).az (Af.z p1)).az (Af.z p0);refine AUz (Bf ++ Bg) AX9 (AUx (Ag.z p1) (Ag.z p0)) (AUx (AS6 Cd) (AS6 Cd)) rfl rfl (Ad2 (Ag.z p1) (Ag.z p0)) (Ag.b p6) fun Cg Dw Dx=>ATx ?_;have Ab:=Ag.sb p6 Dx Dw rfl;refine Acb (Bf ++ Bg) AX9 (AUx (Ab.z p1) (Ab.z p0)) rfl ((Ab.b p6).agg) (AUz (Bf ++ Bg) AX9 (AUx (Ab.z p1) (Ab.z p0)) (AUx (AS6 Cg) (AS6 Cg)) rfl rfl (Ad2 (Ab.z p1) (Ab.z p0)) (Ab.b p13) fun Fm Dy Dz=>AGq (AGy ?_));have Ah:=Ab.sb p13 Dz Dy rfl;obtain rfl:=AGk Cb;exact ⟨_,AU6 AX9 (AUx (Ah.z p1) (Ah.z p0)) rfl (Ah.b p13),Ah.x,_,rfl,⟨_,_,rfl,(Ah.z p1),(Ah.z p0)⟩⟩
def Aa4 (fuel:Nat) (a3 a5:Int):Option Int:=
  ((AU5 fuel a3 a5).bind fun Aa=>((AVr fuel Aa.1 Aa.2).bind fun Ad=>(some Ad)))
theorem Ajy {fuel:Nat} {h:AGs} {Ae:Value} {a3 a5 r:Int} (H2:Apz h Ae a3 a5) (hp:Aa4 fuel a3 a5=some r):ATt Tryz.prog 142 #[Ae] h (fun x h'=>Ext h h'/\ ∃ (x0:Value),x=x0/\ZZ h' x0 r):=by
 unfold Aa4 at hp;obtain ⟨Ai,Aj,rfl,H2z0,H2z1⟩:=H2;refine cwf (l:=[_]) Tryz.func142 rfl rfl (AGl (AYn (Kst.k0 h) (Ai ++ Aj) fun b7 h8 Bb Ar=>AVt Ar [.bool false,.slice none 0 0] AW9 fun Bc Be Bf Ab=>AZf (Acb (Ai ++ Aj) AX9 (AUx (Ab.zx H2z0) (Ab.zx H2z1)) rfl ((Ab.b p1).agg) ?_)));obtain ⟨Bg,Au,Av⟩:=AGm hp;refine Afg rfl (AXr ⟨_,_,rfl,(Ab.zx H2z0),(Ab.zx H2z1)⟩ Au) fun Bh Bi Aw Ax=>?_;obtain ⟨Bj,rfl,Ay⟩:=Ax;obtain ⟨Ak,Am,rfl,Az,A3⟩:=Ay;refine AVt (((Ab.e Aw).az Az).az A3) [.bool false,.slice none 0 0,.bool false,.slice none 0 0] Ahs fun Bl Ao Bm Ac=>AUz (Ak ++ Am) AX9 (AUx (Ac.z p2) (Ac.z p1)) (AUx (AS6 Ao) (AS6 Ao)) rfl rfl (Ad2 (Ac.z p2) (Ac.z p1)) (Ac.b p0) fun Bn A4 A5=>AZf (AXu (fs:=2) Ap9 AGv AGj rfl ?_);have Aa:=Ac.sb p0 A5 A4 rfl;refine Acb Ak AT6 (cZ.klen (Aa.z p2)) rfl ((Aa.b p0).aggL) (AXu (fs:=2) Amt AGv AGj rfl (Acb Am AT6 (cZ.klen (Aa.z p1)) rfl ((Aa.b p0).aggR (cZ.klen (Aa.z p2))) ?_));obtain ⟨Bo,A6,A7⟩:=AGm Av;refine Agc Aa (AZ1 (Aa.z p2).2 (Aa.z p1).2 A6) fun Bp A8 Bq Ap=>AYa Ap p4 (AS6 A8) (Ap.z p0) fun Br Ad=>AGq (AGy ?_);obtain rfl:=AGk A7;exact ⟨_,AU6 AT6 (cZ.klen (Ad.z p0)) rfl (Ad.b p4),Ad.x,_,rfl,(Ad.z p0).2⟩
def AX1 (fuel:Nat) (a3 a5:Int):Option Int:=
  ((Abt fuel).bind fun Aa=>((Ab9 fuel a3 a5 Aa.1 Aa.2).bind fun Ab=>((Aa4 fuel Ab.1 Ab.2).bind fun Ae=>(some Ae))))
theorem Aio {fuel:Nat} {h:AGs} {Ai:Value} {a3 a5 r:Int} (H2:Apz h Ai a3 a5) (hp:AX1 fuel a3 a5=some r):ATt Tryz.prog 105 #[Ai] h (fun x h'=>Ext h h'/\ ∃ (x0:Value),x=x0/\ZZ h' x0 r):=by
 unfold AX1 at hp;obtain ⟨Ao,Ap,rfl,H2z0,H2z1⟩:=H2;refine cwf (l:=[_]) Tryz.func105 rfl rfl (AGl (AYn (Kst.k0 h) (Ao ++ Ap) fun b7 h8 Bm Av=>AVt Av [.bool false,.slice none 0 0] AW9 fun Bn Af Bo Ab=>AGq (AGn (AU8 (fun h'=>UpT [] Af h') AGv ?_))));have Ac:UpT [] Af Af:=UpT.start all_nil;refine Aat (Ao ++ Ap) AX9 (AUx (Ab.zx H2z0) (Ab.zx H2z1)) rfl Ac (fun h' hb=>((Ab.b p1).ext hb.ext).agg) ?_;obtain ⟨Bp,Aw,Ax⟩:=AGm hp;refine AXd Ac (fun _ E=>Ac.thenE E) rfl (Aj6 Aw) fun Bq Br Aq Ay=>?_;obtain ⟨Bt,rfl,Az⟩:=Ay;have Ag:=Ac.thenE Aq;obtain ⟨Bu,Bv,rfl,A3,A4⟩:=Az;have Aa:=((Ab.e Aq).az A3).az A4;obtain ⟨Bw,A5,A6⟩:=AGm Ax;refine AXd Ag (fun _ E=>Ag.thenE E) rfl (Ak8 ⟨_,_,rfl,(Aa.zx H2z0),(Aa.zx H2z1)⟩ ⟨_,_,rfl,(Aa.z p1),(Aa.z p0)⟩ A5) fun Bx By Ar A7=>?_;obtain ⟨Bz,rfl,A8⟩:=A7;have A9:=Ag.thenE Ar;obtain ⟨B1,B3,rfl,Ba,Bb⟩:=A8;have Ah:=((Aa.e Ar).az Ba).az Bb;obtain ⟨B4,Bc,Be⟩:=AGm A6;refine AXy Ah A9 (Ajy ⟨_,_,rfl,(Ah.z p1),(Ah.z p0)⟩ Bc) fun Bf Bg B5 Ad B6=>AUz Bf AT6 (cZ.klen (Ad.z p0)) (cZ.klen (AS6 Bg)) rfl rfl (cZ.one (Ad.z p0)) (Ad.b p5) fun B7 Bh Bi=>AGq (AGy ?_);have Ae:=Ad.sb p5 Bi Bh rfl;obtain rfl:=AGk Be;exact ⟨_,AU6 AT6 (cZ.klen (Ae.z p0)) rfl (Ae.b p5),Ae.x,_,rfl,(Ae.z p0).2⟩
def AYc (fuel:Nat) (a3:LiI) (a7:LiA) (a9:Int):Option Bool:=
  ((AV3 fuel a3 a9 (w64 (a9 - 1))).bind fun Ac=>((Ad1 fuel 4).bind fun Ae=>((AU4 fuel a7 (w64 (a9 - 1))).bind fun Af=>((AU4 fuel a7 (w64 (a9 + 1))).bind fun Ag=>((Ajg fuel Af Ag).bind fun Ah=>((Ajg fuel Ac Ac).bind fun Ai=>((Azg fuel Ah Ai).bind fun Aj=>((Ajg fuel Ae Aj).bind fun Ak=>((Ad1 fuel 3).bind fun Am=>((AU4 fuel a7 a9).bind fun Ao=>((AU4 fuel a7 a9).bind fun Ap=>((Ajg fuel Ao Ap).bind fun Aq=>((Ajg fuel Am Aq).bind fun Ar=>((As0 fuel Ak Ar).bind fun Au=>(some (decide (0<=Au)))))))))))))))))
theorem Ai2 {fuel:Nat} {h:AGs} {Au:Value} {a3:LiI} {Aw:Value} {a7:LiA} {a9:Int} {r:Bool} (H2:AXq cZ h Au a3) (H6:SlC cZ h Aw a7) (hp:AYc fuel a3 a7 a9=some r):ATt Tryz.prog 95 #[Au,Aw,(.int .i64 a9)] h (fun x h'=>Ext h h'/\x= .bool r):=by
 unfold AYc at hp;refine cwf (l:=[_,_,_]) Tryz.func95 rfl rfl (AGl (ATx (AGi (AGi (AGi (AVe rfl rfl ?_))))));have K0:=Kst.k0 h;obtain ⟨Dg,Bm,Bn⟩:=AGm hp;refine Agc K0 (Abl (H2.ext K0.x) Bm) fun Dh Di Dj Bo=>AVt Bo [.bool false,.slice none 0 0] AW9 fun Dk Bp Dl A3=>AYa A3 p0 (AS6 Bp) (A3.z p1) fun Ae Ac=>AGq (AGn ?_);have A4:UpT [] Ae Ae:=UpT.start all_nil;refine Ams (B:=fun h'=>UpT [] Ae h') 15 [⟨8,93,[.bool false,.slice none 0 0]⟩] (fun _ _ U E=>U.thenE E) AGv A4 (Axy rfl AW9 rfl (fun _ _ U E=>U.thenE E)) (h_e rfl fun Do A5=>?_);obtain ⟨Dp,Bq,Br⟩:=AGm Bn;refine AXy (Ac.e A5) (A4.thenE A5) (Acg Bq) fun Dq Dr Bt Bu Bv=>ATf ⟨Bt,?_⟩;refine h_l rfl (AGi (ATf (h_l rfl (AGi (ATf (h_l rfl (AVe rfl rfl (ATf (h_e rfl fun Ds A6=>?_)))))))));have A7:=Bu.e A6;obtain ⟨Dt,Bw,Bx⟩:=AGm Br;refine AXy A7 (Bv.thenE A6) (AV9 (H6.ext A7.x) Bw) fun Du Dv By Bz B1=>ATf ⟨By,?_⟩;refine h_l rfl (AGi (ATf (h_l rfl (AGi (ATf (h_l rfl (ATj rfl rfl (ATf (h_e rfl fun Dw A8=>?_)))))))));have A9:=Bz.e A8;obtain ⟨Dx,B3,B4⟩:=AGm Bx;refine AXy A9 (B1.thenE A8) (AV9 (H6.ext A9.x) B3) fun Dy Dz B5 B6 B7=>ATf ⟨B5,?_⟩;refine h_e rfl fun D0 Ba=>?_;have Af:=B6.e Ba;obtain ⟨D1,B8,B9⟩:=AGm B4;refine AXy Af (B7.thenE Ba) (Ahr (Af.z p1).2 (Af.z p0).2 B8) fun D2 D3 Ca Ag Ah=>ATf ⟨Ca,?_⟩;refine h_l rfl (Agd (Ag.z p5) Ah (Ac.b p0) (ATf (h_l rfl (Agd (Ag.z p5) Ah (Ac.b p0) (ATf (h_e rfl fun D4 Bb=>?_))))));have Ai:=Ag.e Bb;obtain ⟨D5,Cb,Cd⟩:=AGm B9;refine AXy Ai (Ah.thenE Bb) (Ahr (Ai.z p5).2 (Ai.z p5).2 Cb) fun D6 D7 Ce Cf Cg=>ATf ⟨Ce,?_⟩;refine h_e rfl fun D8 Bc=>?_;have Aj:=Cf.e Bc;obtain ⟨D9,Ch,Ci⟩:=AGm Cd;refine AXy Aj (Cg.thenE Bc) (Axv (Aj.z p1).2 (Aj.z p0).2 Ch) fun Ea Eb Cj Ck Cm=>ATf ⟨Cj,?_⟩;refine h_e rfl fun Ec Be=>?_;have Ak:=Ck.e Be;obtain ⟨Ed,Cn,Co⟩:=AGm Ci;refine AXy Ak (Cm.thenE Be) (Ahr (Ak.z p5).2 (Ak.z p0).2 Cn) fun Cp Ee Cq Cr Ct=>ATf ⟨Cq,?_⟩;refine Asx fun Cu Bf=>A9m fun Ef Bg Cv Eg=>?_;have Aa:=Cr.e Bf;have Ad:=(((((((Ac.nb (Ct.thenE Bf).ext (AXv Cv Bg.lt) Bg).az (Aa.z p6)).az (Aa.z p5)).az (Aa.z p4)).az (Aa.z p3)).az (Aa.z p2)).az (Aa.z p1)).az (Aa.z p0);refine AUz Cp AT6 (cZ.klen (Ad.z p0)) (cZ.klen (AS6 Cu)) rfl rfl (cZ.one (Ad.z p0)) (Ad.b p7) fun Am Cw Cx=>AGq (AGn (AU8 (fun h'=>UpT [] Am h') AGv ?_));have Ao:=Ad.sb p7 Cx Cw rfl;have Bh:UpT [] Am Am:=UpT.start all_nil;refine Agd (Ao.z p0) Bh (Ao.b p7) ?_;obtain ⟨Eh,Cy,Cz⟩:=AGm Co;refine AXy Ao Bh (Acg Cy) fun Ei Ej Ek Bi C0=>AGi (AGi ?_);obtain ⟨El,C1,C2⟩:=AGm Cz;refine AXy Bi C0 (AV9 (H6.ext Bi.x) C1) fun Em En Eo Bj C3=>AGi (AGi ?_);obtain ⟨Ep,C4,C5⟩:=AGm C2;refine AXy Bj C3 (AV9 (H6.ext Bj.x) C4) fun Er Es Et Ap C6=>?_;obtain ⟨Eu,C7,C8⟩:=AGm C5;refine AXy Ap C6 (Ahr (Ap.z p1).2 (Ap.z p0).2 C7) fun Ev Ew Ey Aq C9=>?_;obtain ⟨Ez,Da,Db⟩:=AGm C8;refine AXy Aq C9 (Ahr (Aq.z p3).2 (Aq.z p0).2 Da) fun Fa Fb Fc Ar Dc=>?_;obtain ⟨Fd,Dd,De⟩:=AGm Db;refine BBq Ar Dc (Arj (Ar.z p5).2 (Ar.z p0).2 Dd) fun Fe Ff Df Fg=>Aga rfl rfl (AGw (AGy ?_));obtain rfl:=AGk De;exact ⟨_,AS1,Df.x,rfl⟩
def Acm (fuel:Nat) (a3:LiI) (x5:LiA) (Ab Aa:Int) (Ac:LiI):Option ((Int × LiI) ⊕ (((LiI × Bool)) ⊕ (LiI))):=
  (if 0<=Aa then ((AYo fuel a3 x5 Ab Aa).bind fun Ah=>(if (!Ah)=true then ((gI Ac Aa).bind fun Af=>((AV3 fuel a3 Ab Aa).bind fun Ai=>((AU4 fuel x5 (w64 (Aa + 1))).bind fun Aj=>((AXo fuel Ai Aj).bind fun Ag=>((AX1 fuel Ag.1 Ag.2).bind fun Ak=>((Av0 fuel Ak).bind fun Am=>((gI Af Ab).bind fun Ao=>(some (Sum.inr<| Sum.inl <| ((sI Ac Aa (sI Af Ab Am)),true)))))))))) else (some (Sum.inl ((w64 (Aa - 1)),Ac))))) else (some (Sum.inr<| Sum.inr <| Ac)))
def Acn (fuel:Nat) (a3:LiI) (x5:LiA) (Aa:Int) (Ae:LiI):Option ((Int × LiI) ⊕ (((LiI × Bool)) ⊕ (Unit))):=
  (if Aa < (a3.length:Int) then ((iter (fun s=>Acm fuel a3 x5 Aa s.1 s.2) fuel ((w64 (Aa - 1)),Ae)).bind (fun ex=>match ex with | Sum.inl Af=>(some (Sum.inr<| Sum.inl <| Af)) | Sum.inr (Ab)=>(if 0 < Aa then ((AYc fuel a3 x5 Aa).bind fun Ag=>(if (!Ag)=true then ((gI Ab (w64 (Aa - 1))).bind fun Ah=>((gI Ab Aa).bind fun Ai=>(some (Sum.inr<| Sum.inl <| ((sI (sI Ab Aa Ah) (w64 (Aa - 1)) Ai),true))))) else (some (Sum.inl ((w64 (Aa + 1)),Ab))))) else (some (Sum.inl ((w64 (Aa + 1)),Ab)))))) else (some (Sum.inr<| Sum.inr <| ())))
def AY8 (fuel:Nat) (a3:LiI):Option (LiI × Bool):=
  ((AWj fuel a3).bind fun (x5,x6)=>((AV7 fuel (a3.length:Int)).bind fun (Ac,Af)=>((iter (fun s=>Acn fuel a3 x5 s.1 s.2) fuel (0,Ac)).bind (fun ex=>match ex with | Sum.inl Ad=>(some Ad) | Sum.inr (_)=>(some ([],false))))))
theorem Aj7 {fuel:Nat} {h:AGs} {A3:Value} {a3:LiI} {r:(LiI × Bool)} (H2:AXq cZ h A3 a3) (hp:AY8 fuel a3=some r):ATt Tryz.prog 55 #[A3] h (fun x h'=>Ext h h'/\ ∃ (x0:Value) (F0:List Nat) (Br:List LnA) (Bt:List Value),x= .tuple #[x0,.bool r.2]/\AVo cZ 131 93 h' F0 Br Bt x0 r.1/\Sp h' h.size [F0]):=by
 unfold AY8 at hp;refine cwf (l:=[_]) Tryz.func55 rfl rfl (AGl (ATi (ATx (AGi ?_))));have K0:=Kst.k0 h;obtain ⟨⟨x5,x6⟩,Bu,A8⟩:=AGm hp;dsimp only at A8;refine Afg rfl (Aef (H2.ext K0.x) Bu) fun Dg Dh E9 Bw=>?_;obtain ⟨Di,Dj,rfl,Bx,By⟩:=Bw;refine AGi (AUe rfl rfl (AUe rfl rfl (ATi (ATx (AGi (AT3 AUo rfl H2 ?_))))));obtain ⟨⟨Bz,Dk⟩,B1,A9⟩:=AGm A8;dsimp only at A9;refine Afg rfl (Ad3 B1) fun Dl Do B3 B4=>?_;obtain ⟨Ba,B5,B6,B7,rfl,B8,B9⟩:=B4;refine AGi (AUe rfl rfl (AUe rfl rfl (ATi (AGw (AGn (AGl (AGi (AT3 AUo rfl H2 (AGi (AGq (AGo ?_)))))))))));have Bb:=(K0.no E9 By Bx).no2 B3 B9 B8;refine AX3 9671406556917033389261580 (fun x:(Int) × (LiI) × LnA × LnN × LvA=>(x.1,x.2.1)) ((0,Bz,B5,B6,B7):(Int) × (LiI) × LnA × LnN × LvA) A9 (fun x=>[(23,(.int .i64 x.1))]) (fun x=>Bb.L.set 0 (aO2 cZ 131 93 x.2.2.1 x.2.2.2.1 x.2.2.2.2 Ba x.2.1)) Bb ⟨rfl,trivial⟩ ?_;rintro ⟨Bc,Ca,Cb,Cd,Ce⟩ Dp Dq Dr Ag Ah Ai;unfold Acn at Ah;refine AGl (ATm rfl rfl (AGq (AGn (⟨_,rfl,fun Aj=>?_,fun Aj=>?_⟩))))
 ·refine AGx (q_t (AGn (AGo (AGl (AGi (AGw (AGn (AGl (AGi (AVe rfl rfl (AGw (AGo (AX3 72057593769493004 (fun x:(Int) × (LiI) × LnA × LnN × LvA=>(x.1,x.2.1)) (((w64 (Bc - 1)),Ca,Cb,Cd,Ce):(Int) × (LiI) × LnA × LnN × LvA) (AT0 Ah Aj) (fun x=>[(9,(.int .i64 x.1))]) (fun x=>Ag.L.set 0 (aO2 cZ 131 93 x.2.2.1 x.2.2.2.1 x.2.2.2.2 Ba x.2.1)) Ag ⟨rfl,trivial⟩ ?_)))))))))))));rintro ⟨Be,Ds,Dt,Du,Dv⟩ Dw Dx Dy Aa Ak Bf;unfold Acm at Ak;refine AGn (AGl (AGi (Aga rfl rfl (AGq (⟨_,rfl,fun Am=>?_,fun Am=>?_⟩)))))
  ·refine AGx (q_t (AGn (AGo (AGl (AGi (AGi (AGi (AGi ?_))))))));obtain ⟨Dz,Cf,Bg⟩:=AGm (AT0 Ak Am);refine AXx Aa (Aju (H2.ext Aa.x) (Aa.o p1).rd Cf) fun Ao D0 Ac=>AWp rfl (AGq (⟨_,rfl,fun Ap=>?_,fun Ap=>?_⟩))
   ·refine AGn (AU8 (fun h'=>UpT [] Ao h') AGv ?_);have Bh:UpT [] Ao Ao:=UpT.start all_nil;refine AGi (AGi ?_);obtain ⟨D1,Aq,Cg⟩:=AGm (ifT Bg Ap);refine AVd AUo rfl (Ac.o2 p0) rfl Aq fun D2 D3 D4 Ch Ci=>AUy AWb rfl Bh (fun h' hb=>ATl Ci hb.ext) (AGi (AGi (AGi (AGi ?_))));obtain ⟨D5,Cj,Ck⟩:=AGm Cg;refine AXy Ac Bh (Abl (H2.ext Ac.x) Cj) fun D6 D7 D8 Bi Cm=>AGi (AGi (ATj rfl rfl ?_));obtain ⟨D9,Cn,Co⟩:=AGm Ck;refine AXy Bi Cm (AV9 (Bi.o p2).rd Cn) fun Ea Eb Ec Ar Au=>?_;obtain ⟨Ed,Cp,Cq⟩:=AGm Co;refine AXd Au (fun _ E=>Au.thenE E) rfl (Ah4 (Ar.z p1).2 (Ar.z p0).2 Cp) fun Ee Ef Bj Cr=>?_;obtain ⟨Eg,rfl,Ct⟩:=Cr;have Cu:=Au.thenE Bj;obtain ⟨Eh,Ei,rfl,Cv,Cw⟩:=Ct;have Av:=((Ar.e Bj).az Cv).az Cw;obtain ⟨Ej,Cx,Cy⟩:=AGm Cq;refine AXy Av Cu (Aio ⟨_,_,rfl,(Av.z p1),(Av.z p0)⟩ Cx) fun Ek El Em Bl Cz=>?_;obtain ⟨En,C0,C1⟩:=AGm Cy;refine AXy Bl Cz (Aua (Bl.z p0).2 C0) fun Eo Ep Er Ad Es=>?_;obtain ⟨Et,Bm,C2⟩:=AGm C1;refine AWc (m:=Be) AVl rfl (Ac.o2 p0) Ch Aq rfl Bm fun Eu C3=>Ac8 (m:=Be) (Ajb AT6 (cZ.klen (Ad.z p0)) rfl rfl (cZ.one (Ad.z p0))) (Ad.o2 p6) C3 Aq Bm (Ad.z p0) fun Ev C4 C5=>AZf (AGi (ATi (AGw (AGy (AUf (ATb (ATb (AUf (ATb (AUf (ATb (ATb (AUf (ATb ?_))))))))))))));have Aw:=Ad.uO2 p6 C5 C4;obtain rfl:=AGk (Ai _ (AGk (Bf _ (AGk C2).symm)).symm);exact ⟨_,AUm,Aw.x,_,_,_,_,rfl,(Aw.o2 p6),Aw.s.sel [6] AGj⟩
   ·refine AGx (q_b (q_t (AS3 (AGi (AVe rfl rfl (AGw ?_))))));exact ⟨(_,_,_,_,_),(AGk (Aav Bg Ap)).symm,Ac,rfl,trivial⟩
  ·refine AS9 (ATa (ATa (AT9 (q_t (AGl (AGi (AY6 rfl rfl (AGi ?_))))))));have Bn:=Bf _ (AGk (AT1 Ak Am)).symm;by_cases Af:0 < Bc
   ·rw [decide_eq_true Af];refine ATo 58 true (AGi (ATo 58 true (AGi (ATo 58 true (AGi (ATo 58 true ?_))))));obtain ⟨Ew,C6,Bo⟩:=AGm (ifT Bn Af);refine AXx Aa (Ai2 (H2.ext Aa.x) (Aa.o p1).rd C6) fun Ey Ez Ae=>ATo 58 true (AWp rfl (ATh rfl (AGq (⟨_,rfl,fun Ax=>?_,fun Ax=>?_⟩))))
    ·refine AGn (AXm (AGi (AGi (AGi (AGi (AVe rfl rfl (AGi (AGi (AVe rfl rfl ?_)))))))));obtain ⟨Fa,Bp,C7⟩:=AGm (ifT Bo Ax);refine AUg AUo AWb (Ae.o2 p0) Bp fun _ Fb C8=>AGi (AGi ?_);obtain ⟨Fc,Bq,C9⟩:=AGm C7;refine AUg AUo AWb (Ae.o2 p0) Bq fun _ Fd Da=>Aff AUo AWb (Ae.o2 p0) Da C8 Bq Bp rfl rfl (fun _=>rfl) (fun _=>rfl) (fun _=>rfl) (fun _ _=>rfl) fun Fe Ff Fg Fh Fi Fj Db Dc Dd=>AZf (AGi (ATi (AGw (AGy (AUf (ATb (ATb (AUf (ATb ?_)))))))));have Ay:=Ae.uo2 p0 Dc Db Dd;obtain rfl:=AGk (Ai _ (AGk C9).symm);exact ⟨_,AUm,Ay.x,_,_,_,_,rfl,(Ay.o2 p0),Ay.s.sel [0] AGj⟩
    ·refine AGx (q_b (q_t (AS3 (ATj rfl rfl (AGi (AGq ?_))))));exact ⟨(_,_,_,_,_),(AGk (Aav Bo Ax)).symm,Ae,rfl,trivial⟩
   ·rw [decide_eq_false Af];refine Acd 58 false (ATq rfl (AGq (ATp rfl (AGx (q_b (q_t (AS3 (ATj rfl rfl (AGi (AGq ?_))))))))));exact ⟨(_,_,_,_,_),(AGk (ifF Bn Af)).symm,Aa,rfl,trivial⟩
 ·refine AS9 (ATa (ATa (AT9 (q_t (AGl (ATi (AGw (AGy ?_))))))));have Az:=Kst.anil2 cZ 131 93 Ag;obtain rfl:=AGk (Ai _ (AGk (AT1 Ah Aj)).symm);exact ⟨_,AUm,Az.x,_,_,_,_,rfl,(Az.o2 p0),Az.s.sel [0] AGj⟩
def Abm (fuel:Nat) (Aa Ab:LiI):Option ((LiI × LiI) ⊕ (((LiI × LiI × Int)))):=
  ((AY8 fuel Aa).bind fun (Ac,Ad)=>(if (!Ad)=true then ((AYb fuel Aa).bind fun (Ae,Ah)=>(some (Sum.inr<| (Ae,Ab,0)))) else ((AV0 fuel Aa Ac).bind fun Af=>((AU2 fuel Ab Ac).bind fun Ag=>(some (Sum.inl (Af,Ag)))))))
def AYd (fuel:Nat) (a3:LiI):Option (LiI × LiI × Int):=
  ((AV8 fuel a3).bind fun x5=>(if ¬ x5=0 then (some ([],[],x5)) else ((AYp fuel a3).bind fun Ac=>(if (!Ac)=true then (some ([],[],7)) else ((AXz fuel a3).bind fun Ad=>((AV7 fuel (a3.length:Int)).bind fun (Ae,Ag)=>((iter (fun s=>Abm fuel s.1 s.2) fuel (Ad,Ae)).bind (fun (Af:(LiI × LiI × Int))=>(some Af)))))))))
theorem Ai3 {fuel:Nat} {h:AGs} {Ao:Value} {a3:LiI} {r:(LiI × LiI × Int)} (H2:AXq cZ h Ao a3) (hp:AYd fuel a3=some r):ATt Tryz.prog 22 #[Ao] h (fun x h'=>Ext h h'/\ ∃ (x0:Value) (F0:List Nat) (A7:List LnA) (A8:List Value) (x1:Value) (F1:List Nat) (A9:List LnA) (Ba:List Value),x= .tuple #[x0,x1,.int .i64 r.2.2]/\AVo (cI .i64) 49 2 h' F0 A7 A8 x0 r.1/\AVo cZ 131 93 h' F1 A9 Ba x1 r.2.1/\Sp h' h.size [F0,F1]):=by
 unfold AYd at hp;refine cwf (l:=[_]) Tryz.func22 rfl rfl (AGl (ATi (ATi (AGw (AGn (AGl (AGi ?_)))))));have K0:=Kst.k0 h;obtain ⟨x5,Bb,Ax⟩:=AGm hp;refine AXx K0 (Ad4 (H2.ext K0.x) Bb) fun h9 E8 Af=>ATx (AGi (AXa rfl rfl (AGq (⟨_,rfl,fun Ag=>?_,fun Ag=>?_⟩))))
 ·refine AGl (AGi (ATi (ATi (AGw (AGy (ATb ?_))))));have Ac:=Kst.anil2 cZ 131 93 (Kst.anil2 (cI .i64) 49 2 Af);obtain rfl:=AGk (AT0 Ax Ag);exact ⟨_,Abc,Ac.x,_,_,_,_,_,_,_,_,rfl,(Ac.o2 p1),(Ac.o2 p0),Ac.s.sel [1,0] AGj⟩
 ·refine AGx (q_t (AGn (AGl (AGi ?_))));obtain ⟨Ck,Bc,Ay⟩:=AGm (AT1 Ax Ag);refine AXx Af (Ajv (H2.ext Af.x) Bc) fun Cm Cn Ah=>AWp rfl (AGq (⟨_,rfl,fun Ai=>?_,fun Ai=>?_⟩))
  ·refine AGl (ATi (ATi (AGw (AGy (ATb ?_)))));have Ad:=Kst.anil2 cZ 131 93 (Kst.anil2 (cI .i64) 49 2 Ah);obtain rfl:=AGk (ifT Ay Ai);exact ⟨_,Abc,Ad.x,_,_,_,_,_,_,_,_,rfl,(Ad.o2 p1),(Ad.o2 p0),Ad.s.sel [1,0] AGj⟩
  ·refine AGx (q_t (AGl (AGi ?_)));obtain ⟨Be,Bf,Bg⟩:=AGm (Aav Ay Ai);refine Ahc Ah (Afo (H2.ext Ah.x) Bf) fun Bh Bi Bj Bl Co Cp Bm=>ATx (AGi (AT3 AUo rfl H2 ?_));obtain ⟨⟨Bn,Cq⟩,Bo,Az⟩:=AGm Bg;dsimp only at Az;refine Afg rfl (Ad3 Bo) fun Cr Ct Bp Bq=>?_;obtain ⟨Br,Bt,Bu,Bv,rfl,Bw,Bx⟩:=Bq;refine AGi (AUe rfl rfl (AUe rfl rfl (ATi (AGw (AGo ?_)))));have A3:=Bm.no2 Bp Bx Bw;refine AX3 562949416558300 (fun x:(LiI) × (Value) × LnA × LnN × LvA × (LiI) × (Value) × LnA × LnN × LvA=>(x.1,x.2.2.2.2.2.1)) ((Be,Bl,Bh,Bi,Bj,Bn,Br,Bt,Bu,Bv):(LiI) × (Value) × LnA × LnN × LvA × (LiI) × (Value) × LnA × LnN × LvA) Az (fun x=>[(6,x.2.1),(7,x.2.2.2.2.2.2.1)]) (fun x=>(A3.L.set 1 (aO2 cZ 131 93 x.2.2.1 x.2.2.2.1 x.2.2.2.2.1 x.2.1 x.1)).set 0 (aO2 cZ 131 93 x.2.2.2.2.2.2.2.1 x.2.2.2.2.2.2.2.2.1 x.2.2.2.2.2.2.2.2.2 x.2.2.2.2.2.2.1 x.2.2.2.2.2.1)) A3 ⟨rfl,rfl,trivial⟩ ?_;rintro ⟨Cu,Cv,Cw,Cx,Cy,Cz,C0,C1,C2,C3⟩ C4 C5 C6 A4 A5 By;unfold Abm at A5;refine AGo (AGl (AGi ?_));obtain ⟨⟨C7,C8⟩,Bz,Aj⟩:=AGm A5;dsimp only at Aj;refine Afg rfl (Aj7 (A4.o2 p1).rd Bz) fun C9 Da B1 B3=>?_;obtain ⟨Db,Dc,Dd,De,rfl,B4,B5⟩:=B3;refine AGi (AUe rfl rfl (AUe rfl rfl (ATi (AGw (AGn (AGl (AGi (AWp rfl (AGq ?_)))))))));have Aa:=A4.no2 B1 B5 B4;refine ⟨_,rfl,fun Ak=>?_,fun Ak=>?_⟩
   ·refine AGl (AGi ?_);obtain ⟨⟨Df,Dg⟩,B6,A6⟩:=AGm (ifT Aj Ak);dsimp only at A6;refine Afg rfl (Ai1 (Aa.o2 p2).rd B6) fun Dh Di B7 B8=>?_;obtain ⟨Dj,Dk,Dl,Do,rfl,B9,Ca⟩:=B8;refine AGi (AUe rfl rfl (AUe rfl rfl (ATi (ATx (AGi (AGi (ATi (ATi (AGw (AGy (ATb (AUf (ATb (AUf ?_))))))))))))));have Ae:=Aa.no2 B7 Ca B9;obtain rfl:=AGk (By _ (AGk A6).symm);exact ⟨_,Abc,Ae.x,_,_,_,_,_,_,_,_,rfl,(Ae.o2 p0),(Ae.o2 p2),Ae.s.sel [0,2] AGj⟩
   ·refine AGx (q_t (AS3 (AGi (AGi ?_))));obtain ⟨Dp,Cb,Cd⟩:=AGm (Aav Aj Ak);refine Ahc Aa (Aht (Aa.o2 p2).rd (Aa.o2 p0).rd Cb) fun Dq Dr Ds Dt Du Dv Am=>AGi (AGi ?_);obtain ⟨Dw,Ce,Cf⟩:=AGm Cd;refine Ahc Am (Aaz (Am.o2 p2).rd (Am.o2 p1).rd Ce) fun Dx Dy Dz D0 D1 D2 Cg=>ATi (ATi (ATf (q_b (q_t ?_))));exact ⟨(_,_,_,_,_,_,_,_,_,_),(AGk Cf).symm,Cg.sel [0,1] AGj,rfl,rfl,trivial⟩
end Go.Proofs.YthbndcbclhkepaaGreatDoor
namespace Go.QF
open Go
def Ok {α:Type} (o:Option α) (Q:α->Prop):Prop:= ∃ r,o=some r/\Q r
theorem AGp {α:Type} {a:α} {Q:α->Prop} (h:Q a):Ok (some a) Q:=⟨a,rfl,h⟩
theorem AGt {α β:Type} {o:Option α} {f:α->Option β} {Q:α->Prop} {R:β->Prop} (h:Ok o Q) (k:∀ x,Q x->Ok (f x) R):Ok (o.bind f) R:=by
 obtain ⟨x,rfl,hx⟩:=h;exact k x hx
theorem ATr {c:Prop} [Decidable c] {α:Type} {a b:Option α} {R:α->Prop} (ht:c->Ok a R) (hf: ¬ c->Ok b R):Ok (if c then a else b) R:=by
 by_cases h:c
 ·rw [if_pos h];exact ht h
 ·rw [if_neg h];exact hf h
theorem AU3 {c:Prop} [Decidable c] {α:Type} {a:Option α} {R:α->Prop} (hc:c) (h:Ok a R):Ok (if c then a else none) R:=by rw [if_pos hc];exact h
theorem A64 {α:Type} {o:Option α} {Q R:α->Prop} (h:Ok o Q) (k:∀ x,Q x->R x):Ok o R:=let ⟨x,h1,h2⟩:=h;⟨x,h1,k x h2⟩
theorem ok_eq {α:Type} {o:Option α} {a:α} (h:Ok o (· =a)):o=some a:=by obtain ⟨x,h1,rfl⟩:=h;exact h1
theorem AUc {α:Type} {o:Option α} {a:α} (h:o=some a):Ok o (· =a):=⟨a,h,rfl⟩
theorem ATs {α β:Type} {L:List α} {i:Int} {n:Nat} {x:α} {f:α->Option β} {R:β->Prop} (hx:L[n]? =some x) (hi:i=n) (k:Ok (f x) R):Ok ((gI L i).bind f) R:=by
 subst hi;unfold gI;rw [if_pos AGh,Int.toNat_natCast,hx];exact k
theorem AUa {S E:Type} {body:S->Option (S ⊕ E)} {fuel:Nat} {s0:S} (I:Nat->S->Prop) (n:Nat) {Q:E->Prop} (h0:I 0 s0) (hf:n < fuel) (hs:∀ i s,i<=n->I i s->Ok (body s) fun r=>match r with | .inl s'=>i < n/\I (i + 1) s' | .inr e=>Q e):Ok (iter body fuel s0) Q:=by
  have key:∀ k fuel i s,n - i=k->k < fuel->i<=n->I i s->Ok (iter body fuel s) Q:=by
    intro k;induction k with
    | zero=>
      intro fuel i s hk hf hi hI;obtain ⟨r,hr,hq⟩:=hs i s hi hI;cases fuel with
      | zero=>omega
      | succ f=>
        cases r with
        | inl s'=>simp at hq;omega
        | inr e=>exact ⟨e,by simp [iter,hr],hq⟩
    | succ k ih=>
      intro fuel i s hk hf hi hI;obtain ⟨r,hr,hq⟩:=hs i s hi hI;cases fuel with
      | zero=>omega
      | succ f=>
        cases r with
        | inl s'=>
          obtain ⟨e,he,hQ⟩:=ih f (i + 1) s' AGh AGh AGh hq.2;exact ⟨e,by simp [iter,hr,he],hQ⟩
        | inr e=>exact ⟨e,by simp [iter,hr],hq⟩
  exact key n fuel 0 s0 AGh hf AGh h0
theorem AWk {x:Int} (h1: -9223372036854775808<=x) (h2:x<=9223372036854775807):w64 x=x:=by
 show IntKind.i64.wrap x=x;rw [IntKind.wrap_i64];omega
theorem wk {x:Int} (h: -9223372036854775808<=x/\x<=9223372036854775807):w64 x=x:=AWk h.1 h.2
def AVk {α:Type} (m:Nat) (f:Nat->α):List α:=(List.range m).map f
theorem AUh {α:Type} (m:Nat) (f:Nat->α):(AVk m f).length=m:=by simp [AVk]
theorem ATv {α:Type} {m:Nat} {f:Nat->α} {j:Nat} (h:j < m):(AVk m f)[j]? =some (f j):=by simp [AVk,h]
theorem AUd {α:Type} {m:Nat} {f g:Nat->α} (h:∀ j,j < m->f j=g j):AVk m f=AVk m g:=by
 unfold AVk;exact List.map_congr_left fun j hj=>h j (List.mem_range.1 hj)
theorem AXp {α:Type} {m j:Nat} {f:Nat->α} {x:α}:(AVk m f).set j x=AVk m fun c=>if c=j then x else f c:=by
 apply List.ext_getElem?;intro i;rw [List.getElem?_set];by_cases h:j=i
 ·subst h;simp only [if_true,AUh];by_cases hj:j < m
  ·simp [hj,ATv hj]
  ·simp [hj,AVk]
 ·rw [if_neg h];by_cases hi:i < m
  ·rw [ATv hi,ATv hi,if_neg (fun he=>h he.symm)]
  ·simp [AVk,hi]
theorem Agz {α:Type} (m:Nat) (f:Nat->α):AVk m f ++ [f m]=AVk (m + 1) f:=by simp [AVk,List.range_succ]
theorem AYq {α:Type} (m:Nat) (a:α):List.replicate m a=AVk m fun _=>a:=by
 apply List.ext_getElem?;intro i;by_cases h:i < m
 ·rw [ATv h];simp [h]
 ·simp [AVk,h]
theorem Ahd (r c:Nat) (F:AS4):tab r c F=AVk r fun i=>AVk c (F i):=rfl
theorem AT7 {r c:Nat} {F:AS4} {i:Nat} (h:i < r):(tab r c F)[i]? =some (AVk c (F i)):=ATv (f:=fun i=>AVk c (F i)) h
theorem A32 {r c i j:Nat} {F:AS4} {x:Int}:(tab r c F).set i (AVk c fun q=>if q=j then x else F i q)=tab r c (AUu F i fun q=>if q=j then x else F i q):=Aec
theorem AU0 {α:Type} (L:List α) (n:Nat) (x:α):sI L (n:Int) x=L.set n x:=by simp [sI]
end Go.QF
namespace Go.QF
theorem Amw (F:AS4) (i:Nat) (f g:Nat->Int):AUu (AUu F i f) i g=AUu F i g:=by
 funext k;by_cases h:k=i
 ·subst h;rw [AUw,AUw]
 ·rw [AX7 _ _ h,AX7 _ _ h,AX7 _ _ h]
theorem Ag0 (F:AS4) (i:Nat):AUu F i (F i)=F:=by
 funext k;by_cases h:k=i
 ·subst h;rw [AUw]
 ·rw [AX7 _ _ h]
theorem Ado (f g:Nat->Int) (n:Nat):psum (fun i=>f i + g i) n=psum f n + psum g n:=by
 induction n with
 | zero=>rfl
 | succ n ih=>simp only [psum];rw [ih];omega
theorem AX2 (c:Int) (f:Nat->Int) (n:Nat):psum (fun i=>c * f i) n=c * psum f n:=by
 induction n with
 | zero=>simp [psum]
 | succ n ih=>simp only [psum];rw [ih,Int.mul_add]
theorem Ah9 (n:Nat):psum (fun _=>0) n=0:=by
 induction n with
 | zero=>rfl
 | succ n ih=>simp only [psum];rw [ih];rfl
theorem Amx (f:AS4) (n m:Nat):psum (fun i=>psum (fun j=>f i j) m) n=psum (fun j=>psum (fun i=>f i j) n) m:=by
 induction n with
 | zero=>simp only [psum];exact (Ah9 m).symm
 | succ n ih=>
   simp only [psum]
   rw [ih,<- Ado]
theorem A33 {f g:Nat->Int} {n a:Nat} (ha:a < n) (h:∀ i,i≠a->g i=f i):psum g n=psum f n + (g a - f a):=by
  induction n with
  | zero=>omega
  | succ n ih=>
    simp only [psum]
    by_cases hn:a=n
    · subst hn;rw [ATu (f:=g) (g:=f) (fun k hk=>h k AGh)];omega
    · rw [ih AGh,h n (fun he=>hn he.symm)];omega
theorem Aco {f:Nat->Int} {n a:Nat} (ha:a < n) (h:∀ i,i≠a->f i=0):psum f n=f a:=by
 rw [A33 (f:=fun _=>0) ha h,Ah9];omega
def Eqm (m a b:Int):Prop:=a % m=b % m
theorem Eqm.refl (m a:Int):Eqm m a a:=rfl
theorem Eqm.of_eq {m a b:Int} (h:a=b):Eqm m a b:=h ▸ rfl
theorem Eqm.symm {m a b:Int} (h:Eqm m a b):Eqm m b a:=Eq.symm h
theorem Eqm.trans {m a b c:Int} (h:Eqm m a b) (k:Eqm m b c):Eqm m a c:=Eq.trans h k
theorem Eqm.add {m a b c d:Int} (h:Eqm m a b) (k:Eqm m c d):Eqm m (a + c) (b + d):=by
 unfold Eqm at *;rw [Int.add_emod,h,k,<- Int.add_emod]
theorem Eqm.sub {m a b c d:Int} (h:Eqm m a b) (k:Eqm m c d):Eqm m (a - c) (b - d):=by
 unfold Eqm at *;rw [Int.sub_emod,h,k,<- Int.sub_emod]
theorem Eqm.mul {m a b c d:Int} (h:Eqm m a b) (k:Eqm m c d):Eqm m (a * c) (b * d):=by
 unfold Eqm at *;rw [Int.mul_emod,h,k,<- Int.mul_emod]
theorem Eqm.mod (m a:Int):Eqm m (a % m) a:=Int.emod_emod_of_dvd a (Int.dvd_refl m)
theorem Eqm.psum {m:Int} {f g:Nat->Int} {n:Nat} (h:∀ i,i < n->Eqm m (f i) (g i)):Eqm m (psum f n) (psum g n):=by
 induction n with
 | zero=>rfl
 | succ n ih=>exact (ih fun i hi=>h i AGh).add (h n AGh)
theorem Eqm.zero {m a:Int} (h:Eqm m a 0):a % m=0:=by simpa [Eqm] using h
theorem A1c {m a b:Int} (h:Eqm m a b) (ha:0<=a/\a < m) (hb:0<=b/\b < m):a=b:=by
 unfold Eqm at h;rwa [Int.emod_eq_of_lt ha.1 ha.2,Int.emod_eq_of_lt hb.1 hb.2] at h
end Go.QF
namespace Go.QF
theorem A34 {f:Nat->Int} {k r:Nat} (hk:k<=r) (h:∀ i,k<=i->i < r->f i=0):psum f r=psum f k:=by
 induction r with
 | zero=>rw [Nat.le_zero.1 hk]
 | succ r ih=>
   rcases Nat.lt_or_ge k (r + 1) with h1 | h1
   · simp only [psum]
     rw [ih AGh (fun i h2 h3=>h i h2 AGh),h r AGh AGh];omega
   · obtain rfl:k=r + 1:=by omega
     rfl
def dl (a b:Nat):Int:=if a=b then 1 else 0
def skp (i a:Nat):Nat:=if a < i then a else a + 1
def usk (i r:Nat):Nat:=if r < i then r else r - 1
def sg (i:Nat):Int:=if i % 2=0 then 1 else -1
theorem A65 (i:Nat):sg (i + 1)= -sg i:=by unfold sg;split <;> split <;> first | omega | rfl
theorem A9u (i a:Nat):skp i a≠i:=by unfold skp;split <;> omega
theorem A35 {i a n:Nat} (ha:a < n):skp i a < n + 1:=by unfold skp;split <;> omega
theorem A66 {i r:Nat} (h:r≠i):skp i (usk i r)=r:=by
 unfold usk;split <;> (unfold skp;split <;> omega)
theorem A67 {i a r:Nat} (h:skp i a=r):a=usk i r:=by unfold skp at h;unfold usk;split at h <;> split <;> omega
theorem A9v {i r n:Nat} (h:r≠i) (hi:i < n + 1) (hr:r < n + 1):usk i r < n:=by unfold usk;split <;> omega
theorem ATy (F:AS4) (a:Nat) (g:Nat->Int) (i j:Nat):AUu F a g i j=if i=a then g j else F i j:=by
 unfold AUu;split <;> rfl
theorem Aeq (F:AS4) (a b i j:Nat):AXw F a b i j=if i=b then F a j else if i=a then F b j else F i j:=by
 unfold AXw;rw [ATy,ATy]
def AXb (i:Nat) (F:AS4):AS4:=fun a b=>F (skp i a) (b + 1)
def det:Nat->(AS4)->Int
  | 0,_=>1
  | n + 1,F=>psum (fun i=>sg i * F i 0 * det n (AXb i F)) (n + 1)
theorem AUp:∀ {n:Nat} {F G:AS4},(∀ i j,i < n->j < n->F i j=G i j)->det n F=det n G:=by
 intro n
 induction n with
 | zero=>intro _ _ _;rfl
 | succ n ih=>
   intro F G h
   refine ATu fun i hi=>?_
   rw [h i 0 hi AGh,ih (F:=AXb i F) (G:=AXb i G) fun a b ha hb=>h _ _ (A35 ha) AGh]
theorem Ano {i r:Nat} {F:AS4} {g:Nat->Int} (h:r≠i):AXb i (AUu F r g)=AUu (AXb i F) (usk i r) (fun b=>g (b + 1)):=by
 funext a b;unfold AXb AUu;by_cases ha:skp i a=r
 ·rw [if_pos ha,if_pos (A67 ha)]
 ·rw [if_neg ha,if_neg (fun he=>ha (by rw [he,A66 h]))]
theorem Ap0 {i:Nat} {F:AS4} {g:Nat->Int}:AXb i (AUu F i g)=AXb i F:=by
 funext a b;unfold AXb;rw [AX7 _ _ (A9u i a)]
theorem Ak9:∀ {n:Nat} {F:AS4} {r:Nat} (u v:Nat->Int) (c d:Int),r < n->det n (AUu F r fun q=>c * u q + d * v q)=c * det n (AUu F r u) + d * det n (AUu F r v):=by
 intro n
 induction n with
 | zero=>intro _ _ _ _ _ _ h;omega
 | succ n ih=>
   intro F r u v c d hr
   simp only [det]
   rw [<- AX2,<- AX2,<- Ado]
   refine ATu fun i hi=>?_
   by_cases h:r=i
   · subst h
     simp only [Ap0,AUw]
     grind
   · rw [Ano h,Ano h,Ano h,AX7 _ _ (Ne.symm h),AX7 _ _ (Ne.symm h),AX7 _ _ (Ne.symm h),ih (fun b=>u (b + 1)) (fun b=>v (b + 1)) c d (A9v h hi hr)]
     grind
theorem A36 {f:Nat->Int} {n r s:Nat} (hr:r < n) (hs:s < n) (hrs:r≠s) (h:∀ i,i < n->i≠r->i≠s->f i=0):psum f n=f r + f s:=by
 have h1:psum f n=psum (fun i=>(if i=r then f r else 0) + (if i=s then f s else 0)) n:=ATu fun i hi=>by
   by_cases h1:i=r
   · subst h1;rw [if_pos rfl,if_neg hrs];omega
   · rw [if_neg h1]
     by_cases h2:i=s
     · subst h2;rw [if_pos rfl];omega
     · rw [if_neg h2,h i hi h1 h2];rfl
 rw [h1,Ado,Aco (f:=fun i=>if i=r then f r else 0) hr (fun i hi=>if_neg hi),Aco (f:=fun i=>if i=s then f s else 0) hs (fun i hi=>if_neg hi),if_pos rfl,if_pos rfl]
theorem Azm:∀ {n:Nat} {F:AS4} {r:Nat},r + 1 < n->(∀ q,q < n->F r q=F (r + 1) q)->det n F=0:=by
 intro n
 induction n with
 | zero=>intro _ _ h;omega
 | succ n ih=>
   intro F r hr h
   simp only [det]
   rw [A36 (r:=r) (s:=r + 1) AGh AGh AGh]
   · have:det n (AXb r F)=det n (AXb (r + 1) F):=AUp fun a b ha hb=>by
       unfold AXb skp
       by_cases h1:a < r
       · rw [if_pos h1,if_pos AGh]
       · rw [if_neg h1]
         by_cases h2:a < r + 1
         · rw [if_pos h2]
           obtain rfl:a=r:=by omega
           exact (h (b + 1) AGh).symm
         · rw [if_neg h2]
     rw [this,A65,h 0 AGh]
     grind
   · intro i hi h1 h2
     rcases Nat.lt_or_ge i r with hlt | hge
     · rw [ih (F:=AXb i F) (r:=r - 1) AGh]
       · simp
       · intro q hq
         unfold AXb skp
         rw [if_neg AGh,if_neg AGh,show r - 1 + 1=r by omega]
         exact h (q + 1) AGh
     · rw [ih (F:=AXb i F) (r:=r) AGh]
       · simp
       · intro q hq
         unfold AXb skp
         rw [if_pos AGh,if_pos AGh]
         exact h (q + 1) AGh
theorem Aia {F:AS4} {a b:Nat} (h:a≠b) (u v:Nat->Int):AUu (AUu F a u) b v=AUu (AUu F b v) a u:=by
 funext k;unfold AUu;by_cases h1:k=a <;> by_cases h2:k=b
 ·omega
 ·simp [h1,h]
 ·simp [h2,Ne.symm h]
 ·simp [h1,h2]
theorem Av5 {n:Nat} {F:AS4} {a b:Nat} (ha:a < n) (hb:b < n) (hab:a≠b) (h0:∀ G:AS4,G a=G b->det n G=0):det n (AXw F a b)= -det n F:=by
  have key:∀ u v:Nat->Int,det n (AUu (AUu F a u) b v)= -det n (AUu (AUu F a v) b u):=by
    intro u v;have h1:=h0 (AUu (AUu F a fun q=>1 * u q + 1 * v q) b fun q=>1 * u q + 1 * v q) (by rw [AUw,AX7 _ _ hab,AUw]);rw [Ak9 u v 1 1 hb,Aia hab,Aia hab,Ak9 u v 1 1 ha,Ak9 u v 1 1 ha,Aia (Ne.symm hab),Aia (Ne.symm hab),Aia (Ne.symm hab),Aia (Ne.symm hab)] at h1;have h2:=h0 (AUu (AUu F a u) b u) (by rw [AUw,AX7 _ _ hab,AUw]);have h3:=h0 (AUu (AUu F a v) b v) (by rw [AUw,AX7 _ _ hab,AUw]);omega
  unfold AXw;rw [key (F b) (F a),Ag0];rw [show AUu F b (F b)=F from Ag0 F b]
theorem Azn:∀ {d n:Nat} {F:AS4} {a:Nat},a + d + 1 < n->F a=F (a + d + 1)->det n F=0:=by
 intro d
 induction d with
 | zero=>intro n F a hn h;exact Azm hn fun q _=>by rw [h]
 | succ d ih=>
   intro n F a hn h
   have h1:=Av5 (n:=n) (F:=F) (a:=a + d + 1) (b:=a + d + 1 + 1) AGh AGh AGh fun G hG=>Azm (r:=a + d + 1) AGh fun q _=>congrFun hG q
   have h2:=ih (n:=n) (F:=AXw F (a + d + 1) (a + d + 1 + 1)) (a:=a) AGh (by rw [Aoz,Aqy _ AGh AGh,h];rfl)
   omega
theorem Afq {n:Nat} {F:AS4} {a b:Nat} (ha:a < n) (hb:b < n) (hab:a≠b) (h:F a=F b):det n F=0:=by
 rcases Nat.lt_or_ge a b with hlt | hge
 ·exact Azn (d:=b - a - 1) (a:=a) AGh (by rw [h];congr 1;omega)
 ·exact Azn (d:=a - b - 1) (a:=b) AGh (by rw [<- h];congr 1;omega)
theorem Aip {n:Nat} {F:AS4} {a b:Nat} (ha:a < n) (hb:b < n) (hab:a≠b):det n (AXw F a b)= -det n F:=
  Av5 ha hb hab fun _ h=>Afq ha hb hab h
theorem As1 {n:Nat} {F:AS4} {r:Nat} (u:Nat->Int) (c:Int) (hr:r < n):det n (AUu F r fun q=>c * u q)=c * det n (AUu F r u):=by
 have:=Ak9 (F:=F) u (fun _=>0) c 0 hr;rw [show (fun q=>c * u q + 0 * (fun _:Nat=>(0:Int)) q)=fun q=>c * u q from by funext q;omega] at this;rw [this];omega
theorem Ala {n:Nat} {F:AS4} {r:Nat} (hr:r < n) (h:∀ q,q < n->F r q=0):det n F=0:=by
 have:=As1 (F:=F) (F r) 0 hr;rw [Int.zero_mul] at this;rw [<- this]
 exact AUp fun i j hi hj=>by
   unfold AUu
   split
   · rename_i he;subst he;rw [h j hj];simp
   · rfl
theorem Aeg {n:Nat} {F:AS4} {a b:Nat} (ha:a < n) (hb:b < n) (hab:a≠b) (q:Int):det n (AUu F a fun x=>F a x + q * F b x)=det n F:=by
 have:=Ak9 (F:=F) (F a) (F b) 1 q ha;rw [Ag0,Afq (F:=AUu F a (F b)) ha hb hab (by rw [AUw,AX7 _ _ (Ne.symm hab)])] at this;rw [show (fun x=>F a x + q * F b x)=fun x=>1 * F a x + q * F b x from by funext x;omega,this];omega
theorem Ark {n:Nat} {F:AS4} {r:Nat} (hr:r < n) (y:Nat->Int) (u:AS4):∀ t,det n (AUu F r fun q=>psum (fun k=>y k * u k q) t)=psum (fun k=>y k * det n (AUu F r (u k))) t:=by
 intro t
 induction t with
 | zero=>exact Ala hr fun q _=>by rw [AUw];rfl
 | succ t ih=>
   have:=Ak9 (F:=F) (fun q=>psum (fun k=>y k * u k q) t) (u t) 1 (y t) hr
   simp only [psum]
   rw [<- ih,show (fun q=>psum (fun k=>y k * u k q) t + y t * u t q)=fun q=>1 * psum (fun k=>y k * u k q) t + y t * u t q from by funext q;omega,this];omega
theorem A37 {n:Nat} {F:AS4} {r:Nat} (hr:r < n) (y:Nat->Int):det n (AUu F r fun q=>psum (fun k=>y k * F k q) n)=y r * det n F:=by
  rw [Ark hr y F n,ATu (g:=fun k=>if k=r then y r * det n F else 0),Aco hr (fun i hi=>if_neg hi),if_pos rfl];intro k hk
  by_cases h:k=r
  · subst h;rw [if_pos rfl,Ag0]
  · rw [if_neg h,Afq (F:=AUu F r (F k)) hr hk (Ne.symm h) (by rw [AUw,AX7 _ _ h])];simp
def AY9 (f:Nat->Int):Nat->Int
  | 0=>1
  | n + 1=>AY9 f n * f n
theorem Apr (f:Nat->Int) (n:Nat):AY9 f (n + 1)=f 0 * AY9 (fun i=>f (i + 1)) n:=by
 induction n with
 | zero=>simp [AY9]
 | succ n ih=>rw [AY9,ih,AY9];grind
theorem Aps {f g:Nat->Int} {n:Nat} (h:∀ i,i < n->f i=g i):AY9 f n=AY9 g n:=by
 induction n with
 | zero=>rfl
 | succ n ih=>rw [AY9,AY9,ih (fun i hi=>h i AGh),h n AGh]
theorem Amy:∀ {n:Nat} {F:AS4},Zc n F n->det n F=AY9 (fun i=>F i i) n:=by
 intro n
 induction n with
 | zero=>intro _ _;rfl
 | succ n ih=>
   intro F h
   rw [Apr,det,ATu (g:=fun i=>if i=0 then F 0 0 * det n (AXb 0 F) else 0),Aco (a:=0) AGh (fun i hi=>if_neg hi),if_pos rfl]
   · rw [ih (F:=AXb 0 F) (fun c' i h1 h2 h3=>by unfold AXb skp;rw [if_neg AGh];exact h (c' + 1) (i + 1) AGh AGh AGh)]
     rfl
   · intro i hi
     by_cases h0:i=0
     · subst h0;simp [sg]
     · rw [if_neg h0,h 0 i AGh AGh hi];simp
theorem As2:∀ {n:Nat} {F:AS4},(∀ i j,i < j->j < n->F i j=0)->det n F=AY9 (fun i=>F i i) n:=by
 intro n
 induction n with
 | zero=>intro _ _;rfl
 | succ n ih=>
   intro F h
   rw [Apr,det,ATu (g:=fun i=>if i=0 then F 0 0 * det n (AXb 0 F) else 0),Aco (a:=0) AGh (fun i hi=>if_neg hi),if_pos rfl]
   · rw [ih (F:=AXb 0 F) (fun i j h1 h2=>by unfold AXb skp;rw [if_neg AGh];exact h (i + 1) (j + 1) AGh AGh)]
     rfl
   · intro i hi
     by_cases h0:i=0
     · subst h0;simp [sg]
     · rw [if_neg h0,Ala (F:=AXb i F) (r:=0) AGh (fun q hq=>by unfold AXb skp;rw [if_pos AGh];exact h 0 (q + 1) AGh AGh)];simp
def Anb (F:AS4) (c i:Nat) (q:Int):AS4:=AXw (AUu F c fun x=>F c x + -q * F i x) c i
theorem Azo (F:AS4) {c i:Nat} (q:Int):Anb F c i q i=fun x=>F c x + -q * F i x:=by
 unfold Anb;rw [Avo,AUw]
theorem A68 (F:AS4) {c i:Nat} (h:c≠i) (q:Int):Anb F c i q c=F i:=by
 unfold Anb;rw [Aoz,AX7 _ _ (Ne.symm h)]
theorem Av6 (F:AS4) {c i k:Nat} (hc:k≠c) (hi:k≠i) (q:Int):Anb F c i q k=F k:=by
 unfold Anb;rw [Aqy _ hc hi,AX7 _ _ hc]
theorem A38 {n:Nat} {F:AS4} {c i:Nat} {q:Int} (H:Zc n F c) (hci:c < i) (hi:i < n):Zc n (Anb F c i q) c:=by
 intro c' k h1 h2 h3;by_cases hk:k=i
 ·subst hk;rw [Azo];simp [H c' c h1 h1 AGh,H c' k h1 h2 h3]
 ·by_cases Ad:k=c
  ·subst Ad;rw [A68 F hk];exact H c' i h1 AGh hi
  ·rw [Av6 F Ad hk];exact H c' k h1 h2 h3
theorem A39 {F:AS4} {c i:Nat} {q:Int} (H:Zi F c i):Zi (Anb F c i q) c i:=by
 intro k h1 h2;rw [Av6 F AGh AGh];exact H k h1 h2
theorem Azp {n:Nat} {P:(AS4)->Prop} (hadd:∀ F a b q,a < n->b < n->a≠b->P (AUu F a fun x=>F a x + q * F b x)->P F) (hswap:∀ F a b,a < n->b < n->a≠b->P (AXw F a b)->P F) (htri:∀ F,Zc n F n->P F):∀ F,P F:=by
  have key:∀ d c,c + d=n-> ∀ F,Zc n F c->P F:=by
    intro d;induction d with
    | zero=>
        intro c hc F hF;obtain rfl:c=n:=by omega
        exact htri F hF
    | succ d ih=>
      intro c hc
      have inner:∀ e i,i + e=n->c < i-> ∀ F,Zc n F c->Zi F c i->P F:=by
        intro e;induction e with
        | zero=>
            intro i hi hci F hF hz;obtain rfl:i=n:=by omega
            exact ih (c + 1) AGh F (A6a hF hz)
        | succ e ihe=>
          intro i hi hci
          have strong:∀ k F,(F i c).natAbs=k->Zc n F c->Zi F c i->P F:=by
            intro k;induction k using Nat.strongRecOn with
            | _ k ihk=>
              intro F hk hF hz
              by_cases h0:F i c=0
              · exact ihe (i + 1) AGh AGh F hF (A59 hz h0)
              · refine hadd F c i (-(F c c / F i c)) AGh AGh AGh (hswap _ c i AGh AGh AGh ?_);refine ihk ((Anb F c i (F c c / F i c)) i c).natAbs ?_ (Anb F c i (F c c / F i c)) rfl (A38 hF hci AGh) (A39 hz);rw [Azo,<- hk];show (F c c + -(F c c / F i c) * F i c).natAbs < _;have h1:=Int.mul_ediv_add_emod (F c c) (F i c);have h2:F c c + -(F c c / F i c) * F i c=F c c % F i c:=by grind
                rw [h2];have h3:=Int.emod_nonneg (F c c) h0;have h4:=Int.emod_lt (F c c) h0;omega
          exact fun F=>strong _ F rfl
      exact fun F hF=>inner (n - (c + 1)) (c + 1) AGh AGh F hF fun k h1 h2=>by omega
  exact fun F=>key n 0 AGh F fun c' i h=>by omega
def AUt (n:Nat) (A B:AS4):AS4:=fun i j=>psum (fun k=>A i k * B k j) n
theorem A4a {n:Nat} {A B:AS4} {a b:Nat} {q:Int}:AUt n (AUu A a fun x=>A a x + q * A b x) B=AUu (AUt n A B) a fun x=>AUt n A B a x + q * AUt n A B b x:=by
 funext i j;unfold AUt AUu;by_cases h:i=a
 ·simp only [if_pos h];rw [<- AX2,<- Ado];exact ATu fun k _=>by grind
 ·simp only [if_neg h]
theorem Av7 {n:Nat} {A B:AS4} {a:Nat} {u:Nat->Int}:AUt n (AUu A a u) B=AUu (AUt n A B) a fun x=>psum (fun k=>u k * B k x) n:=by
 funext i j;unfold AUt AUu;by_cases h:i=a
 ·simp only [if_pos h]
 ·simp only [if_neg h]
theorem A1d {n:Nat} {A B:AS4} {a b:Nat}:AUt n (AXw A a b) B=AXw (AUt n A B) a b:=by
 unfold AXw;rw [Av7,Av7];rfl
theorem Alb {n:Nat} (A B:AS4):det n (AUt n A B)=det n A * det n B:=by
 refine Azp (n:=n) (P:=fun A=>det n (AUt n A B)=det n A * det n B) (fun F a b q ha hb hab h=>?_) (fun F a b ha hb hab h=>?_) (fun F hF=>?_) A
 ·rw [A4a,Aeg ha hb hab,Aeg ha hb hab] at h;exact h
 ·rw [A1d,Aip ha hb hab,Aip ha hb hab] at h;rw [Int.neg_mul] at h;omega
 ·rw [Amy hF]
  have key:∀ j,j<=n->det n (fun i=>if i < j then AUt n F B i else B i)=AY9 (fun i=>F i i) j * det n B:=by
    intro j
    induction j with
    | zero=>intro _;simp [AY9]
    | succ j ih=>
      intro hj
      rw [AY9,Int.mul_assoc,Int.mul_comm (F j j),<- Int.mul_assoc,<- ih AGh,Int.mul_comm]
      rw [<- A37 (F:=fun i=>if i < j then AUt n F B i else B i) (r:=j) AGh (F j)]
      refine AUp fun i q hi hq=>?_
      unfold AUu
      by_cases h:i=j
      · subst h
        simp only [if_pos (Nat.lt_succ_self i),if_pos]
        unfold AUt
        refine ATu fun k hk=>?_
        by_cases hlt:k < i
        · rw [hF k i AGh hlt hi];simp
        · rw [if_neg hlt]
      · simp only [if_neg h]
        by_cases hlt:i < j
        · rw [if_pos hlt,if_pos AGh]
        · rw [if_neg hlt,if_neg AGh]
  rw [<- key n (Nat.le_refl _)];exact AUp fun i j hi hj=>by rw [if_pos hi]
def trF (F:AS4):AS4:=fun i j=>F j i
theorem Ao7 (n:Nat):det n dl=1:=by
 rw [Amy (fun c' i h1 h2 h3=>by unfold dl;rw [if_neg AGh])]
 have:∀ k,AY9 (fun i=>dl i i) k=1:=by
   intro k
   induction k with
   | zero=>rfl
   | succ k ih=>rw [AY9,ih];simp [dl]
 exact this n
theorem Ax6 {n:Nat} {F:AS4} {i j:Nat} (hj:j < n):psum (fun k=>F i k * dl k j) n=F i j:=by
 rw [Aco hj (fun k hk=>by unfold dl;rw [if_neg hk];simp)];simp [dl]
theorem Ax7 {n:Nat} {F:AS4} {a:Nat} (y:Nat->Int) (ha:a < n):det n (trF (AUu F a fun x=>psum (fun k=>y k * F k x) n))=det n (trF F) * det n (trF (AUu dl a y)):=by
  rw [<- Alb];refine AUp fun i j hi hj=>?_;unfold AUt trF AUu
  by_cases h:j=a
  · simp only [if_pos h];exact ATu fun k _=>by grind
  · simp only [if_neg h];rw [Aco hj (fun k hk=>by unfold dl;rw [if_neg (Ne.symm hk)];simp)];simp [dl]
theorem Ahu {n:Nat} (F:AS4):det n (trF F)=det n F:=by
 refine Azp (n:=n) (P:=fun F=>det n (trF F)=det n F) (fun F a b q ha hb hab h=>?_) (fun F a b ha hb hab h=>?_) (fun F hF=>?_) F
 ·rw [Aeg ha hb hab] at h;rw [<- h];have h1:=Ax7 (n:=n) (F:=F) (a:=a) (fun k=>dl k a + q * dl k b) ha
  have h2:det n (trF (AUu dl a fun k=>dl k a + q * dl k b))=1:=by
    rw [<- Ao7 n,<- Aeg (F:=dl) hb ha (Ne.symm hab) q]
    refine AUp fun i j hi hj=>?_
    clear h1 h
    simp only [trF,ATy,dl]
    grind
  rw [h2,Int.mul_one] at h1;rw [<- h1];refine AUp fun i j hi hj=>?_;unfold trF AUu;by_cases hja:j=a
  ·simp only [if_pos hja];rw [ATu (g:=fun k=>F k i * dl k a + q * (F k i * dl k b)) (fun k _=>by grind),Ado,AX2];rw [Aco (a:=a) ha (fun k hk=>by unfold dl;rw [if_neg hk];simp),Aco (a:=b) hb (fun k hk=>by unfold dl;rw [if_neg hk];simp)];simp [dl]
  ·simp only [if_neg hja]
 ·rw [Aip ha hb hab] at h
  have h1:det n (trF (AXw F a b))=det n (trF F) * det n (AXw dl a b):=by
    rw [<- Alb]
    refine AUp fun i j hi hj=>?_
    unfold AUt trF
    have hsym:∀ k,AXw dl a b k j=if j=a then dl k b else if j=b then dl k a else dl k j:=by
      intro k
      simp only [Aeq,dl]
      grind
    rw [ATu (g:=fun k=>F k i * dl k (if j=a then b else if j=b then a else j)) (fun k _=>by rw [hsym];grind)]
    rw [Aco (a:=if j=a then b else if j=b then a else j) (by grind) (fun k hk=>by unfold dl;rw [if_neg hk];simp)]
    simp only [dl,if_pos,Int.mul_one]
    by_cases h3:j=a
    · subst h3;rw [Aoz,if_pos rfl]
    · rw [if_neg h3]
      by_cases h4:j=b
      · subst h4;rw [Avo,if_pos rfl]
      · rw [Aqy _ h3 h4,if_neg h4]
  rw [Aip ha hb hab,Ao7] at h1;omega
 ·rw [Amy hF,As2 (F:=trF F) (fun i j h1 h2=>hF i j AGh h1 h2)];rfl
def shF (k:Nat) (F:AS4):AS4:=fun i j=>F (k + i) (k + j)
theorem As3 {i k a:Nat} (h:i < k + 1):skp i (k + a)=k + 1 + a:=by unfold skp;rw [if_neg AGh];omega
theorem Ao8:∀ {k m:Nat} {T:AS4},(∀ i j,k<=i->i < k + m->j < k->T i j=0)->det (k + m) T=det k T * det m (shF k T):=by
  intro k;induction k with
  | zero=>
    intro m T _;have e:shF 0 T=T:=by funext i j;simp [shF]
    rw [e,Nat.zero_add];simp [det]
  | succ k ih=>
    intro m T h;rw [show k + 1 + m=(k + m) + 1 by omega];simp only [det];rw [A34 (k:=k + 1) AGh (fun i h1 h2=>by rw [h i 0 h1 AGh AGh];simp)];rw [Int.mul_comm,<- AX2];refine ATu fun i hi=>?_
    rw [ih (T:=AXb i T) (m:=m) (fun a b ha ha2 hb=>by
      obtain ⟨c,rfl⟩:∃ c,a=k + c:=⟨a - k,AGh⟩;unfold AXb;rw [As3 hi];exact h _ _ AGh AGh AGh)]
    have e:shF k (AXb i T)=shF (k + 1) T:=by
      funext a b;unfold shF AXb;rw [As3 hi,show k + b + 1=k + 1 + b by omega]
    rw [e];grind
theorem Aue {n:Nat} {F:AS4} (h:∀ i,i < n + 1->F i 0=0):det (n + 1) F=0:=by
 simp only [det];rw [ATu (g:=fun _=>0) fun i hi=>by rw [h i hi];simp];exact Ah9 _
theorem Av8 {n:Nat} {F:AS4} {a b:Nat} (ha:a < n) (hb:b < n) (hab:a≠b) (h:∀ i,F i a=F i b):det n F=0:=by
 rw [<- Ahu];exact Afq ha hb hab (by funext i;exact h i)
theorem A69 (F:AS4):det 2 F=F 0 0 * F 1 1 - F 1 0 * F 0 1:=by
 simp [det,psum,AXb,skp,sg];grind
def bro (k i r:Nat):Nat:=if r < k then r else i
def Mn (k:Nat) (A:AS4) (i j:Nat):Int:=det (k + 1) fun r c=>A (bro k i r) (bro k j c)
theorem Agf (A:AS4) (i j:Nat):Mn 0 A i j=A i j:=by
 simp [Mn,det,psum,bro,sg]
theorem Aca (k:Nat) (A:AS4):Mn k A k k=det (k + 1) A:=by
 refine AUp fun r c hr hc=>?_;have e:∀ r,r < k + 1->bro k k r=r:=fun r hr=>by unfold bro;split <;> omega
 rw [e r hr,e c hc]
theorem A8p {k:Nat} (A:AS4) (i:Nat) {j:Nat} (hj:j < k):Mn k A i j=0:=by
 refine Av8 (a:=j) (b:=k) AGh AGh AGh fun r=>?_;unfold bro;simp [hj]
def cof (k:Nat) (A:AS4) (i s:Nat):Int:=det (k + 1) (AUu (fun c r=>A (bro k i r) c) k (dl s))
theorem Auf {n:Nat} (f:Nat->Int) {q:Nat} (hq:q < n):psum (fun s=>f s * dl s q) n=f q:=by
 rw [Aco hq (fun i hi=>by unfold dl;rw [if_neg hi,Int.mul_zero])];simp [dl]
theorem A9w (k:Nat) (A:AS4) (i j:Nat):Mn k A i j=psum (fun s=>cof k A i s * A s j) k + det k A * A i j:=by
 have h1:Mn k A i j=det (k + 1) (AUu (fun c r=>A (bro k i r) c) k fun q=>psum (fun s=>A (bro k i s) j * dl s q) (k + 1)):=by
   unfold Mn
   rw [<- Ahu]
   refine AUp fun c r hc hr=>?_
   rw [ATy,Auf _ hr]
   unfold trF
   split
   · subst_vars;simp [bro]
   · have:c < k:=by omega
     simp [bro,this]
 rw [h1,Ark AGh]
 have hk:det (k + 1) (AUu (fun c r=>A (bro k i r) c) k (dl k))=det k A:=by
   rw [Ao8 (k:=k) (m:=1) (T:=AUu (fun c r=>A (bro k i r) c) k (dl k)) (fun a b h1 h2 h3=>by
     obtain rfl:a=k:=by omega
     rw [ATy,if_pos rfl];unfold dl;rw [if_neg AGh])]
   have e1:det k (AUu (fun c r=>A (bro k i r) c) k (dl k))=det k A:=by
     rw [<- Ahu]
     refine AUp fun r c hr hc=>?_
     unfold trF
     rw [ATy,if_neg AGh]
     simp [bro,hr]
   have e2:det 1 (shF k (AUu (fun c r=>A (bro k i r) c) k (dl k)))=1:=by
     simp [det,psum,shF,sg,ATy,dl]
   rw [e1,e2,Int.mul_one]
 show psum (fun s=>A (bro k i s) j * det (k + 1) (AUu (fun c r=>A (bro k i r) c) k (dl s))) k + A (bro k i k) j * det (k + 1) (AUu (fun c r=>A (bro k i r) c) k (dl k))=_;rw [hk];congr 1
 ·refine ATu fun s hs=>?_;show _=cof k A i s * A s j;unfold cof;rw [Int.mul_comm];simp [bro,hs]
 ·simp [bro,Int.mul_comm]
theorem Av9 (f:Nat->Int) (k m:Nat):AY9 f (k + m)=AY9 f k * AY9 (fun i=>f (k + i)) m:=by
 induction m with
 | zero=>simp [AY9]
 | succ m ih=>rw [<- Nat.add_assoc];simp only [AY9];rw [ih];grind
theorem As4 {f:Nat->Int}:∀ {n:Nat},(∀ i,i < n->f i=1)->AY9 f n=1
  | 0,_=>rfl
  | n + 1,h=>by rw [AY9,As4 fun i hi=>h i AGh,h n AGh];rfl
theorem Awa {f:Nat->Int}:∀ {n:Nat},(∀ i,i < n->f i≠0)->AY9 f n≠0
  | 0,_=>by simp [AY9]
  | n + 1,h=>by rw [AY9];exact Int.mul_ne_zero (Awa fun i hi=>h i AGh) (h n AGh)
def Aln (k:Nat) (A:AS4) (ρ:Nat->Nat):AS4:=fun r s=>if r < k then dl r s else if s < k then cof k A (ρ r) s else if s=r then det k A else 0
theorem Awb {k n:Nat} {A B:AS4} {ρ γ:Nat->Nat} (hkn:k<=n) (hρ:∀ r,r < k->ρ r=r) (hB:∀ r c,B r c=A (ρ r) (γ c)) {r c:Nat} (hr:r < n):AUt n (Aln k A ρ) B r c=if r < k then B r c else Mn k A (ρ r) (γ c):=by
 unfold AUt;by_cases h:r < k
 ·rw [if_pos h,Aco hr (fun i hi=>by unfold Aln;rw [if_pos h];unfold dl;rw [if_neg (fun e=>hi e.symm),Int.zero_mul])];unfold Aln;rw [if_pos h];simp [dl]
 ·rw [if_neg h,A9w];obtain ⟨m,rfl⟩:∃ m,n=k + m:=⟨n - k,AGh⟩
  have hs:∀ t,psum (fun s=>Aln k A ρ r s * B s c) (k + t)=psum (fun s=>cof k A (ρ r) s * A s (γ c)) k + (if r < k + t then det k A * A (ρ r) (γ c) else 0):=by
    intro t
    induction t with
    | zero=>
      rw [if_neg AGh,Int.add_zero,Nat.add_zero]
      refine ATu fun s hs=>?_
      unfold Aln
      rw [if_neg h,if_pos hs,hB,hρ s hs]
    | succ t ih=>
      show psum (fun s=>Aln k A ρ r s * B s c) (k + t) + Aln k A ρ r (k + t) * B (k + t) c=_
      rw [ih]
      have e:Aln k A ρ r (k + t)=if k + t=r then det k A else 0:=by unfold Aln;rw [if_neg h,if_neg AGh]
      rw [e,hB]
      rcases Nat.lt_trichotomy r (k + t) with h1 | h1 | h1
      · rw [if_pos h1,if_neg AGh,if_pos AGh];simp
      · subst h1;rw [if_neg AGh,if_pos rfl,if_pos AGh];omega
      · rw [if_neg AGh,if_neg AGh,if_neg AGh];simp
  rw [hs,if_pos hr]
theorem Awc {k m:Nat} {A:AS4} {ρ:Nat->Nat}:det (k + m) (Aln k A ρ)=AY9 (fun _=>det k A) m:=by
 rw [As2 (fun i j hij hj=>by
   unfold Aln
   split
   · unfold dl;rw [if_neg AGh]
   · rw [if_neg AGh,if_neg AGh]),Av9,As4,Int.one_mul]
 ·refine Aps fun i hi=>?_;unfold Aln;rw [if_neg AGh,if_neg AGh,if_pos rfl]
 ·intro i hi;unfold Aln;rw [if_pos hi];simp [dl]
theorem Amz {k:Nat} {A:AS4} (h0:det k A≠0) (i j:Nat):Mn k A k k * Mn k A i j - Mn k A i k * Mn k A k j=det k A * Mn (k + 1) A i j:=by
  have h1:=Alb (n:=k + 2) (Aln k A (bro (k + 1) i)) fun r c=>A (bro (k + 1) i r) (bro (k + 1) j c)
  have hm:∀ r c,r < k + 2->AUt (k + 2) (Aln k A (bro (k + 1) i)) (fun r c=>A (bro (k + 1) i r) (bro (k + 1) j c)) r c=if r < k then A (bro (k + 1) i r) (bro (k + 1) j c) else Mn k A (bro (k + 1) i r) (bro (k + 1) j c):=fun r c hr=>
    Awb (k:=k) (n:=k + 2) (A:=A) (B:=fun r c=>A (bro (k + 1) i r) (bro (k + 1) j c)) (ρ:=bro (k + 1) i) (γ:=bro (k + 1) j) AGh (fun r hr=>by unfold bro;rw [if_pos AGh]) (fun r c=>rfl) hr
  rw [Awc,Ao8 (k:=k) (m:=2) (fun a b ha ha2 hb=>by
    rw [hm a b ha2,if_neg AGh,show bro (k + 1) j b=b by unfold bro;rw [if_pos AGh]];exact A8p _ _ hb)] at h1
  have e1:det k (AUt (k + 2) (Aln k A (bro (k + 1) i)) fun r c=>A (bro (k + 1) i r) (bro (k + 1) j c))=det k A:=by
    refine AUp fun r c hr hc=>?_;rw [hm r c AGh,if_pos hr];simp only [bro];rw [if_pos AGh,if_pos AGh]
  have b0:∀ q,bro (k + 1) q (k + 0)=k:=fun q=>by unfold bro;rw [if_pos AGh];rfl
  have b1:∀ q,bro (k + 1) q (k + 1)=q:=fun q=>by unfold bro;rw [if_neg AGh]
  rw [e1,A69] at h1;simp only [shF] at h1;rw [hm _ _ AGh,hm _ _ AGh,hm _ _ AGh,hm _ _ AGh,if_neg AGh,if_neg AGh,if_neg AGh,if_neg AGh,b0,b0,b1,b1] at h1;have e2:AY9 (fun _=>det k A) 2=det k A * det k A:=by simp [AY9]
  have e3:(det (k + 2) fun r c=>A (bro (k + 1) i r) (bro (k + 1) j c))=Mn (k + 1) A i j:=rfl;rw [e2,e3,Int.mul_assoc] at h1;exact Int.eq_of_mul_eq_mul_left h0 h1
theorem Awd {k n:Nat} {A:AS4} (h0:det k A≠0) (hk:k < n) (hz:∀ i,k<=i->i < n->Mn k A i k=0):det n A=0:=by
  obtain ⟨m,rfl⟩:∃ m,n=k + (m + 1):=⟨n - k - 1,AGh⟩;have h1:=Alb (n:=k + (m + 1)) (Aln k A id) A
  have hm:∀ r c,r < k + (m + 1)->AUt (k + (m + 1)) (Aln k A id) A r c=if r < k then A r c else Mn k A r c:=fun r c hr=>
    Awb (k:=k) (n:=k + (m + 1)) (A:=A) (B:=A) (ρ:=id) (γ:=id) AGh (fun r hr=>rfl) (fun r c=>rfl) hr
  rw [Awc,Ao8 (k:=k) (m:=m + 1) (fun a b ha ha2 hb=>by rw [hm a b ha2,if_neg AGh];exact A8p _ _ hb),Aue (F:=shF k _) (fun i hi=>by
    unfold shF;rw [hm _ _ AGh,if_neg AGh];exact hz _ AGh AGh),Int.mul_zero] at h1
  rcases Int.mul_eq_zero.1 h1.symm with h2 | h2
  · exact absurd h2 (Awa fun i hi=>h0)
  · exact h2
def dBd (m:Nat):Nat->Nat
  | 0=>1
  | n + 1=>(n + 1) * m * dBd m n
theorem psum_abs {f:Nat->Int} {B:Nat}:∀ {n:Nat},(∀ i,i < n->(f i).natAbs<=B)->(psum f n).natAbs<=n * B
  | 0,_=>by simp [psum]
  | n + 1,h=>by
    have h1:=psum_abs (n:=n) fun i hi=>h i AGh
    have h2:=h n AGh
    have h3:=Int.natAbs_add_le (psum f n) (f n)
    show (psum f n + f n).natAbs<=_
    rw [Nat.add_mul,Nat.one_mul]
    omega
theorem Aqa {m:Nat}:∀ {n:Nat} {F:AS4},(∀ i j,(F i j).natAbs<=m)->(det n F).natAbs<=dBd m n
  | 0,_,_=>by simp [det,dBd]
  | n + 1,F,h=>by
    have h1:=psum_abs (f:=fun i=>sg i * F i 0 * det n (AXb i F)) (B:=m * dBd m n) (n:=n + 1) fun i hi=>by
      have e:=Aqa (n:=n) (F:=AXb i F) fun a b=>h _ _
      have es:(sg i).natAbs=1:=by unfold sg;split <;> rfl
      rw [Int.natAbs_mul,Int.natAbs_mul,es,Nat.one_mul]
      exact Nat.mul_le_mul (h i 0) e
    rw [dBd,Nat.mul_assoc]
    exact h1
theorem A7a {k n p:Nat} {A:AS4} (hp:k < p) {i j:Nat} (hi:k<=i):Mn k (AXw A p k) i j=Mn k A (if i=k then p else if i=p then k else i) j:=by
 refine AUp fun r c hr hc=>?_;rw [Aeq];unfold bro;by_cases h:r < k
 ·rw [if_pos h,if_pos h,if_neg AGh,if_neg AGh]
 ·rw [if_neg h,if_neg h];split
  ·rfl
  ·split <;> rfl
theorem Aug {k p:Nat} {A:AS4} (hp:k < p):det k (AXw A p k)=det k A:=by
 refine AUp fun r c hr hc=>?_;rw [Aeq,if_neg AGh,if_neg AGh]
def sgB (neg:Bool):Int:=if neg then -1 else 1
def Ao9 (m:Nat) (A0:AS4) (n k:Nat) (F:AS4) (last:Int) (neg:Bool):Prop:=
  ∃ A:AS4,det n A=sgB neg * det n A0/\(∀ i j,k<=i->i < n->k<=j->j < n->F i j=Mn k A i j)/\last=det k A/\last≠0/\ ∀ i j,(A i j).natAbs<=m
theorem Ax8 {m n:Nat} {A0:AS4} (h:∀ i j,(A0 i j).natAbs<=m):Ao9 m A0 n 0 A0 1 false:=
  ⟨A0,by simp [sgB],fun i j _ _ _ _=>(Agf A0 i j).symm,rfl,AGj,h⟩
theorem A1e {m n k p:Nat} {A0 F:AS4} {last:Int} {neg:Bool} (H:Ao9 m A0 n k F last neg) (hkp:k < p) (hp:p < n):Ao9 m A0 n k (AXw F p k) last (!neg):=by
 obtain ⟨A,h1,h2,h3,h4,h5⟩:=H;refine ⟨AXw A p k,?_,fun i j hi hin hj hjn=>?_,by rw [Aug hkp];exact h3,h4,fun i j=>?_⟩
 ·rw [Aip hp AGh AGh,h1];cases neg <;> simp [sgB]
 ·rw [A7a (n:=n) hkp hi,Aeq];split
  ·rw [h2 p j AGh hp hj hjn]
  ·split
   ·rw [h2 k j AGh AGh hj hjn]
   ·rw [h2 i j hi hin hj hjn]
 ·rw [Aeq];split
  ·exact h5 _ _
  ·split <;> exact h5 _ _
def bQ (k:Nat) (F:AS4) (last:Int) (r c:Nat):Int:=(F k k * F r c - F r k * F k c) / last
def bF (k:Nat) (F:AS4) (last:Int) (i j:Nat):AS4:=fun r c=>if k < r/\k < c/\(r < i∨r=i/\c < j) then bQ k F last r c else F r c
theorem Awe (k:Nat) (F:AS4) (last:Int):bF k F last (k + 1) (k + 1)=F:=by
 funext r c;unfold bF;rw [if_neg AGh]
theorem A4c (k n:Nat) (F:AS4) (last:Int) (i:Nat) {r c:Nat} (hc:c < n):bF k F last i n r c=bF k F last (i + 1) (k + 1) r c:=by
 unfold bF;by_cases h:k < r/\k < c/\(r < i∨r=i/\c < n)
 ·rw [if_pos h,if_pos AGh]
 ·rw [if_neg h,if_neg AGh]
theorem A4d (k:Nat) (F:AS4) (last:Int) {i j:Nat} (hi:k < i) (hj:k < j):(AUu (bF k F last i j) i fun c=>if c=j then bQ k F last i j else bF k F last i j i c)=bF k F last i (j + 1):=by
 funext r c;rw [ATy];split
 ·subst_vars
  split
  ·subst_vars;unfold bF;rw [if_pos AGh]
  ·unfold bF;by_cases h:k < r/\k < c/\(r < r∨r=r/\c < j)
   ·rw [if_pos h,if_pos AGh]
   ·rw [if_neg h,if_neg AGh]
 ·unfold bF;by_cases h:k < r/\k < c/\(r < i∨r=i/\c < j)
  ·rw [if_pos h,if_pos AGh]
  ·rw [if_neg h,if_neg AGh]
theorem Azq (k:Nat) (F:AS4) (last:Int) (i j c:Nat):bF k F last i j k c=F k c:=by unfold bF;rw [if_neg AGh]
theorem A8q (k:Nat) (F:AS4) (last:Int) (i j r:Nat):bF k F last i j r k=F r k:=by unfold bF;rw [if_neg AGh]
theorem A8r (k:Nat) (F:AS4) (last:Int) (i j:Nat):bF k F last i j i j=F i j:=by unfold bF;rw [if_neg AGh]
theorem A8s {m n k:Nat} {A0 F:AS4} {last:Int} {neg:Bool} (H:Ao9 m A0 n k F last neg) (hk:k < n):∃ A,(∀ i j,(A i j).natAbs<=m)/\det n A=sgB neg * det n A0/\F k k=det (k + 1) A/\ ∀ i j,k<=i->i < n->k<=j->j < n->F i j=Mn k A i j/\bQ k F last i j=Mn (k + 1) A i j:=by
 obtain ⟨A,h1,h2,h3,h4,h5⟩:=H;refine ⟨A,h5,h1,by rw [h2 k k AGh hk AGh hk,Aca],fun i j hi hin hj hjn=>⟨h2 i j hi hin hj hjn,?_⟩⟩;unfold bQ;rw [h2 k k AGh hk AGh hk,h2 i j hi hin hj hjn,h2 i k hi hin AGh hk,h2 k j AGh hk hj hjn,Amz (by rw [<- h3];exact h4),<- h3,Int.mul_ediv_cancel_left _ h4]
theorem A1f {m n k:Nat} {A0 F:AS4} {last:Int} {neg:Bool} (H:Ao9 m A0 n k F last neg) (hk:k < n) (h0:F k k≠0):Ao9 m A0 n (k + 1) (bF k F last n (k + 1)) (F k k) neg:=by
 obtain ⟨A,h5,h1,h6,h2⟩:=A8s H hk;refine ⟨A,h1,fun i j hi hin hj hjn=>?_,h6,h0,h5⟩;unfold bF;rw [if_pos AGh];exact (h2 i j AGh hin AGh hjn).2
theorem A1g {m n k:Nat} {A0 F:AS4} {last:Int} {neg:Bool} (H:Ao9 m A0 n k F last neg) (hk:k < n) (hz:∀ i,k<=i->i < n->F i k=0):det n A0=0:=by
 obtain ⟨A,h1,h2,h3,h4,h5⟩:=H;have h:=Awd (A:=A) (by rw [<- h3];exact h4) hk fun i hi hin=>by rw [<- h2 i k hi hin AGh hk];exact hz i hi hin
 rw [h1] at h;rcases Int.mul_eq_zero.1 h with h6 | h6
 ·cases neg <;> simp [sgB] at h6
 ·exact h6
theorem A4e {m n:Nat} {A0 F:AS4} {last:Int} {neg:Bool} (H:Ao9 m A0 n n F last neg):det n A0=if neg then -last else last:=by
 obtain ⟨A,h1,h2,h3,h4,h5⟩:=H;rw [<- h3] at h1;rw [h1];cases neg
 ·simp [sgB]
 ·simp [sgB]
theorem Ax9 {m k:Nat} {A:AS4} (h:∀ i j,(A i j).natAbs<=m) (i j:Nat):(Mn k A i j).natAbs<=dBd m (k + 1):=Aqa fun r c=>h _ _
theorem Aiq {m:Nat} (hm:1<=m) {a b:Nat} (h:a<=b):dBd m a<=dBd m b:=by
 induction h with
 | refl=>exact Nat.le_refl _
 | step h ih=>
   refine Nat.le_trans ih ?_
   rw [dBd]
   exact Nat.le_mul_of_pos_left _ (Nat.mul_pos AGh AGh)
theorem A4f {m n k:Nat} {A0 F:AS4} {last:Int} {neg:Bool} (hm:1<=m) (H:Ao9 m A0 n k F last neg) (hk:k < n) {i j:Nat} (hi:k<=i) (hin:i < n) (hj:k<=j) (hjn:j < n):(F i j).natAbs<=dBd m n/\(bQ k F last i j).natAbs<=dBd m (n + 1):=by
  obtain ⟨A,h5,h1,h6,h2⟩:=A8s H hk;obtain ⟨h7,h8⟩:=h2 i j hi hin hj hjn;rw [h7,h8];exact ⟨Nat.le_trans (Ax9 h5 _ _) (Aiq hm AGh),Nat.le_trans (Ax9 h5 _ _) (Aiq hm AGh)⟩
theorem A1h {m n k:Nat} {A0 F:AS4} {last:Int} {neg:Bool} (hm:1<=m) (H:Ao9 m A0 n k F last neg) (hk:k<=n):last≠0/\last.natAbs<=dBd m n:=by
 obtain ⟨A,h1,h2,h3,h4,h5⟩:=H;exact ⟨h4,by rw [h3];exact Nat.le_trans (Aqa h5) (Aiq hm hk)⟩
end Go.QF
namespace Go.Proofs.YthbndcbclhkepaaGreatDoor
open Go Go.QF
theorem A7b {α:Type} {i n:Nat} {a b c:α} (h:i < n):(List.replicate i a ++ List.replicate (n - i) b).set i c=List.replicate i a ++ (c :: List.replicate (n - i - 1) b):=by
 rw [List.set_append_right _ _ ATw,List.length_replicate,Nat.sub_self,show n - i=(n - i - 1) + 1 by omega,List.replicate_succ];rfl
theorem Aqb {fuel n m:Nat} (hn:n<=100000000) (hm:m<=100000000) (hf:n < fuel):AVx fuel n m=some (List.replicate n (List.replicate m 0)):=by
 apply ok_eq;unfold AVx;refine AU3 AGh (AGt (AUa (fun i s=>s=((i:Int),List.replicate i (List.replicate m 0) ++ List.replicate (n - i) [])) n (Q:=(· =List.replicate n (List.replicate m 0))) ATw hf fun i s hi hI=>?_) fun x hx=>AGp hx);subst hI;unfold Aci;dsimp only;rw [List.length_replicate,Int.toNat_natCast];refine ATr (fun h=>AU3 AGh (ATs (n:=i) (x:=[]) ?_ rfl (AGp ⟨AGh,?_⟩))) (fun h=>AGp ?_)
 ·rw [List.getElem?_append_right ATw,List.length_replicate,Nat.sub_self,List.getElem?_replicate,if_pos AGh]
 ·rw [wk AGh,AU0,Int.toNat_natCast,A7b AGh];congr 1;rw [show n - (i + 1)=n - i - 1 by omega,List.replicate_succ'];simp
 ·obtain rfl:i=n:=by omega
  simp
theorem Auh {α:Type} {A:List (List α)} {i:Nat} {row:List α} (hi:i < A.length):(A.take i ++ row :: List.replicate (A.length - i - 1) []).set i=fun r=>A.take i ++ r :: List.replicate (A.length - i - 1) []:=by
 funext r;rw [List.set_append_right _ _ (by simp;omega),List.length_take,Nat.min_eq_left AGh,Nat.sub_self];rfl
theorem Azr {fuel:Nat} {A:List (List Int)} (hn:A.length<=100000000) (hm:∀ z∈A,z.length<=100000000/\z.length < fuel) (hf:A.length < fuel):AXz fuel A=some A:=by
 apply ok_eq;unfold AXz;refine AU3 AGh (AGt (AUa (fun i s=>s=((i:Int),A.take i ++ List.replicate (A.length - i) [])) A.length (Q:=(· =A)) ATw hf fun i s hi hI=>?_) fun x hx=>AGp hx);subst hI;unfold Ack;dsimp only;refine ATr (fun h=>?_) (fun h=>AGp ?_)
 ·have hi':i < A.length:=by omega
  obtain ⟨row,hrow⟩:∃ row,A[i]? =some row:=⟨A[i],List.getElem?_eq_getElem hi'⟩;have hr:=hm row (List.mem_of_getElem? hrow);refine ATs hrow rfl (AGt (AUa (fun j s=>s=((j:Int),A.take i ++ row.take j :: List.replicate (A.length - i - 1) [])) row.length (Q:=(· =A.take i ++ row :: List.replicate (A.length - i - 1) [])) ?_ hr.2 fun j s hj hJ=>?_) fun x hx=>AGp ⟨hi',?_⟩)
  ·rw [show A.length - i=(A.length - i - 1) + 1 by omega,List.replicate_succ];simp
  ·subst hJ;unfold Acj;dsimp only;refine ATr (fun h2=>?_) (fun h2=>AGp ?_)
   ·obtain ⟨x,hx⟩:∃ x,row[j]? =some x:=⟨row[j]'AGh,List.getElem?_eq_getElem _⟩;refine ATs hx rfl (ATs (n:=i) (x:=row.take j) ?_ rfl (AGt (Q:=(· =x)) ⟨x,rfl,rfl⟩ fun y hy=>AU3 ?_ (AGp ⟨AGh,?_⟩)))
    ·rw [List.getElem?_append_right (by simp;omega),List.length_take,Nat.min_eq_left AGh,Nat.sub_self];rfl
    ·rw [List.length_take];omega
    ·subst hy;rw [wk AGh,AU0,Auh hi',List.take_add_one,hx];rfl
   ·obtain rfl:j=row.length:=by omega
    rw [List.take_length]
  ·subst hx;rw [wk AGh,List.take_add_one,hrow,show A.length - (i + 1)=A.length - i - 1 by omega];simp
 ·obtain rfl:i=A.length:=by omega
  simp
def okM (A:List (List Int)):Bool:=decide (1<=A.length/\A.length<=16/\ ∀ z∈A,1<=z.length/\z.length<=16/\z.length=Af0 A)
theorem A1i {A:List (List Int)} {z:List Int} (h:A[0]? =some z):Af0 A=z.length:=by unfold Af0;rw [h];rfl
theorem Awg {fuel:Nat} {A:List (List Int)} (hr:∀ z∈A,∀ x∈z,-9223372036854775808<=x/\x<=9223372036854775807) (hf:17 < fuel):AVc fuel A=some (if okM A then (A,true) else ([],false)):=by
 apply ok_eq;unfold AVc
 have key:∀ R:List (List Int) × Bool->Prop,(okM A=false->R ([],false))->(okM A=true->R (A,true))->Ok (AVc fuel A) R:=by
   intro R hF hT
   unfold AVc
   refine AGt (Q:=fun ex=>match ex with | .inl e=>e=([],false)/\okM A=false | .inr _=>1<=A.length/\A.length<=16) (ATr (fun h=>AGp ⟨rfl,by unfold okM;rw [decide_eq_false_iff_not];omega⟩) fun h=>ATr (fun h2=>AGp ⟨rfl,by unfold okM;rw [decide_eq_false_iff_not];omega⟩) fun h2=>AGp ⟨AGh,AGh⟩) fun ex hex=>?_
   cases ex with
   | inl e=>obtain ⟨rfl,h⟩:=hex;exact AGp (hF h)
   | inr u=>
     dsimp only at hex ⊢
     obtain ⟨z0,Ab⟩:∃ z,A[0]? =some z:=⟨A[0]'AGh,List.getElem?_eq_getElem _⟩
     have hc:=A1i Ab
     refine AGt (AUa (fun i (s:Int)=>s=(i:Int)/\ ∀ z∈A.take i,1<=z.length/\z.length<=16/\z.length=Af0 A) A.length (Q:=fun ex=>match ex with | .inl e=>e=([],false)/\okM A=false | .inr _=>okM A=true) ⟨rfl,ATw⟩ AGh fun i s hi hI=>?_) fun ex Ac=>?_
     · obtain ⟨rfl,hI⟩:=hI
       unfold AZ4
       refine ATr (fun h=>?_) (fun h=>AGp ?_)
       · have hi':i < A.length:=by omega
         obtain ⟨row,hrow⟩:∃ row,A[i]? =some row:=⟨A[i],List.getElem?_eq_getElem hi'⟩
         have bad: ¬ (1<=row.length/\row.length<=16/\row.length=Af0 A)->okM A=false:=fun hb=>by
           unfold okM;rw [decide_eq_false_iff_not];exact fun h=>hb (h.2.2 row (List.mem_of_getElem? hrow))
         refine ATs hrow rfl (ATr (fun h1=>AGp ⟨rfl,bad AGh⟩) fun h1=>ATr (fun h2=>AGp ⟨rfl,bad AGh⟩) fun h2=>ATs Ab rfl (ATr (fun h3=>AGp ⟨rfl,bad AGh⟩) fun h3=>AGp ⟨hi',wk AGh,?_⟩))
         rw [List.take_add_one,hrow]
         intro z hz
         rcases List.mem_append.1 hz with hz | hz
         · exact hI z hz
         · rw [show z=row by simpa using hz];omega
       · obtain rfl:i=A.length:=by omega
         rw [List.take_length] at hI
         unfold okM;rw [decide_eq_true_eq];exact ⟨hex.1,hex.2,hI⟩
     · cases ex with
       | inl e=>obtain ⟨rfl,h⟩:=Ac;exact AGp (hF h)
       | inr u=>
         dsimp only at Ac ⊢
         have hv:=Ac
         unfold okM at hv;rw [decide_eq_true_eq] at hv
         have hcA:∀ z∈A,z.length=Af0 A:=fun z hz=>(hv.2.2 z hz).2.2
         have Ag:1<=Af0 A/\Af0 A<=16:=by have:=hv.2.2 z0 (List.mem_of_getElem? Ab);omega
         refine ATs Ab rfl (AGt (AUc (Aqb AGh AGh AGh)) fun O hO=>?_)
         subst hO
         rw [<- hc]
         refine AGt (AUa (fun i s=>s=((i:Int),A.take i ++ List.replicate (A.length - i) (List.replicate (Af0 A) 0))) A.length (Q:=(· =A)) ATw AGh fun i s hi hI=>?_) fun x hx=>AGp (hx ▸ hT Ac)
         subst hI
         unfold AZ3
         dsimp only
         refine ATr (fun h=>?_) (fun h=>AGp ?_)
         · have hi':i < A.length:=by omega
           obtain ⟨row,hrow⟩:∃ row,A[i]? =some row:=⟨A[i],List.getElem?_eq_getElem hi'⟩
           have hrl:=hcA row (List.mem_of_getElem? hrow)
           refine ATs hrow rfl (AGt (AUa (fun j s=>s=((j:Int),A.take i ++ (row.take j ++ List.replicate (Af0 A - j) 0) :: List.replicate (A.length - i - 1) (List.replicate (Af0 A) 0))) row.length (Q:=(· =A.take i ++ row :: List.replicate (A.length - i - 1) (List.replicate (Af0 A) 0))) ?_ AGh fun j s hj hJ=>?_) fun x hx=>AGp ⟨hi',?_⟩)
           · rw [show A.length - i=(A.length - i - 1) + 1 by omega,List.replicate_succ];simp
           · subst hJ
             unfold AZ2
             dsimp only
             refine ATr (fun h2=>?_) (fun h2=>AGp ?_)
             · obtain ⟨x,hx⟩:∃ x,row[j]? =some x:=⟨row[j]'AGh,List.getElem?_eq_getElem _⟩
               have hxr:=hr row (List.mem_of_getElem? hrow) x (List.mem_of_getElem? hx)
               refine ATs (n:=i) (x:=row.take j ++ List.replicate (Af0 A - j) 0) ?_ rfl (ATs hrow rfl (ATs hx rfl (AGt (Q:=(· =x)) ⟨x,if_pos hxr,rfl⟩ fun y hy=>ATs (n:=j) (x:=0) ?_ rfl (AGp ⟨AGh,?_⟩))))
               · rw [List.getElem?_append_right (by simp;omega),List.length_take,Nat.min_eq_left AGh,Nat.sub_self];rfl
               · rw [List.getElem?_append_right (by simp;omega),List.length_take,Nat.min_eq_left AGh,Nat.sub_self,List.getElem?_replicate,if_pos AGh]
               · subst hy
                 rw [wk AGh,AU0,AU0]
                 congr 1
                 rw [List.set_append_right _ _ (by simp;omega),List.length_take,Nat.min_eq_left AGh,Nat.sub_self,List.set_cons_zero]
                 congr 2
                 rw [List.set_append_right _ _ (by simp;omega),List.length_take,Nat.min_eq_left AGh,Nat.sub_self,show Af0 A - j=(Af0 A - (j + 1)) + 1 by omega,List.replicate_succ,List.set_cons_zero,List.take_add_one,hx]
                 simp
             · obtain rfl:j=row.length:=by omega
               rw [List.take_length,show Af0 A - row.length=0 by omega];simp
           · subst hx
             rw [wk AGh,List.take_add_one,hrow,show A.length - (i + 1)=A.length - i - 1 by omega]
             simp
         · obtain rfl:i=A.length:=by omega
           simp
 have:=key (fun r=>r=if okM A then (A,true) else ([],false)) (fun h=>by rw [h];rfl) (fun h=>by rw [h];rfl);unfold AVc at this;exact this
theorem BBs {fuel:Nat} {A:List (List Int)} (hr:∀ z∈A,∀ x∈z,-9223372036854775808<=x/\x<=9223372036854775807) (hf:17 < fuel):AWr fuel A=some (if okM A then A else []):=by
 unfold AWr;rw [Awg hr hf];cases okM A <;> rfl
theorem Awh {z:Int}:AX5 z=0↔z=0:=by
 unfold AX5;split
 ·omega
 ·split <;> omega
theorem Arl {r c i j:Nat} {F:AS4} {x:Int}:sI (tab r c F) (i:Int) (sI (AVk c (F i)) (j:Int) x)=tab r c (AUu F i fun q=>if q=j then x else F i q):=by
 rw [AU0,AU0,AXp];exact A32
theorem Apt {a b D:Nat} (hG:2 * (D * D) < AWv) (ha:a<=D) (hb:b<=D):a * b < AWv:=by
 have:=Nat.mul_le_mul ha hb;omega
theorem A7c {a D:Nat} (hG:2 * (D * D) < AWv) (ha:a<=D):a < AWv:=by
 rcases Nat.eq_zero_or_pos D with h | h
 ·subst h;have:0 < AWv:=by decide
  omega
 ·have h2:=Nat.mul_le_mul h (Nat.le_refl D);omega
theorem Apa {fuel D:Nat} {a b:Int} (hG:2 * (D * D) < AWv) (ha:a.natAbs<=D) (hb:b.natAbs<=D):Ajg fuel a b=some (a * b):=if_pos (Apt hG ha hb)
theorem As5 {D:Nat} {a b:Int} (hG:2 * (D * D) < AWv) (ha:a.natAbs<=D) (hb:b.natAbs<=D):(a * b).natAbs < AWv:=by rw [Int.natAbs_mul];exact Apt hG ha hb
theorem A4g {D:Nat} {a b c d:Int} (hG:2 * (D * D) < AWv) (ha:a.natAbs<=D) (hb:b.natAbs<=D) (hc:c.natAbs<=D) (hd:d.natAbs<=D):(a * b - c * d).natAbs < AWv:=by
 have h1:=Nat.mul_le_mul ha hb;have h2:=Nat.mul_le_mul hc hd;rw [<- Int.natAbs_mul] at h1 h2;omega
theorem A7d {fuel n M N:Nat} {F:AS4} (hM:1<=M) (hG:2 * (dBd M (N + 1) * dBd M (N + 1)) < AWv) (hnN:n<=N) (hn:n<=16) (hb:∀ i j,(F i j).natAbs<=M) (hf:17 < fuel):AUj fuel (tab n n F)=some (det n F):=by
 apply ok_eq;unfold AUj;refine AGt (AUc (Azr (by rw [AT5];omega) (fun z hz=>by rw [An3 z hz];omega) (by rw [AT5];omega))) fun A hA=>?_;subst hA;refine AGt (Q:=(· =1)) ⟨1,if_pos AGh,rfl⟩ fun one h1=>?_;subst h1;have hD:dBd M n<=dBd M (N + 1):=Aiq hM AGh;have Ap:dBd M (n + 1)<=dBd M (N + 1):=Aiq hM AGh;refine AGt (AUa (fun k s=> ∃ G last neg,s=(neg,((k:Int),tab n n G,last))/\Ao9 M F n k G last neg) n (Q:=fun ex=>match ex with | .inl e=>e=det n F | .inr (neg,last)=>det n F=if neg then -last else last) ⟨F,1,false,rfl,Ax8 hb⟩ AGh fun k s hk hI=>?_) fun ex hex=>?_
 ·obtain ⟨G,last,neg,rfl,hB⟩:=hI;unfold AYx;dsimp only;rw [AT5];refine ATr (fun h=>?_) (fun h=>AGp ?_)
  ·have hk':k < n:=by omega
   refine AGt (Q:=fun ex=>match ex with | .inl e=>e=det n F | .inr (neg',a',last')=> ∃ G',a'=tab n n G'/\Ao9 M F n (k + 1) G' last' neg') ?_ fun ex hex=>?_
   ·refine AGt (Q:=fun (e:Int)=> ∃ p:Nat,e=p/\k<=p/\p<=n/\(∀ i,k<=i->i < p->G i k=0)/\(p < n->G p k≠0)) (AGt (AUa (fun j (s:Int)=>s=((k + j:Nat):Int)/\k + j<=n/\ ∀ i,k<=i->i < k + j->G i k=0) (n - k) (Q:=fun (e:Int)=> ∃ p:Nat,e=p/\k<=p/\p<=n/\(∀ i,k<=i->i < p->G i k=0)/\(p < n->G p k≠0)) ⟨rfl,AGh,fun i h1 h2=>by omega⟩ AGh fun j s hj hJ=>?_) fun e he=>AGp he) fun e he=>?_
    ·obtain ⟨rfl,hjn,hz⟩:=hJ;unfold AYu;rw [AT5];refine AGt (Q:=fun ex=>match ex with | .inl _=>k + j < n/\G (k + j) k=0 | .inr _=>k + j < n->G (k + j) k≠0) (ATr (fun h2=>ATs (AT7 AGh) rfl (ATs (ATv AGh) rfl (AGt (AUc (a:=AX5 (G (k + j) k)) rfl) fun sg hsg=>ATr (fun h3=>AGp ⟨AGh,?_⟩) fun h3=>AGp fun _=>?_))) fun h2=>AGp fun h3=>by omega) fun ex hex=>?_
     ·subst hsg;exact Awh.1 h3
     ·subst hsg;exact fun h4=>h3 (Awh.2 h4)
     ·cases ex with
      | inl u=>exact AGp ⟨AGh,by rw [wk AGh];omega,AGh,fun i h1 h2=>by
          rcases Nat.lt_or_ge i (k + j) with h3 | h3
          · exact hz i h1 h3
          · obtain rfl:i=k + j:=by omega
            exact hex.2⟩
      | inr u=>exact AGp ⟨k + j,rfl,AGh,hjn,hz,hex⟩
    ·obtain ⟨p,rfl,hkp,hpn,hz,hp⟩:=he;refine ATr (fun h2=>AGp ?_) (fun h2=>?_)
     ·obtain rfl:p=n:=by omega
      exact (A1g hB hk' hz).symm
     ·have hp':p < n:=by omega
      refine AGt (Q:=fun (r:Bool × List (List Int))=> ∃ G',r.2=tab n n G'/\Ao9 M F n k G' last r.1/\G' k k≠0) (ATr (fun h3=>ATs (AT7 AGh) rfl (ATs (AT7 AGh) rfl (AGp ⟨AXw G p k,?_,A1e hB AGh hp',?_⟩))) fun h3=>AGp ⟨G,rfl,hB,?_⟩) fun r hr=>?_
      ·dsimp only;rw [AU0,AU0];show ((tab n n G).set p (AVk n (G k))).set k (AVk n (G p))=_;rw [show AVk n (G k)=(List.range n).map (G k) from rfl,show AVk n (G p)=(List.range n).map (G p) from rfl,Aec,Aec];rfl
      ·rw [Aeq,if_pos rfl];exact hp hp'
      ·obtain rfl:p=k:=by omega
       exact hp hp'
      ·obtain ⟨Aq,a2⟩:=r;obtain ⟨G2,Ag,Af,hne⟩:=hr;dsimp only at Ag Af ⊢;subst Ag;have hlast:=A1h hM Af AGh;have habs:∀ i j,k<=i->i < n->k<=j->j < n->(G2 i j).natAbs<=dBd M (N + 1):=fun i j h1 h2 h3 h4=>Nat.le_trans (A4f hM Af hk' h1 h2 h3 h4).1 hD;have hl':last.natAbs<=dBd M (N + 1):=Nat.le_trans hlast.2 hD;rw [wk AGh];refine AGt (AUa (fun i s=>s=(((k + 1 + i:Nat):Int),tab n n (bF k G2 last (k + 1 + i) (k + 1)))/\k + 1 + i<=n) (n - (k + 1)) (Q:=(· =tab n n (bF k G2 last n (k + 1)))) ⟨by rw [Nat.add_zero,Awe];simp,AGh⟩ AGh fun i s hi hI=>?_) fun a3 Ah=>?_
       ·obtain ⟨rfl,hin⟩:=hI;unfold AYw;dsimp only;rw [AT5];obtain ⟨q,hq⟩:∃ q,k + 1 + i=q:=⟨_,rfl⟩;rw [hq] at hin ⊢;refine ATr (fun h3=>?_) (fun h3=>AGp ?_)
        ·have hqn:q < n:=by omega
         rw [wk AGh];refine AGt (AUa (fun j s=>s=(((k + 1 + j:Nat):Int),tab n n (bF k G2 last q (k + 1 + j)))/\k + 1 + j<=n) (n - (k + 1)) (Q:=(· =tab n n (bF k G2 last q n))) ⟨ATw,AGh⟩ AGh fun j s hj hJ=>?_) fun a4 Ai=>AGp ?_
         ·obtain ⟨rfl,hjn⟩:=hJ;unfold AYv;dsimp only;rw [AT5];obtain ⟨c,hc⟩:∃ c,k + 1 + j=c:=⟨_,rfl⟩;rw [hc] at hjn ⊢;refine ATr (fun h4=>?_) (fun h4=>AGp ?_)
          ·have hcn:c < n:=by omega
           refine ATs (AT7 hqn) rfl (ATs (AT7 hk') rfl (ATs (ATv hk') rfl (ATs (ATv hcn) rfl ?_)));rw [Azq,A8r];refine AGt (AUc (Apa hG (habs _ _ AGh AGh AGh AGh) (habs _ _ AGh AGh AGh AGh))) fun x1 Aj=>ATs (ATv hk') rfl (ATs (ATv hcn) rfl ?_);subst Aj;rw [A8q,Azq];refine AGt (AUc (Apa hG (habs _ _ AGh AGh AGh AGh) (habs _ _ AGh AGh AGh AGh))) fun x2 Ak=>?_;subst Ak;refine AGt (Q:=(· =G2 k k * G2 q c - G2 q k * G2 k c)) ⟨_,if_pos ⟨As5 hG (habs _ _ AGh AGh AGh AGh) (habs _ _ AGh AGh AGh AGh),As5 hG (habs _ _ AGh AGh AGh AGh) (habs _ _ AGh AGh AGh AGh)⟩,rfl⟩ fun x3 Am=>?_
           ·subst Am;refine AGt (Q:=(· =bQ k G2 last q c)) ?_ fun x4 Ao=>AGp ⟨AGh,?_,AGh⟩
            ·unfold AVr Aod;rw [if_pos ⟨A4g hG (habs _ _ AGh AGh AGh AGh) (habs _ _ AGh AGh AGh AGh) (habs _ _ AGh AGh AGh AGh) (habs _ _ AGh AGh AGh AGh),A7c hG hl',hlast.1⟩];exact ⟨_,rfl,rfl⟩
            ·subst Ao;rw [wk AGh,Arl,A4d k G2 last AGh AGh];congr 1
             ·omega
             ·rw [<- Nat.add_assoc,hc]
          ·obtain rfl:c=n:=by omega
           rfl
         ·subst Ai;refine ⟨AGh,?_,AGh⟩;rw [wk AGh];congr 1
          ·omega
          ·refine Afk fun r c hr hc=>?_;rw [A4c k n G2 last q hc,<- Nat.add_assoc,hq]
        ·obtain rfl:q=n:=by omega
         rfl
       ·subst Ah;refine ATs (AT7 hk') rfl (ATs (ATv hk') rfl (AGp ⟨_,rfl,?_⟩));rw [Azq];exact A1f Af hk' hne
   ·match ex,hex with
    | .inl e,hex=>exact AGp hex
    | .inr (neg',a',last'),hex=>
      obtain ⟨G',rfl,hB'⟩:=hex
      exact AGp ⟨hk',G',last',neg',by rw [wk AGh];rfl,hB'⟩
  ·obtain rfl:k=n:=by omega
   exact A4e hB
 ·match ex,hex with
  | .inl e,hex=>exact AGp hex
  | .inr (neg,last),hex=>
    dsimp only at hex ⊢
    rw [hex]
    refine ATr (fun h=>AGt (AUc (a:= -last) rfl) fun x hx=>AGp ?_) (fun h=>AGp ?_)
    · rw [hx,h];rfl
    · rw [if_neg h]
def AYy:Nat:=2 ^ 100
theorem Azs:2 * (dBd AYy (8 + 1) * dBd AYy (8 + 1)) < AWv:=by decide
theorem Aoe {fuel n:Nat} {F:AS4} (hn:n<=8) (hb:∀ i j,i < n->j < n->(F i j).natAbs<=AYy) (hf:17 < fuel):AUj fuel (tab n n F)=some (det n F):=by
 have e1:tab n n F=tab n n fun i j=>if i < n/\j < n then F i j else 0:=by
   rw [Ahd,Ahd]
   exact AUd fun i hi=>AUd fun j hj=>by rw [if_pos ⟨hi,hj⟩]
 have e2:det n F=det n fun i j=>if i < n/\j < n then F i j else 0:=AUp fun i j hi hj=>by rw [if_pos ⟨hi,hj⟩]
 rw [e1,e2];refine A7d AGj Azs hn AGh (fun i j=>?_) hf;split
 ·next h=>exact hb i j h.1 h.2
 ·exact Nat.zero_le _
theorem A7e:FdT Tryz.prog 24 0 0 5:=⟨_,_,Tryz.underlying24,rfl,rfl,rfl⟩
theorem A7f:FdT Tryz.prog 24 1 1 5:=⟨_,_,Tryz.underlying24,rfl,rfl,rfl⟩
theorem A7g:FdT Tryz.prog 24 2 2 22:=⟨_,_,Tryz.underlying24,rfl,rfl,rfl⟩
theorem A4h:AgT Tryz.prog 24 4:=Anj Tryz.underlying24 rfl AGv
end Go.Proofs.YthbndcbclhkepaaGreatDoor
namespace Go.Proofs.YthbndcbclhkepaaGreatDoor
open Go Go.QF
set_option maxRecDepth 100000
set_option maxHeartbeats 4000000
def AWz (fuel:Nat) (a1:Int) (a5:LiA) (Ac Aa Ad:Int) (Ae:LiI):Option ((Int × Int × LiI) ⊕ ((Int × LiI))):=
  (if Aa < ((List.replicate (Int.toNat (w64 (1 + (Int.tmod (w64 a1) Ac)))) ([]:List Int)).length:Int) then (if 0<=(w64 (1 + (Int.tmod (w64 a1) Ac)))/\(w64 (1 + (Int.tmod (w64 a1) Ac)))<=100000000 then ((gI Ae Aa).bind fun Ao=>((gI (sI Ae Aa (List.replicate (Int.toNat (w64 (1 + (Int.tmod (w64 a1) Ac)))) (0:Int))) Aa).bind fun Ag=>(((((if (a5.length:Int)<=Ad then (some ( (0,Ad))) else ((gI a5 (w64 ((w64 (Ad + 1)) - 1))).bind fun Ah=>(some ( ((w64 Ah),(w64 (Ad + 1))))))):Option (Int × Int)).bind fun (Ai,Aj)=>(some ( ((Int.tmod (w64 (IntKind.wrap .u8 Ai)) 6),Aj)))):Option (Int × Int)).bind fun (Ak,Am)=>((gI Ag Aa).bind fun Ap=>(some (Sum.inl ((w64 (Aa + 1)),Am,(sI (sI Ae Aa (List.replicate (Int.toNat (w64 (1 + (Int.tmod (w64 a1) Ac)))) (0:Int))) Aa (sI Ag Aa (w64 (1 + Ak))))))))))) else none) else (some (Sum.inr<| (Ad,Ae))))
def AYz (fuel:Nat) (a5:LiA) (Ab Aa Ac:Int) (Ad:LiI):Option ((Int × Int × LiI) ⊕ ((Int × LiI))):=
  (if Aa < Ab then ((gI Ad Ab).bind fun Ae=>(((if (a5.length:Int)<=Ac then (some ( (0,Ac))) else ((gI a5 (w64 ((w64 (Ac + 1)) - 1))).bind fun Ai=>(some ( ((w64 Ai),(w64 (Ac + 1))))))):Option (Int × Int)).bind fun (Af,Aj)=>((gI Ae Aa).bind fun Ao=>((gI (sI Ad Ab (sI Ae Aa (Int.tmod Af 3))) Aa).bind fun Ah=>((gI (sI Ad Ab (sI Ae Aa (Int.tmod Af 3))) Ab).bind fun Ak=>((gI Ak Aa).bind fun Am=>((gI Ah Ab).bind fun Ap=>(some (Sum.inl ((w64 (Aa + 1)),Aj,(sI (sI Ad Ab (sI Ae Aa (Int.tmod Af 3))) Aa (sI Ah Ab Am)))))))))))) else (some (Sum.inr<| (Ac,Ad))))
def AW0 (fuel:Nat) (a5:LiA) (Ae:LiI) (Aa Ab:Int) (Ac:LiI):Option ((Int × Int × LiI) ⊕ ((Int × LiI))):=
  (if Aa < (Ae.length:Int) then ((iter (fun s=>AYz fuel a5 Aa s.1 s.2.1 s.2.2) fuel (0,Ab,Ac)).bind (fun ((Af,Ag):Int × LiI)=>(some (Sum.inl ((w64 (Aa + 1)),Af,Ag))))) else (some (Sum.inr<| (Ab,Ac))))
def AWl (fuel:Nat) (a1:Int) (a5:LiA) (Ac Aa Ad:Int) (Ae:LiI):Option ((Int × Int × LiI) ⊕ ((Int × LiI))):=
  (if Aa < ((List.replicate (Int.toNat (w64 (1 + (Int.tmod (w64 a1) Ac)))) ([]:List Int)).length:Int) then (if 0<=(w64 (1 + (Int.tmod (w64 a1) Ac)))/\(w64 (1 + (Int.tmod (w64 a1) Ac)))<=100000000 then ((gI Ae Aa).bind fun Ao=>((gI (sI Ae Aa (List.replicate (Int.toNat (w64 (1 + (Int.tmod (w64 a1) Ac)))) (0:Int))) Aa).bind fun Ag=>(((((if (a5.length:Int)<=Ad then (some ( (0,Ad))) else ((gI a5 (w64 ((w64 (Ad + 1)) - 1))).bind fun Ah=>(some ( ((w64 Ah),(w64 (Ad + 1))))))):Option (Int × Int)).bind fun (Ai,Aj)=>(some ( ((Int.tmod (w64 (IntKind.wrap .u8 Ai)) 9),Aj)))):Option (Int × Int)).bind fun (Ak,Am)=>((gI Ag Aa).bind fun Ap=>(some (Sum.inl ((w64 (Aa + 1)),Am,(sI (sI Ae Aa (List.replicate (Int.toNat (w64 (1 + (Int.tmod (w64 a1) Ac)))) (0:Int))) Aa (sI Ag Aa (w64 (1 + Ak))))))))))) else none) else (some (Sum.inr<| (Ad,Ae))))
def AWm (fuel:Nat) (a1:Int) (a5:LiA) (Ac Aa Ad:Int) (Ae:LiI):Option ((Int × Int × LiI) ⊕ ((Int × LiI))):=
  (if Aa < ((List.replicate (Int.toNat (w64 (1 + (Int.tmod (w64 a1) Ac)))) ([]:List Int)).length:Int) then (if 0<=(w64 (1 + (Int.tmod (w64 a1) Ac)))/\(w64 (1 + (Int.tmod (w64 a1) Ac)))<=100000000 then ((gI Ae Aa).bind fun Ao=>((gI (sI Ae Aa (List.replicate (Int.toNat (w64 (1 + (Int.tmod (w64 a1) Ac)))) (0:Int))) Aa).bind fun Ag=>(((((if (a5.length:Int)<=Ad then (some ( (0,Ad))) else ((gI a5 (w64 ((w64 (Ad + 1)) - 1))).bind fun Ah=>(some ( ((w64 Ah),(w64 (Ad + 1))))))):Option (Int × Int)).bind fun (Ai,Aj)=>(some ( ((Int.tmod (w64 (IntKind.wrap .u8 Ai)) 1),Aj)))):Option (Int × Int)).bind fun (Ak,Am)=>((gI Ag Aa).bind fun Ap=>(some (Sum.inl ((w64 (Aa + 1)),Am,(sI (sI Ae Aa (List.replicate (Int.toNat (w64 (1 + (Int.tmod (w64 a1) Ac)))) (0:Int))) Aa (sI Ag Aa (w64 (1 + Ak))))))))))) else none) else (some (Sum.inr<| (Ad,Ae))))
def AWn (fuel:Nat) (a1:Int) (a5:LiA) (Ac Aa Ad:Int) (Ae:LiI):Option ((Int × Int × LiI) ⊕ ((Int × LiI))):=
  (if Aa < ((List.replicate (Int.toNat (w64 (1 + (Int.tmod (w64 a1) Ac)))) ([]:List Int)).length:Int) then (if 0<=(w64 (1 + (Int.tmod (w64 a1) Ac)))/\(w64 (1 + (Int.tmod (w64 a1) Ac)))<=100000000 then ((gI Ae Aa).bind fun Ao=>((gI (sI Ae Aa (List.replicate (Int.toNat (w64 (1 + (Int.tmod (w64 a1) Ac)))) (0:Int))) Aa).bind fun Ag=>(((((if (a5.length:Int)<=Ad then (some ( (0,Ad))) else ((gI a5 (w64 ((w64 (Ad + 1)) - 1))).bind fun Ah=>(some ( ((w64 Ah),(w64 (Ad + 1))))))):Option (Int × Int)).bind fun (Ai,Aj)=>(some ( ((Int.tmod (w64 (IntKind.wrap .u8 Ai)) 2),Aj)))):Option (Int × Int)).bind fun (Ak,Am)=>((gI Ag Aa).bind fun Ap=>(some (Sum.inl ((w64 (Aa + 1)),Am,(sI (sI Ae Aa (List.replicate (Int.toNat (w64 (1 + (Int.tmod (w64 a1) Ac)))) (0:Int))) Aa (sI Ag Aa (w64 (1 + Ak))))))))))) else none) else (some (Sum.inr<| (Ad,Ae))))
def AWg (fuel:Nat) (a1 a2:Int) (a5 a9:LiA) (Aa:Int):Option LiI:=
  (if Aa≠0 then (((((if (Int.tmod a2 8)=0 then (some ( (decide ((Int.tmod a2 8)=0)))) else (if (Int.tmod a2 8)=1 then (some ( (decide ((Int.tmod a2 8)=1)))) else (if (Int.tmod a2 8)=2 then (some ( (decide ((Int.tmod a2 8)=2)))) else (some ( (decide ((Int.tmod a2 8)=3))))))):Option ((Bool))).bind (fun (Ak:Bool)=>(if Ak=true then (((((if 0<=(w64 (1 + (Int.tmod (w64 a1) Aa)))/\(w64 (1 + (Int.tmod (w64 a1) Aa)))<=100000000 then ((iter (fun s=>AWz fuel a1 a5 Aa s.1 s.2.1 s.2.2) fuel (0,0,(List.replicate (Int.toNat (w64 (1 + (Int.tmod (w64 a1) Aa)))) ([]:List Int)))).bind (fun ((Am,Ao):Int × LiI)=>(some ( (Ao,Am))))) else none):Option (LiI × Int)).bind fun (Ae,Ap)=>((iter (fun s=>AW0 fuel a5 Ae s.1 s.2.1 s.2.2) fuel (0,Ap,Ae)).bind (fun ((Aq,Ar):Int × LiI)=>(some ( (Ar,Aq)))))):Option (LiI × Int)).bind fun (Au,Av)=>(some ( (Au,Av)))) else (if (Int.tmod a2 8)=4 then ((AX0 fuel (w64 (1 + (Int.tmod (w64 a1) Aa))) false).bind fun Af=>((gI Af 0).bind fun Ag=>((gI Ag 0).bind fun Aw=>(((((if (a5.length:Int)<=0 then (some ( (0,0))) else ((gI a5 (w64 ((w64 (0 + 1)) - 1))).bind fun Ax=>(some ( ((w64 Ax),(w64 (0 + 1))))))):Option (Int × Int)).bind fun (Ay,Az)=>(some ( ((Int.tmod (w64 (IntKind.wrap .u8 Ay)) 3),Az)))):Option (Int × Int)).bind fun (A3,A4)=>(some ( ((sI Af 0 (sI Ag 0 (w64 (Aw + A3)))),A4))))))) else (if (Int.tmod a2 8)=5 then ((AX0 fuel (w64 (1 + (Int.tmod (w64 a1) Aa))) true).bind fun Ah=>((gI Ah (w64 ((w64 (1 + (Int.tmod (w64 a1) Aa))) - 1))).bind fun Ai=>((gI Ai (w64 ((w64 (1 + (Int.tmod (w64 a1) Aa))) - 1))).bind fun A5=>(((((if (a5.length:Int)<=0 then (some ( (0,0))) else ((gI a5 (w64 ((w64 (0 + 1)) - 1))).bind fun A6=>(some ( ((w64 A6),(w64 (0 + 1))))))):Option (Int × Int)).bind fun (A7,A8)=>(some ( ((Int.tmod (w64 (IntKind.wrap .u8 A7)) 2),A8)))):Option (Int × Int)).bind fun (A9,Ba)=>(some ( ((sI Ah (w64 ((w64 (1 + (Int.tmod (w64 a1) Aa))) - 1)) (sI Ai (w64 ((w64 (1 + (Int.tmod (w64 a1) Aa))) - 1)) (w64 (A5 + A9)))),Ba))))))) else (if (Int.tmod a2 8)=6 then (((if 0<=(w64 (1 + (Int.tmod (w64 a1) Aa)))/\(w64 (1 + (Int.tmod (w64 a1) Aa)))<=100000000 then ((iter (fun s=>AWl fuel a1 a5 Aa s.1 s.2.1 s.2.2) fuel (0,0,(List.replicate (Int.toNat (w64 (1 + (Int.tmod (w64 a1) Aa)))) ([]:List Int)))).bind (fun ((Bb,Bc):Int × LiI)=>(some ( (Bc,Bb))))) else none):Option (LiI × Int)).bind fun (Be,Bf)=>(some ( (Be,Bf)))) else (((if 0<=(w64 (1 + (Int.tmod (w64 a1) Aa)))/\(w64 (1 + (Int.tmod (w64 a1) Aa)))<=100000000 then ((iter (fun s=>AWm fuel a1 a5 Aa s.1 s.2.1 s.2.2) fuel (0,0,(List.replicate (Int.toNat (w64 (1 + (Int.tmod (w64 a1) Aa)))) ([]:List Int)))).bind (fun ((Bg,Bh):Int × LiI)=>(some ( (Bh,Bg))))) else none):Option (LiI × Int)).bind fun (Bi,Bj)=>(some ( (Bi,Bj)))))))))):Option ((LiI × Int))).bind (fun ((Aj,Bl):LiI × Int)=>((AZy fuel Aj).bind fun Bm=>(if (!Bm)=true then (((if 0<=(w64 (1 + (Int.tmod (w64 a1) Aa)))/\(w64 (1 + (Int.tmod (w64 a1) Aa)))<=100000000 then ((iter (fun s=>AWn fuel a1 a5 Aa s.1 s.2.1 s.2.2) fuel (0,Bl,(List.replicate (Int.toNat (w64 (1 + (Int.tmod (w64 a1) Aa)))) ([]:List Int)))).bind (fun ((Bn,Bo):Int × LiI)=>(some ( (Bo,Bn))))) else none):Option (LiI × Int)).bind fun (Bp,Br)=>(some Bp)) else (some Aj))))) else none)
theorem Ag1 {fuel:Nat} {h:AGs} {a1 a2:Int} {Ab:Value} {a5:LiA} {B6:Value} {a9:LiA} {Am:Int} {r:LiI} (H4:SlC (cI .i8) h Ab a5) (H8:SlC (cI .i8) h B6 a9) (hp:AWg fuel a1 a2 a5 a9 Am=some r):ATt Tryz.prog 24 #[(.agg #[(.int .u8 a1),(.int .u8 a2),Ab,B6]),(.int .i64 Am)] h (fun x h'=>Ext h h'/\ ∃ (x0:Value) (F0:List Nat) (Hf:List LnA) (Hg:List Value),x=x0/\AVo (cI .i64) 49 2 h' F0 Hf Hg x0 r/\Sp h' h.size [F0]):=by
 unfold AWg at hp;refine cwf (l:=[_,_]) Tryz.func24 rfl rfl (AGl (AYn (Kst.k0 h) [(.int .u8 a1),(.int .u8 a2),Ab,B6] fun Tt Tu Tv B7=>ATx (AUv A7g Aie (B7.b p0) 2 rfl ?_)));obtain ⟨_,_,_,Hh⟩:=(H4.ext B7.x).shape;refine AWe (v:=(.agg #[Ab,(.int .i64 0)])) (fun _=>by subst Hh;kernel_rfl) (AYn B7 [Ab,(.int .i64 0)] fun Aa Tw Tx Ax=>ATx (AUv A7e A8i (Ax.b p1) 0 rfl (Aea Aj3 Akr rfl (AGi ?_))));obtain ⟨Hj,Hk⟩:=ifN hp;refine Afj rfl rfl Hj (ATj rfl rfl (ATx (AGw ?_)));obtain ⟨Hl,Hm,Dy⟩:=AGm Hk;refine Aey 147573952589676150912 (fun x:(LiI) × (Value) × LnA × LnN × LvA × (Int)=>[(7,x.2.1)]) (fun x h'=>( (x.1,x.2.2.2.2.2))=Hl/\Kst h h' (aO2 (cI .i64) 49 2 x.2.2.1 x.2.2.2.1 x.2.2.2.2.1 x.2.1 x.1 :: ((AYk Ax.L [0]).set 0 (aB 109 Aa [Ab,(.int .i64 x.2.2.2.2.2)])))) ?_ ?_
 ·refine AGl (AUv A7f A8i (Ax.b p1) 1 rfl (Afj rfl rfl AGj (AGq (AGo ?_))));obtain ⟨Hn,Dz,B8⟩:=AGm Hm;refine Aey 520093696 (fun x:(Bool)=>[(24,(.bool x))]) (fun x h'=>( x)=Hn/\Kst h h' (AYk Ax.L [0])) ?_ ?_
  ·refine AGl (AV2 rfl rfl (AGw (⟨_,rfl,fun B9=>?_,fun B9=>?_⟩)))
   ·refine AGx (q_t ?_);exact ⟨((decide ((Int.tmod a2 8)=0)):(Bool)),⟨AGk (AT0 Dz B9),Ax.sel [0] AGj⟩,rfl,trivial⟩
   ·refine AGl (AV2 rfl rfl (AGw ?_));have D0:=AT1 Dz B9;refine ⟨_,rfl,fun Ca=>?_,fun Ca=>?_⟩
    ·refine AGx (q_t ?_);exact ⟨((decide ((Int.tmod a2 8)=1)):(Bool)),⟨AGk (AT0 D0 Ca),Ax.sel [0] AGj⟩,rfl,trivial⟩
    ·refine AGl (AV2 rfl rfl (AGw ?_));have D1:=AT1 D0 Ca;refine ⟨_,rfl,fun Cb=>?_,fun Cb=>?_⟩
     ·refine AGx (q_t ?_);exact ⟨((decide ((Int.tmod a2 8)=2)):(Bool)),⟨AGk (AT0 D1 Cb),Ax.sel [0] AGj⟩,rfl,trivial⟩
     ·refine AS3 (AV2 rfl rfl (AGw ?_));exact ⟨((decide ((Int.tmod a2 8)=3)):(Bool)),⟨AGk (AT1 D1 Cb),Ax.sel [0] AGj⟩,rfl,trivial⟩
  rintro Ho Hq Hr ⟨Hs,Ao⟩;(try dsimp only [Kst.L,List.set,AYk,Abf] at Ao);refine (show W _ _ _ (setL [(24,(.bool Ho))] (mix _ Hq _)) Hr from ?_);subst Hs;(try dsimp only at B8);refine ⟨_,rfl,fun Cd=>?_,fun Cd=>?_⟩
  ·refine AS3 (AGi (AGi ?_));obtain ⟨Ht,Hu,D2⟩:=AGm (ifT B8 Cd);refine ATc (K':=(fun xr h'=> ∃ x:(LiI) × (Value) × LnA × LnN × LvA × (Int),(x.1,x.2.2.2.2.2)=Ht/\xr=x.2.1/\Kst h h' (aO2 (cI .i64) 49 2 x.2.2.1 x.2.2.2.1 x.2.2.2.2.1 x.2.1 x.1 :: (Ao.L.set 0 (aB 109 Aa [Ab,(.int .i64 x.2.2.2.2.2)]))))) trivial rfl ?_ fun D3 Ty Hv=>?_
   ·refine cwf (l:=[_,_]) Tryz.func59 rfl rfl (AGl (ATx (AGi (AGi ?_))));obtain ⟨Hw,Hx,D4⟩:=AGm Hu;refine ATc (K':=(fun xr h'=> ∃ x:(LiI) × (Value) × LnA × LnN × LvA × (Int),(x.1,x.2.2.2.2.2)=Hw/\xr=x.2.1/\Kst h h' (aO2 (cI .i64) 49 2 x.2.2.1 x.2.2.2.1 x.2.2.2.2.1 x.2.1 x.1 :: (Ao.L.set 0 (aB 109 Aa [Ab,(.int .i64 x.2.2.2.2.2)]))))) trivial rfl ?_ fun Ba Tz Hy=>?_
    ·refine cwf (l:=[_,_,_]) Tryz.func62 rfl rfl (AGl (ATx (AGi ?_)));obtain ⟨Hz,Ia⟩:=ifN Hx;refine Ajd (cI .i64) 2 AS8 Aez rfl trivial tt2 rfl rfl AGj Hz fun Ib Ic Id D5 T0 Ie If Ih=>AGw (AGn (AGl (AGi ?_)));have Ce:=Ao.no2 If Ih Ie;refine AT3 AS8 rfl (Ce.o2 p0).rd (AGi (AGq (AGo (AX3 4294959360 (fun x:(Int) × (Int) × (LiI) × LnA × LnN × LvA=>(x.1,x.2.1,x.2.2.1)) ((0,0,(List.replicate (Int.toNat (w64 (1 + (Int.tmod (w64 a1) Am)))) ([]:List Int)),Ib,Ic,Id):(Int) × (Int) × (LiI) × LnA × LnN × LvA) Ia (fun x=>[(13,(.int .i64 x.1))]) (fun x=>(Ce.L.set 0 (aO2 (cI .i64) 49 2 x.2.2.2.1 x.2.2.2.2.1 x.2.2.2.2.2 D5 x.2.2.1)).set 1 (aB 109 Aa [Ab,(.int .i64 x.2.1)])) Ce ⟨rfl,trivial⟩ ?_))));rintro ⟨Cf,Bb,Ii,Ij,Ik,Il⟩ Im Io T3 Cg Bc Ip;(try dsimp only [Kst.L,List.set,AYk,Abf] at Cg);refine (show W _ _ _ (setL [(13,(.int .i64 Cf))] (mix _ Im _)) Io from ?_);(try dsimp only at Bc);unfold AWz at Bc;refine AGl (ATm rfl rfl (AGq (AGn (⟨_,rfl,fun Ch=>?_,fun Ch=>?_⟩))))
     ·refine AGx (q_t (AGn (AGo (AGl (AGi (ATx (AGi (AGi (AGi ?_)))))))));obtain ⟨Iq,Ir⟩:=ifN (AT0 Bc Ch);refine Aii (c:=(cI .i64)) (a:=0) AS7 Ace rfl rfl (fun _=>rfl) rfl trivial tt2 rfl rfl AGj Iq fun T4 T5 T6 Is It Iu Iv=>?_;have A3:=Cg.no It (AXv Iu Iv) Is;obtain ⟨T7,D6,Iw⟩:=AGm Ir;refine AVd AS8 rfl (A3.o2 p1) rfl D6 fun T8 T9 Ix Ua Ub=>Ajc ATk (A3.o2 p1) D6 Ix rfl rfl (A3.o p0) (A3.dj p0 p1 AGj) fun Ap Iy Iz I0=>AGq (AU8 (fun h'=>UpT ([Aa] ++ []) Ap h') AGv ?_);have Af:=A3.m2 p0 p1 AGj Iz Iy (fun z hz=> .inl (I0 z hz));have Ci:UpT ([Aa] ++ []) Ap Ap:=UpT.start (AVj (AX8 (Af.b p2) rfl) all_nil);refine AGi (AGi ?_);obtain ⟨Uc,Cj,I1⟩:=AGm Iw;refine AVd AS8 rfl (Af.o2 p1) rfl Cj fun Ud Ue I2 I3 I5=>AUy ATk rfl Ci (fun h' hb=>Ads I5 hb (Ajs (Af.dj p1 p2 AGj _ (by simp [aO,aO2,I2])) Ajt)) (AGi (AGi (AGi ?_)));obtain ⟨I6,I7,D7⟩:=AGm I1;have I9:UpT ([Aa] ++ []) Ap Ap:=UpT.start (AVj (AX8 (Af.b p2) rfl) all_nil);refine ATc (K':=(fun xr h'=> ∃ x:(Int) × (Int),(x.1,x.2)=I6/\xr=(.int .i64 x.1)/\Kst h h' ((AYk Af.L [1,2]).set 1 (aB 109 Aa [Ab,(.int .i64 x.2)]))/\UpT ([Aa] ++ []) Ap h')) Ci rfl ?_ fun Uf Ug Ja=>?_
      ·refine cwf (l:=[_,_]) Tryz.func61 rfl rfl (AGl (ATx (AGi ?_)));obtain ⟨Jc,D8,D9⟩:=AGm I7;have Ea:UpT ([Aa] ++ []) Ap Ap:=UpT.start (AVj (AX8 (Af.b p2) rfl) all_nil);refine ATc (K':=(fun xr h'=> ∃ x:(Int) × (Int),(x.1,x.2)=Jc/\xr=(.int .i64 x.1)/\Kst h h' ((AYk Af.L [1,2]).set 1 (aB 109 Aa [Ab,(.int .i64 x.2)]))/\UpT ([Aa] ++ []) Ap h')) trivial rfl ?_ fun Uh Ui Je=>?_
       ·refine cwf (l:=[_]) Tryz.func112 rfl rfl (AGl (AGw (AGn (AGn (AXm (AGi (AUq rfl (AVp AVm rfl (ATz AT2 rfl ((Af.b p2).cell (i:=1) rfl) (AGi (AUq rfl (AVp Abr rfl (ATz Aie rfl ((Af.b p2).cell (i:=0) rfl) (AUn Ai8 rfl H4 (Aga rfl rfl (AGq (⟨_,rfl,fun Ck=>?_,fun Ck=>?_⟩)))))))))))))))))
        ·refine AGl (AGw (AGy (ATb (⟨_,AS1,((0,Bb):(Int) × (Int)),?_,rfl,?_,?_⟩))))
         ·exact AGk (AT0 D8 Ck)
         ·exact Af.sel [1,2] AGj
         ·exact Ea
        ·refine AGx (q_t (AGl (AGi (AUq rfl (AVp AVm rfl (ATz AT2 rfl ((Af.b p2).cell (i:=1) rfl) (ATj rfl rfl (AUq rfl (AVp AVm rfl (Agr [Ab,(.int .i64 (w64 (Bb + 1)))] AT2 rfl rfl rfl (Af.b p2) (Nat.le_of_ble_eq_true rfl) rfl fun Uj Eb Ec=>AGq (AGn (AXm (AGi (AUq rfl (AVp Abr rfl ?_)))))))))))))));have Be:=Af.sb p2 Ec Eb rfl;refine ATz Aie rfl ((Be.b p2).cell (i:=0) rfl) (AGi (AUq rfl (AVp AVm rfl (ATz AT2 rfl ((Be.b p2).cell (i:=1) rfl) (AVe rfl rfl ?_)))));obtain ⟨Jf,Jg,Jh⟩:=AGm (AT1 D8 Ck);refine Ac0 (c:=(cI .i8)) Ai8 rfl H4 rfl Jg fun Uk Ul Um Ji Jj=>?_;obtain rfl:=Ji;refine ATz Aqu rfl (ATl (Jj 0 _ rfl) Be.x) (Aea Aqv Ac3 rfl (AGw (AGy (⟨_,AS1,(((w64 Jf),(w64 (Bb + 1))):(Int) × (Int)),?_,rfl,?_,?_⟩))))
         ·exact AGk Jh
         ·exact Be.sel [1,2] AGj
         ·exact (Ea.then (Eb.stA Ec (AX8 (Af.b p2) rfl) rfl) (Aeu rfl))
       obtain ⟨⟨Jk,Jl⟩,Jm,rfl,Ed,Jn⟩:=Je;(try dsimp only [Kst.L,List.set,AYk,Abf] at Ed);refine ⟨trivial,?_⟩;subst Jm;(try dsimp only at D9);refine Aea Ac3 Aj3 rfl (Aea Aj3 Akr rfl (AGi (Afj rfl rfl AGj (AGw (AGy (⟨_,AS1,(((Int.tmod (w64 (IntKind.wrap .u8 Jk)) 6),Jl):(Int) × (Int)),?_,rfl,?_,?_⟩))))))
       ·exact AGk D9
       ·exact Ed
       ·exact (I9.then Jn (AVj (Aeu rfl) all_nil))
      obtain ⟨⟨Jo,Un⟩,Jp,rfl,Cm,Jq⟩:=Ja;(try dsimp only [Kst.L,List.set,AYk,Abf] at Cm);refine ⟨(Ci.then Jq (AVj (Aeu rfl) all_nil)),?_⟩;subst Jp;(try dsimp only at D7);refine ATj rfl rfl ?_;obtain ⟨Uo,Ee,Jr⟩:=AGm D7;refine AWc (m:=Cf) AS7 rfl (Af.o2 p1) I3 Cj rfl Ee fun Up Js=>Ac8 (m:=Cf) (Ac7 ATd rfl rfl rfl) (Cm.o2 p0) Js Cj Ee (show ((cI .i64)).rep _ (w64 (1 + Jo)) _ from rfl) fun Uq Jt Ju=>ATf (q_b (q_t (AS3 (ATj rfl rfl (AGi (AGq ?_))))));exact ⟨(_,_,_,_,_,_),(AGk Jr).symm,(Cm.uO2 p0 Ju Jt),rfl,trivial⟩
     ·have Ef:=Ip _ (AGk (AT1 Bc Ch)).symm;(try dsimp only at Ef);refine AS9 (ATa (ATa (AT9 (q_t (AGl (AGi (AGw (AGy (⟨_,AS1,((Ii,D5,Ij,Ik,Il,Bb):(LiI) × (Value) × LnA × LnN × LvA × (Int)),?_,rfl,?_⟩)))))))))
      ·exact AGk Ef
      ·exact Cg
    obtain ⟨⟨Jv,Ba,Jw,Jx,Jy,Jz⟩,J0,rfl,Bf⟩:=Hy;(try dsimp only [Kst.L,List.set,AYk,Abf] at Bf);refine ⟨trivial,?_⟩;subst J0;(try dsimp only at D4);refine AGw (AGn (AGl (AGi (AT3 AS8 rfl (Bf.o2 p0).rd (AGi (AGq (AGo (AX3 17592186036416 (fun x:(Int) × (Int) × (LiI) × LnA × LnN × LvA=>(x.1,x.2.1,x.2.2.1)) ((0,Jz,Jv,Jw,Jx,Jy):(Int) × (Int) × (LiI) × LnA × LnN × LvA) D4 (fun x=>[(13,(.int .i64 x.1))]) (fun x=>(Bf.L.set 0 (aO2 (cI .i64) 49 2 x.2.2.2.1 x.2.2.2.2.1 x.2.2.2.2.2 Ba x.2.2.1)).set 1 (aB 109 Aa [Ab,(.int .i64 x.2.1)])) Bf ⟨rfl,trivial⟩ ?_))))))));rintro ⟨Bg,Eg,Eh,Ei,Ej,Ek⟩ J1 J2 Ur Bh Bi J3;(try dsimp only [Kst.L,List.set,AYk,Abf] at Bh);refine (show W _ _ _ (setL [(13,(.int .i64 Bg))] (mix _ J1 _)) J2 from ?_);(try dsimp only at Bi);unfold AW0 at Bi;refine AGl (ATm rfl rfl (AGq (AGn (⟨_,rfl,fun Cn=>?_,fun Cn=>?_⟩))))
    ·refine AGx (q_t (AGn (AGo (AGl (AGi (ATx (AGw (AGo (AX3 8796092956800 (fun x:(Int) × (Int) × (LiI) × LnA × LnN × LvA=>(x.1,x.2.1,x.2.2.1)) ((0,Eg,Eh,Ei,Ej,Ek):(Int) × (Int) × (LiI) × LnA × LnN × LvA) (AT0 Bi Cn) (fun x=>[(7,(.int .i64 x.1))]) (fun x=>(Bh.L.set 0 (aO2 (cI .i64) 49 2 x.2.2.2.1 x.2.2.2.2.1 x.2.2.2.2.2 Ba x.2.2.1)).set 1 (aB 109 Aa [Ab,(.int .i64 x.2.1)])) Bh ⟨rfl,trivial⟩ ?_)))))))));rintro ⟨El,Co,Us,Ut,Uu,Uv⟩ J4 Az Uw Ag Bj J5;(try dsimp only [Kst.L,List.set,AYk,Abf] at Ag);refine (show W _ _ _ (setL [(7,(.int .i64 El))] (mix _ J4 _)) Az from ?_);(try dsimp only at Bj);unfold AYz at Bj;refine AGn (AGl (AGi (AGi (ATm rfl rfl (AGq (⟨_,rfl,fun Cp=>?_,fun Cp=>?_⟩))))))
     ·refine AGx (q_t (AGn (AGo (AGn (AU8 (fun h'=>UpT ([Aa] ++ []) Az h') AGv ?_)))));have Cq:UpT ([Aa] ++ []) Az Az:=UpT.start (AVj (AX8 (Ag.b p1) rfl) all_nil);refine AGi (AGi ?_);obtain ⟨Ux,Cr,J6⟩:=AGm (AT0 Bj Cp);refine AVd AS8 rfl (Ag.o2 p0) rfl Cr fun Uy Uz J7 J8 J9=>AUy ATk rfl Cq (fun h' hb=>Ads J9 hb (Ajs (Ag.dj p0 p1 AGj _ (by simp [aO,aO2,J7])) Ajt)) (AGi (AGi ?_));obtain ⟨Ka,Em,En⟩:=AGm J6;have Eo:UpT ([Aa] ++ []) Az Az:=UpT.start (AVj (AX8 (Ag.b p1) rfl) all_nil);refine ATc (K':=(fun xr h'=> ∃ x:(Int) × (Int),(x.1,x.2)=Ka/\xr=(.int .i64 x.1)/\Kst h h' (Ag.L.set 1 (aB 109 Aa [Ab,(.int .i64 x.2)]))/\UpT ([Aa] ++ []) Az h')) Cq rfl ?_ fun U0 U3 Kb=>?_
      ·refine cwf (l:=[_]) Tryz.func112 rfl rfl (AGl (AGw (AGn (AGn (AXm (AGi (AUq rfl (AVp AVm rfl (ATz AT2 rfl ((Ag.b p1).cell (i:=1) rfl) (AGi (AUq rfl (AVp Abr rfl (ATz Aie rfl ((Ag.b p1).cell (i:=0) rfl) (AUn Ai8 rfl H4 (Aga rfl rfl (AGq (⟨_,rfl,fun Ct=>?_,fun Ct=>?_⟩)))))))))))))))))
       ·refine AGl (AGw (AGy (ATb (⟨_,AS1,((0,Co):(Int) × (Int)),?_,rfl,?_,?_⟩))))
        ·exact AGk (AT0 Em Ct)
        ·exact Ag
        ·exact Eo
       ·refine AGx (q_t (AGl (AGi (AUq rfl (AVp AVm rfl (ATz AT2 rfl ((Ag.b p1).cell (i:=1) rfl) (ATj rfl rfl (AUq rfl (AVp AVm rfl (Agr [Ab,(.int .i64 (w64 (Co + 1)))] AT2 rfl rfl rfl (Ag.b p1) (Nat.le_of_ble_eq_true rfl) rfl fun U8 Ep Er=>AGq (AGn (AXm (AGi (AUq rfl (AVp Abr rfl ?_)))))))))))))));have Bl:=Ag.sb p1 Er Ep rfl;refine ATz Aie rfl ((Bl.b p1).cell (i:=0) rfl) (AGi (AUq rfl (AVp AVm rfl (ATz AT2 rfl ((Bl.b p1).cell (i:=1) rfl) (AVe rfl rfl ?_)))));obtain ⟨Kc,Kd,Ke⟩:=AGm (AT1 Em Ct);refine Ac0 (c:=(cI .i8)) Ai8 rfl H4 rfl Kd fun Va Vb Vc Kf Kg=>?_;obtain rfl:=Kf;refine ATz Aqu rfl (ATl (Kg 0 _ rfl) Bl.x) (Aea Aqv Ac3 rfl (AGw (AGy (⟨_,AS1,(((w64 Kc),(w64 (Co + 1))):(Int) × (Int)),?_,rfl,?_,?_⟩))))
        ·exact AGk Ke
        ·exact Bl
        ·exact (Eo.then (Ep.stA Er (AX8 (Ag.b p1) rfl) rfl) (Aeu rfl))
      obtain ⟨⟨Kh,Vd⟩,Ki,rfl,Cu,Kj⟩:=Kb;(try dsimp only [Kst.L,List.set,AYk,Abf] at Cu);refine ⟨(Cq.then Kj (AVj (Aeu rfl) all_nil)),?_⟩;subst Ki;(try dsimp only at En);refine Afj rfl rfl AGj ?_;obtain ⟨Ve,Es,Kk⟩:=AGm En;refine AWc (m:=Bg) AS7 rfl (Ag.o2 p0) J8 Cr rfl Es fun Vf Kl=>Ac8 (m:=Bg) (Ac7 ATd rfl rfl rfl) (Cu.o2 p0) Kl Cr Es (show ((cI .i64)).rep _ (Int.tmod Kh 3) _ from rfl) fun Vg Km Kn=>AGq (AXm (AGi (AGi ?_)));have Bm:=Cu.uO2 p0 Kn Km;obtain ⟨Vh,Et,Ko⟩:=AGm Kk;refine AUg AS8 ATk (Bm.o2 p0) Et fun _ Vi Kp=>AGi (AGi (AGi ?_));obtain ⟨Vj,Eu,Kr⟩:=AGm Ko;refine AUg AS8 ATk (Bm.o2 p0) Eu fun _ Vk Kt=>AGi ?_;obtain ⟨Vl,Ku,Kv⟩:=AGm Kr;refine AWi (m:=Bg) AS7 ATd (Bm.o2 p0) Kt Eu Ku fun _=>?_;obtain ⟨Vm,Kw,Kx⟩:=AGm Kv;refine AZi (m:=El) Bm p0 AS7 ATd Kp Et Kw (fun _=>rfl) fun _ Vn Ky=>ATf (q_b (q_t (AS3 (AGi (ATj rfl rfl (AGw ?_))))));exact ⟨(_,_,_,_,_,_),(AGk Kx).symm,Ky,rfl,trivial⟩
     ·have Ev:=J5 _ (AGk (AT1 Bj Cp)).symm;(try dsimp only at Ev);refine AS9 (ATa (ATa (AT9 (q_b (q_t (AS3 (ATj rfl rfl (AGi (AGq ?_)))))))));exact ⟨(_,_,_,_,_,_),(AGk Ev).symm,Ag,rfl,trivial⟩
    ·have Ew:=J3 _ (AGk (AT1 Bi Cn)).symm;(try dsimp only at Ew);refine AS9 (ATa (ATa (AT9 (q_t (AGl (AGi (AGw (AGy (⟨_,AS1,((Eh,Ba,Ei,Ej,Ek,Eg):(LiI) × (Value) × LnA × LnN × LvA × (Int)),?_,rfl,?_⟩)))))))))
     ·exact AGk Ew
     ·exact Bh
   obtain ⟨⟨Kz,D3,K9,La,Lb,Lc⟩,Ld,rfl,Ey⟩:=Hv;(try dsimp only [Kst.L,List.set,AYk,Abf] at Ey);refine ⟨trivial,?_⟩;subst Ld;(try dsimp only at D2);refine ATi (ATf (q_b (q_t ?_)));exact ⟨((Kz,D3,K9,La,Lb,Lc):(LiI) × (Value) × LnA × LnN × LvA × (Int)),⟨AGk D2,Ey⟩,rfl,trivial⟩
  ·refine AGl (AV2 rfl rfl (AGw ?_));have Ez:=Aav B8 Cd;refine ⟨_,rfl,fun Cv=>?_,fun Cv=>?_⟩
   ·refine AGl (AGi ?_);obtain ⟨Le,Lf,Lg⟩:=AGm (AT0 Ez Cv);refine Ahc Ao (Afp Lf) fun Lh Li Lj Lk Aq Vo Ac=>AGw (AU8 (fun h'=>UpT ([Aa] ++ []) Aq h') AGv ?_);have Bn:UpT ([Aa] ++ []) Aq Aq:=UpT.start (AVj (AX8 (Ac.b p1) rfl) all_nil);refine AGi ?_;obtain ⟨Ll,A4,Lm⟩:=AGm Lg;refine AVd AS8 rfl (Ac.o2 p0) rfl A4 fun Vp Vs Lo Fa Lq=>AUy ATk rfl Bn (fun h' hb=>Ads Lq hb (Ajs (Ac.dj p0 p1 AGj _ (by simp [aO,aO2,Lo])) Ajt)) ?_;obtain ⟨Fb,Bo,Lr⟩:=AGm Lm;refine AWc (m:=0) AS7 rfl (Ac.o2 p0) Fa A4 rfl Bo fun Vt Fc=>?_;obtain ⟨Vu,Lv,Lw⟩:=(Ac.o2 p0).cells Fc A4 Bo;obtain rfl:=Lv;refine AUy ATd rfl Bn (fun h' hb=>Ads (Lw 0 _ rfl) hb (Ajs (Ac.dj p0 p1 AGj _ ((Ac.o2 p0).gmem Fc)) Ajt)) (AGi ?_);obtain ⟨Lx,Ly,Fd⟩:=AGm Lr;have Lz:UpT ([Aa] ++ []) Aq Aq:=UpT.start (AVj (AX8 (Ac.b p1) rfl) all_nil);refine ATc (K':=(fun xr h'=> ∃ x:(Int) × (Int),(x.1,x.2)=Lx/\xr=(.int .i64 x.1)/\Kst h h' (Ac.L.set 1 (aB 109 Aa [Ab,(.int .i64 x.2)]))/\UpT ([Aa] ++ []) Aq h')) Bn rfl ?_ fun Vv Vw L9=>?_
    ·refine cwf (l:=[_,_]) Tryz.func61 rfl rfl (AGl (ATx (AGi ?_)));obtain ⟨Ma,Fe,Ff⟩:=AGm Ly;have Fg:UpT ([Aa] ++ []) Aq Aq:=UpT.start (AVj (AX8 (Ac.b p1) rfl) all_nil);refine ATc (K':=(fun xr h'=> ∃ x:(Int) × (Int),(x.1,x.2)=Ma/\xr=(.int .i64 x.1)/\Kst h h' (Ac.L.set 1 (aB 109 Aa [Ab,(.int .i64 x.2)]))/\UpT ([Aa] ++ []) Aq h')) trivial rfl ?_ fun Vx Vy Mb=>?_
     ·refine cwf (l:=[_]) Tryz.func112 rfl rfl (AGl (AGw (AGn (AGn (AXm (AGi (AUq rfl (AVp AVm rfl (ATz AT2 rfl ((Ac.b p1).cell (i:=1) rfl) (AGi (AUq rfl (AVp Abr rfl (ATz Aie rfl ((Ac.b p1).cell (i:=0) rfl) (AUn Ai8 rfl H4 (Aga rfl rfl (AGq (⟨_,rfl,fun Cw=>?_,fun Cw=>?_⟩)))))))))))))))))
      ·refine AGl (AGw (AGy (ATb (⟨_,AS1,((0,0):(Int) × (Int)),?_,rfl,?_,?_⟩))))
       ·exact AGk (AT0 Fe Cw)
       ·exact Ac
       ·exact Fg
      ·refine AGx (q_t (AGl (AGi (AUq rfl (AVp AVm rfl (ATz AT2 rfl ((Ac.b p1).cell (i:=1) rfl) (ATj rfl rfl (AUq rfl (AVp AVm rfl (Agr [Ab,(.int .i64 (w64 (0 + 1)))] AT2 rfl rfl rfl (Ac.b p1) (Nat.le_of_ble_eq_true rfl) rfl fun Vz Fh Fi=>AGq (AGn (AXm (AGi (AUq rfl (AVp Abr rfl ?_)))))))))))))));have Bp:=Ac.sb p1 Fi Fh rfl;refine ATz Aie rfl ((Bp.b p1).cell (i:=0) rfl) (AGi (AUq rfl (AVp AVm rfl (ATz AT2 rfl ((Bp.b p1).cell (i:=1) rfl) (AVe rfl rfl ?_)))));obtain ⟨Mc,Md,Me⟩:=AGm (AT1 Fe Cw);refine Ac0 (c:=(cI .i8)) Ai8 rfl H4 rfl Md fun V1 V4 V5 Mf Mg=>?_;obtain rfl:=Mf;refine ATz Aqu rfl (ATl (Mg 0 _ rfl) Bp.x) (Aea Aqv Ac3 rfl (AGw (AGy (⟨_,AS1,(((w64 Mc),(w64 (0 + 1))):(Int) × (Int)),?_,rfl,?_,?_⟩))))
       ·exact AGk Me
       ·exact Bp
       ·exact (Fg.then (Fh.stA Fi (AX8 (Ac.b p1) rfl) rfl) (Aeu rfl))
     obtain ⟨⟨Mh,Mi⟩,Mj,rfl,Fj,Mk⟩:=Mb;(try dsimp only [Kst.L,List.set,AYk,Abf] at Fj);refine ⟨trivial,?_⟩;subst Mj;(try dsimp only at Ff);refine Aea Ac3 Aj3 rfl (Aea Aj3 Akr rfl (AGi (Afj rfl rfl AGj (AGw (AGy (⟨_,AS1,(((Int.tmod (w64 (IntKind.wrap .u8 Mh)) 3),Mi):(Int) × (Int)),?_,rfl,?_,?_⟩))))))
     ·exact AGk Ff
     ·exact Fj
     ·exact (Lz.then Mk (AVj (Aeu rfl) all_nil))
    obtain ⟨⟨Fk,Ml⟩,Mm,rfl,Cx,Mo⟩:=L9;(try dsimp only [Kst.L,List.set,AYk,Abf] at Cx);refine ⟨(Bn.then Mo (AVj (Aeu rfl) all_nil)),?_⟩;subst Mm;(try dsimp only at Fd);refine ATj rfl rfl (AWc (m:=0) AS7 rfl (Ac.o2 p0) Fa A4 rfl Bo fun V6 Mq=>Ac8 (m:=0) (Ac7 ATd rfl rfl rfl) (Cx.o2 p0) Mq A4 Bo (show ((cI .i64)).rep _ (w64 (Fb + Fk)) _ from rfl) fun V8 Mr Ms=>ATf (q_b (q_t ?_)));exact ⟨(((sI Le 0 (sI Ll 0 (w64 (Fb + Fk)))),Lk,Lh,Li,Lj,Ml):(LiI) × (Value) × LnA × LnN × LvA × (Int)),⟨AGk Fd,(Cx.uO2 p0 Ms Mr)⟩,rfl,trivial⟩
   ·refine AGl (AV2 rfl rfl (AGw ?_));have Fl:=AT1 Ez Cv;refine ⟨_,rfl,fun Cy=>?_,fun Cy=>?_⟩
    ·refine AGl (AGi ?_);obtain ⟨Mt,Mu,Mv⟩:=AGm (AT0 Fl Cy);refine Ahc Ao (Afp Mu) fun Mw Mx My Mz Ar V9 Ad=>AGw (AU8 (fun h'=>UpT ([Aa] ++ []) Ar h') AGv ?_);have Bq:UpT ([Aa] ++ []) Ar Ar:=UpT.start (AVj (AX8 (Ad.b p1) rfl) all_nil);refine AGi (AGi (AVe rfl rfl ?_));obtain ⟨M0,A5,M1⟩:=AGm Mv;refine AVd AS8 rfl (Ad.o2 p0) rfl A5 fun Wa Wb M2 Fm M3=>AUy ATk rfl Bq (fun h' hb=>Ads M3 hb (Ajs (Ad.dj p0 p1 AGj _ (by simp [aO,aO2,M2])) Ajt)) (AGi (AVe rfl rfl ?_));obtain ⟨Fo,Br,M4⟩:=AGm M1;refine AWc (m:=(w64 ((w64 (1 + (Int.tmod (w64 a1) Am))) - 1))) AS7 rfl (Ad.o2 p0) Fm A5 rfl Br fun Wc Fp=>?_;obtain ⟨Wd,M5,M6⟩:=(Ad.o2 p0).cells Fp A5 Br;obtain rfl:=M5;refine AUy ATd rfl Bq (fun h' hb=>Ads (M6 0 _ rfl) hb (Ajs (Ad.dj p0 p1 AGj _ ((Ad.o2 p0).gmem Fp)) Ajt)) (AGi ?_);obtain ⟨M7,M8,Fq⟩:=AGm M4;have M9:UpT ([Aa] ++ []) Ar Ar:=UpT.start (AVj (AX8 (Ad.b p1) rfl) all_nil);refine ATc (K':=(fun xr h'=> ∃ x:(Int) × (Int),(x.1,x.2)=M7/\xr=(.int .i64 x.1)/\Kst h h' (Ad.L.set 1 (aB 109 Aa [Ab,(.int .i64 x.2)]))/\UpT ([Aa] ++ []) Ar h')) Bq rfl ?_ fun We Wf Na=>?_
     ·refine cwf (l:=[_,_]) Tryz.func61 rfl rfl (AGl (ATx (AGi ?_)));obtain ⟨Nb,Fr,Ft⟩:=AGm M8;have Fu:UpT ([Aa] ++ []) Ar Ar:=UpT.start (AVj (AX8 (Ad.b p1) rfl) all_nil);refine ATc (K':=(fun xr h'=> ∃ x:(Int) × (Int),(x.1,x.2)=Nb/\xr=(.int .i64 x.1)/\Kst h h' (Ad.L.set 1 (aB 109 Aa [Ab,(.int .i64 x.2)]))/\UpT ([Aa] ++ []) Ar h')) trivial rfl ?_ fun Wg Wh Nc=>?_
      ·refine cwf (l:=[_]) Tryz.func112 rfl rfl (AGl (AGw (AGn (AGn (AXm (AGi (AUq rfl (AVp AVm rfl (ATz AT2 rfl ((Ad.b p1).cell (i:=1) rfl) (AGi (AUq rfl (AVp Abr rfl (ATz Aie rfl ((Ad.b p1).cell (i:=0) rfl) (AUn Ai8 rfl H4 (Aga rfl rfl (AGq (⟨_,rfl,fun Cz=>?_,fun Cz=>?_⟩)))))))))))))))))
       ·refine AGl (AGw (AGy (ATb (⟨_,AS1,((0,0):(Int) × (Int)),?_,rfl,?_,?_⟩))))
        ·exact AGk (AT0 Fr Cz)
        ·exact Ad
        ·exact Fu
       ·refine AGx (q_t (AGl (AGi (AUq rfl (AVp AVm rfl (ATz AT2 rfl ((Ad.b p1).cell (i:=1) rfl) (ATj rfl rfl (AUq rfl (AVp AVm rfl (Agr [Ab,(.int .i64 (w64 (0 + 1)))] AT2 rfl rfl rfl (Ad.b p1) (Nat.le_of_ble_eq_true rfl) rfl fun Wi Fv Fw=>AGq (AGn (AXm (AGi (AUq rfl (AVp Abr rfl ?_)))))))))))))));have Bt:=Ad.sb p1 Fw Fv rfl;refine ATz Aie rfl ((Bt.b p1).cell (i:=0) rfl) (AGi (AUq rfl (AVp AVm rfl (ATz AT2 rfl ((Bt.b p1).cell (i:=1) rfl) (AVe rfl rfl ?_)))));obtain ⟨Nd,Nf,Ng⟩:=AGm (AT1 Fr Cz);refine Ac0 (c:=(cI .i8)) Ai8 rfl H4 rfl Nf fun Wj Wk Wl Nh Ni=>?_;obtain rfl:=Nh;refine ATz Aqu rfl (ATl (Ni 0 _ rfl) Bt.x) (Aea Aqv Ac3 rfl (AGw (AGy (⟨_,AS1,(((w64 Nd),(w64 (0 + 1))):(Int) × (Int)),?_,rfl,?_,?_⟩))))
        ·exact AGk Ng
        ·exact Bt
        ·exact (Fu.then (Fv.stA Fw (AX8 (Ad.b p1) rfl) rfl) (Aeu rfl))
      obtain ⟨⟨Nj,Nk⟩,Nl,rfl,Fx,Nm⟩:=Nc;(try dsimp only [Kst.L,List.set,AYk,Abf] at Fx);refine ⟨trivial,?_⟩;subst Nl;(try dsimp only at Ft);refine Aea Ac3 Aj3 rfl (Aea Aj3 Akr rfl (AGi (Afj rfl rfl AGj (AGw (AGy (⟨_,AS1,(((Int.tmod (w64 (IntKind.wrap .u8 Nj)) 2),Nk):(Int) × (Int)),?_,rfl,?_,?_⟩))))))
      ·exact AGk Ft
      ·exact Fx
      ·exact (M9.then Nm (AVj (Aeu rfl) all_nil))
     obtain ⟨⟨Fy,Nn⟩,Np,rfl,C0,Nq⟩:=Na;(try dsimp only [Kst.L,List.set,AYk,Abf] at C0);refine ⟨(Bq.then Nq (AVj (Aeu rfl) all_nil)),?_⟩;subst Np;(try dsimp only at Fq);refine ATj rfl rfl (AWc (m:=(w64 ((w64 (1 + (Int.tmod (w64 a1) Am))) - 1))) AS7 rfl (Ad.o2 p0) Fm A5 rfl Br fun Wm Nr=>Ac8 (m:=(w64 ((w64 (1 + (Int.tmod (w64 a1) Am))) - 1))) (Ac7 ATd rfl rfl rfl) (C0.o2 p0) Nr A5 Br (show ((cI .i64)).rep _ (w64 (Fo + Fy)) _ from rfl) fun Wn Ns Nt=>ATf (q_b (q_t ?_)));exact ⟨(((sI Mt (w64 ((w64 (1 + (Int.tmod (w64 a1) Am))) - 1)) (sI M0 (w64 ((w64 (1 + (Int.tmod (w64 a1) Am))) - 1)) (w64 (Fo + Fy)))),Mz,Mw,Mx,My,Nn):(LiI) × (Value) × LnA × LnN × LvA × (Int)),⟨AGk Fq,(C0.uO2 p0 Nt Ns)⟩,rfl,trivial⟩
    ·refine AGl (AV2 rfl rfl (AGw ?_));have Fz:=AT1 Fl Cy;refine ⟨_,rfl,fun C1=>?_,fun C1=>?_⟩
     ·refine AS3 (AGi (AGi ?_));obtain ⟨Nu,Nv,F4⟩:=AGm (AT0 Fz C1);refine ATc (K':=(fun xr h'=> ∃ x:(LiI) × (Value) × LnA × LnN × LvA × (Int),(x.1,x.2.2.2.2.2)=Nu/\xr=x.2.1/\Kst h h' (aO2 (cI .i64) 49 2 x.2.2.1 x.2.2.2.1 x.2.2.2.2.1 x.2.1 x.1 :: (Ao.L.set 0 (aB 109 Aa [Ab,(.int .i64 x.2.2.2.2.2)]))))) trivial rfl ?_ fun F5 Wo Nw=>?_
      ·refine cwf (l:=[_,_,_]) Tryz.func62 rfl rfl (AGl (ATx (AGi ?_)));obtain ⟨Ny,Nz⟩:=ifN Nv;refine Ajd (cI .i64) 2 AS8 Aez rfl trivial tt2 rfl rfl AGj Ny fun N0 N3 N4 F6 Wp N5 N6 N7=>AGw (AGn (AGl (AGi ?_)));have C2:=Ao.no2 N6 N7 N5;refine AT3 AS8 rfl (C2.o2 p0).rd (AGi (AGq (AGo (AX3 4294959360 (fun x:(Int) × (Int) × (LiI) × LnA × LnN × LvA=>(x.1,x.2.1,x.2.2.1)) ((0,0,(List.replicate (Int.toNat (w64 (1 + (Int.tmod (w64 a1) Am)))) ([]:List Int)),N0,N3,N4):(Int) × (Int) × (LiI) × LnA × LnN × LvA) Nz (fun x=>[(13,(.int .i64 x.1))]) (fun x=>(C2.L.set 0 (aO2 (cI .i64) 49 2 x.2.2.2.1 x.2.2.2.2.1 x.2.2.2.2.2 F6 x.2.2.1)).set 1 (aB 109 Aa [Ab,(.int .i64 x.2.1)])) C2 ⟨rfl,trivial⟩ ?_))));rintro ⟨C3,Bu,N8,N9,Oa,Ob⟩ Oc Od Wq C4 Bv Oe;(try dsimp only [Kst.L,List.set,AYk,Abf] at C4);refine (show W _ _ _ (setL [(13,(.int .i64 C3))] (mix _ Oc _)) Od from ?_);(try dsimp only at Bv);unfold AWl at Bv;refine AGl (ATm rfl rfl (AGq (AGn (⟨_,rfl,fun C5=>?_,fun C5=>?_⟩))))
       ·refine AGx (q_t (AGn (AGo (AGl (AGi (ATx (AGi (AGi (AGi ?_)))))))));obtain ⟨Og,Oh⟩:=ifN (AT0 Bv C5);refine Aii (c:=(cI .i64)) (a:=0) AS7 Ace rfl rfl (fun _=>rfl) rfl trivial tt2 rfl rfl AGj Og fun Wr Ws Wt Oi Oj Ol Om=>?_;have A6:=C4.no Oj (AXv Ol Om) Oi;obtain ⟨Wu,F7,On⟩:=AGm Oh;refine AVd AS8 rfl (A6.o2 p1) rfl F7 fun Wv Ww Oo Wx Wy=>Ajc ATk (A6.o2 p1) F7 Oo rfl rfl (A6.o p0) (A6.dj p0 p1 AGj) fun Au Oq Ot Ou=>AGq (AU8 (fun h'=>UpT ([Aa] ++ []) Au h') AGv ?_);have Ah:=A6.m2 p0 p1 AGj Ot Oq (fun z hz=> .inl (Ou z hz));have C6:UpT ([Aa] ++ []) Au Au:=UpT.start (AVj (AX8 (Ah.b p2) rfl) all_nil);refine AGi (AGi ?_);obtain ⟨Wz,C7,Ov⟩:=AGm On;refine AVd AS8 rfl (Ah.o2 p1) rfl C7 fun W0 W1 Ow Ox Oy=>AUy ATk rfl C6 (fun h' hb=>Ads Oy hb (Ajs (Ah.dj p1 p2 AGj _ (by simp [aO,aO2,Ow])) Ajt)) (AGi (AGi (AGi ?_)));obtain ⟨Oz,O0,F8⟩:=AGm Ov;have O1:UpT ([Aa] ++ []) Au Au:=UpT.start (AVj (AX8 (Ah.b p2) rfl) all_nil);refine ATc (K':=(fun xr h'=> ∃ x:(Int) × (Int),(x.1,x.2)=Oz/\xr=(.int .i64 x.1)/\Kst h h' ((AYk Ah.L [1,2]).set 1 (aB 109 Aa [Ab,(.int .i64 x.2)]))/\UpT ([Aa] ++ []) Au h')) C6 rfl ?_ fun W3 W4 O2=>?_
        ·refine cwf (l:=[_,_]) Tryz.func61 rfl rfl (AGl (ATx (AGi ?_)));obtain ⟨O3,F9,Ga⟩:=AGm O0;have Gb:UpT ([Aa] ++ []) Au Au:=UpT.start (AVj (AX8 (Ah.b p2) rfl) all_nil);refine ATc (K':=(fun xr h'=> ∃ x:(Int) × (Int),(x.1,x.2)=O3/\xr=(.int .i64 x.1)/\Kst h h' ((AYk Ah.L [1,2]).set 1 (aB 109 Aa [Ab,(.int .i64 x.2)]))/\UpT ([Aa] ++ []) Au h')) trivial rfl ?_ fun W5 W6 O4=>?_
         ·refine cwf (l:=[_]) Tryz.func112 rfl rfl (AGl (AGw (AGn (AGn (AXm (AGi (AUq rfl (AVp AVm rfl (ATz AT2 rfl ((Ah.b p2).cell (i:=1) rfl) (AGi (AUq rfl (AVp Abr rfl (ATz Aie rfl ((Ah.b p2).cell (i:=0) rfl) (AUn Ai8 rfl H4 (Aga rfl rfl (AGq (⟨_,rfl,fun C8=>?_,fun C8=>?_⟩)))))))))))))))))
          ·refine AGl (AGw (AGy (ATb (⟨_,AS1,((0,Bu):(Int) × (Int)),?_,rfl,?_,?_⟩))))
           ·exact AGk (AT0 F9 C8)
           ·exact Ah.sel [1,2] AGj
           ·exact Gb
          ·refine AGx (q_t (AGl (AGi (AUq rfl (AVp AVm rfl (ATz AT2 rfl ((Ah.b p2).cell (i:=1) rfl) (ATj rfl rfl (AUq rfl (AVp AVm rfl (Agr [Ab,(.int .i64 (w64 (Bu + 1)))] AT2 rfl rfl rfl (Ah.b p2) (Nat.le_of_ble_eq_true rfl) rfl fun W7 Gc Gd=>AGq (AGn (AXm (AGi (AUq rfl (AVp Abr rfl ?_)))))))))))))));have Bw:=Ah.sb p2 Gd Gc rfl;refine ATz Aie rfl ((Bw.b p2).cell (i:=0) rfl) (AGi (AUq rfl (AVp AVm rfl (ATz AT2 rfl ((Bw.b p2).cell (i:=1) rfl) (AVe rfl rfl ?_)))));obtain ⟨O5,O6,O7⟩:=AGm (AT1 F9 C8);refine Ac0 (c:=(cI .i8)) Ai8 rfl H4 rfl O6 fun W8 Xa Xb O8 O9=>?_;obtain rfl:=O8;refine ATz Aqu rfl (ATl (O9 0 _ rfl) Bw.x) (Aea Aqv Ac3 rfl (AGw (AGy (⟨_,AS1,(((w64 O5),(w64 (Bu + 1))):(Int) × (Int)),?_,rfl,?_,?_⟩))))
           ·exact AGk O7
           ·exact Bw.sel [1,2] AGj
           ·exact (Gb.then (Gc.stA Gd (AX8 (Ah.b p2) rfl) rfl) (Aeu rfl))
         obtain ⟨⟨Pa,Pb⟩,Pc,rfl,Ge,Pd⟩:=O4;(try dsimp only [Kst.L,List.set,AYk,Abf] at Ge);refine ⟨trivial,?_⟩;subst Pc;(try dsimp only at Ga);refine Aea Ac3 Aj3 rfl (Aea Aj3 Akr rfl (AGi (Afj rfl rfl AGj (AGw (AGy (⟨_,AS1,(((Int.tmod (w64 (IntKind.wrap .u8 Pa)) 9),Pb):(Int) × (Int)),?_,rfl,?_,?_⟩))))))
         ·exact AGk Ga
         ·exact Ge
         ·exact (O1.then Pd (AVj (Aeu rfl) all_nil))
        obtain ⟨⟨Pe,Xc⟩,Pf,rfl,C9,Pg⟩:=O2;(try dsimp only [Kst.L,List.set,AYk,Abf] at C9);refine ⟨(C6.then Pg (AVj (Aeu rfl) all_nil)),?_⟩;subst Pf;(try dsimp only at F8);refine ATj rfl rfl ?_;obtain ⟨Xd,Gf,Ph⟩:=AGm F8;refine AWc (m:=C3) AS7 rfl (Ah.o2 p1) Ox C7 rfl Gf fun Xe Pj=>Ac8 (m:=C3) (Ac7 ATd rfl rfl rfl) (C9.o2 p0) Pj C7 Gf (show ((cI .i64)).rep _ (w64 (1 + Pe)) _ from rfl) fun Xf Pk Pl=>ATf (q_b (q_t (AS3 (ATj rfl rfl (AGi (AGq ?_))))));exact ⟨(_,_,_,_,_,_),(AGk Ph).symm,(C9.uO2 p0 Pl Pk),rfl,trivial⟩
       ·have Gg:=Oe _ (AGk (AT1 Bv C5)).symm;(try dsimp only at Gg);refine AS9 (ATa (ATa (AT9 (q_t (AGl (AGi (AGw (AGy (⟨_,AS1,((N8,F6,N9,Oa,Ob,Bu):(LiI) × (Value) × LnA × LnN × LvA × (Int)),?_,rfl,?_⟩)))))))))
        ·exact AGk Gg
        ·exact C4
      obtain ⟨⟨Pm,F5,Pn,Po,Pp,Pq⟩,Ps,rfl,Gh⟩:=Nw;(try dsimp only [Kst.L,List.set,AYk,Abf] at Gh);refine ⟨trivial,?_⟩;subst Ps;(try dsimp only at F4);refine ATi (ATf (q_b (q_t ?_)));exact ⟨((Pm,F5,Pn,Po,Pp,Pq):(LiI) × (Value) × LnA × LnN × LvA × (Int)),⟨AGk F4,Gh⟩,rfl,trivial⟩
     ·refine AS3 (AGi (AGi ?_));obtain ⟨Pt,Pu,Gi⟩:=AGm (AT1 Fz C1);refine ATc (K':=(fun xr h'=> ∃ x:(LiI) × (Value) × LnA × LnN × LvA × (Int),(x.1,x.2.2.2.2.2)=Pt/\xr=x.2.1/\Kst h h' (aO2 (cI .i64) 49 2 x.2.2.1 x.2.2.2.1 x.2.2.2.2.1 x.2.1 x.1 :: (Ao.L.set 0 (aB 109 Aa [Ab,(.int .i64 x.2.2.2.2.2)]))))) trivial rfl ?_ fun Gj Xg Pv=>?_
      ·refine cwf (l:=[_,_,_]) Tryz.func62 rfl rfl (AGl (ATx (AGi ?_)));obtain ⟨Pw,Px⟩:=ifN Pu;refine Ajd (cI .i64) 2 AS8 Aez rfl trivial tt2 rfl rfl AGj Pw fun Py Pz P0 Gk Xh P1 P2 P3=>AGw (AGn (AGl (AGi ?_)));have Da:=Ao.no2 P2 P3 P1;refine AT3 AS8 rfl (Da.o2 p0).rd (AGi (AGq (AGo (AX3 4294959360 (fun x:(Int) × (Int) × (LiI) × LnA × LnN × LvA=>(x.1,x.2.1,x.2.2.1)) ((0,0,(List.replicate (Int.toNat (w64 (1 + (Int.tmod (w64 a1) Am)))) ([]:List Int)),Py,Pz,P0):(Int) × (Int) × (LiI) × LnA × LnN × LvA) Px (fun x=>[(13,(.int .i64 x.1))]) (fun x=>(Da.L.set 0 (aO2 (cI .i64) 49 2 x.2.2.2.1 x.2.2.2.2.1 x.2.2.2.2.2 Gk x.2.2.1)).set 1 (aB 109 Aa [Ab,(.int .i64 x.2.1)])) Da ⟨rfl,trivial⟩ ?_))));rintro ⟨Db,Bx,P4,P5,P6,P7⟩ P8 P9 Xi Dc By Qa;(try dsimp only [Kst.L,List.set,AYk,Abf] at Dc);refine (show W _ _ _ (setL [(13,(.int .i64 Db))] (mix _ P8 _)) P9 from ?_);(try dsimp only at By);unfold AWm at By;refine AGl (ATm rfl rfl (AGq (AGn (⟨_,rfl,fun Dd=>?_,fun Dd=>?_⟩))))
       ·refine AGx (q_t (AGn (AGo (AGl (AGi (ATx (AGi (AGi (AGi ?_)))))))));obtain ⟨Qb,Qc⟩:=ifN (AT0 By Dd);refine Aii (c:=(cI .i64)) (a:=0) AS7 Ace rfl rfl (fun _=>rfl) rfl trivial tt2 rfl rfl AGj Qb fun Xj Xk Xl Qd Qe Qf Qg=>?_;have A7:=Dc.no Qe (AXv Qf Qg) Qd;obtain ⟨Xm,Gl,Qh⟩:=AGm Qc;refine AVd AS8 rfl (A7.o2 p1) rfl Gl fun Xn Xo Qi Xp Xq=>Ajc ATk (A7.o2 p1) Gl Qi rfl rfl (A7.o p0) (A7.dj p0 p1 AGj) fun Av Qj Qk Ql=>AGq (AU8 (fun h'=>UpT ([Aa] ++ []) Av h') AGv ?_);have Ai:=A7.m2 p0 p1 AGj Qk Qj (fun z hz=> .inl (Ql z hz));have De:UpT ([Aa] ++ []) Av Av:=UpT.start (AVj (AX8 (Ai.b p2) rfl) all_nil);refine AGi (AGi ?_);obtain ⟨Xr,Df,Qm⟩:=AGm Qh;refine AVd AS8 rfl (Ai.o2 p1) rfl Df fun Xt Xu Qn Qo Qp=>AUy ATk rfl De (fun h' hb=>Ads Qp hb (Ajs (Ai.dj p1 p2 AGj _ (by simp [aO,aO2,Qn])) Ajt)) (AGi (AGi (AGi ?_)));obtain ⟨Qq,Qr,Gm⟩:=AGm Qm;have Qs:UpT ([Aa] ++ []) Av Av:=UpT.start (AVj (AX8 (Ai.b p2) rfl) all_nil);refine ATc (K':=(fun xr h'=> ∃ x:(Int) × (Int),(x.1,x.2)=Qq/\xr=(.int .i64 x.1)/\Kst h h' ((AYk Ai.L [1,2]).set 1 (aB 109 Aa [Ab,(.int .i64 x.2)]))/\UpT ([Aa] ++ []) Av h')) De rfl ?_ fun Xv Xw Qt=>?_
        ·refine cwf (l:=[_,_]) Tryz.func61 rfl rfl (AGl (ATx (AGi ?_)));obtain ⟨Qu,Gn,Gp⟩:=AGm Qr;have Gq:UpT ([Aa] ++ []) Av Av:=UpT.start (AVj (AX8 (Ai.b p2) rfl) all_nil);refine ATc (K':=(fun xr h'=> ∃ x:(Int) × (Int),(x.1,x.2)=Qu/\xr=(.int .i64 x.1)/\Kst h h' ((AYk Ai.L [1,2]).set 1 (aB 109 Aa [Ab,(.int .i64 x.2)]))/\UpT ([Aa] ++ []) Av h')) trivial rfl ?_ fun Xx Xy Qv=>?_
         ·refine cwf (l:=[_]) Tryz.func112 rfl rfl (AGl (AGw (AGn (AGn (AXm (AGi (AUq rfl (AVp AVm rfl (ATz AT2 rfl ((Ai.b p2).cell (i:=1) rfl) (AGi (AUq rfl (AVp Abr rfl (ATz Aie rfl ((Ai.b p2).cell (i:=0) rfl) (AUn Ai8 rfl H4 (Aga rfl rfl (AGq (⟨_,rfl,fun Dg=>?_,fun Dg=>?_⟩)))))))))))))))))
          ·refine AGl (AGw (AGy (ATb (⟨_,AS1,((0,Bx):(Int) × (Int)),?_,rfl,?_,?_⟩))))
           ·exact AGk (AT0 Gn Dg)
           ·exact Ai.sel [1,2] AGj
           ·exact Gq
          ·refine AGx (q_t (AGl (AGi (AUq rfl (AVp AVm rfl (ATz AT2 rfl ((Ai.b p2).cell (i:=1) rfl) (ATj rfl rfl (AUq rfl (AVp AVm rfl (Agr [Ab,(.int .i64 (w64 (Bx + 1)))] AT2 rfl rfl rfl (Ai.b p2) (Nat.le_of_ble_eq_true rfl) rfl fun Xz Gr Gt=>AGq (AGn (AXm (AGi (AUq rfl (AVp Abr rfl ?_)))))))))))))));have Bz:=Ai.sb p2 Gt Gr rfl;refine ATz Aie rfl ((Bz.b p2).cell (i:=0) rfl) (AGi (AUq rfl (AVp AVm rfl (ATz AT2 rfl ((Bz.b p2).cell (i:=1) rfl) (AVe rfl rfl ?_)))));obtain ⟨Qw,Qx,Qy⟩:=AGm (AT1 Gn Dg);refine Ac0 (c:=(cI .i8)) Ai8 rfl H4 rfl Qx fun X0 X3 X4 Qz Q0=>?_;obtain rfl:=Qz;refine ATz Aqu rfl (ATl (Q0 0 _ rfl) Bz.x) (Aea Aqv Ac3 rfl (AGw (AGy (⟨_,AS1,(((w64 Qw),(w64 (Bx + 1))):(Int) × (Int)),?_,rfl,?_,?_⟩))))
           ·exact AGk Qy
           ·exact Bz.sel [1,2] AGj
           ·exact (Gq.then (Gr.stA Gt (AX8 (Ai.b p2) rfl) rfl) (Aeu rfl))
         obtain ⟨⟨Q1,Q2⟩,Q3,rfl,Gu,Q4⟩:=Qv;(try dsimp only [Kst.L,List.set,AYk,Abf] at Gu);refine ⟨trivial,?_⟩;subst Q3;(try dsimp only at Gp);refine Aea Ac3 Aj3 rfl (Aea Aj3 Akr rfl (AGi (Afj rfl rfl AGj (AGw (AGy (⟨_,AS1,(((Int.tmod (w64 (IntKind.wrap .u8 Q1)) 1),Q2):(Int) × (Int)),?_,rfl,?_,?_⟩))))))
         ·exact AGk Gp
         ·exact Gu
         ·exact (Qs.then Q4 (AVj (Aeu rfl) all_nil))
        obtain ⟨⟨Q6,X5⟩,Q7,rfl,Dh,Q8⟩:=Qt;(try dsimp only [Kst.L,List.set,AYk,Abf] at Dh);refine ⟨(De.then Q8 (AVj (Aeu rfl) all_nil)),?_⟩;subst Q7;(try dsimp only at Gm);refine ATj rfl rfl ?_;obtain ⟨X6,Gv,Q9⟩:=AGm Gm;refine AWc (m:=Db) AS7 rfl (Ai.o2 p1) Qo Df rfl Gv fun X8 Rc=>Ac8 (m:=Db) (Ac7 ATd rfl rfl rfl) (Dh.o2 p0) Rc Df Gv (show ((cI .i64)).rep _ (w64 (1 + Q6)) _ from rfl) fun Ya Rd Re=>ATf (q_b (q_t (AS3 (ATj rfl rfl (AGi (AGq ?_))))));exact ⟨(_,_,_,_,_,_),(AGk Q9).symm,(Dh.uO2 p0 Re Rd),rfl,trivial⟩
       ·have Gw:=Qa _ (AGk (AT1 By Dd)).symm;(try dsimp only at Gw);refine AS9 (ATa (ATa (AT9 (q_t (AGl (AGi (AGw (AGy (⟨_,AS1,((P4,Gk,P5,P6,P7,Bx):(LiI) × (Value) × LnA × LnN × LvA × (Int)),?_,rfl,?_⟩)))))))))
        ·exact AGk Gw
        ·exact Dc
      obtain ⟨⟨Rf,Gj,Rg,Rh,Ri,Rj⟩,Rm,rfl,Gx⟩:=Pv;(try dsimp only [Kst.L,List.set,AYk,Abf] at Gx);refine ⟨trivial,?_⟩;subst Rm;(try dsimp only at Gi);refine ATi (ATf (q_b (q_t ?_)));exact ⟨((Rf,Gj,Rg,Rh,Ri,Rj):(LiI) × (Value) × LnA × LnN × LvA × (Int)),⟨AGk Gi,Gx⟩,rfl,trivial⟩
 rintro ⟨Yb,Rn,Yc,Yd,Ye,Ro⟩ Rq Rr ⟨Rs,Di⟩;(try dsimp only [Kst.L,List.set,AYk,Abf] at Di);refine (show W _ _ _ (setL [(7,Rn)] (mix _ Rq _)) Rr from ?_);subst Rs;(try dsimp only at Dy);refine AGn (AGl (AGi ?_));obtain ⟨Yf,Rt,Gy⟩:=AGm Dy;refine AXx Di (Ak6 (Di.o2 p0).rd Rt) fun Yg Yh A8=>AWp rfl (AGq (⟨_,rfl,fun Dj=>?_,fun Dj=>?_⟩))
 ·refine AGl (AGi (AGi ?_));obtain ⟨Ru,Rv,Gz⟩:=AGm (ifT Gy Dj);refine ATc (K':=(fun xr h'=> ∃ x:(LiI) × (Value) × LnA × LnN × LvA × (Int),(x.1,x.2.2.2.2.2)=Ru/\xr=x.2.1/\Kst h h' (aO2 (cI .i64) 49 2 x.2.2.1 x.2.2.2.1 x.2.2.2.2.1 x.2.1 x.1 :: (A8.L.set 1 (aB 109 Aa [Ab,(.int .i64 x.2.2.2.2.2)]))))) trivial rfl ?_ fun Rw Yi Rx=>?_
  ·refine cwf (l:=[_,_,_]) Tryz.func62 rfl rfl (AGl (ATx (AGi ?_)));obtain ⟨Ry,Rz⟩:=ifN Rv;refine Ajd (cI .i64) 2 AS8 Aez rfl trivial tt2 rfl rfl AGj Ry fun R3 R4 R5 G3 Yj R6 R7 R8=>AGw (AGn (AGl (AGi ?_)));have Dk:=A8.no2 R7 R8 R6;refine AT3 AS8 rfl (Dk.o2 p0).rd (AGi (AGq (AGo (AX3 4294959360 (fun x:(Int) × (Int) × (LiI) × LnA × LnN × LvA=>(x.1,x.2.1,x.2.2.1)) ((0,Ro,(List.replicate (Int.toNat (w64 (1 + (Int.tmod (w64 a1) Am)))) ([]:List Int)),R3,R4,R5):(Int) × (Int) × (LiI) × LnA × LnN × LvA) Rz (fun x=>[(13,(.int .i64 x.1))]) (fun x=>(Dk.L.set 0 (aO2 (cI .i64) 49 2 x.2.2.2.1 x.2.2.2.2.1 x.2.2.2.2.2 G3 x.2.2.1)).set 2 (aB 109 Aa [Ab,(.int .i64 x.2.1)])) Dk ⟨rfl,trivial⟩ ?_))));rintro ⟨Dl,B1,R9,Sa,Sb,Sc⟩ Sd Se Yk Do B3 Sf;(try dsimp only [Kst.L,List.set,AYk,Abf] at Do);refine (show W _ _ _ (setL [(13,(.int .i64 Dl))] (mix _ Sd _)) Se from ?_);(try dsimp only at B3);unfold AWn at B3;refine AGl (ATm rfl rfl (AGq (AGn (⟨_,rfl,fun Dp=>?_,fun Dp=>?_⟩))))
   ·refine AGx (q_t (AGn (AGo (AGl (AGi (ATx (AGi (AGi (AGi ?_)))))))));obtain ⟨Sg,Sh⟩:=ifN (AT0 B3 Dp);refine Aii (c:=(cI .i64)) (a:=0) AS7 Ace rfl rfl (fun _=>rfl) rfl trivial tt2 rfl rfl AGj Sg fun Yl Ym Yn Si Sj Sk Sm=>?_;have A9:=Do.no Sj (AXv Sk Sm) Si;obtain ⟨Yo,G4,Sn⟩:=AGm Sh;refine AVd AS8 rfl (A9.o2 p1) rfl G4 fun Yp Yq So Yr Ys=>Ajc ATk (A9.o2 p1) G4 So rfl rfl (A9.o p0) (A9.dj p0 p1 AGj) fun Aw Sq Sr Ss=>AGq (AU8 (fun h'=>UpT ([Aa] ++ []) Aw h') AGv ?_);have Aj:=A9.m2 p0 p1 AGj Sr Sq (fun z hz=> .inl (Ss z hz));have Dq:UpT ([Aa] ++ []) Aw Aw:=UpT.start (AVj (AX8 (Aj.b p3) rfl) all_nil);refine AGi (AGi ?_);obtain ⟨Yt,Dr,St⟩:=AGm Sn;refine AVd AS8 rfl (Aj.o2 p1) rfl Dr fun Yu Yv Su Sv Sw=>AUy ATk rfl Dq (fun h' hb=>Ads Sw hb (Ajs (Aj.dj p1 p3 AGj _ (by simp [aO,aO2,Su])) Ajt)) (AGi (AGi (AGi ?_)));obtain ⟨Sx,Sy,G5⟩:=AGm St;have Sz:UpT ([Aa] ++ []) Aw Aw:=UpT.start (AVj (AX8 (Aj.b p3) rfl) all_nil);refine ATc (K':=(fun xr h'=> ∃ x:(Int) × (Int),(x.1,x.2)=Sx/\xr=(.int .i64 x.1)/\Kst h h' ((AYk Aj.L [1,2,3]).set 2 (aB 109 Aa [Ab,(.int .i64 x.2)]))/\UpT ([Aa] ++ []) Aw h')) Dq rfl ?_ fun Yw Yx S5=>?_
    ·refine cwf (l:=[_,_]) Tryz.func61 rfl rfl (AGl (ATx (AGi ?_)));obtain ⟨S7,G6,G7⟩:=AGm Sy;have G8:UpT ([Aa] ++ []) Aw Aw:=UpT.start (AVj (AX8 (Aj.b p3) rfl) all_nil);refine ATc (K':=(fun xr h'=> ∃ x:(Int) × (Int),(x.1,x.2)=S7/\xr=(.int .i64 x.1)/\Kst h h' ((AYk Aj.L [1,2,3]).set 2 (aB 109 Aa [Ab,(.int .i64 x.2)]))/\UpT ([Aa] ++ []) Aw h')) trivial rfl ?_ fun Yy Yz Ta=>?_
     ·refine cwf (l:=[_]) Tryz.func112 rfl rfl (AGl (AGw (AGn (AGn (AXm (AGi (AUq rfl (AVp AVm rfl (ATz AT2 rfl ((Aj.b p3).cell (i:=1) rfl) (AGi (AUq rfl (AVp Abr rfl (ATz Aie rfl ((Aj.b p3).cell (i:=0) rfl) (AUn Ai8 rfl H4 (Aga rfl rfl (AGq (⟨_,rfl,fun Ds=>?_,fun Ds=>?_⟩)))))))))))))))))
      ·refine AGl (AGw (AGy (ATb (⟨_,AS1,((0,B1):(Int) × (Int)),?_,rfl,?_,?_⟩))))
       ·exact AGk (AT0 G6 Ds)
       ·exact Aj.sel [1,2,3] AGj
       ·exact G8
      ·refine AGx (q_t (AGl (AGi (AUq rfl (AVp AVm rfl (ATz AT2 rfl ((Aj.b p3).cell (i:=1) rfl) (ATj rfl rfl (AUq rfl (AVp AVm rfl (Agr [Ab,(.int .i64 (w64 (B1 + 1)))] AT2 rfl rfl rfl (Aj.b p3) (Nat.le_of_ble_eq_true rfl) rfl fun Y1 G9 Hb=>AGq (AGn (AXm (AGi (AUq rfl (AVp Abr rfl ?_)))))))))))))));have B4:=Aj.sb p3 Hb G9 rfl;refine ATz Aie rfl ((B4.b p3).cell (i:=0) rfl) (AGi (AUq rfl (AVp AVm rfl (ATz AT2 rfl ((B4.b p3).cell (i:=1) rfl) (AVe rfl rfl ?_)))));obtain ⟨Tb,Tc,Td⟩:=AGm (AT1 G6 Ds);refine Ac0 (c:=(cI .i8)) Ai8 rfl H4 rfl Tc fun Y2 Y3 Y4 Te Tf=>?_;obtain rfl:=Te;refine ATz Aqu rfl (ATl (Tf 0 _ rfl) B4.x) (Aea Aqv Ac3 rfl (AGw (AGy (⟨_,AS1,(((w64 Tb),(w64 (B1 + 1))):(Int) × (Int)),?_,rfl,?_,?_⟩))))
       ·exact AGk Td
       ·exact B4.sel [1,2,3] AGj
       ·exact (G8.then (G9.stA Hb (AX8 (Aj.b p3) rfl) rfl) (Aeu rfl))
     obtain ⟨⟨Tg,Th⟩,Ti,rfl,Hc,Tj⟩:=Ta;(try dsimp only [Kst.L,List.set,AYk,Abf] at Hc);refine ⟨trivial,?_⟩;subst Ti;(try dsimp only at G7);refine Aea Ac3 Aj3 rfl (Aea Aj3 Akr rfl (AGi (Afj rfl rfl AGj (AGw (AGy (⟨_,AS1,(((Int.tmod (w64 (IntKind.wrap .u8 Tg)) 2),Th):(Int) × (Int)),?_,rfl,?_,?_⟩))))))
     ·exact AGk G7
     ·exact Hc
     ·exact (Sz.then Tj (AVj (Aeu rfl) all_nil))
    obtain ⟨⟨Tk,Y5⟩,Tl,rfl,Dt,Tm⟩:=S5;(try dsimp only [Kst.L,List.set,AYk,Abf] at Dt);refine ⟨(Dq.then Tm (AVj (Aeu rfl) all_nil)),?_⟩;subst Tl;(try dsimp only at G5);refine ATj rfl rfl ?_;obtain ⟨Y6,Hd,Tn⟩:=AGm G5;refine AWc (m:=Dl) AS7 rfl (Aj.o2 p1) Sv Dr rfl Hd fun Y7 To=>Ac8 (m:=Dl) (Ac7 ATd rfl rfl rfl) (Dt.o2 p0) To Dr Hd (show ((cI .i64)).rep _ (w64 (1 + Tk)) _ from rfl) fun Y8 Tp Tq=>ATf (q_b (q_t (AS3 (ATj rfl rfl (AGi (AGq ?_))))));exact ⟨(_,_,_,_,_,_),(AGk Tn).symm,(Dt.uO2 p0 Tq Tp),rfl,trivial⟩
   ·have He:=Sf _ (AGk (AT1 B3 Dp)).symm;(try dsimp only at He);refine AS9 (ATa (ATa (AT9 (q_t (AGl (AGi (AGw (AGy (⟨_,AS1,((R9,G3,Sa,Sb,Sc,B1):(LiI) × (Value) × LnA × LnN × LvA × (Int)),?_,rfl,?_⟩)))))))))
    ·exact AGk He
    ·exact Do
  obtain ⟨⟨Y9,Rw,Za,Zd,Ze,Zf⟩,Tr,rfl,B5⟩:=Rx;(try dsimp only [Kst.L,List.set,AYk,Abf] at B5);refine ⟨trivial,?_⟩;subst Tr;(try dsimp only at Gz);refine AGw (AGy (ATb ?_));obtain rfl:=AGk Gz;exact ⟨_,AS1,B5.x,_,_,_,_,rfl,(B5.o2 p0),B5.s.sel [0] AGj⟩
 ·refine AGx (q_t (AGl (AGi (AGw (AGy ?_)))));obtain rfl:=AGk (Aav Gy Dj);exact ⟨_,AS1,A8.x,_,_,_,_,rfl,(A8.o2 p0),A8.s.sel [0] AGj⟩
def AWh (fuel:Nat) (a1 a2:Int) (a5 a9:LiA) (Ae:Int):Option LiI:=
  ((AWg fuel a1 a2 a5 a9 Ae).bind fun Af=>((AWr fuel Af).bind fun Ag=>((AYd fuel Ag).bind fun (Ah,Ai,Aj)=>(some Ah))))
theorem Ag2 {fuel:Nat} {h:AGs} {a1 a2:Int} {Ac:Value} {a5:LiA} {Ad:Value} {a9:LiA} {Ai:Int} {r:LiI} (H4:SlC (cI .i8) h Ac a5) (H8:SlC (cI .i8) h Ad a9) (hp:AWh fuel a1 a2 a5 a9 Ai=some r):ATt Tryz.prog 7 #[(.agg #[(.int .u8 a1),(.int .u8 a2),Ac,Ad]),(.int .i64 Ai)] h (fun x h'=>Ext h h'/\ ∃ (x0:Value) (F0:List Nat) (Au:List LnA) (Av:List Value),x=x0/\AVo (cI .i64) 49 2 h' F0 Au Av x0 r/\Sp h' h.size [F0]):=by
 unfold AWh at hp;refine cwf (l:=[_,_]) Tryz.func7 rfl rfl (AGl (AYn (Kst.k0 h) [(.int .u8 a1),(.int .u8 a2),Ac,Ad] fun Bl Bm Bn Ae=>ATx (Acb [(.int .u8 a1),(.int .u8 a2),Ac,Ad] A4h rfl rfl (Ae.b p0).agg (AGi ?_))));obtain ⟨Bo,Aw,Ax⟩:=AGm hp;refine Ahc Ae (Ag1 (H4.ext Ae.x) (H8.ext Ae.x) Aw) fun Bp Bq Br Bt Bu Bv Am=>?_;obtain ⟨Bw,Ay,Az⟩:=AGm Ax;refine Ahc Am (Agt (Am.o2 p0).rd Ay) fun Bx By Bz B1 B3 B4 Ao=>?_;obtain ⟨⟨A3,A4,B5⟩,A5,Ap⟩:=AGm Az;dsimp only at Ap;refine Afg rfl (Ai3 (Ao.o2 p0).rd A5) fun B6 B7 A6 A7=>?_;obtain ⟨A8,A9,Ba,Bb,Bc,Be,Bf,Bg,rfl,Bh,Bi,Bj⟩:=A7;have Af:=Ao.n A6 [aO2 (cI .i64) 49 2 A9 Ba Bb A8 A3,aO2 cZ 131 93 Be Bf Bg Bc A4] Bj ⟨Bh,Bi,trivial⟩;simp only [List.cons_append,List.nil_append] at Af;refine AGi (AUe rfl rfl (AUe rfl rfl (AUe rfl rfl (ATi (ATi (ATx (AGi (AGw (AGy ?_)))))))));obtain rfl:=AGk Ap;exact ⟨_,AS1,Af.x,_,_,_,_,rfl,(Af.o2 p0),Af.s.sel [0] AGj⟩
end Go.Proofs.YthbndcbclhkepaaGreatDoor
