/-
  Texts of a proof, joined. Conditions stand in each statement.
-/
import Derived.Test.YthbndcbclhkepaaGreatDoorMDyadicCounts2
set_option linter.unusedVariables false
set_option linter.unusedSimpArgs false
namespace Go.Proofs.YthbndcbclhkepaaGreatDoor
open Go Go.QF
set_option maxRecDepth 100000
set_option maxHeartbeats 4000000
abbrev LnN:=List (List Nat)
abbrev LnA:=List Nat
abbrev LvA:=List Value
abbrev LiI:=List (List Int)
abbrev LiA:=List Int
theorem AGl {α:Type _} {a b:α} (h:some a=some b):a=b:=Option.some.inj h
theorem tt2 {α:Sort _} {β:α->Sort _}:∀ x,β x->True:=fun _ _=>trivial
def AVw (fuel:Nat) (a1 a5:Int):Option Int:=
  ((Apd fuel a1 a5).bind fun (Ac,Ad,Ae)=>(some Ac))
theorem Aac {fuel:Nat} {h:AGt} {Ad:Value} {a1:Int} {Af:Value} {a5 r:Int} (H3:ZZ h Ad a1) (H7:ZZ h Af a5) (hp:AVw fuel a1 a5=some r):ATs Tryz.prog 99 #[Ad,Af] h (fun x h'=>Ext h h'/\ ∃ (x0:Value),x=x0/\ZZ h' x0 r):=by
 unfold AVw at hp;obtain ⟨Ar,rfl,Ai⟩:=H3.cs;obtain ⟨Au,rfl,Aj⟩:=H7.cs;refine cwf (l:=[_,_]) Tryz.func99 rfl rfl (AGm (AYy (Kst.k0 h) Ar fun b9 Bc Be Av=>AYy Av Au fun Bf Bg Bh Aw=>AVr Aw [.bool false,.slice none 0 0] AXi fun Bi Bj Bl Aa=>AZg (Ac1 (Aa.zx Ai) (Aa.b p2) (Ac1 (Aa.zx Aj) (Aa.b p1) ?_))));obtain ⟨⟨Bm,Bn,Bo⟩,Ax,Ak⟩:=AGn hp;dsimp only at Ak;refine Afh rfl (At8 (Aa.zx Ai).2 (Aa.zx Aj).2 Ax) fun Bp Bq Ay Az=>?_;obtain ⟨Br,Bt,rfl,A3,A4⟩:=Az;obtain ⟨Bu,rfl,A5⟩:=A3.cs;obtain ⟨Bv,rfl,A6⟩:=A4.cs;refine AGj (AUb rfl rfl (AUb rfl rfl (AUb rfl rfl (AVr (((Aa.e Ay).az A5).az A6) [.bool false,.slice none 0 0] AXi fun Bw Bx By A7=>AVr A7 [.bool false,.slice none 0 0] AXi fun Bz A8 B1 Am=>AYh Am p1 (AS7 A8) (Am.z p3) fun A9 Ao=>AYh Ao p0 (AS7 A9) (Ao.z p2) fun Ba Ab=>ATw (Ac1 (Ab.z p3) (Ab.b p1) (AYh Ab p4 (AS7 Ba) (Ab.z p3) fun B3 Ac=>AGr (AGz ?_)))))));obtain rfl:=AGl Ak;exact ⟨_,AU7 AUa (cZ.klen (Ac.z p3)) rfl (Ac.b p4),Ac.x,_,rfl,(Ac.z p3).2⟩
def AZ6 (fuel:Nat) (a1 a5:Int):Option Int:=
  ((Apd fuel a1 a5).bind fun (Ad,Ac,Ae)=>(some Ac))
theorem Alx {fuel:Nat} {h:AGt} {Ad:Value} {a1:Int} {Af:Value} {a5 r:Int} (H3:ZZ h Ad a1) (H7:ZZ h Af a5) (hp:AZ6 fuel a1 a5=some r):ATs Tryz.prog 160 #[Ad,Af] h (fun x h'=>Ext h h'/\ ∃ (x0:Value),x=x0/\ZZ h' x0 r):=by
 unfold AZ6 at hp;obtain ⟨Ar,rfl,Ai⟩:=H3.cs;obtain ⟨Au,rfl,Aj⟩:=H7.cs;refine cwf (l:=[_,_]) Tryz.func160 rfl rfl (AGm (AYy (Kst.k0 h) Ar fun b9 Bc Be Av=>AYy Av Au fun Bf Bg Bh Aw=>AVr Aw [.bool false,.slice none 0 0] AXi fun Bi Bj Bl Aa=>AZg (Ac1 (Aa.zx Ai) (Aa.b p2) (Ac1 (Aa.zx Aj) (Aa.b p1) ?_))));obtain ⟨⟨Bm,Bn,Bo⟩,Ax,Ak⟩:=AGn hp;dsimp only at Ak;refine Afh rfl (At8 (Aa.zx Ai).2 (Aa.zx Aj).2 Ax) fun Bp Bq Ay Az=>?_;obtain ⟨Br,Bt,rfl,A3,A4⟩:=Az;obtain ⟨Bu,rfl,A5⟩:=A3.cs;obtain ⟨Bv,rfl,A6⟩:=A4.cs;refine AGj (AUb rfl rfl (AUb rfl rfl (AUb rfl rfl (AVr (((Aa.e Ay).az A5).az A6) [.bool false,.slice none 0 0] AXi fun Bw Bx By A7=>AVr A7 [.bool false,.slice none 0 0] AXi fun Bz A8 B1 Am=>AYh Am p1 (AS7 A8) (Am.z p3) fun A9 Ao=>AYh Ao p0 (AS7 A9) (Ao.z p2) fun Ba Ab=>ATw (Ac1 (Ab.z p2) (Ab.b p0) (AYh Ab p4 (AS7 Ba) (Ab.z p2) fun B3 Ac=>AGr (AGz ?_)))))));obtain rfl:=AGl Ak;exact ⟨_,AU7 AUa (cZ.klen (Ac.z p2)) rfl (Ac.b p4),Ac.x,_,rfl,(Ac.z p2).2⟩
def Ac2 (fuel:Nat) (a1 a2 Aa:Int) (Ac:LiI):Option ((Int × LiI) ⊕ ((LiI))):=
  (if Aa < ((List.replicate (Int.toNat a1) ([]:List Int)).length:Int) then (if 0<=a2/\a2<=100000000 then ((gI Ac Aa).bind fun Ae=>(some (Sum.inl ((w64 (Aa + 1)),(sI Ac Aa (List.replicate (Int.toNat a2) (0:Int))))))) else none) else (some (Sum.inr<| Ac)))
def AV1 (fuel:Nat) (a1 a2:Int):Option LiI:=
  (if 0<=a1/\a1<=100000000 then ((iter (fun s=>Ac2 fuel a1 a2 s.1 s.2) fuel (0,(List.replicate (Int.toNat a1) ([]:List Int)))).bind (fun (Ac:LiI)=>(some Ac))) else none)
theorem AZw {fuel:Nat} {h:AGt} {a1 a2:Int} {r:LiI} (hp:AV1 fuel a1 a2=some r):ATs Tryz.prog 87 #[(.int .i64 a1),(.int .i64 a2)] h (fun x h'=>Ext h h'/\ ∃ (x0:Value) (F0:List Nat) (Ak:List LnA) (Am:List Value),x=x0/\AVt cZ 131 93 h' F0 Ak Am x0 r/\Sp h' h.size [F0]):=by
 unfold AV1 at hp;refine cwf (l:=[_,_]) Tryz.func87 rfl rfl (AGm (ATw (AGj ?_)));obtain ⟨Ao,Ap⟩:=ifN hp;refine Aj1 cZ 93 AUr Axb rfl trivial tt2 rfl rfl AGk Ao fun Aq Ar Au v9 h7 I8 E5 S6=>AGu (AGo (AGm (AGj ?_)));have Ad:=(Kst.k0 h).no2 E5 S6 I8;refine AT4 AUr rfl (Ad.o2 p0).rd (AGj (AGr (AGp (AX6 1046592 (fun x:(Int) × (LiI) × LnA × LnN × LvA=>(x.1,x.2.1)) ((0,(List.replicate (Int.toNat a1) ([]:List Int)),Aq,Ar,Au):(Int) × (LiI) × LnA × LnN × LvA) Ap (fun x=>[(11,(.int .i64 x.1))]) (fun x=>Ad.L.set 0 (aO2 cZ 131 93 x.2.2.1 x.2.2.2.1 x.2.2.2.2 v9 x.2.1)) Ad ⟨rfl,trivial⟩ ?_))));rintro ⟨Bg,Bh,Bi,Bj,Bl⟩ Bm Bn Bo Ab Ae Az;unfold Ac2 at Ae;refine AGm (ATl rfl rfl (AGr (AGo (⟨_,rfl,fun Af=>?_,fun Af=>?_⟩))))
 ·refine AGy (q_t (AGo (AGp (AGm (AGj (AGu (AS3 (AGj (AGj (AGj ?_))))))))));obtain ⟨A3,A4⟩:=ifN (ATy Ae Af);refine Ay9 AVp AXi rfl trivial tt2 rfl rfl AGk A3 fun Bp Bq Br A5 A6 A7 A8=>?_;have Aa:=Ab.no A6 (AX2 A7 A8) A5;obtain ⟨Bt,Aj,A9⟩:=AGn A4;refine AVf AUr rfl (Aa.o2 p1) rfl Aj fun Bu Bv Ba Bw Bx=>Aj0 AWi (Aa.o2 p1) Aj Ba rfl rfl (Aa.o p0) (Aa.dj p0 p1 AGk) fun By Bb Bc Be=>ATh (q_b (q_t (AS3 (ATk rfl rfl (AGj (AGr ?_))))));exact ⟨(_,_,_,_,_),(AGl A9).symm,(Aa.m2 p0 p1 AGk Bc Bb (fun z hz=> .inl (Be z hz))).sel [1] AGk,rfl,trivial⟩
 ·refine AS8 (ATa (ATa (AT7 (q_t (AGm (AGj (AGu (AGz ?_))))))));obtain rfl:=AGl (Az _ (AGl (ATz Ae Af)).symm);exact ⟨_,AS2,Ab.x,_,_,_,_,rfl,(Ab.o2 p0),Ab.s.sel [0] AGk⟩
def Aad (fuel:Nat) (a3:LiI) (Ab:Int) (Af:LiA) (Aa:Int) (Ac:LiI):Option ((Int × LiI) ⊕ ((LiI))):=
  (if Aa < (Af.length:Int) then ((gI Ac Ab).bind fun Ad=>((gI a3 Ab).bind fun Ag=>((gI Ag Aa).bind fun Ah=>((Aek fuel Ah).bind fun Ai=>((gI Ad Aa).bind fun Aj=>(some (Sum.inl ((w64 (Aa + 1)),(sI Ac Ab (sI Ad Aa Ai)))))))))) else (some (Sum.inr<| Ac)))
def Aae (fuel:Nat) (a3:LiI) (Aa:Int) (Ac:LiI):Option ((Int × LiI) ⊕ ((LiI))):=
  (if Aa < (a3.length:Int) then ((gI a3 Aa).bind fun Ad=>((iter (fun s=>Aad fuel a3 Aa Ad s.1 s.2) fuel (0,Ac)).bind (fun (Ae:LiI)=>(some (Sum.inl ((w64 (Aa + 1)),Ae)))))) else (some (Sum.inr<| Ac)))
def Aaf (fuel:Nat) (a3:LiI) (Ab:Int):Option ((Int) ⊕ (((LiI × Bool)) ⊕ (Unit))):=
  (if Ab < (a3.length:Int) then ((gI a3 Ab).bind fun Ac=>(if (Ac.length:Int) < 1 then (some (Sum.inr<| Sum.inl <| ([],false))) else (if 16 < (Ac.length:Int) then (some (Sum.inr<| Sum.inl <| ([],false))) else ((gI a3 0).bind fun Ad=>(if ¬ (Ac.length:Int)=(Ad.length:Int) then (some (Sum.inr<| Sum.inl <| ([],false))) else (some (Sum.inl (w64 (Ab + 1))))))))) else (some (Sum.inr<| Sum.inr <| ())))
def AVe (fuel:Nat) (a3:LiI):Option (LiI × Bool):=
  (((if (a3.length:Int) < 1 then (some (Sum.inl <| ([],false))) else (if 16 < (a3.length:Int) then (some (Sum.inl <| ([],false))) else (some (Sum.inr <| ())))):Option (((LiI × Bool)) ⊕ (Unit))).bind (fun ex=>match ex with | Sum.inl Ab=>(some Ab) | Sum.inr (_)=>((iter (fun s=>Aaf fuel a3 s) fuel 0).bind (fun ex=>match ex with | Sum.inl Ac=>(some Ac) | Sum.inr (_)=>((gI a3 0).bind fun Ad=>((AV1 fuel (a3.length:Int) (Ad.length:Int)).bind fun Ae=>((iter (fun s=>Aae fuel a3 s.1 s.2) fuel (0,Ae)).bind (fun (Af:LiI)=>(some (Af,true))))))))))
theorem Ail {fuel:Nat} {h:AGt} {Ba:Value} {a3:LiI} {r:(LiI × Bool)} (H2:AXs (cI .i64) h Ba a3) (hp:AVe fuel a3=some r):ATs Tryz.prog 42 #[Ba] h (fun x h'=>Ext h h'/\ ∃ (x0:Value) (F0:List Nat) (Bq:List LnA) (Br:List Value),x= .tuple #[x0,.bool r.2]/\AVt cZ 131 93 h' F0 Bq Br x0 r.1/\Sp h' h.size [F0]):=by
 unfold AVe at hp;refine cwf (l:=[_]) Tryz.func42 rfl rfl (AGm (ATi (AGu ?_)));have K0:=Kst.k0 h;obtain ⟨Bt,Be,Ao⟩:=AGn hp;refine Acg 130572 (fun x:Unit=>[]) (fun x h'=>(Sum.inr <| ())=Bt/\Kst h h' (K0.L)) ?_ ?_
 ·refine AGm (AGj (AT4 ATb rfl H2 (ATl rfl rfl (AGj ?_))));by_cases Ag:(a3.length:Int) < 1
  ·rw [decide_eq_true Ag];refine Ab6 12 true (ATj rfl (AGr (ATp rfl (AGm (ATi (AGu ?_))))));obtain rfl:=AGl (ifT Be Ag);refine AGz (ATc ?_);have Ap:=Kst.anil2 cZ 131 93 K0;obtain rfl:=AGl Ao;exact ⟨_,AUk,Ap.x,_,_,_,_,rfl,(Ap.o2 p0),Ap.s.sel [0] AGk⟩
  ·have Bf:=ifF Be Ag;rw [decide_eq_false Ag];refine ATn 12 false (AGj (ATn 12 false (AT4 ATb rfl H2 (ATn 12 false (AYb rfl rfl (ATm rfl (AGr (⟨_,rfl,fun Aq=>?_,fun Aq=>?_⟩))))))))
   ·refine AGm (ATi (AGu ?_));obtain rfl:=AGl (ATy Bf Aq);refine AGz (ATc ?_);have Ar:=Kst.anil2 cZ 131 93 K0;obtain rfl:=AGl Ao;exact ⟨_,AUk,Ar.x,_,_,_,_,rfl,(Ar.o2 p0),Ar.s.sel [0] AGk⟩
   ·refine AGy (q_t ?_);exact ⟨(():Unit),⟨AGl (ATz Bf Aq),K0⟩,trivial⟩
 rintro ⟨⟩ C3 C4 ⟨Bu,Bg⟩;subst Bu;refine AGo (AGm (AGj (AT4 ATb rfl H2 (AGj (AGr (AGp (AYd 2199022731308 Ao (fun x=>[(19,(.int .i64 x))]) (fun x=>Bg.L) Bg ⟨rfl,trivial⟩ ?_)))))));rintro C5 C6 C7 C8 Ab Au Ah;unfold Aaf at Au;refine AGm (ATl rfl rfl (AGr (AGo (⟨_,rfl,fun Av=>?_,fun Av=>?_⟩))))
 ·refine AGy (q_t (AGo (AGp (AGm ?_))));obtain ⟨Bh,Bv,Bi⟩:=AGn (ATy Au Av);refine Adn ATb ATq H2 Ab.x Bv fun _ C9 Aw=>ATw (AGj (AUp AS9 rfl Aw (ATl rfl rfl (AGj ?_))));by_cases Ai:(Bh.length:Int) < 1
  ·rw [decide_eq_true Ai];refine Ab6 26 true (ATj rfl (AGj (Acp 31 true (Aej 31 true (ATj rfl (AGr (ATp rfl (AGm (ATi (AGu (AGz (AUg (ATc (ATc (AUg (ATc ?_))))))))))))))));have Ax:=Kst.anil2 cZ 131 93 Ab;obtain rfl:=AGl (Ah _ (AGl (ifT Bi Ai)).symm);exact ⟨_,AUk,Ax.x,_,_,_,_,rfl,(Ax.o2 p0),Ax.s.sel [0] AGk⟩
  ·have Bj:=ifF Bi Ai;rw [decide_eq_false Ai];refine ATn 26 false (AGj (ATn 26 false (AUp AS9 rfl Aw (ATn 26 false (AYb rfl rfl (ATm rfl (AGj ?_)))))));by_cases Aj:16 < (Bh.length:Int)
   ·rw [decide_eq_true Aj];refine Acp 31 true (Aej 31 true (ATj rfl (AGr (ATp rfl (AGm (ATi (AGu (AGz (AUg (ATc (ATc (AUg (ATc ?_)))))))))))));have Ay:=Kst.anil2 cZ 131 93 Ab;obtain rfl:=AGl (Ah _ (AGl (ifT Bj Aj)).symm);exact ⟨_,AUk,Ay.x,_,_,_,_,rfl,(Ay.o2 p0),Ay.s.sel [0] AGk⟩
   ·rw [decide_eq_false Aj];refine ATn 31 false (AGj (ATn 31 false (AUp AS9 rfl Aw (ATn 31 false (AGj (ATn 31 false ?_))))));obtain ⟨Da,Bw,Bl⟩:=AGn (ifF Bj Aj);refine Am2 ATb rfl H2 rfl Bw fun Db Dc Dd Bx By=>ATn 31 false (AT3 ATq rfl (ATo Bx Ab.x) (ATn 31 false (AUp AS9 rfl By (ATn 31 false (AWp rfl rfl (ATm rfl (AGr (⟨_,rfl,fun Az=>?_,fun Az=>?_⟩))))))))
    ·refine AGm (ATi (AGu (AGz (AUg (ATc (ATc (AUg (ATc ?_))))))));have A3:=Kst.anil2 cZ 131 93 Ab;obtain rfl:=AGl (Ah _ (AGl (ATy Bl Az)).symm);exact ⟨_,AUk,A3.x,_,_,_,_,rfl,(A3.o2 p0),A3.s.sel [0] AGk⟩
    ·refine AGy (q_b (q_t (AS3 (ATk rfl rfl (AGj (AGr ?_))))));exact ⟨_,(AGl (ATz Bl Az)).symm,Ab,rfl,trivial⟩
 ·refine AS8 (ATa (ATa (AT7 (q_t (AGm (AGj (AT4 ATb rfl H2 (AGj ?_))))))));obtain ⟨De,Bz,B1⟩:=AGn (Ah _ (AGl (ATz Au Av)).symm);refine Adn ATb ATq H2 Ab.x Bz fun _ Df B3=>AUp AS9 rfl B3 ?_;obtain ⟨B4,B5,B6⟩:=AGn B1;refine Ahe Ab (AZw B5) fun B7 B8 B9 Bm Dg Dh Bn=>AGu (AGo (AGm (AGj (AT4 ATb rfl H2 (AGj (AGr (AGp (AX6 151115726325928739996032 (fun x:(Int) × (LiI) × LnA × LnN × LvA=>(x.1,x.2.1)) ((0,B4,B7,B8,B9):(Int) × (LiI) × LnA × LnN × LvA) B6 (fun x=>[(50,(.int .i64 x.1))]) (fun x=>Bn.L.set 0 (aO2 cZ 131 93 x.2.2.1 x.2.2.2.1 x.2.2.2.2 Bm x.2.1)) Bn ⟨rfl,trivial⟩ ?_))))))));rintro ⟨Bo,Ca,Cb,Cd,Ce⟩ Di Dj Dk Ac A4 Cf;unfold Aae at A4;refine AGm (ATl rfl rfl (AGr (AGo (⟨_,rfl,fun A5=>?_,fun A5=>?_⟩))))
  ·refine AGy (q_t (AGo (AGp (AGm (AGj (ATw (AGj (AGj ?_))))))));obtain ⟨Dl,Cg,Ch⟩:=AGn (ATy A4 A5);refine Adn ATb ATq H2 Ac.x Cg fun _ Do Ci=>AUp AS9 rfl Ci (AGj (AGr (AGp (AX6 75557575495538171707648 (fun x:(Int) × (LiI) × LnA × LnN × LvA=>(x.1,x.2.1)) ((0,Ca,Cb,Cd,Ce):(Int) × (LiI) × LnA × LnN × LvA) Ch (fun x=>[(58,(.int .i64 x.1))]) (fun x=>Ac.L.set 0 (aO2 cZ 131 93 x.2.2.1 x.2.2.2.1 x.2.2.2.2 Bm x.2.1)) Ac ⟨rfl,trivial⟩ ?_))));rintro ⟨Dp,Dq,Dr,Ds,Dt⟩ Du A6 Dv Ad A7 Cj;unfold Aad at A7;refine AGm (ATl rfl rfl (AGr (AGo (⟨_,rfl,fun A8=>?_,fun A8=>?_⟩))))
   ·refine AGy (q_t (AGo (AGp (AGm (AGj (AGu (AVa (fun h'=>UpT [] A6 h') AGx ?_)))))));have Ak:UpT [] A6 A6:=UpT.start all_nil;refine AGj (AGj ?_);obtain ⟨Dw,A9,Ck⟩:=AGn (ATy A7 A8);refine AVf AUr rfl (Ad.o2 p0) rfl A9 fun Dx Dy Dz Cm Cn=>AU1 AWi rfl Ak (fun h' hb=>ATo Cn hb.ext) (AGj (AGj (AGj ?_)));obtain ⟨D0,Co,Cp⟩:=AGn Ck;refine Am2 ATb rfl H2 rfl Co fun D1 D2 D3 Cq Cr=>AU1 ATq rfl Ak (fun h' hb=>ATo Cq (Ad.x.trans hb.ext)) (AGj ?_);obtain ⟨D4,Ct,Cu⟩:=AGn Cp;refine Adl (c:=(cI .i64)) AS9 rfl Cr rfl Ct fun D5 D6 D7 Cv Cw=>?_;obtain rfl:=Cv;refine AU1 ATe rfl Ak (fun h' hb=>ATo (Cw 0 _ rfl) (Ad.x.trans hb.ext)) ?_;obtain ⟨D8,Cx,Cy⟩:=AGn Cu;refine AX5 Ad Ak (Ac0 Cx) fun D9 Ea Eb Ae Ec=>?_;obtain ⟨Ed,Bp,Cz⟩:=AGn Cy;refine AWo (m:=Bo) AVp rfl (Ad.o2 p0) Cm A9 rfl Bp fun Ee C0=>Adt (m:=Bo) (Ajz AUa (cZ.klen (Ae.z p0)) rfl rfl (cZ.one (Ae.z p0))) (Ae.o2 p1) C0 A9 Bp (Ae.z p0) fun Ef C1 C2=>ATh (q_b (q_t (AS3 (ATk rfl rfl (AGj (AGr ?_))))));exact ⟨(_,_,_,_,_),(AGl Cz).symm,(Ae.uO2 p1 C2 C1).sel [1] AGk,rfl,trivial⟩
   ·refine AS8 (ATa (ATa (AT7 (q_b (q_t (AS3 (ATk rfl rfl (AGj (AGr ?_)))))))));exact ⟨(_,_,_,_,_),(AGl (Cj _ (AGl (ATz A7 A8)).symm)).symm,Ad,rfl,trivial⟩
  ·refine AS8 (ATa (ATa (AT7 (q_t (AGm (AGj (ATi (AGu (AGz ?_)))))))));obtain rfl:=AGl (Cf _ (AGl (ATz A4 A5)).symm);exact ⟨_,AUk,Ac.x,_,_,_,_,rfl,(Ac.o2 p0),Ac.s.sel [0] AGk⟩
def AW1 (fuel:Nat) (a3:LiI):Option LiI:=
  ((AVe fuel a3).bind fun (x5,x6)=>(some x5))
theorem Aee {fuel:Nat} {h:AGt} {Ab:Value} {a3 r:LiI} (H2:AXs (cI .i64) h Ab a3) (hp:AW1 fuel a3=some r):ATs Tryz.prog 23 #[Ab] h (fun x h'=>Ext h h'/\ ∃ (x0:Value) (F0:List Nat) (Ai:List LnA) (Aj:List Value),x=x0/\AVt cZ 131 93 h' F0 Ai Aj x0 r/\Sp h' h.size [F0]):=by
 unfold AW1 at hp;refine cwf (l:=[_]) Tryz.func23 rfl rfl (AGm (ATw (AGj ?_)));have K0:=Kst.k0 h;obtain ⟨⟨x5,x6⟩,Ak,Ag⟩:=AGn hp;dsimp only at Ag;refine Afh rfl (Ail (H2.ext K0.x) Ak) fun Av Aw E9 Ao=>?_;obtain ⟨Ax,Ay,Az,A3,rfl,Ap,Aq⟩:=Ao;refine AGj (AUb rfl rfl (AUb rfl rfl (ATi (ATw (AGj (AGu (AGz ?_)))))));have Aa:=K0.no2 E9 Aq Ap;obtain rfl:=AGl Ag;exact ⟨_,AS2,Aa.x,_,_,_,_,rfl,(Aa.o2 p0),Aa.s.sel [0] AGk⟩
def AZh (fuel:Nat) (a3:LiI) (Ab:Int):Option ((Int) ⊕ (((Int × Int × Bool)) ⊕ (Unit))):=
  (if Ab < (a3.length:Int) then ((gI a3 Ab).bind fun Ac=>(if (Ac.length:Int) < 1 then (some (Sum.inr<| Sum.inl <| (0,0,false))) else (if 16 < (Ac.length:Int) then (some (Sum.inr<| Sum.inl <| (0,0,false))) else ((gI a3 0).bind fun Ad=>(if ¬ (Ac.length:Int)=(Ad.length:Int) then (some (Sum.inr<| Sum.inl <| (0,0,false))) else (some (Sum.inl (w64 (Ab + 1))))))))) else (some (Sum.inr<| Sum.inr <| ())))
def AVi (fuel:Nat) (a3:LiI):Option (Int × Int × Bool):=
  (((if (a3.length:Int) < 1 then (some (Sum.inl <| (0,0,false))) else (if 16 < (a3.length:Int) then (some (Sum.inl <| (0,0,false))) else (some (Sum.inr <| ())))):Option (((Int × Int × Bool)) ⊕ (Unit))).bind (fun ex=>match ex with | Sum.inl Ab=>(some Ab) | Sum.inr (_)=>((iter (fun s=>AZh fuel a3 s) fuel 0).bind (fun ex=>match ex with | Sum.inl Ac=>(some Ac) | Sum.inr (_)=>((gI a3 0).bind fun Ad=>(some ((a3.length:Int),(Ad.length:Int),true)))))))
theorem AZi {fuel:Nat} {h:AGt} {Aq:Value} {a3:LiI} {r:(Int × Int × Bool)} (H2:AXs cZ h Aq a3) (hp:AVi fuel a3=some r):ATs Tryz.prog 109 #[Aq] h (fun x h'=>Ext h h'/\x= .tuple #[.int .i64 r.1,.int .i64 r.2.1,.bool r.2.2]):=by
 unfold AVi at hp;refine cwf (l:=[_]) Tryz.func109 rfl rfl (AGm (ATi (ATi (AGu ?_))));have K0:=Kst.k0 h;obtain ⟨A3,Ar,Ai⟩:=AGn hp;refine Acg 32668 (fun x:Unit=>[]) (fun x h'=>(Sum.inr <| ())=A3/\Kst h h' (K0.L)) ?_ ?_
 ·refine AGm (AGj (AT4 AUr rfl H2 (ATl rfl rfl (AGj ?_))));by_cases Ad:(a3.length:Int) < 1
  ·rw [decide_eq_true Ad];refine Ab6 10 true (ATj rfl (AGr (ATp rfl (AGm (ATi (ATi (AGu ?_)))))));obtain rfl:=AGl (ifT Ar Ad);refine AGz (ATc ?_);obtain rfl:=AGl Ai;exact ⟨_,Abo,K0.x,rfl⟩
  ·have Au:=ifF Ar Ad;rw [decide_eq_false Ad];refine ATn 10 false (AGj (ATn 10 false (AT4 AUr rfl H2 (ATn 10 false (AYb rfl rfl (ATm rfl (AGr (⟨_,rfl,fun Aj=>?_,fun Aj=>?_⟩))))))))
   ·refine AGm (ATi (ATi (AGu ?_)));obtain rfl:=AGl (ATy Au Aj);refine AGz (ATc ?_);obtain rfl:=AGl Ai;exact ⟨_,Abo,K0.x,rfl⟩
   ·refine AGy (q_t ?_);exact ⟨(():Unit),⟨AGl (ATz Au Aj),K0⟩,trivial⟩
 rintro ⟨⟩ Bc Be ⟨A4,Av⟩;subst A4;refine AGo (AGm (AGj (AT4 AUr rfl H2 (AGj (AGr (AGp (AYd 549755682908 Ai (fun x=>[(17,(.int .i64 x))]) (fun x=>Av.L) Av ⟨rfl,trivial⟩ ?_)))))));rintro Bf Bg Bh Bi Aa Ak Ae;unfold AZh at Ak;refine AGm (ATl rfl rfl (AGr (AGo (⟨_,rfl,fun Am=>?_,fun Am=>?_⟩))))
 ·refine AGy (q_t (AGo (AGp (AGm ?_))));obtain ⟨Aw,A5,Ax⟩:=AGn (ATy Ak Am);refine Adn AUr AWi H2 Aa.x A5 fun _ Bj Ao=>ATw (AGj (AUp AVp rfl Ao (ATl rfl rfl (AGj ?_))));by_cases Af:(Aw.length:Int) < 1
  ·rw [decide_eq_true Af];refine Ab6 24 true (ATj rfl (AGj (Acp 29 true (Aej 29 true (ATj rfl (AGr (ATp rfl (AGm (ATi (ATi (AGu (AGz (AUg (ATc (ATc (AUg (ATc ?_)))))))))))))))));obtain rfl:=AGl (Ae _ (AGl (ifT Ax Af)).symm);exact ⟨_,Abo,Aa.x,rfl⟩
  ·have Ay:=ifF Ax Af;rw [decide_eq_false Af];refine ATn 24 false (AGj (ATn 24 false (AUp AVp rfl Ao (ATn 24 false (AYb rfl rfl (ATm rfl (AGj ?_)))))));by_cases Ag:16 < (Aw.length:Int)
   ·rw [decide_eq_true Ag];refine Acp 29 true (Aej 29 true (ATj rfl (AGr (ATp rfl (AGm (ATi (ATi (AGu (AGz (AUg (ATc (ATc (AUg (ATc ?_))))))))))))));obtain rfl:=AGl (Ae _ (AGl (ifT Ay Ag)).symm);exact ⟨_,Abo,Aa.x,rfl⟩
   ·rw [decide_eq_false Ag];refine ATn 29 false (AGj (ATn 29 false (AUp AVp rfl Ao (ATn 29 false (AGj (ATn 29 false ?_))))));obtain ⟨Bl,A6,Az⟩:=AGn (ifF Ay Ag);refine Am2 AUr rfl H2 rfl A6 fun Bm Bn Bo A7 A8=>ATn 29 false (AT3 AWi rfl (ATo A7 Aa.x) (ATn 29 false (AUp AVp rfl A8 (ATn 29 false (AWp rfl rfl (ATm rfl (AGr (⟨_,rfl,fun Ap=>?_,fun Ap=>?_⟩))))))))
    ·refine AGm (ATi (ATi (AGu (AGz (AUg (ATc (ATc (AUg (ATc ?_)))))))));obtain rfl:=AGl (Ae _ (AGl (ATy Az Ap)).symm);exact ⟨_,Abo,Aa.x,rfl⟩
    ·refine AGy (q_b (q_t (AS3 (ATk rfl rfl (AGj (AGr ?_))))));exact ⟨_,(AGl (ATz Az Ap)).symm,Aa,rfl,trivial⟩
 ·refine AS8 (ATa (ATa (AT7 (q_t (AGo (AXr (AGj (AT4 AUr rfl H2 (AGj ?_)))))))));obtain ⟨Bp,A9,Ba⟩:=AGn (Ae _ (AGl (ATz Ak Am)).symm);refine Adn AUr AWi H2 Aa.x A9 fun _ Bq Bb=>AUp AVp rfl Bb (ATi (ATi (AGu (AGz ?_))));obtain rfl:=AGl Ba;exact ⟨_,Abo,Aa.x,rfl⟩
def AW6 (fuel:Nat) (a3:LiI):Option (Int × Bool):=
  ((AVi fuel a3).bind fun (x5,x6,x7)=>(if (!x7)=true then (some (0,false)) else (if ¬ x5=x6 then (some (0,false)) else (some (x5,true)))))
theorem Afc {fuel:Nat} {h:AGt} {Ad:Value} {a3:LiI} {r:(Int × Bool)} (H2:AXs cZ h Ad a3) (hp:AW6 fuel a3=some r):ATs Tryz.prog 89 #[Ad] h (fun x h'=>Ext h h'/\x= .tuple #[.int .i64 r.1,.bool r.2]):=by
 unfold AW6 at hp;refine cwf (l:=[_]) Tryz.func89 rfl rfl (AGm (ATi (ATw (AGj ?_))));have K0:=Kst.k0 h;obtain ⟨⟨x5,x6,x7⟩,Ak,Aa⟩:=AGn hp;dsimp only at Aa;refine AW0 K0 (AZi (H2.ext K0.x) Ak) fun Ap Aq Ab=>AGj (AUb rfl rfl (AUb rfl rfl (AUb rfl rfl (ATi (ATi (AGu (AGo (AGm (AGj (AWq rfl (AGj ?_)))))))))));cases Ag:(!x7)
 ·refine ATn 15 false (AGj (ATn 15 false (AGj (ATn 15 false (AWp rfl rfl (ATm rfl (AGr ?_)))))));have Ah:=Aa7 Aa Ag;refine ⟨_,rfl,fun Ac=>?_,fun Ac=>?_⟩
  ·refine AGm (ATi (AGu (AGz (ATc ?_))));obtain rfl:=AGl (ATy Ah Ac);exact ⟨_,AUk,Ab.x,rfl⟩
  ·refine AGy (q_t (AGm (AGj (ATi (AGu (AGz ?_))))));obtain rfl:=AGl (ATz Ah Ac);exact ⟨_,AUk,Ab.x,rfl⟩
 ·refine Ab6 15 true (ATj rfl (AGr (ATp rfl (AGm (ATi (AGu (AGz (ATc ?_))))))));obtain rfl:=AGl (ifT Aa Ag);exact ⟨_,AUk,Ab.x,rfl⟩
def Ac3 (fuel:Nat) (Ac:Int) (Ad:LiA) (Aa:Int) (Ab:LiI):Option ((Int × LiI) ⊕ ((LiI))):=
  (if Aa < (Ad.length:Int) then ((gI Ad Aa).bind fun Af=>((gI Ab Ac).bind fun Ae=>((Aj6 fuel Af).bind fun Ag=>(if Ae.length<=100000000 then (some (Sum.inl ((w64 (Aa + 1)),(sI Ab Ac (Ae ++ [Ag]))))) else none)))) else (some (Sum.inr<| Ab)))
def Ac4 (fuel:Nat) (a3:LiI) (Aa:Int) (Ac:LiI):Option ((Int × LiI) ⊕ ((LiI))):=
  (if Aa < (a3.length:Int) then ((gI a3 Aa).bind fun Ad=>((iter (fun s=>Ac3 fuel Aa Ad s.1 s.2) fuel (0,Ac)).bind (fun (Ae:LiI)=>(some (Sum.inl ((w64 (Aa + 1)),Ae)))))) else (some (Sum.inr<| Ac)))
def AX7 (fuel:Nat) (a3:LiI):Option LiI:=
  (if 0<=(a3.length:Int)/\(a3.length:Int)<=100000000 then ((iter (fun s=>Ac4 fuel a3 s.1 s.2) fuel (0,(List.replicate (Int.toNat (a3.length:Int)) ([]:List Int)))).bind (fun (Ab:LiI)=>(some Ab))) else none)
theorem Af3 {fuel:Nat} {h:AGt} {Aq:Value} {a3 r:LiI} (H2:AXs cZ h Aq a3) (hp:AX7 fuel a3=some r):ATs Tryz.prog 53 #[Aq] h (fun x h'=>Ext h h'/\ ∃ (x0:Value) (F0:List Nat) (A4:List LnA) (A5:List Value),x=x0/\AVt cZ 131 93 h' F0 A4 A5 x0 r/\Sp h' h.size [F0]):=by
 unfold AX7 at hp;refine cwf (l:=[_]) Tryz.func53 rfl rfl (AGm (ATw (AGj (AT4 AUr rfl H2 ?_))));obtain ⟨A6,A7⟩:=ifN hp;refine Aj1 cZ 93 AUr Axb rfl trivial tt2 rfl rfl AGk A6 fun A8 A9 Ba v11 h9 Bb E7 S8=>AGu (AGo (AGm (AGj (AT4 AUr rfl H2 (AGj (AGr (AGp ?_)))))));have Av:=(Kst.k0 h).no2 E7 S8 Bb;refine AX6 137438949456 (fun x:(Int) × (LiI) × LnA × LnN × LvA=>(x.1,x.2.1)) ((0,(List.replicate (Int.toNat (a3.length:Int)) ([]:List Int)),A8,A9,Ba):(Int) × (LiI) × LnA × LnN × LvA) A7 (fun x=>[(12,(.int .i64 x.1))]) (fun x=>Av.L.set 0 (aO2 cZ 131 93 x.2.2.1 x.2.2.2.1 x.2.2.2.2 v11 x.2.1)) Av ⟨rfl,trivial⟩ ?_;rintro ⟨Cg,Bf,Bg,Bh,Bi⟩ Ch Ci Cj Ab Ah Bj;unfold Ac4 at Ah;refine AGm (ATl rfl rfl (AGr (AGo (⟨_,rfl,fun Ai=>?_,fun Ai=>?_⟩))))
 ·refine AGy (q_t (AGo (AGp (AGm (AGj (ATw (AGj (AGj ?_))))))));obtain ⟨Ck,Bl,Bm⟩:=AGn (ATy Ah Ai);refine Adn AUr AWi H2 Ab.x Bl fun _ Cm Aw=>AUp AVp rfl Aw (AGj (AGr (AGp (AX6 68718428224 (fun x:(Int) × (LiI) × LnA × LnN × LvA=>(x.1,x.2.1)) ((0,Bf,Bg,Bh,Bi):(Int) × (LiI) × LnA × LnN × LvA) Bm (fun x=>[(20,(.int .i64 x.1))]) (fun x=>Ab.L.set 0 (aO2 cZ 131 93 x.2.2.1 x.2.2.2.1 x.2.2.2.2 v11 x.2.1)) Ab ⟨rfl,trivial⟩ ?_))));rintro ⟨Cn,Co,Cp,Cq,Cr⟩ Ct Cu Cv Ad Aj Bn;unfold Ac3 at Aj;refine AGm (ATl rfl rfl (AGr (AGo (⟨_,rfl,fun Ak=>?_,fun Ak=>?_⟩))))
  ·refine AGy (q_t (AGo (AGp (AGm ?_))));obtain ⟨Cw,Bo,Bp⟩:=AGn (ATy Aj Ak);refine Adl (c:=cZ) AVp rfl Aw rfl Bo fun Cx Cy Bq Ae Br=>Afb (c:=cZ) AUa rfl (Ad.zx Ae) (fun j u hu=>(ATo (Br j u hu) Ad.x)) (AVr Ad [.bool false,.slice none 0 0] AXi fun Cz Bt C0 Ax=>AYh Ax p0 (AS7 Bt) (Ax.zx Ae) fun Am Aa=>AGr ?_);obtain ⟨C1,Ao,Bu⟩:=AGn Bp;obtain ⟨Ay,Bv,Bw,Bx,By⟩:=(Aa.o2 p1).rowG Ao;refine AVa (fun h'=>UpT (Ay ++ []) Am h') AGx ?_;have Ac:UpT (Ay ++ []) Am Am:=UpT.start (AVn Bx all_nil);refine AGj (AGj (AGj (AGj (AVf AUr rfl (Aa.o2 p1) rfl Ao fun C2 C3 Bz B1 B3=>AU1 AWi rfl Ac (fun h' hb=>Aeb B3 hb (Akj (By _ Bz) Akk)) (Aa5 Bq AUa (cZ.klen (Aa.zx Ae)) rfl Ac (fun h' hb=>((Aa.b p0).upT hb (A42 (fun b hb hg=>(Aa.dj p0 p1 AGk) b hb (Bw b hg)) A43)).agg) ?_)))));obtain ⟨C4,B4,B5⟩:=AGn Bu;refine AXm Ac (fun _ E=>Ac.thenE E) rfl (Alu (Aa.zx Ae).2 B4) fun C5 C6 Az B6=>?_;obtain ⟨C7,rfl,B7⟩:=B6;have A3:=Ac.thenE Az;obtain ⟨C8,rfl,B8⟩:=B7.cs;have Ap:=(Aa.e Az).az B8;obtain ⟨B9,Ca⟩:=ifN B5;refine A2t AVp AXi rfl rfl AUr AWi (Ap.o2 p2) B1 Ao Bv A3 (fun _ U=>A3.then U (Afa rfl)) (fun _=>rfl) rfl (Ap.z p0) (fun _ _=>rfl) (fun _ _=>rfl) rfl AGk B9 fun C9 Da Db Dc Dd De Df Cb Cd Ce=>ATh (q_b (q_t (AS3 (ATk rfl rfl (AGj (AGr ?_))))));exact ⟨(_,_,_,_,_),(AGl Ca).symm,(Ap.uo2 p2 Cd Cb Ce).sel [2] AGk,rfl,trivial⟩
  ·refine AS8 (ATa (ATa (AT7 (q_b (q_t (AS3 (ATk rfl rfl (AGj (AGr ?_)))))))));exact ⟨(_,_,_,_,_),(AGl (Bn _ (AGl (ATz Aj Ak)).symm)).symm,Ad,rfl,trivial⟩
 ·refine AS8 (ATa (ATa (AT7 (q_t (AGm (AGj (AGu (AGz ?_))))))));obtain rfl:=AGl (Bj _ (AGl (ATz Ah Ai)).symm);exact ⟨_,AS2,Ab.x,_,_,_,_,rfl,(Ab.o2 p0),Ab.s.sel [0] AGk⟩
def Abr (fuel:Nat) (a3:LiI) (Ac:LiA) (Ae:Int) (Aa:LiA) (Ab:Int):Option ((LiA × Int) ⊕ ((LiA))):=
  (if Ab < (Ac.length:Int) then ((gI Ac Ab).bind fun Af=>((gI a3 Ae).bind fun Ag=>((gI Ag Af).bind fun Ah=>(if Aa.length<=100000000 then (some (Sum.inl ((Aa ++ [Ah]),(w64 (Ab + 1))))) else none)))) else (some (Sum.inr<| Aa)))
def Abt (fuel:Nat) (a3:LiI) (a7 Ae:LiA) (Aa:LiI) (Ab:Int):Option ((LiI × Int) ⊕ ((LiI))):=
  (if Ab < (a7.length:Int) then ((gI a7 Ab).bind fun Af=>((iter (fun s=>Abr fuel a3 Ae Af s.1 s.2) fuel ([],0)).bind (fun (Ag:LiA)=>(if Aa.length<=100000000 then (some (Sum.inl ((Aa ++ [Ag]),(w64 (Ab + 1))))) else none)))) else (some (Sum.inr<| Aa)))
def AW7 (fuel:Nat) (a3:LiI) (a7 Ac:LiA):Option LiI:=
  ((iter (fun s=>Abt fuel a3 a7 Ac s.1 s.2) fuel ([],0)).bind (fun (Ad:LiI)=>(some Ad)))
theorem Afd {fuel:Nat} {h:AGt} {Ag:Value} {a3:LiI} {Ai:Value} {a7:LiA} {Ak:Value} {Am:LiA} {r:LiI} (H2:AXs cZ h Ag a3) (H6:SlC (cI .i64) h Ai a7) (Ap:SlC (cI .i64) h Ak Am) (hp:AW7 fuel a3 a7 Am=some r):ATs Tryz.prog 136 #[Ag,Ai,Ak] h (fun x h'=>Ext h h'/\ ∃ (x0:Value) (F0:List Nat) (Ay:List LnA) (Az:List Value),x=x0/\AVt cZ 131 93 h' F0 Ay Az x0 r/\Sp h' h.size [F0]):=by
 unfold AW7 at hp;refine cwf (l:=[_,_,_]) Tryz.func136 rfl rfl (AGm (ATw (AGu (AGo (AGm (AGj (AUp An8 rfl H6 (AGj (AGr (AGp ?_))))))))));have Au:=Kst.anil2 cZ 131 93 (Kst.k0 h);refine AX6 2199023228544 (fun x:(LiI) × (Value) × LnA × LnN × LvA × (Int)=>(x.1,x.2.2.2.2.2)) (([],(.slice none 0 0),[],[],[],0):(LiI) × (Value) × LnA × LnN × LvA × (Int)) hp (fun x=>[(7,x.2.1),(15,(.int .i64 x.2.2.2.2.2))]) (fun x=>Au.L.set 0 (aO2 cZ 131 93 x.2.2.1 x.2.2.2.1 x.2.2.2.2.1 x.2.1 x.1)) Au ⟨rfl,rfl,trivial⟩ ?_;rintro ⟨Br,Bt,Bu,Bv,Bw,Bx⟩ By Bz B1 Ab Ac A3;unfold Abt at Ac;refine AGm (ATl rfl rfl (AGr (AGo (⟨_,rfl,fun Ad=>?_,fun Ad=>?_⟩))))
 ·refine AGy (q_t (AGo (AGp (AGm ?_))));obtain ⟨B3,A4,A5⟩:=AGn (ATy Ac Ad);refine Asp An8 AT1 H6 Ab.x A4 fun _=>(ATw (AGu (AGo (AGm (AGj (AUp An8 rfl Ap (AGj (AGr (AGp ?_)))))))));have Av:=Kst.anil cZ 93 Ab;refine AX6 68717384704 (fun x:(LiA) × (Value) × LnA × (Int)=>(x.1,x.2.2.2)) (([],(.slice none 0 0),[],0):(LiA) × (Value) × LnA × (Int)) A5 (fun x=>[(10,x.2.1),(21,(.int .i64 x.2.2.2))]) (fun x=>Av.L.set 0 (aO cZ 93 x.2.2.1 x.2.1 x.1)) Av ⟨rfl,rfl,trivial⟩ ?_;rintro ⟨B4,B5,B6,B7⟩ B8 B9 Ca Aa Ae A6;unfold Abr at Ae;refine AGm (ATl rfl rfl (AGr (AGo (⟨_,rfl,fun Af=>?_,fun Af=>?_⟩))))
  ·refine AGy (q_t (AGo (AGp (AGm ?_))));obtain ⟨Cb,A7,A8⟩:=AGn (ATy Ae Af);refine Asp An8 AT1 Ap Aa.x A7 fun _=>(AGu (AS3 (AGj (AGj (AGj ?_)))));obtain ⟨Cd,A9,Ba⟩:=AGn A8;refine Adn AUr AWi H2 Aa.x A9 fun _ Ce Bb=>AGj ?_;obtain ⟨Cf,Bc,Be⟩:=AGn Ba;refine Adl (c:=cZ) AVp rfl Bb rfl Bc fun Cg Ch Ci Aw Bf=>Afb (c:=cZ) AUa rfl (Aa.zx Aw) (fun j u hu=>(ATo (Bf j u hu) Aa.x)) ?_;obtain ⟨Bg,Bh⟩:=ifN Be;refine Adu AVp AXi rfl rfl trivial tt2 (fun _=>rfl) rfl (Aa.zx Aw) (Aa.o p0) AGk Bg fun Cj Ck Cm Cn Bi Bj Bl=>ATi (ATh (q_b (q_t (AS3 (ATk rfl rfl (AGj (AGr ?_)))))));exact ⟨(_,_,_,_),(AGl Bh).symm,(Aa.uo p0 Bj Bi Bl),rfl,rfl,trivial⟩
  ·refine AS8 (ATa (ATa (AT7 (q_t (AS3 (AGj (AGj ?_)))))));obtain ⟨Bm,Bn⟩:=ifN (A6 _ (AGl (ATz Ae Af)).symm);refine A0r AUr Axb rfl rfl trivial tt2 (fun _=>rfl) rfl (Aa.o p0) (Aa.o2 p1) (Aa.dj p0 p1 AGk) AGk Bm fun Co Cp Cq Cr Bo Bp Bq=>ATi (ATh (q_b (q_t (AS3 (ATk rfl rfl (AGj (AGr ?_)))))));exact ⟨(_,_,_,_,_,_),(AGl Bn).symm,(Aa.m2 p0 p1 AGk Bp Bo Bq).sel [1] AGk,rfl,rfl,trivial⟩
 ·refine AS8 (ATa (ATa (AT7 (q_t (AGm (AGj (AGu (AGz ?_))))))));obtain rfl:=AGl (A3 _ (AGl (ATz Ac Ad)).symm);exact ⟨_,AS2,Ab.x,_,_,_,_,rfl,(Ab.o2 p0),Ab.s.sel [0] AGk⟩
def AY6 (fuel:Nat) (Ab:LiI) (Ac:Int) (Ad:LiI) (Aa:Int):Option ((Int) ⊕ ((Int))):=
  (((if Aa < (Ab.length:Int) then ((gI Ad Aa).bind fun Ae=>((gI Ae Ac).bind fun Af=>((Aqa fuel Af).bind fun Ag=>(if Ag=0 then (some (Sum.inl <| ())) else (some (Sum.inr <| ())))))) else (some (Sum.inr <| ()))):Option ((Unit) ⊕ (Unit))).bind (fun ex=>match ex with | Sum.inl _=>(some (Sum.inl (w64 (Aa + 1)))) | Sum.inr (_)=>(some (Sum.inr<| Aa))))
def AY7 (fuel:Nat) (Ag:LiI) (Ac Ah Ae Aa:Int) (Ab:LiI):Option ((Int × LiI) ⊕ ((LiI))):=
  (if Aa < (Ag.length:Int) then ((gI Ab Ae).bind fun Ad=>((gI Ab Ac).bind fun Af=>((gI Af Ac).bind fun Ai=>((gI Ad Aa).bind fun Aj=>((Aj5 fuel Ai Aj).bind fun Ak=>((gI Ad Ac).bind fun Am=>((gI Af Aa).bind fun Ao=>((Aj5 fuel Am Ao).bind fun Ap=>((BAf fuel Ak Ap).bind fun Aq=>((AVw fuel Aq Ah).bind fun Ar=>(some (Sum.inl ((w64 (Aa + 1)),(sI Ab Ae (sI Ad Aa Ar))))))))))))))) else (some (Sum.inr<| Ab)))
def AY8 (fuel:Nat) (Ab:LiI) (Ac Ae Aa:Int) (Ad:LiI):Option ((Int × LiI) ⊕ ((LiI))):=
  (if Aa < (Ab.length:Int) then ((iter (fun s=>AY7 fuel Ab Ac Ae Aa s.1 s.2) fuel ((w64 (Ac + 1)),Ad)).bind (fun (Af:LiI)=>(some (Sum.inl ((w64 (Aa + 1)),Af))))) else (some (Sum.inr<| Ad)))
def AY9 (fuel:Nat) (Ac:LiI) (Ae:Bool) (Aa:Int) (Ab:LiI) (Af:Int):Option ((Bool × Int × LiI × Int) ⊕ ((Int) ⊕ (Bool × Int))):=
  (if Aa < (Ac.length:Int) then ((((((iter (fun s=>AY6 fuel Ac Aa Ab s) fuel Aa).bind (fun (Ah:Int)=>(some ( Ah)))):Option ((Int))).bind (fun (Ad:Int)=>(if Ad=(Ac.length:Int) then (some (Sum.inl <| 0)) else (((if Aa < Ad then ((gI Ab Aa).bind fun Ai=>((gI Ab Ad).bind fun Aj=>(some ( ((!Ae),(sI (sI Ab Ad Ai) Aa Aj)))))) else (some ( (Ae,Ab)))):Option ((Bool × LiI))).bind (fun ((Ak,Am):Bool × LiI)=>((iter (fun s=>AY8 fuel Ac Aa Af s.1 s.2) fuel ((w64 (Aa + 1)),Am)).bind (fun (Ag:LiI)=>((gI Ag Aa).bind fun Ao=>((gI Ao Aa).bind fun Ap=>(some (Sum.inr <| (Ak,Ag,Ap)))))))))))):Option ((Int) ⊕ (Bool × LiI × Int))).bind (fun ex=>match ex with | Sum.inl Aq=>(some (Sum.inr<| Sum.inl <| Aq)) | Sum.inr ((Ar,Au,Av))=>(some (Sum.inl (Ar,(w64 (Aa + 1)),Au,Av))))) else (some (Sum.inr<| Sum.inr <| (Ae,Af))))
def AUl (fuel:Nat) (a3:LiI):Option Int:=
  ((AX7 fuel a3).bind fun Aa=>((Aek fuel 1).bind fun Ad=>((iter (fun s=>AY9 fuel Aa s.1 s.2.1 s.2.2.1 s.2.2.2) fuel (false,0,Aa,Ad)).bind (fun ex=>match ex with | Sum.inl Ae=>(some Ae) | Sum.inr ((Af,Ab))=>(if Af=true then ((Axc fuel Ab).bind fun Ag=>(some Ag)) else (some Ab))))))
theorem AVy {fuel:Nat} {h:AGt} {Bj:Value} {a3:LiI} {r:Int} (H2:AXs cZ h Bj a3) (hp:AUl fuel a3=some r):ATs Tryz.prog 49 #[Bj] h (fun x h'=>Ext h h'/\ ∃ (x0:Value),x=x0/\ZZ h' x0 r):=by
 unfold AUl at hp;refine cwf (l:=[_]) Tryz.func49 rfl rfl (AGm (AVr (Kst.k0 h) [.bool false,.slice none 0 0] AXi fun b5 h6 E8 Bn=>AZg (AGj ?_)));obtain ⟨Bo,Cx,Cy⟩:=AGn hp;refine Ahe Bn (Af3 (H2.ext Bn.x) Cx) fun Cz C0 C1 v20 Gh Gi Bp=>ATw (AGj (AT4 AUr rfl (Bp.o2 p0).rd (ATw ?_)));obtain ⟨C2,C3,C4⟩:=AGn Cy;refine Af9 Bp (Ac0 C3) fun C5 Gj Gk C6=>AVr C6 [.bool false,.slice none 0 0] AXi fun Bq C7 Gl Br=>AYh Br p0 (AS7 C7) (Br.z p1) fun Gm Bt=>AGu (AGo (AGm (AGu (AGp (AX6 2658455991569831745807614120560625600 (fun x:(Bool) × (Int) × (LiI) × LnA × LnN × LvA × (Int) × LvA=>(x.1,x.2.1,x.2.2.1,x.2.2.2.2.2.2.1)) ((false,0,Bo,Cz,C0,C1,C2,C5):(Bool) × (Int) × (LiI) × LnA × LnN × LvA × (Int) × LvA) C4 (fun x=>[(6,(.bool x.1)),(7,(.int .i64 x.2.1))]) (fun x=>((Bt.L.set 2 (aO2 cZ 131 93 x.2.2.2.1 x.2.2.2.2.1 x.2.2.2.2.2.1 v20 x.2.2.1)).set 1 (aZ x.2.2.2.2.2.2.2 x.2.2.2.2.2.2.1)).set 0 (aB 93 Bq x.2.2.2.2.2.2.2)) Bt ⟨rfl,rfl,trivial⟩ ?_)))));rintro ⟨Bu,Ag,Bv,C8,C9,Da,Gn,Gp⟩ Gq Db Gr Ab Ax Bw;unfold AY9 at Ax;refine AGo (AGm (AGj (AGj (ATl rfl rfl (AGr (⟨_,rfl,fun Ay=>?_,fun Ay=>?_⟩))))))
 ·refine AGy (q_t ?_);obtain ⟨Dc,Dd,Bx⟩:=AGn (ATy Ax Ay);refine Acg 2658455991569831745807614120558593856 (fun x:(Bool) × (LiI) × LnA × LnN × LvA × (Int) × LvA=>[(6,(.bool x.1))]) (fun x h'=>(Sum.inr <| (x.1,x.2.1,x.2.2.2.2.2.1))=Dc/\Kst h h' (((Ab.L.set 2 (aO2 cZ 131 93 x.2.2.1 x.2.2.2.1 x.2.2.2.2.1 v20 x.2.1)).set 1 (aZ x.2.2.2.2.2.2 x.2.2.2.2.2.1)).set 0 (aB 93 Bq x.2.2.2.2.2.2))) ?_ ?_
  ·refine AGp (AGm (AGj (AGu ?_)));obtain ⟨De,Df,By⟩:=AGn Dd;refine Acg 274873712896 (fun x:(Int)=>[(8,(.int .i64 x))]) (fun x h'=>( x)=De/\Kst h h' (Ab.L)) ?_ ?_
   ·refine AGp (AYd 274873712896 Df (fun x=>[(8,(.int .i64 x))]) (fun x=>Ab.L) Ab ⟨rfl,trivial⟩ ?_);rintro Am Gt Gu Gv Ah Bz B1;unfold AY6 at Bz;obtain ⟨Dg,B3,Az⟩:=AGn Bz;refine Acg 68715282432 (fun x:Unit=>[]) (fun x h'=>(Sum.inl <| ())=Dg/\Kst h h' (Ah.L)) ?_ ?_
    ·refine AGm (AGj (AGj (ATl rfl rfl (AGj ?_))));by_cases Ao:Am < (Bo.length:Int)
     ·rw [decide_eq_true Ao];refine ATn 25 true (AGj (ATn 25 true (AGj (ATn 25 true ?_))));obtain ⟨Gw,A3,Dh⟩:=AGn (ifT B3 Ao);refine AVf AUr rfl (Ah.o2 p2) rfl A3 fun Gx Gy Gz Di Dj=>ATn 25 true (AT3 AWi rfl Dj (ATn 25 true (AGj (ATn 25 true ?_))));obtain ⟨G3,B4,Dk⟩:=AGn Dh;refine AWo (m:=Am) AVp rfl (Ah.o2 p2) Di A3 rfl B4 fun G4 Dl=>ATn 25 true ?_;obtain ⟨G5,Do,Dp⟩:=(Ah.o2 p2).cells Dl A3 B4;have A4:=Ah.az Do;refine Afb (c:=cZ) AUa rfl (A4.z p0) (fun j u hu=>(Dp j u hu)) (ATn 25 true ?_);obtain ⟨G6,Dq,B5⟩:=AGn Dk;refine AW0 A4 (Apb (A4.z p0).2 Dq) fun G7 G8 B6=>ATn 25 true (AUy rfl rfl (ATj rfl (AGr (⟨_,rfl,fun A5=>?_,fun A5=>?_⟩))))
      ·refine AGy (q_t ?_);exact ⟨(():Unit),⟨AGl (ATy B5 A5),B6.sel [1,2,3,4] AGk⟩,trivial⟩
      ·obtain rfl:=AGl (ATz B5 A5);refine AS8 (ATa (ATa (AT7 (q_t ?_))));exact ⟨(Am:(Int)),⟨AGl (B1 _ (AGl Az).symm),B6.sel [1,2,3,4] AGk⟩,rfl,trivial⟩
     ·rw [decide_eq_false Ao];refine Acp 25 false (Afz 25 false (ATm rfl (AGr (ATr rfl ?_))));obtain rfl:=AGl (ifF B3 Ao);refine AS8 (ATa (ATa (AT7 (q_t ?_))));exact ⟨(Am:(Int)),⟨AGl (B1 _ (AGl Az).symm),Ah⟩,rfl,trivial⟩
    rintro ⟨⟩ G9 Hb ⟨Dr,Ds⟩;subst Dr;refine AGp (AS3 (AGj (ATk rfl rfl (ATi (ATh (q_b (q_t ?_)))))));exact ⟨_,(AGl Az).symm,Ds,rfl,trivial⟩
   rintro Dt Hc B7 ⟨Du,Ae⟩;subst Du;refine AGo (AGm (AGj (AGj (AUy rfl rfl (AGr (⟨_,rfl,fun A6=>?_,fun A6=>?_⟩))))))
   ·refine AGm (AV6 (Ago ) (AYh Ae p3 (AS7 B7) (AS7 B7) fun B8 B9=>AGr ?_));obtain rfl:=AGl (ATy By A6);refine AGz (ATc (AUg (ATc (ATc (AUg (ATc ?_))))));obtain rfl:=AGl (Bw _ (AGl Bx).symm);exact ⟨_,AU7 AUa (cZ.klen (AS7 B8)) rfl (B9.b p3),B9.x,_,rfl,(AS7 B8).2⟩
   ·refine AGy (q_t ?_);obtain ⟨Dv,Ca,Dw⟩:=AGn (ATz By A6);refine Acg 2305838611167182912 (fun x:(Bool) × (LiI) × LnA × LnN × LvA=>[(6,(.bool x.1))]) (fun x h'=>( (x.1,x.2.1))=Dv/\Kst h h' (Ae.L.set 2 (aO2 cZ 131 93 x.2.2.1 x.2.2.2.1 x.2.2.2.2 v20 x.2.1))) ?_ ?_
    ·refine AGm (AGj (AGj (AYb rfl rfl (AGr (⟨_,rfl,fun A7=>?_,fun A7=>?_⟩)))))
     ·refine AGo (AXr (AGj (AGj (AGj (AGj (AGj (AGj ?_)))))));obtain ⟨Dx,Cb,Dy⟩:=AGn (ATy Ca A7);refine AUh AUr AWi (Ae.o2 p2) Cb fun _ Hd Dz=>AGj (AGj ?_);obtain ⟨D0,Cd,D1⟩:=AGn Dy;refine AUh AUr AWi (Ae.o2 p2) Cd fun _ He D2=>Afv AUr AWi (Ae.o2 p2) D2 Dz Cd Cb rfl rfl (fun _=>rfl) (fun _=>rfl) (fun _=>rfl) (fun _ _=>rfl) fun Hf Hg D3 D4 D5 Hh D6 D7 D8=>AGr (AS3 (AGj (AWq rfl (AGu ?_))));exact ⟨(((!Bu),(sI (sI Bv Dt Dx) Ag D0),D3,D4,D5):(Bool) × (LiI) × LnA × LnN × LvA),⟨AGl D1,(Ae.uo2 p2 D7 D6 D8)⟩,rfl,trivial⟩
     ·refine AGy (q_t ?_);exact ⟨((Bu,Bv,C8,C9,Da):(Bool) × (LiI) × LnA × LnN × LvA),⟨AGl (ATz Ca A7),Ae⟩,rfl,trivial⟩
    rintro ⟨D9,Ea,Eb,Ec,Ed⟩ Hj Hk ⟨Ee,Ce⟩;subst Ee;refine AGo (AGm (AGj (ATk rfl rfl (AGu (AGp (AX6 20769187434139301290749948462106112 (fun x:(Int) × (LiI) × LnA × LnN × LvA=>(x.1,x.2.1)) (((w64 (Ag + 1)),Ea,Eb,Ec,Ed):(Int) × (LiI) × LnA × LnN × LvA) Dw (fun x=>[(9,(.int .i64 x.1))]) (fun x=>Ce.L.set 2 (aO2 cZ 131 93 x.2.2.1 x.2.2.2.1 x.2.2.2.2 v20 x.2.1)) Ce ⟨rfl,trivial⟩ ?_))))));rintro ⟨Ap,Cf,Cg,Ch,Ci⟩ Hl Hm Hn Ai A8 Ef;unfold AY8 at A8;refine AGo (AGm (AGj (AGj (ATl rfl rfl (AGr (⟨_,rfl,fun A9=>?_,fun A9=>?_⟩))))))
    ·refine AGy (q_t (AGo (AGp (AGm (AGj (ATk rfl rfl (AGu (AGp (AX6 20769187434138129922501267905577984 (fun x:(Int) × (LiI) × LnA × LnN × LvA=>(x.1,x.2.1)) (((w64 (Ag + 1)),Cf,Cg,Ch,Ci):(Int) × (LiI) × LnA × LnN × LvA) (ATy A8 A9) (fun x=>[(10,(.int .i64 x.1))]) (fun x=>Ai.L.set 2 (aO2 cZ 131 93 x.2.2.1 x.2.2.2.1 x.2.2.2.2 v20 x.2.1)) Ai ⟨rfl,trivial⟩ ?_)))))))));rintro ⟨Ho,Hq,Hr,Hs,Ht⟩ Hu Ba Hv Aa Bb Eg;unfold AY7 at Bb;refine AGo (AGm (AGj (AGj (ATl rfl rfl (AGr (⟨_,rfl,fun Bc=>?_,fun Bc=>?_⟩))))))
     ·refine AGy (q_t (AGo (AGp (AVa (fun h'=>UpT [] Ba h') AGx ?_))));have Ad:UpT [] Ba Ba:=UpT.start all_nil;refine AGj (AGj ?_);obtain ⟨Hw,Ac,Eh⟩:=AGn (ATy Bb Bc);refine AVf AUr rfl (Aa.o2 p2) rfl Ac fun Hx Hy Hz Ei Ej=>AU1 AWi rfl Ad (fun h' hb=>ATo Ej hb.ext) (AGj (AGj (AGj ?_)));obtain ⟨Ia,Aj,Ek⟩:=AGn Eh;refine AVf AUr rfl (Aa.o2 p2) rfl Aj fun Ib Ic Id El Em=>AU1 AWi rfl Ad (fun h' hb=>ATo Em hb.ext) (AGj ?_);obtain ⟨Ie,Cj,En⟩:=AGn Ek;refine AWo (m:=Ag) AVp rfl (Aa.o2 p2) El Aj rfl Cj fun If Eo=>?_;obtain ⟨Ih,Ck,Ep⟩:=(Aa.o2 p2).cells Eo Aj Cj;refine Aki (c:=cZ) AUa rfl Ck Ad (fun h' hb j u hu=>ATo (Ep j u hu) hb.ext) (AGj (AGj (AVf AUr rfl (Aa.o2 p2) rfl Ac fun Ii Ij Ik Er Es=>AU1 AWi rfl Ad (fun h' hb=>ATo Es hb.ext) (AGj ?_))));obtain ⟨Il,Aq,Et⟩:=AGn En;refine AWo (m:=Ap) AVp rfl (Aa.o2 p2) Er Ac rfl Aq fun Im Eu=>?_;obtain ⟨Io,Cm,Ev⟩:=(Aa.o2 p2).cells Eu Ac Aq;refine Aki (c:=cZ) AUa rfl Cm Ad (fun h' hb j u hu=>ATo (Ev j u hu) hb.ext) ?_;have Be:=(Aa.az (cZ.upT Ck Ad)).az (cZ.upT Cm Ad);obtain ⟨Ip,Ew,Ey⟩:=AGn Et;refine AX5 Be Ad (Aia (Be.z p1).2 (Be.z p0).2 Ew) fun Iq Ir Is Ez Af=>AGj (AGj (AVf AUr rfl (Aa.o2 p2) rfl Ac fun It Iu Iv Fa Fb=>AU1 AWi rfl Af (fun h' hb=>ATo Fb hb.ext) (AGj ?_)));obtain ⟨Iw,Cn,Fc⟩:=AGn Ey;refine AWo (m:=Ap) AVp rfl (Aa.o2 p2) Fa Ac rfl Cn fun Ix Fd=>?_;obtain ⟨Iy,Co,Fe⟩:=(Aa.o2 p2).cells Fd Ac Cn;refine Aki (c:=cZ) AUa rfl Co Af (fun h' hb j u hu=>ATo (Fe j u hu) hb.ext) (AGj (AGj (AVf AUr rfl (Aa.o2 p2) rfl Aj fun Iz I0 I1 Ff Fg=>AU1 AWi rfl Af (fun h' hb=>ATo Fg hb.ext) (AGj ?_))));obtain ⟨I2,Cp,Fh⟩:=AGn Fc;refine AWo (m:=Ag) AVp rfl (Aa.o2 p2) Ff Aj rfl Cp fun I3 Fi=>?_;obtain ⟨I5,Cq,Fj⟩:=(Aa.o2 p2).cells Fi Aj Cp;refine Aki (c:=cZ) AUa rfl Cq Af (fun h' hb j u hu=>ATo (Fj j u hu) hb.ext) ?_;have Bf:=(Ez.az (cZ.upT Co Af)).az (cZ.upT Cq Af);obtain ⟨I6,Fk,Fl⟩:=AGn Fh;refine AX5 Bf Af (Aia (Bf.z p1).2 (Bf.z p0).2 Fk) fun I7 I9 Ja Bg Fm=>?_;obtain ⟨Jc,Fo,Fp⟩:=AGn Fl;refine AX5 Bg Fm (BBf (Bg.z p3).2 (Bg.z p0).2 Fo) fun Je Jf Jg Ar Cr=>Agr (Ar.z p8) Cr (Aa.b p0) ?_;obtain ⟨Jh,Fq,Fr⟩:=AGn Fp;refine AX5 Ar Cr (Aac (Ar.z p0).2 (Ar.z p8).2 Fq) fun Ji Jj Jk Ak Jl=>AWo (m:=Ap) AVp rfl (Aa.o2 p2) Ei Ac rfl Aq fun Jm Ft=>Adt (m:=Ap) (Ajz AUa (cZ.klen (Ak.z p0)) rfl rfl (cZ.one (Ak.z p0))) (Ak.o2 p10) Ft Ac Aq (Ak.z p0) fun Jn Fu Fv=>ATh (q_b (q_t (AS3 (AGj (ATk rfl rfl (AGu ?_))))));exact ⟨(_,_,_,_,_),(AGl Fr).symm,(Ak.uO2 p10 Fv Fu).sel [8,9,10,11] AGk,rfl,trivial⟩
     ·refine AS8 (ATa (ATa (AT7 (q_b (q_t (AS3 (AGj (ATk rfl rfl (AGu ?_)))))))));exact ⟨(_,_,_,_,_),(AGl (Eg _ (AGl (ATz Bb Bc)).symm)).symm,Aa,rfl,trivial⟩
    ·refine AS8 (ATa (ATa (AT7 (q_t (AS3 (AGj (AGj ?_)))))));obtain ⟨Jo,Bh,Fw⟩:=AGn (Ef _ (AGl (ATz A8 A9)).symm);refine AUh AUr AWi (Ai.o2 p2) Bh fun _ Jp Fx=>AGj ?_;obtain ⟨Fy,Ct,Fz⟩:=AGn Fw;refine AWo (m:=Ag) AVp rfl (Ai.o2 p2) Fx Bh rfl Ct fun Jq F4=>?_;obtain ⟨F5,F6,F7⟩:=(Ai.o2 p2).cells F4 Bh Ct;have Au:=Ai.az F6;refine Afb (c:=cZ) AUa rfl (Au.z p0) (fun j u hu=>(F7 j u hu)) (AYh Au p1 (Au.z p2) (Au.z p0) fun Jr F8=>ATh (q_b (q_t ?_)));exact ⟨((D9,Cf,Cg,Ch,Ci,Fy,F5):(Bool) × (LiI) × LnA × LnN × LvA × (Int) × LvA),⟨AGl Fz,F8.sel [1,0,3,4] AGk⟩,rfl,trivial⟩
  rintro ⟨Js,Jt,Ju,Jv,Jw,Jx,Jy⟩ Jz J0 ⟨F9,Ga⟩;subst F9;refine AS3 (AGj (ATk rfl rfl (AGu ?_)));exact ⟨(_,_,_,_,_,_,_,_),(AGl Bx).symm,Ga,rfl,rfl,trivial⟩
 ·refine AS8 (ATa (ATa (AT7 (q_t (AGo (AGm (AGj (AGr ?_))))))));have Cu:=Bw _ (AGl (ATz Ax Ay)).symm;refine ⟨_,rfl,fun Bi=>?_,fun Bi=>?_⟩
  ·refine AGm (Ac1 (Ab.z p1) (Ab.b p0) ?_);obtain ⟨J1,Gb,Gc⟩:=AGn (ifT Cu Bi);refine Af9 Ab (Avh (Ab.z p1).2 Gb) fun J2 Gd J3 Cv=>AYh Cv p4 (AS7 Gd) (Cv.z p0) fun J4 Av=>AGr (AGz (ATc ?_));obtain rfl:=AGl Gc;exact ⟨_,AU7 AUa (cZ.klen (Av.z p0)) rfl (Av.b p4),Av.x,_,rfl,(Av.z p0).2⟩
  ·refine AGy (q_t (AGm (Ac1 (Ab.z p1) (Ab.b p0) (AYh Ab p3 (AS7 Db) (Ab.z p1) fun J5 Aw=>AGr (AGz ?_)))));obtain rfl:=AGl (Aa7 Cu Bi);exact ⟨_,AU7 AUa (cZ.klen (Aw.z p1)) rfl (Aw.b p3),Aw.x,_,rfl,(Aw.z p1).2⟩
end Go.Proofs.YthbndcbclhkepaaGreatDoor
namespace Go.Proofs.YthbndcbclhkepaaGreatDoor
open Go Go.QF
set_option maxRecDepth 100000
theorem A5p {na:Bool} {m:Nat} {z:Int} (h:z=sgn na m):AYc z=1->z=m:=by
 cases na
 ·intro _;rw [h];rfl
 ·intro h1;rw [h] at h1 ⊢;unfold AYc sgn at h1;unfold sgn;simp at h1 ⊢;split at h1 <;> (try split at h1) <;> omega
theorem A5q {na:Bool} {m:Nat} {z:Int} (h:z=sgn na m):AYc z= -1->z= -(m:Int):=by
 cases na
 ·intro h1;rw [h] at h1 ⊢;unfold AYc sgn at h1;unfold sgn;simp at h1 ⊢;split at h1 <;> (try split at h1) <;> omega
 ·intro _;rw [h];rfl
def Akx (a b:Int):Int:=if a < b then -1 else if a=b then 0 else 1
theorem Azl {a b:Int} (h:AYc a≠AYc b) (h2:AYc a < AYc b):Akx a b= -1:=by
 unfold AYc at h h2;unfold Akx;repeat' split at h2
 all_goals (rw [if_pos AGi])
theorem Azm {a b:Int} (h:AYc a≠AYc b) (h2: ¬ AYc a < AYc b):Akx a b=1:=by
 unfold AYc at h h2;unfold Akx
 rw [if_neg (by
   repeat' split at h2
   all_goals (repeat' split at h)
   all_goals omega),if_neg (by
     repeat' split at h2
     all_goals (repeat' split at h)
     all_goals omega)]
theorem Avj {na nb:Bool} {m k:Nat} {a b:Int} (ha:a=sgn na m) (hb:b=sgn nb k) (h:AYc a=AYc b):AYc a * Afg m k=Akx a b:=by
 have h3:AYc a= -1∨AYc a=0∨AYc a=1:=by unfold AYc;split;exact .inl rfl;split;exact .inr (.inl rfl);exact .inr (.inr rfl)
 rcases h3 with h1 | h1 | h1
 ·have e1:=A5q ha h1;have e2:=A5q hb (h ▸ h1);rw [h1];unfold Afg Akx;repeat' split
  all_goals omega
 ·have z:∀ x:Int,AYc x=0->x=0:=fun x hx=>by unfold AYc at hx;repeat' split at hx;all_goals omega
  have e1:=z a h1;have e2:=z b (h ▸ h1);rw [h1,e1,e2];simp [Akx]
 ·have e1:=A5p ha h1;have e2:=A5p hb (h ▸ h1);rw [h1];unfold Afg Akx;repeat' split
  all_goals omega
theorem A8q (a b:Nat): -1<=Afg a b/\Afg a b<=1:=by
 unfold Afg;repeat' split;all_goals omega
theorem A8r (a:Int): -1<=AYc a/\AYc a<=1:=by
 unfold AYc;repeat' split;all_goals omega
theorem A8s {x y:Int} (hx: -1<=x/\x<=1) (hy: -1<=y/\y<=1):IntKind.i64.wrap (x * y)=x * y:=by
 obtain ⟨x1,x2⟩:=hx;obtain ⟨y1,y2⟩:=hy;have Aa:x= -1∨x=0∨x=1:=by omega
 have Ab:y= -1∨y=0∨y=1:=by omega
 rcases Aa with rfl | rfl | rfl <;> rcases Ab with rfl | rfl | rfl <;> decide
theorem A8t {h:AGt} {lo:Nat} {va:Value} {z:Int} (HA:ZV h lo va z):ATs Tryz.prog 138 #[va] h fun x h'=>Ext h h'/\ZV h' (Array.size h) x (z.natAbs:Int):=by
 obtain ⟨na,sa,LA,rfl,HDa,htla,hla,hza⟩:=HA.out;have hna:LA.length<=1000000:=by omega
 have hba:nv LA < 4294967296 ^ 100:=Nat.lt_of_lt_of_le (Ae9 HDa.dig) (Nat.pow_le_pow_right AGk hla);refine AT5 (l:=[_]) mx Tryz.func138 rfl rfl rfl rfl rfl AGx (AGm (Abq [.bool na,sa] (fun _=>trivial) rfl rfl fun Ag h2 V3 E4 Ao Be=>?_));have Bf:Array.size h<=Ag:=Ao;have Bg:=E4.1;have Z8:=(Ext.refl h).trans E4;refine AYx [.bool false,.slice none 0 0] AXi rfl (fun _=>trivial) fun Aa Bh Aq Ab Ar Bi=>?_;have Bj:Array.size h<=Aa:=Nat.le_trans E4.1 Ar;have nebq1bq9:Ag≠Aa:=by have:=V3.lt;omega
 have Bl:=Ab.1;have Au:=Z8.trans Ab;have Ai:=E4.trans Ab;have Av:=E4.trans Ab;refine AZg (AX1 (fs:=1) Ad5 AGx AGk rfl (AT3 AZy rfl ((V3.ext Ab).cell (i:=1) rfl) (ATd trivial rfl (Aew false (HDa.ext Ai) hna hba) fun Bm Bn hk=>?_)));obtain ⟨Ac,Aw⟩:=hk;refine ⟨trivial,?_⟩;have Bo:=Ac.1;have Ax:=Au.trans Ac;have Ay:=Ai.trans Ac;have Az:=Av.trans Ac;have A3:=Aq.ext Ac;have A4:=Ab.trans Ac;obtain ⟨Aj,s3,L3,rfl,Am,A6,A7,A8⟩:=Aw.out;refine AU0 [.bool Aj,s3] AUa rfl rfl rfl rfl (Abn Am.cap) A3 fun Bp A9 Ad=>?_;have Ba:=Ay.thenUpd Ad (fun k hk=>by have Af:k=Aa:=hk;omega);have Bq:=Ad.1;have Br:=Ax.thenUpd Ad (fun k hk=>by have Af:k=Aa:=hk;omega);have Bt:=A4.thenUpd Ad (fun k hk=>by have Af:k=Aa:=hk;omega);have Bu:=Az.thenUpd Ad (fun k hk=>by have Af:k=Aa:=hk;omega);have Bb:=Am.updLo Ad AGi;refine AGr (AGz (⟨_,AU7 AUa rfl rfl A9,?_⟩));exact ⟨Ba,⟨Aj,s3,L3,rfl,Bb.mono AGi,A6,A7,by rw [<- A8,AXn hza];rfl⟩⟩
theorem A8u {h:AGt} {la lb:Nat} {va vb:Value} {a b:Int} (HA:ZV h la va a) (HB:ZV h lb vb b):ATs Tryz.prog 92 #[va,vb] h fun x h'=>Ext h h'/\x= .int .i64 (Akx a b):=by
 obtain ⟨na,sa,LA,rfl,HDa,htla,hla,hza⟩:=HA.out;obtain ⟨nb,sb,LB,rfl,HDb,htlb,hlb,hzb⟩:=HB.out;refine AT5 (l:=[_,_]) mx Tryz.func92 rfl rfl rfl rfl rfl AGx (AGm (Abq [.bool na,sa] (fun _=>trivial) rfl rfl fun Aq h2 V3 E4 A7 B4=>?_));have B5:Array.size h<=Aq:=A7;have B6:=E4.1;have Z8:=(Ext.refl h).trans E4;refine Abq [.bool nb,sb] (fun _=>trivial) rfl rfl fun Au Av Aw Ag A9 B7=>?_;have B8:Array.size h<=Au:=Nat.le_trans E4.1 A9;have nebq1bq9:Aq≠Au:=by have:=V3.lt;omega
 have B9:=Ag.1;have Ba:=Z8.trans Ag;have Ax:=E4.trans Ag;have Ay:=V3.ext Ag;have Bb:=E4.trans Ag;refine AGu (AGo (AVa (fun h'=>Ext Av h') AGx ?_));have Af:=Ext.refl Av;refine Aa5 [.bool na,sa] AUa rfl rfl Af (fun h' hb=>(Ay.ext hb).agg) (ATd Af rfl (Am6 (HA.ext Ax)) fun Ca Cb hk=>?_);obtain ⟨Ab,rfl⟩:=hk;have Ai:=Af.trans Ab;refine ⟨Ai,?_⟩;have Cd:=Ab.1;have Bc:=Ba.trans Ab;have Az:=Ax.trans Ab;have Be:=Ay.ext Ab;have Bf:=Bb.trans Ab;have Bg:=Aw.ext Ab;have Bh:=Ag.trans Ab;refine Aa5 [.bool nb,sb] AUa rfl rfl Ai (fun h' hb=>(Aw.ext hb).agg) (ATd Ai rfl (Am6 (HB.ext Az)) fun Ce A3 hk=>?_);obtain ⟨Ac,rfl⟩:=hk;have Bi:=Ai.trans Ac;refine ⟨Bi,?_⟩;have Cf:=Ac.1;have Bj:=Bc.trans Ac;have Ad:=Az.trans Ac;have A4:=Be.ext Ac;have Bl:=Bf.trans Ac;have A5:=Bg.ext Ac;have Bm:=Bh.trans Ac;refine ATi (AGu (AGo (AGm (AGj (AGj (Awt rfl rfl (fun Bn=>?_) (fun Bn=>?_)))))))
 ·refine AGr (ATp rfl (AGo (AGm (AGj (AGj (AXh rfl rfl (fun Bo=>?_) (fun Bo=>?_)))))))
  ·refine AGr (ATp rfl (AGm (AGu (AGz (ATc (ATc (⟨_,AS2,?_⟩)))))));first | exact ⟨Ad,congrArg (Value.int .i64) (by rw [Ak,Am];exact Avj hza hzb AGi)⟩ | exact ⟨Ad,congrArg (Value.int .i64) (Azl (by assumption) (by assumption)).symm⟩ | exact ⟨Ad,congrArg (Value.int .i64) (Azm (by assumption) AGi).symm⟩
  ·refine AGr (ATr rfl (AGy (q_t (AGm (AGu (AGz (ATc (⟨_,AS2,?_⟩))))))));first | exact ⟨Ad,congrArg (Value.int .i64) (by rw [Ak,Am];exact Avj hza hzb AGi)⟩ | exact ⟨Ad,congrArg (Value.int .i64) (Azl (by assumption) (by assumption)).symm⟩ | exact ⟨Ad,congrArg (Value.int .i64) (Azm (by assumption) AGi).symm⟩
 ·refine AGr (ATr rfl (AGy (q_t (AGo (AVa (fun h'=>Ext A3 h') AGx ?_)))));have Af:=Ext.refl A3;refine AGj (AX1 (fs:=1) Ad5 AGx AGk rfl (AU1 AZy rfl Af (fun h' hb=>(A4.ext hb).cell (i:=1) rfl) (ATd Af rfl (Aa8 (DS.ext HDa Ad) AGi) fun Cg Ch hk=>?_)));obtain ⟨Ae,L1,Bp,Bq,Ak,Cj⟩:=hk;have Aj:=Af.trans Ae;refine ⟨Aj,?_⟩;have Ck:=Ae.1;have Br:=Bj.trans Ae;have A6:=Ad.trans Ae;have Bt:=A4.ext Ae;have Bu:=Bl.trans Ae;have Bv:=A5.ext Ae;have Bw:=Bm.trans Ae;refine AX1 (fs:=1) Ad5 AGx AGk rfl (AU1 AZy rfl Aj (fun h' hb=>(A5.ext hb).cell (i:=1) rfl) (ATd Aj rfl (Aa8 (DS.ext HDb A6) AGi) fun Cm Bx hk=>?_));obtain ⟨Aa,L2,By,Bz,Am,Co⟩:=hk;have Ao:=Aj.trans Aa;refine ⟨Ao,?_⟩;have Cp:=Aa.1;have Cq:=Br.trans Aa;have Ap:=A6.trans Aa;have Cr:=Bt.ext Aa;have Ct:=Bu.trans Aa;have Cu:=Bv.ext Aa;have Cv:=Bw.trans Aa;have B1:=Bp.ext Aa;refine ATd Ao rfl (Ard B1 By Bq Bz AGi AGi) fun Cw Bx hk=>?_;obtain ⟨rfl,rfl⟩:=hk;refine ⟨Ao,?_⟩;refine AZe rfl rfl ?_;rw [A8s (A8r _) (A8q _ _)];refine AGu (AGz (⟨_,AS2,?_⟩));first | exact ⟨Ap,congrArg (Value.int .i64) (by rw [Ak,Am];exact Avj hza hzb AGi)⟩ | exact ⟨Ap,congrArg (Value.int .i64) (Azl (by assumption) (by assumption)).symm⟩ | exact ⟨Ap,congrArg (Value.int .i64) (Azm (by assumption) AGi).symm⟩
def A07 (fuel:Nat) (a:Int):Option Int:=some (a.natAbs:Int)
def At9 (fuel:Nat) (a b:Int):Option Int:=some (Akx a b)
theorem Azn {fuel:Nat} {h:AGt} {u:Value} {a r:Int} (H1:ZZ h u a) (hp:A07 fuel a=some r):ATs Tryz.prog 138 #[u] h (fun x h'=>Ext h h'/\ ∃ (x0:Value),x=x0/\ZZ h' x0 r):=by
 cases hp;exact (A8t H1).mono fun x h' hk=>⟨hk.1,x,rfl,hk.2.zz⟩
theorem Asq {fuel:Nat} {h:AGt} {u v:Value} {a b r:Int} (H1:ZZ h u a) (H2:ZZ h v b) (hp:At9 fuel a b=some r):ATs Tryz.prog 92 #[u,v] h (fun x h'=>Ext h h'/\x= .int .i64 r):=by
 cases hp;exact A8u H1 H2
end Go.Proofs.YthbndcbclhkepaaGreatDoor
namespace Go.Proofs.YthbndcbclhkepaaGreatDoor
open Go Go.QF
set_option maxRecDepth 100000
set_option maxHeartbeats 4000000
def Abu (fuel:Nat) (a3:LiI) (Ab:Int) (Af:LiA) (Aa:Int) (Ac:LiI):Option ((Int × LiI) ⊕ (((LiI × Bool)) ⊕ (LiI))):=
  (if Aa < (Af.length:Int) then ((gI a3 Ab).bind fun Ag=>((gI Ag Aa).bind fun Ah=>((Avg fuel Ah).bind fun (Ai,Aj)=>(if (!Aj)=true then (some (Sum.inr<| Sum.inl <| ([],false))) else ((gI Ac Ab).bind fun Ad=>((gI Ad Aa).bind fun Ak=>(some (Sum.inl ((w64 (Aa + 1)),(sI Ac Ab (sI Ad Aa Ai))))))))))) else (some (Sum.inr<| Sum.inr <| Ac)))
def Abv (fuel:Nat) (a3:LiI) (x5 x6 Aa:Int) (Ac:LiI):Option ((Int × LiI) ⊕ (((LiI × Bool)) ⊕ (LiI))):=
  (if Aa < ((List.replicate (Int.toNat x5) ([]:List Int)).length:Int) then (if 0<=x6/\x6<=100000000 then ((gI Ac Aa).bind fun Ai=>((gI (sI Ac Aa (List.replicate (Int.toNat x6) (0:Int))) Aa).bind fun Af=>((iter (fun s=>Abu fuel a3 Aa Af s.1 s.2) fuel (0,(sI Ac Aa (List.replicate (Int.toNat x6) (0:Int))))).bind (fun ex=>match ex with | Sum.inl Ag=>(some (Sum.inr<| Sum.inl <| Ag)) | Sum.inr (Ah)=>(some (Sum.inl ((w64 (Aa + 1)),Ah))))))) else none) else (some (Sum.inr<| Sum.inr <| Ac)))
def AYi (fuel:Nat) (a3:LiI):Option (LiI × Bool):=
  ((AVi fuel a3).bind fun (x5,x6,x7)=>(if (!x7)=true then (some ([],false)) else (if 0<=x5/\x5<=100000000 then ((iter (fun s=>Abv fuel a3 x5 x6 s.1 s.2) fuel (0,(List.replicate (Int.toNat x5) ([]:List Int)))).bind (fun ex=>match ex with | Sum.inl Ae=>(some Ae) | Sum.inr (Af)=>(some (Af,true)))) else none)))
theorem Ajm {fuel:Nat} {h:AGt} {Aw:Value} {a3:LiI} {r:(LiI × Bool)} (H2:AXs cZ h Aw a3) (hp:AYi fuel a3=some r):ATs Tryz.prog 56 #[Aw] h (fun x h'=>Ext h h'/\ ∃ (x0:Value) (F0:List Nat) (Bg:List LnA) (Bh:List Value),x= .tuple #[x0,.bool r.2]/\AVt (cI .i64) 49 2 h' F0 Bg Bh x0 r.1/\Sp h' h.size [F0]):=by
 unfold AYi at hp;refine cwf (l:=[_]) Tryz.func56 rfl rfl (AGm (ATi (ATw (AGj ?_))));have K0:=Kst.k0 h;obtain ⟨⟨x5,x6,x7⟩,Bl,Ae⟩:=AGn hp;dsimp only at Ae;refine AW0 K0 (AZi (H2.ext K0.x) Bl) fun Cu Cv A5=>AGj (AUb rfl rfl (AUb rfl rfl (AUb rfl rfl (ATi (ATi (AGu (AGo (AGm (AGj (AWq rfl (AGr (⟨_,rfl,fun Af=>?_,fun Af=>?_⟩))))))))))))
 ·refine AGm (ATi (AGu (AGz (ATc ?_))));have Ag:=Kst.anil2 (cI .i64) 49 2 A5;obtain rfl:=AGl (ifT Ae Af);exact ⟨_,AUk,Ag.x,_,_,_,_,rfl,(Ag.o2 p0),Ag.s.sel [0] AGk⟩
 ·refine AGy (q_t (AGm (AGj ?_)));obtain ⟨Bm,Bn⟩:=ifN (Aa7 Ae Af);refine Aj1 (cI .i64) 2 ATb Aff rfl trivial tt2 rfl rfl AGk Bm fun Bo Bp Bq A6 Cw Br Bt Bu=>AGu (AGo (AGm (AGj ?_)));have Ah:=A5.no2 Bt Bu Br;refine AT4 ATb rfl (Ah.o2 p0).rd (AGj (AGr (AGp (AX6 4611686018410614540 (fun x:(Int) × (LiI) × LnA × LnN × LvA=>(x.1,x.2.1)) ((0,(List.replicate (Int.toNat x5) ([]:List Int)),Bo,Bp,Bq):(Int) × (LiI) × LnA × LnN × LvA) Bn (fun x=>[(24,(.int .i64 x.1))]) (fun x=>Ah.L.set 0 (aO2 (cI .i64) 49 2 x.2.2.1 x.2.2.2.1 x.2.2.2.2 A6 x.2.1)) Ah ⟨rfl,trivial⟩ ?_))));rintro ⟨Ab,Bv,Cx,A7,Bw⟩ Cy Cz C0 Ad Ai A8;unfold Abv at Ai;refine AGm (ATl rfl rfl (AGr (AGo (⟨_,rfl,fun Aj=>?_,fun Aj=>?_⟩))))
  ·refine AGy (q_t (AGo (AGp (AGm (AGj (ATw (AGj (AGj (AGj ?_)))))))));obtain ⟨Bx,By⟩:=ifN (ATy Ai Aj);refine Ai3 (c:=(cI .i64)) (a:=0) AS9 Acy rfl rfl (fun _=>rfl) rfl trivial tt2 rfl rfl AGk Bx fun A9 Bz C1 B1 B3 B4 B5=>?_;have Ac:=Ad.no B3 (AX2 B4 B5) B1;obtain ⟨C2,Ba,B6⟩:=AGn By;refine AVf ATb rfl (Ac.o2 p1) rfl Ba fun B7 C3 B8 C4 C5=>Aj0 ATq (Ac.o2 p1) Ba B8 rfl rfl (Ac.o p0) (Ac.dj p0 p1 AGk) fun C6 B9 Ca Cb=>AZg (AGj (AGj ?_));have Ak:=Ac.m2 p0 p1 AGk Ca B9 (fun z hz=> .inl (Cb z hz));obtain ⟨C7,Bb,Cd⟩:=AGn B6;refine AUh ATb ATq (Ak.o2 p1) Bb fun _ C8 Ce=>AUp AS9 rfl ((Ak.o2 p1).rowI Ce Bb) (AGj (AGr (AGp ?_)));have Am:=Ak.sel [1] AGk;dsimp only [AYv,Ab8] at Am;refine AX6 2305842871774744076 (fun x:(Int) × (LiI) × LnA × LnN × LvA=>(x.1,x.2.1)) ((0,(sI Bv Ab (List.replicate (Int.toNat x6) (0:Int))),(B7 :: (A7.set (Int.toNat Ab) [A9]).flatten),(A7.set (Int.toNat Ab) [A9]),(Bw.set (Int.toNat Ab) Bz)):(Int) × (LiI) × LnA × LnN × LvA) Cd (fun x=>[(37,(.int .i64 x.1))]) (fun x=>Am.L.set 0 (aO2 (cI .i64) 49 2 x.2.2.1 x.2.2.2.1 x.2.2.2.2 A6 x.2.1)) Am ⟨rfl,trivial⟩ ?_;rintro ⟨C9,Da,Db,Dc,Dd⟩ De Df Dg Aa Ao Bc;unfold Abu at Ao;refine AGm (ATl rfl rfl (AGr (AGo (⟨_,rfl,fun Ap=>?_,fun Ap=>?_⟩))))
   ·refine AGy (q_t (AGo (AGp (AGm (AGj (ATw (AGj (AGj ?_))))))));obtain ⟨Dh,Cf,Cg⟩:=AGn (ATy Ao Ap);refine Adn AUr AWi H2 Aa.x Cf fun _ Di Ch=>AGj ?_;obtain ⟨Dj,Ci,Cj⟩:=AGn Cg;refine Adl (c:=cZ) AVp rfl Ch rfl Ci fun Dk Dl Do Be Ck=>Afb (c:=cZ) AUa rfl (Aa.zx Be) (fun j u hu=>(ATo (Ck j u hu) Aa.x)) ?_;obtain ⟨⟨Dp,Dq⟩,Cm,Aq⟩:=AGn Cj;dsimp only at Aq;refine AW0 Aa (Axd (Aa.zx Be).2 Cm) fun Dr Ds Ar=>AGj (AUb rfl rfl (AUb rfl rfl (ATi (AGu (AGo (AGm (AGj (AWq rfl (AGr (⟨_,rfl,fun Au=>?_,fun Au=>?_⟩))))))))))
    ·refine AGm (ATi (AGu (AGz (ATc (AUg (ATc (ATc (AUg (AUg (ATc (ATc (AUg (ATc ?_)))))))))))));have Av:=Kst.anil2 (cI .i64) 49 2 Ar;obtain rfl:=AGl (A8 _ (AGl (Bc _ (AGl (ifT Aq Au)).symm)).symm);exact ⟨_,AUk,Av.x,_,_,_,_,rfl,(Av.o2 p0),Av.s.sel [0] AGk⟩
    ·refine AGy (q_t (AS3 (AGj (AGj ?_))));obtain ⟨Dt,Bf,Cn⟩:=AGn (Aa7 Aq Au);refine AUh ATb ATq (Ar.o2 p0) Bf fun _ Du Co=>AGj (AGj ?_);obtain ⟨Dv,Cp,Cq⟩:=AGn Cn;refine AZv (m:=Ab) Ar p0 AS9 ATe Co Bf Cp (fun _=>rfl) fun _ Dw Cr=>ATh (q_b (q_t (AS3 (ATk rfl rfl (AGj (AGr ?_))))));exact ⟨(_,_,_,_,_),(AGl Cq).symm,Cr,rfl,trivial⟩
   ·refine AS8 (ATa (ATa (AT7 (q_b (q_t (AS3 (ATk rfl rfl (AGj (AGr ?_)))))))));exact ⟨(_,_,_,_,_),(AGl (Bc _ (AGl (ATz Ao Ap)).symm)).symm,Aa,rfl,trivial⟩
  ·refine AS8 (ATa (ATa (AT7 (q_t (AGm (AGj (ATi (AGu (AGz ?_)))))))));obtain rfl:=AGl (A8 _ (AGl (ATz Ai Aj)).symm);exact ⟨_,AUk,Ad.x,_,_,_,_,rfl,(Ad.o2 p0),Ad.s.sel [0] AGk⟩
def Aag (fuel:Nat) (Ad:LiI) (Aa:Int) (Ab:LiI):Option ((Int × LiI) ⊕ ((LiI))):=
  (if Aa < (Ad.length:Int) then ((gI Ab Aa).bind fun Ac=>((Aek fuel 1).bind fun Ae=>((gI Ac Aa).bind fun Af=>(some (Sum.inl ((w64 (Aa + 1)),(sI Ab Aa (sI Ac Aa Ae)))))))) else (some (Sum.inr<| Ab)))
def AWc (fuel:Nat) (a1:Int):Option (LiI × Bool):=
  (((if a1 < 1 then (some (Sum.inl <| ([],false))) else (if 16 < a1 then (some (Sum.inl <| ([],false))) else (some (Sum.inr <| ())))):Option (((LiI × Bool)) ⊕ (Unit))).bind (fun ex=>match ex with | Sum.inl Ac=>(some Ac) | Sum.inr (_)=>((AV1 fuel a1 a1).bind fun Ab=>((iter (fun s=>Aag fuel Ab s.1 s.2) fuel (0,Ab)).bind (fun (Ad:LiI)=>(some (Ad,true)))))))
theorem Aem {fuel:Nat} {h:AGt} {a1:Int} {r:(LiI × Bool)} (hp:AWc fuel a1=some r):ATs Tryz.prog 54 #[(.int .i64 a1)] h (fun x h'=>Ext h h'/\ ∃ (x0:Value) (F0:List Nat) (Az:List LnA) (A3:List Value),x= .tuple #[x0,.bool r.2]/\AVt cZ 131 93 h' F0 Az A3 x0 r.1/\Sp h' h.size [F0]):=by
 unfold AWc at hp;refine cwf (l:=[_]) Tryz.func54 rfl rfl (AGm (ATi (AGu ?_)));have K0:=Kst.k0 h;obtain ⟨A4,Au,Af⟩:=AGn hp;refine Acg 4044 (fun x:Unit=>[]) (fun x h'=>(Sum.inr <| ())=A4/\Kst h h' (K0.L)) ?_ ?_
 ·refine AGm (AGj (ATl rfl rfl (AGj ?_)));by_cases Ad:a1 < 1
  ·rw [decide_eq_true Ad];refine Aej 8 true (ATj rfl (AGr (ATp rfl (AGm (ATi (AGu ?_))))));obtain rfl:=AGl (ifT Au Ad);refine AGz (ATc ?_);have Ag:=Kst.anil2 cZ 131 93 K0;obtain rfl:=AGl Af;exact ⟨_,AUk,Ag.x,_,_,_,_,rfl,(Ag.o2 p0),Ag.s.sel [0] AGk⟩
  ·have Av:=ifF Au Ad;rw [decide_eq_false Ad];refine ATn 8 false (AGj (ATn 8 false (AYb rfl rfl (ATm rfl (AGr (⟨_,rfl,fun Ah=>?_,fun Ah=>?_⟩))))))
   ·refine AGm (ATi (AGu ?_));obtain rfl:=AGl (ATy Av Ah);refine AGz (ATc ?_);have Ai:=Kst.anil2 cZ 131 93 K0;obtain rfl:=AGl Af;exact ⟨_,AUk,Ai.x,_,_,_,_,rfl,(Ai.o2 p0),Ai.s.sel [0] AGk⟩
   ·refine AGy (q_t ?_);exact ⟨(():Unit),⟨AGl (ATz Av Ah),K0⟩,trivial⟩
 rintro ⟨⟩ Bq Br ⟨A5,A6⟩;subst A5;refine AGm (AGj (AGj ?_));obtain ⟨A7,A8,A9⟩:=AGn Af;refine Ahe A6 (AZw A8) fun Ba Bb Bc Be Bt Bu Aj=>AGu (AGo (AGm (AGj (AT4 AUr rfl (Aj.o2 p0).rd (AGj (AGr (AGp (AX6 268304416 (fun x:(Int) × (LiI) × LnA × LnN × LvA=>(x.1,x.2.1)) ((0,A7,Ba,Bb,Bc):(Int) × (LiI) × LnA × LnN × LvA) A9 (fun x=>[(17,(.int .i64 x.1))]) (fun x=>Aj.L.set 0 (aO2 cZ 131 93 x.2.2.1 x.2.2.2.1 x.2.2.2.2 Be x.2.1)) Aj ⟨rfl,trivial⟩ ?_))))))));rintro ⟨Aw,Bv,Bw,Bx,By⟩ Bz Ak B1 Aa Am Bf;unfold Aag at Am;refine AGm (ATl rfl rfl (AGr (AGo (⟨_,rfl,fun Ao=>?_,fun Ao=>?_⟩))))
 ·refine AGy (q_t (AGo (AGp (AGm (AGj (AGu (AVa (fun h'=>UpT [] Ak h') AGx ?_)))))));have Ax:UpT [] Ak Ak:=UpT.start all_nil;refine AGj (AGj ?_);obtain ⟨B3,Ap,Bg⟩:=AGn (ATy Am Ao);refine AVf AUr rfl (Aa.o2 p0) rfl Ap fun B4 B5 B6 Bh Bi=>AU1 AWi rfl Ax (fun h' hb=>ATo Bi hb.ext) (AGj ?_);obtain ⟨B7,Bj,Bl⟩:=AGn Bg;refine AX5 Aa Ax (Ac0 Bj) fun B8 B9 Ca Ab Cb=>?_;obtain ⟨Cd,Ay,Bm⟩:=AGn Bl;refine AWo (m:=Aw) AVp rfl (Aa.o2 p0) Bh Ap rfl Ay fun Ce Bn=>Adt (m:=Aw) (Ajz AUa (cZ.klen (Ab.z p0)) rfl rfl (cZ.one (Ab.z p0))) (Ab.o2 p1) Bn Ap Ay (Ab.z p0) fun Cf Bo Bp=>ATh (q_b (q_t (AS3 (ATk rfl rfl (AGj (AGr ?_))))));exact ⟨(_,_,_,_,_),(AGl Bm).symm,(Ab.uO2 p1 Bp Bo).sel [1] AGk,rfl,trivial⟩
 ·refine AS8 (ATa (ATa (AT7 (q_t (AGm (AGj (ATi (AGu (AGz ?_)))))))));obtain rfl:=AGl (Bf _ (AGl (ATz Am Ao)).symm);exact ⟨_,AUk,Aa.x,_,_,_,_,rfl,(Aa.o2 p0),Aa.s.sel [0] AGk⟩
def AZz (fuel:Nat) (a3:LiI) (Ab:Int) (Af:LiA) (Aa:Int) (Ac:LiI):Option ((Int × LiI) ⊕ ((LiI))):=
  (if Aa < (Af.length:Int) then ((gI Ac Aa).bind fun Ad=>((gI a3 Ab).bind fun Ag=>((gI Ag Aa).bind fun Ah=>((Aj6 fuel Ah).bind fun Ai=>((gI Ad Ab).bind fun Aj=>(some (Sum.inl ((w64 (Aa + 1)),(sI Ac Aa (sI Ad Ab Ai)))))))))) else (some (Sum.inr<| Ac)))
def AZ0 (fuel:Nat) (a3:LiI) (Aa:Int) (Ac:LiI):Option ((Int × LiI) ⊕ ((LiI))):=
  (if Aa < (a3.length:Int) then ((gI a3 Aa).bind fun Ad=>((iter (fun s=>AZz fuel a3 Aa Ad s.1 s.2) fuel (0,Ac)).bind (fun (Ae:LiI)=>(some (Sum.inl ((w64 (Aa + 1)),Ae)))))) else (some (Sum.inr<| Ac)))
def AV2 (fuel:Nat) (a3:LiI):Option (LiI × Bool):=
  ((AVi fuel a3).bind fun (x5,x6,x7)=>(if (!x7)=true then (some ([],false)) else ((AV1 fuel x6 x5).bind fun Ae=>((iter (fun s=>AZ0 fuel a3 s.1 s.2) fuel (0,Ae)).bind (fun (Af:LiI)=>(some (Af,true)))))))
theorem Ad6 {fuel:Nat} {h:AGt} {Aq:Value} {a3:LiI} {r:(LiI × Bool)} (H2:AXs cZ h Aq a3) (hp:AV2 fuel a3=some r):ATs Tryz.prog 110 #[Aq] h (fun x h'=>Ext h h'/\ ∃ (x0:Value) (F0:List Nat) (A6:List LnA) (A7:List Value),x= .tuple #[x0,.bool r.2]/\AVt cZ 131 93 h' F0 A6 A7 x0 r.1/\Sp h' h.size [F0]):=by
 unfold AV2 at hp;refine cwf (l:=[_]) Tryz.func110 rfl rfl (AGm (ATi (ATw (AGj ?_))));have K0:=Kst.k0 h;obtain ⟨⟨x5,x6,x7⟩,A8,Af⟩:=AGn hp;dsimp only at Af;refine AW0 K0 (AZi (H2.ext K0.x) A8) fun Cd Ce Ax=>AGj (AUb rfl rfl (AUb rfl rfl (AUb rfl rfl (ATi (ATi (AGu (AGo (AGm (AGj (AWq rfl (AGr (⟨_,rfl,fun Ag=>?_,fun Ag=>?_⟩))))))))))))
 ·refine AGm (ATi (AGu (AGz (ATc ?_))));have Ah:=Kst.anil2 cZ 131 93 Ax;obtain rfl:=AGl (ifT Af Ag);exact ⟨_,AUk,Ah.x,_,_,_,_,rfl,(Ah.o2 p0),Ah.s.sel [0] AGk⟩
 ·refine AGy (q_t (AGm (AGj (AGj ?_))));obtain ⟨A9,Ba,Bb⟩:=AGn (Aa7 Af Ag);refine Ahe Ax (AZw Ba) fun Bc Be Bf Ay Cf Cg Az=>AGu (AGo (AGm (AGj (AT4 AUr rfl H2 (AGj (AGr (AGp (AX6 1125899898454784 (fun x:(Int) × (LiI) × LnA × LnN × LvA=>(x.1,x.2.1)) ((0,A9,Bc,Be,Bf):(Int) × (LiI) × LnA × LnN × LvA) Bb (fun x=>[(23,(.int .i64 x.1))]) (fun x=>Az.L.set 0 (aO2 cZ 131 93 x.2.2.1 x.2.2.2.1 x.2.2.2.2 Ay x.2.1)) Az ⟨rfl,trivial⟩ ?_))))))));rintro ⟨Ch,Bg,Bh,Bi,Bj⟩ Ci Cj Ck Ab Ai Bl;unfold AZ0 at Ai;refine AGm (ATl rfl rfl (AGr (AGo (⟨_,rfl,fun Aj=>?_,fun Aj=>?_⟩))))
  ·refine AGy (q_t (AGo (AGp (AGm (AGj (ATw (AGj (AGj ?_))))))));obtain ⟨Cm,Bm,Bn⟩:=AGn (ATy Ai Aj);refine Adn AUr AWi H2 Ab.x Bm fun _ Cn Bo=>AUp AVp rfl Bo (AGj (AGr (AGp (AX6 562947805938176 (fun x:(Int) × (LiI) × LnA × LnN × LvA=>(x.1,x.2.1)) ((0,Bg,Bh,Bi,Bj):(Int) × (LiI) × LnA × LnN × LvA) Bn (fun x=>[(31,(.int .i64 x.1))]) (fun x=>Ab.L.set 0 (aO2 cZ 131 93 x.2.2.1 x.2.2.2.1 x.2.2.2.2 Ay x.2.1)) Ab ⟨rfl,trivial⟩ ?_))));rintro ⟨A3,u64,Co,Cp,Cq⟩ Cr Ak Ct Aa Am Bp;unfold AZz at Am;refine AGm (ATl rfl rfl (AGr (AGo (⟨_,rfl,fun Ao=>?_,fun Ao=>?_⟩))))
   ·refine AGy (q_t (AGo (AGp (AGm (AGj (AGu (AVa (fun h'=>UpT [] Ak h') AGx ?_)))))));have Ae:UpT [] Ak Ak:=UpT.start all_nil;refine AGj (AGj ?_);obtain ⟨Cu,Ap,Bq⟩:=AGn (ATy Am Ao);refine AVf AUr rfl (Aa.o2 p0) rfl Ap fun Cv Cw Cx Br Bt=>AU1 AWi rfl Ae (fun h' hb=>ATo Bt hb.ext) (AGj (AGj (AGj ?_)));obtain ⟨Cy,Bu,Bv⟩:=AGn Bq;refine Am2 AUr rfl H2 rfl Bu fun Cz C0 C1 Bw Bx=>AU1 AWi rfl Ae (fun h' hb=>ATo Bw (Aa.x.trans hb.ext)) (AGj ?_);obtain ⟨C2,By,Bz⟩:=AGn Bv;refine Adl (c:=cZ) AVp rfl Bx rfl By fun C3 C4 C5 A4 B1=>Aki (c:=cZ) AUa rfl A4 Ae (fun h' hb j u hu=>ATo (B1 j u hu) (Aa.x.trans hb.ext)) ?_;obtain ⟨C6,B3,B4⟩:=AGn Bz;refine AX5 Aa Ae (Alu (Aa.zx A4).2 B3) fun C7 C8 C9 Ac Da=>?_;obtain ⟨Db,A5,B5⟩:=AGn B4;refine AWo (m:=A3) AVp rfl (Aa.o2 p0) Br Ap rfl A5 fun Dc B6=>Adt (m:=A3) (Ajz AUa (cZ.klen (Ac.z p0)) rfl rfl (cZ.one (Ac.z p0))) (Ac.o2 p1) B6 Ap A5 (Ac.z p0) fun Dd B7 B8=>ATh (q_b (q_t (AS3 (ATk rfl rfl (AGj (AGr ?_))))));exact ⟨(_,_,_,_,_),(AGl B5).symm,(Ac.uO2 p1 B8 B7).sel [1] AGk,rfl,trivial⟩
   ·refine AS8 (ATa (ATa (AT7 (q_b (q_t (AS3 (ATk rfl rfl (AGj (AGr ?_)))))))));exact ⟨(_,_,_,_,_),(AGl (Bp _ (AGl (ATz Am Ao)).symm)).symm,Aa,rfl,trivial⟩
  ·refine AS8 (ATa (ATa (AT7 (q_t (AGm (AGj (ATi (AGu (AGz ?_)))))))));obtain rfl:=AGl (Bl _ (AGl (ATz Ai Aj)).symm);exact ⟨_,AUk,Ab.x,_,_,_,_,rfl,(Ab.o2 p0),Ab.s.sel [0] AGk⟩
def Adw (fuel:Nat) (a3 a7:LiA) (Aa Ac:Int):Option ((Int × Int) ⊕ ((Int))):=
  (if Aa < (a3.length:Int) then ((gI a3 Aa).bind fun Ae=>((gI a7 Aa).bind fun Af=>((Aj5 fuel Ae Af).bind fun Ag=>((A02 fuel Ac Ag).bind fun Ah=>(some (Sum.inl ((w64 (Aa + 1)),Ah))))))) else (some (Sum.inr<| Ac)))
def AZ7 (fuel:Nat) (a3 a7:LiA):Option Int:=
  ((iter (fun s=>Adw fuel a3 a7 s.1 s.2) fuel (0,0)).bind (fun (Ac:Int)=>(some Ac)))
theorem Aly {fuel:Nat} {h:AGt} {Ai:Value} {a3:LiA} {Ak:Value} {a7:LiA} {r:Int} (H2:SlC cZ h Ai a3) (H6:SlC cZ h Ak a7) (hp:AZ7 fuel a3 a7=some r):ATs Tryz.prog 146 #[Ai,Ak] h (fun x h'=>Ext h h'/\ ∃ (x0:Value),x=x0/\ZZ h' x0 r):=by
 unfold AZ7 at hp;refine cwf (l:=[_,_]) Tryz.func146 rfl rfl (AGm (AVr (Kst.k0 h) [.bool false,.slice none 0 0] AXi fun b9 Bn Bo Ax=>AZg (AV6 (Ago ) (AVr Ax [.bool false,.slice none 0 0] AXi fun Ay Aq Bp Az=>AYh Az p0 (AS7 Aq) (AS7 Aq) fun A3 A4=>AGr (AGo (AGo ?_))))));refine AS3 (AGj (AUp AVp rfl H2 (AGj (AGr (AGp ?_)))));have Ar:=A4.az (AS7 A3);refine AX6 33553472 (fun x:(Int) × (Int) × LvA=>(x.1,x.2.1)) ((0,0,[Value.bool false,Value.slice none 0 0]):(Int) × (Int) × LvA) hp (fun x=>[(10,(.int .i64 x.1))]) (fun x=>(Ar.L.set 0 (aZ x.2.2 x.2.1)).set 1 (aB 93 Ay x.2.2)) Ar ⟨rfl,trivial⟩ ?_;rintro ⟨Bq,Br,Bt⟩ Bu Ac Bv Aa Af A5;unfold Adw at Af;refine AGm (ATl rfl rfl (AGr (AGo (⟨_,rfl,fun Ag=>?_,fun Ag=>?_⟩))))
 ·refine AGy (q_t (AGo (AGp (AGm (AGj (AGu (AVa (fun h'=>UpT [] Ac h') AGx ?_)))))));have Ad:UpT [] Ac Ac:=UpT.start all_nil;refine Agr (Aa.z p0) Ad (Aa.b p1) (AGj (AGj ?_));obtain ⟨Bw,A6,A7⟩:=AGn (ATy Af Ag);refine Adl (c:=cZ) AVp rfl H2 rfl A6 fun Bx By Bz Au A8=>Aki (c:=cZ) AUa rfl Au Ad (fun h' hb j u hu=>ATo (A8 j u hu) (Aa.x.trans hb.ext)) (AGj (AGj ?_));obtain ⟨B1,A9,Ba⟩:=AGn A7;refine Adl (c:=cZ) AVp rfl H6 rfl A9 fun B3 B4 B5 Av Bb=>Aki (c:=cZ) AUa rfl Av Ad (fun h' hb j u hu=>ATo (Bb j u hu) (Aa.x.trans hb.ext)) ?_;obtain ⟨B6,Bc,Be⟩:=AGn Ba;refine AX5 Aa Ad (Aia (Aa.zx Au).2 (Aa.zx Av).2 Bc) fun B7 B8 B9 Ah Bf=>?_;obtain ⟨Ca,Bg,Bh⟩:=AGn Be;refine AX5 Ah Bf (Azd (Ah.z p1).2 (Ah.z p0).2 Bg) fun Bi Cb Cd Ab Ce=>AU0 Bi AUa (cZ.klen (Ab.z p0)) (cZ.klen (Ab.z p2)) rfl rfl (cZ.one (Ab.z p0)) (Ab.b p3) fun Cf Bj Bl=>ATh (q_b (q_t (AS3 (ATk rfl rfl (AGj (AGr ?_))))));exact ⟨(_,_,_),(AGl Bh).symm,(Ab.sb p3 Bl Bj rfl).sel [0,3,4] AGk,rfl,trivial⟩
 ·refine AS8 (ATa (ATa (AT7 (q_t (AGm (Ac1 (Aa.z p0) (Aa.b p1) (AYh Aa p2 (AS7 Ac) (Aa.z p0) fun Cg Ae=>AGr (AGz ?_))))))));obtain rfl:=AGl (A5 _ (AGl (ATz Af Ag)).symm);exact ⟨_,AU7 AUa (cZ.klen (Ae.z p0)) rfl (Ae.b p2),Ae.x,_,rfl,(Ae.z p0).2⟩
def Adx (fuel:Nat) (a3 Ad:LiI) (Ab Aa:Int) (Ac:LiI):Option ((Int × LiI) ⊕ ((LiI))):=
  (if Aa < (Ad.length:Int) then ((gI Ac Ab).bind fun Ae=>((gI a3 Ab).bind fun Ag=>((gI Ad Aa).bind fun Ah=>((AZ7 fuel Ag Ah).bind fun Ai=>((gI Ae Aa).bind fun Aj=>(some (Sum.inl ((w64 (Aa + 1)),(sI Ac Ab (sI Ae Aa Ai)))))))))) else (some (Sum.inr<| Ac)))
def Ady (fuel:Nat) (a3 Ad:LiI) (Aa:Int) (Ac:LiI):Option ((Int × LiI) ⊕ ((LiI))):=
  (if Aa < (a3.length:Int) then ((iter (fun s=>Adx fuel a3 Ad Aa s.1 s.2) fuel (0,Ac)).bind (fun (Ae:LiI)=>(some (Sum.inl ((w64 (Aa + 1)),Ae))))) else (some (Sum.inr<| Ac)))
def AZ8 (fuel:Nat) (a3 a7:LiI):Option (LiI × Bool):=
  ((AVi fuel a3).bind fun (x9,Ad,Ae)=>((AV2 fuel a7).bind fun (Ac,Af)=>(((if (!Ae)=true then (some (Sum.inl <| ([],false))) else (if (!Af)=true then (some (Sum.inl <| ([],false))) else (if ¬ (a7.length:Int)=Ad then (some (Sum.inl <| ([],false))) else (some (Sum.inr <| ()))))):Option (((LiI × Bool)) ⊕ (Unit))).bind (fun ex=>match ex with | Sum.inl Ag=>(some Ag) | Sum.inr (_)=>((AV1 fuel (a3.length:Int) (Ac.length:Int)).bind fun Ah=>((iter (fun s=>Ady fuel a3 Ac s.1 s.2) fuel (0,Ah)).bind (fun (Ai:LiI)=>(some (Ai,true)))))))))
theorem Alz {fuel:Nat} {h:AGt} {Av:Value} {a3:LiI} {Ax:Value} {a7:LiI} {r:(LiI × Bool)} (H2:AXs cZ h Av a3) (H6:AXs cZ h Ax a7) (hp:AZ8 fuel a3 a7=some r):ATs Tryz.prog 111 #[Av,Ax] h (fun x h'=>Ext h h'/\ ∃ (x0:Value) (F0:List Nat) (Bm:List LnA) (Bn:List Value),x= .tuple #[x0,.bool r.2]/\AVt cZ 131 93 h' F0 Bm Bn x0 r.1/\Sp h' h.size [F0]):=by
 unfold AZ8 at hp;refine cwf (l:=[_,_]) Tryz.func111 rfl rfl (AGm (ATi (ATw (AGj ?_))));have K0:=Kst.k0 h;obtain ⟨⟨x9,Cx,Bo⟩,Bp,A6⟩:=AGn hp;dsimp only at A6;refine AW0 K0 (AZi (H2.ext K0.x) Bp) fun Cy Cz A7=>AGj (AUb rfl rfl (AUb rfl rfl (AUb rfl rfl (ATi (ATi (ATw (AGj ?_)))))));obtain ⟨⟨C0,Bq⟩,Br,A8⟩:=AGn A6;dsimp only at A8;refine Afh rfl (Ad6 (H6.ext A7.x) Br) fun C1 C2 Bt Bu=>?_;obtain ⟨C3,C4,C5,C6,rfl,Bv,Bw⟩:=Bu;refine AGj (AUb rfl rfl (AUb rfl rfl (ATi (AGu ?_))));have Ac:=A7.no2 Bt Bw Bv;obtain ⟨Bx,A9,Af⟩:=AGn A8;refine Acg 137405399088 (fun x:Unit=>[]) (fun x h'=>(Sum.inr <| ())=Bx/\Kst h h' (Ac.L)) ?_ ?_
 ·refine AGm (AGj (AWq rfl (AGj ?_)));cases Ba:(!Bo)
  ·refine ATn 27 false (AGj (ATn 27 false (AWq rfl (ATm rfl (AGj ?_)))));have Bb:=Aa7 A9 Ba;cases Bc:(!Bq)
   ·refine ATn 31 false (AGj (ATn 31 false (AT4 AUr rfl H6 (ATn 31 false (AGj (ATn 31 false (AWp rfl rfl (ATm rfl (AGr ?_)))))))));have Be:=Aa7 Bb Bc;refine ⟨_,rfl,fun Ah=>?_,fun Ah=>?_⟩
    ·refine AGm (ATi (AGu ?_));obtain rfl:=AGl (ATy Be Ah);refine AGz (ATc ?_);have Ai:=Kst.anil2 cZ 131 93 Ac;obtain rfl:=AGl Af;exact ⟨_,AUk,Ai.x,_,_,_,_,rfl,(Ai.o2 p0),Ai.s.sel [0] AGk⟩
    ·refine AGy (q_t ?_);exact ⟨(():Unit),⟨AGl (ATz Be Ah),Ac⟩,trivial⟩
   ·refine Afz 31 true (ATj rfl (AGr (ATp rfl (AGm (ATi (AGu ?_))))));obtain rfl:=AGl (ifT Bb Bc);refine AGz (ATc ?_);have Aj:=Kst.anil2 cZ 131 93 Ac;obtain rfl:=AGl Af;exact ⟨_,AUk,Aj.x,_,_,_,_,rfl,(Aj.o2 p0),Aj.s.sel [0] AGk⟩
  ·refine Aej 27 true (ATj rfl (AGj (Afz 31 true (ATj rfl (AGr (ATp rfl (AGm (ATi (AGu ?_)))))))));obtain rfl:=AGl (ifT A9 Ba);refine AGz (ATc ?_);have Ak:=Kst.anil2 cZ 131 93 Ac;obtain rfl:=AGl Af;exact ⟨_,AUk,Ak.x,_,_,_,_,rfl,(Ak.o2 p0),Ak.s.sel [0] AGk⟩
 rintro ⟨⟩ C7 C8 ⟨By,Bf⟩;subst By;refine AGm (AGj (AT4 AUr rfl H2 (AGj (AT4 AUr rfl (Bf.o2 p0).rd ?_))));obtain ⟨Bz,B1,B3⟩:=AGn Af;refine Ahe Bf (AZw B1) fun B4 B5 B6 Bg C9 Da Bh=>AGu (AGo (AGm (AGj (AT4 AUr rfl H2 (AGj (AGr (AGp (AX6 590295792766519619584 (fun x:(Int) × (LiI) × LnA × LnN × LvA=>(x.1,x.2.1)) ((0,Bz,B4,B5,B6):(Int) × (LiI) × LnA × LnN × LvA) B3 (fun x=>[(44,(.int .i64 x.1))]) (fun x=>Bh.L.set 0 (aO2 cZ 131 93 x.2.2.1 x.2.2.2.1 x.2.2.2.2 Bg x.2.1)) Bh ⟨rfl,trivial⟩ ?_))))))));rintro ⟨Bi,B7,B8,B9,Ca⟩ Db Dc Dd Ab Am Cb;unfold Ady at Am;refine AGm (ATl rfl rfl (AGr (AGo (⟨_,rfl,fun Ao=>?_,fun Ao=>?_⟩))))
 ·refine AGy (q_t (AGo (AGp (AGm (AGj (ATw (AGj (AT4 AUr rfl (Ab.o2 p1).rd (AGj (AGr (AGp (AX6 295147342229399412736 (fun x:(Int) × (LiI) × LnA × LnN × LvA=>(x.1,x.2.1)) ((0,B7,B8,B9,Ca):(Int) × (LiI) × LnA × LnN × LvA) (ATy Am Ao) (fun x=>[(49,(.int .i64 x.1))]) (fun x=>Ab.L.set 0 (aO2 cZ 131 93 x.2.2.1 x.2.2.2.1 x.2.2.2.2 Bg x.2.1)) Ab ⟨rfl,trivial⟩ ?_))))))))))));rintro ⟨De,Df,Dg,Dh,Di⟩ Dj Ap Dk Aa Aq Cd;unfold Adx at Aq;refine AGm (ATl rfl rfl (AGr (AGo (⟨_,rfl,fun Ar=>?_,fun Ar=>?_⟩))))
  ·refine AGy (q_t (AGo (AGp (AGm (AGj (AGu (AVa (fun h'=>UpT [] Ap h') AGx ?_)))))));have Ag:UpT [] Ap Ap:=UpT.start all_nil;refine AGj (AGj ?_);obtain ⟨Dl,Au,Ce⟩:=AGn (ATy Aq Ar);refine AVf AUr rfl (Aa.o2 p0) rfl Au fun Do Dp Dq Cf Cg=>AU1 AWi rfl Ag (fun h' hb=>ATo Cg hb.ext) (AGj (AGj (AGj ?_)));obtain ⟨Dr,Ch,Ci⟩:=AGn Ce;refine Am2 AUr rfl H2 rfl Ch fun Ds Dt Du Cj Ck=>AU1 AWi rfl Ag (fun h' hb=>ATo Cj (Aa.x.trans hb.ext)) (AGj (AGj ?_));obtain ⟨Dv,Bj,Cm⟩:=AGn Ci;refine AVf AUr rfl (Aa.o2 p1) rfl Bj fun Dw Dx Dy Cn Co=>AU1 AWi rfl Ag (fun h' hb=>ATo Co hb.ext) ?_;obtain ⟨Dz,Cp,Cq⟩:=AGn Cm;refine AX5 Aa Ag (Aly (Ck.ext Aa.x) ((Aa.o2 p1).rowI Cn Bj) Cp) fun D0 D1 D2 Ad D3=>?_;obtain ⟨D4,Bl,Cr⟩:=AGn Cq;refine AWo (m:=Bi) AVp rfl (Aa.o2 p0) Cf Au rfl Bl fun D5 Ct=>Adt (m:=Bi) (Ajz AUa (cZ.klen (Ad.z p0)) rfl rfl (cZ.one (Ad.z p0))) (Ad.o2 p1) Ct Au Bl (Ad.z p0) fun D6 Cu Cv=>ATh (q_b (q_t (AS3 (ATk rfl rfl (AGj (AGr ?_))))));exact ⟨(_,_,_,_,_),(AGl Cr).symm,(Ad.uO2 p1 Cv Cu).sel [1,2] AGk,rfl,trivial⟩
  ·refine AS8 (ATa (ATa (AT7 (q_b (q_t (AS3 (ATk rfl rfl (AGj (AGr ?_)))))))));exact ⟨(_,_,_,_,_),(AGl (Cd _ (AGl (ATz Aq Ar)).symm)).symm,Aa,rfl,trivial⟩
 ·refine AS8 (ATa (ATa (AT7 (q_t (AGm (AGj (ATi (AGu (AGz ?_)))))))));obtain rfl:=AGl (Cb _ (AGl (ATz Am Ao)).symm);exact ⟨_,AUk,Ab.x,_,_,_,_,rfl,(Ab.o2 p0),Ab.s.sel [0] AGk⟩
def AU4 (fuel:Nat) (a3 a7:LiI):Option LiI:=
  ((AZ8 fuel a3 a7).bind fun (x9,Ad)=>(some x9))
theorem Abb {fuel:Nat} {h:AGt} {Ac:Value} {a3:LiI} {Ae:Value} {a7 r:LiI} (H2:AXs cZ h Ac a3) (H6:AXs cZ h Ae a7) (hp:AU4 fuel a3 a7=some r):ATs Tryz.prog 58 #[Ac,Ae] h (fun x h'=>Ext h h'/\ ∃ (x0:Value) (F0:List Nat) (Am:List LnA) (Ao:List Value),x=x0/\AVt cZ 131 93 h' F0 Am Ao x0 r/\Sp h' h.size [F0]):=by
 unfold AU4 at hp;refine cwf (l:=[_,_]) Tryz.func58 rfl rfl (AGm (ATw (AGj (AGj ?_))));have K0:=Kst.k0 h;obtain ⟨⟨x9,Ax⟩,Ap,Ai⟩:=AGn hp;dsimp only at Ai;refine Afh rfl (Alz (H2.ext K0.x) (H6.ext K0.x) Ap) fun Ay Az Aq Ar=>?_;obtain ⟨A3,A4,A5,A6,rfl,Au,Av⟩:=Ar;refine AGj (AUb rfl rfl (AUb rfl rfl (ATi (ATw (AGj (AGu (AGz ?_)))))));have Ab:=K0.no2 Aq Av Au;obtain rfl:=AGl Ai;exact ⟨_,AS2,Ab.x,_,_,_,_,rfl,(Ab.o2 p0),Ab.s.sel [0] AGk⟩
def Acl (fuel:Nat) (a1:Int) (Aa:LiA) (Ab:Int):Option ((LiA × Int) ⊕ ((LiA))):=
  (if Ab < a1 then (if Aa.length<=100000000 then (some (Sum.inl ((Aa ++ [Ab]),(w64 (Ab + 1))))) else none) else (some (Sum.inr<| Aa)))
def AXo (fuel:Nat) (a1 a2:Int):Option LiA:=
  ((iter (fun s=>Acl fuel a1 s.1 s.2) fuel ([],0)).bind (fun (Aa:LiA)=>(if Aa.length<=100000000 then (some (Aa ++ [a2])) else none)))
theorem Afm {fuel:Nat} {h:AGt} {a1 a2:Int} {r:LiA} (hp:AXo fuel a1 a2=some r):ATs Tryz.prog 137 #[(.int .i64 a1),(.int .i64 a2)] h (fun x h'=>Ext h h'/\ ∃ (x0:Value) (F0:List Nat),x=x0/\OwC (cI .i64) 3 h' F0 x0 r/\Sp h' h.size [F0]):=by
 unfold AXo at hp;refine cwf (l:=[_,_]) Tryz.func137 rfl rfl (AGm (ATw (AGu (AGo (AGm (AGu (AGp ?_)))))));have K4:=Kst.anil (cI .i64) 3 (Kst.k0 h);refine AX6 65504 (fun x:(LiA) × (Value) × LnA × (Int)=>(x.1,x.2.2.2)) (([],(.slice none 0 0),[],0):(LiA) × (Value) × LnA × (Int)) hp (fun x=>[(5,x.2.1),(6,(.int .i64 x.2.2.2))]) (fun x=>K4.L.set 0 (aO (cI .i64) 3 x.2.2.1 x.2.1 x.1)) K4 ⟨rfl,rfl,trivial⟩ ?_;rintro ⟨Az,A3,A4,Aj⟩ A5 h9 y8 Ab Ac Ak;unfold Acl at Ac;refine AGo (AGm (AGj (AGj (ATl rfl rfl (AGr (⟨_,rfl,fun Ad=>?_,fun Ad=>?_⟩))))))
 ·refine AGy (q_t (AGo (AGp (AS3 (AGj (AGj ?_))))));obtain ⟨Am,Ao⟩:=ifN (ATy Ac Ad);refine Adu An8 Aoj rfl rfl trivial tt2 (fun _=>rfl) rfl (show ((cI .i64)).rep _ Aj [(.int .i64 Aj)] from rfl) (Ab.o p0) AGk Am fun A8 A9 Ba Bb Ap Aq Ar=>ATi (ATh (q_b (q_t (AS3 (AGj (ATk rfl rfl (AGu ?_)))))));exact ⟨(_,_,_,_),(AGl Ao).symm,(Ab.uo p0 Aq Ap Ar),rfl,rfl,trivial⟩
 ·refine AS8 (ATa (ATa (AT7 (q_t (AGm (AGj (AGj ?_)))))));obtain ⟨Au,Av⟩:=ifN (Ak _ (AGl (ATz Ac Ad)).symm);refine Adu An8 Aoj rfl rfl trivial tt2 (fun _=>rfl) rfl (show ((cI .i64)).rep _ a2 [(.int .i64 a2)] from rfl) (Ab.o p0) AGk Au fun Bc Be Bf Bg Aw Ax Ay=>AGu (AGz ?_);have Ae:=Ab.uo p0 Ax Aw Ay;obtain rfl:=AGl Av;exact ⟨_,AS2,Ae.x,_,_,rfl,(Ae.o p0),Ae.s.sel [0] AGk⟩
def Abc (fuel:Nat) (a3:LiI) (x5:Int) (Ab:LiA) (Aa:Int):Option ((LiA × Int) ⊕ ((LiA))):=
  (if Aa < x5 then ((AXo fuel Aa Aa).bind fun Ae=>((AXo fuel Aa Aa).bind fun Af=>((AW7 fuel a3 Ae Af).bind fun Ag=>((AUl fuel Ag).bind fun Ah=>(if Ab.length<=100000000 then (some (Sum.inl ((Ab ++ [Ah]),(w64 (Aa + 1))))) else none))))) else (some (Sum.inr<| Ab)))
def AWs (fuel:Nat) (a3:LiI):Option (LiA × Bool):=
  ((AW6 fuel a3).bind fun (x5,x6)=>(if (!x6)=true then (some ([],false)) else ((iter (fun s=>Abc fuel a3 x5 s.1 s.2) fuel ([],0)).bind (fun (Ad:LiA)=>(some (Ad,true))))))
theorem Aex {fuel:Nat} {h:AGt} {Ai:Value} {a3:LiI} {r:(LiA × Bool)} (H2:AXs cZ h Ai a3) (hp:AWs fuel a3=some r):ATs Tryz.prog 93 #[Ai] h (fun x h'=>Ext h h'/\ ∃ (x0:Value) (F0:List Nat),x= .tuple #[x0,.bool r.2]/\OwC cZ 93 h' F0 x0 r.1/\Sp h' h.size [F0]):=by
 unfold AWs at hp;refine cwf (l:=[_]) Tryz.func93 rfl rfl (AGm (ATi (ATw (AGj ?_))));have K0:=Kst.k0 h;obtain ⟨⟨x5,x6⟩,Av,Ac⟩:=AGn hp;dsimp only at Ac;refine AW0 K0 (Afc (H2.ext K0.x) Av) fun Bh E9 Aq=>AGj (AUb rfl rfl (AUb rfl rfl (ATi (AGu (AGo (AGm (AGj (AWq rfl (AGr (⟨_,rfl,fun Ad=>?_,fun Ad=>?_⟩))))))))))
 ·refine AGm (ATi (AGu (AGz (ATc ?_))));have Ae:=Kst.anil cZ 93 Aq;obtain rfl:=AGl (ifT Ac Ad);exact ⟨_,AUk,Ae.x,_,_,rfl,(Ae.o p0),Ae.s.sel [0] AGk⟩
 ·refine AGy (q_t (AGm (AGu (AGo (AGm (AGu (AGp ?_)))))));have Ar:=Kst.anil cZ 93 Aq;refine AX6 4294934720 (fun x:(LiA) × (Value) × LnA × (Int)=>(x.1,x.2.2.2)) (([],(.slice none 0 0),[],0):(LiA) × (Value) × LnA × (Int)) (Aa7 Ac Ad) (fun x=>[(6,x.2.1),(7,(.int .i64 x.2.2.2))]) (fun x=>Ar.L.set 0 (aO cZ 93 x.2.2.1 x.2.1 x.1)) Ar ⟨rfl,rfl,trivial⟩ ?_;rintro ⟨Bj,Bl,Bm,u32⟩ Bn Bo Bp Aa Af Aw;unfold Abc at Af;refine AGo (AGm (AGj (AGj (ATl rfl rfl (AGr (⟨_,rfl,fun Ag=>?_,fun Ag=>?_⟩))))))
  ·refine AGy (q_t (AGo (AGp (AS3 (AGj (AGj (AGj (AGj ?_))))))));obtain ⟨Bq,Ax,Ay⟩:=AGn (ATy Af Ag);refine BDp Aa (Afm Ax) fun Br Bt Bu Bv Az=>AGj (AGj ?_);obtain ⟨Bw,A3,A4⟩:=AGn Ay;refine BDp Az (Afm A3) fun Bx By Bz B1 Ab=>?_;obtain ⟨B3,A5,A6⟩:=AGn A4;refine Ahe Ab (Afd (H2.ext Ab.x) (Ab.o p1).rd (Ab.o p0).rd A5) fun B4 B5 B6 B7 B8 B9 Au=>?_;obtain ⟨Ca,A7,A8⟩:=AGn A6;refine Af9 Au (AVy (Au.o2 p0).rd A7) fun Cb Cd Ce Ah=>?_;obtain ⟨A9,Ba⟩:=ifN A8;refine Adu AVp AXi rfl rfl trivial tt2 (fun _=>rfl) rfl (Ah.z p0) (Ah.o p4) AGk A9 fun Cf Cg Ch Ci Bb Bc Be=>ATi (ATh (q_b (q_t (AS3 (AGj (ATk rfl rfl (AGu ?_)))))));exact ⟨(_,_,_,_),(AGl Ba).symm,(Ah.uo p4 Bc Bb Be).sel [4] AGk,rfl,rfl,trivial⟩
  ·refine AS8 (ATa (ATa (AT7 (q_t (AGm (AGj (ATi (AGu (AGz ?_)))))))));obtain rfl:=AGl (Aw _ (AGl (ATz Af Ag)).symm);exact ⟨_,AUk,Aa.x,_,_,rfl,(Aa.o p0),Aa.s.sel [0] AGk⟩
def AZ1 (fuel:Nat) (a3:LiI) (Ab Aa:Int):Option ((Int) ⊕ ((Bool) ⊕ (Unit))):=
  (if Aa < Ab then ((gI a3 Ab).bind fun Ad=>((gI Ad Aa).bind fun Ae=>((gI a3 Aa).bind fun Af=>((gI Af Ab).bind fun Ag=>((At9 fuel Ae Ag).bind fun Ah=>(if ¬ Ah=0 then (some (Sum.inr<| Sum.inl <| false)) else (some (Sum.inl (w64 (Aa + 1)))))))))) else (some (Sum.inr<| Sum.inr <| ())))
def AZ2 (fuel:Nat) (a3:LiI) (Aa:Int):Option ((Int) ⊕ ((Bool) ⊕ (Unit))):=
  (if Aa < (a3.length:Int) then ((iter (fun s=>AZ1 fuel a3 Aa s) fuel 0).bind (fun ex=>match ex with | Sum.inl Ac=>(some (Sum.inr<| Sum.inl <| Ac)) | Sum.inr (_)=>(some (Sum.inl (w64 (Aa + 1)))))) else (some (Sum.inr<| Sum.inr <| ())))
def AV3 (fuel:Nat) (a3:LiI):Option Bool:=
  ((iter (fun s=>AZ2 fuel a3 s) fuel 0).bind (fun ex=>match ex with | Sum.inl Ab=>(some Ab) | Sum.inr (_)=>(some true)))
theorem Ad7 {fuel:Nat} {h:AGt} {Ai:Value} {a3:LiI} {r:Bool} (H2:AXs cZ h Ai a3) (hp:AV3 fuel a3=some r):ATs Tryz.prog 90 #[Ai] h (fun x h'=>Ext h h'/\x= .bool r):=by
 unfold AV3 at hp;refine cwf (l:=[_]) Tryz.func90 rfl rfl (AGm (AGu (AGo (AGm (AGj (AT4 AUr rfl H2 (AGj (AGr (AGp ?_)))))))));have K0:=Kst.k0 h;refine AYd 4294967196 hp (fun x=>[(7,(.int .i64 x))]) (fun x=>K0.L) K0 ⟨rfl,trivial⟩ ?_;rintro Bb Bc h8 y7 Ac Ad Am;unfold AZ2 at Ad;refine AGm (ATl rfl rfl (AGr (AGo (⟨_,rfl,fun Ae=>?_,fun Ae=>?_⟩))))
 ·refine AGy (q_t (AGo (AGp (AGm (AGj (ATw (AGu (AGp (AYd 2147482644 (ATy Ad Ae) (fun x=>[(4,(.int .i64 x))]) (fun x=>Ac.L) Ac ⟨rfl,trivial⟩ ?_)))))))));rintro Bg Bh Bi Bj Aa Af Ao;unfold AZ1 at Af;refine AGo (AGm (AGj (AGj (ATl rfl rfl (AGr (⟨_,rfl,fun Ag=>?_,fun Ag=>?_⟩))))))
  ·refine AGy (q_t (AGo (AGp (AGo (AXr (AGj (AGj ?_)))))));obtain ⟨Bl,Av,Aw⟩:=AGn (ATy Af Ag);refine Adn AUr AWi H2 Aa.x Av fun _ Bm Ax=>AGj ?_;obtain ⟨Bn,Ay,Az⟩:=AGn Aw;refine Adl (c:=cZ) AVp rfl Ax rfl Ay fun Bo Bp Bq Ap A3=>Afb (c:=cZ) AUa rfl (Aa.zx Ap) (fun j u hu=>(ATo (A3 j u hu) Aa.x)) (AGj (AGj ?_));obtain ⟨Br,A4,A5⟩:=AGn Az;refine Adn AUr AWi H2 Aa.x A4 fun _ Bt A6=>AGj ?_;obtain ⟨Bu,A7,A8⟩:=AGn A5;refine Adl (c:=cZ) AVp rfl A6 rfl A7 fun Bv Bw Bx Aq A9=>Afb (c:=cZ) AUa rfl (Aa.zx Aq) (fun j u hu=>(ATo (A9 j u hu) Aa.x)) ?_;obtain ⟨By,Ba,Ar⟩:=AGn A8;refine AW0 Aa (Asq (Aa.zx Ap).2 (Aa.zx Aq).2 Ba) fun Bz B1 Au=>AWp rfl rfl (AGr (⟨_,rfl,fun Ah=>?_,fun Ah=>?_⟩))
   ·refine AGm (AGu (AGz (AUg (ATc (ATc (AUg (AUg (ATc (ATc (AUg (ATc ?_)))))))))));obtain rfl:=AGl (Am _ (AGl (Ao _ (AGl (ATy Ar Ah)).symm)).symm);exact ⟨_,AS2,Au.x,rfl⟩
   ·refine AGy (q_b (q_t (AS3 (AGj (ATk rfl rfl (AGu ?_))))));exact ⟨_,(AGl (ATz Ar Ah)).symm,Au,rfl,trivial⟩
  ·refine AS8 (ATa (ATa (AT7 (q_b (q_t (AS3 (ATk rfl rfl (AGj (AGr ?_)))))))));exact ⟨_,(AGl (Ao _ (AGl (ATz Af Ag)).symm)).symm,Aa,rfl,trivial⟩
 ·refine AS8 (ATa (ATa (AT7 (q_t (AGm (AGu (AGz ?_)))))));obtain rfl:=AGl (Am _ (AGl (ATz Ad Ae)).symm);exact ⟨_,AS2,Ac.x,rfl⟩
def Aah (fuel:Nat) (x5:LiA) (Aa:Int):Option ((Int) ⊕ ((Bool) ⊕ (Unit))):=
  (if Aa < (x5.length:Int) then ((gI x5 Aa).bind fun Ac=>((Aqa fuel Ac).bind fun Ad=>(if Ad<=0 then (some (Sum.inr<| Sum.inl <| false)) else (some (Sum.inl (w64 (Aa + 1))))))) else (some (Sum.inr<| Sum.inr <| ())))
def AXt (fuel:Nat) (a3:LiI):Option Bool:=
  ((AWs fuel a3).bind fun (x5,x6)=>(((if (!x6)=true then (some (Sum.inl <| false)) else ((AV3 fuel a3).bind fun Ad=>(if (!Ad)=true then (some (Sum.inl <| false)) else (some (Sum.inr <| ()))))):Option ((Bool) ⊕ (Unit))).bind (fun ex=>match ex with | Sum.inl Ae=>(some Ae) | Sum.inr (_)=>((iter (fun s=>Aah fuel x5 s) fuel 0).bind (fun ex=>match ex with | Sum.inl Af=>(some Af) | Sum.inr (_)=>(some true))))))
theorem Aim {fuel:Nat} {h:AGt} {Aj:Value} {a3:LiI} {r:Bool} (H2:AXs cZ h Aj a3) (hp:AXt fuel a3=some r):ATs Tryz.prog 91 #[Aj] h (fun x h'=>Ext h h'/\x= .bool r):=by
 unfold AXt at hp;refine cwf (l:=[_]) Tryz.func91 rfl rfl (AGm (ATw (AGj ?_)));have K0:=Kst.k0 h;obtain ⟨⟨x5,x6⟩,A6,Ap⟩:=AGn hp;dsimp only at Ap;refine Afh rfl (Aex (H2.ext K0.x) A6) fun Bn Bo E9 A8=>?_;obtain ⟨Bp,Bq,rfl,A9,Ba⟩:=A8;refine AGj (AUb rfl rfl (AUb rfl rfl (ATi (AGu ?_))));have Aa:=K0.no E9 Ba A9;obtain ⟨Bb,Aq,Ad⟩:=AGn Ap;refine Acg 520196 (fun x:Unit=>[]) (fun x h'=>(Sum.inr <| ())=Bb/\Kst h h' (Aa.L)) ?_ ?_
 ·refine AGm (AGj (AWq rfl (AGj ?_)));cases Ar:(!x6)
  ·refine ATn 14 false (AGj (ATn 14 false ?_));obtain ⟨Br,Bc,Au⟩:=AGn (Aa7 Aq Ar);refine AW0 Aa (Ad7 (H2.ext Aa.x) Bc) fun Bt Bu Av=>ATn 14 false (AWq rfl (ATm rfl (AGr (⟨_,rfl,fun Ae=>?_,fun Ae=>?_⟩))))
   ·refine AGm (AGu ?_);obtain rfl:=AGl (ifT Au Ae);refine AGz (ATc ?_);obtain rfl:=AGl Ad;exact ⟨_,AS2,Av.x,rfl⟩
   ·refine AGy (q_t ?_);exact ⟨(():Unit),⟨AGl (Aa7 Au Ae),Av⟩,trivial⟩
  ·refine Ab6 14 true (ATj rfl (AGr (ATp rfl (AGm (AGu ?_)))));obtain rfl:=AGl (ifT Aq Ar);refine AGz (ATc ?_);obtain rfl:=AGl Ad;exact ⟨_,AS2,Aa.x,rfl⟩
 rintro ⟨⟩ Bv Bw ⟨Be,Af⟩;subst Be;refine AGo (AGm (AGj (AUp AVp rfl (Af.o p0).rd (AGj (AGr (AGp (AYd 534773828 Ad (fun x=>[(21,(.int .i64 x))]) (fun x=>Af.L) Af ⟨rfl,trivial⟩ ?_)))))));rintro Bx By Bz B1 Ab Ag Aw;unfold Aah at Ag;refine AGm (ATl rfl rfl (AGr (AGo (⟨_,rfl,fun Ah=>?_,fun Ah=>?_⟩))))
 ·refine AGy (q_t (AGo (AGp (AGm ?_))));obtain ⟨B3,Ax,Bf⟩:=AGn (ATy Ag Ah);refine Ao5 AVp rfl (Ab.o p0) rfl Ax fun B4 Bg=>?_;obtain ⟨B5,Bh,Bi⟩:=(Ab.o p0).cells Bg Ax;have Ay:=Ab.az Bh;refine Afb (c:=cZ) AUa rfl (Ay.z p0) (fun j u hu=>(Bi j u hu)) (AVr Ay [.bool false,.slice none 0 0] AXi fun B6 Bj B7 Az=>AYh Az p0 (AS7 Bj) (Az.z p1) fun B8 Ac=>AZg (Ac1 (Ac.z p1) (Ac.b p0) ?_));obtain ⟨B9,Bl,A3⟩:=AGn Bf;refine AW0 Ac (Apb (Ac.z p1).2 Bl) fun Ca Cb A4=>Ap8 rfl rfl (AGr (⟨_,rfl,fun Ai=>?_,fun Ai=>?_⟩))
  ·refine AGm (AGu (AGz (AUg (ATc (ATc (AUg (ATc ?_)))))));obtain rfl:=AGl (Aw _ (AGl (ATy A3 Ai)).symm);exact ⟨_,AS2,A4.x,rfl⟩
  ·refine AGy (q_b (q_t (AS3 (ATk rfl rfl (AGj (AGr ?_))))));exact ⟨_,(AGl (ATz A3 Ai)).symm,A4.sel [2] AGk,rfl,trivial⟩
 ·refine AS8 (ATa (ATa (AT7 (q_t (AGm (AGu (AGz ?_)))))));obtain rfl:=AGl (Aw _ (AGl (ATz Ag Ah)).symm);exact ⟨_,AS2,Ab.x,rfl⟩
def AWd (fuel:Nat) (a3:LiI):Option Int:=
  ((AW6 fuel a3).bind fun (x5,x6)=>(if (!x6)=true then (some 3) else (if 8 < x5 then (some 3) else ((AV3 fuel a3).bind fun Ad=>(if (!Ad)=true then (some 4) else ((AXt fuel a3).bind fun Ae=>(if (!Ae)=true then (some 5) else (some 0))))))))
theorem Aen {fuel:Nat} {h:AGt} {Ah:Value} {a3:LiI} {r:Int} (H2:AXs cZ h Ah a3) (hp:AWd fuel a3=some r):ATs Tryz.prog 43 #[Ah] h (fun x h'=>Ext h h'/\x= .int .i64 r):=by
 unfold AWd at hp;refine cwf (l:=[_]) Tryz.func43 rfl rfl (AGm (ATw (AGj ?_)));have K0:=Kst.k0 h;obtain ⟨⟨x5,x6⟩,Au,Ac⟩:=AGn hp;dsimp only at Ac;refine AW0 K0 (Afc (H2.ext K0.x) Au) fun Ay E9 Aa=>AGj (AUb rfl rfl (AUb rfl rfl (ATi (AGu (AGo (AGp (AGm (AGj (AWq rfl (AGj ?_))))))))));cases Ak:(!x6)
 ·refine ATn 13 false (AGj (ATn 13 false (AYb rfl rfl (ATm rfl (AGu ?_)))));have Am:=Aa7 Ac Ak;refine ⟨_,rfl,fun Ad=>?_,fun Ad=>?_⟩
  ·refine AGm (AGu (AGz (AUg (ATc ?_))));obtain rfl:=AGl (ATy Am Ad);exact ⟨_,AS2,Aa.x,rfl⟩
  ·refine AGm (AGj ?_);obtain ⟨A3,Av,Ao⟩:=AGn (ATz Am Ad);refine AW0 Aa (Ad7 (H2.ext Aa.x) Av) fun A4 A5 Ae=>AWq rfl (AGu (⟨_,rfl,fun Af=>?_,fun Af=>?_⟩))
   ·refine AGm (AGu (AGz (AUg (ATc ?_))));obtain rfl:=AGl (ifT Ao Af);exact ⟨_,AS2,Ae.x,rfl⟩
   ·refine AGm (AGj ?_);obtain ⟨A6,Aw,Ap⟩:=AGn (Aa7 Ao Af);refine AW0 Ae (Aim (H2.ext Ae.x) Aw) fun A7 A8 Aq=>AWq rfl (AGu (⟨_,rfl,fun Ag=>?_,fun Ag=>?_⟩))
    ·refine AGm (AGu (AGz (AUg (ATc ?_))));obtain rfl:=AGl (ifT Ap Ag);exact ⟨_,AS2,Aq.x,rfl⟩
    ·refine AGy (q_b (q_t (AGm (AGu (AGz ?_)))));obtain rfl:=AGl (Aa7 Ap Ag);exact ⟨_,AS2,Aq.x,rfl⟩
 ·refine Aej 13 true (ATj rfl (AGu (ATp rfl (AGm (AGu (AGz (AUg (ATc ?_))))))));obtain rfl:=AGl (ifT Ac Ak);exact ⟨_,AS2,Aa.x,rfl⟩
def AV4 (fuel:Nat) (a3 a7:LiI):Option LiI:=
  ((AV2 fuel a7).bind fun (x9,Af)=>((AU4 fuel x9 a3).bind fun Ad=>((AU4 fuel Ad a7).bind fun Ae=>(some Ae))))
theorem Aic {fuel:Nat} {h:AGt} {Ad:Value} {a3:LiI} {Af:Value} {a7 r:LiI} (H2:AXs cZ h Ad a3) (H6:AXs cZ h Af a7) (hp:AV4 fuel a3 a7=some r):ATs Tryz.prog 57 #[Ad,Af] h (fun x h'=>Ext h h'/\ ∃ (x0:Value) (F0:List Nat) (Ap:List LnA) (Aq:List Value),x=x0/\AVt cZ 131 93 h' F0 Ap Aq x0 r/\Sp h' h.size [F0]):=by
 unfold AV4 at hp;refine cwf (l:=[_,_]) Tryz.func57 rfl rfl (AGm (ATw (AGj ?_)));have K0:=Kst.k0 h;obtain ⟨⟨x9,A6⟩,Ar,Am⟩:=AGn hp;dsimp only at Am;refine Afh rfl (Ad6 (H6.ext K0.x) Ar) fun A7 A8 Au Av=>?_;obtain ⟨A9,Ba,Bb,Bc,rfl,Aw,Ax⟩:=Av;refine AGj (AUb rfl rfl (AUb rfl rfl (ATi (ATw (AGj (AGj ?_))))));have Aa:=K0.no2 Au Ax Aw;obtain ⟨Be,Ay,Az⟩:=AGn Am;refine Ahe Aa (Abb (Aa.o2 p0).rd (H2.ext Aa.x) Ay) fun Bf Bg Bh Bi Bj Bl Ab=>AGj ?_;obtain ⟨Bm,A3,A4⟩:=AGn Az;refine Ahe Ab (Abb (Ab.o2 p0).rd (H6.ext Ab.x) A3) fun Bn Bo Bp Bq Br Bt Ac=>AGu (AGz ?_);obtain rfl:=AGl A4;exact ⟨_,AS2,Ac.x,_,_,_,_,rfl,(Ac.o2 p0),Ac.s.sel [0] AGk⟩
def Abw (fuel:Nat) (a6:Int) (Ab Ac:LiA) (Aa:Int):Option ((LiA × LiA × Int) ⊕ ((LiA × LiA))):=
  (if Aa < a6 then (if Ab.length<=100000000 then (if Ac.length<=100000000 then (some (Sum.inl ((Ab ++ [Aa]),(Ac ++ [Aa]),(w64 (Aa + 1))))) else none) else none) else (some (Sum.inr<| (Ab,Ac))))
def AV7 (fuel:Nat) (a3:LiI) (a5 a6:Int):Option Int:=
  ((iter (fun s=>Abw fuel a6 s.1 s.2.1 s.2.2) fuel ([],[],0)).bind (fun ((Ab,Ac):LiA × LiA)=>(if Ab.length<=100000000 then (if Ac.length<=100000000 then ((AW7 fuel a3 (Ab ++ [a5]) (Ac ++ [a6])).bind fun Af=>((AUl fuel Af).bind fun Ag=>(some Ag))) else none) else none)))
theorem Abx {fuel:Nat} {h:AGt} {Ah:Value} {a3:LiI} {a5 a6 r:Int} (H2:AXs cZ h Ah a3) (hp:AV7 fuel a3 a5 a6=some r):ATs Tryz.prog 107 #[Ah,(.int .i64 a5),(.int .i64 a6)] h (fun x h'=>Ext h h'/\ ∃ (x0:Value),x=x0/\ZZ h' x0 r):=by
 unfold AV7 at hp;refine cwf (l:=[_,_,_]) Tryz.func107 rfl rfl (AGm (AVr (Kst.k0 h) [.bool false,.slice none 0 0] AXi fun b7 h8 Bt Au=>AZg (ATi (AGu (AGo (AGm (AGu (AGp ?_))))))));have Ak:=Kst.anil (cI .i64) 3 (Kst.anil (cI .i64) 3 Au);refine AX6 8388480 (fun x:(LiA) × (Value) × LnA × (LiA) × (Value) × LnA × (Int)=>(x.1,x.2.2.2.1,x.2.2.2.2.2.2)) (([],(.slice none 0 0),[],[],(.slice none 0 0),[],0):(LiA) × (Value) × LnA × (LiA) × (Value) × LnA × (Int)) hp (fun x=>[(7,x.2.1),(8,x.2.2.2.2.1),(9,(.int .i64 x.2.2.2.2.2.2))]) (fun x=>(Ak.L.set 1 (aO (cI .i64) 3 x.2.2.1 x.2.1 x.1)).set 0 (aO (cI .i64) 3 x.2.2.2.2.2.1 x.2.2.2.2.1 x.2.2.2.1)) Ak ⟨rfl,rfl,rfl,trivial⟩ ?_;rintro ⟨Bu,Bv,Bw,Bx,By,Bz,u32⟩ B1 B3 B4 Ac Af Av;unfold Abw at Af;refine AGo (AGm (AGj (AGj (ATl rfl rfl (AGr (⟨_,rfl,fun Ag=>?_,fun Ag=>?_⟩))))))
 ·refine AGy (q_t (AGo (AGp (AGm (AGj (AGj ?_))))));obtain ⟨Aw,Ax⟩:=ifN (ATy Af Ag);refine Adu An8 Aoj rfl rfl trivial tt2 (fun _=>rfl) rfl (show ((cI .i64)).rep _ u32 [(.int .i64 u32)] from rfl) (Ac.o p1) AGk Aw fun B5 B6 B7 B8 Ay Az A3=>AGu (AS3 (AGj (AGj ?_)));have Am:=Ac.uo p1 Az Ay A3;obtain ⟨A4,A5⟩:=ifN Ax;refine Adu An8 Aoj rfl rfl trivial tt2 (fun _=>rfl) rfl (show ((cI .i64)).rep _ u32 [(.int .i64 u32)] from rfl) (Am.o p0) AGk A4 fun B9 Ca Cb Cd A6 A7 A8=>ATi (ATh (q_b (q_t (AS3 (AGj (ATk rfl rfl (AGu ?_)))))));exact ⟨(_,_,_,_,_,_,_),(AGl A5).symm,(Am.uo p0 A7 A6 A8),rfl,rfl,rfl,trivial⟩
 ·refine AS8 (ATa (ATa (AT7 (q_t (AGm (AGj (AGj (AGj ?_))))))));obtain ⟨A9,Ba⟩:=ifN (Av _ (AGl (ATz Af Ag)).symm);refine Adu An8 Aoj rfl rfl trivial tt2 (fun _=>rfl) rfl (show ((cI .i64)).rep _ a5 [(.int .i64 a5)] from rfl) (Ac.o p1) AGk A9 fun Ce Cf Cg Ch Bb Bc Be=>AGj (AGj ?_);have Ao:=Ac.uo p1 Bc Bb Be;obtain ⟨Bf,Bg⟩:=ifN Ba;refine Adu An8 Aoj rfl rfl trivial tt2 (fun _=>rfl) rfl (show ((cI .i64)).rep _ a6 [(.int .i64 a6)] from rfl) (Ao.o p0) AGk Bf fun Ci Cj Ck Cm Bh Bi Bj=>?_;have Ad:=Ao.uo p0 Bi Bh Bj;obtain ⟨Cn,Bl,Bm⟩:=AGn Bg;refine Ahe Ad (Afd (H2.ext Ad.x) (Ad.o p1).rd (Ad.o p0).rd Bl) fun Co Cp Cq Cr Ct Cu Ap=>?_;obtain ⟨Cv,Bn,Bo⟩:=AGn Bm;refine Af9 Ap (AVy (Ap.o2 p0).rd Bn) fun Cw Bp Cx Aq=>AYh Aq p4 (AS7 Bp) (Aq.z p0) fun Cy Ae=>AGr (AGz ?_);obtain rfl:=AGl Bo;exact ⟨_,AU7 AUa (cZ.klen (Ae.z p0)) rfl (Ae.b p4),Ae.x,_,rfl,(Ae.z p0).2⟩
def AU5 (fuel:Nat) (a3:LiA) (a5:Int):Option Int:=
  (if a5=0 then ((Aek fuel 1).bind fun Ac=>(some Ac)) else ((gI a3 (w64 (a5 - 1))).bind fun Ad=>(some Ad)))
theorem AWe {fuel:Nat} {h:AGt} {Af:Value} {a3:LiA} {a5 r:Int} (H2:SlC cZ h Af a3) (hp:AU5 fuel a3 a5=some r):ATs Tryz.prog 108 #[Af,(.int .i64 a5)] h (fun x h'=>Ext h h'/\ ∃ (x0:Value),x=x0/\ZZ h' x0 r):=by
 unfold AU5 at hp;refine cwf (l:=[_,_]) Tryz.func108 rfl rfl (AGm (AVr (Kst.k0 h) [.bool false,.slice none 0 0] AXi fun b6 h7 E9 Aa=>AGr (AGo (AGm (AGj (AUy rfl rfl (AGr (⟨_,rfl,fun Ae=>?_,fun Ae=>?_⟩))))))))
 ·refine AGm ?_;obtain ⟨Ay,Ao,Ap⟩:=AGn (ATy hp Ae);refine Af9 Aa (Ac0 Ao) fun Az Aq A3 Aj=>AYh Aj p1 (AS7 Aq) (Aj.z p0) fun A4 Ab=>AGr (AGz (ATc ?_));obtain rfl:=AGl Ap;exact ⟨_,AU7 AUa (cZ.klen (Ab.z p0)) rfl (Ab.b p1),Ab.x,_,rfl,(Ab.z p0).2⟩
 ·refine AGy (q_t (AGm (AGj (AGj (AVd rfl rfl ?_)))));obtain ⟨A5,Ar,Au⟩:=AGn (ATz hp Ae);refine Adl (c:=cZ) AVp rfl H2 rfl Ar fun A6 A7 A8 Ac Av=>Afb (c:=cZ) AUa rfl (Aa.zx Ac) (fun j u hu=>(ATo (Av j u hu) Aa.x)) (AYh Aa p0 (AS7 h7) (Aa.zx Ac) fun A9 Ad=>AGr (AGz ?_));obtain rfl:=AGl Au;exact ⟨_,AU7 AUa (cZ.klen (Ad.zx Ac)) rfl (Ad.b p0),Ad.x,_,rfl,(Ad.zx Ac).2⟩
def AYz (fuel:Nat) (a3:LiI) (a7:LiA) (a9 Aa:Int):Option Bool:=
  ((Aek fuel 2).bind fun Ae=>((AV7 fuel a3 a9 Aa).bind fun Af=>((A07 fuel Af).bind fun Ag=>((Aj5 fuel Ae Ag).bind fun Ah=>((AU5 fuel a7 (w64 (Aa + 1))).bind fun Ai=>((At9 fuel Ah Ai).bind fun Aj=>(some (decide (Aj<=0)))))))))
theorem Akl {fuel:Nat} {h:AGt} {Ac:Value} {a3:LiI} {Ae:Value} {a7:LiA} {a9 Ah:Int} {r:Bool} (H2:AXs cZ h Ac a3) (H6:SlC cZ h Ae a7) (hp:AYz fuel a3 a7 a9 Ah=some r):ATs Tryz.prog 94 #[Ac,Ae,(.int .i64 a9),(.int .i64 Ah)] h (fun x h'=>Ext h h'/\x= .bool r):=by
 unfold AYz at hp;refine cwf (l:=[_,_,_,_]) Tryz.func94 rfl rfl (AGm (ATw ?_));obtain ⟨A7,Ap,Aq⟩:=AGn hp;refine Af9 (Kst.k0 h) (Ac0 Ap) fun A8 A9 Ba Ai=>AGj (AGj (AGj ?_));obtain ⟨Bb,Ar,Au⟩:=AGn Aq;refine Af9 Ai (Abx (H2.ext Ai.x) Ar) fun Bc Be Bf Aj=>?_;obtain ⟨Bg,Av,Aw⟩:=AGn Au;refine Af9 Aj (Azn (Aj.z p0).2 Av) fun Bh Bi Bj Aa=>?_;obtain ⟨Bl,Ax,Ay⟩:=AGn Aw;refine Af9 Aa (Aia (Aa.z p2).2 (Aa.z p0).2 Ax) fun Bm Bn Bo Ak=>AGj (AGj (ATk rfl rfl ?_));obtain ⟨Bp,Az,A3⟩:=AGn Ay;refine Af9 Ak (AWe (H6.ext Ak.x) Az) fun Bq Br Bt Ab=>?_;obtain ⟨Bu,A4,A5⟩:=AGn A3;refine AW0 Ab (Asq (Ab.z p1).2 (Ab.z p0).2 A4) fun Bv Bw A6=>Ap8 rfl rfl (AGu (AGz ?_));obtain rfl:=AGl A5;exact ⟨_,AS2,A6.x,rfl⟩
def AY0 (fuel:Nat) (a3:LiI):Option Bool:=
  ((AUl fuel a3).bind fun x5=>((Aek fuel 10000).bind fun Ac=>((At9 fuel x5 Ac).bind fun Ad=>(some (decide (Ad<=0))))))
theorem Akm {fuel:Nat} {h:AGt} {Ab:Value} {a3:LiI} {r:Bool} (H2:AXs cZ h Ab a3) (hp:AY0 fuel a3=some r):ATs Tryz.prog 44 #[Ab] h (fun x h'=>Ext h h'/\x= .bool r):=by
 unfold AY0 at hp;refine cwf (l:=[_]) Tryz.func44 rfl rfl (AGm (ATw (AGj ?_)));have K0:=Kst.k0 h;obtain ⟨x5,Af,Ag⟩:=AGn hp;refine Af9 K0 (AVy (H2.ext K0.x) Af) fun Aq h9 E8 Ah=>?_;obtain ⟨Av,Ai,Aj⟩:=AGn Ag;refine Af9 Ah (Ac0 Ai) fun Aw Ax Ay Aa=>?_;obtain ⟨Az,Ak,Am⟩:=AGn Aj;refine AW0 Aa (Asq (Aa.z p1).2 (Aa.z p0).2 Ak) fun A3 A4 Ao=>Ap8 rfl rfl (AGu (AGz ?_));obtain rfl:=AGl Am;exact ⟨_,AS2,Ao.x,rfl⟩
def Ac5 (fuel:Nat) (a1:Int) (a2:Bool) (Aa:Int) (Ac:LiI):Option ((Int × LiI) ⊕ ((LiI))):=
  (if Aa < ((List.replicate (Int.toNat a1) ([]:List Int)).length:Int) then (if 0<=a1/\a1<=100000000 then ((gI Ac Aa).bind fun Ai=>((gI (sI Ac Aa (List.replicate (Int.toNat a1) (0:Int))) Aa).bind fun Ae=>((gI Ae Aa).bind fun Aj=>(((if a2=true then (if Aa=(w64 (a1 - 1)) then (if 3 < a1 then (some ( (w64 (Aa - 2)))) else (some ( (w64 (Aa - 1))))) else (some ( (w64 (Aa - 1))))) else (some ( (w64 (Aa - 1))))):Option ((Int))).bind (fun (Ad:Int)=>(if 0<=Ad then ((gI (sI (sI Ac Aa (List.replicate (Int.toNat a1) (0:Int))) Aa (sI Ae Aa 2)) Aa).bind fun Af=>((gI (sI (sI Ac Aa (List.replicate (Int.toNat a1) (0:Int))) Aa (sI Ae Aa 2)) Ad).bind fun Ak=>((gI Af Ad).bind fun Am=>((gI (sI (sI (sI Ac Aa (List.replicate (Int.toNat a1) (0:Int))) Aa (sI Ae Aa 2)) Aa (sI Af Ad (-1))) Ad).bind fun Ag=>((gI Ag Aa).bind fun Ao=>(some (Sum.inl ((w64 (Aa + 1)),(sI (sI (sI (sI Ac Aa (List.replicate (Int.toNat a1) (0:Int))) Aa (sI Ae Aa 2)) Aa (sI Af Ad (-1))) Ad (sI Ag Aa (-1))))))))))) else (some (Sum.inl ((w64 (Aa + 1)),(sI (sI Ac Aa (List.replicate (Int.toNat a1) (0:Int))) Aa (sI Ae Aa 2))))))))))) else none) else (some (Sum.inr<| Ac)))
def AX8 (fuel:Nat) (a1:Int) (a2:Bool):Option LiI:=
  (if 0<=a1/\a1<=100000000 then ((iter (fun s=>Ac5 fuel a1 a2 s.1 s.2) fuel (0,(List.replicate (Int.toNat a1) ([]:List Int)))).bind (fun (Ac:LiI)=>(some Ac))) else none)
theorem Af4 {fuel:Nat} {h:AGt} {a1:Int} {a2:Bool} {r:LiI} (hp:AX8 fuel a1 a2=some r):ATs Tryz.prog 60 #[(.int .i64 a1),(.bool a2)] h (fun x h'=>Ext h h'/\ ∃ (x0:Value) (F0:List Nat) (A5:List LnA) (A6:List Value),x=x0/\AVt (cI .i64) 49 2 h' F0 A5 A6 x0 r/\Sp h' h.size [F0]):=by
 unfold AX8 at hp;refine cwf (l:=[_,_]) Tryz.func60 rfl rfl (AGm (ATw (AGj ?_)));obtain ⟨A7,A8⟩:=ifN hp;refine Aj1 (cI .i64) 2 ATb Aff rfl trivial tt2 rfl rfl AGk A7 fun A9 Ba Bb v9 h7 I8 E5 S6=>AGu (AGo (AGm (AGj ?_)));have Ai:=(Kst.k0 h).no2 E5 S6 I8;refine AT4 ATb rfl (Ai.o2 p0).rd (AGj (AGr (AGp (AX6 72057594037924032 (fun x:(Int) × (LiI) × LnA × LnN × LvA=>(x.1,x.2.1)) ((0,(List.replicate (Int.toNat a1) ([]:List Int)),A9,Ba,Bb):(Int) × (LiI) × LnA × LnN × LvA) A8 (fun x=>[(12,(.int .i64 x.1))]) (fun x=>Ai.L.set 0 (aO2 (cI .i64) 49 2 x.2.2.1 x.2.2.2.1 x.2.2.2.2 v9 x.2.1)) Ai ⟨rfl,trivial⟩ ?_))));rintro ⟨Aa,Cj,Ck,Cm,Cn⟩ Co Cp Cq Ae Aj Bh;unfold Ac5 at Aj;refine AGm (ATl rfl rfl (AGr (AGo (⟨_,rfl,fun Ak=>?_,fun Ak=>?_⟩))))
 ·refine AGy (q_t (AGo (AGp (AGm (AGj (ATw (AGj (AGj (AGj ?_)))))))));obtain ⟨Bi,Bj⟩:=ifN (ATy Aj Ak);refine Ai3 (c:=(cI .i64)) (a:=0) AS9 Acy rfl rfl (fun _=>rfl) rfl trivial tt2 rfl rfl AGk Bi fun Cr Ct Cu Bl Bm Bn Bo=>?_;have Ab:=Ae.no Bm (AX2 Bn Bo) Bl;obtain ⟨Cv,Ar,Bp⟩:=AGn Bj;refine AVf ATb rfl (Ab.o2 p1) rfl Ar fun Cw Cx Bq Cy Cz=>Aj0 ATq (Ab.o2 p1) Ar Bq rfl rfl (Ab.o p0) (Ab.dj p0 p1 AGk) fun C0 Br Bt Bu=>AZg (AGj (AGj ?_));have Au:=Ab.m2 p0 p1 AGk Bt Br (fun z hz=> .inl (Bu z hz));obtain ⟨C1,Av,Bv⟩:=AGn Bp;refine AUh ATb ATq (Au.o2 p1) Av fun _ C2 Bw=>AGj ?_;obtain ⟨C3,Bx,By⟩:=AGn Bv;refine AZv (m:=Aa) Au p1 AS9 ATe Bw Av Bx (fun _=>rfl) fun _ C4 Ac=>AZg (AGj (AVd rfl rfl (AGu ?_)));obtain ⟨Bz,Aw,Ax⟩:=AGn By;refine Acg 2198754820224 (fun x:(Int)=>[(7,(.int .i64 x))]) (fun x h'=>( x)=Bz/\Kst h h' (AYv Ac.L [1])) ?_ ?_
  ·refine AGm (AGj (AGj ?_));cases Ay:a2
   ·refine Afz 29 false (ATm rfl (AGj (Aej 35 false (ATm rfl (AGr (ATr rfl (AGy (q_t ?_))))))));exact ⟨((w64 (Aa - 1)):(Int)),⟨AGl (Aa7 Aw Ay),Ac.sel [1] AGk⟩,rfl,trivial⟩
   ·refine ATn 29 true (AGj (ATn 29 true (AGj (ATn 29 true (AVd rfl rfl (ATn 29 true (AUy rfl rfl (ATj rfl (AGj ?_)))))))));have Az:=ifT Aw Ay;by_cases Af:Aa=(w64 (a1 - 1))
    ·have A3:=ifT Az Af;rw [decide_eq_true Af];refine ATn 35 true (AGj (ATn 35 true (AYb rfl rfl (ATj rfl (AGr (⟨_,rfl,fun Am=>?_,fun Am=>?_⟩))))))
     ·refine AS3 (AGj (AVd rfl rfl (AGu ?_)));exact ⟨((w64 (Aa - 2)):(Int)),⟨AGl (ATy A3 Am),Ac.sel [1] AGk⟩,rfl,trivial⟩
     ·refine AGy (q_t ?_);exact ⟨((w64 (Aa - 1)):(Int)),⟨AGl (ATz A3 Am),Ac.sel [1] AGk⟩,rfl,trivial⟩
    ·rw [decide_eq_false Af];refine Aej 35 false (ATm rfl (AGr (ATr rfl (AGy (q_t ?_)))));exact ⟨((w64 (Aa - 1)):(Int)),⟨AGl (ifF Az Af),Ac.sel [1] AGk⟩,rfl,trivial⟩
  rintro B1 C5 C6 ⟨B3,Ag⟩;subst B3;refine AGm (AGj (Agp rfl rfl (AGr (⟨_,rfl,fun Ao=>?_,fun Ao=>?_⟩))))
  ·refine AXr (AGj (AGj ?_));obtain ⟨C7,A4,B4⟩:=AGn (ATy Ax Ao);refine AUh ATb ATq (Ag.o2 p0) A4 fun _ C8 B5=>AGj (AGj (AGj ?_));obtain ⟨C9,B6,B7⟩:=AGn B4;refine AUh ATb ATq (Ag.o2 p0) B6 fun _ Da B8=>AGj ?_;obtain ⟨Db,B9,Ca⟩:=AGn B7;refine AZv (m:=Aa) Ag p0 AS9 ATe B5 A4 B9 (fun _=>rfl) fun _ Dc Cb=>?_;obtain ⟨Dd,Cd,Ce⟩:=AGn Ca;obtain ⟨De,Cf,Cg⟩:=AGn Ce;refine AZv (m:=B1) Cb p0 AS9 ATe B8 Cd Cf (fun _=>rfl) fun _ Df Ch=>ATh (q_b (q_t (AS3 (ATk rfl rfl (AGj (AGr ?_))))));exact ⟨(_,_,_,_,_),(AGl Cg).symm,Ch,rfl,trivial⟩
  ·refine AGy (q_b (q_t (AS3 (ATk rfl rfl (AGj (AGr ?_))))));exact ⟨(_,_,_,_,_),(AGl (ATz Ax Ao)).symm,Ag,rfl,trivial⟩
 ·refine AS8 (ATa (ATa (AT7 (q_t (AGm (AGj (AGu (AGz ?_))))))));obtain rfl:=AGl (Bh _ (AGl (ATz Aj Ak)).symm);exact ⟨_,AS2,Ae.x,_,_,_,_,rfl,(Ae.o2 p0),Ae.s.sel [0] AGk⟩
def AZ9 (fuel:Nat) (a3:LiI):Option Bool:=
  ((AW1 fuel a3).bind fun x5=>((AWd fuel x5).bind fun Ac=>(if Ac=0 then ((AUl fuel x5).bind fun Ad=>((Aek fuel 10000).bind fun Ae=>((At9 fuel Ad Ae).bind fun Af=>(some (decide (Af<=0)))))) else (some false))))
theorem Al0 {fuel:Nat} {h:AGt} {Ad:Value} {a3:LiI} {r:Bool} (H2:AXs (cI .i64) h Ad a3) (hp:AZ9 fuel a3=some r):ATs Tryz.prog 63 #[Ad] h (fun x h'=>Ext h h'/\x= .bool r):=by
 unfold AZ9 at hp;refine cwf (l:=[_]) Tryz.func63 rfl rfl (AGm (ATw (AGj ?_)));have K0:=Kst.k0 h;obtain ⟨x5,Aj,Ak⟩:=AGn hp;refine Ahe K0 (Aee (H2.ext K0.x) Aj) fun A3 A4 A5 A6 h9 E8 Ag=>ATw (AGj ?_);obtain ⟨Am,Ao,Ah⟩:=AGn Ak;refine AW0 Ag (Aen (Ag.o2 p0).rd Ao) fun A9 Ba Ab=>AUy rfl rfl (AGj ?_);by_cases Aa:Am=0
 ·rw [decide_eq_true Aa];refine ATn 9 true (AGj (ATn 9 true ?_));obtain ⟨Bb,Ap,Aq⟩:=AGn (ifT Ah Aa);refine Af9 Ab (AVy (Ab.o2 p0).rd Ap) fun Bc Be Bf Ar=>ATn 9 true ?_;obtain ⟨Bg,Au,Av⟩:=AGn Aq;refine Af9 Ar (Ac0 Au) fun Bh Bi Bj Ac=>ATn 9 true ?_;obtain ⟨Bl,Aw,Ax⟩:=AGn Av;refine AW0 Ac (Asq (Ac.z p1).2 (Ac.z p0).2 Aw) fun Bm Bn Ay=>ATn 9 true (Ap8 rfl rfl (ATj rfl (AGu (AGz ?_))));obtain rfl:=AGl Ax;exact ⟨_,AS2,Ay.x,rfl⟩
 ·rw [decide_eq_false Aa];refine Acp 9 false (ATm rfl (AGu (AGz ?_)));obtain rfl:=AGl (ifF Ah Aa);exact ⟨_,AS2,Ab.x,rfl⟩
def Adz (fuel:Nat) (Ab Aa:Int):Option ((Int × Int) ⊕ ((Int))):=
  ((Aqa fuel Aa).bind fun Ac=>(if ¬ Ac=0 then ((AZ6 fuel Ab Aa).bind fun Ad=>(some (Sum.inl (Aa,Ad)))) else (some (Sum.inr<| Ab))))
def Aaa (fuel:Nat) (a1 a5:Int):Option Int:=
  ((A07 fuel a1).bind fun Ac=>((A07 fuel a5).bind fun Ad=>((iter (fun s=>Adz fuel s.1 s.2) fuel (Ac,Ad)).bind (fun (Ae:Int)=>(some Ae)))))
theorem Al1 {fuel:Nat} {h:AGt} {Aq:Value} {a1:Int} {Au:Value} {a5 r:Int} (H3:ZZ h Aq a1) (H7:ZZ h Au a5) (hp:Aaa fuel a1 a5=some r):ATs Tryz.prog 180 #[Aq,Au] h (fun x h'=>Ext h h'/\ ∃ (x0:Value),x=x0/\ZZ h' x0 r):=by
 unfold Aaa at hp;obtain ⟨Bj,rfl,Ax⟩:=H3.cs;obtain ⟨Bl,rfl,Ay⟩:=H7.cs;refine cwf (l:=[_,_]) Tryz.func180 rfl rfl (AGm (AYy (Kst.k0 h) Bj fun b9 Cp Cq Bm=>AYy Bm Bl fun Cr Ct Cu Bn=>AVr Bn [.bool false,.slice none 0 0] AXi fun Cv Ak Cw Ab=>AGr (AGo ?_)));have Am:UpT [] Ak Ak:=UpT.start all_nil;refine Ano (B:=fun h'=>UpT [] Ak h') 4 [⟨5,93,[.bool false,.slice none 0 0]⟩,⟨6,93,[.bool false,.slice none 0 0]⟩] (fun _ _ U E=>U.thenE E) AGx Am (Azh rfl rfl AXi rfl AXi rfl (fun _ _ U E=>U.thenE E)) (h_l rfl (Agr (Ab.zx Ax) Am (Ab.b p2) (ATh (h_e rfl fun Cx Az=>?_))));have A3:=Ab.e Az;obtain ⟨Bo,Bp,Bq⟩:=AGn hp;refine AX5 A3 (Am.thenE Az) (Azn (A3.zx Ax).2 Bp) fun A4 Cy Br A5 A6=>ATh ⟨Br,?_⟩;refine h_l rfl (Agr (A5.zx Ay) A6 (Ab.b p1) (ATh (h_e rfl fun Cz A7=>?_)));have A8:=A5.e A7;obtain ⟨Bt,Bu,Bv⟩:=AGn Bq;refine AX5 A8 (A6.thenE A7) (Azn (A8.zx Ay).2 Bu) fun A9 C0 Bw Bx By=>ATh ⟨Bw,?_⟩;refine At6 fun Bz Ba=>BBi fun B1 B3 Bb Bc B4 B5 B6 C1 C2=>?_;have Be:=Bx.e Ba;have Ae:=((Ab.nb2 (By.thenE Ba).ext (Azi B5 B6 Bb.lt Bc.lt B4) Bb Bc).az (Be.z p1)).az (Be.z p0);refine AU0 A4 AUa (cZ.klen (Ae.z p1)) (cZ.klen (AS7 Bz)) rfl rfl (cZ.one (Ae.z p1)) (Ae.b p2) fun B7 B8 B9=>?_;have Af:=Ae.sb p2 B9 B8 rfl;refine AU0 A9 AUa (cZ.klen (Af.z p0)) (cZ.klen (AS7 B7)) rfl rfl (cZ.one (Af.z p0)) (Af.b p3) fun C3 Ca Cb=>AGr (AGo (AGp ?_));have Ao:=(Af.sb p3 Cb Ca rfl).sel [0,1,2,3,4] AGk;dsimp only [AYv,Ab8] at Ao;refine AX6 260096 (fun x:(Int) × LvA × (Int) × LvA=>(x.1,x.2.2.1)) ((Bo,A4,Bt,A9):(Int) × LvA × (Int) × LvA) Bv (fun x=>[]) (fun x=>(((Ao.L.set 1 (aZ x.2.1 x.1)).set 0 (aZ x.2.2.2 x.2.2.1)).set 2 (aB 93 B1 x.2.1)).set 3 (aB 93 B3 x.2.2.2)) Ao trivial ?_;rintro ⟨C4,C5,C6,Cd⟩ C7 C8 C9 Ag Bf Ce;unfold Adz at Bf;refine AGo (AGm (Ac1 (Ag.z p0) (Ag.b p3) ?_));obtain ⟨Da,Cf,Bg⟩:=AGn Bf;refine AW0 Ag (Apb (Ag.z p0).2 Cf) fun Ah Db Aa=>AWp rfl rfl (AGr (⟨_,rfl,fun Ap=>?_,fun Ap=>?_⟩))
 ·refine AGy (q_t (AGp (AVa (fun h'=>UpT [] Ah h') AGx ?_)));have Ai:UpT [] Ah Ah:=UpT.start all_nil;refine Agr (Aa.z p0) Ai (Aa.b p3) (Agr (Aa.z p1) Ai (Aa.b p2) (Agr (Aa.z p0) Ai (Aa.b p3) ?_));obtain ⟨Dc,Cg,Ch⟩:=AGn (ATy Bg Ap);refine AX5 Aa Ai (Alx (Aa.z p1).2 (Aa.z p0).2 Cg) fun Ci Dd De Ac Df=>AU0 Cd AUa (cZ.klen (Ac.z p1)) (cZ.klen (Ac.z p2)) rfl rfl (cZ.one (Ac.z p1)) (Ac.b p3) fun Dg Cj Ck=>?_;have Ad:=Ac.sb p3 Ck Cj rfl;refine AU0 Ci AUa (cZ.klen (Ad.z p0)) (cZ.klen (Ad.z p1)) rfl rfl (cZ.one (Ad.z p0)) (Ad.b p4) fun Dh Cm Cn=>ATh (q_b (q_t ?_));exact ⟨(_,_,_,_),(AGl Ch).symm,(Ad.sb p4 Cn Cm rfl).sel [0,1,3,4,5] AGk,trivial⟩
 ·refine AS8 (ATa (ATa (AT7 (q_t (AGm (Ac1 (Aa.z p1) (Aa.b p2) (AYh Aa p4 (AS7 Ah) (Aa.z p1) fun Di Aj=>AGr (AGz ?_))))))));obtain rfl:=AGl (Ce _ (AGl (ATz Bg Ap)).symm);exact ⟨_,AU7 AUa (cZ.klen (Aj.z p1)) rfl (Aj.b p4),Aj.x,_,rfl,(Aj.z p1).2⟩
def AYs (fuel:Nat) (a1 a5:Int):Option ((Int × Int) × Bool):=
  ((Aqa fuel a5).bind fun Af=>(if Af=0 then (some ((0,0),false)) else ((((Aqa fuel a5).bind fun Ag=>(if Ag < 0 then ((Axc fuel a1).bind fun Ah=>((Axc fuel a5).bind fun Ai=>(some ( (Ah,Ai))))) else (some ( (a1,a5))))):Option ((Int × Int))).bind (fun ((Ac,Ad):Int × Int)=>((Aaa fuel Ac Ad).bind fun Ae=>((AVw fuel Ac Ae).bind fun Aj=>((AVw fuel Ad Ae).bind fun Ak=>(some ((Aj,Ak),true)))))))))
theorem Ags {fuel:Nat} {h:AGt} {A4:Value} {a1:Int} {A5:Value} {a5:Int} {r:((Int × Int) × Bool)} (H3:ZZ h A4 a1) (H7:ZZ h A5 a5) (hp:AYs fuel a1 a5=some r):ATs Tryz.prog 166 #[A4,A5] h (fun x h'=>Ext h h'/\ ∃ (x0:Value),x= .tuple #[x0,.bool r.2]/\Aq4 h' x0 r.1.1 r.1.2):=by
 unfold AYs at hp;obtain ⟨A7,rfl,Am⟩:=H3.cs;obtain ⟨A8,rfl,Ab⟩:=H7.cs;refine cwf (l:=[_,_]) Tryz.func166 rfl rfl (AGm (AYy (Kst.k0 h) A7 fun b9 Cq Cr Bo=>AYy Bo A8 fun Bp Ct Cu Bq=>AVr Bq [.bool false,.slice none 0 0,.bool false,.slice none 0 0] Aib fun Cv Cw Cx Ao=>AGu (AGo (AGm (Ac1 (Ao.zx Ab) (Ao.b p1) ?_)))));obtain ⟨Cy,Br,A9⟩:=AGn hp;refine AW0 Ao (Apb (Ao.zx Ab).2 Br) fun Ag Cz Ad=>AUy rfl rfl (AGr (⟨_,rfl,fun Au=>?_,fun Au=>?_⟩))
 ·refine AGm (AV6 (Azj ) (AU0 ([Value.bool false,Value.slice none 0 0] ++ [Value.bool false,Value.slice none 0 0]) AYg (AUz (AS7 Ag) (AS7 Ag)) (AUz (AS7 Ag) (AS7 Ag)) rfl rfl (Ael (AS7 Ag) (AS7 Ag)) (Ad.b p0) fun Ap Bt Bu=>AGu (AGz (ATc ?_))));have Ba:=Ad.sb p0 Bu Bt rfl;obtain rfl:=AGl (ATy A9 Au);exact ⟨_,Alk AYg (AUz (AS7 Ap) (AS7 Ap)) rfl (Ba.b p0),Ba.x,_,rfl,⟨_,_,rfl,(AS7 Ap),(AS7 Ap)⟩⟩
 ·refine AGy (q_t ?_);obtain ⟨Bv,Bw,Bx⟩:=AGn (ATz A9 Au);refine Acg 260096 (fun x:(Int) × LvA × (Int) × LvA=>[]) (fun x h'=>( (x.1,x.2.2.1))=Bv/\Kst h h' (aZ x.2.1 x.1 :: aZ x.2.2.2 x.2.2.1 :: ((Ad.L.set 2 (aB 93 b9 x.2.1)).set 1 (aB 93 Bp x.2.2.2)))) ?_ ?_
  ·refine AGm (Ac1 (Ad.zx Ab) (Ad.b p1) ?_);obtain ⟨C0,By,Bb⟩:=AGn Bw;refine AW0 Ad (Apb (Ad.zx Ab).2 By) fun Av C1 Ae=>ATl rfl rfl (AGr (⟨_,rfl,fun Aw=>?_,fun Aw=>?_⟩))
   ·refine AVa (fun h'=>UpT [] Av h') AGx ?_;have Bc:UpT [] Av Av:=UpT.start all_nil;refine Agr (Ae.zx Am) Bc (Ae.b p2) ?_;obtain ⟨Bz,B1,B3⟩:=AGn (ATy Bb Aw);refine AX5 Ae Bc (Avh (Ae.zx Am).2 B1) fun Be C2 C3 Ax Bf=>Agr (Ax.zx Ab) Bf (Ae.b p1) ?_;obtain ⟨B4,B5,B6⟩:=AGn B3;refine AX5 Ax Bf (Avh (Ax.zx Ab).2 B5) fun Bg C4 C5 Ai C6=>AU0 Be AUa (cZ.klen (Ai.z p1)) (cZ.klen (Ai.zx Am)) rfl rfl (cZ.one (Ai.z p1)) (Ai.b p4) fun C7 B7 B8=>?_;have Aj:=Ai.sb p4 B8 B7 rfl;refine AU0 Bg AUa (cZ.klen (Aj.z p0)) (cZ.klen (Aj.zx Ab)) rfl rfl (cZ.one (Aj.z p0)) (Aj.b p3) fun C8 B9 Ca=>AGr ?_;exact ⟨((Bz,Be,B4,Bg):(Int) × LvA × (Int) × LvA),⟨AGl B6,(Aj.sb p3 Ca B9 rfl).sel [1,0,2,3,4] AGk⟩,trivial⟩
   ·refine AGy (q_t ?_);have Bh:=Ae.az (Ae.zx Am);exact ⟨((a1,A7,a5,A8):(Int) × LvA × (Int) × LvA),⟨AGl (ATz Bb Aw),(Bh.az (Bh.zx Ab)).sel [1,0,2,3,4] AGk⟩,trivial⟩
  rintro ⟨C9,Da,Db,Dc⟩ Dd De ⟨Cb,Af⟩;subst Cb;refine AGm (Ac1 (Af.z p0) (Af.b p4) (Ac1 (Af.z p1) (Af.b p3) ?_));obtain ⟨Df,Cd,Ce⟩:=AGn Bx;refine Af9 Af (Al1 (Af.z p0).2 (Af.z p1).2 Cd) fun Dg Dh Di Cf=>AVr Cf [.bool false,.slice none 0 0] AXi fun Dj Cg Dk Bi=>AYh Bi p0 (AS7 Cg) (Bi.z p1) fun Ay Aa=>AGr (AGo (AVa (fun h'=>UpT [] Ay h') AGx ?_));have Az:UpT [] Ay Ay:=UpT.start all_nil;refine Agr (Aa.z p2) Az (Aa.b p6) (Agr (Aa.z p1) Az (Aa.b p0) ?_);obtain ⟨Dl,Ch,Ci⟩:=AGn Ce;refine AX5 Aa Az (Aac (Aa.z p2).2 (Aa.z p1).2 Ch) fun Cj Do Dp Ak A3=>Agr (Ak.z p4) A3 (Aa.b p5) (Agr (Ak.z p2) A3 (Aa.b p0) ?_);obtain ⟨Dq,Ck,Cm⟩:=AGn Ci;refine AX5 Ak A3 (Aac (Ak.z p4).2 (Ak.z p2).2 Ck) fun Cn Bj Dr Ac Ds=>AV6 (Anq (Ac.z p1) (Ac.z p0)) (AU0 (Cj ++ Cn) AYg (AUz (Ac.z p1) (Ac.z p0)) (AUz (AS7 Bj) (AS7 Bj)) rfl rfl (Ael (Ac.z p1) (Ac.z p0)) (Ac.b p6) fun Dt Co Cp=>AGu (AGz ?_));have Ah:=Ac.sb p6 Cp Co rfl;obtain rfl:=AGl Cm;exact ⟨_,Alk AYg (AUz (Ah.z p1) (Ah.z p0)) rfl (Ah.b p6),Ah.x,_,rfl,⟨_,_,rfl,(Ah.z p1),(Ah.z p0)⟩⟩
def Aef (fuel:Nat) (a1:Int):Option (Int × Int):=
  ((Aj6 fuel a1).bind fun Ab=>((Aek fuel 1).bind fun Ac=>(some (Ab,Ac))))
theorem Akn {fuel:Nat} {h:AGt} {Ad:Value} {a1:Int} {r:(Int × Int)} (H3:ZZ h Ad a1) (hp:Aef fuel a1=some r):ATs Tryz.prog 181 #[Ad] h (fun x h'=>Ext h h'/\ ∃ (x0:Value),x=x0/\Aq4 h' x0 r.1 r.2):=by
 unfold Aef at hp;obtain ⟨Aj,rfl,Ag⟩:=H3.cs;refine cwf (l:=[_]) Tryz.func181 rfl rfl (AGm (AYy (Kst.k0 h) Aj fun b5 h6 E8 Ak=>AVr Ak [.bool false,.slice none 0 0,.bool false,.slice none 0 0] Aib fun A4 A5 A6 Ac=>AZg (Ac1 (Ac.zx Ag) (Ac.b p1) ?_)));obtain ⟨A7,Am,Ao⟩:=AGn hp;refine Af9 Ac (Alu (Ac.zx Ag).2 Am) fun Ap A8 A9 Aq=>?_;obtain ⟨Ba,Ar,Au⟩:=AGn Ao;refine Af9 Aq (Ac0 Ar) fun Av Ah Bb Aa=>AV6 (Anq (Aa.z p1) (Aa.z p0)) (AU0 (Ap ++ Av) AYg (AUz (Aa.z p1) (Aa.z p0)) (AUz (AS7 Ah) (AS7 Ah)) rfl rfl (Ael (Aa.z p1) (Aa.z p0)) (Aa.b p2) fun Bc Aw Ax=>AGr (AGz ?_));have Ab:=Aa.sb p2 Ax Aw rfl;obtain rfl:=AGl Au;exact ⟨_,AU7 AYg (AUz (Ab.z p1) (Ab.z p0)) rfl (Ab.b p2),Ab.x,_,rfl,⟨_,_,rfl,(Ab.z p1),(Ab.z p0)⟩⟩
def Aeg (fuel:Nat) (a1:Int):Option (Int × Int):=
  ((Aek fuel a1).bind fun x9=>((Aef fuel x9).bind fun Aa=>(some (Aa.1,Aa.2))))
theorem Ako {fuel:Nat} {h:AGt} {a1:Int} {r:(Int × Int)} (hp:Aeg fuel a1=some r):ATs Tryz.prog 167 #[(.int .i64 a1)] h (fun x h'=>Ext h h'/\ ∃ (x0:Value),x=x0/\Aq4 h' x0 r.1 r.2):=by
 unfold Aeg at hp;refine cwf (l:=[_]) Tryz.func167 rfl rfl (AGm (AVr (Kst.k0 h) [.bool false,.slice none 0 0,.bool false,.slice none 0 0] Aib fun b2 h3 E5 K8=>AZg (AGj ?_)));obtain ⟨x9,Ah,Ai⟩:=AGn hp;refine Af9 K8 (Ac0 Ah) fun A5 A6 A7 Ae=>?_;obtain ⟨A8,Aj,Ak⟩:=AGn Ai;refine Afh rfl (Akn (Ae.z p0).2 Aj) fun A9 Af Am Ao=>?_;obtain ⟨Ba,rfl,Ap⟩:=Ao;obtain ⟨Aq,Ar,rfl,Au,Av⟩:=Ap;have Aa:=((Ae.e Am).az Au).az Av;refine AU0 (Aq ++ Ar) AYg (AUz (Aa.z p1) (Aa.z p0)) (AUz (AS7 Af) (AS7 Af)) rfl rfl (Ael (Aa.z p1) (Aa.z p0)) (Aa.b p3) fun Bb Aw Ax=>AGr (AGz ?_);have Ab:=Aa.sb p3 Ax Aw rfl;obtain rfl:=AGl Ak;exact ⟨_,AU7 AYg (AUz (Ab.z p1) (Ab.z p0)) rfl (Ab.b p3),Ab.x,_,rfl,⟨_,_,rfl,(Ab.z p1),(Ab.z p0)⟩⟩
def AU6 (fuel:Nat) (a3 a5:Int):Option (Int × Int):=
  ((AYs fuel a3 a5).bind fun (Aa,Ae)=>(if (!Ae)=true then ((Aeg fuel 0).bind fun Ab=>(some (Ab.1,Ab.2))) else (some (Aa.1,Aa.2))))
theorem AXx {fuel:Nat} {h:AGt} {Ak:Value} {a3 a5:Int} {r:(Int × Int)} (H2:Aq4 h Ak a3 a5) (hp:AU6 fuel a3 a5=some r):ATs Tryz.prog 145 #[Ak] h (fun x h'=>Ext h h'/\ ∃ (x0:Value),x=x0/\Aq4 h' x0 r.1 r.2):=by
 unfold AU6 at hp;obtain ⟨Aq,Ar,rfl,H2z0,H2z1⟩:=H2;refine cwf (l:=[_]) Tryz.func145 rfl rfl (AGm (AYy (Kst.k0 h) (Aq ++ Ar) fun b7 h8 Br Ay=>AVr Ay [.bool false,.slice none 0 0,.bool false,.slice none 0 0] Aib fun Bt Bu Bv Ab=>AZg (AX1 (fs:=2) Arf AGx AGk rfl (Acx Aq AUa (cZ.klen (Ab.zx H2z0)) rfl ((Ab.b p1).aggL) (AX1 (fs:=2) Anp AGx AGk rfl (Acx Ar AUa (cZ.klen (Ab.zx H2z1)) rfl ((Ab.b p1).aggR (cZ.klen (Ab.zx H2z0))) ?_))))));obtain ⟨⟨Bw,Bx⟩,Az,Ag⟩:=AGn hp;dsimp only at Ag;refine Afh rfl (Ags (Ab.zx H2z0).2 (Ab.zx H2z1).2 Az) fun By Bz A3 A4=>?_;obtain ⟨B1,rfl,A5⟩:=A4;obtain ⟨Ah,Ai,rfl,A6,A7⟩:=A5;refine AGj (AUb rfl rfl (AUb rfl rfl (AVr (((Ab.e A3).az A6).az A7) [.bool false,.slice none 0 0,.bool false,.slice none 0 0] Aib fun B3 Au B4 Ac=>AU0 (Ah ++ Ai) AYg (AUz (Ac.z p2) (Ac.z p1)) (AUz (AS7 Au) (AS7 Au)) rfl rfl (Ael (Ac.z p2) (Ac.z p1)) (Ac.b p0) fun Av A8 A9=>AGu (AGo (AGm (AGj (AWq rfl (AGr ?_))))))));have Aa:=Ac.sb p0 A9 A8 rfl;refine ⟨_,rfl,fun Aj=>?_,fun Aj=>?_⟩
 ·refine AGm ?_;obtain ⟨B5,Ba,Bb⟩:=AGn (ifT Ag Aj);refine Afh rfl (Ako Ba) fun B6 Aw Bc Be=>?_;obtain ⟨B7,rfl,Bf⟩:=Be;obtain ⟨Bg,Bh,rfl,Bi,Bj⟩:=Bf;have Ad:=((Aa.e Bc).az Bi).az Bj;refine AU0 (Bg ++ Bh) AYg (AUz (Ad.z p1) (Ad.z p0)) (AUz (AS7 Aw) (AS7 Aw)) rfl rfl (Ael (Ad.z p1) (Ad.z p0)) (Ad.b p5) fun B8 Bl Bm=>AGr (AGz (ATc ?_));have Ae:=Ad.sb p5 Bm Bl rfl;obtain rfl:=AGl Bb;exact ⟨_,AU7 AYg (AUz (Ae.z p1) (Ae.z p0)) rfl (Ae.b p5),Ae.x,_,rfl,⟨_,_,rfl,(Ae.z p1),(Ae.z p0)⟩⟩
 ·refine AGy (q_t (AGm (Acx (Ah ++ Ai) AYg (AUz (Aa.z p2) (Aa.z p1)) rfl ((Aa.b p0).agg) (AU0 (Ah ++ Ai) AYg (AUz (Aa.z p2) (Aa.z p1)) (AUz (AS7 Av) (AS7 Av)) rfl rfl (Ael (Aa.z p2) (Aa.z p1)) (Aa.b p3) fun B9 Bn Bo=>AGr (AGz ?_)))));have Af:=Aa.sb p3 Bo Bn rfl;obtain rfl:=AGl (Aa7 Ag Aj);exact ⟨_,AU7 AYg (AUz (Af.z p2) (Af.z p1)) rfl (Af.b p3),Af.x,_,rfl,⟨_,_,rfl,(Af.z p2),(Af.z p1)⟩⟩
def AXu (fuel:Nat) (a1 a5:Int):Option (Int × Int):=
  ((AU6 fuel a1 a5).bind fun Aa=>(some (Aa.1,Aa.2)))
theorem Ain {fuel:Nat} {h:AGt} {Af:Value} {a1:Int} {Ah:Value} {a5:Int} {r:(Int × Int)} (H3:ZZ h Af a1) (H7:ZZ h Ah a5) (hp:AXu fuel a1 a5=some r):ATs Tryz.prog 106 #[Af,Ah] h (fun x h'=>Ext h h'/\ ∃ (x0:Value),x=x0/\Aq4 h' x0 r.1 r.2):=by
 unfold AXu at hp;obtain ⟨Ap,rfl,Ad⟩:=H3.cs;obtain ⟨Aq,rfl,Ae⟩:=H7.cs;refine cwf (l:=[_,_]) Tryz.func106 rfl rfl (AGm (AYy (Kst.k0 h) Ap fun b9 Ba Bb Ar=>AYy Ar Aq fun Bc Be Bf Au=>AVr Au [.bool false,.slice none 0 0,.bool false,.slice none 0 0] Aib fun Bg Bh Bi Aa=>AZg (Ac1 (Aa.zx Ad) (Aa.b p2) (Ac1 (Aa.zx Ae) (Aa.b p1) (AV6 (Anq (Aa.zx Ad) (Aa.zx Ae)) ?_)))));obtain ⟨Bj,Av,Aw⟩:=AGn hp;refine Afh rfl (AXx ⟨_,_,rfl,(Aa.zx Ad),(Aa.zx Ae)⟩ Av) fun Bl Ak Ax Ay=>?_;obtain ⟨Bm,rfl,Az⟩:=Ay;obtain ⟨A3,A4,rfl,A5,A6⟩:=Az;have Ab:=((Aa.e Ax).az A5).az A6;refine AU0 (A3 ++ A4) AYg (AUz (Ab.z p1) (Ab.z p0)) (AUz (AS7 Ak) (AS7 Ak)) rfl rfl (Ael (Ab.z p1) (Ab.z p0)) (Ab.b p2) fun Bn A7 A8=>AGr (AGz ?_);have Ac:=Ab.sb p2 A8 A7 rfl;obtain rfl:=AGl Aw;exact ⟨_,AU7 AYg (AUz (Ac.z p1) (Ac.z p0)) rfl (Ac.b p2),Ac.x,_,rfl,⟨_,_,rfl,(Ac.z p1),(Ac.z p0)⟩⟩
def Ab9 (fuel:Nat):Option (Int × Int):=
  ((Aek fuel 1).bind fun x8=>((Aek fuel 2).bind fun Ab=>(some (x8,Ab))))
theorem Aky {fuel:Nat} {h:AGt} {r:(Int × Int)} (hp:Ab9 fuel=some r):ATs Tryz.prog 144 #[] h (fun x h'=>Ext h h'/\ ∃ (x0:Value),x=x0/\Aq4 h' x0 r.1 r.2):=by
 unfold Ab9 at hp;refine cwf (l:=[]) Tryz.func144 rfl rfl (AGm (AVr (Kst.k0 h) [.bool false,.slice none 0 0,.bool false,.slice none 0 0] Aib fun b1 h2 E4 K7=>AZg ?_));obtain ⟨x8,Af,Ag⟩:=AGn hp;refine Af9 K7 (Ac0 Af) fun Ah Aw Ax Ai=>?_;obtain ⟨Ay,Aj,Ak⟩:=AGn Ag;refine Af9 Ai (Ac0 Aj) fun Am Ad Az Aa=>AV6 (Anq (Aa.z p1) (Aa.z p0)) (AU0 (Ah ++ Am) AYg (AUz (Aa.z p1) (Aa.z p0)) (AUz (AS7 Ad) (AS7 Ad)) rfl rfl (Ael (Aa.z p1) (Aa.z p0)) (Aa.b p2) fun A3 Ao Ap=>AGr (AGz ?_));have Ab:=Aa.sb p2 Ap Ao rfl;obtain rfl:=AGl Ak;exact ⟨_,AU7 AYg (AUz (Ab.z p1) (Ab.z p0)) rfl (Ab.b p2),Ab.x,_,rfl,⟨_,_,rfl,(Ab.z p1),(Ab.z p0)⟩⟩
def Acu (fuel:Nat) (a3 a5 a9 Ag:Int):Option (Int × Int):=
  ((AU6 fuel a3 a5).bind fun Aa=>((AU6 fuel a9 Ag).bind fun Ab=>((Aj5 fuel Aa.1 Ab.2).bind fun Ah=>((Aj5 fuel Ab.1 Aa.2).bind fun Ai=>((A02 fuel Ah Ai).bind fun Aj=>((Aj5 fuel Aa.2 Ab.2).bind fun Ak=>((AYs fuel Aj Ak).bind fun (Ac,Am)=>(some (Ac.1,Ac.2)))))))))
theorem Al2 {fuel:Nat} {h:AGt} {Bh:Value} {a3 a5:Int} {Bl:Value} {a9 Bn:Int} {r:(Int × Int)} (H2:Aq4 h Bh a3 a5) (H8:Aq4 h Bl a9 Bn) (hp:Acu fuel a3 a5 a9 Bn=some r):ATs Tryz.prog 143 #[Bh,Bl] h (fun x h'=>Ext h h'/\ ∃ (x0:Value),x=x0/\Aq4 h' x0 r.1 r.2):=by
 unfold Acu at hp;obtain ⟨Bp,Bq,rfl,H2z0,H2z1⟩:=H2;obtain ⟨Br,Bt,rfl,H8z0,H8z1⟩:=H8;refine cwf (l:=[_,_]) Tryz.func143 rfl rfl (AGm (AYy (Kst.k0 h) (Bp ++ Bq) fun D0 D1 D2 Cj=>AYy Cj (Br ++ Bt) fun D3 D4 D5 Ck=>AVr Ck [.bool false,.slice none 0 0,.bool false,.slice none 0 0] Aib fun D6 Ao D7 Ac=>AGr (AGo ?_)));have Ap:UpT [] Ao Ao:=UpT.start all_nil;refine Ano (B:=fun h'=>UpT [] Ao h') 4 [⟨5,147,[.bool false,.slice none 0 0,.bool false,.slice none 0 0]⟩,⟨6,147,[.bool false,.slice none 0 0,.bool false,.slice none 0 0]⟩] (fun _ _ U E=>U.thenE E) AGx Ap (Azh rfl rfl Aib rfl Aib rfl (fun _ _ U E=>U.thenE E)) (h_l rfl (Aa5 (Bp ++ Bq) AYg (AUz (Ac.zx H2z0) (Ac.zx H2z1)) rfl Ap (fun h' hb=>((Ac.b p2).ext hb.ext).agg) (ATh (h_e rfl fun D8 Bu=>?_))));have Aq:=Ap.thenE Bu;have Ar:=Ac.e Bu;obtain ⟨D9,Cm,Cn⟩:=AGn hp;refine AXm Aq (fun _ E=>Aq.thenE E) rfl (AXx ⟨_,_,rfl,(Ar.zx H2z0),(Ar.zx H2z1)⟩ Cm) fun Ea Eb Au Co=>?_;obtain ⟨Ec,rfl,Cp⟩:=Co;have Bv:=Aq.thenE Au;obtain ⟨Bw,Av,rfl,Cq,Cr⟩:=Cp;have Aw:=((Ar.e Au).az Cq).az Cr;refine ATh ⟨Au,?_⟩;refine h_l rfl (Aa5 (Br ++ Bt) AYg (AUz (Aw.zx H8z0) (Aw.zx H8z1)) rfl Bv (fun h' hb=>((Ac.b p1).ext hb.ext).agg) (ATh (h_e rfl fun Ed Bx=>?_)));have Ax:=Bv.thenE Bx;have Ay:=Aw.e Bx;obtain ⟨Ee,Ct,Cu⟩:=AGn Cn;refine AXm Ax (fun _ E=>Ax.thenE E) rfl (AXx ⟨_,_,rfl,(Ay.zx H8z0),(Ay.zx H8z1)⟩ Ct) fun Ef Eg Az Cv=>?_;obtain ⟨Eh,rfl,Cw⟩:=Cv;have Cx:=Ax.thenE Az;obtain ⟨By,A3,rfl,Cy,Cz⟩:=Cw;refine ATh ⟨Az,?_⟩;refine At6 fun Bz B1=>BBi fun Ei Ej B3 B4 C0 C1 C2 Ek El=>?_;have Aj:=(((Ay.e Az).az Cy).az Cz).e B1;have Ad:=((((Ac.nb2 (Cx.thenE B1).ext (Azi C1 C2 B3.lt B4.lt C0) B3 B4).az (Aj.z p3)).az (Aj.z p2)).az (Aj.z p1)).az (Aj.z p0);refine AU0 (Bw ++ Av) AYg (AUz (Ad.z p3) (Ad.z p2)) (AUz (AS7 Bz) (AS7 Bz)) rfl rfl (Ael (Ad.z p3) (Ad.z p2)) (Ad.b p4) fun B5 C3 C4=>?_;have Ae:=Ad.sb p4 C4 C3 rfl;refine AU0 (By ++ A3) AYg (AUz (Ae.z p1) (Ae.z p0)) (AUz (AS7 B5) (AS7 B5)) rfl rfl (Ael (Ae.z p1) (Ae.z p0)) (Ae.b p5) fun A4 C5 C6=>AGr (AGo ?_);have Aa:=Ae.sb p5 C6 C5 rfl;have Ak:UpT [] A4 A4:=UpT.start all_nil;refine Ano (B:=fun h'=>UpT [] A4 h') 20 [⟨7,147,[.bool false,.slice none 0 0,.bool false,.slice none 0 0]⟩] (fun _ _ U E=>U.thenE E) AGx Ak (Azg rfl Aib rfl (fun _ _ U E=>U.thenE E)) (h_l rfl (AX1 (fs:=2) Arf AGx AGk rfl (ATh (h_l rfl (Aa5 Bw AUa (cZ.klen (Aa.z p3)) rfl Ak (fun h' hb=>((Aa.b p4).ext hb.ext).aggL) (ATh (h_l rfl (AX1 (fs:=2) Anp AGx AGk rfl (ATh (h_l rfl (Aa5 A3 AUa (cZ.klen (Aa.z p0)) rfl Ak (fun h' hb=>((Aa.b p5).ext hb.ext).aggR (cZ.klen (Aa.z p1))) (ATh (h_e rfl fun Em B6=>?_)))))))))))));have A5:=Aa.e B6;obtain ⟨En,C7,C8⟩:=AGn Cu;refine AX5 A5 (Ak.thenE B6) (Aia (A5.z p3).2 (A5.z p0).2 C7) fun Eo Ep C9 Am A6=>ATh ⟨C9,?_⟩;refine h_l rfl (AX1 (fs:=2) Arf AGx AGk rfl (ATh (h_l rfl (Aa5 By AUa (cZ.klen (Am.z p2)) rfl A6 (fun h' hb=>((Aa.b p5).ext hb.ext).aggL) (ATh (h_l rfl (AX1 (fs:=2) Anp AGx AGk rfl (ATh (h_l rfl (Aa5 Av AUa (cZ.klen (Am.z p3)) rfl A6 (fun h' hb=>((Aa.b p4).ext hb.ext).aggR (cZ.klen (Am.z p4))) (ATh (h_e rfl fun Er B7=>?_))))))))))));have A7:=Am.e B7;obtain ⟨Es,Da,Db⟩:=AGn C8;refine AX5 A7 (A6.thenE B7) (Aia (A7.z p2).2 (A7.z p3).2 Da) fun Et Eu Dc Dd De=>ATh ⟨Dc,?_⟩;refine h_e rfl fun Ev B8=>?_;have A8:=Dd.e B8;obtain ⟨Ew,Df,Dg⟩:=AGn Db;refine AX5 A8 (De.thenE B8) (Azd (A8.z p1).2 (A8.z p0).2 Df) fun Ey Ez Dh Ai A9=>ATh ⟨Dh,?_⟩;refine h_l rfl (AX1 (fs:=2) Anp AGx AGk rfl (ATh (h_l rfl (Aa5 Av AUa (cZ.klen (Ai.z p5)) rfl A9 (fun h' hb=>((Aa.b p4).ext hb.ext).aggR (cZ.klen (Ai.z p6))) (ATh (h_l rfl (AX1 (fs:=2) Anp AGx AGk rfl (ATh (h_l rfl (Aa5 A3 AUa (cZ.klen (Ai.z p3)) rfl A9 (fun h' hb=>((Aa.b p5).ext hb.ext).aggR (cZ.klen (Ai.z p4))) (ATh (h_e rfl fun Fa B9=>?_))))))))))));have Ba:=Ai.e B9;obtain ⟨Fb,Di,Dj⟩:=AGn Dg;refine AX5 Ba (A9.thenE B9) (Aia (Ba.z p5).2 (Ba.z p3).2 Di) fun Fc Fd Dk Dl Do=>ATh ⟨Dk,?_⟩;refine h_e rfl fun Fe Ca=>?_;have Bb:=Do.thenE Ca;have Bc:=Dl.e Ca;obtain ⟨⟨Ff,Fg⟩,Dp,Cb⟩:=AGn Dj;dsimp only at Cb;refine AXm Bb (fun _ E=>Bb.thenE E) rfl (Ags (Bc.z p1).2 (Bc.z p0).2 Dp) fun Fh Fi Be Dq=>?_;obtain ⟨Fj,rfl,Dr⟩:=Dq;have Ds:=Bb.thenE Be;obtain ⟨Bf,Bg,rfl,Dt,Du⟩:=Dr;refine ATh ⟨Be,?_⟩;refine h_l rfl (AGj (ATh (h_l rfl (AUb rfl rfl (ATh (h_l rfl (AUb rfl rfl (ATh (At6 fun Cd Ce=>BBh fun Fk Cf Dv Fl=>?_)))))))));have Af:=(((Bc.e Be).az Dt).az Du).e Ce;have Ag:=((((((Aa.nb (Ds.thenE Ce).ext (AX2 Dv Cf.lt) Cf).az (Af.z p5)).az (Af.z p4)).az (Af.z p3)).az (Af.z p2)).az (Af.z p1)).az (Af.z p0);refine AU0 (Bf ++ Bg) AYg (AUz (Ag.z p1) (Ag.z p0)) (AUz (AS7 Cd) (AS7 Cd)) rfl rfl (Ael (Ag.z p1) (Ag.z p0)) (Ag.b p6) fun Cg Dw Dx=>ATw ?_;have Ab:=Ag.sb p6 Dx Dw rfl;refine Acx (Bf ++ Bg) AYg (AUz (Ab.z p1) (Ab.z p0)) rfl ((Ab.b p6).agg) (AU0 (Bf ++ Bg) AYg (AUz (Ab.z p1) (Ab.z p0)) (AUz (AS7 Cg) (AS7 Cg)) rfl rfl (Ael (Ab.z p1) (Ab.z p0)) (Ab.b p13) fun Fm Dy Dz=>AGr (AGz ?_));have Ah:=Ab.sb p13 Dz Dy rfl;obtain rfl:=AGl Cb;exact ⟨_,AU7 AYg (AUz (Ah.z p1) (Ah.z p0)) rfl (Ah.b p13),Ah.x,_,rfl,⟨_,_,rfl,(Ah.z p1),(Ah.z p0)⟩⟩
def Abg (fuel:Nat) (a3 a5:Int):Option Int:=
  ((AU6 fuel a3 a5).bind fun Aa=>((AVw fuel Aa.1 Aa.2).bind fun Ad=>(some Ad)))
theorem Akp {fuel:Nat} {h:AGt} {Ae:Value} {a3 a5 r:Int} (H2:Aq4 h Ae a3 a5) (hp:Abg fuel a3 a5=some r):ATs Tryz.prog 142 #[Ae] h (fun x h'=>Ext h h'/\ ∃ (x0:Value),x=x0/\ZZ h' x0 r):=by
 unfold Abg at hp;obtain ⟨Ai,Aj,rfl,H2z0,H2z1⟩:=H2;refine cwf (l:=[_]) Tryz.func142 rfl rfl (AGm (AYy (Kst.k0 h) (Ai ++ Aj) fun b7 h8 Bb Ar=>AVr Ar [.bool false,.slice none 0 0] AXi fun Bc Be Bf Ab=>AZg (Acx (Ai ++ Aj) AYg (AUz (Ab.zx H2z0) (Ab.zx H2z1)) rfl ((Ab.b p1).agg) ?_)));obtain ⟨Bg,Au,Av⟩:=AGn hp;refine Afh rfl (AXx ⟨_,_,rfl,(Ab.zx H2z0),(Ab.zx H2z1)⟩ Au) fun Bh Bi Aw Ax=>?_;obtain ⟨Bj,rfl,Ay⟩:=Ax;obtain ⟨Ak,Am,rfl,Az,A3⟩:=Ay;refine AVr (((Ab.e Aw).az Az).az A3) [.bool false,.slice none 0 0,.bool false,.slice none 0 0] Aib fun Bl Ao Bm Ac=>AU0 (Ak ++ Am) AYg (AUz (Ac.z p2) (Ac.z p1)) (AUz (AS7 Ao) (AS7 Ao)) rfl rfl (Ael (Ac.z p2) (Ac.z p1)) (Ac.b p0) fun Bn A4 A5=>AZg (AX1 (fs:=2) Arf AGx AGk rfl ?_);have Aa:=Ac.sb p0 A5 A4 rfl;refine Acx Ak AUa (cZ.klen (Aa.z p2)) rfl ((Aa.b p0).aggL) (AX1 (fs:=2) Anp AGx AGk rfl (Acx Am AUa (cZ.klen (Aa.z p1)) rfl ((Aa.b p0).aggR (cZ.klen (Aa.z p2))) ?_));obtain ⟨Bo,A6,A7⟩:=AGn Av;refine Af9 Aa (Aac (Aa.z p2).2 (Aa.z p1).2 A6) fun Bp A8 Bq Ap=>AYh Ap p4 (AS7 A8) (Ap.z p0) fun Br Ad=>AGr (AGz ?_);obtain rfl:=AGl A7;exact ⟨_,AU7 AUa (cZ.klen (Ad.z p0)) rfl (Ad.b p4),Ad.x,_,rfl,(Ad.z p0).2⟩
def AX9 (fuel:Nat) (a3 a5:Int):Option Int:=
  ((Ab9 fuel).bind fun Aa=>((Acu fuel a3 a5 Aa.1 Aa.2).bind fun Ab=>((Abg fuel Ab.1 Ab.2).bind fun Ae=>(some Ae))))
theorem Ai9 {fuel:Nat} {h:AGt} {Ai:Value} {a3 a5 r:Int} (H2:Aq4 h Ai a3 a5) (hp:AX9 fuel a3 a5=some r):ATs Tryz.prog 105 #[Ai] h (fun x h'=>Ext h h'/\ ∃ (x0:Value),x=x0/\ZZ h' x0 r):=by
 unfold AX9 at hp;obtain ⟨Ao,Ap,rfl,H2z0,H2z1⟩:=H2;refine cwf (l:=[_]) Tryz.func105 rfl rfl (AGm (AYy (Kst.k0 h) (Ao ++ Ap) fun b7 h8 Bm Av=>AVr Av [.bool false,.slice none 0 0] AXi fun Bn Af Bo Ab=>AGr (AGo (AVa (fun h'=>UpT [] Af h') AGx ?_))));have Ac:UpT [] Af Af:=UpT.start all_nil;refine Aa5 (Ao ++ Ap) AYg (AUz (Ab.zx H2z0) (Ab.zx H2z1)) rfl Ac (fun h' hb=>((Ab.b p1).ext hb.ext).agg) ?_;obtain ⟨Bp,Aw,Ax⟩:=AGn hp;refine AXm Ac (fun _ E=>Ac.thenE E) rfl (Aky Aw) fun Bq Br Aq Ay=>?_;obtain ⟨Bt,rfl,Az⟩:=Ay;have Ag:=Ac.thenE Aq;obtain ⟨Bu,Bv,rfl,A3,A4⟩:=Az;have Aa:=((Ab.e Aq).az A3).az A4;obtain ⟨Bw,A5,A6⟩:=AGn Ax;refine AXm Ag (fun _ E=>Ag.thenE E) rfl (Al2 ⟨_,_,rfl,(Aa.zx H2z0),(Aa.zx H2z1)⟩ ⟨_,_,rfl,(Aa.z p1),(Aa.z p0)⟩ A5) fun Bx By Ar A7=>?_;obtain ⟨Bz,rfl,A8⟩:=A7;have A9:=Ag.thenE Ar;obtain ⟨B1,B3,rfl,Ba,Bb⟩:=A8;have Ah:=((Aa.e Ar).az Ba).az Bb;obtain ⟨B4,Bc,Be⟩:=AGn A6;refine AX5 Ah A9 (Akp ⟨_,_,rfl,(Ah.z p1),(Ah.z p0)⟩ Bc) fun Bf Bg B5 Ad B6=>AU0 Bf AUa (cZ.klen (Ad.z p0)) (cZ.klen (AS7 Bg)) rfl rfl (cZ.one (Ad.z p0)) (Ad.b p5) fun B7 Bh Bi=>AGr (AGz ?_);have Ae:=Ad.sb p5 Bi Bh rfl;obtain rfl:=AGl Be;exact ⟨_,AU7 AUa (cZ.klen (Ae.z p0)) rfl (Ae.b p5),Ae.x,_,rfl,(Ae.z p0).2⟩
def AYj (fuel:Nat) (a3:LiI) (a7:LiA) (a9:Int):Option Bool:=
  ((AV7 fuel a3 a9 (w64 (a9 - 1))).bind fun Ac=>((Aek fuel 4).bind fun Ae=>((AU5 fuel a7 (w64 (a9 - 1))).bind fun Af=>((AU5 fuel a7 (w64 (a9 + 1))).bind fun Ag=>((Aj5 fuel Af Ag).bind fun Ah=>((Aj5 fuel Ac Ac).bind fun Ai=>((A02 fuel Ah Ai).bind fun Aj=>((Aj5 fuel Ae Aj).bind fun Ak=>((Aek fuel 3).bind fun Am=>((AU5 fuel a7 a9).bind fun Ao=>((AU5 fuel a7 a9).bind fun Ap=>((Aj5 fuel Ao Ap).bind fun Aq=>((Aj5 fuel Am Aq).bind fun Ar=>((At9 fuel Ak Ar).bind fun Au=>(some (decide (0<=Au)))))))))))))))))
theorem Ajn {fuel:Nat} {h:AGt} {Au:Value} {a3:LiI} {Aw:Value} {a7:LiA} {a9:Int} {r:Bool} (H2:AXs cZ h Au a3) (H6:SlC cZ h Aw a7) (hp:AYj fuel a3 a7 a9=some r):ATs Tryz.prog 95 #[Au,Aw,(.int .i64 a9)] h (fun x h'=>Ext h h'/\x= .bool r):=by
 unfold AYj at hp;refine cwf (l:=[_,_,_]) Tryz.func95 rfl rfl (AGm (ATw (AGj (AGj (AGj (AVd rfl rfl ?_))))));have K0:=Kst.k0 h;obtain ⟨Dg,Bm,Bn⟩:=AGn hp;refine Af9 K0 (Abx (H2.ext K0.x) Bm) fun Dh Di Dj Bo=>AVr Bo [.bool false,.slice none 0 0] AXi fun Dk Bp Dl A3=>AYh A3 p0 (AS7 Bp) (A3.z p1) fun Ae Ac=>AGr (AGo ?_);have A4:UpT [] Ae Ae:=UpT.start all_nil;refine Ano (B:=fun h'=>UpT [] Ae h') 15 [⟨8,93,[.bool false,.slice none 0 0]⟩] (fun _ _ U E=>U.thenE E) AGx A4 (Azg rfl AXi rfl (fun _ _ U E=>U.thenE E)) (h_e rfl fun Do A5=>?_);obtain ⟨Dp,Bq,Br⟩:=AGn Bn;refine AX5 (Ac.e A5) (A4.thenE A5) (Ac0 Bq) fun Dq Dr Bt Bu Bv=>ATh ⟨Bt,?_⟩;refine h_l rfl (AGj (ATh (h_l rfl (AGj (ATh (h_l rfl (AVd rfl rfl (ATh (h_e rfl fun Ds A6=>?_)))))))));have A7:=Bu.e A6;obtain ⟨Dt,Bw,Bx⟩:=AGn Br;refine AX5 A7 (Bv.thenE A6) (AWe (H6.ext A7.x) Bw) fun Du Dv By Bz B1=>ATh ⟨By,?_⟩;refine h_l rfl (AGj (ATh (h_l rfl (AGj (ATh (h_l rfl (ATk rfl rfl (ATh (h_e rfl fun Dw A8=>?_)))))))));have A9:=Bz.e A8;obtain ⟨Dx,B3,B4⟩:=AGn Bx;refine AX5 A9 (B1.thenE A8) (AWe (H6.ext A9.x) B3) fun Dy Dz B5 B6 B7=>ATh ⟨B5,?_⟩;refine h_e rfl fun D0 Ba=>?_;have Af:=B6.e Ba;obtain ⟨D1,B8,B9⟩:=AGn B4;refine AX5 Af (B7.thenE Ba) (Aia (Af.z p1).2 (Af.z p0).2 B8) fun D2 D3 Ca Ag Ah=>ATh ⟨Ca,?_⟩;refine h_l rfl (Agr (Ag.z p5) Ah (Ac.b p0) (ATh (h_l rfl (Agr (Ag.z p5) Ah (Ac.b p0) (ATh (h_e rfl fun D4 Bb=>?_))))));have Ai:=Ag.e Bb;obtain ⟨D5,Cb,Cd⟩:=AGn B9;refine AX5 Ai (Ah.thenE Bb) (Aia (Ai.z p5).2 (Ai.z p5).2 Cb) fun D6 D7 Ce Cf Cg=>ATh ⟨Ce,?_⟩;refine h_e rfl fun D8 Bc=>?_;have Aj:=Cf.e Bc;obtain ⟨D9,Ch,Ci⟩:=AGn Cd;refine AX5 Aj (Cg.thenE Bc) (Azd (Aj.z p1).2 (Aj.z p0).2 Ch) fun Ea Eb Cj Ck Cm=>ATh ⟨Cj,?_⟩;refine h_e rfl fun Ec Be=>?_;have Ak:=Ck.e Be;obtain ⟨Ed,Cn,Co⟩:=AGn Ci;refine AX5 Ak (Cm.thenE Be) (Aia (Ak.z p5).2 (Ak.z p0).2 Cn) fun Cp Ee Cq Cr Ct=>ATh ⟨Cq,?_⟩;refine At6 fun Cu Bf=>BBh fun Ef Bg Cv Eg=>?_;have Aa:=Cr.e Bf;have Ad:=(((((((Ac.nb (Ct.thenE Bf).ext (AX2 Cv Bg.lt) Bg).az (Aa.z p6)).az (Aa.z p5)).az (Aa.z p4)).az (Aa.z p3)).az (Aa.z p2)).az (Aa.z p1)).az (Aa.z p0);refine AU0 Cp AUa (cZ.klen (Ad.z p0)) (cZ.klen (AS7 Cu)) rfl rfl (cZ.one (Ad.z p0)) (Ad.b p7) fun Am Cw Cx=>AGr (AGo (AVa (fun h'=>UpT [] Am h') AGx ?_));have Ao:=Ad.sb p7 Cx Cw rfl;have Bh:UpT [] Am Am:=UpT.start all_nil;refine Agr (Ao.z p0) Bh (Ao.b p7) ?_;obtain ⟨Eh,Cy,Cz⟩:=AGn Co;refine AX5 Ao Bh (Ac0 Cy) fun Ei Ej Ek Bi C0=>AGj (AGj ?_);obtain ⟨El,C1,C2⟩:=AGn Cz;refine AX5 Bi C0 (AWe (H6.ext Bi.x) C1) fun Em En Eo Bj C3=>AGj (AGj ?_);obtain ⟨Ep,C4,C5⟩:=AGn C2;refine AX5 Bj C3 (AWe (H6.ext Bj.x) C4) fun Er Es Et Ap C6=>?_;obtain ⟨Eu,C7,C8⟩:=AGn C5;refine AX5 Ap C6 (Aia (Ap.z p1).2 (Ap.z p0).2 C7) fun Ev Ew Ey Aq C9=>?_;obtain ⟨Ez,Da,Db⟩:=AGn C8;refine AX5 Aq C9 (Aia (Aq.z p3).2 (Aq.z p0).2 Da) fun Fa Fb Fc Ar Dc=>?_;obtain ⟨Fd,Dd,De⟩:=AGn Db;refine BDq Ar Dc (Asq (Ar.z p5).2 (Ar.z p0).2 Dd) fun Fe Ff Df Fg=>Agp rfl rfl (AGu (AGz ?_));obtain rfl:=AGl De;exact ⟨_,AS2,Df.x,rfl⟩
def Ac6 (fuel:Nat) (a3:LiI) (x5:LiA) (Ab Aa:Int) (Ac:LiI):Option ((Int × LiI) ⊕ (((LiI × Bool)) ⊕ (LiI))):=
  (if 0<=Aa then ((AYz fuel a3 x5 Ab Aa).bind fun Ah=>(if (!Ah)=true then ((gI Ac Aa).bind fun Af=>((AV7 fuel a3 Ab Aa).bind fun Ai=>((AU5 fuel x5 (w64 (Aa + 1))).bind fun Aj=>((AXu fuel Ai Aj).bind fun Ag=>((AX9 fuel Ag.1 Ag.2).bind fun Ak=>((Axc fuel Ak).bind fun Am=>((gI Af Ab).bind fun Ao=>(some (Sum.inr<| Sum.inl <| ((sI Ac Aa (sI Af Ab Am)),true)))))))))) else (some (Sum.inl ((w64 (Aa - 1)),Ac))))) else (some (Sum.inr<| Sum.inr <| Ac)))
def Ac7 (fuel:Nat) (a3:LiI) (x5:LiA) (Aa:Int) (Ae:LiI):Option ((Int × LiI) ⊕ (((LiI × Bool)) ⊕ (Unit))):=
  (if Aa < (a3.length:Int) then ((iter (fun s=>Ac6 fuel a3 x5 Aa s.1 s.2) fuel ((w64 (Aa - 1)),Ae)).bind (fun ex=>match ex with | Sum.inl Af=>(some (Sum.inr<| Sum.inl <| Af)) | Sum.inr (Ab)=>(if 0 < Aa then ((AYj fuel a3 x5 Aa).bind fun Ag=>(if (!Ag)=true then ((gI Ab (w64 (Aa - 1))).bind fun Ah=>((gI Ab Aa).bind fun Ai=>(some (Sum.inr<| Sum.inl <| ((sI (sI Ab Aa Ah) (w64 (Aa - 1)) Ai),true))))) else (some (Sum.inl ((w64 (Aa + 1)),Ab))))) else (some (Sum.inl ((w64 (Aa + 1)),Ab)))))) else (some (Sum.inr<| Sum.inr <| ())))
def AZl (fuel:Nat) (a3:LiI):Option (LiI × Bool):=
  ((AWs fuel a3).bind fun (x5,x6)=>((AWc fuel (a3.length:Int)).bind fun (Ac,Af)=>((iter (fun s=>Ac7 fuel a3 x5 s.1 s.2) fuel (0,Ac)).bind (fun ex=>match ex with | Sum.inl Ad=>(some Ad) | Sum.inr (_)=>(some ([],false))))))
theorem Akz {fuel:Nat} {h:AGt} {A3:Value} {a3:LiI} {r:(LiI × Bool)} (H2:AXs cZ h A3 a3) (hp:AZl fuel a3=some r):ATs Tryz.prog 55 #[A3] h (fun x h'=>Ext h h'/\ ∃ (x0:Value) (F0:List Nat) (Br:List LnA) (Bt:List Value),x= .tuple #[x0,.bool r.2]/\AVt cZ 131 93 h' F0 Br Bt x0 r.1/\Sp h' h.size [F0]):=by
 unfold AZl at hp;refine cwf (l:=[_]) Tryz.func55 rfl rfl (AGm (ATi (ATw (AGj ?_))));have K0:=Kst.k0 h;obtain ⟨⟨x5,x6⟩,Bu,A8⟩:=AGn hp;dsimp only at A8;refine Afh rfl (Aex (H2.ext K0.x) Bu) fun Dg Dh E9 Bw=>?_;obtain ⟨Di,Dj,rfl,Bx,By⟩:=Bw;refine AGj (AUb rfl rfl (AUb rfl rfl (ATi (ATw (AGj (AT4 AUr rfl H2 ?_))))));obtain ⟨⟨Bz,Dk⟩,B1,A9⟩:=AGn A8;dsimp only at A9;refine Afh rfl (Aem B1) fun Dl Do B3 B4=>?_;obtain ⟨Ba,B5,B6,B7,rfl,B8,B9⟩:=B4;refine AGj (AUb rfl rfl (AUb rfl rfl (ATi (AGu (AGo (AGm (AGj (AT4 AUr rfl H2 (AGj (AGr (AGp ?_)))))))))));have Bb:=(K0.no E9 By Bx).no2 B3 B9 B8;refine AX6 9671406556917033389261580 (fun x:(Int) × (LiI) × LnA × LnN × LvA=>(x.1,x.2.1)) ((0,Bz,B5,B6,B7):(Int) × (LiI) × LnA × LnN × LvA) A9 (fun x=>[(23,(.int .i64 x.1))]) (fun x=>Bb.L.set 0 (aO2 cZ 131 93 x.2.2.1 x.2.2.2.1 x.2.2.2.2 Ba x.2.1)) Bb ⟨rfl,trivial⟩ ?_;rintro ⟨Bc,Ca,Cb,Cd,Ce⟩ Dp Dq Dr Ag Ah Ai;unfold Ac7 at Ah;refine AGm (ATl rfl rfl (AGr (AGo (⟨_,rfl,fun Aj=>?_,fun Aj=>?_⟩))))
 ·refine AGy (q_t (AGo (AGp (AGm (AGj (AGu (AGo (AGm (AGj (AVd rfl rfl (AGu (AGp (AX6 72057593769493004 (fun x:(Int) × (LiI) × LnA × LnN × LvA=>(x.1,x.2.1)) (((w64 (Bc - 1)),Ca,Cb,Cd,Ce):(Int) × (LiI) × LnA × LnN × LvA) (ATy Ah Aj) (fun x=>[(9,(.int .i64 x.1))]) (fun x=>Ag.L.set 0 (aO2 cZ 131 93 x.2.2.1 x.2.2.2.1 x.2.2.2.2 Ba x.2.1)) Ag ⟨rfl,trivial⟩ ?_)))))))))))));rintro ⟨Be,Ds,Dt,Du,Dv⟩ Dw Dx Dy Aa Ak Bf;unfold Ac6 at Ak;refine AGo (AGm (AGj (Agp rfl rfl (AGr (⟨_,rfl,fun Am=>?_,fun Am=>?_⟩)))))
  ·refine AGy (q_t (AGo (AGp (AGm (AGj (AGj (AGj (AGj ?_))))))));obtain ⟨Dz,Cf,Bg⟩:=AGn (ATy Ak Am);refine AW0 Aa (Akl (H2.ext Aa.x) (Aa.o p1).rd Cf) fun Ao D0 Ac=>AWq rfl (AGr (⟨_,rfl,fun Ap=>?_,fun Ap=>?_⟩))
   ·refine AGo (AVa (fun h'=>UpT [] Ao h') AGx ?_);have Bh:UpT [] Ao Ao:=UpT.start all_nil;refine AGj (AGj ?_);obtain ⟨D1,Aq,Cg⟩:=AGn (ifT Bg Ap);refine AVf AUr rfl (Ac.o2 p0) rfl Aq fun D2 D3 D4 Ch Ci=>AU1 AWi rfl Bh (fun h' hb=>ATo Ci hb.ext) (AGj (AGj (AGj (AGj ?_))));obtain ⟨D5,Cj,Ck⟩:=AGn Cg;refine AX5 Ac Bh (Abx (H2.ext Ac.x) Cj) fun D6 D7 D8 Bi Cm=>AGj (AGj (ATk rfl rfl ?_));obtain ⟨D9,Cn,Co⟩:=AGn Ck;refine AX5 Bi Cm (AWe (Bi.o p2).rd Cn) fun Ea Eb Ec Ar Au=>?_;obtain ⟨Ed,Cp,Cq⟩:=AGn Co;refine AXm Au (fun _ E=>Au.thenE E) rfl (Ain (Ar.z p1).2 (Ar.z p0).2 Cp) fun Ee Ef Bj Cr=>?_;obtain ⟨Eg,rfl,Ct⟩:=Cr;have Cu:=Au.thenE Bj;obtain ⟨Eh,Ei,rfl,Cv,Cw⟩:=Ct;have Av:=((Ar.e Bj).az Cv).az Cw;obtain ⟨Ej,Cx,Cy⟩:=AGn Cq;refine AX5 Av Cu (Ai9 ⟨_,_,rfl,(Av.z p1),(Av.z p0)⟩ Cx) fun Ek El Em Bl Cz=>?_;obtain ⟨En,C0,C1⟩:=AGn Cy;refine AX5 Bl Cz (Avh (Bl.z p0).2 C0) fun Eo Ep Er Ad Es=>?_;obtain ⟨Et,Bm,C2⟩:=AGn C1;refine AWo (m:=Be) AVp rfl (Ac.o2 p0) Ch Aq rfl Bm fun Eu C3=>Adt (m:=Be) (Ajz AUa (cZ.klen (Ad.z p0)) rfl rfl (cZ.one (Ad.z p0))) (Ad.o2 p6) C3 Aq Bm (Ad.z p0) fun Ev C4 C5=>AZg (AGj (ATi (AGu (AGz (AUg (ATc (ATc (AUg (ATc (AUg (ATc (ATc (AUg (ATc ?_))))))))))))));have Aw:=Ad.uO2 p6 C5 C4;obtain rfl:=AGl (Ai _ (AGl (Bf _ (AGl C2).symm)).symm);exact ⟨_,AUk,Aw.x,_,_,_,_,rfl,(Aw.o2 p6),Aw.s.sel [6] AGk⟩
   ·refine AGy (q_b (q_t (AS3 (AGj (AVd rfl rfl (AGu ?_))))));exact ⟨(_,_,_,_,_),(AGl (Aa7 Bg Ap)).symm,Ac,rfl,trivial⟩
  ·refine AS8 (ATa (ATa (AT7 (q_t (AGm (AGj (AYb rfl rfl (AGj ?_))))))));have Bn:=Bf _ (AGl (ATz Ak Am)).symm;by_cases Af:0 < Bc
   ·rw [decide_eq_true Af];refine ATn 58 true (AGj (ATn 58 true (AGj (ATn 58 true (AGj (ATn 58 true ?_))))));obtain ⟨Ew,C6,Bo⟩:=AGn (ifT Bn Af);refine AW0 Aa (Ajn (H2.ext Aa.x) (Aa.o p1).rd C6) fun Ey Ez Ae=>ATn 58 true (AWq rfl (ATj rfl (AGr (⟨_,rfl,fun Ax=>?_,fun Ax=>?_⟩))))
    ·refine AGo (AXr (AGj (AGj (AGj (AGj (AVd rfl rfl (AGj (AGj (AVd rfl rfl ?_)))))))));obtain ⟨Fa,Bp,C7⟩:=AGn (ifT Bo Ax);refine AUh AUr AWi (Ae.o2 p0) Bp fun _ Fb C8=>AGj (AGj ?_);obtain ⟨Fc,Bq,C9⟩:=AGn C7;refine AUh AUr AWi (Ae.o2 p0) Bq fun _ Fd Da=>Afv AUr AWi (Ae.o2 p0) Da C8 Bq Bp rfl rfl (fun _=>rfl) (fun _=>rfl) (fun _=>rfl) (fun _ _=>rfl) fun Fe Ff Fg Fh Fi Fj Db Dc Dd=>AZg (AGj (ATi (AGu (AGz (AUg (ATc (ATc (AUg (ATc ?_)))))))));have Ay:=Ae.uo2 p0 Dc Db Dd;obtain rfl:=AGl (Ai _ (AGl C9).symm);exact ⟨_,AUk,Ay.x,_,_,_,_,rfl,(Ay.o2 p0),Ay.s.sel [0] AGk⟩
    ·refine AGy (q_b (q_t (AS3 (ATk rfl rfl (AGj (AGr ?_))))));exact ⟨(_,_,_,_,_),(AGl (Aa7 Bo Ax)).symm,Ae,rfl,trivial⟩
   ·rw [decide_eq_false Af];refine Acp 58 false (ATm rfl (AGr (ATr rfl (AGy (q_b (q_t (AS3 (ATk rfl rfl (AGj (AGr ?_))))))))));exact ⟨(_,_,_,_,_),(AGl (ifF Bn Af)).symm,Aa,rfl,trivial⟩
 ·refine AS8 (ATa (ATa (AT7 (q_t (AGm (ATi (AGu (AGz ?_))))))));have Az:=Kst.anil2 cZ 131 93 Ag;obtain rfl:=AGl (Ai _ (AGl (ATz Ah Aj)).symm);exact ⟨_,AUk,Az.x,_,_,_,_,rfl,(Az.o2 p0),Az.s.sel [0] AGk⟩
def Aby (fuel:Nat) (Aa Ab:LiI):Option ((LiI × LiI) ⊕ (((LiI × LiI × Int)))):=
  ((AZl fuel Aa).bind fun (Ac,Ad)=>(if (!Ad)=true then ((AYi fuel Aa).bind fun (Ae,Ah)=>(some (Sum.inr<| (Ae,Ab,0)))) else ((AV4 fuel Aa Ac).bind fun Af=>((AU4 fuel Ab Ac).bind fun Ag=>(some (Sum.inl (Af,Ag)))))))
def AYk (fuel:Nat) (a3:LiI):Option (LiI × LiI × Int):=
  ((AWd fuel a3).bind fun x5=>(if ¬ x5=0 then (some ([],[],x5)) else ((AY0 fuel a3).bind fun Ac=>(if (!Ac)=true then (some ([],[],7)) else ((AX7 fuel a3).bind fun Ad=>((AWc fuel (a3.length:Int)).bind fun (Ae,Ag)=>((iter (fun s=>Aby fuel s.1 s.2) fuel (Ad,Ae)).bind (fun (Af:(LiI × LiI × Int))=>(some Af)))))))))
theorem Ajo {fuel:Nat} {h:AGt} {Ao:Value} {a3:LiI} {r:(LiI × LiI × Int)} (H2:AXs cZ h Ao a3) (hp:AYk fuel a3=some r):ATs Tryz.prog 22 #[Ao] h (fun x h'=>Ext h h'/\ ∃ (x0:Value) (F0:List Nat) (A7:List LnA) (A8:List Value) (x1:Value) (F1:List Nat) (A9:List LnA) (Ba:List Value),x= .tuple #[x0,x1,.int .i64 r.2.2]/\AVt (cI .i64) 49 2 h' F0 A7 A8 x0 r.1/\AVt cZ 131 93 h' F1 A9 Ba x1 r.2.1/\Sp h' h.size [F0,F1]):=by
 unfold AYk at hp;refine cwf (l:=[_]) Tryz.func22 rfl rfl (AGm (ATi (ATi (AGu (AGo (AGm (AGj ?_)))))));have K0:=Kst.k0 h;obtain ⟨x5,Bb,Ax⟩:=AGn hp;refine AW0 K0 (Aen (H2.ext K0.x) Bb) fun h9 E8 Af=>ATw (AGj (AWp rfl rfl (AGr (⟨_,rfl,fun Ag=>?_,fun Ag=>?_⟩))))
 ·refine AGm (AGj (ATi (ATi (AGu (AGz (ATc ?_))))));have Ac:=Kst.anil2 cZ 131 93 (Kst.anil2 (cI .i64) 49 2 Af);obtain rfl:=AGl (ATy Ax Ag);exact ⟨_,Abo,Ac.x,_,_,_,_,_,_,_,_,rfl,(Ac.o2 p1),(Ac.o2 p0),Ac.s.sel [1,0] AGk⟩
 ·refine AGy (q_t (AGo (AGm (AGj ?_))));obtain ⟨Ck,Bc,Ay⟩:=AGn (ATz Ax Ag);refine AW0 Af (Akm (H2.ext Af.x) Bc) fun Cm Cn Ah=>AWq rfl (AGr (⟨_,rfl,fun Ai=>?_,fun Ai=>?_⟩))
  ·refine AGm (ATi (ATi (AGu (AGz (ATc ?_)))));have Ad:=Kst.anil2 cZ 131 93 (Kst.anil2 (cI .i64) 49 2 Ah);obtain rfl:=AGl (ifT Ay Ai);exact ⟨_,Abo,Ad.x,_,_,_,_,_,_,_,_,rfl,(Ad.o2 p1),(Ad.o2 p0),Ad.s.sel [1,0] AGk⟩
  ·refine AGy (q_t (AGm (AGj ?_)));obtain ⟨Be,Bf,Bg⟩:=AGn (Aa7 Ay Ai);refine Ahe Ah (Af3 (H2.ext Ah.x) Bf) fun Bh Bi Bj Bl Co Cp Bm=>ATw (AGj (AT4 AUr rfl H2 ?_));obtain ⟨⟨Bn,Cq⟩,Bo,Az⟩:=AGn Bg;dsimp only at Az;refine Afh rfl (Aem Bo) fun Cr Ct Bp Bq=>?_;obtain ⟨Br,Bt,Bu,Bv,rfl,Bw,Bx⟩:=Bq;refine AGj (AUb rfl rfl (AUb rfl rfl (ATi (AGu (AGp ?_)))));have A3:=Bm.no2 Bp Bx Bw;refine AX6 562949416558300 (fun x:(LiI) × (Value) × LnA × LnN × LvA × (LiI) × (Value) × LnA × LnN × LvA=>(x.1,x.2.2.2.2.2.1)) ((Be,Bl,Bh,Bi,Bj,Bn,Br,Bt,Bu,Bv):(LiI) × (Value) × LnA × LnN × LvA × (LiI) × (Value) × LnA × LnN × LvA) Az (fun x=>[(6,x.2.1),(7,x.2.2.2.2.2.2.1)]) (fun x=>(A3.L.set 1 (aO2 cZ 131 93 x.2.2.1 x.2.2.2.1 x.2.2.2.2.1 x.2.1 x.1)).set 0 (aO2 cZ 131 93 x.2.2.2.2.2.2.2.1 x.2.2.2.2.2.2.2.2.1 x.2.2.2.2.2.2.2.2.2 x.2.2.2.2.2.2.1 x.2.2.2.2.2.1)) A3 ⟨rfl,rfl,trivial⟩ ?_;rintro ⟨Cu,Cv,Cw,Cx,Cy,Cz,C0,C1,C2,C3⟩ C4 C5 C6 A4 A5 By;unfold Aby at A5;refine AGp (AGm (AGj ?_));obtain ⟨⟨C7,C8⟩,Bz,Aj⟩:=AGn A5;dsimp only at Aj;refine Afh rfl (Akz (A4.o2 p1).rd Bz) fun C9 Da B1 B3=>?_;obtain ⟨Db,Dc,Dd,De,rfl,B4,B5⟩:=B3;refine AGj (AUb rfl rfl (AUb rfl rfl (ATi (AGu (AGo (AGm (AGj (AWq rfl (AGr ?_)))))))));have Aa:=A4.no2 B1 B5 B4;refine ⟨_,rfl,fun Ak=>?_,fun Ak=>?_⟩
   ·refine AGm (AGj ?_);obtain ⟨⟨Df,Dg⟩,B6,A6⟩:=AGn (ifT Aj Ak);dsimp only at A6;refine Afh rfl (Ajm (Aa.o2 p2).rd B6) fun Dh Di B7 B8=>?_;obtain ⟨Dj,Dk,Dl,Do,rfl,B9,Ca⟩:=B8;refine AGj (AUb rfl rfl (AUb rfl rfl (ATi (ATw (AGj (AGj (ATi (ATi (AGu (AGz (ATc (AUg (ATc (AUg ?_))))))))))))));have Ae:=Aa.no2 B7 Ca B9;obtain rfl:=AGl (By _ (AGl A6).symm);exact ⟨_,Abo,Ae.x,_,_,_,_,_,_,_,_,rfl,(Ae.o2 p0),(Ae.o2 p2),Ae.s.sel [0,2] AGk⟩
   ·refine AGy (q_t (AS3 (AGj (AGj ?_))));obtain ⟨Dp,Cb,Cd⟩:=AGn (Aa7 Aj Ak);refine Ahe Aa (Aic (Aa.o2 p2).rd (Aa.o2 p0).rd Cb) fun Dq Dr Ds Dt Du Dv Am=>AGj (AGj ?_);obtain ⟨Dw,Ce,Cf⟩:=AGn Cd;refine Ahe Am (Abb (Am.o2 p2).rd (Am.o2 p1).rd Ce) fun Dx Dy Dz D0 D1 D2 Cg=>ATi (ATi (ATh (q_b (q_t ?_))));exact ⟨(_,_,_,_,_,_,_,_,_,_),(AGl Cf).symm,Cg.sel [0,1] AGk,rfl,rfl,trivial⟩
end Go.Proofs.YthbndcbclhkepaaGreatDoor
namespace Go.QF
open Go
def Ok {α:Type} (o:Option α) (Q:α->Prop):Prop:= ∃ r,o=some r/\Q r
theorem AGq {α:Type} {a:α} {Q:α->Prop} (h:Q a):Ok (some a) Q:=⟨a,rfl,h⟩
theorem AGw {α β:Type} {o:Option α} {f:α->Option β} {Q:α->Prop} {R:β->Prop} (h:Ok o Q) (k:∀ x,Q x->Ok (f x) R):Ok (o.bind f) R:=by
 obtain ⟨x,rfl,hx⟩:=h;exact k x hx
theorem ATt {c:Prop} [Decidable c] {α:Type} {a b:Option α} {R:α->Prop} (ht:c->Ok a R) (hf: ¬ c->Ok b R):Ok (if c then a else b) R:=by
 by_cases h:c
 ·rw [if_pos h];exact ht h
 ·rw [if_neg h];exact hf h
theorem AUq {c:Prop} [Decidable c] {α:Type} {a:Option α} {R:α->Prop} (hc:c) (h:Ok a R):Ok (if c then a else none) R:=by rw [if_pos hc];exact h
theorem ok_eq {α:Type} {o:Option α} {a:α} (h:Ok o (· =a)):o=some a:=by obtain ⟨x,h1,rfl⟩:=h;exact h1
theorem AUe {α:Type} {o:Option α} {a:α} (h:o=some a):Ok o (· =a):=⟨a,h,rfl⟩
theorem ATu {α β:Type} {L:List α} {i:Int} {n:Nat} {x:α} {f:α->Option β} {R:β->Prop} (hx:L[n]? =some x) (hi:i=n) (k:Ok (f x) R):Ok ((gI L i).bind f) R:=by
 subst hi;unfold gI;rw [if_pos AGi,Int.toNat_natCast,hx];exact k
theorem AT9 {S E:Type} {body:S->Option (S ⊕ E)} {fuel:Nat} {s0:S} (I:Nat->S->Prop) (n:Nat) {Q:E->Prop} (h0:I 0 s0) (hf:n < fuel) (hs:∀ i s,i<=n->I i s->Ok (body s) fun r=>match r with | .inl s'=>i < n/\I (i + 1) s' | .inr e=>Q e):Ok (iter body fuel s0) Q:=by
  have key:∀ k fuel i s,n - i=k->k < fuel->i<=n->I i s->Ok (iter body fuel s) Q:=by
    intro k;induction k with
    | zero=>
      intro fuel i s hk hf hi hI;obtain ⟨r,hr,hq⟩:=hs i s hi hI;cases fuel with
      | zero=>omega
      | succ f=>
        cases r with
        | inl s'=>simp at hq;omega
        | inr e=>exact ⟨e,by simp [iter,hr],hq⟩
    | succ k ih=>
      intro fuel i s hk hf hi hI;obtain ⟨r,hr,hq⟩:=hs i s hi hI;cases fuel with
      | zero=>omega
      | succ f=>
        cases r with
        | inl s'=>
          obtain ⟨e,he,hQ⟩:=ih f (i + 1) s' AGi AGi AGi hq.2;exact ⟨e,by simp [iter,hr,he],hQ⟩
        | inr e=>exact ⟨e,by simp [iter,hr],hq⟩
  exact key n fuel 0 s0 AGi hf AGi h0
theorem AVj {x:Int} (h1: -9223372036854775808<=x) (h2:x<=9223372036854775807):w64 x=x:=by
 show IntKind.i64.wrap x=x;rw [IntKind.wrap_i64];omega
theorem wk {x:Int} (h: -9223372036854775808<=x/\x<=9223372036854775807):w64 x=x:=AVj h.1 h.2
def AVs {α:Type} (m:Nat) (f:Nat->α):List α:=(List.range m).map f
theorem AUi {α:Type} (m:Nat) (f:Nat->α):(AVs m f).length=m:=by simp [AVs]
theorem ATx {α:Type} {m:Nat} {f:Nat->α} {j:Nat} (h:j < m):(AVs m f)[j]? =some (f j):=by simp [AVs,h]
theorem AUf {α:Type} {m:Nat} {f g:Nat->α} (h:∀ j,j < m->f j=g j):AVs m f=AVs m g:=by
 unfold AVs;exact List.map_congr_left fun j hj=>h j (List.mem_range.1 hj)
theorem AXv {α:Type} {m j:Nat} {f:Nat->α} {x:α}:(AVs m f).set j x=AVs m fun c=>if c=j then x else f c:=by
 apply List.ext_getElem?;intro i;rw [List.getElem?_set];by_cases h:j=i
 ·subst h;simp only [if_true,AUi];by_cases hj:j < m
  ·simp [hj,ATx hj]
  ·simp [hj,AVs]
 ·rw [if_neg h];by_cases hi:i < m
  ·rw [ATx hi,ATx hi,if_neg (fun he=>h he.symm)]
  ·simp [AVs,hi]
theorem Ahf {α:Type} (m:Nat) (f:Nat->α):AVs m f ++ [f m]=AVs (m + 1) f:=by simp [AVs,List.range_succ]
theorem AY1 {α:Type} (m:Nat) (a:α):List.replicate m a=AVs m fun _=>a:=by
 apply List.ext_getElem?;intro i;by_cases h:i < m
 ·rw [ATx h];simp [h]
 ·simp [AVs,h]
theorem Ahw (r c:Nat) (F:AS5):tab r c F=AVs r fun i=>AVs c (F i):=rfl
theorem AUc {r c:Nat} {F:AS5} {i:Nat} (h:i < r):(tab r c F)[i]? =some (AVs c (F i)):=ATx (f:=fun i=>AVs c (F i)) h
theorem A5r {r c i j:Nat} {F:AS5} {x:Int}:(tab r c F).set i (AVs c fun q=>if q=j then x else F i q)=tab r c (AUw F i fun q=>if q=j then x else F i q):=Aeu
theorem AU2 {α:Type} (L:List α) (n:Nat) (x:α):sI L (n:Int) x=L.set n x:=by simp [sI]
end Go.QF
namespace Go.QF
theorem Ans (F:AS5) (i:Nat) (f g:Nat->Int):AUw (AUw F i f) i g=AUw F i g:=by
 funext k;by_cases h:k=i
 ·subst h;rw [AUx,AUx]
 ·rw [AYe _ _ h,AYe _ _ h,AYe _ _ h]
theorem Ahg (F:AS5) (i:Nat):AUw F i (F i)=F:=by
 funext k;by_cases h:k=i
 ·subst h;rw [AUx]
 ·rw [AYe _ _ h]
theorem Aey (f g:Nat->Int) (n:Nat):psum (fun i=>f i + g i) n=psum f n + psum g n:=by
 induction n with
 | zero=>rfl
 | succ n ih=>simp only [psum];rw [ih];omega
theorem AYa (c:Int) (f:Nat->Int) (n:Nat):psum (fun i=>c * f i) n=c * psum f n:=by
 induction n with
 | zero=>simp [psum]
 | succ n ih=>simp only [psum];rw [ih,Int.mul_add]
theorem Aiu (n:Nat):psum (fun _=>0) n=0:=by
 induction n with
 | zero=>rfl
 | succ n ih=>simp only [psum];rw [ih];rfl
theorem Aqd (f:AS5) (n m:Nat):psum (fun i=>psum (fun j=>f i j) m) n=psum (fun j=>psum (fun i=>f i j) n) m:=by
 induction n with
 | zero=>simp only [psum];exact (Aiu m).symm
 | succ n ih=>
   simp only [psum]
   rw [ih,<- Aey]
theorem A5s {f g:Nat->Int} {n a:Nat} (ha:a < n) (h:∀ i,i≠a->g i=f i):psum g n=psum f n + (g a - f a):=by
  induction n with
  | zero=>omega
  | succ n ih=>
    simp only [psum]
    by_cases hn:a=n
    · subst hn;rw [AT0 (f:=g) (g:=f) (fun k hk=>h k AGi)];omega
    · rw [ih AGi,h n (fun he=>hn he.symm)];omega
theorem Ac8 {f:Nat->Int} {n a:Nat} (ha:a < n) (h:∀ i,i≠a->f i=0):psum f n=f a:=by
 rw [A5s (f:=fun _=>0) ha h,Aiu];omega
def Eqm (m a b:Int):Prop:=a % m=b % m
theorem Eqm.refl (m a:Int):Eqm m a a:=rfl
theorem Eqm.of_eq {m a b:Int} (h:a=b):Eqm m a b:=h ▸ rfl
theorem Eqm.symm {m a b:Int} (h:Eqm m a b):Eqm m b a:=Eq.symm h
theorem Eqm.trans {m a b c:Int} (h:Eqm m a b) (k:Eqm m b c):Eqm m a c:=Eq.trans h k
theorem Eqm.add {m a b c d:Int} (h:Eqm m a b) (k:Eqm m c d):Eqm m (a + c) (b + d):=by
 unfold Eqm at *;rw [Int.add_emod,h,k,<- Int.add_emod]
theorem Eqm.sub {m a b c d:Int} (h:Eqm m a b) (k:Eqm m c d):Eqm m (a - c) (b - d):=by
 unfold Eqm at *;rw [Int.sub_emod,h,k,<- Int.sub_emod]
theorem Eqm.mul {m a b c d:Int} (h:Eqm m a b) (k:Eqm m c d):Eqm m (a * c) (b * d):=by
 unfold Eqm at *;rw [Int.mul_emod,h,k,<- Int.mul_emod]
theorem Eqm.mod (m a:Int):Eqm m (a % m) a:=Int.emod_emod_of_dvd a (Int.dvd_refl m)
theorem Eqm.psum {m:Int} {f g:Nat->Int} {n:Nat} (h:∀ i,i < n->Eqm m (f i) (g i)):Eqm m (psum f n) (psum g n):=by
 induction n with
 | zero=>rfl
 | succ n ih=>exact (ih fun i hi=>h i AGi).add (h n AGi)
theorem Eqm.zero {m a:Int} (h:Eqm m a 0):a % m=0:=by simpa [Eqm] using h
theorem A2z {m a b:Int} (h:Eqm m a b) (ha:0<=a/\a < m) (hb:0<=b/\b < m):a=b:=by
 unfold Eqm at h;rwa [Int.emod_eq_of_lt ha.1 ha.2,Int.emod_eq_of_lt hb.1 hb.2] at h
end Go.QF
namespace Go.QF
theorem A5t {f:Nat->Int} {k r:Nat} (hk:k<=r) (h:∀ i,k<=i->i < r->f i=0):psum f r=psum f k:=by
 induction r with
 | zero=>rw [Nat.le_zero.1 hk]
 | succ r ih=>
   rcases Nat.lt_or_ge k (r + 1) with h1 | h1
   · simp only [psum]
     rw [ih AGi (fun i h2 h3=>h i h2 AGi),h r AGi AGi];omega
   · obtain rfl:k=r + 1:=by omega
     rfl
def dl (a b:Nat):Int:=if a=b then 1 else 0
def skp (i a:Nat):Nat:=if a < i then a else a + 1
def usk (i r:Nat):Nat:=if r < i then r else r - 1
def sg (i:Nat):Int:=if i % 2=0 then 1 else -1
theorem A8v (i:Nat):sg (i + 1)= -sg i:=by unfold sg;split <;> split <;> first | omega | rfl
theorem BBp (i a:Nat):skp i a≠i:=by unfold skp;split <;> omega
theorem A5u {i a n:Nat} (ha:a < n):skp i a < n + 1:=by unfold skp;split <;> omega
theorem A8w {i r:Nat} (h:r≠i):skp i (usk i r)=r:=by
 unfold usk;split <;> (unfold skp;split <;> omega)
theorem A8x {i a r:Nat} (h:skp i a=r):a=usk i r:=by unfold skp at h;unfold usk;split at h <;> split <;> omega
theorem BBq {i r n:Nat} (h:r≠i) (hi:i < n + 1) (hr:r < n + 1):usk i r < n:=by unfold usk;split <;> omega
theorem AT2 (F:AS5) (a:Nat) (g:Nat->Int) (i j:Nat):AUw F a g i j=if i=a then g j else F i j:=by
 unfold AUw;split <;> rfl
theorem Ae8 (F:AS5) (a b i j:Nat):AX3 F a b i j=if i=b then F a j else if i=a then F b j else F i j:=by
 unfold AX3;rw [AT2,AT2]
def AW8 (i:Nat) (F:AS5):AS5:=fun a b=>F (skp i a) (b + 1)
def det:Nat->(AS5)->Int
  | 0,_=>1
  | n + 1,F=>psum (fun i=>sg i * F i 0 * det n (AW8 i F)) (n + 1)
theorem AUm:∀ {n:Nat} {F G:AS5},(∀ i j,i < n->j < n->F i j=G i j)->det n F=det n G:=by
 intro n
 induction n with
 | zero=>intro _ _ _;rfl
 | succ n ih=>
   intro F G h
   refine AT0 fun i hi=>?_
   rw [h i 0 hi AGi,ih (F:=AW8 i F) (G:=AW8 i G) fun a b ha hb=>h _ _ (A5u ha) AGi]
theorem Aom {i r:Nat} {F:AS5} {g:Nat->Int} (h:r≠i):AW8 i (AUw F r g)=AUw (AW8 i F) (usk i r) (fun b=>g (b + 1)):=by
 funext a b;unfold AW8 AUw;by_cases ha:skp i a=r
 ·rw [if_pos ha,if_pos (A8x ha)]
 ·rw [if_neg ha,if_neg (fun he=>ha (by rw [he,A8w h]))]
theorem Aq5 {i:Nat} {F:AS5} {g:Nat->Int}:AW8 i (AUw F i g)=AW8 i F:=by
 funext a b;unfold AW8;rw [AYe _ _ (BBp i a)]
theorem Al3:∀ {n:Nat} {F:AS5} {r:Nat} (u v:Nat->Int) (c d:Int),r < n->det n (AUw F r fun q=>c * u q + d * v q)=c * det n (AUw F r u) + d * det n (AUw F r v):=by
 intro n
 induction n with
 | zero=>intro _ _ _ _ _ _ h;omega
 | succ n ih=>
   intro F r u v c d hr
   simp only [det]
   rw [<- AYa,<- AYa,<- Aey]
   refine AT0 fun i hi=>?_
   by_cases h:r=i
   · subst h
     simp only [Aq5,AUx]
     grind
   · rw [Aom h,Aom h,Aom h,AYe _ _ (Ne.symm h),AYe _ _ (Ne.symm h),AYe _ _ (Ne.symm h),ih (fun b=>u (b + 1)) (fun b=>v (b + 1)) c d (BBq h hi hr)]
     grind
theorem A5v {f:Nat->Int} {n r s:Nat} (hr:r < n) (hs:s < n) (hrs:r≠s) (h:∀ i,i < n->i≠r->i≠s->f i=0):psum f n=f r + f s:=by
 have h1:psum f n=psum (fun i=>(if i=r then f r else 0) + (if i=s then f s else 0)) n:=AT0 fun i hi=>by
   by_cases h1:i=r
   · subst h1;rw [if_pos rfl,if_neg hrs];omega
   · rw [if_neg h1]
     by_cases h2:i=s
     · subst h2;rw [if_pos rfl];omega
     · rw [if_neg h2,h i hi h1 h2];rfl
 rw [h1,Aey,Ac8 (f:=fun i=>if i=r then f r else 0) hr (fun i hi=>if_neg hi),Ac8 (f:=fun i=>if i=s then f s else 0) hs (fun i hi=>if_neg hi),if_pos rfl,if_pos rfl]
theorem A08:∀ {n:Nat} {F:AS5} {r:Nat},r + 1 < n->(∀ q,q < n->F r q=F (r + 1) q)->det n F=0:=by
 intro n
 induction n with
 | zero=>intro _ _ h;omega
 | succ n ih=>
   intro F r hr h
   simp only [det]
   rw [A5v (r:=r) (s:=r + 1) AGi AGi AGi]
   · have:det n (AW8 r F)=det n (AW8 (r + 1) F):=AUm fun a b ha hb=>by
       unfold AW8 skp
       by_cases h1:a < r
       · rw [if_pos h1,if_pos AGi]
       · rw [if_neg h1]
         by_cases h2:a < r + 1
         · rw [if_pos h2]
           obtain rfl:a=r:=by omega
           exact (h (b + 1) AGi).symm
         · rw [if_neg h2]
     rw [this,A8v,h 0 AGi]
     grind
   · intro i hi h1 h2
     rcases Nat.lt_or_ge i r with hlt | hge
     · rw [ih (F:=AW8 i F) (r:=r - 1) AGi]
       · simp
       · intro q hq
         unfold AW8 skp
         rw [if_neg AGi,if_neg AGi,show r - 1 + 1=r by omega]
         exact h (q + 1) AGi
     · rw [ih (F:=AW8 i F) (r:=r) AGi]
       · simp
       · intro q hq
         unfold AW8 skp
         rw [if_pos AGi,if_pos AGi]
         exact h (q + 1) AGi
theorem Aiv {F:AS5} {a b:Nat} (h:a≠b) (u v:Nat->Int):AUw (AUw F a u) b v=AUw (AUw F b v) a u:=by
 funext k;unfold AUw;by_cases h1:k=a <;> by_cases h2:k=b
 ·omega
 ·simp [h1,h]
 ·simp [h2,Ne.symm h]
 ·simp [h1,h2]
theorem Axi {n:Nat} {F:AS5} {a b:Nat} (ha:a < n) (hb:b < n) (hab:a≠b) (h0:∀ G:AS5,G a=G b->det n G=0):det n (AX3 F a b)= -det n F:=by
  have key:∀ u v:Nat->Int,det n (AUw (AUw F a u) b v)= -det n (AUw (AUw F a v) b u):=by
    intro u v;have h1:=h0 (AUw (AUw F a fun q=>1 * u q + 1 * v q) b fun q=>1 * u q + 1 * v q) (by rw [AUx,AYe _ _ hab,AUx]);rw [Al3 u v 1 1 hb,Aiv hab,Aiv hab,Al3 u v 1 1 ha,Al3 u v 1 1 ha,Aiv (Ne.symm hab),Aiv (Ne.symm hab),Aiv (Ne.symm hab),Aiv (Ne.symm hab)] at h1;have h2:=h0 (AUw (AUw F a u) b u) (by rw [AUx,AYe _ _ hab,AUx]);have h3:=h0 (AUw (AUw F a v) b v) (by rw [AUx,AYe _ _ hab,AUx]);omega
  unfold AX3;rw [key (F b) (F a),Ahg];rw [show AUw F b (F b)=F from Ahg F b]
theorem A09:∀ {d n:Nat} {F:AS5} {a:Nat},a + d + 1 < n->F a=F (a + d + 1)->det n F=0:=by
 intro d
 induction d with
 | zero=>intro n F a hn h;exact A08 hn fun q _=>by rw [h]
 | succ d ih=>
   intro n F a hn h
   have h1:=Axi (n:=n) (F:=F) (a:=a + d + 1) (b:=a + d + 1 + 1) AGi AGi AGi fun G hG=>A08 (r:=a + d + 1) AGi fun q _=>congrFun hG q
   have h2:=ih (n:=n) (F:=AX3 F (a + d + 1) (a + d + 1 + 1)) (a:=a) AGi (by rw [Ap3,Ar6 _ AGi AGi,h];rfl)
   omega
theorem Af5 {n:Nat} {F:AS5} {a b:Nat} (ha:a < n) (hb:b < n) (hab:a≠b) (h:F a=F b):det n F=0:=by
 rcases Nat.lt_or_ge a b with hlt | hge
 ·exact A09 (d:=b - a - 1) (a:=a) AGi (by rw [h];congr 1;omega)
 ·exact A09 (d:=a - b - 1) (a:=b) AGi (by rw [<- h];congr 1;omega)
theorem Aja {n:Nat} {F:AS5} {a b:Nat} (ha:a < n) (hb:b < n) (hab:a≠b):det n (AX3 F a b)= -det n F:=
  Axi ha hb hab fun _ h=>Af5 ha hb hab h
theorem Aub {n:Nat} {F:AS5} {r:Nat} (u:Nat->Int) (c:Int) (hr:r < n):det n (AUw F r fun q=>c * u q)=c * det n (AUw F r u):=by
 have:=Al3 (F:=F) u (fun _=>0) c 0 hr;rw [show (fun q=>c * u q + 0 * (fun _:Nat=>(0:Int)) q)=fun q=>c * u q from by funext q;omega] at this;rw [this];omega
theorem Al4 {n:Nat} {F:AS5} {r:Nat} (hr:r < n) (h:∀ q,q < n->F r q=0):det n F=0:=by
 have:=Aub (F:=F) (F r) 0 hr;rw [Int.zero_mul] at this;rw [<- this]
 exact AUm fun i j hi hj=>by
   unfold AUw
   split
   · rename_i he;subst he;rw [h j hj];simp
   · rfl
theorem Aez {n:Nat} {F:AS5} {a b:Nat} (ha:a < n) (hb:b < n) (hab:a≠b) (q:Int):det n (AUw F a fun x=>F a x + q * F b x)=det n F:=by
 have:=Al3 (F:=F) (F a) (F b) 1 q ha;rw [Ahg,Af5 (F:=AUw F a (F b)) ha hb hab (by rw [AUx,AYe _ _ (Ne.symm hab)])] at this;rw [show (fun x=>F a x + q * F b x)=fun x=>1 * F a x + q * F b x from by funext x;omega,this];omega
theorem Ass {n:Nat} {F:AS5} {r:Nat} (hr:r < n) (y:Nat->Int) (u:AS5):∀ t,det n (AUw F r fun q=>psum (fun k=>y k * u k q) t)=psum (fun k=>y k * det n (AUw F r (u k))) t:=by
 intro t
 induction t with
 | zero=>exact Al4 hr fun q _=>by rw [AUx];rfl
 | succ t ih=>
   have:=Al3 (F:=F) (fun q=>psum (fun k=>y k * u k q) t) (u t) 1 (y t) hr
   simp only [psum]
   rw [<- ih,show (fun q=>psum (fun k=>y k * u k q) t + y t * u t q)=fun q=>1 * psum (fun k=>y k * u k q) t + y t * u t q from by funext q;omega,this];omega
theorem A5w {n:Nat} {F:AS5} {r:Nat} (hr:r < n) (y:Nat->Int):det n (AUw F r fun q=>psum (fun k=>y k * F k q) n)=y r * det n F:=by
  rw [Ass hr y F n,AT0 (g:=fun k=>if k=r then y r * det n F else 0),Ac8 hr (fun i hi=>if_neg hi),if_pos rfl];intro k hk
  by_cases h:k=r
  · subst h;rw [if_pos rfl,Ahg]
  · rw [if_neg h,Af5 (F:=AUw F r (F k)) hr hk (Ne.symm h) (by rw [AUx,AYe _ _ h])];simp
def AZm (f:Nat->Int):Nat->Int
  | 0=>1
  | n + 1=>AZm f n * f n
theorem Aqw (f:Nat->Int) (n:Nat):AZm f (n + 1)=f 0 * AZm (fun i=>f (i + 1)) n:=by
 induction n with
 | zero=>simp [AZm]
 | succ n ih=>rw [AZm,ih,AZm];grind
theorem Aqx {f g:Nat->Int} {n:Nat} (h:∀ i,i < n->f i=g i):AZm f n=AZm g n:=by
 induction n with
 | zero=>rfl
 | succ n ih=>rw [AZm,AZm,ih (fun i hi=>h i AGi),h n AGi]
theorem Ant:∀ {n:Nat} {F:AS5},Zc n F n->det n F=AZm (fun i=>F i i) n:=by
 intro n
 induction n with
 | zero=>intro _ _;rfl
 | succ n ih=>
   intro F h
   rw [Aqw,det,AT0 (g:=fun i=>if i=0 then F 0 0 * det n (AW8 0 F) else 0),Ac8 (a:=0) AGi (fun i hi=>if_neg hi),if_pos rfl]
   · rw [ih (F:=AW8 0 F) (fun c' i h1 h2 h3=>by unfold AW8 skp;rw [if_neg AGi];exact h (c' + 1) (i + 1) AGi AGi AGi)]
     rfl
   · intro i hi
     by_cases h0:i=0
     · subst h0;simp [sg]
     · rw [if_neg h0,h 0 i AGi AGi hi];simp
theorem Auc:∀ {n:Nat} {F:AS5},(∀ i j,i < j->j < n->F i j=0)->det n F=AZm (fun i=>F i i) n:=by
 intro n
 induction n with
 | zero=>intro _ _;rfl
 | succ n ih=>
   intro F h
   rw [Aqw,det,AT0 (g:=fun i=>if i=0 then F 0 0 * det n (AW8 0 F) else 0),Ac8 (a:=0) AGi (fun i hi=>if_neg hi),if_pos rfl]
   · rw [ih (F:=AW8 0 F) (fun i j h1 h2=>by unfold AW8 skp;rw [if_neg AGi];exact h (i + 1) (j + 1) AGi AGi)]
     rfl
   · intro i hi
     by_cases h0:i=0
     · subst h0;simp [sg]
     · rw [if_neg h0,Al4 (F:=AW8 i F) (r:=0) AGi (fun q hq=>by unfold AW8 skp;rw [if_pos AGi];exact h 0 (q + 1) AGi AGi)];simp
def An9 (F:AS5) (c i:Nat) (q:Int):AS5:=AX3 (AUw F c fun x=>F c x + -q * F i x) c i
theorem A1a (F:AS5) {c i:Nat} (q:Int):An9 F c i q i=fun x=>F c x + -q * F i x:=by
 unfold An9;rw [Awz,AUx]
theorem A8y (F:AS5) {c i:Nat} (h:c≠i) (q:Int):An9 F c i q c=F i:=by
 unfold An9;rw [Ap3,AYe _ _ (Ne.symm h)]
theorem Axj (F:AS5) {c i k:Nat} (hc:k≠c) (hi:k≠i) (q:Int):An9 F c i q k=F k:=by
 unfold An9;rw [Ar6 _ hc hi,AYe _ _ hc]
theorem A5x {n:Nat} {F:AS5} {c i:Nat} {q:Int} (H:Zc n F c) (hci:c < i) (hi:i < n):Zc n (An9 F c i q) c:=by
 intro c' k h1 h2 h3;by_cases hk:k=i
 ·subst hk;rw [A1a];simp [H c' c h1 h1 AGi,H c' k h1 h2 h3]
 ·by_cases Ad:k=c
  ·subst Ad;rw [A8y F hk];exact H c' i h1 AGi hi
  ·rw [Axj F Ad hk];exact H c' k h1 h2 h3
theorem A5y {F:AS5} {c i:Nat} {q:Int} (H:Zi F c i):Zi (An9 F c i q) c i:=by
 intro k h1 h2;rw [Axj F AGi AGi];exact H k h1 h2
theorem A1b {n:Nat} {P:(AS5)->Prop} (hadd:∀ F a b q,a < n->b < n->a≠b->P (AUw F a fun x=>F a x + q * F b x)->P F) (hswap:∀ F a b,a < n->b < n->a≠b->P (AX3 F a b)->P F) (htri:∀ F,Zc n F n->P F):∀ F,P F:=by
  have key:∀ d c,c + d=n-> ∀ F,Zc n F c->P F:=by
    intro d;induction d with
    | zero=>
        intro c hc F hF;obtain rfl:c=n:=by omega
        exact htri F hF
    | succ d ih=>
      intro c hc
      have inner:∀ e i,i + e=n->c < i-> ∀ F,Zc n F c->Zi F c i->P F:=by
        intro e;induction e with
        | zero=>
            intro i hi hci F hF hz;obtain rfl:i=n:=by omega
            exact ih (c + 1) AGi F (A72 hF hz)
        | succ e ihe=>
          intro i hi hci
          have strong:∀ k F,(F i c).natAbs=k->Zc n F c->Zi F c i->P F:=by
            intro k;induction k using Nat.strongRecOn with
            | _ k ihk=>
              intro F hk hF hz
              by_cases h0:F i c=0
              · exact ihe (i + 1) AGi AGi F hF (A71 hz h0)
              · refine hadd F c i (-(F c c / F i c)) AGi AGi AGi (hswap _ c i AGi AGi AGi ?_);refine ihk ((An9 F c i (F c c / F i c)) i c).natAbs ?_ (An9 F c i (F c c / F i c)) rfl (A5x hF hci AGi) (A5y hz);rw [A1a,<- hk];show (F c c + -(F c c / F i c) * F i c).natAbs < _;have h1:=Int.mul_ediv_add_emod (F c c) (F i c);have h2:F c c + -(F c c / F i c) * F i c=F c c % F i c:=by grind
                rw [h2];have h3:=Int.emod_nonneg (F c c) h0;have h4:=Int.emod_lt (F c c) h0;omega
          exact fun F=>strong _ F rfl
      exact fun F hF=>inner (n - (c + 1)) (c + 1) AGi AGi F hF fun k h1 h2=>by omega
  exact fun F=>key n 0 AGi F fun c' i h=>by omega
def AVk (n:Nat) (A B:AS5):AS5:=fun i j=>psum (fun k=>A i k * B k j) n
theorem A5z {n:Nat} {A B:AS5} {a b:Nat} {q:Int}:AVk n (AUw A a fun x=>A a x + q * A b x) B=AUw (AVk n A B) a fun x=>AVk n A B a x + q * AVk n A B b x:=by
 funext i j;unfold AVk AUw;by_cases h:i=a
 ·simp only [if_pos h];rw [<- AYa,<- Aey];exact AT0 fun k _=>by grind
 ·simp only [if_neg h]
theorem Axk {n:Nat} {A B:AS5} {a:Nat} {u:Nat->Int}:AVk n (AUw A a u) B=AUw (AVk n A B) a fun x=>psum (fun k=>u k * B k x) n:=by
 funext i j;unfold AVk AUw;by_cases h:i=a
 ·simp only [if_pos h]
 ·simp only [if_neg h]
theorem A20 {n:Nat} {A B:AS5} {a b:Nat}:AVk n (AX3 A a b) B=AX3 (AVk n A B) a b:=by
 unfold AX3;rw [Axk,Axk];rfl
theorem Al5 {n:Nat} (A B:AS5):det n (AVk n A B)=det n A * det n B:=by
 refine A1b (n:=n) (P:=fun A=>det n (AVk n A B)=det n A * det n B) (fun F a b q ha hb hab h=>?_) (fun F a b ha hb hab h=>?_) (fun F hF=>?_) A
 ·rw [A5z,Aez ha hb hab,Aez ha hb hab] at h;exact h
 ·rw [A20,Aja ha hb hab,Aja ha hb hab] at h;rw [Int.neg_mul] at h;omega
 ·rw [Ant hF]
  have key:∀ j,j<=n->det n (fun i=>if i < j then AVk n F B i else B i)=AZm (fun i=>F i i) j * det n B:=by
    intro j
    induction j with
    | zero=>intro _;simp [AZm]
    | succ j ih=>
      intro hj
      rw [AZm,Int.mul_assoc,Int.mul_comm (F j j),<- Int.mul_assoc,<- ih AGi,Int.mul_comm]
      rw [<- A5w (F:=fun i=>if i < j then AVk n F B i else B i) (r:=j) AGi (F j)]
      refine AUm fun i q hi hq=>?_
      unfold AUw
      by_cases h:i=j
      · subst h
        simp only [if_pos (Nat.lt_succ_self i),if_pos]
        unfold AVk
        refine AT0 fun k hk=>?_
        by_cases hlt:k < i
        · rw [hF k i AGi hlt hi];simp
        · rw [if_neg hlt]
      · simp only [if_neg h]
        by_cases hlt:i < j
        · rw [if_pos hlt,if_pos AGi]
        · rw [if_neg hlt,if_neg AGi]
  rw [<- key n (Nat.le_refl _)];exact AUm fun i j hi hj=>by rw [if_pos hi]
def trF (F:AS5):AS5:=fun i j=>F j i
theorem Aqe (n:Nat):det n dl=1:=by
 rw [Ant (fun c' i h1 h2 h3=>by unfold dl;rw [if_neg AGi])]
 have:∀ k,AZm (fun i=>dl i i) k=1:=by
   intro k
   induction k with
   | zero=>rfl
   | succ k ih=>rw [AZm,ih];simp [dl]
 exact this n
theorem Azo {n:Nat} {F:AS5} {i j:Nat} (hj:j < n):psum (fun k=>F i k * dl k j) n=F i j:=by
 rw [Ac8 hj (fun k hk=>by unfold dl;rw [if_neg hk];simp)];simp [dl]
theorem Azp {n:Nat} {F:AS5} {a:Nat} (y:Nat->Int) (ha:a < n):det n (trF (AUw F a fun x=>psum (fun k=>y k * F k x) n))=det n (trF F) * det n (trF (AUw dl a y)):=by
  rw [<- Al5];refine AUm fun i j hi hj=>?_;unfold AVk trF AUw
  by_cases h:j=a
  · simp only [if_pos h];exact AT0 fun k _=>by grind
  · simp only [if_neg h];rw [Ac8 hj (fun k hk=>by unfold dl;rw [if_neg (Ne.symm hk)];simp)];simp [dl]
theorem Afw {n:Nat} (F:AS5):det n (trF F)=det n F:=by
 refine A1b (n:=n) (P:=fun F=>det n (trF F)=det n F) (fun F a b q ha hb hab h=>?_) (fun F a b ha hb hab h=>?_) (fun F hF=>?_) F
 ·rw [Aez ha hb hab] at h;rw [<- h];have h1:=Azp (n:=n) (F:=F) (a:=a) (fun k=>dl k a + q * dl k b) ha
  have h2:det n (trF (AUw dl a fun k=>dl k a + q * dl k b))=1:=by
    rw [<- Aqe n,<- Aez (F:=dl) hb ha (Ne.symm hab) q]
    refine AUm fun i j hi hj=>?_
    clear h1 h
    simp only [trF,AT2,dl]
    grind
  rw [h2,Int.mul_one] at h1;rw [<- h1];refine AUm fun i j hi hj=>?_;unfold trF AUw;by_cases hja:j=a
  ·simp only [if_pos hja];rw [AT0 (g:=fun k=>F k i * dl k a + q * (F k i * dl k b)) (fun k _=>by grind),Aey,AYa];rw [Ac8 (a:=a) ha (fun k hk=>by unfold dl;rw [if_neg hk];simp),Ac8 (a:=b) hb (fun k hk=>by unfold dl;rw [if_neg hk];simp)];simp [dl]
  ·simp only [if_neg hja]
 ·rw [Aja ha hb hab] at h
  have h1:det n (trF (AX3 F a b))=det n (trF F) * det n (AX3 dl a b):=by
    rw [<- Al5]
    refine AUm fun i j hi hj=>?_
    unfold AVk trF
    have hsym:∀ k,AX3 dl a b k j=if j=a then dl k b else if j=b then dl k a else dl k j:=by
      intro k
      simp only [Ae8,dl]
      grind
    rw [AT0 (g:=fun k=>F k i * dl k (if j=a then b else if j=b then a else j)) (fun k _=>by rw [hsym];grind)]
    rw [Ac8 (a:=if j=a then b else if j=b then a else j) (by grind) (fun k hk=>by unfold dl;rw [if_neg hk];simp)]
    simp only [dl,if_pos,Int.mul_one]
    by_cases h3:j=a
    · subst h3;rw [Ap3,if_pos rfl]
    · rw [if_neg h3]
      by_cases h4:j=b
      · subst h4;rw [Awz,if_pos rfl]
      · rw [Ar6 _ h3 h4,if_neg h4]
  rw [Aja ha hb hab,Aqe] at h1;omega
 ·rw [Ant hF,Auc (F:=trF F) (fun i j h1 h2=>hF i j AGi h1 h2)];rfl
def shF (k:Nat) (F:AS5):AS5:=fun i j=>F (k + i) (k + j)
theorem Aud {i k a:Nat} (h:i < k + 1):skp i (k + a)=k + 1 + a:=by unfold skp;rw [if_neg AGi];omega
theorem Anu:∀ {k m:Nat} {T:AS5},(∀ i j,k<=i->i < k + m->j < k->T i j=0)->det (k + m) T=det k T * det m (shF k T):=by
  intro k;induction k with
  | zero=>
    intro m T _;have e:shF 0 T=T:=by funext i j;simp [shF]
    rw [e,Nat.zero_add];simp [det]
  | succ k ih=>
    intro m T h;rw [show k + 1 + m=(k + m) + 1 by omega];simp only [det];rw [A5t (k:=k + 1) AGi (fun i h1 h2=>by rw [h i 0 h1 AGi AGi];simp)];rw [Int.mul_comm,<- AYa];refine AT0 fun i hi=>?_
    rw [ih (T:=AW8 i T) (m:=m) (fun a b ha ha2 hb=>by
      obtain ⟨c,rfl⟩:∃ c,a=k + c:=⟨a - k,AGi⟩;unfold AW8;rw [Aud hi];exact h _ _ AGi AGi AGi)]
    have e:shF k (AW8 i T)=shF (k + 1) T:=by
      funext a b;unfold shF AW8;rw [Aud hi,show k + b + 1=k + 1 + b by omega]
    rw [e];grind
theorem Avk {n:Nat} {F:AS5} (h:∀ i,i < n + 1->F i 0=0):det (n + 1) F=0:=by
 simp only [det];rw [AT0 (g:=fun _=>0) fun i hi=>by rw [h i hi];simp];exact Aiu _
theorem Axl {n:Nat} {F:AS5} {a b:Nat} (ha:a < n) (hb:b < n) (hab:a≠b) (h:∀ i,F i a=F i b):det n F=0:=by
 rw [<- Afw];exact Af5 ha hb hab (by funext i;exact h i)
theorem A8z (F:AS5):det 2 F=F 0 0 * F 1 1 - F 1 0 * F 0 1:=by
 simp [det,psum,AW8,skp,sg];grind
def bro (k i r:Nat):Nat:=if r < k then r else i
def Mn (k:Nat) (A:AS5) (i j:Nat):Int:=det (k + 1) fun r c=>A (bro k i r) (bro k j c)
theorem Agt (A:AS5) (i j:Nat):Mn 0 A i j=A i j:=by
 simp [Mn,det,psum,bro,sg]
theorem Acv (k:Nat) (A:AS5):Mn k A k k=det (k + 1) A:=by
 refine AUm fun r c hr hc=>?_;have e:∀ r,r < k + 1->bro k k r=r:=fun r hr=>by unfold bro;split <;> omega
 rw [e r hr,e c hc]
theorem BAi {k:Nat} (A:AS5) (i:Nat) {j:Nat} (hj:j < k):Mn k A i j=0:=by
 refine Axl (a:=j) (b:=k) AGi AGi AGi fun r=>?_;unfold bro;simp [hj]
def cof (k:Nat) (A:AS5) (i s:Nat):Int:=det (k + 1) (AUw (fun c r=>A (bro k i r) c) k (dl s))
theorem Avl {n:Nat} (f:Nat->Int) {q:Nat} (hq:q < n):psum (fun s=>f s * dl s q) n=f q:=by
 rw [Ac8 hq (fun i hi=>by unfold dl;rw [if_neg hi,Int.mul_zero])];simp [dl]
theorem BBr (k:Nat) (A:AS5) (i j:Nat):Mn k A i j=psum (fun s=>cof k A i s * A s j) k + det k A * A i j:=by
 have h1:Mn k A i j=det (k + 1) (AUw (fun c r=>A (bro k i r) c) k fun q=>psum (fun s=>A (bro k i s) j * dl s q) (k + 1)):=by
   unfold Mn
   rw [<- Afw]
   refine AUm fun c r hc hr=>?_
   rw [AT2,Avl _ hr]
   unfold trF
   split
   · subst_vars;simp [bro]
   · have:c < k:=by omega
     simp [bro,this]
 rw [h1,Ass AGi]
 have hk:det (k + 1) (AUw (fun c r=>A (bro k i r) c) k (dl k))=det k A:=by
   rw [Anu (k:=k) (m:=1) (T:=AUw (fun c r=>A (bro k i r) c) k (dl k)) (fun a b h1 h2 h3=>by
     obtain rfl:a=k:=by omega
     rw [AT2,if_pos rfl];unfold dl;rw [if_neg AGi])]
   have e1:det k (AUw (fun c r=>A (bro k i r) c) k (dl k))=det k A:=by
     rw [<- Afw]
     refine AUm fun r c hr hc=>?_
     unfold trF
     rw [AT2,if_neg AGi]
     simp [bro,hr]
   have e2:det 1 (shF k (AUw (fun c r=>A (bro k i r) c) k (dl k)))=1:=by
     simp [det,psum,shF,sg,AT2,dl]
   rw [e1,e2,Int.mul_one]
 show psum (fun s=>A (bro k i s) j * det (k + 1) (AUw (fun c r=>A (bro k i r) c) k (dl s))) k + A (bro k i k) j * det (k + 1) (AUw (fun c r=>A (bro k i r) c) k (dl k))=_;rw [hk];congr 1
 ·refine AT0 fun s hs=>?_;show _=cof k A i s * A s j;unfold cof;rw [Int.mul_comm];simp [bro,hs]
 ·simp [bro,Int.mul_comm]
theorem Axm (f:Nat->Int) (k m:Nat):AZm f (k + m)=AZm f k * AZm (fun i=>f (k + i)) m:=by
 induction m with
 | zero=>simp [AZm]
 | succ m ih=>rw [<- Nat.add_assoc];simp only [AZm];rw [ih];grind
theorem Aue {f:Nat->Int}:∀ {n:Nat},(∀ i,i < n->f i=1)->AZm f n=1
  | 0,_=>rfl
  | n + 1,h=>by rw [AZm,Aue fun i hi=>h i AGi,h n AGi];rfl
theorem Axn {f:Nat->Int}:∀ {n:Nat},(∀ i,i < n->f i≠0)->AZm f n≠0
  | 0,_=>by simp [AZm]
  | n + 1,h=>by rw [AZm];exact Int.mul_ne_zero (Axn fun i hi=>h i AGi) (h n AGi)
def Amh (k:Nat) (A:AS5) (ρ:Nat->Nat):AS5:=fun r s=>if r < k then dl r s else if s < k then cof k A (ρ r) s else if s=r then det k A else 0
theorem Axo {k n:Nat} {A B:AS5} {ρ γ:Nat->Nat} (hkn:k<=n) (hρ:∀ r,r < k->ρ r=r) (hB:∀ r c,B r c=A (ρ r) (γ c)) {r c:Nat} (hr:r < n):AVk n (Amh k A ρ) B r c=if r < k then B r c else Mn k A (ρ r) (γ c):=by
 unfold AVk;by_cases h:r < k
 ·rw [if_pos h,Ac8 hr (fun i hi=>by unfold Amh;rw [if_pos h];unfold dl;rw [if_neg (fun e=>hi e.symm),Int.zero_mul])];unfold Amh;rw [if_pos h];simp [dl]
 ·rw [if_neg h,BBr];obtain ⟨m,rfl⟩:∃ m,n=k + m:=⟨n - k,AGi⟩
  have hs:∀ t,psum (fun s=>Amh k A ρ r s * B s c) (k + t)=psum (fun s=>cof k A (ρ r) s * A s (γ c)) k + (if r < k + t then det k A * A (ρ r) (γ c) else 0):=by
    intro t
    induction t with
    | zero=>
      rw [if_neg AGi,Int.add_zero,Nat.add_zero]
      refine AT0 fun s hs=>?_
      unfold Amh
      rw [if_neg h,if_pos hs,hB,hρ s hs]
    | succ t ih=>
      show psum (fun s=>Amh k A ρ r s * B s c) (k + t) + Amh k A ρ r (k + t) * B (k + t) c=_
      rw [ih]
      have e:Amh k A ρ r (k + t)=if k + t=r then det k A else 0:=by unfold Amh;rw [if_neg h,if_neg AGi]
      rw [e,hB]
      rcases Nat.lt_trichotomy r (k + t) with h1 | h1 | h1
      · rw [if_pos h1,if_neg AGi,if_pos AGi];simp
      · subst h1;rw [if_neg AGi,if_pos rfl,if_pos AGi];omega
      · rw [if_neg AGi,if_neg AGi,if_neg AGi];simp
  rw [hs,if_pos hr]
theorem Axp {k m:Nat} {A:AS5} {ρ:Nat->Nat}:det (k + m) (Amh k A ρ)=AZm (fun _=>det k A) m:=by
 rw [Auc (fun i j hij hj=>by
   unfold Amh
   split
   · unfold dl;rw [if_neg AGi]
   · rw [if_neg AGi,if_neg AGi]),Axm,Aue,Int.one_mul]
 ·refine Aqx fun i hi=>?_;unfold Amh;rw [if_neg AGi,if_neg AGi,if_pos rfl]
 ·intro i hi;unfold Amh;rw [if_pos hi];simp [dl]
theorem Anv {k:Nat} {A:AS5} (h0:det k A≠0) (i j:Nat):Mn k A k k * Mn k A i j - Mn k A i k * Mn k A k j=det k A * Mn (k + 1) A i j:=by
  have h1:=Al5 (n:=k + 2) (Amh k A (bro (k + 1) i)) fun r c=>A (bro (k + 1) i r) (bro (k + 1) j c)
  have hm:∀ r c,r < k + 2->AVk (k + 2) (Amh k A (bro (k + 1) i)) (fun r c=>A (bro (k + 1) i r) (bro (k + 1) j c)) r c=if r < k then A (bro (k + 1) i r) (bro (k + 1) j c) else Mn k A (bro (k + 1) i r) (bro (k + 1) j c):=fun r c hr=>
    Axo (k:=k) (n:=k + 2) (A:=A) (B:=fun r c=>A (bro (k + 1) i r) (bro (k + 1) j c)) (ρ:=bro (k + 1) i) (γ:=bro (k + 1) j) AGi (fun r hr=>by unfold bro;rw [if_pos AGi]) (fun r c=>rfl) hr
  rw [Axp,Anu (k:=k) (m:=2) (fun a b ha ha2 hb=>by
    rw [hm a b ha2,if_neg AGi,show bro (k + 1) j b=b by unfold bro;rw [if_pos AGi]];exact BAi _ _ hb)] at h1
  have e1:det k (AVk (k + 2) (Amh k A (bro (k + 1) i)) fun r c=>A (bro (k + 1) i r) (bro (k + 1) j c))=det k A:=by
    refine AUm fun r c hr hc=>?_;rw [hm r c AGi,if_pos hr];simp only [bro];rw [if_pos AGi,if_pos AGi]
  have b0:∀ q,bro (k + 1) q (k + 0)=k:=fun q=>by unfold bro;rw [if_pos AGi];rfl
  have b1:∀ q,bro (k + 1) q (k + 1)=q:=fun q=>by unfold bro;rw [if_neg AGi]
  rw [e1,A8z] at h1;simp only [shF] at h1;rw [hm _ _ AGi,hm _ _ AGi,hm _ _ AGi,hm _ _ AGi,if_neg AGi,if_neg AGi,if_neg AGi,if_neg AGi,b0,b0,b1,b1] at h1;have e2:AZm (fun _=>det k A) 2=det k A * det k A:=by simp [AZm]
  have e3:(det (k + 2) fun r c=>A (bro (k + 1) i r) (bro (k + 1) j c))=Mn (k + 1) A i j:=rfl;rw [e2,e3,Int.mul_assoc] at h1;exact Int.eq_of_mul_eq_mul_left h0 h1
theorem Axq {k n:Nat} {A:AS5} (h0:det k A≠0) (hk:k < n) (hz:∀ i,k<=i->i < n->Mn k A i k=0):det n A=0:=by
  obtain ⟨m,rfl⟩:∃ m,n=k + (m + 1):=⟨n - k - 1,AGi⟩;have h1:=Al5 (n:=k + (m + 1)) (Amh k A id) A
  have hm:∀ r c,r < k + (m + 1)->AVk (k + (m + 1)) (Amh k A id) A r c=if r < k then A r c else Mn k A r c:=fun r c hr=>
    Axo (k:=k) (n:=k + (m + 1)) (A:=A) (B:=A) (ρ:=id) (γ:=id) AGi (fun r hr=>rfl) (fun r c=>rfl) hr
  rw [Axp,Anu (k:=k) (m:=m + 1) (fun a b ha ha2 hb=>by rw [hm a b ha2,if_neg AGi];exact BAi _ _ hb),Avk (F:=shF k _) (fun i hi=>by
    unfold shF;rw [hm _ _ AGi,if_neg AGi];exact hz _ AGi AGi),Int.mul_zero] at h1
  rcases Int.mul_eq_zero.1 h1.symm with h2 | h2
  · exact absurd h2 (Axn fun i hi=>h0)
  · exact h2
def dBd (m:Nat):Nat->Nat
  | 0=>1
  | n + 1=>(n + 1) * m * dBd m n
theorem psum_abs {f:Nat->Int} {B:Nat}:∀ {n:Nat},(∀ i,i < n->(f i).natAbs<=B)->(psum f n).natAbs<=n * B
  | 0,_=>by simp [psum]
  | n + 1,h=>by
    have h1:=psum_abs (n:=n) fun i hi=>h i AGi
    have h2:=h n AGi
    have h3:=Int.natAbs_add_le (psum f n) (f n)
    show (psum f n + f n).natAbs<=_
    rw [Nat.add_mul,Nat.one_mul]
    omega
theorem Arh {m:Nat}:∀ {n:Nat} {F:AS5},(∀ i j,(F i j).natAbs<=m)->(det n F).natAbs<=dBd m n
  | 0,_,_=>by simp [det,dBd]
  | n + 1,F,h=>by
    have h1:=psum_abs (f:=fun i=>sg i * F i 0 * det n (AW8 i F)) (B:=m * dBd m n) (n:=n + 1) fun i hi=>by
      have e:=Arh (n:=n) (F:=AW8 i F) fun a b=>h _ _
      have es:(sg i).natAbs=1:=by unfold sg;split <;> rfl
      rw [Int.natAbs_mul,Int.natAbs_mul,es,Nat.one_mul]
      exact Nat.mul_le_mul (h i 0) e
    rw [dBd,Nat.mul_assoc]
    exact h1
theorem A80 {k n p:Nat} {A:AS5} (hp:k < p) {i j:Nat} (hi:k<=i):Mn k (AX3 A p k) i j=Mn k A (if i=k then p else if i=p then k else i) j:=by
 refine AUm fun r c hr hc=>?_;rw [Ae8];unfold bro;by_cases h:r < k
 ·rw [if_pos h,if_pos h,if_neg AGi,if_neg AGi]
 ·rw [if_neg h,if_neg h];split
  ·rfl
  ·split <;> rfl
theorem Avm {k p:Nat} {A:AS5} (hp:k < p):det k (AX3 A p k)=det k A:=by
 refine AUm fun r c hr hc=>?_;rw [Ae8,if_neg AGi,if_neg AGi]
def sgB (neg:Bool):Int:=if neg then -1 else 1
def Aqf (m:Nat) (A0:AS5) (n k:Nat) (F:AS5) (last:Int) (neg:Bool):Prop:=
  ∃ A:AS5,det n A=sgB neg * det n A0/\(∀ i j,k<=i->i < n->k<=j->j < n->F i j=Mn k A i j)/\last=det k A/\last≠0/\ ∀ i j,(A i j).natAbs<=m
theorem Azr {m n:Nat} {A0:AS5} (h:∀ i j,(A0 i j).natAbs<=m):Aqf m A0 n 0 A0 1 false:=
  ⟨A0,by simp [sgB],fun i j _ _ _ _=>(Agt A0 i j).symm,rfl,AGk,h⟩
theorem A21 {m n k p:Nat} {A0 F:AS5} {last:Int} {neg:Bool} (H:Aqf m A0 n k F last neg) (hkp:k < p) (hp:p < n):Aqf m A0 n k (AX3 F p k) last (!neg):=by
 obtain ⟨A,h1,h2,h3,h4,h5⟩:=H;refine ⟨AX3 A p k,?_,fun i j hi hin hj hjn=>?_,by rw [Avm hkp];exact h3,h4,fun i j=>?_⟩
 ·rw [Aja hp AGi AGi,h1];cases neg <;> simp [sgB]
 ·rw [A80 (n:=n) hkp hi,Ae8];split
  ·rw [h2 p j AGi hp hj hjn]
  ·split
   ·rw [h2 k j AGi AGi hj hjn]
   ·rw [h2 i j hi hin hj hjn]
 ·rw [Ae8];split
  ·exact h5 _ _
  ·split <;> exact h5 _ _
def bQ (k:Nat) (F:AS5) (last:Int) (r c:Nat):Int:=(F k k * F r c - F r k * F k c) / last
def bF (k:Nat) (F:AS5) (last:Int) (i j:Nat):AS5:=fun r c=>if k < r/\k < c/\(r < i∨r=i/\c < j) then bQ k F last r c else F r c
theorem Axr (k:Nat) (F:AS5) (last:Int):bF k F last (k + 1) (k + 1)=F:=by
 funext r c;unfold bF;rw [if_neg AGi]
theorem A50 (k n:Nat) (F:AS5) (last:Int) (i:Nat) {r c:Nat} (hc:c < n):bF k F last i n r c=bF k F last (i + 1) (k + 1) r c:=by
 unfold bF;by_cases h:k < r/\k < c/\(r < i∨r=i/\c < n)
 ·rw [if_pos h,if_pos AGi]
 ·rw [if_neg h,if_neg AGi]
theorem A51 (k:Nat) (F:AS5) (last:Int) {i j:Nat} (hi:k < i) (hj:k < j):(AUw (bF k F last i j) i fun c=>if c=j then bQ k F last i j else bF k F last i j i c)=bF k F last i (j + 1):=by
 funext r c;rw [AT2];split
 ·subst_vars
  split
  ·subst_vars;unfold bF;rw [if_pos AGi]
  ·unfold bF;by_cases h:k < r/\k < c/\(r < r∨r=r/\c < j)
   ·rw [if_pos h,if_pos AGi]
   ·rw [if_neg h,if_neg AGi]
 ·unfold bF;by_cases h:k < r/\k < c/\(r < i∨r=i/\c < j)
  ·rw [if_pos h,if_pos AGi]
  ·rw [if_neg h,if_neg AGi]
theorem A1c (k:Nat) (F:AS5) (last:Int) (i j c:Nat):bF k F last i j k c=F k c:=by unfold bF;rw [if_neg AGi]
theorem BAj (k:Nat) (F:AS5) (last:Int) (i j r:Nat):bF k F last i j r k=F r k:=by unfold bF;rw [if_neg AGi]
theorem BAk (k:Nat) (F:AS5) (last:Int) (i j:Nat):bF k F last i j i j=F i j:=by unfold bF;rw [if_neg AGi]
theorem BAl {m n k:Nat} {A0 F:AS5} {last:Int} {neg:Bool} (H:Aqf m A0 n k F last neg) (hk:k < n):∃ A,(∀ i j,(A i j).natAbs<=m)/\det n A=sgB neg * det n A0/\F k k=det (k + 1) A/\ ∀ i j,k<=i->i < n->k<=j->j < n->F i j=Mn k A i j/\bQ k F last i j=Mn (k + 1) A i j:=by
 obtain ⟨A,h1,h2,h3,h4,h5⟩:=H;refine ⟨A,h5,h1,by rw [h2 k k AGi hk AGi hk,Acv],fun i j hi hin hj hjn=>⟨h2 i j hi hin hj hjn,?_⟩⟩;unfold bQ;rw [h2 k k AGi hk AGi hk,h2 i j hi hin hj hjn,h2 i k hi hin AGi hk,h2 k j AGi hk hj hjn,Anv (by rw [<- h3];exact h4),<- h3,Int.mul_ediv_cancel_left _ h4]
theorem A22 {m n k:Nat} {A0 F:AS5} {last:Int} {neg:Bool} (H:Aqf m A0 n k F last neg) (hk:k < n) (h0:F k k≠0):Aqf m A0 n (k + 1) (bF k F last n (k + 1)) (F k k) neg:=by
 obtain ⟨A,h5,h1,h6,h2⟩:=BAl H hk;refine ⟨A,h1,fun i j hi hin hj hjn=>?_,h6,h0,h5⟩;unfold bF;rw [if_pos AGi];exact (h2 i j AGi hin AGi hjn).2
theorem A23 {m n k:Nat} {A0 F:AS5} {last:Int} {neg:Bool} (H:Aqf m A0 n k F last neg) (hk:k < n) (hz:∀ i,k<=i->i < n->F i k=0):det n A0=0:=by
 obtain ⟨A,h1,h2,h3,h4,h5⟩:=H;have h:=Axq (A:=A) (by rw [<- h3];exact h4) hk fun i hi hin=>by rw [<- h2 i k hi hin AGi hk];exact hz i hi hin
 rw [h1] at h;rcases Int.mul_eq_zero.1 h with h6 | h6
 ·cases neg <;> simp [sgB] at h6
 ·exact h6
theorem A52 {m n:Nat} {A0 F:AS5} {last:Int} {neg:Bool} (H:Aqf m A0 n n F last neg):det n A0=if neg then -last else last:=by
 obtain ⟨A,h1,h2,h3,h4,h5⟩:=H;rw [<- h3] at h1;rw [h1];cases neg
 ·simp [sgB]
 ·simp [sgB]
theorem Azs {m k:Nat} {A:AS5} (h:∀ i j,(A i j).natAbs<=m) (i j:Nat):(Mn k A i j).natAbs<=dBd m (k + 1):=Arh fun r c=>h _ _
theorem Ajb {m:Nat} (hm:1<=m) {a b:Nat} (h:a<=b):dBd m a<=dBd m b:=by
 induction h with
 | refl=>exact Nat.le_refl _
 | step h ih=>
   refine Nat.le_trans ih ?_
   rw [dBd]
   exact Nat.le_mul_of_pos_left _ (Nat.mul_pos AGi AGi)
theorem A53 {m n k:Nat} {A0 F:AS5} {last:Int} {neg:Bool} (hm:1<=m) (H:Aqf m A0 n k F last neg) (hk:k < n) {i j:Nat} (hi:k<=i) (hin:i < n) (hj:k<=j) (hjn:j < n):(F i j).natAbs<=dBd m n/\(bQ k F last i j).natAbs<=dBd m (n + 1):=by
  obtain ⟨A,h5,h1,h6,h2⟩:=BAl H hk;obtain ⟨h7,h8⟩:=h2 i j hi hin hj hjn;rw [h7,h8];exact ⟨Nat.le_trans (Azs h5 _ _) (Ajb hm AGi),Nat.le_trans (Azs h5 _ _) (Ajb hm AGi)⟩
theorem A24 {m n k:Nat} {A0 F:AS5} {last:Int} {neg:Bool} (hm:1<=m) (H:Aqf m A0 n k F last neg) (hk:k<=n):last≠0/\last.natAbs<=dBd m n:=by
 obtain ⟨A,h1,h2,h3,h4,h5⟩:=H;exact ⟨h4,by rw [h3];exact Nat.le_trans (Arh h5) (Ajb hm hk)⟩
end Go.QF
namespace Go.Proofs.YthbndcbclhkepaaGreatDoor
open Go Go.QF
theorem A81 {α:Type} {i n:Nat} {a b c:α} (h:i < n):(List.replicate i a ++ List.replicate (n - i) b).set i c=List.replicate i a ++ (c :: List.replicate (n - i - 1) b):=by
 rw [List.set_append_right _ _ ATv,List.length_replicate,Nat.sub_self,show n - i=(n - i - 1) + 1 by omega,List.replicate_succ];rfl
theorem Ari {fuel n m:Nat} (hn:n<=100000000) (hm:m<=100000000) (hf:n < fuel):AV1 fuel n m=some (List.replicate n (List.replicate m 0)):=by
 apply ok_eq;unfold AV1;refine AUq AGi (AGw (AT9 (fun i s=>s=((i:Int),List.replicate i (List.replicate m 0) ++ List.replicate (n - i) [])) n (Q:=(· =List.replicate n (List.replicate m 0))) ATv hf fun i s hi hI=>?_) fun x hx=>AGq hx);subst hI;unfold Ac2;dsimp only;rw [List.length_replicate,Int.toNat_natCast];refine ATt (fun h=>AUq AGi (ATu (n:=i) (x:=[]) ?_ rfl (AGq ⟨AGi,?_⟩))) (fun h=>AGq ?_)
 ·rw [List.getElem?_append_right ATv,List.length_replicate,Nat.sub_self,List.getElem?_replicate,if_pos AGi]
 ·rw [wk AGi,AU2,Int.toNat_natCast,A81 AGi];congr 1;rw [show n - (i + 1)=n - i - 1 by omega,List.replicate_succ'];simp
 ·obtain rfl:i=n:=by omega
  simp
theorem Avn {α:Type} {A:List (List α)} {i:Nat} {row:List α} (hi:i < A.length):(A.take i ++ row :: List.replicate (A.length - i - 1) []).set i=fun r=>A.take i ++ r :: List.replicate (A.length - i - 1) []:=by
 funext r;rw [List.set_append_right _ _ (by simp;omega),List.length_take,Nat.min_eq_left AGi,Nat.sub_self];rfl
theorem A1d {fuel:Nat} {A:List (List Int)} (hn:A.length<=100000000) (hm:∀ z∈A,z.length<=100000000/\z.length < fuel) (hf:A.length < fuel):AX7 fuel A=some A:=by
 apply ok_eq;unfold AX7;refine AUq AGi (AGw (AT9 (fun i s=>s=((i:Int),A.take i ++ List.replicate (A.length - i) [])) A.length (Q:=(· =A)) ATv hf fun i s hi hI=>?_) fun x hx=>AGq hx);subst hI;unfold Ac4;dsimp only;refine ATt (fun h=>?_) (fun h=>AGq ?_)
 ·have hi':i < A.length:=by omega
  obtain ⟨row,hrow⟩:∃ row,A[i]? =some row:=⟨A[i],List.getElem?_eq_getElem hi'⟩;have hr:=hm row (List.mem_of_getElem? hrow);refine ATu hrow rfl (AGw (AT9 (fun j s=>s=((j:Int),A.take i ++ row.take j :: List.replicate (A.length - i - 1) [])) row.length (Q:=(· =A.take i ++ row :: List.replicate (A.length - i - 1) [])) ?_ hr.2 fun j s hj hJ=>?_) fun x hx=>AGq ⟨hi',?_⟩)
  ·rw [show A.length - i=(A.length - i - 1) + 1 by omega,List.replicate_succ];simp
  ·subst hJ;unfold Ac3;dsimp only;refine ATt (fun h2=>?_) (fun h2=>AGq ?_)
   ·obtain ⟨x,hx⟩:∃ x,row[j]? =some x:=⟨row[j]'AGi,List.getElem?_eq_getElem _⟩;refine ATu hx rfl (ATu (n:=i) (x:=row.take j) ?_ rfl (AGw (Q:=(· =x)) ⟨x,rfl,rfl⟩ fun y hy=>AUq ?_ (AGq ⟨AGi,?_⟩)))
    ·rw [List.getElem?_append_right (by simp;omega),List.length_take,Nat.min_eq_left AGi,Nat.sub_self];rfl
    ·rw [List.length_take];omega
    ·subst hy;rw [wk AGi,AU2,Avn hi',List.take_add_one,hx];rfl
   ·obtain rfl:j=row.length:=by omega
    rw [List.take_length]
  ·subst hx;rw [wk AGi,List.take_add_one,hrow,show A.length - (i + 1)=A.length - i - 1 by omega];simp
 ·obtain rfl:i=A.length:=by omega
  simp
def okM (A:List (List Int)):Bool:=decide (1<=A.length/\A.length<=16/\ ∀ z∈A,1<=z.length/\z.length<=16/\z.length=Agh A)
theorem A25 {A:List (List Int)} {z:List Int} (h:A[0]? =some z):Agh A=z.length:=by unfold Agh;rw [h];rfl
theorem Axt {fuel:Nat} {A:List (List Int)} (hr:∀ z∈A,∀ x∈z,-9223372036854775808<=x/\x<=9223372036854775807) (hf:17 < fuel):AVe fuel A=some (if okM A then (A,true) else ([],false)):=by
 apply ok_eq;unfold AVe
 have key:∀ R:List (List Int) × Bool->Prop,(okM A=false->R ([],false))->(okM A=true->R (A,true))->Ok (AVe fuel A) R:=by
   intro R hF hT
   unfold AVe
   refine AGw (Q:=fun ex=>match ex with | .inl e=>e=([],false)/\okM A=false | .inr _=>1<=A.length/\A.length<=16) (ATt (fun h=>AGq ⟨rfl,by unfold okM;rw [decide_eq_false_iff_not];omega⟩) fun h=>ATt (fun h2=>AGq ⟨rfl,by unfold okM;rw [decide_eq_false_iff_not];omega⟩) fun h2=>AGq ⟨AGi,AGi⟩) fun ex hex=>?_
   cases ex with
   | inl e=>obtain ⟨rfl,h⟩:=hex;exact AGq (hF h)
   | inr u=>
     dsimp only at hex ⊢
     obtain ⟨z0,Ab⟩:∃ z,A[0]? =some z:=⟨A[0]'AGi,List.getElem?_eq_getElem _⟩
     have hc:=A25 Ab
     refine AGw (AT9 (fun i (s:Int)=>s=(i:Int)/\ ∀ z∈A.take i,1<=z.length/\z.length<=16/\z.length=Agh A) A.length (Q:=fun ex=>match ex with | .inl e=>e=([],false)/\okM A=false | .inr _=>okM A=true) ⟨rfl,ATv⟩ AGi fun i s hi hI=>?_) fun ex Ac=>?_
     · obtain ⟨rfl,hI⟩:=hI
       unfold Aaf
       refine ATt (fun h=>?_) (fun h=>AGq ?_)
       · have hi':i < A.length:=by omega
         obtain ⟨row,hrow⟩:∃ row,A[i]? =some row:=⟨A[i],List.getElem?_eq_getElem hi'⟩
         have bad: ¬ (1<=row.length/\row.length<=16/\row.length=Agh A)->okM A=false:=fun hb=>by
           unfold okM;rw [decide_eq_false_iff_not];exact fun h=>hb (h.2.2 row (List.mem_of_getElem? hrow))
         refine ATu hrow rfl (ATt (fun h1=>AGq ⟨rfl,bad AGi⟩) fun h1=>ATt (fun h2=>AGq ⟨rfl,bad AGi⟩) fun h2=>ATu Ab rfl (ATt (fun h3=>AGq ⟨rfl,bad AGi⟩) fun h3=>AGq ⟨hi',wk AGi,?_⟩))
         rw [List.take_add_one,hrow]
         intro z hz
         rcases List.mem_append.1 hz with hz | hz
         · exact hI z hz
         · rw [show z=row by simpa using hz];omega
       · obtain rfl:i=A.length:=by omega
         rw [List.take_length] at hI
         unfold okM;rw [decide_eq_true_eq];exact ⟨hex.1,hex.2,hI⟩
     · cases ex with
       | inl e=>obtain ⟨rfl,h⟩:=Ac;exact AGq (hF h)
       | inr u=>
         dsimp only at Ac ⊢
         have hv:=Ac
         unfold okM at hv;rw [decide_eq_true_eq] at hv
         have hcA:∀ z∈A,z.length=Agh A:=fun z hz=>(hv.2.2 z hz).2.2
         have Ag:1<=Agh A/\Agh A<=16:=by have:=hv.2.2 z0 (List.mem_of_getElem? Ab);omega
         refine ATu Ab rfl (AGw (AUe (Ari AGi AGi AGi)) fun O hO=>?_)
         subst hO
         rw [<- hc]
         refine AGw (AT9 (fun i s=>s=((i:Int),A.take i ++ List.replicate (A.length - i) (List.replicate (Agh A) 0))) A.length (Q:=(· =A)) ATv AGi fun i s hi hI=>?_) fun x hx=>AGq (hx ▸ hT Ac)
         subst hI
         unfold Aae
         dsimp only
         refine ATt (fun h=>?_) (fun h=>AGq ?_)
         · have hi':i < A.length:=by omega
           obtain ⟨row,hrow⟩:∃ row,A[i]? =some row:=⟨A[i],List.getElem?_eq_getElem hi'⟩
           have hrl:=hcA row (List.mem_of_getElem? hrow)
           refine ATu hrow rfl (AGw (AT9 (fun j s=>s=((j:Int),A.take i ++ (row.take j ++ List.replicate (Agh A - j) 0) :: List.replicate (A.length - i - 1) (List.replicate (Agh A) 0))) row.length (Q:=(· =A.take i ++ row :: List.replicate (A.length - i - 1) (List.replicate (Agh A) 0))) ?_ AGi fun j s hj hJ=>?_) fun x hx=>AGq ⟨hi',?_⟩)
           · rw [show A.length - i=(A.length - i - 1) + 1 by omega,List.replicate_succ];simp
           · subst hJ
             unfold Aad
             dsimp only
             refine ATt (fun h2=>?_) (fun h2=>AGq ?_)
             · obtain ⟨x,hx⟩:∃ x,row[j]? =some x:=⟨row[j]'AGi,List.getElem?_eq_getElem _⟩
               have hxr:=hr row (List.mem_of_getElem? hrow) x (List.mem_of_getElem? hx)
               refine ATu (n:=i) (x:=row.take j ++ List.replicate (Agh A - j) 0) ?_ rfl (ATu hrow rfl (ATu hx rfl (AGw (Q:=(· =x)) ⟨x,if_pos hxr,rfl⟩ fun y hy=>ATu (n:=j) (x:=0) ?_ rfl (AGq ⟨AGi,?_⟩))))
               · rw [List.getElem?_append_right (by simp;omega),List.length_take,Nat.min_eq_left AGi,Nat.sub_self];rfl
               · rw [List.getElem?_append_right (by simp;omega),List.length_take,Nat.min_eq_left AGi,Nat.sub_self,List.getElem?_replicate,if_pos AGi]
               · subst hy
                 rw [wk AGi,AU2,AU2]
                 congr 1
                 rw [List.set_append_right _ _ (by simp;omega),List.length_take,Nat.min_eq_left AGi,Nat.sub_self,List.set_cons_zero]
                 congr 2
                 rw [List.set_append_right _ _ (by simp;omega),List.length_take,Nat.min_eq_left AGi,Nat.sub_self,show Agh A - j=(Agh A - (j + 1)) + 1 by omega,List.replicate_succ,List.set_cons_zero,List.take_add_one,hx]
                 simp
             · obtain rfl:j=row.length:=by omega
               rw [List.take_length,show Agh A - row.length=0 by omega];simp
           · subst hx
             rw [wk AGi,List.take_add_one,hrow,show A.length - (i + 1)=A.length - i - 1 by omega]
             simp
         · obtain rfl:i=A.length:=by omega
           simp
 have:=key (fun r=>r=if okM A then (A,true) else ([],false)) (fun h=>by rw [h];rfl) (fun h=>by rw [h];rfl);unfold AVe at this;exact this
theorem BDs {fuel:Nat} {A:List (List Int)} (hr:∀ z∈A,∀ x∈z,-9223372036854775808<=x/\x<=9223372036854775807) (hf:17 < fuel):AW1 fuel A=some (if okM A then A else []):=by
 unfold AW1;rw [Axt hr hf];cases okM A <;> rfl
theorem Axu {z:Int}:AYc z=0↔z=0:=by
 unfold AYc;split
 ·omega
 ·split <;> omega
theorem Ast {r c i j:Nat} {F:AS5} {x:Int}:sI (tab r c F) (i:Int) (sI (AVs c (F i)) (j:Int) x)=tab r c (AUw F i fun q=>if q=j then x else F i q):=by
 rw [AU2,AU2,AXv];exact A5r
theorem Aqy {a b D:Nat} (hG:2 * (D * D) < AW5) (ha:a<=D) (hb:b<=D):a * b < AW5:=by
 have:=Nat.mul_le_mul ha hb;omega
theorem A82 {a D:Nat} (hG:2 * (D * D) < AW5) (ha:a<=D):a < AW5:=by
 rcases Nat.eq_zero_or_pos D with h | h
 ·subst h;have:0 < AW5:=by decide
  omega
 ·have h2:=Nat.mul_le_mul h (Nat.le_refl D);omega
theorem Aqg {fuel D:Nat} {a b:Int} (hG:2 * (D * D) < AW5) (ha:a.natAbs<=D) (hb:b.natAbs<=D):Aj5 fuel a b=some (a * b):=if_pos (Aqy hG ha hb)
theorem Auf {D:Nat} {a b:Int} (hG:2 * (D * D) < AW5) (ha:a.natAbs<=D) (hb:b.natAbs<=D):(a * b).natAbs < AW5:=by rw [Int.natAbs_mul];exact Aqy hG ha hb
theorem A54 {D:Nat} {a b c d:Int} (hG:2 * (D * D) < AW5) (ha:a.natAbs<=D) (hb:b.natAbs<=D) (hc:c.natAbs<=D) (hd:d.natAbs<=D):(a * b - c * d).natAbs < AW5:=by
 have h1:=Nat.mul_le_mul ha hb;have h2:=Nat.mul_le_mul hc hd;rw [<- Int.natAbs_mul] at h1 h2;omega
theorem A83 {fuel n M N:Nat} {F:AS5} (hM:1<=M) (hG:2 * (dBd M (N + 1) * dBd M (N + 1)) < AW5) (hnN:n<=N) (hn:n<=16) (hb:∀ i j,(F i j).natAbs<=M) (hf:17 < fuel):AUl fuel (tab n n F)=some (det n F):=by
 apply ok_eq;unfold AUl;refine AGw (AUe (A1d (by rw [AT8];omega) (fun z hz=>by rw [Ao1 z hz];omega) (by rw [AT8];omega))) fun A hA=>?_;subst hA;refine AGw (Q:=(· =1)) ⟨1,if_pos AGi,rfl⟩ fun one h1=>?_;subst h1;have hD:dBd M n<=dBd M (N + 1):=Ajb hM AGi;have Ap:dBd M (n + 1)<=dBd M (N + 1):=Ajb hM AGi;refine AGw (AT9 (fun k s=> ∃ G last neg,s=(neg,((k:Int),tab n n G,last))/\Aqf M F n k G last neg) n (Q:=fun ex=>match ex with | .inl e=>e=det n F | .inr (neg,last)=>det n F=if neg then -last else last) ⟨F,1,false,rfl,Azr hb⟩ AGi fun k s hk hI=>?_) fun ex hex=>?_
 ·obtain ⟨G,last,neg,rfl,hB⟩:=hI;unfold AY9;dsimp only;rw [AT8];refine ATt (fun h=>?_) (fun h=>AGq ?_)
  ·have hk':k < n:=by omega
   refine AGw (Q:=fun ex=>match ex with | .inl e=>e=det n F | .inr (neg',a',last')=> ∃ G',a'=tab n n G'/\Aqf M F n (k + 1) G' last' neg') ?_ fun ex hex=>?_
   ·refine AGw (Q:=fun (e:Int)=> ∃ p:Nat,e=p/\k<=p/\p<=n/\(∀ i,k<=i->i < p->G i k=0)/\(p < n->G p k≠0)) (AGw (AT9 (fun j (s:Int)=>s=((k + j:Nat):Int)/\k + j<=n/\ ∀ i,k<=i->i < k + j->G i k=0) (n - k) (Q:=fun (e:Int)=> ∃ p:Nat,e=p/\k<=p/\p<=n/\(∀ i,k<=i->i < p->G i k=0)/\(p < n->G p k≠0)) ⟨rfl,AGi,fun i h1 h2=>by omega⟩ AGi fun j s hj hJ=>?_) fun e he=>AGq he) fun e he=>?_
    ·obtain ⟨rfl,hjn,hz⟩:=hJ;unfold AY6;rw [AT8];refine AGw (Q:=fun ex=>match ex with | .inl _=>k + j < n/\G (k + j) k=0 | .inr _=>k + j < n->G (k + j) k≠0) (ATt (fun h2=>ATu (AUc AGi) rfl (ATu (ATx AGi) rfl (AGw (AUe (a:=AYc (G (k + j) k)) rfl) fun sg hsg=>ATt (fun h3=>AGq ⟨AGi,?_⟩) fun h3=>AGq fun _=>?_))) fun h2=>AGq fun h3=>by omega) fun ex hex=>?_
     ·subst hsg;exact Axu.1 h3
     ·subst hsg;exact fun h4=>h3 (Axu.2 h4)
     ·cases ex with
      | inl u=>exact AGq ⟨AGi,by rw [wk AGi];omega,AGi,fun i h1 h2=>by
          rcases Nat.lt_or_ge i (k + j) with h3 | h3
          · exact hz i h1 h3
          · obtain rfl:i=k + j:=by omega
            exact hex.2⟩
      | inr u=>exact AGq ⟨k + j,rfl,AGi,hjn,hz,hex⟩
    ·obtain ⟨p,rfl,hkp,hpn,hz,hp⟩:=he;refine ATt (fun h2=>AGq ?_) (fun h2=>?_)
     ·obtain rfl:p=n:=by omega
      exact (A23 hB hk' hz).symm
     ·have hp':p < n:=by omega
      refine AGw (Q:=fun (r:Bool × List (List Int))=> ∃ G',r.2=tab n n G'/\Aqf M F n k G' last r.1/\G' k k≠0) (ATt (fun h3=>ATu (AUc AGi) rfl (ATu (AUc AGi) rfl (AGq ⟨AX3 G p k,?_,A21 hB AGi hp',?_⟩))) fun h3=>AGq ⟨G,rfl,hB,?_⟩) fun r hr=>?_
      ·dsimp only;rw [AU2,AU2];show ((tab n n G).set p (AVs n (G k))).set k (AVs n (G p))=_;rw [show AVs n (G k)=(List.range n).map (G k) from rfl,show AVs n (G p)=(List.range n).map (G p) from rfl,Aeu,Aeu];rfl
      ·rw [Ae8,if_pos rfl];exact hp hp'
      ·obtain rfl:p=k:=by omega
       exact hp hp'
      ·obtain ⟨Aq,a2⟩:=r;obtain ⟨G2,Ag,Af,hne⟩:=hr;dsimp only at Ag Af ⊢;subst Ag;have hlast:=A24 hM Af AGi;have habs:∀ i j,k<=i->i < n->k<=j->j < n->(G2 i j).natAbs<=dBd M (N + 1):=fun i j h1 h2 h3 h4=>Nat.le_trans (A53 hM Af hk' h1 h2 h3 h4).1 hD;have hl':last.natAbs<=dBd M (N + 1):=Nat.le_trans hlast.2 hD;rw [wk AGi];refine AGw (AT9 (fun i s=>s=(((k + 1 + i:Nat):Int),tab n n (bF k G2 last (k + 1 + i) (k + 1)))/\k + 1 + i<=n) (n - (k + 1)) (Q:=(· =tab n n (bF k G2 last n (k + 1)))) ⟨by rw [Nat.add_zero,Axr];simp,AGi⟩ AGi fun i s hi hI=>?_) fun a3 Ah=>?_
       ·obtain ⟨rfl,hin⟩:=hI;unfold AY8;dsimp only;rw [AT8];obtain ⟨q,hq⟩:∃ q,k + 1 + i=q:=⟨_,rfl⟩;rw [hq] at hin ⊢;refine ATt (fun h3=>?_) (fun h3=>AGq ?_)
        ·have hqn:q < n:=by omega
         rw [wk AGi];refine AGw (AT9 (fun j s=>s=(((k + 1 + j:Nat):Int),tab n n (bF k G2 last q (k + 1 + j)))/\k + 1 + j<=n) (n - (k + 1)) (Q:=(· =tab n n (bF k G2 last q n))) ⟨ATv,AGi⟩ AGi fun j s hj hJ=>?_) fun a4 Ai=>AGq ?_
         ·obtain ⟨rfl,hjn⟩:=hJ;unfold AY7;dsimp only;rw [AT8];obtain ⟨c,hc⟩:∃ c,k + 1 + j=c:=⟨_,rfl⟩;rw [hc] at hjn ⊢;refine ATt (fun h4=>?_) (fun h4=>AGq ?_)
          ·have hcn:c < n:=by omega
           refine ATu (AUc hqn) rfl (ATu (AUc hk') rfl (ATu (ATx hk') rfl (ATu (ATx hcn) rfl ?_)));rw [A1c,BAk];refine AGw (AUe (Aqg hG (habs _ _ AGi AGi AGi AGi) (habs _ _ AGi AGi AGi AGi))) fun x1 Aj=>ATu (ATx hk') rfl (ATu (ATx hcn) rfl ?_);subst Aj;rw [BAj,A1c];refine AGw (AUe (Aqg hG (habs _ _ AGi AGi AGi AGi) (habs _ _ AGi AGi AGi AGi))) fun x2 Ak=>?_;subst Ak;refine AGw (Q:=(· =G2 k k * G2 q c - G2 q k * G2 k c)) ⟨_,if_pos ⟨Auf hG (habs _ _ AGi AGi AGi AGi) (habs _ _ AGi AGi AGi AGi),Auf hG (habs _ _ AGi AGi AGi AGi) (habs _ _ AGi AGi AGi AGi)⟩,rfl⟩ fun x3 Am=>?_
           ·subst Am;refine AGw (Q:=(· =bQ k G2 last q c)) ?_ fun x4 Ao=>AGq ⟨AGi,?_,AGi⟩
            ·unfold AVw Apd;rw [if_pos ⟨A54 hG (habs _ _ AGi AGi AGi AGi) (habs _ _ AGi AGi AGi AGi) (habs _ _ AGi AGi AGi AGi) (habs _ _ AGi AGi AGi AGi),A82 hG hl',hlast.1⟩];exact ⟨_,rfl,rfl⟩
            ·subst Ao;rw [wk AGi,Ast,A51 k G2 last AGi AGi];congr 1
             ·omega
             ·rw [<- Nat.add_assoc,hc]
          ·obtain rfl:c=n:=by omega
           rfl
         ·subst Ai;refine ⟨AGi,?_,AGi⟩;rw [wk AGi];congr 1
          ·omega
          ·refine Af0 fun r c hr hc=>?_;rw [A50 k n G2 last q hc,<- Nat.add_assoc,hq]
        ·obtain rfl:q=n:=by omega
         rfl
       ·subst Ah;refine ATu (AUc hk') rfl (ATu (ATx hk') rfl (AGq ⟨_,rfl,?_⟩));rw [A1c];exact A22 Af hk' hne
   ·match ex,hex with
    | .inl e,hex=>exact AGq hex
    | .inr (neg',a',last'),hex=>
      obtain ⟨G',rfl,hB'⟩:=hex
      exact AGq ⟨hk',G',last',neg',by rw [wk AGi];rfl,hB'⟩
  ·obtain rfl:k=n:=by omega
   exact A52 hB
 ·match ex,hex with
  | .inl e,hex=>exact AGq hex
  | .inr (neg,last),hex=>
    dsimp only at hex ⊢
    rw [hex]
    refine ATt (fun h=>AGw (AUe (a:= -last) rfl) fun x hx=>AGq ?_) (fun h=>AGq ?_)
    · rw [hx,h];rfl
    · rw [if_neg h]
def AZa:Nat:=2 ^ 100
theorem A1e:2 * (dBd AZa (8 + 1) * dBd AZa (8 + 1)) < AW5:=by decide
theorem Ape {fuel n:Nat} {F:AS5} (hn:n<=8) (hb:∀ i j,i < n->j < n->(F i j).natAbs<=AZa) (hf:17 < fuel):AUl fuel (tab n n F)=some (det n F):=by
 have e1:tab n n F=tab n n fun i j=>if i < n/\j < n then F i j else 0:=by
   rw [Ahw,Ahw]
   exact AUf fun i hi=>AUf fun j hj=>by rw [if_pos ⟨hi,hj⟩]
 have e2:det n F=det n fun i j=>if i < n/\j < n then F i j else 0:=AUm fun i j hi hj=>by rw [if_pos ⟨hi,hj⟩]
 rw [e1,e2];refine A83 AGk A1e hn AGi (fun i j=>?_) hf;split
 ·next h=>exact hb i j h.1 h.2
 ·exact Nat.zero_le _
theorem A84:FdT Tryz.prog 24 0 0 5:=⟨_,_,Tryz.underlying24,rfl,rfl,rfl⟩
theorem A85:FdT Tryz.prog 24 1 1 5:=⟨_,_,Tryz.underlying24,rfl,rfl,rfl⟩
theorem A86:FdT Tryz.prog 24 2 2 22:=⟨_,_,Tryz.underlying24,rfl,rfl,rfl⟩
theorem A55:AgT Tryz.prog 24 4:=Amw Tryz.underlying24 rfl AGx
end Go.Proofs.YthbndcbclhkepaaGreatDoor
namespace Go.Proofs.YthbndcbclhkepaaGreatDoor
open Go Go.QF
set_option maxRecDepth 100000
set_option maxHeartbeats 4000000
def AW9 (fuel:Nat) (a1:Int) (a5:LiA) (Ac Aa Ad:Int) (Ae:LiI):Option ((Int × Int × LiI) ⊕ ((Int × LiI))):=
  (if Aa < ((List.replicate (Int.toNat (w64 (1 + (Int.tmod (w64 a1) Ac)))) ([]:List Int)).length:Int) then (if 0<=(w64 (1 + (Int.tmod (w64 a1) Ac)))/\(w64 (1 + (Int.tmod (w64 a1) Ac)))<=100000000 then ((gI Ae Aa).bind fun Ao=>((gI (sI Ae Aa (List.replicate (Int.toNat (w64 (1 + (Int.tmod (w64 a1) Ac)))) (0:Int))) Aa).bind fun Ag=>(((((if (a5.length:Int)<=Ad then (some ( (0,Ad))) else ((gI a5 (w64 ((w64 (Ad + 1)) - 1))).bind fun Ah=>(some ( ((w64 Ah),(w64 (Ad + 1))))))):Option (Int × Int)).bind fun (Ai,Aj)=>(some ( ((Int.tmod (w64 (IntKind.wrap .u8 Ai)) 6),Aj)))):Option (Int × Int)).bind fun (Ak,Am)=>((gI Ag Aa).bind fun Ap=>(some (Sum.inl ((w64 (Aa + 1)),Am,(sI (sI Ae Aa (List.replicate (Int.toNat (w64 (1 + (Int.tmod (w64 a1) Ac)))) (0:Int))) Aa (sI Ag Aa (w64 (1 + Ak))))))))))) else none) else (some (Sum.inr<| (Ad,Ae))))
def AZb (fuel:Nat) (a5:LiA) (Ab Aa Ac:Int) (Ad:LiI):Option ((Int × Int × LiI) ⊕ ((Int × LiI))):=
  (if Aa < Ab then ((gI Ad Ab).bind fun Ae=>(((if (a5.length:Int)<=Ac then (some ( (0,Ac))) else ((gI a5 (w64 ((w64 (Ac + 1)) - 1))).bind fun Ai=>(some ( ((w64 Ai),(w64 (Ac + 1))))))):Option (Int × Int)).bind fun (Af,Aj)=>((gI Ae Aa).bind fun Ao=>((gI (sI Ad Ab (sI Ae Aa (Int.tmod Af 3))) Aa).bind fun Ah=>((gI (sI Ad Ab (sI Ae Aa (Int.tmod Af 3))) Ab).bind fun Ak=>((gI Ak Aa).bind fun Am=>((gI Ah Ab).bind fun Ap=>(some (Sum.inl ((w64 (Aa + 1)),Aj,(sI (sI Ad Ab (sI Ae Aa (Int.tmod Af 3))) Aa (sI Ah Ab Am)))))))))))) else (some (Sum.inr<| (Ac,Ad))))
def AXa (fuel:Nat) (a5:LiA) (Ae:LiI) (Aa Ab:Int) (Ac:LiI):Option ((Int × Int × LiI) ⊕ ((Int × LiI))):=
  (if Aa < (Ae.length:Int) then ((iter (fun s=>AZb fuel a5 Aa s.1 s.2.1 s.2.2) fuel (0,Ab,Ac)).bind (fun ((Af,Ag):Int × LiI)=>(some (Sum.inl ((w64 (Aa + 1)),Af,Ag))))) else (some (Sum.inr<| (Ab,Ac))))
def AWu (fuel:Nat) (a1:Int) (a5:LiA) (Ac Aa Ad:Int) (Ae:LiI):Option ((Int × Int × LiI) ⊕ ((Int × LiI))):=
  (if Aa < ((List.replicate (Int.toNat (w64 (1 + (Int.tmod (w64 a1) Ac)))) ([]:List Int)).length:Int) then (if 0<=(w64 (1 + (Int.tmod (w64 a1) Ac)))/\(w64 (1 + (Int.tmod (w64 a1) Ac)))<=100000000 then ((gI Ae Aa).bind fun Ao=>((gI (sI Ae Aa (List.replicate (Int.toNat (w64 (1 + (Int.tmod (w64 a1) Ac)))) (0:Int))) Aa).bind fun Ag=>(((((if (a5.length:Int)<=Ad then (some ( (0,Ad))) else ((gI a5 (w64 ((w64 (Ad + 1)) - 1))).bind fun Ah=>(some ( ((w64 Ah),(w64 (Ad + 1))))))):Option (Int × Int)).bind fun (Ai,Aj)=>(some ( ((Int.tmod (w64 (IntKind.wrap .u8 Ai)) 9),Aj)))):Option (Int × Int)).bind fun (Ak,Am)=>((gI Ag Aa).bind fun Ap=>(some (Sum.inl ((w64 (Aa + 1)),Am,(sI (sI Ae Aa (List.replicate (Int.toNat (w64 (1 + (Int.tmod (w64 a1) Ac)))) (0:Int))) Aa (sI Ag Aa (w64 (1 + Ak))))))))))) else none) else (some (Sum.inr<| (Ad,Ae))))
def AWv (fuel:Nat) (a1:Int) (a5:LiA) (Ac Aa Ad:Int) (Ae:LiI):Option ((Int × Int × LiI) ⊕ ((Int × LiI))):=
  (if Aa < ((List.replicate (Int.toNat (w64 (1 + (Int.tmod (w64 a1) Ac)))) ([]:List Int)).length:Int) then (if 0<=(w64 (1 + (Int.tmod (w64 a1) Ac)))/\(w64 (1 + (Int.tmod (w64 a1) Ac)))<=100000000 then ((gI Ae Aa).bind fun Ao=>((gI (sI Ae Aa (List.replicate (Int.toNat (w64 (1 + (Int.tmod (w64 a1) Ac)))) (0:Int))) Aa).bind fun Ag=>(((((if (a5.length:Int)<=Ad then (some ( (0,Ad))) else ((gI a5 (w64 ((w64 (Ad + 1)) - 1))).bind fun Ah=>(some ( ((w64 Ah),(w64 (Ad + 1))))))):Option (Int × Int)).bind fun (Ai,Aj)=>(some ( ((Int.tmod (w64 (IntKind.wrap .u8 Ai)) 1),Aj)))):Option (Int × Int)).bind fun (Ak,Am)=>((gI Ag Aa).bind fun Ap=>(some (Sum.inl ((w64 (Aa + 1)),Am,(sI (sI Ae Aa (List.replicate (Int.toNat (w64 (1 + (Int.tmod (w64 a1) Ac)))) (0:Int))) Aa (sI Ag Aa (w64 (1 + Ak))))))))))) else none) else (some (Sum.inr<| (Ad,Ae))))
def AWw (fuel:Nat) (a1:Int) (a5:LiA) (Ac Aa Ad:Int) (Ae:LiI):Option ((Int × Int × LiI) ⊕ ((Int × LiI))):=
  (if Aa < ((List.replicate (Int.toNat (w64 (1 + (Int.tmod (w64 a1) Ac)))) ([]:List Int)).length:Int) then (if 0<=(w64 (1 + (Int.tmod (w64 a1) Ac)))/\(w64 (1 + (Int.tmod (w64 a1) Ac)))<=100000000 then ((gI Ae Aa).bind fun Ao=>((gI (sI Ae Aa (List.replicate (Int.toNat (w64 (1 + (Int.tmod (w64 a1) Ac)))) (0:Int))) Aa).bind fun Ag=>(((((if (a5.length:Int)<=Ad then (some ( (0,Ad))) else ((gI a5 (w64 ((w64 (Ad + 1)) - 1))).bind fun Ah=>(some ( ((w64 Ah),(w64 (Ad + 1))))))):Option (Int × Int)).bind fun (Ai,Aj)=>(some ( ((Int.tmod (w64 (IntKind.wrap .u8 Ai)) 2),Aj)))):Option (Int × Int)).bind fun (Ak,Am)=>((gI Ag Aa).bind fun Ap=>(some (Sum.inl ((w64 (Aa + 1)),Am,(sI (sI Ae Aa (List.replicate (Int.toNat (w64 (1 + (Int.tmod (w64 a1) Ac)))) (0:Int))) Aa (sI Ag Aa (w64 (1 + Ak))))))))))) else none) else (some (Sum.inr<| (Ad,Ae))))
def AWm (fuel:Nat) (a1 a2:Int) (a5 a9:LiA) (Aa:Int):Option LiI:=
  (if Aa≠0 then (((((if (Int.tmod a2 8)=0 then (some ( (decide ((Int.tmod a2 8)=0)))) else (if (Int.tmod a2 8)=1 then (some ( (decide ((Int.tmod a2 8)=1)))) else (if (Int.tmod a2 8)=2 then (some ( (decide ((Int.tmod a2 8)=2)))) else (some ( (decide ((Int.tmod a2 8)=3))))))):Option ((Bool))).bind (fun (Ak:Bool)=>(if Ak=true then (((((if 0<=(w64 (1 + (Int.tmod (w64 a1) Aa)))/\(w64 (1 + (Int.tmod (w64 a1) Aa)))<=100000000 then ((iter (fun s=>AW9 fuel a1 a5 Aa s.1 s.2.1 s.2.2) fuel (0,0,(List.replicate (Int.toNat (w64 (1 + (Int.tmod (w64 a1) Aa)))) ([]:List Int)))).bind (fun ((Am,Ao):Int × LiI)=>(some ( (Ao,Am))))) else none):Option (LiI × Int)).bind fun (Ae,Ap)=>((iter (fun s=>AXa fuel a5 Ae s.1 s.2.1 s.2.2) fuel (0,Ap,Ae)).bind (fun ((Aq,Ar):Int × LiI)=>(some ( (Ar,Aq)))))):Option (LiI × Int)).bind fun (Au,Av)=>(some ( (Au,Av)))) else (if (Int.tmod a2 8)=4 then ((AX8 fuel (w64 (1 + (Int.tmod (w64 a1) Aa))) false).bind fun Af=>((gI Af 0).bind fun Ag=>((gI Ag 0).bind fun Aw=>(((((if (a5.length:Int)<=0 then (some ( (0,0))) else ((gI a5 (w64 ((w64 (0 + 1)) - 1))).bind fun Ax=>(some ( ((w64 Ax),(w64 (0 + 1))))))):Option (Int × Int)).bind fun (Ay,Az)=>(some ( ((Int.tmod (w64 (IntKind.wrap .u8 Ay)) 3),Az)))):Option (Int × Int)).bind fun (A3,A4)=>(some ( ((sI Af 0 (sI Ag 0 (w64 (Aw + A3)))),A4))))))) else (if (Int.tmod a2 8)=5 then ((AX8 fuel (w64 (1 + (Int.tmod (w64 a1) Aa))) true).bind fun Ah=>((gI Ah (w64 ((w64 (1 + (Int.tmod (w64 a1) Aa))) - 1))).bind fun Ai=>((gI Ai (w64 ((w64 (1 + (Int.tmod (w64 a1) Aa))) - 1))).bind fun A5=>(((((if (a5.length:Int)<=0 then (some ( (0,0))) else ((gI a5 (w64 ((w64 (0 + 1)) - 1))).bind fun A6=>(some ( ((w64 A6),(w64 (0 + 1))))))):Option (Int × Int)).bind fun (A7,A8)=>(some ( ((Int.tmod (w64 (IntKind.wrap .u8 A7)) 2),A8)))):Option (Int × Int)).bind fun (A9,Ba)=>(some ( ((sI Ah (w64 ((w64 (1 + (Int.tmod (w64 a1) Aa))) - 1)) (sI Ai (w64 ((w64 (1 + (Int.tmod (w64 a1) Aa))) - 1)) (w64 (A5 + A9)))),Ba))))))) else (if (Int.tmod a2 8)=6 then (((if 0<=(w64 (1 + (Int.tmod (w64 a1) Aa)))/\(w64 (1 + (Int.tmod (w64 a1) Aa)))<=100000000 then ((iter (fun s=>AWu fuel a1 a5 Aa s.1 s.2.1 s.2.2) fuel (0,0,(List.replicate (Int.toNat (w64 (1 + (Int.tmod (w64 a1) Aa)))) ([]:List Int)))).bind (fun ((Bb,Bc):Int × LiI)=>(some ( (Bc,Bb))))) else none):Option (LiI × Int)).bind fun (Be,Bf)=>(some ( (Be,Bf)))) else (((if 0<=(w64 (1 + (Int.tmod (w64 a1) Aa)))/\(w64 (1 + (Int.tmod (w64 a1) Aa)))<=100000000 then ((iter (fun s=>AWv fuel a1 a5 Aa s.1 s.2.1 s.2.2) fuel (0,0,(List.replicate (Int.toNat (w64 (1 + (Int.tmod (w64 a1) Aa)))) ([]:List Int)))).bind (fun ((Bg,Bh):Int × LiI)=>(some ( (Bh,Bg))))) else none):Option (LiI × Int)).bind fun (Bi,Bj)=>(some ( (Bi,Bj)))))))))):Option ((LiI × Int))).bind (fun ((Aj,Bl):LiI × Int)=>((AZ9 fuel Aj).bind fun Bm=>(if (!Bm)=true then (((if 0<=(w64 (1 + (Int.tmod (w64 a1) Aa)))/\(w64 (1 + (Int.tmod (w64 a1) Aa)))<=100000000 then ((iter (fun s=>AWw fuel a1 a5 Aa s.1 s.2.1 s.2.2) fuel (0,Bl,(List.replicate (Int.toNat (w64 (1 + (Int.tmod (w64 a1) Aa)))) ([]:List Int)))).bind (fun ((Bn,Bo):Int × LiI)=>(some ( (Bo,Bn))))) else none):Option (LiI × Int)).bind fun (Bp,Br)=>(some Bp)) else (some Aj))))) else none)
theorem Ahh {fuel:Nat} {h:AGt} {a1 a2:Int} {Ab:Value} {a5:LiA} {B6:Value} {a9:LiA} {Am:Int} {r:LiI} (H4:SlC (cI .i8) h Ab a5) (H8:SlC (cI .i8) h B6 a9) (hp:AWm fuel a1 a2 a5 a9 Am=some r):ATs Tryz.prog 24 #[(.agg #[(.int .u8 a1),(.int .u8 a2),Ab,B6]),(.int .i64 Am)] h (fun x h'=>Ext h h'/\ ∃ (x0:Value) (F0:List Nat) (Hf:List LnA) (Hg:List Value),x=x0/\AVt (cI .i64) 49 2 h' F0 Hf Hg x0 r/\Sp h' h.size [F0]):=by
 unfold AWm at hp;refine cwf (l:=[_,_]) Tryz.func24 rfl rfl (AGm (AYy (Kst.k0 h) [(.int .u8 a1),(.int .u8 a2),Ab,B6] fun Tu Tv Tw B7=>ATw (AUs A86 Aiz (B7.b p0) 2 rfl ?_)));obtain ⟨_,_,_,Hh⟩:=(H4.ext B7.x).shape;refine AV6 (v:=(.agg #[Ab,(.int .i64 0)])) (fun _=>by subst Hh;kernel_rfl) (AYy B7 [Ab,(.int .i64 0)] fun Aa Tx Ty Ax=>ATw (AUs A84 BAb (Ax.b p1) 0 rfl (Aes Akv Alj rfl (AGj ?_))));obtain ⟨Hj,Hk⟩:=ifN hp;refine Acw rfl rfl Hj (ATk rfl rfl (ATw (AGu ?_)));obtain ⟨Hl,Hm,Dy⟩:=AGn Hk;refine Acg 147573952589676150912 (fun x:(LiI) × (Value) × LnA × LnN × LvA × (Int)=>[(7,x.2.1)]) (fun x h'=>( (x.1,x.2.2.2.2.2))=Hl/\Kst h h' (aO2 (cI .i64) 49 2 x.2.2.1 x.2.2.2.1 x.2.2.2.2.1 x.2.1 x.1 :: ((AYv Ax.L [0]).set 0 (aB 109 Aa [Ab,(.int .i64 x.2.2.2.2.2)])))) ?_ ?_
 ·refine AGm (AUs A85 BAb (Ax.b p1) 1 rfl (Acw rfl rfl AGk (AGr (AGp ?_))));obtain ⟨Hn,Dz,B8⟩:=AGn Hm;refine Acg 520093696 (fun x:(Bool)=>[(24,(.bool x))]) (fun x h'=>( x)=Hn/\Kst h h' (AYv Ax.L [0])) ?_ ?_
  ·refine AGm (AUy rfl rfl (AGu (⟨_,rfl,fun B9=>?_,fun B9=>?_⟩)))
   ·refine AGy (q_t ?_);exact ⟨((decide ((Int.tmod a2 8)=0)):(Bool)),⟨AGl (ATy Dz B9),Ax.sel [0] AGk⟩,rfl,trivial⟩
   ·refine AGm (AUy rfl rfl (AGu ?_));have D0:=ATz Dz B9;refine ⟨_,rfl,fun Ca=>?_,fun Ca=>?_⟩
    ·refine AGy (q_t ?_);exact ⟨((decide ((Int.tmod a2 8)=1)):(Bool)),⟨AGl (ATy D0 Ca),Ax.sel [0] AGk⟩,rfl,trivial⟩
    ·refine AGm (AUy rfl rfl (AGu ?_));have D1:=ATz D0 Ca;refine ⟨_,rfl,fun Cb=>?_,fun Cb=>?_⟩
     ·refine AGy (q_t ?_);exact ⟨((decide ((Int.tmod a2 8)=2)):(Bool)),⟨AGl (ATy D1 Cb),Ax.sel [0] AGk⟩,rfl,trivial⟩
     ·refine AS3 (AUy rfl rfl (AGu ?_));exact ⟨((decide ((Int.tmod a2 8)=3)):(Bool)),⟨AGl (ATz D1 Cb),Ax.sel [0] AGk⟩,rfl,trivial⟩
  rintro Ho Hq Hr ⟨Hs,Ao⟩;(try dsimp only [Kst.L,List.set,AYv,Ab8] at Ao);refine (show W _ _ _ (setL [(24,(.bool Ho))] (mix _ Hq _)) Hr from ?_);subst Hs;(try dsimp only at B8);refine ⟨_,rfl,fun Cd=>?_,fun Cd=>?_⟩
  ·refine AS3 (AGj (AGj ?_));obtain ⟨Ht,Hu,D2⟩:=AGn (ifT B8 Cd);refine ATd (K':=(fun xr h'=> ∃ x:(LiI) × (Value) × LnA × LnN × LvA × (Int),(x.1,x.2.2.2.2.2)=Ht/\xr=x.2.1/\Kst h h' (aO2 (cI .i64) 49 2 x.2.2.1 x.2.2.2.1 x.2.2.2.2.1 x.2.1 x.1 :: (Ao.L.set 0 (aB 109 Aa [Ab,(.int .i64 x.2.2.2.2.2)]))))) trivial rfl ?_ fun D3 Tz Hv=>?_
   ·refine cwf (l:=[_,_]) Tryz.func59 rfl rfl (AGm (ATw (AGj (AGj ?_))));obtain ⟨Hw,Hx,D4⟩:=AGn Hu;refine ATd (K':=(fun xr h'=> ∃ x:(LiI) × (Value) × LnA × LnN × LvA × (Int),(x.1,x.2.2.2.2.2)=Hw/\xr=x.2.1/\Kst h h' (aO2 (cI .i64) 49 2 x.2.2.1 x.2.2.2.1 x.2.2.2.2.1 x.2.1 x.1 :: (Ao.L.set 0 (aB 109 Aa [Ab,(.int .i64 x.2.2.2.2.2)]))))) trivial rfl ?_ fun Ba T0 Hy=>?_
    ·refine cwf (l:=[_,_,_]) Tryz.func62 rfl rfl (AGm (ATw (AGj ?_)));obtain ⟨Hz,Ia⟩:=ifN Hx;refine Aj1 (cI .i64) 2 ATb Aff rfl trivial tt2 rfl rfl AGk Hz fun Ib Ic Id D5 T3 Ie If Ih=>AGu (AGo (AGm (AGj ?_)));have Ce:=Ao.no2 If Ih Ie;refine AT4 ATb rfl (Ce.o2 p0).rd (AGj (AGr (AGp (AX6 4294959360 (fun x:(Int) × (Int) × (LiI) × LnA × LnN × LvA=>(x.1,x.2.1,x.2.2.1)) ((0,0,(List.replicate (Int.toNat (w64 (1 + (Int.tmod (w64 a1) Am)))) ([]:List Int)),Ib,Ic,Id):(Int) × (Int) × (LiI) × LnA × LnN × LvA) Ia (fun x=>[(13,(.int .i64 x.1))]) (fun x=>(Ce.L.set 0 (aO2 (cI .i64) 49 2 x.2.2.2.1 x.2.2.2.2.1 x.2.2.2.2.2 D5 x.2.2.1)).set 1 (aB 109 Aa [Ab,(.int .i64 x.2.1)])) Ce ⟨rfl,trivial⟩ ?_))));rintro ⟨Cf,Bb,Ii,Ij,Ik,Il⟩ Im Io T4 Cg Bc Ip;(try dsimp only [Kst.L,List.set,AYv,Ab8] at Cg);refine (show W _ _ _ (setL [(13,(.int .i64 Cf))] (mix _ Im _)) Io from ?_);(try dsimp only at Bc);unfold AW9 at Bc;refine AGm (ATl rfl rfl (AGr (AGo (⟨_,rfl,fun Ch=>?_,fun Ch=>?_⟩))))
     ·refine AGy (q_t (AGo (AGp (AGm (AGj (ATw (AGj (AGj (AGj ?_)))))))));obtain ⟨Iq,Ir⟩:=ifN (ATy Bc Ch);refine Ai3 (c:=(cI .i64)) (a:=0) AS9 Acy rfl rfl (fun _=>rfl) rfl trivial tt2 rfl rfl AGk Iq fun T5 T6 T7 Is It Iu Iv=>?_;have A3:=Cg.no It (AX2 Iu Iv) Is;obtain ⟨T8,D6,Iw⟩:=AGn Ir;refine AVf ATb rfl (A3.o2 p1) rfl D6 fun T9 Ua Ix Ub Uc=>Aj0 ATq (A3.o2 p1) D6 Ix rfl rfl (A3.o p0) (A3.dj p0 p1 AGk) fun Ap Iy Iz I0=>AGr (AVa (fun h'=>UpT ([Aa] ++ []) Ap h') AGx ?_);have Af:=A3.m2 p0 p1 AGk Iz Iy (fun z hz=> .inl (I0 z hz));have Ci:UpT ([Aa] ++ []) Ap Ap:=UpT.start (AVn (AYf (Af.b p2) rfl) all_nil);refine AGj (AGj ?_);obtain ⟨Ud,Cj,I1⟩:=AGn Iw;refine AVf ATb rfl (Af.o2 p1) rfl Cj fun Ue Uf I2 I3 I5=>AU1 ATq rfl Ci (fun h' hb=>Aeb I5 hb (Akj (Af.dj p1 p2 AGk _ (by simp [aO,aO2,I2])) Akk)) (AGj (AGj (AGj ?_)));obtain ⟨I6,I7,D7⟩:=AGn I1;have I9:UpT ([Aa] ++ []) Ap Ap:=UpT.start (AVn (AYf (Af.b p2) rfl) all_nil);refine ATd (K':=(fun xr h'=> ∃ x:(Int) × (Int),(x.1,x.2)=I6/\xr=(.int .i64 x.1)/\Kst h h' ((AYv Af.L [1,2]).set 1 (aB 109 Aa [Ab,(.int .i64 x.2)]))/\UpT ([Aa] ++ []) Ap h')) Ci rfl ?_ fun Ug Uh Ja=>?_
      ·refine cwf (l:=[_,_]) Tryz.func61 rfl rfl (AGm (ATw (AGj ?_)));obtain ⟨Jc,D8,D9⟩:=AGn I7;have Ea:UpT ([Aa] ++ []) Ap Ap:=UpT.start (AVn (AYf (Af.b p2) rfl) all_nil);refine ATd (K':=(fun xr h'=> ∃ x:(Int) × (Int),(x.1,x.2)=Jc/\xr=(.int .i64 x.1)/\Kst h h' ((AYv Af.L [1,2]).set 1 (aB 109 Aa [Ab,(.int .i64 x.2)]))/\UpT ([Aa] ++ []) Ap h')) trivial rfl ?_ fun Ui Uj Je=>?_
       ·refine cwf (l:=[_]) Tryz.func112 rfl rfl (AGm (AGu (AGo (AGo (AXr (AGj (AUt rfl (AVu AVq rfl (AT3 AT1 rfl ((Af.b p2).cell (i:=1) rfl) (AGj (AUt rfl (AVu Ab7 rfl (AT3 Aiz rfl ((Af.b p2).cell (i:=0) rfl) (AUp Ajw rfl H4 (Agp rfl rfl (AGr (⟨_,rfl,fun Ck=>?_,fun Ck=>?_⟩)))))))))))))))))
        ·refine AGm (AGu (AGz (ATc (⟨_,AS2,((0,Bb):(Int) × (Int)),?_,rfl,?_,?_⟩))))
         ·exact AGl (ATy D8 Ck)
         ·exact Af.sel [1,2] AGk
         ·exact Ea
        ·refine AGy (q_t (AGm (AGj (AUt rfl (AVu AVq rfl (AT3 AT1 rfl ((Af.b p2).cell (i:=1) rfl) (ATk rfl rfl (AUt rfl (AVu AVq rfl (Ag8 [Ab,(.int .i64 (w64 (Bb + 1)))] AT1 rfl rfl rfl (Af.b p2) (Nat.le_of_ble_eq_true rfl) rfl fun Uk Eb Ec=>AGr (AGo (AXr (AGj (AUt rfl (AVu Ab7 rfl ?_)))))))))))))));have Be:=Af.sb p2 Ec Eb rfl;refine AT3 Aiz rfl ((Be.b p2).cell (i:=0) rfl) (AGj (AUt rfl (AVu AVq rfl (AT3 AT1 rfl ((Be.b p2).cell (i:=1) rfl) (AVd rfl rfl ?_)))));obtain ⟨Jf,Jg,Jh⟩:=AGn (ATz D8 Ck);refine Adl (c:=(cI .i8)) Ajw rfl H4 rfl Jg fun Ul Um Un Ji Jj=>?_;obtain rfl:=Ji;refine AT3 Ar2 rfl (ATo (Jj 0 _ rfl) Be.x) (Aes Ar3 Ado rfl (AGu (AGz (⟨_,AS2,(((w64 Jf),(w64 (Bb + 1))):(Int) × (Int)),?_,rfl,?_,?_⟩))))
         ·exact AGl Jh
         ·exact Be.sel [1,2] AGk
         ·exact (Ea.then (Eb.stA Ec (AYf (Af.b p2) rfl) rfl) (Afa rfl))
       obtain ⟨⟨Jk,Jl⟩,Jm,rfl,Ed,Jn⟩:=Je;(try dsimp only [Kst.L,List.set,AYv,Ab8] at Ed);refine ⟨trivial,?_⟩;subst Jm;(try dsimp only at D9);refine Aes Ado Akv rfl (Aes Akv Alj rfl (AGj (Acw rfl rfl AGk (AGu (AGz (⟨_,AS2,(((Int.tmod (w64 (IntKind.wrap .u8 Jk)) 6),Jl):(Int) × (Int)),?_,rfl,?_,?_⟩))))))
       ·exact AGl D9
       ·exact Ed
       ·exact (I9.then Jn (AVn (Afa rfl) all_nil))
      obtain ⟨⟨Jo,Uo⟩,Jp,rfl,Cm,Jq⟩:=Ja;(try dsimp only [Kst.L,List.set,AYv,Ab8] at Cm);refine ⟨(Ci.then Jq (AVn (Afa rfl) all_nil)),?_⟩;subst Jp;(try dsimp only at D7);refine ATk rfl rfl ?_;obtain ⟨Up,Ee,Jr⟩:=AGn D7;refine AWo (m:=Cf) AS9 rfl (Af.o2 p1) I3 Cj rfl Ee fun Uq Js=>Adt (m:=Cf) (Ads ATe rfl rfl rfl) (Cm.o2 p0) Js Cj Ee (show ((cI .i64)).rep _ (w64 (1 + Jo)) _ from rfl) fun Ur Jt Ju=>ATh (q_b (q_t (AS3 (ATk rfl rfl (AGj (AGr ?_))))));exact ⟨(_,_,_,_,_,_),(AGl Jr).symm,(Cm.uO2 p0 Ju Jt),rfl,trivial⟩
     ·have Ef:=Ip _ (AGl (ATz Bc Ch)).symm;(try dsimp only at Ef);refine AS8 (ATa (ATa (AT7 (q_t (AGm (AGj (AGu (AGz (⟨_,AS2,((Ii,D5,Ij,Ik,Il,Bb):(LiI) × (Value) × LnA × LnN × LvA × (Int)),?_,rfl,?_⟩)))))))))
      ·exact AGl Ef
      ·exact Cg
    obtain ⟨⟨Jv,Ba,Jw,Jx,Jy,Jz⟩,J0,rfl,Bf⟩:=Hy;(try dsimp only [Kst.L,List.set,AYv,Ab8] at Bf);refine ⟨trivial,?_⟩;subst J0;(try dsimp only at D4);refine AGu (AGo (AGm (AGj (AT4 ATb rfl (Bf.o2 p0).rd (AGj (AGr (AGp (AX6 17592186036416 (fun x:(Int) × (Int) × (LiI) × LnA × LnN × LvA=>(x.1,x.2.1,x.2.2.1)) ((0,Jz,Jv,Jw,Jx,Jy):(Int) × (Int) × (LiI) × LnA × LnN × LvA) D4 (fun x=>[(13,(.int .i64 x.1))]) (fun x=>(Bf.L.set 0 (aO2 (cI .i64) 49 2 x.2.2.2.1 x.2.2.2.2.1 x.2.2.2.2.2 Ba x.2.2.1)).set 1 (aB 109 Aa [Ab,(.int .i64 x.2.1)])) Bf ⟨rfl,trivial⟩ ?_))))))));rintro ⟨Bg,Eg,Eh,Ei,Ej,Ek⟩ J1 J2 Us Bh Bi J3;(try dsimp only [Kst.L,List.set,AYv,Ab8] at Bh);refine (show W _ _ _ (setL [(13,(.int .i64 Bg))] (mix _ J1 _)) J2 from ?_);(try dsimp only at Bi);unfold AXa at Bi;refine AGm (ATl rfl rfl (AGr (AGo (⟨_,rfl,fun Cn=>?_,fun Cn=>?_⟩))))
    ·refine AGy (q_t (AGo (AGp (AGm (AGj (ATw (AGu (AGp (AX6 8796092956800 (fun x:(Int) × (Int) × (LiI) × LnA × LnN × LvA=>(x.1,x.2.1,x.2.2.1)) ((0,Eg,Eh,Ei,Ej,Ek):(Int) × (Int) × (LiI) × LnA × LnN × LvA) (ATy Bi Cn) (fun x=>[(7,(.int .i64 x.1))]) (fun x=>(Bh.L.set 0 (aO2 (cI .i64) 49 2 x.2.2.2.1 x.2.2.2.2.1 x.2.2.2.2.2 Ba x.2.2.1)).set 1 (aB 109 Aa [Ab,(.int .i64 x.2.1)])) Bh ⟨rfl,trivial⟩ ?_)))))))));rintro ⟨El,Co,Ut,Uu,Uv,Uw⟩ J4 Az Ux Ag Bj J5;(try dsimp only [Kst.L,List.set,AYv,Ab8] at Ag);refine (show W _ _ _ (setL [(7,(.int .i64 El))] (mix _ J4 _)) Az from ?_);(try dsimp only at Bj);unfold AZb at Bj;refine AGo (AGm (AGj (AGj (ATl rfl rfl (AGr (⟨_,rfl,fun Cp=>?_,fun Cp=>?_⟩))))))
     ·refine AGy (q_t (AGo (AGp (AGo (AVa (fun h'=>UpT ([Aa] ++ []) Az h') AGx ?_)))));have Cq:UpT ([Aa] ++ []) Az Az:=UpT.start (AVn (AYf (Ag.b p1) rfl) all_nil);refine AGj (AGj ?_);obtain ⟨Uy,Cr,J6⟩:=AGn (ATy Bj Cp);refine AVf ATb rfl (Ag.o2 p0) rfl Cr fun Uz U0 J7 J8 J9=>AU1 ATq rfl Cq (fun h' hb=>Aeb J9 hb (Akj (Ag.dj p0 p1 AGk _ (by simp [aO,aO2,J7])) Akk)) (AGj (AGj ?_));obtain ⟨Ka,Em,En⟩:=AGn J6;have Eo:UpT ([Aa] ++ []) Az Az:=UpT.start (AVn (AYf (Ag.b p1) rfl) all_nil);refine ATd (K':=(fun xr h'=> ∃ x:(Int) × (Int),(x.1,x.2)=Ka/\xr=(.int .i64 x.1)/\Kst h h' (Ag.L.set 1 (aB 109 Aa [Ab,(.int .i64 x.2)]))/\UpT ([Aa] ++ []) Az h')) Cq rfl ?_ fun U3 U8 Kb=>?_
      ·refine cwf (l:=[_]) Tryz.func112 rfl rfl (AGm (AGu (AGo (AGo (AXr (AGj (AUt rfl (AVu AVq rfl (AT3 AT1 rfl ((Ag.b p1).cell (i:=1) rfl) (AGj (AUt rfl (AVu Ab7 rfl (AT3 Aiz rfl ((Ag.b p1).cell (i:=0) rfl) (AUp Ajw rfl H4 (Agp rfl rfl (AGr (⟨_,rfl,fun Ct=>?_,fun Ct=>?_⟩)))))))))))))))))
       ·refine AGm (AGu (AGz (ATc (⟨_,AS2,((0,Co):(Int) × (Int)),?_,rfl,?_,?_⟩))))
        ·exact AGl (ATy Em Ct)
        ·exact Ag
        ·exact Eo
       ·refine AGy (q_t (AGm (AGj (AUt rfl (AVu AVq rfl (AT3 AT1 rfl ((Ag.b p1).cell (i:=1) rfl) (ATk rfl rfl (AUt rfl (AVu AVq rfl (Ag8 [Ab,(.int .i64 (w64 (Co + 1)))] AT1 rfl rfl rfl (Ag.b p1) (Nat.le_of_ble_eq_true rfl) rfl fun Va Ep Er=>AGr (AGo (AXr (AGj (AUt rfl (AVu Ab7 rfl ?_)))))))))))))));have Bl:=Ag.sb p1 Er Ep rfl;refine AT3 Aiz rfl ((Bl.b p1).cell (i:=0) rfl) (AGj (AUt rfl (AVu AVq rfl (AT3 AT1 rfl ((Bl.b p1).cell (i:=1) rfl) (AVd rfl rfl ?_)))));obtain ⟨Kc,Kd,Ke⟩:=AGn (ATz Em Ct);refine Adl (c:=(cI .i8)) Ajw rfl H4 rfl Kd fun Vb Vc Vd Kf Kg=>?_;obtain rfl:=Kf;refine AT3 Ar2 rfl (ATo (Kg 0 _ rfl) Bl.x) (Aes Ar3 Ado rfl (AGu (AGz (⟨_,AS2,(((w64 Kc),(w64 (Co + 1))):(Int) × (Int)),?_,rfl,?_,?_⟩))))
        ·exact AGl Ke
        ·exact Bl
        ·exact (Eo.then (Ep.stA Er (AYf (Ag.b p1) rfl) rfl) (Afa rfl))
      obtain ⟨⟨Kh,Ve⟩,Ki,rfl,Cu,Kj⟩:=Kb;(try dsimp only [Kst.L,List.set,AYv,Ab8] at Cu);refine ⟨(Cq.then Kj (AVn (Afa rfl) all_nil)),?_⟩;subst Ki;(try dsimp only at En);refine Acw rfl rfl AGk ?_;obtain ⟨Vf,Es,Kk⟩:=AGn En;refine AWo (m:=Bg) AS9 rfl (Ag.o2 p0) J8 Cr rfl Es fun Vg Kl=>Adt (m:=Bg) (Ads ATe rfl rfl rfl) (Cu.o2 p0) Kl Cr Es (show ((cI .i64)).rep _ (Int.tmod Kh 3) _ from rfl) fun Vh Km Kn=>AGr (AXr (AGj (AGj ?_)));have Bm:=Cu.uO2 p0 Kn Km;obtain ⟨Vi,Et,Ko⟩:=AGn Kk;refine AUh ATb ATq (Bm.o2 p0) Et fun _ Vj Kp=>AGj (AGj (AGj ?_));obtain ⟨Vk,Eu,Kr⟩:=AGn Ko;refine AUh ATb ATq (Bm.o2 p0) Eu fun _ Vl Kt=>AGj ?_;obtain ⟨Vm,Ku,Kv⟩:=AGn Kr;refine AWr (m:=Bg) AS9 ATe (Bm.o2 p0) Kt Eu Ku fun _=>?_;obtain ⟨Vn,Kw,Kx⟩:=AGn Kv;refine AZv (m:=El) Bm p0 AS9 ATe Kp Et Kw (fun _=>rfl) fun _ Vo Ky=>ATh (q_b (q_t (AS3 (AGj (ATk rfl rfl (AGu ?_))))));exact ⟨(_,_,_,_,_,_),(AGl Kx).symm,Ky,rfl,trivial⟩
     ·have Ev:=J5 _ (AGl (ATz Bj Cp)).symm;(try dsimp only at Ev);refine AS8 (ATa (ATa (AT7 (q_b (q_t (AS3 (ATk rfl rfl (AGj (AGr ?_)))))))));exact ⟨(_,_,_,_,_,_),(AGl Ev).symm,Ag,rfl,trivial⟩
    ·have Ew:=J3 _ (AGl (ATz Bi Cn)).symm;(try dsimp only at Ew);refine AS8 (ATa (ATa (AT7 (q_t (AGm (AGj (AGu (AGz (⟨_,AS2,((Eh,Ba,Ei,Ej,Ek,Eg):(LiI) × (Value) × LnA × LnN × LvA × (Int)),?_,rfl,?_⟩)))))))))
     ·exact AGl Ew
     ·exact Bh
   obtain ⟨⟨Kz,D3,La,Lb,Lc,Ld⟩,Le,rfl,Ey⟩:=Hv;(try dsimp only [Kst.L,List.set,AYv,Ab8] at Ey);refine ⟨trivial,?_⟩;subst Le;(try dsimp only at D2);refine ATi (ATh (q_b (q_t ?_)));exact ⟨((Kz,D3,La,Lb,Lc,Ld):(LiI) × (Value) × LnA × LnN × LvA × (Int)),⟨AGl D2,Ey⟩,rfl,trivial⟩
  ·refine AGm (AUy rfl rfl (AGu ?_));have Ez:=Aa7 B8 Cd;refine ⟨_,rfl,fun Cv=>?_,fun Cv=>?_⟩
   ·refine AGm (AGj ?_);obtain ⟨Lf,Lg,Lh⟩:=AGn (ATy Ez Cv);refine Ahe Ao (Af4 Lg) fun Li Lj Lk Ll Aq Vp Ac=>AGu (AVa (fun h'=>UpT ([Aa] ++ []) Aq h') AGx ?_);have Bn:UpT ([Aa] ++ []) Aq Aq:=UpT.start (AVn (AYf (Ac.b p1) rfl) all_nil);refine AGj ?_;obtain ⟨Lm,A4,Lo⟩:=AGn Lh;refine AVf ATb rfl (Ac.o2 p0) rfl A4 fun Vs Vt Lq Fa Lr=>AU1 ATq rfl Bn (fun h' hb=>Aeb Lr hb (Akj (Ac.dj p0 p1 AGk _ (by simp [aO,aO2,Lq])) Akk)) ?_;obtain ⟨Fb,Bo,Lv⟩:=AGn Lo;refine AWo (m:=0) AS9 rfl (Ac.o2 p0) Fa A4 rfl Bo fun Vu Fc=>?_;obtain ⟨Vv,Lw,Lx⟩:=(Ac.o2 p0).cells Fc A4 Bo;obtain rfl:=Lw;refine AU1 ATe rfl Bn (fun h' hb=>Aeb (Lx 0 _ rfl) hb (Akj (Ac.dj p0 p1 AGk _ ((Ac.o2 p0).gmem Fc)) Akk)) (AGj ?_);obtain ⟨Ly,Lz,Fd⟩:=AGn Lv;have L9:UpT ([Aa] ++ []) Aq Aq:=UpT.start (AVn (AYf (Ac.b p1) rfl) all_nil);refine ATd (K':=(fun xr h'=> ∃ x:(Int) × (Int),(x.1,x.2)=Ly/\xr=(.int .i64 x.1)/\Kst h h' (Ac.L.set 1 (aB 109 Aa [Ab,(.int .i64 x.2)]))/\UpT ([Aa] ++ []) Aq h')) Bn rfl ?_ fun Vw Vx Ma=>?_
    ·refine cwf (l:=[_,_]) Tryz.func61 rfl rfl (AGm (ATw (AGj ?_)));obtain ⟨Mb,Fe,Ff⟩:=AGn Lz;have Fg:UpT ([Aa] ++ []) Aq Aq:=UpT.start (AVn (AYf (Ac.b p1) rfl) all_nil);refine ATd (K':=(fun xr h'=> ∃ x:(Int) × (Int),(x.1,x.2)=Mb/\xr=(.int .i64 x.1)/\Kst h h' (Ac.L.set 1 (aB 109 Aa [Ab,(.int .i64 x.2)]))/\UpT ([Aa] ++ []) Aq h')) trivial rfl ?_ fun Vy Vz Mc=>?_
     ·refine cwf (l:=[_]) Tryz.func112 rfl rfl (AGm (AGu (AGo (AGo (AXr (AGj (AUt rfl (AVu AVq rfl (AT3 AT1 rfl ((Ac.b p1).cell (i:=1) rfl) (AGj (AUt rfl (AVu Ab7 rfl (AT3 Aiz rfl ((Ac.b p1).cell (i:=0) rfl) (AUp Ajw rfl H4 (Agp rfl rfl (AGr (⟨_,rfl,fun Cw=>?_,fun Cw=>?_⟩)))))))))))))))))
      ·refine AGm (AGu (AGz (ATc (⟨_,AS2,((0,0):(Int) × (Int)),?_,rfl,?_,?_⟩))))
       ·exact AGl (ATy Fe Cw)
       ·exact Ac
       ·exact Fg
      ·refine AGy (q_t (AGm (AGj (AUt rfl (AVu AVq rfl (AT3 AT1 rfl ((Ac.b p1).cell (i:=1) rfl) (ATk rfl rfl (AUt rfl (AVu AVq rfl (Ag8 [Ab,(.int .i64 (w64 (0 + 1)))] AT1 rfl rfl rfl (Ac.b p1) (Nat.le_of_ble_eq_true rfl) rfl fun V1 Fh Fi=>AGr (AGo (AXr (AGj (AUt rfl (AVu Ab7 rfl ?_)))))))))))))));have Bp:=Ac.sb p1 Fi Fh rfl;refine AT3 Aiz rfl ((Bp.b p1).cell (i:=0) rfl) (AGj (AUt rfl (AVu AVq rfl (AT3 AT1 rfl ((Bp.b p1).cell (i:=1) rfl) (AVd rfl rfl ?_)))));obtain ⟨Md,Me,Mf⟩:=AGn (ATz Fe Cw);refine Adl (c:=(cI .i8)) Ajw rfl H4 rfl Me fun V4 V5 V6 Mg Mh=>?_;obtain rfl:=Mg;refine AT3 Ar2 rfl (ATo (Mh 0 _ rfl) Bp.x) (Aes Ar3 Ado rfl (AGu (AGz (⟨_,AS2,(((w64 Md),(w64 (0 + 1))):(Int) × (Int)),?_,rfl,?_,?_⟩))))
       ·exact AGl Mf
       ·exact Bp
       ·exact (Fg.then (Fh.stA Fi (AYf (Ac.b p1) rfl) rfl) (Afa rfl))
     obtain ⟨⟨Mi,Mj⟩,Mk,rfl,Fj,Ml⟩:=Mc;(try dsimp only [Kst.L,List.set,AYv,Ab8] at Fj);refine ⟨trivial,?_⟩;subst Mk;(try dsimp only at Ff);refine Aes Ado Akv rfl (Aes Akv Alj rfl (AGj (Acw rfl rfl AGk (AGu (AGz (⟨_,AS2,(((Int.tmod (w64 (IntKind.wrap .u8 Mi)) 3),Mj):(Int) × (Int)),?_,rfl,?_,?_⟩))))))
     ·exact AGl Ff
     ·exact Fj
     ·exact (L9.then Ml (AVn (Afa rfl) all_nil))
    obtain ⟨⟨Fk,Mm⟩,Mo,rfl,Cx,Mq⟩:=Ma;(try dsimp only [Kst.L,List.set,AYv,Ab8] at Cx);refine ⟨(Bn.then Mq (AVn (Afa rfl) all_nil)),?_⟩;subst Mo;(try dsimp only at Fd);refine ATk rfl rfl (AWo (m:=0) AS9 rfl (Ac.o2 p0) Fa A4 rfl Bo fun V8 Mr=>Adt (m:=0) (Ads ATe rfl rfl rfl) (Cx.o2 p0) Mr A4 Bo (show ((cI .i64)).rep _ (w64 (Fb + Fk)) _ from rfl) fun V9 Ms Mt=>ATh (q_b (q_t ?_)));exact ⟨(((sI Lf 0 (sI Lm 0 (w64 (Fb + Fk)))),Ll,Li,Lj,Lk,Mm):(LiI) × (Value) × LnA × LnN × LvA × (Int)),⟨AGl Fd,(Cx.uO2 p0 Mt Ms)⟩,rfl,trivial⟩
   ·refine AGm (AUy rfl rfl (AGu ?_));have Fl:=ATz Ez Cv;refine ⟨_,rfl,fun Cy=>?_,fun Cy=>?_⟩
    ·refine AGm (AGj ?_);obtain ⟨Mu,Mv,Mw⟩:=AGn (ATy Fl Cy);refine Ahe Ao (Af4 Mv) fun Mx My Mz M0 Ar Wa Ad=>AGu (AVa (fun h'=>UpT ([Aa] ++ []) Ar h') AGx ?_);have Bq:UpT ([Aa] ++ []) Ar Ar:=UpT.start (AVn (AYf (Ad.b p1) rfl) all_nil);refine AGj (AGj (AVd rfl rfl ?_));obtain ⟨M1,A5,M2⟩:=AGn Mw;refine AVf ATb rfl (Ad.o2 p0) rfl A5 fun Wb Wc M3 Fm M4=>AU1 ATq rfl Bq (fun h' hb=>Aeb M4 hb (Akj (Ad.dj p0 p1 AGk _ (by simp [aO,aO2,M3])) Akk)) (AGj (AVd rfl rfl ?_));obtain ⟨Fo,Br,M5⟩:=AGn M2;refine AWo (m:=(w64 ((w64 (1 + (Int.tmod (w64 a1) Am))) - 1))) AS9 rfl (Ad.o2 p0) Fm A5 rfl Br fun Wd Fp=>?_;obtain ⟨We,M6,M7⟩:=(Ad.o2 p0).cells Fp A5 Br;obtain rfl:=M6;refine AU1 ATe rfl Bq (fun h' hb=>Aeb (M7 0 _ rfl) hb (Akj (Ad.dj p0 p1 AGk _ ((Ad.o2 p0).gmem Fp)) Akk)) (AGj ?_);obtain ⟨M8,M9,Fq⟩:=AGn M5;have Na:UpT ([Aa] ++ []) Ar Ar:=UpT.start (AVn (AYf (Ad.b p1) rfl) all_nil);refine ATd (K':=(fun xr h'=> ∃ x:(Int) × (Int),(x.1,x.2)=M8/\xr=(.int .i64 x.1)/\Kst h h' (Ad.L.set 1 (aB 109 Aa [Ab,(.int .i64 x.2)]))/\UpT ([Aa] ++ []) Ar h')) Bq rfl ?_ fun Wf Wg Nb=>?_
     ·refine cwf (l:=[_,_]) Tryz.func61 rfl rfl (AGm (ATw (AGj ?_)));obtain ⟨Nc,Fr,Ft⟩:=AGn M9;have Fu:UpT ([Aa] ++ []) Ar Ar:=UpT.start (AVn (AYf (Ad.b p1) rfl) all_nil);refine ATd (K':=(fun xr h'=> ∃ x:(Int) × (Int),(x.1,x.2)=Nc/\xr=(.int .i64 x.1)/\Kst h h' (Ad.L.set 1 (aB 109 Aa [Ab,(.int .i64 x.2)]))/\UpT ([Aa] ++ []) Ar h')) trivial rfl ?_ fun Wh Wi Nd=>?_
      ·refine cwf (l:=[_]) Tryz.func112 rfl rfl (AGm (AGu (AGo (AGo (AXr (AGj (AUt rfl (AVu AVq rfl (AT3 AT1 rfl ((Ad.b p1).cell (i:=1) rfl) (AGj (AUt rfl (AVu Ab7 rfl (AT3 Aiz rfl ((Ad.b p1).cell (i:=0) rfl) (AUp Ajw rfl H4 (Agp rfl rfl (AGr (⟨_,rfl,fun Cz=>?_,fun Cz=>?_⟩)))))))))))))))))
       ·refine AGm (AGu (AGz (ATc (⟨_,AS2,((0,0):(Int) × (Int)),?_,rfl,?_,?_⟩))))
        ·exact AGl (ATy Fr Cz)
        ·exact Ad
        ·exact Fu
       ·refine AGy (q_t (AGm (AGj (AUt rfl (AVu AVq rfl (AT3 AT1 rfl ((Ad.b p1).cell (i:=1) rfl) (ATk rfl rfl (AUt rfl (AVu AVq rfl (Ag8 [Ab,(.int .i64 (w64 (0 + 1)))] AT1 rfl rfl rfl (Ad.b p1) (Nat.le_of_ble_eq_true rfl) rfl fun Wj Fv Fw=>AGr (AGo (AXr (AGj (AUt rfl (AVu Ab7 rfl ?_)))))))))))))));have Bt:=Ad.sb p1 Fw Fv rfl;refine AT3 Aiz rfl ((Bt.b p1).cell (i:=0) rfl) (AGj (AUt rfl (AVu AVq rfl (AT3 AT1 rfl ((Bt.b p1).cell (i:=1) rfl) (AVd rfl rfl ?_)))));obtain ⟨Nf,Ng,Nh⟩:=AGn (ATz Fr Cz);refine Adl (c:=(cI .i8)) Ajw rfl H4 rfl Ng fun Wk Wl Wm Ni Nj=>?_;obtain rfl:=Ni;refine AT3 Ar2 rfl (ATo (Nj 0 _ rfl) Bt.x) (Aes Ar3 Ado rfl (AGu (AGz (⟨_,AS2,(((w64 Nf),(w64 (0 + 1))):(Int) × (Int)),?_,rfl,?_,?_⟩))))
        ·exact AGl Nh
        ·exact Bt
        ·exact (Fu.then (Fv.stA Fw (AYf (Ad.b p1) rfl) rfl) (Afa rfl))
      obtain ⟨⟨Nk,Nl⟩,Nm,rfl,Fx,Nn⟩:=Nd;(try dsimp only [Kst.L,List.set,AYv,Ab8] at Fx);refine ⟨trivial,?_⟩;subst Nm;(try dsimp only at Ft);refine Aes Ado Akv rfl (Aes Akv Alj rfl (AGj (Acw rfl rfl AGk (AGu (AGz (⟨_,AS2,(((Int.tmod (w64 (IntKind.wrap .u8 Nk)) 2),Nl):(Int) × (Int)),?_,rfl,?_,?_⟩))))))
      ·exact AGl Ft
      ·exact Fx
      ·exact (Na.then Nn (AVn (Afa rfl) all_nil))
     obtain ⟨⟨Fy,Np⟩,Nq,rfl,C0,Nr⟩:=Nb;(try dsimp only [Kst.L,List.set,AYv,Ab8] at C0);refine ⟨(Bq.then Nr (AVn (Afa rfl) all_nil)),?_⟩;subst Nq;(try dsimp only at Fq);refine ATk rfl rfl (AWo (m:=(w64 ((w64 (1 + (Int.tmod (w64 a1) Am))) - 1))) AS9 rfl (Ad.o2 p0) Fm A5 rfl Br fun Wn Ns=>Adt (m:=(w64 ((w64 (1 + (Int.tmod (w64 a1) Am))) - 1))) (Ads ATe rfl rfl rfl) (C0.o2 p0) Ns A5 Br (show ((cI .i64)).rep _ (w64 (Fo + Fy)) _ from rfl) fun Wo Nt Nu=>ATh (q_b (q_t ?_)));exact ⟨(((sI Mu (w64 ((w64 (1 + (Int.tmod (w64 a1) Am))) - 1)) (sI M1 (w64 ((w64 (1 + (Int.tmod (w64 a1) Am))) - 1)) (w64 (Fo + Fy)))),M0,Mx,My,Mz,Np):(LiI) × (Value) × LnA × LnN × LvA × (Int)),⟨AGl Fq,(C0.uO2 p0 Nu Nt)⟩,rfl,trivial⟩
    ·refine AGm (AUy rfl rfl (AGu ?_));have Fz:=ATz Fl Cy;refine ⟨_,rfl,fun C1=>?_,fun C1=>?_⟩
     ·refine AS3 (AGj (AGj ?_));obtain ⟨Nv,Nw,F4⟩:=AGn (ATy Fz C1);refine ATd (K':=(fun xr h'=> ∃ x:(LiI) × (Value) × LnA × LnN × LvA × (Int),(x.1,x.2.2.2.2.2)=Nv/\xr=x.2.1/\Kst h h' (aO2 (cI .i64) 49 2 x.2.2.1 x.2.2.2.1 x.2.2.2.2.1 x.2.1 x.1 :: (Ao.L.set 0 (aB 109 Aa [Ab,(.int .i64 x.2.2.2.2.2)]))))) trivial rfl ?_ fun F5 Wp Ny=>?_
      ·refine cwf (l:=[_,_,_]) Tryz.func62 rfl rfl (AGm (ATw (AGj ?_)));obtain ⟨Nz,N0⟩:=ifN Nw;refine Aj1 (cI .i64) 2 ATb Aff rfl trivial tt2 rfl rfl AGk Nz fun N3 N4 N5 F6 Wq N6 N7 N8=>AGu (AGo (AGm (AGj ?_)));have C2:=Ao.no2 N7 N8 N6;refine AT4 ATb rfl (C2.o2 p0).rd (AGj (AGr (AGp (AX6 4294959360 (fun x:(Int) × (Int) × (LiI) × LnA × LnN × LvA=>(x.1,x.2.1,x.2.2.1)) ((0,0,(List.replicate (Int.toNat (w64 (1 + (Int.tmod (w64 a1) Am)))) ([]:List Int)),N3,N4,N5):(Int) × (Int) × (LiI) × LnA × LnN × LvA) N0 (fun x=>[(13,(.int .i64 x.1))]) (fun x=>(C2.L.set 0 (aO2 (cI .i64) 49 2 x.2.2.2.1 x.2.2.2.2.1 x.2.2.2.2.2 F6 x.2.2.1)).set 1 (aB 109 Aa [Ab,(.int .i64 x.2.1)])) C2 ⟨rfl,trivial⟩ ?_))));rintro ⟨C3,Bu,N9,Oa,Ob,Oc⟩ Od Oe Wr C4 Bv Og;(try dsimp only [Kst.L,List.set,AYv,Ab8] at C4);refine (show W _ _ _ (setL [(13,(.int .i64 C3))] (mix _ Od _)) Oe from ?_);(try dsimp only at Bv);unfold AWu at Bv;refine AGm (ATl rfl rfl (AGr (AGo (⟨_,rfl,fun C5=>?_,fun C5=>?_⟩))))
       ·refine AGy (q_t (AGo (AGp (AGm (AGj (ATw (AGj (AGj (AGj ?_)))))))));obtain ⟨Oh,Oi⟩:=ifN (ATy Bv C5);refine Ai3 (c:=(cI .i64)) (a:=0) AS9 Acy rfl rfl (fun _=>rfl) rfl trivial tt2 rfl rfl AGk Oh fun Ws Wt Wu Oj Ol Om On=>?_;have A6:=C4.no Ol (AX2 Om On) Oj;obtain ⟨Wv,F7,Oo⟩:=AGn Oi;refine AVf ATb rfl (A6.o2 p1) rfl F7 fun Ww Wx Oq Wy Wz=>Aj0 ATq (A6.o2 p1) F7 Oq rfl rfl (A6.o p0) (A6.dj p0 p1 AGk) fun Au Ot Ou Ov=>AGr (AVa (fun h'=>UpT ([Aa] ++ []) Au h') AGx ?_);have Ah:=A6.m2 p0 p1 AGk Ou Ot (fun z hz=> .inl (Ov z hz));have C6:UpT ([Aa] ++ []) Au Au:=UpT.start (AVn (AYf (Ah.b p2) rfl) all_nil);refine AGj (AGj ?_);obtain ⟨W0,C7,Ow⟩:=AGn Oo;refine AVf ATb rfl (Ah.o2 p1) rfl C7 fun W1 W3 Ox Oy Oz=>AU1 ATq rfl C6 (fun h' hb=>Aeb Oz hb (Akj (Ah.dj p1 p2 AGk _ (by simp [aO,aO2,Ox])) Akk)) (AGj (AGj (AGj ?_)));obtain ⟨O0,O1,F8⟩:=AGn Ow;have O2:UpT ([Aa] ++ []) Au Au:=UpT.start (AVn (AYf (Ah.b p2) rfl) all_nil);refine ATd (K':=(fun xr h'=> ∃ x:(Int) × (Int),(x.1,x.2)=O0/\xr=(.int .i64 x.1)/\Kst h h' ((AYv Ah.L [1,2]).set 1 (aB 109 Aa [Ab,(.int .i64 x.2)]))/\UpT ([Aa] ++ []) Au h')) C6 rfl ?_ fun W4 W5 O3=>?_
        ·refine cwf (l:=[_,_]) Tryz.func61 rfl rfl (AGm (ATw (AGj ?_)));obtain ⟨O4,F9,Ga⟩:=AGn O1;have Gb:UpT ([Aa] ++ []) Au Au:=UpT.start (AVn (AYf (Ah.b p2) rfl) all_nil);refine ATd (K':=(fun xr h'=> ∃ x:(Int) × (Int),(x.1,x.2)=O4/\xr=(.int .i64 x.1)/\Kst h h' ((AYv Ah.L [1,2]).set 1 (aB 109 Aa [Ab,(.int .i64 x.2)]))/\UpT ([Aa] ++ []) Au h')) trivial rfl ?_ fun W6 W7 O5=>?_
         ·refine cwf (l:=[_]) Tryz.func112 rfl rfl (AGm (AGu (AGo (AGo (AXr (AGj (AUt rfl (AVu AVq rfl (AT3 AT1 rfl ((Ah.b p2).cell (i:=1) rfl) (AGj (AUt rfl (AVu Ab7 rfl (AT3 Aiz rfl ((Ah.b p2).cell (i:=0) rfl) (AUp Ajw rfl H4 (Agp rfl rfl (AGr (⟨_,rfl,fun C8=>?_,fun C8=>?_⟩)))))))))))))))))
          ·refine AGm (AGu (AGz (ATc (⟨_,AS2,((0,Bu):(Int) × (Int)),?_,rfl,?_,?_⟩))))
           ·exact AGl (ATy F9 C8)
           ·exact Ah.sel [1,2] AGk
           ·exact Gb
          ·refine AGy (q_t (AGm (AGj (AUt rfl (AVu AVq rfl (AT3 AT1 rfl ((Ah.b p2).cell (i:=1) rfl) (ATk rfl rfl (AUt rfl (AVu AVq rfl (Ag8 [Ab,(.int .i64 (w64 (Bu + 1)))] AT1 rfl rfl rfl (Ah.b p2) (Nat.le_of_ble_eq_true rfl) rfl fun W8 Gc Gd=>AGr (AGo (AXr (AGj (AUt rfl (AVu Ab7 rfl ?_)))))))))))))));have Bw:=Ah.sb p2 Gd Gc rfl;refine AT3 Aiz rfl ((Bw.b p2).cell (i:=0) rfl) (AGj (AUt rfl (AVu AVq rfl (AT3 AT1 rfl ((Bw.b p2).cell (i:=1) rfl) (AVd rfl rfl ?_)))));obtain ⟨O6,O7,O8⟩:=AGn (ATz F9 C8);refine Adl (c:=(cI .i8)) Ajw rfl H4 rfl O7 fun Xa Xb Xc O9 Pa=>?_;obtain rfl:=O9;refine AT3 Ar2 rfl (ATo (Pa 0 _ rfl) Bw.x) (Aes Ar3 Ado rfl (AGu (AGz (⟨_,AS2,(((w64 O6),(w64 (Bu + 1))):(Int) × (Int)),?_,rfl,?_,?_⟩))))
           ·exact AGl O8
           ·exact Bw.sel [1,2] AGk
           ·exact (Gb.then (Gc.stA Gd (AYf (Ah.b p2) rfl) rfl) (Afa rfl))
         obtain ⟨⟨Pb,Pc⟩,Pd,rfl,Ge,Pe⟩:=O5;(try dsimp only [Kst.L,List.set,AYv,Ab8] at Ge);refine ⟨trivial,?_⟩;subst Pd;(try dsimp only at Ga);refine Aes Ado Akv rfl (Aes Akv Alj rfl (AGj (Acw rfl rfl AGk (AGu (AGz (⟨_,AS2,(((Int.tmod (w64 (IntKind.wrap .u8 Pb)) 9),Pc):(Int) × (Int)),?_,rfl,?_,?_⟩))))))
         ·exact AGl Ga
         ·exact Ge
         ·exact (O2.then Pe (AVn (Afa rfl) all_nil))
        obtain ⟨⟨Pf,Xd⟩,Pg,rfl,C9,Ph⟩:=O3;(try dsimp only [Kst.L,List.set,AYv,Ab8] at C9);refine ⟨(C6.then Ph (AVn (Afa rfl) all_nil)),?_⟩;subst Pg;(try dsimp only at F8);refine ATk rfl rfl ?_;obtain ⟨Xe,Gf,Pj⟩:=AGn F8;refine AWo (m:=C3) AS9 rfl (Ah.o2 p1) Oy C7 rfl Gf fun Xf Pk=>Adt (m:=C3) (Ads ATe rfl rfl rfl) (C9.o2 p0) Pk C7 Gf (show ((cI .i64)).rep _ (w64 (1 + Pf)) _ from rfl) fun Xg Pl Pm=>ATh (q_b (q_t (AS3 (ATk rfl rfl (AGj (AGr ?_))))));exact ⟨(_,_,_,_,_,_),(AGl Pj).symm,(C9.uO2 p0 Pm Pl),rfl,trivial⟩
       ·have Gg:=Og _ (AGl (ATz Bv C5)).symm;(try dsimp only at Gg);refine AS8 (ATa (ATa (AT7 (q_t (AGm (AGj (AGu (AGz (⟨_,AS2,((N9,F6,Oa,Ob,Oc,Bu):(LiI) × (Value) × LnA × LnN × LvA × (Int)),?_,rfl,?_⟩)))))))))
        ·exact AGl Gg
        ·exact C4
      obtain ⟨⟨Pn,F5,Po,Pp,Pq,Ps⟩,Pt,rfl,Gh⟩:=Ny;(try dsimp only [Kst.L,List.set,AYv,Ab8] at Gh);refine ⟨trivial,?_⟩;subst Pt;(try dsimp only at F4);refine ATi (ATh (q_b (q_t ?_)));exact ⟨((Pn,F5,Po,Pp,Pq,Ps):(LiI) × (Value) × LnA × LnN × LvA × (Int)),⟨AGl F4,Gh⟩,rfl,trivial⟩
     ·refine AS3 (AGj (AGj ?_));obtain ⟨Pu,Pv,Gi⟩:=AGn (ATz Fz C1);refine ATd (K':=(fun xr h'=> ∃ x:(LiI) × (Value) × LnA × LnN × LvA × (Int),(x.1,x.2.2.2.2.2)=Pu/\xr=x.2.1/\Kst h h' (aO2 (cI .i64) 49 2 x.2.2.1 x.2.2.2.1 x.2.2.2.2.1 x.2.1 x.1 :: (Ao.L.set 0 (aB 109 Aa [Ab,(.int .i64 x.2.2.2.2.2)]))))) trivial rfl ?_ fun Gj Xh Pw=>?_
      ·refine cwf (l:=[_,_,_]) Tryz.func62 rfl rfl (AGm (ATw (AGj ?_)));obtain ⟨Px,Py⟩:=ifN Pv;refine Aj1 (cI .i64) 2 ATb Aff rfl trivial tt2 rfl rfl AGk Px fun Pz P0 P1 Gk Xi P2 P3 P4=>AGu (AGo (AGm (AGj ?_)));have Da:=Ao.no2 P3 P4 P2;refine AT4 ATb rfl (Da.o2 p0).rd (AGj (AGr (AGp (AX6 4294959360 (fun x:(Int) × (Int) × (LiI) × LnA × LnN × LvA=>(x.1,x.2.1,x.2.2.1)) ((0,0,(List.replicate (Int.toNat (w64 (1 + (Int.tmod (w64 a1) Am)))) ([]:List Int)),Pz,P0,P1):(Int) × (Int) × (LiI) × LnA × LnN × LvA) Py (fun x=>[(13,(.int .i64 x.1))]) (fun x=>(Da.L.set 0 (aO2 (cI .i64) 49 2 x.2.2.2.1 x.2.2.2.2.1 x.2.2.2.2.2 Gk x.2.2.1)).set 1 (aB 109 Aa [Ab,(.int .i64 x.2.1)])) Da ⟨rfl,trivial⟩ ?_))));rintro ⟨Db,Bx,P5,P6,P7,P8⟩ P9 Qa Xj Dc By Qb;(try dsimp only [Kst.L,List.set,AYv,Ab8] at Dc);refine (show W _ _ _ (setL [(13,(.int .i64 Db))] (mix _ P9 _)) Qa from ?_);(try dsimp only at By);unfold AWv at By;refine AGm (ATl rfl rfl (AGr (AGo (⟨_,rfl,fun Dd=>?_,fun Dd=>?_⟩))))
       ·refine AGy (q_t (AGo (AGp (AGm (AGj (ATw (AGj (AGj (AGj ?_)))))))));obtain ⟨Qc,Qd⟩:=ifN (ATy By Dd);refine Ai3 (c:=(cI .i64)) (a:=0) AS9 Acy rfl rfl (fun _=>rfl) rfl trivial tt2 rfl rfl AGk Qc fun Xk Xl Xm Qe Qf Qg Qh=>?_;have A7:=Dc.no Qf (AX2 Qg Qh) Qe;obtain ⟨Xn,Gl,Qi⟩:=AGn Qd;refine AVf ATb rfl (A7.o2 p1) rfl Gl fun Xo Xp Qj Xq Xr=>Aj0 ATq (A7.o2 p1) Gl Qj rfl rfl (A7.o p0) (A7.dj p0 p1 AGk) fun Av Qk Ql Qm=>AGr (AVa (fun h'=>UpT ([Aa] ++ []) Av h') AGx ?_);have Ai:=A7.m2 p0 p1 AGk Ql Qk (fun z hz=> .inl (Qm z hz));have De:UpT ([Aa] ++ []) Av Av:=UpT.start (AVn (AYf (Ai.b p2) rfl) all_nil);refine AGj (AGj ?_);obtain ⟨Xt,Df,Qn⟩:=AGn Qi;refine AVf ATb rfl (Ai.o2 p1) rfl Df fun Xu Xv Qo Qp Qq=>AU1 ATq rfl De (fun h' hb=>Aeb Qq hb (Akj (Ai.dj p1 p2 AGk _ (by simp [aO,aO2,Qo])) Akk)) (AGj (AGj (AGj ?_)));obtain ⟨Qr,Qs,Gm⟩:=AGn Qn;have Qt:UpT ([Aa] ++ []) Av Av:=UpT.start (AVn (AYf (Ai.b p2) rfl) all_nil);refine ATd (K':=(fun xr h'=> ∃ x:(Int) × (Int),(x.1,x.2)=Qr/\xr=(.int .i64 x.1)/\Kst h h' ((AYv Ai.L [1,2]).set 1 (aB 109 Aa [Ab,(.int .i64 x.2)]))/\UpT ([Aa] ++ []) Av h')) De rfl ?_ fun Xw Xx Qu=>?_
        ·refine cwf (l:=[_,_]) Tryz.func61 rfl rfl (AGm (ATw (AGj ?_)));obtain ⟨Qv,Gn,Gp⟩:=AGn Qs;have Gq:UpT ([Aa] ++ []) Av Av:=UpT.start (AVn (AYf (Ai.b p2) rfl) all_nil);refine ATd (K':=(fun xr h'=> ∃ x:(Int) × (Int),(x.1,x.2)=Qv/\xr=(.int .i64 x.1)/\Kst h h' ((AYv Ai.L [1,2]).set 1 (aB 109 Aa [Ab,(.int .i64 x.2)]))/\UpT ([Aa] ++ []) Av h')) trivial rfl ?_ fun Xy Xz Qw=>?_
         ·refine cwf (l:=[_]) Tryz.func112 rfl rfl (AGm (AGu (AGo (AGo (AXr (AGj (AUt rfl (AVu AVq rfl (AT3 AT1 rfl ((Ai.b p2).cell (i:=1) rfl) (AGj (AUt rfl (AVu Ab7 rfl (AT3 Aiz rfl ((Ai.b p2).cell (i:=0) rfl) (AUp Ajw rfl H4 (Agp rfl rfl (AGr (⟨_,rfl,fun Dg=>?_,fun Dg=>?_⟩)))))))))))))))))
          ·refine AGm (AGu (AGz (ATc (⟨_,AS2,((0,Bx):(Int) × (Int)),?_,rfl,?_,?_⟩))))
           ·exact AGl (ATy Gn Dg)
           ·exact Ai.sel [1,2] AGk
           ·exact Gq
          ·refine AGy (q_t (AGm (AGj (AUt rfl (AVu AVq rfl (AT3 AT1 rfl ((Ai.b p2).cell (i:=1) rfl) (ATk rfl rfl (AUt rfl (AVu AVq rfl (Ag8 [Ab,(.int .i64 (w64 (Bx + 1)))] AT1 rfl rfl rfl (Ai.b p2) (Nat.le_of_ble_eq_true rfl) rfl fun X0 Gr Gt=>AGr (AGo (AXr (AGj (AUt rfl (AVu Ab7 rfl ?_)))))))))))))));have Bz:=Ai.sb p2 Gt Gr rfl;refine AT3 Aiz rfl ((Bz.b p2).cell (i:=0) rfl) (AGj (AUt rfl (AVu AVq rfl (AT3 AT1 rfl ((Bz.b p2).cell (i:=1) rfl) (AVd rfl rfl ?_)))));obtain ⟨Qx,Qy,Qz⟩:=AGn (ATz Gn Dg);refine Adl (c:=(cI .i8)) Ajw rfl H4 rfl Qy fun X3 X4 X5 Q0 Q1=>?_;obtain rfl:=Q0;refine AT3 Ar2 rfl (ATo (Q1 0 _ rfl) Bz.x) (Aes Ar3 Ado rfl (AGu (AGz (⟨_,AS2,(((w64 Qx),(w64 (Bx + 1))):(Int) × (Int)),?_,rfl,?_,?_⟩))))
           ·exact AGl Qz
           ·exact Bz.sel [1,2] AGk
           ·exact (Gq.then (Gr.stA Gt (AYf (Ai.b p2) rfl) rfl) (Afa rfl))
         obtain ⟨⟨Q2,Q3⟩,Q4,rfl,Gu,Q6⟩:=Qw;(try dsimp only [Kst.L,List.set,AYv,Ab8] at Gu);refine ⟨trivial,?_⟩;subst Q4;(try dsimp only at Gp);refine Aes Ado Akv rfl (Aes Akv Alj rfl (AGj (Acw rfl rfl AGk (AGu (AGz (⟨_,AS2,(((Int.tmod (w64 (IntKind.wrap .u8 Q2)) 1),Q3):(Int) × (Int)),?_,rfl,?_,?_⟩))))))
         ·exact AGl Gp
         ·exact Gu
         ·exact (Qt.then Q6 (AVn (Afa rfl) all_nil))
        obtain ⟨⟨Q7,X6⟩,Q8,rfl,Dh,Q9⟩:=Qu;(try dsimp only [Kst.L,List.set,AYv,Ab8] at Dh);refine ⟨(De.then Q9 (AVn (Afa rfl) all_nil)),?_⟩;subst Q8;(try dsimp only at Gm);refine ATk rfl rfl ?_;obtain ⟨X8,Gv,Rc⟩:=AGn Gm;refine AWo (m:=Db) AS9 rfl (Ai.o2 p1) Qp Df rfl Gv fun Ya Rd=>Adt (m:=Db) (Ads ATe rfl rfl rfl) (Dh.o2 p0) Rd Df Gv (show ((cI .i64)).rep _ (w64 (1 + Q7)) _ from rfl) fun Yb Re Rf=>ATh (q_b (q_t (AS3 (ATk rfl rfl (AGj (AGr ?_))))));exact ⟨(_,_,_,_,_,_),(AGl Rc).symm,(Dh.uO2 p0 Rf Re),rfl,trivial⟩
       ·have Gw:=Qb _ (AGl (ATz By Dd)).symm;(try dsimp only at Gw);refine AS8 (ATa (ATa (AT7 (q_t (AGm (AGj (AGu (AGz (⟨_,AS2,((P5,Gk,P6,P7,P8,Bx):(LiI) × (Value) × LnA × LnN × LvA × (Int)),?_,rfl,?_⟩)))))))))
        ·exact AGl Gw
        ·exact Dc
      obtain ⟨⟨Rg,Gj,Rh,Ri,Rj,Rm⟩,Rn,rfl,Gx⟩:=Pw;(try dsimp only [Kst.L,List.set,AYv,Ab8] at Gx);refine ⟨trivial,?_⟩;subst Rn;(try dsimp only at Gi);refine ATi (ATh (q_b (q_t ?_)));exact ⟨((Rg,Gj,Rh,Ri,Rj,Rm):(LiI) × (Value) × LnA × LnN × LvA × (Int)),⟨AGl Gi,Gx⟩,rfl,trivial⟩
 rintro ⟨Yc,Ro,Yd,Ye,Yf,Rq⟩ Rr Rs ⟨Rt,Di⟩;(try dsimp only [Kst.L,List.set,AYv,Ab8] at Di);refine (show W _ _ _ (setL [(7,Ro)] (mix _ Rr _)) Rs from ?_);subst Rt;(try dsimp only at Dy);refine AGo (AGm (AGj ?_));obtain ⟨Yg,Ru,Gy⟩:=AGn Dy;refine AW0 Di (Al0 (Di.o2 p0).rd Ru) fun Yh Yi A8=>AWq rfl (AGr (⟨_,rfl,fun Dj=>?_,fun Dj=>?_⟩))
 ·refine AGm (AGj (AGj ?_));obtain ⟨Rv,Rw,Gz⟩:=AGn (ifT Gy Dj);refine ATd (K':=(fun xr h'=> ∃ x:(LiI) × (Value) × LnA × LnN × LvA × (Int),(x.1,x.2.2.2.2.2)=Rv/\xr=x.2.1/\Kst h h' (aO2 (cI .i64) 49 2 x.2.2.1 x.2.2.2.1 x.2.2.2.2.1 x.2.1 x.1 :: (A8.L.set 1 (aB 109 Aa [Ab,(.int .i64 x.2.2.2.2.2)]))))) trivial rfl ?_ fun Rx Yj Ry=>?_
  ·refine cwf (l:=[_,_,_]) Tryz.func62 rfl rfl (AGm (ATw (AGj ?_)));obtain ⟨Rz,R3⟩:=ifN Rw;refine Aj1 (cI .i64) 2 ATb Aff rfl trivial tt2 rfl rfl AGk Rz fun R4 R5 R6 G3 Yk R7 R8 R9=>AGu (AGo (AGm (AGj ?_)));have Dk:=A8.no2 R8 R9 R7;refine AT4 ATb rfl (Dk.o2 p0).rd (AGj (AGr (AGp (AX6 4294959360 (fun x:(Int) × (Int) × (LiI) × LnA × LnN × LvA=>(x.1,x.2.1,x.2.2.1)) ((0,Rq,(List.replicate (Int.toNat (w64 (1 + (Int.tmod (w64 a1) Am)))) ([]:List Int)),R4,R5,R6):(Int) × (Int) × (LiI) × LnA × LnN × LvA) R3 (fun x=>[(13,(.int .i64 x.1))]) (fun x=>(Dk.L.set 0 (aO2 (cI .i64) 49 2 x.2.2.2.1 x.2.2.2.2.1 x.2.2.2.2.2 G3 x.2.2.1)).set 2 (aB 109 Aa [Ab,(.int .i64 x.2.1)])) Dk ⟨rfl,trivial⟩ ?_))));rintro ⟨Dl,B1,Sa,Sb,Sc,Sd⟩ Se Sf Yl Do B3 Sg;(try dsimp only [Kst.L,List.set,AYv,Ab8] at Do);refine (show W _ _ _ (setL [(13,(.int .i64 Dl))] (mix _ Se _)) Sf from ?_);(try dsimp only at B3);unfold AWw at B3;refine AGm (ATl rfl rfl (AGr (AGo (⟨_,rfl,fun Dp=>?_,fun Dp=>?_⟩))))
   ·refine AGy (q_t (AGo (AGp (AGm (AGj (ATw (AGj (AGj (AGj ?_)))))))));obtain ⟨Sh,Si⟩:=ifN (ATy B3 Dp);refine Ai3 (c:=(cI .i64)) (a:=0) AS9 Acy rfl rfl (fun _=>rfl) rfl trivial tt2 rfl rfl AGk Sh fun Ym Yn Yo Sj Sk Sm Sn=>?_;have A9:=Do.no Sk (AX2 Sm Sn) Sj;obtain ⟨Yp,G4,So⟩:=AGn Si;refine AVf ATb rfl (A9.o2 p1) rfl G4 fun Yq Yr Sq Ys Yt=>Aj0 ATq (A9.o2 p1) G4 Sq rfl rfl (A9.o p0) (A9.dj p0 p1 AGk) fun Aw Sr Ss St=>AGr (AVa (fun h'=>UpT ([Aa] ++ []) Aw h') AGx ?_);have Aj:=A9.m2 p0 p1 AGk Ss Sr (fun z hz=> .inl (St z hz));have Dq:UpT ([Aa] ++ []) Aw Aw:=UpT.start (AVn (AYf (Aj.b p3) rfl) all_nil);refine AGj (AGj ?_);obtain ⟨Yu,Dr,Su⟩:=AGn So;refine AVf ATb rfl (Aj.o2 p1) rfl Dr fun Yv Yw Sv Sw Sx=>AU1 ATq rfl Dq (fun h' hb=>Aeb Sx hb (Akj (Aj.dj p1 p3 AGk _ (by simp [aO,aO2,Sv])) Akk)) (AGj (AGj (AGj ?_)));obtain ⟨Sy,Sz,G5⟩:=AGn Su;have S5:UpT ([Aa] ++ []) Aw Aw:=UpT.start (AVn (AYf (Aj.b p3) rfl) all_nil);refine ATd (K':=(fun xr h'=> ∃ x:(Int) × (Int),(x.1,x.2)=Sy/\xr=(.int .i64 x.1)/\Kst h h' ((AYv Aj.L [1,2,3]).set 2 (aB 109 Aa [Ab,(.int .i64 x.2)]))/\UpT ([Aa] ++ []) Aw h')) Dq rfl ?_ fun Yx Yy S7=>?_
    ·refine cwf (l:=[_,_]) Tryz.func61 rfl rfl (AGm (ATw (AGj ?_)));obtain ⟨Ta,G6,G7⟩:=AGn Sz;have G8:UpT ([Aa] ++ []) Aw Aw:=UpT.start (AVn (AYf (Aj.b p3) rfl) all_nil);refine ATd (K':=(fun xr h'=> ∃ x:(Int) × (Int),(x.1,x.2)=Ta/\xr=(.int .i64 x.1)/\Kst h h' ((AYv Aj.L [1,2,3]).set 2 (aB 109 Aa [Ab,(.int .i64 x.2)]))/\UpT ([Aa] ++ []) Aw h')) trivial rfl ?_ fun Yz Y1 Tb=>?_
     ·refine cwf (l:=[_]) Tryz.func112 rfl rfl (AGm (AGu (AGo (AGo (AXr (AGj (AUt rfl (AVu AVq rfl (AT3 AT1 rfl ((Aj.b p3).cell (i:=1) rfl) (AGj (AUt rfl (AVu Ab7 rfl (AT3 Aiz rfl ((Aj.b p3).cell (i:=0) rfl) (AUp Ajw rfl H4 (Agp rfl rfl (AGr (⟨_,rfl,fun Ds=>?_,fun Ds=>?_⟩)))))))))))))))))
      ·refine AGm (AGu (AGz (ATc (⟨_,AS2,((0,B1):(Int) × (Int)),?_,rfl,?_,?_⟩))))
       ·exact AGl (ATy G6 Ds)
       ·exact Aj.sel [1,2,3] AGk
       ·exact G8
      ·refine AGy (q_t (AGm (AGj (AUt rfl (AVu AVq rfl (AT3 AT1 rfl ((Aj.b p3).cell (i:=1) rfl) (ATk rfl rfl (AUt rfl (AVu AVq rfl (Ag8 [Ab,(.int .i64 (w64 (B1 + 1)))] AT1 rfl rfl rfl (Aj.b p3) (Nat.le_of_ble_eq_true rfl) rfl fun Y2 G9 Hb=>AGr (AGo (AXr (AGj (AUt rfl (AVu Ab7 rfl ?_)))))))))))))));have B4:=Aj.sb p3 Hb G9 rfl;refine AT3 Aiz rfl ((B4.b p3).cell (i:=0) rfl) (AGj (AUt rfl (AVu AVq rfl (AT3 AT1 rfl ((B4.b p3).cell (i:=1) rfl) (AVd rfl rfl ?_)))));obtain ⟨Tc,Td,Te⟩:=AGn (ATz G6 Ds);refine Adl (c:=(cI .i8)) Ajw rfl H4 rfl Td fun Y3 Y4 Y5 Tf Tg=>?_;obtain rfl:=Tf;refine AT3 Ar2 rfl (ATo (Tg 0 _ rfl) B4.x) (Aes Ar3 Ado rfl (AGu (AGz (⟨_,AS2,(((w64 Tc),(w64 (B1 + 1))):(Int) × (Int)),?_,rfl,?_,?_⟩))))
       ·exact AGl Te
       ·exact B4.sel [1,2,3] AGk
       ·exact (G8.then (G9.stA Hb (AYf (Aj.b p3) rfl) rfl) (Afa rfl))
     obtain ⟨⟨Th,Ti⟩,Tj,rfl,Hc,Tk⟩:=Tb;(try dsimp only [Kst.L,List.set,AYv,Ab8] at Hc);refine ⟨trivial,?_⟩;subst Tj;(try dsimp only at G7);refine Aes Ado Akv rfl (Aes Akv Alj rfl (AGj (Acw rfl rfl AGk (AGu (AGz (⟨_,AS2,(((Int.tmod (w64 (IntKind.wrap .u8 Th)) 2),Ti):(Int) × (Int)),?_,rfl,?_,?_⟩))))))
     ·exact AGl G7
     ·exact Hc
     ·exact (S5.then Tk (AVn (Afa rfl) all_nil))
    obtain ⟨⟨Tl,Y6⟩,Tm,rfl,Dt,Tn⟩:=S7;(try dsimp only [Kst.L,List.set,AYv,Ab8] at Dt);refine ⟨(Dq.then Tn (AVn (Afa rfl) all_nil)),?_⟩;subst Tm;(try dsimp only at G5);refine ATk rfl rfl ?_;obtain ⟨Y7,Hd,To⟩:=AGn G5;refine AWo (m:=Dl) AS9 rfl (Aj.o2 p1) Sw Dr rfl Hd fun Y8 Tp=>Adt (m:=Dl) (Ads ATe rfl rfl rfl) (Dt.o2 p0) Tp Dr Hd (show ((cI .i64)).rep _ (w64 (1 + Tl)) _ from rfl) fun Y9 Tq Tr=>ATh (q_b (q_t (AS3 (ATk rfl rfl (AGj (AGr ?_))))));exact ⟨(_,_,_,_,_,_),(AGl To).symm,(Dt.uO2 p0 Tr Tq),rfl,trivial⟩
   ·have He:=Sg _ (AGl (ATz B3 Dp)).symm;(try dsimp only at He);refine AS8 (ATa (ATa (AT7 (q_t (AGm (AGj (AGu (AGz (⟨_,AS2,((Sa,G3,Sb,Sc,Sd,B1):(LiI) × (Value) × LnA × LnN × LvA × (Int)),?_,rfl,?_⟩)))))))))
    ·exact AGl He
    ·exact Do
  obtain ⟨⟨Za,Rx,Zd,Ze,Zf,Zg⟩,Ts,rfl,B5⟩:=Ry;(try dsimp only [Kst.L,List.set,AYv,Ab8] at B5);refine ⟨trivial,?_⟩;subst Ts;(try dsimp only at Gz);refine AGu (AGz (ATc ?_));obtain rfl:=AGl Gz;exact ⟨_,AS2,B5.x,_,_,_,_,rfl,(B5.o2 p0),B5.s.sel [0] AGk⟩
 ·refine AGy (q_t (AGm (AGj (AGu (AGz ?_)))));obtain rfl:=AGl (Aa7 Gy Dj);exact ⟨_,AS2,A8.x,_,_,_,_,rfl,(A8.o2 p0),A8.s.sel [0] AGk⟩
def AWn (fuel:Nat) (a1 a2:Int) (a5 a9:LiA) (Ae:Int):Option LiI:=
  ((AWm fuel a1 a2 a5 a9 Ae).bind fun Af=>((AW1 fuel Af).bind fun Ag=>((AYk fuel Ag).bind fun (Ah,Ai,Aj)=>(some Ah))))
theorem Ahi {fuel:Nat} {h:AGt} {a1 a2:Int} {Ac:Value} {a5:LiA} {Ad:Value} {a9:LiA} {Ai:Int} {r:LiI} (H4:SlC (cI .i8) h Ac a5) (H8:SlC (cI .i8) h Ad a9) (hp:AWn fuel a1 a2 a5 a9 Ai=some r):ATs Tryz.prog 7 #[(.agg #[(.int .u8 a1),(.int .u8 a2),Ac,Ad]),(.int .i64 Ai)] h (fun x h'=>Ext h h'/\ ∃ (x0:Value) (F0:List Nat) (Au:List LnA) (Av:List Value),x=x0/\AVt (cI .i64) 49 2 h' F0 Au Av x0 r/\Sp h' h.size [F0]):=by
 unfold AWn at hp;refine cwf (l:=[_,_]) Tryz.func7 rfl rfl (AGm (AYy (Kst.k0 h) [(.int .u8 a1),(.int .u8 a2),Ac,Ad] fun Bl Bm Bn Ae=>ATw (Acx [(.int .u8 a1),(.int .u8 a2),Ac,Ad] A55 rfl rfl (Ae.b p0).agg (AGj ?_))));obtain ⟨Bo,Aw,Ax⟩:=AGn hp;refine Ahe Ae (Ahh (H4.ext Ae.x) (H8.ext Ae.x) Aw) fun Bp Bq Br Bt Bu Bv Am=>?_;obtain ⟨Bw,Ay,Az⟩:=AGn Ax;refine Ahe Am (Aee (Am.o2 p0).rd Ay) fun Bx By Bz B1 B3 B4 Ao=>?_;obtain ⟨⟨A3,A4,B5⟩,A5,Ap⟩:=AGn Az;dsimp only at Ap;refine Afh rfl (Ajo (Ao.o2 p0).rd A5) fun B6 B7 A6 A7=>?_;obtain ⟨A8,A9,Ba,Bb,Bc,Be,Bf,Bg,rfl,Bh,Bi,Bj⟩:=A7;have Af:=Ao.n A6 [aO2 (cI .i64) 49 2 A9 Ba Bb A8 A3,aO2 cZ 131 93 Be Bf Bg Bc A4] Bj ⟨Bh,Bi,trivial⟩;simp only [List.cons_append,List.nil_append] at Af;refine AGj (AUb rfl rfl (AUb rfl rfl (AUb rfl rfl (ATi (ATi (ATw (AGj (AGu (AGz ?_)))))))));obtain rfl:=AGl Ap;exact ⟨_,AS2,Af.x,_,_,_,_,rfl,(Af.o2 p0),Af.s.sel [0] AGk⟩
end Go.Proofs.YthbndcbclhkepaaGreatDoor
