/-
  Texts of a proof, joined. Conditions stand in each statement.
-/
import Derived.Test.YtdkldlbgcfpglaaGreatDoorMJordanCounts2
set_option linter.unusedVariables false
set_option linter.unusedSimpArgs false
namespace Go.Proofs.YtdkldlbgcfpglaaGreatDoor
open Go Go.QF
set_option maxRecDepth 100000
set_option maxHeartbeats 4000000
abbrev LnN:=List (List Nat)
abbrev LnA:=List Nat
abbrev LvA:=List Value
abbrev LiI:=List (List Int)
abbrev LiA:=List Int
theorem Zm {α:Type _} {a b:α} (h:some a=some b):a=b:=Option.some.inj h
theorem tt2 {α:Sort _} {β:α->Sort _}:∀ x,β x->True:=fun _ _=>trivial
def ACs (fuel:Nat) (a1 a5:Int):Option Int:=
  ((AVm fuel a1 a5).bind fun (Ac,Ad,Ae)=>(some Ac))
theorem AG0 {fuel:Nat} {h:Zs} {Ad:Value} {a1:Int} {Af:Value} {a5 r:Int} (H3:ZZ h Ad a1) (H7:ZZ h Af a5) (hp:ACs fuel a1 a5=some r):AAs Tryz.prog 107 #[Ad,Af] h (fun x h'=>Ext h h'/\ ∃ (x0:Value),x=x0/\ZZ h' x0 r):=by
 unfold ACs at hp;obtain ⟨Ar,rfl,Ai⟩:=H3.cs;obtain ⟨Au,rfl,Aj⟩:=H7.cs;refine cwf (l:=[_,_]) Tryz.func107 rfl rfl (Zn (AHg (Kst.k0 h) Ar fun b9 Bc Be Av=>AHg Av Au fun Bf Bg Bh Aw=>ACx Aw [.bool false,.slice none 0 0] AEb fun Bi Bj Bl Aa=>AHj (AJd (Aa.zx Ai) (Aa.b p2) (AJd (Aa.zx Aj) (Aa.b p1) ?_))));obtain ⟨⟨Bm,Bn,Bo⟩,Ax,Ak⟩:=Zp hp;dsimp only at Ak;refine AMx rfl (Aag (Aa.zx Ai).2 (Aa.zx Aj).2 Ax) fun Bp Bq Ay Az=>?_;obtain ⟨Br,Bt,rfl,A3,A4⟩:=Az;obtain ⟨Bu,rfl,A5⟩:=A3.cs;obtain ⟨Bv,rfl,A6⟩:=A4.cs;refine Zk (ABj rfl rfl (ABj rfl rfl (ABj rfl rfl (ACx (((Aa.e Ay).az A5).az A6) [.bool false,.slice none 0 0] AEb fun Bw Bx By A7=>ACx A7 [.bool false,.slice none 0 0] AEb fun Bz A8 B1 Am=>AFc Am p1 (AAa A8) (Am.z p3) fun A9 Ao=>AFc Ao p0 (AAa A9) (Ao.z p2) fun Ba Ab=>AA3 (AJd (Ab.z p3) (Ab.b p1) (AFc Ab p4 (AAa Ba) (Ab.z p3) fun B3 Ac=>Zr (Zy ?_)))))));obtain rfl:=Zm Ak;exact ⟨_,AB9 ABa (cZ.klen (Ac.z p3)) rfl (Ac.b p4),Ac.x,_,rfl,(Ac.z p3).2⟩
def AGq (fuel:Nat) (a1 a5:Int):Option Int:=
  ((AVm fuel a1 a5).bind fun (Ad,Ac,Ae)=>(some Ac))
theorem AR8 {fuel:Nat} {h:Zs} {Ad:Value} {a1:Int} {Af:Value} {a5 r:Int} (H3:ZZ h Ad a1) (H7:ZZ h Af a5) (hp:AGq fuel a1 a5=some r):AAs Tryz.prog 170 #[Ad,Af] h (fun x h'=>Ext h h'/\ ∃ (x0:Value),x=x0/\ZZ h' x0 r):=by
 unfold AGq at hp;obtain ⟨Ar,rfl,Ai⟩:=H3.cs;obtain ⟨Au,rfl,Aj⟩:=H7.cs;refine cwf (l:=[_,_]) Tryz.func170 rfl rfl (Zn (AHg (Kst.k0 h) Ar fun b9 Bc Be Av=>AHg Av Au fun Bf Bg Bh Aw=>ACx Aw [.bool false,.slice none 0 0] AEb fun Bi Bj Bl Aa=>AHj (AJd (Aa.zx Ai) (Aa.b p2) (AJd (Aa.zx Aj) (Aa.b p1) ?_))));obtain ⟨⟨Bm,Bn,Bo⟩,Ax,Ak⟩:=Zp hp;dsimp only at Ak;refine AMx rfl (Aag (Aa.zx Ai).2 (Aa.zx Aj).2 Ax) fun Bp Bq Ay Az=>?_;obtain ⟨Br,Bt,rfl,A3,A4⟩:=Az;obtain ⟨Bu,rfl,A5⟩:=A3.cs;obtain ⟨Bv,rfl,A6⟩:=A4.cs;refine Zk (ABj rfl rfl (ABj rfl rfl (ABj rfl rfl (ACx (((Aa.e Ay).az A5).az A6) [.bool false,.slice none 0 0] AEb fun Bw Bx By A7=>ACx A7 [.bool false,.slice none 0 0] AEb fun Bz A8 B1 Am=>AFc Am p1 (AAa A8) (Am.z p3) fun A9 Ao=>AFc Ao p0 (AAa A9) (Ao.z p2) fun Ba Ab=>AA3 (AJd (Ab.z p2) (Ab.b p0) (AFc Ab p4 (AAa Ba) (Ab.z p2) fun B3 Ac=>Zr (Zy ?_)))))));obtain rfl:=Zm Ak;exact ⟨_,AB9 ABa (cZ.klen (Ac.z p2)) rfl (Ac.b p4),Ac.x,_,rfl,(Ac.z p2).2⟩
def AJe (fuel:Nat) (a1 a2 Aa:Int) (Ac:LiI):Option ((Int × LiI) ⊕ ((LiI))):=
  (if Aa < ((List.replicate (Int.toNat a1) ([]:List Int)).length:Int) then (if 0<=a2/\a2<=100000000 then ((gI Ac Aa).bind fun Ae=>(some (Sum.inl ((w64 (Aa + 1)),(sI Ac Aa (List.replicate (Int.toNat a2) (0:Int))))))) else none) else (some (Sum.inr<| Ac)))
def AC0 (fuel:Nat) (a1 a2:Int):Option LiI:=
  (if 0<=a1/\a1<=100000000 then ((iter (fun s=>AJe fuel a1 a2 s.1 s.2) fuel (0,(List.replicate (Int.toNat a1) ([]:List Int)))).bind (fun (Ac:LiI)=>(some Ac))) else none)
theorem AGg {fuel:Nat} {h:Zs} {a1 a2:Int} {r:LiI} (hp:AC0 fuel a1 a2=some r):AAs Tryz.prog 92 #[(.int .i64 a1),(.int .i64 a2)] h (fun x h'=>Ext h h'/\ ∃ (x0:Value) (F0:List Nat) (Ak:List LnA) (Am:List Value),x=x0/\ACp cZ 128 94 h' F0 Ak Am x0 r/\Sp h' h.size [F0]):=by
 unfold AC0 at hp;refine cwf (l:=[_,_]) Tryz.func92 rfl rfl (Zn (AA3 (Zk ?_)));obtain ⟨Ao,Ap⟩:=ifN hp;refine ARc cZ 94 ABu Adg rfl trivial tt2 rfl rfl Zl Ao fun Aq Ar Au v9 h7 I8 E5 S6=>Zv (Zo (Zn (Zk ?_)));have Ad:=(Kst.k0 h).no2 E5 S6 I8;refine ABe ABu rfl (Ad.o2 p0).rd (Zk (Zr (Zt (AFr 1046592 (fun x:(Int) × (LiI) × LnA × LnN × LvA=>(x.1,x.2.1)) ((0,(List.replicate (Int.toNat a1) ([]:List Int)),Aq,Ar,Au):(Int) × (LiI) × LnA × LnN × LvA) Ap (fun x=>[(11,(.int .i64 x.1))]) (fun x=>Ad.L.set 0 (aO2 cZ 128 94 x.2.2.1 x.2.2.2.1 x.2.2.2.2 v9 x.2.1)) Ad ⟨rfl,trivial⟩ ?_))));rintro ⟨Bg,Bh,Bi,Bj,Bl⟩ Bm Bn Bo Ab Ae Az;unfold AJe at Ae;refine Zn (AAy rfl rfl (Zr (Zo (⟨_,rfl,fun Af=>?_,fun Af=>?_⟩))))
 ·refine Zx (q_t (Zo (Zt (Zn (Zk (Zv (Z1 (Zk (Zk (Zk ?_))))))))));obtain ⟨A3,A4⟩:=ifN (AA7 Ae Af);refine Ae9 ACn AEb rfl trivial tt2 rfl rfl Zl A3 fun Bp Bq Br A5 A6 A7 A8=>?_;have Aa:=Ab.no A6 (AEv A7 A8) A5;obtain ⟨Bt,Aj,A9⟩:=Zp A4;refine ACt ABu rfl (Aa.o2 p1) rfl Aj fun Bu Bv Ba Bw Bx=>ARb ADi (Aa.o2 p1) Aj Ba rfl rfl (Aa.o p0) (Aa.dj p0 p1 Zl) fun By Bb Bc Be=>AAh (q_b (q_t (Z1 (AAz rfl rfl (Zk (Zr ?_))))));exact ⟨(_,_,_,_,_),(Zm A9).symm,(Aa.m2 p0 p1 Zl Bc Bb (fun z hz=> .inl (Be z hz))).sel [1] Zl,rfl,trivial⟩
 ·refine AAe (AAf (AAf (ABk (q_t (Zn (Zk (Zv (Zy ?_))))))));obtain rfl:=Zm (Az _ (Zm (AA8 Ae Af)).symm);exact ⟨_,Zz,Ab.x,_,_,_,_,rfl,(Ab.o2 p0),Ab.s.sel [0] Zl⟩
def AG1 (fuel:Nat) (a3:LiI) (Ab:Int) (Af:LiA) (Aa:Int) (Ac:LiI):Option ((Int × LiI) ⊕ ((LiI))):=
  (if Aa < (Af.length:Int) then ((gI Ac Ab).bind fun Ad=>((gI a3 Ab).bind fun Ag=>((gI Ag Aa).bind fun Ah=>((AKt fuel Ah).bind fun Ai=>((gI Ad Aa).bind fun Aj=>(some (Sum.inl ((w64 (Aa + 1)),(sI Ac Ab (sI Ad Aa Ai)))))))))) else (some (Sum.inr<| Ac)))
def AG2 (fuel:Nat) (a3:LiI) (Aa:Int) (Ac:LiI):Option ((Int × LiI) ⊕ ((LiI))):=
  (if Aa < (a3.length:Int) then ((gI a3 Aa).bind fun Ad=>((iter (fun s=>AG1 fuel a3 Aa Ad s.1 s.2) fuel (0,Ac)).bind (fun (Ae:LiI)=>(some (Sum.inl ((w64 (Aa + 1)),Ae)))))) else (some (Sum.inr<| Ac)))
def AG3 (fuel:Nat) (a3:LiI) (Ab:Int):Option ((Int) ⊕ (((LiI × Bool)) ⊕ (Unit))):=
  (if Ab < (a3.length:Int) then ((gI a3 Ab).bind fun Ac=>(if (Ac.length:Int) < 1 then (some (Sum.inr<| Sum.inl <| ([],false))) else (if 16 < (Ac.length:Int) then (some (Sum.inr<| Sum.inl <| ([],false))) else ((gI a3 0).bind fun Ad=>(if ¬ (Ac.length:Int)=(Ad.length:Int) then (some (Sum.inr<| Sum.inl <| ([],false))) else (some (Sum.inl (w64 (Ab + 1))))))))) else (some (Sum.inr<| Sum.inr <| ())))
def ACe (fuel:Nat) (a3:LiI):Option (LiI × Bool):=
  (((if (a3.length:Int) < 1 then (some (Sum.inl <| ([],false))) else (if 16 < (a3.length:Int) then (some (Sum.inl <| ([],false))) else (some (Sum.inr <| ())))):Option (((LiI × Bool)) ⊕ (Unit))).bind (fun ex=>match ex with | Sum.inl Ab=>(some Ab) | Sum.inr (_)=>((iter (fun s=>AG3 fuel a3 s) fuel 0).bind (fun ex=>match ex with | Sum.inl Ac=>(some Ac) | Sum.inr (_)=>((gI a3 0).bind fun Ad=>((AC0 fuel (a3.length:Int) (Ad.length:Int)).bind fun Ae=>((iter (fun s=>AG2 fuel a3 s.1 s.2) fuel (0,Ae)).bind (fun (Af:LiI)=>(some (Af,true))))))))))
theorem AOt {fuel:Nat} {h:Zs} {Ba:Value} {a3:LiI} {r:(LiI × Bool)} (H2:AEq (cI .i64) h Ba a3) (hp:ACe fuel a3=some r):AAs Tryz.prog 48 #[Ba] h (fun x h'=>Ext h h'/\ ∃ (x0:Value) (F0:List Nat) (Bq:List LnA) (Br:List Value),x= .tuple #[x0,.bool r.2]/\ACp cZ 128 94 h' F0 Bq Br x0 r.1/\Sp h' h.size [F0]):=by
 unfold ACe at hp;refine cwf (l:=[_]) Tryz.func48 rfl rfl (Zn (AAi (Zv ?_)));have K0:=Kst.k0 h;obtain ⟨Bt,Be,Ao⟩:=Zp hp;refine AI8 130572 (fun x:Unit=>[]) (fun x h'=>(Sum.inr <| ())=Bt/\Kst h h' (K0.L)) ?_ ?_
 ·refine Zn (Zk (ABe AAn rfl H2 (AAy rfl rfl (Zk ?_))));by_cases Ag:(a3.length:Int) < 1
  ·rw [decide_eq_true Ag];refine AH3 12 true (AAd rfl (Zr (AAl rfl (Zn (AAi (Zv ?_))))));obtain rfl:=Zm (ifT Be Ag);refine Zy (AAc ?_);have Ap:=Kst.anil2 cZ 128 94 K0;obtain rfl:=Zm Ao;exact ⟨_,ABg,Ap.x,_,_,_,_,rfl,(Ap.o2 p0),Ap.s.sel [0] Zl⟩
  ·have Bf:=ifF Be Ag;rw [decide_eq_false Ag];refine AAk 12 false (Zk (AAk 12 false (ABe AAn rfl H2 (AAk 12 false (AGz rfl rfl (AAo rfl (Zr (⟨_,rfl,fun Aq=>?_,fun Aq=>?_⟩))))))))
   ·refine Zn (AAi (Zv ?_));obtain rfl:=Zm (AA7 Bf Aq);refine Zy (AAc ?_);have Ar:=Kst.anil2 cZ 128 94 K0;obtain rfl:=Zm Ao;exact ⟨_,ABg,Ar.x,_,_,_,_,rfl,(Ar.o2 p0),Ar.s.sel [0] Zl⟩
   ·refine Zx (q_t ?_);exact ⟨(():Unit),⟨Zm (AA8 Bf Aq),K0⟩,trivial⟩
 rintro ⟨⟩ C3 C4 ⟨Bu,Bg⟩;subst Bu;refine Zo (Zn (Zk (ABe AAn rfl H2 (Zk (Zr (Zt (AHm 2199022731308 Ao (fun x=>[(19,(.int .i64 x))]) (fun x=>Bg.L) Bg ⟨rfl,trivial⟩ ?_)))))));rintro C5 C6 C7 C8 Ab Au Ah;unfold AG3 at Au;refine Zn (AAy rfl rfl (Zr (Zo (⟨_,rfl,fun Av=>?_,fun Av=>?_⟩))))
 ·refine Zx (q_t (Zo (Zt (Zn ?_))));obtain ⟨Bh,Bv,Bi⟩:=Zp (AA7 Au Av);refine AJw AAn AA1 H2 Ab.x Bv fun _ C9 Aw=>AA3 (Zk (ABr AAj rfl Aw (AAy rfl rfl (Zk ?_))));by_cases Ai:(Bh.length:Int) < 1
  ·rw [decide_eq_true Ai];refine AH3 26 true (AAd rfl (Zk (AE5 31 true (AHi 31 true (AAd rfl (Zr (AAl rfl (Zn (AAi (Zv (Zy (ABp (AAc (AAc (ABp (AAc ?_))))))))))))))));have Ax:=Kst.anil2 cZ 128 94 Ab;obtain rfl:=Zm (Ah _ (Zm (ifT Bi Ai)).symm);exact ⟨_,ABg,Ax.x,_,_,_,_,rfl,(Ax.o2 p0),Ax.s.sel [0] Zl⟩
  ·have Bj:=ifF Bi Ai;rw [decide_eq_false Ai];refine AAk 26 false (Zk (AAk 26 false (ABr AAj rfl Aw (AAk 26 false (AGz rfl rfl (AAo rfl (Zk ?_)))))));by_cases Aj:16 < (Bh.length:Int)
   ·rw [decide_eq_true Aj];refine AE5 31 true (AHi 31 true (AAd rfl (Zr (AAl rfl (Zn (AAi (Zv (Zy (ABp (AAc (AAc (ABp (AAc ?_)))))))))))));have Ay:=Kst.anil2 cZ 128 94 Ab;obtain rfl:=Zm (Ah _ (Zm (ifT Bj Aj)).symm);exact ⟨_,ABg,Ay.x,_,_,_,_,rfl,(Ay.o2 p0),Ay.s.sel [0] Zl⟩
   ·rw [decide_eq_false Aj];refine AAk 31 false (Zk (AAk 31 false (ABr AAj rfl Aw (AAk 31 false (Zk (AAk 31 false ?_))))));obtain ⟨Da,Bw,Bl⟩:=Zp (ifF Bj Aj);refine ATd AAn rfl H2 rfl Bw fun Db Dc Dd Bx By=>AAk 31 false (AA6 AA1 rfl (AAu Bx Ab.x) (AAk 31 false (ABr AAj rfl By (AAk 31 false (ADc rfl rfl (AAo rfl (Zr (⟨_,rfl,fun Az=>?_,fun Az=>?_⟩))))))))
    ·refine Zn (AAi (Zv (Zy (ABp (AAc (AAc (ABp (AAc ?_))))))));have A3:=Kst.anil2 cZ 128 94 Ab;obtain rfl:=Zm (Ah _ (Zm (AA7 Bl Az)).symm);exact ⟨_,ABg,A3.x,_,_,_,_,rfl,(A3.o2 p0),A3.s.sel [0] Zl⟩
    ·refine Zx (q_b (q_t (Z1 (AAz rfl rfl (Zk (Zr ?_))))));exact ⟨_,(Zm (AA8 Bl Az)).symm,Ab,rfl,trivial⟩
 ·refine AAe (AAf (AAf (ABk (q_t (Zn (Zk (ABe AAn rfl H2 (Zk ?_))))))));obtain ⟨De,Bz,B1⟩:=Zp (Ah _ (Zm (AA8 Au Av)).symm);refine AJw AAn AA1 H2 Ab.x Bz fun _ Df B3=>ABr AAj rfl B3 ?_;obtain ⟨B4,B5,B6⟩:=Zp B1;refine ANo Ab (AGg B5) fun B7 B8 B9 Bm Dg Dh Bn=>Zv (Zo (Zn (Zk (ABe AAn rfl H2 (Zk (Zr (Zt (AFr 151115726325928739996032 (fun x:(Int) × (LiI) × LnA × LnN × LvA=>(x.1,x.2.1)) ((0,B4,B7,B8,B9):(Int) × (LiI) × LnA × LnN × LvA) B6 (fun x=>[(50,(.int .i64 x.1))]) (fun x=>Bn.L.set 0 (aO2 cZ 128 94 x.2.2.1 x.2.2.2.1 x.2.2.2.2 Bm x.2.1)) Bn ⟨rfl,trivial⟩ ?_))))))));rintro ⟨Bo,Ca,Cb,Cd,Ce⟩ Di Dj Dk Ac A4 Cf;unfold AG2 at A4;refine Zn (AAy rfl rfl (Zr (Zo (⟨_,rfl,fun A5=>?_,fun A5=>?_⟩))))
  ·refine Zx (q_t (Zo (Zt (Zn (Zk (AA3 (Zk (Zk ?_))))))));obtain ⟨Dl,Cg,Ch⟩:=Zp (AA7 A4 A5);refine AJw AAn AA1 H2 Ac.x Cg fun _ Do Ci=>ABr AAj rfl Ci (Zk (Zr (Zt (AFr 75557575495538171707648 (fun x:(Int) × (LiI) × LnA × LnN × LvA=>(x.1,x.2.1)) ((0,Ca,Cb,Cd,Ce):(Int) × (LiI) × LnA × LnN × LvA) Ch (fun x=>[(58,(.int .i64 x.1))]) (fun x=>Ac.L.set 0 (aO2 cZ 128 94 x.2.2.1 x.2.2.2.1 x.2.2.2.2 Bm x.2.1)) Ac ⟨rfl,trivial⟩ ?_))));rintro ⟨Dp,Dq,Dr,Ds,Dt⟩ Du A6 Dv Ad A7 Cj;unfold AG1 at A7;refine Zn (AAy rfl rfl (Zr (Zo (⟨_,rfl,fun A8=>?_,fun A8=>?_⟩))))
   ·refine Zx (q_t (Zo (Zt (Zn (Zk (Zv (ACb (fun h'=>UpT [] A6 h') Zw ?_)))))));have Ak:UpT [] A6 A6:=UpT.start all_nil;refine Zk (Zk ?_);obtain ⟨Dw,A9,Ck⟩:=Zp (AA7 A7 A8);refine ACt ABu rfl (Ad.o2 p0) rfl A9 fun Dx Dy Dz Cm Cn=>AB8 ADi rfl Ak (fun h' hb=>AAu Cn hb.ext) (Zk (Zk (Zk ?_)));obtain ⟨D0,Co,Cp⟩:=Zp Ck;refine ATd AAn rfl H2 rfl Co fun D1 D2 D3 Cq Cr=>AB8 AA1 rfl Ak (fun h' hb=>AAu Cq (Ad.x.trans hb.ext)) (Zk ?_);obtain ⟨D4,Ct,Cu⟩:=Zp Cp;refine AJb (c:=(cI .i64)) AAj rfl Cr rfl Ct fun D5 D6 D7 Cv Cw=>?_;obtain rfl:=Cv;refine AB8 AAt rfl Ak (fun h' hb=>AAu (Cw 0 _ rfl) (Ad.x.trans hb.ext)) ?_;obtain ⟨D8,Cx,Cy⟩:=Zp Cu;refine AEz Ad Ak (AJc Cx) fun D9 Ea Eb Ae Ec=>?_;obtain ⟨Ed,Bp,Cz⟩:=Zp Cy;refine AEa (m:=Bo) ACn rfl (Ad.o2 p0) Cm A9 rfl Bp fun Ee C0=>ALu (m:=Bo) (AQf ABa (cZ.klen (Ae.z p0)) rfl rfl (cZ.one (Ae.z p0))) (Ae.o2 p1) C0 A9 Bp (Ae.z p0) fun Ef C1 C2=>AAh (q_b (q_t (Z1 (AAz rfl rfl (Zk (Zr ?_))))));exact ⟨(_,_,_,_,_),(Zm Cz).symm,(Ae.uO2 p1 C2 C1).sel [1] Zl,rfl,trivial⟩
   ·refine AAe (AAf (AAf (ABk (q_b (q_t (Z1 (AAz rfl rfl (Zk (Zr ?_)))))))));exact ⟨(_,_,_,_,_),(Zm (Cj _ (Zm (AA8 A7 A8)).symm)).symm,Ad,rfl,trivial⟩
  ·refine AAe (AAf (AAf (ABk (q_t (Zn (Zk (AAi (Zv (Zy ?_)))))))));obtain rfl:=Zm (Cf _ (Zm (AA8 A4 A5)).symm);exact ⟨_,ABg,Ac.x,_,_,_,_,rfl,(Ac.o2 p0),Ac.s.sel [0] Zl⟩
def ADx (fuel:Nat) (a3:LiI):Option LiI:=
  ((ACe fuel a3).bind fun (x5,x6)=>(some x5))
theorem AKl {fuel:Nat} {h:Zs} {Ab:Value} {a3 r:LiI} (H2:AEq (cI .i64) h Ab a3) (hp:ADx fuel a3=some r):AAs Tryz.prog 25 #[Ab] h (fun x h'=>Ext h h'/\ ∃ (x0:Value) (F0:List Nat) (Ai:List LnA) (Aj:List Value),x=x0/\ACp cZ 128 94 h' F0 Ai Aj x0 r/\Sp h' h.size [F0]):=by
 unfold ADx at hp;refine cwf (l:=[_]) Tryz.func25 rfl rfl (Zn (AA3 (Zk ?_)));have K0:=Kst.k0 h;obtain ⟨⟨x5,x6⟩,Ak,Ag⟩:=Zp hp;dsimp only at Ag;refine AMx rfl (AOt (H2.ext K0.x) Ak) fun Av Aw E9 Ao=>?_;obtain ⟨Ax,Ay,Az,A3,rfl,Ap,Aq⟩:=Ao;refine Zk (ABj rfl rfl (ABj rfl rfl (AAi (AA3 (Zk (Zv (Zy ?_)))))));have Aa:=K0.no2 E9 Aq Ap;obtain rfl:=Zm Ag;exact ⟨_,Zz,Aa.x,_,_,_,_,rfl,(Aa.o2 p0),Aa.s.sel [0] Zl⟩
def AF6 (fuel:Nat) (a3:LiI) (Ab:Int):Option ((Int) ⊕ (((Int × Int × Bool)) ⊕ (Unit))):=
  (if Ab < (a3.length:Int) then ((gI a3 Ab).bind fun Ac=>(if (Ac.length:Int) < 1 then (some (Sum.inr<| Sum.inl <| (0,0,false))) else (if 16 < (Ac.length:Int) then (some (Sum.inr<| Sum.inl <| (0,0,false))) else ((gI a3 0).bind fun Ad=>(if ¬ (Ac.length:Int)=(Ad.length:Int) then (some (Sum.inr<| Sum.inl <| (0,0,false))) else (some (Sum.inl (w64 (Ab + 1))))))))) else (some (Sum.inr<| Sum.inr <| ())))
def ACi (fuel:Nat) (a3:LiI):Option (Int × Int × Bool):=
  (((if (a3.length:Int) < 1 then (some (Sum.inl <| (0,0,false))) else (if 16 < (a3.length:Int) then (some (Sum.inl <| (0,0,false))) else (some (Sum.inr <| ())))):Option (((Int × Int × Bool)) ⊕ (Unit))).bind (fun ex=>match ex with | Sum.inl Ab=>(some Ab) | Sum.inr (_)=>((iter (fun s=>AF6 fuel a3 s) fuel 0).bind (fun ex=>match ex with | Sum.inl Ac=>(some Ac) | Sum.inr (_)=>((gI a3 0).bind fun Ad=>(some ((a3.length:Int),(Ad.length:Int),true)))))))
theorem AF7 {fuel:Nat} {h:Zs} {Aq:Value} {a3:LiI} {r:(Int × Int × Bool)} (H2:AEq cZ h Aq a3) (hp:ACi fuel a3=some r):AAs Tryz.prog 116 #[Aq] h (fun x h'=>Ext h h'/\x= .tuple #[.int .i64 r.1,.int .i64 r.2.1,.bool r.2.2]):=by
 unfold ACi at hp;refine cwf (l:=[_]) Tryz.func116 rfl rfl (Zn (AAi (AAi (Zv ?_))));have K0:=Kst.k0 h;obtain ⟨A3,Ar,Ai⟩:=Zp hp;refine AI8 32668 (fun x:Unit=>[]) (fun x h'=>(Sum.inr <| ())=A3/\Kst h h' (K0.L)) ?_ ?_
 ·refine Zn (Zk (ABe ABu rfl H2 (AAy rfl rfl (Zk ?_))));by_cases Ad:(a3.length:Int) < 1
  ·rw [decide_eq_true Ad];refine AH3 10 true (AAd rfl (Zr (AAl rfl (Zn (AAi (AAi (Zv ?_)))))));obtain rfl:=Zm (ifT Ar Ad);refine Zy (AAc ?_);obtain rfl:=Zm Ai;exact ⟨_,AIt,K0.x,rfl⟩
  ·have Au:=ifF Ar Ad;rw [decide_eq_false Ad];refine AAk 10 false (Zk (AAk 10 false (ABe ABu rfl H2 (AAk 10 false (AGz rfl rfl (AAo rfl (Zr (⟨_,rfl,fun Aj=>?_,fun Aj=>?_⟩))))))))
   ·refine Zn (AAi (AAi (Zv ?_)));obtain rfl:=Zm (AA7 Au Aj);refine Zy (AAc ?_);obtain rfl:=Zm Ai;exact ⟨_,AIt,K0.x,rfl⟩
   ·refine Zx (q_t ?_);exact ⟨(():Unit),⟨Zm (AA8 Au Aj),K0⟩,trivial⟩
 rintro ⟨⟩ Bc Be ⟨A4,Av⟩;subst A4;refine Zo (Zn (Zk (ABe ABu rfl H2 (Zk (Zr (Zt (AHm 549755682908 Ai (fun x=>[(17,(.int .i64 x))]) (fun x=>Av.L) Av ⟨rfl,trivial⟩ ?_)))))));rintro Bf Bg Bh Bi Aa Ak Ae;unfold AF6 at Ak;refine Zn (AAy rfl rfl (Zr (Zo (⟨_,rfl,fun Am=>?_,fun Am=>?_⟩))))
 ·refine Zx (q_t (Zo (Zt (Zn ?_))));obtain ⟨Aw,A5,Ax⟩:=Zp (AA7 Ak Am);refine AJw ABu ADi H2 Aa.x A5 fun _ Bj Ao=>AA3 (Zk (ABr ACn rfl Ao (AAy rfl rfl (Zk ?_))));by_cases Af:(Aw.length:Int) < 1
  ·rw [decide_eq_true Af];refine AH3 24 true (AAd rfl (Zk (AE5 29 true (AHi 29 true (AAd rfl (Zr (AAl rfl (Zn (AAi (AAi (Zv (Zy (ABp (AAc (AAc (ABp (AAc ?_)))))))))))))))));obtain rfl:=Zm (Ae _ (Zm (ifT Ax Af)).symm);exact ⟨_,AIt,Aa.x,rfl⟩
  ·have Ay:=ifF Ax Af;rw [decide_eq_false Af];refine AAk 24 false (Zk (AAk 24 false (ABr ACn rfl Ao (AAk 24 false (AGz rfl rfl (AAo rfl (Zk ?_)))))));by_cases Ag:16 < (Aw.length:Int)
   ·rw [decide_eq_true Ag];refine AE5 29 true (AHi 29 true (AAd rfl (Zr (AAl rfl (Zn (AAi (AAi (Zv (Zy (ABp (AAc (AAc (ABp (AAc ?_))))))))))))));obtain rfl:=Zm (Ae _ (Zm (ifT Ay Ag)).symm);exact ⟨_,AIt,Aa.x,rfl⟩
   ·rw [decide_eq_false Ag];refine AAk 29 false (Zk (AAk 29 false (ABr ACn rfl Ao (AAk 29 false (Zk (AAk 29 false ?_))))));obtain ⟨Bl,A6,Az⟩:=Zp (ifF Ay Ag);refine ATd ABu rfl H2 rfl A6 fun Bm Bn Bo A7 A8=>AAk 29 false (AA6 ADi rfl (AAu A7 Aa.x) (AAk 29 false (ABr ACn rfl A8 (AAk 29 false (ADc rfl rfl (AAo rfl (Zr (⟨_,rfl,fun Ap=>?_,fun Ap=>?_⟩))))))))
    ·refine Zn (AAi (AAi (Zv (Zy (ABp (AAc (AAc (ABp (AAc ?_)))))))));obtain rfl:=Zm (Ae _ (Zm (AA7 Az Ap)).symm);exact ⟨_,AIt,Aa.x,rfl⟩
    ·refine Zx (q_b (q_t (Z1 (AAz rfl rfl (Zk (Zr ?_))))));exact ⟨_,(Zm (AA8 Az Ap)).symm,Aa,rfl,trivial⟩
 ·refine AAe (AAf (AAf (ABk (q_t (Zo (AGh (Zk (ABe ABu rfl H2 (Zk ?_)))))))));obtain ⟨Bp,A9,Ba⟩:=Zp (Ae _ (Zm (AA8 Ak Am)).symm);refine AJw ABu ADi H2 Aa.x A9 fun _ Bq Bb=>ABr ACn rfl Bb (AAi (AAi (Zv (Zy ?_))));obtain rfl:=Zm Ba;exact ⟨_,AIt,Aa.x,rfl⟩
def AD3 (fuel:Nat) (a3:LiI):Option (Int × Bool):=
  ((ACi fuel a3).bind fun (x5,x6,x7)=>(if (!x7)=true then (some (0,false)) else (if ¬ x5=x6 then (some (0,false)) else (some (x5,true)))))
theorem ALr {fuel:Nat} {h:Zs} {Ad:Value} {a3:LiI} {r:(Int × Bool)} (H2:AEq cZ h Ad a3) (hp:AD3 fuel a3=some r):AAs Tryz.prog 94 #[Ad] h (fun x h'=>Ext h h'/\x= .tuple #[.int .i64 r.1,.bool r.2]):=by
 unfold AD3 at hp;refine cwf (l:=[_]) Tryz.func94 rfl rfl (Zn (AAi (AA3 (Zk ?_))));have K0:=Kst.k0 h;obtain ⟨⟨x5,x6,x7⟩,Ak,Aa⟩:=Zp hp;dsimp only at Aa;refine ADk K0 (AF7 (H2.ext K0.x) Ak) fun Ap Aq Ab=>Zk (ABj rfl rfl (ABj rfl rfl (ABj rfl rfl (AAi (AAi (Zv (Zo (Zn (Zk (ADp rfl (Zk ?_)))))))))));cases Ag:(!x7)
 ·refine AAk 15 false (Zk (AAk 15 false (Zk (AAk 15 false (ADc rfl rfl (AAo rfl (Zr ?_)))))));have Ah:=AH9 Aa Ag;refine ⟨_,rfl,fun Ac=>?_,fun Ac=>?_⟩
  ·refine Zn (AAi (Zv (Zy (AAc ?_))));obtain rfl:=Zm (AA7 Ah Ac);exact ⟨_,ABg,Ab.x,rfl⟩
  ·refine Zx (q_t (Zn (Zk (AAi (Zv (Zy ?_))))));obtain rfl:=Zm (AA8 Ah Ac);exact ⟨_,ABg,Ab.x,rfl⟩
 ·refine AH3 15 true (AAd rfl (Zr (AAl rfl (Zn (AAi (Zv (Zy (AAc ?_))))))));obtain rfl:=Zm (ifT Aa Ag);exact ⟨_,ABg,Ab.x,rfl⟩
def AJf (fuel:Nat) (Ac:Int) (Ad:LiA) (Aa:Int) (Ab:LiI):Option ((Int × LiI) ⊕ ((LiI))):=
  (if Aa < (Ad.length:Int) then ((gI Ad Aa).bind fun Af=>((gI Ab Ac).bind fun Ae=>((AQh fuel Af).bind fun Ag=>(if Ae.length<=100000000 then (some (Sum.inl ((w64 (Aa + 1)),(sI Ab Ac (Ae ++ [Ag]))))) else none)))) else (some (Sum.inr<| Ab)))
def AJg (fuel:Nat) (a3:LiI) (Aa:Int) (Ac:LiI):Option ((Int × LiI) ⊕ ((LiI))):=
  (if Aa < (a3.length:Int) then ((gI a3 Aa).bind fun Ad=>((iter (fun s=>AJf fuel Aa Ad s.1 s.2) fuel (0,Ac)).bind (fun (Ae:LiI)=>(some (Sum.inl ((w64 (Aa + 1)),Ae)))))) else (some (Sum.inr<| Ac)))
def AE0 (fuel:Nat) (a3:LiI):Option LiI:=
  (if 0<=(a3.length:Int)/\(a3.length:Int)<=100000000 then ((iter (fun s=>AJg fuel a3 s.1 s.2) fuel (0,(List.replicate (Int.toNat (a3.length:Int)) ([]:List Int)))).bind (fun (Ab:LiI)=>(some Ab))) else none)
theorem AMb {fuel:Nat} {h:Zs} {Aq:Value} {a3 r:LiI} (H2:AEq cZ h Aq a3) (hp:AE0 fuel a3=some r):AAs Tryz.prog 57 #[Aq] h (fun x h'=>Ext h h'/\ ∃ (x0:Value) (F0:List Nat) (A4:List LnA) (A5:List Value),x=x0/\ACp cZ 128 94 h' F0 A4 A5 x0 r/\Sp h' h.size [F0]):=by
 unfold AE0 at hp;refine cwf (l:=[_]) Tryz.func57 rfl rfl (Zn (AA3 (Zk (ABe ABu rfl H2 ?_))));obtain ⟨A6,A7⟩:=ifN hp;refine ARc cZ 94 ABu Adg rfl trivial tt2 rfl rfl Zl A6 fun A8 A9 Ba v11 h9 Bb E7 S8=>Zv (Zo (Zn (Zk (ABe ABu rfl H2 (Zk (Zr (Zt ?_)))))));have Av:=(Kst.k0 h).no2 E7 S8 Bb;refine AFr 137438949456 (fun x:(Int) × (LiI) × LnA × LnN × LvA=>(x.1,x.2.1)) ((0,(List.replicate (Int.toNat (a3.length:Int)) ([]:List Int)),A8,A9,Ba):(Int) × (LiI) × LnA × LnN × LvA) A7 (fun x=>[(12,(.int .i64 x.1))]) (fun x=>Av.L.set 0 (aO2 cZ 128 94 x.2.2.1 x.2.2.2.1 x.2.2.2.2 v11 x.2.1)) Av ⟨rfl,trivial⟩ ?_;rintro ⟨Cg,Bf,Bg,Bh,Bi⟩ Ch Ci Cj Ab Ah Bj;unfold AJg at Ah;refine Zn (AAy rfl rfl (Zr (Zo (⟨_,rfl,fun Ai=>?_,fun Ai=>?_⟩))))
 ·refine Zx (q_t (Zo (Zt (Zn (Zk (AA3 (Zk (Zk ?_))))))));obtain ⟨Ck,Bl,Bm⟩:=Zp (AA7 Ah Ai);refine AJw ABu ADi H2 Ab.x Bl fun _ Cm Aw=>ABr ACn rfl Aw (Zk (Zr (Zt (AFr 68718428224 (fun x:(Int) × (LiI) × LnA × LnN × LvA=>(x.1,x.2.1)) ((0,Bf,Bg,Bh,Bi):(Int) × (LiI) × LnA × LnN × LvA) Bm (fun x=>[(20,(.int .i64 x.1))]) (fun x=>Ab.L.set 0 (aO2 cZ 128 94 x.2.2.1 x.2.2.2.1 x.2.2.2.2 v11 x.2.1)) Ab ⟨rfl,trivial⟩ ?_))));rintro ⟨Cn,Co,Cp,Cq,Cr⟩ Ct Cu Cv Ad Aj Bn;unfold AJf at Aj;refine Zn (AAy rfl rfl (Zr (Zo (⟨_,rfl,fun Ak=>?_,fun Ak=>?_⟩))))
  ·refine Zx (q_t (Zo (Zt (Zn ?_))));obtain ⟨Cw,Bo,Bp⟩:=Zp (AA7 Aj Ak);refine AJb (c:=cZ) ACn rfl Aw rfl Bo fun Cx Cy Bq Ae Br=>ANh (c:=cZ) ABa rfl (Ad.zx Ae) (fun j u hu=>(AAu (Br j u hu) Ad.x)) (ACx Ad [.bool false,.slice none 0 0] AEb fun Cz Bt C0 Ax=>AFc Ax p0 (AAa Bt) (Ax.zx Ae) fun Am Aa=>Zr ?_);obtain ⟨C1,Ao,Bu⟩:=Zp Bp;obtain ⟨Ay,Bv,Bw,Bx,By⟩:=(Aa.o2 p1).rowG Ao;refine ACb (fun h'=>UpT (Ay ++ []) Am h') Zw ?_;have Ac:UpT (Ay ++ []) Am Am:=UpT.start (ACk Bx all_nil);refine Zk (Zk (Zk (Zk (ACt ABu rfl (Aa.o2 p1) rfl Ao fun C2 C3 Bz B1 B3=>AB8 ADi rfl Ac (fun h' hb=>AKi B3 hb (AQu (By _ Bz) AQv)) (AGx Bq ABa (cZ.klen (Aa.zx Ae)) rfl Ac (fun h' hb=>((Aa.b p0).upT hb (Akw (fun b hb hg=>(Aa.dj p0 p1 Zl) b hb (Bw b hg)) Akx)).agg) ?_)))));obtain ⟨C4,B4,B5⟩:=Zp Bu;refine AD2 Ac (fun _ E=>Ac.thenE E) rfl (AR6 (Aa.zx Ae).2 B4) fun C5 C6 Az B6=>?_;obtain ⟨C7,rfl,B7⟩:=B6;have A3:=Ac.thenE Az;obtain ⟨C8,rfl,B8⟩:=B7.cs;have Ap:=(Aa.e Az).az B8;obtain ⟨B9,Ca⟩:=ifN B5;refine Aio ACn AEb rfl rfl ABu ADi (Ap.o2 p2) B1 Ao Bv A3 (fun _ U=>A3.then U (ALp rfl)) (fun _=>rfl) rfl (Ap.z p0) (fun _ _=>rfl) (fun _ _=>rfl) rfl Zl B9 fun C9 Da Db Dc Dd De Df Cb Cd Ce=>AAh (q_b (q_t (Z1 (AAz rfl rfl (Zk (Zr ?_))))));exact ⟨(_,_,_,_,_),(Zm Ca).symm,(Ap.uo2 p2 Cd Cb Ce).sel [2] Zl,rfl,trivial⟩
  ·refine AAe (AAf (AAf (ABk (q_b (q_t (Z1 (AAz rfl rfl (Zk (Zr ?_)))))))));exact ⟨(_,_,_,_,_),(Zm (Bn _ (Zm (AA8 Aj Ak)).symm)).symm,Ad,rfl,trivial⟩
 ·refine AAe (AAf (AAf (ABk (q_t (Zn (Zk (Zv (Zy ?_))))))));obtain rfl:=Zm (Bj _ (Zm (AA8 Ah Ai)).symm);exact ⟨_,Zz,Ab.x,_,_,_,_,rfl,(Ab.o2 p0),Ab.s.sel [0] Zl⟩
def AIa (fuel:Nat) (a3:LiI) (Ac:LiA) (Ae:Int) (Aa:LiA) (Ab:Int):Option ((LiA × Int) ⊕ ((LiA))):=
  (if Ab < (Ac.length:Int) then ((gI Ac Ab).bind fun Af=>((gI a3 Ae).bind fun Ag=>((gI Ag Af).bind fun Ah=>(if Aa.length<=100000000 then (some (Sum.inl ((Aa ++ [Ah]),(w64 (Ab + 1))))) else none)))) else (some (Sum.inr<| Aa)))
def AIb (fuel:Nat) (a3:LiI) (a7 Ae:LiA) (Aa:LiI) (Ab:Int):Option ((LiI × Int) ⊕ ((LiI))):=
  (if Ab < (a7.length:Int) then ((gI a7 Ab).bind fun Af=>((iter (fun s=>AIa fuel a3 Ae Af s.1 s.2) fuel ([],0)).bind (fun (Ag:LiA)=>(if Aa.length<=100000000 then (some (Sum.inl ((Aa ++ [Ag]),(w64 (Ab + 1))))) else none)))) else (some (Sum.inr<| Aa)))
def AD4 (fuel:Nat) (a3:LiI) (a7 Ac:LiA):Option LiI:=
  ((iter (fun s=>AIb fuel a3 a7 Ac s.1 s.2) fuel ([],0)).bind (fun (Ad:LiI)=>(some Ad)))
theorem ALs {fuel:Nat} {h:Zs} {Ag:Value} {a3:LiI} {Ai:Value} {a7:LiA} {Ak:Value} {Am:LiA} {r:LiI} (H2:AEq cZ h Ag a3) (H6:SlC (cI .i64) h Ai a7) (Ap:SlC (cI .i64) h Ak Am) (hp:AD4 fuel a3 a7 Am=some r):AAs Tryz.prog 149 #[Ag,Ai,Ak] h (fun x h'=>Ext h h'/\ ∃ (x0:Value) (F0:List Nat) (Ay:List LnA) (Az:List Value),x=x0/\ACp cZ 128 94 h' F0 Ay Az x0 r/\Sp h' h.size [F0]):=by
 unfold AD4 at hp;refine cwf (l:=[_,_,_]) Tryz.func149 rfl rfl (Zn (AA3 (Zv (Zo (Zn (Zk (ABr AUk rfl H6 (Zk (Zr (Zt ?_))))))))));have Au:=Kst.anil2 cZ 128 94 (Kst.k0 h);refine AFr 2199023228544 (fun x:(LiI) × (Value) × LnA × LnN × LvA × (Int)=>(x.1,x.2.2.2.2.2)) (([],(.slice none 0 0),[],[],[],0):(LiI) × (Value) × LnA × LnN × LvA × (Int)) hp (fun x=>[(7,x.2.1),(15,(.int .i64 x.2.2.2.2.2))]) (fun x=>Au.L.set 0 (aO2 cZ 128 94 x.2.2.1 x.2.2.2.1 x.2.2.2.2.1 x.2.1 x.1)) Au ⟨rfl,rfl,trivial⟩ ?_;rintro ⟨Br,Bt,Bu,Bv,Bw,Bx⟩ By Bz B1 Ab Ac A3;unfold AIb at Ac;refine Zn (AAy rfl rfl (Zr (Zo (⟨_,rfl,fun Ad=>?_,fun Ad=>?_⟩))))
 ·refine Zx (q_t (Zo (Zt (Zn ?_))));obtain ⟨B3,A4,A5⟩:=Zp (AA7 Ac Ad);refine AY0 AUk ABt H6 Ab.x A4 fun _=>(AA3 (Zv (Zo (Zn (Zk (ABr AUk rfl Ap (Zk (Zr (Zt ?_)))))))));have Av:=Kst.anil cZ 94 Ab;refine AFr 68717384704 (fun x:(LiA) × (Value) × LnA × (Int)=>(x.1,x.2.2.2)) (([],(.slice none 0 0),[],0):(LiA) × (Value) × LnA × (Int)) A5 (fun x=>[(10,x.2.1),(21,(.int .i64 x.2.2.2))]) (fun x=>Av.L.set 0 (aO cZ 94 x.2.2.1 x.2.1 x.1)) Av ⟨rfl,rfl,trivial⟩ ?_;rintro ⟨B4,B5,B6,B7⟩ B8 B9 Ca Aa Ae A6;unfold AIa at Ae;refine Zn (AAy rfl rfl (Zr (Zo (⟨_,rfl,fun Af=>?_,fun Af=>?_⟩))))
  ·refine Zx (q_t (Zo (Zt (Zn ?_))));obtain ⟨Cb,A7,A8⟩:=Zp (AA7 Ae Af);refine AY0 AUk ABt Ap Aa.x A7 fun _=>(Zv (Z1 (Zk (Zk (Zk ?_)))));obtain ⟨Cd,A9,Ba⟩:=Zp A8;refine AJw ABu ADi H2 Aa.x A9 fun _ Ce Bb=>Zk ?_;obtain ⟨Cf,Bc,Be⟩:=Zp Ba;refine AJb (c:=cZ) ACn rfl Bb rfl Bc fun Cg Ch Ci Aw Bf=>ANh (c:=cZ) ABa rfl (Aa.zx Aw) (fun j u hu=>(AAu (Bf j u hu) Aa.x)) ?_;obtain ⟨Bg,Bh⟩:=ifN Be;refine ALl ACn AEb rfl rfl trivial tt2 (fun _=>rfl) rfl (Aa.zx Aw) (Aa.o p0) Zl Bg fun Cj Ck Cm Cn Bi Bj Bl=>AAi (AAh (q_b (q_t (Z1 (AAz rfl rfl (Zk (Zr ?_)))))));exact ⟨(_,_,_,_),(Zm Bh).symm,(Aa.uo p0 Bj Bi Bl),rfl,rfl,trivial⟩
  ·refine AAe (AAf (AAf (ABk (q_t (Z1 (Zk (Zk ?_)))))));obtain ⟨Bm,Bn⟩:=ifN (A6 _ (Zm (AA8 Ae Af)).symm);refine Ago ABu Adg rfl rfl trivial tt2 (fun _=>rfl) rfl (Aa.o p0) (Aa.o2 p1) (Aa.dj p0 p1 Zl) Zl Bm fun Co Cp Cq Cr Bo Bp Bq=>AAi (AAh (q_b (q_t (Z1 (AAz rfl rfl (Zk (Zr ?_)))))));exact ⟨(_,_,_,_,_,_),(Zm Bn).symm,(Aa.m2 p0 p1 Zl Bp Bo Bq).sel [1] Zl,rfl,rfl,trivial⟩
 ·refine AAe (AAf (AAf (ABk (q_t (Zn (Zk (Zv (Zy ?_))))))));obtain rfl:=Zm (A3 _ (Zm (AA8 Ac Ad)).symm);exact ⟨_,Zz,Ab.x,_,_,_,_,rfl,(Ab.o2 p0),Ab.s.sel [0] Zl⟩
def AFz (fuel:Nat) (Ab:LiI) (Ac:Int) (Ad:LiI) (Aa:Int):Option ((Int) ⊕ ((Int))):=
  (((if Aa < (Ab.length:Int) then ((gI Ad Aa).bind fun Ae=>((gI Ae Ac).bind fun Af=>((AWl fuel Af).bind fun Ag=>(if Ag=0 then (some (Sum.inl <| ())) else (some (Sum.inr <| ())))))) else (some (Sum.inr <| ()))):Option ((Unit) ⊕ (Unit))).bind (fun ex=>match ex with | Sum.inl _=>(some (Sum.inl (w64 (Aa + 1)))) | Sum.inr (_)=>(some (Sum.inr<| Aa))))
def AF0 (fuel:Nat) (Ag:LiI) (Ac Ah Ae Aa:Int) (Ab:LiI):Option ((Int × LiI) ⊕ ((LiI))):=
  (if Aa < (Ag.length:Int) then ((gI Ab Ae).bind fun Ad=>((gI Ab Ac).bind fun Af=>((gI Af Ac).bind fun Ai=>((gI Ad Aa).bind fun Aj=>((AQg fuel Ai Aj).bind fun Ak=>((gI Ad Ac).bind fun Am=>((gI Af Aa).bind fun Ao=>((AQg fuel Am Ao).bind fun Ap=>((Aqc fuel Ak Ap).bind fun Aq=>((ACs fuel Aq Ah).bind fun Ar=>(some (Sum.inl ((w64 (Aa + 1)),(sI Ab Ae (sI Ad Aa Ar))))))))))))))) else (some (Sum.inr<| Ab)))
def AF1 (fuel:Nat) (Ab:LiI) (Ac Ae Aa:Int) (Ad:LiI):Option ((Int × LiI) ⊕ ((LiI))):=
  (if Aa < (Ab.length:Int) then ((iter (fun s=>AF0 fuel Ab Ac Ae Aa s.1 s.2) fuel ((w64 (Ac + 1)),Ad)).bind (fun (Af:LiI)=>(some (Sum.inl ((w64 (Aa + 1)),Af))))) else (some (Sum.inr<| Ad)))
def AF2 (fuel:Nat) (Ac:LiI) (Ae:Bool) (Aa:Int) (Ab:LiI) (Af:Int):Option ((Bool × Int × LiI × Int) ⊕ ((Int) ⊕ (Bool × Int))):=
  (if Aa < (Ac.length:Int) then ((((((iter (fun s=>AFz fuel Ac Aa Ab s) fuel Aa).bind (fun (Ah:Int)=>(some ( Ah)))):Option ((Int))).bind (fun (Ad:Int)=>(if Ad=(Ac.length:Int) then (some (Sum.inl <| 0)) else (((if Aa < Ad then ((gI Ab Aa).bind fun Ai=>((gI Ab Ad).bind fun Aj=>(some ( ((!Ae),(sI (sI Ab Ad Ai) Aa Aj)))))) else (some ( (Ae,Ab)))):Option ((Bool × LiI))).bind (fun ((Ak,Am):Bool × LiI)=>((iter (fun s=>AF1 fuel Ac Aa Af s.1 s.2) fuel ((w64 (Aa + 1)),Am)).bind (fun (Ag:LiI)=>((gI Ag Aa).bind fun Ao=>((gI Ao Aa).bind fun Ap=>(some (Sum.inr <| (Ak,Ag,Ap)))))))))))):Option ((Int) ⊕ (Bool × LiI × Int))).bind (fun ex=>match ex with | Sum.inl Aq=>(some (Sum.inr<| Sum.inl <| Aq)) | Sum.inr ((Ar,Au,Av))=>(some (Sum.inl (Ar,(w64 (Aa + 1)),Au,Av))))) else (some (Sum.inr<| Sum.inr <| (Ae,Af))))
def ABo (fuel:Nat) (a3:LiI):Option Int:=
  ((AE0 fuel a3).bind fun Aa=>((AKt fuel 1).bind fun Ad=>((iter (fun s=>AF2 fuel Aa s.1 s.2.1 s.2.2.1 s.2.2.2) fuel (false,0,Aa,Ad)).bind (fun ex=>match ex with | Sum.inl Ae=>(some Ae) | Sum.inr ((Af,Ab))=>(if Af=true then ((Adh fuel Ab).bind fun Ag=>(some Ag)) else (some Ab))))))
theorem ACv {fuel:Nat} {h:Zs} {Bj:Value} {a3:LiI} {r:Int} (H2:AEq cZ h Bj a3) (hp:ABo fuel a3=some r):AAs Tryz.prog 55 #[Bj] h (fun x h'=>Ext h h'/\ ∃ (x0:Value),x=x0/\ZZ h' x0 r):=by
 unfold ABo at hp;refine cwf (l:=[_]) Tryz.func55 rfl rfl (Zn (ACx (Kst.k0 h) [.bool false,.slice none 0 0] AEb fun b5 h6 E8 Bn=>AHj (Zk ?_)));obtain ⟨Bo,Cx,Cy⟩:=Zp hp;refine ANo Bn (AMb (H2.ext Bn.x) Cx) fun Cz C0 C1 v20 Gh Gi Bp=>AA3 (Zk (ABe ABu rfl (Bp.o2 p0).rd (AA3 ?_)));obtain ⟨C2,C3,C4⟩:=Zp Cy;refine AMg Bp (AJc C3) fun C5 Gj Gk C6=>ACx C6 [.bool false,.slice none 0 0] AEb fun Bq C7 Gl Br=>AFc Br p0 (AAa C7) (Br.z p1) fun Gm Bt=>Zv (Zo (Zn (Zv (Zt (AFr 2658455991569831745807614120560625600 (fun x:(Bool) × (Int) × (LiI) × LnA × LnN × LvA × (Int) × LvA=>(x.1,x.2.1,x.2.2.1,x.2.2.2.2.2.2.1)) ((false,0,Bo,Cz,C0,C1,C2,C5):(Bool) × (Int) × (LiI) × LnA × LnN × LvA × (Int) × LvA) C4 (fun x=>[(6,(.bool x.1)),(7,(.int .i64 x.2.1))]) (fun x=>((Bt.L.set 2 (aO2 cZ 128 94 x.2.2.2.1 x.2.2.2.2.1 x.2.2.2.2.2.1 v20 x.2.2.1)).set 1 (aZ x.2.2.2.2.2.2.2 x.2.2.2.2.2.2.1)).set 0 (aB 94 Bq x.2.2.2.2.2.2.2)) Bt ⟨rfl,rfl,trivial⟩ ?_)))));rintro ⟨Bu,Ag,Bv,C8,C9,Da,Gn,Gp⟩ Gq Db Gr Ab Ax Bw;unfold AF2 at Ax;refine Zo (Zn (Zk (Zk (AAy rfl rfl (Zr (⟨_,rfl,fun Ay=>?_,fun Ay=>?_⟩))))))
 ·refine Zx (q_t ?_);obtain ⟨Dc,Dd,Bx⟩:=Zp (AA7 Ax Ay);refine AI8 2658455991569831745807614120558593856 (fun x:(Bool) × (LiI) × LnA × LnN × LvA × (Int) × LvA=>[(6,(.bool x.1))]) (fun x h'=>(Sum.inr <| (x.1,x.2.1,x.2.2.2.2.2.1))=Dc/\Kst h h' (((Ab.L.set 2 (aO2 cZ 128 94 x.2.2.1 x.2.2.2.1 x.2.2.2.2.1 v20 x.2.1)).set 1 (aZ x.2.2.2.2.2.2 x.2.2.2.2.2.1)).set 0 (aB 94 Bq x.2.2.2.2.2.2))) ?_ ?_
  ·refine Zt (Zn (Zk (Zv ?_)));obtain ⟨De,Df,By⟩:=Zp Dd;refine AI8 274873712896 (fun x:(Int)=>[(8,(.int .i64 x))]) (fun x h'=>( x)=De/\Kst h h' (Ab.L)) ?_ ?_
   ·refine Zt (AHm 274873712896 Df (fun x=>[(8,(.int .i64 x))]) (fun x=>Ab.L) Ab ⟨rfl,trivial⟩ ?_);rintro Am Gt Gu Gv Ah Bz B1;unfold AFz at Bz;obtain ⟨Dg,B3,Az⟩:=Zp Bz;refine AI8 68715282432 (fun x:Unit=>[]) (fun x h'=>(Sum.inl <| ())=Dg/\Kst h h' (Ah.L)) ?_ ?_
    ·refine Zn (Zk (Zk (AAy rfl rfl (Zk ?_))));by_cases Ao:Am < (Bo.length:Int)
     ·rw [decide_eq_true Ao];refine AAk 25 true (Zk (AAk 25 true (Zk (AAk 25 true ?_))));obtain ⟨Gw,A3,Dh⟩:=Zp (ifT B3 Ao);refine ACt ABu rfl (Ah.o2 p2) rfl A3 fun Gx Gy Gz Di Dj=>AAk 25 true (AA6 ADi rfl Dj (AAk 25 true (Zk (AAk 25 true ?_))));obtain ⟨G3,B4,Dk⟩:=Zp Dh;refine AEa (m:=Am) ACn rfl (Ah.o2 p2) Di A3 rfl B4 fun G4 Dl=>AAk 25 true ?_;obtain ⟨G5,Do,Dp⟩:=(Ah.o2 p2).cells Dl A3 B4;have A4:=Ah.az Do;refine ANh (c:=cZ) ABa rfl (A4.z p0) (fun j u hu=>(Dp j u hu)) (AAk 25 true ?_);obtain ⟨G6,Dq,B5⟩:=Zp Dk;refine ADk A4 (AVk (A4.z p0).2 Dq) fun G7 G8 B6=>AAk 25 true (ACc rfl rfl (AAd rfl (Zr (⟨_,rfl,fun A5=>?_,fun A5=>?_⟩))))
      ·refine Zx (q_t ?_);exact ⟨(():Unit),⟨Zm (AA7 B5 A5),B6.sel [1,2,3,4] Zl⟩,trivial⟩
      ·obtain rfl:=Zm (AA8 B5 A5);refine AAe (AAf (AAf (ABk (q_t ?_))));exact ⟨(Am:(Int)),⟨Zm (B1 _ (Zm Az).symm),B6.sel [1,2,3,4] Zl⟩,rfl,trivial⟩
     ·rw [decide_eq_false Ao];refine AE5 25 false (APd 25 false (AAo rfl (Zr (AAq rfl ?_))));obtain rfl:=Zm (ifF B3 Ao);refine AAe (AAf (AAf (ABk (q_t ?_))));exact ⟨(Am:(Int)),⟨Zm (B1 _ (Zm Az).symm),Ah⟩,rfl,trivial⟩
    rintro ⟨⟩ G9 Hb ⟨Dr,Ds⟩;subst Dr;refine Zt (Z1 (Zk (AAz rfl rfl (AAi (AAh (q_b (q_t ?_)))))));exact ⟨_,(Zm Az).symm,Ds,rfl,trivial⟩
   rintro Dt Hc B7 ⟨Du,Ae⟩;subst Du;refine Zo (Zn (Zk (Zk (ACc rfl rfl (Zr (⟨_,rfl,fun A6=>?_,fun A6=>?_⟩))))))
   ·refine Zn (AC5 (AMw ) (AFc Ae p3 (AAa B7) (AAa B7) fun B8 B9=>Zr ?_));obtain rfl:=Zm (AA7 By A6);refine Zy (AAc (ABp (AAc (AAc (ABp (AAc ?_))))));obtain rfl:=Zm (Bw _ (Zm Bx).symm);exact ⟨_,AB9 ABa (cZ.klen (AAa B8)) rfl (B9.b p3),B9.x,_,rfl,(AAa B8).2⟩
   ·refine Zx (q_t ?_);obtain ⟨Dv,Ca,Dw⟩:=Zp (AA8 By A6);refine AI8 2305838611167182912 (fun x:(Bool) × (LiI) × LnA × LnN × LvA=>[(6,(.bool x.1))]) (fun x h'=>( (x.1,x.2.1))=Dv/\Kst h h' (Ae.L.set 2 (aO2 cZ 128 94 x.2.2.1 x.2.2.2.1 x.2.2.2.2 v20 x.2.1))) ?_ ?_
    ·refine Zn (Zk (Zk (AGz rfl rfl (Zr (⟨_,rfl,fun A7=>?_,fun A7=>?_⟩)))))
     ·refine Zo (AGh (Zk (Zk (Zk (Zk (Zk (Zk ?_)))))));obtain ⟨Dx,Cb,Dy⟩:=Zp (AA7 Ca A7);refine AB2 ABu ADi (Ae.o2 p2) Cb fun _ Hd Dz=>Zk (Zk ?_);obtain ⟨D0,Cd,D1⟩:=Zp Dy;refine AB2 ABu ADi (Ae.o2 p2) Cd fun _ He D2=>APp ABu ADi (Ae.o2 p2) D2 Dz Cd Cb rfl rfl (fun _=>rfl) (fun _=>rfl) (fun _=>rfl) (fun _ _=>rfl) fun Hf Hg D3 D4 D5 Hh D6 D7 D8=>Zr (Z1 (Zk (ADp rfl (Zv ?_))));exact ⟨(((!Bu),(sI (sI Bv Dt Dx) Ag D0),D3,D4,D5):(Bool) × (LiI) × LnA × LnN × LvA),⟨Zm D1,(Ae.uo2 p2 D7 D6 D8)⟩,rfl,trivial⟩
     ·refine Zx (q_t ?_);exact ⟨((Bu,Bv,C8,C9,Da):(Bool) × (LiI) × LnA × LnN × LvA),⟨Zm (AA8 Ca A7),Ae⟩,rfl,trivial⟩
    rintro ⟨D9,Ea,Eb,Ec,Ed⟩ Hj Hk ⟨Ee,Ce⟩;subst Ee;refine Zo (Zn (Zk (AAz rfl rfl (Zv (Zt (AFr 20769187434139301290749948462106112 (fun x:(Int) × (LiI) × LnA × LnN × LvA=>(x.1,x.2.1)) (((w64 (Ag + 1)),Ea,Eb,Ec,Ed):(Int) × (LiI) × LnA × LnN × LvA) Dw (fun x=>[(9,(.int .i64 x.1))]) (fun x=>Ce.L.set 2 (aO2 cZ 128 94 x.2.2.1 x.2.2.2.1 x.2.2.2.2 v20 x.2.1)) Ce ⟨rfl,trivial⟩ ?_))))));rintro ⟨Ap,Cf,Cg,Ch,Ci⟩ Hl Hm Hn Ai A8 Ef;unfold AF1 at A8;refine Zo (Zn (Zk (Zk (AAy rfl rfl (Zr (⟨_,rfl,fun A9=>?_,fun A9=>?_⟩))))))
    ·refine Zx (q_t (Zo (Zt (Zn (Zk (AAz rfl rfl (Zv (Zt (AFr 20769187434138129922501267905577984 (fun x:(Int) × (LiI) × LnA × LnN × LvA=>(x.1,x.2.1)) (((w64 (Ag + 1)),Cf,Cg,Ch,Ci):(Int) × (LiI) × LnA × LnN × LvA) (AA7 A8 A9) (fun x=>[(10,(.int .i64 x.1))]) (fun x=>Ai.L.set 2 (aO2 cZ 128 94 x.2.2.1 x.2.2.2.1 x.2.2.2.2 v20 x.2.1)) Ai ⟨rfl,trivial⟩ ?_)))))))));rintro ⟨Ho,Hq,Hr,Hs,Ht⟩ Hu Ba Hv Aa Bb Eg;unfold AF0 at Bb;refine Zo (Zn (Zk (Zk (AAy rfl rfl (Zr (⟨_,rfl,fun Bc=>?_,fun Bc=>?_⟩))))))
     ·refine Zx (q_t (Zo (Zt (ACb (fun h'=>UpT [] Ba h') Zw ?_))));have Ad:UpT [] Ba Ba:=UpT.start all_nil;refine Zk (Zk ?_);obtain ⟨Hw,Ac,Eh⟩:=Zp (AA7 Bb Bc);refine ACt ABu rfl (Aa.o2 p2) rfl Ac fun Hx Hy Hz Ei Ej=>AB8 ADi rfl Ad (fun h' hb=>AAu Ej hb.ext) (Zk (Zk (Zk ?_)));obtain ⟨Ia,Aj,Ek⟩:=Zp Eh;refine ACt ABu rfl (Aa.o2 p2) rfl Aj fun Ib Ic Id El Em=>AB8 ADi rfl Ad (fun h' hb=>AAu Em hb.ext) (Zk ?_);obtain ⟨Ie,Cj,En⟩:=Zp Ek;refine AEa (m:=Ag) ACn rfl (Aa.o2 p2) El Aj rfl Cj fun If Eo=>?_;obtain ⟨Ih,Ck,Ep⟩:=(Aa.o2 p2).cells Eo Aj Cj;refine APk (c:=cZ) ABa rfl Ck Ad (fun h' hb j u hu=>AAu (Ep j u hu) hb.ext) (Zk (Zk (ACt ABu rfl (Aa.o2 p2) rfl Ac fun Ii Ij Ik Er Es=>AB8 ADi rfl Ad (fun h' hb=>AAu Es hb.ext) (Zk ?_))));obtain ⟨Il,Aq,Et⟩:=Zp En;refine AEa (m:=Ap) ACn rfl (Aa.o2 p2) Er Ac rfl Aq fun Im Eu=>?_;obtain ⟨Io,Cm,Ev⟩:=(Aa.o2 p2).cells Eu Ac Aq;refine APk (c:=cZ) ABa rfl Cm Ad (fun h' hb j u hu=>AAu (Ev j u hu) hb.ext) ?_;have Be:=(Aa.az (cZ.upT Ck Ad)).az (cZ.upT Cm Ad);obtain ⟨Ip,Ew,Ey⟩:=Zp Et;refine AEz Be Ad (AOf (Be.z p1).2 (Be.z p0).2 Ew) fun Iq Ir Is Ez Af=>Zk (Zk (ACt ABu rfl (Aa.o2 p2) rfl Ac fun It Iu Iv Fa Fb=>AB8 ADi rfl Af (fun h' hb=>AAu Fb hb.ext) (Zk ?_)));obtain ⟨Iw,Cn,Fc⟩:=Zp Ey;refine AEa (m:=Ap) ACn rfl (Aa.o2 p2) Fa Ac rfl Cn fun Ix Fd=>?_;obtain ⟨Iy,Co,Fe⟩:=(Aa.o2 p2).cells Fd Ac Cn;refine APk (c:=cZ) ABa rfl Co Af (fun h' hb j u hu=>AAu (Fe j u hu) hb.ext) (Zk (Zk (ACt ABu rfl (Aa.o2 p2) rfl Aj fun Iz I0 I1 Ff Fg=>AB8 ADi rfl Af (fun h' hb=>AAu Fg hb.ext) (Zk ?_))));obtain ⟨I2,Cp,Fh⟩:=Zp Fc;refine AEa (m:=Ag) ACn rfl (Aa.o2 p2) Ff Aj rfl Cp fun I3 Fi=>?_;obtain ⟨I6,Cq,Fj⟩:=(Aa.o2 p2).cells Fi Aj Cp;refine APk (c:=cZ) ABa rfl Cq Af (fun h' hb j u hu=>AAu (Fj j u hu) hb.ext) ?_;have Bf:=(Ez.az (cZ.upT Co Af)).az (cZ.upT Cq Af);obtain ⟨I7,Fk,Fl⟩:=Zp Fh;refine AEz Bf Af (AOf (Bf.z p1).2 (Bf.z p0).2 Fk) fun I9 Ja Jc Bg Fm=>?_;obtain ⟨Je,Fo,Fp⟩:=Zp Fl;refine AEz Bg Fm (Arb (Bg.z p3).2 (Bg.z p0).2 Fo) fun Jf Jg Jh Ar Cr=>AMz (Ar.z p8) Cr (Aa.b p0) ?_;obtain ⟨Ji,Fq,Fr⟩:=Zp Fp;refine AEz Ar Cr (AG0 (Ar.z p0).2 (Ar.z p8).2 Fq) fun Jj Jk Jl Ak Jm=>AEa (m:=Ap) ACn rfl (Aa.o2 p2) Ei Ac rfl Aq fun Jn Ft=>ALu (m:=Ap) (AQf ABa (cZ.klen (Ak.z p0)) rfl rfl (cZ.one (Ak.z p0))) (Ak.o2 p10) Ft Ac Aq (Ak.z p0) fun Jo Fu Fv=>AAh (q_b (q_t (Z1 (Zk (AAz rfl rfl (Zv ?_))))));exact ⟨(_,_,_,_,_),(Zm Fr).symm,(Ak.uO2 p10 Fv Fu).sel [8,9,10,11] Zl,rfl,trivial⟩
     ·refine AAe (AAf (AAf (ABk (q_b (q_t (Z1 (Zk (AAz rfl rfl (Zv ?_)))))))));exact ⟨(_,_,_,_,_),(Zm (Eg _ (Zm (AA8 Bb Bc)).symm)).symm,Aa,rfl,trivial⟩
    ·refine AAe (AAf (AAf (ABk (q_t (Z1 (Zk (Zk ?_)))))));obtain ⟨Jp,Bh,Fw⟩:=Zp (Ef _ (Zm (AA8 A8 A9)).symm);refine AB2 ABu ADi (Ai.o2 p2) Bh fun _ Jq Fx=>Zk ?_;obtain ⟨Fy,Ct,Fz⟩:=Zp Fw;refine AEa (m:=Ag) ACn rfl (Ai.o2 p2) Fx Bh rfl Ct fun Jr F4=>?_;obtain ⟨F5,F6,F7⟩:=(Ai.o2 p2).cells F4 Bh Ct;have Au:=Ai.az F6;refine ANh (c:=cZ) ABa rfl (Au.z p0) (fun j u hu=>(F7 j u hu)) (AFc Au p1 (Au.z p2) (Au.z p0) fun Js F8=>AAh (q_b (q_t ?_)));exact ⟨((D9,Cf,Cg,Ch,Ci,Fy,F5):(Bool) × (LiI) × LnA × LnN × LvA × (Int) × LvA),⟨Zm Fz,F8.sel [1,0,3,4] Zl⟩,rfl,trivial⟩
  rintro ⟨Jt,Ju,Jv,Jw,Jx,Jy,Jz⟩ J0 J1 ⟨F9,Ga⟩;subst F9;refine Z1 (Zk (AAz rfl rfl (Zv ?_)));exact ⟨(_,_,_,_,_,_,_,_),(Zm Bx).symm,Ga,rfl,rfl,trivial⟩
 ·refine AAe (AAf (AAf (ABk (q_t (Zo (Zn (Zk (Zr ?_))))))));have Cu:=Bw _ (Zm (AA8 Ax Ay)).symm;refine ⟨_,rfl,fun Bi=>?_,fun Bi=>?_⟩
  ·refine Zn (AJd (Ab.z p1) (Ab.b p0) ?_);obtain ⟨J2,Gb,Gc⟩:=Zp (ifT Cu Bi);refine AMg Ab (Abn (Ab.z p1).2 Gb) fun J3 Gd J4 Cv=>AFc Cv p4 (AAa Gd) (Cv.z p0) fun J5 Av=>Zr (Zy (AAc ?_));obtain rfl:=Zm Gc;exact ⟨_,AB9 ABa (cZ.klen (Av.z p0)) rfl (Av.b p4),Av.x,_,rfl,(Av.z p0).2⟩
  ·refine Zx (q_t (Zn (AJd (Ab.z p1) (Ab.b p0) (AFc Ab p3 (AAa Db) (Ab.z p1) fun J6 Aw=>Zr (Zy ?_)))));obtain rfl:=Zm (AH9 Cu Bi);exact ⟨_,AB9 ABa (cZ.klen (Aw.z p1)) rfl (Aw.b p3),Aw.x,_,rfl,(Aw.z p1).2⟩
end Go.Proofs.YtdkldlbgcfpglaaGreatDoor
namespace Go.Proofs.YtdkldlbgcfpglaaGreatDoor
open Go Go.QF
set_option maxRecDepth 100000
theorem Alk {na:Bool} {m:Nat} {z:Int} (h:z=sgn na m):AE7 z=1->z=m:=by
 cases na
 ·intro _;rw [h];rfl
 ·intro h1;rw [h] at h1 ⊢;unfold AE7 sgn at h1;unfold sgn;simp at h1 ⊢;split at h1 <;> (try split at h1) <;> omega
theorem Alm {na:Bool} {m:Nat} {z:Int} (h:z=sgn na m):AE7 z= -1->z= -(m:Int):=by
 cases na
 ·intro h1;rw [h] at h1 ⊢;unfold AE7 sgn at h1;unfold sgn;simp at h1 ⊢;split at h1 <;> (try split at h1) <;> omega
 ·intro _;rw [h];rfl
def ARe (a b:Int):Int:=if a < b then -1 else if a=b then 0 else 1
theorem Afl {a b:Int} (h:AE7 a≠AE7 b) (h2:AE7 a < AE7 b):ARe a b= -1:=by
 unfold AE7 at h h2;unfold ARe;repeat' split at h2
 all_goals (rw [if_pos Zj])
theorem Afm {a b:Int} (h:AE7 a≠AE7 b) (h2: ¬ AE7 a < AE7 b):ARe a b=1:=by
 unfold AE7 at h h2;unfold ARe
 rw [if_neg (by
   repeat' split at h2
   all_goals (repeat' split at h)
   all_goals omega),if_neg (by
     repeat' split at h2
     all_goals (repeat' split at h)
     all_goals omega)]
theorem Abq {na nb:Bool} {m k:Nat} {a b:Int} (ha:a=sgn na m) (hb:b=sgn nb k) (h:AE7 a=AE7 b):AE7 a * ALv m k=ARe a b:=by
 have h3:AE7 a= -1∨AE7 a=0∨AE7 a=1:=by unfold AE7;split;exact .inl rfl;split;exact .inr (.inl rfl);exact .inr (.inr rfl)
 rcases h3 with h1 | h1 | h1
 ·have e1:=Alm ha h1;have e2:=Alm hb (h ▸ h1);rw [h1];unfold ALv ARe;repeat' split
  all_goals omega
 ·have z:∀ x:Int,AE7 x=0->x=0:=fun x hx=>by unfold AE7 at hx;repeat' split at hx;all_goals omega
  have e1:=z a h1;have e2:=z b (h ▸ h1);rw [h1,e1,e2];simp [ARe]
 ·have e1:=Alk ha h1;have e2:=Alk hb (h ▸ h1);rw [h1];unfold ALv ARe;repeat' split
  all_goals omega
theorem Aon (a b:Nat): -1<=ALv a b/\ALv a b<=1:=by
 unfold ALv;repeat' split;all_goals omega
theorem Aoo (a:Int): -1<=AE7 a/\AE7 a<=1:=by
 unfold AE7;repeat' split;all_goals omega
theorem Aop {x y:Int} (hx: -1<=x/\x<=1) (hy: -1<=y/\y<=1):IntKind.i64.wrap (x * y)=x * y:=by
 obtain ⟨x1,x2⟩:=hx;obtain ⟨y1,y2⟩:=hy;have Aa:x= -1∨x=0∨x=1:=by omega
 have Ab:y= -1∨y=0∨y=1:=by omega
 rcases Aa with rfl | rfl | rfl <;> rcases Ab with rfl | rfl | rfl <;> decide
theorem Aoq {h:Zs} {lo:Nat} {va:Value} {z:Int} (HA:ZV h lo va z):AAs Tryz.prog 151 #[va] h fun x h'=>Ext h h'/\ZV h' (Array.size h) x (z.natAbs:Int):=by
 obtain ⟨na,sa,LA,rfl,HDa,htla,hla,hza⟩:=HA.out;have hna:LA.length<=1000000:=by omega
 have hba:nv LA < 4294967296 ^ 100:=Nat.lt_of_lt_of_le (ALo HDa.dig) (Nat.pow_le_pow_right Zl hla);refine AA5 (l:=[_]) mx Tryz.func151 rfl rfl rfl rfl rfl Zw (Zn (AH7 [.bool na,sa] (fun _=>trivial) rfl rfl fun Ag h2 V3 E4 Ao Be=>?_));have Bf:Array.size h<=Ag:=Ao;have Bg:=E4.1;have Z8:=(Ext.refl h).trans E4;refine AFq [.bool false,.slice none 0 0] AEb rfl (fun _=>trivial) fun Aa Bh Aq Ab Ar Bi=>?_;have Bj:Array.size h<=Aa:=Nat.le_trans E4.1 Ar;have nebq1bq9:Ag≠Aa:=by have:=V3.lt;omega
 have Bl:=Ab.1;have Au:=Z8.trans Ab;have Ai:=E4.trans Ab;have Av:=E4.trans Ab;refine AHj (AEu (fs:=1) AKc Zw Zl rfl (AA6 AGi rfl ((V3.ext Ab).cell (i:=1) rfl) (AAr trivial rfl (AK8 false (HDa.ext Ai) hna hba) fun Bm Bn hk=>?_)));obtain ⟨Ac,Aw⟩:=hk;refine ⟨trivial,?_⟩;have Bo:=Ac.1;have Ax:=Au.trans Ac;have Ay:=Ai.trans Ac;have Az:=Av.trans Ac;have A3:=Aq.ext Ac;have A4:=Ab.trans Ac;obtain ⟨Aj,s3,L3,rfl,Am,A6,A7,A8⟩:=Aw.out;refine AB3 [.bool Aj,s3] ABa rfl rfl rfl rfl (AH4 Am.cap) A3 fun Bp A9 Ad=>?_;have Ba:=Ay.thenUpd Ad (fun k hk=>by have Af:k=Aa:=hk;omega);have Bq:=Ad.1;have Br:=Ax.thenUpd Ad (fun k hk=>by have Af:k=Aa:=hk;omega);have Bt:=A4.thenUpd Ad (fun k hk=>by have Af:k=Aa:=hk;omega);have Bu:=Az.thenUpd Ad (fun k hk=>by have Af:k=Aa:=hk;omega);have Bb:=Am.updLo Ad Zj;refine Zr (Zy (⟨_,AB9 ABa rfl rfl A9,?_⟩));exact ⟨Ba,⟨Aj,s3,L3,rfl,Bb.mono Zj,A6,A7,by rw [<- A8,AEd hza];rfl⟩⟩
theorem Aor {h:Zs} {la lb:Nat} {va vb:Value} {a b:Int} (HA:ZV h la va a) (HB:ZV h lb vb b):AAs Tryz.prog 97 #[va,vb] h fun x h'=>Ext h h'/\x= .int .i64 (ARe a b):=by
 obtain ⟨na,sa,LA,rfl,HDa,htla,hla,hza⟩:=HA.out;obtain ⟨nb,sb,LB,rfl,HDb,htlb,hlb,hzb⟩:=HB.out;refine AA5 (l:=[_,_]) mx Tryz.func97 rfl rfl rfl rfl rfl Zw (Zn (AH7 [.bool na,sa] (fun _=>trivial) rfl rfl fun Aq h2 V3 E4 A7 B4=>?_));have B5:Array.size h<=Aq:=A7;have B6:=E4.1;have Z8:=(Ext.refl h).trans E4;refine AH7 [.bool nb,sb] (fun _=>trivial) rfl rfl fun Au Av Aw Ag A9 B7=>?_;have B8:Array.size h<=Au:=Nat.le_trans E4.1 A9;have nebq1bq9:Aq≠Au:=by have:=V3.lt;omega
 have B9:=Ag.1;have Ba:=Z8.trans Ag;have Ax:=E4.trans Ag;have Ay:=V3.ext Ag;have Bb:=E4.trans Ag;refine Zv (Zo (ACb (fun h'=>Ext Av h') Zw ?_));have Af:=Ext.refl Av;refine AGx [.bool na,sa] ABa rfl rfl Af (fun h' hb=>(Ay.ext hb).agg) (AAr Af rfl (ATh (HA.ext Ax)) fun Ca Cb hk=>?_);obtain ⟨Ab,rfl⟩:=hk;have Ai:=Af.trans Ab;refine ⟨Ai,?_⟩;have Cd:=Ab.1;have Bc:=Ba.trans Ab;have Az:=Ax.trans Ab;have Be:=Ay.ext Ab;have Bf:=Bb.trans Ab;have Bg:=Aw.ext Ab;have Bh:=Ag.trans Ab;refine AGx [.bool nb,sb] ABa rfl rfl Ai (fun h' hb=>(Aw.ext hb).agg) (AAr Ai rfl (ATh (HB.ext Az)) fun Ce A3 hk=>?_);obtain ⟨Ac,rfl⟩:=hk;have Bi:=Ai.trans Ac;refine ⟨Bi,?_⟩;have Cf:=Ac.1;have Bj:=Bc.trans Ac;have Ad:=Az.trans Ac;have A4:=Be.ext Ac;have Bl:=Bf.trans Ac;have A5:=Bg.ext Ac;have Bm:=Bh.trans Ac;refine AAi (Zv (Zo (Zn (Zk (Zk (Acx rfl rfl (fun Bn=>?_) (fun Bn=>?_)))))))
 ·refine Zr (AAl rfl (Zo (Zn (Zk (Zk (AD0 rfl rfl (fun Bo=>?_) (fun Bo=>?_)))))))
  ·refine Zr (AAl rfl (Zn (Zv (Zy (AAc (AAc (⟨_,Zz,?_⟩)))))));first | exact ⟨Ad,congrArg (Value.int .i64) (by rw [Ak,Am];exact Abq hza hzb Zj)⟩ | exact ⟨Ad,congrArg (Value.int .i64) (Afl (by assumption) (by assumption)).symm⟩ | exact ⟨Ad,congrArg (Value.int .i64) (Afm (by assumption) Zj).symm⟩
  ·refine Zr (AAq rfl (Zx (q_t (Zn (Zv (Zy (AAc (⟨_,Zz,?_⟩))))))));first | exact ⟨Ad,congrArg (Value.int .i64) (by rw [Ak,Am];exact Abq hza hzb Zj)⟩ | exact ⟨Ad,congrArg (Value.int .i64) (Afl (by assumption) (by assumption)).symm⟩ | exact ⟨Ad,congrArg (Value.int .i64) (Afm (by assumption) Zj).symm⟩
 ·refine Zr (AAq rfl (Zx (q_t (Zo (ACb (fun h'=>Ext A3 h') Zw ?_)))));have Af:=Ext.refl A3;refine Zk (AEu (fs:=1) AKc Zw Zl rfl (AB8 AGi rfl Af (fun h' hb=>(A4.ext hb).cell (i:=1) rfl) (AAr Af rfl (AHl (DS.ext HDa Ad) Zj) fun Cg Ch hk=>?_)));obtain ⟨Ae,L1,Bp,Bq,Ak,Cj⟩:=hk;have Aj:=Af.trans Ae;refine ⟨Aj,?_⟩;have Ck:=Ae.1;have Br:=Bj.trans Ae;have A6:=Ad.trans Ae;have Bt:=A4.ext Ae;have Bu:=Bl.trans Ae;have Bv:=A5.ext Ae;have Bw:=Bm.trans Ae;refine AEu (fs:=1) AKc Zw Zl rfl (AB8 AGi rfl Aj (fun h' hb=>(A5.ext hb).cell (i:=1) rfl) (AAr Aj rfl (AHl (DS.ext HDb A6) Zj) fun Cm Bx hk=>?_));obtain ⟨Aa,L2,By,Bz,Am,Co⟩:=hk;have Ao:=Aj.trans Aa;refine ⟨Ao,?_⟩;have Cp:=Aa.1;have Cq:=Br.trans Aa;have Ap:=A6.trans Aa;have Cr:=Bt.ext Aa;have Ct:=Bu.trans Aa;have Cu:=Bv.ext Aa;have Cv:=Bw.trans Aa;have B1:=Bp.ext Aa;refine AAr Ao rfl (AXr B1 By Bq Bz Zj Zj) fun Cw Bx hk=>?_;obtain ⟨rfl,rfl⟩:=hk;refine ⟨Ao,?_⟩;refine AK2 rfl rfl ?_;rw [Aop (Aoo _) (Aon _ _)];refine Zv (Zy (⟨_,Zz,?_⟩));first | exact ⟨Ap,congrArg (Value.int .i64) (by rw [Ak,Am];exact Abq hza hzb Zj)⟩ | exact ⟨Ap,congrArg (Value.int .i64) (Afl (by assumption) (by assumption)).symm⟩ | exact ⟨Ap,congrArg (Value.int .i64) (Afm (by assumption) Zj).symm⟩
def Agz (fuel:Nat) (a:Int):Option Int:=some (a.natAbs:Int)
def Aah (fuel:Nat) (a b:Int):Option Int:=some (ARe a b)
theorem Afn {fuel:Nat} {h:Zs} {u:Value} {a r:Int} (H1:ZZ h u a) (hp:Agz fuel a=some r):AAs Tryz.prog 151 #[u] h (fun x h'=>Ext h h'/\ ∃ (x0:Value),x=x0/\ZZ h' x0 r):=by
 cases hp;exact (Aoq H1).mono fun x h' hk=>⟨hk.1,x,rfl,hk.2.zz⟩
theorem AY1 {fuel:Nat} {h:Zs} {u v:Value} {a b r:Int} (H1:ZZ h u a) (H2:ZZ h v b) (hp:Aah fuel a b=some r):AAs Tryz.prog 97 #[u,v] h (fun x h'=>Ext h h'/\x= .int .i64 r):=by
 cases hp;exact Aor H1 H2
end Go.Proofs.YtdkldlbgcfpglaaGreatDoor
namespace Go.Proofs.YtdkldlbgcfpglaaGreatDoor
open Go Go.QF
set_option maxRecDepth 100000
set_option maxHeartbeats 4000000
def AIc (fuel:Nat) (a3:LiI) (Ab:Int) (Af:LiA) (Aa:Int) (Ac:LiI):Option ((Int × LiI) ⊕ (((LiI × Bool)) ⊕ (LiI))):=
  (if Aa < (Af.length:Int) then ((gI a3 Ab).bind fun Ag=>((gI Ag Aa).bind fun Ah=>((Abm fuel Ah).bind fun (Ai,Aj)=>(if (!Aj)=true then (some (Sum.inr<| Sum.inl <| ([],false))) else ((gI Ac Ab).bind fun Ad=>((gI Ad Aa).bind fun Ak=>(some (Sum.inl ((w64 (Aa + 1)),(sI Ac Ab (sI Ad Aa Ai))))))))))) else (some (Sum.inr<| Sum.inr <| Ac)))
def AId (fuel:Nat) (a3:LiI) (x5 x6 Aa:Int) (Ac:LiI):Option ((Int × LiI) ⊕ (((LiI × Bool)) ⊕ (LiI))):=
  (if Aa < ((List.replicate (Int.toNat x5) ([]:List Int)).length:Int) then (if 0<=x6/\x6<=100000000 then ((gI Ac Aa).bind fun Ai=>((gI (sI Ac Aa (List.replicate (Int.toNat x6) (0:Int))) Aa).bind fun Af=>((iter (fun s=>AIc fuel a3 Aa Af s.1 s.2) fuel (0,(sI Ac Aa (List.replicate (Int.toNat x6) (0:Int))))).bind (fun ex=>match ex with | Sum.inl Ag=>(some (Sum.inr<| Sum.inl <| Ag)) | Sum.inr (Ah)=>(some (Sum.inl ((w64 (Aa + 1)),Ah))))))) else none) else (some (Sum.inr<| Sum.inr <| Ac)))
def AFd (fuel:Nat) (a3:LiI):Option (LiI × Bool):=
  ((ACi fuel a3).bind fun (x5,x6,x7)=>(if (!x7)=true then (some ([],false)) else (if 0<=x5/\x5<=100000000 then ((iter (fun s=>AId fuel a3 x5 x6 s.1 s.2) fuel (0,(List.replicate (Int.toNat x5) ([]:List Int)))).bind (fun ex=>match ex with | Sum.inl Ae=>(some Ae) | Sum.inr (Af)=>(some (Af,true)))) else none)))
theorem AP3 {fuel:Nat} {h:Zs} {Aw:Value} {a3:LiI} {r:(LiI × Bool)} (H2:AEq cZ h Aw a3) (hp:AFd fuel a3=some r):AAs Tryz.prog 60 #[Aw] h (fun x h'=>Ext h h'/\ ∃ (x0:Value) (F0:List Nat) (Bg:List LnA) (Bh:List Value),x= .tuple #[x0,.bool r.2]/\ACp (cI .i64) 60 2 h' F0 Bg Bh x0 r.1/\Sp h' h.size [F0]):=by
 unfold AFd at hp;refine cwf (l:=[_]) Tryz.func60 rfl rfl (Zn (AAi (AA3 (Zk ?_))));have K0:=Kst.k0 h;obtain ⟨⟨x5,x6,x7⟩,Bl,Ae⟩:=Zp hp;dsimp only at Ae;refine ADk K0 (AF7 (H2.ext K0.x) Bl) fun Cu Cv A5=>Zk (ABj rfl rfl (ABj rfl rfl (ABj rfl rfl (AAi (AAi (Zv (Zo (Zn (Zk (ADp rfl (Zr (⟨_,rfl,fun Af=>?_,fun Af=>?_⟩))))))))))))
 ·refine Zn (AAi (Zv (Zy (AAc ?_))));have Ag:=Kst.anil2 (cI .i64) 60 2 A5;obtain rfl:=Zm (ifT Ae Af);exact ⟨_,ABg,Ag.x,_,_,_,_,rfl,(Ag.o2 p0),Ag.s.sel [0] Zl⟩
 ·refine Zx (q_t (Zn (Zk ?_)));obtain ⟨Bm,Bn⟩:=ifN (AH9 Ae Af);refine ARc (cI .i64) 2 AAn AMp rfl trivial tt2 rfl rfl Zl Bm fun Bo Bp Bq A6 Cw Br Bt Bu=>Zv (Zo (Zn (Zk ?_)));have Ah:=A5.no2 Bt Bu Br;refine ABe AAn rfl (Ah.o2 p0).rd (Zk (Zr (Zt (AFr 4611686018410614540 (fun x:(Int) × (LiI) × LnA × LnN × LvA=>(x.1,x.2.1)) ((0,(List.replicate (Int.toNat x5) ([]:List Int)),Bo,Bp,Bq):(Int) × (LiI) × LnA × LnN × LvA) Bn (fun x=>[(24,(.int .i64 x.1))]) (fun x=>Ah.L.set 0 (aO2 (cI .i64) 60 2 x.2.2.1 x.2.2.2.1 x.2.2.2.2 A6 x.2.1)) Ah ⟨rfl,trivial⟩ ?_))));rintro ⟨Ab,Bv,Cx,A7,Bw⟩ Cy Cz C0 Ad Ai A8;unfold AId at Ai;refine Zn (AAy rfl rfl (Zr (Zo (⟨_,rfl,fun Aj=>?_,fun Aj=>?_⟩))))
  ·refine Zx (q_t (Zo (Zt (Zn (Zk (AA3 (Zk (Zk (Zk ?_)))))))));obtain ⟨Bx,By⟩:=ifN (AA7 Ai Aj);refine AQt (c:=(cI .i64)) (a:=0) AAj AJx rfl rfl (fun _=>rfl) rfl trivial tt2 rfl rfl Zl Bx fun A9 Bz C1 B1 B3 B4 B5=>?_;have Ac:=Ad.no B3 (AEv B4 B5) B1;obtain ⟨C2,Ba,B6⟩:=Zp By;refine ACt AAn rfl (Ac.o2 p1) rfl Ba fun B7 C3 B8 C4 C5=>ARb AA1 (Ac.o2 p1) Ba B8 rfl rfl (Ac.o p0) (Ac.dj p0 p1 Zl) fun C6 B9 Ca Cb=>AHj (Zk (Zk ?_));have Ak:=Ac.m2 p0 p1 Zl Ca B9 (fun z hz=> .inl (Cb z hz));obtain ⟨C7,Bb,Cd⟩:=Zp B6;refine AB2 AAn AA1 (Ak.o2 p1) Bb fun _ C8 Ce=>ABr AAj rfl ((Ak.o2 p1).rowI Ce Bb) (Zk (Zr (Zt ?_)));have Am:=Ak.sel [1] Zl;dsimp only [AFy,AI2] at Am;refine AFr 2305842871774744076 (fun x:(Int) × (LiI) × LnA × LnN × LvA=>(x.1,x.2.1)) ((0,(sI Bv Ab (List.replicate (Int.toNat x6) (0:Int))),(B7 :: (A7.set (Int.toNat Ab) [A9]).flatten),(A7.set (Int.toNat Ab) [A9]),(Bw.set (Int.toNat Ab) Bz)):(Int) × (LiI) × LnA × LnN × LvA) Cd (fun x=>[(37,(.int .i64 x.1))]) (fun x=>Am.L.set 0 (aO2 (cI .i64) 60 2 x.2.2.1 x.2.2.2.1 x.2.2.2.2 A6 x.2.1)) Am ⟨rfl,trivial⟩ ?_;rintro ⟨C9,Da,Db,Dc,Dd⟩ De Df Dg Aa Ao Bc;unfold AIc at Ao;refine Zn (AAy rfl rfl (Zr (Zo (⟨_,rfl,fun Ap=>?_,fun Ap=>?_⟩))))
   ·refine Zx (q_t (Zo (Zt (Zn (Zk (AA3 (Zk (Zk ?_))))))));obtain ⟨Dh,Cf,Cg⟩:=Zp (AA7 Ao Ap);refine AJw ABu ADi H2 Aa.x Cf fun _ Di Ch=>Zk ?_;obtain ⟨Dj,Ci,Cj⟩:=Zp Cg;refine AJb (c:=cZ) ACn rfl Ch rfl Ci fun Dk Dl Do Be Ck=>ANh (c:=cZ) ABa rfl (Aa.zx Be) (fun j u hu=>(AAu (Ck j u hu) Aa.x)) ?_;obtain ⟨⟨Dp,Dq⟩,Cm,Aq⟩:=Zp Cj;dsimp only at Aq;refine ADk Aa (Adi (Aa.zx Be).2 Cm) fun Dr Ds Ar=>Zk (ABj rfl rfl (ABj rfl rfl (AAi (Zv (Zo (Zn (Zk (ADp rfl (Zr (⟨_,rfl,fun Au=>?_,fun Au=>?_⟩))))))))))
    ·refine Zn (AAi (Zv (Zy (AAc (ABp (AAc (AAc (ABp (ABp (AAc (AAc (ABp (AAc ?_)))))))))))));have Av:=Kst.anil2 (cI .i64) 60 2 Ar;obtain rfl:=Zm (A8 _ (Zm (Bc _ (Zm (ifT Aq Au)).symm)).symm);exact ⟨_,ABg,Av.x,_,_,_,_,rfl,(Av.o2 p0),Av.s.sel [0] Zl⟩
    ·refine Zx (q_t (Z1 (Zk (Zk ?_))));obtain ⟨Dt,Bf,Cn⟩:=Zp (AH9 Aq Au);refine AB2 AAn AA1 (Ar.o2 p0) Bf fun _ Du Co=>Zk (Zk ?_);obtain ⟨Dv,Cp,Cq⟩:=Zp Cn;refine ALq (m:=Ab) Ar p0 AAj AAt Co Bf Cp (fun _=>rfl) fun _ Dw Cr=>AAh (q_b (q_t (Z1 (AAz rfl rfl (Zk (Zr ?_))))));exact ⟨(_,_,_,_,_),(Zm Cq).symm,Cr,rfl,trivial⟩
   ·refine AAe (AAf (AAf (ABk (q_b (q_t (Z1 (AAz rfl rfl (Zk (Zr ?_)))))))));exact ⟨(_,_,_,_,_),(Zm (Bc _ (Zm (AA8 Ao Ap)).symm)).symm,Aa,rfl,trivial⟩
  ·refine AAe (AAf (AAf (ABk (q_t (Zn (Zk (AAi (Zv (Zy ?_)))))))));obtain rfl:=Zm (A8 _ (Zm (AA8 Ai Aj)).symm);exact ⟨_,ABg,Ad.x,_,_,_,_,rfl,(Ad.o2 p0),Ad.s.sel [0] Zl⟩
def AG4 (fuel:Nat) (Ad:LiI) (Aa:Int) (Ab:LiI):Option ((Int × LiI) ⊕ ((LiI))):=
  (if Aa < (Ad.length:Int) then ((gI Ab Aa).bind fun Ac=>((AKt fuel 1).bind fun Ae=>((gI Ac Aa).bind fun Af=>(some (Sum.inl ((w64 (Aa + 1)),(sI Ab Aa (sI Ac Aa Ae)))))))) else (some (Sum.inr<| Ab)))
def ADd (fuel:Nat) (a1:Int):Option (LiI × Bool):=
  (((if a1 < 1 then (some (Sum.inl <| ([],false))) else (if 16 < a1 then (some (Sum.inl <| ([],false))) else (some (Sum.inr <| ())))):Option (((LiI × Bool)) ⊕ (Unit))).bind (fun ex=>match ex with | Sum.inl Ac=>(some Ac) | Sum.inr (_)=>((AC0 fuel a1 a1).bind fun Ab=>((iter (fun s=>AG4 fuel Ab s.1 s.2) fuel (0,Ab)).bind (fun (Ad:LiI)=>(some (Ad,true)))))))
theorem AKv {fuel:Nat} {h:Zs} {a1:Int} {r:(LiI × Bool)} (hp:ADd fuel a1=some r):AAs Tryz.prog 58 #[(.int .i64 a1)] h (fun x h'=>Ext h h'/\ ∃ (x0:Value) (F0:List Nat) (Az:List LnA) (A3:List Value),x= .tuple #[x0,.bool r.2]/\ACp cZ 128 94 h' F0 Az A3 x0 r.1/\Sp h' h.size [F0]):=by
 unfold ADd at hp;refine cwf (l:=[_]) Tryz.func58 rfl rfl (Zn (AAi (Zv ?_)));have K0:=Kst.k0 h;obtain ⟨A4,Au,Af⟩:=Zp hp;refine AI8 4044 (fun x:Unit=>[]) (fun x h'=>(Sum.inr <| ())=A4/\Kst h h' (K0.L)) ?_ ?_
 ·refine Zn (Zk (AAy rfl rfl (Zk ?_)));by_cases Ad:a1 < 1
  ·rw [decide_eq_true Ad];refine AHi 8 true (AAd rfl (Zr (AAl rfl (Zn (AAi (Zv ?_))))));obtain rfl:=Zm (ifT Au Ad);refine Zy (AAc ?_);have Ag:=Kst.anil2 cZ 128 94 K0;obtain rfl:=Zm Af;exact ⟨_,ABg,Ag.x,_,_,_,_,rfl,(Ag.o2 p0),Ag.s.sel [0] Zl⟩
  ·have Av:=ifF Au Ad;rw [decide_eq_false Ad];refine AAk 8 false (Zk (AAk 8 false (AGz rfl rfl (AAo rfl (Zr (⟨_,rfl,fun Ah=>?_,fun Ah=>?_⟩))))))
   ·refine Zn (AAi (Zv ?_));obtain rfl:=Zm (AA7 Av Ah);refine Zy (AAc ?_);have Ai:=Kst.anil2 cZ 128 94 K0;obtain rfl:=Zm Af;exact ⟨_,ABg,Ai.x,_,_,_,_,rfl,(Ai.o2 p0),Ai.s.sel [0] Zl⟩
   ·refine Zx (q_t ?_);exact ⟨(():Unit),⟨Zm (AA8 Av Ah),K0⟩,trivial⟩
 rintro ⟨⟩ Bq Br ⟨A5,A6⟩;subst A5;refine Zn (Zk (Zk ?_));obtain ⟨A7,A8,A9⟩:=Zp Af;refine ANo A6 (AGg A8) fun Ba Bb Bc Be Bt Bu Aj=>Zv (Zo (Zn (Zk (ABe ABu rfl (Aj.o2 p0).rd (Zk (Zr (Zt (AFr 268304416 (fun x:(Int) × (LiI) × LnA × LnN × LvA=>(x.1,x.2.1)) ((0,A7,Ba,Bb,Bc):(Int) × (LiI) × LnA × LnN × LvA) A9 (fun x=>[(17,(.int .i64 x.1))]) (fun x=>Aj.L.set 0 (aO2 cZ 128 94 x.2.2.1 x.2.2.2.1 x.2.2.2.2 Be x.2.1)) Aj ⟨rfl,trivial⟩ ?_))))))));rintro ⟨Aw,Bv,Bw,Bx,By⟩ Bz Ak B1 Aa Am Bf;unfold AG4 at Am;refine Zn (AAy rfl rfl (Zr (Zo (⟨_,rfl,fun Ao=>?_,fun Ao=>?_⟩))))
 ·refine Zx (q_t (Zo (Zt (Zn (Zk (Zv (ACb (fun h'=>UpT [] Ak h') Zw ?_)))))));have Ax:UpT [] Ak Ak:=UpT.start all_nil;refine Zk (Zk ?_);obtain ⟨B3,Ap,Bg⟩:=Zp (AA7 Am Ao);refine ACt ABu rfl (Aa.o2 p0) rfl Ap fun B4 B5 B6 Bh Bi=>AB8 ADi rfl Ax (fun h' hb=>AAu Bi hb.ext) (Zk ?_);obtain ⟨B7,Bj,Bl⟩:=Zp Bg;refine AEz Aa Ax (AJc Bj) fun B8 B9 Ca Ab Cb=>?_;obtain ⟨Cd,Ay,Bm⟩:=Zp Bl;refine AEa (m:=Aw) ACn rfl (Aa.o2 p0) Bh Ap rfl Ay fun Ce Bn=>ALu (m:=Aw) (AQf ABa (cZ.klen (Ab.z p0)) rfl rfl (cZ.one (Ab.z p0))) (Ab.o2 p1) Bn Ap Ay (Ab.z p0) fun Cf Bo Bp=>AAh (q_b (q_t (Z1 (AAz rfl rfl (Zk (Zr ?_))))));exact ⟨(_,_,_,_,_),(Zm Bm).symm,(Ab.uO2 p1 Bp Bo).sel [1] Zl,rfl,trivial⟩
 ·refine AAe (AAf (AAf (ABk (q_t (Zn (Zk (AAi (Zv (Zy ?_)))))))));obtain rfl:=Zm (Bf _ (Zm (AA8 Am Ao)).symm);exact ⟨_,ABg,Aa.x,_,_,_,_,rfl,(Aa.o2 p0),Aa.s.sel [0] Zl⟩
def AGj (fuel:Nat) (a3:LiI) (Ab:Int) (Af:LiA) (Aa:Int) (Ac:LiI):Option ((Int × LiI) ⊕ ((LiI))):=
  (if Aa < (Af.length:Int) then ((gI Ac Aa).bind fun Ad=>((gI a3 Ab).bind fun Ag=>((gI Ag Aa).bind fun Ah=>((AQh fuel Ah).bind fun Ai=>((gI Ad Ab).bind fun Aj=>(some (Sum.inl ((w64 (Aa + 1)),(sI Ac Aa (sI Ad Ab Ai)))))))))) else (some (Sum.inr<| Ac)))
def AGk (fuel:Nat) (a3:LiI) (Aa:Int) (Ac:LiI):Option ((Int × LiI) ⊕ ((LiI))):=
  (if Aa < (a3.length:Int) then ((gI a3 Aa).bind fun Ad=>((iter (fun s=>AGj fuel a3 Aa Ad s.1 s.2) fuel (0,Ac)).bind (fun (Ae:LiI)=>(some (Sum.inl ((w64 (Aa + 1)),Ae)))))) else (some (Sum.inr<| Ac)))
def AC1 (fuel:Nat) (a3:LiI):Option (LiI × Bool):=
  ((ACi fuel a3).bind fun (x5,x6,x7)=>(if (!x7)=true then (some ([],false)) else ((AC0 fuel x6 x5).bind fun Ae=>((iter (fun s=>AGk fuel a3 s.1 s.2) fuel (0,Ae)).bind (fun (Af:LiI)=>(some (Af,true)))))))
theorem AKd {fuel:Nat} {h:Zs} {Aq:Value} {a3:LiI} {r:(LiI × Bool)} (H2:AEq cZ h Aq a3) (hp:AC1 fuel a3=some r):AAs Tryz.prog 117 #[Aq] h (fun x h'=>Ext h h'/\ ∃ (x0:Value) (F0:List Nat) (A6:List LnA) (A7:List Value),x= .tuple #[x0,.bool r.2]/\ACp cZ 128 94 h' F0 A6 A7 x0 r.1/\Sp h' h.size [F0]):=by
 unfold AC1 at hp;refine cwf (l:=[_]) Tryz.func117 rfl rfl (Zn (AAi (AA3 (Zk ?_))));have K0:=Kst.k0 h;obtain ⟨⟨x5,x6,x7⟩,A8,Af⟩:=Zp hp;dsimp only at Af;refine ADk K0 (AF7 (H2.ext K0.x) A8) fun Cd Ce Ax=>Zk (ABj rfl rfl (ABj rfl rfl (ABj rfl rfl (AAi (AAi (Zv (Zo (Zn (Zk (ADp rfl (Zr (⟨_,rfl,fun Ag=>?_,fun Ag=>?_⟩))))))))))))
 ·refine Zn (AAi (Zv (Zy (AAc ?_))));have Ah:=Kst.anil2 cZ 128 94 Ax;obtain rfl:=Zm (ifT Af Ag);exact ⟨_,ABg,Ah.x,_,_,_,_,rfl,(Ah.o2 p0),Ah.s.sel [0] Zl⟩
 ·refine Zx (q_t (Zn (Zk (Zk ?_))));obtain ⟨A9,Ba,Bb⟩:=Zp (AH9 Af Ag);refine ANo Ax (AGg Ba) fun Bc Be Bf Ay Cf Cg Az=>Zv (Zo (Zn (Zk (ABe ABu rfl H2 (Zk (Zr (Zt (AFr 1125899898454784 (fun x:(Int) × (LiI) × LnA × LnN × LvA=>(x.1,x.2.1)) ((0,A9,Bc,Be,Bf):(Int) × (LiI) × LnA × LnN × LvA) Bb (fun x=>[(23,(.int .i64 x.1))]) (fun x=>Az.L.set 0 (aO2 cZ 128 94 x.2.2.1 x.2.2.2.1 x.2.2.2.2 Ay x.2.1)) Az ⟨rfl,trivial⟩ ?_))))))));rintro ⟨Ch,Bg,Bh,Bi,Bj⟩ Ci Cj Ck Ab Ai Bl;unfold AGk at Ai;refine Zn (AAy rfl rfl (Zr (Zo (⟨_,rfl,fun Aj=>?_,fun Aj=>?_⟩))))
  ·refine Zx (q_t (Zo (Zt (Zn (Zk (AA3 (Zk (Zk ?_))))))));obtain ⟨Cm,Bm,Bn⟩:=Zp (AA7 Ai Aj);refine AJw ABu ADi H2 Ab.x Bm fun _ Cn Bo=>ABr ACn rfl Bo (Zk (Zr (Zt (AFr 562947805938176 (fun x:(Int) × (LiI) × LnA × LnN × LvA=>(x.1,x.2.1)) ((0,Bg,Bh,Bi,Bj):(Int) × (LiI) × LnA × LnN × LvA) Bn (fun x=>[(31,(.int .i64 x.1))]) (fun x=>Ab.L.set 0 (aO2 cZ 128 94 x.2.2.1 x.2.2.2.1 x.2.2.2.2 Ay x.2.1)) Ab ⟨rfl,trivial⟩ ?_))));rintro ⟨A3,u64,Co,Cp,Cq⟩ Cr Ak Ct Aa Am Bp;unfold AGj at Am;refine Zn (AAy rfl rfl (Zr (Zo (⟨_,rfl,fun Ao=>?_,fun Ao=>?_⟩))))
   ·refine Zx (q_t (Zo (Zt (Zn (Zk (Zv (ACb (fun h'=>UpT [] Ak h') Zw ?_)))))));have Ae:UpT [] Ak Ak:=UpT.start all_nil;refine Zk (Zk ?_);obtain ⟨Cu,Ap,Bq⟩:=Zp (AA7 Am Ao);refine ACt ABu rfl (Aa.o2 p0) rfl Ap fun Cv Cw Cx Br Bt=>AB8 ADi rfl Ae (fun h' hb=>AAu Bt hb.ext) (Zk (Zk (Zk ?_)));obtain ⟨Cy,Bu,Bv⟩:=Zp Bq;refine ATd ABu rfl H2 rfl Bu fun Cz C0 C1 Bw Bx=>AB8 ADi rfl Ae (fun h' hb=>AAu Bw (Aa.x.trans hb.ext)) (Zk ?_);obtain ⟨C2,By,Bz⟩:=Zp Bv;refine AJb (c:=cZ) ACn rfl Bx rfl By fun C3 C4 C5 A4 B1=>APk (c:=cZ) ABa rfl A4 Ae (fun h' hb j u hu=>AAu (B1 j u hu) (Aa.x.trans hb.ext)) ?_;obtain ⟨C6,B3,B4⟩:=Zp Bz;refine AEz Aa Ae (AR6 (Aa.zx A4).2 B3) fun C7 C8 C9 Ac Da=>?_;obtain ⟨Db,A5,B5⟩:=Zp B4;refine AEa (m:=A3) ACn rfl (Aa.o2 p0) Br Ap rfl A5 fun Dc B6=>ALu (m:=A3) (AQf ABa (cZ.klen (Ac.z p0)) rfl rfl (cZ.one (Ac.z p0))) (Ac.o2 p1) B6 Ap A5 (Ac.z p0) fun Dd B7 B8=>AAh (q_b (q_t (Z1 (AAz rfl rfl (Zk (Zr ?_))))));exact ⟨(_,_,_,_,_),(Zm B5).symm,(Ac.uO2 p1 B8 B7).sel [1] Zl,rfl,trivial⟩
   ·refine AAe (AAf (AAf (ABk (q_b (q_t (Z1 (AAz rfl rfl (Zk (Zr ?_)))))))));exact ⟨(_,_,_,_,_),(Zm (Bp _ (Zm (AA8 Am Ao)).symm)).symm,Aa,rfl,trivial⟩
  ·refine AAe (AAf (AAf (ABk (q_t (Zn (Zk (AAi (Zv (Zy ?_)))))))));obtain rfl:=Zm (Bl _ (Zm (AA8 Ai Aj)).symm);exact ⟨_,ABg,Ab.x,_,_,_,_,rfl,(Ab.o2 p0),Ab.s.sel [0] Zl⟩
def AJ2 (fuel:Nat) (a3 a7:LiA) (Aa Ac:Int):Option ((Int × Int) ⊕ ((Int))):=
  (if Aa < (a3.length:Int) then ((gI a3 Aa).bind fun Ae=>((gI a7 Aa).bind fun Af=>((AQg fuel Ae Af).bind fun Ag=>((Agv fuel Ac Ag).bind fun Ah=>(some (Sum.inl ((w64 (Aa + 1)),Ah))))))) else (some (Sum.inr<| Ac)))
def AGr (fuel:Nat) (a3 a7:LiA):Option Int:=
  ((iter (fun s=>AJ2 fuel a3 a7 s.1 s.2) fuel (0,0)).bind (fun (Ac:Int)=>(some Ac)))
theorem AR9 {fuel:Nat} {h:Zs} {Ai:Value} {a3:LiA} {Ak:Value} {a7:LiA} {r:Int} (H2:SlC cZ h Ai a3) (H6:SlC cZ h Ak a7) (hp:AGr fuel a3 a7=some r):AAs Tryz.prog 159 #[Ai,Ak] h (fun x h'=>Ext h h'/\ ∃ (x0:Value),x=x0/\ZZ h' x0 r):=by
 unfold AGr at hp;refine cwf (l:=[_,_]) Tryz.func159 rfl rfl (Zn (ACx (Kst.k0 h) [.bool false,.slice none 0 0] AEb fun b9 Bn Bo Ax=>AHj (AC5 (AMw ) (ACx Ax [.bool false,.slice none 0 0] AEb fun Ay Aq Bp Az=>AFc Az p0 (AAa Aq) (AAa Aq) fun A3 A4=>Zr (Zo (Zo ?_))))));refine Z1 (Zk (ABr ACn rfl H2 (Zk (Zr (Zt ?_)))));have Ar:=A4.az (AAa A3);refine AFr 33553472 (fun x:(Int) × (Int) × LvA=>(x.1,x.2.1)) ((0,0,[Value.bool false,Value.slice none 0 0]):(Int) × (Int) × LvA) hp (fun x=>[(10,(.int .i64 x.1))]) (fun x=>(Ar.L.set 0 (aZ x.2.2 x.2.1)).set 1 (aB 94 Ay x.2.2)) Ar ⟨rfl,trivial⟩ ?_;rintro ⟨Bq,Br,Bt⟩ Bu Ac Bv Aa Af A5;unfold AJ2 at Af;refine Zn (AAy rfl rfl (Zr (Zo (⟨_,rfl,fun Ag=>?_,fun Ag=>?_⟩))))
 ·refine Zx (q_t (Zo (Zt (Zn (Zk (Zv (ACb (fun h'=>UpT [] Ac h') Zw ?_)))))));have Ad:UpT [] Ac Ac:=UpT.start all_nil;refine AMz (Aa.z p0) Ad (Aa.b p1) (Zk (Zk ?_));obtain ⟨Bw,A6,A7⟩:=Zp (AA7 Af Ag);refine AJb (c:=cZ) ACn rfl H2 rfl A6 fun Bx By Bz Au A8=>APk (c:=cZ) ABa rfl Au Ad (fun h' hb j u hu=>AAu (A8 j u hu) (Aa.x.trans hb.ext)) (Zk (Zk ?_));obtain ⟨B1,A9,Ba⟩:=Zp A7;refine AJb (c:=cZ) ACn rfl H6 rfl A9 fun B3 B4 B5 Av Bb=>APk (c:=cZ) ABa rfl Av Ad (fun h' hb j u hu=>AAu (Bb j u hu) (Aa.x.trans hb.ext)) ?_;obtain ⟨B6,Bc,Be⟩:=Zp Ba;refine AEz Aa Ad (AOf (Aa.zx Au).2 (Aa.zx Av).2 Bc) fun B7 B8 B9 Ah Bf=>?_;obtain ⟨Ca,Bg,Bh⟩:=Zp Be;refine AEz Ah Bf (Afd (Ah.z p1).2 (Ah.z p0).2 Bg) fun Bi Cb Cd Ab Ce=>AB3 Bi ABa (cZ.klen (Ab.z p0)) (cZ.klen (Ab.z p2)) rfl rfl (cZ.one (Ab.z p0)) (Ab.b p3) fun Cf Bj Bl=>AAh (q_b (q_t (Z1 (AAz rfl rfl (Zk (Zr ?_))))));exact ⟨(_,_,_),(Zm Bh).symm,(Ab.sb p3 Bl Bj rfl).sel [0,3,4] Zl,rfl,trivial⟩
 ·refine AAe (AAf (AAf (ABk (q_t (Zn (AJd (Aa.z p0) (Aa.b p1) (AFc Aa p2 (AAa Ac) (Aa.z p0) fun Cg Ae=>Zr (Zy ?_))))))));obtain rfl:=Zm (A5 _ (Zm (AA8 Af Ag)).symm);exact ⟨_,AB9 ABa (cZ.klen (Ae.z p0)) rfl (Ae.b p2),Ae.x,_,rfl,(Ae.z p0).2⟩
def AJ3 (fuel:Nat) (a3 Ad:LiI) (Ab Aa:Int) (Ac:LiI):Option ((Int × LiI) ⊕ ((LiI))):=
  (if Aa < (Ad.length:Int) then ((gI Ac Ab).bind fun Ae=>((gI a3 Ab).bind fun Ag=>((gI Ad Aa).bind fun Ah=>((AGr fuel Ag Ah).bind fun Ai=>((gI Ae Aa).bind fun Aj=>(some (Sum.inl ((w64 (Aa + 1)),(sI Ac Ab (sI Ae Aa Ai)))))))))) else (some (Sum.inr<| Ac)))
def AJ4 (fuel:Nat) (a3 Ad:LiI) (Aa:Int) (Ac:LiI):Option ((Int × LiI) ⊕ ((LiI))):=
  (if Aa < (a3.length:Int) then ((iter (fun s=>AJ3 fuel a3 Ad Aa s.1 s.2) fuel (0,Ac)).bind (fun (Ae:LiI)=>(some (Sum.inl ((w64 (Aa + 1)),Ae))))) else (some (Sum.inr<| Ac)))
def AGs (fuel:Nat) (a3 a7:LiI):Option (LiI × Bool):=
  ((ACi fuel a3).bind fun (x9,Ad,Ae)=>((AC1 fuel a7).bind fun (Ac,Af)=>(((if (!Ae)=true then (some (Sum.inl <| ([],false))) else (if (!Af)=true then (some (Sum.inl <| ([],false))) else (if ¬ (a7.length:Int)=Ad then (some (Sum.inl <| ([],false))) else (some (Sum.inr <| ()))))):Option (((LiI × Bool)) ⊕ (Unit))).bind (fun ex=>match ex with | Sum.inl Ag=>(some Ag) | Sum.inr (_)=>((AC0 fuel (a3.length:Int) (Ac.length:Int)).bind fun Ah=>((iter (fun s=>AJ4 fuel a3 Ac s.1 s.2) fuel (0,Ah)).bind (fun (Ai:LiI)=>(some (Ai,true)))))))))
theorem ASa {fuel:Nat} {h:Zs} {Av:Value} {a3:LiI} {Ax:Value} {a7:LiI} {r:(LiI × Bool)} (H2:AEq cZ h Av a3) (H6:AEq cZ h Ax a7) (hp:AGs fuel a3 a7=some r):AAs Tryz.prog 118 #[Av,Ax] h (fun x h'=>Ext h h'/\ ∃ (x0:Value) (F0:List Nat) (Bm:List LnA) (Bn:List Value),x= .tuple #[x0,.bool r.2]/\ACp cZ 128 94 h' F0 Bm Bn x0 r.1/\Sp h' h.size [F0]):=by
 unfold AGs at hp;refine cwf (l:=[_,_]) Tryz.func118 rfl rfl (Zn (AAi (AA3 (Zk ?_))));have K0:=Kst.k0 h;obtain ⟨⟨x9,Cx,Bo⟩,Bp,A6⟩:=Zp hp;dsimp only at A6;refine ADk K0 (AF7 (H2.ext K0.x) Bp) fun Cy Cz A7=>Zk (ABj rfl rfl (ABj rfl rfl (ABj rfl rfl (AAi (AAi (AA3 (Zk ?_)))))));obtain ⟨⟨C0,Bq⟩,Br,A8⟩:=Zp A6;dsimp only at A8;refine AMx rfl (AKd (H6.ext A7.x) Br) fun C1 C2 Bt Bu=>?_;obtain ⟨C3,C4,C5,C6,rfl,Bv,Bw⟩:=Bu;refine Zk (ABj rfl rfl (ABj rfl rfl (AAi (Zv ?_))));have Ac:=A7.no2 Bt Bw Bv;obtain ⟨Bx,A9,Af⟩:=Zp A8;refine AI8 137405399088 (fun x:Unit=>[]) (fun x h'=>(Sum.inr <| ())=Bx/\Kst h h' (Ac.L)) ?_ ?_
 ·refine Zn (Zk (ADp rfl (Zk ?_)));cases Ba:(!Bo)
  ·refine AAk 27 false (Zk (AAk 27 false (ADp rfl (AAo rfl (Zk ?_)))));have Bb:=AH9 A9 Ba;cases Bc:(!Bq)
   ·refine AAk 31 false (Zk (AAk 31 false (ABe ABu rfl H6 (AAk 31 false (Zk (AAk 31 false (ADc rfl rfl (AAo rfl (Zr ?_)))))))));have Be:=AH9 Bb Bc;refine ⟨_,rfl,fun Ah=>?_,fun Ah=>?_⟩
    ·refine Zn (AAi (Zv ?_));obtain rfl:=Zm (AA7 Be Ah);refine Zy (AAc ?_);have Ai:=Kst.anil2 cZ 128 94 Ac;obtain rfl:=Zm Af;exact ⟨_,ABg,Ai.x,_,_,_,_,rfl,(Ai.o2 p0),Ai.s.sel [0] Zl⟩
    ·refine Zx (q_t ?_);exact ⟨(():Unit),⟨Zm (AA8 Be Ah),Ac⟩,trivial⟩
   ·refine APd 31 true (AAd rfl (Zr (AAl rfl (Zn (AAi (Zv ?_))))));obtain rfl:=Zm (ifT Bb Bc);refine Zy (AAc ?_);have Aj:=Kst.anil2 cZ 128 94 Ac;obtain rfl:=Zm Af;exact ⟨_,ABg,Aj.x,_,_,_,_,rfl,(Aj.o2 p0),Aj.s.sel [0] Zl⟩
  ·refine AHi 27 true (AAd rfl (Zk (APd 31 true (AAd rfl (Zr (AAl rfl (Zn (AAi (Zv ?_)))))))));obtain rfl:=Zm (ifT A9 Ba);refine Zy (AAc ?_);have Ak:=Kst.anil2 cZ 128 94 Ac;obtain rfl:=Zm Af;exact ⟨_,ABg,Ak.x,_,_,_,_,rfl,(Ak.o2 p0),Ak.s.sel [0] Zl⟩
 rintro ⟨⟩ C7 C8 ⟨By,Bf⟩;subst By;refine Zn (Zk (ABe ABu rfl H2 (Zk (ABe ABu rfl (Bf.o2 p0).rd ?_))));obtain ⟨Bz,B1,B3⟩:=Zp Af;refine ANo Bf (AGg B1) fun B4 B5 B6 Bg C9 Da Bh=>Zv (Zo (Zn (Zk (ABe ABu rfl H2 (Zk (Zr (Zt (AFr 590295792766519619584 (fun x:(Int) × (LiI) × LnA × LnN × LvA=>(x.1,x.2.1)) ((0,Bz,B4,B5,B6):(Int) × (LiI) × LnA × LnN × LvA) B3 (fun x=>[(44,(.int .i64 x.1))]) (fun x=>Bh.L.set 0 (aO2 cZ 128 94 x.2.2.1 x.2.2.2.1 x.2.2.2.2 Bg x.2.1)) Bh ⟨rfl,trivial⟩ ?_))))))));rintro ⟨Bi,B7,B8,B9,Ca⟩ Db Dc Dd Ab Am Cb;unfold AJ4 at Am;refine Zn (AAy rfl rfl (Zr (Zo (⟨_,rfl,fun Ao=>?_,fun Ao=>?_⟩))))
 ·refine Zx (q_t (Zo (Zt (Zn (Zk (AA3 (Zk (ABe ABu rfl (Ab.o2 p1).rd (Zk (Zr (Zt (AFr 295147342229399412736 (fun x:(Int) × (LiI) × LnA × LnN × LvA=>(x.1,x.2.1)) ((0,B7,B8,B9,Ca):(Int) × (LiI) × LnA × LnN × LvA) (AA7 Am Ao) (fun x=>[(49,(.int .i64 x.1))]) (fun x=>Ab.L.set 0 (aO2 cZ 128 94 x.2.2.1 x.2.2.2.1 x.2.2.2.2 Bg x.2.1)) Ab ⟨rfl,trivial⟩ ?_))))))))))));rintro ⟨De,Df,Dg,Dh,Di⟩ Dj Ap Dk Aa Aq Cd;unfold AJ3 at Aq;refine Zn (AAy rfl rfl (Zr (Zo (⟨_,rfl,fun Ar=>?_,fun Ar=>?_⟩))))
  ·refine Zx (q_t (Zo (Zt (Zn (Zk (Zv (ACb (fun h'=>UpT [] Ap h') Zw ?_)))))));have Ag:UpT [] Ap Ap:=UpT.start all_nil;refine Zk (Zk ?_);obtain ⟨Dl,Au,Ce⟩:=Zp (AA7 Aq Ar);refine ACt ABu rfl (Aa.o2 p0) rfl Au fun Do Dp Dq Cf Cg=>AB8 ADi rfl Ag (fun h' hb=>AAu Cg hb.ext) (Zk (Zk (Zk ?_)));obtain ⟨Dr,Ch,Ci⟩:=Zp Ce;refine ATd ABu rfl H2 rfl Ch fun Ds Dt Du Cj Ck=>AB8 ADi rfl Ag (fun h' hb=>AAu Cj (Aa.x.trans hb.ext)) (Zk (Zk ?_));obtain ⟨Dv,Bj,Cm⟩:=Zp Ci;refine ACt ABu rfl (Aa.o2 p1) rfl Bj fun Dw Dx Dy Cn Co=>AB8 ADi rfl Ag (fun h' hb=>AAu Co hb.ext) ?_;obtain ⟨Dz,Cp,Cq⟩:=Zp Cm;refine AEz Aa Ag (AR9 (Ck.ext Aa.x) ((Aa.o2 p1).rowI Cn Bj) Cp) fun D0 D1 D2 Ad D3=>?_;obtain ⟨D4,Bl,Cr⟩:=Zp Cq;refine AEa (m:=Bi) ACn rfl (Aa.o2 p0) Cf Au rfl Bl fun D5 Ct=>ALu (m:=Bi) (AQf ABa (cZ.klen (Ad.z p0)) rfl rfl (cZ.one (Ad.z p0))) (Ad.o2 p1) Ct Au Bl (Ad.z p0) fun D6 Cu Cv=>AAh (q_b (q_t (Z1 (AAz rfl rfl (Zk (Zr ?_))))));exact ⟨(_,_,_,_,_),(Zm Cr).symm,(Ad.uO2 p1 Cv Cu).sel [1,2] Zl,rfl,trivial⟩
  ·refine AAe (AAf (AAf (ABk (q_b (q_t (Z1 (AAz rfl rfl (Zk (Zr ?_)))))))));exact ⟨(_,_,_,_,_),(Zm (Cd _ (Zm (AA8 Aq Ar)).symm)).symm,Aa,rfl,trivial⟩
 ·refine AAe (AAf (AAf (ABk (q_t (Zn (Zk (AAi (Zv (Zy ?_)))))))));obtain rfl:=Zm (Cb _ (Zm (AA8 Am Ao)).symm);exact ⟨_,ABg,Ab.x,_,_,_,_,rfl,(Ab.o2 p0),Ab.s.sel [0] Zl⟩
def AB5 (fuel:Nat) (a3 a7:LiI):Option LiI:=
  ((AGs fuel a3 a7).bind fun (x9,Ad)=>(some x9))
theorem AHo {fuel:Nat} {h:Zs} {Ac:Value} {a3:LiI} {Ae:Value} {a7 r:LiI} (H2:AEq cZ h Ac a3) (H6:AEq cZ h Ae a7) (hp:AB5 fuel a3 a7=some r):AAs Tryz.prog 62 #[Ac,Ae] h (fun x h'=>Ext h h'/\ ∃ (x0:Value) (F0:List Nat) (Am:List LnA) (Ao:List Value),x=x0/\ACp cZ 128 94 h' F0 Am Ao x0 r/\Sp h' h.size [F0]):=by
 unfold AB5 at hp;refine cwf (l:=[_,_]) Tryz.func62 rfl rfl (Zn (AA3 (Zk (Zk ?_))));have K0:=Kst.k0 h;obtain ⟨⟨x9,Ax⟩,Ap,Ai⟩:=Zp hp;dsimp only at Ai;refine AMx rfl (ASa (H2.ext K0.x) (H6.ext K0.x) Ap) fun Ay Az Aq Ar=>?_;obtain ⟨A3,A4,A5,A6,rfl,Au,Av⟩:=Ar;refine Zk (ABj rfl rfl (ABj rfl rfl (AAi (AA3 (Zk (Zv (Zy ?_)))))));have Ab:=K0.no2 Aq Av Au;obtain rfl:=Zm Ai;exact ⟨_,Zz,Ab.x,_,_,_,_,rfl,(Ab.o2 p0),Ab.s.sel [0] Zl⟩
def AIy (fuel:Nat) (a1:Int) (Aa:LiA) (Ab:Int):Option ((LiA × Int) ⊕ ((LiA))):=
  (if Ab < a1 then (if Aa.length<=100000000 then (some (Sum.inl ((Aa ++ [Ab]),(w64 (Ab + 1))))) else none) else (some (Sum.inr<| Aa)))
def AEf (fuel:Nat) (a1 a2:Int):Option LiA:=
  ((iter (fun s=>AIy fuel a1 s.1 s.2) fuel ([],0)).bind (fun (Aa:LiA)=>(if Aa.length<=100000000 then (some (Aa ++ [a2])) else none)))
theorem ALy {fuel:Nat} {h:Zs} {a1 a2:Int} {r:LiA} (hp:AEf fuel a1 a2=some r):AAs Tryz.prog 150 #[(.int .i64 a1),(.int .i64 a2)] h (fun x h'=>Ext h h'/\ ∃ (x0:Value) (F0:List Nat),x=x0/\OwC (cI .i64) 3 h' F0 x0 r/\Sp h' h.size [F0]):=by
 unfold AEf at hp;refine cwf (l:=[_,_]) Tryz.func150 rfl rfl (Zn (AA3 (Zv (Zo (Zn (Zv (Zt ?_)))))));have K4:=Kst.anil (cI .i64) 3 (Kst.k0 h);refine AFr 65504 (fun x:(LiA) × (Value) × LnA × (Int)=>(x.1,x.2.2.2)) (([],(.slice none 0 0),[],0):(LiA) × (Value) × LnA × (Int)) hp (fun x=>[(5,x.2.1),(6,(.int .i64 x.2.2.2))]) (fun x=>K4.L.set 0 (aO (cI .i64) 3 x.2.2.1 x.2.1 x.1)) K4 ⟨rfl,rfl,trivial⟩ ?_;rintro ⟨Az,A3,A4,Aj⟩ A5 h9 y8 Ab Ac Ak;unfold AIy at Ac;refine Zo (Zn (Zk (Zk (AAy rfl rfl (Zr (⟨_,rfl,fun Ad=>?_,fun Ad=>?_⟩))))))
 ·refine Zx (q_t (Zo (Zt (Z1 (Zk (Zk ?_))))));obtain ⟨Am,Ao⟩:=ifN (AA7 Ac Ad);refine ALl AUk AUu rfl rfl trivial tt2 (fun _=>rfl) rfl (show ((cI .i64)).rep _ Aj [(.int .i64 Aj)] from rfl) (Ab.o p0) Zl Am fun A8 A9 Ba Bb Ap Aq Ar=>AAi (AAh (q_b (q_t (Z1 (Zk (AAz rfl rfl (Zv ?_)))))));exact ⟨(_,_,_,_),(Zm Ao).symm,(Ab.uo p0 Aq Ap Ar),rfl,rfl,trivial⟩
 ·refine AAe (AAf (AAf (ABk (q_t (Zn (Zk (Zk ?_)))))));obtain ⟨Au,Av⟩:=ifN (Ak _ (Zm (AA8 Ac Ad)).symm);refine ALl AUk AUu rfl rfl trivial tt2 (fun _=>rfl) rfl (show ((cI .i64)).rep _ a2 [(.int .i64 a2)] from rfl) (Ab.o p0) Zl Au fun Bc Be Bf Bg Aw Ax Ay=>Zv (Zy ?_);have Ae:=Ab.uo p0 Ax Aw Ay;obtain rfl:=Zm Av;exact ⟨_,Zz,Ae.x,_,_,rfl,(Ae.o p0),Ae.s.sel [0] Zl⟩
def AHp (fuel:Nat) (a3:LiI) (x5:Int) (Ab:LiA) (Aa:Int):Option ((LiA × Int) ⊕ ((LiA))):=
  (if Aa < x5 then ((AEf fuel Aa Aa).bind fun Ae=>((AEf fuel Aa Aa).bind fun Af=>((AD4 fuel a3 Ae Af).bind fun Ag=>((ABo fuel Ag).bind fun Ah=>(if Ab.length<=100000000 then (some (Sum.inl ((Ab ++ [Ah]),(w64 (Aa + 1))))) else none))))) else (some (Sum.inr<| Ab)))
def ADq (fuel:Nat) (a3:LiI):Option (LiA × Bool):=
  ((AD3 fuel a3).bind fun (x5,x6)=>(if (!x6)=true then (some ([],false)) else ((iter (fun s=>AHp fuel a3 x5 s.1 s.2) fuel ([],0)).bind (fun (Ad:LiA)=>(some (Ad,true))))))
theorem AK9 {fuel:Nat} {h:Zs} {Ai:Value} {a3:LiI} {r:(LiA × Bool)} (H2:AEq cZ h Ai a3) (hp:ADq fuel a3=some r):AAs Tryz.prog 98 #[Ai] h (fun x h'=>Ext h h'/\ ∃ (x0:Value) (F0:List Nat),x= .tuple #[x0,.bool r.2]/\OwC cZ 94 h' F0 x0 r.1/\Sp h' h.size [F0]):=by
 unfold ADq at hp;refine cwf (l:=[_]) Tryz.func98 rfl rfl (Zn (AAi (AA3 (Zk ?_))));have K0:=Kst.k0 h;obtain ⟨⟨x5,x6⟩,Av,Ac⟩:=Zp hp;dsimp only at Ac;refine ADk K0 (ALr (H2.ext K0.x) Av) fun Bh E9 Aq=>Zk (ABj rfl rfl (ABj rfl rfl (AAi (Zv (Zo (Zn (Zk (ADp rfl (Zr (⟨_,rfl,fun Ad=>?_,fun Ad=>?_⟩))))))))))
 ·refine Zn (AAi (Zv (Zy (AAc ?_))));have Ae:=Kst.anil cZ 94 Aq;obtain rfl:=Zm (ifT Ac Ad);exact ⟨_,ABg,Ae.x,_,_,rfl,(Ae.o p0),Ae.s.sel [0] Zl⟩
 ·refine Zx (q_t (Zn (Zv (Zo (Zn (Zv (Zt ?_)))))));have Ar:=Kst.anil cZ 94 Aq;refine AFr 4294934720 (fun x:(LiA) × (Value) × LnA × (Int)=>(x.1,x.2.2.2)) (([],(.slice none 0 0),[],0):(LiA) × (Value) × LnA × (Int)) (AH9 Ac Ad) (fun x=>[(6,x.2.1),(7,(.int .i64 x.2.2.2))]) (fun x=>Ar.L.set 0 (aO cZ 94 x.2.2.1 x.2.1 x.1)) Ar ⟨rfl,rfl,trivial⟩ ?_;rintro ⟨Bj,Bl,Bm,u32⟩ Bn Bo Bp Aa Af Aw;unfold AHp at Af;refine Zo (Zn (Zk (Zk (AAy rfl rfl (Zr (⟨_,rfl,fun Ag=>?_,fun Ag=>?_⟩))))))
  ·refine Zx (q_t (Zo (Zt (Z1 (Zk (Zk (Zk (Zk ?_))))))));obtain ⟨Bq,Ax,Ay⟩:=Zp (AA7 Af Ag);refine Atp Aa (ALy Ax) fun Br Bt Bu Bv Az=>Zk (Zk ?_);obtain ⟨Bw,A3,A4⟩:=Zp Ay;refine Atp Az (ALy A3) fun Bx By Bz B1 Ab=>?_;obtain ⟨B3,A5,A6⟩:=Zp A4;refine ANo Ab (ALs (H2.ext Ab.x) (Ab.o p1).rd (Ab.o p0).rd A5) fun B4 B5 B6 B7 B8 B9 Au=>?_;obtain ⟨Ca,A7,A8⟩:=Zp A6;refine AMg Au (ACv (Au.o2 p0).rd A7) fun Cb Cd Ce Ah=>?_;obtain ⟨A9,Ba⟩:=ifN A8;refine ALl ACn AEb rfl rfl trivial tt2 (fun _=>rfl) rfl (Ah.z p0) (Ah.o p4) Zl A9 fun Cf Cg Ch Ci Bb Bc Be=>AAi (AAh (q_b (q_t (Z1 (Zk (AAz rfl rfl (Zv ?_)))))));exact ⟨(_,_,_,_),(Zm Ba).symm,(Ah.uo p4 Bc Bb Be).sel [4] Zl,rfl,rfl,trivial⟩
  ·refine AAe (AAf (AAf (ABk (q_t (Zn (Zk (AAi (Zv (Zy ?_)))))))));obtain rfl:=Zm (Aw _ (Zm (AA8 Af Ag)).symm);exact ⟨_,ABg,Aa.x,_,_,rfl,(Aa.o p0),Aa.s.sel [0] Zl⟩
def AGl (fuel:Nat) (a3:LiI) (Ab Aa:Int):Option ((Int) ⊕ ((Bool) ⊕ (Unit))):=
  (if Aa < Ab then ((gI a3 Ab).bind fun Ad=>((gI Ad Aa).bind fun Ae=>((gI a3 Aa).bind fun Af=>((gI Af Ab).bind fun Ag=>((Aah fuel Ae Ag).bind fun Ah=>(if ¬ Ah=0 then (some (Sum.inr<| Sum.inl <| false)) else (some (Sum.inl (w64 (Aa + 1)))))))))) else (some (Sum.inr<| Sum.inr <| ())))
def AGm (fuel:Nat) (a3:LiI) (Aa:Int):Option ((Int) ⊕ ((Bool) ⊕ (Unit))):=
  (if Aa < (a3.length:Int) then ((iter (fun s=>AGl fuel a3 Aa s) fuel 0).bind (fun ex=>match ex with | Sum.inl Ac=>(some (Sum.inr<| Sum.inl <| Ac)) | Sum.inr (_)=>(some (Sum.inl (w64 (Aa + 1)))))) else (some (Sum.inr<| Sum.inr <| ())))
def AC2 (fuel:Nat) (a3:LiI):Option Bool:=
  ((iter (fun s=>AGm fuel a3 s) fuel 0).bind (fun ex=>match ex with | Sum.inl Ab=>(some Ab) | Sum.inr (_)=>(some true)))
theorem AKe {fuel:Nat} {h:Zs} {Ai:Value} {a3:LiI} {r:Bool} (H2:AEq cZ h Ai a3) (hp:AC2 fuel a3=some r):AAs Tryz.prog 95 #[Ai] h (fun x h'=>Ext h h'/\x= .bool r):=by
 unfold AC2 at hp;refine cwf (l:=[_]) Tryz.func95 rfl rfl (Zn (Zv (Zo (Zn (Zk (ABe ABu rfl H2 (Zk (Zr (Zt ?_)))))))));have K0:=Kst.k0 h;refine AHm 4294967196 hp (fun x=>[(7,(.int .i64 x))]) (fun x=>K0.L) K0 ⟨rfl,trivial⟩ ?_;rintro Bb Bc h8 y7 Ac Ad Am;unfold AGm at Ad;refine Zn (AAy rfl rfl (Zr (Zo (⟨_,rfl,fun Ae=>?_,fun Ae=>?_⟩))))
 ·refine Zx (q_t (Zo (Zt (Zn (Zk (AA3 (Zv (Zt (AHm 2147482644 (AA7 Ad Ae) (fun x=>[(4,(.int .i64 x))]) (fun x=>Ac.L) Ac ⟨rfl,trivial⟩ ?_)))))))));rintro Bg Bh Bi Bj Aa Af Ao;unfold AGl at Af;refine Zo (Zn (Zk (Zk (AAy rfl rfl (Zr (⟨_,rfl,fun Ag=>?_,fun Ag=>?_⟩))))))
  ·refine Zx (q_t (Zo (Zt (Zo (AGh (Zk (Zk ?_)))))));obtain ⟨Bl,Av,Aw⟩:=Zp (AA7 Af Ag);refine AJw ABu ADi H2 Aa.x Av fun _ Bm Ax=>Zk ?_;obtain ⟨Bn,Ay,Az⟩:=Zp Aw;refine AJb (c:=cZ) ACn rfl Ax rfl Ay fun Bo Bp Bq Ap A3=>ANh (c:=cZ) ABa rfl (Aa.zx Ap) (fun j u hu=>(AAu (A3 j u hu) Aa.x)) (Zk (Zk ?_));obtain ⟨Br,A4,A5⟩:=Zp Az;refine AJw ABu ADi H2 Aa.x A4 fun _ Bt A6=>Zk ?_;obtain ⟨Bu,A7,A8⟩:=Zp A5;refine AJb (c:=cZ) ACn rfl A6 rfl A7 fun Bv Bw Bx Aq A9=>ANh (c:=cZ) ABa rfl (Aa.zx Aq) (fun j u hu=>(AAu (A9 j u hu) Aa.x)) ?_;obtain ⟨By,Ba,Ar⟩:=Zp A8;refine ADk Aa (AY1 (Aa.zx Ap).2 (Aa.zx Aq).2 Ba) fun Bz B1 Au=>ADc rfl rfl (Zr (⟨_,rfl,fun Ah=>?_,fun Ah=>?_⟩))
   ·refine Zn (Zv (Zy (ABp (AAc (AAc (ABp (ABp (AAc (AAc (ABp (AAc ?_)))))))))));obtain rfl:=Zm (Am _ (Zm (Ao _ (Zm (AA7 Ar Ah)).symm)).symm);exact ⟨_,Zz,Au.x,rfl⟩
   ·refine Zx (q_b (q_t (Z1 (Zk (AAz rfl rfl (Zv ?_))))));exact ⟨_,(Zm (AA8 Ar Ah)).symm,Au,rfl,trivial⟩
  ·refine AAe (AAf (AAf (ABk (q_b (q_t (Z1 (AAz rfl rfl (Zk (Zr ?_)))))))));exact ⟨_,(Zm (Ao _ (Zm (AA8 Af Ag)).symm)).symm,Aa,rfl,trivial⟩
 ·refine AAe (AAf (AAf (ABk (q_t (Zn (Zv (Zy ?_)))))));obtain rfl:=Zm (Am _ (Zm (AA8 Ad Ae)).symm);exact ⟨_,Zz,Ac.x,rfl⟩
def AG5 (fuel:Nat) (x5:LiA) (Aa:Int):Option ((Int) ⊕ ((Bool) ⊕ (Unit))):=
  (if Aa < (x5.length:Int) then ((gI x5 Aa).bind fun Ac=>((AWl fuel Ac).bind fun Ad=>(if Ad<=0 then (some (Sum.inr<| Sum.inl <| false)) else (some (Sum.inl (w64 (Aa + 1))))))) else (some (Sum.inr<| Sum.inr <| ())))
def AEk (fuel:Nat) (a3:LiI):Option Bool:=
  ((ADq fuel a3).bind fun (x5,x6)=>(((if (!x6)=true then (some (Sum.inl <| false)) else ((AC2 fuel a3).bind fun Ad=>(if (!Ad)=true then (some (Sum.inl <| false)) else (some (Sum.inr <| ()))))):Option ((Bool) ⊕ (Unit))).bind (fun ex=>match ex with | Sum.inl Ae=>(some Ae) | Sum.inr (_)=>((iter (fun s=>AG5 fuel x5 s) fuel 0).bind (fun ex=>match ex with | Sum.inl Af=>(some Af) | Sum.inr (_)=>(some true))))))
theorem AOu {fuel:Nat} {h:Zs} {Aj:Value} {a3:LiI} {r:Bool} (H2:AEq cZ h Aj a3) (hp:AEk fuel a3=some r):AAs Tryz.prog 96 #[Aj] h (fun x h'=>Ext h h'/\x= .bool r):=by
 unfold AEk at hp;refine cwf (l:=[_]) Tryz.func96 rfl rfl (Zn (AA3 (Zk ?_)));have K0:=Kst.k0 h;obtain ⟨⟨x5,x6⟩,A6,Ap⟩:=Zp hp;dsimp only at Ap;refine AMx rfl (AK9 (H2.ext K0.x) A6) fun Bn Bo E9 A8=>?_;obtain ⟨Bp,Bq,rfl,A9,Ba⟩:=A8;refine Zk (ABj rfl rfl (ABj rfl rfl (AAi (Zv ?_))));have Aa:=K0.no E9 Ba A9;obtain ⟨Bb,Aq,Ad⟩:=Zp Ap;refine AI8 520196 (fun x:Unit=>[]) (fun x h'=>(Sum.inr <| ())=Bb/\Kst h h' (Aa.L)) ?_ ?_
 ·refine Zn (Zk (ADp rfl (Zk ?_)));cases Ar:(!x6)
  ·refine AAk 14 false (Zk (AAk 14 false ?_));obtain ⟨Br,Bc,Au⟩:=Zp (AH9 Aq Ar);refine ADk Aa (AKe (H2.ext Aa.x) Bc) fun Bt Bu Av=>AAk 14 false (ADp rfl (AAo rfl (Zr (⟨_,rfl,fun Ae=>?_,fun Ae=>?_⟩))))
   ·refine Zn (Zv ?_);obtain rfl:=Zm (ifT Au Ae);refine Zy (AAc ?_);obtain rfl:=Zm Ad;exact ⟨_,Zz,Av.x,rfl⟩
   ·refine Zx (q_t ?_);exact ⟨(():Unit),⟨Zm (AH9 Au Ae),Av⟩,trivial⟩
  ·refine AH3 14 true (AAd rfl (Zr (AAl rfl (Zn (Zv ?_)))));obtain rfl:=Zm (ifT Aq Ar);refine Zy (AAc ?_);obtain rfl:=Zm Ad;exact ⟨_,Zz,Aa.x,rfl⟩
 rintro ⟨⟩ Bv Bw ⟨Be,Af⟩;subst Be;refine Zo (Zn (Zk (ABr ACn rfl (Af.o p0).rd (Zk (Zr (Zt (AHm 534773828 Ad (fun x=>[(21,(.int .i64 x))]) (fun x=>Af.L) Af ⟨rfl,trivial⟩ ?_)))))));rintro Bx By Bz B1 Ab Ag Aw;unfold AG5 at Ag;refine Zn (AAy rfl rfl (Zr (Zo (⟨_,rfl,fun Ah=>?_,fun Ah=>?_⟩))))
 ·refine Zx (q_t (Zo (Zt (Zn ?_))));obtain ⟨B3,Ax,Bf⟩:=Zp (AA7 Ag Ah);refine AW8 ACn rfl (Ab.o p0) rfl Ax fun B4 Bg=>?_;obtain ⟨B5,Bh,Bi⟩:=(Ab.o p0).cells Bg Ax;have Ay:=Ab.az Bh;refine ANh (c:=cZ) ABa rfl (Ay.z p0) (fun j u hu=>(Bi j u hu)) (ACx Ay [.bool false,.slice none 0 0] AEb fun B6 Bj B7 Az=>AFc Az p0 (AAa Bj) (Az.z p1) fun B8 Ac=>AHj (AJd (Ac.z p1) (Ac.b p0) ?_));obtain ⟨B9,Bl,A3⟩:=Zp Bf;refine ADk Ac (AVk (Ac.z p1).2 Bl) fun Ca Cb A4=>AYv rfl rfl (Zr (⟨_,rfl,fun Ai=>?_,fun Ai=>?_⟩))
  ·refine Zn (Zv (Zy (ABp (AAc (AAc (ABp (AAc ?_)))))));obtain rfl:=Zm (Aw _ (Zm (AA7 A3 Ai)).symm);exact ⟨_,Zz,A4.x,rfl⟩
  ·refine Zx (q_b (q_t (Z1 (AAz rfl rfl (Zk (Zr ?_))))));exact ⟨_,(Zm (AA8 A3 Ai)).symm,A4.sel [2] Zl,rfl,trivial⟩
 ·refine AAe (AAf (AAf (ABk (q_t (Zn (Zv (Zy ?_)))))));obtain rfl:=Zm (Aw _ (Zm (AA8 Ag Ah)).symm);exact ⟨_,Zz,Ab.x,rfl⟩
def ADe (fuel:Nat) (a3:LiI):Option Int:=
  ((AD3 fuel a3).bind fun (x5,x6)=>(if (!x6)=true then (some 3) else (if 8 < x5 then (some 3) else ((AC2 fuel a3).bind fun Ad=>(if (!Ad)=true then (some 4) else ((AEk fuel a3).bind fun Ae=>(if (!Ae)=true then (some 5) else (some 0))))))))
theorem AKw {fuel:Nat} {h:Zs} {Ah:Value} {a3:LiI} {r:Int} (H2:AEq cZ h Ah a3) (hp:ADe fuel a3=some r):AAs Tryz.prog 49 #[Ah] h (fun x h'=>Ext h h'/\x= .int .i64 r):=by
 unfold ADe at hp;refine cwf (l:=[_]) Tryz.func49 rfl rfl (Zn (AA3 (Zk ?_)));have K0:=Kst.k0 h;obtain ⟨⟨x5,x6⟩,Au,Ac⟩:=Zp hp;dsimp only at Ac;refine ADk K0 (ALr (H2.ext K0.x) Au) fun Ay E9 Aa=>Zk (ABj rfl rfl (ABj rfl rfl (AAi (Zv (Zo (Zt (Zn (Zk (ADp rfl (Zk ?_))))))))));cases Ak:(!x6)
 ·refine AAk 13 false (Zk (AAk 13 false (AGz rfl rfl (AAo rfl (Zv ?_)))));have Am:=AH9 Ac Ak;refine ⟨_,rfl,fun Ad=>?_,fun Ad=>?_⟩
  ·refine Zn (Zv (Zy (ABp (AAc ?_))));obtain rfl:=Zm (AA7 Am Ad);exact ⟨_,Zz,Aa.x,rfl⟩
  ·refine Zn (Zk ?_);obtain ⟨A3,Av,Ao⟩:=Zp (AA8 Am Ad);refine ADk Aa (AKe (H2.ext Aa.x) Av) fun A4 A5 Ae=>ADp rfl (Zv (⟨_,rfl,fun Af=>?_,fun Af=>?_⟩))
   ·refine Zn (Zv (Zy (ABp (AAc ?_))));obtain rfl:=Zm (ifT Ao Af);exact ⟨_,Zz,Ae.x,rfl⟩
   ·refine Zn (Zk ?_);obtain ⟨A6,Aw,Ap⟩:=Zp (AH9 Ao Af);refine ADk Ae (AOu (H2.ext Ae.x) Aw) fun A7 A8 Aq=>ADp rfl (Zv (⟨_,rfl,fun Ag=>?_,fun Ag=>?_⟩))
    ·refine Zn (Zv (Zy (ABp (AAc ?_))));obtain rfl:=Zm (ifT Ap Ag);exact ⟨_,Zz,Aq.x,rfl⟩
    ·refine Zx (q_b (q_t (Zn (Zv (Zy ?_)))));obtain rfl:=Zm (AH9 Ap Ag);exact ⟨_,Zz,Aq.x,rfl⟩
 ·refine AHi 13 true (AAd rfl (Zv (AAl rfl (Zn (Zv (Zy (ABp (AAc ?_))))))));obtain rfl:=Zm (ifT Ac Ak);exact ⟨_,Zz,Aa.x,rfl⟩
def AC3 (fuel:Nat) (a3 a7:LiI):Option LiI:=
  ((AC1 fuel a7).bind fun (x9,Af)=>((AB5 fuel x9 a3).bind fun Ad=>((AB5 fuel Ad a7).bind fun Ae=>(some Ae))))
theorem AOh {fuel:Nat} {h:Zs} {Ad:Value} {a3:LiI} {Af:Value} {a7 r:LiI} (H2:AEq cZ h Ad a3) (H6:AEq cZ h Af a7) (hp:AC3 fuel a3 a7=some r):AAs Tryz.prog 61 #[Ad,Af] h (fun x h'=>Ext h h'/\ ∃ (x0:Value) (F0:List Nat) (Ap:List LnA) (Aq:List Value),x=x0/\ACp cZ 128 94 h' F0 Ap Aq x0 r/\Sp h' h.size [F0]):=by
 unfold AC3 at hp;refine cwf (l:=[_,_]) Tryz.func61 rfl rfl (Zn (AA3 (Zk ?_)));have K0:=Kst.k0 h;obtain ⟨⟨x9,A6⟩,Ar,Am⟩:=Zp hp;dsimp only at Am;refine AMx rfl (AKd (H6.ext K0.x) Ar) fun A7 A8 Au Av=>?_;obtain ⟨A9,Ba,Bb,Bc,rfl,Aw,Ax⟩:=Av;refine Zk (ABj rfl rfl (ABj rfl rfl (AAi (AA3 (Zk (Zk ?_))))));have Aa:=K0.no2 Au Ax Aw;obtain ⟨Be,Ay,Az⟩:=Zp Am;refine ANo Aa (AHo (Aa.o2 p0).rd (H2.ext Aa.x) Ay) fun Bf Bg Bh Bi Bj Bl Ab=>Zk ?_;obtain ⟨Bm,A3,A4⟩:=Zp Az;refine ANo Ab (AHo (Ab.o2 p0).rd (H6.ext Ab.x) A3) fun Bn Bo Bp Bq Br Bt Ac=>Zv (Zy ?_);obtain rfl:=Zm A4;exact ⟨_,Zz,Ac.x,_,_,_,_,rfl,(Ac.o2 p0),Ac.s.sel [0] Zl⟩
def AIe (fuel:Nat) (a6:Int) (Ab Ac:LiA) (Aa:Int):Option ((LiA × LiA × Int) ⊕ ((LiA × LiA))):=
  (if Aa < a6 then (if Ab.length<=100000000 then (if Ac.length<=100000000 then (some (Sum.inl ((Ab ++ [Aa]),(Ac ++ [Aa]),(w64 (Aa + 1))))) else none) else none) else (some (Sum.inr<| (Ab,Ac))))
def AC6 (fuel:Nat) (a3:LiI) (a5 a6:Int):Option Int:=
  ((iter (fun s=>AIe fuel a6 s.1 s.2.1 s.2.2) fuel ([],[],0)).bind (fun ((Ab,Ac):LiA × LiA)=>(if Ab.length<=100000000 then (if Ac.length<=100000000 then ((AD4 fuel a3 (Ab ++ [a5]) (Ac ++ [a6])).bind fun Af=>((ABo fuel Af).bind fun Ag=>(some Ag))) else none) else none)))
theorem AIf {fuel:Nat} {h:Zs} {Ah:Value} {a3:LiI} {a5 a6 r:Int} (H2:AEq cZ h Ah a3) (hp:AC6 fuel a3 a5 a6=some r):AAs Tryz.prog 114 #[Ah,(.int .i64 a5),(.int .i64 a6)] h (fun x h'=>Ext h h'/\ ∃ (x0:Value),x=x0/\ZZ h' x0 r):=by
 unfold AC6 at hp;refine cwf (l:=[_,_,_]) Tryz.func114 rfl rfl (Zn (ACx (Kst.k0 h) [.bool false,.slice none 0 0] AEb fun b7 h8 Bt Au=>AHj (AAi (Zv (Zo (Zn (Zv (Zt ?_))))))));have Ak:=Kst.anil (cI .i64) 3 (Kst.anil (cI .i64) 3 Au);refine AFr 8388480 (fun x:(LiA) × (Value) × LnA × (LiA) × (Value) × LnA × (Int)=>(x.1,x.2.2.2.1,x.2.2.2.2.2.2)) (([],(.slice none 0 0),[],[],(.slice none 0 0),[],0):(LiA) × (Value) × LnA × (LiA) × (Value) × LnA × (Int)) hp (fun x=>[(7,x.2.1),(8,x.2.2.2.2.1),(9,(.int .i64 x.2.2.2.2.2.2))]) (fun x=>(Ak.L.set 1 (aO (cI .i64) 3 x.2.2.1 x.2.1 x.1)).set 0 (aO (cI .i64) 3 x.2.2.2.2.2.1 x.2.2.2.2.1 x.2.2.2.1)) Ak ⟨rfl,rfl,rfl,trivial⟩ ?_;rintro ⟨Bu,Bv,Bw,Bx,By,Bz,u32⟩ B1 B3 B4 Ac Af Av;unfold AIe at Af;refine Zo (Zn (Zk (Zk (AAy rfl rfl (Zr (⟨_,rfl,fun Ag=>?_,fun Ag=>?_⟩))))))
 ·refine Zx (q_t (Zo (Zt (Zn (Zk (Zk ?_))))));obtain ⟨Aw,Ax⟩:=ifN (AA7 Af Ag);refine ALl AUk AUu rfl rfl trivial tt2 (fun _=>rfl) rfl (show ((cI .i64)).rep _ u32 [(.int .i64 u32)] from rfl) (Ac.o p1) Zl Aw fun B5 B6 B7 B8 Ay Az A3=>Zv (Z1 (Zk (Zk ?_)));have Am:=Ac.uo p1 Az Ay A3;obtain ⟨A4,A5⟩:=ifN Ax;refine ALl AUk AUu rfl rfl trivial tt2 (fun _=>rfl) rfl (show ((cI .i64)).rep _ u32 [(.int .i64 u32)] from rfl) (Am.o p0) Zl A4 fun B9 Ca Cb Cd A6 A7 A8=>AAi (AAh (q_b (q_t (Z1 (Zk (AAz rfl rfl (Zv ?_)))))));exact ⟨(_,_,_,_,_,_,_),(Zm A5).symm,(Am.uo p0 A7 A6 A8),rfl,rfl,rfl,trivial⟩
 ·refine AAe (AAf (AAf (ABk (q_t (Zn (Zk (Zk (Zk ?_))))))));obtain ⟨A9,Ba⟩:=ifN (Av _ (Zm (AA8 Af Ag)).symm);refine ALl AUk AUu rfl rfl trivial tt2 (fun _=>rfl) rfl (show ((cI .i64)).rep _ a5 [(.int .i64 a5)] from rfl) (Ac.o p1) Zl A9 fun Ce Cf Cg Ch Bb Bc Be=>Zk (Zk ?_);have Ao:=Ac.uo p1 Bc Bb Be;obtain ⟨Bf,Bg⟩:=ifN Ba;refine ALl AUk AUu rfl rfl trivial tt2 (fun _=>rfl) rfl (show ((cI .i64)).rep _ a6 [(.int .i64 a6)] from rfl) (Ao.o p0) Zl Bf fun Ci Cj Ck Cm Bh Bi Bj=>?_;have Ad:=Ao.uo p0 Bi Bh Bj;obtain ⟨Cn,Bl,Bm⟩:=Zp Bg;refine ANo Ad (ALs (H2.ext Ad.x) (Ad.o p1).rd (Ad.o p0).rd Bl) fun Co Cp Cq Cr Ct Cu Ap=>?_;obtain ⟨Cv,Bn,Bo⟩:=Zp Bm;refine AMg Ap (ACv (Ap.o2 p0).rd Bn) fun Cw Bp Cx Aq=>AFc Aq p4 (AAa Bp) (Aq.z p0) fun Cy Ae=>Zr (Zy ?_);obtain rfl:=Zm Bo;exact ⟨_,AB9 ABa (cZ.klen (Ae.z p0)) rfl (Ae.b p4),Ae.x,_,rfl,(Ae.z p0).2⟩
def AB6 (fuel:Nat) (a3:LiA) (a5:Int):Option Int:=
  (if a5=0 then ((AKt fuel 1).bind fun Ac=>(some Ac)) else ((gI a3 (w64 (a5 - 1))).bind fun Ad=>(some Ad)))
theorem ADf {fuel:Nat} {h:Zs} {Af:Value} {a3:LiA} {a5 r:Int} (H2:SlC cZ h Af a3) (hp:AB6 fuel a3 a5=some r):AAs Tryz.prog 115 #[Af,(.int .i64 a5)] h (fun x h'=>Ext h h'/\ ∃ (x0:Value),x=x0/\ZZ h' x0 r):=by
 unfold AB6 at hp;refine cwf (l:=[_,_]) Tryz.func115 rfl rfl (Zn (ACx (Kst.k0 h) [.bool false,.slice none 0 0] AEb fun b6 h7 E9 Aa=>Zr (Zo (Zn (Zk (ACc rfl rfl (Zr (⟨_,rfl,fun Ae=>?_,fun Ae=>?_⟩))))))))
 ·refine Zn ?_;obtain ⟨Ay,Ao,Ap⟩:=Zp (AA7 hp Ae);refine AMg Aa (AJc Ao) fun Az Aq A3 Aj=>AFc Aj p1 (AAa Aq) (Aj.z p0) fun A4 Ab=>Zr (Zy (AAc ?_));obtain rfl:=Zm Ap;exact ⟨_,AB9 ABa (cZ.klen (Ab.z p0)) rfl (Ab.b p1),Ab.x,_,rfl,(Ab.z p0).2⟩
 ·refine Zx (q_t (Zn (Zk (Zk (AE4 rfl rfl ?_)))));obtain ⟨A5,Ar,Au⟩:=Zp (AA8 hp Ae);refine AJb (c:=cZ) ACn rfl H2 rfl Ar fun A6 A7 A8 Ac Av=>ANh (c:=cZ) ABa rfl (Aa.zx Ac) (fun j u hu=>(AAu (Av j u hu) Aa.x)) (AFc Aa p0 (AAa h7) (Aa.zx Ac) fun A9 Ad=>Zr (Zy ?_));obtain rfl:=Zm Au;exact ⟨_,AB9 ABa (cZ.klen (Ad.zx Ac)) rfl (Ad.b p0),Ad.x,_,rfl,(Ad.zx Ac).2⟩
def AFs (fuel:Nat) (a3:LiI) (a7:LiA) (a9 Aa:Int):Option Bool:=
  ((AKt fuel 2).bind fun Ae=>((AC6 fuel a3 a9 Aa).bind fun Af=>((Agz fuel Af).bind fun Ag=>((AQg fuel Ae Ag).bind fun Ah=>((AB6 fuel a7 (w64 (Aa + 1))).bind fun Ai=>((Aah fuel Ah Ai).bind fun Aj=>(some (decide (Aj<=0)))))))))
theorem AQw {fuel:Nat} {h:Zs} {Ac:Value} {a3:LiI} {Ae:Value} {a7:LiA} {a9 Ah:Int} {r:Bool} (H2:AEq cZ h Ac a3) (H6:SlC cZ h Ae a7) (hp:AFs fuel a3 a7 a9 Ah=some r):AAs Tryz.prog 99 #[Ac,Ae,(.int .i64 a9),(.int .i64 Ah)] h (fun x h'=>Ext h h'/\x= .bool r):=by
 unfold AFs at hp;refine cwf (l:=[_,_,_,_]) Tryz.func99 rfl rfl (Zn (AA3 ?_));obtain ⟨A7,Ap,Aq⟩:=Zp hp;refine AMg (Kst.k0 h) (AJc Ap) fun A8 A9 Ba Ai=>Zk (Zk (Zk ?_));obtain ⟨Bb,Ar,Au⟩:=Zp Aq;refine AMg Ai (AIf (H2.ext Ai.x) Ar) fun Bc Be Bf Aj=>?_;obtain ⟨Bg,Av,Aw⟩:=Zp Au;refine AMg Aj (Afn (Aj.z p0).2 Av) fun Bh Bi Bj Aa=>?_;obtain ⟨Bl,Ax,Ay⟩:=Zp Aw;refine AMg Aa (AOf (Aa.z p2).2 (Aa.z p0).2 Ax) fun Bm Bn Bo Ak=>Zk (Zk (AAz rfl rfl ?_));obtain ⟨Bp,Az,A3⟩:=Zp Ay;refine AMg Ak (ADf (H6.ext Ak.x) Az) fun Bq Br Bt Ab=>?_;obtain ⟨Bu,A4,A5⟩:=Zp A3;refine ADk Ab (AY1 (Ab.z p1).2 (Ab.z p0).2 A4) fun Bv Bw A6=>AYv rfl rfl (Zv (Zy ?_));obtain rfl:=Zm A5;exact ⟨_,Zz,A6.x,rfl⟩
def AFt (fuel:Nat) (a3:LiI):Option Bool:=
  ((ABo fuel a3).bind fun x5=>((AKt fuel 10000).bind fun Ac=>((Aah fuel x5 Ac).bind fun Ad=>(some (decide (Ad<=0))))))
theorem AQx {fuel:Nat} {h:Zs} {Ab:Value} {a3:LiI} {r:Bool} (H2:AEq cZ h Ab a3) (hp:AFt fuel a3=some r):AAs Tryz.prog 50 #[Ab] h (fun x h'=>Ext h h'/\x= .bool r):=by
 unfold AFt at hp;refine cwf (l:=[_]) Tryz.func50 rfl rfl (Zn (AA3 (Zk ?_)));have K0:=Kst.k0 h;obtain ⟨x5,Af,Ag⟩:=Zp hp;refine AMg K0 (ACv (H2.ext K0.x) Af) fun Aq h9 E8 Ah=>?_;obtain ⟨Av,Ai,Aj⟩:=Zp Ag;refine AMg Ah (AJc Ai) fun Aw Ax Ay Aa=>?_;obtain ⟨Az,Ak,Am⟩:=Zp Aj;refine ADk Aa (AY1 (Aa.z p1).2 (Aa.z p0).2 Ak) fun A3 A4 Ao=>AYv rfl rfl (Zv (Zy ?_));obtain rfl:=Zm Am;exact ⟨_,Zz,Ao.x,rfl⟩
def AJh (fuel:Nat) (a1:Int) (a2:Bool) (Aa:Int) (Ac:LiI):Option ((Int × LiI) ⊕ ((LiI))):=
  (if Aa < ((List.replicate (Int.toNat a1) ([]:List Int)).length:Int) then (if 0<=a1/\a1<=100000000 then ((gI Ac Aa).bind fun Ai=>((gI (sI Ac Aa (List.replicate (Int.toNat a1) (0:Int))) Aa).bind fun Ae=>((gI Ae Aa).bind fun Aj=>(((if a2=true then (if Aa=(w64 (a1 - 1)) then (if 3 < a1 then (some ( (w64 (Aa - 2)))) else (some ( (w64 (Aa - 1))))) else (some ( (w64 (Aa - 1))))) else (some ( (w64 (Aa - 1))))):Option ((Int))).bind (fun (Ad:Int)=>(if 0<=Ad then ((gI (sI (sI Ac Aa (List.replicate (Int.toNat a1) (0:Int))) Aa (sI Ae Aa 2)) Aa).bind fun Af=>((gI (sI (sI Ac Aa (List.replicate (Int.toNat a1) (0:Int))) Aa (sI Ae Aa 2)) Ad).bind fun Ak=>((gI Af Ad).bind fun Am=>((gI (sI (sI (sI Ac Aa (List.replicate (Int.toNat a1) (0:Int))) Aa (sI Ae Aa 2)) Aa (sI Af Ad (-1))) Ad).bind fun Ag=>((gI Ag Aa).bind fun Ao=>(some (Sum.inl ((w64 (Aa + 1)),(sI (sI (sI (sI Ac Aa (List.replicate (Int.toNat a1) (0:Int))) Aa (sI Ae Aa 2)) Aa (sI Af Ad (-1))) Ad (sI Ag Aa (-1))))))))))) else (some (Sum.inl ((w64 (Aa + 1)),(sI (sI Ac Aa (List.replicate (Int.toNat a1) (0:Int))) Aa (sI Ae Aa 2))))))))))) else none) else (some (Sum.inr<| Ac)))
def AE1 (fuel:Nat) (a1:Int) (a2:Bool):Option LiI:=
  (if 0<=a1/\a1<=100000000 then ((iter (fun s=>AJh fuel a1 a2 s.1 s.2) fuel (0,(List.replicate (Int.toNat a1) ([]:List Int)))).bind (fun (Ac:LiI)=>(some Ac))) else none)
theorem AMc {fuel:Nat} {h:Zs} {a1:Int} {a2:Bool} {r:LiI} (hp:AE1 fuel a1 a2=some r):AAs Tryz.prog 64 #[(.int .i64 a1),(.bool a2)] h (fun x h'=>Ext h h'/\ ∃ (x0:Value) (F0:List Nat) (A5:List LnA) (A6:List Value),x=x0/\ACp (cI .i64) 60 2 h' F0 A5 A6 x0 r/\Sp h' h.size [F0]):=by
 unfold AE1 at hp;refine cwf (l:=[_,_]) Tryz.func64 rfl rfl (Zn (AA3 (Zk ?_)));obtain ⟨A7,A8⟩:=ifN hp;refine ARc (cI .i64) 2 AAn AMp rfl trivial tt2 rfl rfl Zl A7 fun A9 Ba Bb v9 h7 I8 E5 S6=>Zv (Zo (Zn (Zk ?_)));have Ai:=(Kst.k0 h).no2 E5 S6 I8;refine ABe AAn rfl (Ai.o2 p0).rd (Zk (Zr (Zt (AFr 72057594037924032 (fun x:(Int) × (LiI) × LnA × LnN × LvA=>(x.1,x.2.1)) ((0,(List.replicate (Int.toNat a1) ([]:List Int)),A9,Ba,Bb):(Int) × (LiI) × LnA × LnN × LvA) A8 (fun x=>[(12,(.int .i64 x.1))]) (fun x=>Ai.L.set 0 (aO2 (cI .i64) 60 2 x.2.2.1 x.2.2.2.1 x.2.2.2.2 v9 x.2.1)) Ai ⟨rfl,trivial⟩ ?_))));rintro ⟨Aa,Cj,Ck,Cm,Cn⟩ Co Cp Cq Ae Aj Bh;unfold AJh at Aj;refine Zn (AAy rfl rfl (Zr (Zo (⟨_,rfl,fun Ak=>?_,fun Ak=>?_⟩))))
 ·refine Zx (q_t (Zo (Zt (Zn (Zk (AA3 (Zk (Zk (Zk ?_)))))))));obtain ⟨Bi,Bj⟩:=ifN (AA7 Aj Ak);refine AQt (c:=(cI .i64)) (a:=0) AAj AJx rfl rfl (fun _=>rfl) rfl trivial tt2 rfl rfl Zl Bi fun Cr Ct Cu Bl Bm Bn Bo=>?_;have Ab:=Ae.no Bm (AEv Bn Bo) Bl;obtain ⟨Cv,Ar,Bp⟩:=Zp Bj;refine ACt AAn rfl (Ab.o2 p1) rfl Ar fun Cw Cx Bq Cy Cz=>ARb AA1 (Ab.o2 p1) Ar Bq rfl rfl (Ab.o p0) (Ab.dj p0 p1 Zl) fun C0 Br Bt Bu=>AHj (Zk (Zk ?_));have Au:=Ab.m2 p0 p1 Zl Bt Br (fun z hz=> .inl (Bu z hz));obtain ⟨C1,Av,Bv⟩:=Zp Bp;refine AB2 AAn AA1 (Au.o2 p1) Av fun _ C2 Bw=>Zk ?_;obtain ⟨C3,Bx,By⟩:=Zp Bv;refine ALq (m:=Aa) Au p1 AAj AAt Bw Av Bx (fun _=>rfl) fun _ C4 Ac=>AHj (Zk (AE4 rfl rfl (Zv ?_)));obtain ⟨Bz,Aw,Ax⟩:=Zp By;refine AI8 2198754820224 (fun x:(Int)=>[(7,(.int .i64 x))]) (fun x h'=>( x)=Bz/\Kst h h' (AFy Ac.L [1])) ?_ ?_
  ·refine Zn (Zk (Zk ?_));cases Ay:a2
   ·refine APd 29 false (AAo rfl (Zk (AHi 35 false (AAo rfl (Zr (AAq rfl (Zx (q_t ?_))))))));exact ⟨((w64 (Aa - 1)):(Int)),⟨Zm (AH9 Aw Ay),Ac.sel [1] Zl⟩,rfl,trivial⟩
   ·refine AAk 29 true (Zk (AAk 29 true (Zk (AAk 29 true (AE4 rfl rfl (AAk 29 true (ACc rfl rfl (AAd rfl (Zk ?_)))))))));have Az:=ifT Aw Ay;by_cases Af:Aa=(w64 (a1 - 1))
    ·have A3:=ifT Az Af;rw [decide_eq_true Af];refine AAk 35 true (Zk (AAk 35 true (AGz rfl rfl (AAd rfl (Zr (⟨_,rfl,fun Am=>?_,fun Am=>?_⟩))))))
     ·refine Z1 (Zk (AE4 rfl rfl (Zv ?_)));exact ⟨((w64 (Aa - 2)):(Int)),⟨Zm (AA7 A3 Am),Ac.sel [1] Zl⟩,rfl,trivial⟩
     ·refine Zx (q_t ?_);exact ⟨((w64 (Aa - 1)):(Int)),⟨Zm (AA8 A3 Am),Ac.sel [1] Zl⟩,rfl,trivial⟩
    ·rw [decide_eq_false Af];refine AHi 35 false (AAo rfl (Zr (AAq rfl (Zx (q_t ?_)))));exact ⟨((w64 (Aa - 1)):(Int)),⟨Zm (ifF Az Af),Ac.sel [1] Zl⟩,rfl,trivial⟩
  rintro B1 C5 C6 ⟨B3,Ag⟩;subst B3;refine Zn (Zk (ANn rfl rfl (Zr (⟨_,rfl,fun Ao=>?_,fun Ao=>?_⟩))))
  ·refine AGh (Zk (Zk ?_));obtain ⟨C7,A4,B4⟩:=Zp (AA7 Ax Ao);refine AB2 AAn AA1 (Ag.o2 p0) A4 fun _ C8 B5=>Zk (Zk (Zk ?_));obtain ⟨C9,B6,B7⟩:=Zp B4;refine AB2 AAn AA1 (Ag.o2 p0) B6 fun _ Da B8=>Zk ?_;obtain ⟨Db,B9,Ca⟩:=Zp B7;refine ALq (m:=Aa) Ag p0 AAj AAt B5 A4 B9 (fun _=>rfl) fun _ Dc Cb=>?_;obtain ⟨Dd,Cd,Ce⟩:=Zp Ca;obtain ⟨De,Cf,Cg⟩:=Zp Ce;refine ALq (m:=B1) Cb p0 AAj AAt B8 Cd Cf (fun _=>rfl) fun _ Df Ch=>AAh (q_b (q_t (Z1 (AAz rfl rfl (Zk (Zr ?_))))));exact ⟨(_,_,_,_,_),(Zm Cg).symm,Ch,rfl,trivial⟩
  ·refine Zx (q_b (q_t (Z1 (AAz rfl rfl (Zk (Zr ?_))))));exact ⟨(_,_,_,_,_),(Zm (AA8 Ax Ao)).symm,Ag,rfl,trivial⟩
 ·refine AAe (AAf (AAf (ABk (q_t (Zn (Zk (Zv (Zy ?_))))))));obtain rfl:=Zm (Bh _ (Zm (AA8 Aj Ak)).symm);exact ⟨_,Zz,Ae.x,_,_,_,_,rfl,(Ae.o2 p0),Ae.s.sel [0] Zl⟩
def AGt (fuel:Nat) (a3:LiI):Option Bool:=
  ((ADx fuel a3).bind fun x5=>((ADe fuel x5).bind fun Ac=>(if Ac=0 then ((ABo fuel x5).bind fun Ad=>((AKt fuel 10000).bind fun Ae=>((Aah fuel Ad Ae).bind fun Af=>(some (decide (Af<=0)))))) else (some false))))
theorem ASb {fuel:Nat} {h:Zs} {Ad:Value} {a3:LiI} {r:Bool} (H2:AEq (cI .i64) h Ad a3) (hp:AGt fuel a3=some r):AAs Tryz.prog 67 #[Ad] h (fun x h'=>Ext h h'/\x= .bool r):=by
 unfold AGt at hp;refine cwf (l:=[_]) Tryz.func67 rfl rfl (Zn (AA3 (Zk ?_)));have K0:=Kst.k0 h;obtain ⟨x5,Aj,Ak⟩:=Zp hp;refine ANo K0 (AKl (H2.ext K0.x) Aj) fun A3 A4 A5 A6 h9 E8 Ag=>AA3 (Zk ?_);obtain ⟨Am,Ao,Ah⟩:=Zp Ak;refine ADk Ag (AKw (Ag.o2 p0).rd Ao) fun A9 Ba Ab=>ACc rfl rfl (Zk ?_);by_cases Aa:Am=0
 ·rw [decide_eq_true Aa];refine AAk 9 true (Zk (AAk 9 true ?_));obtain ⟨Bb,Ap,Aq⟩:=Zp (ifT Ah Aa);refine AMg Ab (ACv (Ab.o2 p0).rd Ap) fun Bc Be Bf Ar=>AAk 9 true ?_;obtain ⟨Bg,Au,Av⟩:=Zp Aq;refine AMg Ar (AJc Au) fun Bh Bi Bj Ac=>AAk 9 true ?_;obtain ⟨Bl,Aw,Ax⟩:=Zp Av;refine ADk Ac (AY1 (Ac.z p1).2 (Ac.z p0).2 Aw) fun Bm Bn Ay=>AAk 9 true (AYv rfl rfl (AAd rfl (Zv (Zy ?_))));obtain rfl:=Zm Ax;exact ⟨_,Zz,Ay.x,rfl⟩
 ·rw [decide_eq_false Aa];refine AE5 9 false (AAo rfl (Zv (Zy ?_)));obtain rfl:=Zm (ifF Ah Aa);exact ⟨_,Zz,Ab.x,rfl⟩
def AJ5 (fuel:Nat) (Ab Aa:Int):Option ((Int × Int) ⊕ ((Int))):=
  ((AWl fuel Aa).bind fun Ac=>(if ¬ Ac=0 then ((AGq fuel Ab Aa).bind fun Ad=>(some (Sum.inl (Aa,Ad)))) else (some (Sum.inr<| Ab))))
def AGu (fuel:Nat) (a1 a5:Int):Option Int:=
  ((Agz fuel a1).bind fun Ac=>((Agz fuel a5).bind fun Ad=>((iter (fun s=>AJ5 fuel s.1 s.2) fuel (Ac,Ad)).bind (fun (Ae:Int)=>(some Ae)))))
theorem ASc {fuel:Nat} {h:Zs} {Aq:Value} {a1:Int} {Au:Value} {a5 r:Int} (H3:ZZ h Aq a1) (H7:ZZ h Au a5) (hp:AGu fuel a1 a5=some r):AAs Tryz.prog 186 #[Aq,Au] h (fun x h'=>Ext h h'/\ ∃ (x0:Value),x=x0/\ZZ h' x0 r):=by
 unfold AGu at hp;obtain ⟨Bj,rfl,Ax⟩:=H3.cs;obtain ⟨Bl,rfl,Ay⟩:=H7.cs;refine cwf (l:=[_,_]) Tryz.func186 rfl rfl (Zn (AHg (Kst.k0 h) Bj fun b9 Cp Cq Bm=>AHg Bm Bl fun Cr Ct Cu Bn=>ACx Bn [.bool false,.slice none 0 0] AEb fun Cv Ak Cw Ab=>Zr (Zo ?_)));have Am:UpT [] Ak Ak:=UpT.start all_nil;refine AR7 (B:=fun h'=>UpT [] Ak h') 4 [⟨5,94,[.bool false,.slice none 0 0]⟩,⟨6,94,[.bool false,.slice none 0 0]⟩] (fun _ _ U E=>U.thenE E) Zw Am (Afg rfl rfl AEb rfl AEb rfl (fun _ _ U E=>U.thenE E)) (h_l rfl (AMz (Ab.zx Ax) Am (Ab.b p2) (AAh (h_e rfl fun Cx Az=>?_))));have A3:=Ab.e Az;obtain ⟨Bo,Bp,Bq⟩:=Zp hp;refine AEz A3 (Am.thenE Az) (Afn (A3.zx Ax).2 Bp) fun A4 Cy Br A5 A6=>AAh ⟨Br,?_⟩;refine h_l rfl (AMz (A5.zx Ay) A6 (Ab.b p1) (AAh (h_e rfl fun Cz A7=>?_)));have A8:=A5.e A7;obtain ⟨Bt,Bu,Bv⟩:=Zp Bq;refine AEz A8 (A6.thenE A7) (Afn (A8.zx Ay).2 Bu) fun A9 C0 Bw Bx By=>AAh ⟨Bw,?_⟩;refine AYz fun Bz Ba=>Ard fun B1 B3 Bb Bc B4 B5 B6 C1 C2=>?_;have Be:=Bx.e Ba;have Ae:=((Ab.nb2 (By.thenE Ba).ext (Afh B5 B6 Bb.lt Bc.lt B4) Bb Bc).az (Be.z p1)).az (Be.z p0);refine AB3 A4 ABa (cZ.klen (Ae.z p1)) (cZ.klen (AAa Bz)) rfl rfl (cZ.one (Ae.z p1)) (Ae.b p2) fun B7 B8 B9=>?_;have Af:=Ae.sb p2 B9 B8 rfl;refine AB3 A9 ABa (cZ.klen (Af.z p0)) (cZ.klen (AAa B7)) rfl rfl (cZ.one (Af.z p0)) (Af.b p3) fun C3 Ca Cb=>Zr (Zo (Zt ?_));have Ao:=(Af.sb p3 Cb Ca rfl).sel [0,1,2,3,4] Zl;dsimp only [AFy,AI2] at Ao;refine AFr 260096 (fun x:(Int) × LvA × (Int) × LvA=>(x.1,x.2.2.1)) ((Bo,A4,Bt,A9):(Int) × LvA × (Int) × LvA) Bv (fun x=>[]) (fun x=>(((Ao.L.set 1 (aZ x.2.1 x.1)).set 0 (aZ x.2.2.2 x.2.2.1)).set 2 (aB 94 B1 x.2.1)).set 3 (aB 94 B3 x.2.2.2)) Ao trivial ?_;rintro ⟨C4,C5,C6,Cd⟩ C7 C8 C9 Ag Bf Ce;unfold AJ5 at Bf;refine Zo (Zn (AJd (Ag.z p0) (Ag.b p3) ?_));obtain ⟨Da,Cf,Bg⟩:=Zp Bf;refine ADk Ag (AVk (Ag.z p0).2 Cf) fun Ah Db Aa=>ADc rfl rfl (Zr (⟨_,rfl,fun Ap=>?_,fun Ap=>?_⟩))
 ·refine Zx (q_t (Zt (ACb (fun h'=>UpT [] Ah h') Zw ?_)));have Ai:UpT [] Ah Ah:=UpT.start all_nil;refine AMz (Aa.z p0) Ai (Aa.b p3) (AMz (Aa.z p1) Ai (Aa.b p2) (AMz (Aa.z p0) Ai (Aa.b p3) ?_));obtain ⟨Dc,Cg,Ch⟩:=Zp (AA7 Bg Ap);refine AEz Aa Ai (AR8 (Aa.z p1).2 (Aa.z p0).2 Cg) fun Ci Dd De Ac Df=>AB3 Cd ABa (cZ.klen (Ac.z p1)) (cZ.klen (Ac.z p2)) rfl rfl (cZ.one (Ac.z p1)) (Ac.b p3) fun Dg Cj Ck=>?_;have Ad:=Ac.sb p3 Ck Cj rfl;refine AB3 Ci ABa (cZ.klen (Ad.z p0)) (cZ.klen (Ad.z p1)) rfl rfl (cZ.one (Ad.z p0)) (Ad.b p4) fun Dh Cm Cn=>AAh (q_b (q_t ?_));exact ⟨(_,_,_,_),(Zm Ch).symm,(Ad.sb p4 Cn Cm rfl).sel [0,1,3,4,5] Zl,trivial⟩
 ·refine AAe (AAf (AAf (ABk (q_t (Zn (AJd (Aa.z p1) (Aa.b p2) (AFc Aa p4 (AAa Ah) (Aa.z p1) fun Di Aj=>Zr (Zy ?_))))))));obtain rfl:=Zm (Ce _ (Zm (AA8 Bg Ap)).symm);exact ⟨_,AB9 ABa (cZ.klen (Aj.z p1)) rfl (Aj.b p4),Aj.x,_,rfl,(Aj.z p1).2⟩
def AFl (fuel:Nat) (a1 a5:Int):Option ((Int × Int) × Bool):=
  ((AWl fuel a5).bind fun Af=>(if Af=0 then (some ((0,0),false)) else ((((AWl fuel a5).bind fun Ag=>(if Ag < 0 then ((Adh fuel a1).bind fun Ah=>((Adh fuel a5).bind fun Ai=>(some ( (Ah,Ai))))) else (some ( (a1,a5))))):Option ((Int × Int))).bind (fun ((Ac,Ad):Int × Int)=>((AGu fuel Ac Ad).bind fun Ae=>((ACs fuel Ac Ae).bind fun Aj=>((ACs fuel Ad Ae).bind fun Ak=>(some ((Aj,Ak),true)))))))))
theorem AM0 {fuel:Nat} {h:Zs} {A4:Value} {a1:Int} {A5:Value} {a5:Int} {r:((Int × Int) × Bool)} (H3:ZZ h A4 a1) (H7:ZZ h A5 a5) (hp:AFl fuel a1 a5=some r):AAs Tryz.prog 175 #[A4,A5] h (fun x h'=>Ext h h'/\ ∃ (x0:Value),x= .tuple #[x0,.bool r.2]/\AXj h' x0 r.1.1 r.1.2):=by
 unfold AFl at hp;obtain ⟨A7,rfl,Am⟩:=H3.cs;obtain ⟨A8,rfl,Ab⟩:=H7.cs;refine cwf (l:=[_,_]) Tryz.func175 rfl rfl (Zn (AHg (Kst.k0 h) A7 fun b9 Cq Cr Bo=>AHg Bo A8 fun Bp Ct Cu Bq=>ACx Bq [.bool false,.slice none 0 0,.bool false,.slice none 0 0] AOg fun Cv Cw Cx Ao=>Zv (Zo (Zn (AJd (Ao.zx Ab) (Ao.b p1) ?_)))));obtain ⟨Cy,Br,A9⟩:=Zp hp;refine ADk Ao (AVk (Ao.zx Ab).2 Br) fun Ag Cz Ad=>ACc rfl rfl (Zr (⟨_,rfl,fun Au=>?_,fun Au=>?_⟩))
 ·refine Zn (AC5 (Afi ) (AB3 ([Value.bool false,Value.slice none 0 0] ++ [Value.bool false,Value.slice none 0 0]) AFb (AB1 (AAa Ag) (AAa Ag)) (AB1 (AAa Ag) (AAa Ag)) rfl rfl (AKu (AAa Ag) (AAa Ag)) (Ad.b p0) fun Ap Bt Bu=>Zv (Zy (AAc ?_))));have Ba:=Ad.sb p0 Bu Bt rfl;obtain rfl:=Zm (AA7 A9 Au);exact ⟨_,AQc AFb (AB1 (AAa Ap) (AAa Ap)) rfl (Ba.b p0),Ba.x,_,rfl,⟨_,_,rfl,(AAa Ap),(AAa Ap)⟩⟩
 ·refine Zx (q_t ?_);obtain ⟨Bv,Bw,Bx⟩:=Zp (AA8 A9 Au);refine AI8 260096 (fun x:(Int) × LvA × (Int) × LvA=>[]) (fun x h'=>( (x.1,x.2.2.1))=Bv/\Kst h h' (aZ x.2.1 x.1 :: aZ x.2.2.2 x.2.2.1 :: ((Ad.L.set 2 (aB 94 b9 x.2.1)).set 1 (aB 94 Bp x.2.2.2)))) ?_ ?_
  ·refine Zn (AJd (Ad.zx Ab) (Ad.b p1) ?_);obtain ⟨C0,By,Bb⟩:=Zp Bw;refine ADk Ad (AVk (Ad.zx Ab).2 By) fun Av C1 Ae=>AAy rfl rfl (Zr (⟨_,rfl,fun Aw=>?_,fun Aw=>?_⟩))
   ·refine ACb (fun h'=>UpT [] Av h') Zw ?_;have Bc:UpT [] Av Av:=UpT.start all_nil;refine AMz (Ae.zx Am) Bc (Ae.b p2) ?_;obtain ⟨Bz,B1,B3⟩:=Zp (AA7 Bb Aw);refine AEz Ae Bc (Abn (Ae.zx Am).2 B1) fun Be C2 C3 Ax Bf=>AMz (Ax.zx Ab) Bf (Ae.b p1) ?_;obtain ⟨B4,B5,B6⟩:=Zp B3;refine AEz Ax Bf (Abn (Ax.zx Ab).2 B5) fun Bg C4 C5 Ai C6=>AB3 Be ABa (cZ.klen (Ai.z p1)) (cZ.klen (Ai.zx Am)) rfl rfl (cZ.one (Ai.z p1)) (Ai.b p4) fun C7 B7 B8=>?_;have Aj:=Ai.sb p4 B8 B7 rfl;refine AB3 Bg ABa (cZ.klen (Aj.z p0)) (cZ.klen (Aj.zx Ab)) rfl rfl (cZ.one (Aj.z p0)) (Aj.b p3) fun C8 B9 Ca=>Zr ?_;exact ⟨((Bz,Be,B4,Bg):(Int) × LvA × (Int) × LvA),⟨Zm B6,(Aj.sb p3 Ca B9 rfl).sel [1,0,2,3,4] Zl⟩,trivial⟩
   ·refine Zx (q_t ?_);have Bh:=Ae.az (Ae.zx Am);exact ⟨((a1,A7,a5,A8):(Int) × LvA × (Int) × LvA),⟨Zm (AA8 Bb Aw),(Bh.az (Bh.zx Ab)).sel [1,0,2,3,4] Zl⟩,trivial⟩
  rintro ⟨C9,Da,Db,Dc⟩ Dd De ⟨Cb,Af⟩;subst Cb;refine Zn (AJd (Af.z p0) (Af.b p4) (AJd (Af.z p1) (Af.b p3) ?_));obtain ⟨Df,Cd,Ce⟩:=Zp Bx;refine AMg Af (ASc (Af.z p0).2 (Af.z p1).2 Cd) fun Dg Dh Di Cf=>ACx Cf [.bool false,.slice none 0 0] AEb fun Dj Cg Dk Bi=>AFc Bi p0 (AAa Cg) (Bi.z p1) fun Ay Aa=>Zr (Zo (ACb (fun h'=>UpT [] Ay h') Zw ?_));have Az:UpT [] Ay Ay:=UpT.start all_nil;refine AMz (Aa.z p2) Az (Aa.b p6) (AMz (Aa.z p1) Az (Aa.b p0) ?_);obtain ⟨Dl,Ch,Ci⟩:=Zp Ce;refine AEz Aa Az (AG0 (Aa.z p2).2 (Aa.z p1).2 Ch) fun Cj Do Dp Ak A3=>AMz (Ak.z p4) A3 (Aa.b p5) (AMz (Ak.z p2) A3 (Aa.b p0) ?_);obtain ⟨Dq,Ck,Cm⟩:=Zp Ci;refine AEz Ak A3 (AG0 (Ak.z p4).2 (Ak.z p2).2 Ck) fun Cn Bj Dr Ac Ds=>AC5 (AT2 (Ac.z p1) (Ac.z p0)) (AB3 (Cj ++ Cn) AFb (AB1 (Ac.z p1) (Ac.z p0)) (AB1 (AAa Bj) (AAa Bj)) rfl rfl (AKu (Ac.z p1) (Ac.z p0)) (Ac.b p6) fun Dt Co Cp=>Zv (Zy ?_));have Ah:=Ac.sb p6 Cp Co rfl;obtain rfl:=Zm Cm;exact ⟨_,AQc AFb (AB1 (Ah.z p1) (Ah.z p0)) rfl (Ah.b p6),Ah.x,_,rfl,⟨_,_,rfl,(Ah.z p1),(Ah.z p0)⟩⟩
def AKm (fuel:Nat) (a1:Int):Option (Int × Int):=
  ((AQh fuel a1).bind fun Ab=>((AKt fuel 1).bind fun Ac=>(some (Ab,Ac))))
theorem AQy {fuel:Nat} {h:Zs} {Ad:Value} {a1:Int} {r:(Int × Int)} (H3:ZZ h Ad a1) (hp:AKm fuel a1=some r):AAs Tryz.prog 187 #[Ad] h (fun x h'=>Ext h h'/\ ∃ (x0:Value),x=x0/\AXj h' x0 r.1 r.2):=by
 unfold AKm at hp;obtain ⟨Aj,rfl,Ag⟩:=H3.cs;refine cwf (l:=[_]) Tryz.func187 rfl rfl (Zn (AHg (Kst.k0 h) Aj fun b5 h6 E8 Ak=>ACx Ak [.bool false,.slice none 0 0,.bool false,.slice none 0 0] AOg fun A4 A5 A6 Ac=>AHj (AJd (Ac.zx Ag) (Ac.b p1) ?_)));obtain ⟨A7,Am,Ao⟩:=Zp hp;refine AMg Ac (AR6 (Ac.zx Ag).2 Am) fun Ap A8 A9 Aq=>?_;obtain ⟨Ba,Ar,Au⟩:=Zp Ao;refine AMg Aq (AJc Ar) fun Av Ah Bb Aa=>AC5 (AT2 (Aa.z p1) (Aa.z p0)) (AB3 (Ap ++ Av) AFb (AB1 (Aa.z p1) (Aa.z p0)) (AB1 (AAa Ah) (AAa Ah)) rfl rfl (AKu (Aa.z p1) (Aa.z p0)) (Aa.b p2) fun Bc Aw Ax=>Zr (Zy ?_));have Ab:=Aa.sb p2 Ax Aw rfl;obtain rfl:=Zm Au;exact ⟨_,AB9 AFb (AB1 (Ab.z p1) (Ab.z p0)) rfl (Ab.b p2),Ab.x,_,rfl,⟨_,_,rfl,(Ab.z p1),(Ab.z p0)⟩⟩
def AKn (fuel:Nat) (a1:Int):Option (Int × Int):=
  ((AKt fuel a1).bind fun x9=>((AKm fuel x9).bind fun Aa=>(some (Aa.1,Aa.2))))
theorem AQz {fuel:Nat} {h:Zs} {a1:Int} {r:(Int × Int)} (hp:AKn fuel a1=some r):AAs Tryz.prog 176 #[(.int .i64 a1)] h (fun x h'=>Ext h h'/\ ∃ (x0:Value),x=x0/\AXj h' x0 r.1 r.2):=by
 unfold AKn at hp;refine cwf (l:=[_]) Tryz.func176 rfl rfl (Zn (ACx (Kst.k0 h) [.bool false,.slice none 0 0,.bool false,.slice none 0 0] AOg fun b2 h3 E5 K8=>AHj (Zk ?_)));obtain ⟨x9,Ah,Ai⟩:=Zp hp;refine AMg K8 (AJc Ah) fun A5 A6 A7 Ae=>?_;obtain ⟨A8,Aj,Ak⟩:=Zp Ai;refine AMx rfl (AQy (Ae.z p0).2 Aj) fun A9 Af Am Ao=>?_;obtain ⟨Ba,rfl,Ap⟩:=Ao;obtain ⟨Aq,Ar,rfl,Au,Av⟩:=Ap;have Aa:=((Ae.e Am).az Au).az Av;refine AB3 (Aq ++ Ar) AFb (AB1 (Aa.z p1) (Aa.z p0)) (AB1 (AAa Af) (AAa Af)) rfl rfl (AKu (Aa.z p1) (Aa.z p0)) (Aa.b p3) fun Bb Aw Ax=>Zr (Zy ?_);have Ab:=Aa.sb p3 Ax Aw rfl;obtain rfl:=Zm Ak;exact ⟨_,AB9 AFb (AB1 (Ab.z p1) (Ab.z p0)) rfl (Ab.b p3),Ab.x,_,rfl,⟨_,_,rfl,(Ab.z p1),(Ab.z p0)⟩⟩
def AB7 (fuel:Nat) (a3 a5:Int):Option (Int × Int):=
  ((AFl fuel a3 a5).bind fun (Aa,Ae)=>(if (!Ae)=true then ((AKn fuel 0).bind fun Ab=>(some (Ab.1,Ab.2))) else (some (Aa.1,Aa.2))))
theorem AEr {fuel:Nat} {h:Zs} {Ak:Value} {a3 a5:Int} {r:(Int × Int)} (H2:AXj h Ak a3 a5) (hp:AB7 fuel a3 a5=some r):AAs Tryz.prog 158 #[Ak] h (fun x h'=>Ext h h'/\ ∃ (x0:Value),x=x0/\AXj h' x0 r.1 r.2):=by
 unfold AB7 at hp;obtain ⟨Aq,Ar,rfl,H2z0,H2z1⟩:=H2;refine cwf (l:=[_]) Tryz.func158 rfl rfl (Zn (AHg (Kst.k0 h) (Aq ++ Ar) fun b7 h8 Br Ay=>ACx Ay [.bool false,.slice none 0 0,.bool false,.slice none 0 0] AOg fun Bt Bu Bv Ab=>AHj (AEu (fs:=2) AXt Zw Zl rfl (AMo Aq ABa (cZ.klen (Ab.zx H2z0)) rfl ((Ab.b p1).aggL) (AEu (fs:=2) AT1 Zw Zl rfl (AMo Ar ABa (cZ.klen (Ab.zx H2z1)) rfl ((Ab.b p1).aggR (cZ.klen (Ab.zx H2z0))) ?_))))));obtain ⟨⟨Bw,Bx⟩,Az,Ag⟩:=Zp hp;dsimp only at Ag;refine AMx rfl (AM0 (Ab.zx H2z0).2 (Ab.zx H2z1).2 Az) fun By Bz A3 A4=>?_;obtain ⟨B1,rfl,A5⟩:=A4;obtain ⟨Ah,Ai,rfl,A6,A7⟩:=A5;refine Zk (ABj rfl rfl (ABj rfl rfl (ACx (((Ab.e A3).az A6).az A7) [.bool false,.slice none 0 0,.bool false,.slice none 0 0] AOg fun B3 Au B4 Ac=>AB3 (Ah ++ Ai) AFb (AB1 (Ac.z p2) (Ac.z p1)) (AB1 (AAa Au) (AAa Au)) rfl rfl (AKu (Ac.z p2) (Ac.z p1)) (Ac.b p0) fun Av A8 A9=>Zv (Zo (Zn (Zk (ADp rfl (Zr ?_))))))));have Aa:=Ac.sb p0 A9 A8 rfl;refine ⟨_,rfl,fun Aj=>?_,fun Aj=>?_⟩
 ·refine Zn ?_;obtain ⟨B5,Ba,Bb⟩:=Zp (ifT Ag Aj);refine AMx rfl (AQz Ba) fun B6 Aw Bc Be=>?_;obtain ⟨B7,rfl,Bf⟩:=Be;obtain ⟨Bg,Bh,rfl,Bi,Bj⟩:=Bf;have Ad:=((Aa.e Bc).az Bi).az Bj;refine AB3 (Bg ++ Bh) AFb (AB1 (Ad.z p1) (Ad.z p0)) (AB1 (AAa Aw) (AAa Aw)) rfl rfl (AKu (Ad.z p1) (Ad.z p0)) (Ad.b p5) fun B8 Bl Bm=>Zr (Zy (AAc ?_));have Ae:=Ad.sb p5 Bm Bl rfl;obtain rfl:=Zm Bb;exact ⟨_,AB9 AFb (AB1 (Ae.z p1) (Ae.z p0)) rfl (Ae.b p5),Ae.x,_,rfl,⟨_,_,rfl,(Ae.z p1),(Ae.z p0)⟩⟩
 ·refine Zx (q_t (Zn (AMo (Ah ++ Ai) AFb (AB1 (Aa.z p2) (Aa.z p1)) rfl ((Aa.b p0).agg) (AB3 (Ah ++ Ai) AFb (AB1 (Aa.z p2) (Aa.z p1)) (AB1 (AAa Av) (AAa Av)) rfl rfl (AKu (Aa.z p2) (Aa.z p1)) (Aa.b p3) fun B9 Bn Bo=>Zr (Zy ?_)))));have Af:=Aa.sb p3 Bo Bn rfl;obtain rfl:=Zm (AH9 Ag Aj);exact ⟨_,AB9 AFb (AB1 (Af.z p2) (Af.z p1)) rfl (Af.b p3),Af.x,_,rfl,⟨_,_,rfl,(Af.z p2),(Af.z p1)⟩⟩
def AEl (fuel:Nat) (a1 a5:Int):Option (Int × Int):=
  ((AB7 fuel a1 a5).bind fun Aa=>(some (Aa.1,Aa.2)))
theorem AOv {fuel:Nat} {h:Zs} {Af:Value} {a1:Int} {Ah:Value} {a5:Int} {r:(Int × Int)} (H3:ZZ h Af a1) (H7:ZZ h Ah a5) (hp:AEl fuel a1 a5=some r):AAs Tryz.prog 113 #[Af,Ah] h (fun x h'=>Ext h h'/\ ∃ (x0:Value),x=x0/\AXj h' x0 r.1 r.2):=by
 unfold AEl at hp;obtain ⟨Ap,rfl,Ad⟩:=H3.cs;obtain ⟨Aq,rfl,Ae⟩:=H7.cs;refine cwf (l:=[_,_]) Tryz.func113 rfl rfl (Zn (AHg (Kst.k0 h) Ap fun b9 Ba Bb Ar=>AHg Ar Aq fun Bc Be Bf Au=>ACx Au [.bool false,.slice none 0 0,.bool false,.slice none 0 0] AOg fun Bg Bh Bi Aa=>AHj (AJd (Aa.zx Ad) (Aa.b p2) (AJd (Aa.zx Ae) (Aa.b p1) (AC5 (AT2 (Aa.zx Ad) (Aa.zx Ae)) ?_)))));obtain ⟨Bj,Av,Aw⟩:=Zp hp;refine AMx rfl (AEr ⟨_,_,rfl,(Aa.zx Ad),(Aa.zx Ae)⟩ Av) fun Bl Ak Ax Ay=>?_;obtain ⟨Bm,rfl,Az⟩:=Ay;obtain ⟨A3,A4,rfl,A5,A6⟩:=Az;have Ab:=((Aa.e Ax).az A5).az A6;refine AB3 (A3 ++ A4) AFb (AB1 (Ab.z p1) (Ab.z p0)) (AB1 (AAa Ak) (AAa Ak)) rfl rfl (AKu (Ab.z p1) (Ab.z p0)) (Ab.b p2) fun Bn A7 A8=>Zr (Zy ?_);have Ac:=Ab.sb p2 A8 A7 rfl;obtain rfl:=Zm Aw;exact ⟨_,AB9 AFb (AB1 (Ac.z p1) (Ac.z p0)) rfl (Ac.b p2),Ac.x,_,rfl,⟨_,_,rfl,(Ac.z p1),(Ac.z p0)⟩⟩
def AIn (fuel:Nat):Option (Int × Int):=
  ((AKt fuel 1).bind fun x8=>((AKt fuel 2).bind fun Ab=>(some (x8,Ab))))
theorem ARf {fuel:Nat} {h:Zs} {r:(Int × Int)} (hp:AIn fuel=some r):AAs Tryz.prog 157 #[] h (fun x h'=>Ext h h'/\ ∃ (x0:Value),x=x0/\AXj h' x0 r.1 r.2):=by
 unfold AIn at hp;refine cwf (l:=[]) Tryz.func157 rfl rfl (Zn (ACx (Kst.k0 h) [.bool false,.slice none 0 0,.bool false,.slice none 0 0] AOg fun b1 h2 E4 K7=>AHj ?_));obtain ⟨x8,Af,Ag⟩:=Zp hp;refine AMg K7 (AJc Af) fun Ah Aw Ax Ai=>?_;obtain ⟨Ay,Aj,Ak⟩:=Zp Ag;refine AMg Ai (AJc Aj) fun Am Ad Az Aa=>AC5 (AT2 (Aa.z p1) (Aa.z p0)) (AB3 (Ah ++ Am) AFb (AB1 (Aa.z p1) (Aa.z p0)) (AB1 (AAa Ad) (AAa Ad)) rfl rfl (AKu (Aa.z p1) (Aa.z p0)) (Aa.b p2) fun A3 Ao Ap=>Zr (Zy ?_));have Ab:=Aa.sb p2 Ap Ao rfl;obtain rfl:=Zm Ak;exact ⟨_,AB9 AFb (AB1 (Ab.z p1) (Ab.z p0)) rfl (Ab.b p2),Ab.x,_,rfl,⟨_,_,rfl,(Ab.z p1),(Ab.z p0)⟩⟩
def AI4 (fuel:Nat) (a3 a5 a9 Ag:Int):Option (Int × Int):=
  ((AB7 fuel a3 a5).bind fun Aa=>((AB7 fuel a9 Ag).bind fun Ab=>((AQg fuel Aa.1 Ab.2).bind fun Ah=>((AQg fuel Ab.1 Aa.2).bind fun Ai=>((Agv fuel Ah Ai).bind fun Aj=>((AQg fuel Aa.2 Ab.2).bind fun Ak=>((AFl fuel Aj Ak).bind fun (Ac,Am)=>(some (Ac.1,Ac.2)))))))))
theorem ASd {fuel:Nat} {h:Zs} {Bh:Value} {a3 a5:Int} {Bl:Value} {a9 Bn:Int} {r:(Int × Int)} (H2:AXj h Bh a3 a5) (H8:AXj h Bl a9 Bn) (hp:AI4 fuel a3 a5 a9 Bn=some r):AAs Tryz.prog 156 #[Bh,Bl] h (fun x h'=>Ext h h'/\ ∃ (x0:Value),x=x0/\AXj h' x0 r.1 r.2):=by
 unfold AI4 at hp;obtain ⟨Bp,Bq,rfl,H2z0,H2z1⟩:=H2;obtain ⟨Br,Bt,rfl,H8z0,H8z1⟩:=H8;refine cwf (l:=[_,_]) Tryz.func156 rfl rfl (Zn (AHg (Kst.k0 h) (Bp ++ Bq) fun D0 D1 D2 Cj=>AHg Cj (Br ++ Bt) fun D3 D4 D5 Ck=>ACx Ck [.bool false,.slice none 0 0,.bool false,.slice none 0 0] AOg fun D6 Ao D7 Ac=>Zr (Zo ?_)));have Ap:UpT [] Ao Ao:=UpT.start all_nil;refine AR7 (B:=fun h'=>UpT [] Ao h') 4 [⟨5,143,[.bool false,.slice none 0 0,.bool false,.slice none 0 0]⟩,⟨6,143,[.bool false,.slice none 0 0,.bool false,.slice none 0 0]⟩] (fun _ _ U E=>U.thenE E) Zw Ap (Afg rfl rfl AOg rfl AOg rfl (fun _ _ U E=>U.thenE E)) (h_l rfl (AGx (Bp ++ Bq) AFb (AB1 (Ac.zx H2z0) (Ac.zx H2z1)) rfl Ap (fun h' hb=>((Ac.b p2).ext hb.ext).agg) (AAh (h_e rfl fun D8 Bu=>?_))));have Aq:=Ap.thenE Bu;have Ar:=Ac.e Bu;obtain ⟨D9,Cm,Cn⟩:=Zp hp;refine AD2 Aq (fun _ E=>Aq.thenE E) rfl (AEr ⟨_,_,rfl,(Ar.zx H2z0),(Ar.zx H2z1)⟩ Cm) fun Ea Eb Au Co=>?_;obtain ⟨Ec,rfl,Cp⟩:=Co;have Bv:=Aq.thenE Au;obtain ⟨Bw,Av,rfl,Cq,Cr⟩:=Cp;have Aw:=((Ar.e Au).az Cq).az Cr;refine AAh ⟨Au,?_⟩;refine h_l rfl (AGx (Br ++ Bt) AFb (AB1 (Aw.zx H8z0) (Aw.zx H8z1)) rfl Bv (fun h' hb=>((Ac.b p1).ext hb.ext).agg) (AAh (h_e rfl fun Ed Bx=>?_)));have Ax:=Bv.thenE Bx;have Ay:=Aw.e Bx;obtain ⟨Ee,Ct,Cu⟩:=Zp Cn;refine AD2 Ax (fun _ E=>Ax.thenE E) rfl (AEr ⟨_,_,rfl,(Ay.zx H8z0),(Ay.zx H8z1)⟩ Ct) fun Ef Eg Az Cv=>?_;obtain ⟨Eh,rfl,Cw⟩:=Cv;have Cx:=Ax.thenE Az;obtain ⟨By,A3,rfl,Cy,Cz⟩:=Cw;refine AAh ⟨Az,?_⟩;refine AYz fun Bz B1=>Ard fun Ei Ej B3 B4 C0 C1 C2 Ek El=>?_;have Aj:=(((Ay.e Az).az Cy).az Cz).e B1;have Ad:=((((Ac.nb2 (Cx.thenE B1).ext (Afh C1 C2 B3.lt B4.lt C0) B3 B4).az (Aj.z p3)).az (Aj.z p2)).az (Aj.z p1)).az (Aj.z p0);refine AB3 (Bw ++ Av) AFb (AB1 (Ad.z p3) (Ad.z p2)) (AB1 (AAa Bz) (AAa Bz)) rfl rfl (AKu (Ad.z p3) (Ad.z p2)) (Ad.b p4) fun B5 C3 C4=>?_;have Ae:=Ad.sb p4 C4 C3 rfl;refine AB3 (By ++ A3) AFb (AB1 (Ae.z p1) (Ae.z p0)) (AB1 (AAa B5) (AAa B5)) rfl rfl (AKu (Ae.z p1) (Ae.z p0)) (Ae.b p5) fun A4 C5 C6=>Zr (Zo ?_);have Aa:=Ae.sb p5 C6 C5 rfl;have Ak:UpT [] A4 A4:=UpT.start all_nil;refine AR7 (B:=fun h'=>UpT [] A4 h') 20 [⟨7,143,[.bool false,.slice none 0 0,.bool false,.slice none 0 0]⟩] (fun _ _ U E=>U.thenE E) Zw Ak (Abo rfl AOg rfl (fun _ _ U E=>U.thenE E)) (h_l rfl (AEu (fs:=2) AXt Zw Zl rfl (AAh (h_l rfl (AGx Bw ABa (cZ.klen (Aa.z p3)) rfl Ak (fun h' hb=>((Aa.b p4).ext hb.ext).aggL) (AAh (h_l rfl (AEu (fs:=2) AT1 Zw Zl rfl (AAh (h_l rfl (AGx A3 ABa (cZ.klen (Aa.z p0)) rfl Ak (fun h' hb=>((Aa.b p5).ext hb.ext).aggR (cZ.klen (Aa.z p1))) (AAh (h_e rfl fun Em B6=>?_)))))))))))));have A5:=Aa.e B6;obtain ⟨En,C7,C8⟩:=Zp Cu;refine AEz A5 (Ak.thenE B6) (AOf (A5.z p3).2 (A5.z p0).2 C7) fun Eo Ep C9 Am A6=>AAh ⟨C9,?_⟩;refine h_l rfl (AEu (fs:=2) AXt Zw Zl rfl (AAh (h_l rfl (AGx By ABa (cZ.klen (Am.z p2)) rfl A6 (fun h' hb=>((Aa.b p5).ext hb.ext).aggL) (AAh (h_l rfl (AEu (fs:=2) AT1 Zw Zl rfl (AAh (h_l rfl (AGx Av ABa (cZ.klen (Am.z p3)) rfl A6 (fun h' hb=>((Aa.b p4).ext hb.ext).aggR (cZ.klen (Am.z p4))) (AAh (h_e rfl fun Er B7=>?_))))))))))));have A7:=Am.e B7;obtain ⟨Es,Da,Db⟩:=Zp C8;refine AEz A7 (A6.thenE B7) (AOf (A7.z p2).2 (A7.z p3).2 Da) fun Et Eu Dc Dd De=>AAh ⟨Dc,?_⟩;refine h_e rfl fun Ev B8=>?_;have A8:=Dd.e B8;obtain ⟨Ew,Df,Dg⟩:=Zp Db;refine AEz A8 (De.thenE B8) (Afd (A8.z p1).2 (A8.z p0).2 Df) fun Ey Ez Dh Ai A9=>AAh ⟨Dh,?_⟩;refine h_l rfl (AEu (fs:=2) AT1 Zw Zl rfl (AAh (h_l rfl (AGx Av ABa (cZ.klen (Ai.z p5)) rfl A9 (fun h' hb=>((Aa.b p4).ext hb.ext).aggR (cZ.klen (Ai.z p6))) (AAh (h_l rfl (AEu (fs:=2) AT1 Zw Zl rfl (AAh (h_l rfl (AGx A3 ABa (cZ.klen (Ai.z p3)) rfl A9 (fun h' hb=>((Aa.b p5).ext hb.ext).aggR (cZ.klen (Ai.z p4))) (AAh (h_e rfl fun Fa B9=>?_))))))))))));have Ba:=Ai.e B9;obtain ⟨Fb,Di,Dj⟩:=Zp Dg;refine AEz Ba (A9.thenE B9) (AOf (Ba.z p5).2 (Ba.z p3).2 Di) fun Fc Fd Dk Dl Do=>AAh ⟨Dk,?_⟩;refine h_e rfl fun Fe Ca=>?_;have Bb:=Do.thenE Ca;have Bc:=Dl.e Ca;obtain ⟨⟨Ff,Fg⟩,Dp,Cb⟩:=Zp Dj;dsimp only at Cb;refine AD2 Bb (fun _ E=>Bb.thenE E) rfl (AM0 (Bc.z p1).2 (Bc.z p0).2 Dp) fun Fh Fi Be Dq=>?_;obtain ⟨Fj,rfl,Dr⟩:=Dq;have Ds:=Bb.thenE Be;obtain ⟨Bf,Bg,rfl,Dt,Du⟩:=Dr;refine AAh ⟨Be,?_⟩;refine h_l rfl (Zk (AAh (h_l rfl (ABj rfl rfl (AAh (h_l rfl (ABj rfl rfl (AAh (AYz fun Cd Ce=>Aoh fun Fk Cf Dv Fl=>?_)))))))));have Af:=(((Bc.e Be).az Dt).az Du).e Ce;have Ag:=((((((Aa.nb (Ds.thenE Ce).ext (AEv Dv Cf.lt) Cf).az (Af.z p5)).az (Af.z p4)).az (Af.z p3)).az (Af.z p2)).az (Af.z p1)).az (Af.z p0);refine AB3 (Bf ++ Bg) AFb (AB1 (Ag.z p1) (Ag.z p0)) (AB1 (AAa Cd) (AAa Cd)) rfl rfl (AKu (Ag.z p1) (Ag.z p0)) (Ag.b p6) fun Cg Dw Dx=>AA3 ?_;have Ab:=Ag.sb p6 Dx Dw rfl;refine AMo (Bf ++ Bg) AFb (AB1 (Ab.z p1) (Ab.z p0)) rfl ((Ab.b p6).agg) (AB3 (Bf ++ Bg) AFb (AB1 (Ab.z p1) (Ab.z p0)) (AB1 (AAa Cg) (AAa Cg)) rfl rfl (AKu (Ab.z p1) (Ab.z p0)) (Ab.b p13) fun Fm Dy Dz=>Zr (Zy ?_));have Ah:=Ab.sb p13 Dz Dy rfl;obtain rfl:=Zm Cb;exact ⟨_,AB9 AFb (AB1 (Ah.z p1) (Ah.z p0)) rfl (Ah.b p13),Ah.x,_,rfl,⟨_,_,rfl,(Ah.z p1),(Ah.z p0)⟩⟩
def AHv (fuel:Nat) (a3 a5:Int):Option Int:=
  ((AB7 fuel a3 a5).bind fun Aa=>((ACs fuel Aa.1 Aa.2).bind fun Ad=>(some Ad)))
theorem AQ0 {fuel:Nat} {h:Zs} {Ae:Value} {a3 a5 r:Int} (H2:AXj h Ae a3 a5) (hp:AHv fuel a3 a5=some r):AAs Tryz.prog 155 #[Ae] h (fun x h'=>Ext h h'/\ ∃ (x0:Value),x=x0/\ZZ h' x0 r):=by
 unfold AHv at hp;obtain ⟨Ai,Aj,rfl,H2z0,H2z1⟩:=H2;refine cwf (l:=[_]) Tryz.func155 rfl rfl (Zn (AHg (Kst.k0 h) (Ai ++ Aj) fun b7 h8 Bb Ar=>ACx Ar [.bool false,.slice none 0 0] AEb fun Bc Be Bf Ab=>AHj (AMo (Ai ++ Aj) AFb (AB1 (Ab.zx H2z0) (Ab.zx H2z1)) rfl ((Ab.b p1).agg) ?_)));obtain ⟨Bg,Au,Av⟩:=Zp hp;refine AMx rfl (AEr ⟨_,_,rfl,(Ab.zx H2z0),(Ab.zx H2z1)⟩ Au) fun Bh Bi Aw Ax=>?_;obtain ⟨Bj,rfl,Ay⟩:=Ax;obtain ⟨Ak,Am,rfl,Az,A3⟩:=Ay;refine ACx (((Ab.e Aw).az Az).az A3) [.bool false,.slice none 0 0,.bool false,.slice none 0 0] AOg fun Bl Ao Bm Ac=>AB3 (Ak ++ Am) AFb (AB1 (Ac.z p2) (Ac.z p1)) (AB1 (AAa Ao) (AAa Ao)) rfl rfl (AKu (Ac.z p2) (Ac.z p1)) (Ac.b p0) fun Bn A4 A5=>AHj (AEu (fs:=2) AXt Zw Zl rfl ?_);have Aa:=Ac.sb p0 A5 A4 rfl;refine AMo Ak ABa (cZ.klen (Aa.z p2)) rfl ((Aa.b p0).aggL) (AEu (fs:=2) AT1 Zw Zl rfl (AMo Am ABa (cZ.klen (Aa.z p1)) rfl ((Aa.b p0).aggR (cZ.klen (Aa.z p2))) ?_));obtain ⟨Bo,A6,A7⟩:=Zp Av;refine AMg Aa (AG0 (Aa.z p2).2 (Aa.z p1).2 A6) fun Bp A8 Bq Ap=>AFc Ap p4 (AAa A8) (Ap.z p0) fun Br Ad=>Zr (Zy ?_);obtain rfl:=Zm A7;exact ⟨_,AB9 ABa (cZ.klen (Ad.z p0)) rfl (Ad.b p4),Ad.x,_,rfl,(Ad.z p0).2⟩
def AE2 (fuel:Nat) (a3 a5:Int):Option Int:=
  ((AIn fuel).bind fun Aa=>((AI4 fuel a3 a5 Aa.1 Aa.2).bind fun Ab=>((AHv fuel Ab.1 Ab.2).bind fun Ae=>(some Ae))))
theorem APr {fuel:Nat} {h:Zs} {Ai:Value} {a3 a5 r:Int} (H2:AXj h Ai a3 a5) (hp:AE2 fuel a3 a5=some r):AAs Tryz.prog 112 #[Ai] h (fun x h'=>Ext h h'/\ ∃ (x0:Value),x=x0/\ZZ h' x0 r):=by
 unfold AE2 at hp;obtain ⟨Ao,Ap,rfl,H2z0,H2z1⟩:=H2;refine cwf (l:=[_]) Tryz.func112 rfl rfl (Zn (AHg (Kst.k0 h) (Ao ++ Ap) fun b7 h8 Bm Av=>ACx Av [.bool false,.slice none 0 0] AEb fun Bn Af Bo Ab=>Zr (Zo (ACb (fun h'=>UpT [] Af h') Zw ?_))));have Ac:UpT [] Af Af:=UpT.start all_nil;refine AGx (Ao ++ Ap) AFb (AB1 (Ab.zx H2z0) (Ab.zx H2z1)) rfl Ac (fun h' hb=>((Ab.b p1).ext hb.ext).agg) ?_;obtain ⟨Bp,Aw,Ax⟩:=Zp hp;refine AD2 Ac (fun _ E=>Ac.thenE E) rfl (ARf Aw) fun Bq Br Aq Ay=>?_;obtain ⟨Bt,rfl,Az⟩:=Ay;have Ag:=Ac.thenE Aq;obtain ⟨Bu,Bv,rfl,A3,A4⟩:=Az;have Aa:=((Ab.e Aq).az A3).az A4;obtain ⟨Bw,A5,A6⟩:=Zp Ax;refine AD2 Ag (fun _ E=>Ag.thenE E) rfl (ASd ⟨_,_,rfl,(Aa.zx H2z0),(Aa.zx H2z1)⟩ ⟨_,_,rfl,(Aa.z p1),(Aa.z p0)⟩ A5) fun Bx By Ar A7=>?_;obtain ⟨Bz,rfl,A8⟩:=A7;have A9:=Ag.thenE Ar;obtain ⟨B1,B3,rfl,Ba,Bb⟩:=A8;have Ah:=((Aa.e Ar).az Ba).az Bb;obtain ⟨B4,Bc,Be⟩:=Zp A6;refine AEz Ah A9 (AQ0 ⟨_,_,rfl,(Ah.z p1),(Ah.z p0)⟩ Bc) fun Bf Bg B5 Ad B6=>AB3 Bf ABa (cZ.klen (Ad.z p0)) (cZ.klen (AAa Bg)) rfl rfl (cZ.one (Ad.z p0)) (Ad.b p5) fun B7 Bh Bi=>Zr (Zy ?_);have Ae:=Ad.sb p5 Bi Bh rfl;obtain rfl:=Zm Be;exact ⟨_,AB9 ABa (cZ.klen (Ae.z p0)) rfl (Ae.b p5),Ae.x,_,rfl,(Ae.z p0).2⟩
def AFe (fuel:Nat) (a3:LiI) (a7:LiA) (a9:Int):Option Bool:=
  ((AC6 fuel a3 a9 (w64 (a9 - 1))).bind fun Ac=>((AKt fuel 4).bind fun Ae=>((AB6 fuel a7 (w64 (a9 - 1))).bind fun Af=>((AB6 fuel a7 (w64 (a9 + 1))).bind fun Ag=>((AQg fuel Af Ag).bind fun Ah=>((AQg fuel Ac Ac).bind fun Ai=>((Agv fuel Ah Ai).bind fun Aj=>((AQg fuel Ae Aj).bind fun Ak=>((AKt fuel 3).bind fun Am=>((AB6 fuel a7 a9).bind fun Ao=>((AB6 fuel a7 a9).bind fun Ap=>((AQg fuel Ao Ap).bind fun Aq=>((AQg fuel Am Aq).bind fun Ar=>((Aah fuel Ak Ar).bind fun Au=>(some (decide (0<=Au)))))))))))))))))
theorem AP4 {fuel:Nat} {h:Zs} {Au:Value} {a3:LiI} {Aw:Value} {a7:LiA} {a9:Int} {r:Bool} (H2:AEq cZ h Au a3) (H6:SlC cZ h Aw a7) (hp:AFe fuel a3 a7 a9=some r):AAs Tryz.prog 100 #[Au,Aw,(.int .i64 a9)] h (fun x h'=>Ext h h'/\x= .bool r):=by
 unfold AFe at hp;refine cwf (l:=[_,_,_]) Tryz.func100 rfl rfl (Zn (AA3 (Zk (Zk (Zk (AE4 rfl rfl ?_))))));have K0:=Kst.k0 h;obtain ⟨Dg,Bm,Bn⟩:=Zp hp;refine AMg K0 (AIf (H2.ext K0.x) Bm) fun Dh Di Dj Bo=>ACx Bo [.bool false,.slice none 0 0] AEb fun Dk Bp Dl A3=>AFc A3 p0 (AAa Bp) (A3.z p1) fun Ae Ac=>Zr (Zo ?_);have A4:UpT [] Ae Ae:=UpT.start all_nil;refine AR7 (B:=fun h'=>UpT [] Ae h') 15 [⟨8,94,[.bool false,.slice none 0 0]⟩] (fun _ _ U E=>U.thenE E) Zw A4 (Abo rfl AEb rfl (fun _ _ U E=>U.thenE E)) (h_e rfl fun Do A5=>?_);obtain ⟨Dp,Bq,Br⟩:=Zp Bn;refine AEz (Ac.e A5) (A4.thenE A5) (AJc Bq) fun Dq Dr Bt Bu Bv=>AAh ⟨Bt,?_⟩;refine h_l rfl (Zk (AAh (h_l rfl (Zk (AAh (h_l rfl (AE4 rfl rfl (AAh (h_e rfl fun Ds A6=>?_)))))))));have A7:=Bu.e A6;obtain ⟨Dt,Bw,Bx⟩:=Zp Br;refine AEz A7 (Bv.thenE A6) (ADf (H6.ext A7.x) Bw) fun Du Dv By Bz B1=>AAh ⟨By,?_⟩;refine h_l rfl (Zk (AAh (h_l rfl (Zk (AAh (h_l rfl (AAz rfl rfl (AAh (h_e rfl fun Dw A8=>?_)))))))));have A9:=Bz.e A8;obtain ⟨Dx,B3,B4⟩:=Zp Bx;refine AEz A9 (B1.thenE A8) (ADf (H6.ext A9.x) B3) fun Dy Dz B5 B6 B7=>AAh ⟨B5,?_⟩;refine h_e rfl fun D0 Ba=>?_;have Af:=B6.e Ba;obtain ⟨D1,B8,B9⟩:=Zp B4;refine AEz Af (B7.thenE Ba) (AOf (Af.z p1).2 (Af.z p0).2 B8) fun D2 D3 Ca Ag Ah=>AAh ⟨Ca,?_⟩;refine h_l rfl (AMz (Ag.z p5) Ah (Ac.b p0) (AAh (h_l rfl (AMz (Ag.z p5) Ah (Ac.b p0) (AAh (h_e rfl fun D4 Bb=>?_))))));have Ai:=Ag.e Bb;obtain ⟨D5,Cb,Cd⟩:=Zp B9;refine AEz Ai (Ah.thenE Bb) (AOf (Ai.z p5).2 (Ai.z p5).2 Cb) fun D6 D7 Ce Cf Cg=>AAh ⟨Ce,?_⟩;refine h_e rfl fun D8 Bc=>?_;have Aj:=Cf.e Bc;obtain ⟨D9,Ch,Ci⟩:=Zp Cd;refine AEz Aj (Cg.thenE Bc) (Afd (Aj.z p1).2 (Aj.z p0).2 Ch) fun Ea Eb Cj Ck Cm=>AAh ⟨Cj,?_⟩;refine h_e rfl fun Ec Be=>?_;have Ak:=Ck.e Be;obtain ⟨Ed,Cn,Co⟩:=Zp Ci;refine AEz Ak (Cm.thenE Be) (AOf (Ak.z p5).2 (Ak.z p0).2 Cn) fun Cp Ee Cq Cr Ct=>AAh ⟨Cq,?_⟩;refine AYz fun Cu Bf=>Aoh fun Ef Bg Cv Eg=>?_;have Aa:=Cr.e Bf;have Ad:=(((((((Ac.nb (Ct.thenE Bf).ext (AEv Cv Bg.lt) Bg).az (Aa.z p6)).az (Aa.z p5)).az (Aa.z p4)).az (Aa.z p3)).az (Aa.z p2)).az (Aa.z p1)).az (Aa.z p0);refine AB3 Cp ABa (cZ.klen (Ad.z p0)) (cZ.klen (AAa Cu)) rfl rfl (cZ.one (Ad.z p0)) (Ad.b p7) fun Am Cw Cx=>Zr (Zo (ACb (fun h'=>UpT [] Am h') Zw ?_));have Ao:=Ad.sb p7 Cx Cw rfl;have Bh:UpT [] Am Am:=UpT.start all_nil;refine AMz (Ao.z p0) Bh (Ao.b p7) ?_;obtain ⟨Eh,Cy,Cz⟩:=Zp Co;refine AEz Ao Bh (AJc Cy) fun Ei Ej Ek Bi C0=>Zk (Zk ?_);obtain ⟨El,C1,C2⟩:=Zp Cz;refine AEz Bi C0 (ADf (H6.ext Bi.x) C1) fun Em En Eo Bj C3=>Zk (Zk ?_);obtain ⟨Ep,C4,C5⟩:=Zp C2;refine AEz Bj C3 (ADf (H6.ext Bj.x) C4) fun Er Es Et Ap C6=>?_;obtain ⟨Eu,C7,C8⟩:=Zp C5;refine AEz Ap C6 (AOf (Ap.z p1).2 (Ap.z p0).2 C7) fun Ev Ew Ey Aq C9=>?_;obtain ⟨Ez,Da,Db⟩:=Zp C8;refine AEz Aq C9 (AOf (Aq.z p3).2 (Aq.z p0).2 Da) fun Fa Fb Fc Ar Dc=>?_;obtain ⟨Fd,Dd,De⟩:=Zp Db;refine Aaf Ar Dc (AY1 (Ar.z p5).2 (Ar.z p0).2 Dd) fun Fe Ff Df Fg=>ANn rfl rfl (Zv (Zy ?_));obtain rfl:=Zm De;exact ⟨_,Zz,Df.x,rfl⟩
def AJi (fuel:Nat) (a3:LiI) (x5:LiA) (Ab Aa:Int) (Ac:LiI):Option ((Int × LiI) ⊕ (((LiI × Bool)) ⊕ (LiI))):=
  (if 0<=Aa then ((AFs fuel a3 x5 Ab Aa).bind fun Ah=>(if (!Ah)=true then ((gI Ac Aa).bind fun Af=>((AC6 fuel a3 Ab Aa).bind fun Ai=>((AB6 fuel x5 (w64 (Aa + 1))).bind fun Aj=>((AEl fuel Ai Aj).bind fun Ag=>((AE2 fuel Ag.1 Ag.2).bind fun Ak=>((Adh fuel Ak).bind fun Am=>((gI Af Ab).bind fun Ao=>(some (Sum.inr<| Sum.inl <| ((sI Ac Aa (sI Af Ab Am)),true)))))))))) else (some (Sum.inl ((w64 (Aa - 1)),Ac))))) else (some (Sum.inr<| Sum.inr <| Ac)))
def AJj (fuel:Nat) (a3:LiI) (x5:LiA) (Aa:Int) (Ae:LiI):Option ((Int × LiI) ⊕ (((LiI × Bool)) ⊕ (Unit))):=
  (if Aa < (a3.length:Int) then ((iter (fun s=>AJi fuel a3 x5 Aa s.1 s.2) fuel ((w64 (Aa - 1)),Ae)).bind (fun ex=>match ex with | Sum.inl Af=>(some (Sum.inr<| Sum.inl <| Af)) | Sum.inr (Ab)=>(if 0 < Aa then ((AFe fuel a3 x5 Aa).bind fun Ag=>(if (!Ag)=true then ((gI Ab (w64 (Aa - 1))).bind fun Ah=>((gI Ab Aa).bind fun Ai=>(some (Sum.inr<| Sum.inl <| ((sI (sI Ab Aa Ah) (w64 (Aa - 1)) Ai),true))))) else (some (Sum.inl ((w64 (Aa + 1)),Ab))))) else (some (Sum.inl ((w64 (Aa + 1)),Ab)))))) else (some (Sum.inr<| Sum.inr <| ())))
def AF8 (fuel:Nat) (a3:LiI):Option (LiI × Bool):=
  ((ADq fuel a3).bind fun (x5,x6)=>((ADd fuel (a3.length:Int)).bind fun (Ac,Af)=>((iter (fun s=>AJj fuel a3 x5 s.1 s.2) fuel (0,Ac)).bind (fun ex=>match ex with | Sum.inl Ad=>(some Ad) | Sum.inr (_)=>(some ([],false))))))
theorem ARg {fuel:Nat} {h:Zs} {A3:Value} {a3:LiI} {r:(LiI × Bool)} (H2:AEq cZ h A3 a3) (hp:AF8 fuel a3=some r):AAs Tryz.prog 59 #[A3] h (fun x h'=>Ext h h'/\ ∃ (x0:Value) (F0:List Nat) (Br:List LnA) (Bt:List Value),x= .tuple #[x0,.bool r.2]/\ACp cZ 128 94 h' F0 Br Bt x0 r.1/\Sp h' h.size [F0]):=by
 unfold AF8 at hp;refine cwf (l:=[_]) Tryz.func59 rfl rfl (Zn (AAi (AA3 (Zk ?_))));have K0:=Kst.k0 h;obtain ⟨⟨x5,x6⟩,Bu,A8⟩:=Zp hp;dsimp only at A8;refine AMx rfl (AK9 (H2.ext K0.x) Bu) fun Dg Dh E9 Bw=>?_;obtain ⟨Di,Dj,rfl,Bx,By⟩:=Bw;refine Zk (ABj rfl rfl (ABj rfl rfl (AAi (AA3 (Zk (ABe ABu rfl H2 ?_))))));obtain ⟨⟨Bz,Dk⟩,B1,A9⟩:=Zp A8;dsimp only at A9;refine AMx rfl (AKv B1) fun Dl Do B3 B4=>?_;obtain ⟨Ba,B5,B6,B7,rfl,B8,B9⟩:=B4;refine Zk (ABj rfl rfl (ABj rfl rfl (AAi (Zv (Zo (Zn (Zk (ABe ABu rfl H2 (Zk (Zr (Zt ?_)))))))))));have Bb:=(K0.no E9 By Bx).no2 B3 B9 B8;refine AFr 9671406556917033389261580 (fun x:(Int) × (LiI) × LnA × LnN × LvA=>(x.1,x.2.1)) ((0,Bz,B5,B6,B7):(Int) × (LiI) × LnA × LnN × LvA) A9 (fun x=>[(23,(.int .i64 x.1))]) (fun x=>Bb.L.set 0 (aO2 cZ 128 94 x.2.2.1 x.2.2.2.1 x.2.2.2.2 Ba x.2.1)) Bb ⟨rfl,trivial⟩ ?_;rintro ⟨Bc,Ca,Cb,Cd,Ce⟩ Dp Dq Dr Ag Ah Ai;unfold AJj at Ah;refine Zn (AAy rfl rfl (Zr (Zo (⟨_,rfl,fun Aj=>?_,fun Aj=>?_⟩))))
 ·refine Zx (q_t (Zo (Zt (Zn (Zk (Zv (Zo (Zn (Zk (AE4 rfl rfl (Zv (Zt (AFr 72057593769493004 (fun x:(Int) × (LiI) × LnA × LnN × LvA=>(x.1,x.2.1)) (((w64 (Bc - 1)),Ca,Cb,Cd,Ce):(Int) × (LiI) × LnA × LnN × LvA) (AA7 Ah Aj) (fun x=>[(9,(.int .i64 x.1))]) (fun x=>Ag.L.set 0 (aO2 cZ 128 94 x.2.2.1 x.2.2.2.1 x.2.2.2.2 Ba x.2.1)) Ag ⟨rfl,trivial⟩ ?_)))))))))))));rintro ⟨Be,Ds,Dt,Du,Dv⟩ Dw Dx Dy Aa Ak Bf;unfold AJi at Ak;refine Zo (Zn (Zk (ANn rfl rfl (Zr (⟨_,rfl,fun Am=>?_,fun Am=>?_⟩)))))
  ·refine Zx (q_t (Zo (Zt (Zn (Zk (Zk (Zk (Zk ?_))))))));obtain ⟨Dz,Cf,Bg⟩:=Zp (AA7 Ak Am);refine ADk Aa (AQw (H2.ext Aa.x) (Aa.o p1).rd Cf) fun Ao D0 Ac=>ADp rfl (Zr (⟨_,rfl,fun Ap=>?_,fun Ap=>?_⟩))
   ·refine Zo (ACb (fun h'=>UpT [] Ao h') Zw ?_);have Bh:UpT [] Ao Ao:=UpT.start all_nil;refine Zk (Zk ?_);obtain ⟨D1,Aq,Cg⟩:=Zp (ifT Bg Ap);refine ACt ABu rfl (Ac.o2 p0) rfl Aq fun D2 D3 D4 Ch Ci=>AB8 ADi rfl Bh (fun h' hb=>AAu Ci hb.ext) (Zk (Zk (Zk (Zk ?_))));obtain ⟨D5,Cj,Ck⟩:=Zp Cg;refine AEz Ac Bh (AIf (H2.ext Ac.x) Cj) fun D6 D7 D8 Bi Cm=>Zk (Zk (AAz rfl rfl ?_));obtain ⟨D9,Cn,Co⟩:=Zp Ck;refine AEz Bi Cm (ADf (Bi.o p2).rd Cn) fun Ea Eb Ec Ar Au=>?_;obtain ⟨Ed,Cp,Cq⟩:=Zp Co;refine AD2 Au (fun _ E=>Au.thenE E) rfl (AOv (Ar.z p1).2 (Ar.z p0).2 Cp) fun Ee Ef Bj Cr=>?_;obtain ⟨Eg,rfl,Ct⟩:=Cr;have Cu:=Au.thenE Bj;obtain ⟨Eh,Ei,rfl,Cv,Cw⟩:=Ct;have Av:=((Ar.e Bj).az Cv).az Cw;obtain ⟨Ej,Cx,Cy⟩:=Zp Cq;refine AEz Av Cu (APr ⟨_,_,rfl,(Av.z p1),(Av.z p0)⟩ Cx) fun Ek El Em Bl Cz=>?_;obtain ⟨En,C0,C1⟩:=Zp Cy;refine AEz Bl Cz (Abn (Bl.z p0).2 C0) fun Eo Ep Er Ad Es=>?_;obtain ⟨Et,Bm,C2⟩:=Zp C1;refine AEa (m:=Be) ACn rfl (Ac.o2 p0) Ch Aq rfl Bm fun Eu C3=>ALu (m:=Be) (AQf ABa (cZ.klen (Ad.z p0)) rfl rfl (cZ.one (Ad.z p0))) (Ad.o2 p6) C3 Aq Bm (Ad.z p0) fun Ev C4 C5=>AHj (Zk (AAi (Zv (Zy (ABp (AAc (AAc (ABp (AAc (ABp (AAc (AAc (ABp (AAc ?_))))))))))))));have Aw:=Ad.uO2 p6 C5 C4;obtain rfl:=Zm (Ai _ (Zm (Bf _ (Zm C2).symm)).symm);exact ⟨_,ABg,Aw.x,_,_,_,_,rfl,(Aw.o2 p6),Aw.s.sel [6] Zl⟩
   ·refine Zx (q_b (q_t (Z1 (Zk (AE4 rfl rfl (Zv ?_))))));exact ⟨(_,_,_,_,_),(Zm (AH9 Bg Ap)).symm,Ac,rfl,trivial⟩
  ·refine AAe (AAf (AAf (ABk (q_t (Zn (Zk (AGz rfl rfl (Zk ?_))))))));have Bn:=Bf _ (Zm (AA8 Ak Am)).symm;by_cases Af:0 < Bc
   ·rw [decide_eq_true Af];refine AAk 58 true (Zk (AAk 58 true (Zk (AAk 58 true (Zk (AAk 58 true ?_))))));obtain ⟨Ew,C6,Bo⟩:=Zp (ifT Bn Af);refine ADk Aa (AP4 (H2.ext Aa.x) (Aa.o p1).rd C6) fun Ey Ez Ae=>AAk 58 true (ADp rfl (AAd rfl (Zr (⟨_,rfl,fun Ax=>?_,fun Ax=>?_⟩))))
    ·refine Zo (AGh (Zk (Zk (Zk (Zk (AE4 rfl rfl (Zk (Zk (AE4 rfl rfl ?_)))))))));obtain ⟨Fa,Bp,C7⟩:=Zp (ifT Bo Ax);refine AB2 ABu ADi (Ae.o2 p0) Bp fun _ Fb C8=>Zk (Zk ?_);obtain ⟨Fc,Bq,C9⟩:=Zp C7;refine AB2 ABu ADi (Ae.o2 p0) Bq fun _ Fd Da=>APp ABu ADi (Ae.o2 p0) Da C8 Bq Bp rfl rfl (fun _=>rfl) (fun _=>rfl) (fun _=>rfl) (fun _ _=>rfl) fun Fe Ff Fg Fh Fi Fj Db Dc Dd=>AHj (Zk (AAi (Zv (Zy (ABp (AAc (AAc (ABp (AAc ?_)))))))));have Ay:=Ae.uo2 p0 Dc Db Dd;obtain rfl:=Zm (Ai _ (Zm C9).symm);exact ⟨_,ABg,Ay.x,_,_,_,_,rfl,(Ay.o2 p0),Ay.s.sel [0] Zl⟩
    ·refine Zx (q_b (q_t (Z1 (AAz rfl rfl (Zk (Zr ?_))))));exact ⟨(_,_,_,_,_),(Zm (AH9 Bo Ax)).symm,Ae,rfl,trivial⟩
   ·rw [decide_eq_false Af];refine AE5 58 false (AAo rfl (Zr (AAq rfl (Zx (q_b (q_t (Z1 (AAz rfl rfl (Zk (Zr ?_))))))))));exact ⟨(_,_,_,_,_),(Zm (ifF Bn Af)).symm,Aa,rfl,trivial⟩
 ·refine AAe (AAf (AAf (ABk (q_t (Zn (AAi (Zv (Zy ?_))))))));have Az:=Kst.anil2 cZ 128 94 Ag;obtain rfl:=Zm (Ai _ (Zm (AA8 Ah Aj)).symm);exact ⟨_,ABg,Az.x,_,_,_,_,rfl,(Az.o2 p0),Az.s.sel [0] Zl⟩
def AIg (fuel:Nat) (Aa Ab:LiI):Option ((LiI × LiI) ⊕ (((LiI × LiI × Int)))):=
  ((AF8 fuel Aa).bind fun (Ac,Ad)=>(if (!Ad)=true then ((AFd fuel Aa).bind fun (Ae,Ah)=>(some (Sum.inr<| (Ae,Ab,0)))) else ((AC3 fuel Aa Ac).bind fun Af=>((AB5 fuel Ab Ac).bind fun Ag=>(some (Sum.inl (Af,Ag)))))))
def AFf (fuel:Nat) (a3:LiI):Option (LiI × LiI × Int):=
  ((ADe fuel a3).bind fun x5=>(if ¬ x5=0 then (some ([],[],x5)) else ((AFt fuel a3).bind fun Ac=>(if (!Ac)=true then (some ([],[],7)) else ((AE0 fuel a3).bind fun Ad=>((ADd fuel (a3.length:Int)).bind fun (Ae,Ag)=>((iter (fun s=>AIg fuel s.1 s.2) fuel (Ad,Ae)).bind (fun (Af:(LiI × LiI × Int))=>(some Af)))))))))
theorem AP5 {fuel:Nat} {h:Zs} {Ao:Value} {a3:LiI} {r:(LiI × LiI × Int)} (H2:AEq cZ h Ao a3) (hp:AFf fuel a3=some r):AAs Tryz.prog 24 #[Ao] h (fun x h'=>Ext h h'/\ ∃ (x0:Value) (F0:List Nat) (A7:List LnA) (A8:List Value) (x1:Value) (F1:List Nat) (A9:List LnA) (Ba:List Value),x= .tuple #[x0,x1,.int .i64 r.2.2]/\ACp (cI .i64) 60 2 h' F0 A7 A8 x0 r.1/\ACp cZ 128 94 h' F1 A9 Ba x1 r.2.1/\Sp h' h.size [F0,F1]):=by
 unfold AFf at hp;refine cwf (l:=[_]) Tryz.func24 rfl rfl (Zn (AAi (AAi (Zv (Zo (Zn (Zk ?_)))))));have K0:=Kst.k0 h;obtain ⟨x5,Bb,Ax⟩:=Zp hp;refine ADk K0 (AKw (H2.ext K0.x) Bb) fun h9 E8 Af=>AA3 (Zk (ADc rfl rfl (Zr (⟨_,rfl,fun Ag=>?_,fun Ag=>?_⟩))))
 ·refine Zn (Zk (AAi (AAi (Zv (Zy (AAc ?_))))));have Ac:=Kst.anil2 cZ 128 94 (Kst.anil2 (cI .i64) 60 2 Af);obtain rfl:=Zm (AA7 Ax Ag);exact ⟨_,AIt,Ac.x,_,_,_,_,_,_,_,_,rfl,(Ac.o2 p1),(Ac.o2 p0),Ac.s.sel [1,0] Zl⟩
 ·refine Zx (q_t (Zo (Zn (Zk ?_))));obtain ⟨Ck,Bc,Ay⟩:=Zp (AA8 Ax Ag);refine ADk Af (AQx (H2.ext Af.x) Bc) fun Cm Cn Ah=>ADp rfl (Zr (⟨_,rfl,fun Ai=>?_,fun Ai=>?_⟩))
  ·refine Zn (AAi (AAi (Zv (Zy (AAc ?_)))));have Ad:=Kst.anil2 cZ 128 94 (Kst.anil2 (cI .i64) 60 2 Ah);obtain rfl:=Zm (ifT Ay Ai);exact ⟨_,AIt,Ad.x,_,_,_,_,_,_,_,_,rfl,(Ad.o2 p1),(Ad.o2 p0),Ad.s.sel [1,0] Zl⟩
  ·refine Zx (q_t (Zn (Zk ?_)));obtain ⟨Be,Bf,Bg⟩:=Zp (AH9 Ay Ai);refine ANo Ah (AMb (H2.ext Ah.x) Bf) fun Bh Bi Bj Bl Co Cp Bm=>AA3 (Zk (ABe ABu rfl H2 ?_));obtain ⟨⟨Bn,Cq⟩,Bo,Az⟩:=Zp Bg;dsimp only at Az;refine AMx rfl (AKv Bo) fun Cr Ct Bp Bq=>?_;obtain ⟨Br,Bt,Bu,Bv,rfl,Bw,Bx⟩:=Bq;refine Zk (ABj rfl rfl (ABj rfl rfl (AAi (Zv (Zt ?_)))));have A3:=Bm.no2 Bp Bx Bw;refine AFr 562949416558300 (fun x:(LiI) × (Value) × LnA × LnN × LvA × (LiI) × (Value) × LnA × LnN × LvA=>(x.1,x.2.2.2.2.2.1)) ((Be,Bl,Bh,Bi,Bj,Bn,Br,Bt,Bu,Bv):(LiI) × (Value) × LnA × LnN × LvA × (LiI) × (Value) × LnA × LnN × LvA) Az (fun x=>[(6,x.2.1),(7,x.2.2.2.2.2.2.1)]) (fun x=>(A3.L.set 1 (aO2 cZ 128 94 x.2.2.1 x.2.2.2.1 x.2.2.2.2.1 x.2.1 x.1)).set 0 (aO2 cZ 128 94 x.2.2.2.2.2.2.2.1 x.2.2.2.2.2.2.2.2.1 x.2.2.2.2.2.2.2.2.2 x.2.2.2.2.2.2.1 x.2.2.2.2.2.1)) A3 ⟨rfl,rfl,trivial⟩ ?_;rintro ⟨Cu,Cv,Cw,Cx,Cy,Cz,C0,C1,C2,C3⟩ C4 C5 C6 A4 A5 By;unfold AIg at A5;refine Zt (Zn (Zk ?_));obtain ⟨⟨C7,C8⟩,Bz,Aj⟩:=Zp A5;dsimp only at Aj;refine AMx rfl (ARg (A4.o2 p1).rd Bz) fun C9 Da B1 B3=>?_;obtain ⟨Db,Dc,Dd,De,rfl,B4,B5⟩:=B3;refine Zk (ABj rfl rfl (ABj rfl rfl (AAi (Zv (Zo (Zn (Zk (ADp rfl (Zr ?_)))))))));have Aa:=A4.no2 B1 B5 B4;refine ⟨_,rfl,fun Ak=>?_,fun Ak=>?_⟩
   ·refine Zn (Zk ?_);obtain ⟨⟨Df,Dg⟩,B6,A6⟩:=Zp (ifT Aj Ak);dsimp only at A6;refine AMx rfl (AP3 (Aa.o2 p2).rd B6) fun Dh Di B7 B8=>?_;obtain ⟨Dj,Dk,Dl,Do,rfl,B9,Ca⟩:=B8;refine Zk (ABj rfl rfl (ABj rfl rfl (AAi (AA3 (Zk (Zk (AAi (AAi (Zv (Zy (AAc (ABp (AAc (ABp ?_))))))))))))));have Ae:=Aa.no2 B7 Ca B9;obtain rfl:=Zm (By _ (Zm A6).symm);exact ⟨_,AIt,Ae.x,_,_,_,_,_,_,_,_,rfl,(Ae.o2 p0),(Ae.o2 p2),Ae.s.sel [0,2] Zl⟩
   ·refine Zx (q_t (Z1 (Zk (Zk ?_))));obtain ⟨Dp,Cb,Cd⟩:=Zp (AH9 Aj Ak);refine ANo Aa (AOh (Aa.o2 p2).rd (Aa.o2 p0).rd Cb) fun Dq Dr Ds Dt Du Dv Am=>Zk (Zk ?_);obtain ⟨Dw,Ce,Cf⟩:=Zp Cd;refine ANo Am (AHo (Am.o2 p2).rd (Am.o2 p1).rd Ce) fun Dx Dy Dz D0 D1 D2 Cg=>AAi (AAi (AAh (q_b (q_t ?_))));exact ⟨(_,_,_,_,_,_,_,_,_,_),(Zm Cf).symm,Cg.sel [0,1] Zl,rfl,rfl,trivial⟩
end Go.Proofs.YtdkldlbgcfpglaaGreatDoor
namespace Go.QF
open Go
def Ok {α:Type} (o:Option α) (Q:α->Prop):Prop:= ∃ r,o=some r/\Q r
theorem Zq {α:Type} {a:α} {Q:α->Prop} (h:Q a):Ok (some a) Q:=⟨a,rfl,h⟩
theorem Zu {α β:Type} {o:Option α} {f:α->Option β} {Q:α->Prop} {R:β->Prop} (h:Ok o Q) (k:∀ x,Q x->Ok (f x) R):Ok (o.bind f) R:=by
 obtain ⟨x,rfl,hx⟩:=h;exact k x hx
theorem AAw {c:Prop} [Decidable c] {α:Type} {a b:Option α} {R:α->Prop} (ht:c->Ok a R) (hf: ¬ c->Ok b R):Ok (if c then a else b) R:=by
 by_cases h:c
 ·rw [if_pos h];exact ht h
 ·rw [if_neg h];exact hf h
theorem ABs {c:Prop} [Decidable c] {α:Type} {a:Option α} {R:α->Prop} (hc:c) (h:Ok a R):Ok (if c then a else none) R:=by rw [if_pos hc];exact h
theorem Aos {α:Type} {o:Option α} {Q R:α->Prop} (h:Ok o Q) (k:∀ x,Q x->R x):Ok o R:=let ⟨x,h1,h2⟩:=h;⟨x,h1,k x h2⟩
theorem ok_eq {α:Type} {o:Option α} {a:α} (h:Ok o (· =a)):o=some a:=by obtain ⟨x,h1,rfl⟩:=h;exact h1
theorem ABh {α:Type} {o:Option α} {a:α} (h:o=some a):Ok o (· =a):=⟨a,h,rfl⟩
theorem AAv {α β:Type} {L:List α} {i:Int} {n:Nat} {x:α} {f:α->Option β} {R:β->Prop} (hx:L[n]? =some x) (hi:i=n) (k:Ok (f x) R):Ok ((gI L i).bind f) R:=by
 subst hi;unfold gI;rw [if_pos Zj,Int.toNat_natCast,hx];exact k
theorem ABd {S E:Type} {body:S->Option (S ⊕ E)} {fuel:Nat} {s0:S} (I:Nat->S->Prop) (n:Nat) {Q:E->Prop} (h0:I 0 s0) (hf:n < fuel) (hs:∀ i s,i<=n->I i s->Ok (body s) fun r=>match r with | .inl s'=>i < n/\I (i + 1) s' | .inr e=>Q e):Ok (iter body fuel s0) Q:=by
  have key:∀ k fuel i s,n - i=k->k < fuel->i<=n->I i s->Ok (iter body fuel s) Q:=by
    intro k;induction k with
    | zero=>
      intro fuel i s hk hf hi hI;obtain ⟨r,hr,hq⟩:=hs i s hi hI;cases fuel with
      | zero=>omega
      | succ f=>
        cases r with
        | inl s'=>simp at hq;omega
        | inr e=>exact ⟨e,by simp [iter,hr],hq⟩
    | succ k ih=>
      intro fuel i s hk hf hi hI;obtain ⟨r,hr,hq⟩:=hs i s hi hI;cases fuel with
      | zero=>omega
      | succ f=>
        cases r with
        | inl s'=>
          obtain ⟨e,he,hQ⟩:=ih f (i + 1) s' Zj Zj Zj hq.2;exact ⟨e,by simp [iter,hr,he],hQ⟩
        | inr e=>exact ⟨e,by simp [iter,hr],hq⟩
  exact key n fuel 0 s0 Zj hf Zj h0
theorem ACf {x:Int} (h1: -9223372036854775808<=x) (h2:x<=9223372036854775807):w64 x=x:=by
 show IntKind.i64.wrap x=x;rw [IntKind.wrap_i64];omega
theorem wk {x:Int} (h: -9223372036854775808<=x/\x<=9223372036854775807):w64 x=x:=ACf h.1 h.2
def ACl {α:Type} (m:Nat) (f:Nat->α):List α:=(List.range m).map f
theorem ABm {α:Type} (m:Nat) (f:Nat->α):(ACl m f).length=m:=by simp [ACl]
theorem AA0 {α:Type} {m:Nat} {f:Nat->α} {j:Nat} (h:j < m):(ACl m f)[j]? =some (f j):=by simp [ACl,h]
theorem ABi {α:Type} {m:Nat} {f g:Nat->α} (h:∀ j,j < m->f j=g j):ACl m f=ACl m g:=by
 unfold ACl;exact List.map_congr_left fun j hj=>h j (List.mem_range.1 hj)
theorem AEm {α:Type} {m j:Nat} {f:Nat->α} {x:α}:(ACl m f).set j x=ACl m fun c=>if c=j then x else f c:=by
 apply List.ext_getElem?;intro i;rw [List.getElem?_set];by_cases h:j=i
 ·subst h;simp only [if_true,ABm];by_cases hj:j < m
  ·simp [hj,AA0 hj]
  ·simp [hj,ACl]
 ·rw [if_neg h];by_cases hi:i < m
  ·rw [AA0 hi,AA0 hi,if_neg (fun he=>h he.symm)]
  ·simp [ACl,hi]
theorem ANq {α:Type} (m:Nat) (f:Nat->α):ACl m f ++ [f m]=ACl (m + 1) f:=by simp [ACl,List.range_succ]
theorem AFu {α:Type} (m:Nat) (a:α):List.replicate m a=ACl m fun _=>a:=by
 apply List.ext_getElem?;intro i;by_cases h:i < m
 ·rw [AA0 h];simp [h]
 ·simp [ACl,h]
theorem AN2 (r c:Nat) (F:Z4):tab r c F=ACl r fun i=>ACl c (F i):=rfl
theorem ABl {r c:Nat} {F:Z4} {i:Nat} (h:i < r):(tab r c F)[i]? =some (ACl c (F i)):=AA0 (f:=fun i=>ACl c (F i)) h
theorem Aln {r c i j:Nat} {F:Z4} {x:Int}:(tab r c F).set i (ACl c fun q=>if q=j then x else F i q)=tab r c (ABz F i fun q=>if q=j then x else F i q):=AK5
theorem AB4 {α:Type} (L:List α) (n:Nat) (x:α):sI L (n:Int) x=L.set n x:=by simp [sI]
end Go.QF
namespace Go.QF
theorem AT4 (F:Z4) (i:Nat) (f g:Nat->Int):ABz (ABz F i f) i g=ABz F i g:=by
 funext k;by_cases h:k=i
 ·subst h;rw [AB0,AB0]
 ·rw [AE9 _ _ h,AE9 _ _ h,AE9 _ _ h]
theorem ANr (F:Z4) (i:Nat):ABz F i (F i)=F:=by
 funext k;by_cases h:k=i
 ·subst h;rw [AB0]
 ·rw [AE9 _ _ h]
theorem ALa (f g:Nat->Int) (n:Nat):psum (fun i=>f i + g i) n=psum f n + psum g n:=by
 induction n with
 | zero=>rfl
 | succ n ih=>simp only [psum];rw [ih];omega
theorem AE3 (c:Int) (f:Nat->Int) (n:Nat):psum (fun i=>c * f i) n=c * psum f n:=by
 induction n with
 | zero=>simp [psum]
 | succ n ih=>simp only [psum];rw [ih,Int.mul_add]
theorem AO5 (n:Nat):psum (fun _=>0) n=0:=by
 induction n with
 | zero=>rfl
 | succ n ih=>simp only [psum];rw [ih];rfl
theorem AWo (f:Z4) (n m:Nat):psum (fun i=>psum (fun j=>f i j) m) n=psum (fun j=>psum (fun i=>f i j) n) m:=by
 induction n with
 | zero=>simp only [psum];exact (AO5 m).symm
 | succ n ih=>
   simp only [psum]
   rw [ih,<- ALa]
theorem Alo {f g:Nat->Int} {n a:Nat} (ha:a < n) (h:∀ i,i≠a->g i=f i):psum g n=psum f n + (g a - f a):=by
  induction n with
  | zero=>omega
  | succ n ih=>
    simp only [psum]
    by_cases hn:a=n
    · subst hn;rw [AA2 (f:=g) (g:=f) (fun k hk=>h k Zj)];omega
    · rw [ih Zj,h n (fun he=>hn he.symm)];omega
theorem AJk {f:Nat->Int} {n a:Nat} (ha:a < n) (h:∀ i,i≠a->f i=0):psum f n=f a:=by
 rw [Alo (f:=fun _=>0) ha h,AO5];omega
def Eqm (m a b:Int):Prop:=a % m=b % m
theorem Eqm.refl (m a:Int):Eqm m a a:=rfl
theorem Eqm.of_eq {m a b:Int} (h:a=b):Eqm m a b:=h ▸ rfl
theorem Eqm.symm {m a b:Int} (h:Eqm m a b):Eqm m b a:=Eq.symm h
theorem Eqm.trans {m a b c:Int} (h:Eqm m a b) (k:Eqm m b c):Eqm m a c:=Eq.trans h k
theorem Eqm.add {m a b c d:Int} (h:Eqm m a b) (k:Eqm m c d):Eqm m (a + c) (b + d):=by
 unfold Eqm at *;rw [Int.add_emod,h,k,<- Int.add_emod]
theorem Eqm.sub {m a b c d:Int} (h:Eqm m a b) (k:Eqm m c d):Eqm m (a - c) (b - d):=by
 unfold Eqm at *;rw [Int.sub_emod,h,k,<- Int.sub_emod]
theorem Eqm.mul {m a b c d:Int} (h:Eqm m a b) (k:Eqm m c d):Eqm m (a * c) (b * d):=by
 unfold Eqm at *;rw [Int.mul_emod,h,k,<- Int.mul_emod]
theorem Eqm.mod (m a:Int):Eqm m (a % m) a:=Int.emod_emod_of_dvd a (Int.dvd_refl m)
theorem Eqm.psum {m:Int} {f g:Nat->Int} {n:Nat} (h:∀ i,i < n->Eqm m (f i) (g i)):Eqm m (psum f n) (psum g n):=by
 induction n with
 | zero=>rfl
 | succ n ih=>exact (ih fun i hi=>h i Zj).add (h n Zj)
theorem Eqm.zero {m a:Int} (h:Eqm m a 0):a % m=0:=by simpa [Eqm] using h
theorem Aiu {m a b:Int} (h:Eqm m a b) (ha:0<=a/\a < m) (hb:0<=b/\b < m):a=b:=by
 unfold Eqm at h;rwa [Int.emod_eq_of_lt ha.1 ha.2,Int.emod_eq_of_lt hb.1 hb.2] at h
end Go.QF
namespace Go.QF
theorem Alp {f:Nat->Int} {k r:Nat} (hk:k<=r) (h:∀ i,k<=i->i < r->f i=0):psum f r=psum f k:=by
 induction r with
 | zero=>rw [Nat.le_zero.1 hk]
 | succ r ih=>
   rcases Nat.lt_or_ge k (r + 1) with h1 | h1
   · simp only [psum]
     rw [ih Zj (fun i h2 h3=>h i h2 Zj),h r Zj Zj];omega
   · obtain rfl:k=r + 1:=by omega
     rfl
def dl (a b:Nat):Int:=if a=b then 1 else 0
def skp (i a:Nat):Nat:=if a < i then a else a + 1
def usk (i r:Nat):Nat:=if r < i then r else r - 1
def sg (i:Nat):Int:=if i % 2=0 then 1 else -1
theorem Aot (i:Nat):sg (i + 1)= -sg i:=by unfold sg;split <;> split <;> first | omega | rfl
theorem Arl (i a:Nat):skp i a≠i:=by unfold skp;split <;> omega
theorem Alq {i a n:Nat} (ha:a < n):skp i a < n + 1:=by unfold skp;split <;> omega
theorem Aou {i r:Nat} (h:r≠i):skp i (usk i r)=r:=by
 unfold usk;split <;> (unfold skp;split <;> omega)
theorem Aov {i a r:Nat} (h:skp i a=r):a=usk i r:=by unfold skp at h;unfold usk;split at h <;> split <;> omega
theorem Arm {i r n:Nat} (h:r≠i) (hi:i < n + 1) (hr:r < n + 1):usk i r < n:=by unfold usk;split <;> omega
theorem AA4 (F:Z4) (a:Nat) (g:Nat->Int) (i j:Nat):ABz F a g i j=if i=a then g j else F i j:=by
 unfold ABz;split <;> rfl
theorem ALm (F:Z4) (a b i j:Nat):AEx F a b i j=if i=b then F a j else if i=a then F b j else F i j:=by
 unfold AEx;rw [AA4,AA4]
def AEc (i:Nat) (F:Z4):Z4:=fun a b=>F (skp i a) (b + 1)
def det:Nat->(Z4)->Int
  | 0,_=>1
  | n + 1,F=>psum (fun i=>sg i * F i 0 * det n (AEc i F)) (n + 1)
theorem ABx:∀ {n:Nat} {F G:Z4},(∀ i j,i < n->j < n->F i j=G i j)->det n F=det n G:=by
 intro n
 induction n with
 | zero=>intro _ _ _;rfl
 | succ n ih=>
   intro F G h
   refine AA2 fun i hi=>?_
   rw [h i 0 hi Zj,ih (F:=AEc i F) (G:=AEc i G) fun a b ha hb=>h _ _ (Alq ha) Zj]
theorem AUx {i r:Nat} {F:Z4} {g:Nat->Int} (h:r≠i):AEc i (ABz F r g)=ABz (AEc i F) (usk i r) (fun b=>g (b + 1)):=by
 funext a b;unfold AEc ABz;by_cases ha:skp i a=r
 ·rw [if_pos ha,if_pos (Aov ha)]
 ·rw [if_neg ha,if_neg (fun he=>ha (by rw [he,Aou h]))]
theorem AXk {i:Nat} {F:Z4} {g:Nat->Int}:AEc i (ABz F i g)=AEc i F:=by
 funext a b;unfold AEc;rw [AE9 _ _ (Arl i a)]
theorem ASe:∀ {n:Nat} {F:Z4} {r:Nat} (u v:Nat->Int) (c d:Int),r < n->det n (ABz F r fun q=>c * u q + d * v q)=c * det n (ABz F r u) + d * det n (ABz F r v):=by
 intro n
 induction n with
 | zero=>intro _ _ _ _ _ _ h;omega
 | succ n ih=>
   intro F r u v c d hr
   simp only [det]
   rw [<- AE3,<- AE3,<- ALa]
   refine AA2 fun i hi=>?_
   by_cases h:r=i
   · subst h
     simp only [AXk,AB0]
     grind
   · rw [AUx h,AUx h,AUx h,AE9 _ _ (Ne.symm h),AE9 _ _ (Ne.symm h),AE9 _ _ (Ne.symm h),ih (fun b=>u (b + 1)) (fun b=>v (b + 1)) c d (Arm h hi hr)]
     grind
theorem Alr {f:Nat->Int} {n r s:Nat} (hr:r < n) (hs:s < n) (hrs:r≠s) (h:∀ i,i < n->i≠r->i≠s->f i=0):psum f n=f r + f s:=by
 have h1:psum f n=psum (fun i=>(if i=r then f r else 0) + (if i=s then f s else 0)) n:=AA2 fun i hi=>by
   by_cases h1:i=r
   · subst h1;rw [if_pos rfl,if_neg hrs];omega
   · rw [if_neg h1]
     by_cases h2:i=s
     · subst h2;rw [if_pos rfl];omega
     · rw [if_neg h2,h i hi h1 h2];rfl
 rw [h1,ALa,AJk (f:=fun i=>if i=r then f r else 0) hr (fun i hi=>if_neg hi),AJk (f:=fun i=>if i=s then f s else 0) hs (fun i hi=>if_neg hi),if_pos rfl,if_pos rfl]
theorem Ag0:∀ {n:Nat} {F:Z4} {r:Nat},r + 1 < n->(∀ q,q < n->F r q=F (r + 1) q)->det n F=0:=by
 intro n
 induction n with
 | zero=>intro _ _ h;omega
 | succ n ih=>
   intro F r hr h
   simp only [det]
   rw [Alr (r:=r) (s:=r + 1) Zj Zj Zj]
   · have:det n (AEc r F)=det n (AEc (r + 1) F):=ABx fun a b ha hb=>by
       unfold AEc skp
       by_cases h1:a < r
       · rw [if_pos h1,if_pos Zj]
       · rw [if_neg h1]
         by_cases h2:a < r + 1
         · rw [if_pos h2]
           obtain rfl:a=r:=by omega
           exact (h (b + 1) Zj).symm
         · rw [if_neg h2]
     rw [this,Aot,h 0 Zj]
     grind
   · intro i hi h1 h2
     rcases Nat.lt_or_ge i r with hlt | hge
     · rw [ih (F:=AEc i F) (r:=r - 1) Zj]
       · simp
       · intro q hq
         unfold AEc skp
         rw [if_neg Zj,if_neg Zj,show r - 1 + 1=r by omega]
         exact h (q + 1) Zj
     · rw [ih (F:=AEc i F) (r:=r) Zj]
       · simp
       · intro q hq
         unfold AEc skp
         rw [if_pos Zj,if_pos Zj]
         exact h (q + 1) Zj
theorem AO6 {F:Z4} {a b:Nat} (h:a≠b) (u v:Nat->Int):ABz (ABz F a u) b v=ABz (ABz F b v) a u:=by
 funext k;unfold ABz;by_cases h1:k=a <;> by_cases h2:k=b
 ·omega
 ·simp [h1,h]
 ·simp [h2,Ne.symm h]
 ·simp [h1,h2]
theorem Adn {n:Nat} {F:Z4} {a b:Nat} (ha:a < n) (hb:b < n) (hab:a≠b) (h0:∀ G:Z4,G a=G b->det n G=0):det n (AEx F a b)= -det n F:=by
  have key:∀ u v:Nat->Int,det n (ABz (ABz F a u) b v)= -det n (ABz (ABz F a v) b u):=by
    intro u v;have h1:=h0 (ABz (ABz F a fun q=>1 * u q + 1 * v q) b fun q=>1 * u q + 1 * v q) (by rw [AB0,AE9 _ _ hab,AB0]);rw [ASe u v 1 1 hb,AO6 hab,AO6 hab,ASe u v 1 1 ha,ASe u v 1 1 ha,AO6 (Ne.symm hab),AO6 (Ne.symm hab),AO6 (Ne.symm hab),AO6 (Ne.symm hab)] at h1;have h2:=h0 (ABz (ABz F a u) b u) (by rw [AB0,AE9 _ _ hab,AB0]);have h3:=h0 (ABz (ABz F a v) b v) (by rw [AB0,AE9 _ _ hab,AB0]);omega
  unfold AEx;rw [key (F b) (F a),ANr];rw [show ABz F b (F b)=F from ANr F b]
theorem Ag1:∀ {d n:Nat} {F:Z4} {a:Nat},a + d + 1 < n->F a=F (a + d + 1)->det n F=0:=by
 intro d
 induction d with
 | zero=>intro n F a hn h;exact Ag0 hn fun q _=>by rw [h]
 | succ d ih=>
   intro n F a hn h
   have h1:=Adn (n:=n) (F:=F) (a:=a + d + 1) (b:=a + d + 1 + 1) Zj Zj Zj fun G hG=>Ag0 (r:=a + d + 1) Zj fun q _=>congrFun hG q
   have h2:=ih (n:=n) (F:=AEx F (a + d + 1) (a + d + 1 + 1)) (a:=a) Zj (by rw [AWf,AYi _ Zj Zj,h];rfl)
   omega
theorem AMd {n:Nat} {F:Z4} {a b:Nat} (ha:a < n) (hb:b < n) (hab:a≠b) (h:F a=F b):det n F=0:=by
 rcases Nat.lt_or_ge a b with hlt | hge
 ·exact Ag1 (d:=b - a - 1) (a:=a) Zj (by rw [h];congr 1;omega)
 ·exact Ag1 (d:=a - b - 1) (a:=b) Zj (by rw [<- h];congr 1;omega)
theorem APs {n:Nat} {F:Z4} {a b:Nat} (ha:a < n) (hb:b < n) (hab:a≠b):det n (AEx F a b)= -det n F:=
  Adn ha hb hab fun _ h=>AMd ha hb hab h
theorem Aiv {n:Nat} {F:Z4} {r:Nat} (u:Nat->Int) (c:Int) (hr:r < n):det n (ABz F r fun q=>c * u q)=c * det n (ABz F r u):=by
 have:=ASe (F:=F) u (fun _=>0) c 0 hr;rw [show (fun q=>c * u q + 0 * (fun _:Nat=>(0:Int)) q)=fun q=>c * u q from by funext q;omega] at this;rw [this];omega
theorem ASf {n:Nat} {F:Z4} {r:Nat} (hr:r < n) (h:∀ q,q < n->F r q=0):det n F=0:=by
 have:=Aiv (F:=F) (F r) 0 hr;rw [Int.zero_mul] at this;rw [<- this]
 exact ABx fun i j hi hj=>by
   unfold ABz
   split
   · rename_i he;subst he;rw [h j hj];simp
   · rfl
theorem ALb {n:Nat} {F:Z4} {a b:Nat} (ha:a < n) (hb:b < n) (hab:a≠b) (q:Int):det n (ABz F a fun x=>F a x + q * F b x)=det n F:=by
 have:=ASe (F:=F) (F a) (F b) 1 q ha;rw [ANr,AMd (F:=ABz F a (F b)) ha hb hab (by rw [AB0,AE9 _ _ (Ne.symm hab)])] at this;rw [show (fun x=>F a x + q * F b x)=fun x=>1 * F a x + q * F b x from by funext x;omega,this];omega
theorem AY2 {n:Nat} {F:Z4} {r:Nat} (hr:r < n) (y:Nat->Int) (u:Z4):∀ t,det n (ABz F r fun q=>psum (fun k=>y k * u k q) t)=psum (fun k=>y k * det n (ABz F r (u k))) t:=by
 intro t
 induction t with
 | zero=>exact ASf hr fun q _=>by rw [AB0];rfl
 | succ t ih=>
   have:=ASe (F:=F) (fun q=>psum (fun k=>y k * u k q) t) (u t) 1 (y t) hr
   simp only [psum]
   rw [<- ih,show (fun q=>psum (fun k=>y k * u k q) t + y t * u t q)=fun q=>1 * psum (fun k=>y k * u k q) t + y t * u t q from by funext q;omega,this];omega
theorem Als {n:Nat} {F:Z4} {r:Nat} (hr:r < n) (y:Nat->Int):det n (ABz F r fun q=>psum (fun k=>y k * F k q) n)=y r * det n F:=by
  rw [AY2 hr y F n,AA2 (g:=fun k=>if k=r then y r * det n F else 0),AJk hr (fun i hi=>if_neg hi),if_pos rfl];intro k hk
  by_cases h:k=r
  · subst h;rw [if_pos rfl,ANr]
  · rw [if_neg h,AMd (F:=ABz F r (F k)) hr hk (Ne.symm h) (by rw [AB0,AE9 _ _ h])];simp
def AC9 (f:Nat->Int):Nat->Int
  | 0=>1
  | n + 1=>AC9 f n * f n
theorem AXa (f:Nat->Int) (n:Nat):AC9 f (n + 1)=f 0 * AC9 (fun i=>f (i + 1)) n:=by
 induction n with
 | zero=>simp [AC9]
 | succ n ih=>rw [AC9,ih,AC9];grind
theorem ATj {f g:Nat->Int} {n:Nat} (h:∀ i,i < n->f i=g i):AC9 f n=AC9 g n:=by
 induction n with
 | zero=>rfl
 | succ n ih=>rw [AC9,AC9,ih (fun i hi=>h i Zj),h n Zj]
theorem AT5:∀ {n:Nat} {F:Z4},Zc n F n->det n F=AC9 (fun i=>F i i) n:=by
 intro n
 induction n with
 | zero=>intro _ _;rfl
 | succ n ih=>
   intro F h
   rw [AXa,det,AA2 (g:=fun i=>if i=0 then F 0 0 * det n (AEc 0 F) else 0),AJk (a:=0) Zj (fun i hi=>if_neg hi),if_pos rfl]
   · rw [ih (F:=AEc 0 F) (fun c' i h1 h2 h3=>by unfold AEc skp;rw [if_neg Zj];exact h (c' + 1) (i + 1) Zj Zj Zj)]
     rfl
   · intro i hi
     by_cases h0:i=0
     · subst h0;simp [sg]
     · rw [if_neg h0,h 0 i Zj Zj hi];simp
theorem AWp:∀ {n:Nat} {F:Z4},(∀ i j,i < j->j < n->F i j=0)->det n F=AC9 (fun i=>F i i) n:=by
 intro n
 induction n with
 | zero=>intro _ _;rfl
 | succ n ih=>
   intro F h
   rw [AXa,det,AA2 (g:=fun i=>if i=0 then F 0 0 * det n (AEc 0 F) else 0),AJk (a:=0) Zj (fun i hi=>if_neg hi),if_pos rfl]
   · rw [ih (F:=AEc 0 F) (fun i j h1 h2=>by unfold AEc skp;rw [if_neg Zj];exact h (i + 1) (j + 1) Zj Zj)]
     rfl
   · intro i hi
     by_cases h0:i=0
     · subst h0;simp [sg]
     · rw [if_neg h0,ASf (F:=AEc i F) (r:=0) Zj (fun q hq=>by unfold AEc skp;rw [if_pos Zj];exact h 0 (q + 1) Zj Zj)];simp
def AUl (F:Z4) (c i:Nat) (q:Int):Z4:=AEx (ABz F c fun x=>F c x + -q * F i x) c i
theorem Ag2 (F:Z4) {c i:Nat} (q:Int):AUl F c i q i=fun x=>F c x + -q * F i x:=by
 unfold AUl;rw [Ac4,AB0]
theorem Aow (F:Z4) {c i:Nat} (h:c≠i) (q:Int):AUl F c i q c=F i:=by
 unfold AUl;rw [AWf,AE9 _ _ (Ne.symm h)]
theorem Ado (F:Z4) {c i k:Nat} (hc:k≠c) (hi:k≠i) (q:Int):AUl F c i q k=F k:=by
 unfold AUl;rw [AYi _ hc hi,AE9 _ _ hc]
theorem Alu {n:Nat} {F:Z4} {c i:Nat} {q:Int} (H:Zc n F c) (hci:c < i) (hi:i < n):Zc n (AUl F c i q) c:=by
 intro c' k h1 h2 h3;by_cases hk:k=i
 ·subst hk;rw [Ag2];simp [H c' c h1 h1 Zj,H c' k h1 h2 h3]
 ·by_cases Ad:k=c
  ·subst Ad;rw [Aow F hk];exact H c' i h1 Zj hi
  ·rw [Ado F Ad hk];exact H c' k h1 h2 h3
theorem Alw {F:Z4} {c i:Nat} {q:Int} (H:Zi F c i):Zi (AUl F c i q) c i:=by
 intro k h1 h2;rw [Ado F Zj Zj];exact H k h1 h2
theorem Ag3 {n:Nat} {P:(Z4)->Prop} (hadd:∀ F a b q,a < n->b < n->a≠b->P (ABz F a fun x=>F a x + q * F b x)->P F) (hswap:∀ F a b,a < n->b < n->a≠b->P (AEx F a b)->P F) (htri:∀ F,Zc n F n->P F):∀ F,P F:=by
  have key:∀ d c,c + d=n-> ∀ F,Zc n F c->P F:=by
    intro d;induction d with
    | zero=>
        intro c hc F hF;obtain rfl:c=n:=by omega
        exact htri F hF
    | succ d ih=>
      intro c hc
      have inner:∀ e i,i + e=n->c < i-> ∀ F,Zc n F c->Zi F c i->P F:=by
        intro e;induction e with
        | zero=>
            intro i hi hci F hF hz;obtain rfl:i=n:=by omega
            exact ih (c + 1) Zj F (Ant hF hz)
        | succ e ihe=>
          intro i hi hci
          have strong:∀ k F,(F i c).natAbs=k->Zc n F c->Zi F c i->P F:=by
            intro k;induction k using Nat.strongRecOn with
            | _ k ihk=>
              intro F hk hF hz
              by_cases h0:F i c=0
              · exact ihe (i + 1) Zj Zj F hF (Ans hz h0)
              · refine hadd F c i (-(F c c / F i c)) Zj Zj Zj (hswap _ c i Zj Zj Zj ?_);refine ihk ((AUl F c i (F c c / F i c)) i c).natAbs ?_ (AUl F c i (F c c / F i c)) rfl (Alu hF hci Zj) (Alw hz);rw [Ag2,<- hk];show (F c c + -(F c c / F i c) * F i c).natAbs < _;have h1:=Int.mul_ediv_add_emod (F c c) (F i c);have h2:F c c + -(F c c / F i c) * F i c=F c c % F i c:=by grind
                rw [h2];have h3:=Int.emod_nonneg (F c c) h0;have h4:=Int.emod_lt (F c c) h0;omega
          exact fun F=>strong _ F rfl
      exact fun F hF=>inner (n - (c + 1)) (c + 1) Zj Zj F hF fun k h1 h2=>by omega
  exact fun F=>key n 0 Zj F fun c' i h=>by omega
def ACj (n:Nat) (A B:Z4):Z4:=fun i j=>psum (fun k=>A i k * B k j) n
theorem Alx {n:Nat} {A B:Z4} {a b:Nat} {q:Int}:ACj n (ABz A a fun x=>A a x + q * A b x) B=ABz (ACj n A B) a fun x=>ACj n A B a x + q * ACj n A B b x:=by
 funext i j;unfold ACj ABz;by_cases h:i=a
 ·simp only [if_pos h];rw [<- AE3,<- ALa];exact AA2 fun k _=>by grind
 ·simp only [if_neg h]
theorem Adp {n:Nat} {A B:Z4} {a:Nat} {u:Nat->Int}:ACj n (ABz A a u) B=ABz (ACj n A B) a fun x=>psum (fun k=>u k * B k x) n:=by
 funext i j;unfold ACj ABz;by_cases h:i=a
 ·simp only [if_pos h]
 ·simp only [if_neg h]
theorem Aiw {n:Nat} {A B:Z4} {a b:Nat}:ACj n (AEx A a b) B=AEx (ACj n A B) a b:=by
 unfold AEx;rw [Adp,Adp];rfl
theorem ASg {n:Nat} (A B:Z4):det n (ACj n A B)=det n A * det n B:=by
 refine Ag3 (n:=n) (P:=fun A=>det n (ACj n A B)=det n A * det n B) (fun F a b q ha hb hab h=>?_) (fun F a b ha hb hab h=>?_) (fun F hF=>?_) A
 ·rw [Alx,ALb ha hb hab,ALb ha hb hab] at h;exact h
 ·rw [Aiw,APs ha hb hab,APs ha hb hab] at h;rw [Int.neg_mul] at h;omega
 ·rw [AT5 hF]
  have key:∀ j,j<=n->det n (fun i=>if i < j then ACj n F B i else B i)=AC9 (fun i=>F i i) j * det n B:=by
    intro j
    induction j with
    | zero=>intro _;simp [AC9]
    | succ j ih=>
      intro hj
      rw [AC9,Int.mul_assoc,Int.mul_comm (F j j),<- Int.mul_assoc,<- ih Zj,Int.mul_comm]
      rw [<- Als (F:=fun i=>if i < j then ACj n F B i else B i) (r:=j) Zj (F j)]
      refine ABx fun i q hi hq=>?_
      unfold ABz
      by_cases h:i=j
      · subst h
        simp only [if_pos (Nat.lt_succ_self i),if_pos]
        unfold ACj
        refine AA2 fun k hk=>?_
        by_cases hlt:k < i
        · rw [hF k i Zj hlt hi];simp
        · rw [if_neg hlt]
      · simp only [if_neg h]
        by_cases hlt:i < j
        · rw [if_pos hlt,if_pos Zj]
        · rw [if_neg hlt,if_neg Zj]
  rw [<- key n (Nat.le_refl _)];exact ABx fun i j hi hj=>by rw [if_pos hi]
def trF (F:Z4):Z4:=fun i j=>F j i
theorem AWq (n:Nat):det n dl=1:=by
 rw [AT5 (fun c' i h1 h2 h3=>by unfold dl;rw [if_neg Zj])]
 have:∀ k,AC9 (fun i=>dl i i) k=1:=by
   intro k
   induction k with
   | zero=>rfl
   | succ k ih=>rw [AC9,ih];simp [dl]
 exact this n
theorem Afo {n:Nat} {F:Z4} {i j:Nat} (hj:j < n):psum (fun k=>F i k * dl k j) n=F i j:=by
 rw [AJk hj (fun k hk=>by unfold dl;rw [if_neg hk];simp)];simp [dl]
theorem Afp {n:Nat} {F:Z4} {a:Nat} (y:Nat->Int) (ha:a < n):det n (trF (ABz F a fun x=>psum (fun k=>y k * F k x) n))=det n (trF F) * det n (trF (ABz dl a y)):=by
  rw [<- ASg];refine ABx fun i j hi hj=>?_;unfold ACj trF ABz
  by_cases h:j=a
  · simp only [if_pos h];exact AA2 fun k _=>by grind
  · simp only [if_neg h];rw [AJk hj (fun k hk=>by unfold dl;rw [if_neg (Ne.symm hk)];simp)];simp [dl]
theorem AOi {n:Nat} (F:Z4):det n (trF F)=det n F:=by
 refine Ag3 (n:=n) (P:=fun F=>det n (trF F)=det n F) (fun F a b q ha hb hab h=>?_) (fun F a b ha hb hab h=>?_) (fun F hF=>?_) F
 ·rw [ALb ha hb hab] at h;rw [<- h];have h1:=Afp (n:=n) (F:=F) (a:=a) (fun k=>dl k a + q * dl k b) ha
  have h2:det n (trF (ABz dl a fun k=>dl k a + q * dl k b))=1:=by
    rw [<- AWq n,<- ALb (F:=dl) hb ha (Ne.symm hab) q]
    refine ABx fun i j hi hj=>?_
    clear h1 h
    simp only [trF,AA4,dl]
    grind
  rw [h2,Int.mul_one] at h1;rw [<- h1];refine ABx fun i j hi hj=>?_;unfold trF ABz;by_cases hja:j=a
  ·simp only [if_pos hja];rw [AA2 (g:=fun k=>F k i * dl k a + q * (F k i * dl k b)) (fun k _=>by grind),ALa,AE3];rw [AJk (a:=a) ha (fun k hk=>by unfold dl;rw [if_neg hk];simp),AJk (a:=b) hb (fun k hk=>by unfold dl;rw [if_neg hk];simp)];simp [dl]
  ·simp only [if_neg hja]
 ·rw [APs ha hb hab] at h
  have h1:det n (trF (AEx F a b))=det n (trF F) * det n (AEx dl a b):=by
    rw [<- ASg]
    refine ABx fun i j hi hj=>?_
    unfold ACj trF
    have hsym:∀ k,AEx dl a b k j=if j=a then dl k b else if j=b then dl k a else dl k j:=by
      intro k
      simp only [ALm,dl]
      grind
    rw [AA2 (g:=fun k=>F k i * dl k (if j=a then b else if j=b then a else j)) (fun k _=>by rw [hsym];grind)]
    rw [AJk (a:=if j=a then b else if j=b then a else j) (by grind) (fun k hk=>by unfold dl;rw [if_neg hk];simp)]
    simp only [dl,if_pos,Int.mul_one]
    by_cases h3:j=a
    · subst h3;rw [AWf,if_pos rfl]
    · rw [if_neg h3]
      by_cases h4:j=b
      · subst h4;rw [Ac4,if_pos rfl]
      · rw [AYi _ h3 h4,if_neg h4]
  rw [APs ha hb hab,AWq] at h1;omega
 ·rw [AT5 hF,AWp (F:=trF F) (fun i j h1 h2=>hF i j Zj h1 h2)];rfl
def shF (k:Nat) (F:Z4):Z4:=fun i j=>F (k + i) (k + j)
theorem Aai {i k a:Nat} (h:i < k + 1):skp i (k + a)=k + 1 + a:=by unfold skp;rw [if_neg Zj];omega
theorem AWr:∀ {k m:Nat} {T:Z4},(∀ i j,k<=i->i < k + m->j < k->T i j=0)->det (k + m) T=det k T * det m (shF k T):=by
  intro k;induction k with
  | zero=>
    intro m T _;have e:shF 0 T=T:=by funext i j;simp [shF]
    rw [e,Nat.zero_add];simp [det]
  | succ k ih=>
    intro m T h;rw [show k + 1 + m=(k + m) + 1 by omega];simp only [det];rw [Alp (k:=k + 1) Zj (fun i h1 h2=>by rw [h i 0 h1 Zj Zj];simp)];rw [Int.mul_comm,<- AE3];refine AA2 fun i hi=>?_
    rw [ih (T:=AEc i T) (m:=m) (fun a b ha ha2 hb=>by
      obtain ⟨c,rfl⟩:∃ c,a=k + c:=⟨a - k,Zj⟩;unfold AEc;rw [Aai hi];exact h _ _ Zj Zj Zj)]
    have e:shF k (AEc i T)=shF (k + 1) T:=by
      funext a b;unfold shF AEc;rw [Aai hi,show k + b + 1=k + 1 + b by omega]
    rw [e];grind
theorem Abt {n:Nat} {F:Z4} (h:∀ i,i < n + 1->F i 0=0):det (n + 1) F=0:=by
 simp only [det];rw [AA2 (g:=fun _=>0) fun i hi=>by rw [h i hi];simp];exact AO5 _
theorem Adq {n:Nat} {F:Z4} {a b:Nat} (ha:a < n) (hb:b < n) (hab:a≠b) (h:∀ i,F i a=F i b):det n F=0:=by
 rw [<- AOi];exact AMd ha hb hab (by funext i;exact h i)
theorem Aox (F:Z4):det 2 F=F 0 0 * F 1 1 - F 1 0 * F 0 1:=by
 simp [det,psum,AEc,skp,sg];grind
def bro (k i r:Nat):Nat:=if r < k then r else i
def Mn (k:Nat) (A:Z4) (i j:Nat):Int:=det (k + 1) fun r c=>A (bro k i r) (bro k j c)
theorem AM1 (A:Z4) (i j:Nat):Mn 0 A i j=A i j:=by
 simp [Mn,det,psum,bro,sg]
theorem AI5 (k:Nat) (A:Z4):Mn k A k k=det (k + 1) A:=by
 refine ABx fun r c hr hc=>?_;have e:∀ r,r < k + 1->bro k k r=r:=fun r hr=>by unfold bro;split <;> omega
 rw [e r hr,e c hc]
theorem Aqf {k:Nat} (A:Z4) (i:Nat) {j:Nat} (hj:j < k):Mn k A i j=0:=by
 refine Adq (a:=j) (b:=k) Zj Zj Zj fun r=>?_;unfold bro;simp [hj]
def cof (k:Nat) (A:Z4) (i s:Nat):Int:=det (k + 1) (ABz (fun c r=>A (bro k i r) c) k (dl s))
theorem Abu {n:Nat} (f:Nat->Int) {q:Nat} (hq:q < n):psum (fun s=>f s * dl s q) n=f q:=by
 rw [AJk hq (fun i hi=>by unfold dl;rw [if_neg hi,Int.mul_zero])];simp [dl]
theorem Arn (k:Nat) (A:Z4) (i j:Nat):Mn k A i j=psum (fun s=>cof k A i s * A s j) k + det k A * A i j:=by
 have h1:Mn k A i j=det (k + 1) (ABz (fun c r=>A (bro k i r) c) k fun q=>psum (fun s=>A (bro k i s) j * dl s q) (k + 1)):=by
   unfold Mn
   rw [<- AOi]
   refine ABx fun c r hc hr=>?_
   rw [AA4,Abu _ hr]
   unfold trF
   split
   · subst_vars;simp [bro]
   · have:c < k:=by omega
     simp [bro,this]
 rw [h1,AY2 Zj]
 have hk:det (k + 1) (ABz (fun c r=>A (bro k i r) c) k (dl k))=det k A:=by
   rw [AWr (k:=k) (m:=1) (T:=ABz (fun c r=>A (bro k i r) c) k (dl k)) (fun a b h1 h2 h3=>by
     obtain rfl:a=k:=by omega
     rw [AA4,if_pos rfl];unfold dl;rw [if_neg Zj])]
   have e1:det k (ABz (fun c r=>A (bro k i r) c) k (dl k))=det k A:=by
     rw [<- AOi]
     refine ABx fun r c hr hc=>?_
     unfold trF
     rw [AA4,if_neg Zj]
     simp [bro,hr]
   have e2:det 1 (shF k (ABz (fun c r=>A (bro k i r) c) k (dl k)))=1:=by
     simp [det,psum,shF,sg,AA4,dl]
   rw [e1,e2,Int.mul_one]
 show psum (fun s=>A (bro k i s) j * det (k + 1) (ABz (fun c r=>A (bro k i r) c) k (dl s))) k + A (bro k i k) j * det (k + 1) (ABz (fun c r=>A (bro k i r) c) k (dl k))=_;rw [hk];congr 1
 ·refine AA2 fun s hs=>?_;show _=cof k A i s * A s j;unfold cof;rw [Int.mul_comm];simp [bro,hs]
 ·simp [bro,Int.mul_comm]
theorem Adr (f:Nat->Int) (k m:Nat):AC9 f (k + m)=AC9 f k * AC9 (fun i=>f (k + i)) m:=by
 induction m with
 | zero=>simp [AC9]
 | succ m ih=>rw [<- Nat.add_assoc];simp only [AC9];rw [ih];grind
theorem Aaj {f:Nat->Int}:∀ {n:Nat},(∀ i,i < n->f i=1)->AC9 f n=1
  | 0,_=>rfl
  | n + 1,h=>by rw [AC9,Aaj fun i hi=>h i Zj,h n Zj];rfl
theorem Ads {f:Nat->Int}:∀ {n:Nat},(∀ i,i < n->f i≠0)->AC9 f n≠0
  | 0,_=>by simp [AC9]
  | n + 1,h=>by rw [AC9];exact Int.mul_ne_zero (Ads fun i hi=>h i Zj) (h n Zj)
def ASu (k:Nat) (A:Z4) (ρ:Nat->Nat):Z4:=fun r s=>if r < k then dl r s else if s < k then cof k A (ρ r) s else if s=r then det k A else 0
theorem Adt {k n:Nat} {A B:Z4} {ρ γ:Nat->Nat} (hkn:k<=n) (hρ:∀ r,r < k->ρ r=r) (hB:∀ r c,B r c=A (ρ r) (γ c)) {r c:Nat} (hr:r < n):ACj n (ASu k A ρ) B r c=if r < k then B r c else Mn k A (ρ r) (γ c):=by
 unfold ACj;by_cases h:r < k
 ·rw [if_pos h,AJk hr (fun i hi=>by unfold ASu;rw [if_pos h];unfold dl;rw [if_neg (fun e=>hi e.symm),Int.zero_mul])];unfold ASu;rw [if_pos h];simp [dl]
 ·rw [if_neg h,Arn];obtain ⟨m,rfl⟩:∃ m,n=k + m:=⟨n - k,Zj⟩
  have hs:∀ t,psum (fun s=>ASu k A ρ r s * B s c) (k + t)=psum (fun s=>cof k A (ρ r) s * A s (γ c)) k + (if r < k + t then det k A * A (ρ r) (γ c) else 0):=by
    intro t
    induction t with
    | zero=>
      rw [if_neg Zj,Int.add_zero,Nat.add_zero]
      refine AA2 fun s hs=>?_
      unfold ASu
      rw [if_neg h,if_pos hs,hB,hρ s hs]
    | succ t ih=>
      show psum (fun s=>ASu k A ρ r s * B s c) (k + t) + ASu k A ρ r (k + t) * B (k + t) c=_
      rw [ih]
      have e:ASu k A ρ r (k + t)=if k + t=r then det k A else 0:=by unfold ASu;rw [if_neg h,if_neg Zj]
      rw [e,hB]
      rcases Nat.lt_trichotomy r (k + t) with h1 | h1 | h1
      · rw [if_pos h1,if_neg Zj,if_pos Zj];simp
      · subst h1;rw [if_neg Zj,if_pos rfl,if_pos Zj];omega
      · rw [if_neg Zj,if_neg Zj,if_neg Zj];simp
  rw [hs,if_pos hr]
theorem Adu {k m:Nat} {A:Z4} {ρ:Nat->Nat}:det (k + m) (ASu k A ρ)=AC9 (fun _=>det k A) m:=by
 rw [AWp (fun i j hij hj=>by
   unfold ASu
   split
   · unfold dl;rw [if_neg Zj]
   · rw [if_neg Zj,if_neg Zj]),Adr,Aaj,Int.one_mul]
 ·refine ATj fun i hi=>?_;unfold ASu;rw [if_neg Zj,if_neg Zj,if_pos rfl]
 ·intro i hi;unfold ASu;rw [if_pos hi];simp [dl]
theorem AT6 {k:Nat} {A:Z4} (h0:det k A≠0) (i j:Nat):Mn k A k k * Mn k A i j - Mn k A i k * Mn k A k j=det k A * Mn (k + 1) A i j:=by
  have h1:=ASg (n:=k + 2) (ASu k A (bro (k + 1) i)) fun r c=>A (bro (k + 1) i r) (bro (k + 1) j c)
  have hm:∀ r c,r < k + 2->ACj (k + 2) (ASu k A (bro (k + 1) i)) (fun r c=>A (bro (k + 1) i r) (bro (k + 1) j c)) r c=if r < k then A (bro (k + 1) i r) (bro (k + 1) j c) else Mn k A (bro (k + 1) i r) (bro (k + 1) j c):=fun r c hr=>
    Adt (k:=k) (n:=k + 2) (A:=A) (B:=fun r c=>A (bro (k + 1) i r) (bro (k + 1) j c)) (ρ:=bro (k + 1) i) (γ:=bro (k + 1) j) Zj (fun r hr=>by unfold bro;rw [if_pos Zj]) (fun r c=>rfl) hr
  rw [Adu,AWr (k:=k) (m:=2) (fun a b ha ha2 hb=>by
    rw [hm a b ha2,if_neg Zj,show bro (k + 1) j b=b by unfold bro;rw [if_pos Zj]];exact Aqf _ _ hb)] at h1
  have e1:det k (ACj (k + 2) (ASu k A (bro (k + 1) i)) fun r c=>A (bro (k + 1) i r) (bro (k + 1) j c))=det k A:=by
    refine ABx fun r c hr hc=>?_;rw [hm r c Zj,if_pos hr];simp only [bro];rw [if_pos Zj,if_pos Zj]
  have b0:∀ q,bro (k + 1) q (k + 0)=k:=fun q=>by unfold bro;rw [if_pos Zj];rfl
  have b1:∀ q,bro (k + 1) q (k + 1)=q:=fun q=>by unfold bro;rw [if_neg Zj]
  rw [e1,Aox] at h1;simp only [shF] at h1;rw [hm _ _ Zj,hm _ _ Zj,hm _ _ Zj,hm _ _ Zj,if_neg Zj,if_neg Zj,if_neg Zj,if_neg Zj,b0,b0,b1,b1] at h1;have e2:AC9 (fun _=>det k A) 2=det k A * det k A:=by simp [AC9]
  have e3:(det (k + 2) fun r c=>A (bro (k + 1) i r) (bro (k + 1) j c))=Mn (k + 1) A i j:=rfl;rw [e2,e3,Int.mul_assoc] at h1;exact Int.eq_of_mul_eq_mul_left h0 h1
theorem Adv {k n:Nat} {A:Z4} (h0:det k A≠0) (hk:k < n) (hz:∀ i,k<=i->i < n->Mn k A i k=0):det n A=0:=by
  obtain ⟨m,rfl⟩:∃ m,n=k + (m + 1):=⟨n - k - 1,Zj⟩;have h1:=ASg (n:=k + (m + 1)) (ASu k A id) A
  have hm:∀ r c,r < k + (m + 1)->ACj (k + (m + 1)) (ASu k A id) A r c=if r < k then A r c else Mn k A r c:=fun r c hr=>
    Adt (k:=k) (n:=k + (m + 1)) (A:=A) (B:=A) (ρ:=id) (γ:=id) Zj (fun r hr=>rfl) (fun r c=>rfl) hr
  rw [Adu,AWr (k:=k) (m:=m + 1) (fun a b ha ha2 hb=>by rw [hm a b ha2,if_neg Zj];exact Aqf _ _ hb),Abt (F:=shF k _) (fun i hi=>by
    unfold shF;rw [hm _ _ Zj,if_neg Zj];exact hz _ Zj Zj),Int.mul_zero] at h1
  rcases Int.mul_eq_zero.1 h1.symm with h2 | h2
  · exact absurd h2 (Ads fun i hi=>h0)
  · exact h2
def dBd (m:Nat):Nat->Nat
  | 0=>1
  | n + 1=>(n + 1) * m * dBd m n
theorem psum_abs {f:Nat->Int} {B:Nat}:∀ {n:Nat},(∀ i,i < n->(f i).natAbs<=B)->(psum f n).natAbs<=n * B
  | 0,_=>by simp [psum]
  | n + 1,h=>by
    have h1:=psum_abs (n:=n) fun i hi=>h i Zj
    have h2:=h n Zj
    have h3:=Int.natAbs_add_le (psum f n) (f n)
    show (psum f n + f n).natAbs<=_
    rw [Nat.add_mul,Nat.one_mul]
    omega
theorem AXv {m:Nat}:∀ {n:Nat} {F:Z4},(∀ i j,(F i j).natAbs<=m)->(det n F).natAbs<=dBd m n
  | 0,_,_=>by simp [det,dBd]
  | n + 1,F,h=>by
    have h1:=psum_abs (f:=fun i=>sg i * F i 0 * det n (AEc i F)) (B:=m * dBd m n) (n:=n + 1) fun i hi=>by
      have e:=AXv (n:=n) (F:=AEc i F) fun a b=>h _ _
      have es:(sg i).natAbs=1:=by unfold sg;split <;> rfl
      rw [Int.natAbs_mul,Int.natAbs_mul,es,Nat.one_mul]
      exact Nat.mul_le_mul (h i 0) e
    rw [dBd,Nat.mul_assoc]
    exact h1
theorem Aoy {k n p:Nat} {A:Z4} (hp:k < p) {i j:Nat} (hi:k<=i):Mn k (AEx A p k) i j=Mn k A (if i=k then p else if i=p then k else i) j:=by
 refine ABx fun r c hr hc=>?_;rw [ALm];unfold bro;by_cases h:r < k
 ·rw [if_pos h,if_pos h,if_neg Zj,if_neg Zj]
 ·rw [if_neg h,if_neg h];split
  ·rfl
  ·split <;> rfl
theorem Abv {k p:Nat} {A:Z4} (hp:k < p):det k (AEx A p k)=det k A:=by
 refine ABx fun r c hr hc=>?_;rw [ALm,if_neg Zj,if_neg Zj]
def sgB (neg:Bool):Int:=if neg then -1 else 1
def AWs (m:Nat) (A0:Z4) (n k:Nat) (F:Z4) (last:Int) (neg:Bool):Prop:=
  ∃ A:Z4,det n A=sgB neg * det n A0/\(∀ i j,k<=i->i < n->k<=j->j < n->F i j=Mn k A i j)/\last=det k A/\last≠0/\ ∀ i j,(A i j).natAbs<=m
theorem Afq {m n:Nat} {A0:Z4} (h:∀ i j,(A0 i j).natAbs<=m):AWs m A0 n 0 A0 1 false:=
  ⟨A0,by simp [sgB],fun i j _ _ _ _=>(AM1 A0 i j).symm,rfl,Zl,h⟩
theorem Aix {m n k p:Nat} {A0 F:Z4} {last:Int} {neg:Bool} (H:AWs m A0 n k F last neg) (hkp:k < p) (hp:p < n):AWs m A0 n k (AEx F p k) last (!neg):=by
 obtain ⟨A,h1,h2,h3,h4,h5⟩:=H;refine ⟨AEx A p k,?_,fun i j hi hin hj hjn=>?_,by rw [Abv hkp];exact h3,h4,fun i j=>?_⟩
 ·rw [APs hp Zj Zj,h1];cases neg <;> simp [sgB]
 ·rw [Aoy (n:=n) hkp hi,ALm];split
  ·rw [h2 p j Zj hp hj hjn]
  ·split
   ·rw [h2 k j Zj Zj hj hjn]
   ·rw [h2 i j hi hin hj hjn]
 ·rw [ALm];split
  ·exact h5 _ _
  ·split <;> exact h5 _ _
def bQ (k:Nat) (F:Z4) (last:Int) (r c:Nat):Int:=(F k k * F r c - F r k * F k c) / last
def bF (k:Nat) (F:Z4) (last:Int) (i j:Nat):Z4:=fun r c=>if k < r/\k < c/\(r < i∨r=i/\c < j) then bQ k F last r c else F r c
theorem Adw (k:Nat) (F:Z4) (last:Int):bF k F last (k + 1) (k + 1)=F:=by
 funext r c;unfold bF;rw [if_neg Zj]
theorem Alz (k n:Nat) (F:Z4) (last:Int) (i:Nat) {r c:Nat} (hc:c < n):bF k F last i n r c=bF k F last (i + 1) (k + 1) r c:=by
 unfold bF;by_cases h:k < r/\k < c/\(r < i∨r=i/\c < n)
 ·rw [if_pos h,if_pos Zj]
 ·rw [if_neg h,if_neg Zj]
theorem Al0 (k:Nat) (F:Z4) (last:Int) {i j:Nat} (hi:k < i) (hj:k < j):(ABz (bF k F last i j) i fun c=>if c=j then bQ k F last i j else bF k F last i j i c)=bF k F last i (j + 1):=by
 funext r c;rw [AA4];split
 ·subst_vars
  split
  ·subst_vars;unfold bF;rw [if_pos Zj]
  ·unfold bF;by_cases h:k < r/\k < c/\(r < r∨r=r/\c < j)
   ·rw [if_pos h,if_pos Zj]
   ·rw [if_neg h,if_neg Zj]
 ·unfold bF;by_cases h:k < r/\k < c/\(r < i∨r=i/\c < j)
  ·rw [if_pos h,if_pos Zj]
  ·rw [if_neg h,if_neg Zj]
theorem Ag4 (k:Nat) (F:Z4) (last:Int) (i j c:Nat):bF k F last i j k c=F k c:=by unfold bF;rw [if_neg Zj]
theorem Aqg (k:Nat) (F:Z4) (last:Int) (i j r:Nat):bF k F last i j r k=F r k:=by unfold bF;rw [if_neg Zj]
theorem Aqh (k:Nat) (F:Z4) (last:Int) (i j:Nat):bF k F last i j i j=F i j:=by unfold bF;rw [if_neg Zj]
theorem Aqi {m n k:Nat} {A0 F:Z4} {last:Int} {neg:Bool} (H:AWs m A0 n k F last neg) (hk:k < n):∃ A,(∀ i j,(A i j).natAbs<=m)/\det n A=sgB neg * det n A0/\F k k=det (k + 1) A/\ ∀ i j,k<=i->i < n->k<=j->j < n->F i j=Mn k A i j/\bQ k F last i j=Mn (k + 1) A i j:=by
 obtain ⟨A,h1,h2,h3,h4,h5⟩:=H;refine ⟨A,h5,h1,by rw [h2 k k Zj hk Zj hk,AI5],fun i j hi hin hj hjn=>⟨h2 i j hi hin hj hjn,?_⟩⟩;unfold bQ;rw [h2 k k Zj hk Zj hk,h2 i j hi hin hj hjn,h2 i k hi hin Zj hk,h2 k j Zj hk hj hjn,AT6 (by rw [<- h3];exact h4),<- h3,Int.mul_ediv_cancel_left _ h4]
theorem Aiy {m n k:Nat} {A0 F:Z4} {last:Int} {neg:Bool} (H:AWs m A0 n k F last neg) (hk:k < n) (h0:F k k≠0):AWs m A0 n (k + 1) (bF k F last n (k + 1)) (F k k) neg:=by
 obtain ⟨A,h5,h1,h6,h2⟩:=Aqi H hk;refine ⟨A,h1,fun i j hi hin hj hjn=>?_,h6,h0,h5⟩;unfold bF;rw [if_pos Zj];exact (h2 i j Zj hin Zj hjn).2
theorem Aiz {m n k:Nat} {A0 F:Z4} {last:Int} {neg:Bool} (H:AWs m A0 n k F last neg) (hk:k < n) (hz:∀ i,k<=i->i < n->F i k=0):det n A0=0:=by
 obtain ⟨A,h1,h2,h3,h4,h5⟩:=H;have h:=Adv (A:=A) (by rw [<- h3];exact h4) hk fun i hi hin=>by rw [<- h2 i k hi hin Zj hk];exact hz i hi hin
 rw [h1] at h;rcases Int.mul_eq_zero.1 h with h6 | h6
 ·cases neg <;> simp [sgB] at h6
 ·exact h6
theorem Al1 {m n:Nat} {A0 F:Z4} {last:Int} {neg:Bool} (H:AWs m A0 n n F last neg):det n A0=if neg then -last else last:=by
 obtain ⟨A,h1,h2,h3,h4,h5⟩:=H;rw [<- h3] at h1;rw [h1];cases neg
 ·simp [sgB]
 ·simp [sgB]
theorem Afr {m k:Nat} {A:Z4} (h:∀ i j,(A i j).natAbs<=m) (i j:Nat):(Mn k A i j).natAbs<=dBd m (k + 1):=AXv fun r c=>h _ _
theorem APt {m:Nat} (hm:1<=m) {a b:Nat} (h:a<=b):dBd m a<=dBd m b:=by
 induction h with
 | refl=>exact Nat.le_refl _
 | step h ih=>
   refine Nat.le_trans ih ?_
   rw [dBd]
   exact Nat.le_mul_of_pos_left _ (Nat.mul_pos Zj Zj)
theorem Al2 {m n k:Nat} {A0 F:Z4} {last:Int} {neg:Bool} (hm:1<=m) (H:AWs m A0 n k F last neg) (hk:k < n) {i j:Nat} (hi:k<=i) (hin:i < n) (hj:k<=j) (hjn:j < n):(F i j).natAbs<=dBd m n/\(bQ k F last i j).natAbs<=dBd m (n + 1):=by
  obtain ⟨A,h5,h1,h6,h2⟩:=Aqi H hk;obtain ⟨h7,h8⟩:=h2 i j hi hin hj hjn;rw [h7,h8];exact ⟨Nat.le_trans (Afr h5 _ _) (APt hm Zj),Nat.le_trans (Afr h5 _ _) (APt hm Zj)⟩
theorem Ai0 {m n k:Nat} {A0 F:Z4} {last:Int} {neg:Bool} (hm:1<=m) (H:AWs m A0 n k F last neg) (hk:k<=n):last≠0/\last.natAbs<=dBd m n:=by
 obtain ⟨A,h1,h2,h3,h4,h5⟩:=H;exact ⟨h4,by rw [h3];exact Nat.le_trans (AXv h5) (APt hm hk)⟩
end Go.QF
namespace Go.Proofs.YtdkldlbgcfpglaaGreatDoor
open Go Go.QF
theorem Aoz {α:Type} {i n:Nat} {a b c:α} (h:i < n):(List.replicate i a ++ List.replicate (n - i) b).set i c=List.replicate i a ++ (c :: List.replicate (n - i - 1) b):=by
 rw [List.set_append_right _ _ AAx,List.length_replicate,Nat.sub_self,show n - i=(n - i - 1) + 1 by omega,List.replicate_succ];rfl
theorem AXw {fuel n m:Nat} (hn:n<=100000000) (hm:m<=100000000) (hf:n < fuel):AC0 fuel n m=some (List.replicate n (List.replicate m 0)):=by
 apply ok_eq;unfold AC0;refine ABs Zj (Zu (ABd (fun i s=>s=((i:Int),List.replicate i (List.replicate m 0) ++ List.replicate (n - i) [])) n (Q:=(· =List.replicate n (List.replicate m 0))) AAx hf fun i s hi hI=>?_) fun x hx=>Zq hx);subst hI;unfold AJe;dsimp only;rw [List.length_replicate,Int.toNat_natCast];refine AAw (fun h=>ABs Zj (AAv (n:=i) (x:=[]) ?_ rfl (Zq ⟨Zj,?_⟩))) (fun h=>Zq ?_)
 ·rw [List.getElem?_append_right AAx,List.length_replicate,Nat.sub_self,List.getElem?_replicate,if_pos Zj]
 ·rw [wk Zj,AB4,Int.toNat_natCast,Aoz Zj];congr 1;rw [show n - (i + 1)=n - i - 1 by omega,List.replicate_succ'];simp
 ·obtain rfl:i=n:=by omega
  simp
theorem Abw {α:Type} {A:List (List α)} {i:Nat} {row:List α} (hi:i < A.length):(A.take i ++ row :: List.replicate (A.length - i - 1) []).set i=fun r=>A.take i ++ r :: List.replicate (A.length - i - 1) []:=by
 funext r;rw [List.set_append_right _ _ (by simp;omega),List.length_take,Nat.min_eq_left Zj,Nat.sub_self];rfl
theorem Ag5 {fuel:Nat} {A:List (List Int)} (hn:A.length<=100000000) (hm:∀ z∈A,z.length<=100000000/\z.length < fuel) (hf:A.length < fuel):AE0 fuel A=some A:=by
 apply ok_eq;unfold AE0;refine ABs Zj (Zu (ABd (fun i s=>s=((i:Int),A.take i ++ List.replicate (A.length - i) [])) A.length (Q:=(· =A)) AAx hf fun i s hi hI=>?_) fun x hx=>Zq hx);subst hI;unfold AJg;dsimp only;refine AAw (fun h=>?_) (fun h=>Zq ?_)
 ·have hi':i < A.length:=by omega
  obtain ⟨row,hrow⟩:∃ row,A[i]? =some row:=⟨A[i],List.getElem?_eq_getElem hi'⟩;have hr:=hm row (List.mem_of_getElem? hrow);refine AAv hrow rfl (Zu (ABd (fun j s=>s=((j:Int),A.take i ++ row.take j :: List.replicate (A.length - i - 1) [])) row.length (Q:=(· =A.take i ++ row :: List.replicate (A.length - i - 1) [])) ?_ hr.2 fun j s hj hJ=>?_) fun x hx=>Zq ⟨hi',?_⟩)
  ·rw [show A.length - i=(A.length - i - 1) + 1 by omega,List.replicate_succ];simp
  ·subst hJ;unfold AJf;dsimp only;refine AAw (fun h2=>?_) (fun h2=>Zq ?_)
   ·obtain ⟨x,hx⟩:∃ x,row[j]? =some x:=⟨row[j]'Zj,List.getElem?_eq_getElem _⟩;refine AAv hx rfl (AAv (n:=i) (x:=row.take j) ?_ rfl (Zu (Q:=(· =x)) ⟨x,rfl,rfl⟩ fun y hy=>ABs ?_ (Zq ⟨Zj,?_⟩)))
    ·rw [List.getElem?_append_right (by simp;omega),List.length_take,Nat.min_eq_left Zj,Nat.sub_self];rfl
    ·rw [List.length_take];omega
    ·subst hy;rw [wk Zj,AB4,Abw hi',List.take_add_one,hx];rfl
   ·obtain rfl:j=row.length:=by omega
    rw [List.take_length]
  ·subst hx;rw [wk Zj,List.take_add_one,hrow,show A.length - (i + 1)=A.length - i - 1 by omega];simp
 ·obtain rfl:i=A.length:=by omega
  simp
def okM (A:List (List Int)):Bool:=decide (1<=A.length/\A.length<=16/\ ∀ z∈A,1<=z.length/\z.length<=16/\z.length=APf A)
theorem Ai1 {A:List (List Int)} {z:List Int} (h:A[0]? =some z):APf A=z.length:=by unfold APf;rw [h];rfl
theorem Ady {fuel:Nat} {A:List (List Int)} (hr:∀ z∈A,∀ x∈z,-9223372036854775808<=x/\x<=9223372036854775807) (hf:17 < fuel):ACe fuel A=some (if okM A then (A,true) else ([],false)):=by
 apply ok_eq;unfold ACe
 have key:∀ R:List (List Int) × Bool->Prop,(okM A=false->R ([],false))->(okM A=true->R (A,true))->Ok (ACe fuel A) R:=by
   intro R hF hT
   unfold ACe
   refine Zu (Q:=fun ex=>match ex with | .inl e=>e=([],false)/\okM A=false | .inr _=>1<=A.length/\A.length<=16) (AAw (fun h=>Zq ⟨rfl,by unfold okM;rw [decide_eq_false_iff_not];omega⟩) fun h=>AAw (fun h2=>Zq ⟨rfl,by unfold okM;rw [decide_eq_false_iff_not];omega⟩) fun h2=>Zq ⟨Zj,Zj⟩) fun ex hex=>?_
   cases ex with
   | inl e=>obtain ⟨rfl,h⟩:=hex;exact Zq (hF h)
   | inr u=>
     dsimp only at hex ⊢
     obtain ⟨z0,Ab⟩:∃ z,A[0]? =some z:=⟨A[0]'Zj,List.getElem?_eq_getElem _⟩
     have hc:=Ai1 Ab
     refine Zu (ABd (fun i (s:Int)=>s=(i:Int)/\ ∀ z∈A.take i,1<=z.length/\z.length<=16/\z.length=APf A) A.length (Q:=fun ex=>match ex with | .inl e=>e=([],false)/\okM A=false | .inr _=>okM A=true) ⟨rfl,AAx⟩ Zj fun i s hi hI=>?_) fun ex Ac=>?_
     · obtain ⟨rfl,hI⟩:=hI
       unfold AG3
       refine AAw (fun h=>?_) (fun h=>Zq ?_)
       · have hi':i < A.length:=by omega
         obtain ⟨row,hrow⟩:∃ row,A[i]? =some row:=⟨A[i],List.getElem?_eq_getElem hi'⟩
         have bad: ¬ (1<=row.length/\row.length<=16/\row.length=APf A)->okM A=false:=fun hb=>by
           unfold okM;rw [decide_eq_false_iff_not];exact fun h=>hb (h.2.2 row (List.mem_of_getElem? hrow))
         refine AAv hrow rfl (AAw (fun h1=>Zq ⟨rfl,bad Zj⟩) fun h1=>AAw (fun h2=>Zq ⟨rfl,bad Zj⟩) fun h2=>AAv Ab rfl (AAw (fun h3=>Zq ⟨rfl,bad Zj⟩) fun h3=>Zq ⟨hi',wk Zj,?_⟩))
         rw [List.take_add_one,hrow]
         intro z hz
         rcases List.mem_append.1 hz with hz | hz
         · exact hI z hz
         · rw [show z=row by simpa using hz];omega
       · obtain rfl:i=A.length:=by omega
         rw [List.take_length] at hI
         unfold okM;rw [decide_eq_true_eq];exact ⟨hex.1,hex.2,hI⟩
     · cases ex with
       | inl e=>obtain ⟨rfl,h⟩:=Ac;exact Zq (hF h)
       | inr u=>
         dsimp only at Ac ⊢
         have hv:=Ac
         unfold okM at hv;rw [decide_eq_true_eq] at hv
         have hcA:∀ z∈A,z.length=APf A:=fun z hz=>(hv.2.2 z hz).2.2
         have Ag:1<=APf A/\APf A<=16:=by have:=hv.2.2 z0 (List.mem_of_getElem? Ab);omega
         refine AAv Ab rfl (Zu (ABh (AXw Zj Zj Zj)) fun O hO=>?_)
         subst hO
         rw [<- hc]
         refine Zu (ABd (fun i s=>s=((i:Int),A.take i ++ List.replicate (A.length - i) (List.replicate (APf A) 0))) A.length (Q:=(· =A)) AAx Zj fun i s hi hI=>?_) fun x hx=>Zq (hx ▸ hT Ac)
         subst hI
         unfold AG2
         dsimp only
         refine AAw (fun h=>?_) (fun h=>Zq ?_)
         · have hi':i < A.length:=by omega
           obtain ⟨row,hrow⟩:∃ row,A[i]? =some row:=⟨A[i],List.getElem?_eq_getElem hi'⟩
           have hrl:=hcA row (List.mem_of_getElem? hrow)
           refine AAv hrow rfl (Zu (ABd (fun j s=>s=((j:Int),A.take i ++ (row.take j ++ List.replicate (APf A - j) 0) :: List.replicate (A.length - i - 1) (List.replicate (APf A) 0))) row.length (Q:=(· =A.take i ++ row :: List.replicate (A.length - i - 1) (List.replicate (APf A) 0))) ?_ Zj fun j s hj hJ=>?_) fun x hx=>Zq ⟨hi',?_⟩)
           · rw [show A.length - i=(A.length - i - 1) + 1 by omega,List.replicate_succ];simp
           · subst hJ
             unfold AG1
             dsimp only
             refine AAw (fun h2=>?_) (fun h2=>Zq ?_)
             · obtain ⟨x,hx⟩:∃ x,row[j]? =some x:=⟨row[j]'Zj,List.getElem?_eq_getElem _⟩
               have hxr:=hr row (List.mem_of_getElem? hrow) x (List.mem_of_getElem? hx)
               refine AAv (n:=i) (x:=row.take j ++ List.replicate (APf A - j) 0) ?_ rfl (AAv hrow rfl (AAv hx rfl (Zu (Q:=(· =x)) ⟨x,if_pos hxr,rfl⟩ fun y hy=>AAv (n:=j) (x:=0) ?_ rfl (Zq ⟨Zj,?_⟩))))
               · rw [List.getElem?_append_right (by simp;omega),List.length_take,Nat.min_eq_left Zj,Nat.sub_self];rfl
               · rw [List.getElem?_append_right (by simp;omega),List.length_take,Nat.min_eq_left Zj,Nat.sub_self,List.getElem?_replicate,if_pos Zj]
               · subst hy
                 rw [wk Zj,AB4,AB4]
                 congr 1
                 rw [List.set_append_right _ _ (by simp;omega),List.length_take,Nat.min_eq_left Zj,Nat.sub_self,List.set_cons_zero]
                 congr 2
                 rw [List.set_append_right _ _ (by simp;omega),List.length_take,Nat.min_eq_left Zj,Nat.sub_self,show APf A - j=(APf A - (j + 1)) + 1 by omega,List.replicate_succ,List.set_cons_zero,List.take_add_one,hx]
                 simp
             · obtain rfl:j=row.length:=by omega
               rw [List.take_length,show APf A - row.length=0 by omega];simp
           · subst hx
             rw [wk Zj,List.take_add_one,hrow,show A.length - (i + 1)=A.length - i - 1 by omega]
             simp
         · obtain rfl:i=A.length:=by omega
           simp
 have:=key (fun r=>r=if okM A then (A,true) else ([],false)) (fun h=>by rw [h];rfl) (fun h=>by rw [h];rfl);unfold ACe at this;exact this
theorem Atr {fuel:Nat} {A:List (List Int)} (hr:∀ z∈A,∀ x∈z,-9223372036854775808<=x/\x<=9223372036854775807) (hf:17 < fuel):ADx fuel A=some (if okM A then A else []):=by
 unfold ADx;rw [Ady hr hf];cases okM A <;> rfl
theorem Adz {z:Int}:AE7 z=0↔z=0:=by
 unfold AE7;split
 ·omega
 ·split <;> omega
theorem AY3 {r c i j:Nat} {F:Z4} {x:Int}:sI (tab r c F) (i:Int) (sI (ACl c (F i)) (j:Int) x)=tab r c (ABz F i fun q=>if q=j then x else F i q):=by
 rw [AB4,AB4,AEm];exact Aln
theorem AXb {a b D:Nat} (hG:2 * (D * D) < ADz) (ha:a<=D) (hb:b<=D):a * b < ADz:=by
 have:=Nat.mul_le_mul ha hb;omega
theorem Ao0 {a D:Nat} (hG:2 * (D * D) < ADz) (ha:a<=D):a < ADz:=by
 rcases Nat.eq_zero_or_pos D with h | h
 ·subst h;have:0 < ADz:=by decide
  omega
 ·have h2:=Nat.mul_le_mul h (Nat.le_refl D);omega
theorem AWt {fuel D:Nat} {a b:Int} (hG:2 * (D * D) < ADz) (ha:a.natAbs<=D) (hb:b.natAbs<=D):AQg fuel a b=some (a * b):=if_pos (AXb hG ha hb)
theorem Aak {D:Nat} {a b:Int} (hG:2 * (D * D) < ADz) (ha:a.natAbs<=D) (hb:b.natAbs<=D):(a * b).natAbs < ADz:=by rw [Int.natAbs_mul];exact AXb hG ha hb
theorem Al3 {D:Nat} {a b c d:Int} (hG:2 * (D * D) < ADz) (ha:a.natAbs<=D) (hb:b.natAbs<=D) (hc:c.natAbs<=D) (hd:d.natAbs<=D):(a * b - c * d).natAbs < ADz:=by
 have h1:=Nat.mul_le_mul ha hb;have h2:=Nat.mul_le_mul hc hd;rw [<- Int.natAbs_mul] at h1 h2;omega
theorem Ao1 {fuel n M N:Nat} {F:Z4} (hM:1<=M) (hG:2 * (dBd M (N + 1) * dBd M (N + 1)) < ADz) (hnN:n<=N) (hn:n<=16) (hb:∀ i j,(F i j).natAbs<=M) (hf:17 < fuel):ABo fuel (tab n n F)=some (det n F):=by
 apply ok_eq;unfold ABo;refine Zu (ABh (Ag5 (by rw [AA9];omega) (fun z hz=>by rw [AVb z hz];omega) (by rw [AA9];omega))) fun A hA=>?_;subst hA;refine Zu (Q:=(· =1)) ⟨1,if_pos Zj,rfl⟩ fun one h1=>?_;subst h1;have hD:dBd M n<=dBd M (N + 1):=APt hM Zj;have Ap:dBd M (n + 1)<=dBd M (N + 1):=APt hM Zj;refine Zu (ABd (fun k s=> ∃ G last neg,s=(neg,((k:Int),tab n n G,last))/\AWs M F n k G last neg) n (Q:=fun ex=>match ex with | .inl e=>e=det n F | .inr (neg,last)=>det n F=if neg then -last else last) ⟨F,1,false,rfl,Afq hb⟩ Zj fun k s hk hI=>?_) fun ex hex=>?_
 ·obtain ⟨G,last,neg,rfl,hB⟩:=hI;unfold AF2;dsimp only;rw [AA9];refine AAw (fun h=>?_) (fun h=>Zq ?_)
  ·have hk':k < n:=by omega
   refine Zu (Q:=fun ex=>match ex with | .inl e=>e=det n F | .inr (neg',a',last')=> ∃ G',a'=tab n n G'/\AWs M F n (k + 1) G' last' neg') ?_ fun ex hex=>?_
   ·refine Zu (Q:=fun (e:Int)=> ∃ p:Nat,e=p/\k<=p/\p<=n/\(∀ i,k<=i->i < p->G i k=0)/\(p < n->G p k≠0)) (Zu (ABd (fun j (s:Int)=>s=((k + j:Nat):Int)/\k + j<=n/\ ∀ i,k<=i->i < k + j->G i k=0) (n - k) (Q:=fun (e:Int)=> ∃ p:Nat,e=p/\k<=p/\p<=n/\(∀ i,k<=i->i < p->G i k=0)/\(p < n->G p k≠0)) ⟨rfl,Zj,fun i h1 h2=>by omega⟩ Zj fun j s hj hJ=>?_) fun e he=>Zq he) fun e he=>?_
    ·obtain ⟨rfl,hjn,hz⟩:=hJ;unfold AFz;rw [AA9];refine Zu (Q:=fun ex=>match ex with | .inl _=>k + j < n/\G (k + j) k=0 | .inr _=>k + j < n->G (k + j) k≠0) (AAw (fun h2=>AAv (ABl Zj) rfl (AAv (AA0 Zj) rfl (Zu (ABh (a:=AE7 (G (k + j) k)) rfl) fun sg hsg=>AAw (fun h3=>Zq ⟨Zj,?_⟩) fun h3=>Zq fun _=>?_))) fun h2=>Zq fun h3=>by omega) fun ex hex=>?_
     ·subst hsg;exact Adz.1 h3
     ·subst hsg;exact fun h4=>h3 (Adz.2 h4)
     ·cases ex with
      | inl u=>exact Zq ⟨Zj,by rw [wk Zj];omega,Zj,fun i h1 h2=>by
          rcases Nat.lt_or_ge i (k + j) with h3 | h3
          · exact hz i h1 h3
          · obtain rfl:i=k + j:=by omega
            exact hex.2⟩
      | inr u=>exact Zq ⟨k + j,rfl,Zj,hjn,hz,hex⟩
    ·obtain ⟨p,rfl,hkp,hpn,hz,hp⟩:=he;refine AAw (fun h2=>Zq ?_) (fun h2=>?_)
     ·obtain rfl:p=n:=by omega
      exact (Aiz hB hk' hz).symm
     ·have hp':p < n:=by omega
      refine Zu (Q:=fun (r:Bool × List (List Int))=> ∃ G',r.2=tab n n G'/\AWs M F n k G' last r.1/\G' k k≠0) (AAw (fun h3=>AAv (ABl Zj) rfl (AAv (ABl Zj) rfl (Zq ⟨AEx G p k,?_,Aix hB Zj hp',?_⟩))) fun h3=>Zq ⟨G,rfl,hB,?_⟩) fun r hr=>?_
      ·dsimp only;rw [AB4,AB4];show ((tab n n G).set p (ACl n (G k))).set k (ACl n (G p))=_;rw [show ACl n (G k)=(List.range n).map (G k) from rfl,show ACl n (G p)=(List.range n).map (G p) from rfl,AK5,AK5];rfl
      ·rw [ALm,if_pos rfl];exact hp hp'
      ·obtain rfl:p=k:=by omega
       exact hp hp'
      ·obtain ⟨Aq,a2⟩:=r;obtain ⟨G2,Ag,Af,hne⟩:=hr;dsimp only at Ag Af ⊢;subst Ag;have hlast:=Ai0 hM Af Zj;have habs:∀ i j,k<=i->i < n->k<=j->j < n->(G2 i j).natAbs<=dBd M (N + 1):=fun i j h1 h2 h3 h4=>Nat.le_trans (Al2 hM Af hk' h1 h2 h3 h4).1 hD;have hl':last.natAbs<=dBd M (N + 1):=Nat.le_trans hlast.2 hD;rw [wk Zj];refine Zu (ABd (fun i s=>s=(((k + 1 + i:Nat):Int),tab n n (bF k G2 last (k + 1 + i) (k + 1)))/\k + 1 + i<=n) (n - (k + 1)) (Q:=(· =tab n n (bF k G2 last n (k + 1)))) ⟨by rw [Nat.add_zero,Adw];simp,Zj⟩ Zj fun i s hi hI=>?_) fun a3 Ah=>?_
       ·obtain ⟨rfl,hin⟩:=hI;unfold AF1;dsimp only;rw [AA9];obtain ⟨q,hq⟩:∃ q,k + 1 + i=q:=⟨_,rfl⟩;rw [hq] at hin ⊢;refine AAw (fun h3=>?_) (fun h3=>Zq ?_)
        ·have hqn:q < n:=by omega
         rw [wk Zj];refine Zu (ABd (fun j s=>s=(((k + 1 + j:Nat):Int),tab n n (bF k G2 last q (k + 1 + j)))/\k + 1 + j<=n) (n - (k + 1)) (Q:=(· =tab n n (bF k G2 last q n))) ⟨AAx,Zj⟩ Zj fun j s hj hJ=>?_) fun a4 Ai=>Zq ?_
         ·obtain ⟨rfl,hjn⟩:=hJ;unfold AF0;dsimp only;rw [AA9];obtain ⟨c,hc⟩:∃ c,k + 1 + j=c:=⟨_,rfl⟩;rw [hc] at hjn ⊢;refine AAw (fun h4=>?_) (fun h4=>Zq ?_)
          ·have hcn:c < n:=by omega
           refine AAv (ABl hqn) rfl (AAv (ABl hk') rfl (AAv (AA0 hk') rfl (AAv (AA0 hcn) rfl ?_)));rw [Ag4,Aqh];refine Zu (ABh (AWt hG (habs _ _ Zj Zj Zj Zj) (habs _ _ Zj Zj Zj Zj))) fun x1 Aj=>AAv (AA0 hk') rfl (AAv (AA0 hcn) rfl ?_);subst Aj;rw [Aqg,Ag4];refine Zu (ABh (AWt hG (habs _ _ Zj Zj Zj Zj) (habs _ _ Zj Zj Zj Zj))) fun x2 Ak=>?_;subst Ak;refine Zu (Q:=(· =G2 k k * G2 q c - G2 q k * G2 k c)) ⟨_,if_pos ⟨Aak hG (habs _ _ Zj Zj Zj Zj) (habs _ _ Zj Zj Zj Zj),Aak hG (habs _ _ Zj Zj Zj Zj) (habs _ _ Zj Zj Zj Zj)⟩,rfl⟩ fun x3 Am=>?_
           ·subst Am;refine Zu (Q:=(· =bQ k G2 last q c)) ?_ fun x4 Ao=>Zq ⟨Zj,?_,Zj⟩
            ·unfold ACs AVm;rw [if_pos ⟨Al3 hG (habs _ _ Zj Zj Zj Zj) (habs _ _ Zj Zj Zj Zj) (habs _ _ Zj Zj Zj Zj) (habs _ _ Zj Zj Zj Zj),Ao0 hG hl',hlast.1⟩];exact ⟨_,rfl,rfl⟩
            ·subst Ao;rw [wk Zj,AY3,Al0 k G2 last Zj Zj];congr 1
             ·omega
             ·rw [<- Nat.add_assoc,hc]
          ·obtain rfl:c=n:=by omega
           rfl
         ·subst Ai;refine ⟨Zj,?_,Zj⟩;rw [wk Zj];congr 1
          ·omega
          ·refine AL8 fun r c hr hc=>?_;rw [Alz k n G2 last q hc,<- Nat.add_assoc,hq]
        ·obtain rfl:q=n:=by omega
         rfl
       ·subst Ah;refine AAv (ABl hk') rfl (AAv (AA0 hk') rfl (Zq ⟨_,rfl,?_⟩));rw [Ag4];exact Aiy Af hk' hne
   ·match ex,hex with
    | .inl e,hex=>exact Zq hex
    | .inr (neg',a',last'),hex=>
      obtain ⟨G',rfl,hB'⟩:=hex
      exact Zq ⟨hk',G',last',neg',by rw [wk Zj];rfl,hB'⟩
  ·obtain rfl:k=n:=by omega
   exact Al1 hB
 ·match ex,hex with
  | .inl e,hex=>exact Zq hex
  | .inr (neg,last),hex=>
    dsimp only at hex ⊢
    rw [hex]
    refine AAw (fun h=>Zu (ABh (a:= -last) rfl) fun x hx=>Zq ?_) (fun h=>Zq ?_)
    · rw [hx,h];rfl
    · rw [if_neg h]
def AF3:Nat:=2 ^ 100
theorem Ag6:2 * (dBd AF3 (8 + 1) * dBd AF3 (8 + 1)) < ADz:=by decide
theorem AVn {fuel n:Nat} {F:Z4} (hn:n<=8) (hb:∀ i j,i < n->j < n->(F i j).natAbs<=AF3) (hf:17 < fuel):ABo fuel (tab n n F)=some (det n F):=by
 have e1:tab n n F=tab n n fun i j=>if i < n/\j < n then F i j else 0:=by
   rw [AN2,AN2]
   exact ABi fun i hi=>ABi fun j hj=>by rw [if_pos ⟨hi,hj⟩]
 have e2:det n F=det n fun i j=>if i < n/\j < n then F i j else 0:=ABx fun i j hi hj=>by rw [if_pos ⟨hi,hj⟩]
 rw [e1,e2];refine Ao1 Zl Ag6 hn Zj (fun i j=>?_) hf;split
 ·next h=>exact hb i j h.1 h.2
 ·exact Nat.zero_le _
theorem Ao2:FdT Tryz.prog 24 0 0 5:=⟨_,_,Tryz.underlying24,rfl,rfl,rfl⟩
theorem Ao3:FdT Tryz.prog 24 1 1 5:=⟨_,_,Tryz.underlying24,rfl,rfl,rfl⟩
theorem Ao4:FdT Tryz.prog 24 2 2 22:=⟨_,_,Tryz.underlying24,rfl,rfl,rfl⟩
theorem Al4:AgT Tryz.prog 24 4:=AUr Tryz.underlying24 rfl Zw
end Go.Proofs.YtdkldlbgcfpglaaGreatDoor
namespace Go.Proofs.YtdkldlbgcfpglaaGreatDoor
open Go Go.QF
set_option maxRecDepth 100000
set_option maxHeartbeats 4000000
def AD5 (fuel:Nat) (a1:Int) (a5:LiA) (Ac Aa Ad:Int) (Ae:LiI):Option ((Int × Int × LiI) ⊕ ((Int × LiI))):=
  (if Aa < ((List.replicate (Int.toNat (w64 (1 + (Int.tmod (w64 a1) Ac)))) ([]:List Int)).length:Int) then (if 0<=(w64 (1 + (Int.tmod (w64 a1) Ac)))/\(w64 (1 + (Int.tmod (w64 a1) Ac)))<=100000000 then ((gI Ae Aa).bind fun Ao=>((gI (sI Ae Aa (List.replicate (Int.toNat (w64 (1 + (Int.tmod (w64 a1) Ac)))) (0:Int))) Aa).bind fun Ag=>(((((if (a5.length:Int)<=Ad then (some ( (0,Ad))) else ((gI a5 (w64 ((w64 (Ad + 1)) - 1))).bind fun Ah=>(some ( ((w64 Ah),(w64 (Ad + 1))))))):Option (Int × Int)).bind fun (Ai,Aj)=>(some ( ((Int.tmod (w64 (IntKind.wrap .u8 Ai)) 6),Aj)))):Option (Int × Int)).bind fun (Ak,Am)=>((gI Ag Aa).bind fun Ap=>(some (Sum.inl ((w64 (Aa + 1)),Am,(sI (sI Ae Aa (List.replicate (Int.toNat (w64 (1 + (Int.tmod (w64 a1) Ac)))) (0:Int))) Aa (sI Ag Aa (w64 (1 + Ak))))))))))) else none) else (some (Sum.inr<| (Ad,Ae))))
def AF4 (fuel:Nat) (a5:LiA) (Ab Aa Ac:Int) (Ad:LiI):Option ((Int × Int × LiI) ⊕ ((Int × LiI))):=
  (if Aa < Ab then ((gI Ad Ab).bind fun Ae=>(((if (a5.length:Int)<=Ac then (some ( (0,Ac))) else ((gI a5 (w64 ((w64 (Ac + 1)) - 1))).bind fun Ai=>(some ( ((w64 Ai),(w64 (Ac + 1))))))):Option (Int × Int)).bind fun (Af,Aj)=>((gI Ae Aa).bind fun Ao=>((gI (sI Ad Ab (sI Ae Aa (Int.tmod Af 3))) Aa).bind fun Ah=>((gI (sI Ad Ab (sI Ae Aa (Int.tmod Af 3))) Ab).bind fun Ak=>((gI Ak Aa).bind fun Am=>((gI Ah Ab).bind fun Ap=>(some (Sum.inl ((w64 (Aa + 1)),Aj,(sI (sI Ad Ab (sI Ae Aa (Int.tmod Af 3))) Aa (sI Ah Ab Am)))))))))))) else (some (Sum.inr<| (Ac,Ad))))
def AD6 (fuel:Nat) (a5:LiA) (Ae:LiI) (Aa Ab:Int) (Ac:LiI):Option ((Int × Int × LiI) ⊕ ((Int × LiI))):=
  (if Aa < (Ae.length:Int) then ((iter (fun s=>AF4 fuel a5 Aa s.1 s.2.1 s.2.2) fuel (0,Ab,Ac)).bind (fun ((Af,Ag):Int × LiI)=>(some (Sum.inl ((w64 (Aa + 1)),Af,Ag))))) else (some (Sum.inr<| (Ab,Ac))))
def ADr (fuel:Nat) (a1:Int) (a5:LiA) (Ac Aa Ad:Int) (Ae:LiI):Option ((Int × Int × LiI) ⊕ ((Int × LiI))):=
  (if Aa < ((List.replicate (Int.toNat (w64 (1 + (Int.tmod (w64 a1) Ac)))) ([]:List Int)).length:Int) then (if 0<=(w64 (1 + (Int.tmod (w64 a1) Ac)))/\(w64 (1 + (Int.tmod (w64 a1) Ac)))<=100000000 then ((gI Ae Aa).bind fun Ao=>((gI (sI Ae Aa (List.replicate (Int.toNat (w64 (1 + (Int.tmod (w64 a1) Ac)))) (0:Int))) Aa).bind fun Ag=>(((((if (a5.length:Int)<=Ad then (some ( (0,Ad))) else ((gI a5 (w64 ((w64 (Ad + 1)) - 1))).bind fun Ah=>(some ( ((w64 Ah),(w64 (Ad + 1))))))):Option (Int × Int)).bind fun (Ai,Aj)=>(some ( ((Int.tmod (w64 (IntKind.wrap .u8 Ai)) 9),Aj)))):Option (Int × Int)).bind fun (Ak,Am)=>((gI Ag Aa).bind fun Ap=>(some (Sum.inl ((w64 (Aa + 1)),Am,(sI (sI Ae Aa (List.replicate (Int.toNat (w64 (1 + (Int.tmod (w64 a1) Ac)))) (0:Int))) Aa (sI Ag Aa (w64 (1 + Ak))))))))))) else none) else (some (Sum.inr<| (Ad,Ae))))
def ADs (fuel:Nat) (a1:Int) (a5:LiA) (Ac Aa Ad:Int) (Ae:LiI):Option ((Int × Int × LiI) ⊕ ((Int × LiI))):=
  (if Aa < ((List.replicate (Int.toNat (w64 (1 + (Int.tmod (w64 a1) Ac)))) ([]:List Int)).length:Int) then (if 0<=(w64 (1 + (Int.tmod (w64 a1) Ac)))/\(w64 (1 + (Int.tmod (w64 a1) Ac)))<=100000000 then ((gI Ae Aa).bind fun Ao=>((gI (sI Ae Aa (List.replicate (Int.toNat (w64 (1 + (Int.tmod (w64 a1) Ac)))) (0:Int))) Aa).bind fun Ag=>(((((if (a5.length:Int)<=Ad then (some ( (0,Ad))) else ((gI a5 (w64 ((w64 (Ad + 1)) - 1))).bind fun Ah=>(some ( ((w64 Ah),(w64 (Ad + 1))))))):Option (Int × Int)).bind fun (Ai,Aj)=>(some ( ((Int.tmod (w64 (IntKind.wrap .u8 Ai)) 1),Aj)))):Option (Int × Int)).bind fun (Ak,Am)=>((gI Ag Aa).bind fun Ap=>(some (Sum.inl ((w64 (Aa + 1)),Am,(sI (sI Ae Aa (List.replicate (Int.toNat (w64 (1 + (Int.tmod (w64 a1) Ac)))) (0:Int))) Aa (sI Ag Aa (w64 (1 + Ak))))))))))) else none) else (some (Sum.inr<| (Ad,Ae))))
def ADt (fuel:Nat) (a1:Int) (a5:LiA) (Ac Aa Ad:Int) (Ae:LiI):Option ((Int × Int × LiI) ⊕ ((Int × LiI))):=
  (if Aa < ((List.replicate (Int.toNat (w64 (1 + (Int.tmod (w64 a1) Ac)))) ([]:List Int)).length:Int) then (if 0<=(w64 (1 + (Int.tmod (w64 a1) Ac)))/\(w64 (1 + (Int.tmod (w64 a1) Ac)))<=100000000 then ((gI Ae Aa).bind fun Ao=>((gI (sI Ae Aa (List.replicate (Int.toNat (w64 (1 + (Int.tmod (w64 a1) Ac)))) (0:Int))) Aa).bind fun Ag=>(((((if (a5.length:Int)<=Ad then (some ( (0,Ad))) else ((gI a5 (w64 ((w64 (Ad + 1)) - 1))).bind fun Ah=>(some ( ((w64 Ah),(w64 (Ad + 1))))))):Option (Int × Int)).bind fun (Ai,Aj)=>(some ( ((Int.tmod (w64 (IntKind.wrap .u8 Ai)) 2),Aj)))):Option (Int × Int)).bind fun (Ak,Am)=>((gI Ag Aa).bind fun Ap=>(some (Sum.inl ((w64 (Aa + 1)),Am,(sI (sI Ae Aa (List.replicate (Int.toNat (w64 (1 + (Int.tmod (w64 a1) Ac)))) (0:Int))) Aa (sI Ag Aa (w64 (1 + Ak))))))))))) else none) else (some (Sum.inr<| (Ad,Ae))))
def ADm (fuel:Nat) (a1 a2:Int) (a5 a9:LiA) (Aa:Int):Option LiI:=
  (if Aa≠0 then (((((if (Int.tmod a2 8)=0 then (some ( (decide ((Int.tmod a2 8)=0)))) else (if (Int.tmod a2 8)=1 then (some ( (decide ((Int.tmod a2 8)=1)))) else (if (Int.tmod a2 8)=2 then (some ( (decide ((Int.tmod a2 8)=2)))) else (some ( (decide ((Int.tmod a2 8)=3))))))):Option ((Bool))).bind (fun (Ak:Bool)=>(if Ak=true then (((((if 0<=(w64 (1 + (Int.tmod (w64 a1) Aa)))/\(w64 (1 + (Int.tmod (w64 a1) Aa)))<=100000000 then ((iter (fun s=>AD5 fuel a1 a5 Aa s.1 s.2.1 s.2.2) fuel (0,0,(List.replicate (Int.toNat (w64 (1 + (Int.tmod (w64 a1) Aa)))) ([]:List Int)))).bind (fun ((Am,Ao):Int × LiI)=>(some ( (Ao,Am))))) else none):Option (LiI × Int)).bind fun (Ae,Ap)=>((iter (fun s=>AD6 fuel a5 Ae s.1 s.2.1 s.2.2) fuel (0,Ap,Ae)).bind (fun ((Aq,Ar):Int × LiI)=>(some ( (Ar,Aq)))))):Option (LiI × Int)).bind fun (Au,Av)=>(some ( (Au,Av)))) else (if (Int.tmod a2 8)=4 then ((AE1 fuel (w64 (1 + (Int.tmod (w64 a1) Aa))) false).bind fun Af=>((gI Af 0).bind fun Ag=>((gI Ag 0).bind fun Aw=>(((((if (a5.length:Int)<=0 then (some ( (0,0))) else ((gI a5 (w64 ((w64 (0 + 1)) - 1))).bind fun Ax=>(some ( ((w64 Ax),(w64 (0 + 1))))))):Option (Int × Int)).bind fun (Ay,Az)=>(some ( ((Int.tmod (w64 (IntKind.wrap .u8 Ay)) 3),Az)))):Option (Int × Int)).bind fun (A3,A4)=>(some ( ((sI Af 0 (sI Ag 0 (w64 (Aw + A3)))),A4))))))) else (if (Int.tmod a2 8)=5 then ((AE1 fuel (w64 (1 + (Int.tmod (w64 a1) Aa))) true).bind fun Ah=>((gI Ah (w64 ((w64 (1 + (Int.tmod (w64 a1) Aa))) - 1))).bind fun Ai=>((gI Ai (w64 ((w64 (1 + (Int.tmod (w64 a1) Aa))) - 1))).bind fun A5=>(((((if (a5.length:Int)<=0 then (some ( (0,0))) else ((gI a5 (w64 ((w64 (0 + 1)) - 1))).bind fun A6=>(some ( ((w64 A6),(w64 (0 + 1))))))):Option (Int × Int)).bind fun (A7,A8)=>(some ( ((Int.tmod (w64 (IntKind.wrap .u8 A7)) 2),A8)))):Option (Int × Int)).bind fun (A9,Ba)=>(some ( ((sI Ah (w64 ((w64 (1 + (Int.tmod (w64 a1) Aa))) - 1)) (sI Ai (w64 ((w64 (1 + (Int.tmod (w64 a1) Aa))) - 1)) (w64 (A5 + A9)))),Ba))))))) else (if (Int.tmod a2 8)=6 then (((if 0<=(w64 (1 + (Int.tmod (w64 a1) Aa)))/\(w64 (1 + (Int.tmod (w64 a1) Aa)))<=100000000 then ((iter (fun s=>ADr fuel a1 a5 Aa s.1 s.2.1 s.2.2) fuel (0,0,(List.replicate (Int.toNat (w64 (1 + (Int.tmod (w64 a1) Aa)))) ([]:List Int)))).bind (fun ((Bb,Bc):Int × LiI)=>(some ( (Bc,Bb))))) else none):Option (LiI × Int)).bind fun (Be,Bf)=>(some ( (Be,Bf)))) else (((if 0<=(w64 (1 + (Int.tmod (w64 a1) Aa)))/\(w64 (1 + (Int.tmod (w64 a1) Aa)))<=100000000 then ((iter (fun s=>ADs fuel a1 a5 Aa s.1 s.2.1 s.2.2) fuel (0,0,(List.replicate (Int.toNat (w64 (1 + (Int.tmod (w64 a1) Aa)))) ([]:List Int)))).bind (fun ((Bg,Bh):Int × LiI)=>(some ( (Bh,Bg))))) else none):Option (LiI × Int)).bind fun (Bi,Bj)=>(some ( (Bi,Bj)))))))))):Option ((LiI × Int))).bind (fun ((Aj,Bl):LiI × Int)=>((AGt fuel Aj).bind fun Bm=>(if (!Bm)=true then (((if 0<=(w64 (1 + (Int.tmod (w64 a1) Aa)))/\(w64 (1 + (Int.tmod (w64 a1) Aa)))<=100000000 then ((iter (fun s=>ADt fuel a1 a5 Aa s.1 s.2.1 s.2.2) fuel (0,Bl,(List.replicate (Int.toNat (w64 (1 + (Int.tmod (w64 a1) Aa)))) ([]:List Int)))).bind (fun ((Bn,Bo):Int × LiI)=>(some ( (Bo,Bn))))) else none):Option (LiI × Int)).bind fun (Bp,Br)=>(some Bp)) else (some Aj))))) else none)
theorem ANs {fuel:Nat} {h:Zs} {a1 a2:Int} {Ab:Value} {a5:LiA} {B6:Value} {a9:LiA} {Am:Int} {r:LiI} (H4:SlC (cI .i8) h Ab a5) (H8:SlC (cI .i8) h B6 a9) (hp:ADm fuel a1 a2 a5 a9 Am=some r):AAs Tryz.prog 26 #[(.agg #[(.int .u8 a1),(.int .u8 a2),Ab,B6]),(.int .i64 Am)] h (fun x h'=>Ext h h'/\ ∃ (x0:Value) (F0:List Nat) (Hf:List LnA) (Hg:List Value),x=x0/\ACp (cI .i64) 60 2 h' F0 Hf Hg x0 r/\Sp h' h.size [F0]):=by
 unfold ADm at hp;refine cwf (l:=[_,_]) Tryz.func26 rfl rfl (Zn (AHg (Kst.k0 h) [(.int .u8 a1),(.int .u8 a2),Ab,B6] fun Tv Tw Tx B7=>AA3 (AEy Ao4 APe (B7.b p0) 2 rfl ?_)));obtain ⟨_,_,_,Hh⟩:=(H4.ext B7.x).shape;refine AC5 (v:=(.agg #[Ab,(.int .i64 0)])) (fun _=>by subst Hh;kernel_rfl) (AHg B7 [Ab,(.int .i64 0)] fun Aa Ty Tz Ax=>AA3 (AEy Ao2 Ap7 (Ax.b p1) 0 rfl (AK3 ARa AQp rfl (Zk ?_))));obtain ⟨Hj,Hk⟩:=ifN hp;refine ADo rfl rfl Hj (AAz rfl rfl (AA3 (Zv ?_)));obtain ⟨Hl,Hm,Dy⟩:=Zp Hk;refine AI8 147573952589676150912 (fun x:(LiI) × (Value) × LnA × LnN × LvA × (Int)=>[(7,x.2.1)]) (fun x h'=>( (x.1,x.2.2.2.2.2))=Hl/\Kst h h' (aO2 (cI .i64) 60 2 x.2.2.1 x.2.2.2.1 x.2.2.2.2.1 x.2.1 x.1 :: ((AFy Ax.L [0]).set 0 (aB 105 Aa [Ab,(.int .i64 x.2.2.2.2.2)])))) ?_ ?_
 ·refine Zn (AEy Ao3 Ap7 (Ax.b p1) 1 rfl (ADo rfl rfl Zl (Zr (Zt ?_))));obtain ⟨Hn,Dz,B8⟩:=Zp Hm;refine AI8 520093696 (fun x:(Bool)=>[(24,(.bool x))]) (fun x h'=>( x)=Hn/\Kst h h' (AFy Ax.L [0])) ?_ ?_
  ·refine Zn (ACc rfl rfl (Zv (⟨_,rfl,fun B9=>?_,fun B9=>?_⟩)))
   ·refine Zx (q_t ?_);exact ⟨((decide ((Int.tmod a2 8)=0)):(Bool)),⟨Zm (AA7 Dz B9),Ax.sel [0] Zl⟩,rfl,trivial⟩
   ·refine Zn (ACc rfl rfl (Zv ?_));have D0:=AA8 Dz B9;refine ⟨_,rfl,fun Ca=>?_,fun Ca=>?_⟩
    ·refine Zx (q_t ?_);exact ⟨((decide ((Int.tmod a2 8)=1)):(Bool)),⟨Zm (AA7 D0 Ca),Ax.sel [0] Zl⟩,rfl,trivial⟩
    ·refine Zn (ACc rfl rfl (Zv ?_));have D1:=AA8 D0 Ca;refine ⟨_,rfl,fun Cb=>?_,fun Cb=>?_⟩
     ·refine Zx (q_t ?_);exact ⟨((decide ((Int.tmod a2 8)=2)):(Bool)),⟨Zm (AA7 D1 Cb),Ax.sel [0] Zl⟩,rfl,trivial⟩
     ·refine Z1 (ACc rfl rfl (Zv ?_));exact ⟨((decide ((Int.tmod a2 8)=3)):(Bool)),⟨Zm (AA8 D1 Cb),Ax.sel [0] Zl⟩,rfl,trivial⟩
  rintro Ho Hq Hr ⟨Hs,Ao⟩;(try dsimp only [Kst.L,List.set,AFy,AI2] at Ao);refine (show W _ _ _ (setL [(24,(.bool Ho))] (mix _ Hq _)) Hr from ?_);subst Hs;(try dsimp only at B8);refine ⟨_,rfl,fun Cd=>?_,fun Cd=>?_⟩
  ·refine Z1 (Zk (Zk ?_));obtain ⟨Ht,Hu,D2⟩:=Zp (ifT B8 Cd);refine AAr (K':=(fun xr h'=> ∃ x:(LiI) × (Value) × LnA × LnN × LvA × (Int),(x.1,x.2.2.2.2.2)=Ht/\xr=x.2.1/\Kst h h' (aO2 (cI .i64) 60 2 x.2.2.1 x.2.2.2.1 x.2.2.2.2.1 x.2.1 x.1 :: (Ao.L.set 0 (aB 105 Aa [Ab,(.int .i64 x.2.2.2.2.2)]))))) trivial rfl ?_ fun D3 T0 Hv=>?_
   ·refine cwf (l:=[_,_]) Tryz.func63 rfl rfl (Zn (AA3 (Zk (Zk ?_))));obtain ⟨Hw,Hx,D4⟩:=Zp Hu;refine AAr (K':=(fun xr h'=> ∃ x:(LiI) × (Value) × LnA × LnN × LvA × (Int),(x.1,x.2.2.2.2.2)=Hw/\xr=x.2.1/\Kst h h' (aO2 (cI .i64) 60 2 x.2.2.1 x.2.2.2.1 x.2.2.2.2.1 x.2.1 x.1 :: (Ao.L.set 0 (aB 105 Aa [Ab,(.int .i64 x.2.2.2.2.2)]))))) trivial rfl ?_ fun Ba T3 Hy=>?_
    ·refine cwf (l:=[_,_,_]) Tryz.func66 rfl rfl (Zn (AA3 (Zk ?_)));obtain ⟨Hz,Ia⟩:=ifN Hx;refine ARc (cI .i64) 2 AAn AMp rfl trivial tt2 rfl rfl Zl Hz fun Ib Ic Id D5 T4 Ie If Ih=>Zv (Zo (Zn (Zk ?_)));have Ce:=Ao.no2 If Ih Ie;refine ABe AAn rfl (Ce.o2 p0).rd (Zk (Zr (Zt (AFr 4294959360 (fun x:(Int) × (Int) × (LiI) × LnA × LnN × LvA=>(x.1,x.2.1,x.2.2.1)) ((0,0,(List.replicate (Int.toNat (w64 (1 + (Int.tmod (w64 a1) Am)))) ([]:List Int)),Ib,Ic,Id):(Int) × (Int) × (LiI) × LnA × LnN × LvA) Ia (fun x=>[(13,(.int .i64 x.1))]) (fun x=>(Ce.L.set 0 (aO2 (cI .i64) 60 2 x.2.2.2.1 x.2.2.2.2.1 x.2.2.2.2.2 D5 x.2.2.1)).set 1 (aB 105 Aa [Ab,(.int .i64 x.2.1)])) Ce ⟨rfl,trivial⟩ ?_))));rintro ⟨Cf,Bb,Ii,Ij,Ik,Il⟩ Im Io T5 Cg Bc Ip;(try dsimp only [Kst.L,List.set,AFy,AI2] at Cg);refine (show W _ _ _ (setL [(13,(.int .i64 Cf))] (mix _ Im _)) Io from ?_);(try dsimp only at Bc);unfold AD5 at Bc;refine Zn (AAy rfl rfl (Zr (Zo (⟨_,rfl,fun Ch=>?_,fun Ch=>?_⟩))))
     ·refine Zx (q_t (Zo (Zt (Zn (Zk (AA3 (Zk (Zk (Zk ?_)))))))));obtain ⟨Iq,Ir⟩:=ifN (AA7 Bc Ch);refine AQt (c:=(cI .i64)) (a:=0) AAj AJx rfl rfl (fun _=>rfl) rfl trivial tt2 rfl rfl Zl Iq fun T6 T7 T8 Is It Iu Iv=>?_;have A3:=Cg.no It (AEv Iu Iv) Is;obtain ⟨T9,D6,Iw⟩:=Zp Ir;refine ACt AAn rfl (A3.o2 p1) rfl D6 fun Ua Ub Ix Uc Ud=>ARb AA1 (A3.o2 p1) D6 Ix rfl rfl (A3.o p0) (A3.dj p0 p1 Zl) fun Ap Iy Iz I0=>Zr (ACb (fun h'=>UpT ([Aa] ++ []) Ap h') Zw ?_);have Af:=A3.m2 p0 p1 Zl Iz Iy (fun z hz=> .inl (I0 z hz));have Ci:UpT ([Aa] ++ []) Ap Ap:=UpT.start (ACk (AFa (Af.b p2) rfl) all_nil);refine Zk (Zk ?_);obtain ⟨Ue,Cj,I1⟩:=Zp Iw;refine ACt AAn rfl (Af.o2 p1) rfl Cj fun Uf Ug I2 I3 I6=>AB8 AA1 rfl Ci (fun h' hb=>AKi I6 hb (AQu (Af.dj p1 p2 Zl _ (by simp [aO,aO2,I2])) AQv)) (Zk (Zk (Zk ?_)));obtain ⟨I7,I9,D7⟩:=Zp I1;have Ja:UpT ([Aa] ++ []) Ap Ap:=UpT.start (ACk (AFa (Af.b p2) rfl) all_nil);refine AAr (K':=(fun xr h'=> ∃ x:(Int) × (Int),(x.1,x.2)=I7/\xr=(.int .i64 x.1)/\Kst h h' ((AFy Af.L [1,2]).set 1 (aB 105 Aa [Ab,(.int .i64 x.2)]))/\UpT ([Aa] ++ []) Ap h')) Ci rfl ?_ fun Uh Ui Jc=>?_
      ·refine cwf (l:=[_,_]) Tryz.func65 rfl rfl (Zn (AA3 (Zk ?_)));obtain ⟨Je,D8,D9⟩:=Zp I9;have Ea:UpT ([Aa] ++ []) Ap Ap:=UpT.start (ACk (AFa (Af.b p2) rfl) all_nil);refine AAr (K':=(fun xr h'=> ∃ x:(Int) × (Int),(x.1,x.2)=Je/\xr=(.int .i64 x.1)/\Kst h h' ((AFy Af.L [1,2]).set 1 (aB 105 Aa [Ab,(.int .i64 x.2)]))/\UpT ([Aa] ++ []) Ap h')) trivial rfl ?_ fun Uj Uk Jf=>?_
       ·refine cwf (l:=[_]) Tryz.func119 rfl rfl (Zn (Zv (Zo (Zo (AGh (Zk (ACm rfl (ACz ACo rfl (AA6 ABt rfl ((Af.b p2).cell (i:=1) rfl) (Zk (ACm rfl (ACz AIl rfl (AA6 APe rfl ((Af.b p2).cell (i:=0) rfl) (ABr AQb rfl H4 (ANn rfl rfl (Zr (⟨_,rfl,fun Ck=>?_,fun Ck=>?_⟩)))))))))))))))))
        ·refine Zn (Zv (Zy (AAc (⟨_,Zz,((0,Bb):(Int) × (Int)),?_,rfl,?_,?_⟩))))
         ·exact Zm (AA7 D8 Ck)
         ·exact Af.sel [1,2] Zl
         ·exact Ea
        ·refine Zx (q_t (Zn (Zk (ACm rfl (ACz ACo rfl (AA6 ABt rfl ((Af.b p2).cell (i:=1) rfl) (AAz rfl rfl (ACm rfl (ACz ACo rfl (AOo [Ab,(.int .i64 (w64 (Bb + 1)))] ABt rfl rfl rfl (Af.b p2) (Nat.le_of_ble_eq_true rfl) rfl fun Ul Eb Ec=>Zr (Zo (AGh (Zk (ACm rfl (ACz AIl rfl ?_)))))))))))))));have Be:=Af.sb p2 Ec Eb rfl;refine AA6 APe rfl ((Be.b p2).cell (i:=0) rfl) (Zk (ACm rfl (ACz ACo rfl (AA6 ABt rfl ((Be.b p2).cell (i:=1) rfl) (AE4 rfl rfl ?_)))));obtain ⟨Jg,Jh,Ji⟩:=Zp (AA8 D8 Ck);refine AJb (c:=(cI .i8)) AQb rfl H4 rfl Jh fun Um Un Uo Jj Jk=>?_;obtain rfl:=Jj;refine AA6 AYd rfl (AAu (Jk 0 _ rfl) Be.x) (AK3 AYe AJa rfl (Zv (Zy (⟨_,Zz,(((w64 Jg),(w64 (Bb + 1))):(Int) × (Int)),?_,rfl,?_,?_⟩))))
         ·exact Zm Ji
         ·exact Be.sel [1,2] Zl
         ·exact (Ea.then (Eb.stA Ec (AFa (Af.b p2) rfl) rfl) (ALp rfl))
       obtain ⟨⟨Jl,Jm⟩,Jn,rfl,Ed,Jo⟩:=Jf;(try dsimp only [Kst.L,List.set,AFy,AI2] at Ed);refine ⟨trivial,?_⟩;subst Jn;(try dsimp only at D9);refine AK3 AJa ARa rfl (AK3 ARa AQp rfl (Zk (ADo rfl rfl Zl (Zv (Zy (⟨_,Zz,(((Int.tmod (w64 (IntKind.wrap .u8 Jl)) 6),Jm):(Int) × (Int)),?_,rfl,?_,?_⟩))))))
       ·exact Zm D9
       ·exact Ed
       ·exact (Ja.then Jo (ACk (ALp rfl) all_nil))
      obtain ⟨⟨Jp,Up⟩,Jq,rfl,Cm,Jr⟩:=Jc;(try dsimp only [Kst.L,List.set,AFy,AI2] at Cm);refine ⟨(Ci.then Jr (ACk (ALp rfl) all_nil)),?_⟩;subst Jq;(try dsimp only at D7);refine AAz rfl rfl ?_;obtain ⟨Uq,Ee,Js⟩:=Zp D7;refine AEa (m:=Cf) AAj rfl (Af.o2 p1) I3 Cj rfl Ee fun Ur Jt=>ALu (m:=Cf) (AL2 AAt rfl rfl rfl) (Cm.o2 p0) Jt Cj Ee (show ((cI .i64)).rep _ (w64 (1 + Jp)) _ from rfl) fun Us Ju Jv=>AAh (q_b (q_t (Z1 (AAz rfl rfl (Zk (Zr ?_))))));exact ⟨(_,_,_,_,_,_),(Zm Js).symm,(Cm.uO2 p0 Jv Ju),rfl,trivial⟩
     ·have Ef:=Ip _ (Zm (AA8 Bc Ch)).symm;(try dsimp only at Ef);refine AAe (AAf (AAf (ABk (q_t (Zn (Zk (Zv (Zy (⟨_,Zz,((Ii,D5,Ij,Ik,Il,Bb):(LiI) × (Value) × LnA × LnN × LvA × (Int)),?_,rfl,?_⟩)))))))))
      ·exact Zm Ef
      ·exact Cg
    obtain ⟨⟨Jw,Ba,Jx,Jy,Jz,J0⟩,J1,rfl,Bf⟩:=Hy;(try dsimp only [Kst.L,List.set,AFy,AI2] at Bf);refine ⟨trivial,?_⟩;subst J1;(try dsimp only at D4);refine Zv (Zo (Zn (Zk (ABe AAn rfl (Bf.o2 p0).rd (Zk (Zr (Zt (AFr 17592186036416 (fun x:(Int) × (Int) × (LiI) × LnA × LnN × LvA=>(x.1,x.2.1,x.2.2.1)) ((0,J0,Jw,Jx,Jy,Jz):(Int) × (Int) × (LiI) × LnA × LnN × LvA) D4 (fun x=>[(13,(.int .i64 x.1))]) (fun x=>(Bf.L.set 0 (aO2 (cI .i64) 60 2 x.2.2.2.1 x.2.2.2.2.1 x.2.2.2.2.2 Ba x.2.2.1)).set 1 (aB 105 Aa [Ab,(.int .i64 x.2.1)])) Bf ⟨rfl,trivial⟩ ?_))))))));rintro ⟨Bg,Eg,Eh,Ei,Ej,Ek⟩ J2 J3 Ut Bh Bi J4;(try dsimp only [Kst.L,List.set,AFy,AI2] at Bh);refine (show W _ _ _ (setL [(13,(.int .i64 Bg))] (mix _ J2 _)) J3 from ?_);(try dsimp only at Bi);unfold AD6 at Bi;refine Zn (AAy rfl rfl (Zr (Zo (⟨_,rfl,fun Cn=>?_,fun Cn=>?_⟩))))
    ·refine Zx (q_t (Zo (Zt (Zn (Zk (AA3 (Zv (Zt (AFr 8796092956800 (fun x:(Int) × (Int) × (LiI) × LnA × LnN × LvA=>(x.1,x.2.1,x.2.2.1)) ((0,Eg,Eh,Ei,Ej,Ek):(Int) × (Int) × (LiI) × LnA × LnN × LvA) (AA7 Bi Cn) (fun x=>[(7,(.int .i64 x.1))]) (fun x=>(Bh.L.set 0 (aO2 (cI .i64) 60 2 x.2.2.2.1 x.2.2.2.2.1 x.2.2.2.2.2 Ba x.2.2.1)).set 1 (aB 105 Aa [Ab,(.int .i64 x.2.1)])) Bh ⟨rfl,trivial⟩ ?_)))))))));rintro ⟨El,Co,Uu,Uv,Uw,Ux⟩ J5 Az Uy Ag Bj J6;(try dsimp only [Kst.L,List.set,AFy,AI2] at Ag);refine (show W _ _ _ (setL [(7,(.int .i64 El))] (mix _ J5 _)) Az from ?_);(try dsimp only at Bj);unfold AF4 at Bj;refine Zo (Zn (Zk (Zk (AAy rfl rfl (Zr (⟨_,rfl,fun Cp=>?_,fun Cp=>?_⟩))))))
     ·refine Zx (q_t (Zo (Zt (Zo (ACb (fun h'=>UpT ([Aa] ++ []) Az h') Zw ?_)))));have Cq:UpT ([Aa] ++ []) Az Az:=UpT.start (ACk (AFa (Ag.b p1) rfl) all_nil);refine Zk (Zk ?_);obtain ⟨Uz,Cr,J7⟩:=Zp (AA7 Bj Cp);refine ACt AAn rfl (Ag.o2 p0) rfl Cr fun U0 U3 J8 J9 Ka=>AB8 AA1 rfl Cq (fun h' hb=>AKi Ka hb (AQu (Ag.dj p0 p1 Zl _ (by simp [aO,aO2,J8])) AQv)) (Zk (Zk ?_));obtain ⟨Kb,Em,En⟩:=Zp J7;have Eo:UpT ([Aa] ++ []) Az Az:=UpT.start (ACk (AFa (Ag.b p1) rfl) all_nil);refine AAr (K':=(fun xr h'=> ∃ x:(Int) × (Int),(x.1,x.2)=Kb/\xr=(.int .i64 x.1)/\Kst h h' (Ag.L.set 1 (aB 105 Aa [Ab,(.int .i64 x.2)]))/\UpT ([Aa] ++ []) Az h')) Cq rfl ?_ fun U8 Va Kc=>?_
      ·refine cwf (l:=[_]) Tryz.func119 rfl rfl (Zn (Zv (Zo (Zo (AGh (Zk (ACm rfl (ACz ACo rfl (AA6 ABt rfl ((Ag.b p1).cell (i:=1) rfl) (Zk (ACm rfl (ACz AIl rfl (AA6 APe rfl ((Ag.b p1).cell (i:=0) rfl) (ABr AQb rfl H4 (ANn rfl rfl (Zr (⟨_,rfl,fun Ct=>?_,fun Ct=>?_⟩)))))))))))))))))
       ·refine Zn (Zv (Zy (AAc (⟨_,Zz,((0,Co):(Int) × (Int)),?_,rfl,?_,?_⟩))))
        ·exact Zm (AA7 Em Ct)
        ·exact Ag
        ·exact Eo
       ·refine Zx (q_t (Zn (Zk (ACm rfl (ACz ACo rfl (AA6 ABt rfl ((Ag.b p1).cell (i:=1) rfl) (AAz rfl rfl (ACm rfl (ACz ACo rfl (AOo [Ab,(.int .i64 (w64 (Co + 1)))] ABt rfl rfl rfl (Ag.b p1) (Nat.le_of_ble_eq_true rfl) rfl fun Vb Ep Er=>Zr (Zo (AGh (Zk (ACm rfl (ACz AIl rfl ?_)))))))))))))));have Bl:=Ag.sb p1 Er Ep rfl;refine AA6 APe rfl ((Bl.b p1).cell (i:=0) rfl) (Zk (ACm rfl (ACz ACo rfl (AA6 ABt rfl ((Bl.b p1).cell (i:=1) rfl) (AE4 rfl rfl ?_)))));obtain ⟨Kd,Ke,Kf⟩:=Zp (AA8 Em Ct);refine AJb (c:=(cI .i8)) AQb rfl H4 rfl Ke fun Vc Vd Ve Kg Kh=>?_;obtain rfl:=Kg;refine AA6 AYd rfl (AAu (Kh 0 _ rfl) Bl.x) (AK3 AYe AJa rfl (Zv (Zy (⟨_,Zz,(((w64 Kd),(w64 (Co + 1))):(Int) × (Int)),?_,rfl,?_,?_⟩))))
        ·exact Zm Kf
        ·exact Bl
        ·exact (Eo.then (Ep.stA Er (AFa (Ag.b p1) rfl) rfl) (ALp rfl))
      obtain ⟨⟨Ki,Vf⟩,Kj,rfl,Cu,Kk⟩:=Kc;(try dsimp only [Kst.L,List.set,AFy,AI2] at Cu);refine ⟨(Cq.then Kk (ACk (ALp rfl) all_nil)),?_⟩;subst Kj;(try dsimp only at En);refine ADo rfl rfl Zl ?_;obtain ⟨Vg,Es,Kl⟩:=Zp En;refine AEa (m:=Bg) AAj rfl (Ag.o2 p0) J9 Cr rfl Es fun Vh Km=>ALu (m:=Bg) (AL2 AAt rfl rfl rfl) (Cu.o2 p0) Km Cr Es (show ((cI .i64)).rep _ (Int.tmod Ki 3) _ from rfl) fun Vi Kn Ko=>Zr (AGh (Zk (Zk ?_)));have Bm:=Cu.uO2 p0 Ko Kn;obtain ⟨Vj,Et,Kp⟩:=Zp Kl;refine AB2 AAn AA1 (Bm.o2 p0) Et fun _ Vk Kr=>Zk (Zk (Zk ?_));obtain ⟨Vl,Eu,Kt⟩:=Zp Kp;refine AB2 AAn AA1 (Bm.o2 p0) Eu fun _ Vm Ku=>Zk ?_;obtain ⟨Vn,Kv,Kw⟩:=Zp Kt;refine AH5 (m:=Bg) AAj AAt (Bm.o2 p0) Ku Eu Kv fun _=>?_;obtain ⟨Vo,Kx,Ky⟩:=Zp Kw;refine ALq (m:=El) Bm p0 AAj AAt Kr Et Kx (fun _=>rfl) fun _ Vp Kz=>AAh (q_b (q_t (Z1 (Zk (AAz rfl rfl (Zv ?_))))));exact ⟨(_,_,_,_,_,_),(Zm Ky).symm,Kz,rfl,trivial⟩
     ·have Ev:=J6 _ (Zm (AA8 Bj Cp)).symm;(try dsimp only at Ev);refine AAe (AAf (AAf (ABk (q_b (q_t (Z1 (AAz rfl rfl (Zk (Zr ?_)))))))));exact ⟨(_,_,_,_,_,_),(Zm Ev).symm,Ag,rfl,trivial⟩
    ·have Ew:=J4 _ (Zm (AA8 Bi Cn)).symm;(try dsimp only at Ew);refine AAe (AAf (AAf (ABk (q_t (Zn (Zk (Zv (Zy (⟨_,Zz,((Eh,Ba,Ei,Ej,Ek,Eg):(LiI) × (Value) × LnA × LnN × LvA × (Int)),?_,rfl,?_⟩)))))))))
     ·exact Zm Ew
     ·exact Bh
   obtain ⟨⟨La,D3,Lb,Lc,Ld,Le⟩,Lf,rfl,Ey⟩:=Hv;(try dsimp only [Kst.L,List.set,AFy,AI2] at Ey);refine ⟨trivial,?_⟩;subst Lf;(try dsimp only at D2);refine AAi (AAh (q_b (q_t ?_)));exact ⟨((La,D3,Lb,Lc,Ld,Le):(LiI) × (Value) × LnA × LnN × LvA × (Int)),⟨Zm D2,Ey⟩,rfl,trivial⟩
  ·refine Zn (ACc rfl rfl (Zv ?_));have Ez:=AH9 B8 Cd;refine ⟨_,rfl,fun Cv=>?_,fun Cv=>?_⟩
   ·refine Zn (Zk ?_);obtain ⟨Lg,Lh,Li⟩:=Zp (AA7 Ez Cv);refine ANo Ao (AMc Lh) fun Lj Lk Ll Lm Aq Vs Ac=>Zv (ACb (fun h'=>UpT ([Aa] ++ []) Aq h') Zw ?_);have Bn:UpT ([Aa] ++ []) Aq Aq:=UpT.start (ACk (AFa (Ac.b p1) rfl) all_nil);refine Zk ?_;obtain ⟨Lo,A4,Lq⟩:=Zp Li;refine ACt AAn rfl (Ac.o2 p0) rfl A4 fun Vt Vu Lr Fa Lv=>AB8 AA1 rfl Bn (fun h' hb=>AKi Lv hb (AQu (Ac.dj p0 p1 Zl _ (by simp [aO,aO2,Lr])) AQv)) ?_;obtain ⟨Fb,Bo,Lw⟩:=Zp Lq;refine AEa (m:=0) AAj rfl (Ac.o2 p0) Fa A4 rfl Bo fun Vv Fc=>?_;obtain ⟨Vw,Lx,Ly⟩:=(Ac.o2 p0).cells Fc A4 Bo;obtain rfl:=Lx;refine AB8 AAt rfl Bn (fun h' hb=>AKi (Ly 0 _ rfl) hb (AQu (Ac.dj p0 p1 Zl _ ((Ac.o2 p0).gmem Fc)) AQv)) (Zk ?_);obtain ⟨Lz,L9,Fd⟩:=Zp Lw;have Ma:UpT ([Aa] ++ []) Aq Aq:=UpT.start (ACk (AFa (Ac.b p1) rfl) all_nil);refine AAr (K':=(fun xr h'=> ∃ x:(Int) × (Int),(x.1,x.2)=Lz/\xr=(.int .i64 x.1)/\Kst h h' (Ac.L.set 1 (aB 105 Aa [Ab,(.int .i64 x.2)]))/\UpT ([Aa] ++ []) Aq h')) Bn rfl ?_ fun Vx Vy Mb=>?_
    ·refine cwf (l:=[_,_]) Tryz.func65 rfl rfl (Zn (AA3 (Zk ?_)));obtain ⟨Mc,Fe,Ff⟩:=Zp L9;have Fg:UpT ([Aa] ++ []) Aq Aq:=UpT.start (ACk (AFa (Ac.b p1) rfl) all_nil);refine AAr (K':=(fun xr h'=> ∃ x:(Int) × (Int),(x.1,x.2)=Mc/\xr=(.int .i64 x.1)/\Kst h h' (Ac.L.set 1 (aB 105 Aa [Ab,(.int .i64 x.2)]))/\UpT ([Aa] ++ []) Aq h')) trivial rfl ?_ fun Vz V1 Md=>?_
     ·refine cwf (l:=[_]) Tryz.func119 rfl rfl (Zn (Zv (Zo (Zo (AGh (Zk (ACm rfl (ACz ACo rfl (AA6 ABt rfl ((Ac.b p1).cell (i:=1) rfl) (Zk (ACm rfl (ACz AIl rfl (AA6 APe rfl ((Ac.b p1).cell (i:=0) rfl) (ABr AQb rfl H4 (ANn rfl rfl (Zr (⟨_,rfl,fun Cw=>?_,fun Cw=>?_⟩)))))))))))))))))
      ·refine Zn (Zv (Zy (AAc (⟨_,Zz,((0,0):(Int) × (Int)),?_,rfl,?_,?_⟩))))
       ·exact Zm (AA7 Fe Cw)
       ·exact Ac
       ·exact Fg
      ·refine Zx (q_t (Zn (Zk (ACm rfl (ACz ACo rfl (AA6 ABt rfl ((Ac.b p1).cell (i:=1) rfl) (AAz rfl rfl (ACm rfl (ACz ACo rfl (AOo [Ab,(.int .i64 (w64 (0 + 1)))] ABt rfl rfl rfl (Ac.b p1) (Nat.le_of_ble_eq_true rfl) rfl fun V4 Fh Fi=>Zr (Zo (AGh (Zk (ACm rfl (ACz AIl rfl ?_)))))))))))))));have Bp:=Ac.sb p1 Fi Fh rfl;refine AA6 APe rfl ((Bp.b p1).cell (i:=0) rfl) (Zk (ACm rfl (ACz ACo rfl (AA6 ABt rfl ((Bp.b p1).cell (i:=1) rfl) (AE4 rfl rfl ?_)))));obtain ⟨Me,Mf,Mg⟩:=Zp (AA8 Fe Cw);refine AJb (c:=(cI .i8)) AQb rfl H4 rfl Mf fun V5 V6 V8 Mh Mi=>?_;obtain rfl:=Mh;refine AA6 AYd rfl (AAu (Mi 0 _ rfl) Bp.x) (AK3 AYe AJa rfl (Zv (Zy (⟨_,Zz,(((w64 Me),(w64 (0 + 1))):(Int) × (Int)),?_,rfl,?_,?_⟩))))
       ·exact Zm Mg
       ·exact Bp
       ·exact (Fg.then (Fh.stA Fi (AFa (Ac.b p1) rfl) rfl) (ALp rfl))
     obtain ⟨⟨Mj,Mk⟩,Ml,rfl,Fj,Mm⟩:=Md;(try dsimp only [Kst.L,List.set,AFy,AI2] at Fj);refine ⟨trivial,?_⟩;subst Ml;(try dsimp only at Ff);refine AK3 AJa ARa rfl (AK3 ARa AQp rfl (Zk (ADo rfl rfl Zl (Zv (Zy (⟨_,Zz,(((Int.tmod (w64 (IntKind.wrap .u8 Mj)) 3),Mk):(Int) × (Int)),?_,rfl,?_,?_⟩))))))
     ·exact Zm Ff
     ·exact Fj
     ·exact (Ma.then Mm (ACk (ALp rfl) all_nil))
    obtain ⟨⟨Fk,Mo⟩,Mq,rfl,Cx,Mr⟩:=Mb;(try dsimp only [Kst.L,List.set,AFy,AI2] at Cx);refine ⟨(Bn.then Mr (ACk (ALp rfl) all_nil)),?_⟩;subst Mq;(try dsimp only at Fd);refine AAz rfl rfl (AEa (m:=0) AAj rfl (Ac.o2 p0) Fa A4 rfl Bo fun V9 Ms=>ALu (m:=0) (AL2 AAt rfl rfl rfl) (Cx.o2 p0) Ms A4 Bo (show ((cI .i64)).rep _ (w64 (Fb + Fk)) _ from rfl) fun Wa Mt Mu=>AAh (q_b (q_t ?_)));exact ⟨(((sI Lg 0 (sI Lo 0 (w64 (Fb + Fk)))),Lm,Lj,Lk,Ll,Mo):(LiI) × (Value) × LnA × LnN × LvA × (Int)),⟨Zm Fd,(Cx.uO2 p0 Mu Mt)⟩,rfl,trivial⟩
   ·refine Zn (ACc rfl rfl (Zv ?_));have Fl:=AA8 Ez Cv;refine ⟨_,rfl,fun Cy=>?_,fun Cy=>?_⟩
    ·refine Zn (Zk ?_);obtain ⟨Mv,Mw,Mx⟩:=Zp (AA7 Fl Cy);refine ANo Ao (AMc Mw) fun My Mz M0 M1 Ar Wb Ad=>Zv (ACb (fun h'=>UpT ([Aa] ++ []) Ar h') Zw ?_);have Bq:UpT ([Aa] ++ []) Ar Ar:=UpT.start (ACk (AFa (Ad.b p1) rfl) all_nil);refine Zk (Zk (AE4 rfl rfl ?_));obtain ⟨M2,A5,M3⟩:=Zp Mx;refine ACt AAn rfl (Ad.o2 p0) rfl A5 fun Wc Wd M4 Fm M5=>AB8 AA1 rfl Bq (fun h' hb=>AKi M5 hb (AQu (Ad.dj p0 p1 Zl _ (by simp [aO,aO2,M4])) AQv)) (Zk (AE4 rfl rfl ?_));obtain ⟨Fo,Br,M6⟩:=Zp M3;refine AEa (m:=(w64 ((w64 (1 + (Int.tmod (w64 a1) Am))) - 1))) AAj rfl (Ad.o2 p0) Fm A5 rfl Br fun We Fp=>?_;obtain ⟨Wf,M7,M8⟩:=(Ad.o2 p0).cells Fp A5 Br;obtain rfl:=M7;refine AB8 AAt rfl Bq (fun h' hb=>AKi (M8 0 _ rfl) hb (AQu (Ad.dj p0 p1 Zl _ ((Ad.o2 p0).gmem Fp)) AQv)) (Zk ?_);obtain ⟨M9,Na,Fq⟩:=Zp M6;have Nb:UpT ([Aa] ++ []) Ar Ar:=UpT.start (ACk (AFa (Ad.b p1) rfl) all_nil);refine AAr (K':=(fun xr h'=> ∃ x:(Int) × (Int),(x.1,x.2)=M9/\xr=(.int .i64 x.1)/\Kst h h' (Ad.L.set 1 (aB 105 Aa [Ab,(.int .i64 x.2)]))/\UpT ([Aa] ++ []) Ar h')) Bq rfl ?_ fun Wg Wh Nc=>?_
     ·refine cwf (l:=[_,_]) Tryz.func65 rfl rfl (Zn (AA3 (Zk ?_)));obtain ⟨Nd,Fr,Ft⟩:=Zp Na;have Fu:UpT ([Aa] ++ []) Ar Ar:=UpT.start (ACk (AFa (Ad.b p1) rfl) all_nil);refine AAr (K':=(fun xr h'=> ∃ x:(Int) × (Int),(x.1,x.2)=Nd/\xr=(.int .i64 x.1)/\Kst h h' (Ad.L.set 1 (aB 105 Aa [Ab,(.int .i64 x.2)]))/\UpT ([Aa] ++ []) Ar h')) trivial rfl ?_ fun Wi Wj Nf=>?_
      ·refine cwf (l:=[_]) Tryz.func119 rfl rfl (Zn (Zv (Zo (Zo (AGh (Zk (ACm rfl (ACz ACo rfl (AA6 ABt rfl ((Ad.b p1).cell (i:=1) rfl) (Zk (ACm rfl (ACz AIl rfl (AA6 APe rfl ((Ad.b p1).cell (i:=0) rfl) (ABr AQb rfl H4 (ANn rfl rfl (Zr (⟨_,rfl,fun Cz=>?_,fun Cz=>?_⟩)))))))))))))))))
       ·refine Zn (Zv (Zy (AAc (⟨_,Zz,((0,0):(Int) × (Int)),?_,rfl,?_,?_⟩))))
        ·exact Zm (AA7 Fr Cz)
        ·exact Ad
        ·exact Fu
       ·refine Zx (q_t (Zn (Zk (ACm rfl (ACz ACo rfl (AA6 ABt rfl ((Ad.b p1).cell (i:=1) rfl) (AAz rfl rfl (ACm rfl (ACz ACo rfl (AOo [Ab,(.int .i64 (w64 (0 + 1)))] ABt rfl rfl rfl (Ad.b p1) (Nat.le_of_ble_eq_true rfl) rfl fun Wk Fv Fw=>Zr (Zo (AGh (Zk (ACm rfl (ACz AIl rfl ?_)))))))))))))));have Bt:=Ad.sb p1 Fw Fv rfl;refine AA6 APe rfl ((Bt.b p1).cell (i:=0) rfl) (Zk (ACm rfl (ACz ACo rfl (AA6 ABt rfl ((Bt.b p1).cell (i:=1) rfl) (AE4 rfl rfl ?_)))));obtain ⟨Ng,Nh,Ni⟩:=Zp (AA8 Fr Cz);refine AJb (c:=(cI .i8)) AQb rfl H4 rfl Nh fun Wl Wm Wn Nj Nk=>?_;obtain rfl:=Nj;refine AA6 AYd rfl (AAu (Nk 0 _ rfl) Bt.x) (AK3 AYe AJa rfl (Zv (Zy (⟨_,Zz,(((w64 Ng),(w64 (0 + 1))):(Int) × (Int)),?_,rfl,?_,?_⟩))))
        ·exact Zm Ni
        ·exact Bt
        ·exact (Fu.then (Fv.stA Fw (AFa (Ad.b p1) rfl) rfl) (ALp rfl))
      obtain ⟨⟨Nl,Nm⟩,Nn,rfl,Fx,Np⟩:=Nf;(try dsimp only [Kst.L,List.set,AFy,AI2] at Fx);refine ⟨trivial,?_⟩;subst Nn;(try dsimp only at Ft);refine AK3 AJa ARa rfl (AK3 ARa AQp rfl (Zk (ADo rfl rfl Zl (Zv (Zy (⟨_,Zz,(((Int.tmod (w64 (IntKind.wrap .u8 Nl)) 2),Nm):(Int) × (Int)),?_,rfl,?_,?_⟩))))))
      ·exact Zm Ft
      ·exact Fx
      ·exact (Nb.then Np (ACk (ALp rfl) all_nil))
     obtain ⟨⟨Fy,Nq⟩,Nr,rfl,C0,Ns⟩:=Nc;(try dsimp only [Kst.L,List.set,AFy,AI2] at C0);refine ⟨(Bq.then Ns (ACk (ALp rfl) all_nil)),?_⟩;subst Nr;(try dsimp only at Fq);refine AAz rfl rfl (AEa (m:=(w64 ((w64 (1 + (Int.tmod (w64 a1) Am))) - 1))) AAj rfl (Ad.o2 p0) Fm A5 rfl Br fun Wo Nt=>ALu (m:=(w64 ((w64 (1 + (Int.tmod (w64 a1) Am))) - 1))) (AL2 AAt rfl rfl rfl) (C0.o2 p0) Nt A5 Br (show ((cI .i64)).rep _ (w64 (Fo + Fy)) _ from rfl) fun Wp Nu Nv=>AAh (q_b (q_t ?_)));exact ⟨(((sI Mv (w64 ((w64 (1 + (Int.tmod (w64 a1) Am))) - 1)) (sI M2 (w64 ((w64 (1 + (Int.tmod (w64 a1) Am))) - 1)) (w64 (Fo + Fy)))),M1,My,Mz,M0,Nq):(LiI) × (Value) × LnA × LnN × LvA × (Int)),⟨Zm Fq,(C0.uO2 p0 Nv Nu)⟩,rfl,trivial⟩
    ·refine Zn (ACc rfl rfl (Zv ?_));have Fz:=AA8 Fl Cy;refine ⟨_,rfl,fun C1=>?_,fun C1=>?_⟩
     ·refine Z1 (Zk (Zk ?_));obtain ⟨Nw,Ny,F4⟩:=Zp (AA7 Fz C1);refine AAr (K':=(fun xr h'=> ∃ x:(LiI) × (Value) × LnA × LnN × LvA × (Int),(x.1,x.2.2.2.2.2)=Nw/\xr=x.2.1/\Kst h h' (aO2 (cI .i64) 60 2 x.2.2.1 x.2.2.2.1 x.2.2.2.2.1 x.2.1 x.1 :: (Ao.L.set 0 (aB 105 Aa [Ab,(.int .i64 x.2.2.2.2.2)]))))) trivial rfl ?_ fun F5 Wq Nz=>?_
      ·refine cwf (l:=[_,_,_]) Tryz.func66 rfl rfl (Zn (AA3 (Zk ?_)));obtain ⟨N0,N3⟩:=ifN Ny;refine ARc (cI .i64) 2 AAn AMp rfl trivial tt2 rfl rfl Zl N0 fun N4 N5 N6 F6 Wr N7 N8 N9=>Zv (Zo (Zn (Zk ?_)));have C2:=Ao.no2 N8 N9 N7;refine ABe AAn rfl (C2.o2 p0).rd (Zk (Zr (Zt (AFr 4294959360 (fun x:(Int) × (Int) × (LiI) × LnA × LnN × LvA=>(x.1,x.2.1,x.2.2.1)) ((0,0,(List.replicate (Int.toNat (w64 (1 + (Int.tmod (w64 a1) Am)))) ([]:List Int)),N4,N5,N6):(Int) × (Int) × (LiI) × LnA × LnN × LvA) N3 (fun x=>[(13,(.int .i64 x.1))]) (fun x=>(C2.L.set 0 (aO2 (cI .i64) 60 2 x.2.2.2.1 x.2.2.2.2.1 x.2.2.2.2.2 F6 x.2.2.1)).set 1 (aB 105 Aa [Ab,(.int .i64 x.2.1)])) C2 ⟨rfl,trivial⟩ ?_))));rintro ⟨C3,Bu,Oa,Ob,Oc,Od⟩ Oe Og Ws C4 Bv Oh;(try dsimp only [Kst.L,List.set,AFy,AI2] at C4);refine (show W _ _ _ (setL [(13,(.int .i64 C3))] (mix _ Oe _)) Og from ?_);(try dsimp only at Bv);unfold ADr at Bv;refine Zn (AAy rfl rfl (Zr (Zo (⟨_,rfl,fun C5=>?_,fun C5=>?_⟩))))
       ·refine Zx (q_t (Zo (Zt (Zn (Zk (AA3 (Zk (Zk (Zk ?_)))))))));obtain ⟨Oi,Oj⟩:=ifN (AA7 Bv C5);refine AQt (c:=(cI .i64)) (a:=0) AAj AJx rfl rfl (fun _=>rfl) rfl trivial tt2 rfl rfl Zl Oi fun Wt Wu Wv Ol Om On Oo=>?_;have A6:=C4.no Om (AEv On Oo) Ol;obtain ⟨Ww,F7,Oq⟩:=Zp Oj;refine ACt AAn rfl (A6.o2 p1) rfl F7 fun Wx Wy Ot Wz W0=>ARb AA1 (A6.o2 p1) F7 Ot rfl rfl (A6.o p0) (A6.dj p0 p1 Zl) fun Au Ou Ov Ow=>Zr (ACb (fun h'=>UpT ([Aa] ++ []) Au h') Zw ?_);have Ah:=A6.m2 p0 p1 Zl Ov Ou (fun z hz=> .inl (Ow z hz));have C6:UpT ([Aa] ++ []) Au Au:=UpT.start (ACk (AFa (Ah.b p2) rfl) all_nil);refine Zk (Zk ?_);obtain ⟨W1,C7,Ox⟩:=Zp Oq;refine ACt AAn rfl (Ah.o2 p1) rfl C7 fun W3 W4 Oy Oz O0=>AB8 AA1 rfl C6 (fun h' hb=>AKi O0 hb (AQu (Ah.dj p1 p2 Zl _ (by simp [aO,aO2,Oy])) AQv)) (Zk (Zk (Zk ?_)));obtain ⟨O1,O2,F8⟩:=Zp Ox;have O3:UpT ([Aa] ++ []) Au Au:=UpT.start (ACk (AFa (Ah.b p2) rfl) all_nil);refine AAr (K':=(fun xr h'=> ∃ x:(Int) × (Int),(x.1,x.2)=O1/\xr=(.int .i64 x.1)/\Kst h h' ((AFy Ah.L [1,2]).set 1 (aB 105 Aa [Ab,(.int .i64 x.2)]))/\UpT ([Aa] ++ []) Au h')) C6 rfl ?_ fun W5 W6 O4=>?_
        ·refine cwf (l:=[_,_]) Tryz.func65 rfl rfl (Zn (AA3 (Zk ?_)));obtain ⟨O5,F9,Ga⟩:=Zp O2;have Gb:UpT ([Aa] ++ []) Au Au:=UpT.start (ACk (AFa (Ah.b p2) rfl) all_nil);refine AAr (K':=(fun xr h'=> ∃ x:(Int) × (Int),(x.1,x.2)=O5/\xr=(.int .i64 x.1)/\Kst h h' ((AFy Ah.L [1,2]).set 1 (aB 105 Aa [Ab,(.int .i64 x.2)]))/\UpT ([Aa] ++ []) Au h')) trivial rfl ?_ fun W7 W8 O6=>?_
         ·refine cwf (l:=[_]) Tryz.func119 rfl rfl (Zn (Zv (Zo (Zo (AGh (Zk (ACm rfl (ACz ACo rfl (AA6 ABt rfl ((Ah.b p2).cell (i:=1) rfl) (Zk (ACm rfl (ACz AIl rfl (AA6 APe rfl ((Ah.b p2).cell (i:=0) rfl) (ABr AQb rfl H4 (ANn rfl rfl (Zr (⟨_,rfl,fun C8=>?_,fun C8=>?_⟩)))))))))))))))))
          ·refine Zn (Zv (Zy (AAc (⟨_,Zz,((0,Bu):(Int) × (Int)),?_,rfl,?_,?_⟩))))
           ·exact Zm (AA7 F9 C8)
           ·exact Ah.sel [1,2] Zl
           ·exact Gb
          ·refine Zx (q_t (Zn (Zk (ACm rfl (ACz ACo rfl (AA6 ABt rfl ((Ah.b p2).cell (i:=1) rfl) (AAz rfl rfl (ACm rfl (ACz ACo rfl (AOo [Ab,(.int .i64 (w64 (Bu + 1)))] ABt rfl rfl rfl (Ah.b p2) (Nat.le_of_ble_eq_true rfl) rfl fun Xa Gc Gd=>Zr (Zo (AGh (Zk (ACm rfl (ACz AIl rfl ?_)))))))))))))));have Bw:=Ah.sb p2 Gd Gc rfl;refine AA6 APe rfl ((Bw.b p2).cell (i:=0) rfl) (Zk (ACm rfl (ACz ACo rfl (AA6 ABt rfl ((Bw.b p2).cell (i:=1) rfl) (AE4 rfl rfl ?_)))));obtain ⟨O7,O8,O9⟩:=Zp (AA8 F9 C8);refine AJb (c:=(cI .i8)) AQb rfl H4 rfl O8 fun Xb Xc Xd Pa Pb=>?_;obtain rfl:=Pa;refine AA6 AYd rfl (AAu (Pb 0 _ rfl) Bw.x) (AK3 AYe AJa rfl (Zv (Zy (⟨_,Zz,(((w64 O7),(w64 (Bu + 1))):(Int) × (Int)),?_,rfl,?_,?_⟩))))
           ·exact Zm O9
           ·exact Bw.sel [1,2] Zl
           ·exact (Gb.then (Gc.stA Gd (AFa (Ah.b p2) rfl) rfl) (ALp rfl))
         obtain ⟨⟨Pc,Pd⟩,Pe,rfl,Ge,Pf⟩:=O6;(try dsimp only [Kst.L,List.set,AFy,AI2] at Ge);refine ⟨trivial,?_⟩;subst Pe;(try dsimp only at Ga);refine AK3 AJa ARa rfl (AK3 ARa AQp rfl (Zk (ADo rfl rfl Zl (Zv (Zy (⟨_,Zz,(((Int.tmod (w64 (IntKind.wrap .u8 Pc)) 9),Pd):(Int) × (Int)),?_,rfl,?_,?_⟩))))))
         ·exact Zm Ga
         ·exact Ge
         ·exact (O3.then Pf (ACk (ALp rfl) all_nil))
        obtain ⟨⟨Pg,Xe⟩,Ph,rfl,C9,Pj⟩:=O4;(try dsimp only [Kst.L,List.set,AFy,AI2] at C9);refine ⟨(C6.then Pj (ACk (ALp rfl) all_nil)),?_⟩;subst Ph;(try dsimp only at F8);refine AAz rfl rfl ?_;obtain ⟨Xf,Gf,Pk⟩:=Zp F8;refine AEa (m:=C3) AAj rfl (Ah.o2 p1) Oz C7 rfl Gf fun Xg Pl=>ALu (m:=C3) (AL2 AAt rfl rfl rfl) (C9.o2 p0) Pl C7 Gf (show ((cI .i64)).rep _ (w64 (1 + Pg)) _ from rfl) fun Xh Pm Pn=>AAh (q_b (q_t (Z1 (AAz rfl rfl (Zk (Zr ?_))))));exact ⟨(_,_,_,_,_,_),(Zm Pk).symm,(C9.uO2 p0 Pn Pm),rfl,trivial⟩
       ·have Gg:=Oh _ (Zm (AA8 Bv C5)).symm;(try dsimp only at Gg);refine AAe (AAf (AAf (ABk (q_t (Zn (Zk (Zv (Zy (⟨_,Zz,((Oa,F6,Ob,Oc,Od,Bu):(LiI) × (Value) × LnA × LnN × LvA × (Int)),?_,rfl,?_⟩)))))))))
        ·exact Zm Gg
        ·exact C4
      obtain ⟨⟨Po,F5,Pp,Pq,Ps,Pt⟩,Pu,rfl,Gh⟩:=Nz;(try dsimp only [Kst.L,List.set,AFy,AI2] at Gh);refine ⟨trivial,?_⟩;subst Pu;(try dsimp only at F4);refine AAi (AAh (q_b (q_t ?_)));exact ⟨((Po,F5,Pp,Pq,Ps,Pt):(LiI) × (Value) × LnA × LnN × LvA × (Int)),⟨Zm F4,Gh⟩,rfl,trivial⟩
     ·refine Z1 (Zk (Zk ?_));obtain ⟨Pv,Pw,Gi⟩:=Zp (AA8 Fz C1);refine AAr (K':=(fun xr h'=> ∃ x:(LiI) × (Value) × LnA × LnN × LvA × (Int),(x.1,x.2.2.2.2.2)=Pv/\xr=x.2.1/\Kst h h' (aO2 (cI .i64) 60 2 x.2.2.1 x.2.2.2.1 x.2.2.2.2.1 x.2.1 x.1 :: (Ao.L.set 0 (aB 105 Aa [Ab,(.int .i64 x.2.2.2.2.2)]))))) trivial rfl ?_ fun Gj Xi Px=>?_
      ·refine cwf (l:=[_,_,_]) Tryz.func66 rfl rfl (Zn (AA3 (Zk ?_)));obtain ⟨Py,Pz⟩:=ifN Pw;refine ARc (cI .i64) 2 AAn AMp rfl trivial tt2 rfl rfl Zl Py fun P0 P1 P2 Gk Xj P3 P4 P5=>Zv (Zo (Zn (Zk ?_)));have Da:=Ao.no2 P4 P5 P3;refine ABe AAn rfl (Da.o2 p0).rd (Zk (Zr (Zt (AFr 4294959360 (fun x:(Int) × (Int) × (LiI) × LnA × LnN × LvA=>(x.1,x.2.1,x.2.2.1)) ((0,0,(List.replicate (Int.toNat (w64 (1 + (Int.tmod (w64 a1) Am)))) ([]:List Int)),P0,P1,P2):(Int) × (Int) × (LiI) × LnA × LnN × LvA) Pz (fun x=>[(13,(.int .i64 x.1))]) (fun x=>(Da.L.set 0 (aO2 (cI .i64) 60 2 x.2.2.2.1 x.2.2.2.2.1 x.2.2.2.2.2 Gk x.2.2.1)).set 1 (aB 105 Aa [Ab,(.int .i64 x.2.1)])) Da ⟨rfl,trivial⟩ ?_))));rintro ⟨Db,Bx,P6,P7,P8,P9⟩ Qa Qb Xk Dc By Qc;(try dsimp only [Kst.L,List.set,AFy,AI2] at Dc);refine (show W _ _ _ (setL [(13,(.int .i64 Db))] (mix _ Qa _)) Qb from ?_);(try dsimp only at By);unfold ADs at By;refine Zn (AAy rfl rfl (Zr (Zo (⟨_,rfl,fun Dd=>?_,fun Dd=>?_⟩))))
       ·refine Zx (q_t (Zo (Zt (Zn (Zk (AA3 (Zk (Zk (Zk ?_)))))))));obtain ⟨Qd,Qe⟩:=ifN (AA7 By Dd);refine AQt (c:=(cI .i64)) (a:=0) AAj AJx rfl rfl (fun _=>rfl) rfl trivial tt2 rfl rfl Zl Qd fun Xl Xm Xn Qf Qg Qh Qi=>?_;have A7:=Dc.no Qg (AEv Qh Qi) Qf;obtain ⟨Xo,Gl,Qj⟩:=Zp Qe;refine ACt AAn rfl (A7.o2 p1) rfl Gl fun Xp Xq Qk Xr Xt=>ARb AA1 (A7.o2 p1) Gl Qk rfl rfl (A7.o p0) (A7.dj p0 p1 Zl) fun Av Ql Qm Qn=>Zr (ACb (fun h'=>UpT ([Aa] ++ []) Av h') Zw ?_);have Ai:=A7.m2 p0 p1 Zl Qm Ql (fun z hz=> .inl (Qn z hz));have De:UpT ([Aa] ++ []) Av Av:=UpT.start (ACk (AFa (Ai.b p2) rfl) all_nil);refine Zk (Zk ?_);obtain ⟨Xu,Df,Qo⟩:=Zp Qj;refine ACt AAn rfl (Ai.o2 p1) rfl Df fun Xv Xw Qp Qq Qr=>AB8 AA1 rfl De (fun h' hb=>AKi Qr hb (AQu (Ai.dj p1 p2 Zl _ (by simp [aO,aO2,Qp])) AQv)) (Zk (Zk (Zk ?_)));obtain ⟨Qs,Qt,Gm⟩:=Zp Qo;have Qu:UpT ([Aa] ++ []) Av Av:=UpT.start (ACk (AFa (Ai.b p2) rfl) all_nil);refine AAr (K':=(fun xr h'=> ∃ x:(Int) × (Int),(x.1,x.2)=Qs/\xr=(.int .i64 x.1)/\Kst h h' ((AFy Ai.L [1,2]).set 1 (aB 105 Aa [Ab,(.int .i64 x.2)]))/\UpT ([Aa] ++ []) Av h')) De rfl ?_ fun Xx Xy Qv=>?_
        ·refine cwf (l:=[_,_]) Tryz.func65 rfl rfl (Zn (AA3 (Zk ?_)));obtain ⟨Qw,Gn,Gp⟩:=Zp Qt;have Gq:UpT ([Aa] ++ []) Av Av:=UpT.start (ACk (AFa (Ai.b p2) rfl) all_nil);refine AAr (K':=(fun xr h'=> ∃ x:(Int) × (Int),(x.1,x.2)=Qw/\xr=(.int .i64 x.1)/\Kst h h' ((AFy Ai.L [1,2]).set 1 (aB 105 Aa [Ab,(.int .i64 x.2)]))/\UpT ([Aa] ++ []) Av h')) trivial rfl ?_ fun Xz X0 Qx=>?_
         ·refine cwf (l:=[_]) Tryz.func119 rfl rfl (Zn (Zv (Zo (Zo (AGh (Zk (ACm rfl (ACz ACo rfl (AA6 ABt rfl ((Ai.b p2).cell (i:=1) rfl) (Zk (ACm rfl (ACz AIl rfl (AA6 APe rfl ((Ai.b p2).cell (i:=0) rfl) (ABr AQb rfl H4 (ANn rfl rfl (Zr (⟨_,rfl,fun Dg=>?_,fun Dg=>?_⟩)))))))))))))))))
          ·refine Zn (Zv (Zy (AAc (⟨_,Zz,((0,Bx):(Int) × (Int)),?_,rfl,?_,?_⟩))))
           ·exact Zm (AA7 Gn Dg)
           ·exact Ai.sel [1,2] Zl
           ·exact Gq
          ·refine Zx (q_t (Zn (Zk (ACm rfl (ACz ACo rfl (AA6 ABt rfl ((Ai.b p2).cell (i:=1) rfl) (AAz rfl rfl (ACm rfl (ACz ACo rfl (AOo [Ab,(.int .i64 (w64 (Bx + 1)))] ABt rfl rfl rfl (Ai.b p2) (Nat.le_of_ble_eq_true rfl) rfl fun X3 Gr Gt=>Zr (Zo (AGh (Zk (ACm rfl (ACz AIl rfl ?_)))))))))))))));have Bz:=Ai.sb p2 Gt Gr rfl;refine AA6 APe rfl ((Bz.b p2).cell (i:=0) rfl) (Zk (ACm rfl (ACz ACo rfl (AA6 ABt rfl ((Bz.b p2).cell (i:=1) rfl) (AE4 rfl rfl ?_)))));obtain ⟨Qy,Qz,Q0⟩:=Zp (AA8 Gn Dg);refine AJb (c:=(cI .i8)) AQb rfl H4 rfl Qz fun X4 X5 X6 Q1 Q2=>?_;obtain rfl:=Q1;refine AA6 AYd rfl (AAu (Q2 0 _ rfl) Bz.x) (AK3 AYe AJa rfl (Zv (Zy (⟨_,Zz,(((w64 Qy),(w64 (Bx + 1))):(Int) × (Int)),?_,rfl,?_,?_⟩))))
           ·exact Zm Q0
           ·exact Bz.sel [1,2] Zl
           ·exact (Gq.then (Gr.stA Gt (AFa (Ai.b p2) rfl) rfl) (ALp rfl))
         obtain ⟨⟨Q3,Q4⟩,Q6,rfl,Gu,Q7⟩:=Qx;(try dsimp only [Kst.L,List.set,AFy,AI2] at Gu);refine ⟨trivial,?_⟩;subst Q6;(try dsimp only at Gp);refine AK3 AJa ARa rfl (AK3 ARa AQp rfl (Zk (ADo rfl rfl Zl (Zv (Zy (⟨_,Zz,(((Int.tmod (w64 (IntKind.wrap .u8 Q3)) 1),Q4):(Int) × (Int)),?_,rfl,?_,?_⟩))))))
         ·exact Zm Gp
         ·exact Gu
         ·exact (Qu.then Q7 (ACk (ALp rfl) all_nil))
        obtain ⟨⟨Q8,X8⟩,Q9,rfl,Dh,Rc⟩:=Qv;(try dsimp only [Kst.L,List.set,AFy,AI2] at Dh);refine ⟨(De.then Rc (ACk (ALp rfl) all_nil)),?_⟩;subst Q9;(try dsimp only at Gm);refine AAz rfl rfl ?_;obtain ⟨Ya,Gv,Rd⟩:=Zp Gm;refine AEa (m:=Db) AAj rfl (Ai.o2 p1) Qq Df rfl Gv fun Yb Re=>ALu (m:=Db) (AL2 AAt rfl rfl rfl) (Dh.o2 p0) Re Df Gv (show ((cI .i64)).rep _ (w64 (1 + Q8)) _ from rfl) fun Yc Rf Rg=>AAh (q_b (q_t (Z1 (AAz rfl rfl (Zk (Zr ?_))))));exact ⟨(_,_,_,_,_,_),(Zm Rd).symm,(Dh.uO2 p0 Rg Rf),rfl,trivial⟩
       ·have Gw:=Qc _ (Zm (AA8 By Dd)).symm;(try dsimp only at Gw);refine AAe (AAf (AAf (ABk (q_t (Zn (Zk (Zv (Zy (⟨_,Zz,((P6,Gk,P7,P8,P9,Bx):(LiI) × (Value) × LnA × LnN × LvA × (Int)),?_,rfl,?_⟩)))))))))
        ·exact Zm Gw
        ·exact Dc
      obtain ⟨⟨Rh,Gj,Ri,Rj,Rm,Rn⟩,Ro,rfl,Gx⟩:=Px;(try dsimp only [Kst.L,List.set,AFy,AI2] at Gx);refine ⟨trivial,?_⟩;subst Ro;(try dsimp only at Gi);refine AAi (AAh (q_b (q_t ?_)));exact ⟨((Rh,Gj,Ri,Rj,Rm,Rn):(LiI) × (Value) × LnA × LnN × LvA × (Int)),⟨Zm Gi,Gx⟩,rfl,trivial⟩
 rintro ⟨Yd,Rq,Ye,Yf,Yg,Rr⟩ Rs Rt ⟨Ru,Di⟩;(try dsimp only [Kst.L,List.set,AFy,AI2] at Di);refine (show W _ _ _ (setL [(7,Rq)] (mix _ Rs _)) Rt from ?_);subst Ru;(try dsimp only at Dy);refine Zo (Zn (Zk ?_));obtain ⟨Yh,Rv,Gy⟩:=Zp Dy;refine ADk Di (ASb (Di.o2 p0).rd Rv) fun Yi Yj A8=>ADp rfl (Zr (⟨_,rfl,fun Dj=>?_,fun Dj=>?_⟩))
 ·refine Zn (Zk (Zk ?_));obtain ⟨Rw,Rx,Gz⟩:=Zp (ifT Gy Dj);refine AAr (K':=(fun xr h'=> ∃ x:(LiI) × (Value) × LnA × LnN × LvA × (Int),(x.1,x.2.2.2.2.2)=Rw/\xr=x.2.1/\Kst h h' (aO2 (cI .i64) 60 2 x.2.2.1 x.2.2.2.1 x.2.2.2.2.1 x.2.1 x.1 :: (A8.L.set 1 (aB 105 Aa [Ab,(.int .i64 x.2.2.2.2.2)]))))) trivial rfl ?_ fun Ry Yk Rz=>?_
  ·refine cwf (l:=[_,_,_]) Tryz.func66 rfl rfl (Zn (AA3 (Zk ?_)));obtain ⟨R3,R4⟩:=ifN Rx;refine ARc (cI .i64) 2 AAn AMp rfl trivial tt2 rfl rfl Zl R3 fun R5 R6 R7 G3 Yl R8 R9 Sa=>Zv (Zo (Zn (Zk ?_)));have Dk:=A8.no2 R9 Sa R8;refine ABe AAn rfl (Dk.o2 p0).rd (Zk (Zr (Zt (AFr 4294959360 (fun x:(Int) × (Int) × (LiI) × LnA × LnN × LvA=>(x.1,x.2.1,x.2.2.1)) ((0,Rr,(List.replicate (Int.toNat (w64 (1 + (Int.tmod (w64 a1) Am)))) ([]:List Int)),R5,R6,R7):(Int) × (Int) × (LiI) × LnA × LnN × LvA) R4 (fun x=>[(13,(.int .i64 x.1))]) (fun x=>(Dk.L.set 0 (aO2 (cI .i64) 60 2 x.2.2.2.1 x.2.2.2.2.1 x.2.2.2.2.2 G3 x.2.2.1)).set 2 (aB 105 Aa [Ab,(.int .i64 x.2.1)])) Dk ⟨rfl,trivial⟩ ?_))));rintro ⟨Dl,B1,Sb,Sc,Sd,Se⟩ Sf Sg Ym Do B3 Sh;(try dsimp only [Kst.L,List.set,AFy,AI2] at Do);refine (show W _ _ _ (setL [(13,(.int .i64 Dl))] (mix _ Sf _)) Sg from ?_);(try dsimp only at B3);unfold ADt at B3;refine Zn (AAy rfl rfl (Zr (Zo (⟨_,rfl,fun Dp=>?_,fun Dp=>?_⟩))))
   ·refine Zx (q_t (Zo (Zt (Zn (Zk (AA3 (Zk (Zk (Zk ?_)))))))));obtain ⟨Si,Sj⟩:=ifN (AA7 B3 Dp);refine AQt (c:=(cI .i64)) (a:=0) AAj AJx rfl rfl (fun _=>rfl) rfl trivial tt2 rfl rfl Zl Si fun Yn Yo Yp Sk Sm Sn So=>?_;have A9:=Do.no Sm (AEv Sn So) Sk;obtain ⟨Yq,G4,Sq⟩:=Zp Sj;refine ACt AAn rfl (A9.o2 p1) rfl G4 fun Yr Ys Sr Yt Yu=>ARb AA1 (A9.o2 p1) G4 Sr rfl rfl (A9.o p0) (A9.dj p0 p1 Zl) fun Aw Ss St Su=>Zr (ACb (fun h'=>UpT ([Aa] ++ []) Aw h') Zw ?_);have Aj:=A9.m2 p0 p1 Zl St Ss (fun z hz=> .inl (Su z hz));have Dq:UpT ([Aa] ++ []) Aw Aw:=UpT.start (ACk (AFa (Aj.b p3) rfl) all_nil);refine Zk (Zk ?_);obtain ⟨Yv,Dr,Sv⟩:=Zp Sq;refine ACt AAn rfl (Aj.o2 p1) rfl Dr fun Yw Yx Sw Sx Sy=>AB8 AA1 rfl Dq (fun h' hb=>AKi Sy hb (AQu (Aj.dj p1 p3 Zl _ (by simp [aO,aO2,Sw])) AQv)) (Zk (Zk (Zk ?_)));obtain ⟨Sz,S5,G5⟩:=Zp Sv;have S7:UpT ([Aa] ++ []) Aw Aw:=UpT.start (ACk (AFa (Aj.b p3) rfl) all_nil);refine AAr (K':=(fun xr h'=> ∃ x:(Int) × (Int),(x.1,x.2)=Sz/\xr=(.int .i64 x.1)/\Kst h h' ((AFy Aj.L [1,2,3]).set 2 (aB 105 Aa [Ab,(.int .i64 x.2)]))/\UpT ([Aa] ++ []) Aw h')) Dq rfl ?_ fun Yy Yz Ta=>?_
    ·refine cwf (l:=[_,_]) Tryz.func65 rfl rfl (Zn (AA3 (Zk ?_)));obtain ⟨Tb,G6,G7⟩:=Zp S5;have G8:UpT ([Aa] ++ []) Aw Aw:=UpT.start (ACk (AFa (Aj.b p3) rfl) all_nil);refine AAr (K':=(fun xr h'=> ∃ x:(Int) × (Int),(x.1,x.2)=Tb/\xr=(.int .i64 x.1)/\Kst h h' ((AFy Aj.L [1,2,3]).set 2 (aB 105 Aa [Ab,(.int .i64 x.2)]))/\UpT ([Aa] ++ []) Aw h')) trivial rfl ?_ fun Y1 Y2 Tc=>?_
     ·refine cwf (l:=[_]) Tryz.func119 rfl rfl (Zn (Zv (Zo (Zo (AGh (Zk (ACm rfl (ACz ACo rfl (AA6 ABt rfl ((Aj.b p3).cell (i:=1) rfl) (Zk (ACm rfl (ACz AIl rfl (AA6 APe rfl ((Aj.b p3).cell (i:=0) rfl) (ABr AQb rfl H4 (ANn rfl rfl (Zr (⟨_,rfl,fun Ds=>?_,fun Ds=>?_⟩)))))))))))))))))
      ·refine Zn (Zv (Zy (AAc (⟨_,Zz,((0,B1):(Int) × (Int)),?_,rfl,?_,?_⟩))))
       ·exact Zm (AA7 G6 Ds)
       ·exact Aj.sel [1,2,3] Zl
       ·exact G8
      ·refine Zx (q_t (Zn (Zk (ACm rfl (ACz ACo rfl (AA6 ABt rfl ((Aj.b p3).cell (i:=1) rfl) (AAz rfl rfl (ACm rfl (ACz ACo rfl (AOo [Ab,(.int .i64 (w64 (B1 + 1)))] ABt rfl rfl rfl (Aj.b p3) (Nat.le_of_ble_eq_true rfl) rfl fun Y3 G9 Hb=>Zr (Zo (AGh (Zk (ACm rfl (ACz AIl rfl ?_)))))))))))))));have B4:=Aj.sb p3 Hb G9 rfl;refine AA6 APe rfl ((B4.b p3).cell (i:=0) rfl) (Zk (ACm rfl (ACz ACo rfl (AA6 ABt rfl ((B4.b p3).cell (i:=1) rfl) (AE4 rfl rfl ?_)))));obtain ⟨Td,Te,Tf⟩:=Zp (AA8 G6 Ds);refine AJb (c:=(cI .i8)) AQb rfl H4 rfl Te fun Y4 Y5 Y6 Tg Th=>?_;obtain rfl:=Tg;refine AA6 AYd rfl (AAu (Th 0 _ rfl) B4.x) (AK3 AYe AJa rfl (Zv (Zy (⟨_,Zz,(((w64 Td),(w64 (B1 + 1))):(Int) × (Int)),?_,rfl,?_,?_⟩))))
       ·exact Zm Tf
       ·exact B4.sel [1,2,3] Zl
       ·exact (G8.then (G9.stA Hb (AFa (Aj.b p3) rfl) rfl) (ALp rfl))
     obtain ⟨⟨Ti,Tj⟩,Tk,rfl,Hc,Tl⟩:=Tc;(try dsimp only [Kst.L,List.set,AFy,AI2] at Hc);refine ⟨trivial,?_⟩;subst Tk;(try dsimp only at G7);refine AK3 AJa ARa rfl (AK3 ARa AQp rfl (Zk (ADo rfl rfl Zl (Zv (Zy (⟨_,Zz,(((Int.tmod (w64 (IntKind.wrap .u8 Ti)) 2),Tj):(Int) × (Int)),?_,rfl,?_,?_⟩))))))
     ·exact Zm G7
     ·exact Hc
     ·exact (S7.then Tl (ACk (ALp rfl) all_nil))
    obtain ⟨⟨Tm,Y7⟩,Tn,rfl,Dt,To⟩:=Ta;(try dsimp only [Kst.L,List.set,AFy,AI2] at Dt);refine ⟨(Dq.then To (ACk (ALp rfl) all_nil)),?_⟩;subst Tn;(try dsimp only at G5);refine AAz rfl rfl ?_;obtain ⟨Y8,Hd,Tp⟩:=Zp G5;refine AEa (m:=Dl) AAj rfl (Aj.o2 p1) Sx Dr rfl Hd fun Y9 Tq=>ALu (m:=Dl) (AL2 AAt rfl rfl rfl) (Dt.o2 p0) Tq Dr Hd (show ((cI .i64)).rep _ (w64 (1 + Tm)) _ from rfl) fun Za Tr Ts=>AAh (q_b (q_t (Z1 (AAz rfl rfl (Zk (Zr ?_))))));exact ⟨(_,_,_,_,_,_),(Zm Tp).symm,(Dt.uO2 p0 Ts Tr),rfl,trivial⟩
   ·have He:=Sh _ (Zm (AA8 B3 Dp)).symm;(try dsimp only at He);refine AAe (AAf (AAf (ABk (q_t (Zn (Zk (Zv (Zy (⟨_,Zz,((Sb,G3,Sc,Sd,Se,B1):(LiI) × (Value) × LnA × LnN × LvA × (Int)),?_,rfl,?_⟩)))))))))
    ·exact Zm He
    ·exact Do
  obtain ⟨⟨Zd,Ry,Ze,Zf,Zg,Zh⟩,Tt,rfl,B5⟩:=Rz;(try dsimp only [Kst.L,List.set,AFy,AI2] at B5);refine ⟨trivial,?_⟩;subst Tt;(try dsimp only at Gz);refine Zv (Zy (AAc ?_));obtain rfl:=Zm Gz;exact ⟨_,Zz,B5.x,_,_,_,_,rfl,(B5.o2 p0),B5.s.sel [0] Zl⟩
 ·refine Zx (q_t (Zn (Zk (Zv (Zy ?_)))));obtain rfl:=Zm (AH9 Gy Dj);exact ⟨_,Zz,A8.x,_,_,_,_,rfl,(A8.o2 p0),A8.s.sel [0] Zl⟩
def ADn (fuel:Nat) (a1 a2:Int) (a5 a9:LiA) (Ae:Int):Option LiI:=
  ((ADm fuel a1 a2 a5 a9 Ae).bind fun Af=>((ADx fuel Af).bind fun Ag=>((AFf fuel Ag).bind fun (Ah,Ai,Aj)=>(some Ah))))
theorem ANt {fuel:Nat} {h:Zs} {a1 a2:Int} {Ac:Value} {a5:LiA} {Ad:Value} {a9:LiA} {Ai:Int} {r:LiI} (H4:SlC (cI .i8) h Ac a5) (H8:SlC (cI .i8) h Ad a9) (hp:ADn fuel a1 a2 a5 a9 Ai=some r):AAs Tryz.prog 7 #[(.agg #[(.int .u8 a1),(.int .u8 a2),Ac,Ad]),(.int .i64 Ai)] h (fun x h'=>Ext h h'/\ ∃ (x0:Value) (F0:List Nat) (Au:List LnA) (Av:List Value),x=x0/\ACp (cI .i64) 60 2 h' F0 Au Av x0 r/\Sp h' h.size [F0]):=by
 unfold ADn at hp;refine cwf (l:=[_,_]) Tryz.func7 rfl rfl (Zn (AHg (Kst.k0 h) [(.int .u8 a1),(.int .u8 a2),Ac,Ad] fun Bl Bm Bn Ae=>AA3 (AMo [(.int .u8 a1),(.int .u8 a2),Ac,Ad] Al4 rfl rfl (Ae.b p0).agg (Zk ?_))));obtain ⟨Bo,Aw,Ax⟩:=Zp hp;refine ANo Ae (ANs (H4.ext Ae.x) (H8.ext Ae.x) Aw) fun Bp Bq Br Bt Bu Bv Am=>?_;obtain ⟨Bw,Ay,Az⟩:=Zp Ax;refine ANo Am (AKl (Am.o2 p0).rd Ay) fun Bx By Bz B1 B3 B4 Ao=>?_;obtain ⟨⟨A3,A4,B5⟩,A5,Ap⟩:=Zp Az;dsimp only at Ap;refine AMx rfl (AP5 (Ao.o2 p0).rd A5) fun B6 B7 A6 A7=>?_;obtain ⟨A8,A9,Ba,Bb,Bc,Be,Bf,Bg,rfl,Bh,Bi,Bj⟩:=A7;have Af:=Ao.n A6 [aO2 (cI .i64) 60 2 A9 Ba Bb A8 A3,aO2 cZ 128 94 Be Bf Bg Bc A4] Bj ⟨Bh,Bi,trivial⟩;simp only [List.cons_append,List.nil_append] at Af;refine Zk (ABj rfl rfl (ABj rfl rfl (ABj rfl rfl (AAi (AAi (AA3 (Zk (Zv (Zy ?_)))))))));obtain rfl:=Zm Ap;exact ⟨_,Zz,Af.x,_,_,_,_,rfl,(Af.o2 p0),Af.s.sel [0] Zl⟩
end Go.Proofs.YtdkldlbgcfpglaaGreatDoor
