/-
  Texts of a proof, joined. Conditions stand in each statement.
-/
import Derived.Test.YtdkldlbgcfpglaaGreatDoorMJordanDecomposes2
set_option linter.unusedVariables false
set_option linter.unusedSimpArgs false
namespace Go.Proofs.YtdkldlbgcfpglaaGreatDoor
open Go Go.QF
set_option maxRecDepth 100000
set_option maxHeartbeats 4000000
abbrev LnN:=List (List Nat)
abbrev LnA:=List Nat
abbrev LvA:=List Value
abbrev LiI:=List (List Int)
abbrev LiA:=List Int
theorem Zl {α:Type _} {a b:α} (h:some a=some b):a=b:=Option.some.inj h
theorem tt2 {α:Sort _} {β:α->Sort _}:∀ x,β x->True:=fun _ _=>trivial
def ACp (fuel:Nat) (a1 a5:Int):Option Int:=
  ((AS4 fuel a1 a5).bind fun (Ac,Ad,Ae)=>(some Ac))
theorem AH8 {fuel:Nat} {h:Zu} {Ad:Value} {a1:Int} {Af:Value} {a5 r:Int} (H3:ZZ h Ad a1) (H7:ZZ h Af a5) (hp:ACp fuel a1 a5=some r):AAv Tryz.prog 107 #[Ad,Af] h (fun x h'=>Ext h h'/\ ∃ (x0:Value),x=x0/\ZZ h' x0 r):=by
 unfold ACp at hp;obtain ⟨Ar,rfl,Ai⟩:=H3.cs;obtain ⟨Au,rfl,Aj⟩:=H7.cs;refine cwf (l:=[_,_]) Tryz.func107 rfl rfl (Zn (AG8 (Kst.k0 h) Ar fun b9 Bc Be Av=>AG8 Av Au fun Bf Bg Bh Aw=>AC1 Aw [.bool false,.slice none 0 0] AE0 fun Bi Bj Bl Aa=>AH7 (AK0 (Aa.zx Ai) (Aa.b p2) (AK0 (Aa.zx Aj) (Aa.b p1) ?_))));obtain ⟨⟨Bm,Bn,Bo⟩,Ax,Ak⟩:=Zp hp;dsimp only at Ak;refine ANz rfl (Acd (Aa.zx Ai).2 (Aa.zx Aj).2 Ax) fun Bp Bq Ay Az=>?_;obtain ⟨Br,Bt,rfl,A3,A4⟩:=Az;obtain ⟨Bu,rfl,A5⟩:=A3.cs;obtain ⟨Bv,rfl,A6⟩:=A4.cs;refine Zj (ABl rfl rfl (ABl rfl rfl (ABl rfl rfl (AC1 (((Aa.e Ay).az A5).az A6) [.bool false,.slice none 0 0] AE0 fun Bw Bx By A7=>AC1 A7 [.bool false,.slice none 0 0] AE0 fun Bz A8 B1 Am=>AF7 Am p1 (AAe A8) (Am.z p3) fun A9 Ao=>AF7 Ao p0 (AAe A9) (Ao.z p2) fun Ba Ab=>AA4 (AK0 (Ab.z p3) (Ab.b p1) (AF7 Ab p4 (AAe Ba) (Ab.z p3) fun B3 Ac=>Zr (Zw ?_)))))));obtain rfl:=Zl Ak;exact ⟨_,ACb ABk (cZ.klen (Ac.z p3)) rfl (Ac.b p4),Ac.x,_,rfl,(Ac.z p3).2⟩
def ADw (fuel:Nat) (a1 a5:Int):Option Int:=
  ((AS4 fuel a1 a5).bind fun (Ad,Ac,Ae)=>(some Ac))
theorem AOw {fuel:Nat} {h:Zu} {Ad:Value} {a1:Int} {Af:Value} {a5 r:Int} (H3:ZZ h Ad a1) (H7:ZZ h Af a5) (hp:ADw fuel a1 a5=some r):AAv Tryz.prog 170 #[Ad,Af] h (fun x h'=>Ext h h'/\ ∃ (x0:Value),x=x0/\ZZ h' x0 r):=by
 unfold ADw at hp;obtain ⟨Ar,rfl,Ai⟩:=H3.cs;obtain ⟨Au,rfl,Aj⟩:=H7.cs;refine cwf (l:=[_,_]) Tryz.func170 rfl rfl (Zn (AG8 (Kst.k0 h) Ar fun b9 Bc Be Av=>AG8 Av Au fun Bf Bg Bh Aw=>AC1 Aw [.bool false,.slice none 0 0] AE0 fun Bi Bj Bl Aa=>AH7 (AK0 (Aa.zx Ai) (Aa.b p2) (AK0 (Aa.zx Aj) (Aa.b p1) ?_))));obtain ⟨⟨Bm,Bn,Bo⟩,Ax,Ak⟩:=Zp hp;dsimp only at Ak;refine ANz rfl (Acd (Aa.zx Ai).2 (Aa.zx Aj).2 Ax) fun Bp Bq Ay Az=>?_;obtain ⟨Br,Bt,rfl,A3,A4⟩:=Az;obtain ⟨Bu,rfl,A5⟩:=A3.cs;obtain ⟨Bv,rfl,A6⟩:=A4.cs;refine Zj (ABl rfl rfl (ABl rfl rfl (ABl rfl rfl (AC1 (((Aa.e Ay).az A5).az A6) [.bool false,.slice none 0 0] AE0 fun Bw Bx By A7=>AC1 A7 [.bool false,.slice none 0 0] AE0 fun Bz A8 B1 Am=>AF7 Am p1 (AAe A8) (Am.z p3) fun A9 Ao=>AF7 Ao p0 (AAe A9) (Ao.z p2) fun Ba Ab=>AA4 (AK0 (Ab.z p2) (Ab.b p0) (AF7 Ab p4 (AAe Ba) (Ab.z p2) fun B3 Ac=>Zr (Zw ?_)))))));obtain rfl:=Zl Ak;exact ⟨_,ACb ABk (cZ.klen (Ac.z p2)) rfl (Ac.b p4),Ac.x,_,rfl,(Ac.z p2).2⟩
def AK1 (fuel:Nat) (a1 a2 Aa:Int) (Ac:LiI):Option ((Int × LiI) ⊕ ((LiI))):=
  (if Aa < ((List.replicate (Int.toNat a1) ([]:List Int)).length:Int) then (if 0<=a2/\a2<=100000000 then ((gI Ac Aa).bind fun Ae=>(some (Sum.inl ((w64 (Aa + 1)),(sI Ac Aa (List.replicate (Int.toNat a2) (0:Int))))))) else none) else (some (Sum.inr<| Ac)))
def ADf (fuel:Nat) (a1 a2:Int):Option LiI:=
  (if 0<=a1/\a1<=100000000 then ((iter (fun s=>AK1 fuel a1 a2 s.1 s.2) fuel (0,(List.replicate (Int.toNat a1) ([]:List Int)))).bind (fun (Ac:LiI)=>(some Ac))) else none)
theorem AHm {fuel:Nat} {h:Zu} {a1 a2:Int} {r:LiI} (hp:ADf fuel a1 a2=some r):AAv Tryz.prog 92 #[(.int .i64 a1),(.int .i64 a2)] h (fun x h'=>Ext h h'/\ ∃ (x0:Value) (F0:List Nat) (Ak:List LnA) (Am:List Value),x=x0/\ACs cZ 128 94 h' F0 Ak Am x0 r/\Sp h' h.size [F0]):=by
 unfold ADf at hp;refine cwf (l:=[_,_]) Tryz.func92 rfl rfl (Zn (AA4 (Zj ?_)));obtain ⟨Ao,Ap⟩:=ifN hp;refine AR7 cZ 94 ABw Ae9 rfl trivial tt2 rfl rfl Zk Ao fun Aq Ar Au v9 h7 I8 E5 S6=>Zt (Zo (Zn (Zj ?_)));have Ad:=(Kst.k0 h).no2 E5 S6 I8;refine AA8 ABw rfl (Ad.o2 p0).rd (Zj (Zr (Zs (AFj 1046592 (fun x:(Int) × (LiI) × LnA × LnN × LvA=>(x.1,x.2.1)) ((0,(List.replicate (Int.toNat a1) ([]:List Int)),Aq,Ar,Au):(Int) × (LiI) × LnA × LnN × LvA) Ap (fun x=>[(11,(.int .i64 x.1))]) (fun x=>Ad.L.set 0 (aO2 cZ 128 94 x.2.2.1 x.2.2.2.1 x.2.2.2.2 v9 x.2.1)) Ad ⟨rfl,trivial⟩ ?_))));rintro ⟨Bg,Bh,Bi,Bj,Bl⟩ Bm Bn Bo Ab Ae Az;unfold AK1 at Ae;refine Zn (AAu rfl rfl (Zr (Zo (⟨_,rfl,fun Af=>?_,fun Af=>?_⟩))))
 ·refine Zv (q_t (Zo (Zs (Zn (Zj (Zt (AAa (Zj (Zj (Zj ?_))))))))));obtain ⟨A3,A4⟩:=ifN (AA5 Ae Af);refine Ag1 ACz AE0 rfl trivial tt2 rfl rfl Zk A3 fun Bp Bq Br A5 A6 A7 A8=>?_;have Aa:=Ab.no A6 (AE5 A7 A8) A5;obtain ⟨Bt,Aj,A9⟩:=Zp A4;refine AC2 ABw rfl (Aa.o2 p1) rfl Aj fun Bu Bv Ba Bw Bx=>AR6 ADv (Aa.o2 p1) Aj Ba rfl rfl (Aa.o p0) (Aa.dj p0 p1 Zk) fun By Bb Bc Be=>AAn (q_b (q_t (AAa (AA0 rfl rfl (Zj (Zr ?_))))));exact ⟨(_,_,_,_,_),(Zl A9).symm,(Aa.m2 p0 p1 Zk Bc Bb (fun z hz=> .inl (Be z hz))).sel [1] Zk,rfl,trivial⟩
 ·refine AAh (AAi (AAi (ABj (q_t (Zn (Zj (Zt (Zw ?_))))))));obtain rfl:=Zl (Az _ (Zl (AA6 Ae Af)).symm);exact ⟨_,Zy,Ab.x,_,_,_,_,rfl,(Ab.o2 p0),Ab.s.sel [0] Zk⟩
def AH9 (fuel:Nat) (a3:LiI) (Ab:Int) (Af:LiA) (Aa:Int) (Ac:LiI):Option ((Int × LiI) ⊕ ((LiI))):=
  (if Aa < (Af.length:Int) then ((gI Ac Ab).bind fun Ad=>((gI a3 Ab).bind fun Ag=>((gI Ag Aa).bind fun Ah=>((AKs fuel Ah).bind fun Ai=>((gI Ad Aa).bind fun Aj=>(some (Sum.inl ((w64 (Aa + 1)),(sI Ac Ab (sI Ad Aa Ai)))))))))) else (some (Sum.inr<| Ac)))
def AIa (fuel:Nat) (a3:LiI) (Aa:Int) (Ac:LiI):Option ((Int × LiI) ⊕ ((LiI))):=
  (if Aa < (a3.length:Int) then ((gI a3 Aa).bind fun Ad=>((iter (fun s=>AH9 fuel a3 Aa Ad s.1 s.2) fuel (0,Ac)).bind (fun (Ae:LiI)=>(some (Sum.inl ((w64 (Aa + 1)),Ae)))))) else (some (Sum.inr<| Ac)))
def AIb (fuel:Nat) (a3:LiI) (Ab:Int):Option ((Int) ⊕ (((LiI × Bool)) ⊕ (Unit))):=
  (if Ab < (a3.length:Int) then ((gI a3 Ab).bind fun Ac=>(if (Ac.length:Int) < 1 then (some (Sum.inr<| Sum.inl <| ([],false))) else (if 16 < (Ac.length:Int) then (some (Sum.inr<| Sum.inl <| ([],false))) else ((gI a3 0).bind fun Ad=>(if ¬ (Ac.length:Int)=(Ad.length:Int) then (some (Sum.inr<| Sum.inl <| ([],false))) else (some (Sum.inl (w64 (Ab + 1))))))))) else (some (Sum.inr<| Sum.inr <| ())))
def AB7 (fuel:Nat) (a3:LiI):Option (LiI × Bool):=
  (((if (a3.length:Int) < 1 then (some (Sum.inl <| ([],false))) else (if 16 < (a3.length:Int) then (some (Sum.inl <| ([],false))) else (some (Sum.inr <| ())))):Option (((LiI × Bool)) ⊕ (Unit))).bind (fun ex=>match ex with | Sum.inl Ab=>(some Ab) | Sum.inr (_)=>((iter (fun s=>AIb fuel a3 s) fuel 0).bind (fun ex=>match ex with | Sum.inl Ac=>(some Ac) | Sum.inr (_)=>((gI a3 0).bind fun Ad=>((ADf fuel (a3.length:Int) (Ad.length:Int)).bind fun Ae=>((iter (fun s=>AIa fuel a3 s.1 s.2) fuel (0,Ae)).bind (fun (Af:LiI)=>(some (Af,true))))))))))
theorem AMl {fuel:Nat} {h:Zu} {Ba:Value} {a3:LiI} {r:(LiI × Bool)} (H2:AC5 (cI .i64) h Ba a3) (hp:AB7 fuel a3=some r):AAv Tryz.prog 48 #[Ba] h (fun x h'=>Ext h h'/\ ∃ (x0:Value) (F0:List Nat) (Bq:List LnA) (Br:List Value),x= .tuple #[x0,.bool r.2]/\ACs cZ 128 94 h' F0 Bq Br x0 r.1/\Sp h' h.size [F0]):=by
 unfold AB7 at hp;refine cwf (l:=[_]) Tryz.func48 rfl rfl (Zn (AAl (Zt ?_)));have K0:=Kst.k0 h;obtain ⟨Bt,Be,Ao⟩:=Zp hp;refine AKb 130572 (fun x:Unit=>[]) (fun x h'=>(Sum.inr <| ())=Bt/\Kst h h' (K0.L)) ?_ ?_
 ·refine Zn (Zj (AA8 AAf rfl H2 (AAu rfl rfl (Zj ?_))));by_cases Ag:(a3.length:Int) < 1
  ·rw [decide_eq_true Ag];refine ADe 12 true (Z4 rfl (Zr (AAr rfl (Zn (AAl (Zt ?_))))));obtain rfl:=Zl (ifT Be Ag);refine Zw (AAc ?_);have Ap:=Kst.anil2 cZ 128 94 K0;obtain rfl:=Zl Ao;exact ⟨_,ABf,Ap.x,_,_,_,_,rfl,(Ap.o2 p0),Ap.s.sel [0] Zk⟩
  ·have Bf:=ifF Be Ag;rw [decide_eq_false Ag];refine AAb 12 false (Zj (AAb 12 false (AA8 AAf rfl H2 (AAb 12 false (AGb rfl rfl (Zz rfl (Zr (⟨_,rfl,fun Aq=>?_,fun Aq=>?_⟩))))))))
   ·refine Zn (AAl (Zt ?_));obtain rfl:=Zl (AA5 Bf Aq);refine Zw (AAc ?_);have Ar:=Kst.anil2 cZ 128 94 K0;obtain rfl:=Zl Ao;exact ⟨_,ABf,Ar.x,_,_,_,_,rfl,(Ar.o2 p0),Ar.s.sel [0] Zk⟩
   ·refine Zv (q_t ?_);exact ⟨(():Unit),⟨Zl (AA6 Bf Aq),K0⟩,trivial⟩
 rintro ⟨⟩ C3 C4 ⟨Bu,Bg⟩;subst Bu;refine Zo (Zn (Zj (AA8 AAf rfl H2 (Zj (Zr (Zs (AG4 2199022731308 Ao (fun x=>[(19,(.int .i64 x))]) (fun x=>Bg.L) Bg ⟨rfl,trivial⟩ ?_)))))));rintro C5 C6 C7 C8 Ab Au Ah;unfold AIb at Au;refine Zn (AAu rfl rfl (Zr (Zo (⟨_,rfl,fun Av=>?_,fun Av=>?_⟩))))
 ·refine Zv (q_t (Zo (Zs (Zn ?_))));obtain ⟨Bh,Bv,Bi⟩:=Zp (AA5 Au Av);refine AGs AAf AA2 H2 Ab.x Bv fun _ C9 Aw=>AA4 (Zj (ABm AAg rfl Aw (AAu rfl rfl (Zj ?_))));by_cases Ai:(Bh.length:Int) < 1
  ·rw [decide_eq_true Ai];refine ADe 26 true (Z4 rfl (Zj (ADq 31 true (AGz 31 true (Z4 rfl (Zr (AAr rfl (Zn (AAl (Zt (Zw (ABi (AAc (AAc (ABi (AAc ?_))))))))))))))));have Ax:=Kst.anil2 cZ 128 94 Ab;obtain rfl:=Zl (Ah _ (Zl (ifT Bi Ai)).symm);exact ⟨_,ABf,Ax.x,_,_,_,_,rfl,(Ax.o2 p0),Ax.s.sel [0] Zk⟩
  ·have Bj:=ifF Bi Ai;rw [decide_eq_false Ai];refine AAb 26 false (Zj (AAb 26 false (ABm AAg rfl Aw (AAb 26 false (AGb rfl rfl (Zz rfl (Zj ?_)))))));by_cases Aj:16 < (Bh.length:Int)
   ·rw [decide_eq_true Aj];refine ADq 31 true (AGz 31 true (Z4 rfl (Zr (AAr rfl (Zn (AAl (Zt (Zw (ABi (AAc (AAc (ABi (AAc ?_)))))))))))));have Ay:=Kst.anil2 cZ 128 94 Ab;obtain rfl:=Zl (Ah _ (Zl (ifT Bj Aj)).symm);exact ⟨_,ABf,Ay.x,_,_,_,_,rfl,(Ay.o2 p0),Ay.s.sel [0] Zk⟩
   ·rw [decide_eq_false Aj];refine AAb 31 false (Zj (AAb 31 false (ABm AAg rfl Aw (AAb 31 false (Zj (AAb 31 false ?_))))));obtain ⟨Da,Bw,Bl⟩:=Zp (ifF Bj Aj);refine AS2 AAf rfl H2 rfl Bw fun Db Dc Dd Bx By=>AAb 31 false (AA7 AA2 rfl (AAx Bx Ab.x) (AAb 31 false (ABm AAg rfl By (AAb 31 false (ACk rfl rfl (Zz rfl (Zr (⟨_,rfl,fun Az=>?_,fun Az=>?_⟩))))))))
    ·refine Zn (AAl (Zt (Zw (ABi (AAc (AAc (ABi (AAc ?_))))))));have A3:=Kst.anil2 cZ 128 94 Ab;obtain rfl:=Zl (Ah _ (Zl (AA5 Bl Az)).symm);exact ⟨_,ABf,A3.x,_,_,_,_,rfl,(A3.o2 p0),A3.s.sel [0] Zk⟩
    ·refine Zv (q_b (q_t (AAa (AA0 rfl rfl (Zj (Zr ?_))))));exact ⟨_,(Zl (AA6 Bl Az)).symm,Ab,rfl,trivial⟩
 ·refine AAh (AAi (AAi (ABj (q_t (Zn (Zj (AA8 AAf rfl H2 (Zj ?_))))))));obtain ⟨De,Bz,B1⟩:=Zp (Ah _ (Zl (AA6 Au Av)).symm);refine AGs AAf AA2 H2 Ab.x Bz fun _ Df B3=>ABm AAg rfl B3 ?_;obtain ⟨B4,B5,B6⟩:=Zp B1;refine AMv Ab (AHm B5) fun B7 B8 B9 Bm Dg Dh Bn=>Zt (Zo (Zn (Zj (AA8 AAf rfl H2 (Zj (Zr (Zs (AFj 151115726325928739996032 (fun x:(Int) × (LiI) × LnA × LnN × LvA=>(x.1,x.2.1)) ((0,B4,B7,B8,B9):(Int) × (LiI) × LnA × LnN × LvA) B6 (fun x=>[(50,(.int .i64 x.1))]) (fun x=>Bn.L.set 0 (aO2 cZ 128 94 x.2.2.1 x.2.2.2.1 x.2.2.2.2 Bm x.2.1)) Bn ⟨rfl,trivial⟩ ?_))))))));rintro ⟨Bo,Ca,Cb,Cd,Ce⟩ Di Dj Dk Ac A4 Cf;unfold AIa at A4;refine Zn (AAu rfl rfl (Zr (Zo (⟨_,rfl,fun A5=>?_,fun A5=>?_⟩))))
  ·refine Zv (q_t (Zo (Zs (Zn (Zj (AA4 (Zj (Zj ?_))))))));obtain ⟨Dl,Cg,Ch⟩:=Zp (AA5 A4 A5);refine AGs AAf AA2 H2 Ac.x Cg fun _ Do Ci=>ABm AAg rfl Ci (Zj (Zr (Zs (AFj 75557575495538171707648 (fun x:(Int) × (LiI) × LnA × LnN × LvA=>(x.1,x.2.1)) ((0,Ca,Cb,Cd,Ce):(Int) × (LiI) × LnA × LnN × LvA) Ch (fun x=>[(58,(.int .i64 x.1))]) (fun x=>Ac.L.set 0 (aO2 cZ 128 94 x.2.2.1 x.2.2.2.1 x.2.2.2.2 Bm x.2.1)) Ac ⟨rfl,trivial⟩ ?_))));rintro ⟨Dp,Dq,Dr,Ds,Dt⟩ Du A6 Dv Ad A7 Cj;unfold AH9 at A7;refine Zn (AAu rfl rfl (Zr (Zo (⟨_,rfl,fun A8=>?_,fun A8=>?_⟩))))
   ·refine Zv (q_t (Zo (Zs (Zn (Zj (Zt (ACd (fun h'=>UpT [] A6 h') Zx ?_)))))));have Ak:UpT [] A6 A6:=UpT.start all_nil;refine Zj (Zj ?_);obtain ⟨Dw,A9,Ck⟩:=Zp (AA5 A7 A8);refine AC2 ABw rfl (Ad.o2 p0) rfl A9 fun Dx Dy Dz Cm Cn=>ACf ADv rfl Ak (fun h' hb=>AAx Cn hb.ext) (Zj (Zj (Zj ?_)));obtain ⟨D0,Co,Cp⟩:=Zp Ck;refine AS2 AAf rfl H2 rfl Co fun D1 D2 D3 Cq Cr=>ACf AA2 rfl Ak (fun h' hb=>AAx Cq (Ad.x.trans hb.ext)) (Zj ?_);obtain ⟨D4,Ct,Cu⟩:=Zp Cp;refine AIw (c:=(cI .i64)) AAg rfl Cr rfl Ct fun D5 D6 D7 Cv Cw=>?_;obtain rfl:=Cv;refine ACf AAk rfl Ak (fun h' hb=>AAx (Cw 0 _ rfl) (Ad.x.trans hb.ext)) ?_;obtain ⟨D8,Cx,Cy⟩:=Zp Cu;refine AFi Ad Ak (AJy Cx) fun D9 Ea Eb Ae Ec=>?_;obtain ⟨Ed,Bp,Cz⟩:=Zp Cy;refine AE6 (m:=Bo) ACz rfl (Ad.o2 p0) Cm A9 rfl Bp fun Ee C0=>ANk (m:=Bo) (AR5 ABk (cZ.klen (Ae.z p0)) rfl rfl (cZ.one (Ae.z p0))) (Ae.o2 p1) C0 A9 Bp (Ae.z p0) fun Ef C1 C2=>AAn (q_b (q_t (AAa (AA0 rfl rfl (Zj (Zr ?_))))));exact ⟨(_,_,_,_,_),(Zl Cz).symm,(Ae.uO2 p1 C2 C1).sel [1] Zk,rfl,trivial⟩
   ·refine AAh (AAi (AAi (ABj (q_b (q_t (AAa (AA0 rfl rfl (Zj (Zr ?_)))))))));exact ⟨(_,_,_,_,_),(Zl (Cj _ (Zl (AA6 A7 A8)).symm)).symm,Ad,rfl,trivial⟩
  ·refine AAh (AAi (AAi (ABj (q_t (Zn (Zj (AAl (Zt (Zw ?_)))))))));obtain rfl:=Zl (Cf _ (Zl (AA6 A4 A5)).symm);exact ⟨_,ABf,Ac.x,_,_,_,_,rfl,(Ac.o2 p0),Ac.s.sel [0] Zk⟩
def ADm (fuel:Nat) (a3:LiI):Option LiI:=
  ((AB7 fuel a3).bind fun (x5,x6)=>(some x5))
theorem AI8 {fuel:Nat} {h:Zu} {Ab:Value} {a3 r:LiI} (H2:AC5 (cI .i64) h Ab a3) (hp:ADm fuel a3=some r):AAv Tryz.prog 25 #[Ab] h (fun x h'=>Ext h h'/\ ∃ (x0:Value) (F0:List Nat) (Ai:List LnA) (Aj:List Value),x=x0/\ACs cZ 128 94 h' F0 Ai Aj x0 r/\Sp h' h.size [F0]):=by
 unfold ADm at hp;refine cwf (l:=[_]) Tryz.func25 rfl rfl (Zn (AA4 (Zj ?_)));have K0:=Kst.k0 h;obtain ⟨⟨x5,x6⟩,Ak,Ag⟩:=Zp hp;dsimp only at Ag;refine ANz rfl (AMl (H2.ext K0.x) Ak) fun Av Aw E9 Ao=>?_;obtain ⟨Ax,Ay,Az,A3,rfl,Ap,Aq⟩:=Ao;refine Zj (ABl rfl rfl (ABl rfl rfl (AAl (AA4 (Zj (Zt (Zw ?_)))))));have Aa:=K0.no2 E9 Aq Ap;obtain rfl:=Zl Ag;exact ⟨_,Zy,Aa.x,_,_,_,_,rfl,(Aa.o2 p0),Aa.s.sel [0] Zk⟩
def AFk (fuel:Nat) (a3:LiI) (Ab:Int):Option ((Int) ⊕ (((Int × Int × Bool)) ⊕ (Unit))):=
  (if Ab < (a3.length:Int) then ((gI a3 Ab).bind fun Ac=>(if (Ac.length:Int) < 1 then (some (Sum.inr<| Sum.inl <| (0,0,false))) else (if 16 < (Ac.length:Int) then (some (Sum.inr<| Sum.inl <| (0,0,false))) else ((gI a3 0).bind fun Ad=>(if ¬ (Ac.length:Int)=(Ad.length:Int) then (some (Sum.inr<| Sum.inl <| (0,0,false))) else (some (Sum.inl (w64 (Ab + 1))))))))) else (some (Sum.inr<| Sum.inr <| ())))
def AB4 (fuel:Nat) (a3:LiI):Option (Int × Int × Bool):=
  (((if (a3.length:Int) < 1 then (some (Sum.inl <| (0,0,false))) else (if 16 < (a3.length:Int) then (some (Sum.inl <| (0,0,false))) else (some (Sum.inr <| ())))):Option (((Int × Int × Bool)) ⊕ (Unit))).bind (fun ex=>match ex with | Sum.inl Ab=>(some Ab) | Sum.inr (_)=>((iter (fun s=>AFk fuel a3 s) fuel 0).bind (fun ex=>match ex with | Sum.inl Ac=>(some Ac) | Sum.inr (_)=>((gI a3 0).bind fun Ad=>(some ((a3.length:Int),(Ad.length:Int),true)))))))
theorem AHb {fuel:Nat} {h:Zu} {Aq:Value} {a3:LiI} {r:(Int × Int × Bool)} (H2:AC5 cZ h Aq a3) (hp:AB4 fuel a3=some r):AAv Tryz.prog 116 #[Aq] h (fun x h'=>Ext h h'/\x= .tuple #[.int .i64 r.1,.int .i64 r.2.1,.bool r.2.2]):=by
 unfold AB4 at hp;refine cwf (l:=[_]) Tryz.func116 rfl rfl (Zn (AAl (AAl (Zt ?_))));have K0:=Kst.k0 h;obtain ⟨A3,Ar,Ai⟩:=Zp hp;refine AKb 32668 (fun x:Unit=>[]) (fun x h'=>(Sum.inr <| ())=A3/\Kst h h' (K0.L)) ?_ ?_
 ·refine Zn (Zj (AA8 ABw rfl H2 (AAu rfl rfl (Zj ?_))));by_cases Ad:(a3.length:Int) < 1
  ·rw [decide_eq_true Ad];refine ADe 10 true (Z4 rfl (Zr (AAr rfl (Zn (AAl (AAl (Zt ?_)))))));obtain rfl:=Zl (ifT Ar Ad);refine Zw (AAc ?_);obtain rfl:=Zl Ai;exact ⟨_,AKa,K0.x,rfl⟩
  ·have Au:=ifF Ar Ad;rw [decide_eq_false Ad];refine AAb 10 false (Zj (AAb 10 false (AA8 ABw rfl H2 (AAb 10 false (AGb rfl rfl (Zz rfl (Zr (⟨_,rfl,fun Aj=>?_,fun Aj=>?_⟩))))))))
   ·refine Zn (AAl (AAl (Zt ?_)));obtain rfl:=Zl (AA5 Au Aj);refine Zw (AAc ?_);obtain rfl:=Zl Ai;exact ⟨_,AKa,K0.x,rfl⟩
   ·refine Zv (q_t ?_);exact ⟨(():Unit),⟨Zl (AA6 Au Aj),K0⟩,trivial⟩
 rintro ⟨⟩ Bc Be ⟨A4,Av⟩;subst A4;refine Zo (Zn (Zj (AA8 ABw rfl H2 (Zj (Zr (Zs (AG4 549755682908 Ai (fun x=>[(17,(.int .i64 x))]) (fun x=>Av.L) Av ⟨rfl,trivial⟩ ?_)))))));rintro Bf Bg Bh Bi Aa Ak Ae;unfold AFk at Ak;refine Zn (AAu rfl rfl (Zr (Zo (⟨_,rfl,fun Am=>?_,fun Am=>?_⟩))))
 ·refine Zv (q_t (Zo (Zs (Zn ?_))));obtain ⟨Aw,A5,Ax⟩:=Zp (AA5 Ak Am);refine AGs ABw ADv H2 Aa.x A5 fun _ Bj Ao=>AA4 (Zj (ABm ACz rfl Ao (AAu rfl rfl (Zj ?_))));by_cases Af:(Aw.length:Int) < 1
  ·rw [decide_eq_true Af];refine ADe 24 true (Z4 rfl (Zj (ADq 29 true (AGz 29 true (Z4 rfl (Zr (AAr rfl (Zn (AAl (AAl (Zt (Zw (ABi (AAc (AAc (ABi (AAc ?_)))))))))))))))));obtain rfl:=Zl (Ae _ (Zl (ifT Ax Af)).symm);exact ⟨_,AKa,Aa.x,rfl⟩
  ·have Ay:=ifF Ax Af;rw [decide_eq_false Af];refine AAb 24 false (Zj (AAb 24 false (ABm ACz rfl Ao (AAb 24 false (AGb rfl rfl (Zz rfl (Zj ?_)))))));by_cases Ag:16 < (Aw.length:Int)
   ·rw [decide_eq_true Ag];refine ADq 29 true (AGz 29 true (Z4 rfl (Zr (AAr rfl (Zn (AAl (AAl (Zt (Zw (ABi (AAc (AAc (ABi (AAc ?_))))))))))))));obtain rfl:=Zl (Ae _ (Zl (ifT Ay Ag)).symm);exact ⟨_,AKa,Aa.x,rfl⟩
   ·rw [decide_eq_false Ag];refine AAb 29 false (Zj (AAb 29 false (ABm ACz rfl Ao (AAb 29 false (Zj (AAb 29 false ?_))))));obtain ⟨Bl,A6,Az⟩:=Zp (ifF Ay Ag);refine AS2 ABw rfl H2 rfl A6 fun Bm Bn Bo A7 A8=>AAb 29 false (AA7 ADv rfl (AAx A7 Aa.x) (AAb 29 false (ABm ACz rfl A8 (AAb 29 false (ACk rfl rfl (Zz rfl (Zr (⟨_,rfl,fun Ap=>?_,fun Ap=>?_⟩))))))))
    ·refine Zn (AAl (AAl (Zt (Zw (ABi (AAc (AAc (ABi (AAc ?_)))))))));obtain rfl:=Zl (Ae _ (Zl (AA5 Az Ap)).symm);exact ⟨_,AKa,Aa.x,rfl⟩
    ·refine Zv (q_b (q_t (AAa (AA0 rfl rfl (Zj (Zr ?_))))));exact ⟨_,(Zl (AA6 Az Ap)).symm,Aa,rfl,trivial⟩
 ·refine AAh (AAi (AAi (ABj (q_t (Zo (AF8 (Zj (AA8 ABw rfl H2 (Zj ?_)))))))));obtain ⟨Bp,A9,Ba⟩:=Zp (Ae _ (Zl (AA6 Ak Am)).symm);refine AGs ABw ADv H2 Aa.x A9 fun _ Bq Bb=>ABm ACz rfl Bb (AAl (AAl (Zt (Zw ?_))));obtain rfl:=Zl Ba;exact ⟨_,AKa,Aa.x,rfl⟩
def ADn (fuel:Nat) (a3:LiI):Option (Int × Bool):=
  ((AB4 fuel a3).bind fun (x5,x6,x7)=>(if (!x7)=true then (some (0,false)) else (if ¬ x5=x6 then (some (0,false)) else (some (x5,true)))))
theorem ANg {fuel:Nat} {h:Zu} {Ad:Value} {a3:LiI} {r:(Int × Bool)} (H2:AC5 cZ h Ad a3) (hp:ADn fuel a3=some r):AAv Tryz.prog 94 #[Ad] h (fun x h'=>Ext h h'/\x= .tuple #[.int .i64 r.1,.bool r.2]):=by
 unfold ADn at hp;refine cwf (l:=[_]) Tryz.func94 rfl rfl (Zn (AAl (AA4 (Zj ?_))));have K0:=Kst.k0 h;obtain ⟨⟨x5,x6,x7⟩,Ak,Aa⟩:=Zp hp;dsimp only at Aa;refine ACl K0 (AHb (H2.ext K0.x) Ak) fun Ap Aq Ab=>Zj (ABl rfl rfl (ABl rfl rfl (ABl rfl rfl (AAl (AAl (Zt (Zo (Zn (Zj (ACt rfl (Zj ?_)))))))))));cases Ag:(!x7)
 ·refine AAb 15 false (Zj (AAb 15 false (Zj (AAb 15 false (ACk rfl rfl (Zz rfl (Zr ?_)))))));have Ah:=AF9 Aa Ag;refine ⟨_,rfl,fun Ac=>?_,fun Ac=>?_⟩
  ·refine Zn (AAl (Zt (Zw (AAc ?_))));obtain rfl:=Zl (AA5 Ah Ac);exact ⟨_,ABf,Ab.x,rfl⟩
  ·refine Zv (q_t (Zn (Zj (AAl (Zt (Zw ?_))))));obtain rfl:=Zl (AA6 Ah Ac);exact ⟨_,ABf,Ab.x,rfl⟩
 ·refine ADe 15 true (Z4 rfl (Zr (AAr rfl (Zn (AAl (Zt (Zw (AAc ?_))))))));obtain rfl:=Zl (ifT Aa Ag);exact ⟨_,ABf,Ab.x,rfl⟩
def AK2 (fuel:Nat) (Ac:Int) (Ad:LiA) (Aa:Int) (Ab:LiI):Option ((Int × LiI) ⊕ ((LiI))):=
  (if Aa < (Ad.length:Int) then ((gI Ad Aa).bind fun Af=>((gI Ab Ac).bind fun Ae=>((AR8 fuel Af).bind fun Ag=>(if Ae.length<=100000000 then (some (Sum.inl ((w64 (Aa + 1)),(sI Ab Ac (Ae ++ [Ag]))))) else none)))) else (some (Sum.inr<| Ab)))
def AK3 (fuel:Nat) (a3:LiI) (Aa:Int) (Ac:LiI):Option ((Int × LiI) ⊕ ((LiI))):=
  (if Aa < (a3.length:Int) then ((gI a3 Aa).bind fun Ad=>((iter (fun s=>AK2 fuel Aa Ad s.1 s.2) fuel (0,Ac)).bind (fun (Ae:LiI)=>(some (Sum.inl ((w64 (Aa + 1)),Ae)))))) else (some (Sum.inr<| Ac)))
def AFx (fuel:Nat) (a3:LiI):Option LiI:=
  (if 0<=(a3.length:Int)/\(a3.length:Int)<=100000000 then ((iter (fun s=>AK3 fuel a3 s.1 s.2) fuel (0,(List.replicate (Int.toNat (a3.length:Int)) ([]:List Int)))).bind (fun (Ab:LiI)=>(some Ab))) else none)
theorem AN8 {fuel:Nat} {h:Zu} {Aq:Value} {a3 r:LiI} (H2:AC5 cZ h Aq a3) (hp:AFx fuel a3=some r):AAv Tryz.prog 57 #[Aq] h (fun x h'=>Ext h h'/\ ∃ (x0:Value) (F0:List Nat) (A4:List LnA) (A5:List Value),x=x0/\ACs cZ 128 94 h' F0 A4 A5 x0 r/\Sp h' h.size [F0]):=by
 unfold AFx at hp;refine cwf (l:=[_]) Tryz.func57 rfl rfl (Zn (AA4 (Zj (AA8 ABw rfl H2 ?_))));obtain ⟨A6,A7⟩:=ifN hp;refine AR7 cZ 94 ABw Ae9 rfl trivial tt2 rfl rfl Zk A6 fun A8 A9 Ba v11 h9 Bb E7 S8=>Zt (Zo (Zn (Zj (AA8 ABw rfl H2 (Zj (Zr (Zs ?_)))))));have Av:=(Kst.k0 h).no2 E7 S8 Bb;refine AFj 137438949456 (fun x:(Int) × (LiI) × LnA × LnN × LvA=>(x.1,x.2.1)) ((0,(List.replicate (Int.toNat (a3.length:Int)) ([]:List Int)),A8,A9,Ba):(Int) × (LiI) × LnA × LnN × LvA) A7 (fun x=>[(12,(.int .i64 x.1))]) (fun x=>Av.L.set 0 (aO2 cZ 128 94 x.2.2.1 x.2.2.2.1 x.2.2.2.2 v11 x.2.1)) Av ⟨rfl,trivial⟩ ?_;rintro ⟨Cg,Bf,Bg,Bh,Bi⟩ Ch Ci Cj Ab Ah Bj;unfold AK3 at Ah;refine Zn (AAu rfl rfl (Zr (Zo (⟨_,rfl,fun Ai=>?_,fun Ai=>?_⟩))))
 ·refine Zv (q_t (Zo (Zs (Zn (Zj (AA4 (Zj (Zj ?_))))))));obtain ⟨Ck,Bl,Bm⟩:=Zp (AA5 Ah Ai);refine AGs ABw ADv H2 Ab.x Bl fun _ Cm Aw=>ABm ACz rfl Aw (Zj (Zr (Zs (AFj 68718428224 (fun x:(Int) × (LiI) × LnA × LnN × LvA=>(x.1,x.2.1)) ((0,Bf,Bg,Bh,Bi):(Int) × (LiI) × LnA × LnN × LvA) Bm (fun x=>[(20,(.int .i64 x.1))]) (fun x=>Ab.L.set 0 (aO2 cZ 128 94 x.2.2.1 x.2.2.2.1 x.2.2.2.2 v11 x.2.1)) Ab ⟨rfl,trivial⟩ ?_))));rintro ⟨Cn,Co,Cp,Cq,Cr⟩ Ct Cu Cv Ad Aj Bn;unfold AK2 at Aj;refine Zn (AAu rfl rfl (Zr (Zo (⟨_,rfl,fun Ak=>?_,fun Ak=>?_⟩))))
  ·refine Zv (q_t (Zo (Zs (Zn ?_))));obtain ⟨Cw,Bo,Bp⟩:=Zp (AA5 Aj Ak);refine AIw (c:=cZ) ACz rfl Aw rfl Bo fun Cx Cy Bq Ae Br=>AN4 (c:=cZ) ABk rfl (Ad.zx Ae) (fun j u hu=>(AAx (Br j u hu) Ad.x)) (AC1 Ad [.bool false,.slice none 0 0] AE0 fun Cz Bt C0 Ax=>AF7 Ax p0 (AAe Bt) (Ax.zx Ae) fun Am Aa=>Zr ?_);obtain ⟨C1,Ao,Bu⟩:=Zp Bp;obtain ⟨Ay,Bv,Bw,Bx,By⟩:=(Aa.o2 p1).rowG Ao;refine ACd (fun h'=>UpT (Ay ++ []) Am h') Zx ?_;have Ac:UpT (Ay ++ []) Am Am:=UpT.start (ACu Bx all_nil);refine Zj (Zj (Zj (Zj (AC2 ABw rfl (Aa.o2 p1) rfl Ao fun C2 C3 Bz B1 B3=>ACf ADv rfl Ac (fun h' hb=>AMb B3 hb (ASm (By _ Bz) ASn)) (AH6 Bq ABk (cZ.klen (Aa.zx Ae)) rfl Ac (fun h' hb=>((Aa.b p0).upT hb (Am5 (fun b hb hg=>(Aa.dj p0 p1 Zk) b hb (Bw b hg)) Am6)).agg) ?_)))));obtain ⟨C4,B4,B5⟩:=Zp Bu;refine AEj Ac (fun _ E=>Ac.thenE E) rfl (ATy (Aa.zx Ae).2 B4) fun C5 C6 Az B6=>?_;obtain ⟨C7,rfl,B7⟩:=B6;have A3:=Ac.thenE Az;obtain ⟨C8,rfl,B8⟩:=B7.cs;have Ap:=(Aa.e Az).az B8;obtain ⟨B9,Ca⟩:=ifN B5;refine Akp ACz AE0 rfl rfl ABw ADv (Ap.o2 p2) B1 Ao Bv A3 (fun _ U=>A3.then U (ANf rfl)) (fun _=>rfl) rfl (Ap.z p0) (fun _ _=>rfl) (fun _ _=>rfl) rfl Zk B9 fun C9 Da Db Dc Dd De Df Cb Cd Ce=>AAn (q_b (q_t (AAa (AA0 rfl rfl (Zj (Zr ?_))))));exact ⟨(_,_,_,_,_),(Zl Ca).symm,(Ap.uo2 p2 Cd Cb Ce).sel [2] Zk,rfl,trivial⟩
  ·refine AAh (AAi (AAi (ABj (q_b (q_t (AAa (AA0 rfl rfl (Zj (Zr ?_)))))))));exact ⟨(_,_,_,_,_),(Zl (Bn _ (Zl (AA6 Aj Ak)).symm)).symm,Ad,rfl,trivial⟩
 ·refine AAh (AAi (AAi (ABj (q_t (Zn (Zj (Zt (Zw ?_))))))));obtain rfl:=Zl (Bj _ (Zl (AA6 Ah Ai)).symm);exact ⟨_,Zy,Ab.x,_,_,_,_,rfl,(Ab.o2 p0),Ab.s.sel [0] Zk⟩
def AJk (fuel:Nat) (a3:LiI) (Ac:LiA) (Ae:Int) (Aa:LiA) (Ab:Int):Option ((LiA × Int) ⊕ ((LiA))):=
  (if Ab < (Ac.length:Int) then ((gI Ac Ab).bind fun Af=>((gI a3 Ae).bind fun Ag=>((gI Ag Af).bind fun Ah=>(if Aa.length<=100000000 then (some (Sum.inl ((Aa ++ [Ah]),(w64 (Ab + 1))))) else none)))) else (some (Sum.inr<| Aa)))
def AJl (fuel:Nat) (a3:LiI) (a7 Ae:LiA) (Aa:LiI) (Ab:Int):Option ((LiI × Int) ⊕ ((LiI))):=
  (if Ab < (a7.length:Int) then ((gI a7 Ab).bind fun Af=>((iter (fun s=>AJk fuel a3 Ae Af s.1 s.2) fuel ([],0)).bind (fun (Ag:LiA)=>(if Aa.length<=100000000 then (some (Sum.inl ((Aa ++ [Ag]),(w64 (Ab + 1))))) else none)))) else (some (Sum.inr<| Aa)))
def AEl (fuel:Nat) (a3:LiI) (a7 Ac:LiA):Option LiI:=
  ((iter (fun s=>AJl fuel a3 a7 Ac s.1 s.2) fuel ([],0)).bind (fun (Ad:LiI)=>(some Ad)))
theorem ANh {fuel:Nat} {h:Zu} {Ag:Value} {a3:LiI} {Ai:Value} {a7:LiA} {Ak:Value} {Am:LiA} {r:LiI} (H2:AC5 cZ h Ag a3) (H6:SlC (cI .i64) h Ai a7) (Ap:SlC (cI .i64) h Ak Am) (hp:AEl fuel a3 a7 Am=some r):AAv Tryz.prog 149 #[Ag,Ai,Ak] h (fun x h'=>Ext h h'/\ ∃ (x0:Value) (F0:List Nat) (Ay:List LnA) (Az:List Value),x=x0/\ACs cZ 128 94 h' F0 Ay Az x0 r/\Sp h' h.size [F0]):=by
 unfold AEl at hp;refine cwf (l:=[_,_,_]) Tryz.func149 rfl rfl (Zn (AA4 (Zt (Zo (Zn (Zj (ABm AWb rfl H6 (Zj (Zr (Zs ?_))))))))));have Au:=Kst.anil2 cZ 128 94 (Kst.k0 h);refine AFj 2199023228544 (fun x:(LiI) × (Value) × LnA × LnN × LvA × (Int)=>(x.1,x.2.2.2.2.2)) (([],(.slice none 0 0),[],[],[],0):(LiI) × (Value) × LnA × LnN × LvA × (Int)) hp (fun x=>[(7,x.2.1),(15,(.int .i64 x.2.2.2.2.2))]) (fun x=>Au.L.set 0 (aO2 cZ 128 94 x.2.2.1 x.2.2.2.1 x.2.2.2.2.1 x.2.1 x.1)) Au ⟨rfl,rfl,trivial⟩ ?_;rintro ⟨Br,Bt,Bu,Bv,Bw,Bx⟩ By Bz B1 Ab Ac A3;unfold AJl at Ac;refine Zn (AAu rfl rfl (Zr (Zo (⟨_,rfl,fun Ad=>?_,fun Ad=>?_⟩))))
 ·refine Zv (q_t (Zo (Zs (Zn ?_))));obtain ⟨B3,A4,A5⟩:=Zp (AA5 Ac Ad);refine AUi AWb ABt H6 Ab.x A4 fun _=>(AA4 (Zt (Zo (Zn (Zj (ABm AWb rfl Ap (Zj (Zr (Zs ?_)))))))));have Av:=Kst.anil cZ 94 Ab;refine AFj 68717384704 (fun x:(LiA) × (Value) × LnA × (Int)=>(x.1,x.2.2.2)) (([],(.slice none 0 0),[],0):(LiA) × (Value) × LnA × (Int)) A5 (fun x=>[(10,x.2.1),(21,(.int .i64 x.2.2.2))]) (fun x=>Av.L.set 0 (aO cZ 94 x.2.2.1 x.2.1 x.1)) Av ⟨rfl,rfl,trivial⟩ ?_;rintro ⟨B4,B5,B6,B7⟩ B8 B9 Ca Aa Ae A6;unfold AJk at Ae;refine Zn (AAu rfl rfl (Zr (Zo (⟨_,rfl,fun Af=>?_,fun Af=>?_⟩))))
  ·refine Zv (q_t (Zo (Zs (Zn ?_))));obtain ⟨Cb,A7,A8⟩:=Zp (AA5 Ae Af);refine AUi AWb ABt Ap Aa.x A7 fun _=>(Zt (AAa (Zj (Zj (Zj ?_)))));obtain ⟨Cd,A9,Ba⟩:=Zp A8;refine AGs ABw ADv H2 Aa.x A9 fun _ Ce Bb=>Zj ?_;obtain ⟨Cf,Bc,Be⟩:=Zp Ba;refine AIw (c:=cZ) ACz rfl Bb rfl Bc fun Cg Ch Ci Aw Bf=>AN4 (c:=cZ) ABk rfl (Aa.zx Aw) (fun j u hu=>(AAx (Bf j u hu) Aa.x)) ?_;obtain ⟨Bg,Bh⟩:=ifN Be;refine ALo ACz AE0 rfl rfl trivial tt2 (fun _=>rfl) rfl (Aa.zx Aw) (Aa.o p0) Zk Bg fun Cj Ck Cm Cn Bi Bj Bl=>AAl (AAn (q_b (q_t (AAa (AA0 rfl rfl (Zj (Zr ?_)))))));exact ⟨(_,_,_,_),(Zl Bh).symm,(Aa.uo p0 Bj Bi Bl),rfl,rfl,trivial⟩
  ·refine AAh (AAi (AAi (ABj (q_t (AAa (Zj (Zj ?_)))))));obtain ⟨Bm,Bn⟩:=ifN (A6 _ (Zl (AA6 Ae Af)).symm);refine AXe ABw Ae9 rfl rfl trivial tt2 (fun _=>rfl) rfl (Aa.o p0) (Aa.o2 p1) (Aa.dj p0 p1 Zk) Zk Bm fun Co Cp Cq Cr Bo Bp Bq=>AAl (AAn (q_b (q_t (AAa (AA0 rfl rfl (Zj (Zr ?_)))))));exact ⟨(_,_,_,_,_,_),(Zl Bn).symm,(Aa.m2 p0 p1 Zk Bp Bo Bq).sel [1] Zk,rfl,rfl,trivial⟩
 ·refine AAh (AAi (AAi (ABj (q_t (Zn (Zj (Zt (Zw ?_))))))));obtain rfl:=Zl (A3 _ (Zl (AA6 Ac Ad)).symm);exact ⟨_,Zy,Ab.x,_,_,_,_,rfl,(Ab.o2 p0),Ab.s.sel [0] Zk⟩
def AEm (fuel:Nat) (Ab:LiI) (Ac:Int) (Ad:LiI) (Aa:Int):Option ((Int) ⊕ ((Int))):=
  (((if Aa < (Ab.length:Int) then ((gI Ad Aa).bind fun Ae=>((gI Ae Ac).bind fun Af=>((AYk fuel Af).bind fun Ag=>(if Ag=0 then (some (Sum.inl <| ())) else (some (Sum.inr <| ())))))) else (some (Sum.inr <| ()))):Option ((Unit) ⊕ (Unit))).bind (fun ex=>match ex with | Sum.inl _=>(some (Sum.inl (w64 (Aa + 1)))) | Sum.inr (_)=>(some (Sum.inr<| Aa))))
def AEn (fuel:Nat) (Ag:LiI) (Ac Ah Ae Aa:Int) (Ab:LiI):Option ((Int × LiI) ⊕ ((LiI))):=
  (if Aa < (Ag.length:Int) then ((gI Ab Ae).bind fun Ad=>((gI Ab Ac).bind fun Af=>((gI Af Ac).bind fun Ai=>((gI Ad Aa).bind fun Aj=>((ARe fuel Ai Aj).bind fun Ak=>((gI Ad Ac).bind fun Am=>((gI Af Aa).bind fun Ao=>((ARe fuel Am Ao).bind fun Ap=>((Ast fuel Ak Ap).bind fun Aq=>((ACp fuel Aq Ah).bind fun Ar=>(some (Sum.inl ((w64 (Aa + 1)),(sI Ab Ae (sI Ad Aa Ar))))))))))))))) else (some (Sum.inr<| Ab)))
def AEo (fuel:Nat) (Ab:LiI) (Ac Ae Aa:Int) (Ad:LiI):Option ((Int × LiI) ⊕ ((LiI))):=
  (if Aa < (Ab.length:Int) then ((iter (fun s=>AEn fuel Ab Ac Ae Aa s.1 s.2) fuel ((w64 (Ac + 1)),Ad)).bind (fun (Af:LiI)=>(some (Sum.inl ((w64 (Aa + 1)),Af))))) else (some (Sum.inr<| Ad)))
def AEp (fuel:Nat) (Ac:LiI) (Ae:Bool) (Aa:Int) (Ab:LiI) (Af:Int):Option ((Bool × Int × LiI × Int) ⊕ ((Int) ⊕ (Bool × Int))):=
  (if Aa < (Ac.length:Int) then ((((((iter (fun s=>AEm fuel Ac Aa Ab s) fuel Aa).bind (fun (Ah:Int)=>(some ( Ah)))):Option ((Int))).bind (fun (Ad:Int)=>(if Ad=(Ac.length:Int) then (some (Sum.inl <| 0)) else (((if Aa < Ad then ((gI Ab Aa).bind fun Ai=>((gI Ab Ad).bind fun Aj=>(some ( ((!Ae),(sI (sI Ab Ad Ai) Aa Aj)))))) else (some ( (Ae,Ab)))):Option ((Bool × LiI))).bind (fun ((Ak,Am):Bool × LiI)=>((iter (fun s=>AEo fuel Ac Aa Af s.1 s.2) fuel ((w64 (Aa + 1)),Am)).bind (fun (Ag:LiI)=>((gI Ag Aa).bind fun Ao=>((gI Ao Aa).bind fun Ap=>(some (Sum.inr <| (Ak,Ag,Ap)))))))))))):Option ((Int) ⊕ (Bool × LiI × Int))).bind (fun ex=>match ex with | Sum.inl Aq=>(some (Sum.inr<| Sum.inl <| Aq)) | Sum.inr ((Ar,Au,Av))=>(some (Sum.inl (Ar,(w64 (Aa + 1)),Au,Av))))) else (some (Sum.inr<| Sum.inr <| (Ae,Af))))
def ABe (fuel:Nat) (a3:LiI):Option Int:=
  ((AFx fuel a3).bind fun Aa=>((AKs fuel 1).bind fun Ad=>((iter (fun s=>AEp fuel Aa s.1 s.2.1 s.2.2.1 s.2.2.2) fuel (false,0,Aa,Ad)).bind (fun ex=>match ex with | Sum.inl Ae=>(some Ae) | Sum.inr ((Af,Ab))=>(if Af=true then ((Afa fuel Ab).bind fun Ag=>(some Ag)) else (some Ab))))))
theorem ACm {fuel:Nat} {h:Zu} {Bj:Value} {a3:LiI} {r:Int} (H2:AC5 cZ h Bj a3) (hp:ABe fuel a3=some r):AAv Tryz.prog 55 #[Bj] h (fun x h'=>Ext h h'/\ ∃ (x0:Value),x=x0/\ZZ h' x0 r):=by
 unfold ABe at hp;refine cwf (l:=[_]) Tryz.func55 rfl rfl (Zn (AC1 (Kst.k0 h) [.bool false,.slice none 0 0] AE0 fun b5 h6 E8 Bn=>AH7 (Zj ?_)));obtain ⟨Bo,Cx,Cy⟩:=Zp hp;refine AMv Bn (AN8 (H2.ext Bn.x) Cx) fun Cz C0 C1 v20 Gh Gi Bp=>AA4 (Zj (AA8 ABw rfl (Bp.o2 p0).rd (AA4 ?_)));obtain ⟨C2,C3,C4⟩:=Zp Cy;refine ANo Bp (AJy C3) fun C5 Gj Gk C6=>AC1 C6 [.bool false,.slice none 0 0] AE0 fun Bq C7 Gl Br=>AF7 Br p0 (AAe C7) (Br.z p1) fun Gm Bt=>Zt (Zo (Zn (Zt (Zs (AFj 2658455991569831745807614120560625600 (fun x:(Bool) × (Int) × (LiI) × LnA × LnN × LvA × (Int) × LvA=>(x.1,x.2.1,x.2.2.1,x.2.2.2.2.2.2.1)) ((false,0,Bo,Cz,C0,C1,C2,C5):(Bool) × (Int) × (LiI) × LnA × LnN × LvA × (Int) × LvA) C4 (fun x=>[(6,(.bool x.1)),(7,(.int .i64 x.2.1))]) (fun x=>((Bt.L.set 2 (aO2 cZ 128 94 x.2.2.2.1 x.2.2.2.2.1 x.2.2.2.2.2.1 v20 x.2.2.1)).set 1 (aZ x.2.2.2.2.2.2.2 x.2.2.2.2.2.2.1)).set 0 (aB 94 Bq x.2.2.2.2.2.2.2)) Bt ⟨rfl,rfl,trivial⟩ ?_)))));rintro ⟨Bu,Ag,Bv,C8,C9,Da,Gn,Gp⟩ Gq Db Gr Ab Ax Bw;unfold AEp at Ax;refine Zo (Zn (Zj (Zj (AAu rfl rfl (Zr (⟨_,rfl,fun Ay=>?_,fun Ay=>?_⟩))))))
 ·refine Zv (q_t ?_);obtain ⟨Dc,Dd,Bx⟩:=Zp (AA5 Ax Ay);refine AKb 2658455991569831745807614120558593856 (fun x:(Bool) × (LiI) × LnA × LnN × LvA × (Int) × LvA=>[(6,(.bool x.1))]) (fun x h'=>(Sum.inr <| (x.1,x.2.1,x.2.2.2.2.2.1))=Dc/\Kst h h' (((Ab.L.set 2 (aO2 cZ 128 94 x.2.2.1 x.2.2.2.1 x.2.2.2.2.1 v20 x.2.1)).set 1 (aZ x.2.2.2.2.2.2 x.2.2.2.2.2.1)).set 0 (aB 94 Bq x.2.2.2.2.2.2))) ?_ ?_
  ·refine Zs (Zn (Zj (Zt ?_)));obtain ⟨De,Df,By⟩:=Zp Dd;refine AKb 274873712896 (fun x:(Int)=>[(8,(.int .i64 x))]) (fun x h'=>( x)=De/\Kst h h' (Ab.L)) ?_ ?_
   ·refine Zs (AG4 274873712896 Df (fun x=>[(8,(.int .i64 x))]) (fun x=>Ab.L) Ab ⟨rfl,trivial⟩ ?_);rintro Am Gt Gu Gv Ah Bz B1;unfold AEm at Bz;obtain ⟨Dg,B3,Az⟩:=Zp Bz;refine AKb 68715282432 (fun x:Unit=>[]) (fun x h'=>(Sum.inl <| ())=Dg/\Kst h h' (Ah.L)) ?_ ?_
    ·refine Zn (Zj (Zj (AAu rfl rfl (Zj ?_))));by_cases Ao:Am < (Bo.length:Int)
     ·rw [decide_eq_true Ao];refine AAb 25 true (Zj (AAb 25 true (Zj (AAb 25 true ?_))));obtain ⟨Gw,A3,Dh⟩:=Zp (ifT B3 Ao);refine AC2 ABw rfl (Ah.o2 p2) rfl A3 fun Gx Gy Gz Di Dj=>AAb 25 true (AA7 ADv rfl Dj (AAb 25 true (Zj (AAb 25 true ?_))));obtain ⟨G3,B4,Dk⟩:=Zp Dh;refine AE6 (m:=Am) ACz rfl (Ah.o2 p2) Di A3 rfl B4 fun G4 Dl=>AAb 25 true ?_;obtain ⟨G5,Do,Dp⟩:=(Ah.o2 p2).cells Dl A3 B4;have A4:=Ah.az Do;refine AN4 (c:=cZ) ABk rfl (A4.z p0) (fun j u hu=>(Dp j u hu)) (AAb 25 true ?_);obtain ⟨G6,Dq,B5⟩:=Zp Dk;refine ACl A4 (AXk (A4.z p0).2 Dq) fun G7 G8 B6=>AAb 25 true (AB2 rfl rfl (Z4 rfl (Zr (⟨_,rfl,fun A5=>?_,fun A5=>?_⟩))))
      ·refine Zv (q_t ?_);exact ⟨(():Unit),⟨Zl (AA5 B5 A5),B6.sel [1,2,3,4] Zk⟩,trivial⟩
      ·obtain rfl:=Zl (AA6 B5 A5);refine AAh (AAi (AAi (ABj (q_t ?_))));exact ⟨(Am:(Int)),⟨Zl (B1 _ (Zl Az).symm),B6.sel [1,2,3,4] Zk⟩,rfl,trivial⟩
     ·rw [decide_eq_false Ao];refine ADq 25 false (ADb 25 false (Zz rfl (Zr (AAw rfl ?_))));obtain rfl:=Zl (ifF B3 Ao);refine AAh (AAi (AAi (ABj (q_t ?_))));exact ⟨(Am:(Int)),⟨Zl (B1 _ (Zl Az).symm),Ah⟩,rfl,trivial⟩
    rintro ⟨⟩ G9 Hb ⟨Dr,Ds⟩;subst Dr;refine Zs (AAa (Zj (AA0 rfl rfl (AAl (AAn (q_b (q_t ?_)))))));exact ⟨_,(Zl Az).symm,Ds,rfl,trivial⟩
   rintro Dt Hc B7 ⟨Du,Ae⟩;subst Du;refine Zo (Zn (Zj (Zj (AB2 rfl rfl (Zr (⟨_,rfl,fun A6=>?_,fun A6=>?_⟩))))))
   ·refine Zn (ADl (AOu ) (AF7 Ae p3 (AAe B7) (AAe B7) fun B8 B9=>Zr ?_));obtain rfl:=Zl (AA5 By A6);refine Zw (AAc (ABi (AAc (AAc (ABi (AAc ?_))))));obtain rfl:=Zl (Bw _ (Zl Bx).symm);exact ⟨_,ACb ABk (cZ.klen (AAe B8)) rfl (B9.b p3),B9.x,_,rfl,(AAe B8).2⟩
   ·refine Zv (q_t ?_);obtain ⟨Dv,Ca,Dw⟩:=Zp (AA6 By A6);refine AKb 2305838611167182912 (fun x:(Bool) × (LiI) × LnA × LnN × LvA=>[(6,(.bool x.1))]) (fun x h'=>( (x.1,x.2.1))=Dv/\Kst h h' (Ae.L.set 2 (aO2 cZ 128 94 x.2.2.1 x.2.2.2.1 x.2.2.2.2 v20 x.2.1))) ?_ ?_
    ·refine Zn (Zj (Zj (AGb rfl rfl (Zr (⟨_,rfl,fun A7=>?_,fun A7=>?_⟩)))))
     ·refine Zo (AF8 (Zj (Zj (Zj (Zj (Zj (Zj ?_)))))));obtain ⟨Dx,Cb,Dy⟩:=Zp (AA5 Ca A7);refine ABy ABw ADv (Ae.o2 p2) Cb fun _ Hd Dz=>Zj (Zj ?_);obtain ⟨D0,Cd,D1⟩:=Zp Dy;refine ABy ABw ADv (Ae.o2 p2) Cd fun _ He D2=>ARd ABw ADv (Ae.o2 p2) D2 Dz Cd Cb rfl rfl (fun _=>rfl) (fun _=>rfl) (fun _=>rfl) (fun _ _=>rfl) fun Hf Hg D3 D4 D5 Hh D6 D7 D8=>Zr (AAa (Zj (ACt rfl (Zt ?_))));exact ⟨(((!Bu),(sI (sI Bv Dt Dx) Ag D0),D3,D4,D5):(Bool) × (LiI) × LnA × LnN × LvA),⟨Zl D1,(Ae.uo2 p2 D7 D6 D8)⟩,rfl,trivial⟩
     ·refine Zv (q_t ?_);exact ⟨((Bu,Bv,C8,C9,Da):(Bool) × (LiI) × LnA × LnN × LvA),⟨Zl (AA6 Ca A7),Ae⟩,rfl,trivial⟩
    rintro ⟨D9,Ea,Eb,Ec,Ed⟩ Hj Hk ⟨Ee,Ce⟩;subst Ee;refine Zo (Zn (Zj (AA0 rfl rfl (Zt (Zs (AFj 20769187434139301290749948462106112 (fun x:(Int) × (LiI) × LnA × LnN × LvA=>(x.1,x.2.1)) (((w64 (Ag + 1)),Ea,Eb,Ec,Ed):(Int) × (LiI) × LnA × LnN × LvA) Dw (fun x=>[(9,(.int .i64 x.1))]) (fun x=>Ce.L.set 2 (aO2 cZ 128 94 x.2.2.1 x.2.2.2.1 x.2.2.2.2 v20 x.2.1)) Ce ⟨rfl,trivial⟩ ?_))))));rintro ⟨Ap,Cf,Cg,Ch,Ci⟩ Hl Hm Hn Ai A8 Ef;unfold AEo at A8;refine Zo (Zn (Zj (Zj (AAu rfl rfl (Zr (⟨_,rfl,fun A9=>?_,fun A9=>?_⟩))))))
    ·refine Zv (q_t (Zo (Zs (Zn (Zj (AA0 rfl rfl (Zt (Zs (AFj 20769187434138129922501267905577984 (fun x:(Int) × (LiI) × LnA × LnN × LvA=>(x.1,x.2.1)) (((w64 (Ag + 1)),Cf,Cg,Ch,Ci):(Int) × (LiI) × LnA × LnN × LvA) (AA5 A8 A9) (fun x=>[(10,(.int .i64 x.1))]) (fun x=>Ai.L.set 2 (aO2 cZ 128 94 x.2.2.1 x.2.2.2.1 x.2.2.2.2 v20 x.2.1)) Ai ⟨rfl,trivial⟩ ?_)))))))));rintro ⟨Ho,Hq,Hr,Hs,Ht⟩ Hu Ba Hv Aa Bb Eg;unfold AEn at Bb;refine Zo (Zn (Zj (Zj (AAu rfl rfl (Zr (⟨_,rfl,fun Bc=>?_,fun Bc=>?_⟩))))))
     ·refine Zv (q_t (Zo (Zs (ACd (fun h'=>UpT [] Ba h') Zx ?_))));have Ad:UpT [] Ba Ba:=UpT.start all_nil;refine Zj (Zj ?_);obtain ⟨Hw,Ac,Eh⟩:=Zp (AA5 Bb Bc);refine AC2 ABw rfl (Aa.o2 p2) rfl Ac fun Hx Hy Hz Ei Ej=>ACf ADv rfl Ad (fun h' hb=>AAx Ej hb.ext) (Zj (Zj (Zj ?_)));obtain ⟨H5,Aj,Ek⟩:=Zp Eh;refine AC2 ABw rfl (Aa.o2 p2) rfl Aj fun Ia Ib Ic El Em=>ACf ADv rfl Ad (fun h' hb=>AAx Em hb.ext) (Zj ?_);obtain ⟨Id,Cj,En⟩:=Zp Ek;refine AE6 (m:=Ag) ACz rfl (Aa.o2 p2) El Aj rfl Cj fun Ie Eo=>?_;obtain ⟨If,Ck,Ep⟩:=(Aa.o2 p2).cells Eo Aj Cj;refine AQ7 (c:=cZ) ABk rfl Ck Ad (fun h' hb j u hu=>AAx (Ep j u hu) hb.ext) (Zj (Zj (AC2 ABw rfl (Aa.o2 p2) rfl Ac fun Ih Ii Ij Er Es=>ACf ADv rfl Ad (fun h' hb=>AAx Es hb.ext) (Zj ?_))));obtain ⟨Ik,Aq,Et⟩:=Zp En;refine AE6 (m:=Ap) ACz rfl (Aa.o2 p2) Er Ac rfl Aq fun Il Eu=>?_;obtain ⟨Im,Cm,Ev⟩:=(Aa.o2 p2).cells Eu Ac Aq;refine AQ7 (c:=cZ) ABk rfl Cm Ad (fun h' hb j u hu=>AAx (Ev j u hu) hb.ext) ?_;have Be:=(Aa.az (cZ.upT Ck Ad)).az (cZ.upT Cm Ad);obtain ⟨Io,Ew,Ey⟩:=Zp Et;refine AFi Be Ad (AP7 (Be.z p1).2 (Be.z p0).2 Ew) fun Ip Iq Ir Ez Af=>Zj (Zj (AC2 ABw rfl (Aa.o2 p2) rfl Ac fun Is It Iu Fa Fb=>ACf ADv rfl Af (fun h' hb=>AAx Fb hb.ext) (Zj ?_)));obtain ⟨Iv,Cn,Fc⟩:=Zp Ey;refine AE6 (m:=Ap) ACz rfl (Aa.o2 p2) Fa Ac rfl Cn fun Iw Fd=>?_;obtain ⟨Ix,Co,Fe⟩:=(Aa.o2 p2).cells Fd Ac Cn;refine AQ7 (c:=cZ) ABk rfl Co Af (fun h' hb j u hu=>AAx (Fe j u hu) hb.ext) (Zj (Zj (AC2 ABw rfl (Aa.o2 p2) rfl Aj fun Iy Iz I0 Ff Fg=>ACf ADv rfl Af (fun h' hb=>AAx Fg hb.ext) (Zj ?_))));obtain ⟨I1,Cp,Fh⟩:=Zp Fc;refine AE6 (m:=Ag) ACz rfl (Aa.o2 p2) Ff Aj rfl Cp fun I2 Fi=>?_;obtain ⟨I3,Cq,Fj⟩:=(Aa.o2 p2).cells Fi Aj Cp;refine AQ7 (c:=cZ) ABk rfl Cq Af (fun h' hb j u hu=>AAx (Fj j u hu) hb.ext) ?_;have Bf:=(Ez.az (cZ.upT Co Af)).az (cZ.upT Cq Af);obtain ⟨I6,Fk,Fl⟩:=Zp Fh;refine AFi Bf Af (AP7 (Bf.z p1).2 (Bf.z p0).2 Fk) fun I7 I9 Ja Bg Fm=>?_;obtain ⟨Jc,Fo,Fp⟩:=Zp Fl;refine AFi Bg Fm (Atr (Bg.z p3).2 (Bg.z p0).2 Fo) fun Je Jf Jg Ar Cr=>AN7 (Ar.z p8) Cr (Aa.b p0) ?_;obtain ⟨Jh,Fq,Fr⟩:=Zp Fp;refine AFi Ar Cr (AH8 (Ar.z p0).2 (Ar.z p8).2 Fq) fun Ji Jj Jk Ak Jl=>AE6 (m:=Ap) ACz rfl (Aa.o2 p2) Ei Ac rfl Aq fun Jm Ft=>ANk (m:=Ap) (AR5 ABk (cZ.klen (Ak.z p0)) rfl rfl (cZ.one (Ak.z p0))) (Ak.o2 p10) Ft Ac Aq (Ak.z p0) fun Jn Fu Fv=>AAn (q_b (q_t (AAa (Zj (AA0 rfl rfl (Zt ?_))))));exact ⟨(_,_,_,_,_),(Zl Fr).symm,(Ak.uO2 p10 Fv Fu).sel [8,9,10,11] Zk,rfl,trivial⟩
     ·refine AAh (AAi (AAi (ABj (q_b (q_t (AAa (Zj (AA0 rfl rfl (Zt ?_)))))))));exact ⟨(_,_,_,_,_),(Zl (Eg _ (Zl (AA6 Bb Bc)).symm)).symm,Aa,rfl,trivial⟩
    ·refine AAh (AAi (AAi (ABj (q_t (AAa (Zj (Zj ?_)))))));obtain ⟨Jo,Bh,Fw⟩:=Zp (Ef _ (Zl (AA6 A8 A9)).symm);refine ABy ABw ADv (Ai.o2 p2) Bh fun _ Jp Fx=>Zj ?_;obtain ⟨Fy,Ct,Fz⟩:=Zp Fw;refine AE6 (m:=Ag) ACz rfl (Ai.o2 p2) Fx Bh rfl Ct fun Jq F4=>?_;obtain ⟨F5,F6,F7⟩:=(Ai.o2 p2).cells F4 Bh Ct;have Au:=Ai.az F6;refine AN4 (c:=cZ) ABk rfl (Au.z p0) (fun j u hu=>(F7 j u hu)) (AF7 Au p1 (Au.z p2) (Au.z p0) fun Jr F8=>AAn (q_b (q_t ?_)));exact ⟨((D9,Cf,Cg,Ch,Ci,Fy,F5):(Bool) × (LiI) × LnA × LnN × LvA × (Int) × LvA),⟨Zl Fz,F8.sel [1,0,3,4] Zk⟩,rfl,trivial⟩
  rintro ⟨Js,Jt,Ju,Jv,Jw,Jx,Jy⟩ Jz J0 ⟨F9,Ga⟩;subst F9;refine AAa (Zj (AA0 rfl rfl (Zt ?_)));exact ⟨(_,_,_,_,_,_,_,_),(Zl Bx).symm,Ga,rfl,rfl,trivial⟩
 ·refine AAh (AAi (AAi (ABj (q_t (Zo (Zn (Zj (Zr ?_))))))));have Cu:=Bw _ (Zl (AA6 Ax Ay)).symm;refine ⟨_,rfl,fun Bi=>?_,fun Bi=>?_⟩
  ·refine Zn (AK0 (Ab.z p1) (Ab.b p0) ?_);obtain ⟨J1,Gb,Gc⟩:=Zp (ifT Cu Bi);refine ANo Ab (Adl (Ab.z p1).2 Gb) fun J2 Gd J3 Cv=>AF7 Cv p4 (AAe Gd) (Cv.z p0) fun J4 Av=>Zr (Zw (AAc ?_));obtain rfl:=Zl Gc;exact ⟨_,ACb ABk (cZ.klen (Av.z p0)) rfl (Av.b p4),Av.x,_,rfl,(Av.z p0).2⟩
  ·refine Zv (q_t (Zn (AK0 (Ab.z p1) (Ab.b p0) (AF7 Ab p3 (AAe Db) (Ab.z p1) fun J5 Aw=>Zr (Zw ?_)))));obtain rfl:=Zl (AF9 Cu Bi);exact ⟨_,ACb ABk (cZ.klen (Aw.z p1)) rfl (Aw.b p3),Aw.x,_,rfl,(Aw.z p1).2⟩
end Go.Proofs.YtdkldlbgcfpglaaGreatDoor
namespace Go.Proofs.YtdkldlbgcfpglaaGreatDoor
open Go Go.QF
set_option maxRecDepth 100000
theorem Anv {na:Bool} {m:Nat} {z:Int} (h:z=sgn na m):AF6 z=1->z=m:=by
 cases na
 ·intro _;rw [h];rfl
 ·intro h1;rw [h] at h1 ⊢;unfold AF6 sgn at h1;unfold sgn;simp at h1 ⊢;split at h1 <;> (try split at h1) <;> omega
theorem Anw {na:Bool} {m:Nat} {z:Int} (h:z=sgn na m):AF6 z= -1->z= -(m:Int):=by
 cases na
 ·intro h1;rw [h] at h1 ⊢;unfold AF6 sgn at h1;unfold sgn;simp at h1 ⊢;split at h1 <;> (try split at h1) <;> omega
 ·intro _;rw [h];rfl
def AS5 (a b:Int):Int:=if a < b then -1 else if a=b then 0 else 1
theorem Ahe {a b:Int} (h:AF6 a≠AF6 b) (h2:AF6 a < AF6 b):AS5 a b= -1:=by
 unfold AF6 at h h2;unfold AS5;repeat' split at h2
 all_goals (rw [if_pos Zh])
theorem Ahf {a b:Int} (h:AF6 a≠AF6 b) (h2: ¬ AF6 a < AF6 b):AS5 a b=1:=by
 unfold AF6 at h h2;unfold AS5
 rw [if_neg (by
   repeat' split at h2
   all_goals (repeat' split at h)
   all_goals omega),if_neg (by
     repeat' split at h2
     all_goals (repeat' split at h)
     all_goals omega)]
theorem Ado {na nb:Bool} {m k:Nat} {a b:Int} (ha:a=sgn na m) (hb:b=sgn nb k) (h:AF6 a=AF6 b):AF6 a * ANm m k=AS5 a b:=by
 have h3:AF6 a= -1∨AF6 a=0∨AF6 a=1:=by unfold AF6;split;exact .inl rfl;split;exact .inr (.inl rfl);exact .inr (.inr rfl)
 rcases h3 with h1 | h1 | h1
 ·have e1:=Anw ha h1;have e2:=Anw hb (h ▸ h1);rw [h1];unfold ANm AS5;repeat' split
  all_goals omega
 ·have z:∀ x:Int,AF6 x=0->x=0:=fun x hx=>by unfold AF6 at hx;repeat' split at hx;all_goals omega
  have e1:=z a h1;have e2:=z b (h ▸ h1);rw [h1,e1,e2];simp [AS5]
 ·have e1:=Anv ha h1;have e2:=Anv hb (h ▸ h1);rw [h1];unfold ANm AS5;repeat' split
  all_goals omega
theorem Aqv (a b:Nat): -1<=ANm a b/\ANm a b<=1:=by
 unfold ANm;repeat' split;all_goals omega
theorem Aqw (a:Int): -1<=AF6 a/\AF6 a<=1:=by
 unfold AF6;repeat' split;all_goals omega
theorem Aqx {x y:Int} (hx: -1<=x/\x<=1) (hy: -1<=y/\y<=1):IntKind.i64.wrap (x * y)=x * y:=by
 obtain ⟨x1,x2⟩:=hx;obtain ⟨y1,y2⟩:=hy;have Aa:x= -1∨x=0∨x=1:=by omega
 have Ab:y= -1∨y=0∨y=1:=by omega
 rcases Aa with rfl | rfl | rfl <;> rcases Ab with rfl | rfl | rfl <;> decide
theorem Aqy {h:Zu} {lo:Nat} {va:Value} {z:Int} (HA:ZV h lo va z):AAv Tryz.prog 151 #[va] h fun x h'=>Ext h h'/\ZV h' (Array.size h) x (z.natAbs:Int):=by
 obtain ⟨na,sa,LA,rfl,HDa,htla,hla,hza⟩:=HA.out;have hna:LA.length<=1000000:=by omega
 have hba:nv LA < 4294967296 ^ 100:=Nat.lt_of_lt_of_le (ANe HDa.dig) (Nat.pow_le_pow_right Zk hla);refine ABd (l:=[_]) mx Tryz.func151 rfl rfl rfl rfl rfl Zx (Zn (AJj [.bool na,sa] (fun _=>trivial) rfl rfl fun Ag h2 V3 E4 Ao Be=>?_));have Bf:Array.size h<=Ag:=Ao;have Bg:=E4.1;have Z8:=(Ext.refl h).trans E4;refine AG0 [.bool false,.slice none 0 0] AE0 rfl (fun _=>trivial) fun Aa Bh Aq Ab Ar Bi=>?_;have Bj:Array.size h<=Aa:=Nat.le_trans E4.1 Ar;have nebq1bq9:Ag≠Aa:=by have:=V3.lt;omega
 have Bl:=Ab.1;have Au:=Z8.trans Ab;have Ai:=E4.trans Ab;have Av:=E4.trans Ab;refine AH7 (AFv (fs:=1) AL4 Zx Zk rfl (AA7 AHr rfl ((V3.ext Ab).cell (i:=1) rfl) (AAy trivial rfl (AMu false (HDa.ext Ai) hna hba) fun Bm Bn hk=>?_)));obtain ⟨Ac,Aw⟩:=hk;refine ⟨trivial,?_⟩;have Bo:=Ac.1;have Ax:=Au.trans Ac;have Ay:=Ai.trans Ac;have Az:=Av.trans Ac;have A3:=Aq.ext Ac;have A4:=Ab.trans Ac;obtain ⟨Aj,s3,L3,rfl,Am,A6,A7,A8⟩:=Aw.out;refine AB8 [.bool Aj,s3] ABk rfl rfl rfl rfl (AJh Am.cap) A3 fun Bp A9 Ad=>?_;have Ba:=Ay.thenUpd Ad (fun k hk=>by have Af:k=Aa:=hk;omega);have Bq:=Ad.1;have Br:=Ax.thenUpd Ad (fun k hk=>by have Af:k=Aa:=hk;omega);have Bt:=A4.thenUpd Ad (fun k hk=>by have Af:k=Aa:=hk;omega);have Bu:=Az.thenUpd Ad (fun k hk=>by have Af:k=Aa:=hk;omega);have Bb:=Am.updLo Ad Zh;refine Zr (Zw (⟨_,ACb ABk rfl rfl A9,?_⟩));exact ⟨Ba,⟨Aj,s3,L3,rfl,Bb.mono Zh,A6,A7,by rw [<- A8,AE8 hza];rfl⟩⟩
theorem Aqz {h:Zu} {la lb:Nat} {va vb:Value} {a b:Int} (HA:ZV h la va a) (HB:ZV h lb vb b):AAv Tryz.prog 97 #[va,vb] h fun x h'=>Ext h h'/\x= .int .i64 (AS5 a b):=by
 obtain ⟨na,sa,LA,rfl,HDa,htla,hla,hza⟩:=HA.out;obtain ⟨nb,sb,LB,rfl,HDb,htlb,hlb,hzb⟩:=HB.out;refine ABd (l:=[_,_]) mx Tryz.func97 rfl rfl rfl rfl rfl Zx (Zn (AJj [.bool na,sa] (fun _=>trivial) rfl rfl fun Aq h2 V3 E4 A7 B4=>?_));have B5:Array.size h<=Aq:=A7;have B6:=E4.1;have Z8:=(Ext.refl h).trans E4;refine AJj [.bool nb,sb] (fun _=>trivial) rfl rfl fun Au Av Aw Ag A9 B7=>?_;have B8:Array.size h<=Au:=Nat.le_trans E4.1 A9;have nebq1bq9:Aq≠Au:=by have:=V3.lt;omega
 have B9:=Ag.1;have Ba:=Z8.trans Ag;have Ax:=E4.trans Ag;have Ay:=V3.ext Ag;have Bb:=E4.trans Ag;refine Zt (Zo (ACd (fun h'=>Ext Av h') Zx ?_));have Af:=Ext.refl Av;refine AH6 [.bool na,sa] ABk rfl rfl Af (fun h' hb=>(Ay.ext hb).agg) (AAy Af rfl (AVa (HA.ext Ax)) fun Ca Cb hk=>?_);obtain ⟨Ab,rfl⟩:=hk;have Ai:=Af.trans Ab;refine ⟨Ai,?_⟩;have Cd:=Ab.1;have Bc:=Ba.trans Ab;have Az:=Ax.trans Ab;have Be:=Ay.ext Ab;have Bf:=Bb.trans Ab;have Bg:=Aw.ext Ab;have Bh:=Ag.trans Ab;refine AH6 [.bool nb,sb] ABk rfl rfl Ai (fun h' hb=>(Aw.ext hb).agg) (AAy Ai rfl (AVa (HB.ext Az)) fun Ce A3 hk=>?_);obtain ⟨Ac,rfl⟩:=hk;have Bi:=Ai.trans Ac;refine ⟨Bi,?_⟩;have Cf:=Ac.1;have Bj:=Bc.trans Ac;have Ad:=Az.trans Ac;have A4:=Be.ext Ac;have Bl:=Bf.trans Ac;have A5:=Bg.ext Ac;have Bm:=Bh.trans Ac;refine AAl (Zt (Zo (Zn (Zj (Zj (Ab1 rfl rfl (fun Bn=>?_) (fun Bn=>?_)))))))
 ·refine Zr (AAr rfl (Zo (Zn (Zj (Zj (AEg rfl rfl (fun Bo=>?_) (fun Bo=>?_)))))))
  ·refine Zr (AAr rfl (Zn (Zt (Zw (AAc (AAc (⟨_,Zy,?_⟩)))))));first | exact ⟨Ad,congrArg (Value.int .i64) (by rw [Ak,Am];exact Ado hza hzb Zh)⟩ | exact ⟨Ad,congrArg (Value.int .i64) (Ahe (by assumption) (by assumption)).symm⟩ | exact ⟨Ad,congrArg (Value.int .i64) (Ahf (by assumption) Zh).symm⟩
  ·refine Zr (AAw rfl (Zv (q_t (Zn (Zt (Zw (AAc (⟨_,Zy,?_⟩))))))));first | exact ⟨Ad,congrArg (Value.int .i64) (by rw [Ak,Am];exact Ado hza hzb Zh)⟩ | exact ⟨Ad,congrArg (Value.int .i64) (Ahe (by assumption) (by assumption)).symm⟩ | exact ⟨Ad,congrArg (Value.int .i64) (Ahf (by assumption) Zh).symm⟩
 ·refine Zr (AAw rfl (Zv (q_t (Zo (ACd (fun h'=>Ext A3 h') Zx ?_)))));have Af:=Ext.refl A3;refine Zj (AFv (fs:=1) AL4 Zx Zk rfl (ACf AHr rfl Af (fun h' hb=>(A4.ext hb).cell (i:=1) rfl) (AAy Af rfl (AIx (DS.ext HDa Ad) Zh) fun Cg Ch hk=>?_)));obtain ⟨Ae,L1,Bp,Bq,Ak,Cj⟩:=hk;have Aj:=Af.trans Ae;refine ⟨Aj,?_⟩;have Ck:=Ae.1;have Br:=Bj.trans Ae;have A6:=Ad.trans Ae;have Bt:=A4.ext Ae;have Bu:=Bl.trans Ae;have Bv:=A5.ext Ae;have Bw:=Bm.trans Ae;refine AFv (fs:=1) AL4 Zx Zk rfl (ACf AHr rfl Aj (fun h' hb=>(A5.ext hb).cell (i:=1) rfl) (AAy Aj rfl (AIx (DS.ext HDb A6) Zh) fun Cm Bx hk=>?_));obtain ⟨Aa,L2,By,Bz,Am,Co⟩:=hk;have Ao:=Aj.trans Aa;refine ⟨Ao,?_⟩;have Cp:=Aa.1;have Cq:=Br.trans Aa;have Ap:=A6.trans Aa;have Cr:=Bt.ext Aa;have Ct:=Bu.trans Aa;have Cu:=Bv.ext Aa;have Cv:=Bw.trans Aa;have B1:=Bp.ext Aa;refine AAy Ao rfl (AZn B1 By Bq Bz Zh Zh) fun Cw Bx hk=>?_;obtain ⟨rfl,rfl⟩:=hk;refine ⟨Ao,?_⟩;refine AL3 rfl rfl ?_;rw [Aqx (Aqw _) (Aqv _ _)];refine Zt (Zw (⟨_,Zy,?_⟩));first | exact ⟨Ap,congrArg (Value.int .i64) (by rw [Ak,Am];exact Ado hza hzb Zh)⟩ | exact ⟨Ap,congrArg (Value.int .i64) (Ahe (by assumption) (by assumption)).symm⟩ | exact ⟨Ap,congrArg (Value.int .i64) (Ahf (by assumption) Zh).symm⟩
def Ai3 (fuel:Nat) (a:Int):Option Int:=some (a.natAbs:Int)
def Ace (fuel:Nat) (a b:Int):Option Int:=some (AS5 a b)
theorem Ahg {fuel:Nat} {h:Zu} {u:Value} {a r:Int} (H1:ZZ h u a) (hp:Ai3 fuel a=some r):AAv Tryz.prog 151 #[u] h (fun x h'=>Ext h h'/\ ∃ (x0:Value),x=x0/\ZZ h' x0 r):=by
 cases hp;exact (Aqy H1).mono fun x h' hk=>⟨hk.1,x,rfl,hk.2.zz⟩
theorem Aax {fuel:Nat} {h:Zu} {u v:Value} {a b r:Int} (H1:ZZ h u a) (H2:ZZ h v b) (hp:Ace fuel a b=some r):AAv Tryz.prog 97 #[u,v] h (fun x h'=>Ext h h'/\x= .int .i64 r):=by
 cases hp;exact Aqz H1 H2
end Go.Proofs.YtdkldlbgcfpglaaGreatDoor
namespace Go.Proofs.YtdkldlbgcfpglaaGreatDoor
open Go Go.QF
set_option maxRecDepth 100000
set_option maxHeartbeats 4000000
def AJm (fuel:Nat) (a3:LiI) (Ab:Int) (Af:LiA) (Aa:Int) (Ac:LiI):Option ((Int × LiI) ⊕ (((LiI × Bool)) ⊕ (LiI))):=
  (if Aa < (Af.length:Int) then ((gI a3 Ab).bind fun Ag=>((gI Ag Aa).bind fun Ah=>((AVs fuel Ah).bind fun (Ai,Aj)=>(if (!Aj)=true then (some (Sum.inr<| Sum.inl <| ([],false))) else ((gI Ac Ab).bind fun Ad=>((gI Ad Aa).bind fun Ak=>(some (Sum.inl ((w64 (Aa + 1)),(sI Ac Ab (sI Ad Aa Ai))))))))))) else (some (Sum.inr<| Sum.inr <| Ac)))
def AJn (fuel:Nat) (a3:LiI) (x5 x6 Aa:Int) (Ac:LiI):Option ((Int × LiI) ⊕ (((LiI × Bool)) ⊕ (LiI))):=
  (if Aa < ((List.replicate (Int.toNat x5) ([]:List Int)).length:Int) then (if 0<=x6/\x6<=100000000 then ((gI Ac Aa).bind fun Ai=>((gI (sI Ac Aa (List.replicate (Int.toNat x6) (0:Int))) Aa).bind fun Af=>((iter (fun s=>AJm fuel a3 Aa Af s.1 s.2) fuel (0,(sI Ac Aa (List.replicate (Int.toNat x6) (0:Int))))).bind (fun ex=>match ex with | Sum.inl Ag=>(some (Sum.inr<| Sum.inl <| Ag)) | Sum.inr (Ah)=>(some (Sum.inl ((w64 (Aa + 1)),Ah))))))) else none) else (some (Sum.inr<| Sum.inr <| Ac)))
def AGd (fuel:Nat) (a3:LiI):Option (LiI × Bool):=
  ((AB4 fuel a3).bind fun (x5,x6,x7)=>(if (!x7)=true then (some ([],false)) else (if 0<=x5/\x5<=100000000 then ((iter (fun s=>AJn fuel a3 x5 x6 s.1 s.2) fuel (0,(List.replicate (Int.toNat x5) ([]:List Int)))).bind (fun ex=>match ex with | Sum.inl Ae=>(some Ae) | Sum.inr (Af)=>(some (Af,true)))) else none)))
theorem ARq {fuel:Nat} {h:Zu} {Aw:Value} {a3:LiI} {r:(LiI × Bool)} (H2:AC5 cZ h Aw a3) (hp:AGd fuel a3=some r):AAv Tryz.prog 60 #[Aw] h (fun x h'=>Ext h h'/\ ∃ (x0:Value) (F0:List Nat) (Bg:List LnA) (Bh:List Value),x= .tuple #[x0,.bool r.2]/\ACs (cI .i64) 60 2 h' F0 Bg Bh x0 r.1/\Sp h' h.size [F0]):=by
 unfold AGd at hp;refine cwf (l:=[_]) Tryz.func60 rfl rfl (Zn (AAl (AA4 (Zj ?_))));have K0:=Kst.k0 h;obtain ⟨⟨x5,x6,x7⟩,Bl,Ae⟩:=Zp hp;dsimp only at Ae;refine ACl K0 (AHb (H2.ext K0.x) Bl) fun Cu Cv A5=>Zj (ABl rfl rfl (ABl rfl rfl (ABl rfl rfl (AAl (AAl (Zt (Zo (Zn (Zj (ACt rfl (Zr (⟨_,rfl,fun Af=>?_,fun Af=>?_⟩))))))))))))
 ·refine Zn (AAl (Zt (Zw (AAc ?_))));have Ag:=Kst.anil2 (cI .i64) 60 2 A5;obtain rfl:=Zl (ifT Ae Af);exact ⟨_,ABf,Ag.x,_,_,_,_,rfl,(Ag.o2 p0),Ag.s.sel [0] Zk⟩
 ·refine Zv (q_t (Zn (Zj ?_)));obtain ⟨Bm,Bn⟩:=ifN (AF9 Ae Af);refine AR7 (cI .i64) 2 AAf AMd rfl trivial tt2 rfl rfl Zk Bm fun Bo Bp Bq A6 Cw Br Bt Bu=>Zt (Zo (Zn (Zj ?_)));have Ah:=A5.no2 Bt Bu Br;refine AA8 AAf rfl (Ah.o2 p0).rd (Zj (Zr (Zs (AFj 4611686018410614540 (fun x:(Int) × (LiI) × LnA × LnN × LvA=>(x.1,x.2.1)) ((0,(List.replicate (Int.toNat x5) ([]:List Int)),Bo,Bp,Bq):(Int) × (LiI) × LnA × LnN × LvA) Bn (fun x=>[(24,(.int .i64 x.1))]) (fun x=>Ah.L.set 0 (aO2 (cI .i64) 60 2 x.2.2.1 x.2.2.2.1 x.2.2.2.2 A6 x.2.1)) Ah ⟨rfl,trivial⟩ ?_))));rintro ⟨Ab,Bv,Cx,A7,Bw⟩ Cy Cz C0 Ad Ai A8;unfold AJn at Ai;refine Zn (AAu rfl rfl (Zr (Zo (⟨_,rfl,fun Aj=>?_,fun Aj=>?_⟩))))
  ·refine Zv (q_t (Zo (Zs (Zn (Zj (AA4 (Zj (Zj (Zj ?_)))))))));obtain ⟨Bx,By⟩:=ifN (AA5 Ai Aj);refine AP6 (c:=(cI .i64)) (a:=0) AAg AIu rfl rfl (fun _=>rfl) rfl trivial tt2 rfl rfl Zk Bx fun A9 Bz C1 B1 B3 B4 B5=>?_;have Ac:=Ad.no B3 (AE5 B4 B5) B1;obtain ⟨C2,Ba,B6⟩:=Zp By;refine AC2 AAf rfl (Ac.o2 p1) rfl Ba fun B7 C3 B8 C4 C5=>AR6 AA2 (Ac.o2 p1) Ba B8 rfl rfl (Ac.o p0) (Ac.dj p0 p1 Zk) fun C6 B9 Ca Cb=>AH7 (Zj (Zj ?_));have Ak:=Ac.m2 p0 p1 Zk Ca B9 (fun z hz=> .inl (Cb z hz));obtain ⟨C7,Bb,Cd⟩:=Zp B6;refine ABy AAf AA2 (Ak.o2 p1) Bb fun _ C8 Ce=>ABm AAg rfl ((Ak.o2 p1).rowI Ce Bb) (Zj (Zr (Zs ?_)));have Am:=Ak.sel [1] Zk;dsimp only [AHa,AKo] at Am;refine AFj 2305842871774744076 (fun x:(Int) × (LiI) × LnA × LnN × LvA=>(x.1,x.2.1)) ((0,(sI Bv Ab (List.replicate (Int.toNat x6) (0:Int))),(B7 :: (A7.set (Int.toNat Ab) [A9]).flatten),(A7.set (Int.toNat Ab) [A9]),(Bw.set (Int.toNat Ab) Bz)):(Int) × (LiI) × LnA × LnN × LvA) Cd (fun x=>[(37,(.int .i64 x.1))]) (fun x=>Am.L.set 0 (aO2 (cI .i64) 60 2 x.2.2.1 x.2.2.2.1 x.2.2.2.2 A6 x.2.1)) Am ⟨rfl,trivial⟩ ?_;rintro ⟨C9,Da,Db,Dc,Dd⟩ De Df Dg Aa Ao Bc;unfold AJm at Ao;refine Zn (AAu rfl rfl (Zr (Zo (⟨_,rfl,fun Ap=>?_,fun Ap=>?_⟩))))
   ·refine Zv (q_t (Zo (Zs (Zn (Zj (AA4 (Zj (Zj ?_))))))));obtain ⟨Dh,Cf,Cg⟩:=Zp (AA5 Ao Ap);refine AGs ABw ADv H2 Aa.x Cf fun _ Di Ch=>Zj ?_;obtain ⟨Dj,Ci,Cj⟩:=Zp Cg;refine AIw (c:=cZ) ACz rfl Ch rfl Ci fun Dk Dl Do Be Ck=>AN4 (c:=cZ) ABk rfl (Aa.zx Be) (fun j u hu=>(AAx (Ck j u hu) Aa.x)) ?_;obtain ⟨⟨Dp,Dq⟩,Cm,Aq⟩:=Zp Cj;dsimp only at Aq;refine ACl Aa (Aas (Aa.zx Be).2 Cm) fun Dr Ds Ar=>Zj (ABl rfl rfl (ABl rfl rfl (AAl (Zt (Zo (Zn (Zj (ACt rfl (Zr (⟨_,rfl,fun Au=>?_,fun Au=>?_⟩))))))))))
    ·refine Zn (AAl (Zt (Zw (AAc (ABi (AAc (AAc (ABi (ABi (AAc (AAc (ABi (AAc ?_)))))))))))));have Av:=Kst.anil2 (cI .i64) 60 2 Ar;obtain rfl:=Zl (A8 _ (Zl (Bc _ (Zl (ifT Aq Au)).symm)).symm);exact ⟨_,ABf,Av.x,_,_,_,_,rfl,(Av.o2 p0),Av.s.sel [0] Zk⟩
    ·refine Zv (q_t (AAa (Zj (Zj ?_))));obtain ⟨Dt,Bf,Cn⟩:=Zp (AF9 Aq Au);refine ABy AAf AA2 (Ar.o2 p0) Bf fun _ Du Co=>Zj (Zj ?_);obtain ⟨Dv,Cp,Cq⟩:=Zp Cn;refine ALj (m:=Ab) Ar p0 AAg AAk Co Bf Cp (fun _=>rfl) fun _ Dw Cr=>AAn (q_b (q_t (AAa (AA0 rfl rfl (Zj (Zr ?_))))));exact ⟨(_,_,_,_,_),(Zl Cq).symm,Cr,rfl,trivial⟩
   ·refine AAh (AAi (AAi (ABj (q_b (q_t (AAa (AA0 rfl rfl (Zj (Zr ?_)))))))));exact ⟨(_,_,_,_,_),(Zl (Bc _ (Zl (AA6 Ao Ap)).symm)).symm,Aa,rfl,trivial⟩
  ·refine AAh (AAi (AAi (ABj (q_t (Zn (Zj (AAl (Zt (Zw ?_)))))))));obtain rfl:=Zl (A8 _ (Zl (AA6 Ai Aj)).symm);exact ⟨_,ABf,Ad.x,_,_,_,_,rfl,(Ad.o2 p0),Ad.s.sel [0] Zk⟩
def AIc (fuel:Nat) (Ad:LiI) (Aa:Int) (Ab:LiI):Option ((Int × LiI) ⊕ ((LiI))):=
  (if Aa < (Ad.length:Int) then ((gI Ab Aa).bind fun Ac=>((AKs fuel 1).bind fun Ae=>((gI Ac Aa).bind fun Af=>(some (Sum.inl ((w64 (Aa + 1)),(sI Ab Aa (sI Ac Aa Ae)))))))) else (some (Sum.inr<| Ab)))
def ADs (fuel:Nat) (a1:Int):Option (LiI × Bool):=
  (((if a1 < 1 then (some (Sum.inl <| ([],false))) else (if 16 < a1 then (some (Sum.inl <| ([],false))) else (some (Sum.inr <| ())))):Option (((LiI × Bool)) ⊕ (Unit))).bind (fun ex=>match ex with | Sum.inl Ac=>(some Ac) | Sum.inr (_)=>((ADf fuel a1 a1).bind fun Ab=>((iter (fun s=>AIc fuel Ab s.1 s.2) fuel (0,Ab)).bind (fun (Ad:LiI)=>(some (Ad,true)))))))
theorem AMm {fuel:Nat} {h:Zu} {a1:Int} {r:(LiI × Bool)} (hp:ADs fuel a1=some r):AAv Tryz.prog 58 #[(.int .i64 a1)] h (fun x h'=>Ext h h'/\ ∃ (x0:Value) (F0:List Nat) (Az:List LnA) (A3:List Value),x= .tuple #[x0,.bool r.2]/\ACs cZ 128 94 h' F0 Az A3 x0 r.1/\Sp h' h.size [F0]):=by
 unfold ADs at hp;refine cwf (l:=[_]) Tryz.func58 rfl rfl (Zn (AAl (Zt ?_)));have K0:=Kst.k0 h;obtain ⟨A4,Au,Af⟩:=Zp hp;refine AKb 4044 (fun x:Unit=>[]) (fun x h'=>(Sum.inr <| ())=A4/\Kst h h' (K0.L)) ?_ ?_
 ·refine Zn (Zj (AAu rfl rfl (Zj ?_)));by_cases Ad:a1 < 1
  ·rw [decide_eq_true Ad];refine AGz 8 true (Z4 rfl (Zr (AAr rfl (Zn (AAl (Zt ?_))))));obtain rfl:=Zl (ifT Au Ad);refine Zw (AAc ?_);have Ag:=Kst.anil2 cZ 128 94 K0;obtain rfl:=Zl Af;exact ⟨_,ABf,Ag.x,_,_,_,_,rfl,(Ag.o2 p0),Ag.s.sel [0] Zk⟩
  ·have Av:=ifF Au Ad;rw [decide_eq_false Ad];refine AAb 8 false (Zj (AAb 8 false (AGb rfl rfl (Zz rfl (Zr (⟨_,rfl,fun Ah=>?_,fun Ah=>?_⟩))))))
   ·refine Zn (AAl (Zt ?_));obtain rfl:=Zl (AA5 Av Ah);refine Zw (AAc ?_);have Ai:=Kst.anil2 cZ 128 94 K0;obtain rfl:=Zl Af;exact ⟨_,ABf,Ai.x,_,_,_,_,rfl,(Ai.o2 p0),Ai.s.sel [0] Zk⟩
   ·refine Zv (q_t ?_);exact ⟨(():Unit),⟨Zl (AA6 Av Ah),K0⟩,trivial⟩
 rintro ⟨⟩ Bq Br ⟨A5,A6⟩;subst A5;refine Zn (Zj (Zj ?_));obtain ⟨A7,A8,A9⟩:=Zp Af;refine AMv A6 (AHm A8) fun Ba Bb Bc Be Bt Bu Aj=>Zt (Zo (Zn (Zj (AA8 ABw rfl (Aj.o2 p0).rd (Zj (Zr (Zs (AFj 268304416 (fun x:(Int) × (LiI) × LnA × LnN × LvA=>(x.1,x.2.1)) ((0,A7,Ba,Bb,Bc):(Int) × (LiI) × LnA × LnN × LvA) A9 (fun x=>[(17,(.int .i64 x.1))]) (fun x=>Aj.L.set 0 (aO2 cZ 128 94 x.2.2.1 x.2.2.2.1 x.2.2.2.2 Be x.2.1)) Aj ⟨rfl,trivial⟩ ?_))))))));rintro ⟨Aw,Bv,Bw,Bx,By⟩ Bz Ak B1 Aa Am Bf;unfold AIc at Am;refine Zn (AAu rfl rfl (Zr (Zo (⟨_,rfl,fun Ao=>?_,fun Ao=>?_⟩))))
 ·refine Zv (q_t (Zo (Zs (Zn (Zj (Zt (ACd (fun h'=>UpT [] Ak h') Zx ?_)))))));have Ax:UpT [] Ak Ak:=UpT.start all_nil;refine Zj (Zj ?_);obtain ⟨B3,Ap,Bg⟩:=Zp (AA5 Am Ao);refine AC2 ABw rfl (Aa.o2 p0) rfl Ap fun B4 B5 B6 Bh Bi=>ACf ADv rfl Ax (fun h' hb=>AAx Bi hb.ext) (Zj ?_);obtain ⟨B7,Bj,Bl⟩:=Zp Bg;refine AFi Aa Ax (AJy Bj) fun B8 B9 Ca Ab Cb=>?_;obtain ⟨Cd,Ay,Bm⟩:=Zp Bl;refine AE6 (m:=Aw) ACz rfl (Aa.o2 p0) Bh Ap rfl Ay fun Ce Bn=>ANk (m:=Aw) (AR5 ABk (cZ.klen (Ab.z p0)) rfl rfl (cZ.one (Ab.z p0))) (Ab.o2 p1) Bn Ap Ay (Ab.z p0) fun Cf Bo Bp=>AAn (q_b (q_t (AAa (AA0 rfl rfl (Zj (Zr ?_))))));exact ⟨(_,_,_,_,_),(Zl Bm).symm,(Ab.uO2 p1 Bp Bo).sel [1] Zk,rfl,trivial⟩
 ·refine AAh (AAi (AAi (ABj (q_t (Zn (Zj (AAl (Zt (Zw ?_)))))))));obtain rfl:=Zl (Bf _ (Zl (AA6 Am Ao)).symm);exact ⟨_,ABf,Aa.x,_,_,_,_,rfl,(Aa.o2 p0),Aa.s.sel [0] Zk⟩
def AHs (fuel:Nat) (a3:LiI) (Ab:Int) (Af:LiA) (Aa:Int) (Ac:LiI):Option ((Int × LiI) ⊕ ((LiI))):=
  (if Aa < (Af.length:Int) then ((gI Ac Aa).bind fun Ad=>((gI a3 Ab).bind fun Ag=>((gI Ag Aa).bind fun Ah=>((AR8 fuel Ah).bind fun Ai=>((gI Ad Ab).bind fun Aj=>(some (Sum.inl ((w64 (Aa + 1)),(sI Ac Aa (sI Ad Ab Ai)))))))))) else (some (Sum.inr<| Ac)))
def AHt (fuel:Nat) (a3:LiI) (Aa:Int) (Ac:LiI):Option ((Int × LiI) ⊕ ((LiI))):=
  (if Aa < (a3.length:Int) then ((gI a3 Aa).bind fun Ad=>((iter (fun s=>AHs fuel a3 Aa Ad s.1 s.2) fuel (0,Ac)).bind (fun (Ae:LiI)=>(some (Sum.inl ((w64 (Aa + 1)),Ae)))))) else (some (Sum.inr<| Ac)))
def ADg (fuel:Nat) (a3:LiI):Option (LiI × Bool):=
  ((AB4 fuel a3).bind fun (x5,x6,x7)=>(if (!x7)=true then (some ([],false)) else ((ADf fuel x6 x5).bind fun Ae=>((iter (fun s=>AHt fuel a3 s.1 s.2) fuel (0,Ae)).bind (fun (Af:LiI)=>(some (Af,true)))))))
theorem AL5 {fuel:Nat} {h:Zu} {Aq:Value} {a3:LiI} {r:(LiI × Bool)} (H2:AC5 cZ h Aq a3) (hp:ADg fuel a3=some r):AAv Tryz.prog 117 #[Aq] h (fun x h'=>Ext h h'/\ ∃ (x0:Value) (F0:List Nat) (A6:List LnA) (A7:List Value),x= .tuple #[x0,.bool r.2]/\ACs cZ 128 94 h' F0 A6 A7 x0 r.1/\Sp h' h.size [F0]):=by
 unfold ADg at hp;refine cwf (l:=[_]) Tryz.func117 rfl rfl (Zn (AAl (AA4 (Zj ?_))));have K0:=Kst.k0 h;obtain ⟨⟨x5,x6,x7⟩,A8,Af⟩:=Zp hp;dsimp only at Af;refine ACl K0 (AHb (H2.ext K0.x) A8) fun Cd Ce Ax=>Zj (ABl rfl rfl (ABl rfl rfl (ABl rfl rfl (AAl (AAl (Zt (Zo (Zn (Zj (ACt rfl (Zr (⟨_,rfl,fun Ag=>?_,fun Ag=>?_⟩))))))))))))
 ·refine Zn (AAl (Zt (Zw (AAc ?_))));have Ah:=Kst.anil2 cZ 128 94 Ax;obtain rfl:=Zl (ifT Af Ag);exact ⟨_,ABf,Ah.x,_,_,_,_,rfl,(Ah.o2 p0),Ah.s.sel [0] Zk⟩
 ·refine Zv (q_t (Zn (Zj (Zj ?_))));obtain ⟨A9,Ba,Bb⟩:=Zp (AF9 Af Ag);refine AMv Ax (AHm Ba) fun Bc Be Bf Ay Cf Cg Az=>Zt (Zo (Zn (Zj (AA8 ABw rfl H2 (Zj (Zr (Zs (AFj 1125899898454784 (fun x:(Int) × (LiI) × LnA × LnN × LvA=>(x.1,x.2.1)) ((0,A9,Bc,Be,Bf):(Int) × (LiI) × LnA × LnN × LvA) Bb (fun x=>[(23,(.int .i64 x.1))]) (fun x=>Az.L.set 0 (aO2 cZ 128 94 x.2.2.1 x.2.2.2.1 x.2.2.2.2 Ay x.2.1)) Az ⟨rfl,trivial⟩ ?_))))))));rintro ⟨Ch,Bg,Bh,Bi,Bj⟩ Ci Cj Ck Ab Ai Bl;unfold AHt at Ai;refine Zn (AAu rfl rfl (Zr (Zo (⟨_,rfl,fun Aj=>?_,fun Aj=>?_⟩))))
  ·refine Zv (q_t (Zo (Zs (Zn (Zj (AA4 (Zj (Zj ?_))))))));obtain ⟨Cm,Bm,Bn⟩:=Zp (AA5 Ai Aj);refine AGs ABw ADv H2 Ab.x Bm fun _ Cn Bo=>ABm ACz rfl Bo (Zj (Zr (Zs (AFj 562947805938176 (fun x:(Int) × (LiI) × LnA × LnN × LvA=>(x.1,x.2.1)) ((0,Bg,Bh,Bi,Bj):(Int) × (LiI) × LnA × LnN × LvA) Bn (fun x=>[(31,(.int .i64 x.1))]) (fun x=>Ab.L.set 0 (aO2 cZ 128 94 x.2.2.1 x.2.2.2.1 x.2.2.2.2 Ay x.2.1)) Ab ⟨rfl,trivial⟩ ?_))));rintro ⟨A3,u64,Co,Cp,Cq⟩ Cr Ak Ct Aa Am Bp;unfold AHs at Am;refine Zn (AAu rfl rfl (Zr (Zo (⟨_,rfl,fun Ao=>?_,fun Ao=>?_⟩))))
   ·refine Zv (q_t (Zo (Zs (Zn (Zj (Zt (ACd (fun h'=>UpT [] Ak h') Zx ?_)))))));have Ae:UpT [] Ak Ak:=UpT.start all_nil;refine Zj (Zj ?_);obtain ⟨Cu,Ap,Bq⟩:=Zp (AA5 Am Ao);refine AC2 ABw rfl (Aa.o2 p0) rfl Ap fun Cv Cw Cx Br Bt=>ACf ADv rfl Ae (fun h' hb=>AAx Bt hb.ext) (Zj (Zj (Zj ?_)));obtain ⟨Cy,Bu,Bv⟩:=Zp Bq;refine AS2 ABw rfl H2 rfl Bu fun Cz C0 C1 Bw Bx=>ACf ADv rfl Ae (fun h' hb=>AAx Bw (Aa.x.trans hb.ext)) (Zj ?_);obtain ⟨C2,By,Bz⟩:=Zp Bv;refine AIw (c:=cZ) ACz rfl Bx rfl By fun C3 C4 C5 A4 B1=>AQ7 (c:=cZ) ABk rfl A4 Ae (fun h' hb j u hu=>AAx (B1 j u hu) (Aa.x.trans hb.ext)) ?_;obtain ⟨C6,B3,B4⟩:=Zp Bz;refine AFi Aa Ae (ATy (Aa.zx A4).2 B3) fun C7 C8 C9 Ac Da=>?_;obtain ⟨Db,A5,B5⟩:=Zp B4;refine AE6 (m:=A3) ACz rfl (Aa.o2 p0) Br Ap rfl A5 fun Dc B6=>ANk (m:=A3) (AR5 ABk (cZ.klen (Ac.z p0)) rfl rfl (cZ.one (Ac.z p0))) (Ac.o2 p1) B6 Ap A5 (Ac.z p0) fun Dd B7 B8=>AAn (q_b (q_t (AAa (AA0 rfl rfl (Zj (Zr ?_))))));exact ⟨(_,_,_,_,_),(Zl B5).symm,(Ac.uO2 p1 B8 B7).sel [1] Zk,rfl,trivial⟩
   ·refine AAh (AAi (AAi (ABj (q_b (q_t (AAa (AA0 rfl rfl (Zj (Zr ?_)))))))));exact ⟨(_,_,_,_,_),(Zl (Bp _ (Zl (AA6 Am Ao)).symm)).symm,Aa,rfl,trivial⟩
  ·refine AAh (AAi (AAi (ABj (q_t (Zn (Zj (AAl (Zt (Zw ?_)))))))));obtain rfl:=Zl (Bl _ (Zl (AA6 Ai Aj)).symm);exact ⟨_,ABf,Ab.x,_,_,_,_,rfl,(Ab.o2 p0),Ab.s.sel [0] Zk⟩
def ALq (fuel:Nat) (a3 a7:LiA) (Aa Ac:Int):Option ((Int × Int) ⊕ ((Int))):=
  (if Aa < (a3.length:Int) then ((gI a3 Aa).bind fun Ae=>((gI a7 Aa).bind fun Af=>((ARe fuel Ae Af).bind fun Ag=>((Aiz fuel Ac Ag).bind fun Ah=>(some (Sum.inl ((w64 (Aa + 1)),Ah))))))) else (some (Sum.inr<| Ac)))
def AHy (fuel:Nat) (a3 a7:LiA):Option Int:=
  ((iter (fun s=>ALq fuel a3 a7 s.1 s.2) fuel (0,0)).bind (fun (Ac:Int)=>(some Ac)))
theorem AT0 {fuel:Nat} {h:Zu} {Ai:Value} {a3:LiA} {Ak:Value} {a7:LiA} {r:Int} (H2:SlC cZ h Ai a3) (H6:SlC cZ h Ak a7) (hp:AHy fuel a3 a7=some r):AAv Tryz.prog 159 #[Ai,Ak] h (fun x h'=>Ext h h'/\ ∃ (x0:Value),x=x0/\ZZ h' x0 r):=by
 unfold AHy at hp;refine cwf (l:=[_,_]) Tryz.func159 rfl rfl (Zn (AC1 (Kst.k0 h) [.bool false,.slice none 0 0] AE0 fun b9 Bn Bo Ax=>AH7 (ADl (AOu ) (AC1 Ax [.bool false,.slice none 0 0] AE0 fun Ay Aq Bp Az=>AF7 Az p0 (AAe Aq) (AAe Aq) fun A3 A4=>Zr (Zo (Zo ?_))))));refine AAa (Zj (ABm ACz rfl H2 (Zj (Zr (Zs ?_)))));have Ar:=A4.az (AAe A3);refine AFj 33553472 (fun x:(Int) × (Int) × LvA=>(x.1,x.2.1)) ((0,0,[Value.bool false,Value.slice none 0 0]):(Int) × (Int) × LvA) hp (fun x=>[(10,(.int .i64 x.1))]) (fun x=>(Ar.L.set 0 (aZ x.2.2 x.2.1)).set 1 (aB 94 Ay x.2.2)) Ar ⟨rfl,trivial⟩ ?_;rintro ⟨Bq,Br,Bt⟩ Bu Ac Bv Aa Af A5;unfold ALq at Af;refine Zn (AAu rfl rfl (Zr (Zo (⟨_,rfl,fun Ag=>?_,fun Ag=>?_⟩))))
 ·refine Zv (q_t (Zo (Zs (Zn (Zj (Zt (ACd (fun h'=>UpT [] Ac h') Zx ?_)))))));have Ad:UpT [] Ac Ac:=UpT.start all_nil;refine AN7 (Aa.z p0) Ad (Aa.b p1) (Zj (Zj ?_));obtain ⟨Bw,A6,A7⟩:=Zp (AA5 Af Ag);refine AIw (c:=cZ) ACz rfl H2 rfl A6 fun Bx By Bz Au A8=>AQ7 (c:=cZ) ABk rfl Au Ad (fun h' hb j u hu=>AAx (A8 j u hu) (Aa.x.trans hb.ext)) (Zj (Zj ?_));obtain ⟨B1,A9,Ba⟩:=Zp A7;refine AIw (c:=cZ) ACz rfl H6 rfl A9 fun B3 B4 B5 Av Bb=>AQ7 (c:=cZ) ABk rfl Av Ad (fun h' hb j u hu=>AAx (Bb j u hu) (Aa.x.trans hb.ext)) ?_;obtain ⟨B6,Bc,Be⟩:=Zp Ba;refine AFi Aa Ad (AP7 (Aa.zx Au).2 (Aa.zx Av).2 Bc) fun B7 B8 B9 Ah Bf=>?_;obtain ⟨Ca,Bg,Bh⟩:=Zp Be;refine AFi Ah Bf (Ag6 (Ah.z p1).2 (Ah.z p0).2 Bg) fun Bi Cb Cd Ab Ce=>AB8 Bi ABk (cZ.klen (Ab.z p0)) (cZ.klen (Ab.z p2)) rfl rfl (cZ.one (Ab.z p0)) (Ab.b p3) fun Cf Bj Bl=>AAn (q_b (q_t (AAa (AA0 rfl rfl (Zj (Zr ?_))))));exact ⟨(_,_,_),(Zl Bh).symm,(Ab.sb p3 Bl Bj rfl).sel [0,3,4] Zk,rfl,trivial⟩
 ·refine AAh (AAi (AAi (ABj (q_t (Zn (AK0 (Aa.z p0) (Aa.b p1) (AF7 Aa p2 (AAe Ac) (Aa.z p0) fun Cg Ae=>Zr (Zw ?_))))))));obtain rfl:=Zl (A5 _ (Zl (AA6 Af Ag)).symm);exact ⟨_,ACb ABk (cZ.klen (Ae.z p0)) rfl (Ae.b p2),Ae.x,_,rfl,(Ae.z p0).2⟩
def ALr (fuel:Nat) (a3 Ad:LiI) (Ab Aa:Int) (Ac:LiI):Option ((Int × LiI) ⊕ ((LiI))):=
  (if Aa < (Ad.length:Int) then ((gI Ac Ab).bind fun Ae=>((gI a3 Ab).bind fun Ag=>((gI Ad Aa).bind fun Ah=>((AHy fuel Ag Ah).bind fun Ai=>((gI Ae Aa).bind fun Aj=>(some (Sum.inl ((w64 (Aa + 1)),(sI Ac Ab (sI Ae Aa Ai)))))))))) else (some (Sum.inr<| Ac)))
def ALs (fuel:Nat) (a3 Ad:LiI) (Aa:Int) (Ac:LiI):Option ((Int × LiI) ⊕ ((LiI))):=
  (if Aa < (a3.length:Int) then ((iter (fun s=>ALr fuel a3 Ad Aa s.1 s.2) fuel (0,Ac)).bind (fun (Ae:LiI)=>(some (Sum.inl ((w64 (Aa + 1)),Ae))))) else (some (Sum.inr<| Ac)))
def AHz (fuel:Nat) (a3 a7:LiI):Option (LiI × Bool):=
  ((AB4 fuel a3).bind fun (x9,Ad,Ae)=>((ADg fuel a7).bind fun (Ac,Af)=>(((if (!Ae)=true then (some (Sum.inl <| ([],false))) else (if (!Af)=true then (some (Sum.inl <| ([],false))) else (if ¬ (a7.length:Int)=Ad then (some (Sum.inl <| ([],false))) else (some (Sum.inr <| ()))))):Option (((LiI × Bool)) ⊕ (Unit))).bind (fun ex=>match ex with | Sum.inl Ag=>(some Ag) | Sum.inr (_)=>((ADf fuel (a3.length:Int) (Ac.length:Int)).bind fun Ah=>((iter (fun s=>ALs fuel a3 Ac s.1 s.2) fuel (0,Ah)).bind (fun (Ai:LiI)=>(some (Ai,true)))))))))
theorem AT1 {fuel:Nat} {h:Zu} {Av:Value} {a3:LiI} {Ax:Value} {a7:LiI} {r:(LiI × Bool)} (H2:AC5 cZ h Av a3) (H6:AC5 cZ h Ax a7) (hp:AHz fuel a3 a7=some r):AAv Tryz.prog 118 #[Av,Ax] h (fun x h'=>Ext h h'/\ ∃ (x0:Value) (F0:List Nat) (Bm:List LnA) (Bn:List Value),x= .tuple #[x0,.bool r.2]/\ACs cZ 128 94 h' F0 Bm Bn x0 r.1/\Sp h' h.size [F0]):=by
 unfold AHz at hp;refine cwf (l:=[_,_]) Tryz.func118 rfl rfl (Zn (AAl (AA4 (Zj ?_))));have K0:=Kst.k0 h;obtain ⟨⟨x9,Cx,Bo⟩,Bp,A6⟩:=Zp hp;dsimp only at A6;refine ACl K0 (AHb (H2.ext K0.x) Bp) fun Cy Cz A7=>Zj (ABl rfl rfl (ABl rfl rfl (ABl rfl rfl (AAl (AAl (AA4 (Zj ?_)))))));obtain ⟨⟨C0,Bq⟩,Br,A8⟩:=Zp A6;dsimp only at A8;refine ANz rfl (AL5 (H6.ext A7.x) Br) fun C1 C2 Bt Bu=>?_;obtain ⟨C3,C4,C5,C6,rfl,Bv,Bw⟩:=Bu;refine Zj (ABl rfl rfl (ABl rfl rfl (AAl (Zt ?_))));have Ac:=A7.no2 Bt Bw Bv;obtain ⟨Bx,A9,Af⟩:=Zp A8;refine AKb 137405399088 (fun x:Unit=>[]) (fun x h'=>(Sum.inr <| ())=Bx/\Kst h h' (Ac.L)) ?_ ?_
 ·refine Zn (Zj (ACt rfl (Zj ?_)));cases Ba:(!Bo)
  ·refine AAb 27 false (Zj (AAb 27 false (ACt rfl (Zz rfl (Zj ?_)))));have Bb:=AF9 A9 Ba;cases Bc:(!Bq)
   ·refine AAb 31 false (Zj (AAb 31 false (AA8 ABw rfl H6 (AAb 31 false (Zj (AAb 31 false (ACk rfl rfl (Zz rfl (Zr ?_)))))))));have Be:=AF9 Bb Bc;refine ⟨_,rfl,fun Ah=>?_,fun Ah=>?_⟩
    ·refine Zn (AAl (Zt ?_));obtain rfl:=Zl (AA5 Be Ah);refine Zw (AAc ?_);have Ai:=Kst.anil2 cZ 128 94 Ac;obtain rfl:=Zl Af;exact ⟨_,ABf,Ai.x,_,_,_,_,rfl,(Ai.o2 p0),Ai.s.sel [0] Zk⟩
    ·refine Zv (q_t ?_);exact ⟨(():Unit),⟨Zl (AA6 Be Ah),Ac⟩,trivial⟩
   ·refine ADb 31 true (Z4 rfl (Zr (AAr rfl (Zn (AAl (Zt ?_))))));obtain rfl:=Zl (ifT Bb Bc);refine Zw (AAc ?_);have Aj:=Kst.anil2 cZ 128 94 Ac;obtain rfl:=Zl Af;exact ⟨_,ABf,Aj.x,_,_,_,_,rfl,(Aj.o2 p0),Aj.s.sel [0] Zk⟩
  ·refine AGz 27 true (Z4 rfl (Zj (ADb 31 true (Z4 rfl (Zr (AAr rfl (Zn (AAl (Zt ?_)))))))));obtain rfl:=Zl (ifT A9 Ba);refine Zw (AAc ?_);have Ak:=Kst.anil2 cZ 128 94 Ac;obtain rfl:=Zl Af;exact ⟨_,ABf,Ak.x,_,_,_,_,rfl,(Ak.o2 p0),Ak.s.sel [0] Zk⟩
 rintro ⟨⟩ C7 C8 ⟨By,Bf⟩;subst By;refine Zn (Zj (AA8 ABw rfl H2 (Zj (AA8 ABw rfl (Bf.o2 p0).rd ?_))));obtain ⟨Bz,B1,B3⟩:=Zp Af;refine AMv Bf (AHm B1) fun B4 B5 B6 Bg C9 Da Bh=>Zt (Zo (Zn (Zj (AA8 ABw rfl H2 (Zj (Zr (Zs (AFj 590295792766519619584 (fun x:(Int) × (LiI) × LnA × LnN × LvA=>(x.1,x.2.1)) ((0,Bz,B4,B5,B6):(Int) × (LiI) × LnA × LnN × LvA) B3 (fun x=>[(44,(.int .i64 x.1))]) (fun x=>Bh.L.set 0 (aO2 cZ 128 94 x.2.2.1 x.2.2.2.1 x.2.2.2.2 Bg x.2.1)) Bh ⟨rfl,trivial⟩ ?_))))))));rintro ⟨Bi,B7,B8,B9,Ca⟩ Db Dc Dd Ab Am Cb;unfold ALs at Am;refine Zn (AAu rfl rfl (Zr (Zo (⟨_,rfl,fun Ao=>?_,fun Ao=>?_⟩))))
 ·refine Zv (q_t (Zo (Zs (Zn (Zj (AA4 (Zj (AA8 ABw rfl (Ab.o2 p1).rd (Zj (Zr (Zs (AFj 295147342229399412736 (fun x:(Int) × (LiI) × LnA × LnN × LvA=>(x.1,x.2.1)) ((0,B7,B8,B9,Ca):(Int) × (LiI) × LnA × LnN × LvA) (AA5 Am Ao) (fun x=>[(49,(.int .i64 x.1))]) (fun x=>Ab.L.set 0 (aO2 cZ 128 94 x.2.2.1 x.2.2.2.1 x.2.2.2.2 Bg x.2.1)) Ab ⟨rfl,trivial⟩ ?_))))))))))));rintro ⟨De,Df,Dg,Dh,Di⟩ Dj Ap Dk Aa Aq Cd;unfold ALr at Aq;refine Zn (AAu rfl rfl (Zr (Zo (⟨_,rfl,fun Ar=>?_,fun Ar=>?_⟩))))
  ·refine Zv (q_t (Zo (Zs (Zn (Zj (Zt (ACd (fun h'=>UpT [] Ap h') Zx ?_)))))));have Ag:UpT [] Ap Ap:=UpT.start all_nil;refine Zj (Zj ?_);obtain ⟨Dl,Au,Ce⟩:=Zp (AA5 Aq Ar);refine AC2 ABw rfl (Aa.o2 p0) rfl Au fun Do Dp Dq Cf Cg=>ACf ADv rfl Ag (fun h' hb=>AAx Cg hb.ext) (Zj (Zj (Zj ?_)));obtain ⟨Dr,Ch,Ci⟩:=Zp Ce;refine AS2 ABw rfl H2 rfl Ch fun Ds Dt Du Cj Ck=>ACf ADv rfl Ag (fun h' hb=>AAx Cj (Aa.x.trans hb.ext)) (Zj (Zj ?_));obtain ⟨Dv,Bj,Cm⟩:=Zp Ci;refine AC2 ABw rfl (Aa.o2 p1) rfl Bj fun Dw Dx Dy Cn Co=>ACf ADv rfl Ag (fun h' hb=>AAx Co hb.ext) ?_;obtain ⟨Dz,Cp,Cq⟩:=Zp Cm;refine AFi Aa Ag (AT0 (Ck.ext Aa.x) ((Aa.o2 p1).rowI Cn Bj) Cp) fun D0 D1 D2 Ad D3=>?_;obtain ⟨D4,Bl,Cr⟩:=Zp Cq;refine AE6 (m:=Bi) ACz rfl (Aa.o2 p0) Cf Au rfl Bl fun D5 Ct=>ANk (m:=Bi) (AR5 ABk (cZ.klen (Ad.z p0)) rfl rfl (cZ.one (Ad.z p0))) (Ad.o2 p1) Ct Au Bl (Ad.z p0) fun D6 Cu Cv=>AAn (q_b (q_t (AAa (AA0 rfl rfl (Zj (Zr ?_))))));exact ⟨(_,_,_,_,_),(Zl Cr).symm,(Ad.uO2 p1 Cv Cu).sel [1,2] Zk,rfl,trivial⟩
  ·refine AAh (AAi (AAi (ABj (q_b (q_t (AAa (AA0 rfl rfl (Zj (Zr ?_)))))))));exact ⟨(_,_,_,_,_),(Zl (Cd _ (Zl (AA6 Aq Ar)).symm)).symm,Aa,rfl,trivial⟩
 ·refine AAh (AAi (AAi (ABj (q_t (Zn (Zj (AAl (Zt (Zw ?_)))))))));obtain rfl:=Zl (Cb _ (Zl (AA6 Am Ao)).symm);exact ⟨_,ABf,Ab.x,_,_,_,_,rfl,(Ab.o2 p0),Ab.s.sel [0] Zk⟩
def AB9 (fuel:Nat) (a3 a7:LiI):Option LiI:=
  ((AHz fuel a3 a7).bind fun (x9,Ad)=>(some x9))
theorem AIy {fuel:Nat} {h:Zu} {Ac:Value} {a3:LiI} {Ae:Value} {a7 r:LiI} (H2:AC5 cZ h Ac a3) (H6:AC5 cZ h Ae a7) (hp:AB9 fuel a3 a7=some r):AAv Tryz.prog 62 #[Ac,Ae] h (fun x h'=>Ext h h'/\ ∃ (x0:Value) (F0:List Nat) (Am:List LnA) (Ao:List Value),x=x0/\ACs cZ 128 94 h' F0 Am Ao x0 r/\Sp h' h.size [F0]):=by
 unfold AB9 at hp;refine cwf (l:=[_,_]) Tryz.func62 rfl rfl (Zn (AA4 (Zj (Zj ?_))));have K0:=Kst.k0 h;obtain ⟨⟨x9,Ax⟩,Ap,Ai⟩:=Zp hp;dsimp only at Ai;refine ANz rfl (AT1 (H2.ext K0.x) (H6.ext K0.x) Ap) fun Ay Az Aq Ar=>?_;obtain ⟨A3,A4,A5,A6,rfl,Au,Av⟩:=Ar;refine Zj (ABl rfl rfl (ABl rfl rfl (AAl (AA4 (Zj (Zt (Zw ?_)))))));have Ab:=K0.no2 Aq Av Au;obtain rfl:=Zl Ai;exact ⟨_,Zy,Ab.x,_,_,_,_,rfl,(Ab.o2 p0),Ab.s.sel [0] Zk⟩
def AKg (fuel:Nat) (a1:Int) (Aa:LiA) (Ab:Int):Option ((LiA × Int) ⊕ ((LiA))):=
  (if Ab < a1 then (if Aa.length<=100000000 then (some (Sum.inl ((Aa ++ [Ab]),(w64 (Ab + 1))))) else none) else (some (Sum.inr<| Aa)))
def AFa (fuel:Nat) (a1 a2:Int):Option LiA:=
  ((iter (fun s=>AKg fuel a1 s.1 s.2) fuel ([],0)).bind (fun (Aa:LiA)=>(if Aa.length<=100000000 then (some (Aa ++ [a2])) else none)))
theorem ANp {fuel:Nat} {h:Zu} {a1 a2:Int} {r:LiA} (hp:AFa fuel a1 a2=some r):AAv Tryz.prog 150 #[(.int .i64 a1),(.int .i64 a2)] h (fun x h'=>Ext h h'/\ ∃ (x0:Value) (F0:List Nat),x=x0/\OwC (cI .i64) 3 h' F0 x0 r/\Sp h' h.size [F0]):=by
 unfold AFa at hp;refine cwf (l:=[_,_]) Tryz.func150 rfl rfl (Zn (AA4 (Zt (Zo (Zn (Zt (Zs ?_)))))));have K4:=Kst.anil (cI .i64) 3 (Kst.k0 h);refine AFj 65504 (fun x:(LiA) × (Value) × LnA × (Int)=>(x.1,x.2.2.2)) (([],(.slice none 0 0),[],0):(LiA) × (Value) × LnA × (Int)) hp (fun x=>[(5,x.2.1),(6,(.int .i64 x.2.2.2))]) (fun x=>K4.L.set 0 (aO (cI .i64) 3 x.2.2.1 x.2.1 x.1)) K4 ⟨rfl,rfl,trivial⟩ ?_;rintro ⟨Az,A3,A4,Aj⟩ A5 h9 y8 Ab Ac Ak;unfold AKg at Ac;refine Zo (Zn (Zj (Zj (AAu rfl rfl (Zr (⟨_,rfl,fun Ad=>?_,fun Ad=>?_⟩))))))
 ·refine Zv (q_t (Zo (Zs (AAa (Zj (Zj ?_))))));obtain ⟨Am,Ao⟩:=ifN (AA5 Ac Ad);refine ALo AWb AWm rfl rfl trivial tt2 (fun _=>rfl) rfl (show ((cI .i64)).rep _ Aj [(.int .i64 Aj)] from rfl) (Ab.o p0) Zk Am fun A8 A9 Ba Bb Ap Aq Ar=>AAl (AAn (q_b (q_t (AAa (Zj (AA0 rfl rfl (Zt ?_)))))));exact ⟨(_,_,_,_),(Zl Ao).symm,(Ab.uo p0 Aq Ap Ar),rfl,rfl,trivial⟩
 ·refine AAh (AAi (AAi (ABj (q_t (Zn (Zj (Zj ?_)))))));obtain ⟨Au,Av⟩:=ifN (Ak _ (Zl (AA6 Ac Ad)).symm);refine ALo AWb AWm rfl rfl trivial tt2 (fun _=>rfl) rfl (show ((cI .i64)).rep _ a2 [(.int .i64 a2)] from rfl) (Ab.o p0) Zk Au fun Bc Be Bf Bg Aw Ax Ay=>Zt (Zw ?_);have Ae:=Ab.uo p0 Ax Aw Ay;obtain rfl:=Zl Av;exact ⟨_,Zy,Ae.x,_,_,rfl,(Ae.o p0),Ae.s.sel [0] Zk⟩
def AIz (fuel:Nat) (a3:LiI) (x5:Int) (Ab:LiA) (Aa:Int):Option ((LiA × Int) ⊕ ((LiA))):=
  (if Aa < x5 then ((AFa fuel Aa Aa).bind fun Ae=>((AFa fuel Aa Aa).bind fun Af=>((AEl fuel a3 Ae Af).bind fun Ag=>((ABe fuel Ag).bind fun Ah=>(if Ab.length<=100000000 then (some (Sum.inl ((Ab ++ [Ah]),(w64 (Aa + 1))))) else none))))) else (some (Sum.inr<| Ab)))
def AC8 (fuel:Nat) (a3:LiI):Option (LiA × Bool):=
  ((ADn fuel a3).bind fun (x5,x6)=>(if (!x6)=true then (some ([],false)) else ((iter (fun s=>AIz fuel a3 x5 s.1 s.2) fuel ([],0)).bind (fun (Ad:LiA)=>(some (Ad,true))))))
theorem AI0 {fuel:Nat} {h:Zu} {Ai:Value} {a3:LiI} {r:(LiA × Bool)} (H2:AC5 cZ h Ai a3) (hp:AC8 fuel a3=some r):AAv Tryz.prog 98 #[Ai] h (fun x h'=>Ext h h'/\ ∃ (x0:Value) (F0:List Nat),x= .tuple #[x0,.bool r.2]/\OwC cZ 94 h' F0 x0 r.1/\Sp h' h.size [F0]):=by
 unfold AC8 at hp;refine cwf (l:=[_]) Tryz.func98 rfl rfl (Zn (AAl (AA4 (Zj ?_))));have K0:=Kst.k0 h;obtain ⟨⟨x5,x6⟩,Av,Ac⟩:=Zp hp;dsimp only at Ac;refine ACl K0 (ANg (H2.ext K0.x) Av) fun Bh E9 Aq=>Zj (ABl rfl rfl (ABl rfl rfl (AAl (Zt (Zo (Zn (Zj (ACt rfl (Zr (⟨_,rfl,fun Ad=>?_,fun Ad=>?_⟩))))))))))
 ·refine Zn (AAl (Zt (Zw (AAc ?_))));have Ae:=Kst.anil cZ 94 Aq;obtain rfl:=Zl (ifT Ac Ad);exact ⟨_,ABf,Ae.x,_,_,rfl,(Ae.o p0),Ae.s.sel [0] Zk⟩
 ·refine Zv (q_t (Zn (Zt (Zo (Zn (Zt (Zs ?_)))))));have Ar:=Kst.anil cZ 94 Aq;refine AFj 4294934720 (fun x:(LiA) × (Value) × LnA × (Int)=>(x.1,x.2.2.2)) (([],(.slice none 0 0),[],0):(LiA) × (Value) × LnA × (Int)) (AF9 Ac Ad) (fun x=>[(6,x.2.1),(7,(.int .i64 x.2.2.2))]) (fun x=>Ar.L.set 0 (aO cZ 94 x.2.2.1 x.2.1 x.1)) Ar ⟨rfl,rfl,trivial⟩ ?_;rintro ⟨Bj,Bl,Bm,u32⟩ Bn Bo Bp Aa Af Aw;unfold AIz at Af;refine Zo (Zn (Zj (Zj (AAu rfl rfl (Zr (⟨_,rfl,fun Ag=>?_,fun Ag=>?_⟩))))))
  ·refine Zv (q_t (Zo (Zs (AAa (Zj (Zj (Zj (Zj ?_))))))));obtain ⟨Bq,Ax,Ay⟩:=Zp (AA5 Af Ag);refine Av1 Aa (ANp Ax) fun Br Bt Bu Bv Az=>Zj (Zj ?_);obtain ⟨Bw,A3,A4⟩:=Zp Ay;refine Av1 Az (ANp A3) fun Bx By Bz B1 Ab=>?_;obtain ⟨B3,A5,A6⟩:=Zp A4;refine AMv Ab (ANh (H2.ext Ab.x) (Ab.o p1).rd (Ab.o p0).rd A5) fun B4 B5 B6 B7 B8 B9 Au=>?_;obtain ⟨Ca,A7,A8⟩:=Zp A6;refine ANo Au (ACm (Au.o2 p0).rd A7) fun Cb Cd Ce Ah=>?_;obtain ⟨A9,Ba⟩:=ifN A8;refine ALo ACz AE0 rfl rfl trivial tt2 (fun _=>rfl) rfl (Ah.z p0) (Ah.o p4) Zk A9 fun Cf Cg Ch Ci Bb Bc Be=>AAl (AAn (q_b (q_t (AAa (Zj (AA0 rfl rfl (Zt ?_)))))));exact ⟨(_,_,_,_),(Zl Ba).symm,(Ah.uo p4 Bc Bb Be).sel [4] Zk,rfl,rfl,trivial⟩
  ·refine AAh (AAi (AAi (ABj (q_t (Zn (Zj (AAl (Zt (Zw ?_)))))))));obtain rfl:=Zl (Aw _ (Zl (AA6 Af Ag)).symm);exact ⟨_,ABf,Aa.x,_,_,rfl,(Aa.o p0),Aa.s.sel [0] Zk⟩
def AHu (fuel:Nat) (a3:LiI) (Ab Aa:Int):Option ((Int) ⊕ ((Bool) ⊕ (Unit))):=
  (if Aa < Ab then ((gI a3 Ab).bind fun Ad=>((gI Ad Aa).bind fun Ae=>((gI a3 Aa).bind fun Af=>((gI Af Ab).bind fun Ag=>((Ace fuel Ae Ag).bind fun Ah=>(if ¬ Ah=0 then (some (Sum.inr<| Sum.inl <| false)) else (some (Sum.inl (w64 (Aa + 1)))))))))) else (some (Sum.inr<| Sum.inr <| ())))
def AHv (fuel:Nat) (a3:LiI) (Aa:Int):Option ((Int) ⊕ ((Bool) ⊕ (Unit))):=
  (if Aa < (a3.length:Int) then ((iter (fun s=>AHu fuel a3 Aa s) fuel 0).bind (fun ex=>match ex with | Sum.inl Ac=>(some (Sum.inr<| Sum.inl <| Ac)) | Sum.inr (_)=>(some (Sum.inl (w64 (Aa + 1)))))) else (some (Sum.inr<| Sum.inr <| ())))
def ADh (fuel:Nat) (a3:LiI):Option Bool:=
  ((iter (fun s=>AHv fuel a3 s) fuel 0).bind (fun ex=>match ex with | Sum.inl Ab=>(some Ab) | Sum.inr (_)=>(some true)))
theorem AL6 {fuel:Nat} {h:Zu} {Ai:Value} {a3:LiI} {r:Bool} (H2:AC5 cZ h Ai a3) (hp:ADh fuel a3=some r):AAv Tryz.prog 95 #[Ai] h (fun x h'=>Ext h h'/\x= .bool r):=by
 unfold ADh at hp;refine cwf (l:=[_]) Tryz.func95 rfl rfl (Zn (Zt (Zo (Zn (Zj (AA8 ABw rfl H2 (Zj (Zr (Zs ?_)))))))));have K0:=Kst.k0 h;refine AG4 4294967196 hp (fun x=>[(7,(.int .i64 x))]) (fun x=>K0.L) K0 ⟨rfl,trivial⟩ ?_;rintro Bb Bc h8 y7 Ac Ad Am;unfold AHv at Ad;refine Zn (AAu rfl rfl (Zr (Zo (⟨_,rfl,fun Ae=>?_,fun Ae=>?_⟩))))
 ·refine Zv (q_t (Zo (Zs (Zn (Zj (AA4 (Zt (Zs (AG4 2147482644 (AA5 Ad Ae) (fun x=>[(4,(.int .i64 x))]) (fun x=>Ac.L) Ac ⟨rfl,trivial⟩ ?_)))))))));rintro Bg Bh Bi Bj Aa Af Ao;unfold AHu at Af;refine Zo (Zn (Zj (Zj (AAu rfl rfl (Zr (⟨_,rfl,fun Ag=>?_,fun Ag=>?_⟩))))))
  ·refine Zv (q_t (Zo (Zs (Zo (AF8 (Zj (Zj ?_)))))));obtain ⟨Bl,Av,Aw⟩:=Zp (AA5 Af Ag);refine AGs ABw ADv H2 Aa.x Av fun _ Bm Ax=>Zj ?_;obtain ⟨Bn,Ay,Az⟩:=Zp Aw;refine AIw (c:=cZ) ACz rfl Ax rfl Ay fun Bo Bp Bq Ap A3=>AN4 (c:=cZ) ABk rfl (Aa.zx Ap) (fun j u hu=>(AAx (A3 j u hu) Aa.x)) (Zj (Zj ?_));obtain ⟨Br,A4,A5⟩:=Zp Az;refine AGs ABw ADv H2 Aa.x A4 fun _ Bt A6=>Zj ?_;obtain ⟨Bu,A7,A8⟩:=Zp A5;refine AIw (c:=cZ) ACz rfl A6 rfl A7 fun Bv Bw Bx Aq A9=>AN4 (c:=cZ) ABk rfl (Aa.zx Aq) (fun j u hu=>(AAx (A9 j u hu) Aa.x)) ?_;obtain ⟨By,Ba,Ar⟩:=Zp A8;refine ACl Aa (Aax (Aa.zx Ap).2 (Aa.zx Aq).2 Ba) fun Bz B1 Au=>ACk rfl rfl (Zr (⟨_,rfl,fun Ah=>?_,fun Ah=>?_⟩))
   ·refine Zn (Zt (Zw (ABi (AAc (AAc (ABi (ABi (AAc (AAc (ABi (AAc ?_)))))))))));obtain rfl:=Zl (Am _ (Zl (Ao _ (Zl (AA5 Ar Ah)).symm)).symm);exact ⟨_,Zy,Au.x,rfl⟩
   ·refine Zv (q_b (q_t (AAa (Zj (AA0 rfl rfl (Zt ?_))))));exact ⟨_,(Zl (AA6 Ar Ah)).symm,Au,rfl,trivial⟩
  ·refine AAh (AAi (AAi (ABj (q_b (q_t (AAa (AA0 rfl rfl (Zj (Zr ?_)))))))));exact ⟨_,(Zl (Ao _ (Zl (AA6 Af Ag)).symm)).symm,Aa,rfl,trivial⟩
 ·refine AAh (AAi (AAi (ABj (q_t (Zn (Zt (Zw ?_)))))));obtain rfl:=Zl (Am _ (Zl (AA6 Ad Ae)).symm);exact ⟨_,Zy,Ac.x,rfl⟩
def AId (fuel:Nat) (x5:LiA) (Aa:Int):Option ((Int) ⊕ ((Bool) ⊕ (Unit))):=
  (if Aa < (x5.length:Int) then ((gI x5 Aa).bind fun Ac=>((AYk fuel Ac).bind fun Ad=>(if Ad<=0 then (some (Sum.inr<| Sum.inl <| false)) else (some (Sum.inl (w64 (Aa + 1))))))) else (some (Sum.inr<| Sum.inr <| ())))
def AFl (fuel:Nat) (a3:LiI):Option Bool:=
  ((AC8 fuel a3).bind fun (x5,x6)=>(((if (!x6)=true then (some (Sum.inl <| false)) else ((ADh fuel a3).bind fun Ad=>(if (!Ad)=true then (some (Sum.inl <| false)) else (some (Sum.inr <| ()))))):Option ((Bool) ⊕ (Unit))).bind (fun ex=>match ex with | Sum.inl Ae=>(some Ae) | Sum.inr (_)=>((iter (fun s=>AId fuel x5 s) fuel 0).bind (fun ex=>match ex with | Sum.inl Af=>(some Af) | Sum.inr (_)=>(some true))))))
theorem AQo {fuel:Nat} {h:Zu} {Aj:Value} {a3:LiI} {r:Bool} (H2:AC5 cZ h Aj a3) (hp:AFl fuel a3=some r):AAv Tryz.prog 96 #[Aj] h (fun x h'=>Ext h h'/\x= .bool r):=by
 unfold AFl at hp;refine cwf (l:=[_]) Tryz.func96 rfl rfl (Zn (AA4 (Zj ?_)));have K0:=Kst.k0 h;obtain ⟨⟨x5,x6⟩,A6,Ap⟩:=Zp hp;dsimp only at Ap;refine ANz rfl (AI0 (H2.ext K0.x) A6) fun Bn Bo E9 A8=>?_;obtain ⟨Bp,Bq,rfl,A9,Ba⟩:=A8;refine Zj (ABl rfl rfl (ABl rfl rfl (AAl (Zt ?_))));have Aa:=K0.no E9 Ba A9;obtain ⟨Bb,Aq,Ad⟩:=Zp Ap;refine AKb 520196 (fun x:Unit=>[]) (fun x h'=>(Sum.inr <| ())=Bb/\Kst h h' (Aa.L)) ?_ ?_
 ·refine Zn (Zj (ACt rfl (Zj ?_)));cases Ar:(!x6)
  ·refine AAb 14 false (Zj (AAb 14 false ?_));obtain ⟨Br,Bc,Au⟩:=Zp (AF9 Aq Ar);refine ACl Aa (AL6 (H2.ext Aa.x) Bc) fun Bt Bu Av=>AAb 14 false (ACt rfl (Zz rfl (Zr (⟨_,rfl,fun Ae=>?_,fun Ae=>?_⟩))))
   ·refine Zn (Zt ?_);obtain rfl:=Zl (ifT Au Ae);refine Zw (AAc ?_);obtain rfl:=Zl Ad;exact ⟨_,Zy,Av.x,rfl⟩
   ·refine Zv (q_t ?_);exact ⟨(():Unit),⟨Zl (AF9 Au Ae),Av⟩,trivial⟩
  ·refine ADe 14 true (Z4 rfl (Zr (AAr rfl (Zn (Zt ?_)))));obtain rfl:=Zl (ifT Aq Ar);refine Zw (AAc ?_);obtain rfl:=Zl Ad;exact ⟨_,Zy,Aa.x,rfl⟩
 rintro ⟨⟩ Bv Bw ⟨Be,Af⟩;subst Be;refine Zo (Zn (Zj (ABm ACz rfl (Af.o p0).rd (Zj (Zr (Zs (AG4 534773828 Ad (fun x=>[(21,(.int .i64 x))]) (fun x=>Af.L) Af ⟨rfl,trivial⟩ ?_)))))));rintro Bx By Bz B1 Ab Ag Aw;unfold AId at Ag;refine Zn (AAu rfl rfl (Zr (Zo (⟨_,rfl,fun Ah=>?_,fun Ah=>?_⟩))))
 ·refine Zv (q_t (Zo (Zs (Zn ?_))));obtain ⟨B3,Ax,Bf⟩:=Zp (AA5 Ag Ah);refine AXd ACz rfl (Ab.o p0) rfl Ax fun B4 Bg=>?_;obtain ⟨B5,Bh,Bi⟩:=(Ab.o p0).cells Bg Ax;have Ay:=Ab.az Bh;refine AN4 (c:=cZ) ABk rfl (Ay.z p0) (fun j u hu=>(Bi j u hu)) (AC1 Ay [.bool false,.slice none 0 0] AE0 fun B6 Bj B7 Az=>AF7 Az p0 (AAe Bj) (Az.z p1) fun B8 Ac=>AH7 (AK0 (Ac.z p1) (Ac.b p0) ?_));obtain ⟨B9,Bl,A3⟩:=Zp Bf;refine ACl Ac (AXk (Ac.z p1).2 Bl) fun Ca Cb A4=>AWp rfl rfl (Zr (⟨_,rfl,fun Ai=>?_,fun Ai=>?_⟩))
  ·refine Zn (Zt (Zw (ABi (AAc (AAc (ABi (AAc ?_)))))));obtain rfl:=Zl (Aw _ (Zl (AA5 A3 Ai)).symm);exact ⟨_,Zy,A4.x,rfl⟩
  ·refine Zv (q_b (q_t (AAa (AA0 rfl rfl (Zj (Zr ?_))))));exact ⟨_,(Zl (AA6 A3 Ai)).symm,A4.sel [2] Zk,rfl,trivial⟩
 ·refine AAh (AAi (AAi (ABj (q_t (Zn (Zt (Zw ?_)))))));obtain rfl:=Zl (Aw _ (Zl (AA6 Ag Ah)).symm);exact ⟨_,Zy,Ab.x,rfl⟩
def ACj (fuel:Nat) (a3:LiI):Option Int:=
  ((ADn fuel a3).bind fun (x5,x6)=>(if (!x6)=true then (some 3) else (if 8 < x5 then (some 3) else ((ADh fuel a3).bind fun Ad=>(if (!Ad)=true then (some 4) else ((AFl fuel a3).bind fun Ae=>(if (!Ae)=true then (some 5) else (some 0))))))))
theorem AIe {fuel:Nat} {h:Zu} {Ah:Value} {a3:LiI} {r:Int} (H2:AC5 cZ h Ah a3) (hp:ACj fuel a3=some r):AAv Tryz.prog 49 #[Ah] h (fun x h'=>Ext h h'/\x= .int .i64 r):=by
 unfold ACj at hp;refine cwf (l:=[_]) Tryz.func49 rfl rfl (Zn (AA4 (Zj ?_)));have K0:=Kst.k0 h;obtain ⟨⟨x5,x6⟩,Au,Ac⟩:=Zp hp;dsimp only at Ac;refine ACl K0 (ANg (H2.ext K0.x) Au) fun Ay E9 Aa=>Zj (ABl rfl rfl (ABl rfl rfl (AAl (Zt (Zo (Zs (Zn (Zj (ACt rfl (Zj ?_))))))))));cases Ak:(!x6)
 ·refine AAb 13 false (Zj (AAb 13 false (AGb rfl rfl (Zz rfl (Zt ?_)))));have Am:=AF9 Ac Ak;refine ⟨_,rfl,fun Ad=>?_,fun Ad=>?_⟩
  ·refine Zn (Zt (Zw (ABi (AAc ?_))));obtain rfl:=Zl (AA5 Am Ad);exact ⟨_,Zy,Aa.x,rfl⟩
  ·refine Zn (Zj ?_);obtain ⟨A3,Av,Ao⟩:=Zp (AA6 Am Ad);refine ACl Aa (AL6 (H2.ext Aa.x) Av) fun A4 A5 Ae=>ACt rfl (Zt (⟨_,rfl,fun Af=>?_,fun Af=>?_⟩))
   ·refine Zn (Zt (Zw (ABi (AAc ?_))));obtain rfl:=Zl (ifT Ao Af);exact ⟨_,Zy,Ae.x,rfl⟩
   ·refine Zn (Zj ?_);obtain ⟨A6,Aw,Ap⟩:=Zp (AF9 Ao Af);refine ACl Ae (AQo (H2.ext Ae.x) Aw) fun A7 A8 Aq=>ACt rfl (Zt (⟨_,rfl,fun Ag=>?_,fun Ag=>?_⟩))
    ·refine Zn (Zt (Zw (ABi (AAc ?_))));obtain rfl:=Zl (ifT Ap Ag);exact ⟨_,Zy,Aq.x,rfl⟩
    ·refine Zv (q_b (q_t (Zn (Zt (Zw ?_)))));obtain rfl:=Zl (AF9 Ap Ag);exact ⟨_,Zy,Aq.x,rfl⟩
 ·refine AGz 13 true (Z4 rfl (Zt (AAr rfl (Zn (Zt (Zw (ABi (AAc ?_))))))));obtain rfl:=Zl (ifT Ac Ak);exact ⟨_,Zy,Aa.x,rfl⟩
def ADi (fuel:Nat) (a3 a7:LiI):Option LiI:=
  ((ADg fuel a7).bind fun (x9,Af)=>((AB9 fuel x9 a3).bind fun Ad=>((AB9 fuel Ad a7).bind fun Ae=>(some Ae))))
theorem AP9 {fuel:Nat} {h:Zu} {Ad:Value} {a3:LiI} {Af:Value} {a7 r:LiI} (H2:AC5 cZ h Ad a3) (H6:AC5 cZ h Af a7) (hp:ADi fuel a3 a7=some r):AAv Tryz.prog 61 #[Ad,Af] h (fun x h'=>Ext h h'/\ ∃ (x0:Value) (F0:List Nat) (Ap:List LnA) (Aq:List Value),x=x0/\ACs cZ 128 94 h' F0 Ap Aq x0 r/\Sp h' h.size [F0]):=by
 unfold ADi at hp;refine cwf (l:=[_,_]) Tryz.func61 rfl rfl (Zn (AA4 (Zj ?_)));have K0:=Kst.k0 h;obtain ⟨⟨x9,A6⟩,Ar,Am⟩:=Zp hp;dsimp only at Am;refine ANz rfl (AL5 (H6.ext K0.x) Ar) fun A7 A8 Au Av=>?_;obtain ⟨A9,Ba,Bb,Bc,rfl,Aw,Ax⟩:=Av;refine Zj (ABl rfl rfl (ABl rfl rfl (AAl (AA4 (Zj (Zj ?_))))));have Aa:=K0.no2 Au Ax Aw;obtain ⟨Be,Ay,Az⟩:=Zp Am;refine AMv Aa (AIy (Aa.o2 p0).rd (H2.ext Aa.x) Ay) fun Bf Bg Bh Bi Bj Bl Ab=>Zj ?_;obtain ⟨Bm,A3,A4⟩:=Zp Az;refine AMv Ab (AIy (Ab.o2 p0).rd (H6.ext Ab.x) A3) fun Bn Bo Bp Bq Br Bt Ac=>Zt (Zw ?_);obtain rfl:=Zl A4;exact ⟨_,Zy,Ac.x,_,_,_,_,rfl,(Ac.o2 p0),Ac.s.sel [0] Zk⟩
def AJo (fuel:Nat) (a6:Int) (Ab Ac:LiA) (Aa:Int):Option ((LiA × LiA × Int) ⊕ ((LiA × LiA))):=
  (if Aa < a6 then (if Ab.length<=100000000 then (if Ac.length<=100000000 then (some (Sum.inl ((Ab ++ [Aa]),(Ac ++ [Aa]),(w64 (Aa + 1))))) else none) else none) else (some (Sum.inr<| (Ab,Ac))))
def ADo (fuel:Nat) (a3:LiI) (a5 a6:Int):Option Int:=
  ((iter (fun s=>AJo fuel a6 s.1 s.2.1 s.2.2) fuel ([],[],0)).bind (fun ((Ab,Ac):LiA × LiA)=>(if Ab.length<=100000000 then (if Ac.length<=100000000 then ((AEl fuel a3 (Ab ++ [a5]) (Ac ++ [a6])).bind fun Af=>((ABe fuel Af).bind fun Ag=>(some Ag))) else none) else none)))
theorem AJp {fuel:Nat} {h:Zu} {Ah:Value} {a3:LiI} {a5 a6 r:Int} (H2:AC5 cZ h Ah a3) (hp:ADo fuel a3 a5 a6=some r):AAv Tryz.prog 114 #[Ah,(.int .i64 a5),(.int .i64 a6)] h (fun x h'=>Ext h h'/\ ∃ (x0:Value),x=x0/\ZZ h' x0 r):=by
 unfold ADo at hp;refine cwf (l:=[_,_,_]) Tryz.func114 rfl rfl (Zn (AC1 (Kst.k0 h) [.bool false,.slice none 0 0] AE0 fun b7 h8 Bt Au=>AH7 (AAl (Zt (Zo (Zn (Zt (Zs ?_))))))));have Ak:=Kst.anil (cI .i64) 3 (Kst.anil (cI .i64) 3 Au);refine AFj 8388480 (fun x:(LiA) × (Value) × LnA × (LiA) × (Value) × LnA × (Int)=>(x.1,x.2.2.2.1,x.2.2.2.2.2.2)) (([],(.slice none 0 0),[],[],(.slice none 0 0),[],0):(LiA) × (Value) × LnA × (LiA) × (Value) × LnA × (Int)) hp (fun x=>[(7,x.2.1),(8,x.2.2.2.2.1),(9,(.int .i64 x.2.2.2.2.2.2))]) (fun x=>(Ak.L.set 1 (aO (cI .i64) 3 x.2.2.1 x.2.1 x.1)).set 0 (aO (cI .i64) 3 x.2.2.2.2.2.1 x.2.2.2.2.1 x.2.2.2.1)) Ak ⟨rfl,rfl,rfl,trivial⟩ ?_;rintro ⟨Bu,Bv,Bw,Bx,By,Bz,u32⟩ B1 B3 B4 Ac Af Av;unfold AJo at Af;refine Zo (Zn (Zj (Zj (AAu rfl rfl (Zr (⟨_,rfl,fun Ag=>?_,fun Ag=>?_⟩))))))
 ·refine Zv (q_t (Zo (Zs (Zn (Zj (Zj ?_))))));obtain ⟨Aw,Ax⟩:=ifN (AA5 Af Ag);refine ALo AWb AWm rfl rfl trivial tt2 (fun _=>rfl) rfl (show ((cI .i64)).rep _ u32 [(.int .i64 u32)] from rfl) (Ac.o p1) Zk Aw fun B5 B6 B7 B8 Ay Az A3=>Zt (AAa (Zj (Zj ?_)));have Am:=Ac.uo p1 Az Ay A3;obtain ⟨A4,A5⟩:=ifN Ax;refine ALo AWb AWm rfl rfl trivial tt2 (fun _=>rfl) rfl (show ((cI .i64)).rep _ u32 [(.int .i64 u32)] from rfl) (Am.o p0) Zk A4 fun B9 Ca Cb Cd A6 A7 A8=>AAl (AAn (q_b (q_t (AAa (Zj (AA0 rfl rfl (Zt ?_)))))));exact ⟨(_,_,_,_,_,_,_),(Zl A5).symm,(Am.uo p0 A7 A6 A8),rfl,rfl,rfl,trivial⟩
 ·refine AAh (AAi (AAi (ABj (q_t (Zn (Zj (Zj (Zj ?_))))))));obtain ⟨A9,Ba⟩:=ifN (Av _ (Zl (AA6 Af Ag)).symm);refine ALo AWb AWm rfl rfl trivial tt2 (fun _=>rfl) rfl (show ((cI .i64)).rep _ a5 [(.int .i64 a5)] from rfl) (Ac.o p1) Zk A9 fun Ce Cf Cg Ch Bb Bc Be=>Zj (Zj ?_);have Ao:=Ac.uo p1 Bc Bb Be;obtain ⟨Bf,Bg⟩:=ifN Ba;refine ALo AWb AWm rfl rfl trivial tt2 (fun _=>rfl) rfl (show ((cI .i64)).rep _ a6 [(.int .i64 a6)] from rfl) (Ao.o p0) Zk Bf fun Ci Cj Ck Cm Bh Bi Bj=>?_;have Ad:=Ao.uo p0 Bi Bh Bj;obtain ⟨Cn,Bl,Bm⟩:=Zp Bg;refine AMv Ad (ANh (H2.ext Ad.x) (Ad.o p1).rd (Ad.o p0).rd Bl) fun Co Cp Cq Cr Ct Cu Ap=>?_;obtain ⟨Cv,Bn,Bo⟩:=Zp Bm;refine ANo Ap (ACm (Ap.o2 p0).rd Bn) fun Cw Bp Cx Aq=>AF7 Aq p4 (AAe Bp) (Aq.z p0) fun Cy Ae=>Zr (Zw ?_);obtain rfl:=Zl Bo;exact ⟨_,ACb ABk (cZ.klen (Ae.z p0)) rfl (Ae.b p4),Ae.x,_,rfl,(Ae.z p0).2⟩
def ACa (fuel:Nat) (a3:LiA) (a5:Int):Option Int:=
  (if a5=0 then ((AKs fuel 1).bind fun Ac=>(some Ac)) else ((gI a3 (w64 (a5 - 1))).bind fun Ad=>(some Ad)))
theorem ADt {fuel:Nat} {h:Zu} {Af:Value} {a3:LiA} {a5 r:Int} (H2:SlC cZ h Af a3) (hp:ACa fuel a3 a5=some r):AAv Tryz.prog 115 #[Af,(.int .i64 a5)] h (fun x h'=>Ext h h'/\ ∃ (x0:Value),x=x0/\ZZ h' x0 r):=by
 unfold ACa at hp;refine cwf (l:=[_,_]) Tryz.func115 rfl rfl (Zn (AC1 (Kst.k0 h) [.bool false,.slice none 0 0] AE0 fun b6 h7 E9 Aa=>Zr (Zo (Zn (Zj (AB2 rfl rfl (Zr (⟨_,rfl,fun Ae=>?_,fun Ae=>?_⟩))))))))
 ·refine Zn ?_;obtain ⟨Ay,Ao,Ap⟩:=Zp (AA5 hp Ae);refine ANo Aa (AJy Ao) fun Az Aq A3 Aj=>AF7 Aj p1 (AAe Aq) (Aj.z p0) fun A4 Ab=>Zr (Zw (AAc ?_));obtain rfl:=Zl Ap;exact ⟨_,ACb ABk (cZ.klen (Ab.z p0)) rfl (Ab.b p1),Ab.x,_,rfl,(Ab.z p0).2⟩
 ·refine Zv (q_t (Zn (Zj (Zj (AFg rfl rfl ?_)))));obtain ⟨A5,Ar,Au⟩:=Zp (AA6 hp Ae);refine AIw (c:=cZ) ACz rfl H2 rfl Ar fun A6 A7 A8 Ac Av=>AN4 (c:=cZ) ABk rfl (Aa.zx Ac) (fun j u hu=>(AAx (Av j u hu) Aa.x)) (AF7 Aa p0 (AAe h7) (Aa.zx Ac) fun A9 Ad=>Zr (Zw ?_));obtain rfl:=Zl Au;exact ⟨_,ACb ABk (cZ.klen (Ad.zx Ac)) rfl (Ad.b p0),Ad.x,_,rfl,(Ad.zx Ac).2⟩
def AFb (fuel:Nat) (a3:LiI) (a7:LiA) (a9 Aa:Int):Option Bool:=
  ((AKs fuel 2).bind fun Ae=>((ADo fuel a3 a9 Aa).bind fun Af=>((Ai3 fuel Af).bind fun Ag=>((ARe fuel Ae Ag).bind fun Ah=>((ACa fuel a7 (w64 (Aa + 1))).bind fun Ai=>((Ace fuel Ah Ai).bind fun Aj=>(some (decide (Aj<=0)))))))))
theorem ANq {fuel:Nat} {h:Zu} {Ac:Value} {a3:LiI} {Ae:Value} {a7:LiA} {a9 Ah:Int} {r:Bool} (H2:AC5 cZ h Ac a3) (H6:SlC cZ h Ae a7) (hp:AFb fuel a3 a7 a9 Ah=some r):AAv Tryz.prog 99 #[Ac,Ae,(.int .i64 a9),(.int .i64 Ah)] h (fun x h'=>Ext h h'/\x= .bool r):=by
 unfold AFb at hp;refine cwf (l:=[_,_,_,_]) Tryz.func99 rfl rfl (Zn (AA4 ?_));obtain ⟨A7,Ap,Aq⟩:=Zp hp;refine ANo (Kst.k0 h) (AJy Ap) fun A8 A9 Ba Ai=>Zj (Zj (Zj ?_));obtain ⟨Bb,Ar,Au⟩:=Zp Aq;refine ANo Ai (AJp (H2.ext Ai.x) Ar) fun Bc Be Bf Aj=>?_;obtain ⟨Bg,Av,Aw⟩:=Zp Au;refine ANo Aj (Ahg (Aj.z p0).2 Av) fun Bh Bi Bj Aa=>?_;obtain ⟨Bl,Ax,Ay⟩:=Zp Aw;refine ANo Aa (AP7 (Aa.z p2).2 (Aa.z p0).2 Ax) fun Bm Bn Bo Ak=>Zj (Zj (AA0 rfl rfl ?_));obtain ⟨Bp,Az,A3⟩:=Zp Ay;refine ANo Ak (ADt (H6.ext Ak.x) Az) fun Bq Br Bt Ab=>?_;obtain ⟨Bu,A4,A5⟩:=Zp A3;refine ACl Ab (Aax (Ab.z p1).2 (Ab.z p0).2 A4) fun Bv Bw A6=>AWp rfl rfl (Zt (Zw ?_));obtain rfl:=Zl A5;exact ⟨_,Zy,A6.x,rfl⟩
def AFc (fuel:Nat) (a3:LiI):Option Bool:=
  ((ABe fuel a3).bind fun x5=>((AKs fuel 10000).bind fun Ac=>((Ace fuel x5 Ac).bind fun Ad=>(some (decide (Ad<=0))))))
theorem ANr {fuel:Nat} {h:Zu} {Ab:Value} {a3:LiI} {r:Bool} (H2:AC5 cZ h Ab a3) (hp:AFc fuel a3=some r):AAv Tryz.prog 50 #[Ab] h (fun x h'=>Ext h h'/\x= .bool r):=by
 unfold AFc at hp;refine cwf (l:=[_]) Tryz.func50 rfl rfl (Zn (AA4 (Zj ?_)));have K0:=Kst.k0 h;obtain ⟨x5,Af,Ag⟩:=Zp hp;refine ANo K0 (ACm (H2.ext K0.x) Af) fun Aq h9 E8 Ah=>?_;obtain ⟨Av,Ai,Aj⟩:=Zp Ag;refine ANo Ah (AJy Ai) fun Aw Ax Ay Aa=>?_;obtain ⟨Az,Ak,Am⟩:=Zp Aj;refine ACl Aa (Aax (Aa.z p1).2 (Aa.z p0).2 Ak) fun A3 A4 Ao=>AWp rfl rfl (Zt (Zw ?_));obtain rfl:=Zl Am;exact ⟨_,Zy,Ao.x,rfl⟩
def AK4 (fuel:Nat) (a1:Int) (a2:Bool) (Aa:Int) (Ac:LiI):Option ((Int × LiI) ⊕ ((LiI))):=
  (if Aa < ((List.replicate (Int.toNat a1) ([]:List Int)).length:Int) then (if 0<=a1/\a1<=100000000 then ((gI Ac Aa).bind fun Ai=>((gI (sI Ac Aa (List.replicate (Int.toNat a1) (0:Int))) Aa).bind fun Ae=>((gI Ae Aa).bind fun Aj=>(((if a2=true then (if Aa=(w64 (a1 - 1)) then (if 3 < a1 then (some ( (w64 (Aa - 2)))) else (some ( (w64 (Aa - 1))))) else (some ( (w64 (Aa - 1))))) else (some ( (w64 (Aa - 1))))):Option ((Int))).bind (fun (Ad:Int)=>(if 0<=Ad then ((gI (sI (sI Ac Aa (List.replicate (Int.toNat a1) (0:Int))) Aa (sI Ae Aa 2)) Aa).bind fun Af=>((gI (sI (sI Ac Aa (List.replicate (Int.toNat a1) (0:Int))) Aa (sI Ae Aa 2)) Ad).bind fun Ak=>((gI Af Ad).bind fun Am=>((gI (sI (sI (sI Ac Aa (List.replicate (Int.toNat a1) (0:Int))) Aa (sI Ae Aa 2)) Aa (sI Af Ad (-1))) Ad).bind fun Ag=>((gI Ag Aa).bind fun Ao=>(some (Sum.inl ((w64 (Aa + 1)),(sI (sI (sI (sI Ac Aa (List.replicate (Int.toNat a1) (0:Int))) Aa (sI Ae Aa 2)) Aa (sI Af Ad (-1))) Ad (sI Ag Aa (-1))))))))))) else (some (Sum.inl ((w64 (Aa + 1)),(sI (sI Ac Aa (List.replicate (Int.toNat a1) (0:Int))) Aa (sI Ae Aa 2))))))))))) else none) else (some (Sum.inr<| Ac)))
def AFy (fuel:Nat) (a1:Int) (a2:Bool):Option LiI:=
  (if 0<=a1/\a1<=100000000 then ((iter (fun s=>AK4 fuel a1 a2 s.1 s.2) fuel (0,(List.replicate (Int.toNat a1) ([]:List Int)))).bind (fun (Ac:LiI)=>(some Ac))) else none)
theorem AN9 {fuel:Nat} {h:Zu} {a1:Int} {a2:Bool} {r:LiI} (hp:AFy fuel a1 a2=some r):AAv Tryz.prog 64 #[(.int .i64 a1),(.bool a2)] h (fun x h'=>Ext h h'/\ ∃ (x0:Value) (F0:List Nat) (A5:List LnA) (A6:List Value),x=x0/\ACs (cI .i64) 60 2 h' F0 A5 A6 x0 r/\Sp h' h.size [F0]):=by
 unfold AFy at hp;refine cwf (l:=[_,_]) Tryz.func64 rfl rfl (Zn (AA4 (Zj ?_)));obtain ⟨A7,A8⟩:=ifN hp;refine AR7 (cI .i64) 2 AAf AMd rfl trivial tt2 rfl rfl Zk A7 fun A9 Ba Bb v9 h7 I8 E5 S6=>Zt (Zo (Zn (Zj ?_)));have Ai:=(Kst.k0 h).no2 E5 S6 I8;refine AA8 AAf rfl (Ai.o2 p0).rd (Zj (Zr (Zs (AFj 72057594037924032 (fun x:(Int) × (LiI) × LnA × LnN × LvA=>(x.1,x.2.1)) ((0,(List.replicate (Int.toNat a1) ([]:List Int)),A9,Ba,Bb):(Int) × (LiI) × LnA × LnN × LvA) A8 (fun x=>[(12,(.int .i64 x.1))]) (fun x=>Ai.L.set 0 (aO2 (cI .i64) 60 2 x.2.2.1 x.2.2.2.1 x.2.2.2.2 v9 x.2.1)) Ai ⟨rfl,trivial⟩ ?_))));rintro ⟨Aa,Cj,Ck,Cm,Cn⟩ Co Cp Cq Ae Aj Bh;unfold AK4 at Aj;refine Zn (AAu rfl rfl (Zr (Zo (⟨_,rfl,fun Ak=>?_,fun Ak=>?_⟩))))
 ·refine Zv (q_t (Zo (Zs (Zn (Zj (AA4 (Zj (Zj (Zj ?_)))))))));obtain ⟨Bi,Bj⟩:=ifN (AA5 Aj Ak);refine AP6 (c:=(cI .i64)) (a:=0) AAg AIu rfl rfl (fun _=>rfl) rfl trivial tt2 rfl rfl Zk Bi fun Cr Ct Cu Bl Bm Bn Bo=>?_;have Ab:=Ae.no Bm (AE5 Bn Bo) Bl;obtain ⟨Cv,Ar,Bp⟩:=Zp Bj;refine AC2 AAf rfl (Ab.o2 p1) rfl Ar fun Cw Cx Bq Cy Cz=>AR6 AA2 (Ab.o2 p1) Ar Bq rfl rfl (Ab.o p0) (Ab.dj p0 p1 Zk) fun C0 Br Bt Bu=>AH7 (Zj (Zj ?_));have Au:=Ab.m2 p0 p1 Zk Bt Br (fun z hz=> .inl (Bu z hz));obtain ⟨C1,Av,Bv⟩:=Zp Bp;refine ABy AAf AA2 (Au.o2 p1) Av fun _ C2 Bw=>Zj ?_;obtain ⟨C3,Bx,By⟩:=Zp Bv;refine ALj (m:=Aa) Au p1 AAg AAk Bw Av Bx (fun _=>rfl) fun _ C4 Ac=>AH7 (Zj (AFg rfl rfl (Zt ?_)));obtain ⟨Bz,Aw,Ax⟩:=Zp By;refine AKb 2198754820224 (fun x:(Int)=>[(7,(.int .i64 x))]) (fun x h'=>( x)=Bz/\Kst h h' (AHa Ac.L [1])) ?_ ?_
  ·refine Zn (Zj (Zj ?_));cases Ay:a2
   ·refine ADb 29 false (Zz rfl (Zj (AGz 35 false (Zz rfl (Zr (AAw rfl (Zv (q_t ?_))))))));exact ⟨((w64 (Aa - 1)):(Int)),⟨Zl (AF9 Aw Ay),Ac.sel [1] Zk⟩,rfl,trivial⟩
   ·refine AAb 29 true (Zj (AAb 29 true (Zj (AAb 29 true (AFg rfl rfl (AAb 29 true (AB2 rfl rfl (Z4 rfl (Zj ?_)))))))));have Az:=ifT Aw Ay;by_cases Af:Aa=(w64 (a1 - 1))
    ·have A3:=ifT Az Af;rw [decide_eq_true Af];refine AAb 35 true (Zj (AAb 35 true (AGb rfl rfl (Z4 rfl (Zr (⟨_,rfl,fun Am=>?_,fun Am=>?_⟩))))))
     ·refine AAa (Zj (AFg rfl rfl (Zt ?_)));exact ⟨((w64 (Aa - 2)):(Int)),⟨Zl (AA5 A3 Am),Ac.sel [1] Zk⟩,rfl,trivial⟩
     ·refine Zv (q_t ?_);exact ⟨((w64 (Aa - 1)):(Int)),⟨Zl (AA6 A3 Am),Ac.sel [1] Zk⟩,rfl,trivial⟩
    ·rw [decide_eq_false Af];refine AGz 35 false (Zz rfl (Zr (AAw rfl (Zv (q_t ?_)))));exact ⟨((w64 (Aa - 1)):(Int)),⟨Zl (ifF Az Af),Ac.sel [1] Zk⟩,rfl,trivial⟩
  rintro B1 C5 C6 ⟨B3,Ag⟩;subst B3;refine Zn (Zj (AMf rfl rfl (Zr (⟨_,rfl,fun Ao=>?_,fun Ao=>?_⟩))))
  ·refine AF8 (Zj (Zj ?_));obtain ⟨C7,A4,B4⟩:=Zp (AA5 Ax Ao);refine ABy AAf AA2 (Ag.o2 p0) A4 fun _ C8 B5=>Zj (Zj (Zj ?_));obtain ⟨C9,B6,B7⟩:=Zp B4;refine ABy AAf AA2 (Ag.o2 p0) B6 fun _ Da B8=>Zj ?_;obtain ⟨Db,B9,Ca⟩:=Zp B7;refine ALj (m:=Aa) Ag p0 AAg AAk B5 A4 B9 (fun _=>rfl) fun _ Dc Cb=>?_;obtain ⟨Dd,Cd,Ce⟩:=Zp Ca;obtain ⟨De,Cf,Cg⟩:=Zp Ce;refine ALj (m:=B1) Cb p0 AAg AAk B8 Cd Cf (fun _=>rfl) fun _ Df Ch=>AAn (q_b (q_t (AAa (AA0 rfl rfl (Zj (Zr ?_))))));exact ⟨(_,_,_,_,_),(Zl Cg).symm,Ch,rfl,trivial⟩
  ·refine Zv (q_b (q_t (AAa (AA0 rfl rfl (Zj (Zr ?_))))));exact ⟨(_,_,_,_,_),(Zl (AA6 Ax Ao)).symm,Ag,rfl,trivial⟩
 ·refine AAh (AAi (AAi (ABj (q_t (Zn (Zj (Zt (Zw ?_))))))));obtain rfl:=Zl (Bh _ (Zl (AA6 Aj Ak)).symm);exact ⟨_,Zy,Ae.x,_,_,_,_,rfl,(Ae.o2 p0),Ae.s.sel [0] Zk⟩
def AH0 (fuel:Nat) (a3:LiI):Option Bool:=
  ((ADm fuel a3).bind fun x5=>((ACj fuel x5).bind fun Ac=>(if Ac=0 then ((ABe fuel x5).bind fun Ad=>((AKs fuel 10000).bind fun Ae=>((Ace fuel Ad Ae).bind fun Af=>(some (decide (Af<=0)))))) else (some false))))
theorem AT2 {fuel:Nat} {h:Zu} {Ad:Value} {a3:LiI} {r:Bool} (H2:AC5 (cI .i64) h Ad a3) (hp:AH0 fuel a3=some r):AAv Tryz.prog 67 #[Ad] h (fun x h'=>Ext h h'/\x= .bool r):=by
 unfold AH0 at hp;refine cwf (l:=[_]) Tryz.func67 rfl rfl (Zn (AA4 (Zj ?_)));have K0:=Kst.k0 h;obtain ⟨x5,Aj,Ak⟩:=Zp hp;refine AMv K0 (AI8 (H2.ext K0.x) Aj) fun A3 A4 A5 A6 h9 E8 Ag=>AA4 (Zj ?_);obtain ⟨Am,Ao,Ah⟩:=Zp Ak;refine ACl Ag (AIe (Ag.o2 p0).rd Ao) fun A9 Ba Ab=>AB2 rfl rfl (Zj ?_);by_cases Aa:Am=0
 ·rw [decide_eq_true Aa];refine AAb 9 true (Zj (AAb 9 true ?_));obtain ⟨Bb,Ap,Aq⟩:=Zp (ifT Ah Aa);refine ANo Ab (ACm (Ab.o2 p0).rd Ap) fun Bc Be Bf Ar=>AAb 9 true ?_;obtain ⟨Bg,Au,Av⟩:=Zp Aq;refine ANo Ar (AJy Au) fun Bh Bi Bj Ac=>AAb 9 true ?_;obtain ⟨Bl,Aw,Ax⟩:=Zp Av;refine ACl Ac (Aax (Ac.z p1).2 (Ac.z p0).2 Aw) fun Bm Bn Ay=>AAb 9 true (AWp rfl rfl (Z4 rfl (Zt (Zw ?_))));obtain rfl:=Zl Ax;exact ⟨_,Zy,Ay.x,rfl⟩
 ·rw [decide_eq_false Aa];refine ADq 9 false (Zz rfl (Zt (Zw ?_)));obtain rfl:=Zl (ifF Ah Aa);exact ⟨_,Zy,Ab.x,rfl⟩
def ALt (fuel:Nat) (Ab Aa:Int):Option ((Int × Int) ⊕ ((Int))):=
  ((AYk fuel Aa).bind fun Ac=>(if ¬ Ac=0 then ((ADw fuel Ab Aa).bind fun Ad=>(some (Sum.inl (Aa,Ad)))) else (some (Sum.inr<| Ab))))
def AH1 (fuel:Nat) (a1 a5:Int):Option Int:=
  ((Ai3 fuel a1).bind fun Ac=>((Ai3 fuel a5).bind fun Ad=>((iter (fun s=>ALt fuel s.1 s.2) fuel (Ac,Ad)).bind (fun (Ae:Int)=>(some Ae)))))
theorem AT3 {fuel:Nat} {h:Zu} {Aq:Value} {a1:Int} {Au:Value} {a5 r:Int} (H3:ZZ h Aq a1) (H7:ZZ h Au a5) (hp:AH1 fuel a1 a5=some r):AAv Tryz.prog 186 #[Aq,Au] h (fun x h'=>Ext h h'/\ ∃ (x0:Value),x=x0/\ZZ h' x0 r):=by
 unfold AH1 at hp;obtain ⟨Bj,rfl,Ax⟩:=H3.cs;obtain ⟨Bl,rfl,Ay⟩:=H7.cs;refine cwf (l:=[_,_]) Tryz.func186 rfl rfl (Zn (AG8 (Kst.k0 h) Bj fun b9 Cp Cq Bm=>AG8 Bm Bl fun Cr Ct Cu Bn=>AC1 Bn [.bool false,.slice none 0 0] AE0 fun Cv Ak Cw Ab=>Zr (Zo ?_)));have Am:UpT [] Ak Ak:=UpT.start all_nil;refine ATz (B:=fun h'=>UpT [] Ak h') 4 [⟨5,94,[.bool false,.slice none 0 0]⟩,⟨6,94,[.bool false,.slice none 0 0]⟩] (fun _ _ U E=>U.thenE E) Zx Am (Ag9 rfl rfl AE0 rfl AE0 rfl (fun _ _ U E=>U.thenE E)) (h_l rfl (AN7 (Ab.zx Ax) Am (Ab.b p2) (AAn (h_e rfl fun Cx Az=>?_))));have A3:=Ab.e Az;obtain ⟨Bo,Bp,Bq⟩:=Zp hp;refine AFi A3 (Am.thenE Az) (Ahg (A3.zx Ax).2 Bp) fun A4 Cy Br A5 A6=>AAn ⟨Br,?_⟩;refine h_l rfl (AN7 (A5.zx Ay) A6 (Ab.b p1) (AAn (h_e rfl fun Cz A7=>?_)));have A8:=A5.e A7;obtain ⟨Bt,Bu,Bv⟩:=Zp Bq;refine AFi A8 (A6.thenE A7) (Ahg (A8.zx Ay).2 Bu) fun A9 C0 Bw Bx By=>AAn ⟨Bw,?_⟩;refine Aav fun Bz Ba=>Att fun B1 B3 Bb Bc B4 B5 B6 C1 C2=>?_;have Be:=Bx.e Ba;have Ae:=((Ab.nb2 (By.thenE Ba).ext (Aha B5 B6 Bb.lt Bc.lt B4) Bb Bc).az (Be.z p1)).az (Be.z p0);refine AB8 A4 ABk (cZ.klen (Ae.z p1)) (cZ.klen (AAe Bz)) rfl rfl (cZ.one (Ae.z p1)) (Ae.b p2) fun B7 B8 B9=>?_;have Af:=Ae.sb p2 B9 B8 rfl;refine AB8 A9 ABk (cZ.klen (Af.z p0)) (cZ.klen (AAe B7)) rfl rfl (cZ.one (Af.z p0)) (Af.b p3) fun C3 Ca Cb=>Zr (Zo (Zs ?_));have Ao:=(Af.sb p3 Cb Ca rfl).sel [0,1,2,3,4] Zk;dsimp only [AHa,AKo] at Ao;refine AFj 260096 (fun x:(Int) × LvA × (Int) × LvA=>(x.1,x.2.2.1)) ((Bo,A4,Bt,A9):(Int) × LvA × (Int) × LvA) Bv (fun x=>[]) (fun x=>(((Ao.L.set 1 (aZ x.2.1 x.1)).set 0 (aZ x.2.2.2 x.2.2.1)).set 2 (aB 94 B1 x.2.1)).set 3 (aB 94 B3 x.2.2.2)) Ao trivial ?_;rintro ⟨C4,C5,C6,Cd⟩ C7 C8 C9 Ag Bf Ce;unfold ALt at Bf;refine Zo (Zn (AK0 (Ag.z p0) (Ag.b p3) ?_));obtain ⟨Da,Cf,Bg⟩:=Zp Bf;refine ACl Ag (AXk (Ag.z p0).2 Cf) fun Ah Db Aa=>ACk rfl rfl (Zr (⟨_,rfl,fun Ap=>?_,fun Ap=>?_⟩))
 ·refine Zv (q_t (Zs (ACd (fun h'=>UpT [] Ah h') Zx ?_)));have Ai:UpT [] Ah Ah:=UpT.start all_nil;refine AN7 (Aa.z p0) Ai (Aa.b p3) (AN7 (Aa.z p1) Ai (Aa.b p2) (AN7 (Aa.z p0) Ai (Aa.b p3) ?_));obtain ⟨Dc,Cg,Ch⟩:=Zp (AA5 Bg Ap);refine AFi Aa Ai (AOw (Aa.z p1).2 (Aa.z p0).2 Cg) fun Ci Dd De Ac Df=>AB8 Cd ABk (cZ.klen (Ac.z p1)) (cZ.klen (Ac.z p2)) rfl rfl (cZ.one (Ac.z p1)) (Ac.b p3) fun Dg Cj Ck=>?_;have Ad:=Ac.sb p3 Ck Cj rfl;refine AB8 Ci ABk (cZ.klen (Ad.z p0)) (cZ.klen (Ad.z p1)) rfl rfl (cZ.one (Ad.z p0)) (Ad.b p4) fun Dh Cm Cn=>AAn (q_b (q_t ?_));exact ⟨(_,_,_,_),(Zl Ch).symm,(Ad.sb p4 Cn Cm rfl).sel [0,1,3,4,5] Zk,trivial⟩
 ·refine AAh (AAi (AAi (ABj (q_t (Zn (AK0 (Aa.z p1) (Aa.b p2) (AF7 Aa p4 (AAe Ah) (Aa.z p1) fun Di Aj=>Zr (Zw ?_))))))));obtain rfl:=Zl (Ce _ (Zl (AA6 Bg Ap)).symm);exact ⟨_,ACb ABk (cZ.klen (Aj.z p1)) rfl (Aj.b p4),Aj.x,_,rfl,(Aj.z p1).2⟩
def AGp (fuel:Nat) (a1 a5:Int):Option ((Int × Int) × Bool):=
  ((AYk fuel a5).bind fun Af=>(if Af=0 then (some ((0,0),false)) else ((((AYk fuel a5).bind fun Ag=>(if Ag < 0 then ((Afa fuel a1).bind fun Ah=>((Afa fuel a5).bind fun Ai=>(some ( (Ah,Ai))))) else (some ( (a1,a5))))):Option ((Int × Int))).bind (fun ((Ac,Ad):Int × Int)=>((AH1 fuel Ac Ad).bind fun Ae=>((ACp fuel Ac Ae).bind fun Aj=>((ACp fuel Ad Ae).bind fun Ak=>(some ((Aj,Ak),true)))))))))
theorem AOx {fuel:Nat} {h:Zu} {A4:Value} {a1:Int} {A5:Value} {a5:Int} {r:((Int × Int) × Bool)} (H3:ZZ h A4 a1) (H7:ZZ h A5 a5) (hp:AGp fuel a1 a5=some r):AAv Tryz.prog 175 #[A4,A5] h (fun x h'=>Ext h h'/\ ∃ (x0:Value),x= .tuple #[x0,.bool r.2]/\AZh h' x0 r.1.1 r.1.2):=by
 unfold AGp at hp;obtain ⟨A7,rfl,Am⟩:=H3.cs;obtain ⟨A8,rfl,Ab⟩:=H7.cs;refine cwf (l:=[_,_]) Tryz.func175 rfl rfl (Zn (AG8 (Kst.k0 h) A7 fun b9 Cq Cr Bo=>AG8 Bo A8 fun Bp Ct Cu Bq=>AC1 Bq [.bool false,.slice none 0 0,.bool false,.slice none 0 0] AP8 fun Cv Cw Cx Ao=>Zt (Zo (Zn (AK0 (Ao.zx Ab) (Ao.b p1) ?_)))));obtain ⟨Cy,Br,A9⟩:=Zp hp;refine ACl Ao (AXk (Ao.zx Ab).2 Br) fun Ag Cz Ad=>AB2 rfl rfl (Zr (⟨_,rfl,fun Au=>?_,fun Au=>?_⟩))
 ·refine Zn (ADl (Ahb ) (AB8 ([Value.bool false,Value.slice none 0 0] ++ [Value.bool false,Value.slice none 0 0]) AGc (AB6 (AAe Ag) (AAe Ag)) (AB6 (AAe Ag) (AAe Ag)) rfl rfl (AMk (AAe Ag) (AAe Ag)) (Ad.b p0) fun Ap Bt Bu=>Zt (Zw (AAc ?_))));have Ba:=Ad.sb p0 Bu Bt rfl;obtain rfl:=Zl (AA5 A9 Au);exact ⟨_,AR2 AGc (AB6 (AAe Ap) (AAe Ap)) rfl (Ba.b p0),Ba.x,_,rfl,⟨_,_,rfl,(AAe Ap),(AAe Ap)⟩⟩
 ·refine Zv (q_t ?_);obtain ⟨Bv,Bw,Bx⟩:=Zp (AA6 A9 Au);refine AKb 260096 (fun x:(Int) × LvA × (Int) × LvA=>[]) (fun x h'=>( (x.1,x.2.2.1))=Bv/\Kst h h' (aZ x.2.1 x.1 :: aZ x.2.2.2 x.2.2.1 :: ((Ad.L.set 2 (aB 94 b9 x.2.1)).set 1 (aB 94 Bp x.2.2.2)))) ?_ ?_
  ·refine Zn (AK0 (Ad.zx Ab) (Ad.b p1) ?_);obtain ⟨C0,By,Bb⟩:=Zp Bw;refine ACl Ad (AXk (Ad.zx Ab).2 By) fun Av C1 Ae=>AAu rfl rfl (Zr (⟨_,rfl,fun Aw=>?_,fun Aw=>?_⟩))
   ·refine ACd (fun h'=>UpT [] Av h') Zx ?_;have Bc:UpT [] Av Av:=UpT.start all_nil;refine AN7 (Ae.zx Am) Bc (Ae.b p2) ?_;obtain ⟨Bz,B1,B3⟩:=Zp (AA5 Bb Aw);refine AFi Ae Bc (Adl (Ae.zx Am).2 B1) fun Be C2 C3 Ax Bf=>AN7 (Ax.zx Ab) Bf (Ae.b p1) ?_;obtain ⟨B4,B5,B6⟩:=Zp B3;refine AFi Ax Bf (Adl (Ax.zx Ab).2 B5) fun Bg C4 C5 Ai C6=>AB8 Be ABk (cZ.klen (Ai.z p1)) (cZ.klen (Ai.zx Am)) rfl rfl (cZ.one (Ai.z p1)) (Ai.b p4) fun C7 B7 B8=>?_;have Aj:=Ai.sb p4 B8 B7 rfl;refine AB8 Bg ABk (cZ.klen (Aj.z p0)) (cZ.klen (Aj.zx Ab)) rfl rfl (cZ.one (Aj.z p0)) (Aj.b p3) fun C8 B9 Ca=>Zr ?_;exact ⟨((Bz,Be,B4,Bg):(Int) × LvA × (Int) × LvA),⟨Zl B6,(Aj.sb p3 Ca B9 rfl).sel [1,0,2,3,4] Zk⟩,trivial⟩
   ·refine Zv (q_t ?_);have Bh:=Ae.az (Ae.zx Am);exact ⟨((a1,A7,a5,A8):(Int) × LvA × (Int) × LvA),⟨Zl (AA6 Bb Aw),(Bh.az (Bh.zx Ab)).sel [1,0,2,3,4] Zk⟩,trivial⟩
  rintro ⟨C9,Da,Db,Dc⟩ Dd De ⟨Cb,Af⟩;subst Cb;refine Zn (AK0 (Af.z p0) (Af.b p4) (AK0 (Af.z p1) (Af.b p3) ?_));obtain ⟨Df,Cd,Ce⟩:=Zp Bx;refine ANo Af (AT3 (Af.z p0).2 (Af.z p1).2 Cd) fun Dg Dh Di Cf=>AC1 Cf [.bool false,.slice none 0 0] AE0 fun Dj Cg Dk Bi=>AF7 Bi p0 (AAe Cg) (Bi.z p1) fun Ay Aa=>Zr (Zo (ACd (fun h'=>UpT [] Ay h') Zx ?_));have Az:UpT [] Ay Ay:=UpT.start all_nil;refine AN7 (Aa.z p2) Az (Aa.b p6) (AN7 (Aa.z p1) Az (Aa.b p0) ?_);obtain ⟨Dl,Ch,Ci⟩:=Zp Ce;refine AFi Aa Az (AH8 (Aa.z p2).2 (Aa.z p1).2 Ch) fun Cj Do Dp Ak A3=>AN7 (Ak.z p4) A3 (Aa.b p5) (AN7 (Ak.z p2) A3 (Aa.b p0) ?_);obtain ⟨Dq,Ck,Cm⟩:=Zp Ci;refine AFi Ak A3 (AH8 (Ak.z p4).2 (Ak.z p2).2 Ck) fun Cn Bj Dr Ac Ds=>ADl (AVu (Ac.z p1) (Ac.z p0)) (AB8 (Cj ++ Cn) AGc (AB6 (Ac.z p1) (Ac.z p0)) (AB6 (AAe Bj) (AAe Bj)) rfl rfl (AMk (Ac.z p1) (Ac.z p0)) (Ac.b p6) fun Dt Co Cp=>Zt (Zw ?_));have Ah:=Ac.sb p6 Cp Co rfl;obtain rfl:=Zl Cm;exact ⟨_,AR2 AGc (AB6 (Ah.z p1) (Ah.z p0)) rfl (Ah.b p6),Ah.x,_,rfl,⟨_,_,rfl,(Ah.z p1),(Ah.z p0)⟩⟩
def AMg (fuel:Nat) (a1:Int):Option (Int × Int):=
  ((AR8 fuel a1).bind fun Ab=>((AKs fuel 1).bind fun Ac=>(some (Ab,Ac))))
theorem ASo {fuel:Nat} {h:Zu} {Ad:Value} {a1:Int} {r:(Int × Int)} (H3:ZZ h Ad a1) (hp:AMg fuel a1=some r):AAv Tryz.prog 187 #[Ad] h (fun x h'=>Ext h h'/\ ∃ (x0:Value),x=x0/\AZh h' x0 r.1 r.2):=by
 unfold AMg at hp;obtain ⟨Aj,rfl,Ag⟩:=H3.cs;refine cwf (l:=[_]) Tryz.func187 rfl rfl (Zn (AG8 (Kst.k0 h) Aj fun b5 h6 E8 Ak=>AC1 Ak [.bool false,.slice none 0 0,.bool false,.slice none 0 0] AP8 fun A4 A5 A6 Ac=>AH7 (AK0 (Ac.zx Ag) (Ac.b p1) ?_)));obtain ⟨A7,Am,Ao⟩:=Zp hp;refine ANo Ac (ATy (Ac.zx Ag).2 Am) fun Ap A8 A9 Aq=>?_;obtain ⟨Ba,Ar,Au⟩:=Zp Ao;refine ANo Aq (AJy Ar) fun Av Ah Bb Aa=>ADl (AVu (Aa.z p1) (Aa.z p0)) (AB8 (Ap ++ Av) AGc (AB6 (Aa.z p1) (Aa.z p0)) (AB6 (AAe Ah) (AAe Ah)) rfl rfl (AMk (Aa.z p1) (Aa.z p0)) (Aa.b p2) fun Bc Aw Ax=>Zr (Zw ?_));have Ab:=Aa.sb p2 Ax Aw rfl;obtain rfl:=Zl Au;exact ⟨_,ACb AGc (AB6 (Ab.z p1) (Ab.z p0)) rfl (Ab.b p2),Ab.x,_,rfl,⟨_,_,rfl,(Ab.z p1),(Ab.z p0)⟩⟩
def AMh (fuel:Nat) (a1:Int):Option (Int × Int):=
  ((AKs fuel a1).bind fun x9=>((AMg fuel x9).bind fun Aa=>(some (Aa.1,Aa.2))))
theorem ASp {fuel:Nat} {h:Zu} {a1:Int} {r:(Int × Int)} (hp:AMh fuel a1=some r):AAv Tryz.prog 176 #[(.int .i64 a1)] h (fun x h'=>Ext h h'/\ ∃ (x0:Value),x=x0/\AZh h' x0 r.1 r.2):=by
 unfold AMh at hp;refine cwf (l:=[_]) Tryz.func176 rfl rfl (Zn (AC1 (Kst.k0 h) [.bool false,.slice none 0 0,.bool false,.slice none 0 0] AP8 fun b2 h3 E5 K8=>AH7 (Zj ?_)));obtain ⟨x9,Ah,Ai⟩:=Zp hp;refine ANo K8 (AJy Ah) fun A5 A6 A7 Ae=>?_;obtain ⟨A8,Aj,Ak⟩:=Zp Ai;refine ANz rfl (ASo (Ae.z p0).2 Aj) fun A9 Af Am Ao=>?_;obtain ⟨Ba,rfl,Ap⟩:=Ao;obtain ⟨Aq,Ar,rfl,Au,Av⟩:=Ap;have Aa:=((Ae.e Am).az Au).az Av;refine AB8 (Aq ++ Ar) AGc (AB6 (Aa.z p1) (Aa.z p0)) (AB6 (AAe Af) (AAe Af)) rfl rfl (AMk (Aa.z p1) (Aa.z p0)) (Aa.b p3) fun Bb Aw Ax=>Zr (Zw ?_);have Ab:=Aa.sb p3 Ax Aw rfl;obtain rfl:=Zl Ak;exact ⟨_,ACb AGc (AB6 (Ab.z p1) (Ab.z p0)) rfl (Ab.b p3),Ab.x,_,rfl,⟨_,_,rfl,(Ab.z p1),(Ab.z p0)⟩⟩
def ACc (fuel:Nat) (a3 a5:Int):Option (Int × Int):=
  ((AGp fuel a3 a5).bind fun (Aa,Ae)=>(if (!Ae)=true then ((AMh fuel 0).bind fun Ab=>(some (Ab.1,Ab.2))) else (some (Aa.1,Aa.2))))
theorem AFq {fuel:Nat} {h:Zu} {Ak:Value} {a3 a5:Int} {r:(Int × Int)} (H2:AZh h Ak a3 a5) (hp:ACc fuel a3 a5=some r):AAv Tryz.prog 158 #[Ak] h (fun x h'=>Ext h h'/\ ∃ (x0:Value),x=x0/\AZh h' x0 r.1 r.2):=by
 unfold ACc at hp;obtain ⟨Aq,Ar,rfl,H2z0,H2z1⟩:=H2;refine cwf (l:=[_]) Tryz.func158 rfl rfl (Zn (AG8 (Kst.k0 h) (Aq ++ Ar) fun b7 h8 Br Ay=>AC1 Ay [.bool false,.slice none 0 0,.bool false,.slice none 0 0] AP8 fun Bt Bu Bv Ab=>AH7 (AFv (fs:=2) AZp Zx Zk rfl (ANd Aq ABk (cZ.klen (Ab.zx H2z0)) rfl ((Ab.b p1).aggL) (AFv (fs:=2) AVt Zx Zk rfl (ANd Ar ABk (cZ.klen (Ab.zx H2z1)) rfl ((Ab.b p1).aggR (cZ.klen (Ab.zx H2z0))) ?_))))));obtain ⟨⟨Bw,Bx⟩,Az,Ag⟩:=Zp hp;dsimp only at Ag;refine ANz rfl (AOx (Ab.zx H2z0).2 (Ab.zx H2z1).2 Az) fun By Bz A3 A4=>?_;obtain ⟨B1,rfl,A5⟩:=A4;obtain ⟨Ah,Ai,rfl,A6,A7⟩:=A5;refine Zj (ABl rfl rfl (ABl rfl rfl (AC1 (((Ab.e A3).az A6).az A7) [.bool false,.slice none 0 0,.bool false,.slice none 0 0] AP8 fun B3 Au B4 Ac=>AB8 (Ah ++ Ai) AGc (AB6 (Ac.z p2) (Ac.z p1)) (AB6 (AAe Au) (AAe Au)) rfl rfl (AMk (Ac.z p2) (Ac.z p1)) (Ac.b p0) fun Av A8 A9=>Zt (Zo (Zn (Zj (ACt rfl (Zr ?_))))))));have Aa:=Ac.sb p0 A9 A8 rfl;refine ⟨_,rfl,fun Aj=>?_,fun Aj=>?_⟩
 ·refine Zn ?_;obtain ⟨B5,Ba,Bb⟩:=Zp (ifT Ag Aj);refine ANz rfl (ASp Ba) fun B6 Aw Bc Be=>?_;obtain ⟨B7,rfl,Bf⟩:=Be;obtain ⟨Bg,Bh,rfl,Bi,Bj⟩:=Bf;have Ad:=((Aa.e Bc).az Bi).az Bj;refine AB8 (Bg ++ Bh) AGc (AB6 (Ad.z p1) (Ad.z p0)) (AB6 (AAe Aw) (AAe Aw)) rfl rfl (AMk (Ad.z p1) (Ad.z p0)) (Ad.b p5) fun B8 Bl Bm=>Zr (Zw (AAc ?_));have Ae:=Ad.sb p5 Bm Bl rfl;obtain rfl:=Zl Bb;exact ⟨_,ACb AGc (AB6 (Ae.z p1) (Ae.z p0)) rfl (Ae.b p5),Ae.x,_,rfl,⟨_,_,rfl,(Ae.z p1),(Ae.z p0)⟩⟩
 ·refine Zv (q_t (Zn (ANd (Ah ++ Ai) AGc (AB6 (Aa.z p2) (Aa.z p1)) rfl ((Aa.b p0).agg) (AB8 (Ah ++ Ai) AGc (AB6 (Aa.z p2) (Aa.z p1)) (AB6 (AAe Av) (AAe Av)) rfl rfl (AMk (Aa.z p2) (Aa.z p1)) (Aa.b p3) fun B9 Bn Bo=>Zr (Zw ?_)))));have Af:=Aa.sb p3 Bo Bn rfl;obtain rfl:=Zl (AF9 Ag Aj);exact ⟨_,ACb AGc (AB6 (Af.z p2) (Af.z p1)) rfl (Af.b p3),Af.x,_,rfl,⟨_,_,rfl,(Af.z p2),(Af.z p1)⟩⟩
def AFm (fuel:Nat) (a1 a5:Int):Option (Int × Int):=
  ((ACc fuel a1 a5).bind fun Aa=>(some (Aa.1,Aa.2)))
theorem AQp {fuel:Nat} {h:Zu} {Af:Value} {a1:Int} {Ah:Value} {a5:Int} {r:(Int × Int)} (H3:ZZ h Af a1) (H7:ZZ h Ah a5) (hp:AFm fuel a1 a5=some r):AAv Tryz.prog 113 #[Af,Ah] h (fun x h'=>Ext h h'/\ ∃ (x0:Value),x=x0/\AZh h' x0 r.1 r.2):=by
 unfold AFm at hp;obtain ⟨Ap,rfl,Ad⟩:=H3.cs;obtain ⟨Aq,rfl,Ae⟩:=H7.cs;refine cwf (l:=[_,_]) Tryz.func113 rfl rfl (Zn (AG8 (Kst.k0 h) Ap fun b9 Ba Bb Ar=>AG8 Ar Aq fun Bc Be Bf Au=>AC1 Au [.bool false,.slice none 0 0,.bool false,.slice none 0 0] AP8 fun Bg Bh Bi Aa=>AH7 (AK0 (Aa.zx Ad) (Aa.b p2) (AK0 (Aa.zx Ae) (Aa.b p1) (ADl (AVu (Aa.zx Ad) (Aa.zx Ae)) ?_)))));obtain ⟨Bj,Av,Aw⟩:=Zp hp;refine ANz rfl (AFq ⟨_,_,rfl,(Aa.zx Ad),(Aa.zx Ae)⟩ Av) fun Bl Ak Ax Ay=>?_;obtain ⟨Bm,rfl,Az⟩:=Ay;obtain ⟨A3,A4,rfl,A5,A6⟩:=Az;have Ab:=((Aa.e Ax).az A5).az A6;refine AB8 (A3 ++ A4) AGc (AB6 (Ab.z p1) (Ab.z p0)) (AB6 (AAe Ak) (AAe Ak)) rfl rfl (AMk (Ab.z p1) (Ab.z p0)) (Ab.b p2) fun Bn A7 A8=>Zr (Zw ?_);have Ac:=Ab.sb p2 A8 A7 rfl;obtain rfl:=Zl Aw;exact ⟨_,ACb AGc (AB6 (Ac.z p1) (Ac.z p0)) rfl (Ac.b p2),Ac.x,_,rfl,⟨_,_,rfl,(Ac.z p1),(Ac.z p0)⟩⟩
def AJ0 (fuel:Nat):Option (Int × Int):=
  ((AKs fuel 1).bind fun x8=>((AKs fuel 2).bind fun Ab=>(some (x8,Ab))))
theorem AS6 {fuel:Nat} {h:Zu} {r:(Int × Int)} (hp:AJ0 fuel=some r):AAv Tryz.prog 157 #[] h (fun x h'=>Ext h h'/\ ∃ (x0:Value),x=x0/\AZh h' x0 r.1 r.2):=by
 unfold AJ0 at hp;refine cwf (l:=[]) Tryz.func157 rfl rfl (Zn (AC1 (Kst.k0 h) [.bool false,.slice none 0 0,.bool false,.slice none 0 0] AP8 fun b1 h2 E4 K7=>AH7 ?_));obtain ⟨x8,Af,Ag⟩:=Zp hp;refine ANo K7 (AJy Af) fun Ah Aw Ax Ai=>?_;obtain ⟨Ay,Aj,Ak⟩:=Zp Ag;refine ANo Ai (AJy Aj) fun Am Ad Az Aa=>ADl (AVu (Aa.z p1) (Aa.z p0)) (AB8 (Ah ++ Am) AGc (AB6 (Aa.z p1) (Aa.z p0)) (AB6 (AAe Ad) (AAe Ad)) rfl rfl (AMk (Aa.z p1) (Aa.z p0)) (Aa.b p2) fun A3 Ao Ap=>Zr (Zw ?_));have Ab:=Aa.sb p2 Ap Ao rfl;obtain rfl:=Zl Ak;exact ⟨_,ACb AGc (AB6 (Ab.z p1) (Ab.z p0)) rfl (Ab.b p2),Ab.x,_,rfl,⟨_,_,rfl,(Ab.z p1),(Ab.z p0)⟩⟩
def AKt (fuel:Nat) (a3 a5 a9 Ag:Int):Option (Int × Int):=
  ((ACc fuel a3 a5).bind fun Aa=>((ACc fuel a9 Ag).bind fun Ab=>((ARe fuel Aa.1 Ab.2).bind fun Ah=>((ARe fuel Ab.1 Aa.2).bind fun Ai=>((Aiz fuel Ah Ai).bind fun Aj=>((ARe fuel Aa.2 Ab.2).bind fun Ak=>((AGp fuel Aj Ak).bind fun (Ac,Am)=>(some (Ac.1,Ac.2)))))))))
theorem AT4 {fuel:Nat} {h:Zu} {Bh:Value} {a3 a5:Int} {Bl:Value} {a9 Bn:Int} {r:(Int × Int)} (H2:AZh h Bh a3 a5) (H8:AZh h Bl a9 Bn) (hp:AKt fuel a3 a5 a9 Bn=some r):AAv Tryz.prog 156 #[Bh,Bl] h (fun x h'=>Ext h h'/\ ∃ (x0:Value),x=x0/\AZh h' x0 r.1 r.2):=by
 unfold AKt at hp;obtain ⟨Bp,Bq,rfl,H2z0,H2z1⟩:=H2;obtain ⟨Br,Bt,rfl,H8z0,H8z1⟩:=H8;refine cwf (l:=[_,_]) Tryz.func156 rfl rfl (Zn (AG8 (Kst.k0 h) (Bp ++ Bq) fun D0 D1 D2 Cj=>AG8 Cj (Br ++ Bt) fun D3 D4 D5 Ck=>AC1 Ck [.bool false,.slice none 0 0,.bool false,.slice none 0 0] AP8 fun D6 Ao D7 Ac=>Zr (Zo ?_)));have Ap:UpT [] Ao Ao:=UpT.start all_nil;refine ATz (B:=fun h'=>UpT [] Ao h') 4 [⟨5,143,[.bool false,.slice none 0 0,.bool false,.slice none 0 0]⟩,⟨6,143,[.bool false,.slice none 0 0,.bool false,.slice none 0 0]⟩] (fun _ _ U E=>U.thenE E) Zx Ap (Ag9 rfl rfl AP8 rfl AP8 rfl (fun _ _ U E=>U.thenE E)) (h_l rfl (AH6 (Bp ++ Bq) AGc (AB6 (Ac.zx H2z0) (Ac.zx H2z1)) rfl Ap (fun h' hb=>((Ac.b p2).ext hb.ext).agg) (AAn (h_e rfl fun D8 Bu=>?_))));have Aq:=Ap.thenE Bu;have Ar:=Ac.e Bu;obtain ⟨D9,Cm,Cn⟩:=Zp hp;refine AEj Aq (fun _ E=>Aq.thenE E) rfl (AFq ⟨_,_,rfl,(Ar.zx H2z0),(Ar.zx H2z1)⟩ Cm) fun Ea Eb Au Co=>?_;obtain ⟨Ec,rfl,Cp⟩:=Co;have Bv:=Aq.thenE Au;obtain ⟨Bw,Av,rfl,Cq,Cr⟩:=Cp;have Aw:=((Ar.e Au).az Cq).az Cr;refine AAn ⟨Au,?_⟩;refine h_l rfl (AH6 (Br ++ Bt) AGc (AB6 (Aw.zx H8z0) (Aw.zx H8z1)) rfl Bv (fun h' hb=>((Ac.b p1).ext hb.ext).agg) (AAn (h_e rfl fun Ed Bx=>?_)));have Ax:=Bv.thenE Bx;have Ay:=Aw.e Bx;obtain ⟨Ee,Ct,Cu⟩:=Zp Cn;refine AEj Ax (fun _ E=>Ax.thenE E) rfl (AFq ⟨_,_,rfl,(Ay.zx H8z0),(Ay.zx H8z1)⟩ Ct) fun Ef Eg Az Cv=>?_;obtain ⟨Eh,rfl,Cw⟩:=Cv;have Cx:=Ax.thenE Az;obtain ⟨By,A3,rfl,Cy,Cz⟩:=Cw;refine AAn ⟨Az,?_⟩;refine Aav fun Bz B1=>Att fun Ei Ej B3 B4 C0 C1 C2 Ek El=>?_;have Aj:=(((Ay.e Az).az Cy).az Cz).e B1;have Ad:=((((Ac.nb2 (Cx.thenE B1).ext (Aha C1 C2 B3.lt B4.lt C0) B3 B4).az (Aj.z p3)).az (Aj.z p2)).az (Aj.z p1)).az (Aj.z p0);refine AB8 (Bw ++ Av) AGc (AB6 (Ad.z p3) (Ad.z p2)) (AB6 (AAe Bz) (AAe Bz)) rfl rfl (AMk (Ad.z p3) (Ad.z p2)) (Ad.b p4) fun B5 C3 C4=>?_;have Ae:=Ad.sb p4 C4 C3 rfl;refine AB8 (By ++ A3) AGc (AB6 (Ae.z p1) (Ae.z p0)) (AB6 (AAe B5) (AAe B5)) rfl rfl (AMk (Ae.z p1) (Ae.z p0)) (Ae.b p5) fun A4 C5 C6=>Zr (Zo ?_);have Aa:=Ae.sb p5 C6 C5 rfl;have Ak:UpT [] A4 A4:=UpT.start all_nil;refine ATz (B:=fun h'=>UpT [] A4 h') 20 [⟨7,143,[.bool false,.slice none 0 0,.bool false,.slice none 0 0]⟩] (fun _ _ U E=>U.thenE E) Zx Ak (Adm rfl AP8 rfl (fun _ _ U E=>U.thenE E)) (h_l rfl (AFv (fs:=2) AZp Zx Zk rfl (AAn (h_l rfl (AH6 Bw ABk (cZ.klen (Aa.z p3)) rfl Ak (fun h' hb=>((Aa.b p4).ext hb.ext).aggL) (AAn (h_l rfl (AFv (fs:=2) AVt Zx Zk rfl (AAn (h_l rfl (AH6 A3 ABk (cZ.klen (Aa.z p0)) rfl Ak (fun h' hb=>((Aa.b p5).ext hb.ext).aggR (cZ.klen (Aa.z p1))) (AAn (h_e rfl fun Em B6=>?_)))))))))))));have A5:=Aa.e B6;obtain ⟨En,C7,C8⟩:=Zp Cu;refine AFi A5 (Ak.thenE B6) (AP7 (A5.z p3).2 (A5.z p0).2 C7) fun Eo Ep C9 Am A6=>AAn ⟨C9,?_⟩;refine h_l rfl (AFv (fs:=2) AZp Zx Zk rfl (AAn (h_l rfl (AH6 By ABk (cZ.klen (Am.z p2)) rfl A6 (fun h' hb=>((Aa.b p5).ext hb.ext).aggL) (AAn (h_l rfl (AFv (fs:=2) AVt Zx Zk rfl (AAn (h_l rfl (AH6 Av ABk (cZ.klen (Am.z p3)) rfl A6 (fun h' hb=>((Aa.b p4).ext hb.ext).aggR (cZ.klen (Am.z p4))) (AAn (h_e rfl fun Er B7=>?_))))))))))));have A7:=Am.e B7;obtain ⟨Es,Da,Db⟩:=Zp C8;refine AFi A7 (A6.thenE B7) (AP7 (A7.z p2).2 (A7.z p3).2 Da) fun Et Eu Dc Dd De=>AAn ⟨Dc,?_⟩;refine h_e rfl fun Ev B8=>?_;have A8:=Dd.e B8;obtain ⟨Ew,Df,Dg⟩:=Zp Db;refine AFi A8 (De.thenE B8) (Ag6 (A8.z p1).2 (A8.z p0).2 Df) fun Ey Ez Dh Ai A9=>AAn ⟨Dh,?_⟩;refine h_l rfl (AFv (fs:=2) AVt Zx Zk rfl (AAn (h_l rfl (AH6 Av ABk (cZ.klen (Ai.z p5)) rfl A9 (fun h' hb=>((Aa.b p4).ext hb.ext).aggR (cZ.klen (Ai.z p6))) (AAn (h_l rfl (AFv (fs:=2) AVt Zx Zk rfl (AAn (h_l rfl (AH6 A3 ABk (cZ.klen (Ai.z p3)) rfl A9 (fun h' hb=>((Aa.b p5).ext hb.ext).aggR (cZ.klen (Ai.z p4))) (AAn (h_e rfl fun Fa B9=>?_))))))))))));have Ba:=Ai.e B9;obtain ⟨Fb,Di,Dj⟩:=Zp Dg;refine AFi Ba (A9.thenE B9) (AP7 (Ba.z p5).2 (Ba.z p3).2 Di) fun Fc Fd Dk Dl Do=>AAn ⟨Dk,?_⟩;refine h_e rfl fun Fe Ca=>?_;have Bb:=Do.thenE Ca;have Bc:=Dl.e Ca;obtain ⟨⟨Ff,Fg⟩,Dp,Cb⟩:=Zp Dj;dsimp only at Cb;refine AEj Bb (fun _ E=>Bb.thenE E) rfl (AOx (Bc.z p1).2 (Bc.z p0).2 Dp) fun Fh Fi Be Dq=>?_;obtain ⟨Fj,rfl,Dr⟩:=Dq;have Ds:=Bb.thenE Be;obtain ⟨Bf,Bg,rfl,Dt,Du⟩:=Dr;refine AAn ⟨Be,?_⟩;refine h_l rfl (Zj (AAn (h_l rfl (ABl rfl rfl (AAn (h_l rfl (ABl rfl rfl (AAn (Aav fun Cd Ce=>Aqp fun Fk Cf Dv Fl=>?_)))))))));have Af:=(((Bc.e Be).az Dt).az Du).e Ce;have Ag:=((((((Aa.nb (Ds.thenE Ce).ext (AE5 Dv Cf.lt) Cf).az (Af.z p5)).az (Af.z p4)).az (Af.z p3)).az (Af.z p2)).az (Af.z p1)).az (Af.z p0);refine AB8 (Bf ++ Bg) AGc (AB6 (Ag.z p1) (Ag.z p0)) (AB6 (AAe Cd) (AAe Cd)) rfl rfl (AMk (Ag.z p1) (Ag.z p0)) (Ag.b p6) fun Cg Dw Dx=>AA4 ?_;have Ab:=Ag.sb p6 Dx Dw rfl;refine ANd (Bf ++ Bg) AGc (AB6 (Ab.z p1) (Ab.z p0)) rfl ((Ab.b p6).agg) (AB8 (Bf ++ Bg) AGc (AB6 (Ab.z p1) (Ab.z p0)) (AB6 (AAe Cg) (AAe Cg)) rfl rfl (AMk (Ab.z p1) (Ab.z p0)) (Ab.b p13) fun Fm Dy Dz=>Zr (Zw ?_));have Ah:=Ab.sb p13 Dz Dy rfl;obtain rfl:=Zl Cb;exact ⟨_,ACb AGc (AB6 (Ah.z p1) (Ah.z p0)) rfl (Ah.b p13),Ah.x,_,rfl,⟨_,_,rfl,(Ah.z p1),(Ah.z p0)⟩⟩
def AI9 (fuel:Nat) (a3 a5:Int):Option Int:=
  ((ACc fuel a3 a5).bind fun Aa=>((ACp fuel Aa.1 Aa.2).bind fun Ad=>(some Ad)))
theorem ASq {fuel:Nat} {h:Zu} {Ae:Value} {a3 a5 r:Int} (H2:AZh h Ae a3 a5) (hp:AI9 fuel a3 a5=some r):AAv Tryz.prog 155 #[Ae] h (fun x h'=>Ext h h'/\ ∃ (x0:Value),x=x0/\ZZ h' x0 r):=by
 unfold AI9 at hp;obtain ⟨Ai,Aj,rfl,H2z0,H2z1⟩:=H2;refine cwf (l:=[_]) Tryz.func155 rfl rfl (Zn (AG8 (Kst.k0 h) (Ai ++ Aj) fun b7 h8 Bb Ar=>AC1 Ar [.bool false,.slice none 0 0] AE0 fun Bc Be Bf Ab=>AH7 (ANd (Ai ++ Aj) AGc (AB6 (Ab.zx H2z0) (Ab.zx H2z1)) rfl ((Ab.b p1).agg) ?_)));obtain ⟨Bg,Au,Av⟩:=Zp hp;refine ANz rfl (AFq ⟨_,_,rfl,(Ab.zx H2z0),(Ab.zx H2z1)⟩ Au) fun Bh Bi Aw Ax=>?_;obtain ⟨Bj,rfl,Ay⟩:=Ax;obtain ⟨Ak,Am,rfl,Az,A3⟩:=Ay;refine AC1 (((Ab.e Aw).az Az).az A3) [.bool false,.slice none 0 0,.bool false,.slice none 0 0] AP8 fun Bl Ao Bm Ac=>AB8 (Ak ++ Am) AGc (AB6 (Ac.z p2) (Ac.z p1)) (AB6 (AAe Ao) (AAe Ao)) rfl rfl (AMk (Ac.z p2) (Ac.z p1)) (Ac.b p0) fun Bn A4 A5=>AH7 (AFv (fs:=2) AZp Zx Zk rfl ?_);have Aa:=Ac.sb p0 A5 A4 rfl;refine ANd Ak ABk (cZ.klen (Aa.z p2)) rfl ((Aa.b p0).aggL) (AFv (fs:=2) AVt Zx Zk rfl (ANd Am ABk (cZ.klen (Aa.z p1)) rfl ((Aa.b p0).aggR (cZ.klen (Aa.z p2))) ?_));obtain ⟨Bo,A6,A7⟩:=Zp Av;refine ANo Aa (AH8 (Aa.z p2).2 (Aa.z p1).2 A6) fun Bp A8 Bq Ap=>AF7 Ap p4 (AAe A8) (Ap.z p0) fun Br Ad=>Zr (Zw ?_);obtain rfl:=Zl A7;exact ⟨_,ACb ABk (cZ.klen (Ad.z p0)) rfl (Ad.b p4),Ad.x,_,rfl,(Ad.z p0).2⟩
def AFz (fuel:Nat) (a3 a5:Int):Option Int:=
  ((AJ0 fuel).bind fun Aa=>((AKt fuel a3 a5 Aa.1 Aa.2).bind fun Ab=>((AI9 fuel Ab.1 Ab.2).bind fun Ae=>(some Ae))))
theorem ARg {fuel:Nat} {h:Zu} {Ai:Value} {a3 a5 r:Int} (H2:AZh h Ai a3 a5) (hp:AFz fuel a3 a5=some r):AAv Tryz.prog 112 #[Ai] h (fun x h'=>Ext h h'/\ ∃ (x0:Value),x=x0/\ZZ h' x0 r):=by
 unfold AFz at hp;obtain ⟨Ao,Ap,rfl,H2z0,H2z1⟩:=H2;refine cwf (l:=[_]) Tryz.func112 rfl rfl (Zn (AG8 (Kst.k0 h) (Ao ++ Ap) fun b7 h8 Bm Av=>AC1 Av [.bool false,.slice none 0 0] AE0 fun Bn Af Bo Ab=>Zr (Zo (ACd (fun h'=>UpT [] Af h') Zx ?_))));have Ac:UpT [] Af Af:=UpT.start all_nil;refine AH6 (Ao ++ Ap) AGc (AB6 (Ab.zx H2z0) (Ab.zx H2z1)) rfl Ac (fun h' hb=>((Ab.b p1).ext hb.ext).agg) ?_;obtain ⟨Bp,Aw,Ax⟩:=Zp hp;refine AEj Ac (fun _ E=>Ac.thenE E) rfl (AS6 Aw) fun Bq Br Aq Ay=>?_;obtain ⟨Bt,rfl,Az⟩:=Ay;have Ag:=Ac.thenE Aq;obtain ⟨Bu,Bv,rfl,A3,A4⟩:=Az;have Aa:=((Ab.e Aq).az A3).az A4;obtain ⟨Bw,A5,A6⟩:=Zp Ax;refine AEj Ag (fun _ E=>Ag.thenE E) rfl (AT4 ⟨_,_,rfl,(Aa.zx H2z0),(Aa.zx H2z1)⟩ ⟨_,_,rfl,(Aa.z p1),(Aa.z p0)⟩ A5) fun Bx By Ar A7=>?_;obtain ⟨Bz,rfl,A8⟩:=A7;have A9:=Ag.thenE Ar;obtain ⟨B1,B3,rfl,Ba,Bb⟩:=A8;have Ah:=((Aa.e Ar).az Ba).az Bb;obtain ⟨B4,Bc,Be⟩:=Zp A6;refine AFi Ah A9 (ASq ⟨_,_,rfl,(Ah.z p1),(Ah.z p0)⟩ Bc) fun Bf Bg B5 Ad B6=>AB8 Bf ABk (cZ.klen (Ad.z p0)) (cZ.klen (AAe Bg)) rfl rfl (cZ.one (Ad.z p0)) (Ad.b p5) fun B7 Bh Bi=>Zr (Zw ?_);have Ae:=Ad.sb p5 Bi Bh rfl;obtain rfl:=Zl Be;exact ⟨_,ACb ABk (cZ.klen (Ae.z p0)) rfl (Ae.b p5),Ae.x,_,rfl,(Ae.z p0).2⟩
def AEq (fuel:Nat) (a3:LiI) (a7:LiA) (a9:Int):Option Bool:=
  ((ADo fuel a3 a9 (w64 (a9 - 1))).bind fun Ac=>((AKs fuel 4).bind fun Ae=>((ACa fuel a7 (w64 (a9 - 1))).bind fun Af=>((ACa fuel a7 (w64 (a9 + 1))).bind fun Ag=>((ARe fuel Af Ag).bind fun Ah=>((ARe fuel Ac Ac).bind fun Ai=>((Aiz fuel Ah Ai).bind fun Aj=>((ARe fuel Ae Aj).bind fun Ak=>((AKs fuel 3).bind fun Am=>((ACa fuel a7 a9).bind fun Ao=>((ACa fuel a7 a9).bind fun Ap=>((ARe fuel Ao Ap).bind fun Aq=>((ARe fuel Am Aq).bind fun Ar=>((Ace fuel Ak Ar).bind fun Au=>(some (decide (0<=Au)))))))))))))))))
theorem ANi {fuel:Nat} {h:Zu} {Au:Value} {a3:LiI} {Aw:Value} {a7:LiA} {a9:Int} {r:Bool} (H2:AC5 cZ h Au a3) (H6:SlC cZ h Aw a7) (hp:AEq fuel a3 a7 a9=some r):AAv Tryz.prog 100 #[Au,Aw,(.int .i64 a9)] h (fun x h'=>Ext h h'/\x= .bool r):=by
 unfold AEq at hp;refine cwf (l:=[_,_,_]) Tryz.func100 rfl rfl (Zn (AA4 (Zj (Zj (Zj (AFg rfl rfl ?_))))));have K0:=Kst.k0 h;obtain ⟨Dg,Bm,Bn⟩:=Zp hp;refine ANo K0 (AJp (H2.ext K0.x) Bm) fun Dh Di Dj Bo=>AC1 Bo [.bool false,.slice none 0 0] AE0 fun Dk Bp Dl A3=>AF7 A3 p0 (AAe Bp) (A3.z p1) fun Ae Ac=>Zr (Zo ?_);have A4:UpT [] Ae Ae:=UpT.start all_nil;refine ATz (B:=fun h'=>UpT [] Ae h') 15 [⟨8,94,[.bool false,.slice none 0 0]⟩] (fun _ _ U E=>U.thenE E) Zx A4 (Adm rfl AE0 rfl (fun _ _ U E=>U.thenE E)) (h_e rfl fun Do A5=>?_);obtain ⟨Dp,Bq,Br⟩:=Zp Bn;refine AFi (Ac.e A5) (A4.thenE A5) (AJy Bq) fun Dq Dr Bt Bu Bv=>AAn ⟨Bt,?_⟩;refine h_l rfl (Zj (AAn (h_l rfl (Zj (AAn (h_l rfl (AFg rfl rfl (AAn (h_e rfl fun Ds A6=>?_)))))))));have A7:=Bu.e A6;obtain ⟨Dt,Bw,Bx⟩:=Zp Br;refine AFi A7 (Bv.thenE A6) (ADt (H6.ext A7.x) Bw) fun Du Dv By Bz B1=>AAn ⟨By,?_⟩;refine h_l rfl (Zj (AAn (h_l rfl (Zj (AAn (h_l rfl (AA0 rfl rfl (AAn (h_e rfl fun Dw A8=>?_)))))))));have A9:=Bz.e A8;obtain ⟨Dx,B3,B4⟩:=Zp Bx;refine AFi A9 (B1.thenE A8) (ADt (H6.ext A9.x) B3) fun Dy Dz B5 B6 B7=>AAn ⟨B5,?_⟩;refine h_e rfl fun D0 Ba=>?_;have Af:=B6.e Ba;obtain ⟨D1,B8,B9⟩:=Zp B4;refine AFi Af (B7.thenE Ba) (AP7 (Af.z p1).2 (Af.z p0).2 B8) fun D2 D3 Ca Ag Ah=>AAn ⟨Ca,?_⟩;refine h_l rfl (AN7 (Ag.z p5) Ah (Ac.b p0) (AAn (h_l rfl (AN7 (Ag.z p5) Ah (Ac.b p0) (AAn (h_e rfl fun D4 Bb=>?_))))));have Ai:=Ag.e Bb;obtain ⟨D5,Cb,Cd⟩:=Zp B9;refine AFi Ai (Ah.thenE Bb) (AP7 (Ai.z p5).2 (Ai.z p5).2 Cb) fun D6 D7 Ce Cf Cg=>AAn ⟨Ce,?_⟩;refine h_e rfl fun D8 Bc=>?_;have Aj:=Cf.e Bc;obtain ⟨D9,Ch,Ci⟩:=Zp Cd;refine AFi Aj (Cg.thenE Bc) (Ag6 (Aj.z p1).2 (Aj.z p0).2 Ch) fun Ea Eb Cj Ck Cm=>AAn ⟨Cj,?_⟩;refine h_e rfl fun Ec Be=>?_;have Ak:=Ck.e Be;obtain ⟨Ed,Cn,Co⟩:=Zp Ci;refine AFi Ak (Cm.thenE Be) (AP7 (Ak.z p5).2 (Ak.z p0).2 Cn) fun Cp Ee Cq Cr Ct=>AAn ⟨Cq,?_⟩;refine Aav fun Cu Bf=>Aqp fun Ef Bg Cv Eg=>?_;have Aa:=Cr.e Bf;have Ad:=(((((((Ac.nb (Ct.thenE Bf).ext (AE5 Cv Bg.lt) Bg).az (Aa.z p6)).az (Aa.z p5)).az (Aa.z p4)).az (Aa.z p3)).az (Aa.z p2)).az (Aa.z p1)).az (Aa.z p0);refine AB8 Cp ABk (cZ.klen (Ad.z p0)) (cZ.klen (AAe Cu)) rfl rfl (cZ.one (Ad.z p0)) (Ad.b p7) fun Am Cw Cx=>Zr (Zo (ACd (fun h'=>UpT [] Am h') Zx ?_));have Ao:=Ad.sb p7 Cx Cw rfl;have Bh:UpT [] Am Am:=UpT.start all_nil;refine AN7 (Ao.z p0) Bh (Ao.b p7) ?_;obtain ⟨Eh,Cy,Cz⟩:=Zp Co;refine AFi Ao Bh (AJy Cy) fun Ei Ej Ek Bi C0=>Zj (Zj ?_);obtain ⟨El,C1,C2⟩:=Zp Cz;refine AFi Bi C0 (ADt (H6.ext Bi.x) C1) fun Em En Eo Bj C3=>Zj (Zj ?_);obtain ⟨Ep,C4,C5⟩:=Zp C2;refine AFi Bj C3 (ADt (H6.ext Bj.x) C4) fun Er Es Et Ap C6=>?_;obtain ⟨Eu,C7,C8⟩:=Zp C5;refine AFi Ap C6 (AP7 (Ap.z p1).2 (Ap.z p0).2 C7) fun Ev Ew Ey Aq C9=>?_;obtain ⟨Ez,Da,Db⟩:=Zp C8;refine AFi Aq C9 (AP7 (Aq.z p3).2 (Aq.z p0).2 Da) fun Fa Fb Fc Ar Dc=>?_;obtain ⟨Fd,Dd,De⟩:=Zp Db;refine Aaw Ar Dc (Aax (Ar.z p5).2 (Ar.z p0).2 Dd) fun Fe Ff Df Fg=>AMf rfl rfl (Zt (Zw ?_));obtain rfl:=Zl De;exact ⟨_,Zy,Df.x,rfl⟩
def AK5 (fuel:Nat) (a3:LiI) (x5:LiA) (Ab Aa:Int) (Ac:LiI):Option ((Int × LiI) ⊕ (((LiI × Bool)) ⊕ (LiI))):=
  (if 0<=Aa then ((AFb fuel a3 x5 Ab Aa).bind fun Ah=>(if (!Ah)=true then ((gI Ac Aa).bind fun Af=>((ADo fuel a3 Ab Aa).bind fun Ai=>((ACa fuel x5 (w64 (Aa + 1))).bind fun Aj=>((AFm fuel Ai Aj).bind fun Ag=>((AFz fuel Ag.1 Ag.2).bind fun Ak=>((Afa fuel Ak).bind fun Am=>((gI Af Ab).bind fun Ao=>(some (Sum.inr<| Sum.inl <| ((sI Ac Aa (sI Af Ab Am)),true)))))))))) else (some (Sum.inl ((w64 (Aa - 1)),Ac))))) else (some (Sum.inr<| Sum.inr <| Ac)))
def AK6 (fuel:Nat) (a3:LiI) (x5:LiA) (Aa:Int) (Ae:LiI):Option ((Int × LiI) ⊕ (((LiI × Bool)) ⊕ (Unit))):=
  (if Aa < (a3.length:Int) then ((iter (fun s=>AK5 fuel a3 x5 Aa s.1 s.2) fuel ((w64 (Aa - 1)),Ae)).bind (fun ex=>match ex with | Sum.inl Af=>(some (Sum.inr<| Sum.inl <| Af)) | Sum.inr (Ab)=>(if 0 < Aa then ((AEq fuel a3 x5 Aa).bind fun Ag=>(if (!Ag)=true then ((gI Ab (w64 (Aa - 1))).bind fun Ah=>((gI Ab Aa).bind fun Ai=>(some (Sum.inr<| Sum.inl <| ((sI (sI Ab Aa Ah) (w64 (Aa - 1)) Ai),true))))) else (some (Sum.inl ((w64 (Aa + 1)),Ab))))) else (some (Sum.inl ((w64 (Aa + 1)),Ab)))))) else (some (Sum.inr<| Sum.inr <| ())))
def AHc (fuel:Nat) (a3:LiI):Option (LiI × Bool):=
  ((AC8 fuel a3).bind fun (x5,x6)=>((ADs fuel (a3.length:Int)).bind fun (Ac,Af)=>((iter (fun s=>AK6 fuel a3 x5 s.1 s.2) fuel (0,Ac)).bind (fun ex=>match ex with | Sum.inl Ad=>(some Ad) | Sum.inr (_)=>(some ([],false))))))
theorem AS7 {fuel:Nat} {h:Zu} {A3:Value} {a3:LiI} {r:(LiI × Bool)} (H2:AC5 cZ h A3 a3) (hp:AHc fuel a3=some r):AAv Tryz.prog 59 #[A3] h (fun x h'=>Ext h h'/\ ∃ (x0:Value) (F0:List Nat) (Br:List LnA) (Bt:List Value),x= .tuple #[x0,.bool r.2]/\ACs cZ 128 94 h' F0 Br Bt x0 r.1/\Sp h' h.size [F0]):=by
 unfold AHc at hp;refine cwf (l:=[_]) Tryz.func59 rfl rfl (Zn (AAl (AA4 (Zj ?_))));have K0:=Kst.k0 h;obtain ⟨⟨x5,x6⟩,Bu,A8⟩:=Zp hp;dsimp only at A8;refine ANz rfl (AI0 (H2.ext K0.x) Bu) fun Dg Dh E9 Bw=>?_;obtain ⟨Di,Dj,rfl,Bx,By⟩:=Bw;refine Zj (ABl rfl rfl (ABl rfl rfl (AAl (AA4 (Zj (AA8 ABw rfl H2 ?_))))));obtain ⟨⟨Bz,Dk⟩,B1,A9⟩:=Zp A8;dsimp only at A9;refine ANz rfl (AMm B1) fun Dl Do B3 B4=>?_;obtain ⟨Ba,B5,B6,B7,rfl,B8,B9⟩:=B4;refine Zj (ABl rfl rfl (ABl rfl rfl (AAl (Zt (Zo (Zn (Zj (AA8 ABw rfl H2 (Zj (Zr (Zs ?_)))))))))));have Bb:=(K0.no E9 By Bx).no2 B3 B9 B8;refine AFj 9671406556917033389261580 (fun x:(Int) × (LiI) × LnA × LnN × LvA=>(x.1,x.2.1)) ((0,Bz,B5,B6,B7):(Int) × (LiI) × LnA × LnN × LvA) A9 (fun x=>[(23,(.int .i64 x.1))]) (fun x=>Bb.L.set 0 (aO2 cZ 128 94 x.2.2.1 x.2.2.2.1 x.2.2.2.2 Ba x.2.1)) Bb ⟨rfl,trivial⟩ ?_;rintro ⟨Bc,Ca,Cb,Cd,Ce⟩ Dp Dq Dr Ag Ah Ai;unfold AK6 at Ah;refine Zn (AAu rfl rfl (Zr (Zo (⟨_,rfl,fun Aj=>?_,fun Aj=>?_⟩))))
 ·refine Zv (q_t (Zo (Zs (Zn (Zj (Zt (Zo (Zn (Zj (AFg rfl rfl (Zt (Zs (AFj 72057593769493004 (fun x:(Int) × (LiI) × LnA × LnN × LvA=>(x.1,x.2.1)) (((w64 (Bc - 1)),Ca,Cb,Cd,Ce):(Int) × (LiI) × LnA × LnN × LvA) (AA5 Ah Aj) (fun x=>[(9,(.int .i64 x.1))]) (fun x=>Ag.L.set 0 (aO2 cZ 128 94 x.2.2.1 x.2.2.2.1 x.2.2.2.2 Ba x.2.1)) Ag ⟨rfl,trivial⟩ ?_)))))))))))));rintro ⟨Be,Ds,Dt,Du,Dv⟩ Dw Dx Dy Aa Ak Bf;unfold AK5 at Ak;refine Zo (Zn (Zj (AMf rfl rfl (Zr (⟨_,rfl,fun Am=>?_,fun Am=>?_⟩)))))
  ·refine Zv (q_t (Zo (Zs (Zn (Zj (Zj (Zj (Zj ?_))))))));obtain ⟨Dz,Cf,Bg⟩:=Zp (AA5 Ak Am);refine ACl Aa (ANq (H2.ext Aa.x) (Aa.o p1).rd Cf) fun Ao D0 Ac=>ACt rfl (Zr (⟨_,rfl,fun Ap=>?_,fun Ap=>?_⟩))
   ·refine Zo (ACd (fun h'=>UpT [] Ao h') Zx ?_);have Bh:UpT [] Ao Ao:=UpT.start all_nil;refine Zj (Zj ?_);obtain ⟨D1,Aq,Cg⟩:=Zp (ifT Bg Ap);refine AC2 ABw rfl (Ac.o2 p0) rfl Aq fun D2 D3 D4 Ch Ci=>ACf ADv rfl Bh (fun h' hb=>AAx Ci hb.ext) (Zj (Zj (Zj (Zj ?_))));obtain ⟨D5,Cj,Ck⟩:=Zp Cg;refine AFi Ac Bh (AJp (H2.ext Ac.x) Cj) fun D6 D7 D8 Bi Cm=>Zj (Zj (AA0 rfl rfl ?_));obtain ⟨D9,Cn,Co⟩:=Zp Ck;refine AFi Bi Cm (ADt (Bi.o p2).rd Cn) fun Ea Eb Ec Ar Au=>?_;obtain ⟨Ed,Cp,Cq⟩:=Zp Co;refine AEj Au (fun _ E=>Au.thenE E) rfl (AQp (Ar.z p1).2 (Ar.z p0).2 Cp) fun Ee Ef Bj Cr=>?_;obtain ⟨Eg,rfl,Ct⟩:=Cr;have Cu:=Au.thenE Bj;obtain ⟨Eh,Ei,rfl,Cv,Cw⟩:=Ct;have Av:=((Ar.e Bj).az Cv).az Cw;obtain ⟨Ej,Cx,Cy⟩:=Zp Cq;refine AFi Av Cu (ARg ⟨_,_,rfl,(Av.z p1),(Av.z p0)⟩ Cx) fun Ek El Em Bl Cz=>?_;obtain ⟨En,C0,C1⟩:=Zp Cy;refine AFi Bl Cz (Adl (Bl.z p0).2 C0) fun Eo Ep Er Ad Es=>?_;obtain ⟨Et,Bm,C2⟩:=Zp C1;refine AE6 (m:=Be) ACz rfl (Ac.o2 p0) Ch Aq rfl Bm fun Eu C3=>ANk (m:=Be) (AR5 ABk (cZ.klen (Ad.z p0)) rfl rfl (cZ.one (Ad.z p0))) (Ad.o2 p6) C3 Aq Bm (Ad.z p0) fun Ev C4 C5=>AH7 (Zj (AAl (Zt (Zw (ABi (AAc (AAc (ABi (AAc (ABi (AAc (AAc (ABi (AAc ?_))))))))))))));have Aw:=Ad.uO2 p6 C5 C4;obtain rfl:=Zl (Ai _ (Zl (Bf _ (Zl C2).symm)).symm);exact ⟨_,ABf,Aw.x,_,_,_,_,rfl,(Aw.o2 p6),Aw.s.sel [6] Zk⟩
   ·refine Zv (q_b (q_t (AAa (Zj (AFg rfl rfl (Zt ?_))))));exact ⟨(_,_,_,_,_),(Zl (AF9 Bg Ap)).symm,Ac,rfl,trivial⟩
  ·refine AAh (AAi (AAi (ABj (q_t (Zn (Zj (AGb rfl rfl (Zj ?_))))))));have Bn:=Bf _ (Zl (AA6 Ak Am)).symm;by_cases Af:0 < Bc
   ·rw [decide_eq_true Af];refine AAb 58 true (Zj (AAb 58 true (Zj (AAb 58 true (Zj (AAb 58 true ?_))))));obtain ⟨Ew,C6,Bo⟩:=Zp (ifT Bn Af);refine ACl Aa (ANi (H2.ext Aa.x) (Aa.o p1).rd C6) fun Ey Ez Ae=>AAb 58 true (ACt rfl (Z4 rfl (Zr (⟨_,rfl,fun Ax=>?_,fun Ax=>?_⟩))))
    ·refine Zo (AF8 (Zj (Zj (Zj (Zj (AFg rfl rfl (Zj (Zj (AFg rfl rfl ?_)))))))));obtain ⟨Fa,Bp,C7⟩:=Zp (ifT Bo Ax);refine ABy ABw ADv (Ae.o2 p0) Bp fun _ Fb C8=>Zj (Zj ?_);obtain ⟨Fc,Bq,C9⟩:=Zp C7;refine ABy ABw ADv (Ae.o2 p0) Bq fun _ Fd Da=>ARd ABw ADv (Ae.o2 p0) Da C8 Bq Bp rfl rfl (fun _=>rfl) (fun _=>rfl) (fun _=>rfl) (fun _ _=>rfl) fun Fe Ff Fg Fh Fi Fj Db Dc Dd=>AH7 (Zj (AAl (Zt (Zw (ABi (AAc (AAc (ABi (AAc ?_)))))))));have Ay:=Ae.uo2 p0 Dc Db Dd;obtain rfl:=Zl (Ai _ (Zl C9).symm);exact ⟨_,ABf,Ay.x,_,_,_,_,rfl,(Ay.o2 p0),Ay.s.sel [0] Zk⟩
    ·refine Zv (q_b (q_t (AAa (AA0 rfl rfl (Zj (Zr ?_))))));exact ⟨(_,_,_,_,_),(Zl (AF9 Bo Ax)).symm,Ae,rfl,trivial⟩
   ·rw [decide_eq_false Af];refine ADq 58 false (Zz rfl (Zr (AAw rfl (Zv (q_b (q_t (AAa (AA0 rfl rfl (Zj (Zr ?_))))))))));exact ⟨(_,_,_,_,_),(Zl (ifF Bn Af)).symm,Aa,rfl,trivial⟩
 ·refine AAh (AAi (AAi (ABj (q_t (Zn (AAl (Zt (Zw ?_))))))));have Az:=Kst.anil2 cZ 128 94 Ag;obtain rfl:=Zl (Ai _ (Zl (AA6 Ah Aj)).symm);exact ⟨_,ABf,Az.x,_,_,_,_,rfl,(Az.o2 p0),Az.s.sel [0] Zk⟩
def AJq (fuel:Nat) (Aa Ab:LiI):Option ((LiI × LiI) ⊕ (((LiI × LiI × Int)))):=
  ((AHc fuel Aa).bind fun (Ac,Ad)=>(if (!Ad)=true then ((AGd fuel Aa).bind fun (Ae,Ah)=>(some (Sum.inr<| (Ae,Ab,0)))) else ((ADi fuel Aa Ac).bind fun Af=>((AB9 fuel Ab Ac).bind fun Ag=>(some (Sum.inl (Af,Ag)))))))
def AGe (fuel:Nat) (a3:LiI):Option (LiI × LiI × Int):=
  ((ACj fuel a3).bind fun x5=>(if ¬ x5=0 then (some ([],[],x5)) else ((AFc fuel a3).bind fun Ac=>(if (!Ac)=true then (some ([],[],7)) else ((AFx fuel a3).bind fun Ad=>((ADs fuel (a3.length:Int)).bind fun (Ae,Ag)=>((iter (fun s=>AJq fuel s.1 s.2) fuel (Ad,Ae)).bind (fun (Af:(LiI × LiI × Int))=>(some Af)))))))))
theorem ARr {fuel:Nat} {h:Zu} {Ao:Value} {a3:LiI} {r:(LiI × LiI × Int)} (H2:AC5 cZ h Ao a3) (hp:AGe fuel a3=some r):AAv Tryz.prog 24 #[Ao] h (fun x h'=>Ext h h'/\ ∃ (x0:Value) (F0:List Nat) (A7:List LnA) (A8:List Value) (x1:Value) (F1:List Nat) (A9:List LnA) (Ba:List Value),x= .tuple #[x0,x1,.int .i64 r.2.2]/\ACs (cI .i64) 60 2 h' F0 A7 A8 x0 r.1/\ACs cZ 128 94 h' F1 A9 Ba x1 r.2.1/\Sp h' h.size [F0,F1]):=by
 unfold AGe at hp;refine cwf (l:=[_]) Tryz.func24 rfl rfl (Zn (AAl (AAl (Zt (Zo (Zn (Zj ?_)))))));have K0:=Kst.k0 h;obtain ⟨x5,Bb,Ax⟩:=Zp hp;refine ACl K0 (AIe (H2.ext K0.x) Bb) fun h9 E8 Af=>AA4 (Zj (ACk rfl rfl (Zr (⟨_,rfl,fun Ag=>?_,fun Ag=>?_⟩))))
 ·refine Zn (Zj (AAl (AAl (Zt (Zw (AAc ?_))))));have Ac:=Kst.anil2 cZ 128 94 (Kst.anil2 (cI .i64) 60 2 Af);obtain rfl:=Zl (AA5 Ax Ag);exact ⟨_,AKa,Ac.x,_,_,_,_,_,_,_,_,rfl,(Ac.o2 p1),(Ac.o2 p0),Ac.s.sel [1,0] Zk⟩
 ·refine Zv (q_t (Zo (Zn (Zj ?_))));obtain ⟨Ck,Bc,Ay⟩:=Zp (AA6 Ax Ag);refine ACl Af (ANr (H2.ext Af.x) Bc) fun Cm Cn Ah=>ACt rfl (Zr (⟨_,rfl,fun Ai=>?_,fun Ai=>?_⟩))
  ·refine Zn (AAl (AAl (Zt (Zw (AAc ?_)))));have Ad:=Kst.anil2 cZ 128 94 (Kst.anil2 (cI .i64) 60 2 Ah);obtain rfl:=Zl (ifT Ay Ai);exact ⟨_,AKa,Ad.x,_,_,_,_,_,_,_,_,rfl,(Ad.o2 p1),(Ad.o2 p0),Ad.s.sel [1,0] Zk⟩
  ·refine Zv (q_t (Zn (Zj ?_)));obtain ⟨Be,Bf,Bg⟩:=Zp (AF9 Ay Ai);refine AMv Ah (AN8 (H2.ext Ah.x) Bf) fun Bh Bi Bj Bl Co Cp Bm=>AA4 (Zj (AA8 ABw rfl H2 ?_));obtain ⟨⟨Bn,Cq⟩,Bo,Az⟩:=Zp Bg;dsimp only at Az;refine ANz rfl (AMm Bo) fun Cr Ct Bp Bq=>?_;obtain ⟨Br,Bt,Bu,Bv,rfl,Bw,Bx⟩:=Bq;refine Zj (ABl rfl rfl (ABl rfl rfl (AAl (Zt (Zs ?_)))));have A3:=Bm.no2 Bp Bx Bw;refine AFj 562949416558300 (fun x:(LiI) × (Value) × LnA × LnN × LvA × (LiI) × (Value) × LnA × LnN × LvA=>(x.1,x.2.2.2.2.2.1)) ((Be,Bl,Bh,Bi,Bj,Bn,Br,Bt,Bu,Bv):(LiI) × (Value) × LnA × LnN × LvA × (LiI) × (Value) × LnA × LnN × LvA) Az (fun x=>[(6,x.2.1),(7,x.2.2.2.2.2.2.1)]) (fun x=>(A3.L.set 1 (aO2 cZ 128 94 x.2.2.1 x.2.2.2.1 x.2.2.2.2.1 x.2.1 x.1)).set 0 (aO2 cZ 128 94 x.2.2.2.2.2.2.2.1 x.2.2.2.2.2.2.2.2.1 x.2.2.2.2.2.2.2.2.2 x.2.2.2.2.2.2.1 x.2.2.2.2.2.1)) A3 ⟨rfl,rfl,trivial⟩ ?_;rintro ⟨Cu,Cv,Cw,Cx,Cy,Cz,C0,C1,C2,C3⟩ C4 C5 C6 A4 A5 By;unfold AJq at A5;refine Zs (Zn (Zj ?_));obtain ⟨⟨C7,C8⟩,Bz,Aj⟩:=Zp A5;dsimp only at Aj;refine ANz rfl (AS7 (A4.o2 p1).rd Bz) fun C9 Da B1 B3=>?_;obtain ⟨Db,Dc,Dd,De,rfl,B4,B5⟩:=B3;refine Zj (ABl rfl rfl (ABl rfl rfl (AAl (Zt (Zo (Zn (Zj (ACt rfl (Zr ?_)))))))));have Aa:=A4.no2 B1 B5 B4;refine ⟨_,rfl,fun Ak=>?_,fun Ak=>?_⟩
   ·refine Zn (Zj ?_);obtain ⟨⟨Df,Dg⟩,B6,A6⟩:=Zp (ifT Aj Ak);dsimp only at A6;refine ANz rfl (ARq (Aa.o2 p2).rd B6) fun Dh Di B7 B8=>?_;obtain ⟨Dj,Dk,Dl,Do,rfl,B9,Ca⟩:=B8;refine Zj (ABl rfl rfl (ABl rfl rfl (AAl (AA4 (Zj (Zj (AAl (AAl (Zt (Zw (AAc (ABi (AAc (ABi ?_))))))))))))));have Ae:=Aa.no2 B7 Ca B9;obtain rfl:=Zl (By _ (Zl A6).symm);exact ⟨_,AKa,Ae.x,_,_,_,_,_,_,_,_,rfl,(Ae.o2 p0),(Ae.o2 p2),Ae.s.sel [0,2] Zk⟩
   ·refine Zv (q_t (AAa (Zj (Zj ?_))));obtain ⟨Dp,Cb,Cd⟩:=Zp (AF9 Aj Ak);refine AMv Aa (AP9 (Aa.o2 p2).rd (Aa.o2 p0).rd Cb) fun Dq Dr Ds Dt Du Dv Am=>Zj (Zj ?_);obtain ⟨Dw,Ce,Cf⟩:=Zp Cd;refine AMv Am (AIy (Am.o2 p2).rd (Am.o2 p1).rd Ce) fun Dx Dy Dz D0 D1 D2 Cg=>AAl (AAl (AAn (q_b (q_t ?_))));exact ⟨(_,_,_,_,_,_,_,_,_,_),(Zl Cf).symm,Cg.sel [0,1] Zk,rfl,rfl,trivial⟩
def AI1 (fuel:Nat) (a3:LiI) (x5:LiA) (Ab Aa:Int):Option ((Int) ⊕ ((Bool) ⊕ (Unit))):=
  (if Aa < Ab then ((AFb fuel a3 x5 Ab Aa).bind fun Ae=>(if (!Ae)=true then (some (Sum.inr<| Sum.inl <| false)) else (some (Sum.inl (w64 (Aa + 1)))))) else (some (Sum.inr<| Sum.inr <| ())))
def AI2 (fuel:Nat) (a3:LiI) (x5:LiA) (Aa:Int):Option ((Int) ⊕ ((Bool) ⊕ (Unit))):=
  (if Aa < (a3.length:Int) then ((iter (fun s=>AI1 fuel a3 x5 Aa s) fuel 0).bind (fun ex=>match ex with | Sum.inl Ad=>(some (Sum.inr<| Sum.inl <| Ad)) | Sum.inr (_)=>(if 0 < Aa then ((AEq fuel a3 x5 Aa).bind fun Ae=>(if (!Ae)=true then (some (Sum.inr<| Sum.inl <| false)) else (some (Sum.inl (w64 (Aa + 1)))))) else (some (Sum.inl (w64 (Aa + 1))))))) else (some (Sum.inr<| Sum.inr <| ())))
def AF0 (fuel:Nat) (a3:LiI):Option Bool:=
  ((AC8 fuel a3).bind fun (x5,x6)=>((iter (fun s=>AI2 fuel a3 x5 s) fuel 0).bind (fun ex=>match ex with | Sum.inl Ac=>(some Ac) | Sum.inr (_)=>(some true))))
theorem ARh {fuel:Nat} {h:Zu} {Am:Value} {a3:LiI} {r:Bool} (H2:AC5 cZ h Am a3) (hp:AF0 fuel a3=some r):AAv Tryz.prog 51 #[Am] h (fun x h'=>Ext h h'/\x= .bool r):=by
 unfold AF0 at hp;refine cwf (l:=[_]) Tryz.func51 rfl rfl (Zn (AA4 (Zj ?_)));have K0:=Kst.k0 h;obtain ⟨⟨x5,x6⟩,A3,Aq⟩:=Zp hp;dsimp only at Aq;refine ANz rfl (AI0 (H2.ext K0.x) A3) fun Be Bf E9 A5=>?_;obtain ⟨Bg,Bh,rfl,A6,A7⟩:=A5;refine Zj (ABl rfl rfl (ABl rfl rfl (AAl (Zt (Zo (Zn (Zj (AA8 ABw rfl H2 (Zj (Zr (Zs ?_)))))))))));have Ar:=K0.no E9 A7 A6;refine AG4 274877890660 Aq (fun x=>[(14,(.int .i64 x))]) (fun x=>Ar.L) Ar ⟨rfl,trivial⟩ ?_;rintro A8 Bi Bj Bl Ad Ae Af;unfold AI2 at Ae;refine Zn (AAu rfl rfl (Zr (Zo (⟨_,rfl,fun Ag=>?_,fun Ag=>?_⟩))))
 ·refine Zv (q_t (Zo (Zs (Zn (Zj (Zt (Zo (Zn (Zt (Zs (AG4 268304452 (AA5 Ae Ag) (fun x=>[(6,(.int .i64 x))]) (fun x=>Ad.L) Ad ⟨rfl,trivial⟩ ?_)))))))))));rintro Bm Bn Bo Bp Aa Ah Au;unfold AI1 at Ah;refine Zo (Zn (Zj (Zj (AAu rfl rfl (Zr (⟨_,rfl,fun Ai=>?_,fun Ai=>?_⟩))))))
  ·refine Zv (q_t (Zo (Zs (Zn (Zj (Zj (Zj (Zj ?_))))))));obtain ⟨Bq,A9,Av⟩:=Zp (AA5 Ah Ai);refine ACl Aa (ANq (H2.ext Aa.x) (Aa.o p0).rd A9) fun Br Bt Aw=>ACt rfl (Zr (⟨_,rfl,fun Aj=>?_,fun Aj=>?_⟩))
   ·refine Zn (Zt (Zw (ABi (AAc (AAc (ABi (AAc (ABi (AAc (AAc (ABi (AAc ?_))))))))))));obtain rfl:=Zl (Af _ (Zl (Au _ (Zl (ifT Av Aj)).symm)).symm);exact ⟨_,Zy,Aw.x,rfl⟩
   ·refine Zv (q_b (q_t (AAa (Zj (AA0 rfl rfl (Zt ?_))))));exact ⟨_,(Zl (AF9 Av Aj)).symm,Aw,rfl,trivial⟩
  ·refine AAh (AAi (AAi (ABj (q_t (Zn (Zj (AGb rfl rfl (Zj ?_))))))));have Ax:=Au _ (Zl (AA6 Ah Ai)).symm;by_cases Ac:0 < A8
   ·rw [decide_eq_true Ac];refine AAb 30 true (Zj (AAb 30 true (Zj (AAb 30 true (Zj (AAb 30 true ?_))))));obtain ⟨Bu,Ba,Ay⟩:=Zp (ifT Ax Ac);refine ACl Aa (ANi (H2.ext Aa.x) (Aa.o p0).rd Ba) fun Bv Bw Az=>AAb 30 true (ACt rfl (Z4 rfl (Zr (⟨_,rfl,fun Ak=>?_,fun Ak=>?_⟩))))
    ·refine Zn (Zt (Zw (ABi (AAc (AAc (ABi (AAc ?_)))))));obtain rfl:=Zl (Af _ (Zl (ifT Ay Ak)).symm);exact ⟨_,Zy,Az.x,rfl⟩
    ·refine Zv (q_b (q_t (AAa (AA0 rfl rfl (Zj (Zr ?_))))));exact ⟨_,(Zl (AF9 Ay Ak)).symm,Az,rfl,trivial⟩
   ·rw [decide_eq_false Ac];refine ADq 30 false (Zz rfl (Zr (AAw rfl (Zv (q_b (q_t (AAa (AA0 rfl rfl (Zj (Zr ?_))))))))));exact ⟨_,(Zl (ifF Ax Ac)).symm,Aa,rfl,trivial⟩
 ·refine AAh (AAi (AAi (ABj (q_t (Zn (Zt (Zw ?_)))))));obtain rfl:=Zl (Af _ (Zl (AA6 Ae Ag)).symm);exact ⟨_,Zy,Ad.x,rfl⟩
def ADj (fuel:Nat) (a3:LiI):Option Bool:=
  ((AB7 fuel a3).bind fun (x5,x6)=>(if x6=true then ((ACj fuel x5).bind fun Ad=>(if Ad=0 then ((AFc fuel x5).bind fun Ae=>(if Ae=true then ((AF0 fuel x5).bind fun Af=>(some Af)) else (some false))) else (some false))) else (some false)))
theorem AQa {fuel:Nat} {h:Zu} {Af:Value} {a3:LiI} {r:Bool} (H2:AC5 (cI .i64) h Af a3) (hp:ADj fuel a3=some r):AAv Tryz.prog 17 #[Af] h (fun x h'=>Ext h h'/\x= .bool r):=by
 unfold ADj at hp;refine cwf (l:=[_]) Tryz.func17 rfl rfl (Zn (AA4 (Zj ?_)));have K0:=Kst.k0 h;obtain ⟨⟨x5,x6⟩,Aq,Ab⟩:=Zp hp;dsimp only at Ab;refine ANz rfl (AMl (H2.ext K0.x) Aq) fun A8 A9 E9 Au=>?_;obtain ⟨Ba,Bb,Bc,Be,rfl,Av,Aw⟩:=Au;refine Zj (ABl rfl rfl (ABl rfl rfl (AAl (AA4 (Zj (Zj ?_))))));have Ac:=K0.no2 E9 Aw Av;cases Ai:x6
 ·refine ADe 11 false (Zz rfl (Zj (AGz 16 false (Zz rfl (Zj (AGz 20 false (Zz rfl (Zt (Zw ?_)))))))));obtain rfl:=Zl (AF9 Ab Ai);exact ⟨_,Zy,Ac.x,rfl⟩
 ·refine AAb 11 true (Zj (AAb 11 true ?_));obtain ⟨Ax,Ay,Aj⟩:=Zp (ifT Ab Ai);refine ACl Ac (AIe (Ac.o2 p0).rd Ay) fun Bf Bg Ad=>AAb 11 true (AB2 rfl rfl (Z4 rfl (Zj ?_)));by_cases Aa:Ax=0
  ·rw [decide_eq_true Aa];refine AAb 16 true (Zj (AAb 16 true ?_));obtain ⟨Az,A3,Ak⟩:=Zp (ifT Aj Aa);refine ACl Ad (ANr (Ad.o2 p0).rd A3) fun Bh Bi Ae=>Z4 rfl (Zj ?_);cases Am:Az
   ·refine AGz 20 false (Zz rfl (Zt (Zw ?_)));obtain rfl:=Zl (AF9 Ak Am);exact ⟨_,Zy,Ae.x,rfl⟩
   ·refine AAb 20 true (Zj (AAb 20 true ?_));obtain ⟨Bj,A4,A5⟩:=Zp (ifT Ak Am);refine ACl Ae (ARh (Ae.o2 p0).rd A4) fun Bl Bm A6=>Z4 rfl (Zt (Zw ?_));obtain rfl:=Zl A5;exact ⟨_,Zy,A6.x,rfl⟩
  ·rw [decide_eq_false Aa];refine AGz 16 false (Zz rfl (Zj (AGz 20 false (Zz rfl (Zt (Zw ?_))))));obtain rfl:=Zl (ifF Aj Aa);exact ⟨_,Zy,Ad.x,rfl⟩
end Go.Proofs.YtdkldlbgcfpglaaGreatDoor
namespace Go.QF
open Go
def Ok {α:Type} (o:Option α) (Q:α->Prop):Prop:= ∃ r,o=some r/\Q r
theorem Zm {α:Type} {a:α} {Q:α->Prop} (h:Q a):Ok (some a) Q:=⟨a,rfl,h⟩
theorem Zq {α β:Type} {o:Option α} {f:α->Option β} {Q:α->Prop} {R:β->Prop} (h:Ok o Q) (k:∀ x,Q x->Ok (f x) R):Ok (o.bind f) R:=by
 obtain ⟨x,rfl,hx⟩:=h;exact k x hx
theorem AAj {c:Prop} [Decidable c] {α:Type} {a b:Option α} {R:α->Prop} (ht:c->Ok a R) (hf: ¬ c->Ok b R):Ok (if c then a else b) R:=by
 by_cases h:c
 ·rw [if_pos h];exact ht h
 ·rw [if_neg h];exact hf h
theorem AB5 {c:Prop} [Decidable c] {α:Type} {a:Option α} {R:α->Prop} (hc:c) (h:Ok a R):Ok (if c then a else none) R:=by rw [if_pos hc];exact h
theorem Aq0 {α:Type} {o:Option α} {Q R:α->Prop} (h:Ok o Q) (k:∀ x,Q x->R x):Ok o R:=let ⟨x,h1,h2⟩:=h;⟨x,h1,k x h2⟩
theorem ok_eq {α:Type} {o:Option α} {a:α} (h:Ok o (· =a)):o=some a:=by obtain ⟨x,h1,rfl⟩:=h;exact h1
theorem ABb {α:Type} {o:Option α} {a:α} (h:o=some a):Ok o (· =a):=⟨a,h,rfl⟩
theorem AAs {α β:Type} {L:List α} {i:Int} {n:Nat} {x:α} {f:α->Option β} {R:β->Prop} (hx:L[n]? =some x) (hi:i=n) (k:Ok (f x) R):Ok ((gI L i).bind f) R:=by
 subst hi;unfold gI;rw [if_pos Zh,Int.toNat_natCast,hx];exact k
theorem AA9 {S E:Type} {body:S->Option (S ⊕ E)} {fuel:Nat} {s0:S} (I:Nat->S->Prop) (n:Nat) {Q:E->Prop} (h0:I 0 s0) (hf:n < fuel) (hs:∀ i s,i<=n->I i s->Ok (body s) fun r=>match r with | .inl s'=>i < n/\I (i + 1) s' | .inr e=>Q e):Ok (iter body fuel s0) Q:=by
  have key:∀ k fuel i s,n - i=k->k < fuel->i<=n->I i s->Ok (iter body fuel s) Q:=by
    intro k;induction k with
    | zero=>
      intro fuel i s hk hf hi hI;obtain ⟨r,hr,hq⟩:=hs i s hi hI;cases fuel with
      | zero=>omega
      | succ f=>
        cases r with
        | inl s'=>simp at hq;omega
        | inr e=>exact ⟨e,by simp [iter,hr],hq⟩
    | succ k ih=>
      intro fuel i s hk hf hi hI;obtain ⟨r,hr,hq⟩:=hs i s hi hI;cases fuel with
      | zero=>omega
      | succ f=>
        cases r with
        | inl s'=>
          obtain ⟨e,he,hQ⟩:=ih f (i + 1) s' Zh Zh Zh hq.2;exact ⟨e,by simp [iter,hr,he],hQ⟩
        | inr e=>exact ⟨e,by simp [iter,hr],hq⟩
  exact key n fuel 0 s0 Zh hf Zh h0
theorem ACe {x:Int} (h1: -9223372036854775808<=x) (h2:x<=9223372036854775807):w64 x=x:=by
 show IntKind.i64.wrap x=x;rw [IntKind.wrap_i64];omega
theorem wk {x:Int} (h: -9223372036854775808<=x/\x<=9223372036854775807):w64 x=x:=ACe h.1 h.2
def AB3 {α:Type} (m:Nat) (f:Nat->α):List α:=(List.range m).map f
theorem AA1 {α:Type} (m:Nat) (f:Nat->α):(AB3 m f).length=m:=by simp [AB3]
theorem AAq {α:Type} {m:Nat} {f:Nat->α} {j:Nat} (h:j < m):(AB3 m f)[j]? =some (f j):=by simp [AB3,h]
theorem ABn {α:Type} {m:Nat} {f g:Nat->α} (h:∀ j,j < m->f j=g j):AB3 m f=AB3 m g:=by
 unfold AB3;exact List.map_congr_left fun j hj=>h j (List.mem_range.1 hj)
theorem ADz {α:Type} {m j:Nat} {f:Nat->α} {x:α}:(AB3 m f).set j x=AB3 m fun c=>if c=j then x else f c:=by
 apply List.ext_getElem?;intro i;rw [List.getElem?_set];by_cases h:j=i
 ·subst h;simp only [if_true,AA1];by_cases hj:j < m
  ·simp [hj,AAq hj]
  ·simp [hj,AB3]
 ·rw [if_neg h];by_cases hi:i < m
  ·rw [AAq hi,AAq hi,if_neg (fun he=>h he.symm)]
  ·simp [AB3,hi]
theorem AOa {α:Type} (m:Nat) (f:Nat->α):AB3 m f ++ [f m]=AB3 (m + 1) f:=by simp [AB3,List.range_succ]
theorem AE1 {α:Type} (m:Nat) (a:α):List.replicate m a=AB3 m fun _=>a:=by
 apply List.ext_getElem?;intro i;by_cases h:i < m
 ·rw [AAq h];simp [h]
 ·simp [AB3,h]
theorem APv (r c:Nat) (F:Z1):tab r c F=AB3 r fun i=>AB3 c (F i):=rfl
theorem AAz {r c:Nat} {F:Z1} {i:Nat} (h:i < r):(tab r c F)[i]? =some (AB3 c (F i)):=AAq (f:=fun i=>AB3 c (F i)) h
theorem Anx {r c i j:Nat} {F:Z1} {x:Int}:(tab r c F).set i (AB3 c fun q=>if q=j then x else F i q)=tab r c (ABv F i fun q=>if q=j then x else F i q):=AKy
theorem ABx {α:Type} (L:List α) (n:Nat) (x:α):sI L (n:Int) x=L.set n x:=by simp [sI]
end Go.QF
namespace Go.QF
theorem ANa (F:Z1) (i:Nat) (f g:Nat->Int):ABv (ABv F i f) i g=ABv F i g:=by
 funext k;by_cases h:k=i
 ·subst h;rw [ABr,ABr]
 ·rw [ADy _ _ h,ADy _ _ h,ADy _ _ h]
theorem AOb (F:Z1) (i:Nat):ABv F i (F i)=F:=by
 funext k;by_cases h:k=i
 ·subst h;rw [ABr]
 ·rw [ADy _ _ h]
theorem AMw (f g:Nat->Int) (n:Nat):psum (fun i=>f i + g i) n=psum f n + psum g n:=by
 induction n with
 | zero=>rfl
 | succ n ih=>simp only [psum];rw [ih];omega
theorem AF1 (c:Int) (f:Nat->Int) (n:Nat):psum (fun i=>c * f i) n=c * psum f n:=by
 induction n with
 | zero=>simp [psum]
 | succ n ih=>simp only [psum];rw [ih,Int.mul_add]
theorem AQw (n:Nat):psum (fun _=>0) n=0:=by
 induction n with
 | zero=>rfl
 | succ n ih=>simp only [psum];rw [ih];rfl
theorem AYn (f:Z1) (n m:Nat):psum (fun i=>psum (fun j=>f i j) m) n=psum (fun j=>psum (fun i=>f i j) n) m:=by
 induction n with
 | zero=>simp only [psum];exact (AQw m).symm
 | succ n ih=>
   simp only [psum]
   rw [ih,<- AMw]
theorem Anz {f g:Nat->Int} {n a:Nat} (ha:a < n) (h:∀ i,i≠a->g i=f i):psum g n=psum f n + (g a - f a):=by
  induction n with
  | zero=>omega
  | succ n ih=>
    simp only [psum]
    by_cases hn:a=n
    · subst hn;rw [ABa (f:=g) (g:=f) (fun k hk=>h k Zh)];omega
    · rw [ih Zh,h n (fun he=>hn he.symm)];omega
theorem AK7 {f:Nat->Int} {n a:Nat} (ha:a < n) (h:∀ i,i≠a->f i=0):psum f n=f a:=by
 rw [Anz (f:=fun _=>0) ha h,AQw];omega
def Eqm (m a b:Int):Prop:=a % m=b % m
theorem Eqm.refl (m a:Int):Eqm m a a:=rfl
theorem Eqm.of_eq {m a b:Int} (h:a=b):Eqm m a b:=h ▸ rfl
theorem Eqm.symm {m a b:Int} (h:Eqm m a b):Eqm m b a:=Eq.symm h
theorem Eqm.trans {m a b c:Int} (h:Eqm m a b) (k:Eqm m b c):Eqm m a c:=Eq.trans h k
theorem Eqm.add {m a b c d:Int} (h:Eqm m a b) (k:Eqm m c d):Eqm m (a + c) (b + d):=by
 unfold Eqm at *;rw [Int.add_emod,h,k,<- Int.add_emod]
theorem Eqm.sub {m a b c d:Int} (h:Eqm m a b) (k:Eqm m c d):Eqm m (a - c) (b - d):=by
 unfold Eqm at *;rw [Int.sub_emod,h,k,<- Int.sub_emod]
theorem Eqm.mul {m a b c d:Int} (h:Eqm m a b) (k:Eqm m c d):Eqm m (a * c) (b * d):=by
 unfold Eqm at *;rw [Int.mul_emod,h,k,<- Int.mul_emod]
theorem Eqm.mod (m a:Int):Eqm m (a % m) a:=Int.emod_emod_of_dvd a (Int.dvd_refl m)
theorem Eqm.psum {m:Int} {f g:Nat->Int} {n:Nat} (h:∀ i,i < n->Eqm m (f i) (g i)):Eqm m (psum f n) (psum g n):=by
 induction n with
 | zero=>rfl
 | succ n ih=>exact (ih fun i hi=>h i Zh).add (h n Zh)
theorem Eqm.zero {m a:Int} (h:Eqm m a 0):a % m=0:=by simpa [Eqm] using h
theorem Acf {m a b:Int} (h:Eqm m a b) (ha:0<=a/\a < m) (hb:0<=b/\b < m):a=b:=by
 unfold Eqm at h;rwa [Int.emod_eq_of_lt ha.1 ha.2,Int.emod_eq_of_lt hb.1 hb.2] at h
end Go.QF
namespace Go.QF
theorem An0 {f:Nat->Int} {k r:Nat} (hk:k<=r) (h:∀ i,k<=i->i < r->f i=0):psum f r=psum f k:=by
 induction r with
 | zero=>rw [Nat.le_zero.1 hk]
 | succ r ih=>
   rcases Nat.lt_or_ge k (r + 1) with h1 | h1
   · simp only [psum]
     rw [ih Zh (fun i h2 h3=>h i h2 Zh),h r Zh Zh];omega
   · obtain rfl:k=r + 1:=by omega
     rfl
def dl (a b:Nat):Int:=if a=b then 1 else 0
def skp (i a:Nat):Nat:=if a < i then a else a + 1
def usk (i r:Nat):Nat:=if r < i then r else r - 1
def sg (i:Nat):Int:=if i % 2=0 then 1 else -1
theorem Aq1 (i:Nat):sg (i + 1)= -sg i:=by unfold sg;split <;> split <;> first | omega | rfl
theorem At0 (i a:Nat):skp i a≠i:=by unfold skp;split <;> omega
theorem An1 {i a n:Nat} (ha:a < n):skp i a < n + 1:=by unfold skp;split <;> omega
theorem Aq2 {i r:Nat} (h:r≠i):skp i (usk i r)=r:=by
 unfold usk;split <;> (unfold skp;split <;> omega)
theorem Aq3 {i a r:Nat} (h:skp i a=r):a=usk i r:=by unfold skp at h;unfold usk;split at h <;> split <;> omega
theorem At1 {i r n:Nat} (h:r≠i) (hi:i < n + 1) (hr:r < n + 1):usk i r < n:=by unfold usk;split <;> omega
theorem ABc (F:Z1) (a:Nat) (g:Nat->Int) (i j:Nat):ABv F a g i j=if i=a then g j else F i j:=by
 unfold ABv;split <;> rfl
theorem AJv (F:Z1) (a b i j:Nat):AEh F a b i j=if i=b then F a j else if i=a then F b j else F i j:=by
 unfold AEh;rw [ABc,ABc]
def AE7 (i:Nat) (F:Z1):Z1:=fun a b=>F (skp i a) (b + 1)
def det:Nat->(Z1)->Int
  | 0,_=>1
  | n + 1,F=>psum (fun i=>sg i * F i 0 * det n (AE7 i F)) (n + 1)
theorem AB0:∀ {n:Nat} {F G:Z1},(∀ i j,i < n->j < n->F i j=G i j)->det n F=det n G:=by
 intro n
 induction n with
 | zero=>intro _ _ _;rfl
 | succ n ih=>
   intro F G h
   refine ABa fun i hi=>?_
   rw [h i 0 hi Zh,ih (F:=AE7 i F) (G:=AE7 i G) fun a b ha hb=>h _ _ (An1 ha) Zh]
theorem AWq {i r:Nat} {F:Z1} {g:Nat->Int} (h:r≠i):AE7 i (ABv F r g)=ABv (AE7 i F) (usk i r) (fun b=>g (b + 1)):=by
 funext a b;unfold AE7 ABv;by_cases ha:skp i a=r
 ·rw [if_pos ha,if_pos (Aq3 ha)]
 ·rw [if_neg ha,if_neg (fun he=>ha (by rw [he,Aq2 h]))]
theorem AZi {i:Nat} {F:Z1} {g:Nat->Int}:AE7 i (ABv F i g)=AE7 i F:=by
 funext a b;unfold AE7;rw [ADy _ _ (At0 i a)]
theorem AT5:∀ {n:Nat} {F:Z1} {r:Nat} (u v:Nat->Int) (c d:Int),r < n->det n (ABv F r fun q=>c * u q + d * v q)=c * det n (ABv F r u) + d * det n (ABv F r v):=by
 intro n
 induction n with
 | zero=>intro _ _ _ _ _ _ h;omega
 | succ n ih=>
   intro F r u v c d hr
   simp only [det]
   rw [<- AF1,<- AF1,<- AMw]
   refine ABa fun i hi=>?_
   by_cases h:r=i
   · subst h
     simp only [AZi,ABr]
     grind
   · rw [AWq h,AWq h,AWq h,ADy _ _ (Ne.symm h),ADy _ _ (Ne.symm h),ADy _ _ (Ne.symm h),ih (fun b=>u (b + 1)) (fun b=>v (b + 1)) c d (At1 h hi hr)]
     grind
theorem An2 {f:Nat->Int} {n r s:Nat} (hr:r < n) (hs:s < n) (hrs:r≠s) (h:∀ i,i < n->i≠r->i≠s->f i=0):psum f n=f r + f s:=by
 have h1:psum f n=psum (fun i=>(if i=r then f r else 0) + (if i=s then f s else 0)) n:=ABa fun i hi=>by
   by_cases h1:i=r
   · subst h1;rw [if_pos rfl,if_neg hrs];omega
   · rw [if_neg h1]
     by_cases h2:i=s
     · subst h2;rw [if_pos rfl];omega
     · rw [if_neg h2,h i hi h1 h2];rfl
 rw [h1,AMw,AK7 (f:=fun i=>if i=r then f r else 0) hr (fun i hi=>if_neg hi),AK7 (f:=fun i=>if i=s then f s else 0) hs (fun i hi=>if_neg hi),if_pos rfl,if_pos rfl]
theorem Ai4:∀ {n:Nat} {F:Z1} {r:Nat},r + 1 < n->(∀ q,q < n->F r q=F (r + 1) q)->det n F=0:=by
 intro n
 induction n with
 | zero=>intro _ _ h;omega
 | succ n ih=>
   intro F r hr h
   simp only [det]
   rw [An2 (r:=r) (s:=r + 1) Zh Zh Zh]
   · have:det n (AE7 r F)=det n (AE7 (r + 1) F):=AB0 fun a b ha hb=>by
       unfold AE7 skp
       by_cases h1:a < r
       · rw [if_pos h1,if_pos Zh]
       · rw [if_neg h1]
         by_cases h2:a < r + 1
         · rw [if_pos h2]
           obtain rfl:a=r:=by omega
           exact (h (b + 1) Zh).symm
         · rw [if_neg h2]
     rw [this,Aq1,h 0 Zh]
     grind
   · intro i hi h1 h2
     rcases Nat.lt_or_ge i r with hlt | hge
     · rw [ih (F:=AE7 i F) (r:=r - 1) Zh]
       · simp
       · intro q hq
         unfold AE7 skp
         rw [if_neg Zh,if_neg Zh,show r - 1 + 1=r by omega]
         exact h (q + 1) Zh
     · rw [ih (F:=AE7 i F) (r:=r) Zh]
       · simp
       · intro q hq
         unfold AE7 skp
         rw [if_pos Zh,if_pos Zh]
         exact h (q + 1) Zh
theorem AQx {F:Z1} {a b:Nat} (h:a≠b) (u v:Nat->Int):ABv (ABv F a u) b v=ABv (ABv F b v) a u:=by
 funext k;unfold ABv;by_cases h1:k=a <;> by_cases h2:k=b
 ·omega
 ·simp [h1,h]
 ·simp [h2,Ne.symm h]
 ·simp [h1,h2]
theorem Aff {n:Nat} {F:Z1} {a b:Nat} (ha:a < n) (hb:b < n) (hab:a≠b) (h0:∀ G:Z1,G a=G b->det n G=0):det n (AEh F a b)= -det n F:=by
  have key:∀ u v:Nat->Int,det n (ABv (ABv F a u) b v)= -det n (ABv (ABv F a v) b u):=by
    intro u v;have h1:=h0 (ABv (ABv F a fun q=>1 * u q + 1 * v q) b fun q=>1 * u q + 1 * v q) (by rw [ABr,ADy _ _ hab,ABr]);rw [AT5 u v 1 1 hb,AQx hab,AQx hab,AT5 u v 1 1 ha,AT5 u v 1 1 ha,AQx (Ne.symm hab),AQx (Ne.symm hab),AQx (Ne.symm hab),AQx (Ne.symm hab)] at h1;have h2:=h0 (ABv (ABv F a u) b u) (by rw [ABr,ADy _ _ hab,ABr]);have h3:=h0 (ABv (ABv F a v) b v) (by rw [ABr,ADy _ _ hab,ABr]);omega
  unfold AEh;rw [key (F b) (F a),AOb];rw [show ABv F b (F b)=F from AOb F b]
theorem Ai5:∀ {d n:Nat} {F:Z1} {a:Nat},a + d + 1 < n->F a=F (a + d + 1)->det n F=0:=by
 intro d
 induction d with
 | zero=>intro n F a hn h;exact Ai4 hn fun q _=>by rw [h]
 | succ d ih=>
   intro n F a hn h
   have h1:=Aff (n:=n) (F:=F) (a:=a + d + 1) (b:=a + d + 1 + 1) Zh Zh Zh fun G hG=>Ai4 (r:=a + d + 1) Zh fun q _=>congrFun hG q
   have h2:=ih (n:=n) (F:=AEh F (a + d + 1) (a + d + 1 + 1)) (a:=a) Zh (by rw [AVm,AW8 _ Zh Zh,h];rfl)
   omega
theorem AOc {n:Nat} {F:Z1} {a b:Nat} (ha:a < n) (hb:b < n) (hab:a≠b) (h:F a=F b):det n F=0:=by
 rcases Nat.lt_or_ge a b with hlt | hge
 ·exact Ai5 (d:=b - a - 1) (a:=a) Zh (by rw [h];congr 1;omega)
 ·exact Ai5 (d:=a - b - 1) (a:=b) Zh (by rw [<- h];congr 1;omega)
theorem APw {n:Nat} {F:Z1} {a b:Nat} (ha:a < n) (hb:b < n) (hab:a≠b):det n (AEh F a b)= -det n F:=
  Aff ha hb hab fun _ h=>AOc ha hb hab h
theorem Akv {n:Nat} {F:Z1} {r:Nat} (u:Nat->Int) (c:Int) (hr:r < n):det n (ABv F r fun q=>c * u q)=c * det n (ABv F r u):=by
 have:=AT5 (F:=F) u (fun _=>0) c 0 hr;rw [show (fun q=>c * u q + 0 * (fun _:Nat=>(0:Int)) q)=fun q=>c * u q from by funext q;omega] at this;rw [this];omega
theorem AT6 {n:Nat} {F:Z1} {r:Nat} (hr:r < n) (h:∀ q,q < n->F r q=0):det n F=0:=by
 have:=Akv (F:=F) (F r) 0 hr;rw [Int.zero_mul] at this;rw [<- this]
 exact AB0 fun i j hi hj=>by
   unfold ABv
   split
   · rename_i he;subst he;rw [h j hj];simp
   · rfl
theorem ALk {n:Nat} {F:Z1} {a b:Nat} (ha:a < n) (hb:b < n) (hab:a≠b) (q:Int):det n (ABv F a fun x=>F a x + q * F b x)=det n F:=by
 have:=AT5 (F:=F) (F a) (F b) 1 q ha;rw [AOb,AOc (F:=ABv F a (F b)) ha hb hab (by rw [ABr,ADy _ _ (Ne.symm hab)])] at this;rw [show (fun x=>F a x + q * F b x)=fun x=>1 * F a x + q * F b x from by funext x;omega,this];omega
theorem Aay {n:Nat} {F:Z1} {r:Nat} (hr:r < n) (y:Nat->Int) (u:Z1):∀ t,det n (ABv F r fun q=>psum (fun k=>y k * u k q) t)=psum (fun k=>y k * det n (ABv F r (u k))) t:=by
 intro t
 induction t with
 | zero=>exact AT6 hr fun q _=>by rw [ABr];rfl
 | succ t ih=>
   have:=AT5 (F:=F) (fun q=>psum (fun k=>y k * u k q) t) (u t) 1 (y t) hr
   simp only [psum]
   rw [<- ih,show (fun q=>psum (fun k=>y k * u k q) t + y t * u t q)=fun q=>1 * psum (fun k=>y k * u k q) t + y t * u t q from by funext q;omega,this];omega
theorem An3 {n:Nat} {F:Z1} {r:Nat} (hr:r < n) (y:Nat->Int):det n (ABv F r fun q=>psum (fun k=>y k * F k q) n)=y r * det n F:=by
  rw [Aay hr y F n,ABa (g:=fun k=>if k=r then y r * det n F else 0),AK7 hr (fun i hi=>if_neg hi),if_pos rfl];intro k hk
  by_cases h:k=r
  · subst h;rw [if_pos rfl,AOb]
  · rw [if_neg h,AOc (F:=ABv F r (F k)) hr hk (Ne.symm h) (by rw [ABr,ADy _ _ h])];simp
def AGt (f:Nat->Int):Nat->Int
  | 0=>1
  | n + 1=>AGt f n * f n
theorem AY6 (f:Nat->Int) (n:Nat):AGt f (n + 1)=f 0 * AGt (fun i=>f (i + 1)) n:=by
 induction n with
 | zero=>simp [AGt]
 | succ n ih=>rw [AGt,ih,AGt];grind
theorem AY7 {f g:Nat->Int} {n:Nat} (h:∀ i,i < n->f i=g i):AGt f n=AGt g n:=by
 induction n with
 | zero=>rfl
 | succ n ih=>rw [AGt,AGt,ih (fun i hi=>h i Zh),h n Zh]
theorem AS8:∀ {n:Nat} {F:Z1},Zc n F n->det n F=AGt (fun i=>F i i) n:=by
 intro n
 induction n with
 | zero=>intro _ _;rfl
 | succ n ih=>
   intro F h
   rw [AY6,det,ABa (g:=fun i=>if i=0 then F 0 0 * det n (AE7 0 F) else 0),AK7 (a:=0) Zh (fun i hi=>if_neg hi),if_pos rfl]
   · rw [ih (F:=AE7 0 F) (fun c' i h1 h2 h3=>by unfold AE7 skp;rw [if_neg Zh];exact h (c' + 1) (i + 1) Zh Zh Zh)]
     rfl
   · intro i hi
     by_cases h0:i=0
     · subst h0;simp [sg]
     · rw [if_neg h0,h 0 i Zh Zh hi];simp
theorem Acg:∀ {n:Nat} {F:Z1},(∀ i j,i < j->j < n->F i j=0)->det n F=AGt (fun i=>F i i) n:=by
 intro n
 induction n with
 | zero=>intro _ _;rfl
 | succ n ih=>
   intro F h
   rw [AY6,det,ABa (g:=fun i=>if i=0 then F 0 0 * det n (AE7 0 F) else 0),AK7 (a:=0) Zh (fun i hi=>if_neg hi),if_pos rfl]
   · rw [ih (F:=AE7 0 F) (fun i j h1 h2=>by unfold AE7 skp;rw [if_neg Zh];exact h (i + 1) (j + 1) Zh Zh)]
     rfl
   · intro i hi
     by_cases h0:i=0
     · subst h0;simp [sg]
     · rw [if_neg h0,AT6 (F:=AE7 i F) (r:=0) Zh (fun q hq=>by unfold AE7 skp;rw [if_pos Zh];exact h 0 (q + 1) Zh Zh)];simp
def AWd (F:Z1) (c i:Nat) (q:Int):Z1:=AEh (ABv F c fun x=>F c x + -q * F i x) c i
theorem Ai6 (F:Z1) {c i:Nat} (q:Int):AWd F c i q i=fun x=>F c x + -q * F i x:=by
 unfold AWd;rw [Aae,ABr]
theorem Aq4 (F:Z1) {c i:Nat} (h:c≠i) (q:Int):AWd F c i q c=F i:=by
 unfold AWd;rw [AVm,ADy _ _ (Ne.symm h)]
theorem Afg (F:Z1) {c i k:Nat} (hc:k≠c) (hi:k≠i) (q:Int):AWd F c i q k=F k:=by
 unfold AWd;rw [AW8 _ hc hi,ADy _ _ hc]
theorem An4 {n:Nat} {F:Z1} {c i:Nat} {q:Int} (H:Zc n F c) (hci:c < i) (hi:i < n):Zc n (AWd F c i q) c:=by
 intro c' k h1 h2 h3;by_cases hk:k=i
 ·subst hk;rw [Ai6];simp [H c' c h1 h1 Zh,H c' k h1 h2 h3]
 ·by_cases Ad:k=c
  ·subst Ad;rw [Aq4 F hk];exact H c' i h1 Zh hi
  ·rw [Afg F Ad hk];exact H c' k h1 h2 h3
theorem An5 {F:Z1} {c i:Nat} {q:Int} (H:Zi F c i):Zi (AWd F c i q) c i:=by
 intro k h1 h2;rw [Afg F Zh Zh];exact H k h1 h2
theorem Ai7 {n:Nat} {P:(Z1)->Prop} (hadd:∀ F a b q,a < n->b < n->a≠b->P (ABv F a fun x=>F a x + q * F b x)->P F) (hswap:∀ F a b,a < n->b < n->a≠b->P (AEh F a b)->P F) (htri:∀ F,Zc n F n->P F):∀ F,P F:=by
  have key:∀ d c,c + d=n-> ∀ F,Zc n F c->P F:=by
    intro d;induction d with
    | zero=>
        intro c hc F hF;obtain rfl:c=n:=by omega
        exact htri F hF
    | succ d ih=>
      intro c hc
      have inner:∀ e i,i + e=n->c < i-> ∀ F,Zc n F c->Zi F c i->P F:=by
        intro e;induction e with
        | zero=>
            intro i hi hci F hF hz;obtain rfl:i=n:=by omega
            exact ih (c + 1) Zh F (Aij hF hz)
        | succ e ihe=>
          intro i hi hci
          have strong:∀ k F,(F i c).natAbs=k->Zc n F c->Zi F c i->P F:=by
            intro k;induction k using Nat.strongRecOn with
            | _ k ihk=>
              intro F hk hF hz
              by_cases h0:F i c=0
              · exact ihe (i + 1) Zh Zh F hF (Aii hz h0)
              · refine hadd F c i (-(F c c / F i c)) Zh Zh Zh (hswap _ c i Zh Zh Zh ?_);refine ihk ((AWd F c i (F c c / F i c)) i c).natAbs ?_ (AWd F c i (F c c / F i c)) rfl (An4 hF hci Zh) (An5 hz);rw [Ai6,<- hk];show (F c c + -(F c c / F i c) * F i c).natAbs < _;have h1:=Int.mul_ediv_add_emod (F c c) (F i c);have h2:F c c + -(F c c / F i c) * F i c=F c c % F i c:=by grind
                rw [h2];have h3:=Int.emod_nonneg (F c c) h0;have h4:=Int.emod_lt (F c c) h0;omega
          exact fun F=>strong _ F rfl
      exact fun F hF=>inner (n - (c + 1)) (c + 1) Zh Zh F hF fun k h1 h2=>by omega
  exact fun F=>key n 0 Zh F fun c' i h=>by omega
def ACq (n:Nat) (A B:Z1):Z1:=fun i j=>psum (fun k=>A i k * B k j) n
theorem An6 {n:Nat} {A B:Z1} {a b:Nat} {q:Int}:ACq n (ABv A a fun x=>A a x + q * A b x) B=ABv (ACq n A B) a fun x=>ACq n A B a x + q * ACq n A B b x:=by
 funext i j;unfold ACq ABv;by_cases h:i=a
 ·simp only [if_pos h];rw [<- AF1,<- AMw];exact ABa fun k _=>by grind
 ·simp only [if_neg h]
theorem Afh {n:Nat} {A B:Z1} {a:Nat} {u:Nat->Int}:ACq n (ABv A a u) B=ABv (ACq n A B) a fun x=>psum (fun k=>u k * B k x) n:=by
 funext i j;unfold ACq ABv;by_cases h:i=a
 ·simp only [if_pos h]
 ·simp only [if_neg h]
theorem Akw {n:Nat} {A B:Z1} {a b:Nat}:ACq n (AEh A a b) B=AEh (ACq n A B) a b:=by
 unfold AEh;rw [Afh,Afh];rfl
theorem AT7 {n:Nat} (A B:Z1):det n (ACq n A B)=det n A * det n B:=by
 refine Ai7 (n:=n) (P:=fun A=>det n (ACq n A B)=det n A * det n B) (fun F a b q ha hb hab h=>?_) (fun F a b ha hb hab h=>?_) (fun F hF=>?_) A
 ·rw [An6,ALk ha hb hab,ALk ha hb hab] at h;exact h
 ·rw [Akw,APw ha hb hab,APw ha hb hab] at h;rw [Int.neg_mul] at h;omega
 ·rw [AS8 hF]
  have key:∀ j,j<=n->det n (fun i=>if i < j then ACq n F B i else B i)=AGt (fun i=>F i i) j * det n B:=by
    intro j
    induction j with
    | zero=>intro _;simp [AGt]
    | succ j ih=>
      intro hj
      rw [AGt,Int.mul_assoc,Int.mul_comm (F j j),<- Int.mul_assoc,<- ih Zh,Int.mul_comm]
      rw [<- An3 (F:=fun i=>if i < j then ACq n F B i else B i) (r:=j) Zh (F j)]
      refine AB0 fun i q hi hq=>?_
      unfold ABv
      by_cases h:i=j
      · subst h
        simp only [if_pos (Nat.lt_succ_self i),if_pos]
        unfold ACq
        refine ABa fun k hk=>?_
        by_cases hlt:k < i
        · rw [hF k i Zh hlt hi];simp
        · rw [if_neg hlt]
      · simp only [if_neg h]
        by_cases hlt:i < j
        · rw [if_pos hlt,if_pos Zh]
        · rw [if_neg hlt,if_neg Zh]
  rw [<- key n (Nat.le_refl _)];exact AB0 fun i j hi hj=>by rw [if_pos hi]
def trF (F:Z1):Z1:=fun i j=>F j i
theorem AYo (n:Nat):det n dl=1:=by
 rw [AS8 (fun c' i h1 h2 h3=>by unfold dl;rw [if_neg Zh])]
 have:∀ k,AGt (fun i=>dl i i) k=1:=by
   intro k
   induction k with
   | zero=>rfl
   | succ k ih=>rw [AGt,ih];simp [dl]
 exact this n
theorem Ahh {n:Nat} {F:Z1} {i j:Nat} (hj:j < n):psum (fun k=>F i k * dl k j) n=F i j:=by
 rw [AK7 hj (fun k hk=>by unfold dl;rw [if_neg hk];simp)];simp [dl]
theorem Ahi {n:Nat} {F:Z1} {a:Nat} (y:Nat->Int) (ha:a < n):det n (trF (ABv F a fun x=>psum (fun k=>y k * F k x) n))=det n (trF F) * det n (trF (ABv dl a y)):=by
  rw [<- AT7];refine AB0 fun i j hi hj=>?_;unfold ACq trF ABv
  by_cases h:j=a
  · simp only [if_pos h];exact ABa fun k _=>by grind
  · simp only [if_neg h];rw [AK7 hj (fun k hk=>by unfold dl;rw [if_neg (Ne.symm hk)];simp)];simp [dl]
theorem AQb {n:Nat} (F:Z1):det n (trF F)=det n F:=by
 refine Ai7 (n:=n) (P:=fun F=>det n (trF F)=det n F) (fun F a b q ha hb hab h=>?_) (fun F a b ha hb hab h=>?_) (fun F hF=>?_) F
 ·rw [ALk ha hb hab] at h;rw [<- h];have h1:=Ahi (n:=n) (F:=F) (a:=a) (fun k=>dl k a + q * dl k b) ha
  have h2:det n (trF (ABv dl a fun k=>dl k a + q * dl k b))=1:=by
    rw [<- AYo n,<- ALk (F:=dl) hb ha (Ne.symm hab) q]
    refine AB0 fun i j hi hj=>?_
    clear h1 h
    simp only [trF,ABc,dl]
    grind
  rw [h2,Int.mul_one] at h1;rw [<- h1];refine AB0 fun i j hi hj=>?_;unfold trF ABv;by_cases hja:j=a
  ·simp only [if_pos hja];rw [ABa (g:=fun k=>F k i * dl k a + q * (F k i * dl k b)) (fun k _=>by grind),AMw,AF1];rw [AK7 (a:=a) ha (fun k hk=>by unfold dl;rw [if_neg hk];simp),AK7 (a:=b) hb (fun k hk=>by unfold dl;rw [if_neg hk];simp)];simp [dl]
  ·simp only [if_neg hja]
 ·rw [APw ha hb hab] at h
  have h1:det n (trF (AEh F a b))=det n (trF F) * det n (AEh dl a b):=by
    rw [<- AT7]
    refine AB0 fun i j hi hj=>?_
    unfold ACq trF
    have hsym:∀ k,AEh dl a b k j=if j=a then dl k b else if j=b then dl k a else dl k j:=by
      intro k
      simp only [AJv,dl]
      grind
    rw [ABa (g:=fun k=>F k i * dl k (if j=a then b else if j=b then a else j)) (fun k _=>by rw [hsym];grind)]
    rw [AK7 (a:=if j=a then b else if j=b then a else j) (by grind) (fun k hk=>by unfold dl;rw [if_neg hk];simp)]
    simp only [dl,if_pos,Int.mul_one]
    by_cases h3:j=a
    · subst h3;rw [AVm,if_pos rfl]
    · rw [if_neg h3]
      by_cases h4:j=b
      · subst h4;rw [Aae,if_pos rfl]
      · rw [AW8 _ h3 h4,if_neg h4]
  rw [APw ha hb hab,AYo] at h1;omega
 ·rw [AS8 hF,Acg (F:=trF F) (fun i j h1 h2=>hF i j Zh h1 h2)];rfl
def shF (k:Nat) (F:Z1):Z1:=fun i j=>F (k + i) (k + j)
theorem Ach {i k a:Nat} (h:i < k + 1):skp i (k + a)=k + 1 + a:=by unfold skp;rw [if_neg Zh];omega
theorem AYp:∀ {k m:Nat} {T:Z1},(∀ i j,k<=i->i < k + m->j < k->T i j=0)->det (k + m) T=det k T * det m (shF k T):=by
  intro k;induction k with
  | zero=>
    intro m T _;have e:shF 0 T=T:=by funext i j;simp [shF]
    rw [e,Nat.zero_add];simp [det]
  | succ k ih=>
    intro m T h;rw [show k + 1 + m=(k + m) + 1 by omega];simp only [det];rw [An0 (k:=k + 1) Zh (fun i h1 h2=>by rw [h i 0 h1 Zh Zh];simp)];rw [Int.mul_comm,<- AF1];refine ABa fun i hi=>?_
    rw [ih (T:=AE7 i T) (m:=m) (fun a b ha ha2 hb=>by
      obtain ⟨c,rfl⟩:∃ c,a=k + c:=⟨a - k,Zh⟩;unfold AE7;rw [Ach hi];exact h _ _ Zh Zh Zh)]
    have e:shF k (AE7 i T)=shF (k + 1) T:=by
      funext a b;unfold shF AE7;rw [Ach hi,show k + b + 1=k + 1 + b by omega]
    rw [e];grind
theorem Adq {n:Nat} {F:Z1} (h:∀ i,i < n + 1->F i 0=0):det (n + 1) F=0:=by
 simp only [det];rw [ABa (g:=fun _=>0) fun i hi=>by rw [h i hi];simp];exact AQw _
theorem Afi {n:Nat} {F:Z1} {a b:Nat} (ha:a < n) (hb:b < n) (hab:a≠b) (h:∀ i,F i a=F i b):det n F=0:=by
 rw [<- AQb];exact AOc ha hb hab (by funext i;exact h i)
theorem Aq5 (F:Z1):det 2 F=F 0 0 * F 1 1 - F 1 0 * F 0 1:=by
 simp [det,psum,AE7,skp,sg];grind
def bro (k i r:Nat):Nat:=if r < k then r else i
def Mn (k:Nat) (A:Z1) (i j:Nat):Int:=det (k + 1) fun r c=>A (bro k i r) (bro k j c)
theorem AOy (A:Z1) (i j:Nat):Mn 0 A i j=A i j:=by
 simp [Mn,det,psum,bro,sg]
theorem AKu (k:Nat) (A:Z1):Mn k A k k=det (k + 1) A:=by
 refine AB0 fun r c hr hc=>?_;have e:∀ r,r < k + 1->bro k k r=r:=fun r hr=>by unfold bro;split <;> omega
 rw [e r hr,e c hc]
theorem Asw {k:Nat} (A:Z1) (i:Nat) {j:Nat} (hj:j < k):Mn k A i j=0:=by
 refine Afi (a:=j) (b:=k) Zh Zh Zh fun r=>?_;unfold bro;simp [hj]
def cof (k:Nat) (A:Z1) (i s:Nat):Int:=det (k + 1) (ABv (fun c r=>A (bro k i r) c) k (dl s))
theorem Adr {n:Nat} (f:Nat->Int) {q:Nat} (hq:q < n):psum (fun s=>f s * dl s q) n=f q:=by
 rw [AK7 hq (fun i hi=>by unfold dl;rw [if_neg hi,Int.mul_zero])];simp [dl]
theorem At2 (k:Nat) (A:Z1) (i j:Nat):Mn k A i j=psum (fun s=>cof k A i s * A s j) k + det k A * A i j:=by
 have h1:Mn k A i j=det (k + 1) (ABv (fun c r=>A (bro k i r) c) k fun q=>psum (fun s=>A (bro k i s) j * dl s q) (k + 1)):=by
   unfold Mn
   rw [<- AQb]
   refine AB0 fun c r hc hr=>?_
   rw [ABc,Adr _ hr]
   unfold trF
   split
   · subst_vars;simp [bro]
   · have:c < k:=by omega
     simp [bro,this]
 rw [h1,Aay Zh]
 have hk:det (k + 1) (ABv (fun c r=>A (bro k i r) c) k (dl k))=det k A:=by
   rw [AYp (k:=k) (m:=1) (T:=ABv (fun c r=>A (bro k i r) c) k (dl k)) (fun a b h1 h2 h3=>by
     obtain rfl:a=k:=by omega
     rw [ABc,if_pos rfl];unfold dl;rw [if_neg Zh])]
   have e1:det k (ABv (fun c r=>A (bro k i r) c) k (dl k))=det k A:=by
     rw [<- AQb]
     refine AB0 fun r c hr hc=>?_
     unfold trF
     rw [ABc,if_neg Zh]
     simp [bro,hr]
   have e2:det 1 (shF k (ABv (fun c r=>A (bro k i r) c) k (dl k)))=1:=by
     simp [det,psum,shF,sg,ABc,dl]
   rw [e1,e2,Int.mul_one]
 show psum (fun s=>A (bro k i s) j * det (k + 1) (ABv (fun c r=>A (bro k i r) c) k (dl s))) k + A (bro k i k) j * det (k + 1) (ABv (fun c r=>A (bro k i r) c) k (dl k))=_;rw [hk];congr 1
 ·refine ABa fun s hs=>?_;show _=cof k A i s * A s j;unfold cof;rw [Int.mul_comm];simp [bro,hs]
 ·simp [bro,Int.mul_comm]
theorem Afj (f:Nat->Int) (k m:Nat):AGt f (k + m)=AGt f k * AGt (fun i=>f (k + i)) m:=by
 induction m with
 | zero=>simp [AGt]
 | succ m ih=>rw [<- Nat.add_assoc];simp only [AGt];rw [ih];grind
theorem Aci {f:Nat->Int}:∀ {n:Nat},(∀ i,i < n->f i=1)->AGt f n=1
  | 0,_=>rfl
  | n + 1,h=>by rw [AGt,Aci fun i hi=>h i Zh,h n Zh];rfl
theorem Afk {f:Nat->Int}:∀ {n:Nat},(∀ i,i < n->f i≠0)->AGt f n≠0
  | 0,_=>by simp [AGt]
  | n + 1,h=>by rw [AGt];exact Int.mul_ne_zero (Afk fun i hi=>h i Zh) (h n Zh)
def AUm (k:Nat) (A:Z1) (ρ:Nat->Nat):Z1:=fun r s=>if r < k then dl r s else if s < k then cof k A (ρ r) s else if s=r then det k A else 0
theorem Afl {k n:Nat} {A B:Z1} {ρ γ:Nat->Nat} (hkn:k<=n) (hρ:∀ r,r < k->ρ r=r) (hB:∀ r c,B r c=A (ρ r) (γ c)) {r c:Nat} (hr:r < n):ACq n (AUm k A ρ) B r c=if r < k then B r c else Mn k A (ρ r) (γ c):=by
 unfold ACq;by_cases h:r < k
 ·rw [if_pos h,AK7 hr (fun i hi=>by unfold AUm;rw [if_pos h];unfold dl;rw [if_neg (fun e=>hi e.symm),Int.zero_mul])];unfold AUm;rw [if_pos h];simp [dl]
 ·rw [if_neg h,At2];obtain ⟨m,rfl⟩:∃ m,n=k + m:=⟨n - k,Zh⟩
  have hs:∀ t,psum (fun s=>AUm k A ρ r s * B s c) (k + t)=psum (fun s=>cof k A (ρ r) s * A s (γ c)) k + (if r < k + t then det k A * A (ρ r) (γ c) else 0):=by
    intro t
    induction t with
    | zero=>
      rw [if_neg Zh,Int.add_zero,Nat.add_zero]
      refine ABa fun s hs=>?_
      unfold AUm
      rw [if_neg h,if_pos hs,hB,hρ s hs]
    | succ t ih=>
      show psum (fun s=>AUm k A ρ r s * B s c) (k + t) + AUm k A ρ r (k + t) * B (k + t) c=_
      rw [ih]
      have e:AUm k A ρ r (k + t)=if k + t=r then det k A else 0:=by unfold AUm;rw [if_neg h,if_neg Zh]
      rw [e,hB]
      rcases Nat.lt_trichotomy r (k + t) with h1 | h1 | h1
      · rw [if_pos h1,if_neg Zh,if_pos Zh];simp
      · subst h1;rw [if_neg Zh,if_pos rfl,if_pos Zh];omega
      · rw [if_neg Zh,if_neg Zh,if_neg Zh];simp
  rw [hs,if_pos hr]
theorem Afm {k m:Nat} {A:Z1} {ρ:Nat->Nat}:det (k + m) (AUm k A ρ)=AGt (fun _=>det k A) m:=by
 rw [Acg (fun i j hij hj=>by
   unfold AUm
   split
   · unfold dl;rw [if_neg Zh]
   · rw [if_neg Zh,if_neg Zh]),Afj,Aci,Int.one_mul]
 ·refine AY7 fun i hi=>?_;unfold AUm;rw [if_neg Zh,if_neg Zh,if_pos rfl]
 ·intro i hi;unfold AUm;rw [if_pos hi];simp [dl]
theorem AVw {k:Nat} {A:Z1} (h0:det k A≠0) (i j:Nat):Mn k A k k * Mn k A i j - Mn k A i k * Mn k A k j=det k A * Mn (k + 1) A i j:=by
  have h1:=AT7 (n:=k + 2) (AUm k A (bro (k + 1) i)) fun r c=>A (bro (k + 1) i r) (bro (k + 1) j c)
  have hm:∀ r c,r < k + 2->ACq (k + 2) (AUm k A (bro (k + 1) i)) (fun r c=>A (bro (k + 1) i r) (bro (k + 1) j c)) r c=if r < k then A (bro (k + 1) i r) (bro (k + 1) j c) else Mn k A (bro (k + 1) i r) (bro (k + 1) j c):=fun r c hr=>
    Afl (k:=k) (n:=k + 2) (A:=A) (B:=fun r c=>A (bro (k + 1) i r) (bro (k + 1) j c)) (ρ:=bro (k + 1) i) (γ:=bro (k + 1) j) Zh (fun r hr=>by unfold bro;rw [if_pos Zh]) (fun r c=>rfl) hr
  rw [Afm,AYp (k:=k) (m:=2) (fun a b ha ha2 hb=>by
    rw [hm a b ha2,if_neg Zh,show bro (k + 1) j b=b by unfold bro;rw [if_pos Zh]];exact Asw _ _ hb)] at h1
  have e1:det k (ACq (k + 2) (AUm k A (bro (k + 1) i)) fun r c=>A (bro (k + 1) i r) (bro (k + 1) j c))=det k A:=by
    refine AB0 fun r c hr hc=>?_;rw [hm r c Zh,if_pos hr];simp only [bro];rw [if_pos Zh,if_pos Zh]
  have b0:∀ q,bro (k + 1) q (k + 0)=k:=fun q=>by unfold bro;rw [if_pos Zh];rfl
  have b1:∀ q,bro (k + 1) q (k + 1)=q:=fun q=>by unfold bro;rw [if_neg Zh]
  rw [e1,Aq5] at h1;simp only [shF] at h1;rw [hm _ _ Zh,hm _ _ Zh,hm _ _ Zh,hm _ _ Zh,if_neg Zh,if_neg Zh,if_neg Zh,if_neg Zh,b0,b0,b1,b1] at h1;have e2:AGt (fun _=>det k A) 2=det k A * det k A:=by simp [AGt]
  have e3:(det (k + 2) fun r c=>A (bro (k + 1) i r) (bro (k + 1) j c))=Mn (k + 1) A i j:=rfl;rw [e2,e3,Int.mul_assoc] at h1;exact Int.eq_of_mul_eq_mul_left h0 h1
theorem Afn {k n:Nat} {A:Z1} (h0:det k A≠0) (hk:k < n) (hz:∀ i,k<=i->i < n->Mn k A i k=0):det n A=0:=by
  obtain ⟨m,rfl⟩:∃ m,n=k + (m + 1):=⟨n - k - 1,Zh⟩;have h1:=AT7 (n:=k + (m + 1)) (AUm k A id) A
  have hm:∀ r c,r < k + (m + 1)->ACq (k + (m + 1)) (AUm k A id) A r c=if r < k then A r c else Mn k A r c:=fun r c hr=>
    Afl (k:=k) (n:=k + (m + 1)) (A:=A) (B:=A) (ρ:=id) (γ:=id) Zh (fun r hr=>rfl) (fun r c=>rfl) hr
  rw [Afm,AYp (k:=k) (m:=m + 1) (fun a b ha ha2 hb=>by rw [hm a b ha2,if_neg Zh];exact Asw _ _ hb),Adq (F:=shF k _) (fun i hi=>by
    unfold shF;rw [hm _ _ Zh,if_neg Zh];exact hz _ Zh Zh),Int.mul_zero] at h1
  rcases Int.mul_eq_zero.1 h1.symm with h2 | h2
  · exact absurd h2 (Afk fun i hi=>h0)
  · exact h2
def dBd (m:Nat):Nat->Nat
  | 0=>1
  | n + 1=>(n + 1) * m * dBd m n
theorem psum_abs {f:Nat->Int} {B:Nat}:∀ {n:Nat},(∀ i,i < n->(f i).natAbs<=B)->(psum f n).natAbs<=n * B
  | 0,_=>by simp [psum]
  | n + 1,h=>by
    have h1:=psum_abs (n:=n) fun i hi=>h i Zh
    have h2:=h n Zh
    have h3:=Int.natAbs_add_le (psum f n) (f n)
    show (psum f n + f n).natAbs<=_
    rw [Nat.add_mul,Nat.one_mul]
    omega
theorem AXm {m:Nat}:∀ {n:Nat} {F:Z1},(∀ i j,(F i j).natAbs<=m)->(det n F).natAbs<=dBd m n
  | 0,_,_=>by simp [det,dBd]
  | n + 1,F,h=>by
    have h1:=psum_abs (f:=fun i=>sg i * F i 0 * det n (AE7 i F)) (B:=m * dBd m n) (n:=n + 1) fun i hi=>by
      have e:=AXm (n:=n) (F:=AE7 i F) fun a b=>h _ _
      have es:(sg i).natAbs=1:=by unfold sg;split <;> rfl
      rw [Int.natAbs_mul,Int.natAbs_mul,es,Nat.one_mul]
      exact Nat.mul_le_mul (h i 0) e
    rw [dBd,Nat.mul_assoc]
    exact h1
theorem Aq6 {k n p:Nat} {A:Z1} (hp:k < p) {i j:Nat} (hi:k<=i):Mn k (AEh A p k) i j=Mn k A (if i=k then p else if i=p then k else i) j:=by
 refine AB0 fun r c hr hc=>?_;rw [AJv];unfold bro;by_cases h:r < k
 ·rw [if_pos h,if_pos h,if_neg Zh,if_neg Zh]
 ·rw [if_neg h,if_neg h];split
  ·rfl
  ·split <;> rfl
theorem Ads {k p:Nat} {A:Z1} (hp:k < p):det k (AEh A p k)=det k A:=by
 refine AB0 fun r c hr hc=>?_;rw [AJv,if_neg Zh,if_neg Zh]
def sgB (neg:Bool):Int:=if neg then -1 else 1
def AV7 (m:Nat) (A0:Z1) (n k:Nat) (F:Z1) (last:Int) (neg:Bool):Prop:=
  ∃ A:Z1,det n A=sgB neg * det n A0/\(∀ i j,k<=i->i < n->k<=j->j < n->F i j=Mn k A i j)/\last=det k A/\last≠0/\ ∀ i j,(A i j).natAbs<=m
theorem Aaz {m n:Nat} {A0:Z1} (h:∀ i j,(A0 i j).natAbs<=m):AV7 m A0 n 0 A0 1 false:=
  ⟨A0,by simp [sgB],fun i j _ _ _ _=>(AOy A0 i j).symm,rfl,Zk,h⟩
theorem Acj {m n k p:Nat} {A0 F:Z1} {last:Int} {neg:Bool} (H:AV7 m A0 n k F last neg) (hkp:k < p) (hp:p < n):AV7 m A0 n k (AEh F p k) last (!neg):=by
 obtain ⟨A,h1,h2,h3,h4,h5⟩:=H;refine ⟨AEh A p k,?_,fun i j hi hin hj hjn=>?_,by rw [Ads hkp];exact h3,h4,fun i j=>?_⟩
 ·rw [APw hp Zh Zh,h1];cases neg <;> simp [sgB]
 ·rw [Aq6 (n:=n) hkp hi,AJv];split
  ·rw [h2 p j Zh hp hj hjn]
  ·split
   ·rw [h2 k j Zh Zh hj hjn]
   ·rw [h2 i j hi hin hj hjn]
 ·rw [AJv];split
  ·exact h5 _ _
  ·split <;> exact h5 _ _
def bQ (k:Nat) (F:Z1) (last:Int) (r c:Nat):Int:=(F k k * F r c - F r k * F k c) / last
def bF (k:Nat) (F:Z1) (last:Int) (i j:Nat):Z1:=fun r c=>if k < r/\k < c/\(r < i∨r=i/\c < j) then bQ k F last r c else F r c
theorem Aa0 (k:Nat) (F:Z1) (last:Int):bF k F last (k + 1) (k + 1)=F:=by
 funext r c;unfold bF;rw [if_neg Zh]
theorem Ahj (k n:Nat) (F:Z1) (last:Int) (i:Nat) {r c:Nat} (hc:c < n):bF k F last i n r c=bF k F last (i + 1) (k + 1) r c:=by
 unfold bF;by_cases h:k < r/\k < c/\(r < i∨r=i/\c < n)
 ·rw [if_pos h,if_pos Zh]
 ·rw [if_neg h,if_neg Zh]
theorem Ahk (k:Nat) (F:Z1) (last:Int) {i j:Nat} (hi:k < i) (hj:k < j):(ABv (bF k F last i j) i fun c=>if c=j then bQ k F last i j else bF k F last i j i c)=bF k F last i (j + 1):=by
 funext r c;rw [ABc];split
 ·subst_vars
  split
  ·subst_vars;unfold bF;rw [if_pos Zh]
  ·unfold bF;by_cases h:k < r/\k < c/\(r < r∨r=r/\c < j)
   ·rw [if_pos h,if_pos Zh]
   ·rw [if_neg h,if_neg Zh]
 ·unfold bF;by_cases h:k < r/\k < c/\(r < i∨r=i/\c < j)
  ·rw [if_pos h,if_pos Zh]
  ·rw [if_neg h,if_neg Zh]
theorem Aa1 (k:Nat) (F:Z1) (last:Int) (i j c:Nat):bF k F last i j k c=F k c:=by unfold bF;rw [if_neg Zh]
theorem An8 (k:Nat) (F:Z1) (last:Int) (i j r:Nat):bF k F last i j r k=F r k:=by unfold bF;rw [if_neg Zh]
theorem An9 (k:Nat) (F:Z1) (last:Int) (i j:Nat):bF k F last i j i j=F i j:=by unfold bF;rw [if_neg Zh]
theorem Asx {m n k:Nat} {A0 F:Z1} {last:Int} {neg:Bool} (H:AV7 m A0 n k F last neg) (hk:k < n):∃ A,(∀ i j,(A i j).natAbs<=m)/\det n A=sgB neg * det n A0/\F k k=det (k + 1) A/\ ∀ i j,k<=i->i < n->k<=j->j < n->F i j=Mn k A i j/\bQ k F last i j=Mn (k + 1) A i j:=by
 obtain ⟨A,h1,h2,h3,h4,h5⟩:=H;refine ⟨A,h5,h1,by rw [h2 k k Zh hk Zh hk,AKu],fun i j hi hin hj hjn=>⟨h2 i j hi hin hj hjn,?_⟩⟩;unfold bQ;rw [h2 k k Zh hk Zh hk,h2 i j hi hin hj hjn,h2 i k hi hin Zh hk,h2 k j Zh hk hj hjn,AVw (by rw [<- h3];exact h4),<- h3,Int.mul_ediv_cancel_left _ h4]
theorem Ack {m n k:Nat} {A0 F:Z1} {last:Int} {neg:Bool} (H:AV7 m A0 n k F last neg) (hk:k < n) (h0:F k k≠0):AV7 m A0 n (k + 1) (bF k F last n (k + 1)) (F k k) neg:=by
 obtain ⟨A,h5,h1,h6,h2⟩:=Asx H hk;refine ⟨A,h1,fun i j hi hin hj hjn=>?_,h6,h0,h5⟩;unfold bF;rw [if_pos Zh];exact (h2 i j Zh hin Zh hjn).2
theorem Acl {m n k:Nat} {A0 F:Z1} {last:Int} {neg:Bool} (H:AV7 m A0 n k F last neg) (hk:k < n) (hz:∀ i,k<=i->i < n->F i k=0):det n A0=0:=by
 obtain ⟨A,h1,h2,h3,h4,h5⟩:=H;have h:=Afn (A:=A) (by rw [<- h3];exact h4) hk fun i hi hin=>by rw [<- h2 i k hi hin Zh hk];exact hz i hi hin
 rw [h1] at h;rcases Int.mul_eq_zero.1 h with h6 | h6
 ·cases neg <;> simp [sgB] at h6
 ·exact h6
theorem Afo {m n:Nat} {A0 F:Z1} {last:Int} {neg:Bool} (H:AV7 m A0 n n F last neg):det n A0=if neg then -last else last:=by
 obtain ⟨A,h1,h2,h3,h4,h5⟩:=H;rw [<- h3] at h1;rw [h1];cases neg
 ·simp [sgB]
 ·simp [sgB]
theorem Ahl {m k:Nat} {A:Z1} (h:∀ i j,(A i j).natAbs<=m) (i j:Nat):(Mn k A i j).natAbs<=dBd m (k + 1):=AXm fun r c=>h _ _
theorem AOz {m:Nat} (hm:1<=m) {a b:Nat} (h:a<=b):dBd m a<=dBd m b:=by
 induction h with
 | refl=>exact Nat.le_refl _
 | step h ih=>
   refine Nat.le_trans ih ?_
   rw [dBd]
   exact Nat.le_mul_of_pos_left _ (Nat.mul_pos Zh Zh)
theorem Afp {m n k:Nat} {A0 F:Z1} {last:Int} {neg:Bool} (hm:1<=m) (H:AV7 m A0 n k F last neg) (hk:k < n) {i j:Nat} (hi:k<=i) (hin:i < n) (hj:k<=j) (hjn:j < n):(F i j).natAbs<=dBd m n/\(bQ k F last i j).natAbs<=dBd m (n + 1):=by
  obtain ⟨A,h5,h1,h6,h2⟩:=Asx H hk;obtain ⟨h7,h8⟩:=h2 i j hi hin hj hjn;rw [h7,h8];exact ⟨Nat.le_trans (Ahl h5 _ _) (AOz hm Zh),Nat.le_trans (Ahl h5 _ _) (AOz hm Zh)⟩
theorem Acm {m n k:Nat} {A0 F:Z1} {last:Int} {neg:Bool} (hm:1<=m) (H:AV7 m A0 n k F last neg) (hk:k<=n):last≠0/\last.natAbs<=dBd m n:=by
 obtain ⟨A,h1,h2,h3,h4,h5⟩:=H;exact ⟨h4,by rw [h3];exact Nat.le_trans (AXm h5) (AOz hm hk)⟩
end Go.QF
namespace Go.Proofs.YtdkldlbgcfpglaaGreatDoor
open Go Go.QF
theorem Aq7 {α:Type} {i n:Nat} {a b c:α} (h:i < n):(List.replicate i a ++ List.replicate (n - i) b).set i c=List.replicate i a ++ (c :: List.replicate (n - i - 1) b):=by
 rw [List.set_append_right _ _ AA3,List.length_replicate,Nat.sub_self,show n - i=(n - i - 1) + 1 by omega,List.replicate_succ];rfl
theorem AZr {fuel n m:Nat} (hn:n<=100000000) (hm:m<=100000000) (hf:n < fuel):ADf fuel n m=some (List.replicate n (List.replicate m 0)):=by
 apply ok_eq;unfold ADf;refine AB5 Zh (Zq (AA9 (fun i s=>s=((i:Int),List.replicate i (List.replicate m 0) ++ List.replicate (n - i) [])) n (Q:=(· =List.replicate n (List.replicate m 0))) AA3 hf fun i s hi hI=>?_) fun x hx=>Zm hx);subst hI;unfold AK1;dsimp only;rw [List.length_replicate,Int.toNat_natCast];refine AAj (fun h=>AB5 Zh (AAs (n:=i) (x:=[]) ?_ rfl (Zm ⟨Zh,?_⟩))) (fun h=>Zm ?_)
 ·rw [List.getElem?_append_right AA3,List.length_replicate,Nat.sub_self,List.getElem?_replicate,if_pos Zh]
 ·rw [wk Zh,ABx,Int.toNat_natCast,Aq7 Zh];congr 1;rw [show n - (i + 1)=n - i - 1 by omega,List.replicate_succ'];simp
 ·obtain rfl:i=n:=by omega
  simp
theorem Adt {α:Type} {A:List (List α)} {i:Nat} {row:List α} (hi:i < A.length):(A.take i ++ row :: List.replicate (A.length - i - 1) []).set i=fun r=>A.take i ++ r :: List.replicate (A.length - i - 1) []:=by
 funext r;rw [List.set_append_right _ _ (by simp;omega),List.length_take,Nat.min_eq_left Zh,Nat.sub_self];rfl
theorem Adu {fuel:Nat} {A:List (List Int)} (hn:A.length<=100000000) (hm:∀ z∈A,z.length<=100000000/\z.length < fuel) (hf:A.length < fuel):AFx fuel A=some A:=by
 apply ok_eq;unfold AFx;refine AB5 Zh (Zq (AA9 (fun i s=>s=((i:Int),A.take i ++ List.replicate (A.length - i) [])) A.length (Q:=(· =A)) AA3 hf fun i s hi hI=>?_) fun x hx=>Zm hx);subst hI;unfold AK3;dsimp only;refine AAj (fun h=>?_) (fun h=>Zm ?_)
 ·have hi':i < A.length:=by omega
  obtain ⟨row,hrow⟩:∃ row,A[i]? =some row:=⟨A[i],List.getElem?_eq_getElem hi'⟩;have hr:=hm row (List.mem_of_getElem? hrow);refine AAs hrow rfl (Zq (AA9 (fun j s=>s=((j:Int),A.take i ++ row.take j :: List.replicate (A.length - i - 1) [])) row.length (Q:=(· =A.take i ++ row :: List.replicate (A.length - i - 1) [])) ?_ hr.2 fun j s hj hJ=>?_) fun x hx=>Zm ⟨hi',?_⟩)
  ·rw [show A.length - i=(A.length - i - 1) + 1 by omega,List.replicate_succ];simp
  ·subst hJ;unfold AK2;dsimp only;refine AAj (fun h2=>?_) (fun h2=>Zm ?_)
   ·obtain ⟨x,hx⟩:∃ x,row[j]? =some x:=⟨row[j]'Zh,List.getElem?_eq_getElem _⟩;refine AAs hx rfl (AAs (n:=i) (x:=row.take j) ?_ rfl (Zq (Q:=(· =x)) ⟨x,rfl,rfl⟩ fun y hy=>AB5 ?_ (Zm ⟨Zh,?_⟩)))
    ·rw [List.getElem?_append_right (by simp;omega),List.length_take,Nat.min_eq_left Zh,Nat.sub_self];rfl
    ·rw [List.length_take];omega
    ·subst hy;rw [wk Zh,ABx,Adt hi',List.take_add_one,hx];rfl
   ·obtain rfl:j=row.length:=by omega
    rw [List.take_length]
  ·subst hx;rw [wk Zh,List.take_add_one,hrow,show A.length - (i + 1)=A.length - i - 1 by omega];simp
 ·obtain rfl:i=A.length:=by omega
  simp
def okM (A:List (List Int)):Bool:=decide (1<=A.length/\A.length<=16/\ ∀ z∈A,1<=z.length/\z.length<=16/\z.length=AM6 A)
theorem AQy {A:List (List Int)} {z:List Int} (h:A[0]? =some z):AM6 A=z.length:=by unfold AM6;rw [h];rfl
theorem AY8 {fuel:Nat} {A:List (List Int)} (hr:∀ z∈A,∀ x∈z,-9223372036854775808<=x/\x<=9223372036854775807) (hf:17 < fuel):AB7 fuel A=some (if okM A then (A,true) else ([],false)):=by
 apply ok_eq;unfold AB7
 have key:∀ R:List (List Int) × Bool->Prop,(okM A=false->R ([],false))->(okM A=true->R (A,true))->Ok (AB7 fuel A) R:=by
   intro R hF hT
   unfold AB7
   refine Zq (Q:=fun ex=>match ex with | .inl e=>e=([],false)/\okM A=false | .inr _=>1<=A.length/\A.length<=16) (AAj (fun h=>Zm ⟨rfl,by unfold okM;rw [decide_eq_false_iff_not];omega⟩) fun h=>AAj (fun h2=>Zm ⟨rfl,by unfold okM;rw [decide_eq_false_iff_not];omega⟩) fun h2=>Zm ⟨Zh,Zh⟩) fun ex hex=>?_
   cases ex with
   | inl e=>obtain ⟨rfl,h⟩:=hex;exact Zm (hF h)
   | inr u=>
     dsimp only at hex ⊢
     obtain ⟨z0,Ab⟩:∃ z,A[0]? =some z:=⟨A[0]'Zh,List.getElem?_eq_getElem _⟩
     have hc:=AQy Ab
     refine Zq (AA9 (fun i (s:Int)=>s=(i:Int)/\ ∀ z∈A.take i,1<=z.length/\z.length<=16/\z.length=AM6 A) A.length (Q:=fun ex=>match ex with | .inl e=>e=([],false)/\okM A=false | .inr _=>okM A=true) ⟨rfl,AA3⟩ Zh fun i s hi hI=>?_) fun ex Ac=>?_
     · obtain ⟨rfl,hI⟩:=hI
       unfold AIb
       refine AAj (fun h=>?_) (fun h=>Zm ?_)
       · have hi':i < A.length:=by omega
         obtain ⟨row,hrow⟩:∃ row,A[i]? =some row:=⟨A[i],List.getElem?_eq_getElem hi'⟩
         have bad: ¬ (1<=row.length/\row.length<=16/\row.length=AM6 A)->okM A=false:=fun hb=>by
           unfold okM;rw [decide_eq_false_iff_not];exact fun h=>hb (h.2.2 row (List.mem_of_getElem? hrow))
         refine AAs hrow rfl (AAj (fun h1=>Zm ⟨rfl,bad Zh⟩) fun h1=>AAj (fun h2=>Zm ⟨rfl,bad Zh⟩) fun h2=>AAs Ab rfl (AAj (fun h3=>Zm ⟨rfl,bad Zh⟩) fun h3=>Zm ⟨hi',wk Zh,?_⟩))
         rw [List.take_add_one,hrow]
         intro z hz
         rcases List.mem_append.1 hz with hz | hz
         · exact hI z hz
         · rw [show z=row by simpa using hz];omega
       · obtain rfl:i=A.length:=by omega
         rw [List.take_length] at hI
         unfold okM;rw [decide_eq_true_eq];exact ⟨hex.1,hex.2,hI⟩
     · cases ex with
       | inl e=>obtain ⟨rfl,h⟩:=Ac;exact Zm (hF h)
       | inr u=>
         dsimp only at Ac ⊢
         have hv:=Ac
         unfold okM at hv;rw [decide_eq_true_eq] at hv
         have hcA:∀ z∈A,z.length=AM6 A:=fun z hz=>(hv.2.2 z hz).2.2
         have Ag:1<=AM6 A/\AM6 A<=16:=by have:=hv.2.2 z0 (List.mem_of_getElem? Ab);omega
         refine AAs Ab rfl (Zq (ABb (AZr Zh Zh Zh)) fun O hO=>?_)
         subst hO
         rw [<- hc]
         refine Zq (AA9 (fun i s=>s=((i:Int),A.take i ++ List.replicate (A.length - i) (List.replicate (AM6 A) 0))) A.length (Q:=(· =A)) AA3 Zh fun i s hi hI=>?_) fun x hx=>Zm (hx ▸ hT Ac)
         subst hI
         unfold AIa
         dsimp only
         refine AAj (fun h=>?_) (fun h=>Zm ?_)
         · have hi':i < A.length:=by omega
           obtain ⟨row,hrow⟩:∃ row,A[i]? =some row:=⟨A[i],List.getElem?_eq_getElem hi'⟩
           have hrl:=hcA row (List.mem_of_getElem? hrow)
           refine AAs hrow rfl (Zq (AA9 (fun j s=>s=((j:Int),A.take i ++ (row.take j ++ List.replicate (AM6 A - j) 0) :: List.replicate (A.length - i - 1) (List.replicate (AM6 A) 0))) row.length (Q:=(· =A.take i ++ row :: List.replicate (A.length - i - 1) (List.replicate (AM6 A) 0))) ?_ Zh fun j s hj hJ=>?_) fun x hx=>Zm ⟨hi',?_⟩)
           · rw [show A.length - i=(A.length - i - 1) + 1 by omega,List.replicate_succ];simp
           · subst hJ
             unfold AH9
             dsimp only
             refine AAj (fun h2=>?_) (fun h2=>Zm ?_)
             · obtain ⟨x,hx⟩:∃ x,row[j]? =some x:=⟨row[j]'Zh,List.getElem?_eq_getElem _⟩
               have hxr:=hr row (List.mem_of_getElem? hrow) x (List.mem_of_getElem? hx)
               refine AAs (n:=i) (x:=row.take j ++ List.replicate (AM6 A - j) 0) ?_ rfl (AAs hrow rfl (AAs hx rfl (Zq (Q:=(· =x)) ⟨x,if_pos hxr,rfl⟩ fun y hy=>AAs (n:=j) (x:=0) ?_ rfl (Zm ⟨Zh,?_⟩))))
               · rw [List.getElem?_append_right (by simp;omega),List.length_take,Nat.min_eq_left Zh,Nat.sub_self];rfl
               · rw [List.getElem?_append_right (by simp;omega),List.length_take,Nat.min_eq_left Zh,Nat.sub_self,List.getElem?_replicate,if_pos Zh]
               · subst hy
                 rw [wk Zh,ABx,ABx]
                 congr 1
                 rw [List.set_append_right _ _ (by simp;omega),List.length_take,Nat.min_eq_left Zh,Nat.sub_self,List.set_cons_zero]
                 congr 2
                 rw [List.set_append_right _ _ (by simp;omega),List.length_take,Nat.min_eq_left Zh,Nat.sub_self,show AM6 A - j=(AM6 A - (j + 1)) + 1 by omega,List.replicate_succ,List.set_cons_zero,List.take_add_one,hx]
                 simp
             · obtain rfl:j=row.length:=by omega
               rw [List.take_length,show AM6 A - row.length=0 by omega];simp
           · subst hx
             rw [wk Zh,List.take_add_one,hrow,show A.length - (i + 1)=A.length - i - 1 by omega]
             simp
         · obtain rfl:i=A.length:=by omega
           simp
 have:=key (fun r=>r=if okM A then (A,true) else ([],false)) (fun h=>by rw [h];rfl) (fun h=>by rw [h];rfl);unfold AB7 at this;exact this
theorem Asy {fuel:Nat} {A:List (List Int)} (hr:∀ z∈A,∀ x∈z,-9223372036854775808<=x/\x<=9223372036854775807) (hf:17 < fuel):ADm fuel A=some (if okM A then A else []):=by
 unfold ADm;rw [AY8 hr hf];cases okM A <;> rfl
def m63:Nat:=9223372036854775808
def AT8:Nat:=dBd m63 17
theorem Adv:2 * (AT8 * AT8) < ADr:=by decide
theorem Aoa:1<=AT8:=by decide
theorem Aa2 {a b:Nat} (ha:a<=AT8) (hb:b<=AT8):a * b < ADr:=by
 have:=Nat.mul_le_mul ha hb;have:=Adv;omega
theorem Aob {a:Nat} (ha:a<=AT8):a < ADr:=by
 have h1:=Adv;have h2:=Nat.mul_le_mul Aoa (Nat.le_refl AT8);omega
theorem Aoc {n:Nat} (hn:n<=16):dBd m63 n<=AT8/\dBd m63 (n + 1)<=AT8:=⟨AOz Zk Zh,AOz Zk Zh⟩
theorem AXn {z:Int}:AF6 z=0↔z=0:=by
 unfold AF6;split
 ·omega
 ·split <;> omega
theorem Afq {fuel:Nat} {a b:Int} (ha:a.natAbs<=AT8) (hb:b.natAbs<=AT8):ARe fuel a b=some (a * b):=if_pos (Aa2 ha hb)
theorem Afr {a b:Int} (ha:a.natAbs<=AT8) (hb:b.natAbs<=AT8):(a * b).natAbs < ADr:=by rw [Int.natAbs_mul];exact Aa2 ha hb
theorem Aq9 {a b c d:Int} (ha:a.natAbs<=AT8) (hb:b.natAbs<=AT8) (hc:c.natAbs<=AT8) (hd:d.natAbs<=AT8):(a * b - c * d).natAbs < ADr:=by
 have h1:=Nat.mul_le_mul ha hb;have h2:=Nat.mul_le_mul hc hd;rw [<- Int.natAbs_mul] at h1 h2;have:=Adv;omega
theorem AWr {r c i j:Nat} {F:Z1} {x:Int}:sI (tab r c F) (i:Int) (sI (AB3 c (F i)) (j:Int) x)=tab r c (ABv F i fun q=>if q=j then x else F i q):=by
 rw [ABx,ABx,ADz];exact Anx
theorem At4 {fuel n:Nat} {F:Z1} (hn:n<=16) (hb:∀ i j,(F i j).natAbs<=m63) (hf:17 < fuel):ABe fuel (tab n n F)=some (det n F):=by
 apply ok_eq;unfold ABe;refine Zq (ABb (Adu (by rw [AAp];omega) (fun z hz=>by rw [AU4 z hz];omega) (by rw [AAp];omega))) fun A hA=>?_;subst hA;refine Zq (Q:=(· =1)) ⟨1,if_pos Zh,rfl⟩ fun one h1=>?_;subst h1;obtain ⟨hD,Ap⟩:=Aoc hn;refine Zq (AA9 (fun k s=> ∃ G last neg,s=(neg,((k:Int),tab n n G,last))/\AV7 m63 F n k G last neg) n (Q:=fun ex=>match ex with | .inl e=>e=det n F | .inr (neg,last)=>det n F=if neg then -last else last) ⟨F,1,false,rfl,Aaz hb⟩ Zh fun k s hk hI=>?_) fun ex hex=>?_
 ·obtain ⟨G,last,neg,rfl,hB⟩:=hI;unfold AEp;dsimp only;rw [AAp];refine AAj (fun h=>?_) (fun h=>Zm ?_)
  ·have hk':k < n:=by omega
   refine Zq (Q:=fun ex=>match ex with | .inl e=>e=det n F | .inr (neg',a',last')=> ∃ G',a'=tab n n G'/\AV7 m63 F n (k + 1) G' last' neg') ?_ fun ex hex=>?_
   ·refine Zq (Q:=fun (e:Int)=> ∃ p:Nat,e=p/\k<=p/\p<=n/\(∀ i,k<=i->i < p->G i k=0)/\(p < n->G p k≠0)) (Zq (AA9 (fun j (s:Int)=>s=((k + j:Nat):Int)/\k + j<=n/\ ∀ i,k<=i->i < k + j->G i k=0) (n - k) (Q:=fun (e:Int)=> ∃ p:Nat,e=p/\k<=p/\p<=n/\(∀ i,k<=i->i < p->G i k=0)/\(p < n->G p k≠0)) ⟨rfl,Zh,fun i h1 h2=>by omega⟩ Zh fun j s hj hJ=>?_) fun e he=>Zm he) fun e he=>?_
    ·obtain ⟨rfl,hjn,hz⟩:=hJ;unfold AEm;rw [AAp];refine Zq (Q:=fun ex=>match ex with | .inl _=>k + j < n/\G (k + j) k=0 | .inr _=>k + j < n->G (k + j) k≠0) (AAj (fun h2=>AAs (AAz Zh) rfl (AAs (AAq Zh) rfl (Zq (ABb (a:=AF6 (G (k + j) k)) rfl) fun sg hsg=>AAj (fun h3=>Zm ⟨Zh,?_⟩) fun h3=>Zm fun _=>?_))) fun h2=>Zm fun h3=>by omega) fun ex hex=>?_
     ·subst hsg;exact AXn.1 h3
     ·subst hsg;exact fun h4=>h3 (AXn.2 h4)
     ·cases ex with
      | inl u=>exact Zm ⟨Zh,by rw [wk Zh];omega,Zh,fun i h1 h2=>by
          rcases Nat.lt_or_ge i (k + j) with h3 | h3
          · exact hz i h1 h3
          · obtain rfl:i=k + j:=by omega
            exact hex.2⟩
      | inr u=>exact Zm ⟨k + j,rfl,Zh,hjn,hz,hex⟩
    ·obtain ⟨p,rfl,hkp,hpn,hz,hp⟩:=he;refine AAj (fun h2=>Zm ?_) (fun h2=>?_)
     ·obtain rfl:p=n:=by omega
      exact (Acl hB hk' hz).symm
     ·have hp':p < n:=by omega
      refine Zq (Q:=fun (r:Bool × List (List Int))=> ∃ G',r.2=tab n n G'/\AV7 m63 F n k G' last r.1/\G' k k≠0) (AAj (fun h3=>AAs (AAz Zh) rfl (AAs (AAz Zh) rfl (Zm ⟨AEh G p k,?_,Acj hB Zh hp',?_⟩))) fun h3=>Zm ⟨G,rfl,hB,?_⟩) fun r hr=>?_
      ·dsimp only;rw [ABx,ABx];show ((tab n n G).set p (AB3 n (G k))).set k (AB3 n (G p))=_;rw [show AB3 n (G k)=(List.range n).map (G k) from rfl,show AB3 n (G p)=(List.range n).map (G p) from rfl,AKy,AKy];rfl
      ·rw [AJv,if_pos rfl];exact hp hp'
      ·obtain rfl:p=k:=by omega
       exact hp hp'
      ·obtain ⟨Aq,a2⟩:=r;obtain ⟨G2,Ag,Af,hne⟩:=hr;dsimp only at Ag Af ⊢;subst Ag;have hlast:=Acm Zk Af Zh;have habs:∀ i j,k<=i->i < n->k<=j->j < n->(G2 i j).natAbs<=AT8:=fun i j h1 h2 h3 h4=>Nat.le_trans (Afp Zk Af hk' h1 h2 h3 h4).1 hD;have hl':last.natAbs<=AT8:=Nat.le_trans hlast.2 hD;rw [wk Zh];refine Zq (AA9 (fun i s=>s=(((k + 1 + i:Nat):Int),tab n n (bF k G2 last (k + 1 + i) (k + 1)))/\k + 1 + i<=n) (n - (k + 1)) (Q:=(· =tab n n (bF k G2 last n (k + 1)))) ⟨by rw [Nat.add_zero,Aa0];simp,Zh⟩ Zh fun i s hi hI=>?_) fun a3 Ah=>?_
       ·obtain ⟨rfl,hin⟩:=hI;unfold AEo;dsimp only;rw [AAp];obtain ⟨q,hq⟩:∃ q,k + 1 + i=q:=⟨_,rfl⟩;rw [hq] at hin ⊢;refine AAj (fun h3=>?_) (fun h3=>Zm ?_)
        ·have hqn:q < n:=by omega
         rw [wk Zh];refine Zq (AA9 (fun j s=>s=(((k + 1 + j:Nat):Int),tab n n (bF k G2 last q (k + 1 + j)))/\k + 1 + j<=n) (n - (k + 1)) (Q:=(· =tab n n (bF k G2 last q n))) ⟨AA3,Zh⟩ Zh fun j s hj hJ=>?_) fun a4 Ai=>Zm ?_
         ·obtain ⟨rfl,hjn⟩:=hJ;unfold AEn;dsimp only;rw [AAp];obtain ⟨c,hc⟩:∃ c,k + 1 + j=c:=⟨_,rfl⟩;rw [hc] at hjn ⊢;refine AAj (fun h4=>?_) (fun h4=>Zm ?_)
          ·have hcn:c < n:=by omega
           refine AAs (AAz hqn) rfl (AAs (AAz hk') rfl (AAs (AAq hk') rfl (AAs (AAq hcn) rfl ?_)));rw [Aa1,An9];refine Zq (ABb (Afq (habs _ _ Zh Zh Zh Zh) (habs _ _ Zh Zh Zh Zh))) fun x1 Aj=>AAs (AAq hk') rfl (AAs (AAq hcn) rfl ?_);subst Aj;rw [An8,Aa1];refine Zq (ABb (Afq (habs _ _ Zh Zh Zh Zh) (habs _ _ Zh Zh Zh Zh))) fun x2 Ak=>?_;subst Ak;refine Zq (Q:=(· =G2 k k * G2 q c - G2 q k * G2 k c)) ⟨_,if_pos ⟨Afr (habs _ _ Zh Zh Zh Zh) (habs _ _ Zh Zh Zh Zh),Afr (habs _ _ Zh Zh Zh Zh) (habs _ _ Zh Zh Zh Zh)⟩,rfl⟩ fun x3 Am=>?_
           ·subst Am;refine Zq (Q:=(· =bQ k G2 last q c)) ?_ fun x4 Ao=>Zm ⟨Zh,?_,Zh⟩
            ·unfold ACp AS4;rw [if_pos ⟨Aq9 (habs _ _ Zh Zh Zh Zh) (habs _ _ Zh Zh Zh Zh) (habs _ _ Zh Zh Zh Zh) (habs _ _ Zh Zh Zh Zh),Aob hl',hlast.1⟩];exact ⟨_,rfl,rfl⟩
            ·subst Ao;rw [wk Zh,AWr,Ahk k G2 last Zh Zh];congr 1
             ·omega
             ·rw [<- Nat.add_assoc,hc]
          ·obtain rfl:c=n:=by omega
           rfl
         ·subst Ai;refine ⟨Zh,?_,Zh⟩;rw [wk Zh];congr 1
          ·omega
          ·refine AM7 fun r c hr hc=>?_;rw [Ahj k n G2 last q hc,<- Nat.add_assoc,hq]
        ·obtain rfl:q=n:=by omega
         rfl
       ·subst Ah;refine AAs (AAz hk') rfl (AAs (AAq hk') rfl (Zm ⟨_,rfl,?_⟩));rw [Aa1];exact Ack Af hk' hne
   ·match ex,hex with
    | .inl e,hex=>exact Zm hex
    | .inr (neg',a',last'),hex=>
      obtain ⟨G',rfl,hB'⟩:=hex
      exact Zm ⟨hk',G',last',neg',by rw [wk Zh];rfl,hB'⟩
  ·obtain rfl:k=n:=by omega
   exact Afo hB
 ·match ex,hex with
  | .inl e,hex=>exact Zm hex
  | .inr (neg,last),hex=>
    dsimp only at hex ⊢
    rw [hex]
    refine AAj (fun h=>Zq (ABb (a:= -last) rfl) fun x hx=>Zm ?_) (fun h=>Zm ?_)
    · rw [hx,h];rfl
    · rw [if_neg h]
theorem AY9 {a b D:Nat} (hG:2 * (D * D) < ADr) (ha:a<=D) (hb:b<=D):a * b < ADr:=by
 have:=Nat.mul_le_mul ha hb;omega
theorem Ara {a D:Nat} (hG:2 * (D * D) < ADr) (ha:a<=D):a < ADr:=by
 rcases Nat.eq_zero_or_pos D with h | h
 ·subst h;have:0 < ADr:=by decide
  omega
 ·have h2:=Nat.mul_le_mul h (Nat.le_refl D);omega
theorem AYq {fuel D:Nat} {a b:Int} (hG:2 * (D * D) < ADr) (ha:a.natAbs<=D) (hb:b.natAbs<=D):ARe fuel a b=some (a * b):=if_pos (AY9 hG ha hb)
theorem Acn {D:Nat} {a b:Int} (hG:2 * (D * D) < ADr) (ha:a.natAbs<=D) (hb:b.natAbs<=D):(a * b).natAbs < ADr:=by rw [Int.natAbs_mul];exact AY9 hG ha hb
theorem Aod {D:Nat} {a b c d:Int} (hG:2 * (D * D) < ADr) (ha:a.natAbs<=D) (hb:b.natAbs<=D) (hc:c.natAbs<=D) (hd:d.natAbs<=D):(a * b - c * d).natAbs < ADr:=by
 have h1:=Nat.mul_le_mul ha hb;have h2:=Nat.mul_le_mul hc hd;rw [<- Int.natAbs_mul] at h1 h2;omega
theorem Arb {fuel n M N:Nat} {F:Z1} (hM:1<=M) (hG:2 * (dBd M (N + 1) * dBd M (N + 1)) < ADr) (hnN:n<=N) (hn:n<=16) (hb:∀ i j,(F i j).natAbs<=M) (hf:17 < fuel):ABe fuel (tab n n F)=some (det n F):=by
 apply ok_eq;unfold ABe;refine Zq (ABb (Adu (by rw [AAp];omega) (fun z hz=>by rw [AU4 z hz];omega) (by rw [AAp];omega))) fun A hA=>?_;subst hA;refine Zq (Q:=(· =1)) ⟨1,if_pos Zh,rfl⟩ fun one h1=>?_;subst h1;have hD:dBd M n<=dBd M (N + 1):=AOz hM Zh;have Ap:dBd M (n + 1)<=dBd M (N + 1):=AOz hM Zh;refine Zq (AA9 (fun k s=> ∃ G last neg,s=(neg,((k:Int),tab n n G,last))/\AV7 M F n k G last neg) n (Q:=fun ex=>match ex with | .inl e=>e=det n F | .inr (neg,last)=>det n F=if neg then -last else last) ⟨F,1,false,rfl,Aaz hb⟩ Zh fun k s hk hI=>?_) fun ex hex=>?_
 ·obtain ⟨G,last,neg,rfl,hB⟩:=hI;unfold AEp;dsimp only;rw [AAp];refine AAj (fun h=>?_) (fun h=>Zm ?_)
  ·have hk':k < n:=by omega
   refine Zq (Q:=fun ex=>match ex with | .inl e=>e=det n F | .inr (neg',a',last')=> ∃ G',a'=tab n n G'/\AV7 M F n (k + 1) G' last' neg') ?_ fun ex hex=>?_
   ·refine Zq (Q:=fun (e:Int)=> ∃ p:Nat,e=p/\k<=p/\p<=n/\(∀ i,k<=i->i < p->G i k=0)/\(p < n->G p k≠0)) (Zq (AA9 (fun j (s:Int)=>s=((k + j:Nat):Int)/\k + j<=n/\ ∀ i,k<=i->i < k + j->G i k=0) (n - k) (Q:=fun (e:Int)=> ∃ p:Nat,e=p/\k<=p/\p<=n/\(∀ i,k<=i->i < p->G i k=0)/\(p < n->G p k≠0)) ⟨rfl,Zh,fun i h1 h2=>by omega⟩ Zh fun j s hj hJ=>?_) fun e he=>Zm he) fun e he=>?_
    ·obtain ⟨rfl,hjn,hz⟩:=hJ;unfold AEm;rw [AAp];refine Zq (Q:=fun ex=>match ex with | .inl _=>k + j < n/\G (k + j) k=0 | .inr _=>k + j < n->G (k + j) k≠0) (AAj (fun h2=>AAs (AAz Zh) rfl (AAs (AAq Zh) rfl (Zq (ABb (a:=AF6 (G (k + j) k)) rfl) fun sg hsg=>AAj (fun h3=>Zm ⟨Zh,?_⟩) fun h3=>Zm fun _=>?_))) fun h2=>Zm fun h3=>by omega) fun ex hex=>?_
     ·subst hsg;exact AXn.1 h3
     ·subst hsg;exact fun h4=>h3 (AXn.2 h4)
     ·cases ex with
      | inl u=>exact Zm ⟨Zh,by rw [wk Zh];omega,Zh,fun i h1 h2=>by
          rcases Nat.lt_or_ge i (k + j) with h3 | h3
          · exact hz i h1 h3
          · obtain rfl:i=k + j:=by omega
            exact hex.2⟩
      | inr u=>exact Zm ⟨k + j,rfl,Zh,hjn,hz,hex⟩
    ·obtain ⟨p,rfl,hkp,hpn,hz,hp⟩:=he;refine AAj (fun h2=>Zm ?_) (fun h2=>?_)
     ·obtain rfl:p=n:=by omega
      exact (Acl hB hk' hz).symm
     ·have hp':p < n:=by omega
      refine Zq (Q:=fun (r:Bool × List (List Int))=> ∃ G',r.2=tab n n G'/\AV7 M F n k G' last r.1/\G' k k≠0) (AAj (fun h3=>AAs (AAz Zh) rfl (AAs (AAz Zh) rfl (Zm ⟨AEh G p k,?_,Acj hB Zh hp',?_⟩))) fun h3=>Zm ⟨G,rfl,hB,?_⟩) fun r hr=>?_
      ·dsimp only;rw [ABx,ABx];show ((tab n n G).set p (AB3 n (G k))).set k (AB3 n (G p))=_;rw [show AB3 n (G k)=(List.range n).map (G k) from rfl,show AB3 n (G p)=(List.range n).map (G p) from rfl,AKy,AKy];rfl
      ·rw [AJv,if_pos rfl];exact hp hp'
      ·obtain rfl:p=k:=by omega
       exact hp hp'
      ·obtain ⟨Aq,a2⟩:=r;obtain ⟨G2,Ag,Af,hne⟩:=hr;dsimp only at Ag Af ⊢;subst Ag;have hlast:=Acm hM Af Zh;have habs:∀ i j,k<=i->i < n->k<=j->j < n->(G2 i j).natAbs<=dBd M (N + 1):=fun i j h1 h2 h3 h4=>Nat.le_trans (Afp hM Af hk' h1 h2 h3 h4).1 hD;have hl':last.natAbs<=dBd M (N + 1):=Nat.le_trans hlast.2 hD;rw [wk Zh];refine Zq (AA9 (fun i s=>s=(((k + 1 + i:Nat):Int),tab n n (bF k G2 last (k + 1 + i) (k + 1)))/\k + 1 + i<=n) (n - (k + 1)) (Q:=(· =tab n n (bF k G2 last n (k + 1)))) ⟨by rw [Nat.add_zero,Aa0];simp,Zh⟩ Zh fun i s hi hI=>?_) fun a3 Ah=>?_
       ·obtain ⟨rfl,hin⟩:=hI;unfold AEo;dsimp only;rw [AAp];obtain ⟨q,hq⟩:∃ q,k + 1 + i=q:=⟨_,rfl⟩;rw [hq] at hin ⊢;refine AAj (fun h3=>?_) (fun h3=>Zm ?_)
        ·have hqn:q < n:=by omega
         rw [wk Zh];refine Zq (AA9 (fun j s=>s=(((k + 1 + j:Nat):Int),tab n n (bF k G2 last q (k + 1 + j)))/\k + 1 + j<=n) (n - (k + 1)) (Q:=(· =tab n n (bF k G2 last q n))) ⟨AA3,Zh⟩ Zh fun j s hj hJ=>?_) fun a4 Ai=>Zm ?_
         ·obtain ⟨rfl,hjn⟩:=hJ;unfold AEn;dsimp only;rw [AAp];obtain ⟨c,hc⟩:∃ c,k + 1 + j=c:=⟨_,rfl⟩;rw [hc] at hjn ⊢;refine AAj (fun h4=>?_) (fun h4=>Zm ?_)
          ·have hcn:c < n:=by omega
           refine AAs (AAz hqn) rfl (AAs (AAz hk') rfl (AAs (AAq hk') rfl (AAs (AAq hcn) rfl ?_)));rw [Aa1,An9];refine Zq (ABb (AYq hG (habs _ _ Zh Zh Zh Zh) (habs _ _ Zh Zh Zh Zh))) fun x1 Aj=>AAs (AAq hk') rfl (AAs (AAq hcn) rfl ?_);subst Aj;rw [An8,Aa1];refine Zq (ABb (AYq hG (habs _ _ Zh Zh Zh Zh) (habs _ _ Zh Zh Zh Zh))) fun x2 Ak=>?_;subst Ak;refine Zq (Q:=(· =G2 k k * G2 q c - G2 q k * G2 k c)) ⟨_,if_pos ⟨Acn hG (habs _ _ Zh Zh Zh Zh) (habs _ _ Zh Zh Zh Zh),Acn hG (habs _ _ Zh Zh Zh Zh) (habs _ _ Zh Zh Zh Zh)⟩,rfl⟩ fun x3 Am=>?_
           ·subst Am;refine Zq (Q:=(· =bQ k G2 last q c)) ?_ fun x4 Ao=>Zm ⟨Zh,?_,Zh⟩
            ·unfold ACp AS4;rw [if_pos ⟨Aod hG (habs _ _ Zh Zh Zh Zh) (habs _ _ Zh Zh Zh Zh) (habs _ _ Zh Zh Zh Zh) (habs _ _ Zh Zh Zh Zh),Ara hG hl',hlast.1⟩];exact ⟨_,rfl,rfl⟩
            ·subst Ao;rw [wk Zh,AWr,Ahk k G2 last Zh Zh];congr 1
             ·omega
             ·rw [<- Nat.add_assoc,hc]
          ·obtain rfl:c=n:=by omega
           rfl
         ·subst Ai;refine ⟨Zh,?_,Zh⟩;rw [wk Zh];congr 1
          ·omega
          ·refine AM7 fun r c hr hc=>?_;rw [Ahj k n G2 last q hc,<- Nat.add_assoc,hq]
        ·obtain rfl:q=n:=by omega
         rfl
       ·subst Ah;refine AAs (AAz hk') rfl (AAs (AAq hk') rfl (Zm ⟨_,rfl,?_⟩));rw [Aa1];exact Ack Af hk' hne
   ·match ex,hex with
    | .inl e,hex=>exact Zm hex
    | .inr (neg',a',last'),hex=>
      obtain ⟨G',rfl,hB'⟩:=hex
      exact Zm ⟨hk',G',last',neg',by rw [wk Zh];rfl,hB'⟩
  ·obtain rfl:k=n:=by omega
   exact Afo hB
 ·match ex,hex with
  | .inl e,hex=>exact Zm hex
  | .inr (neg,last),hex=>
    dsimp only at hex ⊢
    rw [hex]
    refine AAj (fun h=>Zq (ABb (a:= -last) rfl) fun x hx=>Zm ?_) (fun h=>Zm ?_)
    · rw [hx,h];rfl
    · rw [if_neg h]
def AGr:Nat:=2 ^ 100
theorem Ai8:2 * (dBd AGr (8 + 1) * dBd AGr (8 + 1)) < ADr:=by decide
theorem AXo {fuel n:Nat} {F:Z1} (hn:n<=8) (hb:∀ i j,i < n->j < n->(F i j).natAbs<=AGr) (hf:17 < fuel):ABe fuel (tab n n F)=some (det n F):=by
 have e1:tab n n F=tab n n fun i j=>if i < n/\j < n then F i j else 0:=by
   rw [APv,APv]
   exact ABn fun i hi=>ABn fun j hj=>by rw [if_pos ⟨hi,hj⟩]
 have e2:det n F=det n fun i j=>if i < n/\j < n then F i j else 0:=AB0 fun i j hi hj=>by rw [if_pos ⟨hi,hj⟩]
 rw [e1,e2];refine Arb Zk Ai8 hn Zh (fun i j=>?_) hf;split
 ·next h=>exact hb i j h.1 h.2
 ·exact Nat.zero_le _
theorem Arc:FdT Tryz.prog 24 0 0 5:=⟨_,_,Tryz.underlying24,rfl,rfl,rfl⟩
theorem Ard:FdT Tryz.prog 24 1 1 5:=⟨_,_,Tryz.underlying24,rfl,rfl,rfl⟩
theorem Are:FdT Tryz.prog 24 2 2 22:=⟨_,_,Tryz.underlying24,rfl,rfl,rfl⟩
theorem Aoe:AgT Tryz.prog 24 4:=AWj Tryz.underlying24 rfl Zx
end Go.Proofs.YtdkldlbgcfpglaaGreatDoor
namespace Go.Proofs.YtdkldlbgcfpglaaGreatDoor
open Go Go.QF
set_option maxRecDepth 100000
set_option maxHeartbeats 4000000
def AEr (fuel:Nat) (a1:Int) (a5:LiA) (Ac Aa Ad:Int) (Ae:LiI):Option ((Int × Int × LiI) ⊕ ((Int × LiI))):=
  (if Aa < ((List.replicate (Int.toNat (w64 (1 + (Int.tmod (w64 a1) Ac)))) ([]:List Int)).length:Int) then (if 0<=(w64 (1 + (Int.tmod (w64 a1) Ac)))/\(w64 (1 + (Int.tmod (w64 a1) Ac)))<=100000000 then ((gI Ae Aa).bind fun Ao=>((gI (sI Ae Aa (List.replicate (Int.toNat (w64 (1 + (Int.tmod (w64 a1) Ac)))) (0:Int))) Aa).bind fun Ag=>(((((if (a5.length:Int)<=Ad then (some ( (0,Ad))) else ((gI a5 (w64 ((w64 (Ad + 1)) - 1))).bind fun Ah=>(some ( ((w64 Ah),(w64 (Ad + 1))))))):Option (Int × Int)).bind fun (Ai,Aj)=>(some ( ((Int.tmod (w64 (IntKind.wrap .u8 Ai)) 6),Aj)))):Option (Int × Int)).bind fun (Ak,Am)=>((gI Ag Aa).bind fun Ap=>(some (Sum.inl ((w64 (Aa + 1)),Am,(sI (sI Ae Aa (List.replicate (Int.toNat (w64 (1 + (Int.tmod (w64 a1) Ac)))) (0:Int))) Aa (sI Ag Aa (w64 (1 + Ak))))))))))) else none) else (some (Sum.inr<| (Ad,Ae))))
def AG5 (fuel:Nat) (a5:LiA) (Ab Aa Ac:Int) (Ad:LiI):Option ((Int × Int × LiI) ⊕ ((Int × LiI))):=
  (if Aa < Ab then ((gI Ad Ab).bind fun Ae=>(((if (a5.length:Int)<=Ac then (some ( (0,Ac))) else ((gI a5 (w64 ((w64 (Ac + 1)) - 1))).bind fun Ai=>(some ( ((w64 Ai),(w64 (Ac + 1))))))):Option (Int × Int)).bind fun (Af,Aj)=>((gI Ae Aa).bind fun Ao=>((gI (sI Ad Ab (sI Ae Aa (Int.tmod Af 3))) Aa).bind fun Ah=>((gI (sI Ad Ab (sI Ae Aa (Int.tmod Af 3))) Ab).bind fun Ak=>((gI Ak Aa).bind fun Am=>((gI Ah Ab).bind fun Ap=>(some (Sum.inl ((w64 (Aa + 1)),Aj,(sI (sI Ad Ab (sI Ae Aa (Int.tmod Af 3))) Aa (sI Ah Ab Am)))))))))))) else (some (Sum.inr<| (Ac,Ad))))
def AEs (fuel:Nat) (a5:LiA) (Ae:LiI) (Aa Ab:Int) (Ac:LiI):Option ((Int × Int × LiI) ⊕ ((Int × LiI))):=
  (if Aa < (Ae.length:Int) then ((iter (fun s=>AG5 fuel a5 Aa s.1 s.2.1 s.2.2) fuel (0,Ab,Ac)).bind (fun ((Af,Ag):Int × LiI)=>(some (Sum.inl ((w64 (Aa + 1)),Af,Ag))))) else (some (Sum.inr<| (Ab,Ac))))
def AD8 (fuel:Nat) (a1:Int) (a5:LiA) (Ac Aa Ad:Int) (Ae:LiI):Option ((Int × Int × LiI) ⊕ ((Int × LiI))):=
  (if Aa < ((List.replicate (Int.toNat (w64 (1 + (Int.tmod (w64 a1) Ac)))) ([]:List Int)).length:Int) then (if 0<=(w64 (1 + (Int.tmod (w64 a1) Ac)))/\(w64 (1 + (Int.tmod (w64 a1) Ac)))<=100000000 then ((gI Ae Aa).bind fun Ao=>((gI (sI Ae Aa (List.replicate (Int.toNat (w64 (1 + (Int.tmod (w64 a1) Ac)))) (0:Int))) Aa).bind fun Ag=>(((((if (a5.length:Int)<=Ad then (some ( (0,Ad))) else ((gI a5 (w64 ((w64 (Ad + 1)) - 1))).bind fun Ah=>(some ( ((w64 Ah),(w64 (Ad + 1))))))):Option (Int × Int)).bind fun (Ai,Aj)=>(some ( ((Int.tmod (w64 (IntKind.wrap .u8 Ai)) 9),Aj)))):Option (Int × Int)).bind fun (Ak,Am)=>((gI Ag Aa).bind fun Ap=>(some (Sum.inl ((w64 (Aa + 1)),Am,(sI (sI Ae Aa (List.replicate (Int.toNat (w64 (1 + (Int.tmod (w64 a1) Ac)))) (0:Int))) Aa (sI Ag Aa (w64 (1 + Ak))))))))))) else none) else (some (Sum.inr<| (Ad,Ae))))
def AD9 (fuel:Nat) (a1:Int) (a5:LiA) (Ac Aa Ad:Int) (Ae:LiI):Option ((Int × Int × LiI) ⊕ ((Int × LiI))):=
  (if Aa < ((List.replicate (Int.toNat (w64 (1 + (Int.tmod (w64 a1) Ac)))) ([]:List Int)).length:Int) then (if 0<=(w64 (1 + (Int.tmod (w64 a1) Ac)))/\(w64 (1 + (Int.tmod (w64 a1) Ac)))<=100000000 then ((gI Ae Aa).bind fun Ao=>((gI (sI Ae Aa (List.replicate (Int.toNat (w64 (1 + (Int.tmod (w64 a1) Ac)))) (0:Int))) Aa).bind fun Ag=>(((((if (a5.length:Int)<=Ad then (some ( (0,Ad))) else ((gI a5 (w64 ((w64 (Ad + 1)) - 1))).bind fun Ah=>(some ( ((w64 Ah),(w64 (Ad + 1))))))):Option (Int × Int)).bind fun (Ai,Aj)=>(some ( ((Int.tmod (w64 (IntKind.wrap .u8 Ai)) 1),Aj)))):Option (Int × Int)).bind fun (Ak,Am)=>((gI Ag Aa).bind fun Ap=>(some (Sum.inl ((w64 (Aa + 1)),Am,(sI (sI Ae Aa (List.replicate (Int.toNat (w64 (1 + (Int.tmod (w64 a1) Ac)))) (0:Int))) Aa (sI Ag Aa (w64 (1 + Ak))))))))))) else none) else (some (Sum.inr<| (Ad,Ae))))
def AEa (fuel:Nat) (a1:Int) (a5:LiA) (Ac Aa Ad:Int) (Ae:LiI):Option ((Int × Int × LiI) ⊕ ((Int × LiI))):=
  (if Aa < ((List.replicate (Int.toNat (w64 (1 + (Int.tmod (w64 a1) Ac)))) ([]:List Int)).length:Int) then (if 0<=(w64 (1 + (Int.tmod (w64 a1) Ac)))/\(w64 (1 + (Int.tmod (w64 a1) Ac)))<=100000000 then ((gI Ae Aa).bind fun Ao=>((gI (sI Ae Aa (List.replicate (Int.toNat (w64 (1 + (Int.tmod (w64 a1) Ac)))) (0:Int))) Aa).bind fun Ag=>(((((if (a5.length:Int)<=Ad then (some ( (0,Ad))) else ((gI a5 (w64 ((w64 (Ad + 1)) - 1))).bind fun Ah=>(some ( ((w64 Ah),(w64 (Ad + 1))))))):Option (Int × Int)).bind fun (Ai,Aj)=>(some ( ((Int.tmod (w64 (IntKind.wrap .u8 Ai)) 2),Aj)))):Option (Int × Int)).bind fun (Ak,Am)=>((gI Ag Aa).bind fun Ap=>(some (Sum.inl ((w64 (Aa + 1)),Am,(sI (sI Ae Aa (List.replicate (Int.toNat (w64 (1 + (Int.tmod (w64 a1) Ac)))) (0:Int))) Aa (sI Ag Aa (w64 (1 + Ak))))))))))) else none) else (some (Sum.inr<| (Ad,Ae))))
def AD0 (fuel:Nat) (a1 a2:Int) (a5 a9:LiA) (Aa:Int):Option LiI:=
  (if Aa≠0 then (((((if (Int.tmod a2 8)=0 then (some ( (decide ((Int.tmod a2 8)=0)))) else (if (Int.tmod a2 8)=1 then (some ( (decide ((Int.tmod a2 8)=1)))) else (if (Int.tmod a2 8)=2 then (some ( (decide ((Int.tmod a2 8)=2)))) else (some ( (decide ((Int.tmod a2 8)=3))))))):Option ((Bool))).bind (fun (Ak:Bool)=>(if Ak=true then (((((if 0<=(w64 (1 + (Int.tmod (w64 a1) Aa)))/\(w64 (1 + (Int.tmod (w64 a1) Aa)))<=100000000 then ((iter (fun s=>AEr fuel a1 a5 Aa s.1 s.2.1 s.2.2) fuel (0,0,(List.replicate (Int.toNat (w64 (1 + (Int.tmod (w64 a1) Aa)))) ([]:List Int)))).bind (fun ((Am,Ao):Int × LiI)=>(some ( (Ao,Am))))) else none):Option (LiI × Int)).bind fun (Ae,Ap)=>((iter (fun s=>AEs fuel a5 Ae s.1 s.2.1 s.2.2) fuel (0,Ap,Ae)).bind (fun ((Aq,Ar):Int × LiI)=>(some ( (Ar,Aq)))))):Option (LiI × Int)).bind fun (Au,Av)=>(some ( (Au,Av)))) else (if (Int.tmod a2 8)=4 then ((AFy fuel (w64 (1 + (Int.tmod (w64 a1) Aa))) false).bind fun Af=>((gI Af 0).bind fun Ag=>((gI Ag 0).bind fun Aw=>(((((if (a5.length:Int)<=0 then (some ( (0,0))) else ((gI a5 (w64 ((w64 (0 + 1)) - 1))).bind fun Ax=>(some ( ((w64 Ax),(w64 (0 + 1))))))):Option (Int × Int)).bind fun (Ay,Az)=>(some ( ((Int.tmod (w64 (IntKind.wrap .u8 Ay)) 3),Az)))):Option (Int × Int)).bind fun (A3,A4)=>(some ( ((sI Af 0 (sI Ag 0 (w64 (Aw + A3)))),A4))))))) else (if (Int.tmod a2 8)=5 then ((AFy fuel (w64 (1 + (Int.tmod (w64 a1) Aa))) true).bind fun Ah=>((gI Ah (w64 ((w64 (1 + (Int.tmod (w64 a1) Aa))) - 1))).bind fun Ai=>((gI Ai (w64 ((w64 (1 + (Int.tmod (w64 a1) Aa))) - 1))).bind fun A5=>(((((if (a5.length:Int)<=0 then (some ( (0,0))) else ((gI a5 (w64 ((w64 (0 + 1)) - 1))).bind fun A6=>(some ( ((w64 A6),(w64 (0 + 1))))))):Option (Int × Int)).bind fun (A7,A8)=>(some ( ((Int.tmod (w64 (IntKind.wrap .u8 A7)) 2),A8)))):Option (Int × Int)).bind fun (A9,Ba)=>(some ( ((sI Ah (w64 ((w64 (1 + (Int.tmod (w64 a1) Aa))) - 1)) (sI Ai (w64 ((w64 (1 + (Int.tmod (w64 a1) Aa))) - 1)) (w64 (A5 + A9)))),Ba))))))) else (if (Int.tmod a2 8)=6 then (((if 0<=(w64 (1 + (Int.tmod (w64 a1) Aa)))/\(w64 (1 + (Int.tmod (w64 a1) Aa)))<=100000000 then ((iter (fun s=>AD8 fuel a1 a5 Aa s.1 s.2.1 s.2.2) fuel (0,0,(List.replicate (Int.toNat (w64 (1 + (Int.tmod (w64 a1) Aa)))) ([]:List Int)))).bind (fun ((Bb,Bc):Int × LiI)=>(some ( (Bc,Bb))))) else none):Option (LiI × Int)).bind fun (Be,Bf)=>(some ( (Be,Bf)))) else (((if 0<=(w64 (1 + (Int.tmod (w64 a1) Aa)))/\(w64 (1 + (Int.tmod (w64 a1) Aa)))<=100000000 then ((iter (fun s=>AD9 fuel a1 a5 Aa s.1 s.2.1 s.2.2) fuel (0,0,(List.replicate (Int.toNat (w64 (1 + (Int.tmod (w64 a1) Aa)))) ([]:List Int)))).bind (fun ((Bg,Bh):Int × LiI)=>(some ( (Bh,Bg))))) else none):Option (LiI × Int)).bind fun (Bi,Bj)=>(some ( (Bi,Bj)))))))))):Option ((LiI × Int))).bind (fun ((Aj,Bl):LiI × Int)=>((AH0 fuel Aj).bind fun Bm=>(if (!Bm)=true then (((if 0<=(w64 (1 + (Int.tmod (w64 a1) Aa)))/\(w64 (1 + (Int.tmod (w64 a1) Aa)))<=100000000 then ((iter (fun s=>AEa fuel a1 a5 Aa s.1 s.2.1 s.2.2) fuel (0,Bl,(List.replicate (Int.toNat (w64 (1 + (Int.tmod (w64 a1) Aa)))) ([]:List Int)))).bind (fun ((Bn,Bo):Int × LiI)=>(some ( (Bo,Bn))))) else none):Option (LiI × Int)).bind fun (Bp,Br)=>(some Bp)) else (some Aj))))) else none)
theorem APf {fuel:Nat} {h:Zu} {a1 a2:Int} {Ab:Value} {a5:LiA} {B6:Value} {a9:LiA} {Am:Int} {r:LiI} (H4:SlC (cI .i8) h Ab a5) (H8:SlC (cI .i8) h B6 a9) (hp:AD0 fuel a1 a2 a5 a9 Am=some r):AAv Tryz.prog 26 #[(.agg #[(.int .u8 a1),(.int .u8 a2),Ab,B6]),(.int .i64 Am)] h (fun x h'=>Ext h h'/\ ∃ (x0:Value) (F0:List Nat) (Hf:List LnA) (Hg:List Value),x=x0/\ACs (cI .i64) 60 2 h' F0 Hf Hg x0 r/\Sp h' h.size [F0]):=by
 unfold AD0 at hp;refine cwf (l:=[_,_]) Tryz.func26 rfl rfl (Zn (AG8 (Kst.k0 h) [(.int .u8 a1),(.int .u8 a2),Ab,B6] fun Tu Tv Tw B7=>AA4 (ADa Are AQ3 (B7.b p0) 2 rfl ?_)));obtain ⟨_,_,_,Hh⟩:=(H4.ext B7.x).shape;refine ADl (v:=(.agg #[Ab,(.int .i64 0)])) (fun _=>by subst Hh;kernel_rfl) (AG8 B7 [Ab,(.int .i64 0)] fun Aa Tx Ty Ax=>AA4 (ADa Arc Asn (Ax.b p1) 0 rfl (AMr AS0 ASi rfl (Zj ?_))));obtain ⟨Hj,Hk⟩:=ifN hp;refine ADc rfl rfl Hj (AA0 rfl rfl (AA4 (Zt ?_)));obtain ⟨Hl,Hm,Dy⟩:=Zp Hk;refine AKb 147573952589676150912 (fun x:(LiI) × (Value) × LnA × LnN × LvA × (Int)=>[(7,x.2.1)]) (fun x h'=>( (x.1,x.2.2.2.2.2))=Hl/\Kst h h' (aO2 (cI .i64) 60 2 x.2.2.1 x.2.2.2.1 x.2.2.2.2.1 x.2.1 x.1 :: ((AHa Ax.L [0]).set 0 (aB 105 Aa [Ab,(.int .i64 x.2.2.2.2.2)])))) ?_ ?_
 ·refine Zn (ADa Ard Asn (Ax.b p1) 1 rfl (ADc rfl rfl Zk (Zr (Zs ?_))));obtain ⟨Hn,Dz,B8⟩:=Zp Hm;refine AKb 520093696 (fun x:(Bool)=>[(24,(.bool x))]) (fun x h'=>( x)=Hn/\Kst h h' (AHa Ax.L [0])) ?_ ?_
  ·refine Zn (AB2 rfl rfl (Zt (⟨_,rfl,fun B9=>?_,fun B9=>?_⟩)))
   ·refine Zv (q_t ?_);exact ⟨((decide ((Int.tmod a2 8)=0)):(Bool)),⟨Zl (AA5 Dz B9),Ax.sel [0] Zk⟩,rfl,trivial⟩
   ·refine Zn (AB2 rfl rfl (Zt ?_));have D0:=AA6 Dz B9;refine ⟨_,rfl,fun Ca=>?_,fun Ca=>?_⟩
    ·refine Zv (q_t ?_);exact ⟨((decide ((Int.tmod a2 8)=1)):(Bool)),⟨Zl (AA5 D0 Ca),Ax.sel [0] Zk⟩,rfl,trivial⟩
    ·refine Zn (AB2 rfl rfl (Zt ?_));have D1:=AA6 D0 Ca;refine ⟨_,rfl,fun Cb=>?_,fun Cb=>?_⟩
     ·refine Zv (q_t ?_);exact ⟨((decide ((Int.tmod a2 8)=2)):(Bool)),⟨Zl (AA5 D1 Cb),Ax.sel [0] Zk⟩,rfl,trivial⟩
     ·refine AAa (AB2 rfl rfl (Zt ?_));exact ⟨((decide ((Int.tmod a2 8)=3)):(Bool)),⟨Zl (AA6 D1 Cb),Ax.sel [0] Zk⟩,rfl,trivial⟩
  rintro Ho Hq Hr ⟨Hs,Ao⟩;(try dsimp only [Kst.L,List.set,AHa,AKo] at Ao);refine (show W _ _ _ (setL [(24,(.bool Ho))] (mix _ Hq _)) Hr from ?_);subst Hs;(try dsimp only at B8);refine ⟨_,rfl,fun Cd=>?_,fun Cd=>?_⟩
  ·refine AAa (Zj (Zj ?_));obtain ⟨Ht,Hu,D2⟩:=Zp (ifT B8 Cd);refine AAy (K':=(fun xr h'=> ∃ x:(LiI) × (Value) × LnA × LnN × LvA × (Int),(x.1,x.2.2.2.2.2)=Ht/\xr=x.2.1/\Kst h h' (aO2 (cI .i64) 60 2 x.2.2.1 x.2.2.2.1 x.2.2.2.2.1 x.2.1 x.1 :: (Ao.L.set 0 (aB 105 Aa [Ab,(.int .i64 x.2.2.2.2.2)]))))) trivial rfl ?_ fun D3 Tz Hv=>?_
   ·refine cwf (l:=[_,_]) Tryz.func63 rfl rfl (Zn (AA4 (Zj (Zj ?_))));obtain ⟨Hw,Hx,D4⟩:=Zp Hu;refine AAy (K':=(fun xr h'=> ∃ x:(LiI) × (Value) × LnA × LnN × LvA × (Int),(x.1,x.2.2.2.2.2)=Hw/\xr=x.2.1/\Kst h h' (aO2 (cI .i64) 60 2 x.2.2.1 x.2.2.2.1 x.2.2.2.2.1 x.2.1 x.1 :: (Ao.L.set 0 (aB 105 Aa [Ab,(.int .i64 x.2.2.2.2.2)]))))) trivial rfl ?_ fun Ba T0 Hy=>?_
    ·refine cwf (l:=[_,_,_]) Tryz.func66 rfl rfl (Zn (AA4 (Zj ?_)));obtain ⟨Hz,H5⟩:=ifN Hx;refine AR7 (cI .i64) 2 AAf AMd rfl trivial tt2 rfl rfl Zk Hz fun Ia Ib Ic D5 T3 Id Ie If=>Zt (Zo (Zn (Zj ?_)));have Ce:=Ao.no2 Ie If Id;refine AA8 AAf rfl (Ce.o2 p0).rd (Zj (Zr (Zs (AFj 4294959360 (fun x:(Int) × (Int) × (LiI) × LnA × LnN × LvA=>(x.1,x.2.1,x.2.2.1)) ((0,0,(List.replicate (Int.toNat (w64 (1 + (Int.tmod (w64 a1) Am)))) ([]:List Int)),Ia,Ib,Ic):(Int) × (Int) × (LiI) × LnA × LnN × LvA) H5 (fun x=>[(13,(.int .i64 x.1))]) (fun x=>(Ce.L.set 0 (aO2 (cI .i64) 60 2 x.2.2.2.1 x.2.2.2.2.1 x.2.2.2.2.2 D5 x.2.2.1)).set 1 (aB 105 Aa [Ab,(.int .i64 x.2.1)])) Ce ⟨rfl,trivial⟩ ?_))));rintro ⟨Cf,Bb,Ih,Ii,Ij,Ik⟩ Il Im T4 Cg Bc Io;(try dsimp only [Kst.L,List.set,AHa,AKo] at Cg);refine (show W _ _ _ (setL [(13,(.int .i64 Cf))] (mix _ Il _)) Im from ?_);(try dsimp only at Bc);unfold AEr at Bc;refine Zn (AAu rfl rfl (Zr (Zo (⟨_,rfl,fun Ch=>?_,fun Ch=>?_⟩))))
     ·refine Zv (q_t (Zo (Zs (Zn (Zj (AA4 (Zj (Zj (Zj ?_)))))))));obtain ⟨Ip,Iq⟩:=ifN (AA5 Bc Ch);refine AP6 (c:=(cI .i64)) (a:=0) AAg AIu rfl rfl (fun _=>rfl) rfl trivial tt2 rfl rfl Zk Ip fun T5 T6 T7 Ir Is It Iu=>?_;have A3:=Cg.no Is (AE5 It Iu) Ir;obtain ⟨T8,D6,Iv⟩:=Zp Iq;refine AC2 AAf rfl (A3.o2 p1) rfl D6 fun T9 Ua Iw Ub Uc=>AR6 AA2 (A3.o2 p1) D6 Iw rfl rfl (A3.o p0) (A3.dj p0 p1 Zk) fun Ap Ix Iy Iz=>Zr (ACd (fun h'=>UpT ([Aa] ++ []) Ap h') Zx ?_);have Af:=A3.m2 p0 p1 Zk Iy Ix (fun z hz=> .inl (Iz z hz));have Ci:UpT ([Aa] ++ []) Ap Ap:=UpT.start (ACu (AGa (Af.b p2) rfl) all_nil);refine Zj (Zj ?_);obtain ⟨Ud,Cj,I0⟩:=Zp Iv;refine AC2 AAf rfl (Af.o2 p1) rfl Cj fun Ue Uf I1 I2 I3=>ACf AA2 rfl Ci (fun h' hb=>AMb I3 hb (ASm (Af.dj p1 p2 Zk _ (by simp [aO,aO2,I1])) ASn)) (Zj (Zj (Zj ?_)));obtain ⟨I6,I7,D7⟩:=Zp I0;have I9:UpT ([Aa] ++ []) Ap Ap:=UpT.start (ACu (AGa (Af.b p2) rfl) all_nil);refine AAy (K':=(fun xr h'=> ∃ x:(Int) × (Int),(x.1,x.2)=I6/\xr=(.int .i64 x.1)/\Kst h h' ((AHa Af.L [1,2]).set 1 (aB 105 Aa [Ab,(.int .i64 x.2)]))/\UpT ([Aa] ++ []) Ap h')) Ci rfl ?_ fun Ug Uh Ja=>?_
      ·refine cwf (l:=[_,_]) Tryz.func65 rfl rfl (Zn (AA4 (Zj ?_)));obtain ⟨Jc,D8,D9⟩:=Zp I7;have Ea:UpT ([Aa] ++ []) Ap Ap:=UpT.start (ACu (AGa (Af.b p2) rfl) all_nil);refine AAy (K':=(fun xr h'=> ∃ x:(Int) × (Int),(x.1,x.2)=Jc/\xr=(.int .i64 x.1)/\Kst h h' ((AHa Af.L [1,2]).set 1 (aB 105 Aa [Ab,(.int .i64 x.2)]))/\UpT ([Aa] ++ []) Ap h')) trivial rfl ?_ fun Ui Uj Je=>?_
       ·refine cwf (l:=[_]) Tryz.func119 rfl rfl (Zn (Zt (Zo (Zo (AF8 (Zj (ACy rfl (ACh AC0 rfl (AA7 ABt rfl ((Af.b p2).cell (i:=1) rfl) (Zj (ACy rfl (ACh AJx rfl (AA7 AQ3 rfl ((Af.b p2).cell (i:=0) rfl) (ABm AR1 rfl H4 (AMf rfl rfl (Zr (⟨_,rfl,fun Ck=>?_,fun Ck=>?_⟩)))))))))))))))))
        ·refine Zn (Zt (Zw (AAc (⟨_,Zy,((0,Bb):(Int) × (Int)),?_,rfl,?_,?_⟩))))
         ·exact Zl (AA5 D8 Ck)
         ·exact Af.sel [1,2] Zk
         ·exact Ea
        ·refine Zv (q_t (Zn (Zj (ACy rfl (ACh AC0 rfl (AA7 ABt rfl ((Af.b p2).cell (i:=1) rfl) (AA0 rfl rfl (ACy rfl (ACh AC0 rfl (AQh [Ab,(.int .i64 (w64 (Bb + 1)))] ABt rfl rfl rfl (Af.b p2) (Nat.le_of_ble_eq_true rfl) rfl fun Uk Eb Ec=>Zr (Zo (AF8 (Zj (ACy rfl (ACh AJx rfl ?_)))))))))))))));have Be:=Af.sb p2 Ec Eb rfl;refine AA7 AQ3 rfl ((Be.b p2).cell (i:=0) rfl) (Zj (ACy rfl (ACh AC0 rfl (AA7 ABt rfl ((Be.b p2).cell (i:=1) rfl) (AFg rfl rfl ?_)))));obtain ⟨Jf,Jg,Jh⟩:=Zp (AA6 D8 Ck);refine AIw (c:=(cI .i8)) AR1 rfl H4 rfl Jg fun Ul Um Un Ji Jj=>?_;obtain rfl:=Ji;refine AA7 AZ9 rfl (AAx (Jj 0 _ rfl) Be.x) (AMr Aaa AKx rfl (Zt (Zw (⟨_,Zy,(((w64 Jf),(w64 (Bb + 1))):(Int) × (Int)),?_,rfl,?_,?_⟩))))
         ·exact Zl Jh
         ·exact Be.sel [1,2] Zk
         ·exact (Ea.then (Eb.stA Ec (AGa (Af.b p2) rfl) rfl) (ANf rfl))
       obtain ⟨⟨Jk,Jl⟩,Jm,rfl,Ed,Jn⟩:=Je;(try dsimp only [Kst.L,List.set,AHa,AKo] at Ed);refine ⟨trivial,?_⟩;subst Jm;(try dsimp only at D9);refine AMr AKx AS0 rfl (AMr AS0 ASi rfl (Zj (ADc rfl rfl Zk (Zt (Zw (⟨_,Zy,(((Int.tmod (w64 (IntKind.wrap .u8 Jk)) 6),Jl):(Int) × (Int)),?_,rfl,?_,?_⟩))))))
       ·exact Zl D9
       ·exact Ed
       ·exact (I9.then Jn (ACu (ANf rfl) all_nil))
      obtain ⟨⟨Jo,Uo⟩,Jp,rfl,Cm,Jq⟩:=Ja;(try dsimp only [Kst.L,List.set,AHa,AKo] at Cm);refine ⟨(Ci.then Jq (ACu (ANf rfl) all_nil)),?_⟩;subst Jp;(try dsimp only at D7);refine AA0 rfl rfl ?_;obtain ⟨Up,Ee,Jr⟩:=Zp D7;refine AE6 (m:=Cf) AAg rfl (Af.o2 p1) I2 Cj rfl Ee fun Uq Js=>ANk (m:=Cf) (AM8 AAk rfl rfl rfl) (Cm.o2 p0) Js Cj Ee (show ((cI .i64)).rep _ (w64 (1 + Jo)) _ from rfl) fun Ur Jt Ju=>AAn (q_b (q_t (AAa (AA0 rfl rfl (Zj (Zr ?_))))));exact ⟨(_,_,_,_,_,_),(Zl Jr).symm,(Cm.uO2 p0 Ju Jt),rfl,trivial⟩
     ·have Ef:=Io _ (Zl (AA6 Bc Ch)).symm;(try dsimp only at Ef);refine AAh (AAi (AAi (ABj (q_t (Zn (Zj (Zt (Zw (⟨_,Zy,((Ih,D5,Ii,Ij,Ik,Bb):(LiI) × (Value) × LnA × LnN × LvA × (Int)),?_,rfl,?_⟩)))))))))
      ·exact Zl Ef
      ·exact Cg
    obtain ⟨⟨Jv,Ba,Jw,Jx,Jy,Jz⟩,J0,rfl,Bf⟩:=Hy;(try dsimp only [Kst.L,List.set,AHa,AKo] at Bf);refine ⟨trivial,?_⟩;subst J0;(try dsimp only at D4);refine Zt (Zo (Zn (Zj (AA8 AAf rfl (Bf.o2 p0).rd (Zj (Zr (Zs (AFj 17592186036416 (fun x:(Int) × (Int) × (LiI) × LnA × LnN × LvA=>(x.1,x.2.1,x.2.2.1)) ((0,Jz,Jv,Jw,Jx,Jy):(Int) × (Int) × (LiI) × LnA × LnN × LvA) D4 (fun x=>[(13,(.int .i64 x.1))]) (fun x=>(Bf.L.set 0 (aO2 (cI .i64) 60 2 x.2.2.2.1 x.2.2.2.2.1 x.2.2.2.2.2 Ba x.2.2.1)).set 1 (aB 105 Aa [Ab,(.int .i64 x.2.1)])) Bf ⟨rfl,trivial⟩ ?_))))))));rintro ⟨Bg,Eg,Eh,Ei,Ej,Ek⟩ J1 J2 Us Bh Bi J3;(try dsimp only [Kst.L,List.set,AHa,AKo] at Bh);refine (show W _ _ _ (setL [(13,(.int .i64 Bg))] (mix _ J1 _)) J2 from ?_);(try dsimp only at Bi);unfold AEs at Bi;refine Zn (AAu rfl rfl (Zr (Zo (⟨_,rfl,fun Cn=>?_,fun Cn=>?_⟩))))
    ·refine Zv (q_t (Zo (Zs (Zn (Zj (AA4 (Zt (Zs (AFj 8796092956800 (fun x:(Int) × (Int) × (LiI) × LnA × LnN × LvA=>(x.1,x.2.1,x.2.2.1)) ((0,Eg,Eh,Ei,Ej,Ek):(Int) × (Int) × (LiI) × LnA × LnN × LvA) (AA5 Bi Cn) (fun x=>[(7,(.int .i64 x.1))]) (fun x=>(Bh.L.set 0 (aO2 (cI .i64) 60 2 x.2.2.2.1 x.2.2.2.2.1 x.2.2.2.2.2 Ba x.2.2.1)).set 1 (aB 105 Aa [Ab,(.int .i64 x.2.1)])) Bh ⟨rfl,trivial⟩ ?_)))))))));rintro ⟨El,Co,Ut,Uu,Uv,Uw⟩ J4 Az Ux Ag Bj J5;(try dsimp only [Kst.L,List.set,AHa,AKo] at Ag);refine (show W _ _ _ (setL [(7,(.int .i64 El))] (mix _ J4 _)) Az from ?_);(try dsimp only at Bj);unfold AG5 at Bj;refine Zo (Zn (Zj (Zj (AAu rfl rfl (Zr (⟨_,rfl,fun Cp=>?_,fun Cp=>?_⟩))))))
     ·refine Zv (q_t (Zo (Zs (Zo (ACd (fun h'=>UpT ([Aa] ++ []) Az h') Zx ?_)))));have Cq:UpT ([Aa] ++ []) Az Az:=UpT.start (ACu (AGa (Ag.b p1) rfl) all_nil);refine Zj (Zj ?_);obtain ⟨Uy,Cr,J6⟩:=Zp (AA5 Bj Cp);refine AC2 AAf rfl (Ag.o2 p0) rfl Cr fun Uz U0 J7 J8 J9=>ACf AA2 rfl Cq (fun h' hb=>AMb J9 hb (ASm (Ag.dj p0 p1 Zk _ (by simp [aO,aO2,J7])) ASn)) (Zj (Zj ?_));obtain ⟨Ka,Em,En⟩:=Zp J6;have Eo:UpT ([Aa] ++ []) Az Az:=UpT.start (ACu (AGa (Ag.b p1) rfl) all_nil);refine AAy (K':=(fun xr h'=> ∃ x:(Int) × (Int),(x.1,x.2)=Ka/\xr=(.int .i64 x.1)/\Kst h h' (Ag.L.set 1 (aB 105 Aa [Ab,(.int .i64 x.2)]))/\UpT ([Aa] ++ []) Az h')) Cq rfl ?_ fun U3 U8 Kb=>?_
      ·refine cwf (l:=[_]) Tryz.func119 rfl rfl (Zn (Zt (Zo (Zo (AF8 (Zj (ACy rfl (ACh AC0 rfl (AA7 ABt rfl ((Ag.b p1).cell (i:=1) rfl) (Zj (ACy rfl (ACh AJx rfl (AA7 AQ3 rfl ((Ag.b p1).cell (i:=0) rfl) (ABm AR1 rfl H4 (AMf rfl rfl (Zr (⟨_,rfl,fun Ct=>?_,fun Ct=>?_⟩)))))))))))))))))
       ·refine Zn (Zt (Zw (AAc (⟨_,Zy,((0,Co):(Int) × (Int)),?_,rfl,?_,?_⟩))))
        ·exact Zl (AA5 Em Ct)
        ·exact Ag
        ·exact Eo
       ·refine Zv (q_t (Zn (Zj (ACy rfl (ACh AC0 rfl (AA7 ABt rfl ((Ag.b p1).cell (i:=1) rfl) (AA0 rfl rfl (ACy rfl (ACh AC0 rfl (AQh [Ab,(.int .i64 (w64 (Co + 1)))] ABt rfl rfl rfl (Ag.b p1) (Nat.le_of_ble_eq_true rfl) rfl fun Va Ep Er=>Zr (Zo (AF8 (Zj (ACy rfl (ACh AJx rfl ?_)))))))))))))));have Bl:=Ag.sb p1 Er Ep rfl;refine AA7 AQ3 rfl ((Bl.b p1).cell (i:=0) rfl) (Zj (ACy rfl (ACh AC0 rfl (AA7 ABt rfl ((Bl.b p1).cell (i:=1) rfl) (AFg rfl rfl ?_)))));obtain ⟨Kc,Kd,Ke⟩:=Zp (AA6 Em Ct);refine AIw (c:=(cI .i8)) AR1 rfl H4 rfl Kd fun Vb Vc Vd Kf Kg=>?_;obtain rfl:=Kf;refine AA7 AZ9 rfl (AAx (Kg 0 _ rfl) Bl.x) (AMr Aaa AKx rfl (Zt (Zw (⟨_,Zy,(((w64 Kc),(w64 (Co + 1))):(Int) × (Int)),?_,rfl,?_,?_⟩))))
        ·exact Zl Ke
        ·exact Bl
        ·exact (Eo.then (Ep.stA Er (AGa (Ag.b p1) rfl) rfl) (ANf rfl))
      obtain ⟨⟨Kh,Ve⟩,Ki,rfl,Cu,Kj⟩:=Kb;(try dsimp only [Kst.L,List.set,AHa,AKo] at Cu);refine ⟨(Cq.then Kj (ACu (ANf rfl) all_nil)),?_⟩;subst Ki;(try dsimp only at En);refine ADc rfl rfl Zk ?_;obtain ⟨Vf,Es,Kk⟩:=Zp En;refine AE6 (m:=Bg) AAg rfl (Ag.o2 p0) J8 Cr rfl Es fun Vg Kl=>ANk (m:=Bg) (AM8 AAk rfl rfl rfl) (Cu.o2 p0) Kl Cr Es (show ((cI .i64)).rep _ (Int.tmod Kh 3) _ from rfl) fun Vh Km Kn=>Zr (AF8 (Zj (Zj ?_)));have Bm:=Cu.uO2 p0 Kn Km;obtain ⟨Vi,Et,Ko⟩:=Zp Kk;refine ABy AAf AA2 (Bm.o2 p0) Et fun _ Vj Kp=>Zj (Zj (Zj ?_));obtain ⟨Vk,Eu,Kr⟩:=Zp Ko;refine ABy AAf AA2 (Bm.o2 p0) Eu fun _ Vl Kt=>Zj ?_;obtain ⟨Vm,Ku,Kv⟩:=Zp Kr;refine AIs (m:=Bg) AAg AAk (Bm.o2 p0) Kt Eu Ku fun _=>?_;obtain ⟨Vn,Kw,Kx⟩:=Zp Kv;refine ALj (m:=El) Bm p0 AAg AAk Kp Et Kw (fun _=>rfl) fun _ Vo Ky=>AAn (q_b (q_t (AAa (Zj (AA0 rfl rfl (Zt ?_))))));exact ⟨(_,_,_,_,_,_),(Zl Kx).symm,Ky,rfl,trivial⟩
     ·have Ev:=J5 _ (Zl (AA6 Bj Cp)).symm;(try dsimp only at Ev);refine AAh (AAi (AAi (ABj (q_b (q_t (AAa (AA0 rfl rfl (Zj (Zr ?_)))))))));exact ⟨(_,_,_,_,_,_),(Zl Ev).symm,Ag,rfl,trivial⟩
    ·have Ew:=J3 _ (Zl (AA6 Bi Cn)).symm;(try dsimp only at Ew);refine AAh (AAi (AAi (ABj (q_t (Zn (Zj (Zt (Zw (⟨_,Zy,((Eh,Ba,Ei,Ej,Ek,Eg):(LiI) × (Value) × LnA × LnN × LvA × (Int)),?_,rfl,?_⟩)))))))))
     ·exact Zl Ew
     ·exact Bh
   obtain ⟨⟨Kz,D3,La,Lb,Lc,Ld⟩,Le,rfl,Ey⟩:=Hv;(try dsimp only [Kst.L,List.set,AHa,AKo] at Ey);refine ⟨trivial,?_⟩;subst Le;(try dsimp only at D2);refine AAl (AAn (q_b (q_t ?_)));exact ⟨((Kz,D3,La,Lb,Lc,Ld):(LiI) × (Value) × LnA × LnN × LvA × (Int)),⟨Zl D2,Ey⟩,rfl,trivial⟩
  ·refine Zn (AB2 rfl rfl (Zt ?_));have Ez:=AF9 B8 Cd;refine ⟨_,rfl,fun Cv=>?_,fun Cv=>?_⟩
   ·refine Zn (Zj ?_);obtain ⟨Lf,Lg,Lh⟩:=Zp (AA5 Ez Cv);refine AMv Ao (AN9 Lg) fun Li Lj Lk Ll Aq Vp Ac=>Zt (ACd (fun h'=>UpT ([Aa] ++ []) Aq h') Zx ?_);have Bn:UpT ([Aa] ++ []) Aq Aq:=UpT.start (ACu (AGa (Ac.b p1) rfl) all_nil);refine Zj ?_;obtain ⟨Lm,A4,Lo⟩:=Zp Lh;refine AC2 AAf rfl (Ac.o2 p0) rfl A4 fun Vs Vt Lq Fa Lr=>ACf AA2 rfl Bn (fun h' hb=>AMb Lr hb (ASm (Ac.dj p0 p1 Zk _ (by simp [aO,aO2,Lq])) ASn)) ?_;obtain ⟨Fb,Bo,Lv⟩:=Zp Lo;refine AE6 (m:=0) AAg rfl (Ac.o2 p0) Fa A4 rfl Bo fun Vu Fc=>?_;obtain ⟨Vv,Lw,Lx⟩:=(Ac.o2 p0).cells Fc A4 Bo;obtain rfl:=Lw;refine ACf AAk rfl Bn (fun h' hb=>AMb (Lx 0 _ rfl) hb (ASm (Ac.dj p0 p1 Zk _ ((Ac.o2 p0).gmem Fc)) ASn)) (Zj ?_);obtain ⟨Ly,Lz,Fd⟩:=Zp Lv;have L9:UpT ([Aa] ++ []) Aq Aq:=UpT.start (ACu (AGa (Ac.b p1) rfl) all_nil);refine AAy (K':=(fun xr h'=> ∃ x:(Int) × (Int),(x.1,x.2)=Ly/\xr=(.int .i64 x.1)/\Kst h h' (Ac.L.set 1 (aB 105 Aa [Ab,(.int .i64 x.2)]))/\UpT ([Aa] ++ []) Aq h')) Bn rfl ?_ fun Vw Vx Ma=>?_
    ·refine cwf (l:=[_,_]) Tryz.func65 rfl rfl (Zn (AA4 (Zj ?_)));obtain ⟨Mb,Fe,Ff⟩:=Zp Lz;have Fg:UpT ([Aa] ++ []) Aq Aq:=UpT.start (ACu (AGa (Ac.b p1) rfl) all_nil);refine AAy (K':=(fun xr h'=> ∃ x:(Int) × (Int),(x.1,x.2)=Mb/\xr=(.int .i64 x.1)/\Kst h h' (Ac.L.set 1 (aB 105 Aa [Ab,(.int .i64 x.2)]))/\UpT ([Aa] ++ []) Aq h')) trivial rfl ?_ fun Vy Vz Mc=>?_
     ·refine cwf (l:=[_]) Tryz.func119 rfl rfl (Zn (Zt (Zo (Zo (AF8 (Zj (ACy rfl (ACh AC0 rfl (AA7 ABt rfl ((Ac.b p1).cell (i:=1) rfl) (Zj (ACy rfl (ACh AJx rfl (AA7 AQ3 rfl ((Ac.b p1).cell (i:=0) rfl) (ABm AR1 rfl H4 (AMf rfl rfl (Zr (⟨_,rfl,fun Cw=>?_,fun Cw=>?_⟩)))))))))))))))))
      ·refine Zn (Zt (Zw (AAc (⟨_,Zy,((0,0):(Int) × (Int)),?_,rfl,?_,?_⟩))))
       ·exact Zl (AA5 Fe Cw)
       ·exact Ac
       ·exact Fg
      ·refine Zv (q_t (Zn (Zj (ACy rfl (ACh AC0 rfl (AA7 ABt rfl ((Ac.b p1).cell (i:=1) rfl) (AA0 rfl rfl (ACy rfl (ACh AC0 rfl (AQh [Ab,(.int .i64 (w64 (0 + 1)))] ABt rfl rfl rfl (Ac.b p1) (Nat.le_of_ble_eq_true rfl) rfl fun V1 Fh Fi=>Zr (Zo (AF8 (Zj (ACy rfl (ACh AJx rfl ?_)))))))))))))));have Bp:=Ac.sb p1 Fi Fh rfl;refine AA7 AQ3 rfl ((Bp.b p1).cell (i:=0) rfl) (Zj (ACy rfl (ACh AC0 rfl (AA7 ABt rfl ((Bp.b p1).cell (i:=1) rfl) (AFg rfl rfl ?_)))));obtain ⟨Md,Me,Mf⟩:=Zp (AA6 Fe Cw);refine AIw (c:=(cI .i8)) AR1 rfl H4 rfl Me fun V4 V5 V6 Mg Mh=>?_;obtain rfl:=Mg;refine AA7 AZ9 rfl (AAx (Mh 0 _ rfl) Bp.x) (AMr Aaa AKx rfl (Zt (Zw (⟨_,Zy,(((w64 Md),(w64 (0 + 1))):(Int) × (Int)),?_,rfl,?_,?_⟩))))
       ·exact Zl Mf
       ·exact Bp
       ·exact (Fg.then (Fh.stA Fi (AGa (Ac.b p1) rfl) rfl) (ANf rfl))
     obtain ⟨⟨Mi,Mj⟩,Mk,rfl,Fj,Ml⟩:=Mc;(try dsimp only [Kst.L,List.set,AHa,AKo] at Fj);refine ⟨trivial,?_⟩;subst Mk;(try dsimp only at Ff);refine AMr AKx AS0 rfl (AMr AS0 ASi rfl (Zj (ADc rfl rfl Zk (Zt (Zw (⟨_,Zy,(((Int.tmod (w64 (IntKind.wrap .u8 Mi)) 3),Mj):(Int) × (Int)),?_,rfl,?_,?_⟩))))))
     ·exact Zl Ff
     ·exact Fj
     ·exact (L9.then Ml (ACu (ANf rfl) all_nil))
    obtain ⟨⟨Fk,Mm⟩,Mo,rfl,Cx,Mq⟩:=Ma;(try dsimp only [Kst.L,List.set,AHa,AKo] at Cx);refine ⟨(Bn.then Mq (ACu (ANf rfl) all_nil)),?_⟩;subst Mo;(try dsimp only at Fd);refine AA0 rfl rfl (AE6 (m:=0) AAg rfl (Ac.o2 p0) Fa A4 rfl Bo fun V8 Mr=>ANk (m:=0) (AM8 AAk rfl rfl rfl) (Cx.o2 p0) Mr A4 Bo (show ((cI .i64)).rep _ (w64 (Fb + Fk)) _ from rfl) fun V9 Ms Mt=>AAn (q_b (q_t ?_)));exact ⟨(((sI Lf 0 (sI Lm 0 (w64 (Fb + Fk)))),Ll,Li,Lj,Lk,Mm):(LiI) × (Value) × LnA × LnN × LvA × (Int)),⟨Zl Fd,(Cx.uO2 p0 Mt Ms)⟩,rfl,trivial⟩
   ·refine Zn (AB2 rfl rfl (Zt ?_));have Fl:=AA6 Ez Cv;refine ⟨_,rfl,fun Cy=>?_,fun Cy=>?_⟩
    ·refine Zn (Zj ?_);obtain ⟨Mu,Mv,Mw⟩:=Zp (AA5 Fl Cy);refine AMv Ao (AN9 Mv) fun Mx My Mz M0 Ar Wa Ad=>Zt (ACd (fun h'=>UpT ([Aa] ++ []) Ar h') Zx ?_);have Bq:UpT ([Aa] ++ []) Ar Ar:=UpT.start (ACu (AGa (Ad.b p1) rfl) all_nil);refine Zj (Zj (AFg rfl rfl ?_));obtain ⟨M1,A5,M2⟩:=Zp Mw;refine AC2 AAf rfl (Ad.o2 p0) rfl A5 fun Wb Wc M3 Fm M4=>ACf AA2 rfl Bq (fun h' hb=>AMb M4 hb (ASm (Ad.dj p0 p1 Zk _ (by simp [aO,aO2,M3])) ASn)) (Zj (AFg rfl rfl ?_));obtain ⟨Fo,Br,M5⟩:=Zp M2;refine AE6 (m:=(w64 ((w64 (1 + (Int.tmod (w64 a1) Am))) - 1))) AAg rfl (Ad.o2 p0) Fm A5 rfl Br fun Wd Fp=>?_;obtain ⟨We,M6,M7⟩:=(Ad.o2 p0).cells Fp A5 Br;obtain rfl:=M6;refine ACf AAk rfl Bq (fun h' hb=>AMb (M7 0 _ rfl) hb (ASm (Ad.dj p0 p1 Zk _ ((Ad.o2 p0).gmem Fp)) ASn)) (Zj ?_);obtain ⟨M8,M9,Fq⟩:=Zp M5;have Na:UpT ([Aa] ++ []) Ar Ar:=UpT.start (ACu (AGa (Ad.b p1) rfl) all_nil);refine AAy (K':=(fun xr h'=> ∃ x:(Int) × (Int),(x.1,x.2)=M8/\xr=(.int .i64 x.1)/\Kst h h' (Ad.L.set 1 (aB 105 Aa [Ab,(.int .i64 x.2)]))/\UpT ([Aa] ++ []) Ar h')) Bq rfl ?_ fun Wf Wg Nb=>?_
     ·refine cwf (l:=[_,_]) Tryz.func65 rfl rfl (Zn (AA4 (Zj ?_)));obtain ⟨Nc,Fr,Ft⟩:=Zp M9;have Fu:UpT ([Aa] ++ []) Ar Ar:=UpT.start (ACu (AGa (Ad.b p1) rfl) all_nil);refine AAy (K':=(fun xr h'=> ∃ x:(Int) × (Int),(x.1,x.2)=Nc/\xr=(.int .i64 x.1)/\Kst h h' (Ad.L.set 1 (aB 105 Aa [Ab,(.int .i64 x.2)]))/\UpT ([Aa] ++ []) Ar h')) trivial rfl ?_ fun Wh Wi Nd=>?_
      ·refine cwf (l:=[_]) Tryz.func119 rfl rfl (Zn (Zt (Zo (Zo (AF8 (Zj (ACy rfl (ACh AC0 rfl (AA7 ABt rfl ((Ad.b p1).cell (i:=1) rfl) (Zj (ACy rfl (ACh AJx rfl (AA7 AQ3 rfl ((Ad.b p1).cell (i:=0) rfl) (ABm AR1 rfl H4 (AMf rfl rfl (Zr (⟨_,rfl,fun Cz=>?_,fun Cz=>?_⟩)))))))))))))))))
       ·refine Zn (Zt (Zw (AAc (⟨_,Zy,((0,0):(Int) × (Int)),?_,rfl,?_,?_⟩))))
        ·exact Zl (AA5 Fr Cz)
        ·exact Ad
        ·exact Fu
       ·refine Zv (q_t (Zn (Zj (ACy rfl (ACh AC0 rfl (AA7 ABt rfl ((Ad.b p1).cell (i:=1) rfl) (AA0 rfl rfl (ACy rfl (ACh AC0 rfl (AQh [Ab,(.int .i64 (w64 (0 + 1)))] ABt rfl rfl rfl (Ad.b p1) (Nat.le_of_ble_eq_true rfl) rfl fun Wj Fv Fw=>Zr (Zo (AF8 (Zj (ACy rfl (ACh AJx rfl ?_)))))))))))))));have Bt:=Ad.sb p1 Fw Fv rfl;refine AA7 AQ3 rfl ((Bt.b p1).cell (i:=0) rfl) (Zj (ACy rfl (ACh AC0 rfl (AA7 ABt rfl ((Bt.b p1).cell (i:=1) rfl) (AFg rfl rfl ?_)))));obtain ⟨Nf,Ng,Nh⟩:=Zp (AA6 Fr Cz);refine AIw (c:=(cI .i8)) AR1 rfl H4 rfl Ng fun Wk Wl Wm Ni Nj=>?_;obtain rfl:=Ni;refine AA7 AZ9 rfl (AAx (Nj 0 _ rfl) Bt.x) (AMr Aaa AKx rfl (Zt (Zw (⟨_,Zy,(((w64 Nf),(w64 (0 + 1))):(Int) × (Int)),?_,rfl,?_,?_⟩))))
        ·exact Zl Nh
        ·exact Bt
        ·exact (Fu.then (Fv.stA Fw (AGa (Ad.b p1) rfl) rfl) (ANf rfl))
      obtain ⟨⟨Nk,Nl⟩,Nm,rfl,Fx,Nn⟩:=Nd;(try dsimp only [Kst.L,List.set,AHa,AKo] at Fx);refine ⟨trivial,?_⟩;subst Nm;(try dsimp only at Ft);refine AMr AKx AS0 rfl (AMr AS0 ASi rfl (Zj (ADc rfl rfl Zk (Zt (Zw (⟨_,Zy,(((Int.tmod (w64 (IntKind.wrap .u8 Nk)) 2),Nl):(Int) × (Int)),?_,rfl,?_,?_⟩))))))
      ·exact Zl Ft
      ·exact Fx
      ·exact (Na.then Nn (ACu (ANf rfl) all_nil))
     obtain ⟨⟨Fy,Np⟩,Nq,rfl,C0,Nr⟩:=Nb;(try dsimp only [Kst.L,List.set,AHa,AKo] at C0);refine ⟨(Bq.then Nr (ACu (ANf rfl) all_nil)),?_⟩;subst Nq;(try dsimp only at Fq);refine AA0 rfl rfl (AE6 (m:=(w64 ((w64 (1 + (Int.tmod (w64 a1) Am))) - 1))) AAg rfl (Ad.o2 p0) Fm A5 rfl Br fun Wn Ns=>ANk (m:=(w64 ((w64 (1 + (Int.tmod (w64 a1) Am))) - 1))) (AM8 AAk rfl rfl rfl) (C0.o2 p0) Ns A5 Br (show ((cI .i64)).rep _ (w64 (Fo + Fy)) _ from rfl) fun Wo Nt Nu=>AAn (q_b (q_t ?_)));exact ⟨(((sI Mu (w64 ((w64 (1 + (Int.tmod (w64 a1) Am))) - 1)) (sI M1 (w64 ((w64 (1 + (Int.tmod (w64 a1) Am))) - 1)) (w64 (Fo + Fy)))),M0,Mx,My,Mz,Np):(LiI) × (Value) × LnA × LnN × LvA × (Int)),⟨Zl Fq,(C0.uO2 p0 Nu Nt)⟩,rfl,trivial⟩
    ·refine Zn (AB2 rfl rfl (Zt ?_));have Fz:=AA6 Fl Cy;refine ⟨_,rfl,fun C1=>?_,fun C1=>?_⟩
     ·refine AAa (Zj (Zj ?_));obtain ⟨Nv,Nw,F4⟩:=Zp (AA5 Fz C1);refine AAy (K':=(fun xr h'=> ∃ x:(LiI) × (Value) × LnA × LnN × LvA × (Int),(x.1,x.2.2.2.2.2)=Nv/\xr=x.2.1/\Kst h h' (aO2 (cI .i64) 60 2 x.2.2.1 x.2.2.2.1 x.2.2.2.2.1 x.2.1 x.1 :: (Ao.L.set 0 (aB 105 Aa [Ab,(.int .i64 x.2.2.2.2.2)]))))) trivial rfl ?_ fun F5 Wp Ny=>?_
      ·refine cwf (l:=[_,_,_]) Tryz.func66 rfl rfl (Zn (AA4 (Zj ?_)));obtain ⟨Nz,N0⟩:=ifN Nw;refine AR7 (cI .i64) 2 AAf AMd rfl trivial tt2 rfl rfl Zk Nz fun N3 N4 N5 F6 Wq N6 N7 N8=>Zt (Zo (Zn (Zj ?_)));have C2:=Ao.no2 N7 N8 N6;refine AA8 AAf rfl (C2.o2 p0).rd (Zj (Zr (Zs (AFj 4294959360 (fun x:(Int) × (Int) × (LiI) × LnA × LnN × LvA=>(x.1,x.2.1,x.2.2.1)) ((0,0,(List.replicate (Int.toNat (w64 (1 + (Int.tmod (w64 a1) Am)))) ([]:List Int)),N3,N4,N5):(Int) × (Int) × (LiI) × LnA × LnN × LvA) N0 (fun x=>[(13,(.int .i64 x.1))]) (fun x=>(C2.L.set 0 (aO2 (cI .i64) 60 2 x.2.2.2.1 x.2.2.2.2.1 x.2.2.2.2.2 F6 x.2.2.1)).set 1 (aB 105 Aa [Ab,(.int .i64 x.2.1)])) C2 ⟨rfl,trivial⟩ ?_))));rintro ⟨C3,Bu,N9,Oa,Ob,Oc⟩ Od Oe Wr C4 Bv Og;(try dsimp only [Kst.L,List.set,AHa,AKo] at C4);refine (show W _ _ _ (setL [(13,(.int .i64 C3))] (mix _ Od _)) Oe from ?_);(try dsimp only at Bv);unfold AD8 at Bv;refine Zn (AAu rfl rfl (Zr (Zo (⟨_,rfl,fun C5=>?_,fun C5=>?_⟩))))
       ·refine Zv (q_t (Zo (Zs (Zn (Zj (AA4 (Zj (Zj (Zj ?_)))))))));obtain ⟨Oh,Oi⟩:=ifN (AA5 Bv C5);refine AP6 (c:=(cI .i64)) (a:=0) AAg AIu rfl rfl (fun _=>rfl) rfl trivial tt2 rfl rfl Zk Oh fun Ws Wt Wu Oj Ol Om On=>?_;have A6:=C4.no Ol (AE5 Om On) Oj;obtain ⟨Wv,F7,Oo⟩:=Zp Oi;refine AC2 AAf rfl (A6.o2 p1) rfl F7 fun Ww Wx Oq Wy Wz=>AR6 AA2 (A6.o2 p1) F7 Oq rfl rfl (A6.o p0) (A6.dj p0 p1 Zk) fun Au Ot Ou Ov=>Zr (ACd (fun h'=>UpT ([Aa] ++ []) Au h') Zx ?_);have Ah:=A6.m2 p0 p1 Zk Ou Ot (fun z hz=> .inl (Ov z hz));have C6:UpT ([Aa] ++ []) Au Au:=UpT.start (ACu (AGa (Ah.b p2) rfl) all_nil);refine Zj (Zj ?_);obtain ⟨W0,C7,Ow⟩:=Zp Oo;refine AC2 AAf rfl (Ah.o2 p1) rfl C7 fun W1 W3 Ox Oy Oz=>ACf AA2 rfl C6 (fun h' hb=>AMb Oz hb (ASm (Ah.dj p1 p2 Zk _ (by simp [aO,aO2,Ox])) ASn)) (Zj (Zj (Zj ?_)));obtain ⟨O0,O1,F8⟩:=Zp Ow;have O2:UpT ([Aa] ++ []) Au Au:=UpT.start (ACu (AGa (Ah.b p2) rfl) all_nil);refine AAy (K':=(fun xr h'=> ∃ x:(Int) × (Int),(x.1,x.2)=O0/\xr=(.int .i64 x.1)/\Kst h h' ((AHa Ah.L [1,2]).set 1 (aB 105 Aa [Ab,(.int .i64 x.2)]))/\UpT ([Aa] ++ []) Au h')) C6 rfl ?_ fun W4 W5 O3=>?_
        ·refine cwf (l:=[_,_]) Tryz.func65 rfl rfl (Zn (AA4 (Zj ?_)));obtain ⟨O4,F9,Ga⟩:=Zp O1;have Gb:UpT ([Aa] ++ []) Au Au:=UpT.start (ACu (AGa (Ah.b p2) rfl) all_nil);refine AAy (K':=(fun xr h'=> ∃ x:(Int) × (Int),(x.1,x.2)=O4/\xr=(.int .i64 x.1)/\Kst h h' ((AHa Ah.L [1,2]).set 1 (aB 105 Aa [Ab,(.int .i64 x.2)]))/\UpT ([Aa] ++ []) Au h')) trivial rfl ?_ fun W6 W7 O5=>?_
         ·refine cwf (l:=[_]) Tryz.func119 rfl rfl (Zn (Zt (Zo (Zo (AF8 (Zj (ACy rfl (ACh AC0 rfl (AA7 ABt rfl ((Ah.b p2).cell (i:=1) rfl) (Zj (ACy rfl (ACh AJx rfl (AA7 AQ3 rfl ((Ah.b p2).cell (i:=0) rfl) (ABm AR1 rfl H4 (AMf rfl rfl (Zr (⟨_,rfl,fun C8=>?_,fun C8=>?_⟩)))))))))))))))))
          ·refine Zn (Zt (Zw (AAc (⟨_,Zy,((0,Bu):(Int) × (Int)),?_,rfl,?_,?_⟩))))
           ·exact Zl (AA5 F9 C8)
           ·exact Ah.sel [1,2] Zk
           ·exact Gb
          ·refine Zv (q_t (Zn (Zj (ACy rfl (ACh AC0 rfl (AA7 ABt rfl ((Ah.b p2).cell (i:=1) rfl) (AA0 rfl rfl (ACy rfl (ACh AC0 rfl (AQh [Ab,(.int .i64 (w64 (Bu + 1)))] ABt rfl rfl rfl (Ah.b p2) (Nat.le_of_ble_eq_true rfl) rfl fun W8 Gc Gd=>Zr (Zo (AF8 (Zj (ACy rfl (ACh AJx rfl ?_)))))))))))))));have Bw:=Ah.sb p2 Gd Gc rfl;refine AA7 AQ3 rfl ((Bw.b p2).cell (i:=0) rfl) (Zj (ACy rfl (ACh AC0 rfl (AA7 ABt rfl ((Bw.b p2).cell (i:=1) rfl) (AFg rfl rfl ?_)))));obtain ⟨O6,O7,O8⟩:=Zp (AA6 F9 C8);refine AIw (c:=(cI .i8)) AR1 rfl H4 rfl O7 fun Xa Xb Xc O9 Pa=>?_;obtain rfl:=O9;refine AA7 AZ9 rfl (AAx (Pa 0 _ rfl) Bw.x) (AMr Aaa AKx rfl (Zt (Zw (⟨_,Zy,(((w64 O6),(w64 (Bu + 1))):(Int) × (Int)),?_,rfl,?_,?_⟩))))
           ·exact Zl O8
           ·exact Bw.sel [1,2] Zk
           ·exact (Gb.then (Gc.stA Gd (AGa (Ah.b p2) rfl) rfl) (ANf rfl))
         obtain ⟨⟨Pb,Pc⟩,Pd,rfl,Ge,Pe⟩:=O5;(try dsimp only [Kst.L,List.set,AHa,AKo] at Ge);refine ⟨trivial,?_⟩;subst Pd;(try dsimp only at Ga);refine AMr AKx AS0 rfl (AMr AS0 ASi rfl (Zj (ADc rfl rfl Zk (Zt (Zw (⟨_,Zy,(((Int.tmod (w64 (IntKind.wrap .u8 Pb)) 9),Pc):(Int) × (Int)),?_,rfl,?_,?_⟩))))))
         ·exact Zl Ga
         ·exact Ge
         ·exact (O2.then Pe (ACu (ANf rfl) all_nil))
        obtain ⟨⟨Pf,Xd⟩,Pg,rfl,C9,Ph⟩:=O3;(try dsimp only [Kst.L,List.set,AHa,AKo] at C9);refine ⟨(C6.then Ph (ACu (ANf rfl) all_nil)),?_⟩;subst Pg;(try dsimp only at F8);refine AA0 rfl rfl ?_;obtain ⟨Xe,Gf,Pj⟩:=Zp F8;refine AE6 (m:=C3) AAg rfl (Ah.o2 p1) Oy C7 rfl Gf fun Xf Pk=>ANk (m:=C3) (AM8 AAk rfl rfl rfl) (C9.o2 p0) Pk C7 Gf (show ((cI .i64)).rep _ (w64 (1 + Pf)) _ from rfl) fun Xg Pl Pm=>AAn (q_b (q_t (AAa (AA0 rfl rfl (Zj (Zr ?_))))));exact ⟨(_,_,_,_,_,_),(Zl Pj).symm,(C9.uO2 p0 Pm Pl),rfl,trivial⟩
       ·have Gg:=Og _ (Zl (AA6 Bv C5)).symm;(try dsimp only at Gg);refine AAh (AAi (AAi (ABj (q_t (Zn (Zj (Zt (Zw (⟨_,Zy,((N9,F6,Oa,Ob,Oc,Bu):(LiI) × (Value) × LnA × LnN × LvA × (Int)),?_,rfl,?_⟩)))))))))
        ·exact Zl Gg
        ·exact C4
      obtain ⟨⟨Pn,F5,Po,Pp,Pq,Ps⟩,Pt,rfl,Gh⟩:=Ny;(try dsimp only [Kst.L,List.set,AHa,AKo] at Gh);refine ⟨trivial,?_⟩;subst Pt;(try dsimp only at F4);refine AAl (AAn (q_b (q_t ?_)));exact ⟨((Pn,F5,Po,Pp,Pq,Ps):(LiI) × (Value) × LnA × LnN × LvA × (Int)),⟨Zl F4,Gh⟩,rfl,trivial⟩
     ·refine AAa (Zj (Zj ?_));obtain ⟨Pu,Pv,Gi⟩:=Zp (AA6 Fz C1);refine AAy (K':=(fun xr h'=> ∃ x:(LiI) × (Value) × LnA × LnN × LvA × (Int),(x.1,x.2.2.2.2.2)=Pu/\xr=x.2.1/\Kst h h' (aO2 (cI .i64) 60 2 x.2.2.1 x.2.2.2.1 x.2.2.2.2.1 x.2.1 x.1 :: (Ao.L.set 0 (aB 105 Aa [Ab,(.int .i64 x.2.2.2.2.2)]))))) trivial rfl ?_ fun Gj Xh Pw=>?_
      ·refine cwf (l:=[_,_,_]) Tryz.func66 rfl rfl (Zn (AA4 (Zj ?_)));obtain ⟨Px,Py⟩:=ifN Pv;refine AR7 (cI .i64) 2 AAf AMd rfl trivial tt2 rfl rfl Zk Px fun Pz P0 P1 Gk Xi P2 P3 P4=>Zt (Zo (Zn (Zj ?_)));have Da:=Ao.no2 P3 P4 P2;refine AA8 AAf rfl (Da.o2 p0).rd (Zj (Zr (Zs (AFj 4294959360 (fun x:(Int) × (Int) × (LiI) × LnA × LnN × LvA=>(x.1,x.2.1,x.2.2.1)) ((0,0,(List.replicate (Int.toNat (w64 (1 + (Int.tmod (w64 a1) Am)))) ([]:List Int)),Pz,P0,P1):(Int) × (Int) × (LiI) × LnA × LnN × LvA) Py (fun x=>[(13,(.int .i64 x.1))]) (fun x=>(Da.L.set 0 (aO2 (cI .i64) 60 2 x.2.2.2.1 x.2.2.2.2.1 x.2.2.2.2.2 Gk x.2.2.1)).set 1 (aB 105 Aa [Ab,(.int .i64 x.2.1)])) Da ⟨rfl,trivial⟩ ?_))));rintro ⟨Db,Bx,P5,P6,P7,P8⟩ P9 Qa Xj Dc By Qb;(try dsimp only [Kst.L,List.set,AHa,AKo] at Dc);refine (show W _ _ _ (setL [(13,(.int .i64 Db))] (mix _ P9 _)) Qa from ?_);(try dsimp only at By);unfold AD9 at By;refine Zn (AAu rfl rfl (Zr (Zo (⟨_,rfl,fun Dd=>?_,fun Dd=>?_⟩))))
       ·refine Zv (q_t (Zo (Zs (Zn (Zj (AA4 (Zj (Zj (Zj ?_)))))))));obtain ⟨Qc,Qd⟩:=ifN (AA5 By Dd);refine AP6 (c:=(cI .i64)) (a:=0) AAg AIu rfl rfl (fun _=>rfl) rfl trivial tt2 rfl rfl Zk Qc fun Xk Xl Xm Qe Qf Qg Qh=>?_;have A7:=Dc.no Qf (AE5 Qg Qh) Qe;obtain ⟨Xn,Gl,Qi⟩:=Zp Qd;refine AC2 AAf rfl (A7.o2 p1) rfl Gl fun Xo Xp Qj Xq Xr=>AR6 AA2 (A7.o2 p1) Gl Qj rfl rfl (A7.o p0) (A7.dj p0 p1 Zk) fun Av Qk Ql Qm=>Zr (ACd (fun h'=>UpT ([Aa] ++ []) Av h') Zx ?_);have Ai:=A7.m2 p0 p1 Zk Ql Qk (fun z hz=> .inl (Qm z hz));have De:UpT ([Aa] ++ []) Av Av:=UpT.start (ACu (AGa (Ai.b p2) rfl) all_nil);refine Zj (Zj ?_);obtain ⟨Xt,Df,Qn⟩:=Zp Qi;refine AC2 AAf rfl (Ai.o2 p1) rfl Df fun Xu Xv Qo Qp Qq=>ACf AA2 rfl De (fun h' hb=>AMb Qq hb (ASm (Ai.dj p1 p2 Zk _ (by simp [aO,aO2,Qo])) ASn)) (Zj (Zj (Zj ?_)));obtain ⟨Qr,Qs,Gm⟩:=Zp Qn;have Qt:UpT ([Aa] ++ []) Av Av:=UpT.start (ACu (AGa (Ai.b p2) rfl) all_nil);refine AAy (K':=(fun xr h'=> ∃ x:(Int) × (Int),(x.1,x.2)=Qr/\xr=(.int .i64 x.1)/\Kst h h' ((AHa Ai.L [1,2]).set 1 (aB 105 Aa [Ab,(.int .i64 x.2)]))/\UpT ([Aa] ++ []) Av h')) De rfl ?_ fun Xw Xx Qu=>?_
        ·refine cwf (l:=[_,_]) Tryz.func65 rfl rfl (Zn (AA4 (Zj ?_)));obtain ⟨Qv,Gn,Gp⟩:=Zp Qs;have Gq:UpT ([Aa] ++ []) Av Av:=UpT.start (ACu (AGa (Ai.b p2) rfl) all_nil);refine AAy (K':=(fun xr h'=> ∃ x:(Int) × (Int),(x.1,x.2)=Qv/\xr=(.int .i64 x.1)/\Kst h h' ((AHa Ai.L [1,2]).set 1 (aB 105 Aa [Ab,(.int .i64 x.2)]))/\UpT ([Aa] ++ []) Av h')) trivial rfl ?_ fun Xy Xz Qw=>?_
         ·refine cwf (l:=[_]) Tryz.func119 rfl rfl (Zn (Zt (Zo (Zo (AF8 (Zj (ACy rfl (ACh AC0 rfl (AA7 ABt rfl ((Ai.b p2).cell (i:=1) rfl) (Zj (ACy rfl (ACh AJx rfl (AA7 AQ3 rfl ((Ai.b p2).cell (i:=0) rfl) (ABm AR1 rfl H4 (AMf rfl rfl (Zr (⟨_,rfl,fun Dg=>?_,fun Dg=>?_⟩)))))))))))))))))
          ·refine Zn (Zt (Zw (AAc (⟨_,Zy,((0,Bx):(Int) × (Int)),?_,rfl,?_,?_⟩))))
           ·exact Zl (AA5 Gn Dg)
           ·exact Ai.sel [1,2] Zk
           ·exact Gq
          ·refine Zv (q_t (Zn (Zj (ACy rfl (ACh AC0 rfl (AA7 ABt rfl ((Ai.b p2).cell (i:=1) rfl) (AA0 rfl rfl (ACy rfl (ACh AC0 rfl (AQh [Ab,(.int .i64 (w64 (Bx + 1)))] ABt rfl rfl rfl (Ai.b p2) (Nat.le_of_ble_eq_true rfl) rfl fun X0 Gr Gt=>Zr (Zo (AF8 (Zj (ACy rfl (ACh AJx rfl ?_)))))))))))))));have Bz:=Ai.sb p2 Gt Gr rfl;refine AA7 AQ3 rfl ((Bz.b p2).cell (i:=0) rfl) (Zj (ACy rfl (ACh AC0 rfl (AA7 ABt rfl ((Bz.b p2).cell (i:=1) rfl) (AFg rfl rfl ?_)))));obtain ⟨Qx,Qy,Qz⟩:=Zp (AA6 Gn Dg);refine AIw (c:=(cI .i8)) AR1 rfl H4 rfl Qy fun X3 X4 X5 Q0 Q1=>?_;obtain rfl:=Q0;refine AA7 AZ9 rfl (AAx (Q1 0 _ rfl) Bz.x) (AMr Aaa AKx rfl (Zt (Zw (⟨_,Zy,(((w64 Qx),(w64 (Bx + 1))):(Int) × (Int)),?_,rfl,?_,?_⟩))))
           ·exact Zl Qz
           ·exact Bz.sel [1,2] Zk
           ·exact (Gq.then (Gr.stA Gt (AGa (Ai.b p2) rfl) rfl) (ANf rfl))
         obtain ⟨⟨Q2,Q3⟩,Q4,rfl,Gu,Q6⟩:=Qw;(try dsimp only [Kst.L,List.set,AHa,AKo] at Gu);refine ⟨trivial,?_⟩;subst Q4;(try dsimp only at Gp);refine AMr AKx AS0 rfl (AMr AS0 ASi rfl (Zj (ADc rfl rfl Zk (Zt (Zw (⟨_,Zy,(((Int.tmod (w64 (IntKind.wrap .u8 Q2)) 1),Q3):(Int) × (Int)),?_,rfl,?_,?_⟩))))))
         ·exact Zl Gp
         ·exact Gu
         ·exact (Qt.then Q6 (ACu (ANf rfl) all_nil))
        obtain ⟨⟨Q7,X6⟩,Q8,rfl,Dh,Q9⟩:=Qu;(try dsimp only [Kst.L,List.set,AHa,AKo] at Dh);refine ⟨(De.then Q9 (ACu (ANf rfl) all_nil)),?_⟩;subst Q8;(try dsimp only at Gm);refine AA0 rfl rfl ?_;obtain ⟨X8,Gv,Rc⟩:=Zp Gm;refine AE6 (m:=Db) AAg rfl (Ai.o2 p1) Qp Df rfl Gv fun Ya Rd=>ANk (m:=Db) (AM8 AAk rfl rfl rfl) (Dh.o2 p0) Rd Df Gv (show ((cI .i64)).rep _ (w64 (1 + Q7)) _ from rfl) fun Yb Re Rf=>AAn (q_b (q_t (AAa (AA0 rfl rfl (Zj (Zr ?_))))));exact ⟨(_,_,_,_,_,_),(Zl Rc).symm,(Dh.uO2 p0 Rf Re),rfl,trivial⟩
       ·have Gw:=Qb _ (Zl (AA6 By Dd)).symm;(try dsimp only at Gw);refine AAh (AAi (AAi (ABj (q_t (Zn (Zj (Zt (Zw (⟨_,Zy,((P5,Gk,P6,P7,P8,Bx):(LiI) × (Value) × LnA × LnN × LvA × (Int)),?_,rfl,?_⟩)))))))))
        ·exact Zl Gw
        ·exact Dc
      obtain ⟨⟨Rg,Gj,Rh,Ri,Rj,Rm⟩,Rn,rfl,Gx⟩:=Pw;(try dsimp only [Kst.L,List.set,AHa,AKo] at Gx);refine ⟨trivial,?_⟩;subst Rn;(try dsimp only at Gi);refine AAl (AAn (q_b (q_t ?_)));exact ⟨((Rg,Gj,Rh,Ri,Rj,Rm):(LiI) × (Value) × LnA × LnN × LvA × (Int)),⟨Zl Gi,Gx⟩,rfl,trivial⟩
 rintro ⟨Yc,Ro,Yd,Ye,Yf,Rq⟩ Rr Rs ⟨Rt,Di⟩;(try dsimp only [Kst.L,List.set,AHa,AKo] at Di);refine (show W _ _ _ (setL [(7,Ro)] (mix _ Rr _)) Rs from ?_);subst Rt;(try dsimp only at Dy);refine Zo (Zn (Zj ?_));obtain ⟨Yg,Ru,Gy⟩:=Zp Dy;refine ACl Di (AT2 (Di.o2 p0).rd Ru) fun Yh Yi A8=>ACt rfl (Zr (⟨_,rfl,fun Dj=>?_,fun Dj=>?_⟩))
 ·refine Zn (Zj (Zj ?_));obtain ⟨Rv,Rw,Gz⟩:=Zp (ifT Gy Dj);refine AAy (K':=(fun xr h'=> ∃ x:(LiI) × (Value) × LnA × LnN × LvA × (Int),(x.1,x.2.2.2.2.2)=Rv/\xr=x.2.1/\Kst h h' (aO2 (cI .i64) 60 2 x.2.2.1 x.2.2.2.1 x.2.2.2.2.1 x.2.1 x.1 :: (A8.L.set 1 (aB 105 Aa [Ab,(.int .i64 x.2.2.2.2.2)]))))) trivial rfl ?_ fun Rx Yj Ry=>?_
  ·refine cwf (l:=[_,_,_]) Tryz.func66 rfl rfl (Zn (AA4 (Zj ?_)));obtain ⟨Rz,R3⟩:=ifN Rw;refine AR7 (cI .i64) 2 AAf AMd rfl trivial tt2 rfl rfl Zk Rz fun R4 R5 R6 G3 Yk R7 R8 R9=>Zt (Zo (Zn (Zj ?_)));have Dk:=A8.no2 R8 R9 R7;refine AA8 AAf rfl (Dk.o2 p0).rd (Zj (Zr (Zs (AFj 4294959360 (fun x:(Int) × (Int) × (LiI) × LnA × LnN × LvA=>(x.1,x.2.1,x.2.2.1)) ((0,Rq,(List.replicate (Int.toNat (w64 (1 + (Int.tmod (w64 a1) Am)))) ([]:List Int)),R4,R5,R6):(Int) × (Int) × (LiI) × LnA × LnN × LvA) R3 (fun x=>[(13,(.int .i64 x.1))]) (fun x=>(Dk.L.set 0 (aO2 (cI .i64) 60 2 x.2.2.2.1 x.2.2.2.2.1 x.2.2.2.2.2 G3 x.2.2.1)).set 2 (aB 105 Aa [Ab,(.int .i64 x.2.1)])) Dk ⟨rfl,trivial⟩ ?_))));rintro ⟨Dl,B1,Sa,Sb,Sc,Sd⟩ Se Sf Yl Do B3 Sg;(try dsimp only [Kst.L,List.set,AHa,AKo] at Do);refine (show W _ _ _ (setL [(13,(.int .i64 Dl))] (mix _ Se _)) Sf from ?_);(try dsimp only at B3);unfold AEa at B3;refine Zn (AAu rfl rfl (Zr (Zo (⟨_,rfl,fun Dp=>?_,fun Dp=>?_⟩))))
   ·refine Zv (q_t (Zo (Zs (Zn (Zj (AA4 (Zj (Zj (Zj ?_)))))))));obtain ⟨Sh,Si⟩:=ifN (AA5 B3 Dp);refine AP6 (c:=(cI .i64)) (a:=0) AAg AIu rfl rfl (fun _=>rfl) rfl trivial tt2 rfl rfl Zk Sh fun Ym Yn Yo Sj Sk Sm Sn=>?_;have A9:=Do.no Sk (AE5 Sm Sn) Sj;obtain ⟨Yp,G4,So⟩:=Zp Si;refine AC2 AAf rfl (A9.o2 p1) rfl G4 fun Yq Yr Sq Ys Yt=>AR6 AA2 (A9.o2 p1) G4 Sq rfl rfl (A9.o p0) (A9.dj p0 p1 Zk) fun Aw Sr Ss St=>Zr (ACd (fun h'=>UpT ([Aa] ++ []) Aw h') Zx ?_);have Aj:=A9.m2 p0 p1 Zk Ss Sr (fun z hz=> .inl (St z hz));have Dq:UpT ([Aa] ++ []) Aw Aw:=UpT.start (ACu (AGa (Aj.b p3) rfl) all_nil);refine Zj (Zj ?_);obtain ⟨Yu,Dr,Su⟩:=Zp So;refine AC2 AAf rfl (Aj.o2 p1) rfl Dr fun Yv Yw Sv Sw Sx=>ACf AA2 rfl Dq (fun h' hb=>AMb Sx hb (ASm (Aj.dj p1 p3 Zk _ (by simp [aO,aO2,Sv])) ASn)) (Zj (Zj (Zj ?_)));obtain ⟨Sy,Sz,G5⟩:=Zp Su;have S5:UpT ([Aa] ++ []) Aw Aw:=UpT.start (ACu (AGa (Aj.b p3) rfl) all_nil);refine AAy (K':=(fun xr h'=> ∃ x:(Int) × (Int),(x.1,x.2)=Sy/\xr=(.int .i64 x.1)/\Kst h h' ((AHa Aj.L [1,2,3]).set 2 (aB 105 Aa [Ab,(.int .i64 x.2)]))/\UpT ([Aa] ++ []) Aw h')) Dq rfl ?_ fun Yx Yy S7=>?_
    ·refine cwf (l:=[_,_]) Tryz.func65 rfl rfl (Zn (AA4 (Zj ?_)));obtain ⟨Ta,G6,G7⟩:=Zp Sz;have G8:UpT ([Aa] ++ []) Aw Aw:=UpT.start (ACu (AGa (Aj.b p3) rfl) all_nil);refine AAy (K':=(fun xr h'=> ∃ x:(Int) × (Int),(x.1,x.2)=Ta/\xr=(.int .i64 x.1)/\Kst h h' ((AHa Aj.L [1,2,3]).set 2 (aB 105 Aa [Ab,(.int .i64 x.2)]))/\UpT ([Aa] ++ []) Aw h')) trivial rfl ?_ fun Yz Y1 Tb=>?_
     ·refine cwf (l:=[_]) Tryz.func119 rfl rfl (Zn (Zt (Zo (Zo (AF8 (Zj (ACy rfl (ACh AC0 rfl (AA7 ABt rfl ((Aj.b p3).cell (i:=1) rfl) (Zj (ACy rfl (ACh AJx rfl (AA7 AQ3 rfl ((Aj.b p3).cell (i:=0) rfl) (ABm AR1 rfl H4 (AMf rfl rfl (Zr (⟨_,rfl,fun Ds=>?_,fun Ds=>?_⟩)))))))))))))))))
      ·refine Zn (Zt (Zw (AAc (⟨_,Zy,((0,B1):(Int) × (Int)),?_,rfl,?_,?_⟩))))
       ·exact Zl (AA5 G6 Ds)
       ·exact Aj.sel [1,2,3] Zk
       ·exact G8
      ·refine Zv (q_t (Zn (Zj (ACy rfl (ACh AC0 rfl (AA7 ABt rfl ((Aj.b p3).cell (i:=1) rfl) (AA0 rfl rfl (ACy rfl (ACh AC0 rfl (AQh [Ab,(.int .i64 (w64 (B1 + 1)))] ABt rfl rfl rfl (Aj.b p3) (Nat.le_of_ble_eq_true rfl) rfl fun Y2 G9 Hb=>Zr (Zo (AF8 (Zj (ACy rfl (ACh AJx rfl ?_)))))))))))))));have B4:=Aj.sb p3 Hb G9 rfl;refine AA7 AQ3 rfl ((B4.b p3).cell (i:=0) rfl) (Zj (ACy rfl (ACh AC0 rfl (AA7 ABt rfl ((B4.b p3).cell (i:=1) rfl) (AFg rfl rfl ?_)))));obtain ⟨Tc,Td,Te⟩:=Zp (AA6 G6 Ds);refine AIw (c:=(cI .i8)) AR1 rfl H4 rfl Td fun Y3 Y4 Y5 Tf Tg=>?_;obtain rfl:=Tf;refine AA7 AZ9 rfl (AAx (Tg 0 _ rfl) B4.x) (AMr Aaa AKx rfl (Zt (Zw (⟨_,Zy,(((w64 Tc),(w64 (B1 + 1))):(Int) × (Int)),?_,rfl,?_,?_⟩))))
       ·exact Zl Te
       ·exact B4.sel [1,2,3] Zk
       ·exact (G8.then (G9.stA Hb (AGa (Aj.b p3) rfl) rfl) (ANf rfl))
     obtain ⟨⟨Th,Ti⟩,Tj,rfl,Hc,Tk⟩:=Tb;(try dsimp only [Kst.L,List.set,AHa,AKo] at Hc);refine ⟨trivial,?_⟩;subst Tj;(try dsimp only at G7);refine AMr AKx AS0 rfl (AMr AS0 ASi rfl (Zj (ADc rfl rfl Zk (Zt (Zw (⟨_,Zy,(((Int.tmod (w64 (IntKind.wrap .u8 Th)) 2),Ti):(Int) × (Int)),?_,rfl,?_,?_⟩))))))
     ·exact Zl G7
     ·exact Hc
     ·exact (S5.then Tk (ACu (ANf rfl) all_nil))
    obtain ⟨⟨Tl,Y6⟩,Tm,rfl,Dt,Tn⟩:=S7;(try dsimp only [Kst.L,List.set,AHa,AKo] at Dt);refine ⟨(Dq.then Tn (ACu (ANf rfl) all_nil)),?_⟩;subst Tm;(try dsimp only at G5);refine AA0 rfl rfl ?_;obtain ⟨Y7,Hd,To⟩:=Zp G5;refine AE6 (m:=Dl) AAg rfl (Aj.o2 p1) Sw Dr rfl Hd fun Y8 Tp=>ANk (m:=Dl) (AM8 AAk rfl rfl rfl) (Dt.o2 p0) Tp Dr Hd (show ((cI .i64)).rep _ (w64 (1 + Tl)) _ from rfl) fun Y9 Tq Tr=>AAn (q_b (q_t (AAa (AA0 rfl rfl (Zj (Zr ?_))))));exact ⟨(_,_,_,_,_,_),(Zl To).symm,(Dt.uO2 p0 Tr Tq),rfl,trivial⟩
   ·have He:=Sg _ (Zl (AA6 B3 Dp)).symm;(try dsimp only at He);refine AAh (AAi (AAi (ABj (q_t (Zn (Zj (Zt (Zw (⟨_,Zy,((Sa,G3,Sb,Sc,Sd,B1):(LiI) × (Value) × LnA × LnN × LvA × (Int)),?_,rfl,?_⟩)))))))))
    ·exact Zl He
    ·exact Do
  obtain ⟨⟨Za,Rx,Zd,Ze,Zf,Zg⟩,Ts,rfl,B5⟩:=Ry;(try dsimp only [Kst.L,List.set,AHa,AKo] at B5);refine ⟨trivial,?_⟩;subst Ts;(try dsimp only at Gz);refine Zt (Zw (AAc ?_));obtain rfl:=Zl Gz;exact ⟨_,Zy,B5.x,_,_,_,_,rfl,(B5.o2 p0),B5.s.sel [0] Zk⟩
 ·refine Zv (q_t (Zn (Zj (Zt (Zw ?_)))));obtain rfl:=Zl (AF9 Gy Dj);exact ⟨_,Zy,A8.x,_,_,_,_,rfl,(A8.o2 p0),A8.s.sel [0] Zk⟩
def AD1 (fuel:Nat) (a1 a2:Int) (a5 a9:LiA) (Ae:Int):Option LiI:=
  ((AD0 fuel a1 a2 a5 a9 Ae).bind fun Af=>((ADm fuel Af).bind fun Ag=>((AGe fuel Ag).bind fun (Ah,Ai,Aj)=>(some Ah))))
theorem APg {fuel:Nat} {h:Zu} {a1 a2:Int} {Ac:Value} {a5:LiA} {Ad:Value} {a9:LiA} {Ai:Int} {r:LiI} (H4:SlC (cI .i8) h Ac a5) (H8:SlC (cI .i8) h Ad a9) (hp:AD1 fuel a1 a2 a5 a9 Ai=some r):AAv Tryz.prog 7 #[(.agg #[(.int .u8 a1),(.int .u8 a2),Ac,Ad]),(.int .i64 Ai)] h (fun x h'=>Ext h h'/\ ∃ (x0:Value) (F0:List Nat) (Au:List LnA) (Av:List Value),x=x0/\ACs (cI .i64) 60 2 h' F0 Au Av x0 r/\Sp h' h.size [F0]):=by
 unfold AD1 at hp;refine cwf (l:=[_,_]) Tryz.func7 rfl rfl (Zn (AG8 (Kst.k0 h) [(.int .u8 a1),(.int .u8 a2),Ac,Ad] fun Bl Bm Bn Ae=>AA4 (ANd [(.int .u8 a1),(.int .u8 a2),Ac,Ad] Aoe rfl rfl (Ae.b p0).agg (Zj ?_))));obtain ⟨Bo,Aw,Ax⟩:=Zp hp;refine AMv Ae (APf (H4.ext Ae.x) (H8.ext Ae.x) Aw) fun Bp Bq Br Bt Bu Bv Am=>?_;obtain ⟨Bw,Ay,Az⟩:=Zp Ax;refine AMv Am (AI8 (Am.o2 p0).rd Ay) fun Bx By Bz B1 B3 B4 Ao=>?_;obtain ⟨⟨A3,A4,B5⟩,A5,Ap⟩:=Zp Az;dsimp only at Ap;refine ANz rfl (ARr (Ao.o2 p0).rd A5) fun B6 B7 A6 A7=>?_;obtain ⟨A8,A9,Ba,Bb,Bc,Be,Bf,Bg,rfl,Bh,Bi,Bj⟩:=A7;have Af:=Ao.n A6 [aO2 (cI .i64) 60 2 A9 Ba Bb A8 A3,aO2 cZ 128 94 Be Bf Bg Bc A4] Bj ⟨Bh,Bi,trivial⟩;simp only [List.cons_append,List.nil_append] at Af;refine Zj (ABl rfl rfl (ABl rfl rfl (ABl rfl rfl (AAl (AAl (AA4 (Zj (Zt (Zw ?_)))))))));obtain rfl:=Zl Ap;exact ⟨_,Zy,Af.x,_,_,_,_,rfl,(Af.o2 p0),Af.s.sel [0] Zk⟩
end Go.Proofs.YtdkldlbgcfpglaaGreatDoor
