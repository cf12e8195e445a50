/-
  Texts of a proof, joined. Conditions stand in each statement.
-/
import Derived.Test.YtdkldlbgcfpglaaGreatDoorMJordanRefuses2
set_option linter.unusedVariables false
set_option linter.unusedSimpArgs false
namespace Go.Proofs.YtdkldlbgcfpglaaGreatDoor
open Go Go.QF
set_option maxRecDepth 100000
set_option maxHeartbeats 4000000
abbrev LnN:=List (List Nat)
abbrev LnA:=List Nat
abbrev LvA:=List Value
abbrev LiI:=List (List Int)
abbrev LiA:=List Int
theorem Zm {α:Type _} {a b:α} (h:some a=some b):a=b:=Option.some.inj h
theorem tt2 {α:Sort _} {β:α->Sort _}:∀ x,β x->True:=fun _ _=>trivial
def ACu (fuel:Nat) (a1 a5:Int):Option Int:=
  ((ATe fuel a1 a5).bind fun (Ac,Ad,Ae)=>(some Ac))
theorem AIe {fuel:Nat} {h:Zv} {Ad:Value} {a1:Int} {Af:Value} {a5 r:Int} (H3:ZZ h Ad a1) (H7:ZZ h Af a5) (hp:ACu fuel a1 a5=some r):AAw Tryz.prog 107 #[Ad,Af] h (fun x h'=>Ext h h'/\ ∃ (x0:Value),x=x0/\ZZ h' x0 r):=by
 unfold ACu at hp;obtain ⟨Ar,rfl,Ai⟩:=H3.cs;obtain ⟨Au,rfl,Aj⟩:=H7.cs;refine cwf (l:=[_,_]) Tryz.func107 rfl rfl (Zo (AHb (Kst.k0 h) Ar fun b9 Bc Be Av=>AHb Av Au fun Bf Bg Bh Aw=>AC4 Aw [.bool false,.slice none 0 0] AE3 fun Bi Bj Bl Aa=>AId (AK6 (Aa.zx Ai) (Aa.b p2) (AK6 (Aa.zx Aj) (Aa.b p1) ?_))));obtain ⟨⟨Bm,Bn,Bo⟩,Ax,Ak⟩:=Zq hp;dsimp only at Ak;refine ANz rfl (Acq (Aa.zx Ai).2 (Aa.zx Aj).2 Ax) fun Bp Bq Ay Az=>?_;obtain ⟨Br,Bt,rfl,A3,A4⟩:=Az;obtain ⟨Bu,rfl,A5⟩:=A3.cs;obtain ⟨Bv,rfl,A6⟩:=A4.cs;refine Zk (ABl rfl rfl (ABl rfl rfl (ABl rfl rfl (AC4 (((Aa.e Ay).az A5).az A6) [.bool false,.slice none 0 0] AE3 fun Bw Bx By A7=>AC4 A7 [.bool false,.slice none 0 0] AE3 fun Bz A8 B1 Am=>AGd Am p1 (AAf A8) (Am.z p3) fun A9 Ao=>AGd Ao p0 (AAf A9) (Ao.z p2) fun Ba Ab=>AA5 (AK6 (Ab.z p3) (Ab.b p1) (AGd Ab p4 (AAf Ba) (Ab.z p3) fun B3 Ac=>Zs (Zx ?_)))))));obtain rfl:=Zm Ak;exact ⟨_,ACg ABn (cZ.klen (Ac.z p3)) rfl (Ac.b p4),Ac.x,_,rfl,(Ac.z p3).2⟩
def AD2 (fuel:Nat) (a1 a5:Int):Option Int:=
  ((ATe fuel a1 a5).bind fun (Ad,Ac,Ae)=>(some Ac))
theorem AO5 {fuel:Nat} {h:Zv} {Ad:Value} {a1:Int} {Af:Value} {a5 r:Int} (H3:ZZ h Ad a1) (H7:ZZ h Af a5) (hp:AD2 fuel a1 a5=some r):AAw Tryz.prog 170 #[Ad,Af] h (fun x h'=>Ext h h'/\ ∃ (x0:Value),x=x0/\ZZ h' x0 r):=by
 unfold AD2 at hp;obtain ⟨Ar,rfl,Ai⟩:=H3.cs;obtain ⟨Au,rfl,Aj⟩:=H7.cs;refine cwf (l:=[_,_]) Tryz.func170 rfl rfl (Zo (AHb (Kst.k0 h) Ar fun b9 Bc Be Av=>AHb Av Au fun Bf Bg Bh Aw=>AC4 Aw [.bool false,.slice none 0 0] AE3 fun Bi Bj Bl Aa=>AId (AK6 (Aa.zx Ai) (Aa.b p2) (AK6 (Aa.zx Aj) (Aa.b p1) ?_))));obtain ⟨⟨Bm,Bn,Bo⟩,Ax,Ak⟩:=Zq hp;dsimp only at Ak;refine ANz rfl (Acq (Aa.zx Ai).2 (Aa.zx Aj).2 Ax) fun Bp Bq Ay Az=>?_;obtain ⟨Br,Bt,rfl,A3,A4⟩:=Az;obtain ⟨Bu,rfl,A5⟩:=A3.cs;obtain ⟨Bv,rfl,A6⟩:=A4.cs;refine Zk (ABl rfl rfl (ABl rfl rfl (ABl rfl rfl (AC4 (((Aa.e Ay).az A5).az A6) [.bool false,.slice none 0 0] AE3 fun Bw Bx By A7=>AC4 A7 [.bool false,.slice none 0 0] AE3 fun Bz A8 B1 Am=>AGd Am p1 (AAf A8) (Am.z p3) fun A9 Ao=>AGd Ao p0 (AAf A9) (Ao.z p2) fun Ba Ab=>AA5 (AK6 (Ab.z p2) (Ab.b p0) (AGd Ab p4 (AAf Ba) (Ab.z p2) fun B3 Ac=>Zs (Zx ?_)))))));obtain rfl:=Zm Ak;exact ⟨_,ACg ABn (cZ.klen (Ac.z p2)) rfl (Ac.b p4),Ac.x,_,rfl,(Ac.z p2).2⟩
def AK7 (fuel:Nat) (a1 a2 Aa:Int) (Ac:LiI):Option ((Int × LiI) ⊕ ((LiI))):=
  (if Aa < ((List.replicate (Int.toNat a1) ([]:List Int)).length:Int) then (if 0<=a2/\a2<=100000000 then ((gI Ac Aa).bind fun Ae=>(some (Sum.inl ((w64 (Aa + 1)),(sI Ac Aa (List.replicate (Int.toNat a2) (0:Int))))))) else none) else (some (Sum.inr<| Ac)))
def ADm (fuel:Nat) (a1 a2:Int):Option LiI:=
  (if 0<=a1/\a1<=100000000 then ((iter (fun s=>AK7 fuel a1 a2 s.1 s.2) fuel (0,(List.replicate (Int.toNat a1) ([]:List Int)))).bind (fun (Ac:LiI)=>(some Ac))) else none)
theorem AHs {fuel:Nat} {h:Zv} {a1 a2:Int} {r:LiI} (hp:ADm fuel a1 a2=some r):AAw Tryz.prog 92 #[(.int .i64 a1),(.int .i64 a2)] h (fun x h'=>Ext h h'/\ ∃ (x0:Value) (F0:List Nat) (Ak:List LnA) (Am:List Value),x=x0/\ACy cZ 128 94 h' F0 Ak Am x0 r/\Sp h' h.size [F0]):=by
 unfold ADm at hp;refine cwf (l:=[_,_]) Tryz.func92 rfl rfl (Zo (AA5 (Zk ?_)));obtain ⟨Ao,Ap⟩:=ifN hp;refine ASh cZ 94 ABz Afk rfl trivial tt2 rfl rfl Zl Ao fun Aq Ar Au v9 h7 I8 E5 S6=>Zu (Zp (Zo (Zk ?_)));have Ad:=(Kst.k0 h).no2 E5 S6 I8;refine AA6 ABz rfl (Ad.o2 p0).rd (Zk (Zs (Zt (AFo 1046592 (fun x:(Int) × (LiI) × LnA × LnN × LvA=>(x.1,x.2.1)) ((0,(List.replicate (Int.toNat a1) ([]:List Int)),Aq,Ar,Au):(Int) × (LiI) × LnA × LnN × LvA) Ap (fun x=>[(11,(.int .i64 x.1))]) (fun x=>Ad.L.set 0 (aO2 cZ 128 94 x.2.2.1 x.2.2.2.1 x.2.2.2.2 v9 x.2.1)) Ad ⟨rfl,trivial⟩ ?_))));rintro ⟨Bg,Bh,Bi,Bj,Bl⟩ Bm Bn Bo Ab Ae Az;unfold AK7 at Ae;refine Zo (AAv rfl rfl (Zs (Zp (⟨_,rfl,fun Af=>?_,fun Af=>?_⟩))))
 ·refine Zw (q_t (Zp (Zt (Zo (Zk (Zu (AAc (Zk (Zk (Zk ?_))))))))));obtain ⟨A3,A4⟩:=ifN (AA8 Ae Af);refine Ahe AC9 AE3 rfl trivial tt2 rfl rfl Zl A3 fun Bp Bq Br A5 A6 A7 A8=>?_;have Aa:=Ab.no A6 (AE8 A7 A8) A5;obtain ⟨Bt,Aj,A9⟩:=Zq A4;refine ADb ABz rfl (Aa.o2 p1) rfl Aj fun Bu Bv Ba Bw Bx=>ASg AD1 (Aa.o2 p1) Aj Ba rfl rfl (Aa.o p0) (Aa.dj p0 p1 Zl) fun By Bb Bc Be=>AAo (q_b (q_t (AAc (AAx rfl rfl (Zk (Zs ?_))))));exact ⟨(_,_,_,_,_),(Zm A9).symm,(Aa.m2 p0 p1 Zl Bc Bb (fun z hz=> .inl (Be z hz))).sel [1] Zl,rfl,trivial⟩
 ·refine AAj (AAk (AAk (ABm (q_t (Zo (Zk (Zu (Zx ?_))))))));obtain rfl:=Zm (Az _ (Zm (AA9 Ae Af)).symm);exact ⟨_,Zz,Ab.x,_,_,_,_,rfl,(Ab.o2 p0),Ab.s.sel [0] Zl⟩
def AIf (fuel:Nat) (a3:LiI) (Ab:Int) (Af:LiA) (Aa:Int) (Ac:LiI):Option ((Int × LiI) ⊕ ((LiI))):=
  (if Aa < (Af.length:Int) then ((gI Ac Ab).bind fun Ad=>((gI a3 Ab).bind fun Ag=>((gI Ag Aa).bind fun Ah=>((AKy fuel Ah).bind fun Ai=>((gI Ad Aa).bind fun Aj=>(some (Sum.inl ((w64 (Aa + 1)),(sI Ac Ab (sI Ad Aa Ai)))))))))) else (some (Sum.inr<| Ac)))
def AIg (fuel:Nat) (a3:LiI) (Aa:Int) (Ac:LiI):Option ((Int × LiI) ⊕ ((LiI))):=
  (if Aa < (a3.length:Int) then ((gI a3 Aa).bind fun Ad=>((iter (fun s=>AIf fuel a3 Aa Ad s.1 s.2) fuel (0,Ac)).bind (fun (Ae:LiI)=>(some (Sum.inl ((w64 (Aa + 1)),Ae)))))) else (some (Sum.inr<| Ac)))
def AIh (fuel:Nat) (a3:LiI) (Ab:Int):Option ((Int) ⊕ (((LiI × Bool)) ⊕ (Unit))):=
  (if Ab < (a3.length:Int) then ((gI a3 Ab).bind fun Ac=>(if (Ac.length:Int) < 1 then (some (Sum.inr<| Sum.inl <| ([],false))) else (if 16 < (Ac.length:Int) then (some (Sum.inr<| Sum.inl <| ([],false))) else ((gI a3 0).bind fun Ad=>(if ¬ (Ac.length:Int)=(Ad.length:Int) then (some (Sum.inr<| Sum.inl <| ([],false))) else (some (Sum.inl (w64 (Ab + 1))))))))) else (some (Sum.inr<| Sum.inr <| ())))
def ACc (fuel:Nat) (a3:LiI):Option (LiI × Bool):=
  (((if (a3.length:Int) < 1 then (some (Sum.inl <| ([],false))) else (if 16 < (a3.length:Int) then (some (Sum.inl <| ([],false))) else (some (Sum.inr <| ())))):Option (((LiI × Bool)) ⊕ (Unit))).bind (fun ex=>match ex with | Sum.inl Ab=>(some Ab) | Sum.inr (_)=>((iter (fun s=>AIh fuel a3 s) fuel 0).bind (fun ex=>match ex with | Sum.inl Ac=>(some Ac) | Sum.inr (_)=>((gI a3 0).bind fun Ad=>((ADm fuel (a3.length:Int) (Ad.length:Int)).bind fun Ae=>((iter (fun s=>AIg fuel a3 s.1 s.2) fuel (0,Ae)).bind (fun (Af:LiI)=>(some (Af,true))))))))))
theorem AMu {fuel:Nat} {h:Zv} {Ba:Value} {a3:LiI} {r:(LiI × Bool)} (H2:ACx (cI .i64) h Ba a3) (hp:ACc fuel a3=some r):AAw Tryz.prog 48 #[Ba] h (fun x h'=>Ext h h'/\ ∃ (x0:Value) (F0:List Nat) (Bq:List LnA) (Br:List Value),x= .tuple #[x0,.bool r.2]/\ACy cZ 128 94 h' F0 Bq Br x0 r.1/\Sp h' h.size [F0]):=by
 unfold ACc at hp;refine cwf (l:=[_]) Tryz.func48 rfl rfl (Zo (AAn (Zu ?_)));have K0:=Kst.k0 h;obtain ⟨Bt,Be,Ao⟩:=Zq hp;refine AKi 130572 (fun x:Unit=>[]) (fun x h'=>(Sum.inr <| ())=Bt/\Kst h h' (K0.L)) ?_ ?_
 ·refine Zo (Zk (AA6 AAg rfl H2 (AAv rfl rfl (Zk ?_))));by_cases Ag:(a3.length:Int) < 1
  ·rw [decide_eq_true Ag];refine AC8 12 true (AAa rfl (Zs (AAr rfl (Zo (AAn (Zu ?_))))));obtain rfl:=Zm (ifT Be Ag);refine Zx (AAd ?_);have Ap:=Kst.anil2 cZ 128 94 K0;obtain rfl:=Zm Ao;exact ⟨_,ABi,Ap.x,_,_,_,_,rfl,(Ap.o2 p0),Ap.s.sel [0] Zl⟩
  ·have Bf:=ifF Be Ag;rw [decide_eq_false Ag];refine Z4 12 false (Zk (Z4 12 false (AA6 AAg rfl H2 (Z4 12 false (AF1 rfl rfl (Z1 rfl (Zs (⟨_,rfl,fun Aq=>?_,fun Aq=>?_⟩))))))))
   ·refine Zo (AAn (Zu ?_));obtain rfl:=Zm (AA8 Bf Aq);refine Zx (AAd ?_);have Ar:=Kst.anil2 cZ 128 94 K0;obtain rfl:=Zm Ao;exact ⟨_,ABi,Ar.x,_,_,_,_,rfl,(Ar.o2 p0),Ar.s.sel [0] Zl⟩
   ·refine Zw (q_t ?_);exact ⟨(():Unit),⟨Zm (AA9 Bf Aq),K0⟩,trivial⟩
 rintro ⟨⟩ C3 C4 ⟨Bu,Bg⟩;subst Bu;refine Zp (Zo (Zk (AA6 AAg rfl H2 (Zk (Zs (Zt (AG5 2199022731308 Ao (fun x=>[(19,(.int .i64 x))]) (fun x=>Bg.L) Bg ⟨rfl,trivial⟩ ?_)))))));rintro C5 C6 C7 C8 Ab Au Ah;unfold AIh at Au;refine Zo (AAv rfl rfl (Zs (Zp (⟨_,rfl,fun Av=>?_,fun Av=>?_⟩))))
 ·refine Zw (q_t (Zp (Zt (Zo ?_))));obtain ⟨Bh,Bv,Bi⟩:=Zq (AA8 Au Av);refine AGh AAg AA3 H2 Ab.x Bv fun _ C9 Aw=>AA5 (Zk (ABj AAi rfl Aw (AAv rfl rfl (Zk ?_))));by_cases Ai:(Bh.length:Int) < 1
  ·rw [decide_eq_true Ai];refine AC8 26 true (AAa rfl (Zk (ADf 31 true (AG3 31 true (AAa rfl (Zs (AAr rfl (Zo (AAn (Zu (Zx (ABg (AAd (AAd (ABg (AAd ?_))))))))))))))));have Ax:=Kst.anil2 cZ 128 94 Ab;obtain rfl:=Zm (Ah _ (Zm (ifT Bi Ai)).symm);exact ⟨_,ABi,Ax.x,_,_,_,_,rfl,(Ax.o2 p0),Ax.s.sel [0] Zl⟩
  ·have Bj:=ifF Bi Ai;rw [decide_eq_false Ai];refine Z4 26 false (Zk (Z4 26 false (ABj AAi rfl Aw (Z4 26 false (AF1 rfl rfl (Z1 rfl (Zk ?_)))))));by_cases Aj:16 < (Bh.length:Int)
   ·rw [decide_eq_true Aj];refine ADf 31 true (AG3 31 true (AAa rfl (Zs (AAr rfl (Zo (AAn (Zu (Zx (ABg (AAd (AAd (ABg (AAd ?_)))))))))))));have Ay:=Kst.anil2 cZ 128 94 Ab;obtain rfl:=Zm (Ah _ (Zm (ifT Bj Aj)).symm);exact ⟨_,ABi,Ay.x,_,_,_,_,rfl,(Ay.o2 p0),Ay.s.sel [0] Zl⟩
   ·rw [decide_eq_false Aj];refine Z4 31 false (Zk (Z4 31 false (ABj AAi rfl Aw (Z4 31 false (Zk (Z4 31 false ?_))))));obtain ⟨Da,Bw,Bl⟩:=Zq (ifF Bj Aj);refine ATc AAg rfl H2 rfl Bw fun Db Dc Dd Bx By=>Z4 31 false (AA7 AA3 rfl (AAz Bx Ab.x) (Z4 31 false (ABj AAi rfl By (Z4 31 false (ACp rfl rfl (Z1 rfl (Zs (⟨_,rfl,fun Az=>?_,fun Az=>?_⟩))))))))
    ·refine Zo (AAn (Zu (Zx (ABg (AAd (AAd (ABg (AAd ?_))))))));have A3:=Kst.anil2 cZ 128 94 Ab;obtain rfl:=Zm (Ah _ (Zm (AA8 Bl Az)).symm);exact ⟨_,ABi,A3.x,_,_,_,_,rfl,(A3.o2 p0),A3.s.sel [0] Zl⟩
    ·refine Zw (q_b (q_t (AAc (AAx rfl rfl (Zk (Zs ?_))))));exact ⟨_,(Zm (AA9 Bl Az)).symm,Ab,rfl,trivial⟩
 ·refine AAj (AAk (AAk (ABm (q_t (Zo (Zk (AA6 AAg rfl H2 (Zk ?_))))))));obtain ⟨De,Bz,B1⟩:=Zq (Ah _ (Zm (AA9 Au Av)).symm);refine AGh AAg AA3 H2 Ab.x Bz fun _ Df B3=>ABj AAi rfl B3 ?_;obtain ⟨B4,B5,B6⟩:=Zq B1;refine AM5 Ab (AHs B5) fun B7 B8 B9 Bm Dg Dh Bn=>Zu (Zp (Zo (Zk (AA6 AAg rfl H2 (Zk (Zs (Zt (AFo 151115726325928739996032 (fun x:(Int) × (LiI) × LnA × LnN × LvA=>(x.1,x.2.1)) ((0,B4,B7,B8,B9):(Int) × (LiI) × LnA × LnN × LvA) B6 (fun x=>[(50,(.int .i64 x.1))]) (fun x=>Bn.L.set 0 (aO2 cZ 128 94 x.2.2.1 x.2.2.2.1 x.2.2.2.2 Bm x.2.1)) Bn ⟨rfl,trivial⟩ ?_))))))));rintro ⟨Bo,Ca,Cb,Cd,Ce⟩ Di Dj Dk Ac A4 Cf;unfold AIg at A4;refine Zo (AAv rfl rfl (Zs (Zp (⟨_,rfl,fun A5=>?_,fun A5=>?_⟩))))
  ·refine Zw (q_t (Zp (Zt (Zo (Zk (AA5 (Zk (Zk ?_))))))));obtain ⟨Dl,Cg,Ch⟩:=Zq (AA8 A4 A5);refine AGh AAg AA3 H2 Ac.x Cg fun _ Do Ci=>ABj AAi rfl Ci (Zk (Zs (Zt (AFo 75557575495538171707648 (fun x:(Int) × (LiI) × LnA × LnN × LvA=>(x.1,x.2.1)) ((0,Ca,Cb,Cd,Ce):(Int) × (LiI) × LnA × LnN × LvA) Ch (fun x=>[(58,(.int .i64 x.1))]) (fun x=>Ac.L.set 0 (aO2 cZ 128 94 x.2.2.1 x.2.2.2.1 x.2.2.2.2 Bm x.2.1)) Ac ⟨rfl,trivial⟩ ?_))));rintro ⟨Dp,Dq,Dr,Ds,Dt⟩ Du A6 Dv Ad A7 Cj;unfold AIf at A7;refine Zo (AAv rfl rfl (Zs (Zp (⟨_,rfl,fun A8=>?_,fun A8=>?_⟩))))
   ·refine Zw (q_t (Zp (Zt (Zo (Zk (Zu (ACj (fun h'=>UpT [] A6 h') Zy ?_)))))));have Ak:UpT [] A6 A6:=UpT.start all_nil;refine Zk (Zk ?_);obtain ⟨Dw,A9,Ck⟩:=Zq (AA8 A7 A8);refine ADb ABz rfl (Ad.o2 p0) rfl A9 fun Dx Dy Dz Cm Cn=>ACl AD1 rfl Ak (fun h' hb=>AAz Cn hb.ext) (Zk (Zk (Zk ?_)));obtain ⟨D0,Co,Cp⟩:=Zq Ck;refine ATc AAg rfl H2 rfl Co fun D1 D2 D3 Cq Cr=>ACl AA3 rfl Ak (fun h' hb=>AAz Cq (Ad.x.trans hb.ext)) (Zk ?_);obtain ⟨D4,Ct,Cu⟩:=Zq Cp;refine AI2 (c:=(cI .i64)) AAi rfl Cr rfl Ct fun D5 D6 D7 Cv Cw=>?_;obtain rfl:=Cv;refine ACl AAl rfl Ak (fun h' hb=>AAz (Cw 0 _ rfl) (Ad.x.trans hb.ext)) ?_;obtain ⟨D8,Cx,Cy⟩:=Zq Cu;refine AFn Ad Ak (AJ6 Cx) fun D9 Ea Eb Ae Ec=>?_;obtain ⟨Ed,Bp,Cz⟩:=Zq Cy;refine AE9 (m:=Bo) AC9 rfl (Ad.o2 p0) Cm A9 rfl Bp fun Ee C0=>ANv (m:=Bo) (ASf ABn (cZ.klen (Ae.z p0)) rfl rfl (cZ.one (Ae.z p0))) (Ae.o2 p1) C0 A9 Bp (Ae.z p0) fun Ef C1 C2=>AAo (q_b (q_t (AAc (AAx rfl rfl (Zk (Zs ?_))))));exact ⟨(_,_,_,_,_),(Zm Cz).symm,(Ae.uO2 p1 C2 C1).sel [1] Zl,rfl,trivial⟩
   ·refine AAj (AAk (AAk (ABm (q_b (q_t (AAc (AAx rfl rfl (Zk (Zs ?_)))))))));exact ⟨(_,_,_,_,_),(Zm (Cj _ (Zm (AA9 A7 A8)).symm)).symm,Ad,rfl,trivial⟩
  ·refine AAj (AAk (AAk (ABm (q_t (Zo (Zk (AAn (Zu (Zx ?_)))))))));obtain rfl:=Zm (Cf _ (Zm (AA9 A4 A5)).symm);exact ⟨_,ABi,Ac.x,_,_,_,_,rfl,(Ac.o2 p0),Ac.s.sel [0] Zl⟩
def ADt (fuel:Nat) (a3:LiI):Option LiI:=
  ((ACc fuel a3).bind fun (x5,x6)=>(some x5))
theorem AJe {fuel:Nat} {h:Zv} {Ab:Value} {a3 r:LiI} (H2:ACx (cI .i64) h Ab a3) (hp:ADt fuel a3=some r):AAw Tryz.prog 25 #[Ab] h (fun x h'=>Ext h h'/\ ∃ (x0:Value) (F0:List Nat) (Ai:List LnA) (Aj:List Value),x=x0/\ACy cZ 128 94 h' F0 Ai Aj x0 r/\Sp h' h.size [F0]):=by
 unfold ADt at hp;refine cwf (l:=[_]) Tryz.func25 rfl rfl (Zo (AA5 (Zk ?_)));have K0:=Kst.k0 h;obtain ⟨⟨x5,x6⟩,Ak,Ag⟩:=Zq hp;dsimp only at Ag;refine ANz rfl (AMu (H2.ext K0.x) Ak) fun Av Aw E9 Ao=>?_;obtain ⟨Ax,Ay,Az,A3,rfl,Ap,Aq⟩:=Ao;refine Zk (ABl rfl rfl (ABl rfl rfl (AAn (AA5 (Zk (Zu (Zx ?_)))))));have Aa:=K0.no2 E9 Aq Ap;obtain rfl:=Zm Ag;exact ⟨_,Zz,Aa.x,_,_,_,_,rfl,(Aa.o2 p0),Aa.s.sel [0] Zl⟩
def AFp (fuel:Nat) (a3:LiI) (Ab:Int):Option ((Int) ⊕ (((Int × Int × Bool)) ⊕ (Unit))):=
  (if Ab < (a3.length:Int) then ((gI a3 Ab).bind fun Ac=>(if (Ac.length:Int) < 1 then (some (Sum.inr<| Sum.inl <| (0,0,false))) else (if 16 < (Ac.length:Int) then (some (Sum.inr<| Sum.inl <| (0,0,false))) else ((gI a3 0).bind fun Ad=>(if ¬ (Ac.length:Int)=(Ad.length:Int) then (some (Sum.inr<| Sum.inl <| (0,0,false))) else (some (Sum.inl (w64 (Ab + 1))))))))) else (some (Sum.inr<| Sum.inr <| ())))
def AB7 (fuel:Nat) (a3:LiI):Option (Int × Int × Bool):=
  (((if (a3.length:Int) < 1 then (some (Sum.inl <| (0,0,false))) else (if 16 < (a3.length:Int) then (some (Sum.inl <| (0,0,false))) else (some (Sum.inr <| ())))):Option (((Int × Int × Bool)) ⊕ (Unit))).bind (fun ex=>match ex with | Sum.inl Ab=>(some Ab) | Sum.inr (_)=>((iter (fun s=>AFp fuel a3 s) fuel 0).bind (fun ex=>match ex with | Sum.inl Ac=>(some Ac) | Sum.inr (_)=>((gI a3 0).bind fun Ad=>(some ((a3.length:Int),(Ad.length:Int),true)))))))
theorem AHe {fuel:Nat} {h:Zv} {Aq:Value} {a3:LiI} {r:(Int × Int × Bool)} (H2:ACx cZ h Aq a3) (hp:AB7 fuel a3=some r):AAw Tryz.prog 116 #[Aq] h (fun x h'=>Ext h h'/\x= .tuple #[.int .i64 r.1,.int .i64 r.2.1,.bool r.2.2]):=by
 unfold AB7 at hp;refine cwf (l:=[_]) Tryz.func116 rfl rfl (Zo (AAn (AAn (Zu ?_))));have K0:=Kst.k0 h;obtain ⟨A3,Ar,Ai⟩:=Zq hp;refine AKi 32668 (fun x:Unit=>[]) (fun x h'=>(Sum.inr <| ())=A3/\Kst h h' (K0.L)) ?_ ?_
 ·refine Zo (Zk (AA6 ABz rfl H2 (AAv rfl rfl (Zk ?_))));by_cases Ad:(a3.length:Int) < 1
  ·rw [decide_eq_true Ad];refine AC8 10 true (AAa rfl (Zs (AAr rfl (Zo (AAn (AAn (Zu ?_)))))));obtain rfl:=Zm (ifT Ar Ad);refine Zx (AAd ?_);obtain rfl:=Zm Ai;exact ⟨_,AKh,K0.x,rfl⟩
  ·have Au:=ifF Ar Ad;rw [decide_eq_false Ad];refine Z4 10 false (Zk (Z4 10 false (AA6 ABz rfl H2 (Z4 10 false (AF1 rfl rfl (Z1 rfl (Zs (⟨_,rfl,fun Aj=>?_,fun Aj=>?_⟩))))))))
   ·refine Zo (AAn (AAn (Zu ?_)));obtain rfl:=Zm (AA8 Au Aj);refine Zx (AAd ?_);obtain rfl:=Zm Ai;exact ⟨_,AKh,K0.x,rfl⟩
   ·refine Zw (q_t ?_);exact ⟨(():Unit),⟨Zm (AA9 Au Aj),K0⟩,trivial⟩
 rintro ⟨⟩ Bc Be ⟨A4,Av⟩;subst A4;refine Zp (Zo (Zk (AA6 ABz rfl H2 (Zk (Zs (Zt (AG5 549755682908 Ai (fun x=>[(17,(.int .i64 x))]) (fun x=>Av.L) Av ⟨rfl,trivial⟩ ?_)))))));rintro Bf Bg Bh Bi Aa Ak Ae;unfold AFp at Ak;refine Zo (AAv rfl rfl (Zs (Zp (⟨_,rfl,fun Am=>?_,fun Am=>?_⟩))))
 ·refine Zw (q_t (Zp (Zt (Zo ?_))));obtain ⟨Aw,A5,Ax⟩:=Zq (AA8 Ak Am);refine AGh ABz AD1 H2 Aa.x A5 fun _ Bj Ao=>AA5 (Zk (ABj AC9 rfl Ao (AAv rfl rfl (Zk ?_))));by_cases Af:(Aw.length:Int) < 1
  ·rw [decide_eq_true Af];refine AC8 24 true (AAa rfl (Zk (ADf 29 true (AG3 29 true (AAa rfl (Zs (AAr rfl (Zo (AAn (AAn (Zu (Zx (ABg (AAd (AAd (ABg (AAd ?_)))))))))))))))));obtain rfl:=Zm (Ae _ (Zm (ifT Ax Af)).symm);exact ⟨_,AKh,Aa.x,rfl⟩
  ·have Ay:=ifF Ax Af;rw [decide_eq_false Af];refine Z4 24 false (Zk (Z4 24 false (ABj AC9 rfl Ao (Z4 24 false (AF1 rfl rfl (Z1 rfl (Zk ?_)))))));by_cases Ag:16 < (Aw.length:Int)
   ·rw [decide_eq_true Ag];refine ADf 29 true (AG3 29 true (AAa rfl (Zs (AAr rfl (Zo (AAn (AAn (Zu (Zx (ABg (AAd (AAd (ABg (AAd ?_))))))))))))));obtain rfl:=Zm (Ae _ (Zm (ifT Ay Ag)).symm);exact ⟨_,AKh,Aa.x,rfl⟩
   ·rw [decide_eq_false Ag];refine Z4 29 false (Zk (Z4 29 false (ABj AC9 rfl Ao (Z4 29 false (Zk (Z4 29 false ?_))))));obtain ⟨Bl,A6,Az⟩:=Zq (ifF Ay Ag);refine ATc ABz rfl H2 rfl A6 fun Bm Bn Bo A7 A8=>Z4 29 false (AA7 AD1 rfl (AAz A7 Aa.x) (Z4 29 false (ABj AC9 rfl A8 (Z4 29 false (ACp rfl rfl (Z1 rfl (Zs (⟨_,rfl,fun Ap=>?_,fun Ap=>?_⟩))))))))
    ·refine Zo (AAn (AAn (Zu (Zx (ABg (AAd (AAd (ABg (AAd ?_)))))))));obtain rfl:=Zm (Ae _ (Zm (AA8 Az Ap)).symm);exact ⟨_,AKh,Aa.x,rfl⟩
    ·refine Zw (q_b (q_t (AAc (AAx rfl rfl (Zk (Zs ?_))))));exact ⟨_,(Zm (AA9 Az Ap)).symm,Aa,rfl,trivial⟩
 ·refine AAj (AAk (AAk (ABm (q_t (Zp (AGe (Zk (AA6 ABz rfl H2 (Zk ?_)))))))));obtain ⟨Bp,A9,Ba⟩:=Zq (Ae _ (Zm (AA9 Ak Am)).symm);refine AGh ABz AD1 H2 Aa.x A9 fun _ Bq Bb=>ABj AC9 rfl Bb (AAn (AAn (Zu (Zx ?_))));obtain rfl:=Zm Ba;exact ⟨_,AKh,Aa.x,rfl⟩
def ADu (fuel:Nat) (a3:LiI):Option (Int × Bool):=
  ((AB7 fuel a3).bind fun (x5,x6,x7)=>(if (!x7)=true then (some (0,false)) else (if ¬ x5=x6 then (some (0,false)) else (some (x5,true)))))
theorem ANq {fuel:Nat} {h:Zv} {Ad:Value} {a3:LiI} {r:(Int × Bool)} (H2:ACx cZ h Ad a3) (hp:ADu fuel a3=some r):AAw Tryz.prog 94 #[Ad] h (fun x h'=>Ext h h'/\x= .tuple #[.int .i64 r.1,.bool r.2]):=by
 unfold ADu at hp;refine cwf (l:=[_]) Tryz.func94 rfl rfl (Zo (AAn (AA5 (Zk ?_))));have K0:=Kst.k0 h;obtain ⟨⟨x5,x6,x7⟩,Ak,Aa⟩:=Zq hp;dsimp only at Aa;refine ACa K0 (AHe (H2.ext K0.x) Ak) fun Ap Aq Ab=>Zk (ABl rfl rfl (ABl rfl rfl (ABl rfl rfl (AAn (AAn (Zu (Zp (Zo (Zk (ACr rfl (Zk ?_)))))))))));cases Ag:(!x7)
 ·refine Z4 15 false (Zk (Z4 15 false (Zk (Z4 15 false (ACp rfl rfl (Z1 rfl (Zs ?_)))))));have Ah:=AFe Aa Ag;refine ⟨_,rfl,fun Ac=>?_,fun Ac=>?_⟩
  ·refine Zo (AAn (Zu (Zx (AAd ?_))));obtain rfl:=Zm (AA8 Ah Ac);exact ⟨_,ABi,Ab.x,rfl⟩
  ·refine Zw (q_t (Zo (Zk (AAn (Zu (Zx ?_))))));obtain rfl:=Zm (AA9 Ah Ac);exact ⟨_,ABi,Ab.x,rfl⟩
 ·refine AC8 15 true (AAa rfl (Zs (AAr rfl (Zo (AAn (Zu (Zx (AAd ?_))))))));obtain rfl:=Zm (ifT Aa Ag);exact ⟨_,ABi,Ab.x,rfl⟩
def AK8 (fuel:Nat) (Ac:Int) (Ad:LiA) (Aa:Int) (Ab:LiI):Option ((Int × LiI) ⊕ ((LiI))):=
  (if Aa < (Ad.length:Int) then ((gI Ad Aa).bind fun Af=>((gI Ab Ac).bind fun Ae=>((ASi fuel Af).bind fun Ag=>(if Ae.length<=100000000 then (some (Sum.inl ((w64 (Aa + 1)),(sI Ab Ac (Ae ++ [Ag]))))) else none)))) else (some (Sum.inr<| Ab)))
def AK9 (fuel:Nat) (a3:LiI) (Aa:Int) (Ac:LiI):Option ((Int × LiI) ⊕ ((LiI))):=
  (if Aa < (a3.length:Int) then ((gI a3 Aa).bind fun Ad=>((iter (fun s=>AK8 fuel Aa Ad s.1 s.2) fuel (0,Ac)).bind (fun (Ae:LiI)=>(some (Sum.inl ((w64 (Aa + 1)),Ae)))))) else (some (Sum.inr<| Ac)))
def AF4 (fuel:Nat) (a3:LiI):Option LiI:=
  (if 0<=(a3.length:Int)/\(a3.length:Int)<=100000000 then ((iter (fun s=>AK9 fuel a3 s.1 s.2) fuel (0,(List.replicate (Int.toNat (a3.length:Int)) ([]:List Int)))).bind (fun (Ab:LiI)=>(some Ab))) else none)
theorem AOi {fuel:Nat} {h:Zv} {Aq:Value} {a3 r:LiI} (H2:ACx cZ h Aq a3) (hp:AF4 fuel a3=some r):AAw Tryz.prog 57 #[Aq] h (fun x h'=>Ext h h'/\ ∃ (x0:Value) (F0:List Nat) (A4:List LnA) (A5:List Value),x=x0/\ACy cZ 128 94 h' F0 A4 A5 x0 r/\Sp h' h.size [F0]):=by
 unfold AF4 at hp;refine cwf (l:=[_]) Tryz.func57 rfl rfl (Zo (AA5 (Zk (AA6 ABz rfl H2 ?_))));obtain ⟨A6,A7⟩:=ifN hp;refine ASh cZ 94 ABz Afk rfl trivial tt2 rfl rfl Zl A6 fun A8 A9 Ba v11 h9 Bb E7 S8=>Zu (Zp (Zo (Zk (AA6 ABz rfl H2 (Zk (Zs (Zt ?_)))))));have Av:=(Kst.k0 h).no2 E7 S8 Bb;refine AFo 137438949456 (fun x:(Int) × (LiI) × LnA × LnN × LvA=>(x.1,x.2.1)) ((0,(List.replicate (Int.toNat (a3.length:Int)) ([]:List Int)),A8,A9,Ba):(Int) × (LiI) × LnA × LnN × LvA) A7 (fun x=>[(12,(.int .i64 x.1))]) (fun x=>Av.L.set 0 (aO2 cZ 128 94 x.2.2.1 x.2.2.2.1 x.2.2.2.2 v11 x.2.1)) Av ⟨rfl,trivial⟩ ?_;rintro ⟨Cg,Bf,Bg,Bh,Bi⟩ Ch Ci Cj Ab Ah Bj;unfold AK9 at Ah;refine Zo (AAv rfl rfl (Zs (Zp (⟨_,rfl,fun Ai=>?_,fun Ai=>?_⟩))))
 ·refine Zw (q_t (Zp (Zt (Zo (Zk (AA5 (Zk (Zk ?_))))))));obtain ⟨Ck,Bl,Bm⟩:=Zq (AA8 Ah Ai);refine AGh ABz AD1 H2 Ab.x Bl fun _ Cm Aw=>ABj AC9 rfl Aw (Zk (Zs (Zt (AFo 68718428224 (fun x:(Int) × (LiI) × LnA × LnN × LvA=>(x.1,x.2.1)) ((0,Bf,Bg,Bh,Bi):(Int) × (LiI) × LnA × LnN × LvA) Bm (fun x=>[(20,(.int .i64 x.1))]) (fun x=>Ab.L.set 0 (aO2 cZ 128 94 x.2.2.1 x.2.2.2.1 x.2.2.2.2 v11 x.2.1)) Ab ⟨rfl,trivial⟩ ?_))));rintro ⟨Cn,Co,Cp,Cq,Cr⟩ Ct Cu Cv Ad Aj Bn;unfold AK8 at Aj;refine Zo (AAv rfl rfl (Zs (Zp (⟨_,rfl,fun Ak=>?_,fun Ak=>?_⟩))))
  ·refine Zw (q_t (Zp (Zt (Zo ?_))));obtain ⟨Cw,Bo,Bp⟩:=Zq (AA8 Aj Ak);refine AI2 (c:=cZ) AC9 rfl Aw rfl Bo fun Cx Cy Bq Ae Br=>AOe (c:=cZ) ABn rfl (Ad.zx Ae) (fun j u hu=>(AAz (Br j u hu) Ad.x)) (AC4 Ad [.bool false,.slice none 0 0] AE3 fun Cz Bt C0 Ax=>AGd Ax p0 (AAf Bt) (Ax.zx Ae) fun Am Aa=>Zs ?_);obtain ⟨C1,Ao,Bu⟩:=Zq Bp;obtain ⟨Ay,Bv,Bw,Bx,By⟩:=(Aa.o2 p1).rowG Ao;refine ACj (fun h'=>UpT (Ay ++ []) Am h') Zy ?_;have Ac:UpT (Ay ++ []) Am Am:=UpT.start (ACz Bx all_nil);refine Zk (Zk (Zk (Zk (ADb ABz rfl (Aa.o2 p1) rfl Ao fun C2 C3 Bz B1 B3=>ACl AD1 rfl Ac (fun h' hb=>AMi B3 hb (ASw (By _ Bz) ASx)) (AIc Bq ABn (cZ.klen (Aa.zx Ae)) rfl Ac (fun h' hb=>((Aa.b p0).upT hb (Anh (fun b hb hg=>(Aa.dj p0 p1 Zl) b hb (Bw b hg)) Ani)).agg) ?_)))));obtain ⟨C4,B4,B5⟩:=Zq Bu;refine AEo Ac (fun _ E=>Ac.thenE E) rfl (AT7 (Aa.zx Ae).2 B4) fun C5 C6 Az B6=>?_;obtain ⟨C7,rfl,B7⟩:=B6;have A3:=Ac.thenE Az;obtain ⟨C8,rfl,B8⟩:=B7.cs;have Ap:=(Aa.e Az).az B8;obtain ⟨B9,Ca⟩:=ifN B5;refine Akz AC9 AE3 rfl rfl ABz AD1 (Ap.o2 p2) B1 Ao Bv A3 (fun _ U=>A3.then U (ANp rfl)) (fun _=>rfl) rfl (Ap.z p0) (fun _ _=>rfl) (fun _ _=>rfl) rfl Zl B9 fun C9 Da Db Dc Dd De Df Cb Cd Ce=>AAo (q_b (q_t (AAc (AAx rfl rfl (Zk (Zs ?_))))));exact ⟨(_,_,_,_,_),(Zm Ca).symm,(Ap.uo2 p2 Cd Cb Ce).sel [2] Zl,rfl,trivial⟩
  ·refine AAj (AAk (AAk (ABm (q_b (q_t (AAc (AAx rfl rfl (Zk (Zs ?_)))))))));exact ⟨(_,_,_,_,_),(Zm (Bn _ (Zm (AA9 Aj Ak)).symm)).symm,Ad,rfl,trivial⟩
 ·refine AAj (AAk (AAk (ABm (q_t (Zo (Zk (Zu (Zx ?_))))))));obtain rfl:=Zm (Bj _ (Zm (AA9 Ah Ai)).symm);exact ⟨_,Zz,Ab.x,_,_,_,_,rfl,(Ab.o2 p0),Ab.s.sel [0] Zl⟩
def AJs (fuel:Nat) (a3:LiI) (Ac:LiA) (Ae:Int) (Aa:LiA) (Ab:Int):Option ((LiA × Int) ⊕ ((LiA))):=
  (if Ab < (Ac.length:Int) then ((gI Ac Ab).bind fun Af=>((gI a3 Ae).bind fun Ag=>((gI Ag Af).bind fun Ah=>(if Aa.length<=100000000 then (some (Sum.inl ((Aa ++ [Ah]),(w64 (Ab + 1))))) else none)))) else (some (Sum.inr<| Aa)))
def AJt (fuel:Nat) (a3:LiI) (a7 Ae:LiA) (Aa:LiI) (Ab:Int):Option ((LiI × Int) ⊕ ((LiI))):=
  (if Ab < (a7.length:Int) then ((gI a7 Ab).bind fun Af=>((iter (fun s=>AJs fuel a3 Ae Af s.1 s.2) fuel ([],0)).bind (fun (Ag:LiA)=>(if Aa.length<=100000000 then (some (Sum.inl ((Aa ++ [Ag]),(w64 (Ab + 1))))) else none)))) else (some (Sum.inr<| Aa)))
def AEq (fuel:Nat) (a3:LiI) (a7 Ac:LiA):Option LiI:=
  ((iter (fun s=>AJt fuel a3 a7 Ac s.1 s.2) fuel ([],0)).bind (fun (Ad:LiI)=>(some Ad)))
theorem ANr {fuel:Nat} {h:Zv} {Ag:Value} {a3:LiI} {Ai:Value} {a7:LiA} {Ak:Value} {Am:LiA} {r:LiI} (H2:ACx cZ h Ag a3) (H6:SlC (cI .i64) h Ai a7) (Ap:SlC (cI .i64) h Ak Am) (hp:AEq fuel a3 a7 Am=some r):AAw Tryz.prog 149 #[Ag,Ai,Ak] h (fun x h'=>Ext h h'/\ ∃ (x0:Value) (F0:List Nat) (Ay:List LnA) (Az:List Value),x=x0/\ACy cZ 128 94 h' F0 Ay Az x0 r/\Sp h' h.size [F0]):=by
 unfold AEq at hp;refine cwf (l:=[_,_,_]) Tryz.func149 rfl rfl (Zo (AA5 (Zu (Zp (Zo (Zk (ABj AWj rfl H6 (Zk (Zs (Zt ?_))))))))));have Au:=Kst.anil2 cZ 128 94 (Kst.k0 h);refine AFo 2199023228544 (fun x:(LiI) × (Value) × LnA × LnN × LvA × (Int)=>(x.1,x.2.2.2.2.2)) (([],(.slice none 0 0),[],[],[],0):(LiI) × (Value) × LnA × LnN × LvA × (Int)) hp (fun x=>[(7,x.2.1),(15,(.int .i64 x.2.2.2.2.2))]) (fun x=>Au.L.set 0 (aO2 cZ 128 94 x.2.2.1 x.2.2.2.1 x.2.2.2.2.1 x.2.1 x.1)) Au ⟨rfl,rfl,trivial⟩ ?_;rintro ⟨Br,Bt,Bu,Bv,Bw,Bx⟩ By Bz B1 Ab Ac A3;unfold AJt at Ac;refine Zo (AAv rfl rfl (Zs (Zp (⟨_,rfl,fun Ad=>?_,fun Ad=>?_⟩))))
 ·refine Zw (q_t (Zp (Zt (Zo ?_))));obtain ⟨B3,A4,A5⟩:=Zq (AA8 Ac Ad);refine AUs AWj ABv H6 Ab.x A4 fun _=>(AA5 (Zu (Zp (Zo (Zk (ABj AWj rfl Ap (Zk (Zs (Zt ?_)))))))));have Av:=Kst.anil cZ 94 Ab;refine AFo 68717384704 (fun x:(LiA) × (Value) × LnA × (Int)=>(x.1,x.2.2.2)) (([],(.slice none 0 0),[],0):(LiA) × (Value) × LnA × (Int)) A5 (fun x=>[(10,x.2.1),(21,(.int .i64 x.2.2.2))]) (fun x=>Av.L.set 0 (aO cZ 94 x.2.2.1 x.2.1 x.1)) Av ⟨rfl,rfl,trivial⟩ ?_;rintro ⟨B4,B5,B6,B7⟩ B8 B9 Ca Aa Ae A6;unfold AJs at Ae;refine Zo (AAv rfl rfl (Zs (Zp (⟨_,rfl,fun Af=>?_,fun Af=>?_⟩))))
  ·refine Zw (q_t (Zp (Zt (Zo ?_))));obtain ⟨Cb,A7,A8⟩:=Zq (AA8 Ae Af);refine AUs AWj ABv Ap Aa.x A7 fun _=>(Zu (AAc (Zk (Zk (Zk ?_)))));obtain ⟨Cd,A9,Ba⟩:=Zq A8;refine AGh ABz AD1 H2 Aa.x A9 fun _ Ce Bb=>Zk ?_;obtain ⟨Cf,Bc,Be⟩:=Zq Ba;refine AI2 (c:=cZ) AC9 rfl Bb rfl Bc fun Cg Ch Ci Aw Bf=>AOe (c:=cZ) ABn rfl (Aa.zx Aw) (fun j u hu=>(AAz (Bf j u hu) Aa.x)) ?_;obtain ⟨Bg,Bh⟩:=ifN Be;refine ALt AC9 AE3 rfl rfl trivial tt2 (fun _=>rfl) rfl (Aa.zx Aw) (Aa.o p0) Zl Bg fun Cj Ck Cm Cn Bi Bj Bl=>AAn (AAo (q_b (q_t (AAc (AAx rfl rfl (Zk (Zs ?_)))))));exact ⟨(_,_,_,_),(Zm Bh).symm,(Aa.uo p0 Bj Bi Bl),rfl,rfl,trivial⟩
  ·refine AAj (AAk (AAk (ABm (q_t (AAc (Zk (Zk ?_)))))));obtain ⟨Bm,Bn⟩:=ifN (A6 _ (Zm (AA9 Ae Af)).symm);refine AXo ABz Afk rfl rfl trivial tt2 (fun _=>rfl) rfl (Aa.o p0) (Aa.o2 p1) (Aa.dj p0 p1 Zl) Zl Bm fun Co Cp Cq Cr Bo Bp Bq=>AAn (AAo (q_b (q_t (AAc (AAx rfl rfl (Zk (Zs ?_)))))));exact ⟨(_,_,_,_,_,_),(Zm Bn).symm,(Aa.m2 p0 p1 Zl Bp Bo Bq).sel [1] Zl,rfl,rfl,trivial⟩
 ·refine AAj (AAk (AAk (ABm (q_t (Zo (Zk (Zu (Zx ?_))))))));obtain rfl:=Zm (A3 _ (Zm (AA9 Ac Ad)).symm);exact ⟨_,Zz,Ab.x,_,_,_,_,rfl,(Ab.o2 p0),Ab.s.sel [0] Zl⟩
def AEr (fuel:Nat) (Ab:LiI) (Ac:Int) (Ad:LiI) (Aa:Int):Option ((Int) ⊕ ((Int))):=
  (((if Aa < (Ab.length:Int) then ((gI Ad Aa).bind fun Ae=>((gI Ae Ac).bind fun Af=>((AYu fuel Af).bind fun Ag=>(if Ag=0 then (some (Sum.inl <| ())) else (some (Sum.inr <| ())))))) else (some (Sum.inr <| ()))):Option ((Unit) ⊕ (Unit))).bind (fun ex=>match ex with | Sum.inl _=>(some (Sum.inl (w64 (Aa + 1)))) | Sum.inr (_)=>(some (Sum.inr<| Aa))))
def AEs (fuel:Nat) (Ag:LiI) (Ac Ah Ae Aa:Int) (Ab:LiI):Option ((Int × LiI) ⊕ ((LiI))):=
  (if Aa < (Ag.length:Int) then ((gI Ab Ae).bind fun Ad=>((gI Ab Ac).bind fun Af=>((gI Af Ac).bind fun Ai=>((gI Ad Aa).bind fun Aj=>((ARp fuel Ai Aj).bind fun Ak=>((gI Ad Ac).bind fun Am=>((gI Af Aa).bind fun Ao=>((ARp fuel Am Ao).bind fun Ap=>((As5 fuel Ak Ap).bind fun Aq=>((ACu fuel Aq Ah).bind fun Ar=>(some (Sum.inl ((w64 (Aa + 1)),(sI Ab Ae (sI Ad Aa Ar))))))))))))))) else (some (Sum.inr<| Ab)))
def AEt (fuel:Nat) (Ab:LiI) (Ac Ae Aa:Int) (Ad:LiI):Option ((Int × LiI) ⊕ ((LiI))):=
  (if Aa < (Ab.length:Int) then ((iter (fun s=>AEs fuel Ab Ac Ae Aa s.1 s.2) fuel ((w64 (Ac + 1)),Ad)).bind (fun (Af:LiI)=>(some (Sum.inl ((w64 (Aa + 1)),Af))))) else (some (Sum.inr<| Ad)))
def AEu (fuel:Nat) (Ac:LiI) (Ae:Bool) (Aa:Int) (Ab:LiI) (Af:Int):Option ((Bool × Int × LiI × Int) ⊕ ((Int) ⊕ (Bool × Int))):=
  (if Aa < (Ac.length:Int) then ((((((iter (fun s=>AEr fuel Ac Aa Ab s) fuel Aa).bind (fun (Ah:Int)=>(some ( Ah)))):Option ((Int))).bind (fun (Ad:Int)=>(if Ad=(Ac.length:Int) then (some (Sum.inl <| 0)) else (((if Aa < Ad then ((gI Ab Aa).bind fun Ai=>((gI Ab Ad).bind fun Aj=>(some ( ((!Ae),(sI (sI Ab Ad Ai) Aa Aj)))))) else (some ( (Ae,Ab)))):Option ((Bool × LiI))).bind (fun ((Ak,Am):Bool × LiI)=>((iter (fun s=>AEt fuel Ac Aa Af s.1 s.2) fuel ((w64 (Aa + 1)),Am)).bind (fun (Ag:LiI)=>((gI Ag Aa).bind fun Ao=>((gI Ao Aa).bind fun Ap=>(some (Sum.inr <| (Ak,Ag,Ap)))))))))))):Option ((Int) ⊕ (Bool × LiI × Int))).bind (fun ex=>match ex with | Sum.inl Aq=>(some (Sum.inr<| Sum.inl <| Aq)) | Sum.inr ((Ar,Au,Av))=>(some (Sum.inl (Ar,(w64 (Aa + 1)),Au,Av))))) else (some (Sum.inr<| Sum.inr <| (Ae,Af))))
def ABf (fuel:Nat) (a3:LiI):Option Int:=
  ((AF4 fuel a3).bind fun Aa=>((AKy fuel 1).bind fun Ad=>((iter (fun s=>AEu fuel Aa s.1 s.2.1 s.2.2.1 s.2.2.2) fuel (false,0,Aa,Ad)).bind (fun ex=>match ex with | Sum.inl Ae=>(some Ae) | Sum.inr ((Af,Ab))=>(if Af=true then ((Afl fuel Ab).bind fun Ag=>(some Ag)) else (some Ab))))))
theorem ACq {fuel:Nat} {h:Zv} {Bj:Value} {a3:LiI} {r:Int} (H2:ACx cZ h Bj a3) (hp:ABf fuel a3=some r):AAw Tryz.prog 55 #[Bj] h (fun x h'=>Ext h h'/\ ∃ (x0:Value),x=x0/\ZZ h' x0 r):=by
 unfold ABf at hp;refine cwf (l:=[_]) Tryz.func55 rfl rfl (Zo (AC4 (Kst.k0 h) [.bool false,.slice none 0 0] AE3 fun b5 h6 E8 Bn=>AId (Zk ?_)));obtain ⟨Bo,Cx,Cy⟩:=Zq hp;refine AM5 Bn (AOi (H2.ext Bn.x) Cx) fun Cz C0 C1 v20 Gh Gi Bp=>AA5 (Zk (AA6 ABz rfl (Bp.o2 p0).rd (AA5 ?_)));obtain ⟨C2,C3,C4⟩:=Zq Cy;refine AN0 Bp (AJ6 C3) fun C5 Gj Gk C6=>AC4 C6 [.bool false,.slice none 0 0] AE3 fun Bq C7 Gl Br=>AGd Br p0 (AAf C7) (Br.z p1) fun Gm Bt=>Zu (Zp (Zo (Zu (Zt (AFo 2658455991569831745807614120560625600 (fun x:(Bool) × (Int) × (LiI) × LnA × LnN × LvA × (Int) × LvA=>(x.1,x.2.1,x.2.2.1,x.2.2.2.2.2.2.1)) ((false,0,Bo,Cz,C0,C1,C2,C5):(Bool) × (Int) × (LiI) × LnA × LnN × LvA × (Int) × LvA) C4 (fun x=>[(6,(.bool x.1)),(7,(.int .i64 x.2.1))]) (fun x=>((Bt.L.set 2 (aO2 cZ 128 94 x.2.2.2.1 x.2.2.2.2.1 x.2.2.2.2.2.1 v20 x.2.2.1)).set 1 (aZ x.2.2.2.2.2.2.2 x.2.2.2.2.2.2.1)).set 0 (aB 94 Bq x.2.2.2.2.2.2.2)) Bt ⟨rfl,rfl,trivial⟩ ?_)))));rintro ⟨Bu,Ag,Bv,C8,C9,Da,Gn,Gp⟩ Gq Db Gr Ab Ax Bw;unfold AEu at Ax;refine Zp (Zo (Zk (Zk (AAv rfl rfl (Zs (⟨_,rfl,fun Ay=>?_,fun Ay=>?_⟩))))))
 ·refine Zw (q_t ?_);obtain ⟨Dc,Dd,Bx⟩:=Zq (AA8 Ax Ay);refine AKi 2658455991569831745807614120558593856 (fun x:(Bool) × (LiI) × LnA × LnN × LvA × (Int) × LvA=>[(6,(.bool x.1))]) (fun x h'=>(Sum.inr <| (x.1,x.2.1,x.2.2.2.2.2.1))=Dc/\Kst h h' (((Ab.L.set 2 (aO2 cZ 128 94 x.2.2.1 x.2.2.2.1 x.2.2.2.2.1 v20 x.2.1)).set 1 (aZ x.2.2.2.2.2.2 x.2.2.2.2.2.1)).set 0 (aB 94 Bq x.2.2.2.2.2.2))) ?_ ?_
  ·refine Zt (Zo (Zk (Zu ?_)));obtain ⟨De,Df,By⟩:=Zq Dd;refine AKi 274873712896 (fun x:(Int)=>[(8,(.int .i64 x))]) (fun x h'=>( x)=De/\Kst h h' (Ab.L)) ?_ ?_
   ·refine Zt (AG5 274873712896 Df (fun x=>[(8,(.int .i64 x))]) (fun x=>Ab.L) Ab ⟨rfl,trivial⟩ ?_);rintro Am Gt Gu Gv Ah Bz B1;unfold AEr at Bz;obtain ⟨Dg,B3,Az⟩:=Zq Bz;refine AKi 68715282432 (fun x:Unit=>[]) (fun x h'=>(Sum.inl <| ())=Dg/\Kst h h' (Ah.L)) ?_ ?_
    ·refine Zo (Zk (Zk (AAv rfl rfl (Zk ?_))));by_cases Ao:Am < (Bo.length:Int)
     ·rw [decide_eq_true Ao];refine Z4 25 true (Zk (Z4 25 true (Zk (Z4 25 true ?_))));obtain ⟨Gw,A3,Dh⟩:=Zq (ifT B3 Ao);refine ADb ABz rfl (Ah.o2 p2) rfl A3 fun Gx Gy Gz Di Dj=>Z4 25 true (AA7 AD1 rfl Dj (Z4 25 true (Zk (Z4 25 true ?_))));obtain ⟨G3,B4,Dk⟩:=Zq Dh;refine AE9 (m:=Am) AC9 rfl (Ah.o2 p2) Di A3 rfl B4 fun G4 Dl=>Z4 25 true ?_;obtain ⟨G5,Do,Dp⟩:=(Ah.o2 p2).cells Dl A3 B4;have A4:=Ah.az Do;refine AOe (c:=cZ) ABn rfl (A4.z p0) (fun j u hu=>(Dp j u hu)) (Z4 25 true ?_);obtain ⟨G6,Dq,B5⟩:=Zq Dk;refine ACa A4 (AXu (A4.z p0).2 Dq) fun G7 G8 B6=>Z4 25 true (ABx rfl rfl (AAa rfl (Zs (⟨_,rfl,fun A5=>?_,fun A5=>?_⟩))))
      ·refine Zw (q_t ?_);exact ⟨(():Unit),⟨Zm (AA8 B5 A5),B6.sel [1,2,3,4] Zl⟩,trivial⟩
      ·obtain rfl:=Zm (AA9 B5 A5);refine AAj (AAk (AAk (ABm (q_t ?_))));exact ⟨(Am:(Int)),⟨Zm (B1 _ (Zm Az).symm),B6.sel [1,2,3,4] Zl⟩,rfl,trivial⟩
     ·rw [decide_eq_false Ao];refine ADf 25 false (AD0 25 false (Z1 rfl (Zs (AAy rfl ?_))));obtain rfl:=Zm (ifF B3 Ao);refine AAj (AAk (AAk (ABm (q_t ?_))));exact ⟨(Am:(Int)),⟨Zm (B1 _ (Zm Az).symm),Ah⟩,rfl,trivial⟩
    rintro ⟨⟩ G9 Hb ⟨Dr,Ds⟩;subst Dr;refine Zt (AAc (Zk (AAx rfl rfl (AAn (AAo (q_b (q_t ?_)))))));exact ⟨_,(Zm Az).symm,Ds,rfl,trivial⟩
   rintro Dt Hc B7 ⟨Du,Ae⟩;subst Du;refine Zp (Zo (Zk (Zk (ABx rfl rfl (Zs (⟨_,rfl,fun A6=>?_,fun A6=>?_⟩))))))
   ·refine Zo (ADr (AO3 ) (AGd Ae p3 (AAf B7) (AAf B7) fun B8 B9=>Zs ?_));obtain rfl:=Zm (AA8 By A6);refine Zx (AAd (ABg (AAd (AAd (ABg (AAd ?_))))));obtain rfl:=Zm (Bw _ (Zm Bx).symm);exact ⟨_,ACg ABn (cZ.klen (AAf B8)) rfl (B9.b p3),B9.x,_,rfl,(AAf B8).2⟩
   ·refine Zw (q_t ?_);obtain ⟨Dv,Ca,Dw⟩:=Zq (AA9 By A6);refine AKi 2305838611167182912 (fun x:(Bool) × (LiI) × LnA × LnN × LvA=>[(6,(.bool x.1))]) (fun x h'=>( (x.1,x.2.1))=Dv/\Kst h h' (Ae.L.set 2 (aO2 cZ 128 94 x.2.2.1 x.2.2.2.1 x.2.2.2.2 v20 x.2.1))) ?_ ?_
    ·refine Zo (Zk (Zk (AF1 rfl rfl (Zs (⟨_,rfl,fun A7=>?_,fun A7=>?_⟩)))))
     ·refine Zp (AGe (Zk (Zk (Zk (Zk (Zk (Zk ?_)))))));obtain ⟨Dx,Cb,Dy⟩:=Zq (AA8 Ca A7);refine AB1 ABz AD1 (Ae.o2 p2) Cb fun _ Hd Dz=>Zk (Zk ?_);obtain ⟨D0,Cd,D1⟩:=Zq Dy;refine AB1 ABz AD1 (Ae.o2 p2) Cd fun _ He D2=>ARo ABz AD1 (Ae.o2 p2) D2 Dz Cd Cb rfl rfl (fun _=>rfl) (fun _=>rfl) (fun _=>rfl) (fun _ _=>rfl) fun Hf Hg D3 D4 D5 Hh D6 D7 D8=>Zs (AAc (Zk (ACr rfl (Zu ?_))));exact ⟨(((!Bu),(sI (sI Bv Dt Dx) Ag D0),D3,D4,D5):(Bool) × (LiI) × LnA × LnN × LvA),⟨Zm D1,(Ae.uo2 p2 D7 D6 D8)⟩,rfl,trivial⟩
     ·refine Zw (q_t ?_);exact ⟨((Bu,Bv,C8,C9,Da):(Bool) × (LiI) × LnA × LnN × LvA),⟨Zm (AA9 Ca A7),Ae⟩,rfl,trivial⟩
    rintro ⟨D9,Ea,Eb,Ec,Ed⟩ Hj Hk ⟨Ee,Ce⟩;subst Ee;refine Zp (Zo (Zk (AAx rfl rfl (Zu (Zt (AFo 20769187434139301290749948462106112 (fun x:(Int) × (LiI) × LnA × LnN × LvA=>(x.1,x.2.1)) (((w64 (Ag + 1)),Ea,Eb,Ec,Ed):(Int) × (LiI) × LnA × LnN × LvA) Dw (fun x=>[(9,(.int .i64 x.1))]) (fun x=>Ce.L.set 2 (aO2 cZ 128 94 x.2.2.1 x.2.2.2.1 x.2.2.2.2 v20 x.2.1)) Ce ⟨rfl,trivial⟩ ?_))))));rintro ⟨Ap,Cf,Cg,Ch,Ci⟩ Hl Hm Hn Ai A8 Ef;unfold AEt at A8;refine Zp (Zo (Zk (Zk (AAv rfl rfl (Zs (⟨_,rfl,fun A9=>?_,fun A9=>?_⟩))))))
    ·refine Zw (q_t (Zp (Zt (Zo (Zk (AAx rfl rfl (Zu (Zt (AFo 20769187434138129922501267905577984 (fun x:(Int) × (LiI) × LnA × LnN × LvA=>(x.1,x.2.1)) (((w64 (Ag + 1)),Cf,Cg,Ch,Ci):(Int) × (LiI) × LnA × LnN × LvA) (AA8 A8 A9) (fun x=>[(10,(.int .i64 x.1))]) (fun x=>Ai.L.set 2 (aO2 cZ 128 94 x.2.2.1 x.2.2.2.1 x.2.2.2.2 v20 x.2.1)) Ai ⟨rfl,trivial⟩ ?_)))))))));rintro ⟨Ho,Hq,Hr,Hs,Ht⟩ Hu Ba Hv Aa Bb Eg;unfold AEs at Bb;refine Zp (Zo (Zk (Zk (AAv rfl rfl (Zs (⟨_,rfl,fun Bc=>?_,fun Bc=>?_⟩))))))
     ·refine Zw (q_t (Zp (Zt (ACj (fun h'=>UpT [] Ba h') Zy ?_))));have Ad:UpT [] Ba Ba:=UpT.start all_nil;refine Zk (Zk ?_);obtain ⟨Hw,Ac,Eh⟩:=Zq (AA8 Bb Bc);refine ADb ABz rfl (Aa.o2 p2) rfl Ac fun Hx Hy Hz Ei Ej=>ACl AD1 rfl Ad (fun h' hb=>AAz Ej hb.ext) (Zk (Zk (Zk ?_)));obtain ⟨H5,Aj,Ek⟩:=Zq Eh;refine ADb ABz rfl (Aa.o2 p2) rfl Aj fun Ia Ib Ic El Em=>ACl AD1 rfl Ad (fun h' hb=>AAz Em hb.ext) (Zk ?_);obtain ⟨Id,Cj,En⟩:=Zq Ek;refine AE9 (m:=Ag) AC9 rfl (Aa.o2 p2) El Aj rfl Cj fun Ie Eo=>?_;obtain ⟨If,Ck,Ep⟩:=(Aa.o2 p2).cells Eo Aj Cj;refine ARi (c:=cZ) ABn rfl Ck Ad (fun h' hb j u hu=>AAz (Ep j u hu) hb.ext) (Zk (Zk (ADb ABz rfl (Aa.o2 p2) rfl Ac fun Ih Ii Ij Er Es=>ACl AD1 rfl Ad (fun h' hb=>AAz Es hb.ext) (Zk ?_))));obtain ⟨Ik,Aq,Et⟩:=Zq En;refine AE9 (m:=Ap) AC9 rfl (Aa.o2 p2) Er Ac rfl Aq fun Il Eu=>?_;obtain ⟨Im,Cm,Ev⟩:=(Aa.o2 p2).cells Eu Ac Aq;refine ARi (c:=cZ) ABn rfl Cm Ad (fun h' hb j u hu=>AAz (Ev j u hu) hb.ext) ?_;have Be:=(Aa.az (cZ.upT Ck Ad)).az (cZ.upT Cm Ad);obtain ⟨Io,Ew,Ey⟩:=Zq Et;refine AFn Be Ad (AQi (Be.z p1).2 (Be.z p0).2 Ew) fun Ip Iq Ir Ez Af=>Zk (Zk (ADb ABz rfl (Aa.o2 p2) rfl Ac fun Is It Iu Fa Fb=>ACl AD1 rfl Af (fun h' hb=>AAz Fb hb.ext) (Zk ?_)));obtain ⟨Iv,Cn,Fc⟩:=Zq Ey;refine AE9 (m:=Ap) AC9 rfl (Aa.o2 p2) Fa Ac rfl Cn fun Iw Fd=>?_;obtain ⟨Ix,Co,Fe⟩:=(Aa.o2 p2).cells Fd Ac Cn;refine ARi (c:=cZ) ABn rfl Co Af (fun h' hb j u hu=>AAz (Fe j u hu) hb.ext) (Zk (Zk (ADb ABz rfl (Aa.o2 p2) rfl Aj fun Iy Iz I0 Ff Fg=>ACl AD1 rfl Af (fun h' hb=>AAz Fg hb.ext) (Zk ?_))));obtain ⟨I1,Cp,Fh⟩:=Zq Fc;refine AE9 (m:=Ag) AC9 rfl (Aa.o2 p2) Ff Aj rfl Cp fun I2 Fi=>?_;obtain ⟨I3,Cq,Fj⟩:=(Aa.o2 p2).cells Fi Aj Cp;refine ARi (c:=cZ) ABn rfl Cq Af (fun h' hb j u hu=>AAz (Fj j u hu) hb.ext) ?_;have Bf:=(Ez.az (cZ.upT Co Af)).az (cZ.upT Cq Af);obtain ⟨I6,Fk,Fl⟩:=Zq Fh;refine AFn Bf Af (AQi (Bf.z p1).2 (Bf.z p0).2 Fk) fun I7 I9 Ja Bg Fm=>?_;obtain ⟨Jc,Fo,Fp⟩:=Zq Fl;refine AFn Bg Fm (At2 (Bg.z p3).2 (Bg.z p0).2 Fo) fun Je Jf Jg Ar Cr=>AOh (Ar.z p8) Cr (Aa.b p0) ?_;obtain ⟨Jh,Fq,Fr⟩:=Zq Fp;refine AFn Ar Cr (AIe (Ar.z p0).2 (Ar.z p8).2 Fq) fun Ji Jj Jk Ak Jl=>AE9 (m:=Ap) AC9 rfl (Aa.o2 p2) Ei Ac rfl Aq fun Jm Ft=>ANv (m:=Ap) (ASf ABn (cZ.klen (Ak.z p0)) rfl rfl (cZ.one (Ak.z p0))) (Ak.o2 p10) Ft Ac Aq (Ak.z p0) fun Jn Fu Fv=>AAo (q_b (q_t (AAc (Zk (AAx rfl rfl (Zu ?_))))));exact ⟨(_,_,_,_,_),(Zm Fr).symm,(Ak.uO2 p10 Fv Fu).sel [8,9,10,11] Zl,rfl,trivial⟩
     ·refine AAj (AAk (AAk (ABm (q_b (q_t (AAc (Zk (AAx rfl rfl (Zu ?_)))))))));exact ⟨(_,_,_,_,_),(Zm (Eg _ (Zm (AA9 Bb Bc)).symm)).symm,Aa,rfl,trivial⟩
    ·refine AAj (AAk (AAk (ABm (q_t (AAc (Zk (Zk ?_)))))));obtain ⟨Jo,Bh,Fw⟩:=Zq (Ef _ (Zm (AA9 A8 A9)).symm);refine AB1 ABz AD1 (Ai.o2 p2) Bh fun _ Jp Fx=>Zk ?_;obtain ⟨Fy,Ct,Fz⟩:=Zq Fw;refine AE9 (m:=Ag) AC9 rfl (Ai.o2 p2) Fx Bh rfl Ct fun Jq F4=>?_;obtain ⟨F5,F6,F7⟩:=(Ai.o2 p2).cells F4 Bh Ct;have Au:=Ai.az F6;refine AOe (c:=cZ) ABn rfl (Au.z p0) (fun j u hu=>(F7 j u hu)) (AGd Au p1 (Au.z p2) (Au.z p0) fun Jr F8=>AAo (q_b (q_t ?_)));exact ⟨((D9,Cf,Cg,Ch,Ci,Fy,F5):(Bool) × (LiI) × LnA × LnN × LvA × (Int) × LvA),⟨Zm Fz,F8.sel [1,0,3,4] Zl⟩,rfl,trivial⟩
  rintro ⟨Js,Jt,Ju,Jv,Jw,Jx,Jy⟩ Jz J0 ⟨F9,Ga⟩;subst F9;refine AAc (Zk (AAx rfl rfl (Zu ?_)));exact ⟨(_,_,_,_,_,_,_,_),(Zm Bx).symm,Ga,rfl,rfl,trivial⟩
 ·refine AAj (AAk (AAk (ABm (q_t (Zp (Zo (Zk (Zs ?_))))))));have Cu:=Bw _ (Zm (AA9 Ax Ay)).symm;refine ⟨_,rfl,fun Bi=>?_,fun Bi=>?_⟩
  ·refine Zo (AK6 (Ab.z p1) (Ab.b p0) ?_);obtain ⟨J1,Gb,Gc⟩:=Zq (ifT Cu Bi);refine AN0 Ab (Adz (Ab.z p1).2 Gb) fun J2 Gd J3 Cv=>AGd Cv p4 (AAf Gd) (Cv.z p0) fun J4 Av=>Zs (Zx (AAd ?_));obtain rfl:=Zm Gc;exact ⟨_,ACg ABn (cZ.klen (Av.z p0)) rfl (Av.b p4),Av.x,_,rfl,(Av.z p0).2⟩
  ·refine Zw (q_t (Zo (AK6 (Ab.z p1) (Ab.b p0) (AGd Ab p3 (AAf Db) (Ab.z p1) fun J5 Aw=>Zs (Zx ?_)))));obtain rfl:=Zm (AFe Cu Bi);exact ⟨_,ACg ABn (cZ.klen (Aw.z p1)) rfl (Aw.b p3),Aw.x,_,rfl,(Aw.z p1).2⟩
end Go.Proofs.YtdkldlbgcfpglaaGreatDoor
namespace Go.Proofs.YtdkldlbgcfpglaaGreatDoor
open Go Go.QF
set_option maxRecDepth 100000
theorem An8 {na:Bool} {m:Nat} {z:Int} (h:z=sgn na m):AGc z=1->z=m:=by
 cases na
 ·intro _;rw [h];rfl
 ·intro h1;rw [h] at h1 ⊢;unfold AGc sgn at h1;unfold sgn;simp at h1 ⊢;split at h1 <;> (try split at h1) <;> omega
theorem An9 {na:Bool} {m:Nat} {z:Int} (h:z=sgn na m):AGc z= -1->z= -(m:Int):=by
 cases na
 ·intro h1;rw [h] at h1 ⊢;unfold AGc sgn at h1;unfold sgn;simp at h1 ⊢;split at h1 <;> (try split at h1) <;> omega
 ·intro _;rw [h];rfl
def ATf (a b:Int):Int:=if a < b then -1 else if a=b then 0 else 1
theorem Ahr {a b:Int} (h:AGc a≠AGc b) (h2:AGc a < AGc b):ATf a b= -1:=by
 unfold AGc at h h2;unfold ATf;repeat' split at h2
 all_goals (rw [if_pos Zj])
theorem Ahs {a b:Int} (h:AGc a≠AGc b) (h2: ¬ AGc a < AGc b):ATf a b=1:=by
 unfold AGc at h h2;unfold ATf
 rw [if_neg (by
   repeat' split at h2
   all_goals (repeat' split at h)
   all_goals omega),if_neg (by
     repeat' split at h2
     all_goals (repeat' split at h)
     all_goals omega)]
theorem Ad2 {na nb:Bool} {m k:Nat} {a b:Int} (ha:a=sgn na m) (hb:b=sgn nb k) (h:AGc a=AGc b):AGc a * ANw m k=ATf a b:=by
 have h3:AGc a= -1∨AGc a=0∨AGc a=1:=by unfold AGc;split;exact .inl rfl;split;exact .inr (.inl rfl);exact .inr (.inr rfl)
 rcases h3 with h1 | h1 | h1
 ·have e1:=An9 ha h1;have e2:=An9 hb (h ▸ h1);rw [h1];unfold ANw ATf;repeat' split
  all_goals omega
 ·have z:∀ x:Int,AGc x=0->x=0:=fun x hx=>by unfold AGc at hx;repeat' split at hx;all_goals omega
  have e1:=z a h1;have e2:=z b (h ▸ h1);rw [h1,e1,e2];simp [ATf]
 ·have e1:=An8 ha h1;have e2:=An8 hb (h ▸ h1);rw [h1];unfold ANw ATf;repeat' split
  all_goals omega
theorem Aq7 (a b:Nat): -1<=ANw a b/\ANw a b<=1:=by
 unfold ANw;repeat' split;all_goals omega
theorem Aq8 (a:Int): -1<=AGc a/\AGc a<=1:=by
 unfold AGc;repeat' split;all_goals omega
theorem Aq9 {x y:Int} (hx: -1<=x/\x<=1) (hy: -1<=y/\y<=1):IntKind.i64.wrap (x * y)=x * y:=by
 obtain ⟨x1,x2⟩:=hx;obtain ⟨y1,y2⟩:=hy;have Aa:x= -1∨x=0∨x=1:=by omega
 have Ab:y= -1∨y=0∨y=1:=by omega
 rcases Aa with rfl | rfl | rfl <;> rcases Ab with rfl | rfl | rfl <;> decide
theorem Ara {h:Zv} {lo:Nat} {va:Value} {z:Int} (HA:ZV h lo va z):AAw Tryz.prog 151 #[va] h fun x h'=>Ext h h'/\ZV h' (Array.size h) x (z.natAbs:Int):=by
 obtain ⟨na,sa,LA,rfl,HDa,htla,hla,hza⟩:=HA.out;have hna:LA.length<=1000000:=by omega
 have hba:nv LA < 4294967296 ^ 100:=Nat.lt_of_lt_of_le (ANo HDa.dig) (Nat.pow_le_pow_right Zl hla);refine ABe (l:=[_]) mx Tryz.func151 rfl rfl rfl rfl rfl Zy (Zo (AJr [.bool na,sa] (fun _=>trivial) rfl rfl fun Ag h2 V3 E4 Ao Be=>?_));have Bf:Array.size h<=Ag:=Ao;have Bg:=E4.1;have Z8:=(Ext.refl h).trans E4;refine AG4 [.bool false,.slice none 0 0] AE3 rfl (fun _=>trivial) fun Aa Bh Aq Ab Ar Bi=>?_;have Bj:Array.size h<=Aa:=Nat.le_trans E4.1 Ar;have nebq1bq9:Ag≠Aa:=by have:=V3.lt;omega
 have Bl:=Ab.1;have Au:=Z8.trans Ab;have Ai:=E4.trans Ab;have Av:=E4.trans Ab;refine AId (AF0 (fs:=1) AMb Zy Zl rfl (AA7 AHx rfl ((V3.ext Ab).cell (i:=1) rfl) (AA0 trivial rfl (AM4 false (HDa.ext Ai) hna hba) fun Bm Bn hk=>?_)));obtain ⟨Ac,Aw⟩:=hk;refine ⟨trivial,?_⟩;have Bo:=Ac.1;have Ax:=Au.trans Ac;have Ay:=Ai.trans Ac;have Az:=Av.trans Ac;have A3:=Aq.ext Ac;have A4:=Ab.trans Ac;obtain ⟨Aj,s3,L3,rfl,Am,A6,A7,A8⟩:=Aw.out;refine AB9 [.bool Aj,s3] ABn rfl rfl rfl rfl (AJp Am.cap) A3 fun Bp A9 Ad=>?_;have Ba:=Ay.thenUpd Ad (fun k hk=>by have Af:k=Aa:=hk;omega);have Bq:=Ad.1;have Br:=Ax.thenUpd Ad (fun k hk=>by have Af:k=Aa:=hk;omega);have Bt:=A4.thenUpd Ad (fun k hk=>by have Af:k=Aa:=hk;omega);have Bu:=Az.thenUpd Ad (fun k hk=>by have Af:k=Aa:=hk;omega);have Bb:=Am.updLo Ad Zj;refine Zs (Zx (⟨_,ACg ABn rfl rfl A9,?_⟩));exact ⟨Ba,⟨Aj,s3,L3,rfl,Bb.mono Zj,A6,A7,by rw [<- A8,AFb hza];rfl⟩⟩
theorem Arb {h:Zv} {la lb:Nat} {va vb:Value} {a b:Int} (HA:ZV h la va a) (HB:ZV h lb vb b):AAw Tryz.prog 97 #[va,vb] h fun x h'=>Ext h h'/\x= .int .i64 (ATf a b):=by
 obtain ⟨na,sa,LA,rfl,HDa,htla,hla,hza⟩:=HA.out;obtain ⟨nb,sb,LB,rfl,HDb,htlb,hlb,hzb⟩:=HB.out;refine ABe (l:=[_,_]) mx Tryz.func97 rfl rfl rfl rfl rfl Zy (Zo (AJr [.bool na,sa] (fun _=>trivial) rfl rfl fun Aq h2 V3 E4 A7 B4=>?_));have B5:Array.size h<=Aq:=A7;have B6:=E4.1;have Z8:=(Ext.refl h).trans E4;refine AJr [.bool nb,sb] (fun _=>trivial) rfl rfl fun Au Av Aw Ag A9 B7=>?_;have B8:Array.size h<=Au:=Nat.le_trans E4.1 A9;have nebq1bq9:Aq≠Au:=by have:=V3.lt;omega
 have B9:=Ag.1;have Ba:=Z8.trans Ag;have Ax:=E4.trans Ag;have Ay:=V3.ext Ag;have Bb:=E4.trans Ag;refine Zu (Zp (ACj (fun h'=>Ext Av h') Zy ?_));have Af:=Ext.refl Av;refine AIc [.bool na,sa] ABn rfl rfl Af (fun h' hb=>(Ay.ext hb).agg) (AA0 Af rfl (AVh (HA.ext Ax)) fun Ca Cb hk=>?_);obtain ⟨Ab,rfl⟩:=hk;have Ai:=Af.trans Ab;refine ⟨Ai,?_⟩;have Cd:=Ab.1;have Bc:=Ba.trans Ab;have Az:=Ax.trans Ab;have Be:=Ay.ext Ab;have Bf:=Bb.trans Ab;have Bg:=Aw.ext Ab;have Bh:=Ag.trans Ab;refine AIc [.bool nb,sb] ABn rfl rfl Ai (fun h' hb=>(Aw.ext hb).agg) (AA0 Ai rfl (AVh (HB.ext Az)) fun Ce A3 hk=>?_);obtain ⟨Ac,rfl⟩:=hk;have Bi:=Ai.trans Ac;refine ⟨Bi,?_⟩;have Cf:=Ac.1;have Bj:=Bc.trans Ac;have Ad:=Az.trans Ac;have A4:=Be.ext Ac;have Bl:=Bf.trans Ac;have A5:=Bg.ext Ac;have Bm:=Bh.trans Ac;refine AAn (Zu (Zp (Zo (Zk (Zk (Ace rfl rfl (fun Bn=>?_) (fun Bn=>?_)))))))
 ·refine Zs (AAr rfl (Zp (Zo (Zk (Zk (AEl rfl rfl (fun Bo=>?_) (fun Bo=>?_)))))))
  ·refine Zs (AAr rfl (Zo (Zu (Zx (AAd (AAd (⟨_,Zz,?_⟩)))))));first | exact ⟨Ad,congrArg (Value.int .i64) (by rw [Ak,Am];exact Ad2 hza hzb Zj)⟩ | exact ⟨Ad,congrArg (Value.int .i64) (Ahr (by assumption) (by assumption)).symm⟩ | exact ⟨Ad,congrArg (Value.int .i64) (Ahs (by assumption) Zj).symm⟩
  ·refine Zs (AAy rfl (Zw (q_t (Zo (Zu (Zx (AAd (⟨_,Zz,?_⟩))))))));first | exact ⟨Ad,congrArg (Value.int .i64) (by rw [Ak,Am];exact Ad2 hza hzb Zj)⟩ | exact ⟨Ad,congrArg (Value.int .i64) (Ahr (by assumption) (by assumption)).symm⟩ | exact ⟨Ad,congrArg (Value.int .i64) (Ahs (by assumption) Zj).symm⟩
 ·refine Zs (AAy rfl (Zw (q_t (Zp (ACj (fun h'=>Ext A3 h') Zy ?_)))));have Af:=Ext.refl A3;refine Zk (AF0 (fs:=1) AMb Zy Zl rfl (ACl AHx rfl Af (fun h' hb=>(A4.ext hb).cell (i:=1) rfl) (AA0 Af rfl (AI3 (DS.ext HDa Ad) Zj) fun Cg Ch hk=>?_)));obtain ⟨Ae,L1,Bp,Bq,Ak,Cj⟩:=hk;have Aj:=Af.trans Ae;refine ⟨Aj,?_⟩;have Ck:=Ae.1;have Br:=Bj.trans Ae;have A6:=Ad.trans Ae;have Bt:=A4.ext Ae;have Bu:=Bl.trans Ae;have Bv:=A5.ext Ae;have Bw:=Bm.trans Ae;refine AF0 (fs:=1) AMb Zy Zl rfl (ACl AHx rfl Aj (fun h' hb=>(A5.ext hb).cell (i:=1) rfl) (AA0 Aj rfl (AI3 (DS.ext HDb A6) Zj) fun Cm Bx hk=>?_));obtain ⟨Aa,L2,By,Bz,Am,Co⟩:=hk;have Ao:=Aj.trans Aa;refine ⟨Ao,?_⟩;have Cp:=Aa.1;have Cq:=Br.trans Aa;have Ap:=A6.trans Aa;have Cr:=Bt.ext Aa;have Ct:=Bu.trans Aa;have Cu:=Bv.ext Aa;have Cv:=Bw.trans Aa;have B1:=Bp.ext Aa;refine AA0 Ao rfl (AZw B1 By Bq Bz Zj Zj) fun Cw Bx hk=>?_;obtain ⟨rfl,rfl⟩:=hk;refine ⟨Ao,?_⟩;refine AL9 rfl rfl ?_;rw [Aq9 (Aq8 _) (Aq7 _ _)];refine Zu (Zx (⟨_,Zz,?_⟩));first | exact ⟨Ap,congrArg (Value.int .i64) (by rw [Ak,Am];exact Ad2 hza hzb Zj)⟩ | exact ⟨Ap,congrArg (Value.int .i64) (Ahr (by assumption) (by assumption)).symm⟩ | exact ⟨Ap,congrArg (Value.int .i64) (Ahs (by assumption) Zj).symm⟩
def Ajd (fuel:Nat) (a:Int):Option Int:=some (a.natAbs:Int)
def Acr (fuel:Nat) (a b:Int):Option Int:=some (ATf a b)
theorem Aht {fuel:Nat} {h:Zv} {u:Value} {a r:Int} (H1:ZZ h u a) (hp:Ajd fuel a=some r):AAw Tryz.prog 151 #[u] h (fun x h'=>Ext h h'/\ ∃ (x0:Value),x=x0/\ZZ h' x0 r):=by
 cases hp;exact (Ara H1).mono fun x h' hk=>⟨hk.1,x,rfl,hk.2.zz⟩
theorem Aa7 {fuel:Nat} {h:Zv} {u v:Value} {a b r:Int} (H1:ZZ h u a) (H2:ZZ h v b) (hp:Acr fuel a b=some r):AAw Tryz.prog 97 #[u,v] h (fun x h'=>Ext h h'/\x= .int .i64 r):=by
 cases hp;exact Arb H1 H2
end Go.Proofs.YtdkldlbgcfpglaaGreatDoor
namespace Go.Proofs.YtdkldlbgcfpglaaGreatDoor
open Go Go.QF
set_option maxRecDepth 100000
set_option maxHeartbeats 4000000
def AJu (fuel:Nat) (a3:LiI) (Ab:Int) (Af:LiA) (Aa:Int) (Ac:LiI):Option ((Int × LiI) ⊕ (((LiI × Bool)) ⊕ (LiI))):=
  (if Aa < (Af.length:Int) then ((gI a3 Ab).bind fun Ag=>((gI Ag Aa).bind fun Ah=>((AV1 fuel Ah).bind fun (Ai,Aj)=>(if (!Aj)=true then (some (Sum.inr<| Sum.inl <| ([],false))) else ((gI Ac Ab).bind fun Ad=>((gI Ad Aa).bind fun Ak=>(some (Sum.inl ((w64 (Aa + 1)),(sI Ac Ab (sI Ad Aa Ai))))))))))) else (some (Sum.inr<| Sum.inr <| Ac)))
def AJv (fuel:Nat) (a3:LiI) (x5 x6 Aa:Int) (Ac:LiI):Option ((Int × LiI) ⊕ (((LiI × Bool)) ⊕ (LiI))):=
  (if Aa < ((List.replicate (Int.toNat x5) ([]:List Int)).length:Int) then (if 0<=x6/\x6<=100000000 then ((gI Ac Aa).bind fun Ai=>((gI (sI Ac Aa (List.replicate (Int.toNat x6) (0:Int))) Aa).bind fun Af=>((iter (fun s=>AJu fuel a3 Aa Af s.1 s.2) fuel (0,(sI Ac Aa (List.replicate (Int.toNat x6) (0:Int))))).bind (fun ex=>match ex with | Sum.inl Ag=>(some (Sum.inr<| Sum.inl <| Ag)) | Sum.inr (Ah)=>(some (Sum.inl ((w64 (Aa + 1)),Ah))))))) else none) else (some (Sum.inr<| Sum.inr <| Ac)))
def AGi (fuel:Nat) (a3:LiI):Option (LiI × Bool):=
  ((AB7 fuel a3).bind fun (x5,x6,x7)=>(if (!x7)=true then (some ([],false)) else (if 0<=x5/\x5<=100000000 then ((iter (fun s=>AJv fuel a3 x5 x6 s.1 s.2) fuel (0,(List.replicate (Int.toNat x5) ([]:List Int)))).bind (fun ex=>match ex with | Sum.inl Ae=>(some Ae) | Sum.inr (Af)=>(some (Af,true)))) else none)))
theorem AR0 {fuel:Nat} {h:Zv} {Aw:Value} {a3:LiI} {r:(LiI × Bool)} (H2:ACx cZ h Aw a3) (hp:AGi fuel a3=some r):AAw Tryz.prog 60 #[Aw] h (fun x h'=>Ext h h'/\ ∃ (x0:Value) (F0:List Nat) (Bg:List LnA) (Bh:List Value),x= .tuple #[x0,.bool r.2]/\ACy (cI .i64) 60 2 h' F0 Bg Bh x0 r.1/\Sp h' h.size [F0]):=by
 unfold AGi at hp;refine cwf (l:=[_]) Tryz.func60 rfl rfl (Zo (AAn (AA5 (Zk ?_))));have K0:=Kst.k0 h;obtain ⟨⟨x5,x6,x7⟩,Bl,Ae⟩:=Zq hp;dsimp only at Ae;refine ACa K0 (AHe (H2.ext K0.x) Bl) fun Cu Cv A5=>Zk (ABl rfl rfl (ABl rfl rfl (ABl rfl rfl (AAn (AAn (Zu (Zp (Zo (Zk (ACr rfl (Zs (⟨_,rfl,fun Af=>?_,fun Af=>?_⟩))))))))))))
 ·refine Zo (AAn (Zu (Zx (AAd ?_))));have Ag:=Kst.anil2 (cI .i64) 60 2 A5;obtain rfl:=Zm (ifT Ae Af);exact ⟨_,ABi,Ag.x,_,_,_,_,rfl,(Ag.o2 p0),Ag.s.sel [0] Zl⟩
 ·refine Zw (q_t (Zo (Zk ?_)));obtain ⟨Bm,Bn⟩:=ifN (AFe Ae Af);refine ASh (cI .i64) 2 AAg AMl rfl trivial tt2 rfl rfl Zl Bm fun Bo Bp Bq A6 Cw Br Bt Bu=>Zu (Zp (Zo (Zk ?_)));have Ah:=A5.no2 Bt Bu Br;refine AA6 AAg rfl (Ah.o2 p0).rd (Zk (Zs (Zt (AFo 4611686018410614540 (fun x:(Int) × (LiI) × LnA × LnN × LvA=>(x.1,x.2.1)) ((0,(List.replicate (Int.toNat x5) ([]:List Int)),Bo,Bp,Bq):(Int) × (LiI) × LnA × LnN × LvA) Bn (fun x=>[(24,(.int .i64 x.1))]) (fun x=>Ah.L.set 0 (aO2 (cI .i64) 60 2 x.2.2.1 x.2.2.2.1 x.2.2.2.2 A6 x.2.1)) Ah ⟨rfl,trivial⟩ ?_))));rintro ⟨Ab,Bv,Cx,A7,Bw⟩ Cy Cz C0 Ad Ai A8;unfold AJv at Ai;refine Zo (AAv rfl rfl (Zs (Zp (⟨_,rfl,fun Aj=>?_,fun Aj=>?_⟩))))
  ·refine Zw (q_t (Zp (Zt (Zo (Zk (AA5 (Zk (Zk (Zk ?_)))))))));obtain ⟨Bx,By⟩:=ifN (AA8 Ai Aj);refine AQh (c:=(cI .i64)) (a:=0) AAi AI0 rfl rfl (fun _=>rfl) rfl trivial tt2 rfl rfl Zl Bx fun A9 Bz C1 B1 B3 B4 B5=>?_;have Ac:=Ad.no B3 (AE8 B4 B5) B1;obtain ⟨C2,Ba,B6⟩:=Zq By;refine ADb AAg rfl (Ac.o2 p1) rfl Ba fun B7 C3 B8 C4 C5=>ASg AA3 (Ac.o2 p1) Ba B8 rfl rfl (Ac.o p0) (Ac.dj p0 p1 Zl) fun C6 B9 Ca Cb=>AId (Zk (Zk ?_));have Ak:=Ac.m2 p0 p1 Zl Ca B9 (fun z hz=> .inl (Cb z hz));obtain ⟨C7,Bb,Cd⟩:=Zq B6;refine AB1 AAg AA3 (Ak.o2 p1) Bb fun _ C8 Ce=>ABj AAi rfl ((Ak.o2 p1).rowI Ce Bb) (Zk (Zs (Zt ?_)));have Am:=Ak.sel [1] Zl;dsimp only [AHd,AKw] at Am;refine AFo 2305842871774744076 (fun x:(Int) × (LiI) × LnA × LnN × LvA=>(x.1,x.2.1)) ((0,(sI Bv Ab (List.replicate (Int.toNat x6) (0:Int))),(B7 :: (A7.set (Int.toNat Ab) [A9]).flatten),(A7.set (Int.toNat Ab) [A9]),(Bw.set (Int.toNat Ab) Bz)):(Int) × (LiI) × LnA × LnN × LvA) Cd (fun x=>[(37,(.int .i64 x.1))]) (fun x=>Am.L.set 0 (aO2 (cI .i64) 60 2 x.2.2.1 x.2.2.2.1 x.2.2.2.2 A6 x.2.1)) Am ⟨rfl,trivial⟩ ?_;rintro ⟨C9,Da,Db,Dc,Dd⟩ De Df Dg Aa Ao Bc;unfold AJu at Ao;refine Zo (AAv rfl rfl (Zs (Zp (⟨_,rfl,fun Ap=>?_,fun Ap=>?_⟩))))
   ·refine Zw (q_t (Zp (Zt (Zo (Zk (AA5 (Zk (Zk ?_))))))));obtain ⟨Dh,Cf,Cg⟩:=Zq (AA8 Ao Ap);refine AGh ABz AD1 H2 Aa.x Cf fun _ Di Ch=>Zk ?_;obtain ⟨Dj,Ci,Cj⟩:=Zq Cg;refine AI2 (c:=cZ) AC9 rfl Ch rfl Ci fun Dk Dl Do Be Ck=>AOe (c:=cZ) ABn rfl (Aa.zx Be) (fun j u hu=>(AAz (Ck j u hu) Aa.x)) ?_;obtain ⟨⟨Dp,Dq⟩,Cm,Aq⟩:=Zq Cj;dsimp only at Aq;refine ACa Aa (Aa2 (Aa.zx Be).2 Cm) fun Dr Ds Ar=>Zk (ABl rfl rfl (ABl rfl rfl (AAn (Zu (Zp (Zo (Zk (ACr rfl (Zs (⟨_,rfl,fun Au=>?_,fun Au=>?_⟩))))))))))
    ·refine Zo (AAn (Zu (Zx (AAd (ABg (AAd (AAd (ABg (ABg (AAd (AAd (ABg (AAd ?_)))))))))))));have Av:=Kst.anil2 (cI .i64) 60 2 Ar;obtain rfl:=Zm (A8 _ (Zm (Bc _ (Zm (ifT Aq Au)).symm)).symm);exact ⟨_,ABi,Av.x,_,_,_,_,rfl,(Av.o2 p0),Av.s.sel [0] Zl⟩
    ·refine Zw (q_t (AAc (Zk (Zk ?_))));obtain ⟨Dt,Bf,Cn⟩:=Zq (AFe Aq Au);refine AB1 AAg AA3 (Ar.o2 p0) Bf fun _ Du Co=>Zk (Zk ?_);obtain ⟨Dv,Cp,Cq⟩:=Zq Cn;refine ALo (m:=Ab) Ar p0 AAi AAl Co Bf Cp (fun _=>rfl) fun _ Dw Cr=>AAo (q_b (q_t (AAc (AAx rfl rfl (Zk (Zs ?_))))));exact ⟨(_,_,_,_,_),(Zm Cq).symm,Cr,rfl,trivial⟩
   ·refine AAj (AAk (AAk (ABm (q_b (q_t (AAc (AAx rfl rfl (Zk (Zs ?_)))))))));exact ⟨(_,_,_,_,_),(Zm (Bc _ (Zm (AA9 Ao Ap)).symm)).symm,Aa,rfl,trivial⟩
  ·refine AAj (AAk (AAk (ABm (q_t (Zo (Zk (AAn (Zu (Zx ?_)))))))));obtain rfl:=Zm (A8 _ (Zm (AA9 Ai Aj)).symm);exact ⟨_,ABi,Ad.x,_,_,_,_,rfl,(Ad.o2 p0),Ad.s.sel [0] Zl⟩
def AIi (fuel:Nat) (Ad:LiI) (Aa:Int) (Ab:LiI):Option ((Int × LiI) ⊕ ((LiI))):=
  (if Aa < (Ad.length:Int) then ((gI Ab Aa).bind fun Ac=>((AKy fuel 1).bind fun Ae=>((gI Ac Aa).bind fun Af=>(some (Sum.inl ((w64 (Aa + 1)),(sI Ab Aa (sI Ac Aa Ae)))))))) else (some (Sum.inr<| Ab)))
def ADx (fuel:Nat) (a1:Int):Option (LiI × Bool):=
  (((if a1 < 1 then (some (Sum.inl <| ([],false))) else (if 16 < a1 then (some (Sum.inl <| ([],false))) else (some (Sum.inr <| ())))):Option (((LiI × Bool)) ⊕ (Unit))).bind (fun ex=>match ex with | Sum.inl Ac=>(some Ac) | Sum.inr (_)=>((ADm fuel a1 a1).bind fun Ab=>((iter (fun s=>AIi fuel Ab s.1 s.2) fuel (0,Ab)).bind (fun (Ad:LiI)=>(some (Ad,true)))))))
theorem AMv {fuel:Nat} {h:Zv} {a1:Int} {r:(LiI × Bool)} (hp:ADx fuel a1=some r):AAw Tryz.prog 58 #[(.int .i64 a1)] h (fun x h'=>Ext h h'/\ ∃ (x0:Value) (F0:List Nat) (Az:List LnA) (A3:List Value),x= .tuple #[x0,.bool r.2]/\ACy cZ 128 94 h' F0 Az A3 x0 r.1/\Sp h' h.size [F0]):=by
 unfold ADx at hp;refine cwf (l:=[_]) Tryz.func58 rfl rfl (Zo (AAn (Zu ?_)));have K0:=Kst.k0 h;obtain ⟨A4,Au,Af⟩:=Zq hp;refine AKi 4044 (fun x:Unit=>[]) (fun x h'=>(Sum.inr <| ())=A4/\Kst h h' (K0.L)) ?_ ?_
 ·refine Zo (Zk (AAv rfl rfl (Zk ?_)));by_cases Ad:a1 < 1
  ·rw [decide_eq_true Ad];refine AG3 8 true (AAa rfl (Zs (AAr rfl (Zo (AAn (Zu ?_))))));obtain rfl:=Zm (ifT Au Ad);refine Zx (AAd ?_);have Ag:=Kst.anil2 cZ 128 94 K0;obtain rfl:=Zm Af;exact ⟨_,ABi,Ag.x,_,_,_,_,rfl,(Ag.o2 p0),Ag.s.sel [0] Zl⟩
  ·have Av:=ifF Au Ad;rw [decide_eq_false Ad];refine Z4 8 false (Zk (Z4 8 false (AF1 rfl rfl (Z1 rfl (Zs (⟨_,rfl,fun Ah=>?_,fun Ah=>?_⟩))))))
   ·refine Zo (AAn (Zu ?_));obtain rfl:=Zm (AA8 Av Ah);refine Zx (AAd ?_);have Ai:=Kst.anil2 cZ 128 94 K0;obtain rfl:=Zm Af;exact ⟨_,ABi,Ai.x,_,_,_,_,rfl,(Ai.o2 p0),Ai.s.sel [0] Zl⟩
   ·refine Zw (q_t ?_);exact ⟨(():Unit),⟨Zm (AA9 Av Ah),K0⟩,trivial⟩
 rintro ⟨⟩ Bq Br ⟨A5,A6⟩;subst A5;refine Zo (Zk (Zk ?_));obtain ⟨A7,A8,A9⟩:=Zq Af;refine AM5 A6 (AHs A8) fun Ba Bb Bc Be Bt Bu Aj=>Zu (Zp (Zo (Zk (AA6 ABz rfl (Aj.o2 p0).rd (Zk (Zs (Zt (AFo 268304416 (fun x:(Int) × (LiI) × LnA × LnN × LvA=>(x.1,x.2.1)) ((0,A7,Ba,Bb,Bc):(Int) × (LiI) × LnA × LnN × LvA) A9 (fun x=>[(17,(.int .i64 x.1))]) (fun x=>Aj.L.set 0 (aO2 cZ 128 94 x.2.2.1 x.2.2.2.1 x.2.2.2.2 Be x.2.1)) Aj ⟨rfl,trivial⟩ ?_))))))));rintro ⟨Aw,Bv,Bw,Bx,By⟩ Bz Ak B1 Aa Am Bf;unfold AIi at Am;refine Zo (AAv rfl rfl (Zs (Zp (⟨_,rfl,fun Ao=>?_,fun Ao=>?_⟩))))
 ·refine Zw (q_t (Zp (Zt (Zo (Zk (Zu (ACj (fun h'=>UpT [] Ak h') Zy ?_)))))));have Ax:UpT [] Ak Ak:=UpT.start all_nil;refine Zk (Zk ?_);obtain ⟨B3,Ap,Bg⟩:=Zq (AA8 Am Ao);refine ADb ABz rfl (Aa.o2 p0) rfl Ap fun B4 B5 B6 Bh Bi=>ACl AD1 rfl Ax (fun h' hb=>AAz Bi hb.ext) (Zk ?_);obtain ⟨B7,Bj,Bl⟩:=Zq Bg;refine AFn Aa Ax (AJ6 Bj) fun B8 B9 Ca Ab Cb=>?_;obtain ⟨Cd,Ay,Bm⟩:=Zq Bl;refine AE9 (m:=Aw) AC9 rfl (Aa.o2 p0) Bh Ap rfl Ay fun Ce Bn=>ANv (m:=Aw) (ASf ABn (cZ.klen (Ab.z p0)) rfl rfl (cZ.one (Ab.z p0))) (Ab.o2 p1) Bn Ap Ay (Ab.z p0) fun Cf Bo Bp=>AAo (q_b (q_t (AAc (AAx rfl rfl (Zk (Zs ?_))))));exact ⟨(_,_,_,_,_),(Zm Bm).symm,(Ab.uO2 p1 Bp Bo).sel [1] Zl,rfl,trivial⟩
 ·refine AAj (AAk (AAk (ABm (q_t (Zo (Zk (AAn (Zu (Zx ?_)))))))));obtain rfl:=Zm (Bf _ (Zm (AA9 Am Ao)).symm);exact ⟨_,ABi,Aa.x,_,_,_,_,rfl,(Aa.o2 p0),Aa.s.sel [0] Zl⟩
def AHy (fuel:Nat) (a3:LiI) (Ab:Int) (Af:LiA) (Aa:Int) (Ac:LiI):Option ((Int × LiI) ⊕ ((LiI))):=
  (if Aa < (Af.length:Int) then ((gI Ac Aa).bind fun Ad=>((gI a3 Ab).bind fun Ag=>((gI Ag Aa).bind fun Ah=>((ASi fuel Ah).bind fun Ai=>((gI Ad Ab).bind fun Aj=>(some (Sum.inl ((w64 (Aa + 1)),(sI Ac Aa (sI Ad Ab Ai)))))))))) else (some (Sum.inr<| Ac)))
def AHz (fuel:Nat) (a3:LiI) (Aa:Int) (Ac:LiI):Option ((Int × LiI) ⊕ ((LiI))):=
  (if Aa < (a3.length:Int) then ((gI a3 Aa).bind fun Ad=>((iter (fun s=>AHy fuel a3 Aa Ad s.1 s.2) fuel (0,Ac)).bind (fun (Ae:LiI)=>(some (Sum.inl ((w64 (Aa + 1)),Ae)))))) else (some (Sum.inr<| Ac)))
def ADn (fuel:Nat) (a3:LiI):Option (LiI × Bool):=
  ((AB7 fuel a3).bind fun (x5,x6,x7)=>(if (!x7)=true then (some ([],false)) else ((ADm fuel x6 x5).bind fun Ae=>((iter (fun s=>AHz fuel a3 s.1 s.2) fuel (0,Ae)).bind (fun (Af:LiI)=>(some (Af,true)))))))
theorem AMc {fuel:Nat} {h:Zv} {Aq:Value} {a3:LiI} {r:(LiI × Bool)} (H2:ACx cZ h Aq a3) (hp:ADn fuel a3=some r):AAw Tryz.prog 117 #[Aq] h (fun x h'=>Ext h h'/\ ∃ (x0:Value) (F0:List Nat) (A6:List LnA) (A7:List Value),x= .tuple #[x0,.bool r.2]/\ACy cZ 128 94 h' F0 A6 A7 x0 r.1/\Sp h' h.size [F0]):=by
 unfold ADn at hp;refine cwf (l:=[_]) Tryz.func117 rfl rfl (Zo (AAn (AA5 (Zk ?_))));have K0:=Kst.k0 h;obtain ⟨⟨x5,x6,x7⟩,A8,Af⟩:=Zq hp;dsimp only at Af;refine ACa K0 (AHe (H2.ext K0.x) A8) fun Cd Ce Ax=>Zk (ABl rfl rfl (ABl rfl rfl (ABl rfl rfl (AAn (AAn (Zu (Zp (Zo (Zk (ACr rfl (Zs (⟨_,rfl,fun Ag=>?_,fun Ag=>?_⟩))))))))))))
 ·refine Zo (AAn (Zu (Zx (AAd ?_))));have Ah:=Kst.anil2 cZ 128 94 Ax;obtain rfl:=Zm (ifT Af Ag);exact ⟨_,ABi,Ah.x,_,_,_,_,rfl,(Ah.o2 p0),Ah.s.sel [0] Zl⟩
 ·refine Zw (q_t (Zo (Zk (Zk ?_))));obtain ⟨A9,Ba,Bb⟩:=Zq (AFe Af Ag);refine AM5 Ax (AHs Ba) fun Bc Be Bf Ay Cf Cg Az=>Zu (Zp (Zo (Zk (AA6 ABz rfl H2 (Zk (Zs (Zt (AFo 1125899898454784 (fun x:(Int) × (LiI) × LnA × LnN × LvA=>(x.1,x.2.1)) ((0,A9,Bc,Be,Bf):(Int) × (LiI) × LnA × LnN × LvA) Bb (fun x=>[(23,(.int .i64 x.1))]) (fun x=>Az.L.set 0 (aO2 cZ 128 94 x.2.2.1 x.2.2.2.1 x.2.2.2.2 Ay x.2.1)) Az ⟨rfl,trivial⟩ ?_))))))));rintro ⟨Ch,Bg,Bh,Bi,Bj⟩ Ci Cj Ck Ab Ai Bl;unfold AHz at Ai;refine Zo (AAv rfl rfl (Zs (Zp (⟨_,rfl,fun Aj=>?_,fun Aj=>?_⟩))))
  ·refine Zw (q_t (Zp (Zt (Zo (Zk (AA5 (Zk (Zk ?_))))))));obtain ⟨Cm,Bm,Bn⟩:=Zq (AA8 Ai Aj);refine AGh ABz AD1 H2 Ab.x Bm fun _ Cn Bo=>ABj AC9 rfl Bo (Zk (Zs (Zt (AFo 562947805938176 (fun x:(Int) × (LiI) × LnA × LnN × LvA=>(x.1,x.2.1)) ((0,Bg,Bh,Bi,Bj):(Int) × (LiI) × LnA × LnN × LvA) Bn (fun x=>[(31,(.int .i64 x.1))]) (fun x=>Ab.L.set 0 (aO2 cZ 128 94 x.2.2.1 x.2.2.2.1 x.2.2.2.2 Ay x.2.1)) Ab ⟨rfl,trivial⟩ ?_))));rintro ⟨A3,u64,Co,Cp,Cq⟩ Cr Ak Ct Aa Am Bp;unfold AHy at Am;refine Zo (AAv rfl rfl (Zs (Zp (⟨_,rfl,fun Ao=>?_,fun Ao=>?_⟩))))
   ·refine Zw (q_t (Zp (Zt (Zo (Zk (Zu (ACj (fun h'=>UpT [] Ak h') Zy ?_)))))));have Ae:UpT [] Ak Ak:=UpT.start all_nil;refine Zk (Zk ?_);obtain ⟨Cu,Ap,Bq⟩:=Zq (AA8 Am Ao);refine ADb ABz rfl (Aa.o2 p0) rfl Ap fun Cv Cw Cx Br Bt=>ACl AD1 rfl Ae (fun h' hb=>AAz Bt hb.ext) (Zk (Zk (Zk ?_)));obtain ⟨Cy,Bu,Bv⟩:=Zq Bq;refine ATc ABz rfl H2 rfl Bu fun Cz C0 C1 Bw Bx=>ACl AD1 rfl Ae (fun h' hb=>AAz Bw (Aa.x.trans hb.ext)) (Zk ?_);obtain ⟨C2,By,Bz⟩:=Zq Bv;refine AI2 (c:=cZ) AC9 rfl Bx rfl By fun C3 C4 C5 A4 B1=>ARi (c:=cZ) ABn rfl A4 Ae (fun h' hb j u hu=>AAz (B1 j u hu) (Aa.x.trans hb.ext)) ?_;obtain ⟨C6,B3,B4⟩:=Zq Bz;refine AFn Aa Ae (AT7 (Aa.zx A4).2 B3) fun C7 C8 C9 Ac Da=>?_;obtain ⟨Db,A5,B5⟩:=Zq B4;refine AE9 (m:=A3) AC9 rfl (Aa.o2 p0) Br Ap rfl A5 fun Dc B6=>ANv (m:=A3) (ASf ABn (cZ.klen (Ac.z p0)) rfl rfl (cZ.one (Ac.z p0))) (Ac.o2 p1) B6 Ap A5 (Ac.z p0) fun Dd B7 B8=>AAo (q_b (q_t (AAc (AAx rfl rfl (Zk (Zs ?_))))));exact ⟨(_,_,_,_,_),(Zm B5).symm,(Ac.uO2 p1 B8 B7).sel [1] Zl,rfl,trivial⟩
   ·refine AAj (AAk (AAk (ABm (q_b (q_t (AAc (AAx rfl rfl (Zk (Zs ?_)))))))));exact ⟨(_,_,_,_,_),(Zm (Bp _ (Zm (AA9 Am Ao)).symm)).symm,Aa,rfl,trivial⟩
  ·refine AAj (AAk (AAk (ABm (q_t (Zo (Zk (AAn (Zu (Zx ?_)))))))));obtain rfl:=Zm (Bl _ (Zm (AA9 Ai Aj)).symm);exact ⟨_,ABi,Ab.x,_,_,_,_,rfl,(Ab.o2 p0),Ab.s.sel [0] Zl⟩
def ALx (fuel:Nat) (a3 a7:LiA) (Aa Ac:Int):Option ((Int × Int) ⊕ ((Int))):=
  (if Aa < (a3.length:Int) then ((gI a3 Aa).bind fun Ae=>((gI a7 Aa).bind fun Af=>((ARp fuel Ae Af).bind fun Ag=>((Ai9 fuel Ac Ag).bind fun Ah=>(some (Sum.inl ((w64 (Aa + 1)),Ah))))))) else (some (Sum.inr<| Ac)))
def AH4 (fuel:Nat) (a3 a7:LiA):Option Int:=
  ((iter (fun s=>ALx fuel a3 a7 s.1 s.2) fuel (0,0)).bind (fun (Ac:Int)=>(some Ac)))
theorem AUa {fuel:Nat} {h:Zv} {Ai:Value} {a3:LiA} {Ak:Value} {a7:LiA} {r:Int} (H2:SlC cZ h Ai a3) (H6:SlC cZ h Ak a7) (hp:AH4 fuel a3 a7=some r):AAw Tryz.prog 159 #[Ai,Ak] h (fun x h'=>Ext h h'/\ ∃ (x0:Value),x=x0/\ZZ h' x0 r):=by
 unfold AH4 at hp;refine cwf (l:=[_,_]) Tryz.func159 rfl rfl (Zo (AC4 (Kst.k0 h) [.bool false,.slice none 0 0] AE3 fun b9 Bn Bo Ax=>AId (ADr (AO3 ) (AC4 Ax [.bool false,.slice none 0 0] AE3 fun Ay Aq Bp Az=>AGd Az p0 (AAf Aq) (AAf Aq) fun A3 A4=>Zs (Zp (Zp ?_))))));refine AAc (Zk (ABj AC9 rfl H2 (Zk (Zs (Zt ?_)))));have Ar:=A4.az (AAf A3);refine AFo 33553472 (fun x:(Int) × (Int) × LvA=>(x.1,x.2.1)) ((0,0,[Value.bool false,Value.slice none 0 0]):(Int) × (Int) × LvA) hp (fun x=>[(10,(.int .i64 x.1))]) (fun x=>(Ar.L.set 0 (aZ x.2.2 x.2.1)).set 1 (aB 94 Ay x.2.2)) Ar ⟨rfl,trivial⟩ ?_;rintro ⟨Bq,Br,Bt⟩ Bu Ac Bv Aa Af A5;unfold ALx at Af;refine Zo (AAv rfl rfl (Zs (Zp (⟨_,rfl,fun Ag=>?_,fun Ag=>?_⟩))))
 ·refine Zw (q_t (Zp (Zt (Zo (Zk (Zu (ACj (fun h'=>UpT [] Ac h') Zy ?_)))))));have Ad:UpT [] Ac Ac:=UpT.start all_nil;refine AOh (Aa.z p0) Ad (Aa.b p1) (Zk (Zk ?_));obtain ⟨Bw,A6,A7⟩:=Zq (AA8 Af Ag);refine AI2 (c:=cZ) AC9 rfl H2 rfl A6 fun Bx By Bz Au A8=>ARi (c:=cZ) ABn rfl Au Ad (fun h' hb j u hu=>AAz (A8 j u hu) (Aa.x.trans hb.ext)) (Zk (Zk ?_));obtain ⟨B1,A9,Ba⟩:=Zq A7;refine AI2 (c:=cZ) AC9 rfl H6 rfl A9 fun B3 B4 B5 Av Bb=>ARi (c:=cZ) ABn rfl Av Ad (fun h' hb j u hu=>AAz (Bb j u hu) (Aa.x.trans hb.ext)) ?_;obtain ⟨B6,Bc,Be⟩:=Zq Ba;refine AFn Aa Ad (AQi (Aa.zx Au).2 (Aa.zx Av).2 Bc) fun B7 B8 B9 Ah Bf=>?_;obtain ⟨Ca,Bg,Bh⟩:=Zq Be;refine AFn Ah Bf (Ahj (Ah.z p1).2 (Ah.z p0).2 Bg) fun Bi Cb Cd Ab Ce=>AB9 Bi ABn (cZ.klen (Ab.z p0)) (cZ.klen (Ab.z p2)) rfl rfl (cZ.one (Ab.z p0)) (Ab.b p3) fun Cf Bj Bl=>AAo (q_b (q_t (AAc (AAx rfl rfl (Zk (Zs ?_))))));exact ⟨(_,_,_),(Zm Bh).symm,(Ab.sb p3 Bl Bj rfl).sel [0,3,4] Zl,rfl,trivial⟩
 ·refine AAj (AAk (AAk (ABm (q_t (Zo (AK6 (Aa.z p0) (Aa.b p1) (AGd Aa p2 (AAf Ac) (Aa.z p0) fun Cg Ae=>Zs (Zx ?_))))))));obtain rfl:=Zm (A5 _ (Zm (AA9 Af Ag)).symm);exact ⟨_,ACg ABn (cZ.klen (Ae.z p0)) rfl (Ae.b p2),Ae.x,_,rfl,(Ae.z p0).2⟩
def ALy (fuel:Nat) (a3 Ad:LiI) (Ab Aa:Int) (Ac:LiI):Option ((Int × LiI) ⊕ ((LiI))):=
  (if Aa < (Ad.length:Int) then ((gI Ac Ab).bind fun Ae=>((gI a3 Ab).bind fun Ag=>((gI Ad Aa).bind fun Ah=>((AH4 fuel Ag Ah).bind fun Ai=>((gI Ae Aa).bind fun Aj=>(some (Sum.inl ((w64 (Aa + 1)),(sI Ac Ab (sI Ae Aa Ai)))))))))) else (some (Sum.inr<| Ac)))
def ALz (fuel:Nat) (a3 Ad:LiI) (Aa:Int) (Ac:LiI):Option ((Int × LiI) ⊕ ((LiI))):=
  (if Aa < (a3.length:Int) then ((iter (fun s=>ALy fuel a3 Ad Aa s.1 s.2) fuel (0,Ac)).bind (fun (Ae:LiI)=>(some (Sum.inl ((w64 (Aa + 1)),Ae))))) else (some (Sum.inr<| Ac)))
def AH5 (fuel:Nat) (a3 a7:LiI):Option (LiI × Bool):=
  ((AB7 fuel a3).bind fun (x9,Ad,Ae)=>((ADn fuel a7).bind fun (Ac,Af)=>(((if (!Ae)=true then (some (Sum.inl <| ([],false))) else (if (!Af)=true then (some (Sum.inl <| ([],false))) else (if ¬ (a7.length:Int)=Ad then (some (Sum.inl <| ([],false))) else (some (Sum.inr <| ()))))):Option (((LiI × Bool)) ⊕ (Unit))).bind (fun ex=>match ex with | Sum.inl Ag=>(some Ag) | Sum.inr (_)=>((ADm fuel (a3.length:Int) (Ac.length:Int)).bind fun Ah=>((iter (fun s=>ALz fuel a3 Ac s.1 s.2) fuel (0,Ah)).bind (fun (Ai:LiI)=>(some (Ai,true)))))))))
theorem AUb {fuel:Nat} {h:Zv} {Av:Value} {a3:LiI} {Ax:Value} {a7:LiI} {r:(LiI × Bool)} (H2:ACx cZ h Av a3) (H6:ACx cZ h Ax a7) (hp:AH5 fuel a3 a7=some r):AAw Tryz.prog 118 #[Av,Ax] h (fun x h'=>Ext h h'/\ ∃ (x0:Value) (F0:List Nat) (Bm:List LnA) (Bn:List Value),x= .tuple #[x0,.bool r.2]/\ACy cZ 128 94 h' F0 Bm Bn x0 r.1/\Sp h' h.size [F0]):=by
 unfold AH5 at hp;refine cwf (l:=[_,_]) Tryz.func118 rfl rfl (Zo (AAn (AA5 (Zk ?_))));have K0:=Kst.k0 h;obtain ⟨⟨x9,Cx,Bo⟩,Bp,A6⟩:=Zq hp;dsimp only at A6;refine ACa K0 (AHe (H2.ext K0.x) Bp) fun Cy Cz A7=>Zk (ABl rfl rfl (ABl rfl rfl (ABl rfl rfl (AAn (AAn (AA5 (Zk ?_)))))));obtain ⟨⟨C0,Bq⟩,Br,A8⟩:=Zq A6;dsimp only at A8;refine ANz rfl (AMc (H6.ext A7.x) Br) fun C1 C2 Bt Bu=>?_;obtain ⟨C3,C4,C5,C6,rfl,Bv,Bw⟩:=Bu;refine Zk (ABl rfl rfl (ABl rfl rfl (AAn (Zu ?_))));have Ac:=A7.no2 Bt Bw Bv;obtain ⟨Bx,A9,Af⟩:=Zq A8;refine AKi 137405399088 (fun x:Unit=>[]) (fun x h'=>(Sum.inr <| ())=Bx/\Kst h h' (Ac.L)) ?_ ?_
 ·refine Zo (Zk (ACr rfl (Zk ?_)));cases Ba:(!Bo)
  ·refine Z4 27 false (Zk (Z4 27 false (ACr rfl (Z1 rfl (Zk ?_)))));have Bb:=AFe A9 Ba;cases Bc:(!Bq)
   ·refine Z4 31 false (Zk (Z4 31 false (AA6 ABz rfl H6 (Z4 31 false (Zk (Z4 31 false (ACp rfl rfl (Z1 rfl (Zs ?_)))))))));have Be:=AFe Bb Bc;refine ⟨_,rfl,fun Ah=>?_,fun Ah=>?_⟩
    ·refine Zo (AAn (Zu ?_));obtain rfl:=Zm (AA8 Be Ah);refine Zx (AAd ?_);have Ai:=Kst.anil2 cZ 128 94 Ac;obtain rfl:=Zm Af;exact ⟨_,ABi,Ai.x,_,_,_,_,rfl,(Ai.o2 p0),Ai.s.sel [0] Zl⟩
    ·refine Zw (q_t ?_);exact ⟨(():Unit),⟨Zm (AA9 Be Ah),Ac⟩,trivial⟩
   ·refine AD0 31 true (AAa rfl (Zs (AAr rfl (Zo (AAn (Zu ?_))))));obtain rfl:=Zm (ifT Bb Bc);refine Zx (AAd ?_);have Aj:=Kst.anil2 cZ 128 94 Ac;obtain rfl:=Zm Af;exact ⟨_,ABi,Aj.x,_,_,_,_,rfl,(Aj.o2 p0),Aj.s.sel [0] Zl⟩
  ·refine AG3 27 true (AAa rfl (Zk (AD0 31 true (AAa rfl (Zs (AAr rfl (Zo (AAn (Zu ?_)))))))));obtain rfl:=Zm (ifT A9 Ba);refine Zx (AAd ?_);have Ak:=Kst.anil2 cZ 128 94 Ac;obtain rfl:=Zm Af;exact ⟨_,ABi,Ak.x,_,_,_,_,rfl,(Ak.o2 p0),Ak.s.sel [0] Zl⟩
 rintro ⟨⟩ C7 C8 ⟨By,Bf⟩;subst By;refine Zo (Zk (AA6 ABz rfl H2 (Zk (AA6 ABz rfl (Bf.o2 p0).rd ?_))));obtain ⟨Bz,B1,B3⟩:=Zq Af;refine AM5 Bf (AHs B1) fun B4 B5 B6 Bg C9 Da Bh=>Zu (Zp (Zo (Zk (AA6 ABz rfl H2 (Zk (Zs (Zt (AFo 590295792766519619584 (fun x:(Int) × (LiI) × LnA × LnN × LvA=>(x.1,x.2.1)) ((0,Bz,B4,B5,B6):(Int) × (LiI) × LnA × LnN × LvA) B3 (fun x=>[(44,(.int .i64 x.1))]) (fun x=>Bh.L.set 0 (aO2 cZ 128 94 x.2.2.1 x.2.2.2.1 x.2.2.2.2 Bg x.2.1)) Bh ⟨rfl,trivial⟩ ?_))))))));rintro ⟨Bi,B7,B8,B9,Ca⟩ Db Dc Dd Ab Am Cb;unfold ALz at Am;refine Zo (AAv rfl rfl (Zs (Zp (⟨_,rfl,fun Ao=>?_,fun Ao=>?_⟩))))
 ·refine Zw (q_t (Zp (Zt (Zo (Zk (AA5 (Zk (AA6 ABz rfl (Ab.o2 p1).rd (Zk (Zs (Zt (AFo 295147342229399412736 (fun x:(Int) × (LiI) × LnA × LnN × LvA=>(x.1,x.2.1)) ((0,B7,B8,B9,Ca):(Int) × (LiI) × LnA × LnN × LvA) (AA8 Am Ao) (fun x=>[(49,(.int .i64 x.1))]) (fun x=>Ab.L.set 0 (aO2 cZ 128 94 x.2.2.1 x.2.2.2.1 x.2.2.2.2 Bg x.2.1)) Ab ⟨rfl,trivial⟩ ?_))))))))))));rintro ⟨De,Df,Dg,Dh,Di⟩ Dj Ap Dk Aa Aq Cd;unfold ALy at Aq;refine Zo (AAv rfl rfl (Zs (Zp (⟨_,rfl,fun Ar=>?_,fun Ar=>?_⟩))))
  ·refine Zw (q_t (Zp (Zt (Zo (Zk (Zu (ACj (fun h'=>UpT [] Ap h') Zy ?_)))))));have Ag:UpT [] Ap Ap:=UpT.start all_nil;refine Zk (Zk ?_);obtain ⟨Dl,Au,Ce⟩:=Zq (AA8 Aq Ar);refine ADb ABz rfl (Aa.o2 p0) rfl Au fun Do Dp Dq Cf Cg=>ACl AD1 rfl Ag (fun h' hb=>AAz Cg hb.ext) (Zk (Zk (Zk ?_)));obtain ⟨Dr,Ch,Ci⟩:=Zq Ce;refine ATc ABz rfl H2 rfl Ch fun Ds Dt Du Cj Ck=>ACl AD1 rfl Ag (fun h' hb=>AAz Cj (Aa.x.trans hb.ext)) (Zk (Zk ?_));obtain ⟨Dv,Bj,Cm⟩:=Zq Ci;refine ADb ABz rfl (Aa.o2 p1) rfl Bj fun Dw Dx Dy Cn Co=>ACl AD1 rfl Ag (fun h' hb=>AAz Co hb.ext) ?_;obtain ⟨Dz,Cp,Cq⟩:=Zq Cm;refine AFn Aa Ag (AUa (Ck.ext Aa.x) ((Aa.o2 p1).rowI Cn Bj) Cp) fun D0 D1 D2 Ad D3=>?_;obtain ⟨D4,Bl,Cr⟩:=Zq Cq;refine AE9 (m:=Bi) AC9 rfl (Aa.o2 p0) Cf Au rfl Bl fun D5 Ct=>ANv (m:=Bi) (ASf ABn (cZ.klen (Ad.z p0)) rfl rfl (cZ.one (Ad.z p0))) (Ad.o2 p1) Ct Au Bl (Ad.z p0) fun D6 Cu Cv=>AAo (q_b (q_t (AAc (AAx rfl rfl (Zk (Zs ?_))))));exact ⟨(_,_,_,_,_),(Zm Cr).symm,(Ad.uO2 p1 Cv Cu).sel [1,2] Zl,rfl,trivial⟩
  ·refine AAj (AAk (AAk (ABm (q_b (q_t (AAc (AAx rfl rfl (Zk (Zs ?_)))))))));exact ⟨(_,_,_,_,_),(Zm (Cd _ (Zm (AA9 Aq Ar)).symm)).symm,Aa,rfl,trivial⟩
 ·refine AAj (AAk (AAk (ABm (q_t (Zo (Zk (AAn (Zu (Zx ?_)))))))));obtain rfl:=Zm (Cb _ (Zm (AA9 Am Ao)).symm);exact ⟨_,ABi,Ab.x,_,_,_,_,rfl,(Ab.o2 p0),Ab.s.sel [0] Zl⟩
def ACe (fuel:Nat) (a3 a7:LiI):Option LiI:=
  ((AH5 fuel a3 a7).bind fun (x9,Ad)=>(some x9))
theorem AI4 {fuel:Nat} {h:Zv} {Ac:Value} {a3:LiI} {Ae:Value} {a7 r:LiI} (H2:ACx cZ h Ac a3) (H6:ACx cZ h Ae a7) (hp:ACe fuel a3 a7=some r):AAw Tryz.prog 62 #[Ac,Ae] h (fun x h'=>Ext h h'/\ ∃ (x0:Value) (F0:List Nat) (Am:List LnA) (Ao:List Value),x=x0/\ACy cZ 128 94 h' F0 Am Ao x0 r/\Sp h' h.size [F0]):=by
 unfold ACe at hp;refine cwf (l:=[_,_]) Tryz.func62 rfl rfl (Zo (AA5 (Zk (Zk ?_))));have K0:=Kst.k0 h;obtain ⟨⟨x9,Ax⟩,Ap,Ai⟩:=Zq hp;dsimp only at Ai;refine ANz rfl (AUb (H2.ext K0.x) (H6.ext K0.x) Ap) fun Ay Az Aq Ar=>?_;obtain ⟨A3,A4,A5,A6,rfl,Au,Av⟩:=Ar;refine Zk (ABl rfl rfl (ABl rfl rfl (AAn (AA5 (Zk (Zu (Zx ?_)))))));have Ab:=K0.no2 Aq Av Au;obtain rfl:=Zm Ai;exact ⟨_,Zz,Ab.x,_,_,_,_,rfl,(Ab.o2 p0),Ab.s.sel [0] Zl⟩
def AKn (fuel:Nat) (a1:Int) (Aa:LiA) (Ab:Int):Option ((LiA × Int) ⊕ ((LiA))):=
  (if Ab < a1 then (if Aa.length<=100000000 then (some (Sum.inl ((Aa ++ [Ab]),(w64 (Ab + 1))))) else none) else (some (Sum.inr<| Aa)))
def AFf (fuel:Nat) (a1 a2:Int):Option LiA:=
  ((iter (fun s=>AKn fuel a1 s.1 s.2) fuel ([],0)).bind (fun (Aa:LiA)=>(if Aa.length<=100000000 then (some (Aa ++ [a2])) else none)))
theorem AN1 {fuel:Nat} {h:Zv} {a1 a2:Int} {r:LiA} (hp:AFf fuel a1 a2=some r):AAw Tryz.prog 150 #[(.int .i64 a1),(.int .i64 a2)] h (fun x h'=>Ext h h'/\ ∃ (x0:Value) (F0:List Nat),x=x0/\OwC (cI .i64) 3 h' F0 x0 r/\Sp h' h.size [F0]):=by
 unfold AFf at hp;refine cwf (l:=[_,_]) Tryz.func150 rfl rfl (Zo (AA5 (Zu (Zp (Zo (Zu (Zt ?_)))))));have K4:=Kst.anil (cI .i64) 3 (Kst.k0 h);refine AFo 65504 (fun x:(LiA) × (Value) × LnA × (Int)=>(x.1,x.2.2.2)) (([],(.slice none 0 0),[],0):(LiA) × (Value) × LnA × (Int)) hp (fun x=>[(5,x.2.1),(6,(.int .i64 x.2.2.2))]) (fun x=>K4.L.set 0 (aO (cI .i64) 3 x.2.2.1 x.2.1 x.1)) K4 ⟨rfl,rfl,trivial⟩ ?_;rintro ⟨Az,A3,A4,Aj⟩ A5 h9 y8 Ab Ac Ak;unfold AKn at Ac;refine Zp (Zo (Zk (Zk (AAv rfl rfl (Zs (⟨_,rfl,fun Ad=>?_,fun Ad=>?_⟩))))))
 ·refine Zw (q_t (Zp (Zt (AAc (Zk (Zk ?_))))));obtain ⟨Am,Ao⟩:=ifN (AA8 Ac Ad);refine ALt AWj AWu rfl rfl trivial tt2 (fun _=>rfl) rfl (show ((cI .i64)).rep _ Aj [(.int .i64 Aj)] from rfl) (Ab.o p0) Zl Am fun A8 A9 Ba Bb Ap Aq Ar=>AAn (AAo (q_b (q_t (AAc (Zk (AAx rfl rfl (Zu ?_)))))));exact ⟨(_,_,_,_),(Zm Ao).symm,(Ab.uo p0 Aq Ap Ar),rfl,rfl,trivial⟩
 ·refine AAj (AAk (AAk (ABm (q_t (Zo (Zk (Zk ?_)))))));obtain ⟨Au,Av⟩:=ifN (Ak _ (Zm (AA9 Ac Ad)).symm);refine ALt AWj AWu rfl rfl trivial tt2 (fun _=>rfl) rfl (show ((cI .i64)).rep _ a2 [(.int .i64 a2)] from rfl) (Ab.o p0) Zl Au fun Bc Be Bf Bg Aw Ax Ay=>Zu (Zx ?_);have Ae:=Ab.uo p0 Ax Aw Ay;obtain rfl:=Zm Av;exact ⟨_,Zz,Ae.x,_,_,rfl,(Ae.o p0),Ae.s.sel [0] Zl⟩
def AI5 (fuel:Nat) (a3:LiI) (x5:Int) (Ab:LiA) (Aa:Int):Option ((LiA × Int) ⊕ ((LiA))):=
  (if Aa < x5 then ((AFf fuel Aa Aa).bind fun Ae=>((AFf fuel Aa Aa).bind fun Af=>((AEq fuel a3 Ae Af).bind fun Ag=>((ABf fuel Ag).bind fun Ah=>(if Ab.length<=100000000 then (some (Sum.inl ((Ab ++ [Ah]),(w64 (Aa + 1))))) else none))))) else (some (Sum.inr<| Ab)))
def ADh (fuel:Nat) (a3:LiI):Option (LiA × Bool):=
  ((ADu fuel a3).bind fun (x5,x6)=>(if (!x6)=true then (some ([],false)) else ((iter (fun s=>AI5 fuel a3 x5 s.1 s.2) fuel ([],0)).bind (fun (Ad:LiA)=>(some (Ad,true))))))
theorem AI6 {fuel:Nat} {h:Zv} {Ai:Value} {a3:LiI} {r:(LiA × Bool)} (H2:ACx cZ h Ai a3) (hp:ADh fuel a3=some r):AAw Tryz.prog 98 #[Ai] h (fun x h'=>Ext h h'/\ ∃ (x0:Value) (F0:List Nat),x= .tuple #[x0,.bool r.2]/\OwC cZ 94 h' F0 x0 r.1/\Sp h' h.size [F0]):=by
 unfold ADh at hp;refine cwf (l:=[_]) Tryz.func98 rfl rfl (Zo (AAn (AA5 (Zk ?_))));have K0:=Kst.k0 h;obtain ⟨⟨x5,x6⟩,Av,Ac⟩:=Zq hp;dsimp only at Ac;refine ACa K0 (ANq (H2.ext K0.x) Av) fun Bh E9 Aq=>Zk (ABl rfl rfl (ABl rfl rfl (AAn (Zu (Zp (Zo (Zk (ACr rfl (Zs (⟨_,rfl,fun Ad=>?_,fun Ad=>?_⟩))))))))))
 ·refine Zo (AAn (Zu (Zx (AAd ?_))));have Ae:=Kst.anil cZ 94 Aq;obtain rfl:=Zm (ifT Ac Ad);exact ⟨_,ABi,Ae.x,_,_,rfl,(Ae.o p0),Ae.s.sel [0] Zl⟩
 ·refine Zw (q_t (Zo (Zu (Zp (Zo (Zu (Zt ?_)))))));have Ar:=Kst.anil cZ 94 Aq;refine AFo 4294934720 (fun x:(LiA) × (Value) × LnA × (Int)=>(x.1,x.2.2.2)) (([],(.slice none 0 0),[],0):(LiA) × (Value) × LnA × (Int)) (AFe Ac Ad) (fun x=>[(6,x.2.1),(7,(.int .i64 x.2.2.2))]) (fun x=>Ar.L.set 0 (aO cZ 94 x.2.2.1 x.2.1 x.1)) Ar ⟨rfl,rfl,trivial⟩ ?_;rintro ⟨Bj,Bl,Bm,u32⟩ Bn Bo Bp Aa Af Aw;unfold AI5 at Af;refine Zp (Zo (Zk (Zk (AAv rfl rfl (Zs (⟨_,rfl,fun Ag=>?_,fun Ag=>?_⟩))))))
  ·refine Zw (q_t (Zp (Zt (AAc (Zk (Zk (Zk (Zk ?_))))))));obtain ⟨Bq,Ax,Ay⟩:=Zq (AA8 Af Ag);refine Awc Aa (AN1 Ax) fun Br Bt Bu Bv Az=>Zk (Zk ?_);obtain ⟨Bw,A3,A4⟩:=Zq Ay;refine Awc Az (AN1 A3) fun Bx By Bz B1 Ab=>?_;obtain ⟨B3,A5,A6⟩:=Zq A4;refine AM5 Ab (ANr (H2.ext Ab.x) (Ab.o p1).rd (Ab.o p0).rd A5) fun B4 B5 B6 B7 B8 B9 Au=>?_;obtain ⟨Ca,A7,A8⟩:=Zq A6;refine AN0 Au (ACq (Au.o2 p0).rd A7) fun Cb Cd Ce Ah=>?_;obtain ⟨A9,Ba⟩:=ifN A8;refine ALt AC9 AE3 rfl rfl trivial tt2 (fun _=>rfl) rfl (Ah.z p0) (Ah.o p4) Zl A9 fun Cf Cg Ch Ci Bb Bc Be=>AAn (AAo (q_b (q_t (AAc (Zk (AAx rfl rfl (Zu ?_)))))));exact ⟨(_,_,_,_),(Zm Ba).symm,(Ah.uo p4 Bc Bb Be).sel [4] Zl,rfl,rfl,trivial⟩
  ·refine AAj (AAk (AAk (ABm (q_t (Zo (Zk (AAn (Zu (Zx ?_)))))))));obtain rfl:=Zm (Aw _ (Zm (AA9 Af Ag)).symm);exact ⟨_,ABi,Aa.x,_,_,rfl,(Aa.o p0),Aa.s.sel [0] Zl⟩
def AH0 (fuel:Nat) (a3:LiI) (Ab Aa:Int):Option ((Int) ⊕ ((Bool) ⊕ (Unit))):=
  (if Aa < Ab then ((gI a3 Ab).bind fun Ad=>((gI Ad Aa).bind fun Ae=>((gI a3 Aa).bind fun Af=>((gI Af Ab).bind fun Ag=>((Acr fuel Ae Ag).bind fun Ah=>(if ¬ Ah=0 then (some (Sum.inr<| Sum.inl <| false)) else (some (Sum.inl (w64 (Aa + 1)))))))))) else (some (Sum.inr<| Sum.inr <| ())))
def AH1 (fuel:Nat) (a3:LiI) (Aa:Int):Option ((Int) ⊕ ((Bool) ⊕ (Unit))):=
  (if Aa < (a3.length:Int) then ((iter (fun s=>AH0 fuel a3 Aa s) fuel 0).bind (fun ex=>match ex with | Sum.inl Ac=>(some (Sum.inr<| Sum.inl <| Ac)) | Sum.inr (_)=>(some (Sum.inl (w64 (Aa + 1)))))) else (some (Sum.inr<| Sum.inr <| ())))
def ADo (fuel:Nat) (a3:LiI):Option Bool:=
  ((iter (fun s=>AH1 fuel a3 s) fuel 0).bind (fun ex=>match ex with | Sum.inl Ab=>(some Ab) | Sum.inr (_)=>(some true)))
theorem AMd {fuel:Nat} {h:Zv} {Ai:Value} {a3:LiI} {r:Bool} (H2:ACx cZ h Ai a3) (hp:ADo fuel a3=some r):AAw Tryz.prog 95 #[Ai] h (fun x h'=>Ext h h'/\x= .bool r):=by
 unfold ADo at hp;refine cwf (l:=[_]) Tryz.func95 rfl rfl (Zo (Zu (Zp (Zo (Zk (AA6 ABz rfl H2 (Zk (Zs (Zt ?_)))))))));have K0:=Kst.k0 h;refine AG5 4294967196 hp (fun x=>[(7,(.int .i64 x))]) (fun x=>K0.L) K0 ⟨rfl,trivial⟩ ?_;rintro Bb Bc h8 y7 Ac Ad Am;unfold AH1 at Ad;refine Zo (AAv rfl rfl (Zs (Zp (⟨_,rfl,fun Ae=>?_,fun Ae=>?_⟩))))
 ·refine Zw (q_t (Zp (Zt (Zo (Zk (AA5 (Zu (Zt (AG5 2147482644 (AA8 Ad Ae) (fun x=>[(4,(.int .i64 x))]) (fun x=>Ac.L) Ac ⟨rfl,trivial⟩ ?_)))))))));rintro Bg Bh Bi Bj Aa Af Ao;unfold AH0 at Af;refine Zp (Zo (Zk (Zk (AAv rfl rfl (Zs (⟨_,rfl,fun Ag=>?_,fun Ag=>?_⟩))))))
  ·refine Zw (q_t (Zp (Zt (Zp (AGe (Zk (Zk ?_)))))));obtain ⟨Bl,Av,Aw⟩:=Zq (AA8 Af Ag);refine AGh ABz AD1 H2 Aa.x Av fun _ Bm Ax=>Zk ?_;obtain ⟨Bn,Ay,Az⟩:=Zq Aw;refine AI2 (c:=cZ) AC9 rfl Ax rfl Ay fun Bo Bp Bq Ap A3=>AOe (c:=cZ) ABn rfl (Aa.zx Ap) (fun j u hu=>(AAz (A3 j u hu) Aa.x)) (Zk (Zk ?_));obtain ⟨Br,A4,A5⟩:=Zq Az;refine AGh ABz AD1 H2 Aa.x A4 fun _ Bt A6=>Zk ?_;obtain ⟨Bu,A7,A8⟩:=Zq A5;refine AI2 (c:=cZ) AC9 rfl A6 rfl A7 fun Bv Bw Bx Aq A9=>AOe (c:=cZ) ABn rfl (Aa.zx Aq) (fun j u hu=>(AAz (A9 j u hu) Aa.x)) ?_;obtain ⟨By,Ba,Ar⟩:=Zq A8;refine ACa Aa (Aa7 (Aa.zx Ap).2 (Aa.zx Aq).2 Ba) fun Bz B1 Au=>ACp rfl rfl (Zs (⟨_,rfl,fun Ah=>?_,fun Ah=>?_⟩))
   ·refine Zo (Zu (Zx (ABg (AAd (AAd (ABg (ABg (AAd (AAd (ABg (AAd ?_)))))))))));obtain rfl:=Zm (Am _ (Zm (Ao _ (Zm (AA8 Ar Ah)).symm)).symm);exact ⟨_,Zz,Au.x,rfl⟩
   ·refine Zw (q_b (q_t (AAc (Zk (AAx rfl rfl (Zu ?_))))));exact ⟨_,(Zm (AA9 Ar Ah)).symm,Au,rfl,trivial⟩
  ·refine AAj (AAk (AAk (ABm (q_b (q_t (AAc (AAx rfl rfl (Zk (Zs ?_)))))))));exact ⟨_,(Zm (Ao _ (Zm (AA9 Af Ag)).symm)).symm,Aa,rfl,trivial⟩
 ·refine AAj (AAk (AAk (ABm (q_t (Zo (Zu (Zx ?_)))))));obtain rfl:=Zm (Am _ (Zm (AA9 Ad Ae)).symm);exact ⟨_,Zz,Ac.x,rfl⟩
def AIj (fuel:Nat) (x5:LiA) (Aa:Int):Option ((Int) ⊕ ((Bool) ⊕ (Unit))):=
  (if Aa < (x5.length:Int) then ((gI x5 Aa).bind fun Ac=>((AYu fuel Ac).bind fun Ad=>(if Ad<=0 then (some (Sum.inr<| Sum.inl <| false)) else (some (Sum.inl (w64 (Aa + 1))))))) else (some (Sum.inr<| Sum.inr <| ())))
def AFq (fuel:Nat) (a3:LiI):Option Bool:=
  ((ADh fuel a3).bind fun (x5,x6)=>(((if (!x6)=true then (some (Sum.inl <| false)) else ((ADo fuel a3).bind fun Ad=>(if (!Ad)=true then (some (Sum.inl <| false)) else (some (Sum.inr <| ()))))):Option ((Bool) ⊕ (Unit))).bind (fun ex=>match ex with | Sum.inl Ae=>(some Ae) | Sum.inr (_)=>((iter (fun s=>AIj fuel x5 s) fuel 0).bind (fun ex=>match ex with | Sum.inl Af=>(some Af) | Sum.inr (_)=>(some true))))))
theorem AQy {fuel:Nat} {h:Zv} {Aj:Value} {a3:LiI} {r:Bool} (H2:ACx cZ h Aj a3) (hp:AFq fuel a3=some r):AAw Tryz.prog 96 #[Aj] h (fun x h'=>Ext h h'/\x= .bool r):=by
 unfold AFq at hp;refine cwf (l:=[_]) Tryz.func96 rfl rfl (Zo (AA5 (Zk ?_)));have K0:=Kst.k0 h;obtain ⟨⟨x5,x6⟩,A6,Ap⟩:=Zq hp;dsimp only at Ap;refine ANz rfl (AI6 (H2.ext K0.x) A6) fun Bn Bo E9 A8=>?_;obtain ⟨Bp,Bq,rfl,A9,Ba⟩:=A8;refine Zk (ABl rfl rfl (ABl rfl rfl (AAn (Zu ?_))));have Aa:=K0.no E9 Ba A9;obtain ⟨Bb,Aq,Ad⟩:=Zq Ap;refine AKi 520196 (fun x:Unit=>[]) (fun x h'=>(Sum.inr <| ())=Bb/\Kst h h' (Aa.L)) ?_ ?_
 ·refine Zo (Zk (ACr rfl (Zk ?_)));cases Ar:(!x6)
  ·refine Z4 14 false (Zk (Z4 14 false ?_));obtain ⟨Br,Bc,Au⟩:=Zq (AFe Aq Ar);refine ACa Aa (AMd (H2.ext Aa.x) Bc) fun Bt Bu Av=>Z4 14 false (ACr rfl (Z1 rfl (Zs (⟨_,rfl,fun Ae=>?_,fun Ae=>?_⟩))))
   ·refine Zo (Zu ?_);obtain rfl:=Zm (ifT Au Ae);refine Zx (AAd ?_);obtain rfl:=Zm Ad;exact ⟨_,Zz,Av.x,rfl⟩
   ·refine Zw (q_t ?_);exact ⟨(():Unit),⟨Zm (AFe Au Ae),Av⟩,trivial⟩
  ·refine AC8 14 true (AAa rfl (Zs (AAr rfl (Zo (Zu ?_)))));obtain rfl:=Zm (ifT Aq Ar);refine Zx (AAd ?_);obtain rfl:=Zm Ad;exact ⟨_,Zz,Aa.x,rfl⟩
 rintro ⟨⟩ Bv Bw ⟨Be,Af⟩;subst Be;refine Zp (Zo (Zk (ABj AC9 rfl (Af.o p0).rd (Zk (Zs (Zt (AG5 534773828 Ad (fun x=>[(21,(.int .i64 x))]) (fun x=>Af.L) Af ⟨rfl,trivial⟩ ?_)))))));rintro Bx By Bz B1 Ab Ag Aw;unfold AIj at Ag;refine Zo (AAv rfl rfl (Zs (Zp (⟨_,rfl,fun Ah=>?_,fun Ah=>?_⟩))))
 ·refine Zw (q_t (Zp (Zt (Zo ?_))));obtain ⟨B3,Ax,Bf⟩:=Zq (AA8 Ag Ah);refine AXn AC9 rfl (Ab.o p0) rfl Ax fun B4 Bg=>?_;obtain ⟨B5,Bh,Bi⟩:=(Ab.o p0).cells Bg Ax;have Ay:=Ab.az Bh;refine AOe (c:=cZ) ABn rfl (Ay.z p0) (fun j u hu=>(Bi j u hu)) (AC4 Ay [.bool false,.slice none 0 0] AE3 fun B6 Bj B7 Az=>AGd Az p0 (AAf Bj) (Az.z p1) fun B8 Ac=>AId (AK6 (Ac.z p1) (Ac.b p0) ?_));obtain ⟨B9,Bl,A3⟩:=Zq Bf;refine ACa Ac (AXu (Ac.z p1).2 Bl) fun Ca Cb A4=>AWx rfl rfl (Zs (⟨_,rfl,fun Ai=>?_,fun Ai=>?_⟩))
  ·refine Zo (Zu (Zx (ABg (AAd (AAd (ABg (AAd ?_)))))));obtain rfl:=Zm (Aw _ (Zm (AA8 A3 Ai)).symm);exact ⟨_,Zz,A4.x,rfl⟩
  ·refine Zw (q_b (q_t (AAc (AAx rfl rfl (Zk (Zs ?_))))));exact ⟨_,(Zm (AA9 A3 Ai)).symm,A4.sel [2] Zl,rfl,trivial⟩
 ·refine AAj (AAk (AAk (ABm (q_t (Zo (Zu (Zx ?_)))))));obtain rfl:=Zm (Aw _ (Zm (AA9 Ag Ah)).symm);exact ⟨_,Zz,Ab.x,rfl⟩
def ACo (fuel:Nat) (a3:LiI):Option Int:=
  ((ADu fuel a3).bind fun (x5,x6)=>(if (!x6)=true then (some 3) else (if 8 < x5 then (some 3) else ((ADo fuel a3).bind fun Ad=>(if (!Ad)=true then (some 4) else ((AFq fuel a3).bind fun Ae=>(if (!Ae)=true then (some 5) else (some 0))))))))
theorem AIk {fuel:Nat} {h:Zv} {Ah:Value} {a3:LiI} {r:Int} (H2:ACx cZ h Ah a3) (hp:ACo fuel a3=some r):AAw Tryz.prog 49 #[Ah] h (fun x h'=>Ext h h'/\x= .int .i64 r):=by
 unfold ACo at hp;refine cwf (l:=[_]) Tryz.func49 rfl rfl (Zo (AA5 (Zk ?_)));have K0:=Kst.k0 h;obtain ⟨⟨x5,x6⟩,Au,Ac⟩:=Zq hp;dsimp only at Ac;refine ACa K0 (ANq (H2.ext K0.x) Au) fun Ay E9 Aa=>Zk (ABl rfl rfl (ABl rfl rfl (AAn (Zu (Zp (Zt (Zo (Zk (ACr rfl (Zk ?_))))))))));cases Ak:(!x6)
 ·refine Z4 13 false (Zk (Z4 13 false (AF1 rfl rfl (Z1 rfl (Zu ?_)))));have Am:=AFe Ac Ak;refine ⟨_,rfl,fun Ad=>?_,fun Ad=>?_⟩
  ·refine Zo (Zu (Zx (ABg (AAd ?_))));obtain rfl:=Zm (AA8 Am Ad);exact ⟨_,Zz,Aa.x,rfl⟩
  ·refine Zo (Zk ?_);obtain ⟨A3,Av,Ao⟩:=Zq (AA9 Am Ad);refine ACa Aa (AMd (H2.ext Aa.x) Av) fun A4 A5 Ae=>ACr rfl (Zu (⟨_,rfl,fun Af=>?_,fun Af=>?_⟩))
   ·refine Zo (Zu (Zx (ABg (AAd ?_))));obtain rfl:=Zm (ifT Ao Af);exact ⟨_,Zz,Ae.x,rfl⟩
   ·refine Zo (Zk ?_);obtain ⟨A6,Aw,Ap⟩:=Zq (AFe Ao Af);refine ACa Ae (AQy (H2.ext Ae.x) Aw) fun A7 A8 Aq=>ACr rfl (Zu (⟨_,rfl,fun Ag=>?_,fun Ag=>?_⟩))
    ·refine Zo (Zu (Zx (ABg (AAd ?_))));obtain rfl:=Zm (ifT Ap Ag);exact ⟨_,Zz,Aq.x,rfl⟩
    ·refine Zw (q_b (q_t (Zo (Zu (Zx ?_)))));obtain rfl:=Zm (AFe Ap Ag);exact ⟨_,Zz,Aq.x,rfl⟩
 ·refine AG3 13 true (AAa rfl (Zu (AAr rfl (Zo (Zu (Zx (ABg (AAd ?_))))))));obtain rfl:=Zm (ifT Ac Ak);exact ⟨_,Zz,Aa.x,rfl⟩
def ADp (fuel:Nat) (a3 a7:LiI):Option LiI:=
  ((ADn fuel a7).bind fun (x9,Af)=>((ACe fuel x9 a3).bind fun Ad=>((ACe fuel Ad a7).bind fun Ae=>(some Ae))))
theorem AQk {fuel:Nat} {h:Zv} {Ad:Value} {a3:LiI} {Af:Value} {a7 r:LiI} (H2:ACx cZ h Ad a3) (H6:ACx cZ h Af a7) (hp:ADp fuel a3 a7=some r):AAw Tryz.prog 61 #[Ad,Af] h (fun x h'=>Ext h h'/\ ∃ (x0:Value) (F0:List Nat) (Ap:List LnA) (Aq:List Value),x=x0/\ACy cZ 128 94 h' F0 Ap Aq x0 r/\Sp h' h.size [F0]):=by
 unfold ADp at hp;refine cwf (l:=[_,_]) Tryz.func61 rfl rfl (Zo (AA5 (Zk ?_)));have K0:=Kst.k0 h;obtain ⟨⟨x9,A6⟩,Ar,Am⟩:=Zq hp;dsimp only at Am;refine ANz rfl (AMc (H6.ext K0.x) Ar) fun A7 A8 Au Av=>?_;obtain ⟨A9,Ba,Bb,Bc,rfl,Aw,Ax⟩:=Av;refine Zk (ABl rfl rfl (ABl rfl rfl (AAn (AA5 (Zk (Zk ?_))))));have Aa:=K0.no2 Au Ax Aw;obtain ⟨Be,Ay,Az⟩:=Zq Am;refine AM5 Aa (AI4 (Aa.o2 p0).rd (H2.ext Aa.x) Ay) fun Bf Bg Bh Bi Bj Bl Ab=>Zk ?_;obtain ⟨Bm,A3,A4⟩:=Zq Az;refine AM5 Ab (AI4 (Ab.o2 p0).rd (H6.ext Ab.x) A3) fun Bn Bo Bp Bq Br Bt Ac=>Zu (Zx ?_);obtain rfl:=Zm A4;exact ⟨_,Zz,Ac.x,_,_,_,_,rfl,(Ac.o2 p0),Ac.s.sel [0] Zl⟩
def AJw (fuel:Nat) (a6:Int) (Ab Ac:LiA) (Aa:Int):Option ((LiA × LiA × Int) ⊕ ((LiA × LiA))):=
  (if Aa < a6 then (if Ab.length<=100000000 then (if Ac.length<=100000000 then (some (Sum.inl ((Ab ++ [Aa]),(Ac ++ [Aa]),(w64 (Aa + 1))))) else none) else none) else (some (Sum.inr<| (Ab,Ac))))
def ADv (fuel:Nat) (a3:LiI) (a5 a6:Int):Option Int:=
  ((iter (fun s=>AJw fuel a6 s.1 s.2.1 s.2.2) fuel ([],[],0)).bind (fun ((Ab,Ac):LiA × LiA)=>(if Ab.length<=100000000 then (if Ac.length<=100000000 then ((AEq fuel a3 (Ab ++ [a5]) (Ac ++ [a6])).bind fun Af=>((ABf fuel Af).bind fun Ag=>(some Ag))) else none) else none)))
theorem AJx {fuel:Nat} {h:Zv} {Ah:Value} {a3:LiI} {a5 a6 r:Int} (H2:ACx cZ h Ah a3) (hp:ADv fuel a3 a5 a6=some r):AAw Tryz.prog 114 #[Ah,(.int .i64 a5),(.int .i64 a6)] h (fun x h'=>Ext h h'/\ ∃ (x0:Value),x=x0/\ZZ h' x0 r):=by
 unfold ADv at hp;refine cwf (l:=[_,_,_]) Tryz.func114 rfl rfl (Zo (AC4 (Kst.k0 h) [.bool false,.slice none 0 0] AE3 fun b7 h8 Bt Au=>AId (AAn (Zu (Zp (Zo (Zu (Zt ?_))))))));have Ak:=Kst.anil (cI .i64) 3 (Kst.anil (cI .i64) 3 Au);refine AFo 8388480 (fun x:(LiA) × (Value) × LnA × (LiA) × (Value) × LnA × (Int)=>(x.1,x.2.2.2.1,x.2.2.2.2.2.2)) (([],(.slice none 0 0),[],[],(.slice none 0 0),[],0):(LiA) × (Value) × LnA × (LiA) × (Value) × LnA × (Int)) hp (fun x=>[(7,x.2.1),(8,x.2.2.2.2.1),(9,(.int .i64 x.2.2.2.2.2.2))]) (fun x=>(Ak.L.set 1 (aO (cI .i64) 3 x.2.2.1 x.2.1 x.1)).set 0 (aO (cI .i64) 3 x.2.2.2.2.2.1 x.2.2.2.2.1 x.2.2.2.1)) Ak ⟨rfl,rfl,rfl,trivial⟩ ?_;rintro ⟨Bu,Bv,Bw,Bx,By,Bz,u32⟩ B1 B3 B4 Ac Af Av;unfold AJw at Af;refine Zp (Zo (Zk (Zk (AAv rfl rfl (Zs (⟨_,rfl,fun Ag=>?_,fun Ag=>?_⟩))))))
 ·refine Zw (q_t (Zp (Zt (Zo (Zk (Zk ?_))))));obtain ⟨Aw,Ax⟩:=ifN (AA8 Af Ag);refine ALt AWj AWu rfl rfl trivial tt2 (fun _=>rfl) rfl (show ((cI .i64)).rep _ u32 [(.int .i64 u32)] from rfl) (Ac.o p1) Zl Aw fun B5 B6 B7 B8 Ay Az A3=>Zu (AAc (Zk (Zk ?_)));have Am:=Ac.uo p1 Az Ay A3;obtain ⟨A4,A5⟩:=ifN Ax;refine ALt AWj AWu rfl rfl trivial tt2 (fun _=>rfl) rfl (show ((cI .i64)).rep _ u32 [(.int .i64 u32)] from rfl) (Am.o p0) Zl A4 fun B9 Ca Cb Cd A6 A7 A8=>AAn (AAo (q_b (q_t (AAc (Zk (AAx rfl rfl (Zu ?_)))))));exact ⟨(_,_,_,_,_,_,_),(Zm A5).symm,(Am.uo p0 A7 A6 A8),rfl,rfl,rfl,trivial⟩
 ·refine AAj (AAk (AAk (ABm (q_t (Zo (Zk (Zk (Zk ?_))))))));obtain ⟨A9,Ba⟩:=ifN (Av _ (Zm (AA9 Af Ag)).symm);refine ALt AWj AWu rfl rfl trivial tt2 (fun _=>rfl) rfl (show ((cI .i64)).rep _ a5 [(.int .i64 a5)] from rfl) (Ac.o p1) Zl A9 fun Ce Cf Cg Ch Bb Bc Be=>Zk (Zk ?_);have Ao:=Ac.uo p1 Bc Bb Be;obtain ⟨Bf,Bg⟩:=ifN Ba;refine ALt AWj AWu rfl rfl trivial tt2 (fun _=>rfl) rfl (show ((cI .i64)).rep _ a6 [(.int .i64 a6)] from rfl) (Ao.o p0) Zl Bf fun Ci Cj Ck Cm Bh Bi Bj=>?_;have Ad:=Ao.uo p0 Bi Bh Bj;obtain ⟨Cn,Bl,Bm⟩:=Zq Bg;refine AM5 Ad (ANr (H2.ext Ad.x) (Ad.o p1).rd (Ad.o p0).rd Bl) fun Co Cp Cq Cr Ct Cu Ap=>?_;obtain ⟨Cv,Bn,Bo⟩:=Zq Bm;refine AN0 Ap (ACq (Ap.o2 p0).rd Bn) fun Cw Bp Cx Aq=>AGd Aq p4 (AAf Bp) (Aq.z p0) fun Cy Ae=>Zs (Zx ?_);obtain rfl:=Zm Bo;exact ⟨_,ACg ABn (cZ.klen (Ae.z p0)) rfl (Ae.b p4),Ae.x,_,rfl,(Ae.z p0).2⟩
def ACf (fuel:Nat) (a3:LiA) (a5:Int):Option Int:=
  (if a5=0 then ((AKy fuel 1).bind fun Ac=>(some Ac)) else ((gI a3 (w64 (a5 - 1))).bind fun Ad=>(some Ad)))
theorem ADy {fuel:Nat} {h:Zv} {Af:Value} {a3:LiA} {a5 r:Int} (H2:SlC cZ h Af a3) (hp:ACf fuel a3 a5=some r):AAw Tryz.prog 115 #[Af,(.int .i64 a5)] h (fun x h'=>Ext h h'/\ ∃ (x0:Value),x=x0/\ZZ h' x0 r):=by
 unfold ACf at hp;refine cwf (l:=[_,_]) Tryz.func115 rfl rfl (Zo (AC4 (Kst.k0 h) [.bool false,.slice none 0 0] AE3 fun b6 h7 E9 Aa=>Zs (Zp (Zo (Zk (ABx rfl rfl (Zs (⟨_,rfl,fun Ae=>?_,fun Ae=>?_⟩))))))))
 ·refine Zo ?_;obtain ⟨Ay,Ao,Ap⟩:=Zq (AA8 hp Ae);refine AN0 Aa (AJ6 Ao) fun Az Aq A3 Aj=>AGd Aj p1 (AAf Aq) (Aj.z p0) fun A4 Ab=>Zs (Zx (AAd ?_));obtain rfl:=Zm Ap;exact ⟨_,ACg ABn (cZ.klen (Ab.z p0)) rfl (Ab.b p1),Ab.x,_,rfl,(Ab.z p0).2⟩
 ·refine Zw (q_t (Zo (Zk (Zk (AFl rfl rfl ?_)))));obtain ⟨A5,Ar,Au⟩:=Zq (AA9 hp Ae);refine AI2 (c:=cZ) AC9 rfl H2 rfl Ar fun A6 A7 A8 Ac Av=>AOe (c:=cZ) ABn rfl (Aa.zx Ac) (fun j u hu=>(AAz (Av j u hu) Aa.x)) (AGd Aa p0 (AAf h7) (Aa.zx Ac) fun A9 Ad=>Zs (Zx ?_));obtain rfl:=Zm Au;exact ⟨_,ACg ABn (cZ.klen (Ad.zx Ac)) rfl (Ad.b p0),Ad.x,_,rfl,(Ad.zx Ac).2⟩
def AFg (fuel:Nat) (a3:LiI) (a7:LiA) (a9 Aa:Int):Option Bool:=
  ((AKy fuel 2).bind fun Ae=>((ADv fuel a3 a9 Aa).bind fun Af=>((Ajd fuel Af).bind fun Ag=>((ARp fuel Ae Ag).bind fun Ah=>((ACf fuel a7 (w64 (Aa + 1))).bind fun Ai=>((Acr fuel Ah Ai).bind fun Aj=>(some (decide (Aj<=0)))))))))
theorem AN2 {fuel:Nat} {h:Zv} {Ac:Value} {a3:LiI} {Ae:Value} {a7:LiA} {a9 Ah:Int} {r:Bool} (H2:ACx cZ h Ac a3) (H6:SlC cZ h Ae a7) (hp:AFg fuel a3 a7 a9 Ah=some r):AAw Tryz.prog 99 #[Ac,Ae,(.int .i64 a9),(.int .i64 Ah)] h (fun x h'=>Ext h h'/\x= .bool r):=by
 unfold AFg at hp;refine cwf (l:=[_,_,_,_]) Tryz.func99 rfl rfl (Zo (AA5 ?_));obtain ⟨A7,Ap,Aq⟩:=Zq hp;refine AN0 (Kst.k0 h) (AJ6 Ap) fun A8 A9 Ba Ai=>Zk (Zk (Zk ?_));obtain ⟨Bb,Ar,Au⟩:=Zq Aq;refine AN0 Ai (AJx (H2.ext Ai.x) Ar) fun Bc Be Bf Aj=>?_;obtain ⟨Bg,Av,Aw⟩:=Zq Au;refine AN0 Aj (Aht (Aj.z p0).2 Av) fun Bh Bi Bj Aa=>?_;obtain ⟨Bl,Ax,Ay⟩:=Zq Aw;refine AN0 Aa (AQi (Aa.z p2).2 (Aa.z p0).2 Ax) fun Bm Bn Bo Ak=>Zk (Zk (AAx rfl rfl ?_));obtain ⟨Bp,Az,A3⟩:=Zq Ay;refine AN0 Ak (ADy (H6.ext Ak.x) Az) fun Bq Br Bt Ab=>?_;obtain ⟨Bu,A4,A5⟩:=Zq A3;refine ACa Ab (Aa7 (Ab.z p1).2 (Ab.z p0).2 A4) fun Bv Bw A6=>AWx rfl rfl (Zu (Zx ?_));obtain rfl:=Zm A5;exact ⟨_,Zz,A6.x,rfl⟩
def AFh (fuel:Nat) (a3:LiI):Option Bool:=
  ((ABf fuel a3).bind fun x5=>((AKy fuel 10000).bind fun Ac=>((Acr fuel x5 Ac).bind fun Ad=>(some (decide (Ad<=0))))))
theorem AN3 {fuel:Nat} {h:Zv} {Ab:Value} {a3:LiI} {r:Bool} (H2:ACx cZ h Ab a3) (hp:AFh fuel a3=some r):AAw Tryz.prog 50 #[Ab] h (fun x h'=>Ext h h'/\x= .bool r):=by
 unfold AFh at hp;refine cwf (l:=[_]) Tryz.func50 rfl rfl (Zo (AA5 (Zk ?_)));have K0:=Kst.k0 h;obtain ⟨x5,Af,Ag⟩:=Zq hp;refine AN0 K0 (ACq (H2.ext K0.x) Af) fun Aq h9 E8 Ah=>?_;obtain ⟨Av,Ai,Aj⟩:=Zq Ag;refine AN0 Ah (AJ6 Ai) fun Aw Ax Ay Aa=>?_;obtain ⟨Az,Ak,Am⟩:=Zq Aj;refine ACa Aa (Aa7 (Aa.z p1).2 (Aa.z p0).2 Ak) fun A3 A4 Ao=>AWx rfl rfl (Zu (Zx ?_));obtain rfl:=Zm Am;exact ⟨_,Zz,Ao.x,rfl⟩
def ALa (fuel:Nat) (a1:Int) (a2:Bool) (Aa:Int) (Ac:LiI):Option ((Int × LiI) ⊕ ((LiI))):=
  (if Aa < ((List.replicate (Int.toNat a1) ([]:List Int)).length:Int) then (if 0<=a1/\a1<=100000000 then ((gI Ac Aa).bind fun Ai=>((gI (sI Ac Aa (List.replicate (Int.toNat a1) (0:Int))) Aa).bind fun Ae=>((gI Ae Aa).bind fun Aj=>(((if a2=true then (if Aa=(w64 (a1 - 1)) then (if 3 < a1 then (some ( (w64 (Aa - 2)))) else (some ( (w64 (Aa - 1))))) else (some ( (w64 (Aa - 1))))) else (some ( (w64 (Aa - 1))))):Option ((Int))).bind (fun (Ad:Int)=>(if 0<=Ad then ((gI (sI (sI Ac Aa (List.replicate (Int.toNat a1) (0:Int))) Aa (sI Ae Aa 2)) Aa).bind fun Af=>((gI (sI (sI Ac Aa (List.replicate (Int.toNat a1) (0:Int))) Aa (sI Ae Aa 2)) Ad).bind fun Ak=>((gI Af Ad).bind fun Am=>((gI (sI (sI (sI Ac Aa (List.replicate (Int.toNat a1) (0:Int))) Aa (sI Ae Aa 2)) Aa (sI Af Ad (-1))) Ad).bind fun Ag=>((gI Ag Aa).bind fun Ao=>(some (Sum.inl ((w64 (Aa + 1)),(sI (sI (sI (sI Ac Aa (List.replicate (Int.toNat a1) (0:Int))) Aa (sI Ae Aa 2)) Aa (sI Af Ad (-1))) Ad (sI Ag Aa (-1))))))))))) else (some (Sum.inl ((w64 (Aa + 1)),(sI (sI Ac Aa (List.replicate (Int.toNat a1) (0:Int))) Aa (sI Ae Aa 2))))))))))) else none) else (some (Sum.inr<| Ac)))
def AF5 (fuel:Nat) (a1:Int) (a2:Bool):Option LiI:=
  (if 0<=a1/\a1<=100000000 then ((iter (fun s=>ALa fuel a1 a2 s.1 s.2) fuel (0,(List.replicate (Int.toNat a1) ([]:List Int)))).bind (fun (Ac:LiI)=>(some Ac))) else none)
theorem AOj {fuel:Nat} {h:Zv} {a1:Int} {a2:Bool} {r:LiI} (hp:AF5 fuel a1 a2=some r):AAw Tryz.prog 64 #[(.int .i64 a1),(.bool a2)] h (fun x h'=>Ext h h'/\ ∃ (x0:Value) (F0:List Nat) (A5:List LnA) (A6:List Value),x=x0/\ACy (cI .i64) 60 2 h' F0 A5 A6 x0 r/\Sp h' h.size [F0]):=by
 unfold AF5 at hp;refine cwf (l:=[_,_]) Tryz.func64 rfl rfl (Zo (AA5 (Zk ?_)));obtain ⟨A7,A8⟩:=ifN hp;refine ASh (cI .i64) 2 AAg AMl rfl trivial tt2 rfl rfl Zl A7 fun A9 Ba Bb v9 h7 I8 E5 S6=>Zu (Zp (Zo (Zk ?_)));have Ai:=(Kst.k0 h).no2 E5 S6 I8;refine AA6 AAg rfl (Ai.o2 p0).rd (Zk (Zs (Zt (AFo 72057594037924032 (fun x:(Int) × (LiI) × LnA × LnN × LvA=>(x.1,x.2.1)) ((0,(List.replicate (Int.toNat a1) ([]:List Int)),A9,Ba,Bb):(Int) × (LiI) × LnA × LnN × LvA) A8 (fun x=>[(12,(.int .i64 x.1))]) (fun x=>Ai.L.set 0 (aO2 (cI .i64) 60 2 x.2.2.1 x.2.2.2.1 x.2.2.2.2 v9 x.2.1)) Ai ⟨rfl,trivial⟩ ?_))));rintro ⟨Aa,Cj,Ck,Cm,Cn⟩ Co Cp Cq Ae Aj Bh;unfold ALa at Aj;refine Zo (AAv rfl rfl (Zs (Zp (⟨_,rfl,fun Ak=>?_,fun Ak=>?_⟩))))
 ·refine Zw (q_t (Zp (Zt (Zo (Zk (AA5 (Zk (Zk (Zk ?_)))))))));obtain ⟨Bi,Bj⟩:=ifN (AA8 Aj Ak);refine AQh (c:=(cI .i64)) (a:=0) AAi AI0 rfl rfl (fun _=>rfl) rfl trivial tt2 rfl rfl Zl Bi fun Cr Ct Cu Bl Bm Bn Bo=>?_;have Ab:=Ae.no Bm (AE8 Bn Bo) Bl;obtain ⟨Cv,Ar,Bp⟩:=Zq Bj;refine ADb AAg rfl (Ab.o2 p1) rfl Ar fun Cw Cx Bq Cy Cz=>ASg AA3 (Ab.o2 p1) Ar Bq rfl rfl (Ab.o p0) (Ab.dj p0 p1 Zl) fun C0 Br Bt Bu=>AId (Zk (Zk ?_));have Au:=Ab.m2 p0 p1 Zl Bt Br (fun z hz=> .inl (Bu z hz));obtain ⟨C1,Av,Bv⟩:=Zq Bp;refine AB1 AAg AA3 (Au.o2 p1) Av fun _ C2 Bw=>Zk ?_;obtain ⟨C3,Bx,By⟩:=Zq Bv;refine ALo (m:=Aa) Au p1 AAi AAl Bw Av Bx (fun _=>rfl) fun _ C4 Ac=>AId (Zk (AFl rfl rfl (Zu ?_)));obtain ⟨Bz,Aw,Ax⟩:=Zq By;refine AKi 2198754820224 (fun x:(Int)=>[(7,(.int .i64 x))]) (fun x h'=>( x)=Bz/\Kst h h' (AHd Ac.L [1])) ?_ ?_
  ·refine Zo (Zk (Zk ?_));cases Ay:a2
   ·refine AD0 29 false (Z1 rfl (Zk (AG3 35 false (Z1 rfl (Zs (AAy rfl (Zw (q_t ?_))))))));exact ⟨((w64 (Aa - 1)):(Int)),⟨Zm (AFe Aw Ay),Ac.sel [1] Zl⟩,rfl,trivial⟩
   ·refine Z4 29 true (Zk (Z4 29 true (Zk (Z4 29 true (AFl rfl rfl (Z4 29 true (ABx rfl rfl (AAa rfl (Zk ?_)))))))));have Az:=ifT Aw Ay;by_cases Af:Aa=(w64 (a1 - 1))
    ·have A3:=ifT Az Af;rw [decide_eq_true Af];refine Z4 35 true (Zk (Z4 35 true (AF1 rfl rfl (AAa rfl (Zs (⟨_,rfl,fun Am=>?_,fun Am=>?_⟩))))))
     ·refine AAc (Zk (AFl rfl rfl (Zu ?_)));exact ⟨((w64 (Aa - 2)):(Int)),⟨Zm (AA8 A3 Am),Ac.sel [1] Zl⟩,rfl,trivial⟩
     ·refine Zw (q_t ?_);exact ⟨((w64 (Aa - 1)):(Int)),⟨Zm (AA9 A3 Am),Ac.sel [1] Zl⟩,rfl,trivial⟩
    ·rw [decide_eq_false Af];refine AG3 35 false (Z1 rfl (Zs (AAy rfl (Zw (q_t ?_)))));exact ⟨((w64 (Aa - 1)):(Int)),⟨Zm (ifF Az Af),Ac.sel [1] Zl⟩,rfl,trivial⟩
  rintro B1 C5 C6 ⟨B3,Ag⟩;subst B3;refine Zo (Zk (AMn rfl rfl (Zs (⟨_,rfl,fun Ao=>?_,fun Ao=>?_⟩))))
  ·refine AGe (Zk (Zk ?_));obtain ⟨C7,A4,B4⟩:=Zq (AA8 Ax Ao);refine AB1 AAg AA3 (Ag.o2 p0) A4 fun _ C8 B5=>Zk (Zk (Zk ?_));obtain ⟨C9,B6,B7⟩:=Zq B4;refine AB1 AAg AA3 (Ag.o2 p0) B6 fun _ Da B8=>Zk ?_;obtain ⟨Db,B9,Ca⟩:=Zq B7;refine ALo (m:=Aa) Ag p0 AAi AAl B5 A4 B9 (fun _=>rfl) fun _ Dc Cb=>?_;obtain ⟨Dd,Cd,Ce⟩:=Zq Ca;obtain ⟨De,Cf,Cg⟩:=Zq Ce;refine ALo (m:=B1) Cb p0 AAi AAl B8 Cd Cf (fun _=>rfl) fun _ Df Ch=>AAo (q_b (q_t (AAc (AAx rfl rfl (Zk (Zs ?_))))));exact ⟨(_,_,_,_,_),(Zm Cg).symm,Ch,rfl,trivial⟩
  ·refine Zw (q_b (q_t (AAc (AAx rfl rfl (Zk (Zs ?_))))));exact ⟨(_,_,_,_,_),(Zm (AA9 Ax Ao)).symm,Ag,rfl,trivial⟩
 ·refine AAj (AAk (AAk (ABm (q_t (Zo (Zk (Zu (Zx ?_))))))));obtain rfl:=Zm (Bh _ (Zm (AA9 Aj Ak)).symm);exact ⟨_,Zz,Ae.x,_,_,_,_,rfl,(Ae.o2 p0),Ae.s.sel [0] Zl⟩
def AH6 (fuel:Nat) (a3:LiI):Option Bool:=
  ((ADt fuel a3).bind fun x5=>((ACo fuel x5).bind fun Ac=>(if Ac=0 then ((ABf fuel x5).bind fun Ad=>((AKy fuel 10000).bind fun Ae=>((Acr fuel Ad Ae).bind fun Af=>(some (decide (Af<=0)))))) else (some false))))
theorem AUc {fuel:Nat} {h:Zv} {Ad:Value} {a3:LiI} {r:Bool} (H2:ACx (cI .i64) h Ad a3) (hp:AH6 fuel a3=some r):AAw Tryz.prog 67 #[Ad] h (fun x h'=>Ext h h'/\x= .bool r):=by
 unfold AH6 at hp;refine cwf (l:=[_]) Tryz.func67 rfl rfl (Zo (AA5 (Zk ?_)));have K0:=Kst.k0 h;obtain ⟨x5,Aj,Ak⟩:=Zq hp;refine AM5 K0 (AJe (H2.ext K0.x) Aj) fun A3 A4 A5 A6 h9 E8 Ag=>AA5 (Zk ?_);obtain ⟨Am,Ao,Ah⟩:=Zq Ak;refine ACa Ag (AIk (Ag.o2 p0).rd Ao) fun A9 Ba Ab=>ABx rfl rfl (Zk ?_);by_cases Aa:Am=0
 ·rw [decide_eq_true Aa];refine Z4 9 true (Zk (Z4 9 true ?_));obtain ⟨Bb,Ap,Aq⟩:=Zq (ifT Ah Aa);refine AN0 Ab (ACq (Ab.o2 p0).rd Ap) fun Bc Be Bf Ar=>Z4 9 true ?_;obtain ⟨Bg,Au,Av⟩:=Zq Aq;refine AN0 Ar (AJ6 Au) fun Bh Bi Bj Ac=>Z4 9 true ?_;obtain ⟨Bl,Aw,Ax⟩:=Zq Av;refine ACa Ac (Aa7 (Ac.z p1).2 (Ac.z p0).2 Aw) fun Bm Bn Ay=>Z4 9 true (AWx rfl rfl (AAa rfl (Zu (Zx ?_))));obtain rfl:=Zm Ax;exact ⟨_,Zz,Ay.x,rfl⟩
 ·rw [decide_eq_false Aa];refine ADf 9 false (Z1 rfl (Zu (Zx ?_)));obtain rfl:=Zm (ifF Ah Aa);exact ⟨_,Zz,Ab.x,rfl⟩
def AL0 (fuel:Nat) (Ab Aa:Int):Option ((Int × Int) ⊕ ((Int))):=
  ((AYu fuel Aa).bind fun Ac=>(if ¬ Ac=0 then ((AD2 fuel Ab Aa).bind fun Ad=>(some (Sum.inl (Aa,Ad)))) else (some (Sum.inr<| Ab))))
def AH7 (fuel:Nat) (a1 a5:Int):Option Int:=
  ((Ajd fuel a1).bind fun Ac=>((Ajd fuel a5).bind fun Ad=>((iter (fun s=>AL0 fuel s.1 s.2) fuel (Ac,Ad)).bind (fun (Ae:Int)=>(some Ae)))))
theorem AUd {fuel:Nat} {h:Zv} {Aq:Value} {a1:Int} {Au:Value} {a5 r:Int} (H3:ZZ h Aq a1) (H7:ZZ h Au a5) (hp:AH7 fuel a1 a5=some r):AAw Tryz.prog 186 #[Aq,Au] h (fun x h'=>Ext h h'/\ ∃ (x0:Value),x=x0/\ZZ h' x0 r):=by
 unfold AH7 at hp;obtain ⟨Bj,rfl,Ax⟩:=H3.cs;obtain ⟨Bl,rfl,Ay⟩:=H7.cs;refine cwf (l:=[_,_]) Tryz.func186 rfl rfl (Zo (AHb (Kst.k0 h) Bj fun b9 Cp Cq Bm=>AHb Bm Bl fun Cr Ct Cu Bn=>AC4 Bn [.bool false,.slice none 0 0] AE3 fun Cv Ak Cw Ab=>Zs (Zp ?_)));have Am:UpT [] Ak Ak:=UpT.start all_nil;refine AT8 (B:=fun h'=>UpT [] Ak h') 4 [⟨5,94,[.bool false,.slice none 0 0]⟩,⟨6,94,[.bool false,.slice none 0 0]⟩] (fun _ _ U E=>U.thenE E) Zy Am (Ahm rfl rfl AE3 rfl AE3 rfl (fun _ _ U E=>U.thenE E)) (h_l rfl (AOh (Ab.zx Ax) Am (Ab.b p2) (AAo (h_e rfl fun Cx Az=>?_))));have A3:=Ab.e Az;obtain ⟨Bo,Bp,Bq⟩:=Zq hp;refine AFn A3 (Am.thenE Az) (Aht (A3.zx Ax).2 Bp) fun A4 Cy Br A5 A6=>AAo ⟨Br,?_⟩;refine h_l rfl (AOh (A5.zx Ay) A6 (Ab.b p1) (AAo (h_e rfl fun Cz A7=>?_)));have A8:=A5.e A7;obtain ⟨Bt,Bu,Bv⟩:=Zq Bq;refine AFn A8 (A6.thenE A7) (Aht (A8.zx Ay).2 Bu) fun A9 C0 Bw Bx By=>AAo ⟨Bw,?_⟩;refine Aa5 fun Bz Ba=>At4 fun B1 B3 Bb Bc B4 B5 B6 C1 C2=>?_;have Be:=Bx.e Ba;have Ae:=((Ab.nb2 (By.thenE Ba).ext (Ahn B5 B6 Bb.lt Bc.lt B4) Bb Bc).az (Be.z p1)).az (Be.z p0);refine AB9 A4 ABn (cZ.klen (Ae.z p1)) (cZ.klen (AAf Bz)) rfl rfl (cZ.one (Ae.z p1)) (Ae.b p2) fun B7 B8 B9=>?_;have Af:=Ae.sb p2 B9 B8 rfl;refine AB9 A9 ABn (cZ.klen (Af.z p0)) (cZ.klen (AAf B7)) rfl rfl (cZ.one (Af.z p0)) (Af.b p3) fun C3 Ca Cb=>Zs (Zp (Zt ?_));have Ao:=(Af.sb p3 Cb Ca rfl).sel [0,1,2,3,4] Zl;dsimp only [AHd,AKw] at Ao;refine AFo 260096 (fun x:(Int) × LvA × (Int) × LvA=>(x.1,x.2.2.1)) ((Bo,A4,Bt,A9):(Int) × LvA × (Int) × LvA) Bv (fun x=>[]) (fun x=>(((Ao.L.set 1 (aZ x.2.1 x.1)).set 0 (aZ x.2.2.2 x.2.2.1)).set 2 (aB 94 B1 x.2.1)).set 3 (aB 94 B3 x.2.2.2)) Ao trivial ?_;rintro ⟨C4,C5,C6,Cd⟩ C7 C8 C9 Ag Bf Ce;unfold AL0 at Bf;refine Zp (Zo (AK6 (Ag.z p0) (Ag.b p3) ?_));obtain ⟨Da,Cf,Bg⟩:=Zq Bf;refine ACa Ag (AXu (Ag.z p0).2 Cf) fun Ah Db Aa=>ACp rfl rfl (Zs (⟨_,rfl,fun Ap=>?_,fun Ap=>?_⟩))
 ·refine Zw (q_t (Zt (ACj (fun h'=>UpT [] Ah h') Zy ?_)));have Ai:UpT [] Ah Ah:=UpT.start all_nil;refine AOh (Aa.z p0) Ai (Aa.b p3) (AOh (Aa.z p1) Ai (Aa.b p2) (AOh (Aa.z p0) Ai (Aa.b p3) ?_));obtain ⟨Dc,Cg,Ch⟩:=Zq (AA8 Bg Ap);refine AFn Aa Ai (AO5 (Aa.z p1).2 (Aa.z p0).2 Cg) fun Ci Dd De Ac Df=>AB9 Cd ABn (cZ.klen (Ac.z p1)) (cZ.klen (Ac.z p2)) rfl rfl (cZ.one (Ac.z p1)) (Ac.b p3) fun Dg Cj Ck=>?_;have Ad:=Ac.sb p3 Ck Cj rfl;refine AB9 Ci ABn (cZ.klen (Ad.z p0)) (cZ.klen (Ad.z p1)) rfl rfl (cZ.one (Ad.z p0)) (Ad.b p4) fun Dh Cm Cn=>AAo (q_b (q_t ?_));exact ⟨(_,_,_,_),(Zm Ch).symm,(Ad.sb p4 Cn Cm rfl).sel [0,1,3,4,5] Zl,trivial⟩
 ·refine AAj (AAk (AAk (ABm (q_t (Zo (AK6 (Aa.z p1) (Aa.b p2) (AGd Aa p4 (AAf Ah) (Aa.z p1) fun Di Aj=>Zs (Zx ?_))))))));obtain rfl:=Zm (Ce _ (Zm (AA9 Bg Ap)).symm);exact ⟨_,ACg ABn (cZ.klen (Aj.z p1)) rfl (Aj.b p4),Aj.x,_,rfl,(Aj.z p1).2⟩
def AGu (fuel:Nat) (a1 a5:Int):Option ((Int × Int) × Bool):=
  ((AYu fuel a5).bind fun Af=>(if Af=0 then (some ((0,0),false)) else ((((AYu fuel a5).bind fun Ag=>(if Ag < 0 then ((Afl fuel a1).bind fun Ah=>((Afl fuel a5).bind fun Ai=>(some ( (Ah,Ai))))) else (some ( (a1,a5))))):Option ((Int × Int))).bind (fun ((Ac,Ad):Int × Int)=>((AH7 fuel Ac Ad).bind fun Ae=>((ACu fuel Ac Ae).bind fun Aj=>((ACu fuel Ad Ae).bind fun Ak=>(some ((Aj,Ak),true)))))))))
theorem AO6 {fuel:Nat} {h:Zv} {A4:Value} {a1:Int} {A5:Value} {a5:Int} {r:((Int × Int) × Bool)} (H3:ZZ h A4 a1) (H7:ZZ h A5 a5) (hp:AGu fuel a1 a5=some r):AAw Tryz.prog 175 #[A4,A5] h (fun x h'=>Ext h h'/\ ∃ (x0:Value),x= .tuple #[x0,.bool r.2]/\AZq h' x0 r.1.1 r.1.2):=by
 unfold AGu at hp;obtain ⟨A7,rfl,Am⟩:=H3.cs;obtain ⟨A8,rfl,Ab⟩:=H7.cs;refine cwf (l:=[_,_]) Tryz.func175 rfl rfl (Zo (AHb (Kst.k0 h) A7 fun b9 Cq Cr Bo=>AHb Bo A8 fun Bp Ct Cu Bq=>AC4 Bq [.bool false,.slice none 0 0,.bool false,.slice none 0 0] AQj fun Cv Cw Cx Ao=>Zu (Zp (Zo (AK6 (Ao.zx Ab) (Ao.b p1) ?_)))));obtain ⟨Cy,Br,A9⟩:=Zq hp;refine ACa Ao (AXu (Ao.zx Ab).2 Br) fun Ag Cz Ad=>ABx rfl rfl (Zs (⟨_,rfl,fun Au=>?_,fun Au=>?_⟩))
 ·refine Zo (ADr (Aho ) (AB9 ([Value.bool false,Value.slice none 0 0] ++ [Value.bool false,Value.slice none 0 0]) AGg (ACb (AAf Ag) (AAf Ag)) (ACb (AAf Ag) (AAf Ag)) rfl rfl (AMt (AAf Ag) (AAf Ag)) (Ad.b p0) fun Ap Bt Bu=>Zu (Zx (AAd ?_))));have Ba:=Ad.sb p0 Bu Bt rfl;obtain rfl:=Zm (AA8 A9 Au);exact ⟨_,ASc AGg (ACb (AAf Ap) (AAf Ap)) rfl (Ba.b p0),Ba.x,_,rfl,⟨_,_,rfl,(AAf Ap),(AAf Ap)⟩⟩
 ·refine Zw (q_t ?_);obtain ⟨Bv,Bw,Bx⟩:=Zq (AA9 A9 Au);refine AKi 260096 (fun x:(Int) × LvA × (Int) × LvA=>[]) (fun x h'=>( (x.1,x.2.2.1))=Bv/\Kst h h' (aZ x.2.1 x.1 :: aZ x.2.2.2 x.2.2.1 :: ((Ad.L.set 2 (aB 94 b9 x.2.1)).set 1 (aB 94 Bp x.2.2.2)))) ?_ ?_
  ·refine Zo (AK6 (Ad.zx Ab) (Ad.b p1) ?_);obtain ⟨C0,By,Bb⟩:=Zq Bw;refine ACa Ad (AXu (Ad.zx Ab).2 By) fun Av C1 Ae=>AAv rfl rfl (Zs (⟨_,rfl,fun Aw=>?_,fun Aw=>?_⟩))
   ·refine ACj (fun h'=>UpT [] Av h') Zy ?_;have Bc:UpT [] Av Av:=UpT.start all_nil;refine AOh (Ae.zx Am) Bc (Ae.b p2) ?_;obtain ⟨Bz,B1,B3⟩:=Zq (AA8 Bb Aw);refine AFn Ae Bc (Adz (Ae.zx Am).2 B1) fun Be C2 C3 Ax Bf=>AOh (Ax.zx Ab) Bf (Ae.b p1) ?_;obtain ⟨B4,B5,B6⟩:=Zq B3;refine AFn Ax Bf (Adz (Ax.zx Ab).2 B5) fun Bg C4 C5 Ai C6=>AB9 Be ABn (cZ.klen (Ai.z p1)) (cZ.klen (Ai.zx Am)) rfl rfl (cZ.one (Ai.z p1)) (Ai.b p4) fun C7 B7 B8=>?_;have Aj:=Ai.sb p4 B8 B7 rfl;refine AB9 Bg ABn (cZ.klen (Aj.z p0)) (cZ.klen (Aj.zx Ab)) rfl rfl (cZ.one (Aj.z p0)) (Aj.b p3) fun C8 B9 Ca=>Zs ?_;exact ⟨((Bz,Be,B4,Bg):(Int) × LvA × (Int) × LvA),⟨Zm B6,(Aj.sb p3 Ca B9 rfl).sel [1,0,2,3,4] Zl⟩,trivial⟩
   ·refine Zw (q_t ?_);have Bh:=Ae.az (Ae.zx Am);exact ⟨((a1,A7,a5,A8):(Int) × LvA × (Int) × LvA),⟨Zm (AA9 Bb Aw),(Bh.az (Bh.zx Ab)).sel [1,0,2,3,4] Zl⟩,trivial⟩
  rintro ⟨C9,Da,Db,Dc⟩ Dd De ⟨Cb,Af⟩;subst Cb;refine Zo (AK6 (Af.z p0) (Af.b p4) (AK6 (Af.z p1) (Af.b p3) ?_));obtain ⟨Df,Cd,Ce⟩:=Zq Bx;refine AN0 Af (AUd (Af.z p0).2 (Af.z p1).2 Cd) fun Dg Dh Di Cf=>AC4 Cf [.bool false,.slice none 0 0] AE3 fun Dj Cg Dk Bi=>AGd Bi p0 (AAf Cg) (Bi.z p1) fun Ay Aa=>Zs (Zp (ACj (fun h'=>UpT [] Ay h') Zy ?_));have Az:UpT [] Ay Ay:=UpT.start all_nil;refine AOh (Aa.z p2) Az (Aa.b p6) (AOh (Aa.z p1) Az (Aa.b p0) ?_);obtain ⟨Dl,Ch,Ci⟩:=Zq Ce;refine AFn Aa Az (AIe (Aa.z p2).2 (Aa.z p1).2 Ch) fun Cj Do Dp Ak A3=>AOh (Ak.z p4) A3 (Aa.b p5) (AOh (Ak.z p2) A3 (Aa.b p0) ?_);obtain ⟨Dq,Ck,Cm⟩:=Zq Ci;refine AFn Ak A3 (AIe (Ak.z p4).2 (Ak.z p2).2 Ck) fun Cn Bj Dr Ac Ds=>ADr (AV3 (Ac.z p1) (Ac.z p0)) (AB9 (Cj ++ Cn) AGg (ACb (Ac.z p1) (Ac.z p0)) (ACb (AAf Bj) (AAf Bj)) rfl rfl (AMt (Ac.z p1) (Ac.z p0)) (Ac.b p6) fun Dt Co Cp=>Zu (Zx ?_));have Ah:=Ac.sb p6 Cp Co rfl;obtain rfl:=Zm Cm;exact ⟨_,ASc AGg (ACb (Ah.z p1) (Ah.z p0)) rfl (Ah.b p6),Ah.x,_,rfl,⟨_,_,rfl,(Ah.z p1),(Ah.z p0)⟩⟩
def AMo (fuel:Nat) (a1:Int):Option (Int × Int):=
  ((ASi fuel a1).bind fun Ab=>((AKy fuel 1).bind fun Ac=>(some (Ab,Ac))))
theorem ASy {fuel:Nat} {h:Zv} {Ad:Value} {a1:Int} {r:(Int × Int)} (H3:ZZ h Ad a1) (hp:AMo fuel a1=some r):AAw Tryz.prog 187 #[Ad] h (fun x h'=>Ext h h'/\ ∃ (x0:Value),x=x0/\AZq h' x0 r.1 r.2):=by
 unfold AMo at hp;obtain ⟨Aj,rfl,Ag⟩:=H3.cs;refine cwf (l:=[_]) Tryz.func187 rfl rfl (Zo (AHb (Kst.k0 h) Aj fun b5 h6 E8 Ak=>AC4 Ak [.bool false,.slice none 0 0,.bool false,.slice none 0 0] AQj fun A4 A5 A6 Ac=>AId (AK6 (Ac.zx Ag) (Ac.b p1) ?_)));obtain ⟨A7,Am,Ao⟩:=Zq hp;refine AN0 Ac (AT7 (Ac.zx Ag).2 Am) fun Ap A8 A9 Aq=>?_;obtain ⟨Ba,Ar,Au⟩:=Zq Ao;refine AN0 Aq (AJ6 Ar) fun Av Ah Bb Aa=>ADr (AV3 (Aa.z p1) (Aa.z p0)) (AB9 (Ap ++ Av) AGg (ACb (Aa.z p1) (Aa.z p0)) (ACb (AAf Ah) (AAf Ah)) rfl rfl (AMt (Aa.z p1) (Aa.z p0)) (Aa.b p2) fun Bc Aw Ax=>Zs (Zx ?_));have Ab:=Aa.sb p2 Ax Aw rfl;obtain rfl:=Zm Au;exact ⟨_,ACg AGg (ACb (Ab.z p1) (Ab.z p0)) rfl (Ab.b p2),Ab.x,_,rfl,⟨_,_,rfl,(Ab.z p1),(Ab.z p0)⟩⟩
def AMp (fuel:Nat) (a1:Int):Option (Int × Int):=
  ((AKy fuel a1).bind fun x9=>((AMo fuel x9).bind fun Aa=>(some (Aa.1,Aa.2))))
theorem ASz {fuel:Nat} {h:Zv} {a1:Int} {r:(Int × Int)} (hp:AMp fuel a1=some r):AAw Tryz.prog 176 #[(.int .i64 a1)] h (fun x h'=>Ext h h'/\ ∃ (x0:Value),x=x0/\AZq h' x0 r.1 r.2):=by
 unfold AMp at hp;refine cwf (l:=[_]) Tryz.func176 rfl rfl (Zo (AC4 (Kst.k0 h) [.bool false,.slice none 0 0,.bool false,.slice none 0 0] AQj fun b2 h3 E5 K8=>AId (Zk ?_)));obtain ⟨x9,Ah,Ai⟩:=Zq hp;refine AN0 K8 (AJ6 Ah) fun A5 A6 A7 Ae=>?_;obtain ⟨A8,Aj,Ak⟩:=Zq Ai;refine ANz rfl (ASy (Ae.z p0).2 Aj) fun A9 Af Am Ao=>?_;obtain ⟨Ba,rfl,Ap⟩:=Ao;obtain ⟨Aq,Ar,rfl,Au,Av⟩:=Ap;have Aa:=((Ae.e Am).az Au).az Av;refine AB9 (Aq ++ Ar) AGg (ACb (Aa.z p1) (Aa.z p0)) (ACb (AAf Af) (AAf Af)) rfl rfl (AMt (Aa.z p1) (Aa.z p0)) (Aa.b p3) fun Bb Aw Ax=>Zs (Zx ?_);have Ab:=Aa.sb p3 Ax Aw rfl;obtain rfl:=Zm Ak;exact ⟨_,ACg AGg (ACb (Ab.z p1) (Ab.z p0)) rfl (Ab.b p3),Ab.x,_,rfl,⟨_,_,rfl,(Ab.z p1),(Ab.z p0)⟩⟩
def ACi (fuel:Nat) (a3 a5:Int):Option (Int × Int):=
  ((AGu fuel a3 a5).bind fun (Aa,Ae)=>(if (!Ae)=true then ((AMp fuel 0).bind fun Ab=>(some (Ab.1,Ab.2))) else (some (Aa.1,Aa.2))))
theorem AFu {fuel:Nat} {h:Zv} {Ak:Value} {a3 a5:Int} {r:(Int × Int)} (H2:AZq h Ak a3 a5) (hp:ACi fuel a3 a5=some r):AAw Tryz.prog 158 #[Ak] h (fun x h'=>Ext h h'/\ ∃ (x0:Value),x=x0/\AZq h' x0 r.1 r.2):=by
 unfold ACi at hp;obtain ⟨Aq,Ar,rfl,H2z0,H2z1⟩:=H2;refine cwf (l:=[_]) Tryz.func158 rfl rfl (Zo (AHb (Kst.k0 h) (Aq ++ Ar) fun b7 h8 Br Ay=>AC4 Ay [.bool false,.slice none 0 0,.bool false,.slice none 0 0] AQj fun Bt Bu Bv Ab=>AId (AF0 (fs:=2) AZy Zy Zl rfl (ANn Aq ABn (cZ.klen (Ab.zx H2z0)) rfl ((Ab.b p1).aggL) (AF0 (fs:=2) AV2 Zy Zl rfl (ANn Ar ABn (cZ.klen (Ab.zx H2z1)) rfl ((Ab.b p1).aggR (cZ.klen (Ab.zx H2z0))) ?_))))));obtain ⟨⟨Bw,Bx⟩,Az,Ag⟩:=Zq hp;dsimp only at Ag;refine ANz rfl (AO6 (Ab.zx H2z0).2 (Ab.zx H2z1).2 Az) fun By Bz A3 A4=>?_;obtain ⟨B1,rfl,A5⟩:=A4;obtain ⟨Ah,Ai,rfl,A6,A7⟩:=A5;refine Zk (ABl rfl rfl (ABl rfl rfl (AC4 (((Ab.e A3).az A6).az A7) [.bool false,.slice none 0 0,.bool false,.slice none 0 0] AQj fun B3 Au B4 Ac=>AB9 (Ah ++ Ai) AGg (ACb (Ac.z p2) (Ac.z p1)) (ACb (AAf Au) (AAf Au)) rfl rfl (AMt (Ac.z p2) (Ac.z p1)) (Ac.b p0) fun Av A8 A9=>Zu (Zp (Zo (Zk (ACr rfl (Zs ?_))))))));have Aa:=Ac.sb p0 A9 A8 rfl;refine ⟨_,rfl,fun Aj=>?_,fun Aj=>?_⟩
 ·refine Zo ?_;obtain ⟨B5,Ba,Bb⟩:=Zq (ifT Ag Aj);refine ANz rfl (ASz Ba) fun B6 Aw Bc Be=>?_;obtain ⟨B7,rfl,Bf⟩:=Be;obtain ⟨Bg,Bh,rfl,Bi,Bj⟩:=Bf;have Ad:=((Aa.e Bc).az Bi).az Bj;refine AB9 (Bg ++ Bh) AGg (ACb (Ad.z p1) (Ad.z p0)) (ACb (AAf Aw) (AAf Aw)) rfl rfl (AMt (Ad.z p1) (Ad.z p0)) (Ad.b p5) fun B8 Bl Bm=>Zs (Zx (AAd ?_));have Ae:=Ad.sb p5 Bm Bl rfl;obtain rfl:=Zm Bb;exact ⟨_,ACg AGg (ACb (Ae.z p1) (Ae.z p0)) rfl (Ae.b p5),Ae.x,_,rfl,⟨_,_,rfl,(Ae.z p1),(Ae.z p0)⟩⟩
 ·refine Zw (q_t (Zo (ANn (Ah ++ Ai) AGg (ACb (Aa.z p2) (Aa.z p1)) rfl ((Aa.b p0).agg) (AB9 (Ah ++ Ai) AGg (ACb (Aa.z p2) (Aa.z p1)) (ACb (AAf Av) (AAf Av)) rfl rfl (AMt (Aa.z p2) (Aa.z p1)) (Aa.b p3) fun B9 Bn Bo=>Zs (Zx ?_)))));have Af:=Aa.sb p3 Bo Bn rfl;obtain rfl:=Zm (AFe Ag Aj);exact ⟨_,ACg AGg (ACb (Af.z p2) (Af.z p1)) rfl (Af.b p3),Af.x,_,rfl,⟨_,_,rfl,(Af.z p2),(Af.z p1)⟩⟩
def AFr (fuel:Nat) (a1 a5:Int):Option (Int × Int):=
  ((ACi fuel a1 a5).bind fun Aa=>(some (Aa.1,Aa.2)))
theorem AQz {fuel:Nat} {h:Zv} {Af:Value} {a1:Int} {Ah:Value} {a5:Int} {r:(Int × Int)} (H3:ZZ h Af a1) (H7:ZZ h Ah a5) (hp:AFr fuel a1 a5=some r):AAw Tryz.prog 113 #[Af,Ah] h (fun x h'=>Ext h h'/\ ∃ (x0:Value),x=x0/\AZq h' x0 r.1 r.2):=by
 unfold AFr at hp;obtain ⟨Ap,rfl,Ad⟩:=H3.cs;obtain ⟨Aq,rfl,Ae⟩:=H7.cs;refine cwf (l:=[_,_]) Tryz.func113 rfl rfl (Zo (AHb (Kst.k0 h) Ap fun b9 Ba Bb Ar=>AHb Ar Aq fun Bc Be Bf Au=>AC4 Au [.bool false,.slice none 0 0,.bool false,.slice none 0 0] AQj fun Bg Bh Bi Aa=>AId (AK6 (Aa.zx Ad) (Aa.b p2) (AK6 (Aa.zx Ae) (Aa.b p1) (ADr (AV3 (Aa.zx Ad) (Aa.zx Ae)) ?_)))));obtain ⟨Bj,Av,Aw⟩:=Zq hp;refine ANz rfl (AFu ⟨_,_,rfl,(Aa.zx Ad),(Aa.zx Ae)⟩ Av) fun Bl Ak Ax Ay=>?_;obtain ⟨Bm,rfl,Az⟩:=Ay;obtain ⟨A3,A4,rfl,A5,A6⟩:=Az;have Ab:=((Aa.e Ax).az A5).az A6;refine AB9 (A3 ++ A4) AGg (ACb (Ab.z p1) (Ab.z p0)) (ACb (AAf Ak) (AAf Ak)) rfl rfl (AMt (Ab.z p1) (Ab.z p0)) (Ab.b p2) fun Bn A7 A8=>Zs (Zx ?_);have Ac:=Ab.sb p2 A8 A7 rfl;obtain rfl:=Zm Aw;exact ⟨_,ACg AGg (ACb (Ac.z p1) (Ac.z p0)) rfl (Ac.b p2),Ac.x,_,rfl,⟨_,_,rfl,(Ac.z p1),(Ac.z p0)⟩⟩
def AJ7 (fuel:Nat):Option (Int × Int):=
  ((AKy fuel 1).bind fun x8=>((AKy fuel 2).bind fun Ab=>(some (x8,Ab))))
theorem ATg {fuel:Nat} {h:Zv} {r:(Int × Int)} (hp:AJ7 fuel=some r):AAw Tryz.prog 157 #[] h (fun x h'=>Ext h h'/\ ∃ (x0:Value),x=x0/\AZq h' x0 r.1 r.2):=by
 unfold AJ7 at hp;refine cwf (l:=[]) Tryz.func157 rfl rfl (Zo (AC4 (Kst.k0 h) [.bool false,.slice none 0 0,.bool false,.slice none 0 0] AQj fun b1 h2 E4 K7=>AId ?_));obtain ⟨x8,Af,Ag⟩:=Zq hp;refine AN0 K7 (AJ6 Af) fun Ah Aw Ax Ai=>?_;obtain ⟨Ay,Aj,Ak⟩:=Zq Ag;refine AN0 Ai (AJ6 Aj) fun Am Ad Az Aa=>ADr (AV3 (Aa.z p1) (Aa.z p0)) (AB9 (Ah ++ Am) AGg (ACb (Aa.z p1) (Aa.z p0)) (ACb (AAf Ad) (AAf Ad)) rfl rfl (AMt (Aa.z p1) (Aa.z p0)) (Aa.b p2) fun A3 Ao Ap=>Zs (Zx ?_));have Ab:=Aa.sb p2 Ap Ao rfl;obtain rfl:=Zm Ak;exact ⟨_,ACg AGg (ACb (Ab.z p1) (Ab.z p0)) rfl (Ab.b p2),Ab.x,_,rfl,⟨_,_,rfl,(Ab.z p1),(Ab.z p0)⟩⟩
def AKz (fuel:Nat) (a3 a5 a9 Ag:Int):Option (Int × Int):=
  ((ACi fuel a3 a5).bind fun Aa=>((ACi fuel a9 Ag).bind fun Ab=>((ARp fuel Aa.1 Ab.2).bind fun Ah=>((ARp fuel Ab.1 Aa.2).bind fun Ai=>((Ai9 fuel Ah Ai).bind fun Aj=>((ARp fuel Aa.2 Ab.2).bind fun Ak=>((AGu fuel Aj Ak).bind fun (Ac,Am)=>(some (Ac.1,Ac.2)))))))))
theorem AUe {fuel:Nat} {h:Zv} {Bh:Value} {a3 a5:Int} {Bl:Value} {a9 Bn:Int} {r:(Int × Int)} (H2:AZq h Bh a3 a5) (H8:AZq h Bl a9 Bn) (hp:AKz fuel a3 a5 a9 Bn=some r):AAw Tryz.prog 156 #[Bh,Bl] h (fun x h'=>Ext h h'/\ ∃ (x0:Value),x=x0/\AZq h' x0 r.1 r.2):=by
 unfold AKz at hp;obtain ⟨Bp,Bq,rfl,H2z0,H2z1⟩:=H2;obtain ⟨Br,Bt,rfl,H8z0,H8z1⟩:=H8;refine cwf (l:=[_,_]) Tryz.func156 rfl rfl (Zo (AHb (Kst.k0 h) (Bp ++ Bq) fun D0 D1 D2 Cj=>AHb Cj (Br ++ Bt) fun D3 D4 D5 Ck=>AC4 Ck [.bool false,.slice none 0 0,.bool false,.slice none 0 0] AQj fun D6 Ao D7 Ac=>Zs (Zp ?_)));have Ap:UpT [] Ao Ao:=UpT.start all_nil;refine AT8 (B:=fun h'=>UpT [] Ao h') 4 [⟨5,143,[.bool false,.slice none 0 0,.bool false,.slice none 0 0]⟩,⟨6,143,[.bool false,.slice none 0 0,.bool false,.slice none 0 0]⟩] (fun _ _ U E=>U.thenE E) Zy Ap (Ahm rfl rfl AQj rfl AQj rfl (fun _ _ U E=>U.thenE E)) (h_l rfl (AIc (Bp ++ Bq) AGg (ACb (Ac.zx H2z0) (Ac.zx H2z1)) rfl Ap (fun h' hb=>((Ac.b p2).ext hb.ext).agg) (AAo (h_e rfl fun D8 Bu=>?_))));have Aq:=Ap.thenE Bu;have Ar:=Ac.e Bu;obtain ⟨D9,Cm,Cn⟩:=Zq hp;refine AEo Aq (fun _ E=>Aq.thenE E) rfl (AFu ⟨_,_,rfl,(Ar.zx H2z0),(Ar.zx H2z1)⟩ Cm) fun Ea Eb Au Co=>?_;obtain ⟨Ec,rfl,Cp⟩:=Co;have Bv:=Aq.thenE Au;obtain ⟨Bw,Av,rfl,Cq,Cr⟩:=Cp;have Aw:=((Ar.e Au).az Cq).az Cr;refine AAo ⟨Au,?_⟩;refine h_l rfl (AIc (Br ++ Bt) AGg (ACb (Aw.zx H8z0) (Aw.zx H8z1)) rfl Bv (fun h' hb=>((Ac.b p1).ext hb.ext).agg) (AAo (h_e rfl fun Ed Bx=>?_)));have Ax:=Bv.thenE Bx;have Ay:=Aw.e Bx;obtain ⟨Ee,Ct,Cu⟩:=Zq Cn;refine AEo Ax (fun _ E=>Ax.thenE E) rfl (AFu ⟨_,_,rfl,(Ay.zx H8z0),(Ay.zx H8z1)⟩ Ct) fun Ef Eg Az Cv=>?_;obtain ⟨Eh,rfl,Cw⟩:=Cv;have Cx:=Ax.thenE Az;obtain ⟨By,A3,rfl,Cy,Cz⟩:=Cw;refine AAo ⟨Az,?_⟩;refine Aa5 fun Bz B1=>At4 fun Ei Ej B3 B4 C0 C1 C2 Ek El=>?_;have Aj:=(((Ay.e Az).az Cy).az Cz).e B1;have Ad:=((((Ac.nb2 (Cx.thenE B1).ext (Ahn C1 C2 B3.lt B4.lt C0) B3 B4).az (Aj.z p3)).az (Aj.z p2)).az (Aj.z p1)).az (Aj.z p0);refine AB9 (Bw ++ Av) AGg (ACb (Ad.z p3) (Ad.z p2)) (ACb (AAf Bz) (AAf Bz)) rfl rfl (AMt (Ad.z p3) (Ad.z p2)) (Ad.b p4) fun B5 C3 C4=>?_;have Ae:=Ad.sb p4 C4 C3 rfl;refine AB9 (By ++ A3) AGg (ACb (Ae.z p1) (Ae.z p0)) (ACb (AAf B5) (AAf B5)) rfl rfl (AMt (Ae.z p1) (Ae.z p0)) (Ae.b p5) fun A4 C5 C6=>Zs (Zp ?_);have Aa:=Ae.sb p5 C6 C5 rfl;have Ak:UpT [] A4 A4:=UpT.start all_nil;refine AT8 (B:=fun h'=>UpT [] A4 h') 20 [⟨7,143,[.bool false,.slice none 0 0,.bool false,.slice none 0 0]⟩] (fun _ _ U E=>U.thenE E) Zy Ak (Ad0 rfl AQj rfl (fun _ _ U E=>U.thenE E)) (h_l rfl (AF0 (fs:=2) AZy Zy Zl rfl (AAo (h_l rfl (AIc Bw ABn (cZ.klen (Aa.z p3)) rfl Ak (fun h' hb=>((Aa.b p4).ext hb.ext).aggL) (AAo (h_l rfl (AF0 (fs:=2) AV2 Zy Zl rfl (AAo (h_l rfl (AIc A3 ABn (cZ.klen (Aa.z p0)) rfl Ak (fun h' hb=>((Aa.b p5).ext hb.ext).aggR (cZ.klen (Aa.z p1))) (AAo (h_e rfl fun Em B6=>?_)))))))))))));have A5:=Aa.e B6;obtain ⟨En,C7,C8⟩:=Zq Cu;refine AFn A5 (Ak.thenE B6) (AQi (A5.z p3).2 (A5.z p0).2 C7) fun Eo Ep C9 Am A6=>AAo ⟨C9,?_⟩;refine h_l rfl (AF0 (fs:=2) AZy Zy Zl rfl (AAo (h_l rfl (AIc By ABn (cZ.klen (Am.z p2)) rfl A6 (fun h' hb=>((Aa.b p5).ext hb.ext).aggL) (AAo (h_l rfl (AF0 (fs:=2) AV2 Zy Zl rfl (AAo (h_l rfl (AIc Av ABn (cZ.klen (Am.z p3)) rfl A6 (fun h' hb=>((Aa.b p4).ext hb.ext).aggR (cZ.klen (Am.z p4))) (AAo (h_e rfl fun Er B7=>?_))))))))))));have A7:=Am.e B7;obtain ⟨Es,Da,Db⟩:=Zq C8;refine AFn A7 (A6.thenE B7) (AQi (A7.z p2).2 (A7.z p3).2 Da) fun Et Eu Dc Dd De=>AAo ⟨Dc,?_⟩;refine h_e rfl fun Ev B8=>?_;have A8:=Dd.e B8;obtain ⟨Ew,Df,Dg⟩:=Zq Db;refine AFn A8 (De.thenE B8) (Ahj (A8.z p1).2 (A8.z p0).2 Df) fun Ey Ez Dh Ai A9=>AAo ⟨Dh,?_⟩;refine h_l rfl (AF0 (fs:=2) AV2 Zy Zl rfl (AAo (h_l rfl (AIc Av ABn (cZ.klen (Ai.z p5)) rfl A9 (fun h' hb=>((Aa.b p4).ext hb.ext).aggR (cZ.klen (Ai.z p6))) (AAo (h_l rfl (AF0 (fs:=2) AV2 Zy Zl rfl (AAo (h_l rfl (AIc A3 ABn (cZ.klen (Ai.z p3)) rfl A9 (fun h' hb=>((Aa.b p5).ext hb.ext).aggR (cZ.klen (Ai.z p4))) (AAo (h_e rfl fun Fa B9=>?_))))))))))));have Ba:=Ai.e B9;obtain ⟨Fb,Di,Dj⟩:=Zq Dg;refine AFn Ba (A9.thenE B9) (AQi (Ba.z p5).2 (Ba.z p3).2 Di) fun Fc Fd Dk Dl Do=>AAo ⟨Dk,?_⟩;refine h_e rfl fun Fe Ca=>?_;have Bb:=Do.thenE Ca;have Bc:=Dl.e Ca;obtain ⟨⟨Ff,Fg⟩,Dp,Cb⟩:=Zq Dj;dsimp only at Cb;refine AEo Bb (fun _ E=>Bb.thenE E) rfl (AO6 (Bc.z p1).2 (Bc.z p0).2 Dp) fun Fh Fi Be Dq=>?_;obtain ⟨Fj,rfl,Dr⟩:=Dq;have Ds:=Bb.thenE Be;obtain ⟨Bf,Bg,rfl,Dt,Du⟩:=Dr;refine AAo ⟨Be,?_⟩;refine h_l rfl (Zk (AAo (h_l rfl (ABl rfl rfl (AAo (h_l rfl (ABl rfl rfl (AAo (Aa5 fun Cd Ce=>Aq1 fun Fk Cf Dv Fl=>?_)))))))));have Af:=(((Bc.e Be).az Dt).az Du).e Ce;have Ag:=((((((Aa.nb (Ds.thenE Ce).ext (AE8 Dv Cf.lt) Cf).az (Af.z p5)).az (Af.z p4)).az (Af.z p3)).az (Af.z p2)).az (Af.z p1)).az (Af.z p0);refine AB9 (Bf ++ Bg) AGg (ACb (Ag.z p1) (Ag.z p0)) (ACb (AAf Cd) (AAf Cd)) rfl rfl (AMt (Ag.z p1) (Ag.z p0)) (Ag.b p6) fun Cg Dw Dx=>AA5 ?_;have Ab:=Ag.sb p6 Dx Dw rfl;refine ANn (Bf ++ Bg) AGg (ACb (Ab.z p1) (Ab.z p0)) rfl ((Ab.b p6).agg) (AB9 (Bf ++ Bg) AGg (ACb (Ab.z p1) (Ab.z p0)) (ACb (AAf Cg) (AAf Cg)) rfl rfl (AMt (Ab.z p1) (Ab.z p0)) (Ab.b p13) fun Fm Dy Dz=>Zs (Zx ?_));have Ah:=Ab.sb p13 Dz Dy rfl;obtain rfl:=Zm Cb;exact ⟨_,ACg AGg (ACb (Ah.z p1) (Ah.z p0)) rfl (Ah.b p13),Ah.x,_,rfl,⟨_,_,rfl,(Ah.z p1),(Ah.z p0)⟩⟩
def AJf (fuel:Nat) (a3 a5:Int):Option Int:=
  ((ACi fuel a3 a5).bind fun Aa=>((ACu fuel Aa.1 Aa.2).bind fun Ad=>(some Ad)))
theorem AS0 {fuel:Nat} {h:Zv} {Ae:Value} {a3 a5 r:Int} (H2:AZq h Ae a3 a5) (hp:AJf fuel a3 a5=some r):AAw Tryz.prog 155 #[Ae] h (fun x h'=>Ext h h'/\ ∃ (x0:Value),x=x0/\ZZ h' x0 r):=by
 unfold AJf at hp;obtain ⟨Ai,Aj,rfl,H2z0,H2z1⟩:=H2;refine cwf (l:=[_]) Tryz.func155 rfl rfl (Zo (AHb (Kst.k0 h) (Ai ++ Aj) fun b7 h8 Bb Ar=>AC4 Ar [.bool false,.slice none 0 0] AE3 fun Bc Be Bf Ab=>AId (ANn (Ai ++ Aj) AGg (ACb (Ab.zx H2z0) (Ab.zx H2z1)) rfl ((Ab.b p1).agg) ?_)));obtain ⟨Bg,Au,Av⟩:=Zq hp;refine ANz rfl (AFu ⟨_,_,rfl,(Ab.zx H2z0),(Ab.zx H2z1)⟩ Au) fun Bh Bi Aw Ax=>?_;obtain ⟨Bj,rfl,Ay⟩:=Ax;obtain ⟨Ak,Am,rfl,Az,A3⟩:=Ay;refine AC4 (((Ab.e Aw).az Az).az A3) [.bool false,.slice none 0 0,.bool false,.slice none 0 0] AQj fun Bl Ao Bm Ac=>AB9 (Ak ++ Am) AGg (ACb (Ac.z p2) (Ac.z p1)) (ACb (AAf Ao) (AAf Ao)) rfl rfl (AMt (Ac.z p2) (Ac.z p1)) (Ac.b p0) fun Bn A4 A5=>AId (AF0 (fs:=2) AZy Zy Zl rfl ?_);have Aa:=Ac.sb p0 A5 A4 rfl;refine ANn Ak ABn (cZ.klen (Aa.z p2)) rfl ((Aa.b p0).aggL) (AF0 (fs:=2) AV2 Zy Zl rfl (ANn Am ABn (cZ.klen (Aa.z p1)) rfl ((Aa.b p0).aggR (cZ.klen (Aa.z p2))) ?_));obtain ⟨Bo,A6,A7⟩:=Zq Av;refine AN0 Aa (AIe (Aa.z p2).2 (Aa.z p1).2 A6) fun Bp A8 Bq Ap=>AGd Ap p4 (AAf A8) (Ap.z p0) fun Br Ad=>Zs (Zx ?_);obtain rfl:=Zm A7;exact ⟨_,ACg ABn (cZ.klen (Ad.z p0)) rfl (Ad.b p4),Ad.x,_,rfl,(Ad.z p0).2⟩
def AF6 (fuel:Nat) (a3 a5:Int):Option Int:=
  ((AJ7 fuel).bind fun Aa=>((AKz fuel a3 a5 Aa.1 Aa.2).bind fun Ab=>((AJf fuel Ab.1 Ab.2).bind fun Ae=>(some Ae))))
theorem ARr {fuel:Nat} {h:Zv} {Ai:Value} {a3 a5 r:Int} (H2:AZq h Ai a3 a5) (hp:AF6 fuel a3 a5=some r):AAw Tryz.prog 112 #[Ai] h (fun x h'=>Ext h h'/\ ∃ (x0:Value),x=x0/\ZZ h' x0 r):=by
 unfold AF6 at hp;obtain ⟨Ao,Ap,rfl,H2z0,H2z1⟩:=H2;refine cwf (l:=[_]) Tryz.func112 rfl rfl (Zo (AHb (Kst.k0 h) (Ao ++ Ap) fun b7 h8 Bm Av=>AC4 Av [.bool false,.slice none 0 0] AE3 fun Bn Af Bo Ab=>Zs (Zp (ACj (fun h'=>UpT [] Af h') Zy ?_))));have Ac:UpT [] Af Af:=UpT.start all_nil;refine AIc (Ao ++ Ap) AGg (ACb (Ab.zx H2z0) (Ab.zx H2z1)) rfl Ac (fun h' hb=>((Ab.b p1).ext hb.ext).agg) ?_;obtain ⟨Bp,Aw,Ax⟩:=Zq hp;refine AEo Ac (fun _ E=>Ac.thenE E) rfl (ATg Aw) fun Bq Br Aq Ay=>?_;obtain ⟨Bt,rfl,Az⟩:=Ay;have Ag:=Ac.thenE Aq;obtain ⟨Bu,Bv,rfl,A3,A4⟩:=Az;have Aa:=((Ab.e Aq).az A3).az A4;obtain ⟨Bw,A5,A6⟩:=Zq Ax;refine AEo Ag (fun _ E=>Ag.thenE E) rfl (AUe ⟨_,_,rfl,(Aa.zx H2z0),(Aa.zx H2z1)⟩ ⟨_,_,rfl,(Aa.z p1),(Aa.z p0)⟩ A5) fun Bx By Ar A7=>?_;obtain ⟨Bz,rfl,A8⟩:=A7;have A9:=Ag.thenE Ar;obtain ⟨B1,B3,rfl,Ba,Bb⟩:=A8;have Ah:=((Aa.e Ar).az Ba).az Bb;obtain ⟨B4,Bc,Be⟩:=Zq A6;refine AFn Ah A9 (AS0 ⟨_,_,rfl,(Ah.z p1),(Ah.z p0)⟩ Bc) fun Bf Bg B5 Ad B6=>AB9 Bf ABn (cZ.klen (Ad.z p0)) (cZ.klen (AAf Bg)) rfl rfl (cZ.one (Ad.z p0)) (Ad.b p5) fun B7 Bh Bi=>Zs (Zx ?_);have Ae:=Ad.sb p5 Bi Bh rfl;obtain rfl:=Zm Be;exact ⟨_,ACg ABn (cZ.klen (Ae.z p0)) rfl (Ae.b p5),Ae.x,_,rfl,(Ae.z p0).2⟩
def AEv (fuel:Nat) (a3:LiI) (a7:LiA) (a9:Int):Option Bool:=
  ((ADv fuel a3 a9 (w64 (a9 - 1))).bind fun Ac=>((AKy fuel 4).bind fun Ae=>((ACf fuel a7 (w64 (a9 - 1))).bind fun Af=>((ACf fuel a7 (w64 (a9 + 1))).bind fun Ag=>((ARp fuel Af Ag).bind fun Ah=>((ARp fuel Ac Ac).bind fun Ai=>((Ai9 fuel Ah Ai).bind fun Aj=>((ARp fuel Ae Aj).bind fun Ak=>((AKy fuel 3).bind fun Am=>((ACf fuel a7 a9).bind fun Ao=>((ACf fuel a7 a9).bind fun Ap=>((ARp fuel Ao Ap).bind fun Aq=>((ARp fuel Am Aq).bind fun Ar=>((Acr fuel Ak Ar).bind fun Au=>(some (decide (0<=Au)))))))))))))))))
theorem ANs {fuel:Nat} {h:Zv} {Au:Value} {a3:LiI} {Aw:Value} {a7:LiA} {a9:Int} {r:Bool} (H2:ACx cZ h Au a3) (H6:SlC cZ h Aw a7) (hp:AEv fuel a3 a7 a9=some r):AAw Tryz.prog 100 #[Au,Aw,(.int .i64 a9)] h (fun x h'=>Ext h h'/\x= .bool r):=by
 unfold AEv at hp;refine cwf (l:=[_,_,_]) Tryz.func100 rfl rfl (Zo (AA5 (Zk (Zk (Zk (AFl rfl rfl ?_))))));have K0:=Kst.k0 h;obtain ⟨Dg,Bm,Bn⟩:=Zq hp;refine AN0 K0 (AJx (H2.ext K0.x) Bm) fun Dh Di Dj Bo=>AC4 Bo [.bool false,.slice none 0 0] AE3 fun Dk Bp Dl A3=>AGd A3 p0 (AAf Bp) (A3.z p1) fun Ae Ac=>Zs (Zp ?_);have A4:UpT [] Ae Ae:=UpT.start all_nil;refine AT8 (B:=fun h'=>UpT [] Ae h') 15 [⟨8,94,[.bool false,.slice none 0 0]⟩] (fun _ _ U E=>U.thenE E) Zy A4 (Ad0 rfl AE3 rfl (fun _ _ U E=>U.thenE E)) (h_e rfl fun Do A5=>?_);obtain ⟨Dp,Bq,Br⟩:=Zq Bn;refine AFn (Ac.e A5) (A4.thenE A5) (AJ6 Bq) fun Dq Dr Bt Bu Bv=>AAo ⟨Bt,?_⟩;refine h_l rfl (Zk (AAo (h_l rfl (Zk (AAo (h_l rfl (AFl rfl rfl (AAo (h_e rfl fun Ds A6=>?_)))))))));have A7:=Bu.e A6;obtain ⟨Dt,Bw,Bx⟩:=Zq Br;refine AFn A7 (Bv.thenE A6) (ADy (H6.ext A7.x) Bw) fun Du Dv By Bz B1=>AAo ⟨By,?_⟩;refine h_l rfl (Zk (AAo (h_l rfl (Zk (AAo (h_l rfl (AAx rfl rfl (AAo (h_e rfl fun Dw A8=>?_)))))))));have A9:=Bz.e A8;obtain ⟨Dx,B3,B4⟩:=Zq Bx;refine AFn A9 (B1.thenE A8) (ADy (H6.ext A9.x) B3) fun Dy Dz B5 B6 B7=>AAo ⟨B5,?_⟩;refine h_e rfl fun D0 Ba=>?_;have Af:=B6.e Ba;obtain ⟨D1,B8,B9⟩:=Zq B4;refine AFn Af (B7.thenE Ba) (AQi (Af.z p1).2 (Af.z p0).2 B8) fun D2 D3 Ca Ag Ah=>AAo ⟨Ca,?_⟩;refine h_l rfl (AOh (Ag.z p5) Ah (Ac.b p0) (AAo (h_l rfl (AOh (Ag.z p5) Ah (Ac.b p0) (AAo (h_e rfl fun D4 Bb=>?_))))));have Ai:=Ag.e Bb;obtain ⟨D5,Cb,Cd⟩:=Zq B9;refine AFn Ai (Ah.thenE Bb) (AQi (Ai.z p5).2 (Ai.z p5).2 Cb) fun D6 D7 Ce Cf Cg=>AAo ⟨Ce,?_⟩;refine h_e rfl fun D8 Bc=>?_;have Aj:=Cf.e Bc;obtain ⟨D9,Ch,Ci⟩:=Zq Cd;refine AFn Aj (Cg.thenE Bc) (Ahj (Aj.z p1).2 (Aj.z p0).2 Ch) fun Ea Eb Cj Ck Cm=>AAo ⟨Cj,?_⟩;refine h_e rfl fun Ec Be=>?_;have Ak:=Ck.e Be;obtain ⟨Ed,Cn,Co⟩:=Zq Ci;refine AFn Ak (Cm.thenE Be) (AQi (Ak.z p5).2 (Ak.z p0).2 Cn) fun Cp Ee Cq Cr Ct=>AAo ⟨Cq,?_⟩;refine Aa5 fun Cu Bf=>Aq1 fun Ef Bg Cv Eg=>?_;have Aa:=Cr.e Bf;have Ad:=(((((((Ac.nb (Ct.thenE Bf).ext (AE8 Cv Bg.lt) Bg).az (Aa.z p6)).az (Aa.z p5)).az (Aa.z p4)).az (Aa.z p3)).az (Aa.z p2)).az (Aa.z p1)).az (Aa.z p0);refine AB9 Cp ABn (cZ.klen (Ad.z p0)) (cZ.klen (AAf Cu)) rfl rfl (cZ.one (Ad.z p0)) (Ad.b p7) fun Am Cw Cx=>Zs (Zp (ACj (fun h'=>UpT [] Am h') Zy ?_));have Ao:=Ad.sb p7 Cx Cw rfl;have Bh:UpT [] Am Am:=UpT.start all_nil;refine AOh (Ao.z p0) Bh (Ao.b p7) ?_;obtain ⟨Eh,Cy,Cz⟩:=Zq Co;refine AFn Ao Bh (AJ6 Cy) fun Ei Ej Ek Bi C0=>Zk (Zk ?_);obtain ⟨El,C1,C2⟩:=Zq Cz;refine AFn Bi C0 (ADy (H6.ext Bi.x) C1) fun Em En Eo Bj C3=>Zk (Zk ?_);obtain ⟨Ep,C4,C5⟩:=Zq C2;refine AFn Bj C3 (ADy (H6.ext Bj.x) C4) fun Er Es Et Ap C6=>?_;obtain ⟨Eu,C7,C8⟩:=Zq C5;refine AFn Ap C6 (AQi (Ap.z p1).2 (Ap.z p0).2 C7) fun Ev Ew Ey Aq C9=>?_;obtain ⟨Ez,Da,Db⟩:=Zq C8;refine AFn Aq C9 (AQi (Aq.z p3).2 (Aq.z p0).2 Da) fun Fa Fb Fc Ar Dc=>?_;obtain ⟨Fd,Dd,De⟩:=Zq Db;refine Aa6 Ar Dc (Aa7 (Ar.z p5).2 (Ar.z p0).2 Dd) fun Fe Ff Df Fg=>AMn rfl rfl (Zu (Zx ?_));obtain rfl:=Zm De;exact ⟨_,Zz,Df.x,rfl⟩
def ALb (fuel:Nat) (a3:LiI) (x5:LiA) (Ab Aa:Int) (Ac:LiI):Option ((Int × LiI) ⊕ (((LiI × Bool)) ⊕ (LiI))):=
  (if 0<=Aa then ((AFg fuel a3 x5 Ab Aa).bind fun Ah=>(if (!Ah)=true then ((gI Ac Aa).bind fun Af=>((ADv fuel a3 Ab Aa).bind fun Ai=>((ACf fuel x5 (w64 (Aa + 1))).bind fun Aj=>((AFr fuel Ai Aj).bind fun Ag=>((AF6 fuel Ag.1 Ag.2).bind fun Ak=>((Afl fuel Ak).bind fun Am=>((gI Af Ab).bind fun Ao=>(some (Sum.inr<| Sum.inl <| ((sI Ac Aa (sI Af Ab Am)),true)))))))))) else (some (Sum.inl ((w64 (Aa - 1)),Ac))))) else (some (Sum.inr<| Sum.inr <| Ac)))
def ALc (fuel:Nat) (a3:LiI) (x5:LiA) (Aa:Int) (Ae:LiI):Option ((Int × LiI) ⊕ (((LiI × Bool)) ⊕ (Unit))):=
  (if Aa < (a3.length:Int) then ((iter (fun s=>ALb fuel a3 x5 Aa s.1 s.2) fuel ((w64 (Aa - 1)),Ae)).bind (fun ex=>match ex with | Sum.inl Af=>(some (Sum.inr<| Sum.inl <| Af)) | Sum.inr (Ab)=>(if 0 < Aa then ((AEv fuel a3 x5 Aa).bind fun Ag=>(if (!Ag)=true then ((gI Ab (w64 (Aa - 1))).bind fun Ah=>((gI Ab Aa).bind fun Ai=>(some (Sum.inr<| Sum.inl <| ((sI (sI Ab Aa Ah) (w64 (Aa - 1)) Ai),true))))) else (some (Sum.inl ((w64 (Aa + 1)),Ab))))) else (some (Sum.inl ((w64 (Aa + 1)),Ab)))))) else (some (Sum.inr<| Sum.inr <| ())))
def AHg (fuel:Nat) (a3:LiI):Option (LiI × Bool):=
  ((ADh fuel a3).bind fun (x5,x6)=>((ADx fuel (a3.length:Int)).bind fun (Ac,Af)=>((iter (fun s=>ALc fuel a3 x5 s.1 s.2) fuel (0,Ac)).bind (fun ex=>match ex with | Sum.inl Ad=>(some Ad) | Sum.inr (_)=>(some ([],false))))))
theorem ATh {fuel:Nat} {h:Zv} {A3:Value} {a3:LiI} {r:(LiI × Bool)} (H2:ACx cZ h A3 a3) (hp:AHg fuel a3=some r):AAw Tryz.prog 59 #[A3] h (fun x h'=>Ext h h'/\ ∃ (x0:Value) (F0:List Nat) (Br:List LnA) (Bt:List Value),x= .tuple #[x0,.bool r.2]/\ACy cZ 128 94 h' F0 Br Bt x0 r.1/\Sp h' h.size [F0]):=by
 unfold AHg at hp;refine cwf (l:=[_]) Tryz.func59 rfl rfl (Zo (AAn (AA5 (Zk ?_))));have K0:=Kst.k0 h;obtain ⟨⟨x5,x6⟩,Bu,A8⟩:=Zq hp;dsimp only at A8;refine ANz rfl (AI6 (H2.ext K0.x) Bu) fun Dg Dh E9 Bw=>?_;obtain ⟨Di,Dj,rfl,Bx,By⟩:=Bw;refine Zk (ABl rfl rfl (ABl rfl rfl (AAn (AA5 (Zk (AA6 ABz rfl H2 ?_))))));obtain ⟨⟨Bz,Dk⟩,B1,A9⟩:=Zq A8;dsimp only at A9;refine ANz rfl (AMv B1) fun Dl Do B3 B4=>?_;obtain ⟨Ba,B5,B6,B7,rfl,B8,B9⟩:=B4;refine Zk (ABl rfl rfl (ABl rfl rfl (AAn (Zu (Zp (Zo (Zk (AA6 ABz rfl H2 (Zk (Zs (Zt ?_)))))))))));have Bb:=(K0.no E9 By Bx).no2 B3 B9 B8;refine AFo 9671406556917033389261580 (fun x:(Int) × (LiI) × LnA × LnN × LvA=>(x.1,x.2.1)) ((0,Bz,B5,B6,B7):(Int) × (LiI) × LnA × LnN × LvA) A9 (fun x=>[(23,(.int .i64 x.1))]) (fun x=>Bb.L.set 0 (aO2 cZ 128 94 x.2.2.1 x.2.2.2.1 x.2.2.2.2 Ba x.2.1)) Bb ⟨rfl,trivial⟩ ?_;rintro ⟨Bc,Ca,Cb,Cd,Ce⟩ Dp Dq Dr Ag Ah Ai;unfold ALc at Ah;refine Zo (AAv rfl rfl (Zs (Zp (⟨_,rfl,fun Aj=>?_,fun Aj=>?_⟩))))
 ·refine Zw (q_t (Zp (Zt (Zo (Zk (Zu (Zp (Zo (Zk (AFl rfl rfl (Zu (Zt (AFo 72057593769493004 (fun x:(Int) × (LiI) × LnA × LnN × LvA=>(x.1,x.2.1)) (((w64 (Bc - 1)),Ca,Cb,Cd,Ce):(Int) × (LiI) × LnA × LnN × LvA) (AA8 Ah Aj) (fun x=>[(9,(.int .i64 x.1))]) (fun x=>Ag.L.set 0 (aO2 cZ 128 94 x.2.2.1 x.2.2.2.1 x.2.2.2.2 Ba x.2.1)) Ag ⟨rfl,trivial⟩ ?_)))))))))))));rintro ⟨Be,Ds,Dt,Du,Dv⟩ Dw Dx Dy Aa Ak Bf;unfold ALb at Ak;refine Zp (Zo (Zk (AMn rfl rfl (Zs (⟨_,rfl,fun Am=>?_,fun Am=>?_⟩)))))
  ·refine Zw (q_t (Zp (Zt (Zo (Zk (Zk (Zk (Zk ?_))))))));obtain ⟨Dz,Cf,Bg⟩:=Zq (AA8 Ak Am);refine ACa Aa (AN2 (H2.ext Aa.x) (Aa.o p1).rd Cf) fun Ao D0 Ac=>ACr rfl (Zs (⟨_,rfl,fun Ap=>?_,fun Ap=>?_⟩))
   ·refine Zp (ACj (fun h'=>UpT [] Ao h') Zy ?_);have Bh:UpT [] Ao Ao:=UpT.start all_nil;refine Zk (Zk ?_);obtain ⟨D1,Aq,Cg⟩:=Zq (ifT Bg Ap);refine ADb ABz rfl (Ac.o2 p0) rfl Aq fun D2 D3 D4 Ch Ci=>ACl AD1 rfl Bh (fun h' hb=>AAz Ci hb.ext) (Zk (Zk (Zk (Zk ?_))));obtain ⟨D5,Cj,Ck⟩:=Zq Cg;refine AFn Ac Bh (AJx (H2.ext Ac.x) Cj) fun D6 D7 D8 Bi Cm=>Zk (Zk (AAx rfl rfl ?_));obtain ⟨D9,Cn,Co⟩:=Zq Ck;refine AFn Bi Cm (ADy (Bi.o p2).rd Cn) fun Ea Eb Ec Ar Au=>?_;obtain ⟨Ed,Cp,Cq⟩:=Zq Co;refine AEo Au (fun _ E=>Au.thenE E) rfl (AQz (Ar.z p1).2 (Ar.z p0).2 Cp) fun Ee Ef Bj Cr=>?_;obtain ⟨Eg,rfl,Ct⟩:=Cr;have Cu:=Au.thenE Bj;obtain ⟨Eh,Ei,rfl,Cv,Cw⟩:=Ct;have Av:=((Ar.e Bj).az Cv).az Cw;obtain ⟨Ej,Cx,Cy⟩:=Zq Cq;refine AFn Av Cu (ARr ⟨_,_,rfl,(Av.z p1),(Av.z p0)⟩ Cx) fun Ek El Em Bl Cz=>?_;obtain ⟨En,C0,C1⟩:=Zq Cy;refine AFn Bl Cz (Adz (Bl.z p0).2 C0) fun Eo Ep Er Ad Es=>?_;obtain ⟨Et,Bm,C2⟩:=Zq C1;refine AE9 (m:=Be) AC9 rfl (Ac.o2 p0) Ch Aq rfl Bm fun Eu C3=>ANv (m:=Be) (ASf ABn (cZ.klen (Ad.z p0)) rfl rfl (cZ.one (Ad.z p0))) (Ad.o2 p6) C3 Aq Bm (Ad.z p0) fun Ev C4 C5=>AId (Zk (AAn (Zu (Zx (ABg (AAd (AAd (ABg (AAd (ABg (AAd (AAd (ABg (AAd ?_))))))))))))));have Aw:=Ad.uO2 p6 C5 C4;obtain rfl:=Zm (Ai _ (Zm (Bf _ (Zm C2).symm)).symm);exact ⟨_,ABi,Aw.x,_,_,_,_,rfl,(Aw.o2 p6),Aw.s.sel [6] Zl⟩
   ·refine Zw (q_b (q_t (AAc (Zk (AFl rfl rfl (Zu ?_))))));exact ⟨(_,_,_,_,_),(Zm (AFe Bg Ap)).symm,Ac,rfl,trivial⟩
  ·refine AAj (AAk (AAk (ABm (q_t (Zo (Zk (AF1 rfl rfl (Zk ?_))))))));have Bn:=Bf _ (Zm (AA9 Ak Am)).symm;by_cases Af:0 < Bc
   ·rw [decide_eq_true Af];refine Z4 58 true (Zk (Z4 58 true (Zk (Z4 58 true (Zk (Z4 58 true ?_))))));obtain ⟨Ew,C6,Bo⟩:=Zq (ifT Bn Af);refine ACa Aa (ANs (H2.ext Aa.x) (Aa.o p1).rd C6) fun Ey Ez Ae=>Z4 58 true (ACr rfl (AAa rfl (Zs (⟨_,rfl,fun Ax=>?_,fun Ax=>?_⟩))))
    ·refine Zp (AGe (Zk (Zk (Zk (Zk (AFl rfl rfl (Zk (Zk (AFl rfl rfl ?_)))))))));obtain ⟨Fa,Bp,C7⟩:=Zq (ifT Bo Ax);refine AB1 ABz AD1 (Ae.o2 p0) Bp fun _ Fb C8=>Zk (Zk ?_);obtain ⟨Fc,Bq,C9⟩:=Zq C7;refine AB1 ABz AD1 (Ae.o2 p0) Bq fun _ Fd Da=>ARo ABz AD1 (Ae.o2 p0) Da C8 Bq Bp rfl rfl (fun _=>rfl) (fun _=>rfl) (fun _=>rfl) (fun _ _=>rfl) fun Fe Ff Fg Fh Fi Fj Db Dc Dd=>AId (Zk (AAn (Zu (Zx (ABg (AAd (AAd (ABg (AAd ?_)))))))));have Ay:=Ae.uo2 p0 Dc Db Dd;obtain rfl:=Zm (Ai _ (Zm C9).symm);exact ⟨_,ABi,Ay.x,_,_,_,_,rfl,(Ay.o2 p0),Ay.s.sel [0] Zl⟩
    ·refine Zw (q_b (q_t (AAc (AAx rfl rfl (Zk (Zs ?_))))));exact ⟨(_,_,_,_,_),(Zm (AFe Bo Ax)).symm,Ae,rfl,trivial⟩
   ·rw [decide_eq_false Af];refine ADf 58 false (Z1 rfl (Zs (AAy rfl (Zw (q_b (q_t (AAc (AAx rfl rfl (Zk (Zs ?_))))))))));exact ⟨(_,_,_,_,_),(Zm (ifF Bn Af)).symm,Aa,rfl,trivial⟩
 ·refine AAj (AAk (AAk (ABm (q_t (Zo (AAn (Zu (Zx ?_))))))));have Az:=Kst.anil2 cZ 128 94 Ag;obtain rfl:=Zm (Ai _ (Zm (AA9 Ah Aj)).symm);exact ⟨_,ABi,Az.x,_,_,_,_,rfl,(Az.o2 p0),Az.s.sel [0] Zl⟩
def AJy (fuel:Nat) (Aa Ab:LiI):Option ((LiI × LiI) ⊕ (((LiI × LiI × Int)))):=
  ((AHg fuel Aa).bind fun (Ac,Ad)=>(if (!Ad)=true then ((AGi fuel Aa).bind fun (Ae,Ah)=>(some (Sum.inr<| (Ae,Ab,0)))) else ((ADp fuel Aa Ac).bind fun Af=>((ACe fuel Ab Ac).bind fun Ag=>(some (Sum.inl (Af,Ag)))))))
def AGj (fuel:Nat) (a3:LiI):Option (LiI × LiI × Int):=
  ((ACo fuel a3).bind fun x5=>(if ¬ x5=0 then (some ([],[],x5)) else ((AFh fuel a3).bind fun Ac=>(if (!Ac)=true then (some ([],[],7)) else ((AF4 fuel a3).bind fun Ad=>((ADx fuel (a3.length:Int)).bind fun (Ae,Ag)=>((iter (fun s=>AJy fuel s.1 s.2) fuel (Ad,Ae)).bind (fun (Af:(LiI × LiI × Int))=>(some Af)))))))))
theorem AR1 {fuel:Nat} {h:Zv} {Ao:Value} {a3:LiI} {r:(LiI × LiI × Int)} (H2:ACx cZ h Ao a3) (hp:AGj fuel a3=some r):AAw Tryz.prog 24 #[Ao] h (fun x h'=>Ext h h'/\ ∃ (x0:Value) (F0:List Nat) (A7:List LnA) (A8:List Value) (x1:Value) (F1:List Nat) (A9:List LnA) (Ba:List Value),x= .tuple #[x0,x1,.int .i64 r.2.2]/\ACy (cI .i64) 60 2 h' F0 A7 A8 x0 r.1/\ACy cZ 128 94 h' F1 A9 Ba x1 r.2.1/\Sp h' h.size [F0,F1]):=by
 unfold AGj at hp;refine cwf (l:=[_]) Tryz.func24 rfl rfl (Zo (AAn (AAn (Zu (Zp (Zo (Zk ?_)))))));have K0:=Kst.k0 h;obtain ⟨x5,Bb,Ax⟩:=Zq hp;refine ACa K0 (AIk (H2.ext K0.x) Bb) fun h9 E8 Af=>AA5 (Zk (ACp rfl rfl (Zs (⟨_,rfl,fun Ag=>?_,fun Ag=>?_⟩))))
 ·refine Zo (Zk (AAn (AAn (Zu (Zx (AAd ?_))))));have Ac:=Kst.anil2 cZ 128 94 (Kst.anil2 (cI .i64) 60 2 Af);obtain rfl:=Zm (AA8 Ax Ag);exact ⟨_,AKh,Ac.x,_,_,_,_,_,_,_,_,rfl,(Ac.o2 p1),(Ac.o2 p0),Ac.s.sel [1,0] Zl⟩
 ·refine Zw (q_t (Zp (Zo (Zk ?_))));obtain ⟨Ck,Bc,Ay⟩:=Zq (AA9 Ax Ag);refine ACa Af (AN3 (H2.ext Af.x) Bc) fun Cm Cn Ah=>ACr rfl (Zs (⟨_,rfl,fun Ai=>?_,fun Ai=>?_⟩))
  ·refine Zo (AAn (AAn (Zu (Zx (AAd ?_)))));have Ad:=Kst.anil2 cZ 128 94 (Kst.anil2 (cI .i64) 60 2 Ah);obtain rfl:=Zm (ifT Ay Ai);exact ⟨_,AKh,Ad.x,_,_,_,_,_,_,_,_,rfl,(Ad.o2 p1),(Ad.o2 p0),Ad.s.sel [1,0] Zl⟩
  ·refine Zw (q_t (Zo (Zk ?_)));obtain ⟨Be,Bf,Bg⟩:=Zq (AFe Ay Ai);refine AM5 Ah (AOi (H2.ext Ah.x) Bf) fun Bh Bi Bj Bl Co Cp Bm=>AA5 (Zk (AA6 ABz rfl H2 ?_));obtain ⟨⟨Bn,Cq⟩,Bo,Az⟩:=Zq Bg;dsimp only at Az;refine ANz rfl (AMv Bo) fun Cr Ct Bp Bq=>?_;obtain ⟨Br,Bt,Bu,Bv,rfl,Bw,Bx⟩:=Bq;refine Zk (ABl rfl rfl (ABl rfl rfl (AAn (Zu (Zt ?_)))));have A3:=Bm.no2 Bp Bx Bw;refine AFo 562949416558300 (fun x:(LiI) × (Value) × LnA × LnN × LvA × (LiI) × (Value) × LnA × LnN × LvA=>(x.1,x.2.2.2.2.2.1)) ((Be,Bl,Bh,Bi,Bj,Bn,Br,Bt,Bu,Bv):(LiI) × (Value) × LnA × LnN × LvA × (LiI) × (Value) × LnA × LnN × LvA) Az (fun x=>[(6,x.2.1),(7,x.2.2.2.2.2.2.1)]) (fun x=>(A3.L.set 1 (aO2 cZ 128 94 x.2.2.1 x.2.2.2.1 x.2.2.2.2.1 x.2.1 x.1)).set 0 (aO2 cZ 128 94 x.2.2.2.2.2.2.2.1 x.2.2.2.2.2.2.2.2.1 x.2.2.2.2.2.2.2.2.2 x.2.2.2.2.2.2.1 x.2.2.2.2.2.1)) A3 ⟨rfl,rfl,trivial⟩ ?_;rintro ⟨Cu,Cv,Cw,Cx,Cy,Cz,C0,C1,C2,C3⟩ C4 C5 C6 A4 A5 By;unfold AJy at A5;refine Zt (Zo (Zk ?_));obtain ⟨⟨C7,C8⟩,Bz,Aj⟩:=Zq A5;dsimp only at Aj;refine ANz rfl (ATh (A4.o2 p1).rd Bz) fun C9 Da B1 B3=>?_;obtain ⟨Db,Dc,Dd,De,rfl,B4,B5⟩:=B3;refine Zk (ABl rfl rfl (ABl rfl rfl (AAn (Zu (Zp (Zo (Zk (ACr rfl (Zs ?_)))))))));have Aa:=A4.no2 B1 B5 B4;refine ⟨_,rfl,fun Ak=>?_,fun Ak=>?_⟩
   ·refine Zo (Zk ?_);obtain ⟨⟨Df,Dg⟩,B6,A6⟩:=Zq (ifT Aj Ak);dsimp only at A6;refine ANz rfl (AR0 (Aa.o2 p2).rd B6) fun Dh Di B7 B8=>?_;obtain ⟨Dj,Dk,Dl,Do,rfl,B9,Ca⟩:=B8;refine Zk (ABl rfl rfl (ABl rfl rfl (AAn (AA5 (Zk (Zk (AAn (AAn (Zu (Zx (AAd (ABg (AAd (ABg ?_))))))))))))));have Ae:=Aa.no2 B7 Ca B9;obtain rfl:=Zm (By _ (Zm A6).symm);exact ⟨_,AKh,Ae.x,_,_,_,_,_,_,_,_,rfl,(Ae.o2 p0),(Ae.o2 p2),Ae.s.sel [0,2] Zl⟩
   ·refine Zw (q_t (AAc (Zk (Zk ?_))));obtain ⟨Dp,Cb,Cd⟩:=Zq (AFe Aj Ak);refine AM5 Aa (AQk (Aa.o2 p2).rd (Aa.o2 p0).rd Cb) fun Dq Dr Ds Dt Du Dv Am=>Zk (Zk ?_);obtain ⟨Dw,Ce,Cf⟩:=Zq Cd;refine AM5 Am (AI4 (Am.o2 p2).rd (Am.o2 p1).rd Ce) fun Dx Dy Dz D0 D1 D2 Cg=>AAn (AAn (AAo (q_b (q_t ?_))));exact ⟨(_,_,_,_,_,_,_,_,_,_),(Zm Cf).symm,Cg.sel [0,1] Zl,rfl,rfl,trivial⟩
def AI7 (fuel:Nat) (a3:LiI) (x5:LiA) (Ab Aa:Int):Option ((Int) ⊕ ((Bool) ⊕ (Unit))):=
  (if Aa < Ab then ((AFg fuel a3 x5 Ab Aa).bind fun Ae=>(if (!Ae)=true then (some (Sum.inr<| Sum.inl <| false)) else (some (Sum.inl (w64 (Aa + 1)))))) else (some (Sum.inr<| Sum.inr <| ())))
def AI8 (fuel:Nat) (a3:LiI) (x5:LiA) (Aa:Int):Option ((Int) ⊕ ((Bool) ⊕ (Unit))):=
  (if Aa < (a3.length:Int) then ((iter (fun s=>AI7 fuel a3 x5 Aa s) fuel 0).bind (fun ex=>match ex with | Sum.inl Ad=>(some (Sum.inr<| Sum.inl <| Ad)) | Sum.inr (_)=>(if 0 < Aa then ((AEv fuel a3 x5 Aa).bind fun Ae=>(if (!Ae)=true then (some (Sum.inr<| Sum.inl <| false)) else (some (Sum.inl (w64 (Aa + 1)))))) else (some (Sum.inl (w64 (Aa + 1))))))) else (some (Sum.inr<| Sum.inr <| ())))
def AF7 (fuel:Nat) (a3:LiI):Option Bool:=
  ((ADh fuel a3).bind fun (x5,x6)=>((iter (fun s=>AI8 fuel a3 x5 s) fuel 0).bind (fun ex=>match ex with | Sum.inl Ac=>(some Ac) | Sum.inr (_)=>(some true))))
theorem ARs {fuel:Nat} {h:Zv} {Am:Value} {a3:LiI} {r:Bool} (H2:ACx cZ h Am a3) (hp:AF7 fuel a3=some r):AAw Tryz.prog 51 #[Am] h (fun x h'=>Ext h h'/\x= .bool r):=by
 unfold AF7 at hp;refine cwf (l:=[_]) Tryz.func51 rfl rfl (Zo (AA5 (Zk ?_)));have K0:=Kst.k0 h;obtain ⟨⟨x5,x6⟩,A3,Aq⟩:=Zq hp;dsimp only at Aq;refine ANz rfl (AI6 (H2.ext K0.x) A3) fun Be Bf E9 A5=>?_;obtain ⟨Bg,Bh,rfl,A6,A7⟩:=A5;refine Zk (ABl rfl rfl (ABl rfl rfl (AAn (Zu (Zp (Zo (Zk (AA6 ABz rfl H2 (Zk (Zs (Zt ?_)))))))))));have Ar:=K0.no E9 A7 A6;refine AG5 274877890660 Aq (fun x=>[(14,(.int .i64 x))]) (fun x=>Ar.L) Ar ⟨rfl,trivial⟩ ?_;rintro A8 Bi Bj Bl Ad Ae Af;unfold AI8 at Ae;refine Zo (AAv rfl rfl (Zs (Zp (⟨_,rfl,fun Ag=>?_,fun Ag=>?_⟩))))
 ·refine Zw (q_t (Zp (Zt (Zo (Zk (Zu (Zp (Zo (Zu (Zt (AG5 268304452 (AA8 Ae Ag) (fun x=>[(6,(.int .i64 x))]) (fun x=>Ad.L) Ad ⟨rfl,trivial⟩ ?_)))))))))));rintro Bm Bn Bo Bp Aa Ah Au;unfold AI7 at Ah;refine Zp (Zo (Zk (Zk (AAv rfl rfl (Zs (⟨_,rfl,fun Ai=>?_,fun Ai=>?_⟩))))))
  ·refine Zw (q_t (Zp (Zt (Zo (Zk (Zk (Zk (Zk ?_))))))));obtain ⟨Bq,A9,Av⟩:=Zq (AA8 Ah Ai);refine ACa Aa (AN2 (H2.ext Aa.x) (Aa.o p0).rd A9) fun Br Bt Aw=>ACr rfl (Zs (⟨_,rfl,fun Aj=>?_,fun Aj=>?_⟩))
   ·refine Zo (Zu (Zx (ABg (AAd (AAd (ABg (AAd (ABg (AAd (AAd (ABg (AAd ?_))))))))))));obtain rfl:=Zm (Af _ (Zm (Au _ (Zm (ifT Av Aj)).symm)).symm);exact ⟨_,Zz,Aw.x,rfl⟩
   ·refine Zw (q_b (q_t (AAc (Zk (AAx rfl rfl (Zu ?_))))));exact ⟨_,(Zm (AFe Av Aj)).symm,Aw,rfl,trivial⟩
  ·refine AAj (AAk (AAk (ABm (q_t (Zo (Zk (AF1 rfl rfl (Zk ?_))))))));have Ax:=Au _ (Zm (AA9 Ah Ai)).symm;by_cases Ac:0 < A8
   ·rw [decide_eq_true Ac];refine Z4 30 true (Zk (Z4 30 true (Zk (Z4 30 true (Zk (Z4 30 true ?_))))));obtain ⟨Bu,Ba,Ay⟩:=Zq (ifT Ax Ac);refine ACa Aa (ANs (H2.ext Aa.x) (Aa.o p0).rd Ba) fun Bv Bw Az=>Z4 30 true (ACr rfl (AAa rfl (Zs (⟨_,rfl,fun Ak=>?_,fun Ak=>?_⟩))))
    ·refine Zo (Zu (Zx (ABg (AAd (AAd (ABg (AAd ?_)))))));obtain rfl:=Zm (Af _ (Zm (ifT Ay Ak)).symm);exact ⟨_,Zz,Az.x,rfl⟩
    ·refine Zw (q_b (q_t (AAc (AAx rfl rfl (Zk (Zs ?_))))));exact ⟨_,(Zm (AFe Ay Ak)).symm,Az,rfl,trivial⟩
   ·rw [decide_eq_false Ac];refine ADf 30 false (Z1 rfl (Zs (AAy rfl (Zw (q_b (q_t (AAc (AAx rfl rfl (Zk (Zs ?_))))))))));exact ⟨_,(Zm (ifF Ax Ac)).symm,Aa,rfl,trivial⟩
 ·refine AAj (AAk (AAk (ABm (q_t (Zo (Zu (Zx ?_)))))));obtain rfl:=Zm (Af _ (Zm (AA9 Ae Ag)).symm);exact ⟨_,Zz,Ad.x,rfl⟩
def AB4 (fuel:Nat) (a3:LiI):Option Bool:=
  ((ACc fuel a3).bind fun (x5,x6)=>(if x6=true then ((ACo fuel x5).bind fun Ad=>(if Ad=0 then ((AFh fuel x5).bind fun Ae=>(if Ae=true then ((AF7 fuel x5).bind fun Af=>(some Af)) else (some false))) else (some false))) else (some false)))
theorem AH2 {fuel:Nat} {h:Zv} {Af:Value} {a3:LiI} {r:Bool} (H2:ACx (cI .i64) h Af a3) (hp:AB4 fuel a3=some r):AAw Tryz.prog 17 #[Af] h (fun x h'=>Ext h h'/\x= .bool r):=by
 unfold AB4 at hp;refine cwf (l:=[_]) Tryz.func17 rfl rfl (Zo (AA5 (Zk ?_)));have K0:=Kst.k0 h;obtain ⟨⟨x5,x6⟩,Aq,Ab⟩:=Zq hp;dsimp only at Ab;refine ANz rfl (AMu (H2.ext K0.x) Aq) fun A8 A9 E9 Au=>?_;obtain ⟨Ba,Bb,Bc,Be,rfl,Av,Aw⟩:=Au;refine Zk (ABl rfl rfl (ABl rfl rfl (AAn (AA5 (Zk (Zk ?_))))));have Ac:=K0.no2 E9 Aw Av;cases Ai:x6
 ·refine AC8 11 false (Z1 rfl (Zk (AG3 16 false (Z1 rfl (Zk (AG3 20 false (Z1 rfl (Zu (Zx ?_)))))))));obtain rfl:=Zm (AFe Ab Ai);exact ⟨_,Zz,Ac.x,rfl⟩
 ·refine Z4 11 true (Zk (Z4 11 true ?_));obtain ⟨Ax,Ay,Aj⟩:=Zq (ifT Ab Ai);refine ACa Ac (AIk (Ac.o2 p0).rd Ay) fun Bf Bg Ad=>Z4 11 true (ABx rfl rfl (AAa rfl (Zk ?_)));by_cases Aa:Ax=0
  ·rw [decide_eq_true Aa];refine Z4 16 true (Zk (Z4 16 true ?_));obtain ⟨Az,A3,Ak⟩:=Zq (ifT Aj Aa);refine ACa Ad (AN3 (Ad.o2 p0).rd A3) fun Bh Bi Ae=>AAa rfl (Zk ?_);cases Am:Az
   ·refine AG3 20 false (Z1 rfl (Zu (Zx ?_)));obtain rfl:=Zm (AFe Ak Am);exact ⟨_,Zz,Ae.x,rfl⟩
   ·refine Z4 20 true (Zk (Z4 20 true ?_));obtain ⟨Bj,A4,A5⟩:=Zq (ifT Ak Am);refine ACa Ae (ARs (Ae.o2 p0).rd A4) fun Bl Bm A6=>AAa rfl (Zu (Zx ?_));obtain rfl:=Zm A5;exact ⟨_,Zz,A6.x,rfl⟩
  ·rw [decide_eq_false Aa];refine AG3 16 false (Z1 rfl (Zk (AG3 20 false (Z1 rfl (Zu (Zx ?_))))));obtain rfl:=Zm (ifF Aj Aa);exact ⟨_,Zz,Ad.x,rfl⟩
end Go.Proofs.YtdkldlbgcfpglaaGreatDoor
namespace Go.QF
open Go
def Ok {α:Type} (o:Option α) (Q:α->Prop):Prop:= ∃ r,o=some r/\Q r
theorem Zn {α:Type} {a:α} {Q:α->Prop} (h:Q a):Ok (some a) Q:=⟨a,rfl,h⟩
theorem Zr {α β:Type} {o:Option α} {f:α->Option β} {Q:α->Prop} {R:β->Prop} (h:Ok o Q) (k:∀ x,Q x->Ok (f x) R):Ok (o.bind f) R:=by
 obtain ⟨x,rfl,hx⟩:=h;exact k x hx
theorem AAh {c:Prop} [Decidable c] {α:Type} {a b:Option α} {R:α->Prop} (ht:c->Ok a R) (hf: ¬ c->Ok b R):Ok (if c then a else b) R:=by
 by_cases h:c
 ·rw [if_pos h];exact ht h
 ·rw [if_neg h];exact hf h
theorem AB5 {c:Prop} [Decidable c] {α:Type} {a:Option α} {R:α->Prop} (hc:c) (h:Ok a R):Ok (if c then a else none) R:=by rw [if_pos hc];exact h
theorem Arc {α:Type} {o:Option α} {Q R:α->Prop} (h:Ok o Q) (k:∀ x,Q x->R x):Ok o R:=let ⟨x,h1,h2⟩:=h;⟨x,h1,k x h2⟩
theorem ok_eq {α:Type} {o:Option α} {a:α} (h:Ok o (· =a)):o=some a:=by obtain ⟨x,h1,rfl⟩:=h;exact h1
theorem ABc {α:Type} {o:Option α} {a:α} (h:o=some a):Ok o (· =a):=⟨a,h,rfl⟩
theorem AAu {α β:Type} {L:List α} {i:Int} {n:Nat} {x:α} {f:α->Option β} {R:β->Prop} (hx:L[n]? =some x) (hi:i=n) (k:Ok (f x) R):Ok ((gI L i).bind f) R:=by
 subst hi;unfold gI;rw [if_pos Zj,Int.toNat_natCast,hx];exact k
theorem ABa {S E:Type} {body:S->Option (S ⊕ E)} {fuel:Nat} {s0:S} (I:Nat->S->Prop) (n:Nat) {Q:E->Prop} (h0:I 0 s0) (hf:n < fuel) (hs:∀ i s,i<=n->I i s->Ok (body s) fun r=>match r with | .inl s'=>i < n/\I (i + 1) s' | .inr e=>Q e):Ok (iter body fuel s0) Q:=by
  have key:∀ k fuel i s,n - i=k->k < fuel->i<=n->I i s->Ok (iter body fuel s) Q:=by
    intro k;induction k with
    | zero=>
      intro fuel i s hk hf hi hI;obtain ⟨r,hr,hq⟩:=hs i s hi hI;cases fuel with
      | zero=>omega
      | succ f=>
        cases r with
        | inl s'=>simp at hq;omega
        | inr e=>exact ⟨e,by simp [iter,hr],hq⟩
    | succ k ih=>
      intro fuel i s hk hf hi hI;obtain ⟨r,hr,hq⟩:=hs i s hi hI;cases fuel with
      | zero=>omega
      | succ f=>
        cases r with
        | inl s'=>
          obtain ⟨e,he,hQ⟩:=ih f (i + 1) s' Zj Zj Zj hq.2;exact ⟨e,by simp [iter,hr,he],hQ⟩
        | inr e=>exact ⟨e,by simp [iter,hr],hq⟩
  exact key n fuel 0 s0 Zj hf Zj h0
theorem ACk {x:Int} (h1: -9223372036854775808<=x) (h2:x<=9223372036854775807):w64 x=x:=by
 show IntKind.i64.wrap x=x;rw [IntKind.wrap_i64];omega
theorem wk {x:Int} (h: -9223372036854775808<=x/\x<=9223372036854775807):w64 x=x:=ACk h.1 h.2
def AB6 {α:Type} (m:Nat) (f:Nat->α):List α:=(List.range m).map f
theorem AA2 {α:Type} (m:Nat) (f:Nat->α):(AB6 m f).length=m:=by simp [AB6]
theorem AAq {α:Type} {m:Nat} {f:Nat->α} {j:Nat} (h:j < m):(AB6 m f)[j]? =some (f j):=by simp [AB6,h]
theorem ABo {α:Type} {m:Nat} {f g:Nat->α} (h:∀ j,j < m->f j=g j):AB6 m f=AB6 m g:=by
 unfold AB6;exact List.map_congr_left fun j hj=>h j (List.mem_range.1 hj)
theorem AD7 {α:Type} {m j:Nat} {f:Nat->α} {x:α}:(AB6 m f).set j x=AB6 m fun c=>if c=j then x else f c:=by
 apply List.ext_getElem?;intro i;rw [List.getElem?_set];by_cases h:j=i
 ·subst h;simp only [if_true,AA2];by_cases hj:j < m
  ·simp [hj,AAq hj]
  ·simp [hj,AB6]
 ·rw [if_neg h];by_cases hi:i < m
  ·rw [AAq hi,AAq hi,if_neg (fun he=>h he.symm)]
  ·simp [AB6,hi]
theorem AOk {α:Type} (m:Nat) (f:Nat->α):AB6 m f ++ [f m]=AB6 (m + 1) f:=by simp [AB6,List.range_succ]
theorem AE4 {α:Type} (m:Nat) (a:α):List.replicate m a=AB6 m fun _=>a:=by
 apply List.ext_getElem?;intro i;by_cases h:i < m
 ·rw [AAq h];simp [h]
 ·simp [AB6,h]
theorem AP5 (r c:Nat) (F:AAb):tab r c F=AB6 r fun i=>AB6 c (F i):=rfl
theorem AA1 {r c:Nat} {F:AAb} {i:Nat} (h:i < r):(tab r c F)[i]? =some (AB6 c (F i)):=AAq (f:=fun i=>AB6 c (F i)) h
theorem Aoa {r c i j:Nat} {F:AAb} {x:Int}:(tab r c F).set i (AB6 c fun q=>if q=j then x else F i q)=tab r c (ABy F i fun q=>if q=j then x else F i q):=AK4
theorem AB0 {α:Type} (L:List α) (n:Nat) (x:α):sI L (n:Int) x=L.set n x:=by simp [sI]
end Go.QF
namespace Go.QF
theorem ANk (F:AAb) (i:Nat) (f g:Nat->Int):ABy (ABy F i f) i g=ABy F i g:=by
 funext k;by_cases h:k=i
 ·subst h;rw [ABt,ABt]
 ·rw [AD5 _ _ h,AD5 _ _ h,AD5 _ _ h]
theorem AOl (F:AAb) (i:Nat):ABy F i (F i)=F:=by
 funext k;by_cases h:k=i
 ·subst h;rw [ABt]
 ·rw [AD5 _ _ h]
theorem AM6 (f g:Nat->Int) (n:Nat):psum (fun i=>f i + g i) n=psum f n + psum g n:=by
 induction n with
 | zero=>rfl
 | succ n ih=>simp only [psum];rw [ih];omega
theorem AF8 (c:Int) (f:Nat->Int) (n:Nat):psum (fun i=>c * f i) n=c * psum f n:=by
 induction n with
 | zero=>simp [psum]
 | succ n ih=>simp only [psum];rw [ih,Int.mul_add]
theorem AQ5 (n:Nat):psum (fun _=>0) n=0:=by
 induction n with
 | zero=>rfl
 | succ n ih=>simp only [psum];rw [ih];rfl
theorem AYx (f:AAb) (n m:Nat):psum (fun i=>psum (fun j=>f i j) m) n=psum (fun j=>psum (fun i=>f i j) n) m:=by
 induction n with
 | zero=>simp only [psum];exact (AQ5 m).symm
 | succ n ih=>
   simp only [psum]
   rw [ih,<- AM6]
theorem Aob {f g:Nat->Int} {n a:Nat} (ha:a < n) (h:∀ i,i≠a->g i=f i):psum g n=psum f n + (g a - f a):=by
  induction n with
  | zero=>omega
  | succ n ih=>
    simp only [psum]
    by_cases hn:a=n
    · subst hn;rw [ABb (f:=g) (g:=f) (fun k hk=>h k Zj)];omega
    · rw [ih Zj,h n (fun he=>hn he.symm)];omega
theorem ALd {f:Nat->Int} {n a:Nat} (ha:a < n) (h:∀ i,i≠a->f i=0):psum f n=f a:=by
 rw [Aob (f:=fun _=>0) ha h,AQ5];omega
def Eqm (m a b:Int):Prop:=a % m=b % m
theorem Eqm.refl (m a:Int):Eqm m a a:=rfl
theorem Eqm.of_eq {m a b:Int} (h:a=b):Eqm m a b:=h ▸ rfl
theorem Eqm.symm {m a b:Int} (h:Eqm m a b):Eqm m b a:=Eq.symm h
theorem Eqm.trans {m a b c:Int} (h:Eqm m a b) (k:Eqm m b c):Eqm m a c:=Eq.trans h k
theorem Eqm.add {m a b c d:Int} (h:Eqm m a b) (k:Eqm m c d):Eqm m (a + c) (b + d):=by
 unfold Eqm at *;rw [Int.add_emod,h,k,<- Int.add_emod]
theorem Eqm.sub {m a b c d:Int} (h:Eqm m a b) (k:Eqm m c d):Eqm m (a - c) (b - d):=by
 unfold Eqm at *;rw [Int.sub_emod,h,k,<- Int.sub_emod]
theorem Eqm.mul {m a b c d:Int} (h:Eqm m a b) (k:Eqm m c d):Eqm m (a * c) (b * d):=by
 unfold Eqm at *;rw [Int.mul_emod,h,k,<- Int.mul_emod]
theorem Eqm.mod (m a:Int):Eqm m (a % m) a:=Int.emod_emod_of_dvd a (Int.dvd_refl m)
theorem Eqm.psum {m:Int} {f g:Nat->Int} {n:Nat} (h:∀ i,i < n->Eqm m (f i) (g i)):Eqm m (psum f n) (psum g n):=by
 induction n with
 | zero=>rfl
 | succ n ih=>exact (ih fun i hi=>h i Zj).add (h n Zj)
theorem Eqm.zero {m a:Int} (h:Eqm m a 0):a % m=0:=by simpa [Eqm] using h
theorem Acs {m a b:Int} (h:Eqm m a b) (ha:0<=a/\a < m) (hb:0<=b/\b < m):a=b:=by
 unfold Eqm at h;rwa [Int.emod_eq_of_lt ha.1 ha.2,Int.emod_eq_of_lt hb.1 hb.2] at h
end Go.QF
namespace Go.QF
theorem Aoc {f:Nat->Int} {k r:Nat} (hk:k<=r) (h:∀ i,k<=i->i < r->f i=0):psum f r=psum f k:=by
 induction r with
 | zero=>rw [Nat.le_zero.1 hk]
 | succ r ih=>
   rcases Nat.lt_or_ge k (r + 1) with h1 | h1
   · simp only [psum]
     rw [ih Zj (fun i h2 h3=>h i h2 Zj),h r Zj Zj];omega
   · obtain rfl:k=r + 1:=by omega
     rfl
def dl (a b:Nat):Int:=if a=b then 1 else 0
def skp (i a:Nat):Nat:=if a < i then a else a + 1
def usk (i r:Nat):Nat:=if r < i then r else r - 1
def sg (i:Nat):Int:=if i % 2=0 then 1 else -1
theorem Ard (i:Nat):sg (i + 1)= -sg i:=by unfold sg;split <;> split <;> first | omega | rfl
theorem Aub (i a:Nat):skp i a≠i:=by unfold skp;split <;> omega
theorem Aod {i a n:Nat} (ha:a < n):skp i a < n + 1:=by unfold skp;split <;> omega
theorem Are {i r:Nat} (h:r≠i):skp i (usk i r)=r:=by
 unfold usk;split <;> (unfold skp;split <;> omega)
theorem Arf {i a r:Nat} (h:skp i a=r):a=usk i r:=by unfold skp at h;unfold usk;split at h <;> split <;> omega
theorem Auc {i r n:Nat} (h:r≠i) (hi:i < n + 1) (hr:r < n + 1):usk i r < n:=by unfold usk;split <;> omega
theorem ABd (F:AAb) (a:Nat) (g:Nat->Int) (i j:Nat):ABy F a g i j=if i=a then g j else F i j:=by
 unfold ABy;split <;> rfl
theorem AJ3 (F:AAb) (a b i j:Nat):AEm F a b i j=if i=b then F a j else if i=a then F b j else F i j:=by
 unfold AEm;rw [ABd,ABd]
def AFa (i:Nat) (F:AAb):AAb:=fun a b=>F (skp i a) (b + 1)
def det:Nat->(AAb)->Int
  | 0,_=>1
  | n + 1,F=>psum (fun i=>sg i * F i 0 * det n (AFa i F)) (n + 1)
theorem AB8:∀ {n:Nat} {F G:AAb},(∀ i j,i < n->j < n->F i j=G i j)->det n F=det n G:=by
 intro n
 induction n with
 | zero=>intro _ _ _;rfl
 | succ n ih=>
   intro F G h
   refine ABb fun i hi=>?_
   rw [h i 0 hi Zj,ih (F:=AFa i F) (G:=AFa i G) fun a b ha hb=>h _ _ (Aod ha) Zj]
theorem AWy {i r:Nat} {F:AAb} {g:Nat->Int} (h:r≠i):AFa i (ABy F r g)=ABy (AFa i F) (usk i r) (fun b=>g (b + 1)):=by
 funext a b;unfold AFa ABy;by_cases ha:skp i a=r
 ·rw [if_pos ha,if_pos (Arf ha)]
 ·rw [if_neg ha,if_neg (fun he=>ha (by rw [he,Are h]))]
theorem AZr {i:Nat} {F:AAb} {g:Nat->Int}:AFa i (ABy F i g)=AFa i F:=by
 funext a b;unfold AFa;rw [AD5 _ _ (Aub i a)]
theorem AUf:∀ {n:Nat} {F:AAb} {r:Nat} (u v:Nat->Int) (c d:Int),r < n->det n (ABy F r fun q=>c * u q + d * v q)=c * det n (ABy F r u) + d * det n (ABy F r v):=by
 intro n
 induction n with
 | zero=>intro _ _ _ _ _ _ h;omega
 | succ n ih=>
   intro F r u v c d hr
   simp only [det]
   rw [<- AF8,<- AF8,<- AM6]
   refine ABb fun i hi=>?_
   by_cases h:r=i
   · subst h
     simp only [AZr,ABt]
     grind
   · rw [AWy h,AWy h,AWy h,AD5 _ _ (Ne.symm h),AD5 _ _ (Ne.symm h),AD5 _ _ (Ne.symm h),ih (fun b=>u (b + 1)) (fun b=>v (b + 1)) c d (Auc h hi hr)]
     grind
theorem Aoe {f:Nat->Int} {n r s:Nat} (hr:r < n) (hs:s < n) (hrs:r≠s) (h:∀ i,i < n->i≠r->i≠s->f i=0):psum f n=f r + f s:=by
 have h1:psum f n=psum (fun i=>(if i=r then f r else 0) + (if i=s then f s else 0)) n:=ABb fun i hi=>by
   by_cases h1:i=r
   · subst h1;rw [if_pos rfl,if_neg hrs];omega
   · rw [if_neg h1]
     by_cases h2:i=s
     · subst h2;rw [if_pos rfl];omega
     · rw [if_neg h2,h i hi h1 h2];rfl
 rw [h1,AM6,ALd (f:=fun i=>if i=r then f r else 0) hr (fun i hi=>if_neg hi),ALd (f:=fun i=>if i=s then f s else 0) hs (fun i hi=>if_neg hi),if_pos rfl,if_pos rfl]
theorem Aje:∀ {n:Nat} {F:AAb} {r:Nat},r + 1 < n->(∀ q,q < n->F r q=F (r + 1) q)->det n F=0:=by
 intro n
 induction n with
 | zero=>intro _ _ h;omega
 | succ n ih=>
   intro F r hr h
   simp only [det]
   rw [Aoe (r:=r) (s:=r + 1) Zj Zj Zj]
   · have:det n (AFa r F)=det n (AFa (r + 1) F):=AB8 fun a b ha hb=>by
       unfold AFa skp
       by_cases h1:a < r
       · rw [if_pos h1,if_pos Zj]
       · rw [if_neg h1]
         by_cases h2:a < r + 1
         · rw [if_pos h2]
           obtain rfl:a=r:=by omega
           exact (h (b + 1) Zj).symm
         · rw [if_neg h2]
     rw [this,Ard,h 0 Zj]
     grind
   · intro i hi h1 h2
     rcases Nat.lt_or_ge i r with hlt | hge
     · rw [ih (F:=AFa i F) (r:=r - 1) Zj]
       · simp
       · intro q hq
         unfold AFa skp
         rw [if_neg Zj,if_neg Zj,show r - 1 + 1=r by omega]
         exact h (q + 1) Zj
     · rw [ih (F:=AFa i F) (r:=r) Zj]
       · simp
       · intro q hq
         unfold AFa skp
         rw [if_pos Zj,if_pos Zj]
         exact h (q + 1) Zj
theorem AQ6 {F:AAb} {a b:Nat} (h:a≠b) (u v:Nat->Int):ABy (ABy F a u) b v=ABy (ABy F b v) a u:=by
 funext k;unfold ABy;by_cases h1:k=a <;> by_cases h2:k=b
 ·omega
 ·simp [h1,h]
 ·simp [h2,Ne.symm h]
 ·simp [h1,h2]
theorem Afq {n:Nat} {F:AAb} {a b:Nat} (ha:a < n) (hb:b < n) (hab:a≠b) (h0:∀ G:AAb,G a=G b->det n G=0):det n (AEm F a b)= -det n F:=by
  have key:∀ u v:Nat->Int,det n (ABy (ABy F a u) b v)= -det n (ABy (ABy F a v) b u):=by
    intro u v;have h1:=h0 (ABy (ABy F a fun q=>1 * u q + 1 * v q) b fun q=>1 * u q + 1 * v q) (by rw [ABt,AD5 _ _ hab,ABt]);rw [AUf u v 1 1 hb,AQ6 hab,AQ6 hab,AUf u v 1 1 ha,AUf u v 1 1 ha,AQ6 (Ne.symm hab),AQ6 (Ne.symm hab),AQ6 (Ne.symm hab),AQ6 (Ne.symm hab)] at h1;have h2:=h0 (ABy (ABy F a u) b u) (by rw [ABt,AD5 _ _ hab,ABt]);have h3:=h0 (ABy (ABy F a v) b v) (by rw [ABt,AD5 _ _ hab,ABt]);omega
  unfold AEm;rw [key (F b) (F a),AOl];rw [show ABy F b (F b)=F from AOl F b]
theorem Ajf:∀ {d n:Nat} {F:AAb} {a:Nat},a + d + 1 < n->F a=F (a + d + 1)->det n F=0:=by
 intro d
 induction d with
 | zero=>intro n F a hn h;exact Aje hn fun q _=>by rw [h]
 | succ d ih=>
   intro n F a hn h
   have h1:=Afq (n:=n) (F:=F) (a:=a + d + 1) (b:=a + d + 1 + 1) Zj Zj Zj fun G hG=>Aje (r:=a + d + 1) Zj fun q _=>congrFun hG q
   have h2:=ih (n:=n) (F:=AEm F (a + d + 1) (a + d + 1 + 1)) (a:=a) Zj (by rw [AVu,AXi _ Zj Zj,h];rfl)
   omega
theorem AOm {n:Nat} {F:AAb} {a b:Nat} (ha:a < n) (hb:b < n) (hab:a≠b) (h:F a=F b):det n F=0:=by
 rcases Nat.lt_or_ge a b with hlt | hge
 ·exact Ajf (d:=b - a - 1) (a:=a) Zj (by rw [h];congr 1;omega)
 ·exact Ajf (d:=a - b - 1) (a:=b) Zj (by rw [<- h];congr 1;omega)
theorem AP6 {n:Nat} {F:AAb} {a b:Nat} (ha:a < n) (hb:b < n) (hab:a≠b):det n (AEm F a b)= -det n F:=
  Afq ha hb hab fun _ h=>AOm ha hb hab h
theorem Ak5 {n:Nat} {F:AAb} {r:Nat} (u:Nat->Int) (c:Int) (hr:r < n):det n (ABy F r fun q=>c * u q)=c * det n (ABy F r u):=by
 have:=AUf (F:=F) u (fun _=>0) c 0 hr;rw [show (fun q=>c * u q + 0 * (fun _:Nat=>(0:Int)) q)=fun q=>c * u q from by funext q;omega] at this;rw [this];omega
theorem AUg {n:Nat} {F:AAb} {r:Nat} (hr:r < n) (h:∀ q,q < n->F r q=0):det n F=0:=by
 have:=Ak5 (F:=F) (F r) 0 hr;rw [Int.zero_mul] at this;rw [<- this]
 exact AB8 fun i j hi hj=>by
   unfold ABy
   split
   · rename_i he;subst he;rw [h j hj];simp
   · rfl
theorem ALp {n:Nat} {F:AAb} {a b:Nat} (ha:a < n) (hb:b < n) (hab:a≠b) (q:Int):det n (ABy F a fun x=>F a x + q * F b x)=det n F:=by
 have:=AUf (F:=F) (F a) (F b) 1 q ha;rw [AOl,AOm (F:=ABy F a (F b)) ha hb hab (by rw [ABt,AD5 _ _ (Ne.symm hab)])] at this;rw [show (fun x=>F a x + q * F b x)=fun x=>1 * F a x + q * F b x from by funext x;omega,this];omega
theorem Aa8 {n:Nat} {F:AAb} {r:Nat} (hr:r < n) (y:Nat->Int) (u:AAb):∀ t,det n (ABy F r fun q=>psum (fun k=>y k * u k q) t)=psum (fun k=>y k * det n (ABy F r (u k))) t:=by
 intro t
 induction t with
 | zero=>exact AUg hr fun q _=>by rw [ABt];rfl
 | succ t ih=>
   have:=AUf (F:=F) (fun q=>psum (fun k=>y k * u k q) t) (u t) 1 (y t) hr
   simp only [psum]
   rw [<- ih,show (fun q=>psum (fun k=>y k * u k q) t + y t * u t q)=fun q=>1 * psum (fun k=>y k * u k q) t + y t * u t q from by funext q;omega,this];omega
theorem Aof {n:Nat} {F:AAb} {r:Nat} (hr:r < n) (y:Nat->Int):det n (ABy F r fun q=>psum (fun k=>y k * F k q) n)=y r * det n F:=by
  rw [Aa8 hr y F n,ABb (g:=fun k=>if k=r then y r * det n F else 0),ALd hr (fun i hi=>if_neg hi),if_pos rfl];intro k hk
  by_cases h:k=r
  · subst h;rw [if_pos rfl,AOl]
  · rw [if_neg h,AOm (F:=ABy F r (F k)) hr hk (Ne.symm h) (by rw [ABt,AD5 _ _ h])];simp
def AGx (f:Nat->Int):Nat->Int
  | 0=>1
  | n + 1=>AGx f n * f n
theorem AZg (f:Nat->Int) (n:Nat):AGx f (n + 1)=f 0 * AGx (fun i=>f (i + 1)) n:=by
 induction n with
 | zero=>simp [AGx]
 | succ n ih=>rw [AGx,ih,AGx];grind
theorem AZh {f g:Nat->Int} {n:Nat} (h:∀ i,i < n->f i=g i):AGx f n=AGx g n:=by
 induction n with
 | zero=>rfl
 | succ n ih=>rw [AGx,AGx,ih (fun i hi=>h i Zj),h n Zj]
theorem ATi:∀ {n:Nat} {F:AAb},Zc n F n->det n F=AGx (fun i=>F i i) n:=by
 intro n
 induction n with
 | zero=>intro _ _;rfl
 | succ n ih=>
   intro F h
   rw [AZg,det,ABb (g:=fun i=>if i=0 then F 0 0 * det n (AFa 0 F) else 0),ALd (a:=0) Zj (fun i hi=>if_neg hi),if_pos rfl]
   · rw [ih (F:=AFa 0 F) (fun c' i h1 h2 h3=>by unfold AFa skp;rw [if_neg Zj];exact h (c' + 1) (i + 1) Zj Zj Zj)]
     rfl
   · intro i hi
     by_cases h0:i=0
     · subst h0;simp [sg]
     · rw [if_neg h0,h 0 i Zj Zj hi];simp
theorem Acu:∀ {n:Nat} {F:AAb},(∀ i j,i < j->j < n->F i j=0)->det n F=AGx (fun i=>F i i) n:=by
 intro n
 induction n with
 | zero=>intro _ _;rfl
 | succ n ih=>
   intro F h
   rw [AZg,det,ABb (g:=fun i=>if i=0 then F 0 0 * det n (AFa 0 F) else 0),ALd (a:=0) Zj (fun i hi=>if_neg hi),if_pos rfl]
   · rw [ih (F:=AFa 0 F) (fun i j h1 h2=>by unfold AFa skp;rw [if_neg Zj];exact h (i + 1) (j + 1) Zj Zj)]
     rfl
   · intro i hi
     by_cases h0:i=0
     · subst h0;simp [sg]
     · rw [if_neg h0,AUg (F:=AFa i F) (r:=0) Zj (fun q hq=>by unfold AFa skp;rw [if_pos Zj];exact h 0 (q + 1) Zj Zj)];simp
def AWl (F:AAb) (c i:Nat) (q:Int):AAb:=AEm (ABy F c fun x=>F c x + -q * F i x) c i
theorem Ajg (F:AAb) {c i:Nat} (q:Int):AWl F c i q i=fun x=>F c x + -q * F i x:=by
 unfold AWl;rw [Aan,ABt]
theorem Arh (F:AAb) {c i:Nat} (h:c≠i) (q:Int):AWl F c i q c=F i:=by
 unfold AWl;rw [AVu,AD5 _ _ (Ne.symm h)]
theorem Afr (F:AAb) {c i k:Nat} (hc:k≠c) (hi:k≠i) (q:Int):AWl F c i q k=F k:=by
 unfold AWl;rw [AXi _ hc hi,AD5 _ _ hc]
theorem Aog {n:Nat} {F:AAb} {c i:Nat} {q:Int} (H:Zc n F c) (hci:c < i) (hi:i < n):Zc n (AWl F c i q) c:=by
 intro c' k h1 h2 h3;by_cases hk:k=i
 ·subst hk;rw [Ajg];simp [H c' c h1 h1 Zj,H c' k h1 h2 h3]
 ·by_cases Ad:k=c
  ·subst Ad;rw [Arh F hk];exact H c' i h1 Zj hi
  ·rw [Afr F Ad hk];exact H c' k h1 h2 h3
theorem Aoh {F:AAb} {c i:Nat} {q:Int} (H:Zi F c i):Zi (AWl F c i q) c i:=by
 intro k h1 h2;rw [Afr F Zj Zj];exact H k h1 h2
theorem Ajh {n:Nat} {P:(AAb)->Prop} (hadd:∀ F a b q,a < n->b < n->a≠b->P (ABy F a fun x=>F a x + q * F b x)->P F) (hswap:∀ F a b,a < n->b < n->a≠b->P (AEm F a b)->P F) (htri:∀ F,Zc n F n->P F):∀ F,P F:=by
  have key:∀ d c,c + d=n-> ∀ F,Zc n F c->P F:=by
    intro d;induction d with
    | zero=>
        intro c hc F hF;obtain rfl:c=n:=by omega
        exact htri F hF
    | succ d ih=>
      intro c hc
      have inner:∀ e i,i + e=n->c < i-> ∀ F,Zc n F c->Zi F c i->P F:=by
        intro e;induction e with
        | zero=>
            intro i hi hci F hF hz;obtain rfl:i=n:=by omega
            exact ih (c + 1) Zj F (Aiu hF hz)
        | succ e ihe=>
          intro i hi hci
          have strong:∀ k F,(F i c).natAbs=k->Zc n F c->Zi F c i->P F:=by
            intro k;induction k using Nat.strongRecOn with
            | _ k ihk=>
              intro F hk hF hz
              by_cases h0:F i c=0
              · exact ihe (i + 1) Zj Zj F hF (Ait hz h0)
              · refine hadd F c i (-(F c c / F i c)) Zj Zj Zj (hswap _ c i Zj Zj Zj ?_);refine ihk ((AWl F c i (F c c / F i c)) i c).natAbs ?_ (AWl F c i (F c c / F i c)) rfl (Aog hF hci Zj) (Aoh hz);rw [Ajg,<- hk];show (F c c + -(F c c / F i c) * F i c).natAbs < _;have h1:=Int.mul_ediv_add_emod (F c c) (F i c);have h2:F c c + -(F c c / F i c) * F i c=F c c % F i c:=by grind
                rw [h2];have h3:=Int.emod_nonneg (F c c) h0;have h4:=Int.emod_lt (F c c) h0;omega
          exact fun F=>strong _ F rfl
      exact fun F hF=>inner (n - (c + 1)) (c + 1) Zj Zj F hF fun k h1 h2=>by omega
  exact fun F=>key n 0 Zj F fun c' i h=>by omega
def ACv (n:Nat) (A B:AAb):AAb:=fun i j=>psum (fun k=>A i k * B k j) n
theorem Aoi {n:Nat} {A B:AAb} {a b:Nat} {q:Int}:ACv n (ABy A a fun x=>A a x + q * A b x) B=ABy (ACv n A B) a fun x=>ACv n A B a x + q * ACv n A B b x:=by
 funext i j;unfold ACv ABy;by_cases h:i=a
 ·simp only [if_pos h];rw [<- AF8,<- AM6];exact ABb fun k _=>by grind
 ·simp only [if_neg h]
theorem Afs {n:Nat} {A B:AAb} {a:Nat} {u:Nat->Int}:ACv n (ABy A a u) B=ABy (ACv n A B) a fun x=>psum (fun k=>u k * B k x) n:=by
 funext i j;unfold ACv ABy;by_cases h:i=a
 ·simp only [if_pos h]
 ·simp only [if_neg h]
theorem Ak6 {n:Nat} {A B:AAb} {a b:Nat}:ACv n (AEm A a b) B=AEm (ACv n A B) a b:=by
 unfold AEm;rw [Afs,Afs];rfl
theorem AUh {n:Nat} (A B:AAb):det n (ACv n A B)=det n A * det n B:=by
 refine Ajh (n:=n) (P:=fun A=>det n (ACv n A B)=det n A * det n B) (fun F a b q ha hb hab h=>?_) (fun F a b ha hb hab h=>?_) (fun F hF=>?_) A
 ·rw [Aoi,ALp ha hb hab,ALp ha hb hab] at h;exact h
 ·rw [Ak6,AP6 ha hb hab,AP6 ha hb hab] at h;rw [Int.neg_mul] at h;omega
 ·rw [ATi hF]
  have key:∀ j,j<=n->det n (fun i=>if i < j then ACv n F B i else B i)=AGx (fun i=>F i i) j * det n B:=by
    intro j
    induction j with
    | zero=>intro _;simp [AGx]
    | succ j ih=>
      intro hj
      rw [AGx,Int.mul_assoc,Int.mul_comm (F j j),<- Int.mul_assoc,<- ih Zj,Int.mul_comm]
      rw [<- Aof (F:=fun i=>if i < j then ACv n F B i else B i) (r:=j) Zj (F j)]
      refine AB8 fun i q hi hq=>?_
      unfold ABy
      by_cases h:i=j
      · subst h
        simp only [if_pos (Nat.lt_succ_self i),if_pos]
        unfold ACv
        refine ABb fun k hk=>?_
        by_cases hlt:k < i
        · rw [hF k i Zj hlt hi];simp
        · rw [if_neg hlt]
      · simp only [if_neg h]
        by_cases hlt:i < j
        · rw [if_pos hlt,if_pos Zj]
        · rw [if_neg hlt,if_neg Zj]
  rw [<- key n (Nat.le_refl _)];exact AB8 fun i j hi hj=>by rw [if_pos hi]
def trF (F:AAb):AAb:=fun i j=>F j i
theorem AYy (n:Nat):det n dl=1:=by
 rw [ATi (fun c' i h1 h2 h3=>by unfold dl;rw [if_neg Zj])]
 have:∀ k,AGx (fun i=>dl i i) k=1:=by
   intro k
   induction k with
   | zero=>rfl
   | succ k ih=>rw [AGx,ih];simp [dl]
 exact this n
theorem Ahu {n:Nat} {F:AAb} {i j:Nat} (hj:j < n):psum (fun k=>F i k * dl k j) n=F i j:=by
 rw [ALd hj (fun k hk=>by unfold dl;rw [if_neg hk];simp)];simp [dl]
theorem Ahv {n:Nat} {F:AAb} {a:Nat} (y:Nat->Int) (ha:a < n):det n (trF (ABy F a fun x=>psum (fun k=>y k * F k x) n))=det n (trF F) * det n (trF (ABy dl a y)):=by
  rw [<- AUh];refine AB8 fun i j hi hj=>?_;unfold ACv trF ABy
  by_cases h:j=a
  · simp only [if_pos h];exact ABb fun k _=>by grind
  · simp only [if_neg h];rw [ALd hj (fun k hk=>by unfold dl;rw [if_neg (Ne.symm hk)];simp)];simp [dl]
theorem AQl {n:Nat} (F:AAb):det n (trF F)=det n F:=by
 refine Ajh (n:=n) (P:=fun F=>det n (trF F)=det n F) (fun F a b q ha hb hab h=>?_) (fun F a b ha hb hab h=>?_) (fun F hF=>?_) F
 ·rw [ALp ha hb hab] at h;rw [<- h];have h1:=Ahv (n:=n) (F:=F) (a:=a) (fun k=>dl k a + q * dl k b) ha
  have h2:det n (trF (ABy dl a fun k=>dl k a + q * dl k b))=1:=by
    rw [<- AYy n,<- ALp (F:=dl) hb ha (Ne.symm hab) q]
    refine AB8 fun i j hi hj=>?_
    clear h1 h
    simp only [trF,ABd,dl]
    grind
  rw [h2,Int.mul_one] at h1;rw [<- h1];refine AB8 fun i j hi hj=>?_;unfold trF ABy;by_cases hja:j=a
  ·simp only [if_pos hja];rw [ABb (g:=fun k=>F k i * dl k a + q * (F k i * dl k b)) (fun k _=>by grind),AM6,AF8];rw [ALd (a:=a) ha (fun k hk=>by unfold dl;rw [if_neg hk];simp),ALd (a:=b) hb (fun k hk=>by unfold dl;rw [if_neg hk];simp)];simp [dl]
  ·simp only [if_neg hja]
 ·rw [AP6 ha hb hab] at h
  have h1:det n (trF (AEm F a b))=det n (trF F) * det n (AEm dl a b):=by
    rw [<- AUh]
    refine AB8 fun i j hi hj=>?_
    unfold ACv trF
    have hsym:∀ k,AEm dl a b k j=if j=a then dl k b else if j=b then dl k a else dl k j:=by
      intro k
      simp only [AJ3,dl]
      grind
    rw [ABb (g:=fun k=>F k i * dl k (if j=a then b else if j=b then a else j)) (fun k _=>by rw [hsym];grind)]
    rw [ALd (a:=if j=a then b else if j=b then a else j) (by grind) (fun k hk=>by unfold dl;rw [if_neg hk];simp)]
    simp only [dl,if_pos,Int.mul_one]
    by_cases h3:j=a
    · subst h3;rw [AVu,if_pos rfl]
    · rw [if_neg h3]
      by_cases h4:j=b
      · subst h4;rw [Aan,if_pos rfl]
      · rw [AXi _ h3 h4,if_neg h4]
  rw [AP6 ha hb hab,AYy] at h1;omega
 ·rw [ATi hF,Acu (F:=trF F) (fun i j h1 h2=>hF i j Zj h1 h2)];rfl
def shF (k:Nat) (F:AAb):AAb:=fun i j=>F (k + i) (k + j)
theorem Acv {i k a:Nat} (h:i < k + 1):skp i (k + a)=k + 1 + a:=by unfold skp;rw [if_neg Zj];omega
theorem AYz:∀ {k m:Nat} {T:AAb},(∀ i j,k<=i->i < k + m->j < k->T i j=0)->det (k + m) T=det k T * det m (shF k T):=by
  intro k;induction k with
  | zero=>
    intro m T _;have e:shF 0 T=T:=by funext i j;simp [shF]
    rw [e,Nat.zero_add];simp [det]
  | succ k ih=>
    intro m T h;rw [show k + 1 + m=(k + m) + 1 by omega];simp only [det];rw [Aoc (k:=k + 1) Zj (fun i h1 h2=>by rw [h i 0 h1 Zj Zj];simp)];rw [Int.mul_comm,<- AF8];refine ABb fun i hi=>?_
    rw [ih (T:=AFa i T) (m:=m) (fun a b ha ha2 hb=>by
      obtain ⟨c,rfl⟩:∃ c,a=k + c:=⟨a - k,Zj⟩;unfold AFa;rw [Acv hi];exact h _ _ Zj Zj Zj)]
    have e:shF k (AFa i T)=shF (k + 1) T:=by
      funext a b;unfold shF AFa;rw [Acv hi,show k + b + 1=k + 1 + b by omega]
    rw [e];grind
theorem Ad4 {n:Nat} {F:AAb} (h:∀ i,i < n + 1->F i 0=0):det (n + 1) F=0:=by
 simp only [det];rw [ABb (g:=fun _=>0) fun i hi=>by rw [h i hi];simp];exact AQ5 _
theorem Aft {n:Nat} {F:AAb} {a b:Nat} (ha:a < n) (hb:b < n) (hab:a≠b) (h:∀ i,F i a=F i b):det n F=0:=by
 rw [<- AQl];exact AOm ha hb hab (by funext i;exact h i)
theorem Ari (F:AAb):det 2 F=F 0 0 * F 1 1 - F 1 0 * F 0 1:=by
 simp [det,psum,AFa,skp,sg];grind
def bro (k i r:Nat):Nat:=if r < k then r else i
def Mn (k:Nat) (A:AAb) (i j:Nat):Int:=det (k + 1) fun r c=>A (bro k i r) (bro k j c)
theorem AO7 (A:AAb) (i j:Nat):Mn 0 A i j=A i j:=by
 simp [Mn,det,psum,bro,sg]
theorem AK0 (k:Nat) (A:AAb):Mn k A k k=det (k + 1) A:=by
 refine AB8 fun r c hr hc=>?_;have e:∀ r,r < k + 1->bro k k r=r:=fun r hr=>by unfold bro;split <;> omega
 rw [e r hr,e c hc]
theorem As8 {k:Nat} (A:AAb) (i:Nat) {j:Nat} (hj:j < k):Mn k A i j=0:=by
 refine Aft (a:=j) (b:=k) Zj Zj Zj fun r=>?_;unfold bro;simp [hj]
def cof (k:Nat) (A:AAb) (i s:Nat):Int:=det (k + 1) (ABy (fun c r=>A (bro k i r) c) k (dl s))
theorem Ad5 {n:Nat} (f:Nat->Int) {q:Nat} (hq:q < n):psum (fun s=>f s * dl s q) n=f q:=by
 rw [ALd hq (fun i hi=>by unfold dl;rw [if_neg hi,Int.mul_zero])];simp [dl]
theorem Aud (k:Nat) (A:AAb) (i j:Nat):Mn k A i j=psum (fun s=>cof k A i s * A s j) k + det k A * A i j:=by
 have h1:Mn k A i j=det (k + 1) (ABy (fun c r=>A (bro k i r) c) k fun q=>psum (fun s=>A (bro k i s) j * dl s q) (k + 1)):=by
   unfold Mn
   rw [<- AQl]
   refine AB8 fun c r hc hr=>?_
   rw [ABd,Ad5 _ hr]
   unfold trF
   split
   · subst_vars;simp [bro]
   · have:c < k:=by omega
     simp [bro,this]
 rw [h1,Aa8 Zj]
 have hk:det (k + 1) (ABy (fun c r=>A (bro k i r) c) k (dl k))=det k A:=by
   rw [AYz (k:=k) (m:=1) (T:=ABy (fun c r=>A (bro k i r) c) k (dl k)) (fun a b h1 h2 h3=>by
     obtain rfl:a=k:=by omega
     rw [ABd,if_pos rfl];unfold dl;rw [if_neg Zj])]
   have e1:det k (ABy (fun c r=>A (bro k i r) c) k (dl k))=det k A:=by
     rw [<- AQl]
     refine AB8 fun r c hr hc=>?_
     unfold trF
     rw [ABd,if_neg Zj]
     simp [bro,hr]
   have e2:det 1 (shF k (ABy (fun c r=>A (bro k i r) c) k (dl k)))=1:=by
     simp [det,psum,shF,sg,ABd,dl]
   rw [e1,e2,Int.mul_one]
 show psum (fun s=>A (bro k i s) j * det (k + 1) (ABy (fun c r=>A (bro k i r) c) k (dl s))) k + A (bro k i k) j * det (k + 1) (ABy (fun c r=>A (bro k i r) c) k (dl k))=_;rw [hk];congr 1
 ·refine ABb fun s hs=>?_;show _=cof k A i s * A s j;unfold cof;rw [Int.mul_comm];simp [bro,hs]
 ·simp [bro,Int.mul_comm]
theorem Afu (f:Nat->Int) (k m:Nat):AGx f (k + m)=AGx f k * AGx (fun i=>f (k + i)) m:=by
 induction m with
 | zero=>simp [AGx]
 | succ m ih=>rw [<- Nat.add_assoc];simp only [AGx];rw [ih];grind
theorem Acw {f:Nat->Int}:∀ {n:Nat},(∀ i,i < n->f i=1)->AGx f n=1
  | 0,_=>rfl
  | n + 1,h=>by rw [AGx,Acw fun i hi=>h i Zj,h n Zj];rfl
theorem Afv {f:Nat->Int}:∀ {n:Nat},(∀ i,i < n->f i≠0)->AGx f n≠0
  | 0,_=>by simp [AGx]
  | n + 1,h=>by rw [AGx];exact Int.mul_ne_zero (Afv fun i hi=>h i Zj) (h n Zj)
def AUw (k:Nat) (A:AAb) (ρ:Nat->Nat):AAb:=fun r s=>if r < k then dl r s else if s < k then cof k A (ρ r) s else if s=r then det k A else 0
theorem Afw {k n:Nat} {A B:AAb} {ρ γ:Nat->Nat} (hkn:k<=n) (hρ:∀ r,r < k->ρ r=r) (hB:∀ r c,B r c=A (ρ r) (γ c)) {r c:Nat} (hr:r < n):ACv n (AUw k A ρ) B r c=if r < k then B r c else Mn k A (ρ r) (γ c):=by
 unfold ACv;by_cases h:r < k
 ·rw [if_pos h,ALd hr (fun i hi=>by unfold AUw;rw [if_pos h];unfold dl;rw [if_neg (fun e=>hi e.symm),Int.zero_mul])];unfold AUw;rw [if_pos h];simp [dl]
 ·rw [if_neg h,Aud];obtain ⟨m,rfl⟩:∃ m,n=k + m:=⟨n - k,Zj⟩
  have hs:∀ t,psum (fun s=>AUw k A ρ r s * B s c) (k + t)=psum (fun s=>cof k A (ρ r) s * A s (γ c)) k + (if r < k + t then det k A * A (ρ r) (γ c) else 0):=by
    intro t
    induction t with
    | zero=>
      rw [if_neg Zj,Int.add_zero,Nat.add_zero]
      refine ABb fun s hs=>?_
      unfold AUw
      rw [if_neg h,if_pos hs,hB,hρ s hs]
    | succ t ih=>
      show psum (fun s=>AUw k A ρ r s * B s c) (k + t) + AUw k A ρ r (k + t) * B (k + t) c=_
      rw [ih]
      have e:AUw k A ρ r (k + t)=if k + t=r then det k A else 0:=by unfold AUw;rw [if_neg h,if_neg Zj]
      rw [e,hB]
      rcases Nat.lt_trichotomy r (k + t) with h1 | h1 | h1
      · rw [if_pos h1,if_neg Zj,if_pos Zj];simp
      · subst h1;rw [if_neg Zj,if_pos rfl,if_pos Zj];omega
      · rw [if_neg Zj,if_neg Zj,if_neg Zj];simp
  rw [hs,if_pos hr]
theorem Afx {k m:Nat} {A:AAb} {ρ:Nat->Nat}:det (k + m) (AUw k A ρ)=AGx (fun _=>det k A) m:=by
 rw [Acu (fun i j hij hj=>by
   unfold AUw
   split
   · unfold dl;rw [if_neg Zj]
   · rw [if_neg Zj,if_neg Zj]),Afu,Acw,Int.one_mul]
 ·refine AZh fun i hi=>?_;unfold AUw;rw [if_neg Zj,if_neg Zj,if_pos rfl]
 ·intro i hi;unfold AUw;rw [if_pos hi];simp [dl]
theorem AV4 {k:Nat} {A:AAb} (h0:det k A≠0) (i j:Nat):Mn k A k k * Mn k A i j - Mn k A i k * Mn k A k j=det k A * Mn (k + 1) A i j:=by
  have h1:=AUh (n:=k + 2) (AUw k A (bro (k + 1) i)) fun r c=>A (bro (k + 1) i r) (bro (k + 1) j c)
  have hm:∀ r c,r < k + 2->ACv (k + 2) (AUw k A (bro (k + 1) i)) (fun r c=>A (bro (k + 1) i r) (bro (k + 1) j c)) r c=if r < k then A (bro (k + 1) i r) (bro (k + 1) j c) else Mn k A (bro (k + 1) i r) (bro (k + 1) j c):=fun r c hr=>
    Afw (k:=k) (n:=k + 2) (A:=A) (B:=fun r c=>A (bro (k + 1) i r) (bro (k + 1) j c)) (ρ:=bro (k + 1) i) (γ:=bro (k + 1) j) Zj (fun r hr=>by unfold bro;rw [if_pos Zj]) (fun r c=>rfl) hr
  rw [Afx,AYz (k:=k) (m:=2) (fun a b ha ha2 hb=>by
    rw [hm a b ha2,if_neg Zj,show bro (k + 1) j b=b by unfold bro;rw [if_pos Zj]];exact As8 _ _ hb)] at h1
  have e1:det k (ACv (k + 2) (AUw k A (bro (k + 1) i)) fun r c=>A (bro (k + 1) i r) (bro (k + 1) j c))=det k A:=by
    refine AB8 fun r c hr hc=>?_;rw [hm r c Zj,if_pos hr];simp only [bro];rw [if_pos Zj,if_pos Zj]
  have b0:∀ q,bro (k + 1) q (k + 0)=k:=fun q=>by unfold bro;rw [if_pos Zj];rfl
  have b1:∀ q,bro (k + 1) q (k + 1)=q:=fun q=>by unfold bro;rw [if_neg Zj]
  rw [e1,Ari] at h1;simp only [shF] at h1;rw [hm _ _ Zj,hm _ _ Zj,hm _ _ Zj,hm _ _ Zj,if_neg Zj,if_neg Zj,if_neg Zj,if_neg Zj,b0,b0,b1,b1] at h1;have e2:AGx (fun _=>det k A) 2=det k A * det k A:=by simp [AGx]
  have e3:(det (k + 2) fun r c=>A (bro (k + 1) i r) (bro (k + 1) j c))=Mn (k + 1) A i j:=rfl;rw [e2,e3,Int.mul_assoc] at h1;exact Int.eq_of_mul_eq_mul_left h0 h1
theorem Afy {k n:Nat} {A:AAb} (h0:det k A≠0) (hk:k < n) (hz:∀ i,k<=i->i < n->Mn k A i k=0):det n A=0:=by
  obtain ⟨m,rfl⟩:∃ m,n=k + (m + 1):=⟨n - k - 1,Zj⟩;have h1:=AUh (n:=k + (m + 1)) (AUw k A id) A
  have hm:∀ r c,r < k + (m + 1)->ACv (k + (m + 1)) (AUw k A id) A r c=if r < k then A r c else Mn k A r c:=fun r c hr=>
    Afw (k:=k) (n:=k + (m + 1)) (A:=A) (B:=A) (ρ:=id) (γ:=id) Zj (fun r hr=>rfl) (fun r c=>rfl) hr
  rw [Afx,AYz (k:=k) (m:=m + 1) (fun a b ha ha2 hb=>by rw [hm a b ha2,if_neg Zj];exact As8 _ _ hb),Ad4 (F:=shF k _) (fun i hi=>by
    unfold shF;rw [hm _ _ Zj,if_neg Zj];exact hz _ Zj Zj),Int.mul_zero] at h1
  rcases Int.mul_eq_zero.1 h1.symm with h2 | h2
  · exact absurd h2 (Afv fun i hi=>h0)
  · exact h2
def dBd (m:Nat):Nat->Nat
  | 0=>1
  | n + 1=>(n + 1) * m * dBd m n
theorem psum_abs {f:Nat->Int} {B:Nat}:∀ {n:Nat},(∀ i,i < n->(f i).natAbs<=B)->(psum f n).natAbs<=n * B
  | 0,_=>by simp [psum]
  | n + 1,h=>by
    have h1:=psum_abs (n:=n) fun i hi=>h i Zj
    have h2:=h n Zj
    have h3:=Int.natAbs_add_le (psum f n) (f n)
    show (psum f n + f n).natAbs<=_
    rw [Nat.add_mul,Nat.one_mul]
    omega
theorem AXw {m:Nat}:∀ {n:Nat} {F:AAb},(∀ i j,(F i j).natAbs<=m)->(det n F).natAbs<=dBd m n
  | 0,_,_=>by simp [det,dBd]
  | n + 1,F,h=>by
    have h1:=psum_abs (f:=fun i=>sg i * F i 0 * det n (AFa i F)) (B:=m * dBd m n) (n:=n + 1) fun i hi=>by
      have e:=AXw (n:=n) (F:=AFa i F) fun a b=>h _ _
      have es:(sg i).natAbs=1:=by unfold sg;split <;> rfl
      rw [Int.natAbs_mul,Int.natAbs_mul,es,Nat.one_mul]
      exact Nat.mul_le_mul (h i 0) e
    rw [dBd,Nat.mul_assoc]
    exact h1
theorem Arj {k n p:Nat} {A:AAb} (hp:k < p) {i j:Nat} (hi:k<=i):Mn k (AEm A p k) i j=Mn k A (if i=k then p else if i=p then k else i) j:=by
 refine AB8 fun r c hr hc=>?_;rw [AJ3];unfold bro;by_cases h:r < k
 ·rw [if_pos h,if_pos h,if_neg Zj,if_neg Zj]
 ·rw [if_neg h,if_neg h];split
  ·rfl
  ·split <;> rfl
theorem Ad6 {k p:Nat} {A:AAb} (hp:k < p):det k (AEm A p k)=det k A:=by
 refine AB8 fun r c hr hc=>?_;rw [AJ3,if_neg Zj,if_neg Zj]
def sgB (neg:Bool):Int:=if neg then -1 else 1
def AWf (m:Nat) (A0:AAb) (n k:Nat) (F:AAb) (last:Int) (neg:Bool):Prop:=
  ∃ A:AAb,det n A=sgB neg * det n A0/\(∀ i j,k<=i->i < n->k<=j->j < n->F i j=Mn k A i j)/\last=det k A/\last≠0/\ ∀ i j,(A i j).natAbs<=m
theorem Aa9 {m n:Nat} {A0:AAb} (h:∀ i j,(A0 i j).natAbs<=m):AWf m A0 n 0 A0 1 false:=
  ⟨A0,by simp [sgB],fun i j _ _ _ _=>(AO7 A0 i j).symm,rfl,Zl,h⟩
theorem Acx {m n k p:Nat} {A0 F:AAb} {last:Int} {neg:Bool} (H:AWf m A0 n k F last neg) (hkp:k < p) (hp:p < n):AWf m A0 n k (AEm F p k) last (!neg):=by
 obtain ⟨A,h1,h2,h3,h4,h5⟩:=H;refine ⟨AEm A p k,?_,fun i j hi hin hj hjn=>?_,by rw [Ad6 hkp];exact h3,h4,fun i j=>?_⟩
 ·rw [AP6 hp Zj Zj,h1];cases neg <;> simp [sgB]
 ·rw [Arj (n:=n) hkp hi,AJ3];split
  ·rw [h2 p j Zj hp hj hjn]
  ·split
   ·rw [h2 k j Zj Zj hj hjn]
   ·rw [h2 i j hi hin hj hjn]
 ·rw [AJ3];split
  ·exact h5 _ _
  ·split <;> exact h5 _ _
def bQ (k:Nat) (F:AAb) (last:Int) (r c:Nat):Int:=(F k k * F r c - F r k * F k c) / last
def bF (k:Nat) (F:AAb) (last:Int) (i j:Nat):AAb:=fun r c=>if k < r/\k < c/\(r < i∨r=i/\c < j) then bQ k F last r c else F r c
theorem Aba (k:Nat) (F:AAb) (last:Int):bF k F last (k + 1) (k + 1)=F:=by
 funext r c;unfold bF;rw [if_neg Zj]
theorem Ahw (k n:Nat) (F:AAb) (last:Int) (i:Nat) {r c:Nat} (hc:c < n):bF k F last i n r c=bF k F last (i + 1) (k + 1) r c:=by
 unfold bF;by_cases h:k < r/\k < c/\(r < i∨r=i/\c < n)
 ·rw [if_pos h,if_pos Zj]
 ·rw [if_neg h,if_neg Zj]
theorem Ahx (k:Nat) (F:AAb) (last:Int) {i j:Nat} (hi:k < i) (hj:k < j):(ABy (bF k F last i j) i fun c=>if c=j then bQ k F last i j else bF k F last i j i c)=bF k F last i (j + 1):=by
 funext r c;rw [ABd];split
 ·subst_vars
  split
  ·subst_vars;unfold bF;rw [if_pos Zj]
  ·unfold bF;by_cases h:k < r/\k < c/\(r < r∨r=r/\c < j)
   ·rw [if_pos h,if_pos Zj]
   ·rw [if_neg h,if_neg Zj]
 ·unfold bF;by_cases h:k < r/\k < c/\(r < i∨r=i/\c < j)
  ·rw [if_pos h,if_pos Zj]
  ·rw [if_neg h,if_neg Zj]
theorem Abb (k:Nat) (F:AAb) (last:Int) (i j c:Nat):bF k F last i j k c=F k c:=by unfold bF;rw [if_neg Zj]
theorem Aok (k:Nat) (F:AAb) (last:Int) (i j r:Nat):bF k F last i j r k=F r k:=by unfold bF;rw [if_neg Zj]
theorem Aol (k:Nat) (F:AAb) (last:Int) (i j:Nat):bF k F last i j i j=F i j:=by unfold bF;rw [if_neg Zj]
theorem As9 {m n k:Nat} {A0 F:AAb} {last:Int} {neg:Bool} (H:AWf m A0 n k F last neg) (hk:k < n):∃ A,(∀ i j,(A i j).natAbs<=m)/\det n A=sgB neg * det n A0/\F k k=det (k + 1) A/\ ∀ i j,k<=i->i < n->k<=j->j < n->F i j=Mn k A i j/\bQ k F last i j=Mn (k + 1) A i j:=by
 obtain ⟨A,h1,h2,h3,h4,h5⟩:=H;refine ⟨A,h5,h1,by rw [h2 k k Zj hk Zj hk,AK0],fun i j hi hin hj hjn=>⟨h2 i j hi hin hj hjn,?_⟩⟩;unfold bQ;rw [h2 k k Zj hk Zj hk,h2 i j hi hin hj hjn,h2 i k hi hin Zj hk,h2 k j Zj hk hj hjn,AV4 (by rw [<- h3];exact h4),<- h3,Int.mul_ediv_cancel_left _ h4]
theorem Acy {m n k:Nat} {A0 F:AAb} {last:Int} {neg:Bool} (H:AWf m A0 n k F last neg) (hk:k < n) (h0:F k k≠0):AWf m A0 n (k + 1) (bF k F last n (k + 1)) (F k k) neg:=by
 obtain ⟨A,h5,h1,h6,h2⟩:=As9 H hk;refine ⟨A,h1,fun i j hi hin hj hjn=>?_,h6,h0,h5⟩;unfold bF;rw [if_pos Zj];exact (h2 i j Zj hin Zj hjn).2
theorem Acz {m n k:Nat} {A0 F:AAb} {last:Int} {neg:Bool} (H:AWf m A0 n k F last neg) (hk:k < n) (hz:∀ i,k<=i->i < n->F i k=0):det n A0=0:=by
 obtain ⟨A,h1,h2,h3,h4,h5⟩:=H;have h:=Afy (A:=A) (by rw [<- h3];exact h4) hk fun i hi hin=>by rw [<- h2 i k hi hin Zj hk];exact hz i hi hin
 rw [h1] at h;rcases Int.mul_eq_zero.1 h with h6 | h6
 ·cases neg <;> simp [sgB] at h6
 ·exact h6
theorem Afz {m n:Nat} {A0 F:AAb} {last:Int} {neg:Bool} (H:AWf m A0 n n F last neg):det n A0=if neg then -last else last:=by
 obtain ⟨A,h1,h2,h3,h4,h5⟩:=H;rw [<- h3] at h1;rw [h1];cases neg
 ·simp [sgB]
 ·simp [sgB]
theorem Ahy {m k:Nat} {A:AAb} (h:∀ i j,(A i j).natAbs<=m) (i j:Nat):(Mn k A i j).natAbs<=dBd m (k + 1):=AXw fun r c=>h _ _
theorem AO8 {m:Nat} (hm:1<=m) {a b:Nat} (h:a<=b):dBd m a<=dBd m b:=by
 induction h with
 | refl=>exact Nat.le_refl _
 | step h ih=>
   refine Nat.le_trans ih ?_
   rw [dBd]
   exact Nat.le_mul_of_pos_left _ (Nat.mul_pos Zj Zj)
theorem Af0 {m n k:Nat} {A0 F:AAb} {last:Int} {neg:Bool} (hm:1<=m) (H:AWf m A0 n k F last neg) (hk:k < n) {i j:Nat} (hi:k<=i) (hin:i < n) (hj:k<=j) (hjn:j < n):(F i j).natAbs<=dBd m n/\(bQ k F last i j).natAbs<=dBd m (n + 1):=by
  obtain ⟨A,h5,h1,h6,h2⟩:=As9 H hk;obtain ⟨h7,h8⟩:=h2 i j hi hin hj hjn;rw [h7,h8];exact ⟨Nat.le_trans (Ahy h5 _ _) (AO8 hm Zj),Nat.le_trans (Ahy h5 _ _) (AO8 hm Zj)⟩
theorem Ac0 {m n k:Nat} {A0 F:AAb} {last:Int} {neg:Bool} (hm:1<=m) (H:AWf m A0 n k F last neg) (hk:k<=n):last≠0/\last.natAbs<=dBd m n:=by
 obtain ⟨A,h1,h2,h3,h4,h5⟩:=H;exact ⟨h4,by rw [h3];exact Nat.le_trans (AXw h5) (AO8 hm hk)⟩
end Go.QF
namespace Go.Proofs.YtdkldlbgcfpglaaGreatDoor
open Go Go.QF
theorem Ark {α:Type} {i n:Nat} {a b c:α} (h:i < n):(List.replicate i a ++ List.replicate (n - i) b).set i c=List.replicate i a ++ (c :: List.replicate (n - i - 1) b):=by
 rw [List.set_append_right _ _ AA4,List.length_replicate,Nat.sub_self,show n - i=(n - i - 1) + 1 by omega,List.replicate_succ];rfl
theorem AZ0 {fuel n m:Nat} (hn:n<=100000000) (hm:m<=100000000) (hf:n < fuel):ADm fuel n m=some (List.replicate n (List.replicate m 0)):=by
 apply ok_eq;unfold ADm;refine AB5 Zj (Zr (ABa (fun i s=>s=((i:Int),List.replicate i (List.replicate m 0) ++ List.replicate (n - i) [])) n (Q:=(· =List.replicate n (List.replicate m 0))) AA4 hf fun i s hi hI=>?_) fun x hx=>Zn hx);subst hI;unfold AK7;dsimp only;rw [List.length_replicate,Int.toNat_natCast];refine AAh (fun h=>AB5 Zj (AAu (n:=i) (x:=[]) ?_ rfl (Zn ⟨Zj,?_⟩))) (fun h=>Zn ?_)
 ·rw [List.getElem?_append_right AA4,List.length_replicate,Nat.sub_self,List.getElem?_replicate,if_pos Zj]
 ·rw [wk Zj,AB0,Int.toNat_natCast,Ark Zj];congr 1;rw [show n - (i + 1)=n - i - 1 by omega,List.replicate_succ'];simp
 ·obtain rfl:i=n:=by omega
  simp
theorem Ad7 {α:Type} {A:List (List α)} {i:Nat} {row:List α} (hi:i < A.length):(A.take i ++ row :: List.replicate (A.length - i - 1) []).set i=fun r=>A.take i ++ r :: List.replicate (A.length - i - 1) []:=by
 funext r;rw [List.set_append_right _ _ (by simp;omega),List.length_take,Nat.min_eq_left Zj,Nat.sub_self];rfl
theorem Ad8 {fuel:Nat} {A:List (List Int)} (hn:A.length<=100000000) (hm:∀ z∈A,z.length<=100000000/\z.length < fuel) (hf:A.length < fuel):AF4 fuel A=some A:=by
 apply ok_eq;unfold AF4;refine AB5 Zj (Zr (ABa (fun i s=>s=((i:Int),A.take i ++ List.replicate (A.length - i) [])) A.length (Q:=(· =A)) AA4 hf fun i s hi hI=>?_) fun x hx=>Zn hx);subst hI;unfold AK9;dsimp only;refine AAh (fun h=>?_) (fun h=>Zn ?_)
 ·have hi':i < A.length:=by omega
  obtain ⟨row,hrow⟩:∃ row,A[i]? =some row:=⟨A[i],List.getElem?_eq_getElem hi'⟩;have hr:=hm row (List.mem_of_getElem? hrow);refine AAu hrow rfl (Zr (ABa (fun j s=>s=((j:Int),A.take i ++ row.take j :: List.replicate (A.length - i - 1) [])) row.length (Q:=(· =A.take i ++ row :: List.replicate (A.length - i - 1) [])) ?_ hr.2 fun j s hj hJ=>?_) fun x hx=>Zn ⟨hi',?_⟩)
  ·rw [show A.length - i=(A.length - i - 1) + 1 by omega,List.replicate_succ];simp
  ·subst hJ;unfold AK8;dsimp only;refine AAh (fun h2=>?_) (fun h2=>Zn ?_)
   ·obtain ⟨x,hx⟩:∃ x,row[j]? =some x:=⟨row[j]'Zj,List.getElem?_eq_getElem _⟩;refine AAu hx rfl (AAu (n:=i) (x:=row.take j) ?_ rfl (Zr (Q:=(· =x)) ⟨x,rfl,rfl⟩ fun y hy=>AB5 ?_ (Zn ⟨Zj,?_⟩)))
    ·rw [List.getElem?_append_right (by simp;omega),List.length_take,Nat.min_eq_left Zj,Nat.sub_self];rfl
    ·rw [List.length_take];omega
    ·subst hy;rw [wk Zj,AB0,Ad7 hi',List.take_add_one,hx];rfl
   ·obtain rfl:j=row.length:=by omega
    rw [List.take_length]
  ·subst hx;rw [wk Zj,List.take_add_one,hrow,show A.length - (i + 1)=A.length - i - 1 by omega];simp
 ·obtain rfl:i=A.length:=by omega
  simp
def okM (A:List (List Int)):Bool:=decide (1<=A.length/\A.length<=16/\ ∀ z∈A,1<=z.length/\z.length<=16/\z.length=ANg A)
theorem AQ7 {A:List (List Int)} {z:List Int} (h:A[0]? =some z):ANg A=z.length:=by unfold ANg;rw [h];rfl
theorem AZi {fuel:Nat} {A:List (List Int)} (hr:∀ z∈A,∀ x∈z,-9223372036854775808<=x/\x<=9223372036854775807) (hf:17 < fuel):ACc fuel A=some (if okM A then (A,true) else ([],false)):=by
 apply ok_eq;unfold ACc
 have key:∀ R:List (List Int) × Bool->Prop,(okM A=false->R ([],false))->(okM A=true->R (A,true))->Ok (ACc fuel A) R:=by
   intro R hF hT
   unfold ACc
   refine Zr (Q:=fun ex=>match ex with | .inl e=>e=([],false)/\okM A=false | .inr _=>1<=A.length/\A.length<=16) (AAh (fun h=>Zn ⟨rfl,by unfold okM;rw [decide_eq_false_iff_not];omega⟩) fun h=>AAh (fun h2=>Zn ⟨rfl,by unfold okM;rw [decide_eq_false_iff_not];omega⟩) fun h2=>Zn ⟨Zj,Zj⟩) fun ex hex=>?_
   cases ex with
   | inl e=>obtain ⟨rfl,h⟩:=hex;exact Zn (hF h)
   | inr u=>
     dsimp only at hex ⊢
     obtain ⟨z0,Ab⟩:∃ z,A[0]? =some z:=⟨A[0]'Zj,List.getElem?_eq_getElem _⟩
     have hc:=AQ7 Ab
     refine Zr (ABa (fun i (s:Int)=>s=(i:Int)/\ ∀ z∈A.take i,1<=z.length/\z.length<=16/\z.length=ANg A) A.length (Q:=fun ex=>match ex with | .inl e=>e=([],false)/\okM A=false | .inr _=>okM A=true) ⟨rfl,AA4⟩ Zj fun i s hi hI=>?_) fun ex Ac=>?_
     · obtain ⟨rfl,hI⟩:=hI
       unfold AIh
       refine AAh (fun h=>?_) (fun h=>Zn ?_)
       · have hi':i < A.length:=by omega
         obtain ⟨row,hrow⟩:∃ row,A[i]? =some row:=⟨A[i],List.getElem?_eq_getElem hi'⟩
         have bad: ¬ (1<=row.length/\row.length<=16/\row.length=ANg A)->okM A=false:=fun hb=>by
           unfold okM;rw [decide_eq_false_iff_not];exact fun h=>hb (h.2.2 row (List.mem_of_getElem? hrow))
         refine AAu hrow rfl (AAh (fun h1=>Zn ⟨rfl,bad Zj⟩) fun h1=>AAh (fun h2=>Zn ⟨rfl,bad Zj⟩) fun h2=>AAu Ab rfl (AAh (fun h3=>Zn ⟨rfl,bad Zj⟩) fun h3=>Zn ⟨hi',wk Zj,?_⟩))
         rw [List.take_add_one,hrow]
         intro z hz
         rcases List.mem_append.1 hz with hz | hz
         · exact hI z hz
         · rw [show z=row by simpa using hz];omega
       · obtain rfl:i=A.length:=by omega
         rw [List.take_length] at hI
         unfold okM;rw [decide_eq_true_eq];exact ⟨hex.1,hex.2,hI⟩
     · cases ex with
       | inl e=>obtain ⟨rfl,h⟩:=Ac;exact Zn (hF h)
       | inr u=>
         dsimp only at Ac ⊢
         have hv:=Ac
         unfold okM at hv;rw [decide_eq_true_eq] at hv
         have hcA:∀ z∈A,z.length=ANg A:=fun z hz=>(hv.2.2 z hz).2.2
         have Ag:1<=ANg A/\ANg A<=16:=by have:=hv.2.2 z0 (List.mem_of_getElem? Ab);omega
         refine AAu Ab rfl (Zr (ABc (AZ0 Zj Zj Zj)) fun O hO=>?_)
         subst hO
         rw [<- hc]
         refine Zr (ABa (fun i s=>s=((i:Int),A.take i ++ List.replicate (A.length - i) (List.replicate (ANg A) 0))) A.length (Q:=(· =A)) AA4 Zj fun i s hi hI=>?_) fun x hx=>Zn (hx ▸ hT Ac)
         subst hI
         unfold AIg
         dsimp only
         refine AAh (fun h=>?_) (fun h=>Zn ?_)
         · have hi':i < A.length:=by omega
           obtain ⟨row,hrow⟩:∃ row,A[i]? =some row:=⟨A[i],List.getElem?_eq_getElem hi'⟩
           have hrl:=hcA row (List.mem_of_getElem? hrow)
           refine AAu hrow rfl (Zr (ABa (fun j s=>s=((j:Int),A.take i ++ (row.take j ++ List.replicate (ANg A - j) 0) :: List.replicate (A.length - i - 1) (List.replicate (ANg A) 0))) row.length (Q:=(· =A.take i ++ row :: List.replicate (A.length - i - 1) (List.replicate (ANg A) 0))) ?_ Zj fun j s hj hJ=>?_) fun x hx=>Zn ⟨hi',?_⟩)
           · rw [show A.length - i=(A.length - i - 1) + 1 by omega,List.replicate_succ];simp
           · subst hJ
             unfold AIf
             dsimp only
             refine AAh (fun h2=>?_) (fun h2=>Zn ?_)
             · obtain ⟨x,hx⟩:∃ x,row[j]? =some x:=⟨row[j]'Zj,List.getElem?_eq_getElem _⟩
               have hxr:=hr row (List.mem_of_getElem? hrow) x (List.mem_of_getElem? hx)
               refine AAu (n:=i) (x:=row.take j ++ List.replicate (ANg A - j) 0) ?_ rfl (AAu hrow rfl (AAu hx rfl (Zr (Q:=(· =x)) ⟨x,if_pos hxr,rfl⟩ fun y hy=>AAu (n:=j) (x:=0) ?_ rfl (Zn ⟨Zj,?_⟩))))
               · rw [List.getElem?_append_right (by simp;omega),List.length_take,Nat.min_eq_left Zj,Nat.sub_self];rfl
               · rw [List.getElem?_append_right (by simp;omega),List.length_take,Nat.min_eq_left Zj,Nat.sub_self,List.getElem?_replicate,if_pos Zj]
               · subst hy
                 rw [wk Zj,AB0,AB0]
                 congr 1
                 rw [List.set_append_right _ _ (by simp;omega),List.length_take,Nat.min_eq_left Zj,Nat.sub_self,List.set_cons_zero]
                 congr 2
                 rw [List.set_append_right _ _ (by simp;omega),List.length_take,Nat.min_eq_left Zj,Nat.sub_self,show ANg A - j=(ANg A - (j + 1)) + 1 by omega,List.replicate_succ,List.set_cons_zero,List.take_add_one,hx]
                 simp
             · obtain rfl:j=row.length:=by omega
               rw [List.take_length,show ANg A - row.length=0 by omega];simp
           · subst hx
             rw [wk Zj,List.take_add_one,hrow,show A.length - (i + 1)=A.length - i - 1 by omega]
             simp
         · obtain rfl:i=A.length:=by omega
           simp
 have:=key (fun r=>r=if okM A then (A,true) else ([],false)) (fun h=>by rw [h];rfl) (fun h=>by rw [h];rfl);unfold ACc at this;exact this
theorem Ata {fuel:Nat} {A:List (List Int)} (hr:∀ z∈A,∀ x∈z,-9223372036854775808<=x/\x<=9223372036854775807) (hf:17 < fuel):ADt fuel A=some (if okM A then A else []):=by
 unfold ADt;rw [AZi hr hf];cases okM A <;> rfl
def m63:Nat:=9223372036854775808
def AUi:Nat:=dBd m63 17
theorem Ad9:2 * (AUi * AUi) < AC3:=by decide
theorem Aom:1<=AUi:=by decide
theorem Abc {a b:Nat} (ha:a<=AUi) (hb:b<=AUi):a * b < AC3:=by
 have:=Nat.mul_le_mul ha hb;have:=Ad9;omega
theorem Aon {a:Nat} (ha:a<=AUi):a < AC3:=by
 have h1:=Ad9;have h2:=Nat.mul_le_mul Aom (Nat.le_refl AUi);omega
theorem Aoo {n:Nat} (hn:n<=16):dBd m63 n<=AUi/\dBd m63 (n + 1)<=AUi:=⟨AO8 Zl Zj,AO8 Zl Zj⟩
theorem AXx {z:Int}:AGc z=0↔z=0:=by
 unfold AGc;split
 ·omega
 ·split <;> omega
theorem Af1 {fuel:Nat} {a b:Int} (ha:a.natAbs<=AUi) (hb:b.natAbs<=AUi):ARp fuel a b=some (a * b):=if_pos (Abc ha hb)
theorem Af2 {a b:Int} (ha:a.natAbs<=AUi) (hb:b.natAbs<=AUi):(a * b).natAbs < AC3:=by rw [Int.natAbs_mul];exact Abc ha hb
theorem Arm {a b c d:Int} (ha:a.natAbs<=AUi) (hb:b.natAbs<=AUi) (hc:c.natAbs<=AUi) (hd:d.natAbs<=AUi):(a * b - c * d).natAbs < AC3:=by
 have h1:=Nat.mul_le_mul ha hb;have h2:=Nat.mul_le_mul hc hd;rw [<- Int.natAbs_mul] at h1 h2;have:=Ad9;omega
theorem AWz {r c i j:Nat} {F:AAb} {x:Int}:sI (tab r c F) (i:Int) (sI (AB6 c (F i)) (j:Int) x)=tab r c (ABy F i fun q=>if q=j then x else F i q):=by
 rw [AB0,AB0,AD7];exact Aoa
theorem Auf {fuel n:Nat} {F:AAb} (hn:n<=16) (hb:∀ i j,(F i j).natAbs<=m63) (hf:17 < fuel):ABf fuel (tab n n F)=some (det n F):=by
 apply ok_eq;unfold ABf;refine Zr (ABc (Ad8 (by rw [AAt];omega) (fun z hz=>by rw [AXh z hz];omega) (by rw [AAt];omega))) fun A hA=>?_;subst hA;refine Zr (Q:=(· =1)) ⟨1,if_pos Zj,rfl⟩ fun one h1=>?_;subst h1;obtain ⟨hD,Ap⟩:=Aoo hn;refine Zr (ABa (fun k s=> ∃ G last neg,s=(neg,((k:Int),tab n n G,last))/\AWf m63 F n k G last neg) n (Q:=fun ex=>match ex with | .inl e=>e=det n F | .inr (neg,last)=>det n F=if neg then -last else last) ⟨F,1,false,rfl,Aa9 hb⟩ Zj fun k s hk hI=>?_) fun ex hex=>?_
 ·obtain ⟨G,last,neg,rfl,hB⟩:=hI;unfold AEu;dsimp only;rw [AAt];refine AAh (fun h=>?_) (fun h=>Zn ?_)
  ·have hk':k < n:=by omega
   refine Zr (Q:=fun ex=>match ex with | .inl e=>e=det n F | .inr (neg',a',last')=> ∃ G',a'=tab n n G'/\AWf m63 F n (k + 1) G' last' neg') ?_ fun ex hex=>?_
   ·refine Zr (Q:=fun (e:Int)=> ∃ p:Nat,e=p/\k<=p/\p<=n/\(∀ i,k<=i->i < p->G i k=0)/\(p < n->G p k≠0)) (Zr (ABa (fun j (s:Int)=>s=((k + j:Nat):Int)/\k + j<=n/\ ∀ i,k<=i->i < k + j->G i k=0) (n - k) (Q:=fun (e:Int)=> ∃ p:Nat,e=p/\k<=p/\p<=n/\(∀ i,k<=i->i < p->G i k=0)/\(p < n->G p k≠0)) ⟨rfl,Zj,fun i h1 h2=>by omega⟩ Zj fun j s hj hJ=>?_) fun e he=>Zn he) fun e he=>?_
    ·obtain ⟨rfl,hjn,hz⟩:=hJ;unfold AEr;rw [AAt];refine Zr (Q:=fun ex=>match ex with | .inl _=>k + j < n/\G (k + j) k=0 | .inr _=>k + j < n->G (k + j) k≠0) (AAh (fun h2=>AAu (AA1 Zj) rfl (AAu (AAq Zj) rfl (Zr (ABc (a:=AGc (G (k + j) k)) rfl) fun sg hsg=>AAh (fun h3=>Zn ⟨Zj,?_⟩) fun h3=>Zn fun _=>?_))) fun h2=>Zn fun h3=>by omega) fun ex hex=>?_
     ·subst hsg;exact AXx.1 h3
     ·subst hsg;exact fun h4=>h3 (AXx.2 h4)
     ·cases ex with
      | inl u=>exact Zn ⟨Zj,by rw [wk Zj];omega,Zj,fun i h1 h2=>by
          rcases Nat.lt_or_ge i (k + j) with h3 | h3
          · exact hz i h1 h3
          · obtain rfl:i=k + j:=by omega
            exact hex.2⟩
      | inr u=>exact Zn ⟨k + j,rfl,Zj,hjn,hz,hex⟩
    ·obtain ⟨p,rfl,hkp,hpn,hz,hp⟩:=he;refine AAh (fun h2=>Zn ?_) (fun h2=>?_)
     ·obtain rfl:p=n:=by omega
      exact (Acz hB hk' hz).symm
     ·have hp':p < n:=by omega
      refine Zr (Q:=fun (r:Bool × List (List Int))=> ∃ G',r.2=tab n n G'/\AWf m63 F n k G' last r.1/\G' k k≠0) (AAh (fun h3=>AAu (AA1 Zj) rfl (AAu (AA1 Zj) rfl (Zn ⟨AEm G p k,?_,Acx hB Zj hp',?_⟩))) fun h3=>Zn ⟨G,rfl,hB,?_⟩) fun r hr=>?_
      ·dsimp only;rw [AB0,AB0];show ((tab n n G).set p (AB6 n (G k))).set k (AB6 n (G p))=_;rw [show AB6 n (G k)=(List.range n).map (G k) from rfl,show AB6 n (G p)=(List.range n).map (G p) from rfl,AK4,AK4];rfl
      ·rw [AJ3,if_pos rfl];exact hp hp'
      ·obtain rfl:p=k:=by omega
       exact hp hp'
      ·obtain ⟨Aq,a2⟩:=r;obtain ⟨G2,Ag,Af,hne⟩:=hr;dsimp only at Ag Af ⊢;subst Ag;have hlast:=Ac0 Zl Af Zj;have habs:∀ i j,k<=i->i < n->k<=j->j < n->(G2 i j).natAbs<=AUi:=fun i j h1 h2 h3 h4=>Nat.le_trans (Af0 Zl Af hk' h1 h2 h3 h4).1 hD;have hl':last.natAbs<=AUi:=Nat.le_trans hlast.2 hD;rw [wk Zj];refine Zr (ABa (fun i s=>s=(((k + 1 + i:Nat):Int),tab n n (bF k G2 last (k + 1 + i) (k + 1)))/\k + 1 + i<=n) (n - (k + 1)) (Q:=(· =tab n n (bF k G2 last n (k + 1)))) ⟨by rw [Nat.add_zero,Aba];simp,Zj⟩ Zj fun i s hi hI=>?_) fun a3 Ah=>?_
       ·obtain ⟨rfl,hin⟩:=hI;unfold AEt;dsimp only;rw [AAt];obtain ⟨q,hq⟩:∃ q,k + 1 + i=q:=⟨_,rfl⟩;rw [hq] at hin ⊢;refine AAh (fun h3=>?_) (fun h3=>Zn ?_)
        ·have hqn:q < n:=by omega
         rw [wk Zj];refine Zr (ABa (fun j s=>s=(((k + 1 + j:Nat):Int),tab n n (bF k G2 last q (k + 1 + j)))/\k + 1 + j<=n) (n - (k + 1)) (Q:=(· =tab n n (bF k G2 last q n))) ⟨AA4,Zj⟩ Zj fun j s hj hJ=>?_) fun a4 Ai=>Zn ?_
         ·obtain ⟨rfl,hjn⟩:=hJ;unfold AEs;dsimp only;rw [AAt];obtain ⟨c,hc⟩:∃ c,k + 1 + j=c:=⟨_,rfl⟩;rw [hc] at hjn ⊢;refine AAh (fun h4=>?_) (fun h4=>Zn ?_)
          ·have hcn:c < n:=by omega
           refine AAu (AA1 hqn) rfl (AAu (AA1 hk') rfl (AAu (AAq hk') rfl (AAu (AAq hcn) rfl ?_)));rw [Abb,Aol];refine Zr (ABc (Af1 (habs _ _ Zj Zj Zj Zj) (habs _ _ Zj Zj Zj Zj))) fun x1 Aj=>AAu (AAq hk') rfl (AAu (AAq hcn) rfl ?_);subst Aj;rw [Aok,Abb];refine Zr (ABc (Af1 (habs _ _ Zj Zj Zj Zj) (habs _ _ Zj Zj Zj Zj))) fun x2 Ak=>?_;subst Ak;refine Zr (Q:=(· =G2 k k * G2 q c - G2 q k * G2 k c)) ⟨_,if_pos ⟨Af2 (habs _ _ Zj Zj Zj Zj) (habs _ _ Zj Zj Zj Zj),Af2 (habs _ _ Zj Zj Zj Zj) (habs _ _ Zj Zj Zj Zj)⟩,rfl⟩ fun x3 Am=>?_
           ·subst Am;refine Zr (Q:=(· =bQ k G2 last q c)) ?_ fun x4 Ao=>Zn ⟨Zj,?_,Zj⟩
            ·unfold ACu ATe;rw [if_pos ⟨Arm (habs _ _ Zj Zj Zj Zj) (habs _ _ Zj Zj Zj Zj) (habs _ _ Zj Zj Zj Zj) (habs _ _ Zj Zj Zj Zj),Aon hl',hlast.1⟩];exact ⟨_,rfl,rfl⟩
            ·subst Ao;rw [wk Zj,AWz,Ahx k G2 last Zj Zj];congr 1
             ·omega
             ·rw [<- Nat.add_assoc,hc]
          ·obtain rfl:c=n:=by omega
           rfl
         ·subst Ai;refine ⟨Zj,?_,Zj⟩;rw [wk Zj];congr 1
          ·omega
          ·refine ANh fun r c hr hc=>?_;rw [Ahw k n G2 last q hc,<- Nat.add_assoc,hq]
        ·obtain rfl:q=n:=by omega
         rfl
       ·subst Ah;refine AAu (AA1 hk') rfl (AAu (AAq hk') rfl (Zn ⟨_,rfl,?_⟩));rw [Abb];exact Acy Af hk' hne
   ·match ex,hex with
    | .inl e,hex=>exact Zn hex
    | .inr (neg',a',last'),hex=>
      obtain ⟨G',rfl,hB'⟩:=hex
      exact Zn ⟨hk',G',last',neg',by rw [wk Zj];rfl,hB'⟩
  ·obtain rfl:k=n:=by omega
   exact Afz hB
 ·match ex,hex with
  | .inl e,hex=>exact Zn hex
  | .inr (neg,last),hex=>
    dsimp only at hex ⊢
    rw [hex]
    refine AAh (fun h=>Zr (ABc (a:= -last) rfl) fun x hx=>Zn ?_) (fun h=>Zn ?_)
    · rw [hx,h];rfl
    · rw [if_neg h]
theorem AZj {a b D:Nat} (hG:2 * (D * D) < AC3) (ha:a<=D) (hb:b<=D):a * b < AC3:=by
 have:=Nat.mul_le_mul ha hb;omega
theorem Arn {a D:Nat} (hG:2 * (D * D) < AC3) (ha:a<=D):a < AC3:=by
 rcases Nat.eq_zero_or_pos D with h | h
 ·subst h;have:0 < AC3:=by decide
  omega
 ·have h2:=Nat.mul_le_mul h (Nat.le_refl D);omega
theorem AY0 {fuel D:Nat} {a b:Int} (hG:2 * (D * D) < AC3) (ha:a.natAbs<=D) (hb:b.natAbs<=D):ARp fuel a b=some (a * b):=if_pos (AZj hG ha hb)
theorem Ac1 {D:Nat} {a b:Int} (hG:2 * (D * D) < AC3) (ha:a.natAbs<=D) (hb:b.natAbs<=D):(a * b).natAbs < AC3:=by rw [Int.natAbs_mul];exact AZj hG ha hb
theorem Aop {D:Nat} {a b c d:Int} (hG:2 * (D * D) < AC3) (ha:a.natAbs<=D) (hb:b.natAbs<=D) (hc:c.natAbs<=D) (hd:d.natAbs<=D):(a * b - c * d).natAbs < AC3:=by
 have h1:=Nat.mul_le_mul ha hb;have h2:=Nat.mul_le_mul hc hd;rw [<- Int.natAbs_mul] at h1 h2;omega
theorem Aro {fuel n M N:Nat} {F:AAb} (hM:1<=M) (hG:2 * (dBd M (N + 1) * dBd M (N + 1)) < AC3) (hnN:n<=N) (hn:n<=16) (hb:∀ i j,(F i j).natAbs<=M) (hf:17 < fuel):ABf fuel (tab n n F)=some (det n F):=by
 apply ok_eq;unfold ABf;refine Zr (ABc (Ad8 (by rw [AAt];omega) (fun z hz=>by rw [AXh z hz];omega) (by rw [AAt];omega))) fun A hA=>?_;subst hA;refine Zr (Q:=(· =1)) ⟨1,if_pos Zj,rfl⟩ fun one h1=>?_;subst h1;have hD:dBd M n<=dBd M (N + 1):=AO8 hM Zj;have Ap:dBd M (n + 1)<=dBd M (N + 1):=AO8 hM Zj;refine Zr (ABa (fun k s=> ∃ G last neg,s=(neg,((k:Int),tab n n G,last))/\AWf M F n k G last neg) n (Q:=fun ex=>match ex with | .inl e=>e=det n F | .inr (neg,last)=>det n F=if neg then -last else last) ⟨F,1,false,rfl,Aa9 hb⟩ Zj fun k s hk hI=>?_) fun ex hex=>?_
 ·obtain ⟨G,last,neg,rfl,hB⟩:=hI;unfold AEu;dsimp only;rw [AAt];refine AAh (fun h=>?_) (fun h=>Zn ?_)
  ·have hk':k < n:=by omega
   refine Zr (Q:=fun ex=>match ex with | .inl e=>e=det n F | .inr (neg',a',last')=> ∃ G',a'=tab n n G'/\AWf M F n (k + 1) G' last' neg') ?_ fun ex hex=>?_
   ·refine Zr (Q:=fun (e:Int)=> ∃ p:Nat,e=p/\k<=p/\p<=n/\(∀ i,k<=i->i < p->G i k=0)/\(p < n->G p k≠0)) (Zr (ABa (fun j (s:Int)=>s=((k + j:Nat):Int)/\k + j<=n/\ ∀ i,k<=i->i < k + j->G i k=0) (n - k) (Q:=fun (e:Int)=> ∃ p:Nat,e=p/\k<=p/\p<=n/\(∀ i,k<=i->i < p->G i k=0)/\(p < n->G p k≠0)) ⟨rfl,Zj,fun i h1 h2=>by omega⟩ Zj fun j s hj hJ=>?_) fun e he=>Zn he) fun e he=>?_
    ·obtain ⟨rfl,hjn,hz⟩:=hJ;unfold AEr;rw [AAt];refine Zr (Q:=fun ex=>match ex with | .inl _=>k + j < n/\G (k + j) k=0 | .inr _=>k + j < n->G (k + j) k≠0) (AAh (fun h2=>AAu (AA1 Zj) rfl (AAu (AAq Zj) rfl (Zr (ABc (a:=AGc (G (k + j) k)) rfl) fun sg hsg=>AAh (fun h3=>Zn ⟨Zj,?_⟩) fun h3=>Zn fun _=>?_))) fun h2=>Zn fun h3=>by omega) fun ex hex=>?_
     ·subst hsg;exact AXx.1 h3
     ·subst hsg;exact fun h4=>h3 (AXx.2 h4)
     ·cases ex with
      | inl u=>exact Zn ⟨Zj,by rw [wk Zj];omega,Zj,fun i h1 h2=>by
          rcases Nat.lt_or_ge i (k + j) with h3 | h3
          · exact hz i h1 h3
          · obtain rfl:i=k + j:=by omega
            exact hex.2⟩
      | inr u=>exact Zn ⟨k + j,rfl,Zj,hjn,hz,hex⟩
    ·obtain ⟨p,rfl,hkp,hpn,hz,hp⟩:=he;refine AAh (fun h2=>Zn ?_) (fun h2=>?_)
     ·obtain rfl:p=n:=by omega
      exact (Acz hB hk' hz).symm
     ·have hp':p < n:=by omega
      refine Zr (Q:=fun (r:Bool × List (List Int))=> ∃ G',r.2=tab n n G'/\AWf M F n k G' last r.1/\G' k k≠0) (AAh (fun h3=>AAu (AA1 Zj) rfl (AAu (AA1 Zj) rfl (Zn ⟨AEm G p k,?_,Acx hB Zj hp',?_⟩))) fun h3=>Zn ⟨G,rfl,hB,?_⟩) fun r hr=>?_
      ·dsimp only;rw [AB0,AB0];show ((tab n n G).set p (AB6 n (G k))).set k (AB6 n (G p))=_;rw [show AB6 n (G k)=(List.range n).map (G k) from rfl,show AB6 n (G p)=(List.range n).map (G p) from rfl,AK4,AK4];rfl
      ·rw [AJ3,if_pos rfl];exact hp hp'
      ·obtain rfl:p=k:=by omega
       exact hp hp'
      ·obtain ⟨Aq,a2⟩:=r;obtain ⟨G2,Ag,Af,hne⟩:=hr;dsimp only at Ag Af ⊢;subst Ag;have hlast:=Ac0 hM Af Zj;have habs:∀ i j,k<=i->i < n->k<=j->j < n->(G2 i j).natAbs<=dBd M (N + 1):=fun i j h1 h2 h3 h4=>Nat.le_trans (Af0 hM Af hk' h1 h2 h3 h4).1 hD;have hl':last.natAbs<=dBd M (N + 1):=Nat.le_trans hlast.2 hD;rw [wk Zj];refine Zr (ABa (fun i s=>s=(((k + 1 + i:Nat):Int),tab n n (bF k G2 last (k + 1 + i) (k + 1)))/\k + 1 + i<=n) (n - (k + 1)) (Q:=(· =tab n n (bF k G2 last n (k + 1)))) ⟨by rw [Nat.add_zero,Aba];simp,Zj⟩ Zj fun i s hi hI=>?_) fun a3 Ah=>?_
       ·obtain ⟨rfl,hin⟩:=hI;unfold AEt;dsimp only;rw [AAt];obtain ⟨q,hq⟩:∃ q,k + 1 + i=q:=⟨_,rfl⟩;rw [hq] at hin ⊢;refine AAh (fun h3=>?_) (fun h3=>Zn ?_)
        ·have hqn:q < n:=by omega
         rw [wk Zj];refine Zr (ABa (fun j s=>s=(((k + 1 + j:Nat):Int),tab n n (bF k G2 last q (k + 1 + j)))/\k + 1 + j<=n) (n - (k + 1)) (Q:=(· =tab n n (bF k G2 last q n))) ⟨AA4,Zj⟩ Zj fun j s hj hJ=>?_) fun a4 Ai=>Zn ?_
         ·obtain ⟨rfl,hjn⟩:=hJ;unfold AEs;dsimp only;rw [AAt];obtain ⟨c,hc⟩:∃ c,k + 1 + j=c:=⟨_,rfl⟩;rw [hc] at hjn ⊢;refine AAh (fun h4=>?_) (fun h4=>Zn ?_)
          ·have hcn:c < n:=by omega
           refine AAu (AA1 hqn) rfl (AAu (AA1 hk') rfl (AAu (AAq hk') rfl (AAu (AAq hcn) rfl ?_)));rw [Abb,Aol];refine Zr (ABc (AY0 hG (habs _ _ Zj Zj Zj Zj) (habs _ _ Zj Zj Zj Zj))) fun x1 Aj=>AAu (AAq hk') rfl (AAu (AAq hcn) rfl ?_);subst Aj;rw [Aok,Abb];refine Zr (ABc (AY0 hG (habs _ _ Zj Zj Zj Zj) (habs _ _ Zj Zj Zj Zj))) fun x2 Ak=>?_;subst Ak;refine Zr (Q:=(· =G2 k k * G2 q c - G2 q k * G2 k c)) ⟨_,if_pos ⟨Ac1 hG (habs _ _ Zj Zj Zj Zj) (habs _ _ Zj Zj Zj Zj),Ac1 hG (habs _ _ Zj Zj Zj Zj) (habs _ _ Zj Zj Zj Zj)⟩,rfl⟩ fun x3 Am=>?_
           ·subst Am;refine Zr (Q:=(· =bQ k G2 last q c)) ?_ fun x4 Ao=>Zn ⟨Zj,?_,Zj⟩
            ·unfold ACu ATe;rw [if_pos ⟨Aop hG (habs _ _ Zj Zj Zj Zj) (habs _ _ Zj Zj Zj Zj) (habs _ _ Zj Zj Zj Zj) (habs _ _ Zj Zj Zj Zj),Arn hG hl',hlast.1⟩];exact ⟨_,rfl,rfl⟩
            ·subst Ao;rw [wk Zj,AWz,Ahx k G2 last Zj Zj];congr 1
             ·omega
             ·rw [<- Nat.add_assoc,hc]
          ·obtain rfl:c=n:=by omega
           rfl
         ·subst Ai;refine ⟨Zj,?_,Zj⟩;rw [wk Zj];congr 1
          ·omega
          ·refine ANh fun r c hr hc=>?_;rw [Ahw k n G2 last q hc,<- Nat.add_assoc,hq]
        ·obtain rfl:q=n:=by omega
         rfl
       ·subst Ah;refine AAu (AA1 hk') rfl (AAu (AAq hk') rfl (Zn ⟨_,rfl,?_⟩));rw [Abb];exact Acy Af hk' hne
   ·match ex,hex with
    | .inl e,hex=>exact Zn hex
    | .inr (neg',a',last'),hex=>
      obtain ⟨G',rfl,hB'⟩:=hex
      exact Zn ⟨hk',G',last',neg',by rw [wk Zj];rfl,hB'⟩
  ·obtain rfl:k=n:=by omega
   exact Afz hB
 ·match ex,hex with
  | .inl e,hex=>exact Zn hex
  | .inr (neg,last),hex=>
    dsimp only at hex ⊢
    rw [hex]
    refine AAh (fun h=>Zr (ABc (a:= -last) rfl) fun x hx=>Zn ?_) (fun h=>Zn ?_)
    · rw [hx,h];rfl
    · rw [if_neg h]
def AGw:Nat:=2 ^ 100
theorem Aji:2 * (dBd AGw (8 + 1) * dBd AGw (8 + 1)) < AC3:=by decide
theorem AXy {fuel n:Nat} {F:AAb} (hn:n<=8) (hb:∀ i j,i < n->j < n->(F i j).natAbs<=AGw) (hf:17 < fuel):ABf fuel (tab n n F)=some (det n F):=by
 have e1:tab n n F=tab n n fun i j=>if i < n/\j < n then F i j else 0:=by
   rw [AP5,AP5]
   exact ABo fun i hi=>ABo fun j hj=>by rw [if_pos ⟨hi,hj⟩]
 have e2:det n F=det n fun i j=>if i < n/\j < n then F i j else 0:=AB8 fun i j hi hj=>by rw [if_pos ⟨hi,hj⟩]
 rw [e1,e2];refine Aro Zl Aji hn Zj (fun i j=>?_) hf;split
 ·next h=>exact hb i j h.1 h.2
 ·exact Nat.zero_le _
theorem Arp:FdT Tryz.prog 24 0 0 5:=⟨_,_,Tryz.underlying24,rfl,rfl,rfl⟩
theorem Arq:FdT Tryz.prog 24 1 1 5:=⟨_,_,Tryz.underlying24,rfl,rfl,rfl⟩
theorem Arr:FdT Tryz.prog 24 2 2 22:=⟨_,_,Tryz.underlying24,rfl,rfl,rfl⟩
theorem Aoq:AgT Tryz.prog 24 4:=AWr Tryz.underlying24 rfl Zy
end Go.Proofs.YtdkldlbgcfpglaaGreatDoor
namespace Go.Proofs.YtdkldlbgcfpglaaGreatDoor
open Go Go.QF
set_option maxRecDepth 100000
set_option maxHeartbeats 4000000
def AEw (fuel:Nat) (a1:Int) (a5:LiA) (Ac Aa Ad:Int) (Ae:LiI):Option ((Int × Int × LiI) ⊕ ((Int × LiI))):=
  (if Aa < ((List.replicate (Int.toNat (w64 (1 + (Int.tmod (w64 a1) Ac)))) ([]:List Int)).length:Int) then (if 0<=(w64 (1 + (Int.tmod (w64 a1) Ac)))/\(w64 (1 + (Int.tmod (w64 a1) Ac)))<=100000000 then ((gI Ae Aa).bind fun Ao=>((gI (sI Ae Aa (List.replicate (Int.toNat (w64 (1 + (Int.tmod (w64 a1) Ac)))) (0:Int))) Aa).bind fun Ag=>(((((if (a5.length:Int)<=Ad then (some ( (0,Ad))) else ((gI a5 (w64 ((w64 (Ad + 1)) - 1))).bind fun Ah=>(some ( ((w64 Ah),(w64 (Ad + 1))))))):Option (Int × Int)).bind fun (Ai,Aj)=>(some ( ((Int.tmod (w64 (IntKind.wrap .u8 Ai)) 6),Aj)))):Option (Int × Int)).bind fun (Ak,Am)=>((gI Ag Aa).bind fun Ap=>(some (Sum.inl ((w64 (Aa + 1)),Am,(sI (sI Ae Aa (List.replicate (Int.toNat (w64 (1 + (Int.tmod (w64 a1) Ac)))) (0:Int))) Aa (sI Ag Aa (w64 (1 + Ak))))))))))) else none) else (some (Sum.inr<| (Ad,Ae))))
def AG9 (fuel:Nat) (a5:LiA) (Ab Aa Ac:Int) (Ad:LiI):Option ((Int × Int × LiI) ⊕ ((Int × LiI))):=
  (if Aa < Ab then ((gI Ad Ab).bind fun Ae=>(((if (a5.length:Int)<=Ac then (some ( (0,Ac))) else ((gI a5 (w64 ((w64 (Ac + 1)) - 1))).bind fun Ai=>(some ( ((w64 Ai),(w64 (Ac + 1))))))):Option (Int × Int)).bind fun (Af,Aj)=>((gI Ae Aa).bind fun Ao=>((gI (sI Ad Ab (sI Ae Aa (Int.tmod Af 3))) Aa).bind fun Ah=>((gI (sI Ad Ab (sI Ae Aa (Int.tmod Af 3))) Ab).bind fun Ak=>((gI Ak Aa).bind fun Am=>((gI Ah Ab).bind fun Ap=>(some (Sum.inl ((w64 (Aa + 1)),Aj,(sI (sI Ad Ab (sI Ae Aa (Int.tmod Af 3))) Aa (sI Ah Ab Am)))))))))))) else (some (Sum.inr<| (Ac,Ad))))
def AEx (fuel:Nat) (a5:LiA) (Ae:LiI) (Aa Ab:Int) (Ac:LiI):Option ((Int × Int × LiI) ⊕ ((Int × LiI))):=
  (if Aa < (Ae.length:Int) then ((iter (fun s=>AG9 fuel a5 Aa s.1 s.2.1 s.2.2) fuel (0,Ab,Ac)).bind (fun ((Af,Ag):Int × LiI)=>(some (Sum.inl ((w64 (Aa + 1)),Af,Ag))))) else (some (Sum.inr<| (Ab,Ac))))
def AEe (fuel:Nat) (a1:Int) (a5:LiA) (Ac Aa Ad:Int) (Ae:LiI):Option ((Int × Int × LiI) ⊕ ((Int × LiI))):=
  (if Aa < ((List.replicate (Int.toNat (w64 (1 + (Int.tmod (w64 a1) Ac)))) ([]:List Int)).length:Int) then (if 0<=(w64 (1 + (Int.tmod (w64 a1) Ac)))/\(w64 (1 + (Int.tmod (w64 a1) Ac)))<=100000000 then ((gI Ae Aa).bind fun Ao=>((gI (sI Ae Aa (List.replicate (Int.toNat (w64 (1 + (Int.tmod (w64 a1) Ac)))) (0:Int))) Aa).bind fun Ag=>(((((if (a5.length:Int)<=Ad then (some ( (0,Ad))) else ((gI a5 (w64 ((w64 (Ad + 1)) - 1))).bind fun Ah=>(some ( ((w64 Ah),(w64 (Ad + 1))))))):Option (Int × Int)).bind fun (Ai,Aj)=>(some ( ((Int.tmod (w64 (IntKind.wrap .u8 Ai)) 9),Aj)))):Option (Int × Int)).bind fun (Ak,Am)=>((gI Ag Aa).bind fun Ap=>(some (Sum.inl ((w64 (Aa + 1)),Am,(sI (sI Ae Aa (List.replicate (Int.toNat (w64 (1 + (Int.tmod (w64 a1) Ac)))) (0:Int))) Aa (sI Ag Aa (w64 (1 + Ak))))))))))) else none) else (some (Sum.inr<| (Ad,Ae))))
def AEf (fuel:Nat) (a1:Int) (a5:LiA) (Ac Aa Ad:Int) (Ae:LiI):Option ((Int × Int × LiI) ⊕ ((Int × LiI))):=
  (if Aa < ((List.replicate (Int.toNat (w64 (1 + (Int.tmod (w64 a1) Ac)))) ([]:List Int)).length:Int) then (if 0<=(w64 (1 + (Int.tmod (w64 a1) Ac)))/\(w64 (1 + (Int.tmod (w64 a1) Ac)))<=100000000 then ((gI Ae Aa).bind fun Ao=>((gI (sI Ae Aa (List.replicate (Int.toNat (w64 (1 + (Int.tmod (w64 a1) Ac)))) (0:Int))) Aa).bind fun Ag=>(((((if (a5.length:Int)<=Ad then (some ( (0,Ad))) else ((gI a5 (w64 ((w64 (Ad + 1)) - 1))).bind fun Ah=>(some ( ((w64 Ah),(w64 (Ad + 1))))))):Option (Int × Int)).bind fun (Ai,Aj)=>(some ( ((Int.tmod (w64 (IntKind.wrap .u8 Ai)) 1),Aj)))):Option (Int × Int)).bind fun (Ak,Am)=>((gI Ag Aa).bind fun Ap=>(some (Sum.inl ((w64 (Aa + 1)),Am,(sI (sI Ae Aa (List.replicate (Int.toNat (w64 (1 + (Int.tmod (w64 a1) Ac)))) (0:Int))) Aa (sI Ag Aa (w64 (1 + Ak))))))))))) else none) else (some (Sum.inr<| (Ad,Ae))))
def AEg (fuel:Nat) (a1:Int) (a5:LiA) (Ac Aa Ad:Int) (Ae:LiI):Option ((Int × Int × LiI) ⊕ ((Int × LiI))):=
  (if Aa < ((List.replicate (Int.toNat (w64 (1 + (Int.tmod (w64 a1) Ac)))) ([]:List Int)).length:Int) then (if 0<=(w64 (1 + (Int.tmod (w64 a1) Ac)))/\(w64 (1 + (Int.tmod (w64 a1) Ac)))<=100000000 then ((gI Ae Aa).bind fun Ao=>((gI (sI Ae Aa (List.replicate (Int.toNat (w64 (1 + (Int.tmod (w64 a1) Ac)))) (0:Int))) Aa).bind fun Ag=>(((((if (a5.length:Int)<=Ad then (some ( (0,Ad))) else ((gI a5 (w64 ((w64 (Ad + 1)) - 1))).bind fun Ah=>(some ( ((w64 Ah),(w64 (Ad + 1))))))):Option (Int × Int)).bind fun (Ai,Aj)=>(some ( ((Int.tmod (w64 (IntKind.wrap .u8 Ai)) 2),Aj)))):Option (Int × Int)).bind fun (Ak,Am)=>((gI Ag Aa).bind fun Ap=>(some (Sum.inl ((w64 (Aa + 1)),Am,(sI (sI Ae Aa (List.replicate (Int.toNat (w64 (1 + (Int.tmod (w64 a1) Ac)))) (0:Int))) Aa (sI Ag Aa (w64 (1 + Ak))))))))))) else none) else (some (Sum.inr<| (Ad,Ae))))
def AD8 (fuel:Nat) (a1 a2:Int) (a5 a9:LiA) (Aa:Int):Option LiI:=
  (if Aa≠0 then (((((if (Int.tmod a2 8)=0 then (some ( (decide ((Int.tmod a2 8)=0)))) else (if (Int.tmod a2 8)=1 then (some ( (decide ((Int.tmod a2 8)=1)))) else (if (Int.tmod a2 8)=2 then (some ( (decide ((Int.tmod a2 8)=2)))) else (some ( (decide ((Int.tmod a2 8)=3))))))):Option ((Bool))).bind (fun (Ak:Bool)=>(if Ak=true then (((((if 0<=(w64 (1 + (Int.tmod (w64 a1) Aa)))/\(w64 (1 + (Int.tmod (w64 a1) Aa)))<=100000000 then ((iter (fun s=>AEw fuel a1 a5 Aa s.1 s.2.1 s.2.2) fuel (0,0,(List.replicate (Int.toNat (w64 (1 + (Int.tmod (w64 a1) Aa)))) ([]:List Int)))).bind (fun ((Am,Ao):Int × LiI)=>(some ( (Ao,Am))))) else none):Option (LiI × Int)).bind fun (Ae,Ap)=>((iter (fun s=>AEx fuel a5 Ae s.1 s.2.1 s.2.2) fuel (0,Ap,Ae)).bind (fun ((Aq,Ar):Int × LiI)=>(some ( (Ar,Aq)))))):Option (LiI × Int)).bind fun (Au,Av)=>(some ( (Au,Av)))) else (if (Int.tmod a2 8)=4 then ((AF5 fuel (w64 (1 + (Int.tmod (w64 a1) Aa))) false).bind fun Af=>((gI Af 0).bind fun Ag=>((gI Ag 0).bind fun Aw=>(((((if (a5.length:Int)<=0 then (some ( (0,0))) else ((gI a5 (w64 ((w64 (0 + 1)) - 1))).bind fun Ax=>(some ( ((w64 Ax),(w64 (0 + 1))))))):Option (Int × Int)).bind fun (Ay,Az)=>(some ( ((Int.tmod (w64 (IntKind.wrap .u8 Ay)) 3),Az)))):Option (Int × Int)).bind fun (A3,A4)=>(some ( ((sI Af 0 (sI Ag 0 (w64 (Aw + A3)))),A4))))))) else (if (Int.tmod a2 8)=5 then ((AF5 fuel (w64 (1 + (Int.tmod (w64 a1) Aa))) true).bind fun Ah=>((gI Ah (w64 ((w64 (1 + (Int.tmod (w64 a1) Aa))) - 1))).bind fun Ai=>((gI Ai (w64 ((w64 (1 + (Int.tmod (w64 a1) Aa))) - 1))).bind fun A5=>(((((if (a5.length:Int)<=0 then (some ( (0,0))) else ((gI a5 (w64 ((w64 (0 + 1)) - 1))).bind fun A6=>(some ( ((w64 A6),(w64 (0 + 1))))))):Option (Int × Int)).bind fun (A7,A8)=>(some ( ((Int.tmod (w64 (IntKind.wrap .u8 A7)) 2),A8)))):Option (Int × Int)).bind fun (A9,Ba)=>(some ( ((sI Ah (w64 ((w64 (1 + (Int.tmod (w64 a1) Aa))) - 1)) (sI Ai (w64 ((w64 (1 + (Int.tmod (w64 a1) Aa))) - 1)) (w64 (A5 + A9)))),Ba))))))) else (if (Int.tmod a2 8)=6 then (((if 0<=(w64 (1 + (Int.tmod (w64 a1) Aa)))/\(w64 (1 + (Int.tmod (w64 a1) Aa)))<=100000000 then ((iter (fun s=>AEe fuel a1 a5 Aa s.1 s.2.1 s.2.2) fuel (0,0,(List.replicate (Int.toNat (w64 (1 + (Int.tmod (w64 a1) Aa)))) ([]:List Int)))).bind (fun ((Bb,Bc):Int × LiI)=>(some ( (Bc,Bb))))) else none):Option (LiI × Int)).bind fun (Be,Bf)=>(some ( (Be,Bf)))) else (((if 0<=(w64 (1 + (Int.tmod (w64 a1) Aa)))/\(w64 (1 + (Int.tmod (w64 a1) Aa)))<=100000000 then ((iter (fun s=>AEf fuel a1 a5 Aa s.1 s.2.1 s.2.2) fuel (0,0,(List.replicate (Int.toNat (w64 (1 + (Int.tmod (w64 a1) Aa)))) ([]:List Int)))).bind (fun ((Bg,Bh):Int × LiI)=>(some ( (Bh,Bg))))) else none):Option (LiI × Int)).bind fun (Bi,Bj)=>(some ( (Bi,Bj)))))))))):Option ((LiI × Int))).bind (fun ((Aj,Bl):LiI × Int)=>((AH6 fuel Aj).bind fun Bm=>(if (!Bm)=true then (((if 0<=(w64 (1 + (Int.tmod (w64 a1) Aa)))/\(w64 (1 + (Int.tmod (w64 a1) Aa)))<=100000000 then ((iter (fun s=>AEg fuel a1 a5 Aa s.1 s.2.1 s.2.2) fuel (0,Bl,(List.replicate (Int.toNat (w64 (1 + (Int.tmod (w64 a1) Aa)))) ([]:List Int)))).bind (fun ((Bn,Bo):Int × LiI)=>(some ( (Bo,Bn))))) else none):Option (LiI × Int)).bind fun (Bp,Br)=>(some Bp)) else (some Aj))))) else none)
theorem APp {fuel:Nat} {h:Zv} {a1 a2:Int} {Ab:Value} {a5:LiA} {B6:Value} {a9:LiA} {Am:Int} {r:LiI} (H4:SlC (cI .i8) h Ab a5) (H8:SlC (cI .i8) h B6 a9) (hp:AD8 fuel a1 a2 a5 a9 Am=some r):AAw Tryz.prog 26 #[(.agg #[(.int .u8 a1),(.int .u8 a2),Ab,B6]),(.int .i64 Am)] h (fun x h'=>Ext h h'/\ ∃ (x0:Value) (F0:List Nat) (Hf:List LnA) (Hg:List Value),x=x0/\ACy (cI .i64) 60 2 h' F0 Hf Hg x0 r/\Sp h' h.size [F0]):=by
 unfold AD8 at hp;refine cwf (l:=[_,_]) Tryz.func26 rfl rfl (Zo (AHb (Kst.k0 h) [(.int .u8 a1),(.int .u8 a2),Ab,B6] fun Tv Tw Tx B7=>AA5 (ADj Arr ARd (B7.b p0) 2 rfl ?_)));obtain ⟨_,_,_,Hh⟩:=(H4.ext B7.x).shape;refine ADr (v:=(.agg #[Ab,(.int .i64 0)])) (fun _=>by subst Hh;kernel_rfl) (AHb B7 [Ab,(.int .i64 0)] fun Aa Ty Tz Ax=>AA5 (ADj Arp As0 (Ax.b p1) 0 rfl (AMy ASb ARe rfl (Zk ?_))));obtain ⟨Hj,Hk⟩:=ifN hp;refine ADk rfl rfl Hj (AAx rfl rfl (AA5 (Zu ?_)));obtain ⟨Hl,Hm,Dy⟩:=Zq Hk;refine AKi 147573952589676150912 (fun x:(LiI) × (Value) × LnA × LnN × LvA × (Int)=>[(7,x.2.1)]) (fun x h'=>( (x.1,x.2.2.2.2.2))=Hl/\Kst h h' (aO2 (cI .i64) 60 2 x.2.2.1 x.2.2.2.1 x.2.2.2.2.1 x.2.1 x.1 :: ((AHd Ax.L [0]).set 0 (aB 105 Aa [Ab,(.int .i64 x.2.2.2.2.2)])))) ?_ ?_
 ·refine Zo (ADj Arq As0 (Ax.b p1) 1 rfl (ADk rfl rfl Zl (Zs (Zt ?_))));obtain ⟨Hn,Dz,B8⟩:=Zq Hm;refine AKi 520093696 (fun x:(Bool)=>[(24,(.bool x))]) (fun x h'=>( x)=Hn/\Kst h h' (AHd Ax.L [0])) ?_ ?_
  ·refine Zo (ABx rfl rfl (Zu (⟨_,rfl,fun B9=>?_,fun B9=>?_⟩)))
   ·refine Zw (q_t ?_);exact ⟨((decide ((Int.tmod a2 8)=0)):(Bool)),⟨Zm (AA8 Dz B9),Ax.sel [0] Zl⟩,rfl,trivial⟩
   ·refine Zo (ABx rfl rfl (Zu ?_));have D0:=AA9 Dz B9;refine ⟨_,rfl,fun Ca=>?_,fun Ca=>?_⟩
    ·refine Zw (q_t ?_);exact ⟨((decide ((Int.tmod a2 8)=1)):(Bool)),⟨Zm (AA8 D0 Ca),Ax.sel [0] Zl⟩,rfl,trivial⟩
    ·refine Zo (ABx rfl rfl (Zu ?_));have D1:=AA9 D0 Ca;refine ⟨_,rfl,fun Cb=>?_,fun Cb=>?_⟩
     ·refine Zw (q_t ?_);exact ⟨((decide ((Int.tmod a2 8)=2)):(Bool)),⟨Zm (AA8 D1 Cb),Ax.sel [0] Zl⟩,rfl,trivial⟩
     ·refine AAc (ABx rfl rfl (Zu ?_));exact ⟨((decide ((Int.tmod a2 8)=3)):(Bool)),⟨Zm (AA9 D1 Cb),Ax.sel [0] Zl⟩,rfl,trivial⟩
  rintro Ho Hq Hr ⟨Hs,Ao⟩;(try dsimp only [Kst.L,List.set,AHd,AKw] at Ao);refine (show W _ _ _ (setL [(24,(.bool Ho))] (mix _ Hq _)) Hr from ?_);subst Hs;(try dsimp only at B8);refine ⟨_,rfl,fun Cd=>?_,fun Cd=>?_⟩
  ·refine AAc (Zk (Zk ?_));obtain ⟨Ht,Hu,D2⟩:=Zq (ifT B8 Cd);refine AA0 (K':=(fun xr h'=> ∃ x:(LiI) × (Value) × LnA × LnN × LvA × (Int),(x.1,x.2.2.2.2.2)=Ht/\xr=x.2.1/\Kst h h' (aO2 (cI .i64) 60 2 x.2.2.1 x.2.2.2.1 x.2.2.2.2.1 x.2.1 x.1 :: (Ao.L.set 0 (aB 105 Aa [Ab,(.int .i64 x.2.2.2.2.2)]))))) trivial rfl ?_ fun D3 T0 Hv=>?_
   ·refine cwf (l:=[_,_]) Tryz.func63 rfl rfl (Zo (AA5 (Zk (Zk ?_))));obtain ⟨Hw,Hx,D4⟩:=Zq Hu;refine AA0 (K':=(fun xr h'=> ∃ x:(LiI) × (Value) × LnA × LnN × LvA × (Int),(x.1,x.2.2.2.2.2)=Hw/\xr=x.2.1/\Kst h h' (aO2 (cI .i64) 60 2 x.2.2.1 x.2.2.2.1 x.2.2.2.2.1 x.2.1 x.1 :: (Ao.L.set 0 (aB 105 Aa [Ab,(.int .i64 x.2.2.2.2.2)]))))) trivial rfl ?_ fun Ba T3 Hy=>?_
    ·refine cwf (l:=[_,_,_]) Tryz.func66 rfl rfl (Zo (AA5 (Zk ?_)));obtain ⟨Hz,H5⟩:=ifN Hx;refine ASh (cI .i64) 2 AAg AMl rfl trivial tt2 rfl rfl Zl Hz fun Ia Ib Ic D5 T4 Id Ie If=>Zu (Zp (Zo (Zk ?_)));have Ce:=Ao.no2 Ie If Id;refine AA6 AAg rfl (Ce.o2 p0).rd (Zk (Zs (Zt (AFo 4294959360 (fun x:(Int) × (Int) × (LiI) × LnA × LnN × LvA=>(x.1,x.2.1,x.2.2.1)) ((0,0,(List.replicate (Int.toNat (w64 (1 + (Int.tmod (w64 a1) Am)))) ([]:List Int)),Ia,Ib,Ic):(Int) × (Int) × (LiI) × LnA × LnN × LvA) H5 (fun x=>[(13,(.int .i64 x.1))]) (fun x=>(Ce.L.set 0 (aO2 (cI .i64) 60 2 x.2.2.2.1 x.2.2.2.2.1 x.2.2.2.2.2 D5 x.2.2.1)).set 1 (aB 105 Aa [Ab,(.int .i64 x.2.1)])) Ce ⟨rfl,trivial⟩ ?_))));rintro ⟨Cf,Bb,Ih,Ii,Ij,Ik⟩ Il Im T5 Cg Bc Io;(try dsimp only [Kst.L,List.set,AHd,AKw] at Cg);refine (show W _ _ _ (setL [(13,(.int .i64 Cf))] (mix _ Il _)) Im from ?_);(try dsimp only at Bc);unfold AEw at Bc;refine Zo (AAv rfl rfl (Zs (Zp (⟨_,rfl,fun Ch=>?_,fun Ch=>?_⟩))))
     ·refine Zw (q_t (Zp (Zt (Zo (Zk (AA5 (Zk (Zk (Zk ?_)))))))));obtain ⟨Ip,Iq⟩:=ifN (AA8 Bc Ch);refine AQh (c:=(cI .i64)) (a:=0) AAi AI0 rfl rfl (fun _=>rfl) rfl trivial tt2 rfl rfl Zl Ip fun T6 T7 T8 Ir Is It Iu=>?_;have A3:=Cg.no Is (AE8 It Iu) Ir;obtain ⟨T9,D6,Iv⟩:=Zq Iq;refine ADb AAg rfl (A3.o2 p1) rfl D6 fun Ua Ub Iw Uc Ud=>ASg AA3 (A3.o2 p1) D6 Iw rfl rfl (A3.o p0) (A3.dj p0 p1 Zl) fun Ap Ix Iy Iz=>Zs (ACj (fun h'=>UpT ([Aa] ++ []) Ap h') Zy ?_);have Af:=A3.m2 p0 p1 Zl Iy Ix (fun z hz=> .inl (Iz z hz));have Ci:UpT ([Aa] ++ []) Ap Ap:=UpT.start (ACz (AGf (Af.b p2) rfl) all_nil);refine Zk (Zk ?_);obtain ⟨Ue,Cj,I0⟩:=Zq Iv;refine ADb AAg rfl (Af.o2 p1) rfl Cj fun Uf Ug I1 I2 I3=>ACl AA3 rfl Ci (fun h' hb=>AMi I3 hb (ASw (Af.dj p1 p2 Zl _ (by simp [aO,aO2,I1])) ASx)) (Zk (Zk (Zk ?_)));obtain ⟨I6,I7,D7⟩:=Zq I0;have I9:UpT ([Aa] ++ []) Ap Ap:=UpT.start (ACz (AGf (Af.b p2) rfl) all_nil);refine AA0 (K':=(fun xr h'=> ∃ x:(Int) × (Int),(x.1,x.2)=I6/\xr=(.int .i64 x.1)/\Kst h h' ((AHd Af.L [1,2]).set 1 (aB 105 Aa [Ab,(.int .i64 x.2)]))/\UpT ([Aa] ++ []) Ap h')) Ci rfl ?_ fun Uh Ui Ja=>?_
      ·refine cwf (l:=[_,_]) Tryz.func65 rfl rfl (Zo (AA5 (Zk ?_)));obtain ⟨Jc,D8,D9⟩:=Zq I7;have Ea:UpT ([Aa] ++ []) Ap Ap:=UpT.start (ACz (AGf (Af.b p2) rfl) all_nil);refine AA0 (K':=(fun xr h'=> ∃ x:(Int) × (Int),(x.1,x.2)=Jc/\xr=(.int .i64 x.1)/\Kst h h' ((AHd Af.L [1,2]).set 1 (aB 105 Aa [Ab,(.int .i64 x.2)]))/\UpT ([Aa] ++ []) Ap h')) trivial rfl ?_ fun Uj Uk Je=>?_
       ·refine cwf (l:=[_]) Tryz.func119 rfl rfl (Zo (Zu (Zp (Zp (AGe (Zk (AC7 rfl (ACd ADa rfl (AA7 ABv rfl ((Af.b p2).cell (i:=1) rfl) (Zk (AC7 rfl (ACd AJ5 rfl (AA7 ARd rfl ((Af.b p2).cell (i:=0) rfl) (ABj ASa rfl H4 (AMn rfl rfl (Zs (⟨_,rfl,fun Ck=>?_,fun Ck=>?_⟩)))))))))))))))))
        ·refine Zo (Zu (Zx (AAd (⟨_,Zz,((0,Bb):(Int) × (Int)),?_,rfl,?_,?_⟩))))
         ·exact Zm (AA8 D8 Ck)
         ·exact Af.sel [1,2] Zl
         ·exact Ea
        ·refine Zw (q_t (Zo (Zk (AC7 rfl (ACd ADa rfl (AA7 ABv rfl ((Af.b p2).cell (i:=1) rfl) (AAx rfl rfl (AC7 rfl (ACd ADa rfl (AQs [Ab,(.int .i64 (w64 (Bb + 1)))] ABv rfl rfl rfl (Af.b p2) (Nat.le_of_ble_eq_true rfl) rfl fun Ul Eb Ec=>Zs (Zp (AGe (Zk (AC7 rfl (ACd AJ5 rfl ?_)))))))))))))));have Be:=Af.sb p2 Ec Eb rfl;refine AA7 ARd rfl ((Be.b p2).cell (i:=0) rfl) (Zk (AC7 rfl (ACd ADa rfl (AA7 ABv rfl ((Be.b p2).cell (i:=1) rfl) (AFl rfl rfl ?_)))));obtain ⟨Jf,Jg,Jh⟩:=Zq (AA9 D8 Ck);refine AI2 (c:=(cI .i8)) ASa rfl H4 rfl Jg fun Um Un Uo Ji Jj=>?_;obtain rfl:=Ji;refine AA7 Aai rfl (AAz (Jj 0 _ rfl) Be.x) (AMy Aaj AK3 rfl (Zu (Zx (⟨_,Zz,(((w64 Jf),(w64 (Bb + 1))):(Int) × (Int)),?_,rfl,?_,?_⟩))))
         ·exact Zm Jh
         ·exact Be.sel [1,2] Zl
         ·exact (Ea.then (Eb.stA Ec (AGf (Af.b p2) rfl) rfl) (ANp rfl))
       obtain ⟨⟨Jk,Jl⟩,Jm,rfl,Ed,Jn⟩:=Je;(try dsimp only [Kst.L,List.set,AHd,AKw] at Ed);refine ⟨trivial,?_⟩;subst Jm;(try dsimp only at D9);refine AMy AK3 ASb rfl (AMy ASb ARe rfl (Zk (ADk rfl rfl Zl (Zu (Zx (⟨_,Zz,(((Int.tmod (w64 (IntKind.wrap .u8 Jk)) 6),Jl):(Int) × (Int)),?_,rfl,?_,?_⟩))))))
       ·exact Zm D9
       ·exact Ed
       ·exact (I9.then Jn (ACz (ANp rfl) all_nil))
      obtain ⟨⟨Jo,Up⟩,Jp,rfl,Cm,Jq⟩:=Ja;(try dsimp only [Kst.L,List.set,AHd,AKw] at Cm);refine ⟨(Ci.then Jq (ACz (ANp rfl) all_nil)),?_⟩;subst Jp;(try dsimp only at D7);refine AAx rfl rfl ?_;obtain ⟨Uq,Ee,Jr⟩:=Zq D7;refine AE9 (m:=Cf) AAi rfl (Af.o2 p1) I2 Cj rfl Ee fun Ur Js=>ANv (m:=Cf) (ANi AAl rfl rfl rfl) (Cm.o2 p0) Js Cj Ee (show ((cI .i64)).rep _ (w64 (1 + Jo)) _ from rfl) fun Us Jt Ju=>AAo (q_b (q_t (AAc (AAx rfl rfl (Zk (Zs ?_))))));exact ⟨(_,_,_,_,_,_),(Zm Jr).symm,(Cm.uO2 p0 Ju Jt),rfl,trivial⟩
     ·have Ef:=Io _ (Zm (AA9 Bc Ch)).symm;(try dsimp only at Ef);refine AAj (AAk (AAk (ABm (q_t (Zo (Zk (Zu (Zx (⟨_,Zz,((Ih,D5,Ii,Ij,Ik,Bb):(LiI) × (Value) × LnA × LnN × LvA × (Int)),?_,rfl,?_⟩)))))))))
      ·exact Zm Ef
      ·exact Cg
    obtain ⟨⟨Jv,Ba,Jw,Jx,Jy,Jz⟩,J0,rfl,Bf⟩:=Hy;(try dsimp only [Kst.L,List.set,AHd,AKw] at Bf);refine ⟨trivial,?_⟩;subst J0;(try dsimp only at D4);refine Zu (Zp (Zo (Zk (AA6 AAg rfl (Bf.o2 p0).rd (Zk (Zs (Zt (AFo 17592186036416 (fun x:(Int) × (Int) × (LiI) × LnA × LnN × LvA=>(x.1,x.2.1,x.2.2.1)) ((0,Jz,Jv,Jw,Jx,Jy):(Int) × (Int) × (LiI) × LnA × LnN × LvA) D4 (fun x=>[(13,(.int .i64 x.1))]) (fun x=>(Bf.L.set 0 (aO2 (cI .i64) 60 2 x.2.2.2.1 x.2.2.2.2.1 x.2.2.2.2.2 Ba x.2.2.1)).set 1 (aB 105 Aa [Ab,(.int .i64 x.2.1)])) Bf ⟨rfl,trivial⟩ ?_))))))));rintro ⟨Bg,Eg,Eh,Ei,Ej,Ek⟩ J1 J2 Ut Bh Bi J3;(try dsimp only [Kst.L,List.set,AHd,AKw] at Bh);refine (show W _ _ _ (setL [(13,(.int .i64 Bg))] (mix _ J1 _)) J2 from ?_);(try dsimp only at Bi);unfold AEx at Bi;refine Zo (AAv rfl rfl (Zs (Zp (⟨_,rfl,fun Cn=>?_,fun Cn=>?_⟩))))
    ·refine Zw (q_t (Zp (Zt (Zo (Zk (AA5 (Zu (Zt (AFo 8796092956800 (fun x:(Int) × (Int) × (LiI) × LnA × LnN × LvA=>(x.1,x.2.1,x.2.2.1)) ((0,Eg,Eh,Ei,Ej,Ek):(Int) × (Int) × (LiI) × LnA × LnN × LvA) (AA8 Bi Cn) (fun x=>[(7,(.int .i64 x.1))]) (fun x=>(Bh.L.set 0 (aO2 (cI .i64) 60 2 x.2.2.2.1 x.2.2.2.2.1 x.2.2.2.2.2 Ba x.2.2.1)).set 1 (aB 105 Aa [Ab,(.int .i64 x.2.1)])) Bh ⟨rfl,trivial⟩ ?_)))))))));rintro ⟨El,Co,Uu,Uv,Uw,Ux⟩ J4 Az Uy Ag Bj J5;(try dsimp only [Kst.L,List.set,AHd,AKw] at Ag);refine (show W _ _ _ (setL [(7,(.int .i64 El))] (mix _ J4 _)) Az from ?_);(try dsimp only at Bj);unfold AG9 at Bj;refine Zp (Zo (Zk (Zk (AAv rfl rfl (Zs (⟨_,rfl,fun Cp=>?_,fun Cp=>?_⟩))))))
     ·refine Zw (q_t (Zp (Zt (Zp (ACj (fun h'=>UpT ([Aa] ++ []) Az h') Zy ?_)))));have Cq:UpT ([Aa] ++ []) Az Az:=UpT.start (ACz (AGf (Ag.b p1) rfl) all_nil);refine Zk (Zk ?_);obtain ⟨Uz,Cr,J6⟩:=Zq (AA8 Bj Cp);refine ADb AAg rfl (Ag.o2 p0) rfl Cr fun U0 U3 J7 J8 J9=>ACl AA3 rfl Cq (fun h' hb=>AMi J9 hb (ASw (Ag.dj p0 p1 Zl _ (by simp [aO,aO2,J7])) ASx)) (Zk (Zk ?_));obtain ⟨Ka,Em,En⟩:=Zq J6;have Eo:UpT ([Aa] ++ []) Az Az:=UpT.start (ACz (AGf (Ag.b p1) rfl) all_nil);refine AA0 (K':=(fun xr h'=> ∃ x:(Int) × (Int),(x.1,x.2)=Ka/\xr=(.int .i64 x.1)/\Kst h h' (Ag.L.set 1 (aB 105 Aa [Ab,(.int .i64 x.2)]))/\UpT ([Aa] ++ []) Az h')) Cq rfl ?_ fun U8 Va Kb=>?_
      ·refine cwf (l:=[_]) Tryz.func119 rfl rfl (Zo (Zu (Zp (Zp (AGe (Zk (AC7 rfl (ACd ADa rfl (AA7 ABv rfl ((Ag.b p1).cell (i:=1) rfl) (Zk (AC7 rfl (ACd AJ5 rfl (AA7 ARd rfl ((Ag.b p1).cell (i:=0) rfl) (ABj ASa rfl H4 (AMn rfl rfl (Zs (⟨_,rfl,fun Ct=>?_,fun Ct=>?_⟩)))))))))))))))))
       ·refine Zo (Zu (Zx (AAd (⟨_,Zz,((0,Co):(Int) × (Int)),?_,rfl,?_,?_⟩))))
        ·exact Zm (AA8 Em Ct)
        ·exact Ag
        ·exact Eo
       ·refine Zw (q_t (Zo (Zk (AC7 rfl (ACd ADa rfl (AA7 ABv rfl ((Ag.b p1).cell (i:=1) rfl) (AAx rfl rfl (AC7 rfl (ACd ADa rfl (AQs [Ab,(.int .i64 (w64 (Co + 1)))] ABv rfl rfl rfl (Ag.b p1) (Nat.le_of_ble_eq_true rfl) rfl fun Vb Ep Er=>Zs (Zp (AGe (Zk (AC7 rfl (ACd AJ5 rfl ?_)))))))))))))));have Bl:=Ag.sb p1 Er Ep rfl;refine AA7 ARd rfl ((Bl.b p1).cell (i:=0) rfl) (Zk (AC7 rfl (ACd ADa rfl (AA7 ABv rfl ((Bl.b p1).cell (i:=1) rfl) (AFl rfl rfl ?_)))));obtain ⟨Kc,Kd,Ke⟩:=Zq (AA9 Em Ct);refine AI2 (c:=(cI .i8)) ASa rfl H4 rfl Kd fun Vc Vd Ve Kf Kg=>?_;obtain rfl:=Kf;refine AA7 Aai rfl (AAz (Kg 0 _ rfl) Bl.x) (AMy Aaj AK3 rfl (Zu (Zx (⟨_,Zz,(((w64 Kc),(w64 (Co + 1))):(Int) × (Int)),?_,rfl,?_,?_⟩))))
        ·exact Zm Ke
        ·exact Bl
        ·exact (Eo.then (Ep.stA Er (AGf (Ag.b p1) rfl) rfl) (ANp rfl))
      obtain ⟨⟨Kh,Vf⟩,Ki,rfl,Cu,Kj⟩:=Kb;(try dsimp only [Kst.L,List.set,AHd,AKw] at Cu);refine ⟨(Cq.then Kj (ACz (ANp rfl) all_nil)),?_⟩;subst Ki;(try dsimp only at En);refine ADk rfl rfl Zl ?_;obtain ⟨Vg,Es,Kk⟩:=Zq En;refine AE9 (m:=Bg) AAi rfl (Ag.o2 p0) J8 Cr rfl Es fun Vh Kl=>ANv (m:=Bg) (ANi AAl rfl rfl rfl) (Cu.o2 p0) Kl Cr Es (show ((cI .i64)).rep _ (Int.tmod Kh 3) _ from rfl) fun Vi Km Kn=>Zs (AGe (Zk (Zk ?_)));have Bm:=Cu.uO2 p0 Kn Km;obtain ⟨Vj,Et,Ko⟩:=Zq Kk;refine AB1 AAg AA3 (Bm.o2 p0) Et fun _ Vk Kp=>Zk (Zk (Zk ?_));obtain ⟨Vl,Eu,Kr⟩:=Zq Ko;refine AB1 AAg AA3 (Bm.o2 p0) Eu fun _ Vm Kt=>Zk ?_;obtain ⟨Vn,Ku,Kv⟩:=Zq Kr;refine AIy (m:=Bg) AAi AAl (Bm.o2 p0) Kt Eu Ku fun _=>?_;obtain ⟨Vo,Kw,Kx⟩:=Zq Kv;refine ALo (m:=El) Bm p0 AAi AAl Kp Et Kw (fun _=>rfl) fun _ Vp Ky=>AAo (q_b (q_t (AAc (Zk (AAx rfl rfl (Zu ?_))))));exact ⟨(_,_,_,_,_,_),(Zm Kx).symm,Ky,rfl,trivial⟩
     ·have Ev:=J5 _ (Zm (AA9 Bj Cp)).symm;(try dsimp only at Ev);refine AAj (AAk (AAk (ABm (q_b (q_t (AAc (AAx rfl rfl (Zk (Zs ?_)))))))));exact ⟨(_,_,_,_,_,_),(Zm Ev).symm,Ag,rfl,trivial⟩
    ·have Ew:=J3 _ (Zm (AA9 Bi Cn)).symm;(try dsimp only at Ew);refine AAj (AAk (AAk (ABm (q_t (Zo (Zk (Zu (Zx (⟨_,Zz,((Eh,Ba,Ei,Ej,Ek,Eg):(LiI) × (Value) × LnA × LnN × LvA × (Int)),?_,rfl,?_⟩)))))))))
     ·exact Zm Ew
     ·exact Bh
   obtain ⟨⟨Kz,D3,La,Lb,Lc,Ld⟩,Le,rfl,Ey⟩:=Hv;(try dsimp only [Kst.L,List.set,AHd,AKw] at Ey);refine ⟨trivial,?_⟩;subst Le;(try dsimp only at D2);refine AAn (AAo (q_b (q_t ?_)));exact ⟨((Kz,D3,La,Lb,Lc,Ld):(LiI) × (Value) × LnA × LnN × LvA × (Int)),⟨Zm D2,Ey⟩,rfl,trivial⟩
  ·refine Zo (ABx rfl rfl (Zu ?_));have Ez:=AFe B8 Cd;refine ⟨_,rfl,fun Cv=>?_,fun Cv=>?_⟩
   ·refine Zo (Zk ?_);obtain ⟨Lf,Lg,Lh⟩:=Zq (AA8 Ez Cv);refine AM5 Ao (AOj Lg) fun Li Lj Lk Ll Aq Vs Ac=>Zu (ACj (fun h'=>UpT ([Aa] ++ []) Aq h') Zy ?_);have Bn:UpT ([Aa] ++ []) Aq Aq:=UpT.start (ACz (AGf (Ac.b p1) rfl) all_nil);refine Zk ?_;obtain ⟨Lm,A4,Lo⟩:=Zq Lh;refine ADb AAg rfl (Ac.o2 p0) rfl A4 fun Vt Vu Lq Fa Lr=>ACl AA3 rfl Bn (fun h' hb=>AMi Lr hb (ASw (Ac.dj p0 p1 Zl _ (by simp [aO,aO2,Lq])) ASx)) ?_;obtain ⟨Fb,Bo,Lv⟩:=Zq Lo;refine AE9 (m:=0) AAi rfl (Ac.o2 p0) Fa A4 rfl Bo fun Vv Fc=>?_;obtain ⟨Vw,Lw,Lx⟩:=(Ac.o2 p0).cells Fc A4 Bo;obtain rfl:=Lw;refine ACl AAl rfl Bn (fun h' hb=>AMi (Lx 0 _ rfl) hb (ASw (Ac.dj p0 p1 Zl _ ((Ac.o2 p0).gmem Fc)) ASx)) (Zk ?_);obtain ⟨Ly,Lz,Fd⟩:=Zq Lv;have L9:UpT ([Aa] ++ []) Aq Aq:=UpT.start (ACz (AGf (Ac.b p1) rfl) all_nil);refine AA0 (K':=(fun xr h'=> ∃ x:(Int) × (Int),(x.1,x.2)=Ly/\xr=(.int .i64 x.1)/\Kst h h' (Ac.L.set 1 (aB 105 Aa [Ab,(.int .i64 x.2)]))/\UpT ([Aa] ++ []) Aq h')) Bn rfl ?_ fun Vx Vy Ma=>?_
    ·refine cwf (l:=[_,_]) Tryz.func65 rfl rfl (Zo (AA5 (Zk ?_)));obtain ⟨Mb,Fe,Ff⟩:=Zq Lz;have Fg:UpT ([Aa] ++ []) Aq Aq:=UpT.start (ACz (AGf (Ac.b p1) rfl) all_nil);refine AA0 (K':=(fun xr h'=> ∃ x:(Int) × (Int),(x.1,x.2)=Mb/\xr=(.int .i64 x.1)/\Kst h h' (Ac.L.set 1 (aB 105 Aa [Ab,(.int .i64 x.2)]))/\UpT ([Aa] ++ []) Aq h')) trivial rfl ?_ fun Vz V1 Mc=>?_
     ·refine cwf (l:=[_]) Tryz.func119 rfl rfl (Zo (Zu (Zp (Zp (AGe (Zk (AC7 rfl (ACd ADa rfl (AA7 ABv rfl ((Ac.b p1).cell (i:=1) rfl) (Zk (AC7 rfl (ACd AJ5 rfl (AA7 ARd rfl ((Ac.b p1).cell (i:=0) rfl) (ABj ASa rfl H4 (AMn rfl rfl (Zs (⟨_,rfl,fun Cw=>?_,fun Cw=>?_⟩)))))))))))))))))
      ·refine Zo (Zu (Zx (AAd (⟨_,Zz,((0,0):(Int) × (Int)),?_,rfl,?_,?_⟩))))
       ·exact Zm (AA8 Fe Cw)
       ·exact Ac
       ·exact Fg
      ·refine Zw (q_t (Zo (Zk (AC7 rfl (ACd ADa rfl (AA7 ABv rfl ((Ac.b p1).cell (i:=1) rfl) (AAx rfl rfl (AC7 rfl (ACd ADa rfl (AQs [Ab,(.int .i64 (w64 (0 + 1)))] ABv rfl rfl rfl (Ac.b p1) (Nat.le_of_ble_eq_true rfl) rfl fun V4 Fh Fi=>Zs (Zp (AGe (Zk (AC7 rfl (ACd AJ5 rfl ?_)))))))))))))));have Bp:=Ac.sb p1 Fi Fh rfl;refine AA7 ARd rfl ((Bp.b p1).cell (i:=0) rfl) (Zk (AC7 rfl (ACd ADa rfl (AA7 ABv rfl ((Bp.b p1).cell (i:=1) rfl) (AFl rfl rfl ?_)))));obtain ⟨Md,Me,Mf⟩:=Zq (AA9 Fe Cw);refine AI2 (c:=(cI .i8)) ASa rfl H4 rfl Me fun V5 V6 V8 Mg Mh=>?_;obtain rfl:=Mg;refine AA7 Aai rfl (AAz (Mh 0 _ rfl) Bp.x) (AMy Aaj AK3 rfl (Zu (Zx (⟨_,Zz,(((w64 Md),(w64 (0 + 1))):(Int) × (Int)),?_,rfl,?_,?_⟩))))
       ·exact Zm Mf
       ·exact Bp
       ·exact (Fg.then (Fh.stA Fi (AGf (Ac.b p1) rfl) rfl) (ANp rfl))
     obtain ⟨⟨Mi,Mj⟩,Mk,rfl,Fj,Ml⟩:=Mc;(try dsimp only [Kst.L,List.set,AHd,AKw] at Fj);refine ⟨trivial,?_⟩;subst Mk;(try dsimp only at Ff);refine AMy AK3 ASb rfl (AMy ASb ARe rfl (Zk (ADk rfl rfl Zl (Zu (Zx (⟨_,Zz,(((Int.tmod (w64 (IntKind.wrap .u8 Mi)) 3),Mj):(Int) × (Int)),?_,rfl,?_,?_⟩))))))
     ·exact Zm Ff
     ·exact Fj
     ·exact (L9.then Ml (ACz (ANp rfl) all_nil))
    obtain ⟨⟨Fk,Mm⟩,Mo,rfl,Cx,Mq⟩:=Ma;(try dsimp only [Kst.L,List.set,AHd,AKw] at Cx);refine ⟨(Bn.then Mq (ACz (ANp rfl) all_nil)),?_⟩;subst Mo;(try dsimp only at Fd);refine AAx rfl rfl (AE9 (m:=0) AAi rfl (Ac.o2 p0) Fa A4 rfl Bo fun V9 Mr=>ANv (m:=0) (ANi AAl rfl rfl rfl) (Cx.o2 p0) Mr A4 Bo (show ((cI .i64)).rep _ (w64 (Fb + Fk)) _ from rfl) fun Wa Ms Mt=>AAo (q_b (q_t ?_)));exact ⟨(((sI Lf 0 (sI Lm 0 (w64 (Fb + Fk)))),Ll,Li,Lj,Lk,Mm):(LiI) × (Value) × LnA × LnN × LvA × (Int)),⟨Zm Fd,(Cx.uO2 p0 Mt Ms)⟩,rfl,trivial⟩
   ·refine Zo (ABx rfl rfl (Zu ?_));have Fl:=AA9 Ez Cv;refine ⟨_,rfl,fun Cy=>?_,fun Cy=>?_⟩
    ·refine Zo (Zk ?_);obtain ⟨Mu,Mv,Mw⟩:=Zq (AA8 Fl Cy);refine AM5 Ao (AOj Mv) fun Mx My Mz M0 Ar Wb Ad=>Zu (ACj (fun h'=>UpT ([Aa] ++ []) Ar h') Zy ?_);have Bq:UpT ([Aa] ++ []) Ar Ar:=UpT.start (ACz (AGf (Ad.b p1) rfl) all_nil);refine Zk (Zk (AFl rfl rfl ?_));obtain ⟨M2,A5,M3⟩:=Zq Mw;refine ADb AAg rfl (Ad.o2 p0) rfl A5 fun Wc Wd M4 Fm M5=>ACl AA3 rfl Bq (fun h' hb=>AMi M5 hb (ASw (Ad.dj p0 p1 Zl _ (by simp [aO,aO2,M4])) ASx)) (Zk (AFl rfl rfl ?_));obtain ⟨Fo,Br,M6⟩:=Zq M3;refine AE9 (m:=(w64 ((w64 (1 + (Int.tmod (w64 a1) Am))) - 1))) AAi rfl (Ad.o2 p0) Fm A5 rfl Br fun We Fp=>?_;obtain ⟨Wf,M7,M8⟩:=(Ad.o2 p0).cells Fp A5 Br;obtain rfl:=M7;refine ACl AAl rfl Bq (fun h' hb=>AMi (M8 0 _ rfl) hb (ASw (Ad.dj p0 p1 Zl _ ((Ad.o2 p0).gmem Fp)) ASx)) (Zk ?_);obtain ⟨M9,Na,Fq⟩:=Zq M6;have Nb:UpT ([Aa] ++ []) Ar Ar:=UpT.start (ACz (AGf (Ad.b p1) rfl) all_nil);refine AA0 (K':=(fun xr h'=> ∃ x:(Int) × (Int),(x.1,x.2)=M9/\xr=(.int .i64 x.1)/\Kst h h' (Ad.L.set 1 (aB 105 Aa [Ab,(.int .i64 x.2)]))/\UpT ([Aa] ++ []) Ar h')) Bq rfl ?_ fun Wg Wh Nc=>?_
     ·refine cwf (l:=[_,_]) Tryz.func65 rfl rfl (Zo (AA5 (Zk ?_)));obtain ⟨Nd,Fr,Ft⟩:=Zq Na;have Fu:UpT ([Aa] ++ []) Ar Ar:=UpT.start (ACz (AGf (Ad.b p1) rfl) all_nil);refine AA0 (K':=(fun xr h'=> ∃ x:(Int) × (Int),(x.1,x.2)=Nd/\xr=(.int .i64 x.1)/\Kst h h' (Ad.L.set 1 (aB 105 Aa [Ab,(.int .i64 x.2)]))/\UpT ([Aa] ++ []) Ar h')) trivial rfl ?_ fun Wi Wj Nf=>?_
      ·refine cwf (l:=[_]) Tryz.func119 rfl rfl (Zo (Zu (Zp (Zp (AGe (Zk (AC7 rfl (ACd ADa rfl (AA7 ABv rfl ((Ad.b p1).cell (i:=1) rfl) (Zk (AC7 rfl (ACd AJ5 rfl (AA7 ARd rfl ((Ad.b p1).cell (i:=0) rfl) (ABj ASa rfl H4 (AMn rfl rfl (Zs (⟨_,rfl,fun Cz=>?_,fun Cz=>?_⟩)))))))))))))))))
       ·refine Zo (Zu (Zx (AAd (⟨_,Zz,((0,0):(Int) × (Int)),?_,rfl,?_,?_⟩))))
        ·exact Zm (AA8 Fr Cz)
        ·exact Ad
        ·exact Fu
       ·refine Zw (q_t (Zo (Zk (AC7 rfl (ACd ADa rfl (AA7 ABv rfl ((Ad.b p1).cell (i:=1) rfl) (AAx rfl rfl (AC7 rfl (ACd ADa rfl (AQs [Ab,(.int .i64 (w64 (0 + 1)))] ABv rfl rfl rfl (Ad.b p1) (Nat.le_of_ble_eq_true rfl) rfl fun Wk Fv Fw=>Zs (Zp (AGe (Zk (AC7 rfl (ACd AJ5 rfl ?_)))))))))))))));have Bt:=Ad.sb p1 Fw Fv rfl;refine AA7 ARd rfl ((Bt.b p1).cell (i:=0) rfl) (Zk (AC7 rfl (ACd ADa rfl (AA7 ABv rfl ((Bt.b p1).cell (i:=1) rfl) (AFl rfl rfl ?_)))));obtain ⟨Ng,Nh,Ni⟩:=Zq (AA9 Fr Cz);refine AI2 (c:=(cI .i8)) ASa rfl H4 rfl Nh fun Wl Wm Wn Nj Nk=>?_;obtain rfl:=Nj;refine AA7 Aai rfl (AAz (Nk 0 _ rfl) Bt.x) (AMy Aaj AK3 rfl (Zu (Zx (⟨_,Zz,(((w64 Ng),(w64 (0 + 1))):(Int) × (Int)),?_,rfl,?_,?_⟩))))
        ·exact Zm Ni
        ·exact Bt
        ·exact (Fu.then (Fv.stA Fw (AGf (Ad.b p1) rfl) rfl) (ANp rfl))
      obtain ⟨⟨Nl,Nm⟩,Nn,rfl,Fx,Np⟩:=Nf;(try dsimp only [Kst.L,List.set,AHd,AKw] at Fx);refine ⟨trivial,?_⟩;subst Nn;(try dsimp only at Ft);refine AMy AK3 ASb rfl (AMy ASb ARe rfl (Zk (ADk rfl rfl Zl (Zu (Zx (⟨_,Zz,(((Int.tmod (w64 (IntKind.wrap .u8 Nl)) 2),Nm):(Int) × (Int)),?_,rfl,?_,?_⟩))))))
      ·exact Zm Ft
      ·exact Fx
      ·exact (Nb.then Np (ACz (ANp rfl) all_nil))
     obtain ⟨⟨Fy,Nq⟩,Nr,rfl,C0,Ns⟩:=Nc;(try dsimp only [Kst.L,List.set,AHd,AKw] at C0);refine ⟨(Bq.then Ns (ACz (ANp rfl) all_nil)),?_⟩;subst Nr;(try dsimp only at Fq);refine AAx rfl rfl (AE9 (m:=(w64 ((w64 (1 + (Int.tmod (w64 a1) Am))) - 1))) AAi rfl (Ad.o2 p0) Fm A5 rfl Br fun Wo Nt=>ANv (m:=(w64 ((w64 (1 + (Int.tmod (w64 a1) Am))) - 1))) (ANi AAl rfl rfl rfl) (C0.o2 p0) Nt A5 Br (show ((cI .i64)).rep _ (w64 (Fo + Fy)) _ from rfl) fun Wp Nu Nv=>AAo (q_b (q_t ?_)));exact ⟨(((sI Mu (w64 ((w64 (1 + (Int.tmod (w64 a1) Am))) - 1)) (sI M2 (w64 ((w64 (1 + (Int.tmod (w64 a1) Am))) - 1)) (w64 (Fo + Fy)))),M0,Mx,My,Mz,Nq):(LiI) × (Value) × LnA × LnN × LvA × (Int)),⟨Zm Fq,(C0.uO2 p0 Nv Nu)⟩,rfl,trivial⟩
    ·refine Zo (ABx rfl rfl (Zu ?_));have Fz:=AA9 Fl Cy;refine ⟨_,rfl,fun C1=>?_,fun C1=>?_⟩
     ·refine AAc (Zk (Zk ?_));obtain ⟨Nw,Ny,F4⟩:=Zq (AA8 Fz C1);refine AA0 (K':=(fun xr h'=> ∃ x:(LiI) × (Value) × LnA × LnN × LvA × (Int),(x.1,x.2.2.2.2.2)=Nw/\xr=x.2.1/\Kst h h' (aO2 (cI .i64) 60 2 x.2.2.1 x.2.2.2.1 x.2.2.2.2.1 x.2.1 x.1 :: (Ao.L.set 0 (aB 105 Aa [Ab,(.int .i64 x.2.2.2.2.2)]))))) trivial rfl ?_ fun F5 Wq Nz=>?_
      ·refine cwf (l:=[_,_,_]) Tryz.func66 rfl rfl (Zo (AA5 (Zk ?_)));obtain ⟨N0,N3⟩:=ifN Ny;refine ASh (cI .i64) 2 AAg AMl rfl trivial tt2 rfl rfl Zl N0 fun N4 N5 N6 F6 Wr N7 N8 N9=>Zu (Zp (Zo (Zk ?_)));have C2:=Ao.no2 N8 N9 N7;refine AA6 AAg rfl (C2.o2 p0).rd (Zk (Zs (Zt (AFo 4294959360 (fun x:(Int) × (Int) × (LiI) × LnA × LnN × LvA=>(x.1,x.2.1,x.2.2.1)) ((0,0,(List.replicate (Int.toNat (w64 (1 + (Int.tmod (w64 a1) Am)))) ([]:List Int)),N4,N5,N6):(Int) × (Int) × (LiI) × LnA × LnN × LvA) N3 (fun x=>[(13,(.int .i64 x.1))]) (fun x=>(C2.L.set 0 (aO2 (cI .i64) 60 2 x.2.2.2.1 x.2.2.2.2.1 x.2.2.2.2.2 F6 x.2.2.1)).set 1 (aB 105 Aa [Ab,(.int .i64 x.2.1)])) C2 ⟨rfl,trivial⟩ ?_))));rintro ⟨C3,Bu,Oa,Ob,Oc,Od⟩ Oe Og Ws C4 Bv Oh;(try dsimp only [Kst.L,List.set,AHd,AKw] at C4);refine (show W _ _ _ (setL [(13,(.int .i64 C3))] (mix _ Oe _)) Og from ?_);(try dsimp only at Bv);unfold AEe at Bv;refine Zo (AAv rfl rfl (Zs (Zp (⟨_,rfl,fun C5=>?_,fun C5=>?_⟩))))
       ·refine Zw (q_t (Zp (Zt (Zo (Zk (AA5 (Zk (Zk (Zk ?_)))))))));obtain ⟨Oi,Oj⟩:=ifN (AA8 Bv C5);refine AQh (c:=(cI .i64)) (a:=0) AAi AI0 rfl rfl (fun _=>rfl) rfl trivial tt2 rfl rfl Zl Oi fun Wt Wu Wv Ol Om On Oo=>?_;have A6:=C4.no Om (AE8 On Oo) Ol;obtain ⟨Ww,F7,Oq⟩:=Zq Oj;refine ADb AAg rfl (A6.o2 p1) rfl F7 fun Wx Wy Ot Wz W0=>ASg AA3 (A6.o2 p1) F7 Ot rfl rfl (A6.o p0) (A6.dj p0 p1 Zl) fun Au Ou Ov Ow=>Zs (ACj (fun h'=>UpT ([Aa] ++ []) Au h') Zy ?_);have Ah:=A6.m2 p0 p1 Zl Ov Ou (fun z hz=> .inl (Ow z hz));have C6:UpT ([Aa] ++ []) Au Au:=UpT.start (ACz (AGf (Ah.b p2) rfl) all_nil);refine Zk (Zk ?_);obtain ⟨W1,C7,Ox⟩:=Zq Oq;refine ADb AAg rfl (Ah.o2 p1) rfl C7 fun W3 W4 Oy Oz O0=>ACl AA3 rfl C6 (fun h' hb=>AMi O0 hb (ASw (Ah.dj p1 p2 Zl _ (by simp [aO,aO2,Oy])) ASx)) (Zk (Zk (Zk ?_)));obtain ⟨O1,O2,F8⟩:=Zq Ox;have O3:UpT ([Aa] ++ []) Au Au:=UpT.start (ACz (AGf (Ah.b p2) rfl) all_nil);refine AA0 (K':=(fun xr h'=> ∃ x:(Int) × (Int),(x.1,x.2)=O1/\xr=(.int .i64 x.1)/\Kst h h' ((AHd Ah.L [1,2]).set 1 (aB 105 Aa [Ab,(.int .i64 x.2)]))/\UpT ([Aa] ++ []) Au h')) C6 rfl ?_ fun W5 W6 O4=>?_
        ·refine cwf (l:=[_,_]) Tryz.func65 rfl rfl (Zo (AA5 (Zk ?_)));obtain ⟨O5,F9,Ga⟩:=Zq O2;have Gb:UpT ([Aa] ++ []) Au Au:=UpT.start (ACz (AGf (Ah.b p2) rfl) all_nil);refine AA0 (K':=(fun xr h'=> ∃ x:(Int) × (Int),(x.1,x.2)=O5/\xr=(.int .i64 x.1)/\Kst h h' ((AHd Ah.L [1,2]).set 1 (aB 105 Aa [Ab,(.int .i64 x.2)]))/\UpT ([Aa] ++ []) Au h')) trivial rfl ?_ fun W7 W8 O6=>?_
         ·refine cwf (l:=[_]) Tryz.func119 rfl rfl (Zo (Zu (Zp (Zp (AGe (Zk (AC7 rfl (ACd ADa rfl (AA7 ABv rfl ((Ah.b p2).cell (i:=1) rfl) (Zk (AC7 rfl (ACd AJ5 rfl (AA7 ARd rfl ((Ah.b p2).cell (i:=0) rfl) (ABj ASa rfl H4 (AMn rfl rfl (Zs (⟨_,rfl,fun C8=>?_,fun C8=>?_⟩)))))))))))))))))
          ·refine Zo (Zu (Zx (AAd (⟨_,Zz,((0,Bu):(Int) × (Int)),?_,rfl,?_,?_⟩))))
           ·exact Zm (AA8 F9 C8)
           ·exact Ah.sel [1,2] Zl
           ·exact Gb
          ·refine Zw (q_t (Zo (Zk (AC7 rfl (ACd ADa rfl (AA7 ABv rfl ((Ah.b p2).cell (i:=1) rfl) (AAx rfl rfl (AC7 rfl (ACd ADa rfl (AQs [Ab,(.int .i64 (w64 (Bu + 1)))] ABv rfl rfl rfl (Ah.b p2) (Nat.le_of_ble_eq_true rfl) rfl fun Xa Gc Gd=>Zs (Zp (AGe (Zk (AC7 rfl (ACd AJ5 rfl ?_)))))))))))))));have Bw:=Ah.sb p2 Gd Gc rfl;refine AA7 ARd rfl ((Bw.b p2).cell (i:=0) rfl) (Zk (AC7 rfl (ACd ADa rfl (AA7 ABv rfl ((Bw.b p2).cell (i:=1) rfl) (AFl rfl rfl ?_)))));obtain ⟨O7,O8,O9⟩:=Zq (AA9 F9 C8);refine AI2 (c:=(cI .i8)) ASa rfl H4 rfl O8 fun Xb Xc Xd Pa Pb=>?_;obtain rfl:=Pa;refine AA7 Aai rfl (AAz (Pb 0 _ rfl) Bw.x) (AMy Aaj AK3 rfl (Zu (Zx (⟨_,Zz,(((w64 O7),(w64 (Bu + 1))):(Int) × (Int)),?_,rfl,?_,?_⟩))))
           ·exact Zm O9
           ·exact Bw.sel [1,2] Zl
           ·exact (Gb.then (Gc.stA Gd (AGf (Ah.b p2) rfl) rfl) (ANp rfl))
         obtain ⟨⟨Pc,Pd⟩,Pe,rfl,Ge,Pf⟩:=O6;(try dsimp only [Kst.L,List.set,AHd,AKw] at Ge);refine ⟨trivial,?_⟩;subst Pe;(try dsimp only at Ga);refine AMy AK3 ASb rfl (AMy ASb ARe rfl (Zk (ADk rfl rfl Zl (Zu (Zx (⟨_,Zz,(((Int.tmod (w64 (IntKind.wrap .u8 Pc)) 9),Pd):(Int) × (Int)),?_,rfl,?_,?_⟩))))))
         ·exact Zm Ga
         ·exact Ge
         ·exact (O3.then Pf (ACz (ANp rfl) all_nil))
        obtain ⟨⟨Pg,Xe⟩,Ph,rfl,C9,Pj⟩:=O4;(try dsimp only [Kst.L,List.set,AHd,AKw] at C9);refine ⟨(C6.then Pj (ACz (ANp rfl) all_nil)),?_⟩;subst Ph;(try dsimp only at F8);refine AAx rfl rfl ?_;obtain ⟨Xf,Gf,Pk⟩:=Zq F8;refine AE9 (m:=C3) AAi rfl (Ah.o2 p1) Oz C7 rfl Gf fun Xg Pl=>ANv (m:=C3) (ANi AAl rfl rfl rfl) (C9.o2 p0) Pl C7 Gf (show ((cI .i64)).rep _ (w64 (1 + Pg)) _ from rfl) fun Xh Pm Pn=>AAo (q_b (q_t (AAc (AAx rfl rfl (Zk (Zs ?_))))));exact ⟨(_,_,_,_,_,_),(Zm Pk).symm,(C9.uO2 p0 Pn Pm),rfl,trivial⟩
       ·have Gg:=Oh _ (Zm (AA9 Bv C5)).symm;(try dsimp only at Gg);refine AAj (AAk (AAk (ABm (q_t (Zo (Zk (Zu (Zx (⟨_,Zz,((Oa,F6,Ob,Oc,Od,Bu):(LiI) × (Value) × LnA × LnN × LvA × (Int)),?_,rfl,?_⟩)))))))))
        ·exact Zm Gg
        ·exact C4
      obtain ⟨⟨Po,F5,Pp,Pq,Ps,Pt⟩,Pu,rfl,Gh⟩:=Nz;(try dsimp only [Kst.L,List.set,AHd,AKw] at Gh);refine ⟨trivial,?_⟩;subst Pu;(try dsimp only at F4);refine AAn (AAo (q_b (q_t ?_)));exact ⟨((Po,F5,Pp,Pq,Ps,Pt):(LiI) × (Value) × LnA × LnN × LvA × (Int)),⟨Zm F4,Gh⟩,rfl,trivial⟩
     ·refine AAc (Zk (Zk ?_));obtain ⟨Pv,Pw,Gi⟩:=Zq (AA9 Fz C1);refine AA0 (K':=(fun xr h'=> ∃ x:(LiI) × (Value) × LnA × LnN × LvA × (Int),(x.1,x.2.2.2.2.2)=Pv/\xr=x.2.1/\Kst h h' (aO2 (cI .i64) 60 2 x.2.2.1 x.2.2.2.1 x.2.2.2.2.1 x.2.1 x.1 :: (Ao.L.set 0 (aB 105 Aa [Ab,(.int .i64 x.2.2.2.2.2)]))))) trivial rfl ?_ fun Gj Xi Px=>?_
      ·refine cwf (l:=[_,_,_]) Tryz.func66 rfl rfl (Zo (AA5 (Zk ?_)));obtain ⟨Py,Pz⟩:=ifN Pw;refine ASh (cI .i64) 2 AAg AMl rfl trivial tt2 rfl rfl Zl Py fun P0 P1 P2 Gk Xj P3 P4 P5=>Zu (Zp (Zo (Zk ?_)));have Da:=Ao.no2 P4 P5 P3;refine AA6 AAg rfl (Da.o2 p0).rd (Zk (Zs (Zt (AFo 4294959360 (fun x:(Int) × (Int) × (LiI) × LnA × LnN × LvA=>(x.1,x.2.1,x.2.2.1)) ((0,0,(List.replicate (Int.toNat (w64 (1 + (Int.tmod (w64 a1) Am)))) ([]:List Int)),P0,P1,P2):(Int) × (Int) × (LiI) × LnA × LnN × LvA) Pz (fun x=>[(13,(.int .i64 x.1))]) (fun x=>(Da.L.set 0 (aO2 (cI .i64) 60 2 x.2.2.2.1 x.2.2.2.2.1 x.2.2.2.2.2 Gk x.2.2.1)).set 1 (aB 105 Aa [Ab,(.int .i64 x.2.1)])) Da ⟨rfl,trivial⟩ ?_))));rintro ⟨Db,Bx,P6,P7,P8,P9⟩ Qa Qb Xk Dc By Qc;(try dsimp only [Kst.L,List.set,AHd,AKw] at Dc);refine (show W _ _ _ (setL [(13,(.int .i64 Db))] (mix _ Qa _)) Qb from ?_);(try dsimp only at By);unfold AEf at By;refine Zo (AAv rfl rfl (Zs (Zp (⟨_,rfl,fun Dd=>?_,fun Dd=>?_⟩))))
       ·refine Zw (q_t (Zp (Zt (Zo (Zk (AA5 (Zk (Zk (Zk ?_)))))))));obtain ⟨Qd,Qe⟩:=ifN (AA8 By Dd);refine AQh (c:=(cI .i64)) (a:=0) AAi AI0 rfl rfl (fun _=>rfl) rfl trivial tt2 rfl rfl Zl Qd fun Xl Xm Xn Qf Qg Qh Qi=>?_;have A7:=Dc.no Qg (AE8 Qh Qi) Qf;obtain ⟨Xo,Gl,Qj⟩:=Zq Qe;refine ADb AAg rfl (A7.o2 p1) rfl Gl fun Xp Xq Qk Xr Xt=>ASg AA3 (A7.o2 p1) Gl Qk rfl rfl (A7.o p0) (A7.dj p0 p1 Zl) fun Av Ql Qm Qn=>Zs (ACj (fun h'=>UpT ([Aa] ++ []) Av h') Zy ?_);have Ai:=A7.m2 p0 p1 Zl Qm Ql (fun z hz=> .inl (Qn z hz));have De:UpT ([Aa] ++ []) Av Av:=UpT.start (ACz (AGf (Ai.b p2) rfl) all_nil);refine Zk (Zk ?_);obtain ⟨Xu,Df,Qo⟩:=Zq Qj;refine ADb AAg rfl (Ai.o2 p1) rfl Df fun Xv Xw Qp Qq Qr=>ACl AA3 rfl De (fun h' hb=>AMi Qr hb (ASw (Ai.dj p1 p2 Zl _ (by simp [aO,aO2,Qp])) ASx)) (Zk (Zk (Zk ?_)));obtain ⟨Qs,Qt,Gm⟩:=Zq Qo;have Qu:UpT ([Aa] ++ []) Av Av:=UpT.start (ACz (AGf (Ai.b p2) rfl) all_nil);refine AA0 (K':=(fun xr h'=> ∃ x:(Int) × (Int),(x.1,x.2)=Qs/\xr=(.int .i64 x.1)/\Kst h h' ((AHd Ai.L [1,2]).set 1 (aB 105 Aa [Ab,(.int .i64 x.2)]))/\UpT ([Aa] ++ []) Av h')) De rfl ?_ fun Xx Xy Qv=>?_
        ·refine cwf (l:=[_,_]) Tryz.func65 rfl rfl (Zo (AA5 (Zk ?_)));obtain ⟨Qw,Gn,Gp⟩:=Zq Qt;have Gq:UpT ([Aa] ++ []) Av Av:=UpT.start (ACz (AGf (Ai.b p2) rfl) all_nil);refine AA0 (K':=(fun xr h'=> ∃ x:(Int) × (Int),(x.1,x.2)=Qw/\xr=(.int .i64 x.1)/\Kst h h' ((AHd Ai.L [1,2]).set 1 (aB 105 Aa [Ab,(.int .i64 x.2)]))/\UpT ([Aa] ++ []) Av h')) trivial rfl ?_ fun Xz X0 Qx=>?_
         ·refine cwf (l:=[_]) Tryz.func119 rfl rfl (Zo (Zu (Zp (Zp (AGe (Zk (AC7 rfl (ACd ADa rfl (AA7 ABv rfl ((Ai.b p2).cell (i:=1) rfl) (Zk (AC7 rfl (ACd AJ5 rfl (AA7 ARd rfl ((Ai.b p2).cell (i:=0) rfl) (ABj ASa rfl H4 (AMn rfl rfl (Zs (⟨_,rfl,fun Dg=>?_,fun Dg=>?_⟩)))))))))))))))))
          ·refine Zo (Zu (Zx (AAd (⟨_,Zz,((0,Bx):(Int) × (Int)),?_,rfl,?_,?_⟩))))
           ·exact Zm (AA8 Gn Dg)
           ·exact Ai.sel [1,2] Zl
           ·exact Gq
          ·refine Zw (q_t (Zo (Zk (AC7 rfl (ACd ADa rfl (AA7 ABv rfl ((Ai.b p2).cell (i:=1) rfl) (AAx rfl rfl (AC7 rfl (ACd ADa rfl (AQs [Ab,(.int .i64 (w64 (Bx + 1)))] ABv rfl rfl rfl (Ai.b p2) (Nat.le_of_ble_eq_true rfl) rfl fun X3 Gr Gt=>Zs (Zp (AGe (Zk (AC7 rfl (ACd AJ5 rfl ?_)))))))))))))));have Bz:=Ai.sb p2 Gt Gr rfl;refine AA7 ARd rfl ((Bz.b p2).cell (i:=0) rfl) (Zk (AC7 rfl (ACd ADa rfl (AA7 ABv rfl ((Bz.b p2).cell (i:=1) rfl) (AFl rfl rfl ?_)))));obtain ⟨Qy,Qz,Q0⟩:=Zq (AA9 Gn Dg);refine AI2 (c:=(cI .i8)) ASa rfl H4 rfl Qz fun X4 X5 X6 Q1 Q2=>?_;obtain rfl:=Q1;refine AA7 Aai rfl (AAz (Q2 0 _ rfl) Bz.x) (AMy Aaj AK3 rfl (Zu (Zx (⟨_,Zz,(((w64 Qy),(w64 (Bx + 1))):(Int) × (Int)),?_,rfl,?_,?_⟩))))
           ·exact Zm Q0
           ·exact Bz.sel [1,2] Zl
           ·exact (Gq.then (Gr.stA Gt (AGf (Ai.b p2) rfl) rfl) (ANp rfl))
         obtain ⟨⟨Q3,Q4⟩,Q6,rfl,Gu,Q7⟩:=Qx;(try dsimp only [Kst.L,List.set,AHd,AKw] at Gu);refine ⟨trivial,?_⟩;subst Q6;(try dsimp only at Gp);refine AMy AK3 ASb rfl (AMy ASb ARe rfl (Zk (ADk rfl rfl Zl (Zu (Zx (⟨_,Zz,(((Int.tmod (w64 (IntKind.wrap .u8 Q3)) 1),Q4):(Int) × (Int)),?_,rfl,?_,?_⟩))))))
         ·exact Zm Gp
         ·exact Gu
         ·exact (Qu.then Q7 (ACz (ANp rfl) all_nil))
        obtain ⟨⟨Q8,X8⟩,Q9,rfl,Dh,Rc⟩:=Qv;(try dsimp only [Kst.L,List.set,AHd,AKw] at Dh);refine ⟨(De.then Rc (ACz (ANp rfl) all_nil)),?_⟩;subst Q9;(try dsimp only at Gm);refine AAx rfl rfl ?_;obtain ⟨Ya,Gv,Rd⟩:=Zq Gm;refine AE9 (m:=Db) AAi rfl (Ai.o2 p1) Qq Df rfl Gv fun Yb Re=>ANv (m:=Db) (ANi AAl rfl rfl rfl) (Dh.o2 p0) Re Df Gv (show ((cI .i64)).rep _ (w64 (1 + Q8)) _ from rfl) fun Yc Rf Rg=>AAo (q_b (q_t (AAc (AAx rfl rfl (Zk (Zs ?_))))));exact ⟨(_,_,_,_,_,_),(Zm Rd).symm,(Dh.uO2 p0 Rg Rf),rfl,trivial⟩
       ·have Gw:=Qc _ (Zm (AA9 By Dd)).symm;(try dsimp only at Gw);refine AAj (AAk (AAk (ABm (q_t (Zo (Zk (Zu (Zx (⟨_,Zz,((P6,Gk,P7,P8,P9,Bx):(LiI) × (Value) × LnA × LnN × LvA × (Int)),?_,rfl,?_⟩)))))))))
        ·exact Zm Gw
        ·exact Dc
      obtain ⟨⟨Rh,Gj,Ri,Rj,Rm,Rn⟩,Ro,rfl,Gx⟩:=Px;(try dsimp only [Kst.L,List.set,AHd,AKw] at Gx);refine ⟨trivial,?_⟩;subst Ro;(try dsimp only at Gi);refine AAn (AAo (q_b (q_t ?_)));exact ⟨((Rh,Gj,Ri,Rj,Rm,Rn):(LiI) × (Value) × LnA × LnN × LvA × (Int)),⟨Zm Gi,Gx⟩,rfl,trivial⟩
 rintro ⟨Yd,Rq,Ye,Yf,Yg,Rr⟩ Rs Rt ⟨Ru,Di⟩;(try dsimp only [Kst.L,List.set,AHd,AKw] at Di);refine (show W _ _ _ (setL [(7,Rq)] (mix _ Rs _)) Rt from ?_);subst Ru;(try dsimp only at Dy);refine Zp (Zo (Zk ?_));obtain ⟨Yh,Rv,Gy⟩:=Zq Dy;refine ACa Di (AUc (Di.o2 p0).rd Rv) fun Yi Yj A8=>ACr rfl (Zs (⟨_,rfl,fun Dj=>?_,fun Dj=>?_⟩))
 ·refine Zo (Zk (Zk ?_));obtain ⟨Rw,Rx,Gz⟩:=Zq (ifT Gy Dj);refine AA0 (K':=(fun xr h'=> ∃ x:(LiI) × (Value) × LnA × LnN × LvA × (Int),(x.1,x.2.2.2.2.2)=Rw/\xr=x.2.1/\Kst h h' (aO2 (cI .i64) 60 2 x.2.2.1 x.2.2.2.1 x.2.2.2.2.1 x.2.1 x.1 :: (A8.L.set 1 (aB 105 Aa [Ab,(.int .i64 x.2.2.2.2.2)]))))) trivial rfl ?_ fun Ry Yk Rz=>?_
  ·refine cwf (l:=[_,_,_]) Tryz.func66 rfl rfl (Zo (AA5 (Zk ?_)));obtain ⟨R3,R4⟩:=ifN Rx;refine ASh (cI .i64) 2 AAg AMl rfl trivial tt2 rfl rfl Zl R3 fun R5 R6 R7 G3 Yl R8 R9 Sa=>Zu (Zp (Zo (Zk ?_)));have Dk:=A8.no2 R9 Sa R8;refine AA6 AAg rfl (Dk.o2 p0).rd (Zk (Zs (Zt (AFo 4294959360 (fun x:(Int) × (Int) × (LiI) × LnA × LnN × LvA=>(x.1,x.2.1,x.2.2.1)) ((0,Rr,(List.replicate (Int.toNat (w64 (1 + (Int.tmod (w64 a1) Am)))) ([]:List Int)),R5,R6,R7):(Int) × (Int) × (LiI) × LnA × LnN × LvA) R4 (fun x=>[(13,(.int .i64 x.1))]) (fun x=>(Dk.L.set 0 (aO2 (cI .i64) 60 2 x.2.2.2.1 x.2.2.2.2.1 x.2.2.2.2.2 G3 x.2.2.1)).set 2 (aB 105 Aa [Ab,(.int .i64 x.2.1)])) Dk ⟨rfl,trivial⟩ ?_))));rintro ⟨Dl,B1,Sb,Sc,Sd,Se⟩ Sf Sg Ym Do B3 Sh;(try dsimp only [Kst.L,List.set,AHd,AKw] at Do);refine (show W _ _ _ (setL [(13,(.int .i64 Dl))] (mix _ Sf _)) Sg from ?_);(try dsimp only at B3);unfold AEg at B3;refine Zo (AAv rfl rfl (Zs (Zp (⟨_,rfl,fun Dp=>?_,fun Dp=>?_⟩))))
   ·refine Zw (q_t (Zp (Zt (Zo (Zk (AA5 (Zk (Zk (Zk ?_)))))))));obtain ⟨Si,Sj⟩:=ifN (AA8 B3 Dp);refine AQh (c:=(cI .i64)) (a:=0) AAi AI0 rfl rfl (fun _=>rfl) rfl trivial tt2 rfl rfl Zl Si fun Yn Yo Yp Sk Sm Sn So=>?_;have A9:=Do.no Sm (AE8 Sn So) Sk;obtain ⟨Yq,G4,Sq⟩:=Zq Sj;refine ADb AAg rfl (A9.o2 p1) rfl G4 fun Yr Ys Sr Yt Yu=>ASg AA3 (A9.o2 p1) G4 Sr rfl rfl (A9.o p0) (A9.dj p0 p1 Zl) fun Aw Ss St Su=>Zs (ACj (fun h'=>UpT ([Aa] ++ []) Aw h') Zy ?_);have Aj:=A9.m2 p0 p1 Zl St Ss (fun z hz=> .inl (Su z hz));have Dq:UpT ([Aa] ++ []) Aw Aw:=UpT.start (ACz (AGf (Aj.b p3) rfl) all_nil);refine Zk (Zk ?_);obtain ⟨Yv,Dr,Sv⟩:=Zq Sq;refine ADb AAg rfl (Aj.o2 p1) rfl Dr fun Yw Yx Sw Sx Sy=>ACl AA3 rfl Dq (fun h' hb=>AMi Sy hb (ASw (Aj.dj p1 p3 Zl _ (by simp [aO,aO2,Sw])) ASx)) (Zk (Zk (Zk ?_)));obtain ⟨Sz,S5,G5⟩:=Zq Sv;have S7:UpT ([Aa] ++ []) Aw Aw:=UpT.start (ACz (AGf (Aj.b p3) rfl) all_nil);refine AA0 (K':=(fun xr h'=> ∃ x:(Int) × (Int),(x.1,x.2)=Sz/\xr=(.int .i64 x.1)/\Kst h h' ((AHd Aj.L [1,2,3]).set 2 (aB 105 Aa [Ab,(.int .i64 x.2)]))/\UpT ([Aa] ++ []) Aw h')) Dq rfl ?_ fun Yy Yz Ta=>?_
    ·refine cwf (l:=[_,_]) Tryz.func65 rfl rfl (Zo (AA5 (Zk ?_)));obtain ⟨Tb,G6,G7⟩:=Zq S5;have G8:UpT ([Aa] ++ []) Aw Aw:=UpT.start (ACz (AGf (Aj.b p3) rfl) all_nil);refine AA0 (K':=(fun xr h'=> ∃ x:(Int) × (Int),(x.1,x.2)=Tb/\xr=(.int .i64 x.1)/\Kst h h' ((AHd Aj.L [1,2,3]).set 2 (aB 105 Aa [Ab,(.int .i64 x.2)]))/\UpT ([Aa] ++ []) Aw h')) trivial rfl ?_ fun Y1 Y2 Tc=>?_
     ·refine cwf (l:=[_]) Tryz.func119 rfl rfl (Zo (Zu (Zp (Zp (AGe (Zk (AC7 rfl (ACd ADa rfl (AA7 ABv rfl ((Aj.b p3).cell (i:=1) rfl) (Zk (AC7 rfl (ACd AJ5 rfl (AA7 ARd rfl ((Aj.b p3).cell (i:=0) rfl) (ABj ASa rfl H4 (AMn rfl rfl (Zs (⟨_,rfl,fun Ds=>?_,fun Ds=>?_⟩)))))))))))))))))
      ·refine Zo (Zu (Zx (AAd (⟨_,Zz,((0,B1):(Int) × (Int)),?_,rfl,?_,?_⟩))))
       ·exact Zm (AA8 G6 Ds)
       ·exact Aj.sel [1,2,3] Zl
       ·exact G8
      ·refine Zw (q_t (Zo (Zk (AC7 rfl (ACd ADa rfl (AA7 ABv rfl ((Aj.b p3).cell (i:=1) rfl) (AAx rfl rfl (AC7 rfl (ACd ADa rfl (AQs [Ab,(.int .i64 (w64 (B1 + 1)))] ABv rfl rfl rfl (Aj.b p3) (Nat.le_of_ble_eq_true rfl) rfl fun Y3 G9 Hb=>Zs (Zp (AGe (Zk (AC7 rfl (ACd AJ5 rfl ?_)))))))))))))));have B4:=Aj.sb p3 Hb G9 rfl;refine AA7 ARd rfl ((B4.b p3).cell (i:=0) rfl) (Zk (AC7 rfl (ACd ADa rfl (AA7 ABv rfl ((B4.b p3).cell (i:=1) rfl) (AFl rfl rfl ?_)))));obtain ⟨Td,Te,Tf⟩:=Zq (AA9 G6 Ds);refine AI2 (c:=(cI .i8)) ASa rfl H4 rfl Te fun Y4 Y5 Y6 Tg Th=>?_;obtain rfl:=Tg;refine AA7 Aai rfl (AAz (Th 0 _ rfl) B4.x) (AMy Aaj AK3 rfl (Zu (Zx (⟨_,Zz,(((w64 Td),(w64 (B1 + 1))):(Int) × (Int)),?_,rfl,?_,?_⟩))))
       ·exact Zm Tf
       ·exact B4.sel [1,2,3] Zl
       ·exact (G8.then (G9.stA Hb (AGf (Aj.b p3) rfl) rfl) (ANp rfl))
     obtain ⟨⟨Ti,Tj⟩,Tk,rfl,Hc,Tl⟩:=Tc;(try dsimp only [Kst.L,List.set,AHd,AKw] at Hc);refine ⟨trivial,?_⟩;subst Tk;(try dsimp only at G7);refine AMy AK3 ASb rfl (AMy ASb ARe rfl (Zk (ADk rfl rfl Zl (Zu (Zx (⟨_,Zz,(((Int.tmod (w64 (IntKind.wrap .u8 Ti)) 2),Tj):(Int) × (Int)),?_,rfl,?_,?_⟩))))))
     ·exact Zm G7
     ·exact Hc
     ·exact (S7.then Tl (ACz (ANp rfl) all_nil))
    obtain ⟨⟨Tm,Y7⟩,Tn,rfl,Dt,To⟩:=Ta;(try dsimp only [Kst.L,List.set,AHd,AKw] at Dt);refine ⟨(Dq.then To (ACz (ANp rfl) all_nil)),?_⟩;subst Tn;(try dsimp only at G5);refine AAx rfl rfl ?_;obtain ⟨Y8,Hd,Tp⟩:=Zq G5;refine AE9 (m:=Dl) AAi rfl (Aj.o2 p1) Sx Dr rfl Hd fun Y9 Tq=>ANv (m:=Dl) (ANi AAl rfl rfl rfl) (Dt.o2 p0) Tq Dr Hd (show ((cI .i64)).rep _ (w64 (1 + Tm)) _ from rfl) fun Za Tr Ts=>AAo (q_b (q_t (AAc (AAx rfl rfl (Zk (Zs ?_))))));exact ⟨(_,_,_,_,_,_),(Zm Tp).symm,(Dt.uO2 p0 Ts Tr),rfl,trivial⟩
   ·have He:=Sh _ (Zm (AA9 B3 Dp)).symm;(try dsimp only at He);refine AAj (AAk (AAk (ABm (q_t (Zo (Zk (Zu (Zx (⟨_,Zz,((Sb,G3,Sc,Sd,Se,B1):(LiI) × (Value) × LnA × LnN × LvA × (Int)),?_,rfl,?_⟩)))))))))
    ·exact Zm He
    ·exact Do
  obtain ⟨⟨Zd,Ry,Ze,Zf,Zg,Zh⟩,Tt,rfl,B5⟩:=Rz;(try dsimp only [Kst.L,List.set,AHd,AKw] at B5);refine ⟨trivial,?_⟩;subst Tt;(try dsimp only at Gz);refine Zu (Zx (AAd ?_));obtain rfl:=Zm Gz;exact ⟨_,Zz,B5.x,_,_,_,_,rfl,(B5.o2 p0),B5.s.sel [0] Zl⟩
 ·refine Zw (q_t (Zo (Zk (Zu (Zx ?_)))));obtain rfl:=Zm (AFe Gy Dj);exact ⟨_,Zz,A8.x,_,_,_,_,rfl,(A8.o2 p0),A8.s.sel [0] Zl⟩
def AD9 (fuel:Nat) (a1 a2:Int) (a5 a9:LiA) (Ae:Int):Option LiI:=
  ((AD8 fuel a1 a2 a5 a9 Ae).bind fun Af=>((ADt fuel Af).bind fun Ag=>((AGj fuel Ag).bind fun (Ah,Ai,Aj)=>(some Ah))))
theorem APq {fuel:Nat} {h:Zv} {a1 a2:Int} {Ac:Value} {a5:LiA} {Ad:Value} {a9:LiA} {Ai:Int} {r:LiI} (H4:SlC (cI .i8) h Ac a5) (H8:SlC (cI .i8) h Ad a9) (hp:AD9 fuel a1 a2 a5 a9 Ai=some r):AAw Tryz.prog 7 #[(.agg #[(.int .u8 a1),(.int .u8 a2),Ac,Ad]),(.int .i64 Ai)] h (fun x h'=>Ext h h'/\ ∃ (x0:Value) (F0:List Nat) (Au:List LnA) (Av:List Value),x=x0/\ACy (cI .i64) 60 2 h' F0 Au Av x0 r/\Sp h' h.size [F0]):=by
 unfold AD9 at hp;refine cwf (l:=[_,_]) Tryz.func7 rfl rfl (Zo (AHb (Kst.k0 h) [(.int .u8 a1),(.int .u8 a2),Ac,Ad] fun Bl Bm Bn Ae=>AA5 (ANn [(.int .u8 a1),(.int .u8 a2),Ac,Ad] Aoq rfl rfl (Ae.b p0).agg (Zk ?_))));obtain ⟨Bo,Aw,Ax⟩:=Zq hp;refine AM5 Ae (APp (H4.ext Ae.x) (H8.ext Ae.x) Aw) fun Bp Bq Br Bt Bu Bv Am=>?_;obtain ⟨Bw,Ay,Az⟩:=Zq Ax;refine AM5 Am (AJe (Am.o2 p0).rd Ay) fun Bx By Bz B1 B3 B4 Ao=>?_;obtain ⟨⟨A3,A4,B5⟩,A5,Ap⟩:=Zq Az;dsimp only at Ap;refine ANz rfl (AR1 (Ao.o2 p0).rd A5) fun B6 B7 A6 A7=>?_;obtain ⟨A8,A9,Ba,Bb,Bc,Be,Bf,Bg,rfl,Bh,Bi,Bj⟩:=A7;have Af:=Ao.n A6 [aO2 (cI .i64) 60 2 A9 Ba Bb A8 A3,aO2 cZ 128 94 Be Bf Bg Bc A4] Bj ⟨Bh,Bi,trivial⟩;simp only [List.cons_append,List.nil_append] at Af;refine Zk (ABl rfl rfl (ABl rfl rfl (ABl rfl rfl (AAn (AAn (AA5 (Zk (Zu (Zx ?_)))))))));obtain rfl:=Zm Ap;exact ⟨_,Zz,Af.x,_,_,_,_,rfl,(Af.o2 p0),Af.s.sel [0] Zl⟩
end Go.Proofs.YtdkldlbgcfpglaaGreatDoor
