/-
  Texts of a proof, joined. Conditions stand in each statement.
-/
import Derived.Test.YtdnbklmefmoofaaGreatDoorMJordanRaw5
set_option linter.unusedVariables false
set_option linter.unusedSimpArgs false
namespace Go.Proofs.YtdnbklmefmoofaaGreatDoor
open Go Go.QF
set_option maxRecDepth 100000
set_option maxHeartbeats 4000000
def APf (fuel:Nat) (a2 Ac Ab:Int):Option ((Int × Int) ⊕ ((Int × Int))):=
  (if a2≠0 then (if (Int.tmod Ab a2)=0 then (if a2≠0 then (some (Sum.inl ((w64 (Ac + 1)),(w64 (Int.tdiv Ab a2))))) else none) else (some (Sum.inr<| (Ac,Ab)))) else none)
def ANn (fuel:Nat) (a1 a2:Int):Option AJr:=
  ((iter (fun s=>APf fuel a2 s.1 s.2) fuel (0,a1)).bind (fun ((Ac,Ad):Int × Int)=>(some (Ac,1,Ad,0,0))))
theorem AXq {fuel:Nat} {h:ABu} {a1 a2:Int} {r:AJr} (hp:ANn fuel a1 a2=some r):ACn Tryz.prog 64 #[(.int .i64 a1),(.int .i64 a2)] h (fun x h'=>Ext h h'/\x= .agg #[.int .i64 r.1,.int .i64 r.2.1,.int .i64 r.2.2.1,.int .i64 r.2.2.2.1,.int .i64 r.2.2.2.2]):=by
 unfold ANn at hp;refine cwf (l:=[_,_]) Tryz.func64 rfl rfl (ABp (ADi [(.int .i64 0),(.int .i64 0),(.int .i64 0),(.int .i64 0),(.int .i64 0)] AWc rfl trivial tt2 fun b3 h4 V5 E6 S7=>AK0 (Wo (AF6 (v:=(.agg #[(.int .i64 0),(.int .i64 1),(.int .i64 a1),(.int .i64 0),(.int .i64 0)])) (fun _=>by kernel_rfl) (ADi [(.int .i64 0),(.int .i64 0),(.int .i64 0),(.int .i64 0),(.int .i64 0)] AWc rfl trivial tt2 fun Av Bo Aw Ax Ay=>?_)))));have Aj:=((Kst.k0 h).nb E6 S7 V5).nb Ax Ay Aw;refine AC7 [(.int .i64 0),(.int .i64 1),(.int .i64 a1),(.int .i64 0),(.int .i64 0)] AO4 rfl rfl rfl rfl (by simp [isOne]) (Aj.b p0) fun Bp Az A3=>ABt (ABr (ABw ?_));have Ak:=Aj.sb p0 A3 Az rfl;obtain ⟨Am,A4,A5⟩:=ABq hp;obtain ⟨A6,A7,A8⟩:=ACe A4;refine ACq 4194048 (fun x:(Int) × (Int)=>[]) (fun k x h'=>iter A6 k (x.1,x.2)=some Am/\Kst h h' (Ak.L.set 0 (aB 37 Av [(.int .i64 x.1),(.int .i64 1),(.int .i64 x.2),(.int .i64 0),(.int .i64 0)]))) (by kernel_rfl) fuel ((0,a1):(Int) × (Int)) ?_ trivial ?_
 ·exact ⟨A8,Ak⟩
 rintro Bq ⟨Ad,Ae⟩ Br Bt ⟨A9,Aa⟩;obtain ⟨Ba,Bu,rfl,Af,Ag⟩:=AB7 A9;rw [A7] at Af;dsimp only at Af;unfold APf at Af;refine ABr (ABp (ADp AOe rfl (AB6 ACx rfl ((Aa.b p0).cell (i:=2) rfl) (Wo ?_))));obtain ⟨Bb,Ao⟩:=ifN Af;refine AHh rfl rfl Bb (AD8 rfl rfl (ABt (⟨_,rfl,fun Ah=>?_,fun Ah=>?_⟩)))
 ·refine ABy (q_t (ABw (ABp (ADp AOe rfl (AB6 ACx rfl ((Aa.b p0).cell (i:=2) rfl) (Wo ?_))))));obtain ⟨Bc,Be⟩:=ifN (AC8 Ao Ah);refine AWq rfl rfl Bc (ADp AOe rfl (AUb [(.int .i64 Ad),(.int .i64 1),(.int .i64 (w64 (Int.tdiv Ae a2))),(.int .i64 0),(.int .i64 0)] ACx rfl rfl rfl (Aa.b p0) (Nat.le_of_ble_eq_true rfl) rfl fun Bv Bf Bg=>ABt (AB5 (ADp AJ2 rfl ?_))));have Ai:=Aa.sb p0 Bg Bf rfl;refine AB6 ADs rfl ((Ai.b p0).cell (i:=0) rfl) (ACz rfl rfl (ADp AJ2 rfl (AUb [(.int .i64 (w64 (Ad + 1))),(.int .i64 1),(.int .i64 (w64 (Int.tdiv Ae a2))),(.int .i64 0),(.int .i64 0)] ADs rfl rfl rfl (Ai.b p0) (Nat.le_of_ble_eq_true rfl) rfl fun Bw Bh Bi=>ACr (q_b (q_t ?_)))));obtain rfl:=ABo Be;exact ⟨Ba,(((w64 (Ad + 1)),(w64 (Int.tdiv Ae a2))):(Int) × (Int)),Nat.lt_succ_self _,⟨Ag,(Ai.sb p0 Bi Bh rfl)⟩,trivial⟩
 ·obtain rfl:=ABo (AC9 Ao Ah);change _=Am at Ag;subst Ag;refine ACh (ACj (ACj (ADo (q_t (ABp (AEu [(.int .i64 Ad),(.int .i64 1),(.int .i64 Ae),(.int .i64 0),(.int .i64 0)] AO4 rfl rfl (Aa.b p0).agg (AC7 [(.int .i64 Ad),(.int .i64 1),(.int .i64 Ae),(.int .i64 0),(.int .i64 0)] AO4 rfl rfl rfl rfl (by simp [isOne]) (Aa.b p1) fun Bx Bj Bl=>ABt (ABx ?_))))))));have Ap:=Aa.sb p1 Bl Bj rfl;obtain rfl:=ABo A5;exact ⟨_,AEe AO4 rfl rfl (Ap.b p1),Ap.x,rfl⟩
def AMi (fuel:Nat) (Ad:Int) (Ab:LiA) (Aa:Int):Option ((Int) ⊕ ((Bool) ⊕ (Unit))):=
  (if Aa < (Ab.length:Int) then ((gI Ab Aa).bind fun Ac=>(if Ac < 0 then (some (Sum.inr<| Sum.inl <| false)) else (if Ad<=Ac then (some (Sum.inr<| Sum.inl <| false)) else (some (Sum.inl (w64 (Aa + 1))))))) else (some (Sum.inr<| Sum.inr <| ())))
def AMj (fuel:Nat) (Ac:LiI) (Ab:Int) (Ad:LiA) (Aa:Int):Option ((Int) ⊕ ((Bool) ⊕ (Unit))):=
  (if Aa < (Ad.length:Int) then ((gI Ac Ab).bind fun Ae=>((gI Ae Aa).bind fun Af=>(if ¬ Aa=Ab then (if ¬ Af=0 then (some (Sum.inr<| Sum.inl <| false)) else (some (Sum.inl (w64 (Aa + 1))))) else (some (Sum.inl (w64 (Aa + 1))))))) else (some (Sum.inr<| Sum.inr <| ())))
def AMk (fuel:Nat) (a5:Int) (Ae:(List AJr)) (Ad:LiI) (Aa:Int):Option ((Int) ⊕ ((Bool) ⊕ (Unit))):=
  (if Aa < (Ad.length:Int) then ((gI Ad Aa).bind fun Ah=>((((gI Ad Aa).bind fun Ai=>((gI Ai Aa).bind fun Af=>(if Af=0 then (some (Sum.inl <| false)) else ((gI Ae Aa).bind fun Ab=>((ANn fuel Af a5).bind fun Ac=>(if (!(decide ((Ab.1,Ab.2.1,Ab.2.2.1,Ab.2.2.2.1,Ab.2.2.2.2)=(Ac.1,Ac.2.1,Ac.2.2.1,Ac.2.2.2.1,Ac.2.2.2.2))))=true then (some (Sum.inl <| false)) else (some (Sum.inr <| ())))))))):Option ((Bool) ⊕ (Unit))).bind (fun ex=>match ex with | Sum.inl Aj=>(some (Sum.inr<| Sum.inl <| Aj)) | Sum.inr (_)=>(((if 0 < Aa then ((gI Ae Aa).bind fun Ak=>((gI Ae (w64 (Aa - 1))).bind fun Am=>(if Ak.1 < Am.1 then (some (Sum.inl <| false)) else (some (Sum.inr <| ()))))) else (some (Sum.inr <| ()))):Option ((Bool) ⊕ (Unit))).bind (fun ex=>match ex with | Sum.inl Ao=>(some (Sum.inr<| Sum.inl <| Ao)) | Sum.inr (_)=>((iter (fun s=>AMj fuel Ad Aa Ah s) fuel 0).bind (fun ex=>match ex with | Sum.inl Ap=>(some (Sum.inr<| Sum.inl <| Ap)) | Sum.inr (_)=>(some (Sum.inl (w64 (Aa + 1))))))))))) else (some (Sum.inr<| Sum.inr <| ())))
def AJz (fuel:Nat) (a8:LiI) (Ac Aa:Int):Option ((Int) ⊕ ((Bool) ⊕ (Unit))):=
  (if Aa < (a8.length:Int) then ((gI a8 Aa).bind fun Ad=>((iter (fun s=>AMi fuel Ac Ad s) fuel 0).bind (fun ex=>match ex with | Sum.inl Ae=>(some (Sum.inr<| Sum.inl <| Ae)) | Sum.inr (_)=>(some (Sum.inl (w64 (Aa + 1))))))) else (some (Sum.inr<| Sum.inr <| ())))
def AMs (fuel:Nat) (a3:LiI) (a5:Int) (a8:LiI) (Ae:(List AJr)) (Ac:Int):Option Bool:=
  ((iter (fun s=>AJz fuel a8 Ac s) fuel 0).bind (fun ex=>match ex with | Sum.inl Af=>(some Af) | Sum.inr (_)=>((AOc fuel a8 a5).bind fun (Ag,Aj)=>(if Ag=0 then (some false) else ((AIs fuel a3 a8 Ac).bind fun (Ah,Ak)=>((iter (fun s=>AMk fuel a5 Ae Ah s) fuel 0).bind (fun ex=>match ex with | Sum.inl Ai=>(some Ai) | Sum.inr (_)=>(some true))))))))
theorem AWm {fuel:Nat} {h:ABu} {Bz:Value} {a3:LiI} {a5:Int} {Ba:Value} {a8:LiI} {Bb:Value} {B4:(List AJr)} {B5:Int} {r:Bool} (H2:AEq (cI .i64) h Bz a3) (H7:AEq (cI .i64) h Ba a8) (Bc:SlC AQe h Bb B4) (hp:AMs fuel a3 a5 a8 B4 B5=some r):ACn Tryz.prog 28 #[Bz,(.agg #[(.int .i64 a5),Ba,Bb]),(.int .i64 B5)] h (fun x h'=>Ext h h'/\x= .bool r):=by
 unfold AMs at hp;refine cwf (l:=[_,_,_]) Tryz.func28 rfl rfl (ABp (AGo [(.int .i64 a5),Ba,Bb] trivial tt2 rfl rfl fun Ey Ez Cq Cr Ct=>ABv (ABr (ABp (ADp AO5 rfl ?_)))));have Be:=(Kst.k0 h).nb Cr Ct Cq;refine AB6 AS1 rfl ((Be.b p0).cell (i:=1) rfl) (ADa ACi rfl H7 (Wo (ABt (ABw ?_))));obtain ⟨Ax,Cu,Bf⟩:=ABq hp;obtain ⟨Cv,Cw,Cx⟩:=ACe Cu;refine ACq 2199019062592 (fun x:(Int)=>[(22,(.int .i64 x))]) (fun k x h'=>iter Cv k x=some Ax/\Kst h h' (Be.L)) (by kernel_rfl) fuel (0:(Int)) ?_ ⟨rfl,trivial⟩ ?_
 ·exact ⟨Cx,Be⟩
 rintro Fa Cy Fb Fc ⟨Cz,Ad⟩;obtain ⟨C0,Fd,rfl,Am,Ae⟩:=AB7 Cz;rw [Cw] at Am;dsimp only at Am;unfold AJz at Am;refine ABp (ACu rfl rfl (ABt (ABr (⟨_,rfl,fun Bg=>?_,fun Bg=>?_⟩))))
 ·refine ABy (q_t (ABr (ABw (ABp ?_))));obtain ⟨Fe,C1,C2⟩:=ABq (AC8 Am Bg);refine AFg ACi rfl H7 rfl C1 fun Ff Fg Fh C3 B6=>AB6 AC3 rfl (AB1 C3 Ad.x) (AC1 (Wo (ADh ACs rfl B6 (Wo (ABt (ABw ?_))))));obtain ⟨Ay,C4,Bh⟩:=ABq C2;obtain ⟨C5,C6,C7⟩:=ACe C4;refine ACq 1099243193408 (fun x:(Int)=>[(28,(.int .i64 x))]) (fun k x h'=>iter C5 k x=some Ay/\Kst h h' (Ad.L)) (by kernel_rfl) fuel (0:(Int)) ?_ ⟨rfl,trivial⟩ ?_
  ·exact ⟨C7,Ad⟩
  rintro Fi C8 Fj Fk ⟨C9,Ao⟩;obtain ⟨Da,Fl,rfl,Ap,Af⟩:=AB7 C9;rw [C6] at Ap;dsimp only at Ap;unfold AMi at Ap;refine ABp (ACu rfl rfl (ABt (ABr (⟨_,rfl,fun Bi=>?_,fun Bi=>?_⟩))))
  ·refine ABy (q_t (ABr (ABw (ABp ?_))));obtain ⟨Db,Dc,B7⟩:=ABq (AC8 Ap Bi);refine AHe (c:=(cI .i64)) ACs rfl B6 rfl Dc fun Fm Fo Fp Dd De=>?_;obtain rfl:=Dd;refine AB6 ACx rfl (AB1 (De 0 _ rfl) Ao.x) (AC1 (Wo (ACu rfl rfl (Wo ?_))));by_cases Az:Db < 0
   ·rw [decide_eq_true Az];refine AE2 34 true (AB2 rfl (ABt (ACd rfl (ABp (ABv ?_)))));obtain rfl:=ABo (ifT B7 Az);change _=Ay at Af;subst Af;obtain rfl:=ABo Bh;change _=Ax at Ae;subst Ae;refine ABx (ADe (AB4 (AB4 (ADe (ADe (AB4 (AB4 (ADe (AB4 ?_)))))))));obtain rfl:=ABo Bf;exact ⟨_,ABz,Ao.x,rfl⟩
   ·have B8:=ifF B7 Az;rw [decide_eq_false Az];refine AB3 34 false (Wo (AB3 34 false (Wo (AB3 34 false (ANd rfl rfl (AB0 rfl (ABt (⟨_,rfl,fun Bj=>?_,fun Bj=>?_⟩))))))))
    ·refine ABp (ABv ?_);obtain rfl:=ABo (AC8 B8 Bj);change _=Ay at Af;subst Af;obtain rfl:=ABo Bh;change _=Ax at Ae;subst Ae;refine ABx (ADe (AB4 (AB4 (ADe (ADe (AB4 (AB4 (ADe (AB4 ?_)))))))));obtain rfl:=ABo Bf;exact ⟨_,ABz,Ao.x,rfl⟩
    ·refine ABy (q_b (q_t (AB5 (ACz rfl rfl (Wo (ABt ?_))))));obtain rfl:=ABo (AC9 B8 Bj);exact ⟨Da,((w64 (C8 + 1)):(Int)),Nat.lt_succ_self _,⟨Af,Ao⟩,rfl,trivial⟩
  ·obtain rfl:=ABo (AC9 Ap Bi);change _=Ay at Af;subst Af;refine ACh (ACj (ACj (ADo (q_b (q_t (AB5 (ACz rfl rfl (Wo (ABt ?_)))))))));obtain rfl:=ABo Bh;exact ⟨C0,((w64 (Cy + 1)):(Int)),Nat.lt_succ_self _,⟨Ae,Ao⟩,rfl,trivial⟩
 ·obtain rfl:=ABo (AC9 Am Bg);change _=Ax at Ae;subst Ae;refine ACh (ACj (ACj (ADo (q_t (ABr (ABp (ADp AO5 rfl (AB6 AS1 rfl ((Ad.b p0).cell (i:=1) rfl) (ADp AL7 rfl (AB6 ACx rfl ((Ad.b p0).cell (i:=0) rfl) ?_))))))))));obtain ⟨⟨Fq,Fr⟩,Df,Bl⟩:=ABq Bf;dsimp only at Bl;refine ADb rfl (AYh (H7.ext Ad.x) Df) fun Ft Fu Dg Dh=>?_;subst Dh;refine Wo (ADm rfl rfl (ADm rfl rfl (ACk (AC1 (Wo (AD8 rfl rfl (ABt ?_)))))));have Aq:=Ad.e Dg;refine ⟨_,rfl,fun Bm=>?_,fun Bm=>?_⟩
  ·refine ABp (ABv (ABx (AB4 ?_)));obtain rfl:=ABo (AC8 Bl Bm);exact ⟨_,ABz,Aq.x,rfl⟩
  ·refine ABy (q_t (ABp (Wo (ADp AO5 rfl (AB6 AS1 rfl ((Aq.b p0).cell (i:=1) rfl) (Wo ?_))))));obtain ⟨⟨Fv,Fw⟩,Di,B9⟩:=ABq (AC9 Bl Bm);dsimp only at B9;refine ADb rfl (ATg (H2.ext Aq.x) (H7.ext Aq.x) Di) fun Fx Fy Dj Dk=>?_;obtain ⟨Fz,F4,F5,F6,rfl,Dl,Dn⟩:=Dk;refine Wo (ADm rfl rfl (ADm rfl rfl (ACk (ABv (ABr (ABp (Wo ?_)))))));have Bn:=Aq.no2 Dj Dn Dl;refine ADa ACi rfl (Bn.o2 p0).rd (Wo (ABt (ABw ?_)));obtain ⟨Ah,Do,Ar⟩:=ABq B9;obtain ⟨Dp,Dq,Dr⟩:=ACe Do;refine ACq 1329227995784915870597964051067142208 (fun x:(Int)=>[(61,(.int .i64 x))]) (fun k x h'=>iter Dp k x=some Ah/\Kst h h' (Bn.L)) (by kernel_rfl) fuel (0:(Int)) ?_ ⟨rfl,trivial⟩ ?_
   ·exact ⟨Dr,Bn⟩
   rintro F7 Ai F8 Bo ⟨Ds,Aa⟩;obtain ⟨Dt,F9,rfl,Au,Ab⟩:=AB7 Ds;rw [Dq] at Au;dsimp only at Au;unfold AMk at Au;refine ABp (ACu rfl rfl (ABt (ABr (⟨_,rfl,fun Bp=>?_,fun Bp=>?_⟩))))
   ·refine ABy (q_t (ABr (ABw (ABp (Wo ?_)))));obtain ⟨Ga,Ca,Du⟩:=ABq (AC8 Au Bp);refine ADl ACi rfl (Aa.o2 p0) rfl Ca fun Gb Gc Gd A3 Dv=>AB6 AC3 rfl Dv (ACk (ABv ?_));obtain ⟨Dw,Dx,Bq⟩:=ABq Du;refine ALi 77371178668359972342988864 (fun x:Unit=>[]) (fun x h'=>(Sum.inr <| ())=Dw/\Kst h h' (Aa.L)) ?_ ?_
    ·refine ABr (AEd (fun h'=>UpT [] Bo h') (by kernel_rfl) ?_);have Ag:UpT [] Bo Bo:=UpT.start all_nil;refine Wo (Wo ?_);obtain ⟨Ge,A4,Dy⟩:=ABq Dx;obtain ⟨Dz,A5,Cb⟩:=ABq Dy;refine AD2 (m:=Ai) ACs rfl (Aa.o2 p0) A3 A4 rfl A5 fun Gf D0=>?_;obtain ⟨Gg,D1,D2⟩:=(Aa.o2 p0).cells D0 A4 A5;obtain rfl:=D1;refine AEt ACx rfl Ag (fun h' hb=>AB1 (D2 0 _ rfl) hb.ext) (AD8 rfl rfl (Wo ?_));by_cases A6:Dz=0
     ·rw [decide_eq_true A6];refine AFe 71 true (AFe 71 true (AE2 71 true (AB2 rfl (ABt (ACd rfl (ABp (ABv ?_)))))));obtain rfl:=ABo (ifT Cb A6);obtain rfl:=ABo Bq;change _=Ah at Ab;subst Ab;refine ABx (AB4 (ADe (AB4 (AB4 (ADe (AB4 ?_))))));obtain rfl:=ABo Ar;exact ⟨_,ABz,Aa.x,rfl⟩
     ·rw [decide_eq_false A6];refine AB3 71 false (ADp AL8 rfl (AB3 71 false (AEt ARc rfl Ag (fun h' hb=>((Aa.b p1).ext hb.ext).cell (i:=2) rfl) (AB3 71 false (Wo (AB3 71 false ?_))))));obtain ⟨Gh,D3,D4⟩:=ABq (ifF Cb A6);refine AHe (c:=AQe) AOm rfl Bc rfl D3 fun Gi Gj Gk D5 D6=>?_;obtain rfl:=D5;refine AB3 71 false (ARa (c:=AQe) (h0:=h) AO4 rfl rfl Ag (fun h' hb j u hu=>AB1 (D6 j u hu) (Aa.x.trans hb.ext)) (AB3 71 false (Wo (AB3 71 false (Wo (AB3 71 false (AD2 (m:=Ai) ACs rfl (Aa.o2 p0) A3 A4 rfl A5 fun Gl D7=>AB3 71 false ?_)))))));obtain ⟨Gm,D8,D9⟩:=(Aa.o2 p0).cells D7 A4 A5;obtain rfl:=D8;refine AEt ACx rfl Ag (fun h' hb=>AB1 (D9 0 _ rfl) hb.ext) (AB3 71 false (ADp AL7 rfl (AB3 71 false (AEt ACx rfl Ag (fun h' hb=>((Aa.b p1).ext hb.ext).cell (i:=0) rfl) (AB3 71 false ?_)))));obtain ⟨Gn,Ea,Cd⟩:=ABq D4;refine ADg Ag (fun _ E=>Ag.thenE E) rfl (AXq Ea) fun Gp Gq Eb Ec=>?_;subst Ec;refine AB3 71 false (Arf (by kernel_rfl) rfl rfl (Aul _ _ _ _ _ _ _ _ _ _) (AB0 rfl (ABt ?_)));have Ce:=Aa.e Eb;refine ⟨_,rfl,fun Br=>?_,fun Br=>?_⟩
      ·refine ABp (ABv ?_);obtain rfl:=ABo (ifT Cd Br);obtain rfl:=ABo Bq;change _=Ah at Ab;subst Ab;refine ABx (AB4 (ADe (AB4 (AB4 (ADe (AB4 ?_))))));obtain rfl:=ABo Ar;exact ⟨_,ABz,Ce.x,rfl⟩
      ·refine ABy (q_t ?_);exact ⟨(():Unit),⟨ABo (AH8 Cd Br),Ce⟩,trivial⟩
    rintro ⟨⟩ Gr Gt ⟨Ed,Ac⟩;subst Ed;obtain ⟨Ee,Cf,Cg⟩:=ABq Bq;refine ALi 20282332232399215087680070090816 (fun x:Unit=>[]) (fun x h'=>(Sum.inr <| ())=Ee/\Kst h h' (Ac.L)) ?_ ?_
    ·refine ABr (AKm (Wo (AGz rfl rfl (Wo ?_))));by_cases A7:0 < Ai
     ·rw [decide_eq_true A7];refine AB3 88 true (ADp AL8 rfl (AB3 88 true (AB6 ARc rfl ((Ac.b p1).cell (i:=2) rfl) (AB3 88 true (Wo (AB3 88 true ?_))))));obtain ⟨Gu,Ef,Eg⟩:=ABq (ifT Cf A7);refine AHe (c:=AQe) AOm rfl Bc rfl Ef fun Gv Gw Gx Eh Ei=>?_;obtain rfl:=Eh;refine AB3 88 true (ADp AJ2 rfl (AB3 88 true (AB6 ADs rfl (AB1 (Ei 0 _ rfl) Ac.x) (AB3 88 true (ADp AL8 rfl (AB3 88 true (AB6 ARc rfl ((Ac.b p1).cell (i:=2) rfl) (AB3 88 true (Wo (AB3 88 true (AIf rfl rfl (AB3 88 true ?_))))))))))));obtain ⟨Gy,Ej,Ch⟩:=ABq Eg;refine AHe (c:=AQe) AOm rfl Bc rfl Ej fun Gz G3 G4 Ek El=>?_;obtain rfl:=Ek;refine AB3 88 true (ADp AJ2 rfl (AB3 88 true (AB6 ADs rfl (AB1 (El 0 _ rfl) Ac.x) (AB3 88 true (ACu rfl rfl (AB2 rfl (ABt (⟨_,rfl,fun Bt=>?_,fun Bt=>?_⟩))))))))
      ·refine ABp (ABv ?_);obtain rfl:=ABo (AC8 Ch Bt);obtain rfl:=ABo Cg;change _=Ah at Ab;subst Ab;refine ABx (AB4 (ADe (AB4 (AB4 (ADe (AB4 ?_))))));obtain rfl:=ABo Ar;exact ⟨_,ABz,Ac.x,rfl⟩
      ·refine ABy (q_t ?_);exact ⟨(():Unit),⟨ABo (AC9 Ch Bt),Ac⟩,trivial⟩
     ·rw [decide_eq_false A7];refine AFe 88 false (AFe 88 false (AFl 88 false (AB0 rfl (ABt (ACo rfl (ABy (q_t ?_)))))));exact ⟨(():Unit),⟨ABo (ifF Cf A7),Ac⟩,trivial⟩
    rintro ⟨⟩ G5 G6 ⟨Em,Bu⟩;subst Em;refine ABp (Wo (ADh ACs rfl ((Bu.o2 p0).rowI A3 Ca) (Wo (ABt (ABw ?_)))));obtain ⟨Bv,En,Ci⟩:=ABq Cg;obtain ⟨Eo,Ep,Er⟩:=ACe En;refine ACq 664532868254043329770207741135421504 (fun x:(Int)=>[(106,(.int .i64 x))]) (fun k x h'=>iter Eo k x=some Bv/\Kst h h' (Bu.L)) (by kernel_rfl) fuel (0:(Int)) ?_ ⟨rfl,trivial⟩ ?_
    ·exact ⟨Er,Bu⟩
    rintro G7 Bw G8 G9 ⟨Es,Aj⟩;obtain ⟨Cj,Hb,rfl,Av,Ak⟩:=AB7 Es;rw [Ep] at Av;dsimp only at Av;unfold AMj at Av;refine ABp (ACu rfl rfl (ABt (ABr (⟨_,rfl,fun Bx=>?_,fun Bx=>?_⟩))))
    ·refine ABy (q_t (ABr (ABw (ABp (Wo ?_)))));obtain ⟨Hc,Ck,Et⟩:=ABq (AC8 Av Bx);obtain ⟨Hd,Cm,Cn⟩:=ABq Et;refine AD2 (m:=Ai) ACs rfl (Aj.o2 p0) A3 Ck rfl Cm fun He Eu=>?_;obtain ⟨Hf,Ev,Ew⟩:=(Aj.o2 p0).cells Eu Ck Cm;obtain rfl:=Ev;refine AB6 ACx rfl (Ew 0 _ rfl) (ACk (AC1 (Wo (Wo (AEn rfl rfl (Wo ?_))))));by_cases A8: ¬ Bw=Ai
     ·have Co:=ifT Cn A8;rw [decide_eq_true A8];refine AB3 114 true (Wo (AB3 114 true (AEn rfl rfl (AB2 rfl (ABt (⟨_,rfl,fun By=>?_,fun By=>?_⟩))))))
      ·refine ABp (ABv ?_);obtain rfl:=ABo (AC8 Co By);change _=Bv at Ak;subst Ak;obtain rfl:=ABo Ci;change _=Ah at Ab;subst Ab;refine ABx (ADe (AB4 (AB4 (ADe (ADe (AB4 (AB4 (ADe (AB4 ?_)))))))));obtain rfl:=ABo Ar;exact ⟨_,ABz,Aj.x,rfl⟩
      ·refine ABy (q_b (q_t (AB5 (ACz rfl rfl (Wo (ABt ?_))))));obtain rfl:=ABo (AC9 Co By);exact ⟨Cj,((w64 (Bw + 1)):(Int)),Nat.lt_succ_self _,⟨Ak,Aj⟩,rfl,trivial⟩
     ·rw [decide_eq_false A8];refine AIg 114 false (AB0 rfl (ABt (ACo rfl (ABy (q_b (q_t (AB5 (ACz rfl rfl (Wo (ABt ?_))))))))));obtain rfl:=ABo (ifF Cn A8);exact ⟨Cj,((w64 (Bw + 1)):(Int)),Nat.lt_succ_self _,⟨Ak,Aj⟩,rfl,trivial⟩
    ·obtain rfl:=ABo (AC9 Av Bx);change _=Bv at Ak;subst Ak;refine ACh (ACj (ACj (ADo (q_b (q_t (AB5 (ACz rfl rfl (Wo (ABt ?_)))))))));obtain rfl:=ABo Ci;exact ⟨Dt,((w64 (Ai + 1)):(Int)),Nat.lt_succ_self _,⟨Ab,Aj⟩,rfl,trivial⟩
   ·obtain rfl:=ABo (AC9 Au Bp);change _=Ah at Ab;subst Ab;refine ACh (ACj (ACj (ADo (q_t (ABp (ABv (ABx ?_)))))));obtain rfl:=ABo Ar;exact ⟨_,ABz,Aa.x,rfl⟩
noncomputable def AJ0 (fuel:Nat) (a3 a8:LiI) (Aa:Int):Option ((Int) ⊕ ((Int) ⊕ (Unit))):=
  (if Aa < (a8.length:Int) then ((gI a8 Aa).bind fun Ad=>(if ¬ (Ad.length:Int)=(a3.length:Int) then (some (Sum.inr<| Sum.inl <| 3)) else (some (Sum.inl (w64 (Aa + 1)))))) else (some (Sum.inr<| Sum.inr <| ())))
noncomputable def AHd (fuel:Nat) (a3:LiI) (a5:Int) (a8:LiI) (Ad:(List AJr)):Option Int:=
  ((ATb fuel a3).bind fun Ae=>(if (!Ae)=true then (some 6) else ((APn fuel a5).bind fun Af=>(if (!Af)=true then (some 20) else (((if ¬ (a8.length:Int)=(a3.length:Int) then (some (Sum.inl <| 3)) else (if ¬ (Ad.length:Int)=(a3.length:Int) then (some (Sum.inl <| 3)) else (some (Sum.inr <| ())))):Option ((Int) ⊕ (Unit))).bind (fun ex=>match ex with | Sum.inl Ag=>(some Ag) | Sum.inr (_)=>((iter (fun s=>AJ0 fuel a3 a8 s) fuel 0).bind (fun ex=>match ex with | Sum.inl Ah=>(some Ah) | Sum.inr (_)=>((AHf fuel a3 a5).bind fun Ai=>((ANj fuel a5 Ai).bind fun Aj=>((AMs fuel a3 a5 a8 Ad Aj).bind fun Ak=>(if (!Ak)=true then (some 10) else (some 0)))))))))))))
theorem AOj {fuel:Nat} {h:ABu} {A7:Value} {a3:LiI} {a5:Int} {Ag:Value} {a8:LiI} {Ah:Value} {A8:(List AJr)} {r:Int} (H2:AEq (cI .i64) h A7 a3) (H7:AEq (cI .i64) h Ag a8) (A9:SlC AQe h Ah A8) (HO:AVs h) (hp:AHd fuel a3 a5 a8 A8=some r):ACn Tryz.prog 12 #[A7,(.agg #[(.int .i64 a5),Ag,Ah])] h (fun x h'=>Ext h h'/\x= .int .i64 r):=by
 unfold AHd at hp;refine cwf (l:=[_,_]) Tryz.func12 rfl rfl (ABp (AGo [(.int .i64 a5),Ag,Ah] trivial tt2 rfl rfl fun Cn Co Bo Bp Bq=>ABv (ABr (ABp (Wo ?_)))));have Ba:=(Kst.k0 h).nb Bp Bq Bo;obtain ⟨Cp,Br,Bb⟩:=ABq hp;refine ADb rfl (Aao (H2.ext Ba.x) Br) fun Cq Cr Bt Bu=>?_;subst Bu;refine AE1 rfl (ABt ?_);have Ak:=Ba.e Bt;refine ⟨_,rfl,fun Ar=>?_,fun Ar=>?_⟩
 ·refine ABp (ABv (ABx (AB4 ?_)));obtain rfl:=ABo (ifT Bb Ar);exact ⟨_,ABz,Ak.x,rfl⟩
 ·refine ABy (q_t (ABr (ABp (ADp AL7 rfl (AB6 ACx rfl ((Ak.b p0).cell (i:=0) rfl) ?_)))));obtain ⟨Ct,Bv,Bc⟩:=ABq (AH8 Bb Ar);refine ADb rfl (AU5 (HO.ext Ak.x) Bv) fun Cu Cv Bw Bx=>?_;subst Bx;refine AE1 rfl (ABt ?_);have Ab:=Ak.e Bw;refine ⟨_,rfl,fun Au=>?_,fun Au=>?_⟩
  ·refine ABp (ABv (ABx (AB4 ?_)));obtain rfl:=ABo (ifT Bc Au);exact ⟨_,ABz,Ab.x,rfl⟩
  ·refine ABy (q_t (ABp (Wo (ADa ACi rfl H2 (ABv ?_)))));obtain ⟨By,Be,Av⟩:=ABq (AH8 Bc Au);refine ALi 536739856 (fun x:Unit=>[]) (fun x h'=>(Sum.inr <| ())=By/\Kst h h' (Ab.L)) ?_ ?_
   ·refine ABp (ADp AO5 rfl (AB6 AS1 rfl ((Ab.b p0).cell (i:=1) rfl) (ADa ACi rfl H7 (Wo (AEn rfl rfl (Wo ?_))))));by_cases Am: ¬ (a8.length:Int)=(a3.length:Int)
    ·rw [decide_eq_true Am];refine AFe 22 true (AB2 rfl (ABt (ACd rfl (ABp (ABv ?_)))));obtain rfl:=ABo (ifT Be Am);refine ABx (AB4 ?_);obtain rfl:=ABo Av;exact ⟨_,ABz,Ab.x,rfl⟩
    ·have Bf:=ifF Be Am;rw [decide_eq_false Am];refine AB3 22 false (ADp AL8 rfl (AB3 22 false (AB6 ARc rfl ((Ab.b p0).cell (i:=2) rfl) (AB3 22 false (ADh AOm rfl A9 (AB3 22 false (Wo (AB3 22 false (AEn rfl rfl (AB0 rfl (ABt (⟨_,rfl,fun Aw=>?_,fun Aw=>?_⟩))))))))))))
     ·refine ABp (ABv ?_);obtain rfl:=ABo (AC8 Bf Aw);refine ABx (AB4 ?_);obtain rfl:=ABo Av;exact ⟨_,ABz,Ab.x,rfl⟩
     ·refine ABy (q_t ?_);exact ⟨(():Unit),⟨ABo (AC9 Bf Aw),Ab⟩,trivial⟩
   rintro ⟨⟩ Cw Cx ⟨Bz,Ax⟩;subst Bz;refine ABr (ABp (ADp AO5 rfl (AB6 AS1 rfl ((Ax.b p0).cell (i:=1) rfl) (ADa ACi rfl H7 (Wo (ABt (ABw ?_)))))));obtain ⟨Ay,B1,Bg⟩:=ABq Av;obtain ⟨B3,B4,B5⟩:=ACe B1;refine ACq 2194728288400 (fun x:(Int)=>[(32,(.int .i64 x))]) (fun k x h'=>iter B3 k x=some Ay/\Kst h h' (Ax.L)) (by kernel_rfl) fuel (0:(Int)) ?_ ⟨rfl,trivial⟩ ?_
   ·exact ⟨B5,Ax⟩
   rintro Cy B6 Cz Az ⟨B7,Aa⟩;obtain ⟨B8,C0,rfl,Ad,Ae⟩:=AB7 B7;rw [B4] at Ad;dsimp only at Ad;unfold AJ0 at Ad;refine ABp (ACu rfl rfl (ABt (ABr (⟨_,rfl,fun A3=>?_,fun A3=>?_⟩))))
   ·refine ABy (q_t (ABr (ABw (ABp ?_))));obtain ⟨C1,B9,Bh⟩:=ABq (AC8 Ad A3);refine AFg ACi rfl H7 rfl B9 fun C2 C3 C4 Ca Cb=>AB6 AC3 rfl (AB1 Ca Aa.x) (AC1 (Wo (ADh ACs rfl Cb (Wo (AEn rfl rfl (ABt (⟨_,rfl,fun A4=>?_,fun A4=>?_⟩)))))))
    ·refine ABp (ABv ?_);obtain rfl:=ABo (AC8 Bh A4);change _=Ay at Ae;subst Ae;refine ABx (ADe (AB4 (AB4 (ADe (AB4 ?_)))));obtain rfl:=ABo Bg;exact ⟨_,ABz,Aa.x,rfl⟩
    ·refine ABy (q_b (q_t (AB5 (ACz rfl rfl (Wo (ABt ?_))))));obtain rfl:=ABo (AC9 Bh A4);exact ⟨B8,((w64 (B6 + 1)):(Int)),Nat.lt_succ_self _,⟨Ae,Aa⟩,rfl,trivial⟩
   ·obtain rfl:=ABo (AC9 Ad A3);change _=Ay at Ae;subst Ae;refine ACh (ACj (ACj (ADo (q_t (ABr (ABr (AEd (fun h'=>UpT [] Az h') (by kernel_rfl) ?_)))))));have Ac:UpT [] Az Az:=UpT.start all_nil;refine Wo (AEk [(.int .i64 a5),Ag,Ah] ATq rfl rfl Ac (fun h' hb=>((Aa.b p0).ext hb.ext).agg) (ADp AL7 rfl (AEt ACx rfl Ac (fun h' hb=>((Aa.b p0).ext hb.ext).cell (i:=0) rfl) (Wo (ADp AL7 rfl (AEt ACx rfl Ac (fun h' hb=>((Aa.b p0).ext hb.ext).cell (i:=0) rfl) ?_))))));obtain ⟨C5,Cd,Ce⟩:=ABq Bg;refine ADg Ac (fun _ E=>Ac.thenE E) rfl (AM0 (H2.ext Aa.x) (HO.ext Aa.x) Cd) fun C6 C7 Bi Cf=>?_;subst Cf;have A5:=Ac.thenE Bi;obtain ⟨C8,Cg,Ch⟩:=ABq Ce;refine ADg A5 (fun _ E=>A5.thenE E) rfl (AXf Cg) fun C9 Da Bj Ci=>?_;subst Ci;have Bl:=A5.thenE Bj;have Ao:=(Aa.e Bi).e Bj;obtain ⟨Db,Cj,Bm⟩:=ABq Ch;refine ADg Bl (fun _ E=>Bl.thenE E) rfl (AWm (H2.ext Ao.x) (H7.ext Ao.x) (A9.ext Ao.x) Cj) fun Dc Dd Ck Cm=>?_;subst Cm;refine AE1 rfl (ABt ?_);have Bn:=Ao.e Ck;refine ⟨_,rfl,fun A6=>?_,fun A6=>?_⟩
    ·refine ABp (ABv (ABx (AB4 ?_)));obtain rfl:=ABo (ifT Bm A6);exact ⟨_,ABz,Bn.x,rfl⟩
    ·refine ABy (q_t (ABp (ABv (ABx ?_))));obtain rfl:=ABo (AH8 Bm A6);exact ⟨_,ABz,Bn.x,rfl⟩
def Aaz (fuel:Nat) (a1 a2 a3 a4 a5 a6:Int):Option Bool:=
  (((if a1 < 0 then (some (Sum.inl <| false)) else (if 60 < a1 then (some (Sum.inl <| false)) else (some (Sum.inr <| ())))):Option ((Bool) ⊕ (Unit))).bind (fun ex=>match ex with | Sum.inl Ag=>(some Ag) | Sum.inr (_)=>(if a2=1 then (if a6≠0 then (if ¬ (Int.tmod a3 a6)=0 then (if a4=0 then (some (decide (a5=0))) else (some false)) else (some false)) else none) else (if a6=2 then (if a2=2 then (if (Int.tmod a3 2)=0 then (if ¬ (Int.tmod a4 2)=0 then (some (decide ((Int.tmod a5 2)=0))) else (some false)) else (some false)) else (some false)) else (some false)))))
def AH0 (fuel:Nat) (a1 a2 a3 a4 a5 a6 a7:Int):Option Bool:=
  (((if a6=2 then (some ( (w64 (a7 - 3)))) else (some ( (w64 (a7 - 1))))):Option ((Int))).bind (fun (Ai:Int)=>(((if a1 < 0 then (some (Sum.inl <| false)) else (if Ai < a1 then (some (Sum.inl <| false)) else (some (Sum.inr <| ())))):Option ((Bool) ⊕ (Unit))).bind (fun ex=>match ex with | Sum.inl Aj=>(some Aj) | Sum.inr (_)=>((AFo fuel a6 (w64 (a7 - a1))).bind fun Ae=>(if a2=1 then (if 0 < a3 then (if a3 < Ae then (if a6≠0 then (if ¬ (Int.tmod a3 a6)=0 then (if a4=0 then (some (decide (a5=0))) else (some false)) else (some false)) else none) else (some false)) else (some false)) else (if 0<=a3 then (if a3 < Ae then (if 0<=a4 then (if a4 < Ae then (if 0<=a5 then (if a5 < Ae then (if (Int.tmod a3 2)=0 then (if (Int.tmod a4 2)=1 then (some (decide ((Int.tmod a5 2)=0))) else (some false)) else (some false)) else (some false)) else (some false)) else (some false)) else (some false)) else (some false)) else (some false))))))))
theorem AR3 {fuel:Nat} {h:ABu} {a1 a2 a3 a4 a5 a6 a7:Int} {r:Bool} (hp:AH0 fuel a1 a2 a3 a4 a5 a6 a7=some r):ACn Tryz.prog 57 #[(.agg #[(.int .i64 a1),(.int .i64 a2),(.int .i64 a3),(.int .i64 a4),(.int .i64 a5)]),(.int .i64 a6),(.int .i64 a7)] h (fun x h'=>Ext h h'/\x= .bool r):=by
 unfold AH0 at hp;refine cwf (l:=[_,_,_]) Tryz.func57 rfl rfl (ABp (AGo [(.int .i64 a1),(.int .i64 a2),(.int .i64 a3),(.int .i64 a4),(.int .i64 a5)] trivial tt2 rfl rfl fun b8 h9 Bt Bu Bv=>AC1 (Wo (AIf rfl rfl (ABv ?_)))));have A4:=(Kst.k0 h).nb Bu Bv Bt;obtain ⟨Bw,A9,Bx⟩:=ABq hp;refine ALi 30848 (fun x:(Int)=>[(7,(.int .i64 x))]) (fun x h'=>( x)=Bw/\Kst h h' (A4.L)) ?_ ?_
 ·refine ABp (Wo (AD8 rfl rfl (ABt (⟨_,rfl,fun A5=>?_,fun A5=>?_⟩))))
  ·refine AB5 (Wo (AIf rfl rfl (ABv ?_)));exact ⟨((w64 (a7 - 3)):(Int)),⟨ABo (AC8 A9 A5),A4⟩,rfl,trivial⟩
  ·refine ABy (q_t ?_);exact ⟨((w64 (a7 - 1)):(Int)),⟨ABo (AC9 A9 A5),A4⟩,rfl,trivial⟩
 rintro B9 Ca Cb ⟨By,Ad⟩;subst By;obtain ⟨Bz,Ba,A6⟩:=ABq Bx;refine ALi 16744512 (fun x:Unit=>[]) (fun x h'=>(Sum.inr <| ())=Bz/\Kst h h' (Ad.L)) ?_ ?_
 ·refine ABp (ADp AJ2 rfl (AB6 ADs rfl ((Ad.b p0).cell (i:=0) rfl) (ACu rfl rfl (Wo ?_))));by_cases Ah:a1 < 0
  ·rw [decide_eq_true Ah];refine AFl 18 true (AB2 rfl (ABt (ACd rfl (ABp (ABv ?_)))));obtain rfl:=ABo (ifT Ba Ah);refine ABx (AB4 ?_);obtain rfl:=ABo A6;exact ⟨_,ABz,Ad.x,rfl⟩
  ·have Bb:=ifF Ba Ah;rw [decide_eq_false Ah];refine AB3 18 false (ADp AJ2 rfl (AB3 18 false (AB6 ADs rfl ((Ad.b p0).cell (i:=0) rfl) (AB3 18 false (Wo (AB3 18 false (AGz rfl rfl (AB0 rfl (ABt (⟨_,rfl,fun A7=>?_,fun A7=>?_⟩))))))))))
   ·refine ABp (ABv ?_);obtain rfl:=ABo (AC8 Bb A7);refine ABx (AB4 ?_);obtain rfl:=ABo A6;exact ⟨_,ABz,Ad.x,rfl⟩
   ·refine ABy (q_t ?_);exact ⟨(():Unit),⟨ABo (AC9 Bb A7),Ad⟩,trivial⟩
 rintro ⟨⟩ Cd Ce ⟨B1,Bc⟩;subst B1;refine ABp (Wo (Wo (ADp AJ2 rfl (AB6 ADs rfl ((Bc.b p0).cell (i:=0) rfl) (AIf rfl rfl ?_)))));obtain ⟨Ai,B3,Be⟩:=ABq A6;refine ADb rfl (AK7 B3) fun Cf Cg B4 B5=>?_;subst B5;refine ABv (ABr (ABp (ADp AW2 rfl ?_)));have Aa:=Bc.e B4;refine AB6 ADs rfl ((Aa.b p0).cell (i:=1) rfl) (AD8 rfl rfl (ABt (⟨_,rfl,fun A8=>?_,fun A8=>?_⟩)))
 ·refine ABp (ADp AOe rfl (AB6 ACx rfl ((Aa.b p0).cell (i:=2) rfl) (AGz rfl rfl (Wo ?_))));have Bf:=AC8 Be A8;by_cases Aj:0 < a3
  ·have Bg:=ifT Bf Aj;rw [decide_eq_true Aj];refine AB3 36 true (ADp AOe rfl (AB3 36 true (AB6 ACx rfl ((Aa.b p0).cell (i:=2) rfl) (AB3 36 true (Wo (AB3 36 true (ACu rfl rfl (AB2 rfl (Wo ?_)))))))));by_cases Ak:a3 < Ai
   ·rw [decide_eq_true Ak];refine AB3 42 true (ADp AOe rfl (AB3 42 true (AB6 ACx rfl ((Aa.b p0).cell (i:=2) rfl) (AB3 42 true (Wo (AB3 42 true ?_))))));obtain ⟨B6,Bh⟩:=ifN (ifT Bg Ak);refine AHh rfl rfl B6 (AB3 42 true (AEn rfl rfl (AB2 rfl (Wo ?_))));by_cases Am: ¬ (Int.tmod a3 a6)=0
    ·have Bi:=ifT Bh Am;rw [decide_eq_true Am];refine AB3 49 true (ADp ATr rfl (AB3 49 true (AB6 ACx rfl ((Aa.b p0).cell (i:=3) rfl) (AB3 49 true (AD8 rfl rfl (AB2 rfl (Wo ?_)))))));by_cases Ao:a4=0
     ·rw [decide_eq_true Ao];refine AB3 54 true (ADp AVh rfl (AB3 54 true (AB6 ACx rfl ((Aa.b p0).cell (i:=4) rfl) (AB3 54 true (AD8 rfl rfl (AB2 rfl (ABv (ABx (AB4 ?_)))))))));obtain rfl:=ABo (ifT Bi Ao);exact ⟨_,ABz,Aa.x,rfl⟩
     ·rw [decide_eq_false Ao];refine AE2 54 false (AB0 rfl (ABv (ABx (AB4 ?_))));obtain rfl:=ABo (ifF Bi Ao);exact ⟨_,ABz,Aa.x,rfl⟩
    ·rw [decide_eq_false Am];refine AE2 49 false (AB0 rfl (Wo (AE2 54 false (AB0 rfl (ABv (ABx (AB4 ?_)))))));obtain rfl:=ABo (ifF Bh Am);exact ⟨_,ABz,Aa.x,rfl⟩
   ·rw [decide_eq_false Ak];refine AFe 42 false (AB0 rfl (Wo (AE2 49 false (AB0 rfl (Wo (AE2 54 false (AB0 rfl (ABv (ABx (AB4 ?_))))))))));obtain rfl:=ABo (ifF Bg Ak);exact ⟨_,ABz,Aa.x,rfl⟩
  ·rw [decide_eq_false Aj];refine AFl 36 false (AB0 rfl (Wo (AFe 42 false (AB0 rfl (Wo (AE2 49 false (AB0 rfl (Wo (AE2 54 false (AB0 rfl (ABv (ABx (AB4 ?_)))))))))))));obtain rfl:=ABo (ifF Bf Aj);exact ⟨_,ABz,Aa.x,rfl⟩
 ·refine ABy (q_t (ABp (ADp AOe rfl (AB6 ACx rfl ((Aa.b p0).cell (i:=2) rfl) (ANd rfl rfl (Wo ?_))))));have Bj:=AC9 Be A8;by_cases Ap:0<=a3
  ·have Bl:=ifT Bj Ap;rw [decide_eq_true Ap];refine AB3 62 true (ADp AOe rfl (AB3 62 true (AB6 ACx rfl ((Aa.b p0).cell (i:=2) rfl) (AB3 62 true (Wo (AB3 62 true (ACu rfl rfl (AB2 rfl (Wo ?_)))))))));by_cases Aq:a3 < Ai
   ·have Bm:=ifT Bl Aq;rw [decide_eq_true Aq];refine AB3 68 true (ADp ATr rfl (AB3 68 true (AB6 ACx rfl ((Aa.b p0).cell (i:=3) rfl) (AB3 68 true (ANd rfl rfl (AB2 rfl (Wo ?_)))))));by_cases Ar:0<=a4
    ·have Bn:=ifT Bm Ar;rw [decide_eq_true Ar];refine AB3 73 true (ADp ATr rfl (AB3 73 true (AB6 ACx rfl ((Aa.b p0).cell (i:=3) rfl) (AB3 73 true (Wo (AB3 73 true (ACu rfl rfl (AB2 rfl (Wo ?_)))))))));by_cases Au:a4 < Ai
     ·have Bo:=ifT Bn Au;rw [decide_eq_true Au];refine AB3 79 true (ADp AVh rfl (AB3 79 true (AB6 ACx rfl ((Aa.b p0).cell (i:=4) rfl) (AB3 79 true (ANd rfl rfl (AB2 rfl (Wo ?_)))))));by_cases Av:0<=a5
      ·have Bp:=ifT Bo Av;rw [decide_eq_true Av];refine AB3 84 true (ADp AVh rfl (AB3 84 true (AB6 ACx rfl ((Aa.b p0).cell (i:=4) rfl) (AB3 84 true (Wo (AB3 84 true (ACu rfl rfl (AB2 rfl (Wo ?_)))))))));by_cases Aw:a5 < Ai
       ·have Bq:=ifT Bp Aw;rw [decide_eq_true Aw];refine AB3 90 true (ADp AOe rfl (AB3 90 true (AB6 ACx rfl ((Aa.b p0).cell (i:=2) rfl) (AB3 90 true (AHh rfl rfl (by decide) (AB3 90 true (AD8 rfl rfl (AB2 rfl (Wo ?_)))))))));by_cases Ax:(Int.tmod a3 2)=0
        ·have Br:=ifT Bq Ax;rw [decide_eq_true Ax];refine AB3 96 true (ADp ATr rfl (AB3 96 true (AB6 ACx rfl ((Aa.b p0).cell (i:=3) rfl) (AB3 96 true (AHh rfl rfl (by decide) (AB3 96 true (AD8 rfl rfl (AB2 rfl (Wo ?_)))))))));by_cases Ay:(Int.tmod a4 2)=1
         ·rw [decide_eq_true Ay];refine AB3 102 true (ADp AVh rfl (AB3 102 true (AB6 ACx rfl ((Aa.b p0).cell (i:=4) rfl) (AB3 102 true (AHh rfl rfl (by decide) (AB3 102 true (AD8 rfl rfl (AB2 rfl (ABv (ABx ?_))))))))));obtain rfl:=ABo (ifT Br Ay);exact ⟨_,ABz,Aa.x,rfl⟩
         ·rw [decide_eq_false Ay];refine AFl 102 false (AB0 rfl (ABv (ABx ?_)));obtain rfl:=ABo (ifF Br Ay);exact ⟨_,ABz,Aa.x,rfl⟩
        ·rw [decide_eq_false Ax];refine AFl 96 false (AB0 rfl (Wo (AFl 102 false (AB0 rfl (ABv (ABx ?_))))));obtain rfl:=ABo (ifF Bq Ax);exact ⟨_,ABz,Aa.x,rfl⟩
       ·rw [decide_eq_false Aw];refine AFl 90 false (AB0 rfl (Wo (AFl 96 false (AB0 rfl (Wo (AFl 102 false (AB0 rfl (ABv (ABx ?_)))))))));obtain rfl:=ABo (ifF Bp Aw);exact ⟨_,ABz,Aa.x,rfl⟩
      ·rw [decide_eq_false Av];refine AFl 84 false (AB0 rfl (Wo (AFl 90 false (AB0 rfl (Wo (AFl 96 false (AB0 rfl (Wo (AFl 102 false (AB0 rfl (ABv (ABx ?_))))))))))));obtain rfl:=ABo (ifF Bo Av);exact ⟨_,ABz,Aa.x,rfl⟩
     ·rw [decide_eq_false Au];refine AE2 79 false (AB0 rfl (Wo (AFl 84 false (AB0 rfl (Wo (AFl 90 false (AB0 rfl (Wo (AFl 96 false (AB0 rfl (Wo (AFl 102 false (AB0 rfl (ABv (ABx ?_)))))))))))))));obtain rfl:=ABo (ifF Bn Au);exact ⟨_,ABz,Aa.x,rfl⟩
    ·rw [decide_eq_false Ar];refine AFl 73 false (AB0 rfl (Wo (AE2 79 false (AB0 rfl (Wo (AFl 84 false (AB0 rfl (Wo (AFl 90 false (AB0 rfl (Wo (AFl 96 false (AB0 rfl (Wo (AFl 102 false (AB0 rfl (ABv (ABx ?_))))))))))))))))));obtain rfl:=ABo (ifF Bm Ar);exact ⟨_,ABz,Aa.x,rfl⟩
   ·rw [decide_eq_false Aq];refine AE2 68 false (AB0 rfl (Wo (AFl 73 false (AB0 rfl (Wo (AE2 79 false (AB0 rfl (Wo (AFl 84 false (AB0 rfl (Wo (AFl 90 false (AB0 rfl (Wo (AFl 96 false (AB0 rfl (Wo (AFl 102 false (AB0 rfl (ABv (ABx ?_)))))))))))))))))))));obtain rfl:=ABo (ifF Bl Aq);exact ⟨_,ABz,Aa.x,rfl⟩
  ·rw [decide_eq_false Ap];refine AFl 62 false (AB0 rfl (Wo (AE2 68 false (AB0 rfl (Wo (AFl 73 false (AB0 rfl (Wo (AE2 79 false (AB0 rfl (Wo (AFl 84 false (AB0 rfl (Wo (AFl 90 false (AB0 rfl (Wo (AFl 96 false (AB0 rfl (Wo (AFl 102 false (AB0 rfl (ABv (ABx ?_))))))))))))))))))))))));obtain rfl:=ABo (ifF Bj Ap);exact ⟨_,ABz,Aa.x,rfl⟩
def AKk (fuel:Nat) (a3:(List AJr)) (a6 a7 Aa Ah:Int) (Ae:LiI):Option ((Int × Int × LiI) ⊕ ((LiI))):=
  (if Ah < (a3.length:Int) then ((gI a3 Ah).bind fun Ac=>((AFo fuel a6 Ac.1).bind fun Ad=>((gI Ae Aa).bind fun Af=>(if a7≠0 then ((gI Af Aa).bind fun Ap=>(((if Ac.2.1=2 then ((gI (sI Ae Aa (sI Af Aa (Int.tmod (w64 (Ad * Ac.2.2.1)) a7))) Aa).bind fun Ag=>(if a7≠0 then ((gI Ag (w64 (Aa + 1))).bind fun Aq=>((gI (sI (sI Ae Aa (sI Af Aa (Int.tmod (w64 (Ad * Ac.2.2.1)) a7))) Aa (sI Ag (w64 (Aa + 1)) (Int.tmod (w64 (Ad * Ac.2.2.2.1)) a7))) (w64 (Aa + 1))).bind fun Ai=>(if a7≠0 then ((gI Ai Aa).bind fun Ar=>((gI (sI (sI (sI Ae Aa (sI Af Aa (Int.tmod (w64 (Ad * Ac.2.2.1)) a7))) Aa (sI Ag (w64 (Aa + 1)) (Int.tmod (w64 (Ad * Ac.2.2.2.1)) a7))) (w64 (Aa + 1)) (sI Ai Aa (Int.tmod (w64 (Ad * Ac.2.2.2.1)) a7))) (w64 (Aa + 1))).bind fun Ak=>(if a7≠0 then ((gI Ak (w64 (Aa + 1))).bind fun Au=>(some ( (sI (sI (sI (sI Ae Aa (sI Af Aa (Int.tmod (w64 (Ad * Ac.2.2.1)) a7))) Aa (sI Ag (w64 (Aa + 1)) (Int.tmod (w64 (Ad * Ac.2.2.2.1)) a7))) (w64 (Aa + 1)) (sI Ai Aa (Int.tmod (w64 (Ad * Ac.2.2.2.1)) a7))) (w64 (Aa + 1)) (sI Ak (w64 (Aa + 1)) (Int.tmod (w64 (Ad * Ac.2.2.2.2)) a7)))))) else none))) else none))) else none)) else (some ( (sI Ae Aa (sI Af Aa (Int.tmod (w64 (Ad * Ac.2.2.1)) a7)))))):Option ((LiI))).bind (fun (Ao:LiI)=>(some (Sum.inl ((w64 (Aa + Ac.2.1)),(w64 (Ah + 1)),Ao)))))) else none)))) else (some (Sum.inr<| Ae)))
def AIb (fuel:Nat) (a5 Ab:Int) (Ac:LiI):Option ((Int × LiI) ⊕ ((LiI))):=
  (if Ab < ((List.replicate (Int.toNat a5) ([]:List Int)).length:Int) then (if 0<=a5/\a5<=100000000 then ((gI Ac Ab).bind fun Ad=>(some (Sum.inl ((w64 (Ab + 1)),(sI Ac Ab (List.replicate (Int.toNat a5) (0:Int))))))) else none) else (some (Sum.inr<| Ac)))
def AH1 (fuel:Nat) (a3:(List AJr)) (a5 a6 a7:Int):Option LiI:=
  (if 0<=a5/\a5<=100000000 then ((iter (fun s=>AIb fuel a5 s.1 s.2) fuel (0,(List.replicate (Int.toNat a5) ([]:List Int)))).bind (fun (Ae:LiI)=>((iter (fun s=>AKk fuel a3 a6 a7 s.1 s.2.1 s.2.2) fuel (0,0,Ae)).bind (fun (Af:LiI)=>(some Af))))) else none)
theorem AR4 {fuel:Nat} {h:ABu} {A7:Value} {a3:(List AJr)} {a5 a6 a7:Int} {r:LiI} (H2:SlC AQe h A7 a3) (hp:AH1 fuel a3 a5 a6 a7=some r):ACn Tryz.prog 61 #[A7,(.int .i64 a5),(.int .i64 a6),(.int .i64 a7)] h (fun x h'=>Ext h h'/\ ∃ (x0:Value) (F0:List Nat) (Bz:List LnA) (B1:List Value),x=x0/\AFf (cI .i64) 35 2 h' F0 Bz B1 x0 r/\Sp h' h.size [F0]):=by
 unfold AH1 at hp;refine cwf (l:=[_,_,_,_]) Tryz.func61 rfl rfl (ABp (AC1 (Wo ?_)));obtain ⟨B3,B4⟩:=ifN hp;refine ASb (cI .i64) 2 ACi AN2 rfl trivial tt2 rfl rfl (by decide) B3 fun B5 B6 B7 Ap Ew B8 B9 Ca=>ABv (ABr (ABp (Wo ?_)));have Aq:=(Kst.k0 h).no2 B9 Ca B8;refine ADa ACi rfl (Aq.o2 p0).rd (Wo (ABt (ABw ?_)));obtain ⟨Be,Cb,Cd⟩:=ABq B4;obtain ⟨Ce,Cf,Cg⟩:=ACe Cb;refine ACq 267912192 (fun x:(Int) × (LiI) × LnA × LnN × LvA=>[(19,(.int .i64 x.1))]) (fun k x h'=>iter Ce k (x.1,x.2.1)=some Be/\Kst h h' (Aq.L.set 0 (aO2 (cI .i64) 35 2 x.2.2.1 x.2.2.2.1 x.2.2.2.2 Ap x.2.1))) (by kernel_rfl) fuel ((0,(List.replicate (Int.toNat a5) ([]:List Int)),B5,B6,B7):(Int) × (LiI) × LnA × LnN × LvA) ?_ ⟨rfl,trivial⟩ ?_
 ·exact ⟨Cg,Aq⟩
 rintro Ey ⟨u32,Bf,Ch,Ar,Bg⟩ Ez Fa ⟨Ci,Au⟩;obtain ⟨Cj,Fb,rfl,Af,Av⟩:=AB7 Ci;rw [Cf] at Af;dsimp only at Af;unfold AIb at Af;refine ABp (ACu rfl rfl (ABt (ABr (⟨_,rfl,fun Aw=>?_,fun Aw=>?_⟩))))
 ·refine ABy (q_t (ABr (ABw (ABp (Wo (ABv (AB5 (Wo (Wo (Wo ?_))))))))));obtain ⟨Ck,Cm⟩:=ifN (AC8 Af Aw);refine ARb (c:=(cI .i64)) (a:=0) ACs AMw rfl rfl (fun _=>rfl) rfl trivial tt2 rfl rfl (by decide) Ck fun Bh Cn Fc Co Cp Cq Cr=>?_;have Ag:=Au.no Cp (AIj Cq Cr) Co;obtain ⟨Fd,Bi,Ct⟩:=ABq Cm;refine ADl ACi rfl (Ag.o2 p1) rfl Bi fun Cu Fe Cv Ff Fg=>AS0 AC3 (Ag.o2 p1) Bi Cv rfl rfl (Ag.o p0) (Ag.dj p0 p1 (by decide)) fun Fh Cw Cx Cy=>ACr (q_b (q_t (AB5 (ACz rfl rfl (Wo (ABt ?_))))));obtain rfl:=ABo Ct;exact ⟨Cj,(((w64 (u32 + 1)),(sI Bf u32 (List.replicate (Int.toNat a5) (0:Int))),(Cu :: (Ar.set (Int.toNat u32) [Bh]).flatten),(Ar.set (Int.toNat u32) [Bh]),(Bg.set (Int.toNat u32) Cn)):(Int) × (LiI) × LnA × LnN × LvA),Nat.lt_succ_self _,⟨Av,(Ag.m2 p0 p1 (by decide) Cx Cw (fun z hz=> .inl (Cy z hz))).sel [1] (by decide)⟩,rfl,trivial⟩
 ·obtain rfl:=ABo (AC9 Af Aw);change _=Be at Av;subst Av;refine ACh (ACj (ACj (ADo (q_t (ABp (ABv (ABr (ABp (Wo (ADh AOm rfl H2 (Wo (ABt (ABw ?_)))))))))))));obtain ⟨Bj,Cz,C0⟩:=ABq Cd;obtain ⟨C1,C2,C3⟩:=ACe Cz;refine ACq 316912650057057350373102086144 (fun x:(Int) × (Int) × (LiI) × LnA × LnN × LvA=>[(11,(.int .i64 x.1)),(30,(.int .i64 x.2.1))]) (fun k x h'=>iter C1 k (x.1,x.2.1,x.2.2.1)=some Bj/\Kst h h' (Au.L.set 0 (aO2 (cI .i64) 35 2 x.2.2.2.1 x.2.2.2.2.1 x.2.2.2.2.2 Ap x.2.2.1))) (by kernel_rfl) fuel ((0,0,Bf,Ch,Ar,Bg):(Int) × (Int) × (LiI) × LnA × LnN × LvA) ?_ ⟨rfl,rfl,trivial⟩ ?_
  ·exact ⟨C3,Au⟩
  rintro Fi ⟨Aa,C4,Bl,Bm,Bn,Bo⟩ Fj Fk ⟨C5,Ah⟩;obtain ⟨C6,Fl,rfl,Ai,Ax⟩:=AB7 C5;rw [C2] at Ai;dsimp only at Ai;unfold AKk at Ai;refine ABp (ACu rfl rfl (ABt (ABr (⟨_,rfl,fun Ay=>?_,fun Ay=>?_⟩))))
  ·refine ABy (q_t (ABr (ABw (ABp ?_))));obtain ⟨Ab,C7,C8⟩:=ABq (AC8 Ai Ay);refine AHe (c:=AQe) AOm rfl H2 rfl C7 fun Fm Fo Fp C9 Da=>?_;obtain rfl:=C9;refine AOl (c:=AQe) AO4 rfl rfl (fun j u hu=>(AB1 (Da j u hu) Ah.x)) (ADi [(.int .i64 0),(.int .i64 0),(.int .i64 0),(.int .i64 0),(.int .i64 0)] AWc rfl trivial tt2 fun Fq Fr Db Dc Dd=>?_);have Bp:=Ah.nb Dc Dd Db;refine AC7 [(.int .i64 Ab.1),(.int .i64 Ab.2.1),(.int .i64 Ab.2.2.1),(.int .i64 Ab.2.2.2.1),(.int .i64 Ab.2.2.2.2)] AO4 rfl rfl rfl rfl (by simp [isOne]) (Bp.b p0) fun Ft De Df=>AK0 (Wo (ADp AJ2 rfl ?_));have Bq:=Bp.sb p0 Df De rfl;refine AB6 ADs rfl ((Bq.b p0).cell (i:=0) rfl) ?_;obtain ⟨Ad,Dg,Dh⟩:=ABq C8;refine ADb rfl (AK7 Dg) fun Fu Fv Di Dj=>?_;subst Dj;refine ABv (ABr (AKm (Wo (Wo ?_))));have Aj:=Bq.e Di;obtain ⟨Br,Az,Dk⟩:=ABq Dh;refine ADl ACi rfl (Aj.o2 p1) rfl Az fun Fw Fx Fy Dl Dn=>AB6 AC3 rfl Dn (Wo (Wo (ADp AOe rfl (AB6 ACx rfl ((Aj.b p0).cell (i:=2) rfl) (AQ3 rfl rfl (Wo ?_))))));obtain ⟨Do,Dp⟩:=ifN Dk;refine AHh rfl rfl Do ?_;obtain ⟨Fz,Bt,Dq⟩:=ABq Dp;refine AD2 (m:=Aa) ACs rfl (Aj.o2 p1) Dl Az rfl Bt fun F4 Dr=>AH9 (m:=Aa) (AG8 ACx rfl rfl rfl) (Aj.o2 p1) Dr Az Bt (show ((cI .i64)).rep _ (Int.tmod (w64 (Ad * Ab.2.2.1)) a7) _ from rfl) fun F5 Ds Dt=>ABt ?_;have Ae:=Aj.uO2 p1 Dt Ds;obtain ⟨Du,Bu,Dv⟩:=ABq Dq;refine ALi 9903520314281916299286151168 (fun x:(LiI) × LnA × LnN × LvA=>[]) (fun x h'=>( x.1)=Du/\Kst h h' (Ae.L.set 1 (aO2 (cI .i64) 35 2 x.2.1 x.2.2.1 x.2.2.2 Ap x.1))) ?_ ?_
   ·refine ABp (ADp AW2 rfl (AB6 ADs rfl ((Ae.b p0).cell (i:=1) rfl) (AD8 rfl rfl (ABt (⟨_,rfl,fun A3=>?_,fun A3=>?_⟩)))))
    ·refine ABr (AKm (Wo (Wo ?_)));obtain ⟨Dw,A4,Dx⟩:=ABq (AC8 Bu A3);refine ADl ACi rfl (Ae.o2 p1) rfl A4 fun F6 F7 F8 Dy Dz=>AB6 AC3 rfl Dz (Wo (ACz rfl rfl (Wo (ADp ATr rfl (AB6 ACx rfl ((Ae.b p0).cell (i:=3) rfl) (AQ3 rfl rfl (Wo ?_)))))));obtain ⟨D0,D1⟩:=ifN Dx;refine AHh rfl rfl D0 ?_;obtain ⟨F9,Bv,D2⟩:=ABq D1;refine AD2 (m:=Aa) ACs rfl (Ae.o2 p1) Dy A4 rfl Bv fun Ga D3=>AH9 (m:=Aa) (AG8 ACx rfl rfl rfl) (Ae.o2 p1) D3 A4 Bv (show ((cI .i64)).rep _ (Int.tmod (w64 (Ad * Ab.2.2.2.1)) a7) _ from rfl) fun Gb D4 D5=>ABt (ABr (AKm (Wo (Wo (ACz rfl rfl ?_)))));have Ak:=Ae.uO2 p1 D5 D4;obtain ⟨D6,A5,D7⟩:=ABq D2;refine ADl ACi rfl (Ak.o2 p1) rfl A5 fun Gc Gd Ge D8 D9=>AB6 AC3 rfl D9 (Wo (Wo (ADp ATr rfl (AB6 ACx rfl ((Ak.b p0).cell (i:=3) rfl) (AQ3 rfl rfl (Wo ?_))))));obtain ⟨Ea,Eb⟩:=ifN D7;refine AHh rfl rfl Ea ?_;obtain ⟨Gf,Bw,Ec⟩:=ABq Eb;refine AD2 (m:=(w64 (Aa + 1))) ACs rfl (Ak.o2 p1) D8 A5 rfl Bw fun Gg Ed=>AH9 (m:=(w64 (Aa + 1))) (AG8 ACx rfl rfl rfl) (Ak.o2 p1) Ed A5 Bw (show ((cI .i64)).rep _ (Int.tmod (w64 (Ad * Ab.2.2.2.1)) a7) _ from rfl) fun Gh Ee Ef=>ABt (AKm (Wo (Wo (ACz rfl rfl ?_))));have Am:=Ak.uO2 p1 Ef Ee;obtain ⟨Eg,A6,Eh⟩:=ABq Ec;refine ADl ACi rfl (Am.o2 p1) rfl A6 fun Gi Gj Gk Ei Ej=>AB6 AC3 rfl Ej (Wo (ACz rfl rfl (Wo (ADp AVh rfl (AB6 ACx rfl ((Am.b p0).cell (i:=4) rfl) (AQ3 rfl rfl (Wo ?_)))))));obtain ⟨Ek,El⟩:=ifN Eh;refine AHh rfl rfl Ek ?_;obtain ⟨Gl,Bx,Em⟩:=ABq El;refine AD2 (m:=(w64 (Aa + 1))) ACs rfl (Am.o2 p1) Ei A6 rfl Bx fun Gm En=>AH9 (m:=(w64 (Aa + 1))) (AG8 ACx rfl rfl rfl) (Am.o2 p1) En A6 Bx (show ((cI .i64)).rep _ (Int.tmod (w64 (Ad * Ab.2.2.2.2)) a7) _ from rfl) fun Gn Eo Ep=>ABt ?_;exact ⟨(((sI (sI (sI (sI Bl Aa (sI Br Aa (Int.tmod (w64 (Ad * Ab.2.2.1)) a7))) Aa (sI Dw (w64 (Aa + 1)) (Int.tmod (w64 (Ad * Ab.2.2.2.1)) a7))) (w64 (Aa + 1)) (sI D6 Aa (Int.tmod (w64 (Ad * Ab.2.2.2.1)) a7))) (w64 (Aa + 1)) (sI Eg (w64 (Aa + 1)) (Int.tmod (w64 (Ad * Ab.2.2.2.2)) a7))),Bm,Bn,Bo):(LiI) × LnA × LnN × LvA),⟨ABo Em,(Am.uO2 p1 Ep Eo)⟩,trivial⟩
    ·refine ABy (q_t ?_);exact ⟨(((sI Bl Aa (sI Br Aa (Int.tmod (w64 (Ad * Ab.2.2.1)) a7))),Bm,Bn,Bo):(LiI) × LnA × LnN × LvA),⟨ABo (AC9 Bu A3),Ae⟩,trivial⟩
   rintro ⟨Er,Es,Et,Eu⟩ Gp Gq ⟨Ev,By⟩;subst Ev;refine AB5 (Wo (ADp AW2 rfl (AB6 ADs rfl ((By.b p0).cell (i:=1) rfl) (ACz rfl rfl (ACk (ACr (q_b (q_t (AB5 (ACz rfl rfl (Wo (ABt ?_))))))))))));obtain rfl:=ABo Dv;exact ⟨C6,(((w64 (Aa + Ab.2.1)),(w64 (C4 + 1)),Er,Es,Et,Eu):(Int) × (Int) × (LiI) × LnA × LnN × LvA),Nat.lt_succ_self _,⟨Ax,By.sel [1] (by decide)⟩,rfl,rfl,trivial⟩
  ·obtain rfl:=ABo (AC9 Ai Ay);change _=Bj at Ax;subst Ax;refine ACh (ACj (ACj (ADo (q_t (ABp (Wo (ABv (ABx ?_))))))));obtain rfl:=ABo C0;exact ⟨_,ABz,Ah.x,_,_,_,_,rfl,(Ah.o2 p0),Ah.s.sel [0] (by decide)⟩
def AH2 (fuel:Nat) (a3:LiI) (Ab:Int):Option ((Int) ⊕ ((Bool) ⊕ (Unit))):=
  (if Ab < (a3.length:Int) then ((gI a3 Ab).bind fun Ac=>(if ¬ (Ac.length:Int)=(a3.length:Int) then (some (Sum.inr<| Sum.inl <| false)) else (some (Sum.inl (w64 (Ab + 1)))))) else (some (Sum.inr<| Sum.inr <| ())))
def AHp (fuel:Nat) (a3:LiI):Option Bool:=
  ((iter (fun s=>AH2 fuel a3 s) fuel 0).bind (fun ex=>match ex with | Sum.inl Ab=>(some Ab) | Sum.inr (_)=>(some true)))
theorem ARt {fuel:Nat} {h:ABu} {Ah:Value} {a3:LiI} {r:Bool} (H2:AEq (cI .i64) h Ah a3) (hp:AHp fuel a3=some r):ACn Tryz.prog 32 #[Ah] h (fun x h'=>Ext h h'/\x= .bool r):=by
 unfold AHp at hp;refine cwf (l:=[_]) Tryz.func32 rfl rfl (ABp (ABv (ABr (ABp (Wo (ADa ACi rfl H2 (Wo (ABt (ABw ?_)))))))));have K0:=Kst.k0 h;obtain ⟨Ae,Ao,Ak⟩:=ABq hp;obtain ⟨Ap,Aq,Ar⟩:=ACe Ao;refine ACq 130964 (fun x:(Int)=>[(7,(.int .i64 x))]) (fun k x h'=>iter Ap k x=some Ae/\Kst h h' (K0.L)) (by kernel_rfl) fuel (0:(Int)) ?_ ⟨rfl,trivial⟩ ?_
 ·exact ⟨Ar,K0⟩
 rintro Az u16 A3 A4 ⟨Au,Ac⟩;obtain ⟨Av,A5,rfl,Aa,Ab⟩:=AB7 Au;rw [Aq] at Aa;dsimp only at Aa;unfold AH2 at Aa;refine ABp (ACu rfl rfl (ABt (ABr (⟨_,rfl,fun Af=>?_,fun Af=>?_⟩))))
 ·refine ABy (q_t (ABr (ABw (ABp ?_))));obtain ⟨A6,Aw,Am⟩:=ABq (AC8 Aa Af);refine AFg ACi rfl H2 rfl Aw fun A7 A8 A9 Ax Ay=>AB6 AC3 rfl (AB1 Ax Ac.x) (AC1 (Wo (ADh ACs rfl Ay (Wo (ADa ACi rfl H2 (AEn rfl rfl (ABt (⟨_,rfl,fun Ag=>?_,fun Ag=>?_⟩))))))))
  ·refine ABp (ABv ?_);obtain rfl:=ABo (AC8 Am Ag);change _=Ae at Ab;subst Ab;refine ABx (ADe (AB4 (AB4 (ADe (AB4 ?_)))));obtain rfl:=ABo Ak;exact ⟨_,ABz,Ac.x,rfl⟩
  ·refine ABy (q_b (q_t (AB5 (ACz rfl rfl (Wo (ABt ?_))))));obtain rfl:=ABo (AC9 Am Ag);exact ⟨Av,((w64 (u16 + 1)):(Int)),Nat.lt_succ_self _,⟨Ab,Ac⟩,rfl,trivial⟩
 ·obtain rfl:=ABo (AC9 Aa Af);change _=Ae at Ab;subst Ab;refine ACh (ACj (ACj (ADo (q_t (ABp (ABv (ABx ?_)))))));obtain rfl:=ABo Ak;exact ⟨_,ABz,Ac.x,rfl⟩
def AIc (fuel:Nat) (Ad:Int) (Ab:LiA) (Aa:Int):Option ((Int) ⊕ ((Bool) ⊕ (Unit))):=
  (if Aa < (Ab.length:Int) then ((gI Ab Aa).bind fun Ac=>(if Ac < 0 then (some (Sum.inr<| Sum.inl <| false)) else (if Ad<=Ac then (some (Sum.inr<| Sum.inl <| false)) else (some (Sum.inl (w64 (Aa + 1))))))) else (some (Sum.inr<| Sum.inr <| ())))
def AGm (fuel:Nat) (a8:LiI) (Ac Aa:Int):Option ((Int) ⊕ ((Bool) ⊕ (Unit))):=
  (if Aa < (a8.length:Int) then ((gI a8 Aa).bind fun Ad=>((iter (fun s=>AIc fuel Ac Ad s) fuel 0).bind (fun ex=>match ex with | Sum.inl Ae=>(some (Sum.inr<| Sum.inl <| Ae)) | Sum.inr (_)=>(some (Sum.inl (w64 (Aa + 1))))))) else (some (Sum.inr<| Sum.inr <| ())))
def AId (fuel:Nat) (a5:Int) (Ac:(List AJr)) (Ae Aa:Int):Option ((Int) ⊕ ((Bool) ⊕ (Unit))):=
  (if Aa < (Ac.length:Int) then ((gI Ac Aa).bind fun Ab=>((AH0 fuel Ab.1 Ab.2.1 Ab.2.2.1 Ab.2.2.2.1 Ab.2.2.2.2 a5 Ae).bind fun Af=>(if (!Af)=true then (some (Sum.inr<| Sum.inl <| false)) else (if 0 < Aa then ((gI Ac (w64 (Aa - 1))).bind fun Ag=>(if Ab.1 < Ag.1 then (some (Sum.inr<| Sum.inl <| false)) else (some (Sum.inl (w64 (Aa + 1)))))) else (some (Sum.inl (w64 (Aa + 1)))))))) else (some (Sum.inr<| Sum.inr <| ())))
def AH3 (fuel:Nat) (a3:LiI) (a5:Int) (a8:LiI) (Ae:(List AJr)):Option Bool:=
  ((AGg fuel a3 a5).bind fun Af=>((AFo fuel a5 Af).bind fun Ad=>((iter (fun s=>AId fuel a5 Ae Af s) fuel 0).bind (fun ex=>match ex with | Sum.inl Ag=>(some Ag) | Sum.inr (_)=>((iter (fun s=>AGm fuel a8 Ad s) fuel 0).bind (fun ex=>match ex with | Sum.inl Ah=>(some Ah) | Sum.inr (_)=>((AH5 fuel a8 a5).bind fun (Ai,Ao)=>((AF4 fuel a3 a8 Ad).bind fun (Aj,Ap)=>(if ¬ Ai=0 then ((AH1 fuel Ae (a3.length:Int) a5 Ad).bind fun Ak=>((AIr fuel Aj Ak).bind fun Am=>(some Am))) else (some false))))))))))
theorem AR5 {fuel:Nat} {h:ABu} {Bm:Value} {a3:LiI} {a5:Int} {A3:Value} {a8:LiI} {A4:Value} {Bp:(List AJr)} {r:Bool} (H2:AEq (cI .i64) h Bm a3) (H7:AEq (cI .i64) h A3 a8) (Ap:SlC AQe h A4 Bp) (hp:AH3 fuel a3 a5 a8 Bp=some r):ACn Tryz.prog 25 #[Bm,(.agg #[(.int .i64 a5),A3,A4])] h (fun x h'=>Ext h h'/\x= .bool r):=by
 unfold AH3 at hp;refine cwf (l:=[_,_]) Tryz.func25 rfl rfl (ABp (AGo [(.int .i64 a5),A3,A4] trivial tt2 rfl rfl fun D8 D9 B4 B5 B6=>AC1 (Wo (ADp AL7 rfl ?_))));have A6:=(Kst.k0 h).nb B5 B6 B4;refine AB6 ACx rfl ((A6.b p0).cell (i:=0) rfl) ?_;obtain ⟨Ea,B7,B8⟩:=ABq hp;refine ADb rfl (AR1 (H2.ext A6.x) B7) fun Eb Ec B9 Ca=>?_;subst Ca;refine AC1 (ADp AL7 rfl ?_);have Bq:=A6.e B9;refine AB6 ACx rfl ((Bq.b p0).cell (i:=0) rfl) (Wo ?_);obtain ⟨Ed,Cb,Cd⟩:=ABq B8;refine ADb rfl (AK7 Cb) fun Ee Ef Ce Cf=>?_;subst Cf;refine ABv (ABr (ABp (ADp AL8 rfl ?_)));have A7:=Bq.e Ce;refine AB6 ARc rfl ((A7.b p0).cell (i:=2) rfl) (ADh AOm rfl Ap (Wo (ABt (ABw ?_))));obtain ⟨Aq,Cg,A8⟩:=ABq Cd;obtain ⟨Ch,Ci,Cj⟩:=ACe Cg;refine ACq 72057593769492880 (fun x:(Int)=>[(28,(.int .i64 x))]) (fun k x h'=>iter Ch k x=some Aq/\Kst h h' (A7.L)) (by kernel_rfl) fuel (0:(Int)) ?_ ⟨rfl,trivial⟩ ?_
 ·exact ⟨Cj,A7⟩
 rintro Eg A9 Eh Ei ⟨Ck,Ag⟩;obtain ⟨Br,Ej,rfl,Ah,Ab⟩:=AB7 Ck;rw [Ci] at Ah;dsimp only at Ah;unfold AId at Ah;refine ABp (ACu rfl rfl (ABt (ABr (⟨_,rfl,fun Ba=>?_,fun Ba=>?_⟩))))
 ·refine ABy (q_t (ABr (ABw (ABp (Wo ?_)))));obtain ⟨Aa,Cm,Cn⟩:=ABq (AC8 Ah Ba);refine AHe (c:=AQe) AOm rfl Ap rfl Cm fun Ek El Em Co Cp=>?_;obtain rfl:=Co;refine AOl (c:=AQe) AO4 rfl rfl (fun j u hu=>(AB1 (Cp j u hu) Ag.x)) (ADi [(.int .i64 0),(.int .i64 0),(.int .i64 0),(.int .i64 0),(.int .i64 0)] AWc rfl trivial tt2 fun En Eo Cq Cr Ct=>ACk ?_);have Bt:=Ag.nb Cr Ct Cq;refine AC7 [(.int .i64 Aa.1),(.int .i64 Aa.2.1),(.int .i64 Aa.2.2.1),(.int .i64 Aa.2.2.2.1),(.int .i64 Aa.2.2.2.2)] AO4 rfl rfl rfl rfl (by simp [isOne]) (Bt.b p0) fun Ep Cu Cv=>ABt (ABr (AKm ?_));have Bb:=Bt.sb p0 Cv Cu rfl;refine AEu [(.int .i64 Aa.1),(.int .i64 Aa.2.1),(.int .i64 Aa.2.2.1),(.int .i64 Aa.2.2.2.1),(.int .i64 Aa.2.2.2.2)] AO4 rfl rfl (Bb.b p0).agg (ADp AL7 rfl (AB6 ACx rfl ((Bb.b p1).cell (i:=0) rfl) (Wo ?_)));obtain ⟨Cw,Cx,Bu⟩:=ABq Cn;refine ADb rfl (AR3 Cx) fun Er Es Cy Cz=>?_;subst Cz;refine AE1 rfl (Wo ?_);have Ac:=Bb.e Cy;cases Bv:(!Cw)
  ·refine AB3 39 false (Wo (AB3 39 false (AGz rfl rfl (AB3 39 false (Wo ?_)))));have Bw:=AH8 Bu Bv;by_cases Ar:0 < A9
   ·rw [decide_eq_true Ar];refine AB3 42 true (ADp AJ2 rfl (AB3 42 true (AB6 ADs rfl ((Ac.b p0).cell (i:=0) rfl) (AB3 42 true (ADp AL8 rfl (AB3 42 true (AB6 ARc rfl ((Ac.b p1).cell (i:=2) rfl) (AB3 42 true (Wo (AB3 42 true (AIf rfl rfl (AB3 42 true ?_))))))))))));obtain ⟨Et,C0,Bx⟩:=ABq (ifT Bw Ar);refine AHe (c:=AQe) AOm rfl Ap rfl C0 fun Eu Ev Ew C1 C2=>?_;obtain rfl:=C1;refine AB3 42 true (ADp AJ2 rfl (AB3 42 true (AB6 ADs rfl (AB1 (C2 0 _ rfl) Ac.x) (AB3 42 true (ACu rfl rfl (AB3 39 false (AB2 rfl (AB0 rfl (ABt (⟨_,rfl,fun Bc=>?_,fun Bc=>?_⟩))))))))))
    ·refine ABp (ABv ?_);obtain rfl:=ABo (AC8 Bx Bc);change _=Aq at Ab;subst Ab;refine ABx (ADe (AB4 (AB4 (ADe (AB4 ?_)))));obtain rfl:=ABo A8;exact ⟨_,ABz,Ac.x,rfl⟩
    ·refine ABy (q_b (q_t (AB5 (ACz rfl rfl (Wo (ABt ?_))))));obtain rfl:=ABo (AC9 Bx Bc);exact ⟨Br,((w64 (A9 + 1)):(Int)),Nat.lt_succ_self _,⟨Ab,Ac.sel [1] (by decide)⟩,rfl,trivial⟩
   ·rw [decide_eq_false Ar];refine AFe 42 false (AFe 42 false (AB3 39 false (AB0 rfl (AB0 rfl (ABt (ACo rfl (ABy (q_b (q_t (AB5 (ACz rfl rfl (Wo (ABt ?_)))))))))))));obtain rfl:=ABo (ifF Bw Ar);exact ⟨Br,((w64 (A9 + 1)):(Int)),Nat.lt_succ_self _,⟨Ab,Ac.sel [1] (by decide)⟩,rfl,trivial⟩
  ·refine AE2 39 true (APs 42 (by kernel_rfl) rfl (APs 42 (by kernel_rfl) rfl (APs 42 (by kernel_rfl) rfl (APs 42 (by kernel_rfl) rfl (APs 42 (by kernel_rfl) rfl (APs 42 (by kernel_rfl) rfl (APs 42 (by kernel_rfl) rfl (APs 42 (by kernel_rfl) rfl (APs 42 (by kernel_rfl) rfl (APs 42 (by kernel_rfl) rfl (AWs 39 true (AB2 rfl (ABt (ACd rfl (ABp (ABv ?_))))))))))))))));obtain rfl:=ABo (ifT Bu Bv);change _=Aq at Ab;subst Ab;refine ABx (ADe (AB4 (AB4 (ADe (AB4 ?_)))));obtain rfl:=ABo A8;exact ⟨_,ABz,Ac.x,rfl⟩
 ·obtain rfl:=ABo (AC9 Ah Ba);change _=Aq at Ab;subst Ab;refine ACh (ACj (ACj (ADo (q_t (ABr (ABp (ADp AO5 rfl (AB6 AS1 rfl ((Ag.b p0).cell (i:=1) rfl) (ADa ACi rfl H7 (Wo (ABt (ABw ?_))))))))))));obtain ⟨Au,C3,Be⟩:=ABq A8;obtain ⟨C4,C5,C6⟩:=ACe C3;refine ACq 302230878442904990258192 (fun x:(Int)=>[(59,(.int .i64 x))]) (fun k x h'=>iter C4 k x=some Au/\Kst h h' (Ag.L)) (by kernel_rfl) fuel (0:(Int)) ?_ ⟨rfl,trivial⟩ ?_
  ·exact ⟨C6,Ag⟩
  rintro Ey C7 Ez Fa ⟨C8,Ad⟩;obtain ⟨C9,Fb,rfl,Ai,Ae⟩:=AB7 C8;rw [C5] at Ai;dsimp only at Ai;unfold AGm at Ai;refine ABp (ACu rfl rfl (ABt (ABr (⟨_,rfl,fun Bf=>?_,fun Bf=>?_⟩))))
  ·refine ABy (q_t (ABr (ABw (ABp ?_))));obtain ⟨Fc,Da,Db⟩:=ABq (AC8 Ai Bf);refine AFg ACi rfl H7 rfl Da fun Fd Fe Ff Dc By=>AB6 AC3 rfl (AB1 Dc Ad.x) (AC1 (Wo (ADh ACs rfl By (Wo (ABt (ABw ?_))))));obtain ⟨Av,Dd,Bg⟩:=ABq Db;obtain ⟨De,Df,Dg⟩:=ACe Dd;refine ACq 151078833963681227739152 (fun x:(Int)=>[(65,(.int .i64 x))]) (fun k x h'=>iter De k x=some Av/\Kst h h' (Ad.L)) (by kernel_rfl) fuel (0:(Int)) ?_ ⟨rfl,trivial⟩ ?_
   ·exact ⟨Dg,Ad⟩
   rintro Fg Dh Fh Fi ⟨Di,Aj⟩;obtain ⟨Dj,Fj,rfl,Ak,Af⟩:=AB7 Di;rw [Df] at Ak;dsimp only at Ak;unfold AIc at Ak;refine ABp (ACu rfl rfl (ABt (ABr (⟨_,rfl,fun Bh=>?_,fun Bh=>?_⟩))))
   ·refine ABy (q_t (ABr (ABw (ABp ?_))));obtain ⟨Dk,Dl,Bz⟩:=ABq (AC8 Ak Bh);refine AHe (c:=(cI .i64)) ACs rfl By rfl Dl fun Fk Fl Fm Dn Do=>?_;obtain rfl:=Dn;refine AB6 ACx rfl (AB1 (Do 0 _ rfl) Aj.x) (AC1 (Wo (ACu rfl rfl (Wo ?_))));by_cases Aw:Dk < 0
    ·rw [decide_eq_true Aw];refine AE2 71 true (AB2 rfl (ABt (ACd rfl (ABp (ABv ?_)))));obtain rfl:=ABo (ifT Bz Aw);change _=Av at Af;subst Af;obtain rfl:=ABo Bg;change _=Au at Ae;subst Ae;refine ABx (ADe (AB4 (AB4 (ADe (ADe (AB4 (AB4 (ADe (AB4 ?_)))))))));obtain rfl:=ABo Be;exact ⟨_,ABz,Aj.x,rfl⟩
    ·have B1:=ifF Bz Aw;rw [decide_eq_false Aw];refine AB3 71 false (Wo (AB3 71 false (Wo (AB3 71 false (ANd rfl rfl (AB0 rfl (ABt (⟨_,rfl,fun Bi=>?_,fun Bi=>?_⟩))))))))
     ·refine ABp (ABv ?_);obtain rfl:=ABo (AC8 B1 Bi);change _=Av at Af;subst Af;obtain rfl:=ABo Bg;change _=Au at Ae;subst Ae;refine ABx (ADe (AB4 (AB4 (ADe (ADe (AB4 (AB4 (ADe (AB4 ?_)))))))));obtain rfl:=ABo Be;exact ⟨_,ABz,Aj.x,rfl⟩
     ·refine ABy (q_b (q_t (AB5 (ACz rfl rfl (Wo (ABt ?_))))));obtain rfl:=ABo (AC9 B1 Bi);exact ⟨Dj,((w64 (Dh + 1)):(Int)),Nat.lt_succ_self _,⟨Af,Aj⟩,rfl,trivial⟩
   ·obtain rfl:=ABo (AC9 Ak Bh);change _=Av at Af;subst Af;refine ACh (ACj (ACj (ADo (q_b (q_t (AB5 (ACz rfl rfl (Wo (ABt ?_)))))))));obtain rfl:=ABo Bg;exact ⟨C9,((w64 (C7 + 1)):(Int)),Nat.lt_succ_self _,⟨Ae,Aj⟩,rfl,trivial⟩
  ·obtain rfl:=ABo (AC9 Ai Bf);change _=Au at Ae;subst Ae;refine ACh (ACj (ACj (ADo (q_t (ABp (ADp AO5 rfl (AB6 AS1 rfl ((Ad.b p0).cell (i:=1) rfl) (ADp AL7 rfl (AB6 ACx rfl ((Ad.b p0).cell (i:=0) rfl) ?_)))))))));obtain ⟨⟨Dp,Fo⟩,Dq,B3⟩:=ABq Be;dsimp only at B3;refine ADb rfl (AT7 (H7.ext Ad.x) Dq) fun Fp Fq Dr Ds=>?_;subst Ds;refine Wo (ADm rfl rfl (ADm rfl rfl (ACk (AC1 (Wo (ADp AO5 rfl ?_))))));have Ax:=Ad.e Dr;refine AB6 AS1 rfl ((Ax.b p0).cell (i:=1) rfl) (Wo ?_);obtain ⟨⟨Fr,Ft⟩,Dt,Bj⟩:=ABq B3;dsimp only at Bj;refine ADb rfl (AP5 (H2.ext Ax.x) (H7.ext Ax.x) Dt) fun Fu Fv Du Dv=>?_;obtain ⟨Fw,Fx,Fy,Fz,rfl,Dw,Dx⟩:=Dv;refine Wo (ADm rfl rfl (ADm rfl rfl (ACk (AC1 (Wo (AEn rfl rfl (Wo ?_)))))));have Am:=Ax.no2 Du Dx Dw;by_cases Ay: ¬ Dp=0
   ·rw [decide_eq_true Ay];refine AB3 96 true (Wo (AB3 96 true (ADp AL8 rfl (AB3 96 true (AB6 ARc rfl ((Am.b p1).cell (i:=2) rfl) (AB3 96 true (Wo (AB3 96 true (ADa ACi rfl H2 (AB3 96 true (ADp AL7 rfl (AB3 96 true (AB6 ACx rfl ((Am.b p1).cell (i:=0) rfl) (AB3 96 true (Wo (AB3 96 true ?_))))))))))))))));obtain ⟨F4,Dy,Dz⟩:=ABq (ifT Bj Ay);refine ADb rfl (AR4 (Ap.ext Am.x) Dy) fun F5 F6 D0 D1=>?_;obtain ⟨F7,F8,F9,Ga,rfl,D2,D3⟩:=D1;refine AB3 96 true ?_;have Bl:=Am.no2 D0 D3 D2;obtain ⟨Gb,D4,D5⟩:=ABq Dz;refine ADb rfl (ATc (Bl.o2 p1).rd (Bl.o2 p0).rd D4) fun Gc Gd D6 D7=>?_;subst D7;refine AB2 rfl (ABv (ABx ?_));obtain rfl:=ABo D5;exact ⟨_,ABz,(Bl.e D6).x,rfl⟩
   ·rw [decide_eq_false Ay];refine AFe 96 false (AFe 96 false (AB0 rfl (ABv (ABx ?_))));obtain rfl:=ABo (ifF Bj Ay);exact ⟨_,ABz,Am.x,rfl⟩
noncomputable def AGn (fuel:Nat) (Ab:(List AJr)) (Aa:Int):Option ((Int) ⊕ ((Int) ⊕ (Unit))):=
  (if Aa < (Ab.length:Int) then ((gI Ab Aa).bind fun Ac=>(if ¬ Ac.2.1=1 then (some (Sum.inr<| Sum.inl <| 10)) else (some (Sum.inl (w64 (Aa + 1)))))) else (some (Sum.inr<| Sum.inr <| ())))
noncomputable def AFc (fuel:Nat) (a3:LiI) (a5:Int) (a8:LiI) (Ac:(List AJr)):Option Int:=
  ((AE8 fuel a3).bind fun Ae=>(if (!Ae)=true then (some 6) else ((Adg fuel a5).bind fun Af=>(if (!Af)=true then (some 20) else (((if ¬ (a8.length:Int)=(a3.length:Int) then (some (Sum.inl <| 3)) else (if ¬ (Ac.length:Int)=(a3.length:Int) then (some (Sum.inl <| 3)) else ((AHp fuel a8).bind fun Ag=>(if (!Ag)=true then (some (Sum.inl <| 3)) else (some (Sum.inr <| ())))))):Option ((Int) ⊕ (Unit))).bind (fun ex=>match ex with | Sum.inl Ah=>(some Ah) | Sum.inr (_)=>((iter (fun s=>AGn fuel Ac s) fuel 0).bind (fun ex=>match ex with | Sum.inl Ai=>(some Ai) | Sum.inr (_)=>((AH3 fuel a3 a5 a8 Ac).bind fun Aj=>(if (!Aj)=true then (some 10) else (some 0)))))))))))
theorem AN1 {fuel:Nat} {h:ABu} {A8:Value} {a3:LiI} {a5:Int} {Ah:Value} {a8:LiI} {Ai:Value} {Ar:(List AJr)} {r:Int} (H2:AEq (cI .i64) h A8 a3) (H7:AEq (cI .i64) h Ah a8) (Ak:SlC AQe h Ai Ar) (hp:AFc fuel a3 a5 a8 Ar=some r):ACn Tryz.prog 13 #[A8,(.agg #[(.int .i64 a5),Ah,Ai])] h (fun x h'=>Ext h h'/\x= .int .i64 r):=by
 unfold AFc at hp;refine cwf (l:=[_,_]) Tryz.func13 rfl rfl (ABp (AGo [(.int .i64 a5),Ah,Ai] trivial tt2 rfl rfl fun Co Cp Bn Bo Bp=>ABv (ABr (ABp (Wo ?_)))));have A9:=(Kst.k0 h).nb Bo Bp Bn;obtain ⟨Cq,Bq,Ba⟩:=ABq hp;refine ADb rfl (AQj (H2.ext A9.x) Bq) fun Cr Ct Br Bt=>?_;subst Bt;refine AE1 rfl (ABt ?_);have Av:=A9.e Br;refine ⟨_,rfl,fun Aw=>?_,fun Aw=>?_⟩
 ·refine ABp (ABv (ABx (AB4 ?_)));obtain rfl:=ABo (ifT Ba Aw);exact ⟨_,ABz,Av.x,rfl⟩
 ·refine ABy (q_t (ABr (ABp (ADp AL7 rfl (AB6 ACx rfl ((Av.b p0).cell (i:=0) rfl) ?_)))));obtain ⟨Cu,Bu,Bb⟩:=ABq (AH8 Ba Aw);refine ADb rfl (Anl Bu) fun Cv Cw Bv Bw=>?_;subst Bw;refine AE1 rfl (ABt ?_);have Aa:=Av.e Bv;refine ⟨_,rfl,fun Ax=>?_,fun Ax=>?_⟩
  ·refine ABp (ABv (ABx (AB4 ?_)));obtain rfl:=ABo (ifT Bb Ax);exact ⟨_,ABz,Aa.x,rfl⟩
  ·refine ABy (q_t ?_);obtain ⟨Bx,Bc,Am⟩:=ABq (AH8 Bb Ax);refine ALi 17179852816 (fun x:Unit=>[]) (fun x h'=>(Sum.inr <| ())=Bx/\Kst h h' (Aa.L)) ?_ ?_
   ·refine ABp (ADp AO5 rfl (AB6 AS1 rfl ((Aa.b p0).cell (i:=1) rfl) (ADa ACi rfl H7 (Wo (ADa ACi rfl H2 (AEn rfl rfl (Wo ?_)))))));by_cases Ao: ¬ (a8.length:Int)=(a3.length:Int)
    ·rw [decide_eq_true Ao];refine AFe 20 true (AWs 20 true (AB2 rfl (Wo (AFl 28 true (AB2 rfl (ABt (ACd rfl (ABp (ABv ?_)))))))));obtain rfl:=ABo (ifT Bc Ao);refine ABx (AB4 ?_);obtain rfl:=ABo Am;exact ⟨_,ABz,Aa.x,rfl⟩
    ·have Be:=ifF Bc Ao;rw [decide_eq_false Ao];refine AB3 20 false (ADp AL8 rfl (AB3 20 false (AB6 ARc rfl ((Aa.b p0).cell (i:=2) rfl) (AB3 20 false (ADh AOm rfl Ak (AB3 20 false (Wo (AB3 20 false (ADa ACi rfl H2 (AB3 20 false (AEn rfl rfl (AB0 rfl (Wo ?_)))))))))))));by_cases Ap: ¬ (Ar.length:Int)=(a3.length:Int)
     ·rw [decide_eq_true Ap];refine AFl 28 true (AB2 rfl (ABt (ACd rfl (ABp (ABv ?_)))));obtain rfl:=ABo (ifT Be Ap);refine ABx (AB4 ?_);obtain rfl:=ABo Am;exact ⟨_,ABz,Aa.x,rfl⟩
     ·rw [decide_eq_false Ap];refine AB3 28 false (ADp AO5 rfl (AB3 28 false (AB6 AS1 rfl ((Aa.b p0).cell (i:=1) rfl) (AB3 28 false ?_))));obtain ⟨Cx,By,Bf⟩:=ABq (ifF Be Ap);refine ADb rfl (ARt (H7.ext Aa.x) By) fun Cy Cz Bz B1=>?_;subst B1;refine AB3 28 false (AE1 rfl (AB0 rfl (ABt ?_)));have Bg:=Aa.e Bz;refine ⟨_,rfl,fun Ay=>?_,fun Ay=>?_⟩
      ·refine ABp (ABv ?_);obtain rfl:=ABo (ifT Bf Ay);refine ABx (AB4 ?_);obtain rfl:=ABo Am;exact ⟨_,ABz,Bg.x,rfl⟩
      ·refine ABy (q_t ?_);exact ⟨(():Unit),⟨ABo (AH8 Bf Ay),Bg⟩,trivial⟩
   rintro ⟨⟩ C0 C1 ⟨B3,Az⟩;subst B3;refine ABr (ABp (ADp AL8 rfl (AB6 ARc rfl ((Az.b p0).cell (i:=2) rfl) (ADh AOm rfl Ak (Wo (ABt (ABw ?_)))))));obtain ⟨A3,B4,Bh⟩:=ABq Am;obtain ⟨B5,B6,B7⟩:=ACe B4;refine ACq 35046933135440 (fun x:(Int)=>[(37,(.int .i64 x))]) (fun k x h'=>iter B5 k x=some A3/\Kst h h' (Az.L)) (by kernel_rfl) fuel (0:(Int)) ?_ ⟨rfl,trivial⟩ ?_
   ·exact ⟨B7,Az⟩
   rintro C2 B8 C3 C4 ⟨B9,Ab⟩;obtain ⟨Ca,C5,rfl,Ac,Ad⟩:=AB7 B9;rw [B6] at Ac;dsimp only at Ac;unfold AGn at Ac;refine ABp (ACu rfl rfl (ABt (ABr (⟨_,rfl,fun A4=>?_,fun A4=>?_⟩))))
   ·refine ABy (q_t (ABr (ABw (ABp ?_))));obtain ⟨Ae,Cb,Bi⟩:=ABq (AC8 Ac A4);refine AHe (c:=AQe) AOm rfl Ak rfl Cb fun C6 C7 C8 Cd Ce=>?_;obtain rfl:=Cd;refine AOl (c:=AQe) AO4 rfl rfl (fun j u hu=>(AB1 (Ce j u hu) Ab.x)) (ADi [(.int .i64 0),(.int .i64 0),(.int .i64 0),(.int .i64 0),(.int .i64 0)] AWc rfl trivial tt2 fun C9 Da Cf Cg Ch=>?_);have Bj:=Ab.nb Cg Ch Cf;refine AC7 [(.int .i64 Ae.1),(.int .i64 Ae.2.1),(.int .i64 Ae.2.2.1),(.int .i64 Ae.2.2.2.1),(.int .i64 Ae.2.2.2.2)] AO4 rfl rfl rfl rfl (by simp [isOne]) (Bj.b p0) fun Db Ci Cj=>AK0 (ADp AW2 rfl ?_);have A5:=Bj.sb p0 Cj Ci rfl;refine AB6 ADs rfl ((A5.b p0).cell (i:=1) rfl) (AEn rfl rfl (ABt (⟨_,rfl,fun A6=>?_,fun A6=>?_⟩)))
    ·refine ABp (ABv ?_);obtain rfl:=ABo (AC8 Bi A6);change _=A3 at Ad;subst Ad;refine ABx (ADe (AB4 (AB4 (ADe (AB4 ?_)))));obtain rfl:=ABo Bh;exact ⟨_,ABz,A5.x,rfl⟩
    ·refine ABy (q_b (q_t (AB5 (ACz rfl rfl (Wo (ABt ?_))))));obtain rfl:=ABo (AC9 Bi A6);exact ⟨Ca,((w64 (B8 + 1)):(Int)),Nat.lt_succ_self _,⟨Ad,A5.sel [1] (by decide)⟩,rfl,trivial⟩
   ·obtain rfl:=ABo (AC9 Ac A4);change _=A3 at Ad;subst Ad;refine ACh (ACj (ACj (ADo (q_t (ABr (ABp (Wo (AEu [(.int .i64 a5),Ah,Ai] ATq rfl rfl (Ab.b p0).agg ?_))))))));obtain ⟨Dc,Ck,Bl⟩:=ABq Bh;refine ADb rfl (AR5 (H2.ext Ab.x) (H7.ext Ab.x) (Ak.ext Ab.x) Ck) fun Dd De Cm Cn=>?_;subst Cn;refine AE1 rfl (ABt ?_);have Bm:=Ab.e Cm;refine ⟨_,rfl,fun A7=>?_,fun A7=>?_⟩
    ·refine ABp (ABv (ABx (AB4 ?_)));obtain rfl:=ABo (ifT Bl A7);exact ⟨_,ABz,Bm.x,rfl⟩
    ·refine ABy (q_t (ABp (ABv (ABx ?_))));obtain rfl:=ABo (AH8 Bl A7);exact ⟨_,ABz,Bm.x,rfl⟩
def AM7 (fuel:Nat) (a3 a7:(List AQd)) (Ac:Int):Option ((Int) ⊕ ((Bool) ⊕ (Unit))):=
  (if Ac < (a3.length:Int) then ((gI a3 Ac).bind fun Aa=>((gI a7 Ac).bind fun Ab=>(if (!(decide ((Aa.1,Aa.2.1,Aa.2.2.1,Aa.2.2.2.1,Aa.2.2.2.2)=(Ab.1,Ab.2.1,Ab.2.2.1,Ab.2.2.2.1,Ab.2.2.2.2))))=true then (some (Sum.inr<| Sum.inl <| false)) else (some (Sum.inl (w64 (Ac + 1))))))) else (some (Sum.inr<| Sum.inr <| ())))
def ALb (fuel:Nat) (a3 a7:(List AQd)):Option Bool:=
  (if ¬ (a3.length:Int)=(a7.length:Int) then (some false) else ((iter (fun s=>AM7 fuel a3 a7 s) fuel 0).bind (fun ex=>match ex with | Sum.inl Ac=>(some Ac) | Sum.inr (_)=>(some true))))
theorem AQx {fuel:Nat} {h:ABu} {Aj:Value} {a3:(List AQd)} {Am:Value} {a7:(List AQd)} {r:Bool} (H2:SlC AQf h Aj a3) (H6:SlC AQf h Am a7) (hp:ALb fuel a3 a7=some r):ACn Tryz.prog 16 #[Aj,Am] h (fun x h'=>Ext h h'/\x= .bool r):=by
 unfold ALb at hp;refine cwf (l:=[_,_]) Tryz.func16 rfl rfl (ABp (ABv (ABr (ABp (Wo (ADh AVz rfl H2 (Wo (ADh AVz rfl H6 (AEn rfl rfl (ABt ?_))))))))));have K0:=Kst.k0 h;refine ⟨_,rfl,fun Af=>?_,fun Af=>?_⟩
 ·refine ABp (ABv (ABx (AB4 ?_)));obtain rfl:=ABo (AC8 hp Af);exact ⟨_,ABz,K0.x,rfl⟩
 ·refine ABy (q_t (ABr (ABp (Wo (ADh AVz rfl H2 (Wo (ABt (ABw ?_))))))));obtain ⟨Ag,Au,Aq⟩:=ABq (AC9 hp Af);obtain ⟨Av,Aw,Ax⟩:=ACe Au;refine ACq 67100720 (fun x:(Int)=>[(13,(.int .i64 x))]) (fun k x h'=>iter Av k x=some Ag/\Kst h h' (K0.L)) (by kernel_rfl) fuel (0:(Int)) ?_ ⟨rfl,trivial⟩ ?_
  ·exact ⟨Ax,K0⟩
  rintro Bb Ay Bc Be ⟨Az,Aa⟩;obtain ⟨A3,Bf,rfl,Ab,Ac⟩:=AB7 Az;rw [Aw] at Ab;dsimp only at Ab;unfold AM7 at Ab;refine ABp (ACu rfl rfl (ABt (ABr (⟨_,rfl,fun Ah=>?_,fun Ah=>?_⟩))))
  ·refine ABy (q_t (ABr (ABw (ABp (Wo (ABv (ABr (AKm (Wo (Wo ?_))))))))));obtain ⟨Bg,A4,A5⟩:=ABq (AC8 Ab Ah);refine AHe (c:=AQf) AVz rfl H2 rfl A4 fun Bh Bi Bj A6 A7=>?_;obtain rfl:=A6;refine AOl (c:=AQf) Al7 rfl rfl (fun j u hu=>(AB1 (A7 j u hu) Aa.x)) (Wo (Wo ?_));obtain ⟨Bl,A8,Ar⟩:=ABq A5;refine AHe (c:=AQf) AVz rfl H6 rfl A8 fun Bm Bn Bo A9 Ba=>?_;obtain rfl:=A9;refine AOl (c:=AQf) Al7 rfl rfl (fun j u hu=>(AB1 (Ba j u hu) Aa.x)) (Arf (by kernel_rfl) rfl rfl (Aum _ _ _ _ _ _ _ _ _ _) (ABt (⟨_,rfl,fun Ai=>?_,fun Ai=>?_⟩)))
   ·refine ABp (ABv ?_);obtain rfl:=ABo (ifT Ar Ai);change _=Ag at Ac;subst Ac;refine ABx (ADe (AB4 (AB4 (ADe (AB4 ?_)))));obtain rfl:=ABo Aq;exact ⟨_,ABz,Aa.x,rfl⟩
   ·refine ABy (q_b (q_t (AB5 (ACz rfl rfl (Wo (ABt ?_))))));obtain rfl:=ABo (AH8 Ar Ai);exact ⟨A3,((w64 (Ay + 1)):(Int)),Nat.lt_succ_self _,⟨Ac,Aa⟩,rfl,trivial⟩
  ·obtain rfl:=ABo (AC9 Ab Ah);change _=Ag at Ac;subst Ac;refine ACh (ACj (ACj (ADo (q_t (ABp (ABv (ABx ?_)))))));obtain rfl:=ABo Aq;exact ⟨_,ABz,Aa.x,rfl⟩
end Go.Proofs.YtdnbklmefmoofaaGreatDoor
namespace Go.Proofs.YtdnbklmefmoofaaGreatDoor
open Go Go.QF
set_option maxRecDepth 100000
theorem AQo {E:Type} {body:Int->Option (Int ⊕ (E ⊕ Unit))} {fuel n:Nat} (good:Nat->Prop) (bad:E) (hf:n < fuel) (hs:∀ i:Nat,i < n->Ok (body (i:Int)) fun r=>(r= .inl ((i + 1:Nat):Int)/\good i)∨(r= .inr (.inl bad)/\¬ good i)) (he:body (n:Int)=some (.inr (.inr ()))):
    Ok (iter body fuel 0) fun ex=>(ex= .inr ()/\ ∀ i,i < n->good i)∨(ex= .inl bad/\¬ ∀ i,i < n->good i):=by
  refine AC4 (fun i s=>s=(i:Int)/\ ∀ j,j < i->good j) n ⟨rfl,fun j hj=>absurd hj (Nat.not_lt_zero j)⟩ hf fun i s hi hI=>?_;obtain ⟨rfl,hI⟩:=hI
  by_cases h:i < n
  · refine Ap0 (hs i h) fun r hr=>?_
    rcases hr with ⟨rfl,hg⟩ | ⟨rfl,hg⟩
    · exact ⟨h,rfl,fun j hj=>(Nat.lt_succ_iff_lt_or_eq.1 hj).elim (hI j) fun e=>e ▸ hg⟩
    · exact .inr ⟨rfl,fun hall=>hg (hall i h)⟩
  · obtain rfl:i=n:=by omega
    rw [he];exact ABn (.inl ⟨rfl,hI⟩)
theorem Adt {α:Type} {body:List α × Int->Option ((List α × Int) ⊕ List α)} {fuel n:Nat} (f:Nat->α) (hf:n < fuel) (hs:∀ i:Nat,i < n->body (AEj i f,(i:Int))=some (.inl (AEj i f ++ [f i],((i + 1:Nat):Int)))) (he:∀ X,body (X,(n:Int))=some (.inr X)):iter body fuel ([],0)=some (AEj n f):=by
  apply ok_eq;refine AC4 (fun i s=>s=(AEj i f,(i:Int))) n rfl hf fun i s hi hI=>?_;subst hI
  by_cases h:i < n
  · rw [hs i h,AOq];exact ABn ⟨h,rfl⟩
  · obtain rfl:i=n:=by omega
    rw [he];exact ABn rfl
theorem Aoh {body:Int × List Int->Option ((Int × List Int) ⊕ List Int)} {fuel n:Nat} {g0:Nat->Int} (v:Nat->Int) (hf:n < fuel)
    (hs:∀ (j:Nat) (g:Nat->Int),j < n->g j=g0 j->body ((j:Int),AEj n g)=some (.inl (((j + 1:Nat):Int),AEj n fun c=>if c=j then v j else g c)))
    (he:∀ X,body ((n:Int),X)=some (.inr X)):iter body fuel (0,AEj n g0)=some (AEj n v):=by
  apply ok_eq
  refine AC4 (fun j s=>s=((j:Int),AEj n fun c=>if c < j then v c else g0 c)) n ?_ hf fun j s hj hI=>?_
  · exact congrArg (fun z=>((0:Int),AEj n z)) (funext fun c=>(if_neg (by omega)).symm)
  · subst hI
    by_cases h:j < n
    · rw [hs j _ h (if_neg (by omega))];refine ABn ⟨h,?_⟩;refine congrArg (fun z=>(((j + 1:Nat):Int),AEj n z)) (funext fun c=>?_)
      by_cases h1:c=j
      · rw [if_pos h1,if_pos (by omega),h1]
      · rw [if_neg h1]
        by_cases h2:c < j
        · rw [if_pos h2,if_pos (by omega)]
        · rw [if_neg h2,if_neg (by omega)]
    · obtain rfl:j=n:=by omega
      rw [he];exact ABn (ADk fun c hc=>if_pos hc)
def AUf (n:Nat) (q:Int) (A T:Nat->Nat->Int):Nat->Nat->Int:=fun i j=>psum (fun k=>T k i % q * (psum (fun l=>A k l % q * (T l j % q)) n % q)) n % q
theorem ATh (n:Nat) {q:Int} (hq:2<=q) (F:Nat->Nat->Int):Atq n q fun i j=>F i j % q:=fun i j _ _=>⟨Int.emod_nonneg _ (by omega),Int.emod_lt_of_pos _ (by omega)⟩
theorem Aq2 {fuel n:Nat} {A T:Nat->Nat->Int} {q:Int} (Aa:1<=n) (hn:n<=8) (hq:2<=q) (Ab:q<=2147483647) (hf:100 < fuel):AIs fuel (tab n n A) (tab n n T) q=some (tab n n (AUf n q A T),0):=by
 unfold AIs;have h1:AEp fuel q=some 0:=by unfold AEp;rw [if_neg (by omega),if_neg (by omega)]
 rw [Aay Aa hn hf,Aay Aa hn hf];simp only [Option.bind_some];rw [if_neg (by decide),AXn (ACv (by omega)),ACw,ACt,ACt,if_neg (by decide),if_neg (fun h=>h rfl),if_neg (fun h=>h rfl)];simp only [Option.bind_some];rw [h1];simp only [Option.bind_some];rw [if_neg (by decide),Ahb hn hq Ab hf];simp only [Option.bind_some];rw [Aoe Aa hn hf];simp only [Option.bind_some];rw [Ahb hn hq Ab hf];simp only [Option.bind_some];rw [Ai2 Aa hn hq Ab (ATh n hq A) (ATh n hq T) hf];simp only [Option.bind_some];rw [Ai2 Aa hn hq Ab (fun i j hi hj=>ATh n hq T j i hj hi) (ATh n hq _) hf];rfl
theorem Akn {r c:Nat} {F:Nat->Nat->Int} {m:Int}:AP0 (tab r c F) m=tab r c fun i j=>F i j % m:=by
 simp [AP0,tab,Function.comp_def]
theorem Aoi {fuel n:Nat} {F:Nat->Nat->Int} {m:Int} (hn:n<=8) (hm:2<=m) (Ab:m<=2147483647) (hf:100 < fuel):AEo fuel (tab n n F) m=some (tab n n fun i j=>F i j % m):=by
 rw [Ae6 (by omega) Ab (by rw [ACt];omega) (by rw [ACt];omega) (fun z hz=>by
   obtain ⟨i,hi⟩:=List.getElem?_of_mem hz
   have h1:=(List.getElem?_eq_some_iff.1 hi).1
   rw [ACt] at h1
   rw [ACv h1] at hi
   cases hi
   rw [ACw];omega),Akn]
theorem Ai3 {fuel n:Nat} {F G:Nat->Nat->Int} {m:Int} (Ae:1<=n) (hn:n<=8) (hm:2<=m) (Ab:m<=2147483647) (hf:100 < fuel):AFx fuel (tab n n F) (tab n n G) m=some (tab n n fun i j=>psum (fun k=>F i k % m * (G k j % m)) n % m):=by
 unfold AFx;rw [Aoi hn hm Ab hf];simp only [Option.bind_some];rw [Aoi hn hm Ab hf];simp only [Option.bind_some];rw [Adt (n:=n) (fun i=>AEj n fun j=>psum (fun k=>F i k % m * (G k j % m)) n % m) (by omega) (fun i hi=>?_) fun X=>?_]
 ·rfl
 ·unfold AHy;dsimp only;rw [ACt,if_pos (by omega),AXn (ACv (by omega)),ACw,if_pos (by omega),Int.toNat_natCast,AG4 n (0:Int),Aoh (n:=n) (fun j=>psum (fun k=>F i k % m * (G k j % m)) n % m) (by omega) (fun j g hj hg=>?_) fun X=>?_]
  ·simp only [Option.bind_some];rw [ACw,if_pos (by omega),ADy (by omega)]
  ·unfold AHx;dsimp only;rw [ACw,Int.toNat_natCast,List.length_replicate,if_pos (by omega)]
   have key:iter (fun s=>AHw fuel m (tab n n fun i j=>F i j % m) (tab n n fun i j=>G i j % m) i j s.1 s.2) fuel (0,AEj n g)=some (AEj n fun c=>if c=j then psum (fun k=>F i k % m * (G k j % m)) n % m else g c):=by
     apply ok_eq
     refine AC4 (fun k s=>s=((k:Int),AEj n fun c=>if c=j then psum (fun k=>F i k % m * (G k j % m)) k % m else g c)) n ?_ (by omega) fun k s hk hI=>?_
     · refine congrArg (fun z=>((0:Int),AEj n z)) (funext fun c=>?_)
       split
       · next h=>subst h;rw [hg];show 0=0 % m;rw [Int.zero_emod]
       · rfl
     · subst hI
       unfold AHw
       dsimp only
       rw [ACt]
       by_cases h:k < n
       · have b1:=ATh n hm F i k hi h
         have b2:=ATh n hm G k j h hj
         dsimp only at b1 b2
         have b0:=Int.mul_nonneg b1.1 b2.1
         have b3:F i k % m * (G k j % m)<=2147483646 * 2147483646:=Int.mul_le_mul (by omega) (by omega) b2.1 (by omega)
         have b4:=Int.emod_nonneg (F i k % m * (G k j % m)) (show m≠0 by omega)
         have b5:=Int.emod_lt_of_pos (F i k % m * (G k j % m)) (show 0 < m by omega)
         have b6:=Int.emod_nonneg (psum (fun k=>F i k % m * (G k j % m)) k) (show m≠0 by omega)
         have b7:=Int.emod_lt_of_pos (psum (fun k=>F i k % m * (G k j % m)) k) (show 0 < m by omega)
         rw [if_pos (by omega),AGq (ACp hj),AGq (ACv hi),AGq (ACp h),AGq (ACv h),AGq (ACp hj),if_pos (by omega),if_pos (by omega),if_pos rfl,AFr (x:=F i k % m * (G k j % m)) (by omega) (by omega),Int.tmod_eq_emod_of_nonneg b0,AFr (x:=psum (fun k=>F i k % m * (G k j % m)) k % m + F i k % m * (G k j % m) % m) (by omega) (by omega),Int.tmod_eq_emod_of_nonneg (by omega),Af3 (f:=fun k=>F i k % m * (G k j % m)),ADu,AFs,ADy (by omega)]
         refine ABn ⟨h,congrArg (fun z=>(((k + 1:Nat):Int),AEj n z)) (funext fun c=>?_)⟩
         by_cases hc:c=j
         · rw [if_pos hc,if_pos hc]
         · rw [if_neg hc,if_neg hc,if_neg hc]
       · obtain rfl:k=n:=by omega
         rw [if_neg (by omega)];exact ABn rfl
   rw [key];simp only [Option.bind_some];rw [ADy (by omega)]
  ·unfold AHx;dsimp only;rw [ACw,Int.toNat_natCast,List.length_replicate,if_neg (by omega)]
 ·unfold AHy;dsimp only;rw [ACt,if_neg (by omega)]
theorem Aoj {fuel n:Nat} {F:Nat->Nat->Int} (Aa:1<=n) (hn:n<=8) (hf:100 < fuel):AGl fuel (tab n n F)=some (tab n n fun i j=>F j i):=by
 unfold AGl;rw [AXn (ACv (by omega)),Adt (n:=n) (fun i=>AEj n fun j=>F j i) (by omega) (fun i hi=>?_) fun X=>?_]
 ·rfl
 ·unfold AHc;dsimp only;rw [ACw,if_pos (by omega),Adt (n:=n) (fun j=>F j i) (by omega) (fun j hj=>?_) fun X=>?_]
  ·simp only [Option.bind_some];rw [ACw,if_pos (by omega),ADy (by omega)]
  ·unfold AHb;dsimp only;rw [ACt,if_pos (by omega),AGq (ACv hj),AGq (ACp hi),ACw,if_pos (by omega),ADy (by omega)]
  ·unfold AHb;dsimp only;rw [ACt,if_neg (by omega)]
 ·unfold AHc;dsimp only;rw [ACw,if_neg (by omega)]
theorem Aa0 {n:Nat} {F:Nat->Nat->Int} (Ab:1<=n) (hn:n<=8):AZt (tab n n F):=by
 have hc:ANr (tab n n F)=n:=by rw [AQ0 (ACv (show 0 < n by omega)),ACw]
 refine ⟨⟨by rw [ACt];omega,by rw [ACt];omega,by omega,by omega,fun z hz=>?_⟩,by rw [ACt,hc],by rw [ACt];omega⟩;obtain ⟨i,hi⟩:=List.getElem?_of_mem hz;have h1:=(List.getElem?_eq_some_iff.1 hi).1;rw [ACt] at h1;rw [ACv h1] at hi;cases hi;rw [ACw,hc]
theorem Aq3 {fuel n:Nat} {A T:Nat->Nat->Int} {q:Int} (Aa:1<=n) (hn:n<=8) (hq:2<=q) (Ab:q<=2147483647) (hf:100 < fuel):AF4 fuel (tab n n A) (tab n n T) q=some (tab n n (AUf n q A T),0):=by
 unfold AF4
 have hv:∀ F,AEx fuel (tab n n F)=some true:=fun F=>by
   rw [Aii (by omega)]
   exact congrArg some (decide_eq_true (Aa0 Aa hn).1)
 have h1:AYu q=true:=by unfold AYu;rw [decide_eq_true_eq];exact ⟨hq,Ab⟩
 rw [hv,hv];simp only [Option.bind_some];rw [if_neg (by decide),AXn (ACv (by omega)),ACw,ACt,ACt,if_neg (by decide),if_neg (fun h=>h rfl),if_neg (fun h=>h rfl)];simp only [Option.bind_some];rw [Ab8,h1];simp only [Option.bind_some];rw [if_neg (by decide),Aoj Aa hn hf];simp only [Option.bind_some];rw [Ai3 Aa hn hq Ab hf];simp only [Option.bind_some];rw [Ai3 Aa hn hq Ab hf];simp only [Option.bind_some,Int.emod_emod];rfl
theorem Ats {fuel n:Nat} {T:Nat->Nat->Int} {p:Int} (Ab:1<=n) (hn:n<=8) (hp:2<=p) (Ac:p<=2147483647) (hf:100 < fuel):AH5 fuel (tab n n T) p=some (det n T % p,0):=by
 have hs:=Aa0 (F:=T) Ab hn;rw [Ano (by omega) ⟨by rw [ACt];omega,fun z hz=>by have h2:=hs.1.2.2.2.2 z hz;have:=hs.1.2.2.2.1;omega⟩];have h1:AOz (tab n n T)=true:=decide_eq_true hs;have h2:AYu p=true:=by unfold AYu;rw [decide_eq_true_eq];exact ⟨hp,Ac⟩
 unfold As0 As1;rw [h1,h2,ACt];refine congrArg (fun z=>some (z,(0:Int))) ?_;exact AZd fun i j hi hj=>by rw [Ao0 hi hj];rfl
theorem Aq4 {fuel n:Nat} {F G:Nat->Nat->Int} (hn:n<=8) (hf:100 < fuel):Ok (AIr fuel (tab n n F) (tab n n G)) fun b=>b=true↔ ∀ i,i < n-> ∀ j,j < n->F i j=G i j:=by
 unfold AIr;rw [ACt,ACt,if_neg (fun h=>h rfl)];refine ABs (AQo (n:=n) (fun i=> ∀ j,j < n->F i j=G i j) false (by omega) (fun i hi=>?_) ?_) fun ex hex=>?_
 ·unfold AIv;rw [ACt,if_pos (by omega),AGq (ACv hi),AGq (ACv hi),ACw,ACw,if_neg (fun h=>h rfl)];refine ABs (AQo (n:=n) (fun j=>F i j=G i j) false (by omega) (fun j hj=>?_) ?_) fun ex hex=>?_
  ·unfold AIu;rw [ACw,if_pos (by omega),AGq (ACv hi),AGq (ACp hj),AGq (ACv hi),AGq (ACp hj)];exact AB8 (fun h=>ABn (.inr ⟨rfl,h⟩)) fun h=>ABn (.inl ⟨by rw [ADy (by omega)],Decidable.not_not.1 h⟩)
  ·unfold AIu;rw [ACw,if_neg (by omega)]
  ·rcases hex with ⟨rfl,h⟩ | ⟨rfl,h⟩
   ·exact ABn (.inl ⟨by rw [ADy (by omega)],h⟩)
   ·exact ABn (.inr ⟨rfl,h⟩)
 ·unfold AIv;rw [ACt,if_neg (by omega)]
 ·rcases hex with ⟨rfl,h⟩ | ⟨rfl,h⟩
  ·exact ABn ⟨fun _=>h,fun _=>rfl⟩
  ·exact ABn ⟨fun e=>(nomatch e),fun e=>absurd e h⟩
def Rng (n:Nat) (q:Int) (T:Nat->Nat->Int):Prop:= ∀ i,i < n-> ∀ j,j < n->0<=T i j/\T i j < q
theorem Att {fuel n:Nat} {T:Nat->Nat->Int} {q:Int} (hn:n<=8) (hf:100 < fuel):Ok (iter (fun s=>AJz fuel (tab n n T) q s) fuel 0) fun ex=>(ex= .inr ()/\Rng n q T)∨(ex= .inl false/\¬ Rng n q T):=by
 refine AQo (n:=n) (fun i=> ∀ j,j < n->0<=T i j/\T i j < q) false (by omega) (fun i hi=>?_) ?_
 ·unfold AJz;rw [ACt,if_pos (by omega),AGq (ACv hi)];refine ABs (AQo (n:=n) (fun j=>0<=T i j/\T i j < q) false (by omega) (fun j hj=>?_) ?_) fun ex hex=>?_
  ·unfold AMi;rw [ACw,if_pos (by omega),AGq (ACp hj)];exact AB8 (fun h=>ABn (.inr ⟨rfl,by omega⟩)) fun h=>AB8 (fun h2=>ABn (.inr ⟨rfl,by omega⟩)) fun h2=>ABn (.inl ⟨by rw [ADy (by omega)],by omega⟩)
  ·unfold AMi;rw [ACw,if_neg (by omega)]
  ·rcases hex with ⟨rfl,h⟩ | ⟨rfl,h⟩
   ·exact ABn (.inl ⟨by rw [ADy (by omega)],h⟩)
   ·exact ABn (.inr ⟨rfl,h⟩)
 ·unfold AJz;rw [ACt,if_neg (by omega)]
theorem Atu {fuel n:Nat} {T:Nat->Nat->Int} {q:Int} (hn:n<=8) (hf:100 < fuel):Ok (iter (fun s=>AGm fuel (tab n n T) q s) fuel 0) fun ex=>(ex= .inr ()/\Rng n q T)∨(ex= .inl false/\¬ Rng n q T):=by
 refine AQo (n:=n) (fun i=> ∀ j,j < n->0<=T i j/\T i j < q) false (by omega) (fun i hi=>?_) ?_
 ·unfold AGm;rw [ACt,if_pos (by omega),AGq (ACv hi)];refine ABs (AQo (n:=n) (fun j=>0<=T i j/\T i j < q) false (by omega) (fun j hj=>?_) ?_) fun ex hex=>?_
  ·unfold AIc;rw [ACw,if_pos (by omega),AGq (ACp hj)];exact AB8 (fun h=>ABn (.inr ⟨rfl,by omega⟩)) fun h=>AB8 (fun h2=>ABn (.inr ⟨rfl,by omega⟩)) fun h2=>ABn (.inl ⟨by rw [ADy (by omega)],by omega⟩)
  ·unfold AIc;rw [ACw,if_neg (by omega)]
  ·rcases hex with ⟨rfl,h⟩ | ⟨rfl,h⟩
   ·exact ABn (.inl ⟨by rw [ADy (by omega)],h⟩)
   ·exact ABn (.inr ⟨rfl,h⟩)
 ·unfold AGm;rw [ACt,if_neg (by omega)]
theorem AJo {p:Int} (hp:1<=p) {a b:Nat} (h:a<=b):p ^ a<=p ^ b:=by
 obtain ⟨c,rfl⟩:∃ c,b=a + c:=⟨b - a,by omega⟩;rw [Int.pow_add];have h1:0 < p ^ a:=Int.pow_pos (by omega);have h2:0 < p ^ c:=Int.pow_pos (by omega);have:=Int.mul_le_mul_of_nonneg_left (show 1<=p ^ c by omega) (Int.le_of_lt h1);omega
theorem Ahe {p:Int} (hp:2<=p) {a b:Nat} (h:p ^ a < p ^ b):a < b:=by
 rcases Nat.lt_or_ge a b with h1 | h1
 ·exact h1
 ·have:=AJo (p:=p) (by omega) h1;omega
theorem AXr {p:Int} {k:Nat} (hp:2<=p) (h:p ^ k<=2147483647):k<=30:=by
 rcases Nat.lt_or_ge 30 k with h1 | h1
 ·exfalso;have h2:=AJo (p:=p) (by omega) (show 31<=k by omega);have h3:(2:Int) ^ 31<=p ^ 31:=AMg (by omega) hp 31;have h5:(2:Int) ^ 31=2147483648:=by decide
  omega
 ·exact h1
theorem Aok {fuel:Nat} {p:Int} {k:Nat} (hp:2<=p) (h:p ^ k<=2147483647) (hf:100 < fuel):ANj fuel p k=some (p ^ k):=by
 have hk:=AXr hp h;apply ok_eq;unfold ANj;refine ABs (AC4 (fun i s=>s=(p ^ i,(i:Int))/\i<=k) k (Q:=(· =p ^ k)) ⟨by simp,by omega⟩ (by omega) fun i s hi hI=>?_) fun e he=>ABn he;obtain ⟨rfl,hik⟩:=hI;unfold APc;dsimp only;refine AB8 (fun h2=>ABn ⟨by omega,?_,by omega⟩) fun h2=>ABn ?_
 ·have h3:=AJo (p:=p) (by omega) (show i + 1<=k by omega);have h4:0 < p ^ (i + 1):=Int.pow_pos (by omega);rw [show p ^ i * p=p ^ (i + 1) from (Int.pow_succ p i).symm,wk (by omega),ADy (by omega)]
 ·obtain rfl:i=k:=by omega
  rfl
theorem Ahf {fuel:Nat} {p:Int} {k:Nat} (hp:2<=p) (h:p ^ k<=2147483647) (hf:100 < fuel):AFo fuel p k=some (p ^ k):=by
 have hk:=AXr hp h;apply ok_eq;unfold AFo;refine ABs (AC4 (fun i s=>s=(p ^ i,(i:Int))/\i<=k) k (Q:=(· =p ^ k)) ⟨by simp,by omega⟩ (by omega) fun i s hi hI=>?_) fun e he=>ABn he;obtain ⟨rfl,hik⟩:=hI;unfold AK6;dsimp only;refine AB8 (fun h2=>ABn ⟨by omega,?_,by omega⟩) fun h2=>ABn ?_
 ·have h3:=AJo (p:=p) (by omega) (show i + 1<=k by omega);have h4:0 < p ^ (i + 1):=Int.pow_pos (by omega);rw [show p ^ i * p=p ^ (i + 1) from (Int.pow_succ p i).symm,wk (by omega),ADy (by omega)]
 ·obtain rfl:i=k:=by omega
  rfl
def IsB (p x:Int) (b:AJr):Prop:= ∃ (e:Nat) (u:Int),b=((e:Int),1,u,0,0)/\x=u * p ^ e/\¬ p ∣ u
theorem Atv {p x:Int} {b c:AJr} (hp:2<=p) (hb:IsB p x b) (hc:IsB p x c):b=c:=by
 obtain ⟨e,u,rfl,h1,h2⟩:=hb;obtain ⟨f,v,rfl,h3,h4⟩:=hc;have he:=Adr hp ⟨e,u,rfl,h1,h2⟩ ⟨f,v,rfl,h3,h4⟩;obtain rfl:e=f:=by omega
 have:u=v:=Int.eq_of_mul_eq_mul_right (Int.pow_ne_zero (show p≠0 by omega)) (h1.symm.trans h3);rw [this]
theorem Aol {fuel:Nat} {x p:Int} (hp:2<=p) (Ad:p<=9973) (hx:0 < x) (Ae:x<=2147483647) (hf:100 < fuel):Ok (ANn fuel x p) (IsB p x):=by
 unfold ANn;refine ABs (AC4 (fun i s=> ∃ r:Int,s=((i:Int),r)/\0 < r/\x=r * p ^ i) 31 (Q:=fun e=> ∃ (k:Nat) (u:Int),e=((k:Int),u)/\x=u * p ^ k/\¬ p ∣ u) ⟨x,rfl,by omega,by simp⟩ (by omega) fun i s hi hI=>?_) fun e he=>?_
 ·obtain ⟨r,rfl,hr,hdr⟩:=hI;have hpi:0 < p ^ i:=Int.pow_pos (by omega);have hpx:1 * p ^ i<=r * p ^ i:=Int.mul_le_mul_of_nonneg_right (by omega) (by omega);have Af:=AXr (k:=i) hp (by omega);have hrd:r * 1<=r * p ^ i:=Int.mul_le_mul_of_nonneg_left (by omega) (by omega);unfold APf;dsimp only;refine AEa (by omega) (AB8 (fun h=>AEa (by omega) ?_) fun h=>ABn ⟨i,r,rfl,hdr,fun h3=>h (Int.tmod_eq_zero_of_dvd h3)⟩);obtain ⟨q,rfl⟩:p ∣ r:=Int.dvd_of_tmod_eq_zero h;have hq:0 < q:=Int.pos_of_mul_pos_right hr (by omega);have hqr:1 * q<=p * q:=Int.mul_le_mul_of_nonneg_right (by omega) (by omega);refine ABn ⟨by omega,q,?_,hq,by rw [hdr,Int.pow_succ];grind⟩;rw [Int.mul_tdiv_cancel_left _ (by omega),AFr (x:=q) (by omega) (by omega),ADy (by omega)]
 ·obtain ⟨k,u,rfl,h1,h2⟩:=he;exact ABn ⟨k,u,rfl,h1,h2⟩
def Afu (F:Nat->Nat->Int) (r c:Nat) (x:Int):Nat->Nat->Int:=ADz F r fun q=>if q=c then x else F r q
theorem Aom (F:Nat->Nat->Int) (r c:Nat) (x:Int) (i j:Nat):Afu F r c x i j=if i=r/\j=c then x else F i j:=by
 unfold Afu;rw [ADf];by_cases h:i=r
 ·rw [if_pos h];by_cases h2:j=c
  ·rw [if_pos h2,if_pos ⟨h,h2⟩]
  ·rw [if_neg h2,if_neg (fun e=>h2 e.2),h]
 ·rw [if_neg h,if_neg (fun e=>h e.1)]
theorem AZg {n r c:Nat} {F:Nat->Nat->Int} {x:Int}:sI (tab n n F) (r:Int) (sI (AEj n (F r)) (c:Int) x)=tab n n (Afu F r c x):=AWf
def Avc (F:Nat->Nat->Int) (r:Nat) (a b c:Int):Nat->Nat->Int:=Afu (Afu (Afu (Afu F r r a) r (r + 1) b) (r + 1) r b) (r + 1) (r + 1) c
def Aa1 (p:Int):List AJr->Nat->(Nat->Nat->Int)->(Nat->Nat->Int)
  | [],_,F=>F
  | b :: l,r,F=>if b.2.1=2 then Aa1 p l (r + 2) (Avc F r (p ^ b.1.toNat * b.2.2.1) (p ^ b.1.toNat * b.2.2.2.1) (p ^ b.1.toNat * b.2.2.2.2)) else Aa1 p l (r + 1) (Afu F r r (p ^ b.1.toNat * b.2.2.1))
def Ahg:List AJr->Nat
  | []=>0
  | b :: l=>b.2.1.toNat + Ahg l
def BOk (p:Int) (k:Nat) (b:AJr):Prop:= ∃ e:Nat,b.1=e/\e<=k/\(0<=b.2.2.1/\b.2.2.1 < p ^ (k - e))/\(b.2.1=1∨b.2.1=2/\(0<=b.2.2.2.1/\b.2.2.2.1 < p ^ (k - e))/\0<=b.2.2.2.2/\b.2.2.2.2 < p ^ (k - e))
theorem Adu {p a:Int} {e k:Nat} (hp:2<=p) (hek:e<=k) (hq:p ^ k<=2147483647) (h:0<=a/\a < p ^ (k - e)):Int.tmod (w64 (p ^ e * a)) (p ^ k)=p ^ e * a/\0<=p ^ e * a/\p ^ e * a < p ^ k:=by
 have h1:0 < p ^ e:=Int.pow_pos (by omega);have h2:p ^ e * a < p ^ e * p ^ (k - e):=Int.mul_lt_mul_of_pos_left h.2 h1;rw [<- Int.pow_add,show e + (k - e)=k by omega] at h2;have h3:=Int.mul_nonneg (Int.le_of_lt h1) h.1;rw [wk (by omega),Int.tmod_eq_emod_of_nonneg h3,Int.emod_eq_of_lt h3 h2];exact ⟨rfl,h3,h2⟩
theorem Atw {fuel n k:Nat} {p:Int} {L:List AJr} (hn:n<=8) (hp:2<=p) (hq:p ^ k<=2147483647) (hL:∀ b∈L,BOk p k b) (hs:Ahg L=n) (hll:L.length<=n) (hf:100 < fuel):AH1 fuel L n p (p ^ k)=some (tab n n (Aa1 p L 0 fun _ _=>0)):=by
 have Af:0 < p ^ k:=Int.pow_pos (by omega);unfold AH1;rw [if_pos (by omega),Int.toNat_natCast,AXp (n:=n) (fun _ _=>0) (by omega) (fun i hi=>?_) fun X=>?_]
 ·simp only [Option.bind_some];apply ok_eq;refine ABs (AC4 (fun i s=> ∃ (r:Nat) (F:Nat->Nat->Int),s=((r:Int),(i:Int),tab n n F)/\r + Ahg (L.drop i)=n/\Aa1 p (L.drop i) r F=Aa1 p L 0 fun _ _=>0) L.length (Q:=(· =tab n n (Aa1 p L 0 fun _ _=>0))) ⟨0,fun _ _=>0,rfl,by simpa using hs,rfl⟩ (by omega) fun i s hi hI=>?_) fun e he=>ABn he;obtain ⟨r,F,rfl,hr,hb⟩:=hI;unfold AKk;dsimp only;by_cases h:i < L.length
  ·obtain ⟨b,hbi⟩:∃ b,L[i]? =some b:=⟨L[i],List.getElem?_eq_getElem h⟩
   have hdr:L.drop i=b :: L.drop (i + 1):=by
     rw [List.drop_eq_getElem_cons h]
     congr 1
     rw [List.getElem?_eq_getElem h] at hbi
     exact Option.some.inj hbi
   rw [hdr] at hr hb;obtain ⟨e,he,hek,hA,hsz⟩:=hL b (List.mem_of_getElem? hbi);have hpe:p ^ e<=2147483647:=Int.le_trans (AJo (by omega) hek) hq;have heN:b.1.toNat=e:=by omega
   have e1:=Adu hp hek hq hA;unfold Ahg at hr;rw [Aa1] at hb;rw [heN] at hb;rw [if_pos (by omega),AGq hbi,he,Ahf hp hpe hf];simp only [Option.bind_some];have Aa:r < n:=by omega
   rw [AGq (ACv Aa),if_pos (by omega),AGq (ACp Aa),e1.1,AZg];rcases hsz with hz | ⟨hz,hB,hC⟩
   ·rw [if_neg (by omega)];simp only [Option.bind_some];rw [if_neg (by omega)] at hb;refine ABn ⟨h,r + 1,_,?_,by omega,hb⟩;rw [hz,ADy (by omega),ADy (by omega)]
   ·have Ab:r + 1 < n:=by omega
    have e2:=Adu hp hek hq hB;have e3:=Adu hp hek hq hC;rw [if_pos hz,AGq (ACv Aa),if_pos (by omega),ADy (by omega),AGq (ACp Ab),e2.1,AZg,AGq (ACv Ab),if_pos (by omega),AGq (ACp Aa),AZg,AGq (ACv Ab),if_pos (by omega),AGq (ACp Ab),e3.1,AZg];simp only [Option.bind_some];rw [if_pos hz] at hb;refine ABn ⟨h,r + 2,_,?_,by omega,hb⟩;rw [hz,AFr (x:=(r:Int) + 2) (by omega) (by omega),ADy (by omega)];rfl
  ·obtain rfl:i=L.length:=by omega
   rw [if_neg (by omega)];rw [List.drop_length] at hb;exact ABn (by rw [<- hb];rfl)
 ·unfold AIb;dsimp only;rw [Int.toNat_natCast,List.length_replicate,if_pos (by omega),if_pos (by omega),AGq (APe hi),ADu,AG4 n (0:Int),ANm,AXo fun c _=>rfl,ADy (by omega)]
 ·unfold AIb;dsimp only;rw [Int.toNat_natCast,List.length_replicate,if_neg (by omega)]
theorem Aru {p:Int}:∀ {L:List AJr} {r:Nat} {F:Nat->Nat->Int},(∀ b∈L,b.2.1=1)-> ∀ i j,Aa1 p L r F i j=if i=j/\r<=i then (match L[i - r]? with | some b=>p ^ b.1.toNat * b.2.2.1 | none=>F i j) else F i j
  | [],r,F,h,i,j=>by simp [Aa1]
  | b :: l,r,F,h,i,j=>by
    have hb:=h b (by simp);unfold Aa1;rw [if_neg (by omega),Aru (fun c hc=>h c (by simp [hc]))];rw [Aom]
    by_cases hij:i=j/\r<=i
    · rw [if_pos hij]
      by_cases h2:r + 1<=i
      · rw [if_pos ⟨hij.1,h2⟩,show i - r=(i - (r + 1)) + 1 by omega,List.getElem?_cons_succ,if_neg (by omega)]
      · obtain rfl:i=r:=by omega
        rw [if_neg (by omega),if_pos ⟨rfl,hij.1.symm⟩,Nat.sub_self];rfl
    · rw [if_neg hij,if_neg (by omega),if_neg (by omega)]
def AYi (p:Int) (k:Nat) (b:AJr):Prop:=(0<=b.1/\b.1<=if p=2 then (k:Int) - 3 else (k:Int) - 1)/\
  if b.2.1=1 then (0 < b.2.2.1/\b.2.2.1 < p ^ (k - b.1.toNat))/\¬ p ∣ b.2.2.1/\b.2.2.2.1=0/\b.2.2.2.2=0
  else ((0<=b.2.2.1/\b.2.2.1 < p ^ (k - b.1.toNat))/\(0<=b.2.2.2.1/\b.2.2.2.1 < p ^ (k - b.1.toNat))/\0<=b.2.2.2.2/\b.2.2.2.2 < p ^ (k - b.1.toNat))/\b.2.2.1 % 2=0/\b.2.2.2.1 % 2=1/\b.2.2.2.2 % 2=0
theorem tm2 {x:Int} (h:0<=x):Int.tmod x 2=x % 2:=Int.tmod_eq_emod_of_nonneg h
theorem Aon {fuel k:Nat} {p:Int} {b:AJr} (hp:2<=p) (hq:p ^ k<=2147483647) (hk:1<=k) (Aj:p=2->3<=k) (hf:100 < fuel):Ok (AH0 fuel b.1 b.2.1 b.2.2.1 b.2.2.2.1 b.2.2.2.2 p k) fun r=>r=true↔AYi p k b:=by
 have Ak:=AXr hp hq;obtain ⟨e,s,x,y,z⟩:=b;unfold AH0 AYi;dsimp only;refine ABs (Q:=(· =if p=2 then (k:Int) - 3 else (k:Int) - 1)) (AB8 (fun h=>ABn ?_) fun h=>ABn ?_) fun top ht=>?_
 ·rw [if_pos h,wk (by omega)]
 ·rw [if_neg h,wk (by omega)]
 subst ht;have htop:(if p=2 then (k:Int) - 3 else (k:Int) - 1)<=k - 1:=by split <;> omega
 refine ABs (Q:=fun ex=>(ex= .inr ()/\0<=e/\e<=if p=2 then (k:Int) - 3 else (k:Int) - 1)∨(ex= .inl false/\¬ (0<=e/\e<=if p=2 then (k:Int) - 3 else (k:Int) - 1))) (AB8 (fun h=>ABn (.inr ⟨rfl,by omega⟩)) fun h=>AB8 (fun h2=>ABn (.inr ⟨rfl,by omega⟩)) fun h2=>ABn (.inl ⟨rfl,by omega,by omega⟩)) fun ex hex=>?_;rcases hex with ⟨rfl,h1,h2⟩ | ⟨rfl,h⟩
 ·obtain ⟨e,rfl⟩:∃ e':Nat,e=e':=⟨e.toNat,by omega⟩;have hek:e<=k:=by omega
  have hpk:p ^ (k - e)<=2147483647:=Int.le_trans (AJo (by omega) (by omega)) hq;dsimp only;rw [wk (by omega),show (k:Int) - (e:Int)=((k - e:Nat):Int) by omega,Int.toNat_natCast];refine ABs (AC2 (Ahf hp hpk hf)) fun m hm=>?_;subst hm;refine AB8 (fun h3=>?_) fun h3=>?_
  ·rw [if_pos h3];refine AB8 (fun h4=>AB8 (fun h5=>AEa (by omega) (AB8 (fun h6=>AB8 (fun h7=>ABn ?_) fun h7=>ABn ?_) fun h6=>ABn ?_)) fun h5=>ABn ?_) fun h4=>ABn ?_
   ·rw [decide_eq_true_eq];exact ⟨fun h8=>⟨⟨h1,h2⟩,⟨h4,h5⟩,fun h9=>h6 (Int.tmod_eq_zero_of_dvd h9),h7,h8⟩,fun h8=>h8.2.2.2.2⟩
   ·exact ⟨fun h=>(nomatch h),fun h=>absurd h.2.2.2.1 h7⟩
   ·exact ⟨fun h=>(nomatch h),fun h=>absurd (Int.dvd_of_tmod_eq_zero (Decidable.not_not.1 h6)) h.2.2.1⟩
   ·exact ⟨fun h=>(nomatch h),fun h=>absurd h.2.1.2 h5⟩
   ·exact ⟨fun h=>(nomatch h),fun h=>absurd h.2.1.1 h4⟩
  ·rw [if_neg h3];refine AB8 (fun h4=>AB8 (fun h5=>AB8 (fun h6=>AB8 (fun h7=>AB8 (fun h8=>AB8 (fun h9=>?_) fun h9=>ABn ?_) fun h8=>ABn ?_) fun h7=>ABn ?_) fun h6=>ABn ?_) fun h5=>ABn ?_) fun h4=>ABn ?_
   ·rw [tm2 h4,tm2 h6,tm2 h8];refine AB8 (fun ha=>AB8 (fun hb=>ABn ?_) fun hb=>ABn ?_) fun ha=>ABn ?_
    ·rw [decide_eq_true_eq];exact ⟨fun hc=>⟨⟨h1,h2⟩,⟨⟨h4,h5⟩,⟨h6,h7⟩,h8,h9⟩,ha,hb,hc⟩,fun h=>h.2.2.2.2⟩
    ·exact ⟨fun h=>(nomatch h),fun h=>absurd h.2.2.2.1 hb⟩
    ·exact ⟨fun h=>(nomatch h),fun h=>absurd h.2.2.1 ha⟩
   ·exact ⟨fun h=>(nomatch h),fun h=>absurd h.2.1.2.2.2 h9⟩
   ·exact ⟨fun h=>(nomatch h),fun h=>absurd h.2.1.2.2.1 h8⟩
   ·exact ⟨fun h=>(nomatch h),fun h=>absurd h.2.1.2.1.2 h7⟩
   ·exact ⟨fun h=>(nomatch h),fun h=>absurd h.2.1.2.1.1 h6⟩
   ·exact ⟨fun h=>(nomatch h),fun h=>absurd h.2.1.1.2 h5⟩
   ·exact ⟨fun h=>(nomatch h),fun h=>absurd h.2.1.1.1 h4⟩
 ·exact ABn ⟨fun h=>(nomatch h),fun h2=>absurd h2.1 h⟩
theorem Ako {p:Int} {k:Nat} {b:AJr} (hk:1<=k) (hs:b.2.1=1∨b.2.1=2) (h:AYi p k b):BOk p k b:=by
 obtain ⟨e,s,x,y,z⟩:=b;obtain ⟨⟨h1,h2⟩,h3⟩:=h;dsimp only at h1 h2 h3 hs;obtain ⟨e,rfl⟩:∃ e':Nat,e=e':=⟨e.toNat,by omega⟩;rw [Int.toNat_natCast] at h3;refine ⟨e,rfl,?_,?_⟩
 ·split at h2 <;> omega
 ·by_cases Ab:s=1
  ·rw [if_pos Ab] at h3;exact ⟨⟨Int.le_of_lt h3.1.1,h3.1.2⟩,.inl Ab⟩
  ·rw [if_neg Ab] at h3;exact ⟨h3.1.1,.inr ⟨hs.resolve_left Ab,h3.1.2.1,h3.1.2.2⟩⟩
def Asc (L:List AJr) (i:Nat):Prop:=0 < i-> ∀ b c,L[i]? =some b->L[i - 1]? =some c->c.1<=b.1
def RG (p:Int) (k:Nat) (L:List AJr) (i:Nat):Prop:=(∀ b,L[i]? =some b->AYi p k b)/\Asc L i
def RC (n k:Nat) (p:Int) (A T:Nat->Nat->Int) (L:List AJr):Prop:=(∀ i,i < L.length->RG p k L i)/\Rng n (p ^ k) T/\det n T % p≠0/\ ∀ i,i < n-> ∀ j,j < n->AUf n (p ^ k) A T i j=Aa1 p L 0 (fun _ _=>0) i j
theorem Akp {fuel n k:Nat} {p:Int} {A T:Nat->Nat->Int} {L:List AJr} (Ab:1<=n) (hn:n<=8) (hdig:AGg fuel (tab n n A) p=some (k:Int)) (hp:2<=p) (hq:p ^ k<=2147483647) (hk:1<=k) (Ac:p=2->3<=k) (hsz:∀ b∈L,b.2.1=1∨b.2.1=2) (hs:Ahg L=n) (hl:L.length<=n) (Ad:p<=2147483647) (hf:100 < fuel):
    Ok (AH3 fuel (tab n n A) p (tab n n T) L) fun b=>b=true↔RC n k p A T L:=by
 have Ae:2<=p ^ k:=by
   have:=AJo (p:=p) (by omega) hk
   rw [Int.pow_one] at this;omega
 unfold AH3 RC;refine ABs (AC2 hdig) fun x hx=>?_;subst hx;refine ABs (AC2 (Ahf hp hq hf)) fun q hqq=>?_;subst hqq;refine ABs (AQo (n:=L.length) (RG p k L) false (by omega) (fun i hi=>?_) ?_) fun ex hex=>?_
 ·obtain ⟨b,hb⟩:∃ b,L[i]? =some b:=⟨L[i],List.getElem?_eq_getElem hi⟩;unfold AId;rw [if_pos (by omega),AGq hb];refine ABs (Aon (b:=b) hp hq hk Ac hf) fun r hr=>AB8 (fun h=>ABn (.inr ⟨rfl,fun hg=>?_⟩)) fun h=>?_
  ·have:=hr.2 (hg.1 b hb);rw [this] at h;cases h
  ·have hpb:AYi p k b:=hr.1 (by cases r with | true=>rfl | false=>exact absurd rfl h);have hP:∀ c,L[i]? =some c->AYi p k c:=fun c hc=>by rw [hb] at hc;cases hc;exact hpb
   refine AB8 (fun h0=>?_) fun h0=>ABn (.inl ⟨by rw [ADy (by omega)],hP,fun h1=>by omega⟩);have Ag:i - 1 < L.length:=by omega
   obtain ⟨c,hc⟩:∃ c,L[i - 1]? =some c:=⟨L[i - 1],List.getElem?_eq_getElem Ag⟩;refine ACg hc (by rw [wk (by omega)];omega) (AB8 (fun h2=>ABn (.inr ⟨rfl,fun hg=>?_⟩)) fun h2=>ABn (.inl ⟨by rw [ADy (by omega)],hP,fun h3 b' c' hb' hc'=>?_⟩))
   ·have:=hg.2 (by omega) b c hb hc;omega
   ·rw [hb] at hb';rw [hc] at hc';cases hb';cases hc';omega
 ·unfold AId;rw [if_neg (by omega)]
 rcases hex with ⟨rfl,hG⟩ | ⟨rfl,hG⟩
 ·refine ABs (Atu hn hf) fun ex hex=>?_;rcases hex with ⟨rfl,hR⟩ | ⟨rfl,hR⟩
  ·refine ABs (AC2 (Ats Ab hn hp Ad hf)) fun d hd=>?_;subst hd;refine ABs (AC2 (Aq3 Ab hn Ae hq hf)) fun g hg=>?_;subst hg;dsimp only;refine AB8 (fun h=>?_) fun h=>ABn ⟨fun h2=>(nomatch h2),fun h2=>absurd h2.2.2.1 h⟩;rw [ACt];refine ABs (AC2 (Atw hn hp hq (fun b hb=>?_) hs hl hf)) fun g hg=>?_
   ·obtain ⟨i,hi⟩:=List.getElem?_of_mem hb;exact Ako hk (hsz b hb) ((hG i (List.getElem?_eq_some_iff.1 hi).1).1 b hi)
   ·subst hg;exact ABs (Aq4 hn hf) fun r hr=>ABn ⟨fun h2=>⟨hG,hR,h,hr.1 h2⟩,fun h2=>hr.2 h2.2.2.2⟩
  ·exact ABn ⟨fun h=>(nomatch h),fun h=>absurd h.2.1 hR⟩
 ·exact ABn ⟨fun h=>(nomatch h),fun h=>absurd h.1 hG⟩
def JG (p:Int) (n:Nat) (G:Nat->Nat->Int) (L:List AJr) (i:Nat):Prop:=(G i i≠0/\ ∀ b,L[i]? =some b->IsB p (G i i) b)/\Asc L i/\ ∀ j,j < n->(j≠i->G i j=0)
def JC (n k:Nat) (p:Int) (A T:Nat->Nat->Int) (L:List AJr):Prop:=Rng n (p ^ k) T/\det n T % p≠0/\ ∀ i,i < n->JG p n (AUf n (p ^ k) A T) L i
theorem Aci {n:Nat} {q:Int} {A T:Nat->Nat->Int} (hq:2<=q) (i j:Nat):0<=AUf n q A T i j/\AUf n q A T i j < q:=⟨Int.emod_nonneg _ (by omega),Int.emod_lt_of_pos _ (by omega)⟩
theorem Akq {fuel n k:Nat} {p:Int} {A T:Nat->Nat->Int} {L:List AJr} (Ah:1<=n) (hn:n<=8) (hp:2<=p) (Ak:p<=9973) (hq:p ^ k<=2147483647) (hk:1<=k) (hl:L.length=n) (hf:2147483648 < fuel):Ok (AMs fuel (tab n n A) p (tab n n T) L (p ^ k)) fun b=>b=true↔JC n k p A T L:=by
 have Ai:2<=p ^ k:=by
   have:=AJo (p:=p) (by omega) hk
   rw [Int.pow_one] at this;omega
 have Af:100 < fuel:=by omega
 unfold AMs JC;refine ABs (Att hn Af) fun ex hex=>?_;rcases hex with ⟨rfl,hR⟩ | ⟨rfl,hR⟩
 ·refine ABs (AC2 (Atr Ah hn hp (by omega) hf)) fun d hd=>?_;subst hd;dsimp only;refine AB8 (fun h=>ABn ⟨fun h2=>(nomatch h2),fun h2=>absurd h h2.2.1⟩) fun h=>ABs (AC2 (Aq2 Ah hn Ai hq Af)) fun g hg=>?_;subst hg;dsimp only;have hb:∀ i j,0<=AUf n (p ^ k) A T i j/\AUf n (p ^ k) A T i j < p ^ k:=Aci Ai;generalize AUf n (p ^ k) A T=G at *;refine ABs (AQo (n:=n) (JG p n G L) false (by omega) (fun i hi=>?_) ?_) fun ex hex=>?_
  ·obtain ⟨b,hbi⟩:∃ b,L[i]? =some b:=⟨L[i]'(by omega),List.getElem?_eq_getElem _⟩;unfold AMk;rw [ACt,if_pos (by omega),AGq (ACv hi),AGq (ACv hi),AGq (ACp hi)];refine ABs (Q:=fun ex=>(ex= .inr ()/\G i i≠0/\ ∀ b,L[i]? =some b->IsB p (G i i) b)∨(ex= .inl false/\¬ (G i i≠0/\ ∀ b,L[i]? =some b->IsB p (G i i) b))) (AB8 (fun h1=>ABn (.inr ⟨rfl,fun h2=>h2.1 h1⟩)) fun h1=>ACg hbi rfl ?_) fun ex hex=>?_
   ·have:=hb i i;refine ABs (Aol hp Ak (by omega) (by omega) Af) fun b0 Aj=>AB8 (fun h2=>ABn (.inr ⟨rfl,fun h3=>?_⟩)) fun h2=>ABn (.inl ⟨rfl,h1,fun c hc=>?_⟩)
    ·have h4:(!decide (b=b0))=true:=h2;rw [Atv hp (h3.2 b hbi) Aj] at h4;simp at h4
    ·have h4: ¬ (!decide (b=b0))=true:=h2;rw [hbi] at hc;cases hc;have:b=b0:=by simpa using h4
     rw [this];exact Aj
   ·rcases hex with ⟨rfl,h1,h2⟩ | ⟨rfl,h1⟩
    ·refine ABs (Q:=fun ex=>(ex= .inr ()/\Asc L i)∨(ex= .inl false/\¬ Asc L i)) (AB8 (fun h0=>ACg hbi rfl ?_) fun h0=>ABn (.inl ⟨rfl,fun h3=>by omega⟩)) fun ex hex=>?_
     ·obtain ⟨c,hc⟩:∃ c,L[i - 1]? =some c:=⟨L[i - 1]'(by omega),List.getElem?_eq_getElem _⟩;refine ACg hc (by rw [wk (by omega)];omega) (AB8 (fun h2=>ABn (.inr ⟨rfl,fun hg=>?_⟩)) fun h2=>ABn (.inl ⟨rfl,fun h3 b' c' hb' hc'=>?_⟩))
      ·have:=hg (by omega) b c hbi hc;omega
      ·rw [hbi] at hb';rw [hc] at hc';cases hb';cases hc';omega
     ·rcases hex with ⟨rfl,h3⟩ | ⟨rfl,h3⟩
      ·refine ABs (AQo (n:=n) (fun j=>j≠i->G i j=0) false (by omega) (fun j hj=>?_) ?_) fun ex hex=>?_
       ·unfold AMj;rw [ACw,if_pos (by omega),AGq (ACv hi),AGq (ACp hj)];refine AB8 (fun h4=>AB8 (fun h5=>ABn (.inr ⟨rfl,fun h6=>h5 (h6 (by omega))⟩)) fun h5=>ABn (.inl ⟨by rw [ADy (by omega)],fun _=>Decidable.not_not.1 h5⟩)) fun h4=>ABn (.inl ⟨by rw [ADy (by omega)],fun h5=>by omega⟩)
       ·unfold AMj;rw [ACw,if_neg (by omega)]
       ·rcases hex with ⟨rfl,h4⟩ | ⟨rfl,h4⟩
        ·exact ABn (.inl ⟨by rw [ADy (by omega)],⟨h1,h2⟩,h3,h4⟩)
        ·exact ABn (.inr ⟨rfl,fun hg=>h4 hg.2.2⟩)
      ·exact ABn (.inr ⟨rfl,fun hg=>h3 hg.2.1⟩)
    ·exact ABn (.inr ⟨rfl,fun hg=>h1 hg.1⟩)
  ·unfold AMk;rw [ACt,if_neg (by omega)]
  ·rcases hex with ⟨rfl,h1⟩ | ⟨rfl,h1⟩
   ·exact ABn ⟨fun _=>⟨hR,h,h1⟩,fun _=>rfl⟩
   ·exact ABn ⟨fun h=>(nomatch h),fun h=>absurd h.2.2 h1⟩
 ·exact ABn ⟨fun h=>(nomatch h),fun h=>absurd h.1 hR⟩
theorem Akr {n k:Nat} {p:Int} {A T:Nat->Nat->Int} {L:List AJr} (hp:3<=p) (hq:p ^ k<=2147483647) (hk:1<=k) (hsz:∀ b∈L,b.2.1=1) (hl:L.length=n):JC n k p A T L↔RC n k p A T L:=by
  have hq2:2<=p ^ k:=by
    have:=AJo (p:=p) (by omega) hk;rw [Int.pow_one] at this;omega
  have hb:∀ i j,0<=AUf n (p ^ k) A T i j/\AUf n (p ^ k) A T i j < p ^ k:=Aci hq2;have hm:=Aru (p:=p) (r:=0) (F:=fun _ _=>0) hsz;unfold JC RC;generalize AUf n (p ^ k) A T=G at *
  have hget:∀ i,i < n-> ∃ b,L[i]? =some b:=fun i hi=>⟨L[i]'(by omega),List.getElem?_eq_getElem _⟩
  constructor
  · rintro ⟨h1,h2,h3⟩
    refine ⟨fun i hi=>⟨fun b hb2=>?_,(h3 i (by omega)).2.1⟩,h1,h2,fun i hi j hj=>?_⟩
    · obtain ⟨⟨hne,hI⟩,-,-⟩:=h3 i (by omega);obtain ⟨e,u,rfl,hx,hu⟩:=hI b hb2;have hbi:=hb i i;have hpe:0 < p ^ e:=Int.pow_pos (by omega)
      have hu0:0 < u:=by
        rcases Int.lt_or_le 0 u with h | h
        · exact h
        · have:=Int.mul_nonpos_of_nonpos_of_nonneg h (Int.le_of_lt hpe);omega
      have hle:1 * p ^ e<=u * p ^ e:=Int.mul_le_mul_of_nonneg_right (by omega) (by omega);have hek:e < k:=Ahe (p:=p) (by omega) (by omega);refine ⟨⟨by omega,by rw [if_neg (by omega)];show (e:Int)<=_;omega⟩,?_⟩;rw [if_pos rfl];refine ⟨⟨hu0,?_⟩,hu,rfl,rfl⟩;rw [Int.toNat_natCast];show u < p ^ (k - e);have h4:u * p ^ e < p ^ (k - e) * p ^ e:=by rw [<- Int.pow_add,show k - e + e=k by omega];omega
      exact Int.lt_of_mul_lt_mul_right h4 (Int.le_of_lt hpe)
    · rw [hm i j]
      by_cases hij:i=j
      · subst hij;obtain ⟨b,hbi⟩:=hget i hi;obtain ⟨e,u,rfl,hx,hu⟩:=(h3 i hi).1.2 b hbi;rw [if_pos ⟨rfl,Nat.zero_le _⟩,Nat.sub_zero,hbi,hx];show u * p ^ e=p ^ ((e:Int).toNat) * u;rw [Int.toNat_natCast,Int.mul_comm]
      · rw [if_neg (fun h=>hij h.1)];exact (h3 i hi).2.2 j hj (fun h=>hij h.symm)
  · rintro ⟨h1,h2,h3,h4⟩;refine ⟨h2,h3,fun i hi=>?_⟩;obtain ⟨b,hbi⟩:=hget i hi;obtain ⟨hP,hA⟩:=h1 i (by omega);have hPb:=hP b hbi;have hs1:=hsz b (List.mem_of_getElem? hbi);obtain ⟨e,s,x,y,z⟩:=b;dsimp only at hs1;subst hs1;obtain ⟨⟨ha,hb2⟩,hc⟩:=hPb;dsimp only at ha hb2 hc;rw [if_pos rfl] at hc;obtain ⟨⟨c1,c2⟩,c3,rfl,rfl⟩:=hc;have hd:=h4 i hi i hi;rw [hm i i,if_pos ⟨rfl,Nat.zero_le _⟩,Nat.sub_zero,hbi] at hd;dsimp only at hd;have hpe:0 < p ^ e.toNat:=Int.pow_pos (by omega);have:=Int.mul_pos hpe c1
    refine ⟨⟨by omega,fun c hc=>?_⟩,hA,fun j hj hne=>?_⟩
    · rw [hbi] at hc;cases hc;refine ⟨e.toNat,x,?_,by rw [hd,Int.mul_comm],c3⟩;rw [show ((e.toNat:Nat):Int)=e by omega]
    · rw [h4 i hi j hj,hm i j,if_neg (fun h=>hne h.1.symm)]
theorem Atx {T:List (List Int)} {n:Nat} (h1:T.length=n) (h2:∀ z∈T,z.length=n):T=tab n n (ent T):=by
 have:=AX0 h2;rwa [h1] at this
theorem Aoo {T:List (List Int)} {n:Nat} (h:∀ i,i < T.length-> ∀ z,T[i]? =some z->z.length=n):∀ z∈T,z.length=n:=fun z hz=>by
  obtain ⟨i,hi⟩:=List.getElem?_of_mem hz
  exact h i (List.getElem?_eq_some_iff.1 hi).1 z hi
theorem Aq5 {fuel n:Nat} {M T:List (List Int)} (hM:M.length=n) (hT:T.length<=8) (hf:100 < fuel):Ok (iter (fun s=>AJ0 fuel M T s) fuel 0) fun ex=>(ex= .inr ()/\ ∀ i,i < T.length-> ∀ z,T[i]? =some z->z.length=n)∨(ex= .inl 3/\¬ ∀ i,i < T.length-> ∀ z,T[i]? =some z->z.length=n):=by
 refine AQo (n:=T.length) (fun i=> ∀ z,T[i]? =some z->z.length=n) 3 (by omega) (fun i hi=>?_) ?_
 ·obtain ⟨z,hz⟩:∃ z,T[i]? =some z:=⟨T[i],List.getElem?_eq_getElem hi⟩;unfold AJ0;rw [if_pos (by omega),AGq hz];exact AB8 (fun h=>ABn (.inr ⟨rfl,fun h2=>h (by have:=h2 z hz;omega)⟩)) fun h=>ABn (.inl ⟨by rw [ADy (by omega)],fun y hy=>by rw [hz] at hy;cases hy;omega⟩)
 ·unfold AJ0;rw [if_neg (by omega)]
theorem Aq6 {fuel:Nat} {T:List (List Int)} (hT:T.length<=8) (hf:100 < fuel):Ok (AHp fuel T) fun b=>b=true↔ ∀ i,i < T.length-> ∀ z,T[i]? =some z->z.length=T.length:=by
 unfold AHp;refine ABs (AQo (n:=T.length) (fun i=> ∀ z,T[i]? =some z->z.length=T.length) false (by omega) (fun i hi=>?_) ?_) fun ex hex=>?_
 ·obtain ⟨z,hz⟩:∃ z,T[i]? =some z:=⟨T[i],List.getElem?_eq_getElem hi⟩;unfold AH2;rw [if_pos (by omega),AGq hz];exact AB8 (fun h=>ABn (.inr ⟨rfl,fun h2=>h (by have:=h2 z hz;omega)⟩)) fun h=>ABn (.inl ⟨by rw [ADy (by omega)],fun y hy=>by rw [hz] at hy;cases hy;omega⟩)
 ·unfold AH2;rw [if_neg (by omega)]
 ·rcases hex with ⟨rfl,h⟩ | ⟨rfl,h⟩
  ·exact ABn ⟨fun _=>h,fun _=>rfl⟩
  ·exact ABn ⟨fun h=>(nomatch h),fun h2=>absurd h2 h⟩
theorem Aop {L:List AJr} (h:∀ b∈L,b.2.1=1):Ahg L=L.length:=by
 induction L with
 | nil=>rfl
 | cons b l ih=>
   have hb:=h b (by simp)
   unfold Ahg
   rw [ih fun c hc=>h c (by simp [hc]),List.length_cons];omega
theorem Aoq {M:List (List Int)} {p v:Int} (R:Abb M) (hp:2<=p) (hp2:p<=9973) (h:Adq (det M.length (ent M)) p v):∃ k:Nat,((if p=2 then v + 3 else v + 1)=(k:Int))/\p ^ k<=2147483647/\1<=k/\(p=2->3<=k):=by
  obtain ⟨v1,v2⟩:=Aaw R;obtain ⟨e,r,rfl,h1,h2⟩:=h;have hpe:0 < p ^ e:=Int.pow_pos (by omega)
  have hr:0 < r:=by
    rcases Int.lt_or_le 0 r with h | h
    · exact h
    · have:=Int.mul_nonpos_of_nonpos_of_nonneg h (Int.le_of_lt hpe);omega
  have hle:1 * p ^ e<=r * p ^ e:=Int.mul_le_mul_of_nonneg_right (by omega) (by omega)
  by_cases h:p=2
  · subst h;refine ⟨e + 3,by rw [if_pos rfl];rfl,?_,by omega,fun _=>by omega⟩;rw [Int.pow_add];have:(2:Int) ^ 3=8:=by decide
    omega
  · refine ⟨e + 1,by rw [if_neg h];rfl,?_,by omega,fun h2=>absurd h2 h⟩;rw [Int.pow_succ];have:=Int.mul_le_mul (show p ^ e<=10000 by omega) hp2 (by omega) (by omega);omega
theorem Aks {fuel:Nat} {M T:List (List Int)} {p:Int} {L:List AJr} (hM:Afs M) (hg:2147483648 < fuel):∃ r,AHd fuel M p T L=some r/\AFc fuel M p T L=some r:=by
 have hf:100 < fuel:=by omega
 have e0:=Aha hM hf;unfold AHd AFc;rw [e0];simp only [ATb,APn,Adg,Option.bind_some]
 cases hr:isRed M with
 | false=>exact ⟨6,rfl,rfl⟩
 | true=>
   cases ho:AYz p with
   | false=>exact ⟨20,rfl,rfl⟩
   | true=>
     have R:=(AYg M).1 hr
     have ho':2 < p/\p<=9973/\Pr p:=by simpa [AYz] using ho
     simp only [Bool.not_true,Bool.false_eq_true,reduceIte]
     by_cases hT:(T.length:Int)=M.length
     · by_cases hL:(L.length:Int)=M.length
       · have hn:=R.1
         obtain ⟨n,hMn⟩:∃ n,M.length=n:=⟨_,rfl⟩
         rw [if_neg (show ¬ ¬ (T.length:Int)=M.length from fun h=>h hT),if_neg (show ¬ ¬ (L.length:Int)=M.length from fun h=>h hL),if_neg (show ¬ ¬ (T.length:Int)=M.length from fun h=>h hT),if_neg (show ¬ ¬ (L.length:Int)=M.length from fun h=>h hL)]
         simp only [Option.bind_some]
         obtain ⟨ex,h1,h2⟩:=Aq5 (fuel:=fuel) (T:=T) hMn (by omega) hf
         obtain ⟨b,h3,h4⟩:=Aq6 (fuel:=fuel) (T:=T) (by omega) hf
         rw [h1,h3]
         simp only [Option.bind_some]
         have hTn:T.length=n:=by omega
         rw [hTn] at h4 h2
         rcases h2 with ⟨rfl,h2⟩ | ⟨rfl,h2⟩
         · obtain rfl:b=true:=h4.2 h2
           rw [if_neg (by decide)]
           simp only [Option.bind_some]
           have hTt:=Atx hTn (Aoo (T:=T) (n:=n) (by rw [hTn];exact h2))
           have hMt:=Aav R
           obtain ⟨v,hv,Ap,hj,hd⟩:=Acg (fuel:=fuel) R ho'.2.2 ho'.2.1 hf
           obtain ⟨k,hk,hq,Ad,Ai⟩:=Aoq R (by omega) ho'.2.1 hv
           rw [hk] at hj hd
           rw [hj]
           simp only [Option.bind_some]
           rw [Aok (by omega) hq hf]
           simp only [Option.bind_some]
           rw [hMn] at hMt hn
           rw [hMt] at hd
           rw [hMt,hTt]
           obtain ⟨c,h5,h6⟩:=Akq (fuel:=fuel) (A:=ent M) (T:=ent T) (L:=L) hn.1 hn.2 (show 2<=p by omega) ho'.2.1 hq Ad (show L.length=n by omega) hg
           rw [h5]
           simp only [Option.bind_some]
           have hall:Ok (iter (fun s=>AGn fuel L s) fuel 0) fun ex=>(ex= .inr ()/\ ∀ i,i < L.length-> ∀ b,L[i]? =some b->b.2.1=1)∨(ex= .inl 10/\¬ ∀ i,i < L.length-> ∀ b,L[i]? =some b->b.2.1=1):=by
             refine AQo (n:=L.length) (fun i=> ∀ b,L[i]? =some b->b.2.1=1) 10 (by omega) (fun i hi=>?_) ?_
             · obtain ⟨z,hz⟩:∃ z,L[i]? =some z:=⟨L[i],List.getElem?_eq_getElem hi⟩
               unfold AGn
               rw [if_pos (by omega),AGq hz]
               exact AB8 (fun h=>ABn (.inr ⟨rfl,fun h2=>h (h2 z hz)⟩)) fun h=>ABn (.inl ⟨by rw [ADy (by omega)],fun y hy=>by rw [hz] at hy;cases hy;omega⟩)
             · unfold AGn
               rw [if_neg (by omega)]
           obtain ⟨ex,h7,h8⟩:=hall
           rw [h7]
           simp only [Option.bind_some]
           rcases h8 with ⟨rfl,h8⟩ | ⟨rfl,h8⟩
           · have hsz:∀ b∈L,b.2.1=1:=fun b hb=>by
               obtain ⟨i,hi⟩:=List.getElem?_of_mem hb
               exact h8 i (List.getElem?_eq_some_iff.1 hi).1 b hi
             obtain ⟨d,h9,Ao⟩:=Akp (fuel:=fuel) (A:=ent M) (T:=ent T) (L:=L) hn.1 hn.2 hd (show 2<=p by omega) hq Ad Ai (fun b hb=> .inl (hsz b hb)) (by rw [Aop hsz];omega) (show L.length<=n by omega) (by omega) hf
             simp only []
             rw [h9]
             simp only [Option.bind_some]
             have:c=d:=by
               rw [Bool.eq_iff_iff,h6,Ao]
               exact Akr (by omega) hq Ad hsz (by omega)
             subst this
             cases c
             · exact ⟨10,rfl,rfl⟩
             · exact ⟨0,rfl,rfl⟩
           · have: ¬ c=true:=fun hc=>h8 fun i hi b hb=>by
               obtain ⟨e,u,rfl,-,-⟩:=((h6.1 hc).2.2 i (by omega)).1.2 b hb
               rfl
             exact ⟨10,by rw [if_pos (by simpa using this)],rfl⟩
         · have hb: ¬ b=true:=fun hb=>h2 (h4.1 hb)
           rw [if_pos (by simpa using hb)]
           exact ⟨3,rfl,rfl⟩
       · rw [if_neg (show ¬ ¬ (T.length:Int)=M.length from fun h=>h hT),if_pos (show ¬ (L.length:Int)=M.length from hL),if_neg (show ¬ ¬ (T.length:Int)=M.length from fun h=>h hT),if_pos (show ¬ (L.length:Int)=M.length from hL)];exact ⟨3,rfl,rfl⟩
     · rw [if_pos hT,if_pos hT];exact ⟨3,rfl,rfl⟩
end Go.Proofs.YtdnbklmefmoofaaGreatDoor
namespace Go.QF
open Go
theorem Adv:∀ u∈([]:List Value),isOne u=true:=fun u h=>by cases h
theorem ARu {v:Value} {l:List Value} (h:isOne v=true) (H:∀ u∈l,isOne u=true):∀ u∈v :: l,isOne u=true:=fun u hu=>(List.mem_cons.1 hu).elim (fun e=>e ▸ h) (H u)
theorem Ai4 {α:Type} {c:Cod α}:∀ h,Al c h ([]:List α) []:=fun h=>Af9 c h
theorem AZh {α:Type} {c:Cod α} {a:α} {cs:List Value} {L:List α} {Ls:List (List Value)} (h1:∀ h,c.rep h a cs) (H:∀ h,Al c h L Ls):∀ h,Al c h (a :: L) (cs :: Ls):=fun h=>⟨by simp [(H h).1],fun i x y hx hy=>by
  cases i with
  | zero=>simp at hx hy;subst hx;subst hy;exact h1 h
  | succ i=>exact (H h).2 i x y (by simpa using hx) (by simpa using hy)⟩
section
variable {P:Program} {B:ABu->Prop} {st:Bool} {ops:Array Oper} {rest:List Oper} {e:Env} {h:ABu} {K:Env->ABu->Prop} {d:Nat} {ty:TypeId} {pos:String} {af:Array Edge}
theorem Aor {α:Type} (c:Cod α) (L:List α) (Ls:List (List Value)) (vs:List (Nat × Value)) {t el bytes n:Nat} {z:Value} {parts:List (Nat × Operand)} (hT:SlT P t el c.k) (hz:ZeT P el z bytes) (hel:Nat.beq el 157=false) (hb:B h) (hBE:∀ h',Ext h h'->B h') (Ac:Nat.ble (n * c.k) 1000=true) (hpos:Nat.ble 1 (n * c.k)=true) (hp:(parts.map fun (i,x)=>(i,e.ev x))=vs) (hf:Instr.fill (fun j=>some (j * c.k,c.k)) ((Array.range (n * c.k)).map (z.cells[· % z.cells.size]!)) vs=some Ls.flatten.toArray) (hl:Ls.length=n) (ha:∀ h,Al c h L Ls) (H:∀ b v h',OwC c el h' [b] v L->Ext h h'->h.size<=b->b < h'.size->RL P B st ops rest (e.set d v) h' K):RL P B st ops (⟨some d,.buildSlice t n parts.toArray,ty,pos,af,none⟩ :: rest) e h K:=by
 have Ac:=Nat.le_of_ble_eq_true Ac;have hpos:=Nat.le_of_ble_eq_true hpos
 have hk:∀ r∈Ls,r.length=c.k:=fun r hr=>by
   obtain ⟨i,hi⟩:=List.getElem?_of_mem hr
   have h1:=(List.getElem?_eq_some_iff.1 hi).1
   exact c.klen ((ha h).2 i r (L[i]'(by have:=(ha h).1;omega)) hi (List.getElem?_eq_getElem _))
 have E:Ext h (h.push (.cells Ls.flatten.toArray el (0,0))):=AFd _ _;refine APz rfl rfl hb fun w hw=>?_;subst hw;obtain ⟨hu,i0,Aa,Ab⟩:=hT;obtain ⟨i,hi,hzz,hsz,hby⟩:=hz;rw [hi] at Aa;injection Aa with Aa;subst Aa;have h3: ¬ (n * i.size > 2 ^ 24):=by rw [Ab];omega
 have h4: ¬ (n * i.size=0):=by rw [Ab];omega
 have:(execOp e.ev ⟨some d,.buildSlice t n parts.toArray,ty,pos,af,none⟩).run P w= .ok (.value (.slice (some ⟨w.heap.size,0,none⟩) n n)) (w.alloc (.cells Ls.flatten.toArray el)):=by
   simp only [execOp,List.map_toArray]
   rw [hp]
   simp only [Instr.buildSlice,Sem.run_bind,ANv hu,Result.andThen,APy hi,if_neg h3,if_neg h4,Ad1 hi hzz]
   have Af:Sem.run P (pure z.cells:Sem (Array Value)) w= .ok z.cells w:=rfl
   simp only [Af,Ab]
   rw [hf]
   simp [newRow]
 rw [this];have hfl:Ls.flatten.length=n * c.k:=by rw [ANa hk,hl]
 exact ⟨⟨rfl,rfl,rfl⟩,hBE _ E,H w.heap.size _ _ (.inr ⟨w.heap.size,Ls,rfl,⟨n,Ls.flatten.toArray,by rw [hl],by
   show (w.heap.push (.cells Ls.flatten.toArray el (0,0)))[w.heap.size]? =_
   simp,by omega,by
   have:=c.pos;have:=Nat.le_mul_of_pos_right n c.pos;unfold maxLen;omega,by simpa using hfl,hk,by rw [List.take_of_length_le (by rw [hl];show Ls.flatten.length<=_;omega)]⟩,ha _,hel⟩) E (Nat.le_refl _) (by simp)⟩
end
end Go.QF
namespace Go.QF
open Go
theorem Aos (l:List Value):(l.map fun r=>[r]).flatten=l:=by
 induction l with
 | nil=>rfl
 | cons a L ih=>simp [ih]
def AYs {α:Type} (c:Cod α) (el:Nat) (h:ABu):List (List Nat)->List Value->List (List α)->Prop
  | [],[],[]=>True
  | G :: Gs,r :: rs,L :: M=>OwC c el h G r L/\AYs c el h Gs rs M
  | _,_,_=>False
theorem AYs.len {α:Type} {c:Cod α} {el:Nat} {h:ABu}:∀ {Gs:List (List Nat)} {rs:List Value} {M:List (List α)},AYs c el h Gs rs M->rs.length=M.length/\Gs.length=M.length
  | [],[],[],_=>⟨rfl,rfl⟩
  | G :: Gs,r :: rs,L :: M,H=>by have:=AYs.len H.2;simp [this.1,this.2]
theorem AYs.get {α:Type} {c:Cod α} {el:Nat} {h:ABu}:∀ {Gs:List (List Nat)} {rs:List Value} {M:List (List α)},AYs c el h Gs rs M-> ∀ (i:Nat) (G:List Nat) (r:Value) (L:List α),Gs[i]? =some G->rs[i]? =some r->M[i]? =some L->OwC c el h G r L
  | [],[],[],_,i,G,r,L,h1,_,_=>by simp at h1
  | G0 :: Gs,r0 :: rs,L0 :: M,H,0,G,r,L,h1,h2,h3=>by simp at h1 h2 h3;subst h1;subst h2;subst h3;exact H.1
  | G0 :: Gs,r0 :: rs,L0 :: M,H,i + 1,G,r,L,h1,h2,h3=>AYs.get H.2 i G r L (by simpa using h1) (by simpa using h2) (by simpa using h3)
section
variable {P:Program} {B:ABu->Prop} {st:Bool} {ops:Array Oper} {rest:List Oper} {e:Env} {h:ABu} {K:Env->ABu->Prop} {d:Nat} {ty:TypeId} {pos:String} {af:Array Edge}
theorem Acj {α:Type} {c:Cod α} (Gs:List (List Nat)) (rs:List Value) (M:List (List α)) {t er el bytes n:Nat} {z:Value} {parts:List (Nat × Operand)} (hT:SlT P t er 1) (hz:ZeT P er z bytes) (h1:isOne z=true) (hel:Nat.beq er 157=false) (hb:B h) (hBE:∀ h',Ext h h'->B h') (hn:rs.length=n) (Aa:Nat.ble n 16777216=true) (hpos:Nat.ble 1 n=true) (hp:(parts.map fun (i,x)=>(i,e.ev x))=partsOf 0 rs) (hone:∀ u∈rs,isOne u=true) (hr:AYs c el h Gs rs M) (hnd:Gs.flatten.Nodup) (H:∀ b v h',AFf c er el h' (b :: Gs.flatten) Gs rs v M->Ext h h'->(∀ z∈b :: Gs.flatten,z∈Gs.flatten∨h.size<=z)->RL P B st ops rest (e.set d v) h' K):RL P B st ops (⟨some d,.buildSlice t n parts.toArray,ty,pos,af,none⟩ :: rest) e h K:=by
 have Aa:=Nat.le_of_ble_eq_true Aa;have E:Ext h (h.push (.cells rs.toArray er (0,0))):=AFd _ _;have HO:AKn (h.push (.cells rs.toArray er (0,0))) er 1 h.size (.slice (some ⟨h.size,0,none⟩) n n) (rs.map fun r=>[r]):=⟨n,rs.toArray,by rw [List.length_map,hn],by simp,by simp [hn],by unfold maxLen;omega,by simp [hn],fun r hr=>by obtain ⟨a,_,rfl⟩:=List.mem_map.1 hr;rfl,by rw [Aos];simp⟩
 have hlt:∀ z∈Gs.flatten,z < h.size:=fun z hz=>by
   obtain ⟨G,hG,hzG⟩:=List.mem_flatten.1 hz
   obtain ⟨i,hi⟩:=List.getElem?_of_mem hG
   have hi':=(List.getElem?_eq_some_iff.1 hi).1
   have hl:=hr.len
   exact (hr.get i G (rs[i]'(by omega)) (M[i]'(by omega)) hi (List.getElem?_eq_getElem _) (List.getElem?_eq_getElem _)).lt z hzG
 refine Aoy rs hT hz h1 hb hn Aa (Nat.le_of_ble_eq_true hpos) hp hone ⟨hBE _ E,H h.size _ _ (.inr ⟨h.size,rfl,?_,HO,hel,hr.len.1,hr.len.2,fun i G r L a1 a2 a3=>(hr.get i G r L a1 a2 a3).ext E⟩) E fun z hz=>?_⟩
 ·exact List.nodup_cons.2 ⟨fun hm=>by have:=hlt _ hm;omega,hnd⟩
 ·rcases List.mem_cons.1 hz with rfl | h2
  ·exact .inr (Nat.le_refl _)
  ·exact .inl h2
end
end Go.QF
namespace Go.Proofs.YtdnbklmefmoofaaGreatDoor
open Go Go.QF
def aT (F:List Nat):Asr:=⟨F,fun h=> ∀ b∈F,ASl h b,fun {G h h'} U d H b hb=>by
  obtain ⟨cur,el,off,h1,h2⟩:=H b hb;exact ⟨cur,el,off,(U.1.2 b (Array.getElem?_eq_some_iff.1 h1).1 (d b hb)).trans h1,h2⟩⟩
namespace Kst
variable {h0 h h':ABu} {l l':List Asr}
theorem a0 (k:Kst h0 h l):Kst h0 h (aT [] :: l):=k.n (Ext.refl h) [aT []] (by exact ⟨by simp [fps,aT],fun b hb=>by simp [fps,aT] at hb⟩) ⟨fun b hb=>by simp at hb,trivial⟩
theorem grab {α:Type} {c:Cod α} {F R:List Nat} {j el:Nat} {w:Value} {y:List α} (k:Kst h0 h (aT F :: l)) (e:Rep j l (aO c el R w y) (aC True) l'):Kst h0 h (aT (F ++ R) :: l'):=by
 obtain ⟨e,rfl⟩:=e;have HR:OwC c el h R w y:=ARk k.p.2 e;have e1:(fps (aT F :: l))[j + 1]? =some R:=(AOf e:(fps l)[j]? =some R);have e0:(fps (aT F :: l))[0]? =some F:=rfl;have hd:=k.s.dj 0 (j + 1) e0 e1 (by omega);have hF:F.Nodup:=(List.nodup_append.1 k.s.1).1;have:=k.s.put2 0 (j + 1) (F':=F ++ R) e0 e1 (by omega) (List.nodup_append.2 ⟨hF,HR.nodup,fun a ha b hb hab=>hd a ha (hab ▸ hb)⟩) (Nat.le_refl _) k.x.1 (fun x hx=>(List.mem_append.1 hx).elim (fun h=>(k.s.lo 0 e0 x h).2) fun h=>HR.lt x h) (fun x hx=>(List.mem_append.1 hx).elim .inl fun h=> .inr (.inl h));refine ⟨k.x,?_,fun b hb=>(List.mem_append.1 hb).elim (k.p.1 b) (HR.notD b),Abr k.p.2 j⟩
 have e2:fps (aT (F ++ R) :: l.set j (aC True))=((fps (aT F :: l)).set (j + 1) []).set 0 (F ++ R):=by
   show (F ++ R) :: fps (l.set j (aC True))=_
   rw [AW9];rfl
 rw [e2];exact this
theorem ndT {F:List Nat} (k:Kst h0 h (aT F :: l)):F.Nodup:=(List.nodup_append.1 k.s.1).1
theorem lit {α:Type} {c:Cod α} {er el:Nat} {F F':List Nat} {Gs:List (List Nat)} {rs:List Value} {v:Value} {x:List (List α)} (k:Kst h0 h (aT F :: l)) (E:Ext h h') (V:AFf c er el h' F' Gs rs v x) (hs:∀ z∈F',z∈F∨h.size<=z):Kst h0 h' (aO2 c er el F' Gs rs v x :: l):=
  k.u p0 (E.upT.mono (fun x hx=>by simp at hx) fun x hx _=>k.p.1 x hx) V V.nodup V.lt hs
end Kst
end Go.Proofs.YtdnbklmefmoofaaGreatDoor
namespace Go.Proofs.YtdnbklmefmoofaaGreatDoor
open Go Go.QF
set_option maxRecDepth 100000
set_option maxHeartbeats 4000000
def AOg (fuel:Nat) (a1 a2:Int):Option Int:=
  (if a2≠0 then (if a2≠0 then (some (Int.tmod (w64 ((Int.tmod a1 a2) + a2)) a2)) else none) else none)
theorem ARv {fuel:Nat} {h:ABu} {a1 a2 r:Int} (hp:AOg fuel a1 a2=some r):ACn Tryz.prog 107 #[(.int .i64 a1),(.int .i64 a2)] h (fun x h'=>Ext h h'/\x= .int .i64 r):=by
 unfold AOg at hp;refine cwf (l:=[_,_]) Tryz.func107 rfl rfl (ABp (AC1 (Wo (Wo ?_))));obtain ⟨Ac,Ad⟩:=ifN hp;refine AHh rfl rfl Ac (Wo (ACz rfl rfl (Wo ?_)));obtain ⟨Ae,Af⟩:=ifN Ad;refine AHh rfl rfl Ae (ABv (ABx ?_));obtain rfl:=ABo Af;exact ⟨_,ABz,(Kst.k0 h).x,rfl⟩
def ASe (fuel:Nat) (Ac Aa Ab:Int):Option ((Int × Int) ⊕ ((Int × Int))):=
  (if (Int.tmod Aa 2)=0 then (if (Int.tmod Ac 8)=3 then (some (Sum.inl ((w64 (Int.tdiv Aa 2)),(w64 (0 - Ab))))) else (if (Int.tmod Ac 8)=5 then (some (Sum.inl ((w64 (Int.tdiv Aa 2)),(w64 (0 - Ab))))) else (some (Sum.inl ((w64 (Int.tdiv Aa 2)),Ab))))) else (some (Sum.inr<| (Aa,Ab))))
def ASf (fuel:Nat) (Ad Aa Ae:Int):Option ((Int × Int × Int) ⊕ ((Int × Int))):=
  (if ¬ Ad=0 then ((iter (fun s=>ASe fuel Aa s.1 s.2) fuel (Ad,Ae)).bind (fun ((Ab,Ac):Int × Int)=>(((if (Int.tmod Ab 4)=3 then (if (Int.tmod Aa 4)=3 then (some ( (w64 (0 - Ac)))) else (some ( Ac))) else (some ( Ac))):Option ((Int))).bind (fun (Af:Int)=>(if Ab≠0 then (some (Sum.inl ((Int.tmod Aa Ab),Ab,Af))) else none))))) else (some (Sum.inr<| (Aa,Ae))))
def ARw (fuel:Nat) (a1 a2:Int):Option Int:=
  ((iter (fun s=>ASf fuel s.1 s.2.1 s.2.2) fuel (a1,a2,1)).bind (fun ((Ac,Ad):Int × Int)=>(if ¬ Ac=1 then (some 0) else (some Ad))))
theorem AXs {fuel:Nat} {h:ABu} {a1 a2 r:Int} (hp:ARw fuel a1 a2=some r):ACn Tryz.prog 108 #[(.int .i64 a1),(.int .i64 a2)] h (fun x h'=>Ext h h'/\x= .int .i64 r):=by
 unfold ARw at hp;refine cwf (l:=[_,_]) Tryz.func108 rfl rfl (ABp (AC1 (ABv (ABr (ABw ?_)))));have K0:=Kst.k0 h;obtain ⟨Ax,A8,Ay⟩:=ABq hp;obtain ⟨A9,Ba,Bb⟩:=ACe A8;refine ACq 137438953443 (fun x:(Int) × (Int) × (Int)=>[(0,(.int .i64 x.1)),(1,(.int .i64 x.2.1)),(5,(.int .i64 x.2.2))]) (fun k x h'=>iter A9 k (x.1,x.2.1,x.2.2)=some Ax/\Kst h h' (K0.L)) (by kernel_rfl) fuel ((a1,a2,1):(Int) × (Int) × (Int)) ?_ ⟨rfl,rfl,rfl,trivial⟩ ?_
 ·exact ⟨Bb,K0⟩
 rintro k9 ⟨Bc,Az,u16⟩ Bw Bx ⟨Be,Ag⟩;obtain ⟨Bf,By,rfl,Ad,Am⟩:=AB7 Be;rw [Ba] at Ad;dsimp only at Ad;unfold ASf at Ad;refine ABr (ABp (Wo (AEn rfl rfl (ABt (⟨_,rfl,fun Ao=>?_,fun Ao=>?_⟩)))))
 ·refine ABy (q_t (ABw (ABr (ABw ?_))));obtain ⟨A3,Bg,Bh⟩:=ABq (AC8 Ad Ao);obtain ⟨Bi,Bj,Bl⟩:=ACe Bg;refine ACq 8388385 (fun x:(Int) × (Int)=>[(0,(.int .i64 x.1)),(5,(.int .i64 x.2))]) (fun k x h'=>iter Bi k (x.1,x.2)=some A3/\Kst h h' (Ag.L)) (by kernel_rfl) fuel ((Bc,u16):(Int) × (Int)) ?_ ⟨rfl,rfl,trivial⟩ ?_
  ·exact ⟨Bl,Ag⟩
  rintro Bz ⟨Ab,Ac⟩ B1 B3 ⟨Bm,Aa⟩;obtain ⟨Ap,B4,rfl,Ae,Af⟩:=AB7 Bm;rw [Bj] at Ae;dsimp only at Ae;unfold ASe at Ae;refine ABr (ABp (Wo (AHh rfl rfl (by decide) (AD8 rfl rfl (ABt (⟨_,rfl,fun Aq=>?_,fun Aq=>?_⟩))))))
  ·refine ABy (q_t (ABw (ABp (Wo (AWq rfl rfl (by decide) (AC1 (Wo (AHh rfl rfl (by decide) (AD8 rfl rfl (Wo ?_))))))))));have A4:=AC8 Ae Aq;by_cases Ah:(Int.tmod Az 8)=3
   ·rw [decide_eq_true Ah];refine AE2 16 true (AB2 rfl (ABt (ACd rfl (AB5 (Wo (AVw rfl (ACk (ACr (q_b (q_t ?_))))))))));obtain rfl:=ABo (ifT A4 Ah);exact ⟨Ap,(((w64 (Int.tdiv Ab 2)),(w64 (0 - Ac))):(Int) × (Int)),Nat.lt_succ_self _,⟨Af,Aa⟩,rfl,rfl,trivial⟩
   ·have A5:=ifF A4 Ah;rw [decide_eq_false Ah];refine AB3 16 false (Wo (AB3 16 false (AHh rfl rfl (by decide) (AB3 16 false (AD8 rfl rfl (AB0 rfl (ABt (⟨_,rfl,fun Ar=>?_,fun Ar=>?_⟩))))))))
    ·refine AB5 (Wo (AVw rfl (ACk (ACr (q_b (q_t ?_))))));obtain rfl:=ABo (AC8 A5 Ar);exact ⟨Ap,(((w64 (Int.tdiv Ab 2)),(w64 (0 - Ac))):(Int) × (Int)),Nat.lt_succ_self _,⟨Af,Aa⟩,rfl,rfl,trivial⟩
    ·refine ABy (q_b (q_t ?_));obtain rfl:=ABo (AC9 A5 Ar);exact ⟨Ap,(((w64 (Int.tdiv Ab 2)),Ac):(Int) × (Int)),Nat.lt_succ_self _,⟨Af,Aa⟩,rfl,rfl,trivial⟩
  ·obtain rfl:=ABo (AC9 Ae Aq);change _=A3 at Af;subst Af;refine ACh (ACj (ACj (ADo (q_t ?_))));obtain ⟨Bn,A6,Bo⟩:=ABq Bh;refine ALi 8581546016 (fun x:(Int)=>[(5,(.int .i64 x))]) (fun x h'=>( x)=Bn/\Kst h h' (Aa.L)) ?_ ?_
   ·refine ABp (Wo (AHh rfl rfl (by decide) (AD8 rfl rfl (Wo ?_))));by_cases Ai:(Int.tmod Ab 4)=3
    ·have A7:=ifT A6 Ai;rw [decide_eq_true Ai];refine AB3 26 true (Wo (AB3 26 true (AHh rfl rfl (by decide) (AB3 26 true (AD8 rfl rfl (AB2 rfl (ABt (⟨_,rfl,fun Au=>?_,fun Au=>?_⟩))))))))
     ·refine AB5 (Wo (AVw rfl (ABv ?_)));exact ⟨((w64 (0 - Ac)):(Int)),⟨ABo (AC8 A7 Au),Aa⟩,rfl,trivial⟩
     ·refine ABy (q_t ?_);exact ⟨(Ac:(Int)),⟨ABo (AC9 A7 Au),Aa⟩,rfl,trivial⟩
    ·rw [decide_eq_false Ai];refine AE2 26 false (AB0 rfl (ABt (ACo rfl (ABy (q_t ?_)))));exact ⟨(Ac:(Int)),⟨ABo (ifF A6 Ai),Aa⟩,rfl,trivial⟩
   rintro Bp B5 B6 ⟨Bq,Br⟩;subst Bq;refine AB5 (Wo (Wo ?_));obtain ⟨Bt,Bu⟩:=ifN Bo;refine AHh rfl rfl Bt (Wo (ACk (ACk (ACr (q_b (q_t ?_))))));obtain rfl:=ABo Bu;exact ⟨Bf,(((Int.tmod Az Ab),Ab,Bp):(Int) × (Int) × (Int)),Nat.lt_succ_self _,⟨Am,Br⟩,rfl,rfl,rfl,trivial⟩
 ·obtain rfl:=ABo (AC9 Ad Ao);change _=Ax at Am;subst Am;refine ACh (ACj (ACj (ADo (q_t (ABr (ABp (Wo (AEn rfl rfl (ABt (⟨_,rfl,fun Av=>?_,fun Av=>?_⟩))))))))))
  ·refine ABp (ABv (ABx (AB4 ?_)));obtain rfl:=ABo (AC8 Ay Av);exact ⟨_,ABz,Ag.x,rfl⟩
  ·refine ABy (q_t (ABp (Wo (ABv (ABx ?_)))));obtain rfl:=ABo (AC9 Ay Av);exact ⟨_,ABz,Ag.x,rfl⟩
def AP7 (fuel:Nat) (a1 Ab Aa:Int):Option ((Int × Int) ⊕ (((Int × Int)) ⊕ (Int × Int))):=
  (if (Int.tmod Ab 2)=0 then (if (Int.tmod a1 2)=0 then (some (Sum.inr<| Sum.inl <| (0,0))) else ((((AOg fuel a1 8).bind fun Ad=>(if Ad=3 then (some ( (w64 (0 - Aa)))) else (if Ad=5 then (some ( (w64 (0 - Aa)))) else (some ( Aa))))):Option ((Int))).bind (fun (Ae:Int)=>(some (Sum.inl ((w64 (Int.tdiv Ab 2)),Ae)))))) else (some (Sum.inr<| Sum.inr <| (Ab,Aa))))
def APg (fuel:Nat) (a1 a2:Int):Option (Int × Int):=
  (((if a1 < (-2147483647) then (some (Sum.inl <| (0,1))) else (if 2147483647 < a1 then (some (Sum.inl <| (0,1))) else (if a2 < (-2147483647) then (some (Sum.inl <| (0,1))) else (if 2147483647 < a2 then (some (Sum.inl <| (0,1))) else (some (Sum.inr <| ())))))):Option (((Int × Int)) ⊕ (Unit))).bind (fun ex=>match ex with | Sum.inl Ad=>(some Ad) | Sum.inr (_)=>(if a2=0 then (if a1=1 then (some (1,0)) else (if a1=(-1) then (some (1,0)) else (some (0,0)))) else (((if a2 < 0 then (if a1 < 0 then (some ( ((w64 (0 - a2)),(-1)))) else (some ( ((w64 (0 - a2)),1)))) else (some ( (a2,1)))):Option ((Int × Int))).bind (fun ((Ae,Af):Int × Int)=>((iter (fun s=>AP7 fuel a1 s.1 s.2) fuel (Ae,Af)).bind (fun ex=>match ex with | Sum.inl Ag=>(some Ag) | Sum.inr ((Ac,Ah))=>((AOg fuel a1 Ac).bind fun Ai=>((ARw fuel Ai Ac).bind fun Aj=>(some ((w64 (Ah * Aj)),0)))))))))))
theorem AU9 {fuel:Nat} {h:ABu} {a1 a2:Int} {r:(Int × Int)} (hp:APg fuel a1 a2=some r):ACn Tryz.prog 62 #[(.int .i64 a1),(.int .i64 a2)] h (fun x h'=>Ext h h'/\x= .tuple #[.int .i64 r.1,.int .i64 r.2]):=by
 unfold APg at hp;refine cwf (l:=[_,_]) Tryz.func62 rfl rfl (ABp (ACk (ABv ?_)));have K0:=Kst.k0 h;obtain ⟨Bj,A5,Ad⟩:=ABq hp;refine ALi 4194096 (fun x:Unit=>[]) (fun x h'=>(Sum.inr <| ())=Bj/\Kst h h' (K0.L)) ?_ ?_
 ·refine ABp (Wo (ACu rfl rfl (Wo ?_)));by_cases Ah:a1 < (-2147483647)
  ·rw [decide_eq_true Ah];refine AIg 10 true (AB2 rfl (Wo (AIg 14 true (AB2 rfl (Wo (AIg 18 true (AB2 rfl (ABt (ACd rfl (ABp (ACk (ABv ?_))))))))))));obtain rfl:=ABo (ifT A5 Ah);refine ABx (AB4 ?_);obtain rfl:=ABo Ad;exact ⟨_,ADj,K0.x,rfl⟩
  ·have A6:=ifF A5 Ah;rw [decide_eq_false Ah];refine AB3 10 false (Wo (AB3 10 false (AGz rfl rfl (AB0 rfl (Wo ?_)))));by_cases Ai:2147483647 < a1
   ·rw [decide_eq_true Ai];refine AIg 14 true (AB2 rfl (Wo (AIg 18 true (AB2 rfl (ABt (ACd rfl (ABp (ACk (ABv ?_)))))))));obtain rfl:=ABo (ifT A6 Ai);refine ABx (AB4 ?_);obtain rfl:=ABo Ad;exact ⟨_,ADj,K0.x,rfl⟩
   ·have A7:=ifF A6 Ai;rw [decide_eq_false Ai];refine AB3 14 false (Wo (AB3 14 false (ACu rfl rfl (AB0 rfl (Wo ?_)))));by_cases Aj:a2 < (-2147483647)
    ·rw [decide_eq_true Aj];refine AIg 18 true (AB2 rfl (ABt (ACd rfl (ABp (ACk (ABv ?_))))));obtain rfl:=ABo (ifT A7 Aj);refine ABx (AB4 ?_);obtain rfl:=ABo Ad;exact ⟨_,ADj,K0.x,rfl⟩
    ·have A8:=ifF A7 Aj;rw [decide_eq_false Aj];refine AB3 18 false (Wo (AB3 18 false (AGz rfl rfl (AB0 rfl (ABt (⟨_,rfl,fun Ap=>?_,fun Ap=>?_⟩))))))
     ·refine ABp (ACk (ABv ?_));obtain rfl:=ABo (AC8 A8 Ap);refine ABx (AB4 ?_);obtain rfl:=ABo Ad;exact ⟨_,ADj,K0.x,rfl⟩
     ·refine ABy (q_t ?_);exact ⟨(():Unit),⟨ABo (AC9 A8 Ap),K0⟩,trivial⟩
 rintro ⟨⟩ Cj Ck ⟨Bl,Aa⟩;subst Bl;refine ABr (ABp (Wo (AD8 rfl rfl (ABt (⟨_,rfl,fun Aq=>?_,fun Aq=>?_⟩)))))
 ·refine ABr (ABp (Wo (AD8 rfl rfl (Wo ?_))));have A9:=AC8 Ad Aq;by_cases Ak:a1=1
  ·rw [decide_eq_true Ak];refine AIg 26 true (AB2 rfl (ABt (ACd rfl (ABp (ACk (ABv (ABx (AB4 (AB4 ?_)))))))));obtain rfl:=ABo (ifT A9 Ak);exact ⟨_,ADj,Aa.x,rfl⟩
  ·have Ba:=ifF A9 Ak;rw [decide_eq_false Ak];refine AB3 26 false (Wo (AB3 26 false (AD8 rfl rfl (AB0 rfl (ABt (⟨_,rfl,fun Ar=>?_,fun Ar=>?_⟩))))))
   ·refine ABp (ACk (ABv (ABx (AB4 (AB4 ?_)))));obtain rfl:=ABo (AC8 Ba Ar);exact ⟨_,ADj,Aa.x,rfl⟩
   ·refine ABy (q_t (ABp (ACk (ABv (ABx (AB4 ?_))))));obtain rfl:=ABo (AC9 Ba Ar);exact ⟨_,ADj,Aa.x,rfl⟩
 ·refine ABy (q_t (ABp (ABv ?_)));obtain ⟨Bm,Bb,Bn⟩:=ABq (AC9 Ad Aq);refine ALi 67645734978 (fun x:(Int) × (Int)=>[(1,(.int .i64 x.1)),(6,(.int .i64 x.2))]) (fun x h'=>( (x.1,x.2))=Bm/\Kst h h' (Aa.L)) ?_ ?_
  ·refine ABp (Wo (ACu rfl rfl (ABt (⟨_,rfl,fun Au=>?_,fun Au=>?_⟩))))
   ·refine ABp (Wo (AVw rfl (AC1 (Wo (ACu rfl rfl (ABt ?_))))));have Bc:=AC8 Bb Au;refine ⟨_,rfl,fun Av=>?_,fun Av=>?_⟩
    ·refine AB5 (ABv ?_);exact ⟨(((w64 (0 - a2)),(-1)):(Int) × (Int)),⟨ABo (AC8 Bc Av),Aa⟩,rfl,rfl,trivial⟩
    ·refine ABy (q_t ?_);exact ⟨(((w64 (0 - a2)),1):(Int) × (Int)),⟨ABo (AC9 Bc Av),Aa⟩,rfl,rfl,trivial⟩
   ·refine ABy (q_t ?_);exact ⟨((a2,1):(Int) × (Int)),⟨ABo (AC9 Bb Au),Aa⟩,rfl,rfl,trivial⟩
  rintro ⟨u64,Bo⟩ Cm Cn ⟨Bp,Be⟩;subst Bp;refine ABr (ABw ?_);obtain ⟨Aw,Bq,Bf⟩:=ABq Bn;obtain ⟨Br,Bt,Bu⟩:=ACe Bq;refine ACq 18014329790005490 (fun x:(Int) × (Int)=>[(1,(.int .i64 x.1)),(6,(.int .i64 x.2))]) (fun k x h'=>iter Br k (x.1,x.2)=some Aw/\Kst h h' (Be.L)) (by kernel_rfl) fuel ((u64,Bo):(Int) × (Int)) ?_ ⟨rfl,rfl,trivial⟩ ?_
  ·exact ⟨Bu,Be⟩
  rintro Co ⟨Bv,Ax⟩ Cp Cq ⟨Bw,Am⟩;obtain ⟨Bx,Cr,rfl,Af,Ag⟩:=AB7 Bw;rw [Bt] at Af;dsimp only at Af;unfold AP7 at Af;refine ABr (ABp (Wo (AHh rfl rfl (by decide) (AD8 rfl rfl (ABt (⟨_,rfl,fun Ay=>?_,fun Ay=>?_⟩))))))
  ·refine ABy (q_t (ABw (ABr (ABp (Wo (AHh rfl rfl (by decide) (AD8 rfl rfl (ABt ?_))))))));have Bg:=AC8 Af Ay;refine ⟨_,rfl,fun Az=>?_,fun Az=>?_⟩
   ·refine ABp (ACk (ABv ?_));obtain rfl:=ABo (AC8 Bg Az);change _=Aw at Ag;subst Ag;refine ABx (AB4 (ADe (AB4 (ADe (AB4 ?_)))));obtain rfl:=ABo Bf;exact ⟨_,ADj,Am.x,rfl⟩
   ·refine ABy (q_t ?_);obtain ⟨By,Bz,B1⟩:=ABq (AC9 Bg Az);refine ALi 4499201580859584 (fun x:(Int)=>[(6,(.int .i64 x))]) (fun x h'=>( x)=By/\Kst h h' (Am.L)) ?_ ?_
    ·refine ABp (Wo ?_);obtain ⟨B3,B4,Bh⟩:=ABq Bz;refine ADb rfl (ARv B4) fun Ct Cu B5 B6=>?_;subst B6;refine AC1 (Wo (AD8 rfl rfl (Wo ?_)));have A3:=Am.e B5;by_cases Ao:B3=3
     ·rw [decide_eq_true Ao];refine AIg 46 true (AB2 rfl (ABt (ACd rfl (AB5 (Wo (AVw rfl (ABv ?_)))))));exact ⟨((w64 (0 - Ax)):(Int)),⟨ABo (ifT Bh Ao),A3⟩,rfl,trivial⟩
     ·have Bi:=ifF Bh Ao;rw [decide_eq_false Ao];refine AB3 46 false (Wo (AB3 46 false (AD8 rfl rfl (AB0 rfl (ABt (⟨_,rfl,fun A4=>?_,fun A4=>?_⟩))))))
      ·refine AB5 (Wo (AVw rfl (ABv ?_)));exact ⟨((w64 (0 - Ax)):(Int)),⟨ABo (AC8 Bi A4),A3⟩,rfl,trivial⟩
      ·refine ABy (q_t ?_);exact ⟨(Ax:(Int)),⟨ABo (AC9 Bi A4),A3⟩,rfl,trivial⟩
    rintro B7 Cv Cw ⟨B8,B9⟩;subst B8;refine AB5 (Wo (AWq rfl rfl (by decide) (ACk (ACr (q_b (q_t ?_))))));obtain rfl:=ABo B1;exact ⟨Bx,(((w64 (Int.tdiv Bv 2)),B7):(Int) × (Int)),Nat.lt_succ_self _,⟨Ag,B9⟩,rfl,rfl,trivial⟩
  ·obtain rfl:=ABo (AC9 Af Ay);change _=Aw at Ag;subst Ag;refine ACh (ACj (ACj (ADo (q_t (ABp (Wo (Wo (Wo ?_))))))));obtain ⟨Cx,Ca,Cb⟩:=ABq Bf;refine ADb rfl (ARv Ca) fun Cy Cz Cd Ce=>?_;subst Ce;refine Wo ?_;obtain ⟨C0,Cf,Cg⟩:=ABq Cb;refine ADb rfl (AXs Cf) fun C1 C2 Ch Ci=>?_;subst Ci;refine AQ3 rfl rfl (ACk (ABv (ABx ?_)));obtain rfl:=ABo Cg;exact ⟨_,ADj,((Am.e Cd).e Ch).x,rfl⟩
noncomputable def AOd (fuel:Nat) (a1:Int) (a8:(List AJr)) (Ae:(List AQd)) (Ad:Int):Option (((List AQd) × Int) ⊕ ((((List AQd) × Bool)) ⊕ ((List AQd)))):=
  (if Ad < (a8.length:Int) then ((gI a8 Ad).bind fun Aa=>(((if ¬ Aa.2.1=1 then (some (Sum.inl <| ([],false))) else (if Aa.1 < 0 then (some (Sum.inl <| ([],false))) else (if 60 < Aa.1 then (some (Sum.inl <| ([],false))) else (if ¬ Aa.2.2.2.1=0 then (some (Sum.inl <| ([],false))) else (if ¬ Aa.2.2.2.2=0 then (some (Sum.inl <| ([],false))) else (if a1≠0 then (if (Int.tmod Aa.2.2.1 a1)=0 then (some (Sum.inl <| ([],false))) else (some (Sum.inr <| ()))) else none)))))):Option ((((List AQd) × Bool)) ⊕ (Unit))).bind (fun ex=>match ex with | Sum.inl Ai=>(some (Sum.inr<| Sum.inl <| Ai)) | Sum.inr (_)=>(((if 0 < Ad then ((gI a8 (w64 (Ad - 1))).bind fun Aj=>(if Aa.1 < Aj.1 then (some (Sum.inl <| ([],false))) else (some (Sum.inr <| ())))) else (some (Sum.inr <| ()))):Option ((((List AQd) × Bool)) ⊕ (Unit))).bind (fun ex=>match ex with | Sum.inl Ak=>(some (Sum.inr<| Sum.inl <| Ak)) | Sum.inr (_)=>(((if Ad=0 then (if Ae.length<=100000000 then (some ( (Ae ++ [(Aa.1,0,1,false,0)]))) else none) else ((gI a8 (w64 (Ad - 1))).bind fun Am=>(if Am.1 < Aa.1 then (if Ae.length<=100000000 then (some ( (Ae ++ [(Aa.1,0,1,false,0)]))) else none) else (some ( Ae))))):Option (((List AQd)))).bind (fun (Ac:(List AQd))=>(if a1≠0 then ((APg fuel (Int.tmod Aa.2.2.1 a1) a1).bind fun (Ao,Ap)=>((gI Ac (w64 ((Ac.length:Int) - 1))).bind fun Ab=>((gI (sI Ac (w64 ((Ac.length:Int) - 1)) (Ab.1,(w64 (Ab.2.1 + 1)),Ab.2.2.1,Ab.2.2.2.1,Ab.2.2.2.2)) (w64 ((Ac.length:Int) - 1))).bind fun Ag=>(some (Sum.inl ((sI (sI Ac (w64 ((Ac.length:Int) - 1)) (Ab.1,(w64 (Ab.2.1 + 1)),Ab.2.2.1,Ab.2.2.2.1,Ab.2.2.2.2)) (w64 ((Ac.length:Int) - 1)) (Ag.1,Ag.2.1,(w64 (Ag.2.2.1 * Ao)),Ag.2.2.2.1,Ag.2.2.2.2)),(w64 (Ad + 1)))))))) else none)))))))) else (some (Sum.inr<| Sum.inr <| Ae)))
noncomputable def AJ7 (fuel:Nat) (a1:Int) (a4:LiI) (a8:(List AJr)):Option ((List AQd) × Bool):=
  ((((APn fuel a1).bind fun Ac=>(if (!Ac)=true then (some (Sum.inl <| ([],false))) else (if (a8.length:Int) < 1 then (some (Sum.inl <| ([],false))) else (if 8 < (a8.length:Int) then (some (Sum.inl <| ([],false))) else (some (Sum.inr <| ())))))):Option ((((List AQd) × Bool)) ⊕ (Unit))).bind (fun ex=>match ex with | Sum.inl Ad=>(some Ad) | Sum.inr (_)=>((iter (fun s=>AOd fuel a1 a8 s.1 s.2) fuel ([],0)).bind (fun ex=>match ex with | Sum.inl Ae=>(some Ae) | Sum.inr (Af)=>(some (Af,true))))))
theorem ASr {fuel:Nat} {h:ABu} {a1:Int} {A9:Value} {a4:LiI} {Ba:Value} {a8:(List AJr)} {r:((List AQd) × Bool)} (H3:AEq (cI .i64) h A9 a4) (H7:SlC AQe h Ba a8) (HO:AVs h) (hp:AJ7 fuel a1 a4 a8=some r):ACn Tryz.prog 26 #[(.agg #[(.int .i64 a1),A9,Ba])] h (fun x h'=>Ext h h'/\ ∃ (x0:Value) (F0:List Nat),x= .tuple #[x0,.bool r.2]/\OwC AQf 44 h' F0 x0 r.1/\Sp h' h.size [F0]):=by
 unfold AJ7 at hp;refine cwf (l:=[_]) Tryz.func26 rfl rfl (ABp (AGo [(.int .i64 a1),A9,Ba] trivial tt2 rfl rfl fun Ev Ew Cr Ct Cu=>ACk (ABv ?_)));have Ar:=(Kst.k0 h).nb Ct Cu Cr;obtain ⟨Cv,Cw,Au⟩:=ABq hp;refine ALi 67107852 (fun x:Unit=>[]) (fun x h'=>(Sum.inr <| ())=Cv/\Kst h h' (Ar.L)) ?_ ?_
 ·refine ABp (ADp AL7 rfl (AB6 ACx rfl ((Ar.b p0).cell (i:=0) rfl) ?_));obtain ⟨Cx,Cy,B4⟩:=ABq Cw;refine ADb rfl (AU5 (HO.ext Ar.x) Cy) fun Ey Ez Cz C0=>?_;subst C0;refine AE1 rfl (Wo ?_);have Am:=Ar.e Cz;cases B5:(!Cx)
  ·refine AB3 14 false (ADp AL8 rfl (AB3 14 false (AB6 ARc rfl ((Am.b p0).cell (i:=2) rfl) (AB3 14 false (ADh AOm rfl H7 (AB3 14 false (ACu rfl rfl (AB0 rfl (Wo ?_)))))))));have B6:=AH8 B4 B5;by_cases Av:(a8.length:Int) < 1
   ·rw [decide_eq_true Av];refine AFl 20 true (AB2 rfl (ABt (ACd rfl (ABp (ACk (ABv ?_))))));obtain rfl:=ABo (ifT B6 Av);refine ABx (AB4 ?_);have Bc:=Kst.anil AQf 44 Am;obtain rfl:=ABo Au;exact ⟨_,ADj,Bc.x,_,_,rfl,(Bc.o p0),Bc.s.sel [0] (by decide)⟩
   ·have B7:=ifF B6 Av;rw [decide_eq_false Av];refine AB3 20 false (ADp AL8 rfl (AB3 20 false (AB6 ARc rfl ((Am.b p0).cell (i:=2) rfl) (AB3 20 false (ADh AOm rfl H7 (AB3 20 false (AGz rfl rfl (AB0 rfl (ABt (⟨_,rfl,fun Be=>?_,fun Be=>?_⟩))))))))))
    ·refine ABp (ACk (ABv ?_));obtain rfl:=ABo (AC8 B7 Be);refine ABx (AB4 ?_);have Bf:=Kst.anil AQf 44 Am;obtain rfl:=ABo Au;exact ⟨_,ADj,Bf.x,_,_,rfl,(Bf.o p0),Bf.s.sel [0] (by decide)⟩
    ·refine ABy (q_t ?_);exact ⟨(():Unit),⟨ABo (AC9 B7 Be),Am⟩,trivial⟩
  ·refine AFl 14 true (AB2 rfl (Wo (AFl 20 true (AB2 rfl (ABt (ACd rfl (ABp (ACk (ABv ?_)))))))));obtain rfl:=ABo (ifT B4 B5);refine ABx (AB4 ?_);have Bg:=Kst.anil AQf 44 Am;obtain rfl:=ABo Au;exact ⟨_,ADj,Bg.x,_,_,rfl,(Bg.o p0),Bg.s.sel [0] (by decide)⟩
 rintro ⟨⟩ Fa Fb ⟨C1,B8⟩;subst C1;refine ABp (ABv (ABr (ABp (ADp AL8 rfl (AB6 ARc rfl ((B8.b p0).cell (i:=2) rfl) (ADh AOm rfl H7 (Wo (ABt (ABw ?_)))))))));have B9:=Kst.anil AQf 44 B8;obtain ⟨Ag,C2,Ah⟩:=ABq Au;obtain ⟨C3,C4,C5⟩:=ACe C2;refine ACq 2722258935367507707706996859453608821756 (fun x:((List AQd)) × (Value) × LnA × (Int)=>[(4,x.2.1),(29,(.int .i64 x.2.2.2))]) (fun k x h'=>iter C3 k (x.1,x.2.2.2)=some Ag/\Kst h h' (B9.L.set 0 (aO AQf 44 x.2.2.1 x.2.1 x.1))) (by kernel_rfl) fuel (([],(.slice none 0 0),[],0):((List AQd)) × (Value) × LnA × (Int)) ?_ ⟨rfl,rfl,trivial⟩ ?_
 ·exact ⟨C5,B9⟩
 rintro Fc ⟨Bh,C6,C7,Bi⟩ Fd Fe ⟨C8,Ao⟩;obtain ⟨C9,Ff,rfl,Ap,Ab⟩:=AB7 C8;rw [C4] at Ap;dsimp only at Ap;unfold AOd at Ap;refine ABp (ACu rfl rfl (ABt (ABr (⟨_,rfl,fun Bj=>?_,fun Bj=>?_⟩))))
 ·refine ABy (q_t (ABr (ABw (ABp (Wo ?_)))));obtain ⟨Aa,Da,Db⟩:=ABq (AC8 Ap Bj);refine AHe (c:=AQe) AOm rfl H7 rfl Da fun Fg Fh Fi Dc Dd=>?_;obtain rfl:=Dc;refine AOl (c:=AQe) AO4 rfl rfl (fun j u hu=>(AB1 (Dd j u hu) Ao.x)) (ADi [(.int .i64 0),(.int .i64 0),(.int .i64 0),(.int .i64 0),(.int .i64 0)] AWc rfl trivial tt2 fun Fj Fk De Df Dg=>ACk ?_);have Ca:=Ao.nb Df Dg De;refine AC7 [(.int .i64 Aa.1),(.int .i64 Aa.2.1),(.int .i64 Aa.2.2.1),(.int .i64 Aa.2.2.2.1),(.int .i64 Aa.2.2.2.2)] AO4 rfl rfl rfl rfl (by simp [isOne]) (Ca.b p0) fun Fl Dh Di=>ABt ?_;have Ac:=Ca.sb p0 Di Dh rfl;obtain ⟨Dj,Cb,Ai⟩:=ABq Db;refine ALi 36893488130239234060 (fun x:Unit=>[]) (fun x h'=>(Sum.inr <| ())=Dj/\Kst h h' (Ac.L)) ?_ ?_
  ·refine ABp (ADp AW2 rfl (AB6 ADs rfl ((Ac.b p0).cell (i:=1) rfl) (AEn rfl rfl (Wo ?_))));by_cases Aw: ¬ Aa.2.1=1
   ·rw [decide_eq_true Aw];refine AE2 37 true (AB2 rfl (Wo (AE2 42 true (AB2 rfl (Wo (AE2 47 true (AB2 rfl (Wo (AE2 52 true (AB2 rfl (Wo (AFe 57 true (AWs 57 true (AB2 rfl (ABt (ACd rfl (ABp (ACk (ABv ?_)))))))))))))))))));obtain rfl:=ABo (ifT Cb Aw);obtain rfl:=ABo Ai;change _=Ag at Ab;subst Ab;refine ABx (AB4 (ADe (AB4 (AB4 (ADe (AB4 ?_))))));have Bl:=Kst.anil AQf 44 Ac;obtain rfl:=ABo Ah;exact ⟨_,ADj,Bl.x,_,_,rfl,(Bl.o p0),Bl.s.sel [0] (by decide)⟩
   ·have Cd:=ifF Cb Aw;rw [decide_eq_false Aw];refine AB3 37 false (ADp AJ2 rfl (AB3 37 false (AB6 ADs rfl ((Ac.b p0).cell (i:=0) rfl) (AB3 37 false (ACu rfl rfl (AB0 rfl (Wo ?_)))))));by_cases Ax:Aa.1 < 0
    ·rw [decide_eq_true Ax];refine AE2 42 true (AB2 rfl (Wo (AE2 47 true (AB2 rfl (Wo (AE2 52 true (AB2 rfl (Wo (AFe 57 true (AWs 57 true (AB2 rfl (ABt (ACd rfl (ABp (ACk (ABv ?_))))))))))))))));obtain rfl:=ABo (ifT Cd Ax);obtain rfl:=ABo Ai;change _=Ag at Ab;subst Ab;refine ABx (AB4 (ADe (AB4 (AB4 (ADe (AB4 ?_))))));have Bm:=Kst.anil AQf 44 Ac;obtain rfl:=ABo Ah;exact ⟨_,ADj,Bm.x,_,_,rfl,(Bm.o p0),Bm.s.sel [0] (by decide)⟩
    ·have Ce:=ifF Cd Ax;rw [decide_eq_false Ax];refine AB3 42 false (ADp AJ2 rfl (AB3 42 false (AB6 ADs rfl ((Ac.b p0).cell (i:=0) rfl) (AB3 42 false (AGz rfl rfl (AB0 rfl (Wo ?_)))))));by_cases Ay:60 < Aa.1
     ·rw [decide_eq_true Ay];refine AE2 47 true (AB2 rfl (Wo (AE2 52 true (AB2 rfl (Wo (AFe 57 true (AWs 57 true (AB2 rfl (ABt (ACd rfl (ABp (ACk (ABv ?_)))))))))))));obtain rfl:=ABo (ifT Ce Ay);obtain rfl:=ABo Ai;change _=Ag at Ab;subst Ab;refine ABx (AB4 (ADe (AB4 (AB4 (ADe (AB4 ?_))))));have Bn:=Kst.anil AQf 44 Ac;obtain rfl:=ABo Ah;exact ⟨_,ADj,Bn.x,_,_,rfl,(Bn.o p0),Bn.s.sel [0] (by decide)⟩
     ·have Cf:=ifF Ce Ay;rw [decide_eq_false Ay];refine AB3 47 false (ADp ATr rfl (AB3 47 false (AB6 ACx rfl ((Ac.b p0).cell (i:=3) rfl) (AB3 47 false (AEn rfl rfl (AB0 rfl (Wo ?_)))))));by_cases Az: ¬ Aa.2.2.2.1=0
      ·rw [decide_eq_true Az];refine AE2 52 true (AB2 rfl (Wo (AFe 57 true (AWs 57 true (AB2 rfl (ABt (ACd rfl (ABp (ACk (ABv ?_))))))))));obtain rfl:=ABo (ifT Cf Az);obtain rfl:=ABo Ai;change _=Ag at Ab;subst Ab;refine ABx (AB4 (ADe (AB4 (AB4 (ADe (AB4 ?_))))));have Bo:=Kst.anil AQf 44 Ac;obtain rfl:=ABo Ah;exact ⟨_,ADj,Bo.x,_,_,rfl,(Bo.o p0),Bo.s.sel [0] (by decide)⟩
      ·have Cg:=ifF Cf Az;rw [decide_eq_false Az];refine AB3 52 false (ADp AVh rfl (AB3 52 false (AB6 ACx rfl ((Ac.b p0).cell (i:=4) rfl) (AB3 52 false (AEn rfl rfl (AB0 rfl (Wo ?_)))))));by_cases A3: ¬ Aa.2.2.2.2=0
       ·rw [decide_eq_true A3];refine AFe 57 true (AWs 57 true (AB2 rfl (ABt (ACd rfl (ABp (ACk (ABv ?_)))))));obtain rfl:=ABo (ifT Cg A3);obtain rfl:=ABo Ai;change _=Ag at Ab;subst Ab;refine ABx (AB4 (ADe (AB4 (AB4 (ADe (AB4 ?_))))));have Bp:=Kst.anil AQf 44 Ac;obtain rfl:=ABo Ah;exact ⟨_,ADj,Bp.x,_,_,rfl,(Bp.o p0),Bp.s.sel [0] (by decide)⟩
       ·rw [decide_eq_false A3];refine AB3 57 false (ADp AOe rfl (AB3 57 false (AB6 ACx rfl ((Ac.b p0).cell (i:=2) rfl) (AB3 57 false (ADp AL7 rfl (AB3 57 false (AB6 ACx rfl ((Ac.b p2).cell (i:=0) rfl) (AB3 57 false ?_))))))));obtain ⟨Dk,Ch⟩:=ifN (ifF Cg A3);refine AHh rfl rfl Dk (AB3 57 false (AD8 rfl rfl (AB0 rfl (ABt (⟨_,rfl,fun Bq=>?_,fun Bq=>?_⟩)))))
        ·refine ABp (ACk (ABv ?_));obtain rfl:=ABo (AC8 Ch Bq);obtain rfl:=ABo Ai;change _=Ag at Ab;subst Ab;refine ABx (AB4 (ADe (AB4 (AB4 (ADe (AB4 ?_))))));have Br:=Kst.anil AQf 44 Ac;obtain rfl:=ABo Ah;exact ⟨_,ADj,Br.x,_,_,rfl,(Br.o p0),Br.s.sel [0] (by decide)⟩
        ·refine ABy (q_t ?_);exact ⟨(():Unit),⟨ABo (AC9 Ch Bq),Ac⟩,trivial⟩
  rintro ⟨⟩ Fm Fo ⟨Dl,Aj⟩;subst Dl;obtain ⟨Dn,Ci,Cj⟩:=ABq Ai;refine ALi 604426016319167168249868 (fun x:Unit=>[]) (fun x h'=>(Sum.inr <| ())=Dn/\Kst h h' (Aj.L)) ?_ ?_
  ·refine ABr (AKm (Wo (AGz rfl rfl (Wo ?_))));by_cases A4:0 < Bi
   ·rw [decide_eq_true A4];refine AB3 67 true (ADp AJ2 rfl (AB3 67 true (AB6 ADs rfl ((Aj.b p0).cell (i:=0) rfl) (AB3 67 true (ADp AL8 rfl (AB3 67 true (AB6 ARc rfl ((Aj.b p2).cell (i:=2) rfl) (AB3 67 true (Wo (AB3 67 true (AIf rfl rfl (AB3 67 true ?_))))))))))));obtain ⟨Fp,Do,Ck⟩:=ABq (ifT Ci A4);refine AHe (c:=AQe) AOm rfl H7 rfl Do fun Fq Fr Ft Dp Dq=>?_;obtain rfl:=Dp;refine AB3 67 true (ADp AJ2 rfl (AB3 67 true (AB6 ADs rfl (AB1 (Dq 0 _ rfl) Aj.x) (AB3 67 true (ACu rfl rfl (AB2 rfl (ABt (⟨_,rfl,fun Bt=>?_,fun Bt=>?_⟩))))))))
    ·refine ABp (ACk (ABv ?_));obtain rfl:=ABo (AC8 Ck Bt);obtain rfl:=ABo Cj;change _=Ag at Ab;subst Ab;refine ABx (AB4 (ADe (AB4 (AB4 (ADe (AB4 ?_))))));have Bu:=Kst.anil AQf 44 Aj;obtain rfl:=ABo Ah;exact ⟨_,ADj,Bu.x,_,_,rfl,(Bu.o p0),Bu.s.sel [0] (by decide)⟩
    ·refine ABy (q_t ?_);exact ⟨(():Unit),⟨ABo (AC9 Ck Bt),Aj⟩,trivial⟩
   ·rw [decide_eq_false A4];refine AFe 67 false (AFe 67 false (AB0 rfl (ABt (ACo rfl (ABy (q_t ?_))))));exact ⟨(():Unit),⟨ABo (ifF Ci A4),Aj⟩,trivial⟩
  rintro ⟨⟩ Fu Fv ⟨Dr,Ad⟩;subst Dr;obtain ⟨Ds,Cm,Dt⟩:=ABq Cj;refine ALi 633824695651204893433764249616 (fun x:((List AQd)) × (Value) × LnA=>[(4,x.2.1)]) (fun x h'=>( x.1)=Ds/\Kst h h' (Ad.L.set 1 (aO AQf 44 x.2.2 x.2.1 x.1))) ?_ ?_
  ·refine ABr (AKm (Wo (AD8 rfl rfl (Wo ?_))));by_cases A5:Bi=0
   ·rw [decide_eq_true A5];refine AFe 81 true (AFe 81 true (AB2 rfl (ABt (ACd rfl (AB5 (Wo (ADp AJ2 rfl (AB6 ADs rfl ((Ad.b p0).cell (i:=0) rfl) (AF6 (v:=(.agg #[(.int .i64 Aa.1),(.int .i64 0),(.int .i64 1),(.bool false),(.int .i64 0)])) (fun _=>by kernel_rfl) ?_)))))))));obtain ⟨Du,Dv⟩:=ifN (ifT Cm A5);refine AM2 AVz Agb rfl rfl trivial tt2 (fun _=>rfl) rfl (show (AQf).rep _ (Aa.1,0,1,false,0) [(.int .i64 Aa.1),(.int .i64 0),(.int .i64 1),(.bool false),(.int .i64 0)] from rfl) (Ad.o p1) (by decide) Du fun Fw Dw Dx Fx Dy Dz D0=>ABv ?_;exact ⟨(((Bh ++ [(Aa.1,0,1,false,0)]),Dx,Dw):((List AQd)) × (Value) × LnA),⟨ABo Dv,(Ad.uo p1 Dz Dy D0)⟩,rfl,trivial⟩
   ·rw [decide_eq_false A5];refine AB3 81 false (ADp AJ2 rfl (AB3 81 false (AB6 ADs rfl ((Ad.b p0).cell (i:=0) rfl) (AB3 81 false (ADp AL8 rfl (AB3 81 false (AB6 ARc rfl ((Ad.b p2).cell (i:=2) rfl) (AB3 81 false (Wo (AB3 81 false (AIf rfl rfl (AB3 81 false ?_))))))))))));obtain ⟨Fy,D1,Cn⟩:=ABq (ifF Cm A5);refine AHe (c:=AQe) AOm rfl H7 rfl D1 fun Fz F4 F5 D2 D3=>?_;obtain rfl:=D2;refine AB3 81 false (ADp AJ2 rfl (AB3 81 false (AB6 ADs rfl (AB1 (D3 0 _ rfl) Ad.x) (AB3 81 false (AGz rfl rfl (AB0 rfl (ABt (⟨_,rfl,fun Bv=>?_,fun Bv=>?_⟩))))))))
    ·refine AB5 (Wo (ADp AJ2 rfl (AB6 ADs rfl ((Ad.b p0).cell (i:=0) rfl) (AF6 (v:=(.agg #[(.int .i64 Aa.1),(.int .i64 0),(.int .i64 1),(.bool false),(.int .i64 0)])) (fun _=>by kernel_rfl) ?_))));obtain ⟨D4,D5⟩:=ifN (AC8 Cn Bv);refine AM2 AVz Agb rfl rfl trivial tt2 (fun _=>rfl) rfl (show (AQf).rep _ (Aa.1,0,1,false,0) [(.int .i64 Aa.1),(.int .i64 0),(.int .i64 1),(.bool false),(.int .i64 0)] from rfl) (Ad.o p1) (by decide) D4 fun F6 D6 D7 F7 D8 D9 Ea=>ABv ?_;exact ⟨(((Bh ++ [(Aa.1,0,1,false,0)]),D7,D6):((List AQd)) × (Value) × LnA),⟨ABo D5,(Ad.uo p1 D9 D8 Ea)⟩,rfl,trivial⟩
    ·refine ABy (q_t ?_);exact ⟨((Bh,C6,C7):((List AQd)) × (Value) × LnA),⟨ABo (AC9 Cn Bv),Ad⟩,rfl,trivial⟩
  rintro ⟨Bw,Eb,Ec⟩ F8 F9 ⟨Ed,A6⟩;subst Ed;refine ABr (AKm (ADp AOe rfl (AB6 ACx rfl ((A6.b p0).cell (i:=2) rfl) (ADp AL7 rfl (AB6 ACx rfl ((A6.b p2).cell (i:=0) rfl) ?_)))));obtain ⟨Ee,Ef⟩:=ifN Dt;refine AHh rfl rfl Ee (ADp AL7 rfl (AB6 ACx rfl ((A6.b p2).cell (i:=0) rfl) ?_));obtain ⟨⟨Co,Ga⟩,Eg,Cp⟩:=ABq Ef;dsimp only at Cp;refine ADb rfl (AU9 Eg) fun Gb Gc Eh Ei=>?_;subst Ei;refine Wo (ADm rfl rfl (ADm rfl rfl (ACk (AC1 (Wo (Wo ?_))))));have Aq:=A6.e Eh;refine ADh AVz rfl (Aq.o p1).rd (AIf rfl rfl ?_);obtain ⟨Ae,Bx,Ej⟩:=ABq Cp;refine AYl AVz rfl (Aq.o p1) rfl Bx fun Gd A7=>AC1 (Wo (AJ8 rfl (ADp Ahw rfl ?_)));obtain ⟨Ge,Ek,El⟩:=(Aq.o p1).cells A7 Bx;obtain rfl:=Ek;refine AB6 ADs rfl (El 1 _ rfl) (ACz rfl rfl (AJ8 rfl (ADp Ahw rfl (Amj (c:=AQf) (a':=(Ae.1,(w64 (Ae.2.1 + 1)),Ae.2.2.1,Ae.2.2.2.1,Ae.2.2.2.2)) ADs rfl rfl rfl (by decide) (Aq.o p1) A7 Bx (fun _ q=>by cases q;rfl) fun Gf Em En=>ABt (AB5 (Wo (AJ8 rfl (ADp Ahx rfl ?_))))))));have By:=Aq.uO p1 En Em;obtain ⟨Af,Cq,Eo⟩:=ABq Ej;obtain ⟨Gg,Ep,Er⟩:=(By.o p1).cells A7 Cq;obtain rfl:=Ep;refine AB6 ADs rfl (Er 2 _ rfl) (Wo (AQ3 rfl rfl (AJ8 rfl (ADp Ahx rfl (Amj (c:=AQf) (a':=(Af.1,Af.2.1,(w64 (Af.2.2.1 * Co)),Af.2.2.2.1,Af.2.2.2.2)) ADs rfl rfl rfl (by decide) (By.o p1) A7 Cq (fun _ q=>by cases q;rfl) fun Gh Es Et=>ACr (q_b (q_t (AB5 (ACz rfl rfl (Wo (ABt ?_)))))))))));obtain rfl:=ABo Eo;exact ⟨C9,(((sI (sI Bw (w64 ((Bw.length:Int) - 1)) (Ae.1,(w64 (Ae.2.1 + 1)),Ae.2.2.1,Ae.2.2.2.1,Ae.2.2.2.2)) (w64 ((Bw.length:Int) - 1)) (Af.1,Af.2.1,(w64 (Af.2.2.1 * Co)),Af.2.2.2.1,Af.2.2.2.2)),Eb,Ec,(w64 (Bi + 1))):((List AQd)) × (Value) × LnA × (Int)),Nat.lt_succ_self _,⟨Ab,(By.uO p1 Et Es).sel [1,2] (by decide)⟩,rfl,rfl,trivial⟩
 ·obtain rfl:=ABo (AC9 Ap Bj);change _=Ag at Ab;subst Ab;refine ACh (ACj (ACj (ADo (q_t (ABp (Wo (ACk (ABv (ABx ?_)))))))));obtain rfl:=ABo Ah;exact ⟨_,ADj,Ao.x,_,_,rfl,(Ao.o p0),Ao.s.sel [0] (by decide)⟩
noncomputable def AD1 (fuel:Nat):Option Bool:=
  ((AJ7 fuel 3 ([([1,4]:List Int),([0,1]:List Int)]:List LiA) ([(0,1,2,0,0),(1,1,2,0,0)]:List AJr)).bind fun (Aa,Ab)=>((AMf fuel ([([2,1]:List Int),([1,2]:List Int)]:List LiA) 3).bind fun (Ac,Ad)=>(if Ab=true then (if Ac=2 then (if Ad=0 then ((AHd fuel ([([2,1]:List Int),([1,2]:List Int)]:List LiA) 3 ([([1,4]:List Int),([0,1]:List Int)]:List LiA) ([(0,1,2,0,0),(1,1,2,0,0)]:List AJr)).bind fun Ae=>(if Ae=0 then ((ALb fuel Aa ([(0,1,(-1),false,0),(1,1,(-1),false,0)]:List AQd)).bind fun Af=>(some Af)) else (some false))) else (some false)) else (some false)) else (some false))))
theorem AG7 {fuel:Nat} {h:ABu} {r:Bool} (HO:AVs h) (hp:AD1 fuel=some r):ACn Tryz.prog 11 #[] h (fun x h'=>Ext h h'/\x= .bool r):=by
 unfold AD1 at hp;refine cwf (l:=[]) Tryz.func11 rfl rfl (ABp (AC1 (Ac3 (κ:= .i64) [2,1] ACs AMw rfl rfl trivial tt2 rfl rfl rfl rfl fun b1 v2 h3 I4 E5 A6 A7=>Ac3 (κ:= .i64) [1,2] ACs AMw rfl rfl trivial tt2 rfl rfl rfl rfl fun A8 A9 C3 Ba Bb Bc Be=>?_)));have Ab:=((Kst.k0 h).no E5 (AIj A6 A7) I4).no Bb (AIj Bc Be) Ba;have Aq:=(((Ab.a0).grab p1).grab p0);refine Acj (c:=(cI .i64)) (el:=2) [[b1],[A8]] [v2,A9] [([2,1]:List Int),([1,2]:List Int)] ACi AN2 rfl rfl trivial tt2 rfl rfl rfl rfl (ARu (Ab.o p1).isOne (ARu (Ab.o p0).isOne Adv)) ⟨(Ab.o p1),(Ab.o p0),trivial⟩ (by simpa using Aq.ndT) fun C4 C5 C6 Bf Bg Bh=>AC1 (Ac3 (κ:= .i64) [1,4] ACs AMw rfl rfl trivial tt2 rfl rfl rfl rfl fun Bi Bj C7 Bl Bm Bn Bo=>Ac3 (κ:= .i64) [0,1] ACs AMw rfl rfl trivial tt2 rfl rfl rfl rfl fun Bp Bq C8 Br Bt Bu Bv=>?_);have Ac:=((Aq.lit Bg Bf (by simpa using Bh)).no Bm (AIj Bn Bo) Bl).no Bt (AIj Bu Bv) Br;have Ar:=(((Ac.a0).grab p1).grab p0);refine Acj (c:=(cI .i64)) (el:=2) [[Bi],[Bp]] [Bj,Bq] [([1,4]:List Int),([0,1]:List Int)] ACi AN2 rfl rfl trivial tt2 rfl rfl rfl rfl (ARu (Ac.o p1).isOne (ARu (Ac.o p0).isOne Adv)) ⟨(Ac.o p1),(Ac.o p0),trivial⟩ (by simpa using Ar.ndT) fun C9 Ae Da Bw Bx By=>AF6 (v:=(.agg #[(.int .i64 0),(.int .i64 1),(.int .i64 2),(.int .i64 0),(.int .i64 0)])) (fun _=>by kernel_rfl) (AF6 (v:=(.agg #[(.int .i64 1),(.int .i64 1),(.int .i64 2),(.int .i64 0),(.int .i64 0)])) (fun _=>by kernel_rfl) (Aor AQe ([(0,1,2,0,0),(1,1,2,0,0)]:List AJr) [[(.int .i64 0),(.int .i64 1),(.int .i64 2),(.int .i64 0),(.int .i64 0)],[(.int .i64 1),(.int .i64 1),(.int .i64 2),(.int .i64 0),(.int .i64 0)]] [(0,(.agg #[(.int .i64 0),(.int .i64 1),(.int .i64 2),(.int .i64 0),(.int .i64 0)])),(1,(.agg #[(.int .i64 1),(.int .i64 1),(.int .i64 2),(.int .i64 0),(.int .i64 0)]))] AOm AWc rfl trivial tt2 rfl rfl rfl (by kernel_rfl) rfl (AZh (fun _=>rfl) (AZh (fun _=>rfl) Ai4)) fun Db Af Dc Bz B1 B3 B4=>?_));have Ak:=(Ar.lit Bx Bw (by simpa using By)).no B1 (AIj B3 B4) Bz;obtain ⟨_,_,_,B5⟩:=(Ak.o2 p1).rd.shape;obtain ⟨_,_,_,B6⟩:=(Ak.o p0).rd.shape;refine AF6 (v:=(.agg #[(.int .i64 3),Ae,Af])) (fun _=>by subst B5;subst B6;kernel_rfl) (ADi [(.int .i64 0),(.slice none 0 0),(.slice none 0 0)] Asf rfl trivial tt2 fun Dd De B7 B8 B9=>?_);have Ag:=Ak.nb B8 B9 B7;refine AC7 [(.int .i64 3),Ae,Af] ATq rfl rfl rfl rfl (ARu rfl (ARu (Ag.o2 p2).isOne (ARu (Ag.o p1).isOne Adv))) (Ag.b p0) fun Df Ca Cb=>AK0 ?_;have Ad:=Ag.sb p0 Cb Ca rfl;refine AEu [(.int .i64 3),Ae,Af] ATq rfl rfl (Ad.b p0).agg ?_;obtain ⟨⟨Dg,Cd⟩,Ce,Au⟩:=ABq hp;dsimp only at Au;refine ADb rfl (ASr (Ad.o2 p2).rd (Ad.o p1).rd (HO.ext Ad.x) Ce) fun Dh Di Cf Cg=>?_;obtain ⟨Dj,Dk,rfl,Ch,Ci⟩:=Cg;refine Wo (ADm rfl rfl (ADm rfl rfl (ACk (AC1 (Wo ?_)))));have Am:=Ad.no Cf Ci Ch;obtain ⟨⟨Cj,Ck⟩,Cm,Ao⟩:=ABq Au;dsimp only at Ao;refine ADb rfl (AUi (Am.o2 p6).rd (HO.ext Am.x) Cm) fun Dl Dn Cn Co=>?_;subst Co;refine Wo (ADm rfl rfl (ADm rfl rfl (ACk (AC1 (Wo (Wo ?_))))));have Aa:=Am.e Cn;cases Av:Cd
 ·refine AIg 28 false (AB0 rfl (Wo (AIg 32 false (AB0 rfl (Wo (AFl 36 false (AB0 rfl (Wo (AFe 42 false (AB0 rfl (ABv (ABx ?_))))))))))));obtain rfl:=ABo (AH8 Ao Av);exact ⟨_,ABz,Aa.x,rfl⟩
 ·refine AB3 28 true (Wo (AB3 28 true (AD8 rfl rfl (AB2 rfl (Wo ?_)))));have Aw:=ifT Ao Av;by_cases Ah:Cj=2
  ·have Ax:=ifT Aw Ah;rw [decide_eq_true Ah];refine AB3 32 true (Wo (AB3 32 true (AD8 rfl rfl (AB2 rfl (Wo ?_)))));by_cases Ai:Ck=0
   ·rw [decide_eq_true Ai];refine AB3 36 true (Wo (AB3 36 true (AEu [(.int .i64 3),Ae,Af] ATq rfl rfl (Aa.b p1).agg (AB3 36 true ?_))));obtain ⟨Cp,Cq,Ay⟩:=ABq (ifT Ax Ai);refine ADb rfl (AOj (Aa.o2 p6).rd (Aa.o2 p3).rd (Aa.o p2).rd (HO.ext Aa.x) Cq) fun Do Dp Cr Ct=>?_;subst Ct;refine AB3 36 true (AD8 rfl rfl (AB2 rfl (Wo ?_)));have Az:=Aa.e Cr;by_cases Aj:Cp=0
    ·rw [decide_eq_true Aj];refine AB3 42 true (Wo (AB3 42 true (AF6 (v:=(.agg #[(.int .i64 0),(.int .i64 1),(.int .i64 (-1)),(.bool false),(.int .i64 0)])) (fun _=>by kernel_rfl) (AB3 42 true (AF6 (v:=(.agg #[(.int .i64 1),(.int .i64 1),(.int .i64 (-1)),(.bool false),(.int .i64 0)])) (fun _=>by kernel_rfl) (AB3 42 true (Aor AQf ([(0,1,(-1),false,0),(1,1,(-1),false,0)]:List AQd) [[(.int .i64 0),(.int .i64 1),(.int .i64 (-1)),(.bool false),(.int .i64 0)],[(.int .i64 1),(.int .i64 1),(.int .i64 (-1)),(.bool false),(.int .i64 0)]] [(0,(.agg #[(.int .i64 0),(.int .i64 1),(.int .i64 (-1)),(.bool false),(.int .i64 0)])),(1,(.agg #[(.int .i64 1),(.int .i64 1),(.int .i64 (-1)),(.bool false),(.int .i64 0)]))] AVz Agb rfl trivial tt2 rfl rfl rfl (by kernel_rfl) rfl (AZh (fun _=>rfl) (AZh (fun _=>rfl) Ai4)) fun Dq Dr Ds Cu Cv Cw Cx=>AB3 42 true ?_)))))));have Ap:=Az.no Cv (AIj Cw Cx) Cu;obtain ⟨Dt,Cy,Cz⟩:=ABq (ifT Ay Aj);refine ADb rfl (AQx (Ap.o p1).rd (Ap.o p0).rd Cy) fun Du Dv C0 C1=>?_;subst C1;refine AB2 rfl (ABv (ABx ?_));obtain rfl:=ABo Cz;exact ⟨_,ABz,(Ap.e C0).x,rfl⟩
    ·rw [decide_eq_false Aj];refine AFe 42 false (AB0 rfl (ABv (ABx ?_)));obtain rfl:=ABo (ifF Ay Aj);exact ⟨_,ABz,Az.x,rfl⟩
   ·rw [decide_eq_false Ai];refine AFl 36 false (AB0 rfl (Wo (AFe 42 false (AB0 rfl (ABv (ABx ?_))))));obtain rfl:=ABo (ifF Ax Ai);exact ⟨_,ABz,Aa.x,rfl⟩
  ·rw [decide_eq_false Ah];refine AIg 32 false (AB0 rfl (Wo (AFl 36 false (AB0 rfl (Wo (AFe 42 false (AB0 rfl (ABv (ABx ?_)))))))));obtain rfl:=ABo (ifF Aw Ah);exact ⟨_,ABz,Aa.x,rfl⟩
end Go.Proofs.YtdnbklmefmoofaaGreatDoor
namespace Go.Proofs.YtdnbklmefmoofaaGreatDoor
open Go Go.QF
set_option maxRecDepth 100000
theorem pr3:Pr 3:=⟨by omega,fun d h1 h2=>by
  obtain rfl:d=2:=by omega
  decide⟩
theorem Ave:AYz 3=true:=by simp [AYz,pr3]
theorem Arv:isRed [[2,1],[1,2]]=true:=by
 unfold isRed
 rw [<- AIl (M:=[[2,1],[1,2]]) ⟨by decide,by decide,fun i j hi hj=>by
   have hi:i < 2:=hi
   have hj:j < 2:=hj
   rcases (by omega:i=0∨i=1) with rfl | rfl <;> rcases (by omega:j=0∨j=1) with rfl | rfl <;> decide⟩]
 decide +kernel
theorem Avf:Adq 3 3 1:=⟨1,1,rfl,by decide,by decide⟩
theorem Adw:AD1 (AE3 + 1)=some true:=by
 have Aa:100 < AE3 + 1:=Nat.lt_of_le_of_lt (by decide) (Nat.lt_succ_self AE3);have R:=(AYg _).1 Arv;have hd:det 2 (ent [[2,1],[1,2]])=3:=by decide +kernel
 obtain ⟨v,h1,h2,h3,h4⟩:=Acg (fuel:=AE3 + 1) R (p:=3) pr3 (by omega) Aa;obtain rfl:v=1:=Adr (by omega) (by simpa [hd] using h1) Avf;rw [if_neg (by decide)] at h3;have h5:=Aok (fuel:=AE3 + 1) (p:=3) (k:=2) (by omega) (by decide) Aa;unfold AD1 AJ7 AMf AHd APn ATb;simp only [Ave,Arv,h3,Option.bind_some,Bool.not_true,Bool.false_eq_true,reduceIte];decide +kernel
end Go.Proofs.YtdnbklmefmoofaaGreatDoor
namespace Go.Proofs.YtdnbklmefmoofaaGreatDoor
open Go Go.QF
set_option maxRecDepth 100000
set_option maxHeartbeats 4000000
noncomputable def AIe (fuel:Nat) (a3:LiI) (a5 a6:Int) (a9 Ai:LiA) (Ac:Int) (Aa:LiI) (Ab:(List AJr)) (Aj:Bool):Option Bool:=
  ((((AGw fuel a3).bind fun Ak=>(if Ak=true then ((AD1 fuel).bind fun Am=>(some (Sum.inl <| Am))) else ((AGw fuel Aa).bind fun Ao=>(if Ao=true then ((AD1 fuel).bind fun Ap=>(some (Sum.inl <| Ap))) else (if 20 < (Ab.length:Int) then ((AD1 fuel).bind fun Aq=>(some (Sum.inl <| Aq))) else (some (Sum.inr <| ()))))))):Option ((Bool) ⊕ (Unit))).bind (fun ex=>match ex with | Sum.inl Ar=>(some Ar) | Sum.inr (_)=>(if Aj=true then ((AFu fuel a5 a6 a9 Ai 3).bind fun Ae=>((AHd fuel Ae Ac Aa Ab).bind fun Au=>((AFc fuel Ae Ac Aa Ab).bind fun Av=>(if Au=Av then ((AD1 fuel).bind fun Aw=>(some Aw)) else (some false))))) else ((AHd fuel a3 Ac Aa Ab).bind fun Ax=>((AFc fuel a3 Ac Aa Ab).bind fun Ay=>(if Ax=Ay then ((AD1 fuel).bind fun Az=>(some Az)) else (some false)))))))
theorem AQp {fuel:Nat} {h:ABu} {Bb:Value} {a3:LiI} {a5 a6:Int} {Ao:Value} {a9:LiA} {Ap:Value} {Bf:LiA} {Ab:Int} {Ac:Value} {Bg:LiI} {Ad:Value} {Bh:(List AJr)} {Bi r:Bool} (H2:AEq (cI .i64) h Bb a3) (H8:SlC (cI .i8) h Ao a9) (Bz:SlC (cI .i8) h Ap Bf) (Ag:AEq (cI .i64) h Ac Bg) (Ah:SlC AQe h Ad Bh) (HO:AVs h) (hp:AIe fuel a3 a5 a6 a9 Bf Ab Bg Bh Bi=some r):ACn Tryz.prog 4 #[Bb,(.agg #[(.int .u8 a5),(.int .u8 a6),Ao,Ap]),(.agg #[(.int .i64 Ab),Ac,Ad]),(.bool Bi)] h (fun x h'=>Ext h h'/\x= .bool r):=by
 unfold AIe at hp;refine cwf (l:=[_,_,_,_]) Tryz.func4 rfl rfl (ABp (AGo [(.int .u8 a5),(.int .u8 a6),Ao,Ap] trivial tt2 rfl rfl fun Dr Ds B1 B3 B4=>AGo [(.int .i64 Ab),Ac,Ad] trivial tt2 rfl rfl fun Dt Du B5 B6 B7=>ABv ?_));have A4:=((Kst.k0 h).nb B3 B4 B1).nb B6 B7 B5;obtain ⟨B8,B9,Ai⟩:=ABq hp;refine ALi 8388352 (fun x:Unit=>[]) (fun x h'=>(Sum.inr <| ())=B8/\Kst h h' (A4.L)) ?_ ?_
 ·refine ABp (Wo ?_);obtain ⟨Ca,Cb,Bj⟩:=ABq B9;refine ADb rfl (AOa (H2.ext A4.x) Cb) fun Dv Dw Cd Ce=>?_;subst Ce;refine Wo ?_;have Aj:=A4.e Cd;cases Bl:Ca
  ·refine AB3 11 false (ADp AO5 rfl (AB3 11 false (AB6 AS1 rfl ((Aj.b p0).cell (i:=1) rfl) (AB3 11 false ?_))));obtain ⟨Cf,Cg,Bm⟩:=ABq (AH8 Bj Bl);refine ADb rfl (AOa (Ag.ext Aj.x) Cg) fun Dx Dy Ch Ci=>?_;subst Ci;refine AB0 rfl (Wo ?_);have Af:=Aj.e Ch;cases Bn:Cf
   ·refine AB3 16 false (ADp AL8 rfl (AB3 16 false (AB6 ARc rfl ((Af.b p0).cell (i:=2) rfl) (AB3 16 false (ADh AOm rfl Ah (AB3 16 false (AGz rfl rfl (AB0 rfl (ABt ?_)))))))));have Bo:=AH8 Bm Bn;refine ⟨_,rfl,fun A5=>?_,fun A5=>?_⟩
    ·refine ABp ?_;obtain ⟨Dz,Cj,Ck⟩:=ABq (AC8 Bo A5);refine ADb rfl (AG7 (HO.ext Af.x) Cj) fun D0 D1 Cm Cn=>?_;subst Cn;refine ABv ?_;obtain rfl:=ABo Ck;refine ABx (AB4 ?_);obtain rfl:=ABo Ai;exact ⟨_,ABz,(Af.e Cm).x,rfl⟩
    ·refine ABy (q_t ?_);exact ⟨(():Unit),⟨ABo (AC9 Bo A5),Af⟩,trivial⟩
   ·refine AFl 16 true (AB2 rfl (ABt (ACd rfl (ABp ?_))));obtain ⟨D2,Co,Cp⟩:=ABq (ifT Bm Bn);refine ADb rfl (AG7 (HO.ext Af.x) Co) fun D3 D4 Cq Cr=>?_;subst Cr;refine ABv ?_;obtain rfl:=ABo Cp;refine ABx (AB4 ?_);obtain rfl:=ABo Ai;exact ⟨_,ABz,(Af.e Cq).x,rfl⟩
  ·refine AE2 11 true (AB2 rfl (Wo (AFl 16 true (AB2 rfl (ABt (ACd rfl (ABp ?_)))))));obtain ⟨D5,Ct,Cu⟩:=ABq (ifT Bj Bl);refine ADb rfl (AG7 (HO.ext Aj.x) Ct) fun D6 D7 Cv Cw=>?_;subst Cw;refine ABv ?_;obtain rfl:=ABo Cu;refine ABx (AB4 ?_);obtain rfl:=ABo Ai;exact ⟨_,ABz,(Aj.e Cv).x,rfl⟩
 rintro ⟨⟩ D8 A6 ⟨Cx,Aa⟩;subst Cx;refine ABr (ABp (Wo (ABt (⟨_,rfl,fun A7=>?_,fun A7=>?_⟩))))
 ·refine AB5 (AEu [(.int .u8 a5),(.int .u8 a6),Ao,Ap] Anf rfl rfl (Aa.b p1).agg ?_);obtain ⟨D9,Cy,Cz⟩:=ABq (ifT Ai A7);refine ADb rfl (APl (H8.ext Aa.x) (Bz.ext Aa.x) Cy) fun Ea A8 C0 C1=>?_;obtain ⟨Eb,Ec,Ed,Ee,rfl,C2,C3⟩:=C1;refine ABv (ABr (AEd (fun h'=>UpT [] A8 h') (by kernel_rfl) ?_));have Ae:=Aa.no2 C0 C3 C2;have Aq:UpT [] A8 A8:=UpT.start all_nil;refine Wo (AEk [(.int .i64 Ab),Ac,Ad] ATq rfl rfl Aq (fun h' hb=>((Ae.b p1).ext hb.ext).agg) ?_);obtain ⟨C4,C5,C6⟩:=ABq Cz;refine ADg Aq (fun _ E=>Aq.thenE E) rfl (AOj (Ae.o2 p0).rd (Ag.ext Ae.x) (Ah.ext Ae.x) (HO.ext Ae.x) C5) fun Ef Eg Bp C7=>?_;subst C7;refine Wo ?_;have Ar:=Aq.thenE Bp;refine AEk [(.int .i64 Ab),Ac,Ad] ATq rfl rfl Ar (fun h' hb=>((Ae.b p1).ext hb.ext).agg) ?_;have Au:=Ae.e Bp;obtain ⟨C8,C9,Bq⟩:=ABq C6;refine ADg Ar (fun _ E=>Ar.thenE E) rfl (AN1 (Au.o2 p0).rd (Ag.ext Au.x) (Ah.ext Au.x) C9) fun Eh Ei Br Da=>?_;subst Da;refine AD8 rfl rfl (Wo ?_);have Bt:=Ar.thenE Br;have A9:=Au.e Br;by_cases Av:C4=C8
  ·rw [decide_eq_true Av];refine AB3 33 true ?_;obtain ⟨Ej,Db,Dc⟩:=ABq (ifT Bq Av);refine ADg Bt (fun _ E=>Bt.thenE E) rfl (AG7 (HO.ext A9.x) Db) fun Ek El Dd De=>?_;subst De;refine AB2 rfl (ABv (ABx ?_));obtain rfl:=ABo Dc;exact ⟨_,ABz,(A9.e Dd).x,rfl⟩
  ·rw [decide_eq_false Av];refine AWs 33 false (AB0 rfl (ABv (ABx ?_)));obtain rfl:=ABo (ifF Bq Av);exact ⟨_,ABz,A9.x,rfl⟩
 ·refine ABy (q_t (ABr (AEd (fun h'=>UpT [] A6 h') (by kernel_rfl) ?_)));have Aw:UpT [] A6 A6:=UpT.start all_nil;refine Wo (AEk [(.int .i64 Ab),Ac,Ad] ATq rfl rfl Aw (fun h' hb=>((Aa.b p0).ext hb.ext).agg) ?_);obtain ⟨Df,Dg,Dh⟩:=ABq (AH8 Ai A7);refine ADg Aw (fun _ E=>Aw.thenE E) rfl (AOj (H2.ext Aa.x) (Ag.ext Aa.x) (Ah.ext Aa.x) (HO.ext Aa.x) Dg) fun Em En Bu Di=>?_;subst Di;refine Wo ?_;have Ax:=Aw.thenE Bu;refine AEk [(.int .i64 Ab),Ac,Ad] ATq rfl rfl Ax (fun h' hb=>((Aa.b p0).ext hb.ext).agg) ?_;have Ay:=Aa.e Bu;obtain ⟨Dj,Dk,Bv⟩:=ABq Dh;refine ADg Ax (fun _ E=>Ax.thenE E) rfl (AN1 (H2.ext Ay.x) (Ag.ext Ay.x) (Ah.ext Ay.x) Dk) fun Eo Ep Bw Dl=>?_;subst Dl;refine AD8 rfl rfl (Wo ?_);have Bx:=Ax.thenE Bw;have Ba:=Ay.e Bw;by_cases Az:Df=Dj
  ·rw [decide_eq_true Az];refine AB3 33 true ?_;obtain ⟨Er,Dn,Do⟩:=ABq (ifT Bv Az);refine ADg Bx (fun _ E=>Bx.thenE E) rfl (AG7 (HO.ext Ba.x) Dn) fun Es Et Dp Dq=>?_;subst Dq;refine AB2 rfl (ABv (ABx ?_));obtain rfl:=ABo Do;exact ⟨_,ABz,(Ba.e Dp).x,rfl⟩
  ·rw [decide_eq_false Az];refine AWs 33 false (AB0 rfl (ABv (ABx ?_)));obtain rfl:=ABo (ifF Bv Az);exact ⟨_,ABz,Ba.x,rfl⟩
end Go.Proofs.YtdnbklmefmoofaaGreatDoor
namespace Go.Proofs.YtdnbklmefmoofaaGreatDoor
open Go Go.QF
set_option maxRecDepth 100000
theorem Aa2 {g kd p:Int} {Z Y:List Int} {M T:List (List Int)} {L:List AJr} {made:Bool} (hg:0<=g/\g < 256) (hM:Afs M):AIe (AE3 + 1) M g kd Z Y p T L made=some true:=by
 have hf:AE3 < AE3 + 1:=Nat.lt_succ_self _;have Aa:100 < AE3 + 1:=Nat.lt_of_le_of_lt (by decide) hf;have Ad:2147483648 < AE3 + 1:=Nat.lt_of_le_of_lt (by decide) hf;apply ok_eq;unfold AIe;have aw:Ok (AD1 (AE3 + 1)) (· =true):=⟨true,Adw,rfl⟩;refine ABs (Q:=fun ex=>ex= .inl true∨ex= .inr ()) ?_ fun ex hex=>?_
 ·refine ABs (Ach Aa) fun l _=>AB8 (fun _=>ABs aw fun x hx=>ABn (.inl (by rw [hx]))) fun _=>ABs (Ach Aa) fun l _=>AB8 (fun _=>ABs aw fun x hx=>ABn (.inl (by rw [hx]))) fun _=>AB8 (fun _=>ABs aw fun x hx=>ABn (.inl (by rw [hx]))) fun _=>ABn (.inr rfl)
 rcases hex with rfl | rfl
 ·exact ABn rfl
 have key:∀ M:List (List Int),Afs M->Ok ((AHd (AE3 + 1) M p T L).bind fun Ae=>((AFc (AE3 + 1) M p T L).bind fun Af=>(if Ae=Af then ((AD1 (AE3 + 1)).bind fun Ag=>(some Ag)) else (some false)))) (· =true):=fun M hM=>by
   obtain ⟨r,h1,h2⟩:=Aks (p:=p) (T:=T) (L:=L) hM Ad
   rw [h1,h2]
   exact AB8 (fun _=>ABs aw fun x hx=>ABn hx) fun h=>absurd rfl h
 refine AB8 (fun _=>ABs (Atj hg (by decide) hf) fun h hh=>?_) fun _=>key M hM;obtain ⟨n,A,rfl,h1,h2,R,-⟩:=hh;exact key _ (Aod (by omega) R)
end Go.Proofs.YtdnbklmefmoofaaGreatDoor
