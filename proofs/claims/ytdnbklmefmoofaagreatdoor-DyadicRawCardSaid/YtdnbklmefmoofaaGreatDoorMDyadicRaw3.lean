/-
  Texts of a proof, joined. Conditions stand in each statement.
-/
import Derived.Test.YtdnbklmefmoofaaGreatDoorMDyadicRaw2
set_option linter.unusedVariables false
set_option linter.unusedSimpArgs false
namespace Go.Proofs.YtdnbklmefmoofaaGreatDoor
open Go Go.QF
set_option maxRecDepth 100000
set_option maxHeartbeats 4000000
abbrev LnN:=List (List Nat)
abbrev LnA:=List Nat
abbrev LvA:=List Value
abbrev LiI:=List (List Int)
abbrev LiA:=List Int
theorem ABo {α:Type _} {a b:α} (h:some a=some b):a=b:=Option.some.inj h
theorem tt2 {α:Sort _} {β:α->Sort _}:∀ x,β x->True:=fun _ _=>trivial
def AEp (fuel:Nat) (a1 a5:Int):Option Int:=
  ((AS4 fuel a1 a5).bind fun (Ac,Ad,Ae)=>(some Ac))
theorem AJj {fuel:Nat} {h:ABu} {Ag:Value} {a1:Int} {Ai:Value} {a5 r:Int} (H3:ZZ h Ag a1) (H7:ZZ h Ai a5) (hp:AEp fuel a1 a5=some r):ACo Tryz.prog 125 #[Ag,Ai] h (fun x h'=>Ext h h'/\ ∃ (x0:Value),x=x0/\ZZ h' x0 r):=by
 unfold AEp at hp;obtain ⟨Am,rfl,Ao⟩:=H3.cs;obtain ⟨Ap,rfl,Aq⟩:=H7.cs;refine cwf (l:=[_,_]) Tryz.func125 rfl rfl (ABp (AFk Am trivial tt2 rfl rfl fun b9 Bz Aw Ax Ay=>AFk Ap trivial tt2 rfl rfl fun B1 B3 Az A3 A4=>ADj [.bool false,.slice none 0 0] AGm rfl trivial tt2 fun B4 B5 A5 A6 A7=>AK4 ?_));have Aa:=(((Kst.k0 h).nb Ax Ay Aw).nb A3 A4 Az).nb A6 A7 A5;refine AEk Am ACf (cZ.klen (Aa.zx Ao)) rfl (Aa.b p2).agg (AEk Ap ACf (cZ.klen (Aa.zx Aq)) rfl (Aa.b p1).agg ?_);obtain ⟨⟨B6,B7,B8⟩,A8,Ar⟩:=ABq hp;dsimp only at Ar;refine ADc rfl (Abm (Aa.zx Ao).2 (Aa.zx Aq).2 A8) fun B9 Ca A9 Ba=>?_;obtain ⟨Cb,Cd,rfl,Bb,Bc⟩:=Ba;obtain ⟨Af,rfl,Be⟩:=Bb.cs;obtain ⟨Bf,rfl,Bg⟩:=Bc.cs;refine Wo (ADn rfl rfl (ADn rfl rfl (ADn rfl rfl (ADj [.bool false,.slice none 0 0] AGm rfl trivial tt2 fun Ce Cf Bh Bi Bj=>ADj [.bool false,.slice none 0 0] AGm rfl trivial tt2 fun Cg Bl Bm Bn Bo=>?_))));have Ac:=((((Aa.e A9).az Be).az Bg).nb Bi Bj Bh).nb Bn Bo Bm;refine AC6 Af ACf (cZ.klen (Ac.z p3)) (cZ.klen (ACa Bl)) rfl rfl (cZ.one (Ac.z p3)) (Ac.b p1) fun Bp Bq Br=>?_;have Ad:=Ac.sb p1 Br Bq rfl;refine AC6 Bf ACf (cZ.klen (Ad.z p2)) (cZ.klen (ACa Bp)) rfl rfl (cZ.one (Ad.z p2)) (Ad.b p0) fun Bt Bu Bv=>AC4 ?_;have Ab:=Ad.sb p0 Bv Bu rfl;refine AEk Af ACf (cZ.klen (Ab.z p3)) rfl (Ab.b p1).agg (AC6 Af ACf (cZ.klen (Ab.z p3)) (cZ.klen (ACa Bt)) rfl rfl (cZ.one (Ab.z p3)) (Ab.b p4) fun Ch Bw Bx=>ABt (ABx ?_));have Ae:=Ab.sb p4 Bx Bw rfl;obtain rfl:=ABo Ar;exact ⟨_,AEe ACf (cZ.klen (Ae.z p3)) rfl (Ae.b p4),Ae.x,_,rfl,(Ae.z p3).2⟩
def AFq (fuel:Nat) (a1 a5:Int):Option Int:=
  ((AS4 fuel a1 a5).bind fun (Ad,Ac,Ae)=>(some Ac))
theorem APg {fuel:Nat} {h:ABu} {Ag:Value} {a1:Int} {Ai:Value} {a5 r:Int} (H3:ZZ h Ag a1) (H7:ZZ h Ai a5) (hp:AFq fuel a1 a5=some r):ACo Tryz.prog 141 #[Ag,Ai] h (fun x h'=>Ext h h'/\ ∃ (x0:Value),x=x0/\ZZ h' x0 r):=by
 unfold AFq at hp;obtain ⟨Am,rfl,Ao⟩:=H3.cs;obtain ⟨Ap,rfl,Aq⟩:=H7.cs;refine cwf (l:=[_,_]) Tryz.func141 rfl rfl (ABp (AFk Am trivial tt2 rfl rfl fun b9 Bz Aw Ax Ay=>AFk Ap trivial tt2 rfl rfl fun B1 B3 Az A3 A4=>ADj [.bool false,.slice none 0 0] AGm rfl trivial tt2 fun B4 B5 A5 A6 A7=>AK4 ?_));have Aa:=(((Kst.k0 h).nb Ax Ay Aw).nb A3 A4 Az).nb A6 A7 A5;refine AEk Am ACf (cZ.klen (Aa.zx Ao)) rfl (Aa.b p2).agg (AEk Ap ACf (cZ.klen (Aa.zx Aq)) rfl (Aa.b p1).agg ?_);obtain ⟨⟨B6,B7,B8⟩,A8,Ar⟩:=ABq hp;dsimp only at Ar;refine ADc rfl (Abm (Aa.zx Ao).2 (Aa.zx Aq).2 A8) fun B9 Ca A9 Ba=>?_;obtain ⟨Cb,Cd,rfl,Bb,Bc⟩:=Ba;obtain ⟨Be,rfl,Bf⟩:=Bb.cs;obtain ⟨Af,rfl,Bg⟩:=Bc.cs;refine Wo (ADn rfl rfl (ADn rfl rfl (ADn rfl rfl (ADj [.bool false,.slice none 0 0] AGm rfl trivial tt2 fun Ce Cf Bh Bi Bj=>ADj [.bool false,.slice none 0 0] AGm rfl trivial tt2 fun Cg Bl Bm Bn Bo=>?_))));have Ac:=((((Aa.e A9).az Bf).az Bg).nb Bi Bj Bh).nb Bn Bo Bm;refine AC6 Be ACf (cZ.klen (Ac.z p3)) (cZ.klen (ACa Bl)) rfl rfl (cZ.one (Ac.z p3)) (Ac.b p1) fun Bp Bq Br=>?_;have Ad:=Ac.sb p1 Br Bq rfl;refine AC6 Af ACf (cZ.klen (Ad.z p2)) (cZ.klen (ACa Bp)) rfl rfl (cZ.one (Ad.z p2)) (Ad.b p0) fun Bt Bu Bv=>AC4 ?_;have Ab:=Ad.sb p0 Bv Bu rfl;refine AEk Af ACf (cZ.klen (Ab.z p2)) rfl (Ab.b p0).agg (AC6 Af ACf (cZ.klen (Ab.z p2)) (cZ.klen (ACa Bt)) rfl rfl (cZ.one (Ab.z p2)) (Ab.b p4) fun Ch Bw Bx=>ABt (ABx ?_));have Ae:=Ab.sb p4 Bx Bw rfl;obtain rfl:=ABo Ar;exact ⟨_,AEe ACf (cZ.klen (Ae.z p2)) rfl (Ae.b p4),Ae.x,_,rfl,(Ae.z p2).2⟩
def ALp (fuel:Nat) (a1 a2 Aa:Int) (Ac:LiI):Option ((Int × LiI) ⊕ ((LiI))):=
  (if Aa < ((List.replicate (Int.toNat a1) ([]:List Int)).length:Int) then (if 0<=a2/\a2<=100000000 then ((gI Ac Aa).bind fun Ae=>(some (Sum.inl ((w64 (Aa + 1)),(sI Ac Aa (List.replicate (Int.toNat a2) (0:Int))))))) else none) else (some (Sum.inr<| Ac)))
def AE4 (fuel:Nat) (a1 a2:Int):Option LiI:=
  (if 0<=a1/\a1<=100000000 then ((iter (fun s=>ALp fuel a1 a2 s.1 s.2) fuel (0,(List.replicate (Int.toNat a1) ([]:List Int)))).bind (fun (Ac:LiI)=>(some Ac))) else none)
theorem AIw {fuel:Nat} {h:ABu} {a1 a2:Int} {r:LiI} (hp:AE4 fuel a1 a2=some r):ACo Tryz.prog 76 #[(.int .i64 a1),(.int .i64 a2)] h (fun x h'=>Ext h h'/\ ∃ (x0:Value) (F0:List Nat) (Ar:List LnA) (Au:List Value),x=x0/\AFi cZ 100 90 h' F0 Ar Au x0 r/\Sp h' h.size [F0]):=by
 unfold AE4 at hp;refine cwf (l:=[_,_]) Tryz.func76 rfl rfl (ABp (AC4 (Wo ?_)));obtain ⟨Av,Aw⟩:=ifN hp;refine ARf cZ 90 ADv Aeh rfl trivial tt2 rfl rfl (by decide) Av fun Ax Ay Az v9 h7 I8 E5 S6=>ABv (ABr (ABp (Wo ?_)));have Ag:=(Kst.k0 h).no2 E5 S6 I8;refine ADa ADv rfl (Ag.o2 p0).rd (Wo (ABt (ABw ?_)));obtain ⟨Am,A7,A8⟩:=ABq Aw;obtain ⟨A9,Ba,Bb⟩:=ACe A7;refine ACq 1046592 (fun x:(Int) × (LiI) × LnA × LnN × LvA=>[(11,(.int .i64 x.1))]) (fun k x h'=>iter A9 k (x.1,x.2.1)=some Am/\Kst h h' (Ag.L.set 0 (aO2 cZ 100 90 x.2.2.1 x.2.2.2.1 x.2.2.2.2 v9 x.2.1))) (by kernel_rfl) fuel ((0,(List.replicate (Int.toNat a1) ([]:List Int)),Ax,Ay,Az):(Int) × (LiI) × LnA × LnN × LvA) ?_ ⟨rfl,trivial⟩ ?_
 ·exact ⟨Bb,Ag⟩
 rintro Bx ⟨Aa,Bc,By,Ao,Be⟩ Bz B1 ⟨Bf,Ad⟩;obtain ⟨Bg,B3,rfl,Ab,Ah⟩:=AB8 Bf;rw [Ba] at Ab;dsimp only at Ab;unfold ALp at Ab;refine ABp (ACu rfl rfl (ABt (ABr (⟨_,rfl,fun Ai=>?_,fun Ai=>?_⟩))))
 ·refine ABy (q_t (ABr (ABw (ABp (Wo (ABv (AB6 (Wo (Wo (Wo ?_))))))))));obtain ⟨Bh,Bi⟩:=ifN (AC8 Ab Ai);refine Agb AEv AGm rfl trivial tt2 rfl rfl (by decide) Bh fun Ap Bj B4 Bl Bm Bn Bo=>?_;have Ac:=Ad.no Bm (AH8 Bn Bo) Bl;obtain ⟨B5,Aq,Bp⟩:=ABq Bi;refine ADf ADv rfl (Ac.o2 p1) rfl Aq fun Bq B6 Br B7 B8=>ASe AFp (Ac.o2 p1) Aq Br rfl rfl (Ac.o p0) (Ac.dj p0 p1 (by decide)) fun B9 Bt Bu Bv=>ACs (q_b (q_t (AB6 (ACx rfl rfl (Wo (ABt ?_))))));obtain rfl:=ABo Bp;exact ⟨Bg,(((w64 (Aa + 1)),(sI Bc Aa (List.replicate (Int.toNat a2) (0:Int))),(Bq :: (Ao.set (Int.toNat Aa) [Ap]).flatten),(Ao.set (Int.toNat Aa) [Ap]),(Be.set (Int.toNat Aa) Bj)):(Int) × (LiI) × LnA × LnN × LvA),Nat.lt_succ_self _,⟨Ah,(Ac.m2 p0 p1 (by decide) Bu Bt (fun z hz=> .inl (Bv z hz))).sel [1] (by decide)⟩,rfl,trivial⟩
 ·obtain rfl:=ABo (AC9 Ab Ai);change _=Am at Ah;subst Ah;refine ACg (ACi (ACi (ADp (q_t (ABp (Wo (ABv (ABx ?_))))))));obtain rfl:=ABo A8;exact ⟨_,ABz,Ad.x,_,_,_,_,rfl,(Ad.o2 p0),Ad.s.sel [0] (by decide)⟩
def AJk (fuel:Nat) (a3:LiI) (Ab:Int) (Af:LiA) (Aa:Int) (Ac:LiI):Option ((Int × LiI) ⊕ ((LiI))):=
  (if Aa < (Af.length:Int) then ((gI Ac Ab).bind fun Ad=>((gI a3 Ab).bind fun Ag=>((gI Ag Aa).bind fun Ah=>((ALi fuel Ah).bind fun Ai=>((gI Ad Aa).bind fun Aj=>(some (Sum.inl ((w64 (Aa + 1)),(sI Ac Ab (sI Ad Aa Ai)))))))))) else (some (Sum.inr<| Ac)))
def AJl (fuel:Nat) (a3:LiI) (Aa:Int) (Ac:LiI):Option ((Int × LiI) ⊕ ((LiI))):=
  (if Aa < (a3.length:Int) then ((gI a3 Aa).bind fun Ad=>((iter (fun s=>AJk fuel a3 Aa Ad s.1 s.2) fuel (0,Ac)).bind (fun (Ae:LiI)=>(some (Sum.inl ((w64 (Aa + 1)),Ae)))))) else (some (Sum.inr<| Ac)))
def AJm (fuel:Nat) (a3:LiI) (Ab:Int):Option ((Int) ⊕ (((LiI × Bool)) ⊕ (Unit))):=
  (if Ab < (a3.length:Int) then ((gI a3 Ab).bind fun Ac=>(if (Ac.length:Int) < 1 then (some (Sum.inr<| Sum.inl <| ([],false))) else (if 16 < (Ac.length:Int) then (some (Sum.inr<| Sum.inl <| ([],false))) else ((gI a3 0).bind fun Ad=>(if ¬ (Ac.length:Int)=(Ad.length:Int) then (some (Sum.inr<| Sum.inl <| ([],false))) else (some (Sum.inl (w64 (Ab + 1))))))))) else (some (Sum.inr<| Sum.inr <| ())))
def AD5 (fuel:Nat) (a3:LiI):Option (LiI × Bool):=
  (((if (a3.length:Int) < 1 then (some (Sum.inl <| ([],false))) else (if 16 < (a3.length:Int) then (some (Sum.inl <| ([],false))) else (some (Sum.inr <| ())))):Option (((LiI × Bool)) ⊕ (Unit))).bind (fun ex=>match ex with | Sum.inl Ab=>(some Ab) | Sum.inr (_)=>((iter (fun s=>AJm fuel a3 s) fuel 0).bind (fun ex=>match ex with | Sum.inl Ac=>(some Ac) | Sum.inr (_)=>((gI a3 0).bind fun Ad=>((AE4 fuel (a3.length:Int) (Ad.length:Int)).bind fun Ae=>((iter (fun s=>AJl fuel a3 s.1 s.2) fuel (0,Ae)).bind (fun (Af:LiI)=>(some (Af,true))))))))))
theorem ANc {fuel:Nat} {h:ABu} {Bg:Value} {a3:LiI} {r:(LiI × Bool)} (H2:AEq (cI .i64) h Bg a3) (hp:AD5 fuel a3=some r):ACo Tryz.prog 43 #[Bg] h (fun x h'=>Ext h h'/\ ∃ (x0:Value) (F0:List Nat) (B4:List LnA) (B5:List Value),x= .tuple #[x0,.bool r.2]/\AFi cZ 100 90 h' F0 B4 B5 x0 r.1/\Sp h' h.size [F0]):=by
 unfold AD5 at hp;refine cwf (l:=[_]) Tryz.func43 rfl rfl (ABp (ACr (ABv ?_)));have K0:=Kst.k0 h;obtain ⟨B6,Bj,Aw⟩:=ABq hp;refine AL7 130572 (fun x:Unit=>[]) (fun x h'=>(Sum.inr <| ())=B6/\Kst h h' (K0.L)) ?_ ?_
 ·refine ABp (Wo (ADa ACd rfl H2 (ACu rfl rfl (Wo ?_))));by_cases Ao:(a3.length:Int) < 1
  ·rw [decide_eq_true Ao];refine AE3 12 true (AB5 rfl (ABt (ACh rfl (ABp (ACr (ABv ?_))))));obtain rfl:=ABo (ifT Bj Ao);refine ABx (AB2 ?_);have Ax:=Kst.anil2 cZ 100 90 K0;obtain rfl:=ABo Aw;exact ⟨_,ADt,Ax.x,_,_,_,_,rfl,(Ax.o2 p0),Ax.s.sel [0] (by decide)⟩
  ·have Bl:=ifF Bj Ao;rw [decide_eq_false Ao];refine AB4 12 false (Wo (AB4 12 false (ADa ACd rfl H2 (AB4 12 false (AGq rfl rfl (AB0 rfl (ABt (⟨_,rfl,fun Ay=>?_,fun Ay=>?_⟩))))))))
   ·refine ABp (ACr (ABv ?_));obtain rfl:=ABo (AC8 Bl Ay);refine ABx (AB2 ?_);have Az:=Kst.anil2 cZ 100 90 K0;obtain rfl:=ABo Aw;exact ⟨_,ADt,Az.x,_,_,_,_,rfl,(Az.o2 p0),Az.s.sel [0] (by decide)⟩
   ·refine ABy (q_t ?_);exact ⟨(():Unit),⟨ABo (AC9 Bl Ay),K0⟩,trivial⟩
 rintro ⟨⟩ Eb Ec ⟨B7,Bm⟩;subst B7;refine ABr (ABp (Wo (ADa ACd rfl H2 (Wo (ABt (ABw ?_))))));obtain ⟨Af,B8,Ap⟩:=ABq Aw;obtain ⟨B9,Ca,Cb⟩:=ACe B8;refine ACq 2199022731308 (fun x:(Int)=>[(19,(.int .i64 x))]) (fun k x h'=>iter B9 k x=some Af/\Kst h h' (Bm.L)) (by kernel_rfl) fuel (0:(Int)) ?_ ⟨rfl,trivial⟩ ?_
 ·exact ⟨Cb,Bm⟩
 rintro Ed Cd Ee Ef ⟨Ce,Ac⟩;obtain ⟨Cf,Eg,rfl,Ag,Ab⟩:=AB8 Ce;rw [Ca] at Ag;dsimp only at Ag;unfold AJm at Ag;refine ABp (ACu rfl rfl (ABt (ABr (⟨_,rfl,fun A3=>?_,fun A3=>?_⟩))))
 ·refine ABy (q_t (ABr (ABw (ABp ?_))));obtain ⟨Bn,Cg,Bo⟩:=ABq (AC8 Ag A3);refine AFj ACd rfl H2 rfl Cg fun Eh Ei Ej Ch A4=>AB3 AC0 rfl (AB1 Ch Ac.x) (AC4 (Wo (ADi ACp rfl A4 (ACu rfl rfl (Wo ?_)))));by_cases Aq:(Bn.length:Int) < 1
  ·rw [decide_eq_true Aq];refine AE3 26 true (AB5 rfl (Wo (AHn 31 true (AKb 31 true (AB5 rfl (ABt (ACh rfl (ABp (ACr (ABv ?_))))))))));obtain rfl:=ABo (ifT Bo Aq);change _=Af at Ab;subst Ab;refine ABx (ADb (AB2 (AB2 (ADb (AB2 ?_)))));have A5:=Kst.anil2 cZ 100 90 Ac;obtain rfl:=ABo Ap;exact ⟨_,ADt,A5.x,_,_,_,_,rfl,(A5.o2 p0),A5.s.sel [0] (by decide)⟩
  ·have Bp:=ifF Bo Aq;rw [decide_eq_false Aq];refine AB4 26 false (Wo (AB4 26 false (ADi ACp rfl A4 (AB4 26 false (AGq rfl rfl (AB0 rfl (Wo ?_)))))));by_cases Ar:16 < (Bn.length:Int)
   ·rw [decide_eq_true Ar];refine AHn 31 true (AKb 31 true (AB5 rfl (ABt (ACh rfl (ABp (ACr (ABv ?_)))))));obtain rfl:=ABo (ifT Bp Ar);change _=Af at Ab;subst Ab;refine ABx (ADb (AB2 (AB2 (ADb (AB2 ?_)))));have A6:=Kst.anil2 cZ 100 90 Ac;obtain rfl:=ABo Ap;exact ⟨_,ADt,A6.x,_,_,_,_,rfl,(A6.o2 p0),A6.s.sel [0] (by decide)⟩
   ·rw [decide_eq_false Ar];refine AB4 31 false (Wo (AB4 31 false (ADi ACp rfl A4 (AB4 31 false (Wo (AB4 31 false ?_))))));obtain ⟨Ek,Ci,Bq⟩:=ABq (ifF Bp Ar);refine AFj ACd rfl H2 rfl Ci fun El Em En Cj Ck=>AB4 31 false (AB3 AC0 rfl (AB1 Cj Ac.x) (AB4 31 false (ADi ACp rfl Ck (AB4 31 false (AEt rfl rfl (AB0 rfl (ABt (⟨_,rfl,fun A7=>?_,fun A7=>?_⟩))))))))
    ·refine ABp (ACr (ABv ?_));obtain rfl:=ABo (AC8 Bq A7);change _=Af at Ab;subst Ab;refine ABx (ADb (AB2 (AB2 (ADb (AB2 ?_)))));have A8:=Kst.anil2 cZ 100 90 Ac;obtain rfl:=ABo Ap;exact ⟨_,ADt,A8.x,_,_,_,_,rfl,(A8.o2 p0),A8.s.sel [0] (by decide)⟩
    ·refine ABy (q_b (q_t (AB6 (ACx rfl rfl (Wo (ABt ?_))))));obtain rfl:=ABo (AC9 Bq A7);exact ⟨Cf,((w64 (Cd + 1)):(Int)),Nat.lt_succ_self _,⟨Ab,Ac⟩,rfl,trivial⟩
 ·obtain rfl:=ABo (AC9 Ag A3);change _=Af at Ab;subst Ab;refine ACg (ACi (ACi (ADp (q_t (ABp (Wo (ADa ACd rfl H2 (Wo ?_))))))));obtain ⟨Eo,Cm,Cn⟩:=ABq Ap;refine AFj ACd rfl H2 rfl Cm fun Ep Er Es Co Cp=>AB3 AC0 rfl (AB1 Co Ac.x) (ADi ACp rfl Cp ?_);obtain ⟨Cq,Cr,Ct⟩:=ABq Cn;refine ADc rfl (AIw Cr) fun Br Et Cu Cv=>?_;obtain ⟨Eu,Cw,Cx,Cy,rfl,Cz,C0⟩:=Cv;refine ABv (ABr (ABp (Wo (ADa ACd rfl H2 (Wo (ABt (ABw ?_)))))));have Bt:=Ac.no2 Cu C0 Cz;obtain ⟨Bu,C1,C2⟩:=ABq Ct;obtain ⟨C3,C4,C5⟩:=ACe C1;refine ACq 151115726325928739996032 (fun x:(Int) × (LiI) × LnA × LnN × LvA=>[(50,(.int .i64 x.1))]) (fun k x h'=>iter C3 k (x.1,x.2.1)=some Bu/\Kst h h' (Bt.L.set 0 (aO2 cZ 100 90 x.2.2.1 x.2.2.2.1 x.2.2.2.2 Br x.2.1))) (by kernel_rfl) fuel ((0,Cq,Cw,Cx,Cy):(Int) × (LiI) × LnA × LnN × LvA) ?_ ⟨rfl,trivial⟩ ?_
  ·exact ⟨C5,Bt⟩
  rintro Ev ⟨Au,C6,C7,C8,C9⟩ Ew Ey ⟨Da,Ad⟩;obtain ⟨Db,Ez,rfl,Ah,A9⟩:=AB8 Da;rw [C4] at Ah;dsimp only at Ah;unfold AJl at Ah;refine ABp (ACu rfl rfl (ABt (ABr (⟨_,rfl,fun Ba=>?_,fun Ba=>?_⟩))))
  ·refine ABy (q_t (ABr (ABw (ABp (Wo (AC4 (Wo (Wo ?_))))))));obtain ⟨Fa,Dc,Dd⟩:=ABq (AC8 Ah Ba);refine AFj ACd rfl H2 rfl Dc fun Fb Fc Fd De Df=>AB3 AC0 rfl (AB1 De Ad.x) (ADi ACp rfl Df (Wo (ABt (ABw ?_))));obtain ⟨Bv,Dg,Dh⟩:=ABq Dd;obtain ⟨Di,Dj,Dk⟩:=ACe Dg;refine ACq 75557575495538171707648 (fun x:(Int) × (LiI) × LnA × LnN × LvA=>[(58,(.int .i64 x.1))]) (fun k x h'=>iter Di k (x.1,x.2.1)=some Bv/\Kst h h' (Ad.L.set 0 (aO2 cZ 100 90 x.2.2.1 x.2.2.2.1 x.2.2.2.2 Br x.2.1))) (by kernel_rfl) fuel ((0,C6,C7,C8,C9):(Int) × (LiI) × LnA × LnN × LvA) ?_ ⟨rfl,trivial⟩ ?_
   ·exact ⟨Dk,Ad⟩
   rintro Fe ⟨Bw,Bx,By,Bz,B1⟩ Ff Bb ⟨Dl,Ae⟩;obtain ⟨Dn,Fg,rfl,Ai,Bc⟩:=AB8 Dl;rw [Dj] at Ai;dsimp only at Ai;unfold AJk at Ai;refine ABp (ACu rfl rfl (ABt (ABr (⟨_,rfl,fun Be=>?_,fun Be=>?_⟩))))
   ·refine ABy (q_t (ABr (ABw (ABp (Wo (ABv (AEj (fun h'=>UpT [] Bb h') (by kernel_rfl) ?_)))))));have Aj:UpT [] Bb Bb:=UpT.start all_nil;refine Wo (Wo ?_);obtain ⟨Do,Bf,Dp⟩:=ABq (AC8 Ai Be);refine ADf ADv rfl (Ae.o2 p0) rfl Bf fun Fh Fi Fj Dq Dr=>AFg AFp rfl Aj (fun h' hb=>AB1 Dr hb.ext) (Wo (Wo (Wo ?_)));obtain ⟨Fk,Ds,Dt⟩:=ABq Dp;refine AFj ACd rfl H2 rfl Ds fun Fl Fm Fo Du Dv=>AFg AC0 rfl Aj (fun h' hb=>AB1 Du (Ae.x.trans hb.ext)) (Wo ?_);obtain ⟨Fp,Dw,Dx⟩:=ABq Dt;refine AHg (c:=(cI .i64)) ACp rfl Dv rfl Dw fun Fq Fr Ft Dy Dz=>?_;obtain rfl:=Dy;refine AFg ACw rfl Aj (fun h' hb=>AB1 (Dz 0 _ rfl) (Ae.x.trans hb.ext)) ?_;obtain ⟨D0,D1,D2⟩:=ABq Dx;refine ADm Aj (fun _ E=>Aj.thenE E) rfl (AKs D1) fun Fu Fv D3 D4=>?_;obtain ⟨Fw,rfl,D5⟩:=D4;obtain ⟨Fx,rfl,D6⟩:=D5.cs;have Ak:=(Ae.e D3).az D6;obtain ⟨Fy,B3,D7⟩:=ABq D2;refine AD0 (m:=Au) AEv rfl (Ae.o2 p0) Dq Bf rfl B3 fun Fz D8=>AGz (m:=Au) (ASd ACf (cZ.klen (Ak.z p0)) rfl rfl (cZ.one (Ak.z p0))) (Ak.o2 p1) D8 Bf B3 (Ak.z p0) fun F4 D9 Ea=>ACs (q_b (q_t (AB6 (ACx rfl rfl (Wo (ABt ?_))))));obtain rfl:=ABo D7;exact ⟨Dn,(((w64 (Bw + 1)),(sI Bx Au (sI Do Bw D0)),By,Bz,B1):(Int) × (LiI) × LnA × LnN × LvA),Nat.lt_succ_self _,⟨Bc,(Ak.uO2 p1 Ea D9).sel [1] (by decide)⟩,rfl,trivial⟩
   ·obtain rfl:=ABo (AC9 Ai Be);change _=Bv at Bc;subst Bc;refine ACg (ACi (ACi (ADp (q_b (q_t (AB6 (ACx rfl rfl (Wo (ABt ?_)))))))));obtain rfl:=ABo Dh;exact ⟨Db,(((w64 (Au + 1)),Bx,By,Bz,B1):(Int) × (LiI) × LnA × LnN × LvA),Nat.lt_succ_self _,⟨A9,Ae⟩,rfl,trivial⟩
  ·obtain rfl:=ABo (AC9 Ah Ba);change _=Bu at A9;subst A9;refine ACg (ACi (ACi (ADp (q_t (ABp (Wo (ACr (ABv (ABx ?_)))))))));obtain rfl:=ABo C2;exact ⟨_,ADt,Ad.x,_,_,_,_,rfl,(Ad.o2 p0),Ad.s.sel [0] (by decide)⟩
def AFb (fuel:Nat) (a3:LiI):Option LiI:=
  ((AD5 fuel a3).bind fun (x5,x6)=>(some x5))
theorem AJ6 {fuel:Nat} {h:ABu} {Ab:Value} {a3 r:LiI} (H2:AEq (cI .i64) h Ab a3) (hp:AFb fuel a3=some r):ACo Tryz.prog 18 #[Ab] h (fun x h'=>Ext h h'/\ ∃ (x0:Value) (F0:List Nat) (Ai:List LnA) (Aj:List Value),x=x0/\AFi cZ 100 90 h' F0 Ai Aj x0 r/\Sp h' h.size [F0]):=by
 unfold AFb at hp;refine cwf (l:=[_]) Tryz.func18 rfl rfl (ABp (AC4 (Wo ?_)));have K0:=Kst.k0 h;obtain ⟨⟨x5,x6⟩,Ak,Ag⟩:=ABq hp;dsimp only at Ag;refine ADc rfl (ANc (H2.ext K0.x) Ak) fun Av Aw E9 Ao=>?_;obtain ⟨Ax,Ay,Az,A3,rfl,Ap,Aq⟩:=Ao;refine Wo (ADn rfl rfl (ADn rfl rfl (ACr (AC4 (Wo (ABv (ABx ?_)))))));have Aa:=K0.no2 E9 Aq Ap;obtain rfl:=ABo Ag;exact ⟨_,ABz,Aa.x,_,_,_,_,rfl,(Aa.o2 p0),Aa.s.sel [0] (by decide)⟩
def AG1 (fuel:Nat) (a3:LiI) (Ab:Int):Option ((Int) ⊕ (((Int × Int × Bool)) ⊕ (Unit))):=
  (if Ab < (a3.length:Int) then ((gI a3 Ab).bind fun Ac=>(if (Ac.length:Int) < 1 then (some (Sum.inr<| Sum.inl <| (0,0,false))) else (if 16 < (Ac.length:Int) then (some (Sum.inr<| Sum.inl <| (0,0,false))) else ((gI a3 0).bind fun Ad=>(if ¬ (Ac.length:Int)=(Ad.length:Int) then (some (Sum.inr<| Sum.inl <| (0,0,false))) else (some (Sum.inl (w64 (Ab + 1))))))))) else (some (Sum.inr<| Sum.inr <| ())))
def AD1 (fuel:Nat) (a3:LiI):Option (Int × Int × Bool):=
  (((if (a3.length:Int) < 1 then (some (Sum.inl <| (0,0,false))) else (if 16 < (a3.length:Int) then (some (Sum.inl <| (0,0,false))) else (some (Sum.inr <| ())))):Option (((Int × Int × Bool)) ⊕ (Unit))).bind (fun ex=>match ex with | Sum.inl Ab=>(some Ab) | Sum.inr (_)=>((iter (fun s=>AG1 fuel a3 s) fuel 0).bind (fun ex=>match ex with | Sum.inl Ac=>(some Ac) | Sum.inr (_)=>((gI a3 0).bind fun Ad=>(some ((a3.length:Int),(Ad.length:Int),true)))))))
theorem AIn {fuel:Nat} {h:ABu} {Au:Value} {a3:LiI} {r:(Int × Int × Bool)} (H2:AEq cZ h Au a3) (hp:AD1 fuel a3=some r):ACo Tryz.prog 85 #[Au] h (fun x h'=>Ext h h'/\x= .tuple #[.int .i64 r.1,.int .i64 r.2.1,.bool r.2.2]):=by
 unfold AD1 at hp;refine cwf (l:=[_]) Tryz.func85 rfl rfl (ABp (ACr (ACr (ABv ?_))));have K0:=Kst.k0 h;obtain ⟨A5,Av,Am⟩:=ABq hp;refine AL7 32668 (fun x:Unit=>[]) (fun x h'=>(Sum.inr <| ())=A5/\Kst h h' (K0.L)) ?_ ?_
 ·refine ABp (Wo (ADa ADv rfl H2 (ACu rfl rfl (Wo ?_))));by_cases Ag:(a3.length:Int) < 1
  ·rw [decide_eq_true Ag];refine AE3 10 true (AB5 rfl (ABt (ACh rfl (ABp (ACr (ACr (ABv ?_)))))));obtain rfl:=ABo (ifT Av Ag);refine ABx (AB2 ?_);obtain rfl:=ABo Am;exact ⟨_,AK3,K0.x,rfl⟩
  ·have Aw:=ifF Av Ag;rw [decide_eq_false Ag];refine AB4 10 false (Wo (AB4 10 false (ADa ADv rfl H2 (AB4 10 false (AGq rfl rfl (AB0 rfl (ABt (⟨_,rfl,fun Ao=>?_,fun Ao=>?_⟩))))))))
   ·refine ABp (ACr (ACr (ABv ?_)));obtain rfl:=ABo (AC8 Aw Ao);refine ABx (AB2 ?_);obtain rfl:=ABo Am;exact ⟨_,AK3,K0.x,rfl⟩
   ·refine ABy (q_t ?_);exact ⟨(():Unit),⟨ABo (AC9 Aw Ao),K0⟩,trivial⟩
 rintro ⟨⟩ Bp Bq ⟨A6,Ax⟩;subst A6;refine ABr (ABp (Wo (ADa ADv rfl H2 (Wo (ABt (ABw ?_))))));obtain ⟨Ad,A7,Ah⟩:=ABq Am;obtain ⟨A8,A9,Ba⟩:=ACe A7;refine ACq 549755682908 (fun x:(Int)=>[(17,(.int .i64 x))]) (fun k x h'=>iter A8 k x=some Ad/\Kst h h' (Ax.L)) (by kernel_rfl) fuel (0:(Int)) ?_ ⟨rfl,trivial⟩ ?_
 ·exact ⟨Ba,Ax⟩
 rintro Br Bb Bt Bu ⟨Bc,Ab⟩;obtain ⟨Be,Bv,rfl,Ae,Aa⟩:=AB8 Bc;rw [A9] at Ae;dsimp only at Ae;unfold AG1 at Ae;refine ABp (ACu rfl rfl (ABt (ABr (⟨_,rfl,fun Ap=>?_,fun Ap=>?_⟩))))
 ·refine ABy (q_t (ABr (ABw (ABp ?_))));obtain ⟨Ay,Bf,Az⟩:=ABq (AC8 Ae Ap);refine AFj ADv rfl H2 rfl Bf fun Bw Bx By Bg Aq=>AB3 AFp rfl (AB1 Bg Ab.x) (AC4 (Wo (ADi AEv rfl Aq (ACu rfl rfl (Wo ?_)))));by_cases Ai:(Ay.length:Int) < 1
  ·rw [decide_eq_true Ai];refine AE3 24 true (AB5 rfl (Wo (AHn 29 true (AKb 29 true (AB5 rfl (ABt (ACh rfl (ABp (ACr (ACr (ABv ?_)))))))))));obtain rfl:=ABo (ifT Az Ai);change _=Ad at Aa;subst Aa;refine ABx (ADb (AB2 (AB2 (ADb (AB2 ?_)))));obtain rfl:=ABo Ah;exact ⟨_,AK3,Ab.x,rfl⟩
  ·have A3:=ifF Az Ai;rw [decide_eq_false Ai];refine AB4 24 false (Wo (AB4 24 false (ADi AEv rfl Aq (AB4 24 false (AGq rfl rfl (AB0 rfl (Wo ?_)))))));by_cases Aj:16 < (Ay.length:Int)
   ·rw [decide_eq_true Aj];refine AHn 29 true (AKb 29 true (AB5 rfl (ABt (ACh rfl (ABp (ACr (ACr (ABv ?_))))))));obtain rfl:=ABo (ifT A3 Aj);change _=Ad at Aa;subst Aa;refine ABx (ADb (AB2 (AB2 (ADb (AB2 ?_)))));obtain rfl:=ABo Ah;exact ⟨_,AK3,Ab.x,rfl⟩
   ·rw [decide_eq_false Aj];refine AB4 29 false (Wo (AB4 29 false (ADi AEv rfl Aq (AB4 29 false (Wo (AB4 29 false ?_))))));obtain ⟨Bz,Bh,A4⟩:=ABq (ifF A3 Aj);refine AFj ADv rfl H2 rfl Bh fun B1 B3 B4 Bi Bj=>AB4 29 false (AB3 AFp rfl (AB1 Bi Ab.x) (AB4 29 false (ADi AEv rfl Bj (AB4 29 false (AEt rfl rfl (AB0 rfl (ABt (⟨_,rfl,fun Ar=>?_,fun Ar=>?_⟩))))))))
    ·refine ABp (ACr (ACr (ABv ?_)));obtain rfl:=ABo (AC8 A4 Ar);change _=Ad at Aa;subst Aa;refine ABx (ADb (AB2 (AB2 (ADb (AB2 ?_)))));obtain rfl:=ABo Ah;exact ⟨_,AK3,Ab.x,rfl⟩
    ·refine ABy (q_b (q_t (AB6 (ACx rfl rfl (Wo (ABt ?_))))));obtain rfl:=ABo (AC9 A4 Ar);exact ⟨Be,((w64 (Bb + 1)):(Int)),Nat.lt_succ_self _,⟨Aa,Ab⟩,rfl,trivial⟩
 ·obtain rfl:=ABo (AC9 Ae Ap);change _=Ad at Aa;subst Aa;refine ACg (ACi (ACi (ADp (q_t (ABr (AI7 (Wo (ADa ADv rfl H2 (Wo ?_)))))))));obtain ⟨B5,Bl,Bm⟩:=ABq Ah;refine AFj ADv rfl H2 rfl Bl fun B6 B7 B8 Bn Bo=>AB3 AFp rfl (AB1 Bn Ab.x) (ADi AEv rfl Bo (ACr (ACr (ABv (ABx ?_)))));obtain rfl:=ABo Bm;exact ⟨_,AK3,Ab.x,rfl⟩
def AFc (fuel:Nat) (a3:LiI):Option (Int × Bool):=
  ((AD1 fuel a3).bind fun (x5,x6,x7)=>(if (!x7)=true then (some (0,false)) else (if ¬ x5=x6 then (some (0,false)) else (some (x5,true)))))
theorem AN6 {fuel:Nat} {h:ABu} {Ad:Value} {a3:LiI} {r:(Int × Bool)} (H2:AEq cZ h Ad a3) (hp:AFc fuel a3=some r):ACo Tryz.prog 69 #[Ad] h (fun x h'=>Ext h h'/\x= .tuple #[.int .i64 r.1,.bool r.2]):=by
 unfold AFc at hp;refine cwf (l:=[_]) Tryz.func69 rfl rfl (ABp (ACr (AC4 (Wo ?_))));have K0:=Kst.k0 h;obtain ⟨⟨x5,x6,x7⟩,Ak,Aa⟩:=ABq hp;dsimp only at Aa;refine ADc rfl (AIn (H2.ext K0.x) Ak) fun Ar Au Am Ao=>?_;subst Ao;refine Wo (ADn rfl rfl (ADn rfl rfl (ADn rfl rfl (ACr (ACr (ABv (ABr (ABp (Wo (AEy rfl (Wo ?_)))))))))));have Ab:=K0.e Am;cases Ag:(!x7)
 ·refine AB4 15 false (Wo (AB4 15 false (Wo (AB4 15 false (AEt rfl rfl (AB0 rfl (ABt ?_)))))));have Ah:=AHo Aa Ag;refine ⟨_,rfl,fun Ac=>?_,fun Ac=>?_⟩
  ·refine ABp (ACr (ABv (ABx (AB2 ?_))));obtain rfl:=ABo (AC8 Ah Ac);exact ⟨_,ADt,Ab.x,rfl⟩
  ·refine ABy (q_t (ABp (Wo (ACr (ABv (ABx ?_))))));obtain rfl:=ABo (AC9 Ah Ac);exact ⟨_,ADt,Ab.x,rfl⟩
 ·refine AE3 15 true (AB5 rfl (ABt (ACh rfl (ABp (ACr (ABv (ABx (AB2 ?_))))))));obtain rfl:=ABo (ifT Aa Ag);exact ⟨_,ADt,Ab.x,rfl⟩
def ALq (fuel:Nat) (Ac:Int) (Ad:LiA) (Aa:Int) (Ab:LiI):Option ((Int × LiI) ⊕ ((LiI))):=
  (if Aa < (Ad.length:Int) then ((gI Ad Aa).bind fun Af=>((gI Ab Ac).bind fun Ae=>((ASf fuel Af).bind fun Ag=>(if Ae.length<=100000000 then (some (Sum.inl ((w64 (Aa + 1)),(sI Ab Ac (Ae ++ [Ag]))))) else none)))) else (some (Sum.inr<| Ab)))
def ALr (fuel:Nat) (a3:LiI) (Aa:Int) (Ac:LiI):Option ((Int × LiI) ⊕ ((LiI))):=
  (if Aa < (a3.length:Int) then ((gI a3 Aa).bind fun Ad=>((iter (fun s=>ALq fuel Aa Ad s.1 s.2) fuel (0,Ac)).bind (fun (Ae:LiI)=>(some (Sum.inl ((w64 (Aa + 1)),Ae)))))) else (some (Sum.inr<| Ac)))
def AHh (fuel:Nat) (a3:LiI):Option LiI:=
  (if 0<=(a3.length:Int)/\(a3.length:Int)<=100000000 then ((iter (fun s=>ALr fuel a3 s.1 s.2) fuel (0,(List.replicate (Int.toNat (a3.length:Int)) ([]:List Int)))).bind (fun (Ab:LiI)=>(some Ab))) else none)
theorem AOw {fuel:Nat} {h:ABu} {Av:Value} {a3 r:LiI} (H2:AEq cZ h Av a3) (hp:AHh fuel a3=some r):ACo Tryz.prog 37 #[Av] h (fun x h'=>Ext h h'/\ ∃ (x0:Value) (F0:List Nat) (Ba:List LnA) (Bb:List Value),x=x0/\AFi cZ 100 90 h' F0 Ba Bb x0 r/\Sp h' h.size [F0]):=by
 unfold AHh at hp;refine cwf (l:=[_]) Tryz.func37 rfl rfl (ABp (AC4 (Wo (ADa ADv rfl H2 ?_))));obtain ⟨Bc,Be⟩:=ifN hp;refine ARf cZ 90 ADv Aeh rfl trivial tt2 rfl rfl (by decide) Bc fun Bf Bg Bh v11 h9 Bi E7 S8=>ABv (ABr (ABp (Wo (ADa ADv rfl H2 (Wo (ABt (ABw ?_)))))));have Ay:=(Kst.k0 h).no2 E7 S8 Bi;obtain ⟨Az,Bm,Bn⟩:=ABq Be;obtain ⟨Bo,Bp,Bq⟩:=ACe Bm;refine ACq 137438949456 (fun x:(Int) × (LiI) × LnA × LnN × LvA=>[(12,(.int .i64 x.1))]) (fun k x h'=>iter Bo k (x.1,x.2.1)=some Az/\Kst h h' (Ay.L.set 0 (aO2 cZ 100 90 x.2.2.1 x.2.2.2.1 x.2.2.2.2 v11 x.2.1))) (by kernel_rfl) fuel ((0,(List.replicate (Int.toNat (a3.length:Int)) ([]:List Int)),Bf,Bg,Bh):(Int) × (LiI) × LnA × LnN × LvA) ?_ ⟨rfl,trivial⟩ ?_
 ·exact ⟨Bq,Ay⟩
 rintro De ⟨A3,Br,Bt,Bu,Bv⟩ Df Dg ⟨Bw,Ab⟩;obtain ⟨Bx,Dh,rfl,Ac,Ak⟩:=AB8 Bw;rw [Bp] at Ac;dsimp only at Ac;unfold ALr at Ac;refine ABp (ACu rfl rfl (ABt (ABr (⟨_,rfl,fun Am=>?_,fun Am=>?_⟩))))
 ·refine ABy (q_t (ABr (ABw (ABp (Wo (AC4 (Wo (Wo ?_))))))));obtain ⟨Di,By,Bz⟩:=ABq (AC8 Ac Am);refine AFj ADv rfl H2 rfl By fun Dj Dk Dl B1 A4=>AB3 AFp rfl (AB1 B1 Ab.x) (ADi AEv rfl A4 (Wo (ABt (ABw ?_))));obtain ⟨A5,B3,B4⟩:=ABq Bz;obtain ⟨B5,B6,B7⟩:=ACe B3;refine ACq 68718428224 (fun x:(Int) × (LiI) × LnA × LnN × LvA=>[(20,(.int .i64 x.1))]) (fun k x h'=>iter B5 k (x.1,x.2.1)=some A5/\Kst h h' (Ab.L.set 0 (aO2 cZ 100 90 x.2.2.1 x.2.2.2.1 x.2.2.2.2 v11 x.2.1))) (by kernel_rfl) fuel ((0,Br,Bt,Bu,Bv):(Int) × (LiI) × LnA × LnN × LvA) ?_ ⟨rfl,trivial⟩ ?_
  ·exact ⟨B7,Ab⟩
  rintro Dn ⟨B8,u64,B9,Ca,Cb⟩ Do Dp ⟨Cd,Ag⟩;obtain ⟨Ce,Dq,rfl,Ad,Ao⟩:=AB8 Cd;rw [B6] at Ad;dsimp only at Ad;unfold ALq at Ad;refine ABp (ACu rfl rfl (ABt (ABr (⟨_,rfl,fun Ap=>?_,fun Ap=>?_⟩))))
  ·refine ABy (q_t (ABr (ABw (ABp ?_))));obtain ⟨Dr,Cf,Cg⟩:=ABq (AC8 Ad Ap);refine AHg (c:=cZ) AEv rfl A4 rfl Cf fun Ds Dt A6 Ae Ch=>ANm (c:=cZ) ACf rfl (Ag.zx Ae) (fun j u hu=>(AB1 (Ch j u hu) Ag.x)) (ADj [.bool false,.slice none 0 0] AGm rfl trivial tt2 fun Du Ci Cj Ck Cm=>?_);have Ah:=Ag.nb Ck Cm Cj;refine AC6 A6 ACf (cZ.klen (Ah.zx Ae)) (cZ.klen (ACa Ci)) rfl rfl (cZ.one (Ah.zx Ae)) (Ah.b p0) fun Aq Cn Co=>ABt ?_;have Aa:=Ah.sb p0 Co Cn rfl;obtain ⟨Cp,Ar,Cq⟩:=ABq Cg;obtain ⟨A7,Cr,Ct,Cu,Cv⟩:=(Aa.o2 p1).rowG Ar;refine AEj (fun h'=>UpT (A7 ++ []) Aq h') (by kernel_rfl) ?_;have Af:UpT (A7 ++ []) Aq Aq:=UpT.start (AEu Cu all_nil);refine Wo (Wo (Wo (Wo (ADf ADv rfl (Aa.o2 p1) rfl Ar fun Dv Dw Cw Cx Cy=>AFg AFp rfl Af (fun h' hb=>AM3 Cy hb (ASp (Cv _ Cw) ASq)) (AEn A6 ACf (cZ.klen (Aa.zx Ae)) rfl Af (fun h' hb=>((Aa.b p0).upT hb (Ar6 (fun b hb hg=>(Aa.dj p0 p1 (by decide)) b hb (Ct b hg)) Ar7)).agg) ?_)))));obtain ⟨Cz,C0,C1⟩:=ABq Cq;refine ADm Af (fun _ E=>Af.thenE E) rfl (ATv (Aa.zx Ae).2 C0) fun Dx Dy A8 C2=>?_;obtain ⟨Dz,rfl,C3⟩:=C2;have A9:=Af.thenE A8;obtain ⟨D0,rfl,C4⟩:=C3.cs;have Au:=(Aa.e A8).az C4;obtain ⟨C5,C6⟩:=ifN C1;refine Ajt AEv AGm rfl rfl ADv AFp (Au.o2 p2) Cx Ar Cr A9 (fun _ U=>A9.then U (AOd rfl)) (fun _=>rfl) rfl (Au.z p0) (fun _ _=>rfl) (fun _ _=>rfl) rfl (by decide) C5 fun D1 D2 C7 C8 C9 D3 D4 Da Db Dc=>ACs (q_b (q_t (AB6 (ACx rfl rfl (Wo (ABt ?_))))));obtain rfl:=ABo C6;exact ⟨Ce,(((w64 (B8 + 1)),(sI u64 A3 (Cp ++ [Cz])),C7,C8,C9):(Int) × (LiI) × LnA × LnN × LvA),Nat.lt_succ_self _,⟨Ao,(Au.uo2 p2 Db Da Dc).sel [2] (by decide)⟩,rfl,trivial⟩
  ·obtain rfl:=ABo (AC9 Ad Ap);change _=A5 at Ao;subst Ao;refine ACg (ACi (ACi (ADp (q_b (q_t (AB6 (ACx rfl rfl (Wo (ABt ?_)))))))));obtain rfl:=ABo B4;exact ⟨Bx,(((w64 (A3 + 1)),u64,B9,Ca,Cb):(Int) × (LiI) × LnA × LnN × LvA),Nat.lt_succ_self _,⟨Ak,Ag⟩,rfl,trivial⟩
 ·obtain rfl:=ABo (AC9 Ac Am);change _=Az at Ak;subst Ak;refine ACg (ACi (ACi (ADp (q_t (ABp (Wo (ABv (ABx ?_))))))));obtain rfl:=ABo Bn;exact ⟨_,ABz,Ab.x,_,_,_,_,rfl,(Ab.o2 p0),Ab.s.sel [0] (by decide)⟩
def AKd (fuel:Nat) (a3:LiI) (Ac:LiA) (Ae:Int) (Aa:LiA) (Ab:Int):Option ((LiA × Int) ⊕ ((LiA))):=
  (if Ab < (Ac.length:Int) then ((gI Ac Ab).bind fun Af=>((gI a3 Ae).bind fun Ag=>((gI Ag Af).bind fun Ah=>(if Aa.length<=100000000 then (some (Sum.inl ((Aa ++ [Ah]),(w64 (Ab + 1))))) else none)))) else (some (Sum.inr<| Aa)))
def AKe (fuel:Nat) (a3:LiI) (a7 Ae:LiA) (Aa:LiI) (Ab:Int):Option ((LiI × Int) ⊕ ((LiI))):=
  (if Ab < (a7.length:Int) then ((gI a7 Ab).bind fun Af=>((iter (fun s=>AKd fuel a3 Ae Af s.1 s.2) fuel ([],0)).bind (fun (Ag:LiA)=>(if Aa.length<=100000000 then (some (Sum.inl ((Aa ++ [Ag]),(w64 (Ab + 1))))) else none)))) else (some (Sum.inr<| Aa)))
def AGb (fuel:Nat) (a3:LiI) (a7 Ac:LiA):Option LiI:=
  ((iter (fun s=>AKe fuel a3 a7 Ac s.1 s.2) fuel ([],0)).bind (fun (Ad:LiI)=>(some Ad)))
theorem AN7 {fuel:Nat} {h:ABu} {Ai:Value} {a3:LiI} {Ak:Value} {a7:LiA} {Ao:Value} {Ap:LiA} {r:LiI} (H2:AEq cZ h Ai a3) (H6:SlC (cI .i64) h Ak a7) (Ar:SlC (cI .i64) h Ao Ap) (hp:AGb fuel a3 a7 Ap=some r):ACo Tryz.prog 130 #[Ai,Ak,Ao] h (fun x h'=>Ext h h'/\ ∃ (x0:Value) (F0:List Nat) (A6:List LnA) (A7:List Value),x=x0/\AFi cZ 100 90 h' F0 A6 A7 x0 r/\Sp h' h.size [F0]):=by
 unfold AGb at hp;refine cwf (l:=[_,_,_]) Tryz.func130 rfl rfl (ABp (AC4 (ABv (ABr (ABp (Wo (ADi AV0 rfl H6 (Wo (ABt (ABw ?_))))))))));have Aw:=Kst.anil2 cZ 100 90 (Kst.k0 h);obtain ⟨Ax,A8,A9⟩:=ABq hp;obtain ⟨Ba,Bb,Bc⟩:=ACe A8;refine ACq 2199023228544 (fun x:(LiI) × (Value) × LnA × LnN × LvA × (Int)=>[(7,x.2.1),(15,(.int .i64 x.2.2.2.2.2))]) (fun k x h'=>iter Ba k (x.1,x.2.2.2.2.2)=some Ax/\Kst h h' (Aw.L.set 0 (aO2 cZ 100 90 x.2.2.1 x.2.2.2.1 x.2.2.2.2.1 x.2.1 x.1))) (by kernel_rfl) fuel (([],(.slice none 0 0),[],[],[],0):(LiI) × (Value) × LnA × LnN × LvA × (Int)) ?_ ⟨rfl,rfl,trivial⟩ ?_
 ·exact ⟨Bc,Aw⟩
 rintro Cu ⟨Be,Cv,Cw,Bf,Bg,u32⟩ Cx Cy ⟨Bh,Ab⟩;obtain ⟨Bi,Cz,rfl,Ac,Ae⟩:=AB8 Bh;rw [Bb] at Ac;dsimp only at Ac;unfold AKe at Ac;refine ABp (ACu rfl rfl (ABt (ABr (⟨_,rfl,fun Af=>?_,fun Af=>?_⟩))))
 ·refine ABy (q_t (ABr (ABw (ABp ?_))));obtain ⟨C0,Bj,Bl⟩:=ABq (AC8 Ac Af);refine AHg (c:=(cI .i64)) AV0 rfl H6 rfl Bj fun C1 C2 C3 Bm Bn=>?_;obtain rfl:=Bm;refine AB3 ADe rfl (AB1 (Bn 0 _ rfl) Ab.x) (AC4 (ABv (ABr (ABp (Wo (ADi AV0 rfl Ar (Wo (ABt (ABw ?_)))))))));have Ay:=Kst.anil cZ 90 Ab;obtain ⟨Az,Bo,Bp⟩:=ABq Bl;obtain ⟨Bq,Br,Bt⟩:=ACe Bo;refine ACq 68717384704 (fun x:(LiA) × (Value) × LnA × (Int)=>[(10,x.2.1),(21,(.int .i64 x.2.2.2))]) (fun k x h'=>iter Bq k (x.1,x.2.2.2)=some Az/\Kst h h' (Ay.L.set 0 (aO cZ 90 x.2.2.1 x.2.1 x.1))) (by kernel_rfl) fuel (([],(.slice none 0 0),[],0):(LiA) × (Value) × LnA × (Int)) ?_ ⟨rfl,rfl,trivial⟩ ?_
  ·exact ⟨Bt,Ay⟩
  rintro C4 ⟨A3,Bu,Bv,Bw⟩ C5 C6 ⟨Bx,Aa⟩;obtain ⟨By,C7,rfl,Ad,Ag⟩:=AB8 Bx;rw [Br] at Ad;dsimp only at Ad;unfold AKd at Ad;refine ABp (ACu rfl rfl (ABt (ABr (⟨_,rfl,fun Ah=>?_,fun Ah=>?_⟩))))
  ·refine ABy (q_t (ABr (ABw (ABp ?_))));obtain ⟨C8,Bz,B1⟩:=ABq (AC8 Ad Ah);refine AHg (c:=(cI .i64)) AV0 rfl Ar rfl Bz fun C9 Da Db B3 B4=>?_;obtain rfl:=B3;refine AB3 ADe rfl (AB1 (B4 0 _ rfl) Aa.x) (ABv (AB6 (Wo (Wo (Wo ?_)))));obtain ⟨Dc,B5,B6⟩:=ABq B1;refine AFj ADv rfl H2 rfl B5 fun Dd De Df B7 B8=>AB3 AFp rfl (AB1 B7 Aa.x) (Wo ?_);obtain ⟨B9,Ca,Cb⟩:=ABq B6;refine AHg (c:=cZ) AEv rfl B8 rfl Ca fun Dg Dh Di A4 Cd=>ANm (c:=cZ) ACf rfl (Aa.zx A4) (fun j u hu=>(AB1 (Cd j u hu) Aa.x)) ?_;obtain ⟨Ce,Cf⟩:=ifN Cb;refine AM9 AEv AGm rfl rfl trivial tt2 (fun _=>rfl) rfl (Aa.zx A4) (Aa.o p0) (by decide) Ce fun Dj Cg Ch Dk Ci Cj Ck=>ACr (ACs (q_b (q_t (AB6 (ACx rfl rfl (Wo (ABt ?_)))))));obtain rfl:=ABo Cf;exact ⟨By,(((A3 ++ [B9]),Ch,Cg,(w64 (Bw + 1))):(LiA) × (Value) × LnA × (Int)),Nat.lt_succ_self _,⟨Ag,(Aa.uo p0 Cj Ci Ck)⟩,rfl,rfl,trivial⟩
  ·obtain rfl:=ABo (AC9 Ad Ah);change _=Az at Ag;subst Ag;refine ACg (ACi (ACi (ADp (q_t (AB6 (Wo (Wo ?_)))))));obtain ⟨Cm,Cn⟩:=ifN Bp;refine AYw ADv Aeh rfl rfl trivial tt2 (fun _=>rfl) rfl (Aa.o p0) (Aa.o2 p1) (Aa.dj p0 p1 (by decide)) (by decide) Cm fun Dl Co Cp Dn Cq Cr Ct=>ACr (ACs (q_b (q_t (AB6 (ACx rfl rfl (Wo (ABt ?_)))))));obtain rfl:=ABo Cn;exact ⟨Bi,(((Be ++ [A3]),Cp,Co,(Bf ++ [Bv]),(Bg ++ [Bu]),(w64 (u32 + 1))):(LiI) × (Value) × LnA × LnN × LvA × (Int)),Nat.lt_succ_self _,⟨Ae,(Aa.m2 p0 p1 (by decide) Cr Cq Ct).sel [1] (by decide)⟩,rfl,rfl,trivial⟩
 ·obtain rfl:=ABo (AC9 Ac Af);change _=Ax at Ae;subst Ae;refine ACg (ACi (ACi (ADp (q_t (ABp (Wo (ABv (ABx ?_))))))));obtain rfl:=ABo A9;exact ⟨_,ABz,Ab.x,_,_,_,_,rfl,(Ab.o2 p0),Ab.s.sel [0] (by decide)⟩
def AGc (fuel:Nat) (Ab:LiI) (Ac:Int) (Ad:LiI) (Aa:Int):Option ((Int) ⊕ ((Int))):=
  (((if Aa < (Ab.length:Int) then ((gI Ad Aa).bind fun Ae=>((gI Ae Ac).bind fun Af=>((AXv fuel Af).bind fun Ag=>(if Ag=0 then (some (Sum.inl <| ())) else (some (Sum.inr <| ())))))) else (some (Sum.inr <| ()))):Option ((Unit) ⊕ (Unit))).bind (fun ex=>match ex with | Sum.inl _=>(some (Sum.inl (w64 (Aa + 1)))) | Sum.inr (_)=>(some (Sum.inr<| Aa))))
def AGd (fuel:Nat) (Ag:LiI) (Ac Ah Ae Aa:Int) (Ab:LiI):Option ((Int × LiI) ⊕ ((LiI))):=
  (if Aa < (Ag.length:Int) then ((gI Ab Ae).bind fun Ad=>((gI Ab Ac).bind fun Af=>((gI Af Ac).bind fun Ai=>((gI Ad Aa).bind fun Aj=>((ARl fuel Ai Aj).bind fun Ak=>((gI Ad Ac).bind fun Am=>((gI Af Aa).bind fun Ao=>((ARl fuel Am Ao).bind fun Ap=>((Ari fuel Ak Ap).bind fun Aq=>((AEp fuel Aq Ah).bind fun Ar=>(some (Sum.inl ((w64 (Aa + 1)),(sI Ab Ae (sI Ad Aa Ar))))))))))))))) else (some (Sum.inr<| Ab)))
def AGe (fuel:Nat) (Ab:LiI) (Ac Ae Aa:Int) (Ad:LiI):Option ((Int × LiI) ⊕ ((LiI))):=
  (if Aa < (Ab.length:Int) then ((iter (fun s=>AGd fuel Ab Ac Ae Aa s.1 s.2) fuel ((w64 (Ac + 1)),Ad)).bind (fun (Af:LiI)=>(some (Sum.inl ((w64 (Aa + 1)),Af))))) else (some (Sum.inr<| Ad)))
def AGf (fuel:Nat) (Ac:LiI) (Ae:Bool) (Aa:Int) (Ab:LiI) (Af:Int):Option ((Bool × Int × LiI × Int) ⊕ ((Int) ⊕ (Bool × Int))):=
  (if Aa < (Ac.length:Int) then ((((((iter (fun s=>AGc fuel Ac Aa Ab s) fuel Aa).bind (fun (Ah:Int)=>(some ( Ah)))):Option ((Int))).bind (fun (Ad:Int)=>(if Ad=(Ac.length:Int) then (some (Sum.inl <| 0)) else (((if Aa < Ad then ((gI Ab Aa).bind fun Ai=>((gI Ab Ad).bind fun Aj=>(some ( ((!Ae),(sI (sI Ab Ad Ai) Aa Aj)))))) else (some ( (Ae,Ab)))):Option ((Bool × LiI))).bind (fun ((Ak,Am):Bool × LiI)=>((iter (fun s=>AGe fuel Ac Aa Af s.1 s.2) fuel ((w64 (Aa + 1)),Am)).bind (fun (Ag:LiI)=>((gI Ag Aa).bind fun Ao=>((gI Ao Aa).bind fun Ap=>(some (Sum.inr <| (Ak,Ag,Ap)))))))))))):Option ((Int) ⊕ (Bool × LiI × Int))).bind (fun ex=>match ex with | Sum.inl Aq=>(some (Sum.inr<| Sum.inl <| Aq)) | Sum.inr ((Ar,Au,Av))=>(some (Sum.inl (Ar,(w64 (Aa + 1)),Au,Av))))) else (some (Sum.inr<| Sum.inr <| (Ae,Af))))
def AC7 (fuel:Nat) (a3:LiI):Option Int:=
  ((AHh fuel a3).bind fun Aa=>((ALi fuel 1).bind fun Ad=>((iter (fun s=>AGf fuel Aa s.1 s.2.1 s.2.2.1 s.2.2.2) fuel (false,0,Aa,Ad)).bind (fun ex=>match ex with | Sum.inl Ae=>(some Ae) | Sum.inr ((Af,Ab))=>(if Af=true then ((Aej fuel Ab).bind fun Ag=>(some Ag)) else (some Ab))))))
theorem AEi {fuel:Nat} {h:ABu} {B1:Value} {a3:LiI} {r:Int} (H2:AEq cZ h B1 a3) (hp:AC7 fuel a3=some r):ACo Tryz.prog 73 #[B1] h (fun x h'=>Ext h h'/\ ∃ (x0:Value),x=x0/\ZZ h' x0 r):=by
 unfold AC7 at hp;refine cwf (l:=[_]) Tryz.func73 rfl rfl (ABp (ADj [.bool false,.slice none 0 0] AGm rfl trivial tt2 fun b5 h6 V7 E8 S9=>AK4 (Wo ?_)));have B5:=(Kst.k0 h).nb E8 S9 V7;obtain ⟨B6,Dk,Dl⟩:=ABq hp;refine ADc rfl (AOw (H2.ext B5.x) Dk) fun Ao Jn Dn Do=>?_;obtain ⟨Jo,Dp,Dq,Dr,rfl,Ds,Dt⟩:=Do;refine AC4 (Wo ?_);have B7:=B5.no2 Dn Dt Ds;refine ADa ADv rfl (B7.o2 p0).rd (AC4 ?_);obtain ⟨Du,Dv,Dw⟩:=ABq Dl;refine ADc rfl (AKs Dv) fun Jp Jq Dx Dy=>?_;obtain ⟨Jr,rfl,Dz⟩:=Dy;obtain ⟨B8,rfl,D0⟩:=Dz.cs;refine ADj [.bool false,.slice none 0 0] AGm rfl trivial tt2 fun B9 D1 D2 D3 D4=>?_;have Ay:=((B7.e Dx).az D0).nb D3 D4 D2;refine AC6 B8 ACf (cZ.klen (Ay.z p1)) (cZ.klen (ACa D1)) rfl rfl (cZ.one (Ay.z p1)) (Ay.b p0) fun Js D5 D6=>ABv (ABr (ABp (ABv (ABw ?_))));have Ca:=Ay.sb p0 D6 D5 rfl;obtain ⟨Ba,D7,Bb⟩:=ABq Dw;obtain ⟨D8,D9,Ea⟩:=ACe D7;refine ACq 2658455991569831745807614120560625600 (fun x:(Bool) × (Int) × (LiI) × LnA × LnN × LvA × (Int) × LvA=>[(6,(.bool x.1)),(7,(.int .i64 x.2.1))]) (fun k x h'=>iter D8 k (x.1,x.2.1,x.2.2.1,x.2.2.2.2.2.2.1)=some Ba/\Kst h h' (((Ca.L.set 2 (aO2 cZ 100 90 x.2.2.2.1 x.2.2.2.2.1 x.2.2.2.2.2.1 Ao x.2.2.1)).set 1 (aZ x.2.2.2.2.2.2.2 x.2.2.2.2.2.2.1)).set 0 (aB 90 B9 x.2.2.2.2.2.2.2))) (by kernel_rfl) fuel ((false,0,B6,Dp,Dq,Dr,Du,B8):(Bool) × (Int) × (LiI) × LnA × LnN × LvA × (Int) × LvA) ?_ ⟨rfl,rfl,trivial⟩ ?_
 ·exact ⟨Ea,Ca⟩
 rintro Jt ⟨Cb,Af,Cd,Eb,Ec,Ed,Ju,Az⟩ Jv Ee ⟨Ef,Ab⟩;obtain ⟨Eg,Jw,rfl,Ap,Aq⟩:=AB8 Ef;rw [D9] at Ap;dsimp only at Ap;unfold AGf at Ap;refine ABr (ABp (Wo (Wo (ACu rfl rfl (ABt (⟨_,rfl,fun Bc=>?_,fun Bc=>?_⟩))))))
 ·refine ABy (q_t ?_);obtain ⟨Eh,Ei,Ce⟩:=ABq (AC8 Ap Bc);refine AL7 2658455991569831745807614120558593856 (fun x:(Bool) × (LiI) × LnA × LnN × LvA × (Int) × LvA=>[(6,(.bool x.1))]) (fun x h'=>(Sum.inr <| (x.1,x.2.1,x.2.2.2.2.2.1))=Eh/\Kst h h' (((Ab.L.set 2 (aO2 cZ 100 90 x.2.2.1 x.2.2.2.1 x.2.2.2.2.1 Ao x.2.1)).set 1 (aZ x.2.2.2.2.2.2 x.2.2.2.2.2.1)).set 0 (aB 90 B9 x.2.2.2.2.2.2))) ?_ ?_
  ·refine ABw (ABp (Wo (ABv ?_)));obtain ⟨Ej,Ek,Cf⟩:=ABq Ei;refine AL7 274873712896 (fun x:(Int)=>[(8,(.int .i64 x))]) (fun x h'=>( x)=Ej/\Kst h h' (Ab.L)) ?_ ?_
   ·refine ABw ?_;obtain ⟨Be,El,Cg⟩:=ABq Ek;obtain ⟨Em,En,Eo⟩:=ACe El;refine ACq 274873712896 (fun x:(Int)=>[(8,(.int .i64 x))]) (fun k x h'=>iter Em k x=some Be/\Kst h h' (Ab.L)) (by kernel_rfl) fuel (Af:(Int)) ?_ ⟨rfl,trivial⟩ ?_
    ·exact ⟨Eo,Ab⟩
    rintro Jx Ar Jy Jz ⟨Ep,Ah⟩;obtain ⟨Er,J0,rfl,A3,Au⟩:=AB8 Ep;rw [En] at A3;dsimp only at A3;unfold AGc at A3;obtain ⟨Es,Ch,Bf⟩:=ABq A3;refine AL7 68715282432 (fun x:Unit=>[]) (fun x h'=>(Sum.inl <| ())=Es/\Kst h h' (Ah.L)) ?_ ?_
    ·refine ABp (Wo (Wo (ACu rfl rfl (Wo ?_))));by_cases A4:Ar < (B6.length:Int)
     ·rw [decide_eq_true A4];refine AB4 25 true (Wo (AB4 25 true (Wo (AB4 25 true ?_))));obtain ⟨J1,Bg,Et⟩:=ABq (ifT Ch A4);refine ADf ADv rfl (Ah.o2 p2) rfl Bg fun J2 J3 J4 Eu Ev=>AB4 25 true (AB3 AFp rfl Ev (AB4 25 true (Wo (AB4 25 true ?_))));obtain ⟨J5,Ci,Ew⟩:=ABq Et;refine AD0 (m:=Ar) AEv rfl (Ah.o2 p2) Eu Bg rfl Ci fun J6 Ey=>AB4 25 true ?_;obtain ⟨J7,Ez,Fa⟩:=(Ah.o2 p2).cells Ey Bg Ci;have Bh:=Ah.az Ez;refine ANm (c:=cZ) ACf rfl (Bh.z p0) (fun j u hu=>(Fa j u hu)) (AB4 25 true ?_);obtain ⟨J8,Fb,Cj⟩:=ABq Ew;refine ADc rfl (AW5 (Bh.z p0).2 Fb) fun J9 Ka Fc Fd=>?_;subst Fd;refine AB4 25 true (AEf rfl rfl (AB5 rfl (ABt ?_)));have Ck:=Bh.e Fc;refine ⟨_,rfl,fun Bi=>?_,fun Bi=>?_⟩
      ·refine ABy (q_t ?_);exact ⟨(():Unit),⟨ABo (AC8 Cj Bi),Ck.sel [1,2,3,4] (by decide)⟩,trivial⟩
      ·obtain rfl:=ABo (AC9 Cj Bi);obtain rfl:=ABo Bf;change _=Be at Au;subst Au;refine ACg (ACi (ACi (ADp (q_t ?_))));exact ⟨(Ar:(Int)),⟨ABo Cg,Ck.sel [1,2,3,4] (by decide)⟩,rfl,trivial⟩
     ·rw [decide_eq_false A4];refine AHn 25 false (AFf 25 false (AB0 rfl (ABt (ACn rfl ?_))));obtain rfl:=ABo (ifF Ch A4);obtain rfl:=ABo Bf;change _=Be at Au;subst Au;refine ACg (ACi (ACi (ADp (q_t ?_))));exact ⟨(Ar:(Int)),⟨ABo Cg,Ah⟩,rfl,trivial⟩
    rintro ⟨⟩ Kb Kc ⟨Fe,Ff⟩;subst Fe;refine ABw (AB6 (Wo (ACx rfl rfl (ACr (ACs (q_b (q_t ?_)))))));obtain rfl:=ABo Bf;exact ⟨Er,((w64 (Ar + 1)):(Int)),Nat.lt_succ_self _,⟨Au,Ff⟩,rfl,trivial⟩
   rintro Fg Kd Bj ⟨Fh,Ag⟩;subst Fh;refine ABr (ABp (Wo (Wo (AEf rfl rfl (ABt (⟨_,rfl,fun Bl=>?_,fun Bl=>?_⟩))))))
   ·refine ABp (AG7 (APf ) (AC6 [Value.bool false,Value.slice none 0 0] ACf (cZ.klen (ACa Bj)) (cZ.klen (ACa Bj)) rfl rfl (cZ.one (ACa Bj)) (Ag.b p3) fun Cm Fi Fj=>ABt ?_));have Cn:=Ag.sb p3 Fj Fi rfl;obtain rfl:=ABo (AC8 Cf Bl);obtain rfl:=ABo Ce;change _=Ba at Aq;subst Aq;refine ABx (AB2 (ADb (AB2 (AB2 (ADb (AB2 ?_))))));obtain rfl:=ABo Bb;exact ⟨_,AEe ACf (cZ.klen (ACa Cm)) rfl (Cn.b p3),Cn.x,_,rfl,(ACa Cm).2⟩
   ·refine ABy (q_t ?_);obtain ⟨Fk,Co,Fl⟩:=ABq (AC9 Cf Bl);refine AL7 2305838611167182912 (fun x:(Bool) × (LiI) × LnA × LnN × LvA=>[(6,(.bool x.1))]) (fun x h'=>( (x.1,x.2.1))=Fk/\Kst h h' (Ag.L.set 2 (aO2 cZ 100 90 x.2.2.1 x.2.2.2.1 x.2.2.2.2 Ao x.2.1))) ?_ ?_
    ·refine ABp (Wo (Wo (AGq rfl rfl (ABt (⟨_,rfl,fun Bm=>?_,fun Bm=>?_⟩)))))
     ·refine ABr (AI7 (Wo (Wo (Wo (Wo (Wo (Wo ?_)))))));obtain ⟨Fm,Cp,Fo⟩:=ABq (AC8 Co Bm);refine ADf ADv rfl (Ag.o2 p2) rfl Cp fun Ke Kf Kg Fp Fq=>AB3 AFp rfl Fq (Wo (Wo ?_));obtain ⟨Fr,Cq,Ft⟩:=ABq Fo;refine ADf ADv rfl (Ag.o2 p2) rfl Cq fun Kh Ki Kj Fu Fv=>AB3 AFp rfl Fv (ATu ADv AFp (Ag.o2 p2) Fu Fp Cq Cp rfl rfl (fun _=>rfl) (fun _=>rfl) (fun _=>rfl) (fun _ _=>rfl) fun Kk Kl Fw Fx Fy Km Fz F4 F5=>ABt (AB6 (Wo (AEy rfl (ABv ?_)))));exact ⟨(((!Cb),(sI (sI Cd Fg Fm) Af Fr),Fw,Fx,Fy):(Bool) × (LiI) × LnA × LnN × LvA),⟨ABo Ft,(Ag.uo2 p2 F4 Fz F5)⟩,rfl,trivial⟩
     ·refine ABy (q_t ?_);exact ⟨((Cb,Cd,Eb,Ec,Ed):(Bool) × (LiI) × LnA × LnN × LvA),⟨ABo (AC9 Co Bm),Ag⟩,rfl,trivial⟩
    rintro ⟨F6,F7,F8,F9,Ga⟩ Kn Ko ⟨Gb,Cr⟩;subst Gb;refine ABr (ABp (Wo (ACx rfl rfl (ABv (ABw ?_)))));obtain ⟨Ct,Gc,Gd⟩:=ABq Fl;obtain ⟨Ge,Gf,Gg⟩:=ACe Gc;refine ACq 20769187434139301290749948462106112 (fun x:(Int) × (LiI) × LnA × LnN × LvA=>[(9,(.int .i64 x.1))]) (fun k x h'=>iter Ge k (x.1,x.2.1)=some Ct/\Kst h h' (Cr.L.set 2 (aO2 cZ 100 90 x.2.2.1 x.2.2.2.1 x.2.2.2.2 Ao x.2.1))) (by kernel_rfl) fuel (((w64 (Af + 1)),F7,F8,F9,Ga):(Int) × (LiI) × LnA × LnN × LvA) ?_ ⟨rfl,trivial⟩ ?_
    ·exact ⟨Gg,Cr⟩
    rintro Kp ⟨Ai,Cu,Cv,Cw,Cx⟩ Kr Kt ⟨Gh,Aj⟩;obtain ⟨Gi,Ku,rfl,Av,Bn⟩:=AB8 Gh;rw [Gf] at Av;dsimp only at Av;unfold AGe at Av;refine ABr (ABp (Wo (Wo (ACu rfl rfl (ABt (⟨_,rfl,fun Bo=>?_,fun Bo=>?_⟩))))))
    ·refine ABy (q_t (ABr (ABw (ABp (Wo (ACx rfl rfl (ABv (ABw ?_))))))));obtain ⟨Cy,Gj,Gk⟩:=ABq (AC8 Av Bo);obtain ⟨Gl,Gm,Gn⟩:=ACe Gj;refine ACq 20769187434138129922501267905577984 (fun x:(Int) × (LiI) × LnA × LnN × LvA=>[(10,(.int .i64 x.1))]) (fun k x h'=>iter Gl k (x.1,x.2.1)=some Cy/\Kst h h' (Aj.L.set 2 (aO2 cZ 100 90 x.2.2.1 x.2.2.2.1 x.2.2.2.2 Ao x.2.1))) (by kernel_rfl) fuel (((w64 (Af + 1)),Cu,Cv,Cw,Cx):(Int) × (LiI) × LnA × LnN × LvA) ?_ ⟨rfl,trivial⟩ ?_
     ·exact ⟨Gn,Aj⟩
     rintro Kv ⟨Cz,C0,C1,C2,C3⟩ Kw Bp ⟨Gp,Aa⟩;obtain ⟨Gq,Kx,rfl,Aw,Bq⟩:=AB8 Gp;rw [Gm] at Aw;dsimp only at Aw;unfold AGd at Aw;refine ABr (ABp (Wo (Wo (ACu rfl rfl (ABt (⟨_,rfl,fun Br=>?_,fun Br=>?_⟩))))))
     ·refine ABy (q_t (ABr (ABw (AEj (fun h'=>UpT [] Bp h') (by kernel_rfl) ?_))));have Ac:UpT [] Bp Bp:=UpT.start all_nil;refine Wo (Wo ?_);obtain ⟨Gr,Ad,Gt⟩:=ABq (AC8 Aw Br);refine ADf ADv rfl (Aa.o2 p2) rfl Ad fun Ky Kz K3 Gu Gv=>AFg AFp rfl Ac (fun h' hb=>AB1 Gv hb.ext) (Wo (Wo (Wo ?_)));obtain ⟨K5,Ak,Gw⟩:=ABq Gt;refine ADf ADv rfl (Aa.o2 p2) rfl Ak fun K6 La Lb Gx Gy=>AFg AFp rfl Ac (fun h' hb=>AB1 Gy hb.ext) (Wo ?_);obtain ⟨Lc,C4,Gz⟩:=ABq Gw;refine AD0 (m:=Af) AEv rfl (Aa.o2 p2) Gx Ak rfl C4 fun Ld G3=>?_;obtain ⟨Le,C5,G4⟩:=(Aa.o2 p2).cells G3 Ak C4;refine ASo (c:=cZ) ACf rfl C5 Ac (fun h' hb j u hu=>AB1 (G4 j u hu) hb.ext) (Wo (Wo (ADf ADv rfl (Aa.o2 p2) rfl Ad fun Lf Lg Lh G5 G6=>AFg AFp rfl Ac (fun h' hb=>AB1 G6 hb.ext) (Wo ?_))));obtain ⟨Li,A5,G7⟩:=ABq Gz;refine AD0 (m:=Ai) AEv rfl (Aa.o2 p2) G5 Ad rfl A5 fun Lj G8=>?_;obtain ⟨Lk,C6,G9⟩:=(Aa.o2 p2).cells G8 Ad A5;refine ASo (c:=cZ) ACf rfl C6 Ac (fun h' hb j u hu=>AB1 (G9 j u hu) hb.ext) ?_;have Bt:=(Aa.az (cZ.upT C5 Ac)).az (cZ.upT C6 Ac);obtain ⟨Ll,Hb,Hc⟩:=ABq G7;refine ADm Ac (fun _ E=>Ac.thenE E) rfl (AQl (Bt.z p1).2 (Bt.z p0).2 Hb) fun Lm Ln C7 Hd=>?_;obtain ⟨Lo,rfl,He⟩:=Hd;have Ae:=Ac.thenE C7;obtain ⟨Lq,rfl,Hf⟩:=He.cs;refine Wo (Wo (ADf ADv rfl (Aa.o2 p2) rfl Ad fun Lr Lv Lw Hg Hh=>AFg AFp rfl Ae (fun h' hb=>AB1 Hh hb.ext) (Wo ?_)));obtain ⟨Lx,C8,Hj⟩:=ABq Hc;refine AD0 (m:=Ai) AEv rfl (Aa.o2 p2) Hg Ad rfl C8 fun Ly Hk=>?_;obtain ⟨Lz,C9,Hl⟩:=(Aa.o2 p2).cells Hk Ad C8;refine ASo (c:=cZ) ACf rfl C9 Ae (fun h' hb j u hu=>AB1 (Hl j u hu) hb.ext) (Wo (Wo (ADf ADv rfl (Aa.o2 p2) rfl Ak fun Ma Mb Mc Hm Hn=>AFg AFp rfl Ae (fun h' hb=>AB1 Hn hb.ext) (Wo ?_))));obtain ⟨Md,Da,Ho⟩:=ABq Hj;refine AD0 (m:=Af) AEv rfl (Aa.o2 p2) Hm Ak rfl Da fun Me Hq=>?_;obtain ⟨Mf,Db,Hr⟩:=(Aa.o2 p2).cells Hq Ak Da;refine ASo (c:=cZ) ACf rfl Db Ae (fun h' hb j u hu=>AB1 (Hr j u hu) hb.ext) ?_;have Bu:=(((Bt.e C7).az Hf).az (cZ.upT C9 Ae)).az (cZ.upT Db Ae);obtain ⟨Mg,Hs,Ht⟩:=ABq Ho;refine ADm Ae (fun _ E=>Ae.thenE E) rfl (AQl (Bu.z p1).2 (Bu.z p0).2 Hs) fun Mh Mi Dc Hu=>?_;obtain ⟨Mj,rfl,Hv⟩:=Hu;have Bv:=Ae.thenE Dc;obtain ⟨Mk,rfl,Hw⟩:=Hv.cs;have Bw:=(Bu.e Dc).az Hw;obtain ⟨Ml,Hx,Hy⟩:=ABq Ht;refine ADm Bv (fun _ E=>Bv.thenE E) rfl (Asg (Bw.z p3).2 (Bw.z p0).2 Hx) fun Mm Mo Dd Hz=>?_;obtain ⟨Mq,rfl,H5⟩:=Hz;have Bx:=Bv.thenE Dd;obtain ⟨Mr,rfl,H9⟩:=H5.cs;have A6:=(Bw.e Dd).az H9;refine AEn Az ACf (cZ.klen (A6.z p8)) rfl Bx (fun h' hb=>((Aa.b p0).ext hb.ext).agg) ?_;obtain ⟨Ia,Ib,Ic⟩:=ABq Hy;refine ADm Bx (fun _ E=>Bx.thenE E) rfl (AJj (A6.z p0).2 (A6.z p8).2 Ib) fun Ms Mt Id Ie=>?_;obtain ⟨Mu,rfl,If⟩:=Ie;obtain ⟨Mv,rfl,Ih⟩:=If.cs;refine AD0 (m:=Ai) AEv rfl (Aa.o2 p2) Gu Ad rfl A5 fun Mw Ii=>?_;have Ax:=(A6.e Id).az Ih;refine AGz (m:=Ai) (ASd ACf (cZ.klen (Ax.z p0)) rfl rfl (cZ.one (Ax.z p0))) (Ax.o2 p10) Ii Ad A5 (Ax.z p0) fun Mx Ij Ik=>ACs (q_b (q_t (AB6 (Wo (ACx rfl rfl (ABv ?_))))));obtain rfl:=ABo Ic;exact ⟨Gq,(((w64 (Cz + 1)),(sI C0 Ai (sI Gr Cz Ia)),C1,C2,C3):(Int) × (LiI) × LnA × LnN × LvA),Nat.lt_succ_self _,⟨Bq,(Ax.uO2 p10 Ik Ij).sel [8,9,10,11] (by decide)⟩,rfl,trivial⟩
     ·obtain rfl:=ABo (AC9 Aw Br);change _=Cy at Bq;subst Bq;refine ACg (ACi (ACi (ADp (q_b (q_t (AB6 (Wo (ACx rfl rfl (ABv ?_)))))))));obtain rfl:=ABo Gk;exact ⟨Gi,(((w64 (Ai + 1)),C0,C1,C2,C3):(Int) × (LiI) × LnA × LnN × LvA),Nat.lt_succ_self _,⟨Bn,Aa⟩,rfl,trivial⟩
    ·obtain rfl:=ABo (AC9 Av Bo);change _=Ct at Bn;subst Bn;refine ACg (ACi (ACi (ADp (q_t (AB6 (Wo (Wo ?_)))))));obtain ⟨My,By,Il⟩:=ABq Gd;refine ADf ADv rfl (Aj.o2 p2) rfl By fun Mz M1 M2 Im Io=>AB3 AFp rfl Io (Wo ?_);obtain ⟨Ip,De,Iq⟩:=ABq Il;refine AD0 (m:=Af) AEv rfl (Aj.o2 p2) Im By rfl De fun M3 Ir=>?_;obtain ⟨Df,Is,It⟩:=(Aj.o2 p2).cells Ir By De;have Am:=Aj.az Is;refine ANm (c:=cZ) ACf rfl (Am.z p0) (fun j u hu=>(It j u hu)) (AC6 Df ACf (cZ.klen (Am.z p0)) (cZ.klen (Am.z p2)) rfl rfl (cZ.one (Am.z p0)) (Am.b p1) fun M4 Iu Iv=>ACs (q_b (q_t ?_)));exact ⟨((F6,Cu,Cv,Cw,Cx,Ip,Df):(Bool) × (LiI) × LnA × LnN × LvA × (Int) × LvA),⟨ABo Iq,(Am.sb p1 Iv Iu rfl).sel [1,0,3,4] (by decide)⟩,rfl,trivial⟩
  rintro ⟨Iw,Ix,Iy,Iz,I0,I1,I2⟩ M5 M6 ⟨I3,I5⟩;subst I3;refine AB6 (Wo (ACx rfl rfl (ABv ?_)));obtain rfl:=ABo Ce;exact ⟨Eg,((Iw,(w64 (Af + 1)),Ix,Iy,Iz,I0,I1,I2):(Bool) × (Int) × (LiI) × LnA × LnN × LvA × (Int) × LvA),Nat.lt_succ_self _,⟨Aq,I5⟩,rfl,rfl,trivial⟩
 ·obtain rfl:=ABo (AC9 Ap Bc);change _=Ba at Aq;subst Aq;refine ACg (ACi (ACi (ADp (q_t (ABr (ABp (Wo (ABt (⟨_,rfl,fun Bz=>?_,fun Bz=>?_⟩)))))))))
  ·refine ABp (AEk Az ACf (cZ.klen (Ab.z p1)) rfl (Ab.b p0).agg ?_);obtain ⟨M7,I6,I7⟩:=ABq (ifT Bb Bz);refine ADc rfl (Ac0 (Ab.z p1).2 I6) fun M8 I9 Ja Jc=>?_;obtain ⟨M9,rfl,Je⟩:=Jc;obtain ⟨Jf,rfl,Jg⟩:=Je.cs;have A7:=(Ab.e Ja).az Jg;refine AC6 Jf ACf (cZ.klen (A7.z p0)) (cZ.klen (ACa I9)) rfl rfl (cZ.one (A7.z p0)) (A7.b p4) fun Na Jh Ji=>ABt (ABx (AB2 ?_));have A8:=A7.sb p4 Ji Jh rfl;obtain rfl:=ABo I7;exact ⟨_,AEe ACf (cZ.klen (A8.z p0)) rfl (A8.b p4),A8.x,_,rfl,(A8.z p0).2⟩
  ·refine ABy (q_t (ABp (AEk Az ACf (cZ.klen (Ab.z p1)) rfl (Ab.b p0).agg (AC6 Az ACf (cZ.klen (Ab.z p1)) (cZ.klen (ACa Ee)) rfl rfl (cZ.one (Ab.z p1)) (Ab.b p3) fun Nb Jj Jk=>ABt (ABx ?_)))));have A9:=Ab.sb p3 Jk Jj rfl;obtain rfl:=ABo (AHo Bb Bz);exact ⟨_,AEe ACf (cZ.klen (A9.z p1)) rfl (A9.b p3),A9.x,_,rfl,(A9.z p1).2⟩
end Go.Proofs.YtdnbklmefmoofaaGreatDoor
namespace Go.Proofs.YtdnbklmefmoofaaGreatDoor
open Go Go.QF
set_option maxRecDepth 100000
theorem Amu {na:Bool} {m:Nat} {z:Int} (h:z=sgn na m):AG8 z=1->z=m:=by
 cases na
 ·intro _;rw [h];rfl
 ·intro h1;rw [h] at h1 ⊢;unfold AG8 sgn at h1;unfold sgn;simp at h1 ⊢;split at h1 <;> (try split at h1) <;> omega
theorem Amv {na:Bool} {m:Nat} {z:Int} (h:z=sgn na m):AG8 z= -1->z= -(m:Int):=by
 cases na
 ·intro h1;rw [h] at h1 ⊢;unfold AG8 sgn at h1;unfold sgn;simp at h1 ⊢;split at h1 <;> (try split at h1) <;> omega
 ·intro _;rw [h];rfl
def AS5 (a b:Int):Int:=if a < b then -1 else if a=b then 0 else 1
theorem Agq {a b:Int} (h:AG8 a≠AG8 b) (h2:AG8 a < AG8 b):AS5 a b= -1:=by
 unfold AG8 at h h2;unfold AS5;repeat' split at h2
 all_goals (rw [if_pos (by omega)])
theorem Agr {a b:Int} (h:AG8 a≠AG8 b) (h2: ¬ AG8 a < AG8 b):AS5 a b=1:=by
 unfold AG8 at h h2;unfold AS5
 rw [if_neg (by
   repeat' split at h2
   all_goals (repeat' split at h)
   all_goals omega),if_neg (by
     repeat' split at h2
     all_goals (repeat' split at h)
     all_goals omega)]
theorem Ac3 {na nb:Bool} {m k:Nat} {a b:Int} (ha:a=sgn na m) (hb:b=sgn nb k) (h:AG8 a=AG8 b):AG8 a * AOa m k=AS5 a b:=by
 have h3:AG8 a= -1∨AG8 a=0∨AG8 a=1:=by unfold AG8;split;exact .inl rfl;split;exact .inr (.inl rfl);exact .inr (.inr rfl)
 rcases h3 with h1 | h1 | h1
 ·have e1:=Amv ha h1;have e2:=Amv hb (h ▸ h1);rw [h1];unfold AOa AS5;repeat' split
  all_goals omega
 ·have z:∀ x:Int,AG8 x=0->x=0:=fun x hx=>by unfold AG8 at hx;repeat' split at hx;all_goals omega
  have e1:=z a h1;have e2:=z b (h ▸ h1);rw [h1,e1,e2];simp [AS5]
 ·have e1:=Amu ha h1;have e2:=Amu hb (h ▸ h1);rw [h1];unfold AOa AS5;repeat' split
  all_goals omega
theorem Apv (a b:Nat): -1<=AOa a b/\AOa a b<=1:=by
 unfold AOa;repeat' split;all_goals omega
theorem Apw (a:Int): -1<=AG8 a/\AG8 a<=1:=by
 unfold AG8;repeat' split;all_goals omega
theorem Apx {x y:Int} (hx: -1<=x/\x<=1) (hy: -1<=y/\y<=1):IntKind.i64.wrap (x * y)=x * y:=by
 obtain ⟨x1,x2⟩:=hx;obtain ⟨y1,y2⟩:=hy;have Aa:x= -1∨x=0∨x=1:=by omega
 have Ab:y= -1∨y=0∨y=1:=by omega
 rcases Aa with rfl | rfl | rfl <;> rcases Ab with rfl | rfl | rfl <;> decide
theorem Apy {h:ABu} {lo:Nat} {va:Value} {z:Int} (HA:ZV h lo va z):ACo Tryz.prog 132 #[va] h fun x h'=>Ext h h'/\ZV h' (Array.size h) x (z.natAbs:Int):=by
 obtain ⟨na,sa,LA,rfl,HDa,htla,hla,hza⟩:=HA.out;have hna:LA.length<=1000000:=by omega
 have hba:nv LA < 4294967296 ^ 100:=Nat.lt_of_lt_of_le (AN5 HDa.dig) (Nat.pow_le_pow_right (by decide) hla);refine AC5 (l:=[_]) mx Tryz.func132 rfl rfl rfl rfl rfl (by kernel_rfl) (ABp (AJh [.bool na,sa] (fun _=>trivial) rfl rfl fun Ag h2 V3 E4 Ao Be=>?_));have Bf:Array.size h<=Ag:=Ao;have Bg:=E4.1;have Z8:=(Ext.refl h).trans E4;refine AGk [.bool false,.slice none 0 0] AGm rfl (fun _=>trivial) fun Aa Bh Aq Ab Ar Bi=>?_;have Bj:Array.size h<=Aa:=Nat.le_trans E4.1 Ar;have nebq1bq9:Ag≠Aa:=by have:=V3.lt;omega
 have Bl:=Ab.1;have Au:=Z8.trans Ab;have Ai:=E4.trans Ab;have Av:=E4.trans Ab;refine AK4 (AHf (fs:=1) AMu (by kernel_rfl) (by decide) rfl (AB3 AI1 rfl ((V3.ext Ab).cell (i:=1) rfl) (ACl trivial rfl (ANo false (HDa.ext Ai) hna hba) fun Bm Bn hk=>?_)));obtain ⟨Ac,Aw⟩:=hk;refine ⟨trivial,?_⟩;have Bo:=Ac.1;have Ax:=Au.trans Ac;have Ay:=Ai.trans Ac;have Az:=Av.trans Ac;have A3:=Aq.ext Ac;have A4:=Ab.trans Ac;obtain ⟨Aj,s3,L3,rfl,Am,A6,A7,A8⟩:=Aw.out;refine AC6 [.bool Aj,s3] ACf rfl rfl rfl rfl (AGl Am.cap) A3 fun Bp A9 Ad=>?_;have Ba:=Ay.thenUpd Ad (fun k hk=>by have Af:k=Aa:=hk;omega);have Bq:=Ad.1;have Br:=Ax.thenUpd Ad (fun k hk=>by have Af:k=Aa:=hk;omega);have Bt:=A4.thenUpd Ad (fun k hk=>by have Af:k=Aa:=hk;omega);have Bu:=Az.thenUpd Ad (fun k hk=>by have Af:k=Aa:=hk;omega);have Bb:=Am.updLo Ad (by omega);refine ABt (ABx (⟨_,AEe ACf rfl rfl A9,?_⟩));exact ⟨Ba,⟨Aj,s3,L3,rfl,Bb.mono (by omega),A6,A7,by rw [<- A8,AGs hza];rfl⟩⟩
theorem Apz {h:ABu} {la lb:Nat} {va vb:Value} {a b:Int} (HA:ZV h la va a) (HB:ZV h lb vb b):ACo Tryz.prog 72 #[va,vb] h fun x h'=>Ext h h'/\x= .int .i64 (AS5 a b):=by
 obtain ⟨na,sa,LA,rfl,HDa,htla,hla,hza⟩:=HA.out;obtain ⟨nb,sb,LB,rfl,HDb,htlb,hlb,hzb⟩:=HB.out;refine AC5 (l:=[_,_]) mx Tryz.func72 rfl rfl rfl rfl rfl (by kernel_rfl) (ABp (AJh [.bool na,sa] (fun _=>trivial) rfl rfl fun Aq h2 V3 E4 A7 B4=>?_));have B5:Array.size h<=Aq:=A7;have B6:=E4.1;have Z8:=(Ext.refl h).trans E4;refine AJh [.bool nb,sb] (fun _=>trivial) rfl rfl fun Au Av Aw Ag A9 B7=>?_;have B8:Array.size h<=Au:=Nat.le_trans E4.1 A9;have nebq1bq9:Aq≠Au:=by have:=V3.lt;omega
 have B9:=Ag.1;have Ba:=Z8.trans Ag;have Ax:=E4.trans Ag;have Ay:=V3.ext Ag;have Bb:=E4.trans Ag;refine ABv (ABr (AEj (fun h'=>Ext Av h') (by kernel_rfl) ?_));have Af:=Ext.refl Av;refine AEn [.bool na,sa] ACf rfl rfl Af (fun h' hb=>(Ay.ext hb).agg) (ACl Af rfl (AU2 (HA.ext Ax)) fun Ca Cb hk=>?_);obtain ⟨Ab,rfl⟩:=hk;have Ai:=Af.trans Ab;refine ⟨Ai,?_⟩;have Cd:=Ab.1;have Bc:=Ba.trans Ab;have Az:=Ax.trans Ab;have Be:=Ay.ext Ab;have Bf:=Bb.trans Ab;have Bg:=Aw.ext Ab;have Bh:=Ag.trans Ab;refine AEn [.bool nb,sb] ACf rfl rfl Ai (fun h' hb=>(Aw.ext hb).agg) (ACl Ai rfl (AU2 (HB.ext Az)) fun Ce A3 hk=>?_);obtain ⟨Ac,rfl⟩:=hk;have Bi:=Ai.trans Ac;refine ⟨Bi,?_⟩;have Cf:=Ac.1;have Bj:=Bc.trans Ac;have Ad:=Az.trans Ac;have A4:=Be.ext Ac;have Bl:=Bf.trans Ac;have A5:=Bg.ext Ac;have Bm:=Bh.trans Ac;refine ACr (ABv (ABr (ABp (Wo (Wo (Ad2 rfl rfl (fun Bn=>?_) (fun Bn=>?_)))))))
 ·refine ABt (ACh rfl (ABr (ABp (Wo (Wo (AGa rfl rfl (fun Bo=>?_) (fun Bo=>?_)))))))
  ·refine ABt (ACh rfl (ABp (ABv (ABx (AB2 (AB2 (⟨_,ABz,?_⟩)))))));first | exact ⟨Ad,congrArg (Value.int .i64) (by rw [Ak,Am];exact Ac3 hza hzb (by omega))⟩ | exact ⟨Ad,congrArg (Value.int .i64) (Agq (by assumption) (by assumption)).symm⟩ | exact ⟨Ad,congrArg (Value.int .i64) (Agr (by assumption) (by omega)).symm⟩
  ·refine ABt (ACn rfl (ABy (q_t (ABp (ABv (ABx (AB2 (⟨_,ABz,?_⟩))))))));first | exact ⟨Ad,congrArg (Value.int .i64) (by rw [Ak,Am];exact Ac3 hza hzb (by omega))⟩ | exact ⟨Ad,congrArg (Value.int .i64) (Agq (by assumption) (by assumption)).symm⟩ | exact ⟨Ad,congrArg (Value.int .i64) (Agr (by assumption) (by omega)).symm⟩
 ·refine ABt (ACn rfl (ABy (q_t (ABr (AEj (fun h'=>Ext A3 h') (by kernel_rfl) ?_)))));have Af:=Ext.refl A3;refine Wo (AHf (fs:=1) AMu (by kernel_rfl) (by decide) rfl (AFg AI1 rfl Af (fun h' hb=>(A4.ext hb).cell (i:=1) rfl) (ACl Af rfl (AJx (DS.ext HDa Ad) (by omega)) fun Cg Ch hk=>?_)));obtain ⟨Ae,L1,Bp,Bq,Ak,Cj⟩:=hk;have Aj:=Af.trans Ae;refine ⟨Aj,?_⟩;have Ck:=Ae.1;have Br:=Bj.trans Ae;have A6:=Ad.trans Ae;have Bt:=A4.ext Ae;have Bu:=Bl.trans Ae;have Bv:=A5.ext Ae;have Bw:=Bm.trans Ae;refine AHf (fs:=1) AMu (by kernel_rfl) (by decide) rfl (AFg AI1 rfl Aj (fun h' hb=>(A5.ext hb).cell (i:=1) rfl) (ACl Aj rfl (AJx (DS.ext HDb A6) (by omega)) fun Cm Bx hk=>?_));obtain ⟨Aa,L2,By,Bz,Am,Co⟩:=hk;have Ao:=Aj.trans Aa;refine ⟨Ao,?_⟩;have Cp:=Aa.1;have Cq:=Br.trans Aa;have Ap:=A6.trans Aa;have Cr:=Bt.ext Aa;have Ct:=Bu.trans Aa;have Cu:=Bv.ext Aa;have Cv:=Bw.trans Aa;have B1:=Bp.ext Aa;refine ACl Ao rfl (AYy B1 By Bq Bz (by omega) (by omega)) fun Cw Bx hk=>?_;obtain ⟨rfl,rfl⟩:=hk;refine ⟨Ao,?_⟩;refine AR7 rfl rfl ?_;rw [Apx (Apw _) (Apv _ _)];refine ABv (ABx (⟨_,ABz,?_⟩));first | exact ⟨Ap,congrArg (Value.int .i64) (by rw [Ak,Am];exact Ac3 hza hzb (by omega))⟩ | exact ⟨Ap,congrArg (Value.int .i64) (Agq (by assumption) (by assumption)).symm⟩ | exact ⟨Ap,congrArg (Value.int .i64) (Agr (by assumption) (by omega)).symm⟩
def Ah9 (fuel:Nat) (a:Int):Option Int:=some (a.natAbs:Int)
def Abp (fuel:Nat) (a b:Int):Option Int:=some (AS5 a b)
theorem Ags {fuel:Nat} {h:ABu} {u:Value} {a r:Int} (H1:ZZ h u a) (hp:Ah9 fuel a=some r):ACo Tryz.prog 132 #[u] h (fun x h'=>Ext h h'/\ ∃ (x0:Value),x=x0/\ZZ h' x0 r):=by
 cases hp;exact (Apy H1).mono fun x h' hk=>⟨hk.1,x,rfl,hk.2.zz⟩
theorem AZ7 {fuel:Nat} {h:ABu} {u v:Value} {a b r:Int} (H1:ZZ h u a) (H2:ZZ h v b) (hp:Abp fuel a b=some r):ACo Tryz.prog 72 #[u,v] h (fun x h'=>Ext h h'/\x= .int .i64 r):=by
 cases hp;exact Apz H1 H2
end Go.Proofs.YtdnbklmefmoofaaGreatDoor
namespace Go.Proofs.YtdnbklmefmoofaaGreatDoor
open Go Go.QF
set_option maxRecDepth 100000
set_option maxHeartbeats 4000000
def AKf (fuel:Nat) (a3:LiI) (Ab:Int) (Af:LiA) (Aa:Int) (Ac:LiI):Option ((Int × LiI) ⊕ (((LiI × Bool)) ⊕ (LiI))):=
  (if Aa < (Af.length:Int) then ((gI a3 Ab).bind fun Ag=>((gI Ag Aa).bind fun Ah=>((AVm fuel Ah).bind fun (Ai,Aj)=>(if (!Aj)=true then (some (Sum.inr<| Sum.inl <| ([],false))) else ((gI Ac Ab).bind fun Ad=>((gI Ad Aa).bind fun Ak=>(some (Sum.inl ((w64 (Aa + 1)),(sI Ac Ab (sI Ad Aa Ai))))))))))) else (some (Sum.inr<| Sum.inr <| Ac)))
def AKg (fuel:Nat) (a3:LiI) (x5 x6 Aa:Int) (Ac:LiI):Option ((Int × LiI) ⊕ (((LiI × Bool)) ⊕ (LiI))):=
  (if Aa < ((List.replicate (Int.toNat x5) ([]:List Int)).length:Int) then (if 0<=x6/\x6<=100000000 then ((gI Ac Aa).bind fun Ai=>((gI (sI Ac Aa (List.replicate (Int.toNat x6) (0:Int))) Aa).bind fun Af=>((iter (fun s=>AKf fuel a3 Aa Af s.1 s.2) fuel (0,(sI Ac Aa (List.replicate (Int.toNat x6) (0:Int))))).bind (fun ex=>match ex with | Sum.inl Ag=>(some (Sum.inr<| Sum.inl <| Ag)) | Sum.inr (Ah)=>(some (Sum.inl ((w64 (Aa + 1)),Ah))))))) else none) else (some (Sum.inr<| Sum.inr <| Ac)))
def AHr (fuel:Nat) (a3:LiI):Option (LiI × Bool):=
  ((AD1 fuel a3).bind fun (x5,x6,x7)=>(if (!x7)=true then (some ([],false)) else (if 0<=x5/\x5<=100000000 then ((iter (fun s=>AKg fuel a3 x5 x6 s.1 s.2) fuel (0,(List.replicate (Int.toNat x5) ([]:List Int)))).bind (fun ex=>match ex with | Sum.inl Ae=>(some Ae) | Sum.inr (Af)=>(some (Af,true)))) else none)))
theorem ARx {fuel:Nat} {h:ABu} {A4:Value} {a3:LiI} {r:(LiI × Bool)} (H2:AEq cZ h A4 a3) (hp:AHr fuel a3=some r):ACo Tryz.prog 40 #[A4] h (fun x h'=>Ext h h'/\ ∃ (x0:Value) (F0:List Nat) (Bt:List LnA) (Bu:List Value),x= .tuple #[x0,.bool r.2]/\AFi (cI .i64) 35 2 h' F0 Bt Bu x0 r.1/\Sp h' h.size [F0]):=by
 unfold AHr at hp;refine cwf (l:=[_]) Tryz.func40 rfl rfl (ABp (ACr (AC4 (Wo ?_))));have K0:=Kst.k0 h;obtain ⟨⟨x5,x6,x7⟩,Bx,Aj⟩:=ABq hp;dsimp only at Aj;refine ADc rfl (AIn (H2.ext K0.x) Bx) fun Dr Ds By Bz=>?_;subst Bz;refine Wo (ADn rfl rfl (ADn rfl rfl (ADn rfl rfl (ACr (ACr (ABv (ABr (ABp (Wo (AEy rfl (ABt ?_)))))))))));have Ba:=K0.e By;refine ⟨_,rfl,fun Ak=>?_,fun Ak=>?_⟩
 ·refine ABp (ACr (ABv (ABx (AB2 ?_))));have Am:=Kst.anil2 (cI .i64) 35 2 Ba;obtain rfl:=ABo (ifT Aj Ak);exact ⟨_,ADt,Am.x,_,_,_,_,rfl,(Am.o2 p0),Am.s.sel [0] (by decide)⟩
 ·refine ABy (q_t (ABp (Wo ?_)));obtain ⟨B1,B3⟩:=ifN (AHo Aj Ak);refine ARf (cI .i64) 2 ACd ANi rfl trivial tt2 rfl rfl (by decide) B1 fun B4 B5 B6 Bb Dt B7 B8 B9=>ABv (ABr (ABp (Wo ?_)));have Ao:=Ba.no2 B8 B9 B7;refine ADa ACd rfl (Ao.o2 p0).rd (Wo (ABt (ABw ?_)));obtain ⟨Ap,Ca,Bc⟩:=ABq B3;obtain ⟨Cb,Cd,Ce⟩:=ACe Ca;refine ACq 4611686018410614540 (fun x:(Int) × (LiI) × LnA × LnN × LvA=>[(24,(.int .i64 x.1))]) (fun k x h'=>iter Cb k (x.1,x.2.1)=some Ap/\Kst h h' (Ao.L.set 0 (aO2 (cI .i64) 35 2 x.2.2.1 x.2.2.2.1 x.2.2.2.2 Bb x.2.1))) (by kernel_rfl) fuel ((0,(List.replicate (Int.toNat x5) ([]:List Int)),B4,B5,B6):(Int) × (LiI) × LnA × LnN × LvA) ?_ ⟨rfl,trivial⟩ ?_
  ·exact ⟨Ce,Ao⟩
  rintro Du ⟨Aa,Cf,Dv,Be,Cg⟩ Dw Dx ⟨Ch,Ai⟩;obtain ⟨Ci,Dy,rfl,Ac,Ad⟩:=AB8 Ch;rw [Cd] at Ac;dsimp only at Ac;unfold AKg at Ac;refine ABp (ACu rfl rfl (ABt (ABr (⟨_,rfl,fun Aq=>?_,fun Aq=>?_⟩))))
  ·refine ABy (q_t (ABr (ABw (ABp (Wo (AC4 (Wo (Wo (Wo ?_)))))))));obtain ⟨Cj,Ck⟩:=ifN (AC8 Ac Aq);refine AQj (c:=(cI .i64)) (a:=0) ACp AL9 rfl rfl (fun _=>rfl) rfl trivial tt2 rfl rfl (by decide) Cj fun Bf Cm Dz Cn Co Cp Cq=>?_;have Ae:=Ai.no Co (AH8 Cp Cq) Cn;obtain ⟨D0,Bg,Cr⟩:=ABq Ck;refine ADf ACd rfl (Ae.o2 p1) rfl Bg fun Ct D1 Cu D2 D3=>ASe AC0 (Ae.o2 p1) Bg Cu rfl rfl (Ae.o p0) (Ae.dj p0 p1 (by decide)) fun D4 Cv Cw Cx=>AK4 (Wo (Wo ?_));have Ar:=Ae.m2 p0 p1 (by decide) Cw Cv (fun z hz=> .inl (Cx z hz));obtain ⟨D5,Bh,Cy⟩:=ABq Cr;refine ADf ACd rfl (Ar.o2 p1) rfl Bh fun D6 D7 D8 Cz C0=>AB3 AC0 rfl C0 (ADi ACp rfl ((Ar.o2 p1).rowI Cz Bh) (Wo (ABt (ABw ?_))));obtain ⟨Au,C1,Bi⟩:=ABq Cy;obtain ⟨C2,C3,C4⟩:=ACe C1;have Av:=Ar.sel [1] (by decide);dsimp only [AIq,ALo] at Av;refine ACq 2305842871774744076 (fun x:(Int) × (LiI) × LnA × LnN × LvA=>[(37,(.int .i64 x.1))]) (fun k x h'=>iter C2 k (x.1,x.2.1)=some Au/\Kst h h' (Av.L.set 0 (aO2 (cI .i64) 35 2 x.2.2.1 x.2.2.2.1 x.2.2.2.2 Bb x.2.1))) (by kernel_rfl) fuel ((0,(sI Cf Aa (List.replicate (Int.toNat x6) (0:Int))),(Ct :: (Be.set (Int.toNat Aa) [Bf]).flatten),(Be.set (Int.toNat Aa) [Bf]),(Cg.set (Int.toNat Aa) Cm)):(Int) × (LiI) × LnA × LnN × LvA) ?_ ⟨rfl,trivial⟩ ?_
   ·exact ⟨C4,Av⟩
   rintro D9 ⟨Bj,Bl,Bm,Bn,Bo⟩ Ea Eb ⟨C5,Ab⟩;obtain ⟨C6,Ec,rfl,Af,Ag⟩:=AB8 C5;rw [C3] at Af;dsimp only at Af;unfold AKf at Af;refine ABp (ACu rfl rfl (ABt (ABr (⟨_,rfl,fun Aw=>?_,fun Aw=>?_⟩))))
   ·refine ABy (q_t (ABr (ABw (ABp (Wo (AC4 (Wo (Wo ?_))))))));obtain ⟨Ed,C7,C8⟩:=ABq (AC8 Af Aw);refine AFj ADv rfl H2 rfl C7 fun Ee Ef Eg C9 Da=>AB3 AFp rfl (AB1 C9 Ab.x) (Wo ?_);obtain ⟨Eh,Db,Dc⟩:=ABq C8;refine AHg (c:=cZ) AEv rfl Da rfl Db fun Ei Ej Ek Bp Dd=>ANm (c:=cZ) ACf rfl (Ab.zx Bp) (fun j u hu=>(AB1 (Dd j u hu) Ab.x)) ?_;obtain ⟨⟨Bq,El⟩,De,Ax⟩:=ABq Dc;dsimp only at Ax;refine ADc rfl (AZ2 (Ab.zx Bp).2 De) fun Em En Df Dg=>?_;subst Dg;refine Wo (ADn rfl rfl (ADn rfl rfl (ACr (ABv (ABr (ABp (Wo (AEy rfl (ABt ?_)))))))));have Ah:=Ab.e Df;refine ⟨_,rfl,fun Ay=>?_,fun Ay=>?_⟩
    ·refine ABp (ACr (ABv ?_));obtain rfl:=ABo (ifT Ax Ay);change _=Au at Ag;subst Ag;obtain rfl:=ABo Bi;change _=Ap at Ad;subst Ad;refine ABx (AB2 (ADb (AB2 (AB2 (ADb (ADb (AB2 (AB2 (ADb (AB2 ?_))))))))));have Az:=Kst.anil2 (cI .i64) 35 2 Ah;obtain rfl:=ABo Bc;exact ⟨_,ADt,Az.x,_,_,_,_,rfl,(Az.o2 p0),Az.s.sel [0] (by decide)⟩
    ·refine ABy (q_t (AB6 (Wo (Wo ?_))));obtain ⟨Dh,A3,Di⟩:=ABq (AHo Ax Ay);refine ADf ACd rfl (Ah.o2 p0) rfl A3 fun Eo Ep Er Dj Dk=>AB3 AC0 rfl Dk (Wo (Wo ?_));obtain ⟨Es,Br,Dl⟩:=ABq Di;refine AD0 (m:=Aa) ACp rfl (Ah.o2 p0) Dj A3 rfl Br fun Et Dn=>AGz (m:=Aa) (AFv ACw rfl rfl rfl) (Ah.o2 p0) Dn A3 Br (show ((cI .i64)).rep _ Bq _ from rfl) fun Eu Do Dp=>ACs (q_b (q_t (AB6 (ACx rfl rfl (Wo (ABt ?_))))));obtain rfl:=ABo Dl;exact ⟨C6,(((w64 (Bj + 1)),(sI Bl Aa (sI Dh Bj Bq)),Bm,Bn,Bo):(Int) × (LiI) × LnA × LnN × LvA),Nat.lt_succ_self _,⟨Ag,(Ah.uO2 p0 Dp Do)⟩,rfl,trivial⟩
   ·obtain rfl:=ABo (AC9 Af Aw);change _=Au at Ag;subst Ag;refine ACg (ACi (ACi (ADp (q_b (q_t (AB6 (ACx rfl rfl (Wo (ABt ?_)))))))));obtain rfl:=ABo Bi;exact ⟨Ci,(((w64 (Aa + 1)),Bl,Bm,Bn,Bo):(Int) × (LiI) × LnA × LnN × LvA),Nat.lt_succ_self _,⟨Ad,Ab⟩,rfl,trivial⟩
  ·obtain rfl:=ABo (AC9 Ac Aq);change _=Ap at Ad;subst Ad;refine ACg (ACi (ACi (ADp (q_t (ABp (Wo (ACr (ABv (ABx ?_)))))))));obtain rfl:=ABo Bc;exact ⟨_,ADt,Ai.x,_,_,_,_,rfl,(Ai.o2 p0),Ai.s.sel [0] (by decide)⟩
def AJn (fuel:Nat) (Ad:LiI) (Aa:Int) (Ab:LiI):Option ((Int × LiI) ⊕ ((LiI))):=
  (if Aa < (Ad.length:Int) then ((gI Ab Aa).bind fun Ac=>((ALi fuel 1).bind fun Ae=>((gI Ac Aa).bind fun Af=>(some (Sum.inl ((w64 (Aa + 1)),(sI Ab Aa (sI Ac Aa Ae)))))))) else (some (Sum.inr<| Ab)))
def AFm (fuel:Nat) (a1:Int):Option (LiI × Bool):=
  (((if a1 < 1 then (some (Sum.inl <| ([],false))) else (if 16 < a1 then (some (Sum.inl <| ([],false))) else (some (Sum.inr <| ())))):Option (((LiI × Bool)) ⊕ (Unit))).bind (fun ex=>match ex with | Sum.inl Ac=>(some Ac) | Sum.inr (_)=>((AE4 fuel a1 a1).bind fun Ab=>((iter (fun s=>AJn fuel Ab s.1 s.2) fuel (0,Ab)).bind (fun (Ad:LiI)=>(some (Ad,true)))))))
theorem ANd {fuel:Nat} {h:ABu} {a1:Int} {r:(LiI × Bool)} (hp:AFm fuel a1=some r):ACo Tryz.prog 38 #[(.int .i64 a1)] h (fun x h'=>Ext h h'/\ ∃ (x0:Value) (F0:List Nat) (A4:List LnA) (A5:List Value),x= .tuple #[x0,.bool r.2]/\AFi cZ 100 90 h' F0 A4 A5 x0 r.1/\Sp h' h.size [F0]):=by
 unfold AFm at hp;refine cwf (l:=[_]) Tryz.func38 rfl rfl (ABp (ACr (ABv ?_)));have K0:=Kst.k0 h;obtain ⟨A6,Ax,Ah⟩:=ABq hp;refine AL7 4044 (fun x:Unit=>[]) (fun x h'=>(Sum.inr <| ())=A6/\Kst h h' (K0.L)) ?_ ?_
 ·refine ABp (Wo (ACu rfl rfl (Wo ?_)));by_cases Af:a1 < 1
  ·rw [decide_eq_true Af];refine AKb 8 true (AB5 rfl (ABt (ACh rfl (ABp (ACr (ABv ?_))))));obtain rfl:=ABo (ifT Ax Af);refine ABx (AB2 ?_);have Ai:=Kst.anil2 cZ 100 90 K0;obtain rfl:=ABo Ah;exact ⟨_,ADt,Ai.x,_,_,_,_,rfl,(Ai.o2 p0),Ai.s.sel [0] (by decide)⟩
  ·have Ay:=ifF Ax Af;rw [decide_eq_false Af];refine AB4 8 false (Wo (AB4 8 false (AGq rfl rfl (AB0 rfl (ABt (⟨_,rfl,fun Aj=>?_,fun Aj=>?_⟩))))))
   ·refine ABp (ACr (ABv ?_));obtain rfl:=ABo (AC8 Ay Aj);refine ABx (AB2 ?_);have Ak:=Kst.anil2 cZ 100 90 K0;obtain rfl:=ABo Ah;exact ⟨_,ADt,Ak.x,_,_,_,_,rfl,(Ak.o2 p0),Ak.s.sel [0] (by decide)⟩
   ·refine ABy (q_t ?_);exact ⟨(():Unit),⟨ABo (AC9 Ay Aj),K0⟩,trivial⟩
 rintro ⟨⟩ Cg Ch ⟨A7,A8⟩;subst A7;refine ABp (Wo (Wo ?_));obtain ⟨A9,Ba,Bb⟩:=ABq Ah;refine ADc rfl (AIw Ba) fun Bc Ci Be Bf=>?_;obtain ⟨Cj,Bg,Bh,Bi,rfl,Bj,Bl⟩:=Bf;refine ABv (ABr (ABp (Wo ?_)));have Am:=A8.no2 Be Bl Bj;refine ADa ADv rfl (Am.o2 p0).rd (Wo (ABt (ABw ?_)));obtain ⟨Az,Bm,Bn⟩:=ABq Bb;obtain ⟨Bo,Bp,Bq⟩:=ACe Bm;refine ACq 268304416 (fun x:(Int) × (LiI) × LnA × LnN × LvA=>[(17,(.int .i64 x.1))]) (fun k x h'=>iter Bo k (x.1,x.2.1)=some Az/\Kst h h' (Am.L.set 0 (aO2 cZ 100 90 x.2.2.1 x.2.2.2.1 x.2.2.2.2 Bc x.2.1))) (by kernel_rfl) fuel ((0,A9,Bg,Bh,Bi):(Int) × (LiI) × LnA × LnN × LvA) ?_ ⟨rfl,trivial⟩ ?_
 ·exact ⟨Bq,Am⟩
 rintro Ck ⟨Ab,Br,Bt,Bu,Bv⟩ Cm Ao ⟨Bw,Aa⟩;obtain ⟨Bx,Cn,rfl,Ac,Ap⟩:=AB8 Bw;rw [Bp] at Ac;dsimp only at Ac;unfold AJn at Ac;refine ABp (ACu rfl rfl (ABt (ABr (⟨_,rfl,fun Aq=>?_,fun Aq=>?_⟩))))
 ·refine ABy (q_t (ABr (ABw (ABp (Wo (ABv (AEj (fun h'=>UpT [] Ao h') (by kernel_rfl) ?_)))))));have Ar:UpT [] Ao Ao:=UpT.start all_nil;refine Wo (Wo ?_);obtain ⟨By,Au,Bz⟩:=ABq (AC8 Ac Aq);refine ADf ADv rfl (Aa.o2 p0) rfl Au fun Co Cp Cq B1 B3=>AFg AFp rfl Ar (fun h' hb=>AB1 B3 hb.ext) (Wo ?_);obtain ⟨B4,B5,B6⟩:=ABq Bz;refine ADm Ar (fun _ E=>Ar.thenE E) rfl (AKs B5) fun Cr Ct B7 B8=>?_;obtain ⟨Cu,rfl,B9⟩:=B8;obtain ⟨Cv,rfl,Ca⟩:=B9.cs;have Ad:=(Aa.e B7).az Ca;obtain ⟨Cw,A3,Cb⟩:=ABq B6;refine AD0 (m:=Ab) AEv rfl (Aa.o2 p0) B1 Au rfl A3 fun Cx Cd=>AGz (m:=Ab) (ASd ACf (cZ.klen (Ad.z p0)) rfl rfl (cZ.one (Ad.z p0))) (Ad.o2 p1) Cd Au A3 (Ad.z p0) fun Cy Ce Cf=>ACs (q_b (q_t (AB6 (ACx rfl rfl (Wo (ABt ?_))))));obtain rfl:=ABo Cb;exact ⟨Bx,(((w64 (Ab + 1)),(sI Br Ab (sI By Ab B4)),Bt,Bu,Bv):(Int) × (LiI) × LnA × LnN × LvA),Nat.lt_succ_self _,⟨Ap,(Ad.uO2 p1 Cf Ce).sel [1] (by decide)⟩,rfl,trivial⟩
 ·obtain rfl:=ABo (AC9 Ac Aq);change _=Az at Ap;subst Ap;refine ACg (ACi (ACi (ADp (q_t (ABp (Wo (ACr (ABv (ABx ?_)))))))));obtain rfl:=ABo Bn;exact ⟨_,ADt,Aa.x,_,_,_,_,rfl,(Aa.o2 p0),Aa.s.sel [0] (by decide)⟩
def AI2 (fuel:Nat) (a3:LiI) (Ab:Int) (Af:LiA) (Aa:Int) (Ac:LiI):Option ((Int × LiI) ⊕ ((LiI))):=
  (if Aa < (Af.length:Int) then ((gI Ac Aa).bind fun Ad=>((gI a3 Ab).bind fun Ag=>((gI Ag Aa).bind fun Ah=>((ASf fuel Ah).bind fun Ai=>((gI Ad Ab).bind fun Aj=>(some (Sum.inl ((w64 (Aa + 1)),(sI Ac Aa (sI Ad Ab Ai)))))))))) else (some (Sum.inr<| Ac)))
def AI3 (fuel:Nat) (a3:LiI) (Aa:Int) (Ac:LiI):Option ((Int × LiI) ⊕ ((LiI))):=
  (if Aa < (a3.length:Int) then ((gI a3 Aa).bind fun Ad=>((iter (fun s=>AI2 fuel a3 Aa Ad s.1 s.2) fuel (0,Ac)).bind (fun (Ae:LiI)=>(some (Sum.inl ((w64 (Aa + 1)),Ae)))))) else (some (Sum.inr<| Ac)))
def AE6 (fuel:Nat) (a3:LiI):Option (LiI × Bool):=
  ((AD1 fuel a3).bind fun (x5,x6,x7)=>(if (!x7)=true then (some ([],false)) else ((AE4 fuel x6 x5).bind fun Ae=>((iter (fun s=>AI3 fuel a3 s.1 s.2) fuel (0,Ae)).bind (fun (Af:LiI)=>(some (Af,true)))))))
theorem AMv {fuel:Nat} {h:ABu} {Av:Value} {a3:LiI} {r:(LiI × Bool)} (H2:AEq cZ h Av a3) (hp:AE6 fuel a3=some r):ACo Tryz.prog 87 #[Av] h (fun x h'=>Ext h h'/\ ∃ (x0:Value) (F0:List Nat) (Bg:List LnA) (Bh:List Value),x= .tuple #[x0,.bool r.2]/\AFi cZ 100 90 h' F0 Bg Bh x0 r.1/\Sp h' h.size [F0]):=by
 unfold AE6 at hp;refine cwf (l:=[_]) Tryz.func87 rfl rfl (ABp (ACr (AC4 (Wo ?_))));have K0:=Kst.k0 h;obtain ⟨⟨x5,x6,x7⟩,Bi,Ai⟩:=ABq hp;dsimp only at Ai;refine ADc rfl (AIn (H2.ext K0.x) Bi) fun Dd De Bj Bl=>?_;subst Bl;refine Wo (ADn rfl rfl (ADn rfl rfl (ADn rfl rfl (ACr (ACr (ABv (ABr (ABp (Wo (AEy rfl (ABt ?_)))))))))));have A3:=K0.e Bj;refine ⟨_,rfl,fun Aj=>?_,fun Aj=>?_⟩
 ·refine ABp (ACr (ABv (ABx (AB2 ?_))));have Ak:=Kst.anil2 cZ 100 90 A3;obtain rfl:=ABo (ifT Ai Aj);exact ⟨_,ADt,Ak.x,_,_,_,_,rfl,(Ak.o2 p0),Ak.s.sel [0] (by decide)⟩
 ·refine ABy (q_t (ABp (Wo (Wo ?_))));obtain ⟨Bm,Bn,Bo⟩:=ABq (AHo Ai Aj);refine ADc rfl (AIw Bn) fun A4 Df Bp Bq=>?_;obtain ⟨Dg,Br,Bt,Bu,rfl,Bv,Bw⟩:=Bq;refine ABv (ABr (ABp (Wo (ADa ADv rfl H2 (Wo (ABt (ABw ?_)))))));have A5:=A3.no2 Bp Bw Bv;obtain ⟨A6,Bx,By⟩:=ABq Bo;obtain ⟨Bz,B1,B3⟩:=ACe Bx;refine ACq 1125899898454784 (fun x:(Int) × (LiI) × LnA × LnN × LvA=>[(23,(.int .i64 x.1))]) (fun k x h'=>iter Bz k (x.1,x.2.1)=some A6/\Kst h h' (A5.L.set 0 (aO2 cZ 100 90 x.2.2.1 x.2.2.2.1 x.2.2.2.2 A4 x.2.1))) (by kernel_rfl) fuel ((0,Bm,Br,Bt,Bu):(Int) × (LiI) × LnA × LnN × LvA) ?_ ⟨rfl,trivial⟩ ?_
  ·exact ⟨B3,A5⟩
  rintro Dh ⟨A7,B4,B5,B6,B7⟩ Di Dj ⟨B8,Ab⟩;obtain ⟨B9,Dk,rfl,Ac,Am⟩:=AB8 B8;rw [B1] at Ac;dsimp only at Ac;unfold AI3 at Ac;refine ABp (ACu rfl rfl (ABt (ABr (⟨_,rfl,fun Ao=>?_,fun Ao=>?_⟩))))
  ·refine ABy (q_t (ABr (ABw (ABp (Wo (AC4 (Wo (Wo ?_))))))));obtain ⟨Dl,Ca,Cb⟩:=ABq (AC8 Ac Ao);refine AFj ADv rfl H2 rfl Ca fun Dn Do Dp Cd Ce=>AB3 AFp rfl (AB1 Cd Ab.x) (ADi AEv rfl Ce (Wo (ABt (ABw ?_))));obtain ⟨A8,Cf,Cg⟩:=ABq Cb;obtain ⟨Ch,Ci,Cj⟩:=ACe Cf;refine ACq 562947805938176 (fun x:(Int) × (LiI) × LnA × LnN × LvA=>[(31,(.int .i64 x.1))]) (fun k x h'=>iter Ch k (x.1,x.2.1)=some A8/\Kst h h' (Ab.L.set 0 (aO2 cZ 100 90 x.2.2.1 x.2.2.2.1 x.2.2.2.2 A4 x.2.1))) (by kernel_rfl) fuel ((0,B4,B5,B6,B7):(Int) × (LiI) × LnA × LnN × LvA) ?_ ⟨rfl,trivial⟩ ?_
   ·exact ⟨Cj,Ab⟩
   rintro Dq ⟨Ah,A9,Ba,Bb,Bc⟩ Dr Ap ⟨Ck,Aa⟩;obtain ⟨Cm,Ds,rfl,Ad,Aq⟩:=AB8 Ck;rw [Ci] at Ad;dsimp only at Ad;unfold AI2 at Ad;refine ABp (ACu rfl rfl (ABt (ABr (⟨_,rfl,fun Ar=>?_,fun Ar=>?_⟩))))
   ·refine ABy (q_t (ABr (ABw (ABp (Wo (ABv (AEj (fun h'=>UpT [] Ap h') (by kernel_rfl) ?_)))))));have Ae:UpT [] Ap Ap:=UpT.start all_nil;refine Wo (Wo ?_);obtain ⟨Cn,Au,Co⟩:=ABq (AC8 Ad Ar);refine ADf ADv rfl (Aa.o2 p0) rfl Au fun Dt Du Dv Cp Cq=>AFg AFp rfl Ae (fun h' hb=>AB1 Cq hb.ext) (Wo (Wo (Wo ?_)));obtain ⟨Dw,Cr,Ct⟩:=ABq Co;refine AFj ADv rfl H2 rfl Cr fun Dx Dy Dz Cu Cv=>AFg AFp rfl Ae (fun h' hb=>AB1 Cu (Aa.x.trans hb.ext)) (Wo ?_);obtain ⟨D0,Cw,Cx⟩:=ABq Ct;refine AHg (c:=cZ) AEv rfl Cv rfl Cw fun D1 D2 D3 Be Cy=>ASo (c:=cZ) ACf rfl Be Ae (fun h' hb j u hu=>AB1 (Cy j u hu) (Aa.x.trans hb.ext)) ?_;obtain ⟨Cz,C0,C1⟩:=ABq Cx;refine ADm Ae (fun _ E=>Ae.thenE E) rfl (ATv (Aa.zx Be).2 C0) fun D4 D5 C2 C3=>?_;obtain ⟨D6,rfl,C4⟩:=C3;obtain ⟨D7,rfl,C5⟩:=C4.cs;have Af:=(Aa.e C2).az C5;obtain ⟨D8,Bf,C6⟩:=ABq C1;refine AD0 (m:=Ah) AEv rfl (Aa.o2 p0) Cp Au rfl Bf fun D9 C7=>AGz (m:=Ah) (ASd ACf (cZ.klen (Af.z p0)) rfl rfl (cZ.one (Af.z p0))) (Af.o2 p1) C7 Au Bf (Af.z p0) fun Ea C8 C9=>ACs (q_b (q_t (AB6 (ACx rfl rfl (Wo (ABt ?_))))));obtain rfl:=ABo C6;exact ⟨Cm,(((w64 (Ah + 1)),(sI A9 Ah (sI Cn A7 Cz)),Ba,Bb,Bc):(Int) × (LiI) × LnA × LnN × LvA),Nat.lt_succ_self _,⟨Aq,(Af.uO2 p1 C9 C8).sel [1] (by decide)⟩,rfl,trivial⟩
   ·obtain rfl:=ABo (AC9 Ad Ar);change _=A8 at Aq;subst Aq;refine ACg (ACi (ACi (ADp (q_b (q_t (AB6 (ACx rfl rfl (Wo (ABt ?_)))))))));obtain rfl:=ABo Cg;exact ⟨B9,(((w64 (A7 + 1)),A9,Ba,Bb,Bc):(Int) × (LiI) × LnA × LnN × LvA),Nat.lt_succ_self _,⟨Am,Aa⟩,rfl,trivial⟩
  ·obtain rfl:=ABo (AC9 Ac Ao);change _=A6 at Am;subst Am;refine ACg (ACi (ACi (ADp (q_t (ABp (Wo (ACr (ABv (ABx ?_)))))))));obtain rfl:=ABo By;exact ⟨_,ADt,Ab.x,_,_,_,_,rfl,(Ab.o2 p0),Ab.s.sel [0] (by decide)⟩
def AMh (fuel:Nat) (a3 a7:LiA) (Aa Ac:Int):Option ((Int × Int) ⊕ ((Int))):=
  (if Aa < (a3.length:Int) then ((gI a3 Aa).bind fun Ae=>((gI a7 Aa).bind fun Af=>((ARl fuel Ae Af).bind fun Ag=>((Ah6 fuel Ac Ag).bind fun Ah=>(some (Sum.inl ((w64 (Aa + 1)),Ah))))))) else (some (Sum.inr<| Ac)))
def AI8 (fuel:Nat) (a3 a7:LiA):Option Int:=
  ((iter (fun s=>AMh fuel a3 a7 s.1 s.2) fuel (0,0)).bind (fun (Ac:Int)=>(some Ac)))
theorem ATy {fuel:Nat} {h:ABu} {Am:Value} {a3:LiA} {Ap:Value} {a7:LiA} {r:Int} (H2:SlC cZ h Am a3) (H6:SlC cZ h Ap a7) (hp:AI8 fuel a3 a7=some r):ACo Tryz.prog 139 #[Am,Ap] h (fun x h'=>Ext h h'/\ ∃ (x0:Value),x=x0/\ZZ h' x0 r):=by
 unfold AI8 at hp;refine cwf (l:=[_,_]) Tryz.func139 rfl rfl (ABp (ADj [.bool false,.slice none 0 0] AGm rfl trivial tt2 fun b9 Ci A7 A8 A9=>AK4 (AG7 (APf ) (ADj [.bool false,.slice none 0 0] AGm rfl trivial tt2 fun Ba Ag Bb Bc Be=>?_))));have Av:=((Kst.k0 h).nb A8 A9 A7).nb Bc Be Bb;refine AC6 [Value.bool false,Value.slice none 0 0] ACf (cZ.klen (ACa Ag)) (cZ.klen (ACa Ag)) rfl rfl (cZ.one (ACa Ag)) (Av.b p0) fun Bf Bg Bh=>ABt (ABr (ABp (Wo (ADi AEv rfl H2 (Wo (ABt (ABw ?_)))))));obtain ⟨Aw,Bi,Bj⟩:=ABq hp;obtain ⟨Bl,Bm,Bn⟩:=ACe Bi;have Ax:=(Av.sb p0 Bh Bg rfl).az (ACa Bf);refine ACq 33553472 (fun x:(Int) × (Int) × LvA=>[(10,(.int .i64 x.1))]) (fun k x h'=>iter Bl k (x.1,x.2.1)=some Aw/\Kst h h' ((Ax.L.set 0 (aZ x.2.2 x.2.1)).set 1 (aB 90 Ba x.2.2))) (by kernel_rfl) fuel ((0,0,[Value.bool false,Value.slice none 0 0]):(Int) × (Int) × LvA) ?_ ⟨rfl,trivial⟩ ?_
 ·exact ⟨Bn,Ax⟩
 rintro Cj ⟨Bo,Ck,Ah⟩ Cm Ae ⟨Bp,Aa⟩;obtain ⟨Bq,Cn,rfl,Ac,Ai⟩:=AB8 Bp;rw [Bm] at Ac;dsimp only at Ac;unfold AMh at Ac;refine ABp (ACu rfl rfl (ABt (ABr (⟨_,rfl,fun Aj=>?_,fun Aj=>?_⟩))))
 ·refine ABy (q_t (ABr (ABw (ABp (Wo (ABv (AEj (fun h'=>UpT [] Ae h') (by kernel_rfl) ?_)))))));have Ab:UpT [] Ae Ae:=UpT.start all_nil;refine AEn Ah ACf (cZ.klen (Aa.z p0)) rfl Ab (fun h' hb=>((Aa.b p1).ext hb.ext).agg) (Wo (Wo ?_));obtain ⟨Co,Br,Bt⟩:=ABq (AC8 Ac Aj);refine AHg (c:=cZ) AEv rfl H2 rfl Br fun Cp Cq Cr Ay Bu=>ASo (c:=cZ) ACf rfl Ay Ab (fun h' hb j u hu=>AB1 (Bu j u hu) (Aa.x.trans hb.ext)) (Wo (Wo ?_));obtain ⟨Ct,Bv,Bw⟩:=ABq Bt;refine AHg (c:=cZ) AEv rfl H6 rfl Bv fun Cu Cv Cw Az Bx=>ASo (c:=cZ) ACf rfl Az Ab (fun h' hb j u hu=>AB1 (Bx j u hu) (Aa.x.trans hb.ext)) ?_;obtain ⟨Cx,By,Bz⟩:=ABq Bw;refine ADm Ab (fun _ E=>Ab.thenE E) rfl (AQl (Aa.zx Ay).2 (Aa.zx Az).2 By) fun Cy Cz A3 B1=>?_;obtain ⟨C0,rfl,B3⟩:=B1;have A4:=Ab.thenE A3;obtain ⟨C1,rfl,B4⟩:=B3.cs;have Ak:=(Aa.e A3).az B4;obtain ⟨B5,B6,B7⟩:=ABq Bz;refine ADm A4 (fun _ E=>A4.thenE E) rfl (Agk (Ak.z p1).2 (Ak.z p0).2 B6) fun C2 C3 B8 B9=>?_;obtain ⟨C4,rfl,Ca⟩:=B9;obtain ⟨A5,rfl,Cb⟩:=Ca.cs;have Ad:=(Ak.e B8).az Cb;refine AC6 A5 ACf (cZ.klen (Ad.z p0)) (cZ.klen (Ad.z p2)) rfl rfl (cZ.one (Ad.z p0)) (Ad.b p3) fun C5 Cd Ce=>ACs (q_b (q_t (AB6 (ACx rfl rfl (Wo (ABt ?_))))));obtain rfl:=ABo B7;exact ⟨Bq,(((w64 (Bo + 1)),B5,A5):(Int) × (Int) × LvA),Nat.lt_succ_self _,⟨Ai,(Ad.sb p3 Ce Cd rfl).sel [0,3,4] (by decide)⟩,rfl,trivial⟩
 ·obtain rfl:=ABo (AC9 Ac Aj);change _=Aw at Ai;subst Ai;refine ACg (ACi (ACi (ADp (q_t (ABp (AEk Ah ACf (cZ.klen (Aa.z p0)) rfl (Aa.b p1).agg (AC6 Ah ACf (cZ.klen (Aa.z p0)) (cZ.klen (ACa Ae)) rfl rfl (cZ.one (Aa.z p0)) (Aa.b p2) fun C6 Cf Cg=>ABt (ABx ?_))))))));have Af:=Aa.sb p2 Cg Cf rfl;obtain rfl:=ABo Bj;exact ⟨_,AEe ACf (cZ.klen (Af.z p0)) rfl (Af.b p2),Af.x,_,rfl,(Af.z p0).2⟩
def AMi (fuel:Nat) (a3 Ad:LiI) (Ab Aa:Int) (Ac:LiI):Option ((Int × LiI) ⊕ ((LiI))):=
  (if Aa < (Ad.length:Int) then ((gI Ac Ab).bind fun Ae=>((gI a3 Ab).bind fun Ag=>((gI Ad Aa).bind fun Ah=>((AI8 fuel Ag Ah).bind fun Ai=>((gI Ae Aa).bind fun Aj=>(some (Sum.inl ((w64 (Aa + 1)),(sI Ac Ab (sI Ae Aa Ai)))))))))) else (some (Sum.inr<| Ac)))
def AMj (fuel:Nat) (a3 Ad:LiI) (Aa:Int) (Ac:LiI):Option ((Int × LiI) ⊕ ((LiI))):=
  (if Aa < (a3.length:Int) then ((iter (fun s=>AMi fuel a3 Ad Aa s.1 s.2) fuel (0,Ac)).bind (fun (Ae:LiI)=>(some (Sum.inl ((w64 (Aa + 1)),Ae))))) else (some (Sum.inr<| Ac)))
def AI9 (fuel:Nat) (a3 a7:LiI):Option (LiI × Bool):=
  ((AD1 fuel a3).bind fun (x9,Ad,Ae)=>((AE6 fuel a7).bind fun (Ac,Af)=>(((if (!Ae)=true then (some (Sum.inl <| ([],false))) else (if (!Af)=true then (some (Sum.inl <| ([],false))) else (if ¬ (a7.length:Int)=Ad then (some (Sum.inl <| ([],false))) else (some (Sum.inr <| ()))))):Option (((LiI × Bool)) ⊕ (Unit))).bind (fun ex=>match ex with | Sum.inl Ag=>(some Ag) | Sum.inr (_)=>((AE4 fuel (a3.length:Int) (Ac.length:Int)).bind fun Ah=>((iter (fun s=>AMj fuel a3 Ac s.1 s.2) fuel (0,Ah)).bind (fun (Ai:LiI)=>(some (Ai,true)))))))))
theorem ATz {fuel:Nat} {h:ABu} {Ay:Value} {a3:LiI} {A3:Value} {a7:LiI} {r:(LiI × Bool)} (H2:AEq cZ h Ay a3) (H6:AEq cZ h A3 a7) (hp:AI9 fuel a3 a7=some r):ACo Tryz.prog 88 #[Ay,A3] h (fun x h'=>Ext h h'/\ ∃ (x0:Value) (F0:List Nat) (Bw:List LnA) (Bx:List Value),x= .tuple #[x0,.bool r.2]/\AFi cZ 100 90 h' F0 Bw Bx x0 r.1/\Sp h' h.size [F0]):=by
 unfold AI9 at hp;refine cwf (l:=[_,_]) Tryz.func88 rfl rfl (ABp (ACr (AC4 (Wo ?_))));have K0:=Kst.k0 h;obtain ⟨⟨x9,Dv,By⟩,Bz,A9⟩:=ABq hp;dsimp only at A9;refine ADc rfl (AIn (H2.ext K0.x) Bz) fun Dw Dx B1 B3=>?_;subst B3;refine Wo (ADn rfl rfl (ADn rfl rfl (ADn rfl rfl (ACr (ACr (AC4 (Wo ?_)))))));have Ba:=K0.e B1;obtain ⟨⟨Dy,B4⟩,B5,Bb⟩:=ABq A9;dsimp only at Bb;refine ADc rfl (AMv (H6.ext Ba.x) B5) fun Dz D0 B6 B7=>?_;obtain ⟨D1,D2,D3,D4,rfl,B8,B9⟩:=B7;refine Wo (ADn rfl rfl (ADn rfl rfl (ACr (ABv ?_))));have Ac:=Ba.no2 B6 B9 B8;obtain ⟨Ca,Bc,Ai⟩:=ABq Bb;refine AL7 137405399088 (fun x:Unit=>[]) (fun x h'=>(Sum.inr <| ())=Ca/\Kst h h' (Ac.L)) ?_ ?_
 ·refine ABp (Wo (AEy rfl (Wo ?_)));cases Be:(!By)
  ·refine AB4 27 false (Wo (AB4 27 false (AEy rfl (AB0 rfl (Wo ?_)))));have Bf:=AHo Bc Be;cases Bg:(!B4)
   ·refine AB4 31 false (Wo (AB4 31 false (ADa ADv rfl H6 (AB4 31 false (Wo (AB4 31 false (AEt rfl rfl (AB0 rfl (ABt ?_)))))))));have Bh:=AHo Bf Bg;refine ⟨_,rfl,fun Ak=>?_,fun Ak=>?_⟩
    ·refine ABp (ACr (ABv ?_));obtain rfl:=ABo (AC8 Bh Ak);refine ABx (AB2 ?_);have Am:=Kst.anil2 cZ 100 90 Ac;obtain rfl:=ABo Ai;exact ⟨_,ADt,Am.x,_,_,_,_,rfl,(Am.o2 p0),Am.s.sel [0] (by decide)⟩
    ·refine ABy (q_t ?_);exact ⟨(():Unit),⟨ABo (AC9 Bh Ak),Ac⟩,trivial⟩
   ·refine AFf 31 true (AB5 rfl (ABt (ACh rfl (ABp (ACr (ABv ?_))))));obtain rfl:=ABo (ifT Bf Bg);refine ABx (AB2 ?_);have Ao:=Kst.anil2 cZ 100 90 Ac;obtain rfl:=ABo Ai;exact ⟨_,ADt,Ao.x,_,_,_,_,rfl,(Ao.o2 p0),Ao.s.sel [0] (by decide)⟩
  ·refine AKb 27 true (AB5 rfl (Wo (AFf 31 true (AB5 rfl (ABt (ACh rfl (ABp (ACr (ABv ?_)))))))));obtain rfl:=ABo (ifT Bc Be);refine ABx (AB2 ?_);have Ap:=Kst.anil2 cZ 100 90 Ac;obtain rfl:=ABo Ai;exact ⟨_,ADt,Ap.x,_,_,_,_,rfl,(Ap.o2 p0),Ap.s.sel [0] (by decide)⟩
 rintro ⟨⟩ D5 D6 ⟨Cb,Bi⟩;subst Cb;refine ABp (Wo (ADa ADv rfl H2 (Wo (ADa ADv rfl (Bi.o2 p0).rd ?_))));obtain ⟨Cd,Ce,Cf⟩:=ABq Ai;refine ADc rfl (AIw Ce) fun Bj D7 Cg Ch=>?_;obtain ⟨D8,Ci,Cj,Ck,rfl,Cm,Cn⟩:=Ch;refine ABv (ABr (ABp (Wo (ADa ADv rfl H2 (Wo (ABt (ABw ?_)))))));have Bl:=Bi.no2 Cg Cn Cm;obtain ⟨Bm,Co,Cp⟩:=ABq Cf;obtain ⟨Cq,Cr,Ct⟩:=ACe Co;refine ACq 590295792766519619584 (fun x:(Int) × (LiI) × LnA × LnN × LvA=>[(44,(.int .i64 x.1))]) (fun k x h'=>iter Cq k (x.1,x.2.1)=some Bm/\Kst h h' (Bl.L.set 0 (aO2 cZ 100 90 x.2.2.1 x.2.2.2.1 x.2.2.2.2 Bj x.2.1))) (by kernel_rfl) fuel ((0,Cd,Ci,Cj,Ck):(Int) × (LiI) × LnA × LnN × LvA) ?_ ⟨rfl,trivial⟩ ?_
 ·exact ⟨Ct,Bl⟩
 rintro D9 ⟨Aj,Cu,Cv,Cw,Cx⟩ Ea Eb ⟨Cy,Ab⟩;obtain ⟨Cz,Ec,rfl,Ad,Aq⟩:=AB8 Cy;rw [Cr] at Ad;dsimp only at Ad;unfold AMj at Ad;refine ABp (ACu rfl rfl (ABt (ABr (⟨_,rfl,fun Ar=>?_,fun Ar=>?_⟩))))
 ·refine ABy (q_t (ABr (ABw (ABp (Wo (AC4 (Wo (ADa ADv rfl (Ab.o2 p1).rd (Wo (ABt (ABw ?_)))))))))));obtain ⟨Bn,C0,C1⟩:=ABq (AC8 Ad Ar);obtain ⟨C2,C3,C4⟩:=ACe C0;refine ACq 295147342229399412736 (fun x:(Int) × (LiI) × LnA × LnN × LvA=>[(49,(.int .i64 x.1))]) (fun k x h'=>iter C2 k (x.1,x.2.1)=some Bn/\Kst h h' (Ab.L.set 0 (aO2 cZ 100 90 x.2.2.1 x.2.2.2.1 x.2.2.2.2 Bj x.2.1))) (by kernel_rfl) fuel ((0,Cu,Cv,Cw,Cx):(Int) × (LiI) × LnA × LnN × LvA) ?_ ⟨rfl,trivial⟩ ?_
  ·exact ⟨C4,Ab⟩
  rintro Ed ⟨Bo,Bp,Bq,Br,Bt⟩ Ee Au ⟨C5,Aa⟩;obtain ⟨C6,Ef,rfl,Ae,Av⟩:=AB8 C5;rw [C3] at Ae;dsimp only at Ae;unfold AMi at Ae;refine ABp (ACu rfl rfl (ABt (ABr (⟨_,rfl,fun Aw=>?_,fun Aw=>?_⟩))))
  ·refine ABy (q_t (ABr (ABw (ABp (Wo (ABv (AEj (fun h'=>UpT [] Au h') (by kernel_rfl) ?_)))))));have Af:UpT [] Au Au:=UpT.start all_nil;refine Wo (Wo ?_);obtain ⟨C7,Ax,C8⟩:=ABq (AC8 Ae Aw);refine ADf ADv rfl (Aa.o2 p0) rfl Ax fun Eg Eh Ei C9 Da=>AFg AFp rfl Af (fun h' hb=>AB1 Da hb.ext) (Wo (Wo (Wo ?_)));obtain ⟨Ej,Db,Dc⟩:=ABq C8;refine AFj ADv rfl H2 rfl Db fun Ek El Em Dd De=>AFg AFp rfl Af (fun h' hb=>AB1 Dd (Aa.x.trans hb.ext)) (Wo (Wo ?_));obtain ⟨En,Bu,Df⟩:=ABq Dc;refine ADf ADv rfl (Aa.o2 p1) rfl Bu fun Eo Ep Er Dg Dh=>AFg AFp rfl Af (fun h' hb=>AB1 Dh hb.ext) ?_;obtain ⟨Di,Dj,Dk⟩:=ABq Df;refine ADm Af (fun _ E=>Af.thenE E) rfl (ATy (De.ext Aa.x) ((Aa.o2 p1).rowI Dg Bu) Dj) fun Es Et Dl Dn=>?_;obtain ⟨Eu,rfl,Do⟩:=Dn;obtain ⟨Ev,rfl,Dp⟩:=Do.cs;have Ag:=(Aa.e Dl).az Dp;obtain ⟨Ew,Bv,Dq⟩:=ABq Dk;refine AD0 (m:=Aj) AEv rfl (Aa.o2 p0) C9 Ax rfl Bv fun Ey Dr=>AGz (m:=Aj) (ASd ACf (cZ.klen (Ag.z p0)) rfl rfl (cZ.one (Ag.z p0))) (Ag.o2 p1) Dr Ax Bv (Ag.z p0) fun Ez Ds Dt=>ACs (q_b (q_t (AB6 (ACx rfl rfl (Wo (ABt ?_))))));obtain rfl:=ABo Dq;exact ⟨C6,(((w64 (Bo + 1)),(sI Bp Aj (sI C7 Bo Di)),Bq,Br,Bt):(Int) × (LiI) × LnA × LnN × LvA),Nat.lt_succ_self _,⟨Av,(Ag.uO2 p1 Dt Ds).sel [1,2] (by decide)⟩,rfl,trivial⟩
  ·obtain rfl:=ABo (AC9 Ae Aw);change _=Bn at Av;subst Av;refine ACg (ACi (ACi (ADp (q_b (q_t (AB6 (ACx rfl rfl (Wo (ABt ?_)))))))));obtain rfl:=ABo C1;exact ⟨Cz,(((w64 (Aj + 1)),Bp,Bq,Br,Bt):(Int) × (LiI) × LnA × LnN × LvA),Nat.lt_succ_self _,⟨Aq,Aa⟩,rfl,trivial⟩
 ·obtain rfl:=ABo (AC9 Ad Ar);change _=Bm at Aq;subst Aq;refine ACg (ACi (ACi (ADp (q_t (ABp (Wo (ACr (ABv (ABx ?_)))))))));obtain rfl:=ABo Cp;exact ⟨_,ADt,Ab.x,_,_,_,_,rfl,(Ab.o2 p0),Ab.s.sel [0] (by decide)⟩
def AD7 (fuel:Nat) (a3 a7:LiI):Option LiI:=
  ((AI9 fuel a3 a7).bind fun (x9,Ad)=>(some x9))
theorem AJy {fuel:Nat} {h:ABu} {Ac:Value} {a3:LiI} {Ae:Value} {a7 r:LiI} (H2:AEq cZ h Ac a3) (H6:AEq cZ h Ae a7) (hp:AD7 fuel a3 a7=some r):ACo Tryz.prog 42 #[Ac,Ae] h (fun x h'=>Ext h h'/\ ∃ (x0:Value) (F0:List Nat) (Am:List LnA) (Ao:List Value),x=x0/\AFi cZ 100 90 h' F0 Am Ao x0 r/\Sp h' h.size [F0]):=by
 unfold AD7 at hp;refine cwf (l:=[_,_]) Tryz.func42 rfl rfl (ABp (AC4 (Wo (Wo ?_))));have K0:=Kst.k0 h;obtain ⟨⟨x9,Ax⟩,Ap,Ai⟩:=ABq hp;dsimp only at Ai;refine ADc rfl (ATz (H2.ext K0.x) (H6.ext K0.x) Ap) fun Ay Az Aq Ar=>?_;obtain ⟨A3,A4,A5,A6,rfl,Au,Av⟩:=Ar;refine Wo (ADn rfl rfl (ADn rfl rfl (ACr (AC4 (Wo (ABv (ABx ?_)))))));have Ab:=K0.no2 Aq Av Au;obtain rfl:=ABo Ai;exact ⟨_,ABz,Ab.x,_,_,_,_,rfl,(Ab.o2 p0),Ab.s.sel [0] (by decide)⟩
def AK9 (fuel:Nat) (a1:Int) (Aa:LiA) (Ab:Int):Option ((LiA × Int) ⊕ ((LiA))):=
  (if Ab < a1 then (if Aa.length<=100000000 then (some (Sum.inl ((Aa ++ [Ab]),(w64 (Ab + 1))))) else none) else (some (Sum.inr<| Aa)))
def AGt (fuel:Nat) (a1 a2:Int):Option LiA:=
  ((iter (fun s=>AK9 fuel a1 s.1 s.2) fuel ([],0)).bind (fun (Aa:LiA)=>(if Aa.length<=100000000 then (some (Aa ++ [a2])) else none)))
theorem AOe {fuel:Nat} {h:ABu} {a1 a2:Int} {r:LiA} (hp:AGt fuel a1 a2=some r):ACo Tryz.prog 131 #[(.int .i64 a1),(.int .i64 a2)] h (fun x h'=>Ext h h'/\ ∃ (x0:Value) (F0:List Nat),x=x0/\OwC (cI .i64) 3 h' F0 x0 r/\Sp h' h.size [F0]):=by
 unfold AGt at hp;refine cwf (l:=[_,_]) Tryz.func131 rfl rfl (ABp (AC4 (ABv (ABr (ABp (ABv (ABw ?_)))))));have K4:=Kst.anil (cI .i64) 3 (Kst.k0 h);obtain ⟨Am,Ao,Ap⟩:=ABq hp;obtain ⟨Aq,Ar,Au⟩:=ACe Ao;refine ACq 65504 (fun x:(LiA) × (Value) × LnA × (Int)=>[(5,x.2.1),(6,(.int .i64 x.2.2.2))]) (fun k x h'=>iter Aq k (x.1,x.2.2.2)=some Am/\Kst h h' (K4.L.set 0 (aO (cI .i64) 3 x.2.2.1 x.2.1 x.1))) (by kernel_rfl) fuel (([],(.slice none 0 0),[],0):(LiA) × (Value) × LnA × (Int)) ?_ ⟨rfl,rfl,trivial⟩ ?_
 ·exact ⟨Au,K4⟩
 rintro Be ⟨Av,Bf,Bg,Ac⟩ Bh Bi ⟨Aw,Ad⟩;obtain ⟨Ax,Bj,rfl,Aa,Ae⟩:=AB8 Aw;rw [Ar] at Aa;dsimp only at Aa;unfold AK9 at Aa;refine ABr (ABp (Wo (Wo (ACu rfl rfl (ABt (⟨_,rfl,fun Af=>?_,fun Af=>?_⟩))))))
 ·refine ABy (q_t (ABr (ABw (AB6 (Wo (Wo ?_))))));obtain ⟨Ay,Az⟩:=ifN (AC8 Aa Af);refine AM9 AV0 AWa rfl rfl trivial tt2 (fun _=>rfl) rfl (show ((cI .i64)).rep _ Ac [(.int .i64 Ac)] from rfl) (Ad.o p0) (by decide) Ay fun Bl A3 A4 Bm A5 A6 A7=>ACr (ACs (q_b (q_t (AB6 (Wo (ACx rfl rfl (ABv ?_)))))));obtain rfl:=ABo Az;exact ⟨Ax,(((Av ++ [Ac]),A4,A3,(w64 (Ac + 1))):(LiA) × (Value) × LnA × (Int)),Nat.lt_succ_self _,⟨Ae,(Ad.uo p0 A6 A5 A7)⟩,rfl,rfl,trivial⟩
 ·obtain rfl:=ABo (AC9 Aa Af);change _=Am at Ae;subst Ae;refine ACg (ACi (ACi (ADp (q_t (ABp (Wo (Wo ?_)))))));obtain ⟨A8,A9⟩:=ifN Ap;refine AM9 AV0 AWa rfl rfl trivial tt2 (fun _=>rfl) rfl (show ((cI .i64)).rep _ a2 [(.int .i64 a2)] from rfl) (Ad.o p0) (by decide) A8 fun Bn Bo Bp Bq Ba Bb Bc=>ABv (ABx ?_);have Ag:=Ad.uo p0 Bb Ba Bc;obtain rfl:=ABo A9;exact ⟨_,ABz,Ag.x,_,_,rfl,(Ag.o p0),Ag.s.sel [0] (by decide)⟩
def AJz (fuel:Nat) (a3:LiI) (x5:Int) (Ab:LiA) (Aa:Int):Option ((LiA × Int) ⊕ ((LiA))):=
  (if Aa < x5 then ((AGt fuel Aa Aa).bind fun Ae=>((AGt fuel Aa Aa).bind fun Af=>((AGb fuel a3 Ae Af).bind fun Ag=>((AC7 fuel Ag).bind fun Ah=>(if Ab.length<=100000000 then (some (Sum.inl ((Ab ++ [Ah]),(w64 (Aa + 1))))) else none))))) else (some (Sum.inr<| Ab)))
def AE0 (fuel:Nat) (a3:LiI):Option (LiA × Bool):=
  ((AFc fuel a3).bind fun (x5,x6)=>(if (!x6)=true then (some ([],false)) else ((iter (fun s=>AJz fuel a3 x5 s.1 s.2) fuel ([],0)).bind (fun (Ad:LiA)=>(some (Ad,true))))))
theorem AJ0 {fuel:Nat} {h:ABu} {Aj:Value} {a3:LiI} {r:(LiA × Bool)} (H2:AEq cZ h Aj a3) (hp:AE0 fuel a3=some r):ACo Tryz.prog 77 #[Aj] h (fun x h'=>Ext h h'/\ ∃ (x0:Value) (F0:List Nat),x= .tuple #[x0,.bool r.2]/\OwC cZ 90 h' F0 x0 r.1/\Sp h' h.size [F0]):=by
 unfold AE0 at hp;refine cwf (l:=[_]) Tryz.func77 rfl rfl (ABp (ACr (AC4 (Wo ?_))));have K0:=Kst.k0 h;obtain ⟨⟨x5,x6⟩,Ax,Ad⟩:=ABq hp;dsimp only at Ad;refine ADc rfl (AN6 (H2.ext K0.x) Ax) fun Cg Ch E9 Az=>?_;subst Az;refine Wo (ADn rfl rfl (ADn rfl rfl (ACr (ABv (ABr (ABp (Wo (AEy rfl (ABt ?_)))))))));have Ar:=K0.e E9;refine ⟨_,rfl,fun Ae=>?_,fun Ae=>?_⟩
 ·refine ABp (ACr (ABv (ABx (AB2 ?_))));have Af:=Kst.anil cZ 90 Ar;obtain rfl:=ABo (ifT Ad Ae);exact ⟨_,ADt,Af.x,_,_,rfl,(Af.o p0),Af.s.sel [0] (by decide)⟩
 ·refine ABy (q_t (ABp (ABv (ABr (ABp (ABv (ABw ?_)))))));have Au:=Kst.anil cZ 90 Ar;obtain ⟨Av,A3,A4⟩:=ABq (AHo Ad Ae);obtain ⟨A5,A6,A7⟩:=ACe A3;refine ACq 4294934720 (fun x:(LiA) × (Value) × LnA × (Int)=>[(6,x.2.1),(7,(.int .i64 x.2.2.2))]) (fun k x h'=>iter A5 k (x.1,x.2.2.2)=some Av/\Kst h h' (Au.L.set 0 (aO cZ 90 x.2.2.1 x.2.1 x.1))) (by kernel_rfl) fuel (([],(.slice none 0 0),[],0):(LiA) × (Value) × LnA × (Int)) ?_ ⟨rfl,rfl,trivial⟩ ?_
  ·exact ⟨A7,Au⟩
  rintro Ci ⟨A8,Cj,Ck,A9⟩ Cm Cn ⟨Ba,Ab⟩;obtain ⟨Bb,Co,rfl,Aa,Ag⟩:=AB8 Ba;rw [A6] at Aa;dsimp only at Aa;unfold AJz at Aa;refine ABr (ABp (Wo (Wo (ACu rfl rfl (ABt (⟨_,rfl,fun Ah=>?_,fun Ah=>?_⟩))))))
  ·refine ABy (q_t (ABr (ABw (AB6 (Wo (Wo (Wo (Wo ?_))))))));obtain ⟨Cp,Bc,Be⟩:=ABq (AC8 Aa Ah);refine ADc rfl (AOe Bc) fun Cq Cr Bf Bg=>?_;obtain ⟨Ct,Cu,rfl,Bh,Bi⟩:=Bg;refine Wo (Wo ?_);obtain ⟨Cv,Bj,Bl⟩:=ABq Be;refine ADc rfl (AOe Bj) fun Cw Cx Bm Bn=>?_;obtain ⟨Cy,Cz,rfl,Bo,Bp⟩:=Bn;have Ac:=(Ab.no Bf Bi Bh).no Bm Bp Bo;obtain ⟨C0,Bq,Br⟩:=ABq Bl;refine ADc rfl (AN7 (H2.ext Ac.x) (Ac.o p1).rd (Ac.o p0).rd Bq) fun C1 C2 Bt Bu=>?_;obtain ⟨C3,C4,C5,C6,rfl,Bv,Bw⟩:=Bu;have Aw:=Ac.no2 Bt Bw Bv;obtain ⟨Bx,By,Bz⟩:=ABq Br;refine ADc rfl (AEi (Aw.o2 p0).rd By) fun C7 C8 B1 B3=>?_;obtain ⟨C9,rfl,B4⟩:=B3;obtain ⟨Da,rfl,B5⟩:=B4.cs;have Ai:=(Aw.e B1).az B5;obtain ⟨B6,B7⟩:=ifN Bz;refine AM9 AEv AGm rfl rfl trivial tt2 (fun _=>rfl) rfl (Ai.z p0) (Ai.o p4) (by decide) B6 fun Db B8 B9 Dc Ca Cb Cd=>ACr (ACs (q_b (q_t (AB6 (Wo (ACx rfl rfl (ABv ?_)))))));obtain rfl:=ABo B7;exact ⟨Bb,(((A8 ++ [Bx]),B9,B8,(w64 (A9 + 1))):(LiA) × (Value) × LnA × (Int)),Nat.lt_succ_self _,⟨Ag,(Ai.uo p4 Cb Ca Cd).sel [4] (by decide)⟩,rfl,rfl,trivial⟩
  ·obtain rfl:=ABo (AC9 Aa Ah);change _=Av at Ag;subst Ag;refine ACg (ACi (ACi (ADp (q_t (ABp (Wo (ACr (ABv (ABx ?_)))))))));obtain rfl:=ABo A4;exact ⟨_,ADt,Ab.x,_,_,rfl,(Ab.o p0),Ab.s.sel [0] (by decide)⟩
def AI4 (fuel:Nat) (a3:LiI) (Ab Aa:Int):Option ((Int) ⊕ ((Bool) ⊕ (Unit))):=
  (if Aa < Ab then ((gI a3 Ab).bind fun Ad=>((gI Ad Aa).bind fun Ae=>((gI a3 Aa).bind fun Af=>((gI Af Ab).bind fun Ag=>((Abp fuel Ae Ag).bind fun Ah=>(if ¬ Ah=0 then (some (Sum.inr<| Sum.inl <| false)) else (some (Sum.inl (w64 (Aa + 1)))))))))) else (some (Sum.inr<| Sum.inr <| ())))
def AI5 (fuel:Nat) (a3:LiI) (Aa:Int):Option ((Int) ⊕ ((Bool) ⊕ (Unit))):=
  (if Aa < (a3.length:Int) then ((iter (fun s=>AI4 fuel a3 Aa s) fuel 0).bind (fun ex=>match ex with | Sum.inl Ac=>(some (Sum.inr<| Sum.inl <| Ac)) | Sum.inr (_)=>(some (Sum.inl (w64 (Aa + 1)))))) else (some (Sum.inr<| Sum.inr <| ())))
def AE7 (fuel:Nat) (a3:LiI):Option Bool:=
  ((iter (fun s=>AI5 fuel a3 s) fuel 0).bind (fun ex=>match ex with | Sum.inl Ab=>(some Ab) | Sum.inr (_)=>(some true)))
theorem AMw {fuel:Nat} {h:ABu} {Ao:Value} {a3:LiI} {r:Bool} (H2:AEq cZ h Ao a3) (hp:AE7 fuel a3=some r):ACo Tryz.prog 70 #[Ao] h (fun x h'=>Ext h h'/\x= .bool r):=by
 unfold AE7 at hp;refine cwf (l:=[_]) Tryz.func70 rfl rfl (ABp (ABv (ABr (ABp (Wo (ADa ADv rfl H2 (Wo (ABt (ABw ?_)))))))));have K0:=Kst.k0 h;obtain ⟨Ag,Az,Ar⟩:=ABq hp;obtain ⟨A3,A4,A5⟩:=ACe Az;refine ACq 4294967196 (fun x:(Int)=>[(7,(.int .i64 x))]) (fun k x h'=>iter A3 k x=some Ag/\Kst h h' (K0.L)) (by kernel_rfl) fuel (0:(Int)) ?_ ⟨rfl,trivial⟩ ?_
 ·exact ⟨A5,K0⟩
 rintro Bz u16 B1 B3 ⟨A6,Ah⟩;obtain ⟨A7,B4,rfl,Ab,Ac⟩:=AB8 A6;rw [A4] at Ab;dsimp only at Ab;unfold AI5 at Ab;refine ABp (ACu rfl rfl (ABt (ABr (⟨_,rfl,fun Ai=>?_,fun Ai=>?_⟩))))
 ·refine ABy (q_t (ABr (ABw (ABp (Wo (AC4 (ABv (ABw ?_))))))));obtain ⟨Aj,A8,Au⟩:=ABq (AC8 Ab Ai);obtain ⟨A9,Ba,Bb⟩:=ACe A8;refine ACq 2147482644 (fun x:(Int)=>[(4,(.int .i64 x))]) (fun k x h'=>iter A9 k x=some Aj/\Kst h h' (Ah.L)) (by kernel_rfl) fuel (0:(Int)) ?_ ⟨rfl,trivial⟩ ?_
  ·exact ⟨Bb,Ah⟩
  rintro B5 Bc B6 B7 ⟨Be,Aa⟩;obtain ⟨Bf,B8,rfl,Ad,Ae⟩:=AB8 Be;rw [Ba] at Ad;dsimp only at Ad;unfold AI4 at Ad;refine ABr (ABp (Wo (Wo (ACu rfl rfl (ABt (⟨_,rfl,fun Ak=>?_,fun Ak=>?_⟩))))))
  ·refine ABy (q_t (ABr (ABw (ABr (AI7 (Wo (Wo ?_)))))));obtain ⟨B9,Bg,Bh⟩:=ABq (AC8 Ad Ak);refine AFj ADv rfl H2 rfl Bg fun Ca Cb Cd Bi Bj=>AB3 AFp rfl (AB1 Bi Aa.x) (Wo ?_);obtain ⟨Ce,Bl,Bm⟩:=ABq Bh;refine AHg (c:=cZ) AEv rfl Bj rfl Bl fun Cf Cg Ch Av Bn=>ANm (c:=cZ) ACf rfl (Aa.zx Av) (fun j u hu=>(AB1 (Bn j u hu) Aa.x)) (Wo (Wo ?_));obtain ⟨Ci,Bo,Bp⟩:=ABq Bm;refine AFj ADv rfl H2 rfl Bo fun Cj Ck Cm Bq Br=>AB3 AFp rfl (AB1 Bq Aa.x) (Wo ?_);obtain ⟨Cn,Bt,Bu⟩:=ABq Bp;refine AHg (c:=cZ) AEv rfl Br rfl Bt fun Co Cp Cq Aw Bv=>ANm (c:=cZ) ACf rfl (Aa.zx Aw) (fun j u hu=>(AB1 (Bv j u hu) Aa.x)) ?_;obtain ⟨Cr,Bw,Ax⟩:=ABq Bu;refine ADc rfl (AZ7 (Aa.zx Av).2 (Aa.zx Aw).2 Bw) fun Ct Cu Bx By=>?_;subst By;refine AEt rfl rfl (ABt ?_);have Ay:=Aa.e Bx;refine ⟨_,rfl,fun Am=>?_,fun Am=>?_⟩
   ·refine ABp (ABv ?_);obtain rfl:=ABo (AC8 Ax Am);change _=Aj at Ae;subst Ae;obtain rfl:=ABo Au;change _=Ag at Ac;subst Ac;refine ABx (ADb (AB2 (AB2 (ADb (ADb (AB2 (AB2 (ADb (AB2 ?_)))))))));obtain rfl:=ABo Ar;exact ⟨_,ABz,Ay.x,rfl⟩
   ·refine ABy (q_b (q_t (AB6 (Wo (ACx rfl rfl (ABv ?_))))));obtain rfl:=ABo (AC9 Ax Am);exact ⟨Bf,((w64 (Bc + 1)):(Int)),Nat.lt_succ_self _,⟨Ae,Ay⟩,rfl,trivial⟩
  ·obtain rfl:=ABo (AC9 Ad Ak);change _=Aj at Ae;subst Ae;refine ACg (ACi (ACi (ADp (q_b (q_t (AB6 (ACx rfl rfl (Wo (ABt ?_)))))))));obtain rfl:=ABo Au;exact ⟨A7,((w64 (u16 + 1)):(Int)),Nat.lt_succ_self _,⟨Ac,Aa⟩,rfl,trivial⟩
 ·obtain rfl:=ABo (AC9 Ab Ai);change _=Ag at Ac;subst Ac;refine ACg (ACi (ACi (ADp (q_t (ABp (ABv (ABx ?_)))))));obtain rfl:=ABo Ar;exact ⟨_,ABz,Ah.x,rfl⟩
def AJo (fuel:Nat) (x5:LiA) (Aa:Int):Option ((Int) ⊕ ((Bool) ⊕ (Unit))):=
  (if Aa < (x5.length:Int) then ((gI x5 Aa).bind fun Ac=>((AXv fuel Ac).bind fun Ad=>(if Ad<=0 then (some (Sum.inr<| Sum.inl <| false)) else (some (Sum.inl (w64 (Aa + 1))))))) else (some (Sum.inr<| Sum.inr <| ())))
def AG2 (fuel:Nat) (a3:LiI):Option Bool:=
  ((AE0 fuel a3).bind fun (x5,x6)=>(((if (!x6)=true then (some (Sum.inl <| false)) else ((AE7 fuel a3).bind fun Ad=>(if (!Ad)=true then (some (Sum.inl <| false)) else (some (Sum.inr <| ()))))):Option ((Bool) ⊕ (Unit))).bind (fun ex=>match ex with | Sum.inl Ae=>(some Ae) | Sum.inr (_)=>((iter (fun s=>AJo fuel x5 s) fuel 0).bind (fun ex=>match ex with | Sum.inl Af=>(some Af) | Sum.inr (_)=>(some true))))))
theorem AQx {fuel:Nat} {h:ABu} {Ao:Value} {a3:LiI} {r:Bool} (H2:AEq cZ h Ao a3) (hp:AG2 fuel a3=some r):ACo Tryz.prog 71 #[Ao] h (fun x h'=>Ext h h'/\x= .bool r):=by
 unfold AG2 at hp;refine cwf (l:=[_]) Tryz.func71 rfl rfl (ABp (AC4 (Wo ?_)));have K0:=Kst.k0 h;obtain ⟨⟨x5,x6⟩,A9,Au⟩:=ABq hp;dsimp only at Au;refine ADc rfl (AJ0 (H2.ext K0.x) A9) fun B9 Ca E9 Bb=>?_;obtain ⟨Cb,Cd,rfl,Bc,Be⟩:=Bb;refine Wo (ADn rfl rfl (ADn rfl rfl (ACr (ABv ?_))));have Ac:=K0.no E9 Be Bc;obtain ⟨Bf,Av,Ag⟩:=ABq Au;refine AL7 520196 (fun x:Unit=>[]) (fun x h'=>(Sum.inr <| ())=Bf/\Kst h h' (Ac.L)) ?_ ?_
 ·refine ABp (Wo (AEy rfl (Wo ?_)));cases Aw:(!x6)
  ·refine AB4 14 false (Wo (AB4 14 false ?_));obtain ⟨Ce,Bg,Ax⟩:=ABq (AHo Av Aw);refine ADc rfl (AMw (H2.ext Ac.x) Bg) fun Cf Cg Bh Bi=>?_;subst Bi;refine AB4 14 false (AEy rfl (AB0 rfl (ABt ?_)));have Ay:=Ac.e Bh;refine ⟨_,rfl,fun Ah=>?_,fun Ah=>?_⟩
   ·refine ABp (ABv ?_);obtain rfl:=ABo (ifT Ax Ah);refine ABx (AB2 ?_);obtain rfl:=ABo Ag;exact ⟨_,ABz,Ay.x,rfl⟩
   ·refine ABy (q_t ?_);exact ⟨(():Unit),⟨ABo (AHo Ax Ah),Ay⟩,trivial⟩
  ·refine AE3 14 true (AB5 rfl (ABt (ACh rfl (ABp (ABv ?_)))));obtain rfl:=ABo (ifT Av Aw);refine ABx (AB2 ?_);obtain rfl:=ABo Ag;exact ⟨_,ABz,Ac.x,rfl⟩
 rintro ⟨⟩ Ch Ci ⟨Bj,Ai⟩;subst Bj;refine ABr (ABp (Wo (ADi AEv rfl (Ai.o p0).rd (Wo (ABt (ABw ?_))))));obtain ⟨Aj,Bl,Az⟩:=ABq Ag;obtain ⟨Bm,Bn,Bo⟩:=ACe Bl;refine ACq 534773828 (fun x:(Int)=>[(21,(.int .i64 x))]) (fun k x h'=>iter Bm k x=some Aj/\Kst h h' (Ai.L)) (by kernel_rfl) fuel (0:(Int)) ?_ ⟨rfl,trivial⟩ ?_
 ·exact ⟨Bo,Ai⟩
 rintro Cj Bp Ck Cm ⟨Bq,Ad⟩;obtain ⟨Br,Cn,rfl,Aa,Ab⟩:=AB8 Bq;rw [Bn] at Aa;dsimp only at Aa;unfold AJo at Aa;refine ABp (ACu rfl rfl (ABt (ABr (⟨_,rfl,fun Ak=>?_,fun Ak=>?_⟩))))
 ·refine ABy (q_t (ABr (ABw (ABp ?_))));obtain ⟨Co,A3,Bt⟩:=ABq (AC8 Aa Ak);refine AW0 AEv rfl (Ad.o p0) rfl A3 fun Cp Bu=>?_;obtain ⟨A4,Bv,Bw⟩:=(Ad.o p0).cells Bu A3;have A5:=Ad.az Bv;refine ANm (c:=cZ) ACf rfl (A5.z p0) (fun j u hu=>(Bw j u hu)) (ADj [.bool false,.slice none 0 0] AGm rfl trivial tt2 fun Cq Bx By Bz B1=>?_);have Ae:=A5.nb Bz B1 By;refine AC6 A4 ACf (cZ.klen (Ae.z p1)) (cZ.klen (ACa Bx)) rfl rfl (cZ.one (Ae.z p1)) (Ae.b p0) fun Cr B3 B4=>AK4 ?_;have Af:=Ae.sb p0 B4 B3 rfl;refine AEk A4 ACf (cZ.klen (Af.z p1)) rfl (Af.b p0).agg ?_;obtain ⟨Ct,B5,A6⟩:=ABq Bt;refine ADc rfl (AW5 (Af.z p1).2 B5) fun Cu Cv B6 B7=>?_;subst B7;refine AWe rfl rfl (ABt ?_);have A7:=Af.e B6;refine ⟨_,rfl,fun Am=>?_,fun Am=>?_⟩
  ·refine ABp (ABv ?_);obtain rfl:=ABo (AC8 A6 Am);change _=Aj at Ab;subst Ab;refine ABx (ADb (AB2 (AB2 (ADb (AB2 ?_)))));obtain rfl:=ABo Az;exact ⟨_,ABz,A7.x,rfl⟩
  ·refine ABy (q_b (q_t (AB6 (ACx rfl rfl (Wo (ABt ?_))))));obtain rfl:=ABo (AC9 A6 Am);exact ⟨Br,((w64 (Bp + 1)):(Int)),Nat.lt_succ_self _,⟨Ab,A7.sel [2] (by decide)⟩,rfl,trivial⟩
 ·obtain rfl:=ABo (AC9 Aa Ak);change _=Aj at Ab;subst Ab;refine ACg (ACi (ACi (ADp (q_t (ABp (ABv (ABx ?_)))))));obtain rfl:=ABo Az;exact ⟨_,ABz,Ad.x,rfl⟩
def AEh (fuel:Nat) (a3:LiI):Option Int:=
  ((AFc fuel a3).bind fun (x5,x6)=>(if (!x6)=true then (some 3) else (if 8 < x5 then (some 3) else ((AE7 fuel a3).bind fun Ad=>(if (!Ad)=true then (some 4) else ((AG2 fuel a3).bind fun Ae=>(if (!Ae)=true then (some 5) else (some 0))))))))
theorem AJp {fuel:Nat} {h:ABu} {Ah:Value} {a3:LiI} {r:Int} (H2:AEq cZ h Ah a3) (hp:AEh fuel a3=some r):ACo Tryz.prog 35 #[Ah] h (fun x h'=>Ext h h'/\x= .int .i64 r):=by
 unfold AEh at hp;refine cwf (l:=[_]) Tryz.func35 rfl rfl (ABp (AC4 (Wo ?_)));have K0:=Kst.k0 h;obtain ⟨⟨x5,x6⟩,Au,Ac⟩:=ABq hp;dsimp only at Ac;refine ADc rfl (AN6 (H2.ext K0.x) Au) fun A7 A8 E9 Aw=>?_;subst Aw;refine Wo (ADn rfl rfl (ADn rfl rfl (ACr (ABv (ABr (ABw (ABp (Wo (AEy rfl (Wo ?_))))))))));have Aa:=K0.e E9;cases Ak:(!x6)
 ·refine AB4 13 false (Wo (AB4 13 false (AGq rfl rfl (AB0 rfl (ABv ?_)))));have Am:=AHo Ac Ak;refine ⟨_,rfl,fun Ad=>?_,fun Ad=>?_⟩
  ·refine ABp (ABv (ABx (ADb (AB2 ?_))));obtain rfl:=ABo (AC8 Am Ad);exact ⟨_,ABz,Aa.x,rfl⟩
  ·refine ABp (Wo ?_);obtain ⟨A9,Ax,Ao⟩:=ABq (AC9 Am Ad);refine ADc rfl (AMw (H2.ext Aa.x) Ax) fun Ba Bb Ay Az=>?_;subst Az;refine AEy rfl (ABv ?_);have Ae:=Aa.e Ay;refine ⟨_,rfl,fun Af=>?_,fun Af=>?_⟩
   ·refine ABp (ABv (ABx (ADb (AB2 ?_))));obtain rfl:=ABo (ifT Ao Af);exact ⟨_,ABz,Ae.x,rfl⟩
   ·refine ABp (Wo ?_);obtain ⟨Bc,A3,Ap⟩:=ABq (AHo Ao Af);refine ADc rfl (AQx (H2.ext Ae.x) A3) fun Be Bf A4 A5=>?_;subst A5;refine AEy rfl (ABv ?_);have Aq:=Ae.e A4;refine ⟨_,rfl,fun Ag=>?_,fun Ag=>?_⟩
    ·refine ABp (ABv (ABx (ADb (AB2 ?_))));obtain rfl:=ABo (ifT Ap Ag);exact ⟨_,ABz,Aq.x,rfl⟩
    ·refine ABy (q_b (q_t (ABp (ABv (ABx ?_)))));obtain rfl:=ABo (AHo Ap Ag);exact ⟨_,ABz,Aq.x,rfl⟩
 ·refine AKb 13 true (AB5 rfl (ABv (ACh rfl (ABp (ABv (ABx (ADb (AB2 ?_))))))));obtain rfl:=ABo (ifT Ac Ak);exact ⟨_,ABz,Aa.x,rfl⟩
def AE8 (fuel:Nat) (a3 a7:LiI):Option LiI:=
  ((AE6 fuel a7).bind fun (x9,Af)=>((AD7 fuel x9 a3).bind fun Ad=>((AD7 fuel Ad a7).bind fun Ae=>(some Ae))))
theorem AQn {fuel:Nat} {h:ABu} {Ad:Value} {a3:LiI} {Af:Value} {a7 r:LiI} (H2:AEq cZ h Ad a3) (H6:AEq cZ h Af a7) (hp:AE8 fuel a3 a7=some r):ACo Tryz.prog 41 #[Ad,Af] h (fun x h'=>Ext h h'/\ ∃ (x0:Value) (F0:List Nat) (Ap:List LnA) (Aq:List Value),x=x0/\AFi cZ 100 90 h' F0 Ap Aq x0 r/\Sp h' h.size [F0]):=by
 unfold AE8 at hp;refine cwf (l:=[_,_]) Tryz.func41 rfl rfl (ABp (AC4 (Wo ?_)));have K0:=Kst.k0 h;obtain ⟨⟨x9,Bf⟩,Ar,Am⟩:=ABq hp;dsimp only at Am;refine ADc rfl (AMv (H6.ext K0.x) Ar) fun Bg Bh Au Av=>?_;obtain ⟨Bi,Bj,Bl,Bm,rfl,Aw,Ax⟩:=Av;refine Wo (ADn rfl rfl (ADn rfl rfl (ACr (AC4 (Wo (Wo ?_))))));have Aa:=K0.no2 Au Ax Aw;obtain ⟨Bn,Ay,Az⟩:=ABq Am;refine ADc rfl (AJy (Aa.o2 p0).rd (H2.ext Aa.x) Ay) fun Bo Bp A3 A4=>?_;obtain ⟨Bq,Br,Bt,Bu,rfl,A5,A6⟩:=A4;refine Wo ?_;have Ab:=Aa.no2 A3 A6 A5;obtain ⟨Bv,A7,A8⟩:=ABq Az;refine ADc rfl (AJy (Ab.o2 p0).rd (H6.ext Ab.x) A7) fun Bw Bx A9 Ba=>?_;obtain ⟨By,Bz,B1,B3,rfl,Bb,Bc⟩:=Ba;refine ABv (ABx ?_);have Ac:=Ab.no2 A9 Bc Bb;obtain rfl:=ABo A8;exact ⟨_,ABz,Ac.x,_,_,_,_,rfl,(Ac.o2 p0),Ac.s.sel [0] (by decide)⟩
def AKh (fuel:Nat) (a6:Int) (Ab Ac:LiA) (Aa:Int):Option ((LiA × LiA × Int) ⊕ ((LiA × LiA))):=
  (if Aa < a6 then (if Ab.length<=100000000 then (if Ac.length<=100000000 then (some (Sum.inl ((Ab ++ [Aa]),(Ac ++ [Aa]),(w64 (Aa + 1))))) else none) else none) else (some (Sum.inr<| (Ab,Ac))))
def AFd (fuel:Nat) (a3:LiI) (a5 a6:Int):Option Int:=
  ((iter (fun s=>AKh fuel a6 s.1 s.2.1 s.2.2) fuel ([],[],0)).bind (fun ((Ab,Ac):LiA × LiA)=>(if Ab.length<=100000000 then (if Ac.length<=100000000 then ((AGb fuel a3 (Ab ++ [a5]) (Ac ++ [a6])).bind fun Af=>((AC7 fuel Af).bind fun Ag=>(some Ag))) else none) else none)))
theorem AKi {fuel:Nat} {h:ABu} {Ak:Value} {a3:LiI} {a5 a6 r:Int} (H2:AEq cZ h Ak a3) (hp:AFd fuel a3 a5 a6=some r):ACo Tryz.prog 82 #[Ak,(.int .i64 a5),(.int .i64 a6)] h (fun x h'=>Ext h h'/\ ∃ (x0:Value),x=x0/\ZZ h' x0 r):=by
 unfold AFd at hp;refine cwf (l:=[_,_,_]) Tryz.func82 rfl rfl (ABp (ADj [.bool false,.slice none 0 0] AGm rfl trivial tt2 fun b7 h8 V9 Ay Az=>AK4 (ACr (ABv (ABr (ABp (ABv (ABw ?_))))))));have Ap:=Kst.anil (cI .i64) 3 (Kst.anil (cI .i64) 3 ((Kst.k0 h).nb Ay Az V9));obtain ⟨Aq,A3,A4⟩:=ABq hp;obtain ⟨A5,A6,A7⟩:=ACe A3;refine ACq 8388480 (fun x:(LiA) × (Value) × LnA × (LiA) × (Value) × LnA × (Int)=>[(7,x.2.1),(8,x.2.2.2.2.1),(9,(.int .i64 x.2.2.2.2.2.2))]) (fun k x h'=>iter A5 k (x.1,x.2.2.2.1,x.2.2.2.2.2.2)=some Aq/\Kst h h' ((Ap.L.set 1 (aO (cI .i64) 3 x.2.2.1 x.2.1 x.1)).set 0 (aO (cI .i64) 3 x.2.2.2.2.2.1 x.2.2.2.2.1 x.2.2.2.1))) (by kernel_rfl) fuel (([],(.slice none 0 0),[],[],(.slice none 0 0),[],0):(LiA) × (Value) × LnA × (LiA) × (Value) × LnA × (Int)) ?_ ⟨rfl,rfl,rfl,trivial⟩ ?_
 ·exact ⟨A7,Ap⟩
 rintro Cp ⟨A8,Cq,Cr,A9,Ct,Cu,Aa⟩ Cv Cw ⟨Ba,Ae⟩;obtain ⟨Bb,Cx,rfl,Ab,Ai⟩:=AB8 Ba;rw [A6] at Ab;dsimp only at Ab;unfold AKh at Ab;refine ABr (ABp (Wo (Wo (ACu rfl rfl (ABt (⟨_,rfl,fun Aj=>?_,fun Aj=>?_⟩))))))
 ·refine ABy (q_t (ABr (ABw (ABp (Wo (Wo ?_))))));obtain ⟨Bc,Be⟩:=ifN (AC8 Ab Aj);refine AM9 AV0 AWa rfl rfl trivial tt2 (fun _=>rfl) rfl (show ((cI .i64)).rep _ Aa [(.int .i64 Aa)] from rfl) (Ae.o p1) (by decide) Bc fun Cy Bf Bg Cz Bh Bi Bj=>ABv (AB6 (Wo (Wo ?_)));have Ar:=Ae.uo p1 Bi Bh Bj;obtain ⟨Bl,Bm⟩:=ifN Be;refine AM9 AV0 AWa rfl rfl trivial tt2 (fun _=>rfl) rfl (show ((cI .i64)).rep _ Aa [(.int .i64 Aa)] from rfl) (Ar.o p0) (by decide) Bl fun C0 Bn Bo C1 Bp Bq Br=>ACr (ACs (q_b (q_t (AB6 (Wo (ACx rfl rfl (ABv ?_)))))));obtain rfl:=ABo Bm;exact ⟨Bb,(((A8 ++ [Aa]),Bg,Bf,(A9 ++ [Aa]),Bo,Bn,(w64 (Aa + 1))):(LiA) × (Value) × LnA × (LiA) × (Value) × LnA × (Int)),Nat.lt_succ_self _,⟨Ai,(Ar.uo p0 Bq Bp Br)⟩,rfl,rfl,rfl,trivial⟩
 ·obtain rfl:=ABo (AC9 Ab Aj);change _=Aq at Ai;subst Ai;refine ACg (ACi (ACi (ADp (q_t (ABp (Wo (Wo (Wo ?_))))))));obtain ⟨Bt,Bu⟩:=ifN A4;refine AM9 AV0 AWa rfl rfl trivial tt2 (fun _=>rfl) rfl (show ((cI .i64)).rep _ a5 [(.int .i64 a5)] from rfl) (Ae.o p1) (by decide) Bt fun C2 C3 C4 C5 Bv Bw Bx=>Wo (Wo ?_);have Au:=Ae.uo p1 Bw Bv Bx;obtain ⟨By,Bz⟩:=ifN Bu;refine AM9 AV0 AWa rfl rfl trivial tt2 (fun _=>rfl) rfl (show ((cI .i64)).rep _ a6 [(.int .i64 a6)] from rfl) (Au.o p0) (by decide) By fun C6 C7 C8 C9 B1 B3 B4=>?_;have Af:=Au.uo p0 B3 B1 B4;obtain ⟨Da,B5,B6⟩:=ABq Bz;refine ADc rfl (AN7 (H2.ext Af.x) (Af.o p1).rd (Af.o p0).rd B5) fun Db Dc B7 B8=>?_;obtain ⟨Dd,De,Df,Dg,rfl,B9,Ca⟩:=B8;have Av:=Af.no2 B7 Ca B9;obtain ⟨Dh,Cb,Cd⟩:=ABq B6;refine ADc rfl (AEi (Av.o2 p0).rd Cb) fun Di Ce Cf Cg=>?_;obtain ⟨Dj,rfl,Ch⟩:=Cg;obtain ⟨Ci,rfl,Cj⟩:=Ch.cs;have Ag:=(Av.e Cf).az Cj;refine AC6 Ci ACf (cZ.klen (Ag.z p0)) (cZ.klen (ACa Ce)) rfl rfl (cZ.one (Ag.z p0)) (Ag.b p4) fun Dk Ck Cm=>ABt (ABx ?_);have Ah:=Ag.sb p4 Cm Ck rfl;obtain rfl:=ABo Cd;exact ⟨_,AEe ACf (cZ.klen (Ah.z p0)) rfl (Ah.b p4),Ah.x,_,rfl,(Ah.z p0).2⟩
def AD9 (fuel:Nat) (a3:LiA) (a5:Int):Option Int:=
  (if a5=0 then ((ALi fuel 1).bind fun Ac=>(some Ac)) else ((gI a3 (w64 (a5 - 1))).bind fun Ad=>(some Ad)))
theorem AFn {fuel:Nat} {h:ABu} {Ag:Value} {a3:LiA} {a5 r:Int} (H2:SlC cZ h Ag a3) (hp:AD9 fuel a3 a5=some r):ACo Tryz.prog 83 #[Ag,(.int .i64 a5)] h (fun x h'=>Ext h h'/\ ∃ (x0:Value),x=x0/\ZZ h' x0 r):=by
 unfold AD9 at hp;refine cwf (l:=[_,_]) Tryz.func83 rfl rfl (ABp (ADj [.bool false,.slice none 0 0] AGm rfl trivial tt2 fun b6 h7 V8 E9 Aq=>ABt (ABr (ABp (Wo (AEf rfl rfl (ABt ?_)))))));have Aa:=(Kst.k0 h).nb E9 Aq V8;refine ⟨_,rfl,fun Af=>?_,fun Af=>?_⟩
 ·refine ABp ?_;obtain ⟨Be,Ar,Au⟩:=ABq (AC8 hp Af);refine ADc rfl (AKs Ar) fun Bf Av Aw Ax=>?_;obtain ⟨Bg,rfl,Ay⟩:=Ax;obtain ⟨Az,rfl,A3⟩:=Ay.cs;have Ac:=(Aa.e Aw).az A3;refine AC6 Az ACf (cZ.klen (Ac.z p0)) (cZ.klen (ACa Av)) rfl rfl (cZ.one (Ac.z p0)) (Ac.b p1) fun Bh A4 A5=>ABt (ABx (AB2 ?_));have Ad:=Ac.sb p1 A5 A4 rfl;obtain rfl:=ABo Au;exact ⟨_,AEe ACf (cZ.klen (Ad.z p0)) rfl (Ad.b p1),Ad.x,_,rfl,(Ad.z p0).2⟩
 ·refine ABy (q_t (ABp (Wo (Wo (AHm rfl rfl ?_)))));obtain ⟨Bi,A6,A7⟩:=ABq (AC9 hp Af);refine AHg (c:=cZ) AEv rfl H2 rfl A6 fun Bj Bl A8 Ab A9=>ANm (c:=cZ) ACf rfl (Aa.zx Ab) (fun j u hu=>(AB1 (A9 j u hu) Aa.x)) (AC6 A8 ACf (cZ.klen (Aa.zx Ab)) (cZ.klen (ACa h7)) rfl rfl (cZ.one (Aa.zx Ab)) (Aa.b p0) fun Bm Ba Bb=>ABt (ABx ?_));have Ae:=Aa.sb p0 Bb Ba rfl;obtain rfl:=ABo A7;exact ⟨_,AEe ACf (cZ.klen (Ae.zx Ab)) rfl (Ae.b p0),Ae.x,_,rfl,(Ae.zx Ab).2⟩
def AGu (fuel:Nat) (a3:LiI) (a7:LiA) (a9 Aa:Int):Option Bool:=
  ((ALi fuel 2).bind fun Ae=>((AFd fuel a3 a9 Aa).bind fun Af=>((Ah9 fuel Af).bind fun Ag=>((ARl fuel Ae Ag).bind fun Ah=>((AD9 fuel a7 (w64 (Aa + 1))).bind fun Ai=>((Abp fuel Ah Ai).bind fun Aj=>(some (decide (Aj<=0)))))))))
theorem AOf {fuel:Nat} {h:ABu} {Ac:Value} {a3:LiI} {Ae:Value} {a7:LiA} {a9 Ah:Int} {r:Bool} (H2:AEq cZ h Ac a3) (H6:SlC cZ h Ae a7) (hp:AGu fuel a3 a7 a9 Ah=some r):ACo Tryz.prog 78 #[Ac,Ae,(.int .i64 a9),(.int .i64 Ah)] h (fun x h'=>Ext h h'/\x= .bool r):=by
 unfold AGu at hp;refine cwf (l:=[_,_,_,_]) Tryz.func78 rfl rfl (ABp (AC4 ?_));obtain ⟨Bv,Ap,Aq⟩:=ABq hp;refine ADc rfl (AKs Ap) fun Bw Bx Ar Au=>?_;obtain ⟨By,rfl,Av⟩:=Au;obtain ⟨Bz,rfl,Aw⟩:=Av.cs;refine Wo (Wo (Wo ?_));have Ai:=((Kst.k0 h).e Ar).az Aw;obtain ⟨B1,Ax,Ay⟩:=ABq Aq;refine ADc rfl (AKi (H2.ext Ai.x) Ax) fun B3 B4 Az A3=>?_;obtain ⟨B5,rfl,A4⟩:=A3;obtain ⟨B6,rfl,A5⟩:=A4.cs;have Aj:=(Ai.e Az).az A5;obtain ⟨B7,A6,A7⟩:=ABq Ay;refine ADc rfl (Ags (Aj.z p0).2 A6) fun B8 B9 A8 A9=>?_;obtain ⟨Ca,rfl,Ba⟩:=A9;obtain ⟨Cb,rfl,Bb⟩:=Ba.cs;have Aa:=(Aj.e A8).az Bb;obtain ⟨Cd,Bc,Be⟩:=ABq A7;refine ADc rfl (AQl (Aa.z p2).2 (Aa.z p0).2 Bc) fun Ce Cf Bf Bg=>?_;obtain ⟨Cg,rfl,Bh⟩:=Bg;obtain ⟨Ch,rfl,Bi⟩:=Bh.cs;refine Wo (Wo (ACx rfl rfl ?_));have Ak:=(Aa.e Bf).az Bi;obtain ⟨Ci,Bj,Bl⟩:=ABq Be;refine ADc rfl (AFn (H6.ext Ak.x) Bj) fun Cj Ck Bm Bn=>?_;obtain ⟨Cm,rfl,Bo⟩:=Bn;obtain ⟨Cn,rfl,Bp⟩:=Bo.cs;have Ab:=(Ak.e Bm).az Bp;obtain ⟨Co,Bq,Br⟩:=ABq Bl;refine ADc rfl (AZ7 (Ab.z p1).2 (Ab.z p0).2 Bq) fun Cp Cq Bt Bu=>?_;subst Bu;refine AWe rfl rfl (ABv (ABx ?_));obtain rfl:=ABo Br;exact ⟨_,ABz,(Ab.e Bt).x,rfl⟩
def AGv (fuel:Nat) (a3:LiI):Option Bool:=
  ((AC7 fuel a3).bind fun x5=>((ALi fuel 10000).bind fun Ac=>((Abp fuel x5 Ac).bind fun Ad=>(some (decide (Ad<=0))))))
theorem AOg {fuel:Nat} {h:ABu} {Ab:Value} {a3:LiI} {r:Bool} (H2:AEq cZ h Ab a3) (hp:AGv fuel a3=some r):ACo Tryz.prog 36 #[Ab] h (fun x h'=>Ext h h'/\x= .bool r):=by
 unfold AGv at hp;refine cwf (l:=[_]) Tryz.func36 rfl rfl (ABp (AC4 (Wo ?_)));have K0:=Kst.k0 h;obtain ⟨x5,Af,Ag⟩:=ABq hp;refine ADc rfl (AEi (H2.ext K0.x) Af) fun A3 h9 E8 Ai=>?_;obtain ⟨A5,rfl,Aj⟩:=Ai;obtain ⟨A6,rfl,Ak⟩:=Aj.cs;obtain ⟨A7,Am,Ao⟩:=ABq Ag;refine ADc rfl (AKs Am) fun A8 A9 Ap Aq=>?_;obtain ⟨Ba,rfl,Ar⟩:=Aq;obtain ⟨Bb,rfl,Au⟩:=Ar.cs;have Aa:=(((K0.e E8).az Ak).e Ap).az Au;obtain ⟨Bc,Av,Aw⟩:=ABq Ao;refine ADc rfl (AZ7 (Aa.z p1).2 (Aa.z p0).2 Av) fun Be Bf Ax Ay=>?_;subst Ay;refine AWe rfl rfl (ABv (ABx ?_));obtain rfl:=ABo Aw;exact ⟨_,ABz,(Aa.e Ax).x,rfl⟩
def ALs (fuel:Nat) (a1:Int) (a2:Bool) (Aa:Int) (Ac:LiI):Option ((Int × LiI) ⊕ ((LiI))):=
  (if Aa < ((List.replicate (Int.toNat a1) ([]:List Int)).length:Int) then (if 0<=a1/\a1<=100000000 then ((gI Ac Aa).bind fun Ai=>((gI (sI Ac Aa (List.replicate (Int.toNat a1) (0:Int))) Aa).bind fun Ae=>((gI Ae Aa).bind fun Aj=>(((if a2=true then (if Aa=(w64 (a1 - 1)) then (if 3 < a1 then (some ( (w64 (Aa - 2)))) else (some ( (w64 (Aa - 1))))) else (some ( (w64 (Aa - 1))))) else (some ( (w64 (Aa - 1))))):Option ((Int))).bind (fun (Ad:Int)=>(if 0<=Ad then ((gI (sI (sI Ac Aa (List.replicate (Int.toNat a1) (0:Int))) Aa (sI Ae Aa 2)) Aa).bind fun Af=>((gI (sI (sI Ac Aa (List.replicate (Int.toNat a1) (0:Int))) Aa (sI Ae Aa 2)) Ad).bind fun Ak=>((gI Af Ad).bind fun Am=>((gI (sI (sI (sI Ac Aa (List.replicate (Int.toNat a1) (0:Int))) Aa (sI Ae Aa 2)) Aa (sI Af Ad (-1))) Ad).bind fun Ag=>((gI Ag Aa).bind fun Ao=>(some (Sum.inl ((w64 (Aa + 1)),(sI (sI (sI (sI Ac Aa (List.replicate (Int.toNat a1) (0:Int))) Aa (sI Ae Aa 2)) Aa (sI Af Ad (-1))) Ad (sI Ag Aa (-1))))))))))) else (some (Sum.inl ((w64 (Aa + 1)),(sI (sI Ac Aa (List.replicate (Int.toNat a1) (0:Int))) Aa (sI Ae Aa 2))))))))))) else none) else (some (Sum.inr<| Ac)))
def AHi (fuel:Nat) (a1:Int) (a2:Bool):Option LiI:=
  (if 0<=a1/\a1<=100000000 then ((iter (fun s=>ALs fuel a1 a2 s.1 s.2) fuel (0,(List.replicate (Int.toNat a1) ([]:List Int)))).bind (fun (Ac:LiI)=>(some Ac))) else none)
theorem AOx {fuel:Nat} {h:ABu} {a1:Int} {a2:Bool} {r:LiI} (hp:AHi fuel a1 a2=some r):ACo Tryz.prog 45 #[(.int .i64 a1),(.bool a2)] h (fun x h'=>Ext h h'/\ ∃ (x0:Value) (F0:List Nat) (Bn:List LnA) (Bo:List Value),x=x0/\AFi (cI .i64) 35 2 h' F0 Bn Bo x0 r/\Sp h' h.size [F0]):=by
 unfold AHi at hp;refine cwf (l:=[_,_]) Tryz.func45 rfl rfl (ABp (AC4 (Wo ?_)));obtain ⟨Bp,Bq⟩:=ifN hp;refine ARf (cI .i64) 2 ACd ANi rfl trivial tt2 rfl rfl (by decide) Bp fun Br Bt Bu v9 h7 I8 E5 S6=>ABv (ABr (ABp (Wo ?_)));have Aq:=(Kst.k0 h).no2 E5 S6 I8;refine ADa ACd rfl (Aq.o2 p0).rd (Wo (ABt (ABw ?_)));obtain ⟨A4,Bz,B1⟩:=ABq Bq;obtain ⟨B3,B4,B5⟩:=ACe Bz;refine ACq 72057594037924032 (fun x:(Int) × (LiI) × LnA × LnN × LvA=>[(12,(.int .i64 x.1))]) (fun k x h'=>iter B3 k (x.1,x.2.1)=some A4/\Kst h h' (Aq.L.set 0 (aO2 (cI .i64) 35 2 x.2.2.1 x.2.2.2.1 x.2.2.2.2 v9 x.2.1))) (by kernel_rfl) fuel ((0,(List.replicate (Int.toNat a1) ([]:List Int)),Br,Bt,Bu):(Int) × (LiI) × LnA × LnN × LvA) ?_ ⟨rfl,trivial⟩ ?_
 ·exact ⟨B5,Aq⟩
 rintro Dd ⟨Aa,A5,De,Ag,A6⟩ Df Dg ⟨B6,Ah⟩;obtain ⟨A7,Dh,rfl,Ad,Ai⟩:=AB8 B6;rw [B4] at Ad;dsimp only at Ad;unfold ALs at Ad;refine ABp (ACu rfl rfl (ABt (ABr (⟨_,rfl,fun Ar=>?_,fun Ar=>?_⟩))))
 ·refine ABy (q_t (ABr (ABw (ABp (Wo (AC4 (Wo (Wo (Wo ?_)))))))));obtain ⟨B7,B8⟩:=ifN (AC8 Ad Ar);refine AQj (c:=(cI .i64)) (a:=0) ACp AL9 rfl rfl (fun _=>rfl) rfl trivial tt2 rfl rfl (by decide) B7 fun Aj A8 Di B9 Ca Cb Cd=>?_;have Ae:=Ah.no Ca (AH8 Cb Cd) B9;obtain ⟨Dj,A9,Ce⟩:=ABq B8;refine ADf ACd rfl (Ae.o2 p1) rfl A9 fun Ba Dk Cf Dl Dn=>ASe AC0 (Ae.o2 p1) A9 Cf rfl rfl (Ae.o p0) (Ae.dj p0 p1 (by decide)) fun Do Cg Ch Ci=>AK4 (Wo (Wo ?_));have Ak:=Ae.m2 p0 p1 (by decide) Ch Cg (fun z hz=> .inl (Ci z hz));obtain ⟨Bb,Au,Cj⟩:=ABq Ce;refine ADf ACd rfl (Ak.o2 p1) rfl Au fun Dp Dq Dr Ck Cm=>AB3 AC0 rfl Cm (Wo ?_);obtain ⟨Ds,Bc,Cn⟩:=ABq Cj;refine AD0 (m:=Aa) ACp rfl (Ak.o2 p1) Ck Au rfl Bc fun Dt Co=>AGz (m:=Aa) (AFv ACw rfl rfl rfl) (Ak.o2 p1) Co Au Bc (show ((cI .i64)).rep _ 2 _ from rfl) fun Du Cp Cq=>AK4 (Wo (AHm rfl rfl (ABv ?_)));have Af:=Ak.uO2 p1 Cq Cp;obtain ⟨Cr,Be,Bf⟩:=ABq Cn;refine AL7 2198754820224 (fun x:(Int)=>[(7,(.int .i64 x))]) (fun x h'=>( x)=Cr/\Kst h h' (AIq Af.L [1])) ?_ ?_
  ·refine ABp (Wo (Wo ?_));cases Bg:a2
   ·refine AFf 29 false (AB0 rfl (Wo (AKb 35 false (AB0 rfl (ABt (ACn rfl (ABy (q_t ?_))))))));exact ⟨((w64 (Aa - 1)):(Int)),⟨ABo (AHo Be Bg),Af.sel [1] (by decide)⟩,rfl,trivial⟩
   ·refine AB4 29 true (Wo (AB4 29 true (Wo (AB4 29 true (AHm rfl rfl (AB4 29 true (AEf rfl rfl (AB5 rfl (Wo ?_)))))))));have Bh:=ifT Be Bg;by_cases Am:Aa=(w64 (a1 - 1))
    ·have Bi:=ifT Bh Am;rw [decide_eq_true Am];refine AB4 35 true (Wo (AB4 35 true (AGq rfl rfl (AB5 rfl (ABt (⟨_,rfl,fun Av=>?_,fun Av=>?_⟩))))))
     ·refine AB6 (Wo (AHm rfl rfl (ABv ?_)));exact ⟨((w64 (Aa - 2)):(Int)),⟨ABo (AC8 Bi Av),Af.sel [1] (by decide)⟩,rfl,trivial⟩
     ·refine ABy (q_t ?_);exact ⟨((w64 (Aa - 1)):(Int)),⟨ABo (AC9 Bi Av),Af.sel [1] (by decide)⟩,rfl,trivial⟩
    ·rw [decide_eq_false Am];refine AKb 35 false (AB0 rfl (ABt (ACn rfl (ABy (q_t ?_)))));exact ⟨((w64 (Aa - 1)):(Int)),⟨ABo (ifF Bh Am),Af.sel [1] (by decide)⟩,rfl,trivial⟩
  rintro Ao Dv Dw ⟨Ct,Ac⟩;subst Ct;refine ABp (Wo (AM5 rfl rfl (ABt (⟨_,rfl,fun Aw=>?_,fun Aw=>?_⟩))))
  ·refine AI7 (Wo (Wo ?_));obtain ⟨Cu,Ax,Cv⟩:=ABq (AC8 Bf Aw);refine ADf ACd rfl (Ac.o2 p0) rfl Ax fun Dx Dy Dz Cw Cx=>AB3 AC0 rfl Cx (Wo (Wo (Wo ?_)));obtain ⟨D0,Cy,Cz⟩:=ABq Cv;refine ADf ACd rfl (Ac.o2 p0) rfl Cy fun D1 D2 D3 C0 C1=>AB3 AC0 rfl C1 (Wo ?_);obtain ⟨D4,Bj,C2⟩:=ABq Cz;refine AD0 (m:=Aa) ACp rfl (Ac.o2 p0) Cw Ax rfl Bj fun D5 C3=>AGz (m:=Aa) (AFv ACw rfl rfl rfl) (Ac.o2 p0) C3 Ax Bj (show ((cI .i64)).rep _ (-1) _ from rfl) fun D6 C4 C5=>?_;have Ay:=Ac.uO2 p0 C5 C4;obtain ⟨C6,Bl,C7⟩:=ABq C2;obtain ⟨D7,Bm,C8⟩:=ABq C7;refine AD0 (m:=Ao) ACp rfl (Ay.o2 p0) C0 Bl rfl Bm fun D8 C9=>AGz (m:=Ao) (AFv ACw rfl rfl rfl) (Ay.o2 p0) C9 Bl Bm (show ((cI .i64)).rep _ (-1) _ from rfl) fun D9 Da Db=>ACs (q_b (q_t (AB6 (ACx rfl rfl (Wo (ABt ?_))))));obtain rfl:=ABo C8;exact ⟨A7,(((w64 (Aa + 1)),(sI (sI (sI (sI A5 Aa (List.replicate (Int.toNat a1) (0:Int))) Aa (sI Bb Aa 2)) Aa (sI Cu Ao (-1))) Ao (sI C6 Aa (-1))),(Ba :: (Ag.set (Int.toNat Aa) [Aj]).flatten),(Ag.set (Int.toNat Aa) [Aj]),(A6.set (Int.toNat Aa) A8)):(Int) × (LiI) × LnA × LnN × LvA),Nat.lt_succ_self _,⟨Ai,(Ay.uO2 p0 Db Da)⟩,rfl,trivial⟩
  ·refine ABy (q_b (q_t (AB6 (ACx rfl rfl (Wo (ABt ?_))))));obtain rfl:=ABo (AC9 Bf Aw);exact ⟨A7,(((w64 (Aa + 1)),(sI (sI A5 Aa (List.replicate (Int.toNat a1) (0:Int))) Aa (sI Bb Aa 2)),(Ba :: (Ag.set (Int.toNat Aa) [Aj]).flatten),(Ag.set (Int.toNat Aa) [Aj]),(A6.set (Int.toNat Aa) A8)):(Int) × (LiI) × LnA × LnN × LvA),Nat.lt_succ_self _,⟨Ai,Ac⟩,rfl,trivial⟩
 ·obtain rfl:=ABo (AC9 Ad Ar);change _=A4 at Ai;subst Ai;refine ACg (ACi (ACi (ADp (q_t (ABp (Wo (ABv (ABx ?_))))))));obtain rfl:=ABo B1;exact ⟨_,ABz,Ah.x,_,_,_,_,rfl,(Ah.o2 p0),Ah.s.sel [0] (by decide)⟩
def AJa (fuel:Nat) (a3:LiI):Option Bool:=
  ((AFb fuel a3).bind fun x5=>((AEh fuel x5).bind fun Ac=>(if Ac=0 then ((AC7 fuel x5).bind fun Ad=>((ALi fuel 10000).bind fun Ae=>((Abp fuel Ad Ae).bind fun Af=>(some (decide (Af<=0)))))) else (some false))))
theorem AT0 {fuel:Nat} {h:ABu} {Ad:Value} {a3:LiI} {r:Bool} (H2:AEq (cI .i64) h Ad a3) (hp:AJa fuel a3=some r):ACo Tryz.prog 48 #[Ad] h (fun x h'=>Ext h h'/\x= .bool r):=by
 unfold AJa at hp;refine cwf (l:=[_]) Tryz.func48 rfl rfl (ABp (AC4 (Wo ?_)));have K0:=Kst.k0 h;obtain ⟨x5,Aj,Ak⟩:=ABq hp;refine ADc rfl (AJ6 (H2.ext K0.x) Aj) fun Bi h9 E8 Ao=>?_;obtain ⟨Bl,Bm,Bn,Bo,rfl,Ap,Aq⟩:=Ao;refine AC4 (Wo ?_);have Ag:=K0.no2 E8 Aq Ap;obtain ⟨Ar,Au,Ah⟩:=ABq Ak;refine ADc rfl (AJp (Ag.o2 p0).rd Au) fun Bp Bq Av Aw=>?_;subst Aw;refine AEf rfl rfl (Wo ?_);have Ab:=Ag.e Av;by_cases Aa:Ar=0
 ·rw [decide_eq_true Aa];refine AB4 9 true (Wo (AB4 9 true ?_));obtain ⟨Br,Ax,Ay⟩:=ABq (ifT Ah Aa);refine ADc rfl (AEi (Ab.o2 p0).rd Ax) fun Bt Bu Az A3=>?_;obtain ⟨Bv,rfl,A4⟩:=A3;obtain ⟨Bw,rfl,A5⟩:=A4.cs;refine AB4 9 true ?_;obtain ⟨Bx,A6,A7⟩:=ABq Ay;refine ADc rfl (AKs A6) fun By Bz A8 A9=>?_;obtain ⟨B1,rfl,Ba⟩:=A9;obtain ⟨B3,rfl,Bb⟩:=Ba.cs;refine AB4 9 true ?_;have Ac:=(((Ab.e Az).az A5).e A8).az Bb;obtain ⟨B4,Bc,Be⟩:=ABq A7;refine ADc rfl (AZ7 (Ac.z p1).2 (Ac.z p0).2 Bc) fun B5 B6 Bf Bg=>?_;subst Bg;refine AB4 9 true (AWe rfl rfl (AB5 rfl (ABv (ABx ?_))));obtain rfl:=ABo Be;exact ⟨_,ABz,(Ac.e Bf).x,rfl⟩
 ·rw [decide_eq_false Aa];refine AHn 9 false (AB0 rfl (ABv (ABx ?_)));obtain rfl:=ABo (ifF Ah Aa);exact ⟨_,ABz,Ab.x,rfl⟩
def AMk (fuel:Nat) (Ab Aa:Int):Option ((Int × Int) ⊕ ((Int))):=
  ((AXv fuel Aa).bind fun Ac=>(if ¬ Ac=0 then ((AFq fuel Ab Aa).bind fun Ad=>(some (Sum.inl (Aa,Ad)))) else (some (Sum.inr<| Ab))))
def AJb (fuel:Nat) (a1 a5:Int):Option Int:=
  ((Ah9 fuel a1).bind fun Ac=>((Ah9 fuel a5).bind fun Ad=>((iter (fun s=>AMk fuel s.1 s.2) fuel (Ac,Ad)).bind (fun (Ae:Int)=>(some Ae)))))
theorem AT1 {fuel:Nat} {h:ABu} {A3:Value} {a1:Int} {A5:Value} {a5 r:Int} (H3:ZZ h A3 a1) (H7:ZZ h A5 a5) (hp:AJb fuel a1 a5=some r):ACo Tryz.prog 168 #[A3,A5] h (fun x h'=>Ext h h'/\ ∃ (x0:Value),x=x0/\ZZ h' x0 r):=by
 unfold AJb at hp;obtain ⟨A8,rfl,A9⟩:=H3.cs;obtain ⟨Ba,rfl,Bb⟩:=H7.cs;refine cwf (l:=[_,_]) Tryz.func168 rfl rfl (ABp (AFk A8 trivial tt2 rfl rfl fun b9 Do Bw Bx By=>AFk Ba trivial tt2 rfl rfl fun Dp Dq Bz B1 B3=>ADj [.bool false,.slice none 0 0] AGm rfl trivial tt2 fun Dr Ao B4 B5 B6=>ABt (ABr ?_)));have Ab:=(((Kst.k0 h).nb Bx By Bw).nb B1 B3 Bz).nb B5 B6 B4;have Ap:UpT [] Ao Ao:=UpT.start all_nil;refine AW6 (B:=fun h'=>UpT [] Ao h') 4 [⟨5,90,[.bool false,.slice none 0 0]⟩,⟨6,90,[.bool false,.slice none 0 0]⟩] (fun _ _ U E=>U.thenE E) (by kernel_rfl) Ap (Amq rfl rfl AGm rfl AGm rfl (fun _ _ U E=>U.thenE E)) (h_l rfl (AEn A8 ACf (cZ.klen (Ab.zx A9)) rfl Ap (fun h' hb=>((Ab.b p2).ext hb.ext).agg) (ACs (h_e rfl fun Ds Bc=>?_))));have Aq:=Ap.thenE Bc;have Be:=Ab.e Bc;obtain ⟨B7,B8,B9⟩:=ABq hp;refine ADm Aq (fun _ E=>Aq.thenE E) rfl (Ags (Be.zx A9).2 B8) fun Dt Du Ar Ca=>?_;obtain ⟨Dv,rfl,Cb⟩:=Ca;have Bf:=Aq.thenE Ar;obtain ⟨Bg,rfl,Cd⟩:=Cb.cs;have Bh:=(Be.e Ar).az Cd;refine ACs ⟨Ar,?_⟩;refine h_l rfl (AEn Ba ACf (cZ.klen (Bh.zx Bb)) rfl Bf (fun h' hb=>((Ab.b p1).ext hb.ext).agg) (ACs (h_e rfl fun Dw Bi=>?_)));have Au:=Bf.thenE Bi;have Bj:=Bh.e Bi;obtain ⟨Ce,Cf,Cg⟩:=ABq B9;refine ADm Au (fun _ E=>Au.thenE E) rfl (Ags (Bj.zx Bb).2 Cf) fun Dx Dy Av Ch=>?_;obtain ⟨Dz,rfl,Ci⟩:=Ch;have Cj:=Au.thenE Av;obtain ⟨Bl,rfl,Ck⟩:=Ci.cs;refine ACs ⟨Av,?_⟩;refine Aen fun Cm Bm=>Aue fun Cn Co Bn Bo Cp Cq Cr D0 D1=>?_;have Bp:=((Bj.e Av).az Ck).e Bm;have Ag:=((Ab.nb2 (Cj.thenE Bm).ext (Amr Cq Cr Bn.lt Bo.lt Cp) Bn Bo).az (Bp.z p1)).az (Bp.z p0);refine AC6 Bg ACf (cZ.klen (Ag.z p1)) (cZ.klen (ACa Cm)) rfl rfl (cZ.one (Ag.z p1)) (Ag.b p2) fun Ct Cu Cv=>?_;have Ah:=Ag.sb p2 Cv Cu rfl;refine AC6 Bl ACf (cZ.klen (Ah.z p0)) (cZ.klen (ACa Ct)) rfl rfl (cZ.one (Ah.z p0)) (Ah.b p3) fun D2 Cw Cx=>ABt (ABr (ABw ?_));obtain ⟨Bq,Cy,Cz⟩:=ABq Cg;obtain ⟨C0,C1,C2⟩:=ACe Cy;have Aw:=(Ah.sb p3 Cx Cw rfl).sel [0,1,2,3,4] (by decide);dsimp only [AIq,ALo] at Aw;refine ACq 260096 (fun x:(Int) × LvA × (Int) × LvA=>[]) (fun k x h'=>iter C0 k (x.1,x.2.2.1)=some Bq/\Kst h h' ((((Aw.L.set 1 (aZ x.2.1 x.1)).set 0 (aZ x.2.2.2 x.2.2.1)).set 2 (aB 90 Cn x.2.1)).set 3 (aB 90 Co x.2.2.2))) (by kernel_rfl) fuel ((B7,Bg,Ce,Bl):(Int) × LvA × (Int) × LvA) ?_ trivial ?_
 ·exact ⟨C2,Aw⟩
 rintro D3 ⟨D4,Ax,C3,Ac⟩ D5 D6 ⟨C4,Ai⟩;obtain ⟨C5,D7,rfl,Aj,Ay⟩:=AB8 C4;rw [C1] at Aj;dsimp only at Aj;unfold AMk at Aj;refine ABr (ABp (AEk Ac ACf (cZ.klen (Ai.z p0)) rfl (Ai.b p3).agg ?_));obtain ⟨D8,C6,Br⟩:=ABq Aj;refine ADc rfl (AW5 (Ai.z p0).2 C6) fun D9 Ak C7 C8=>?_;subst C8;refine AEt rfl rfl (ABt ?_);have Aa:=Ai.e C7;refine ⟨_,rfl,fun Az=>?_,fun Az=>?_⟩
 ·refine ABy (q_t (ABw (AEj (fun h'=>UpT [] Ak h') (by kernel_rfl) ?_)));have Ad:UpT [] Ak Ak:=UpT.start all_nil;refine AEn Ac ACf (cZ.klen (Aa.z p0)) rfl Ad (fun h' hb=>((Aa.b p3).ext hb.ext).agg) (AEn Ax ACf (cZ.klen (Aa.z p1)) rfl Ad (fun h' hb=>((Aa.b p2).ext hb.ext).agg) (AEn Ac ACf (cZ.klen (Aa.z p0)) rfl Ad (fun h' hb=>((Aa.b p3).ext hb.ext).agg) ?_));obtain ⟨C9,Da,Db⟩:=ABq (AC8 Br Az);refine ADm Ad (fun _ E=>Ad.thenE E) rfl (APg (Aa.z p1).2 (Aa.z p0).2 Da) fun Ea Eb Dc Dd=>?_;obtain ⟨Ec,rfl,De⟩:=Dd;obtain ⟨Bt,rfl,Df⟩:=De.cs;have Ae:=(Aa.e Dc).az Df;refine AC6 Ac ACf (cZ.klen (Ae.z p1)) (cZ.klen (Ae.z p2)) rfl rfl (cZ.one (Ae.z p1)) (Ae.b p3) fun Ed Dg Dh=>?_;have Af:=Ae.sb p3 Dh Dg rfl;refine AC6 Bt ACf (cZ.klen (Af.z p0)) (cZ.klen (Af.z p1)) rfl rfl (cZ.one (Af.z p0)) (Af.b p4) fun Ee Di Dj=>ACs (q_b (q_t ?_));obtain rfl:=ABo Db;exact ⟨C5,((C3,Ac,C9,Bt):(Int) × LvA × (Int) × LvA),Nat.lt_succ_self _,⟨Ay,(Af.sb p4 Dj Di rfl).sel [0,1,3,4,5] (by decide)⟩,trivial⟩
 ·obtain rfl:=ABo (AC9 Br Az);change _=Bq at Ay;subst Ay;refine ACg (ACi (ACi (ADp (q_t (ABp (AEk Ax ACf (cZ.klen (Aa.z p1)) rfl (Aa.b p2).agg (AC6 Ax ACf (cZ.klen (Aa.z p1)) (cZ.klen (ACa Ak)) rfl rfl (cZ.one (Aa.z p1)) (Aa.b p4) fun Ef Dk Dl=>ABt (ABx ?_))))))));have Am:=Aa.sb p4 Dl Dk rfl;obtain rfl:=ABo Cz;exact ⟨_,AEe ACf (cZ.klen (Am.z p1)) rfl (Am.b p4),Am.x,_,rfl,(Am.z p1).2⟩
def AH3 (fuel:Nat) (a1 a5:Int):Option ((Int × Int) × Bool):=
  ((AXv fuel a5).bind fun Af=>(if Af=0 then (some ((0,0),false)) else ((((AXv fuel a5).bind fun Ag=>(if Ag < 0 then ((Aej fuel a1).bind fun Ah=>((Aej fuel a5).bind fun Ai=>(some ( (Ah,Ai))))) else (some ( (a1,a5))))):Option ((Int × Int))).bind (fun ((Ac,Ad):Int × Int)=>((AJb fuel Ac Ad).bind fun Ae=>((AEp fuel Ac Ae).bind fun Aj=>((AEp fuel Ad Ae).bind fun Ak=>(some ((Aj,Ak),true)))))))))
theorem APh {fuel:Nat} {h:ABu} {Ba:Value} {a1:Int} {Bb:Value} {a5:Int} {r:((Int × Int) × Bool)} (H3:ZZ h Ba a1) (H7:ZZ h Bb a5) (hp:AH3 fuel a1 a5=some r):ACo Tryz.prog 154 #[Ba,Bb] h (fun x h'=>Ext h h'/\ ∃ (x0:Value),x= .tuple #[x0,.bool r.2]/\AYp h' x0 r.1.1 r.1.2):=by
 unfold AH3 at hp;obtain ⟨Az,rfl,Ap⟩:=H3.cs;obtain ⟨Ai,rfl,Ab⟩:=H7.cs;refine cwf (l:=[_,_]) Tryz.func154 rfl rfl (ABp (AFk Az trivial tt2 rfl rfl fun b9 Du Bu Bv Bw=>AFk Ai trivial tt2 rfl rfl fun Bx Dv By Bz B1=>ADj [.bool false,.slice none 0 0,.bool false,.slice none 0 0] AQm rfl trivial tt2 fun Dw Dx B3 B4 B5=>ABv (ABr (ABp ?_))));have Aq:=(((Kst.k0 h).nb Bv Bw Bu).nb Bz B1 By).nb B4 B5 B3;refine AEk Ai ACf (cZ.klen (Aq.zx Ab)) rfl (Aq.b p1).agg ?_;obtain ⟨Dy,B6,Be⟩:=ABq hp;refine ADc rfl (AW5 (Aq.zx Ab).2 B6) fun Dz Ag B7 B8=>?_;subst B8;refine AEf rfl rfl (ABt ?_);have Ad:=Aq.e B7;refine ⟨_,rfl,fun A3=>?_,fun A3=>?_⟩
 ·refine ABp (AG7 (Ago ) (AC6 ([Value.bool false,Value.slice none 0 0] ++ [Value.bool false,Value.slice none 0 0]) AHq (AD4 (ACa Ag) (ACa Ag)) (AD4 (ACa Ag) (ACa Ag)) rfl rfl (ANb (ACa Ag) (ACa Ag)) (Ad.b p0) fun Ar B9 Ca=>ABv (ABx (AB2 ?_))));have Bf:=Ad.sb p0 Ca B9 rfl;obtain rfl:=ABo (AC8 Be A3);exact ⟨_,AWw AHq (AD4 (ACa Ar) (ACa Ar)) rfl (Bf.b p0),Bf.x,_,rfl,⟨_,_,rfl,(ACa Ar),(ACa Ar)⟩⟩
 ·refine ABy (q_t ?_);obtain ⟨Cb,Cd,Ce⟩:=ABq (AC9 Be A3);refine AL7 260096 (fun x:(Int) × LvA × (Int) × LvA=>[]) (fun x h'=>( (x.1,x.2.2.1))=Cb/\Kst h h' (aZ x.2.1 x.1 :: aZ x.2.2.2 x.2.2.1 :: ((Ad.L.set 2 (aB 90 b9 x.2.1)).set 1 (aB 90 Bx x.2.2.2)))) ?_ ?_
  ·refine ABp (AEk Ai ACf (cZ.klen (Ad.zx Ab)) rfl (Ad.b p1).agg ?_);obtain ⟨D0,Cf,Bg⟩:=ABq Cd;refine ADc rfl (AW5 (Ad.zx Ab).2 Cf) fun D1 A4 Cg Ch=>?_;subst Ch;refine ACu rfl rfl (ABt ?_);have Ae:=Ad.e Cg;refine ⟨_,rfl,fun A5=>?_,fun A5=>?_⟩
   ·refine AEj (fun h'=>UpT [] A4 h') (by kernel_rfl) ?_;have Au:UpT [] A4 A4:=UpT.start all_nil;refine AEn Az ACf (cZ.klen (Ae.zx Ap)) rfl Au (fun h' hb=>((Ae.b p2).ext hb.ext).agg) ?_;obtain ⟨Ci,Cj,Ck⟩:=ABq (AC8 Bg A5);refine ADm Au (fun _ E=>Au.thenE E) rfl (Ac0 (Ae.zx Ap).2 Cj) fun D2 D3 Bh Cm=>?_;obtain ⟨D4,rfl,Cn⟩:=Cm;have A6:=Au.thenE Bh;obtain ⟨Bi,rfl,Co⟩:=Cn.cs;have A7:=(Ae.e Bh).az Co;refine AEn Ai ACf (cZ.klen (A7.zx Ab)) rfl A6 (fun h' hb=>((Ae.b p1).ext hb.ext).agg) ?_;obtain ⟨Cp,Cq,Cr⟩:=ABq Ck;refine ADm A6 (fun _ E=>A6.thenE E) rfl (Ac0 (A7.zx Ab).2 Cq) fun D5 D6 Ct Cu=>?_;obtain ⟨D7,rfl,Cv⟩:=Cu;obtain ⟨Bj,rfl,Cw⟩:=Cv.cs;have Aj:=(A7.e Ct).az Cw;refine AC6 Bi ACf (cZ.klen (Aj.z p1)) (cZ.klen (Aj.zx Ap)) rfl rfl (cZ.one (Aj.z p1)) (Aj.b p4) fun D8 Cx Cy=>?_;have Ak:=Aj.sb p4 Cy Cx rfl;refine AC6 Bj ACf (cZ.klen (Ak.z p0)) (cZ.klen (Ak.zx Ab)) rfl rfl (cZ.one (Ak.z p0)) (Ak.b p3) fun D9 Cz C0=>ABt ?_;exact ⟨((Ci,Bi,Cp,Bj):(Int) × LvA × (Int) × LvA),⟨ABo Cr,(Ak.sb p3 C0 Cz rfl).sel [1,0,2,3,4] (by decide)⟩,trivial⟩
   ·refine ABy (q_t ?_);have Bl:=Ae.az (Ae.zx Ap);exact ⟨((a1,Az,a5,Ai):(Int) × LvA × (Int) × LvA),⟨ABo (AC9 Bg A5),(Bl.az (Bl.zx Ab)).sel [1,0,2,3,4] (by decide)⟩,trivial⟩
  rintro ⟨Ea,Bm,Eb,Bn⟩ Ec Ed ⟨C1,Af⟩;subst C1;refine ABp (AEk Bm ACf (cZ.klen (Af.z p0)) rfl (Af.b p4).agg (AEk Bn ACf (cZ.klen (Af.z p1)) rfl (Af.b p3).agg ?_));obtain ⟨Ee,C2,C3⟩:=ABq Ce;refine ADc rfl (AT1 (Af.z p0).2 (Af.z p1).2 C2) fun Ef Eg C4 C5=>?_;obtain ⟨Eh,rfl,C6⟩:=C5;obtain ⟨A8,rfl,C7⟩:=C6.cs;refine ADj [.bool false,.slice none 0 0] AGm rfl trivial tt2 fun Ei C8 C9 Da Db=>?_;have Av:=((Af.e C4).az C7).nb Da Db C9;refine AC6 A8 ACf (cZ.klen (Av.z p1)) (cZ.klen (ACa C8)) rfl rfl (cZ.one (Av.z p1)) (Av.b p0) fun A9 Dc Dd=>ABt (ABr (AEj (fun h'=>UpT [] A9 h') (by kernel_rfl) ?_));have Aa:=Av.sb p0 Dd Dc rfl;have Am:UpT [] A9 A9:=UpT.start all_nil;refine AEn Bm ACf (cZ.klen (Aa.z p2)) rfl Am (fun h' hb=>((Aa.b p6).ext hb.ext).agg) (AEn A8 ACf (cZ.klen (Aa.z p1)) rfl Am (fun h' hb=>((Aa.b p0).ext hb.ext).agg) ?_);obtain ⟨Ej,De,Df⟩:=ABq C3;refine ADm Am (fun _ E=>Am.thenE E) rfl (AJj (Aa.z p2).2 (Aa.z p1).2 De) fun Ek El Bo Dg=>?_;obtain ⟨Em,rfl,Dh⟩:=Dg;have Aw:=Am.thenE Bo;obtain ⟨Di,rfl,Dj⟩:=Dh.cs;have Ao:=(Aa.e Bo).az Dj;refine AEn Bn ACf (cZ.klen (Ao.z p4)) rfl Aw (fun h' hb=>((Aa.b p5).ext hb.ext).agg) (AEn A8 ACf (cZ.klen (Ao.z p2)) rfl Aw (fun h' hb=>((Aa.b p0).ext hb.ext).agg) ?_);obtain ⟨En,Dk,Dl⟩:=ABq Df;refine ADm Aw (fun _ E=>Aw.thenE E) rfl (AJj (Ao.z p4).2 (Ao.z p2).2 Dk) fun Eo Bp Dn Do=>?_;obtain ⟨Ep,rfl,Dp⟩:=Do;obtain ⟨Dq,rfl,Dr⟩:=Dp.cs;have Ac:=(Ao.e Dn).az Dr;refine AG7 (AVo (Ac.z p1) (Ac.z p0)) (AC6 (Di ++ Dq) AHq (AD4 (Ac.z p1) (Ac.z p0)) (AD4 (ACa Bp) (ACa Bp)) rfl rfl (ANb (Ac.z p1) (Ac.z p0)) (Ac.b p6) fun Er Ds Dt=>ABv (ABx ?_));have Ah:=Ac.sb p6 Dt Ds rfl;obtain rfl:=ABo Dl;exact ⟨_,AWw AHq (AD4 (Ah.z p1) (Ah.z p0)) rfl (Ah.b p6),Ah.x,_,rfl,⟨_,_,rfl,(Ah.z p1),(Ah.z p0)⟩⟩
def AM6 (fuel:Nat) (a1:Int):Option (Int × Int):=
  ((ASf fuel a1).bind fun Ab=>((ALi fuel 1).bind fun Ac=>(some (Ab,Ac))))
theorem ASr {fuel:Nat} {h:ABu} {Ad:Value} {a1:Int} {r:(Int × Int)} (H3:ZZ h Ad a1) (hp:AM6 fuel a1=some r):ACo Tryz.prog 169 #[Ad] h (fun x h'=>Ext h h'/\ ∃ (x0:Value),x=x0/\AYp h' x0 r.1 r.2):=by
 unfold AM6 at hp;obtain ⟨Ag,rfl,Ah⟩:=H3.cs;refine cwf (l:=[_]) Tryz.func169 rfl rfl (ABp (AFk Ag trivial tt2 rfl rfl fun b5 h6 V7 E8 S9=>ADj [.bool false,.slice none 0 0,.bool false,.slice none 0 0] AQm rfl trivial tt2 fun Bg Bh Ap Aq Ar=>AK4 ?_));have Ac:=((Kst.k0 h).nb E8 S9 V7).nb Aq Ar Ap;refine AEk Ag ACf (cZ.klen (Ac.zx Ah)) rfl (Ac.b p1).agg ?_;obtain ⟨Bi,Au,Av⟩:=ABq hp;refine ADc rfl (ATv (Ac.zx Ah).2 Au) fun Bj Bl Aw Ax=>?_;obtain ⟨Bm,rfl,Ay⟩:=Ax;obtain ⟨Az,rfl,A3⟩:=Ay.cs;obtain ⟨Bn,A4,A5⟩:=ABq Av;refine ADc rfl (AKs A4) fun Bo Ai A6 A7=>?_;obtain ⟨Bp,rfl,A8⟩:=A7;obtain ⟨A9,rfl,Ba⟩:=A8.cs;have Aa:=(((Ac.e Aw).az A3).e A6).az Ba;refine AG7 (AVo (Aa.z p1) (Aa.z p0)) (AC6 (Az ++ A9) AHq (AD4 (Aa.z p1) (Aa.z p0)) (AD4 (ACa Ai) (ACa Ai)) rfl rfl (ANb (Aa.z p1) (Aa.z p0)) (Aa.b p2) fun Bq Bb Bc=>ABt (ABx ?_));have Ab:=Aa.sb p2 Bc Bb rfl;obtain rfl:=ABo A5;exact ⟨_,AEe AHq (AD4 (Ab.z p1) (Ab.z p0)) rfl (Ab.b p2),Ab.x,_,rfl,⟨_,_,rfl,(Ab.z p1),(Ab.z p0)⟩⟩
def AM7 (fuel:Nat) (a1:Int):Option (Int × Int):=
  ((ALi fuel a1).bind fun x8=>((AM6 fuel x8).bind fun Aa=>(some (Aa.1,Aa.2))))
theorem ASs {fuel:Nat} {h:ABu} {a1:Int} {r:(Int × Int)} (hp:AM7 fuel a1=some r):ACo Tryz.prog 155 #[(.int .i64 a1)] h (fun x h'=>Ext h h'/\ ∃ (x0:Value),x=x0/\AYp h' x0 r.1 r.2):=by
 unfold AM7 at hp;refine cwf (l:=[_]) Tryz.func155 rfl rfl (ABp (ADj [.bool false,.slice none 0 0,.bool false,.slice none 0 0] AQm rfl trivial tt2 fun b2 h3 V4 E5 S6=>AK4 (Wo ?_)));obtain ⟨x9,Aj,Ak⟩:=ABq hp;refine ADc rfl (AKs Aj) fun Ba Bb Am Ao=>?_;obtain ⟨Bc,rfl,Ap⟩:=Ao;obtain ⟨Be,rfl,Aq⟩:=Ap.cs;have Ae:=(((Kst.k0 h).nb E5 S6 V4).e Am).az Aq;obtain ⟨Bf,Ar,Au⟩:=ABq Ak;refine ADc rfl (ASr (Ae.z p0).2 Ar) fun Bg Af Av Aw=>?_;obtain ⟨Bh,rfl,Ax⟩:=Aw;obtain ⟨Ay,Az,rfl,A3,A4⟩:=Ax;have Aa:=((Ae.e Av).az A3).az A4;refine AC6 (Ay ++ Az) AHq (AD4 (Aa.z p1) (Aa.z p0)) (AD4 (ACa Af) (ACa Af)) rfl rfl (ANb (Aa.z p1) (Aa.z p0)) (Aa.b p3) fun Bi A5 A6=>ABt (ABx ?_);have Ab:=Aa.sb p3 A6 A5 rfl;obtain rfl:=ABo Au;exact ⟨_,AEe AHq (AD4 (Ab.z p1) (Ab.z p0)) rfl (Ab.b p3),Ab.x,_,rfl,⟨_,_,rfl,(Ab.z p1),(Ab.z p0)⟩⟩
def AEa (fuel:Nat) (a3 a5:Int):Option (Int × Int):=
  ((AH3 fuel a3 a5).bind fun (Aa,Ae)=>(if (!Ae)=true then ((AM7 fuel 0).bind fun Ab=>(some (Ab.1,Ab.2))) else (some (Aa.1,Aa.2))))
theorem AG9 {fuel:Nat} {h:ABu} {Ak:Value} {a3 a5:Int} {r:(Int × Int)} (H2:AYp h Ak a3 a5) (hp:AEa fuel a3 a5=some r):ACo Tryz.prog 136 #[Ak] h (fun x h'=>Ext h h'/\ ∃ (x0:Value),x=x0/\AYp h' x0 r.1 r.2):=by
 unfold AEa at hp;obtain ⟨Aq,Ar,rfl,H2z0,H2z1⟩:=H2;refine cwf (l:=[_]) Tryz.func136 rfl rfl (ABp (AFk (Aq ++ Ar) trivial tt2 rfl rfl fun b7 h8 V9 Az A3=>ADj [.bool false,.slice none 0 0,.bool false,.slice none 0 0] AQm rfl trivial tt2 fun B1 B3 A4 A5 A6=>AK4 (AHf (fs:=2) AY0 (by kernel_rfl) (by decide) rfl ?_)));have Ab:=((Kst.k0 h).nb Az A3 V9).nb A5 A6 A4;refine AEk Aq ACf (cZ.klen (Ab.zx H2z0)) rfl ((Ab.b p1).aggL) (AHf (fs:=2) AVn (by kernel_rfl) (by decide) rfl (AEk Ar ACf (cZ.klen (Ab.zx H2z1)) rfl ((Ab.b p1).aggR (cZ.klen (Ab.zx H2z0))) ?_));obtain ⟨⟨B4,B5⟩,A7,Ag⟩:=ABq hp;dsimp only at Ag;refine ADc rfl (APh (Ab.zx H2z0).2 (Ab.zx H2z1).2 A7) fun B6 B7 A8 A9=>?_;obtain ⟨B8,rfl,Ba⟩:=A9;obtain ⟨Ah,Ai,rfl,Bb,Bc⟩:=Ba;refine Wo (ADn rfl rfl (ADn rfl rfl (ADj [.bool false,.slice none 0 0,.bool false,.slice none 0 0] AQm rfl trivial tt2 fun B9 Au Be Bf Bg=>?_)));have Ac:=(((Ab.e A8).az Bb).az Bc).nb Bf Bg Be;refine AC6 (Ah ++ Ai) AHq (AD4 (Ac.z p2) (Ac.z p1)) (AD4 (ACa Au) (ACa Au)) rfl rfl (ANb (Ac.z p2) (Ac.z p1)) (Ac.b p0) fun Av Bh Bi=>ABv (ABr (ABp (Wo (AEy rfl (ABt ?_)))));have Aa:=Ac.sb p0 Bi Bh rfl;refine ⟨_,rfl,fun Aj=>?_,fun Aj=>?_⟩
 ·refine ABp ?_;obtain ⟨Ca,Bj,Bl⟩:=ABq (ifT Ag Aj);refine ADc rfl (ASs Bj) fun Cb Aw Bm Bn=>?_;obtain ⟨Cd,rfl,Bo⟩:=Bn;obtain ⟨Bp,Bq,rfl,Br,Bt⟩:=Bo;have Ad:=((Aa.e Bm).az Br).az Bt;refine AC6 (Bp ++ Bq) AHq (AD4 (Ad.z p1) (Ad.z p0)) (AD4 (ACa Aw) (ACa Aw)) rfl rfl (ANb (Ad.z p1) (Ad.z p0)) (Ad.b p5) fun Ce Bu Bv=>ABt (ABx (AB2 ?_));have Ae:=Ad.sb p5 Bv Bu rfl;obtain rfl:=ABo Bl;exact ⟨_,AEe AHq (AD4 (Ae.z p1) (Ae.z p0)) rfl (Ae.b p5),Ae.x,_,rfl,⟨_,_,rfl,(Ae.z p1),(Ae.z p0)⟩⟩
 ·refine ABy (q_t (ABp (AEk (Ah ++ Ai) AHq (AD4 (Aa.z p2) (Aa.z p1)) rfl ((Aa.b p0).agg) (AC6 (Ah ++ Ai) AHq (AD4 (Aa.z p2) (Aa.z p1)) (AD4 (ACa Av) (ACa Av)) rfl rfl (ANb (Aa.z p2) (Aa.z p1)) (Aa.b p3) fun Cf Bw Bx=>ABt (ABx ?_)))));have Af:=Aa.sb p3 Bx Bw rfl;obtain rfl:=ABo (AHo Ag Aj);exact ⟨_,AEe AHq (AD4 (Af.z p2) (Af.z p1)) rfl (Af.b p3),Af.x,_,rfl,⟨_,_,rfl,(Af.z p2),(Af.z p1)⟩⟩
def AG3 (fuel:Nat) (a1 a5:Int):Option (Int × Int):=
  ((AEa fuel a1 a5).bind fun Aa=>(some (Aa.1,Aa.2)))
theorem AQy {fuel:Nat} {h:ABu} {Af:Value} {a1:Int} {Ah:Value} {a5:Int} {r:(Int × Int)} (H3:ZZ h Af a1) (H7:ZZ h Ah a5) (hp:AG3 fuel a1 a5=some r):ACo Tryz.prog 81 #[Af,Ah] h (fun x h'=>Ext h h'/\ ∃ (x0:Value),x=x0/\AYp h' x0 r.1 r.2):=by
 unfold AG3 at hp;obtain ⟨Ak,rfl,Ad⟩:=H3.cs;obtain ⟨Am,rfl,Ae⟩:=H7.cs;refine cwf (l:=[_,_]) Tryz.func81 rfl rfl (ABp (AFk Ak trivial tt2 rfl rfl fun b9 Bi Ar Au Av=>AFk Am trivial tt2 rfl rfl fun Bj Bl Aw Ax Ay=>ADj [.bool false,.slice none 0 0,.bool false,.slice none 0 0] AQm rfl trivial tt2 fun Bm Bn Az A3 A4=>AK4 ?_));have Aa:=(((Kst.k0 h).nb Au Av Ar).nb Ax Ay Aw).nb A3 A4 Az;refine AEk Ak ACf (cZ.klen (Aa.zx Ad)) rfl (Aa.b p2).agg (AEk Am ACf (cZ.klen (Aa.zx Ae)) rfl (Aa.b p1).agg (AG7 (AVo (Aa.zx Ad) (Aa.zx Ae)) ?_));obtain ⟨Bo,A5,A6⟩:=ABq hp;refine ADc rfl (AG9 ⟨_,_,rfl,(Aa.zx Ad),(Aa.zx Ae)⟩ A5) fun Bp Ao A7 A8=>?_;obtain ⟨Bq,rfl,A9⟩:=A8;obtain ⟨Ba,Bb,rfl,Bc,Be⟩:=A9;have Ab:=((Aa.e A7).az Bc).az Be;refine AC6 (Ba ++ Bb) AHq (AD4 (Ab.z p1) (Ab.z p0)) (AD4 (ACa Ao) (ACa Ao)) rfl rfl (ANb (Ab.z p1) (Ab.z p0)) (Ab.b p2) fun Br Bf Bg=>ABt (ABx ?_);have Ac:=Ab.sb p2 Bg Bf rfl;obtain rfl:=ABo A6;exact ⟨_,AEe AHq (AD4 (Ac.z p1) (Ac.z p0)) rfl (Ac.b p2),Ac.x,_,rfl,⟨_,_,rfl,(Ac.z p1),(Ac.z p0)⟩⟩
def AKu (fuel:Nat):Option (Int × Int):=
  ((ALi fuel 1).bind fun x7=>((ALi fuel 2).bind fun Ab=>(some (x7,Ab))))
theorem AS6 {fuel:Nat} {h:ABu} {r:(Int × Int)} (hp:AKu fuel=some r):ACo Tryz.prog 135 #[] h (fun x h'=>Ext h h'/\ ∃ (x0:Value),x=x0/\AYp h' x0 r.1 r.2):=by
 unfold AKu at hp;refine cwf (l:=[]) Tryz.func135 rfl rfl (ABp (ADj [.bool false,.slice none 0 0,.bool false,.slice none 0 0] AQm rfl trivial tt2 fun b1 h2 V3 E4 S5=>AK4 ?_));obtain ⟨x8,Ah,Ai⟩:=ABq hp;refine ADc rfl (AKs Ah) fun A7 A8 Aj Ak=>?_;obtain ⟨A9,rfl,Am⟩:=Ak;obtain ⟨Ao,rfl,Ap⟩:=Am.cs;obtain ⟨Ba,Aq,Ar⟩:=ABq Ai;refine ADc rfl (AKs Aq) fun Bb Ad Au Av=>?_;obtain ⟨Bc,rfl,Aw⟩:=Av;obtain ⟨Ax,rfl,Ay⟩:=Aw.cs;have Aa:=(((((Kst.k0 h).nb E4 S5 V3).e Aj).az Ap).e Au).az Ay;refine AG7 (AVo (Aa.z p1) (Aa.z p0)) (AC6 (Ao ++ Ax) AHq (AD4 (Aa.z p1) (Aa.z p0)) (AD4 (ACa Ad) (ACa Ad)) rfl rfl (ANb (Aa.z p1) (Aa.z p0)) (Aa.b p2) fun Be Az A3=>ABt (ABx ?_));have Ab:=Aa.sb p2 A3 Az rfl;obtain rfl:=ABo Ar;exact ⟨_,AEe AHq (AD4 (Ab.z p1) (Ab.z p0)) rfl (Ab.b p2),Ab.x,_,rfl,⟨_,_,rfl,(Ab.z p1),(Ab.z p0)⟩⟩
def ALj (fuel:Nat) (a3 a5 a9 Ag:Int):Option (Int × Int):=
  ((AEa fuel a3 a5).bind fun Aa=>((AEa fuel a9 Ag).bind fun Ab=>((ARl fuel Aa.1 Ab.2).bind fun Ah=>((ARl fuel Ab.1 Aa.2).bind fun Ai=>((Ah6 fuel Ah Ai).bind fun Aj=>((ARl fuel Aa.2 Ab.2).bind fun Ak=>((AH3 fuel Aj Ak).bind fun (Ac,Am)=>(some (Ac.1,Ac.2)))))))))
theorem AT2 {fuel:Nat} {h:ABu} {Bq:Value} {a3 a5:Int} {Bu:Value} {a9 Bw:Int} {r:(Int × Int)} (H2:AYp h Bq a3 a5) (H8:AYp h Bu a9 Bw) (hp:ALj fuel a3 a5 a9 Bw=some r):ACo Tryz.prog 134 #[Bq,Bu] h (fun x h'=>Ext h h'/\ ∃ (x0:Value),x=x0/\AYp h' x0 r.1 r.2):=by
 unfold ALj at hp;obtain ⟨By,Bz,rfl,H2z0,H2z1⟩:=H2;obtain ⟨B1,B3,rfl,H8z0,H8z1⟩:=H8;refine cwf (l:=[_,_]) Tryz.func134 rfl rfl (ABp (AFk (By ++ Bz) trivial tt2 rfl rfl fun Ek El Ct Cu Cv=>AFk (B1 ++ B3) trivial tt2 rfl rfl fun Em En Cw Cx Cy=>ADj [.bool false,.slice none 0 0,.bool false,.slice none 0 0] AQm rfl trivial tt2 fun Eo Ao Cz C0 C1=>ABt (ABr ?_)));have Ac:=(((Kst.k0 h).nb Cu Cv Ct).nb Cx Cy Cw).nb C0 C1 Cz;have Ap:UpT [] Ao Ao:=UpT.start all_nil;refine AW6 (B:=fun h'=>UpT [] Ao h') 4 [⟨5,108,[.bool false,.slice none 0 0,.bool false,.slice none 0 0]⟩,⟨6,108,[.bool false,.slice none 0 0,.bool false,.slice none 0 0]⟩] (fun _ _ U E=>U.thenE E) (by kernel_rfl) Ap (Amq rfl rfl AQm rfl AQm rfl (fun _ _ U E=>U.thenE E)) (h_l rfl (AEn (By ++ Bz) AHq (AD4 (Ac.zx H2z0) (Ac.zx H2z1)) rfl Ap (fun h' hb=>((Ac.b p2).ext hb.ext).agg) (ACs (h_e rfl fun Ep B4=>?_))));have Aq:=Ap.thenE B4;have Ar:=Ac.e B4;obtain ⟨Er,C2,C3⟩:=ABq hp;refine ADm Aq (fun _ E=>Aq.thenE E) rfl (AG9 ⟨_,_,rfl,(Ar.zx H2z0),(Ar.zx H2z1)⟩ C2) fun Es Et Au C4=>?_;obtain ⟨Eu,rfl,C5⟩:=C4;have B5:=Aq.thenE Au;obtain ⟨B6,Av,rfl,C6,C7⟩:=C5;have Aw:=((Ar.e Au).az C6).az C7;refine ACs ⟨Au,?_⟩;refine h_l rfl (AEn (B1 ++ B3) AHq (AD4 (Aw.zx H8z0) (Aw.zx H8z1)) rfl B5 (fun h' hb=>((Ac.b p1).ext hb.ext).agg) (ACs (h_e rfl fun Ev B7=>?_)));have Ax:=B5.thenE B7;have Ay:=Aw.e B7;obtain ⟨Ew,C8,C9⟩:=ABq C3;refine ADm Ax (fun _ E=>Ax.thenE E) rfl (AG9 ⟨_,_,rfl,(Ay.zx H8z0),(Ay.zx H8z1)⟩ C8) fun Ey Ez Az Da=>?_;obtain ⟨Fa,rfl,Db⟩:=Da;have Dc:=Ax.thenE Az;obtain ⟨B8,A3,rfl,Dd,De⟩:=Db;refine ACs ⟨Az,?_⟩;refine Aen fun B9 Ca=>Aue fun Fb Fc Cb Cd Df Dg Dh Fd Fe=>?_;have Aj:=(((Ay.e Az).az Dd).az De).e Ca;have Ad:=((((Ac.nb2 (Dc.thenE Ca).ext (Amr Dg Dh Cb.lt Cd.lt Df) Cb Cd).az (Aj.z p3)).az (Aj.z p2)).az (Aj.z p1)).az (Aj.z p0);refine AC6 (B6 ++ Av) AHq (AD4 (Ad.z p3) (Ad.z p2)) (AD4 (ACa B9) (ACa B9)) rfl rfl (ANb (Ad.z p3) (Ad.z p2)) (Ad.b p4) fun Ce Di Dj=>?_;have Ae:=Ad.sb p4 Dj Di rfl;refine AC6 (B8 ++ A3) AHq (AD4 (Ae.z p1) (Ae.z p0)) (AD4 (ACa Ce) (ACa Ce)) rfl rfl (ANb (Ae.z p1) (Ae.z p0)) (Ae.b p5) fun A4 Dk Dl=>ABt (ABr ?_);have Aa:=Ae.sb p5 Dl Dk rfl;have Ak:UpT [] A4 A4:=UpT.start all_nil;refine AW6 (B:=fun h'=>UpT [] A4 h') 20 [⟨7,108,[.bool false,.slice none 0 0,.bool false,.slice none 0 0]⟩] (fun _ _ U E=>U.thenE E) (by kernel_rfl) Ak (Agn rfl AQm rfl (fun _ _ U E=>U.thenE E)) (h_l rfl (AHf (fs:=2) AY0 (by kernel_rfl) (by decide) rfl (ACs (h_l rfl (AEn B6 ACf (cZ.klen (Aa.z p3)) rfl Ak (fun h' hb=>((Aa.b p4).ext hb.ext).aggL) (ACs (h_l rfl (AHf (fs:=2) AVn (by kernel_rfl) (by decide) rfl (ACs (h_l rfl (AEn A3 ACf (cZ.klen (Aa.z p0)) rfl Ak (fun h' hb=>((Aa.b p5).ext hb.ext).aggR (cZ.klen (Aa.z p1))) (ACs (h_e rfl fun Ff Cf=>?_)))))))))))));have A5:=Ak.thenE Cf;have A6:=Aa.e Cf;obtain ⟨Fg,Dn,Do⟩:=ABq C9;refine ADm A5 (fun _ E=>A5.thenE E) rfl (AQl (A6.z p3).2 (A6.z p0).2 Dn) fun Fh Fi A7 Dp=>?_;obtain ⟨Fj,rfl,Dq⟩:=Dp;have A8:=A5.thenE A7;obtain ⟨Fk,rfl,Dr⟩:=Dq.cs;have Am:=(A6.e A7).az Dr;refine ACs ⟨A7,?_⟩;refine h_l rfl (AHf (fs:=2) AY0 (by kernel_rfl) (by decide) rfl (ACs (h_l rfl (AEn B8 ACf (cZ.klen (Am.z p2)) rfl A8 (fun h' hb=>((Aa.b p5).ext hb.ext).aggL) (ACs (h_l rfl (AHf (fs:=2) AVn (by kernel_rfl) (by decide) rfl (ACs (h_l rfl (AEn Av ACf (cZ.klen (Am.z p3)) rfl A8 (fun h' hb=>((Aa.b p4).ext hb.ext).aggR (cZ.klen (Am.z p4))) (ACs (h_e rfl fun Fl Cg=>?_))))))))))));have A9:=A8.thenE Cg;have Ba:=Am.e Cg;obtain ⟨Fm,Ds,Dt⟩:=ABq Do;refine ADm A9 (fun _ E=>A9.thenE E) rfl (AQl (Ba.z p2).2 (Ba.z p3).2 Ds) fun Fo Fp Bb Du=>?_;obtain ⟨Fq,rfl,Dv⟩:=Du;have Dw:=A9.thenE Bb;obtain ⟨Fr,rfl,Dx⟩:=Dv.cs;refine ACs ⟨Bb,?_⟩;refine h_e rfl fun Ft Ch=>?_;have Bc:=Dw.thenE Ch;have Be:=((Ba.e Bb).az Dx).e Ch;obtain ⟨Fu,Dy,Dz⟩:=ABq Dt;refine ADm Bc (fun _ E=>Bc.thenE E) rfl (Agk (Be.z p1).2 (Be.z p0).2 Dy) fun Fv Fw Bf D0=>?_;obtain ⟨Fx,rfl,D1⟩:=D0;have Bg:=Bc.thenE Bf;obtain ⟨Fy,rfl,D2⟩:=D1.cs;have Ai:=(Be.e Bf).az D2;refine ACs ⟨Bf,?_⟩;refine h_l rfl (AHf (fs:=2) AVn (by kernel_rfl) (by decide) rfl (ACs (h_l rfl (AEn Av ACf (cZ.klen (Ai.z p5)) rfl Bg (fun h' hb=>((Aa.b p4).ext hb.ext).aggR (cZ.klen (Ai.z p6))) (ACs (h_l rfl (AHf (fs:=2) AVn (by kernel_rfl) (by decide) rfl (ACs (h_l rfl (AEn A3 ACf (cZ.klen (Ai.z p3)) rfl Bg (fun h' hb=>((Aa.b p5).ext hb.ext).aggR (cZ.klen (Ai.z p4))) (ACs (h_e rfl fun Fz Ci=>?_))))))))))));have Bh:=Bg.thenE Ci;have Bi:=Ai.e Ci;obtain ⟨F4,D3,D4⟩:=ABq Dz;refine ADm Bh (fun _ E=>Bh.thenE E) rfl (AQl (Bi.z p5).2 (Bi.z p3).2 D3) fun F5 F6 Bj D5=>?_;obtain ⟨F7,rfl,D6⟩:=D5;have D7:=Bh.thenE Bj;obtain ⟨F8,rfl,D8⟩:=D6.cs;refine ACs ⟨Bj,?_⟩;refine h_e rfl fun F9 Cj=>?_;have Bl:=D7.thenE Cj;have Bm:=((Bi.e Bj).az D8).e Cj;obtain ⟨⟨Ga,Gb⟩,D9,Ck⟩:=ABq D4;dsimp only at Ck;refine ADm Bl (fun _ E=>Bl.thenE E) rfl (APh (Bm.z p1).2 (Bm.z p0).2 D9) fun Gc Gd Bn Ea=>?_;obtain ⟨Ge,rfl,Eb⟩:=Ea;have Ec:=Bl.thenE Bn;obtain ⟨Bo,Bp,rfl,Ed,Ee⟩:=Eb;refine ACs ⟨Bn,?_⟩;refine h_l rfl (Wo (ACs (h_l rfl (ADn rfl rfl (ACs (h_l rfl (ADn rfl rfl (ACs (Aen fun Cm Cn=>Asj fun Gf Co Ef Gg=>?_)))))))));have Af:=(((Bm.e Bn).az Ed).az Ee).e Cn;have Ag:=((((((Aa.nb (Ec.thenE Cn).ext (AH8 Ef Co.lt) Co).az (Af.z p5)).az (Af.z p4)).az (Af.z p3)).az (Af.z p2)).az (Af.z p1)).az (Af.z p0);refine AC6 (Bo ++ Bp) AHq (AD4 (Ag.z p1) (Ag.z p0)) (AD4 (ACa Cm) (ACa Cm)) rfl rfl (ANb (Ag.z p1) (Ag.z p0)) (Ag.b p6) fun Cp Eg Eh=>AC4 ?_;have Ab:=Ag.sb p6 Eh Eg rfl;refine AEk (Bo ++ Bp) AHq (AD4 (Ab.z p1) (Ab.z p0)) rfl ((Ab.b p6).agg) (AC6 (Bo ++ Bp) AHq (AD4 (Ab.z p1) (Ab.z p0)) (AD4 (ACa Cp) (ACa Cp)) rfl rfl (ANb (Ab.z p1) (Ab.z p0)) (Ab.b p13) fun Gh Ei Ej=>ABt (ABx ?_));have Ah:=Ab.sb p13 Ej Ei rfl;obtain rfl:=ABo Ck;exact ⟨_,AEe AHq (AD4 (Ah.z p1) (Ah.z p0)) rfl (Ah.b p13),Ah.x,_,rfl,⟨_,_,rfl,(Ah.z p1),(Ah.z p0)⟩⟩
def AJ7 (fuel:Nat) (a3 a5:Int):Option Int:=
  ((AEa fuel a3 a5).bind fun Aa=>((AEp fuel Aa.1 Aa.2).bind fun Ad=>(some Ad)))
theorem ASt {fuel:Nat} {h:ABu} {Af:Value} {a3 a5 r:Int} (H2:AYp h Af a3 a5) (hp:AJ7 fuel a3 a5=some r):ACo Tryz.prog 133 #[Af] h (fun x h'=>Ext h h'/\ ∃ (x0:Value),x=x0/\ZZ h' x0 r):=by
 unfold AJ7 at hp;obtain ⟨Aj,Ak,rfl,H2z0,H2z1⟩:=H2;refine cwf (l:=[_]) Tryz.func133 rfl rfl (ABp (AFk (Aj ++ Ak) trivial tt2 rfl rfl fun b7 h8 V9 Au Av=>ADj [.bool false,.slice none 0 0] AGm rfl trivial tt2 fun Br Bt Aw Ax Ay=>AK4 ?_));have Ab:=((Kst.k0 h).nb Au Av V9).nb Ax Ay Aw;refine AEk (Aj ++ Ak) AHq (AD4 (Ab.zx H2z0) (Ab.zx H2z1)) rfl ((Ab.b p1).agg) ?_;obtain ⟨Bu,Az,A3⟩:=ABq hp;refine ADc rfl (AG9 ⟨_,_,rfl,(Ab.zx H2z0),(Ab.zx H2z1)⟩ Az) fun Bv Bw A4 A5=>?_;obtain ⟨Bx,rfl,A6⟩:=A5;obtain ⟨Am,Ao,rfl,A7,A8⟩:=A6;refine ADj [.bool false,.slice none 0 0,.bool false,.slice none 0 0] AQm rfl trivial tt2 fun By Ap A9 Ba Bb=>?_;have Ac:=(((Ab.e A4).az A7).az A8).nb Ba Bb A9;refine AC6 (Am ++ Ao) AHq (AD4 (Ac.z p2) (Ac.z p1)) (AD4 (ACa Ap) (ACa Ap)) rfl rfl (ANb (Ac.z p2) (Ac.z p1)) (Ac.b p0) fun Bz Bc Be=>AK4 (AHf (fs:=2) AY0 (by kernel_rfl) (by decide) rfl ?_);have Aa:=Ac.sb p0 Be Bc rfl;refine AEk Am ACf (cZ.klen (Aa.z p2)) rfl ((Aa.b p0).aggL) (AHf (fs:=2) AVn (by kernel_rfl) (by decide) rfl (AEk Ao ACf (cZ.klen (Aa.z p1)) rfl ((Aa.b p0).aggR (cZ.klen (Aa.z p2))) ?_));obtain ⟨B1,Bf,Bg⟩:=ABq A3;refine ADc rfl (AJj (Aa.z p2).2 (Aa.z p1).2 Bf) fun B3 Bh Bi Bj=>?_;obtain ⟨B4,rfl,Bl⟩:=Bj;obtain ⟨Bm,rfl,Bn⟩:=Bl.cs;have Ad:=(Aa.e Bi).az Bn;refine AC6 Bm ACf (cZ.klen (Ad.z p0)) (cZ.klen (ACa Bh)) rfl rfl (cZ.one (Ad.z p0)) (Ad.b p4) fun B5 I64 Bo=>ABt (ABx ?_);have Ae:=Ad.sb p4 Bo I64 rfl;obtain rfl:=ABo Bg;exact ⟨_,AEe ACf (cZ.klen (Ae.z p0)) rfl (Ae.b p4),Ae.x,_,rfl,(Ae.z p0).2⟩
def AHj (fuel:Nat) (a3 a5:Int):Option Int:=
  ((AKu fuel).bind fun Aa=>((ALj fuel a3 a5 Aa.1 Aa.2).bind fun Ab=>((AJ7 fuel Ab.1 Ab.2).bind fun Ae=>(some Ae))))
theorem ARo {fuel:Nat} {h:ABu} {Ai:Value} {a3 a5 r:Int} (H2:AYp h Ai a3 a5) (hp:AHj fuel a3 a5=some r):ACo Tryz.prog 80 #[Ai] h (fun x h'=>Ext h h'/\ ∃ (x0:Value),x=x0/\ZZ h' x0 r):=by
 unfold AHj at hp;obtain ⟨Ao,Ap,rfl,H2z0,H2z1⟩:=H2;refine cwf (l:=[_]) Tryz.func80 rfl rfl (ABp (AFk (Ao ++ Ap) trivial tt2 rfl rfl fun b7 h8 V9 Ax Ay=>ADj [.bool false,.slice none 0 0] AGm rfl trivial tt2 fun Bw Af Az A3 A4=>ABt (ABr (AEj (fun h'=>UpT [] Af h') (by kernel_rfl) ?_))));have Ab:=((Kst.k0 h).nb Ax Ay V9).nb A3 A4 Az;have Ac:UpT [] Af Af:=UpT.start all_nil;refine AEn (Ao ++ Ap) AHq (AD4 (Ab.zx H2z0) (Ab.zx H2z1)) rfl Ac (fun h' hb=>((Ab.b p1).ext hb.ext).agg) ?_;obtain ⟨Bx,A5,A6⟩:=ABq hp;refine ADm Ac (fun _ E=>Ac.thenE E) rfl (AS6 A5) fun By Bz Aq A7=>?_;obtain ⟨B1,rfl,A8⟩:=A7;have Ag:=Ac.thenE Aq;obtain ⟨B3,B4,rfl,A9,Ba⟩:=A8;have Aa:=((Ab.e Aq).az A9).az Ba;obtain ⟨B5,Bb,Bc⟩:=ABq A6;refine ADm Ag (fun _ E=>Ag.thenE E) rfl (AT2 ⟨_,_,rfl,(Aa.zx H2z0),(Aa.zx H2z1)⟩ ⟨_,_,rfl,(Aa.z p1),(Aa.z p0)⟩ Bb) fun B6 B7 Ar Be=>?_;obtain ⟨B8,rfl,Bf⟩:=Be;have Au:=Ag.thenE Ar;obtain ⟨B9,Ca,rfl,Bg,Bh⟩:=Bf;have Ah:=((Aa.e Ar).az Bg).az Bh;obtain ⟨Cb,Bi,Bj⟩:=ABq Bc;refine ADm Au (fun _ E=>Au.thenE E) rfl (ASt ⟨_,_,rfl,(Ah.z p1),(Ah.z p0)⟩ Bi) fun Cd Bl Bm Bn=>?_;obtain ⟨Ce,rfl,Bo⟩:=Bn;obtain ⟨Bp,rfl,Bq⟩:=Bo.cs;have Ad:=(Ah.e Bm).az Bq;refine AC6 Bp ACf (cZ.klen (Ad.z p0)) (cZ.klen (ACa Bl)) rfl rfl (cZ.one (Ad.z p0)) (Ad.b p5) fun Cf Br Bt=>ABt (ABx ?_);have Ae:=Ad.sb p5 Bt Br rfl;obtain rfl:=ABo Bj;exact ⟨_,AEe ACf (cZ.klen (Ae.z p0)) rfl (Ae.b p5),Ae.x,_,rfl,(Ae.z p0).2⟩
def AGg (fuel:Nat) (a3:LiI) (a7:LiA) (a9:Int):Option Bool:=
  ((AFd fuel a3 a9 (w64 (a9 - 1))).bind fun Ac=>((ALi fuel 4).bind fun Ae=>((AD9 fuel a7 (w64 (a9 - 1))).bind fun Af=>((AD9 fuel a7 (w64 (a9 + 1))).bind fun Ag=>((ARl fuel Af Ag).bind fun Ah=>((ARl fuel Ac Ac).bind fun Ai=>((Ah6 fuel Ah Ai).bind fun Aj=>((ARl fuel Ae Aj).bind fun Ak=>((ALi fuel 3).bind fun Am=>((AD9 fuel a7 a9).bind fun Ao=>((AD9 fuel a7 a9).bind fun Ap=>((ARl fuel Ao Ap).bind fun Aq=>((ARl fuel Am Aq).bind fun Ar=>((Abp fuel Ak Ar).bind fun Au=>(some (decide (0<=Au)))))))))))))))))
theorem AN8 {fuel:Nat} {h:ABu} {Bj:Value} {a3:LiI} {Bm:Value} {a7:LiA} {a9:Int} {r:Bool} (H2:AEq cZ h Bj a3) (H6:SlC cZ h Bm a7) (hp:AGg fuel a3 a7 a9=some r):ACo Tryz.prog 84 #[Bj,Bm,(.int .i64 a9)] h (fun x h'=>Ext h h'/\x= .bool r):=by
 unfold AGg at hp;refine cwf (l:=[_,_,_]) Tryz.func84 rfl rfl (ABp (AC4 (Wo (Wo (Wo (AHm rfl rfl ?_))))));have K0:=Kst.k0 h;obtain ⟨Ez,Cg,Ch⟩:=ABq hp;refine ADc rfl (AKi (H2.ext K0.x) Cg) fun Fa Fb Ci Cj=>?_;obtain ⟨Fc,rfl,Ck⟩:=Cj;obtain ⟨Ag,rfl,Cm⟩:=Ck.cs;refine ADj [.bool false,.slice none 0 0] AGm rfl trivial tt2 fun Fd Cn Co Cp Cq=>?_;have Ac:=((K0.e Ci).az Cm).nb Cp Cq Co;refine AC6 Ag ACf (cZ.klen (Ac.z p1)) (cZ.klen (ACa Cn)) rfl rfl (cZ.one (Ac.z p1)) (Ac.b p0) fun Ah Cr Ct=>ABt (ABr ?_);have Ad:=Ac.sb p0 Ct Cr rfl;have Bq:UpT [] Ah Ah:=UpT.start all_nil;refine AW6 (B:=fun h'=>UpT [] Ah h') 15 [⟨8,90,[.bool false,.slice none 0 0]⟩] (fun _ _ U E=>U.thenE E) (by kernel_rfl) Bq (Agn rfl AGm rfl (fun _ _ U E=>U.thenE E)) (h_e rfl fun Fe Br=>?_);have Ai:=Bq.thenE Br;obtain ⟨Ff,Cu,Cv⟩:=ABq Ch;refine ADm Ai (fun _ E=>Ai.thenE E) rfl (AKs Cu) fun Fg Fh Aj Cw=>?_;obtain ⟨Fi,rfl,Cx⟩:=Cw;have Cy:=Ai.thenE Aj;obtain ⟨Fj,rfl,Cz⟩:=Cx.cs;refine ACs ⟨Aj,?_⟩;refine h_l rfl (Wo (ACs (h_l rfl (Wo (ACs (h_l rfl (AHm rfl rfl (ACs (h_e rfl fun Fk Bt=>?_)))))))));have Ak:=Cy.thenE Bt;have Bu:=(((Ad.e Br).e Aj).az Cz).e Bt;obtain ⟨Fl,C0,C1⟩:=ABq Cv;refine ADm Ak (fun _ E=>Ak.thenE E) rfl (AFn (H6.ext Bu.x) C0) fun Fm Fo Am C2=>?_;obtain ⟨Fp,rfl,C3⟩:=C2;have C4:=Ak.thenE Am;obtain ⟨Fq,rfl,C5⟩:=C3.cs;refine ACs ⟨Am,?_⟩;refine h_l rfl (Wo (ACs (h_l rfl (Wo (ACs (h_l rfl (ACx rfl rfl (ACs (h_e rfl fun Fr Bv=>?_)))))))));have Ao:=C4.thenE Bv;have Bw:=((Bu.e Am).az C5).e Bv;obtain ⟨Ft,C6,C7⟩:=ABq C1;refine ADm Ao (fun _ E=>Ao.thenE E) rfl (AFn (H6.ext Bw.x) C6) fun Fu Fv Ap C8=>?_;obtain ⟨Fw,rfl,C9⟩:=C8;have Da:=Ao.thenE Ap;obtain ⟨Fx,rfl,Db⟩:=C9.cs;refine ACs ⟨Ap,?_⟩;refine h_e rfl fun Fy Bx=>?_;have Aq:=Da.thenE Bx;have Ar:=((Bw.e Ap).az Db).e Bx;obtain ⟨Fz,Dc,Dd⟩:=ABq C7;refine ADm Aq (fun _ E=>Aq.thenE E) rfl (AQl (Ar.z p1).2 (Ar.z p0).2 Dc) fun F4 F5 Au De=>?_;obtain ⟨F6,rfl,Df⟩:=De;have Av:=Aq.thenE Au;obtain ⟨F7,rfl,Dg⟩:=Df.cs;have Aw:=(Ar.e Au).az Dg;refine ACs ⟨Au,?_⟩;refine h_l rfl (AEn Ag ACf (cZ.klen (Aw.z p5)) rfl Av (fun h' hb=>((Ad.b p0).ext hb.ext).agg) (ACs (h_l rfl (AEn Ag ACf (cZ.klen (Aw.z p5)) rfl Av (fun h' hb=>((Ad.b p0).ext hb.ext).agg) (ACs (h_e rfl fun F8 By=>?_))))));have Ax:=Av.thenE By;have Ay:=Aw.e By;obtain ⟨F9,Dh,Di⟩:=ABq Dd;refine ADm Ax (fun _ E=>Ax.thenE E) rfl (AQl (Ay.z p5).2 (Ay.z p5).2 Dh) fun Ga Gb Az Dj=>?_;obtain ⟨Gc,rfl,Dk⟩:=Dj;have Dl:=Ax.thenE Az;obtain ⟨Gd,rfl,Dn⟩:=Dk.cs;refine ACs ⟨Az,?_⟩;refine h_e rfl fun Ge Bz=>?_;have A3:=Dl.thenE Bz;have A4:=((Ay.e Az).az Dn).e Bz;obtain ⟨Gf,Do,Dp⟩:=ABq Di;refine ADm A3 (fun _ E=>A3.thenE E) rfl (Agk (A4.z p1).2 (A4.z p0).2 Do) fun Gg Gh A5 Dq=>?_;obtain ⟨Gi,rfl,Dr⟩:=Dq;have Ds:=A3.thenE A5;obtain ⟨Gj,rfl,Dt⟩:=Dr.cs;refine ACs ⟨A5,?_⟩;refine h_e rfl fun Gk B1=>?_;have A6:=Ds.thenE B1;have A7:=((A4.e A5).az Dt).e B1;obtain ⟨Gl,Du,Dv⟩:=ABq Dp;refine ADm A6 (fun _ E=>A6.thenE E) rfl (AQl (A7.z p5).2 (A7.z p0).2 Du) fun Gm Gn A8 Dw=>?_;obtain ⟨Gp,rfl,Dx⟩:=Dw;have Dy:=A6.thenE A8;obtain ⟨B3,rfl,Dz⟩:=Dx.cs;refine ACs ⟨A8,?_⟩;refine Aen fun D0 B4=>Asj fun Gq B5 D1 Gr=>?_;have Aa:=((A7.e A8).az Dz).e B4;have Ae:=(((((((Ad.nb (Dy.thenE B4).ext (AH8 D1 B5.lt) B5).az (Aa.z p6)).az (Aa.z p5)).az (Aa.z p4)).az (Aa.z p3)).az (Aa.z p2)).az (Aa.z p1)).az (Aa.z p0);refine AC6 B3 ACf (cZ.klen (Ae.z p0)) (cZ.klen (ACa D0)) rfl rfl (cZ.one (Ae.z p0)) (Ae.b p7) fun A9 D2 D3=>ABt (ABr (AEj (fun h'=>UpT [] A9 h') (by kernel_rfl) ?_));have Ba:=Ae.sb p7 D3 D2 rfl;have Af:UpT [] A9 A9:=UpT.start all_nil;refine AEn B3 ACf (cZ.klen (Ba.z p0)) rfl Af (fun h' hb=>((Ba.b p7).ext hb.ext).agg) ?_;obtain ⟨Gt,D4,D5⟩:=ABq Dv;refine ADm Af (fun _ E=>Af.thenE E) rfl (AKs D4) fun Gu Gv B6 D6=>?_;obtain ⟨Gw,rfl,D7⟩:=D6;have Bb:=Af.thenE B6;obtain ⟨Gx,rfl,D8⟩:=D7.cs;refine Wo (Wo ?_);have B7:=(Ba.e B6).az D8;obtain ⟨Gy,D9,Ea⟩:=ABq D5;refine ADm Bb (fun _ E=>Bb.thenE E) rfl (AFn (H6.ext B7.x) D9) fun Gz G3 B8 Eb=>?_;obtain ⟨G4,rfl,Ec⟩:=Eb;have Bc:=Bb.thenE B8;obtain ⟨G5,rfl,Ed⟩:=Ec.cs;refine Wo (Wo ?_);have B9:=(B7.e B8).az Ed;obtain ⟨G6,Ee,Ef⟩:=ABq Ea;refine ADm Bc (fun _ E=>Bc.thenE E) rfl (AFn (H6.ext B9.x) Ee) fun G7 G8 Ca Eg=>?_;obtain ⟨G9,rfl,Eh⟩:=Eg;have Be:=Bc.thenE Ca;obtain ⟨Hb,rfl,Ei⟩:=Eh.cs;have Bf:=(B9.e Ca).az Ei;obtain ⟨Hc,Ej,Ek⟩:=ABq Ef;refine ADm Be (fun _ E=>Be.thenE E) rfl (AQl (Bf.z p1).2 (Bf.z p0).2 Ej) fun Hd He Cb El=>?_;obtain ⟨Hf,rfl,Em⟩:=El;have Bg:=Be.thenE Cb;obtain ⟨Hg,rfl,En⟩:=Em.cs;have Bh:=(Bf.e Cb).az En;obtain ⟨Hh,Eo,Ep⟩:=ABq Ek;refine ADm Bg (fun _ E=>Bg.thenE E) rfl (AQl (Bh.z p3).2 (Bh.z p0).2 Eo) fun Hj Hk Cd Er=>?_;obtain ⟨Hl,rfl,Es⟩:=Er;have Ce:=Bg.thenE Cd;obtain ⟨Hm,rfl,Et⟩:=Es.cs;have Bi:=(Bh.e Cd).az Et;obtain ⟨Hn,Eu,Ev⟩:=ABq Ep;refine ADm Ce (fun _ E=>Ce.thenE E) rfl (AZ7 (Bi.z p5).2 (Bi.z p0).2 Eu) fun Ho Hq Ew Ey=>?_;subst Ey;refine AM5 rfl rfl (ABv (ABx ?_));obtain rfl:=ABo Ev;exact ⟨_,ABz,(Bi.e Ew).x,rfl⟩
def ALt (fuel:Nat) (a3:LiI) (x5:LiA) (Ab Aa:Int) (Ac:LiI):Option ((Int × LiI) ⊕ (((LiI × Bool)) ⊕ (LiI))):=
  (if 0<=Aa then ((AGu fuel a3 x5 Ab Aa).bind fun Ah=>(if (!Ah)=true then ((gI Ac Aa).bind fun Af=>((AFd fuel a3 Ab Aa).bind fun Ai=>((AD9 fuel x5 (w64 (Aa + 1))).bind fun Aj=>((AG3 fuel Ai Aj).bind fun Ag=>((AHj fuel Ag.1 Ag.2).bind fun Ak=>((Aej fuel Ak).bind fun Am=>((gI Af Ab).bind fun Ao=>(some (Sum.inr<| Sum.inl <| ((sI Ac Aa (sI Af Ab Am)),true)))))))))) else (some (Sum.inl ((w64 (Aa - 1)),Ac))))) else (some (Sum.inr<| Sum.inr <| Ac)))
def ALu (fuel:Nat) (a3:LiI) (x5:LiA) (Aa:Int) (Ae:LiI):Option ((Int × LiI) ⊕ (((LiI × Bool)) ⊕ (Unit))):=
  (if Aa < (a3.length:Int) then ((iter (fun s=>ALt fuel a3 x5 Aa s.1 s.2) fuel ((w64 (Aa - 1)),Ae)).bind (fun ex=>match ex with | Sum.inl Af=>(some (Sum.inr<| Sum.inl <| Af)) | Sum.inr (Ab)=>(if 0 < Aa then ((AGg fuel a3 x5 Aa).bind fun Ag=>(if (!Ag)=true then ((gI Ab (w64 (Aa - 1))).bind fun Ah=>((gI Ab Aa).bind fun Ai=>(some (Sum.inr<| Sum.inl <| ((sI (sI Ab Aa Ah) (w64 (Aa - 1)) Ai),true))))) else (some (Sum.inl ((w64 (Aa + 1)),Ab))))) else (some (Sum.inl ((w64 (Aa + 1)),Ab)))))) else (some (Sum.inr<| Sum.inr <| ())))
def AIr (fuel:Nat) (a3:LiI):Option (LiI × Bool):=
  ((AE0 fuel a3).bind fun (x5,x6)=>((AFm fuel (a3.length:Int)).bind fun (Ac,Af)=>((iter (fun s=>ALu fuel a3 x5 s.1 s.2) fuel (0,Ac)).bind (fun ex=>match ex with | Sum.inl Ad=>(some Ad) | Sum.inr (_)=>(some ([],false))))))
theorem AS7 {fuel:Nat} {h:ABu} {Bi:Value} {a3:LiI} {r:(LiI × Bool)} (H2:AEq cZ h Bi a3) (hp:AIr fuel a3=some r):ACo Tryz.prog 39 #[Bi] h (fun x h'=>Ext h h'/\ ∃ (x0:Value) (F0:List Nat) (B8:List LnA) (B9:List Value),x= .tuple #[x0,.bool r.2]/\AFi cZ 100 90 h' F0 B8 B9 x0 r.1/\Sp h' h.size [F0]):=by
 unfold AIr at hp;refine cwf (l:=[_]) Tryz.func39 rfl rfl (ABp (ACr (AC4 (Wo ?_))));have K0:=Kst.k0 h;obtain ⟨⟨x5,x6⟩,Ca,Bo⟩:=ABq hp;dsimp only at Bo;refine ADc rfl (AJ0 (H2.ext K0.x) Ca) fun Em En E9 Cd=>?_;obtain ⟨Eo,Ep,rfl,Ce,Cf⟩:=Cd;refine Wo (ADn rfl rfl (ADn rfl rfl (ACr (AC4 (Wo (ADa ADv rfl H2 ?_))))));obtain ⟨⟨Cg,Er⟩,Ch,Bp⟩:=ABq Bo;dsimp only at Bp;refine ADc rfl (ANd Ch) fun Es Et Ci Cj=>?_;obtain ⟨Bq,Ck,Cm,Cn,rfl,Co,Cp⟩:=Cj;refine Wo (ADn rfl rfl (ADn rfl rfl (ACr (ABv (ABr (ABp (Wo (ADa ADv rfl H2 (Wo (ABt (ABw ?_)))))))))));have Br:=(K0.no E9 Cf Ce).no2 Ci Cp Co;obtain ⟨Aj,Cq,Ap⟩:=ABq Bp;obtain ⟨Cr,Ct,Cu⟩:=ACe Cq;refine ACq 9671406556917033389261580 (fun x:(Int) × (LiI) × LnA × LnN × LvA=>[(23,(.int .i64 x.1))]) (fun k x h'=>iter Cr k (x.1,x.2.1)=some Aj/\Kst h h' (Br.L.set 0 (aO2 cZ 100 90 x.2.2.1 x.2.2.2.1 x.2.2.2.2 Bq x.2.1))) (by kernel_rfl) fuel ((0,Cg,Ck,Cm,Cn):(Int) × (LiI) × LnA × LnN × LvA) ?_ ⟨rfl,trivial⟩ ?_
 ·exact ⟨Cu,Br⟩
 rintro Eu ⟨Ak,Cv,Cw,Cx,Cy⟩ Ev Ew ⟨Cz,Aq⟩;obtain ⟨Bt,Ey,rfl,Ad,Aa⟩:=AB8 Cz;rw [Ct] at Ad;dsimp only at Ad;unfold ALu at Ad;refine ABp (ACu rfl rfl (ABt (ABr (⟨_,rfl,fun Ar=>?_,fun Ar=>?_⟩))))
 ·refine ABy (q_t (ABr (ABw (ABp (Wo (ABv (ABr (ABp (Wo (AHm rfl rfl (ABv (ABw ?_))))))))))));obtain ⟨Au,C0,Av⟩:=ABq (AC8 Ad Ar);obtain ⟨C1,C2,C3⟩:=ACe C0;refine ACq 72057593769493004 (fun x:(Int) × (LiI) × LnA × LnN × LvA=>[(9,(.int .i64 x.1))]) (fun k x h'=>iter C1 k (x.1,x.2.1)=some Au/\Kst h h' (Aq.L.set 0 (aO2 cZ 100 90 x.2.2.1 x.2.2.2.1 x.2.2.2.2 Bq x.2.1))) (by kernel_rfl) fuel (((w64 (Ak - 1)),Cv,Cw,Cx,Cy):(Int) × (LiI) × LnA × LnN × LvA) ?_ ⟨rfl,trivial⟩ ?_
  ·exact ⟨C3,Aq⟩
  rintro Ez ⟨Aw,Ax,Ay,Az,A3⟩ Fa Fb ⟨C4,Ab⟩;obtain ⟨C5,Fc,rfl,Ae,Af⟩:=AB8 C4;rw [C2] at Ae;dsimp only at Ae;unfold ALt at Ae;refine ABr (ABp (Wo (AM5 rfl rfl (ABt (⟨_,rfl,fun A4=>?_,fun A4=>?_⟩)))))
  ·refine ABy (q_t (ABr (ABw (ABp (Wo (Wo (Wo (Wo ?_))))))));obtain ⟨Fd,C6,Bu⟩:=ABq (AC8 Ae A4);refine ADc rfl (AOf (H2.ext Ab.x) (Ab.o p1).rd C6) fun Fe A5 C7 C8=>?_;subst C8;refine AEy rfl (ABt ?_);have Ag:=Ab.e C7;refine ⟨_,rfl,fun A6=>?_,fun A6=>?_⟩
   ·refine ABr (AEj (fun h'=>UpT [] A5 h') (by kernel_rfl) ?_);have Am:UpT [] A5 A5:=UpT.start all_nil;refine Wo (Wo ?_);obtain ⟨Ff,A7,C9⟩:=ABq (ifT Bu A6);refine ADf ADv rfl (Ag.o2 p0) rfl A7 fun Fg Fh Fi Da Db=>AFg AFp rfl Am (fun h' hb=>AB1 Db hb.ext) (Wo (Wo (Wo (Wo ?_))));obtain ⟨Fj,Dc,Dd⟩:=ABq C9;refine ADm Am (fun _ E=>Am.thenE E) rfl (AKi (H2.ext Ag.x) Dc) fun Fk Fl Bv De=>?_;obtain ⟨Fm,rfl,Df⟩:=De;have A8:=Am.thenE Bv;obtain ⟨Fo,rfl,Dg⟩:=Df.cs;refine Wo (Wo (ACx rfl rfl ?_));have Bw:=(Ag.e Bv).az Dg;obtain ⟨Fp,Dh,Di⟩:=ABq Dd;refine ADm A8 (fun _ E=>A8.thenE E) rfl (AFn (Bw.o p2).rd Dh) fun Fq Fr Bx Dj=>?_;obtain ⟨Ft,rfl,Dk⟩:=Dj;have A9:=A8.thenE Bx;obtain ⟨Fu,rfl,Dl⟩:=Dk.cs;have Ba:=(Bw.e Bx).az Dl;obtain ⟨Fv,Dn,Do⟩:=ABq Di;refine ADm A9 (fun _ E=>A9.thenE E) rfl (AQy (Ba.z p1).2 (Ba.z p0).2 Dn) fun Fw Fx By Dp=>?_;obtain ⟨Fy,rfl,Dq⟩:=Dp;have Bb:=A9.thenE By;obtain ⟨Fz,F4,rfl,Dr,Ds⟩:=Dq;have Bc:=((Ba.e By).az Dr).az Ds;obtain ⟨F5,Dt,Du⟩:=ABq Do;refine ADm Bb (fun _ E=>Bb.thenE E) rfl (ARo ⟨_,_,rfl,(Bc.z p1),(Bc.z p0)⟩ Dt) fun F6 F7 Bz Dv=>?_;obtain ⟨F8,rfl,Dw⟩:=Dv;have B1:=Bb.thenE Bz;obtain ⟨F9,rfl,Dx⟩:=Dw.cs;have B3:=(Bc.e Bz).az Dx;obtain ⟨Ga,Dy,Dz⟩:=ABq Du;refine ADm B1 (fun _ E=>B1.thenE E) rfl (Ac0 (B3.z p0).2 Dy) fun Gb Gc D0 D1=>?_;obtain ⟨Gd,rfl,D2⟩:=D1;obtain ⟨Ge,rfl,D3⟩:=D2.cs;have Ah:=(B3.e D0).az D3;obtain ⟨Gf,B4,D4⟩:=ABq Dz;refine AD0 (m:=Aw) AEv rfl (Ag.o2 p0) Da A7 rfl B4 fun Gg D5=>AGz (m:=Aw) (ASd ACf (cZ.klen (Ah.z p0)) rfl rfl (cZ.one (Ah.z p0))) (Ah.o2 p6) D5 A7 B4 (Ah.z p0) fun Gh D6 D7=>AK4 (Wo (ACr (ABv ?_)));have Be:=Ah.uO2 p6 D7 D6;obtain rfl:=ABo D4;change _=Au at Af;subst Af;obtain rfl:=ABo Av;change _=Aj at Aa;subst Aa;refine ABx (ADb (AB2 (AB2 (ADb (AB2 (ADb (AB2 (AB2 (ADb (AB2 ?_))))))))));obtain rfl:=ABo Ap;exact ⟨_,ADt,Be.x,_,_,_,_,rfl,(Be.o2 p6),Be.s.sel [6] (by decide)⟩
   ·refine ABy (q_b (q_t (AB6 (Wo (AHm rfl rfl (ABv ?_))))));obtain rfl:=ABo (AHo Bu A6);exact ⟨C5,(((w64 (Aw - 1)),Ax,Ay,Az,A3):(Int) × (LiI) × LnA × LnN × LvA),Nat.lt_succ_self _,⟨Af,Ag⟩,rfl,trivial⟩
  ·obtain rfl:=ABo (AC9 Ae A4);change _=Au at Af;subst Af;refine ACg (ACi (ACi (ADp (q_t (ABp (Wo (AGq rfl rfl (Wo ?_))))))));by_cases Ao:0 < Ak
   ·rw [decide_eq_true Ao];refine AB4 58 true (Wo (AB4 58 true (Wo (AB4 58 true (Wo (AB4 58 true ?_))))));obtain ⟨Gi,D8,B5⟩:=ABq (ifT Av Ao);refine ADc rfl (AN8 (H2.ext Ab.x) (Ab.o p1).rd D8) fun Gj Gk D9 Ea=>?_;subst Ea;refine AB4 58 true (AEy rfl (AB5 rfl (ABt ?_)));have Ai:=Ab.e D9;refine ⟨_,rfl,fun Bf=>?_,fun Bf=>?_⟩
    ·refine ABr (AI7 (Wo (Wo (Wo (Wo (AHm rfl rfl (Wo (Wo (AHm rfl rfl ?_)))))))));obtain ⟨Gl,B6,Eb⟩:=ABq (ifT B5 Bf);refine ADf ADv rfl (Ai.o2 p0) rfl B6 fun Gm Gn Gp Ec Ed=>AB3 AFp rfl Ed (Wo (Wo ?_));obtain ⟨Gq,B7,Ee⟩:=ABq Eb;refine ADf ADv rfl (Ai.o2 p0) rfl B7 fun Gr Gt Gu Ef Eg=>AB3 AFp rfl Eg (ATu ADv AFp (Ai.o2 p0) Ef Ec B7 B6 rfl rfl (fun _=>rfl) (fun _=>rfl) (fun _=>rfl) (fun _ _=>rfl) fun Gv Gw Gx Gy Gz G3 Eh Ei Ej=>AK4 (Wo (ACr (ABv ?_))));have Bg:=Ai.uo2 p0 Ei Eh Ej;obtain rfl:=ABo Ee;change _=Aj at Aa;subst Aa;refine ABx (ADb (AB2 (AB2 (ADb (AB2 ?_)))));obtain rfl:=ABo Ap;exact ⟨_,ADt,Bg.x,_,_,_,_,rfl,(Bg.o2 p0),Bg.s.sel [0] (by decide)⟩
    ·refine ABy (q_b (q_t (AB6 (ACx rfl rfl (Wo (ABt ?_))))));obtain rfl:=ABo (AHo B5 Bf);exact ⟨Bt,(((w64 (Ak + 1)),Ax,Ay,Az,A3):(Int) × (LiI) × LnA × LnN × LvA),Nat.lt_succ_self _,⟨Aa,Ai⟩,rfl,trivial⟩
   ·rw [decide_eq_false Ao];refine AHn 58 false (AB0 rfl (ABt (ACn rfl (ABy (q_b (q_t (AB6 (ACx rfl rfl (Wo (ABt ?_))))))))));obtain rfl:=ABo (ifF Av Ao);exact ⟨Bt,(((w64 (Ak + 1)),Ax,Ay,Az,A3):(Int) × (LiI) × LnA × LnN × LvA),Nat.lt_succ_self _,⟨Aa,Ab⟩,rfl,trivial⟩
 ·obtain rfl:=ABo (AC9 Ad Ar);change _=Aj at Aa;subst Aa;refine ACg (ACi (ACi (ADp (q_t (ABp (ACr (ABv (ABx ?_))))))));have Bh:=Kst.anil2 cZ 100 90 Aq;obtain rfl:=ABo Ap;exact ⟨_,ADt,Bh.x,_,_,_,_,rfl,(Bh.o2 p0),Bh.s.sel [0] (by decide)⟩
def AKj (fuel:Nat) (Aa Ab:LiI):Option ((LiI × LiI) ⊕ (((LiI × LiI × Int)))):=
  ((AIr fuel Aa).bind fun (Ac,Ad)=>(if (!Ad)=true then ((AHr fuel Aa).bind fun (Ae,Ah)=>(some (Sum.inr<| (Ae,Ab,0)))) else ((AE8 fuel Aa Ac).bind fun Af=>((AD7 fuel Ab Ac).bind fun Ag=>(some (Sum.inl (Af,Ag)))))))
def AHs (fuel:Nat) (a3:LiI):Option (LiI × LiI × Int):=
  ((AEh fuel a3).bind fun x5=>(if ¬ x5=0 then (some ([],[],x5)) else ((AGv fuel a3).bind fun Ac=>(if (!Ac)=true then (some ([],[],7)) else ((AHh fuel a3).bind fun Ad=>((AFm fuel (a3.length:Int)).bind fun (Ae,Ag)=>((iter (fun s=>AKj fuel s.1 s.2) fuel (Ad,Ae)).bind (fun (Af:(LiI × LiI × Int))=>(some Af)))))))))
theorem ARy {fuel:Nat} {h:ABu} {Aq:Value} {a3:LiI} {r:(LiI × LiI × Int)} (H2:AEq cZ h Aq a3) (hp:AHs fuel a3=some r):ACo Tryz.prog 17 #[Aq] h (fun x h'=>Ext h h'/\ ∃ (x0:Value) (F0:List Nat) (A9:List LnA) (Ba:List Value) (x1:Value) (F1:List Nat) (Bb:List LnA) (Bc:List Value),x= .tuple #[x0,x1,.int .i64 r.2.2]/\AFi (cI .i64) 35 2 h' F0 A9 Ba x0 r.1/\AFi cZ 100 90 h' F1 Bb Bc x1 r.2.1/\Sp h' h.size [F0,F1]):=by
 unfold AHs at hp;refine cwf (l:=[_]) Tryz.func17 rfl rfl (ABp (ACr (ACr (ABv (ABr (ABp (Wo ?_)))))));have K0:=Kst.k0 h;obtain ⟨x5,Be,Az⟩:=ABq hp;refine ADc rfl (AJp (H2.ext K0.x) Be) fun Dg h9 E8 Bg=>?_;subst Bg;refine AC4 (Wo (AEt rfl rfl (ABt ?_)));have Ag:=K0.e E8;refine ⟨_,rfl,fun Ah=>?_,fun Ah=>?_⟩
 ·refine ABp (Wo (ACr (ACr (ABv (ABx (AB2 ?_))))));have Ac:=Kst.anil2 cZ 100 90 (Kst.anil2 (cI .i64) 35 2 Ag);obtain rfl:=ABo (AC8 Az Ah);exact ⟨_,AK3,Ac.x,_,_,_,_,_,_,_,_,rfl,(Ac.o2 p1),(Ac.o2 p0),Ac.s.sel [1,0] (by decide)⟩
 ·refine ABy (q_t (ABr (ABp (Wo ?_))));obtain ⟨Di,Bh,A3⟩:=ABq (AC9 Az Ah);refine ADc rfl (AOg (H2.ext Ag.x) Bh) fun Dj Dk Bi Bj=>?_;subst Bj;refine AEy rfl (ABt ?_);have Ai:=Ag.e Bi;refine ⟨_,rfl,fun Aj=>?_,fun Aj=>?_⟩
  ·refine ABp (ACr (ACr (ABv (ABx (AB2 ?_)))));have Ad:=Kst.anil2 cZ 100 90 (Kst.anil2 (cI .i64) 35 2 Ai);obtain rfl:=ABo (ifT A3 Aj);exact ⟨_,AK3,Ad.x,_,_,_,_,_,_,_,_,rfl,(Ad.o2 p1),(Ad.o2 p0),Ad.s.sel [1,0] (by decide)⟩
  ·refine ABy (q_t (ABp (Wo ?_)));obtain ⟨Bl,Bm,Bn⟩:=ABq (AHo A3 Aj);refine ADc rfl (AOw (H2.ext Ai.x) Bm) fun Bo Dl Bp Bq=>?_;obtain ⟨Dn,Br,Bt,Bu,rfl,Bv,Bw⟩:=Bq;refine AC4 (Wo (ADa ADv rfl H2 ?_));obtain ⟨⟨Bx,Do⟩,By,A4⟩:=ABq Bn;dsimp only at A4;refine ADc rfl (ANd By) fun Dp Dq Bz B1=>?_;obtain ⟨B3,B4,B5,B6,rfl,B7,B8⟩:=B1;refine Wo (ADn rfl rfl (ADn rfl rfl (ACr (ABv (ABw ?_)))));have A5:=(Ai.no2 Bp Bw Bv).no2 Bz B8 B7;obtain ⟨A6,B9,Ca⟩:=ABq A4;obtain ⟨Cb,Cd,Ce⟩:=ACe B9;refine ACq 562949416558300 (fun x:(LiI) × (Value) × LnA × LnN × LvA × (LiI) × (Value) × LnA × LnN × LvA=>[(6,x.2.1),(7,x.2.2.2.2.2.2.1)]) (fun k x h'=>iter Cb k (x.1,x.2.2.2.2.2.1)=some A6/\Kst h h' ((A5.L.set 1 (aO2 cZ 100 90 x.2.2.1 x.2.2.2.1 x.2.2.2.2.1 x.2.1 x.1)).set 0 (aO2 cZ 100 90 x.2.2.2.2.2.2.2.1 x.2.2.2.2.2.2.2.2.1 x.2.2.2.2.2.2.2.2.2 x.2.2.2.2.2.2.1 x.2.2.2.2.2.1))) (by kernel_rfl) fuel ((Bl,Bo,Br,Bt,Bu,Bx,B3,B4,B5,B6):(LiI) × (Value) × LnA × LnN × LvA × (LiI) × (Value) × LnA × LnN × LvA) ?_ ⟨rfl,rfl,trivial⟩ ?_
   ·exact ⟨Ce,A5⟩
   rintro Dr ⟨Ds,Dt,Du,Dv,Dw,Dx,Dy,Dz,D0,D1⟩ D2 D3 ⟨Cf,A7⟩;obtain ⟨Cg,D4,rfl,Ae,Ak⟩:=AB8 Cf;rw [Cd] at Ae;dsimp only at Ae;unfold AKj at Ae;refine ABw (ABp (Wo ?_));obtain ⟨⟨D5,D6⟩,Ch,Am⟩:=ABq Ae;dsimp only at Am;refine ADc rfl (AS7 (A7.o2 p1).rd Ch) fun D7 D8 Ci Cj=>?_;obtain ⟨D9,Ea,Eb,Ec,rfl,Ck,Cm⟩:=Cj;refine Wo (ADn rfl rfl (ADn rfl rfl (ACr (ABv (ABr (ABp (Wo (AEy rfl (ABt ?_)))))))));have Aa:=A7.no2 Ci Cm Ck;refine ⟨_,rfl,fun Ao=>?_,fun Ao=>?_⟩
   ·refine ABp (Wo ?_);obtain ⟨⟨Ed,Ee⟩,Cn,A8⟩:=ABq (ifT Am Ao);dsimp only at A8;refine ADc rfl (ARx (Aa.o2 p2).rd Cn) fun Ef Eg Co Cp=>?_;obtain ⟨Eh,Ei,Ej,Ek,rfl,Cq,Cr⟩:=Cp;refine Wo (ADn rfl rfl (ADn rfl rfl (ACr (AC4 (Wo (Wo (ACr (ACr (ABv ?_)))))))));have Af:=Aa.no2 Co Cr Cq;obtain rfl:=ABo A8;change _=A6 at Ak;subst Ak;refine ABx (AB2 (ADb (AB2 (ADb ?_))));obtain rfl:=ABo Ca;exact ⟨_,AK3,Af.x,_,_,_,_,_,_,_,_,rfl,(Af.o2 p0),(Af.o2 p2),Af.s.sel [0,2] (by decide)⟩
   ·refine ABy (q_t (AB6 (Wo (Wo ?_))));obtain ⟨Ct,Cu,Cv⟩:=ABq (AHo Am Ao);refine ADc rfl (AQn (Aa.o2 p2).rd (Aa.o2 p0).rd Cu) fun Cw El Cx Cy=>?_;obtain ⟨Em,Cz,C0,C1,rfl,C2,C3⟩:=Cy;refine Wo (Wo ?_);have Ap:=Aa.no2 Cx C3 C2;obtain ⟨C4,C5,C6⟩:=ABq Cv;refine ADc rfl (AJy (Ap.o2 p2).rd (Ap.o2 p1).rd C5) fun C7 En C8 C9=>?_;obtain ⟨Eo,Da,Db,Dc,rfl,Dd,De⟩:=C9;refine ACr (ACr (ACs (q_b (q_t ?_))));obtain rfl:=ABo C6;exact ⟨Cg,((Ct,Cw,Cz,C0,C1,C4,C7,Da,Db,Dc):(LiI) × (Value) × LnA × LnN × LvA × (LiI) × (Value) × LnA × LnN × LvA),Nat.lt_succ_self _,⟨Ak,(Ap.no2 C8 De Dd).sel [0,1] (by decide)⟩,rfl,rfl,trivial⟩
def AJ1 (fuel:Nat) (a3:LiI) (x5:LiA) (Ab Aa:Int):Option ((Int) ⊕ ((Bool) ⊕ (Unit))):=
  (if Aa < Ab then ((AGu fuel a3 x5 Ab Aa).bind fun Ae=>(if (!Ae)=true then (some (Sum.inr<| Sum.inl <| false)) else (some (Sum.inl (w64 (Aa + 1)))))) else (some (Sum.inr<| Sum.inr <| ())))
def AJ2 (fuel:Nat) (a3:LiI) (x5:LiA) (Aa:Int):Option ((Int) ⊕ ((Bool) ⊕ (Unit))):=
  (if Aa < (a3.length:Int) then ((iter (fun s=>AJ1 fuel a3 x5 Aa s) fuel 0).bind (fun ex=>match ex with | Sum.inl Ad=>(some (Sum.inr<| Sum.inl <| Ad)) | Sum.inr (_)=>(if 0 < Aa then ((AGg fuel a3 x5 Aa).bind fun Ae=>(if (!Ae)=true then (some (Sum.inr<| Sum.inl <| false)) else (some (Sum.inl (w64 (Aa + 1)))))) else (some (Sum.inl (w64 (Aa + 1))))))) else (some (Sum.inr<| Sum.inr <| ())))
def AHk (fuel:Nat) (a3:LiI):Option Bool:=
  ((AE0 fuel a3).bind fun (x5,x6)=>((iter (fun s=>AJ2 fuel a3 x5 s) fuel 0).bind (fun ex=>match ex with | Sum.inl Ac=>(some Ac) | Sum.inr (_)=>(some true))))
theorem ARp {fuel:Nat} {h:ABu} {Av:Value} {a3:LiI} {r:Bool} (H2:AEq cZ h Av a3) (hp:AHk fuel a3=some r):ACo Tryz.prog 54 #[Av] h (fun x h'=>Ext h h'/\x= .bool r):=by
 unfold AHk at hp;refine cwf (l:=[_]) Tryz.func54 rfl rfl (ABp (AC4 (Wo ?_)));have K0:=Kst.k0 h;obtain ⟨⟨x5,x6⟩,A8,Ay⟩:=ABq hp;dsimp only at Ay;refine ADc rfl (AJ0 (H2.ext K0.x) A8) fun B1 B3 E9 Ba=>?_;obtain ⟨B4,B5,rfl,Bb,Bc⟩:=Ba;refine Wo (ADn rfl rfl (ADn rfl rfl (ACr (ABv (ABr (ABp (Wo (ADa ADv rfl H2 (Wo (ABt (ABw ?_)))))))))));have Az:=K0.no E9 Bc Bb;obtain ⟨Ag,Be,Ai⟩:=ABq Ay;obtain ⟨Bf,Bg,Bh⟩:=ACe Be;refine ACq 274877890660 (fun x:(Int)=>[(14,(.int .i64 x))]) (fun k x h'=>iter Bf k x=some Ag/\Kst h h' (Az.L)) (by kernel_rfl) fuel (0:(Int)) ?_ ⟨rfl,trivial⟩ ?_
 ·exact ⟨Bh,Az⟩
 rintro B6 Aj B7 B8 ⟨Bi,Ak⟩;obtain ⟨A3,B9,rfl,Ac,Aa⟩:=AB8 Bi;rw [Bg] at Ac;dsimp only at Ac;unfold AJ2 at Ac;refine ABp (ACu rfl rfl (ABt (ABr (⟨_,rfl,fun Am=>?_,fun Am=>?_⟩))))
 ·refine ABy (q_t (ABr (ABw (ABp (Wo (ABv (ABr (ABp (ABv (ABw ?_))))))))));obtain ⟨Ao,Bj,Ap⟩:=ABq (AC8 Ac Am);obtain ⟨Bl,Bm,Bn⟩:=ACe Bj;refine ACq 268304452 (fun x:(Int)=>[(6,(.int .i64 x))]) (fun k x h'=>iter Bl k x=some Ao/\Kst h h' (Ak.L)) (by kernel_rfl) fuel (0:(Int)) ?_ ⟨rfl,trivial⟩ ?_
  ·exact ⟨Bn,Ak⟩
  rintro Ca Bo Cb Cd ⟨Bp,Ab⟩;obtain ⟨Bq,Ce,rfl,Ad,Ae⟩:=AB8 Bp;rw [Bm] at Ad;dsimp only at Ad;unfold AJ1 at Ad;refine ABr (ABp (Wo (Wo (ACu rfl rfl (ABt (⟨_,rfl,fun Aq=>?_,fun Aq=>?_⟩))))))
  ·refine ABy (q_t (ABr (ABw (ABp (Wo (Wo (Wo (Wo ?_))))))));obtain ⟨Cf,Br,A4⟩:=ABq (AC8 Ad Aq);refine ADc rfl (AOf (H2.ext Ab.x) (Ab.o p0).rd Br) fun Cg Ch Bt Bu=>?_;subst Bu;refine AEy rfl (ABt ?_);have A5:=Ab.e Bt;refine ⟨_,rfl,fun Ar=>?_,fun Ar=>?_⟩
   ·refine ABp (ABv ?_);obtain rfl:=ABo (ifT A4 Ar);change _=Ao at Ae;subst Ae;obtain rfl:=ABo Ap;change _=Ag at Aa;subst Aa;refine ABx (ADb (AB2 (AB2 (ADb (AB2 (ADb (AB2 (AB2 (ADb (AB2 ?_))))))))));obtain rfl:=ABo Ai;exact ⟨_,ABz,A5.x,rfl⟩
   ·refine ABy (q_b (q_t (AB6 (Wo (ACx rfl rfl (ABv ?_))))));obtain rfl:=ABo (AHo A4 Ar);exact ⟨Bq,((w64 (Bo + 1)):(Int)),Nat.lt_succ_self _,⟨Ae,A5⟩,rfl,trivial⟩
  ·obtain rfl:=ABo (AC9 Ad Aq);change _=Ao at Ae;subst Ae;refine ACg (ACi (ACi (ADp (q_t (ABp (Wo (AGq rfl rfl (Wo ?_))))))));by_cases Ah:0 < Aj
   ·rw [decide_eq_true Ah];refine AB4 30 true (Wo (AB4 30 true (Wo (AB4 30 true (Wo (AB4 30 true ?_))))));obtain ⟨Ci,Bv,A6⟩:=ABq (ifT Ap Ah);refine ADc rfl (AN8 (H2.ext Ab.x) (Ab.o p0).rd Bv) fun Cj Ck Bw Bx=>?_;subst Bx;refine AB4 30 true (AEy rfl (AB5 rfl (ABt ?_)));have A7:=Ab.e Bw;refine ⟨_,rfl,fun Au=>?_,fun Au=>?_⟩
    ·refine ABp (ABv ?_);obtain rfl:=ABo (ifT A6 Au);change _=Ag at Aa;subst Aa;refine ABx (ADb (AB2 (AB2 (ADb (AB2 ?_)))));obtain rfl:=ABo Ai;exact ⟨_,ABz,A7.x,rfl⟩
    ·refine ABy (q_b (q_t (AB6 (ACx rfl rfl (Wo (ABt ?_))))));obtain rfl:=ABo (AHo A6 Au);exact ⟨A3,((w64 (Aj + 1)):(Int)),Nat.lt_succ_self _,⟨Aa,A7⟩,rfl,trivial⟩
   ·rw [decide_eq_false Ah];refine AHn 30 false (AB0 rfl (ABt (ACn rfl (ABy (q_b (q_t (AB6 (ACx rfl rfl (Wo (ABt ?_))))))))));obtain rfl:=ABo (ifF Ap Ah);exact ⟨A3,((w64 (Aj + 1)):(Int)),Nat.lt_succ_self _,⟨Aa,Ab⟩,rfl,trivial⟩
 ·obtain rfl:=ABo (AC9 Ac Am);change _=Ag at Aa;subst Aa;refine ACg (ACi (ACi (ADp (q_t (ABp (ABv (ABx ?_)))))));obtain rfl:=ABo Ai;exact ⟨_,ABz,Ak.x,rfl⟩
def AE9 (fuel:Nat) (a3:LiI):Option Bool:=
  ((AD5 fuel a3).bind fun (x5,x6)=>(if x6=true then ((AEh fuel x5).bind fun Ad=>(if Ad=0 then ((AGv fuel x5).bind fun Ae=>(if Ae=true then ((AHk fuel x5).bind fun Af=>(some Af)) else (some false))) else (some false))) else (some false)))
theorem AQo {fuel:Nat} {h:ABu} {Af:Value} {a3:LiI} {r:Bool} (H2:AEq (cI .i64) h Af a3) (hp:AE9 fuel a3=some r):ACo Tryz.prog 23 #[Af] h (fun x h'=>Ext h h'/\x= .bool r):=by
 unfold AE9 at hp;refine cwf (l:=[_]) Tryz.func23 rfl rfl (ABp (AC4 (Wo ?_)));have K0:=Kst.k0 h;obtain ⟨⟨x5,x6⟩,Aq,Ab⟩:=ABq hp;dsimp only at Ab;refine ADc rfl (ANc (H2.ext K0.x) Aq) fun Be Bf E9 Au=>?_;obtain ⟨Bg,Bh,Bi,Bj,rfl,Av,Aw⟩:=Au;refine Wo (ADn rfl rfl (ADn rfl rfl (ACr (AC4 (Wo (Wo ?_))))));have Ac:=K0.no2 E9 Aw Av;cases Ai:x6
 ·refine AE3 11 false (AB0 rfl (Wo (AKb 16 false (AB0 rfl (Wo (AKb 20 false (AB0 rfl (ABv (ABx ?_)))))))));obtain rfl:=ABo (AHo Ab Ai);exact ⟨_,ABz,Ac.x,rfl⟩
 ·refine AB4 11 true (Wo (AB4 11 true ?_));obtain ⟨Ax,Ay,Aj⟩:=ABq (ifT Ab Ai);refine ADc rfl (AJp (Ac.o2 p0).rd Ay) fun Bl Bm Az A3=>?_;subst A3;refine AB4 11 true (AEf rfl rfl (AB5 rfl (Wo ?_)));have Ad:=Ac.e Az;by_cases Aa:Ax=0
  ·rw [decide_eq_true Aa];refine AB4 16 true (Wo (AB4 16 true ?_));obtain ⟨A4,A5,Ak⟩:=ABq (ifT Aj Aa);refine ADc rfl (AOg (Ad.o2 p0).rd A5) fun Bn Bo A6 A7=>?_;subst A7;refine AB5 rfl (Wo ?_);have Ae:=Ad.e A6;cases Am:A4
   ·refine AKb 20 false (AB0 rfl (ABv (ABx ?_)));obtain rfl:=ABo (AHo Ak Am);exact ⟨_,ABz,Ae.x,rfl⟩
   ·refine AB4 20 true (Wo (AB4 20 true ?_));obtain ⟨Bp,A8,A9⟩:=ABq (ifT Ak Am);refine ADc rfl (ARp (Ae.o2 p0).rd A8) fun Bq Br Ba Bb=>?_;subst Bb;refine AB5 rfl (ABv (ABx ?_));obtain rfl:=ABo A9;exact ⟨_,ABz,(Ae.e Ba).x,rfl⟩
  ·rw [decide_eq_false Aa];refine AKb 16 false (AB0 rfl (Wo (AKb 20 false (AB0 rfl (ABv (ABx ?_))))));obtain rfl:=ABo (ifF Aj Aa);exact ⟨_,ABz,Ad.x,rfl⟩
end Go.Proofs.YtdnbklmefmoofaaGreatDoor
namespace Go.QF
open Go
def Ok {α:Type} (o:Option α) (Q:α->Prop):Prop:= ∃ r,o=some r/\Q r
theorem ABn {α:Type} {a:α} {Q:α->Prop} (h:Q a):Ok (some a) Q:=⟨a,rfl,h⟩
theorem ABs {α β:Type} {o:Option α} {f:α->Option β} {Q:α->Prop} {R:β->Prop} (h:Ok o Q) (k:∀ x,Q x->Ok (f x) R):Ok (o.bind f) R:=by
 obtain ⟨x,rfl,hx⟩:=h;exact k x hx
theorem AB7 {c:Prop} [Decidable c] {α:Type} {a b:Option α} {R:α->Prop} (ht:c->Ok a R) (hf: ¬ c->Ok b R):Ok (if c then a else b) R:=by
 by_cases h:c
 ·rw [if_pos h];exact ht h
 ·rw [if_neg h];exact hf h
theorem AD8 {c:Prop} [Decidable c] {α:Type} {a:Option α} {R:α->Prop} (hc:c) (h:Ok a R):Ok (if c then a else none) R:=by rw [if_pos hc];exact h
theorem Ap0 {α:Type} {o:Option α} {Q R:α->Prop} (h:Ok o Q) (k:∀ x,Q x->R x):Ok o R:=let ⟨x,h1,h2⟩:=h;⟨x,h1,k x h2⟩
theorem ok_eq {α:Type} {o:Option α} {a:α} (h:Ok o (· =a)):o=some a:=by obtain ⟨x,h1,rfl⟩:=h;exact h1
theorem AC1 {α:Type} {o:Option α} {a:α} (h:o=some a):Ok o (· =a):=⟨a,h,rfl⟩
theorem ACj {α β:Type} {L:List α} {i:Int} {n:Nat} {x:α} {f:α->Option β} {R:β->Prop} (hx:L[n]? =some x) (hi:i=n) (k:Ok (f x) R):Ok ((gI L i).bind f) R:=by
 subst hi;unfold gI;rw [if_pos (by omega),Int.toNat_natCast,hx];exact k
theorem AC3 {S E:Type} {body:S->Option (S ⊕ E)} {fuel:Nat} {s0:S} (I:Nat->S->Prop) (n:Nat) {Q:E->Prop} (h0:I 0 s0) (hf:n < fuel) (hs:∀ i s,i<=n->I i s->Ok (body s) fun r=>match r with | .inl s'=>i < n/\I (i + 1) s' | .inr e=>Q e):Ok (iter body fuel s0) Q:=by
  have key:∀ k fuel i s,n - i=k->k < fuel->i<=n->I i s->Ok (iter body fuel s) Q:=by
    intro k;induction k with
    | zero=>
      intro fuel i s hk hf hi hI;obtain ⟨r,hr,hq⟩:=hs i s hi hI;cases fuel with
      | zero=>omega
      | succ f=>
        cases r with
        | inl s'=>simp at hq;omega
        | inr e=>exact ⟨e,by simp [iter,hr],hq⟩
    | succ k ih=>
      intro fuel i s hk hf hi hI;obtain ⟨r,hr,hq⟩:=hs i s hi hI;cases fuel with
      | zero=>omega
      | succ f=>
        cases r with
        | inl s'=>
          obtain ⟨e,he,hQ⟩:=ih f (i + 1) s' (by omega) (by omega) (by omega) hq.2;exact ⟨e,by simp [iter,hr,he],hQ⟩
        | inr e=>exact ⟨e,by simp [iter,hr],hq⟩
  exact key n fuel 0 s0 (by omega) hf (by omega) h0
theorem AFe {x:Int} (h1: -9223372036854775808<=x) (h2:x<=9223372036854775807):w64 x=x:=by
 show IntKind.i64.wrap x=x;rw [IntKind.wrap_i64];omega
theorem wk {x:Int} (h: -9223372036854775808<=x/\x<=9223372036854775807):w64 x=x:=AFe h.1 h.2
def AEl {α:Type} (m:Nat) (f:Nat->α):List α:=(List.range m).map f
theorem ACy {α:Type} (m:Nat) (f:Nat->α):(AEl m f).length=m:=by simp [AEl]
theorem ACk {α:Type} {m:Nat} {f:Nat->α} {j:Nat} (h:j < m):(AEl m f)[j]? =some (f j):=by simp [AEl,h]
theorem ADl {α:Type} {m:Nat} {f g:Nat->α} (h:∀ j,j < m->f j=g j):AEl m f=AEl m g:=by
 unfold AEl;exact List.map_congr_left fun j hj=>h j (List.mem_range.1 hj)
theorem AFw {α:Type} {m j:Nat} {f:Nat->α} {x:α}:(AEl m f).set j x=AEl m fun c=>if c=j then x else f c:=by
 apply List.ext_getElem?;intro i;rw [List.getElem?_set];by_cases h:j=i
 ·subst h;simp only [if_true,ACy];by_cases hj:j < m
  ·simp [hj,ACk hj]
  ·simp [hj,AEl]
 ·rw [if_neg h];by_cases hi:i < m
  ·rw [ACk hi,ACk hi,if_neg (fun he=>h he.symm)]
  ·simp [AEl,hi]
theorem AOy {α:Type} (m:Nat) (f:Nat->α):AEl m f ++ [f m]=AEl (m + 1) f:=by simp [AEl,List.range_succ]
theorem AGn {α:Type} (m:Nat) (a:α):List.replicate m a=AEl m fun _=>a:=by
 apply List.ext_getElem?;intro i;by_cases h:i < m
 ·rw [ACk h];simp [h]
 ·simp [AEl,h]
theorem AQa (r c:Nat) (F:Nat->Nat->Int):tab r c F=AEl r fun i=>AEl c (F i):=rfl
theorem ACv {r c:Nat} {F:Nat->Nat->Int} {i:Nat} (h:i < r):(tab r c F)[i]? =some (AEl c (F i)):=ACk (f:=fun i=>AEl c (F i)) h
theorem Amw {r c i j:Nat} {F:Nat->Nat->Int} {x:Int}:(tab r c F).set i (AEl c fun q=>if q=j then x else F i q)=tab r c (ADz F i fun q=>if q=j then x else F i q):=ALn
theorem ADw {α:Type} (L:List α) (n:Nat) (x:α):sI L (n:Int) x=L.set n x:=by simp [sI]
end Go.QF
namespace Go.QF
theorem AN2 (F:Nat->Nat->Int) (i:Nat) (f g:Nat->Int):ADz (ADz F i f) i g=ADz F i g:=by
 funext k;by_cases h:k=i
 ·subst h;rw [ADq,ADq]
 ·rw [AFu _ _ h,AFu _ _ h,AFu _ _ h]
theorem AOz (F:Nat->Nat->Int) (i:Nat):ADz F i (F i)=F:=by
 funext k;by_cases h:k=i
 ·subst h;rw [ADq]
 ·rw [AFu _ _ h]
theorem AOh (f g:Nat->Int) (n:Nat):psum (fun i=>f i + g i) n=psum f n + psum g n:=by
 induction n with
 | zero=>rfl
 | succ n ih=>simp only [psum];rw [ih];omega
theorem AIg (c:Int) (f:Nat->Int) (n:Nat):psum (fun i=>c * f i) n=c * psum f n:=by
 induction n with
 | zero=>simp [psum]
 | succ n ih=>simp only [psum];rw [ih,Int.mul_add]
theorem AQ3 (n:Nat):psum (fun _=>0) n=0:=by
 induction n with
 | zero=>rfl
 | succ n ih=>simp only [psum];rw [ih];rfl
theorem Abq (f:Nat->Nat->Int) (n m:Nat):psum (fun i=>psum (fun j=>f i j) m) n=psum (fun j=>psum (fun i=>f i j) n) m:=by
 induction n with
 | zero=>simp only [psum];exact (AQ3 m).symm
 | succ n ih=>
   simp only [psum]
   rw [ih,<- AOh]
theorem Amx {f g:Nat->Int} {n a:Nat} (ha:a < n) (h:∀ i,i≠a->g i=f i):psum g n=psum f n + (g a - f a):=by
  induction n with
  | zero=>omega
  | succ n ih=>
    simp only [psum]
    by_cases hn:a=n
    · subst hn;rw [ADd (f:=g) (g:=f) (fun k hk=>h k (by omega))];omega
    · rw [ih (by omega),h n (fun he=>hn he.symm)];omega
theorem ALv {f:Nat->Int} {n a:Nat} (ha:a < n) (h:∀ i,i≠a->f i=0):psum f n=f a:=by
 rw [Amx (f:=fun _=>0) ha h,AQ3];omega
def Eqm (m a b:Int):Prop:=a % m=b % m
theorem Eqm.refl (m a:Int):Eqm m a a:=rfl
theorem Eqm.of_eq {m a b:Int} (h:a=b):Eqm m a b:=h ▸ rfl
theorem Eqm.trans {m a b c:Int} (h:Eqm m a b) (k:Eqm m b c):Eqm m a c:=Eq.trans h k
theorem Eqm.add {m a b c d:Int} (h:Eqm m a b) (k:Eqm m c d):Eqm m (a + c) (b + d):=by
 unfold Eqm at *;rw [Int.add_emod,h,k,<- Int.add_emod]
theorem Eqm.sub {m a b c d:Int} (h:Eqm m a b) (k:Eqm m c d):Eqm m (a - c) (b - d):=by
 unfold Eqm at *;rw [Int.sub_emod,h,k,<- Int.sub_emod]
theorem Eqm.mul {m a b c d:Int} (h:Eqm m a b) (k:Eqm m c d):Eqm m (a * c) (b * d):=by
 unfold Eqm at *;rw [Int.mul_emod,h,k,<- Int.mul_emod]
theorem Eqm.mod (m a:Int):Eqm m (a % m) a:=Int.emod_emod_of_dvd a (Int.dvd_refl m)
theorem Eqm.psum {m:Int} {f g:Nat->Int} {n:Nat} (h:∀ i,i < n->Eqm m (f i) (g i)):Eqm m (psum f n) (psum g n):=by
 induction n with
 | zero=>rfl
 | succ n ih=>exact (ih fun i hi=>h i (by omega)).add (h n (by omega))
end Go.QF
namespace Go.QF
theorem Amy {f:Nat->Int} {k r:Nat} (hk:k<=r) (h:∀ i,k<=i->i < r->f i=0):psum f r=psum f k:=by
 induction r with
 | zero=>rw [Nat.le_zero.1 hk]
 | succ r ih=>
   rcases Nat.lt_or_ge k (r + 1) with h1 | h1
   · simp only [psum]
     rw [ih (by omega) (fun i h2 h3=>h i h2 (by omega)),h r (by omega) (by omega)];omega
   · obtain rfl:k=r + 1:=by omega
     rfl
def dl (a b:Nat):Int:=if a=b then 1 else 0
def skp (i a:Nat):Nat:=if a < i then a else a + 1
def usk (i r:Nat):Nat:=if r < i then r else r - 1
def sg (i:Nat):Int:=if i % 2=0 then 1 else -1
theorem Ap1 (i:Nat):sg (i + 1)= -sg i:=by unfold sg;split <;> split <;> first | omega | rfl
theorem Asm (i a:Nat):skp i a≠i:=by unfold skp;split <;> omega
theorem Amz {i a n:Nat} (ha:a < n):skp i a < n + 1:=by unfold skp;split <;> omega
theorem Ap2 {i r:Nat} (h:r≠i):skp i (usk i r)=r:=by
 unfold usk;split <;> (unfold skp;split <;> omega)
theorem Ap3 {i a r:Nat} (h:skp i a=r):a=usk i r:=by unfold skp at h;unfold usk;split at h <;> split <;> omega
theorem Asn {i r n:Nat} (h:r≠i) (hi:i < n + 1) (hr:r < n + 1):usk i r < n:=by unfold usk;split <;> omega
theorem ADk (F:Nat->Nat->Int) (a:Nat) (g:Nat->Int) (i j:Nat):ADz F a g i j=if i=a then g j else F i j:=by
 unfold ADz;split <;> rfl
theorem ALw (F:Nat->Nat->Int) (a b i j:Nat):AHe F a b i j=if i=b then F a j else if i=a then F b j else F i j:=by
 unfold AHe;rw [ADk,ADk]
def AGr (i:Nat) (F:Nat->Nat->Int):Nat->Nat->Int:=fun a b=>F (skp i a) (b + 1)
def det:Nat->(Nat->Nat->Int)->Int
  | 0,_=>1
  | n + 1,F=>psum (fun i=>sg i * F i 0 * det n (AGr i F)) (n + 1)
theorem AD6:∀ {n:Nat} {F G:Nat->Nat->Int},(∀ i j,i < n->j < n->F i j=G i j)->det n F=det n G:=by
 intro n
 induction n with
 | zero=>intro _ _ _;rfl
 | succ n ih=>
   intro F G h
   refine ADd fun i hi=>?_
   rw [h i 0 hi (by omega),ih (F:=AGr i F) (G:=AGr i G) fun a b ha hb=>h _ _ (Amz ha) (by omega)]
theorem AWg {i r:Nat} {F:Nat->Nat->Int} {g:Nat->Int} (h:r≠i):AGr i (ADz F r g)=ADz (AGr i F) (usk i r) (fun b=>g (b + 1)):=by
 funext a b;unfold AGr ADz;by_cases ha:skp i a=r
 ·rw [if_pos ha,if_pos (Ap3 ha)]
 ·rw [if_neg ha,if_neg (fun he=>ha (by rw [he,Ap2 h]))]
theorem AYq {i:Nat} {F:Nat->Nat->Int} {g:Nat->Int}:AGr i (ADz F i g)=AGr i F:=by
 funext a b;unfold AGr;rw [AFu _ _ (Asm i a)]
theorem AT3:∀ {n:Nat} {F:Nat->Nat->Int} {r:Nat} (u v:Nat->Int) (c d:Int),r < n->det n (ADz F r fun q=>c * u q + d * v q)=c * det n (ADz F r u) + d * det n (ADz F r v):=by
 intro n
 induction n with
 | zero=>intro _ _ _ _ _ _ h;omega
 | succ n ih=>
   intro F r u v c d hr
   simp only [det]
   rw [<- AIg,<- AIg,<- AOh]
   refine ADd fun i hi=>?_
   by_cases h:r=i
   · subst h
     simp only [AYq,ADq]
     grind
   · rw [AWg h,AWg h,AWg h,AFu _ _ (Ne.symm h),AFu _ _ (Ne.symm h),AFu _ _ (Ne.symm h),ih (fun b=>u (b + 1)) (fun b=>v (b + 1)) c d (Asn h hi hr)]
     grind
theorem Am0 {f:Nat->Int} {n r s:Nat} (hr:r < n) (hs:s < n) (hrs:r≠s) (h:∀ i,i < n->i≠r->i≠s->f i=0):psum f n=f r + f s:=by
 have h1:psum f n=psum (fun i=>(if i=r then f r else 0) + (if i=s then f s else 0)) n:=ADd fun i hi=>by
   by_cases h1:i=r
   · subst h1;rw [if_pos rfl,if_neg hrs];omega
   · rw [if_neg h1]
     by_cases h2:i=s
     · subst h2;rw [if_pos rfl];omega
     · rw [if_neg h2,h i hi h1 h2];rfl
 rw [h1,AOh,ALv (f:=fun i=>if i=r then f r else 0) hr (fun i hi=>if_neg hi),ALv (f:=fun i=>if i=s then f s else 0) hs (fun i hi=>if_neg hi),if_pos rfl,if_pos rfl]
theorem Aia:∀ {n:Nat} {F:Nat->Nat->Int} {r:Nat},r + 1 < n->(∀ q,q < n->F r q=F (r + 1) q)->det n F=0:=by
 intro n
 induction n with
 | zero=>intro _ _ h;omega
 | succ n ih=>
   intro F r hr h
   simp only [det]
   rw [Am0 (r:=r) (s:=r + 1) (by omega) (by omega) (by omega)]
   · have:det n (AGr r F)=det n (AGr (r + 1) F):=AD6 fun a b ha hb=>by
       unfold AGr skp
       by_cases h1:a < r
       · rw [if_pos h1,if_pos (by omega)]
       · rw [if_neg h1]
         by_cases h2:a < r + 1
         · rw [if_pos h2]
           obtain rfl:a=r:=by omega
           exact (h (b + 1) (by omega)).symm
         · rw [if_neg h2]
     rw [this,Ap1,h 0 (by omega)]
     grind
   · intro i hi h1 h2
     rcases Nat.lt_or_ge i r with hlt | hge
     · rw [ih (F:=AGr i F) (r:=r - 1) (by omega)]
       · simp
       · intro q hq
         unfold AGr skp
         rw [if_neg (by omega),if_neg (by omega),show r - 1 + 1=r by omega]
         exact h (q + 1) (by omega)
     · rw [ih (F:=AGr i F) (r:=r) (by omega)]
       · simp
       · intro q hq
         unfold AGr skp
         rw [if_pos (by omega),if_pos (by omega)]
         exact h (q + 1) (by omega)
theorem AQ4 {F:Nat->Nat->Int} {a b:Nat} (h:a≠b) (u v:Nat->Int):ADz (ADz F a u) b v=ADz (ADz F b v) a u:=by
 funext k;unfold ADz;by_cases h1:k=a <;> by_cases h2:k=b
 ·omega
 ·simp [h1,h]
 ·simp [h2,Ne.symm h]
 ·simp [h1,h2]
theorem Aeq {n:Nat} {F:Nat->Nat->Int} {a b:Nat} (ha:a < n) (hb:b < n) (hab:a≠b) (h0:∀ G:Nat->Nat->Int,G a=G b->det n G=0):det n (AHe F a b)= -det n F:=by
  have key:∀ u v:Nat->Int,det n (ADz (ADz F a u) b v)= -det n (ADz (ADz F a v) b u):=by
    intro u v;have h1:=h0 (ADz (ADz F a fun q=>1 * u q + 1 * v q) b fun q=>1 * u q + 1 * v q) (by rw [ADq,AFu _ _ hab,ADq]);rw [AT3 u v 1 1 hb,AQ4 hab,AQ4 hab,AT3 u v 1 1 ha,AT3 u v 1 1 ha,AQ4 (Ne.symm hab),AQ4 (Ne.symm hab),AQ4 (Ne.symm hab),AQ4 (Ne.symm hab)] at h1;have h2:=h0 (ADz (ADz F a u) b u) (by rw [ADq,AFu _ _ hab,ADq]);have h3:=h0 (ADz (ADz F a v) b v) (by rw [ADq,AFu _ _ hab,ADq]);omega
  unfold AHe;rw [key (F b) (F a),AOz];rw [show ADz F b (F b)=F from AOz F b]
theorem Aib:∀ {d n:Nat} {F:Nat->Nat->Int} {a:Nat},a + d + 1 < n->F a=F (a + d + 1)->det n F=0:=by
 intro d
 induction d with
 | zero=>intro n F a hn h;exact Aia hn fun q _=>by rw [h]
 | succ d ih=>
   intro n F a hn h
   have h1:=Aeq (n:=n) (F:=F) (a:=a + d + 1) (b:=a + d + 1 + 1) (by omega) (by omega) (by omega) fun G hG=>Aia (r:=a + d + 1) (by omega) fun q _=>congrFun hG q
   have h2:=ih (n:=n) (F:=AHe F (a + d + 1) (a + d + 1 + 1)) (a:=a) (by omega) (by rw [AVg,AWu _ (by omega) (by omega),h];rfl)
   omega
theorem AO0 {n:Nat} {F:Nat->Nat->Int} {a b:Nat} (ha:a < n) (hb:b < n) (hab:a≠b) (h:F a=F b):det n F=0:=by
 rcases Nat.lt_or_ge a b with hlt | hge
 ·exact Aib (d:=b - a - 1) (a:=a) (by omega) (by rw [h];congr 1;omega)
 ·exact Aib (d:=a - b - 1) (a:=b) (by omega) (by rw [<- h];congr 1;omega)
theorem ARq {n:Nat} {F:Nat->Nat->Int} {a b:Nat} (ha:a < n) (hb:b < n) (hab:a≠b):det n (AHe F a b)= -det n F:=
  Aeq ha hb hab fun _ h=>AO0 ha hb hab h
theorem Ajy {n:Nat} {F:Nat->Nat->Int} {r:Nat} (u:Nat->Int) (c:Int) (hr:r < n):det n (ADz F r fun q=>c * u q)=c * det n (ADz F r u):=by
 have:=AT3 (F:=F) u (fun _=>0) c 0 hr;rw [show (fun q=>c * u q + 0 * (fun _:Nat=>(0:Int)) q)=fun q=>c * u q from by funext q;omega] at this;rw [this];omega
theorem AW8 {n:Nat} {F:Nat->Nat->Int} {r:Nat} (hr:r < n) (h:∀ q,q < n->F r q=0):det n F=0:=by
 have:=Ajy (F:=F) (F r) 0 hr;rw [Int.zero_mul] at this;rw [<- this]
 exact AD6 fun i j hi hj=>by
   unfold ADz
   split
   · rename_i he;subst he;rw [h j hj];simp
   · rfl
theorem ANp {n:Nat} {F:Nat->Nat->Int} {a b:Nat} (ha:a < n) (hb:b < n) (hab:a≠b) (q:Int):det n (ADz F a fun x=>F a x + q * F b x)=det n F:=by
 have:=AT3 (F:=F) (F a) (F b) 1 q ha;rw [AOz,AO0 (F:=ADz F a (F b)) ha hb hab (by rw [ADq,AFu _ _ (Ne.symm hab)])] at this;rw [show (fun x=>F a x + q * F b x)=fun x=>1 * F a x + q * F b x from by funext x;omega,this];omega
theorem AZ8 {n:Nat} {F:Nat->Nat->Int} {r:Nat} (hr:r < n) (y:Nat->Int) (u:Nat->Nat->Int):∀ t,det n (ADz F r fun q=>psum (fun k=>y k * u k q) t)=psum (fun k=>y k * det n (ADz F r (u k))) t:=by
 intro t
 induction t with
 | zero=>exact AW8 hr fun q _=>by rw [ADq];rfl
 | succ t ih=>
   have:=AT3 (F:=F) (fun q=>psum (fun k=>y k * u k q) t) (u t) 1 (y t) hr
   simp only [psum]
   rw [<- ih,show (fun q=>psum (fun k=>y k * u k q) t + y t * u t q)=fun q=>1 * psum (fun k=>y k * u k q) t + y t * u t q from by funext q;omega,this];omega
theorem Am1 {n:Nat} {F:Nat->Nat->Int} {r:Nat} (hr:r < n) (y:Nat->Int):det n (ADz F r fun q=>psum (fun k=>y k * F k q) n)=y r * det n F:=by
  rw [AZ8 hr y F n,ADd (g:=fun k=>if k=r then y r * det n F else 0),ALv hr (fun i hi=>if_neg hi),if_pos rfl];intro k hk
  by_cases h:k=r
  · subst h;rw [if_pos rfl,AOz]
  · rw [if_neg h,AO0 (F:=ADz F r (F k)) hr hk (Ne.symm h) (by rw [ADq,AFu _ _ h])];simp
def AH7 (f:Nat->Int):Nat->Int
  | 0=>1
  | n + 1=>AH7 f n * f n
theorem AYf (f:Nat->Int) (n:Nat):AH7 f (n + 1)=f 0 * AH7 (fun i=>f (i + 1)) n:=by
 induction n with
 | zero=>simp [AH7]
 | succ n ih=>rw [AH7,ih,AH7];grind
theorem AYg {f g:Nat->Int} {n:Nat} (h:∀ i,i < n->f i=g i):AH7 f n=AH7 g n:=by
 induction n with
 | zero=>rfl
 | succ n ih=>rw [AH7,AH7,ih (fun i hi=>h i (by omega)),h n (by omega)]
theorem AS8:∀ {n:Nat} {F:Nat->Nat->Int},Zc n F n->det n F=AH7 (fun i=>F i i) n:=by
 intro n
 induction n with
 | zero=>intro _ _;rfl
 | succ n ih=>
   intro F h
   rw [AYf,det,ADd (g:=fun i=>if i=0 then F 0 0 * det n (AGr 0 F) else 0),ALv (a:=0) (by omega) (fun i hi=>if_neg hi),if_pos rfl]
   · rw [ih (F:=AGr 0 F) (fun c' i h1 h2 h3=>by unfold AGr skp;rw [if_neg (by omega)];exact h (c' + 1) (i + 1) (by omega) (by omega) (by omega))]
     rfl
   · intro i hi
     by_cases h0:i=0
     · subst h0;simp [sg]
     · rw [if_neg h0,h 0 i (by omega) (by omega) hi];simp
theorem Abr:∀ {n:Nat} {F:Nat->Nat->Int},(∀ i j,i < j->j < n->F i j=0)->det n F=AH7 (fun i=>F i i) n:=by
 intro n
 induction n with
 | zero=>intro _ _;rfl
 | succ n ih=>
   intro F h
   rw [AYf,det,ADd (g:=fun i=>if i=0 then F 0 0 * det n (AGr 0 F) else 0),ALv (a:=0) (by omega) (fun i hi=>if_neg hi),if_pos rfl]
   · rw [ih (F:=AGr 0 F) (fun i j h1 h2=>by unfold AGr skp;rw [if_neg (by omega)];exact h (i + 1) (j + 1) (by omega) (by omega))]
     rfl
   · intro i hi
     by_cases h0:i=0
     · subst h0;simp [sg]
     · rw [if_neg h0,AW8 (F:=AGr i F) (r:=0) (by omega) (fun q hq=>by unfold AGr skp;rw [if_pos (by omega)];exact h 0 (q + 1) (by omega) (by omega))];simp
def AV2 (F:Nat->Nat->Int) (c i:Nat) (q:Int):Nat->Nat->Int:=AHe (ADz F c fun x=>F c x + -q * F i x) c i
theorem Aic (F:Nat->Nat->Int) {c i:Nat} (q:Int):AV2 F c i q i=fun x=>F c x + -q * F i x:=by
 unfold AV2;rw [AZo,ADq]
theorem Ap4 (F:Nat->Nat->Int) {c i:Nat} (h:c≠i) (q:Int):AV2 F c i q c=F i:=by
 unfold AV2;rw [AVg,AFu _ _ (Ne.symm h)]
theorem Aer (F:Nat->Nat->Int) {c i k:Nat} (hc:k≠c) (hi:k≠i) (q:Int):AV2 F c i q k=F k:=by
 unfold AV2;rw [AWu _ hc hi,AFu _ _ hc]
theorem Am2 {n:Nat} {F:Nat->Nat->Int} {c i:Nat} {q:Int} (H:Zc n F c) (hci:c < i) (hi:i < n):Zc n (AV2 F c i q) c:=by
 intro c' k h1 h2 h3;by_cases hk:k=i
 ·subst hk;rw [Aic];simp [H c' c h1 h1 (by omega),H c' k h1 h2 h3]
 ·by_cases Ad:k=c
  ·subst Ad;rw [Ap4 F hk];exact H c' i h1 (by omega) hi
  ·rw [Aer F Ad hk];exact H c' k h1 h2 h3
theorem Am3 {F:Nat->Nat->Int} {c i:Nat} {q:Int} (H:Zi F c i):Zi (AV2 F c i q) c i:=by
 intro k h1 h2;rw [Aer F (by omega) (by omega)];exact H k h1 h2
theorem Aid {n:Nat} {P:(Nat->Nat->Int)->Prop} (hadd:∀ F a b q,a < n->b < n->a≠b->P (ADz F a fun x=>F a x + q * F b x)->P F) (hswap:∀ F a b,a < n->b < n->a≠b->P (AHe F a b)->P F) (htri:∀ F,Zc n F n->P F):∀ F,P F:=by
  have key:∀ d c,c + d=n-> ∀ F,Zc n F c->P F:=by
    intro d;induction d with
    | zero=>
        intro c hc F hF;obtain rfl:c=n:=by omega
        exact htri F hF
    | succ d ih=>
      intro c hc
      have inner:∀ e i,i + e=n->c < i-> ∀ F,Zc n F c->Zi F c i->P F:=by
        intro e;induction e with
        | zero=>
            intro i hi hci F hF hz;obtain rfl:i=n:=by omega
            exact ih (c + 1) (by omega) F (Ahm hF hz)
        | succ e ihe=>
          intro i hi hci
          have strong:∀ k F,(F i c).natAbs=k->Zc n F c->Zi F c i->P F:=by
            intro k;induction k using Nat.strongRecOn with
            | _ k ihk=>
              intro F hk hF hz
              by_cases h0:F i c=0
              · exact ihe (i + 1) (by omega) (by omega) F hF (Ahl hz h0)
              · refine hadd F c i (-(F c c / F i c)) (by omega) (by omega) (by omega) (hswap _ c i (by omega) (by omega) (by omega) ?_);refine ihk ((AV2 F c i (F c c / F i c)) i c).natAbs ?_ (AV2 F c i (F c c / F i c)) rfl (Am2 hF hci (by omega)) (Am3 hz);rw [Aic,<- hk];show (F c c + -(F c c / F i c) * F i c).natAbs < _;have h1:=Int.mul_ediv_add_emod (F c c) (F i c);have h2:F c c + -(F c c / F i c) * F i c=F c c % F i c:=by grind
                rw [h2];have h3:=Int.emod_nonneg (F c c) h0;have h4:=Int.emod_lt (F c c) h0;omega
          exact fun F=>strong _ F rfl
      exact fun F hF=>inner (n - (c + 1)) (c + 1) (by omega) (by omega) F hF fun k h1 h2=>by omega
  exact fun F=>key n 0 (by omega) F fun c' i h=>by omega
def AF8 (n:Nat) (A B:Nat->Nat->Int):Nat->Nat->Int:=fun i j=>psum (fun k=>A i k * B k j) n
theorem Am4 {n:Nat} {A B:Nat->Nat->Int} {a b:Nat} {q:Int}:AF8 n (ADz A a fun x=>A a x + q * A b x) B=ADz (AF8 n A B) a fun x=>AF8 n A B a x + q * AF8 n A B b x:=by
 funext i j;unfold AF8 ADz;by_cases h:i=a
 ·simp only [if_pos h];rw [<- AIg,<- AOh];exact ADd fun k _=>by grind
 ·simp only [if_neg h]
theorem Aes {n:Nat} {A B:Nat->Nat->Int} {a:Nat} {u:Nat->Int}:AF8 n (ADz A a u) B=ADz (AF8 n A B) a fun x=>psum (fun k=>u k * B k x) n:=by
 funext i j;unfold AF8 ADz;by_cases h:i=a
 ·simp only [if_pos h]
 ·simp only [if_neg h]
theorem Ajz {n:Nat} {A B:Nat->Nat->Int} {a b:Nat}:AF8 n (AHe A a b) B=AHe (AF8 n A B) a b:=by
 unfold AHe;rw [Aes,Aes];rfl
theorem AY1 {n:Nat} (A B:Nat->Nat->Int):det n (AF8 n A B)=det n A * det n B:=by
 refine Aid (n:=n) (P:=fun A=>det n (AF8 n A B)=det n A * det n B) (fun F a b q ha hb hab h=>?_) (fun F a b ha hb hab h=>?_) (fun F hF=>?_) A
 ·rw [Am4,ANp ha hb hab,ANp ha hb hab] at h;exact h
 ·rw [Ajz,ARq ha hb hab,ARq ha hb hab] at h;rw [Int.neg_mul] at h;omega
 ·rw [AS8 hF]
  have key:∀ j,j<=n->det n (fun i=>if i < j then AF8 n F B i else B i)=AH7 (fun i=>F i i) j * det n B:=by
    intro j
    induction j with
    | zero=>intro _;simp [AH7]
    | succ j ih=>
      intro hj
      rw [AH7,Int.mul_assoc,Int.mul_comm (F j j),<- Int.mul_assoc,<- ih (by omega),Int.mul_comm]
      rw [<- Am1 (F:=fun i=>if i < j then AF8 n F B i else B i) (r:=j) (by omega) (F j)]
      refine AD6 fun i q hi hq=>?_
      unfold ADz
      by_cases h:i=j
      · subst h
        simp only [if_pos (Nat.lt_succ_self i),if_pos]
        unfold AF8
        refine ADd fun k hk=>?_
        by_cases hlt:k < i
        · rw [hF k i (by omega) hlt hi];simp
        · rw [if_neg hlt]
      · simp only [if_neg h]
        by_cases hlt:i < j
        · rw [if_pos hlt,if_pos (by omega)]
        · rw [if_neg hlt,if_neg (by omega)]
  rw [<- key n (Nat.le_refl _)];exact AD6 fun i j hi hj=>by rw [if_pos hi]
def trF (F:Nat->Nat->Int):Nat->Nat->Int:=fun i j=>F j i
theorem Am5 (n:Nat):det n dl=1:=by
 rw [AS8 (fun c' i h1 h2 h3=>by unfold dl;rw [if_neg (by omega)])]
 have:∀ k,AH7 (fun i=>dl i i) k=1:=by
   intro k
   induction k with
   | zero=>rfl
   | succ k ih=>rw [AH7,ih];simp [dl]
 exact this n
theorem Am6 {n:Nat} {F:Nat->Nat->Int} {i j:Nat} (hj:j < n):psum (fun k=>F i k * dl k j) n=F i j:=by
 rw [ALv hj (fun k hk=>by unfold dl;rw [if_neg hk];simp)];simp [dl]
theorem Agt {n:Nat} {F:Nat->Nat->Int} {a:Nat} (y:Nat->Int) (ha:a < n):det n (trF (ADz F a fun x=>psum (fun k=>y k * F k x) n))=det n (trF F) * det n (trF (ADz dl a y)):=by
  rw [<- AY1];refine AD6 fun i j hi hj=>?_;unfold AF8 trF ADz
  by_cases h:j=a
  · simp only [if_pos h];exact ADd fun k _=>by grind
  · simp only [if_neg h];rw [ALv hj (fun k hk=>by unfold dl;rw [if_neg (Ne.symm hk)];simp)];simp [dl]
theorem ARs {n:Nat} (F:Nat->Nat->Int):det n (trF F)=det n F:=by
 refine Aid (n:=n) (P:=fun F=>det n (trF F)=det n F) (fun F a b q ha hb hab h=>?_) (fun F a b ha hb hab h=>?_) (fun F hF=>?_) F
 ·rw [ANp ha hb hab] at h;rw [<- h];have h1:=Agt (n:=n) (F:=F) (a:=a) (fun k=>dl k a + q * dl k b) ha
  have h2:det n (trF (ADz dl a fun k=>dl k a + q * dl k b))=1:=by
    rw [<- Am5 n,<- ANp (F:=dl) hb ha (Ne.symm hab) q]
    refine AD6 fun i j hi hj=>?_
    clear h1 h
    simp only [trF,ADk,dl]
    grind
  rw [h2,Int.mul_one] at h1;rw [<- h1];refine AD6 fun i j hi hj=>?_;unfold trF ADz;by_cases hja:j=a
  ·simp only [if_pos hja];rw [ADd (g:=fun k=>F k i * dl k a + q * (F k i * dl k b)) (fun k _=>by grind),AOh,AIg];rw [ALv (a:=a) ha (fun k hk=>by unfold dl;rw [if_neg hk];simp),ALv (a:=b) hb (fun k hk=>by unfold dl;rw [if_neg hk];simp)];simp [dl]
  ·simp only [if_neg hja]
 ·rw [ARq ha hb hab] at h
  have h1:det n (trF (AHe F a b))=det n (trF F) * det n (AHe dl a b):=by
    rw [<- AY1]
    refine AD6 fun i j hi hj=>?_
    unfold AF8 trF
    have hsym:∀ k,AHe dl a b k j=if j=a then dl k b else if j=b then dl k a else dl k j:=by
      intro k
      simp only [ALw,dl]
      grind
    rw [ADd (g:=fun k=>F k i * dl k (if j=a then b else if j=b then a else j)) (fun k _=>by rw [hsym];grind)]
    rw [ALv (a:=if j=a then b else if j=b then a else j) (by grind) (fun k hk=>by unfold dl;rw [if_neg hk];simp)]
    simp only [dl,if_pos,Int.mul_one]
    by_cases h3:j=a
    · subst h3;rw [AVg,if_pos rfl]
    · rw [if_neg h3]
      by_cases h4:j=b
      · subst h4;rw [AZo,if_pos rfl]
      · rw [AWu _ h3 h4,if_neg h4]
  rw [ARq ha hb hab,Am5] at h1;omega
 ·rw [AS8 hF,Abr (F:=trF F) (fun i j h1 h2=>hF i j (by omega) h1 h2)];rfl
def shF (k:Nat) (F:Nat->Nat->Int):Nat->Nat->Int:=fun i j=>F (k + i) (k + j)
theorem Abt {i k a:Nat} (h:i < k + 1):skp i (k + a)=k + 1 + a:=by unfold skp;rw [if_neg (by omega)];omega
theorem AXx:∀ {k m:Nat} {T:Nat->Nat->Int},(∀ i j,k<=i->i < k + m->j < k->T i j=0)->det (k + m) T=det k T * det m (shF k T):=by
  intro k;induction k with
  | zero=>
    intro m T _;have e:shF 0 T=T:=by funext i j;simp [shF]
    rw [e,Nat.zero_add];simp [det]
  | succ k ih=>
    intro m T h;rw [show k + 1 + m=(k + m) + 1 by omega];simp only [det];rw [Amy (k:=k + 1) (by omega) (fun i h1 h2=>by rw [h i 0 h1 (by omega) (by omega)];simp)];rw [Int.mul_comm,<- AIg];refine ADd fun i hi=>?_
    rw [ih (T:=AGr i T) (m:=m) (fun a b ha ha2 hb=>by
      obtain ⟨c,rfl⟩:∃ c,a=k + c:=⟨a - k,by omega⟩;unfold AGr;rw [Abt hi];exact h _ _ (by omega) (by omega) (by omega))]
    have e:shF k (AGr i T)=shF (k + 1) T:=by
      funext a b;unfold shF AGr;rw [Abt hi,show k + b + 1=k + 1 + b by omega]
    rw [e];grind
theorem Ac5 {n:Nat} {F:Nat->Nat->Int} (h:∀ i,i < n + 1->F i 0=0):det (n + 1) F=0:=by
 simp only [det];rw [ADd (g:=fun _=>0) fun i hi=>by rw [h i hi];simp];exact AQ3 _
theorem Aet {n:Nat} {F:Nat->Nat->Int} {a b:Nat} (ha:a < n) (hb:b < n) (hab:a≠b) (h:∀ i,F i a=F i b):det n F=0:=by
 rw [<- ARs];exact AO0 ha hb hab (by funext i;exact h i)
theorem Ap5 (F:Nat->Nat->Int):det 2 F=F 0 0 * F 1 1 - F 1 0 * F 0 1:=by
 simp [det,psum,AGr,skp,sg];grind
def bro (k i r:Nat):Nat:=if r < k then r else i
def Mn (k:Nat) (A:Nat->Nat->Int) (i j:Nat):Int:=det (k + 1) fun r c=>A (bro k i r) (bro k j c)
theorem APi (A:Nat->Nat->Int) (i j:Nat):Mn 0 A i j=A i j:=by
 simp [Mn,det,psum,bro,sg]
theorem ALk (k:Nat) (A:Nat->Nat->Int):Mn k A k k=det (k + 1) A:=by
 refine AD6 fun r c hr hc=>?_;have e:∀ r,r < k + 1->bro k k r=r:=fun r hr=>by unfold bro;split <;> omega
 rw [e r hr,e c hc]
theorem Arl {k:Nat} (A:Nat->Nat->Int) (i:Nat) {j:Nat} (hj:j < k):Mn k A i j=0:=by
 refine Aet (a:=j) (b:=k) (by omega) (by omega) (by omega) fun r=>?_;unfold bro;simp [hj]
def cof (k:Nat) (A:Nat->Nat->Int) (i s:Nat):Int:=det (k + 1) (ADz (fun c r=>A (bro k i r) c) k (dl s))
theorem Ac6 {n:Nat} (f:Nat->Int) {q:Nat} (hq:q < n):psum (fun s=>f s * dl s q) n=f q:=by
 rw [ALv hq (fun i hi=>by unfold dl;rw [if_neg hi,Int.mul_zero])];simp [dl]
theorem Aso (k:Nat) (A:Nat->Nat->Int) (i j:Nat):Mn k A i j=psum (fun s=>cof k A i s * A s j) k + det k A * A i j:=by
 have h1:Mn k A i j=det (k + 1) (ADz (fun c r=>A (bro k i r) c) k fun q=>psum (fun s=>A (bro k i s) j * dl s q) (k + 1)):=by
   unfold Mn
   rw [<- ARs]
   refine AD6 fun c r hc hr=>?_
   rw [ADk,Ac6 _ hr]
   unfold trF
   split
   · subst_vars;simp [bro]
   · have:c < k:=by omega
     simp [bro,this]
 rw [h1,AZ8 (by omega)]
 have hk:det (k + 1) (ADz (fun c r=>A (bro k i r) c) k (dl k))=det k A:=by
   rw [AXx (k:=k) (m:=1) (T:=ADz (fun c r=>A (bro k i r) c) k (dl k)) (fun a b h1 h2 h3=>by
     obtain rfl:a=k:=by omega
     rw [ADk,if_pos rfl];unfold dl;rw [if_neg (by omega)])]
   have e1:det k (ADz (fun c r=>A (bro k i r) c) k (dl k))=det k A:=by
     rw [<- ARs]
     refine AD6 fun r c hr hc=>?_
     unfold trF
     rw [ADk,if_neg (by omega)]
     simp [bro,hr]
   have e2:det 1 (shF k (ADz (fun c r=>A (bro k i r) c) k (dl k)))=1:=by
     simp [det,psum,shF,sg,ADk,dl]
   rw [e1,e2,Int.mul_one]
 show psum (fun s=>A (bro k i s) j * det (k + 1) (ADz (fun c r=>A (bro k i r) c) k (dl s))) k + A (bro k i k) j * det (k + 1) (ADz (fun c r=>A (bro k i r) c) k (dl k))=_;rw [hk];congr 1
 ·refine ADd fun s hs=>?_;show _=cof k A i s * A s j;unfold cof;rw [Int.mul_comm];simp [bro,hs]
 ·simp [bro,Int.mul_comm]
theorem Aeu (f:Nat->Int) (k m:Nat):AH7 f (k + m)=AH7 f k * AH7 (fun i=>f (k + i)) m:=by
 induction m with
 | zero=>simp [AH7]
 | succ m ih=>rw [<- Nat.add_assoc];simp only [AH7];rw [ih];grind
theorem Abu {f:Nat->Int}:∀ {n:Nat},(∀ i,i < n->f i=1)->AH7 f n=1
  | 0,_=>rfl
  | n + 1,h=>by rw [AH7,Abu fun i hi=>h i (by omega),h n (by omega)];rfl
theorem Aev {f:Nat->Int}:∀ {n:Nat},(∀ i,i < n->f i≠0)->AH7 f n≠0
  | 0,_=>by simp [AH7]
  | n + 1,h=>by rw [AH7];exact Int.mul_ne_zero (Aev fun i hi=>h i (by omega)) (h n (by omega))
def AUh (k:Nat) (A:Nat->Nat->Int) (ρ:Nat->Nat):Nat->Nat->Int:=fun r s=>if r < k then dl r s else if s < k then cof k A (ρ r) s else if s=r then det k A else 0
theorem Aew {k n:Nat} {A B:Nat->Nat->Int} {ρ γ:Nat->Nat} (hkn:k<=n) (hρ:∀ r,r < k->ρ r=r) (hB:∀ r c,B r c=A (ρ r) (γ c)) {r c:Nat} (hr:r < n):AF8 n (AUh k A ρ) B r c=if r < k then B r c else Mn k A (ρ r) (γ c):=by
 unfold AF8;by_cases h:r < k
 ·rw [if_pos h,ALv hr (fun i hi=>by unfold AUh;rw [if_pos h];unfold dl;rw [if_neg (fun e=>hi e.symm),Int.zero_mul])];unfold AUh;rw [if_pos h];simp [dl]
 ·rw [if_neg h,Aso];obtain ⟨m,rfl⟩:∃ m,n=k + m:=⟨n - k,by omega⟩
  have hs:∀ t,psum (fun s=>AUh k A ρ r s * B s c) (k + t)=psum (fun s=>cof k A (ρ r) s * A s (γ c)) k + (if r < k + t then det k A * A (ρ r) (γ c) else 0):=by
    intro t
    induction t with
    | zero=>
      rw [if_neg (by omega),Int.add_zero,Nat.add_zero]
      refine ADd fun s hs=>?_
      unfold AUh
      rw [if_neg h,if_pos hs,hB,hρ s hs]
    | succ t ih=>
      show psum (fun s=>AUh k A ρ r s * B s c) (k + t) + AUh k A ρ r (k + t) * B (k + t) c=_
      rw [ih]
      have e:AUh k A ρ r (k + t)=if k + t=r then det k A else 0:=by unfold AUh;rw [if_neg h,if_neg (by omega)]
      rw [e,hB]
      rcases Nat.lt_trichotomy r (k + t) with h1 | h1 | h1
      · rw [if_pos h1,if_neg (by omega),if_pos (by omega)];simp
      · subst h1;rw [if_neg (by omega),if_pos rfl,if_pos (by omega)];omega
      · rw [if_neg (by omega),if_neg (by omega),if_neg (by omega)];simp
  rw [hs,if_pos hr]
theorem Aex {k m:Nat} {A:Nat->Nat->Int} {ρ:Nat->Nat}:det (k + m) (AUh k A ρ)=AH7 (fun _=>det k A) m:=by
 rw [Abr (fun i j hij hj=>by
   unfold AUh
   split
   · unfold dl;rw [if_neg (by omega)]
   · rw [if_neg (by omega),if_neg (by omega)]),Aeu,Abu,Int.one_mul]
 ·refine AYg fun i hi=>?_;unfold AUh;rw [if_neg (by omega),if_neg (by omega),if_pos rfl]
 ·intro i hi;unfold AUh;rw [if_pos hi];simp [dl]
theorem AVp {k:Nat} {A:Nat->Nat->Int} (h0:det k A≠0) (i j:Nat):Mn k A k k * Mn k A i j - Mn k A i k * Mn k A k j=det k A * Mn (k + 1) A i j:=by
  have h1:=AY1 (n:=k + 2) (AUh k A (bro (k + 1) i)) fun r c=>A (bro (k + 1) i r) (bro (k + 1) j c)
  have hm:∀ r c,r < k + 2->AF8 (k + 2) (AUh k A (bro (k + 1) i)) (fun r c=>A (bro (k + 1) i r) (bro (k + 1) j c)) r c=if r < k then A (bro (k + 1) i r) (bro (k + 1) j c) else Mn k A (bro (k + 1) i r) (bro (k + 1) j c):=fun r c hr=>
    Aew (k:=k) (n:=k + 2) (A:=A) (B:=fun r c=>A (bro (k + 1) i r) (bro (k + 1) j c)) (ρ:=bro (k + 1) i) (γ:=bro (k + 1) j) (by omega) (fun r hr=>by unfold bro;rw [if_pos (by omega)]) (fun r c=>rfl) hr
  rw [Aex,AXx (k:=k) (m:=2) (fun a b ha ha2 hb=>by
    rw [hm a b ha2,if_neg (by omega),show bro (k + 1) j b=b by unfold bro;rw [if_pos (by omega)]];exact Arl _ _ hb)] at h1
  have e1:det k (AF8 (k + 2) (AUh k A (bro (k + 1) i)) fun r c=>A (bro (k + 1) i r) (bro (k + 1) j c))=det k A:=by
    refine AD6 fun r c hr hc=>?_;rw [hm r c (by omega),if_pos hr];simp only [bro];rw [if_pos (by omega),if_pos (by omega)]
  have b0:∀ q,bro (k + 1) q (k + 0)=k:=fun q=>by unfold bro;rw [if_pos (by omega)];rfl
  have b1:∀ q,bro (k + 1) q (k + 1)=q:=fun q=>by unfold bro;rw [if_neg (by omega)]
  rw [e1,Ap5] at h1;simp only [shF] at h1;rw [hm _ _ (by omega),hm _ _ (by omega),hm _ _ (by omega),hm _ _ (by omega),if_neg (by omega),if_neg (by omega),if_neg (by omega),if_neg (by omega),b0,b0,b1,b1] at h1;have e2:AH7 (fun _=>det k A) 2=det k A * det k A:=by simp [AH7]
  have e3:(det (k + 2) fun r c=>A (bro (k + 1) i r) (bro (k + 1) j c))=Mn (k + 1) A i j:=rfl;rw [e2,e3,Int.mul_assoc] at h1;exact Int.eq_of_mul_eq_mul_left h0 h1
theorem Aey {k n:Nat} {A:Nat->Nat->Int} (h0:det k A≠0) (hk:k < n) (hz:∀ i,k<=i->i < n->Mn k A i k=0):det n A=0:=by
  obtain ⟨m,rfl⟩:∃ m,n=k + (m + 1):=⟨n - k - 1,by omega⟩;have h1:=AY1 (n:=k + (m + 1)) (AUh k A id) A
  have hm:∀ r c,r < k + (m + 1)->AF8 (k + (m + 1)) (AUh k A id) A r c=if r < k then A r c else Mn k A r c:=fun r c hr=>
    Aew (k:=k) (n:=k + (m + 1)) (A:=A) (B:=A) (ρ:=id) (γ:=id) (by omega) (fun r hr=>rfl) (fun r c=>rfl) hr
  rw [Aex,AXx (k:=k) (m:=m + 1) (fun a b ha ha2 hb=>by rw [hm a b ha2,if_neg (by omega)];exact Arl _ _ hb),Ac5 (F:=shF k _) (fun i hi=>by
    unfold shF;rw [hm _ _ (by omega),if_neg (by omega)];exact hz _ (by omega) (by omega)),Int.mul_zero] at h1
  rcases Int.mul_eq_zero.1 h1.symm with h2 | h2
  · exact absurd h2 (Aev fun i hi=>h0)
  · exact h2
def dBd (m:Nat):Nat->Nat
  | 0=>1
  | n + 1=>(n + 1) * m * dBd m n
theorem psum_abs {f:Nat->Int} {B:Nat}:∀ {n:Nat},(∀ i,i < n->(f i).natAbs<=B)->(psum f n).natAbs<=n * B
  | 0,_=>by simp [psum]
  | n + 1,h=>by
    have h1:=psum_abs (n:=n) fun i hi=>h i (by omega)
    have h2:=h n (by omega)
    have h3:=Int.natAbs_add_le (psum f n) (f n)
    show (psum f n + f n).natAbs<=_
    rw [Nat.add_mul,Nat.one_mul]
    omega
theorem AW9 {m:Nat}:∀ {n:Nat} {F:Nat->Nat->Int},(∀ i j,(F i j).natAbs<=m)->(det n F).natAbs<=dBd m n
  | 0,_,_=>by simp [det,dBd]
  | n + 1,F,h=>by
    have h1:=psum_abs (f:=fun i=>sg i * F i 0 * det n (AGr i F)) (B:=m * dBd m n) (n:=n + 1) fun i hi=>by
      have e:=AW9 (n:=n) (F:=AGr i F) fun a b=>h _ _
      have es:(sg i).natAbs=1:=by unfold sg;split <;> rfl
      rw [Int.natAbs_mul,Int.natAbs_mul,es,Nat.one_mul]
      exact Nat.mul_le_mul (h i 0) e
    rw [dBd,Nat.mul_assoc]
    exact h1
theorem Ap6 {k n p:Nat} {A:Nat->Nat->Int} (hp:k < p) {i j:Nat} (hi:k<=i):Mn k (AHe A p k) i j=Mn k A (if i=k then p else if i=p then k else i) j:=by
 refine AD6 fun r c hr hc=>?_;rw [ALw];unfold bro;by_cases h:r < k
 ·rw [if_pos h,if_pos h,if_neg (by omega),if_neg (by omega)]
 ·rw [if_neg h,if_neg h];split
  ·rfl
  ·split <;> rfl
theorem Ac7 {k p:Nat} {A:Nat->Nat->Int} (hp:k < p):det k (AHe A p k)=det k A:=by
 refine AD6 fun r c hr hc=>?_;rw [ALw,if_neg (by omega),if_neg (by omega)]
def sgB (neg:Bool):Int:=if neg then -1 else 1
def AVw (m:Nat) (A0:Nat->Nat->Int) (n k:Nat) (F:Nat->Nat->Int) (last:Int) (neg:Bool):Prop:=
  ∃ A:Nat->Nat->Int,det n A=sgB neg * det n A0/\(∀ i j,k<=i->i < n->k<=j->j < n->F i j=Mn k A i j)/\last=det k A/\last≠0/\ ∀ i j,(A i j).natAbs<=m
theorem AZ9 {m n:Nat} {A0:Nat->Nat->Int} (h:∀ i j,(A0 i j).natAbs<=m):AVw m A0 n 0 A0 1 false:=
  ⟨A0,by simp [sgB],fun i j _ _ _ _=>(APi A0 i j).symm,rfl,by decide,h⟩
theorem Abv {m n k p:Nat} {A0 F:Nat->Nat->Int} {last:Int} {neg:Bool} (H:AVw m A0 n k F last neg) (hkp:k < p) (hp:p < n):AVw m A0 n k (AHe F p k) last (!neg):=by
 obtain ⟨A,h1,h2,h3,h4,h5⟩:=H;refine ⟨AHe A p k,?_,fun i j hi hin hj hjn=>?_,by rw [Ac7 hkp];exact h3,h4,fun i j=>?_⟩
 ·rw [ARq hp (by omega) (by omega),h1];cases neg <;> simp [sgB]
 ·rw [Ap6 (n:=n) hkp hi,ALw];split
  ·rw [h2 p j (by omega) hp hj hjn]
  ·split
   ·rw [h2 k j (by omega) (by omega) hj hjn]
   ·rw [h2 i j hi hin hj hjn]
 ·rw [ALw];split
  ·exact h5 _ _
  ·split <;> exact h5 _ _
def bQ (k:Nat) (F:Nat->Nat->Int) (last:Int) (r c:Nat):Int:=(F k k * F r c - F r k * F k c) / last
def bF (k:Nat) (F:Nat->Nat->Int) (last:Int) (i j:Nat):Nat->Nat->Int:=fun r c=>if k < r/\k < c/\(r < i∨r=i/\c < j) then bQ k F last r c else F r c
theorem Aaa (k:Nat) (F:Nat->Nat->Int) (last:Int):bF k F last (k + 1) (k + 1)=F:=by
 funext r c;unfold bF;rw [if_neg (by omega)]
theorem Agu (k n:Nat) (F:Nat->Nat->Int) (last:Int) (i:Nat) {r c:Nat} (hc:c < n):bF k F last i n r c=bF k F last (i + 1) (k + 1) r c:=by
 unfold bF;by_cases h:k < r/\k < c/\(r < i∨r=i/\c < n)
 ·rw [if_pos h,if_pos (by omega)]
 ·rw [if_neg h,if_neg (by omega)]
theorem Agv (k:Nat) (F:Nat->Nat->Int) (last:Int) {i j:Nat} (hi:k < i) (hj:k < j):(ADz (bF k F last i j) i fun c=>if c=j then bQ k F last i j else bF k F last i j i c)=bF k F last i (j + 1):=by
 funext r c;rw [ADk];split
 ·subst_vars
  split
  ·subst_vars;unfold bF;rw [if_pos (by omega)]
  ·unfold bF;by_cases h:k < r/\k < c/\(r < r∨r=r/\c < j)
   ·rw [if_pos h,if_pos (by omega)]
   ·rw [if_neg h,if_neg (by omega)]
 ·unfold bF;by_cases h:k < r/\k < c/\(r < i∨r=i/\c < j)
  ·rw [if_pos h,if_pos (by omega)]
  ·rw [if_neg h,if_neg (by omega)]
theorem Aab (k:Nat) (F:Nat->Nat->Int) (last:Int) (i j c:Nat):bF k F last i j k c=F k c:=by unfold bF;rw [if_neg (by omega)]
theorem Am8 (k:Nat) (F:Nat->Nat->Int) (last:Int) (i j r:Nat):bF k F last i j r k=F r k:=by unfold bF;rw [if_neg (by omega)]
theorem Am9 (k:Nat) (F:Nat->Nat->Int) (last:Int) (i j:Nat):bF k F last i j i j=F i j:=by unfold bF;rw [if_neg (by omega)]
theorem Arm {m n k:Nat} {A0 F:Nat->Nat->Int} {last:Int} {neg:Bool} (H:AVw m A0 n k F last neg) (hk:k < n):∃ A,(∀ i j,(A i j).natAbs<=m)/\det n A=sgB neg * det n A0/\F k k=det (k + 1) A/\ ∀ i j,k<=i->i < n->k<=j->j < n->F i j=Mn k A i j/\bQ k F last i j=Mn (k + 1) A i j:=by
 obtain ⟨A,h1,h2,h3,h4,h5⟩:=H;refine ⟨A,h5,h1,by rw [h2 k k (by omega) hk (by omega) hk,ALk],fun i j hi hin hj hjn=>⟨h2 i j hi hin hj hjn,?_⟩⟩;unfold bQ;rw [h2 k k (by omega) hk (by omega) hk,h2 i j hi hin hj hjn,h2 i k hi hin (by omega) hk,h2 k j (by omega) hk hj hjn,AVp (by rw [<- h3];exact h4),<- h3,Int.mul_ediv_cancel_left _ h4]
theorem Abw {m n k:Nat} {A0 F:Nat->Nat->Int} {last:Int} {neg:Bool} (H:AVw m A0 n k F last neg) (hk:k < n) (h0:F k k≠0):AVw m A0 n (k + 1) (bF k F last n (k + 1)) (F k k) neg:=by
 obtain ⟨A,h5,h1,h6,h2⟩:=Arm H hk;refine ⟨A,h1,fun i j hi hin hj hjn=>?_,h6,h0,h5⟩;unfold bF;rw [if_pos (by omega)];exact (h2 i j (by omega) hin (by omega) hjn).2
theorem Abx {m n k:Nat} {A0 F:Nat->Nat->Int} {last:Int} {neg:Bool} (H:AVw m A0 n k F last neg) (hk:k < n) (hz:∀ i,k<=i->i < n->F i k=0):det n A0=0:=by
 obtain ⟨A,h1,h2,h3,h4,h5⟩:=H;have h:=Aey (A:=A) (by rw [<- h3];exact h4) hk fun i hi hin=>by rw [<- h2 i k hi hin (by omega) hk];exact hz i hi hin
 rw [h1] at h;rcases Int.mul_eq_zero.1 h with h6 | h6
 ·cases neg <;> simp [sgB] at h6
 ·exact h6
theorem Aez {m n:Nat} {A0 F:Nat->Nat->Int} {last:Int} {neg:Bool} (H:AVw m A0 n n F last neg):det n A0=if neg then -last else last:=by
 obtain ⟨A,h1,h2,h3,h4,h5⟩:=H;rw [<- h3] at h1;rw [h1];cases neg
 ·simp [sgB]
 ·simp [sgB]
theorem Agw {m k:Nat} {A:Nat->Nat->Int} (h:∀ i j,(A i j).natAbs<=m) (i j:Nat):(Mn k A i j).natAbs<=dBd m (k + 1):=AW9 fun r c=>h _ _
theorem APj {m:Nat} (hm:1<=m) {a b:Nat} (h:a<=b):dBd m a<=dBd m b:=by
 induction h with
 | refl=>exact Nat.le_refl _
 | step h ih=>
   refine Nat.le_trans ih ?_
   rw [dBd]
   exact Nat.le_mul_of_pos_left _ (Nat.mul_pos (by omega) (by omega))
theorem Ae0 {m n k:Nat} {A0 F:Nat->Nat->Int} {last:Int} {neg:Bool} (hm:1<=m) (H:AVw m A0 n k F last neg) (hk:k < n) {i j:Nat} (hi:k<=i) (hin:i < n) (hj:k<=j) (hjn:j < n):(F i j).natAbs<=dBd m n/\(bQ k F last i j).natAbs<=dBd m (n + 1):=by
  obtain ⟨A,h5,h1,h6,h2⟩:=Arm H hk;obtain ⟨h7,h8⟩:=h2 i j hi hin hj hjn;rw [h7,h8];exact ⟨Nat.le_trans (Agw h5 _ _) (APj hm (by omega)),Nat.le_trans (Agw h5 _ _) (APj hm (by omega))⟩
theorem Aby {m n k:Nat} {A0 F:Nat->Nat->Int} {last:Int} {neg:Bool} (hm:1<=m) (H:AVw m A0 n k F last neg) (hk:k<=n):last≠0/\last.natAbs<=dBd m n:=by
 obtain ⟨A,h1,h2,h3,h4,h5⟩:=H;exact ⟨h4,by rw [h3];exact Nat.le_trans (AW9 h5) (APj hm hk)⟩
end Go.QF
namespace Go.Proofs.YtdnbklmefmoofaaGreatDoor
open Go Go.QF
theorem Ap7 {α:Type} {i n:Nat} {a b c:α} (h:i < n):(List.replicate i a ++ List.replicate (n - i) b).set i c=List.replicate i a ++ (c :: List.replicate (n - i - 1) b):=by
 rw [List.set_append_right _ _ (by simp),List.length_replicate,Nat.sub_self,show n - i=(n - i - 1) + 1 by omega,List.replicate_succ];rfl
theorem AY2 {fuel n m:Nat} (hn:n<=100000000) (hm:m<=100000000) (hf:n < fuel):AE4 fuel n m=some (List.replicate n (List.replicate m 0)):=by
 apply ok_eq;unfold AE4;refine AD8 (by omega) (ABs (AC3 (fun i s=>s=((i:Int),List.replicate i (List.replicate m 0) ++ List.replicate (n - i) [])) n (Q:=(· =List.replicate n (List.replicate m 0))) (by simp) hf fun i s hi hI=>?_) fun x hx=>ABn hx);subst hI;unfold ALp;dsimp only;rw [List.length_replicate,Int.toNat_natCast];refine AB7 (fun h=>AD8 (by omega) (ACj (n:=i) (x:=[]) ?_ rfl (ABn ⟨by omega,?_⟩))) (fun h=>ABn ?_)
 ·rw [List.getElem?_append_right (by simp),List.length_replicate,Nat.sub_self,List.getElem?_replicate,if_pos (by omega)]
 ·rw [wk (by omega),ADw,Int.toNat_natCast,Ap7 (by omega)];congr 1;rw [show n - (i + 1)=n - i - 1 by omega,List.replicate_succ'];simp
 ·obtain rfl:i=n:=by omega
  simp
theorem Ac8 {α:Type} {A:List (List α)} {i:Nat} {row:List α} (hi:i < A.length):(A.take i ++ row :: List.replicate (A.length - i - 1) []).set i=fun r=>A.take i ++ r :: List.replicate (A.length - i - 1) []:=by
 funext r;rw [List.set_append_right _ _ (by simp;omega),List.length_take,Nat.min_eq_left (by omega),Nat.sub_self];rfl
theorem Ac9 {fuel:Nat} {A:List (List Int)} (hn:A.length<=100000000) (hm:∀ z∈A,z.length<=100000000/\z.length < fuel) (hf:A.length < fuel):AHh fuel A=some A:=by
 apply ok_eq;unfold AHh;refine AD8 (by omega) (ABs (AC3 (fun i s=>s=((i:Int),A.take i ++ List.replicate (A.length - i) [])) A.length (Q:=(· =A)) (by simp) hf fun i s hi hI=>?_) fun x hx=>ABn hx);subst hI;unfold ALr;dsimp only;refine AB7 (fun h=>?_) (fun h=>ABn ?_)
 ·have hi':i < A.length:=by omega
  obtain ⟨row,hrow⟩:∃ row,A[i]? =some row:=⟨A[i],List.getElem?_eq_getElem hi'⟩;have hr:=hm row (List.mem_of_getElem? hrow);refine ACj hrow rfl (ABs (AC3 (fun j s=>s=((j:Int),A.take i ++ row.take j :: List.replicate (A.length - i - 1) [])) row.length (Q:=(· =A.take i ++ row :: List.replicate (A.length - i - 1) [])) ?_ hr.2 fun j s hj hJ=>?_) fun x hx=>ABn ⟨hi',?_⟩)
  ·rw [show A.length - i=(A.length - i - 1) + 1 by omega,List.replicate_succ];simp
  ·subst hJ;unfold ALq;dsimp only;refine AB7 (fun h2=>?_) (fun h2=>ABn ?_)
   ·obtain ⟨x,hx⟩:∃ x,row[j]? =some x:=⟨row[j]'(by omega),List.getElem?_eq_getElem _⟩;refine ACj hx rfl (ACj (n:=i) (x:=row.take j) ?_ rfl (ABs (Q:=(· =x)) ⟨x,rfl,rfl⟩ fun y hy=>AD8 ?_ (ABn ⟨by omega,?_⟩)))
    ·rw [List.getElem?_append_right (by simp;omega),List.length_take,Nat.min_eq_left (by omega),Nat.sub_self];rfl
    ·rw [List.length_take];omega
    ·subst hy;rw [wk (by omega),ADw,Ac8 hi',List.take_add_one,hx];rfl
   ·obtain rfl:j=row.length:=by omega
    rw [List.take_length]
  ·subst hx;rw [wk (by omega),List.take_add_one,hrow,show A.length - (i + 1)=A.length - i - 1 by omega];simp
 ·obtain rfl:i=A.length:=by omega
  simp
def okM (A:List (List Int)):Bool:=decide (1<=A.length/\A.length<=16/\ ∀ z∈A,1<=z.length/\z.length<=16/\z.length=AN0 A)
theorem AQ5 {A:List (List Int)} {z:List Int} (h:A[0]? =some z):AN0 A=z.length:=by unfold AN0;rw [h];rfl
theorem AYh {fuel:Nat} {A:List (List Int)} (hr:∀ z∈A,∀ x∈z,-9223372036854775808<=x/\x<=9223372036854775807) (hf:17 < fuel):AD5 fuel A=some (if okM A then (A,true) else ([],false)):=by
 apply ok_eq;unfold AD5
 have key:∀ R:List (List Int) × Bool->Prop,(okM A=false->R ([],false))->(okM A=true->R (A,true))->Ok (AD5 fuel A) R:=by
   intro R hF hT
   unfold AD5
   refine ABs (Q:=fun ex=>match ex with | .inl e=>e=([],false)/\okM A=false | .inr _=>1<=A.length/\A.length<=16) (AB7 (fun h=>ABn ⟨rfl,by unfold okM;rw [decide_eq_false_iff_not];omega⟩) fun h=>AB7 (fun h2=>ABn ⟨rfl,by unfold okM;rw [decide_eq_false_iff_not];omega⟩) fun h2=>ABn ⟨by omega,by omega⟩) fun ex hex=>?_
   cases ex with
   | inl e=>obtain ⟨rfl,h⟩:=hex;exact ABn (hF h)
   | inr u=>
     dsimp only at hex ⊢
     obtain ⟨z0,Ab⟩:∃ z,A[0]? =some z:=⟨A[0]'(by omega),List.getElem?_eq_getElem _⟩
     have hc:=AQ5 Ab
     refine ABs (AC3 (fun i (s:Int)=>s=(i:Int)/\ ∀ z∈A.take i,1<=z.length/\z.length<=16/\z.length=AN0 A) A.length (Q:=fun ex=>match ex with | .inl e=>e=([],false)/\okM A=false | .inr _=>okM A=true) ⟨rfl,by simp⟩ (by omega) fun i s hi hI=>?_) fun ex Ac=>?_
     · obtain ⟨rfl,hI⟩:=hI
       unfold AJm
       refine AB7 (fun h=>?_) (fun h=>ABn ?_)
       · have hi':i < A.length:=by omega
         obtain ⟨row,hrow⟩:∃ row,A[i]? =some row:=⟨A[i],List.getElem?_eq_getElem hi'⟩
         have bad: ¬ (1<=row.length/\row.length<=16/\row.length=AN0 A)->okM A=false:=fun hb=>by
           unfold okM;rw [decide_eq_false_iff_not];exact fun h=>hb (h.2.2 row (List.mem_of_getElem? hrow))
         refine ACj hrow rfl (AB7 (fun h1=>ABn ⟨rfl,bad (by omega)⟩) fun h1=>AB7 (fun h2=>ABn ⟨rfl,bad (by omega)⟩) fun h2=>ACj Ab rfl (AB7 (fun h3=>ABn ⟨rfl,bad (by omega)⟩) fun h3=>ABn ⟨hi',wk (by omega),?_⟩))
         rw [List.take_add_one,hrow]
         intro z hz
         rcases List.mem_append.1 hz with hz | hz
         · exact hI z hz
         · rw [show z=row by simpa using hz];omega
       · obtain rfl:i=A.length:=by omega
         rw [List.take_length] at hI
         unfold okM;rw [decide_eq_true_eq];exact ⟨hex.1,hex.2,hI⟩
     · cases ex with
       | inl e=>obtain ⟨rfl,h⟩:=Ac;exact ABn (hF h)
       | inr u=>
         dsimp only at Ac ⊢
         have hv:=Ac
         unfold okM at hv;rw [decide_eq_true_eq] at hv
         have hcA:∀ z∈A,z.length=AN0 A:=fun z hz=>(hv.2.2 z hz).2.2
         have Ag:1<=AN0 A/\AN0 A<=16:=by have:=hv.2.2 z0 (List.mem_of_getElem? Ab);omega
         refine ACj Ab rfl (ABs (AC1 (AY2 (by omega) (by omega) (by omega))) fun O hO=>?_)
         subst hO
         rw [<- hc]
         refine ABs (AC3 (fun i s=>s=((i:Int),A.take i ++ List.replicate (A.length - i) (List.replicate (AN0 A) 0))) A.length (Q:=(· =A)) (by simp) (by omega) fun i s hi hI=>?_) fun x hx=>ABn (hx ▸ hT Ac)
         subst hI
         unfold AJl
         dsimp only
         refine AB7 (fun h=>?_) (fun h=>ABn ?_)
         · have hi':i < A.length:=by omega
           obtain ⟨row,hrow⟩:∃ row,A[i]? =some row:=⟨A[i],List.getElem?_eq_getElem hi'⟩
           have hrl:=hcA row (List.mem_of_getElem? hrow)
           refine ACj hrow rfl (ABs (AC3 (fun j s=>s=((j:Int),A.take i ++ (row.take j ++ List.replicate (AN0 A - j) 0) :: List.replicate (A.length - i - 1) (List.replicate (AN0 A) 0))) row.length (Q:=(· =A.take i ++ row :: List.replicate (A.length - i - 1) (List.replicate (AN0 A) 0))) ?_ (by omega) fun j s hj hJ=>?_) fun x hx=>ABn ⟨hi',?_⟩)
           · rw [show A.length - i=(A.length - i - 1) + 1 by omega,List.replicate_succ];simp
           · subst hJ
             unfold AJk
             dsimp only
             refine AB7 (fun h2=>?_) (fun h2=>ABn ?_)
             · obtain ⟨x,hx⟩:∃ x,row[j]? =some x:=⟨row[j]'(by omega),List.getElem?_eq_getElem _⟩
               have hxr:=hr row (List.mem_of_getElem? hrow) x (List.mem_of_getElem? hx)
               refine ACj (n:=i) (x:=row.take j ++ List.replicate (AN0 A - j) 0) ?_ rfl (ACj hrow rfl (ACj hx rfl (ABs (Q:=(· =x)) ⟨x,if_pos hxr,rfl⟩ fun y hy=>ACj (n:=j) (x:=0) ?_ rfl (ABn ⟨by omega,?_⟩))))
               · rw [List.getElem?_append_right (by simp;omega),List.length_take,Nat.min_eq_left (by omega),Nat.sub_self];rfl
               · rw [List.getElem?_append_right (by simp;omega),List.length_take,Nat.min_eq_left (by omega),Nat.sub_self,List.getElem?_replicate,if_pos (by omega)]
               · subst hy
                 rw [wk (by omega),ADw,ADw]
                 congr 1
                 rw [List.set_append_right _ _ (by simp;omega),List.length_take,Nat.min_eq_left (by omega),Nat.sub_self,List.set_cons_zero]
                 congr 2
                 rw [List.set_append_right _ _ (by simp;omega),List.length_take,Nat.min_eq_left (by omega),Nat.sub_self,show AN0 A - j=(AN0 A - (j + 1)) + 1 by omega,List.replicate_succ,List.set_cons_zero,List.take_add_one,hx]
                 simp
             · obtain rfl:j=row.length:=by omega
               rw [List.take_length,show AN0 A - row.length=0 by omega];simp
           · subst hx
             rw [wk (by omega),List.take_add_one,hrow,show A.length - (i + 1)=A.length - i - 1 by omega]
             simp
         · obtain rfl:i=A.length:=by omega
           simp
 have:=key (fun r=>r=if okM A then (A,true) else ([],false)) (fun h=>by rw [h];rfl) (fun h=>by rw [h];rfl);unfold AD5 at this;exact this
theorem Arn {fuel:Nat} {A:List (List Int)} (hr:∀ z∈A,∀ x∈z,-9223372036854775808<=x/\x<=9223372036854775807) (hf:17 < fuel):AFb fuel A=some (if okM A then A else []):=by
 unfold AFb;rw [AYh hr hf];cases okM A <;> rfl
def m63:Nat:=9223372036854775808
def AT4:Nat:=dBd m63 17
theorem Ada:2 * (AT4 * AT4) < AFa:=by decide
theorem Ana:1<=AT4:=by decide
theorem Aac {a b:Nat} (ha:a<=AT4) (hb:b<=AT4):a * b < AFa:=by
 have:=Nat.mul_le_mul ha hb;have:=Ada;omega
theorem Anb {a:Nat} (ha:a<=AT4):a < AFa:=by
 have h1:=Ada;have h2:=Nat.mul_le_mul Ana (Nat.le_refl AT4);omega
theorem Anc {n:Nat} (hn:n<=16):dBd m63 n<=AT4/\dBd m63 (n + 1)<=AT4:=⟨APj (by decide) (by omega),APj (by decide) (by omega)⟩
theorem AXa {z:Int}:AG8 z=0↔z=0:=by
 unfold AG8;split
 ·omega
 ·split <;> omega
theorem Ae1 {fuel:Nat} {a b:Int} (ha:a.natAbs<=AT4) (hb:b.natAbs<=AT4):ARl fuel a b=some (a * b):=if_pos (Aac ha hb)
theorem Ae2 {a b:Int} (ha:a.natAbs<=AT4) (hb:b.natAbs<=AT4):(a * b).natAbs < AFa:=by rw [Int.natAbs_mul];exact Aac ha hb
theorem Ap9 {a b c d:Int} (ha:a.natAbs<=AT4) (hb:b.natAbs<=AT4) (hc:c.natAbs<=AT4) (hd:d.natAbs<=AT4):(a * b - c * d).natAbs < AFa:=by
 have h1:=Nat.mul_le_mul ha hb;have h2:=Nat.mul_le_mul hc hd;rw [<- Int.natAbs_mul] at h1 h2;have:=Ada;omega
theorem AWh {r c i j:Nat} {F:Nat->Nat->Int} {x:Int}:sI (tab r c F) (i:Int) (sI (AEl c (F i)) (j:Int) x)=tab r c (ADz F i fun q=>if q=j then x else F i q):=by
 rw [ADw,ADw,AFw];exact Amw
theorem Asq {fuel n:Nat} {F:Nat->Nat->Int} (hn:n<=16) (hb:∀ i j,(F i j).natAbs<=m63) (hf:17 < fuel):AC7 fuel (tab n n F)=some (det n F):=by
 apply ok_eq;unfold AC7;refine ABs (AC1 (Ac9 (by rw [ACt];omega) (fun z hz=>by rw [AWt z hz];omega) (by rw [ACt];omega))) fun A hA=>?_;subst hA;refine ABs (Q:=(· =1)) ⟨1,if_pos (by omega),rfl⟩ fun one h1=>?_;subst h1;obtain ⟨hD,Ap⟩:=Anc hn;refine ABs (AC3 (fun k s=> ∃ G last neg,s=(neg,((k:Int),tab n n G,last))/\AVw m63 F n k G last neg) n (Q:=fun ex=>match ex with | .inl e=>e=det n F | .inr (neg,last)=>det n F=if neg then -last else last) ⟨F,1,false,rfl,AZ9 hb⟩ (by omega) fun k s hk hI=>?_) fun ex hex=>?_
 ·obtain ⟨G,last,neg,rfl,hB⟩:=hI;unfold AGf;dsimp only;rw [ACt];refine AB7 (fun h=>?_) (fun h=>ABn ?_)
  ·have hk':k < n:=by omega
   refine ABs (Q:=fun ex=>match ex with | .inl e=>e=det n F | .inr (neg',a',last')=> ∃ G',a'=tab n n G'/\AVw m63 F n (k + 1) G' last' neg') ?_ fun ex hex=>?_
   ·refine ABs (Q:=fun (e:Int)=> ∃ p:Nat,e=p/\k<=p/\p<=n/\(∀ i,k<=i->i < p->G i k=0)/\(p < n->G p k≠0)) (ABs (AC3 (fun j (s:Int)=>s=((k + j:Nat):Int)/\k + j<=n/\ ∀ i,k<=i->i < k + j->G i k=0) (n - k) (Q:=fun (e:Int)=> ∃ p:Nat,e=p/\k<=p/\p<=n/\(∀ i,k<=i->i < p->G i k=0)/\(p < n->G p k≠0)) ⟨rfl,by omega,fun i h1 h2=>by omega⟩ (by omega) fun j s hj hJ=>?_) fun e he=>ABn he) fun e he=>?_
    ·obtain ⟨rfl,hjn,hz⟩:=hJ;unfold AGc;rw [ACt];refine ABs (Q:=fun ex=>match ex with | .inl _=>k + j < n/\G (k + j) k=0 | .inr _=>k + j < n->G (k + j) k≠0) (AB7 (fun h2=>ACj (ACv (by omega)) rfl (ACj (ACk (by omega)) rfl (ABs (AC1 (a:=AG8 (G (k + j) k)) rfl) fun sg hsg=>AB7 (fun h3=>ABn ⟨by omega,?_⟩) fun h3=>ABn fun _=>?_))) fun h2=>ABn fun h3=>by omega) fun ex hex=>?_
     ·subst hsg;exact AXa.1 h3
     ·subst hsg;exact fun h4=>h3 (AXa.2 h4)
     ·cases ex with
      | inl u=>exact ABn ⟨by omega,by rw [wk (by omega)];omega,by omega,fun i h1 h2=>by
          rcases Nat.lt_or_ge i (k + j) with h3 | h3
          · exact hz i h1 h3
          · obtain rfl:i=k + j:=by omega
            exact hex.2⟩
      | inr u=>exact ABn ⟨k + j,rfl,by omega,hjn,hz,hex⟩
    ·obtain ⟨p,rfl,hkp,hpn,hz,hp⟩:=he;refine AB7 (fun h2=>ABn ?_) (fun h2=>?_)
     ·obtain rfl:p=n:=by omega
      exact (Abx hB hk' hz).symm
     ·have hp':p < n:=by omega
      refine ABs (Q:=fun (r:Bool × List (List Int))=> ∃ G',r.2=tab n n G'/\AVw m63 F n k G' last r.1/\G' k k≠0) (AB7 (fun h3=>ACj (ACv (by omega)) rfl (ACj (ACv (by omega)) rfl (ABn ⟨AHe G p k,?_,Abv hB (by omega) hp',?_⟩))) fun h3=>ABn ⟨G,rfl,hB,?_⟩) fun r hr=>?_
      ·dsimp only;rw [ADw,ADw];show ((tab n n G).set p (AEl n (G k))).set k (AEl n (G p))=_;rw [show AEl n (G k)=(List.range n).map (G k) from rfl,show AEl n (G p)=(List.range n).map (G p) from rfl,ALn,ALn];rfl
      ·rw [ALw,if_pos rfl];exact hp hp'
      ·obtain rfl:p=k:=by omega
       exact hp hp'
      ·obtain ⟨Aq,a2⟩:=r;obtain ⟨G2,Ag,Af,hne⟩:=hr;dsimp only at Ag Af ⊢;subst Ag;have hlast:=Aby (by decide) Af (by omega);have habs:∀ i j,k<=i->i < n->k<=j->j < n->(G2 i j).natAbs<=AT4:=fun i j h1 h2 h3 h4=>Nat.le_trans (Ae0 (by decide) Af hk' h1 h2 h3 h4).1 hD;have hl':last.natAbs<=AT4:=Nat.le_trans hlast.2 hD;rw [wk (by omega)];refine ABs (AC3 (fun i s=>s=(((k + 1 + i:Nat):Int),tab n n (bF k G2 last (k + 1 + i) (k + 1)))/\k + 1 + i<=n) (n - (k + 1)) (Q:=(· =tab n n (bF k G2 last n (k + 1)))) ⟨by rw [Nat.add_zero,Aaa];simp,by omega⟩ (by omega) fun i s hi hI=>?_) fun a3 Ah=>?_
       ·obtain ⟨rfl,hin⟩:=hI;unfold AGe;dsimp only;rw [ACt];obtain ⟨q,hq⟩:∃ q,k + 1 + i=q:=⟨_,rfl⟩;rw [hq] at hin ⊢;refine AB7 (fun h3=>?_) (fun h3=>ABn ?_)
        ·have hqn:q < n:=by omega
         rw [wk (by omega)];refine ABs (AC3 (fun j s=>s=(((k + 1 + j:Nat):Int),tab n n (bF k G2 last q (k + 1 + j)))/\k + 1 + j<=n) (n - (k + 1)) (Q:=(· =tab n n (bF k G2 last q n))) ⟨by simp,by omega⟩ (by omega) fun j s hj hJ=>?_) fun a4 Ai=>ABn ?_
         ·obtain ⟨rfl,hjn⟩:=hJ;unfold AGd;dsimp only;rw [ACt];obtain ⟨c,hc⟩:∃ c,k + 1 + j=c:=⟨_,rfl⟩;rw [hc] at hjn ⊢;refine AB7 (fun h4=>?_) (fun h4=>ABn ?_)
          ·have hcn:c < n:=by omega
           refine ACj (ACv hqn) rfl (ACj (ACv hk') rfl (ACj (ACk hk') rfl (ACj (ACk hcn) rfl ?_)));rw [Aab,Am9];refine ABs (AC1 (Ae1 (habs _ _ (by omega) (by omega) (by omega) (by omega)) (habs _ _ (by omega) (by omega) (by omega) (by omega)))) fun x1 Aj=>ACj (ACk hk') rfl (ACj (ACk hcn) rfl ?_);subst Aj;rw [Am8,Aab];refine ABs (AC1 (Ae1 (habs _ _ (by omega) (by omega) (by omega) (by omega)) (habs _ _ (by omega) (by omega) (by omega) (by omega)))) fun x2 Ak=>?_;subst Ak;refine ABs (Q:=(· =G2 k k * G2 q c - G2 q k * G2 k c)) ⟨_,if_pos ⟨Ae2 (habs _ _ (by omega) (by omega) (by omega) (by omega)) (habs _ _ (by omega) (by omega) (by omega) (by omega)),Ae2 (habs _ _ (by omega) (by omega) (by omega) (by omega)) (habs _ _ (by omega) (by omega) (by omega) (by omega))⟩,rfl⟩ fun x3 Am=>?_
           ·subst Am;refine ABs (Q:=(· =bQ k G2 last q c)) ?_ fun x4 Ao=>ABn ⟨by omega,?_,by omega⟩
            ·unfold AEp AS4;rw [if_pos ⟨Ap9 (habs _ _ (by omega) (by omega) (by omega) (by omega)) (habs _ _ (by omega) (by omega) (by omega) (by omega)) (habs _ _ (by omega) (by omega) (by omega) (by omega)) (habs _ _ (by omega) (by omega) (by omega) (by omega)),Anb hl',hlast.1⟩];exact ⟨_,rfl,rfl⟩
            ·subst Ao;rw [wk (by omega),AWh,Agv k G2 last (by omega) (by omega)];congr 1
             ·omega
             ·rw [<- Nat.add_assoc,hc]
          ·obtain rfl:c=n:=by omega
           rfl
         ·subst Ai;refine ⟨by omega,?_,by omega⟩;rw [wk (by omega)];congr 1
          ·omega
          ·refine AVf fun r c hr hc=>?_;rw [Agu k n G2 last q hc,<- Nat.add_assoc,hq]
        ·obtain rfl:q=n:=by omega
         rfl
       ·subst Ah;refine ACj (ACv hk') rfl (ACj (ACk hk') rfl (ABn ⟨_,rfl,?_⟩));rw [Aab];exact Abw Af hk' hne
   ·match ex,hex with
    | .inl e,hex=>exact ABn hex
    | .inr (neg',a',last'),hex=>
      obtain ⟨G',rfl,hB'⟩:=hex
      exact ABn ⟨hk',G',last',neg',by rw [wk (by omega)];rfl,hB'⟩
  ·obtain rfl:k=n:=by omega
   exact Aez hB
 ·match ex,hex with
  | .inl e,hex=>exact ABn hex
  | .inr (neg,last),hex=>
    dsimp only at hex ⊢
    rw [hex]
    refine AB7 (fun h=>ABs (AC1 (a:= -last) rfl) fun x hx=>ABn ?_) (fun h=>ABn ?_)
    · rw [hx,h];rfl
    · rw [if_neg h]
theorem AYi {a b D:Nat} (hG:2 * (D * D) < AFa) (ha:a<=D) (hb:b<=D):a * b < AFa:=by
 have:=Nat.mul_le_mul ha hb;omega
theorem Aqa {a D:Nat} (hG:2 * (D * D) < AFa) (ha:a<=D):a < AFa:=by
 rcases Nat.eq_zero_or_pos D with h | h
 ·subst h;have:0 < AFa:=by decide
  omega
 ·have h2:=Nat.mul_le_mul h (Nat.le_refl D);omega
theorem AXy {fuel D:Nat} {a b:Int} (hG:2 * (D * D) < AFa) (ha:a.natAbs<=D) (hb:b.natAbs<=D):ARl fuel a b=some (a * b):=if_pos (AYi hG ha hb)
theorem Abz {D:Nat} {a b:Int} (hG:2 * (D * D) < AFa) (ha:a.natAbs<=D) (hb:b.natAbs<=D):(a * b).natAbs < AFa:=by rw [Int.natAbs_mul];exact AYi hG ha hb
theorem Ane {D:Nat} {a b c d:Int} (hG:2 * (D * D) < AFa) (ha:a.natAbs<=D) (hb:b.natAbs<=D) (hc:c.natAbs<=D) (hd:d.natAbs<=D):(a * b - c * d).natAbs < AFa:=by
 have h1:=Nat.mul_le_mul ha hb;have h2:=Nat.mul_le_mul hc hd;rw [<- Int.natAbs_mul] at h1 h2;omega
theorem Aqb {fuel n M N:Nat} {F:Nat->Nat->Int} (hM:1<=M) (hG:2 * (dBd M (N + 1) * dBd M (N + 1)) < AFa) (hnN:n<=N) (hn:n<=16) (hb:∀ i j,(F i j).natAbs<=M) (hf:17 < fuel):AC7 fuel (tab n n F)=some (det n F):=by
 apply ok_eq;unfold AC7;refine ABs (AC1 (Ac9 (by rw [ACt];omega) (fun z hz=>by rw [AWt z hz];omega) (by rw [ACt];omega))) fun A hA=>?_;subst hA;refine ABs (Q:=(· =1)) ⟨1,if_pos (by omega),rfl⟩ fun one h1=>?_;subst h1;have hD:dBd M n<=dBd M (N + 1):=APj hM (by omega);have Ap:dBd M (n + 1)<=dBd M (N + 1):=APj hM (by omega);refine ABs (AC3 (fun k s=> ∃ G last neg,s=(neg,((k:Int),tab n n G,last))/\AVw M F n k G last neg) n (Q:=fun ex=>match ex with | .inl e=>e=det n F | .inr (neg,last)=>det n F=if neg then -last else last) ⟨F,1,false,rfl,AZ9 hb⟩ (by omega) fun k s hk hI=>?_) fun ex hex=>?_
 ·obtain ⟨G,last,neg,rfl,hB⟩:=hI;unfold AGf;dsimp only;rw [ACt];refine AB7 (fun h=>?_) (fun h=>ABn ?_)
  ·have hk':k < n:=by omega
   refine ABs (Q:=fun ex=>match ex with | .inl e=>e=det n F | .inr (neg',a',last')=> ∃ G',a'=tab n n G'/\AVw M F n (k + 1) G' last' neg') ?_ fun ex hex=>?_
   ·refine ABs (Q:=fun (e:Int)=> ∃ p:Nat,e=p/\k<=p/\p<=n/\(∀ i,k<=i->i < p->G i k=0)/\(p < n->G p k≠0)) (ABs (AC3 (fun j (s:Int)=>s=((k + j:Nat):Int)/\k + j<=n/\ ∀ i,k<=i->i < k + j->G i k=0) (n - k) (Q:=fun (e:Int)=> ∃ p:Nat,e=p/\k<=p/\p<=n/\(∀ i,k<=i->i < p->G i k=0)/\(p < n->G p k≠0)) ⟨rfl,by omega,fun i h1 h2=>by omega⟩ (by omega) fun j s hj hJ=>?_) fun e he=>ABn he) fun e he=>?_
    ·obtain ⟨rfl,hjn,hz⟩:=hJ;unfold AGc;rw [ACt];refine ABs (Q:=fun ex=>match ex with | .inl _=>k + j < n/\G (k + j) k=0 | .inr _=>k + j < n->G (k + j) k≠0) (AB7 (fun h2=>ACj (ACv (by omega)) rfl (ACj (ACk (by omega)) rfl (ABs (AC1 (a:=AG8 (G (k + j) k)) rfl) fun sg hsg=>AB7 (fun h3=>ABn ⟨by omega,?_⟩) fun h3=>ABn fun _=>?_))) fun h2=>ABn fun h3=>by omega) fun ex hex=>?_
     ·subst hsg;exact AXa.1 h3
     ·subst hsg;exact fun h4=>h3 (AXa.2 h4)
     ·cases ex with
      | inl u=>exact ABn ⟨by omega,by rw [wk (by omega)];omega,by omega,fun i h1 h2=>by
          rcases Nat.lt_or_ge i (k + j) with h3 | h3
          · exact hz i h1 h3
          · obtain rfl:i=k + j:=by omega
            exact hex.2⟩
      | inr u=>exact ABn ⟨k + j,rfl,by omega,hjn,hz,hex⟩
    ·obtain ⟨p,rfl,hkp,hpn,hz,hp⟩:=he;refine AB7 (fun h2=>ABn ?_) (fun h2=>?_)
     ·obtain rfl:p=n:=by omega
      exact (Abx hB hk' hz).symm
     ·have hp':p < n:=by omega
      refine ABs (Q:=fun (r:Bool × List (List Int))=> ∃ G',r.2=tab n n G'/\AVw M F n k G' last r.1/\G' k k≠0) (AB7 (fun h3=>ACj (ACv (by omega)) rfl (ACj (ACv (by omega)) rfl (ABn ⟨AHe G p k,?_,Abv hB (by omega) hp',?_⟩))) fun h3=>ABn ⟨G,rfl,hB,?_⟩) fun r hr=>?_
      ·dsimp only;rw [ADw,ADw];show ((tab n n G).set p (AEl n (G k))).set k (AEl n (G p))=_;rw [show AEl n (G k)=(List.range n).map (G k) from rfl,show AEl n (G p)=(List.range n).map (G p) from rfl,ALn,ALn];rfl
      ·rw [ALw,if_pos rfl];exact hp hp'
      ·obtain rfl:p=k:=by omega
       exact hp hp'
      ·obtain ⟨Aq,a2⟩:=r;obtain ⟨G2,Ag,Af,hne⟩:=hr;dsimp only at Ag Af ⊢;subst Ag;have hlast:=Aby hM Af (by omega);have habs:∀ i j,k<=i->i < n->k<=j->j < n->(G2 i j).natAbs<=dBd M (N + 1):=fun i j h1 h2 h3 h4=>Nat.le_trans (Ae0 hM Af hk' h1 h2 h3 h4).1 hD;have hl':last.natAbs<=dBd M (N + 1):=Nat.le_trans hlast.2 hD;rw [wk (by omega)];refine ABs (AC3 (fun i s=>s=(((k + 1 + i:Nat):Int),tab n n (bF k G2 last (k + 1 + i) (k + 1)))/\k + 1 + i<=n) (n - (k + 1)) (Q:=(· =tab n n (bF k G2 last n (k + 1)))) ⟨by rw [Nat.add_zero,Aaa];simp,by omega⟩ (by omega) fun i s hi hI=>?_) fun a3 Ah=>?_
       ·obtain ⟨rfl,hin⟩:=hI;unfold AGe;dsimp only;rw [ACt];obtain ⟨q,hq⟩:∃ q,k + 1 + i=q:=⟨_,rfl⟩;rw [hq] at hin ⊢;refine AB7 (fun h3=>?_) (fun h3=>ABn ?_)
        ·have hqn:q < n:=by omega
         rw [wk (by omega)];refine ABs (AC3 (fun j s=>s=(((k + 1 + j:Nat):Int),tab n n (bF k G2 last q (k + 1 + j)))/\k + 1 + j<=n) (n - (k + 1)) (Q:=(· =tab n n (bF k G2 last q n))) ⟨by simp,by omega⟩ (by omega) fun j s hj hJ=>?_) fun a4 Ai=>ABn ?_
         ·obtain ⟨rfl,hjn⟩:=hJ;unfold AGd;dsimp only;rw [ACt];obtain ⟨c,hc⟩:∃ c,k + 1 + j=c:=⟨_,rfl⟩;rw [hc] at hjn ⊢;refine AB7 (fun h4=>?_) (fun h4=>ABn ?_)
          ·have hcn:c < n:=by omega
           refine ACj (ACv hqn) rfl (ACj (ACv hk') rfl (ACj (ACk hk') rfl (ACj (ACk hcn) rfl ?_)));rw [Aab,Am9];refine ABs (AC1 (AXy hG (habs _ _ (by omega) (by omega) (by omega) (by omega)) (habs _ _ (by omega) (by omega) (by omega) (by omega)))) fun x1 Aj=>ACj (ACk hk') rfl (ACj (ACk hcn) rfl ?_);subst Aj;rw [Am8,Aab];refine ABs (AC1 (AXy hG (habs _ _ (by omega) (by omega) (by omega) (by omega)) (habs _ _ (by omega) (by omega) (by omega) (by omega)))) fun x2 Ak=>?_;subst Ak;refine ABs (Q:=(· =G2 k k * G2 q c - G2 q k * G2 k c)) ⟨_,if_pos ⟨Abz hG (habs _ _ (by omega) (by omega) (by omega) (by omega)) (habs _ _ (by omega) (by omega) (by omega) (by omega)),Abz hG (habs _ _ (by omega) (by omega) (by omega) (by omega)) (habs _ _ (by omega) (by omega) (by omega) (by omega))⟩,rfl⟩ fun x3 Am=>?_
           ·subst Am;refine ABs (Q:=(· =bQ k G2 last q c)) ?_ fun x4 Ao=>ABn ⟨by omega,?_,by omega⟩
            ·unfold AEp AS4;rw [if_pos ⟨Ane hG (habs _ _ (by omega) (by omega) (by omega) (by omega)) (habs _ _ (by omega) (by omega) (by omega) (by omega)) (habs _ _ (by omega) (by omega) (by omega) (by omega)) (habs _ _ (by omega) (by omega) (by omega) (by omega)),Aqa hG hl',hlast.1⟩];exact ⟨_,rfl,rfl⟩
            ·subst Ao;rw [wk (by omega),AWh,Agv k G2 last (by omega) (by omega)];congr 1
             ·omega
             ·rw [<- Nat.add_assoc,hc]
          ·obtain rfl:c=n:=by omega
           rfl
         ·subst Ai;refine ⟨by omega,?_,by omega⟩;rw [wk (by omega)];congr 1
          ·omega
          ·refine AVf fun r c hr hc=>?_;rw [Agu k n G2 last q hc,<- Nat.add_assoc,hq]
        ·obtain rfl:q=n:=by omega
         rfl
       ·subst Ah;refine ACj (ACv hk') rfl (ACj (ACk hk') rfl (ABn ⟨_,rfl,?_⟩));rw [Aab];exact Abw Af hk' hne
   ·match ex,hex with
    | .inl e,hex=>exact ABn hex
    | .inr (neg',a',last'),hex=>
      obtain ⟨G',rfl,hB'⟩:=hex
      exact ABn ⟨hk',G',last',neg',by rw [wk (by omega)];rfl,hB'⟩
  ·obtain rfl:k=n:=by omega
   exact Aez hB
 ·match ex,hex with
  | .inl e,hex=>exact ABn hex
  | .inr (neg,last),hex=>
    dsimp only at hex ⊢
    rw [hex]
    refine AB7 (fun h=>ABs (AC1 (a:= -last) rfl) fun x hx=>ABn ?_) (fun h=>ABn ?_)
    · rw [hx,h];rfl
    · rw [if_neg h]
def AH6:Nat:=2 ^ 100
theorem Aie:2 * (dBd AH6 (8 + 1) * dBd AH6 (8 + 1)) < AFa:=by decide
theorem AXb {fuel n:Nat} {F:Nat->Nat->Int} (hn:n<=8) (hb:∀ i j,i < n->j < n->(F i j).natAbs<=AH6) (hf:17 < fuel):AC7 fuel (tab n n F)=some (det n F):=by
 have e1:tab n n F=tab n n fun i j=>if i < n/\j < n then F i j else 0:=by
   rw [AQa,AQa]
   exact ADl fun i hi=>ADl fun j hj=>by rw [if_pos ⟨hi,hj⟩]
 have e2:det n F=det n fun i j=>if i < n/\j < n then F i j else 0:=AD6 fun i j hi hj=>by rw [if_pos ⟨hi,hj⟩]
 rw [e1,e2];refine Aqb (by decide) Aie hn (by omega) (fun i j=>?_) hf;split
 ·next h=>exact hb i j h.1 h.2
 ·exact Nat.zero_le _
theorem Aqc:FdT Tryz.prog 25 0 0 5:=⟨_,_,Tryz.underlying25,rfl,rfl,rfl⟩
theorem Aqd:FdT Tryz.prog 25 1 1 5:=⟨_,_,Tryz.underlying25,rfl,rfl,rfl⟩
theorem Aqe:FdT Tryz.prog 25 2 2 23:=⟨_,_,Tryz.underlying25,rfl,rfl,rfl⟩
theorem Anf:AgT Tryz.prog 25 4:=AV7 Tryz.underlying25 rfl (by kernel_rfl)
end Go.Proofs.YtdnbklmefmoofaaGreatDoor
