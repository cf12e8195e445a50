/-
  Texts of a proof, joined. Conditions stand in each statement.
-/
import Derived.Test.YtdnbklmefmoofaaGreatDoorMJordanRaw2
set_option linter.unusedVariables false
set_option linter.unusedSimpArgs false
namespace Go.Proofs.YtdnbklmefmoofaaGreatDoor
open Go Go.QF
set_option maxRecDepth 100000
set_option maxHeartbeats 4000000
abbrev LnN:=List (List Nat)
abbrev LnA:=List Nat
abbrev LvA:=List Value
abbrev LiI:=List (List Int)
abbrev LiA:=List Int
theorem ABo {α:Type _} {a b:α} (h:some a=some b):a=b:=Option.some.inj h
theorem tt2 {α:Sort _} {β:α->Sort _}:∀ x,β x->True:=fun _ _=>trivial
def AEm (fuel:Nat) (a1 a5:Int):Option Int:=
  ((AS3 fuel a1 a5).bind fun (Ac,Ad,Ae)=>(some Ac))
theorem AJe {fuel:Nat} {h:ABu} {Ag:Value} {a1:Int} {Ai:Value} {a5 r:Int} (H3:ZZ h Ag a1) (H7:ZZ h Ai a5) (hp:AEm fuel a1 a5=some r):ACn Tryz.prog 125 #[Ag,Ai] h (fun x h'=>Ext h h'/\ ∃ (x0:Value),x=x0/\ZZ h' x0 r):=by
 unfold AEm at hp;obtain ⟨Am,rfl,Ao⟩:=H3.cs;obtain ⟨Ap,rfl,Aq⟩:=H7.cs;refine cwf (l:=[_,_]) Tryz.func125 rfl rfl (ABp (AGo Am trivial tt2 rfl rfl fun b9 Bz Aw Ax Ay=>AGo Ap trivial tt2 rfl rfl fun B1 B3 Az A3 A4=>ADi [.bool false,.slice none 0 0] AGk rfl trivial tt2 fun B4 B5 A5 A6 A7=>AK0 ?_));have Aa:=(((Kst.k0 h).nb Ax Ay Aw).nb A3 A4 Az).nb A6 A7 A5;refine AEu Am ACf (cZ.klen (Aa.zx Ao)) rfl (Aa.b p2).agg (AEu Ap ACf (cZ.klen (Aa.zx Aq)) rfl (Aa.b p1).agg ?_);obtain ⟨⟨B6,B7,B8⟩,A8,Ar⟩:=ABq hp;dsimp only at Ar;refine ADb rfl (Abp (Aa.zx Ao).2 (Aa.zx Aq).2 A8) fun B9 Ca A9 Ba=>?_;obtain ⟨Cb,Cd,rfl,Bb,Bc⟩:=Ba;obtain ⟨Af,rfl,Be⟩:=Bb.cs;obtain ⟨Bf,rfl,Bg⟩:=Bc.cs;refine Wo (ADm rfl rfl (ADm rfl rfl (ADm rfl rfl (ADi [.bool false,.slice none 0 0] AGk rfl trivial tt2 fun Ce Cf Bh Bi Bj=>ADi [.bool false,.slice none 0 0] AGk rfl trivial tt2 fun Cg Bl Bm Bn Bo=>?_))));have Ac:=((((Aa.e A9).az Be).az Bg).nb Bi Bj Bh).nb Bn Bo Bm;refine AC7 Af ACf (cZ.klen (Ac.z p3)) (cZ.klen (AB9 Bl)) rfl rfl (cZ.one (Ac.z p3)) (Ac.b p1) fun Bp Bq Br=>?_;have Ad:=Ac.sb p1 Br Bq rfl;refine AC7 Bf ACf (cZ.klen (Ad.z p2)) (cZ.klen (AB9 Bp)) rfl rfl (cZ.one (Ad.z p2)) (Ad.b p0) fun Bt Bu Bv=>AC1 ?_;have Ab:=Ad.sb p0 Bv Bu rfl;refine AEu Af ACf (cZ.klen (Ab.z p3)) rfl (Ab.b p1).agg (AC7 Af ACf (cZ.klen (Ab.z p3)) (cZ.klen (AB9 Bt)) rfl rfl (cZ.one (Ab.z p3)) (Ab.b p4) fun Ch Bw Bx=>ABt (ABx ?_));have Ae:=Ab.sb p4 Bx Bw rfl;obtain rfl:=ABo Ar;exact ⟨_,AEe ACf (cZ.klen (Ae.z p3)) rfl (Ae.b p4),Ae.x,_,rfl,(Ae.z p3).2⟩
def AFn (fuel:Nat) (a1 a5:Int):Option Int:=
  ((AS3 fuel a1 a5).bind fun (Ad,Ac,Ae)=>(some Ac))
theorem AO7 {fuel:Nat} {h:ABu} {Ag:Value} {a1:Int} {Ai:Value} {a5 r:Int} (H3:ZZ h Ag a1) (H7:ZZ h Ai a5) (hp:AFn fuel a1 a5=some r):ACn Tryz.prog 141 #[Ag,Ai] h (fun x h'=>Ext h h'/\ ∃ (x0:Value),x=x0/\ZZ h' x0 r):=by
 unfold AFn at hp;obtain ⟨Am,rfl,Ao⟩:=H3.cs;obtain ⟨Ap,rfl,Aq⟩:=H7.cs;refine cwf (l:=[_,_]) Tryz.func141 rfl rfl (ABp (AGo Am trivial tt2 rfl rfl fun b9 Bz Aw Ax Ay=>AGo Ap trivial tt2 rfl rfl fun B1 B3 Az A3 A4=>ADi [.bool false,.slice none 0 0] AGk rfl trivial tt2 fun B4 B5 A5 A6 A7=>AK0 ?_));have Aa:=(((Kst.k0 h).nb Ax Ay Aw).nb A3 A4 Az).nb A6 A7 A5;refine AEu Am ACf (cZ.klen (Aa.zx Ao)) rfl (Aa.b p2).agg (AEu Ap ACf (cZ.klen (Aa.zx Aq)) rfl (Aa.b p1).agg ?_);obtain ⟨⟨B6,B7,B8⟩,A8,Ar⟩:=ABq hp;dsimp only at Ar;refine ADb rfl (Abp (Aa.zx Ao).2 (Aa.zx Aq).2 A8) fun B9 Ca A9 Ba=>?_;obtain ⟨Cb,Cd,rfl,Bb,Bc⟩:=Ba;obtain ⟨Be,rfl,Bf⟩:=Bb.cs;obtain ⟨Af,rfl,Bg⟩:=Bc.cs;refine Wo (ADm rfl rfl (ADm rfl rfl (ADm rfl rfl (ADi [.bool false,.slice none 0 0] AGk rfl trivial tt2 fun Ce Cf Bh Bi Bj=>ADi [.bool false,.slice none 0 0] AGk rfl trivial tt2 fun Cg Bl Bm Bn Bo=>?_))));have Ac:=((((Aa.e A9).az Bf).az Bg).nb Bi Bj Bh).nb Bn Bo Bm;refine AC7 Be ACf (cZ.klen (Ac.z p3)) (cZ.klen (AB9 Bl)) rfl rfl (cZ.one (Ac.z p3)) (Ac.b p1) fun Bp Bq Br=>?_;have Ad:=Ac.sb p1 Br Bq rfl;refine AC7 Af ACf (cZ.klen (Ad.z p2)) (cZ.klen (AB9 Bp)) rfl rfl (cZ.one (Ad.z p2)) (Ad.b p0) fun Bt Bu Bv=>AC1 ?_;have Ab:=Ad.sb p0 Bv Bu rfl;refine AEu Af ACf (cZ.klen (Ab.z p2)) rfl (Ab.b p0).agg (AC7 Af ACf (cZ.klen (Ab.z p2)) (cZ.klen (AB9 Bt)) rfl rfl (cZ.one (Ab.z p2)) (Ab.b p4) fun Ch Bw Bx=>ABt (ABx ?_));have Ae:=Ab.sb p4 Bx Bw rfl;obtain rfl:=ABo Ar;exact ⟨_,AEe ACf (cZ.klen (Ae.z p2)) rfl (Ae.b p4),Ae.x,_,rfl,(Ae.z p2).2⟩
def ALm (fuel:Nat) (a1 a2 Aa:Int) (Ac:LiI):Option ((Int × LiI) ⊕ ((LiI))):=
  (if Aa < ((List.replicate (Int.toNat a1) ([]:List Int)).length:Int) then (if 0<=a2/\a2<=100000000 then ((gI Ac Aa).bind fun Ae=>(some (Sum.inl ((w64 (Aa + 1)),(sI Ac Aa (List.replicate (Int.toNat a2) (0:Int))))))) else none) else (some (Sum.inr<| Ac)))
def AE4 (fuel:Nat) (a1 a2:Int):Option LiI:=
  (if 0<=a1/\a1<=100000000 then ((iter (fun s=>ALm fuel a1 a2 s.1 s.2) fuel (0,(List.replicate (Int.toNat a1) ([]:List Int)))).bind (fun (Ac:LiI)=>(some Ac))) else none)
theorem AIt {fuel:Nat} {h:ABu} {a1 a2:Int} {r:LiI} (hp:AE4 fuel a1 a2=some r):ACn Tryz.prog 76 #[(.int .i64 a1),(.int .i64 a2)] h (fun x h'=>Ext h h'/\ ∃ (x0:Value) (F0:List Nat) (Ar:List LnA) (Au:List Value),x=x0/\AFf cZ 100 90 h' F0 Ar Au x0 r/\Sp h' h.size [F0]):=by
 unfold AE4 at hp;refine cwf (l:=[_,_]) Tryz.func76 rfl rfl (ABp (AC1 (Wo ?_)));obtain ⟨Av,Aw⟩:=ifN hp;refine ASb cZ 90 ADt Aei rfl trivial tt2 rfl rfl (by decide) Av fun Ax Ay Az v9 h7 I8 E5 S6=>ABv (ABr (ABp (Wo ?_)));have Ag:=(Kst.k0 h).no2 E5 S6 I8;refine ADa ADt rfl (Ag.o2 p0).rd (Wo (ABt (ABw ?_)));obtain ⟨Am,A7,A8⟩:=ABq Aw;obtain ⟨A9,Ba,Bb⟩:=ACe A7;refine ACq 1046592 (fun x:(Int) × (LiI) × LnA × LnN × LvA=>[(11,(.int .i64 x.1))]) (fun k x h'=>iter A9 k (x.1,x.2.1)=some Am/\Kst h h' (Ag.L.set 0 (aO2 cZ 100 90 x.2.2.1 x.2.2.2.1 x.2.2.2.2 v9 x.2.1))) (by kernel_rfl) fuel ((0,(List.replicate (Int.toNat a1) ([]:List Int)),Ax,Ay,Az):(Int) × (LiI) × LnA × LnN × LvA) ?_ ⟨rfl,trivial⟩ ?_
 ·exact ⟨Bb,Ag⟩
 rintro Bx ⟨Aa,Bc,By,Ao,Be⟩ Bz B1 ⟨Bf,Ad⟩;obtain ⟨Bg,B3,rfl,Ab,Ah⟩:=AB7 Bf;rw [Ba] at Ab;dsimp only at Ab;unfold ALm at Ab;refine ABp (ACu rfl rfl (ABt (ABr (⟨_,rfl,fun Ai=>?_,fun Ai=>?_⟩))))
 ·refine ABy (q_t (ABr (ABw (ABp (Wo (ABv (AB5 (Wo (Wo (Wo ?_))))))))));obtain ⟨Bh,Bi⟩:=ifN (AC8 Ab Ai);refine Aga AEv AGk rfl trivial tt2 rfl rfl (by decide) Bh fun Ap Bj B4 Bl Bm Bn Bo=>?_;have Ac:=Ad.no Bm (AIj Bn Bo) Bl;obtain ⟨B5,Aq,Bp⟩:=ABq Bi;refine ADl ADt rfl (Ac.o2 p1) rfl Aq fun Bq B6 Br B7 B8=>AS0 AFm (Ac.o2 p1) Aq Br rfl rfl (Ac.o p0) (Ac.dj p0 p1 (by decide)) fun B9 Bt Bu Bv=>ACr (q_b (q_t (AB5 (ACz rfl rfl (Wo (ABt ?_))))));obtain rfl:=ABo Bp;exact ⟨Bg,(((w64 (Aa + 1)),(sI Bc Aa (List.replicate (Int.toNat a2) (0:Int))),(Bq :: (Ao.set (Int.toNat Aa) [Ap]).flatten),(Ao.set (Int.toNat Aa) [Ap]),(Be.set (Int.toNat Aa) Bj)):(Int) × (LiI) × LnA × LnN × LvA),Nat.lt_succ_self _,⟨Ah,(Ac.m2 p0 p1 (by decide) Bu Bt (fun z hz=> .inl (Bv z hz))).sel [1] (by decide)⟩,rfl,trivial⟩
 ·obtain rfl:=ABo (AC9 Ab Ai);change _=Am at Ah;subst Ah;refine ACh (ACj (ACj (ADo (q_t (ABp (Wo (ABv (ABx ?_))))))));obtain rfl:=ABo A8;exact ⟨_,ABz,Ad.x,_,_,_,_,rfl,(Ad.o2 p0),Ad.s.sel [0] (by decide)⟩
def AJf (fuel:Nat) (a3:LiI) (Ab:Int) (Af:LiA) (Aa:Int) (Ac:LiI):Option ((Int × LiI) ⊕ ((LiI))):=
  (if Aa < (Af.length:Int) then ((gI Ac Ab).bind fun Ad=>((gI a3 Ab).bind fun Ag=>((gI Ag Aa).bind fun Ah=>((ALf fuel Ah).bind fun Ai=>((gI Ad Aa).bind fun Aj=>(some (Sum.inl ((w64 (Aa + 1)),(sI Ac Ab (sI Ad Aa Ai)))))))))) else (some (Sum.inr<| Ac)))
def AJg (fuel:Nat) (a3:LiI) (Aa:Int) (Ac:LiI):Option ((Int × LiI) ⊕ ((LiI))):=
  (if Aa < (a3.length:Int) then ((gI a3 Aa).bind fun Ad=>((iter (fun s=>AJf fuel a3 Aa Ad s.1 s.2) fuel (0,Ac)).bind (fun (Ae:LiI)=>(some (Sum.inl ((w64 (Aa + 1)),Ae)))))) else (some (Sum.inr<| Ac)))
def AJh (fuel:Nat) (a3:LiI) (Ab:Int):Option ((Int) ⊕ (((LiI × Bool)) ⊕ (Unit))):=
  (if Ab < (a3.length:Int) then ((gI a3 Ab).bind fun Ac=>(if (Ac.length:Int) < 1 then (some (Sum.inr<| Sum.inl <| ([],false))) else (if 16 < (Ac.length:Int) then (some (Sum.inr<| Sum.inl <| ([],false))) else ((gI a3 0).bind fun Ad=>(if ¬ (Ac.length:Int)=(Ad.length:Int) then (some (Sum.inr<| Sum.inl <| ([],false))) else (some (Sum.inl (w64 (Ab + 1))))))))) else (some (Sum.inr<| Sum.inr <| ())))
def AD4 (fuel:Nat) (a3:LiI):Option (LiI × Bool):=
  (((if (a3.length:Int) < 1 then (some (Sum.inl <| ([],false))) else (if 16 < (a3.length:Int) then (some (Sum.inl <| ([],false))) else (some (Sum.inr <| ())))):Option (((LiI × Bool)) ⊕ (Unit))).bind (fun ex=>match ex with | Sum.inl Ab=>(some Ab) | Sum.inr (_)=>((iter (fun s=>AJh fuel a3 s) fuel 0).bind (fun ex=>match ex with | Sum.inl Ac=>(some Ac) | Sum.inr (_)=>((gI a3 0).bind fun Ad=>((AE4 fuel (a3.length:Int) (Ad.length:Int)).bind fun Ae=>((iter (fun s=>AJg fuel a3 s.1 s.2) fuel (0,Ae)).bind (fun (Af:LiI)=>(some (Af,true))))))))))
theorem AM4 {fuel:Nat} {h:ABu} {Bg:Value} {a3:LiI} {r:(LiI × Bool)} (H2:AEq (cI .i64) h Bg a3) (hp:AD4 fuel a3=some r):ACn Tryz.prog 43 #[Bg] h (fun x h'=>Ext h h'/\ ∃ (x0:Value) (F0:List Nat) (B4:List LnA) (B5:List Value),x= .tuple #[x0,.bool r.2]/\AFf cZ 100 90 h' F0 B4 B5 x0 r.1/\Sp h' h.size [F0]):=by
 unfold AD4 at hp;refine cwf (l:=[_]) Tryz.func43 rfl rfl (ABp (ACk (ABv ?_)));have K0:=Kst.k0 h;obtain ⟨B6,Bj,Aw⟩:=ABq hp;refine ALi 130572 (fun x:Unit=>[]) (fun x h'=>(Sum.inr <| ())=B6/\Kst h h' (K0.L)) ?_ ?_
 ·refine ABp (Wo (ADa ACi rfl H2 (ACu rfl rfl (Wo ?_))));by_cases Ao:(a3.length:Int) < 1
  ·rw [decide_eq_true Ao];refine AE2 12 true (AB2 rfl (ABt (ACd rfl (ABp (ACk (ABv ?_))))));obtain rfl:=ABo (ifT Bj Ao);refine ABx (AB4 ?_);have Ax:=Kst.anil2 cZ 100 90 K0;obtain rfl:=ABo Aw;exact ⟨_,ADj,Ax.x,_,_,_,_,rfl,(Ax.o2 p0),Ax.s.sel [0] (by decide)⟩
  ·have Bl:=ifF Bj Ao;rw [decide_eq_false Ao];refine AB3 12 false (Wo (AB3 12 false (ADa ACi rfl H2 (AB3 12 false (AGz rfl rfl (AB0 rfl (ABt (⟨_,rfl,fun Ay=>?_,fun Ay=>?_⟩))))))))
   ·refine ABp (ACk (ABv ?_));obtain rfl:=ABo (AC8 Bl Ay);refine ABx (AB4 ?_);have Az:=Kst.anil2 cZ 100 90 K0;obtain rfl:=ABo Aw;exact ⟨_,ADj,Az.x,_,_,_,_,rfl,(Az.o2 p0),Az.s.sel [0] (by decide)⟩
   ·refine ABy (q_t ?_);exact ⟨(():Unit),⟨ABo (AC9 Bl Ay),K0⟩,trivial⟩
 rintro ⟨⟩ Eb Ec ⟨B7,Bm⟩;subst B7;refine ABr (ABp (Wo (ADa ACi rfl H2 (Wo (ABt (ABw ?_))))));obtain ⟨Af,B8,Ap⟩:=ABq Aw;obtain ⟨B9,Ca,Cb⟩:=ACe B8;refine ACq 2199022731308 (fun x:(Int)=>[(19,(.int .i64 x))]) (fun k x h'=>iter B9 k x=some Af/\Kst h h' (Bm.L)) (by kernel_rfl) fuel (0:(Int)) ?_ ⟨rfl,trivial⟩ ?_
 ·exact ⟨Cb,Bm⟩
 rintro Ed Cd Ee Ef ⟨Ce,Ac⟩;obtain ⟨Cf,Eg,rfl,Ag,Ab⟩:=AB7 Ce;rw [Ca] at Ag;dsimp only at Ag;unfold AJh at Ag;refine ABp (ACu rfl rfl (ABt (ABr (⟨_,rfl,fun A3=>?_,fun A3=>?_⟩))))
 ·refine ABy (q_t (ABr (ABw (ABp ?_))));obtain ⟨Bn,Cg,Bo⟩:=ABq (AC8 Ag A3);refine AFg ACi rfl H2 rfl Cg fun Eh Ei Ej Ch A4=>AB6 AC3 rfl (AB1 Ch Ac.x) (AC1 (Wo (ADh ACs rfl A4 (ACu rfl rfl (Wo ?_)))));by_cases Aq:(Bn.length:Int) < 1
  ·rw [decide_eq_true Aq];refine AE2 26 true (AB2 rfl (Wo (AFe 31 true (AIg 31 true (AB2 rfl (ABt (ACd rfl (ABp (ACk (ABv ?_))))))))));obtain rfl:=ABo (ifT Bo Aq);change _=Af at Ab;subst Ab;refine ABx (ADe (AB4 (AB4 (ADe (AB4 ?_)))));have A5:=Kst.anil2 cZ 100 90 Ac;obtain rfl:=ABo Ap;exact ⟨_,ADj,A5.x,_,_,_,_,rfl,(A5.o2 p0),A5.s.sel [0] (by decide)⟩
  ·have Bp:=ifF Bo Aq;rw [decide_eq_false Aq];refine AB3 26 false (Wo (AB3 26 false (ADh ACs rfl A4 (AB3 26 false (AGz rfl rfl (AB0 rfl (Wo ?_)))))));by_cases Ar:16 < (Bn.length:Int)
   ·rw [decide_eq_true Ar];refine AFe 31 true (AIg 31 true (AB2 rfl (ABt (ACd rfl (ABp (ACk (ABv ?_)))))));obtain rfl:=ABo (ifT Bp Ar);change _=Af at Ab;subst Ab;refine ABx (ADe (AB4 (AB4 (ADe (AB4 ?_)))));have A6:=Kst.anil2 cZ 100 90 Ac;obtain rfl:=ABo Ap;exact ⟨_,ADj,A6.x,_,_,_,_,rfl,(A6.o2 p0),A6.s.sel [0] (by decide)⟩
   ·rw [decide_eq_false Ar];refine AB3 31 false (Wo (AB3 31 false (ADh ACs rfl A4 (AB3 31 false (Wo (AB3 31 false ?_))))));obtain ⟨Ek,Ci,Bq⟩:=ABq (ifF Bp Ar);refine AFg ACi rfl H2 rfl Ci fun El Em En Cj Ck=>AB3 31 false (AB6 AC3 rfl (AB1 Cj Ac.x) (AB3 31 false (ADh ACs rfl Ck (AB3 31 false (AEn rfl rfl (AB0 rfl (ABt (⟨_,rfl,fun A7=>?_,fun A7=>?_⟩))))))))
    ·refine ABp (ACk (ABv ?_));obtain rfl:=ABo (AC8 Bq A7);change _=Af at Ab;subst Ab;refine ABx (ADe (AB4 (AB4 (ADe (AB4 ?_)))));have A8:=Kst.anil2 cZ 100 90 Ac;obtain rfl:=ABo Ap;exact ⟨_,ADj,A8.x,_,_,_,_,rfl,(A8.o2 p0),A8.s.sel [0] (by decide)⟩
    ·refine ABy (q_b (q_t (AB5 (ACz rfl rfl (Wo (ABt ?_))))));obtain rfl:=ABo (AC9 Bq A7);exact ⟨Cf,((w64 (Cd + 1)):(Int)),Nat.lt_succ_self _,⟨Ab,Ac⟩,rfl,trivial⟩
 ·obtain rfl:=ABo (AC9 Ag A3);change _=Af at Ab;subst Ab;refine ACh (ACj (ACj (ADo (q_t (ABp (Wo (ADa ACi rfl H2 (Wo ?_))))))));obtain ⟨Eo,Cm,Cn⟩:=ABq Ap;refine AFg ACi rfl H2 rfl Cm fun Ep Er Es Co Cp=>AB6 AC3 rfl (AB1 Co Ac.x) (ADh ACs rfl Cp ?_);obtain ⟨Cq,Cr,Ct⟩:=ABq Cn;refine ADb rfl (AIt Cr) fun Br Et Cu Cv=>?_;obtain ⟨Eu,Cw,Cx,Cy,rfl,Cz,C0⟩:=Cv;refine ABv (ABr (ABp (Wo (ADa ACi rfl H2 (Wo (ABt (ABw ?_)))))));have Bt:=Ac.no2 Cu C0 Cz;obtain ⟨Bu,C1,C2⟩:=ABq Ct;obtain ⟨C3,C4,C5⟩:=ACe C1;refine ACq 151115726325928739996032 (fun x:(Int) × (LiI) × LnA × LnN × LvA=>[(50,(.int .i64 x.1))]) (fun k x h'=>iter C3 k (x.1,x.2.1)=some Bu/\Kst h h' (Bt.L.set 0 (aO2 cZ 100 90 x.2.2.1 x.2.2.2.1 x.2.2.2.2 Br x.2.1))) (by kernel_rfl) fuel ((0,Cq,Cw,Cx,Cy):(Int) × (LiI) × LnA × LnN × LvA) ?_ ⟨rfl,trivial⟩ ?_
  ·exact ⟨C5,Bt⟩
  rintro Ev ⟨Au,C6,C7,C8,C9⟩ Ew Ey ⟨Da,Ad⟩;obtain ⟨Db,Ez,rfl,Ah,A9⟩:=AB7 Da;rw [C4] at Ah;dsimp only at Ah;unfold AJg at Ah;refine ABp (ACu rfl rfl (ABt (ABr (⟨_,rfl,fun Ba=>?_,fun Ba=>?_⟩))))
  ·refine ABy (q_t (ABr (ABw (ABp (Wo (AC1 (Wo (Wo ?_))))))));obtain ⟨Fa,Dc,Dd⟩:=ABq (AC8 Ah Ba);refine AFg ACi rfl H2 rfl Dc fun Fb Fc Fd De Df=>AB6 AC3 rfl (AB1 De Ad.x) (ADh ACs rfl Df (Wo (ABt (ABw ?_))));obtain ⟨Bv,Dg,Dh⟩:=ABq Dd;obtain ⟨Di,Dj,Dk⟩:=ACe Dg;refine ACq 75557575495538171707648 (fun x:(Int) × (LiI) × LnA × LnN × LvA=>[(58,(.int .i64 x.1))]) (fun k x h'=>iter Di k (x.1,x.2.1)=some Bv/\Kst h h' (Ad.L.set 0 (aO2 cZ 100 90 x.2.2.1 x.2.2.2.1 x.2.2.2.2 Br x.2.1))) (by kernel_rfl) fuel ((0,C6,C7,C8,C9):(Int) × (LiI) × LnA × LnN × LvA) ?_ ⟨rfl,trivial⟩ ?_
   ·exact ⟨Dk,Ad⟩
   rintro Fe ⟨Bw,Bx,By,Bz,B1⟩ Ff Bb ⟨Dl,Ae⟩;obtain ⟨Dn,Fg,rfl,Ai,Bc⟩:=AB7 Dl;rw [Dj] at Ai;dsimp only at Ai;unfold AJf at Ai;refine ABp (ACu rfl rfl (ABt (ABr (⟨_,rfl,fun Be=>?_,fun Be=>?_⟩))))
   ·refine ABy (q_t (ABr (ABw (ABp (Wo (ABv (AEd (fun h'=>UpT [] Bb h') (by kernel_rfl) ?_)))))));have Aj:UpT [] Bb Bb:=UpT.start all_nil;refine Wo (Wo ?_);obtain ⟨Do,Bf,Dp⟩:=ABq (AC8 Ai Be);refine ADl ADt rfl (Ae.o2 p0) rfl Bf fun Fh Fi Fj Dq Dr=>AEt AFm rfl Aj (fun h' hb=>AB1 Dr hb.ext) (Wo (Wo (Wo ?_)));obtain ⟨Fk,Ds,Dt⟩:=ABq Dp;refine AFg ACi rfl H2 rfl Ds fun Fl Fm Fo Du Dv=>AEt AC3 rfl Aj (fun h' hb=>AB1 Du (Ae.x.trans hb.ext)) (Wo ?_);obtain ⟨Fp,Dw,Dx⟩:=ABq Dt;refine AHe (c:=(cI .i64)) ACs rfl Dv rfl Dw fun Fq Fr Ft Dy Dz=>?_;obtain rfl:=Dy;refine AEt ACx rfl Aj (fun h' hb=>AB1 (Dz 0 _ rfl) (Ae.x.trans hb.ext)) ?_;obtain ⟨D0,D1,D2⟩:=ABq Dx;refine ADg Aj (fun _ E=>Aj.thenE E) rfl (AKp D1) fun Fu Fv D3 D4=>?_;obtain ⟨Fw,rfl,D5⟩:=D4;obtain ⟨Fx,rfl,D6⟩:=D5.cs;have Ak:=(Ae.e D3).az D6;obtain ⟨Fy,B3,D7⟩:=ABq D2;refine AD2 (m:=Au) AEv rfl (Ae.o2 p0) Dq Bf rfl B3 fun Fz D8=>AH9 (m:=Au) (ASa ACf (cZ.klen (Ak.z p0)) rfl rfl (cZ.one (Ak.z p0))) (Ak.o2 p1) D8 Bf B3 (Ak.z p0) fun F4 D9 Ea=>ACr (q_b (q_t (AB5 (ACz rfl rfl (Wo (ABt ?_))))));obtain rfl:=ABo D7;exact ⟨Dn,(((w64 (Bw + 1)),(sI Bx Au (sI Do Bw D0)),By,Bz,B1):(Int) × (LiI) × LnA × LnN × LvA),Nat.lt_succ_self _,⟨Bc,(Ak.uO2 p1 Ea D9).sel [1] (by decide)⟩,rfl,trivial⟩
   ·obtain rfl:=ABo (AC9 Ai Be);change _=Bv at Bc;subst Bc;refine ACh (ACj (ACj (ADo (q_b (q_t (AB5 (ACz rfl rfl (Wo (ABt ?_)))))))));obtain rfl:=ABo Dh;exact ⟨Db,(((w64 (Au + 1)),Bx,By,Bz,B1):(Int) × (LiI) × LnA × LnN × LvA),Nat.lt_succ_self _,⟨A9,Ae⟩,rfl,trivial⟩
  ·obtain rfl:=ABo (AC9 Ah Ba);change _=Bu at A9;subst A9;refine ACh (ACj (ACj (ADo (q_t (ABp (Wo (ACk (ABv (ABx ?_)))))))));obtain rfl:=ABo C2;exact ⟨_,ADj,Ad.x,_,_,_,_,rfl,(Ad.o2 p0),Ad.s.sel [0] (by decide)⟩
def AE9 (fuel:Nat) (a3:LiI):Option LiI:=
  ((AD4 fuel a3).bind fun (x5,x6)=>(some x5))
theorem AJ3 {fuel:Nat} {h:ABu} {Ab:Value} {a3 r:LiI} (H2:AEq (cI .i64) h Ab a3) (hp:AE9 fuel a3=some r):ACn Tryz.prog 18 #[Ab] h (fun x h'=>Ext h h'/\ ∃ (x0:Value) (F0:List Nat) (Ai:List LnA) (Aj:List Value),x=x0/\AFf cZ 100 90 h' F0 Ai Aj x0 r/\Sp h' h.size [F0]):=by
 unfold AE9 at hp;refine cwf (l:=[_]) Tryz.func18 rfl rfl (ABp (AC1 (Wo ?_)));have K0:=Kst.k0 h;obtain ⟨⟨x5,x6⟩,Ak,Ag⟩:=ABq hp;dsimp only at Ag;refine ADb rfl (AM4 (H2.ext K0.x) Ak) fun Av Aw E9 Ao=>?_;obtain ⟨Ax,Ay,Az,A3,rfl,Ap,Aq⟩:=Ao;refine Wo (ADm rfl rfl (ADm rfl rfl (ACk (AC1 (Wo (ABv (ABx ?_)))))));have Aa:=K0.no2 E9 Aq Ap;obtain rfl:=ABo Ag;exact ⟨_,ABz,Aa.x,_,_,_,_,rfl,(Aa.o2 p0),Aa.s.sel [0] (by decide)⟩
def AG1 (fuel:Nat) (a3:LiI) (Ab:Int):Option ((Int) ⊕ (((Int × Int × Bool)) ⊕ (Unit))):=
  (if Ab < (a3.length:Int) then ((gI a3 Ab).bind fun Ac=>(if (Ac.length:Int) < 1 then (some (Sum.inr<| Sum.inl <| (0,0,false))) else (if 16 < (Ac.length:Int) then (some (Sum.inr<| Sum.inl <| (0,0,false))) else ((gI a3 0).bind fun Ad=>(if ¬ (Ac.length:Int)=(Ad.length:Int) then (some (Sum.inr<| Sum.inl <| (0,0,false))) else (some (Sum.inl (w64 (Ab + 1))))))))) else (some (Sum.inr<| Sum.inr <| ())))
def AD0 (fuel:Nat) (a3:LiI):Option (Int × Int × Bool):=
  (((if (a3.length:Int) < 1 then (some (Sum.inl <| (0,0,false))) else (if 16 < (a3.length:Int) then (some (Sum.inl <| (0,0,false))) else (some (Sum.inr <| ())))):Option (((Int × Int × Bool)) ⊕ (Unit))).bind (fun ex=>match ex with | Sum.inl Ab=>(some Ab) | Sum.inr (_)=>((iter (fun s=>AG1 fuel a3 s) fuel 0).bind (fun ex=>match ex with | Sum.inl Ac=>(some Ac) | Sum.inr (_)=>((gI a3 0).bind fun Ad=>(some ((a3.length:Int),(Ad.length:Int),true)))))))
theorem AIn {fuel:Nat} {h:ABu} {Au:Value} {a3:LiI} {r:(Int × Int × Bool)} (H2:AEq cZ h Au a3) (hp:AD0 fuel a3=some r):ACn Tryz.prog 85 #[Au] h (fun x h'=>Ext h h'/\x= .tuple #[.int .i64 r.1,.int .i64 r.2.1,.bool r.2.2]):=by
 unfold AD0 at hp;refine cwf (l:=[_]) Tryz.func85 rfl rfl (ABp (ACk (ACk (ABv ?_))));have K0:=Kst.k0 h;obtain ⟨A5,Av,Am⟩:=ABq hp;refine ALi 32668 (fun x:Unit=>[]) (fun x h'=>(Sum.inr <| ())=A5/\Kst h h' (K0.L)) ?_ ?_
 ·refine ABp (Wo (ADa ADt rfl H2 (ACu rfl rfl (Wo ?_))));by_cases Ag:(a3.length:Int) < 1
  ·rw [decide_eq_true Ag];refine AE2 10 true (AB2 rfl (ABt (ACd rfl (ABp (ACk (ACk (ABv ?_)))))));obtain rfl:=ABo (ifT Av Ag);refine ABx (AB4 ?_);obtain rfl:=ABo Am;exact ⟨_,AKz,K0.x,rfl⟩
  ·have Aw:=ifF Av Ag;rw [decide_eq_false Ag];refine AB3 10 false (Wo (AB3 10 false (ADa ADt rfl H2 (AB3 10 false (AGz rfl rfl (AB0 rfl (ABt (⟨_,rfl,fun Ao=>?_,fun Ao=>?_⟩))))))))
   ·refine ABp (ACk (ACk (ABv ?_)));obtain rfl:=ABo (AC8 Aw Ao);refine ABx (AB4 ?_);obtain rfl:=ABo Am;exact ⟨_,AKz,K0.x,rfl⟩
   ·refine ABy (q_t ?_);exact ⟨(():Unit),⟨ABo (AC9 Aw Ao),K0⟩,trivial⟩
 rintro ⟨⟩ Bp Bq ⟨A6,Ax⟩;subst A6;refine ABr (ABp (Wo (ADa ADt rfl H2 (Wo (ABt (ABw ?_))))));obtain ⟨Ad,A7,Ah⟩:=ABq Am;obtain ⟨A8,A9,Ba⟩:=ACe A7;refine ACq 549755682908 (fun x:(Int)=>[(17,(.int .i64 x))]) (fun k x h'=>iter A8 k x=some Ad/\Kst h h' (Ax.L)) (by kernel_rfl) fuel (0:(Int)) ?_ ⟨rfl,trivial⟩ ?_
 ·exact ⟨Ba,Ax⟩
 rintro Br Bb Bt Bu ⟨Bc,Ab⟩;obtain ⟨Be,Bv,rfl,Ae,Aa⟩:=AB7 Bc;rw [A9] at Ae;dsimp only at Ae;unfold AG1 at Ae;refine ABp (ACu rfl rfl (ABt (ABr (⟨_,rfl,fun Ap=>?_,fun Ap=>?_⟩))))
 ·refine ABy (q_t (ABr (ABw (ABp ?_))));obtain ⟨Ay,Bf,Az⟩:=ABq (AC8 Ae Ap);refine AFg ADt rfl H2 rfl Bf fun Bw Bx By Bg Aq=>AB6 AFm rfl (AB1 Bg Ab.x) (AC1 (Wo (ADh AEv rfl Aq (ACu rfl rfl (Wo ?_)))));by_cases Ai:(Ay.length:Int) < 1
  ·rw [decide_eq_true Ai];refine AE2 24 true (AB2 rfl (Wo (AFe 29 true (AIg 29 true (AB2 rfl (ABt (ACd rfl (ABp (ACk (ACk (ABv ?_)))))))))));obtain rfl:=ABo (ifT Az Ai);change _=Ad at Aa;subst Aa;refine ABx (ADe (AB4 (AB4 (ADe (AB4 ?_)))));obtain rfl:=ABo Ah;exact ⟨_,AKz,Ab.x,rfl⟩
  ·have A3:=ifF Az Ai;rw [decide_eq_false Ai];refine AB3 24 false (Wo (AB3 24 false (ADh AEv rfl Aq (AB3 24 false (AGz rfl rfl (AB0 rfl (Wo ?_)))))));by_cases Aj:16 < (Ay.length:Int)
   ·rw [decide_eq_true Aj];refine AFe 29 true (AIg 29 true (AB2 rfl (ABt (ACd rfl (ABp (ACk (ACk (ABv ?_))))))));obtain rfl:=ABo (ifT A3 Aj);change _=Ad at Aa;subst Aa;refine ABx (ADe (AB4 (AB4 (ADe (AB4 ?_)))));obtain rfl:=ABo Ah;exact ⟨_,AKz,Ab.x,rfl⟩
   ·rw [decide_eq_false Aj];refine AB3 29 false (Wo (AB3 29 false (ADh AEv rfl Aq (AB3 29 false (Wo (AB3 29 false ?_))))));obtain ⟨Bz,Bh,A4⟩:=ABq (ifF A3 Aj);refine AFg ADt rfl H2 rfl Bh fun B1 B3 B4 Bi Bj=>AB3 29 false (AB6 AFm rfl (AB1 Bi Ab.x) (AB3 29 false (ADh AEv rfl Bj (AB3 29 false (AEn rfl rfl (AB0 rfl (ABt (⟨_,rfl,fun Ar=>?_,fun Ar=>?_⟩))))))))
    ·refine ABp (ACk (ACk (ABv ?_)));obtain rfl:=ABo (AC8 A4 Ar);change _=Ad at Aa;subst Aa;refine ABx (ADe (AB4 (AB4 (ADe (AB4 ?_)))));obtain rfl:=ABo Ah;exact ⟨_,AKz,Ab.x,rfl⟩
    ·refine ABy (q_b (q_t (AB5 (ACz rfl rfl (Wo (ABt ?_))))));obtain rfl:=ABo (AC9 A4 Ar);exact ⟨Be,((w64 (Bb + 1)):(Int)),Nat.lt_succ_self _,⟨Aa,Ab⟩,rfl,trivial⟩
 ·obtain rfl:=ABo (AC9 Ae Ap);change _=Ad at Aa;subst Aa;refine ACh (ACj (ACj (ADo (q_t (ABr (AKm (Wo (ADa ADt rfl H2 (Wo ?_)))))))));obtain ⟨B5,Bl,Bm⟩:=ABq Ah;refine AFg ADt rfl H2 rfl Bl fun B6 B7 B8 Bn Bo=>AB6 AFm rfl (AB1 Bn Ab.x) (ADh AEv rfl Bo (ACk (ACk (ABv (ABx ?_)))));obtain rfl:=ABo Bm;exact ⟨_,AKz,Ab.x,rfl⟩
def AFa (fuel:Nat) (a3:LiI):Option (Int × Bool):=
  ((AD0 fuel a3).bind fun (x5,x6,x7)=>(if (!x7)=true then (some (0,false)) else (if ¬ x5=x6 then (some (0,false)) else (some (x5,true)))))
theorem ANx {fuel:Nat} {h:ABu} {Ad:Value} {a3:LiI} {r:(Int × Bool)} (H2:AEq cZ h Ad a3) (hp:AFa fuel a3=some r):ACn Tryz.prog 69 #[Ad] h (fun x h'=>Ext h h'/\x= .tuple #[.int .i64 r.1,.bool r.2]):=by
 unfold AFa at hp;refine cwf (l:=[_]) Tryz.func69 rfl rfl (ABp (ACk (AC1 (Wo ?_))));have K0:=Kst.k0 h;obtain ⟨⟨x5,x6,x7⟩,Ak,Aa⟩:=ABq hp;dsimp only at Aa;refine ADb rfl (AIn (H2.ext K0.x) Ak) fun Ar Au Am Ao=>?_;subst Ao;refine Wo (ADm rfl rfl (ADm rfl rfl (ADm rfl rfl (ACk (ACk (ABv (ABr (ABp (Wo (AE1 rfl (Wo ?_)))))))))));have Ab:=K0.e Am;cases Ag:(!x7)
 ·refine AB3 15 false (Wo (AB3 15 false (Wo (AB3 15 false (AEn rfl rfl (AB0 rfl (ABt ?_)))))));have Ah:=AH8 Aa Ag;refine ⟨_,rfl,fun Ac=>?_,fun Ac=>?_⟩
  ·refine ABp (ACk (ABv (ABx (AB4 ?_))));obtain rfl:=ABo (AC8 Ah Ac);exact ⟨_,ADj,Ab.x,rfl⟩
  ·refine ABy (q_t (ABp (Wo (ACk (ABv (ABx ?_))))));obtain rfl:=ABo (AC9 Ah Ac);exact ⟨_,ADj,Ab.x,rfl⟩
 ·refine AE2 15 true (AB2 rfl (ABt (ACd rfl (ABp (ACk (ABv (ABx (AB4 ?_))))))));obtain rfl:=ABo (ifT Aa Ag);exact ⟨_,ADj,Ab.x,rfl⟩
def ALn (fuel:Nat) (Ac:Int) (Ad:LiA) (Aa:Int) (Ab:LiI):Option ((Int × LiI) ⊕ ((LiI))):=
  (if Aa < (Ad.length:Int) then ((gI Ad Aa).bind fun Af=>((gI Ab Ac).bind fun Ae=>((ASc fuel Af).bind fun Ag=>(if Ae.length<=100000000 then (some (Sum.inl ((w64 (Aa + 1)),(sI Ab Ac (Ae ++ [Ag]))))) else none)))) else (some (Sum.inr<| Ab)))
def ALo (fuel:Nat) (a3:LiI) (Aa:Int) (Ac:LiI):Option ((Int × LiI) ⊕ ((LiI))):=
  (if Aa < (a3.length:Int) then ((gI a3 Aa).bind fun Ad=>((iter (fun s=>ALn fuel Aa Ad s.1 s.2) fuel (0,Ac)).bind (fun (Ae:LiI)=>(some (Sum.inl ((w64 (Aa + 1)),Ae)))))) else (some (Sum.inr<| Ac)))
def AHk (fuel:Nat) (a3:LiI):Option LiI:=
  (if 0<=(a3.length:Int)/\(a3.length:Int)<=100000000 then ((iter (fun s=>ALo fuel a3 s.1 s.2) fuel (0,(List.replicate (Int.toNat (a3.length:Int)) ([]:List Int)))).bind (fun (Ab:LiI)=>(some Ab))) else none)
theorem AOo {fuel:Nat} {h:ABu} {Av:Value} {a3 r:LiI} (H2:AEq cZ h Av a3) (hp:AHk fuel a3=some r):ACn Tryz.prog 37 #[Av] h (fun x h'=>Ext h h'/\ ∃ (x0:Value) (F0:List Nat) (Ba:List LnA) (Bb:List Value),x=x0/\AFf cZ 100 90 h' F0 Ba Bb x0 r/\Sp h' h.size [F0]):=by
 unfold AHk at hp;refine cwf (l:=[_]) Tryz.func37 rfl rfl (ABp (AC1 (Wo (ADa ADt rfl H2 ?_))));obtain ⟨Bc,Be⟩:=ifN hp;refine ASb cZ 90 ADt Aei rfl trivial tt2 rfl rfl (by decide) Bc fun Bf Bg Bh v11 h9 Bi E7 S8=>ABv (ABr (ABp (Wo (ADa ADt rfl H2 (Wo (ABt (ABw ?_)))))));have Ay:=(Kst.k0 h).no2 E7 S8 Bi;obtain ⟨Az,Bm,Bn⟩:=ABq Be;obtain ⟨Bo,Bp,Bq⟩:=ACe Bm;refine ACq 137438949456 (fun x:(Int) × (LiI) × LnA × LnN × LvA=>[(12,(.int .i64 x.1))]) (fun k x h'=>iter Bo k (x.1,x.2.1)=some Az/\Kst h h' (Ay.L.set 0 (aO2 cZ 100 90 x.2.2.1 x.2.2.2.1 x.2.2.2.2 v11 x.2.1))) (by kernel_rfl) fuel ((0,(List.replicate (Int.toNat (a3.length:Int)) ([]:List Int)),Bf,Bg,Bh):(Int) × (LiI) × LnA × LnN × LvA) ?_ ⟨rfl,trivial⟩ ?_
 ·exact ⟨Bq,Ay⟩
 rintro De ⟨A3,Br,Bt,Bu,Bv⟩ Df Dg ⟨Bw,Ab⟩;obtain ⟨Bx,Dh,rfl,Ac,Ak⟩:=AB7 Bw;rw [Bp] at Ac;dsimp only at Ac;unfold ALo at Ac;refine ABp (ACu rfl rfl (ABt (ABr (⟨_,rfl,fun Am=>?_,fun Am=>?_⟩))))
 ·refine ABy (q_t (ABr (ABw (ABp (Wo (AC1 (Wo (Wo ?_))))))));obtain ⟨Di,By,Bz⟩:=ABq (AC8 Ac Am);refine AFg ADt rfl H2 rfl By fun Dj Dk Dl B1 A4=>AB6 AFm rfl (AB1 B1 Ab.x) (ADh AEv rfl A4 (Wo (ABt (ABw ?_))));obtain ⟨A5,B3,B4⟩:=ABq Bz;obtain ⟨B5,B6,B7⟩:=ACe B3;refine ACq 68718428224 (fun x:(Int) × (LiI) × LnA × LnN × LvA=>[(20,(.int .i64 x.1))]) (fun k x h'=>iter B5 k (x.1,x.2.1)=some A5/\Kst h h' (Ab.L.set 0 (aO2 cZ 100 90 x.2.2.1 x.2.2.2.1 x.2.2.2.2 v11 x.2.1))) (by kernel_rfl) fuel ((0,Br,Bt,Bu,Bv):(Int) × (LiI) × LnA × LnN × LvA) ?_ ⟨rfl,trivial⟩ ?_
  ·exact ⟨B7,Ab⟩
  rintro Dn ⟨B8,u64,B9,Ca,Cb⟩ Do Dp ⟨Cd,Ag⟩;obtain ⟨Ce,Dq,rfl,Ad,Ao⟩:=AB7 Cd;rw [B6] at Ad;dsimp only at Ad;unfold ALn at Ad;refine ABp (ACu rfl rfl (ABt (ABr (⟨_,rfl,fun Ap=>?_,fun Ap=>?_⟩))))
  ·refine ABy (q_t (ABr (ABw (ABp ?_))));obtain ⟨Dr,Cf,Cg⟩:=ABq (AC8 Ad Ap);refine AHe (c:=cZ) AEv rfl A4 rfl Cf fun Ds Dt A6 Ae Ch=>AOl (c:=cZ) ACf rfl (Ag.zx Ae) (fun j u hu=>(AB1 (Ch j u hu) Ag.x)) (ADi [.bool false,.slice none 0 0] AGk rfl trivial tt2 fun Du Ci Cj Ck Cm=>?_);have Ah:=Ag.nb Ck Cm Cj;refine AC7 A6 ACf (cZ.klen (Ah.zx Ae)) (cZ.klen (AB9 Ci)) rfl rfl (cZ.one (Ah.zx Ae)) (Ah.b p0) fun Aq Cn Co=>ABt ?_;have Aa:=Ah.sb p0 Co Cn rfl;obtain ⟨Cp,Ar,Cq⟩:=ABq Cg;obtain ⟨A7,Cr,Ct,Cu,Cv⟩:=(Aa.o2 p1).rowG Ar;refine AEd (fun h'=>UpT (A7 ++ []) Aq h') (by kernel_rfl) ?_;have Af:UpT (A7 ++ []) Aq Aq:=UpT.start (AEs Cu all_nil);refine Wo (Wo (Wo (Wo (ADl ADt rfl (Aa.o2 p1) rfl Ar fun Dv Dw Cw Cx Cy=>AEt AFm rfl Af (fun h' hb=>AMv Cy hb (ASm (Cv _ Cw) ASn)) (AEk A6 ACf (cZ.klen (Aa.zx Ae)) rfl Af (fun h' hb=>((Aa.b p0).upT hb (Ar9 (fun b hb hg=>(Aa.dj p0 p1 (by decide)) b hb (Ct b hg)) Asa)).agg) ?_)))));obtain ⟨Cz,C0,C1⟩:=ABq Cq;refine ADg Af (fun _ E=>Af.thenE E) rfl (ATx (Aa.zx Ae).2 C0) fun Dx Dy A8 C2=>?_;obtain ⟨Dz,rfl,C3⟩:=C2;have A9:=Af.thenE A8;obtain ⟨D0,rfl,C4⟩:=C3.cs;have Au:=(Aa.e A8).az C4;obtain ⟨C5,C6⟩:=ifN C1;refine Ajr AEv AGk rfl rfl ADt AFm (Au.o2 p2) Cx Ar Cr A9 (fun _ U=>A9.then U (AN5 rfl)) (fun _=>rfl) rfl (Au.z p0) (fun _ _=>rfl) (fun _ _=>rfl) rfl (by decide) C5 fun D1 D2 C7 C8 C9 D3 D4 Da Db Dc=>ACr (q_b (q_t (AB5 (ACz rfl rfl (Wo (ABt ?_))))));obtain rfl:=ABo C6;exact ⟨Ce,(((w64 (B8 + 1)),(sI u64 A3 (Cp ++ [Cz])),C7,C8,C9):(Int) × (LiI) × LnA × LnN × LvA),Nat.lt_succ_self _,⟨Ao,(Au.uo2 p2 Db Da Dc).sel [2] (by decide)⟩,rfl,trivial⟩
  ·obtain rfl:=ABo (AC9 Ad Ap);change _=A5 at Ao;subst Ao;refine ACh (ACj (ACj (ADo (q_b (q_t (AB5 (ACz rfl rfl (Wo (ABt ?_)))))))));obtain rfl:=ABo B4;exact ⟨Bx,(((w64 (A3 + 1)),u64,B9,Ca,Cb):(Int) × (LiI) × LnA × LnN × LvA),Nat.lt_succ_self _,⟨Ak,Ag⟩,rfl,trivial⟩
 ·obtain rfl:=ABo (AC9 Ac Am);change _=Az at Ak;subst Ak;refine ACh (ACj (ACj (ADo (q_t (ABp (Wo (ABv (ABx ?_))))))));obtain rfl:=ABo Bn;exact ⟨_,ABz,Ab.x,_,_,_,_,rfl,(Ab.o2 p0),Ab.s.sel [0] (by decide)⟩
def AKa (fuel:Nat) (a3:LiI) (Ac:LiA) (Ae:Int) (Aa:LiA) (Ab:Int):Option ((LiA × Int) ⊕ ((LiA))):=
  (if Ab < (Ac.length:Int) then ((gI Ac Ab).bind fun Af=>((gI a3 Ae).bind fun Ag=>((gI Ag Af).bind fun Ah=>(if Aa.length<=100000000 then (some (Sum.inl ((Aa ++ [Ah]),(w64 (Ab + 1))))) else none)))) else (some (Sum.inr<| Aa)))
def AKb (fuel:Nat) (a3:LiI) (a7 Ae:LiA) (Aa:LiI) (Ab:Int):Option ((LiI × Int) ⊕ ((LiI))):=
  (if Ab < (a7.length:Int) then ((gI a7 Ab).bind fun Af=>((iter (fun s=>AKa fuel a3 Ae Af s.1 s.2) fuel ([],0)).bind (fun (Ag:LiA)=>(if Aa.length<=100000000 then (some (Sum.inl ((Aa ++ [Ag]),(w64 (Ab + 1))))) else none)))) else (some (Sum.inr<| Aa)))
def AF8 (fuel:Nat) (a3:LiI) (a7 Ac:LiA):Option LiI:=
  ((iter (fun s=>AKb fuel a3 a7 Ac s.1 s.2) fuel ([],0)).bind (fun (Ad:LiI)=>(some Ad)))
theorem ANy {fuel:Nat} {h:ABu} {Ai:Value} {a3:LiI} {Ak:Value} {a7:LiA} {Ao:Value} {Ap:LiA} {r:LiI} (H2:AEq cZ h Ai a3) (H6:SlC (cI .i64) h Ak a7) (Ar:SlC (cI .i64) h Ao Ap) (hp:AF8 fuel a3 a7 Ap=some r):ACn Tryz.prog 130 #[Ai,Ak,Ao] h (fun x h'=>Ext h h'/\ ∃ (x0:Value) (F0:List Nat) (A6:List LnA) (A7:List Value),x=x0/\AFf cZ 100 90 h' F0 A6 A7 x0 r/\Sp h' h.size [F0]):=by
 unfold AF8 at hp;refine cwf (l:=[_,_,_]) Tryz.func130 rfl rfl (ABp (AC1 (ABv (ABr (ABp (Wo (ADh AVy rfl H6 (Wo (ABt (ABw ?_))))))))));have Aw:=Kst.anil2 cZ 100 90 (Kst.k0 h);obtain ⟨Ax,A8,A9⟩:=ABq hp;obtain ⟨Ba,Bb,Bc⟩:=ACe A8;refine ACq 2199023228544 (fun x:(LiI) × (Value) × LnA × LnN × LvA × (Int)=>[(7,x.2.1),(15,(.int .i64 x.2.2.2.2.2))]) (fun k x h'=>iter Ba k (x.1,x.2.2.2.2.2)=some Ax/\Kst h h' (Aw.L.set 0 (aO2 cZ 100 90 x.2.2.1 x.2.2.2.1 x.2.2.2.2.1 x.2.1 x.1))) (by kernel_rfl) fuel (([],(.slice none 0 0),[],[],[],0):(LiI) × (Value) × LnA × LnN × LvA × (Int)) ?_ ⟨rfl,rfl,trivial⟩ ?_
 ·exact ⟨Bc,Aw⟩
 rintro Cu ⟨Be,Cv,Cw,Bf,Bg,u32⟩ Cx Cy ⟨Bh,Ab⟩;obtain ⟨Bi,Cz,rfl,Ac,Ae⟩:=AB7 Bh;rw [Bb] at Ac;dsimp only at Ac;unfold AKb at Ac;refine ABp (ACu rfl rfl (ABt (ABr (⟨_,rfl,fun Af=>?_,fun Af=>?_⟩))))
 ·refine ABy (q_t (ABr (ABw (ABp ?_))));obtain ⟨C0,Bj,Bl⟩:=ABq (AC8 Ac Af);refine AHe (c:=(cI .i64)) AVy rfl H6 rfl Bj fun C1 C2 C3 Bm Bn=>?_;obtain rfl:=Bm;refine AB6 ADs rfl (AB1 (Bn 0 _ rfl) Ab.x) (AC1 (ABv (ABr (ABp (Wo (ADh AVy rfl Ar (Wo (ABt (ABw ?_)))))))));have Ay:=Kst.anil cZ 90 Ab;obtain ⟨Az,Bo,Bp⟩:=ABq Bl;obtain ⟨Bq,Br,Bt⟩:=ACe Bo;refine ACq 68717384704 (fun x:(LiA) × (Value) × LnA × (Int)=>[(10,x.2.1),(21,(.int .i64 x.2.2.2))]) (fun k x h'=>iter Bq k (x.1,x.2.2.2)=some Az/\Kst h h' (Ay.L.set 0 (aO cZ 90 x.2.2.1 x.2.1 x.1))) (by kernel_rfl) fuel (([],(.slice none 0 0),[],0):(LiA) × (Value) × LnA × (Int)) ?_ ⟨rfl,rfl,trivial⟩ ?_
  ·exact ⟨Bt,Ay⟩
  rintro C4 ⟨A3,Bu,Bv,Bw⟩ C5 C6 ⟨Bx,Aa⟩;obtain ⟨By,C7,rfl,Ad,Ag⟩:=AB7 Bx;rw [Br] at Ad;dsimp only at Ad;unfold AKa at Ad;refine ABp (ACu rfl rfl (ABt (ABr (⟨_,rfl,fun Ah=>?_,fun Ah=>?_⟩))))
  ·refine ABy (q_t (ABr (ABw (ABp ?_))));obtain ⟨C8,Bz,B1⟩:=ABq (AC8 Ad Ah);refine AHe (c:=(cI .i64)) AVy rfl Ar rfl Bz fun C9 Da Db B3 B4=>?_;obtain rfl:=B3;refine AB6 ADs rfl (AB1 (B4 0 _ rfl) Aa.x) (ABv (AB5 (Wo (Wo (Wo ?_)))));obtain ⟨Dc,B5,B6⟩:=ABq B1;refine AFg ADt rfl H2 rfl B5 fun Dd De Df B7 B8=>AB6 AFm rfl (AB1 B7 Aa.x) (Wo ?_);obtain ⟨B9,Ca,Cb⟩:=ABq B6;refine AHe (c:=cZ) AEv rfl B8 rfl Ca fun Dg Dh Di A4 Cd=>AOl (c:=cZ) ACf rfl (Aa.zx A4) (fun j u hu=>(AB1 (Cd j u hu) Aa.x)) ?_;obtain ⟨Ce,Cf⟩:=ifN Cb;refine AM2 AEv AGk rfl rfl trivial tt2 (fun _=>rfl) rfl (Aa.zx A4) (Aa.o p0) (by decide) Ce fun Dj Cg Ch Dk Ci Cj Ck=>ACk (ACr (q_b (q_t (AB5 (ACz rfl rfl (Wo (ABt ?_)))))));obtain rfl:=ABo Cf;exact ⟨By,(((A3 ++ [B9]),Ch,Cg,(w64 (Bw + 1))):(LiA) × (Value) × LnA × (Int)),Nat.lt_succ_self _,⟨Ag,(Aa.uo p0 Cj Ci Ck)⟩,rfl,rfl,trivial⟩
  ·obtain rfl:=ABo (AC9 Ad Ah);change _=Az at Ag;subst Ag;refine ACh (ACj (ACj (ADo (q_t (AB5 (Wo (Wo ?_)))))));obtain ⟨Cm,Cn⟩:=ifN Bp;refine AY3 ADt Aei rfl rfl trivial tt2 (fun _=>rfl) rfl (Aa.o p0) (Aa.o2 p1) (Aa.dj p0 p1 (by decide)) (by decide) Cm fun Dl Co Cp Dn Cq Cr Ct=>ACk (ACr (q_b (q_t (AB5 (ACz rfl rfl (Wo (ABt ?_)))))));obtain rfl:=ABo Cn;exact ⟨Bi,(((Be ++ [A3]),Cp,Co,(Bf ++ [Bv]),(Bg ++ [Bu]),(w64 (u32 + 1))):(LiI) × (Value) × LnA × LnN × LvA × (Int)),Nat.lt_succ_self _,⟨Ae,(Aa.m2 p0 p1 (by decide) Cr Cq Ct).sel [1] (by decide)⟩,rfl,rfl,trivial⟩
 ·obtain rfl:=ABo (AC9 Ac Af);change _=Ax at Ae;subst Ae;refine ACh (ACj (ACj (ADo (q_t (ABp (Wo (ABv (ABx ?_))))))));obtain rfl:=ABo A9;exact ⟨_,ABz,Ab.x,_,_,_,_,rfl,(Ab.o2 p0),Ab.s.sel [0] (by decide)⟩
def AF9 (fuel:Nat) (Ab:LiI) (Ac:Int) (Ad:LiI) (Aa:Int):Option ((Int) ⊕ ((Int))):=
  (((if Aa < (Ab.length:Int) then ((gI Ad Aa).bind fun Ae=>((gI Ae Ac).bind fun Af=>((AX4 fuel Af).bind fun Ag=>(if Ag=0 then (some (Sum.inl <| ())) else (some (Sum.inr <| ())))))) else (some (Sum.inr <| ()))):Option ((Unit) ⊕ (Unit))).bind (fun ex=>match ex with | Sum.inl _=>(some (Sum.inl (w64 (Aa + 1)))) | Sum.inr (_)=>(some (Sum.inr<| Aa))))
def AGa (fuel:Nat) (Ag:LiI) (Ac Ah Ae Aa:Int) (Ab:LiI):Option ((Int × LiI) ⊕ ((LiI))):=
  (if Aa < (Ag.length:Int) then ((gI Ab Ae).bind fun Ad=>((gI Ab Ac).bind fun Af=>((gI Af Ac).bind fun Ai=>((gI Ad Aa).bind fun Aj=>((ARi fuel Ai Aj).bind fun Ak=>((gI Ad Ac).bind fun Am=>((gI Af Aa).bind fun Ao=>((ARi fuel Am Ao).bind fun Ap=>((Arj fuel Ak Ap).bind fun Aq=>((AEm fuel Aq Ah).bind fun Ar=>(some (Sum.inl ((w64 (Aa + 1)),(sI Ab Ae (sI Ad Aa Ar))))))))))))))) else (some (Sum.inr<| Ab)))
def AGb (fuel:Nat) (Ab:LiI) (Ac Ae Aa:Int) (Ad:LiI):Option ((Int × LiI) ⊕ ((LiI))):=
  (if Aa < (Ab.length:Int) then ((iter (fun s=>AGa fuel Ab Ac Ae Aa s.1 s.2) fuel ((w64 (Ac + 1)),Ad)).bind (fun (Af:LiI)=>(some (Sum.inl ((w64 (Aa + 1)),Af))))) else (some (Sum.inr<| Ad)))
def AGc (fuel:Nat) (Ac:LiI) (Ae:Bool) (Aa:Int) (Ab:LiI) (Af:Int):Option ((Bool × Int × LiI × Int) ⊕ ((Int) ⊕ (Bool × Int))):=
  (if Aa < (Ac.length:Int) then ((((((iter (fun s=>AF9 fuel Ac Aa Ab s) fuel Aa).bind (fun (Ah:Int)=>(some ( Ah)))):Option ((Int))).bind (fun (Ad:Int)=>(if Ad=(Ac.length:Int) then (some (Sum.inl <| 0)) else (((if Aa < Ad then ((gI Ab Aa).bind fun Ai=>((gI Ab Ad).bind fun Aj=>(some ( ((!Ae),(sI (sI Ab Ad Ai) Aa Aj)))))) else (some ( (Ae,Ab)))):Option ((Bool × LiI))).bind (fun ((Ak,Am):Bool × LiI)=>((iter (fun s=>AGb fuel Ac Aa Af s.1 s.2) fuel ((w64 (Aa + 1)),Am)).bind (fun (Ag:LiI)=>((gI Ag Aa).bind fun Ao=>((gI Ao Aa).bind fun Ap=>(some (Sum.inr <| (Ak,Ag,Ap)))))))))))):Option ((Int) ⊕ (Bool × LiI × Int))).bind (fun ex=>match ex with | Sum.inl Aq=>(some (Sum.inr<| Sum.inl <| Aq)) | Sum.inr ((Ar,Au,Av))=>(some (Sum.inl (Ar,(w64 (Aa + 1)),Au,Av))))) else (some (Sum.inr<| Sum.inr <| (Ae,Af))))
def AC6 (fuel:Nat) (a3:LiI):Option Int:=
  ((AHk fuel a3).bind fun Aa=>((ALf fuel 1).bind fun Ad=>((iter (fun s=>AGc fuel Aa s.1 s.2.1 s.2.2.1 s.2.2.2) fuel (false,0,Aa,Ad)).bind (fun ex=>match ex with | Sum.inl Ae=>(some Ae) | Sum.inr ((Af,Ab))=>(if Af=true then ((Aek fuel Ab).bind fun Ag=>(some Ag)) else (some Ab))))))
theorem AEi {fuel:Nat} {h:ABu} {B1:Value} {a3:LiI} {r:Int} (H2:AEq cZ h B1 a3) (hp:AC6 fuel a3=some r):ACn Tryz.prog 73 #[B1] h (fun x h'=>Ext h h'/\ ∃ (x0:Value),x=x0/\ZZ h' x0 r):=by
 unfold AC6 at hp;refine cwf (l:=[_]) Tryz.func73 rfl rfl (ABp (ADi [.bool false,.slice none 0 0] AGk rfl trivial tt2 fun b5 h6 V7 E8 S9=>AK0 (Wo ?_)));have B5:=(Kst.k0 h).nb E8 S9 V7;obtain ⟨B6,Dk,Dl⟩:=ABq hp;refine ADb rfl (AOo (H2.ext B5.x) Dk) fun Ao Jn Dn Do=>?_;obtain ⟨Jo,Dp,Dq,Dr,rfl,Ds,Dt⟩:=Do;refine AC1 (Wo ?_);have B7:=B5.no2 Dn Dt Ds;refine ADa ADt rfl (B7.o2 p0).rd (AC1 ?_);obtain ⟨Du,Dv,Dw⟩:=ABq Dl;refine ADb rfl (AKp Dv) fun Jp Jq Dx Dy=>?_;obtain ⟨Jr,rfl,Dz⟩:=Dy;obtain ⟨B8,rfl,D0⟩:=Dz.cs;refine ADi [.bool false,.slice none 0 0] AGk rfl trivial tt2 fun B9 D1 D2 D3 D4=>?_;have Ay:=((B7.e Dx).az D0).nb D3 D4 D2;refine AC7 B8 ACf (cZ.klen (Ay.z p1)) (cZ.klen (AB9 D1)) rfl rfl (cZ.one (Ay.z p1)) (Ay.b p0) fun Js D5 D6=>ABv (ABr (ABp (ABv (ABw ?_))));have Ca:=Ay.sb p0 D6 D5 rfl;obtain ⟨Ba,D7,Bb⟩:=ABq Dw;obtain ⟨D8,D9,Ea⟩:=ACe D7;refine ACq 2658455991569831745807614120560625600 (fun x:(Bool) × (Int) × (LiI) × LnA × LnN × LvA × (Int) × LvA=>[(6,(.bool x.1)),(7,(.int .i64 x.2.1))]) (fun k x h'=>iter D8 k (x.1,x.2.1,x.2.2.1,x.2.2.2.2.2.2.1)=some Ba/\Kst h h' (((Ca.L.set 2 (aO2 cZ 100 90 x.2.2.2.1 x.2.2.2.2.1 x.2.2.2.2.2.1 Ao x.2.2.1)).set 1 (aZ x.2.2.2.2.2.2.2 x.2.2.2.2.2.2.1)).set 0 (aB 90 B9 x.2.2.2.2.2.2.2))) (by kernel_rfl) fuel ((false,0,B6,Dp,Dq,Dr,Du,B8):(Bool) × (Int) × (LiI) × LnA × LnN × LvA × (Int) × LvA) ?_ ⟨rfl,rfl,trivial⟩ ?_
 ·exact ⟨Ea,Ca⟩
 rintro Jt ⟨Cb,Af,Cd,Eb,Ec,Ed,Ju,Az⟩ Jv Ee ⟨Ef,Ab⟩;obtain ⟨Eg,Jw,rfl,Ap,Aq⟩:=AB7 Ef;rw [D9] at Ap;dsimp only at Ap;unfold AGc at Ap;refine ABr (ABp (Wo (Wo (ACu rfl rfl (ABt (⟨_,rfl,fun Bc=>?_,fun Bc=>?_⟩))))))
 ·refine ABy (q_t ?_);obtain ⟨Eh,Ei,Ce⟩:=ABq (AC8 Ap Bc);refine ALi 2658455991569831745807614120558593856 (fun x:(Bool) × (LiI) × LnA × LnN × LvA × (Int) × LvA=>[(6,(.bool x.1))]) (fun x h'=>(Sum.inr <| (x.1,x.2.1,x.2.2.2.2.2.1))=Eh/\Kst h h' (((Ab.L.set 2 (aO2 cZ 100 90 x.2.2.1 x.2.2.2.1 x.2.2.2.2.1 Ao x.2.1)).set 1 (aZ x.2.2.2.2.2.2 x.2.2.2.2.2.1)).set 0 (aB 90 B9 x.2.2.2.2.2.2))) ?_ ?_
  ·refine ABw (ABp (Wo (ABv ?_)));obtain ⟨Ej,Ek,Cf⟩:=ABq Ei;refine ALi 274873712896 (fun x:(Int)=>[(8,(.int .i64 x))]) (fun x h'=>( x)=Ej/\Kst h h' (Ab.L)) ?_ ?_
   ·refine ABw ?_;obtain ⟨Be,El,Cg⟩:=ABq Ek;obtain ⟨Em,En,Eo⟩:=ACe El;refine ACq 274873712896 (fun x:(Int)=>[(8,(.int .i64 x))]) (fun k x h'=>iter Em k x=some Be/\Kst h h' (Ab.L)) (by kernel_rfl) fuel (Af:(Int)) ?_ ⟨rfl,trivial⟩ ?_
    ·exact ⟨Eo,Ab⟩
    rintro Jx Ar Jy Jz ⟨Ep,Ah⟩;obtain ⟨Er,J0,rfl,A3,Au⟩:=AB7 Ep;rw [En] at A3;dsimp only at A3;unfold AF9 at A3;obtain ⟨Es,Ch,Bf⟩:=ABq A3;refine ALi 68715282432 (fun x:Unit=>[]) (fun x h'=>(Sum.inl <| ())=Es/\Kst h h' (Ah.L)) ?_ ?_
    ·refine ABp (Wo (Wo (ACu rfl rfl (Wo ?_))));by_cases A4:Ar < (B6.length:Int)
     ·rw [decide_eq_true A4];refine AB3 25 true (Wo (AB3 25 true (Wo (AB3 25 true ?_))));obtain ⟨J1,Bg,Et⟩:=ABq (ifT Ch A4);refine ADl ADt rfl (Ah.o2 p2) rfl Bg fun J2 J3 J4 Eu Ev=>AB3 25 true (AB6 AFm rfl Ev (AB3 25 true (Wo (AB3 25 true ?_))));obtain ⟨J5,Ci,Ew⟩:=ABq Et;refine AD2 (m:=Ar) AEv rfl (Ah.o2 p2) Eu Bg rfl Ci fun J6 Ey=>AB3 25 true ?_;obtain ⟨J7,Ez,Fa⟩:=(Ah.o2 p2).cells Ey Bg Ci;have Bh:=Ah.az Ez;refine AOl (c:=cZ) ACf rfl (Bh.z p0) (fun j u hu=>(Fa j u hu)) (AB3 25 true ?_);obtain ⟨J8,Fb,Cj⟩:=ABq Ew;refine ADb rfl (AW7 (Bh.z p0).2 Fb) fun J9 Ka Fc Fd=>?_;subst Fd;refine AB3 25 true (AD8 rfl rfl (AB2 rfl (ABt ?_)));have Ck:=Bh.e Fc;refine ⟨_,rfl,fun Bi=>?_,fun Bi=>?_⟩
      ·refine ABy (q_t ?_);exact ⟨(():Unit),⟨ABo (AC8 Cj Bi),Ck.sel [1,2,3,4] (by decide)⟩,trivial⟩
      ·obtain rfl:=ABo (AC9 Cj Bi);obtain rfl:=ABo Bf;change _=Be at Au;subst Au;refine ACh (ACj (ACj (ADo (q_t ?_))));exact ⟨(Ar:(Int)),⟨ABo Cg,Ck.sel [1,2,3,4] (by decide)⟩,rfl,trivial⟩
     ·rw [decide_eq_false A4];refine AFe 25 false (AFl 25 false (AB0 rfl (ABt (ACo rfl ?_))));obtain rfl:=ABo (ifF Ch A4);obtain rfl:=ABo Bf;change _=Be at Au;subst Au;refine ACh (ACj (ACj (ADo (q_t ?_))));exact ⟨(Ar:(Int)),⟨ABo Cg,Ah⟩,rfl,trivial⟩
    rintro ⟨⟩ Kb Kc ⟨Fe,Ff⟩;subst Fe;refine ABw (AB5 (Wo (ACz rfl rfl (ACk (ACr (q_b (q_t ?_)))))));obtain rfl:=ABo Bf;exact ⟨Er,((w64 (Ar + 1)):(Int)),Nat.lt_succ_self _,⟨Au,Ff⟩,rfl,trivial⟩
   rintro Fg Kd Bj ⟨Fh,Ag⟩;subst Fh;refine ABr (ABp (Wo (Wo (AD8 rfl rfl (ABt (⟨_,rfl,fun Bl=>?_,fun Bl=>?_⟩))))))
   ·refine ABp (AF6 (AO6 ) (AC7 [Value.bool false,Value.slice none 0 0] ACf (cZ.klen (AB9 Bj)) (cZ.klen (AB9 Bj)) rfl rfl (cZ.one (AB9 Bj)) (Ag.b p3) fun Cm Fi Fj=>ABt ?_));have Cn:=Ag.sb p3 Fj Fi rfl;obtain rfl:=ABo (AC8 Cf Bl);obtain rfl:=ABo Ce;change _=Ba at Aq;subst Aq;refine ABx (AB4 (ADe (AB4 (AB4 (ADe (AB4 ?_))))));obtain rfl:=ABo Bb;exact ⟨_,AEe ACf (cZ.klen (AB9 Cm)) rfl (Cn.b p3),Cn.x,_,rfl,(AB9 Cm).2⟩
   ·refine ABy (q_t ?_);obtain ⟨Fk,Co,Fl⟩:=ABq (AC9 Cf Bl);refine ALi 2305838611167182912 (fun x:(Bool) × (LiI) × LnA × LnN × LvA=>[(6,(.bool x.1))]) (fun x h'=>( (x.1,x.2.1))=Fk/\Kst h h' (Ag.L.set 2 (aO2 cZ 100 90 x.2.2.1 x.2.2.2.1 x.2.2.2.2 Ao x.2.1))) ?_ ?_
    ·refine ABp (Wo (Wo (AGz rfl rfl (ABt (⟨_,rfl,fun Bm=>?_,fun Bm=>?_⟩)))))
     ·refine ABr (AKm (Wo (Wo (Wo (Wo (Wo (Wo ?_)))))));obtain ⟨Fm,Cp,Fo⟩:=ABq (AC8 Co Bm);refine ADl ADt rfl (Ag.o2 p2) rfl Cp fun Ke Kf Kg Fp Fq=>AB6 AFm rfl Fq (Wo (Wo ?_));obtain ⟨Fr,Cq,Ft⟩:=ABq Fo;refine ADl ADt rfl (Ag.o2 p2) rfl Cq fun Kh Ki Kj Fu Fv=>AB6 AFm rfl Fv (ATw ADt AFm (Ag.o2 p2) Fu Fp Cq Cp rfl rfl (fun _=>rfl) (fun _=>rfl) (fun _=>rfl) (fun _ _=>rfl) fun Kk Kl Fw Fx Fy Km Fz F4 F5=>ABt (AB5 (Wo (AE1 rfl (ABv ?_)))));exact ⟨(((!Cb),(sI (sI Cd Fg Fm) Af Fr),Fw,Fx,Fy):(Bool) × (LiI) × LnA × LnN × LvA),⟨ABo Ft,(Ag.uo2 p2 F4 Fz F5)⟩,rfl,trivial⟩
     ·refine ABy (q_t ?_);exact ⟨((Cb,Cd,Eb,Ec,Ed):(Bool) × (LiI) × LnA × LnN × LvA),⟨ABo (AC9 Co Bm),Ag⟩,rfl,trivial⟩
    rintro ⟨F6,F7,F8,F9,Ga⟩ Kn Ko ⟨Gb,Cr⟩;subst Gb;refine ABr (ABp (Wo (ACz rfl rfl (ABv (ABw ?_)))));obtain ⟨Ct,Gc,Gd⟩:=ABq Fl;obtain ⟨Ge,Gf,Gg⟩:=ACe Gc;refine ACq 20769187434139301290749948462106112 (fun x:(Int) × (LiI) × LnA × LnN × LvA=>[(9,(.int .i64 x.1))]) (fun k x h'=>iter Ge k (x.1,x.2.1)=some Ct/\Kst h h' (Cr.L.set 2 (aO2 cZ 100 90 x.2.2.1 x.2.2.2.1 x.2.2.2.2 Ao x.2.1))) (by kernel_rfl) fuel (((w64 (Af + 1)),F7,F8,F9,Ga):(Int) × (LiI) × LnA × LnN × LvA) ?_ ⟨rfl,trivial⟩ ?_
    ·exact ⟨Gg,Cr⟩
    rintro Kp ⟨Ai,Cu,Cv,Cw,Cx⟩ Kr Kt ⟨Gh,Aj⟩;obtain ⟨Gi,Ku,rfl,Av,Bn⟩:=AB7 Gh;rw [Gf] at Av;dsimp only at Av;unfold AGb at Av;refine ABr (ABp (Wo (Wo (ACu rfl rfl (ABt (⟨_,rfl,fun Bo=>?_,fun Bo=>?_⟩))))))
    ·refine ABy (q_t (ABr (ABw (ABp (Wo (ACz rfl rfl (ABv (ABw ?_))))))));obtain ⟨Cy,Gj,Gk⟩:=ABq (AC8 Av Bo);obtain ⟨Gl,Gm,Gn⟩:=ACe Gj;refine ACq 20769187434138129922501267905577984 (fun x:(Int) × (LiI) × LnA × LnN × LvA=>[(10,(.int .i64 x.1))]) (fun k x h'=>iter Gl k (x.1,x.2.1)=some Cy/\Kst h h' (Aj.L.set 2 (aO2 cZ 100 90 x.2.2.1 x.2.2.2.1 x.2.2.2.2 Ao x.2.1))) (by kernel_rfl) fuel (((w64 (Af + 1)),Cu,Cv,Cw,Cx):(Int) × (LiI) × LnA × LnN × LvA) ?_ ⟨rfl,trivial⟩ ?_
     ·exact ⟨Gn,Aj⟩
     rintro Kv ⟨Cz,C0,C1,C2,C3⟩ Kw Bp ⟨Gp,Aa⟩;obtain ⟨Gq,Kx,rfl,Aw,Bq⟩:=AB7 Gp;rw [Gm] at Aw;dsimp only at Aw;unfold AGa at Aw;refine ABr (ABp (Wo (Wo (ACu rfl rfl (ABt (⟨_,rfl,fun Br=>?_,fun Br=>?_⟩))))))
     ·refine ABy (q_t (ABr (ABw (AEd (fun h'=>UpT [] Bp h') (by kernel_rfl) ?_))));have Ac:UpT [] Bp Bp:=UpT.start all_nil;refine Wo (Wo ?_);obtain ⟨Gr,Ad,Gt⟩:=ABq (AC8 Aw Br);refine ADl ADt rfl (Aa.o2 p2) rfl Ad fun Ky Kz K3 Gu Gv=>AEt AFm rfl Ac (fun h' hb=>AB1 Gv hb.ext) (Wo (Wo (Wo ?_)));obtain ⟨K5,Ak,Gw⟩:=ABq Gt;refine ADl ADt rfl (Aa.o2 p2) rfl Ak fun K6 La Lb Gx Gy=>AEt AFm rfl Ac (fun h' hb=>AB1 Gy hb.ext) (Wo ?_);obtain ⟨Lc,C4,Gz⟩:=ABq Gw;refine AD2 (m:=Af) AEv rfl (Aa.o2 p2) Gx Ak rfl C4 fun Ld G3=>?_;obtain ⟨Le,C5,G4⟩:=(Aa.o2 p2).cells G3 Ak C4;refine ARa (c:=cZ) ACf rfl C5 Ac (fun h' hb j u hu=>AB1 (G4 j u hu) hb.ext) (Wo (Wo (ADl ADt rfl (Aa.o2 p2) rfl Ad fun Lf Lg Lh G5 G6=>AEt AFm rfl Ac (fun h' hb=>AB1 G6 hb.ext) (Wo ?_))));obtain ⟨Li,A5,G7⟩:=ABq Gz;refine AD2 (m:=Ai) AEv rfl (Aa.o2 p2) G5 Ad rfl A5 fun Lj G8=>?_;obtain ⟨Lk,C6,G9⟩:=(Aa.o2 p2).cells G8 Ad A5;refine ARa (c:=cZ) ACf rfl C6 Ac (fun h' hb j u hu=>AB1 (G9 j u hu) hb.ext) ?_;have Bt:=(Aa.az (cZ.upT C5 Ac)).az (cZ.upT C6 Ac);obtain ⟨Ll,Hb,Hc⟩:=ABq G7;refine ADg Ac (fun _ E=>Ac.thenE E) rfl (AQg (Bt.z p1).2 (Bt.z p0).2 Hb) fun Lm Ln C7 Hd=>?_;obtain ⟨Lo,rfl,He⟩:=Hd;have Ae:=Ac.thenE C7;obtain ⟨Lq,rfl,Hf⟩:=He.cs;refine Wo (Wo (ADl ADt rfl (Aa.o2 p2) rfl Ad fun Lr Lv Lw Hg Hh=>AEt AFm rfl Ae (fun h' hb=>AB1 Hh hb.ext) (Wo ?_)));obtain ⟨Lx,C8,Hj⟩:=ABq Hc;refine AD2 (m:=Ai) AEv rfl (Aa.o2 p2) Hg Ad rfl C8 fun Ly Hk=>?_;obtain ⟨Lz,C9,Hl⟩:=(Aa.o2 p2).cells Hk Ad C8;refine ARa (c:=cZ) ACf rfl C9 Ae (fun h' hb j u hu=>AB1 (Hl j u hu) hb.ext) (Wo (Wo (ADl ADt rfl (Aa.o2 p2) rfl Ak fun Ma Mb Mc Hm Hn=>AEt AFm rfl Ae (fun h' hb=>AB1 Hn hb.ext) (Wo ?_))));obtain ⟨Md,Da,Ho⟩:=ABq Hj;refine AD2 (m:=Af) AEv rfl (Aa.o2 p2) Hm Ak rfl Da fun Me Hq=>?_;obtain ⟨Mf,Db,Hr⟩:=(Aa.o2 p2).cells Hq Ak Da;refine ARa (c:=cZ) ACf rfl Db Ae (fun h' hb j u hu=>AB1 (Hr j u hu) hb.ext) ?_;have Bu:=(((Bt.e C7).az Hf).az (cZ.upT C9 Ae)).az (cZ.upT Db Ae);obtain ⟨Mg,Hs,Ht⟩:=ABq Ho;refine ADg Ae (fun _ E=>Ae.thenE E) rfl (AQg (Bu.z p1).2 (Bu.z p0).2 Hs) fun Mh Mi Dc Hu=>?_;obtain ⟨Mj,rfl,Hv⟩:=Hu;have Bv:=Ae.thenE Dc;obtain ⟨Mk,rfl,Hw⟩:=Hv.cs;have Bw:=(Bu.e Dc).az Hw;obtain ⟨Ml,Hx,Hy⟩:=ABq Ht;refine ADg Bv (fun _ E=>Bv.thenE E) rfl (Asj (Bw.z p3).2 (Bw.z p0).2 Hx) fun Mm Mo Dd Hz=>?_;obtain ⟨Mq,rfl,H5⟩:=Hz;have Bx:=Bv.thenE Dd;obtain ⟨Mr,rfl,H9⟩:=H5.cs;have A6:=(Bw.e Dd).az H9;refine AEk Az ACf (cZ.klen (A6.z p8)) rfl Bx (fun h' hb=>((Aa.b p0).ext hb.ext).agg) ?_;obtain ⟨Ia,Ib,Ic⟩:=ABq Hy;refine ADg Bx (fun _ E=>Bx.thenE E) rfl (AJe (A6.z p0).2 (A6.z p8).2 Ib) fun Ms Mt Id Ie=>?_;obtain ⟨Mu,rfl,If⟩:=Ie;obtain ⟨Mv,rfl,Ih⟩:=If.cs;refine AD2 (m:=Ai) AEv rfl (Aa.o2 p2) Gu Ad rfl A5 fun Mw Ii=>?_;have Ax:=(A6.e Id).az Ih;refine AH9 (m:=Ai) (ASa ACf (cZ.klen (Ax.z p0)) rfl rfl (cZ.one (Ax.z p0))) (Ax.o2 p10) Ii Ad A5 (Ax.z p0) fun Mx Ij Ik=>ACr (q_b (q_t (AB5 (Wo (ACz rfl rfl (ABv ?_))))));obtain rfl:=ABo Ic;exact ⟨Gq,(((w64 (Cz + 1)),(sI C0 Ai (sI Gr Cz Ia)),C1,C2,C3):(Int) × (LiI) × LnA × LnN × LvA),Nat.lt_succ_self _,⟨Bq,(Ax.uO2 p10 Ik Ij).sel [8,9,10,11] (by decide)⟩,rfl,trivial⟩
     ·obtain rfl:=ABo (AC9 Aw Br);change _=Cy at Bq;subst Bq;refine ACh (ACj (ACj (ADo (q_b (q_t (AB5 (Wo (ACz rfl rfl (ABv ?_)))))))));obtain rfl:=ABo Gk;exact ⟨Gi,(((w64 (Ai + 1)),C0,C1,C2,C3):(Int) × (LiI) × LnA × LnN × LvA),Nat.lt_succ_self _,⟨Bn,Aa⟩,rfl,trivial⟩
    ·obtain rfl:=ABo (AC9 Av Bo);change _=Ct at Bn;subst Bn;refine ACh (ACj (ACj (ADo (q_t (AB5 (Wo (Wo ?_)))))));obtain ⟨My,By,Il⟩:=ABq Gd;refine ADl ADt rfl (Aj.o2 p2) rfl By fun Mz M1 M2 Im Io=>AB6 AFm rfl Io (Wo ?_);obtain ⟨Ip,De,Iq⟩:=ABq Il;refine AD2 (m:=Af) AEv rfl (Aj.o2 p2) Im By rfl De fun M3 Ir=>?_;obtain ⟨Df,Is,It⟩:=(Aj.o2 p2).cells Ir By De;have Am:=Aj.az Is;refine AOl (c:=cZ) ACf rfl (Am.z p0) (fun j u hu=>(It j u hu)) (AC7 Df ACf (cZ.klen (Am.z p0)) (cZ.klen (Am.z p2)) rfl rfl (cZ.one (Am.z p0)) (Am.b p1) fun M4 Iu Iv=>ACr (q_b (q_t ?_)));exact ⟨((F6,Cu,Cv,Cw,Cx,Ip,Df):(Bool) × (LiI) × LnA × LnN × LvA × (Int) × LvA),⟨ABo Iq,(Am.sb p1 Iv Iu rfl).sel [1,0,3,4] (by decide)⟩,rfl,trivial⟩
  rintro ⟨Iw,Ix,Iy,Iz,I0,I1,I2⟩ M5 M6 ⟨I3,I5⟩;subst I3;refine AB5 (Wo (ACz rfl rfl (ABv ?_)));obtain rfl:=ABo Ce;exact ⟨Eg,((Iw,(w64 (Af + 1)),Ix,Iy,Iz,I0,I1,I2):(Bool) × (Int) × (LiI) × LnA × LnN × LvA × (Int) × LvA),Nat.lt_succ_self _,⟨Aq,I5⟩,rfl,rfl,trivial⟩
 ·obtain rfl:=ABo (AC9 Ap Bc);change _=Ba at Aq;subst Aq;refine ACh (ACj (ACj (ADo (q_t (ABr (ABp (Wo (ABt (⟨_,rfl,fun Bz=>?_,fun Bz=>?_⟩)))))))))
  ·refine ABp (AEu Az ACf (cZ.klen (Ab.z p1)) rfl (Ab.b p0).agg ?_);obtain ⟨M7,I6,I7⟩:=ABq (ifT Bb Bz);refine ADb rfl (Ac2 (Ab.z p1).2 I6) fun M8 I9 Ja Jc=>?_;obtain ⟨M9,rfl,Je⟩:=Jc;obtain ⟨Jf,rfl,Jg⟩:=Je.cs;have A7:=(Ab.e Ja).az Jg;refine AC7 Jf ACf (cZ.klen (A7.z p0)) (cZ.klen (AB9 I9)) rfl rfl (cZ.one (A7.z p0)) (A7.b p4) fun Na Jh Ji=>ABt (ABx (AB4 ?_));have A8:=A7.sb p4 Ji Jh rfl;obtain rfl:=ABo I7;exact ⟨_,AEe ACf (cZ.klen (A8.z p0)) rfl (A8.b p4),A8.x,_,rfl,(A8.z p0).2⟩
  ·refine ABy (q_t (ABp (AEu Az ACf (cZ.klen (Ab.z p1)) rfl (Ab.b p0).agg (AC7 Az ACf (cZ.klen (Ab.z p1)) (cZ.klen (AB9 Ee)) rfl rfl (cZ.one (Ab.z p1)) (Ab.b p3) fun Nb Jj Jk=>ABt (ABx ?_)))));have A9:=Ab.sb p3 Jk Jj rfl;obtain rfl:=ABo (AH8 Bb Bz);exact ⟨_,AEe ACf (cZ.klen (A9.z p1)) rfl (A9.b p3),A9.x,_,rfl,(A9.z p1).2⟩
end Go.Proofs.YtdnbklmefmoofaaGreatDoor
namespace Go.Proofs.YtdnbklmefmoofaaGreatDoor
open Go Go.QF
set_option maxRecDepth 100000
theorem Amu {na:Bool} {m:Nat} {z:Int} (h:z=sgn na m):AG9 z=1->z=m:=by
 cases na
 ·intro _;rw [h];rfl
 ·intro h1;rw [h] at h1 ⊢;unfold AG9 sgn at h1;unfold sgn;simp at h1 ⊢;split at h1 <;> (try split at h1) <;> omega
theorem Amv {na:Bool} {m:Nat} {z:Int} (h:z=sgn na m):AG9 z= -1->z= -(m:Int):=by
 cases na
 ·intro h1;rw [h] at h1 ⊢;unfold AG9 sgn at h1;unfold sgn;simp at h1 ⊢;split at h1 <;> (try split at h1) <;> omega
 ·intro _;rw [h];rfl
def AS4 (a b:Int):Int:=if a < b then -1 else if a=b then 0 else 1
theorem Agq {a b:Int} (h:AG9 a≠AG9 b) (h2:AG9 a < AG9 b):AS4 a b= -1:=by
 unfold AG9 at h h2;unfold AS4;repeat' split at h2
 all_goals (rw [if_pos (by omega)])
theorem Agr {a b:Int} (h:AG9 a≠AG9 b) (h2: ¬ AG9 a < AG9 b):AS4 a b=1:=by
 unfold AG9 at h h2;unfold AS4
 rw [if_neg (by
   repeat' split at h2
   all_goals (repeat' split at h)
   all_goals omega),if_neg (by
     repeat' split at h2
     all_goals (repeat' split at h)
     all_goals omega)]
theorem Ac5 {na nb:Bool} {m k:Nat} {a b:Int} (ha:a=sgn na m) (hb:b=sgn nb k) (h:AG9 a=AG9 b):AG9 a * AN3 m k=AS4 a b:=by
 have h3:AG9 a= -1∨AG9 a=0∨AG9 a=1:=by unfold AG9;split;exact .inl rfl;split;exact .inr (.inl rfl);exact .inr (.inr rfl)
 rcases h3 with h1 | h1 | h1
 ·have e1:=Amv ha h1;have e2:=Amv hb (h ▸ h1);rw [h1];unfold AN3 AS4;repeat' split
  all_goals omega
 ·have z:∀ x:Int,AG9 x=0->x=0:=fun x hx=>by unfold AG9 at hx;repeat' split at hx;all_goals omega
  have e1:=z a h1;have e2:=z b (h ▸ h1);rw [h1,e1,e2];simp [AS4]
 ·have e1:=Amu ha h1;have e2:=Amu hb (h ▸ h1);rw [h1];unfold AN3 AS4;repeat' split
  all_goals omega
theorem Apv (a b:Nat): -1<=AN3 a b/\AN3 a b<=1:=by
 unfold AN3;repeat' split;all_goals omega
theorem Apw (a:Int): -1<=AG9 a/\AG9 a<=1:=by
 unfold AG9;repeat' split;all_goals omega
theorem Apx {x y:Int} (hx: -1<=x/\x<=1) (hy: -1<=y/\y<=1):IntKind.i64.wrap (x * y)=x * y:=by
 obtain ⟨x1,x2⟩:=hx;obtain ⟨y1,y2⟩:=hy;have Aa:x= -1∨x=0∨x=1:=by omega
 have Ab:y= -1∨y=0∨y=1:=by omega
 rcases Aa with rfl | rfl | rfl <;> rcases Ab with rfl | rfl | rfl <;> decide
theorem Apy {h:ABu} {lo:Nat} {va:Value} {z:Int} (HA:ZV h lo va z):ACn Tryz.prog 132 #[va] h fun x h'=>Ext h h'/\ZV h' (Array.size h) x (z.natAbs:Int):=by
 obtain ⟨na,sa,LA,rfl,HDa,htla,hla,hza⟩:=HA.out;have hna:LA.length<=1000000:=by omega
 have hba:nv LA < 4294967296 ^ 100:=Nat.lt_of_lt_of_le (ANw HDa.dig) (Nat.pow_le_pow_right (by decide) hla);refine AC5 (l:=[_]) mx Tryz.func132 rfl rfl rfl rfl rfl (by kernel_rfl) (ABp (AJd [.bool na,sa] (fun _=>trivial) rfl rfl fun Ag h2 V3 E4 Ao Be=>?_));have Bf:Array.size h<=Ag:=Ao;have Bg:=E4.1;have Z8:=(Ext.refl h).trans E4;refine AGi [.bool false,.slice none 0 0] AGk rfl (fun _=>trivial) fun Aa Bh Aq Ab Ar Bi=>?_;have Bj:Array.size h<=Aa:=Nat.le_trans E4.1 Ar;have nebq1bq9:Ag≠Aa:=by have:=V3.lt;omega
 have Bl:=Ab.1;have Au:=Z8.trans Ab;have Ai:=E4.trans Ab;have Av:=E4.trans Ab;refine AK0 (AHj (fs:=1) AMl (by kernel_rfl) (by decide) rfl (AB6 AIx rfl ((V3.ext Ab).cell (i:=1) rfl) (ACl trivial rfl (ANc false (HDa.ext Ai) hna hba) fun Bm Bn hk=>?_)));obtain ⟨Ac,Aw⟩:=hk;refine ⟨trivial,?_⟩;have Bo:=Ac.1;have Ax:=Au.trans Ac;have Ay:=Ai.trans Ac;have Az:=Av.trans Ac;have A3:=Aq.ext Ac;have A4:=Ab.trans Ac;obtain ⟨Aj,s3,L3,rfl,Am,A6,A7,A8⟩:=Aw.out;refine AC7 [.bool Aj,s3] ACf rfl rfl rfl rfl (AGj Am.cap) A3 fun Bp A9 Ad=>?_;have Ba:=Ay.thenUpd Ad (fun k hk=>by have Af:k=Aa:=hk;omega);have Bq:=Ad.1;have Br:=Ax.thenUpd Ad (fun k hk=>by have Af:k=Aa:=hk;omega);have Bt:=A4.thenUpd Ad (fun k hk=>by have Af:k=Aa:=hk;omega);have Bu:=Az.thenUpd Ad (fun k hk=>by have Af:k=Aa:=hk;omega);have Bb:=Am.updLo Ad (by omega);refine ABt (ABx (⟨_,AEe ACf rfl rfl A9,?_⟩));exact ⟨Ba,⟨Aj,s3,L3,rfl,Bb.mono (by omega),A6,A7,by rw [<- A8,AGr hza];rfl⟩⟩
theorem Apz {h:ABu} {la lb:Nat} {va vb:Value} {a b:Int} (HA:ZV h la va a) (HB:ZV h lb vb b):ACn Tryz.prog 72 #[va,vb] h fun x h'=>Ext h h'/\x= .int .i64 (AS4 a b):=by
 obtain ⟨na,sa,LA,rfl,HDa,htla,hla,hza⟩:=HA.out;obtain ⟨nb,sb,LB,rfl,HDb,htlb,hlb,hzb⟩:=HB.out;refine AC5 (l:=[_,_]) mx Tryz.func72 rfl rfl rfl rfl rfl (by kernel_rfl) (ABp (AJd [.bool na,sa] (fun _=>trivial) rfl rfl fun Aq h2 V3 E4 A7 B4=>?_));have B5:Array.size h<=Aq:=A7;have B6:=E4.1;have Z8:=(Ext.refl h).trans E4;refine AJd [.bool nb,sb] (fun _=>trivial) rfl rfl fun Au Av Aw Ag A9 B7=>?_;have B8:Array.size h<=Au:=Nat.le_trans E4.1 A9;have nebq1bq9:Aq≠Au:=by have:=V3.lt;omega
 have B9:=Ag.1;have Ba:=Z8.trans Ag;have Ax:=E4.trans Ag;have Ay:=V3.ext Ag;have Bb:=E4.trans Ag;refine ABv (ABr (AEd (fun h'=>Ext Av h') (by kernel_rfl) ?_));have Af:=Ext.refl Av;refine AEk [.bool na,sa] ACf rfl rfl Af (fun h' hb=>(Ay.ext hb).agg) (ACl Af rfl (AUz (HA.ext Ax)) fun Ca Cb hk=>?_);obtain ⟨Ab,rfl⟩:=hk;have Ai:=Af.trans Ab;refine ⟨Ai,?_⟩;have Cd:=Ab.1;have Bc:=Ba.trans Ab;have Az:=Ax.trans Ab;have Be:=Ay.ext Ab;have Bf:=Bb.trans Ab;have Bg:=Aw.ext Ab;have Bh:=Ag.trans Ab;refine AEk [.bool nb,sb] ACf rfl rfl Ai (fun h' hb=>(Aw.ext hb).agg) (ACl Ai rfl (AUz (HB.ext Az)) fun Ce A3 hk=>?_);obtain ⟨Ac,rfl⟩:=hk;have Bi:=Ai.trans Ac;refine ⟨Bi,?_⟩;have Cf:=Ac.1;have Bj:=Bc.trans Ac;have Ad:=Az.trans Ac;have A4:=Be.ext Ac;have Bl:=Bf.trans Ac;have A5:=Bg.ext Ac;have Bm:=Bh.trans Ac;refine ACk (ABv (ABr (ABp (Wo (Wo (Abh rfl rfl (fun Bn=>?_) (fun Bn=>?_)))))))
 ·refine ABt (ACd rfl (ABr (ABp (Wo (Wo (AF5 rfl rfl (fun Bo=>?_) (fun Bo=>?_)))))))
  ·refine ABt (ACd rfl (ABp (ABv (ABx (AB4 (AB4 (⟨_,ABz,?_⟩)))))));first | exact ⟨Ad,congrArg (Value.int .i64) (by rw [Ak,Am];exact Ac5 hza hzb (by omega))⟩ | exact ⟨Ad,congrArg (Value.int .i64) (Agq (by assumption) (by assumption)).symm⟩ | exact ⟨Ad,congrArg (Value.int .i64) (Agr (by assumption) (by omega)).symm⟩
  ·refine ABt (ACo rfl (ABy (q_t (ABp (ABv (ABx (AB4 (⟨_,ABz,?_⟩))))))));first | exact ⟨Ad,congrArg (Value.int .i64) (by rw [Ak,Am];exact Ac5 hza hzb (by omega))⟩ | exact ⟨Ad,congrArg (Value.int .i64) (Agq (by assumption) (by assumption)).symm⟩ | exact ⟨Ad,congrArg (Value.int .i64) (Agr (by assumption) (by omega)).symm⟩
 ·refine ABt (ACo rfl (ABy (q_t (ABr (AEd (fun h'=>Ext A3 h') (by kernel_rfl) ?_)))));have Af:=Ext.refl A3;refine Wo (AHj (fs:=1) AMl (by kernel_rfl) (by decide) rfl (AEt AIx rfl Af (fun h' hb=>(A4.ext hb).cell (i:=1) rfl) (ACl Af rfl (AJt (DS.ext HDa Ad) (by omega)) fun Cg Ch hk=>?_)));obtain ⟨Ae,L1,Bp,Bq,Ak,Cj⟩:=hk;have Aj:=Af.trans Ae;refine ⟨Aj,?_⟩;have Ck:=Ae.1;have Br:=Bj.trans Ae;have A6:=Ad.trans Ae;have Bt:=A4.ext Ae;have Bu:=Bl.trans Ae;have Bv:=A5.ext Ae;have Bw:=Bm.trans Ae;refine AHj (fs:=1) AMl (by kernel_rfl) (by decide) rfl (AEt AIx rfl Aj (fun h' hb=>(A5.ext hb).cell (i:=1) rfl) (ACl Aj rfl (AJt (DS.ext HDb A6) (by omega)) fun Cm Bx hk=>?_));obtain ⟨Aa,L2,By,Bz,Am,Co⟩:=hk;have Ao:=Aj.trans Aa;refine ⟨Ao,?_⟩;have Cp:=Aa.1;have Cq:=Br.trans Aa;have Ap:=A6.trans Aa;have Cr:=Bt.ext Aa;have Ct:=Bu.trans Aa;have Cu:=Bv.ext Aa;have Cv:=Bw.trans Aa;have B1:=Bp.ext Aa;refine ACl Ao rfl (AY4 B1 By Bq Bz (by omega) (by omega)) fun Cw Bx hk=>?_;obtain ⟨rfl,rfl⟩:=hk;refine ⟨Ao,?_⟩;refine AQ3 rfl rfl ?_;rw [Apx (Apw _) (Apv _ _)];refine ABv (ABx (⟨_,ABz,?_⟩));first | exact ⟨Ap,congrArg (Value.int .i64) (by rw [Ak,Am];exact Ac5 hza hzb (by omega))⟩ | exact ⟨Ap,congrArg (Value.int .i64) (Agq (by assumption) (by assumption)).symm⟩ | exact ⟨Ap,congrArg (Value.int .i64) (Agr (by assumption) (by omega)).symm⟩
def Aia (fuel:Nat) (a:Int):Option Int:=some (a.natAbs:Int)
def Abt (fuel:Nat) (a b:Int):Option Int:=some (AS4 a b)
theorem Ags {fuel:Nat} {h:ABu} {u:Value} {a r:Int} (H1:ZZ h u a) (hp:Aia fuel a=some r):ACn Tryz.prog 132 #[u] h (fun x h'=>Ext h h'/\ ∃ (x0:Value),x=x0/\ZZ h' x0 r):=by
 cases hp;exact (Apy H1).mono fun x h' hk=>⟨hk.1,x,rfl,hk.2.zz⟩
theorem Aad {fuel:Nat} {h:ABu} {u v:Value} {a b r:Int} (H1:ZZ h u a) (H2:ZZ h v b) (hp:Abt fuel a b=some r):ACn Tryz.prog 72 #[u,v] h (fun x h'=>Ext h h'/\x= .int .i64 r):=by
 cases hp;exact Apz H1 H2
end Go.Proofs.YtdnbklmefmoofaaGreatDoor
namespace Go.Proofs.YtdnbklmefmoofaaGreatDoor
open Go Go.QF
set_option maxRecDepth 100000
set_option maxHeartbeats 4000000
def AKc (fuel:Nat) (a3:LiI) (Ab:Int) (Af:LiA) (Aa:Int) (Ac:LiI):Option ((Int × LiI) ⊕ (((LiI × Bool)) ⊕ (LiI))):=
  (if Aa < (Af.length:Int) then ((gI a3 Ab).bind fun Ag=>((gI Ag Aa).bind fun Ah=>((AVj fuel Ah).bind fun (Ai,Aj)=>(if (!Aj)=true then (some (Sum.inr<| Sum.inl <| ([],false))) else ((gI Ac Ab).bind fun Ad=>((gI Ad Aa).bind fun Ak=>(some (Sum.inl ((w64 (Aa + 1)),(sI Ac Ab (sI Ad Aa Ai))))))))))) else (some (Sum.inr<| Sum.inr <| Ac)))
def AKd (fuel:Nat) (a3:LiI) (x5 x6 Aa:Int) (Ac:LiI):Option ((Int × LiI) ⊕ (((LiI × Bool)) ⊕ (LiI))):=
  (if Aa < ((List.replicate (Int.toNat x5) ([]:List Int)).length:Int) then (if 0<=x6/\x6<=100000000 then ((gI Ac Aa).bind fun Ai=>((gI (sI Ac Aa (List.replicate (Int.toNat x6) (0:Int))) Aa).bind fun Af=>((iter (fun s=>AKc fuel a3 Aa Af s.1 s.2) fuel (0,(sI Ac Aa (List.replicate (Int.toNat x6) (0:Int))))).bind (fun ex=>match ex with | Sum.inl Ag=>(some (Sum.inr<| Sum.inl <| Ag)) | Sum.inr (Ah)=>(some (Sum.inl ((w64 (Aa + 1)),Ah))))))) else none) else (some (Sum.inr<| Sum.inr <| Ac)))
def AHt (fuel:Nat) (a3:LiI):Option (LiI × Bool):=
  ((AD0 fuel a3).bind fun (x5,x6,x7)=>(if (!x7)=true then (some ([],false)) else (if 0<=x5/\x5<=100000000 then ((iter (fun s=>AKd fuel a3 x5 x6 s.1 s.2) fuel (0,(List.replicate (Int.toNat x5) ([]:List Int)))).bind (fun ex=>match ex with | Sum.inl Ae=>(some Ae) | Sum.inr (Af)=>(some (Af,true)))) else none)))
theorem ARx {fuel:Nat} {h:ABu} {A4:Value} {a3:LiI} {r:(LiI × Bool)} (H2:AEq cZ h A4 a3) (hp:AHt fuel a3=some r):ACn Tryz.prog 40 #[A4] h (fun x h'=>Ext h h'/\ ∃ (x0:Value) (F0:List Nat) (Bt:List LnA) (Bu:List Value),x= .tuple #[x0,.bool r.2]/\AFf (cI .i64) 35 2 h' F0 Bt Bu x0 r.1/\Sp h' h.size [F0]):=by
 unfold AHt at hp;refine cwf (l:=[_]) Tryz.func40 rfl rfl (ABp (ACk (AC1 (Wo ?_))));have K0:=Kst.k0 h;obtain ⟨⟨x5,x6,x7⟩,Bx,Aj⟩:=ABq hp;dsimp only at Aj;refine ADb rfl (AIn (H2.ext K0.x) Bx) fun Dr Ds By Bz=>?_;subst Bz;refine Wo (ADm rfl rfl (ADm rfl rfl (ADm rfl rfl (ACk (ACk (ABv (ABr (ABp (Wo (AE1 rfl (ABt ?_)))))))))));have Ba:=K0.e By;refine ⟨_,rfl,fun Ak=>?_,fun Ak=>?_⟩
 ·refine ABp (ACk (ABv (ABx (AB4 ?_))));have Am:=Kst.anil2 (cI .i64) 35 2 Ba;obtain rfl:=ABo (ifT Aj Ak);exact ⟨_,ADj,Am.x,_,_,_,_,rfl,(Am.o2 p0),Am.s.sel [0] (by decide)⟩
 ·refine ABy (q_t (ABp (Wo ?_)));obtain ⟨B1,B3⟩:=ifN (AH8 Aj Ak);refine ASb (cI .i64) 2 ACi AN2 rfl trivial tt2 rfl rfl (by decide) B1 fun B4 B5 B6 Bb Dt B7 B8 B9=>ABv (ABr (ABp (Wo ?_)));have Ao:=Ba.no2 B8 B9 B7;refine ADa ACi rfl (Ao.o2 p0).rd (Wo (ABt (ABw ?_)));obtain ⟨Ap,Ca,Bc⟩:=ABq B3;obtain ⟨Cb,Cd,Ce⟩:=ACe Ca;refine ACq 4611686018410614540 (fun x:(Int) × (LiI) × LnA × LnN × LvA=>[(24,(.int .i64 x.1))]) (fun k x h'=>iter Cb k (x.1,x.2.1)=some Ap/\Kst h h' (Ao.L.set 0 (aO2 (cI .i64) 35 2 x.2.2.1 x.2.2.2.1 x.2.2.2.2 Bb x.2.1))) (by kernel_rfl) fuel ((0,(List.replicate (Int.toNat x5) ([]:List Int)),B4,B5,B6):(Int) × (LiI) × LnA × LnN × LvA) ?_ ⟨rfl,trivial⟩ ?_
  ·exact ⟨Ce,Ao⟩
  rintro Du ⟨Aa,Cf,Dv,Be,Cg⟩ Dw Dx ⟨Ch,Ai⟩;obtain ⟨Ci,Dy,rfl,Ac,Ad⟩:=AB7 Ch;rw [Cd] at Ac;dsimp only at Ac;unfold AKd at Ac;refine ABp (ACu rfl rfl (ABt (ABr (⟨_,rfl,fun Aq=>?_,fun Aq=>?_⟩))))
  ·refine ABy (q_t (ABr (ABw (ABp (Wo (AC1 (Wo (Wo (Wo ?_)))))))));obtain ⟨Cj,Ck⟩:=ifN (AC8 Ac Aq);refine ARb (c:=(cI .i64)) (a:=0) ACs AMw rfl rfl (fun _=>rfl) rfl trivial tt2 rfl rfl (by decide) Cj fun Bf Cm Dz Cn Co Cp Cq=>?_;have Ae:=Ai.no Co (AIj Cp Cq) Cn;obtain ⟨D0,Bg,Cr⟩:=ABq Ck;refine ADl ACi rfl (Ae.o2 p1) rfl Bg fun Ct D1 Cu D2 D3=>AS0 AC3 (Ae.o2 p1) Bg Cu rfl rfl (Ae.o p0) (Ae.dj p0 p1 (by decide)) fun D4 Cv Cw Cx=>AK0 (Wo (Wo ?_));have Ar:=Ae.m2 p0 p1 (by decide) Cw Cv (fun z hz=> .inl (Cx z hz));obtain ⟨D5,Bh,Cy⟩:=ABq Cr;refine ADl ACi rfl (Ar.o2 p1) rfl Bh fun D6 D7 D8 Cz C0=>AB6 AC3 rfl C0 (ADh ACs rfl ((Ar.o2 p1).rowI Cz Bh) (Wo (ABt (ABw ?_))));obtain ⟨Au,C1,Bi⟩:=ABq Cy;obtain ⟨C2,C3,C4⟩:=ACe C1;have Av:=Ar.sel [1] (by decide);dsimp only [AI3,AMm] at Av;refine ACq 2305842871774744076 (fun x:(Int) × (LiI) × LnA × LnN × LvA=>[(37,(.int .i64 x.1))]) (fun k x h'=>iter C2 k (x.1,x.2.1)=some Au/\Kst h h' (Av.L.set 0 (aO2 (cI .i64) 35 2 x.2.2.1 x.2.2.2.1 x.2.2.2.2 Bb x.2.1))) (by kernel_rfl) fuel ((0,(sI Cf Aa (List.replicate (Int.toNat x6) (0:Int))),(Ct :: (Be.set (Int.toNat Aa) [Bf]).flatten),(Be.set (Int.toNat Aa) [Bf]),(Cg.set (Int.toNat Aa) Cm)):(Int) × (LiI) × LnA × LnN × LvA) ?_ ⟨rfl,trivial⟩ ?_
   ·exact ⟨C4,Av⟩
   rintro D9 ⟨Bj,Bl,Bm,Bn,Bo⟩ Ea Eb ⟨C5,Ab⟩;obtain ⟨C6,Ec,rfl,Af,Ag⟩:=AB7 C5;rw [C3] at Af;dsimp only at Af;unfold AKc at Af;refine ABp (ACu rfl rfl (ABt (ABr (⟨_,rfl,fun Aw=>?_,fun Aw=>?_⟩))))
   ·refine ABy (q_t (ABr (ABw (ABp (Wo (AC1 (Wo (Wo ?_))))))));obtain ⟨Ed,C7,C8⟩:=ABq (AC8 Af Aw);refine AFg ADt rfl H2 rfl C7 fun Ee Ef Eg C9 Da=>AB6 AFm rfl (AB1 C9 Ab.x) (Wo ?_);obtain ⟨Eh,Db,Dc⟩:=ABq C8;refine AHe (c:=cZ) AEv rfl Da rfl Db fun Ei Ej Ek Bp Dd=>AOl (c:=cZ) ACf rfl (Ab.zx Bp) (fun j u hu=>(AB1 (Dd j u hu) Ab.x)) ?_;obtain ⟨⟨Bq,El⟩,De,Ax⟩:=ABq Dc;dsimp only at Ax;refine ADb rfl (AZ9 (Ab.zx Bp).2 De) fun Em En Df Dg=>?_;subst Dg;refine Wo (ADm rfl rfl (ADm rfl rfl (ACk (ABv (ABr (ABp (Wo (AE1 rfl (ABt ?_)))))))));have Ah:=Ab.e Df;refine ⟨_,rfl,fun Ay=>?_,fun Ay=>?_⟩
    ·refine ABp (ACk (ABv ?_));obtain rfl:=ABo (ifT Ax Ay);change _=Au at Ag;subst Ag;obtain rfl:=ABo Bi;change _=Ap at Ad;subst Ad;refine ABx (AB4 (ADe (AB4 (AB4 (ADe (ADe (AB4 (AB4 (ADe (AB4 ?_))))))))));have Az:=Kst.anil2 (cI .i64) 35 2 Ah;obtain rfl:=ABo Bc;exact ⟨_,ADj,Az.x,_,_,_,_,rfl,(Az.o2 p0),Az.s.sel [0] (by decide)⟩
    ·refine ABy (q_t (AB5 (Wo (Wo ?_))));obtain ⟨Dh,A3,Di⟩:=ABq (AH8 Ax Ay);refine ADl ACi rfl (Ah.o2 p0) rfl A3 fun Eo Ep Er Dj Dk=>AB6 AC3 rfl Dk (Wo (Wo ?_));obtain ⟨Es,Br,Dl⟩:=ABq Di;refine AD2 (m:=Aa) ACs rfl (Ah.o2 p0) Dj A3 rfl Br fun Et Dn=>AH9 (m:=Aa) (AG8 ACx rfl rfl rfl) (Ah.o2 p0) Dn A3 Br (show ((cI .i64)).rep _ Bq _ from rfl) fun Eu Do Dp=>ACr (q_b (q_t (AB5 (ACz rfl rfl (Wo (ABt ?_))))));obtain rfl:=ABo Dl;exact ⟨C6,(((w64 (Bj + 1)),(sI Bl Aa (sI Dh Bj Bq)),Bm,Bn,Bo):(Int) × (LiI) × LnA × LnN × LvA),Nat.lt_succ_self _,⟨Ag,(Ah.uO2 p0 Dp Do)⟩,rfl,trivial⟩
   ·obtain rfl:=ABo (AC9 Af Aw);change _=Au at Ag;subst Ag;refine ACh (ACj (ACj (ADo (q_b (q_t (AB5 (ACz rfl rfl (Wo (ABt ?_)))))))));obtain rfl:=ABo Bi;exact ⟨Ci,(((w64 (Aa + 1)),Bl,Bm,Bn,Bo):(Int) × (LiI) × LnA × LnN × LvA),Nat.lt_succ_self _,⟨Ad,Ab⟩,rfl,trivial⟩
  ·obtain rfl:=ABo (AC9 Ac Aq);change _=Ap at Ad;subst Ad;refine ACh (ACj (ACj (ADo (q_t (ABp (Wo (ACk (ABv (ABx ?_)))))))));obtain rfl:=ABo Bc;exact ⟨_,ADj,Ai.x,_,_,_,_,rfl,(Ai.o2 p0),Ai.s.sel [0] (by decide)⟩
def AJi (fuel:Nat) (Ad:LiI) (Aa:Int) (Ab:LiI):Option ((Int × LiI) ⊕ ((LiI))):=
  (if Aa < (Ad.length:Int) then ((gI Ab Aa).bind fun Ac=>((ALf fuel 1).bind fun Ae=>((gI Ac Aa).bind fun Af=>(some (Sum.inl ((w64 (Aa + 1)),(sI Ab Aa (sI Ac Aa Ae)))))))) else (some (Sum.inr<| Ab)))
def AFi (fuel:Nat) (a1:Int):Option (LiI × Bool):=
  (((if a1 < 1 then (some (Sum.inl <| ([],false))) else (if 16 < a1 then (some (Sum.inl <| ([],false))) else (some (Sum.inr <| ())))):Option (((LiI × Bool)) ⊕ (Unit))).bind (fun ex=>match ex with | Sum.inl Ac=>(some Ac) | Sum.inr (_)=>((AE4 fuel a1 a1).bind fun Ab=>((iter (fun s=>AJi fuel Ab s.1 s.2) fuel (0,Ab)).bind (fun (Ad:LiI)=>(some (Ad,true)))))))
theorem AM5 {fuel:Nat} {h:ABu} {a1:Int} {r:(LiI × Bool)} (hp:AFi fuel a1=some r):ACn Tryz.prog 38 #[(.int .i64 a1)] h (fun x h'=>Ext h h'/\ ∃ (x0:Value) (F0:List Nat) (A4:List LnA) (A5:List Value),x= .tuple #[x0,.bool r.2]/\AFf cZ 100 90 h' F0 A4 A5 x0 r.1/\Sp h' h.size [F0]):=by
 unfold AFi at hp;refine cwf (l:=[_]) Tryz.func38 rfl rfl (ABp (ACk (ABv ?_)));have K0:=Kst.k0 h;obtain ⟨A6,Ax,Ah⟩:=ABq hp;refine ALi 4044 (fun x:Unit=>[]) (fun x h'=>(Sum.inr <| ())=A6/\Kst h h' (K0.L)) ?_ ?_
 ·refine ABp (Wo (ACu rfl rfl (Wo ?_)));by_cases Af:a1 < 1
  ·rw [decide_eq_true Af];refine AIg 8 true (AB2 rfl (ABt (ACd rfl (ABp (ACk (ABv ?_))))));obtain rfl:=ABo (ifT Ax Af);refine ABx (AB4 ?_);have Ai:=Kst.anil2 cZ 100 90 K0;obtain rfl:=ABo Ah;exact ⟨_,ADj,Ai.x,_,_,_,_,rfl,(Ai.o2 p0),Ai.s.sel [0] (by decide)⟩
  ·have Ay:=ifF Ax Af;rw [decide_eq_false Af];refine AB3 8 false (Wo (AB3 8 false (AGz rfl rfl (AB0 rfl (ABt (⟨_,rfl,fun Aj=>?_,fun Aj=>?_⟩))))))
   ·refine ABp (ACk (ABv ?_));obtain rfl:=ABo (AC8 Ay Aj);refine ABx (AB4 ?_);have Ak:=Kst.anil2 cZ 100 90 K0;obtain rfl:=ABo Ah;exact ⟨_,ADj,Ak.x,_,_,_,_,rfl,(Ak.o2 p0),Ak.s.sel [0] (by decide)⟩
   ·refine ABy (q_t ?_);exact ⟨(():Unit),⟨ABo (AC9 Ay Aj),K0⟩,trivial⟩
 rintro ⟨⟩ Cg Ch ⟨A7,A8⟩;subst A7;refine ABp (Wo (Wo ?_));obtain ⟨A9,Ba,Bb⟩:=ABq Ah;refine ADb rfl (AIt Ba) fun Bc Ci Be Bf=>?_;obtain ⟨Cj,Bg,Bh,Bi,rfl,Bj,Bl⟩:=Bf;refine ABv (ABr (ABp (Wo ?_)));have Am:=A8.no2 Be Bl Bj;refine ADa ADt rfl (Am.o2 p0).rd (Wo (ABt (ABw ?_)));obtain ⟨Az,Bm,Bn⟩:=ABq Bb;obtain ⟨Bo,Bp,Bq⟩:=ACe Bm;refine ACq 268304416 (fun x:(Int) × (LiI) × LnA × LnN × LvA=>[(17,(.int .i64 x.1))]) (fun k x h'=>iter Bo k (x.1,x.2.1)=some Az/\Kst h h' (Am.L.set 0 (aO2 cZ 100 90 x.2.2.1 x.2.2.2.1 x.2.2.2.2 Bc x.2.1))) (by kernel_rfl) fuel ((0,A9,Bg,Bh,Bi):(Int) × (LiI) × LnA × LnN × LvA) ?_ ⟨rfl,trivial⟩ ?_
 ·exact ⟨Bq,Am⟩
 rintro Ck ⟨Ab,Br,Bt,Bu,Bv⟩ Cm Ao ⟨Bw,Aa⟩;obtain ⟨Bx,Cn,rfl,Ac,Ap⟩:=AB7 Bw;rw [Bp] at Ac;dsimp only at Ac;unfold AJi at Ac;refine ABp (ACu rfl rfl (ABt (ABr (⟨_,rfl,fun Aq=>?_,fun Aq=>?_⟩))))
 ·refine ABy (q_t (ABr (ABw (ABp (Wo (ABv (AEd (fun h'=>UpT [] Ao h') (by kernel_rfl) ?_)))))));have Ar:UpT [] Ao Ao:=UpT.start all_nil;refine Wo (Wo ?_);obtain ⟨By,Au,Bz⟩:=ABq (AC8 Ac Aq);refine ADl ADt rfl (Aa.o2 p0) rfl Au fun Co Cp Cq B1 B3=>AEt AFm rfl Ar (fun h' hb=>AB1 B3 hb.ext) (Wo ?_);obtain ⟨B4,B5,B6⟩:=ABq Bz;refine ADg Ar (fun _ E=>Ar.thenE E) rfl (AKp B5) fun Cr Ct B7 B8=>?_;obtain ⟨Cu,rfl,B9⟩:=B8;obtain ⟨Cv,rfl,Ca⟩:=B9.cs;have Ad:=(Aa.e B7).az Ca;obtain ⟨Cw,A3,Cb⟩:=ABq B6;refine AD2 (m:=Ab) AEv rfl (Aa.o2 p0) B1 Au rfl A3 fun Cx Cd=>AH9 (m:=Ab) (ASa ACf (cZ.klen (Ad.z p0)) rfl rfl (cZ.one (Ad.z p0))) (Ad.o2 p1) Cd Au A3 (Ad.z p0) fun Cy Ce Cf=>ACr (q_b (q_t (AB5 (ACz rfl rfl (Wo (ABt ?_))))));obtain rfl:=ABo Cb;exact ⟨Bx,(((w64 (Ab + 1)),(sI Br Ab (sI By Ab B4)),Bt,Bu,Bv):(Int) × (LiI) × LnA × LnN × LvA),Nat.lt_succ_self _,⟨Ap,(Ad.uO2 p1 Cf Ce).sel [1] (by decide)⟩,rfl,trivial⟩
 ·obtain rfl:=ABo (AC9 Ac Aq);change _=Az at Ap;subst Ap;refine ACh (ACj (ACj (ADo (q_t (ABp (Wo (ACk (ABv (ABx ?_)))))))));obtain rfl:=ABo Bn;exact ⟨_,ADj,Aa.x,_,_,_,_,rfl,(Aa.o2 p0),Aa.s.sel [0] (by decide)⟩
def AIy (fuel:Nat) (a3:LiI) (Ab:Int) (Af:LiA) (Aa:Int) (Ac:LiI):Option ((Int × LiI) ⊕ ((LiI))):=
  (if Aa < (Af.length:Int) then ((gI Ac Aa).bind fun Ad=>((gI a3 Ab).bind fun Ag=>((gI Ag Aa).bind fun Ah=>((ASc fuel Ah).bind fun Ai=>((gI Ad Ab).bind fun Aj=>(some (Sum.inl ((w64 (Aa + 1)),(sI Ac Aa (sI Ad Ab Ai)))))))))) else (some (Sum.inr<| Ac)))
def AIz (fuel:Nat) (a3:LiI) (Aa:Int) (Ac:LiI):Option ((Int × LiI) ⊕ ((LiI))):=
  (if Aa < (a3.length:Int) then ((gI a3 Aa).bind fun Ad=>((iter (fun s=>AIy fuel a3 Aa Ad s.1 s.2) fuel (0,Ac)).bind (fun (Ae:LiI)=>(some (Sum.inl ((w64 (Aa + 1)),Ae)))))) else (some (Sum.inr<| Ac)))
def AE5 (fuel:Nat) (a3:LiI):Option (LiI × Bool):=
  ((AD0 fuel a3).bind fun (x5,x6,x7)=>(if (!x7)=true then (some ([],false)) else ((AE4 fuel x6 x5).bind fun Ae=>((iter (fun s=>AIz fuel a3 s.1 s.2) fuel (0,Ae)).bind (fun (Af:LiI)=>(some (Af,true)))))))
theorem AMn {fuel:Nat} {h:ABu} {Av:Value} {a3:LiI} {r:(LiI × Bool)} (H2:AEq cZ h Av a3) (hp:AE5 fuel a3=some r):ACn Tryz.prog 87 #[Av] h (fun x h'=>Ext h h'/\ ∃ (x0:Value) (F0:List Nat) (Bg:List LnA) (Bh:List Value),x= .tuple #[x0,.bool r.2]/\AFf cZ 100 90 h' F0 Bg Bh x0 r.1/\Sp h' h.size [F0]):=by
 unfold AE5 at hp;refine cwf (l:=[_]) Tryz.func87 rfl rfl (ABp (ACk (AC1 (Wo ?_))));have K0:=Kst.k0 h;obtain ⟨⟨x5,x6,x7⟩,Bi,Ai⟩:=ABq hp;dsimp only at Ai;refine ADb rfl (AIn (H2.ext K0.x) Bi) fun Dd De Bj Bl=>?_;subst Bl;refine Wo (ADm rfl rfl (ADm rfl rfl (ADm rfl rfl (ACk (ACk (ABv (ABr (ABp (Wo (AE1 rfl (ABt ?_)))))))))));have A3:=K0.e Bj;refine ⟨_,rfl,fun Aj=>?_,fun Aj=>?_⟩
 ·refine ABp (ACk (ABv (ABx (AB4 ?_))));have Ak:=Kst.anil2 cZ 100 90 A3;obtain rfl:=ABo (ifT Ai Aj);exact ⟨_,ADj,Ak.x,_,_,_,_,rfl,(Ak.o2 p0),Ak.s.sel [0] (by decide)⟩
 ·refine ABy (q_t (ABp (Wo (Wo ?_))));obtain ⟨Bm,Bn,Bo⟩:=ABq (AH8 Ai Aj);refine ADb rfl (AIt Bn) fun A4 Df Bp Bq=>?_;obtain ⟨Dg,Br,Bt,Bu,rfl,Bv,Bw⟩:=Bq;refine ABv (ABr (ABp (Wo (ADa ADt rfl H2 (Wo (ABt (ABw ?_)))))));have A5:=A3.no2 Bp Bw Bv;obtain ⟨A6,Bx,By⟩:=ABq Bo;obtain ⟨Bz,B1,B3⟩:=ACe Bx;refine ACq 1125899898454784 (fun x:(Int) × (LiI) × LnA × LnN × LvA=>[(23,(.int .i64 x.1))]) (fun k x h'=>iter Bz k (x.1,x.2.1)=some A6/\Kst h h' (A5.L.set 0 (aO2 cZ 100 90 x.2.2.1 x.2.2.2.1 x.2.2.2.2 A4 x.2.1))) (by kernel_rfl) fuel ((0,Bm,Br,Bt,Bu):(Int) × (LiI) × LnA × LnN × LvA) ?_ ⟨rfl,trivial⟩ ?_
  ·exact ⟨B3,A5⟩
  rintro Dh ⟨A7,B4,B5,B6,B7⟩ Di Dj ⟨B8,Ab⟩;obtain ⟨B9,Dk,rfl,Ac,Am⟩:=AB7 B8;rw [B1] at Ac;dsimp only at Ac;unfold AIz at Ac;refine ABp (ACu rfl rfl (ABt (ABr (⟨_,rfl,fun Ao=>?_,fun Ao=>?_⟩))))
  ·refine ABy (q_t (ABr (ABw (ABp (Wo (AC1 (Wo (Wo ?_))))))));obtain ⟨Dl,Ca,Cb⟩:=ABq (AC8 Ac Ao);refine AFg ADt rfl H2 rfl Ca fun Dn Do Dp Cd Ce=>AB6 AFm rfl (AB1 Cd Ab.x) (ADh AEv rfl Ce (Wo (ABt (ABw ?_))));obtain ⟨A8,Cf,Cg⟩:=ABq Cb;obtain ⟨Ch,Ci,Cj⟩:=ACe Cf;refine ACq 562947805938176 (fun x:(Int) × (LiI) × LnA × LnN × LvA=>[(31,(.int .i64 x.1))]) (fun k x h'=>iter Ch k (x.1,x.2.1)=some A8/\Kst h h' (Ab.L.set 0 (aO2 cZ 100 90 x.2.2.1 x.2.2.2.1 x.2.2.2.2 A4 x.2.1))) (by kernel_rfl) fuel ((0,B4,B5,B6,B7):(Int) × (LiI) × LnA × LnN × LvA) ?_ ⟨rfl,trivial⟩ ?_
   ·exact ⟨Cj,Ab⟩
   rintro Dq ⟨Ah,A9,Ba,Bb,Bc⟩ Dr Ap ⟨Ck,Aa⟩;obtain ⟨Cm,Ds,rfl,Ad,Aq⟩:=AB7 Ck;rw [Ci] at Ad;dsimp only at Ad;unfold AIy at Ad;refine ABp (ACu rfl rfl (ABt (ABr (⟨_,rfl,fun Ar=>?_,fun Ar=>?_⟩))))
   ·refine ABy (q_t (ABr (ABw (ABp (Wo (ABv (AEd (fun h'=>UpT [] Ap h') (by kernel_rfl) ?_)))))));have Ae:UpT [] Ap Ap:=UpT.start all_nil;refine Wo (Wo ?_);obtain ⟨Cn,Au,Co⟩:=ABq (AC8 Ad Ar);refine ADl ADt rfl (Aa.o2 p0) rfl Au fun Dt Du Dv Cp Cq=>AEt AFm rfl Ae (fun h' hb=>AB1 Cq hb.ext) (Wo (Wo (Wo ?_)));obtain ⟨Dw,Cr,Ct⟩:=ABq Co;refine AFg ADt rfl H2 rfl Cr fun Dx Dy Dz Cu Cv=>AEt AFm rfl Ae (fun h' hb=>AB1 Cu (Aa.x.trans hb.ext)) (Wo ?_);obtain ⟨D0,Cw,Cx⟩:=ABq Ct;refine AHe (c:=cZ) AEv rfl Cv rfl Cw fun D1 D2 D3 Be Cy=>ARa (c:=cZ) ACf rfl Be Ae (fun h' hb j u hu=>AB1 (Cy j u hu) (Aa.x.trans hb.ext)) ?_;obtain ⟨Cz,C0,C1⟩:=ABq Cx;refine ADg Ae (fun _ E=>Ae.thenE E) rfl (ATx (Aa.zx Be).2 C0) fun D4 D5 C2 C3=>?_;obtain ⟨D6,rfl,C4⟩:=C3;obtain ⟨D7,rfl,C5⟩:=C4.cs;have Af:=(Aa.e C2).az C5;obtain ⟨D8,Bf,C6⟩:=ABq C1;refine AD2 (m:=Ah) AEv rfl (Aa.o2 p0) Cp Au rfl Bf fun D9 C7=>AH9 (m:=Ah) (ASa ACf (cZ.klen (Af.z p0)) rfl rfl (cZ.one (Af.z p0))) (Af.o2 p1) C7 Au Bf (Af.z p0) fun Ea C8 C9=>ACr (q_b (q_t (AB5 (ACz rfl rfl (Wo (ABt ?_))))));obtain rfl:=ABo C6;exact ⟨Cm,(((w64 (Ah + 1)),(sI A9 Ah (sI Cn A7 Cz)),Ba,Bb,Bc):(Int) × (LiI) × LnA × LnN × LvA),Nat.lt_succ_self _,⟨Aq,(Af.uO2 p1 C9 C8).sel [1] (by decide)⟩,rfl,trivial⟩
   ·obtain rfl:=ABo (AC9 Ad Ar);change _=A8 at Aq;subst Aq;refine ACh (ACj (ACj (ADo (q_b (q_t (AB5 (ACz rfl rfl (Wo (ABt ?_)))))))));obtain rfl:=ABo Cg;exact ⟨B9,(((w64 (A7 + 1)),A9,Ba,Bb,Bc):(Int) × (LiI) × LnA × LnN × LvA),Nat.lt_succ_self _,⟨Am,Aa⟩,rfl,trivial⟩
  ·obtain rfl:=ABo (AC9 Ac Ao);change _=A6 at Am;subst Am;refine ACh (ACj (ACj (ADo (q_t (ABp (Wo (ACk (ABv (ABx ?_)))))))));obtain rfl:=ABo By;exact ⟨_,ADj,Ab.x,_,_,_,_,rfl,(Ab.o2 p0),Ab.s.sel [0] (by decide)⟩
def AMa (fuel:Nat) (a3 a7:LiA) (Aa Ac:Int):Option ((Int × Int) ⊕ ((Int))):=
  (if Aa < (a3.length:Int) then ((gI a3 Aa).bind fun Ae=>((gI a7 Aa).bind fun Af=>((ARi fuel Ae Af).bind fun Ag=>((Ah7 fuel Ac Ag).bind fun Ah=>(some (Sum.inl ((w64 (Aa + 1)),Ah))))))) else (some (Sum.inr<| Ac)))
def AI4 (fuel:Nat) (a3 a7:LiA):Option Int:=
  ((iter (fun s=>AMa fuel a3 a7 s.1 s.2) fuel (0,0)).bind (fun (Ac:Int)=>(some Ac)))
theorem ATy {fuel:Nat} {h:ABu} {Am:Value} {a3:LiA} {Ap:Value} {a7:LiA} {r:Int} (H2:SlC cZ h Am a3) (H6:SlC cZ h Ap a7) (hp:AI4 fuel a3 a7=some r):ACn Tryz.prog 139 #[Am,Ap] h (fun x h'=>Ext h h'/\ ∃ (x0:Value),x=x0/\ZZ h' x0 r):=by
 unfold AI4 at hp;refine cwf (l:=[_,_]) Tryz.func139 rfl rfl (ABp (ADi [.bool false,.slice none 0 0] AGk rfl trivial tt2 fun b9 Ci A7 A8 A9=>AK0 (AF6 (AO6 ) (ADi [.bool false,.slice none 0 0] AGk rfl trivial tt2 fun Ba Ag Bb Bc Be=>?_))));have Av:=((Kst.k0 h).nb A8 A9 A7).nb Bc Be Bb;refine AC7 [Value.bool false,Value.slice none 0 0] ACf (cZ.klen (AB9 Ag)) (cZ.klen (AB9 Ag)) rfl rfl (cZ.one (AB9 Ag)) (Av.b p0) fun Bf Bg Bh=>ABt (ABr (ABp (Wo (ADh AEv rfl H2 (Wo (ABt (ABw ?_)))))));obtain ⟨Aw,Bi,Bj⟩:=ABq hp;obtain ⟨Bl,Bm,Bn⟩:=ACe Bi;have Ax:=(Av.sb p0 Bh Bg rfl).az (AB9 Bf);refine ACq 33553472 (fun x:(Int) × (Int) × LvA=>[(10,(.int .i64 x.1))]) (fun k x h'=>iter Bl k (x.1,x.2.1)=some Aw/\Kst h h' ((Ax.L.set 0 (aZ x.2.2 x.2.1)).set 1 (aB 90 Ba x.2.2))) (by kernel_rfl) fuel ((0,0,[Value.bool false,Value.slice none 0 0]):(Int) × (Int) × LvA) ?_ ⟨rfl,trivial⟩ ?_
 ·exact ⟨Bn,Ax⟩
 rintro Cj ⟨Bo,Ck,Ah⟩ Cm Ae ⟨Bp,Aa⟩;obtain ⟨Bq,Cn,rfl,Ac,Ai⟩:=AB7 Bp;rw [Bm] at Ac;dsimp only at Ac;unfold AMa at Ac;refine ABp (ACu rfl rfl (ABt (ABr (⟨_,rfl,fun Aj=>?_,fun Aj=>?_⟩))))
 ·refine ABy (q_t (ABr (ABw (ABp (Wo (ABv (AEd (fun h'=>UpT [] Ae h') (by kernel_rfl) ?_)))))));have Ab:UpT [] Ae Ae:=UpT.start all_nil;refine AEk Ah ACf (cZ.klen (Aa.z p0)) rfl Ab (fun h' hb=>((Aa.b p1).ext hb.ext).agg) (Wo (Wo ?_));obtain ⟨Co,Br,Bt⟩:=ABq (AC8 Ac Aj);refine AHe (c:=cZ) AEv rfl H2 rfl Br fun Cp Cq Cr Ay Bu=>ARa (c:=cZ) ACf rfl Ay Ab (fun h' hb j u hu=>AB1 (Bu j u hu) (Aa.x.trans hb.ext)) (Wo (Wo ?_));obtain ⟨Ct,Bv,Bw⟩:=ABq Bt;refine AHe (c:=cZ) AEv rfl H6 rfl Bv fun Cu Cv Cw Az Bx=>ARa (c:=cZ) ACf rfl Az Ab (fun h' hb j u hu=>AB1 (Bx j u hu) (Aa.x.trans hb.ext)) ?_;obtain ⟨Cx,By,Bz⟩:=ABq Bw;refine ADg Ab (fun _ E=>Ab.thenE E) rfl (AQg (Aa.zx Ay).2 (Aa.zx Az).2 By) fun Cy Cz A3 B1=>?_;obtain ⟨C0,rfl,B3⟩:=B1;have A4:=Ab.thenE A3;obtain ⟨C1,rfl,B4⟩:=B3.cs;have Ak:=(Aa.e A3).az B4;obtain ⟨B5,B6,B7⟩:=ABq Bz;refine ADg A4 (fun _ E=>A4.thenE E) rfl (Agk (Ak.z p1).2 (Ak.z p0).2 B6) fun C2 C3 B8 B9=>?_;obtain ⟨C4,rfl,Ca⟩:=B9;obtain ⟨A5,rfl,Cb⟩:=Ca.cs;have Ad:=(Ak.e B8).az Cb;refine AC7 A5 ACf (cZ.klen (Ad.z p0)) (cZ.klen (Ad.z p2)) rfl rfl (cZ.one (Ad.z p0)) (Ad.b p3) fun C5 Cd Ce=>ACr (q_b (q_t (AB5 (ACz rfl rfl (Wo (ABt ?_))))));obtain rfl:=ABo B7;exact ⟨Bq,(((w64 (Bo + 1)),B5,A5):(Int) × (Int) × LvA),Nat.lt_succ_self _,⟨Ai,(Ad.sb p3 Ce Cd rfl).sel [0,3,4] (by decide)⟩,rfl,trivial⟩
 ·obtain rfl:=ABo (AC9 Ac Aj);change _=Aw at Ai;subst Ai;refine ACh (ACj (ACj (ADo (q_t (ABp (AEu Ah ACf (cZ.klen (Aa.z p0)) rfl (Aa.b p1).agg (AC7 Ah ACf (cZ.klen (Aa.z p0)) (cZ.klen (AB9 Ae)) rfl rfl (cZ.one (Aa.z p0)) (Aa.b p2) fun C6 Cf Cg=>ABt (ABx ?_))))))));have Af:=Aa.sb p2 Cg Cf rfl;obtain rfl:=ABo Bj;exact ⟨_,AEe ACf (cZ.klen (Af.z p0)) rfl (Af.b p2),Af.x,_,rfl,(Af.z p0).2⟩
def AMb (fuel:Nat) (a3 Ad:LiI) (Ab Aa:Int) (Ac:LiI):Option ((Int × LiI) ⊕ ((LiI))):=
  (if Aa < (Ad.length:Int) then ((gI Ac Ab).bind fun Ae=>((gI a3 Ab).bind fun Ag=>((gI Ad Aa).bind fun Ah=>((AI4 fuel Ag Ah).bind fun Ai=>((gI Ae Aa).bind fun Aj=>(some (Sum.inl ((w64 (Aa + 1)),(sI Ac Ab (sI Ae Aa Ai)))))))))) else (some (Sum.inr<| Ac)))
def AMc (fuel:Nat) (a3 Ad:LiI) (Aa:Int) (Ac:LiI):Option ((Int × LiI) ⊕ ((LiI))):=
  (if Aa < (a3.length:Int) then ((iter (fun s=>AMb fuel a3 Ad Aa s.1 s.2) fuel (0,Ac)).bind (fun (Ae:LiI)=>(some (Sum.inl ((w64 (Aa + 1)),Ae))))) else (some (Sum.inr<| Ac)))
def AI5 (fuel:Nat) (a3 a7:LiI):Option (LiI × Bool):=
  ((AD0 fuel a3).bind fun (x9,Ad,Ae)=>((AE5 fuel a7).bind fun (Ac,Af)=>(((if (!Ae)=true then (some (Sum.inl <| ([],false))) else (if (!Af)=true then (some (Sum.inl <| ([],false))) else (if ¬ (a7.length:Int)=Ad then (some (Sum.inl <| ([],false))) else (some (Sum.inr <| ()))))):Option (((LiI × Bool)) ⊕ (Unit))).bind (fun ex=>match ex with | Sum.inl Ag=>(some Ag) | Sum.inr (_)=>((AE4 fuel (a3.length:Int) (Ac.length:Int)).bind fun Ah=>((iter (fun s=>AMc fuel a3 Ac s.1 s.2) fuel (0,Ah)).bind (fun (Ai:LiI)=>(some (Ai,true)))))))))
theorem ATz {fuel:Nat} {h:ABu} {Ay:Value} {a3:LiI} {A3:Value} {a7:LiI} {r:(LiI × Bool)} (H2:AEq cZ h Ay a3) (H6:AEq cZ h A3 a7) (hp:AI5 fuel a3 a7=some r):ACn Tryz.prog 88 #[Ay,A3] h (fun x h'=>Ext h h'/\ ∃ (x0:Value) (F0:List Nat) (Bw:List LnA) (Bx:List Value),x= .tuple #[x0,.bool r.2]/\AFf cZ 100 90 h' F0 Bw Bx x0 r.1/\Sp h' h.size [F0]):=by
 unfold AI5 at hp;refine cwf (l:=[_,_]) Tryz.func88 rfl rfl (ABp (ACk (AC1 (Wo ?_))));have K0:=Kst.k0 h;obtain ⟨⟨x9,Dv,By⟩,Bz,A9⟩:=ABq hp;dsimp only at A9;refine ADb rfl (AIn (H2.ext K0.x) Bz) fun Dw Dx B1 B3=>?_;subst B3;refine Wo (ADm rfl rfl (ADm rfl rfl (ADm rfl rfl (ACk (ACk (AC1 (Wo ?_)))))));have Ba:=K0.e B1;obtain ⟨⟨Dy,B4⟩,B5,Bb⟩:=ABq A9;dsimp only at Bb;refine ADb rfl (AMn (H6.ext Ba.x) B5) fun Dz D0 B6 B7=>?_;obtain ⟨D1,D2,D3,D4,rfl,B8,B9⟩:=B7;refine Wo (ADm rfl rfl (ADm rfl rfl (ACk (ABv ?_))));have Ac:=Ba.no2 B6 B9 B8;obtain ⟨Ca,Bc,Ai⟩:=ABq Bb;refine ALi 137405399088 (fun x:Unit=>[]) (fun x h'=>(Sum.inr <| ())=Ca/\Kst h h' (Ac.L)) ?_ ?_
 ·refine ABp (Wo (AE1 rfl (Wo ?_)));cases Be:(!By)
  ·refine AB3 27 false (Wo (AB3 27 false (AE1 rfl (AB0 rfl (Wo ?_)))));have Bf:=AH8 Bc Be;cases Bg:(!B4)
   ·refine AB3 31 false (Wo (AB3 31 false (ADa ADt rfl H6 (AB3 31 false (Wo (AB3 31 false (AEn rfl rfl (AB0 rfl (ABt ?_)))))))));have Bh:=AH8 Bf Bg;refine ⟨_,rfl,fun Ak=>?_,fun Ak=>?_⟩
    ·refine ABp (ACk (ABv ?_));obtain rfl:=ABo (AC8 Bh Ak);refine ABx (AB4 ?_);have Am:=Kst.anil2 cZ 100 90 Ac;obtain rfl:=ABo Ai;exact ⟨_,ADj,Am.x,_,_,_,_,rfl,(Am.o2 p0),Am.s.sel [0] (by decide)⟩
    ·refine ABy (q_t ?_);exact ⟨(():Unit),⟨ABo (AC9 Bh Ak),Ac⟩,trivial⟩
   ·refine AFl 31 true (AB2 rfl (ABt (ACd rfl (ABp (ACk (ABv ?_))))));obtain rfl:=ABo (ifT Bf Bg);refine ABx (AB4 ?_);have Ao:=Kst.anil2 cZ 100 90 Ac;obtain rfl:=ABo Ai;exact ⟨_,ADj,Ao.x,_,_,_,_,rfl,(Ao.o2 p0),Ao.s.sel [0] (by decide)⟩
  ·refine AIg 27 true (AB2 rfl (Wo (AFl 31 true (AB2 rfl (ABt (ACd rfl (ABp (ACk (ABv ?_)))))))));obtain rfl:=ABo (ifT Bc Be);refine ABx (AB4 ?_);have Ap:=Kst.anil2 cZ 100 90 Ac;obtain rfl:=ABo Ai;exact ⟨_,ADj,Ap.x,_,_,_,_,rfl,(Ap.o2 p0),Ap.s.sel [0] (by decide)⟩
 rintro ⟨⟩ D5 D6 ⟨Cb,Bi⟩;subst Cb;refine ABp (Wo (ADa ADt rfl H2 (Wo (ADa ADt rfl (Bi.o2 p0).rd ?_))));obtain ⟨Cd,Ce,Cf⟩:=ABq Ai;refine ADb rfl (AIt Ce) fun Bj D7 Cg Ch=>?_;obtain ⟨D8,Ci,Cj,Ck,rfl,Cm,Cn⟩:=Ch;refine ABv (ABr (ABp (Wo (ADa ADt rfl H2 (Wo (ABt (ABw ?_)))))));have Bl:=Bi.no2 Cg Cn Cm;obtain ⟨Bm,Co,Cp⟩:=ABq Cf;obtain ⟨Cq,Cr,Ct⟩:=ACe Co;refine ACq 590295792766519619584 (fun x:(Int) × (LiI) × LnA × LnN × LvA=>[(44,(.int .i64 x.1))]) (fun k x h'=>iter Cq k (x.1,x.2.1)=some Bm/\Kst h h' (Bl.L.set 0 (aO2 cZ 100 90 x.2.2.1 x.2.2.2.1 x.2.2.2.2 Bj x.2.1))) (by kernel_rfl) fuel ((0,Cd,Ci,Cj,Ck):(Int) × (LiI) × LnA × LnN × LvA) ?_ ⟨rfl,trivial⟩ ?_
 ·exact ⟨Ct,Bl⟩
 rintro D9 ⟨Aj,Cu,Cv,Cw,Cx⟩ Ea Eb ⟨Cy,Ab⟩;obtain ⟨Cz,Ec,rfl,Ad,Aq⟩:=AB7 Cy;rw [Cr] at Ad;dsimp only at Ad;unfold AMc at Ad;refine ABp (ACu rfl rfl (ABt (ABr (⟨_,rfl,fun Ar=>?_,fun Ar=>?_⟩))))
 ·refine ABy (q_t (ABr (ABw (ABp (Wo (AC1 (Wo (ADa ADt rfl (Ab.o2 p1).rd (Wo (ABt (ABw ?_)))))))))));obtain ⟨Bn,C0,C1⟩:=ABq (AC8 Ad Ar);obtain ⟨C2,C3,C4⟩:=ACe C0;refine ACq 295147342229399412736 (fun x:(Int) × (LiI) × LnA × LnN × LvA=>[(49,(.int .i64 x.1))]) (fun k x h'=>iter C2 k (x.1,x.2.1)=some Bn/\Kst h h' (Ab.L.set 0 (aO2 cZ 100 90 x.2.2.1 x.2.2.2.1 x.2.2.2.2 Bj x.2.1))) (by kernel_rfl) fuel ((0,Cu,Cv,Cw,Cx):(Int) × (LiI) × LnA × LnN × LvA) ?_ ⟨rfl,trivial⟩ ?_
  ·exact ⟨C4,Ab⟩
  rintro Ed ⟨Bo,Bp,Bq,Br,Bt⟩ Ee Au ⟨C5,Aa⟩;obtain ⟨C6,Ef,rfl,Ae,Av⟩:=AB7 C5;rw [C3] at Ae;dsimp only at Ae;unfold AMb at Ae;refine ABp (ACu rfl rfl (ABt (ABr (⟨_,rfl,fun Aw=>?_,fun Aw=>?_⟩))))
  ·refine ABy (q_t (ABr (ABw (ABp (Wo (ABv (AEd (fun h'=>UpT [] Au h') (by kernel_rfl) ?_)))))));have Af:UpT [] Au Au:=UpT.start all_nil;refine Wo (Wo ?_);obtain ⟨C7,Ax,C8⟩:=ABq (AC8 Ae Aw);refine ADl ADt rfl (Aa.o2 p0) rfl Ax fun Eg Eh Ei C9 Da=>AEt AFm rfl Af (fun h' hb=>AB1 Da hb.ext) (Wo (Wo (Wo ?_)));obtain ⟨Ej,Db,Dc⟩:=ABq C8;refine AFg ADt rfl H2 rfl Db fun Ek El Em Dd De=>AEt AFm rfl Af (fun h' hb=>AB1 Dd (Aa.x.trans hb.ext)) (Wo (Wo ?_));obtain ⟨En,Bu,Df⟩:=ABq Dc;refine ADl ADt rfl (Aa.o2 p1) rfl Bu fun Eo Ep Er Dg Dh=>AEt AFm rfl Af (fun h' hb=>AB1 Dh hb.ext) ?_;obtain ⟨Di,Dj,Dk⟩:=ABq Df;refine ADg Af (fun _ E=>Af.thenE E) rfl (ATy (De.ext Aa.x) ((Aa.o2 p1).rowI Dg Bu) Dj) fun Es Et Dl Dn=>?_;obtain ⟨Eu,rfl,Do⟩:=Dn;obtain ⟨Ev,rfl,Dp⟩:=Do.cs;have Ag:=(Aa.e Dl).az Dp;obtain ⟨Ew,Bv,Dq⟩:=ABq Dk;refine AD2 (m:=Aj) AEv rfl (Aa.o2 p0) C9 Ax rfl Bv fun Ey Dr=>AH9 (m:=Aj) (ASa ACf (cZ.klen (Ag.z p0)) rfl rfl (cZ.one (Ag.z p0))) (Ag.o2 p1) Dr Ax Bv (Ag.z p0) fun Ez Ds Dt=>ACr (q_b (q_t (AB5 (ACz rfl rfl (Wo (ABt ?_))))));obtain rfl:=ABo Dq;exact ⟨C6,(((w64 (Bo + 1)),(sI Bp Aj (sI C7 Bo Di)),Bq,Br,Bt):(Int) × (LiI) × LnA × LnN × LvA),Nat.lt_succ_self _,⟨Av,(Ag.uO2 p1 Dt Ds).sel [1,2] (by decide)⟩,rfl,trivial⟩
  ·obtain rfl:=ABo (AC9 Ae Aw);change _=Bn at Av;subst Av;refine ACh (ACj (ACj (ADo (q_b (q_t (AB5 (ACz rfl rfl (Wo (ABt ?_)))))))));obtain rfl:=ABo C1;exact ⟨Cz,(((w64 (Aj + 1)),Bp,Bq,Br,Bt):(Int) × (LiI) × LnA × LnN × LvA),Nat.lt_succ_self _,⟨Aq,Aa⟩,rfl,trivial⟩
 ·obtain rfl:=ABo (AC9 Ad Ar);change _=Bm at Aq;subst Aq;refine ACh (ACj (ACj (ADo (q_t (ABp (Wo (ACk (ABv (ABx ?_)))))))));obtain rfl:=ABo Cp;exact ⟨_,ADj,Ab.x,_,_,_,_,rfl,(Ab.o2 p0),Ab.s.sel [0] (by decide)⟩
def AD9 (fuel:Nat) (a3 a7:LiI):Option LiI:=
  ((AI5 fuel a3 a7).bind fun (x9,Ad)=>(some x9))
theorem AJu {fuel:Nat} {h:ABu} {Ac:Value} {a3:LiI} {Ae:Value} {a7 r:LiI} (H2:AEq cZ h Ac a3) (H6:AEq cZ h Ae a7) (hp:AD9 fuel a3 a7=some r):ACn Tryz.prog 42 #[Ac,Ae] h (fun x h'=>Ext h h'/\ ∃ (x0:Value) (F0:List Nat) (Am:List LnA) (Ao:List Value),x=x0/\AFf cZ 100 90 h' F0 Am Ao x0 r/\Sp h' h.size [F0]):=by
 unfold AD9 at hp;refine cwf (l:=[_,_]) Tryz.func42 rfl rfl (ABp (AC1 (Wo (Wo ?_))));have K0:=Kst.k0 h;obtain ⟨⟨x9,Ax⟩,Ap,Ai⟩:=ABq hp;dsimp only at Ai;refine ADb rfl (ATz (H2.ext K0.x) (H6.ext K0.x) Ap) fun Ay Az Aq Ar=>?_;obtain ⟨A3,A4,A5,A6,rfl,Au,Av⟩:=Ar;refine Wo (ADm rfl rfl (ADm rfl rfl (ACk (AC1 (Wo (ABv (ABx ?_)))))));have Ab:=K0.no2 Aq Av Au;obtain rfl:=ABo Ai;exact ⟨_,ABz,Ab.x,_,_,_,_,rfl,(Ab.o2 p0),Ab.s.sel [0] (by decide)⟩
def AK5 (fuel:Nat) (a1:Int) (Aa:LiA) (Ab:Int):Option ((LiA × Int) ⊕ ((LiA))):=
  (if Ab < a1 then (if Aa.length<=100000000 then (some (Sum.inl ((Aa ++ [Ab]),(w64 (Ab + 1))))) else none) else (some (Sum.inr<| Aa)))
def AGt (fuel:Nat) (a1 a2:Int):Option LiA:=
  ((iter (fun s=>AK5 fuel a1 s.1 s.2) fuel ([],0)).bind (fun (Aa:LiA)=>(if Aa.length<=100000000 then (some (Aa ++ [a2])) else none)))
theorem AN6 {fuel:Nat} {h:ABu} {a1 a2:Int} {r:LiA} (hp:AGt fuel a1 a2=some r):ACn Tryz.prog 131 #[(.int .i64 a1),(.int .i64 a2)] h (fun x h'=>Ext h h'/\ ∃ (x0:Value) (F0:List Nat),x=x0/\OwC (cI .i64) 3 h' F0 x0 r/\Sp h' h.size [F0]):=by
 unfold AGt at hp;refine cwf (l:=[_,_]) Tryz.func131 rfl rfl (ABp (AC1 (ABv (ABr (ABp (ABv (ABw ?_)))))));have K4:=Kst.anil (cI .i64) 3 (Kst.k0 h);obtain ⟨Am,Ao,Ap⟩:=ABq hp;obtain ⟨Aq,Ar,Au⟩:=ACe Ao;refine ACq 65504 (fun x:(LiA) × (Value) × LnA × (Int)=>[(5,x.2.1),(6,(.int .i64 x.2.2.2))]) (fun k x h'=>iter Aq k (x.1,x.2.2.2)=some Am/\Kst h h' (K4.L.set 0 (aO (cI .i64) 3 x.2.2.1 x.2.1 x.1))) (by kernel_rfl) fuel (([],(.slice none 0 0),[],0):(LiA) × (Value) × LnA × (Int)) ?_ ⟨rfl,rfl,trivial⟩ ?_
 ·exact ⟨Au,K4⟩
 rintro Be ⟨Av,Bf,Bg,Ac⟩ Bh Bi ⟨Aw,Ad⟩;obtain ⟨Ax,Bj,rfl,Aa,Ae⟩:=AB7 Aw;rw [Ar] at Aa;dsimp only at Aa;unfold AK5 at Aa;refine ABr (ABp (Wo (Wo (ACu rfl rfl (ABt (⟨_,rfl,fun Af=>?_,fun Af=>?_⟩))))))
 ·refine ABy (q_t (ABr (ABw (AB5 (Wo (Wo ?_))))));obtain ⟨Ay,Az⟩:=ifN (AC8 Aa Af);refine AM2 AVy AV9 rfl rfl trivial tt2 (fun _=>rfl) rfl (show ((cI .i64)).rep _ Ac [(.int .i64 Ac)] from rfl) (Ad.o p0) (by decide) Ay fun Bl A3 A4 Bm A5 A6 A7=>ACk (ACr (q_b (q_t (AB5 (Wo (ACz rfl rfl (ABv ?_)))))));obtain rfl:=ABo Az;exact ⟨Ax,(((Av ++ [Ac]),A4,A3,(w64 (Ac + 1))):(LiA) × (Value) × LnA × (Int)),Nat.lt_succ_self _,⟨Ae,(Ad.uo p0 A6 A5 A7)⟩,rfl,rfl,trivial⟩
 ·obtain rfl:=ABo (AC9 Aa Af);change _=Am at Ae;subst Ae;refine ACh (ACj (ACj (ADo (q_t (ABp (Wo (Wo ?_)))))));obtain ⟨A8,A9⟩:=ifN Ap;refine AM2 AVy AV9 rfl rfl trivial tt2 (fun _=>rfl) rfl (show ((cI .i64)).rep _ a2 [(.int .i64 a2)] from rfl) (Ad.o p0) (by decide) A8 fun Bn Bo Bp Bq Ba Bb Bc=>ABv (ABx ?_);have Ag:=Ad.uo p0 Bb Ba Bc;obtain rfl:=ABo A9;exact ⟨_,ABz,Ag.x,_,_,rfl,(Ag.o p0),Ag.s.sel [0] (by decide)⟩
def AJv (fuel:Nat) (a3:LiI) (x5:Int) (Ab:LiA) (Aa:Int):Option ((LiA × Int) ⊕ ((LiA))):=
  (if Aa < x5 then ((AGt fuel Aa Aa).bind fun Ae=>((AGt fuel Aa Aa).bind fun Af=>((AF8 fuel a3 Ae Af).bind fun Ag=>((AC6 fuel Ag).bind fun Ah=>(if Ab.length<=100000000 then (some (Sum.inl ((Ab ++ [Ah]),(w64 (Aa + 1))))) else none))))) else (some (Sum.inr<| Ab)))
def AEz (fuel:Nat) (a3:LiI):Option (LiA × Bool):=
  ((AFa fuel a3).bind fun (x5,x6)=>(if (!x6)=true then (some ([],false)) else ((iter (fun s=>AJv fuel a3 x5 s.1 s.2) fuel ([],0)).bind (fun (Ad:LiA)=>(some (Ad,true))))))
theorem AJw {fuel:Nat} {h:ABu} {Aj:Value} {a3:LiI} {r:(LiA × Bool)} (H2:AEq cZ h Aj a3) (hp:AEz fuel a3=some r):ACn Tryz.prog 77 #[Aj] h (fun x h'=>Ext h h'/\ ∃ (x0:Value) (F0:List Nat),x= .tuple #[x0,.bool r.2]/\OwC cZ 90 h' F0 x0 r.1/\Sp h' h.size [F0]):=by
 unfold AEz at hp;refine cwf (l:=[_]) Tryz.func77 rfl rfl (ABp (ACk (AC1 (Wo ?_))));have K0:=Kst.k0 h;obtain ⟨⟨x5,x6⟩,Ax,Ad⟩:=ABq hp;dsimp only at Ad;refine ADb rfl (ANx (H2.ext K0.x) Ax) fun Cg Ch E9 Az=>?_;subst Az;refine Wo (ADm rfl rfl (ADm rfl rfl (ACk (ABv (ABr (ABp (Wo (AE1 rfl (ABt ?_)))))))));have Ar:=K0.e E9;refine ⟨_,rfl,fun Ae=>?_,fun Ae=>?_⟩
 ·refine ABp (ACk (ABv (ABx (AB4 ?_))));have Af:=Kst.anil cZ 90 Ar;obtain rfl:=ABo (ifT Ad Ae);exact ⟨_,ADj,Af.x,_,_,rfl,(Af.o p0),Af.s.sel [0] (by decide)⟩
 ·refine ABy (q_t (ABp (ABv (ABr (ABp (ABv (ABw ?_)))))));have Au:=Kst.anil cZ 90 Ar;obtain ⟨Av,A3,A4⟩:=ABq (AH8 Ad Ae);obtain ⟨A5,A6,A7⟩:=ACe A3;refine ACq 4294934720 (fun x:(LiA) × (Value) × LnA × (Int)=>[(6,x.2.1),(7,(.int .i64 x.2.2.2))]) (fun k x h'=>iter A5 k (x.1,x.2.2.2)=some Av/\Kst h h' (Au.L.set 0 (aO cZ 90 x.2.2.1 x.2.1 x.1))) (by kernel_rfl) fuel (([],(.slice none 0 0),[],0):(LiA) × (Value) × LnA × (Int)) ?_ ⟨rfl,rfl,trivial⟩ ?_
  ·exact ⟨A7,Au⟩
  rintro Ci ⟨A8,Cj,Ck,A9⟩ Cm Cn ⟨Ba,Ab⟩;obtain ⟨Bb,Co,rfl,Aa,Ag⟩:=AB7 Ba;rw [A6] at Aa;dsimp only at Aa;unfold AJv at Aa;refine ABr (ABp (Wo (Wo (ACu rfl rfl (ABt (⟨_,rfl,fun Ah=>?_,fun Ah=>?_⟩))))))
  ·refine ABy (q_t (ABr (ABw (AB5 (Wo (Wo (Wo (Wo ?_))))))));obtain ⟨Cp,Bc,Be⟩:=ABq (AC8 Aa Ah);refine ADb rfl (AN6 Bc) fun Cq Cr Bf Bg=>?_;obtain ⟨Ct,Cu,rfl,Bh,Bi⟩:=Bg;refine Wo (Wo ?_);obtain ⟨Cv,Bj,Bl⟩:=ABq Be;refine ADb rfl (AN6 Bj) fun Cw Cx Bm Bn=>?_;obtain ⟨Cy,Cz,rfl,Bo,Bp⟩:=Bn;have Ac:=(Ab.no Bf Bi Bh).no Bm Bp Bo;obtain ⟨C0,Bq,Br⟩:=ABq Bl;refine ADb rfl (ANy (H2.ext Ac.x) (Ac.o p1).rd (Ac.o p0).rd Bq) fun C1 C2 Bt Bu=>?_;obtain ⟨C3,C4,C5,C6,rfl,Bv,Bw⟩:=Bu;have Aw:=Ac.no2 Bt Bw Bv;obtain ⟨Bx,By,Bz⟩:=ABq Br;refine ADb rfl (AEi (Aw.o2 p0).rd By) fun C7 C8 B1 B3=>?_;obtain ⟨C9,rfl,B4⟩:=B3;obtain ⟨Da,rfl,B5⟩:=B4.cs;have Ai:=(Aw.e B1).az B5;obtain ⟨B6,B7⟩:=ifN Bz;refine AM2 AEv AGk rfl rfl trivial tt2 (fun _=>rfl) rfl (Ai.z p0) (Ai.o p4) (by decide) B6 fun Db B8 B9 Dc Ca Cb Cd=>ACk (ACr (q_b (q_t (AB5 (Wo (ACz rfl rfl (ABv ?_)))))));obtain rfl:=ABo B7;exact ⟨Bb,(((A8 ++ [Bx]),B9,B8,(w64 (A9 + 1))):(LiA) × (Value) × LnA × (Int)),Nat.lt_succ_self _,⟨Ag,(Ai.uo p4 Cb Ca Cd).sel [4] (by decide)⟩,rfl,rfl,trivial⟩
  ·obtain rfl:=ABo (AC9 Aa Ah);change _=Av at Ag;subst Ag;refine ACh (ACj (ACj (ADo (q_t (ABp (Wo (ACk (ABv (ABx ?_)))))))));obtain rfl:=ABo A4;exact ⟨_,ADj,Ab.x,_,_,rfl,(Ab.o p0),Ab.s.sel [0] (by decide)⟩
def AI0 (fuel:Nat) (a3:LiI) (Ab Aa:Int):Option ((Int) ⊕ ((Bool) ⊕ (Unit))):=
  (if Aa < Ab then ((gI a3 Ab).bind fun Ad=>((gI Ad Aa).bind fun Ae=>((gI a3 Aa).bind fun Af=>((gI Af Ab).bind fun Ag=>((Abt fuel Ae Ag).bind fun Ah=>(if ¬ Ah=0 then (some (Sum.inr<| Sum.inl <| false)) else (some (Sum.inl (w64 (Aa + 1)))))))))) else (some (Sum.inr<| Sum.inr <| ())))
def AI1 (fuel:Nat) (a3:LiI) (Aa:Int):Option ((Int) ⊕ ((Bool) ⊕ (Unit))):=
  (if Aa < (a3.length:Int) then ((iter (fun s=>AI0 fuel a3 Aa s) fuel 0).bind (fun ex=>match ex with | Sum.inl Ac=>(some (Sum.inr<| Sum.inl <| Ac)) | Sum.inr (_)=>(some (Sum.inl (w64 (Aa + 1)))))) else (some (Sum.inr<| Sum.inr <| ())))
def AE6 (fuel:Nat) (a3:LiI):Option Bool:=
  ((iter (fun s=>AI1 fuel a3 s) fuel 0).bind (fun ex=>match ex with | Sum.inl Ab=>(some Ab) | Sum.inr (_)=>(some true)))
theorem AMo {fuel:Nat} {h:ABu} {Ao:Value} {a3:LiI} {r:Bool} (H2:AEq cZ h Ao a3) (hp:AE6 fuel a3=some r):ACn Tryz.prog 70 #[Ao] h (fun x h'=>Ext h h'/\x= .bool r):=by
 unfold AE6 at hp;refine cwf (l:=[_]) Tryz.func70 rfl rfl (ABp (ABv (ABr (ABp (Wo (ADa ADt rfl H2 (Wo (ABt (ABw ?_)))))))));have K0:=Kst.k0 h;obtain ⟨Ag,Az,Ar⟩:=ABq hp;obtain ⟨A3,A4,A5⟩:=ACe Az;refine ACq 4294967196 (fun x:(Int)=>[(7,(.int .i64 x))]) (fun k x h'=>iter A3 k x=some Ag/\Kst h h' (K0.L)) (by kernel_rfl) fuel (0:(Int)) ?_ ⟨rfl,trivial⟩ ?_
 ·exact ⟨A5,K0⟩
 rintro Bz u16 B1 B3 ⟨A6,Ah⟩;obtain ⟨A7,B4,rfl,Ab,Ac⟩:=AB7 A6;rw [A4] at Ab;dsimp only at Ab;unfold AI1 at Ab;refine ABp (ACu rfl rfl (ABt (ABr (⟨_,rfl,fun Ai=>?_,fun Ai=>?_⟩))))
 ·refine ABy (q_t (ABr (ABw (ABp (Wo (AC1 (ABv (ABw ?_))))))));obtain ⟨Aj,A8,Au⟩:=ABq (AC8 Ab Ai);obtain ⟨A9,Ba,Bb⟩:=ACe A8;refine ACq 2147482644 (fun x:(Int)=>[(4,(.int .i64 x))]) (fun k x h'=>iter A9 k x=some Aj/\Kst h h' (Ah.L)) (by kernel_rfl) fuel (0:(Int)) ?_ ⟨rfl,trivial⟩ ?_
  ·exact ⟨Bb,Ah⟩
  rintro B5 Bc B6 B7 ⟨Be,Aa⟩;obtain ⟨Bf,B8,rfl,Ad,Ae⟩:=AB7 Be;rw [Ba] at Ad;dsimp only at Ad;unfold AI0 at Ad;refine ABr (ABp (Wo (Wo (ACu rfl rfl (ABt (⟨_,rfl,fun Ak=>?_,fun Ak=>?_⟩))))))
  ·refine ABy (q_t (ABr (ABw (ABr (AKm (Wo (Wo ?_)))))));obtain ⟨B9,Bg,Bh⟩:=ABq (AC8 Ad Ak);refine AFg ADt rfl H2 rfl Bg fun Ca Cb Cd Bi Bj=>AB6 AFm rfl (AB1 Bi Aa.x) (Wo ?_);obtain ⟨Ce,Bl,Bm⟩:=ABq Bh;refine AHe (c:=cZ) AEv rfl Bj rfl Bl fun Cf Cg Ch Av Bn=>AOl (c:=cZ) ACf rfl (Aa.zx Av) (fun j u hu=>(AB1 (Bn j u hu) Aa.x)) (Wo (Wo ?_));obtain ⟨Ci,Bo,Bp⟩:=ABq Bm;refine AFg ADt rfl H2 rfl Bo fun Cj Ck Cm Bq Br=>AB6 AFm rfl (AB1 Bq Aa.x) (Wo ?_);obtain ⟨Cn,Bt,Bu⟩:=ABq Bp;refine AHe (c:=cZ) AEv rfl Br rfl Bt fun Co Cp Cq Aw Bv=>AOl (c:=cZ) ACf rfl (Aa.zx Aw) (fun j u hu=>(AB1 (Bv j u hu) Aa.x)) ?_;obtain ⟨Cr,Bw,Ax⟩:=ABq Bu;refine ADb rfl (Aad (Aa.zx Av).2 (Aa.zx Aw).2 Bw) fun Ct Cu Bx By=>?_;subst By;refine AEn rfl rfl (ABt ?_);have Ay:=Aa.e Bx;refine ⟨_,rfl,fun Am=>?_,fun Am=>?_⟩
   ·refine ABp (ABv ?_);obtain rfl:=ABo (AC8 Ax Am);change _=Aj at Ae;subst Ae;obtain rfl:=ABo Au;change _=Ag at Ac;subst Ac;refine ABx (ADe (AB4 (AB4 (ADe (ADe (AB4 (AB4 (ADe (AB4 ?_)))))))));obtain rfl:=ABo Ar;exact ⟨_,ABz,Ay.x,rfl⟩
   ·refine ABy (q_b (q_t (AB5 (Wo (ACz rfl rfl (ABv ?_))))));obtain rfl:=ABo (AC9 Ax Am);exact ⟨Bf,((w64 (Bc + 1)):(Int)),Nat.lt_succ_self _,⟨Ae,Ay⟩,rfl,trivial⟩
  ·obtain rfl:=ABo (AC9 Ad Ak);change _=Aj at Ae;subst Ae;refine ACh (ACj (ACj (ADo (q_b (q_t (AB5 (ACz rfl rfl (Wo (ABt ?_)))))))));obtain rfl:=ABo Au;exact ⟨A7,((w64 (u16 + 1)):(Int)),Nat.lt_succ_self _,⟨Ac,Aa⟩,rfl,trivial⟩
 ·obtain rfl:=ABo (AC9 Ab Ai);change _=Ag at Ac;subst Ac;refine ACh (ACj (ACj (ADo (q_t (ABp (ABv (ABx ?_)))))));obtain rfl:=ABo Ar;exact ⟨_,ABz,Ah.x,rfl⟩
def AJj (fuel:Nat) (x5:LiA) (Aa:Int):Option ((Int) ⊕ ((Bool) ⊕ (Unit))):=
  (if Aa < (x5.length:Int) then ((gI x5 Aa).bind fun Ac=>((AX4 fuel Ac).bind fun Ad=>(if Ad<=0 then (some (Sum.inr<| Sum.inl <| false)) else (some (Sum.inl (w64 (Aa + 1))))))) else (some (Sum.inr<| Sum.inr <| ())))
def AG2 (fuel:Nat) (a3:LiI):Option Bool:=
  ((AEz fuel a3).bind fun (x5,x6)=>(((if (!x6)=true then (some (Sum.inl <| false)) else ((AE6 fuel a3).bind fun Ad=>(if (!Ad)=true then (some (Sum.inl <| false)) else (some (Sum.inr <| ()))))):Option ((Bool) ⊕ (Unit))).bind (fun ex=>match ex with | Sum.inl Ae=>(some Ae) | Sum.inr (_)=>((iter (fun s=>AJj fuel x5 s) fuel 0).bind (fun ex=>match ex with | Sum.inl Af=>(some Af) | Sum.inr (_)=>(some true))))))
theorem AQs {fuel:Nat} {h:ABu} {Ao:Value} {a3:LiI} {r:Bool} (H2:AEq cZ h Ao a3) (hp:AG2 fuel a3=some r):ACn Tryz.prog 71 #[Ao] h (fun x h'=>Ext h h'/\x= .bool r):=by
 unfold AG2 at hp;refine cwf (l:=[_]) Tryz.func71 rfl rfl (ABp (AC1 (Wo ?_)));have K0:=Kst.k0 h;obtain ⟨⟨x5,x6⟩,A9,Au⟩:=ABq hp;dsimp only at Au;refine ADb rfl (AJw (H2.ext K0.x) A9) fun B9 Ca E9 Bb=>?_;obtain ⟨Cb,Cd,rfl,Bc,Be⟩:=Bb;refine Wo (ADm rfl rfl (ADm rfl rfl (ACk (ABv ?_))));have Ac:=K0.no E9 Be Bc;obtain ⟨Bf,Av,Ag⟩:=ABq Au;refine ALi 520196 (fun x:Unit=>[]) (fun x h'=>(Sum.inr <| ())=Bf/\Kst h h' (Ac.L)) ?_ ?_
 ·refine ABp (Wo (AE1 rfl (Wo ?_)));cases Aw:(!x6)
  ·refine AB3 14 false (Wo (AB3 14 false ?_));obtain ⟨Ce,Bg,Ax⟩:=ABq (AH8 Av Aw);refine ADb rfl (AMo (H2.ext Ac.x) Bg) fun Cf Cg Bh Bi=>?_;subst Bi;refine AB3 14 false (AE1 rfl (AB0 rfl (ABt ?_)));have Ay:=Ac.e Bh;refine ⟨_,rfl,fun Ah=>?_,fun Ah=>?_⟩
   ·refine ABp (ABv ?_);obtain rfl:=ABo (ifT Ax Ah);refine ABx (AB4 ?_);obtain rfl:=ABo Ag;exact ⟨_,ABz,Ay.x,rfl⟩
   ·refine ABy (q_t ?_);exact ⟨(():Unit),⟨ABo (AH8 Ax Ah),Ay⟩,trivial⟩
  ·refine AE2 14 true (AB2 rfl (ABt (ACd rfl (ABp (ABv ?_)))));obtain rfl:=ABo (ifT Av Aw);refine ABx (AB4 ?_);obtain rfl:=ABo Ag;exact ⟨_,ABz,Ac.x,rfl⟩
 rintro ⟨⟩ Ch Ci ⟨Bj,Ai⟩;subst Bj;refine ABr (ABp (Wo (ADh AEv rfl (Ai.o p0).rd (Wo (ABt (ABw ?_))))));obtain ⟨Aj,Bl,Az⟩:=ABq Ag;obtain ⟨Bm,Bn,Bo⟩:=ACe Bl;refine ACq 534773828 (fun x:(Int)=>[(21,(.int .i64 x))]) (fun k x h'=>iter Bm k x=some Aj/\Kst h h' (Ai.L)) (by kernel_rfl) fuel (0:(Int)) ?_ ⟨rfl,trivial⟩ ?_
 ·exact ⟨Bo,Ai⟩
 rintro Cj Bp Ck Cm ⟨Bq,Ad⟩;obtain ⟨Br,Cn,rfl,Aa,Ab⟩:=AB7 Bq;rw [Bn] at Aa;dsimp only at Aa;unfold AJj at Aa;refine ABp (ACu rfl rfl (ABt (ABr (⟨_,rfl,fun Ak=>?_,fun Ak=>?_⟩))))
 ·refine ABy (q_t (ABr (ABw (ABp ?_))));obtain ⟨Co,A3,Bt⟩:=ABq (AC8 Aa Ak);refine AYl AEv rfl (Ad.o p0) rfl A3 fun Cp Bu=>?_;obtain ⟨A4,Bv,Bw⟩:=(Ad.o p0).cells Bu A3;have A5:=Ad.az Bv;refine AOl (c:=cZ) ACf rfl (A5.z p0) (fun j u hu=>(Bw j u hu)) (ADi [.bool false,.slice none 0 0] AGk rfl trivial tt2 fun Cq Bx By Bz B1=>?_);have Ae:=A5.nb Bz B1 By;refine AC7 A4 ACf (cZ.klen (Ae.z p1)) (cZ.klen (AB9 Bx)) rfl rfl (cZ.one (Ae.z p1)) (Ae.b p0) fun Cr B3 B4=>AK0 ?_;have Af:=Ae.sb p0 B4 B3 rfl;refine AEu A4 ACf (cZ.klen (Af.z p1)) rfl (Af.b p0).agg ?_;obtain ⟨Ct,B5,A6⟩:=ABq Bt;refine ADb rfl (AW7 (Af.z p1).2 B5) fun Cu Cv B6 B7=>?_;subst B7;refine AWd rfl rfl (ABt ?_);have A7:=Af.e B6;refine ⟨_,rfl,fun Am=>?_,fun Am=>?_⟩
  ·refine ABp (ABv ?_);obtain rfl:=ABo (AC8 A6 Am);change _=Aj at Ab;subst Ab;refine ABx (ADe (AB4 (AB4 (ADe (AB4 ?_)))));obtain rfl:=ABo Az;exact ⟨_,ABz,A7.x,rfl⟩
  ·refine ABy (q_b (q_t (AB5 (ACz rfl rfl (Wo (ABt ?_))))));obtain rfl:=ABo (AC9 A6 Am);exact ⟨Br,((w64 (Bp + 1)):(Int)),Nat.lt_succ_self _,⟨Ab,A7.sel [2] (by decide)⟩,rfl,trivial⟩
 ·obtain rfl:=ABo (AC9 Aa Ak);change _=Aj at Ab;subst Ab;refine ACh (ACj (ACj (ADo (q_t (ABp (ABv (ABx ?_)))))));obtain rfl:=ABo Az;exact ⟨_,ABz,Ad.x,rfl⟩
def AEh (fuel:Nat) (a3:LiI):Option Int:=
  ((AFa fuel a3).bind fun (x5,x6)=>(if (!x6)=true then (some 3) else (if 8 < x5 then (some 3) else ((AE6 fuel a3).bind fun Ad=>(if (!Ad)=true then (some 4) else ((AG2 fuel a3).bind fun Ae=>(if (!Ae)=true then (some 5) else (some 0))))))))
theorem AJk {fuel:Nat} {h:ABu} {Ah:Value} {a3:LiI} {r:Int} (H2:AEq cZ h Ah a3) (hp:AEh fuel a3=some r):ACn Tryz.prog 35 #[Ah] h (fun x h'=>Ext h h'/\x= .int .i64 r):=by
 unfold AEh at hp;refine cwf (l:=[_]) Tryz.func35 rfl rfl (ABp (AC1 (Wo ?_)));have K0:=Kst.k0 h;obtain ⟨⟨x5,x6⟩,Au,Ac⟩:=ABq hp;dsimp only at Ac;refine ADb rfl (ANx (H2.ext K0.x) Au) fun A7 A8 E9 Aw=>?_;subst Aw;refine Wo (ADm rfl rfl (ADm rfl rfl (ACk (ABv (ABr (ABw (ABp (Wo (AE1 rfl (Wo ?_))))))))));have Aa:=K0.e E9;cases Ak:(!x6)
 ·refine AB3 13 false (Wo (AB3 13 false (AGz rfl rfl (AB0 rfl (ABv ?_)))));have Am:=AH8 Ac Ak;refine ⟨_,rfl,fun Ad=>?_,fun Ad=>?_⟩
  ·refine ABp (ABv (ABx (ADe (AB4 ?_))));obtain rfl:=ABo (AC8 Am Ad);exact ⟨_,ABz,Aa.x,rfl⟩
  ·refine ABp (Wo ?_);obtain ⟨A9,Ax,Ao⟩:=ABq (AC9 Am Ad);refine ADb rfl (AMo (H2.ext Aa.x) Ax) fun Ba Bb Ay Az=>?_;subst Az;refine AE1 rfl (ABv ?_);have Ae:=Aa.e Ay;refine ⟨_,rfl,fun Af=>?_,fun Af=>?_⟩
   ·refine ABp (ABv (ABx (ADe (AB4 ?_))));obtain rfl:=ABo (ifT Ao Af);exact ⟨_,ABz,Ae.x,rfl⟩
   ·refine ABp (Wo ?_);obtain ⟨Bc,A3,Ap⟩:=ABq (AH8 Ao Af);refine ADb rfl (AQs (H2.ext Ae.x) A3) fun Be Bf A4 A5=>?_;subst A5;refine AE1 rfl (ABv ?_);have Aq:=Ae.e A4;refine ⟨_,rfl,fun Ag=>?_,fun Ag=>?_⟩
    ·refine ABp (ABv (ABx (ADe (AB4 ?_))));obtain rfl:=ABo (ifT Ap Ag);exact ⟨_,ABz,Aq.x,rfl⟩
    ·refine ABy (q_b (q_t (ABp (ABv (ABx ?_)))));obtain rfl:=ABo (AH8 Ap Ag);exact ⟨_,ABz,Aq.x,rfl⟩
 ·refine AIg 13 true (AB2 rfl (ABv (ACd rfl (ABp (ABv (ABx (ADe (AB4 ?_))))))));obtain rfl:=ABo (ifT Ac Ak);exact ⟨_,ABz,Aa.x,rfl⟩
def AE7 (fuel:Nat) (a3 a7:LiI):Option LiI:=
  ((AE5 fuel a7).bind fun (x9,Af)=>((AD9 fuel x9 a3).bind fun Ad=>((AD9 fuel Ad a7).bind fun Ae=>(some Ae))))
theorem AQi {fuel:Nat} {h:ABu} {Ad:Value} {a3:LiI} {Af:Value} {a7 r:LiI} (H2:AEq cZ h Ad a3) (H6:AEq cZ h Af a7) (hp:AE7 fuel a3 a7=some r):ACn Tryz.prog 41 #[Ad,Af] h (fun x h'=>Ext h h'/\ ∃ (x0:Value) (F0:List Nat) (Ap:List LnA) (Aq:List Value),x=x0/\AFf cZ 100 90 h' F0 Ap Aq x0 r/\Sp h' h.size [F0]):=by
 unfold AE7 at hp;refine cwf (l:=[_,_]) Tryz.func41 rfl rfl (ABp (AC1 (Wo ?_)));have K0:=Kst.k0 h;obtain ⟨⟨x9,Bf⟩,Ar,Am⟩:=ABq hp;dsimp only at Am;refine ADb rfl (AMn (H6.ext K0.x) Ar) fun Bg Bh Au Av=>?_;obtain ⟨Bi,Bj,Bl,Bm,rfl,Aw,Ax⟩:=Av;refine Wo (ADm rfl rfl (ADm rfl rfl (ACk (AC1 (Wo (Wo ?_))))));have Aa:=K0.no2 Au Ax Aw;obtain ⟨Bn,Ay,Az⟩:=ABq Am;refine ADb rfl (AJu (Aa.o2 p0).rd (H2.ext Aa.x) Ay) fun Bo Bp A3 A4=>?_;obtain ⟨Bq,Br,Bt,Bu,rfl,A5,A6⟩:=A4;refine Wo ?_;have Ab:=Aa.no2 A3 A6 A5;obtain ⟨Bv,A7,A8⟩:=ABq Az;refine ADb rfl (AJu (Ab.o2 p0).rd (H6.ext Ab.x) A7) fun Bw Bx A9 Ba=>?_;obtain ⟨By,Bz,B1,B3,rfl,Bb,Bc⟩:=Ba;refine ABv (ABx ?_);have Ac:=Ab.no2 A9 Bc Bb;obtain rfl:=ABo A8;exact ⟨_,ABz,Ac.x,_,_,_,_,rfl,(Ac.o2 p0),Ac.s.sel [0] (by decide)⟩
def AKe (fuel:Nat) (a6:Int) (Ab Ac:LiA) (Aa:Int):Option ((LiA × LiA × Int) ⊕ ((LiA × LiA))):=
  (if Aa < a6 then (if Ab.length<=100000000 then (if Ac.length<=100000000 then (some (Sum.inl ((Ab ++ [Aa]),(Ac ++ [Aa]),(w64 (Aa + 1))))) else none) else none) else (some (Sum.inr<| (Ab,Ac))))
def AFb (fuel:Nat) (a3:LiI) (a5 a6:Int):Option Int:=
  ((iter (fun s=>AKe fuel a6 s.1 s.2.1 s.2.2) fuel ([],[],0)).bind (fun ((Ab,Ac):LiA × LiA)=>(if Ab.length<=100000000 then (if Ac.length<=100000000 then ((AF8 fuel a3 (Ab ++ [a5]) (Ac ++ [a6])).bind fun Af=>((AC6 fuel Af).bind fun Ag=>(some Ag))) else none) else none)))
theorem AKf {fuel:Nat} {h:ABu} {Ak:Value} {a3:LiI} {a5 a6 r:Int} (H2:AEq cZ h Ak a3) (hp:AFb fuel a3 a5 a6=some r):ACn Tryz.prog 82 #[Ak,(.int .i64 a5),(.int .i64 a6)] h (fun x h'=>Ext h h'/\ ∃ (x0:Value),x=x0/\ZZ h' x0 r):=by
 unfold AFb at hp;refine cwf (l:=[_,_,_]) Tryz.func82 rfl rfl (ABp (ADi [.bool false,.slice none 0 0] AGk rfl trivial tt2 fun b7 h8 V9 Ay Az=>AK0 (ACk (ABv (ABr (ABp (ABv (ABw ?_))))))));have Ap:=Kst.anil (cI .i64) 3 (Kst.anil (cI .i64) 3 ((Kst.k0 h).nb Ay Az V9));obtain ⟨Aq,A3,A4⟩:=ABq hp;obtain ⟨A5,A6,A7⟩:=ACe A3;refine ACq 8388480 (fun x:(LiA) × (Value) × LnA × (LiA) × (Value) × LnA × (Int)=>[(7,x.2.1),(8,x.2.2.2.2.1),(9,(.int .i64 x.2.2.2.2.2.2))]) (fun k x h'=>iter A5 k (x.1,x.2.2.2.1,x.2.2.2.2.2.2)=some Aq/\Kst h h' ((Ap.L.set 1 (aO (cI .i64) 3 x.2.2.1 x.2.1 x.1)).set 0 (aO (cI .i64) 3 x.2.2.2.2.2.1 x.2.2.2.2.1 x.2.2.2.1))) (by kernel_rfl) fuel (([],(.slice none 0 0),[],[],(.slice none 0 0),[],0):(LiA) × (Value) × LnA × (LiA) × (Value) × LnA × (Int)) ?_ ⟨rfl,rfl,rfl,trivial⟩ ?_
 ·exact ⟨A7,Ap⟩
 rintro Cp ⟨A8,Cq,Cr,A9,Ct,Cu,Aa⟩ Cv Cw ⟨Ba,Ae⟩;obtain ⟨Bb,Cx,rfl,Ab,Ai⟩:=AB7 Ba;rw [A6] at Ab;dsimp only at Ab;unfold AKe at Ab;refine ABr (ABp (Wo (Wo (ACu rfl rfl (ABt (⟨_,rfl,fun Aj=>?_,fun Aj=>?_⟩))))))
 ·refine ABy (q_t (ABr (ABw (ABp (Wo (Wo ?_))))));obtain ⟨Bc,Be⟩:=ifN (AC8 Ab Aj);refine AM2 AVy AV9 rfl rfl trivial tt2 (fun _=>rfl) rfl (show ((cI .i64)).rep _ Aa [(.int .i64 Aa)] from rfl) (Ae.o p1) (by decide) Bc fun Cy Bf Bg Cz Bh Bi Bj=>ABv (AB5 (Wo (Wo ?_)));have Ar:=Ae.uo p1 Bi Bh Bj;obtain ⟨Bl,Bm⟩:=ifN Be;refine AM2 AVy AV9 rfl rfl trivial tt2 (fun _=>rfl) rfl (show ((cI .i64)).rep _ Aa [(.int .i64 Aa)] from rfl) (Ar.o p0) (by decide) Bl fun C0 Bn Bo C1 Bp Bq Br=>ACk (ACr (q_b (q_t (AB5 (Wo (ACz rfl rfl (ABv ?_)))))));obtain rfl:=ABo Bm;exact ⟨Bb,(((A8 ++ [Aa]),Bg,Bf,(A9 ++ [Aa]),Bo,Bn,(w64 (Aa + 1))):(LiA) × (Value) × LnA × (LiA) × (Value) × LnA × (Int)),Nat.lt_succ_self _,⟨Ai,(Ar.uo p0 Bq Bp Br)⟩,rfl,rfl,rfl,trivial⟩
 ·obtain rfl:=ABo (AC9 Ab Aj);change _=Aq at Ai;subst Ai;refine ACh (ACj (ACj (ADo (q_t (ABp (Wo (Wo (Wo ?_))))))));obtain ⟨Bt,Bu⟩:=ifN A4;refine AM2 AVy AV9 rfl rfl trivial tt2 (fun _=>rfl) rfl (show ((cI .i64)).rep _ a5 [(.int .i64 a5)] from rfl) (Ae.o p1) (by decide) Bt fun C2 C3 C4 C5 Bv Bw Bx=>Wo (Wo ?_);have Au:=Ae.uo p1 Bw Bv Bx;obtain ⟨By,Bz⟩:=ifN Bu;refine AM2 AVy AV9 rfl rfl trivial tt2 (fun _=>rfl) rfl (show ((cI .i64)).rep _ a6 [(.int .i64 a6)] from rfl) (Au.o p0) (by decide) By fun C6 C7 C8 C9 B1 B3 B4=>?_;have Af:=Au.uo p0 B3 B1 B4;obtain ⟨Da,B5,B6⟩:=ABq Bz;refine ADb rfl (ANy (H2.ext Af.x) (Af.o p1).rd (Af.o p0).rd B5) fun Db Dc B7 B8=>?_;obtain ⟨Dd,De,Df,Dg,rfl,B9,Ca⟩:=B8;have Av:=Af.no2 B7 Ca B9;obtain ⟨Dh,Cb,Cd⟩:=ABq B6;refine ADb rfl (AEi (Av.o2 p0).rd Cb) fun Di Ce Cf Cg=>?_;obtain ⟨Dj,rfl,Ch⟩:=Cg;obtain ⟨Ci,rfl,Cj⟩:=Ch.cs;have Ag:=(Av.e Cf).az Cj;refine AC7 Ci ACf (cZ.klen (Ag.z p0)) (cZ.klen (AB9 Ce)) rfl rfl (cZ.one (Ag.z p0)) (Ag.b p4) fun Dk Ck Cm=>ABt (ABx ?_);have Ah:=Ag.sb p4 Cm Ck rfl;obtain rfl:=ABo Cd;exact ⟨_,AEe ACf (cZ.klen (Ah.z p0)) rfl (Ah.b p4),Ah.x,_,rfl,(Ah.z p0).2⟩
def AEb (fuel:Nat) (a3:LiA) (a5:Int):Option Int:=
  (if a5=0 then ((ALf fuel 1).bind fun Ac=>(some Ac)) else ((gI a3 (w64 (a5 - 1))).bind fun Ad=>(some Ad)))
theorem AFj {fuel:Nat} {h:ABu} {Ag:Value} {a3:LiA} {a5 r:Int} (H2:SlC cZ h Ag a3) (hp:AEb fuel a3 a5=some r):ACn Tryz.prog 83 #[Ag,(.int .i64 a5)] h (fun x h'=>Ext h h'/\ ∃ (x0:Value),x=x0/\ZZ h' x0 r):=by
 unfold AEb at hp;refine cwf (l:=[_,_]) Tryz.func83 rfl rfl (ABp (ADi [.bool false,.slice none 0 0] AGk rfl trivial tt2 fun b6 h7 V8 E9 Aq=>ABt (ABr (ABp (Wo (AD8 rfl rfl (ABt ?_)))))));have Aa:=(Kst.k0 h).nb E9 Aq V8;refine ⟨_,rfl,fun Af=>?_,fun Af=>?_⟩
 ·refine ABp ?_;obtain ⟨Be,Ar,Au⟩:=ABq (AC8 hp Af);refine ADb rfl (AKp Ar) fun Bf Av Aw Ax=>?_;obtain ⟨Bg,rfl,Ay⟩:=Ax;obtain ⟨Az,rfl,A3⟩:=Ay.cs;have Ac:=(Aa.e Aw).az A3;refine AC7 Az ACf (cZ.klen (Ac.z p0)) (cZ.klen (AB9 Av)) rfl rfl (cZ.one (Ac.z p0)) (Ac.b p1) fun Bh A4 A5=>ABt (ABx (AB4 ?_));have Ad:=Ac.sb p1 A5 A4 rfl;obtain rfl:=ABo Au;exact ⟨_,AEe ACf (cZ.klen (Ad.z p0)) rfl (Ad.b p1),Ad.x,_,rfl,(Ad.z p0).2⟩
 ·refine ABy (q_t (ABp (Wo (Wo (AIf rfl rfl ?_)))));obtain ⟨Bi,A6,A7⟩:=ABq (AC9 hp Af);refine AHe (c:=cZ) AEv rfl H2 rfl A6 fun Bj Bl A8 Ab A9=>AOl (c:=cZ) ACf rfl (Aa.zx Ab) (fun j u hu=>(AB1 (A9 j u hu) Aa.x)) (AC7 A8 ACf (cZ.klen (Aa.zx Ab)) (cZ.klen (AB9 h7)) rfl rfl (cZ.one (Aa.zx Ab)) (Aa.b p0) fun Bm Ba Bb=>ABt (ABx ?_));have Ae:=Aa.sb p0 Bb Ba rfl;obtain rfl:=ABo A7;exact ⟨_,AEe ACf (cZ.klen (Ae.zx Ab)) rfl (Ae.b p0),Ae.x,_,rfl,(Ae.zx Ab).2⟩
def AGu (fuel:Nat) (a3:LiI) (a7:LiA) (a9 Aa:Int):Option Bool:=
  ((ALf fuel 2).bind fun Ae=>((AFb fuel a3 a9 Aa).bind fun Af=>((Aia fuel Af).bind fun Ag=>((ARi fuel Ae Ag).bind fun Ah=>((AEb fuel a7 (w64 (Aa + 1))).bind fun Ai=>((Abt fuel Ah Ai).bind fun Aj=>(some (decide (Aj<=0)))))))))
theorem AN7 {fuel:Nat} {h:ABu} {Ac:Value} {a3:LiI} {Ae:Value} {a7:LiA} {a9 Ah:Int} {r:Bool} (H2:AEq cZ h Ac a3) (H6:SlC cZ h Ae a7) (hp:AGu fuel a3 a7 a9 Ah=some r):ACn Tryz.prog 78 #[Ac,Ae,(.int .i64 a9),(.int .i64 Ah)] h (fun x h'=>Ext h h'/\x= .bool r):=by
 unfold AGu at hp;refine cwf (l:=[_,_,_,_]) Tryz.func78 rfl rfl (ABp (AC1 ?_));obtain ⟨Bv,Ap,Aq⟩:=ABq hp;refine ADb rfl (AKp Ap) fun Bw Bx Ar Au=>?_;obtain ⟨By,rfl,Av⟩:=Au;obtain ⟨Bz,rfl,Aw⟩:=Av.cs;refine Wo (Wo (Wo ?_));have Ai:=((Kst.k0 h).e Ar).az Aw;obtain ⟨B1,Ax,Ay⟩:=ABq Aq;refine ADb rfl (AKf (H2.ext Ai.x) Ax) fun B3 B4 Az A3=>?_;obtain ⟨B5,rfl,A4⟩:=A3;obtain ⟨B6,rfl,A5⟩:=A4.cs;have Aj:=(Ai.e Az).az A5;obtain ⟨B7,A6,A7⟩:=ABq Ay;refine ADb rfl (Ags (Aj.z p0).2 A6) fun B8 B9 A8 A9=>?_;obtain ⟨Ca,rfl,Ba⟩:=A9;obtain ⟨Cb,rfl,Bb⟩:=Ba.cs;have Aa:=(Aj.e A8).az Bb;obtain ⟨Cd,Bc,Be⟩:=ABq A7;refine ADb rfl (AQg (Aa.z p2).2 (Aa.z p0).2 Bc) fun Ce Cf Bf Bg=>?_;obtain ⟨Cg,rfl,Bh⟩:=Bg;obtain ⟨Ch,rfl,Bi⟩:=Bh.cs;refine Wo (Wo (ACz rfl rfl ?_));have Ak:=(Aa.e Bf).az Bi;obtain ⟨Ci,Bj,Bl⟩:=ABq Be;refine ADb rfl (AFj (H6.ext Ak.x) Bj) fun Cj Ck Bm Bn=>?_;obtain ⟨Cm,rfl,Bo⟩:=Bn;obtain ⟨Cn,rfl,Bp⟩:=Bo.cs;have Ab:=(Ak.e Bm).az Bp;obtain ⟨Co,Bq,Br⟩:=ABq Bl;refine ADb rfl (Aad (Ab.z p1).2 (Ab.z p0).2 Bq) fun Cp Cq Bt Bu=>?_;subst Bu;refine AWd rfl rfl (ABv (ABx ?_));obtain rfl:=ABo Br;exact ⟨_,ABz,(Ab.e Bt).x,rfl⟩
def AGv (fuel:Nat) (a3:LiI):Option Bool:=
  ((AC6 fuel a3).bind fun x5=>((ALf fuel 10000).bind fun Ac=>((Abt fuel x5 Ac).bind fun Ad=>(some (decide (Ad<=0))))))
theorem AN8 {fuel:Nat} {h:ABu} {Ab:Value} {a3:LiI} {r:Bool} (H2:AEq cZ h Ab a3) (hp:AGv fuel a3=some r):ACn Tryz.prog 36 #[Ab] h (fun x h'=>Ext h h'/\x= .bool r):=by
 unfold AGv at hp;refine cwf (l:=[_]) Tryz.func36 rfl rfl (ABp (AC1 (Wo ?_)));have K0:=Kst.k0 h;obtain ⟨x5,Af,Ag⟩:=ABq hp;refine ADb rfl (AEi (H2.ext K0.x) Af) fun A3 h9 E8 Ai=>?_;obtain ⟨A5,rfl,Aj⟩:=Ai;obtain ⟨A6,rfl,Ak⟩:=Aj.cs;obtain ⟨A7,Am,Ao⟩:=ABq Ag;refine ADb rfl (AKp Am) fun A8 A9 Ap Aq=>?_;obtain ⟨Ba,rfl,Ar⟩:=Aq;obtain ⟨Bb,rfl,Au⟩:=Ar.cs;have Aa:=(((K0.e E8).az Ak).e Ap).az Au;obtain ⟨Bc,Av,Aw⟩:=ABq Ao;refine ADb rfl (Aad (Aa.z p1).2 (Aa.z p0).2 Av) fun Be Bf Ax Ay=>?_;subst Ay;refine AWd rfl rfl (ABv (ABx ?_));obtain rfl:=ABo Aw;exact ⟨_,ABz,(Aa.e Ax).x,rfl⟩
def ALp (fuel:Nat) (a1:Int) (a2:Bool) (Aa:Int) (Ac:LiI):Option ((Int × LiI) ⊕ ((LiI))):=
  (if Aa < ((List.replicate (Int.toNat a1) ([]:List Int)).length:Int) then (if 0<=a1/\a1<=100000000 then ((gI Ac Aa).bind fun Ai=>((gI (sI Ac Aa (List.replicate (Int.toNat a1) (0:Int))) Aa).bind fun Ae=>((gI Ae Aa).bind fun Aj=>(((if a2=true then (if Aa=(w64 (a1 - 1)) then (if 3 < a1 then (some ( (w64 (Aa - 2)))) else (some ( (w64 (Aa - 1))))) else (some ( (w64 (Aa - 1))))) else (some ( (w64 (Aa - 1))))):Option ((Int))).bind (fun (Ad:Int)=>(if 0<=Ad then ((gI (sI (sI Ac Aa (List.replicate (Int.toNat a1) (0:Int))) Aa (sI Ae Aa 2)) Aa).bind fun Af=>((gI (sI (sI Ac Aa (List.replicate (Int.toNat a1) (0:Int))) Aa (sI Ae Aa 2)) Ad).bind fun Ak=>((gI Af Ad).bind fun Am=>((gI (sI (sI (sI Ac Aa (List.replicate (Int.toNat a1) (0:Int))) Aa (sI Ae Aa 2)) Aa (sI Af Ad (-1))) Ad).bind fun Ag=>((gI Ag Aa).bind fun Ao=>(some (Sum.inl ((w64 (Aa + 1)),(sI (sI (sI (sI Ac Aa (List.replicate (Int.toNat a1) (0:Int))) Aa (sI Ae Aa 2)) Aa (sI Af Ad (-1))) Ad (sI Ag Aa (-1))))))))))) else (some (Sum.inl ((w64 (Aa + 1)),(sI (sI Ac Aa (List.replicate (Int.toNat a1) (0:Int))) Aa (sI Ae Aa 2))))))))))) else none) else (some (Sum.inr<| Ac)))
def AHl (fuel:Nat) (a1:Int) (a2:Bool):Option LiI:=
  (if 0<=a1/\a1<=100000000 then ((iter (fun s=>ALp fuel a1 a2 s.1 s.2) fuel (0,(List.replicate (Int.toNat a1) ([]:List Int)))).bind (fun (Ac:LiI)=>(some Ac))) else none)
theorem AOp {fuel:Nat} {h:ABu} {a1:Int} {a2:Bool} {r:LiI} (hp:AHl fuel a1 a2=some r):ACn Tryz.prog 45 #[(.int .i64 a1),(.bool a2)] h (fun x h'=>Ext h h'/\ ∃ (x0:Value) (F0:List Nat) (Bn:List LnA) (Bo:List Value),x=x0/\AFf (cI .i64) 35 2 h' F0 Bn Bo x0 r/\Sp h' h.size [F0]):=by
 unfold AHl at hp;refine cwf (l:=[_,_]) Tryz.func45 rfl rfl (ABp (AC1 (Wo ?_)));obtain ⟨Bp,Bq⟩:=ifN hp;refine ASb (cI .i64) 2 ACi AN2 rfl trivial tt2 rfl rfl (by decide) Bp fun Br Bt Bu v9 h7 I8 E5 S6=>ABv (ABr (ABp (Wo ?_)));have Aq:=(Kst.k0 h).no2 E5 S6 I8;refine ADa ACi rfl (Aq.o2 p0).rd (Wo (ABt (ABw ?_)));obtain ⟨A4,Bz,B1⟩:=ABq Bq;obtain ⟨B3,B4,B5⟩:=ACe Bz;refine ACq 72057594037924032 (fun x:(Int) × (LiI) × LnA × LnN × LvA=>[(12,(.int .i64 x.1))]) (fun k x h'=>iter B3 k (x.1,x.2.1)=some A4/\Kst h h' (Aq.L.set 0 (aO2 (cI .i64) 35 2 x.2.2.1 x.2.2.2.1 x.2.2.2.2 v9 x.2.1))) (by kernel_rfl) fuel ((0,(List.replicate (Int.toNat a1) ([]:List Int)),Br,Bt,Bu):(Int) × (LiI) × LnA × LnN × LvA) ?_ ⟨rfl,trivial⟩ ?_
 ·exact ⟨B5,Aq⟩
 rintro Dd ⟨Aa,A5,De,Ag,A6⟩ Df Dg ⟨B6,Ah⟩;obtain ⟨A7,Dh,rfl,Ad,Ai⟩:=AB7 B6;rw [B4] at Ad;dsimp only at Ad;unfold ALp at Ad;refine ABp (ACu rfl rfl (ABt (ABr (⟨_,rfl,fun Ar=>?_,fun Ar=>?_⟩))))
 ·refine ABy (q_t (ABr (ABw (ABp (Wo (AC1 (Wo (Wo (Wo ?_)))))))));obtain ⟨B7,B8⟩:=ifN (AC8 Ad Ar);refine ARb (c:=(cI .i64)) (a:=0) ACs AMw rfl rfl (fun _=>rfl) rfl trivial tt2 rfl rfl (by decide) B7 fun Aj A8 Di B9 Ca Cb Cd=>?_;have Ae:=Ah.no Ca (AIj Cb Cd) B9;obtain ⟨Dj,A9,Ce⟩:=ABq B8;refine ADl ACi rfl (Ae.o2 p1) rfl A9 fun Ba Dk Cf Dl Dn=>AS0 AC3 (Ae.o2 p1) A9 Cf rfl rfl (Ae.o p0) (Ae.dj p0 p1 (by decide)) fun Do Cg Ch Ci=>AK0 (Wo (Wo ?_));have Ak:=Ae.m2 p0 p1 (by decide) Ch Cg (fun z hz=> .inl (Ci z hz));obtain ⟨Bb,Au,Cj⟩:=ABq Ce;refine ADl ACi rfl (Ak.o2 p1) rfl Au fun Dp Dq Dr Ck Cm=>AB6 AC3 rfl Cm (Wo ?_);obtain ⟨Ds,Bc,Cn⟩:=ABq Cj;refine AD2 (m:=Aa) ACs rfl (Ak.o2 p1) Ck Au rfl Bc fun Dt Co=>AH9 (m:=Aa) (AG8 ACx rfl rfl rfl) (Ak.o2 p1) Co Au Bc (show ((cI .i64)).rep _ 2 _ from rfl) fun Du Cp Cq=>AK0 (Wo (AIf rfl rfl (ABv ?_)));have Af:=Ak.uO2 p1 Cq Cp;obtain ⟨Cr,Be,Bf⟩:=ABq Cn;refine ALi 2198754820224 (fun x:(Int)=>[(7,(.int .i64 x))]) (fun x h'=>( x)=Cr/\Kst h h' (AI3 Af.L [1])) ?_ ?_
  ·refine ABp (Wo (Wo ?_));cases Bg:a2
   ·refine AFl 29 false (AB0 rfl (Wo (AIg 35 false (AB0 rfl (ABt (ACo rfl (ABy (q_t ?_))))))));exact ⟨((w64 (Aa - 1)):(Int)),⟨ABo (AH8 Be Bg),Af.sel [1] (by decide)⟩,rfl,trivial⟩
   ·refine AB3 29 true (Wo (AB3 29 true (Wo (AB3 29 true (AIf rfl rfl (AB3 29 true (AD8 rfl rfl (AB2 rfl (Wo ?_)))))))));have Bh:=ifT Be Bg;by_cases Am:Aa=(w64 (a1 - 1))
    ·have Bi:=ifT Bh Am;rw [decide_eq_true Am];refine AB3 35 true (Wo (AB3 35 true (AGz rfl rfl (AB2 rfl (ABt (⟨_,rfl,fun Av=>?_,fun Av=>?_⟩))))))
     ·refine AB5 (Wo (AIf rfl rfl (ABv ?_)));exact ⟨((w64 (Aa - 2)):(Int)),⟨ABo (AC8 Bi Av),Af.sel [1] (by decide)⟩,rfl,trivial⟩
     ·refine ABy (q_t ?_);exact ⟨((w64 (Aa - 1)):(Int)),⟨ABo (AC9 Bi Av),Af.sel [1] (by decide)⟩,rfl,trivial⟩
    ·rw [decide_eq_false Am];refine AIg 35 false (AB0 rfl (ABt (ACo rfl (ABy (q_t ?_)))));exact ⟨((w64 (Aa - 1)):(Int)),⟨ABo (ifF Bh Am),Af.sel [1] (by decide)⟩,rfl,trivial⟩
  rintro Ao Dv Dw ⟨Ct,Ac⟩;subst Ct;refine ABp (Wo (ANd rfl rfl (ABt (⟨_,rfl,fun Aw=>?_,fun Aw=>?_⟩))))
  ·refine AKm (Wo (Wo ?_));obtain ⟨Cu,Ax,Cv⟩:=ABq (AC8 Bf Aw);refine ADl ACi rfl (Ac.o2 p0) rfl Ax fun Dx Dy Dz Cw Cx=>AB6 AC3 rfl Cx (Wo (Wo (Wo ?_)));obtain ⟨D0,Cy,Cz⟩:=ABq Cv;refine ADl ACi rfl (Ac.o2 p0) rfl Cy fun D1 D2 D3 C0 C1=>AB6 AC3 rfl C1 (Wo ?_);obtain ⟨D4,Bj,C2⟩:=ABq Cz;refine AD2 (m:=Aa) ACs rfl (Ac.o2 p0) Cw Ax rfl Bj fun D5 C3=>AH9 (m:=Aa) (AG8 ACx rfl rfl rfl) (Ac.o2 p0) C3 Ax Bj (show ((cI .i64)).rep _ (-1) _ from rfl) fun D6 C4 C5=>?_;have Ay:=Ac.uO2 p0 C5 C4;obtain ⟨C6,Bl,C7⟩:=ABq C2;obtain ⟨D7,Bm,C8⟩:=ABq C7;refine AD2 (m:=Ao) ACs rfl (Ay.o2 p0) C0 Bl rfl Bm fun D8 C9=>AH9 (m:=Ao) (AG8 ACx rfl rfl rfl) (Ay.o2 p0) C9 Bl Bm (show ((cI .i64)).rep _ (-1) _ from rfl) fun D9 Da Db=>ACr (q_b (q_t (AB5 (ACz rfl rfl (Wo (ABt ?_))))));obtain rfl:=ABo C8;exact ⟨A7,(((w64 (Aa + 1)),(sI (sI (sI (sI A5 Aa (List.replicate (Int.toNat a1) (0:Int))) Aa (sI Bb Aa 2)) Aa (sI Cu Ao (-1))) Ao (sI C6 Aa (-1))),(Ba :: (Ag.set (Int.toNat Aa) [Aj]).flatten),(Ag.set (Int.toNat Aa) [Aj]),(A6.set (Int.toNat Aa) A8)):(Int) × (LiI) × LnA × LnN × LvA),Nat.lt_succ_self _,⟨Ai,(Ay.uO2 p0 Db Da)⟩,rfl,trivial⟩
  ·refine ABy (q_b (q_t (AB5 (ACz rfl rfl (Wo (ABt ?_))))));obtain rfl:=ABo (AC9 Bf Aw);exact ⟨A7,(((w64 (Aa + 1)),(sI (sI A5 Aa (List.replicate (Int.toNat a1) (0:Int))) Aa (sI Bb Aa 2)),(Ba :: (Ag.set (Int.toNat Aa) [Aj]).flatten),(Ag.set (Int.toNat Aa) [Aj]),(A6.set (Int.toNat Aa) A8)):(Int) × (LiI) × LnA × LnN × LvA),Nat.lt_succ_self _,⟨Ai,Ac⟩,rfl,trivial⟩
 ·obtain rfl:=ABo (AC9 Ad Ar);change _=A4 at Ai;subst Ai;refine ACh (ACj (ACj (ADo (q_t (ABp (Wo (ABv (ABx ?_))))))));obtain rfl:=ABo B1;exact ⟨_,ABz,Ah.x,_,_,_,_,rfl,(Ah.o2 p0),Ah.s.sel [0] (by decide)⟩
def AI6 (fuel:Nat) (a3:LiI):Option Bool:=
  ((AE9 fuel a3).bind fun x5=>((AEh fuel x5).bind fun Ac=>(if Ac=0 then ((AC6 fuel x5).bind fun Ad=>((ALf fuel 10000).bind fun Ae=>((Abt fuel Ad Ae).bind fun Af=>(some (decide (Af<=0)))))) else (some false))))
theorem AT0 {fuel:Nat} {h:ABu} {Ad:Value} {a3:LiI} {r:Bool} (H2:AEq (cI .i64) h Ad a3) (hp:AI6 fuel a3=some r):ACn Tryz.prog 48 #[Ad] h (fun x h'=>Ext h h'/\x= .bool r):=by
 unfold AI6 at hp;refine cwf (l:=[_]) Tryz.func48 rfl rfl (ABp (AC1 (Wo ?_)));have K0:=Kst.k0 h;obtain ⟨x5,Aj,Ak⟩:=ABq hp;refine ADb rfl (AJ3 (H2.ext K0.x) Aj) fun Bi h9 E8 Ao=>?_;obtain ⟨Bl,Bm,Bn,Bo,rfl,Ap,Aq⟩:=Ao;refine AC1 (Wo ?_);have Ag:=K0.no2 E8 Aq Ap;obtain ⟨Ar,Au,Ah⟩:=ABq Ak;refine ADb rfl (AJk (Ag.o2 p0).rd Au) fun Bp Bq Av Aw=>?_;subst Aw;refine AD8 rfl rfl (Wo ?_);have Ab:=Ag.e Av;by_cases Aa:Ar=0
 ·rw [decide_eq_true Aa];refine AB3 9 true (Wo (AB3 9 true ?_));obtain ⟨Br,Ax,Ay⟩:=ABq (ifT Ah Aa);refine ADb rfl (AEi (Ab.o2 p0).rd Ax) fun Bt Bu Az A3=>?_;obtain ⟨Bv,rfl,A4⟩:=A3;obtain ⟨Bw,rfl,A5⟩:=A4.cs;refine AB3 9 true ?_;obtain ⟨Bx,A6,A7⟩:=ABq Ay;refine ADb rfl (AKp A6) fun By Bz A8 A9=>?_;obtain ⟨B1,rfl,Ba⟩:=A9;obtain ⟨B3,rfl,Bb⟩:=Ba.cs;refine AB3 9 true ?_;have Ac:=(((Ab.e Az).az A5).e A8).az Bb;obtain ⟨B4,Bc,Be⟩:=ABq A7;refine ADb rfl (Aad (Ac.z p1).2 (Ac.z p0).2 Bc) fun B5 B6 Bf Bg=>?_;subst Bg;refine AB3 9 true (AWd rfl rfl (AB2 rfl (ABv (ABx ?_))));obtain rfl:=ABo Be;exact ⟨_,ABz,(Ac.e Bf).x,rfl⟩
 ·rw [decide_eq_false Aa];refine AFe 9 false (AB0 rfl (ABv (ABx ?_)));obtain rfl:=ABo (ifF Ah Aa);exact ⟨_,ABz,Ab.x,rfl⟩
def AMd (fuel:Nat) (Ab Aa:Int):Option ((Int × Int) ⊕ ((Int))):=
  ((AX4 fuel Aa).bind fun Ac=>(if ¬ Ac=0 then ((AFn fuel Ab Aa).bind fun Ad=>(some (Sum.inl (Aa,Ad)))) else (some (Sum.inr<| Ab))))
def AI7 (fuel:Nat) (a1 a5:Int):Option Int:=
  ((Aia fuel a1).bind fun Ac=>((Aia fuel a5).bind fun Ad=>((iter (fun s=>AMd fuel s.1 s.2) fuel (Ac,Ad)).bind (fun (Ae:Int)=>(some Ae)))))
theorem AT1 {fuel:Nat} {h:ABu} {A3:Value} {a1:Int} {A5:Value} {a5 r:Int} (H3:ZZ h A3 a1) (H7:ZZ h A5 a5) (hp:AI7 fuel a1 a5=some r):ACn Tryz.prog 168 #[A3,A5] h (fun x h'=>Ext h h'/\ ∃ (x0:Value),x=x0/\ZZ h' x0 r):=by
 unfold AI7 at hp;obtain ⟨A8,rfl,A9⟩:=H3.cs;obtain ⟨Ba,rfl,Bb⟩:=H7.cs;refine cwf (l:=[_,_]) Tryz.func168 rfl rfl (ABp (AGo A8 trivial tt2 rfl rfl fun b9 Do Bw Bx By=>AGo Ba trivial tt2 rfl rfl fun Dp Dq Bz B1 B3=>ADi [.bool false,.slice none 0 0] AGk rfl trivial tt2 fun Dr Ao B4 B5 B6=>ABt (ABr ?_)));have Ab:=(((Kst.k0 h).nb Bx By Bw).nb B1 B3 Bz).nb B5 B6 B4;have Ap:UpT [] Ao Ao:=UpT.start all_nil;refine AW8 (B:=fun h'=>UpT [] Ao h') 4 [⟨5,90,[.bool false,.slice none 0 0]⟩,⟨6,90,[.bool false,.slice none 0 0]⟩] (fun _ _ U E=>U.thenE E) (by kernel_rfl) Ap (Amq rfl rfl AGk rfl AGk rfl (fun _ _ U E=>U.thenE E)) (h_l rfl (AEk A8 ACf (cZ.klen (Ab.zx A9)) rfl Ap (fun h' hb=>((Ab.b p2).ext hb.ext).agg) (ACr (h_e rfl fun Ds Bc=>?_))));have Aq:=Ap.thenE Bc;have Be:=Ab.e Bc;obtain ⟨B7,B8,B9⟩:=ABq hp;refine ADg Aq (fun _ E=>Aq.thenE E) rfl (Ags (Be.zx A9).2 B8) fun Dt Du Ar Ca=>?_;obtain ⟨Dv,rfl,Cb⟩:=Ca;have Bf:=Aq.thenE Ar;obtain ⟨Bg,rfl,Cd⟩:=Cb.cs;have Bh:=(Be.e Ar).az Cd;refine ACr ⟨Ar,?_⟩;refine h_l rfl (AEk Ba ACf (cZ.klen (Bh.zx Bb)) rfl Bf (fun h' hb=>((Ab.b p1).ext hb.ext).agg) (ACr (h_e rfl fun Dw Bi=>?_)));have Au:=Bf.thenE Bi;have Bj:=Bh.e Bi;obtain ⟨Ce,Cf,Cg⟩:=ABq B9;refine ADg Au (fun _ E=>Au.thenE E) rfl (Ags (Bj.zx Bb).2 Cf) fun Dx Dy Av Ch=>?_;obtain ⟨Dz,rfl,Ci⟩:=Ch;have Cj:=Au.thenE Av;obtain ⟨Bl,rfl,Ck⟩:=Ci.cs;refine ACr ⟨Av,?_⟩;refine Aeo fun Cm Bm=>Aug fun Cn Co Bn Bo Cp Cq Cr D0 D1=>?_;have Bp:=((Bj.e Av).az Ck).e Bm;have Ag:=((Ab.nb2 (Cj.thenE Bm).ext (Amr Cq Cr Bn.lt Bo.lt Cp) Bn Bo).az (Bp.z p1)).az (Bp.z p0);refine AC7 Bg ACf (cZ.klen (Ag.z p1)) (cZ.klen (AB9 Cm)) rfl rfl (cZ.one (Ag.z p1)) (Ag.b p2) fun Ct Cu Cv=>?_;have Ah:=Ag.sb p2 Cv Cu rfl;refine AC7 Bl ACf (cZ.klen (Ah.z p0)) (cZ.klen (AB9 Ct)) rfl rfl (cZ.one (Ah.z p0)) (Ah.b p3) fun D2 Cw Cx=>ABt (ABr (ABw ?_));obtain ⟨Bq,Cy,Cz⟩:=ABq Cg;obtain ⟨C0,C1,C2⟩:=ACe Cy;have Aw:=(Ah.sb p3 Cx Cw rfl).sel [0,1,2,3,4] (by decide);dsimp only [AI3,AMm] at Aw;refine ACq 260096 (fun x:(Int) × LvA × (Int) × LvA=>[]) (fun k x h'=>iter C0 k (x.1,x.2.2.1)=some Bq/\Kst h h' ((((Aw.L.set 1 (aZ x.2.1 x.1)).set 0 (aZ x.2.2.2 x.2.2.1)).set 2 (aB 90 Cn x.2.1)).set 3 (aB 90 Co x.2.2.2))) (by kernel_rfl) fuel ((B7,Bg,Ce,Bl):(Int) × LvA × (Int) × LvA) ?_ trivial ?_
 ·exact ⟨C2,Aw⟩
 rintro D3 ⟨D4,Ax,C3,Ac⟩ D5 D6 ⟨C4,Ai⟩;obtain ⟨C5,D7,rfl,Aj,Ay⟩:=AB7 C4;rw [C1] at Aj;dsimp only at Aj;unfold AMd at Aj;refine ABr (ABp (AEu Ac ACf (cZ.klen (Ai.z p0)) rfl (Ai.b p3).agg ?_));obtain ⟨D8,C6,Br⟩:=ABq Aj;refine ADb rfl (AW7 (Ai.z p0).2 C6) fun D9 Ak C7 C8=>?_;subst C8;refine AEn rfl rfl (ABt ?_);have Aa:=Ai.e C7;refine ⟨_,rfl,fun Az=>?_,fun Az=>?_⟩
 ·refine ABy (q_t (ABw (AEd (fun h'=>UpT [] Ak h') (by kernel_rfl) ?_)));have Ad:UpT [] Ak Ak:=UpT.start all_nil;refine AEk Ac ACf (cZ.klen (Aa.z p0)) rfl Ad (fun h' hb=>((Aa.b p3).ext hb.ext).agg) (AEk Ax ACf (cZ.klen (Aa.z p1)) rfl Ad (fun h' hb=>((Aa.b p2).ext hb.ext).agg) (AEk Ac ACf (cZ.klen (Aa.z p0)) rfl Ad (fun h' hb=>((Aa.b p3).ext hb.ext).agg) ?_));obtain ⟨C9,Da,Db⟩:=ABq (AC8 Br Az);refine ADg Ad (fun _ E=>Ad.thenE E) rfl (AO7 (Aa.z p1).2 (Aa.z p0).2 Da) fun Ea Eb Dc Dd=>?_;obtain ⟨Ec,rfl,De⟩:=Dd;obtain ⟨Bt,rfl,Df⟩:=De.cs;have Ae:=(Aa.e Dc).az Df;refine AC7 Ac ACf (cZ.klen (Ae.z p1)) (cZ.klen (Ae.z p2)) rfl rfl (cZ.one (Ae.z p1)) (Ae.b p3) fun Ed Dg Dh=>?_;have Af:=Ae.sb p3 Dh Dg rfl;refine AC7 Bt ACf (cZ.klen (Af.z p0)) (cZ.klen (Af.z p1)) rfl rfl (cZ.one (Af.z p0)) (Af.b p4) fun Ee Di Dj=>ACr (q_b (q_t ?_));obtain rfl:=ABo Db;exact ⟨C5,((C3,Ac,C9,Bt):(Int) × LvA × (Int) × LvA),Nat.lt_succ_self _,⟨Ay,(Af.sb p4 Dj Di rfl).sel [0,1,3,4,5] (by decide)⟩,trivial⟩
 ·obtain rfl:=ABo (AC9 Br Az);change _=Bq at Ay;subst Ay;refine ACh (ACj (ACj (ADo (q_t (ABp (AEu Ax ACf (cZ.klen (Aa.z p1)) rfl (Aa.b p2).agg (AC7 Ax ACf (cZ.klen (Aa.z p1)) (cZ.klen (AB9 Ak)) rfl rfl (cZ.one (Aa.z p1)) (Aa.b p4) fun Ef Dk Dl=>ABt (ABx ?_))))))));have Am:=Aa.sb p4 Dl Dk rfl;obtain rfl:=ABo Cz;exact ⟨_,AEe ACf (cZ.klen (Am.z p1)) rfl (Am.b p4),Am.x,_,rfl,(Am.z p1).2⟩
def AH4 (fuel:Nat) (a1 a5:Int):Option ((Int × Int) × Bool):=
  ((AX4 fuel a5).bind fun Af=>(if Af=0 then (some ((0,0),false)) else ((((AX4 fuel a5).bind fun Ag=>(if Ag < 0 then ((Aek fuel a1).bind fun Ah=>((Aek fuel a5).bind fun Ai=>(some ( (Ah,Ai))))) else (some ( (a1,a5))))):Option ((Int × Int))).bind (fun ((Ac,Ad):Int × Int)=>((AI7 fuel Ac Ad).bind fun Ae=>((AEm fuel Ac Ae).bind fun Aj=>((AEm fuel Ad Ae).bind fun Ak=>(some ((Aj,Ak),true)))))))))
theorem AO8 {fuel:Nat} {h:ABu} {Ba:Value} {a1:Int} {Bb:Value} {a5:Int} {r:((Int × Int) × Bool)} (H3:ZZ h Ba a1) (H7:ZZ h Bb a5) (hp:AH4 fuel a1 a5=some r):ACn Tryz.prog 154 #[Ba,Bb] h (fun x h'=>Ext h h'/\ ∃ (x0:Value),x= .tuple #[x0,.bool r.2]/\AYw h' x0 r.1.1 r.1.2):=by
 unfold AH4 at hp;obtain ⟨Az,rfl,Ap⟩:=H3.cs;obtain ⟨Ai,rfl,Ab⟩:=H7.cs;refine cwf (l:=[_,_]) Tryz.func154 rfl rfl (ABp (AGo Az trivial tt2 rfl rfl fun b9 Du Bu Bv Bw=>AGo Ai trivial tt2 rfl rfl fun Bx Dv By Bz B1=>ADi [.bool false,.slice none 0 0,.bool false,.slice none 0 0] AQh rfl trivial tt2 fun Dw Dx B3 B4 B5=>ABv (ABr (ABp ?_))));have Aq:=(((Kst.k0 h).nb Bv Bw Bu).nb Bz B1 By).nb B4 B5 B3;refine AEu Ai ACf (cZ.klen (Aq.zx Ab)) rfl (Aq.b p1).agg ?_;obtain ⟨Dy,B6,Be⟩:=ABq hp;refine ADb rfl (AW7 (Aq.zx Ab).2 B6) fun Dz Ag B7 B8=>?_;subst B8;refine AD8 rfl rfl (ABt ?_);have Ad:=Aq.e B7;refine ⟨_,rfl,fun A3=>?_,fun A3=>?_⟩
 ·refine ABp (AF6 (Ago ) (AC7 ([Value.bool false,Value.slice none 0 0] ++ [Value.bool false,Value.slice none 0 0]) AHs (AD3 (AB9 Ag) (AB9 Ag)) (AD3 (AB9 Ag) (AB9 Ag)) rfl rfl (AM3 (AB9 Ag) (AB9 Ag)) (Ad.b p0) fun Ar B9 Ca=>ABv (ABx (AB4 ?_))));have Bf:=Ad.sb p0 Ca B9 rfl;obtain rfl:=ABo (AC8 Be A3);exact ⟨_,AWy AHs (AD3 (AB9 Ar) (AB9 Ar)) rfl (Bf.b p0),Bf.x,_,rfl,⟨_,_,rfl,(AB9 Ar),(AB9 Ar)⟩⟩
 ·refine ABy (q_t ?_);obtain ⟨Cb,Cd,Ce⟩:=ABq (AC9 Be A3);refine ALi 260096 (fun x:(Int) × LvA × (Int) × LvA=>[]) (fun x h'=>( (x.1,x.2.2.1))=Cb/\Kst h h' (aZ x.2.1 x.1 :: aZ x.2.2.2 x.2.2.1 :: ((Ad.L.set 2 (aB 90 b9 x.2.1)).set 1 (aB 90 Bx x.2.2.2)))) ?_ ?_
  ·refine ABp (AEu Ai ACf (cZ.klen (Ad.zx Ab)) rfl (Ad.b p1).agg ?_);obtain ⟨D0,Cf,Bg⟩:=ABq Cd;refine ADb rfl (AW7 (Ad.zx Ab).2 Cf) fun D1 A4 Cg Ch=>?_;subst Ch;refine ACu rfl rfl (ABt ?_);have Ae:=Ad.e Cg;refine ⟨_,rfl,fun A5=>?_,fun A5=>?_⟩
   ·refine AEd (fun h'=>UpT [] A4 h') (by kernel_rfl) ?_;have Au:UpT [] A4 A4:=UpT.start all_nil;refine AEk Az ACf (cZ.klen (Ae.zx Ap)) rfl Au (fun h' hb=>((Ae.b p2).ext hb.ext).agg) ?_;obtain ⟨Ci,Cj,Ck⟩:=ABq (AC8 Bg A5);refine ADg Au (fun _ E=>Au.thenE E) rfl (Ac2 (Ae.zx Ap).2 Cj) fun D2 D3 Bh Cm=>?_;obtain ⟨D4,rfl,Cn⟩:=Cm;have A6:=Au.thenE Bh;obtain ⟨Bi,rfl,Co⟩:=Cn.cs;have A7:=(Ae.e Bh).az Co;refine AEk Ai ACf (cZ.klen (A7.zx Ab)) rfl A6 (fun h' hb=>((Ae.b p1).ext hb.ext).agg) ?_;obtain ⟨Cp,Cq,Cr⟩:=ABq Ck;refine ADg A6 (fun _ E=>A6.thenE E) rfl (Ac2 (A7.zx Ab).2 Cq) fun D5 D6 Ct Cu=>?_;obtain ⟨D7,rfl,Cv⟩:=Cu;obtain ⟨Bj,rfl,Cw⟩:=Cv.cs;have Aj:=(A7.e Ct).az Cw;refine AC7 Bi ACf (cZ.klen (Aj.z p1)) (cZ.klen (Aj.zx Ap)) rfl rfl (cZ.one (Aj.z p1)) (Aj.b p4) fun D8 Cx Cy=>?_;have Ak:=Aj.sb p4 Cy Cx rfl;refine AC7 Bj ACf (cZ.klen (Ak.z p0)) (cZ.klen (Ak.zx Ab)) rfl rfl (cZ.one (Ak.z p0)) (Ak.b p3) fun D9 Cz C0=>ABt ?_;exact ⟨((Ci,Bi,Cp,Bj):(Int) × LvA × (Int) × LvA),⟨ABo Cr,(Ak.sb p3 C0 Cz rfl).sel [1,0,2,3,4] (by decide)⟩,trivial⟩
   ·refine ABy (q_t ?_);have Bl:=Ae.az (Ae.zx Ap);exact ⟨((a1,Az,a5,Ai):(Int) × LvA × (Int) × LvA),⟨ABo (AC9 Bg A5),(Bl.az (Bl.zx Ab)).sel [1,0,2,3,4] (by decide)⟩,trivial⟩
  rintro ⟨Ea,Bm,Eb,Bn⟩ Ec Ed ⟨C1,Af⟩;subst C1;refine ABp (AEu Bm ACf (cZ.klen (Af.z p0)) rfl (Af.b p4).agg (AEu Bn ACf (cZ.klen (Af.z p1)) rfl (Af.b p3).agg ?_));obtain ⟨Ee,C2,C3⟩:=ABq Ce;refine ADb rfl (AT1 (Af.z p0).2 (Af.z p1).2 C2) fun Ef Eg C4 C5=>?_;obtain ⟨Eh,rfl,C6⟩:=C5;obtain ⟨A8,rfl,C7⟩:=C6.cs;refine ADi [.bool false,.slice none 0 0] AGk rfl trivial tt2 fun Ei C8 C9 Da Db=>?_;have Av:=((Af.e C4).az C7).nb Da Db C9;refine AC7 A8 ACf (cZ.klen (Av.z p1)) (cZ.klen (AB9 C8)) rfl rfl (cZ.one (Av.z p1)) (Av.b p0) fun A9 Dc Dd=>ABt (ABr (AEd (fun h'=>UpT [] A9 h') (by kernel_rfl) ?_));have Aa:=Av.sb p0 Dd Dc rfl;have Am:UpT [] A9 A9:=UpT.start all_nil;refine AEk Bm ACf (cZ.klen (Aa.z p2)) rfl Am (fun h' hb=>((Aa.b p6).ext hb.ext).agg) (AEk A8 ACf (cZ.klen (Aa.z p1)) rfl Am (fun h' hb=>((Aa.b p0).ext hb.ext).agg) ?_);obtain ⟨Ej,De,Df⟩:=ABq C3;refine ADg Am (fun _ E=>Am.thenE E) rfl (AJe (Aa.z p2).2 (Aa.z p1).2 De) fun Ek El Bo Dg=>?_;obtain ⟨Em,rfl,Dh⟩:=Dg;have Aw:=Am.thenE Bo;obtain ⟨Di,rfl,Dj⟩:=Dh.cs;have Ao:=(Aa.e Bo).az Dj;refine AEk Bn ACf (cZ.klen (Ao.z p4)) rfl Aw (fun h' hb=>((Aa.b p5).ext hb.ext).agg) (AEk A8 ACf (cZ.klen (Ao.z p2)) rfl Aw (fun h' hb=>((Aa.b p0).ext hb.ext).agg) ?_);obtain ⟨En,Dk,Dl⟩:=ABq Df;refine ADg Aw (fun _ E=>Aw.thenE E) rfl (AJe (Ao.z p4).2 (Ao.z p2).2 Dk) fun Eo Bp Dn Do=>?_;obtain ⟨Ep,rfl,Dp⟩:=Do;obtain ⟨Dq,rfl,Dr⟩:=Dp.cs;have Ac:=(Ao.e Dn).az Dr;refine AF6 (AVl (Ac.z p1) (Ac.z p0)) (AC7 (Di ++ Dq) AHs (AD3 (Ac.z p1) (Ac.z p0)) (AD3 (AB9 Bp) (AB9 Bp)) rfl rfl (AM3 (Ac.z p1) (Ac.z p0)) (Ac.b p6) fun Er Ds Dt=>ABv (ABx ?_));have Ah:=Ac.sb p6 Dt Ds rfl;obtain rfl:=ABo Dl;exact ⟨_,AWy AHs (AD3 (Ah.z p1) (Ah.z p0)) rfl (Ah.b p6),Ah.x,_,rfl,⟨_,_,rfl,(Ah.z p1),(Ah.z p0)⟩⟩
def AMy (fuel:Nat) (a1:Int):Option (Int × Int):=
  ((ASc fuel a1).bind fun Ab=>((ALf fuel 1).bind fun Ac=>(some (Ab,Ac))))
theorem ASo {fuel:Nat} {h:ABu} {Ad:Value} {a1:Int} {r:(Int × Int)} (H3:ZZ h Ad a1) (hp:AMy fuel a1=some r):ACn Tryz.prog 169 #[Ad] h (fun x h'=>Ext h h'/\ ∃ (x0:Value),x=x0/\AYw h' x0 r.1 r.2):=by
 unfold AMy at hp;obtain ⟨Ag,rfl,Ah⟩:=H3.cs;refine cwf (l:=[_]) Tryz.func169 rfl rfl (ABp (AGo Ag trivial tt2 rfl rfl fun b5 h6 V7 E8 S9=>ADi [.bool false,.slice none 0 0,.bool false,.slice none 0 0] AQh rfl trivial tt2 fun Bg Bh Ap Aq Ar=>AK0 ?_));have Ac:=((Kst.k0 h).nb E8 S9 V7).nb Aq Ar Ap;refine AEu Ag ACf (cZ.klen (Ac.zx Ah)) rfl (Ac.b p1).agg ?_;obtain ⟨Bi,Au,Av⟩:=ABq hp;refine ADb rfl (ATx (Ac.zx Ah).2 Au) fun Bj Bl Aw Ax=>?_;obtain ⟨Bm,rfl,Ay⟩:=Ax;obtain ⟨Az,rfl,A3⟩:=Ay.cs;obtain ⟨Bn,A4,A5⟩:=ABq Av;refine ADb rfl (AKp A4) fun Bo Ai A6 A7=>?_;obtain ⟨Bp,rfl,A8⟩:=A7;obtain ⟨A9,rfl,Ba⟩:=A8.cs;have Aa:=(((Ac.e Aw).az A3).e A6).az Ba;refine AF6 (AVl (Aa.z p1) (Aa.z p0)) (AC7 (Az ++ A9) AHs (AD3 (Aa.z p1) (Aa.z p0)) (AD3 (AB9 Ai) (AB9 Ai)) rfl rfl (AM3 (Aa.z p1) (Aa.z p0)) (Aa.b p2) fun Bq Bb Bc=>ABt (ABx ?_));have Ab:=Aa.sb p2 Bc Bb rfl;obtain rfl:=ABo A5;exact ⟨_,AEe AHs (AD3 (Ab.z p1) (Ab.z p0)) rfl (Ab.b p2),Ab.x,_,rfl,⟨_,_,rfl,(Ab.z p1),(Ab.z p0)⟩⟩
def AMz (fuel:Nat) (a1:Int):Option (Int × Int):=
  ((ALf fuel a1).bind fun x8=>((AMy fuel x8).bind fun Aa=>(some (Aa.1,Aa.2))))
theorem ASp {fuel:Nat} {h:ABu} {a1:Int} {r:(Int × Int)} (hp:AMz fuel a1=some r):ACn Tryz.prog 155 #[(.int .i64 a1)] h (fun x h'=>Ext h h'/\ ∃ (x0:Value),x=x0/\AYw h' x0 r.1 r.2):=by
 unfold AMz at hp;refine cwf (l:=[_]) Tryz.func155 rfl rfl (ABp (ADi [.bool false,.slice none 0 0,.bool false,.slice none 0 0] AQh rfl trivial tt2 fun b2 h3 V4 E5 S6=>AK0 (Wo ?_)));obtain ⟨x9,Aj,Ak⟩:=ABq hp;refine ADb rfl (AKp Aj) fun Ba Bb Am Ao=>?_;obtain ⟨Bc,rfl,Ap⟩:=Ao;obtain ⟨Be,rfl,Aq⟩:=Ap.cs;have Ae:=(((Kst.k0 h).nb E5 S6 V4).e Am).az Aq;obtain ⟨Bf,Ar,Au⟩:=ABq Ak;refine ADb rfl (ASo (Ae.z p0).2 Ar) fun Bg Af Av Aw=>?_;obtain ⟨Bh,rfl,Ax⟩:=Aw;obtain ⟨Ay,Az,rfl,A3,A4⟩:=Ax;have Aa:=((Ae.e Av).az A3).az A4;refine AC7 (Ay ++ Az) AHs (AD3 (Aa.z p1) (Aa.z p0)) (AD3 (AB9 Af) (AB9 Af)) rfl rfl (AM3 (Aa.z p1) (Aa.z p0)) (Aa.b p3) fun Bi A5 A6=>ABt (ABx ?_);have Ab:=Aa.sb p3 A6 A5 rfl;obtain rfl:=ABo Au;exact ⟨_,AEe AHs (AD3 (Ab.z p1) (Ab.z p0)) rfl (Ab.b p3),Ab.x,_,rfl,⟨_,_,rfl,(Ab.z p1),(Ab.z p0)⟩⟩
def AEc (fuel:Nat) (a3 a5:Int):Option (Int × Int):=
  ((AH4 fuel a3 a5).bind fun (Aa,Ae)=>(if (!Ae)=true then ((AMz fuel 0).bind fun Ab=>(some (Ab.1,Ab.2))) else (some (Aa.1,Aa.2))))
theorem AHa {fuel:Nat} {h:ABu} {Ak:Value} {a3 a5:Int} {r:(Int × Int)} (H2:AYw h Ak a3 a5) (hp:AEc fuel a3 a5=some r):ACn Tryz.prog 136 #[Ak] h (fun x h'=>Ext h h'/\ ∃ (x0:Value),x=x0/\AYw h' x0 r.1 r.2):=by
 unfold AEc at hp;obtain ⟨Aq,Ar,rfl,H2z0,H2z1⟩:=H2;refine cwf (l:=[_]) Tryz.func136 rfl rfl (ABp (AGo (Aq ++ Ar) trivial tt2 rfl rfl fun b7 h8 V9 Az A3=>ADi [.bool false,.slice none 0 0,.bool false,.slice none 0 0] AQh rfl trivial tt2 fun B1 B3 A4 A5 A6=>AK0 (AHj (fs:=2) AY6 (by kernel_rfl) (by decide) rfl ?_)));have Ab:=((Kst.k0 h).nb Az A3 V9).nb A5 A6 A4;refine AEu Aq ACf (cZ.klen (Ab.zx H2z0)) rfl ((Ab.b p1).aggL) (AHj (fs:=2) AVk (by kernel_rfl) (by decide) rfl (AEu Ar ACf (cZ.klen (Ab.zx H2z1)) rfl ((Ab.b p1).aggR (cZ.klen (Ab.zx H2z0))) ?_));obtain ⟨⟨B4,B5⟩,A7,Ag⟩:=ABq hp;dsimp only at Ag;refine ADb rfl (AO8 (Ab.zx H2z0).2 (Ab.zx H2z1).2 A7) fun B6 B7 A8 A9=>?_;obtain ⟨B8,rfl,Ba⟩:=A9;obtain ⟨Ah,Ai,rfl,Bb,Bc⟩:=Ba;refine Wo (ADm rfl rfl (ADm rfl rfl (ADi [.bool false,.slice none 0 0,.bool false,.slice none 0 0] AQh rfl trivial tt2 fun B9 Au Be Bf Bg=>?_)));have Ac:=(((Ab.e A8).az Bb).az Bc).nb Bf Bg Be;refine AC7 (Ah ++ Ai) AHs (AD3 (Ac.z p2) (Ac.z p1)) (AD3 (AB9 Au) (AB9 Au)) rfl rfl (AM3 (Ac.z p2) (Ac.z p1)) (Ac.b p0) fun Av Bh Bi=>ABv (ABr (ABp (Wo (AE1 rfl (ABt ?_)))));have Aa:=Ac.sb p0 Bi Bh rfl;refine ⟨_,rfl,fun Aj=>?_,fun Aj=>?_⟩
 ·refine ABp ?_;obtain ⟨Ca,Bj,Bl⟩:=ABq (ifT Ag Aj);refine ADb rfl (ASp Bj) fun Cb Aw Bm Bn=>?_;obtain ⟨Cd,rfl,Bo⟩:=Bn;obtain ⟨Bp,Bq,rfl,Br,Bt⟩:=Bo;have Ad:=((Aa.e Bm).az Br).az Bt;refine AC7 (Bp ++ Bq) AHs (AD3 (Ad.z p1) (Ad.z p0)) (AD3 (AB9 Aw) (AB9 Aw)) rfl rfl (AM3 (Ad.z p1) (Ad.z p0)) (Ad.b p5) fun Ce Bu Bv=>ABt (ABx (AB4 ?_));have Ae:=Ad.sb p5 Bv Bu rfl;obtain rfl:=ABo Bl;exact ⟨_,AEe AHs (AD3 (Ae.z p1) (Ae.z p0)) rfl (Ae.b p5),Ae.x,_,rfl,⟨_,_,rfl,(Ae.z p1),(Ae.z p0)⟩⟩
 ·refine ABy (q_t (ABp (AEu (Ah ++ Ai) AHs (AD3 (Aa.z p2) (Aa.z p1)) rfl ((Aa.b p0).agg) (AC7 (Ah ++ Ai) AHs (AD3 (Aa.z p2) (Aa.z p1)) (AD3 (AB9 Av) (AB9 Av)) rfl rfl (AM3 (Aa.z p2) (Aa.z p1)) (Aa.b p3) fun Cf Bw Bx=>ABt (ABx ?_)))));have Af:=Aa.sb p3 Bx Bw rfl;obtain rfl:=ABo (AH8 Ag Aj);exact ⟨_,AEe AHs (AD3 (Af.z p2) (Af.z p1)) rfl (Af.b p3),Af.x,_,rfl,⟨_,_,rfl,(Af.z p2),(Af.z p1)⟩⟩
def AG3 (fuel:Nat) (a1 a5:Int):Option (Int × Int):=
  ((AEc fuel a1 a5).bind fun Aa=>(some (Aa.1,Aa.2)))
theorem AQt {fuel:Nat} {h:ABu} {Af:Value} {a1:Int} {Ah:Value} {a5:Int} {r:(Int × Int)} (H3:ZZ h Af a1) (H7:ZZ h Ah a5) (hp:AG3 fuel a1 a5=some r):ACn Tryz.prog 81 #[Af,Ah] h (fun x h'=>Ext h h'/\ ∃ (x0:Value),x=x0/\AYw h' x0 r.1 r.2):=by
 unfold AG3 at hp;obtain ⟨Ak,rfl,Ad⟩:=H3.cs;obtain ⟨Am,rfl,Ae⟩:=H7.cs;refine cwf (l:=[_,_]) Tryz.func81 rfl rfl (ABp (AGo Ak trivial tt2 rfl rfl fun b9 Bi Ar Au Av=>AGo Am trivial tt2 rfl rfl fun Bj Bl Aw Ax Ay=>ADi [.bool false,.slice none 0 0,.bool false,.slice none 0 0] AQh rfl trivial tt2 fun Bm Bn Az A3 A4=>AK0 ?_));have Aa:=(((Kst.k0 h).nb Au Av Ar).nb Ax Ay Aw).nb A3 A4 Az;refine AEu Ak ACf (cZ.klen (Aa.zx Ad)) rfl (Aa.b p2).agg (AEu Am ACf (cZ.klen (Aa.zx Ae)) rfl (Aa.b p1).agg (AF6 (AVl (Aa.zx Ad) (Aa.zx Ae)) ?_));obtain ⟨Bo,A5,A6⟩:=ABq hp;refine ADb rfl (AHa ⟨_,_,rfl,(Aa.zx Ad),(Aa.zx Ae)⟩ A5) fun Bp Ao A7 A8=>?_;obtain ⟨Bq,rfl,A9⟩:=A8;obtain ⟨Ba,Bb,rfl,Bc,Be⟩:=A9;have Ab:=((Aa.e A7).az Bc).az Be;refine AC7 (Ba ++ Bb) AHs (AD3 (Ab.z p1) (Ab.z p0)) (AD3 (AB9 Ao) (AB9 Ao)) rfl rfl (AM3 (Ab.z p1) (Ab.z p0)) (Ab.b p2) fun Br Bf Bg=>ABt (ABx ?_);have Ac:=Ab.sb p2 Bg Bf rfl;obtain rfl:=ABo A6;exact ⟨_,AEe AHs (AD3 (Ac.z p1) (Ac.z p0)) rfl (Ac.b p2),Ac.x,_,rfl,⟨_,_,rfl,(Ac.z p1),(Ac.z p0)⟩⟩
def AKq (fuel:Nat):Option (Int × Int):=
  ((ALf fuel 1).bind fun x7=>((ALf fuel 2).bind fun Ab=>(some (x7,Ab))))
theorem AS5 {fuel:Nat} {h:ABu} {r:(Int × Int)} (hp:AKq fuel=some r):ACn Tryz.prog 135 #[] h (fun x h'=>Ext h h'/\ ∃ (x0:Value),x=x0/\AYw h' x0 r.1 r.2):=by
 unfold AKq at hp;refine cwf (l:=[]) Tryz.func135 rfl rfl (ABp (ADi [.bool false,.slice none 0 0,.bool false,.slice none 0 0] AQh rfl trivial tt2 fun b1 h2 V3 E4 S5=>AK0 ?_));obtain ⟨x8,Ah,Ai⟩:=ABq hp;refine ADb rfl (AKp Ah) fun A7 A8 Aj Ak=>?_;obtain ⟨A9,rfl,Am⟩:=Ak;obtain ⟨Ao,rfl,Ap⟩:=Am.cs;obtain ⟨Ba,Aq,Ar⟩:=ABq Ai;refine ADb rfl (AKp Aq) fun Bb Ad Au Av=>?_;obtain ⟨Bc,rfl,Aw⟩:=Av;obtain ⟨Ax,rfl,Ay⟩:=Aw.cs;have Aa:=(((((Kst.k0 h).nb E4 S5 V3).e Aj).az Ap).e Au).az Ay;refine AF6 (AVl (Aa.z p1) (Aa.z p0)) (AC7 (Ao ++ Ax) AHs (AD3 (Aa.z p1) (Aa.z p0)) (AD3 (AB9 Ad) (AB9 Ad)) rfl rfl (AM3 (Aa.z p1) (Aa.z p0)) (Aa.b p2) fun Be Az A3=>ABt (ABx ?_));have Ab:=Aa.sb p2 A3 Az rfl;obtain rfl:=ABo Ar;exact ⟨_,AEe AHs (AD3 (Ab.z p1) (Ab.z p0)) rfl (Ab.b p2),Ab.x,_,rfl,⟨_,_,rfl,(Ab.z p1),(Ab.z p0)⟩⟩
def ALg (fuel:Nat) (a3 a5 a9 Ag:Int):Option (Int × Int):=
  ((AEc fuel a3 a5).bind fun Aa=>((AEc fuel a9 Ag).bind fun Ab=>((ARi fuel Aa.1 Ab.2).bind fun Ah=>((ARi fuel Ab.1 Aa.2).bind fun Ai=>((Ah7 fuel Ah Ai).bind fun Aj=>((ARi fuel Aa.2 Ab.2).bind fun Ak=>((AH4 fuel Aj Ak).bind fun (Ac,Am)=>(some (Ac.1,Ac.2)))))))))
theorem AT2 {fuel:Nat} {h:ABu} {Bq:Value} {a3 a5:Int} {Bu:Value} {a9 Bw:Int} {r:(Int × Int)} (H2:AYw h Bq a3 a5) (H8:AYw h Bu a9 Bw) (hp:ALg fuel a3 a5 a9 Bw=some r):ACn Tryz.prog 134 #[Bq,Bu] h (fun x h'=>Ext h h'/\ ∃ (x0:Value),x=x0/\AYw h' x0 r.1 r.2):=by
 unfold ALg at hp;obtain ⟨By,Bz,rfl,H2z0,H2z1⟩:=H2;obtain ⟨B1,B3,rfl,H8z0,H8z1⟩:=H8;refine cwf (l:=[_,_]) Tryz.func134 rfl rfl (ABp (AGo (By ++ Bz) trivial tt2 rfl rfl fun Ek El Ct Cu Cv=>AGo (B1 ++ B3) trivial tt2 rfl rfl fun Em En Cw Cx Cy=>ADi [.bool false,.slice none 0 0,.bool false,.slice none 0 0] AQh rfl trivial tt2 fun Eo Ao Cz C0 C1=>ABt (ABr ?_)));have Ac:=(((Kst.k0 h).nb Cu Cv Ct).nb Cx Cy Cw).nb C0 C1 Cz;have Ap:UpT [] Ao Ao:=UpT.start all_nil;refine AW8 (B:=fun h'=>UpT [] Ao h') 4 [⟨5,108,[.bool false,.slice none 0 0,.bool false,.slice none 0 0]⟩,⟨6,108,[.bool false,.slice none 0 0,.bool false,.slice none 0 0]⟩] (fun _ _ U E=>U.thenE E) (by kernel_rfl) Ap (Amq rfl rfl AQh rfl AQh rfl (fun _ _ U E=>U.thenE E)) (h_l rfl (AEk (By ++ Bz) AHs (AD3 (Ac.zx H2z0) (Ac.zx H2z1)) rfl Ap (fun h' hb=>((Ac.b p2).ext hb.ext).agg) (ACr (h_e rfl fun Ep B4=>?_))));have Aq:=Ap.thenE B4;have Ar:=Ac.e B4;obtain ⟨Er,C2,C3⟩:=ABq hp;refine ADg Aq (fun _ E=>Aq.thenE E) rfl (AHa ⟨_,_,rfl,(Ar.zx H2z0),(Ar.zx H2z1)⟩ C2) fun Es Et Au C4=>?_;obtain ⟨Eu,rfl,C5⟩:=C4;have B5:=Aq.thenE Au;obtain ⟨B6,Av,rfl,C6,C7⟩:=C5;have Aw:=((Ar.e Au).az C6).az C7;refine ACr ⟨Au,?_⟩;refine h_l rfl (AEk (B1 ++ B3) AHs (AD3 (Aw.zx H8z0) (Aw.zx H8z1)) rfl B5 (fun h' hb=>((Ac.b p1).ext hb.ext).agg) (ACr (h_e rfl fun Ev B7=>?_)));have Ax:=B5.thenE B7;have Ay:=Aw.e B7;obtain ⟨Ew,C8,C9⟩:=ABq C3;refine ADg Ax (fun _ E=>Ax.thenE E) rfl (AHa ⟨_,_,rfl,(Ay.zx H8z0),(Ay.zx H8z1)⟩ C8) fun Ey Ez Az Da=>?_;obtain ⟨Fa,rfl,Db⟩:=Da;have Dc:=Ax.thenE Az;obtain ⟨B8,A3,rfl,Dd,De⟩:=Db;refine ACr ⟨Az,?_⟩;refine Aeo fun B9 Ca=>Aug fun Fb Fc Cb Cd Df Dg Dh Fd Fe=>?_;have Aj:=(((Ay.e Az).az Dd).az De).e Ca;have Ad:=((((Ac.nb2 (Dc.thenE Ca).ext (Amr Dg Dh Cb.lt Cd.lt Df) Cb Cd).az (Aj.z p3)).az (Aj.z p2)).az (Aj.z p1)).az (Aj.z p0);refine AC7 (B6 ++ Av) AHs (AD3 (Ad.z p3) (Ad.z p2)) (AD3 (AB9 B9) (AB9 B9)) rfl rfl (AM3 (Ad.z p3) (Ad.z p2)) (Ad.b p4) fun Ce Di Dj=>?_;have Ae:=Ad.sb p4 Dj Di rfl;refine AC7 (B8 ++ A3) AHs (AD3 (Ae.z p1) (Ae.z p0)) (AD3 (AB9 Ce) (AB9 Ce)) rfl rfl (AM3 (Ae.z p1) (Ae.z p0)) (Ae.b p5) fun A4 Dk Dl=>ABt (ABr ?_);have Aa:=Ae.sb p5 Dl Dk rfl;have Ak:UpT [] A4 A4:=UpT.start all_nil;refine AW8 (B:=fun h'=>UpT [] A4 h') 20 [⟨7,108,[.bool false,.slice none 0 0,.bool false,.slice none 0 0]⟩] (fun _ _ U E=>U.thenE E) (by kernel_rfl) Ak (Agn rfl AQh rfl (fun _ _ U E=>U.thenE E)) (h_l rfl (AHj (fs:=2) AY6 (by kernel_rfl) (by decide) rfl (ACr (h_l rfl (AEk B6 ACf (cZ.klen (Aa.z p3)) rfl Ak (fun h' hb=>((Aa.b p4).ext hb.ext).aggL) (ACr (h_l rfl (AHj (fs:=2) AVk (by kernel_rfl) (by decide) rfl (ACr (h_l rfl (AEk A3 ACf (cZ.klen (Aa.z p0)) rfl Ak (fun h' hb=>((Aa.b p5).ext hb.ext).aggR (cZ.klen (Aa.z p1))) (ACr (h_e rfl fun Ff Cf=>?_)))))))))))));have A5:=Ak.thenE Cf;have A6:=Aa.e Cf;obtain ⟨Fg,Dn,Do⟩:=ABq C9;refine ADg A5 (fun _ E=>A5.thenE E) rfl (AQg (A6.z p3).2 (A6.z p0).2 Dn) fun Fh Fi A7 Dp=>?_;obtain ⟨Fj,rfl,Dq⟩:=Dp;have A8:=A5.thenE A7;obtain ⟨Fk,rfl,Dr⟩:=Dq.cs;have Am:=(A6.e A7).az Dr;refine ACr ⟨A7,?_⟩;refine h_l rfl (AHj (fs:=2) AY6 (by kernel_rfl) (by decide) rfl (ACr (h_l rfl (AEk B8 ACf (cZ.klen (Am.z p2)) rfl A8 (fun h' hb=>((Aa.b p5).ext hb.ext).aggL) (ACr (h_l rfl (AHj (fs:=2) AVk (by kernel_rfl) (by decide) rfl (ACr (h_l rfl (AEk Av ACf (cZ.klen (Am.z p3)) rfl A8 (fun h' hb=>((Aa.b p4).ext hb.ext).aggR (cZ.klen (Am.z p4))) (ACr (h_e rfl fun Fl Cg=>?_))))))))))));have A9:=A8.thenE Cg;have Ba:=Am.e Cg;obtain ⟨Fm,Ds,Dt⟩:=ABq Do;refine ADg A9 (fun _ E=>A9.thenE E) rfl (AQg (Ba.z p2).2 (Ba.z p3).2 Ds) fun Fo Fp Bb Du=>?_;obtain ⟨Fq,rfl,Dv⟩:=Du;have Dw:=A9.thenE Bb;obtain ⟨Fr,rfl,Dx⟩:=Dv.cs;refine ACr ⟨Bb,?_⟩;refine h_e rfl fun Ft Ch=>?_;have Bc:=Dw.thenE Ch;have Be:=((Ba.e Bb).az Dx).e Ch;obtain ⟨Fu,Dy,Dz⟩:=ABq Dt;refine ADg Bc (fun _ E=>Bc.thenE E) rfl (Agk (Be.z p1).2 (Be.z p0).2 Dy) fun Fv Fw Bf D0=>?_;obtain ⟨Fx,rfl,D1⟩:=D0;have Bg:=Bc.thenE Bf;obtain ⟨Fy,rfl,D2⟩:=D1.cs;have Ai:=(Be.e Bf).az D2;refine ACr ⟨Bf,?_⟩;refine h_l rfl (AHj (fs:=2) AVk (by kernel_rfl) (by decide) rfl (ACr (h_l rfl (AEk Av ACf (cZ.klen (Ai.z p5)) rfl Bg (fun h' hb=>((Aa.b p4).ext hb.ext).aggR (cZ.klen (Ai.z p6))) (ACr (h_l rfl (AHj (fs:=2) AVk (by kernel_rfl) (by decide) rfl (ACr (h_l rfl (AEk A3 ACf (cZ.klen (Ai.z p3)) rfl Bg (fun h' hb=>((Aa.b p5).ext hb.ext).aggR (cZ.klen (Ai.z p4))) (ACr (h_e rfl fun Fz Ci=>?_))))))))))));have Bh:=Bg.thenE Ci;have Bi:=Ai.e Ci;obtain ⟨F4,D3,D4⟩:=ABq Dz;refine ADg Bh (fun _ E=>Bh.thenE E) rfl (AQg (Bi.z p5).2 (Bi.z p3).2 D3) fun F5 F6 Bj D5=>?_;obtain ⟨F7,rfl,D6⟩:=D5;have D7:=Bh.thenE Bj;obtain ⟨F8,rfl,D8⟩:=D6.cs;refine ACr ⟨Bj,?_⟩;refine h_e rfl fun F9 Cj=>?_;have Bl:=D7.thenE Cj;have Bm:=((Bi.e Bj).az D8).e Cj;obtain ⟨⟨Ga,Gb⟩,D9,Ck⟩:=ABq D4;dsimp only at Ck;refine ADg Bl (fun _ E=>Bl.thenE E) rfl (AO8 (Bm.z p1).2 (Bm.z p0).2 D9) fun Gc Gd Bn Ea=>?_;obtain ⟨Ge,rfl,Eb⟩:=Ea;have Ec:=Bl.thenE Bn;obtain ⟨Bo,Bp,rfl,Ed,Ee⟩:=Eb;refine ACr ⟨Bn,?_⟩;refine h_l rfl (Wo (ACr (h_l rfl (ADm rfl rfl (ACr (h_l rfl (ADm rfl rfl (ACr (Aeo fun Cm Cn=>Asn fun Gf Co Ef Gg=>?_)))))))));have Af:=(((Bm.e Bn).az Ed).az Ee).e Cn;have Ag:=((((((Aa.nb (Ec.thenE Cn).ext (AIj Ef Co.lt) Co).az (Af.z p5)).az (Af.z p4)).az (Af.z p3)).az (Af.z p2)).az (Af.z p1)).az (Af.z p0);refine AC7 (Bo ++ Bp) AHs (AD3 (Ag.z p1) (Ag.z p0)) (AD3 (AB9 Cm) (AB9 Cm)) rfl rfl (AM3 (Ag.z p1) (Ag.z p0)) (Ag.b p6) fun Cp Eg Eh=>AC1 ?_;have Ab:=Ag.sb p6 Eh Eg rfl;refine AEu (Bo ++ Bp) AHs (AD3 (Ab.z p1) (Ab.z p0)) rfl ((Ab.b p6).agg) (AC7 (Bo ++ Bp) AHs (AD3 (Ab.z p1) (Ab.z p0)) (AD3 (AB9 Cp) (AB9 Cp)) rfl rfl (AM3 (Ab.z p1) (Ab.z p0)) (Ab.b p13) fun Gh Ei Ej=>ABt (ABx ?_));have Ah:=Ab.sb p13 Ej Ei rfl;obtain rfl:=ABo Ck;exact ⟨_,AEe AHs (AD3 (Ah.z p1) (Ah.z p0)) rfl (Ah.b p13),Ah.x,_,rfl,⟨_,_,rfl,(Ah.z p1),(Ah.z p0)⟩⟩
def AJ4 (fuel:Nat) (a3 a5:Int):Option Int:=
  ((AEc fuel a3 a5).bind fun Aa=>((AEm fuel Aa.1 Aa.2).bind fun Ad=>(some Ad)))
theorem ASq {fuel:Nat} {h:ABu} {Af:Value} {a3 a5 r:Int} (H2:AYw h Af a3 a5) (hp:AJ4 fuel a3 a5=some r):ACn Tryz.prog 133 #[Af] h (fun x h'=>Ext h h'/\ ∃ (x0:Value),x=x0/\ZZ h' x0 r):=by
 unfold AJ4 at hp;obtain ⟨Aj,Ak,rfl,H2z0,H2z1⟩:=H2;refine cwf (l:=[_]) Tryz.func133 rfl rfl (ABp (AGo (Aj ++ Ak) trivial tt2 rfl rfl fun b7 h8 V9 Au Av=>ADi [.bool false,.slice none 0 0] AGk rfl trivial tt2 fun Br Bt Aw Ax Ay=>AK0 ?_));have Ab:=((Kst.k0 h).nb Au Av V9).nb Ax Ay Aw;refine AEu (Aj ++ Ak) AHs (AD3 (Ab.zx H2z0) (Ab.zx H2z1)) rfl ((Ab.b p1).agg) ?_;obtain ⟨Bu,Az,A3⟩:=ABq hp;refine ADb rfl (AHa ⟨_,_,rfl,(Ab.zx H2z0),(Ab.zx H2z1)⟩ Az) fun Bv Bw A4 A5=>?_;obtain ⟨Bx,rfl,A6⟩:=A5;obtain ⟨Am,Ao,rfl,A7,A8⟩:=A6;refine ADi [.bool false,.slice none 0 0,.bool false,.slice none 0 0] AQh rfl trivial tt2 fun By Ap A9 Ba Bb=>?_;have Ac:=(((Ab.e A4).az A7).az A8).nb Ba Bb A9;refine AC7 (Am ++ Ao) AHs (AD3 (Ac.z p2) (Ac.z p1)) (AD3 (AB9 Ap) (AB9 Ap)) rfl rfl (AM3 (Ac.z p2) (Ac.z p1)) (Ac.b p0) fun Bz Bc Be=>AK0 (AHj (fs:=2) AY6 (by kernel_rfl) (by decide) rfl ?_);have Aa:=Ac.sb p0 Be Bc rfl;refine AEu Am ACf (cZ.klen (Aa.z p2)) rfl ((Aa.b p0).aggL) (AHj (fs:=2) AVk (by kernel_rfl) (by decide) rfl (AEu Ao ACf (cZ.klen (Aa.z p1)) rfl ((Aa.b p0).aggR (cZ.klen (Aa.z p2))) ?_));obtain ⟨B1,Bf,Bg⟩:=ABq A3;refine ADb rfl (AJe (Aa.z p2).2 (Aa.z p1).2 Bf) fun B3 Bh Bi Bj=>?_;obtain ⟨B4,rfl,Bl⟩:=Bj;obtain ⟨Bm,rfl,Bn⟩:=Bl.cs;have Ad:=(Aa.e Bi).az Bn;refine AC7 Bm ACf (cZ.klen (Ad.z p0)) (cZ.klen (AB9 Bh)) rfl rfl (cZ.one (Ad.z p0)) (Ad.b p4) fun B5 I64 Bo=>ABt (ABx ?_);have Ae:=Ad.sb p4 Bo I64 rfl;obtain rfl:=ABo Bg;exact ⟨_,AEe ACf (cZ.klen (Ae.z p0)) rfl (Ae.b p4),Ae.x,_,rfl,(Ae.z p0).2⟩
def AHm (fuel:Nat) (a3 a5:Int):Option Int:=
  ((AKq fuel).bind fun Aa=>((ALg fuel a3 a5 Aa.1 Aa.2).bind fun Ab=>((AJ4 fuel Ab.1 Ab.2).bind fun Ae=>(some Ae))))
theorem ARl {fuel:Nat} {h:ABu} {Ai:Value} {a3 a5 r:Int} (H2:AYw h Ai a3 a5) (hp:AHm fuel a3 a5=some r):ACn Tryz.prog 80 #[Ai] h (fun x h'=>Ext h h'/\ ∃ (x0:Value),x=x0/\ZZ h' x0 r):=by
 unfold AHm at hp;obtain ⟨Ao,Ap,rfl,H2z0,H2z1⟩:=H2;refine cwf (l:=[_]) Tryz.func80 rfl rfl (ABp (AGo (Ao ++ Ap) trivial tt2 rfl rfl fun b7 h8 V9 Ax Ay=>ADi [.bool false,.slice none 0 0] AGk rfl trivial tt2 fun Bw Af Az A3 A4=>ABt (ABr (AEd (fun h'=>UpT [] Af h') (by kernel_rfl) ?_))));have Ab:=((Kst.k0 h).nb Ax Ay V9).nb A3 A4 Az;have Ac:UpT [] Af Af:=UpT.start all_nil;refine AEk (Ao ++ Ap) AHs (AD3 (Ab.zx H2z0) (Ab.zx H2z1)) rfl Ac (fun h' hb=>((Ab.b p1).ext hb.ext).agg) ?_;obtain ⟨Bx,A5,A6⟩:=ABq hp;refine ADg Ac (fun _ E=>Ac.thenE E) rfl (AS5 A5) fun By Bz Aq A7=>?_;obtain ⟨B1,rfl,A8⟩:=A7;have Ag:=Ac.thenE Aq;obtain ⟨B3,B4,rfl,A9,Ba⟩:=A8;have Aa:=((Ab.e Aq).az A9).az Ba;obtain ⟨B5,Bb,Bc⟩:=ABq A6;refine ADg Ag (fun _ E=>Ag.thenE E) rfl (AT2 ⟨_,_,rfl,(Aa.zx H2z0),(Aa.zx H2z1)⟩ ⟨_,_,rfl,(Aa.z p1),(Aa.z p0)⟩ Bb) fun B6 B7 Ar Be=>?_;obtain ⟨B8,rfl,Bf⟩:=Be;have Au:=Ag.thenE Ar;obtain ⟨B9,Ca,rfl,Bg,Bh⟩:=Bf;have Ah:=((Aa.e Ar).az Bg).az Bh;obtain ⟨Cb,Bi,Bj⟩:=ABq Bc;refine ADg Au (fun _ E=>Au.thenE E) rfl (ASq ⟨_,_,rfl,(Ah.z p1),(Ah.z p0)⟩ Bi) fun Cd Bl Bm Bn=>?_;obtain ⟨Ce,rfl,Bo⟩:=Bn;obtain ⟨Bp,rfl,Bq⟩:=Bo.cs;have Ad:=(Ah.e Bm).az Bq;refine AC7 Bp ACf (cZ.klen (Ad.z p0)) (cZ.klen (AB9 Bl)) rfl rfl (cZ.one (Ad.z p0)) (Ad.b p5) fun Cf Br Bt=>ABt (ABx ?_);have Ae:=Ad.sb p5 Bt Br rfl;obtain rfl:=ABo Bj;exact ⟨_,AEe ACf (cZ.klen (Ae.z p0)) rfl (Ae.b p5),Ae.x,_,rfl,(Ae.z p0).2⟩
def AGd (fuel:Nat) (a3:LiI) (a7:LiA) (a9:Int):Option Bool:=
  ((AFb fuel a3 a9 (w64 (a9 - 1))).bind fun Ac=>((ALf fuel 4).bind fun Ae=>((AEb fuel a7 (w64 (a9 - 1))).bind fun Af=>((AEb fuel a7 (w64 (a9 + 1))).bind fun Ag=>((ARi fuel Af Ag).bind fun Ah=>((ARi fuel Ac Ac).bind fun Ai=>((Ah7 fuel Ah Ai).bind fun Aj=>((ARi fuel Ae Aj).bind fun Ak=>((ALf fuel 3).bind fun Am=>((AEb fuel a7 a9).bind fun Ao=>((AEb fuel a7 a9).bind fun Ap=>((ARi fuel Ao Ap).bind fun Aq=>((ARi fuel Am Aq).bind fun Ar=>((Abt fuel Ak Ar).bind fun Au=>(some (decide (0<=Au)))))))))))))))))
theorem ANz {fuel:Nat} {h:ABu} {Bj:Value} {a3:LiI} {Bm:Value} {a7:LiA} {a9:Int} {r:Bool} (H2:AEq cZ h Bj a3) (H6:SlC cZ h Bm a7) (hp:AGd fuel a3 a7 a9=some r):ACn Tryz.prog 84 #[Bj,Bm,(.int .i64 a9)] h (fun x h'=>Ext h h'/\x= .bool r):=by
 unfold AGd at hp;refine cwf (l:=[_,_,_]) Tryz.func84 rfl rfl (ABp (AC1 (Wo (Wo (Wo (AIf rfl rfl ?_))))));have K0:=Kst.k0 h;obtain ⟨Ez,Cg,Ch⟩:=ABq hp;refine ADb rfl (AKf (H2.ext K0.x) Cg) fun Fa Fb Ci Cj=>?_;obtain ⟨Fc,rfl,Ck⟩:=Cj;obtain ⟨Ag,rfl,Cm⟩:=Ck.cs;refine ADi [.bool false,.slice none 0 0] AGk rfl trivial tt2 fun Fd Cn Co Cp Cq=>?_;have Ac:=((K0.e Ci).az Cm).nb Cp Cq Co;refine AC7 Ag ACf (cZ.klen (Ac.z p1)) (cZ.klen (AB9 Cn)) rfl rfl (cZ.one (Ac.z p1)) (Ac.b p0) fun Ah Cr Ct=>ABt (ABr ?_);have Ad:=Ac.sb p0 Ct Cr rfl;have Bq:UpT [] Ah Ah:=UpT.start all_nil;refine AW8 (B:=fun h'=>UpT [] Ah h') 15 [⟨8,90,[.bool false,.slice none 0 0]⟩] (fun _ _ U E=>U.thenE E) (by kernel_rfl) Bq (Agn rfl AGk rfl (fun _ _ U E=>U.thenE E)) (h_e rfl fun Fe Br=>?_);have Ai:=Bq.thenE Br;obtain ⟨Ff,Cu,Cv⟩:=ABq Ch;refine ADg Ai (fun _ E=>Ai.thenE E) rfl (AKp Cu) fun Fg Fh Aj Cw=>?_;obtain ⟨Fi,rfl,Cx⟩:=Cw;have Cy:=Ai.thenE Aj;obtain ⟨Fj,rfl,Cz⟩:=Cx.cs;refine ACr ⟨Aj,?_⟩;refine h_l rfl (Wo (ACr (h_l rfl (Wo (ACr (h_l rfl (AIf rfl rfl (ACr (h_e rfl fun Fk Bt=>?_)))))))));have Ak:=Cy.thenE Bt;have Bu:=(((Ad.e Br).e Aj).az Cz).e Bt;obtain ⟨Fl,C0,C1⟩:=ABq Cv;refine ADg Ak (fun _ E=>Ak.thenE E) rfl (AFj (H6.ext Bu.x) C0) fun Fm Fo Am C2=>?_;obtain ⟨Fp,rfl,C3⟩:=C2;have C4:=Ak.thenE Am;obtain ⟨Fq,rfl,C5⟩:=C3.cs;refine ACr ⟨Am,?_⟩;refine h_l rfl (Wo (ACr (h_l rfl (Wo (ACr (h_l rfl (ACz rfl rfl (ACr (h_e rfl fun Fr Bv=>?_)))))))));have Ao:=C4.thenE Bv;have Bw:=((Bu.e Am).az C5).e Bv;obtain ⟨Ft,C6,C7⟩:=ABq C1;refine ADg Ao (fun _ E=>Ao.thenE E) rfl (AFj (H6.ext Bw.x) C6) fun Fu Fv Ap C8=>?_;obtain ⟨Fw,rfl,C9⟩:=C8;have Da:=Ao.thenE Ap;obtain ⟨Fx,rfl,Db⟩:=C9.cs;refine ACr ⟨Ap,?_⟩;refine h_e rfl fun Fy Bx=>?_;have Aq:=Da.thenE Bx;have Ar:=((Bw.e Ap).az Db).e Bx;obtain ⟨Fz,Dc,Dd⟩:=ABq C7;refine ADg Aq (fun _ E=>Aq.thenE E) rfl (AQg (Ar.z p1).2 (Ar.z p0).2 Dc) fun F4 F5 Au De=>?_;obtain ⟨F6,rfl,Df⟩:=De;have Av:=Aq.thenE Au;obtain ⟨F7,rfl,Dg⟩:=Df.cs;have Aw:=(Ar.e Au).az Dg;refine ACr ⟨Au,?_⟩;refine h_l rfl (AEk Ag ACf (cZ.klen (Aw.z p5)) rfl Av (fun h' hb=>((Ad.b p0).ext hb.ext).agg) (ACr (h_l rfl (AEk Ag ACf (cZ.klen (Aw.z p5)) rfl Av (fun h' hb=>((Ad.b p0).ext hb.ext).agg) (ACr (h_e rfl fun F8 By=>?_))))));have Ax:=Av.thenE By;have Ay:=Aw.e By;obtain ⟨F9,Dh,Di⟩:=ABq Dd;refine ADg Ax (fun _ E=>Ax.thenE E) rfl (AQg (Ay.z p5).2 (Ay.z p5).2 Dh) fun Ga Gb Az Dj=>?_;obtain ⟨Gc,rfl,Dk⟩:=Dj;have Dl:=Ax.thenE Az;obtain ⟨Gd,rfl,Dn⟩:=Dk.cs;refine ACr ⟨Az,?_⟩;refine h_e rfl fun Ge Bz=>?_;have A3:=Dl.thenE Bz;have A4:=((Ay.e Az).az Dn).e Bz;obtain ⟨Gf,Do,Dp⟩:=ABq Di;refine ADg A3 (fun _ E=>A3.thenE E) rfl (Agk (A4.z p1).2 (A4.z p0).2 Do) fun Gg Gh A5 Dq=>?_;obtain ⟨Gi,rfl,Dr⟩:=Dq;have Ds:=A3.thenE A5;obtain ⟨Gj,rfl,Dt⟩:=Dr.cs;refine ACr ⟨A5,?_⟩;refine h_e rfl fun Gk B1=>?_;have A6:=Ds.thenE B1;have A7:=((A4.e A5).az Dt).e B1;obtain ⟨Gl,Du,Dv⟩:=ABq Dp;refine ADg A6 (fun _ E=>A6.thenE E) rfl (AQg (A7.z p5).2 (A7.z p0).2 Du) fun Gm Gn A8 Dw=>?_;obtain ⟨Gp,rfl,Dx⟩:=Dw;have Dy:=A6.thenE A8;obtain ⟨B3,rfl,Dz⟩:=Dx.cs;refine ACr ⟨A8,?_⟩;refine Aeo fun D0 B4=>Asn fun Gq B5 D1 Gr=>?_;have Aa:=((A7.e A8).az Dz).e B4;have Ae:=(((((((Ad.nb (Dy.thenE B4).ext (AIj D1 B5.lt) B5).az (Aa.z p6)).az (Aa.z p5)).az (Aa.z p4)).az (Aa.z p3)).az (Aa.z p2)).az (Aa.z p1)).az (Aa.z p0);refine AC7 B3 ACf (cZ.klen (Ae.z p0)) (cZ.klen (AB9 D0)) rfl rfl (cZ.one (Ae.z p0)) (Ae.b p7) fun A9 D2 D3=>ABt (ABr (AEd (fun h'=>UpT [] A9 h') (by kernel_rfl) ?_));have Ba:=Ae.sb p7 D3 D2 rfl;have Af:UpT [] A9 A9:=UpT.start all_nil;refine AEk B3 ACf (cZ.klen (Ba.z p0)) rfl Af (fun h' hb=>((Ba.b p7).ext hb.ext).agg) ?_;obtain ⟨Gt,D4,D5⟩:=ABq Dv;refine ADg Af (fun _ E=>Af.thenE E) rfl (AKp D4) fun Gu Gv B6 D6=>?_;obtain ⟨Gw,rfl,D7⟩:=D6;have Bb:=Af.thenE B6;obtain ⟨Gx,rfl,D8⟩:=D7.cs;refine Wo (Wo ?_);have B7:=(Ba.e B6).az D8;obtain ⟨Gy,D9,Ea⟩:=ABq D5;refine ADg Bb (fun _ E=>Bb.thenE E) rfl (AFj (H6.ext B7.x) D9) fun Gz G3 B8 Eb=>?_;obtain ⟨G4,rfl,Ec⟩:=Eb;have Bc:=Bb.thenE B8;obtain ⟨G5,rfl,Ed⟩:=Ec.cs;refine Wo (Wo ?_);have B9:=(B7.e B8).az Ed;obtain ⟨G6,Ee,Ef⟩:=ABq Ea;refine ADg Bc (fun _ E=>Bc.thenE E) rfl (AFj (H6.ext B9.x) Ee) fun G7 G8 Ca Eg=>?_;obtain ⟨G9,rfl,Eh⟩:=Eg;have Be:=Bc.thenE Ca;obtain ⟨Hb,rfl,Ei⟩:=Eh.cs;have Bf:=(B9.e Ca).az Ei;obtain ⟨Hc,Ej,Ek⟩:=ABq Ef;refine ADg Be (fun _ E=>Be.thenE E) rfl (AQg (Bf.z p1).2 (Bf.z p0).2 Ej) fun Hd He Cb El=>?_;obtain ⟨Hf,rfl,Em⟩:=El;have Bg:=Be.thenE Cb;obtain ⟨Hg,rfl,En⟩:=Em.cs;have Bh:=(Bf.e Cb).az En;obtain ⟨Hh,Eo,Ep⟩:=ABq Ek;refine ADg Bg (fun _ E=>Bg.thenE E) rfl (AQg (Bh.z p3).2 (Bh.z p0).2 Eo) fun Hj Hk Cd Er=>?_;obtain ⟨Hl,rfl,Es⟩:=Er;have Ce:=Bg.thenE Cd;obtain ⟨Hm,rfl,Et⟩:=Es.cs;have Bi:=(Bh.e Cd).az Et;obtain ⟨Hn,Eu,Ev⟩:=ABq Ep;refine ADg Ce (fun _ E=>Ce.thenE E) rfl (Aad (Bi.z p5).2 (Bi.z p0).2 Eu) fun Ho Hq Ew Ey=>?_;subst Ey;refine ANd rfl rfl (ABv (ABx ?_));obtain rfl:=ABo Ev;exact ⟨_,ABz,(Bi.e Ew).x,rfl⟩
def ALq (fuel:Nat) (a3:LiI) (x5:LiA) (Ab Aa:Int) (Ac:LiI):Option ((Int × LiI) ⊕ (((LiI × Bool)) ⊕ (LiI))):=
  (if 0<=Aa then ((AGu fuel a3 x5 Ab Aa).bind fun Ah=>(if (!Ah)=true then ((gI Ac Aa).bind fun Af=>((AFb fuel a3 Ab Aa).bind fun Ai=>((AEb fuel x5 (w64 (Aa + 1))).bind fun Aj=>((AG3 fuel Ai Aj).bind fun Ag=>((AHm fuel Ag.1 Ag.2).bind fun Ak=>((Aek fuel Ak).bind fun Am=>((gI Af Ab).bind fun Ao=>(some (Sum.inr<| Sum.inl <| ((sI Ac Aa (sI Af Ab Am)),true)))))))))) else (some (Sum.inl ((w64 (Aa - 1)),Ac))))) else (some (Sum.inr<| Sum.inr <| Ac)))
def ALr (fuel:Nat) (a3:LiI) (x5:LiA) (Aa:Int) (Ae:LiI):Option ((Int × LiI) ⊕ (((LiI × Bool)) ⊕ (Unit))):=
  (if Aa < (a3.length:Int) then ((iter (fun s=>ALq fuel a3 x5 Aa s.1 s.2) fuel ((w64 (Aa - 1)),Ae)).bind (fun ex=>match ex with | Sum.inl Af=>(some (Sum.inr<| Sum.inl <| Af)) | Sum.inr (Ab)=>(if 0 < Aa then ((AGd fuel a3 x5 Aa).bind fun Ag=>(if (!Ag)=true then ((gI Ab (w64 (Aa - 1))).bind fun Ah=>((gI Ab Aa).bind fun Ai=>(some (Sum.inr<| Sum.inl <| ((sI (sI Ab Aa Ah) (w64 (Aa - 1)) Ai),true))))) else (some (Sum.inl ((w64 (Aa + 1)),Ab))))) else (some (Sum.inl ((w64 (Aa + 1)),Ab)))))) else (some (Sum.inr<| Sum.inr <| ())))
def AIo (fuel:Nat) (a3:LiI):Option (LiI × Bool):=
  ((AEz fuel a3).bind fun (x5,x6)=>((AFi fuel (a3.length:Int)).bind fun (Ac,Af)=>((iter (fun s=>ALr fuel a3 x5 s.1 s.2) fuel (0,Ac)).bind (fun ex=>match ex with | Sum.inl Ad=>(some Ad) | Sum.inr (_)=>(some ([],false))))))
theorem AS6 {fuel:Nat} {h:ABu} {Bi:Value} {a3:LiI} {r:(LiI × Bool)} (H2:AEq cZ h Bi a3) (hp:AIo fuel a3=some r):ACn Tryz.prog 39 #[Bi] h (fun x h'=>Ext h h'/\ ∃ (x0:Value) (F0:List Nat) (B8:List LnA) (B9:List Value),x= .tuple #[x0,.bool r.2]/\AFf cZ 100 90 h' F0 B8 B9 x0 r.1/\Sp h' h.size [F0]):=by
 unfold AIo at hp;refine cwf (l:=[_]) Tryz.func39 rfl rfl (ABp (ACk (AC1 (Wo ?_))));have K0:=Kst.k0 h;obtain ⟨⟨x5,x6⟩,Ca,Bo⟩:=ABq hp;dsimp only at Bo;refine ADb rfl (AJw (H2.ext K0.x) Ca) fun Em En E9 Cd=>?_;obtain ⟨Eo,Ep,rfl,Ce,Cf⟩:=Cd;refine Wo (ADm rfl rfl (ADm rfl rfl (ACk (AC1 (Wo (ADa ADt rfl H2 ?_))))));obtain ⟨⟨Cg,Er⟩,Ch,Bp⟩:=ABq Bo;dsimp only at Bp;refine ADb rfl (AM5 Ch) fun Es Et Ci Cj=>?_;obtain ⟨Bq,Ck,Cm,Cn,rfl,Co,Cp⟩:=Cj;refine Wo (ADm rfl rfl (ADm rfl rfl (ACk (ABv (ABr (ABp (Wo (ADa ADt rfl H2 (Wo (ABt (ABw ?_)))))))))));have Br:=(K0.no E9 Cf Ce).no2 Ci Cp Co;obtain ⟨Aj,Cq,Ap⟩:=ABq Bp;obtain ⟨Cr,Ct,Cu⟩:=ACe Cq;refine ACq 9671406556917033389261580 (fun x:(Int) × (LiI) × LnA × LnN × LvA=>[(23,(.int .i64 x.1))]) (fun k x h'=>iter Cr k (x.1,x.2.1)=some Aj/\Kst h h' (Br.L.set 0 (aO2 cZ 100 90 x.2.2.1 x.2.2.2.1 x.2.2.2.2 Bq x.2.1))) (by kernel_rfl) fuel ((0,Cg,Ck,Cm,Cn):(Int) × (LiI) × LnA × LnN × LvA) ?_ ⟨rfl,trivial⟩ ?_
 ·exact ⟨Cu,Br⟩
 rintro Eu ⟨Ak,Cv,Cw,Cx,Cy⟩ Ev Ew ⟨Cz,Aq⟩;obtain ⟨Bt,Ey,rfl,Ad,Aa⟩:=AB7 Cz;rw [Ct] at Ad;dsimp only at Ad;unfold ALr at Ad;refine ABp (ACu rfl rfl (ABt (ABr (⟨_,rfl,fun Ar=>?_,fun Ar=>?_⟩))))
 ·refine ABy (q_t (ABr (ABw (ABp (Wo (ABv (ABr (ABp (Wo (AIf rfl rfl (ABv (ABw ?_))))))))))));obtain ⟨Au,C0,Av⟩:=ABq (AC8 Ad Ar);obtain ⟨C1,C2,C3⟩:=ACe C0;refine ACq 72057593769493004 (fun x:(Int) × (LiI) × LnA × LnN × LvA=>[(9,(.int .i64 x.1))]) (fun k x h'=>iter C1 k (x.1,x.2.1)=some Au/\Kst h h' (Aq.L.set 0 (aO2 cZ 100 90 x.2.2.1 x.2.2.2.1 x.2.2.2.2 Bq x.2.1))) (by kernel_rfl) fuel (((w64 (Ak - 1)),Cv,Cw,Cx,Cy):(Int) × (LiI) × LnA × LnN × LvA) ?_ ⟨rfl,trivial⟩ ?_
  ·exact ⟨C3,Aq⟩
  rintro Ez ⟨Aw,Ax,Ay,Az,A3⟩ Fa Fb ⟨C4,Ab⟩;obtain ⟨C5,Fc,rfl,Ae,Af⟩:=AB7 C4;rw [C2] at Ae;dsimp only at Ae;unfold ALq at Ae;refine ABr (ABp (Wo (ANd rfl rfl (ABt (⟨_,rfl,fun A4=>?_,fun A4=>?_⟩)))))
  ·refine ABy (q_t (ABr (ABw (ABp (Wo (Wo (Wo (Wo ?_))))))));obtain ⟨Fd,C6,Bu⟩:=ABq (AC8 Ae A4);refine ADb rfl (AN7 (H2.ext Ab.x) (Ab.o p1).rd C6) fun Fe A5 C7 C8=>?_;subst C8;refine AE1 rfl (ABt ?_);have Ag:=Ab.e C7;refine ⟨_,rfl,fun A6=>?_,fun A6=>?_⟩
   ·refine ABr (AEd (fun h'=>UpT [] A5 h') (by kernel_rfl) ?_);have Am:UpT [] A5 A5:=UpT.start all_nil;refine Wo (Wo ?_);obtain ⟨Ff,A7,C9⟩:=ABq (ifT Bu A6);refine ADl ADt rfl (Ag.o2 p0) rfl A7 fun Fg Fh Fi Da Db=>AEt AFm rfl Am (fun h' hb=>AB1 Db hb.ext) (Wo (Wo (Wo (Wo ?_))));obtain ⟨Fj,Dc,Dd⟩:=ABq C9;refine ADg Am (fun _ E=>Am.thenE E) rfl (AKf (H2.ext Ag.x) Dc) fun Fk Fl Bv De=>?_;obtain ⟨Fm,rfl,Df⟩:=De;have A8:=Am.thenE Bv;obtain ⟨Fo,rfl,Dg⟩:=Df.cs;refine Wo (Wo (ACz rfl rfl ?_));have Bw:=(Ag.e Bv).az Dg;obtain ⟨Fp,Dh,Di⟩:=ABq Dd;refine ADg A8 (fun _ E=>A8.thenE E) rfl (AFj (Bw.o p2).rd Dh) fun Fq Fr Bx Dj=>?_;obtain ⟨Ft,rfl,Dk⟩:=Dj;have A9:=A8.thenE Bx;obtain ⟨Fu,rfl,Dl⟩:=Dk.cs;have Ba:=(Bw.e Bx).az Dl;obtain ⟨Fv,Dn,Do⟩:=ABq Di;refine ADg A9 (fun _ E=>A9.thenE E) rfl (AQt (Ba.z p1).2 (Ba.z p0).2 Dn) fun Fw Fx By Dp=>?_;obtain ⟨Fy,rfl,Dq⟩:=Dp;have Bb:=A9.thenE By;obtain ⟨Fz,F4,rfl,Dr,Ds⟩:=Dq;have Bc:=((Ba.e By).az Dr).az Ds;obtain ⟨F5,Dt,Du⟩:=ABq Do;refine ADg Bb (fun _ E=>Bb.thenE E) rfl (ARl ⟨_,_,rfl,(Bc.z p1),(Bc.z p0)⟩ Dt) fun F6 F7 Bz Dv=>?_;obtain ⟨F8,rfl,Dw⟩:=Dv;have B1:=Bb.thenE Bz;obtain ⟨F9,rfl,Dx⟩:=Dw.cs;have B3:=(Bc.e Bz).az Dx;obtain ⟨Ga,Dy,Dz⟩:=ABq Du;refine ADg B1 (fun _ E=>B1.thenE E) rfl (Ac2 (B3.z p0).2 Dy) fun Gb Gc D0 D1=>?_;obtain ⟨Gd,rfl,D2⟩:=D1;obtain ⟨Ge,rfl,D3⟩:=D2.cs;have Ah:=(B3.e D0).az D3;obtain ⟨Gf,B4,D4⟩:=ABq Dz;refine AD2 (m:=Aw) AEv rfl (Ag.o2 p0) Da A7 rfl B4 fun Gg D5=>AH9 (m:=Aw) (ASa ACf (cZ.klen (Ah.z p0)) rfl rfl (cZ.one (Ah.z p0))) (Ah.o2 p6) D5 A7 B4 (Ah.z p0) fun Gh D6 D7=>AK0 (Wo (ACk (ABv ?_)));have Be:=Ah.uO2 p6 D7 D6;obtain rfl:=ABo D4;change _=Au at Af;subst Af;obtain rfl:=ABo Av;change _=Aj at Aa;subst Aa;refine ABx (ADe (AB4 (AB4 (ADe (AB4 (ADe (AB4 (AB4 (ADe (AB4 ?_))))))))));obtain rfl:=ABo Ap;exact ⟨_,ADj,Be.x,_,_,_,_,rfl,(Be.o2 p6),Be.s.sel [6] (by decide)⟩
   ·refine ABy (q_b (q_t (AB5 (Wo (AIf rfl rfl (ABv ?_))))));obtain rfl:=ABo (AH8 Bu A6);exact ⟨C5,(((w64 (Aw - 1)),Ax,Ay,Az,A3):(Int) × (LiI) × LnA × LnN × LvA),Nat.lt_succ_self _,⟨Af,Ag⟩,rfl,trivial⟩
  ·obtain rfl:=ABo (AC9 Ae A4);change _=Au at Af;subst Af;refine ACh (ACj (ACj (ADo (q_t (ABp (Wo (AGz rfl rfl (Wo ?_))))))));by_cases Ao:0 < Ak
   ·rw [decide_eq_true Ao];refine AB3 58 true (Wo (AB3 58 true (Wo (AB3 58 true (Wo (AB3 58 true ?_))))));obtain ⟨Gi,D8,B5⟩:=ABq (ifT Av Ao);refine ADb rfl (ANz (H2.ext Ab.x) (Ab.o p1).rd D8) fun Gj Gk D9 Ea=>?_;subst Ea;refine AB3 58 true (AE1 rfl (AB2 rfl (ABt ?_)));have Ai:=Ab.e D9;refine ⟨_,rfl,fun Bf=>?_,fun Bf=>?_⟩
    ·refine ABr (AKm (Wo (Wo (Wo (Wo (AIf rfl rfl (Wo (Wo (AIf rfl rfl ?_)))))))));obtain ⟨Gl,B6,Eb⟩:=ABq (ifT B5 Bf);refine ADl ADt rfl (Ai.o2 p0) rfl B6 fun Gm Gn Gp Ec Ed=>AB6 AFm rfl Ed (Wo (Wo ?_));obtain ⟨Gq,B7,Ee⟩:=ABq Eb;refine ADl ADt rfl (Ai.o2 p0) rfl B7 fun Gr Gt Gu Ef Eg=>AB6 AFm rfl Eg (ATw ADt AFm (Ai.o2 p0) Ef Ec B7 B6 rfl rfl (fun _=>rfl) (fun _=>rfl) (fun _=>rfl) (fun _ _=>rfl) fun Gv Gw Gx Gy Gz G3 Eh Ei Ej=>AK0 (Wo (ACk (ABv ?_))));have Bg:=Ai.uo2 p0 Ei Eh Ej;obtain rfl:=ABo Ee;change _=Aj at Aa;subst Aa;refine ABx (ADe (AB4 (AB4 (ADe (AB4 ?_)))));obtain rfl:=ABo Ap;exact ⟨_,ADj,Bg.x,_,_,_,_,rfl,(Bg.o2 p0),Bg.s.sel [0] (by decide)⟩
    ·refine ABy (q_b (q_t (AB5 (ACz rfl rfl (Wo (ABt ?_))))));obtain rfl:=ABo (AH8 B5 Bf);exact ⟨Bt,(((w64 (Ak + 1)),Ax,Ay,Az,A3):(Int) × (LiI) × LnA × LnN × LvA),Nat.lt_succ_self _,⟨Aa,Ai⟩,rfl,trivial⟩
   ·rw [decide_eq_false Ao];refine AFe 58 false (AB0 rfl (ABt (ACo rfl (ABy (q_b (q_t (AB5 (ACz rfl rfl (Wo (ABt ?_))))))))));obtain rfl:=ABo (ifF Av Ao);exact ⟨Bt,(((w64 (Ak + 1)),Ax,Ay,Az,A3):(Int) × (LiI) × LnA × LnN × LvA),Nat.lt_succ_self _,⟨Aa,Ab⟩,rfl,trivial⟩
 ·obtain rfl:=ABo (AC9 Ad Ar);change _=Aj at Aa;subst Aa;refine ACh (ACj (ACj (ADo (q_t (ABp (ACk (ABv (ABx ?_))))))));have Bh:=Kst.anil2 cZ 100 90 Aq;obtain rfl:=ABo Ap;exact ⟨_,ADj,Bh.x,_,_,_,_,rfl,(Bh.o2 p0),Bh.s.sel [0] (by decide)⟩
def AKg (fuel:Nat) (Aa Ab:LiI):Option ((LiI × LiI) ⊕ (((LiI × LiI × Int)))):=
  ((AIo fuel Aa).bind fun (Ac,Ad)=>(if (!Ad)=true then ((AHt fuel Aa).bind fun (Ae,Ah)=>(some (Sum.inr<| (Ae,Ab,0)))) else ((AE7 fuel Aa Ac).bind fun Af=>((AD9 fuel Ab Ac).bind fun Ag=>(some (Sum.inl (Af,Ag)))))))
def AHu (fuel:Nat) (a3:LiI):Option (LiI × LiI × Int):=
  ((AEh fuel a3).bind fun x5=>(if ¬ x5=0 then (some ([],[],x5)) else ((AGv fuel a3).bind fun Ac=>(if (!Ac)=true then (some ([],[],7)) else ((AHk fuel a3).bind fun Ad=>((AFi fuel (a3.length:Int)).bind fun (Ae,Ag)=>((iter (fun s=>AKg fuel s.1 s.2) fuel (Ad,Ae)).bind (fun (Af:(LiI × LiI × Int))=>(some Af)))))))))
theorem ARy {fuel:Nat} {h:ABu} {Aq:Value} {a3:LiI} {r:(LiI × LiI × Int)} (H2:AEq cZ h Aq a3) (hp:AHu fuel a3=some r):ACn Tryz.prog 17 #[Aq] h (fun x h'=>Ext h h'/\ ∃ (x0:Value) (F0:List Nat) (A9:List LnA) (Ba:List Value) (x1:Value) (F1:List Nat) (Bb:List LnA) (Bc:List Value),x= .tuple #[x0,x1,.int .i64 r.2.2]/\AFf (cI .i64) 35 2 h' F0 A9 Ba x0 r.1/\AFf cZ 100 90 h' F1 Bb Bc x1 r.2.1/\Sp h' h.size [F0,F1]):=by
 unfold AHu at hp;refine cwf (l:=[_]) Tryz.func17 rfl rfl (ABp (ACk (ACk (ABv (ABr (ABp (Wo ?_)))))));have K0:=Kst.k0 h;obtain ⟨x5,Be,Az⟩:=ABq hp;refine ADb rfl (AJk (H2.ext K0.x) Be) fun Dg h9 E8 Bg=>?_;subst Bg;refine AC1 (Wo (AEn rfl rfl (ABt ?_)));have Ag:=K0.e E8;refine ⟨_,rfl,fun Ah=>?_,fun Ah=>?_⟩
 ·refine ABp (Wo (ACk (ACk (ABv (ABx (AB4 ?_))))));have Ac:=Kst.anil2 cZ 100 90 (Kst.anil2 (cI .i64) 35 2 Ag);obtain rfl:=ABo (AC8 Az Ah);exact ⟨_,AKz,Ac.x,_,_,_,_,_,_,_,_,rfl,(Ac.o2 p1),(Ac.o2 p0),Ac.s.sel [1,0] (by decide)⟩
 ·refine ABy (q_t (ABr (ABp (Wo ?_))));obtain ⟨Di,Bh,A3⟩:=ABq (AC9 Az Ah);refine ADb rfl (AN8 (H2.ext Ag.x) Bh) fun Dj Dk Bi Bj=>?_;subst Bj;refine AE1 rfl (ABt ?_);have Ai:=Ag.e Bi;refine ⟨_,rfl,fun Aj=>?_,fun Aj=>?_⟩
  ·refine ABp (ACk (ACk (ABv (ABx (AB4 ?_)))));have Ad:=Kst.anil2 cZ 100 90 (Kst.anil2 (cI .i64) 35 2 Ai);obtain rfl:=ABo (ifT A3 Aj);exact ⟨_,AKz,Ad.x,_,_,_,_,_,_,_,_,rfl,(Ad.o2 p1),(Ad.o2 p0),Ad.s.sel [1,0] (by decide)⟩
  ·refine ABy (q_t (ABp (Wo ?_)));obtain ⟨Bl,Bm,Bn⟩:=ABq (AH8 A3 Aj);refine ADb rfl (AOo (H2.ext Ai.x) Bm) fun Bo Dl Bp Bq=>?_;obtain ⟨Dn,Br,Bt,Bu,rfl,Bv,Bw⟩:=Bq;refine AC1 (Wo (ADa ADt rfl H2 ?_));obtain ⟨⟨Bx,Do⟩,By,A4⟩:=ABq Bn;dsimp only at A4;refine ADb rfl (AM5 By) fun Dp Dq Bz B1=>?_;obtain ⟨B3,B4,B5,B6,rfl,B7,B8⟩:=B1;refine Wo (ADm rfl rfl (ADm rfl rfl (ACk (ABv (ABw ?_)))));have A5:=(Ai.no2 Bp Bw Bv).no2 Bz B8 B7;obtain ⟨A6,B9,Ca⟩:=ABq A4;obtain ⟨Cb,Cd,Ce⟩:=ACe B9;refine ACq 562949416558300 (fun x:(LiI) × (Value) × LnA × LnN × LvA × (LiI) × (Value) × LnA × LnN × LvA=>[(6,x.2.1),(7,x.2.2.2.2.2.2.1)]) (fun k x h'=>iter Cb k (x.1,x.2.2.2.2.2.1)=some A6/\Kst h h' ((A5.L.set 1 (aO2 cZ 100 90 x.2.2.1 x.2.2.2.1 x.2.2.2.2.1 x.2.1 x.1)).set 0 (aO2 cZ 100 90 x.2.2.2.2.2.2.2.1 x.2.2.2.2.2.2.2.2.1 x.2.2.2.2.2.2.2.2.2 x.2.2.2.2.2.2.1 x.2.2.2.2.2.1))) (by kernel_rfl) fuel ((Bl,Bo,Br,Bt,Bu,Bx,B3,B4,B5,B6):(LiI) × (Value) × LnA × LnN × LvA × (LiI) × (Value) × LnA × LnN × LvA) ?_ ⟨rfl,rfl,trivial⟩ ?_
   ·exact ⟨Ce,A5⟩
   rintro Dr ⟨Ds,Dt,Du,Dv,Dw,Dx,Dy,Dz,D0,D1⟩ D2 D3 ⟨Cf,A7⟩;obtain ⟨Cg,D4,rfl,Ae,Ak⟩:=AB7 Cf;rw [Cd] at Ae;dsimp only at Ae;unfold AKg at Ae;refine ABw (ABp (Wo ?_));obtain ⟨⟨D5,D6⟩,Ch,Am⟩:=ABq Ae;dsimp only at Am;refine ADb rfl (AS6 (A7.o2 p1).rd Ch) fun D7 D8 Ci Cj=>?_;obtain ⟨D9,Ea,Eb,Ec,rfl,Ck,Cm⟩:=Cj;refine Wo (ADm rfl rfl (ADm rfl rfl (ACk (ABv (ABr (ABp (Wo (AE1 rfl (ABt ?_)))))))));have Aa:=A7.no2 Ci Cm Ck;refine ⟨_,rfl,fun Ao=>?_,fun Ao=>?_⟩
   ·refine ABp (Wo ?_);obtain ⟨⟨Ed,Ee⟩,Cn,A8⟩:=ABq (ifT Am Ao);dsimp only at A8;refine ADb rfl (ARx (Aa.o2 p2).rd Cn) fun Ef Eg Co Cp=>?_;obtain ⟨Eh,Ei,Ej,Ek,rfl,Cq,Cr⟩:=Cp;refine Wo (ADm rfl rfl (ADm rfl rfl (ACk (AC1 (Wo (Wo (ACk (ACk (ABv ?_)))))))));have Af:=Aa.no2 Co Cr Cq;obtain rfl:=ABo A8;change _=A6 at Ak;subst Ak;refine ABx (AB4 (ADe (AB4 (ADe ?_))));obtain rfl:=ABo Ca;exact ⟨_,AKz,Af.x,_,_,_,_,_,_,_,_,rfl,(Af.o2 p0),(Af.o2 p2),Af.s.sel [0,2] (by decide)⟩
   ·refine ABy (q_t (AB5 (Wo (Wo ?_))));obtain ⟨Ct,Cu,Cv⟩:=ABq (AH8 Am Ao);refine ADb rfl (AQi (Aa.o2 p2).rd (Aa.o2 p0).rd Cu) fun Cw El Cx Cy=>?_;obtain ⟨Em,Cz,C0,C1,rfl,C2,C3⟩:=Cy;refine Wo (Wo ?_);have Ap:=Aa.no2 Cx C3 C2;obtain ⟨C4,C5,C6⟩:=ABq Cv;refine ADb rfl (AJu (Ap.o2 p2).rd (Ap.o2 p1).rd C5) fun C7 En C8 C9=>?_;obtain ⟨Eo,Da,Db,Dc,rfl,Dd,De⟩:=C9;refine ACk (ACk (ACr (q_b (q_t ?_))));obtain rfl:=ABo C6;exact ⟨Cg,((Ct,Cw,Cz,C0,C1,C4,C7,Da,Db,Dc):(LiI) × (Value) × LnA × LnN × LvA × (LiI) × (Value) × LnA × LnN × LvA),Nat.lt_succ_self _,⟨Ak,(Ap.no2 C8 De Dd).sel [0,1] (by decide)⟩,rfl,rfl,trivial⟩
def AJx (fuel:Nat) (a3:LiI) (x5:LiA) (Ab Aa:Int):Option ((Int) ⊕ ((Bool) ⊕ (Unit))):=
  (if Aa < Ab then ((AGu fuel a3 x5 Ab Aa).bind fun Ae=>(if (!Ae)=true then (some (Sum.inr<| Sum.inl <| false)) else (some (Sum.inl (w64 (Aa + 1)))))) else (some (Sum.inr<| Sum.inr <| ())))
def AJy (fuel:Nat) (a3:LiI) (x5:LiA) (Aa:Int):Option ((Int) ⊕ ((Bool) ⊕ (Unit))):=
  (if Aa < (a3.length:Int) then ((iter (fun s=>AJx fuel a3 x5 Aa s) fuel 0).bind (fun ex=>match ex with | Sum.inl Ad=>(some (Sum.inr<| Sum.inl <| Ad)) | Sum.inr (_)=>(if 0 < Aa then ((AGd fuel a3 x5 Aa).bind fun Ae=>(if (!Ae)=true then (some (Sum.inr<| Sum.inl <| false)) else (some (Sum.inl (w64 (Aa + 1)))))) else (some (Sum.inl (w64 (Aa + 1))))))) else (some (Sum.inr<| Sum.inr <| ())))
def AHn (fuel:Nat) (a3:LiI):Option Bool:=
  ((AEz fuel a3).bind fun (x5,x6)=>((iter (fun s=>AJy fuel a3 x5 s) fuel 0).bind (fun ex=>match ex with | Sum.inl Ac=>(some Ac) | Sum.inr (_)=>(some true))))
theorem ARm {fuel:Nat} {h:ABu} {Av:Value} {a3:LiI} {r:Bool} (H2:AEq cZ h Av a3) (hp:AHn fuel a3=some r):ACn Tryz.prog 54 #[Av] h (fun x h'=>Ext h h'/\x= .bool r):=by
 unfold AHn at hp;refine cwf (l:=[_]) Tryz.func54 rfl rfl (ABp (AC1 (Wo ?_)));have K0:=Kst.k0 h;obtain ⟨⟨x5,x6⟩,A8,Ay⟩:=ABq hp;dsimp only at Ay;refine ADb rfl (AJw (H2.ext K0.x) A8) fun B1 B3 E9 Ba=>?_;obtain ⟨B4,B5,rfl,Bb,Bc⟩:=Ba;refine Wo (ADm rfl rfl (ADm rfl rfl (ACk (ABv (ABr (ABp (Wo (ADa ADt rfl H2 (Wo (ABt (ABw ?_)))))))))));have Az:=K0.no E9 Bc Bb;obtain ⟨Ag,Be,Ai⟩:=ABq Ay;obtain ⟨Bf,Bg,Bh⟩:=ACe Be;refine ACq 274877890660 (fun x:(Int)=>[(14,(.int .i64 x))]) (fun k x h'=>iter Bf k x=some Ag/\Kst h h' (Az.L)) (by kernel_rfl) fuel (0:(Int)) ?_ ⟨rfl,trivial⟩ ?_
 ·exact ⟨Bh,Az⟩
 rintro B6 Aj B7 B8 ⟨Bi,Ak⟩;obtain ⟨A3,B9,rfl,Ac,Aa⟩:=AB7 Bi;rw [Bg] at Ac;dsimp only at Ac;unfold AJy at Ac;refine ABp (ACu rfl rfl (ABt (ABr (⟨_,rfl,fun Am=>?_,fun Am=>?_⟩))))
 ·refine ABy (q_t (ABr (ABw (ABp (Wo (ABv (ABr (ABp (ABv (ABw ?_))))))))));obtain ⟨Ao,Bj,Ap⟩:=ABq (AC8 Ac Am);obtain ⟨Bl,Bm,Bn⟩:=ACe Bj;refine ACq 268304452 (fun x:(Int)=>[(6,(.int .i64 x))]) (fun k x h'=>iter Bl k x=some Ao/\Kst h h' (Ak.L)) (by kernel_rfl) fuel (0:(Int)) ?_ ⟨rfl,trivial⟩ ?_
  ·exact ⟨Bn,Ak⟩
  rintro Ca Bo Cb Cd ⟨Bp,Ab⟩;obtain ⟨Bq,Ce,rfl,Ad,Ae⟩:=AB7 Bp;rw [Bm] at Ad;dsimp only at Ad;unfold AJx at Ad;refine ABr (ABp (Wo (Wo (ACu rfl rfl (ABt (⟨_,rfl,fun Aq=>?_,fun Aq=>?_⟩))))))
  ·refine ABy (q_t (ABr (ABw (ABp (Wo (Wo (Wo (Wo ?_))))))));obtain ⟨Cf,Br,A4⟩:=ABq (AC8 Ad Aq);refine ADb rfl (AN7 (H2.ext Ab.x) (Ab.o p0).rd Br) fun Cg Ch Bt Bu=>?_;subst Bu;refine AE1 rfl (ABt ?_);have A5:=Ab.e Bt;refine ⟨_,rfl,fun Ar=>?_,fun Ar=>?_⟩
   ·refine ABp (ABv ?_);obtain rfl:=ABo (ifT A4 Ar);change _=Ao at Ae;subst Ae;obtain rfl:=ABo Ap;change _=Ag at Aa;subst Aa;refine ABx (ADe (AB4 (AB4 (ADe (AB4 (ADe (AB4 (AB4 (ADe (AB4 ?_))))))))));obtain rfl:=ABo Ai;exact ⟨_,ABz,A5.x,rfl⟩
   ·refine ABy (q_b (q_t (AB5 (Wo (ACz rfl rfl (ABv ?_))))));obtain rfl:=ABo (AH8 A4 Ar);exact ⟨Bq,((w64 (Bo + 1)):(Int)),Nat.lt_succ_self _,⟨Ae,A5⟩,rfl,trivial⟩
  ·obtain rfl:=ABo (AC9 Ad Aq);change _=Ao at Ae;subst Ae;refine ACh (ACj (ACj (ADo (q_t (ABp (Wo (AGz rfl rfl (Wo ?_))))))));by_cases Ah:0 < Aj
   ·rw [decide_eq_true Ah];refine AB3 30 true (Wo (AB3 30 true (Wo (AB3 30 true (Wo (AB3 30 true ?_))))));obtain ⟨Ci,Bv,A6⟩:=ABq (ifT Ap Ah);refine ADb rfl (ANz (H2.ext Ab.x) (Ab.o p0).rd Bv) fun Cj Ck Bw Bx=>?_;subst Bx;refine AB3 30 true (AE1 rfl (AB2 rfl (ABt ?_)));have A7:=Ab.e Bw;refine ⟨_,rfl,fun Au=>?_,fun Au=>?_⟩
    ·refine ABp (ABv ?_);obtain rfl:=ABo (ifT A6 Au);change _=Ag at Aa;subst Aa;refine ABx (ADe (AB4 (AB4 (ADe (AB4 ?_)))));obtain rfl:=ABo Ai;exact ⟨_,ABz,A7.x,rfl⟩
    ·refine ABy (q_b (q_t (AB5 (ACz rfl rfl (Wo (ABt ?_))))));obtain rfl:=ABo (AH8 A6 Au);exact ⟨A3,((w64 (Aj + 1)):(Int)),Nat.lt_succ_self _,⟨Aa,A7⟩,rfl,trivial⟩
   ·rw [decide_eq_false Ah];refine AFe 30 false (AB0 rfl (ABt (ACo rfl (ABy (q_b (q_t (AB5 (ACz rfl rfl (Wo (ABt ?_))))))))));obtain rfl:=ABo (ifF Ap Ah);exact ⟨A3,((w64 (Aj + 1)):(Int)),Nat.lt_succ_self _,⟨Aa,Ab⟩,rfl,trivial⟩
 ·obtain rfl:=ABo (AC9 Ac Am);change _=Ag at Aa;subst Aa;refine ACh (ACj (ACj (ADo (q_t (ABp (ABv (ABx ?_)))))));obtain rfl:=ABo Ai;exact ⟨_,ABz,Ak.x,rfl⟩
def AE8 (fuel:Nat) (a3:LiI):Option Bool:=
  ((AD4 fuel a3).bind fun (x5,x6)=>(if x6=true then ((AEh fuel x5).bind fun Ad=>(if Ad=0 then ((AGv fuel x5).bind fun Ae=>(if Ae=true then ((AHn fuel x5).bind fun Af=>(some Af)) else (some false))) else (some false))) else (some false)))
theorem AQj {fuel:Nat} {h:ABu} {Af:Value} {a3:LiI} {r:Bool} (H2:AEq (cI .i64) h Af a3) (hp:AE8 fuel a3=some r):ACn Tryz.prog 23 #[Af] h (fun x h'=>Ext h h'/\x= .bool r):=by
 unfold AE8 at hp;refine cwf (l:=[_]) Tryz.func23 rfl rfl (ABp (AC1 (Wo ?_)));have K0:=Kst.k0 h;obtain ⟨⟨x5,x6⟩,Aq,Ab⟩:=ABq hp;dsimp only at Ab;refine ADb rfl (AM4 (H2.ext K0.x) Aq) fun Be Bf E9 Au=>?_;obtain ⟨Bg,Bh,Bi,Bj,rfl,Av,Aw⟩:=Au;refine Wo (ADm rfl rfl (ADm rfl rfl (ACk (AC1 (Wo (Wo ?_))))));have Ac:=K0.no2 E9 Aw Av;cases Ai:x6
 ·refine AE2 11 false (AB0 rfl (Wo (AIg 16 false (AB0 rfl (Wo (AIg 20 false (AB0 rfl (ABv (ABx ?_)))))))));obtain rfl:=ABo (AH8 Ab Ai);exact ⟨_,ABz,Ac.x,rfl⟩
 ·refine AB3 11 true (Wo (AB3 11 true ?_));obtain ⟨Ax,Ay,Aj⟩:=ABq (ifT Ab Ai);refine ADb rfl (AJk (Ac.o2 p0).rd Ay) fun Bl Bm Az A3=>?_;subst A3;refine AB3 11 true (AD8 rfl rfl (AB2 rfl (Wo ?_)));have Ad:=Ac.e Az;by_cases Aa:Ax=0
  ·rw [decide_eq_true Aa];refine AB3 16 true (Wo (AB3 16 true ?_));obtain ⟨A4,A5,Ak⟩:=ABq (ifT Aj Aa);refine ADb rfl (AN8 (Ad.o2 p0).rd A5) fun Bn Bo A6 A7=>?_;subst A7;refine AB2 rfl (Wo ?_);have Ae:=Ad.e A6;cases Am:A4
   ·refine AIg 20 false (AB0 rfl (ABv (ABx ?_)));obtain rfl:=ABo (AH8 Ak Am);exact ⟨_,ABz,Ae.x,rfl⟩
   ·refine AB3 20 true (Wo (AB3 20 true ?_));obtain ⟨Bp,A8,A9⟩:=ABq (ifT Ak Am);refine ADb rfl (ARm (Ae.o2 p0).rd A8) fun Bq Br Ba Bb=>?_;subst Bb;refine AB2 rfl (ABv (ABx ?_));obtain rfl:=ABo A9;exact ⟨_,ABz,(Ae.e Ba).x,rfl⟩
  ·rw [decide_eq_false Aa];refine AIg 16 false (AB0 rfl (Wo (AIg 20 false (AB0 rfl (ABv (ABx ?_))))));obtain rfl:=ABo (ifF Aj Aa);exact ⟨_,ABz,Ad.x,rfl⟩
end Go.Proofs.YtdnbklmefmoofaaGreatDoor
namespace Go.QF
open Go
def Ok {α:Type} (o:Option α) (Q:α->Prop):Prop:= ∃ r,o=some r/\Q r
theorem ABn {α:Type} {a:α} {Q:α->Prop} (h:Q a):Ok (some a) Q:=⟨a,rfl,h⟩
theorem ABs {α β:Type} {o:Option α} {f:α->Option β} {Q:α->Prop} {R:β->Prop} (h:Ok o Q) (k:∀ x,Q x->Ok (f x) R):Ok (o.bind f) R:=by
 obtain ⟨x,rfl,hx⟩:=h;exact k x hx
theorem AB8 {c:Prop} [Decidable c] {α:Type} {a b:Option α} {R:α->Prop} (ht:c->Ok a R) (hf: ¬ c->Ok b R):Ok (if c then a else b) R:=by
 by_cases h:c
 ·rw [if_pos h];exact ht h
 ·rw [if_neg h];exact hf h
theorem AEa {c:Prop} [Decidable c] {α:Type} {a:Option α} {R:α->Prop} (hc:c) (h:Ok a R):Ok (if c then a else none) R:=by rw [if_pos hc];exact h
theorem Ap0 {α:Type} {o:Option α} {Q R:α->Prop} (h:Ok o Q) (k:∀ x,Q x->R x):Ok o R:=let ⟨x,h1,h2⟩:=h;⟨x,h1,k x h2⟩
theorem ok_eq {α:Type} {o:Option α} {a:α} (h:Ok o (· =a)):o=some a:=by obtain ⟨x,h1,rfl⟩:=h;exact h1
theorem AC2 {α:Type} {o:Option α} {a:α} (h:o=some a):Ok o (· =a):=⟨a,h,rfl⟩
theorem ACg {α β:Type} {L:List α} {i:Int} {n:Nat} {x:α} {f:α->Option β} {R:β->Prop} (hx:L[n]? =some x) (hi:i=n) (k:Ok (f x) R):Ok ((gI L i).bind f) R:=by
 subst hi;unfold gI;rw [if_pos (by omega),Int.toNat_natCast,hx];exact k
theorem AC4 {S E:Type} {body:S->Option (S ⊕ E)} {fuel:Nat} {s0:S} (I:Nat->S->Prop) (n:Nat) {Q:E->Prop} (h0:I 0 s0) (hf:n < fuel) (hs:∀ i s,i<=n->I i s->Ok (body s) fun r=>match r with | .inl s'=>i < n/\I (i + 1) s' | .inr e=>Q e):Ok (iter body fuel s0) Q:=by
  have key:∀ k fuel i s,n - i=k->k < fuel->i<=n->I i s->Ok (iter body fuel s) Q:=by
    intro k;induction k with
    | zero=>
      intro fuel i s hk hf hi hI;obtain ⟨r,hr,hq⟩:=hs i s hi hI;cases fuel with
      | zero=>omega
      | succ f=>
        cases r with
        | inl s'=>simp at hq;omega
        | inr e=>exact ⟨e,by simp [iter,hr],hq⟩
    | succ k ih=>
      intro fuel i s hk hf hi hI;obtain ⟨r,hr,hq⟩:=hs i s hi hI;cases fuel with
      | zero=>omega
      | succ f=>
        cases r with
        | inl s'=>
          obtain ⟨e,he,hQ⟩:=ih f (i + 1) s' (by omega) (by omega) (by omega) hq.2;exact ⟨e,by simp [iter,hr,he],hQ⟩
        | inr e=>exact ⟨e,by simp [iter,hr],hq⟩
  exact key n fuel 0 s0 (by omega) hf (by omega) h0
theorem AFr {x:Int} (h1: -9223372036854775808<=x) (h2:x<=9223372036854775807):w64 x=x:=by
 show IntKind.i64.wrap x=x;rw [IntKind.wrap_i64];omega
theorem wk {x:Int} (h: -9223372036854775808<=x/\x<=9223372036854775807):w64 x=x:=AFr h.1 h.2
def AEj {α:Type} (m:Nat) (f:Nat->α):List α:=(List.range m).map f
theorem ACw {α:Type} (m:Nat) (f:Nat->α):(AEj m f).length=m:=by simp [AEj]
theorem ACp {α:Type} {m:Nat} {f:Nat->α} {j:Nat} (h:j < m):(AEj m f)[j]? =some (f j):=by simp [AEj,h]
theorem ADk {α:Type} {m:Nat} {f g:Nat->α} (h:∀ j,j < m->f j=g j):AEj m f=AEj m g:=by
 unfold AEj;exact List.map_congr_left fun j hj=>h j (List.mem_range.1 hj)
theorem AFs {α:Type} {m j:Nat} {f:Nat->α} {x:α}:(AEj m f).set j x=AEj m fun c=>if c=j then x else f c:=by
 apply List.ext_getElem?;intro i;rw [List.getElem?_set];by_cases h:j=i
 ·subst h;simp only [if_true,ACw];by_cases hj:j < m
  ·simp [hj,ACp hj]
  ·simp [hj,AEj]
 ·rw [if_neg h];by_cases hi:i < m
  ·rw [ACp hi,ACp hi,if_neg (fun he=>h he.symm)]
  ·simp [AEj,hi]
theorem AOq {α:Type} (m:Nat) (f:Nat->α):AEj m f ++ [f m]=AEj (m + 1) f:=by simp [AEj,List.range_succ]
theorem AG4 {α:Type} (m:Nat) (a:α):List.replicate m a=AEj m fun _=>a:=by
 apply List.ext_getElem?;intro i;by_cases h:i < m
 ·rw [ACp h];simp [h]
 ·simp [AEj,h]
theorem AP3 (r c:Nat) (F:Nat->Nat->Int):tab r c F=AEj r fun i=>AEj c (F i):=rfl
theorem ACv {r c:Nat} {F:Nat->Nat->Int} {i:Nat} (h:i < r):(tab r c F)[i]? =some (AEj c (F i)):=ACp (f:=fun i=>AEj c (F i)) h
theorem Amw {r c i j:Nat} {F:Nat->Nat->Int} {x:Int}:(tab r c F).set i (AEj c fun q=>if q=j then x else F i q)=tab r c (ADz F i fun q=>if q=j then x else F i q):=ALl
theorem ADu {α:Type} (L:List α) (n:Nat) (x:α):sI L (n:Int) x=L.set n x:=by simp [sI]
end Go.QF
namespace Go.QF
theorem ANs (F:Nat->Nat->Int) (i:Nat) (f g:Nat->Int):ADz (ADz F i f) i g=ADz F i g:=by
 funext k;by_cases h:k=i
 ·subst h;rw [ADq,ADq]
 ·rw [AFq _ _ h,AFq _ _ h,AFq _ _ h]
theorem AOr (F:Nat->Nat->Int) (i:Nat):ADz F i (F i)=F:=by
 funext k;by_cases h:k=i
 ·subst h;rw [ADq]
 ·rw [AFq _ _ h]
theorem AN9 (f g:Nat->Int) (n:Nat):psum (fun i=>f i + g i) n=psum f n + psum g n:=by
 induction n with
 | zero=>rfl
 | succ n ih=>simp only [psum];rw [ih];omega
theorem AIh (c:Int) (f:Nat->Int) (n:Nat):psum (fun i=>c * f i) n=c * psum f n:=by
 induction n with
 | zero=>simp [psum]
 | succ n ih=>simp only [psum];rw [ih,Int.mul_add]
theorem AQy (n:Nat):psum (fun _=>0) n=0:=by
 induction n with
 | zero=>rfl
 | succ n ih=>simp only [psum];rw [ih];rfl
theorem Abu (f:Nat->Nat->Int) (n m:Nat):psum (fun i=>psum (fun j=>f i j) m) n=psum (fun j=>psum (fun i=>f i j) n) m:=by
 induction n with
 | zero=>simp only [psum];exact (AQy m).symm
 | succ n ih=>
   simp only [psum]
   rw [ih,<- AN9]
theorem Amx {f g:Nat->Int} {n a:Nat} (ha:a < n) (h:∀ i,i≠a->g i=f i):psum g n=psum f n + (g a - f a):=by
  induction n with
  | zero=>omega
  | succ n ih=>
    simp only [psum]
    by_cases hn:a=n
    · subst hn;rw [ADc (f:=g) (g:=f) (fun k hk=>h k (by omega))];omega
    · rw [ih (by omega),h n (fun he=>hn he.symm)];omega
theorem ALs {f:Nat->Int} {n a:Nat} (ha:a < n) (h:∀ i,i≠a->f i=0):psum f n=f a:=by
 rw [Amx (f:=fun _=>0) ha h,AQy];omega
def Eqm (m a b:Int):Prop:=a % m=b % m
theorem Eqm.refl (m a:Int):Eqm m a a:=rfl
theorem Eqm.of_eq {m a b:Int} (h:a=b):Eqm m a b:=h ▸ rfl
theorem Eqm.trans {m a b c:Int} (h:Eqm m a b) (k:Eqm m b c):Eqm m a c:=Eq.trans h k
theorem Eqm.add {m a b c d:Int} (h:Eqm m a b) (k:Eqm m c d):Eqm m (a + c) (b + d):=by
 unfold Eqm at *;rw [Int.add_emod,h,k,<- Int.add_emod]
theorem Eqm.sub {m a b c d:Int} (h:Eqm m a b) (k:Eqm m c d):Eqm m (a - c) (b - d):=by
 unfold Eqm at *;rw [Int.sub_emod,h,k,<- Int.sub_emod]
theorem Eqm.mul {m a b c d:Int} (h:Eqm m a b) (k:Eqm m c d):Eqm m (a * c) (b * d):=by
 unfold Eqm at *;rw [Int.mul_emod,h,k,<- Int.mul_emod]
theorem Eqm.mod (m a:Int):Eqm m (a % m) a:=Int.emod_emod_of_dvd a (Int.dvd_refl m)
theorem Eqm.psum {m:Int} {f g:Nat->Int} {n:Nat} (h:∀ i,i < n->Eqm m (f i) (g i)):Eqm m (psum f n) (psum g n):=by
 induction n with
 | zero=>rfl
 | succ n ih=>exact (ih fun i hi=>h i (by omega)).add (h n (by omega))
end Go.QF
namespace Go.QF
theorem Amy {f:Nat->Int} {k r:Nat} (hk:k<=r) (h:∀ i,k<=i->i < r->f i=0):psum f r=psum f k:=by
 induction r with
 | zero=>rw [Nat.le_zero.1 hk]
 | succ r ih=>
   rcases Nat.lt_or_ge k (r + 1) with h1 | h1
   · simp only [psum]
     rw [ih (by omega) (fun i h2 h3=>h i h2 (by omega)),h r (by omega) (by omega)];omega
   · obtain rfl:k=r + 1:=by omega
     rfl
def dl (a b:Nat):Int:=if a=b then 1 else 0
def skp (i a:Nat):Nat:=if a < i then a else a + 1
def usk (i r:Nat):Nat:=if r < i then r else r - 1
def sg (i:Nat):Int:=if i % 2=0 then 1 else -1
theorem Ap1 (i:Nat):sg (i + 1)= -sg i:=by unfold sg;split <;> split <;> first | omega | rfl
theorem Asp (i a:Nat):skp i a≠i:=by unfold skp;split <;> omega
theorem Amz {i a n:Nat} (ha:a < n):skp i a < n + 1:=by unfold skp;split <;> omega
theorem Ap2 {i r:Nat} (h:r≠i):skp i (usk i r)=r:=by
 unfold usk;split <;> (unfold skp;split <;> omega)
theorem Ap3 {i a r:Nat} (h:skp i a=r):a=usk i r:=by unfold skp at h;unfold usk;split at h <;> split <;> omega
theorem Asq {i r n:Nat} (h:r≠i) (hi:i < n + 1) (hr:r < n + 1):usk i r < n:=by unfold usk;split <;> omega
theorem ADf (F:Nat->Nat->Int) (a:Nat) (g:Nat->Int) (i j:Nat):ADz F a g i j=if i=a then g j else F i j:=by
 unfold ADz;split <;> rfl
theorem ALt (F:Nat->Nat->Int) (a b i j:Nat):AHi F a b i j=if i=b then F a j else if i=a then F b j else F i j:=by
 unfold AHi;rw [ADf,ADf]
def AGp (i:Nat) (F:Nat->Nat->Int):Nat->Nat->Int:=fun a b=>F (skp i a) (b + 1)
def det:Nat->(Nat->Nat->Int)->Int
  | 0,_=>1
  | n + 1,F=>psum (fun i=>sg i * F i 0 * det n (AGp i F)) (n + 1)
theorem AD5:∀ {n:Nat} {F G:Nat->Nat->Int},(∀ i j,i < n->j < n->F i j=G i j)->det n F=det n G:=by
 intro n
 induction n with
 | zero=>intro _ _ _;rfl
 | succ n ih=>
   intro F G h
   refine ADc fun i hi=>?_
   rw [h i 0 hi (by omega),ih (F:=AGp i F) (G:=AGp i G) fun a b ha hb=>h _ _ (Amz ha) (by omega)]
theorem AWe {i r:Nat} {F:Nat->Nat->Int} {g:Nat->Int} (h:r≠i):AGp i (ADz F r g)=ADz (AGp i F) (usk i r) (fun b=>g (b + 1)):=by
 funext a b;unfold AGp ADz;by_cases ha:skp i a=r
 ·rw [if_pos ha,if_pos (Ap3 ha)]
 ·rw [if_neg ha,if_neg (fun he=>ha (by rw [he,Ap2 h]))]
theorem AYx {i:Nat} {F:Nat->Nat->Int} {g:Nat->Int}:AGp i (ADz F i g)=AGp i F:=by
 funext a b;unfold AGp;rw [AFq _ _ (Asp i a)]
theorem AT3:∀ {n:Nat} {F:Nat->Nat->Int} {r:Nat} (u v:Nat->Int) (c d:Int),r < n->det n (ADz F r fun q=>c * u q + d * v q)=c * det n (ADz F r u) + d * det n (ADz F r v):=by
 intro n
 induction n with
 | zero=>intro _ _ _ _ _ _ h;omega
 | succ n ih=>
   intro F r u v c d hr
   simp only [det]
   rw [<- AIh,<- AIh,<- AN9]
   refine ADc fun i hi=>?_
   by_cases h:r=i
   · subst h
     simp only [AYx,ADq]
     grind
   · rw [AWe h,AWe h,AWe h,AFq _ _ (Ne.symm h),AFq _ _ (Ne.symm h),AFq _ _ (Ne.symm h),ih (fun b=>u (b + 1)) (fun b=>v (b + 1)) c d (Asq h hi hr)]
     grind
theorem Am0 {f:Nat->Int} {n r s:Nat} (hr:r < n) (hs:s < n) (hrs:r≠s) (h:∀ i,i < n->i≠r->i≠s->f i=0):psum f n=f r + f s:=by
 have h1:psum f n=psum (fun i=>(if i=r then f r else 0) + (if i=s then f s else 0)) n:=ADc fun i hi=>by
   by_cases h1:i=r
   · subst h1;rw [if_pos rfl,if_neg hrs];omega
   · rw [if_neg h1]
     by_cases h2:i=s
     · subst h2;rw [if_pos rfl];omega
     · rw [if_neg h2,h i hi h1 h2];rfl
 rw [h1,AN9,ALs (f:=fun i=>if i=r then f r else 0) hr (fun i hi=>if_neg hi),ALs (f:=fun i=>if i=s then f s else 0) hs (fun i hi=>if_neg hi),if_pos rfl,if_pos rfl]
theorem Aib:∀ {n:Nat} {F:Nat->Nat->Int} {r:Nat},r + 1 < n->(∀ q,q < n->F r q=F (r + 1) q)->det n F=0:=by
 intro n
 induction n with
 | zero=>intro _ _ h;omega
 | succ n ih=>
   intro F r hr h
   simp only [det]
   rw [Am0 (r:=r) (s:=r + 1) (by omega) (by omega) (by omega)]
   · have:det n (AGp r F)=det n (AGp (r + 1) F):=AD5 fun a b ha hb=>by
       unfold AGp skp
       by_cases h1:a < r
       · rw [if_pos h1,if_pos (by omega)]
       · rw [if_neg h1]
         by_cases h2:a < r + 1
         · rw [if_pos h2]
           obtain rfl:a=r:=by omega
           exact (h (b + 1) (by omega)).symm
         · rw [if_neg h2]
     rw [this,Ap1,h 0 (by omega)]
     grind
   · intro i hi h1 h2
     rcases Nat.lt_or_ge i r with hlt | hge
     · rw [ih (F:=AGp i F) (r:=r - 1) (by omega)]
       · simp
       · intro q hq
         unfold AGp skp
         rw [if_neg (by omega),if_neg (by omega),show r - 1 + 1=r by omega]
         exact h (q + 1) (by omega)
     · rw [ih (F:=AGp i F) (r:=r) (by omega)]
       · simp
       · intro q hq
         unfold AGp skp
         rw [if_pos (by omega),if_pos (by omega)]
         exact h (q + 1) (by omega)
theorem AQz {F:Nat->Nat->Int} {a b:Nat} (h:a≠b) (u v:Nat->Int):ADz (ADz F a u) b v=ADz (ADz F b v) a u:=by
 funext k;unfold ADz;by_cases h1:k=a <;> by_cases h2:k=b
 ·omega
 ·simp [h1,h]
 ·simp [h2,Ne.symm h]
 ·simp [h1,h2]
theorem Aer {n:Nat} {F:Nat->Nat->Int} {a b:Nat} (ha:a < n) (hb:b < n) (hab:a≠b) (h0:∀ G:Nat->Nat->Int,G a=G b->det n G=0):det n (AHi F a b)= -det n F:=by
  have key:∀ u v:Nat->Int,det n (ADz (ADz F a u) b v)= -det n (ADz (ADz F a v) b u):=by
    intro u v;have h1:=h0 (ADz (ADz F a fun q=>1 * u q + 1 * v q) b fun q=>1 * u q + 1 * v q) (by rw [ADq,AFq _ _ hab,ADq]);rw [AT3 u v 1 1 hb,AQz hab,AQz hab,AT3 u v 1 1 ha,AT3 u v 1 1 ha,AQz (Ne.symm hab),AQz (Ne.symm hab),AQz (Ne.symm hab),AQz (Ne.symm hab)] at h1;have h2:=h0 (ADz (ADz F a u) b u) (by rw [ADq,AFq _ _ hab,ADq]);have h3:=h0 (ADz (ADz F a v) b v) (by rw [ADq,AFq _ _ hab,ADq]);omega
  unfold AHi;rw [key (F b) (F a),AOr];rw [show ADz F b (F b)=F from AOr F b]
theorem Aic:∀ {d n:Nat} {F:Nat->Nat->Int} {a:Nat},a + d + 1 < n->F a=F (a + d + 1)->det n F=0:=by
 intro d
 induction d with
 | zero=>intro n F a hn h;exact Aib hn fun q _=>by rw [h]
 | succ d ih=>
   intro n F a hn h
   have h1:=Aer (n:=n) (F:=F) (a:=a + d + 1) (b:=a + d + 1 + 1) (by omega) (by omega) (by omega) fun G hG=>Aib (r:=a + d + 1) (by omega) fun q _=>congrFun hG q
   have h2:=ih (n:=n) (F:=AHi F (a + d + 1) (a + d + 1 + 1)) (a:=a) (by omega) (by rw [AVc,AWv _ (by omega) (by omega),h];rfl)
   omega
theorem AOs {n:Nat} {F:Nat->Nat->Int} {a b:Nat} (ha:a < n) (hb:b < n) (hab:a≠b) (h:F a=F b):det n F=0:=by
 rcases Nat.lt_or_ge a b with hlt | hge
 ·exact Aic (d:=b - a - 1) (a:=a) (by omega) (by rw [h];congr 1;omega)
 ·exact Aic (d:=a - b - 1) (a:=b) (by omega) (by rw [<- h];congr 1;omega)
theorem ARn {n:Nat} {F:Nat->Nat->Int} {a b:Nat} (ha:a < n) (hb:b < n) (hab:a≠b):det n (AHi F a b)= -det n F:=
  Aer ha hb hab fun _ h=>AOs ha hb hab h
theorem Ajw {n:Nat} {F:Nat->Nat->Int} {r:Nat} (u:Nat->Int) (c:Int) (hr:r < n):det n (ADz F r fun q=>c * u q)=c * det n (ADz F r u):=by
 have:=AT3 (F:=F) u (fun _=>0) c 0 hr;rw [show (fun q=>c * u q + 0 * (fun _:Nat=>(0:Int)) q)=fun q=>c * u q from by funext q;omega] at this;rw [this];omega
theorem AXa {n:Nat} {F:Nat->Nat->Int} {r:Nat} (hr:r < n) (h:∀ q,q < n->F r q=0):det n F=0:=by
 have:=Ajw (F:=F) (F r) 0 hr;rw [Int.zero_mul] at this;rw [<- this]
 exact AD5 fun i j hi hj=>by
   unfold ADz
   split
   · rename_i he;subst he;rw [h j hj];simp
   · rfl
theorem ANe {n:Nat} {F:Nat->Nat->Int} {a b:Nat} (ha:a < n) (hb:b < n) (hab:a≠b) (q:Int):det n (ADz F a fun x=>F a x + q * F b x)=det n F:=by
 have:=AT3 (F:=F) (F a) (F b) 1 q ha;rw [AOr,AOs (F:=ADz F a (F b)) ha hb hab (by rw [ADq,AFq _ _ (Ne.symm hab)])] at this;rw [show (fun x=>F a x + q * F b x)=fun x=>1 * F a x + q * F b x from by funext x;omega,this];omega
theorem Aae {n:Nat} {F:Nat->Nat->Int} {r:Nat} (hr:r < n) (y:Nat->Int) (u:Nat->Nat->Int):∀ t,det n (ADz F r fun q=>psum (fun k=>y k * u k q) t)=psum (fun k=>y k * det n (ADz F r (u k))) t:=by
 intro t
 induction t with
 | zero=>exact AXa hr fun q _=>by rw [ADq];rfl
 | succ t ih=>
   have:=AT3 (F:=F) (fun q=>psum (fun k=>y k * u k q) t) (u t) 1 (y t) hr
   simp only [psum]
   rw [<- ih,show (fun q=>psum (fun k=>y k * u k q) t + y t * u t q)=fun q=>1 * psum (fun k=>y k * u k q) t + y t * u t q from by funext q;omega,this];omega
theorem Am1 {n:Nat} {F:Nat->Nat->Int} {r:Nat} (hr:r < n) (y:Nat->Int):det n (ADz F r fun q=>psum (fun k=>y k * F k q) n)=y r * det n F:=by
  rw [Aae hr y F n,ADc (g:=fun k=>if k=r then y r * det n F else 0),ALs hr (fun i hi=>if_neg hi),if_pos rfl];intro k hk
  by_cases h:k=r
  · subst h;rw [if_pos rfl,AOr]
  · rw [if_neg h,AOs (F:=ADz F r (F k)) hr hk (Ne.symm h) (by rw [ADq,AFq _ _ h])];simp
def AH7 (f:Nat->Int):Nat->Int
  | 0=>1
  | n + 1=>AH7 f n * f n
theorem AYn (f:Nat->Int) (n:Nat):AH7 f (n + 1)=f 0 * AH7 (fun i=>f (i + 1)) n:=by
 induction n with
 | zero=>simp [AH7]
 | succ n ih=>rw [AH7,ih,AH7];grind
theorem AYo {f g:Nat->Int} {n:Nat} (h:∀ i,i < n->f i=g i):AH7 f n=AH7 g n:=by
 induction n with
 | zero=>rfl
 | succ n ih=>rw [AH7,AH7,ih (fun i hi=>h i (by omega)),h n (by omega)]
theorem AS7:∀ {n:Nat} {F:Nat->Nat->Int},Zc n F n->det n F=AH7 (fun i=>F i i) n:=by
 intro n
 induction n with
 | zero=>intro _ _;rfl
 | succ n ih=>
   intro F h
   rw [AYn,det,ADc (g:=fun i=>if i=0 then F 0 0 * det n (AGp 0 F) else 0),ALs (a:=0) (by omega) (fun i hi=>if_neg hi),if_pos rfl]
   · rw [ih (F:=AGp 0 F) (fun c' i h1 h2 h3=>by unfold AGp skp;rw [if_neg (by omega)];exact h (c' + 1) (i + 1) (by omega) (by omega) (by omega))]
     rfl
   · intro i hi
     by_cases h0:i=0
     · subst h0;simp [sg]
     · rw [if_neg h0,h 0 i (by omega) (by omega) hi];simp
theorem Abv:∀ {n:Nat} {F:Nat->Nat->Int},(∀ i j,i < j->j < n->F i j=0)->det n F=AH7 (fun i=>F i i) n:=by
 intro n
 induction n with
 | zero=>intro _ _;rfl
 | succ n ih=>
   intro F h
   rw [AYn,det,ADc (g:=fun i=>if i=0 then F 0 0 * det n (AGp 0 F) else 0),ALs (a:=0) (by omega) (fun i hi=>if_neg hi),if_pos rfl]
   · rw [ih (F:=AGp 0 F) (fun i j h1 h2=>by unfold AGp skp;rw [if_neg (by omega)];exact h (i + 1) (j + 1) (by omega) (by omega))]
     rfl
   · intro i hi
     by_cases h0:i=0
     · subst h0;simp [sg]
     · rw [if_neg h0,AXa (F:=AGp i F) (r:=0) (by omega) (fun q hq=>by unfold AGp skp;rw [if_pos (by omega)];exact h 0 (q + 1) (by omega) (by omega))];simp
def AV1 (F:Nat->Nat->Int) (c i:Nat) (q:Int):Nat->Nat->Int:=AHi (ADz F c fun x=>F c x + -q * F i x) c i
theorem Aid (F:Nat->Nat->Int) {c i:Nat} (q:Int):AV1 F c i q i=fun x=>F c x + -q * F i x:=by
 unfold AV1;rw [AZv,ADq]
theorem Ap4 (F:Nat->Nat->Int) {c i:Nat} (h:c≠i) (q:Int):AV1 F c i q c=F i:=by
 unfold AV1;rw [AVc,AFq _ _ (Ne.symm h)]
theorem Aes (F:Nat->Nat->Int) {c i k:Nat} (hc:k≠c) (hi:k≠i) (q:Int):AV1 F c i q k=F k:=by
 unfold AV1;rw [AWv _ hc hi,AFq _ _ hc]
theorem Am2 {n:Nat} {F:Nat->Nat->Int} {c i:Nat} {q:Int} (H:Zc n F c) (hci:c < i) (hi:i < n):Zc n (AV1 F c i q) c:=by
 intro c' k h1 h2 h3;by_cases hk:k=i
 ·subst hk;rw [Aid];simp [H c' c h1 h1 (by omega),H c' k h1 h2 h3]
 ·by_cases Ad:k=c
  ·subst Ad;rw [Ap4 F hk];exact H c' i h1 (by omega) hi
  ·rw [Aes F Ad hk];exact H c' k h1 h2 h3
theorem Am3 {F:Nat->Nat->Int} {c i:Nat} {q:Int} (H:Zi F c i):Zi (AV1 F c i q) c i:=by
 intro k h1 h2;rw [Aes F (by omega) (by omega)];exact H k h1 h2
theorem Aie {n:Nat} {P:(Nat->Nat->Int)->Prop} (hadd:∀ F a b q,a < n->b < n->a≠b->P (ADz F a fun x=>F a x + q * F b x)->P F) (hswap:∀ F a b,a < n->b < n->a≠b->P (AHi F a b)->P F) (htri:∀ F,Zc n F n->P F):∀ F,P F:=by
  have key:∀ d c,c + d=n-> ∀ F,Zc n F c->P F:=by
    intro d;induction d with
    | zero=>
        intro c hc F hF;obtain rfl:c=n:=by omega
        exact htri F hF
    | succ d ih=>
      intro c hc
      have inner:∀ e i,i + e=n->c < i-> ∀ F,Zc n F c->Zi F c i->P F:=by
        intro e;induction e with
        | zero=>
            intro i hi hci F hF hz;obtain rfl:i=n:=by omega
            exact ih (c + 1) (by omega) F (Aho hF hz)
        | succ e ihe=>
          intro i hi hci
          have strong:∀ k F,(F i c).natAbs=k->Zc n F c->Zi F c i->P F:=by
            intro k;induction k using Nat.strongRecOn with
            | _ k ihk=>
              intro F hk hF hz
              by_cases h0:F i c=0
              · exact ihe (i + 1) (by omega) (by omega) F hF (Ahn hz h0)
              · refine hadd F c i (-(F c c / F i c)) (by omega) (by omega) (by omega) (hswap _ c i (by omega) (by omega) (by omega) ?_);refine ihk ((AV1 F c i (F c c / F i c)) i c).natAbs ?_ (AV1 F c i (F c c / F i c)) rfl (Am2 hF hci (by omega)) (Am3 hz);rw [Aid,<- hk];show (F c c + -(F c c / F i c) * F i c).natAbs < _;have h1:=Int.mul_ediv_add_emod (F c c) (F i c);have h2:F c c + -(F c c / F i c) * F i c=F c c % F i c:=by grind
                rw [h2];have h3:=Int.emod_nonneg (F c c) h0;have h4:=Int.emod_lt (F c c) h0;omega
          exact fun F=>strong _ F rfl
      exact fun F hF=>inner (n - (c + 1)) (c + 1) (by omega) (by omega) F hF fun k h1 h2=>by omega
  exact fun F=>key n 0 (by omega) F fun c' i h=>by omega
def AF3 (n:Nat) (A B:Nat->Nat->Int):Nat->Nat->Int:=fun i j=>psum (fun k=>A i k * B k j) n
theorem Am4 {n:Nat} {A B:Nat->Nat->Int} {a b:Nat} {q:Int}:AF3 n (ADz A a fun x=>A a x + q * A b x) B=ADz (AF3 n A B) a fun x=>AF3 n A B a x + q * AF3 n A B b x:=by
 funext i j;unfold AF3 ADz;by_cases h:i=a
 ·simp only [if_pos h];rw [<- AIh,<- AN9];exact ADc fun k _=>by grind
 ·simp only [if_neg h]
theorem Aet {n:Nat} {A B:Nat->Nat->Int} {a:Nat} {u:Nat->Int}:AF3 n (ADz A a u) B=ADz (AF3 n A B) a fun x=>psum (fun k=>u k * B k x) n:=by
 funext i j;unfold AF3 ADz;by_cases h:i=a
 ·simp only [if_pos h]
 ·simp only [if_neg h]
theorem Ajx {n:Nat} {A B:Nat->Nat->Int} {a b:Nat}:AF3 n (AHi A a b) B=AHi (AF3 n A B) a b:=by
 unfold AHi;rw [Aet,Aet];rfl
theorem AY7 {n:Nat} (A B:Nat->Nat->Int):det n (AF3 n A B)=det n A * det n B:=by
 refine Aie (n:=n) (P:=fun A=>det n (AF3 n A B)=det n A * det n B) (fun F a b q ha hb hab h=>?_) (fun F a b ha hb hab h=>?_) (fun F hF=>?_) A
 ·rw [Am4,ANe ha hb hab,ANe ha hb hab] at h;exact h
 ·rw [Ajx,ARn ha hb hab,ARn ha hb hab] at h;rw [Int.neg_mul] at h;omega
 ·rw [AS7 hF]
  have key:∀ j,j<=n->det n (fun i=>if i < j then AF3 n F B i else B i)=AH7 (fun i=>F i i) j * det n B:=by
    intro j
    induction j with
    | zero=>intro _;simp [AH7]
    | succ j ih=>
      intro hj
      rw [AH7,Int.mul_assoc,Int.mul_comm (F j j),<- Int.mul_assoc,<- ih (by omega),Int.mul_comm]
      rw [<- Am1 (F:=fun i=>if i < j then AF3 n F B i else B i) (r:=j) (by omega) (F j)]
      refine AD5 fun i q hi hq=>?_
      unfold ADz
      by_cases h:i=j
      · subst h
        simp only [if_pos (Nat.lt_succ_self i),if_pos]
        unfold AF3
        refine ADc fun k hk=>?_
        by_cases hlt:k < i
        · rw [hF k i (by omega) hlt hi];simp
        · rw [if_neg hlt]
      · simp only [if_neg h]
        by_cases hlt:i < j
        · rw [if_pos hlt,if_pos (by omega)]
        · rw [if_neg hlt,if_neg (by omega)]
  rw [<- key n (Nat.le_refl _)];exact AD5 fun i j hi hj=>by rw [if_pos hi]
def trF (F:Nat->Nat->Int):Nat->Nat->Int:=fun i j=>F j i
theorem Am5 (n:Nat):det n dl=1:=by
 rw [AS7 (fun c' i h1 h2 h3=>by unfold dl;rw [if_neg (by omega)])]
 have:∀ k,AH7 (fun i=>dl i i) k=1:=by
   intro k
   induction k with
   | zero=>rfl
   | succ k ih=>rw [AH7,ih];simp [dl]
 exact this n
theorem Am6 {n:Nat} {F:Nat->Nat->Int} {i j:Nat} (hj:j < n):psum (fun k=>F i k * dl k j) n=F i j:=by
 rw [ALs hj (fun k hk=>by unfold dl;rw [if_neg hk];simp)];simp [dl]
theorem Agt {n:Nat} {F:Nat->Nat->Int} {a:Nat} (y:Nat->Int) (ha:a < n):det n (trF (ADz F a fun x=>psum (fun k=>y k * F k x) n))=det n (trF F) * det n (trF (ADz dl a y)):=by
  rw [<- AY7];refine AD5 fun i j hi hj=>?_;unfold AF3 trF ADz
  by_cases h:j=a
  · simp only [if_pos h];exact ADc fun k _=>by grind
  · simp only [if_neg h];rw [ALs hj (fun k hk=>by unfold dl;rw [if_neg (Ne.symm hk)];simp)];simp [dl]
theorem ARp {n:Nat} (F:Nat->Nat->Int):det n (trF F)=det n F:=by
 refine Aie (n:=n) (P:=fun F=>det n (trF F)=det n F) (fun F a b q ha hb hab h=>?_) (fun F a b ha hb hab h=>?_) (fun F hF=>?_) F
 ·rw [ANe ha hb hab] at h;rw [<- h];have h1:=Agt (n:=n) (F:=F) (a:=a) (fun k=>dl k a + q * dl k b) ha
  have h2:det n (trF (ADz dl a fun k=>dl k a + q * dl k b))=1:=by
    rw [<- Am5 n,<- ANe (F:=dl) hb ha (Ne.symm hab) q]
    refine AD5 fun i j hi hj=>?_
    clear h1 h
    simp only [trF,ADf,dl]
    grind
  rw [h2,Int.mul_one] at h1;rw [<- h1];refine AD5 fun i j hi hj=>?_;unfold trF ADz;by_cases hja:j=a
  ·simp only [if_pos hja];rw [ADc (g:=fun k=>F k i * dl k a + q * (F k i * dl k b)) (fun k _=>by grind),AN9,AIh];rw [ALs (a:=a) ha (fun k hk=>by unfold dl;rw [if_neg hk];simp),ALs (a:=b) hb (fun k hk=>by unfold dl;rw [if_neg hk];simp)];simp [dl]
  ·simp only [if_neg hja]
 ·rw [ARn ha hb hab] at h
  have h1:det n (trF (AHi F a b))=det n (trF F) * det n (AHi dl a b):=by
    rw [<- AY7]
    refine AD5 fun i j hi hj=>?_
    unfold AF3 trF
    have hsym:∀ k,AHi dl a b k j=if j=a then dl k b else if j=b then dl k a else dl k j:=by
      intro k
      simp only [ALt,dl]
      grind
    rw [ADc (g:=fun k=>F k i * dl k (if j=a then b else if j=b then a else j)) (fun k _=>by rw [hsym];grind)]
    rw [ALs (a:=if j=a then b else if j=b then a else j) (by grind) (fun k hk=>by unfold dl;rw [if_neg hk];simp)]
    simp only [dl,if_pos,Int.mul_one]
    by_cases h3:j=a
    · subst h3;rw [AVc,if_pos rfl]
    · rw [if_neg h3]
      by_cases h4:j=b
      · subst h4;rw [AZv,if_pos rfl]
      · rw [AWv _ h3 h4,if_neg h4]
  rw [ARn ha hb hab,Am5] at h1;omega
 ·rw [AS7 hF,Abv (F:=trF F) (fun i j h1 h2=>hF i j (by omega) h1 h2)];rfl
def shF (k:Nat) (F:Nat->Nat->Int):Nat->Nat->Int:=fun i j=>F (k + i) (k + j)
theorem Abw {i k a:Nat} (h:i < k + 1):skp i (k + a)=k + 1 + a:=by unfold skp;rw [if_neg (by omega)];omega
theorem AX6:∀ {k m:Nat} {T:Nat->Nat->Int},(∀ i j,k<=i->i < k + m->j < k->T i j=0)->det (k + m) T=det k T * det m (shF k T):=by
  intro k;induction k with
  | zero=>
    intro m T _;have e:shF 0 T=T:=by funext i j;simp [shF]
    rw [e,Nat.zero_add];simp [det]
  | succ k ih=>
    intro m T h;rw [show k + 1 + m=(k + m) + 1 by omega];simp only [det];rw [Amy (k:=k + 1) (by omega) (fun i h1 h2=>by rw [h i 0 h1 (by omega) (by omega)];simp)];rw [Int.mul_comm,<- AIh];refine ADc fun i hi=>?_
    rw [ih (T:=AGp i T) (m:=m) (fun a b ha ha2 hb=>by
      obtain ⟨c,rfl⟩:∃ c,a=k + c:=⟨a - k,by omega⟩;unfold AGp;rw [Abw hi];exact h _ _ (by omega) (by omega) (by omega))]
    have e:shF k (AGp i T)=shF (k + 1) T:=by
      funext a b;unfold shF AGp;rw [Abw hi,show k + b + 1=k + 1 + b by omega]
    rw [e];grind
theorem Ac7 {n:Nat} {F:Nat->Nat->Int} (h:∀ i,i < n + 1->F i 0=0):det (n + 1) F=0:=by
 simp only [det];rw [ADc (g:=fun _=>0) fun i hi=>by rw [h i hi];simp];exact AQy _
theorem Aeu {n:Nat} {F:Nat->Nat->Int} {a b:Nat} (ha:a < n) (hb:b < n) (hab:a≠b) (h:∀ i,F i a=F i b):det n F=0:=by
 rw [<- ARp];exact AOs ha hb hab (by funext i;exact h i)
theorem Ap5 (F:Nat->Nat->Int):det 2 F=F 0 0 * F 1 1 - F 1 0 * F 0 1:=by
 simp [det,psum,AGp,skp,sg];grind
def bro (k i r:Nat):Nat:=if r < k then r else i
def Mn (k:Nat) (A:Nat->Nat->Int) (i j:Nat):Int:=det (k + 1) fun r c=>A (bro k i r) (bro k j c)
theorem AO9 (A:Nat->Nat->Int) (i j:Nat):Mn 0 A i j=A i j:=by
 simp [Mn,det,psum,bro,sg]
theorem ALh (k:Nat) (A:Nat->Nat->Int):Mn k A k k=det (k + 1) A:=by
 refine AD5 fun r c hr hc=>?_;have e:∀ r,r < k + 1->bro k k r=r:=fun r hr=>by unfold bro;split <;> omega
 rw [e r hr,e c hc]
theorem Arm {k:Nat} (A:Nat->Nat->Int) (i:Nat) {j:Nat} (hj:j < k):Mn k A i j=0:=by
 refine Aeu (a:=j) (b:=k) (by omega) (by omega) (by omega) fun r=>?_;unfold bro;simp [hj]
def cof (k:Nat) (A:Nat->Nat->Int) (i s:Nat):Int:=det (k + 1) (ADz (fun c r=>A (bro k i r) c) k (dl s))
theorem Ac8 {n:Nat} (f:Nat->Int) {q:Nat} (hq:q < n):psum (fun s=>f s * dl s q) n=f q:=by
 rw [ALs hq (fun i hi=>by unfold dl;rw [if_neg hi,Int.mul_zero])];simp [dl]
theorem Ass (k:Nat) (A:Nat->Nat->Int) (i j:Nat):Mn k A i j=psum (fun s=>cof k A i s * A s j) k + det k A * A i j:=by
 have h1:Mn k A i j=det (k + 1) (ADz (fun c r=>A (bro k i r) c) k fun q=>psum (fun s=>A (bro k i s) j * dl s q) (k + 1)):=by
   unfold Mn
   rw [<- ARp]
   refine AD5 fun c r hc hr=>?_
   rw [ADf,Ac8 _ hr]
   unfold trF
   split
   · subst_vars;simp [bro]
   · have:c < k:=by omega
     simp [bro,this]
 rw [h1,Aae (by omega)]
 have hk:det (k + 1) (ADz (fun c r=>A (bro k i r) c) k (dl k))=det k A:=by
   rw [AX6 (k:=k) (m:=1) (T:=ADz (fun c r=>A (bro k i r) c) k (dl k)) (fun a b h1 h2 h3=>by
     obtain rfl:a=k:=by omega
     rw [ADf,if_pos rfl];unfold dl;rw [if_neg (by omega)])]
   have e1:det k (ADz (fun c r=>A (bro k i r) c) k (dl k))=det k A:=by
     rw [<- ARp]
     refine AD5 fun r c hr hc=>?_
     unfold trF
     rw [ADf,if_neg (by omega)]
     simp [bro,hr]
   have e2:det 1 (shF k (ADz (fun c r=>A (bro k i r) c) k (dl k)))=1:=by
     simp [det,psum,shF,sg,ADf,dl]
   rw [e1,e2,Int.mul_one]
 show psum (fun s=>A (bro k i s) j * det (k + 1) (ADz (fun c r=>A (bro k i r) c) k (dl s))) k + A (bro k i k) j * det (k + 1) (ADz (fun c r=>A (bro k i r) c) k (dl k))=_;rw [hk];congr 1
 ·refine ADc fun s hs=>?_;show _=cof k A i s * A s j;unfold cof;rw [Int.mul_comm];simp [bro,hs]
 ·simp [bro,Int.mul_comm]
theorem Aev (f:Nat->Int) (k m:Nat):AH7 f (k + m)=AH7 f k * AH7 (fun i=>f (k + i)) m:=by
 induction m with
 | zero=>simp [AH7]
 | succ m ih=>rw [<- Nat.add_assoc];simp only [AH7];rw [ih];grind
theorem Abx {f:Nat->Int}:∀ {n:Nat},(∀ i,i < n->f i=1)->AH7 f n=1
  | 0,_=>rfl
  | n + 1,h=>by rw [AH7,Abx fun i hi=>h i (by omega),h n (by omega)];rfl
theorem Aew {f:Nat->Int}:∀ {n:Nat},(∀ i,i < n->f i≠0)->AH7 f n≠0
  | 0,_=>by simp [AH7]
  | n + 1,h=>by rw [AH7];exact Int.mul_ne_zero (Aew fun i hi=>h i (by omega)) (h n (by omega))
def AUh (k:Nat) (A:Nat->Nat->Int) (ρ:Nat->Nat):Nat->Nat->Int:=fun r s=>if r < k then dl r s else if s < k then cof k A (ρ r) s else if s=r then det k A else 0
theorem Aex {k n:Nat} {A B:Nat->Nat->Int} {ρ γ:Nat->Nat} (hkn:k<=n) (hρ:∀ r,r < k->ρ r=r) (hB:∀ r c,B r c=A (ρ r) (γ c)) {r c:Nat} (hr:r < n):AF3 n (AUh k A ρ) B r c=if r < k then B r c else Mn k A (ρ r) (γ c):=by
 unfold AF3;by_cases h:r < k
 ·rw [if_pos h,ALs hr (fun i hi=>by unfold AUh;rw [if_pos h];unfold dl;rw [if_neg (fun e=>hi e.symm),Int.zero_mul])];unfold AUh;rw [if_pos h];simp [dl]
 ·rw [if_neg h,Ass];obtain ⟨m,rfl⟩:∃ m,n=k + m:=⟨n - k,by omega⟩
  have hs:∀ t,psum (fun s=>AUh k A ρ r s * B s c) (k + t)=psum (fun s=>cof k A (ρ r) s * A s (γ c)) k + (if r < k + t then det k A * A (ρ r) (γ c) else 0):=by
    intro t
    induction t with
    | zero=>
      rw [if_neg (by omega),Int.add_zero,Nat.add_zero]
      refine ADc fun s hs=>?_
      unfold AUh
      rw [if_neg h,if_pos hs,hB,hρ s hs]
    | succ t ih=>
      show psum (fun s=>AUh k A ρ r s * B s c) (k + t) + AUh k A ρ r (k + t) * B (k + t) c=_
      rw [ih]
      have e:AUh k A ρ r (k + t)=if k + t=r then det k A else 0:=by unfold AUh;rw [if_neg h,if_neg (by omega)]
      rw [e,hB]
      rcases Nat.lt_trichotomy r (k + t) with h1 | h1 | h1
      · rw [if_pos h1,if_neg (by omega),if_pos (by omega)];simp
      · subst h1;rw [if_neg (by omega),if_pos rfl,if_pos (by omega)];omega
      · rw [if_neg (by omega),if_neg (by omega),if_neg (by omega)];simp
  rw [hs,if_pos hr]
theorem Aey {k m:Nat} {A:Nat->Nat->Int} {ρ:Nat->Nat}:det (k + m) (AUh k A ρ)=AH7 (fun _=>det k A) m:=by
 rw [Abv (fun i j hij hj=>by
   unfold AUh
   split
   · unfold dl;rw [if_neg (by omega)]
   · rw [if_neg (by omega),if_neg (by omega)]),Aev,Abx,Int.one_mul]
 ·refine AYo fun i hi=>?_;unfold AUh;rw [if_neg (by omega),if_neg (by omega),if_pos rfl]
 ·intro i hi;unfold AUh;rw [if_pos hi];simp [dl]
theorem AVm {k:Nat} {A:Nat->Nat->Int} (h0:det k A≠0) (i j:Nat):Mn k A k k * Mn k A i j - Mn k A i k * Mn k A k j=det k A * Mn (k + 1) A i j:=by
  have h1:=AY7 (n:=k + 2) (AUh k A (bro (k + 1) i)) fun r c=>A (bro (k + 1) i r) (bro (k + 1) j c)
  have hm:∀ r c,r < k + 2->AF3 (k + 2) (AUh k A (bro (k + 1) i)) (fun r c=>A (bro (k + 1) i r) (bro (k + 1) j c)) r c=if r < k then A (bro (k + 1) i r) (bro (k + 1) j c) else Mn k A (bro (k + 1) i r) (bro (k + 1) j c):=fun r c hr=>
    Aex (k:=k) (n:=k + 2) (A:=A) (B:=fun r c=>A (bro (k + 1) i r) (bro (k + 1) j c)) (ρ:=bro (k + 1) i) (γ:=bro (k + 1) j) (by omega) (fun r hr=>by unfold bro;rw [if_pos (by omega)]) (fun r c=>rfl) hr
  rw [Aey,AX6 (k:=k) (m:=2) (fun a b ha ha2 hb=>by
    rw [hm a b ha2,if_neg (by omega),show bro (k + 1) j b=b by unfold bro;rw [if_pos (by omega)]];exact Arm _ _ hb)] at h1
  have e1:det k (AF3 (k + 2) (AUh k A (bro (k + 1) i)) fun r c=>A (bro (k + 1) i r) (bro (k + 1) j c))=det k A:=by
    refine AD5 fun r c hr hc=>?_;rw [hm r c (by omega),if_pos hr];simp only [bro];rw [if_pos (by omega),if_pos (by omega)]
  have b0:∀ q,bro (k + 1) q (k + 0)=k:=fun q=>by unfold bro;rw [if_pos (by omega)];rfl
  have b1:∀ q,bro (k + 1) q (k + 1)=q:=fun q=>by unfold bro;rw [if_neg (by omega)]
  rw [e1,Ap5] at h1;simp only [shF] at h1;rw [hm _ _ (by omega),hm _ _ (by omega),hm _ _ (by omega),hm _ _ (by omega),if_neg (by omega),if_neg (by omega),if_neg (by omega),if_neg (by omega),b0,b0,b1,b1] at h1;have e2:AH7 (fun _=>det k A) 2=det k A * det k A:=by simp [AH7]
  have e3:(det (k + 2) fun r c=>A (bro (k + 1) i r) (bro (k + 1) j c))=Mn (k + 1) A i j:=rfl;rw [e2,e3,Int.mul_assoc] at h1;exact Int.eq_of_mul_eq_mul_left h0 h1
theorem Aez {k n:Nat} {A:Nat->Nat->Int} (h0:det k A≠0) (hk:k < n) (hz:∀ i,k<=i->i < n->Mn k A i k=0):det n A=0:=by
  obtain ⟨m,rfl⟩:∃ m,n=k + (m + 1):=⟨n - k - 1,by omega⟩;have h1:=AY7 (n:=k + (m + 1)) (AUh k A id) A
  have hm:∀ r c,r < k + (m + 1)->AF3 (k + (m + 1)) (AUh k A id) A r c=if r < k then A r c else Mn k A r c:=fun r c hr=>
    Aex (k:=k) (n:=k + (m + 1)) (A:=A) (B:=A) (ρ:=id) (γ:=id) (by omega) (fun r hr=>rfl) (fun r c=>rfl) hr
  rw [Aey,AX6 (k:=k) (m:=m + 1) (fun a b ha ha2 hb=>by rw [hm a b ha2,if_neg (by omega)];exact Arm _ _ hb),Ac7 (F:=shF k _) (fun i hi=>by
    unfold shF;rw [hm _ _ (by omega),if_neg (by omega)];exact hz _ (by omega) (by omega)),Int.mul_zero] at h1
  rcases Int.mul_eq_zero.1 h1.symm with h2 | h2
  · exact absurd h2 (Aew fun i hi=>h0)
  · exact h2
def dBd (m:Nat):Nat->Nat
  | 0=>1
  | n + 1=>(n + 1) * m * dBd m n
theorem psum_abs {f:Nat->Int} {B:Nat}:∀ {n:Nat},(∀ i,i < n->(f i).natAbs<=B)->(psum f n).natAbs<=n * B
  | 0,_=>by simp [psum]
  | n + 1,h=>by
    have h1:=psum_abs (n:=n) fun i hi=>h i (by omega)
    have h2:=h n (by omega)
    have h3:=Int.natAbs_add_le (psum f n) (f n)
    show (psum f n + f n).natAbs<=_
    rw [Nat.add_mul,Nat.one_mul]
    omega
theorem AXb {m:Nat}:∀ {n:Nat} {F:Nat->Nat->Int},(∀ i j,(F i j).natAbs<=m)->(det n F).natAbs<=dBd m n
  | 0,_,_=>by simp [det,dBd]
  | n + 1,F,h=>by
    have h1:=psum_abs (f:=fun i=>sg i * F i 0 * det n (AGp i F)) (B:=m * dBd m n) (n:=n + 1) fun i hi=>by
      have e:=AXb (n:=n) (F:=AGp i F) fun a b=>h _ _
      have es:(sg i).natAbs=1:=by unfold sg;split <;> rfl
      rw [Int.natAbs_mul,Int.natAbs_mul,es,Nat.one_mul]
      exact Nat.mul_le_mul (h i 0) e
    rw [dBd,Nat.mul_assoc]
    exact h1
theorem Ap6 {k n p:Nat} {A:Nat->Nat->Int} (hp:k < p) {i j:Nat} (hi:k<=i):Mn k (AHi A p k) i j=Mn k A (if i=k then p else if i=p then k else i) j:=by
 refine AD5 fun r c hr hc=>?_;rw [ALt];unfold bro;by_cases h:r < k
 ·rw [if_pos h,if_pos h,if_neg (by omega),if_neg (by omega)]
 ·rw [if_neg h,if_neg h];split
  ·rfl
  ·split <;> rfl
theorem Ac9 {k p:Nat} {A:Nat->Nat->Int} (hp:k < p):det k (AHi A p k)=det k A:=by
 refine AD5 fun r c hr hc=>?_;rw [ALt,if_neg (by omega),if_neg (by omega)]
def sgB (neg:Bool):Int:=if neg then -1 else 1
def AVu (m:Nat) (A0:Nat->Nat->Int) (n k:Nat) (F:Nat->Nat->Int) (last:Int) (neg:Bool):Prop:=
  ∃ A:Nat->Nat->Int,det n A=sgB neg * det n A0/\(∀ i j,k<=i->i < n->k<=j->j < n->F i j=Mn k A i j)/\last=det k A/\last≠0/\ ∀ i j,(A i j).natAbs<=m
theorem Aaf {m n:Nat} {A0:Nat->Nat->Int} (h:∀ i j,(A0 i j).natAbs<=m):AVu m A0 n 0 A0 1 false:=
  ⟨A0,by simp [sgB],fun i j _ _ _ _=>(AO9 A0 i j).symm,rfl,by decide,h⟩
theorem Aby {m n k p:Nat} {A0 F:Nat->Nat->Int} {last:Int} {neg:Bool} (H:AVu m A0 n k F last neg) (hkp:k < p) (hp:p < n):AVu m A0 n k (AHi F p k) last (!neg):=by
 obtain ⟨A,h1,h2,h3,h4,h5⟩:=H;refine ⟨AHi A p k,?_,fun i j hi hin hj hjn=>?_,by rw [Ac9 hkp];exact h3,h4,fun i j=>?_⟩
 ·rw [ARn hp (by omega) (by omega),h1];cases neg <;> simp [sgB]
 ·rw [Ap6 (n:=n) hkp hi,ALt];split
  ·rw [h2 p j (by omega) hp hj hjn]
  ·split
   ·rw [h2 k j (by omega) (by omega) hj hjn]
   ·rw [h2 i j hi hin hj hjn]
 ·rw [ALt];split
  ·exact h5 _ _
  ·split <;> exact h5 _ _
def bQ (k:Nat) (F:Nat->Nat->Int) (last:Int) (r c:Nat):Int:=(F k k * F r c - F r k * F k c) / last
def bF (k:Nat) (F:Nat->Nat->Int) (last:Int) (i j:Nat):Nat->Nat->Int:=fun r c=>if k < r/\k < c/\(r < i∨r=i/\c < j) then bQ k F last r c else F r c
theorem Aag (k:Nat) (F:Nat->Nat->Int) (last:Int):bF k F last (k + 1) (k + 1)=F:=by
 funext r c;unfold bF;rw [if_neg (by omega)]
theorem Agu (k n:Nat) (F:Nat->Nat->Int) (last:Int) (i:Nat) {r c:Nat} (hc:c < n):bF k F last i n r c=bF k F last (i + 1) (k + 1) r c:=by
 unfold bF;by_cases h:k < r/\k < c/\(r < i∨r=i/\c < n)
 ·rw [if_pos h,if_pos (by omega)]
 ·rw [if_neg h,if_neg (by omega)]
theorem Agv (k:Nat) (F:Nat->Nat->Int) (last:Int) {i j:Nat} (hi:k < i) (hj:k < j):(ADz (bF k F last i j) i fun c=>if c=j then bQ k F last i j else bF k F last i j i c)=bF k F last i (j + 1):=by
 funext r c;rw [ADf];split
 ·subst_vars
  split
  ·subst_vars;unfold bF;rw [if_pos (by omega)]
  ·unfold bF;by_cases h:k < r/\k < c/\(r < r∨r=r/\c < j)
   ·rw [if_pos h,if_pos (by omega)]
   ·rw [if_neg h,if_neg (by omega)]
 ·unfold bF;by_cases h:k < r/\k < c/\(r < i∨r=i/\c < j)
  ·rw [if_pos h,if_pos (by omega)]
  ·rw [if_neg h,if_neg (by omega)]
theorem Aah (k:Nat) (F:Nat->Nat->Int) (last:Int) (i j c:Nat):bF k F last i j k c=F k c:=by unfold bF;rw [if_neg (by omega)]
theorem Am8 (k:Nat) (F:Nat->Nat->Int) (last:Int) (i j r:Nat):bF k F last i j r k=F r k:=by unfold bF;rw [if_neg (by omega)]
theorem Am9 (k:Nat) (F:Nat->Nat->Int) (last:Int) (i j:Nat):bF k F last i j i j=F i j:=by unfold bF;rw [if_neg (by omega)]
theorem Arn {m n k:Nat} {A0 F:Nat->Nat->Int} {last:Int} {neg:Bool} (H:AVu m A0 n k F last neg) (hk:k < n):∃ A,(∀ i j,(A i j).natAbs<=m)/\det n A=sgB neg * det n A0/\F k k=det (k + 1) A/\ ∀ i j,k<=i->i < n->k<=j->j < n->F i j=Mn k A i j/\bQ k F last i j=Mn (k + 1) A i j:=by
 obtain ⟨A,h1,h2,h3,h4,h5⟩:=H;refine ⟨A,h5,h1,by rw [h2 k k (by omega) hk (by omega) hk,ALh],fun i j hi hin hj hjn=>⟨h2 i j hi hin hj hjn,?_⟩⟩;unfold bQ;rw [h2 k k (by omega) hk (by omega) hk,h2 i j hi hin hj hjn,h2 i k hi hin (by omega) hk,h2 k j (by omega) hk hj hjn,AVm (by rw [<- h3];exact h4),<- h3,Int.mul_ediv_cancel_left _ h4]
theorem Abz {m n k:Nat} {A0 F:Nat->Nat->Int} {last:Int} {neg:Bool} (H:AVu m A0 n k F last neg) (hk:k < n) (h0:F k k≠0):AVu m A0 n (k + 1) (bF k F last n (k + 1)) (F k k) neg:=by
 obtain ⟨A,h5,h1,h6,h2⟩:=Arn H hk;refine ⟨A,h1,fun i j hi hin hj hjn=>?_,h6,h0,h5⟩;unfold bF;rw [if_pos (by omega)];exact (h2 i j (by omega) hin (by omega) hjn).2
theorem Ab0 {m n k:Nat} {A0 F:Nat->Nat->Int} {last:Int} {neg:Bool} (H:AVu m A0 n k F last neg) (hk:k < n) (hz:∀ i,k<=i->i < n->F i k=0):det n A0=0:=by
 obtain ⟨A,h1,h2,h3,h4,h5⟩:=H;have h:=Aez (A:=A) (by rw [<- h3];exact h4) hk fun i hi hin=>by rw [<- h2 i k hi hin (by omega) hk];exact hz i hi hin
 rw [h1] at h;rcases Int.mul_eq_zero.1 h with h6 | h6
 ·cases neg <;> simp [sgB] at h6
 ·exact h6
theorem Ae0 {m n:Nat} {A0 F:Nat->Nat->Int} {last:Int} {neg:Bool} (H:AVu m A0 n n F last neg):det n A0=if neg then -last else last:=by
 obtain ⟨A,h1,h2,h3,h4,h5⟩:=H;rw [<- h3] at h1;rw [h1];cases neg
 ·simp [sgB]
 ·simp [sgB]
theorem Agw {m k:Nat} {A:Nat->Nat->Int} (h:∀ i j,(A i j).natAbs<=m) (i j:Nat):(Mn k A i j).natAbs<=dBd m (k + 1):=AXb fun r c=>h _ _
theorem APa {m:Nat} (hm:1<=m) {a b:Nat} (h:a<=b):dBd m a<=dBd m b:=by
 induction h with
 | refl=>exact Nat.le_refl _
 | step h ih=>
   refine Nat.le_trans ih ?_
   rw [dBd]
   exact Nat.le_mul_of_pos_left _ (Nat.mul_pos (by omega) (by omega))
theorem Ae1 {m n k:Nat} {A0 F:Nat->Nat->Int} {last:Int} {neg:Bool} (hm:1<=m) (H:AVu m A0 n k F last neg) (hk:k < n) {i j:Nat} (hi:k<=i) (hin:i < n) (hj:k<=j) (hjn:j < n):(F i j).natAbs<=dBd m n/\(bQ k F last i j).natAbs<=dBd m (n + 1):=by
  obtain ⟨A,h5,h1,h6,h2⟩:=Arn H hk;obtain ⟨h7,h8⟩:=h2 i j hi hin hj hjn;rw [h7,h8];exact ⟨Nat.le_trans (Agw h5 _ _) (APa hm (by omega)),Nat.le_trans (Agw h5 _ _) (APa hm (by omega))⟩
theorem Ab1 {m n k:Nat} {A0 F:Nat->Nat->Int} {last:Int} {neg:Bool} (hm:1<=m) (H:AVu m A0 n k F last neg) (hk:k<=n):last≠0/\last.natAbs<=dBd m n:=by
 obtain ⟨A,h1,h2,h3,h4,h5⟩:=H;exact ⟨h4,by rw [h3];exact Nat.le_trans (AXb h5) (APa hm hk)⟩
end Go.QF
namespace Go.Proofs.YtdnbklmefmoofaaGreatDoor
open Go Go.QF
theorem Ap7 {α:Type} {i n:Nat} {a b c:α} (h:i < n):(List.replicate i a ++ List.replicate (n - i) b).set i c=List.replicate i a ++ (c :: List.replicate (n - i - 1) b):=by
 rw [List.set_append_right _ _ (by simp),List.length_replicate,Nat.sub_self,show n - i=(n - i - 1) + 1 by omega,List.replicate_succ];rfl
theorem AY8 {fuel n m:Nat} (hn:n<=100000000) (hm:m<=100000000) (hf:n < fuel):AE4 fuel n m=some (List.replicate n (List.replicate m 0)):=by
 apply ok_eq;unfold AE4;refine AEa (by omega) (ABs (AC4 (fun i s=>s=((i:Int),List.replicate i (List.replicate m 0) ++ List.replicate (n - i) [])) n (Q:=(· =List.replicate n (List.replicate m 0))) (by simp) hf fun i s hi hI=>?_) fun x hx=>ABn hx);subst hI;unfold ALm;dsimp only;rw [List.length_replicate,Int.toNat_natCast];refine AB8 (fun h=>AEa (by omega) (ACg (n:=i) (x:=[]) ?_ rfl (ABn ⟨by omega,?_⟩))) (fun h=>ABn ?_)
 ·rw [List.getElem?_append_right (by simp),List.length_replicate,Nat.sub_self,List.getElem?_replicate,if_pos (by omega)]
 ·rw [wk (by omega),ADu,Int.toNat_natCast,Ap7 (by omega)];congr 1;rw [show n - (i + 1)=n - i - 1 by omega,List.replicate_succ'];simp
 ·obtain rfl:i=n:=by omega
  simp
theorem Ada {α:Type} {A:List (List α)} {i:Nat} {row:List α} (hi:i < A.length):(A.take i ++ row :: List.replicate (A.length - i - 1) []).set i=fun r=>A.take i ++ r :: List.replicate (A.length - i - 1) []:=by
 funext r;rw [List.set_append_right _ _ (by simp;omega),List.length_take,Nat.min_eq_left (by omega),Nat.sub_self];rfl
theorem Adb {fuel:Nat} {A:List (List Int)} (hn:A.length<=100000000) (hm:∀ z∈A,z.length<=100000000/\z.length < fuel) (hf:A.length < fuel):AHk fuel A=some A:=by
 apply ok_eq;unfold AHk;refine AEa (by omega) (ABs (AC4 (fun i s=>s=((i:Int),A.take i ++ List.replicate (A.length - i) [])) A.length (Q:=(· =A)) (by simp) hf fun i s hi hI=>?_) fun x hx=>ABn hx);subst hI;unfold ALo;dsimp only;refine AB8 (fun h=>?_) (fun h=>ABn ?_)
 ·have hi':i < A.length:=by omega
  obtain ⟨row,hrow⟩:∃ row,A[i]? =some row:=⟨A[i],List.getElem?_eq_getElem hi'⟩;have hr:=hm row (List.mem_of_getElem? hrow);refine ACg hrow rfl (ABs (AC4 (fun j s=>s=((j:Int),A.take i ++ row.take j :: List.replicate (A.length - i - 1) [])) row.length (Q:=(· =A.take i ++ row :: List.replicate (A.length - i - 1) [])) ?_ hr.2 fun j s hj hJ=>?_) fun x hx=>ABn ⟨hi',?_⟩)
  ·rw [show A.length - i=(A.length - i - 1) + 1 by omega,List.replicate_succ];simp
  ·subst hJ;unfold ALn;dsimp only;refine AB8 (fun h2=>?_) (fun h2=>ABn ?_)
   ·obtain ⟨x,hx⟩:∃ x,row[j]? =some x:=⟨row[j]'(by omega),List.getElem?_eq_getElem _⟩;refine ACg hx rfl (ACg (n:=i) (x:=row.take j) ?_ rfl (ABs (Q:=(· =x)) ⟨x,rfl,rfl⟩ fun y hy=>AEa ?_ (ABn ⟨by omega,?_⟩)))
    ·rw [List.getElem?_append_right (by simp;omega),List.length_take,Nat.min_eq_left (by omega),Nat.sub_self];rfl
    ·rw [List.length_take];omega
    ·subst hy;rw [wk (by omega),ADu,Ada hi',List.take_add_one,hx];rfl
   ·obtain rfl:j=row.length:=by omega
    rw [List.take_length]
  ·subst hx;rw [wk (by omega),List.take_add_one,hrow,show A.length - (i + 1)=A.length - i - 1 by omega];simp
 ·obtain rfl:i=A.length:=by omega
  simp
def okM (A:List (List Int)):Bool:=decide (1<=A.length/\A.length<=16/\ ∀ z∈A,1<=z.length/\z.length<=16/\z.length=ANr A)
theorem AQ0 {A:List (List Int)} {z:List Int} (h:A[0]? =some z):ANr A=z.length:=by unfold ANr;rw [h];rfl
theorem AYp {fuel:Nat} {A:List (List Int)} (hr:∀ z∈A,∀ x∈z,-9223372036854775808<=x/\x<=9223372036854775807) (hf:17 < fuel):AD4 fuel A=some (if okM A then (A,true) else ([],false)):=by
 apply ok_eq;unfold AD4
 have key:∀ R:List (List Int) × Bool->Prop,(okM A=false->R ([],false))->(okM A=true->R (A,true))->Ok (AD4 fuel A) R:=by
   intro R hF hT
   unfold AD4
   refine ABs (Q:=fun ex=>match ex with | .inl e=>e=([],false)/\okM A=false | .inr _=>1<=A.length/\A.length<=16) (AB8 (fun h=>ABn ⟨rfl,by unfold okM;rw [decide_eq_false_iff_not];omega⟩) fun h=>AB8 (fun h2=>ABn ⟨rfl,by unfold okM;rw [decide_eq_false_iff_not];omega⟩) fun h2=>ABn ⟨by omega,by omega⟩) fun ex hex=>?_
   cases ex with
   | inl e=>obtain ⟨rfl,h⟩:=hex;exact ABn (hF h)
   | inr u=>
     dsimp only at hex ⊢
     obtain ⟨z0,Ab⟩:∃ z,A[0]? =some z:=⟨A[0]'(by omega),List.getElem?_eq_getElem _⟩
     have hc:=AQ0 Ab
     refine ABs (AC4 (fun i (s:Int)=>s=(i:Int)/\ ∀ z∈A.take i,1<=z.length/\z.length<=16/\z.length=ANr A) A.length (Q:=fun ex=>match ex with | .inl e=>e=([],false)/\okM A=false | .inr _=>okM A=true) ⟨rfl,by simp⟩ (by omega) fun i s hi hI=>?_) fun ex Ac=>?_
     · obtain ⟨rfl,hI⟩:=hI
       unfold AJh
       refine AB8 (fun h=>?_) (fun h=>ABn ?_)
       · have hi':i < A.length:=by omega
         obtain ⟨row,hrow⟩:∃ row,A[i]? =some row:=⟨A[i],List.getElem?_eq_getElem hi'⟩
         have bad: ¬ (1<=row.length/\row.length<=16/\row.length=ANr A)->okM A=false:=fun hb=>by
           unfold okM;rw [decide_eq_false_iff_not];exact fun h=>hb (h.2.2 row (List.mem_of_getElem? hrow))
         refine ACg hrow rfl (AB8 (fun h1=>ABn ⟨rfl,bad (by omega)⟩) fun h1=>AB8 (fun h2=>ABn ⟨rfl,bad (by omega)⟩) fun h2=>ACg Ab rfl (AB8 (fun h3=>ABn ⟨rfl,bad (by omega)⟩) fun h3=>ABn ⟨hi',wk (by omega),?_⟩))
         rw [List.take_add_one,hrow]
         intro z hz
         rcases List.mem_append.1 hz with hz | hz
         · exact hI z hz
         · rw [show z=row by simpa using hz];omega
       · obtain rfl:i=A.length:=by omega
         rw [List.take_length] at hI
         unfold okM;rw [decide_eq_true_eq];exact ⟨hex.1,hex.2,hI⟩
     · cases ex with
       | inl e=>obtain ⟨rfl,h⟩:=Ac;exact ABn (hF h)
       | inr u=>
         dsimp only at Ac ⊢
         have hv:=Ac
         unfold okM at hv;rw [decide_eq_true_eq] at hv
         have hcA:∀ z∈A,z.length=ANr A:=fun z hz=>(hv.2.2 z hz).2.2
         have Ag:1<=ANr A/\ANr A<=16:=by have:=hv.2.2 z0 (List.mem_of_getElem? Ab);omega
         refine ACg Ab rfl (ABs (AC2 (AY8 (by omega) (by omega) (by omega))) fun O hO=>?_)
         subst hO
         rw [<- hc]
         refine ABs (AC4 (fun i s=>s=((i:Int),A.take i ++ List.replicate (A.length - i) (List.replicate (ANr A) 0))) A.length (Q:=(· =A)) (by simp) (by omega) fun i s hi hI=>?_) fun x hx=>ABn (hx ▸ hT Ac)
         subst hI
         unfold AJg
         dsimp only
         refine AB8 (fun h=>?_) (fun h=>ABn ?_)
         · have hi':i < A.length:=by omega
           obtain ⟨row,hrow⟩:∃ row,A[i]? =some row:=⟨A[i],List.getElem?_eq_getElem hi'⟩
           have hrl:=hcA row (List.mem_of_getElem? hrow)
           refine ACg hrow rfl (ABs (AC4 (fun j s=>s=((j:Int),A.take i ++ (row.take j ++ List.replicate (ANr A - j) 0) :: List.replicate (A.length - i - 1) (List.replicate (ANr A) 0))) row.length (Q:=(· =A.take i ++ row :: List.replicate (A.length - i - 1) (List.replicate (ANr A) 0))) ?_ (by omega) fun j s hj hJ=>?_) fun x hx=>ABn ⟨hi',?_⟩)
           · rw [show A.length - i=(A.length - i - 1) + 1 by omega,List.replicate_succ];simp
           · subst hJ
             unfold AJf
             dsimp only
             refine AB8 (fun h2=>?_) (fun h2=>ABn ?_)
             · obtain ⟨x,hx⟩:∃ x,row[j]? =some x:=⟨row[j]'(by omega),List.getElem?_eq_getElem _⟩
               have hxr:=hr row (List.mem_of_getElem? hrow) x (List.mem_of_getElem? hx)
               refine ACg (n:=i) (x:=row.take j ++ List.replicate (ANr A - j) 0) ?_ rfl (ACg hrow rfl (ACg hx rfl (ABs (Q:=(· =x)) ⟨x,if_pos hxr,rfl⟩ fun y hy=>ACg (n:=j) (x:=0) ?_ rfl (ABn ⟨by omega,?_⟩))))
               · rw [List.getElem?_append_right (by simp;omega),List.length_take,Nat.min_eq_left (by omega),Nat.sub_self];rfl
               · rw [List.getElem?_append_right (by simp;omega),List.length_take,Nat.min_eq_left (by omega),Nat.sub_self,List.getElem?_replicate,if_pos (by omega)]
               · subst hy
                 rw [wk (by omega),ADu,ADu]
                 congr 1
                 rw [List.set_append_right _ _ (by simp;omega),List.length_take,Nat.min_eq_left (by omega),Nat.sub_self,List.set_cons_zero]
                 congr 2
                 rw [List.set_append_right _ _ (by simp;omega),List.length_take,Nat.min_eq_left (by omega),Nat.sub_self,show ANr A - j=(ANr A - (j + 1)) + 1 by omega,List.replicate_succ,List.set_cons_zero,List.take_add_one,hx]
                 simp
             · obtain rfl:j=row.length:=by omega
               rw [List.take_length,show ANr A - row.length=0 by omega];simp
           · subst hx
             rw [wk (by omega),List.take_add_one,hrow,show A.length - (i + 1)=A.length - i - 1 by omega]
             simp
         · obtain rfl:i=A.length:=by omega
           simp
 have:=key (fun r=>r=if okM A then (A,true) else ([],false)) (fun h=>by rw [h];rfl) (fun h=>by rw [h];rfl);unfold AD4 at this;exact this
theorem Aro {fuel:Nat} {A:List (List Int)} (hr:∀ z∈A,∀ x∈z,-9223372036854775808<=x/\x<=9223372036854775807) (hf:17 < fuel):AE9 fuel A=some (if okM A then A else []):=by
 unfold AE9;rw [AYp hr hf];cases okM A <;> rfl
def m63:Nat:=9223372036854775808
def AT4:Nat:=dBd m63 17
theorem Adc:2 * (AT4 * AT4) < AE3:=by decide
theorem Ana:1<=AT4:=by decide
theorem Aai {a b:Nat} (ha:a<=AT4) (hb:b<=AT4):a * b < AE3:=by
 have:=Nat.mul_le_mul ha hb;have:=Adc;omega
theorem Anb {a:Nat} (ha:a<=AT4):a < AE3:=by
 have h1:=Adc;have h2:=Nat.mul_le_mul Ana (Nat.le_refl AT4);omega
theorem Anc {n:Nat} (hn:n<=16):dBd m63 n<=AT4/\dBd m63 (n + 1)<=AT4:=⟨APa (by decide) (by omega),APa (by decide) (by omega)⟩
theorem AXc {z:Int}:AG9 z=0↔z=0:=by
 unfold AG9;split
 ·omega
 ·split <;> omega
theorem Ae2 {fuel:Nat} {a b:Int} (ha:a.natAbs<=AT4) (hb:b.natAbs<=AT4):ARi fuel a b=some (a * b):=if_pos (Aai ha hb)
theorem Ae3 {a b:Int} (ha:a.natAbs<=AT4) (hb:b.natAbs<=AT4):(a * b).natAbs < AE3:=by rw [Int.natAbs_mul];exact Aai ha hb
theorem Ap9 {a b c d:Int} (ha:a.natAbs<=AT4) (hb:b.natAbs<=AT4) (hc:c.natAbs<=AT4) (hd:d.natAbs<=AT4):(a * b - c * d).natAbs < AE3:=by
 have h1:=Nat.mul_le_mul ha hb;have h2:=Nat.mul_le_mul hc hd;rw [<- Int.natAbs_mul] at h1 h2;have:=Adc;omega
theorem AWf {r c i j:Nat} {F:Nat->Nat->Int} {x:Int}:sI (tab r c F) (i:Int) (sI (AEj c (F i)) (j:Int) x)=tab r c (ADz F i fun q=>if q=j then x else F i q):=by
 rw [ADu,ADu,AFs];exact Amw
theorem Asu {fuel n:Nat} {F:Nat->Nat->Int} (hn:n<=16) (hb:∀ i j,(F i j).natAbs<=m63) (hf:17 < fuel):AC6 fuel (tab n n F)=some (det n F):=by
 apply ok_eq;unfold AC6;refine ABs (AC2 (Adb (by rw [ACt];omega) (fun z hz=>by rw [AWu z hz];omega) (by rw [ACt];omega))) fun A hA=>?_;subst hA;refine ABs (Q:=(· =1)) ⟨1,if_pos (by omega),rfl⟩ fun one h1=>?_;subst h1;obtain ⟨hD,Ap⟩:=Anc hn;refine ABs (AC4 (fun k s=> ∃ G last neg,s=(neg,((k:Int),tab n n G,last))/\AVu m63 F n k G last neg) n (Q:=fun ex=>match ex with | .inl e=>e=det n F | .inr (neg,last)=>det n F=if neg then -last else last) ⟨F,1,false,rfl,Aaf hb⟩ (by omega) fun k s hk hI=>?_) fun ex hex=>?_
 ·obtain ⟨G,last,neg,rfl,hB⟩:=hI;unfold AGc;dsimp only;rw [ACt];refine AB8 (fun h=>?_) (fun h=>ABn ?_)
  ·have hk':k < n:=by omega
   refine ABs (Q:=fun ex=>match ex with | .inl e=>e=det n F | .inr (neg',a',last')=> ∃ G',a'=tab n n G'/\AVu m63 F n (k + 1) G' last' neg') ?_ fun ex hex=>?_
   ·refine ABs (Q:=fun (e:Int)=> ∃ p:Nat,e=p/\k<=p/\p<=n/\(∀ i,k<=i->i < p->G i k=0)/\(p < n->G p k≠0)) (ABs (AC4 (fun j (s:Int)=>s=((k + j:Nat):Int)/\k + j<=n/\ ∀ i,k<=i->i < k + j->G i k=0) (n - k) (Q:=fun (e:Int)=> ∃ p:Nat,e=p/\k<=p/\p<=n/\(∀ i,k<=i->i < p->G i k=0)/\(p < n->G p k≠0)) ⟨rfl,by omega,fun i h1 h2=>by omega⟩ (by omega) fun j s hj hJ=>?_) fun e he=>ABn he) fun e he=>?_
    ·obtain ⟨rfl,hjn,hz⟩:=hJ;unfold AF9;rw [ACt];refine ABs (Q:=fun ex=>match ex with | .inl _=>k + j < n/\G (k + j) k=0 | .inr _=>k + j < n->G (k + j) k≠0) (AB8 (fun h2=>ACg (ACv (by omega)) rfl (ACg (ACp (by omega)) rfl (ABs (AC2 (a:=AG9 (G (k + j) k)) rfl) fun sg hsg=>AB8 (fun h3=>ABn ⟨by omega,?_⟩) fun h3=>ABn fun _=>?_))) fun h2=>ABn fun h3=>by omega) fun ex hex=>?_
     ·subst hsg;exact AXc.1 h3
     ·subst hsg;exact fun h4=>h3 (AXc.2 h4)
     ·cases ex with
      | inl u=>exact ABn ⟨by omega,by rw [wk (by omega)];omega,by omega,fun i h1 h2=>by
          rcases Nat.lt_or_ge i (k + j) with h3 | h3
          · exact hz i h1 h3
          · obtain rfl:i=k + j:=by omega
            exact hex.2⟩
      | inr u=>exact ABn ⟨k + j,rfl,by omega,hjn,hz,hex⟩
    ·obtain ⟨p,rfl,hkp,hpn,hz,hp⟩:=he;refine AB8 (fun h2=>ABn ?_) (fun h2=>?_)
     ·obtain rfl:p=n:=by omega
      exact (Ab0 hB hk' hz).symm
     ·have hp':p < n:=by omega
      refine ABs (Q:=fun (r:Bool × List (List Int))=> ∃ G',r.2=tab n n G'/\AVu m63 F n k G' last r.1/\G' k k≠0) (AB8 (fun h3=>ACg (ACv (by omega)) rfl (ACg (ACv (by omega)) rfl (ABn ⟨AHi G p k,?_,Aby hB (by omega) hp',?_⟩))) fun h3=>ABn ⟨G,rfl,hB,?_⟩) fun r hr=>?_
      ·dsimp only;rw [ADu,ADu];show ((tab n n G).set p (AEj n (G k))).set k (AEj n (G p))=_;rw [show AEj n (G k)=(List.range n).map (G k) from rfl,show AEj n (G p)=(List.range n).map (G p) from rfl,ALl,ALl];rfl
      ·rw [ALt,if_pos rfl];exact hp hp'
      ·obtain rfl:p=k:=by omega
       exact hp hp'
      ·obtain ⟨Aq,a2⟩:=r;obtain ⟨G2,Ag,Af,hne⟩:=hr;dsimp only at Ag Af ⊢;subst Ag;have hlast:=Ab1 (by decide) Af (by omega);have habs:∀ i j,k<=i->i < n->k<=j->j < n->(G2 i j).natAbs<=AT4:=fun i j h1 h2 h3 h4=>Nat.le_trans (Ae1 (by decide) Af hk' h1 h2 h3 h4).1 hD;have hl':last.natAbs<=AT4:=Nat.le_trans hlast.2 hD;rw [wk (by omega)];refine ABs (AC4 (fun i s=>s=(((k + 1 + i:Nat):Int),tab n n (bF k G2 last (k + 1 + i) (k + 1)))/\k + 1 + i<=n) (n - (k + 1)) (Q:=(· =tab n n (bF k G2 last n (k + 1)))) ⟨by rw [Nat.add_zero,Aag];simp,by omega⟩ (by omega) fun i s hi hI=>?_) fun a3 Ah=>?_
       ·obtain ⟨rfl,hin⟩:=hI;unfold AGb;dsimp only;rw [ACt];obtain ⟨q,hq⟩:∃ q,k + 1 + i=q:=⟨_,rfl⟩;rw [hq] at hin ⊢;refine AB8 (fun h3=>?_) (fun h3=>ABn ?_)
        ·have hqn:q < n:=by omega
         rw [wk (by omega)];refine ABs (AC4 (fun j s=>s=(((k + 1 + j:Nat):Int),tab n n (bF k G2 last q (k + 1 + j)))/\k + 1 + j<=n) (n - (k + 1)) (Q:=(· =tab n n (bF k G2 last q n))) ⟨by simp,by omega⟩ (by omega) fun j s hj hJ=>?_) fun a4 Ai=>ABn ?_
         ·obtain ⟨rfl,hjn⟩:=hJ;unfold AGa;dsimp only;rw [ACt];obtain ⟨c,hc⟩:∃ c,k + 1 + j=c:=⟨_,rfl⟩;rw [hc] at hjn ⊢;refine AB8 (fun h4=>?_) (fun h4=>ABn ?_)
          ·have hcn:c < n:=by omega
           refine ACg (ACv hqn) rfl (ACg (ACv hk') rfl (ACg (ACp hk') rfl (ACg (ACp hcn) rfl ?_)));rw [Aah,Am9];refine ABs (AC2 (Ae2 (habs _ _ (by omega) (by omega) (by omega) (by omega)) (habs _ _ (by omega) (by omega) (by omega) (by omega)))) fun x1 Aj=>ACg (ACp hk') rfl (ACg (ACp hcn) rfl ?_);subst Aj;rw [Am8,Aah];refine ABs (AC2 (Ae2 (habs _ _ (by omega) (by omega) (by omega) (by omega)) (habs _ _ (by omega) (by omega) (by omega) (by omega)))) fun x2 Ak=>?_;subst Ak;refine ABs (Q:=(· =G2 k k * G2 q c - G2 q k * G2 k c)) ⟨_,if_pos ⟨Ae3 (habs _ _ (by omega) (by omega) (by omega) (by omega)) (habs _ _ (by omega) (by omega) (by omega) (by omega)),Ae3 (habs _ _ (by omega) (by omega) (by omega) (by omega)) (habs _ _ (by omega) (by omega) (by omega) (by omega))⟩,rfl⟩ fun x3 Am=>?_
           ·subst Am;refine ABs (Q:=(· =bQ k G2 last q c)) ?_ fun x4 Ao=>ABn ⟨by omega,?_,by omega⟩
            ·unfold AEm AS3;rw [if_pos ⟨Ap9 (habs _ _ (by omega) (by omega) (by omega) (by omega)) (habs _ _ (by omega) (by omega) (by omega) (by omega)) (habs _ _ (by omega) (by omega) (by omega) (by omega)) (habs _ _ (by omega) (by omega) (by omega) (by omega)),Anb hl',hlast.1⟩];exact ⟨_,rfl,rfl⟩
            ·subst Ao;rw [wk (by omega),AWf,Agv k G2 last (by omega) (by omega)];congr 1
             ·omega
             ·rw [<- Nat.add_assoc,hc]
          ·obtain rfl:c=n:=by omega
           rfl
         ·subst Ai;refine ⟨by omega,?_,by omega⟩;rw [wk (by omega)];congr 1
          ·omega
          ·refine AVb fun r c hr hc=>?_;rw [Agu k n G2 last q hc,<- Nat.add_assoc,hq]
        ·obtain rfl:q=n:=by omega
         rfl
       ·subst Ah;refine ACg (ACv hk') rfl (ACg (ACp hk') rfl (ABn ⟨_,rfl,?_⟩));rw [Aah];exact Abz Af hk' hne
   ·match ex,hex with
    | .inl e,hex=>exact ABn hex
    | .inr (neg',a',last'),hex=>
      obtain ⟨G',rfl,hB'⟩:=hex
      exact ABn ⟨hk',G',last',neg',by rw [wk (by omega)];rfl,hB'⟩
  ·obtain rfl:k=n:=by omega
   exact Ae0 hB
 ·match ex,hex with
  | .inl e,hex=>exact ABn hex
  | .inr (neg,last),hex=>
    dsimp only at hex ⊢
    rw [hex]
    refine AB8 (fun h=>ABs (AC2 (a:= -last) rfl) fun x hx=>ABn ?_) (fun h=>ABn ?_)
    · rw [hx,h];rfl
    · rw [if_neg h]
theorem AYq {a b D:Nat} (hG:2 * (D * D) < AE3) (ha:a<=D) (hb:b<=D):a * b < AE3:=by
 have:=Nat.mul_le_mul ha hb;omega
theorem Aqa {a D:Nat} (hG:2 * (D * D) < AE3) (ha:a<=D):a < AE3:=by
 rcases Nat.eq_zero_or_pos D with h | h
 ·subst h;have:0 < AE3:=by decide
  omega
 ·have h2:=Nat.mul_le_mul h (Nat.le_refl D);omega
theorem AX7 {fuel D:Nat} {a b:Int} (hG:2 * (D * D) < AE3) (ha:a.natAbs<=D) (hb:b.natAbs<=D):ARi fuel a b=some (a * b):=if_pos (AYq hG ha hb)
theorem Ab2 {D:Nat} {a b:Int} (hG:2 * (D * D) < AE3) (ha:a.natAbs<=D) (hb:b.natAbs<=D):(a * b).natAbs < AE3:=by rw [Int.natAbs_mul];exact AYq hG ha hb
theorem Ane {D:Nat} {a b c d:Int} (hG:2 * (D * D) < AE3) (ha:a.natAbs<=D) (hb:b.natAbs<=D) (hc:c.natAbs<=D) (hd:d.natAbs<=D):(a * b - c * d).natAbs < AE3:=by
 have h1:=Nat.mul_le_mul ha hb;have h2:=Nat.mul_le_mul hc hd;rw [<- Int.natAbs_mul] at h1 h2;omega
theorem Aqb {fuel n M N:Nat} {F:Nat->Nat->Int} (hM:1<=M) (hG:2 * (dBd M (N + 1) * dBd M (N + 1)) < AE3) (hnN:n<=N) (hn:n<=16) (hb:∀ i j,(F i j).natAbs<=M) (hf:17 < fuel):AC6 fuel (tab n n F)=some (det n F):=by
 apply ok_eq;unfold AC6;refine ABs (AC2 (Adb (by rw [ACt];omega) (fun z hz=>by rw [AWu z hz];omega) (by rw [ACt];omega))) fun A hA=>?_;subst hA;refine ABs (Q:=(· =1)) ⟨1,if_pos (by omega),rfl⟩ fun one h1=>?_;subst h1;have hD:dBd M n<=dBd M (N + 1):=APa hM (by omega);have Ap:dBd M (n + 1)<=dBd M (N + 1):=APa hM (by omega);refine ABs (AC4 (fun k s=> ∃ G last neg,s=(neg,((k:Int),tab n n G,last))/\AVu M F n k G last neg) n (Q:=fun ex=>match ex with | .inl e=>e=det n F | .inr (neg,last)=>det n F=if neg then -last else last) ⟨F,1,false,rfl,Aaf hb⟩ (by omega) fun k s hk hI=>?_) fun ex hex=>?_
 ·obtain ⟨G,last,neg,rfl,hB⟩:=hI;unfold AGc;dsimp only;rw [ACt];refine AB8 (fun h=>?_) (fun h=>ABn ?_)
  ·have hk':k < n:=by omega
   refine ABs (Q:=fun ex=>match ex with | .inl e=>e=det n F | .inr (neg',a',last')=> ∃ G',a'=tab n n G'/\AVu M F n (k + 1) G' last' neg') ?_ fun ex hex=>?_
   ·refine ABs (Q:=fun (e:Int)=> ∃ p:Nat,e=p/\k<=p/\p<=n/\(∀ i,k<=i->i < p->G i k=0)/\(p < n->G p k≠0)) (ABs (AC4 (fun j (s:Int)=>s=((k + j:Nat):Int)/\k + j<=n/\ ∀ i,k<=i->i < k + j->G i k=0) (n - k) (Q:=fun (e:Int)=> ∃ p:Nat,e=p/\k<=p/\p<=n/\(∀ i,k<=i->i < p->G i k=0)/\(p < n->G p k≠0)) ⟨rfl,by omega,fun i h1 h2=>by omega⟩ (by omega) fun j s hj hJ=>?_) fun e he=>ABn he) fun e he=>?_
    ·obtain ⟨rfl,hjn,hz⟩:=hJ;unfold AF9;rw [ACt];refine ABs (Q:=fun ex=>match ex with | .inl _=>k + j < n/\G (k + j) k=0 | .inr _=>k + j < n->G (k + j) k≠0) (AB8 (fun h2=>ACg (ACv (by omega)) rfl (ACg (ACp (by omega)) rfl (ABs (AC2 (a:=AG9 (G (k + j) k)) rfl) fun sg hsg=>AB8 (fun h3=>ABn ⟨by omega,?_⟩) fun h3=>ABn fun _=>?_))) fun h2=>ABn fun h3=>by omega) fun ex hex=>?_
     ·subst hsg;exact AXc.1 h3
     ·subst hsg;exact fun h4=>h3 (AXc.2 h4)
     ·cases ex with
      | inl u=>exact ABn ⟨by omega,by rw [wk (by omega)];omega,by omega,fun i h1 h2=>by
          rcases Nat.lt_or_ge i (k + j) with h3 | h3
          · exact hz i h1 h3
          · obtain rfl:i=k + j:=by omega
            exact hex.2⟩
      | inr u=>exact ABn ⟨k + j,rfl,by omega,hjn,hz,hex⟩
    ·obtain ⟨p,rfl,hkp,hpn,hz,hp⟩:=he;refine AB8 (fun h2=>ABn ?_) (fun h2=>?_)
     ·obtain rfl:p=n:=by omega
      exact (Ab0 hB hk' hz).symm
     ·have hp':p < n:=by omega
      refine ABs (Q:=fun (r:Bool × List (List Int))=> ∃ G',r.2=tab n n G'/\AVu M F n k G' last r.1/\G' k k≠0) (AB8 (fun h3=>ACg (ACv (by omega)) rfl (ACg (ACv (by omega)) rfl (ABn ⟨AHi G p k,?_,Aby hB (by omega) hp',?_⟩))) fun h3=>ABn ⟨G,rfl,hB,?_⟩) fun r hr=>?_
      ·dsimp only;rw [ADu,ADu];show ((tab n n G).set p (AEj n (G k))).set k (AEj n (G p))=_;rw [show AEj n (G k)=(List.range n).map (G k) from rfl,show AEj n (G p)=(List.range n).map (G p) from rfl,ALl,ALl];rfl
      ·rw [ALt,if_pos rfl];exact hp hp'
      ·obtain rfl:p=k:=by omega
       exact hp hp'
      ·obtain ⟨Aq,a2⟩:=r;obtain ⟨G2,Ag,Af,hne⟩:=hr;dsimp only at Ag Af ⊢;subst Ag;have hlast:=Ab1 hM Af (by omega);have habs:∀ i j,k<=i->i < n->k<=j->j < n->(G2 i j).natAbs<=dBd M (N + 1):=fun i j h1 h2 h3 h4=>Nat.le_trans (Ae1 hM Af hk' h1 h2 h3 h4).1 hD;have hl':last.natAbs<=dBd M (N + 1):=Nat.le_trans hlast.2 hD;rw [wk (by omega)];refine ABs (AC4 (fun i s=>s=(((k + 1 + i:Nat):Int),tab n n (bF k G2 last (k + 1 + i) (k + 1)))/\k + 1 + i<=n) (n - (k + 1)) (Q:=(· =tab n n (bF k G2 last n (k + 1)))) ⟨by rw [Nat.add_zero,Aag];simp,by omega⟩ (by omega) fun i s hi hI=>?_) fun a3 Ah=>?_
       ·obtain ⟨rfl,hin⟩:=hI;unfold AGb;dsimp only;rw [ACt];obtain ⟨q,hq⟩:∃ q,k + 1 + i=q:=⟨_,rfl⟩;rw [hq] at hin ⊢;refine AB8 (fun h3=>?_) (fun h3=>ABn ?_)
        ·have hqn:q < n:=by omega
         rw [wk (by omega)];refine ABs (AC4 (fun j s=>s=(((k + 1 + j:Nat):Int),tab n n (bF k G2 last q (k + 1 + j)))/\k + 1 + j<=n) (n - (k + 1)) (Q:=(· =tab n n (bF k G2 last q n))) ⟨by simp,by omega⟩ (by omega) fun j s hj hJ=>?_) fun a4 Ai=>ABn ?_
         ·obtain ⟨rfl,hjn⟩:=hJ;unfold AGa;dsimp only;rw [ACt];obtain ⟨c,hc⟩:∃ c,k + 1 + j=c:=⟨_,rfl⟩;rw [hc] at hjn ⊢;refine AB8 (fun h4=>?_) (fun h4=>ABn ?_)
          ·have hcn:c < n:=by omega
           refine ACg (ACv hqn) rfl (ACg (ACv hk') rfl (ACg (ACp hk') rfl (ACg (ACp hcn) rfl ?_)));rw [Aah,Am9];refine ABs (AC2 (AX7 hG (habs _ _ (by omega) (by omega) (by omega) (by omega)) (habs _ _ (by omega) (by omega) (by omega) (by omega)))) fun x1 Aj=>ACg (ACp hk') rfl (ACg (ACp hcn) rfl ?_);subst Aj;rw [Am8,Aah];refine ABs (AC2 (AX7 hG (habs _ _ (by omega) (by omega) (by omega) (by omega)) (habs _ _ (by omega) (by omega) (by omega) (by omega)))) fun x2 Ak=>?_;subst Ak;refine ABs (Q:=(· =G2 k k * G2 q c - G2 q k * G2 k c)) ⟨_,if_pos ⟨Ab2 hG (habs _ _ (by omega) (by omega) (by omega) (by omega)) (habs _ _ (by omega) (by omega) (by omega) (by omega)),Ab2 hG (habs _ _ (by omega) (by omega) (by omega) (by omega)) (habs _ _ (by omega) (by omega) (by omega) (by omega))⟩,rfl⟩ fun x3 Am=>?_
           ·subst Am;refine ABs (Q:=(· =bQ k G2 last q c)) ?_ fun x4 Ao=>ABn ⟨by omega,?_,by omega⟩
            ·unfold AEm AS3;rw [if_pos ⟨Ane hG (habs _ _ (by omega) (by omega) (by omega) (by omega)) (habs _ _ (by omega) (by omega) (by omega) (by omega)) (habs _ _ (by omega) (by omega) (by omega) (by omega)) (habs _ _ (by omega) (by omega) (by omega) (by omega)),Aqa hG hl',hlast.1⟩];exact ⟨_,rfl,rfl⟩
            ·subst Ao;rw [wk (by omega),AWf,Agv k G2 last (by omega) (by omega)];congr 1
             ·omega
             ·rw [<- Nat.add_assoc,hc]
          ·obtain rfl:c=n:=by omega
           rfl
         ·subst Ai;refine ⟨by omega,?_,by omega⟩;rw [wk (by omega)];congr 1
          ·omega
          ·refine AVb fun r c hr hc=>?_;rw [Agu k n G2 last q hc,<- Nat.add_assoc,hq]
        ·obtain rfl:q=n:=by omega
         rfl
       ·subst Ah;refine ACg (ACv hk') rfl (ACg (ACp hk') rfl (ABn ⟨_,rfl,?_⟩));rw [Aah];exact Abz Af hk' hne
   ·match ex,hex with
    | .inl e,hex=>exact ABn hex
    | .inr (neg',a',last'),hex=>
      obtain ⟨G',rfl,hB'⟩:=hex
      exact ABn ⟨hk',G',last',neg',by rw [wk (by omega)];rfl,hB'⟩
  ·obtain rfl:k=n:=by omega
   exact Ae0 hB
 ·match ex,hex with
  | .inl e,hex=>exact ABn hex
  | .inr (neg,last),hex=>
    dsimp only at hex ⊢
    rw [hex]
    refine AB8 (fun h=>ABs (AC2 (a:= -last) rfl) fun x hx=>ABn ?_) (fun h=>ABn ?_)
    · rw [hx,h];rfl
    · rw [if_neg h]
def AH6:Nat:=2 ^ 100
theorem Aif:2 * (dBd AH6 (8 + 1) * dBd AH6 (8 + 1)) < AE3:=by decide
theorem AXd {fuel n:Nat} {F:Nat->Nat->Int} (hn:n<=8) (hb:∀ i j,i < n->j < n->(F i j).natAbs<=AH6) (hf:17 < fuel):AC6 fuel (tab n n F)=some (det n F):=by
 have e1:tab n n F=tab n n fun i j=>if i < n/\j < n then F i j else 0:=by
   rw [AP3,AP3]
   exact ADk fun i hi=>ADk fun j hj=>by rw [if_pos ⟨hi,hj⟩]
 have e2:det n F=det n fun i j=>if i < n/\j < n then F i j else 0:=AD5 fun i j hi hj=>by rw [if_pos ⟨hi,hj⟩]
 rw [e1,e2];refine Aqb (by decide) Aif hn (by omega) (fun i j=>?_) hf;split
 ·next h=>exact hb i j h.1 h.2
 ·exact Nat.zero_le _
theorem Aqc:FdT Tryz.prog 25 0 0 5:=⟨_,_,Tryz.underlying25,rfl,rfl,rfl⟩
theorem Aqd:FdT Tryz.prog 25 1 1 5:=⟨_,_,Tryz.underlying25,rfl,rfl,rfl⟩
theorem Aqe:FdT Tryz.prog 25 2 2 23:=⟨_,_,Tryz.underlying25,rfl,rfl,rfl⟩
theorem Anf:AgT Tryz.prog 25 4:=AV6 Tryz.underlying25 rfl (by kernel_rfl)
end Go.Proofs.YtdnbklmefmoofaaGreatDoor
