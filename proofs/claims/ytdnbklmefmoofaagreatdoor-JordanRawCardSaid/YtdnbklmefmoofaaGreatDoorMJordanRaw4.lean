/-
  Texts of a proof, joined. Conditions stand in each statement.
-/
import Derived.Test.YtdnbklmefmoofaaGreatDoorMJordanRaw3
set_option linter.unusedVariables false
set_option linter.unusedSimpArgs false
namespace Go.Proofs.YtdnbklmefmoofaaGreatDoor
open Go Go.QF
set_option maxRecDepth 100000
set_option maxHeartbeats 4000000
def AGe (fuel:Nat) (a1:Int) (a5:LiA) (Ac Aa Ad:Int) (Ae:LiI):Option ((Int × Int × LiI) ⊕ ((Int × LiI))):=
  (if Aa < ((List.replicate (Int.toNat (w64 (1 + (Int.tmod (w64 a1) Ac)))) ([]:List Int)).length:Int) then (if 0<=(w64 (1 + (Int.tmod (w64 a1) Ac)))/\(w64 (1 + (Int.tmod (w64 a1) Ac)))<=100000000 then ((gI Ae Aa).bind fun Ao=>((gI (sI Ae Aa (List.replicate (Int.toNat (w64 (1 + (Int.tmod (w64 a1) Ac)))) (0:Int))) Aa).bind fun Ag=>(((((if (a5.length:Int)<=Ad then (some ( (0,Ad))) else ((gI a5 (w64 ((w64 (Ad + 1)) - 1))).bind fun Ah=>(some ( ((w64 Ah),(w64 (Ad + 1))))))):Option (Int × Int)).bind fun (Ai,Aj)=>(some ( ((Int.tmod (w64 (IntKind.wrap .u8 Ai)) 6),Aj)))):Option (Int × Int)).bind fun (Ak,Am)=>((gI Ag Aa).bind fun Ap=>(some (Sum.inl ((w64 (Aa + 1)),Am,(sI (sI Ae Aa (List.replicate (Int.toNat (w64 (1 + (Int.tmod (w64 a1) Ac)))) (0:Int))) Aa (sI Ag Aa (w64 (1 + Ak))))))))))) else none) else (some (Sum.inr<| (Ad,Ae))))
def AIk (fuel:Nat) (a5:LiA) (Ab Aa Ac:Int) (Ad:LiI):Option ((Int × Int × LiI) ⊕ ((Int × LiI))):=
  (if Aa < Ab then ((gI Ad Ab).bind fun Ae=>(((if (a5.length:Int)<=Ac then (some ( (0,Ac))) else ((gI a5 (w64 ((w64 (Ac + 1)) - 1))).bind fun Ai=>(some ( ((w64 Ai),(w64 (Ac + 1))))))):Option (Int × Int)).bind fun (Af,Aj)=>((gI Ae Aa).bind fun Ao=>((gI (sI Ad Ab (sI Ae Aa (Int.tmod Af 3))) Aa).bind fun Ah=>((gI (sI Ad Ab (sI Ae Aa (Int.tmod Af 3))) Ab).bind fun Ak=>((gI Ak Aa).bind fun Am=>((gI Ah Ab).bind fun Ap=>(some (Sum.inl ((w64 (Aa + 1)),Aj,(sI (sI Ad Ab (sI Ae Aa (Int.tmod Af 3))) Aa (sI Ah Ab Am)))))))))))) else (some (Sum.inr<| (Ac,Ad))))
def AGf (fuel:Nat) (a5:LiA) (Ae:LiI) (Aa Ab:Int) (Ac:LiI):Option ((Int × Int × LiI) ⊕ ((Int × LiI))):=
  (if Aa < (Ae.length:Int) then ((iter (fun s=>AIk fuel a5 Aa s.1 s.2.1 s.2.2) fuel (0,Ab,Ac)).bind (fun ((Af,Ag):Int × LiI)=>(some (Sum.inl ((w64 (Aa + 1)),Af,Ag))))) else (some (Sum.inr<| (Ab,Ac))))
def AFy (fuel:Nat) (a1:Int) (a5:LiA) (Ac Aa Ad:Int) (Ae:LiI):Option ((Int × Int × LiI) ⊕ ((Int × LiI))):=
  (if Aa < ((List.replicate (Int.toNat (w64 (1 + (Int.tmod (w64 a1) Ac)))) ([]:List Int)).length:Int) then (if 0<=(w64 (1 + (Int.tmod (w64 a1) Ac)))/\(w64 (1 + (Int.tmod (w64 a1) Ac)))<=100000000 then ((gI Ae Aa).bind fun Ao=>((gI (sI Ae Aa (List.replicate (Int.toNat (w64 (1 + (Int.tmod (w64 a1) Ac)))) (0:Int))) Aa).bind fun Ag=>(((((if (a5.length:Int)<=Ad then (some ( (0,Ad))) else ((gI a5 (w64 ((w64 (Ad + 1)) - 1))).bind fun Ah=>(some ( ((w64 Ah),(w64 (Ad + 1))))))):Option (Int × Int)).bind fun (Ai,Aj)=>(some ( ((Int.tmod (w64 (IntKind.wrap .u8 Ai)) 9),Aj)))):Option (Int × Int)).bind fun (Ak,Am)=>((gI Ag Aa).bind fun Ap=>(some (Sum.inl ((w64 (Aa + 1)),Am,(sI (sI Ae Aa (List.replicate (Int.toNat (w64 (1 + (Int.tmod (w64 a1) Ac)))) (0:Int))) Aa (sI Ag Aa (w64 (1 + Ak))))))))))) else none) else (some (Sum.inr<| (Ad,Ae))))
def AFz (fuel:Nat) (a1:Int) (a5:LiA) (Ac Aa Ad:Int) (Ae:LiI):Option ((Int × Int × LiI) ⊕ ((Int × LiI))):=
  (if Aa < ((List.replicate (Int.toNat (w64 (1 + (Int.tmod (w64 a1) Ac)))) ([]:List Int)).length:Int) then (if 0<=(w64 (1 + (Int.tmod (w64 a1) Ac)))/\(w64 (1 + (Int.tmod (w64 a1) Ac)))<=100000000 then ((gI Ae Aa).bind fun Ao=>((gI (sI Ae Aa (List.replicate (Int.toNat (w64 (1 + (Int.tmod (w64 a1) Ac)))) (0:Int))) Aa).bind fun Ag=>(((((if (a5.length:Int)<=Ad then (some ( (0,Ad))) else ((gI a5 (w64 ((w64 (Ad + 1)) - 1))).bind fun Ah=>(some ( ((w64 Ah),(w64 (Ad + 1))))))):Option (Int × Int)).bind fun (Ai,Aj)=>(some ( ((Int.tmod (w64 (IntKind.wrap .u8 Ai)) 1),Aj)))):Option (Int × Int)).bind fun (Ak,Am)=>((gI Ag Aa).bind fun Ap=>(some (Sum.inl ((w64 (Aa + 1)),Am,(sI (sI Ae Aa (List.replicate (Int.toNat (w64 (1 + (Int.tmod (w64 a1) Ac)))) (0:Int))) Aa (sI Ag Aa (w64 (1 + Ak))))))))))) else none) else (some (Sum.inr<| (Ad,Ae))))
def AF0 (fuel:Nat) (a1:Int) (a5:LiA) (Ac Aa Ad:Int) (Ae:LiI):Option ((Int × Int × LiI) ⊕ ((Int × LiI))):=
  (if Aa < ((List.replicate (Int.toNat (w64 (1 + (Int.tmod (w64 a1) Ac)))) ([]:List Int)).length:Int) then (if 0<=(w64 (1 + (Int.tmod (w64 a1) Ac)))/\(w64 (1 + (Int.tmod (w64 a1) Ac)))<=100000000 then ((gI Ae Aa).bind fun Ao=>((gI (sI Ae Aa (List.replicate (Int.toNat (w64 (1 + (Int.tmod (w64 a1) Ac)))) (0:Int))) Aa).bind fun Ag=>(((((if (a5.length:Int)<=Ad then (some ( (0,Ad))) else ((gI a5 (w64 ((w64 (Ad + 1)) - 1))).bind fun Ah=>(some ( ((w64 Ah),(w64 (Ad + 1))))))):Option (Int × Int)).bind fun (Ai,Aj)=>(some ( ((Int.tmod (w64 (IntKind.wrap .u8 Ai)) 2),Aj)))):Option (Int × Int)).bind fun (Ak,Am)=>((gI Ag Aa).bind fun Ap=>(some (Sum.inl ((w64 (Aa + 1)),Am,(sI (sI Ae Aa (List.replicate (Int.toNat (w64 (1 + (Int.tmod (w64 a1) Ac)))) (0:Int))) Aa (sI Ag Aa (w64 (1 + Ak))))))))))) else none) else (some (Sum.inr<| (Ad,Ae))))
def AFt (fuel:Nat) (a1 a2:Int) (a5 a9:LiA) (Aa:Int):Option LiI:=
  (if Aa≠0 then (((((if (Int.tmod a2 8)=0 then (some ( (decide ((Int.tmod a2 8)=0)))) else (if (Int.tmod a2 8)=1 then (some ( (decide ((Int.tmod a2 8)=1)))) else (if (Int.tmod a2 8)=2 then (some ( (decide ((Int.tmod a2 8)=2)))) else (some ( (decide ((Int.tmod a2 8)=3))))))):Option ((Bool))).bind (fun (Ak:Bool)=>(if Ak=true then (((((if 0<=(w64 (1 + (Int.tmod (w64 a1) Aa)))/\(w64 (1 + (Int.tmod (w64 a1) Aa)))<=100000000 then ((iter (fun s=>AGe fuel a1 a5 Aa s.1 s.2.1 s.2.2) fuel (0,0,(List.replicate (Int.toNat (w64 (1 + (Int.tmod (w64 a1) Aa)))) ([]:List Int)))).bind (fun ((Am,Ao):Int × LiI)=>(some ( (Ao,Am))))) else none):Option (LiI × Int)).bind fun (Ae,Ap)=>((iter (fun s=>AGf fuel a5 Ae s.1 s.2.1 s.2.2) fuel (0,Ap,Ae)).bind (fun ((Aq,Ar):Int × LiI)=>(some ( (Ar,Aq)))))):Option (LiI × Int)).bind fun (Au,Av)=>(some ( (Au,Av)))) else (if (Int.tmod a2 8)=4 then ((AHl fuel (w64 (1 + (Int.tmod (w64 a1) Aa))) false).bind fun Af=>((gI Af 0).bind fun Ag=>((gI Ag 0).bind fun Aw=>(((((if (a5.length:Int)<=0 then (some ( (0,0))) else ((gI a5 (w64 ((w64 (0 + 1)) - 1))).bind fun Ax=>(some ( ((w64 Ax),(w64 (0 + 1))))))):Option (Int × Int)).bind fun (Ay,Az)=>(some ( ((Int.tmod (w64 (IntKind.wrap .u8 Ay)) 3),Az)))):Option (Int × Int)).bind fun (A3,A4)=>(some ( ((sI Af 0 (sI Ag 0 (w64 (Aw + A3)))),A4))))))) else (if (Int.tmod a2 8)=5 then ((AHl fuel (w64 (1 + (Int.tmod (w64 a1) Aa))) true).bind fun Ah=>((gI Ah (w64 ((w64 (1 + (Int.tmod (w64 a1) Aa))) - 1))).bind fun Ai=>((gI Ai (w64 ((w64 (1 + (Int.tmod (w64 a1) Aa))) - 1))).bind fun A5=>(((((if (a5.length:Int)<=0 then (some ( (0,0))) else ((gI a5 (w64 ((w64 (0 + 1)) - 1))).bind fun A6=>(some ( ((w64 A6),(w64 (0 + 1))))))):Option (Int × Int)).bind fun (A7,A8)=>(some ( ((Int.tmod (w64 (IntKind.wrap .u8 A7)) 2),A8)))):Option (Int × Int)).bind fun (A9,Ba)=>(some ( ((sI Ah (w64 ((w64 (1 + (Int.tmod (w64 a1) Aa))) - 1)) (sI Ai (w64 ((w64 (1 + (Int.tmod (w64 a1) Aa))) - 1)) (w64 (A5 + A9)))),Ba))))))) else (if (Int.tmod a2 8)=6 then (((if 0<=(w64 (1 + (Int.tmod (w64 a1) Aa)))/\(w64 (1 + (Int.tmod (w64 a1) Aa)))<=100000000 then ((iter (fun s=>AFy fuel a1 a5 Aa s.1 s.2.1 s.2.2) fuel (0,0,(List.replicate (Int.toNat (w64 (1 + (Int.tmod (w64 a1) Aa)))) ([]:List Int)))).bind (fun ((Bb,Bc):Int × LiI)=>(some ( (Bc,Bb))))) else none):Option (LiI × Int)).bind fun (Be,Bf)=>(some ( (Be,Bf)))) else (((if 0<=(w64 (1 + (Int.tmod (w64 a1) Aa)))/\(w64 (1 + (Int.tmod (w64 a1) Aa)))<=100000000 then ((iter (fun s=>AFz fuel a1 a5 Aa s.1 s.2.1 s.2.2) fuel (0,0,(List.replicate (Int.toNat (w64 (1 + (Int.tmod (w64 a1) Aa)))) ([]:List Int)))).bind (fun ((Bg,Bh):Int × LiI)=>(some ( (Bh,Bg))))) else none):Option (LiI × Int)).bind fun (Bi,Bj)=>(some ( (Bi,Bj)))))))))):Option ((LiI × Int))).bind (fun ((Aj,Bl):LiI × Int)=>((AI6 fuel Aj).bind fun Bm=>(if (!Bm)=true then (((if 0<=(w64 (1 + (Int.tmod (w64 a1) Aa)))/\(w64 (1 + (Int.tmod (w64 a1) Aa)))<=100000000 then ((iter (fun s=>AF0 fuel a1 a5 Aa s.1 s.2.1 s.2.2) fuel (0,Bl,(List.replicate (Int.toNat (w64 (1 + (Int.tmod (w64 a1) Aa)))) ([]:List Int)))).bind (fun ((Bn,Bo):Int × LiI)=>(some ( (Bo,Bn))))) else none):Option (LiI × Int)).bind fun (Bp,Br)=>(some Bp)) else (some Aj))))) else none)
theorem APk {fuel:Nat} {h:ABu} {a1 a2:Int} {Ab:Value} {a5:LiA} {Cd:Value} {a9:LiA} {Af:Int} {r:LiI} (H4:SlC (cI .i8) h Ab a5) (H8:SlC (cI .i8) h Cd a9) (hp:AFt fuel a1 a2 a5 a9 Af=some r):ACn Tryz.prog 19 #[(.agg #[(.int .u8 a1),(.int .u8 a2),Ab,Cd]),(.int .i64 Af)] h (fun x h'=>Ext h h'/\ ∃ (x0:Value) (F0:List Nat) (Iu:List LnA) (Iv:List Value),x=x0/\AFf (cI .i64) 35 2 h' F0 Iu Iv x0 r/\Sp h' h.size [F0]):=by
 unfold AFt at hp;refine cwf (l:=[_,_]) Tryz.func19 rfl rfl (ABp (AGo [(.int .u8 a1),(.int .u8 a2),Ab,Cd] trivial tt2 rfl rfl fun Wp Wq Iw Ix Iy=>AC1 (ADp Aqe rfl ?_)));have Ce:=(Kst.k0 h).nb Ix Iy Iw;refine AB6 AQ5 rfl ((Ce.b p0).cell (i:=2) rfl) ?_;obtain ⟨_,_,_,Iz⟩:=(H4.ext Ce.x).shape;refine AF6 (v:=(.agg #[Ab,(.int .i64 0)])) (fun _=>by subst Iz;kernel_rfl) (AGo [Ab,(.int .i64 0)] trivial tt2 rfl rfl fun Aa Wr I0 I1 I2=>AC1 (ADp Aqc rfl ?_));have A4:=Ce.nb I1 I2 I0;refine AB6 Arc rfl ((A4.b p1).cell (i:=0) rfl) (AM8 ASy ATm rfl (Wo ?_));obtain ⟨I3,I5⟩:=ifN hp;refine AHh rfl rfl I3 (ACz rfl rfl (AC1 (ABv ?_)));obtain ⟨I6,I7,Ea⟩:=ABq I5;refine ALi 147573952589676150912 (fun x:(LiI) × (Value) × LnA × LnN × LvA × (Int)=>[(7,x.2.1)]) (fun x h'=>( (x.1,x.2.2.2.2.2))=I6/\Kst h h' (aO2 (cI .i64) 35 2 x.2.2.1 x.2.2.2.1 x.2.2.2.2.1 x.2.1 x.1 :: ((AI3 A4.L [0]).set 0 (aB 73 Aa [Ab,(.int .i64 x.2.2.2.2.2)])))) ?_ ?_
 ·refine ABp (ADp Aqd rfl (AB6 Arc rfl ((A4.b p1).cell (i:=1) rfl) (AHh rfl rfl (by decide) (ABt (ABw ?_)))));obtain ⟨I9,Eb,Cf⟩:=ABq I7;refine ALi 520093696 (fun x:(Bool)=>[(24,(.bool x))]) (fun x h'=>( x)=I9/\Kst h h' (AI3 A4.L [0])) ?_ ?_
  ·refine ABp (AD8 rfl rfl (ABv (⟨_,rfl,fun Cg=>?_,fun Cg=>?_⟩)))
   ·refine ABy (q_t ?_);exact ⟨((decide ((Int.tmod a2 8)=0)):(Bool)),⟨ABo (AC8 Eb Cg),A4.sel [0] (by decide)⟩,rfl,trivial⟩
   ·refine ABp (AD8 rfl rfl (ABv ?_));have Ec:=AC9 Eb Cg;refine ⟨_,rfl,fun Ch=>?_,fun Ch=>?_⟩
    ·refine ABy (q_t ?_);exact ⟨((decide ((Int.tmod a2 8)=1)):(Bool)),⟨ABo (AC8 Ec Ch),A4.sel [0] (by decide)⟩,rfl,trivial⟩
    ·refine ABp (AD8 rfl rfl (ABv ?_));have Ed:=AC9 Ec Ch;refine ⟨_,rfl,fun Ci=>?_,fun Ci=>?_⟩
     ·refine ABy (q_t ?_);exact ⟨((decide ((Int.tmod a2 8)=2)):(Bool)),⟨ABo (AC8 Ed Ci),A4.sel [0] (by decide)⟩,rfl,trivial⟩
     ·refine AB5 (AD8 rfl rfl (ABv ?_));exact ⟨((decide ((Int.tmod a2 8)=3)):(Bool)),⟨ABo (AC9 Ed Ci),A4.sel [0] (by decide)⟩,rfl,trivial⟩
  rintro Ja Jc Je ⟨Jf,Ao⟩;(try dsimp only [Kst.L,List.set,AI3,AMm] at Ao);refine (show W _ _ _ (setL [(24,(.bool Ja))] (mix _ Jc _)) Je from ?_);subst Jf;(try dsimp only at Cf);refine ⟨_,rfl,fun Cj=>?_,fun Cj=>?_⟩
  ·refine AB5 (Wo (Wo ?_));obtain ⟨Jg,Jh,Ee⟩:=ABq (ifT Cf Cj);refine ACl (K':=(fun xr h'=> ∃ x:(LiI) × (Value) × LnA × LnN × LvA × (Int),(x.1,x.2.2.2.2.2)=Jg/\xr=x.2.1/\Kst h h' (aO2 (cI .i64) 35 2 x.2.2.1 x.2.2.2.1 x.2.2.2.2.1 x.2.1 x.1 :: (Ao.L.set 0 (aB 73 Aa [Ab,(.int .i64 x.2.2.2.2.2)]))))) trivial rfl ?_ fun Ef Ws Ji=>?_
   ·refine cwf (l:=[_,_]) Tryz.func44 rfl rfl (ABp (AC1 (Wo (Wo ?_))));obtain ⟨Jj,Jk,Eg⟩:=ABq Jh;refine ACl (K':=(fun xr h'=> ∃ x:(LiI) × (Value) × LnA × LnN × LvA × (Int),(x.1,x.2.2.2.2.2)=Jj/\xr=x.2.1/\Kst h h' (aO2 (cI .i64) 35 2 x.2.2.1 x.2.2.2.1 x.2.2.2.2.1 x.2.1 x.1 :: (Ao.L.set 0 (aB 73 Aa [Ab,(.int .i64 x.2.2.2.2.2)]))))) trivial rfl ?_ fun Bp Wt Jl=>?_
    ·refine cwf (l:=[_,_,_]) Tryz.func47 rfl rfl (ABp (AC1 (Wo ?_)));obtain ⟨Jm,Jn⟩:=ifN Jk;refine ASb (cI .i64) 2 ACi AN2 rfl trivial tt2 rfl rfl (by decide) Jm fun Jo Jp Jq Eh Wu Jr Js Jt=>ABv (ABr (ABp (Wo ?_)));have Ck:=Ao.no2 Js Jt Jr;refine ADa ACi rfl (Ck.o2 p0).rd (Wo (ABt (ABw ?_)));obtain ⟨Ei,Ju,Ej⟩:=ABq Jn;obtain ⟨Jv,Jw,Jx⟩:=ACe Ju;refine ACq 4294959360 (fun x:(Int) × (Int) × (LiI) × LnA × LnN × LvA=>[(13,(.int .i64 x.1))]) (fun k x h'=>iter Jv k (x.1,x.2.1,x.2.2.1)=some Ei/\Kst h h' ((Ck.L.set 0 (aO2 (cI .i64) 35 2 x.2.2.2.1 x.2.2.2.2.1 x.2.2.2.2.2 Eh x.2.2.1)).set 1 (aB 73 Aa [Ab,(.int .i64 x.2.1)]))) (by kernel_rfl) fuel ((0,0,(List.replicate (Int.toNat (w64 (1 + (Int.tmod (w64 a1) Af)))) ([]:List Int)),Jo,Jp,Jq):(Int) × (Int) × (LiI) × LnA × LnN × LvA) ?_ ⟨rfl,trivial⟩ ?_
     ·exact ⟨Jx,Ck⟩
     rintro Wv ⟨Ap,Bq,Ek,Jy,Cm,El⟩ Jz J0 ⟨J1,Cn⟩;(try dsimp only [Kst.L,List.set,AI3,AMm] at Cn);refine (show W _ _ _ (setL [(13,(.int .i64 Ap))] (mix _ Jz _)) J0 from ?_);obtain ⟨J2,Ww,rfl,Ba,Co⟩:=AB7 J1;rw [Jw] at Ba;dsimp only at Ba;unfold AGe at Ba;refine ABp (ACu rfl rfl (ABt (ABr (⟨_,rfl,fun Cp=>?_,fun Cp=>?_⟩))))
     ·refine ABy (q_t (ABr (ABw (ABp (Wo (AC1 (Wo (Wo (Wo ?_)))))))));obtain ⟨J3,J4⟩:=ifN (AC8 Ba Cp);refine ARb (c:=(cI .i64)) (a:=0) ACs AMw rfl rfl (fun _=>rfl) rfl trivial tt2 rfl rfl (by decide) J3 fun Em J5 Wx J6 J7 J8 J9=>?_;have Bb:=Cn.no J7 (AIj J8 J9) J6;obtain ⟨Wy,En,Ka⟩:=ABq J4;refine ADl ACi rfl (Bb.o2 p1) rfl En fun Kb Wz Kc W0 W1=>AS0 AC3 (Bb.o2 p1) En Kc rfl rfl (Bb.o p0) (Bb.dj p0 p1 (by decide)) fun Av Kd Ke Kf=>ABt (AEd (fun h'=>UpT ([Aa] ++ []) Av h') (by kernel_rfl) ?_);have Ah:=Bb.m2 p0 p1 (by decide) Ke Kd (fun z hz=> .inl (Kf z hz));have Cq:UpT ([Aa] ++ []) Av Av:=UpT.start (AEs (AHq (Ah.b p2) rfl) all_nil);refine Wo (Wo ?_);obtain ⟨Kg,Cr,Kh⟩:=ABq Ka;refine ADl ACi rfl (Ah.o2 p1) rfl Cr fun W3 W4 Ki Kj Kk=>AEt AC3 rfl Cq (fun h' hb=>AMv Kk hb (ASm (Ah.dj p1 p2 (by decide) _ (by simp [aO,aO2,Ki])) ASn)) (Wo (Wo (Wo ?_)));obtain ⟨Kl,Km,Eo⟩:=ABq Kh;have Kn:UpT ([Aa] ++ []) Av Av:=UpT.start (AEs (AHq (Ah.b p2) rfl) all_nil);refine ACl (K':=(fun xr h'=> ∃ x:(Int) × (Int),(x.1,x.2)=Kl/\xr=(.int .i64 x.1)/\Kst h h' ((AI3 Ah.L [1,2]).set 1 (aB 73 Aa [Ab,(.int .i64 x.2)]))/\UpT ([Aa] ++ []) Av h')) Cq rfl ?_ fun W5 W6 Ko=>?_
      ·refine cwf (l:=[_,_]) Tryz.func46 rfl rfl (ABp (AC1 (Wo ?_)));obtain ⟨Kp,Ep,Er⟩:=ABq Km;have Es:UpT ([Aa] ++ []) Av Av:=UpT.start (AEs (AHq (Ah.b p2) rfl) all_nil);refine ACl (K':=(fun xr h'=> ∃ x:(Int) × (Int),(x.1,x.2)=Kp/\xr=(.int .i64 x.1)/\Kst h h' ((AI3 Ah.L [1,2]).set 1 (aB 73 Aa [Ab,(.int .i64 x.2)]))/\UpT ([Aa] ++ []) Av h')) trivial rfl ?_ fun W7 W8 Kr=>?_
       ·refine cwf (l:=[_]) Tryz.func89 rfl rfl (ABp (ABv (ABr (ABr (AKm (Wo (AJ8 rfl (ADp AEw rfl (AB6 ADs rfl ((Ah.b p2).cell (i:=1) rfl) (Wo (AJ8 rfl (ADp AKo rfl (AB6 AQ5 rfl ((Ah.b p2).cell (i:=0) rfl) (ADh AR7 rfl H4 (ANd rfl rfl (ABt (⟨_,rfl,fun Ct=>?_,fun Ct=>?_⟩)))))))))))))))))
        ·refine ABp (ABv (ABx (AB4 (⟨_,ABz,((0,Bq):(Int) × (Int)),?_,rfl,?_,?_⟩))))
         ·exact ABo (AC8 Ep Ct)
         ·exact Ah.sel [1,2] (by decide)
         ·exact Es
        ·refine ABy (q_t (ABp (Wo (AJ8 rfl (ADp AEw rfl (AB6 ADs rfl ((Ah.b p2).cell (i:=1) rfl) (ACz rfl rfl (AJ8 rfl (ADp AEw rfl (AUb [Ab,(.int .i64 (w64 (Bq + 1)))] ADs rfl rfl rfl (Ah.b p2) (Nat.le_of_ble_eq_true rfl) rfl fun W9 Et Eu=>ABt (ABr (AKm (Wo (AJ8 rfl (ADp AKo rfl ?_)))))))))))))));have Br:=Ah.sb p2 Eu Et rfl;refine AB6 AQ5 rfl ((Br.b p2).cell (i:=0) rfl) (Wo (AJ8 rfl (ADp AEw rfl (AB6 ADs rfl ((Br.b p2).cell (i:=1) rfl) (AIf rfl rfl ?_)))));obtain ⟨Kt,Ku,Kv⟩:=ABq (AC9 Ep Ct);refine AHe (c:=(cI .i8)) AR7 rfl H4 rfl Ku fun Xa Xb Xc Kw Kx=>?_;obtain rfl:=Kw;refine AB6 AZr rfl (AB1 (Kx 0 _ rfl) Br.x) (AM8 AZs ALk rfl (ABv (ABx (⟨_,ABz,(((w64 Kt),(w64 (Bq + 1))):(Int) × (Int)),?_,rfl,?_,?_⟩))))
         ·exact ABo Kv
         ·exact Br.sel [1,2] (by decide)
         ·exact (Es.then (Et.stA Eu (AHq (Ah.b p2) rfl) rfl) (AN5 rfl))
       obtain ⟨⟨Ky,Kz⟩,K3,rfl,Ev,K5⟩:=Kr;(try dsimp only [Kst.L,List.set,AI3,AMm] at Ev);refine ⟨trivial,?_⟩;subst K3;(try dsimp only at Er);refine AM8 ALk ASy rfl (AM8 ASy ATm rfl (Wo (AHh rfl rfl (by decide) (ABv (ABx (⟨_,ABz,(((Int.tmod (w64 (IntKind.wrap .u8 Ky)) 6),Kz):(Int) × (Int)),?_,rfl,?_,?_⟩))))))
       ·exact ABo Er
       ·exact Ev
       ·exact (Kn.then K5 (AEs (AN5 rfl) all_nil))
      obtain ⟨⟨Ew,K6⟩,La,rfl,Cu,Lb⟩:=Ko;(try dsimp only [Kst.L,List.set,AI3,AMm] at Cu);refine ⟨(Cq.then Lb (AEs (AN5 rfl) all_nil)),?_⟩;subst La;(try dsimp only at Eo);refine ACz rfl rfl ?_;obtain ⟨Xd,Ey,Lc⟩:=ABq Eo;refine AD2 (m:=Ap) ACs rfl (Ah.o2 p1) Kj Cr rfl Ey fun Xe Ld=>AH9 (m:=Ap) (AG8 ACx rfl rfl rfl) (Cu.o2 p0) Ld Cr Ey (show ((cI .i64)).rep _ (w64 (1 + Ew)) _ from rfl) fun Xf Le Lf=>ACr (q_b (q_t (AB5 (ACz rfl rfl (Wo (ABt ?_))))));obtain rfl:=ABo Lc;exact ⟨J2,(((w64 (Ap + 1)),K6,(sI (sI Ek Ap (List.replicate (Int.toNat (w64 (1 + (Int.tmod (w64 a1) Af)))) (0:Int))) Ap (sI Kg Ap (w64 (1 + Ew)))),(Kb :: (Cm.set (Int.toNat Ap) [Em]).flatten),(Cm.set (Int.toNat Ap) [Em]),(El.set (Int.toNat Ap) J5)):(Int) × (Int) × (LiI) × LnA × LnN × LvA),Nat.lt_succ_self _,⟨Co,(Cu.uO2 p0 Lf Le)⟩,rfl,trivial⟩
     ·obtain rfl:=ABo (AC9 Ba Cp);change _=Ei at Co;subst Co;(try dsimp only at Ej);refine ACh (ACj (ACj (ADo (q_t (ABp (Wo (ABv (ABx (⟨_,ABz,((Ek,Eh,Jy,Cm,El,Bq):(LiI) × (Value) × LnA × LnN × LvA × (Int)),?_,rfl,?_⟩)))))))))
      ·exact ABo Ej
      ·exact Cn
    obtain ⟨⟨Lg,Bp,Lh,Li,Lj,Lk⟩,Ll,rfl,Bt⟩:=Jl;(try dsimp only [Kst.L,List.set,AI3,AMm] at Bt);refine ⟨trivial,?_⟩;subst Ll;(try dsimp only at Eg);refine ABv (ABr (ABp (Wo (ADa ACi rfl (Bt.o2 p0).rd (Wo (ABt (ABw ?_)))))));obtain ⟨Ez,Lm,Fa⟩:=ABq Eg;obtain ⟨Ln,Lo,Lq⟩:=ACe Lm;refine ACq 17592186036416 (fun x:(Int) × (Int) × (LiI) × LnA × LnN × LvA=>[(13,(.int .i64 x.1))]) (fun k x h'=>iter Ln k (x.1,x.2.1,x.2.2.1)=some Ez/\Kst h h' ((Bt.L.set 0 (aO2 (cI .i64) 35 2 x.2.2.2.1 x.2.2.2.2.1 x.2.2.2.2.2 Bp x.2.2.1)).set 1 (aB 73 Aa [Ab,(.int .i64 x.2.1)]))) (by kernel_rfl) fuel ((0,Lk,Lg,Lh,Li,Lj):(Int) × (Int) × (LiI) × LnA × LnN × LvA) ?_ ⟨rfl,trivial⟩ ?_
    ·exact ⟨Lq,Bt⟩
    rintro Xg ⟨A6,Fb,Fc,Fd,Fe,Ff⟩ Lr Lv ⟨Lw,Bu⟩;(try dsimp only [Kst.L,List.set,AI3,AMm] at Bu);refine (show W _ _ _ (setL [(13,(.int .i64 A6))] (mix _ Lr _)) Lv from ?_);obtain ⟨Lx,Xh,rfl,Bc,Cv⟩:=AB7 Lw;rw [Lo] at Bc;dsimp only at Bc;unfold AGf at Bc;refine ABp (ACu rfl rfl (ABt (ABr (⟨_,rfl,fun Cw=>?_,fun Cw=>?_⟩))))
    ·refine ABy (q_t (ABr (ABw (ABp (Wo (AC1 (ABv (ABw ?_))))))));obtain ⟨Fg,Ly,Fh⟩:=ABq (AC8 Bc Cw);obtain ⟨Lz,Ma,Mb⟩:=ACe Ly;refine ACq 8796092956800 (fun x:(Int) × (Int) × (LiI) × LnA × LnN × LvA=>[(7,(.int .i64 x.1))]) (fun k x h'=>iter Lz k (x.1,x.2.1,x.2.2.1)=some Fg/\Kst h h' ((Bu.L.set 0 (aO2 (cI .i64) 35 2 x.2.2.2.1 x.2.2.2.2.1 x.2.2.2.2.2 Bp x.2.2.1)).set 1 (aB 73 Aa [Ab,(.int .i64 x.2.1)]))) (by kernel_rfl) fuel ((0,Fb,Fc,Fd,Fe,Ff):(Int) × (Int) × (LiI) × LnA × LnN × LvA) ?_ ⟨rfl,trivial⟩ ?_
     ·exact ⟨Mb,Bu⟩
     rintro Xi ⟨A9,Bv,Fi,Fj,Fk,Fl⟩ Mc A7 ⟨Md,Ai⟩;(try dsimp only [Kst.L,List.set,AI3,AMm] at Ai);refine (show W _ _ _ (setL [(7,(.int .i64 A9))] (mix _ Mc _)) A7 from ?_);obtain ⟨Me,Xj,rfl,Be,Cx⟩:=AB7 Md;rw [Ma] at Be;dsimp only at Be;unfold AIk at Be;refine ABr (ABp (Wo (Wo (ACu rfl rfl (ABt (⟨_,rfl,fun Cy=>?_,fun Cy=>?_⟩))))))
     ·refine ABy (q_t (ABr (ABw (ABr (AEd (fun h'=>UpT ([Aa] ++ []) A7 h') (by kernel_rfl) ?_)))));have Cz:UpT ([Aa] ++ []) A7 A7:=UpT.start (AEs (AHq (Ai.b p1) rfl) all_nil);refine Wo (Wo ?_);obtain ⟨Mf,C0,Mg⟩:=ABq (AC8 Be Cy);refine ADl ACi rfl (Ai.o2 p0) rfl C0 fun Xk Xl Mh Mi Mj=>AEt AC3 rfl Cz (fun h' hb=>AMv Mj hb (ASm (Ai.dj p0 p1 (by decide) _ (by simp [aO,aO2,Mh])) ASn)) (Wo (Wo ?_));obtain ⟨Mk,Fm,Fo⟩:=ABq Mg;have Fp:UpT ([Aa] ++ []) A7 A7:=UpT.start (AEs (AHq (Ai.b p1) rfl) all_nil);refine ACl (K':=(fun xr h'=> ∃ x:(Int) × (Int),(x.1,x.2)=Mk/\xr=(.int .i64 x.1)/\Kst h h' (Ai.L.set 1 (aB 73 Aa [Ab,(.int .i64 x.2)]))/\UpT ([Aa] ++ []) A7 h')) Cz rfl ?_ fun Xm Xn Ml=>?_
      ·refine cwf (l:=[_]) Tryz.func89 rfl rfl (ABp (ABv (ABr (ABr (AKm (Wo (AJ8 rfl (ADp AEw rfl (AB6 ADs rfl ((Ai.b p1).cell (i:=1) rfl) (Wo (AJ8 rfl (ADp AKo rfl (AB6 AQ5 rfl ((Ai.b p1).cell (i:=0) rfl) (ADh AR7 rfl H4 (ANd rfl rfl (ABt (⟨_,rfl,fun C1=>?_,fun C1=>?_⟩)))))))))))))))))
       ·refine ABp (ABv (ABx (AB4 (⟨_,ABz,((0,Bv):(Int) × (Int)),?_,rfl,?_,?_⟩))))
        ·exact ABo (AC8 Fm C1)
        ·exact Ai
        ·exact Fp
       ·refine ABy (q_t (ABp (Wo (AJ8 rfl (ADp AEw rfl (AB6 ADs rfl ((Ai.b p1).cell (i:=1) rfl) (ACz rfl rfl (AJ8 rfl (ADp AEw rfl (AUb [Ab,(.int .i64 (w64 (Bv + 1)))] ADs rfl rfl rfl (Ai.b p1) (Nat.le_of_ble_eq_true rfl) rfl fun Xo Fq Fr=>ABt (ABr (AKm (Wo (AJ8 rfl (ADp AKo rfl ?_)))))))))))))));have Bw:=Ai.sb p1 Fr Fq rfl;refine AB6 AQ5 rfl ((Bw.b p1).cell (i:=0) rfl) (Wo (AJ8 rfl (ADp AEw rfl (AB6 ADs rfl ((Bw.b p1).cell (i:=1) rfl) (AIf rfl rfl ?_)))));obtain ⟨Mm,Mo,Mq⟩:=ABq (AC9 Fm C1);refine AHe (c:=(cI .i8)) AR7 rfl H4 rfl Mo fun Xp Xq Xr Mr Ms=>?_;obtain rfl:=Mr;refine AB6 AZr rfl (AB1 (Ms 0 _ rfl) Bw.x) (AM8 AZs ALk rfl (ABv (ABx (⟨_,ABz,(((w64 Mm),(w64 (Bv + 1))):(Int) × (Int)),?_,rfl,?_,?_⟩))))
        ·exact ABo Mq
        ·exact Bw
        ·exact (Fp.then (Fq.stA Fr (AHq (Ai.b p1) rfl) rfl) (AN5 rfl))
      obtain ⟨⟨Ft,Mt⟩,Mu,rfl,C2,Mv⟩:=Ml;(try dsimp only [Kst.L,List.set,AI3,AMm] at C2);refine ⟨(Cz.then Mv (AEs (AN5 rfl) all_nil)),?_⟩;subst Mu;(try dsimp only at Fo);refine AHh rfl rfl (by decide) ?_;obtain ⟨Xt,Fu,Mw⟩:=ABq Fo;refine AD2 (m:=A6) ACs rfl (Ai.o2 p0) Mi C0 rfl Fu fun Xu Mx=>AH9 (m:=A6) (AG8 ACx rfl rfl rfl) (C2.o2 p0) Mx C0 Fu (show ((cI .i64)).rep _ (Int.tmod Ft 3) _ from rfl) fun Xv My Mz=>ABt (AKm (Wo (Wo ?_)));have A8:=C2.uO2 p0 Mz My;obtain ⟨M1,C3,M2⟩:=ABq Mw;refine ADl ACi rfl (A8.o2 p0) rfl C3 fun Xw Xx Xy M3 M4=>AB6 AC3 rfl M4 (Wo (Wo (Wo ?_)));obtain ⟨Xz,C4,M5⟩:=ABq M2;refine ADl ACi rfl (A8.o2 p0) rfl C4 fun X0 X3 X4 M6 M7=>AB6 AC3 rfl M7 (Wo ?_);obtain ⟨Fv,Fw,M8⟩:=ABq M5;refine AD2 (m:=A6) ACs rfl (A8.o2 p0) M6 C4 rfl Fw fun X5 M9=>?_;obtain ⟨X6,Na,Nb⟩:=(A8.o2 p0).cells M9 C4 Fw;obtain rfl:=Na;refine AB6 ACx rfl (Nb 0 _ rfl) ?_;obtain ⟨X8,Fx,Nc⟩:=ABq M8;refine AD2 (m:=A9) ACs rfl (A8.o2 p0) M3 C3 rfl Fx fun Ya Nd=>AH9 (m:=A9) (AG8 ACx rfl rfl rfl) (A8.o2 p0) Nd C3 Fx (show ((cI .i64)).rep _ Fv _ from rfl) fun Yb Nf Ng=>ACr (q_b (q_t (AB5 (Wo (ACz rfl rfl (ABv ?_))))));obtain rfl:=ABo Nc;exact ⟨Me,(((w64 (A9 + 1)),Mt,(sI (sI Fi A6 (sI Mf A9 (Int.tmod Ft 3))) A9 (sI M1 A6 Fv)),Fj,Fk,Fl):(Int) × (Int) × (LiI) × LnA × LnN × LvA),Nat.lt_succ_self _,⟨Cx,(A8.uO2 p0 Ng Nf)⟩,rfl,trivial⟩
     ·obtain rfl:=ABo (AC9 Be Cy);change _=Fg at Cx;subst Cx;(try dsimp only at Fh);refine ACh (ACj (ACj (ADo (q_b (q_t (AB5 (ACz rfl rfl (Wo (ABt ?_)))))))));obtain rfl:=ABo Fh;exact ⟨Lx,(((w64 (A6 + 1)),Bv,Fi,Fj,Fk,Fl):(Int) × (Int) × (LiI) × LnA × LnN × LvA),Nat.lt_succ_self _,⟨Cv,Ai⟩,rfl,trivial⟩
    ·obtain rfl:=ABo (AC9 Bc Cw);change _=Ez at Cv;subst Cv;(try dsimp only at Fa);refine ACh (ACj (ACj (ADo (q_t (ABp (Wo (ABv (ABx (⟨_,ABz,((Fc,Bp,Fd,Fe,Ff,Fb):(LiI) × (Value) × LnA × LnN × LvA × (Int)),?_,rfl,?_⟩)))))))))
     ·exact ABo Fa
     ·exact Bu
   obtain ⟨⟨Nh,Ef,Ni,Nj,Nk,Nl⟩,Nm,rfl,Fy⟩:=Ji;(try dsimp only [Kst.L,List.set,AI3,AMm] at Fy);refine ⟨trivial,?_⟩;subst Nm;(try dsimp only at Ee);refine ACk (ACr (q_b (q_t ?_)));exact ⟨((Nh,Ef,Ni,Nj,Nk,Nl):(LiI) × (Value) × LnA × LnN × LvA × (Int)),⟨ABo Ee,Fy⟩,rfl,trivial⟩
  ·refine ABp (AD8 rfl rfl (ABv ?_));have Fz:=AH8 Cf Cj;refine ⟨_,rfl,fun C5=>?_,fun C5=>?_⟩
   ·refine ABp (Wo ?_);obtain ⟨Nn,Np,Nq⟩:=ABq (AC8 Fz C5);refine ADb rfl (AOp Np) fun Nr Aw Ns Nt=>?_;obtain ⟨Yc,Nu,Nv,Nw,rfl,Ny,Nz⟩:=Nt;refine ABv (AEd (fun h'=>UpT ([Aa] ++ []) Aw h') (by kernel_rfl) ?_);have Ac:=Ao.no2 Ns Nz Ny;have Bx:UpT ([Aa] ++ []) Aw Aw:=UpT.start (AEs (AHq (Ac.b p1) rfl) all_nil);refine Wo ?_;obtain ⟨N0,Bf,N3⟩:=ABq Nq;refine ADl ACi rfl (Ac.o2 p0) rfl Bf fun Yd Ye N4 F4 N5=>AEt AC3 rfl Bx (fun h' hb=>AMv N5 hb (ASm (Ac.dj p0 p1 (by decide) _ (by simp [aO,aO2,N4])) ASn)) ?_;obtain ⟨F5,By,N6⟩:=ABq N3;refine AD2 (m:=0) ACs rfl (Ac.o2 p0) F4 Bf rfl By fun Yf F6=>?_;obtain ⟨Yg,N7,N8⟩:=(Ac.o2 p0).cells F6 Bf By;obtain rfl:=N7;refine AEt ACx rfl Bx (fun h' hb=>AMv (N8 0 _ rfl) hb (ASm (Ac.dj p0 p1 (by decide) _ ((Ac.o2 p0).gmem F6)) ASn)) (Wo ?_);obtain ⟨N9,Oa,F7⟩:=ABq N6;have Ob:UpT ([Aa] ++ []) Aw Aw:=UpT.start (AEs (AHq (Ac.b p1) rfl) all_nil);refine ACl (K':=(fun xr h'=> ∃ x:(Int) × (Int),(x.1,x.2)=N9/\xr=(.int .i64 x.1)/\Kst h h' (Ac.L.set 1 (aB 73 Aa [Ab,(.int .i64 x.2)]))/\UpT ([Aa] ++ []) Aw h')) Bx rfl ?_ fun Yh Yi Oc=>?_
    ·refine cwf (l:=[_,_]) Tryz.func46 rfl rfl (ABp (AC1 (Wo ?_)));obtain ⟨Od,F8,F9⟩:=ABq Oa;have Ga:UpT ([Aa] ++ []) Aw Aw:=UpT.start (AEs (AHq (Ac.b p1) rfl) all_nil);refine ACl (K':=(fun xr h'=> ∃ x:(Int) × (Int),(x.1,x.2)=Od/\xr=(.int .i64 x.1)/\Kst h h' (Ac.L.set 1 (aB 73 Aa [Ab,(.int .i64 x.2)]))/\UpT ([Aa] ++ []) Aw h')) trivial rfl ?_ fun Yj Yk Oe=>?_
     ·refine cwf (l:=[_]) Tryz.func89 rfl rfl (ABp (ABv (ABr (ABr (AKm (Wo (AJ8 rfl (ADp AEw rfl (AB6 ADs rfl ((Ac.b p1).cell (i:=1) rfl) (Wo (AJ8 rfl (ADp AKo rfl (AB6 AQ5 rfl ((Ac.b p1).cell (i:=0) rfl) (ADh AR7 rfl H4 (ANd rfl rfl (ABt (⟨_,rfl,fun C6=>?_,fun C6=>?_⟩)))))))))))))))))
      ·refine ABp (ABv (ABx (AB4 (⟨_,ABz,((0,0):(Int) × (Int)),?_,rfl,?_,?_⟩))))
       ·exact ABo (AC8 F8 C6)
       ·exact Ac
       ·exact Ga
      ·refine ABy (q_t (ABp (Wo (AJ8 rfl (ADp AEw rfl (AB6 ADs rfl ((Ac.b p1).cell (i:=1) rfl) (ACz rfl rfl (AJ8 rfl (ADp AEw rfl (AUb [Ab,(.int .i64 (w64 (0 + 1)))] ADs rfl rfl rfl (Ac.b p1) (Nat.le_of_ble_eq_true rfl) rfl fun Yl Gb Gc=>ABt (ABr (AKm (Wo (AJ8 rfl (ADp AKo rfl ?_)))))))))))))));have Bz:=Ac.sb p1 Gc Gb rfl;refine AB6 AQ5 rfl ((Bz.b p1).cell (i:=0) rfl) (Wo (AJ8 rfl (ADp AEw rfl (AB6 ADs rfl ((Bz.b p1).cell (i:=1) rfl) (AIf rfl rfl ?_)))));obtain ⟨Og,Oh,Oi⟩:=ABq (AC9 F8 C6);refine AHe (c:=(cI .i8)) AR7 rfl H4 rfl Oh fun Ym Yn Yo Oj Ol=>?_;obtain rfl:=Oj;refine AB6 AZr rfl (AB1 (Ol 0 _ rfl) Bz.x) (AM8 AZs ALk rfl (ABv (ABx (⟨_,ABz,(((w64 Og),(w64 (0 + 1))):(Int) × (Int)),?_,rfl,?_,?_⟩))))
       ·exact ABo Oi
       ·exact Bz
       ·exact (Ga.then (Gb.stA Gc (AHq (Ac.b p1) rfl) rfl) (AN5 rfl))
     obtain ⟨⟨Om,On⟩,Oo,rfl,Gd,Oq⟩:=Oe;(try dsimp only [Kst.L,List.set,AI3,AMm] at Gd);refine ⟨trivial,?_⟩;subst Oo;(try dsimp only at F9);refine AM8 ALk ASy rfl (AM8 ASy ATm rfl (Wo (AHh rfl rfl (by decide) (ABv (ABx (⟨_,ABz,(((Int.tmod (w64 (IntKind.wrap .u8 Om)) 3),On):(Int) × (Int)),?_,rfl,?_,?_⟩))))))
     ·exact ABo F9
     ·exact Gd
     ·exact (Ob.then Oq (AEs (AN5 rfl) all_nil))
    obtain ⟨⟨Ge,Ot⟩,Ou,rfl,C7,Ov⟩:=Oc;(try dsimp only [Kst.L,List.set,AI3,AMm] at C7);refine ⟨(Bx.then Ov (AEs (AN5 rfl) all_nil)),?_⟩;subst Ou;(try dsimp only at F7);refine ACz rfl rfl (AD2 (m:=0) ACs rfl (Ac.o2 p0) F4 Bf rfl By fun Yp Ow=>AH9 (m:=0) (AG8 ACx rfl rfl rfl) (C7.o2 p0) Ow Bf By (show ((cI .i64)).rep _ (w64 (F5 + Ge)) _ from rfl) fun Yq Ox Oy=>ACr (q_b (q_t ?_)));exact ⟨(((sI Nn 0 (sI N0 0 (w64 (F5 + Ge)))),Nr,Nu,Nv,Nw,Ot):(LiI) × (Value) × LnA × LnN × LvA × (Int)),⟨ABo F7,(C7.uO2 p0 Oy Ox)⟩,rfl,trivial⟩
   ·refine ABp (AD8 rfl rfl (ABv ?_));have Gf:=AC9 Fz C5;refine ⟨_,rfl,fun C8=>?_,fun C8=>?_⟩
    ·refine ABp (Wo ?_);obtain ⟨Oz,O0,O1⟩:=ABq (AC8 Gf C8);refine ADb rfl (AOp O0) fun O2 Ax O3 O4=>?_;obtain ⟨Yr,O5,O6,O7,rfl,O8,O9⟩:=O4;refine ABv (AEd (fun h'=>UpT ([Aa] ++ []) Ax h') (by kernel_rfl) ?_);have Ad:=Ao.no2 O3 O9 O8;have B1:UpT ([Aa] ++ []) Ax Ax:=UpT.start (AEs (AHq (Ad.b p1) rfl) all_nil);refine Wo (Wo (AIf rfl rfl ?_));obtain ⟨Pa,Bg,Pb⟩:=ABq O1;refine ADl ACi rfl (Ad.o2 p0) rfl Bg fun Ys Yt Pc Gg Pd=>AEt AC3 rfl B1 (fun h' hb=>AMv Pd hb (ASm (Ad.dj p0 p1 (by decide) _ (by simp [aO,aO2,Pc])) ASn)) (Wo (AIf rfl rfl ?_));obtain ⟨Gh,B3,Pe⟩:=ABq Pb;refine AD2 (m:=(w64 ((w64 (1 + (Int.tmod (w64 a1) Af))) - 1))) ACs rfl (Ad.o2 p0) Gg Bg rfl B3 fun Yu Gi=>?_;obtain ⟨Yv,Pf,Pg⟩:=(Ad.o2 p0).cells Gi Bg B3;obtain rfl:=Pf;refine AEt ACx rfl B1 (fun h' hb=>AMv (Pg 0 _ rfl) hb (ASm (Ad.dj p0 p1 (by decide) _ ((Ad.o2 p0).gmem Gi)) ASn)) (Wo ?_);obtain ⟨Ph,Pj,Gj⟩:=ABq Pe;have Pk:UpT ([Aa] ++ []) Ax Ax:=UpT.start (AEs (AHq (Ad.b p1) rfl) all_nil);refine ACl (K':=(fun xr h'=> ∃ x:(Int) × (Int),(x.1,x.2)=Ph/\xr=(.int .i64 x.1)/\Kst h h' (Ad.L.set 1 (aB 73 Aa [Ab,(.int .i64 x.2)]))/\UpT ([Aa] ++ []) Ax h')) B1 rfl ?_ fun Yw Yx Pm=>?_
     ·refine cwf (l:=[_,_]) Tryz.func46 rfl rfl (ABp (AC1 (Wo ?_)));obtain ⟨Pn,Gk,Gl⟩:=ABq Pj;have Gm:UpT ([Aa] ++ []) Ax Ax:=UpT.start (AEs (AHq (Ad.b p1) rfl) all_nil);refine ACl (K':=(fun xr h'=> ∃ x:(Int) × (Int),(x.1,x.2)=Pn/\xr=(.int .i64 x.1)/\Kst h h' (Ad.L.set 1 (aB 73 Aa [Ab,(.int .i64 x.2)]))/\UpT ([Aa] ++ []) Ax h')) trivial rfl ?_ fun Yy Yz Po=>?_
      ·refine cwf (l:=[_]) Tryz.func89 rfl rfl (ABp (ABv (ABr (ABr (AKm (Wo (AJ8 rfl (ADp AEw rfl (AB6 ADs rfl ((Ad.b p1).cell (i:=1) rfl) (Wo (AJ8 rfl (ADp AKo rfl (AB6 AQ5 rfl ((Ad.b p1).cell (i:=0) rfl) (ADh AR7 rfl H4 (ANd rfl rfl (ABt (⟨_,rfl,fun C9=>?_,fun C9=>?_⟩)))))))))))))))))
       ·refine ABp (ABv (ABx (AB4 (⟨_,ABz,((0,0):(Int) × (Int)),?_,rfl,?_,?_⟩))))
        ·exact ABo (AC8 Gk C9)
        ·exact Ad
        ·exact Gm
       ·refine ABy (q_t (ABp (Wo (AJ8 rfl (ADp AEw rfl (AB6 ADs rfl ((Ad.b p1).cell (i:=1) rfl) (ACz rfl rfl (AJ8 rfl (ADp AEw rfl (AUb [Ab,(.int .i64 (w64 (0 + 1)))] ADs rfl rfl rfl (Ad.b p1) (Nat.le_of_ble_eq_true rfl) rfl fun Y0 Gn Gp=>ABt (ABr (AKm (Wo (AJ8 rfl (ADp AKo rfl ?_)))))))))))))));have B4:=Ad.sb p1 Gp Gn rfl;refine AB6 AQ5 rfl ((B4.b p1).cell (i:=0) rfl) (Wo (AJ8 rfl (ADp AEw rfl (AB6 ADs rfl ((B4.b p1).cell (i:=1) rfl) (AIf rfl rfl ?_)))));obtain ⟨Pp,Pq,Ps⟩:=ABq (AC9 Gk C9);refine AHe (c:=(cI .i8)) AR7 rfl H4 rfl Pq fun Y2 Y3 Y4 Pt Pu=>?_;obtain rfl:=Pt;refine AB6 AZr rfl (AB1 (Pu 0 _ rfl) B4.x) (AM8 AZs ALk rfl (ABv (ABx (⟨_,ABz,(((w64 Pp),(w64 (0 + 1))):(Int) × (Int)),?_,rfl,?_,?_⟩))))
        ·exact ABo Ps
        ·exact B4
        ·exact (Gm.then (Gn.stA Gp (AHq (Ad.b p1) rfl) rfl) (AN5 rfl))
      obtain ⟨⟨Pv,Pw⟩,Px,rfl,Gq,Py⟩:=Po;(try dsimp only [Kst.L,List.set,AI3,AMm] at Gq);refine ⟨trivial,?_⟩;subst Px;(try dsimp only at Gl);refine AM8 ALk ASy rfl (AM8 ASy ATm rfl (Wo (AHh rfl rfl (by decide) (ABv (ABx (⟨_,ABz,(((Int.tmod (w64 (IntKind.wrap .u8 Pv)) 2),Pw):(Int) × (Int)),?_,rfl,?_,?_⟩))))))
      ·exact ABo Gl
      ·exact Gq
      ·exact (Pk.then Py (AEs (AN5 rfl) all_nil))
     obtain ⟨⟨Gr,Pz⟩,P0,rfl,Da,P1⟩:=Pm;(try dsimp only [Kst.L,List.set,AI3,AMm] at Da);refine ⟨(B1.then P1 (AEs (AN5 rfl) all_nil)),?_⟩;subst P0;(try dsimp only at Gj);refine ACz rfl rfl (AD2 (m:=(w64 ((w64 (1 + (Int.tmod (w64 a1) Af))) - 1))) ACs rfl (Ad.o2 p0) Gg Bg rfl B3 fun Y5 P2=>AH9 (m:=(w64 ((w64 (1 + (Int.tmod (w64 a1) Af))) - 1))) (AG8 ACx rfl rfl rfl) (Da.o2 p0) P2 Bg B3 (show ((cI .i64)).rep _ (w64 (Gh + Gr)) _ from rfl) fun Y6 P3 P4=>ACr (q_b (q_t ?_)));exact ⟨(((sI Oz (w64 ((w64 (1 + (Int.tmod (w64 a1) Af))) - 1)) (sI Pa (w64 ((w64 (1 + (Int.tmod (w64 a1) Af))) - 1)) (w64 (Gh + Gr)))),O2,O5,O6,O7,Pz):(LiI) × (Value) × LnA × LnN × LvA × (Int)),⟨ABo Gj,(Da.uO2 p0 P4 P3)⟩,rfl,trivial⟩
    ·refine ABp (AD8 rfl rfl (ABv ?_));have Gt:=AC9 Gf C8;refine ⟨_,rfl,fun Db=>?_,fun Db=>?_⟩
     ·refine AB5 (Wo (Wo ?_));obtain ⟨P5,P6,Gu⟩:=ABq (AC8 Gt Db);refine ACl (K':=(fun xr h'=> ∃ x:(LiI) × (Value) × LnA × LnN × LvA × (Int),(x.1,x.2.2.2.2.2)=P5/\xr=x.2.1/\Kst h h' (aO2 (cI .i64) 35 2 x.2.2.1 x.2.2.2.1 x.2.2.2.2.1 x.2.1 x.1 :: (Ao.L.set 0 (aB 73 Aa [Ab,(.int .i64 x.2.2.2.2.2)]))))) trivial rfl ?_ fun Gv Y7 P7=>?_
      ·refine cwf (l:=[_,_,_]) Tryz.func47 rfl rfl (ABp (AC1 (Wo ?_)));obtain ⟨P8,P9⟩:=ifN P6;refine ASb (cI .i64) 2 ACi AN2 rfl trivial tt2 rfl rfl (by decide) P8 fun Qa Qb Qc Gw Y8 Qd Qe Qf=>ABv (ABr (ABp (Wo ?_)));have Dc:=Ao.no2 Qe Qf Qd;refine ADa ACi rfl (Dc.o2 p0).rd (Wo (ABt (ABw ?_)));obtain ⟨Gx,Qg,Gy⟩:=ABq P9;obtain ⟨Qh,Qi,Qj⟩:=ACe Qg;refine ACq 4294959360 (fun x:(Int) × (Int) × (LiI) × LnA × LnN × LvA=>[(13,(.int .i64 x.1))]) (fun k x h'=>iter Qh k (x.1,x.2.1,x.2.2.1)=some Gx/\Kst h h' ((Dc.L.set 0 (aO2 (cI .i64) 35 2 x.2.2.2.1 x.2.2.2.2.1 x.2.2.2.2.2 Gw x.2.2.1)).set 1 (aB 73 Aa [Ab,(.int .i64 x.2.1)]))) (by kernel_rfl) fuel ((0,0,(List.replicate (Int.toNat (w64 (1 + (Int.tmod (w64 a1) Af)))) ([]:List Int)),Qa,Qb,Qc):(Int) × (Int) × (LiI) × LnA × LnN × LvA) ?_ ⟨rfl,trivial⟩ ?_
       ·exact ⟨Qj,Dc⟩
       rintro Y9 ⟨Aq,B5,Gz,Qk,Dd,G3⟩ Ql Qm ⟨Qn,De⟩;(try dsimp only [Kst.L,List.set,AI3,AMm] at De);refine (show W _ _ _ (setL [(13,(.int .i64 Aq))] (mix _ Ql _)) Qm from ?_);obtain ⟨Qo,Za,rfl,Bh,Df⟩:=AB7 Qn;rw [Qi] at Bh;dsimp only at Bh;unfold AFy at Bh;refine ABp (ACu rfl rfl (ABt (ABr (⟨_,rfl,fun Dg=>?_,fun Dg=>?_⟩))))
       ·refine ABy (q_t (ABr (ABw (ABp (Wo (AC1 (Wo (Wo (Wo ?_)))))))));obtain ⟨Qp,Qq⟩:=ifN (AC8 Bh Dg);refine ARb (c:=(cI .i64)) (a:=0) ACs AMw rfl rfl (fun _=>rfl) rfl trivial tt2 rfl rfl (by decide) Qp fun G4 Qr Zb Qs Qt Qu Qv=>?_;have Bi:=De.no Qt (AIj Qu Qv) Qs;obtain ⟨Zd,G5,Qw⟩:=ABq Qq;refine ADl ACi rfl (Bi.o2 p1) rfl G5 fun Qx Ze Qy Zf Zg=>AS0 AC3 (Bi.o2 p1) G5 Qy rfl rfl (Bi.o p0) (Bi.dj p0 p1 (by decide)) fun Ay Qz Q0 Q1=>ABt (AEd (fun h'=>UpT ([Aa] ++ []) Ay h') (by kernel_rfl) ?_);have Aj:=Bi.m2 p0 p1 (by decide) Q0 Qz (fun z hz=> .inl (Q1 z hz));have Dh:UpT ([Aa] ++ []) Ay Ay:=UpT.start (AEs (AHq (Aj.b p2) rfl) all_nil);refine Wo (Wo ?_);obtain ⟨Q2,Di,Q3⟩:=ABq Qw;refine ADl ACi rfl (Aj.o2 p1) rfl Di fun Zh Zj Q4 Q6 Q7=>AEt AC3 rfl Dh (fun h' hb=>AMv Q7 hb (ASm (Aj.dj p1 p2 (by decide) _ (by simp [aO,aO2,Q4])) ASn)) (Wo (Wo (Wo ?_)));obtain ⟨Q8,Q9,G6⟩:=ABq Q3;have Rc:UpT ([Aa] ++ []) Ay Ay:=UpT.start (AEs (AHq (Aj.b p2) rfl) all_nil);refine ACl (K':=(fun xr h'=> ∃ x:(Int) × (Int),(x.1,x.2)=Q8/\xr=(.int .i64 x.1)/\Kst h h' ((AI3 Aj.L [1,2]).set 1 (aB 73 Aa [Ab,(.int .i64 x.2)]))/\UpT ([Aa] ++ []) Ay h')) Dh rfl ?_ fun Zk Zl Rd=>?_
        ·refine cwf (l:=[_,_]) Tryz.func46 rfl rfl (ABp (AC1 (Wo ?_)));obtain ⟨Re,G7,G8⟩:=ABq Q9;have G9:UpT ([Aa] ++ []) Ay Ay:=UpT.start (AEs (AHq (Aj.b p2) rfl) all_nil);refine ACl (K':=(fun xr h'=> ∃ x:(Int) × (Int),(x.1,x.2)=Re/\xr=(.int .i64 x.1)/\Kst h h' ((AI3 Aj.L [1,2]).set 1 (aB 73 Aa [Ab,(.int .i64 x.2)]))/\UpT ([Aa] ++ []) Ay h')) trivial rfl ?_ fun Zm Zn Rf=>?_
         ·refine cwf (l:=[_]) Tryz.func89 rfl rfl (ABp (ABv (ABr (ABr (AKm (Wo (AJ8 rfl (ADp AEw rfl (AB6 ADs rfl ((Aj.b p2).cell (i:=1) rfl) (Wo (AJ8 rfl (ADp AKo rfl (AB6 AQ5 rfl ((Aj.b p2).cell (i:=0) rfl) (ADh AR7 rfl H4 (ANd rfl rfl (ABt (⟨_,rfl,fun Dj=>?_,fun Dj=>?_⟩)))))))))))))))))
          ·refine ABp (ABv (ABx (AB4 (⟨_,ABz,((0,B5):(Int) × (Int)),?_,rfl,?_,?_⟩))))
           ·exact ABo (AC8 G7 Dj)
           ·exact Aj.sel [1,2] (by decide)
           ·exact G9
          ·refine ABy (q_t (ABp (Wo (AJ8 rfl (ADp AEw rfl (AB6 ADs rfl ((Aj.b p2).cell (i:=1) rfl) (ACz rfl rfl (AJ8 rfl (ADp AEw rfl (AUb [Ab,(.int .i64 (w64 (B5 + 1)))] ADs rfl rfl rfl (Aj.b p2) (Nat.le_of_ble_eq_true rfl) rfl fun Zo Hb Hc=>ABt (ABr (AKm (Wo (AJ8 rfl (ADp AKo rfl ?_)))))))))))))));have B6:=Aj.sb p2 Hc Hb rfl;refine AB6 AQ5 rfl ((B6.b p2).cell (i:=0) rfl) (Wo (AJ8 rfl (ADp AEw rfl (AB6 ADs rfl ((B6.b p2).cell (i:=1) rfl) (AIf rfl rfl ?_)))));obtain ⟨Rg,Rh,Ri⟩:=ABq (AC9 G7 Dj);refine AHe (c:=(cI .i8)) AR7 rfl H4 rfl Rh fun Zp Zq Zr Rj Rm=>?_;obtain rfl:=Rj;refine AB6 AZr rfl (AB1 (Rm 0 _ rfl) B6.x) (AM8 AZs ALk rfl (ABv (ABx (⟨_,ABz,(((w64 Rg),(w64 (B5 + 1))):(Int) × (Int)),?_,rfl,?_,?_⟩))))
           ·exact ABo Ri
           ·exact B6.sel [1,2] (by decide)
           ·exact (G9.then (Hb.stA Hc (AHq (Aj.b p2) rfl) rfl) (AN5 rfl))
         obtain ⟨⟨Rn,Ro⟩,Rq,rfl,Hd,Rr⟩:=Rf;(try dsimp only [Kst.L,List.set,AI3,AMm] at Hd);refine ⟨trivial,?_⟩;subst Rq;(try dsimp only at G8);refine AM8 ALk ASy rfl (AM8 ASy ATm rfl (Wo (AHh rfl rfl (by decide) (ABv (ABx (⟨_,ABz,(((Int.tmod (w64 (IntKind.wrap .u8 Rn)) 9),Ro):(Int) × (Int)),?_,rfl,?_,?_⟩))))))
         ·exact ABo G8
         ·exact Hd
         ·exact (Rc.then Rr (AEs (AN5 rfl) all_nil))
        obtain ⟨⟨He,Rs⟩,Rt,rfl,Dk,Ru⟩:=Rd;(try dsimp only [Kst.L,List.set,AI3,AMm] at Dk);refine ⟨(Dh.then Ru (AEs (AN5 rfl) all_nil)),?_⟩;subst Rt;(try dsimp only at G6);refine ACz rfl rfl ?_;obtain ⟨Zs,Hf,Rv⟩:=ABq G6;refine AD2 (m:=Aq) ACs rfl (Aj.o2 p1) Q6 Di rfl Hf fun Zt Rw=>AH9 (m:=Aq) (AG8 ACx rfl rfl rfl) (Dk.o2 p0) Rw Di Hf (show ((cI .i64)).rep _ (w64 (1 + He)) _ from rfl) fun Zu Rx Ry=>ACr (q_b (q_t (AB5 (ACz rfl rfl (Wo (ABt ?_))))));obtain rfl:=ABo Rv;exact ⟨Qo,(((w64 (Aq + 1)),Rs,(sI (sI Gz Aq (List.replicate (Int.toNat (w64 (1 + (Int.tmod (w64 a1) Af)))) (0:Int))) Aq (sI Q2 Aq (w64 (1 + He)))),(Qx :: (Dd.set (Int.toNat Aq) [G4]).flatten),(Dd.set (Int.toNat Aq) [G4]),(G3.set (Int.toNat Aq) Qr)):(Int) × (Int) × (LiI) × LnA × LnN × LvA),Nat.lt_succ_self _,⟨Df,(Dk.uO2 p0 Ry Rx)⟩,rfl,trivial⟩
       ·obtain rfl:=ABo (AC9 Bh Dg);change _=Gx at Df;subst Df;(try dsimp only at Gy);refine ACh (ACj (ACj (ADo (q_t (ABp (Wo (ABv (ABx (⟨_,ABz,((Gz,Gw,Qk,Dd,G3,B5):(LiI) × (Value) × LnA × LnN × LvA × (Int)),?_,rfl,?_⟩)))))))))
        ·exact ABo Gy
        ·exact De
      obtain ⟨⟨Rz,Gv,R3,R4,R5,R6⟩,R7,rfl,Hg⟩:=P7;(try dsimp only [Kst.L,List.set,AI3,AMm] at Hg);refine ⟨trivial,?_⟩;subst R7;(try dsimp only at Gu);refine ACk (ACr (q_b (q_t ?_)));exact ⟨((Rz,Gv,R3,R4,R5,R6):(LiI) × (Value) × LnA × LnN × LvA × (Int)),⟨ABo Gu,Hg⟩,rfl,trivial⟩
     ·refine AB5 (Wo (Wo ?_));obtain ⟨R8,R9,Hh⟩:=ABq (AC9 Gt Db);refine ACl (K':=(fun xr h'=> ∃ x:(LiI) × (Value) × LnA × LnN × LvA × (Int),(x.1,x.2.2.2.2.2)=R8/\xr=x.2.1/\Kst h h' (aO2 (cI .i64) 35 2 x.2.2.1 x.2.2.2.1 x.2.2.2.2.1 x.2.1 x.1 :: (Ao.L.set 0 (aB 73 Aa [Ab,(.int .i64 x.2.2.2.2.2)]))))) trivial rfl ?_ fun Hj Zv Sa=>?_
      ·refine cwf (l:=[_,_,_]) Tryz.func47 rfl rfl (ABp (AC1 (Wo ?_)));obtain ⟨Sb,Sc⟩:=ifN R9;refine ASb (cI .i64) 2 ACi AN2 rfl trivial tt2 rfl rfl (by decide) Sb fun Sd Se Sf Hk Zw Sg Sh Si=>ABv (ABr (ABp (Wo ?_)));have Dl:=Ao.no2 Sh Si Sg;refine ADa ACi rfl (Dl.o2 p0).rd (Wo (ABt (ABw ?_)));obtain ⟨Hl,Sj,Hm⟩:=ABq Sc;obtain ⟨Sk,Sm,Sn⟩:=ACe Sj;refine ACq 4294959360 (fun x:(Int) × (Int) × (LiI) × LnA × LnN × LvA=>[(13,(.int .i64 x.1))]) (fun k x h'=>iter Sk k (x.1,x.2.1,x.2.2.1)=some Hl/\Kst h h' ((Dl.L.set 0 (aO2 (cI .i64) 35 2 x.2.2.2.1 x.2.2.2.2.1 x.2.2.2.2.2 Hk x.2.2.1)).set 1 (aB 73 Aa [Ab,(.int .i64 x.2.1)]))) (by kernel_rfl) fuel ((0,0,(List.replicate (Int.toNat (w64 (1 + (Int.tmod (w64 a1) Af)))) ([]:List Int)),Sd,Se,Sf):(Int) × (Int) × (LiI) × LnA × LnN × LvA) ?_ ⟨rfl,trivial⟩ ?_
       ·exact ⟨Sn,Dl⟩
       rintro Zx ⟨Ar,B7,Hn,So,Dn,Ho⟩ Sq Sr ⟨Ss,Do⟩;(try dsimp only [Kst.L,List.set,AI3,AMm] at Do);refine (show W _ _ _ (setL [(13,(.int .i64 Ar))] (mix _ Sq _)) Sr from ?_);obtain ⟨St,Zy,rfl,Bj,Dp⟩:=AB7 Ss;rw [Sm] at Bj;dsimp only at Bj;unfold AFz at Bj;refine ABp (ACu rfl rfl (ABt (ABr (⟨_,rfl,fun Dq=>?_,fun Dq=>?_⟩))))
       ·refine ABy (q_t (ABr (ABw (ABp (Wo (AC1 (Wo (Wo (Wo ?_)))))))));obtain ⟨Su,Sv⟩:=ifN (AC8 Bj Dq);refine ARb (c:=(cI .i64)) (a:=0) ACs AMw rfl rfl (fun _=>rfl) rfl trivial tt2 rfl rfl (by decide) Su fun Hq Sw Zz Sx Sy Sz S0=>?_;have Bl:=Do.no Sy (AIj Sz S0) Sx;obtain ⟨Z0,Hr,S2⟩:=ABq Sv;refine ADl ACi rfl (Bl.o2 p1) rfl Hr fun S3 Z4 S4 AAa AAb=>AS0 AC3 (Bl.o2 p1) Hr S4 rfl rfl (Bl.o p0) (Bl.dj p0 p1 (by decide)) fun Az Ta Tb Tc=>ABt (AEd (fun h'=>UpT ([Aa] ++ []) Az h') (by kernel_rfl) ?_);have Ak:=Bl.m2 p0 p1 (by decide) Tb Ta (fun z hz=> .inl (Tc z hz));have Dr:UpT ([Aa] ++ []) Az Az:=UpT.start (AEs (AHq (Ak.b p2) rfl) all_nil);refine Wo (Wo ?_);obtain ⟨Td,Ds,Te⟩:=ABq S2;refine ADl ACi rfl (Ak.o2 p1) rfl Ds fun AAc AAd Tf Tg Th=>AEt AC3 rfl Dr (fun h' hb=>AMv Th hb (ASm (Ak.dj p1 p2 (by decide) _ (by simp [aO,aO2,Tf])) ASn)) (Wo (Wo (Wo ?_)));obtain ⟨Ti,Tj,Hs⟩:=ABq Te;have Tk:UpT ([Aa] ++ []) Az Az:=UpT.start (AEs (AHq (Ak.b p2) rfl) all_nil);refine ACl (K':=(fun xr h'=> ∃ x:(Int) × (Int),(x.1,x.2)=Ti/\xr=(.int .i64 x.1)/\Kst h h' ((AI3 Ak.L [1,2]).set 1 (aB 73 Aa [Ab,(.int .i64 x.2)]))/\UpT ([Aa] ++ []) Az h')) Dr rfl ?_ fun AAe AAf Tl=>?_
        ·refine cwf (l:=[_,_]) Tryz.func46 rfl rfl (ABp (AC1 (Wo ?_)));obtain ⟨Tm,Ht,Hu⟩:=ABq Tj;have Hv:UpT ([Aa] ++ []) Az Az:=UpT.start (AEs (AHq (Ak.b p2) rfl) all_nil);refine ACl (K':=(fun xr h'=> ∃ x:(Int) × (Int),(x.1,x.2)=Tm/\xr=(.int .i64 x.1)/\Kst h h' ((AI3 Ak.L [1,2]).set 1 (aB 73 Aa [Ab,(.int .i64 x.2)]))/\UpT ([Aa] ++ []) Az h')) trivial rfl ?_ fun AAg AAh Tn=>?_
         ·refine cwf (l:=[_]) Tryz.func89 rfl rfl (ABp (ABv (ABr (ABr (AKm (Wo (AJ8 rfl (ADp AEw rfl (AB6 ADs rfl ((Ak.b p2).cell (i:=1) rfl) (Wo (AJ8 rfl (ADp AKo rfl (AB6 AQ5 rfl ((Ak.b p2).cell (i:=0) rfl) (ADh AR7 rfl H4 (ANd rfl rfl (ABt (⟨_,rfl,fun Dt=>?_,fun Dt=>?_⟩)))))))))))))))))
          ·refine ABp (ABv (ABx (AB4 (⟨_,ABz,((0,B7):(Int) × (Int)),?_,rfl,?_,?_⟩))))
           ·exact ABo (AC8 Ht Dt)
           ·exact Ak.sel [1,2] (by decide)
           ·exact Hv
          ·refine ABy (q_t (ABp (Wo (AJ8 rfl (ADp AEw rfl (AB6 ADs rfl ((Ak.b p2).cell (i:=1) rfl) (ACz rfl rfl (AJ8 rfl (ADp AEw rfl (AUb [Ab,(.int .i64 (w64 (B7 + 1)))] ADs rfl rfl rfl (Ak.b p2) (Nat.le_of_ble_eq_true rfl) rfl fun AAi Hw Hx=>ABt (ABr (AKm (Wo (AJ8 rfl (ADp AKo rfl ?_)))))))))))))));have B8:=Ak.sb p2 Hx Hw rfl;refine AB6 AQ5 rfl ((B8.b p2).cell (i:=0) rfl) (Wo (AJ8 rfl (ADp AEw rfl (AB6 ADs rfl ((B8.b p2).cell (i:=1) rfl) (AIf rfl rfl ?_)))));obtain ⟨To,Tp,Tq⟩:=ABq (AC9 Ht Dt);refine AHe (c:=(cI .i8)) AR7 rfl H4 rfl Tp fun AAj AAk AAl Tr Ts=>?_;obtain rfl:=Tr;refine AB6 AZr rfl (AB1 (Ts 0 _ rfl) B8.x) (AM8 AZs ALk rfl (ABv (ABx (⟨_,ABz,(((w64 To),(w64 (B7 + 1))):(Int) × (Int)),?_,rfl,?_,?_⟩))))
           ·exact ABo Tq
           ·exact B8.sel [1,2] (by decide)
           ·exact (Hv.then (Hw.stA Hx (AHq (Ak.b p2) rfl) rfl) (AN5 rfl))
         obtain ⟨⟨Tt,Tu⟩,Tv,rfl,Hy,Tw⟩:=Tn;(try dsimp only [Kst.L,List.set,AI3,AMm] at Hy);refine ⟨trivial,?_⟩;subst Tv;(try dsimp only at Hu);refine AM8 ALk ASy rfl (AM8 ASy ATm rfl (Wo (AHh rfl rfl (by decide) (ABv (ABx (⟨_,ABz,(((Int.tmod (w64 (IntKind.wrap .u8 Tt)) 1),Tu):(Int) × (Int)),?_,rfl,?_,?_⟩))))))
         ·exact ABo Hu
         ·exact Hy
         ·exact (Tk.then Tw (AEs (AN5 rfl) all_nil))
        obtain ⟨⟨Hz,Tx⟩,Ty,rfl,Du,Tz⟩:=Tl;(try dsimp only [Kst.L,List.set,AI3,AMm] at Du);refine ⟨(Dr.then Tz (AEs (AN5 rfl) all_nil)),?_⟩;subst Ty;(try dsimp only at Hs);refine ACz rfl rfl ?_;obtain ⟨AAm,H5,T0⟩:=ABq Hs;refine AD2 (m:=Ar) ACs rfl (Ak.o2 p1) Tg Ds rfl H5 fun AAn T1=>AH9 (m:=Ar) (AG8 ACx rfl rfl rfl) (Du.o2 p0) T1 Ds H5 (show ((cI .i64)).rep _ (w64 (1 + Hz)) _ from rfl) fun AAo T3 T4=>ACr (q_b (q_t (AB5 (ACz rfl rfl (Wo (ABt ?_))))));obtain rfl:=ABo T0;exact ⟨St,(((w64 (Ar + 1)),Tx,(sI (sI Hn Ar (List.replicate (Int.toNat (w64 (1 + (Int.tmod (w64 a1) Af)))) (0:Int))) Ar (sI Td Ar (w64 (1 + Hz)))),(S3 :: (Dn.set (Int.toNat Ar) [Hq]).flatten),(Dn.set (Int.toNat Ar) [Hq]),(Ho.set (Int.toNat Ar) Sw)):(Int) × (Int) × (LiI) × LnA × LnN × LvA),Nat.lt_succ_self _,⟨Dp,(Du.uO2 p0 T4 T3)⟩,rfl,trivial⟩
       ·obtain rfl:=ABo (AC9 Bj Dq);change _=Hl at Dp;subst Dp;(try dsimp only at Hm);refine ACh (ACj (ACj (ADo (q_t (ABp (Wo (ABv (ABx (⟨_,ABz,((Hn,Hk,So,Dn,Ho,B7):(LiI) × (Value) × LnA × LnN × LvA × (Int)),?_,rfl,?_⟩)))))))))
        ·exact ABo Hm
        ·exact Do
      obtain ⟨⟨T5,Hj,T6,T7,T8,T9⟩,Ua,rfl,H9⟩:=Sa;(try dsimp only [Kst.L,List.set,AI3,AMm] at H9);refine ⟨trivial,?_⟩;subst Ua;(try dsimp only at Hh);refine ACk (ACr (q_b (q_t ?_)));exact ⟨((T5,Hj,T6,T7,T8,T9):(LiI) × (Value) × LnA × LnN × LvA × (Int)),⟨ABo Hh,H9⟩,rfl,trivial⟩
 rintro ⟨AAp,Ub,AAq,AAr,AAs,Uc⟩ Ud Ue ⟨Uf,Dv⟩;(try dsimp only [Kst.L,List.set,AI3,AMm] at Dv);refine (show W _ _ _ (setL [(7,Ub)] (mix _ Ud _)) Ue from ?_);subst Uf;(try dsimp only at Ea);refine ABr (ABp (Wo ?_));obtain ⟨AAt,Ug,Ia⟩:=ABq Ea;refine ADb rfl (AT0 (Dv.o2 p0).rd Ug) fun AAu AAv Uh Ui=>?_;subst Ui;refine AE1 rfl (ABt ?_);have Bm:=Dv.e Uh;refine ⟨_,rfl,fun Dw=>?_,fun Dw=>?_⟩
 ·refine ABp (Wo (Wo ?_));obtain ⟨Uj,Uk,Ib⟩:=ABq (ifT Ia Dw);refine ACl (K':=(fun xr h'=> ∃ x:(LiI) × (Value) × LnA × LnN × LvA × (Int),(x.1,x.2.2.2.2.2)=Uj/\xr=x.2.1/\Kst h h' (aO2 (cI .i64) 35 2 x.2.2.1 x.2.2.2.1 x.2.2.2.2.1 x.2.1 x.1 :: (Bm.L.set 1 (aB 73 Aa [Ab,(.int .i64 x.2.2.2.2.2)]))))) trivial rfl ?_ fun Ul AAw Um=>?_
  ·refine cwf (l:=[_,_,_]) Tryz.func47 rfl rfl (ABp (AC1 (Wo ?_)));obtain ⟨Un,Uo⟩:=ifN Uk;refine ASb (cI .i64) 2 ACi AN2 rfl trivial tt2 rfl rfl (by decide) Un fun Up Uq Ur Ic AAx Us Ut Uu=>ABv (ABr (ABp (Wo ?_)));have Dx:=Bm.no2 Ut Uu Us;refine ADa ACi rfl (Dx.o2 p0).rd (Wo (ABt (ABw ?_)));obtain ⟨Id,Uv,Ie⟩:=ABq Uo;obtain ⟨Uw,Ux,Uy⟩:=ACe Uv;refine ACq 4294959360 (fun x:(Int) × (Int) × (LiI) × LnA × LnN × LvA=>[(13,(.int .i64 x.1))]) (fun k x h'=>iter Uw k (x.1,x.2.1,x.2.2.1)=some Id/\Kst h h' ((Dx.L.set 0 (aO2 (cI .i64) 35 2 x.2.2.2.1 x.2.2.2.2.1 x.2.2.2.2.2 Ic x.2.2.1)).set 2 (aB 73 Aa [Ab,(.int .i64 x.2.1)]))) (by kernel_rfl) fuel ((0,Uc,(List.replicate (Int.toNat (w64 (1 + (Int.tmod (w64 a1) Af)))) ([]:List Int)),Up,Uq,Ur):(Int) × (Int) × (LiI) × LnA × LnN × LvA) ?_ ⟨rfl,trivial⟩ ?_
   ·exact ⟨Uy,Dx⟩
   rintro AAy ⟨Au,B9,If,Uz,Dy,Ih⟩ U0 U3 ⟨U8,Dz⟩;(try dsimp only [Kst.L,List.set,AI3,AMm] at Dz);refine (show W _ _ _ (setL [(13,(.int .i64 Au))] (mix _ U0 _)) U3 from ?_);obtain ⟨Va,AAz,rfl,Bn,D0⟩:=AB7 U8;rw [Ux] at Bn;dsimp only at Bn;unfold AF0 at Bn;refine ABp (ACu rfl rfl (ABt (ABr (⟨_,rfl,fun D1=>?_,fun D1=>?_⟩))))
   ·refine ABy (q_t (ABr (ABw (ABp (Wo (AC1 (Wo (Wo (Wo ?_)))))))));obtain ⟨Vb,Vc⟩:=ifN (AC8 Bn D1);refine ARb (c:=(cI .i64)) (a:=0) ACs AMw rfl rfl (fun _=>rfl) rfl trivial tt2 rfl rfl (by decide) Vb fun Ii Vd AA0 Ve Vf Vg Vh=>?_;have Bo:=Dz.no Vf (AIj Vg Vh) Ve;obtain ⟨AA1,Ij,Vi⟩:=ABq Vc;refine ADl ACi rfl (Bo.o2 p1) rfl Ij fun Vj AA2 Vk AA3 AA4=>AS0 AC3 (Bo.o2 p1) Ij Vk rfl rfl (Bo.o p0) (Bo.dj p0 p1 (by decide)) fun A3 Vl Vm Vn=>ABt (AEd (fun h'=>UpT ([Aa] ++ []) A3 h') (by kernel_rfl) ?_);have Am:=Bo.m2 p0 p1 (by decide) Vm Vl (fun z hz=> .inl (Vn z hz));have D2:UpT ([Aa] ++ []) A3 A3:=UpT.start (AEs (AHq (Am.b p3) rfl) all_nil);refine Wo (Wo ?_);obtain ⟨Vo,D3,Vp⟩:=ABq Vi;refine ADl ACi rfl (Am.o2 p1) rfl D3 fun AA5 AA6 Vq Vr Vs=>AEt AC3 rfl D2 (fun h' hb=>AMv Vs hb (ASm (Am.dj p1 p3 (by decide) _ (by simp [aO,aO2,Vq])) ASn)) (Wo (Wo (Wo ?_)));obtain ⟨Vt,Vu,Ik⟩:=ABq Vp;have Vv:UpT ([Aa] ++ []) A3 A3:=UpT.start (AEs (AHq (Am.b p3) rfl) all_nil);refine ACl (K':=(fun xr h'=> ∃ x:(Int) × (Int),(x.1,x.2)=Vt/\xr=(.int .i64 x.1)/\Kst h h' ((AI3 Am.L [1,2,3]).set 2 (aB 73 Aa [Ab,(.int .i64 x.2)]))/\UpT ([Aa] ++ []) A3 h')) D2 rfl ?_ fun AA7 AA8 Vw=>?_
    ·refine cwf (l:=[_,_]) Tryz.func46 rfl rfl (ABp (AC1 (Wo ?_)));obtain ⟨Vx,Il,Im⟩:=ABq Vu;have Io:UpT ([Aa] ++ []) A3 A3:=UpT.start (AEs (AHq (Am.b p3) rfl) all_nil);refine ACl (K':=(fun xr h'=> ∃ x:(Int) × (Int),(x.1,x.2)=Vx/\xr=(.int .i64 x.1)/\Kst h h' ((AI3 Am.L [1,2,3]).set 2 (aB 73 Aa [Ab,(.int .i64 x.2)]))/\UpT ([Aa] ++ []) A3 h')) trivial rfl ?_ fun AA9 ABa Vy=>?_
     ·refine cwf (l:=[_]) Tryz.func89 rfl rfl (ABp (ABv (ABr (ABr (AKm (Wo (AJ8 rfl (ADp AEw rfl (AB6 ADs rfl ((Am.b p3).cell (i:=1) rfl) (Wo (AJ8 rfl (ADp AKo rfl (AB6 AQ5 rfl ((Am.b p3).cell (i:=0) rfl) (ADh AR7 rfl H4 (ANd rfl rfl (ABt (⟨_,rfl,fun D4=>?_,fun D4=>?_⟩)))))))))))))))))
      ·refine ABp (ABv (ABx (AB4 (⟨_,ABz,((0,B9):(Int) × (Int)),?_,rfl,?_,?_⟩))))
       ·exact ABo (AC8 Il D4)
       ·exact Am.sel [1,2,3] (by decide)
       ·exact Io
      ·refine ABy (q_t (ABp (Wo (AJ8 rfl (ADp AEw rfl (AB6 ADs rfl ((Am.b p3).cell (i:=1) rfl) (ACz rfl rfl (AJ8 rfl (ADp AEw rfl (AUb [Ab,(.int .i64 (w64 (B9 + 1)))] ADs rfl rfl rfl (Am.b p3) (Nat.le_of_ble_eq_true rfl) rfl fun ABb Ip Iq=>ABt (ABr (AKm (Wo (AJ8 rfl (ADp AKo rfl ?_)))))))))))))));have Ca:=Am.sb p3 Iq Ip rfl;refine AB6 AQ5 rfl ((Ca.b p3).cell (i:=0) rfl) (Wo (AJ8 rfl (ADp AEw rfl (AB6 ADs rfl ((Ca.b p3).cell (i:=1) rfl) (AIf rfl rfl ?_)))));obtain ⟨Vz,V1,V6⟩:=ABq (AC9 Il D4);refine AHe (c:=(cI .i8)) AR7 rfl H4 rfl V1 fun ABc ABd ABe Wa Wb=>?_;obtain rfl:=Wa;refine AB6 AZr rfl (AB1 (Wb 0 _ rfl) Ca.x) (AM8 AZs ALk rfl (ABv (ABx (⟨_,ABz,(((w64 Vz),(w64 (B9 + 1))):(Int) × (Int)),?_,rfl,?_,?_⟩))))
       ·exact ABo V6
       ·exact Ca.sel [1,2,3] (by decide)
       ·exact (Io.then (Ip.stA Iq (AHq (Am.b p3) rfl) rfl) (AN5 rfl))
     obtain ⟨⟨Wc,Wd⟩,We,rfl,Ir,Wf⟩:=Vy;(try dsimp only [Kst.L,List.set,AI3,AMm] at Ir);refine ⟨trivial,?_⟩;subst We;(try dsimp only at Im);refine AM8 ALk ASy rfl (AM8 ASy ATm rfl (Wo (AHh rfl rfl (by decide) (ABv (ABx (⟨_,ABz,(((Int.tmod (w64 (IntKind.wrap .u8 Wc)) 2),Wd):(Int) × (Int)),?_,rfl,?_,?_⟩))))))
     ·exact ABo Im
     ·exact Ir
     ·exact (Vv.then Wf (AEs (AN5 rfl) all_nil))
    obtain ⟨⟨Is,Wg⟩,Wh,rfl,D5,Wi⟩:=Vw;(try dsimp only [Kst.L,List.set,AI3,AMm] at D5);refine ⟨(D2.then Wi (AEs (AN5 rfl) all_nil)),?_⟩;subst Wh;(try dsimp only at Ik);refine ACz rfl rfl ?_;obtain ⟨ABf,It,Wj⟩:=ABq Ik;refine AD2 (m:=Au) ACs rfl (Am.o2 p1) Vr D3 rfl It fun ABg Wk=>AH9 (m:=Au) (AG8 ACx rfl rfl rfl) (D5.o2 p0) Wk D3 It (show ((cI .i64)).rep _ (w64 (1 + Is)) _ from rfl) fun ABh Wl Wm=>ACr (q_b (q_t (AB5 (ACz rfl rfl (Wo (ABt ?_))))));obtain rfl:=ABo Wj;exact ⟨Va,(((w64 (Au + 1)),Wg,(sI (sI If Au (List.replicate (Int.toNat (w64 (1 + (Int.tmod (w64 a1) Af)))) (0:Int))) Au (sI Vo Au (w64 (1 + Is)))),(Vj :: (Dy.set (Int.toNat Au) [Ii]).flatten),(Dy.set (Int.toNat Au) [Ii]),(Ih.set (Int.toNat Au) Vd)):(Int) × (Int) × (LiI) × LnA × LnN × LvA),Nat.lt_succ_self _,⟨D0,(D5.uO2 p0 Wm Wl)⟩,rfl,trivial⟩
   ·obtain rfl:=ABo (AC9 Bn D1);change _=Id at D0;subst D0;(try dsimp only at Ie);refine ACh (ACj (ACj (ADo (q_t (ABp (Wo (ABv (ABx (⟨_,ABz,((If,Ic,Uz,Dy,Ih,B9):(LiI) × (Value) × LnA × LnN × LvA × (Int)),?_,rfl,?_⟩)))))))))
    ·exact ABo Ie
    ·exact Dz
  obtain ⟨⟨ABi,Ul,ABj,ABk,ABl,ABm⟩,Wn,rfl,Cb⟩:=Um;(try dsimp only [Kst.L,List.set,AI3,AMm] at Cb);refine ⟨trivial,?_⟩;subst Wn;(try dsimp only at Ib);refine ABv (ABx (AB4 ?_));obtain rfl:=ABo Ib;exact ⟨_,ABz,Cb.x,_,_,_,_,rfl,(Cb.o2 p0),Cb.s.sel [0] (by decide)⟩
 ·refine ABy (q_t (ABp (Wo (ABv (ABx ?_)))));obtain rfl:=ABo (AH8 Ia Dw);exact ⟨_,ABz,Bm.x,_,_,_,_,rfl,(Bm.o2 p0),Bm.s.sel [0] (by decide)⟩
def AFu (fuel:Nat) (a1 a2:Int) (a5 a9:LiA) (Ae:Int):Option LiI:=
  ((AFt fuel a1 a2 a5 a9 Ae).bind fun Af=>((AE9 fuel Af).bind fun Ag=>((AHu fuel Ag).bind fun (Ah,Ai,Aj)=>(some Ah))))
theorem APl {fuel:Nat} {h:ABu} {a1 a2:Int} {Ac:Value} {a5:LiA} {Ad:Value} {a9:LiA} {Ai:Int} {r:LiI} (H4:SlC (cI .i8) h Ac a5) (H8:SlC (cI .i8) h Ad a9) (hp:AFu fuel a1 a2 a5 a9 Ai=some r):ACn Tryz.prog 7 #[(.agg #[(.int .u8 a1),(.int .u8 a2),Ac,Ad]),(.int .i64 Ai)] h (fun x h'=>Ext h h'/\ ∃ (x0:Value) (F0:List Nat) (Au:List LnA) (Av:List Value),x=x0/\AFf (cI .i64) 35 2 h' F0 Au Av x0 r/\Sp h' h.size [F0]):=by
 unfold AFu at hp;refine cwf (l:=[_,_]) Tryz.func7 rfl rfl (ABp (AGo [(.int .u8 a1),(.int .u8 a2),Ac,Ad] trivial tt2 rfl rfl fun Bx By Aw Ax Ay=>AC1 ?_));have Ae:=(Kst.k0 h).nb Ax Ay Aw;refine AEu [(.int .u8 a1),(.int .u8 a2),Ac,Ad] Anf rfl rfl (Ae.b p0).agg (Wo ?_);obtain ⟨Bz,Az,A3⟩:=ABq hp;refine ADb rfl (APk (H4.ext Ae.x) (H8.ext Ae.x) Az) fun B1 B3 A4 A5=>?_;obtain ⟨B4,B5,B6,B7,rfl,A6,A7⟩:=A5;have Am:=Ae.no2 A4 A7 A6;obtain ⟨B8,A8,A9⟩:=ABq A3;refine ADb rfl (AJ3 (Am.o2 p0).rd A8) fun B9 Ca Ba Bb=>?_;obtain ⟨Cb,Cd,Ce,Cf,rfl,Bc,Be⟩:=Bb;have Ao:=Am.no2 Ba Be Bc;obtain ⟨⟨Bf,Bg,Cg⟩,Bh,Ap⟩:=ABq A9;dsimp only at Ap;refine ADb rfl (ARy (Ao.o2 p0).rd Bh) fun Ch Ci Bi Bj=>?_;obtain ⟨Bl,Bm,Bn,Bo,Bp,Bq,Br,Bt,rfl,Bu,Bv,Bw⟩:=Bj;have Af:=Ao.n Bi [aO2 (cI .i64) 35 2 Bm Bn Bo Bl Bf,aO2 cZ 100 90 Bq Br Bt Bp Bg] Bw ⟨Bu,Bv,trivial⟩;simp only [List.cons_append,List.nil_append] at Af;refine Wo (ADm rfl rfl (ADm rfl rfl (ADm rfl rfl (ACk (ACk (AC1 (Wo (ABv (ABx ?_)))))))));obtain rfl:=ABo Ap;exact ⟨_,ABz,Af.x,_,_,_,_,rfl,(Af.o2 p0),Af.s.sel [0] (by decide)⟩
end Go.Proofs.YtdnbklmefmoofaaGreatDoor
namespace Go.Proofs.YtdnbklmefmoofaaGreatDoor.Ig
open Go Go.QF
set_option maxRecDepth 100000
structure Aqf (h:ABu) (v:Value) (L:List Nat) (v':Value) (L':List Nat):Prop where
  sl:Sl h v' (L'.map AN4)
  cap:AP1 v'
  dig:Dig L'
  blk:v'.ownBlock=v.ownBlock
  val:nv L'=nv L
  len:L'.length<=L.length
  tg:∀ g,v.ownBlock=some g-> ∃ cur off,h[g]? =some (.cells cur 157 off)
theorem Aqf.ds {h:ABu} {lo:Nat} {v v':Value} {L L':List Nat} (H:Aqf h v L v' L') (hl:∀ g,v.ownBlock=some g->lo<=g):DS h lo v' L':=⟨H.sl,H.cap,H.dig,fun g hg=>hl g (H.blk ▸ hg),fun g hg=>H.tg g (H.blk ▸ hg)⟩
theorem Ang {L:List Nat} (h:L[L.length - 1]? =some 0):nv (L.take (L.length - 1))=nv L:=by
 have h1:L=L.take (L.length - 1) ++ [0]:=by
   have:=Abk h
   rw [this,List.take_of_length_le (by have:=(List.getElem?_eq_some_iff.1 h).1;omega)]
 conv=>rhs;rw [h1,AL4]
 simp
theorem AM6 {h:ABu} {v:Value} {L:List Nat} (H:DS h 0 v L) (hn:L.length<=1000000):ACn Tryz.prog 147 #[v] h fun x h'=>h'=h/\ ∃ L',Aqf h v L x L'/\TL L':=by
 refine AC5 (l:=[_]) mx Tryz.func147 rfl rfl rfl rfl rfl (by kernel_rfl) (ABp (ABv (ABr (ABw (ACq 1048569 (fun y:Value × List Nat=>[(0,y.1)]) (fun k y h'=>h'=h/\y.2.length=k/\Aqf h v L y.1 y.2) (by kernel_rfl) L.length (v,L) ?_ ⟨rfl,trivial⟩ ?_)))))
 ·exact ⟨rfl,rfl,H.sl,H.cap,H.dig,rfl,rfl,Nat.le_refl _,H.tg⟩
 rintro k ⟨u,Lu⟩ s1 h ⟨rfl,rfl,HT⟩;dsimp only at HT ⊢;refine ABr (ABp (Wo (AV5 ACc rfl HT.sl ?_)));rw [List.length_map];have hLlen:=HT.len;refine AQ4 rfl rfl (fun Aa=>?_) (fun Aa=>?_)
 ·refine Wo (ADn 6 true (by kernel_rfl) rfl rfl (Wo (ADn 6 true (by kernel_rfl) rfl rfl (Wo (ADn 6 true (by kernel_rfl) rfl rfl (AV5 ACc rfl HT.sl ?_))))));rw [List.length_map];refine ADn 6 true (by kernel_rfl) rfl rfl (AM9 rfl rfl (by omega) (by omega) ?_);rw [show ((Lu.length:Nat):Int) - 1=((Lu.length - 1:Nat):Int) by omega];obtain ⟨x,hx⟩:∃ x,Lu[Lu.length - 1]? =some x:=⟨_,List.getElem?_eq_getElem (by omega)⟩;refine ADn 6 true (by kernel_rfl) rfl rfl (AZn ACc rfl HT.sl rfl (AR8 hx) fun a1 Ab=>ADn 6 true (by kernel_rfl) rfl rfl (AB6 AEf rfl Ab (ADn 6 true (by kernel_rfl) rfl rfl (ASv rfl rfl (fun Ac=>?_) (fun Ac=>?_)))))
  ·refine AB2 rfl (ABt (ACd rfl (ABy (q_t (ABw (AB5 (Wo (Wo (AV5 ACc rfl HT.sl ?_)))))))));rw [List.length_map];refine AM9 rfl rfl (by omega) (by omega) ?_;rw [show ((Lu.length:Nat):Int) - 1=((Lu.length - 1:Nat):Int) by omega];have Ad:Lu[Lu.length - 1]? =some 0:=by rw [hx];congr 1;omega
   refine Acq (v:=u) ACc rfl HT.sl HT.cap rfl (by rw [List.length_map];omega) fun v9 Af Ag Ah=>?_;refine ACk (ACr (q_b (q_t ?_)));exact ⟨Lu.length - 1,(v9,Lu.take (Lu.length - 1)),by first | omega | (dsimp only;omega),⟨rfl,by simp,⟨by dsimp only;rw [List.map_take];exact Af,Ag,AWz HT.dig _,Ah.trans HT.blk,by rw [Ang Ad];exact HT.val,by rw [List.length_take];have:=HT.len;omega,HT.tg⟩⟩,rfl,trivial⟩
  ·refine AB2 rfl (ABt (ACo rfl (ACh (ACj (ACj (ADo (q_t (ABp (Wo (ABv (ABx (⟨_,ABz,?_⟩))))))))))));refine ⟨rfl,Lu,HT,fun y hy=>?_⟩
   first
   | (have:Lu=[]:=List.length_eq_zero_iff.1 (by omega);rw [this] at hy;cases hy)
   | (rw [List.getLast?_eq_getElem?,hx] at hy;injection hy with hy;subst hy;omega)
 ·refine Wo (ADd 6 false (by kernel_rfl) rfl rfl (ADd 6 false (by kernel_rfl) rfl rfl (ADd 6 false (by kernel_rfl) rfl rfl (ADd 6 false (by kernel_rfl) rfl rfl (ADd 6 false (by kernel_rfl) rfl rfl (ADd 6 false (by kernel_rfl) rfl rfl (ADd 6 false (by kernel_rfl) rfl rfl (AB0 rfl (ABt (ACo rfl (ACh (ACj (ACj (ADo (q_t (ABp (Wo (ABv (ABx (⟨_,ABz,?_⟩))))))))))))))))))));refine ⟨rfl,Lu,HT,fun y hy=>?_⟩
  first
  | (have:Lu=[]:=List.length_eq_zero_iff.1 (by omega);rw [this] at hy;cases hy)
  | (rw [List.getLast?_eq_getElem?,hx] at hy;injection hy with hy;subst hy;omega)
theorem AP4 (w:Nat) (hw:w < 18446744073709551616) (h:ABu):ACn Tryz.prog 144 #[.int .u64 (w:Int)] h fun x h'=>Ext h h'/\ ∃ L,DS h' (Array.size h) x L/\TL L/\nv L=w/\L.length<=2:=by
 refine AC5 (l:=[_]) mx Tryz.func144 rfl rfl rfl rfl rfl (by kernel_rfl) (ABp (AC1 (Wo (AM8 AEl AEy rfl ?_))));rw [show IntKind.u32.wrap (w:Int)=((w % 4294967296:Nat):Int) by rw [wrap_u32];omega];refine Wo (AZw (n:=32) rfl rfl (by decide) (AM8 AEl AEy rfl ?_));rw [show IntKind.u32.wrap ((w:Int) / 2 ^ 32)=((w / 4294967296:Nat):Int) by rw [wrap_u32];omega];have e1:IntKind.u32.wrap (w:Int)=((w % 4294967296:Nat):Int):=by rw [wrap_u32];omega
 have e2:IntKind.u32.wrap ((w:Int) / 2 ^ 32)=((w / 4294967296:Nat):Int):=by rw [wrap_u32];omega
 have hdg:Dig [w % 4294967296,w / 4294967296]:=by intro x hx;simp only [List.mem_cons,List.not_mem_nil,or_false] at hx;rcases hx with rfl | rfl <;> omega
 refine Alw ([w % 4294967296,w / 4294967296].map AN4) ACc AL9 rfl (fun _=>trivial) rfl (by omega) (by omega) rfl (by simp [AN4,isOne]) fun g1 v1 h1 Ad E1 Ae Aj=>?_;have Ak:=E1.1;have Z2:=(Ext.refl h).trans E1;have Ab:=Ad.ds (lo:=Array.size h) hdg Ae;refine ACl trivial rfl (AM6 (Ab.mono (Nat.zero_le _)) (by simp)) fun x3 h1 hk=>?_;obtain ⟨rfl,L2,HT,htl⟩:=hk;refine ⟨trivial,?_⟩;refine ABv (ABx (⟨_,ABz,?_⟩));exact ⟨E1,L2,HT.ds Ab.lo,htl,by rw [HT.val];simp only [nv];omega,by have:=HT.len;simpa using this⟩
theorem AY9 {h:ABu} {lo:Nat} {v:Value} {L:List Nat} (H:DS h lo v L) (hn:L.length<=2):ACn Tryz.prog 161 #[v] h fun x h'=>h'=h/\x= .int .u64 (nv L:Int):=by
 refine AC5 (l:=[_]) mx Tryz.func161 rfl rfl rfl rfl rfl (by kernel_rfl) (ABp (AC1 (ABv (ABr (ABp (Wo (AV5 ACc rfl H.sl ?_)))))));rw [List.length_map];refine Wo (ABt (ABw (ACq 2096952 (fun y:Nat × Nat=>[(8,.int .i64 (y.1:Int)),(3,.int .u64 (y.2:Int))]) (fun k y h'=>h'=h/\k=L.length - y.1/\y.1<=L.length/\y.2=nv (L.take y.1)) (by kernel_rfl) L.length (0,0) ?_ ⟨rfl,rfl,trivial⟩ ?_)))
 ·exact ⟨rfl,rfl,Nat.zero_le _,rfl⟩
 rintro k ⟨i,w⟩ s1 h ⟨rfl,rfl,hi,hw⟩;dsimp only at hi hw ⊢;subst hw;refine ABp (AF5 rfl rfl (fun Ab=>?_) (fun Ab=>?_))
 ·refine ABt (ABr (ACd rfl (ABy (q_t (ABr (ABw (ABr ?_)))))));obtain ⟨x,hx⟩:∃ x,L[i]? =some x:=⟨_,List.getElem?_eq_getElem (by omega)⟩;have hxb:=H.dig x (List.mem_of_getElem? hx);refine AB5 (Wo (AZn ACc rfl H.sl rfl (AR8 hx) fun Af Ac=>AB6 AEf rfl Ac (ACk (ABv (AB5 (Wo (Wo (Are AEy AEl rfl (by rw [wrap_u64];omega) ?_))))))));refine Wo (AOh rfl rfl (by omega) (by omega) ?_);rw [show (32:Int) * (i:Int)=((32 * i:Nat):Int) by omega];refine Abm (n:=32 * i) rfl rfl (by show 32 * i<=64;omega) ?_;have Aa:i=0∨i=1:=by omega
  have hlt:=AQ8 H.dig hi
  have hsh:IntKind.u64.wrap ((x:Int) * 2 ^ (32 * i))=((2 ^ (32 * i) * x:Nat):Int):=by
    rw [wrap_u64]
    rcases Aa with rfl | rfl
    · simp;omega
    · simp;omega
  rw [hsh]
  have Ad:2 ^ (32 * i) * x < 18446744073709551616:=by
    rcases Aa with rfl | rfl
    · simp;omega
    · simp;omega
  have Ae:nv (L.take i) < 18446744073709551616:=by
    rcases Aa with rfl | rfl
    · simp at hlt ⊢;omega
    · simp at hlt ⊢;omega
  refine AWa rfl rfl (.inr (.inl rfl)) (Aly Ae Ad) ?_;rw [Alz (by rw [<- AWb];exact hlt),<- AWb,<- ADx hx];refine ACk (ACr (q_b (q_t (AB5 (AKl rfl (by omega) (Wo (ABt ?_)))))));exact ⟨L.length - (i + 1),(i + 1,nv (L.take (i + 1))),by first | omega | (dsimp only;omega),⟨rfl,rfl,by first | omega | (dsimp only;omega),rfl⟩,rfl,rfl,trivial⟩
 ·refine ABt (ABr (ACo rfl (ACh (ACj (ACj (ADo (q_t (ABp (Wo (ABv (ABx (⟨_,ABz,?_⟩))))))))))));obtain rfl:i=L.length:=by omega
  exact ⟨rfl,by rw [List.take_length] at *;rfl⟩
theorem AO6 (w:World):(Instr.build 90 #[]).run Tryz.prog w= .ok (.agg #[.bool false,.slice none 0 0]) w:=by kernel_rfl
theorem AW3 (b:Bool) (a:Option Addr) (n c:Nat) (w:World):(Instr.build 90 #[(0,.bool b),(1,.slice a n c)]).run Tryz.prog w= .ok (.agg #[.bool b,.slice a n c]) w:=by kernel_rfl
theorem AKr {h:ABu} {lo:Nat} {s:Value} {L:List Nat} (neg:Bool) (H:DS h lo s L) (htl:TL L) (hn:L.length<=100):ACn Tryz.prog 143 #[.bool neg,s] h fun x h'=>Ext h h'/\ZV h' lo x (sgn neg (nv L)):=by
 obtain ⟨a,n,c,rfl,hnc⟩:=H.cap;refine AC5 (l:=[_,_]) mx Tryz.func143 rfl rfl rfl rfl rfl (by kernel_rfl) (ABp (AGi [.bool false,.slice none 0 0] AGk rfl (fun _=>trivial) fun Aa h2 V3 E4 Ak Ar=>?_));have Au:Array.size h<=Aa:=Ak;have Av:=E4.1;have Z8:=(Ext.refl h).trans E4;refine ABt (ABr (ABp (Wo (AV5 ACc rfl (H.sl.ext E4) ?_))));rw [List.length_map];refine ASv rfl rfl (fun Am=>?_) (fun Am=>?_)
 ·refine ABt (ACd rfl (ABp (AF6 (v:= .agg #[.bool false,.slice none 0 0]) AO6 (AC7 [.bool false,.slice none 0 0] ACf rfl rfl rfl rfl (by simp [isOne]) V3 fun h9 Ao Ad=>?_))));have Af:=E4.thenUpd Ad (fun k hk=>by have Ac:k=Aa:=hk;omega);have Ax:=Ad.1;have Ay:=Z8.thenUpd Ad (fun k hk=>by have Ac:k=Aa:=hk;omega);have Az:=E4.thenUpd Ad (fun k hk=>by have Ac:k=Aa:=hk;omega);refine ABt (ABx (AB4 (⟨_,AEe ACf rfl rfl Ao,?_⟩)))
  first
  | (have h0:L=[]:=List.length_eq_zero_iff.1 (by omega)
     subst h0
     exact ⟨Af,⟨false,_,[],rfl,AQ7 _ _,ASj,by simp,by cases neg <;> rfl⟩⟩)
  | exact ⟨Af,⟨neg,_,L,rfl,H.ext Af,htl,hn,rfl⟩⟩
 ·refine ABt (ACo rfl (ABy (q_t (ABp (Wo (Wo (AF6 (v:= .agg #[.bool neg,.slice a n c]) (AW3 neg a n c) (AC7 [.bool neg,.slice a n c] ACf rfl rfl rfl rfl (by simp [isOne]) V3 fun A3 Ap Ae=>?_))))))));have Ah:=E4.thenUpd Ae (fun k hk=>by have Ac:k=Aa:=hk;omega);have A4:=Ae.1;have A5:=Z8.thenUpd Ae (fun k hk=>by have Ac:k=Aa:=hk;omega);have A6:=E4.thenUpd Ae (fun k hk=>by have Ac:k=Aa:=hk;omega);refine ABt (ABx (⟨_,AEe ACf rfl rfl Ap,?_⟩))
  first
  | (have h0:L=[]:=List.length_eq_zero_iff.1 (by omega)
     subst h0
     exact ⟨Ah,⟨false,_,[],rfl,AQ7 _ _,ASj,by simp,by cases neg <;> rfl⟩⟩)
  | exact ⟨Ah,⟨neg,_,L,rfl,H.ext Ah,htl,hn,rfl⟩⟩
theorem Small_ok {n:Int} (hn: -9223372036854775808<=n/\n<=9223372036854775807) (h:ABu):ACn Tryz.prog 113 #[.int .i64 n] h fun x h'=>Ext h h'/\ZV h' (Array.size h) x n:=by
 refine AC5 (l:=[_]) mx Tryz.func113 rfl rfl rfl rfl rfl (by kernel_rfl) (ABp (AGi [.bool false,.slice none 0 0] AGk rfl (fun _=>trivial) fun Aa h2 V3 E4 Az By=>?_));have Bz:Array.size h<=Aa:=Az;have B1:=E4.1;have Z8:=(Ext.refl h).trans E4;refine ABt (ABr (ABp (Wo (AF5 rfl rfl (fun A3=>?_) (fun A3=>?_)))))
 ·refine ABt (ACd rfl (ABp (Wo (AM8 ALk AEl rfl ?_))));rw [show IntKind.u64.wrap n=n + 18446744073709551616 by rw [wrap_u64];omega];refine AVw rfl ?_;rw [show IntKind.u64.wrap (0 - (n + 18446744073709551616))=((n.natAbs:Nat):Int) by rw [wrap_u64];omega];refine ACl trivial rfl (AP4 n.natAbs (by omega) _) fun x9 B4 hk=>?_;obtain ⟨Ag,L1,Ah,Ao,Ap,A5⟩:=hk;refine ⟨trivial,?_⟩;have B5:=Ag.1;have A6:=Z8.trans Ag;have A7:=E4.trans Ag;have A8:=V3.ext Ag;have A9:=E4.trans Ag;refine ACl trivial rfl (AKr true Ah Ao (by omega)) fun B6 B7 hk=>?_;obtain ⟨Ac,Aq⟩:=hk;refine ⟨trivial,?_⟩;have B8:=Ac.1;have Ba:=A6.trans Ac;have Bb:=A7.trans Ac;have Bc:=A8.ext Ac;have Be:=A9.trans Ac;have Bf:=Ah.ext Ac;obtain ⟨Ai,s2,L2,rfl,Aj,Au,Av,Aw⟩:=Aq.out;refine AC7 [.bool Ai,s2] ACf rfl rfl rfl rfl (AGj Aj.cap) Bc fun B9 Bg Ad=>?_;have Bh:=Bb.thenUpd Ad (fun k hk=>by have Ak:k=Aa:=hk;omega);have Ca:=Ad.1;have Cb:=Ba.thenUpd Ad (fun k hk=>by have Ak:k=Aa:=hk;omega);have Cd:=Be.thenUpd Ad (fun k hk=>by have Ak:k=Aa:=hk;omega);have Ce:=Bf.updLo Ad (by omega);have Bi:=Aj.updLo Ad (by omega);refine ABt (ABx (AB4 (⟨_,AEe ACf rfl rfl Bg,?_⟩)));exact ⟨Bh,⟨Ai,s2,L2,rfl,Bi.mono (by omega),Au,Av,by rw [<- Aw,Ap];unfold sgn;first | (rw [if_pos rfl];omega) | (rw [if_neg (by decide)];omega)⟩⟩
 ·refine ABt (ACo rfl (ABy (q_t (ABp (Wo (AM8 ALk AEl rfl ?_))))));rw [show IntKind.u64.wrap n=((n.natAbs:Nat):Int) by rw [wrap_u64];omega];refine ACl trivial rfl (AP4 n.natAbs (by omega) _) fun Cf Cg hk=>?_;obtain ⟨Am,L1,Ah,Ao,Ap,A5⟩:=hk;refine ⟨trivial,?_⟩;have Ch:=Am.1;have Bj:=Z8.trans Am;have Bl:=E4.trans Am;have Bm:=V3.ext Am;have Bn:=E4.trans Am;refine ACl trivial rfl (AKr false Ah Ao (by omega)) fun Ci Cj hk=>?_;obtain ⟨Ae,Aq⟩:=hk;refine ⟨trivial,?_⟩;have Ck:=Ae.1;have Bo:=Bj.trans Ae;have Bp:=Bl.trans Ae;have Bq:=Bm.ext Ae;have Br:=Bn.trans Ae;have Bt:=Ah.ext Ae;obtain ⟨Ai,s2,L2,rfl,Aj,Au,Av,Aw⟩:=Aq.out;refine AC7 [.bool Ai,s2] ACf rfl rfl rfl rfl (AGj Aj.cap) Bq fun Cm Bu Af=>?_;have Bv:=Bp.thenUpd Af (fun k hk=>by have Ak:k=Aa:=hk;omega);have Cn:=Af.1;have Co:=Bo.thenUpd Af (fun k hk=>by have Ak:k=Aa:=hk;omega);have Cp:=Br.thenUpd Af (fun k hk=>by have Ak:k=Aa:=hk;omega);have Cq:=Bt.updLo Af (by omega);have Bw:=Aj.updLo Af (by omega);refine ABt (ABx (⟨_,AEe ACf rfl rfl Bu,?_⟩));exact ⟨Bv,⟨Ai,s2,L2,rfl,Bw.mono (by omega),Au,Av,by rw [<- Aw,Ap];unfold sgn;first | (rw [if_pos rfl];omega) | (rw [if_neg (by decide)];omega)⟩⟩
theorem AX8 {h:ABu} {lo:Nat} {v:Value} {L:List Nat} (H:DS h lo v L) (hn:L.length<=1000000):ACn Tryz.prog 148 #[v] h fun x h'=>Ext h h'/\DS h' (Array.size h) x L:=by
 obtain ⟨a,n,c,rfl,hnc⟩:=H.cap;refine AC5 (l:=[_]) mx Tryz.func148 rfl rfl rfl rfl rfl (by kernel_rfl) (ABp (ABv (ABr (ABp (Wo (Apb Tryz.underlying88 rfl ?_))))));cases Ad:a.isNone
 ·refine ABt (ACo rfl (ABy (q_t (ABr ?_))));obtain ⟨xa,rfl⟩:∃ q,a=some q:=Option.ne_none_iff_exists'.1 (fun he=>by rw [he] at Ad;cases Ad);refine AB5 (Aub ACc (fun _=>trivial) fun g1 v1 h1 Af E1 Ag Ap=>?_);have Aq:=E1.1;have Z2:=(Ext.refl h).trans E1;refine Wo ?_;by_cases hL:L=[]
  ·subst hL;obtain rfl:n=0:=Alx H;refine Ar7 ACc (fun _=>trivial) rfl Af rfl fun v2 h2 Ab U2=>ABv (ABx (⟨_,ABz,?_⟩));exact ⟨E1.thenUpd U2 (fun k hk=>by have Ai:k=g1:=hk;omega),Ab.ds H.dig Ag⟩
  refine Aq8 ACc AL9 rfl trivial rfl Af rfl (H.sl.ext E1) (fun u hu=>by obtain ⟨y,_,rfl⟩:=List.mem_map.1 hu;rfl) (by simpa using hL) (by simp;omega) (by simp;omega) fun v2 g2 h2 Ab Ak U2=>?_;refine ⟨trivial,?_⟩;have XZ:=E1.thenUpd U2 (fun k hk=>by have Ai:k=g1:=hk;omega);have hg2l:Array.size h<=g2:=by rcases Ak with rfl | rfl;exact Ag;omega
  refine ABv (ABx (⟨_,ABz,?_⟩));exact ⟨XZ,Ab.ds H.dig hg2l⟩
 ·refine ABt (ACd rfl (ABr ?_));have h0:L=[]:=Apc (Option.isNone_iff_eq_none.1 (by assumption)) H;refine AB5 (ABv (ABx (AB4 (⟨_,ABz,?_⟩))));subst h0;exact ⟨Ext.refl _,AQ7 _ _⟩
def AG9 (z:Int):Int:=if z < 0 then -1 else if z=0 then 0 else 1
theorem sign_zero {z:Int} (h:z=0):AG9 z=0:=by subst h;rfl
theorem sign_neg {z:Int} (h:z < 0):AG9 z= -1:=if_pos h
theorem ARd {z:Int} (h:0 < z):AG9 z=1:=by unfold AG9;rw [if_neg (by omega),if_neg (by omega)]
theorem Sign_ok {h:ABu} {lo:Nat} {va:Value} {z:Int} (HA:ZV h lo va z):ACn Tryz.prog 116 #[va] h fun x h'=>Ext h h'/\x= .int .i64 (AG9 z):=by
 obtain ⟨na,sa,LA,rfl,HDa,htla,hla,hza⟩:=HA.out;have hna:LA.length<=1000000:=by omega
 refine AC5 (l:=[_]) mx Tryz.func116 rfl rfl rfl rfl rfl (by kernel_rfl) (ABp (AJd [.bool na,sa] (fun _=>trivial) rfl rfl fun Aj h2 V3 E4 Ak Aq=>?_));have Ar:Array.size h<=Aj:=Ak;have Au:=E4.1;have Z8:=(Ext.refl h).trans E4;refine ABv (ABr (ABw (ABp (AHj (fs:=1) AMl (by kernel_rfl) (by decide) rfl (AB6 AIx rfl (V3.cell (i:=1) rfl) (ACl trivial rfl (AM6 (DS.mono (HDa.ext E4) (Nat.zero_le _)) hna) fun x9 h2 hk=>?_))))));obtain ⟨rfl,L1,Af,Ag⟩:=hk;refine ⟨trivial,?_⟩;have Am:=Af.ds (lo:=lo) HDa.lo;refine ADr ACc rfl Am (ASv rfl rfl (fun Ao=>?_) (fun Ao=>?_))
 ·refine ABv (ACd rfl (ABp (ABv (ABx (ADe (AB4 (⟨_,ABz,?_⟩)))))))
  first
  | (have h0:L1=[]:=List.length_eq_zero_iff.1 (by omega)
     have h1:nv LA=0:=by rw [<- Af.val,h0];rfl
     exact ⟨E4,congrArg (Value.int .i64) (sign_zero (hza.trans (by rw [h1];cases na <;> rfl))).symm⟩)
  | (have h1:nv LA≠0:=fun h0=>by rw [<- Af.val] at h0;have:=congrArg List.length (AIi Ag h0);rw [List.length_nil] at this;omega
     have h2:z=sgn na (nv LA):=hza
     have h3:na=true:=by assumption
     exact ⟨E4,congrArg (Value.int .i64) (sign_neg (by rw [h2,h3];unfold sgn;rw [if_pos rfl];omega)).symm⟩)
  | (have h1:nv LA≠0:=fun h0=>by rw [<- Af.val] at h0;have:=congrArg List.length (AIi Ag h0);rw [List.length_nil] at this;omega
     have h2:z=sgn na (nv LA):=hza
     have h3:na=false:=by assumption
     exact ⟨E4,congrArg (Value.int .i64) (ARd (by rw [h2,h3];unfold sgn;rw [if_neg (by decide)];omega)).symm⟩)
 ·refine ABv (ACo rfl (ABp (AHj (fs:=1) AL1 (by kernel_rfl) (by decide) rfl (AB6 AF7 rfl (V3.cell (i:=0) rfl) (ABv (⟨_,rfl,fun Ap=>?_,fun Ap=>?_⟩))))))
  ·refine ABp (ABv (ABx (ADe (AB4 (⟨_,ABz,?_⟩)))))
   first
   | (have h0:L1=[]:=List.length_eq_zero_iff.1 (by omega)
      have h1:nv LA=0:=by rw [<- Af.val,h0];rfl
      exact ⟨E4,congrArg (Value.int .i64) (sign_zero (hza.trans (by rw [h1];cases na <;> rfl))).symm⟩)
   | (have h1:nv LA≠0:=fun h0=>by rw [<- Af.val] at h0;have:=congrArg List.length (AIi Ag h0);rw [List.length_nil] at this;omega
      have h2:z=sgn na (nv LA):=hza
      have h3:na=true:=by assumption
      exact ⟨E4,congrArg (Value.int .i64) (sign_neg (by rw [h2,h3];unfold sgn;rw [if_pos rfl];omega)).symm⟩)
   | (have h1:nv LA≠0:=fun h0=>by rw [<- Af.val] at h0;have:=congrArg List.length (AIi Ag h0);rw [List.length_nil] at this;omega
      have h2:z=sgn na (nv LA):=hza
      have h3:na=false:=by assumption
      exact ⟨E4,congrArg (Value.int .i64) (ARd (by rw [h2,h3];unfold sgn;rw [if_neg (by decide)];omega)).symm⟩)
  ·refine ABy (q_b (q_t (ABp (ABv (ABx (⟨_,ABz,?_⟩))))))
   first
   | (have h0:L1=[]:=List.length_eq_zero_iff.1 (by omega)
      have h1:nv LA=0:=by rw [<- Af.val,h0];rfl
      exact ⟨E4,congrArg (Value.int .i64) (sign_zero (hza.trans (by rw [h1];cases na <;> rfl))).symm⟩)
   | (have h1:nv LA≠0:=fun h0=>by rw [<- Af.val] at h0;have:=congrArg List.length (AIi Ag h0);rw [List.length_nil] at this;omega
      have h2:z=sgn na (nv LA):=hza
      have h3:na=true:=by assumption
      exact ⟨E4,congrArg (Value.int .i64) (sign_neg (by rw [h2,h3];unfold sgn;rw [if_pos rfl];omega)).symm⟩)
   | (have h1:nv LA≠0:=fun h0=>by rw [<- Af.val] at h0;have:=congrArg List.length (AIi Ag h0);rw [List.length_nil] at this;omega
      have h2:z=sgn na (nv LA):=hza
      have h3:na=false:=by assumption
      exact ⟨E4,congrArg (Value.int .i64) (ARd (by rw [h2,h3];unfold sgn;rw [if_neg (by decide)];omega)).symm⟩)
theorem Neg_ok {h:ABu} {lo:Nat} {va:Value} {z:Int} (HA:ZV h lo va z):ACn Tryz.prog 146 #[va] h fun x h'=>Ext h h'/\ZV h' (Array.size h) x (-z):=by
 obtain ⟨na,sa,LA,rfl,HDa,htla,hla,hza⟩:=HA.out;have hna:LA.length<=1000000:=by omega
 refine AC5 (l:=[_]) mx Tryz.func146 rfl rfl rfl rfl rfl (by kernel_rfl) (ABp (AJd [.bool na,sa] (fun _=>trivial) rfl rfl fun Am h2 V3 E4 Az Bx=>?_));have By:Array.size h<=Am:=Az;have Bz:=E4.1;have Z8:=(Ext.refl h).trans E4;refine AGi [.bool false,.slice none 0 0] AGk rfl (fun _=>trivial) fun Ad Ah A4 Ae A5 B1=>?_;have B3:Array.size h<=Ad:=Nat.le_trans E4.1 A5;have nebq1bq9:Am≠Ad:=by have:=V3.lt;omega
 have B4:=Ae.1;have A6:=Z8.trans Ae;have Ap:=E4.trans Ae;have Aq:=V3.ext Ae;have A7:=E4.trans Ae;refine ABt (ABr (AEd (fun h'=>Ext Ah h') (by kernel_rfl) ?_));have Af:=Ext.refl Ah;refine AHj (fs:=1) AL1 (by kernel_rfl) (by decide) rfl (AEt AF7 rfl Af (fun h' hb=>(Aq.ext hb).cell (i:=0) rfl) (AE1 rfl (AHj (fs:=1) AMl (by kernel_rfl) (by decide) rfl (AEt AIx rfl Af (fun h' hb=>(Aq.ext hb).cell (i:=1) rfl) (ACl Af rfl (AM6 (DS.mono (HDa.ext Ap) (Nat.zero_le _)) hna) fun B5 Ah hk=>?_)))));obtain ⟨rfl,L1,Ai,A8⟩:=hk;refine ⟨Af,?_⟩;have A9:=Ai.ds (lo:=lo) HDa.lo;have Ar:=Ai.val;have B7:=Ai.len;refine ACl Af rfl (AX8 A9 (by omega)) fun B8 B9 hk=>?_;obtain ⟨Ab,Au⟩:=hk;have Aj:=Af.trans Ab;refine ⟨Aj,?_⟩;have Ca:=Ab.1;have Ba:=A6.trans Ab;have Bb:=Ap.trans Ab;have Bc:=A7.trans Ab;have Be:=A4.ext Ab;have Bf:=Ae.trans Ab;refine ACl Aj rfl (AKr (!na) Au A8 (by omega)) fun Cb Cd hk=>?_;obtain ⟨Aa,Bg⟩:=hk;have Bh:=Aj.trans Aa;refine ⟨Bh,?_⟩;have Ce:=Aa.1;have Bi:=Ba.trans Aa;have Bj:=Bb.trans Aa;have Bl:=Bc.trans Aa;have Bm:=Be.ext Aa;have Bn:=Bf.trans Aa;have Bo:=Au.ext Aa;obtain ⟨Av,s3,L3,rfl,Ax,Bq,Br,Ay⟩:=Bg.out;refine AC7 [.bool Av,s3] ACf rfl rfl rfl rfl (AGj Ax.cap) Bm fun Cf Bt Ac=>?_;have Bu:=Bj.thenUpd Ac (fun k hk=>by have Ak:k=Ad:=hk;omega);have Cg:=Ac.1;have Ch:=Bi.thenUpd Ac (fun k hk=>by have Ak:k=Ad:=hk;omega);have Ci:=Bn.thenUpd Ac (fun k hk=>by have Ak:k=Ad:=hk;omega);have Cj:=Bl.thenUpd Ac (fun k hk=>by have Ak:k=Ad:=hk;omega);have Ck:=Bo.updLo Ac (by omega);have Bv:=Ax.updLo Ac (by omega);refine ABt (ABx (⟨_,AEe ACf rfl rfl Bt,?_⟩));exact ⟨Bu,⟨Av,s3,L3,rfl,Bv.mono (by omega),Bq,Br,by first | (rw [<- Ay,Ar,hza];done) | (rw [<- Ay,Ar,hza];cases na <;> simp [sgn])⟩⟩
theorem Normalize_ok {h:ABu} {lo:Nat} {va:Value} {z:Int} (HA:ZV h lo va z):ACn Tryz.prog 117 #[va] h fun x h'=>Ext h h'/\ZV h' (Array.size h) x (z):=by
 obtain ⟨na,sa,LA,rfl,HDa,htla,hla,hza⟩:=HA.out;have hna:LA.length<=1000000:=by omega
 refine AC5 (l:=[_]) mx Tryz.func117 rfl rfl rfl rfl rfl (by kernel_rfl) (ABp (AJd [.bool na,sa] (fun _=>trivial) rfl rfl fun Am h2 V3 E4 Az Bx=>?_));have By:Array.size h<=Am:=Az;have Bz:=E4.1;have Z8:=(Ext.refl h).trans E4;refine AGi [.bool false,.slice none 0 0] AGk rfl (fun _=>trivial) fun Ad Ah A4 Ae A5 B1=>?_;have B3:Array.size h<=Ad:=Nat.le_trans E4.1 A5;have nebq1bq9:Am≠Ad:=by have:=V3.lt;omega
 have B4:=Ae.1;have A6:=Z8.trans Ae;have Ap:=E4.trans Ae;have Aq:=V3.ext Ae;have A7:=E4.trans Ae;refine ABt (ABr (AEd (fun h'=>Ext Ah h') (by kernel_rfl) ?_));have Af:=Ext.refl Ah;refine AHj (fs:=1) AL1 (by kernel_rfl) (by decide) rfl (AEt AF7 rfl Af (fun h' hb=>(Aq.ext hb).cell (i:=0) rfl) (AHj (fs:=1) AMl (by kernel_rfl) (by decide) rfl (AEt AIx rfl Af (fun h' hb=>(Aq.ext hb).cell (i:=1) rfl) (ACl Af rfl (AM6 (DS.mono (HDa.ext Ap) (Nat.zero_le _)) hna) fun B5 Ah hk=>?_))));obtain ⟨rfl,L1,Ai,A8⟩:=hk;refine ⟨Af,?_⟩;have A9:=Ai.ds (lo:=lo) HDa.lo;have Ar:=Ai.val;have B7:=Ai.len;refine ACl Af rfl (AX8 A9 (by omega)) fun B8 B9 hk=>?_;obtain ⟨Ab,Au⟩:=hk;have Aj:=Af.trans Ab;refine ⟨Aj,?_⟩;have Ca:=Ab.1;have Ba:=A6.trans Ab;have Bb:=Ap.trans Ab;have Bc:=A7.trans Ab;have Be:=A4.ext Ab;have Bf:=Ae.trans Ab;refine ACl Aj rfl (AKr na Au A8 (by omega)) fun Cb Cd hk=>?_;obtain ⟨Aa,Bg⟩:=hk;have Bh:=Aj.trans Aa;refine ⟨Bh,?_⟩;have Ce:=Aa.1;have Bi:=Ba.trans Aa;have Bj:=Bb.trans Aa;have Bl:=Bc.trans Aa;have Bm:=Be.ext Aa;have Bn:=Bf.trans Aa;have Bo:=Au.ext Aa;obtain ⟨Av,s3,L3,rfl,Ax,Bq,Br,Ay⟩:=Bg.out;refine AC7 [.bool Av,s3] ACf rfl rfl rfl rfl (AGj Ax.cap) Bm fun Cf Bt Ac=>?_;have Bu:=Bj.thenUpd Ac (fun k hk=>by have Ak:k=Ad:=hk;omega);have Cg:=Ac.1;have Ch:=Bi.thenUpd Ac (fun k hk=>by have Ak:k=Ad:=hk;omega);have Ci:=Bn.thenUpd Ac (fun k hk=>by have Ak:k=Ad:=hk;omega);have Cj:=Bl.thenUpd Ac (fun k hk=>by have Ak:k=Ad:=hk;omega);have Ck:=Bo.updLo Ac (by omega);have Bv:=Ax.updLo Ac (by omega);refine ABt (ABx (⟨_,AEe ACf rfl rfl Bt,?_⟩));exact ⟨Bu,⟨Av,s3,L3,rfl,Bv.mono (by omega),Bq,Br,by first | (rw [<- Ay,Ar,hza];done) | (rw [<- Ay,Ar,hza];cases na <;> simp [sgn])⟩⟩
def AN3 (a b:Nat):Int:=if a < b then -1 else if a=b then 0 else 1
theorem AK1 {a b:Nat} (h:a < b):AN3 a b= -1:=if_pos h
theorem AK2 {a b:Nat} (h:b < a):AN3 a b=1:=by unfold AN3;rw [if_neg (by omega),if_neg (by omega)]
theorem ARe {a b:Nat} (h:a=b):AN3 a b=0:=by unfold AN3;rw [if_neg (by omega),if_pos h]
theorem AK3 {A B:List Nat} (ha:Dig A) (hb:TL B) (h:A.length < B.length):nv A < nv B:=by
 have h1:=ANw ha;have h2:=Alu hb (fun he=>by rw [he] at h;simp at h);have h3:4294967296 ^ A.length<=4294967296 ^ (B.length - 1):=Nat.pow_le_pow_right (by decide) (by omega);omega
theorem AK4 {A B:List Nat} (ha:Dig A) (hb:Dig B) {i x y:Nat} (hl:A.length=B.length) (hx:A[i]? =some x) (hy:B[i]? =some y) (hxy:x < y) (hs:∀ q,i < q->A[q]? =B[q]?):nv A < nv B:=by
 have hi:=(List.getElem?_eq_some_iff.1 hx).1;have hd:A.drop (i + 1)=B.drop (i + 1):=List.ext_getElem? fun q=>by rw [List.getElem?_drop,List.getElem?_drop];exact hs _ (by omega)
 have e:∀ L:List Nat,nv L=nv (L.take (i + 1)) + 4294967296 ^ (L.take (i + 1)).length * nv (L.drop (i + 1)):=fun L=>by rw [<- AVd,List.take_append_drop]
 rw [e A,e B,hd,ADx hx,ADx hy,List.length_take,List.length_take,hl];have h1:=AQ8 ha (i:=i) (by omega);have h2:4294967296 ^ i * (x + 1)<=4294967296 ^ i * y:=Nat.mul_le_mul_left _ hxy;rw [Nat.mul_add,Nat.mul_one] at h2;omega
theorem AV2 {h:ABu} {la lb:Nat} {va vb:Value} {LA LB:List Nat} (HA:DS h la va LA) (HB:DS h lb vb LB) (hta:TL LA) (htb:TL LB) (hna:LA.length<=1000000) (hnb:LB.length<=1000000):ACn Tryz.prog 160 #[va,vb] h fun x h'=>h'=h/\x= .int .i64 (AN3 (nv LA) (nv LB)):=by
 refine AC5 (l:=[_,_]) mx Tryz.func160 rfl rfl rfl rfl rfl (by kernel_rfl) (ABp (ABv (ABr (ABw (ABp (Wo (ADr ACc rfl HA (Wo (ADr ACc rfl HB (AF5 rfl rfl (fun Ac=>?_) (fun Ac=>?_)))))))))))
 ·refine ABv (ACd rfl (ABp (ABv (ABx (ADe (AB4 (⟨_,ABz,?_⟩)))))))
  first
  | exact ⟨rfl,congrArg (Value.int .i64) (AK1 (AK3 HA.dig htb (by omega))).symm⟩
  | exact ⟨rfl,congrArg (Value.int .i64) (AK2 (AK3 HB.dig hta (by omega))).symm⟩
  | exact ⟨rfl,congrArg (Value.int .i64) (AK1 (AK4 HA.dig HB.dig (by omega) hx hy (by omega) (fun q hq=>hsame q (by omega)))).symm⟩
  | exact ⟨rfl,congrArg (Value.int .i64) (AK2 (AK4 HB.dig HA.dig (by omega) hy hx (by omega) (fun q hq=>(hsame q (by omega)).symm))).symm⟩
  | exact ⟨rfl,congrArg (Value.int .i64) (ARe (congrArg nv (List.ext_getElem? fun q=>hsame q (by omega)))).symm⟩
 ·refine ABv (ACo rfl (ABp (Wo (ADr ACc rfl HA (Wo (ADr ACc rfl HB (AQ4 rfl rfl (fun Ad=>?_) (fun Ad=>?_))))))))
  ·refine ABv (ACd rfl (ABp (ABv (ABx (ADe (AB4 (⟨_,ABz,?_⟩)))))))
   first
   | exact ⟨rfl,congrArg (Value.int .i64) (AK1 (AK3 HA.dig htb (by omega))).symm⟩
   | exact ⟨rfl,congrArg (Value.int .i64) (AK2 (AK3 HB.dig hta (by omega))).symm⟩
   | exact ⟨rfl,congrArg (Value.int .i64) (AK1 (AK4 HA.dig HB.dig (by omega) hx hy (by omega) (fun q hq=>hsame q (by omega)))).symm⟩
   | exact ⟨rfl,congrArg (Value.int .i64) (AK2 (AK4 HB.dig HA.dig (by omega) hy hx (by omega) (fun q hq=>(hsame q (by omega)).symm))).symm⟩
   | exact ⟨rfl,congrArg (Value.int .i64) (ARe (congrArg nv (List.ext_getElem? fun q=>hsame q (by omega)))).symm⟩
  ·refine ABv (ACo rfl (ABy (q_b (q_t (ABr (ABp (Wo (ADr ACc rfl HA (AM9 rfl rfl (by omega) (by omega) (ABv (ABw (ACq 35184369991728 (fun i:Nat=>[(5,.int .i64 ((i:Int) - 1))]) (fun k i h'=>h'=h/\i=k/\i<=LA.length/\ ∀ q,i<=q->LA[q]? =LB[q]?) (by kernel_rfl) LA.length LA.length ?_ ⟨rfl,trivial⟩ ?_))))))))))))
   ·exact ⟨rfl,rfl,Nat.le_refl _,fun q hq=>by rw [List.getElem?_eq_none hq,List.getElem?_eq_none (by omega)]⟩
   rintro k i s1 h ⟨rfl,rfl,hi,hsame⟩;refine ABr (ABp (Wo (AUr rfl rfl (fun Ae=>?_) (fun Ae=>?_))))
   ·refine ABt (ACd rfl (ABy (q_t (ABr (ABw (ABw (ABr ?_)))))));obtain ⟨x,hx⟩:∃ x,LA[i - 1]? =some x:=⟨_,List.getElem?_eq_getElem (by omega)⟩;obtain ⟨y,hy⟩:∃ y,LB[i - 1]? =some y:=⟨_,List.getElem?_eq_getElem (by omega)⟩;have e1:((i:Int) - 1)=((i - 1:Nat):Int):=by omega
    refine AQ2 (by kernel_rfl) (Wo (Wo (AJs (n:=i - 1) ACc rfl HA (show Value.int .i64 ((i:Int) - 1)=_ by rw [e1]) hx fun a1 Af=>?_)));refine AB6 AEf rfl Af (Wo (Wo (AJs (n:=i - 1) ACc rfl HB (show Value.int .i64 ((i:Int) - 1)=_ by rw [e1]) hy fun a2 Ag=>?_)));refine AB6 AEf rfl Ag (AF5 rfl rfl (fun Ah=>?_) (fun Ah=>?_))
    ·refine ABv (ACd rfl (ABp (ABv (ABx (ADe (ADe (AB4 (AB4 (ADe (AB4 (⟨_,ABz,?_⟩)))))))))))
     first
     | exact ⟨rfl,congrArg (Value.int .i64) (AK1 (AK3 HA.dig htb (by omega))).symm⟩
     | exact ⟨rfl,congrArg (Value.int .i64) (AK2 (AK3 HB.dig hta (by omega))).symm⟩
     | exact ⟨rfl,congrArg (Value.int .i64) (AK1 (AK4 HA.dig HB.dig (by omega) hx hy (by omega) (fun q hq=>hsame q (by omega)))).symm⟩
     | exact ⟨rfl,congrArg (Value.int .i64) (AK2 (AK4 HB.dig HA.dig (by omega) hy hx (by omega) (fun q hq=>(hsame q (by omega)).symm))).symm⟩
     | exact ⟨rfl,congrArg (Value.int .i64) (ARe (congrArg nv (List.ext_getElem? fun q=>hsame q (by omega)))).symm⟩
    ·refine ABv (ACo rfl (ABr (AQ2 (by kernel_rfl) (Wo (Wo (AJs (n:=i - 1) ACc rfl HA (show Value.int .i64 ((i:Int) - 1)=_ by rw [e1]) hx fun a3 Ai=>?_))))));refine AB6 AEf rfl Ai (Wo (Wo (AJs (n:=i - 1) ACc rfl HB (show Value.int .i64 ((i:Int) - 1)=_ by rw [e1]) hy fun a4 Aj=>?_)));refine AB6 AEf rfl Aj (AQ4 rfl rfl (fun Ak=>?_) (fun Ak=>?_))
     ·refine ABv (ACd rfl (ABp (ABv (ABx (ADe (ADe (AB4 (AB4 (ADe (AB4 (⟨_,ABz,?_⟩)))))))))))
      first
      | exact ⟨rfl,congrArg (Value.int .i64) (AK1 (AK3 HA.dig htb (by omega))).symm⟩
      | exact ⟨rfl,congrArg (Value.int .i64) (AK2 (AK3 HB.dig hta (by omega))).symm⟩
      | exact ⟨rfl,congrArg (Value.int .i64) (AK1 (AK4 HA.dig HB.dig (by omega) hx hy (by omega) (fun q hq=>hsame q (by omega)))).symm⟩
      | exact ⟨rfl,congrArg (Value.int .i64) (AK2 (AK4 HB.dig HA.dig (by omega) hy hx (by omega) (fun q hq=>(hsame q (by omega)).symm))).symm⟩
      | exact ⟨rfl,congrArg (Value.int .i64) (ARe (congrArg nv (List.ext_getElem? fun q=>hsame q (by omega)))).symm⟩
     ·refine ABv (ACo rfl (ABy (q_b (q_b (q_t (AB5 (Wo (AM9 rfl rfl (by omega) (by omega) (ABv ?_)))))))));exact ⟨i - 1,i - 1,by omega,⟨rfl,rfl,by omega,fun q hq=>by rcases Nat.lt_or_ge q i with h2 | h2;obtain rfl:q=i - 1:=(by omega);rw [hx,hy];congr 1;omega;exact hsame q h2⟩,by rw [show ((i - 1:Nat):Int) - 1=(i:Int) - 1 - 1 by omega];rfl,trivial⟩
   ·refine ABt (ACo rfl (ACh (ACj (ACj (ADo (q_t (ABp (ABv (ABx (⟨_,ABz,?_⟩))))))))))
    first
    | exact ⟨rfl,congrArg (Value.int .i64) (AK1 (AK3 HA.dig htb (by omega))).symm⟩
    | exact ⟨rfl,congrArg (Value.int .i64) (AK2 (AK3 HB.dig hta (by omega))).symm⟩
    | exact ⟨rfl,congrArg (Value.int .i64) (AK1 (AK4 HA.dig HB.dig (by omega) hx hy (by omega) (fun q hq=>hsame q (by omega)))).symm⟩
    | exact ⟨rfl,congrArg (Value.int .i64) (AK2 (AK4 HB.dig HA.dig (by omega) hy hx (by omega) (fun q hq=>(hsame q (by omega)).symm))).symm⟩
    | exact ⟨rfl,congrArg (Value.int .i64) (ARe (congrArg nv (List.ext_getElem? fun q=>hsame q (by omega)))).symm⟩
theorem Ab3 {h:ABu} {la lb:Nat} {va vb:Value} {LA LB:List Nat} (HA:DS h la va LA) (HB:DS h lb vb LB) (hna:LA.length<=1000) (hnb:LB.length<=1000):ACn Tryz.prog 150 #[va,vb] h fun x h'=>Ext h h'/\ ∃ L,DS h' (Array.size h) x L/\TL L/\nv L=nv LA + nv LB/\L.length<=1001:=by
 refine AC5 (l:=[_,_]) mx Tryz.func150 rfl rfl rfl rfl rfl (by kernel_rfl) (ABp (ABv (AUn 65027 (fun y:Value × Value × List Nat × List Nat=>[(0,y.1),(1,y.2.1)]) (fun y h'=>h'=h/\DS h 0 y.1 y.2.2.1/\DS h 0 y.2.1 y.2.2.2/\y.2.2.2.length<=y.2.2.1.length/\y.2.2.1.length<=1000/\nv y.2.2.1 + nv y.2.2.2=nv LA + nv LB) (by kernel_rfl) ?_ ?_)))
 ·refine ABp (Wo (ADr ACc rfl HA (Wo (ADr ACc rfl HB (AF5 rfl rfl (fun Ao=>?_) (fun Ao=>?_))))))
  ·refine ABt (ACd rfl (AB5 (Wo (Wo (ACk (ABv ?_))))));exact ⟨(_,_,LB,LA),⟨rfl,HB.mono (Nat.zero_le _),HA.mono (Nat.zero_le _),by first | omega | (dsimp only;omega),hnb,Nat.add_comm _ _⟩,rfl,rfl,trivial⟩
  ·refine ABt (ACo rfl (ABy (q_t ?_)));exact ⟨(_,_,LA,LB),⟨rfl,HA.mono (Nat.zero_le _),HB.mono (Nat.zero_le _),by first | omega | (dsimp only;omega),hna,rfl⟩,rfl,rfl,trivial⟩
 rintro ⟨A9,Ba,A,B⟩ s0 h ⟨rfl,HX,HY,hBA,Ap,hsum⟩;dsimp only at HX HY hBA Ap hsum ⊢;refine ABp (Wo (ADr ACc rfl HX (APh (b:=1) rfl rfl (by omega) (AZz (n:=A.length + 1) ACc AL9 (fun _=>trivial) rfl rfl (by decide) (by omega) fun g1 v1 h1 Aq E1 Ar Be=>?_))));have Bf:=E1.1;have Z2:=(Ext.refl h).trans E1;refine AC1 (ABv (ABr (ABp (Wo (ADr ACc rfl (HY.ext E1) (Wo (ABt (ABw (ACq 70368739983552 (fun y:Nat × Nat=>[(22,.int .i64 (y.1:Int)),(6,.int .u64 (y.2:Int))]) (fun k y h'=>k=B.length - y.1/\y.1<=B.length/\Ext h h'/\y.2<=1/\ ∃ D,AFh h' 157 g1 v1 ((D ++ List.replicate ((A.length + 1) - y.1) 0).map AN4)/\D.length=y.1/\Dig D/\nv D + 4294967296 ^ y.1 * y.2=nv (A.take y.1) + nv (B.take y.1)) (by kernel_rfl) B.length (0,0) ?_ ⟨rfl,rfl,trivial⟩ ?_)))))))))
 ·exact ⟨rfl,Nat.zero_le _,E1,by first | omega | (dsimp only;omega),[],by simpa using Aq,rfl,fun x hx=>(by simp at hx),rfl⟩
 rintro k ⟨i,c⟩ s1 h2 ⟨rfl,hi,E2,hc,D,Ag,hDl,hDd,hDv⟩;dsimp only at hi hc Ag hDl hDv ⊢;have Bi:=E2.1;refine ABp (AF5 rfl rfl (fun Au=>?_) (fun Au=>?_))
 ·refine ABt (ABr (ACd rfl (ABy (q_t (ABr (ABw (ABp (Wo (ABv (ABr ?_))))))))));obtain ⟨x,hx⟩:∃ x,A[i]? =some x:=⟨_,List.getElem?_eq_getElem (by omega)⟩;have hbx:=HX.dig x (List.mem_of_getElem? hx);obtain ⟨y,hy⟩:∃ x,B[i]? =some x:=⟨_,List.getElem?_eq_getElem (by omega)⟩;have hby:=HY.dig y (List.mem_of_getElem? hy);refine AQ2 (by kernel_rfl) (Wo (Wo (Wo (AJs ACc rfl (HX.ext E2) rfl hx fun Bj Av=>AB6 AEf rfl Av (ASk AEy AEl rfl hbx (Wo (Wo (AJs ACc rfl (HY.ext E2) rfl hy fun Bl Aw=>AB6 AEf rfl Aw (ASk AEy AEl rfl hby (AO2 rfl rfl (by omega) (AO2 rfl rfl (by omega) (AC1 (Wo (Wo (Wo (AUd AEl AEy rfl (ASt ACc rfl Ag rfl (by simp;omega) ?_)))))))))))))))));refine AUc (D ++ [(c + (x + y)) % 4294967296] ++ List.replicate (A.length + 1 - (i + 1)) 0) AEf rfl rfl Ag (by simp;omega) (AY1 hDl (by omega)) fun h4 Ax U4=>?_;have Bn:=U4.1;have X7:=E2.thenUpd U4 (fun k hk=>by have Ad:k=g1:=hk;omega);have Z8:=E2.thenUpd U4 (fun k hk=>by have Ad:k=g1:=hk;omega);refine ABt (AB5 (Wo (ATo rfl rfl (ACk (ACr (q_b (q_t (AB5 (AKl rfl (by omega) (Wo (ABt ?_)))))))))));exact ⟨B.length - (i + 1),(i + 1,(c + (x + y)) / 4294967296),by first | omega | (dsimp only;omega),⟨rfl,by first | omega | (dsimp only;omega),X7,by first | omega | (dsimp only;omega),_,Ax,by simp [hDl],ANb hDd (Nat.mod_lt _ (by decide)),by rw [AL4,hDl,ATp hDv,ADx hx,ADx hy,Nat.mul_add];omega⟩,rfl,rfl,trivial⟩
 ·refine ABt (ABr (ACo rfl (ACh (ACj (ACj (ADo (q_t (ABr (ABp (Wo (ADr ACc rfl (HX.ext E2) (Wo (ADr ACc rfl (HY.ext E2) (AM9 rfl rfl (by omega) (by omega) ?_))))))))))))));rw [show ((A.length:Nat):Int) - ((B.length:Nat):Int)=((A.length - B.length:Nat):Int) by omega];refine Wo (ABt (ABw ?_));obtain rfl:i=B.length:=by omega
  rw [List.take_length] at hDv;refine ACq 37778929611157348024640 (fun y:Nat × Nat=>[(51,.int .i64 (y.1:Int)),(6,.int .u64 (y.2:Int))]) (fun k y h'=>k=A.length - B.length - y.1/\y.1<=A.length - B.length/\Ext h h'/\y.2<=1/\ ∃ D,AFh h' 157 g1 v1 ((D ++ List.replicate ((A.length + 1) - (B.length + y.1)) 0).map AN4)/\D.length=B.length + y.1/\Dig D/\nv D + 4294967296 ^ (B.length + y.1) * y.2=nv (A.take (B.length + y.1)) + nv B) (by kernel_rfl) (A.length - B.length) (0,c) ?_ ⟨rfl,rfl,trivial⟩ ?_
  ·exact ⟨rfl,Nat.zero_le _,E2,hc,D,Ag,hDl,hDd,hDv⟩
  rintro k ⟨j,c⟩ s2 h3 ⟨rfl,hj,E3,hc,D,Ae,hDl,hDd,hDv⟩;dsimp only at hj hc Ae hDl hDv ⊢;have Bq:=E3.1;refine ABp (AF5 rfl rfl (fun Az=>?_) (fun Az=>?_))
  ·refine ABt (ABr (ACd rfl (ABy (q_t (ABr (ABw (ABp (Wo (ABv (ABr ?_))))))))));obtain ⟨x,hx⟩:∃ x,A[(B.length + j)]? =some x:=⟨_,List.getElem?_eq_getElem (by omega)⟩;have hbx:=HX.dig x (List.mem_of_getElem? hx);refine AB5 (Wo (Wo (Wo (ADr ACc rfl (HY.ext E3) (Wo (APh rfl rfl (by omega) (AJs ACc rfl (HX.ext E3) rfl hx fun Br A3=>AB6 AEf rfl A3 (ASk AEy AEl rfl hbx (AO2 rfl rfl (by omega) (AC1 (Wo (Wo (ADr ACc rfl (HY.ext E3) (Wo (APh rfl rfl (by omega) (Wo (AUd AEl AEy rfl (ASt ACc rfl Ae rfl (by simp;omega) ?_))))))))))))))))));refine AUc (D ++ [(c + x) % 4294967296] ++ List.replicate (A.length + 1 - (B.length + j + 1)) 0) AEf rfl rfl Ae (by simp;omega) (AY1 hDl (by omega)) fun h5 A4 U5=>?_;have Bu:=U5.1;have A5:=E3.thenUpd U5 (fun k hk=>by have Ad:k=g1:=hk;omega);have Bv:=E3.thenUpd U5 (fun k hk=>by have Ad:k=g1:=hk;omega);refine ABt (AB5 (Wo (ATo rfl rfl (ACk (ACr (q_b (q_t (AB5 (AKl rfl (by omega) (Wo (ABt ?_)))))))))));exact ⟨A.length - B.length - (j + 1),(j + 1,(c + x) / 4294967296),by first | omega | (dsimp only;omega),⟨rfl,by first | omega | (dsimp only;omega),A5,by first | omega | (dsimp only;omega),_,A4,by simp [hDl];omega,ANb hDd (Nat.mod_lt _ (by decide)),by rw [AL4,hDl,<- Nat.add_assoc,ATp hDv,ADx hx];omega⟩,rfl,rfl,trivial⟩
  ·refine ABt (ABr (ACo rfl (ACh (ACj (ACj (ADo (q_t (ABr ?_))))))));obtain rfl:j=A.length - B.length:=by omega
   have hBj:B.length + (A.length - B.length)=A.length:=by omega
   rw [hBj,List.take_length] at hDv;rw [hBj] at hDl;refine AB5 (Wo (Wo (ADr ACc rfl (HX.ext E3) (Wo (AUd AEl AEy rfl (ASt ACc rfl Ae rfl (by simp;omega) ?_))))));refine AUc (D ++ [c % 4294967296] ++ List.replicate (A.length + 1 - (A.length + 1)) 0) AEf rfl rfl Ae (by simp;omega) (by rw [hBj];exact AY1 hDl (by omega)) fun h6 Ak U6=>?_;have Bw:=U6.1;have A7:=E3.thenUpd U6 (fun k hk=>by have Ad:k=g1:=hk;omega);have Bx:=E3.thenUpd U6 (fun k hk=>by have Ad:k=g1:=hk;omega);rw [Nat.sub_self,List.replicate_zero,List.append_nil,Nat.mod_eq_of_lt (by omega)] at Ak;have Am:=Ak.ds (lo:=Array.size h) (ANb hDd (by omega)) Ar;refine AK0 (Wo (ACl trivial rfl (AM6 (Am.mono (Nat.zero_le _)) (by simp;omega)) fun By h6 hk=>?_));obtain ⟨rfl,L2,HT,htl⟩:=hk;refine ⟨trivial,?_⟩;refine ABv (ABx (⟨_,ABz,?_⟩));exact ⟨A7,L2,HT.ds Am.lo,htl,by rw [HT.val,AL4,hDl,hDv];exact hsum,by have:=HT.len;simp at this;omega⟩
theorem AX9 {h:ABu} {la lb:Nat} {va vb:Value} {LA LB:List Nat} (HA:DS h la va LA) (HB:DS h lb vb LB) (htb:TL LB) (hle:nv LB<=nv LA) (hna:LA.length<=1000):ACn Tryz.prog 151 #[va,vb] h fun x h'=>Ext h h'/\ ∃ L,DS h' (Array.size h) x L/\TL L/\nv L=nv LA - nv LB/\L.length<=LA.length:=by
 refine AC5 (l:=[_,_]) mx Tryz.func151 rfl rfl rfl rfl rfl (by kernel_rfl) (ABp (AC1 (Wo (ADr ACc rfl HA (AZz (n:=LA.length) ACc AL9 (fun _=>trivial) rfl rfl (by decide) (by omega) fun g1 v1 h1 Aj E1 Ak Az=>?_)))));have A3:=E1.1;have Z2:=(Ext.refl h).trans E1;refine AC1 (ABv (ABr (ABp (Wo (ADr ACc rfl (HA.ext E1) (Wo (ABt (ABw (ACq 8796093006272 (fun y:Nat × Nat=>[(14,.int .i64 (y.1:Int)),(6,.int .u64 (y.2:Int))]) (fun k y h'=>k=LA.length - y.1/\y.1<=LA.length/\Ext h h'/\y.2<=1/\ ∃ D,AFh h' 157 g1 v1 ((D ++ List.replicate (LA.length - y.1) 0).map AN4)/\D.length=y.1/\Dig D/\nv D + nv (LB.take y.1)=nv (LA.take y.1) + 4294967296 ^ y.1 * y.2) (by kernel_rfl) LA.length (0,0) ?_ ⟨rfl,rfl,trivial⟩ ?_)))))))))
 ·exact ⟨rfl,Nat.zero_le _,E1,by first | omega | (dsimp only;omega),[],by simpa using Aj,rfl,fun x hx=>(by simp at hx),rfl⟩
 rintro k ⟨i,c⟩ s1 h2 ⟨rfl,hi,E2,hc,D,Ab,hDl,hDd,hDv⟩;dsimp only at hi hc Ab hDl hDv ⊢;have A5:=E2.1;refine ABp (AF5 rfl rfl (fun Am=>?_) (fun Am=>?_))
 ·refine ABt (ABr (ACd rfl (ABy (q_t (ABr (ABw (ABp (Wo (ABv (ABr ?_))))))))));obtain ⟨x,hx⟩:∃ x,LA[i]? =some x:=⟨_,List.getElem?_eq_getElem (by omega)⟩;have hbx:=HA.dig x (List.mem_of_getElem? hx);refine AB5 (Wo (Wo (AJs ACc rfl (HA.ext E2) rfl hx fun A6 Ao=>AB6 AEf rfl Ao (ASk AEy AEl rfl hbx (Wo (AIf rfl rfl ?_))))));rw [wrap_u64];refine ABv (AUn 34342961408 (fun s:Int=>[(8,.int .u64 (s % 18446744073709551616))]) (fun s h'=>h'=h2/\s=((x:Int) - (c:Int) - ((LB[i]?.getD 0:Nat):Int))) (by kernel_rfl) ?_ ?_)
  ·refine ABp (Wo (Wo (ADr ACc rfl (HB.ext E2) (AF5 rfl rfl (fun Ap=>?_) (fun Ap=>?_)))))
   ·refine ABt (ACd rfl ?_);obtain ⟨y,Af⟩:∃ y,LB[i]? =some y:=⟨_,List.getElem?_eq_getElem (by omega)⟩;have hby:=HB.dig y (List.mem_of_getElem? Af);refine AB5 (Wo (Wo (Wo (AJs ACc rfl (HB.ext E2) rfl Af fun A7 Aq=>AB6 AEf rfl Aq (ASk AEy AEl rfl hby (AIf rfl rfl (ABv ?_)))))));exact ⟨((x:Int) - (c:Int) - ((LB[i]?.getD 0:Nat):Int)),⟨rfl,rfl⟩,by rw [Af];show Value.int .u64 _=_;congr 1;rw [wrap_u64];simp only [Option.getD_some];omega,trivial⟩
   ·refine ABt (ACo rfl (ABy (q_t ?_)));exact ⟨((x:Int) - (c:Int) - ((LB[i]?.getD 0:Nat):Int)),⟨rfl,rfl⟩,by rw [List.getElem?_eq_none (by omega)];show Value.int .u64 _=_;congr 1;simp only [Option.getD_none];omega,trivial⟩
  rintro s s2 h2 ⟨rfl,hs⟩;obtain ⟨y,hy⟩:∃ y,LB[i]?.getD 0=y:=⟨_,rfl⟩;rw [hy] at hs;refine ABr ?_
  have hby:y < 4294967296:=by
    rw [<- hy]
    cases hq:LB[i]? with
    | none=>simp
    | some q=>exact HB.dig q (List.mem_of_getElem? hq)
  refine AB5 (Wo (Wo (Wo (AM8 AEl AEy rfl ?_))));obtain ⟨dg,hdg⟩:∃ dg:Nat,(dg:Int)=s % 4294967296:=⟨(s % 4294967296).toNat,by omega⟩;rw [show IntKind.u32.wrap (s % 18446744073709551616)=(dg:Int) by rw [wrap_u32,hdg];omega];refine ASt ACc rfl Ab rfl (by simp;omega) ?_;refine AUc (D ++ [dg] ++ List.replicate (LA.length - (i + 1)) 0) AEf rfl rfl Ab (by simp;omega) (AY1 hDl (by omega)) fun h4 Ar U4=>?_;have A9:=U4.1;have X7:=E2.thenUpd U4 (fun k hk=>by have Av:k=g1:=hk;omega);have Z8:=E2.thenUpd U4 (fun k hk=>by have Av:k=g1:=hk;omega);refine ABt (AB5 (Wo (AZw (n:=63) rfl rfl (by decide) ?_)));rw [show s % 18446744073709551616 / 2 ^ 63=((if s < 0 then 1 else 0:Nat):Int) by split <;> omega];refine ACk (ACr (q_b (q_t (AB5 (AKl rfl (by omega) (Wo (ABt ?_)))))));exact ⟨LA.length - (i + 1),(i + 1,if s < 0 then 1 else 0),by first | omega | (dsimp only;omega),⟨rfl,by first | omega | (dsimp only;omega),X7,by dsimp only;split <;> omega,_,Ar,by simp [hDl],ANb hDd (by omega),by rw [AL4,hDl,AL5 LB,hy,ADx hx];exact AUw hDv (by split <;> omega)⟩,rfl,rfl,trivial⟩
 ·refine ABt (ABr (ACo rfl (ACh (ACj (ACj (ADo (q_t (ABr ?_))))))));obtain rfl:i=LA.length:=by omega
  rw [List.take_length,List.take_of_length_le (by have:=AMx htb (Nat.lt_of_le_of_lt hle (ANw HA.dig));omega)] at hDv;have hDlt:=ANw hDd;rw [hDl] at hDlt
  have Aw:c=0:=by
    rcases Nat.eq_zero_or_pos c with h0 | h0
    · exact h0
    · obtain rfl:c=1:=by omega
      rw [Nat.mul_one] at hDv;omega
  subst Aw;rw [Nat.mul_zero,Nat.add_zero] at hDv;rw [Nat.sub_self,List.replicate_zero,List.append_nil] at Ab;have Ai:=Ab.ds (lo:=Array.size h) hDd Ak;refine AB5 (Wo (ACl trivial rfl (AM6 (Ai.mono (Nat.zero_le _)) (by omega)) fun x9 h2 hk=>?_));obtain ⟨rfl,L2,HT,htl⟩:=hk;refine ⟨trivial,?_⟩;refine ABv (ABx (⟨_,ABz,?_⟩));exact ⟨E2,L2,HT.ds Ai.lo,htl,by rw [HT.val];omega,by have:=HT.len;omega⟩
theorem Anh {L:List Nat} (h:Dig L) (hl:L.length<=1):nv L<=4294967295:=by
 have h1:=ANw h;have h2:4294967296 ^ L.length<=4294967296 ^ 1:=Nat.pow_le_pow_right (by decide) hl;omega
theorem Ani {A B:List Nat} (ha:Dig A) (hb:Dig B) (la:A.length<=1) (lb:B.length<=1):nv A * nv B < 18446744073709551616:=by
 have:=Nat.mul_le_mul (Anh ha la) (Anh hb lb);omega
theorem APi {a b:Nat} (h:0<=AN3 a b):b<=a:=by
 unfold AN3 at h;split at h
 ·omega
 ·omega
theorem ATt {a b:Nat} (h:AN3 a b < 0):a<=b:=by
 unfold AN3 at h;split at h
 ·omega
 ·split at h <;> omega
theorem AZ2 {A B:List Nat} (ha:Dig A) (hb:Dig B) (la:A.length<=99) (lb:B.length<=99):nv A + nv B < 4294967296 ^ 100:=by
 have h1:=ANw ha;have h2:=ANw hb;have h3:4294967296 ^ A.length<=4294967296 ^ 99:=Nat.pow_le_pow_right (by decide) la;have h4:4294967296 ^ B.length<=4294967296 ^ 99:=Nat.pow_le_pow_right (by decide) lb;have h5:4294967296 ^ 100=4294967296 ^ 99 * 4294967296:=Nat.pow_succ 4294967296 99;rw [h5];have h6:0 < 4294967296 ^ 99:=Nat.pow_pos (by decide);generalize 4294967296 ^ 99=t at *;omega
theorem ATu {a b:Bool} {x y:Nat} (h:a=b):sgn a x + sgn b y=sgn a (x + y):=by
 subst h;cases a <;> simp [sgn] <;> omega
theorem ATv {a b:Bool} {x y:Nat} (h:a≠b) (hl:y<=x):sgn a x + sgn b y=sgn a (x - y):=by
 cases a <;> cases b <;> simp [sgn] at h ⊢ <;> omega
theorem ARf {a b:Bool} {x y:Nat} (h:a≠b) (hl:x<=y):sgn a x + sgn b y=sgn b (y - x):=by
 cases a <;> cases b <;> simp [sgn] at h ⊢ <;> omega
theorem Ade {h:ABu} {la lb:Nat} {va vb:Value} {LA LB:List Nat} (na nb:Bool) (HA:DS h la va LA) (HB:DS h lb vb LB) (hta:TL LA) (htb:TL LB) (hna:LA.length<=99) (hnb:LB.length<=99):ACn Tryz.prog 159 #[.bool na,va,.bool nb,vb] h fun x h'=>Ext h h'/\ZV h' (Array.size h) x (sgn na (nv LA) + sgn nb (nv LB)):=by
 refine AC5 (l:=[_,_,_,_]) mx Tryz.func159 rfl rfl rfl rfl rfl (by kernel_rfl) (ABp (AGi [.bool false,.slice none 0 0] AGk rfl (fun _=>trivial) fun Ab h2 V3 E4 A8 Cg=>?_));have Ch:Array.size h<=Ab:=A8;have Ci:=E4.1;have Z8:=(Ext.refl h).trans E4;refine ABt (ABr (ABw (ABp (Wo (Wo (Ad9 AVg rfl rfl ?_))))));cases Cj:na == nb
 ·refine ABv (ACo rfl (ABp (Wo (Wo (ACl trivial rfl (AV2 (HA.ext E4) (HB.ext E4) hta htb (by omega) (by omega)) fun x9 h2 hk=>?_)))));obtain ⟨rfl,rfl⟩:=hk;refine ⟨trivial,?_⟩;refine AUr rfl rfl (fun A9=>?_) (fun A9=>?_)
  ·refine ABv (ACd rfl (ABp (Wo (Wo (Wo (ACl trivial rfl (AX9 (HA.ext E4) (HB.ext E4) htb (APi (by assumption)) (by omega)) fun Cm Cn hk=>?_))))));obtain ⟨Aq,L1,Ac,Ag,Ah,A6⟩:=hk;refine ⟨trivial,?_⟩;have Co:=Aq.1;have Ba:=Z8.trans Aq;have Bb:=E4.trans Aq;have Bc:=V3.ext Aq;have Be:=E4.trans Aq;refine ACl trivial rfl (AKr na Ac Ag (by omega)) fun Cp Cq hk=>?_;obtain ⟨Ai,Ar⟩:=hk;refine ⟨trivial,?_⟩;have Cr:=Ai.1;have Bf:=Ba.trans Ai;have Bg:=Bb.trans Ai;have Bh:=Bc.ext Ai;have Bi:=Be.trans Ai;have Bj:=Ac.ext Ai;obtain ⟨Ad,s2,L2,rfl,Ae,Av,Aw,Ax⟩:=Ar.out;refine AC7 [.bool Ad,s2] ACf rfl rfl rfl rfl (AGj Ae.cap) Bh fun Ct Bl Aj=>?_;have Bm:=Bg.thenUpd Aj (fun k hk=>by have Af:k=Ab:=hk;omega);have Cu:=Aj.1;have Cv:=Bf.thenUpd Aj (fun k hk=>by have Af:k=Ab:=hk;omega);have Cw:=Bi.thenUpd Aj (fun k hk=>by have Af:k=Ab:=hk;omega);have Cx:=Bj.updLo Aj (by omega);have Bn:=Ae.updLo Aj (by omega);refine ABt (ABx (ADe (AB4 (⟨_,AEe ACf rfl rfl Bl,?_⟩))));exact ⟨Bm,⟨Ad,s2,L2,rfl,Bn.mono (by omega),Av,Aw,by rw [<- Ax,Ah];first | exact ATu (eq_of_beq (by assumption)) | exact ATv (ne_of_beq_false (by assumption)) (APi (by assumption)) | exact ARf (ne_of_beq_false (by assumption)) (ATt (by assumption))⟩⟩
  ·refine ABv (ACo rfl (ABy (q_b (q_t (ABp (Wo (Wo (Wo (ACl trivial rfl (AX9 (HB.ext E4) (HA.ext E4) hta (ATt (by assumption)) (by omega)) fun Cy Cz hk=>?_)))))))));obtain ⟨Ay,L1,Ac,Ag,Ah,A6⟩:=hk;refine ⟨trivial,?_⟩;have C0:=Ay.1;have Bo:=Z8.trans Ay;have Bp:=E4.trans Ay;have Bq:=V3.ext Ay;have Br:=E4.trans Ay;refine ACl trivial rfl (AKr nb Ac Ag (by omega)) fun C1 C2 hk=>?_;obtain ⟨Ak,Ar⟩:=hk;refine ⟨trivial,?_⟩;have C3:=Ak.1;have Bt:=Bo.trans Ak;have Bu:=Bp.trans Ak;have Bv:=Bq.ext Ak;have Bw:=Br.trans Ak;have Bx:=Ac.ext Ak;obtain ⟨Ad,s2,L2,rfl,Ae,Av,Aw,Ax⟩:=Ar.out;refine AC7 [.bool Ad,s2] ACf rfl rfl rfl rfl (AGj Ae.cap) Bv fun C4 By Am=>?_;have Bz:=Bu.thenUpd Am (fun k hk=>by have Af:k=Ab:=hk;omega);have C5:=Am.1;have C6:=Bt.thenUpd Am (fun k hk=>by have Af:k=Ab:=hk;omega);have C7:=Bw.thenUpd Am (fun k hk=>by have Af:k=Ab:=hk;omega);have C8:=Bx.updLo Am (by omega);have B1:=Ae.updLo Am (by omega);refine ABt (ABx (⟨_,AEe ACf rfl rfl By,?_⟩));exact ⟨Bz,⟨Ad,s2,L2,rfl,B1.mono (by omega),Av,Aw,by rw [<- Ax,Ah];first | exact ATu (eq_of_beq (by assumption)) | exact ATv (ne_of_beq_false (by assumption)) (APi (by assumption)) | exact ARf (ne_of_beq_false (by assumption)) (ATt (by assumption))⟩⟩
 ·refine ABv (ACd rfl (ABp (Wo (Wo (Wo (ACl trivial rfl (Ab3 (HA.ext E4) (HB.ext E4) (by omega) (by omega)) fun C9 Da hk=>?_))))));obtain ⟨Az,L1,Ac,Ag,Ah,A6⟩:=hk;refine ⟨trivial,?_⟩;have Db:=Az.1;have B3:=Z8.trans Az;have B4:=E4.trans Az;have B5:=V3.ext Az;have B6:=E4.trans Az;refine ACl trivial rfl (AKr na Ac Ag (AMx Ag (by rw [Ah];exact AZ2 HA.dig HB.dig hna hnb))) fun Dc Dd hk=>?_;obtain ⟨Ao,Ar⟩:=hk;refine ⟨trivial,?_⟩;have De:=Ao.1;have B7:=B3.trans Ao;have B8:=B4.trans Ao;have B9:=B5.ext Ao;have Ca:=B6.trans Ao;have Cb:=Ac.ext Ao;obtain ⟨Ad,s2,L2,rfl,Ae,Av,Aw,Ax⟩:=Ar.out;refine AC7 [.bool Ad,s2] ACf rfl rfl rfl rfl (AGj Ae.cap) B9 fun Df Cd Ap=>?_;have Ce:=B8.thenUpd Ap (fun k hk=>by have Af:k=Ab:=hk;omega);have Dg:=Ap.1;have Dh:=B7.thenUpd Ap (fun k hk=>by have Af:k=Ab:=hk;omega);have Di:=Ca.thenUpd Ap (fun k hk=>by have Af:k=Ab:=hk;omega);have Dj:=Cb.updLo Ap (by omega);have Cf:=Ae.updLo Ap (by omega);refine ABt (ABx (ADe (AB4 (⟨_,AEe ACf rfl rfl Cd,?_⟩))));exact ⟨Ce,⟨Ad,s2,L2,rfl,Cf.mono (by omega),Av,Aw,by rw [<- Ax,Ah];first | exact ATu (eq_of_beq (by assumption)) | exact ATv (ne_of_beq_false (by assumption)) (APi (by assumption)) | exact ARf (ne_of_beq_false (by assumption)) (ATt (by assumption))⟩⟩
theorem AGr {ng:Bool} {n:Nat} {z:Int} (h:z=sgn ng n):z.natAbs=n:=by
 subst h;cases ng <;> simp [sgn]
theorem Ahz (ng:Bool) (n:Nat):sgn (!ng) n= -sgn ng n:=by cases ng <;> simp [sgn]
theorem Sub_ok {h:ABu} {la lb:Nat} {va vb:Value} {a b:Int} (HA:ZV h la va a) (HB:ZV h lb vb b) (hba:a.natAbs < 4294967296 ^ 99) (hbb:b.natAbs < 4294967296 ^ 99):ACn Tryz.prog 145 #[va,vb] h fun x h'=>Ext h h'/\ZV h' (Array.size h) x (a - b):=by
 obtain ⟨na,sa,LA,rfl,HDa,htla,hla,hza⟩:=HA.out;obtain ⟨nb,sb,LB,rfl,HDb,htlb,hlb,hzb⟩:=HB.out;refine AC5 (l:=[_,_]) mx Tryz.func145 rfl rfl rfl rfl rfl (by kernel_rfl) (ABp (AJd [.bool na,sa] (fun _=>trivial) rfl rfl fun Aj h2 V3 E4 A8 B3=>?_));have B4:Array.size h<=Aj:=A8;have B5:=E4.1;have Z8:=(Ext.refl h).trans E4;refine AJd [.bool nb,sb] (fun _=>trivial) rfl rfl fun Ak B6 Ar Af Ba B7=>?_;have B8:Array.size h<=Ak:=Nat.le_trans E4.1 Ba;have nebq1bq9:Aj≠Ak:=by have:=V3.lt;omega
 have B9:=Af.1;have Au:=E4.trans Af;have Av:=V3.ext Af;refine AGi [.bool false,.slice none 0 0] AGk rfl (fun _=>trivial) fun Ab Ah Bb Ac Bc Ca=>?_;have Cb:Array.size h<=Ab:=Nat.le_trans Au.1 Bc;have nebq1bq20:Aj≠Ab:=by have:=Av.lt;omega
 have nebq9bq20:Ak≠Ab:=by have:=Ar.lt;omega
 have Cd:=Ac.1;have Be:=(Z8.trans Af).trans Ac;have Am:=Au.trans Ac;have Aw:=Av.ext Ac;have Bf:=(E4.trans Af).trans Ac;have Ax:=Ar.ext Ac;have Bg:=Af.trans Ac;refine ABt (ABr (AEd (fun h'=>Ext Ah h') (by kernel_rfl) ?_));have Aa:=Ext.refl Ah;refine AHj (fs:=1) AL1 (by kernel_rfl) (by decide) rfl (AEt AF7 rfl Aa (fun h' hb=>(Aw.ext hb).cell (i:=0) rfl) (AHj (fs:=1) AMl (by kernel_rfl) (by decide) rfl (AEt AIx rfl Aa (fun h' hb=>(Aw.ext hb).cell (i:=1) rfl) (ACl Aa rfl (AM6 (DS.mono (HDa.ext Am) (Nat.zero_le _)) (by omega)) fun Ce Ah hk=>?_))));obtain ⟨rfl,L1,Ao,Ay⟩:=hk;refine ⟨Aa,?_⟩;have Bh:=Ao.ds (lo:=la) HDa.lo;have Az:=Ao.val;have Cg:=Ao.len;refine AHj (fs:=1) AL1 (by kernel_rfl) (by decide) rfl (AEt AF7 rfl Aa (fun h' hb=>(Ax.ext hb).cell (i:=0) rfl) (AE1 rfl (AHj (fs:=1) AMl (by kernel_rfl) (by decide) rfl (AEt AIx rfl Aa (fun h' hb=>(Ax.ext hb).cell (i:=1) rfl) (ACl Aa rfl (AM6 (DS.mono (HDb.ext Am) (Nat.zero_le _)) (by omega)) fun Ch Ah hk=>?_)))));obtain ⟨rfl,L2,Ap,A3⟩:=hk;refine ⟨Aa,?_⟩;have Bi:=Ap.ds (lo:=lb) HDb.lo;have A4:=Ap.val;have Cj:=Ap.len;refine ACl Aa rfl (Ade na (!nb) Bh Bi Ay A3 (AMx Ay (by rw [Az,<- AGr hza];exact hba)) (AMx A3 (by rw [A4,<- AGr hzb];exact hbb))) fun Ck Cm hk=>?_;obtain ⟨Ad,Bj⟩:=hk;have Bl:=Aa.trans Ad;refine ⟨Bl,?_⟩;have Cn:=Ad.1;have Bm:=Be.trans Ad;have Bn:=Am.trans Ad;have Bo:=Bf.trans Ad;have Bp:=Bg.trans Ad;have Bq:=Bb.ext Ad;have Br:=Ac.trans Ad;obtain ⟨A5,s3,L3,rfl,A7,Bu,Bv,Bw⟩:=Bj.out;refine AC7 [.bool A5,s3] ACf rfl rfl rfl rfl (AGj A7.cap) Bq fun Co Bx Ae=>?_;have By:=Bn.thenUpd Ae (fun k hk=>by have Ai:k=Ab:=hk;omega);have Cp:=Ae.1;have Cq:=Bm.thenUpd Ae (fun k hk=>by have Ai:k=Ab:=hk;omega);have Cr:=Br.thenUpd Ae (fun k hk=>by have Ai:k=Ab:=hk;omega);have Ct:=Bo.thenUpd Ae (fun k hk=>by have Ai:k=Ab:=hk;omega);have Cu:=Bp.thenUpd Ae (fun k hk=>by have Ai:k=Ab:=hk;omega);have Bz:=A7.updLo Ae (by omega);refine ABt (ABx (⟨_,AEe ACf rfl rfl Bx,?_⟩));exact ⟨By,⟨A5,s3,L3,rfl,Bz.mono (by omega),Bu,Bv,by rw [<- Bw,Az,A4,hza,hzb,Ahz];omega⟩⟩
theorem Acw (a b:Bool) (x y:Nat):sgn a x * sgn b y=sgn (!(a == b)) (x * y):=by
 cases a <;> cases b <;> simp [sgn,Int.neg_mul,Int.mul_neg]
theorem Agd {L:List Nat} (h:Dig L) (hl:L.length<=2):nv L < 18446744073709551616:=by
 have h1:=ANw h;have h2:4294967296 ^ L.length<=4294967296 ^ 2:=Nat.pow_le_pow_right (by decide) hl;omega
theorem AW6 {a b:Nat} (h:AN3 a b < 0):a < b:=by
 unfold AN3 at h;split at h
 ·assumption
 ·split at h <;> omega
theorem Agx {h:ABu} {la lb:Nat} {va vb:Value} {LA LB:List Nat} (HA:DS h la va LA) (HB:DS h lb vb LB) (hta:TL LA) (htb:TL LB) (Ar:nv LB≠0) (hna:LA.length<=2) (hnb:LB.length<=2):ACn Tryz.prog 149 #[va,vb] h fun x h'=>Ext h h'/\ ∃ q r,x= .tuple #[q,r]/\ ∃ LQ LR,DS h' (Array.size h) q LQ/\DS h' (Array.size h) r LR/\TL LQ/\TL LR/\nv LQ=nv LA / nv LB/\nv LR=nv LA % nv LB/\LQ.length<=2/\LR.length<=2:=by
 refine AC5 (l:=[_,_]) mx Tryz.func149 rfl rfl rfl rfl rfl (by kernel_rfl) (ABp (ACk (ABv (ABr (ABw (ABp (Wo (Wo (ACl trivial rfl (AV2 HA HB hta htb (by omega) (by omega)) fun x1 h hk=>?_)))))))));obtain ⟨rfl,rfl⟩:=hk;refine ⟨trivial,?_⟩;refine AF5 rfl rfl (fun Am=>?_) (fun Am=>?_)
 ·refine ABv (ACd rfl (ABp (Wo (ACl trivial rfl (AX8 HA (by omega)) fun x2 h3 hk=>?_))));obtain ⟨E4,Aa⟩:=hk;refine ⟨trivial,?_⟩;have Ax:=E4.1;have Z6:=(Ext.refl h).trans E4;refine ACk (ABv (ABx (ADe (AB4 (⟨_,ADj,?_⟩)))))
  first
  | (have hlt:=AW6 (by assumption:AN3 (nv LA) (nv LB) < 0)
     exact ⟨E4,_,_,rfl,[],LA,AQ7 _ _,Aa,ASj,hta,by rw [Nat.div_eq_of_lt hlt];rfl,by rw [Nat.mod_eq_of_lt hlt],by simp,by omega⟩)
  | exact ⟨E4,_,_,rfl,L1,L2,lacks_HD1.mono (by omega),Aa.mono (by omega),Ag,Ah,Ai,Aj,by omega,by omega⟩
 ·refine ABv (ACo rfl (ABp (Wo (ADr ACc rfl HA (ASu rfl rfl (fun _=>?_) (fun hc=>absurd hc (by omega)))))));refine ABv (ACd rfl (ABp (Wo (ACl trivial rfl (AY9 HA (by omega)) fun x7 h hk=>?_))));obtain ⟨rfl,rfl⟩:=hk;refine ⟨trivial,?_⟩;refine Wo (ACl trivial rfl (AY9 HB (by omega)) fun x8 h hk=>?_);obtain ⟨rfl,rfl⟩:=hk;refine ⟨trivial,?_⟩;refine ACk (ABv (ABr ?_));have hlt:=Agd HA.dig hna;refine AQ2 (by kernel_rfl) (Wo (Wo (AWq rfl rfl (by omega) ?_)));rw [show IntKind.u64.wrap (((nv LA:Nat):Int).tdiv ((nv LB:Nat):Int))=((nv LA / nv LB:Nat):Int) by rw [Int.tdiv_eq_ediv_of_nonneg (by omega),<- Int.natCast_ediv,wrap_u64];have hq:=Nat.div_le_self (nv LA) (nv LB);generalize nv LA / nv LB=q at hq ⊢;omega];refine ACl trivial rfl (AP4 (nv LA / nv LB) (by have:=Nat.div_le_self (nv LA) (nv LB);omega) _) fun x9 A5 hk=>?_;obtain ⟨Ad,L1,Ao,Ag,Ai,A6⟩:=hk;refine ⟨trivial,?_⟩;have A7:=Ad.1;have Ap:=(Ext.refl h).trans Ad;refine Wo (Wo (Alj rfl rfl (by omega) (ACl trivial rfl (AP4 (nv LA % nv LB) (by have:=Nat.mod_le (nv LA) (nv LB);omega) _) fun A8 A9 hk=>?_)));obtain ⟨Ac,L2,Aa,Ah,Aj,Ba⟩:=hk;refine ⟨trivial,?_⟩;have Bb:=Ac.1;have Bc:=Ap.trans Ac;have Ak:=Ad.trans Ac;have Aq:=Ao.ext Ac;refine ACk (ABv (ABx (ADe (AB4 (⟨_,ADj,?_⟩)))))
  first
  | (have hlt:=AW6 (by assumption:AN3 (nv LA) (nv LB) < 0)
     exact ⟨Ak,_,_,rfl,[],LA,AQ7 _ _,Aa,ASj,hta,by rw [Nat.div_eq_of_lt hlt];rfl,by rw [Nat.mod_eq_of_lt hlt],by simp,by omega⟩)
  | exact ⟨Ak,_,_,rfl,L1,L2,Aq.mono (by omega),Aa.mono (by omega),Ag,Ah,Ai,Aj,by omega,by omega⟩
theorem AIm {a b q r:Int} (hb:b≠0) (h:a=b * q + r) (h0:0<=r) (h1:r < b.natAbs):a / b=q/\a % b=r:=by
 have hr:r % b=r:=by
   rcases AUt 0 b with hp | hn
   · exact Int.emod_eq_of_lt h0 (by omega)
   · rw [<- Int.emod_neg];exact Int.emod_eq_of_lt h0 (by omega)
 have hm:a % b=r:=by rw [h,Int.add_comm,Int.add_mul_emod_self_left];exact hr
 refine ⟨?_,hm⟩;have h2:=Int.mul_ediv_add_emod a b;rw [hm] at h2;have h3:b * (a / b)=b * q:=by omega
 exact Int.eq_of_mul_eq_mul_left hb h3
theorem Asv {A B:Nat} (hA:A < 18446744073709551616) (hr:A % B≠0):A / B + 1 < 18446744073709551616:=by
 match B with
 | 0=>simp
 | 1=>omega
 | n + 2=>
   have:A / (n + 2)<=A / 2:=Nat.div_le_div_left (show 2<=n + 2 by omega) (by omega)
   omega
theorem Amd {nb:Bool} {A B:Nat} (hB:B≠0):sgn nb (A / B)=(A:Int) / sgn nb B/\sgn false (A % B)=(A:Int) % sgn nb B:=by
 have h:=Nat.div_add_mod A B;have hl:=Nat.mod_lt A (Nat.pos_of_ne_zero hB);have h2:(A:Int)=(B:Int) * ((A / B:Nat):Int) + ((A % B:Nat):Int):=by rw [<- Int.natCast_mul,<- Int.natCast_add,h]
 have:=AIm (a:=A) (b:=sgn nb B) (q:=sgn nb (A / B)) (r:=((A % B:Nat):Int)) (by cases nb <;> simp [sgn] <;> omega) (by cases nb <;> simp only [sgn] <;> simp [Int.neg_mul_neg] <;> (rw [<- Int.natCast_ediv,<- Int.natCast_emod];exact h2)) (by omega) (by cases nb <;> simp only [sgn] <;> simp <;> omega);exact ⟨this.1.symm,this.2.symm⟩
theorem Ah5 {nb:Bool} {A B:Nat} (hB:B≠0) (hr:A % B≠0):sgn (!nb) (A / B + 1)= -(A:Int) / sgn nb B/\sgn false (B - A % B)= -(A:Int) % sgn nb B:=by
 have h:=Nat.div_add_mod A B;have hl:=Nat.mod_lt A (Nat.pos_of_ne_zero hB);have h2:(A:Int)=(B:Int) * ((A / B:Nat):Int) + ((A % B:Nat):Int):=by rw [<- Int.natCast_mul,<- Int.natCast_add,h]
 obtain ⟨q,hq⟩:∃ q,A / B=q:=⟨_,rfl⟩;obtain ⟨r,hrr⟩:∃ r,A % B=r:=⟨_,rfl⟩;rw [hq,hrr] at h2;rw [hrr] at hl hr;rw [hq,hrr];have e:((B - r:Nat):Int)=(B:Int) - (r:Int):=by omega
 have:=AIm (a:= -(A:Int)) (b:=sgn nb B) (q:=sgn (!nb) (q + 1)) (r:=((B - r:Nat):Int)) (by cases nb <;> simp [sgn] <;> omega) (by rw [h2,e];cases nb <;> simp [sgn] <;> grind) (by omega) (by cases nb <;> simp only [sgn] <;> simp <;> omega);exact ⟨this.1.symm,this.2.symm⟩
theorem Ah6 {nb:Bool} {A B:Nat} (hB:B≠0) (hr:A % B=0):sgn (!nb) (A / B)= -(A:Int) / sgn nb B/\sgn false (A % B)= -(A:Int) % sgn nb B:=by
 have h:=Nat.div_add_mod A B;have h2:(A:Int)=(B:Int) * ((A / B:Nat):Int):=by rw [<- Int.natCast_mul];omega
 obtain ⟨q,hq⟩:∃ q,A / B=q:=⟨_,rfl⟩;rw [hq] at h2;rw [hq,hr];have:=AIm (a:= -(A:Int)) (b:=sgn nb B) (q:=sgn (!nb) q) (r:=0) (by cases nb <;> simp [sgn] <;> omega) (by rw [h2];cases nb <;> simp [sgn] <;> grind) (by omega) (by cases nb <;> simp only [sgn] <;> simp <;> omega);exact ⟨this.1.symm,this.2.symm⟩
theorem DivMod2_ok {h:ABu} {la lb:Nat} {va vb:Value} {a b:Int} (HA:ZV h la va a) (HB:ZV h lb vb b) (hba:a.natAbs < 18446744073709551616) (hbb:b.natAbs < 18446744073709551616) (C6:b≠0):ACn Tryz.prog 119 #[va,vb] h fun x h'=>Ext h h'/\ ∃ q r,x= .tuple #[q,r,.bool true]/\ZV h' (Array.size h) q (a / b)/\ZV h' (Array.size h) r (a % b):=by
 obtain ⟨na,sa,LA,rfl,HDa,htla,hla,hza⟩:=HA.out;obtain ⟨nb,sb,LB,rfl,HDb,htlb,hlb,hzb⟩:=HB.out;refine AC5 (l:=[_,_]) mx Tryz.func119 rfl rfl rfl rfl rfl (by kernel_rfl) (ABp (AJd [.bool na,sa] (fun _=>trivial) rfl rfl fun A6 h2 V3 E4 C7 C8=>?_));have Hn:Array.size h<=A6:=C7;have Ho:=E4.1;have Z8:=(Ext.refl h).trans E4;refine AJd [.bool nb,sb] (fun _=>trivial) rfl rfl fun A7 Hq Bc Ba Da Hr=>?_;have Hs:Array.size h<=A7:=Nat.le_trans E4.1 Da;have nebq1bq9:A6≠A7:=by have:=V3.lt;omega
 have Ht:=Ba.1;have Ch:=E4.trans Ba;have Be:=V3.ext Ba;refine AGi [.bool false,.slice none 0 0] AGk rfl (fun _=>trivial) fun Ac Hu Ci Ay Db Hv=>?_;have Hw:Array.size h<=Ac:=Nat.le_trans Ch.1 Db;have nebq1bq20:A6≠Ac:=by have:=Be.lt;omega
 have nebq9bq20:A7≠Ac:=by have:=Bc.lt;omega
 have Hx:=Ay.1;have Dc:=(Z8.trans Ba).trans Ay;have Cj:=Ch.trans Ay;have Ck:=Be.ext Ay;have Dd:=(E4.trans Ba).trans Ay;have Cm:=Bc.ext Ay;refine AGi [.bool false,.slice none 0 0] AGk rfl (fun _=>trivial) fun Aa Cn De Ax Df Hy=>?_;have Hz:Array.size h<=Aa:=Nat.le_trans Cj.1 Df;have nebq1bq33:A6≠Aa:=by have:=Ck.lt;omega
 have nebq9bq33:A7≠Aa:=by have:=Cm.lt;omega
 have nebq20bq33:Ac≠Aa:=by have:=Ci.lt;omega
 have H5:=Ax.1;have Dg:=Dc.trans Ax;have Bv:=Cj.trans Ax;have Co:=Ck.ext Ax;have Dh:=Dd.trans Ax;have Cp:=Cm.ext Ax;have Di:=(Ba.trans Ay).trans Ax;have Dj:=Ci.ext Ax;have Dk:=Ay.trans Ax;refine AC1 (AHj (fs:=1) AMl (by kernel_rfl) (by decide) rfl (AB6 AIx rfl (Cp.cell (i:=1) rfl) (ACl trivial rfl (AM6 (DS.mono (HDb.ext Bv) (Nat.zero_le _)) (by omega)) fun H9 Cn hk=>?_)));obtain ⟨rfl,L2,Bw,Bx⟩:=hk;refine ⟨trivial,?_⟩;have By:=Bw.ds (lo:=lb) HDb.lo;have A8:=Bw.val;have Ia:=Bw.len;refine ABv (ABr (ABp (Wo (ADr ACc rfl By ?_))));have Bf:nv LB≠0:=fun h0=>C6 (by rw [hzb,h0];cases nb <;> rfl);have hLB:L2≠[]:=fun h0=>Bf (by rw [<- A8,h0];rfl);have hLp:=List.length_pos_iff.2 hLB;refine ASv rfl rfl (fun hc=>absurd hc (by omega)) (fun _=>ABt (ACo rfl (ABy (q_t (ABp (AHj (fs:=1) AMl (by kernel_rfl) (by decide) rfl (AB6 AIx rfl (Co.cell (i:=1) rfl) (ACl trivial rfl (AM6 (DS.mono (HDa.ext Bv) (Nat.zero_le _)) (by omega)) fun Ib Cn hk=>?_))))))));obtain ⟨rfl,L1,Bz,Cr⟩:=hk;refine ⟨trivial,?_⟩;have Ct:=Bz.ds (lo:=la) HDa.lo;have Cu:=Bz.val;have Id:=Bz.len;refine Wo (ACl trivial rfl (Agx Ct By Cr Bx (by rw [A8];exact Bf) (AMx Cr (by rw [Cu,<- AGr hza];omega)) (AMx Bx (by rw [A8,<- AGr hzb];omega))) fun Ie If hk=>?_);obtain ⟨Am,qv,rv,rfl,LQ,LR,HQ,HR,htq,htr,hvq,hvr,hlq,hlr⟩:=hk;refine ⟨trivial,?_⟩;have Ih:=Am.1;have B1:=Dg.trans Am;have B3:=Bv.trans Am;have B4:=Co.ext Am;have B5:=Dh.trans Am;have Dl:=Cp.ext Am;have B6:=Di.trans Am;have B7:=Dj.ext Am;have B8:=Dk.trans Am;have B9:=De.ext Am;have Ca:=By.ext Am;have Cb:=Ct.ext Am;rw [Cu,A8] at hvq hvr;have Ii:L2.length<=2:=AMx Bx (by rw [A8,<- AGr hzb];omega);refine Wo (ADm rfl rfl (ADm rfl rfl (ACk (AC1 (AHj (fs:=1) AL1 (by kernel_rfl) (by decide) rfl (AB6 AF7 rfl (Dl.cell (i:=0) rfl) (ABv (ABr (ABw (ABr (ABw (ABr (ABw (ABr (ABr (ABr ?_))))))))))))))));have hrl:LR.length=0↔nv LA % nv LB=0:=⟨fun h0=>by rw [<- hvr,List.length_eq_zero_iff.1 h0];rfl,fun h0=>by rw [AIi htr (hvr.trans h0)];rfl⟩;refine AB5 (AHj (fs:=1) AL1 (by kernel_rfl) (by decide) rfl (AB6 AF7 rfl (B4.cell (i:=0) rfl) ?_));cases Bg:na
 ·refine Wo (ADd 32 false (by kernel_rfl) rfl rfl (ADd 32 false (by kernel_rfl) rfl rfl (ADd 32 false (by kernel_rfl) rfl rfl (AB0 rfl (ABv (ACo rfl (ABy (q_t (ABp (AHj (fs:=1) AL1 (by kernel_rfl) (by decide) rfl (AB6 AF7 rfl (B4.cell (i:=0) rfl) ?_)))))))))));rw [Bg];refine ABv (ACo rfl (ABy (q_t (ACh (Ack (by decide) (ACj (Ack (by decide) (ACj (ADo (q_t (ABp (Wo (Wo (ACl trivial rfl (AKr nb HQ htq (by omega)) fun Ij Ik hk=>?_))))))))))))));obtain ⟨Ao,Bh⟩:=hk;refine ⟨trivial,?_⟩;have Il:=Ao.1;have Dn:=B1.trans Ao;have Do:=B3.trans Ao;have Dp:=B5.trans Ao;have Dq:=B6.trans Ao;have Dr:=B7.ext Ao;have Ds:=B8.trans Ao;have Dt:=B9.ext Ao;have Im:=Ca.ext Ao;have Io:=Cb.ext Ao;have HQ_82:=HQ.ext Ao;have HR_83:=HR.ext Ao;obtain ⟨Az,s7,L7,rfl,Bj,Bl,Bm,Bn⟩:=Bh.out;refine Wo (ACl trivial rfl (AKr false HR_83 htr (by omega)) fun Ip Iq hk=>?_);obtain ⟨Ar,Bo⟩:=hk;refine ⟨trivial,?_⟩;have Ir:=Ar.1;have Du:=Dn.trans Ar;have Dv:=Do.trans Ar;have Dw:=Dp.trans Ar;have Dx:=Dq.trans Ar;have Dy:=Dr.ext Ar;have Dz:=Ds.trans Ar;have D0:=Dt.ext Ar;have HQ_98:=HQ_82.ext Ar;have HR_99:=HR_83.ext Ar;have Cv:=Bj.ext Ar;obtain ⟨A4,s8,L8,rfl,Bq,Br,Bt,Bu⟩:=Bo.out;refine AC7 [.bool Az,s7] ACf rfl rfl rfl rfl (AGj Cv.cap) Dy fun Is D1 Au=>?_;have D2:=Dv.thenUpd Au (fun k hk=>by have Ab:k=Ac:=hk;omega);have It:=Au.1;have D3:=Du.thenUpd Au (fun k hk=>by have Ab:k=Ac:=hk;omega);have Cd:=Dz.thenUpd Au (fun k hk=>by have Ab:k=Ac:=hk;omega);have D4:=Dw.thenUpd Au (fun k hk=>by have Ab:k=Ac:=hk;omega);have D5:=Dx.thenUpd Au (fun k hk=>by have Ab:k=Ac:=hk;omega);have D6:=D0.upd Au (fun he=>(Ne.symm nebq20bq33) (he:Aa=Ac));have HQ_113:=HQ_98.updLo Au (by omega);have HR_114:=HR_99.updLo Au (by omega);have D7:=Cv.updLo Au (by omega);have Cw:=Bq.updLo Au (by omega);refine AC7 [.bool A4,s8] ACf rfl rfl rfl rfl (AGj Cw.cap) D6 fun Iu D8 Ag=>?_;have D9:=D2.thenUpd Ag (fun k hk=>by have Ab:k=Aa:=hk;omega);have Iv:=Ag.1;have Iw:=D3.thenUpd Ag (fun k hk=>by have Ab:k=Aa:=hk;omega);have Ix:=(Be.ext Cd).upd Ag (fun he=>nebq1bq33 (he:A6=Aa));have Iy:=D4.thenUpd Ag (fun k hk=>by have Ab:k=Aa:=hk;omega);have Iz:=(Bc.ext Cd).upd Ag (fun he=>nebq9bq33 (he:A7=Aa));have I0:=D5.thenUpd Ag (fun k hk=>by have Ab:k=Aa:=hk;omega);have Ea:=D1.upd Ag (fun he=>nebq20bq33 (he:Ac=Aa));have I1:=Cd.thenUpd Ag (fun k hk=>by have Ab:k=Aa:=hk;omega);have HQ_129:=HQ_113.updLo Ag (by omega);have HR_130:=HR_114.updLo Ag (by omega);have Eb:=D7.updLo Ag (by omega);have Ec:=Cw.updLo Ag (by omega);refine ABv (ABx (⟨_,AO1 ACf rfl rfl Ea ACf rfl rfl D8,?_⟩));have hk:=Amd (nb:=nb) (A:=nv LA) Bf;have ea:a=((nv LA:Nat):Int):=by rw [hza,Bg];rfl
  exact ⟨D9,_,_,rfl,⟨Az,s7,L7,rfl,Eb.mono (by omega),Bl,Bm,by rw [<- Bn,hvq,ea,hzb];exact hk.1.symm⟩,⟨A4,s8,L8,rfl,Ec.mono (by omega),Br,Bt,by rw [<- Bu,hvr,ea,hzb];exact hk.2.symm⟩⟩
 ·refine Wo (ADn 32 true (by kernel_rfl) rfl rfl (Wo (ADn 32 true (by kernel_rfl) rfl rfl (ADr ACc rfl HR (ADn 32 true (by kernel_rfl) rfl rfl (AQ4 rfl rfl (fun Ed=>?_) (fun Ed=>?_)))))))
  ·refine AB2 rfl (ABv (ACd rfl (ACh (ACj (ACj (ADo (q_t (ABp (Wo (Alw [AN4 1] ACc AL9 rfl (fun _=>trivial) rfl (by omega) (by omega) rfl (by simp [AN4,isOne]) fun g8 v8 h8 Eg E8 I3 I5=>?_))))))))));have I6:=E8.1;have Eh:=B1.trans E8;have Ei:=B3.trans E8;have Ej:=B5.trans E8;have Ek:=B6.trans E8;have El:=B7.ext E8;have Em:=B8.trans E8;have En:=B9.ext E8;have Eo:=Ca.ext E8;have Ep:=Cb.ext E8;have HQ_146:=HQ.ext E8;have HR_147:=HR.ext E8;have HDu:DS h8 0 v8 [1]:=AFh.ds (L:=[1]) Eg (by intro x hx;rw [List.mem_singleton.1 hx];decide) (Nat.zero_le _);refine ACl trivial rfl (Ab3 HQ_146 HDu (by omega) (by simp)) fun I7 I9 hk=>?_;obtain ⟨Ah,L5,Es,Cx,Cy,Ja⟩:=hk;refine ⟨trivial,?_⟩;have Jc:=Ah.1;have Et:=Eh.trans Ah;have Eu:=Ei.trans Ah;have Ev:=Ej.trans Ah;have Ew:=Ek.trans Ah;have Ey:=El.ext Ah;have Ez:=Em.trans Ah;have Fa:=En.ext Ah;have Cz:=Eo.ext Ah;have Fb:=Ep.ext Ah;have HQ_164:=HQ_146.ext Ah;have HR_165:=HR_147.ext Ah;have HDu_166:=HDu.ext Ah;refine ABv (AB5 (Wo (Wo (ACl trivial rfl (AX9 Cz HR_165 htr (by rw [hvr,A8];exact Nat.le_of_lt (Nat.mod_lt _ (by omega))) (by omega)) fun Je Jf hk=>?_))));obtain ⟨Af,L6,Fc,Fd,Fe,C8⟩:=hk;refine ⟨trivial,?_⟩;have Jh:=Af.1;have Ff:=Et.trans Af;have Fg:=Eu.trans Af;have Fh:=Ev.trans Af;have Fi:=Ew.trans Af;have Fj:=Ey.ext Af;have Fk:=Ez.trans Af;have Fl:=Fa.ext Af;have Fm:=Cz.ext Af;have Fo:=Fb.ext Af;have HQ_183:=HQ_164.ext Af;have HR_184:=HR_165.ext Af;have HDu_185:=HDu_166.ext Af;have C0:=Es.ext Af;refine ACk (ACr (q_b (q_t (ABp (Wo (AE1 rfl (ABv (ACh (ADo (q_t (ABp (Wo (Wo (ACl trivial rfl (AKr (!nb) C0 Cx (by have h5:L5.length<=2:=AMx Cx (by rw [Cy,hvq];exact Asv (A:=nv LA) (B:=nv LB) (by rw [<- AGr hza];exact hba) (by omega));omega)) fun Jj Jk hk=>?_))))))))))))));obtain ⟨Ad,Bh⟩:=hk;refine ⟨trivial,?_⟩;have Jl:=Ad.1;have Fp:=Ff.trans Ad;have Fq:=Fg.trans Ad;have Fr:=Fh.trans Ad;have Ft:=Fi.trans Ad;have Fu:=Fj.ext Ad;have Fv:=Fk.trans Ad;have Fw:=Fl.ext Ad;have Jm:=Fm.ext Ad;have Jn:=Fo.ext Ad;have HQ_203:=HQ_183.ext Ad;have HR_204:=HR_184.ext Ad;have HDu_205:=HDu_185.ext Ad;have Fx:=C0.ext Ad;have C1:=Fc.ext Ad;obtain ⟨Az,s7,L7,rfl,Bj,Bl,Bm,Bn⟩:=Bh.out;refine Wo (ACl trivial rfl (AKr false C1 Fd (by omega)) fun Jo Jp hk=>?_);obtain ⟨Ai,Bo⟩:=hk;refine ⟨trivial,?_⟩;have Jq:=Ai.1;have Fy:=Fp.trans Ai;have Fz:=Fq.trans Ai;have F4:=Fr.trans Ai;have F5:=Ft.trans Ai;have F6:=Fu.ext Ai;have F7:=Fv.trans Ai;have F8:=Fw.ext Ai;have HQ_222:=HQ_203.ext Ai;have HR_223:=HR_204.ext Ai;have F9:=Fx.ext Ai;have Ga:=C1.ext Ai;have C2:=Bj.ext Ai;obtain ⟨A4,s8,L8,rfl,Bq,Br,Bt,Bu⟩:=Bo.out;refine AC7 [.bool Az,s7] ACf rfl rfl rfl rfl (AGj C2.cap) F6 fun Jr Gb Aj=>?_;have Gc:=Fz.thenUpd Aj (fun k hk=>by have Ab:k=Ac:=hk;omega);have Js:=Aj.1;have Gd:=Fy.thenUpd Aj (fun k hk=>by have Ab:k=Ac:=hk;omega);have Ce:=F7.thenUpd Aj (fun k hk=>by have Ab:k=Ac:=hk;omega);have Ge:=F4.thenUpd Aj (fun k hk=>by have Ab:k=Ac:=hk;omega);have Gf:=F5.thenUpd Aj (fun k hk=>by have Ab:k=Ac:=hk;omega);have Gg:=F8.upd Aj (fun he=>(Ne.symm nebq20bq33) (he:Aa=Ac));have HQ_239:=HQ_222.updLo Aj (by omega);have HR_240:=HR_223.updLo Aj (by omega);have Gh:=F9.updLo Aj (by omega);have Gi:=Ga.updLo Aj (by omega);have Gj:=C2.updLo Aj (by omega);have C3:=Bq.updLo Aj (by omega);refine AC7 [.bool A4,s8] ACf rfl rfl rfl rfl (AGj C3.cap) Gg fun Jt Gk Ae=>?_;have Gl:=Gc.thenUpd Ae (fun k hk=>by have Ab:k=Aa:=hk;omega);have Ju:=Ae.1;have Jv:=Gd.thenUpd Ae (fun k hk=>by have Ab:k=Aa:=hk;omega);have Jw:=(Be.ext Ce).upd Ae (fun he=>nebq1bq33 (he:A6=Aa));have Jx:=Ge.thenUpd Ae (fun k hk=>by have Ab:k=Aa:=hk;omega);have Jy:=(Bc.ext Ce).upd Ae (fun he=>nebq9bq33 (he:A7=Aa));have Jz:=Gf.thenUpd Ae (fun k hk=>by have Ab:k=Aa:=hk;omega);have Gm:=Gb.upd Ae (fun he=>nebq20bq33 (he:Ac=Aa));have J0:=Ce.thenUpd Ae (fun k hk=>by have Ab:k=Aa:=hk;omega);have HQ_257:=HQ_239.updLo Ae (by omega);have HR_258:=HR_240.updLo Ae (by omega);have J1:=Gh.updLo Ae (by omega);have J2:=Gi.updLo Ae (by omega);have Gn:=Gj.updLo Ae (by omega);have Gp:=C3.updLo Ae (by omega);refine ABv (ABx (⟨_,AO1 ACf rfl rfl Gm ACf rfl rfl Gk,?_⟩));have hk:=Ah5 (nb:=nb) (A:=nv LA) Bf (by omega);have ea:a= -((nv LA:Nat):Int):=by rw [hza,Bg];rfl
   exact ⟨Gl,_,_,rfl,⟨Az,s7,L7,rfl,Gn.mono (by omega),Bl,Bm,by rw [<- Bn,Cy,hvq,ea,hzb];exact hk.1.symm⟩,⟨A4,s8,L8,rfl,Gp.mono (by omega),Br,Bt,by rw [<- Bu,Fe,A8,hvr,ea,hzb];exact hk.2.symm⟩⟩
  ·refine AB2 rfl (ABv (ACo rfl (ABy (q_t (ABp (AHj (fs:=1) AL1 (by kernel_rfl) (by decide) rfl (AB6 AF7 rfl (B4.cell (i:=0) rfl) ?_)))))));rw [Bg];refine ABv (ACd rfl (ACh (ACj (Ack (by decide) (ACj (ADo (q_t (ABp (Wo (AE1 rfl (ABv (ACh (ADo (q_t (ABp (Wo (Wo (ACl trivial rfl (AKr (!nb) HQ htq (by omega)) fun J3 J4 hk=>?_))))))))))))))))));obtain ⟨Aq,Bh⟩:=hk;refine ⟨trivial,?_⟩;have J5:=Aq.1;have Gq:=B1.trans Aq;have Gr:=B3.trans Aq;have Gt:=B5.trans Aq;have Gu:=B6.trans Aq;have Gv:=B7.ext Aq;have Gw:=B8.trans Aq;have Gx:=B9.ext Aq;have J6:=Ca.ext Aq;have J7:=Cb.ext Aq;have HQ_279:=HQ.ext Aq;have HR_280:=HR.ext Aq;obtain ⟨Az,s7,L7,rfl,Bj,Bl,Bm,Bn⟩:=Bh.out;refine Wo (ACl trivial rfl (AKr false HR_280 htr (by omega)) fun J8 J9 hk=>?_);obtain ⟨Av,Bo⟩:=hk;refine ⟨trivial,?_⟩;have Ka:=Av.1;have Gy:=Gq.trans Av;have Gz:=Gr.trans Av;have G3:=Gt.trans Av;have G4:=Gu.trans Av;have G5:=Gv.ext Av;have G6:=Gw.trans Av;have G7:=Gx.ext Av;have HQ_295:=HQ_279.ext Av;have HR_296:=HR_280.ext Av;have C4:=Bj.ext Av;obtain ⟨A4,s8,L8,rfl,Bq,Br,Bt,Bu⟩:=Bo.out;refine AC7 [.bool Az,s7] ACf rfl rfl rfl rfl (AGj C4.cap) G5 fun Kb G8 Aw=>?_;have G9:=Gz.thenUpd Aw (fun k hk=>by have Ab:k=Ac:=hk;omega);have Kc:=Aw.1;have Hb:=Gy.thenUpd Aw (fun k hk=>by have Ab:k=Ac:=hk;omega);have Cf:=G6.thenUpd Aw (fun k hk=>by have Ab:k=Ac:=hk;omega);have Hc:=G3.thenUpd Aw (fun k hk=>by have Ab:k=Ac:=hk;omega);have Hd:=G4.thenUpd Aw (fun k hk=>by have Ab:k=Ac:=hk;omega);have He:=G7.upd Aw (fun he=>(Ne.symm nebq20bq33) (he:Aa=Ac));have HQ_310:=HQ_295.updLo Aw (by omega);have HR_311:=HR_296.updLo Aw (by omega);have Hf:=C4.updLo Aw (by omega);have C5:=Bq.updLo Aw (by omega);refine AC7 [.bool A4,s8] ACf rfl rfl rfl rfl (AGj C5.cap) He fun Kd Hg Ak=>?_;have Hh:=G9.thenUpd Ak (fun k hk=>by have Ab:k=Aa:=hk;omega);have Ke:=Ak.1;have Kf:=Hb.thenUpd Ak (fun k hk=>by have Ab:k=Aa:=hk;omega);have Kg:=(Be.ext Cf).upd Ak (fun he=>nebq1bq33 (he:A6=Aa));have Kh:=Hc.thenUpd Ak (fun k hk=>by have Ab:k=Aa:=hk;omega);have Ki:=(Bc.ext Cf).upd Ak (fun he=>nebq9bq33 (he:A7=Aa));have Kj:=Hd.thenUpd Ak (fun k hk=>by have Ab:k=Aa:=hk;omega);have Hj:=G8.upd Ak (fun he=>nebq20bq33 (he:Ac=Aa));have Kk:=Cf.thenUpd Ak (fun k hk=>by have Ab:k=Aa:=hk;omega);have HQ_326:=HQ_310.updLo Ak (by omega);have HR_327:=HR_311.updLo Ak (by omega);have Hk:=Hf.updLo Ak (by omega);have Hl:=C5.updLo Ak (by omega);refine ABv (ABx (⟨_,AO1 ACf rfl rfl Hj ACf rfl rfl Hg,?_⟩));have hk:=Ah6 (nb:=nb) (A:=nv LA) Bf (by omega);have ea:a= -((nv LA:Nat):Int):=by rw [hza,Bg];rfl
   exact ⟨Hh,_,_,rfl,⟨Az,s7,L7,rfl,Hk.mono (by omega),Bl,Bm,by rw [<- Bn,hvq,ea,hzb];exact hk.1.symm⟩,⟨A4,s8,L8,rfl,Hl.mono (by omega),Br,Bt,by rw [<- Bu,hvr,ea,hzb];exact hk.2.symm⟩⟩
end Go.Proofs.YtdnbklmefmoofaaGreatDoor.Ig
namespace Go.QF
open Go
section
variable {P:Program} {B:ABu->Prop} {st:Bool} {ops:Array Oper} {rest:List Oper} {e:Env} {h:ABu} {K:Env->ABu->Prop} {d:Nat} {ty:TypeId} {pos:String} {af:Array Edge}
theorem Aig {x y z:Operand} {t el er g lo hi:Nat} {v:Value} {l:List Value} {k1 k2:IntKind} (hT:SlT P t el 1) (hx:e.ev x=v) (HO:AFh h er g v l) (hy:e.ev y= .int k1 (lo:Int)) (hz:e.ev z= .int k2 (hi:Int)) (hlt:lo < hi) (hle:hi<=l.length)
    (H:∀ c,RL P B st ops rest (e.set d (.slice (some ⟨g,lo,none⟩) (hi - lo) c)) h K):RL P B st ops (⟨some d,.slice t x (some y) (some z) none,ty,pos,af,none⟩ :: rest) e h K:=by
  obtain ⟨cap,cur,rfl,hg,h1,h2,h3,h4⟩:=HO;refine AGx (v:= .slice (some ⟨g,lo,none⟩) (hi - lo) (cap - lo)) rfl rfl (fun w=>?_) (H _);obtain ⟨hu,i,hi',hs⟩:=hT;have a4: ¬ cap=lo:=by omega
  simp [execOp,hx,hy,hz,Instr.sliceAt,Instr.slice,ANv hu,Instr.sliceBounds,Instr.sliceBound,asIntOf,a4,APy hi',hs,Addr.add];rw [if_pos (by omega),if_pos (by omega)]
  by_cases h0:lo=0
  · subst h0;simp
  · rw [if_neg h0]
theorem Ab4 {x i:Operand} {t el g o n c j:Nat} {k:IntKind} (hT:SlT P t el 1) (hx:e.ev x= .slice (some ⟨g,o,none⟩) n c) (hi:e.ev i= .int k (j:Int)) (hj:j < n)
    (H:RL P B st ops rest (e.set d (.pointer (some ⟨g,o + j,none⟩))) h K):RL P B st ops (⟨some d,.indexAddr t x i,ty,pos,af,none⟩ :: rest) e h K:=by
  refine Ai9 hT hx hi (by omega) (by omega) ?_;have he:(⟨g,o,none⟩:Addr).add ((j:Int).toNat * 1)=⟨g,o + j,none⟩:=by rw [AGy];simp
  rw [he];exact H
end
end Go.QF
namespace Go.Proofs.YtdnbklmefmoofaaGreatDoor.Ig
open Go Go.QF
set_option maxRecDepth 100000
theorem Ajy {h:ABu} {la lb:Nat} {va vb:Value} {LA LB:List Nat} (HA:DS h la va LA) (HB:DS h lb vb LB) (hna:LA.length<=1000) (hnb:LB.length<=1000):ACn Tryz.prog 152 #[va,vb] h fun x h'=>Ext h h'/\ ∃ L,DS h' (Array.size h) x L/\TL L/\nv L=nv LA * nv LB/\L.length<=LA.length + LB.length + 2:=by
 refine AC5 (l:=[_,_]) mx Tryz.func152 rfl rfl rfl rfl rfl (by kernel_rfl) (ABp (ABv (ABr (ABp (Wo (ADr ACc rfl HA (ASu rfl rfl (fun Aw=>?_) (fun Aw=>?_))))))))
 ·refine Wo (ADn 15 true (by kernel_rfl) rfl rfl (Wo (ADn 15 true (by kernel_rfl) rfl rfl (ADr ACc rfl HB (ADn 15 true (by kernel_rfl) rfl rfl (ASu rfl rfl (fun Ax=>?_) (fun Ax=>?_)))))))
  ·refine AB2 rfl (ABt (ACd rfl (ABp (Wo (ACl trivial rfl (AY9 HA (by omega)) fun x1 h hk=>?_)))));obtain ⟨rfl,rfl⟩:=hk;refine ⟨trivial,?_⟩;refine Wo (ACl trivial rfl (AY9 HB (by omega)) fun x2 h hk=>?_);obtain ⟨rfl,rfl⟩:=hk;refine ⟨trivial,?_⟩;have hm:=Ani HA.dig HB.dig (by omega) (by omega);refine Acr rfl rfl hm (ACl trivial rfl (AP4 (nv LA * nv LB) (by omega) _) fun x3 h4 hk=>?_);obtain ⟨E5,L1,Ay,Ak,Am,Av⟩:=hk;refine ⟨trivial,?_⟩;have Bo:=E5.1;have Z7:=(Ext.refl h).trans E5;refine ABv (ABx (AB4 (⟨_,ABz,?_⟩)))
   first
   | exact ⟨E5,L1,Ay,Ak,Am,by omega⟩
   | exact ⟨E5,L2,HT.ds HDo.lo,htl,by rw [HT.val,hOv],by have:=HT.len;omega⟩
  ·refine AB2 rfl (ABt (ACo rfl (ABy (q_t (ABp (Wo (ADr ACc rfl HA (Wo (ADr ACc rfl HB (APh rfl rfl (by omega) (AZz (n:=LA.length + LB.length) ACc AL9 (fun _=>trivial) rfl rfl (by decide) (by omega) fun g1 v1 h1 Ao E1 Az Av=>?_)))))))))));have Bq:=E1.1;have Z9:=(Ext.refl h).trans E1;refine ABv (ABr (ABp (Wo (ADr ACc rfl (HA.ext E1) (Wo (ABt (ABw (ACq 19342813113834049615433664 (fun y:Nat × List Nat=>[(34,.int .i64 (y.1:Int))]) (fun k y h'=>k=LA.length - y.1/\y.1<=LA.length/\Ext h h'/\g1 < Array.size h'/\AFh h' 157 g1 v1 (y.2.map AN4)/\y.2.length=LA.length + LB.length/\Dig y.2/\nv y.2=nv (LA.take y.1) * nv LB/\ ∀ q,y.1 + LB.length<=q->q < LA.length + LB.length->y.2[q]? =some 0) (by kernel_rfl) LA.length (0,List.replicate (LA.length + LB.length) 0) ?_ ⟨rfl,trivial⟩ ?_))))))))
   ·exact ⟨rfl,Nat.zero_le _,E1,by omega,Ao,by simp,fun x hx=>by rw [(List.mem_replicate.1 hx).2];decide,by simp [nv,AZ3],fun q hq A3=>by dsimp only;rw [List.getElem?_replicate];simp;omega⟩
   rintro k ⟨i,O⟩ s1 hq ⟨rfl,hi,XQ,hgq,Aa,hOl,hOd,hOv,hOz⟩;dsimp only at hi Aa hOl hOd hOv hOz ⊢;refine ABp (AF5 rfl rfl (fun A4=>?_) (fun A4=>?_))
   ·refine ABt (ABr (ACd rfl (ABy (q_t (ABr (ABw (ABr ?_)))))));obtain ⟨x,hx⟩:∃ x,LA[i]? =some x:=⟨_,List.getElem?_eq_getElem (by omega)⟩;have hbx:=HA.dig x (List.mem_of_getElem? hx);refine AB5 (Wo (AJs ACc rfl (HA.ext XQ) rfl hx fun Bt A5=>AB6 AEf rfl A5 (ACk (ABv (ABr (ABp (Wo (ASv rfl rfl (fun A6=>?_) (fun A6=>?_)))))))))
    ·refine ABt (ACd rfl (ACh (ACj (ADo (q_t (AB5 (AKl rfl (by omega) (Wo (ABt ?_)))))))));exact ⟨LA.length - (i + 1),(i + 1,O),by first | omega | (dsimp only;omega),⟨rfl,by first | omega | (dsimp only;omega),XQ,by omega,Aa,hOl,hOd,by dsimp only;rw [hOv,ADx hx,show x=0 by omega];simp,fun q h1 h2=>hOz q (by dsimp only at h1;omega) h2⟩,rfl,trivial⟩
    ·refine ABt (ACo rfl (ABy (q_t (ABp (Wo (Wo (Wo (Wo (ADr ACc rfl (HB.ext XQ) (APh rfl rfl (by omega) (APh (b:=1) rfl rfl (by omega) (Aig (lo:=i) (hi:=i + LB.length + 1) ACc rfl Aa rfl rfl (by omega) (by rw [List.length_map];omega) fun cw=>?_))))))))))));refine AC1 (ABv (ABr (ABp (Wo (ADr ACc rfl (HB.ext XQ) (Wo (ABt (ABw (ACq 151115725200028833156608 (fun y:Nat × Nat × List Nat=>[(51,.int .i64 (y.1:Int)),(9,.int .u64 (y.2.1:Int))]) (fun k y h'=>k=LB.length - y.1/\y.1<=LB.length/\Ext h h'/\g1 < Array.size h'/\AFh h' 157 g1 v1 (y.2.2.map AN4)/\y.2.2.length=LA.length + LB.length/\Dig y.2.2/\y.2.1 < 4294967296/\nv y.2.2 + 4294967296 ^ (i + y.1) * y.2.1=nv (LA.take i) * nv LB + 4294967296 ^ i * (x * nv (LB.take y.1))/\ ∀ q,i + LB.length<=q->q < LA.length + LB.length->y.2.2[q]? =some 0) (by kernel_rfl) LB.length (0,0,O) ?_ ⟨rfl,rfl,trivial⟩ ?_)))))))))
     ·exact ⟨rfl,Nat.zero_le _,XQ,by omega,Aa,hOl,hOd,by dsimp only;omega,by simp [nv,hOv],hOz⟩
     rintro k ⟨j,c,O⟩ s2 hp ⟨rfl,hj,XQ,hgq,Aa,hOl,hOd,hc,hOv,hOz⟩;dsimp only at hj Aa hOl hOd hc hOv hOz ⊢;refine ABp (AF5 rfl rfl (fun A7=>?_) (fun A7=>?_))
     ·refine ABt (ABr (ACd rfl (ABy (q_t (ABr (ABw (ABr ?_)))))));obtain ⟨y,hy⟩:∃ x,LB[j]? =some x:=⟨_,List.getElem?_eq_getElem (by omega)⟩;have hby:=HB.dig y (List.mem_of_getElem? hy);obtain ⟨ov,hov⟩:∃ x,O[i + j]? =some x:=⟨_,List.getElem?_eq_getElem (by omega)⟩;have hbo:=hOd ov (List.mem_of_getElem? hov);have htb:=Acs hc hbx hby hbo;have hxy:x * y<=4294967295 * 4294967295:=Nat.mul_le_mul (by omega) (by omega);refine AB5 (Wo (AJs ACc rfl (HB.ext XQ) rfl hy fun Bu A8=>AB6 AEf rfl A8 (ACk (AC1 (Wo (Wo (ASk AEy AEl rfl hbx (Wo (ASk AEy AEl rfl hby (Acr rfl rfl (by omega) (Wo (Wo (Ab4 ACc rfl rfl (by omega) (AB6 AEf rfl (AFh.cell Aa (AR8 hov)) (ASk AEy AEl rfl hbo (AO2 rfl rfl (by omega) (AO2 rfl rfl (by omega) ?_)))))))))))))))));refine AC1 (Wo (Wo (Wo (AUd AEl AEy rfl (Ab4 ACc rfl rfl (by omega) (AUc (O.set (i + j) ((c + (x * y + ov)) % 4294967296)) AEf rfl rfl Aa (by omega) rfl fun h4 Ap U4=>?_))))));have Bv:=U4.1;have A9:=XQ.thenUpd U4 (fun k hk=>by have Aq:k=g1:=hk;omega);refine ABt (AB5 (Wo (ATo rfl rfl (ACk (ACr (q_b (q_t (AB5 (AKl rfl (by omega) (Wo (ABt ?_)))))))))));exact ⟨LB.length - (j + 1),(j + 1,(c + (x * y + ov)) / 4294967296,O.set (i + j) ((c + (x * y + ov)) % 4294967296)),by first | omega | (dsimp only;omega),⟨rfl,by first | omega | (dsimp only;omega),A9,by omega,Ap,by simp [hOl],AR9 hOd (Nat.mod_lt _ (by decide)),by dsimp only;exact Nat.div_lt_of_lt_mul htb,by dsimp only;rw [ADx hy];exact AZ0 (Pi:=0) (AUx _ hov) hOv (Nat.mod_add_div _ _),fun q h1 h2=>by dsimp only;rw [List.getElem?_set_ne (by omega)];exact hOz q h1 h2⟩,rfl,rfl,trivial⟩
     ·refine ABt (ABr (ACo rfl (ACh (ACj (ACj (ADo (q_t ?_)))))));obtain rfl:j=LB.length:=by omega
      refine AB5 (Wo (Wo (ADr ACc rfl (HB.ext XQ) (Wo (AUd AEl AEy rfl ?_)))));rw [Nat.mod_eq_of_lt hc];refine Ab4 ACc rfl rfl (by omega) (AUc (O.set (i + LB.length) (c)) AEf rfl rfl Aa (by omega) rfl fun h5 Ar U5=>?_);have Bw:=U5.1;have Bb:=XQ.thenUpd U5 (fun k hk=>by have Aq:k=g1:=hk;omega);refine ACr (q_b (q_t (AB5 (AKl rfl (by omega) (Wo (ABt ?_))))));exact ⟨LA.length - (i + 1),(i + 1,O.set (i + LB.length) c),by first | omega | (dsimp only;omega),⟨rfl,by first | omega | (dsimp only;omega),Bb,by omega,Ar,by simp [hOl],AR9 hOd hc,by dsimp only;have h1:=AUx c (hOz (i + LB.length) (Nat.le_refl _) (by omega));rw [Nat.mul_zero,Nat.add_zero] at h1;rw [h1,hOv,List.take_length,ADx hx,Nat.add_mul,Nat.mul_assoc],fun q h1 h2=>by dsimp only;rw [List.getElem?_set_ne (by omega)];exact hOz q (by omega) h2⟩,rfl,trivial⟩
   ·refine ABt (ABr (ACo rfl (ACh (ACj (ACj (ADo (q_t (ABr ?_))))))));obtain rfl:i=LA.length:=by omega
    rw [List.take_length] at hOv;have HDo:=Aa.ds (lo:=Array.size h) hOd (by omega);refine AB5 (Wo (ACl trivial rfl (AM6 (DS.mono HDo (Nat.zero_le _)) (by omega)) fun Bx hq hk=>?_));obtain ⟨rfl,L2,HT,htl⟩:=hk;refine ⟨trivial,?_⟩;refine ABv (ABx (⟨_,ABz,?_⟩))
    first
    | exact ⟨XQ,L1,lacks_HD1,Ak,Am,by omega⟩
    | exact ⟨XQ,L2,HT.ds HDo.lo,htl,by rw [HT.val,hOv],by have:=HT.len;omega⟩
 ·refine Wo (ADd 15 false (by kernel_rfl) rfl rfl (ADd 15 false (by kernel_rfl) rfl rfl (ADd 15 false (by kernel_rfl) rfl rfl (AB0 rfl (ABt (ACo rfl (ABy (q_t (ABp (Wo (ADr ACc rfl HA (Wo (ADr ACc rfl HB (APh rfl rfl (by omega) (AZz (n:=LA.length + LB.length) ACc AL9 (fun _=>trivial) rfl rfl (by decide) (by omega) fun g1 v1 h1 Ao E1 Az Av=>?_)))))))))))))));have By:=E1.1;have Bz:=(Ext.refl h).trans E1;refine ABv (ABr (ABp (Wo (ADr ACc rfl (HA.ext E1) (Wo (ABt (ABw (ACq 19342813113834049615433664 (fun y:Nat × List Nat=>[(34,.int .i64 (y.1:Int))]) (fun k y h'=>k=LA.length - y.1/\y.1<=LA.length/\Ext h h'/\g1 < Array.size h'/\AFh h' 157 g1 v1 (y.2.map AN4)/\y.2.length=LA.length + LB.length/\Dig y.2/\nv y.2=nv (LA.take y.1) * nv LB/\ ∀ q,y.1 + LB.length<=q->q < LA.length + LB.length->y.2[q]? =some 0) (by kernel_rfl) LA.length (0,List.replicate (LA.length + LB.length) 0) ?_ ⟨rfl,trivial⟩ ?_))))))))
  ·exact ⟨rfl,Nat.zero_le _,E1,by omega,Ao,by simp,fun x hx=>by rw [(List.mem_replicate.1 hx).2];decide,by simp [nv,AZ3],fun q hq A3=>by dsimp only;rw [List.getElem?_replicate];simp;omega⟩
  rintro k ⟨i,O⟩ s1 hq ⟨rfl,hi,XQ,hgq,Aa,hOl,hOd,hOv,hOz⟩;dsimp only at hi Aa hOl hOd hOv hOz ⊢;refine ABp (AF5 rfl rfl (fun Bc=>?_) (fun Bc=>?_))
  ·refine ABt (ABr (ACd rfl (ABy (q_t (ABr (ABw (ABr ?_)))))));obtain ⟨x,hx⟩:∃ x,LA[i]? =some x:=⟨_,List.getElem?_eq_getElem (by omega)⟩;have hbx:=HA.dig x (List.mem_of_getElem? hx);refine AB5 (Wo (AJs ACc rfl (HA.ext XQ) rfl hx fun B1 Be=>AB6 AEf rfl Be (ACk (ABv (ABr (ABp (Wo (ASv rfl rfl (fun Bf=>?_) (fun Bf=>?_)))))))))
   ·refine ABt (ACd rfl (ACh (ACj (ADo (q_t (AB5 (AKl rfl (by omega) (Wo (ABt ?_)))))))));exact ⟨LA.length - (i + 1),(i + 1,O),by first | omega | (dsimp only;omega),⟨rfl,by first | omega | (dsimp only;omega),XQ,by omega,Aa,hOl,hOd,by dsimp only;rw [hOv,ADx hx,show x=0 by omega];simp,fun q h1 h2=>hOz q (by dsimp only at h1;omega) h2⟩,rfl,trivial⟩
   ·refine ABt (ACo rfl (ABy (q_t (ABp (Wo (Wo (Wo (Wo (ADr ACc rfl (HB.ext XQ) (APh rfl rfl (by omega) (APh (b:=1) rfl rfl (by omega) (Aig (lo:=i) (hi:=i + LB.length + 1) ACc rfl Aa rfl rfl (by omega) (by rw [List.length_map];omega) fun cw=>?_))))))))))));refine AC1 (ABv (ABr (ABp (Wo (ADr ACc rfl (HB.ext XQ) (Wo (ABt (ABw (ACq 151115725200028833156608 (fun y:Nat × Nat × List Nat=>[(51,.int .i64 (y.1:Int)),(9,.int .u64 (y.2.1:Int))]) (fun k y h'=>k=LB.length - y.1/\y.1<=LB.length/\Ext h h'/\g1 < Array.size h'/\AFh h' 157 g1 v1 (y.2.2.map AN4)/\y.2.2.length=LA.length + LB.length/\Dig y.2.2/\y.2.1 < 4294967296/\nv y.2.2 + 4294967296 ^ (i + y.1) * y.2.1=nv (LA.take i) * nv LB + 4294967296 ^ i * (x * nv (LB.take y.1))/\ ∀ q,i + LB.length<=q->q < LA.length + LB.length->y.2.2[q]? =some 0) (by kernel_rfl) LB.length (0,0,O) ?_ ⟨rfl,rfl,trivial⟩ ?_)))))))))
    ·exact ⟨rfl,Nat.zero_le _,XQ,by omega,Aa,hOl,hOd,by dsimp only;omega,by simp [nv,hOv],hOz⟩
    rintro k ⟨j,c,O⟩ s2 hp ⟨rfl,hj,XQ,hgq,Aa,hOl,hOd,hc,hOv,hOz⟩;dsimp only at hj Aa hOl hOd hc hOv hOz ⊢;refine ABp (AF5 rfl rfl (fun Bg=>?_) (fun Bg=>?_))
    ·refine ABt (ABr (ACd rfl (ABy (q_t (ABr (ABw (ABr ?_)))))));obtain ⟨y,hy⟩:∃ x,LB[j]? =some x:=⟨_,List.getElem?_eq_getElem (by omega)⟩;have hby:=HB.dig y (List.mem_of_getElem? hy);obtain ⟨ov,hov⟩:∃ x,O[i + j]? =some x:=⟨_,List.getElem?_eq_getElem (by omega)⟩;have hbo:=hOd ov (List.mem_of_getElem? hov);have htb:=Acs hc hbx hby hbo;have hxy:x * y<=4294967295 * 4294967295:=Nat.mul_le_mul (by omega) (by omega);refine AB5 (Wo (AJs ACc rfl (HB.ext XQ) rfl hy fun B3 Bh=>AB6 AEf rfl Bh (ACk (AC1 (Wo (Wo (ASk AEy AEl rfl hbx (Wo (ASk AEy AEl rfl hby (Acr rfl rfl (by omega) (Wo (Wo (Ab4 ACc rfl rfl (by omega) (AB6 AEf rfl (AFh.cell Aa (AR8 hov)) (ASk AEy AEl rfl hbo (AO2 rfl rfl (by omega) (AO2 rfl rfl (by omega) ?_)))))))))))))))));refine AC1 (Wo (Wo (Wo (AUd AEl AEy rfl (Ab4 ACc rfl rfl (by omega) (AUc (O.set (i + j) ((c + (x * y + ov)) % 4294967296)) AEf rfl rfl Aa (by omega) rfl fun h4 Ap U4=>?_))))));have B4:=U4.1;have Bi:=XQ.thenUpd U4 (fun k hk=>by have Aq:k=g1:=hk;omega);refine ABt (AB5 (Wo (ATo rfl rfl (ACk (ACr (q_b (q_t (AB5 (AKl rfl (by omega) (Wo (ABt ?_)))))))))));exact ⟨LB.length - (j + 1),(j + 1,(c + (x * y + ov)) / 4294967296,O.set (i + j) ((c + (x * y + ov)) % 4294967296)),by first | omega | (dsimp only;omega),⟨rfl,by first | omega | (dsimp only;omega),Bi,by omega,Ap,by simp [hOl],AR9 hOd (Nat.mod_lt _ (by decide)),by dsimp only;exact Nat.div_lt_of_lt_mul htb,by dsimp only;rw [ADx hy];exact AZ0 (Pi:=0) (AUx _ hov) hOv (Nat.mod_add_div _ _),fun q h1 h2=>by dsimp only;rw [List.getElem?_set_ne (by omega)];exact hOz q h1 h2⟩,rfl,rfl,trivial⟩
    ·refine ABt (ABr (ACo rfl (ACh (ACj (ACj (ADo (q_t ?_)))))));obtain rfl:j=LB.length:=by omega
     refine AB5 (Wo (Wo (ADr ACc rfl (HB.ext XQ) (Wo (AUd AEl AEy rfl ?_)))));rw [Nat.mod_eq_of_lt hc];refine Ab4 ACc rfl rfl (by omega) (AUc (O.set (i + LB.length) (c)) AEf rfl rfl Aa (by omega) rfl fun h5 Ar U5=>?_);have B5:=U5.1;have Bj:=XQ.thenUpd U5 (fun k hk=>by have Aq:k=g1:=hk;omega);refine ACr (q_b (q_t (AB5 (AKl rfl (by omega) (Wo (ABt ?_))))));exact ⟨LA.length - (i + 1),(i + 1,O.set (i + LB.length) c),by first | omega | (dsimp only;omega),⟨rfl,by first | omega | (dsimp only;omega),Bj,by omega,Ar,by simp [hOl],AR9 hOd hc,by dsimp only;have h1:=AUx c (hOz (i + LB.length) (Nat.le_refl _) (by omega));rw [Nat.mul_zero,Nat.add_zero] at h1;rw [h1,hOv,List.take_length,ADx hx,Nat.add_mul,Nat.mul_assoc],fun q h1 h2=>by dsimp only;rw [List.getElem?_set_ne (by omega)];exact hOz q (by omega) h2⟩,rfl,trivial⟩
  ·refine ABt (ABr (ACo rfl (ACh (ACj (ACj (ADo (q_t (ABr ?_))))))));obtain rfl:i=LA.length:=by omega
   rw [List.take_length] at hOv;have HDo:=Aa.ds (lo:=Array.size h) hOd (by omega);refine AB5 (Wo (ACl trivial rfl (AM6 (DS.mono HDo (Nat.zero_le _)) (by omega)) fun B6 hq hk=>?_));obtain ⟨rfl,L2,HT,htl⟩:=hk;refine ⟨trivial,?_⟩;refine ABv (ABx (⟨_,ABz,?_⟩))
   first
   | exact ⟨XQ,L1,lacks_HD1,Ak,Am,by omega⟩
   | exact ⟨XQ,L2,HT.ds HDo.lo,htl,by rw [HT.val,hOv],by have:=HT.len;omega⟩
theorem MulZ_ok {h:ABu} {la lb:Nat} {va vb:Value} {a b:Int} (HA:ZV h la va a) (HB:ZV h lb vb b) (hab:a.natAbs * b.natAbs < 4294967296 ^ 100):ACn Tryz.prog 120 #[va,vb] h fun x h'=>Ext h h'/\ZV h' (Array.size h) x (a * b):=by
 obtain ⟨na,sa,LA,rfl,HDa,htla,hla,hza⟩:=HA.out;obtain ⟨nb,sb,LB,rfl,HDb,htlb,hlb,hzb⟩:=HB.out;refine AC5 (l:=[_,_]) mx Tryz.func120 rfl rfl rfl rfl rfl (by kernel_rfl) (ABp (AJd [.bool na,sa] (fun _=>trivial) rfl rfl fun Ak h2 V3 E4 Bb Ce=>?_));have Cf:Array.size h<=Ak:=Bb;have Cg:=E4.1;have Z8:=(Ext.refl h).trans E4;refine AJd [.bool nb,sb] (fun _=>trivial) rfl rfl fun Am Ch Av Ag Be Ci=>?_;have Cj:Array.size h<=Am:=Nat.le_trans E4.1 Be;have nebq1bq9:Ak≠Am:=by have:=V3.lt;omega
 have Ck:=Ag.1;have Aw:=E4.trans Ag;have Ax:=V3.ext Ag;refine AGi [.bool false,.slice none 0 0] AGk rfl (fun _=>trivial) fun Ac Ai Bf Ad Bg Cm=>?_;have Cn:Array.size h<=Ac:=Nat.le_trans Aw.1 Bg;have nebq1bq20:Ak≠Ac:=by have:=Ax.lt;omega
 have nebq9bq20:Am≠Ac:=by have:=Av.lt;omega
 have Co:=Ad.1;have Bh:=(Z8.trans Ag).trans Ad;have Ao:=Aw.trans Ad;have Ay:=Ax.ext Ad;have Bi:=(E4.trans Ag).trans Ad;have Az:=Av.ext Ad;have Bj:=Ag.trans Ad;refine ABt (ABr (AEd (fun h'=>Ext Ai h') (by kernel_rfl) ?_));have Aa:=Ext.refl Ai;refine AHj (fs:=1) AL1 (by kernel_rfl) (by decide) rfl (AEt AF7 rfl Aa (fun h' hb=>(Ay.ext hb).cell (i:=0) rfl) (AHj (fs:=1) AL1 (by kernel_rfl) (by decide) rfl (AEt AF7 rfl Aa (fun h' hb=>(Az.ext hb).cell (i:=0) rfl) (AZy AVg rfl rfl (AHj (fs:=1) AMl (by kernel_rfl) (by decide) rfl (AEt AIx rfl Aa (fun h' hb=>(Ay.ext hb).cell (i:=1) rfl) (ACl Aa rfl (AM6 (DS.mono (HDa.ext Ao) (Nat.zero_le _)) (by omega)) fun Cp Ai hk=>?_)))))));obtain ⟨rfl,L1,Ap,Cr⟩:=hk;refine ⟨Aa,?_⟩;have Bl:=Ap.ds (lo:=la) HDa.lo;have A3:=Ap.val;have Ct:=Ap.len;refine AHj (fs:=1) AMl (by kernel_rfl) (by decide) rfl (AEt AIx rfl Aa (fun h' hb=>(Az.ext hb).cell (i:=1) rfl) (ACl Aa rfl (AM6 (DS.mono (HDb.ext Ao) (Nat.zero_le _)) (by omega)) fun Cu Ai hk=>?_));obtain ⟨rfl,L2,Aq,Cw⟩:=hk;refine ⟨Aa,?_⟩;have Bm:=Aq.ds (lo:=lb) HDb.lo;have A4:=Aq.val;have Cx:=Aq.len;refine ACl Aa rfl (Ajy Bl Bm (by omega) (by omega)) fun Cy Cz hk=>?_;obtain ⟨Ae,L4,A5,A6,A7,C1⟩:=hk;have Ar:=Aa.trans Ae;refine ⟨Ar,?_⟩;have C2:=Ae.1;have Bn:=Bh.trans Ae;have Bo:=Ao.trans Ae;have Bp:=Bi.trans Ae;have Bq:=Bj.trans Ae;have Br:=Bf.ext Ae;have Bt:=Ad.trans Ae;refine ACl Ar rfl (AKr (!(na == nb)) A5 A6 (AMx A6 (by rw [A7,A3,A4,<- AGr hza,<- AGr hzb];exact hab))) fun C3 C4 hk=>?_;obtain ⟨Ab,Bu⟩:=hk;have Bv:=Ar.trans Ab;refine ⟨Bv,?_⟩;have C5:=Ab.1;have Bw:=Bn.trans Ab;have Bx:=Bo.trans Ab;have By:=Bp.trans Ab;have Bz:=Bq.trans Ab;have B1:=Br.ext Ab;have B3:=Bt.trans Ab;have B4:=A5.ext Ab;obtain ⟨A8,s3,L3,rfl,Ba,B6,B7,B8⟩:=Bu.out;refine AC7 [.bool A8,s3] ACf rfl rfl rfl rfl (AGj Ba.cap) B1 fun C6 B9 Af=>?_;have Ca:=Bx.thenUpd Af (fun k hk=>by have Aj:k=Ac:=hk;omega);have C7:=Af.1;have C8:=Bw.thenUpd Af (fun k hk=>by have Aj:k=Ac:=hk;omega);have C9:=B3.thenUpd Af (fun k hk=>by have Aj:k=Ac:=hk;omega);have Da:=By.thenUpd Af (fun k hk=>by have Aj:k=Ac:=hk;omega);have Db:=Bz.thenUpd Af (fun k hk=>by have Aj:k=Ac:=hk;omega);have Dc:=B4.updLo Af (by omega);have Cb:=Ba.updLo Af (by omega);refine ABt (ABx (⟨_,AEe ACf rfl rfl B9,?_⟩));exact ⟨Ca,⟨A8,s3,L3,rfl,Cb.mono (by omega),B6,B7,by rw [<- B8,A7,A3,A4,hza,hzb,Acw]⟩⟩
end Go.Proofs.YtdnbklmefmoofaaGreatDoor.Ig
namespace Go.Proofs.YtdnbklmefmoofaaGreatDoor
open Go Go.QF
def Arp (fuel:Nat) (a b:Int):Option Int:=if a.natAbs < AE3/\b.natAbs < AE3 then some (a - b) else none
def Aih (fuel:Nat) (a b:Int):Option Int:=if a.natAbs * b.natAbs < AE3 then some (a * b) else none
def AU2 (fuel:Nat) (a b:Int):Option (Int × Int × Bool):=if a.natAbs < 18446744073709551616/\b.natAbs < 18446744073709551616/\b≠0 then some (a / b,a % b,true) else none
def Arq (fuel:Nat) (a:Int):Option Int:=some (-a)
def AU3 (fuel:Nat) (a:Int):Option Int:=some a
def AZa (fuel:Nat) (a:Int):Option Int:=if -9223372036854775808<=a/\a<=9223372036854775807 then some a else none
def Aaj (fuel:Nat) (a:Int):Option Int:=some (AG9 a)
theorem Asw {fuel:Nat} {h:ABu} {u v:Value} {a b r:Int} (H1:ZZ h u a) (H2:ZZ h v b) (hp:Arp fuel a b=some r):ACn Tryz.prog 145 #[u,v] h (fun x h'=>Ext h h'/\ ∃ (x0:Value),x=x0/\ZZ h' x0 r):=by
 obtain ⟨⟨h1,h2⟩,hp⟩:=ifN hp;cases hp;exact (Ig.Sub_ok H1 H2 h1 h2).mono fun x h' hk=>⟨hk.1,x,rfl,hk.2.zz⟩
theorem Agy {fuel:Nat} {h:ABu} {u v:Value} {a b r:Int} (H1:ZZ h u a) (H2:ZZ h v b) (hp:Aih fuel a b=some r):ACn Tryz.prog 120 #[u,v] h (fun x h'=>Ext h h'/\ ∃ (x0:Value),x=x0/\ZZ h' x0 r):=by
 obtain ⟨h1,hp⟩:=ifN hp;cases hp;exact (Ig.MulZ_ok H1 H2 (Amh h1)).mono fun x h' hk=>⟨hk.1,x,rfl,hk.2.zz⟩
theorem Asx {fuel:Nat} {h:ABu} {u:Value} {a r:Int} (H1:ZZ h u a) (hp:Arq fuel a=some r):ACn Tryz.prog 146 #[u] h (fun x h'=>Ext h h'/\ ∃ (x0:Value),x=x0/\ZZ h' x0 r):=by
 cases hp;exact (Ig.Neg_ok H1).mono fun x h' hk=>⟨hk.1,x,rfl,hk.2.zz⟩
theorem AXe {fuel:Nat} {h:ABu} {u:Value} {a r:Int} (H1:ZZ h u a) (hp:AU3 fuel a=some r):ACn Tryz.prog 117 #[u] h (fun x h'=>Ext h h'/\ ∃ (x0:Value),x=x0/\ZZ h' x0 r):=by
 cases hp;exact (Ig.Normalize_ok H1).mono fun x h' hk=>⟨hk.1,x,rfl,hk.2.zz⟩
theorem Aak {fuel:Nat} {h:ABu} {a r:Int} (hp:AZa fuel a=some r):ACn Tryz.prog 113 #[.int .i64 a] h (fun x h'=>Ext h h'/\ ∃ (x0:Value),x=x0/\ZZ h' x0 r):=by
 obtain ⟨h1,hp⟩:=ifN hp;cases hp;exact (Ig.Small_ok h1 h).mono fun x h' hk=>⟨hk.1,x,rfl,hk.2.zz⟩
theorem AZb {fuel:Nat} {h:ABu} {u:Value} {a r:Int} (H1:ZZ h u a) (hp:Aaj fuel a=some r):ACn Tryz.prog 116 #[u] h (fun x h'=>Ext h h'/\x= .int .i64 r):=by
 cases hp;exact Ig.Sign_ok H1
theorem AYa {fuel:Nat} {h:ABu} {u v:Value} {a b:Int} {r:Int × Int × Bool} (H1:ZZ h u a) (H2:ZZ h v b) (hp:AU2 fuel a b=some r):ACn Tryz.prog 119 #[u,v] h (fun x h'=>Ext h h'/\ ∃ (x0:Value) (x1:Value),x= .tuple #[x0,x1,.bool r.2.2]/\ZZ h' x0 r.1/\ZZ h' x1 r.2.1):=by
 obtain ⟨⟨h1,h2,h3⟩,hp⟩:=ifN hp;cases hp;exact (Ig.DivMod2_ok H1 H2 h1 h2 h3).mono fun x h' ⟨E,q,r,hx,hq,hr⟩=>⟨E,q,r,hx,hq.zz,hr.zz⟩
end Go.Proofs.YtdnbklmefmoofaaGreatDoor
namespace Go.Proofs.YtdnbklmefmoofaaGreatDoor
open Go Go.QF
set_option maxRecDepth 100000
set_option maxHeartbeats 4000000
def ALu (fuel:Nat) (a3:LiI) (Ac:LiA) (Aa:Int):Option ((Int) ⊕ (((Int × Int × Bool)) ⊕ (Unit))):=
  (if Aa < (a3.length:Int) then ((gI a3 Aa).bind fun Ad=>(if ¬ (Ad.length:Int)=(Ac.length:Int) then (some (Sum.inr<| Sum.inl <| (0,0,false))) else (some (Sum.inl (w64 (Aa + 1)))))) else (some (Sum.inr<| Sum.inr <| ())))
def AIp (fuel:Nat) (a3:LiI):Option (Int × Int × Bool):=
  (((if (a3.length:Int) < 1 then (some (Sum.inl <| (0,0,false))) else (if 16 < (a3.length:Int) then (some (Sum.inl <| (0,0,false))) else (some (Sum.inr <| ())))):Option (((Int × Int × Bool)) ⊕ (Unit))).bind (fun ex=>match ex with | Sum.inl Ac=>(some Ac) | Sum.inr (_)=>((gI a3 0).bind fun Ab=>(((if (Ab.length:Int) < 1 then (some (Sum.inl <| (0,0,false))) else (if 16 < (Ab.length:Int) then (some (Sum.inl <| (0,0,false))) else (some (Sum.inr <| ())))):Option (((Int × Int × Bool)) ⊕ (Unit))).bind (fun ex=>match ex with | Sum.inl Ad=>(some Ad) | Sum.inr (_)=>((iter (fun s=>ALu fuel a3 Ab s) fuel 0).bind (fun ex=>match ex with | Sum.inl Ae=>(some Ae) | Sum.inr (_)=>(some ((a3.length:Int),(Ab.length:Int),true)))))))))
theorem AS8 {fuel:Nat} {h:ABu} {Au:Value} {a3:LiI} {r:(Int × Int × Bool)} (H2:AEq (cI .i64) h Au a3) (hp:AIp fuel a3=some r):ACn Tryz.prog 110 #[Au] h (fun x h'=>Ext h h'/\x= .tuple #[.int .i64 r.1,.int .i64 r.2.1,.bool r.2.2]):=by
 unfold AIp at hp;refine cwf (l:=[_]) Tryz.func110 rfl rfl (ABp (ACk (ACk (ABv ?_))));have K0:=Kst.k0 h;obtain ⟨A5,Av,Aj⟩:=ABq hp;refine ALi 65308 (fun x:Unit=>[]) (fun x h'=>(Sum.inr <| ())=A5/\Kst h h' (K0.L)) ?_ ?_
 ·refine ABp (Wo (ADa ACi rfl H2 (ACu rfl rfl (Wo ?_))));by_cases Af:(a3.length:Int) < 1
  ·rw [decide_eq_true Af];refine AE2 11 true (AB2 rfl (ABt (ACd rfl (ABp (ACk (ACk (ABv ?_)))))));obtain rfl:=ABo (ifT Av Af);refine ABx (AB4 ?_);obtain rfl:=ABo Aj;exact ⟨_,AKz,K0.x,rfl⟩
  ·have Aw:=ifF Av Af;rw [decide_eq_false Af];refine AB3 11 false (Wo (AB3 11 false (ADa ACi rfl H2 (AB3 11 false (AGz rfl rfl (AB0 rfl (ABt (⟨_,rfl,fun Ak=>?_,fun Ak=>?_⟩))))))))
   ·refine ABp (ACk (ACk (ABv ?_)));obtain rfl:=ABo (AC8 Aw Ak);refine ABx (AB4 ?_);obtain rfl:=ABo Aj;exact ⟨_,AKz,K0.x,rfl⟩
   ·refine ABy (q_t ?_);exact ⟨(():Unit),⟨ABo (AC9 Aw Ak),K0⟩,trivial⟩
 rintro ⟨⟩ Bq Br ⟨A6,Ab⟩;subst A6;refine ABp (Wo ?_);obtain ⟨A7,A8,A9⟩:=ABq Aj;refine AFg ACi rfl H2 rfl A8 fun Bt Bu Bv Ba Bb=>AB6 AC3 rfl (AB1 Ba Ab.x) (ADh ACs rfl Bb (ABv ?_));obtain ⟨Bc,Ax,Am⟩:=ABq A9;refine ALi 66060316 (fun x:Unit=>[]) (fun x h'=>(Sum.inr <| ())=Bc/\Kst h h' (Ab.L)) ?_ ?_
 ·refine ABp (Wo (ACu rfl rfl (Wo ?_)));by_cases Ag:(A7.length:Int) < 1
  ·rw [decide_eq_true Ag];refine AIg 22 true (AB2 rfl (ABt (ACd rfl (ABp (ACk (ACk (ABv ?_)))))));obtain rfl:=ABo (ifT Ax Ag);refine ABx (AB4 ?_);obtain rfl:=ABo Am;exact ⟨_,AKz,Ab.x,rfl⟩
  ·have Ay:=ifF Ax Ag;rw [decide_eq_false Ag];refine AB3 22 false (Wo (AB3 22 false (AGz rfl rfl (AB0 rfl (ABt (⟨_,rfl,fun Ao=>?_,fun Ao=>?_⟩))))))
   ·refine ABp (ACk (ACk (ABv ?_)));obtain rfl:=ABo (AC8 Ay Ao);refine ABx (AB4 ?_);obtain rfl:=ABo Am;exact ⟨_,AKz,Ab.x,rfl⟩
   ·refine ABy (q_t ?_);exact ⟨(():Unit),⟨ABo (AC9 Ay Ao),Ab⟩,trivial⟩
 rintro ⟨⟩ Bw Bx ⟨Be,Az⟩;subst Be;refine ABr (ABp (Wo (ADa ACi rfl H2 (Wo (ABt (ABw ?_))))));obtain ⟨Ap,Bf,A3⟩:=ABq Am;obtain ⟨Bg,Bh,Bi⟩:=ACe Bf;refine ACq 137170518172 (fun x:(Int)=>[(28,(.int .i64 x))]) (fun k x h'=>iter Bg k x=some Ap/\Kst h h' (Az.L)) (by kernel_rfl) fuel (0:(Int)) ?_ ⟨rfl,trivial⟩ ?_
 ·exact ⟨Bi,Az⟩
 rintro By Bj Bz B1 ⟨Bl,Ah⟩;obtain ⟨Bm,B3,rfl,Ac,Ad⟩:=AB7 Bl;rw [Bh] at Ac;dsimp only at Ac;unfold ALu at Ac;refine ABp (ACu rfl rfl (ABt (ABr (⟨_,rfl,fun Aq=>?_,fun Aq=>?_⟩))))
 ·refine ABy (q_t (ABr (ABw (ABp ?_))));obtain ⟨B4,Bn,A4⟩:=ABq (AC8 Ac Aq);refine AFg ACi rfl H2 rfl Bn fun B5 B6 B7 Bo Bp=>AB6 AC3 rfl (AB1 Bo Ah.x) (AC1 (Wo (ADh ACs rfl Bp (Wo (AEn rfl rfl (ABt (⟨_,rfl,fun Ar=>?_,fun Ar=>?_⟩)))))))
  ·refine ABp (ACk (ACk (ABv ?_)));obtain rfl:=ABo (AC8 A4 Ar);change _=Ap at Ad;subst Ad;refine ABx (ADe (AB4 (AB4 (ADe (AB4 ?_)))));obtain rfl:=ABo A3;exact ⟨_,AKz,Ah.x,rfl⟩
  ·refine ABy (q_b (q_t (AB5 (ACz rfl rfl (Wo (ABt ?_))))));obtain rfl:=ABo (AC9 A4 Ar);exact ⟨Bm,((w64 (Bj + 1)):(Int)),Nat.lt_succ_self _,⟨Ad,Ah⟩,rfl,trivial⟩
 ·obtain rfl:=ABo (AC9 Ac Aq);change _=Ap at Ad;subst Ad;refine ACh (ACj (ACj (ADo (q_t (ABp (Wo (ADa ACi rfl H2 (Wo (ACk (ACk (ABv (ABx ?_))))))))))));obtain rfl:=ABo A3;exact ⟨_,AKz,Ah.x,rfl⟩
def AKh (fuel:Nat) (a3:LiI) (Ac:LiA) (Aa:Int):Option ((Int) ⊕ (((Int × Int × Bool)) ⊕ (Unit))):=
  (if Aa < (a3.length:Int) then ((gI a3 Aa).bind fun Ad=>(if ¬ (Ad.length:Int)=(Ac.length:Int) then (some (Sum.inr<| Sum.inl <| (0,0,false))) else (some (Sum.inl (w64 (Aa + 1)))))) else (some (Sum.inr<| Sum.inr <| ())))
def AHv (fuel:Nat) (a3:LiI):Option (Int × Int × Bool):=
  (((if (a3.length:Int) < 1 then (some (Sum.inl <| (0,0,false))) else (if 16 < (a3.length:Int) then (some (Sum.inl <| (0,0,false))) else (some (Sum.inr <| ())))):Option (((Int × Int × Bool)) ⊕ (Unit))).bind (fun ex=>match ex with | Sum.inl Ac=>(some Ac) | Sum.inr (_)=>((gI a3 0).bind fun Ab=>(((if (Ab.length:Int) < 1 then (some (Sum.inl <| (0,0,false))) else (if 16 < (Ab.length:Int) then (some (Sum.inl <| (0,0,false))) else (some (Sum.inr <| ())))):Option (((Int × Int × Bool)) ⊕ (Unit))).bind (fun ex=>match ex with | Sum.inl Ad=>(some Ad) | Sum.inr (_)=>((iter (fun s=>AKh fuel a3 Ab s) fuel 0).bind (fun ex=>match ex with | Sum.inl Ae=>(some Ae) | Sum.inr (_)=>(some ((a3.length:Int),(Ab.length:Int),true)))))))))
theorem ARz {fuel:Nat} {h:ABu} {Au:Value} {a3:LiI} {r:(Int × Int × Bool)} (H2:AEq cZ h Au a3) (hp:AHv fuel a3=some r):ACn Tryz.prog 114 #[Au] h (fun x h'=>Ext h h'/\x= .tuple #[.int .i64 r.1,.int .i64 r.2.1,.bool r.2.2]):=by
 unfold AHv at hp;refine cwf (l:=[_]) Tryz.func114 rfl rfl (ABp (ACk (ACk (ABv ?_))));have K0:=Kst.k0 h;obtain ⟨A5,Av,Aj⟩:=ABq hp;refine ALi 65308 (fun x:Unit=>[]) (fun x h'=>(Sum.inr <| ())=A5/\Kst h h' (K0.L)) ?_ ?_
 ·refine ABp (Wo (ADa ADt rfl H2 (ACu rfl rfl (Wo ?_))));by_cases Af:(a3.length:Int) < 1
  ·rw [decide_eq_true Af];refine AE2 11 true (AB2 rfl (ABt (ACd rfl (ABp (ACk (ACk (ABv ?_)))))));obtain rfl:=ABo (ifT Av Af);refine ABx (AB4 ?_);obtain rfl:=ABo Aj;exact ⟨_,AKz,K0.x,rfl⟩
  ·have Aw:=ifF Av Af;rw [decide_eq_false Af];refine AB3 11 false (Wo (AB3 11 false (ADa ADt rfl H2 (AB3 11 false (AGz rfl rfl (AB0 rfl (ABt (⟨_,rfl,fun Ak=>?_,fun Ak=>?_⟩))))))))
   ·refine ABp (ACk (ACk (ABv ?_)));obtain rfl:=ABo (AC8 Aw Ak);refine ABx (AB4 ?_);obtain rfl:=ABo Aj;exact ⟨_,AKz,K0.x,rfl⟩
   ·refine ABy (q_t ?_);exact ⟨(():Unit),⟨ABo (AC9 Aw Ak),K0⟩,trivial⟩
 rintro ⟨⟩ Bq Br ⟨A6,Ab⟩;subst A6;refine ABp (Wo ?_);obtain ⟨A7,A8,A9⟩:=ABq Aj;refine AFg ADt rfl H2 rfl A8 fun Bt Bu Bv Ba Bb=>AB6 AFm rfl (AB1 Ba Ab.x) (ADh AEv rfl Bb (ABv ?_));obtain ⟨Bc,Ax,Am⟩:=ABq A9;refine ALi 66060316 (fun x:Unit=>[]) (fun x h'=>(Sum.inr <| ())=Bc/\Kst h h' (Ab.L)) ?_ ?_
 ·refine ABp (Wo (ACu rfl rfl (Wo ?_)));by_cases Ag:(A7.length:Int) < 1
  ·rw [decide_eq_true Ag];refine AIg 22 true (AB2 rfl (ABt (ACd rfl (ABp (ACk (ACk (ABv ?_)))))));obtain rfl:=ABo (ifT Ax Ag);refine ABx (AB4 ?_);obtain rfl:=ABo Am;exact ⟨_,AKz,Ab.x,rfl⟩
  ·have Ay:=ifF Ax Ag;rw [decide_eq_false Ag];refine AB3 22 false (Wo (AB3 22 false (AGz rfl rfl (AB0 rfl (ABt (⟨_,rfl,fun Ao=>?_,fun Ao=>?_⟩))))))
   ·refine ABp (ACk (ACk (ABv ?_)));obtain rfl:=ABo (AC8 Ay Ao);refine ABx (AB4 ?_);obtain rfl:=ABo Am;exact ⟨_,AKz,Ab.x,rfl⟩
   ·refine ABy (q_t ?_);exact ⟨(():Unit),⟨ABo (AC9 Ay Ao),Ab⟩,trivial⟩
 rintro ⟨⟩ Bw Bx ⟨Be,Az⟩;subst Be;refine ABr (ABp (Wo (ADa ADt rfl H2 (Wo (ABt (ABw ?_))))));obtain ⟨Ap,Bf,A3⟩:=ABq Am;obtain ⟨Bg,Bh,Bi⟩:=ACe Bf;refine ACq 137170518172 (fun x:(Int)=>[(28,(.int .i64 x))]) (fun k x h'=>iter Bg k x=some Ap/\Kst h h' (Az.L)) (by kernel_rfl) fuel (0:(Int)) ?_ ⟨rfl,trivial⟩ ?_
 ·exact ⟨Bi,Az⟩
 rintro By Bj Bz B1 ⟨Bl,Ah⟩;obtain ⟨Bm,B3,rfl,Ac,Ad⟩:=AB7 Bl;rw [Bh] at Ac;dsimp only at Ac;unfold AKh at Ac;refine ABp (ACu rfl rfl (ABt (ABr (⟨_,rfl,fun Aq=>?_,fun Aq=>?_⟩))))
 ·refine ABy (q_t (ABr (ABw (ABp ?_))));obtain ⟨B4,Bn,A4⟩:=ABq (AC8 Ac Aq);refine AFg ADt rfl H2 rfl Bn fun B5 B6 B7 Bo Bp=>AB6 AFm rfl (AB1 Bo Ah.x) (AC1 (Wo (ADh AEv rfl Bp (Wo (AEn rfl rfl (ABt (⟨_,rfl,fun Ar=>?_,fun Ar=>?_⟩)))))))
  ·refine ABp (ACk (ACk (ABv ?_)));obtain rfl:=ABo (AC8 A4 Ar);change _=Ap at Ad;subst Ad;refine ABx (ADe (AB4 (AB4 (ADe (AB4 ?_)))));obtain rfl:=ABo A3;exact ⟨_,AKz,Ah.x,rfl⟩
  ·refine ABy (q_b (q_t (AB5 (ACz rfl rfl (Wo (ABt ?_))))));obtain rfl:=ABo (AC9 A4 Ar);exact ⟨Bm,((w64 (Bj + 1)):(Int)),Nat.lt_succ_self _,⟨Ad,Ah⟩,rfl,trivial⟩
 ·obtain rfl:=ABo (AC9 Ac Aq);change _=Ap at Ad;subst Ad;refine ACh (ACj (ACj (ADo (q_t (ABp (Wo (ADa ADt rfl H2 (Wo (ACk (ACk (ABv (ABx ?_))))))))))));obtain rfl:=ABo A3;exact ⟨_,AKz,Ah.x,rfl⟩
def ANf (fuel:Nat) (a3:LiI) (Ab:Int) (Af:LiA) (Aa:Int) (Ac:LiI):Option ((Int × LiI) ⊕ ((LiI))):=
  (if Aa < (Af.length:Int) then ((gI Ac Ab).bind fun Ad=>((((gI a3 Ab).bind fun Ag=>((gI Ag Aa).bind fun Ah=>((AZa fuel Ah).bind fun Ai=>(some ( Ai))))):Option (Int)).bind fun Aj=>((gI Ad Aa).bind fun Ak=>(some (Sum.inl ((w64 (Aa + 1)),(sI Ac Ab (sI Ad Aa Aj)))))))) else (some (Sum.inr<| Ac)))
def ANg (fuel:Nat) (a3:LiI) (Ae Ab Aa:Int) (Ac:LiI):Option ((Int × LiI) ⊕ ((LiI))):=
  (if Aa < ((List.replicate (Int.toNat Ae) ([]:List Int)).length:Int) then (if 0<=Ab/\Ab<=100000000 then ((gI Ac Aa).bind fun Ah=>((gI (sI Ac Aa (List.replicate (Int.toNat Ab) (0:Int))) Aa).bind fun Af=>((iter (fun s=>ANf fuel a3 Aa Af s.1 s.2) fuel (0,(sI Ac Aa (List.replicate (Int.toNat Ab) (0:Int))))).bind (fun (Ag:LiI)=>(some (Sum.inl ((w64 (Aa + 1)),Ag))))))) else none) else (some (Sum.inr<| Ac)))
def AKs (fuel:Nat) (a3:LiI):Option (LiI × Bool):=
  ((AIp fuel a3).bind fun (Aa,Ac,Ad)=>(if (!Ad)=true then (some ([],false)) else (((if 0<=Aa/\Aa<=100000000 then ((iter (fun s=>ANg fuel a3 Aa Ac s.1 s.2) fuel (0,(List.replicate (Int.toNat Aa) ([]:List Int)))).bind (fun (Ae:LiI)=>(some ( Ae)))) else none):Option (LiI)).bind fun Af=>(some (Af,true)))))
theorem AU4 {fuel:Nat} {h:ABu} {Aj:Value} {a3:LiI} {r:(LiI × Bool)} (H2:AEq (cI .i64) h Aj a3) (hp:AKs fuel a3=some r):ACn Tryz.prog 65 #[Aj] h (fun x h'=>Ext h h'/\ ∃ (x0:Value) (F0:List Nat) (B5:List LnA) (B6:List Value),x= .tuple #[x0,.bool r.2]/\AFf cZ 100 90 h' F0 B5 B6 x0 r.1/\Sp h' h.size [F0]):=by
 unfold AKs at hp;refine cwf (l:=[_]) Tryz.func65 rfl rfl (ABp ?_);have K0:=Kst.k0 h;refine AGo [Aj] trivial tt2 rfl (Ael ((H2.ext K0.x)).isOne) fun b5 h6 V7 E8 S9=>ACk (AC1 ?_);have Am:=K0.nb E8 S9 V7;refine AB6 AS1 rfl ((Am.b p0).cell (i:=0) rfl) ?_;obtain ⟨⟨Cb,Cd,Ep⟩,Ce,Ao⟩:=ABq hp;dsimp only at Ao;refine ADb rfl (AS8 (H2.ext Am.x) Ce) fun Er Es Cf Cg=>?_;subst Cg;refine Wo (ADm rfl rfl (ADm rfl rfl (ADm rfl rfl (ACk (ACk (ABv (ABr (ABp (Wo (AE1 rfl (ABt ?_)))))))))));have Ap:=Am.e Cf;refine ⟨_,rfl,fun Aq=>?_,fun Aq=>?_⟩
 ·refine ABp (ACk (ABv (ABx (AB4 ?_))));have Ar:=Kst.anil2 cZ 100 90 Ap;obtain rfl:=ABo (ifT Ao Aq);exact ⟨_,ADj,Ar.x,_,_,_,_,rfl,(Ar.o2 p0),Ar.s.sel [0] (by decide)⟩
 ·refine ABy (q_t (ABp (Wo (Wo (Ar0 rfl ?_)))));obtain ⟨Ch,Ci,Cj⟩:=ABq (AH8 Ao Aq);refine ACl (K':=(fun xr h'=> ∃ x:(LiI) × (Value) × LnA × LnN × LvA,x.1=Ch/\xr=x.2.1/\Kst h h' (aO2 cZ 100 90 x.2.2.1 x.2.2.2.1 x.2.2.2.2 x.2.1 x.1 :: Ap.L))) trivial rfl ?_ fun Ck Et Cm=>?_
  ·refine cwf (l:=[_,_,_]) Tryz.func111 rfl rfl (ABp (AC1 (Wo ?_)));obtain ⟨Cn,Co⟩:=ifN Ci;refine ASb cZ 90 ADt Aei rfl trivial tt2 rfl rfl (by decide) Cn fun Cp Cq Cr Au Eu Ct Cu Cv=>ABv (ABr (ABp (Wo ?_)));have Av:=Ap.no2 Cu Cv Ct;refine ADa ADt rfl (Av.o2 p0).rd (Wo (ABt (ABw ?_)));obtain ⟨Bj,Cw,Cx⟩:=ABq Co;obtain ⟨Cy,Cz,C0⟩:=ACe Cw;refine ACq 4398046495488 (fun x:(Int) × (LiI) × LnA × LnN × LvA=>[(14,(.int .i64 x.1))]) (fun k x h'=>iter Cy k (x.1,x.2.1)=some Bj/\Kst h h' (Av.L.set 0 (aO2 cZ 100 90 x.2.2.1 x.2.2.2.1 x.2.2.2.2 Au x.2.1))) (by kernel_rfl) fuel ((0,(List.replicate (Int.toNat Cb) ([]:List Int)),Cp,Cq,Cr):(Int) × (LiI) × LnA × LnN × LvA) ?_ ⟨rfl,trivial⟩ ?_
   ·exact ⟨C0,Av⟩
   rintro Ev ⟨Aa,Bl,C1,Aw,Bm⟩ Ew Ey ⟨C2,Bn⟩;obtain ⟨C3,Ez,rfl,Ac,Ax⟩:=AB7 C2;rw [Cz] at Ac;dsimp only at Ac;unfold ANg at Ac;refine ABp (ACu rfl rfl (ABt (ABr (⟨_,rfl,fun Ay=>?_,fun Ay=>?_⟩))))
   ·refine ABy (q_t (ABr (ABw (ABp (Wo (AC1 (Wo (Wo (Wo ?_)))))))));obtain ⟨C4,C5⟩:=ifN (AC8 Ac Ay);refine Aga AEv AGk rfl trivial tt2 rfl rfl (by decide) C4 fun Bo C6 Fa C7 C8 C9 Da=>?_;have Ad:=Bn.no C8 (AIj C9 Da) C7;obtain ⟨Fb,Bp,Db⟩:=ABq C5;refine ADl ADt rfl (Ad.o2 p1) rfl Bp fun Dc Fc Dd Fd Fe=>AS0 AFm (Ad.o2 p1) Bp Dd rfl rfl (Ad.o p0) (Ad.dj p0 p1 (by decide)) fun Ff De Df Dg=>AK0 (Wo (Wo ?_));have Az:=Ad.m2 p0 p1 (by decide) Df De (fun z hz=> .inl (Dg z hz));obtain ⟨Fg,Bq,Dh⟩:=ABq Db;refine ADl ADt rfl (Az.o2 p1) rfl Bq fun Fh Fi Fj Di Dj=>AB6 AFm rfl Dj (ADh AEv rfl ((Az.o2 p1).rowI Di Bq) (Wo (ABt (ABw ?_))));obtain ⟨Br,Dk,Dl⟩:=ABq Dh;obtain ⟨Dn,Do,Dp⟩:=ACe Dk;have A3:=Az.sel [1,2] (by decide);dsimp only [AI3,AMm] at A3;refine ACq 2198889038336 (fun x:(Int) × (LiI) × LnA × LnN × LvA=>[(27,(.int .i64 x.1))]) (fun k x h'=>iter Dn k (x.1,x.2.1)=some Br/\Kst h h' (A3.L.set 0 (aO2 cZ 100 90 x.2.2.1 x.2.2.2.1 x.2.2.2.2 Au x.2.1))) (by kernel_rfl) fuel ((0,(sI Bl Aa (List.replicate (Int.toNat Cd) (0:Int))),(Dc :: (Aw.set (Int.toNat Aa) [Bo]).flatten),(Aw.set (Int.toNat Aa) [Bo]),(Bm.set (Int.toNat Aa) C6)):(Int) × (LiI) × LnA × LnN × LvA) ?_ ⟨rfl,trivial⟩ ?_
    ·exact ⟨Dp,A3⟩
    rintro Fk ⟨A4,Bt,Bu,Bv,Bw⟩ Fl Ab ⟨Dq,Ae⟩;obtain ⟨Dr,Fm,rfl,Af,A5⟩:=AB7 Dq;rw [Do] at Af;dsimp only at Af;unfold ANf at Af;refine ABp (ACu rfl rfl (ABt (ABr (⟨_,rfl,fun A6=>?_,fun A6=>?_⟩))))
    ·refine ABy (q_t (ABr (ABw (ABp (Wo (ABv (AEd (fun h'=>UpT [] Ab h') (by kernel_rfl) ?_)))))));have A7:UpT [] Ab Ab:=UpT.start all_nil;refine Wo (Wo ?_);obtain ⟨Ds,A8,Dt⟩:=ABq (AC8 Af A6);refine ADl ADt rfl (Ae.o2 p0) rfl A8 fun Fo Fp Fq Du Dv=>AEt AFm rfl A7 (fun h' hb=>AB1 Dv hb.ext) (Wo (Wo (Wo (Wo ?_))));obtain ⟨Dw,Dx,Dy⟩:=ABq Dt;have Dz:UpT [] Ab Ab:=UpT.start all_nil;refine AY0 (l:=[(.int .i64 Aa),(.int .i64 A4)]) (cl:=[(.pointer (some ⟨b5,0,none⟩))]) (K':=(fun xr h'=> ∃ x:(Int) × LvA,x.1=Dw/\xr=(.agg (x.2).toArray)/\Kst h h' (aZ x.2 x.1 :: Ae.L)/\UpT [] Ab h')) A7 rfl rfl ?_ fun Fr Ft D0=>?_
     ·refine cwf (l:=[_,_,_]) Tryz.func112 rfl rfl (ABp (ADi [.bool false,.slice none 0 0] AGk rfl trivial tt2 fun Fu Fv D1 A9 Bx=>AK0 ?_));have Fw:=A9.1;have Ai:=Ae.nb A9 Bx D1;refine AB6 AS1 rfl ((Ai.b p2).cell (i:=0) rfl) (Wo ?_);have D2:=Bx.loAll 0 rfl;obtain ⟨Fx,D3,D4⟩:=ABq Dx;refine AFg ACi rfl H2 rfl D3 fun Fy Fz F4 D5 D6=>AB6 AC3 rfl (AB1 D5 Ai.x) (Wo ?_);obtain ⟨F5,D7,D8⟩:=ABq D4;refine AHe (c:=(cI .i64)) ACs rfl D6 rfl D7 fun F6 F7 F8 D9 Ea=>?_;obtain rfl:=D9;refine AB6 ACx rfl (AB1 (Ea 0 _ rfl) Ai.x) ?_;obtain ⟨Eb,Ec,Ed⟩:=ABq D8;refine ADb rfl (Aak Ec) fun F9 Ee Ba Ef=>?_;obtain ⟨Ga,rfl,Eg⟩:=Ef;have Gb:=Ba.1;obtain ⟨By,rfl,Eh⟩:=Eg.cs;have Ag:=(Ai.e Ba).az Eh;refine AC7 By ACf (cZ.klen (Ag.z p0)) (cZ.klen (AB9 Ee)) rfl rfl (cZ.one (Ag.z p0)) (Ag.b p1) fun Gc Bz Bb=>ABt (ABx ?_);have Gd:=Bb.1;have Bc:=Ag.sb p1 Bb Bz rfl;refine ⟨_,AEe ACf (cZ.klen (Bc.z p0)) rfl (Bc.b p1),((Eb,By):(Int) × LvA),?_,rfl,?_,?_⟩
      ·exact ABo Ed
      ·exact Bc.sel [0,2,3] (by decide)
      ·exact (((Dz.thenE A9).thenE Ba).then (Bz.stA Bb (AHq (Ag.b p1) rfl) rfl) (Asb D2 (by omega)))
     obtain ⟨⟨Ei,Ge⟩,Ej,rfl,Ah,B1⟩:=D0;have Gf:=B1.size;refine ⟨(A7.then B1 all_nil),?_⟩;subst Ej;obtain ⟨Gg,B3,Ek⟩:=ABq Dy;refine AD2 (m:=Aa) AEv rfl (Ae.o2 p0) Du A8 rfl B3 fun Gh El=>AH9 (m:=Aa) (ASa ACf (cZ.klen (Ah.z p0)) rfl rfl (cZ.one (Ah.z p0))) (Ah.o2 p1) El A8 B3 (Ah.z p0) fun Gi Em B4=>ACr (q_b (q_t (AB5 (ACz rfl rfl (Wo (ABt ?_))))));have Gj:=B4.size;obtain rfl:=ABo Ek;exact ⟨Dr,(((w64 (A4 + 1)),(sI Bt Aa (sI Ds A4 Ei)),Bu,Bv,Bw):(Int) × (LiI) × LnA × LnN × LvA),Nat.lt_succ_self _,⟨A5,(Ah.uO2 p1 B4 Em).sel [1,2] (by decide)⟩,rfl,trivial⟩
    ·obtain rfl:=ABo (AC9 Af A6);change _=Br at A5;subst A5;refine ACh (ACj (ACj (ADo (q_b (q_t (AB5 (ACz rfl rfl (Wo (ABt ?_)))))))));obtain rfl:=ABo Dl;exact ⟨C3,(((w64 (Aa + 1)),Bt,Bu,Bv,Bw):(Int) × (LiI) × LnA × LnN × LvA),Nat.lt_succ_self _,⟨Ax,Ae⟩,rfl,trivial⟩
   ·obtain rfl:=ABo (AC9 Ac Ay);change _=Bj at Ax;subst Ax;refine ACh (ACj (ACj (ADo (q_t (ABp (Wo (ABv (ABx (⟨_,ABz,((Bl,Au,C1,Aw,Bm):(LiI) × (Value) × LnA × LnN × LvA),?_,rfl,?_⟩)))))))))
    ·exact ABo Cx
    ·exact Bn
  obtain ⟨⟨Gk,Ck,Gl,Gm,Gn⟩,En,rfl,Be⟩:=Cm;refine ⟨trivial,?_⟩;subst En;refine ACk (ABv (ABx ?_));obtain rfl:=ABo Cj;exact ⟨_,ADj,Be.x,_,_,_,_,rfl,(Be.o2 p0),Be.s.sel [0] (by decide)⟩
def ALv (fuel:Nat) (a3:LiI) (Ac:Int) (Ad:LiI) (Aa:Int):Option ((Int) ⊕ ((Int))):=
  (((if Aa < (a3.length:Int) then ((gI Ad Aa).bind fun Ae=>((gI Ae Ac).bind fun Af=>((Aaj fuel Af).bind fun Ag=>(if Ag=0 then (some (Sum.inl <| ())) else (some (Sum.inr <| ())))))) else (some (Sum.inr <| ()))):Option ((Unit) ⊕ (Unit))).bind (fun ex=>match ex with | Sum.inl _=>(some (Sum.inl (w64 (Aa + 1)))) | Sum.inr (_)=>(some (Sum.inr<| Aa))))
def ALw (fuel:Nat) (a3:LiI) (Ad Ag Ah Ae Aa:Int) (Ab:LiI):Option ((Int × LiI) ⊕ ((LiI))):=
  (if Aa < (a3.length:Int) then ((gI Ab Ae).bind fun Ac=>((gI Ac Aa).bind fun Ai=>((Aih fuel Ah Ai).bind fun Aj=>((gI Ac Ad).bind fun Ak=>((gI Ab Ad).bind fun Am=>((gI Am Aa).bind fun Ao=>((Aih fuel Ak Ao).bind fun Ap=>((Arp fuel Aj Ap).bind fun Aq=>((AU2 fuel Aq Ag).bind fun (Ar,Au,Av)=>(some (Sum.inl ((w64 (Aa + 1)),(sI Ab Ae (sI Ac Aa Ar)))))))))))))) else (some (Sum.inr<| Ab)))
def ALx (fuel:Nat) (a3:LiI) (Ac Ae Af Aa:Int) (Ad:LiI):Option ((Int × LiI) ⊕ ((LiI))):=
  (if Aa < (a3.length:Int) then ((iter (fun s=>ALw fuel a3 Ac Ae Af Aa s.1 s.2) fuel ((w64 (Ac + 1)),Ad)).bind (fun (Ag:LiI)=>(some (Sum.inl ((w64 (Aa + 1)),Ag))))) else (some (Sum.inr<| Ad)))
def ALy (fuel:Nat) (a3:LiI) (Ae:Bool) (Aa:Int) (Ab:LiI) (Af:Int):Option ((Bool × Int × LiI × Int) ⊕ ((Int) ⊕ (Bool × Int))):=
  (if Aa < (a3.length:Int) then ((((iter (fun s=>ALv fuel a3 Aa Ab s) fuel Aa).bind (fun (Ai:Int)=>(some ( Ai)))):Option ((Int))).bind (fun (Ad:Int)=>(if Ad=(a3.length:Int) then (some (Sum.inr<| Sum.inl <| 0)) else (((if ¬ Ad=Aa then ((gI Ab Ad).bind fun Aj=>((gI Ab Aa).bind fun Ak=>(some ( ((!Ae),(sI (sI Ab Aa Aj) Ad Ak)))))) else (some ( (Ae,Ab)))):Option ((Bool × LiI))).bind (fun ((Am,Ag):Bool × LiI)=>((gI Ag Aa).bind fun Ao=>((gI Ao Aa).bind fun Ah=>((iter (fun s=>ALx fuel a3 Aa Af Ah s.1 s.2) fuel ((w64 (Aa + 1)),Ag)).bind (fun (Ap:LiI)=>(some (Sum.inl (Am,(w64 (Aa + 1)),Ap,Ah)))))))))))) else (some (Sum.inr<| Sum.inr <| (Ae,Af))))
def ALz (fuel:Nat) (a3:LiI) (Aa:Int) (Ac:LiI):Option ((Int × LiI) ⊕ ((LiI))):=
  (if Aa < (a3.length:Int) then ((gI a3 Aa).bind fun Ad=>(if 0<=(a3.length:Int)/\(a3.length:Int)<=100000000 then ((gI Ac Aa).bind fun Af=>((gI (sI Ac Aa (List.replicate (Int.toNat (a3.length:Int)) (0:Int))) Aa).bind fun Ae=>(if Ad.length=Ae.length/\0 < Ae.length then (some (Sum.inl ((w64 (Aa + 1)),(sI (sI Ac Aa (List.replicate (Int.toNat (a3.length:Int)) (0:Int))) Aa Ad)))) else none))) else none)) else (some (Sum.inr<| Ac)))
def AIq (fuel:Nat) (a3:LiI):Option Int:=
  (if 0<=(a3.length:Int)/\(a3.length:Int)<=100000000 then ((iter (fun s=>ALz fuel a3 s.1 s.2) fuel (0,(List.replicate (Int.toNat (a3.length:Int)) ([]:List Int)))).bind (fun (Ac:LiI)=>((AZa fuel 1).bind fun Ad=>((iter (fun s=>ALy fuel a3 s.1 s.2.1 s.2.2.1 s.2.2.2) fuel (false,0,Ac,Ad)).bind (fun ex=>match ex with | Sum.inl Ae=>(some Ae) | Sum.inr ((Af,Ab))=>(if Af=true then ((Arq fuel Ab).bind fun Ag=>(some Ag)) else ((AU3 fuel Ab).bind fun Ah=>(some Ah)))))))) else none)
theorem AS9 {fuel:Nat} {h:ABu} {Cp:Value} {a3:LiI} {r:Int} (H2:AEq cZ h Cp a3) (hp:AIq fuel a3=some r):ACn Tryz.prog 115 #[Cp] h (fun x h'=>Ext h h'/\ ∃ (x0:Value),x=x0/\ZZ h' x0 r):=by
 unfold AIq at hp;refine cwf (l:=[_]) Tryz.func115 rfl rfl (ABp (ADi [.bool false,.slice none 0 0] AGk rfl trivial tt2 fun b5 h6 V7 E8 S9=>AK0 (Wo (ADa ADt rfl H2 (AC1 (Wo ?_))))));obtain ⟨D8,D9⟩:=ifN hp;refine ASb cZ 90 ADt Aei rfl trivial tt2 rfl rfl (by decide) D8 fun Ea Eb Ec Aq Lk Ed Ee Ef=>ABv (ABr (ABp (Wo (ADa ADt rfl H2 (Wo (ABt (ABw ?_)))))));have Cr:=((Kst.k0 h).nb E8 S9 V7).no2 Ee Ef Ed;obtain ⟨Ct,Eg,Eh⟩:=ABq D9;obtain ⟨Ei,Ej,Ek⟩:=ACe Eg;refine ACq 274875809888 (fun x:(Int) × (LiI) × LnA × LnN × LvA=>[(21,(.int .i64 x.1))]) (fun k x h'=>iter Ei k (x.1,x.2.1)=some Ct/\Kst h h' (Cr.L.set 0 (aO2 cZ 100 90 x.2.2.1 x.2.2.2.1 x.2.2.2.2 Aq x.2.1))) (by kernel_rfl) fuel ((0,(List.replicate (Int.toNat (a3.length:Int)) ([]:List Int)),Ea,Eb,Ec):(Int) × (LiI) × LnA × LnN × LvA) ?_ ⟨rfl,trivial⟩ ?_
 ·exact ⟨Ek,Cr⟩
 rintro Ll ⟨Ag,Cu,El,Bm,Cv⟩ Lm Ln ⟨Em,Bn⟩;obtain ⟨En,Lo,rfl,Ar,Bo⟩:=AB7 Em;rw [Ej] at Ar;dsimp only at Ar;unfold ALz at Ar;refine ABp (ACu rfl rfl (ABt (ABr (⟨_,rfl,fun Bp=>?_,fun Bp=>?_⟩))))
 ·refine ABy (q_t (ABr (ABw (ABp (Wo ?_)))));obtain ⟨Eo,Ep,Er⟩:=ABq (AC8 Ar Bp);refine AFg ADt rfl H2 rfl Ep fun Lq Lr Lv Es Et=>AB6 AFm rfl (AB1 Es Bn.x) (ACk (AC1 (Wo (Wo (Wo ?_)))));obtain ⟨Eu,Ev⟩:=ifN Er;refine Aga AEv AGk rfl trivial tt2 rfl rfl (by decide) Eu fun Cw Ew Lw Ey Ez Fa Fb=>?_;have Au:=Bn.no Ez (AIj Fa Fb) Ey;obtain ⟨Lx,Cx,Fc⟩:=ABq Ev;refine ADl ADt rfl (Au.o2 p1) rfl Cx fun Fd Ly Fe Lz Ma=>AS0 AFm (Au.o2 p1) Cx Fe rfl rfl (Au.o p0) (Au.dj p0 p1 (by decide)) fun Mb Ff Fg Fh=>ABt (AB5 (Wo (Wo ?_)));have A7:=Au.m2 p0 p1 (by decide) Fg Ff (fun z hz=> .inl (Fh z hz));obtain ⟨Mc,Cy,Fi⟩:=ABq Fc;refine ADl ADt rfl (A7.o2 p1) rfl Cy fun Md Me Mf Fj Fk=>AB6 AFm rfl Fk (Wo ?_);obtain ⟨Fl,Fm⟩:=ifN Fi;refine Amk (m:=Ag) AEv trivial rfl rfl (A7.o2 p1) Fj Cy (Et.ext A7.x) Fl fun Mg Fo Fp=>⟨trivial,?_⟩;refine ACr (q_b (q_t (AB5 (ACz rfl rfl (Wo (ABt ?_))))));obtain rfl:=ABo Fm;exact ⟨En,(((w64 (Ag + 1)),(sI (sI Cu Ag (List.replicate (Int.toNat (a3.length:Int)) (0:Int))) Ag Eo),(Fd :: (Bm.set (Int.toNat Ag) [Cw]).flatten),(Bm.set (Int.toNat Ag) [Cw]),(Cv.set (Int.toNat Ag) Ew)):(Int) × (LiI) × LnA × LnN × LvA),Nat.lt_succ_self _,⟨Bo,(A7.uO2 p1 Fp Fo).sel [1,2] (by decide)⟩,rfl,trivial⟩
 ·obtain rfl:=ABo (AC9 Ar Bp);change _=Ct at Bo;subst Bo;refine ACh (ACj (ACj (ADo (q_t (ABp (AC1 ?_))))));obtain ⟨Fq,Fr,Ft⟩:=ABq Eh;refine ADb rfl (Aak Fr) fun Mh Mi Fu Fv=>?_;obtain ⟨Mj,rfl,Fw⟩:=Fv;obtain ⟨Cz,rfl,Fx⟩:=Fw.cs;refine ADi [.bool false,.slice none 0 0] AGk rfl trivial tt2 fun Fy Fz F4 F5 F6=>?_;have A8:=((Bn.e Fu).az Fx).nb F5 F6 F4;refine AC7 Cz ACf (cZ.klen (A8.z p1)) (cZ.klen (AB9 Fz)) rfl rfl (cZ.one (A8.z p1)) (A8.b p0) fun Mk F7 F8=>ABt (ABr (ABp (Wo (Wo (ABt (ABw ?_))))));have C0:=A8.sb p0 F8 F7 rfl;obtain ⟨Bq,F9,Br⟩:=ABq Ft;obtain ⟨Ga,Gb,Gc⟩:=ACe F9;refine ACq 22300745198530623141535718272647261994385024 (fun x:(Bool) × (Int) × (LiI) × LnA × LnN × LvA × (Int) × LvA=>[(7,(.bool x.1)),(40,(.int .i64 x.2.1))]) (fun k x h'=>iter Ga k (x.1,x.2.1,x.2.2.1,x.2.2.2.2.2.2.1)=some Bq/\Kst h h' (((C0.L.set 2 (aO2 cZ 100 90 x.2.2.2.1 x.2.2.2.2.1 x.2.2.2.2.2.1 Aq x.2.2.1)).set 1 (aZ x.2.2.2.2.2.2.2 x.2.2.2.2.2.2.1)).set 0 (aB 90 Fy x.2.2.2.2.2.2.2))) (by kernel_rfl) fuel ((false,0,Cu,El,Bm,Cv,Fq,Cz):(Bool) × (Int) × (LiI) × LnA × LnN × LvA × (Int) × LvA) ?_ ⟨rfl,rfl,trivial⟩ ?_
  ·exact ⟨Gc,C0⟩
  rintro Ml ⟨C1,Ah,C2,Gd,Ge,Gf,Mm,Bt⟩ Mo Mq ⟨Gg,Ab⟩;obtain ⟨Gh,Mr,rfl,Av,Aw⟩:=AB7 Gg;rw [Gb] at Av;dsimp only at Av;unfold ALy at Av;refine ABp (ACu rfl rfl (ABt (ABr (⟨_,rfl,fun Bu=>?_,fun Bu=>?_⟩))))
  ·refine ABy (q_t (ABr (ABw (ABp (Wo (AC1 (Wo (ABv ?_))))))));obtain ⟨Gi,Gj,C3⟩:=ABq (AC8 Av Bu);refine ALi 1152903912420803584 (fun x:(Int)=>[(10,(.int .i64 x))]) (fun x h'=>( x)=Gi/\Kst h h' (Ab.L)) ?_ ?_
   ·refine ABw ?_;obtain ⟨Bv,Gk,C4⟩:=ABq Gj;obtain ⟨Gl,Gm,Gn⟩:=ACe Gk;refine ACq 1152903912420803584 (fun x:(Int)=>[(10,(.int .i64 x))]) (fun k x h'=>iter Gl k x=some Bv/\Kst h h' (Ab.L)) (by kernel_rfl) fuel (Ah:(Int)) ?_ ⟨rfl,trivial⟩ ?_
    ·exact ⟨Gn,Ab⟩
    rintro Ms Ax Mt Mu ⟨Gp,Aj⟩;obtain ⟨Gq,Mv,rfl,A9,Ay⟩:=AB7 Gp;rw [Gm] at A9;dsimp only at A9;unfold ALv at A9;obtain ⟨Gr,C5,Bw⟩:=ABq A9;refine ALi 288212783965667328 (fun x:Unit=>[]) (fun x h'=>(Sum.inl <| ())=Gr/\Kst h h' (Aj.L)) ?_ ?_
    ·refine ABp (Wo (Wo (ACu rfl rfl (Wo ?_))));by_cases Ba:Ax < (a3.length:Int)
     ·rw [decide_eq_true Ba];refine AB3 47 true (Wo (AB3 47 true (Wo (AB3 47 true ?_))));obtain ⟨Mw,Bx,Gt⟩:=ABq (ifT C5 Ba);refine ADl ADt rfl (Aj.o2 p2) rfl Bx fun Mx My Mz Gu Gv=>AB3 47 true (AB6 AFm rfl Gv (AB3 47 true (Wo (AB3 47 true ?_))));obtain ⟨M1,C6,Gw⟩:=ABq Gt;refine AD2 (m:=Ax) AEv rfl (Aj.o2 p2) Gu Bx rfl C6 fun M2 Gx=>AB3 47 true ?_;obtain ⟨M3,Gy,Gz⟩:=(Aj.o2 p2).cells Gx Bx C6;have By:=Aj.az Gy;refine AOl (c:=cZ) ACf rfl (By.z p0) (fun j u hu=>(Gz j u hu)) (AB3 47 true ?_);obtain ⟨M4,G3,C7⟩:=ABq Gw;refine ADb rfl (AZb (By.z p0).2 G3) fun M5 M6 G4 G5=>?_;subst G5;refine AB3 47 true (AD8 rfl rfl (AB2 rfl (ABt ?_)));have C8:=By.e G4;refine ⟨_,rfl,fun Bz=>?_,fun Bz=>?_⟩
      ·refine ABy (q_t ?_);exact ⟨(():Unit),⟨ABo (AC8 C7 Bz),C8.sel [1,2,3,4] (by decide)⟩,trivial⟩
      ·obtain rfl:=ABo (AC9 C7 Bz);obtain rfl:=ABo Bw;change _=Bv at Ay;subst Ay;refine ACh (ACj (ACj (ADo (q_t ?_))));exact ⟨(Ax:(Int)),⟨ABo C4,C8.sel [1,2,3,4] (by decide)⟩,rfl,trivial⟩
     ·rw [decide_eq_false Ba];refine AFe 47 false (AFl 47 false (AB0 rfl (ABt (ACo rfl ?_))));obtain rfl:=ABo (ifF C5 Ba);obtain rfl:=ABo Bw;change _=Bv at Ay;subst Ay;refine ACh (ACj (ACj (ADo (q_t ?_))));exact ⟨(Ax:(Int)),⟨ABo C4,Aj⟩,rfl,trivial⟩
    rintro ⟨⟩ M7 M8 ⟨G6,G7⟩;subst G6;refine ABw (AB5 (Wo (ACz rfl rfl (ACk (ACr (q_b (q_t ?_)))))));obtain rfl:=ABo Bw;exact ⟨Gq,((w64 (Ax + 1)):(Int)),Nat.lt_succ_self _,⟨Ay,G7⟩,rfl,trivial⟩
   rintro G8 M9 B1 ⟨G9,Af⟩;subst G9;refine ABr (ABp (Wo (Wo (AD8 rfl rfl (ABt (⟨_,rfl,fun B3=>?_,fun B3=>?_⟩))))))
   ·refine ABp (AF6 (AO6 ) (AC7 [Value.bool false,Value.slice none 0 0] ACf (cZ.klen (AB9 B1)) (cZ.klen (AB9 B1)) rfl rfl (cZ.one (AB9 B1)) (Af.b p3) fun C9 Hb Hc=>ABt ?_));have Da:=Af.sb p3 Hc Hb rfl;obtain rfl:=ABo (AC8 C3 B3);change _=Bq at Aw;subst Aw;refine ABx (AB4 (ADe (AB4 (AB4 (ADe (AB4 ?_))))));obtain rfl:=ABo Br;exact ⟨_,AEe ACf (cZ.klen (AB9 C9)) rfl (Da.b p3),Da.x,_,rfl,(AB9 C9).2⟩
   ·refine ABy (q_t ?_);obtain ⟨Hd,Db,He⟩:=ABq (AC9 C3 B3);refine ALi 9671388110172959688097920 (fun x:(Bool) × (LiI) × LnA × LnN × LvA=>[(7,(.bool x.1))]) (fun x h'=>( (x.1,x.2.1))=Hd/\Kst h h' (Af.L.set 2 (aO2 cZ 100 90 x.2.2.1 x.2.2.2.1 x.2.2.2.2 Aq x.2.1))) ?_ ?_
    ·refine ABp (Wo (Wo (AEn rfl rfl (ABt (⟨_,rfl,fun B4=>?_,fun B4=>?_⟩)))))
     ·refine ABr (AKm (Wo (Wo (Wo (Wo (Wo (Wo ?_)))))));obtain ⟨Hf,Dc,Hg⟩:=ABq (AC8 Db B4);refine ADl ADt rfl (Af.o2 p2) rfl Dc fun Na Nb Nc Hh Hj=>AB6 AFm rfl Hj (Wo (Wo ?_));obtain ⟨Hk,Dd,Hl⟩:=ABq Hg;refine ADl ADt rfl (Af.o2 p2) rfl Dd fun Nd Nf Ng Hm Hn=>AB6 AFm rfl Hn (ATw ADt AFm (Af.o2 p2) Hm Hh Dd Dc rfl rfl (fun _=>rfl) (fun _=>rfl) (fun _=>rfl) (fun _ _=>rfl) fun Nh Ni Ho Hq Hr Nj Hs Ht Hu=>ABt (AB5 (Wo (AE1 rfl (ABv ?_)))));exact ⟨(((!C1),(sI (sI C2 Ah Hf) G8 Hk),Ho,Hq,Hr):(Bool) × (LiI) × LnA × LnN × LvA),⟨ABo Hl,(Af.uo2 p2 Ht Hs Hu)⟩,rfl,trivial⟩
     ·refine ABy (q_t ?_);exact ⟨((C1,C2,Gd,Ge,Gf):(Bool) × (LiI) × LnA × LnN × LvA),⟨ABo (AC9 Db B4),Af⟩,rfl,trivial⟩
    rintro ⟨Hv,Hw,Hx,Hy,Hz⟩ Nk Nl ⟨H5,Bb⟩;subst H5;refine ABp (Wo (Wo ?_));obtain ⟨Nm,B5,H9⟩:=ABq He;refine ADl ADt rfl (Bb.o2 p2) rfl B5 fun Nn Np Nq Ia Ib=>AB6 AFm rfl Ib (Wo ?_);obtain ⟨Ic,De,Id⟩:=ABq H9;refine AD2 (m:=Ah) AEv rfl (Bb.o2 p2) Ia B5 rfl De fun Nr Ie=>?_;obtain ⟨Az,If,Ih⟩:=(Bb.o2 p2).cells Ie B5 De;have Df:=Bb.az If;refine AOl (c:=cZ) ACf rfl (Df.z p0) (fun j u hu=>(Ih j u hu)) (ADi [.bool false,.slice none 0 0] AGk rfl trivial tt2 fun Ns Ii Ij Ik Il=>?_);have Bc:=Df.nb Ik Il Ij;refine AC7 Az ACf (cZ.klen (Bc.z p1)) (cZ.klen (AB9 Ii)) rfl rfl (cZ.one (Bc.z p1)) (Bc.b p0) fun Nt Im Io=>ABt (ABr (ABp (Wo (ACz rfl rfl (ABv (ABw ?_))))));have Dg:=Bc.sb p0 Io Im rfl;obtain ⟨Dh,Ip,Iq⟩:=ABq Id;obtain ⟨Ir,Is,It⟩:=ACe Ip;refine ACq 5575186299632650833623772426640990780026880 (fun x:(Int) × (LiI) × LnA × LnN × LvA=>[(12,(.int .i64 x.1))]) (fun k x h'=>iter Ir k (x.1,x.2.1)=some Dh/\Kst h h' (Dg.L.set 4 (aO2 cZ 100 90 x.2.2.1 x.2.2.2.1 x.2.2.2.2 Aq x.2.1))) (by kernel_rfl) fuel (((w64 (Ah + 1)),Hw,Hx,Hy,Hz):(Int) × (LiI) × LnA × LnN × LvA) ?_ ⟨rfl,trivial⟩ ?_
    ·exact ⟨It,Dg⟩
    rintro Nu ⟨Ak,Di,Dj,Dk,Dl⟩ Nv Nw ⟨Iu,Ac⟩;obtain ⟨Iv,Ny,rfl,A3,B6⟩:=AB7 Iu;rw [Is] at A3;dsimp only at A3;unfold ALx at A3;refine ABr (ABp (Wo (Wo (ACu rfl rfl (ABt (⟨_,rfl,fun B7=>?_,fun B7=>?_⟩))))))
    ·refine ABy (q_t (ABr (ABw (ABp (Wo (ACz rfl rfl (ABv (ABw ?_))))))));obtain ⟨Dn,Iw,Ix⟩:=ABq (AC8 A3 B7);obtain ⟨Iy,Iz,I0⟩:=ACe Iw;refine ACq 5575186299632021960083815453461342024916992 (fun x:(Int) × (LiI) × LnA × LnN × LvA=>[(13,(.int .i64 x.1))]) (fun k x h'=>iter Iy k (x.1,x.2.1)=some Dn/\Kst h h' (Ac.L.set 4 (aO2 cZ 100 90 x.2.2.1 x.2.2.2.1 x.2.2.2.2 Aq x.2.1))) (by kernel_rfl) fuel (((w64 (Ah + 1)),Di,Dj,Dk,Dl):(Int) × (LiI) × LnA × LnN × LvA) ?_ ⟨rfl,trivial⟩ ?_
     ·exact ⟨I0,Ac⟩
     rintro Nz ⟨Do,Dp,Dq,Dr,Ds⟩ N0 B8 ⟨I1,Aa⟩;obtain ⟨I2,N3,rfl,A4,B9⟩:=AB7 I1;rw [Iz] at A4;dsimp only at A4;unfold ALw at A4;refine ABr (ABp (Wo (Wo (ACu rfl rfl (ABt (⟨_,rfl,fun Ca=>?_,fun Ca=>?_⟩))))))
     ·refine ABy (q_t (ABr (ABw (ABr ?_))));have Am:UpT [] B8 B8:=UpT.start all_nil;refine AW8 (B:=fun h'=>UpT [] B8 h') 25 [⟨14,90,[.bool false,.slice none 0 0]⟩] (fun _ _ U E=>U.thenE E) (by kernel_rfl) Am (Agn rfl AGk rfl (fun _ _ U E=>U.thenE E)) (h_l rfl (AEk Az ACf (cZ.klen (Aa.z p1)) rfl Am (fun h' hb=>((Aa.b p0).ext hb.ext).agg) (ACr (h_l rfl (Wo (ACr (h_l rfl (Wo (ACr (h_l rfl ?_))))))))));obtain ⟨I3,Ad,I5⟩:=ABq (AC8 A4 Ca);refine ADl ADt rfl (Aa.o2 p4) rfl Ad fun N4 N5 N6 I6 I7=>ACr (h_l rfl (AEt AFm rfl Am (fun h' hb=>AB1 I7 hb.ext) (ACr (h_l rfl (Wo (ACr (h_l rfl ?_)))))));obtain ⟨N7,Be,I9⟩:=ABq I5;refine AD2 (m:=Ak) AEv rfl (Aa.o2 p4) I6 Ad rfl Be fun N8 Ja=>ACr (h_l rfl ?_);obtain ⟨N9,Dt,Jc⟩:=(Aa.o2 p4).cells Ja Ad Be;refine ARa (c:=cZ) ACf rfl Dt Am (fun h' hb j u hu=>AB1 (Jc j u hu) hb.ext) (ACr (h_e rfl fun Oa Du=>?_));have Cb:=Am.thenE Du;have Cd:=(Aa.az (cZ.upT Dt Am)).e Du;obtain ⟨Ob,Je,Jf⟩:=ABq I9;refine ADg Cb (fun _ E=>Cb.thenE E) rfl (Agy (Cd.z p2).2 (Cd.z p0).2 Je) fun Oc Od Ce Jg=>?_;obtain ⟨Oe,rfl,Jh⟩:=Jg;have Ai:=Cb.thenE Ce;obtain ⟨Og,rfl,Ji⟩:=Jh.cs;refine ACr ⟨Ce,?_⟩;refine h_l rfl (Wo (ACr (h_l rfl (Wo (ACr (h_l rfl (ADl ADt rfl (Aa.o2 p4) rfl Ad fun Oh Oi Oj Jj Jk=>ACr (h_l rfl (AEt AFm rfl Ai (fun h' hb=>AB1 Jk hb.ext) (ACr (h_l rfl (Wo (ACr (h_l rfl ?_))))))))))))));obtain ⟨Ol,Dv,Jl⟩:=ABq Jf;refine AD2 (m:=Ak) AEv rfl (Aa.o2 p4) Jj Ad rfl Dv fun Om Jm=>ACr (h_l rfl ?_);obtain ⟨On,Dw,Jn⟩:=(Aa.o2 p4).cells Jm Ad Dv;refine ARa (c:=cZ) ACf rfl Dw Ai (fun h' hb j u hu=>AB1 (Jn j u hu) hb.ext) (ACr (h_l rfl (Wo (ACr (h_l rfl (Wo (ACr (h_l rfl ?_))))))));obtain ⟨Oo,Cf,Jo⟩:=ABq Jl;refine ADl ADt rfl (Aa.o2 p4) rfl Cf fun Oq Ot Ou Jp Jq=>ACr (h_l rfl (AEt AFm rfl Ai (fun h' hb=>AB1 Jq hb.ext) (ACr (h_l rfl (Wo (ACr (h_l rfl ?_)))))));obtain ⟨Ov,Dx,Jr⟩:=ABq Jo;refine AD2 (m:=Ah) AEv rfl (Aa.o2 p4) Jp Cf rfl Dx fun Ow Js=>ACr (h_l rfl ?_);obtain ⟨Ox,Dy,Jt⟩:=(Aa.o2 p4).cells Js Cf Dx;refine ARa (c:=cZ) ACf rfl Dy Ai (fun h' hb j u hu=>AB1 (Jt j u hu) hb.ext) (ACr (h_e rfl fun Oy Dz=>?_));have Cg:=Ai.thenE Dz;have Ch:=((((Cd.e Ce).az Ji).az (cZ.upT Dw Ai)).az (cZ.upT Dy Ai)).e Dz;obtain ⟨Oz,Ju,Jv⟩:=ABq Jr;refine ADg Cg (fun _ E=>Cg.thenE E) rfl (Agy (Ch.z p1).2 (Ch.z p0).2 Ju) fun O0 O1 Ci Jw=>?_;obtain ⟨O2,rfl,Jx⟩:=Jw;have Jy:=Cg.thenE Ci;obtain ⟨O3,rfl,Jz⟩:=Jx.cs;refine ACr ⟨Ci,?_⟩;refine h_e rfl fun O4 D0=>?_;have Cj:=Jy.thenE D0;have Ck:=((Ch.e Ci).az Jz).e D0;obtain ⟨O5,J0,J1⟩:=ABq Jv;refine ADg Cj (fun _ E=>Cj.thenE E) rfl (Asw (Ck.z p3).2 (Ck.z p0).2 J0) fun O6 O7 Cm J2=>?_;obtain ⟨O8,rfl,J3⟩:=J2;have J4:=Cj.thenE Cm;obtain ⟨D1,rfl,J5⟩:=J3.cs;refine ACr ⟨Cm,?_⟩;refine Aeo fun J6 D2=>Asn fun O9 D3 J7 Pa=>?_;have Ao:=((Ck.e Cm).az J5).e D2;have Bf:=((((((Aa.nb (J4.thenE D2).ext (AIj J7 D3.lt) D3).az (Ao.z p5)).az (Ao.z p4)).az (Ao.z p3)).az (Ao.z p2)).az (Ao.z p1)).az (Ao.z p0);refine AC7 D1 ACf (cZ.klen (Bf.z p0)) (cZ.klen (AB9 J6)) rfl rfl (cZ.one (Bf.z p0)) (Bf.b p6) fun Cn J8 J9=>ABt (AEd (fun h'=>UpT [] Cn h') (by kernel_rfl) ?_);have Ae:=Bf.sb p6 J9 J8 rfl;have A5:UpT [] Cn Cn:=UpT.start all_nil;refine Wo (Wo (ADl ADt rfl (Ae.o2 p11) rfl Ad fun Pb Pc Pd Ka Kb=>AEt AFm rfl A5 (fun h' hb=>AB1 Kb hb.ext) (Wo (AEk D1 ACf (cZ.klen (Ae.z p0)) rfl A5 (fun h' hb=>((Ae.b p6).ext hb.ext).agg) (AEk Bt ACf (cZ.klen (Ae.z p10)) rfl A5 (fun h' hb=>((Ae.b p9).ext hb.ext).agg) ?_)))));obtain ⟨⟨Kc,Pe,Pf⟩,Kd,D4⟩:=ABq J1;dsimp only at D4;refine ADg A5 (fun _ E=>A5.thenE E) rfl (AYa (Ae.z p0).2 (Ae.z p10).2 Kd) fun Pg Ph Ke Kf=>?_;obtain ⟨Pj,Pk,rfl,Kg,Kh⟩:=Kf;obtain ⟨Pm,rfl,Ki⟩:=Kg.cs;obtain ⟨Pn,rfl,Kj⟩:=Kh.cs;refine Wo (ADm rfl rfl (ADm rfl rfl (ADm rfl rfl (AD2 (m:=Ak) AEv rfl (Ae.o2 p11) Ka Ad rfl Be fun Po Kk=>?_))));have A6:=((Ae.e Ke).az Ki).az Kj;refine AH9 (m:=Ak) (ASa ACf (cZ.klen (A6.z p1)) rfl rfl (cZ.one (A6.z p1))) (A6.o2 p13) Kk Ad Be (A6.z p1) fun Pp Kl Km=>ACr (q_b (q_t (AB5 (Wo (ACz rfl rfl (ABv ?_))))));obtain rfl:=ABo D4;exact ⟨I2,(((w64 (Do + 1)),(sI Dp Ak (sI I3 Do Kc)),Dq,Dr,Ds):(Int) × (LiI) × LnA × LnN × LvA),Nat.lt_succ_self _,⟨B9,(A6.uO2 p13 Km Kl).sel [9,10,11,12,13,14] (by decide)⟩,rfl,trivial⟩
     ·obtain rfl:=ABo (AC9 A4 Ca);change _=Dn at B9;subst B9;refine ACh (ACj (ACj (ADo (q_b (q_t (AB5 (Wo (ACz rfl rfl (ABv ?_)))))))));obtain rfl:=ABo Ix;exact ⟨Iv,(((w64 (Ak + 1)),Dp,Dq,Dr,Ds):(Int) × (LiI) × LnA × LnN × LvA),Nat.lt_succ_self _,⟨B6,Aa⟩,rfl,trivial⟩
    ·obtain rfl:=ABo (AC9 A3 B7);change _=Dh at B6;subst B6;refine ACh (ACj (ACj (ADo (q_t (AB5 (AEu Az ACf (cZ.klen (Ac.z p1)) rfl (Ac.b p0).agg (AC7 Az ACf (cZ.klen (Ac.z p1)) (cZ.klen (Ac.z p3)) rfl rfl (cZ.one (Ac.z p1)) (Ac.b p2) fun Pq Kn Ko=>ACr (q_b (q_t (AB5 (ACz rfl rfl (Wo (ABt ?_)))))))))))));obtain rfl:=ABo Iq;exact ⟨Gh,((Hv,(w64 (Ah + 1)),Di,Dj,Dk,Dl,Ic,Az):(Bool) × (Int) × (LiI) × LnA × LnN × LvA × (Int) × LvA),Nat.lt_succ_self _,⟨Aw,(Ac.sb p2 Ko Kn rfl).sel [2,1,4,5] (by decide)⟩,rfl,rfl,trivial⟩
  ·obtain rfl:=ABo (AC9 Av Bu);change _=Bq at Aw;subst Aw;refine ACh (ACj (ACj (ADo (q_t (ABr (ABp (Wo (ABt (⟨_,rfl,fun Co=>?_,fun Co=>?_⟩)))))))))
   ·refine ABp (AEu Bt ACf (cZ.klen (Ab.z p1)) rfl (Ab.b p0).agg ?_);obtain ⟨Ps,Kp,Kr⟩:=ABq (ifT Br Co);refine ADb rfl (Asx (Ab.z p1).2 Kp) fun Pt Kt Ku Kv=>?_;obtain ⟨Pu,rfl,Kw⟩:=Kv;obtain ⟨Kx,rfl,Ky⟩:=Kw.cs;have Bg:=(Ab.e Ku).az Ky;refine AC7 Kx ACf (cZ.klen (Bg.z p0)) (cZ.klen (AB9 Kt)) rfl rfl (cZ.one (Bg.z p0)) (Bg.b p4) fun Pv Kz K3=>ABt (ABx (AB4 ?_));have Bh:=Bg.sb p4 K3 Kz rfl;obtain rfl:=ABo Kr;exact ⟨_,AEe ACf (cZ.klen (Bh.z p0)) rfl (Bh.b p4),Bh.x,_,rfl,(Bh.z p0).2⟩
   ·refine ABy (q_t (ABp (AEu Bt ACf (cZ.klen (Ab.z p1)) rfl (Ab.b p0).agg ?_)));obtain ⟨Pw,K5,K6⟩:=ABq (AH8 Br Co);refine ADb rfl (AXe (Ab.z p1).2 K5) fun Px La Lb Lc=>?_;obtain ⟨Py,rfl,Ld⟩:=Lc;obtain ⟨Le,rfl,Lf⟩:=Ld.cs;have Bi:=(Ab.e Lb).az Lf;refine AC7 Le ACf (cZ.klen (Bi.z p0)) (cZ.klen (AB9 La)) rfl rfl (cZ.one (Bi.z p0)) (Bi.b p4) fun Pz Lg Lh=>ABt (ABx ?_);have Bj:=Bi.sb p4 Lh Lg rfl;obtain rfl:=ABo K6;exact ⟨_,AEe ACf (cZ.klen (Bj.z p0)) rfl (Bj.b p4),Bj.x,_,rfl,(Bj.z p0).2⟩
def AQu (fuel:Nat) (a3:LiI):Option (Int × Bool):=
  ((AHv fuel a3).bind fun (Ab,Ac,Ad)=>(if (!Ad)=true then (some (0,false)) else (if ¬ Ab=Ac then (some (0,false)) else ((AIq fuel a3).bind fun Ae=>(some (Ae,true))))))
theorem AYy {fuel:Nat} {h:ABu} {Ag:Value} {a3:LiI} {r:(Int × Bool)} (H2:AEq cZ h Ag a3) (hp:AQu fuel a3=some r):ACn Tryz.prog 66 #[Ag] h (fun x h'=>Ext h h'/\ ∃ (x0:Value),x= .tuple #[x0,.bool r.2]/\ZZ h' x0 r.1):=by
 unfold AQu at hp;refine cwf (l:=[_]) Tryz.func66 rfl rfl (ABp (ADi [.bool false,.slice none 0 0] AGk rfl trivial tt2 fun b5 h6 V7 E8 S9=>AC1 (Wo ?_)));have Ak:=(Kst.k0 h).nb E8 S9 V7;obtain ⟨⟨Bn,Bo,Ay⟩,Az,Ae⟩:=ABq hp;dsimp only at Ae;refine ADb rfl (ARz (H2.ext Ak.x) Az) fun Bp Aa A3 A4=>?_;subst A4;refine Wo (ADm rfl rfl (ADm rfl rfl (ADm rfl rfl (ACk (ACk (ABv (ABr (ABp (Wo (AE1 rfl (Wo ?_)))))))))));have Ab:=Ak.e A3;cases Am:(!Ay)
 ·refine AB3 15 false (Wo (AB3 15 false (Wo (AB3 15 false (AEn rfl rfl (AB0 rfl (ABt ?_)))))));have Ao:=AH8 Ae Am;refine ⟨_,rfl,fun Af=>?_,fun Af=>?_⟩
  ·refine ABp (AF6 (AO6 ) (AC7 [Value.bool false,Value.slice none 0 0] ACf (cZ.klen (AB9 Aa)) (cZ.klen (AB9 Aa)) rfl rfl (cZ.one (AB9 Aa)) (Ab.b p0) fun Ap A5 A6=>ABv (ABx (AB4 ?_))));have Aq:=Ab.sb p0 A6 A5 rfl;obtain rfl:=ABo (AC8 Ao Af);exact ⟨_,AWy ACf (cZ.klen (AB9 Ap)) rfl (Aq.b p0),Aq.x,_,rfl,(AB9 Ap).2⟩
  ·refine ABy (q_t (ABp (Wo ?_)));obtain ⟨Bq,A7,A8⟩:=ABq (AC9 Ao Af);refine ADb rfl (AS9 (H2.ext Ab.x) A7) fun Br A9 Ba Bb=>?_;obtain ⟨Bt,rfl,Bc⟩:=Bb;obtain ⟨Be,rfl,Bf⟩:=Bc.cs;have Ac:=(Ab.e Ba).az Bf;refine AC7 Be ACf (cZ.klen (Ac.z p0)) (cZ.klen (AB9 A9)) rfl rfl (cZ.one (Ac.z p0)) (Ac.b p1) fun Bu Bg Bh=>ABv (ABx ?_);have Ad:=Ac.sb p1 Bh Bg rfl;obtain rfl:=ABo A8;exact ⟨_,AWy ACf (cZ.klen (Ad.z p0)) rfl (Ad.b p1),Ad.x,_,rfl,(Ad.z p0).2⟩
 ·refine AE2 15 true (AB2 rfl (ABt (ACd rfl (ABp (AF6 (AO6 ) (AC7 [Value.bool false,Value.slice none 0 0] ACf (cZ.klen (AB9 Aa)) (cZ.klen (AB9 Aa)) rfl rfl (cZ.one (AB9 Aa)) (Ab.b p0) fun Ar Bi Bj=>ABv (ABx (AB4 ?_))))))));have Au:=Ab.sb p0 Bj Bi rfl;obtain rfl:=ABo (ifT Ae Am);exact ⟨_,AWy ACf (cZ.klen (AB9 Ar)) rfl (Au.b p0),Au.x,_,rfl,(AB9 Ar).2⟩
end Go.Proofs.YtdnbklmefmoofaaGreatDoor
namespace Go.QF
open Go
theorem Ab5 {h:ABu} {v:Value} {l:List Value} (H:Sl h v l):SlK h 1 v (l.map fun x=>[x]):=by
 obtain ⟨a,cap,hv,hc⟩:=H;refine ⟨a,cap,by rw [List.length_map];exact hv,fun i row hr=>?_⟩;rw [List.getElem?_map] at hr;obtain ⟨x,hx,rfl⟩:=Option.map_eq_some_iff.1 hr;obtain ⟨b,o,ha,hb⟩:=hc i x hx;refine ⟨b,o,ha,fun j y hy=>?_⟩
 cases j with
 | zero=>injection hy with hy;subst hy;rw [Nat.mul_one,Nat.add_zero];exact hb
 | succ j=>simp at hy
theorem Ab6 {h:ABu} {v:Value} {l:List Value} (H:SlK h 1 v (l.map fun x=>[x])):Sl h v l:=by
 obtain ⟨a,cap,hv,hc⟩:=H;refine ⟨a,cap,by rw [List.length_map] at hv;exact hv,fun i x hx=>?_⟩;obtain ⟨b,o,ha,hb⟩:=hc i [x] (by simp [hx]);refine ⟨b,o,ha,?_⟩;have:=hb 0 x rfl;rwa [Nat.mul_one,Nat.add_zero] at this
theorem Agz {κ:IntKind} {h:ABu} {v:Value} {L:List Int} (H:Sl h v (L.map (.int κ))):SlC (cI κ) h v L:=by
 refine ⟨L.map fun a=>[.int κ a],?_,by simp,fun i cs a h1 h2=>?_⟩
 ·have:=Ab5 H;rwa [List.map_map] at this
 ·rw [List.getElem?_map,h2] at h1;injection h1 with h1;exact h1.symm
theorem Auj {κ:IntKind} {h:ABu} {v:Value} {L:List Int} (H:SlC (cI κ) h v L):Sl h v (L.map (.int κ)):=by
 obtain ⟨Ls,h1,h2,h3⟩:=H
 have:Ls=(L.map (Value.int κ)).map fun x=>[x]:=by
   apply List.ext_getElem?
   intro i
   by_cases hi:i < L.length
   · obtain ⟨a,ha⟩:∃ a,L[i]? =some a:=⟨L[i],List.getElem?_eq_getElem hi⟩
     obtain ⟨cs,hcs⟩:∃ cs,Ls[i]? =some cs:=⟨Ls[i]'(by omega),List.getElem?_eq_getElem _⟩
     have:=h3 i cs a hcs ha
     rw [hcs,List.map_map,List.getElem?_map,ha]
     exact congrArg some this
   · rw [List.getElem?_eq_none (by omega),List.getElem?_eq_none (by simp;omega)]
 subst this;exact Ab6 h1
theorem Asy {h:ABu} {v:Value} {M:List (List Int)} (H:AEq (cI .i64) h v M):Mat h v M:=by
 obtain ⟨_,rs,h1,h2,h3⟩:=H;exact ⟨rs,Ab6 h1,h2,fun i r z hr hz=>Auj (h3 i r z hr hz)⟩
theorem Aqg {h:ABu} {v:Value} {M:List (List Int)} (H:Mat h v M) (hc:AP1 v):AEq (cI .i64) h v M:=by
 obtain ⟨rs,h1,h2,h3⟩:=H;exact ⟨hc,rs,Ab5 h1,h2,fun i r z hr hz=>Agz (h3 i r z hr hz)⟩
end Go.QF
namespace Go.QF
def Abs (x b:Int):Prop:= -b<=x/\x<=b
theorem AVn {x y a b:Int} (hx:Abs x a) (hy:Abs y b):Abs (x * y) (a * b):=by
 unfold Abs at *;have ha:0<=a:=by omega
 have hb:0<=b:=by omega
 have h1:0<=(a - x) * (b - y):=Int.mul_nonneg (by omega) (by omega);have h2:0<=(a - x) * (b + y):=Int.mul_nonneg (by omega) (by omega);have h3:0<=(a + x) * (b - y):=Int.mul_nonneg (by omega) (by omega);have h4:0<=(a + x) * (b + y):=Int.mul_nonneg (by omega) (by omega);constructor <;> grind
theorem Anj {x b y:Int} (hb:0 < b) (hx:Abs x (b * y)):Abs (x.tdiv b) y:=by
 unfold Abs at *;rcases AUt x 0 with h | h
 ·have h1:x.tdiv b= -((-x).tdiv b):=by rw [Int.neg_tdiv,Int.neg_neg]
  have h2:(-x).tdiv b=(-x) / b:=Int.tdiv_eq_ediv_of_nonneg (by omega)
  have h3:(-x) / b<=y:=by
    have:(-x) / b<=(b * y) / b:=Int.ediv_le_ediv hb (by omega)
    rwa [Int.mul_ediv_cancel_left _ (by omega)] at this
  have h4:0<=(-x) / b:=Int.ediv_nonneg (by omega) (by omega);omega
 ·have h2:x.tdiv b=x / b:=Int.tdiv_eq_ediv_of_nonneg h
  have h3:x / b<=y:=by
    have:x / b<=(b * y) / b:=Int.ediv_le_ediv hb (by omega)
    rwa [Int.mul_ediv_cancel_left _ (by omega)] at this
  have h4:0<=x / b:=Int.ediv_nonneg h (by omega);omega
def Aal (M:List (List Int)):Prop:=(1<=M.length/\M.length<=8)/\(∀ z∈M,z.length=M.length)/\ ∀ i j,i < M.length->j < M.length->ent M i j=ent M j i/\ -262144 < ent M i j/\ent M i j < 262144
open Classical in
noncomputable def AMe (M:List (List Int)):Bool:=decide (Aal M)
theorem AIl {M:List (List Int)} (h:Aal M):true=AMe M:=by simp [AMe,h]
theorem AFk {M:List (List Int)} (h: ¬ Aal M):false=AMe M:=by simp [AMe,h]
theorem Aam {M:List (List Int)} (h:AMe M=true):Aal M:=by simpa [AMe] using h
def AQk (m:Nat) (F:Nat->Nat->Int):Prop:=(0 < F 0 0/\F 0 0 < 65536)/\ ∀ i,1<=i->i < m->2 * F i 0<=F 0 0/\ -2 * F i 0<=F 0 0
instance (m:Nat) (F:Nat->Nat->Int):Decidable (AQk m F):=by
  unfold AQk
  have:Decidable (∀ i,1<=i->i < m->2 * F i 0<=F 0 0/\ -2 * F i 0<=F 0 0):=
    decidable_of_iff (∀ i,i < m->1<=i->2 * F i 0<=F 0 0/\ -2 * F i 0<=F 0 0) ⟨fun h i a b=>h i b a,fun h i a b=>h i b a⟩
  infer_instance
def AR0 (F:Nat->Nat->Int) (last:Int):Nat->Nat->Int:=fun i j=>(F 0 0 * F (i + 1) (j + 1) - F (i + 1) 0 * F 0 (j + 1)).tdiv last
def AVv (F:Nat->Nat->Int) (last:Int):Prop:=3 * F 0 0 * F 0 0<=4 * (last * AR0 F last 0 0 + F 1 0 * F 1 0)
instance (F:Nat->Nat->Int) (last:Int):Decidable (AVv F last):=by unfold AVv;infer_instance
def AQl:Nat->(Nat->Nat->Int)->Int->Bool
  | 0,_,_=>false
  | 1,F,_=>decide (0 < F 0 0/\F 0 0<=10000)
  | m + 2,F,last=>decide (AQk (m + 2) F) && (decide (AVv F last) && AQl (m + 1) (AR0 F last) (F 0 0))
noncomputable def isRed (M:List (List Int)):Bool:=AMe M && AQl M.length (ent M) 1
structure Stg (m:Nat) (F:Nat->Nat->Int) (last:Int) (K:Int):Prop where
  sym:∀ i j,i < m->j < m->F i j=F j i
  bd:∀ i j,i < m->j < m->Abs (F i j) (last * K)
  l1:1<=last
  l2:last<=65535
theorem Ae4 {m:Nat} {F:Nat->Nat->Int} {last K:Int} (H:Stg (m + 1) F last K) (hK:0<=K) (hs:AQk (m + 1) F):Stg m (AR0 F last) (F 0 0) (K + 16384):=by
 have hd:=hs.1
 have hcol:∀ i,i < m->Abs (2 * F (i + 1) 0) (F 0 0):=fun i hi=>by
   have:=hs.2 (i + 1) (by omega) (by omega)
   exact ⟨by omega,by omega⟩
 refine ⟨fun i j hi hj=>?_,fun i j hi hj=>?_,by omega,by omega⟩
 ·unfold AR0;rw [H.sym (i + 1) (j + 1) (by omega) (by omega),H.sym (i + 1) 0 (by omega) (by omega),H.sym 0 (j + 1) (by omega) (by omega),Int.mul_comm (F 0 (i + 1))]
 ·unfold AR0;refine Anj (by have:=H.l1;omega) ?_;have h1:Abs (F 0 0 * F (i + 1) (j + 1)) (F 0 0 * (last * K)):=AVn ⟨by omega,by omega⟩ (H.bd _ _ (by omega) (by omega))
  have h2:Abs (2 * F (i + 1) 0 * (2 * F 0 (j + 1))) (F 0 0 * F 0 0):=by
    refine AVn (hcol i hi) ?_
    rw [H.sym 0 (j + 1) (by omega) (by omega)];exact hcol j hj
  have h3:0<=F 0 0 * (65536 - F 0 0):=Int.mul_nonneg (by omega) (by omega);have h4:0<=F 0 0 * (last - 1):=Int.mul_nonneg (by omega) (by have:=H.l1;omega);unfold Abs at *;have e1:2 * F (i + 1) 0 * (2 * F 0 (j + 1))=4 * (F (i + 1) 0 * F 0 (j + 1)):=by grind
  rw [e1] at h2;have e2:last * (F 0 0 * (K + 16384))=F 0 0 * (last * K) + 16384 * (F 0 0 * last):=by grind
  rw [e2];have e3:F 0 0 * (65536 - F 0 0)=65536 * F 0 0 - F 0 0 * F 0 0:=by grind
  have e4:F 0 0 * (last - 1)=F 0 0 * last - F 0 0:=by grind
  rw [e3] at h3;rw [e4] at h4;omega
theorem Ajz {M:List (List Int)} (h:Aal M):Stg M.length (ent M) 1 262144:=by
 refine ⟨fun i j hi hj=>(h.2.2 i j hi hj).1,fun i j hi hj=>?_,by omega,by omega⟩;have:=h.2.2 i j hi hj;unfold Abs;omega
theorem APm {m:Nat} {F:Nat->Nat->Int} {last:Int} (h:2<=m) (hs: ¬ AQk m F):AQl m F last=false:=by
 obtain ⟨n,rfl⟩:∃ n,m=n + 2:=⟨m - 2,by omega⟩;unfold AQl;rw [decide_eq_false hs];rfl
theorem ATa {m:Nat} {F:Nat->Nat->Int} {last:Int} (h:2<=m) (hs: ¬ AVv F last):AQl m F last=false:=by
 obtain ⟨n,rfl⟩:∃ n,m=n + 2:=⟨m - 2,by omega⟩;unfold AQl;rw [decide_eq_false hs,Bool.false_and,Bool.and_false]
theorem Aj0 {m:Nat} {F:Nat->Nat->Int} {last:Int} (h:2<=m) (hs:AQk m F) (hl:AVv F last):AQl m F last=AQl (m - 1) (AR0 F last) (F 0 0):=by
 obtain ⟨n,rfl⟩:∃ n,m=n + 2:=⟨m - 2,by omega⟩;rw [AQl,decide_eq_true hs,decide_eq_true hl];rfl
theorem AZc {m:Nat} {F:Nat->Nat->Int} {last K:Int} (H:Stg m F last K) (hK0:0<=K) (hK:K<=393216) {i j:Nat} (hi:i < m) (hj:j < m):Abs (F i j) 34359738368:=by
  have h1:=H.bd i j hi hj;have h2:=(AV7 (a:=last) (b:=K) (A:=65535) (B:=393216) (by have:=H.l1;omega) H.l2 hK0 hK).2;unfold Abs at *;omega
end Go.QF
namespace Go.Proofs.YtdnbklmefmoofaaGreatDoor
open Go Go.QF
set_option maxRecDepth 100000
theorem AL0 {α:Type} {c:Nat} {g:Nat->α} {q:Nat} (hq:q < c):((List.range c).map g)[q]? =some (g q):=by simp [hq]
section
variable {P:Program} {B:ABu->Prop} {st:Bool} {ops:Array Oper} {rest:List Oper} {e:Env} {h:ABu} {K:Env->ABu->Prop}
variable {d:Nat} {ty:TypeId} {pos:String} {af:Array Edge}
end
end Go.Proofs.YtdnbklmefmoofaaGreatDoor
namespace Go.Proofs.YtdnbklmefmoofaaGreatDoor
open Go Go.QF
set_option maxRecDepth 100000
theorem Ag0 {h:ABu} {v:Value} {M:List (List Int)} (HM:Mat h v M):ACn Tryz.prog 49 #[v] h fun x h'=>h'=h/\x= .bool (AMe M):=by
 refine AC5 (l:=[_]) mx Tryz.func49 rfl rfl rfl rfl rfl (by kernel_rfl) (ABp (AC1 (Wo (AXy ACi rfl HM (ABv (ABr (ABp (Wo (AF5 rfl rfl (fun Ab=>?_) (fun Ab=>?_))))))))))
 ·refine Wo (ADd 14 true (by kernel_rfl) rfl rfl (ADd 14 true (by kernel_rfl) rfl rfl (AB2 rfl (ABt (ACd rfl (ABp (ABv (ABx (AB4 (⟨_,ABz,?_⟩))))))))))
  first
    | exact ⟨rfl,congrArg Value.bool (AFk fun hh=>by have:=hh.1;omega)⟩
    | exact ⟨rfl,congrArg Value.bool (AFk fun hh=>by have:=hh.2.1 M[i] (List.getElem_mem _);omega)⟩
    | exact ⟨rfl,congrArg Value.bool (AFk fun hh=>by have:=hh.2.2 a b (by omega) (by omega);omega)⟩
    | exact ⟨rfl,congrArg Value.bool (AIl ⟨⟨by omega,by omega⟩,hrows,fun x y hx hy=>hall x y (by omega) hy⟩)⟩
 ·refine Wo (ADn 14 false (by kernel_rfl) rfl rfl (Wo (ADn 14 false (by kernel_rfl) rfl rfl (AQ4 rfl rfl (fun Ac=>?_) (fun Ac=>?_)))))
  ·refine AB0 rfl (ABt (ACd rfl (ABp (ABv (ABx (AB4 (⟨_,ABz,?_⟩)))))))
   first
     | exact ⟨rfl,congrArg Value.bool (AFk fun hh=>by have:=hh.1;omega)⟩
     | exact ⟨rfl,congrArg Value.bool (AFk fun hh=>by have:=hh.2.1 M[i] (List.getElem_mem _);omega)⟩
     | exact ⟨rfl,congrArg Value.bool (AFk fun hh=>by have:=hh.2.2 a b (by omega) (by omega);omega)⟩
     | exact ⟨rfl,congrArg Value.bool (AIl ⟨⟨by omega,by omega⟩,hrows,fun x y hx hy=>hall x y (by omega) hy⟩)⟩
  ·refine AB0 rfl (ABt (ACo rfl (ABy (q_t (ABr (ABp (Wo (AXy ACi rfl HM (Wo (ABt (ABw (ACq 535822372 (fun i:Nat=>[(20,.int .i64 (i:Int))]) (fun k i h'=>h'=h/\k=M.length - i/\i<=M.length/\ ∀ j (hj:j < M.length),j < i->M[j].length=M.length) (by kernel_rfl) M.length 0 ?_ ⟨rfl,trivial⟩ ?_))))))))))))
   ·exact ⟨rfl,rfl,Nat.zero_le _,fun j _ hj=>by omega⟩
   rintro k i s1 h ⟨rfl,rfl,hi,hrow⟩;refine ABp (AF5 rfl rfl (fun Ad=>?_) (fun Ad=>?_))
   ·refine ABt (ABr (ACd rfl (ABy (q_t (ABr (ABw (ABp (AUs ACi rfl HM rfl (List.getElem?_eq_getElem (by omega)) fun aR rR haR hrR=>?_))))))));refine AB6 AC3 rfl haR (AC1 (Wo (Ak2 ACs rfl hrR (Wo (Abh rfl rfl (fun Ae=>?_) (fun Ae=>?_))))))
    ·refine ABt (ACd rfl (ABp (ABv (ABx (ADe (AB4 (AB4 (ADe (AB4 (⟨_,ABz,?_⟩))))))))))
     first
       | exact ⟨rfl,congrArg Value.bool (AFk fun hh=>by have:=hh.1;omega)⟩
       | exact ⟨rfl,congrArg Value.bool (AFk fun hh=>by have:=hh.2.1 M[i] (List.getElem_mem _);omega)⟩
       | exact ⟨rfl,congrArg Value.bool (AFk fun hh=>by have:=hh.2.2 a b (by omega) (by omega);omega)⟩
       | exact ⟨rfl,congrArg Value.bool (AIl ⟨⟨by omega,by omega⟩,hrows,fun x y hx hy=>hall x y (by omega) hy⟩)⟩
    ·refine ABt (ACo rfl (ABy (q_b (q_t (AB5 (AKl rfl (by omega) (Wo (ABt ?_))))))));exact ⟨M.length - (i + 1),i + 1,by omega,⟨rfl,rfl,by omega,fun j hj Af=>by rcases Nat.lt_succ_iff_lt_or_eq.1 Af with q | rfl;exact hrow j hj q;omega⟩,rfl,trivial⟩
   ·refine ABt (ABr (ACo rfl (ACh (ACj (ACj (ADo (q_t (ABr (ABr ?_)))))))));have hrows:∀ z∈M,z.length=M.length:=fun z hz=>by obtain ⟨j,hj,rfl⟩:=List.getElem_of_mem hz;exact hrow j hj (by omega)
    have Aa:Mat h v (tab M.length M.length (ent M)):=(AX0 hrows) ▸ HM;refine AB5 (Wo (AXy ACi rfl Aa ?_));rw [ACt];refine Wo (ABt (ABw (ACq 4611686016279905220 (fun a:Nat=>[(31,.int .i64 (a:Int))]) (fun k a h'=>h'=h/\k=M.length - a/\a<=M.length/\ ∀ x y,x < a->y < M.length->ent M x y=ent M y x/\ -262144 < ent M x y/\ent M x y < 262144) (by kernel_rfl) M.length 0 ?_ ⟨rfl,trivial⟩ ?_)))
    ·exact ⟨rfl,rfl,Nat.zero_le _,fun x y hx=>by omega⟩
    rintro k a s2 h ⟨rfl,rfl,ha,hall⟩;refine ABp (AF5 rfl rfl (fun Ag=>?_) (fun Ag=>?_))
    ·refine ABt (ABr (ACd rfl (ABy (q_t (ABr (ABw (ABp (Wo (AUs ACi rfl Aa rfl (AL3 (by omega)) fun aS rS haS hrS=>AB6 AC3 rfl haS (ACk (AC1 (Wo (Ak2 ACs rfl hrS ?_)))))))))))));rw [List.length_map,List.length_range];refine Wo (ABt (ABw (ACq 2305842734335787780 (fun b:Nat=>[(38,.int .i64 (b:Int))]) (fun k b h'=>h'=h/\k=M.length - b/\b<=M.length/\ ∀ y,y < b->ent M a y=ent M y a/\ -262144 < ent M a y/\ent M a y < 262144) (by kernel_rfl) M.length 0 ?_ ⟨rfl,trivial⟩ ?_)))
     ·exact ⟨rfl,rfl,Nat.zero_le _,fun y hy=>by omega⟩
     rintro k b s3 h ⟨rfl,rfl,hb,hrw⟩;refine ABp (AF5 rfl rfl (fun Ah=>?_) (fun Ah=>?_))
     ·refine ABt (ABr (ACd rfl (ABy (q_t (ABr (ABw (ABp (Wo (ASw ACs rfl hrS rfl (AL0 (by omega)) fun Aq Ai=>AB6 ACx rfl Ai (ACk (AC1 (Wo (Wo (Wo (AUs ACi rfl Aa rfl (AL3 (by omega)) fun aT rT haT hrT=>?_)))))))))))))));refine AB6 AC3 rfl haT (Wo (ASw ACs rfl hrT rfl (AL0 (by omega)) fun Ar Aj=>AB6 ACx rfl Aj (Abh rfl rfl (fun Ak=>?_) (fun Ak=>?_))))
      ·refine Wo (ADd 52 true (by kernel_rfl) rfl rfl (ADd 52 true (by kernel_rfl) rfl rfl (AB2 rfl (Wo (ADd 56 true (by kernel_rfl) rfl rfl (ADd 56 true (by kernel_rfl) rfl rfl (AB2 rfl (ABt (ACd rfl (ABp (ABv (ABx (ADe (AB4 (AB4 (ADe (ADe (AB4 (AB4 (ADe (AB4 (⟨_,ABz,?_⟩))))))))))))))))))))))
       first
         | exact ⟨rfl,congrArg Value.bool (AFk fun hh=>by have:=hh.1;omega)⟩
         | exact ⟨rfl,congrArg Value.bool (AFk fun hh=>by have:=hh.2.1 M[i] (List.getElem_mem _);omega)⟩
         | exact ⟨rfl,congrArg Value.bool (AFk fun hh=>by have:=hh.2.2 a b (by omega) (by omega);omega)⟩
         | exact ⟨rfl,congrArg Value.bool (AIl ⟨⟨by omega,by omega⟩,hrows,fun x y hx hy=>hall x y (by omega) hy⟩)⟩
      ·refine Wo (ADn 52 false (by kernel_rfl) rfl rfl (Wo (ADn 52 false (by kernel_rfl) rfl rfl (ASu rfl rfl (fun Am=>?_) (fun Am=>?_)))))
       ·refine AB0 rfl (Wo (ADd 56 true (by kernel_rfl) rfl rfl (ADd 56 true (by kernel_rfl) rfl rfl (AB2 rfl (ABt (ACd rfl (ABp (ABv (ABx (ADe (AB4 (AB4 (ADe (ADe (AB4 (AB4 (ADe (AB4 (⟨_,ABz,?_⟩)))))))))))))))))))
        first
          | exact ⟨rfl,congrArg Value.bool (AFk fun hh=>by have:=hh.1;omega)⟩
          | exact ⟨rfl,congrArg Value.bool (AFk fun hh=>by have:=hh.2.1 M[i] (List.getElem_mem _);omega)⟩
          | exact ⟨rfl,congrArg Value.bool (AFk fun hh=>by have:=hh.2.2 a b (by omega) (by omega);omega)⟩
          | exact ⟨rfl,congrArg Value.bool (AIl ⟨⟨by omega,by omega⟩,hrows,fun x y hx hy=>hall x y (by omega) hy⟩)⟩
       ·refine AB0 rfl (Wo (ADn 56 false (by kernel_rfl) rfl rfl (Wo (ADn 56 false (by kernel_rfl) rfl rfl (AUr rfl rfl (fun Ao=>?_) (fun Ao=>?_))))))
        ·refine AB0 rfl (ABt (ACd rfl (ABp (ABv (ABx (ADe (AB4 (AB4 (ADe (ADe (AB4 (AB4 (ADe (AB4 (⟨_,ABz,?_⟩)))))))))))))))
         first
           | exact ⟨rfl,congrArg Value.bool (AFk fun hh=>by have:=hh.1;omega)⟩
           | exact ⟨rfl,congrArg Value.bool (AFk fun hh=>by have:=hh.2.1 M[i] (List.getElem_mem _);omega)⟩
           | exact ⟨rfl,congrArg Value.bool (AFk fun hh=>by have:=hh.2.2 a b (by omega) (by omega);omega)⟩
           | exact ⟨rfl,congrArg Value.bool (AIl ⟨⟨by omega,by omega⟩,hrows,fun x y hx hy=>hall x y (by omega) hy⟩)⟩
        ·refine AB0 rfl (ABt (ACo rfl (ABy (q_b (q_t (AB5 (AKl rfl (by omega) (Wo (ABt ?_)))))))));exact ⟨M.length - (b + 1),b + 1,by omega,⟨rfl,rfl,by omega,fun y hy=>by rcases Nat.lt_succ_iff_lt_or_eq.1 hy with q | rfl;exact hrw y q;exact ⟨by omega,by omega,by omega⟩⟩,rfl,trivial⟩
     ·refine ABt (ABr (ACo rfl (ACh (ACj (ACj (ADo (q_b (q_t (AB5 (AKl rfl (by omega) (Wo (ABt ?_))))))))))));exact ⟨M.length - (a + 1),a + 1,by omega,⟨rfl,rfl,by omega,fun x y hx hy=>by rcases Nat.lt_succ_iff_lt_or_eq.1 hx with q | rfl;exact hall x y q hy;exact hrw y (by omega)⟩,rfl,trivial⟩
    ·refine ABt (ABr (ACo rfl (ACh (ACj (ACj (ADo (q_t (ABp (ABv (ABx (⟨_,ABz,?_⟩)))))))))))
     first
       | exact ⟨rfl,congrArg Value.bool (AFk fun hh=>by have:=hh.1;omega)⟩
       | exact ⟨rfl,congrArg Value.bool (AFk fun hh=>by have:=hh.2.1 M[i] (List.getElem_mem _);omega)⟩
       | exact ⟨rfl,congrArg Value.bool (AFk fun hh=>by have:=hh.2.2 a b (by omega) (by omega);omega)⟩
       | exact ⟨rfl,congrArg Value.bool (AIl ⟨⟨by omega,by omega⟩,hrows,fun x y hx hy=>hall x y (by omega) hy⟩)⟩
theorem Ank {m:Nat} {F:Nat->Nat->Int}:(tab m m F).drop 1=tab (m - 1) m fun i j=>F (i + 1) j:=by
 refine List.ext_getElem (by simp [tab]) fun i h1 h2=>?_;simp [tab,Nat.add_comm]
theorem Aan {h:ABu} {v:Value} {m:Nat} {F:Nat->Nat->Int} (HM:Mat h v (tab m m F)) (hcap:AP1 v) (hm:1<=m) (Au:m<=8) (hfit:∀ i,i < m->Abs (F i 0) 34359738368):ACn Tryz.prog 50 #[v] h fun x h'=>h'=h/\x= .bool (decide (AQk m F)):=by
 refine AC5 (l:=[_]) mx Tryz.func50 rfl rfl rfl rfl rfl (by kernel_rfl) (ABp (AC1 (Wo (AUs (n:=0) ACi rfl HM rfl (AL3 (by omega)) fun Av Aw Ad Ae=>AB6 AC3 rfl Ad (ASw (n:=0) ACs rfl Ae rfl (AL0 (by omega)) fun Ax Af=>AB6 ACx rfl Af (ABv (ABr (ABp (Wo (ASu rfl rfl (fun Ag=>?_) (fun Ag=>?_)))))))))))
 ·refine Wo (ADd 13 true (by kernel_rfl) rfl rfl (ADd 13 true (by kernel_rfl) rfl rfl (AB2 rfl (ABt (ACd rfl (ABp (ABv (ABx (AB4 (⟨_,ABz,?_⟩))))))))))
  first
    | exact ⟨rfl,congrArg Value.bool (decide_eq_false (fun hh=>by have:=hh.1;omega)).symm⟩
    | exact ⟨rfl,congrArg Value.bool (decide_eq_false (fun hh=>by have:=hh.2 (i + 1) (by omega) (by omega);omega)).symm⟩
    | exact ⟨rfl,congrArg Value.bool (decide_eq_true ⟨⟨by omega,by omega⟩,fun j h1 h2=>hall j h1 (by omega)⟩).symm⟩
 ·refine Wo (ADn 13 false (by kernel_rfl) rfl rfl (Wo (ADn 13 false (by kernel_rfl) rfl rfl (AUr rfl rfl (fun Ah=>?_) (fun Ah=>?_)))))
  ·refine AB0 rfl (ABt (ACd rfl (ABp (ABv (ABx (AB4 (⟨_,ABz,?_⟩)))))))
   first
     | exact ⟨rfl,congrArg Value.bool (decide_eq_false (fun hh=>by have:=hh.1;omega)).symm⟩
     | exact ⟨rfl,congrArg Value.bool (decide_eq_false (fun hh=>by have:=hh.2 (i + 1) (by omega) (by omega);omega)).symm⟩
     | exact ⟨rfl,congrArg Value.bool (decide_eq_true ⟨⟨by omega,by omega⟩,fun j h1 h2=>hall j h1 (by omega)⟩).symm⟩
  ·refine AB0 rfl (ABt (ACo rfl (ABy (q_t (ABr (ABp (Wo (Ajl (k:=1) ACi rfl HM hcap rfl (by rw [ACt];omega) fun v1 Ai Ay=>?_))))))));have HD:Mat h v1 (tab (m - 1) m fun i j=>F (i + 1) j):=Ank (m:=m) ▸ Ai;refine AXy ACi rfl HD ?_;rw [ACt];refine Wo (ABt (ABw (ACq 549754765348 (fun i:Nat=>[(20,.int .i64 (i:Int))]) (fun k i h'=>h'=h/\k=m - 1 - i/\i<=m - 1/\ ∀ j,1<=j->j < i + 1->2 * F j 0<=F 0 0/\ -2 * F j 0<=F 0 0) (by kernel_rfl) (m - 1) 0 ?_ ⟨rfl,trivial⟩ ?_)))
   ·exact ⟨rfl,rfl,Nat.zero_le _,fun j h1 h2=>by omega⟩
   rintro k i s1 h ⟨rfl,rfl,hi,hall⟩;refine ABp (AF5 rfl rfl (fun Aj=>?_) (fun Aj=>?_))
   ·refine ABt (ABr (ACd rfl (ABy (q_t (ABr (ABw (ABp (AUs ACi rfl HD rfl (AL3 (by omega)) fun Az A3 Ak Ac=>AB6 AC3 rfl Ak (ABv (ABr ?_))))))))));have Am:=hfit (i + 1) (by omega);unfold Abs at Am;refine AB5 (Wo (ASw (n:=0) ACs rfl Ac rfl (AL0 (by omega)) fun A4 Ao=>AB6 ACx rfl Ao (AOh rfl rfl (by omega) (by omega) (Wo (AQ4 rfl rfl (fun Ap=>?_) (fun Ap=>?_))))))
    ·refine Wo (ADd 30 true (by kernel_rfl) rfl rfl (ADd 30 true (by kernel_rfl) rfl rfl (ADd 30 true (by kernel_rfl) rfl rfl (ADd 30 true (by kernel_rfl) rfl rfl (ADd 30 true (by kernel_rfl) rfl rfl (ADd 30 true (by kernel_rfl) rfl rfl (AB2 rfl (ABt (ACd rfl (ABp (ABv (ABx (ADe (AB4 (AB4 (ADe (AB4 (⟨_,ABz,?_⟩))))))))))))))))))
     first
       | exact ⟨rfl,congrArg Value.bool (decide_eq_false (fun hh=>by have:=hh.1;omega)).symm⟩
       | exact ⟨rfl,congrArg Value.bool (decide_eq_false (fun hh=>by have:=hh.2 (i + 1) (by omega) (by omega);omega)).symm⟩
       | exact ⟨rfl,congrArg Value.bool (decide_eq_true ⟨⟨by omega,by omega⟩,fun j h1 h2=>hall j h1 (by omega)⟩).symm⟩
    ·refine Wo (ADn 30 false (by kernel_rfl) rfl rfl (Wo (ADn 30 false (by kernel_rfl) rfl rfl (ASw (n:=0) ACs rfl Ac rfl (AL0 (by omega)) fun A5 Aq=>ADn 30 false (by kernel_rfl) rfl rfl (AB6 ACx rfl Aq (ADn 30 false (by kernel_rfl) rfl rfl (AOh rfl rfl (by omega) (by omega) (ADn 30 false (by kernel_rfl) rfl rfl (Wo (ADn 30 false (by kernel_rfl) rfl rfl (AQ4 rfl rfl (fun Ar=>?_) (fun Ar=>?_))))))))))))
     ·refine AB0 rfl (ABt (ACd rfl (ABp (ABv (ABx (ADe (AB4 (AB4 (ADe (AB4 (⟨_,ABz,?_⟩)))))))))))
      first
        | exact ⟨rfl,congrArg Value.bool (decide_eq_false (fun hh=>by have:=hh.1;omega)).symm⟩
        | exact ⟨rfl,congrArg Value.bool (decide_eq_false (fun hh=>by have:=hh.2 (i + 1) (by omega) (by omega);omega)).symm⟩
        | exact ⟨rfl,congrArg Value.bool (decide_eq_true ⟨⟨by omega,by omega⟩,fun j h1 h2=>hall j h1 (by omega)⟩).symm⟩
     ·refine AB0 rfl (ABt (ACo rfl (ABy (q_b (q_t (AB5 (AKl rfl (by omega) (Wo (ABt ?_)))))))));exact ⟨m - 1 - (i + 1),i + 1,by omega,⟨rfl,rfl,by omega,fun j h1 h2=>by rcases Nat.lt_succ_iff_lt_or_eq.1 h2 with q | rfl;exact hall j h1 q;exact ⟨by omega,by omega⟩⟩,rfl,trivial⟩
   ·refine ABt (ABr (ACo rfl (ACh (ACj (ACj (ADo (q_t (ABp (ABv (ABx (⟨_,ABz,?_⟩)))))))))))
    first
      | exact ⟨rfl,congrArg Value.bool (decide_eq_false (fun hh=>by have:=hh.1;omega)).symm⟩
      | exact ⟨rfl,congrArg Value.bool (decide_eq_false (fun hh=>by have:=hh.2 (i + 1) (by omega) (by omega);omega)).symm⟩
      | exact ⟨rfl,congrArg Value.bool (decide_eq_true ⟨⟨by omega,by omega⟩,fun j h1 h2=>hall j h1 (by omega)⟩).symm⟩
theorem Adf {h:ABu} {v:Value} {M:List (List Int)} (HM:Mat h v M) (hcap:AP1 v):ACn Tryz.prog 20 #[v] h fun x h'=>Ext h h'/\x= .bool (isRed M):=by
 refine AC5 (l:=[_]) mx Tryz.func20 rfl rfl rfl rfl rfl (by kernel_rfl) (ABp (ABv (ABr (ABp (Wo (ACl trivial rfl (Ag0 HM) fun x1 h hk=>?_))))));obtain ⟨rfl,rfl⟩:=hk;refine ⟨trivial,?_⟩;cases Au:AMe M
 ·refine AE1 rfl (ABt (ACd rfl (ABp (ABv (ABx (AB4 (⟨_,ABz,?_⟩)))))))
  first
    | exact ⟨(Ext.refl _),congrArg Value.bool (show false=isRed M by unfold isRed;rw [show AMe M=false by assumption];rfl)⟩
    | exact ⟨(Ext.refl _),congrArg Value.bool (show false=isRed M by unfold isRed;rw [hred,APm (by omega) (of_decide_eq_false (by assumption)),Bool.and_false])⟩
    | exact ⟨(Ext.refl _),congrArg Value.bool (show false=isRed M by unfold isRed;rw [hred,ATa (by omega) (by unfold AVv;omega),Bool.and_false])⟩
    | (obtain rfl:m=1:=by omega
       first
       | exact ⟨(Ext.refl _),congrArg Value.bool (show true=isRed M by unfold isRed;rw [hred,<- AIl hsm,AQl,decide_eq_true ⟨by omega,by omega⟩];rfl)⟩
       | exact ⟨(Ext.refl _),congrArg Value.bool (show false=isRed M by unfold isRed;rw [hred,AQl,decide_eq_false (by omega),Bool.and_false])⟩)
 ·refine AE1 rfl (ABt (ACo rfl (ABy (q_t (ABp (Wo (AC1 (ABv (ABr (ABw ?_))))))))));have hsm:=Aam Au;have Av:=Ajz hsm;have Aw:Mat h v (tab M.length M.length (ent M)):=(AX0 hsm.2.1) ▸ HM;refine ACq 20282409603651670423947251255292 (fun y:Nat × Value × Int × (Nat->Nat->Int)=>[(3,y.2.1),(4,.int .i64 y.2.2.1)]) (fun k y h'=>y.1=k/\Ext h h'/\1<=y.1/\y.1<=M.length/\Mat h' y.2.1 (tab y.1 y.1 y.2.2.2)/\AP1 y.2.1/\Stg y.1 y.2.2.2 y.2.2.1 (262144 + 16384 * (M.length - y.1))/\AQl M.length (ent M) 1=AQl y.1 y.2.2.2 y.2.2.1) (by kernel_rfl) M.length (M.length,v,1,ent M) ?_ ⟨rfl,rfl,trivial⟩ ?_
  ·exact ⟨rfl,Ext.refl _,hsm.1.1,Nat.le_refl _,Aw,hcap,by have e0:(262144 + 16384 * ((M.length:Int) - (M.length:Int)))=262144:=(by omega);rw [e0];exact Av,rfl⟩
  rintro k ⟨m,vs,last,F⟩ s1 hq ⟨rfl,XQ,Ay,hmn,HS,Aj,hstg,hred⟩;dsimp only at Ay hmn HS Aj hstg hred ⊢;have h8:=hsm.1.2;have B7:=hstg.l1;have B8:=hstg.l2;have szq:=XQ.1;refine ABr (ABp (Wo (AXy ACi rfl HS ?_)));rw [ACt];refine AQ4 rfl rfl (fun Az=>?_) (fun Az=>?_)
  ·refine ABt (ACd rfl (ABy (q_t (ABw (ABp (Wo (AUs (n:=0) ACi rfl HS rfl (AL3 (by omega)) fun B9 Ca A3 A4=>AB6 AC3 rfl A3 (ASw (n:=0) ACs rfl A4 rfl (AL0 (by omega)) fun Cb A5=>AB6 ACx rfl A5 (ABv (ABr (ABp (Wo (ACl trivial rfl (Aan HS Aj (by omega) (by omega) (fun i hi=>AZc hstg (by omega) (by omega) hi (by omega))) fun x4 hq hk=>?_)))))))))))));obtain ⟨rfl,rfl⟩:=hk;refine ⟨trivial,?_⟩;cases Ce:decide (AQk m F)
   ·refine AE1 rfl (ABt (ACd rfl (ABp (ABv (ABx (AB4 (ADe (AB4 (ADe (AB4 (⟨_,ABz,?_⟩)))))))))))
    first
      | exact ⟨XQ,congrArg Value.bool (show false=isRed M by unfold isRed;rw [show AMe M=false by assumption];rfl)⟩
      | exact ⟨XQ,congrArg Value.bool (show false=isRed M by unfold isRed;rw [hred,APm (by omega) (of_decide_eq_false (by assumption)),Bool.and_false])⟩
      | exact ⟨XQ,congrArg Value.bool (show false=isRed M by unfold isRed;rw [hred,ATa (by omega) (by unfold AVv;omega),Bool.and_false])⟩
      | (obtain rfl:m=1:=by omega
         first
         | exact ⟨XQ,congrArg Value.bool (show true=isRed M by unfold isRed;rw [hred,<- AIl hsm,AQl,decide_eq_true ⟨by omega,by omega⟩];rfl)⟩
         | exact ⟨XQ,congrArg Value.bool (show false=isRed M by unfold isRed;rw [hred,AQl,decide_eq_false (by omega),Bool.and_false])⟩)
   ·refine AE1 rfl (ABt (ACo rfl (ABy (q_t (ABp (Wo (AXy ACi rfl HS ?_)))))));rw [ACt];have hsh:AQk m F:=of_decide_eq_true (by assumption);refine AM9 rfl rfl (by omega) (by omega) ?_;rw [show ((m:Nat):Int) - 1=((m - 1:Nat):Int) by omega];refine At8 (ei:=tI) ACi AN2 (fun _=>trivial) rfl rfl (by decide) (by omega) fun b2 v2 h2 Ak E2 Cg hl2b=>?_;have Ch:=E2.1;have Z6:=(Ext.refl hq).trans E2;have X7:=XQ.trans E2;have HS_8:=HS.ext E2;refine ABv (ABr (ABp (Wo (Af5 ACi rfl Ak.1 (Wo (ABt (ABw (ACq 1208925819614624879739776 (fun i:Nat=>[(32,.int .i64 (i:Int))]) (fun k i h'=>k=m - 1 - i/\i<=m - 1/\Ext hq h'/\ ∃ gs,AP2 h' tR tI (Array.size hq) b2 gs v2 (m - 1) ((List.range i).map (fun i=>(List.range (m - 1)).map fun j=>AR0 F last i j))) (by kernel_rfl) (m - 1) 0 ?_ ⟨rfl,trivial⟩ ?_))))))))
    ·exact ⟨rfl,Nat.zero_le _,E2,[],Ak⟩
    rintro k i s2 h3 ⟨rfl,hi,E3,gs,HP⟩;have X9:=XQ.trans E3;have Ck:=E3.1;have HS_11:=HS.ext E3;refine ABp (AF5 rfl rfl (fun A7=>?_) (fun A7=>?_))
    ·refine ABt (ABr (ACd rfl (ABy (q_t (ABr (ABw (ABp (Wo (AC1 (Wo (Wo (AKl rfl (by omega) (Ar4 ACi rfl HS E3 rfl (AL3 (by omega)) fun aR rR haR hrR=>AB6 AC3 rfl haR (ABv ?_))))))))))))));refine ABp (Wo (Wo (Wo (Af5 ACi rfl HP.1 (At9 ACs AMw (fun _=>trivial) rfl rfl (by decide) (by omega) fun g4 v4 h4 A8 E4 Cn Co=>?_)))));have Cp:=E4.1;have A9:=E3.trans E4;have Ba:=X9.trans E4;have HS_15:=HS_11.ext E4;have HP_16:=HP.ext E4;refine Ao8 ACi rfl HP_16 rfl (by omega) ?_;have hglt:=HP.1.lt;have hblo:=HP.2 b2 (List.mem_cons_self ..);refine Ao9 AC3 rfl rfl HP_16 (by simp) (by omega) A8 (fun hc=>by have:=hglt _ hc;omega) (by omega) fun h4b HPb U4=>?_;have Cq:=U4.1;have Cr:=Ba.thenUpd U4 (fun k hk=>by have Ah:k=b2:=hk;omega);have Ao:=A9.thenUpd U4 (fun k hk=>by have Ah:k=b2:=hk;omega);have HS_20:=HS.ext Ao;refine AK0 (Wo (Af5 ACi rfl HPb.1 (Wo (ABt (ABw (ACq 604462909525839610642944 (fun j:Nat=>[(48,.int .i64 (j:Int))]) (fun k j h'=>k=m - 1 - j/\j<=m - 1/\Ext hq h'/\AP2 h' tR tI (Array.size hq) b2 (gs ++ [g4]) v2 (m - 1) ((List.range i).map (fun i=>(List.range (m - 1)).map fun j=>AR0 F last i j) ++ [AYv (m - 1) (AR0 F last i) (fun _=>0) j])) (by kernel_rfl) (m - 1) 0 ?_ ⟨rfl,trivial⟩ ?_))))))
     ·exact ⟨rfl,Nat.zero_le _,Ao,by rw [Ajh,Aji];exact HPb⟩
     rintro k j s3 h5 ⟨rfl,hj,E5,HQ⟩;have Bb:=XQ.trans E5;have Cv:=E5.1;have HS_23:=HS.ext E5;refine ABp (AF5 rfl rfl (fun Bc=>?_) (fun Bc=>?_))
     ·refine ABt (ABr (ACd rfl (ABy (q_t (ABr (ABw (ABp (Wo (ABv ?_)))))))));have hd:=hsh.1;have hfit:=fun i j hi hj=>AZc hstg (by omega) (by omega) (i:=i) (j:=j) hi hj;have q1:=AVn (a:=65535) (b:=34359738368) (x:=F 0 0) (y:=F (i + 1) (j + 1)) ⟨by omega,by omega⟩ (hfit _ _ (by omega) (by omega));have q2:=hsh.2 (i + 1) (by omega) (by omega);have q3:=hsh.2 (j + 1) (by omega) (by omega);rw [<- hstg.sym 0 (j + 1) (by omega) (by omega)] at q3;have q4:=AVn (a:=32768) (b:=32768) (x:=F (i + 1) 0) (y:=F 0 (j + 1)) ⟨by omega,by omega⟩ ⟨by omega,by omega⟩;unfold Abs at q1 q4;refine AQ2 (by kernel_rfl) (Wo (Wo (Aua ACi rfl HQ rfl (Ad7 (by simp)) fun aQ rQ gQ haQ hgQ hrQ=>?_)));refine AB6 AC3 rfl haQ (Wo (Wo (Wo (Wo (AKl rfl (by omega) (ASw ACs rfl (hrR.ext E5) rfl (AL0 (by omega)) fun Cw Bi=>AB6 ACx rfl Bi (AOh rfl rfl (by omega) (by omega) (Wo (ASw (n:=0) ACs rfl (hrR.ext E5) rfl (AL0 (by omega)) fun Cx Bj=>AB6 ACx rfl Bj (Wo (AUs (n:=0) ACi rfl HS_23 rfl (AL3 (by omega)) fun aZ rZ haZ hrZ=>AB6 AC3 rfl haZ (Wo (AKl rfl (by omega) (ASw ACs rfl hrZ rfl (AL0 (by omega)) fun Cy Bl=>AB6 ACx rfl Bl (AOh rfl rfl (by omega) (by omega) (AM9 rfl rfl (by omega) (by omega) (Wo (AWq rfl rfl (by omega) ?_))))))))))))))))));have hnf:=AZc (Ae4 (m:=m - 1) (by rw [show m - 1 + 1=m by omega];exact hstg) (by omega) (by rw [show m - 1 + 1=m by omega];exact hsh)) (by omega) (by omega) (i:=i) (j:=j) (by omega) (by omega);unfold Abs at hnf;rw [show IntKind.i64.wrap ((F 0 0 * F (i + 1) (j + 1) - F (i + 1) 0 * F 0 (j + 1)).tdiv last)=AR0 F last i j from Go.QF.wrap_small (by have:(F 0 0 * F (i + 1) (j + 1) - F (i + 1) 0 * F 0 (j + 1)).tdiv last=AR0 F last i j:=rfl;omega) (by have:(F 0 0 * F (i + 1) (j + 1) - F (i + 1) 0 * F 0 (j + 1)).tdiv last=AR0 F last i j:=rfl;omega)];refine ASt ACs rfl hrQ rfl (by rw [List.length_map,AUv];omega) ?_;refine Apa (AYv (m - 1) (AR0 F last i) (fun _=>0) (j + 1)) ACx rfl rfl HQ hgQ (Ad7 (by simp)) hrQ (by rw [AUv];omega) (Alb (by omega) rfl) fun h6 Bm U6 C0=>?_;have C1:=U6.1;have C2:=Bb.thenUpd U6 (fun k hk=>by have Ah:k=gQ:=hk;omega);have Ap:=E5.thenUpd U6 (fun k hk=>by have Ah:k=gQ:=hk;omega);have HS_30:=HS.ext Ap;have Aq:=Bm;rw [Alh (by simp)] at Aq;refine ACr (q_b (q_t (AB5 (AKl rfl (by omega) (Wo (ABt ?_))))));exact ⟨m - 1 - (j + 1),j + 1,by omega,⟨rfl,by omega,Ap,Aq⟩,rfl,trivial⟩
     ·refine ABt (ABr (ACo rfl (ACh (ACj (ACj (ADo (q_b (q_t (AB5 (AKl rfl (by omega) (Wo (ABt ?_))))))))))));exact ⟨m - 1 - (i + 1),i + 1,by omega,⟨rfl,by omega,E5,gs ++ [g4],by rw [Ala _ _ (by omega)] at HQ;rw [<- Af4];exact HQ⟩,rfl,trivial⟩
    ·refine ABt (ABr (ACo rfl (ACh (ACj (ACj (ADo (q_t (ABr ?_))))))));obtain rfl:i=m - 1:=by omega
     have Ar:AP2 h3 tR tI (Array.size hq) b2 gs v2 (tab (m - 1) (m - 1) (AR0 F last)).length (tab (m - 1) (m - 1) (AR0 F last)):=by rw [ACt];exact HP
     have HN:=Ar.mat;have hcapn:=Ar.cap;have Bn:=Ae4 (m:=m - 1) (by rw [show m - 1 + 1=m by omega];exact hstg) (by omega) (by rw [show m - 1 + 1=m by omega];exact hsh);have hnx:Stg (m - 1) (AR0 F last) (F 0 0) (262144 + 16384 * (M.length - ((m - 1:Nat):Int))):=by rw [show (262144 + 16384 * ((M.length:Int) - ((m - 1:Nat):Int)))=262144 + 16384 * ((M.length:Int) - (m:Int)) + 16384 by omega];exact Bn
     refine AB5 (Wo (AUs (n:=1) ACi rfl HS_11 rfl (AL3 (by omega)) fun C3 C4 Bo Bp=>AB6 AC3 rfl Bo (ASw (n:=0) ACs rfl Bp rfl (AL0 (by omega)) fun C5 Bq=>AB6 ACx rfl Bq (ABv (ABr (ABr ?_))))));have hd:=hsh.1;have hnf:=AZc hnx (by omega) (by omega) (i:=0) (j:=0) (by omega) (by omega);have q5:=AVn (a:=65535) (b:=34359738368) (x:=last) (y:=AR0 F last 0 0) ⟨by omega,by omega⟩ hnf;have q2:=hsh.2 1 (by omega) (by omega);have q6:=AVn (a:=32768) (b:=32768) (x:=F 1 0) (y:=F 1 0) ⟨by omega,by omega⟩ ⟨by omega,by omega⟩;have q7:=AV7 (a:=3 * F 0 0) (b:=F 0 0) (A:=196605) (B:=65535) (by omega) (by omega) (by omega) (by omega);unfold Abs at q5 q6;refine AB5 (Wo (Wo (AUs (n:=0) ACi rfl HN rfl (AL3 (by omega)) fun aN rN haN hrN=>AB6 AC3 rfl haN (ASw (n:=0) ACs rfl hrN rfl (AL0 (by omega)) fun aO haO=>AB6 ACx rfl haO (AOh rfl rfl (by omega) (by omega) (Wo (Wo (AOh rfl rfl (by omega) (by omega) (AZo rfl rfl (by omega) (by omega) (AOh rfl rfl (by omega) (by omega) (Wo (AOh rfl rfl (by omega) (by omega) (Wo (AOh rfl rfl (by omega) (by omega) (AF5 rfl rfl (fun Bu=>?_) (fun Bu=>?_))))))))))))))))
     ·refine ABt (ACd rfl (ABp (ABv (ABx (AB4 (ADe (AB4 (ADe (AB4 (⟨_,ABz,?_⟩))))))))))
      first
        | exact ⟨X9,congrArg Value.bool (show false=isRed M by unfold isRed;rw [show AMe M=false by assumption];rfl)⟩
        | exact ⟨X9,congrArg Value.bool (show false=isRed M by unfold isRed;rw [hred,APm (by omega) (of_decide_eq_false (by assumption)),Bool.and_false])⟩
        | exact ⟨X9,congrArg Value.bool (show false=isRed M by unfold isRed;rw [hred,ATa (by omega) (by unfold AVv;omega),Bool.and_false])⟩
        | (obtain rfl:m=1:=by omega
           first
           | exact ⟨X9,congrArg Value.bool (show true=isRed M by unfold isRed;rw [hred,<- AIl hsm,AQl,decide_eq_true ⟨by omega,by omega⟩];rfl)⟩
           | exact ⟨X9,congrArg Value.bool (show false=isRed M by unfold isRed;rw [hred,AQl,decide_eq_false (by omega),Bool.and_false])⟩)
     ·refine ABt (ACo rfl (ABy (q_t ?_)));have hlov:AVv F last:=by unfold AVv;omega
      have hredn:=Aj0 (last:=last) (by omega) hsh hlov;refine AB5 (Wo (Wo (ACk (ACk (ACr (q_b (q_t ?_)))))));exact ⟨m - 1,(m - 1,v2,F 0 0,AR0 F last),by first | omega | (dsimp only;omega),⟨rfl,X9,by first | omega | (dsimp only;omega),by first | omega | (dsimp only;omega),HN,hcapn,hnx,by rw [hred,hredn]⟩,rfl,rfl,trivial⟩
  ·refine ABt (ACo rfl (ACh (ACj (ACj (ADo (q_t (ABp (Wo (AUs (n:=0) ACi rfl HS rfl (AL3 (by omega)) fun C7 C8 Bv Bw=>AB6 AC3 rfl Bv (ASw (n:=0) ACs rfl Bw rfl (AL0 (by omega)) fun C9 Bx=>AB6 ACx rfl Bx (AQ4 rfl rfl (fun By=>?_) (fun By=>?_))))))))))))
   ·refine Wo (ADn 110 true (by kernel_rfl) rfl rfl (Wo (ADn 110 true (by kernel_rfl) rfl rfl (AUs (n:=0) ACi rfl HS rfl (AL3 (by omega)) fun Da Db Bz B1=>ADn 110 true (by kernel_rfl) rfl rfl (AB6 AC3 rfl Bz (ADn 110 true (by kernel_rfl) rfl rfl (ASw (n:=0) ACs rfl B1 rfl (AL0 (by omega)) fun Dc B3=>ADn 110 true (by kernel_rfl) rfl rfl (AB6 ACx rfl B3 (ADn 110 true (by kernel_rfl) rfl rfl (ASu rfl rfl (fun B4=>?_) (fun B4=>?_)))))))))))
    ·refine AB2 rfl (ABv (ABx (⟨_,ABz,?_⟩)))
     first
       | exact ⟨XQ,congrArg Value.bool (show false=isRed M by unfold isRed;rw [show AMe M=false by assumption];rfl)⟩
       | exact ⟨XQ,congrArg Value.bool (show false=isRed M by unfold isRed;rw [hred,APm (by omega) (of_decide_eq_false (by assumption)),Bool.and_false])⟩
       | exact ⟨XQ,congrArg Value.bool (show false=isRed M by unfold isRed;rw [hred,ATa (by omega) (by unfold AVv;omega),Bool.and_false])⟩
       | (obtain rfl:m=1:=by omega
          first
          | exact ⟨XQ,congrArg Value.bool (show true=isRed M by unfold isRed;rw [hred,<- AIl hsm,AQl,decide_eq_true ⟨by omega,by omega⟩];rfl)⟩
          | exact ⟨XQ,congrArg Value.bool (show false=isRed M by unfold isRed;rw [hred,AQl,decide_eq_false (by omega),Bool.and_false])⟩)
    ·refine AB2 rfl (ABv (ABx (⟨_,ABz,?_⟩)))
     first
       | exact ⟨XQ,congrArg Value.bool (show false=isRed M by unfold isRed;rw [show AMe M=false by assumption];rfl)⟩
       | exact ⟨XQ,congrArg Value.bool (show false=isRed M by unfold isRed;rw [hred,APm (by omega) (of_decide_eq_false (by assumption)),Bool.and_false])⟩
       | exact ⟨XQ,congrArg Value.bool (show false=isRed M by unfold isRed;rw [hred,ATa (by omega) (by unfold AVv;omega),Bool.and_false])⟩
       | (obtain rfl:m=1:=by omega
          first
          | exact ⟨XQ,congrArg Value.bool (show true=isRed M by unfold isRed;rw [hred,<- AIl hsm,AQl,decide_eq_true ⟨by omega,by omega⟩];rfl)⟩
          | exact ⟨XQ,congrArg Value.bool (show false=isRed M by unfold isRed;rw [hred,AQl,decide_eq_false (by omega),Bool.and_false])⟩)
   ·refine Wo (ADd 110 false (by kernel_rfl) rfl rfl (ADd 110 false (by kernel_rfl) rfl rfl (ADd 110 false (by kernel_rfl) rfl rfl (ADd 110 false (by kernel_rfl) rfl rfl (ADd 110 false (by kernel_rfl) rfl rfl (ADd 110 false (by kernel_rfl) rfl rfl (AB0 rfl (ABv (ABx (⟨_,ABz,?_⟩))))))))))
    first
      | exact ⟨XQ,congrArg Value.bool (show false=isRed M by unfold isRed;rw [show AMe M=false by assumption];rfl)⟩
      | exact ⟨XQ,congrArg Value.bool (show false=isRed M by unfold isRed;rw [hred,APm (by omega) (of_decide_eq_false (by assumption)),Bool.and_false])⟩
      | exact ⟨XQ,congrArg Value.bool (show false=isRed M by unfold isRed;rw [hred,ATa (by omega) (by unfold AVv;omega),Bool.and_false])⟩
      | (obtain rfl:m=1:=by omega
         first
         | exact ⟨XQ,congrArg Value.bool (show true=isRed M by unfold isRed;rw [hred,<- AIl hsm,AQl,decide_eq_true ⟨by omega,by omega⟩];rfl)⟩
         | exact ⟨XQ,congrArg Value.bool (show false=isRed M by unfold isRed;rw [hred,AQl,decide_eq_false (by omega),Bool.and_false])⟩)
end Go.Proofs.YtdnbklmefmoofaaGreatDoor
namespace Go.Proofs.YtdnbklmefmoofaaGreatDoor
open Go Go.QF
set_option maxRecDepth 100000
open Classical in
noncomputable def AYz (p:Int):Bool:=decide (2 < p/\p<=9973/\Pr p)
theorem AWg {p:Int} (h:2 < p/\p<=9973/\Pr p):true=AYz p:=by simp [AYz,h]
theorem APb {p:Int} (h: ¬ (2 < p/\p<=9973/\Pr p)):false=AYz p:=by simp [AYz,h]
theorem prB {p:Int} {b:Bool} (h:ALj p=b) (hp:p<=9973):b=true↔Pr p:=by
 subst h;constructor
 ·intro h;exact (Ajc h).2
 ·intro h;exact (AWt (by omega) h).symm
theorem Aqh (p:Int) {h:ABu} (HO:AVs h):ACn Tryz.prog 27 #[.int .i64 p] h fun v h'=>h'=h/\v= .bool (AYz p):=by
 refine AC5 (l:=[_]) mx Tryz.func27 rfl rfl rfl rfl rfl (by kernel_rfl) (ABp (AC1 (Wo (AQ4 rfl rfl (fun Aa=>?_) (fun Aa=>?_)))))
 ·refine Wo (ADn 5 true (by kernel_rfl) rfl rfl (Wo (ADn 5 true (by kernel_rfl) rfl rfl (ASu rfl rfl (fun Ab=>?_) (fun Ab=>?_)))))
  ·refine AB2 rfl (Wo (ADn 9 true (by kernel_rfl) rfl rfl (Wo (ADn 9 true (by kernel_rfl) rfl rfl (ACl trivial rfl (Ard p HO) fun x1 h hk=>?_)))));obtain ⟨rfl,rfl⟩:=hk;refine ⟨trivial,?_⟩;cases Ad:ALj p
   ·refine AB2 rfl (ABv (ABx (⟨_,ABz,?_⟩)))
    first
    | exact ⟨rfl,congrArg Value.bool (APb (fun hh=>by have:=hh.1;have:=hh.2.1;omega))⟩
    | (have hq:=(prB (by assumption:ALj p=_) (by omega));first | exact ⟨rfl,congrArg Value.bool (AWg ⟨by first | omega | (have:=(hq.1 rfl).1;omega),by omega,hq.1 rfl⟩)⟩ | exact ⟨rfl,congrArg Value.bool (APb (fun hh=>by have:=hq.2 hh.2.2;cases this))⟩)
   ·refine AB2 rfl (ABv (ABx (⟨_,ABz,?_⟩)))
    first
    | exact ⟨rfl,congrArg Value.bool (APb (fun hh=>by have:=hh.1;have:=hh.2.1;omega))⟩
    | (have hq:=(prB (by assumption:ALj p=_) (by omega));first | exact ⟨rfl,congrArg Value.bool (AWg ⟨by first | omega | (have:=(hq.1 rfl).1;omega),by omega,hq.1 rfl⟩)⟩ | exact ⟨rfl,congrArg Value.bool (APb (fun hh=>by have:=hq.2 hh.2.2;cases this))⟩)
  ·refine AB2 rfl (Wo (ADd 9 false (by kernel_rfl) rfl rfl (ADd 9 false (by kernel_rfl) rfl rfl (AB0 rfl (ABv (ABx (⟨_,ABz,?_⟩)))))))
   first
   | exact ⟨rfl,congrArg Value.bool (APb (fun hh=>by have:=hh.1;have:=hh.2.1;omega))⟩
   | (have hq:=(prB (by assumption:ALj p=_) (by omega));first | exact ⟨rfl,congrArg Value.bool (AWg ⟨by first | omega | (have:=(hq.1 rfl).1;omega),by omega,hq.1 rfl⟩)⟩ | exact ⟨rfl,congrArg Value.bool (APb (fun hh=>by have:=hq.2 hh.2.2;cases this))⟩)
 ·refine Wo (ADd 5 false (by kernel_rfl) rfl rfl (ADd 5 false (by kernel_rfl) rfl rfl (AB0 rfl (Wo (ADd 9 false (by kernel_rfl) rfl rfl (ADd 9 false (by kernel_rfl) rfl rfl (AB0 rfl (ABv (ABx (⟨_,ABz,?_⟩))))))))))
  first
  | exact ⟨rfl,congrArg Value.bool (APb (fun hh=>by have:=hh.1;have:=hh.2.1;omega))⟩
  | (have hq:=(prB (by assumption:ALj p=_) (by omega));first | exact ⟨rfl,congrArg Value.bool (AWg ⟨by first | omega | (have:=(hq.1 rfl).1;omega),by omega,hq.1 rfl⟩)⟩ | exact ⟨rfl,congrArg Value.bool (APb (fun hh=>by have:=hq.2 hh.2.2;cases this))⟩)
open Classical in
noncomputable def AG5 (p:Int):Bool:=decide (p<=9973/\Pr p)
theorem Small_ok (p:Int) (h:ABu):ACn Tryz.prog 68 #[.int .i64 p] h fun v h'=>h'=h/\v= .bool (AG5 p):=by
 refine AC5 (l:=[_]) mx Tryz.func68 rfl rfl rfl rfl rfl (by kernel_rfl) (ABp (AC1 (Wo (ASu rfl rfl (fun Aa=>?_) (fun Aa=>?_)))))
 ·refine Wo (ADn 5 true (by kernel_rfl) rfl rfl (Wo (ADn 5 true (by kernel_rfl) rfl rfl (ACl trivial rfl (Ald p _) fun x1 h hk=>?_))));obtain ⟨rfl,rfl⟩:=hk;refine ⟨trivial,?_⟩;cases Ac:ALj p
  ·refine AB2 rfl (ABv (ABx (⟨_,ABz,?_⟩)))
   first
   | exact ⟨rfl,congrArg Value.bool (show false=AG5 p by simp [AG5];intro hh;omega)⟩
   | (have hq:=(prB (by assumption:ALj p=_) (by omega));first | exact ⟨rfl,congrArg Value.bool (show true=AG5 p by simp [AG5];exact ⟨by omega,hq.1 rfl⟩)⟩ | exact ⟨rfl,congrArg Value.bool (show false=AG5 p by simp [AG5];intro _ hh;have:=hq.2 hh;cases this)⟩)
  ·refine AB2 rfl (ABv (ABx (⟨_,ABz,?_⟩)))
   first
   | exact ⟨rfl,congrArg Value.bool (show false=AG5 p by simp [AG5];intro hh;omega)⟩
   | (have hq:=(prB (by assumption:ALj p=_) (by omega));first | exact ⟨rfl,congrArg Value.bool (show true=AG5 p by simp [AG5];exact ⟨by omega,hq.1 rfl⟩)⟩ | exact ⟨rfl,congrArg Value.bool (show false=AG5 p by simp [AG5];intro _ hh;have:=hq.2 hh;cases this)⟩)
 ·refine Wo (ADd 5 false (by kernel_rfl) rfl rfl (ADd 5 false (by kernel_rfl) rfl rfl (AB0 rfl (ABv (ABx (⟨_,ABz,?_⟩))))))
  first
  | exact ⟨rfl,congrArg Value.bool (show false=AG5 p by simp [AG5];intro hh;omega)⟩
  | (have hq:=(prB (by assumption:ALj p=_) (by omega));first | exact ⟨rfl,congrArg Value.bool (show true=AG5 p by simp [AG5];exact ⟨by omega,hq.1 rfl⟩)⟩ | exact ⟨rfl,congrArg Value.bool (show false=AG5 p by simp [AG5];intro _ hh;have:=hq.2 hh;cases this)⟩)
theorem Aj1 (p:Int) (h:ABu):ACn Tryz.prog 31 #[.int .i64 p] h fun v h'=>h'=h/\v= .bool (AYz p):=by
 refine AC5 (l:=[_]) mx Tryz.func31 rfl rfl rfl rfl rfl (by kernel_rfl) (ABp (AC1 (Wo (Abh rfl rfl (fun Ab=>?_) (fun Ab=>?_)))))
 ·refine Wo (ADn 5 true (by kernel_rfl) rfl rfl (Wo (ADn 5 true (by kernel_rfl) rfl rfl (ACl trivial rfl (Small_ok p _) fun x1 h hk=>?_))));obtain ⟨rfl,rfl⟩:=hk;refine ⟨trivial,?_⟩;cases Ad:AG5 p
  ·refine AB2 rfl (ABv (ABx (⟨_,ABz,?_⟩)))
   first
   | (have hq:AG5 p=true:=by assumption
      have Aa:p<=9973/\Pr p:=by simpa [AG5] using hq
      exact ⟨rfl,congrArg Value.bool (AWg ⟨by have:=Aa.2.1;omega,Aa⟩)⟩)
   | (have hq:AG5 p=false:=by assumption
      exact ⟨rfl,congrArg Value.bool (APb (fun hh=>by
        have Aa: ¬ (p<=9973/\Pr p):=by simpa [AG5] using hq
        exact Aa hh.2))⟩)
   | exact ⟨rfl,congrArg Value.bool (APb (fun hh=>by have:=hh.1;omega))⟩
  ·refine AB2 rfl (ABv (ABx (⟨_,ABz,?_⟩)))
   first
   | (have hq:AG5 p=true:=by assumption
      have Aa:p<=9973/\Pr p:=by simpa [AG5] using hq
      exact ⟨rfl,congrArg Value.bool (AWg ⟨by have:=Aa.2.1;omega,Aa⟩)⟩)
   | (have hq:AG5 p=false:=by assumption
      exact ⟨rfl,congrArg Value.bool (APb (fun hh=>by
        have Aa: ¬ (p<=9973/\Pr p):=by simpa [AG5] using hq
        exact Aa hh.2))⟩)
   | exact ⟨rfl,congrArg Value.bool (APb (fun hh=>by have:=hh.1;omega))⟩
 ·refine Wo (ADd 5 false (by kernel_rfl) rfl rfl (ADd 5 false (by kernel_rfl) rfl rfl (AB0 rfl (ABv (ABx (⟨_,ABz,?_⟩))))))
  first
  | (have hq:AG5 p=true:=by assumption
     have Aa:p<=9973/\Pr p:=by simpa [AG5] using hq
     exact ⟨rfl,congrArg Value.bool (AWg ⟨by have:=Aa.2.1;omega,Aa⟩)⟩)
  | (have hq:AG5 p=false:=by assumption
     exact ⟨rfl,congrArg Value.bool (APb (fun hh=>by
       have Aa: ¬ (p<=9973/\Pr p):=by simpa [AG5] using hq
       exact Aa hh.2))⟩)
  | exact ⟨rfl,congrArg Value.bool (APb (fun hh=>by have:=hh.1;omega))⟩
end Go.Proofs.YtdnbklmefmoofaaGreatDoor
namespace Go.QF
open Go
structure Blk where
  exp:Int
  size:Int
  a:Int
  b:Int
  c:Int
deriving DecidableEq
def Auk (b:Blk):List Value:=[.int .i64 b.exp,.int .i64 b.size,.int .i64 b.a,.int .i64 b.b,.int .i64 b.c]
def I64 (x:Int):Prop:= -9223372036854775808<=x/\x<=9223372036854775807
def Blk.I (b:Blk):Prop:=I64 b.exp/\I64 b.size/\I64 b.a/\I64 b.b/\I64 b.c
end Go.QF
namespace Go.Proofs.YtdnbklmefmoofaaGreatDoor
open Go Go.QF
noncomputable def ATb (fuel:Nat) (M:List (List Int)):Option Bool:=some (isRed M)
theorem Aao {fuel:Nat} {h:ABu} {v:Value} {M:List (List Int)} {r:Bool} (H:AEq (cI .i64) h v M) (hp:ATb fuel M=some r):ACn Tryz.prog 20 #[v] h (fun x h'=>Ext h h'/\x= .bool r):=by
 cases hp;exact Adf (Asy H) H.1
noncomputable def Ae5 (fuel:Nat) (n:Int):Option Bool:=some (ALj n)
theorem Aj2 {fuel:Nat} {h:ABu} {n:Int} {r:Bool} (HO:AVs h) (hp:Ae5 fuel n=some r):ACn Tryz.prog 63 #[.int .i64 n] h (fun x h'=>Ext h h'/\x= .bool r):=by
 cases hp;exact (Ard n HO).mono fun x h' ⟨he,hx⟩=>⟨he ▸ Ext.refl _,hx⟩
noncomputable def APn (fuel:Nat) (n:Int):Option Bool:=some (AYz n)
theorem AU5 {fuel:Nat} {h:ABu} {n:Int} {r:Bool} (HO:AVs h) (hp:APn fuel n=some r):ACn Tryz.prog 27 #[.int .i64 n] h (fun x h'=>Ext h h'/\x= .bool r):=by
 cases hp;exact (Aqh n HO).mono fun x h' ⟨he,hx⟩=>⟨he ▸ Ext.refl _,hx⟩
noncomputable def Adg (fuel:Nat) (n:Int):Option Bool:=some (AYz n)
theorem Anl {fuel:Nat} {h:ABu} {n:Int} {r:Bool} (hp:Adg fuel n=some r):ACn Tryz.prog 31 #[.int .i64 n] h (fun x h'=>Ext h h'/\x= .bool r):=by
 cases hp;exact (Aj1 n h).mono fun x h' ⟨he,hx⟩=>⟨he ▸ Ext.refl _,hx⟩
end Go.Proofs.YtdnbklmefmoofaaGreatDoor
namespace Go.Proofs.YtdnbklmefmoofaaGreatDoor
open Go Go.QF
set_option maxRecDepth 100000
set_option maxHeartbeats 4000000
noncomputable def ANh (fuel:Nat) (Ad:LiA) (Aa Ab Ac:Int):Option ((Int × Int × Int) ⊕ ((Int × Int))):=
  (if 0<=Aa then ((gI Ad Aa).bind fun Ae=>(if 0<=Aa/\Aa<=64 then ((((AU2 fuel Ab Ae).bind fun (Af,Ag,Ak)=>((Aaj fuel Ag).bind fun Ah=>(if ¬ Ah=0 then (some ( (false,Ab,Ac))) else (some ( (true,Af,(w64 (Ac + (w64 (1 * 2 ^ Int.toNat Aa)))))))))):Option (Bool × Int × Int)).bind fun (Am,Ai,Aj)=>(some (Sum.inl ((w64 (Aa - 1)),Ai,Aj)))) else none)) else (some (Sum.inr<| (Ab,Ac))))
noncomputable def ANi (fuel:Nat) (Aa:LiA) (Ac Ad:Int):Option ((LiA × Int × Int) ⊕ ((LiA × Int × Int))):=
  ((gI Aa (w64 ((Aa.length:Int) - 1))).bind fun Ab=>(if 0<=(w64 ((Aa.length:Int) - 1))/\(w64 ((Aa.length:Int) - 1))<=64 then ((((AU2 fuel Ac Ab).bind fun (Ag,Ah,Am)=>((Aaj fuel Ah).bind fun Ai=>(if ¬ Ai=0 then (some ( (false,Ac,Ad))) else (some ( (true,Ag,(w64 (Ad + (w64 (1 * 2 ^ Int.toNat (w64 ((Aa.length:Int) - 1)))))))))))):Option (Bool × Int × Int)).bind fun (Aj,Ae,Af)=>(if Aj=true then ((Aih fuel Ab Ab).bind fun Ak=>(if Aa.length<=100000000 then (some (Sum.inl ((Aa ++ [Ak]),Ae,Af))) else none)) else (some (Sum.inr<| (Aa,Ae,Af))))) else none))
noncomputable def AKt (fuel:Nat) (a1 a5:Int):Option (Int × Int × Int):=
  ((Ae5 fuel a5).bind fun Ad=>(if (!Ad)=true then (some (0,0,20)) else ((Aaj fuel a1).bind fun Ae=>(if Ae=0 then (some (0,0,1)) else ((AU3 fuel a1).bind fun Af=>((AZa fuel a5).bind fun Ag=>((iter (fun s=>ANi fuel s.1 s.2.1 s.2.2) fuel ([Ag],Af,0)).bind (fun ((Ac,Ah,Ai):LiA × Int × Int)=>((iter (fun s=>ANh fuel Ac s.1 s.2.1 s.2.2) fuel ((w64 ((Ac.length:Int) - 2)),Ah,Ai)).bind (fun ((Aj,Ak):Int × Int)=>(some (Ak,Aj,0))))))))))))
theorem AU6 {fuel:Nat} {h:ABu} {B3:Value} {a1 a5:Int} {r:(Int × Int × Int)} (H3:ZZ h B3 a1) (HO:AVs h) (hp:AKt fuel a1 a5=some r):ACn Tryz.prog 67 #[B3,(.int .i64 a5)] h (fun x h'=>Ext h h'/\ ∃ (x1:Value),x= .tuple #[.int .i64 r.1,x1,.int .i64 r.2.2]/\ZZ h' x1 r.2.1):=by
 unfold AKt at hp;obtain ⟨Bc,rfl,Ap⟩:=H3.cs;refine cwf (l:=[_,_]) Tryz.func67 rfl rfl (ABp (AGo Bc trivial tt2 rfl rfl fun b6 h7 V8 E9 C2=>ACk (ADi [.bool false,.slice none 0 0] AGk rfl trivial tt2 fun Ix Iy C3 C4 C5=>ABv (ABr (ABp (Wo ?_))))));have B7:=((Kst.k0 h).nb E9 C2 V8).nb C4 C5 C3;obtain ⟨Iz,C6,B8⟩:=ABq hp;refine ADb rfl (Aj2 (HO.ext B7.x) C6) fun I0 Be C7 C8=>?_;subst C8;refine AE1 rfl (ABt ?_);have Ag:=B7.e C7;refine ⟨_,rfl,fun Bf=>?_,fun Bf=>?_⟩
 ·refine ABp (AF6 (AO6 ) (ACk (AC7 [Value.bool false,Value.slice none 0 0] ACf (cZ.klen (AB9 Be)) (cZ.klen (AB9 Be)) rfl rfl (cZ.one (AB9 Be)) (Ag.b p0) fun B9 C9 Da=>ABv (ABx (AB4 ?_)))));have Ca:=Ag.sb p0 Da C9 rfl;obtain rfl:=ABo (ifT B8 Bf);exact ⟨_,Aaa ACf (cZ.klen (AB9 B9)) rfl (Ca.b p0),Ca.x,_,rfl,(AB9 B9).2⟩
 ·refine ABy (q_t (ABr (ABp (AEu Bc ACf (cZ.klen (Ag.zx Ap)) rfl (Ag.b p1).agg ?_))));obtain ⟨I1,Db,Cb⟩:=ABq (AH8 B8 Bf);refine ADb rfl (AZb (Ag.zx Ap).2 Db) fun I2 Bg Dc Dd=>?_;subst Dd;refine AD8 rfl rfl (ABt ?_);have Ah:=Ag.e Dc;refine ⟨_,rfl,fun Bh=>?_,fun Bh=>?_⟩
  ·refine ABp (AF6 (AO6 ) (ACk (AC7 [Value.bool false,Value.slice none 0 0] ACf (cZ.klen (AB9 Bg)) (cZ.klen (AB9 Bg)) rfl rfl (cZ.one (AB9 Bg)) (Ah.b p0) fun Cd De Df=>ABv (ABx (AB4 ?_)))));have Ce:=Ah.sb p0 Df De rfl;obtain rfl:=ABo (AC8 Cb Bh);exact ⟨_,Aaa ACf (cZ.klen (AB9 Cd)) rfl (Ce.b p0),Ce.x,_,rfl,(AB9 Cd).2⟩
  ·refine ABy (q_t (ABp (AEu Bc ACf (cZ.klen (Ah.zx Ap)) rfl (Ah.b p1).agg ?_)));obtain ⟨Dg,Dh,Di⟩:=ABq (AC9 Cb Bh);refine ADb rfl (AXe (Ah.zx Ap).2 Dh) fun I3 I5 Dj Dk=>?_;obtain ⟨I6,rfl,Dl⟩:=Dk;obtain ⟨Cf,rfl,Dn⟩:=Dl.cs;refine ADi [.bool false,.slice none 0 0] AGk rfl trivial tt2 fun Ai Do Dp Dq Dr=>?_;have Aq:=((Ah.e Dj).az Dn).nb Dq Dr Dp;refine AC7 Cf ACf (cZ.klen (Aq.z p1)) (cZ.klen (AB9 Do)) rfl rfl (cZ.one (Aq.z p1)) (Aq.b p0) fun I7 Ds Dt=>AK0 (ADi [(.int .i64 0)] AV9 rfl trivial tt2 fun Aj I9 Du Dv Dw=>?_);have Cg:=(Aq.sb p0 Dt Ds rfl).nb Dv Dw Du;refine AUb [(.int .i64 0)] ADs rfl rfl rfl (Cg.b p0) (Nat.le_of_ble_eq_true rfl) rfl fun Ja Dx Dy=>AK0 (Ar0 rfl (AC1 (Wo ?_)));obtain ⟨Dz,D0,D1⟩:=ABq Di;refine ADb rfl (Aak D0) fun Jc Je D2 D3=>?_;obtain ⟨Jf,rfl,D4⟩:=D3;obtain ⟨Jg,rfl,D5⟩:=D4.cs;have Ch:=((Cg.sb p0 Dy Dx rfl).e D2).az D5;refine Asl AEv AGk rfl trivial tt2 (Ch.z p0) rfl fun D6 D7 Jh D8 D9 Ea Eb=>ABv (ABr (ABw ?_));obtain ⟨Ci,Ec,Ed⟩:=ABq D1;obtain ⟨Ee,Ef,Eg⟩:=ACe Ec;have Bi:=(Ch.no D9 (AIj Ea Eb) D8).sel [0,2,3,4,5] (by decide);dsimp only [AI3,AMm] at Bi;refine ACq 2251799679470592 (fun x:(LiA) × (Value) × LnA × (Int) × LvA × (Int)=>[(10,x.2.1)]) (fun k x h'=>iter Ee k (x.1,x.2.2.2.1,x.2.2.2.2.2)=some Ci/\Kst h h' ((((Bi.L.set 0 (aO cZ 90 x.2.2.1 x.2.1 x.1)).set 3 (aZ x.2.2.2.2.1 x.2.2.2.1)).set 2 (aB 90 Ai x.2.2.2.2.1)).set 1 (aB 3 Aj [(.int .i64 x.2.2.2.2.2)]))) (by kernel_rfl) fuel (([Dz],D7,[D6],Dg,Cf,0):(LiA) × (Value) × LnA × (Int) × LvA × (Int)) ?_ ⟨rfl,trivial⟩ ?_
   ·exact ⟨Eg,Bi⟩
   rintro Ji ⟨Am,Jj,Jk,Eh,Cj,Bj⟩ Jl Jm ⟨Ei,Ar⟩;obtain ⟨Ej,Jn,rfl,Au,Bl⟩:=AB7 Ei;rw [Ef] at Au;dsimp only at Au;unfold ANi at Au;refine ABr (ABr (AKm (Wo (Wo (Wo (ADh AEv rfl (Ar.o p0).rd (AIf rfl rfl ?_)))))));obtain ⟨Jo,Av,Ek⟩:=ABq Au;refine AYl AEv rfl (Ar.o p0) rfl Av fun Jp El=>?_;obtain ⟨Bm,Em,En⟩:=(Ar.o p0).cells El Av;have Aw:=Ar.az Em;refine AOl (c:=cZ) ACf rfl (Aw.z p0) (fun j u hu=>(En j u hu)) (Wo (ADh AEv rfl (Aw.o p1).rd (AIf rfl rfl ?_)));obtain ⟨Eo,Ep⟩:=ifN Ek;refine Ami rfl rfl Eo ?_;obtain ⟨Er,Es,Ck⟩:=ABq Ep;refine AY0 (l:=[(.agg (Bm).toArray),(.int .i64 (w64 (1 * 2 ^ Int.toNat (w64 ((Am.length:Int) - 1)))))]) (cl:=[(.pointer (some ⟨Ai,0,none⟩)),(.pointer (some ⟨Aj,0,none⟩))]) (K':=(fun xr h'=> ∃ x:(Bool) × (Int) × LvA × (Int),(x.1,x.2.1,x.2.2.2)=Er/\xr=(.bool x.1)/\Kst h h' (((Aw.L.set 4 (aZ x.2.2.1 x.2.1)).set 3 (aB 90 Ai x.2.2.1)).set 2 (aB 3 Aj [(.int .i64 x.2.2.2)])))) trivial rfl rfl ?_ fun Jq Jr Et=>?_
   ·refine cwf (l:=[_,_,_,_]) Tryz.func118 rfl rfl (ABp (AGo Bm trivial tt2 rfl rfl fun Js Jt Eu Ev Ew=>AC1 ?_));have Ad:=Aw.nb Ev Ew Eu;refine AEu Cj ACf (cZ.klen (Ad.z p5)) rfl (Ad.b p4).agg (AEu Bm ACf (cZ.klen (Ad.z p1)) rfl (Ad.b p0).agg ?_);obtain ⟨⟨Ey,Ju,Jv⟩,Ez,Cm⟩:=ABq Es;dsimp only at Cm;refine ADb rfl (AYa (Ad.z p5).2 (Ad.z p1).2 Ez) fun Jw Jx Fa Fb=>?_;obtain ⟨Jy,Jz,rfl,Fc,Fd⟩:=Fb;obtain ⟨Ax,rfl,Fe⟩:=Fc.cs;obtain ⟨Cn,rfl,Ff⟩:=Fd.cs;refine Wo (ADm rfl rfl (ADm rfl rfl (ADm rfl rfl (ADi [.bool false,.slice none 0 0] AGk rfl trivial tt2 fun J0 J1 Fg Fh Fi=>ADi [.bool false,.slice none 0 0] AGk rfl trivial tt2 fun J2 Fj Fk Fl Fm=>?_))));have Ay:=((((Ad.e Fa).az Fe).az Ff).nb Fh Fi Fg).nb Fl Fm Fk;refine AC7 Ax ACf (cZ.klen (Ay.z p3)) (cZ.klen (AB9 Fj)) rfl rfl (cZ.one (Ay.z p3)) (Ay.b p1) fun Fo Fp Fq=>?_;have Az:=Ay.sb p1 Fq Fp rfl;refine AC7 Cn ACf (cZ.klen (Az.z p2)) (cZ.klen (AB9 Fo)) rfl rfl (cZ.one (Az.z p2)) (Az.b p0) fun J3 Fr Ft=>ABv (ABr (ABp ?_));have A3:=Az.sb p0 Ft Fr rfl;refine AEu Cn ACf (cZ.klen (A3.z p2)) rfl (A3.b p0).agg ?_;obtain ⟨J4,Fu,Co⟩:=ABq Cm;refine ADb rfl (AZb (A3.z p2).2 Fu) fun J5 J6 Fv Fw=>?_;subst Fw;refine AEn rfl rfl (ABt ?_);have Ab:=A3.e Fv;refine ⟨_,rfl,fun Bn=>?_,fun Bn=>?_⟩
    ·refine ABp (ABv (ABx (AB4 (⟨_,ABz,((false,Eh,Cj,Bj):(Bool) × (Int) × LvA × (Int)),?_,rfl,?_⟩))))
     ·exact ABo (AC8 Co Bn)
     ·exact Ab.sel [5,6,7,8,9,10] (by decide)
    ·refine ABy (q_t (ABp (AEu Ax ACf (cZ.klen (Ab.z p3)) rfl (Ab.b p1).agg (AC7 Ax ACf (cZ.klen (Ab.z p3)) (cZ.klen (Ab.z p9)) rfl rfl (cZ.one (Ab.z p3)) (Ab.b p8) fun J7 Fx Fy=>AK0 ?_))));have Bo:=Ab.sb p8 Fy Fx rfl;refine AB6 ADs rfl ((Bo.b p7).cell (i:=0) rfl) (Wo (ACz rfl rfl (AUb [(.int .i64 (w64 (Bj + (w64 (1 * 2 ^ Int.toNat (w64 ((Am.length:Int) - 1)))))))] ADs rfl rfl rfl (Bo.b p7) (Nat.le_of_ble_eq_true rfl) rfl fun J8 Fz F4=>AK0 (ABv (ABx (⟨_,ABz,((true,Ey,Ax,(w64 (Bj + (w64 (1 * 2 ^ Int.toNat (w64 ((Am.length:Int) - 1))))))):(Bool) × (Int) × LvA × (Int)),?_,rfl,?_⟩))))))
     ·exact ABo (AC9 Co Bn)
     ·exact (Bo.sb p7 F4 Fz rfl).sel [5,6,7,8,3,10] (by decide)
   obtain ⟨⟨J9,Cp,Cq,Cr⟩,F5,rfl,Ak⟩:=Et;refine ⟨trivial,?_⟩;subst F5;refine ABt (⟨_,rfl,fun Bp=>?_,fun Bp=>?_⟩)
   ·refine ABy (q_t (ABw (ABp (Wo (Wo (ADh AEv rfl (Ak.o p1).rd (AIf rfl rfl (AYl AEv rfl (Ak.o p1) rfl Av fun Ka F6=>?_))))))));obtain ⟨Bq,F7,F8⟩:=(Ak.o p1).cells F6 Av;have Ct:=Ak.az F7;refine AOl (c:=cZ) ACf rfl (Ct.z p0) (fun j u hu=>(F8 j u hu)) (ADi [.bool false,.slice none 0 0] AGk rfl trivial tt2 fun Kb F9 Ga Gb Gc=>?_);have A4:=Ct.nb Gb Gc Ga;refine AC7 Bq ACf (cZ.klen (A4.z p1)) (cZ.klen (AB9 F9)) rfl rfl (cZ.one (A4.z p1)) (A4.b p0) fun Kc Gd Ge=>ABt (AB5 (Wo ?_));have Ae:=A4.sb p0 Ge Gd rfl;refine AEu Bq ACf (cZ.klen (Ae.z p1)) rfl (Ae.b p0).agg (AEu Bq ACf (cZ.klen (Ae.z p1)) rfl (Ae.b p0).agg ?_);obtain ⟨Gf,Gg,Gh⟩:=ABq (ifT Ck Bp);refine ADb rfl (Agy (Ae.z p1).2 (Ae.z p1).2 Gg) fun Kd Ke Gi Gj=>?_;obtain ⟨Kf,rfl,Gk⟩:=Gj;obtain ⟨Kg,rfl,Gl⟩:=Gk.cs;have Br:=(Ae.e Gi).az Gl;obtain ⟨Gm,Gn⟩:=ifN Gh;refine AM2 AEv AGk rfl rfl trivial tt2 (fun _=>rfl) rfl (Br.z p0) (Br.o p4) (by decide) Gm fun Kh Gp Gq Ki Gr Gt Gu=>ACk (ACr (q_b (q_t ?_)));obtain rfl:=ABo Gn;exact ⟨Ej,(((Am ++ [Gf]),Gq,Gp,Cp,Cq,Cr):(LiA) × (Value) × LnA × (Int) × LvA × (Int)),Nat.lt_succ_self _,⟨Bl,(Br.uo p4 Gt Gr Gu).sel [4,5,6,7,8] (by decide)⟩,rfl,trivial⟩
   ·obtain rfl:=ABo (AH8 Ck Bp);change _=Ci at Bl;subst Bl;refine ACh (ACj (ACj (ADo (q_t (ABr (ABp (Wo (ADh AEv rfl (Ak.o p1).rd (AIf rfl rfl (ABv (ABw ?_)))))))))));obtain ⟨Cu,Gv,Gw⟩:=ABq Ed;obtain ⟨Gx,Gy,Gz⟩:=ACe Gv;have Bt:=Ak.sel [1,2,3,4,5] (by decide);dsimp only [AI3,AMm] at Bt;refine ACq 73768961896328728576 (fun x:(Int) × (Int) × LvA × (Int)=>[(12,(.int .i64 x.1))]) (fun k x h'=>iter Gx k (x.1,x.2.1,x.2.2.2)=some Cu/\Kst h h' (((Bt.L.set 3 (aZ x.2.2.1 x.2.1)).set 2 (aB 90 Ai x.2.2.1)).set 1 (aB 3 Aj [(.int .i64 x.2.2.2)]))) (by kernel_rfl) fuel (((w64 ((Am.length:Int) - 2)),Cp,Cq,Cr):(Int) × (Int) × LvA × (Int)) ?_ ⟨rfl,trivial⟩ ?_
    ·exact ⟨Gz,Bt⟩
    rintro Kj ⟨A5,G3,A6,Bu⟩ Kk G4 ⟨G5,Aa⟩;obtain ⟨G6,Kl,rfl,Ao,Bv⟩:=AB7 G5;rw [Gy] at Ao;dsimp only at Ao;unfold ANh at Ao;refine ABr (ABp (Wo (ANd rfl rfl (ABt (⟨_,rfl,fun Bw=>?_,fun Bw=>?_⟩)))))
    ·refine ABy (q_t (ABr (ABw (AKm (Wo (Wo (Wo ?_)))))));obtain ⟨Km,Cv,G7⟩:=ABq (AC8 Ao Bw);refine AYl AEv rfl (Aa.o p0) rfl Cv fun Kn G8=>?_;obtain ⟨Bx,G9,Hb⟩:=(Aa.o p0).cells G8 Cv;have By:=Aa.az G9;refine AOl (c:=cZ) ACf rfl (By.z p0) (fun j u hu=>(Hb j u hu)) (Wo ?_);obtain ⟨Hc,Hd⟩:=ifN G7;refine Ami rfl rfl Hc ?_;obtain ⟨He,Hf,Hg⟩:=ABq Hd;refine AY0 (l:=[(.agg (Bx).toArray),(.int .i64 (w64 (1 * 2 ^ Int.toNat A5)))]) (cl:=[(.pointer (some ⟨Ai,0,none⟩)),(.pointer (some ⟨Aj,0,none⟩))]) (K':=(fun xr h'=> ∃ x:(Bool) × (Int) × LvA × (Int),(x.1,x.2.1,x.2.2.2)=He/\xr=(.bool x.1)/\Kst h h' (((By.L.set 4 (aZ x.2.2.1 x.2.1)).set 3 (aB 90 Ai x.2.2.1)).set 2 (aB 3 Aj [(.int .i64 x.2.2.2)])))) trivial rfl rfl ?_ fun Ko Kp Hh=>?_
     ·refine cwf (l:=[_,_,_,_]) Tryz.func118 rfl rfl (ABp (AGo Bx trivial tt2 rfl rfl fun Kr Kt Hj Hk Hl=>AC1 ?_));have Af:=By.nb Hk Hl Hj;refine AEu A6 ACf (cZ.klen (Af.z p5)) rfl (Af.b p4).agg (AEu Bx ACf (cZ.klen (Af.z p1)) rfl (Af.b p0).agg ?_);obtain ⟨⟨Hm,Ku,Kv⟩,Hn,Cw⟩:=ABq Hf;dsimp only at Cw;refine ADb rfl (AYa (Af.z p5).2 (Af.z p1).2 Hn) fun Kw Kx Ho Hq=>?_;obtain ⟨Ky,Kz,rfl,Hr,Hs⟩:=Hq;obtain ⟨A7,rfl,Ht⟩:=Hr.cs;obtain ⟨Cx,rfl,Hu⟩:=Hs.cs;refine Wo (ADm rfl rfl (ADm rfl rfl (ADm rfl rfl (ADi [.bool false,.slice none 0 0] AGk rfl trivial tt2 fun K3 K5 Hv Hw Hx=>ADi [.bool false,.slice none 0 0] AGk rfl trivial tt2 fun K6 Hy Hz H5 H9=>?_))));have A8:=((((Af.e Ho).az Ht).az Hu).nb Hw Hx Hv).nb H5 H9 Hz;refine AC7 A7 ACf (cZ.klen (A8.z p3)) (cZ.klen (AB9 Hy)) rfl rfl (cZ.one (A8.z p3)) (A8.b p1) fun Ia Ib Ic=>?_;have A9:=A8.sb p1 Ic Ib rfl;refine AC7 Cx ACf (cZ.klen (A9.z p2)) (cZ.klen (AB9 Ia)) rfl rfl (cZ.one (A9.z p2)) (A9.b p0) fun La Id Ie=>ABv (ABr (ABp ?_));have Ba:=A9.sb p0 Ie Id rfl;refine AEu Cx ACf (cZ.klen (Ba.z p2)) rfl (Ba.b p0).agg ?_;obtain ⟨Lb,If,Cy⟩:=ABq Cw;refine ADb rfl (AZb (Ba.z p2).2 If) fun Lc Ld Ih Ii=>?_;subst Ii;refine AEn rfl rfl (ABt ?_);have Ac:=Ba.e Ih;refine ⟨_,rfl,fun Bz=>?_,fun Bz=>?_⟩
      ·refine ABp (ABv (ABx (AB4 (⟨_,ABz,((false,G3,A6,Bu):(Bool) × (Int) × LvA × (Int)),?_,rfl,?_⟩))))
       ·exact ABo (AC8 Cy Bz)
       ·exact Ac.sel [5,6,7,8,9,10] (by decide)
      ·refine ABy (q_t (ABp (AEu A7 ACf (cZ.klen (Ac.z p3)) rfl (Ac.b p1).agg (AC7 A7 ACf (cZ.klen (Ac.z p3)) (cZ.klen (Ac.z p9)) rfl rfl (cZ.one (Ac.z p3)) (Ac.b p8) fun Le Ij Ik=>AK0 ?_))));have B1:=Ac.sb p8 Ik Ij rfl;refine AB6 ADs rfl ((B1.b p7).cell (i:=0) rfl) (Wo (ACz rfl rfl (AUb [(.int .i64 (w64 (Bu + (w64 (1 * 2 ^ Int.toNat A5)))))] ADs rfl rfl rfl (B1.b p7) (Nat.le_of_ble_eq_true rfl) rfl fun Lf Il Im=>AK0 (ABv (ABx (⟨_,ABz,((true,Hm,A7,(w64 (Bu + (w64 (1 * 2 ^ Int.toNat A5))))):(Bool) × (Int) × LvA × (Int)),?_,rfl,?_⟩))))))
       ·exact ABo (AC9 Cy Bz)
       ·exact (B1.sb p7 Im Il rfl).sel [5,6,7,8,3,10] (by decide)
     obtain ⟨⟨Lg,Io,Ip,Iq⟩,Ir,rfl,Is⟩:=Hh;refine ⟨trivial,?_⟩;subst Ir;refine ACr (q_b (q_t (AB5 (Wo (AIf rfl rfl (ABv ?_))))));obtain rfl:=ABo Hg;exact ⟨G6,(((w64 (A5 - 1)),Io,Ip,Iq):(Int) × (Int) × LvA × (Int)),Nat.lt_succ_self _,⟨Bv,Is.sel [1,2,3,4,5] (by decide)⟩,rfl,trivial⟩
    ·obtain rfl:=ABo (AC9 Ao Bw);change _=Cu at Bv;subst Bv;refine ACh (ACj (ACj (ADo (q_t (ABr (AKm (AB6 ADs rfl ((Aa.b p1).cell (i:=0) rfl) (AEu A6 ACf (cZ.klen (Aa.z p3)) rfl (Aa.b p2).agg (ACk (AC7 A6 ACf (cZ.klen (Aa.z p3)) (cZ.klen (AB9 G4)) rfl rfl (cZ.one (Aa.z p3)) (Aa.b p4) fun Lh It Iu=>ABv (ABx ?_)))))))))));have Bb:=Aa.sb p4 Iu It rfl;obtain rfl:=ABo Gw;exact ⟨_,Aaa ACf (cZ.klen (Bb.z p3)) rfl (Bb.b p4),Bb.x,_,rfl,(Bb.z p3).2⟩
noncomputable def AHf (fuel:Nat) (a3:LiI) (a5:Int):Option Int:=
  ((AKs fuel a3).bind fun (x6,x7)=>((AQu fuel x6).bind fun (Ae,Ag)=>((AKt fuel Ae a5).bind fun (Ab,Ah,Ai)=>(if a5=2 then (some (w64 (Ab + 3))) else (some (w64 (Ab + 1)))))))
theorem AM0 {fuel:Nat} {h:ABu} {Af:Value} {a3:LiI} {a5 r:Int} (H2:AEq (cI .i64) h Af a3) (HO:AVs h) (hp:AHf fuel a3 a5=some r):ACn Tryz.prog 30 #[Af,(.int .i64 a5)] h (fun x h'=>Ext h h'/\x= .int .i64 r):=by
 unfold AHf at hp;refine cwf (l:=[_,_]) Tryz.func30 rfl rfl (ABp (AC1 (Wo ?_)));have K0:=Kst.k0 h;obtain ⟨⟨x6,x7⟩,Ar,Aj⟩:=ABq hp;dsimp only at Aj;refine ADb rfl (AU4 (H2.ext K0.x) Ar) fun Bt Bu Au Av=>?_;obtain ⟨Bv,Bw,Bx,By,rfl,Aw,Ax⟩:=Av;refine Wo (ADm rfl rfl (ADm rfl rfl (ACk (AC1 (Wo ?_)))));have Ak:=K0.no2 Au Ax Aw;obtain ⟨⟨Bz,B1⟩,Ay,Am⟩:=ABq Aj;dsimp only at Am;refine ADb rfl (AYy (Ak.o2 p0).rd Ay) fun B3 B4 Az A3=>?_;obtain ⟨B5,rfl,A4⟩:=A3;obtain ⟨Ao,rfl,A5⟩:=A4.cs;refine Wo (ADm rfl rfl (ADm rfl rfl (ADi [.bool false,.slice none 0 0] AGk rfl trivial tt2 fun B6 A6 A7 A8 A9=>?_)));have Ab:=((Ak.e Az).az A5).nb A8 A9 A7;refine AC7 Ao ACf (cZ.klen (Ab.z p1)) (cZ.klen (AB9 A6)) rfl rfl (cZ.one (Ab.z p1)) (Ab.b p0) fun B7 Ba Bb=>AC1 ?_;have Aa:=Ab.sb p0 Bb Ba rfl;refine AEu Ao ACf (cZ.klen (Aa.z p1)) rfl (Aa.b p0).agg (Wo ?_);obtain ⟨⟨B8,B9,Ca⟩,Bc,Ad⟩:=ABq Am;dsimp only at Ad;refine ADb rfl (AU6 (Aa.z p1).2 (HO.ext Aa.x) Bc) fun Cb Cd Be Bf=>?_;obtain ⟨Ce,rfl,Bg⟩:=Bf;obtain ⟨Bh,rfl,Bi⟩:=Bg.cs;refine Wo (ADm rfl rfl (ADm rfl rfl (ADm rfl rfl (ADi [.bool false,.slice none 0 0] AGk rfl trivial tt2 fun Cf Bj Bl Bm Bn=>ACk ?_))));have Ac:=((Aa.e Be).az Bi).nb Bm Bn Bl;refine AC7 Bh ACf (cZ.klen (Ac.z p1)) (cZ.klen (AB9 Bj)) rfl rfl (cZ.one (Ac.z p1)) (Ac.b p0) fun Cg Bo Bp=>ABv (ABr (ABp (Wo (AD8 rfl rfl (ABt ?_)))));have Ap:=Ac.sb p0 Bp Bo rfl;refine ⟨_,rfl,fun Ae=>?_,fun Ae=>?_⟩
 ·refine ABp (Wo (ACz rfl rfl (ABv (ABx (AB4 ?_)))));obtain rfl:=ABo (AC8 Ad Ae);exact ⟨_,ABz,Ap.x,rfl⟩
 ·refine ABy (q_t (ABp (Wo (ACz rfl rfl (ABv (ABx ?_))))));obtain rfl:=ABo (AC9 Ad Ae);exact ⟨_,ABz,Ap.x,rfl⟩
noncomputable def AMf (fuel:Nat) (a3:LiI) (a5:Int):Option (Int × Int):=
  ((ATb fuel a3).bind fun x6=>(if (!x6)=true then (some (0,6)) else (if ¬ a5=2 then ((APn fuel a5).bind fun Ad=>(if (!Ad)=true then (some (0,20)) else ((AHf fuel a3 a5).bind fun Ae=>(some (Ae,0))))) else ((AHf fuel a3 a5).bind fun Af=>(some (Af,0))))))
theorem AUi {fuel:Nat} {h:ABu} {Ah:Value} {a3:LiI} {a5:Int} {r:(Int × Int)} (H2:AEq (cI .i64) h Ah a3) (HO:AVs h) (hp:AMf fuel a3 a5=some r):ACn Tryz.prog 21 #[Ah,(.int .i64 a5)] h (fun x h'=>Ext h h'/\x= .tuple #[.int .i64 r.1,.int .i64 r.2]):=by
 unfold AMf at hp;refine cwf (l:=[_,_]) Tryz.func21 rfl rfl (ABp (ACk (ABv (ABr (ABp (Wo ?_))))));have K0:=Kst.k0 h;obtain ⟨x6,Ap,Ak⟩:=ABq hp;refine ADb rfl (Aao (H2.ext K0.x) Ap) fun A9 Ba E9 Ar=>?_;subst Ar;refine AE1 rfl (ABt ?_);have Aa:=K0.e E9;refine ⟨_,rfl,fun Af=>?_,fun Af=>?_⟩
 ·refine ABp (ACk (ABv (ABx (AB4 ?_))));obtain rfl:=ABo (ifT Ak Af);exact ⟨_,ADj,Aa.x,rfl⟩
 ·refine ABy (q_t (ABr (ABp (Wo (AEn rfl rfl (Wo ?_))))));have Am:=AH8 Ak Af;by_cases Ab: ¬ a5=2
  ·rw [decide_eq_true Ab];refine AB3 11 true (Wo (AB3 11 true ?_));obtain ⟨Bb,Au,Ao⟩:=ABq (ifT Am Ab);refine ADb rfl (AU5 (HO.ext Aa.x) Au) fun Bc Be Av Aw=>?_;subst Aw;refine AB3 11 true (AE1 rfl (AB2 rfl (ABt ?_)));have Ac:=Aa.e Av;refine ⟨_,rfl,fun Ag=>?_,fun Ag=>?_⟩
   ·refine ABp (ACk (ABv (ABx (AB4 ?_))));obtain rfl:=ABo (ifT Ao Ag);exact ⟨_,ADj,Ac.x,rfl⟩
   ·refine ABy (q_t (ABp (Wo (Wo ?_))));obtain ⟨Bf,Ax,Ay⟩:=ABq (AH8 Ao Ag);refine ADb rfl (AM0 (H2.ext Ac.x) (HO.ext Ac.x) Ax) fun Bg Bh Az A3=>?_;subst A3;refine ACk (ABv (ABx ?_));obtain rfl:=ABo Ay;exact ⟨_,ADj,(Ac.e Az).x,rfl⟩
  ·rw [decide_eq_false Ab];refine AE2 11 false (AB0 rfl (ABt (ACo rfl (ABy (q_t (ABp (Wo (Wo ?_))))))));obtain ⟨Bi,A4,A5⟩:=ABq (ifF Am Ab);refine ADb rfl (AM0 (H2.ext Aa.x) (HO.ext Aa.x) A4) fun Bj Bl A6 A7=>?_;subst A7;refine ACk (ABv (ABx ?_));obtain rfl:=ABo A5;exact ⟨_,ADj,(Aa.e A6).x,rfl⟩
def APc (fuel:Nat) (a1 a2 s8 s9:Int):Option ((Int × Int) ⊕ ((Int))):=
  (if s9 < a2 then (some (Sum.inl ((w64 (s8 * a1)),(w64 (s9 + 1))))) else (some (Sum.inr<| s8)))
def ANj (fuel:Nat) (a1 a2:Int):Option Int:=
  ((iter (fun s=>APc fuel a1 a2 s.1 s.2) fuel (1,0)).bind (fun (Ac:Int)=>(some Ac)))
theorem AXf {fuel:Nat} {h:ABu} {a1 a2 r:Int} (hp:ANj fuel a1 a2=some r):ACn Tryz.prog 29 #[(.int .i64 a1),(.int .i64 a2)] h (fun x h'=>Ext h h'/\x= .int .i64 r):=by
 unfold ANj at hp;refine cwf (l:=[_,_]) Tryz.func29 rfl rfl (ABp (AC1 (ABv (ABr (ABp (Wo (Wo (ABt (ABw ?_)))))))));have K0:=Kst.k0 h;obtain ⟨Ag,Ai,Aj⟩:=ABq hp;obtain ⟨Ak,Am,Ao⟩:=ACe Ai;refine ACq 8096 (fun x:(Int) × (Int)=>[(5,(.int .i64 x.1)),(7,(.int .i64 x.2))]) (fun k x h'=>iter Ak k (x.1,x.2)=some Ag/\Kst h h' (K0.L)) (by kernel_rfl) fuel ((1,0):(Int) × (Int)) ?_ ⟨rfl,rfl,trivial⟩ ?_
 ·exact ⟨Ao,K0⟩
 rintro k9 ⟨Ap,Aq⟩ Aw Ax ⟨Ar,Ah⟩;obtain ⟨Au,Ay,rfl,Aa,Ac⟩:=AB7 Ar;rw [Am] at Aa;dsimp only at Aa;unfold APc at Aa;refine ABp (ACu rfl rfl (ABt (ABr (⟨_,rfl,fun Ad=>?_,fun Ad=>?_⟩))))
 ·refine ABy (q_t (ABr (ABw (AB5 (Wo (Wo (AQ3 rfl rfl (ACk (ACr (q_b (q_t (AB5 (ACz rfl rfl (Wo (ABt ?_)))))))))))))));obtain rfl:=ABo (AC8 Aa Ad);exact ⟨Au,(((w64 (Ap * a1)),(w64 (Aq + 1))):(Int) × (Int)),Nat.lt_succ_self _,⟨Ac,Ah⟩,rfl,rfl,trivial⟩
 ·obtain rfl:=ABo (AC9 Aa Ad);change _=Ag at Ac;subst Ac;refine ACh (ACj (ACj (ADo (q_t (ABp (Wo (ABv (ABx ?_))))))));obtain rfl:=ABo Aj;exact ⟨_,ABz,Ah.x,rfl⟩
def AJl (fuel:Nat) (a2 Ab Ac:Int):Option ((Int × Int) ⊕ ((Int))):=
  (((if ¬ Ab=0 then (if a2≠0 then (if (Int.tmod Ab a2)=0 then (some (Sum.inl <| ())) else (some (Sum.inr <| ()))) else none) else (some (Sum.inr <| ()))):Option ((Unit) ⊕ (Unit))).bind (fun ex=>match ex with | Sum.inl _=>(if a2≠0 then (some (Sum.inl ((w64 (Int.tdiv Ab a2)),(w64 (Ac + 1))))) else none) | Sum.inr (_)=>(some (Sum.inr<| Ac))))
def AG6 (fuel:Nat) (a1 a2:Int):Option Int:=
  ((iter (fun s=>AJl fuel a2 s.1 s.2) fuel (a1,0)).bind (fun (Ac:Int)=>(some Ac)))
theorem AQv {fuel:Nat} {h:ABu} {a1 a2 r:Int} (hp:AG6 fuel a1 a2=some r):ACn Tryz.prog 97 #[(.int .i64 a1),(.int .i64 a2)] h (fun x h'=>Ext h h'/\x= .int .i64 r):=by
 unfold AG6 at hp;refine cwf (l:=[_,_]) Tryz.func97 rfl rfl (ABp (AC1 (ABv (ABr (ABw ?_)))));have K0:=Kst.k0 h;obtain ⟨Ag,Aq,Ak⟩:=ABq hp;obtain ⟨Ar,Au,Av⟩:=ACe Aq;refine ACq 524257 (fun x:(Int) × (Int)=>[(0,(.int .i64 x.1)),(5,(.int .i64 x.2))]) (fun k x h'=>iter Ar k (x.1,x.2)=some Ag/\Kst h h' (K0.L)) (by kernel_rfl) fuel ((a1,0):(Int) × (Int)) ?_ ⟨rfl,rfl,trivial⟩ ?_
 ·exact ⟨Av,K0⟩
 rintro k9 ⟨Am,Aw⟩ A9 Ba ⟨Ax,Ab⟩;obtain ⟨Ay,Bb,rfl,Ac,Aa⟩:=AB7 Ax;rw [Au] at Ac;dsimp only at Ac;unfold AJl at Ac;obtain ⟨Az,Ao,Ah⟩:=ABq Ac;refine ALi 16320 (fun x:Unit=>[]) (fun x h'=>(Sum.inl <| ())=Az/\Kst h h' (Ab.L)) ?_ ?_
 ·refine ABp (Wo (AEn rfl rfl (Wo ?_)));by_cases Ad: ¬ Am=0
  ·rw [decide_eq_true Ad];refine AB3 8 true (Wo (AB3 8 true (Wo (AB3 8 true ?_))));obtain ⟨A3,Ap⟩:=ifN (ifT Ao Ad);refine AHh rfl rfl A3 (AB3 8 true (AD8 rfl rfl (AB2 rfl (ABt (⟨_,rfl,fun Ai=>?_,fun Ai=>?_⟩)))))
   ·refine ABy (q_t ?_);exact ⟨(():Unit),⟨ABo (AC8 Ap Ai),Ab⟩,trivial⟩
   ·obtain rfl:=ABo (AC9 Ap Ai);obtain rfl:=ABo Ah;change _=Ag at Aa;subst Aa;refine ACh (ACj (ACj (ADo (q_t (ABp (Wo (ABv (ABx ?_))))))));obtain rfl:=ABo Ak;exact ⟨_,ABz,Ab.x,rfl⟩
  ·rw [decide_eq_false Ad];refine AFl 8 false (AB0 rfl (ABt (ACo rfl ?_)));obtain rfl:=ABo (ifF Ao Ad);obtain rfl:=ABo Ah;change _=Ag at Aa;subst Aa;refine ACh (ACj (ACj (ADo (q_t (ABp (Wo (ABv (ABx ?_))))))));obtain rfl:=ABo Ak;exact ⟨_,ABz,Ab.x,rfl⟩
 rintro ⟨⟩ Bc Be ⟨A4,A5⟩;subst A4;refine ABw (ABp (Wo (Wo ?_)));obtain ⟨A6,A7⟩:=ifN Ah;refine AWq rfl rfl A6 (ABv (AB5 (Wo (ACz rfl rfl (ACk (ACr (q_b (q_t ?_))))))));obtain rfl:=ABo A7;exact ⟨Ay,(((w64 (Int.tdiv Am a2)),(w64 (Aw + 1))):(Int) × (Int)),Nat.lt_succ_self _,⟨Aa,A5⟩,rfl,rfl,trivial⟩
def AK6 (fuel:Nat) (a1 a2 s8 s9:Int):Option ((Int × Int) ⊕ ((Int))):=
  (if s9 < a2 then (some (Sum.inl ((w64 (s8 * a1)),(w64 (s9 + 1))))) else (some (Sum.inr<| s8)))
def AFo (fuel:Nat) (a1 a2:Int):Option Int:=
  ((iter (fun s=>AK6 fuel a1 a2 s.1 s.2) fuel (1,0)).bind (fun (Ac:Int)=>(some Ac)))
theorem AK7 {fuel:Nat} {h:ABu} {a1 a2 r:Int} (hp:AFo fuel a1 a2=some r):ACn Tryz.prog 56 #[(.int .i64 a1),(.int .i64 a2)] h (fun x h'=>Ext h h'/\x= .int .i64 r):=by
 unfold AFo at hp;refine cwf (l:=[_,_]) Tryz.func56 rfl rfl (ABp (AC1 (ABv (ABr (ABp (ABv (ABw ?_)))))));have K0:=Kst.k0 h;obtain ⟨Ag,Ai,Aj⟩:=ABq hp;obtain ⟨Ak,Am,Ao⟩:=ACe Ai;refine ACq 32736 (fun x:(Int) × (Int)=>[(5,(.int .i64 x.1)),(6,(.int .i64 x.2))]) (fun k x h'=>iter Ak k (x.1,x.2)=some Ag/\Kst h h' (K0.L)) (by kernel_rfl) fuel ((1,0):(Int) × (Int)) ?_ ⟨rfl,rfl,trivial⟩ ?_
 ·exact ⟨Ao,K0⟩
 rintro k9 ⟨Ap,Aq⟩ Aw Ax ⟨Ar,Ah⟩;obtain ⟨Au,Ay,rfl,Aa,Ac⟩:=AB7 Ar;rw [Am] at Aa;dsimp only at Aa;unfold AK6 at Aa;refine ABr (ABp (Wo (Wo (ACu rfl rfl (ABt (⟨_,rfl,fun Ad=>?_,fun Ad=>?_⟩))))))
 ·refine ABy (q_t (ABr (ABw (AB5 (Wo (Wo (AQ3 rfl rfl (ACk (ACr (q_b (q_t (AB5 (Wo (ACz rfl rfl (ABv ?_)))))))))))))));obtain rfl:=ABo (AC8 Aa Ad);exact ⟨Au,(((w64 (Ap * a1)),(w64 (Aq + 1))):(Int) × (Int)),Nat.lt_succ_self _,⟨Ac,Ah⟩,rfl,rfl,trivial⟩
 ·obtain rfl:=ABo (AC9 Aa Ad);change _=Ag at Ac;subst Ac;refine ACh (ACj (ACj (ADo (q_t (ABp (Wo (ABv (ABx ?_))))))));obtain rfl:=ABo Aj;exact ⟨_,ABz,Ah.x,rfl⟩
def AI9 (fuel:Nat) (a3:LiI):Option Int:=
  ((AE9 fuel a3).bind fun x5=>((AC6 fuel x5).bind fun Ac=>((AVj fuel Ac).bind fun (Ad,Ae)=>(some Ad))))
theorem AT5 {fuel:Nat} {h:ABu} {Aa:Value} {a3:LiI} {r:Int} (H2:AEq (cI .i64) h Aa a3) (hp:AI9 fuel a3=some r):ACn Tryz.prog 98 #[Aa] h (fun x h'=>Ext h h'/\x= .int .i64 r):=by
 unfold AI9 at hp;refine cwf (l:=[_]) Tryz.func98 rfl rfl (ABp (AC1 (Wo ?_)));have K0:=Kst.k0 h;obtain ⟨x5,Ah,Ai⟩:=ABq hp;refine ADb rfl (AJ3 (H2.ext K0.x) Ah) fun A4 h9 E8 Ak=>?_;obtain ⟨A6,A7,A8,A9,rfl,Am,Ao⟩:=Ak;have Ad:=K0.no2 E8 Ao Am;obtain ⟨Ba,Ap,Aq⟩:=ABq Ai;refine ADb rfl (AEi (Ad.o2 p0).rd Ap) fun Bb Bc Ar Au=>?_;obtain ⟨Be,rfl,Av⟩:=Au;obtain ⟨Bf,rfl,Aw⟩:=Av.cs;have Ae:=(Ad.e Ar).az Aw;obtain ⟨⟨Bg,Bh⟩,Ax,Af⟩:=ABq Aq;dsimp only at Af;refine ADb rfl (AZ9 (Ae.z p0).2 Ax) fun Bi Bj Ay Az=>?_;subst Az;refine Wo (ADm rfl rfl (ADm rfl rfl (ACk (AC1 (Wo (ABv (ABx ?_)))))));obtain rfl:=ABo Af;exact ⟨_,ABz,(Ae.e Ay).x,rfl⟩
def AGg (fuel:Nat) (a3:LiI) (a5:Int):Option Int:=
  ((AI9 fuel a3).bind fun x6=>((AG6 fuel x6 a5).bind fun Ab=>(if a5=2 then (some (w64 (Ab + 3))) else (some (w64 (Ab + 1))))))
theorem AR1 {fuel:Nat} {h:ABu} {Ab:Value} {a3:LiI} {a5 r:Int} (H2:AEq (cI .i64) h Ab a3) (hp:AGg fuel a3 a5=some r):ACn Tryz.prog 55 #[Ab,(.int .i64 a5)] h (fun x h'=>Ext h h'/\x= .int .i64 r):=by
 unfold AGg at hp;refine cwf (l:=[_,_]) Tryz.func55 rfl rfl (ABp (AC1 (Wo ?_)));have K0:=Kst.k0 h;obtain ⟨x6,Ai,Aj⟩:=ABq hp;refine ADb rfl (AT5 (H2.ext K0.x) Ai) fun Au Av E9 Am=>?_;subst Am;refine Wo ?_;obtain ⟨Aw,Ao,Af⟩:=ABq Aj;refine ADb rfl (AQv Ao) fun Ax Ay Ap Aq=>?_;subst Aq;refine ABv (ABr (ABp (Wo (AD8 rfl rfl (ABt ?_)))));have Ag:=(K0.e E9).e Ap;refine ⟨_,rfl,fun Aa=>?_,fun Aa=>?_⟩
 ·refine ABp (Wo (ACz rfl rfl (ABv (ABx (AB4 ?_)))));obtain rfl:=ABo (AC8 Af Aa);exact ⟨_,ABz,Ag.x,rfl⟩
 ·refine ABy (q_t (ABp (Wo (ACz rfl rfl (ABv (ABx ?_))))));obtain rfl:=ABo (AC9 Af Aa);exact ⟨_,ABz,Ag.x,rfl⟩
def AK8 (fuel:Nat) (a3:LiI) (Aa:Int):Option ((Int) ⊕ ((Bool) ⊕ (Unit))):=
  (if Aa < (a3.length:Int) then ((gI a3 Aa).bind fun Ac=>(if 12 < (Ac.length:Int) then (some (Sum.inr<| Sum.inl <| true)) else (some (Sum.inl (w64 (Aa + 1)))))) else (some (Sum.inr<| Sum.inr <| ())))
def AGw (fuel:Nat) (a3:LiI):Option Bool:=
  (if 12 < (a3.length:Int) then (some true) else ((iter (fun s=>AK8 fuel a3 s) fuel 0).bind (fun ex=>match ex with | Sum.inl Ab=>(some Ab) | Sum.inr (_)=>(some false))))
theorem AOa {fuel:Nat} {h:ABu} {Aj:Value} {a3:LiI} {r:Bool} (H2:AEq (cI .i64) h Aj a3) (hp:AGw fuel a3=some r):ACn Tryz.prog 10 #[Aj] h (fun x h'=>Ext h h'/\x= .bool r):=by
 unfold AGw at hp;refine cwf (l:=[_]) Tryz.func10 rfl rfl (ABp (ABv (ABr (ABp (Wo (ADa ACi rfl H2 (AGz rfl rfl (ABt ?_))))))));have K0:=Kst.k0 h;refine ⟨_,rfl,fun Af=>?_,fun Af=>?_⟩
 ·refine ABp (ABv (ABx (AB4 ?_)));obtain rfl:=ABo (AC8 hp Af);exact ⟨_,ABz,K0.x,rfl⟩
 ·refine ABy (q_t (ABr (ABp (Wo (ADa ACi rfl H2 (Wo (ABt (ABw ?_))))))));obtain ⟨Ag,Ap,Am⟩:=ABq (AC9 hp Af);obtain ⟨Aq,Ar,Au⟩:=ACe Ap;refine ACq 261140 (fun x:(Int)=>[(10,(.int .i64 x))]) (fun k x h'=>iter Aq k x=some Ag/\Kst h h' (K0.L)) (by kernel_rfl) fuel (0:(Int)) ?_ ⟨rfl,trivial⟩ ?_
  ·exact ⟨Au,K0⟩
  rintro A4 Av A5 A6 ⟨Aw,Ac⟩;obtain ⟨Ax,A7,rfl,Aa,Ab⟩:=AB7 Aw;rw [Ar] at Aa;dsimp only at Aa;unfold AK8 at Aa;refine ABp (ACu rfl rfl (ABt (ABr (⟨_,rfl,fun Ah=>?_,fun Ah=>?_⟩))))
  ·refine ABy (q_t (ABr (ABw (ABp ?_))));obtain ⟨A8,Ay,Ao⟩:=ABq (AC8 Aa Ah);refine AFg ACi rfl H2 rfl Ay fun A9 Ba Bb Az A3=>AB6 AC3 rfl (AB1 Az Ac.x) (AC1 (Wo (ADh ACs rfl A3 (AGz rfl rfl (ABt (⟨_,rfl,fun Ai=>?_,fun Ai=>?_⟩))))))
   ·refine ABp (ABv ?_);obtain rfl:=ABo (AC8 Ao Ai);change _=Ag at Ab;subst Ab;refine ABx (ADe (AB4 (AB4 (ADe (AB4 ?_)))));obtain rfl:=ABo Am;exact ⟨_,ABz,Ac.x,rfl⟩
   ·refine ABy (q_b (q_t (AB5 (ACz rfl rfl (Wo (ABt ?_))))));obtain rfl:=ABo (AC9 Ao Ai);exact ⟨Ax,((w64 (Av + 1)):(Int)),Nat.lt_succ_self _,⟨Ab,Ac⟩,rfl,trivial⟩
  ·obtain rfl:=ABo (AC9 Aa Ah);change _=Ag at Ab;subst Ab;refine ACh (ACj (ACj (ADo (q_t (ABp (ABv (ABx ?_)))))));obtain rfl:=ABo Am;exact ⟨_,ABz,Ac.x,rfl⟩
end Go.Proofs.YtdnbklmefmoofaaGreatDoor
namespace Go.Proofs.YtdnbklmefmoofaaGreatDoor
open Go Go.QF
set_option maxRecDepth 100000
theorem Aul (c1 c2 c3 c4 c5 d1 d2 d3 d4 d5:Int) (w:World):(Op.equal 37 (.agg #[.int .i64 c1,.int .i64 c2,.int .i64 c3,.int .i64 c4,.int .i64 c5]) (.agg #[.int .i64 d1,.int .i64 d2,.int .i64 d3,.int .i64 d4,.int .i64 d5])).run Tryz.prog w= .ok (decide ((c1,c2,c3,c4,c5)=(d1,d2,d3,d4,d5))) w:=by
 show (Op.equalIn (9998 + 1 + 1) _ _ _).run _ w=_;rw [Op.equalIn];simp [ANv Tryz.underlying37,AWx ADs,AWx ACx,AX1 ATm,AX1 ALk];by_cases h1:c1=d1 <;> by_cases h2:c2=d2 <;> by_cases h3:c3=d3 <;> by_cases h4:c4=d4 <;> by_cases h5:c5=d5 <;> simp [h1,h2,h3,h4,h5]
theorem Aum (c1 c2 c3:Int) (c4:Bool) (c5 d1 d2 d3:Int) (d4:Bool) (d5:Int) (w:World):(Op.equal 44 (.agg #[.int .i64 c1,.int .i64 c2,.int .i64 c3,.bool c4,.int .i64 c5]) (.agg #[.int .i64 d1,.int .i64 d2,.int .i64 d3,.bool d4,.int .i64 d5])).run Tryz.prog w= .ok (decide ((c1,c2,c3,c4,c5)=(d1,d2,d3,d4,d5))) w:=by
 show (Op.equalIn (9998 + 1 + 1) _ _ _).run _ w=_;rw [Op.equalIn];simp [ANv Tryz.underlying44,AWx ADs,AWx AF7,AX1 ATm,Af8 AVg];by_cases h1:c1=d1 <;> by_cases h2:c2=d2 <;> by_cases h3:c3=d3 <;> by_cases h4:c4=d4 <;> by_cases h5:c5=d5 <;> simp [h1,h2,h3,h4,h5]
end Go.Proofs.YtdnbklmefmoofaaGreatDoor
