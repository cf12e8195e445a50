/-
  Texts of a proof, joined. Conditions stand in each statement.
-/
import Derived.Test.YtiegjkmfpcgjjaaGreatDoorMLineSorted3
set_option linter.unusedVariables false
set_option linter.unusedSimpArgs false
namespace Go.Proofs.YtiegjkmfpcgjjaaGreatDoor
open Go Go.QF
set_option maxRecDepth 100000
set_option maxHeartbeats 4000000
def AFb (fuel:Nat) (a1:Int) (a5:LiA) (Ac Aa Ad:Int) (Ae:LiI):Option ((Int × Int × LiI) ⊕ ((Int × LiI))):=
  (if Aa < ((List.replicate (Int.toNat (w64 (1 + (Int.tmod (w64 a1) Ac)))) ([]:List Int)).length:Int) then (if 0<=(w64 (1 + (Int.tmod (w64 a1) Ac)))/\(w64 (1 + (Int.tmod (w64 a1) Ac)))<=100000000 then ((gI Ae Aa).bind fun Ao=>((gI (sI Ae Aa (List.replicate (Int.toNat (w64 (1 + (Int.tmod (w64 a1) Ac)))) (0:Int))) Aa).bind fun Ag=>(((((if (a5.length:Int)<=Ad then (some ( (0,Ad))) else ((gI a5 (w64 ((w64 (Ad + 1)) - 1))).bind fun Ah=>(some ( ((w64 Ah),(w64 (Ad + 1))))))):Option (Int × Int)).bind fun (Ai,Aj)=>(some ( ((Int.tmod (w64 (IntKind.wrap .u8 Ai)) 6),Aj)))):Option (Int × Int)).bind fun (Ak,Am)=>((gI Ag Aa).bind fun Ap=>(some (Sum.inl ((w64 (Aa + 1)),Am,(sI (sI Ae Aa (List.replicate (Int.toNat (w64 (1 + (Int.tmod (w64 a1) Ac)))) (0:Int))) Aa (sI Ag Aa (w64 (1 + Ak))))))))))) else none) else (some (Sum.inr<| (Ad,Ae))))
def AGp (fuel:Nat) (a5:LiA) (Ab Aa Ac:Int) (Ad:LiI):Option ((Int × Int × LiI) ⊕ ((Int × LiI))):=
  (if Aa < Ab then ((gI Ad Ab).bind fun Ae=>(((if (a5.length:Int)<=Ac then (some ( (0,Ac))) else ((gI a5 (w64 ((w64 (Ac + 1)) - 1))).bind fun Ai=>(some ( ((w64 Ai),(w64 (Ac + 1))))))):Option (Int × Int)).bind fun (Af,Aj)=>((gI Ae Aa).bind fun Ao=>((gI (sI Ad Ab (sI Ae Aa (Int.tmod Af 3))) Aa).bind fun Ah=>((gI (sI Ad Ab (sI Ae Aa (Int.tmod Af 3))) Ab).bind fun Ak=>((gI Ak Aa).bind fun Am=>((gI Ah Ab).bind fun Ap=>(some (Sum.inl ((w64 (Aa + 1)),Aj,(sI (sI Ad Ab (sI Ae Aa (Int.tmod Af 3))) Aa (sI Ah Ab Am)))))))))))) else (some (Sum.inr<| (Ac,Ad))))
def AFc (fuel:Nat) (a5:LiA) (Ae:LiI) (Aa Ab:Int) (Ac:LiI):Option ((Int × Int × LiI) ⊕ ((Int × LiI))):=
  (if Aa < (Ae.length:Int) then ((iter (fun s=>AGp fuel a5 Aa s.1 s.2.1 s.2.2) fuel (0,Ab,Ac)).bind (fun ((Af,Ag):Int × LiI)=>(some (Sum.inl ((w64 (Aa + 1)),Af,Ag))))) else (some (Sum.inr<| (Ab,Ac))))
def AE2 (fuel:Nat) (a1:Int) (a5:LiA) (Ac Aa Ad:Int) (Ae:LiI):Option ((Int × Int × LiI) ⊕ ((Int × LiI))):=
  (if Aa < ((List.replicate (Int.toNat (w64 (1 + (Int.tmod (w64 a1) Ac)))) ([]:List Int)).length:Int) then (if 0<=(w64 (1 + (Int.tmod (w64 a1) Ac)))/\(w64 (1 + (Int.tmod (w64 a1) Ac)))<=100000000 then ((gI Ae Aa).bind fun Ao=>((gI (sI Ae Aa (List.replicate (Int.toNat (w64 (1 + (Int.tmod (w64 a1) Ac)))) (0:Int))) Aa).bind fun Ag=>(((((if (a5.length:Int)<=Ad then (some ( (0,Ad))) else ((gI a5 (w64 ((w64 (Ad + 1)) - 1))).bind fun Ah=>(some ( ((w64 Ah),(w64 (Ad + 1))))))):Option (Int × Int)).bind fun (Ai,Aj)=>(some ( ((Int.tmod (w64 (IntKind.wrap .u8 Ai)) 9),Aj)))):Option (Int × Int)).bind fun (Ak,Am)=>((gI Ag Aa).bind fun Ap=>(some (Sum.inl ((w64 (Aa + 1)),Am,(sI (sI Ae Aa (List.replicate (Int.toNat (w64 (1 + (Int.tmod (w64 a1) Ac)))) (0:Int))) Aa (sI Ag Aa (w64 (1 + Ak))))))))))) else none) else (some (Sum.inr<| (Ad,Ae))))
def AE3 (fuel:Nat) (a1:Int) (a5:LiA) (Ac Aa Ad:Int) (Ae:LiI):Option ((Int × Int × LiI) ⊕ ((Int × LiI))):=
  (if Aa < ((List.replicate (Int.toNat (w64 (1 + (Int.tmod (w64 a1) Ac)))) ([]:List Int)).length:Int) then (if 0<=(w64 (1 + (Int.tmod (w64 a1) Ac)))/\(w64 (1 + (Int.tmod (w64 a1) Ac)))<=100000000 then ((gI Ae Aa).bind fun Ao=>((gI (sI Ae Aa (List.replicate (Int.toNat (w64 (1 + (Int.tmod (w64 a1) Ac)))) (0:Int))) Aa).bind fun Ag=>(((((if (a5.length:Int)<=Ad then (some ( (0,Ad))) else ((gI a5 (w64 ((w64 (Ad + 1)) - 1))).bind fun Ah=>(some ( ((w64 Ah),(w64 (Ad + 1))))))):Option (Int × Int)).bind fun (Ai,Aj)=>(some ( ((Int.tmod (w64 (IntKind.wrap .u8 Ai)) 1),Aj)))):Option (Int × Int)).bind fun (Ak,Am)=>((gI Ag Aa).bind fun Ap=>(some (Sum.inl ((w64 (Aa + 1)),Am,(sI (sI Ae Aa (List.replicate (Int.toNat (w64 (1 + (Int.tmod (w64 a1) Ac)))) (0:Int))) Aa (sI Ag Aa (w64 (1 + Ak))))))))))) else none) else (some (Sum.inr<| (Ad,Ae))))
def AE4 (fuel:Nat) (a1:Int) (a5:LiA) (Ac Aa Ad:Int) (Ae:LiI):Option ((Int × Int × LiI) ⊕ ((Int × LiI))):=
  (if Aa < ((List.replicate (Int.toNat (w64 (1 + (Int.tmod (w64 a1) Ac)))) ([]:List Int)).length:Int) then (if 0<=(w64 (1 + (Int.tmod (w64 a1) Ac)))/\(w64 (1 + (Int.tmod (w64 a1) Ac)))<=100000000 then ((gI Ae Aa).bind fun Ao=>((gI (sI Ae Aa (List.replicate (Int.toNat (w64 (1 + (Int.tmod (w64 a1) Ac)))) (0:Int))) Aa).bind fun Ag=>(((((if (a5.length:Int)<=Ad then (some ( (0,Ad))) else ((gI a5 (w64 ((w64 (Ad + 1)) - 1))).bind fun Ah=>(some ( ((w64 Ah),(w64 (Ad + 1))))))):Option (Int × Int)).bind fun (Ai,Aj)=>(some ( ((Int.tmod (w64 (IntKind.wrap .u8 Ai)) 2),Aj)))):Option (Int × Int)).bind fun (Ak,Am)=>((gI Ag Aa).bind fun Ap=>(some (Sum.inl ((w64 (Aa + 1)),Am,(sI (sI Ae Aa (List.replicate (Int.toNat (w64 (1 + (Int.tmod (w64 a1) Ac)))) (0:Int))) Aa (sI Ag Aa (w64 (1 + Ak))))))))))) else none) else (some (Sum.inr<| (Ad,Ae))))
def AEy (fuel:Nat) (a1 a2:Int) (a5 a9:LiA) (Aa:Int):Option LiI:=
  (if Aa≠0 then (((((if (Int.tmod a2 8)=0 then (some ( (decide ((Int.tmod a2 8)=0)))) else (if (Int.tmod a2 8)=1 then (some ( (decide ((Int.tmod a2 8)=1)))) else (if (Int.tmod a2 8)=2 then (some ( (decide ((Int.tmod a2 8)=2)))) else (some ( (decide ((Int.tmod a2 8)=3))))))):Option ((Bool))).bind (fun (Ak:Bool)=>(if Ak=true then (((((if 0<=(w64 (1 + (Int.tmod (w64 a1) Aa)))/\(w64 (1 + (Int.tmod (w64 a1) Aa)))<=100000000 then ((iter (fun s=>AFb fuel a1 a5 Aa s.1 s.2.1 s.2.2) fuel (0,0,(List.replicate (Int.toNat (w64 (1 + (Int.tmod (w64 a1) Aa)))) ([]:List Int)))).bind (fun ((Am,Ao):Int × LiI)=>(some ( (Ao,Am))))) else none):Option (LiI × Int)).bind fun (Ae,Ap)=>((iter (fun s=>AFc fuel a5 Ae s.1 s.2.1 s.2.2) fuel (0,Ap,Ae)).bind (fun ((Aq,Ar):Int × LiI)=>(some ( (Ar,Aq)))))):Option (LiI × Int)).bind fun (Au,Av)=>(some ( (Au,Av)))) else (if (Int.tmod a2 8)=4 then ((AFv fuel (w64 (1 + (Int.tmod (w64 a1) Aa))) false).bind fun Af=>((gI Af 0).bind fun Ag=>((gI Ag 0).bind fun Aw=>(((((if (a5.length:Int)<=0 then (some ( (0,0))) else ((gI a5 (w64 ((w64 (0 + 1)) - 1))).bind fun Ax=>(some ( ((w64 Ax),(w64 (0 + 1))))))):Option (Int × Int)).bind fun (Ay,Az)=>(some ( ((Int.tmod (w64 (IntKind.wrap .u8 Ay)) 3),Az)))):Option (Int × Int)).bind fun (A3,A4)=>(some ( ((sI Af 0 (sI Ag 0 (w64 (Aw + A3)))),A4))))))) else (if (Int.tmod a2 8)=5 then ((AFv fuel (w64 (1 + (Int.tmod (w64 a1) Aa))) true).bind fun Ah=>((gI Ah (w64 ((w64 (1 + (Int.tmod (w64 a1) Aa))) - 1))).bind fun Ai=>((gI Ai (w64 ((w64 (1 + (Int.tmod (w64 a1) Aa))) - 1))).bind fun A5=>(((((if (a5.length:Int)<=0 then (some ( (0,0))) else ((gI a5 (w64 ((w64 (0 + 1)) - 1))).bind fun A6=>(some ( ((w64 A6),(w64 (0 + 1))))))):Option (Int × Int)).bind fun (A7,A8)=>(some ( ((Int.tmod (w64 (IntKind.wrap .u8 A7)) 2),A8)))):Option (Int × Int)).bind fun (A9,Ba)=>(some ( ((sI Ah (w64 ((w64 (1 + (Int.tmod (w64 a1) Aa))) - 1)) (sI Ai (w64 ((w64 (1 + (Int.tmod (w64 a1) Aa))) - 1)) (w64 (A5 + A9)))),Ba))))))) else (if (Int.tmod a2 8)=6 then (((if 0<=(w64 (1 + (Int.tmod (w64 a1) Aa)))/\(w64 (1 + (Int.tmod (w64 a1) Aa)))<=100000000 then ((iter (fun s=>AE2 fuel a1 a5 Aa s.1 s.2.1 s.2.2) fuel (0,0,(List.replicate (Int.toNat (w64 (1 + (Int.tmod (w64 a1) Aa)))) ([]:List Int)))).bind (fun ((Bb,Bc):Int × LiI)=>(some ( (Bc,Bb))))) else none):Option (LiI × Int)).bind fun (Be,Bf)=>(some ( (Be,Bf)))) else (((if 0<=(w64 (1 + (Int.tmod (w64 a1) Aa)))/\(w64 (1 + (Int.tmod (w64 a1) Aa)))<=100000000 then ((iter (fun s=>AE3 fuel a1 a5 Aa s.1 s.2.1 s.2.2) fuel (0,0,(List.replicate (Int.toNat (w64 (1 + (Int.tmod (w64 a1) Aa)))) ([]:List Int)))).bind (fun ((Bg,Bh):Int × LiI)=>(some ( (Bh,Bg))))) else none):Option (LiI × Int)).bind fun (Bi,Bj)=>(some ( (Bi,Bj)))))))))):Option ((LiI × Int))).bind (fun ((Aj,Bl):LiI × Int)=>((AHq fuel Aj).bind fun Bm=>(if (!Bm)=true then (((if 0<=(w64 (1 + (Int.tmod (w64 a1) Aa)))/\(w64 (1 + (Int.tmod (w64 a1) Aa)))<=100000000 then ((iter (fun s=>AE4 fuel a1 a5 Aa s.1 s.2.1 s.2.2) fuel (0,Bl,(List.replicate (Int.toNat (w64 (1 + (Int.tmod (w64 a1) Aa)))) ([]:List Int)))).bind (fun ((Bn,Bo):Int × LiI)=>(some ( (Bo,Bn))))) else none):Option (LiI × Int)).bind fun (Bp,Br)=>(some Bp)) else (some Aj))))) else none)
theorem AM6 {fuel:Nat} {h:ABh} {a1 a2:Int} {Ab:Value} {a5:LiA} {Cb:Value} {a9:LiA} {Af:Int} {r:LiI} (H4:SlC (cI .i8) h Ab a5) (H8:SlC (cI .i8) h Cb a9) (hp:AEy fuel a1 a2 a5 a9 Af=some r):ACd Tryz.prog 30 #[(.agg #[(.int .u8 a1),(.int .u8 a2),Ab,Cb]),(.int .i64 Af)] h (fun x h'=>Ext h h'/\ ∃ (x0:Value) (F0:List Nat) (Iu:List LnA) (Iv:List Value),x=x0/\AFe (cI .i64) 23 2 h' F0 Iu Iv x0 r/\Sp h' h.size [F0]):=by
 unfold AEy at hp;refine cwf (l:=[_,_]) Tryz.func30 rfl rfl (ABj (AHz [(.int .u8 a1),(.int .u8 a2),Ab,Cb] trivial tt2 rfl rfl fun Wl Wm Iw Ix Iy=>ACu (AIn Arr rfl ?_)));have Cd:=(Kst.k0 h).nb Ix Iy Iw;refine AB4 AOx rfl ((Cd.b p0).cell (i:=2) rfl) ?_;obtain ⟨_,_,_,Iz⟩:=(H4.ext Cd.x).shape;refine ALu (v:=(.agg #[Ab,(.int .i64 0)])) (fun _=>by subst Iz;kernel_rfl) (AHz [Ab,(.int .i64 0)] trivial tt2 rfl rfl fun Aa Wn I0 I1 I2=>ACu (AIn Arp rfl ?_));have A4:=Cd.nb I1 I2 I0;refine AB4 Atc rfl ((A4.b p1).cell (i:=0) rfl) (ALx APp AQ7 rfl (Wk ?_));obtain ⟨I3,I6⟩:=ifN hp;refine AG8 rfl rfl I3 (AC2 rfl rfl (ACu (ABp ?_)));obtain ⟨I7,I9,D9⟩:=ABl I6;refine ANi 147573952589676150912 (fun x:(LiI) × (Value) × LnA × LnN × LvA × (Int)=>[(7,x.2.1)]) (fun x h'=>( (x.1,x.2.2.2.2.2))=I7/\Kst h h' (aO2 (cI .i64) 23 2 x.2.2.1 x.2.2.2.1 x.2.2.2.2.1 x.2.1 x.1 :: ((AIi A4.L [0]).set 0 (aB 76 Aa [Ab,(.int .i64 x.2.2.2.2.2)])))) ?_ ?_
 ·refine ABj (AIn Arq rfl (AB4 Atc rfl ((A4.b p1).cell (i:=1) rfl) (AG8 rfl rfl (by decide) (ABo (ABq ?_)))));obtain ⟨Ja,Ea,Ce⟩:=ABl I9;refine ANi 520093696 (fun x:(Bool)=>[(24,(.bool x))]) (fun x h'=>( x)=Ja/\Kst h h' (AIi A4.L [0])) ?_ ?_
  ·refine ABj (ADt rfl rfl (ABp (⟨_,rfl,fun Cf=>?_,fun Cf=>?_⟩)))
   ·refine ABr (q_t ?_);exact ⟨((decide ((Int.tmod a2 8)=0)):(Bool)),⟨ABk (AC7 Ea Cf),A4.sel [0] (by decide)⟩,rfl,trivial⟩
   ·refine ABj (ADt rfl rfl (ABp ?_));have Eb:=AC8 Ea Cf;refine ⟨_,rfl,fun Cg=>?_,fun Cg=>?_⟩
    ·refine ABr (q_t ?_);exact ⟨((decide ((Int.tmod a2 8)=1)):(Bool)),⟨ABk (AC7 Eb Cg),A4.sel [0] (by decide)⟩,rfl,trivial⟩
    ·refine ABj (ADt rfl rfl (ABp ?_));have Ec:=AC8 Eb Cg;refine ⟨_,rfl,fun Ch=>?_,fun Ch=>?_⟩
     ·refine ABr (q_t ?_);exact ⟨((decide ((Int.tmod a2 8)=2)):(Bool)),⟨ABk (AC7 Ec Ch),A4.sel [0] (by decide)⟩,rfl,trivial⟩
     ·refine ABw (ADt rfl rfl (ABp ?_));exact ⟨((decide ((Int.tmod a2 8)=3)):(Bool)),⟨ABk (AC8 Ec Ch),A4.sel [0] (by decide)⟩,rfl,trivial⟩
  rintro Jc Je Jf ⟨Jg,Ao⟩;(try dsimp only [Kst.L,List.set,AIi,ALa] at Ao);refine (show W _ _ _ (setL [(24,(.bool Jc))] (mix _ Je _)) Jf from ?_);subst Jg;(try dsimp only at Ce);refine ⟨_,rfl,fun Ci=>?_,fun Ci=>?_⟩
  ·refine ABw (Wk (Wk ?_));obtain ⟨Jh,Ji,Ed⟩:=ABl (ifT Ce Ci);refine ACn (K':=(fun xr h'=> ∃ x:(LiI) × (Value) × LnA × LnN × LvA × (Int),(x.1,x.2.2.2.2.2)=Jh/\xr=x.2.1/\Kst h h' (aO2 (cI .i64) 23 2 x.2.2.1 x.2.2.2.1 x.2.2.2.2.1 x.2.1 x.1 :: (Ao.L.set 0 (aB 76 Aa [Ab,(.int .i64 x.2.2.2.2.2)]))))) trivial rfl ?_ fun Ee Wo Jj=>?_
   ·refine cwf (l:=[_,_]) Tryz.func60 rfl rfl (ABj (ACu (Wk (Wk ?_))));obtain ⟨Jk,Jl,Ef⟩:=ABl Ji;refine ACn (K':=(fun xr h'=> ∃ x:(LiI) × (Value) × LnA × LnN × LvA × (Int),(x.1,x.2.2.2.2.2)=Jk/\xr=x.2.1/\Kst h h' (aO2 (cI .i64) 23 2 x.2.2.1 x.2.2.2.1 x.2.2.2.2.1 x.2.1 x.1 :: (Ao.L.set 0 (aB 76 Aa [Ab,(.int .i64 x.2.2.2.2.2)]))))) trivial rfl ?_ fun Bp Wp Jm=>?_
    ·refine cwf (l:=[_,_,_]) Tryz.func63 rfl rfl (ABj (ACu (Wk ?_)));obtain ⟨Jn,Jo⟩:=ifN Jl;refine AUu (cI .i64) 2 AB2 AMi rfl trivial tt2 rfl rfl (by decide) Jn fun Jp Jq Jr Eg Wq Js Jt Ju=>ABp (ABm (ABj (Wk ?_)));have Cj:=Ao.no2 Jt Ju Js;refine ADn AB2 rfl (Cj.o2 p0).rd (Wk (ABo (ABq ?_)));obtain ⟨Eh,Jv,Ei⟩:=ABl Jo;obtain ⟨Jw,Jx,Jy⟩:=ACl Jv;refine ACk 4294959360 (fun x:(Int) × (Int) × (LiI) × LnA × LnN × LvA=>[(13,(.int .i64 x.1))]) (fun k x h'=>iter Jw k (x.1,x.2.1,x.2.2.1)=some Eh/\Kst h h' ((Cj.L.set 0 (aO2 (cI .i64) 23 2 x.2.2.2.1 x.2.2.2.2.1 x.2.2.2.2.2 Eg x.2.2.1)).set 1 (aB 76 Aa [Ab,(.int .i64 x.2.1)]))) (by kernel_rfl) fuel ((0,0,(List.replicate (Int.toNat (w64 (1 + (Int.tmod (w64 a1) Af)))) ([]:List Int)),Jp,Jq,Jr):(Int) × (Int) × (LiI) × LnA × LnN × LvA) ?_ ⟨rfl,trivial⟩ ?_
     ·exact ⟨Jy,Cj⟩
     rintro Wr ⟨Ap,Bq,Ej,Jz,Ck,Ek⟩ J0 J1 ⟨J2,Cm⟩;(try dsimp only [Kst.L,List.set,AIi,ALa] at Cm);refine (show W _ _ _ (setL [(13,(.int .i64 Ap))] (mix _ J0 _)) J1 from ?_);obtain ⟨J3,Ws,rfl,Ba,Cn⟩:=AB7 J2;rw [Jx] at Ba;dsimp only at Ba;unfold AFb at Ba;refine ABj (AC1 rfl rfl (ABo (ABm (⟨_,rfl,fun Co=>?_,fun Co=>?_⟩))))
     ·refine ABr (q_t (ABm (ABq (ABj (Wk (ACu (Wk (Wk (Wk ?_)))))))));obtain ⟨J4,J5⟩:=ifN (AC7 Ba Co);refine ASm (c:=(cI .i64)) (a:=0) ABx AIl rfl rfl (fun _=>rfl) rfl trivial tt2 rfl rfl (by decide) J4 fun El J6 Wt J7 J8 J9 Ka=>?_;have Bb:=Cm.no J8 (AHc J9 Ka) J7;obtain ⟨Wu,Em,Kb⟩:=ABl J5;refine ADi AB2 rfl (Bb.o2 p1) rfl Em fun Kc Wv Kd Ww Wx=>AWk ACm (Bb.o2 p1) Em Kd rfl rfl (Bb.o p0) (Bb.dj p0 p1 (by decide)) fun Av Ke Kf Kg=>ABo (AEq (fun h'=>UpT ([Aa] ++ []) Av h') (by kernel_rfl) ?_);have Ah:=Bb.m2 p0 p1 (by decide) Kf Ke (fun z hz=> .inl (Kg z hz));have Cp:UpT ([Aa] ++ []) Av Av:=UpT.start (AD4 (AGa (Ah.b p2) rfl) all_nil);refine Wk (Wk ?_);obtain ⟨Kh,Cq,Ki⟩:=ABl Kb;refine ADi AB2 rfl (Ah.o2 p1) rfl Cq fun Wy Wz Kj Kk Kl=>AGc ACm rfl Cp (fun h' hb=>AKh Kl hb (AP5 (Ah.dj p1 p2 (by decide) _ (by simp [aO,aO2,Kj])) AP6)) (Wk (Wk (Wk ?_)));obtain ⟨Km,Kn,En⟩:=ABl Ki;have Ko:UpT ([Aa] ++ []) Av Av:=UpT.start (AD4 (AGa (Ah.b p2) rfl) all_nil);refine ACn (K':=(fun xr h'=> ∃ x:(Int) × (Int),(x.1,x.2)=Km/\xr=(.int .i64 x.1)/\Kst h h' ((AIi Ah.L [1,2]).set 1 (aB 76 Aa [Ab,(.int .i64 x.2)]))/\UpT ([Aa] ++ []) Av h')) Cp rfl ?_ fun W0 W1 Kp=>?_
      ·refine cwf (l:=[_,_]) Tryz.func62 rfl rfl (ABj (ACu (Wk ?_)));obtain ⟨Kr,Eo,Ep⟩:=ABl Kn;have Er:UpT ([Aa] ++ []) Av Av:=UpT.start (AD4 (AGa (Ah.b p2) rfl) all_nil);refine ACn (K':=(fun xr h'=> ∃ x:(Int) × (Int),(x.1,x.2)=Kr/\xr=(.int .i64 x.1)/\Kst h h' ((AIi Ah.L [1,2]).set 1 (aB 76 Aa [Ab,(.int .i64 x.2)]))/\UpT ([Aa] ++ []) Av h')) trivial rfl ?_ fun W3 W4 Kt=>?_
       ·refine cwf (l:=[_]) Tryz.func50 rfl rfl (ABj (ABp (ABm (ABm (AMd (Wk (AJa rfl (AIn AD6 rfl (AB4 AFh rfl ((Ah.b p2).cell (i:=1) rfl) (Wk (AJa rfl (AIn AI0 rfl (AB4 AOx rfl ((Ah.b p2).cell (i:=0) rfl) (AD1 APo rfl H4 (AL0 rfl rfl (ABo (⟨_,rfl,fun Cr=>?_,fun Cr=>?_⟩)))))))))))))))))
        ·refine ABj (ABp (ABs (AB1 (⟨_,ABu,((0,Bq):(Int) × (Int)),?_,rfl,?_,?_⟩))))
         ·exact ABk (AC7 Eo Cr)
         ·exact Ah.sel [1,2] (by decide)
         ·exact Er
        ·refine ABr (q_t (ABj (Wk (AJa rfl (AIn AD6 rfl (AB4 AFh rfl ((Ah.b p2).cell (i:=1) rfl) (AC2 rfl rfl (AJa rfl (AIn AD6 rfl (AUp [Ab,(.int .i64 (w64 (Bq + 1)))] AFh rfl rfl rfl (Ah.b p2) (Nat.le_of_ble_eq_true rfl) rfl fun W5 Es Et=>ABo (ABm (AMd (Wk (AJa rfl (AIn AI0 rfl ?_)))))))))))))));have Br:=Ah.sb p2 Et Es rfl;refine AB4 AOx rfl ((Br.b p2).cell (i:=0) rfl) (Wk (AJa rfl (AIn AD6 rfl (AB4 AFh rfl ((Br.b p2).cell (i:=1) rfl) (AF8 rfl rfl ?_)))));obtain ⟨Ku,Kv,Kw⟩:=ABl (AC8 Eo Cr);refine AJf (c:=(cI .i8)) APo rfl H4 rfl Kv fun W6 W7 W8 Kx Ky=>?_;obtain rfl:=Kx;refine AB4 AXx rfl (ABz (Ky 0 _ rfl) Br.x) (ALx AXy AK1 rfl (ABp (ABs (⟨_,ABu,(((w64 Ku),(w64 (Bq + 1))):(Int) × (Int)),?_,rfl,?_,?_⟩))))
         ·exact ABk Kw
         ·exact Br.sel [1,2] (by decide)
         ·exact (Er.then (Es.stA Et (AGa (Ah.b p2) rfl) rfl) (ALg rfl))
       obtain ⟨⟨Kz,K3⟩,K5,rfl,Eu,K6⟩:=Kt;(try dsimp only [Kst.L,List.set,AIi,ALa] at Eu);refine ⟨trivial,?_⟩;subst K5;(try dsimp only at Ep);refine ALx AK1 APp rfl (ALx APp AQ7 rfl (Wk (AG8 rfl rfl (by decide) (ABp (ABs (⟨_,ABu,(((Int.tmod (w64 (IntKind.wrap .u8 Kz)) 6),K3):(Int) × (Int)),?_,rfl,?_,?_⟩))))))
       ·exact ABk Ep
       ·exact Eu
       ·exact (Ko.then K6 (AD4 (ALg rfl) all_nil))
      obtain ⟨⟨Ev,K9⟩,La,rfl,Ct,Lb⟩:=Kp;(try dsimp only [Kst.L,List.set,AIi,ALa] at Ct);refine ⟨(Cp.then Lb (AD4 (ALg rfl) all_nil)),?_⟩;subst La;(try dsimp only at En);refine AC2 rfl rfl ?_;obtain ⟨W9,Ew,Lc⟩:=ABl En;refine AEi (m:=Ap) ABx rfl (Ah.o2 p1) Kk Cq rfl Ew fun Xa Ld=>AJg (m:=Ap) (AGb ACr rfl rfl rfl) (Ct.o2 p0) Ld Cq Ew (show ((cI .i64)).rep _ (w64 (1 + Ev)) _ from rfl) fun Xb Le Lf=>ACj (q_b (q_t (ABw (AC2 rfl rfl (Wk (ABo ?_))))));obtain rfl:=ABk Lc;exact ⟨J3,(((w64 (Ap + 1)),K9,(sI (sI Ej Ap (List.replicate (Int.toNat (w64 (1 + (Int.tmod (w64 a1) Af)))) (0:Int))) Ap (sI Kh Ap (w64 (1 + Ev)))),(Kc :: (Ck.set (Int.toNat Ap) [El]).flatten),(Ck.set (Int.toNat Ap) [El]),(Ek.set (Int.toNat Ap) J6)):(Int) × (Int) × (LiI) × LnA × LnN × LvA),Nat.lt_succ_self _,⟨Cn,(Ct.uO2 p0 Lf Le)⟩,rfl,trivial⟩
     ·obtain rfl:=ABk (AC8 Ba Co);change _=Eh at Cn;subst Cn;(try dsimp only at Ei);refine ACc (ACa (ACa (ADm (q_t (ABj (Wk (ABp (ABs (⟨_,ABu,((Ej,Eg,Jz,Ck,Ek,Bq):(LiI) × (Value) × LnA × LnN × LvA × (Int)),?_,rfl,?_⟩)))))))))
      ·exact ABk Ei
      ·exact Cm
    obtain ⟨⟨Lg,Bp,Lh,Li,Lj,Lk⟩,Ll,rfl,Bt⟩:=Jm;(try dsimp only [Kst.L,List.set,AIi,ALa] at Bt);refine ⟨trivial,?_⟩;subst Ll;(try dsimp only at Ef);refine ABp (ABm (ABj (Wk (ADn AB2 rfl (Bt.o2 p0).rd (Wk (ABo (ABq ?_)))))));obtain ⟨Ey,Lm,Ez⟩:=ABl Ef;obtain ⟨Ln,Lo,Lq⟩:=ACl Lm;refine ACk 17592186036416 (fun x:(Int) × (Int) × (LiI) × LnA × LnN × LvA=>[(13,(.int .i64 x.1))]) (fun k x h'=>iter Ln k (x.1,x.2.1,x.2.2.1)=some Ey/\Kst h h' ((Bt.L.set 0 (aO2 (cI .i64) 23 2 x.2.2.2.1 x.2.2.2.2.1 x.2.2.2.2.2 Bp x.2.2.1)).set 1 (aB 76 Aa [Ab,(.int .i64 x.2.1)]))) (by kernel_rfl) fuel ((0,Lk,Lg,Lh,Li,Lj):(Int) × (Int) × (LiI) × LnA × LnN × LvA) ?_ ⟨rfl,trivial⟩ ?_
    ·exact ⟨Lq,Bt⟩
    rintro Xc ⟨A6,Fa,Fb,Fc,Fd,Fe⟩ Lr Lu ⟨Lv,Bu⟩;(try dsimp only [Kst.L,List.set,AIi,ALa] at Bu);refine (show W _ _ _ (setL [(13,(.int .i64 A6))] (mix _ Lr _)) Lu from ?_);obtain ⟨Lw,Xd,rfl,Bc,Cu⟩:=AB7 Lv;rw [Lo] at Bc;dsimp only at Bc;unfold AFc at Bc;refine ABj (AC1 rfl rfl (ABo (ABm (⟨_,rfl,fun Cv=>?_,fun Cv=>?_⟩))))
    ·refine ABr (q_t (ABm (ABq (ABj (Wk (ACu (ABp (ABq ?_))))))));obtain ⟨Ff,Lx,Fg⟩:=ABl (AC7 Bc Cv);obtain ⟨Ly,Lz,Ma⟩:=ACl Lx;refine ACk 8796092956800 (fun x:(Int) × (Int) × (LiI) × LnA × LnN × LvA=>[(7,(.int .i64 x.1))]) (fun k x h'=>iter Ly k (x.1,x.2.1,x.2.2.1)=some Ff/\Kst h h' ((Bu.L.set 0 (aO2 (cI .i64) 23 2 x.2.2.2.1 x.2.2.2.2.1 x.2.2.2.2.2 Bp x.2.2.1)).set 1 (aB 76 Aa [Ab,(.int .i64 x.2.1)]))) (by kernel_rfl) fuel ((0,Fa,Fb,Fc,Fd,Fe):(Int) × (Int) × (LiI) × LnA × LnN × LvA) ?_ ⟨rfl,trivial⟩ ?_
     ·exact ⟨Ma,Bu⟩
     rintro Xe ⟨A9,Bv,Fh,Fi,Fj,Fk⟩ Mb A7 ⟨Mc,Ai⟩;(try dsimp only [Kst.L,List.set,AIi,ALa] at Ai);refine (show W _ _ _ (setL [(7,(.int .i64 A9))] (mix _ Mb _)) A7 from ?_);obtain ⟨Md,Xf,rfl,Be,Cw⟩:=AB7 Mc;rw [Lz] at Be;dsimp only at Be;unfold AGp at Be;refine ABm (ABj (Wk (Wk (AC1 rfl rfl (ABo (⟨_,rfl,fun Cx=>?_,fun Cx=>?_⟩))))))
     ·refine ABr (q_t (ABm (ABq (ABm (AEq (fun h'=>UpT ([Aa] ++ []) A7 h') (by kernel_rfl) ?_)))));have Cy:UpT ([Aa] ++ []) A7 A7:=UpT.start (AD4 (AGa (Ai.b p1) rfl) all_nil);refine Wk (Wk ?_);obtain ⟨Me,Cz,Mf⟩:=ABl (AC7 Be Cx);refine ADi AB2 rfl (Ai.o2 p0) rfl Cz fun Xg Xh Mg Mh Mi=>AGc ACm rfl Cy (fun h' hb=>AKh Mi hb (AP5 (Ai.dj p0 p1 (by decide) _ (by simp [aO,aO2,Mg])) AP6)) (Wk (Wk ?_));obtain ⟨Mj,Fl,Fm⟩:=ABl Mf;have Fo:UpT ([Aa] ++ []) A7 A7:=UpT.start (AD4 (AGa (Ai.b p1) rfl) all_nil);refine ACn (K':=(fun xr h'=> ∃ x:(Int) × (Int),(x.1,x.2)=Mj/\xr=(.int .i64 x.1)/\Kst h h' (Ai.L.set 1 (aB 76 Aa [Ab,(.int .i64 x.2)]))/\UpT ([Aa] ++ []) A7 h')) Cy rfl ?_ fun Xi Xj Mk=>?_
      ·refine cwf (l:=[_]) Tryz.func50 rfl rfl (ABj (ABp (ABm (ABm (AMd (Wk (AJa rfl (AIn AD6 rfl (AB4 AFh rfl ((Ai.b p1).cell (i:=1) rfl) (Wk (AJa rfl (AIn AI0 rfl (AB4 AOx rfl ((Ai.b p1).cell (i:=0) rfl) (AD1 APo rfl H4 (AL0 rfl rfl (ABo (⟨_,rfl,fun C0=>?_,fun C0=>?_⟩)))))))))))))))))
       ·refine ABj (ABp (ABs (AB1 (⟨_,ABu,((0,Bv):(Int) × (Int)),?_,rfl,?_,?_⟩))))
        ·exact ABk (AC7 Fl C0)
        ·exact Ai
        ·exact Fo
       ·refine ABr (q_t (ABj (Wk (AJa rfl (AIn AD6 rfl (AB4 AFh rfl ((Ai.b p1).cell (i:=1) rfl) (AC2 rfl rfl (AJa rfl (AIn AD6 rfl (AUp [Ab,(.int .i64 (w64 (Bv + 1)))] AFh rfl rfl rfl (Ai.b p1) (Nat.le_of_ble_eq_true rfl) rfl fun Xk Fp Fq=>ABo (ABm (AMd (Wk (AJa rfl (AIn AI0 rfl ?_)))))))))))))));have Bw:=Ai.sb p1 Fq Fp rfl;refine AB4 AOx rfl ((Bw.b p1).cell (i:=0) rfl) (Wk (AJa rfl (AIn AD6 rfl (AB4 AFh rfl ((Bw.b p1).cell (i:=1) rfl) (AF8 rfl rfl ?_)))));obtain ⟨Ml,Mm,Mo⟩:=ABl (AC8 Fl C0);refine AJf (c:=(cI .i8)) APo rfl H4 rfl Mm fun Xl Xm Xn Mq Mr=>?_;obtain rfl:=Mq;refine AB4 AXx rfl (ABz (Mr 0 _ rfl) Bw.x) (ALx AXy AK1 rfl (ABp (ABs (⟨_,ABu,(((w64 Ml),(w64 (Bv + 1))):(Int) × (Int)),?_,rfl,?_,?_⟩))))
        ·exact ABk Mo
        ·exact Bw
        ·exact (Fo.then (Fp.stA Fq (AGa (Ai.b p1) rfl) rfl) (ALg rfl))
      obtain ⟨⟨Fr,Ms⟩,Mt,rfl,C1,Mu⟩:=Mk;(try dsimp only [Kst.L,List.set,AIi,ALa] at C1);refine ⟨(Cy.then Mu (AD4 (ALg rfl) all_nil)),?_⟩;subst Mt;(try dsimp only at Fm);refine AG8 rfl rfl (by decide) ?_;obtain ⟨Xo,Ft,Mv⟩:=ABl Fm;refine AEi (m:=A6) ABx rfl (Ai.o2 p0) Mh Cz rfl Ft fun Xp Mw=>AJg (m:=A6) (AGb ACr rfl rfl rfl) (C1.o2 p0) Mw Cz Ft (show ((cI .i64)).rep _ (Int.tmod Fr 3) _ from rfl) fun Xq Mx My=>ABo (AMd (Wk (Wk ?_)));have A8:=C1.uO2 p0 My Mx;obtain ⟨Mz,C2,M0⟩:=ABl Mv;refine ADi AB2 rfl (A8.o2 p0) rfl C2 fun Xr Xt Xu M1 M2=>AB4 ACm rfl M2 (Wk (Wk (Wk ?_)));obtain ⟨Xv,C3,M3⟩:=ABl M0;refine ADi AB2 rfl (A8.o2 p0) rfl C3 fun Xw Xx Xy M4 M5=>AB4 ACm rfl M5 (Wk ?_);obtain ⟨Fu,Fv,M6⟩:=ABl M3;refine AEi (m:=A6) ABx rfl (A8.o2 p0) M4 C3 rfl Fv fun Xz M7=>?_;obtain ⟨X0,M8,M9⟩:=(A8.o2 p0).cells M7 C3 Fv;obtain rfl:=M8;refine AB4 ACr rfl (M9 0 _ rfl) ?_;obtain ⟨X3,Fw,Na⟩:=ABl M6;refine AEi (m:=A9) ABx rfl (A8.o2 p0) M1 C2 rfl Fw fun X4 Nb=>AJg (m:=A9) (AGb ACr rfl rfl rfl) (A8.o2 p0) Nb C2 Fw (show ((cI .i64)).rep _ Fu _ from rfl) fun X5 Nc Nd=>ACj (q_b (q_t (ABw (Wk (AC2 rfl rfl (ABp ?_))))));obtain rfl:=ABk Na;exact ⟨Md,(((w64 (A9 + 1)),Ms,(sI (sI Fh A6 (sI Me A9 (Int.tmod Fr 3))) A9 (sI Mz A6 Fu)),Fi,Fj,Fk):(Int) × (Int) × (LiI) × LnA × LnN × LvA),Nat.lt_succ_self _,⟨Cw,(A8.uO2 p0 Nd Nc)⟩,rfl,trivial⟩
     ·obtain rfl:=ABk (AC8 Be Cx);change _=Ff at Cw;subst Cw;(try dsimp only at Fg);refine ACc (ACa (ACa (ADm (q_b (q_t (ABw (AC2 rfl rfl (Wk (ABo ?_)))))))));obtain rfl:=ABk Fg;exact ⟨Lw,(((w64 (A6 + 1)),Bv,Fh,Fi,Fj,Fk):(Int) × (Int) × (LiI) × LnA × LnN × LvA),Nat.lt_succ_self _,⟨Cu,Ai⟩,rfl,trivial⟩
    ·obtain rfl:=ABk (AC8 Bc Cv);change _=Ey at Cu;subst Cu;(try dsimp only at Ez);refine ACc (ACa (ACa (ADm (q_t (ABj (Wk (ABp (ABs (⟨_,ABu,((Fb,Bp,Fc,Fd,Fe,Fa):(LiI) × (Value) × LnA × LnN × LvA × (Int)),?_,rfl,?_⟩)))))))))
     ·exact ABk Ez
     ·exact Bu
   obtain ⟨⟨Nf,Ee,Ng,Nh,Ni,Nj⟩,Nk,rfl,Fx⟩:=Jj;(try dsimp only [Kst.L,List.set,AIi,ALa] at Fx);refine ⟨trivial,?_⟩;subst Nk;(try dsimp only at Ed);refine ACg (ACj (q_b (q_t ?_)));exact ⟨((Nf,Ee,Ng,Nh,Ni,Nj):(LiI) × (Value) × LnA × LnN × LvA × (Int)),⟨ABk Ed,Fx⟩,rfl,trivial⟩
  ·refine ABj (ADt rfl rfl (ABp ?_));have Fy:=ALo Ce Ci;refine ⟨_,rfl,fun C4=>?_,fun C4=>?_⟩
   ·refine ABj (Wk ?_);obtain ⟨Nl,Nm,Nn⟩:=ABl (AC7 Fy C4);refine AC4 rfl (AL8 Nm) fun Np Aw Nq Nr=>?_;obtain ⟨X6,Ns,Nt,Nu,rfl,Nv,Nw⟩:=Nr;refine ABp (AEq (fun h'=>UpT ([Aa] ++ []) Aw h') (by kernel_rfl) ?_);have Ac:=Ao.no2 Nq Nw Nv;have Bx:UpT ([Aa] ++ []) Aw Aw:=UpT.start (AD4 (AGa (Ac.b p1) rfl) all_nil);refine Wk ?_;obtain ⟨Ny,Bf,Nz⟩:=ABl Nn;refine ADi AB2 rfl (Ac.o2 p0) rfl Bf fun X8 Ya N0 Fz N3=>AGc ACm rfl Bx (fun h' hb=>AKh N3 hb (AP5 (Ac.dj p0 p1 (by decide) _ (by simp [aO,aO2,N0])) AP6)) ?_;obtain ⟨F4,By,N4⟩:=ABl Nz;refine AEi (m:=0) ABx rfl (Ac.o2 p0) Fz Bf rfl By fun Yb F5=>?_;obtain ⟨Yc,N5,N6⟩:=(Ac.o2 p0).cells F5 Bf By;obtain rfl:=N5;refine AGc ACr rfl Bx (fun h' hb=>AKh (N6 0 _ rfl) hb (AP5 (Ac.dj p0 p1 (by decide) _ ((Ac.o2 p0).gmem F5)) AP6)) (Wk ?_);obtain ⟨N7,N8,F6⟩:=ABl N4;have N9:UpT ([Aa] ++ []) Aw Aw:=UpT.start (AD4 (AGa (Ac.b p1) rfl) all_nil);refine ACn (K':=(fun xr h'=> ∃ x:(Int) × (Int),(x.1,x.2)=N7/\xr=(.int .i64 x.1)/\Kst h h' (Ac.L.set 1 (aB 76 Aa [Ab,(.int .i64 x.2)]))/\UpT ([Aa] ++ []) Aw h')) Bx rfl ?_ fun Yd Ye Oa=>?_
    ·refine cwf (l:=[_,_]) Tryz.func62 rfl rfl (ABj (ACu (Wk ?_)));obtain ⟨Ob,F7,F8⟩:=ABl N8;have F9:UpT ([Aa] ++ []) Aw Aw:=UpT.start (AD4 (AGa (Ac.b p1) rfl) all_nil);refine ACn (K':=(fun xr h'=> ∃ x:(Int) × (Int),(x.1,x.2)=Ob/\xr=(.int .i64 x.1)/\Kst h h' (Ac.L.set 1 (aB 76 Aa [Ab,(.int .i64 x.2)]))/\UpT ([Aa] ++ []) Aw h')) trivial rfl ?_ fun Yf Yg Oc=>?_
     ·refine cwf (l:=[_]) Tryz.func50 rfl rfl (ABj (ABp (ABm (ABm (AMd (Wk (AJa rfl (AIn AD6 rfl (AB4 AFh rfl ((Ac.b p1).cell (i:=1) rfl) (Wk (AJa rfl (AIn AI0 rfl (AB4 AOx rfl ((Ac.b p1).cell (i:=0) rfl) (AD1 APo rfl H4 (AL0 rfl rfl (ABo (⟨_,rfl,fun C5=>?_,fun C5=>?_⟩)))))))))))))))))
      ·refine ABj (ABp (ABs (AB1 (⟨_,ABu,((0,0):(Int) × (Int)),?_,rfl,?_,?_⟩))))
       ·exact ABk (AC7 F7 C5)
       ·exact Ac
       ·exact F9
      ·refine ABr (q_t (ABj (Wk (AJa rfl (AIn AD6 rfl (AB4 AFh rfl ((Ac.b p1).cell (i:=1) rfl) (AC2 rfl rfl (AJa rfl (AIn AD6 rfl (AUp [Ab,(.int .i64 (w64 (0 + 1)))] AFh rfl rfl rfl (Ac.b p1) (Nat.le_of_ble_eq_true rfl) rfl fun Yh Ga Gb=>ABo (ABm (AMd (Wk (AJa rfl (AIn AI0 rfl ?_)))))))))))))));have Bz:=Ac.sb p1 Gb Ga rfl;refine AB4 AOx rfl ((Bz.b p1).cell (i:=0) rfl) (Wk (AJa rfl (AIn AD6 rfl (AB4 AFh rfl ((Bz.b p1).cell (i:=1) rfl) (AF8 rfl rfl ?_)))));obtain ⟨Od,Oe,Og⟩:=ABl (AC8 F7 C5);refine AJf (c:=(cI .i8)) APo rfl H4 rfl Oe fun Yi Yj Yk Oh Oi=>?_;obtain rfl:=Oh;refine AB4 AXx rfl (ABz (Oi 0 _ rfl) Bz.x) (ALx AXy AK1 rfl (ABp (ABs (⟨_,ABu,(((w64 Od),(w64 (0 + 1))):(Int) × (Int)),?_,rfl,?_,?_⟩))))
       ·exact ABk Og
       ·exact Bz
       ·exact (F9.then (Ga.stA Gb (AGa (Ac.b p1) rfl) rfl) (ALg rfl))
     obtain ⟨⟨Oj,Ol⟩,Om,rfl,Gc,On⟩:=Oc;(try dsimp only [Kst.L,List.set,AIi,ALa] at Gc);refine ⟨trivial,?_⟩;subst Om;(try dsimp only at F8);refine ALx AK1 APp rfl (ALx APp AQ7 rfl (Wk (AG8 rfl rfl (by decide) (ABp (ABs (⟨_,ABu,(((Int.tmod (w64 (IntKind.wrap .u8 Oj)) 3),Ol):(Int) × (Int)),?_,rfl,?_,?_⟩))))))
     ·exact ABk F8
     ·exact Gc
     ·exact (N9.then On (AD4 (ALg rfl) all_nil))
    obtain ⟨⟨Gd,Oo⟩,Oq,rfl,C6,Ot⟩:=Oa;(try dsimp only [Kst.L,List.set,AIi,ALa] at C6);refine ⟨(Bx.then Ot (AD4 (ALg rfl) all_nil)),?_⟩;subst Oq;(try dsimp only at F6);refine AC2 rfl rfl (AEi (m:=0) ABx rfl (Ac.o2 p0) Fz Bf rfl By fun Yl Ou=>AJg (m:=0) (AGb ACr rfl rfl rfl) (C6.o2 p0) Ou Bf By (show ((cI .i64)).rep _ (w64 (F4 + Gd)) _ from rfl) fun Ym Ov Ow=>ACj (q_b (q_t ?_)));exact ⟨(((sI Nl 0 (sI Ny 0 (w64 (F4 + Gd)))),Np,Ns,Nt,Nu,Oo):(LiI) × (Value) × LnA × LnN × LvA × (Int)),⟨ABk F6,(C6.uO2 p0 Ow Ov)⟩,rfl,trivial⟩
   ·refine ABj (ADt rfl rfl (ABp ?_));have Ge:=AC8 Fy C4;refine ⟨_,rfl,fun C7=>?_,fun C7=>?_⟩
    ·refine ABj (Wk ?_);obtain ⟨Ox,Oy,Oz⟩:=ABl (AC7 Ge C7);refine AC4 rfl (AL8 Oy) fun O0 Ax O1 O2=>?_;obtain ⟨Yn,O3,O4,O5,rfl,O6,O7⟩:=O2;refine ABp (AEq (fun h'=>UpT ([Aa] ++ []) Ax h') (by kernel_rfl) ?_);have Ad:=Ao.no2 O1 O7 O6;have B1:UpT ([Aa] ++ []) Ax Ax:=UpT.start (AD4 (AGa (Ad.b p1) rfl) all_nil);refine Wk (Wk (AF8 rfl rfl ?_));obtain ⟨O8,Bg,O9⟩:=ABl Oz;refine ADi AB2 rfl (Ad.o2 p0) rfl Bg fun Yo Yp Pa Gf Pb=>AGc ACm rfl B1 (fun h' hb=>AKh Pb hb (AP5 (Ad.dj p0 p1 (by decide) _ (by simp [aO,aO2,Pa])) AP6)) (Wk (AF8 rfl rfl ?_));obtain ⟨Gg,B2,Pc⟩:=ABl O9;refine AEi (m:=(w64 ((w64 (1 + (Int.tmod (w64 a1) Af))) - 1))) ABx rfl (Ad.o2 p0) Gf Bg rfl B2 fun Yq Gh=>?_;obtain ⟨Yr,Pd,Pe⟩:=(Ad.o2 p0).cells Gh Bg B2;obtain rfl:=Pd;refine AGc ACr rfl B1 (fun h' hb=>AKh (Pe 0 _ rfl) hb (AP5 (Ad.dj p0 p1 (by decide) _ ((Ad.o2 p0).gmem Gh)) AP6)) (Wk ?_);obtain ⟨Pf,Pg,Gi⟩:=ABl Pc;have Ph:UpT ([Aa] ++ []) Ax Ax:=UpT.start (AD4 (AGa (Ad.b p1) rfl) all_nil);refine ACn (K':=(fun xr h'=> ∃ x:(Int) × (Int),(x.1,x.2)=Pf/\xr=(.int .i64 x.1)/\Kst h h' (Ad.L.set 1 (aB 76 Aa [Ab,(.int .i64 x.2)]))/\UpT ([Aa] ++ []) Ax h')) B1 rfl ?_ fun Ys Yt Pj=>?_
     ·refine cwf (l:=[_,_]) Tryz.func62 rfl rfl (ABj (ACu (Wk ?_)));obtain ⟨Pk,Gj,Gk⟩:=ABl Pg;have Gl:UpT ([Aa] ++ []) Ax Ax:=UpT.start (AD4 (AGa (Ad.b p1) rfl) all_nil);refine ACn (K':=(fun xr h'=> ∃ x:(Int) × (Int),(x.1,x.2)=Pk/\xr=(.int .i64 x.1)/\Kst h h' (Ad.L.set 1 (aB 76 Aa [Ab,(.int .i64 x.2)]))/\UpT ([Aa] ++ []) Ax h')) trivial rfl ?_ fun Yu Yv Pl=>?_
      ·refine cwf (l:=[_]) Tryz.func50 rfl rfl (ABj (ABp (ABm (ABm (AMd (Wk (AJa rfl (AIn AD6 rfl (AB4 AFh rfl ((Ad.b p1).cell (i:=1) rfl) (Wk (AJa rfl (AIn AI0 rfl (AB4 AOx rfl ((Ad.b p1).cell (i:=0) rfl) (AD1 APo rfl H4 (AL0 rfl rfl (ABo (⟨_,rfl,fun C8=>?_,fun C8=>?_⟩)))))))))))))))))
       ·refine ABj (ABp (ABs (AB1 (⟨_,ABu,((0,0):(Int) × (Int)),?_,rfl,?_,?_⟩))))
        ·exact ABk (AC7 Gj C8)
        ·exact Ad
        ·exact Gl
       ·refine ABr (q_t (ABj (Wk (AJa rfl (AIn AD6 rfl (AB4 AFh rfl ((Ad.b p1).cell (i:=1) rfl) (AC2 rfl rfl (AJa rfl (AIn AD6 rfl (AUp [Ab,(.int .i64 (w64 (0 + 1)))] AFh rfl rfl rfl (Ad.b p1) (Nat.le_of_ble_eq_true rfl) rfl fun Yw Gm Gn=>ABo (ABm (AMd (Wk (AJa rfl (AIn AI0 rfl ?_)))))))))))))));have B3:=Ad.sb p1 Gn Gm rfl;refine AB4 AOx rfl ((B3.b p1).cell (i:=0) rfl) (Wk (AJa rfl (AIn AD6 rfl (AB4 AFh rfl ((B3.b p1).cell (i:=1) rfl) (AF8 rfl rfl ?_)))));obtain ⟨Pm,Pn,Po⟩:=ABl (AC8 Gj C8);refine AJf (c:=(cI .i8)) APo rfl H4 rfl Pn fun Yx Yy Yz Pp Pq=>?_;obtain rfl:=Pp;refine AB4 AXx rfl (ABz (Pq 0 _ rfl) B3.x) (ALx AXy AK1 rfl (ABp (ABs (⟨_,ABu,(((w64 Pm),(w64 (0 + 1))):(Int) × (Int)),?_,rfl,?_,?_⟩))))
        ·exact ABk Po
        ·exact B3
        ·exact (Gl.then (Gm.stA Gn (AGa (Ad.b p1) rfl) rfl) (ALg rfl))
      obtain ⟨⟨Ps,Pt⟩,Pu,rfl,Gp,Pv⟩:=Pl;(try dsimp only [Kst.L,List.set,AIi,ALa] at Gp);refine ⟨trivial,?_⟩;subst Pu;(try dsimp only at Gk);refine ALx AK1 APp rfl (ALx APp AQ7 rfl (Wk (AG8 rfl rfl (by decide) (ABp (ABs (⟨_,ABu,(((Int.tmod (w64 (IntKind.wrap .u8 Ps)) 2),Pt):(Int) × (Int)),?_,rfl,?_,?_⟩))))))
      ·exact ABk Gk
      ·exact Gp
      ·exact (Ph.then Pv (AD4 (ALg rfl) all_nil))
     obtain ⟨⟨Gq,Pw⟩,Px,rfl,C9,Py⟩:=Pj;(try dsimp only [Kst.L,List.set,AIi,ALa] at C9);refine ⟨(B1.then Py (AD4 (ALg rfl) all_nil)),?_⟩;subst Px;(try dsimp only at Gi);refine AC2 rfl rfl (AEi (m:=(w64 ((w64 (1 + (Int.tmod (w64 a1) Af))) - 1))) ABx rfl (Ad.o2 p0) Gf Bg rfl B2 fun Y1 Pz=>AJg (m:=(w64 ((w64 (1 + (Int.tmod (w64 a1) Af))) - 1))) (AGb ACr rfl rfl rfl) (C9.o2 p0) Pz Bg B2 (show ((cI .i64)).rep _ (w64 (Gg + Gq)) _ from rfl) fun Y2 P0 P1=>ACj (q_b (q_t ?_)));exact ⟨(((sI Ox (w64 ((w64 (1 + (Int.tmod (w64 a1) Af))) - 1)) (sI O8 (w64 ((w64 (1 + (Int.tmod (w64 a1) Af))) - 1)) (w64 (Gg + Gq)))),O0,O3,O4,O5,Pw):(LiI) × (Value) × LnA × LnN × LvA × (Int)),⟨ABk Gi,(C9.uO2 p0 P1 P0)⟩,rfl,trivial⟩
    ·refine ABj (ADt rfl rfl (ABp ?_));have Gr:=AC8 Ge C7;refine ⟨_,rfl,fun Da=>?_,fun Da=>?_⟩
     ·refine ABw (Wk (Wk ?_));obtain ⟨P2,P3,Gt⟩:=ABl (AC7 Gr Da);refine ACn (K':=(fun xr h'=> ∃ x:(LiI) × (Value) × LnA × LnN × LvA × (Int),(x.1,x.2.2.2.2.2)=P2/\xr=x.2.1/\Kst h h' (aO2 (cI .i64) 23 2 x.2.2.1 x.2.2.2.1 x.2.2.2.2.1 x.2.1 x.1 :: (Ao.L.set 0 (aB 76 Aa [Ab,(.int .i64 x.2.2.2.2.2)]))))) trivial rfl ?_ fun Gu Y3 P4=>?_
      ·refine cwf (l:=[_,_,_]) Tryz.func63 rfl rfl (ABj (ACu (Wk ?_)));obtain ⟨P5,P6⟩:=ifN P3;refine AUu (cI .i64) 2 AB2 AMi rfl trivial tt2 rfl rfl (by decide) P5 fun P7 P8 P9 Gv Y4 Qa Qb Qc=>ABp (ABm (ABj (Wk ?_)));have Db:=Ao.no2 Qb Qc Qa;refine ADn AB2 rfl (Db.o2 p0).rd (Wk (ABo (ABq ?_)));obtain ⟨Gw,Qd,Gx⟩:=ABl P6;obtain ⟨Qe,Qg,Qh⟩:=ACl Qd;refine ACk 4294959360 (fun x:(Int) × (Int) × (LiI) × LnA × LnN × LvA=>[(13,(.int .i64 x.1))]) (fun k x h'=>iter Qe k (x.1,x.2.1,x.2.2.1)=some Gw/\Kst h h' ((Db.L.set 0 (aO2 (cI .i64) 23 2 x.2.2.2.1 x.2.2.2.2.1 x.2.2.2.2.2 Gv x.2.2.1)).set 1 (aB 76 Aa [Ab,(.int .i64 x.2.1)]))) (by kernel_rfl) fuel ((0,0,(List.replicate (Int.toNat (w64 (1 + (Int.tmod (w64 a1) Af)))) ([]:List Int)),P7,P8,P9):(Int) × (Int) × (LiI) × LnA × LnN × LvA) ?_ ⟨rfl,trivial⟩ ?_
       ·exact ⟨Qh,Db⟩
       rintro Y5 ⟨Aq,B4,Gy,Qi,Dc,Gz⟩ Qj Qk ⟨Ql,Dd⟩;(try dsimp only [Kst.L,List.set,AIi,ALa] at Dd);refine (show W _ _ _ (setL [(13,(.int .i64 Aq))] (mix _ Qj _)) Qk from ?_);obtain ⟨Qm,Y6,rfl,Bh,De⟩:=AB7 Ql;rw [Qg] at Bh;dsimp only at Bh;unfold AE2 at Bh;refine ABj (AC1 rfl rfl (ABo (ABm (⟨_,rfl,fun Df=>?_,fun Df=>?_⟩))))
       ·refine ABr (q_t (ABm (ABq (ABj (Wk (ACu (Wk (Wk (Wk ?_)))))))));obtain ⟨Qn,Qo⟩:=ifN (AC7 Bh Df);refine ASm (c:=(cI .i64)) (a:=0) ABx AIl rfl rfl (fun _=>rfl) rfl trivial tt2 rfl rfl (by decide) Qn fun G3 Qp Y7 Qq Qr Qs Qt=>?_;have Bi:=Dd.no Qr (AHc Qs Qt) Qq;obtain ⟨Y8,G4,Qu⟩:=ABl Qo;refine ADi AB2 rfl (Bi.o2 p1) rfl G4 fun Qv Y9 Qw Za Zb=>AWk ACm (Bi.o2 p1) G4 Qw rfl rfl (Bi.o p0) (Bi.dj p0 p1 (by decide)) fun Ay Qx Qy Qz=>ABo (AEq (fun h'=>UpT ([Aa] ++ []) Ay h') (by kernel_rfl) ?_);have Aj:=Bi.m2 p0 p1 (by decide) Qy Qx (fun z hz=> .inl (Qz z hz));have Dg:UpT ([Aa] ++ []) Ay Ay:=UpT.start (AD4 (AGa (Aj.b p2) rfl) all_nil);refine Wk (Wk ?_);obtain ⟨Q0,Dh,Q1⟩:=ABl Qu;refine ADi AB2 rfl (Aj.o2 p1) rfl Dh fun Zd Ze Q2 Q3 Q4=>AGc ACm rfl Dg (fun h' hb=>AKh Q4 hb (AP5 (Aj.dj p1 p2 (by decide) _ (by simp [aO,aO2,Q2])) AP6)) (Wk (Wk (Wk ?_)));obtain ⟨Q6,Q7,G5⟩:=ABl Q1;have Q8:UpT ([Aa] ++ []) Ay Ay:=UpT.start (AD4 (AGa (Aj.b p2) rfl) all_nil);refine ACn (K':=(fun xr h'=> ∃ x:(Int) × (Int),(x.1,x.2)=Q6/\xr=(.int .i64 x.1)/\Kst h h' ((AIi Aj.L [1,2]).set 1 (aB 76 Aa [Ab,(.int .i64 x.2)]))/\UpT ([Aa] ++ []) Ay h')) Dg rfl ?_ fun Zf Zg Q9=>?_
        ·refine cwf (l:=[_,_]) Tryz.func62 rfl rfl (ABj (ACu (Wk ?_)));obtain ⟨Rc,G6,G7⟩:=ABl Q7;have G8:UpT ([Aa] ++ []) Ay Ay:=UpT.start (AD4 (AGa (Aj.b p2) rfl) all_nil);refine ACn (K':=(fun xr h'=> ∃ x:(Int) × (Int),(x.1,x.2)=Rc/\xr=(.int .i64 x.1)/\Kst h h' ((AIi Aj.L [1,2]).set 1 (aB 76 Aa [Ab,(.int .i64 x.2)]))/\UpT ([Aa] ++ []) Ay h')) trivial rfl ?_ fun Zh Zj Rd=>?_
         ·refine cwf (l:=[_]) Tryz.func50 rfl rfl (ABj (ABp (ABm (ABm (AMd (Wk (AJa rfl (AIn AD6 rfl (AB4 AFh rfl ((Aj.b p2).cell (i:=1) rfl) (Wk (AJa rfl (AIn AI0 rfl (AB4 AOx rfl ((Aj.b p2).cell (i:=0) rfl) (AD1 APo rfl H4 (AL0 rfl rfl (ABo (⟨_,rfl,fun Di=>?_,fun Di=>?_⟩)))))))))))))))))
          ·refine ABj (ABp (ABs (AB1 (⟨_,ABu,((0,B4):(Int) × (Int)),?_,rfl,?_,?_⟩))))
           ·exact ABk (AC7 G6 Di)
           ·exact Aj.sel [1,2] (by decide)
           ·exact G8
          ·refine ABr (q_t (ABj (Wk (AJa rfl (AIn AD6 rfl (AB4 AFh rfl ((Aj.b p2).cell (i:=1) rfl) (AC2 rfl rfl (AJa rfl (AIn AD6 rfl (AUp [Ab,(.int .i64 (w64 (B4 + 1)))] AFh rfl rfl rfl (Aj.b p2) (Nat.le_of_ble_eq_true rfl) rfl fun Zk G9 Hb=>ABo (ABm (AMd (Wk (AJa rfl (AIn AI0 rfl ?_)))))))))))))));have B5:=Aj.sb p2 Hb G9 rfl;refine AB4 AOx rfl ((B5.b p2).cell (i:=0) rfl) (Wk (AJa rfl (AIn AD6 rfl (AB4 AFh rfl ((B5.b p2).cell (i:=1) rfl) (AF8 rfl rfl ?_)))));obtain ⟨Re,Rf,Rg⟩:=ABl (AC8 G6 Di);refine AJf (c:=(cI .i8)) APo rfl H4 rfl Rf fun Zl Zm Zn Rh Ri=>?_;obtain rfl:=Rh;refine AB4 AXx rfl (ABz (Ri 0 _ rfl) B5.x) (ALx AXy AK1 rfl (ABp (ABs (⟨_,ABu,(((w64 Re),(w64 (B4 + 1))):(Int) × (Int)),?_,rfl,?_,?_⟩))))
           ·exact ABk Rg
           ·exact B5.sel [1,2] (by decide)
           ·exact (G8.then (G9.stA Hb (AGa (Aj.b p2) rfl) rfl) (ALg rfl))
         obtain ⟨⟨Rj,Rm⟩,Rn,rfl,Hc,Ro⟩:=Rd;(try dsimp only [Kst.L,List.set,AIi,ALa] at Hc);refine ⟨trivial,?_⟩;subst Rn;(try dsimp only at G7);refine ALx AK1 APp rfl (ALx APp AQ7 rfl (Wk (AG8 rfl rfl (by decide) (ABp (ABs (⟨_,ABu,(((Int.tmod (w64 (IntKind.wrap .u8 Rj)) 9),Rm):(Int) × (Int)),?_,rfl,?_,?_⟩))))))
         ·exact ABk G7
         ·exact Hc
         ·exact (Q8.then Ro (AD4 (ALg rfl) all_nil))
        obtain ⟨⟨Hd,Rq⟩,Rr,rfl,Dj,Rs⟩:=Q9;(try dsimp only [Kst.L,List.set,AIi,ALa] at Dj);refine ⟨(Dg.then Rs (AD4 (ALg rfl) all_nil)),?_⟩;subst Rr;(try dsimp only at G5);refine AC2 rfl rfl ?_;obtain ⟨Zo,He,Rt⟩:=ABl G5;refine AEi (m:=Aq) ABx rfl (Aj.o2 p1) Q3 Dh rfl He fun Zp Ru=>AJg (m:=Aq) (AGb ACr rfl rfl rfl) (Dj.o2 p0) Ru Dh He (show ((cI .i64)).rep _ (w64 (1 + Hd)) _ from rfl) fun Zq Rv Rw=>ACj (q_b (q_t (ABw (AC2 rfl rfl (Wk (ABo ?_))))));obtain rfl:=ABk Rt;exact ⟨Qm,(((w64 (Aq + 1)),Rq,(sI (sI Gy Aq (List.replicate (Int.toNat (w64 (1 + (Int.tmod (w64 a1) Af)))) (0:Int))) Aq (sI Q0 Aq (w64 (1 + Hd)))),(Qv :: (Dc.set (Int.toNat Aq) [G3]).flatten),(Dc.set (Int.toNat Aq) [G3]),(Gz.set (Int.toNat Aq) Qp)):(Int) × (Int) × (LiI) × LnA × LnN × LvA),Nat.lt_succ_self _,⟨De,(Dj.uO2 p0 Rw Rv)⟩,rfl,trivial⟩
       ·obtain rfl:=ABk (AC8 Bh Df);change _=Gw at De;subst De;(try dsimp only at Gx);refine ACc (ACa (ACa (ADm (q_t (ABj (Wk (ABp (ABs (⟨_,ABu,((Gy,Gv,Qi,Dc,Gz,B4):(LiI) × (Value) × LnA × LnN × LvA × (Int)),?_,rfl,?_⟩)))))))))
        ·exact ABk Gx
        ·exact Dd
      obtain ⟨⟨Rx,Gu,Ry,Rz,R3,R4⟩,R5,rfl,Hf⟩:=P4;(try dsimp only [Kst.L,List.set,AIi,ALa] at Hf);refine ⟨trivial,?_⟩;subst R5;(try dsimp only at Gt);refine ACg (ACj (q_b (q_t ?_)));exact ⟨((Rx,Gu,Ry,Rz,R3,R4):(LiI) × (Value) × LnA × LnN × LvA × (Int)),⟨ABk Gt,Hf⟩,rfl,trivial⟩
     ·refine ABw (Wk (Wk ?_));obtain ⟨R6,R7,Hg⟩:=ABl (AC8 Gr Da);refine ACn (K':=(fun xr h'=> ∃ x:(LiI) × (Value) × LnA × LnN × LvA × (Int),(x.1,x.2.2.2.2.2)=R6/\xr=x.2.1/\Kst h h' (aO2 (cI .i64) 23 2 x.2.2.1 x.2.2.2.1 x.2.2.2.2.1 x.2.1 x.1 :: (Ao.L.set 0 (aB 76 Aa [Ab,(.int .i64 x.2.2.2.2.2)]))))) trivial rfl ?_ fun Hh Zr R8=>?_
      ·refine cwf (l:=[_,_,_]) Tryz.func63 rfl rfl (ABj (ACu (Wk ?_)));obtain ⟨R9,Sa⟩:=ifN R7;refine AUu (cI .i64) 2 AB2 AMi rfl trivial tt2 rfl rfl (by decide) R9 fun Sb Sc Sd Hj Zs Se Sf Sg=>ABp (ABm (ABj (Wk ?_)));have Dk:=Ao.no2 Sf Sg Se;refine ADn AB2 rfl (Dk.o2 p0).rd (Wk (ABo (ABq ?_)));obtain ⟨Hk,Sh,Hl⟩:=ABl Sa;obtain ⟨Si,Sj,Sk⟩:=ACl Sh;refine ACk 4294959360 (fun x:(Int) × (Int) × (LiI) × LnA × LnN × LvA=>[(13,(.int .i64 x.1))]) (fun k x h'=>iter Si k (x.1,x.2.1,x.2.2.1)=some Hk/\Kst h h' ((Dk.L.set 0 (aO2 (cI .i64) 23 2 x.2.2.2.1 x.2.2.2.2.1 x.2.2.2.2.2 Hj x.2.2.1)).set 1 (aB 76 Aa [Ab,(.int .i64 x.2.1)]))) (by kernel_rfl) fuel ((0,0,(List.replicate (Int.toNat (w64 (1 + (Int.tmod (w64 a1) Af)))) ([]:List Int)),Sb,Sc,Sd):(Int) × (Int) × (LiI) × LnA × LnN × LvA) ?_ ⟨rfl,trivial⟩ ?_
       ·exact ⟨Sk,Dk⟩
       rintro Zt ⟨Ar,B6,Hm,Sm,Dl,Hn⟩ Sn So ⟨Sq,Dn⟩;(try dsimp only [Kst.L,List.set,AIi,ALa] at Dn);refine (show W _ _ _ (setL [(13,(.int .i64 Ar))] (mix _ Sn _)) So from ?_);obtain ⟨Sr,Zu,rfl,Bj,Do⟩:=AB7 Sq;rw [Sj] at Bj;dsimp only at Bj;unfold AE3 at Bj;refine ABj (AC1 rfl rfl (ABo (ABm (⟨_,rfl,fun Dp=>?_,fun Dp=>?_⟩))))
       ·refine ABr (q_t (ABm (ABq (ABj (Wk (ACu (Wk (Wk (Wk ?_)))))))));obtain ⟨Ss,St⟩:=ifN (AC7 Bj Dp);refine ASm (c:=(cI .i64)) (a:=0) ABx AIl rfl rfl (fun _=>rfl) rfl trivial tt2 rfl rfl (by decide) Ss fun Ho Su Zv Sv Sw Sx Sy=>?_;have Bl:=Dn.no Sw (AHc Sx Sy) Sv;obtain ⟨Zw,Hq,Sz⟩:=ABl St;refine ADi AB2 rfl (Bl.o2 p1) rfl Hq fun S0 Zx S2 Zy Zz=>AWk ACm (Bl.o2 p1) Hq S2 rfl rfl (Bl.o p0) (Bl.dj p0 p1 (by decide)) fun Az S3 S4 S7=>ABo (AEq (fun h'=>UpT ([Aa] ++ []) Az h') (by kernel_rfl) ?_);have Ak:=Bl.m2 p0 p1 (by decide) S4 S3 (fun z hz=> .inl (S7 z hz));have Dq:UpT ([Aa] ++ []) Az Az:=UpT.start (AD4 (AGa (Ak.b p2) rfl) all_nil);refine Wk (Wk ?_);obtain ⟨Ta,Dr,Tb⟩:=ABl Sz;refine ADi AB2 rfl (Ak.o2 p1) rfl Dr fun Z1 Z2 Tc Td Te=>AGc ACm rfl Dq (fun h' hb=>AKh Te hb (AP5 (Ak.dj p1 p2 (by decide) _ (by simp [aO,aO2,Tc])) AP6)) (Wk (Wk (Wk ?_)));obtain ⟨Tf,Tg,Hr⟩:=ABl Tb;have Th:UpT ([Aa] ++ []) Az Az:=UpT.start (AD4 (AGa (Ak.b p2) rfl) all_nil);refine ACn (K':=(fun xr h'=> ∃ x:(Int) × (Int),(x.1,x.2)=Tf/\xr=(.int .i64 x.1)/\Kst h h' ((AIi Ak.L [1,2]).set 1 (aB 76 Aa [Ab,(.int .i64 x.2)]))/\UpT ([Aa] ++ []) Az h')) Dq rfl ?_ fun Z4 Z9 Ti=>?_
        ·refine cwf (l:=[_,_]) Tryz.func62 rfl rfl (ABj (ACu (Wk ?_)));obtain ⟨Tj,Hs,Ht⟩:=ABl Tg;have Hu:UpT ([Aa] ++ []) Az Az:=UpT.start (AD4 (AGa (Ak.b p2) rfl) all_nil);refine ACn (K':=(fun xr h'=> ∃ x:(Int) × (Int),(x.1,x.2)=Tj/\xr=(.int .i64 x.1)/\Kst h h' ((AIi Ak.L [1,2]).set 1 (aB 76 Aa [Ab,(.int .i64 x.2)]))/\UpT ([Aa] ++ []) Az h')) trivial rfl ?_ fun AAa AAb Tk=>?_
         ·refine cwf (l:=[_]) Tryz.func50 rfl rfl (ABj (ABp (ABm (ABm (AMd (Wk (AJa rfl (AIn AD6 rfl (AB4 AFh rfl ((Ak.b p2).cell (i:=1) rfl) (Wk (AJa rfl (AIn AI0 rfl (AB4 AOx rfl ((Ak.b p2).cell (i:=0) rfl) (AD1 APo rfl H4 (AL0 rfl rfl (ABo (⟨_,rfl,fun Ds=>?_,fun Ds=>?_⟩)))))))))))))))))
          ·refine ABj (ABp (ABs (AB1 (⟨_,ABu,((0,B6):(Int) × (Int)),?_,rfl,?_,?_⟩))))
           ·exact ABk (AC7 Hs Ds)
           ·exact Ak.sel [1,2] (by decide)
           ·exact Hu
          ·refine ABr (q_t (ABj (Wk (AJa rfl (AIn AD6 rfl (AB4 AFh rfl ((Ak.b p2).cell (i:=1) rfl) (AC2 rfl rfl (AJa rfl (AIn AD6 rfl (AUp [Ab,(.int .i64 (w64 (B6 + 1)))] AFh rfl rfl rfl (Ak.b p2) (Nat.le_of_ble_eq_true rfl) rfl fun AAc Hv Hw=>ABo (ABm (AMd (Wk (AJa rfl (AIn AI0 rfl ?_)))))))))))))));have B7:=Ak.sb p2 Hw Hv rfl;refine AB4 AOx rfl ((B7.b p2).cell (i:=0) rfl) (Wk (AJa rfl (AIn AD6 rfl (AB4 AFh rfl ((B7.b p2).cell (i:=1) rfl) (AF8 rfl rfl ?_)))));obtain ⟨Tl,Tm,Tn⟩:=ABl (AC8 Hs Ds);refine AJf (c:=(cI .i8)) APo rfl H4 rfl Tm fun AAd AAe AAf To Tp=>?_;obtain rfl:=To;refine AB4 AXx rfl (ABz (Tp 0 _ rfl) B7.x) (ALx AXy AK1 rfl (ABp (ABs (⟨_,ABu,(((w64 Tl),(w64 (B6 + 1))):(Int) × (Int)),?_,rfl,?_,?_⟩))))
           ·exact ABk Tn
           ·exact B7.sel [1,2] (by decide)
           ·exact (Hu.then (Hv.stA Hw (AGa (Ak.b p2) rfl) rfl) (ALg rfl))
         obtain ⟨⟨Tq,Tr⟩,Ts,rfl,Hx,Tt⟩:=Tk;(try dsimp only [Kst.L,List.set,AIi,ALa] at Hx);refine ⟨trivial,?_⟩;subst Ts;(try dsimp only at Ht);refine ALx AK1 APp rfl (ALx APp AQ7 rfl (Wk (AG8 rfl rfl (by decide) (ABp (ABs (⟨_,ABu,(((Int.tmod (w64 (IntKind.wrap .u8 Tq)) 1),Tr):(Int) × (Int)),?_,rfl,?_,?_⟩))))))
         ·exact ABk Ht
         ·exact Hx
         ·exact (Th.then Tt (AD4 (ALg rfl) all_nil))
        obtain ⟨⟨Hy,Tu⟩,Tv,rfl,Dt,Tw⟩:=Ti;(try dsimp only [Kst.L,List.set,AIi,ALa] at Dt);refine ⟨(Dq.then Tw (AD4 (ALg rfl) all_nil)),?_⟩;subst Tv;(try dsimp only at Hr);refine AC2 rfl rfl ?_;obtain ⟨AAg,Hz,Tx⟩:=ABl Hr;refine AEi (m:=Ar) ABx rfl (Ak.o2 p1) Td Dr rfl Hz fun AAh Ty=>AJg (m:=Ar) (AGb ACr rfl rfl rfl) (Dt.o2 p0) Ty Dr Hz (show ((cI .i64)).rep _ (w64 (1 + Hy)) _ from rfl) fun AAi Tz T0=>ACj (q_b (q_t (ABw (AC2 rfl rfl (Wk (ABo ?_))))));obtain rfl:=ABk Tx;exact ⟨Sr,(((w64 (Ar + 1)),Tu,(sI (sI Hm Ar (List.replicate (Int.toNat (w64 (1 + (Int.tmod (w64 a1) Af)))) (0:Int))) Ar (sI Ta Ar (w64 (1 + Hy)))),(S0 :: (Dl.set (Int.toNat Ar) [Ho]).flatten),(Dl.set (Int.toNat Ar) [Ho]),(Hn.set (Int.toNat Ar) Su)):(Int) × (Int) × (LiI) × LnA × LnN × LvA),Nat.lt_succ_self _,⟨Do,(Dt.uO2 p0 T0 Tz)⟩,rfl,trivial⟩
       ·obtain rfl:=ABk (AC8 Bj Dp);change _=Hk at Do;subst Do;(try dsimp only at Hl);refine ACc (ACa (ACa (ADm (q_t (ABj (Wk (ABp (ABs (⟨_,ABu,((Hm,Hj,Sm,Dl,Hn,B6):(LiI) × (Value) × LnA × LnN × LvA × (Int)),?_,rfl,?_⟩)))))))))
        ·exact ABk Hl
        ·exact Dn
      obtain ⟨⟨T1,Hh,T2,T3,T4,T5⟩,T6,rfl,H5⟩:=R8;(try dsimp only [Kst.L,List.set,AIi,ALa] at H5);refine ⟨trivial,?_⟩;subst T6;(try dsimp only at Hg);refine ACg (ACj (q_b (q_t ?_)));exact ⟨((T1,Hh,T2,T3,T4,T5):(LiI) × (Value) × LnA × LnN × LvA × (Int)),⟨ABk Hg,H5⟩,rfl,trivial⟩
 rintro ⟨AAj,T7,AAk,AAl,AAm,T8⟩ T9 Ua ⟨Ub,Du⟩;(try dsimp only [Kst.L,List.set,AIi,ALa] at Du);refine (show W _ _ _ (setL [(7,T7)] (mix _ T9 _)) Ua from ?_);subst Ub;(try dsimp only at D9);refine ABm (ABj (Wk ?_));obtain ⟨AAn,Uc,H9⟩:=ABl D9;refine AC4 rfl (ARi (Du.o2 p0).rd Uc) fun AAo AAp Ud Ue=>?_;subst Ue;refine AGr rfl (ABo ?_);have Bm:=Du.e Ud;refine ⟨_,rfl,fun Dv=>?_,fun Dv=>?_⟩
 ·refine ABj (Wk (Wk ?_));obtain ⟨Uf,Ug,Ia⟩:=ABl (ifT H9 Dv);refine ACn (K':=(fun xr h'=> ∃ x:(LiI) × (Value) × LnA × LnN × LvA × (Int),(x.1,x.2.2.2.2.2)=Uf/\xr=x.2.1/\Kst h h' (aO2 (cI .i64) 23 2 x.2.2.1 x.2.2.2.1 x.2.2.2.2.1 x.2.1 x.1 :: (Bm.L.set 1 (aB 76 Aa [Ab,(.int .i64 x.2.2.2.2.2)]))))) trivial rfl ?_ fun Uh AAq Ui=>?_
  ·refine cwf (l:=[_,_,_]) Tryz.func63 rfl rfl (ABj (ACu (Wk ?_)));obtain ⟨Uj,Uk⟩:=ifN Ug;refine AUu (cI .i64) 2 AB2 AMi rfl trivial tt2 rfl rfl (by decide) Uj fun Ul Um Un Ib AAr Uo Up Uq=>ABp (ABm (ABj (Wk ?_)));have Dw:=Bm.no2 Up Uq Uo;refine ADn AB2 rfl (Dw.o2 p0).rd (Wk (ABo (ABq ?_)));obtain ⟨Ic,Ur,Id⟩:=ABl Uk;obtain ⟨Ut,Uu,Uv⟩:=ACl Ur;refine ACk 4294959360 (fun x:(Int) × (Int) × (LiI) × LnA × LnN × LvA=>[(13,(.int .i64 x.1))]) (fun k x h'=>iter Ut k (x.1,x.2.1,x.2.2.1)=some Ic/\Kst h h' ((Dw.L.set 0 (aO2 (cI .i64) 23 2 x.2.2.2.1 x.2.2.2.2.1 x.2.2.2.2.2 Ib x.2.2.1)).set 2 (aB 76 Aa [Ab,(.int .i64 x.2.1)]))) (by kernel_rfl) fuel ((0,T8,(List.replicate (Int.toNat (w64 (1 + (Int.tmod (w64 a1) Af)))) ([]:List Int)),Ul,Um,Un):(Int) × (Int) × (LiI) × LnA × LnN × LvA) ?_ ⟨rfl,trivial⟩ ?_
   ·exact ⟨Uv,Dw⟩
   rintro AAs ⟨Au,B8,Ie,Uw,Dx,If⟩ Ux Uy ⟨Uz,Dy⟩;(try dsimp only [Kst.L,List.set,AIi,ALa] at Dy);refine (show W _ _ _ (setL [(13,(.int .i64 Au))] (mix _ Ux _)) Uy from ?_);obtain ⟨U0,AAt,rfl,Bn,Dz⟩:=AB7 Uz;rw [Uu] at Bn;dsimp only at Bn;unfold AE4 at Bn;refine ABj (AC1 rfl rfl (ABo (ABm (⟨_,rfl,fun D0=>?_,fun D0=>?_⟩))))
   ·refine ABr (q_t (ABm (ABq (ABj (Wk (ACu (Wk (Wk (Wk ?_)))))))));obtain ⟨U3,U8⟩:=ifN (AC7 Bn D0);refine ASm (c:=(cI .i64)) (a:=0) ABx AIl rfl rfl (fun _=>rfl) rfl trivial tt2 rfl rfl (by decide) U3 fun Ih Va AAu Vb Vc Vd Ve=>?_;have Bo:=Dy.no Vc (AHc Vd Ve) Vb;obtain ⟨AAv,Ii,Vf⟩:=ABl U8;refine ADi AB2 rfl (Bo.o2 p1) rfl Ii fun Vg AAw Vh AAx AAy=>AWk ACm (Bo.o2 p1) Ii Vh rfl rfl (Bo.o p0) (Bo.dj p0 p1 (by decide)) fun A3 Vi Vj Vk=>ABo (AEq (fun h'=>UpT ([Aa] ++ []) A3 h') (by kernel_rfl) ?_);have Am:=Bo.m2 p0 p1 (by decide) Vj Vi (fun z hz=> .inl (Vk z hz));have D1:UpT ([Aa] ++ []) A3 A3:=UpT.start (AD4 (AGa (Am.b p3) rfl) all_nil);refine Wk (Wk ?_);obtain ⟨Vl,D2,Vm⟩:=ABl Vf;refine ADi AB2 rfl (Am.o2 p1) rfl D2 fun AAz AA0 Vn Vo Vp=>AGc ACm rfl D1 (fun h' hb=>AKh Vp hb (AP5 (Am.dj p1 p3 (by decide) _ (by simp [aO,aO2,Vn])) AP6)) (Wk (Wk (Wk ?_)));obtain ⟨Vq,Vr,Ij⟩:=ABl Vm;have Vs:UpT ([Aa] ++ []) A3 A3:=UpT.start (AD4 (AGa (Am.b p3) rfl) all_nil);refine ACn (K':=(fun xr h'=> ∃ x:(Int) × (Int),(x.1,x.2)=Vq/\xr=(.int .i64 x.1)/\Kst h h' ((AIi Am.L [1,2,3]).set 2 (aB 76 Aa [Ab,(.int .i64 x.2)]))/\UpT ([Aa] ++ []) A3 h')) D1 rfl ?_ fun AA1 AA2 Vt=>?_
    ·refine cwf (l:=[_,_]) Tryz.func62 rfl rfl (ABj (ACu (Wk ?_)));obtain ⟨Vu,Ik,Il⟩:=ABl Vr;have Im:UpT ([Aa] ++ []) A3 A3:=UpT.start (AD4 (AGa (Am.b p3) rfl) all_nil);refine ACn (K':=(fun xr h'=> ∃ x:(Int) × (Int),(x.1,x.2)=Vu/\xr=(.int .i64 x.1)/\Kst h h' ((AIi Am.L [1,2,3]).set 2 (aB 76 Aa [Ab,(.int .i64 x.2)]))/\UpT ([Aa] ++ []) A3 h')) trivial rfl ?_ fun AA3 AA4 Vv=>?_
     ·refine cwf (l:=[_]) Tryz.func50 rfl rfl (ABj (ABp (ABm (ABm (AMd (Wk (AJa rfl (AIn AD6 rfl (AB4 AFh rfl ((Am.b p3).cell (i:=1) rfl) (Wk (AJa rfl (AIn AI0 rfl (AB4 AOx rfl ((Am.b p3).cell (i:=0) rfl) (AD1 APo rfl H4 (AL0 rfl rfl (ABo (⟨_,rfl,fun D3=>?_,fun D3=>?_⟩)))))))))))))))))
      ·refine ABj (ABp (ABs (AB1 (⟨_,ABu,((0,B8):(Int) × (Int)),?_,rfl,?_,?_⟩))))
       ·exact ABk (AC7 Ik D3)
       ·exact Am.sel [1,2,3] (by decide)
       ·exact Im
      ·refine ABr (q_t (ABj (Wk (AJa rfl (AIn AD6 rfl (AB4 AFh rfl ((Am.b p3).cell (i:=1) rfl) (AC2 rfl rfl (AJa rfl (AIn AD6 rfl (AUp [Ab,(.int .i64 (w64 (B8 + 1)))] AFh rfl rfl rfl (Am.b p3) (Nat.le_of_ble_eq_true rfl) rfl fun AA5 Io Ip=>ABo (ABm (AMd (Wk (AJa rfl (AIn AI0 rfl ?_)))))))))))))));have B9:=Am.sb p3 Ip Io rfl;refine AB4 AOx rfl ((B9.b p3).cell (i:=0) rfl) (Wk (AJa rfl (AIn AD6 rfl (AB4 AFh rfl ((B9.b p3).cell (i:=1) rfl) (AF8 rfl rfl ?_)))));obtain ⟨Vw,Vx,Vy⟩:=ABl (AC8 Ik D3);refine AJf (c:=(cI .i8)) APo rfl H4 rfl Vx fun AA6 AA7 AA8 Vz V1=>?_;obtain rfl:=Vz;refine AB4 AXx rfl (ABz (V1 0 _ rfl) B9.x) (ALx AXy AK1 rfl (ABp (ABs (⟨_,ABu,(((w64 Vw),(w64 (B8 + 1))):(Int) × (Int)),?_,rfl,?_,?_⟩))))
       ·exact ABk Vy
       ·exact B9.sel [1,2,3] (by decide)
       ·exact (Im.then (Io.stA Ip (AGa (Am.b p3) rfl) rfl) (ALg rfl))
     obtain ⟨⟨V5,V6⟩,Wa,rfl,Iq,Wb⟩:=Vv;(try dsimp only [Kst.L,List.set,AIi,ALa] at Iq);refine ⟨trivial,?_⟩;subst Wa;(try dsimp only at Il);refine ALx AK1 APp rfl (ALx APp AQ7 rfl (Wk (AG8 rfl rfl (by decide) (ABp (ABs (⟨_,ABu,(((Int.tmod (w64 (IntKind.wrap .u8 V5)) 2),V6):(Int) × (Int)),?_,rfl,?_,?_⟩))))))
     ·exact ABk Il
     ·exact Iq
     ·exact (Vs.then Wb (AD4 (ALg rfl) all_nil))
    obtain ⟨⟨Ir,Wc⟩,Wd,rfl,D4,We⟩:=Vt;(try dsimp only [Kst.L,List.set,AIi,ALa] at D4);refine ⟨(D1.then We (AD4 (ALg rfl) all_nil)),?_⟩;subst Wd;(try dsimp only at Ij);refine AC2 rfl rfl ?_;obtain ⟨AA9,It,Wf⟩:=ABl Ij;refine AEi (m:=Au) ABx rfl (Am.o2 p1) Vo D2 rfl It fun ABa Wg=>AJg (m:=Au) (AGb ACr rfl rfl rfl) (D4.o2 p0) Wg D2 It (show ((cI .i64)).rep _ (w64 (1 + Ir)) _ from rfl) fun ABb Wh Wi=>ACj (q_b (q_t (ABw (AC2 rfl rfl (Wk (ABo ?_))))));obtain rfl:=ABk Wf;exact ⟨U0,(((w64 (Au + 1)),Wc,(sI (sI Ie Au (List.replicate (Int.toNat (w64 (1 + (Int.tmod (w64 a1) Af)))) (0:Int))) Au (sI Vl Au (w64 (1 + Ir)))),(Vg :: (Dx.set (Int.toNat Au) [Ih]).flatten),(Dx.set (Int.toNat Au) [Ih]),(If.set (Int.toNat Au) Va)):(Int) × (Int) × (LiI) × LnA × LnN × LvA),Nat.lt_succ_self _,⟨Dz,(D4.uO2 p0 Wi Wh)⟩,rfl,trivial⟩
   ·obtain rfl:=ABk (AC8 Bn D0);change _=Ic at Dz;subst Dz;(try dsimp only at Id);refine ACc (ACa (ACa (ADm (q_t (ABj (Wk (ABp (ABs (⟨_,ABu,((Ie,Ib,Uw,Dx,If,B8):(LiI) × (Value) × LnA × LnN × LvA × (Int)),?_,rfl,?_⟩)))))))))
    ·exact ABk Id
    ·exact Dy
  obtain ⟨⟨ABc,Uh,ABd,ABe,ABf,ABg⟩,Wj,rfl,Ca⟩:=Ui;(try dsimp only [Kst.L,List.set,AIi,ALa] at Ca);refine ⟨trivial,?_⟩;subst Wj;(try dsimp only at Ia);refine ABp (ABs (AB1 ?_));obtain rfl:=ABk Ia;exact ⟨_,ABu,Ca.x,_,_,_,_,rfl,(Ca.o2 p0),Ca.s.sel [0] (by decide)⟩
 ·refine ABr (q_t (ABj (Wk (ABp (ABs ?_)))));obtain rfl:=ABk (ALo H9 Dv);exact ⟨_,ABu,Bm.x,_,_,_,_,rfl,(Bm.o2 p0),Bm.s.sel [0] (by decide)⟩
def AEz (fuel:Nat) (a1 a2:Int) (a5 a9:LiA) (Ae:Int):Option LiI:=
  ((AEy fuel a1 a2 a5 a9 Ae).bind fun Af=>((AE5 fuel Af).bind fun Ag=>((AF2 fuel Ag).bind fun (Ah,Ai,Aj)=>(some Ah))))
theorem AM7 {fuel:Nat} {h:ABh} {a1 a2:Int} {Ac:Value} {a5:LiA} {Ad:Value} {a9:LiA} {Ai:Int} {r:LiI} (H4:SlC (cI .i8) h Ac a5) (H8:SlC (cI .i8) h Ad a9) (hp:AEz fuel a1 a2 a5 a9 Ai=some r):ACd Tryz.prog 12 #[(.agg #[(.int .u8 a1),(.int .u8 a2),Ac,Ad]),(.int .i64 Ai)] h (fun x h'=>Ext h h'/\ ∃ (x0:Value) (F0:List Nat) (Au:List LnA) (Av:List Value),x=x0/\AFe (cI .i64) 23 2 h' F0 Au Av x0 r/\Sp h' h.size [F0]):=by
 unfold AEz at hp;refine cwf (l:=[_,_]) Tryz.func12 rfl rfl (ABj (AHz [(.int .u8 a1),(.int .u8 a2),Ac,Ad] trivial tt2 rfl rfl fun Bx By Aw Ax Ay=>ACu ?_));have Ae:=(Kst.k0 h).nb Ax Ay Aw;refine AGz [(.int .u8 a1),(.int .u8 a2),Ac,Ad] An7 rfl rfl (Ae.b p0).agg (Wk ?_);obtain ⟨Bz,Az,A3⟩:=ABl hp;refine AC4 rfl (AM6 (H4.ext Ae.x) (H8.ext Ae.x) Az) fun B1 B2 A4 A5=>?_;obtain ⟨B3,B4,B5,B6,rfl,A6,A7⟩:=A5;have Am:=Ae.no2 A4 A7 A6;obtain ⟨B7,A8,A9⟩:=ABl A3;refine AC4 rfl (AKn (Am.o2 p0).rd A8) fun B8 B9 Ba Bb=>?_;obtain ⟨Ca,Cb,Cd,Ce,rfl,Bc,Be⟩:=Bb;have Ao:=Am.no2 Ba Be Bc;obtain ⟨⟨Bf,Bg,Cf⟩,Bh,Ap⟩:=ABl A9;dsimp only at Ap;refine AC4 rfl (APk (Ao.o2 p0).rd Bh) fun Cg Ch Bi Bj=>?_;obtain ⟨Bl,Bm,Bn,Bo,Bp,Bq,Br,Bt,rfl,Bu,Bv,Bw⟩:=Bj;have Af:=Ao.n Bi [aO2 (cI .i64) 23 2 Bm Bn Bo Bl Bf,aO2 cZ 112 109 Bq Br Bt Bp Bg] Bw ⟨Bu,Bv,trivial⟩;simp only [List.cons_append,List.nil_append] at Af;refine Wk (ADc rfl rfl (ADc rfl rfl (ADc rfl rfl (ACg (ACg (ACu (Wk (ABp (ABs ?_)))))))));obtain rfl:=ABk Ap;exact ⟨_,ABu,Af.x,_,_,_,_,rfl,(Af.o2 p0),Af.s.sel [0] (by decide)⟩
end Go.Proofs.YtiegjkmfpcgjjaaGreatDoor
namespace Go.QF
open Go
theorem Aas {h:ABh} {v:Value} {l:List Value} (H:Sl h v l):SlK h 1 v (l.map fun x=>[x]):=by
 obtain ⟨a,cap,hv,hc⟩:=H;refine ⟨a,cap,by rw [List.length_map];exact hv,fun i row hr=>?_⟩;rw [List.getElem?_map] at hr;obtain ⟨x,hx,rfl⟩:=Option.map_eq_some_iff.1 hr;obtain ⟨b,o,ha,hb⟩:=hc i x hx;refine ⟨b,o,ha,fun j y hy=>?_⟩
 cases j with
 | zero=>injection hy with hy;subst hy;rw [Nat.mul_one,Nat.add_zero];exact hb
 | succ j=>simp at hy
theorem Aat {h:ABh} {v:Value} {l:List Value} (H:SlK h 1 v (l.map fun x=>[x])):Sl h v l:=by
 obtain ⟨a,cap,hv,hc⟩:=H;refine ⟨a,cap,by rw [List.length_map] at hv;exact hv,fun i x hx=>?_⟩;obtain ⟨b,o,ha,hb⟩:=hc i [x] (by simp [hx]);refine ⟨b,o,ha,?_⟩;have:=hb 0 x rfl;rwa [Nat.mul_one,Nat.add_zero] at this
theorem Ag6 {κ:IntKind} {h:ABh} {v:Value} {L:List Int} (H:Sl h v (L.map (.int κ))):SlC (cI κ) h v L:=by
 refine ⟨L.map fun a=>[.int κ a],?_,by simp,fun i cs a h1 h2=>?_⟩
 ·have:=Aas H;rwa [List.map_map] at this
 ·rw [List.getElem?_map,h2] at h1;injection h1 with h1;exact h1.symm
theorem Atm {κ:IntKind} {h:ABh} {v:Value} {L:List Int} (H:SlC (cI κ) h v L):Sl h v (L.map (.int κ)):=by
 obtain ⟨Ls,h1,h2,h3⟩:=H
 have:Ls=(L.map (Value.int κ)).map fun x=>[x]:=by
   apply List.ext_getElem?
   intro i
   by_cases hi:i < L.length
   · obtain ⟨a,ha⟩:∃ a,L[i]? =some a:=⟨L[i],List.getElem?_eq_getElem hi⟩
     obtain ⟨cs,hcs⟩:∃ cs,Ls[i]? =some cs:=⟨Ls[i]'(by omega),List.getElem?_eq_getElem _⟩
     have:=h3 i cs a hcs ha
     rw [hcs,List.map_map,List.getElem?_map,ha]
     exact congrArg some this
   · rw [List.getElem?_eq_none (by omega),List.getElem?_eq_none (by simp;omega)]
 subst this;exact Aat h1
theorem An8 {h:ABh} {v:Value} {M:List (List Int)} (H:AGe (cI .i64) h v M):Mat h v M:=by
 obtain ⟨_,rs,h1,h2,h3⟩:=H;exact ⟨rs,Aat h1,h2,fun i r z hr hz=>Atm (h3 i r z hr hz)⟩
theorem Ars {h:ABh} {v:Value} {M:List (List Int)} (H:Mat h v M) (hc:AMy v):AGe (cI .i64) h v M:=by
 obtain ⟨rs,h1,h2,h3⟩:=H;exact ⟨hc,rs,Aas h1,h2,fun i r z hr hz=>Ag6 (h3 i r z hr hz)⟩
end Go.QF
namespace Go.QF
def Abs (x b:Int):Prop:= -b<=x/\x<=b
theorem ATb {x y a b:Int} (hx:Abs x a) (hy:Abs y b):Abs (x * y) (a * b):=by
 unfold Abs at *;have ha:0<=a:=by omega
 have hb:0<=b:=by omega
 have h1:0<=(a - x) * (b - y):=Int.mul_nonneg (by omega) (by omega);have h2:0<=(a - x) * (b + y):=Int.mul_nonneg (by omega) (by omega);have h3:0<=(a + x) * (b - y):=Int.mul_nonneg (by omega) (by omega);have h4:0<=(a + x) * (b + y):=Int.mul_nonneg (by omega) (by omega);constructor <;> grind
theorem An9 {x b y:Int} (hb:0 < b) (hx:Abs x (b * y)):Abs (x.tdiv b) y:=by
 unfold Abs at *;rcases ARx x 0 with h | h
 ·have h1:x.tdiv b= -((-x).tdiv b):=by rw [Int.neg_tdiv,Int.neg_neg]
  have h2:(-x).tdiv b=(-x) / b:=Int.tdiv_eq_ediv_of_nonneg (by omega)
  have h3:(-x) / b<=y:=by
    have:(-x) / b<=(b * y) / b:=Int.ediv_le_ediv hb (by omega)
    rwa [Int.mul_ediv_cancel_left _ (by omega)] at this
  have h4:0<=(-x) / b:=Int.ediv_nonneg (by omega) (by omega);omega
 ·have h2:x.tdiv b=x / b:=Int.tdiv_eq_ediv_of_nonneg h
  have h3:x / b<=y:=by
    have:x / b<=(b * y) / b:=Int.ediv_le_ediv hb (by omega)
    rwa [Int.mul_ediv_cancel_left _ (by omega)] at this
  have h4:0<=x / b:=Int.ediv_nonneg h (by omega);omega
def AYw (M:List (List Int)):Prop:=(1<=M.length/\M.length<=8)/\(∀ z∈M,z.length=M.length)/\ ∀ i j,i < M.length->j < M.length->ent M i j=ent M j i/\ -262144 < ent M i j/\ent M i j < 262144
open Classical in
noncomputable def AJ1 (M:List (List Int)):Bool:=decide (AYw M)
theorem AF7 {M:List (List Int)} (h:AYw M):true=AJ1 M:=by simp [AJ1,h]
theorem AEu {M:List (List Int)} (h: ¬ AYw M):false=AJ1 M:=by simp [AJ1,h]
theorem AYx {M:List (List Int)} (h:AJ1 M=true):AYw M:=by simpa [AJ1] using h
def AN0 (m:Nat) (F:Nat->Nat->Int):Prop:=(0 < F 0 0/\F 0 0 < 65536)/\ ∀ i,1<=i->i < m->2 * F i 0<=F 0 0/\ -2 * F i 0<=F 0 0
instance (m:Nat) (F:Nat->Nat->Int):Decidable (AN0 m F):=by
  unfold AN0
  have:Decidable (∀ i,1<=i->i < m->2 * F i 0<=F 0 0/\ -2 * F i 0<=F 0 0):=
    decidable_of_iff (∀ i,i < m->1<=i->2 * F i 0<=F 0 0/\ -2 * F i 0<=F 0 0) ⟨fun h i a b=>h i b a,fun h i a b=>h i b a⟩
  infer_instance
def APl (F:Nat->Nat->Int) (last:Int):Nat->Nat->Int:=fun i j=>(F 0 0 * F (i + 1) (j + 1) - F (i + 1) 0 * F 0 (j + 1)).tdiv last
def ATm (F:Nat->Nat->Int) (last:Int):Prop:=3 * F 0 0 * F 0 0<=4 * (last * APl F last 0 0 + F 1 0 * F 1 0)
instance (F:Nat->Nat->Int) (last:Int):Decidable (ATm F last):=by unfold ATm;infer_instance
def AN1:Nat->(Nat->Nat->Int)->Int->Bool
  | 0,_,_=>false
  | 1,F,_=>decide (0 < F 0 0/\F 0 0<=10000)
  | m + 2,F,last=>decide (AN0 (m + 2) F) && (decide (ATm F last) && AN1 (m + 1) (APl F last) (F 0 0))
noncomputable def isRed (M:List (List Int)):Bool:=AJ1 M && AN1 M.length (ent M) 1
structure Stg (m:Nat) (F:Nat->Nat->Int) (last:Int) (K:Int):Prop where
  sym:∀ i j,i < m->j < m->F i j=F j i
  bd:∀ i j,i < m->j < m->Abs (F i j) (last * K)
  l1:1<=last
  l2:last<=65535
theorem Aes {m:Nat} {F:Nat->Nat->Int} {last K:Int} (H:Stg (m + 1) F last K) (hK:0<=K) (hs:AN0 (m + 1) F):Stg m (APl F last) (F 0 0) (K + 16384):=by
 have hd:=hs.1
 have hcol:∀ i,i < m->Abs (2 * F (i + 1) 0) (F 0 0):=fun i hi=>by
   have:=hs.2 (i + 1) (by omega) (by omega)
   exact ⟨by omega,by omega⟩
 refine ⟨fun i j hi hj=>?_,fun i j hi hj=>?_,by omega,by omega⟩
 ·unfold APl;rw [H.sym (i + 1) (j + 1) (by omega) (by omega),H.sym (i + 1) 0 (by omega) (by omega),H.sym 0 (j + 1) (by omega) (by omega),Int.mul_comm (F 0 (i + 1))]
 ·unfold APl;refine An9 (by have:=H.l1;omega) ?_;have h1:Abs (F 0 0 * F (i + 1) (j + 1)) (F 0 0 * (last * K)):=ATb ⟨by omega,by omega⟩ (H.bd _ _ (by omega) (by omega))
  have h2:Abs (2 * F (i + 1) 0 * (2 * F 0 (j + 1))) (F 0 0 * F 0 0):=by
    refine ATb (hcol i hi) ?_
    rw [H.sym 0 (j + 1) (by omega) (by omega)];exact hcol j hj
  have h3:0<=F 0 0 * (65536 - F 0 0):=Int.mul_nonneg (by omega) (by omega);have h4:0<=F 0 0 * (last - 1):=Int.mul_nonneg (by omega) (by have:=H.l1;omega);unfold Abs at *;have e1:2 * F (i + 1) 0 * (2 * F 0 (j + 1))=4 * (F (i + 1) 0 * F 0 (j + 1)):=by grind
  rw [e1] at h2;have e2:last * (F 0 0 * (K + 16384))=F 0 0 * (last * K) + 16384 * (F 0 0 * last):=by grind
  rw [e2];have e3:F 0 0 * (65536 - F 0 0)=65536 * F 0 0 - F 0 0 * F 0 0:=by grind
  have e4:F 0 0 * (last - 1)=F 0 0 * last - F 0 0:=by grind
  rw [e3] at h3;rw [e4] at h4;omega
theorem Akx {M:List (List Int)} (h:AYw M):Stg M.length (ent M) 1 262144:=by
 refine ⟨fun i j hi hj=>(h.2.2 i j hi hj).1,fun i j hi hj=>?_,by omega,by omega⟩;have:=h.2.2 i j hi hj;unfold Abs;omega
theorem AM8 {m:Nat} {F:Nat->Nat->Int} {last:Int} (h:2<=m) (hs: ¬ AN0 m F):AN1 m F last=false:=by
 obtain ⟨n,rfl⟩:∃ n,m=n + 2:=⟨m - 2,by omega⟩;unfold AN1;rw [decide_eq_false hs];rfl
theorem AQn {m:Nat} {F:Nat->Nat->Int} {last:Int} (h:2<=m) (hs: ¬ ATm F last):AN1 m F last=false:=by
 obtain ⟨n,rfl⟩:∃ n,m=n + 2:=⟨m - 2,by omega⟩;unfold AN1;rw [decide_eq_false hs,Bool.false_and,Bool.and_false]
theorem Aky {m:Nat} {F:Nat->Nat->Int} {last:Int} (h:2<=m) (hs:AN0 m F) (hl:ATm F last):AN1 m F last=AN1 (m - 1) (APl F last) (F 0 0):=by
 obtain ⟨n,rfl⟩:∃ n,m=n + 2:=⟨m - 2,by omega⟩;rw [AN1,decide_eq_true hs,decide_eq_true hl];rfl
theorem AXg {m:Nat} {F:Nat->Nat->Int} {last K:Int} (H:Stg m F last K) (hK0:0<=K) (hK:K<=393216) {i j:Nat} (hi:i < m) (hj:j < m):Abs (F i j) 34359738368:=by
  have h1:=H.bd i j hi hj;have h2:=(AQ3 (a:=last) (b:=K) (A:=65535) (B:=393216) (by have:=H.l1;omega) H.l2 hK0 hK).2;unfold Abs at *;omega
end Go.QF
namespace Go.Proofs.YtiegjkmfpcgjjaaGreatDoor
open Go Go.QF
set_option maxRecDepth 100000
def zf (z:List Int) (c:Nat):Int:=z[c]?.getD 0
theorem Aet (z:List Int):(List.range z.length).map (zf z)=z:=by
 refine List.ext_getElem (by simp) fun i h1 h2=>?_;simp [zf,h2]
theorem Aoa {z:List Int} {m:Int} (hm:0 < m) (h:∀ x∈z,0<=x/\x < m) (c:Nat):0<=zf z c/\zf z c < m:=by
 unfold zf;rcases Nat.lt_or_ge c z.length with hc | hc
 ·simp [hc];exact h _ (List.getElem_mem _)
 ·simp [List.getElem?_eq_none hc,hm]
theorem Aob {h:ABh} {g:Nat} {v:Value} {z:List Int} (HO:AD2 h tI g v (z.map (.int .i64))) {f m:Int} (hz:∀ x∈z,0<=x/\x < m) (hf:0<=f) (hfm:f < m) (hm:2<=m) (Ac:m<=2147483647) (hl:z.length<=1000000):
    ACd Tryz.prog 76 #[v,.int .i64 f,.int .i64 m] h fun r h'=>Upd (· =g) h h'/\AD2 h' tI g v (((List.range z.length).map fun c=>zf z c * f % m).map (.int .i64)):=by
 refine ACv (l:=[_,_,_]) mx Tryz.func76 rfl rfl rfl rfl rfl (by kernel_rfl) (ABj (Wk (AOv ABx rfl HO.sl (Wk (ABo (ABq (ACk 16776384 (fun j:Nat=>[(10,.int .i64 (j:Int))]) (fun k j h'=>Upd (· =g) h h'/\k=z.length - j/\j<=z.length/\AD2 h' tI g v ((ATk z.length (fun c=>zf z c * f % m) (zf z) j).map (.int .i64))) (by kernel_rfl) z.length 0 ?_ ⟨rfl,trivial⟩ ?_)))))))
 ·exact ⟨Upd.refl _ _,by omega,by omega,by rw [AVq,Aet];exact HO⟩
 rintro k j s h1 ⟨hU,rfl,hj,HQ⟩;refine ABj (AFd rfl rfl (fun Ab=>?_) (fun Ab=>?_))
 ·refine ABo (ABm (AB6 rfl (ABr (q_t (ABm (ABq (ABj (Wk (ALf ABx rfl HQ.sl rfl (Ahx (by omega)) fun aX haX=>AB4 ACr rfl haX (ACg (ABp ?_)))))))))));have hxb:=Aoa (by omega) hz j;have hxf:=AQ3 (a:=zf z j) (b:=f) (A:=2147483647) (B:=2147483647) (by omega) (by omega) (by omega) (by omega);refine ABw (Wk (Wk (Wk (Wk (AKk rfl rfl (by omega) (by omega) (Wk (ANv rfl rfl (by omega) (by omega) (AMw ABx rfl HQ rfl (by rw [List.length_map,AK2];omega) ?_))))))));refine ARw ACr rfl rfl rfl HQ (by rw [List.length_map,AK2];omega) ?_;have Aa:=HQ.setI (j:=j) (by rw [AK2];omega) (zf z j * f % m);rw [AX1 (by omega) rfl] at Aa;refine ACj (q_b (q_t (ABw (AIj rfl (by omega) (Wk (ABo ?_))))));exact ⟨z.length - (j + 1),j + 1,by omega,⟨hU.trans (AGt _ _ _),rfl,by omega,Aa⟩,rfl,trivial⟩
 ·refine ABo (ABm (AB9 rfl (ACc (ACa (ACa (ADm (⟨_,ASy,?_⟩)))))));rw [AXz _ _ (by omega)] at HQ;exact ⟨hU,HQ⟩
theorem AU2 {h:ABh} {g gr:Nat} {vt vr:Value} {t r:List Int} {a:Addr} (HT:AD2 h tI g vt (t.map (.int .i64))) (HR:AD2 h tI gr vr (r.map (.int .i64))) (hne:g≠gr) (htr:t.length=r.length) {f m:Int} (hb:AEm h a=some (.int .i64 m)) (hab:a.block≠g) (ht:∀ x∈t,0<=x/\x < m) (hr:∀ x∈r,0<=x/\x < m) (hf:0<=f) (hfm:f < m) (hm:2<=m) (Ac:m<=2147483647) (hl:r.length<=1000000):
    ACd Tryz.prog 105 #[vt,vr,.int .i64 f,.pointer (some a)] h fun _ h'=>Upd (· =g) h h'/\AD2 h' tI g vt (((List.range r.length).map fun c=>(zf t c + (m - f) * zf r c) % m).map (.int .i64)):=by
 refine ACv (l:=[_,_,_,_]) mx Tryz.func105 rfl rfl rfl rfl rfl (by kernel_rfl) (ABj (Wk (AOv ABx rfl HR.sl (Wk (ABo (ABq (ACk 4294965632 (fun j:Nat=>[(11,.int .i64 (j:Int))]) (fun k j h'=>Upd (· =g) h h'/\k=r.length - j/\j<=r.length/\AD2 h' tI g vt ((ATk r.length (fun c=>(zf t c + (m - f) * zf r c) % m) (zf t) j).map (.int .i64))) (by kernel_rfl) r.length 0 ?_ ⟨rfl,trivial⟩ ?_)))))))
 ·exact ⟨Upd.refl _ _,by omega,by omega,by rw [AVq,<- htr,Aet];exact HT⟩
 rintro k j s h1 ⟨hU,rfl,hj,HQ⟩;have HRc:=HR.upd hU (fun he=>hne he.symm);have hbx:=ASz hb hU (fun he=>hab he);refine ABj (AFd rfl rfl (fun Ab=>?_) (fun Ab=>?_))
 ·refine ABo (ABm (AB6 rfl (ABr (q_t (ABm (ABq (ABj (Wk (ALf ABx rfl HRc.sl rfl (show r[j]? =some (zf r j) by rw [zf,List.getElem?_eq_getElem (by omega)];rfl) fun aX haX=>?_)))))))));refine AB4 ACr rfl haX (ACg (ABp ?_));have hxb:=Aoa (by omega) hr j;have htb:=Aoa (by omega) ht j;have hxf:=AQ3 (a:=m - f) (b:=zf r j) (A:=2147483647) (B:=2147483647) (by omega) (by omega) (by omega) (by omega);refine ANt (by kernel_rfl) (Wk (Wk (Wk (Wk (ALf ABx rfl HQ.sl rfl (Ahx (by omega)) fun aT haT=>AB4 ACr rfl haT (AB4 ACr rfl hbx (Wk (AK0 rfl rfl (by omega) (by omega) (Wk (AKk rfl rfl (by omega) (by omega) (ASg rfl rfl (by omega) (by omega) (AB4 ACr rfl hbx (ANv rfl rfl (by omega) (by omega) (AMw ABx rfl HQ rfl (by rw [List.length_map,AK2];omega) ?_))))))))))))));refine ARw ACr rfl rfl rfl HQ (by rw [List.length_map,AK2];omega) ?_;have Aa:=HQ.setI (j:=j) (by rw [AK2];omega) ((zf t j + (m - f) * zf r j) % m);rw [AX1 (by omega) rfl] at Aa;refine ACj (q_b (q_t (ABw (AIj rfl (by omega) (Wk (ABo ?_))))));exact ⟨r.length - (j + 1),j + 1,by omega,⟨hU.trans (AGt _ _ _),rfl,by omega,Aa⟩,rfl,trivial⟩
 ·refine ABo (ABm (AB9 rfl (ACc (ACa (ACa (ADm (⟨_,ASy,?_⟩)))))));rw [AXz _ _ (by omega)] at HQ;exact ⟨hU,HQ⟩
theorem ATw (m:Int) (h:ABh):ACd Tryz.prog 74 #[.int .i64 m] h fun v h'=>h'=h.push (.cells #[.int .i64 m] tI (0,0))/\v= .func (.func 105) #[] #[.pointer (some ⟨h.size,0,none⟩)]:=by
 refine ACv (l:=[_]) mx Tryz.func74 rfl rfl rfl rfl rfl (by kernel_rfl) (ABj (Al7 trivial rfl ⟨trivial,?_⟩));refine ACu (At5 (l:=[.pointer (some ⟨h.size,0,none⟩)]) rfl (ABp (ABs (⟨_,ABu,?_⟩))));exact ⟨rfl,rfl⟩
theorem AYy {c:Nat} {g:Nat->Int} {q:Nat} (hq:q < c):zf ((List.range c).map g) q=g q:=by simp [zf,hq]
theorem AGi {α:Type} {c:Nat} {g:Nat->α} {q:Nat} (hq:q < c):((List.range c).map g)[q]? =some (g q):=by simp [hq]
theorem AWp {α:Type} {c:Nat} {f g:Nat->α} (h:∀ q,q < c->f q=g q):(List.range c).map f=(List.range c).map g:=List.map_congr_left fun q hq=>h q (by simpa using hq)
theorem Akz {c:Nat} {g:Nat->Int} {f m:Int}:(List.range ((List.range c).map g).length).map (fun q=>zf ((List.range c).map g) q * f % m)=(List.range c).map fun q=>g q * f % m:=by
 rw [List.length_map,List.length_range];exact AWp fun q hq=>by rw [AYy hq]
theorem Aeu {c:Nat} {g k:Nat->Int} {f m:Int}:(List.range ((List.range c).map g).length).map (fun q=>(zf ((List.range c).map k) q + (m - f) * zf ((List.range c).map g) q) % m)=(List.range c).map fun q=>(k q + (m - f) * g q) % m:=by
 rw [List.length_map,List.length_range];exact AWp fun q hq=>by rw [AYy hq,AYy hq]
def Axb (x:Nat):Value:= .int .i64 (x:Int)
def Aev (h h':ABh) (b:Nat) (gs:List Nat) (v:Value) (r c:Nat) (p:Int) (F:Nat->Nat->Int) (pv:Value) (piv:List Nat) (gs':List Nat):Prop:=
  Upd (· ∈b :: gs) h h'/\ADq h' tR tI b gs' v r (tab r c F)/\(∀ g∈gs',g∈gs)/\Gro h' 3 (h.size + 1) pv (piv.map Axb)/\AEm h' ⟨h.size,0,none⟩=some (.int .i64 p)/\h.size + 1<=h'.size
theorem Aev.turn {h h1 h2:ABh} {b:Nat} {gs Af Ab:List Nat} {v pv:Value} {r c:Nat} {p:Int} {F F2:Nat->Nat->Int} {piv:List Nat} (H:Aev h h1 b gs v r c p F pv piv Af) (hlt:∀ g∈b :: gs,g < h.size) {g:Nat} (hU:Upd (· =g) h1 h2) (hg:g∈b :: gs) (HP:ADq h2 tR tI b Ab v r (tab r c F2)) (hs:∀ g∈Ab,g∈gs):Aev h h2 b gs v r c p F2 pv piv Ab:=by
 obtain ⟨h3,h4,h5,h6,h7,h8⟩:=H;have hgl:=hlt g hg;refine ⟨h3.trans (hU.mono fun k _ hk=>by have Aj:k=g:=hk;rw [Aj];exact hg),HP,hs,h6.upd hU (fun k hk he=>by have Ak:k=g:=he;have:=(h6.blk k hk).1;omega),ASz h7 hU (fun he=>by have Ak:h.size=g:=he;omega),Nat.le_trans h8 hU.1⟩
section
variable {P:Program} {B:ABh->Prop} {st:Bool} {ops:Array Oper} {rest:List Oper} {e:Env} {h:ABh} {K:Env->ABh->Prop}
variable {d:Nat} {ty:TypeId} {pos:String} {af:Array Edge}
end
theorem ADq.nodup {h:ABh} {er ei b n:Nat} {gs:List Nat} {v:Value} {M:List (List Int)} (H:ADq h er ei b gs v n M):(b :: gs).Nodup:=let ⟨_,_,_,_,_,_,h⟩:=H;h
end Go.Proofs.YtiegjkmfpcgjjaaGreatDoor
namespace Go.Proofs.YtiegjkmfpcgjjaaGreatDoor
open Go Go.QF
set_option maxRecDepth 100000
def Aoc (n C:Nat) (m:Int) (Q:(Nat->Nat->Int)->Int->Prop):Prop:= ∀ F s c i q,c < n->i < n->c≠i->0<=q->q < m->Bd n C m F->Q F s->Q (ANk F c i q m) (-s)
theorem AZ3 {h:ABh} {b:Nat} {gs:List Nat} {v:Value} {n C:Nat} {F:Nat->Nat->Int} {m:Int} (Aj:ADq h tR tI b gs v n (tab n C F)) (hnC:n<=C) (hC:C<=1000000) (hm:2<=m) (Be:m<=2147483647) (hbd:Bd n C m F) (Q:(Nat->Nat->Int)->Int->Prop) (Bf:Q F 1) (hQ:Aoc n C m Q):
    ACd Tryz.prog 73 #[v,.int .i64 m] h fun x h'=>Upd (· ∈b :: gs) h h'/\ ∃ F1 s Af,x= .int .i64 s/\(s=1∨s= -1)/\ADq h' tR tI b Af v n (tab n C F1)/\(∀ g∈Af,g∈gs)/\Q F1 s/\Bd n C m F1/\Zc n F1 n:=by
 have HP:=Aj;refine ACv (l:=[_,_]) mx Tryz.func73 rfl rfl rfl rfl rfl (by kernel_rfl) (ABj (ACu (Wk (ACn trivial rfl (ATw m h) fun fv h1 hk=>?_))));obtain ⟨rfl,rfl⟩:=hk;refine ⟨trivial,?_⟩;have hpush:=AD9 h (.cells #[.int .i64 m] tI (0,0));have HP:=ADq.ext Aj hpush;have hlt:=ADq.lt Aj;refine ACu (ABp (ABm (ABj (Wk (AT3 AB2 rfl HP (Wk (ABo (ABq (ACk 18889465931478580847040 (fun y:Nat × Int=>[(13,.int .i64 (y.1:Int)),(6,.int .i64 y.2)]) (fun k y h'=>k=n - y.1/\y.1<=n/\(y.2=1∨y.2= -1)/\ ∃ F1 Af,Aev h h' b gs v n C m F1 (.slice none 0 0) [] Af/\Q F1 y.2/\Bd n C m F1/\Zc n F1 y.1) (by kernel_rfl) n (0,1) ?_ ⟨rfl,rfl,trivial⟩ ?_)))))))))
 ·refine ⟨rfl,by omega,.inl rfl,F,gs,⟨hpush.upd,HP,fun g hg=>hg,AS1 _ _ _,?_,by simp⟩,Bf,hbd,fun c' i h1=>by omega⟩;simp [AEm]
 rintro k ⟨c,s1⟩ sx h1 ⟨rfl,hc,Am,F1,Af,Ah,Ao,Ay,Ap⟩;dsimp only at hc Am Ao Ap ⊢;have Bo:=Ah.2.1;refine ABj (AFd rfl rfl (fun Bg=>?_) (fun Bg=>?_))
 ·refine ABo (ABm (AB6 rfl (ABr (q_t (ABm (ABq (ABj (Wk (ACu (Wk (AIj rfl (by omega) (ABp (ABq ?_)))))))))))));refine ACk 9444732965739290165568 (fun y:Nat × Int=>[(8,.int .i64 (y.1:Int)),(6,.int .i64 y.2)]) (fun k y h'=>k=n - y.1/\c < y.1/\y.1<=n/\(y.2=1∨y.2= -1)/\ ∃ F2 Ai,Aev h h' b gs v n C m F2 (.slice none 0 0) [] Ai/\Q F2 y.2/\Bd n C m F2/\Zc n F2 c/\Zi F2 c y.1) (by kernel_rfl) (n - (c + 1)) (c + 1,s1) ?_ ⟨rfl,rfl,trivial⟩ ?_
  ·exact ⟨rfl,by first | omega | (dsimp only;omega),by first | omega | (dsimp only;omega),Am,F1,Af,Ah,Ao,Ay,Ap,fun k h1 h2=>by omega⟩
  rintro k ⟨i,s2⟩ sy h2 ⟨rfl,hci,hi,Aq,F2,Ai,Ar,Au,Az,A3,Av⟩;dsimp only at hci hi Aq Au Av ⊢;have Bi:=Ar.2.1;refine ABm (ABj (Wk (Wk (AT3 AB2 rfl Bi (AFd rfl rfl (fun Bj=>?_) (fun Bj=>?_))))))
  ·refine ABo (AB6 rfl (ABr (q_t (ABm (ABq (ABq (ACk 9444732965739273650240 (fun s3:Int=>[(6,.int .i64 s3)]) (fun k s3 h'=>(s3=1∨s3= -1)/\ ∃ F3 Aw,k=(F3 i c).toNat/\Aev h h' b gs v n C m F3 (.slice none 0 0) [] Aw/\Q F3 s3/\Bd n C m F3/\Zc n F3 c/\Zi F3 c i) (by kernel_rfl) (F2 i c).toNat s2 ?_ ⟨rfl,trivial⟩ ?_)))))))
   ·exact ⟨Aq,F2,Ai,rfl,Ar,Au,Az,A3,Av⟩
   rintro k s3 sz h3 ⟨Bl,F3,Aw,rfl,Ae,A4,Ag,A5,A6⟩;have Ad:=Ae.2.1;refine ABm (ABj (Wk (Wk (ANj AB2 rfl Ad rfl (AEc (by omega)) fun aA rA gA haA hgA hrA=>AB4 ACm rfl haA (Wk (ALf ABx rfl hrA.sl rfl (AGi (by omega)) fun aB haB=>AB4 ACr rfl haB (ATq rfl rfl (fun A7=>?_) (fun A7=>?_))))))))
   ·refine ABo (AB6 rfl (ABr (q_t (ABq (ABm ?_)))));have hcc:=Ag c c (by omega) (by omega);have hic:=Ag i c (by omega) (by omega);have hq:=Amo hcc.1 hcc.2 (b:=F3 i c) (by omega);refine ANt (by kernel_rfl) (Wk (Wk (Wk (ANj AB2 rfl Ad rfl (AEc (by omega)) fun aK rK gK haK hgK hrK=>AB4 ACm rfl haK (Wk (Wk (ANj AB2 rfl Ad rfl (AEc (by omega)) fun aL rL gL haL hgL hrL=>AB4 ACm rfl haL ?_)))))));have hgKm:gK∈b :: gs:=List.mem_cons_of_mem _ (Ae.2.2.1 _ (List.mem_of_getElem? hgK));have hneKL:gK≠gL:=fun he=>absurd (AGj (List.nodup_cons.1 (ADq.nodup Ae.2.1)).2 hgK (he ▸ hgL)) (by omega);refine Wk (Wk (ANj AB2 rfl Ad rfl (AEc (by omega)) fun aN rN gN haN hgN hrN=>AB4 ACm rfl haN (Wk (ALf ABx rfl hrN.sl rfl (AGi (by omega)) fun aU haU=>AB4 ACr rfl haU (Wk (Wk (ANj AB2 rfl Ad rfl (AEc (by omega)) fun aO rO gO haO hgO hrO=>AB4 ACm rfl haO (Wk (ALf ABx rfl hrO.sl rfl (AGi (by omega)) fun aV haV=>AB4 ACr rfl haV (AVl rfl rfl (by omega) (by omega) (by omega) (Abe trivial rfl rfl (AU2 (a:=⟨h.size,0,none⟩) hrK hrL hneKL (by simp) Ae.2.2.2.2.1 (by have:=hlt _ hgKm;dsimp only;omega) (AX4 Ag (by omega)) (AX4 Ag (by omega)) hq.1 hq.2 hm Be (by simp;omega)) fun ev h7 hk=>?_)))))))))));obtain ⟨A8,A9⟩:=hk;refine ⟨trivial,?_⟩;rw [Aeu] at A9;have Ax:=ADq.setRow' Ae.2.1 hgK A8 (AEc (by omega)) hrK A9;rw [AHl] at Ax;have Ba:=Ae.turn hlt A8 hgKm Ax Ae.2.2.1;have Ad:=Ax;refine ABo (ABm (ANt (by kernel_rfl) (Wk (Wk (Wk (Wk (Wk (Wk (ANj AB2 rfl Ad rfl (AEc (by omega)) fun aI rI gI haI hgI hrI=>AB4 ACm rfl haI (Wk (Wk (ANj AB2 rfl Ad rfl (AEc (by omega)) fun aT rT gT haT hgT hrT=>AB4 ACm rfl haT ?_))))))))))));obtain ⟨rs,HT,hrl⟩:=ADq.top Ad;refine AMw AB2 rfl HT rfl (by omega) (ARw ACm rfl rfl hrI.one HT (by omega) ?_);have Bb:=HT.set c rI (by omega);refine AMw AB2 rfl Bb rfl (by simp;omega) ?_;refine ARw ACm rfl rfl hrT.one Bb (by simp;omega) ?_;have Bc:=ADq.swap Ad hgT hgI (AEc (by omega)) (AEc (by omega)) hrT hrI;rw [AHl,AHl] at Bc;have Bm:=Ba.turn hlt ((AGt _ ⟨b,c,none⟩ rI).trans (AGt _ ⟨b,i,none⟩ rT)) (List.mem_cons_self ..) (F2:=ANk F3 c i (F3 c c / F3 i c) m) Bc (fun g hg=>Ba.2.2.1 g (Amn hgT hgI hg));refine ABo (ABw (Wk (ASe rfl ?_)));have hws:IntKind.i64.wrap (0 - s3)= -s3:=by rw [IntKind.wrap_i64];omega
    rw [hws];refine ACg (ACj (q_b (q_t ?_)));have Bn:ANk F3 c i (F3 c c / F3 i c) m i c=F3 c c % F3 i c:=by rw [Abn];exact Ah2 hcc.1 hcc.2 (by omega) hic.2
    have Br:=Int.emod_lt_of_pos (F3 c c) (b:=F3 i c) (by omega);exact ⟨_,-s3,by rw [Bn];omega,⟨by omega,_,_,rfl,Bm,hQ _ _ _ _ _ (by omega) (by omega) (by omega) hq.1 hq.2 Ag A4,Ahz (by omega) Ag (by omega) (by omega),Ah0 A5 (by omega) (by omega),Ah1 A6⟩,rfl,trivial⟩
   ·refine ABo (AB9 rfl (ACc (ACa (ACa (ADm (q_b (q_t (ABw (Wk (AIj rfl (by omega) (ABp ?_)))))))))));exact ⟨n - (i + 1),(i + 1,s3),by first | omega | (dsimp only;omega),⟨rfl,by first | omega | (dsimp only;omega),by first | omega | (dsimp only;omega),Bl,F3,Aw,Ae,A4,Ag,A5,Abo A6 A7⟩,rfl,rfl,trivial⟩
  ·refine ABo (AB9 rfl (ACc (ACa (ACa (ADm (q_b (q_t (ABw (AIj rfl (by omega) (Wk (ABo ?_)))))))))));obtain rfl:i=n:=by omega
   exact ⟨i - (c + 1),(c + 1,s2),by first | omega | (dsimp only;omega),⟨rfl,by first | omega | (dsimp only;omega),Aq,F2,Ai,Ar,Au,Az,Abp A3 Av⟩,rfl,rfl,trivial⟩
 ·refine ABo (ABm (AB9 rfl (ACc (ACa (ACa (ADm (q_t (ABj (Wk (ABp (ABs (⟨_,ABu,?_⟩))))))))))));obtain rfl:c=n:=by omega
  exact ⟨Ah.1,F1,s1,Af,rfl,Am,Ah.2.1,Ah.2.2.1,Ao,Ay,Ap⟩
theorem Ag7 {h:ABh} {v:Value} {M:List (List Int)} (HM:Mat h v M):ACd Tryz.prog 102 #[v] h fun x h'=>h'=h/\x= .bool (AJ1 M):=by
 refine ACv (l:=[_]) mx Tryz.func102 rfl rfl rfl rfl rfl (by kernel_rfl) (ABj (ACu (Wk (AMg AB2 rfl HM (ABp (ABm (ABj (Wk (AFd rfl rfl (fun Ab=>?_) (fun Ab=>?_))))))))))
 ·refine Wk (ACb 14 true (by kernel_rfl) rfl rfl (ACb 14 true (by kernel_rfl) rfl rfl (AB0 rfl (ABo (AB6 rfl (ABj (ABp (ABs (AB1 (⟨_,ABu,?_⟩))))))))))
  first
    | exact ⟨rfl,congrArg Value.bool (AEu fun hh=>by have:=hh.1;omega)⟩
    | exact ⟨rfl,congrArg Value.bool (AEu fun hh=>by have:=hh.2.1 M[i] (List.getElem_mem _);omega)⟩
    | exact ⟨rfl,congrArg Value.bool (AEu fun hh=>by have:=hh.2.2 a b (by omega) (by omega);omega)⟩
    | exact ⟨rfl,congrArg Value.bool (AF7 ⟨⟨by omega,by omega⟩,hrows,fun x y hx hy=>hall x y (by omega) hy⟩)⟩
 ·refine Wk (ACt 14 false (by kernel_rfl) rfl rfl (Wk (ACt 14 false (by kernel_rfl) rfl rfl (AQd rfl rfl (fun Ac=>?_) (fun Ac=>?_)))))
  ·refine ABv rfl (ABo (AB6 rfl (ABj (ABp (ABs (AB1 (⟨_,ABu,?_⟩)))))))
   first
     | exact ⟨rfl,congrArg Value.bool (AEu fun hh=>by have:=hh.1;omega)⟩
     | exact ⟨rfl,congrArg Value.bool (AEu fun hh=>by have:=hh.2.1 M[i] (List.getElem_mem _);omega)⟩
     | exact ⟨rfl,congrArg Value.bool (AEu fun hh=>by have:=hh.2.2 a b (by omega) (by omega);omega)⟩
     | exact ⟨rfl,congrArg Value.bool (AF7 ⟨⟨by omega,by omega⟩,hrows,fun x y hx hy=>hall x y (by omega) hy⟩)⟩
  ·refine ABv rfl (ABo (AB9 rfl (ABr (q_t (ABm (ABj (Wk (AMg AB2 rfl HM (Wk (ABo (ABq (ACk 535822372 (fun i:Nat=>[(20,.int .i64 (i:Int))]) (fun k i h'=>h'=h/\k=M.length - i/\i<=M.length/\ ∀ j (hj:j < M.length),j < i->M[j].length=M.length) (by kernel_rfl) M.length 0 ?_ ⟨rfl,trivial⟩ ?_))))))))))))
   ·exact ⟨rfl,rfl,Nat.zero_le _,fun j _ hj=>by omega⟩
   rintro k i s1 h ⟨rfl,rfl,hi,hrow⟩;refine ABj (AFd rfl rfl (fun Ad=>?_) (fun Ad=>?_))
   ·refine ABo (ABm (AB6 rfl (ABr (q_t (ABm (ABq (ABj (AOa AB2 rfl HM rfl (List.getElem?_eq_getElem (by omega)) fun aR rR haR hrR=>?_))))))));refine AB4 ACm rfl haR (ACu (Wk (AOv ABx rfl hrR (Wk (ATq rfl rfl (fun Ae=>?_) (fun Ae=>?_))))))
    ·refine ABo (AB6 rfl (ABj (ABp (ABs (ADs (AB1 (AB1 (ADs (AB1 (⟨_,ABu,?_⟩))))))))))
     first
       | exact ⟨rfl,congrArg Value.bool (AEu fun hh=>by have:=hh.1;omega)⟩
       | exact ⟨rfl,congrArg Value.bool (AEu fun hh=>by have:=hh.2.1 M[i] (List.getElem_mem _);omega)⟩
       | exact ⟨rfl,congrArg Value.bool (AEu fun hh=>by have:=hh.2.2 a b (by omega) (by omega);omega)⟩
       | exact ⟨rfl,congrArg Value.bool (AF7 ⟨⟨by omega,by omega⟩,hrows,fun x y hx hy=>hall x y (by omega) hy⟩)⟩
    ·refine ABo (AB9 rfl (ABr (q_b (q_t (ABw (AIj rfl (by omega) (Wk (ABo ?_))))))));exact ⟨M.length - (i + 1),i + 1,by omega,⟨rfl,rfl,by omega,fun j hj Af=>by rcases Nat.lt_succ_iff_lt_or_eq.1 Af with q | rfl;exact hrow j hj q;omega⟩,rfl,trivial⟩
   ·refine ABo (ABm (AB9 rfl (ACc (ACa (ACa (ADm (q_t (ABm (ABm ?_)))))))));have hrows:∀ z∈M,z.length=M.length:=fun z hz=>by obtain ⟨j,hj,rfl⟩:=List.getElem_of_mem hz;exact hrow j hj (by omega)
    have Aa:Mat h v (tab M.length M.length (ent M)):=(Abi hrows) ▸ HM;refine ABw (Wk (AMg AB2 rfl Aa ?_));rw [ADf];refine Wk (ABo (ABq (ACk 4611686016279905220 (fun a:Nat=>[(31,.int .i64 (a:Int))]) (fun k a h'=>h'=h/\k=M.length - a/\a<=M.length/\ ∀ x y,x < a->y < M.length->ent M x y=ent M y x/\ -262144 < ent M x y/\ent M x y < 262144) (by kernel_rfl) M.length 0 ?_ ⟨rfl,trivial⟩ ?_)))
    ·exact ⟨rfl,rfl,Nat.zero_le _,fun x y hx=>by omega⟩
    rintro k a s2 h ⟨rfl,rfl,ha,hall⟩;refine ABj (AFd rfl rfl (fun Ag=>?_) (fun Ag=>?_))
    ·refine ABo (ABm (AB6 rfl (ABr (q_t (ABm (ABq (ABj (Wk (AOa AB2 rfl Aa rfl (AEc (by omega)) fun aS rS haS hrS=>AB4 ACm rfl haS (ACg (ACu (Wk (AOv ABx rfl hrS ?_)))))))))))));rw [List.length_map,List.length_range];refine Wk (ABo (ABq (ACk 2305842734335787780 (fun b:Nat=>[(38,.int .i64 (b:Int))]) (fun k b h'=>h'=h/\k=M.length - b/\b<=M.length/\ ∀ y,y < b->ent M a y=ent M y a/\ -262144 < ent M a y/\ent M a y < 262144) (by kernel_rfl) M.length 0 ?_ ⟨rfl,trivial⟩ ?_)))
     ·exact ⟨rfl,rfl,Nat.zero_le _,fun y hy=>by omega⟩
     rintro k b s3 h ⟨rfl,rfl,hb,hrw⟩;refine ABj (AFd rfl rfl (fun Ah=>?_) (fun Ah=>?_))
     ·refine ABo (ABm (AB6 rfl (ABr (q_t (ABm (ABq (ABj (Wk (ALf ABx rfl hrS rfl (AGi (by omega)) fun Aq Ai=>AB4 ACr rfl Ai (ACg (ACu (Wk (Wk (Wk (AOa AB2 rfl Aa rfl (AEc (by omega)) fun aT rT haT hrT=>?_)))))))))))))));refine AB4 ACm rfl haT (Wk (ALf ABx rfl hrT rfl (AGi (by omega)) fun Ar Aj=>AB4 ACr rfl Aj (ATq rfl rfl (fun Ak=>?_) (fun Ak=>?_))))
      ·refine Wk (ACb 52 true (by kernel_rfl) rfl rfl (ACb 52 true (by kernel_rfl) rfl rfl (AB0 rfl (Wk (ACb 56 true (by kernel_rfl) rfl rfl (ACb 56 true (by kernel_rfl) rfl rfl (AB0 rfl (ABo (AB6 rfl (ABj (ABp (ABs (ADs (AB1 (AB1 (ADs (ADs (AB1 (AB1 (ADs (AB1 (⟨_,ABu,?_⟩))))))))))))))))))))))
       first
         | exact ⟨rfl,congrArg Value.bool (AEu fun hh=>by have:=hh.1;omega)⟩
         | exact ⟨rfl,congrArg Value.bool (AEu fun hh=>by have:=hh.2.1 M[i] (List.getElem_mem _);omega)⟩
         | exact ⟨rfl,congrArg Value.bool (AEu fun hh=>by have:=hh.2.2 a b (by omega) (by omega);omega)⟩
         | exact ⟨rfl,congrArg Value.bool (AF7 ⟨⟨by omega,by omega⟩,hrows,fun x y hx hy=>hall x y (by omega) hy⟩)⟩
      ·refine Wk (ACt 52 false (by kernel_rfl) rfl rfl (Wk (ACt 52 false (by kernel_rfl) rfl rfl (ATo rfl rfl (fun Am=>?_) (fun Am=>?_)))))
       ·refine ABv rfl (Wk (ACb 56 true (by kernel_rfl) rfl rfl (ACb 56 true (by kernel_rfl) rfl rfl (AB0 rfl (ABo (AB6 rfl (ABj (ABp (ABs (ADs (AB1 (AB1 (ADs (ADs (AB1 (AB1 (ADs (AB1 (⟨_,ABu,?_⟩)))))))))))))))))))
        first
          | exact ⟨rfl,congrArg Value.bool (AEu fun hh=>by have:=hh.1;omega)⟩
          | exact ⟨rfl,congrArg Value.bool (AEu fun hh=>by have:=hh.2.1 M[i] (List.getElem_mem _);omega)⟩
          | exact ⟨rfl,congrArg Value.bool (AEu fun hh=>by have:=hh.2.2 a b (by omega) (by omega);omega)⟩
          | exact ⟨rfl,congrArg Value.bool (AF7 ⟨⟨by omega,by omega⟩,hrows,fun x y hx hy=>hall x y (by omega) hy⟩)⟩
       ·refine ABv rfl (Wk (ACt 56 false (by kernel_rfl) rfl rfl (Wk (ACt 56 false (by kernel_rfl) rfl rfl (ATp rfl rfl (fun Ao=>?_) (fun Ao=>?_))))))
        ·refine ABv rfl (ABo (AB6 rfl (ABj (ABp (ABs (ADs (AB1 (AB1 (ADs (ADs (AB1 (AB1 (ADs (AB1 (⟨_,ABu,?_⟩)))))))))))))))
         first
           | exact ⟨rfl,congrArg Value.bool (AEu fun hh=>by have:=hh.1;omega)⟩
           | exact ⟨rfl,congrArg Value.bool (AEu fun hh=>by have:=hh.2.1 M[i] (List.getElem_mem _);omega)⟩
           | exact ⟨rfl,congrArg Value.bool (AEu fun hh=>by have:=hh.2.2 a b (by omega) (by omega);omega)⟩
           | exact ⟨rfl,congrArg Value.bool (AF7 ⟨⟨by omega,by omega⟩,hrows,fun x y hx hy=>hall x y (by omega) hy⟩)⟩
        ·refine ABv rfl (ABo (AB9 rfl (ABr (q_b (q_t (ABw (AIj rfl (by omega) (Wk (ABo ?_)))))))));exact ⟨M.length - (b + 1),b + 1,by omega,⟨rfl,rfl,by omega,fun y hy=>by rcases Nat.lt_succ_iff_lt_or_eq.1 hy with q | rfl;exact hrw y q;exact ⟨by omega,by omega,by omega⟩⟩,rfl,trivial⟩
     ·refine ABo (ABm (AB9 rfl (ACc (ACa (ACa (ADm (q_b (q_t (ABw (AIj rfl (by omega) (Wk (ABo ?_))))))))))));exact ⟨M.length - (a + 1),a + 1,by omega,⟨rfl,rfl,by omega,fun x y hx hy=>by rcases Nat.lt_succ_iff_lt_or_eq.1 hx with q | rfl;exact hall x y q hy;exact hrw y (by omega)⟩,rfl,trivial⟩
    ·refine ABo (ABm (AB9 rfl (ACc (ACa (ACa (ADm (q_t (ABj (ABp (ABs (⟨_,ABu,?_⟩)))))))))))
     first
       | exact ⟨rfl,congrArg Value.bool (AEu fun hh=>by have:=hh.1;omega)⟩
       | exact ⟨rfl,congrArg Value.bool (AEu fun hh=>by have:=hh.2.1 M[i] (List.getElem_mem _);omega)⟩
       | exact ⟨rfl,congrArg Value.bool (AEu fun hh=>by have:=hh.2.2 a b (by omega) (by omega);omega)⟩
       | exact ⟨rfl,congrArg Value.bool (AF7 ⟨⟨by omega,by omega⟩,hrows,fun x y hx hy=>hall x y (by omega) hy⟩)⟩
theorem Aod {m:Nat} {F:Nat->Nat->Int}:(tab m m F).drop 1=tab (m - 1) m fun i j=>F (i + 1) j:=by
 refine List.ext_getElem (by simp [tab]) fun i h1 h2=>?_;simp [tab,Nat.add_comm]
theorem AYz {h:ABh} {v:Value} {m:Nat} {F:Nat->Nat->Int} (HM:Mat h v (tab m m F)) (hcap:AMy v) (hm:1<=m) (Au:m<=8) (hfit:∀ i,i < m->Abs (F i 0) 34359738368):ACd Tryz.prog 103 #[v] h fun x h'=>h'=h/\x= .bool (decide (AN0 m F)):=by
 refine ACv (l:=[_]) mx Tryz.func103 rfl rfl rfl rfl rfl (by kernel_rfl) (ABj (ACu (Wk (AOa (n:=0) AB2 rfl HM rfl (AEc (by omega)) fun Av Aw Ad Ae=>AB4 ACm rfl Ad (ALf (n:=0) ABx rfl Ae rfl (AGi (by omega)) fun Ax Af=>AB4 ACr rfl Af (ABp (ABm (ABj (Wk (ATo rfl rfl (fun Ag=>?_) (fun Ag=>?_)))))))))))
 ·refine Wk (ACb 13 true (by kernel_rfl) rfl rfl (ACb 13 true (by kernel_rfl) rfl rfl (AB0 rfl (ABo (AB6 rfl (ABj (ABp (ABs (AB1 (⟨_,ABu,?_⟩))))))))))
  first
    | exact ⟨rfl,congrArg Value.bool (decide_eq_false (fun hh=>by have:=hh.1;omega)).symm⟩
    | exact ⟨rfl,congrArg Value.bool (decide_eq_false (fun hh=>by have:=hh.2 (i + 1) (by omega) (by omega);omega)).symm⟩
    | exact ⟨rfl,congrArg Value.bool (decide_eq_true ⟨⟨by omega,by omega⟩,fun j h1 h2=>hall j h1 (by omega)⟩).symm⟩
 ·refine Wk (ACt 13 false (by kernel_rfl) rfl rfl (Wk (ACt 13 false (by kernel_rfl) rfl rfl (ATp rfl rfl (fun Ah=>?_) (fun Ah=>?_)))))
  ·refine ABv rfl (ABo (AB6 rfl (ABj (ABp (ABs (AB1 (⟨_,ABu,?_⟩)))))))
   first
     | exact ⟨rfl,congrArg Value.bool (decide_eq_false (fun hh=>by have:=hh.1;omega)).symm⟩
     | exact ⟨rfl,congrArg Value.bool (decide_eq_false (fun hh=>by have:=hh.2 (i + 1) (by omega) (by omega);omega)).symm⟩
     | exact ⟨rfl,congrArg Value.bool (decide_eq_true ⟨⟨by omega,by omega⟩,fun j h1 h2=>hall j h1 (by omega)⟩).symm⟩
  ·refine ABv rfl (ABo (AB9 rfl (ABr (q_t (ABm (ABj (Wk (Akf (k:=1) AB2 rfl HM hcap rfl (by rw [ADf];omega) fun v1 Ai Ay=>?_))))))));have HD:Mat h v1 (tab (m - 1) m fun i j=>F (i + 1) j):=Aod (m:=m) ▸ Ai;refine AMg AB2 rfl HD ?_;rw [ADf];refine Wk (ABo (ABq (ACk 549754765348 (fun i:Nat=>[(20,.int .i64 (i:Int))]) (fun k i h'=>h'=h/\k=m - 1 - i/\i<=m - 1/\ ∀ j,1<=j->j < i + 1->2 * F j 0<=F 0 0/\ -2 * F j 0<=F 0 0) (by kernel_rfl) (m - 1) 0 ?_ ⟨rfl,trivial⟩ ?_)))
   ·exact ⟨rfl,rfl,Nat.zero_le _,fun j h1 h2=>by omega⟩
   rintro k i s1 h ⟨rfl,rfl,hi,hall⟩;refine ABj (AFd rfl rfl (fun Aj=>?_) (fun Aj=>?_))
   ·refine ABo (ABm (AB6 rfl (ABr (q_t (ABm (ABq (ABj (AOa AB2 rfl HD rfl (AEc (by omega)) fun Az A3 Ak Ac=>AB4 ACm rfl Ak (ABp (ABm ?_))))))))));have Am:=hfit (i + 1) (by omega);unfold Abs at Am;refine ABw (Wk (ALf (n:=0) ABx rfl Ac rfl (AGi (by omega)) fun A4 Ao=>AB4 ACr rfl Ao (AKk rfl rfl (by omega) (by omega) (Wk (AQd rfl rfl (fun Ap=>?_) (fun Ap=>?_))))))
    ·refine Wk (ACb 30 true (by kernel_rfl) rfl rfl (ACb 30 true (by kernel_rfl) rfl rfl (ACb 30 true (by kernel_rfl) rfl rfl (ACb 30 true (by kernel_rfl) rfl rfl (ACb 30 true (by kernel_rfl) rfl rfl (ACb 30 true (by kernel_rfl) rfl rfl (AB0 rfl (ABo (AB6 rfl (ABj (ABp (ABs (ADs (AB1 (AB1 (ADs (AB1 (⟨_,ABu,?_⟩))))))))))))))))))
     first
       | exact ⟨rfl,congrArg Value.bool (decide_eq_false (fun hh=>by have:=hh.1;omega)).symm⟩
       | exact ⟨rfl,congrArg Value.bool (decide_eq_false (fun hh=>by have:=hh.2 (i + 1) (by omega) (by omega);omega)).symm⟩
       | exact ⟨rfl,congrArg Value.bool (decide_eq_true ⟨⟨by omega,by omega⟩,fun j h1 h2=>hall j h1 (by omega)⟩).symm⟩
    ·refine Wk (ACt 30 false (by kernel_rfl) rfl rfl (Wk (ACt 30 false (by kernel_rfl) rfl rfl (ALf (n:=0) ABx rfl Ac rfl (AGi (by omega)) fun A5 Aq=>ACt 30 false (by kernel_rfl) rfl rfl (AB4 ACr rfl Aq (ACt 30 false (by kernel_rfl) rfl rfl (AKk rfl rfl (by omega) (by omega) (ACt 30 false (by kernel_rfl) rfl rfl (Wk (ACt 30 false (by kernel_rfl) rfl rfl (AQd rfl rfl (fun Ar=>?_) (fun Ar=>?_))))))))))))
     ·refine ABv rfl (ABo (AB6 rfl (ABj (ABp (ABs (ADs (AB1 (AB1 (ADs (AB1 (⟨_,ABu,?_⟩)))))))))))
      first
        | exact ⟨rfl,congrArg Value.bool (decide_eq_false (fun hh=>by have:=hh.1;omega)).symm⟩
        | exact ⟨rfl,congrArg Value.bool (decide_eq_false (fun hh=>by have:=hh.2 (i + 1) (by omega) (by omega);omega)).symm⟩
        | exact ⟨rfl,congrArg Value.bool (decide_eq_true ⟨⟨by omega,by omega⟩,fun j h1 h2=>hall j h1 (by omega)⟩).symm⟩
     ·refine ABv rfl (ABo (AB9 rfl (ABr (q_b (q_t (ABw (AIj rfl (by omega) (Wk (ABo ?_)))))))));exact ⟨m - 1 - (i + 1),i + 1,by omega,⟨rfl,rfl,by omega,fun j h1 h2=>by rcases Nat.lt_succ_iff_lt_or_eq.1 h2 with q | rfl;exact hall j h1 q;exact ⟨by omega,by omega⟩⟩,rfl,trivial⟩
   ·refine ABo (ABm (AB9 rfl (ACc (ACa (ACa (ADm (q_t (ABj (ABp (ABs (⟨_,ABu,?_⟩)))))))))))
    first
      | exact ⟨rfl,congrArg Value.bool (decide_eq_false (fun hh=>by have:=hh.1;omega)).symm⟩
      | exact ⟨rfl,congrArg Value.bool (decide_eq_false (fun hh=>by have:=hh.2 (i + 1) (by omega) (by omega);omega)).symm⟩
      | exact ⟨rfl,congrArg Value.bool (decide_eq_true ⟨⟨by omega,by omega⟩,fun j h1 h2=>hall j h1 (by omega)⟩).symm⟩
theorem Ach {h:ABh} {v:Value} {M:List (List Int)} (HM:Mat h v M) (hcap:AMy v):ACd Tryz.prog 67 #[v] h fun x h'=>Ext h h'/\x= .bool (isRed M):=by
 refine ACv (l:=[_]) mx Tryz.func67 rfl rfl rfl rfl rfl (by kernel_rfl) (ABj (ABp (ABm (ABj (Wk (ACn trivial rfl (Ag7 HM) fun x1 h hk=>?_))))));obtain ⟨rfl,rfl⟩:=hk;refine ⟨trivial,?_⟩;cases Ar:AJ1 M
 ·refine AGr rfl (ABo (AB6 rfl (ABj (ABp (ABs (AB1 (⟨_,ABu,?_⟩)))))))
  first
    | exact ⟨(Ext.refl _),congrArg Value.bool (show false=isRed M by unfold isRed;rw [show AJ1 M=false by assumption];rfl)⟩
    | exact ⟨(Ext.refl _),congrArg Value.bool (show false=isRed M by unfold isRed;rw [hred,AM8 (by omega) (of_decide_eq_false (by assumption)),Bool.and_false])⟩
    | exact ⟨(Ext.refl _),congrArg Value.bool (show false=isRed M by unfold isRed;rw [hred,AQn (by omega) (by unfold ATm;omega),Bool.and_false])⟩
    | (obtain rfl:m=1:=by omega
       first
       | exact ⟨(Ext.refl _),congrArg Value.bool (show true=isRed M by unfold isRed;rw [hred,<- AF7 hsm,AN1,decide_eq_true ⟨by omega,by omega⟩];rfl)⟩
       | exact ⟨(Ext.refl _),congrArg Value.bool (show false=isRed M by unfold isRed;rw [hred,AN1,decide_eq_false (by omega),Bool.and_false])⟩)
 ·refine AGr rfl (ABo (AB9 rfl (ABr (q_t (ABj (Wk (ACu (ABp (ABm (ABq ?_))))))))));have hsm:=AYx Ar;have Au:=Akx hsm;have Av:Mat h v (tab M.length M.length (ent M)):=(Abi hsm.2.1) ▸ HM;refine ACk 20282409603651670423947251255292 (fun y:Nat × Value × Int × (Nat->Nat->Int)=>[(3,y.2.1),(4,.int .i64 y.2.2.1)]) (fun k y h'=>y.1=k/\Ext h h'/\1<=y.1/\y.1<=M.length/\Mat h' y.2.1 (tab y.1 y.1 y.2.2.2)/\AMy y.2.1/\Stg y.1 y.2.2.2 y.2.2.1 (262144 + 16384 * (M.length - y.1))/\AN1 M.length (ent M) 1=AN1 y.1 y.2.2.2 y.2.2.1) (by kernel_rfl) M.length (M.length,v,1,ent M) ?_ ⟨rfl,rfl,trivial⟩ ?_
  ·exact ⟨rfl,Ext.refl _,hsm.1.1,Nat.le_refl _,Av,hcap,by have e0:(262144 + 16384 * ((M.length:Int) - (M.length:Int)))=262144:=(by omega);rw [e0];exact Au,rfl⟩
  rintro k ⟨m,vs,last,F⟩ s1 hq ⟨rfl,XQ,Ax,hmn,HS,Ai,hstg,hred⟩;dsimp only at Ax hmn HS Ai hstg hred ⊢;have h8:=hsm.1.2;have B5:=hstg.l1;have B6:=hstg.l2;have szq:=XQ.1;refine ABm (ABj (Wk (AMg AB2 rfl HS ?_)));rw [ADf];refine AQd rfl rfl (fun Ay=>?_) (fun Ay=>?_)
  ·refine ABo (AB6 rfl (ABr (q_t (ABq (ABj (Wk (AOa (n:=0) AB2 rfl HS rfl (AEc (by omega)) fun B7 B8 Az A3=>AB4 ACm rfl Az (ALf (n:=0) ABx rfl A3 rfl (AGi (by omega)) fun B9 A4=>AB4 ACr rfl A4 (ABp (ABm (ABj (Wk (ACn trivial rfl (AYz HS Ai (by omega) (by omega) (fun i hi=>AXg hstg (by omega) (by omega) hi (by omega))) fun x4 hq hk=>?_)))))))))))));obtain ⟨rfl,rfl⟩:=hk;refine ⟨trivial,?_⟩;cases Cb:decide (AN0 m F)
   ·refine AGr rfl (ABo (AB6 rfl (ABj (ABp (ABs (AB1 (ADs (AB1 (ADs (AB1 (⟨_,ABu,?_⟩)))))))))))
    first
      | exact ⟨XQ,congrArg Value.bool (show false=isRed M by unfold isRed;rw [show AJ1 M=false by assumption];rfl)⟩
      | exact ⟨XQ,congrArg Value.bool (show false=isRed M by unfold isRed;rw [hred,AM8 (by omega) (of_decide_eq_false (by assumption)),Bool.and_false])⟩
      | exact ⟨XQ,congrArg Value.bool (show false=isRed M by unfold isRed;rw [hred,AQn (by omega) (by unfold ATm;omega),Bool.and_false])⟩
      | (obtain rfl:m=1:=by omega
         first
         | exact ⟨XQ,congrArg Value.bool (show true=isRed M by unfold isRed;rw [hred,<- AF7 hsm,AN1,decide_eq_true ⟨by omega,by omega⟩];rfl)⟩
         | exact ⟨XQ,congrArg Value.bool (show false=isRed M by unfold isRed;rw [hred,AN1,decide_eq_false (by omega),Bool.and_false])⟩)
   ·refine AGr rfl (ABo (AB9 rfl (ABr (q_t (ABj (Wk (AMg AB2 rfl HS ?_)))))));rw [ADf];have hsh:AN0 m F:=of_decide_eq_true (by assumption);refine AK0 rfl rfl (by omega) (by omega) ?_;rw [show ((m:Nat):Int) - 1=((m - 1:Nat):Int) by omega];refine Av7 (ei:=tI) AB2 AMi (fun _=>trivial) rfl rfl (by decide) (by omega) fun b2 v2 h2 Aj E2 Ce hl2b=>?_;have Cf:=E2.1;have Z6:=(Ext.refl hq).trans E2;have X7:=XQ.trans E2;have HS_8:=HS.ext E2;refine ABp (ABm (ABj (Wk (AT3 AB2 rfl Aj.1 (Wk (ABo (ABq (ACk 1208925819614624879739776 (fun i:Nat=>[(32,.int .i64 (i:Int))]) (fun k i h'=>k=m - 1 - i/\i<=m - 1/\Ext hq h'/\ ∃ gs,ANl h' tR tI (Array.size hq) b2 gs v2 (m - 1) ((List.range i).map (fun i=>(List.range (m - 1)).map fun j=>APl F last i j))) (by kernel_rfl) (m - 1) 0 ?_ ⟨rfl,trivial⟩ ?_))))))))
    ·exact ⟨rfl,Nat.zero_le _,E2,[],Aj⟩
    rintro k i s2 h3 ⟨rfl,hi,E3,gs,HP⟩;have X9:=XQ.trans E3;have Ci:=E3.1;have HS_11:=HS.ext E3;refine ABj (AFd rfl rfl (fun A6=>?_) (fun A6=>?_))
    ·refine ABo (ABm (AB6 rfl (ABr (q_t (ABm (ABq (ABj (Wk (ACu (Wk (Wk (AIj rfl (by omega) (Amm AB2 rfl HS E3 rfl (AEc (by omega)) fun aR rR haR hrR=>AB4 ACm rfl haR (ABp ?_))))))))))))));refine ABj (Wk (Wk (Wk (AT3 AB2 rfl HP.1 (Av8 ABx AIl (fun _=>trivial) rfl rfl (by decide) (by omega) fun g4 v4 h4 A7 E4 Ck Cm=>?_)))));have Cn:=E4.1;have A8:=E3.trans E4;have A9:=X9.trans E4;have HS_15:=HS_11.ext E4;have HP_16:=HP.ext E4;refine Aqp AB2 rfl HP_16 rfl (by omega) ?_;have hglt:=HP.1.lt;have hblo:=HP.2 b2 (List.mem_cons_self ..);refine Aqq ACm rfl rfl HP_16 (by simp) (by omega) A7 (fun hc=>by have:=hglt _ hc;omega) (by omega) fun h4b HPb U4=>?_;have Co:=U4.1;have Cp:=A9.thenUpd U4 (fun k hk=>by have Ag:k=b2:=hk;omega);have Am:=A8.thenUpd U4 (fun k hk=>by have Ag:k=b2:=hk;omega);have HS_20:=HS.ext Am;refine AMh (Wk (AT3 AB2 rfl HPb.1 (Wk (ABo (ABq (ACk 604462909525839610642944 (fun j:Nat=>[(48,.int .i64 (j:Int))]) (fun k j h'=>k=m - 1 - j/\j<=m - 1/\Ext hq h'/\ANl h' tR tI (Array.size hq) b2 (gs ++ [g4]) v2 (m - 1) ((List.range i).map (fun i=>(List.range (m - 1)).map fun j=>APl F last i j) ++ [ATk (m - 1) (APl F last i) (fun _=>0) j])) (by kernel_rfl) (m - 1) 0 ?_ ⟨rfl,trivial⟩ ?_))))))
     ·exact ⟨rfl,Nat.zero_le _,Am,by rw [AVq,Aka];exact HPb⟩
     rintro k j s3 h5 ⟨rfl,hj,E5,HQ⟩;have Ba:=XQ.trans E5;have Ct:=E5.1;have HS_23:=HS.ext E5;refine ABj (AFd rfl rfl (fun Bb=>?_) (fun Bb=>?_))
     ·refine ABo (ABm (AB6 rfl (ABr (q_t (ABm (ABq (ABj (Wk (ABp ?_)))))))));have hd:=hsh.1;have hfit:=fun i j hi hj=>AXg hstg (by omega) (by omega) (i:=i) (j:=j) hi hj;have q1:=ATb (a:=65535) (b:=34359738368) (x:=F 0 0) (y:=F (i + 1) (j + 1)) ⟨by omega,by omega⟩ (hfit _ _ (by omega) (by omega));have q2:=hsh.2 (i + 1) (by omega) (by omega);have q3:=hsh.2 (j + 1) (by omega) (by omega);rw [<- hstg.sym 0 (j + 1) (by omega) (by omega)] at q3;have q4:=ATb (a:=32768) (b:=32768) (x:=F (i + 1) 0) (y:=F 0 (j + 1)) ⟨by omega,by omega⟩ ⟨by omega,by omega⟩;unfold Abs at q1 q4;refine ANt (by kernel_rfl) (Wk (Wk (Av9 AB2 rfl HQ rfl (AUm (by simp)) fun aQ rQ gQ haQ hgQ hrQ=>?_)));refine AB4 ACm rfl haQ (Wk (Wk (Wk (Wk (AIj rfl (by omega) (ALf ABx rfl (hrR.ext E5) rfl (AGi (by omega)) fun Cu Bh=>AB4 ACr rfl Bh (AKk rfl rfl (by omega) (by omega) (Wk (ALf (n:=0) ABx rfl (hrR.ext E5) rfl (AGi (by omega)) fun Cv Bi=>AB4 ACr rfl Bi (Wk (AOa (n:=0) AB2 rfl HS_23 rfl (AEc (by omega)) fun aZ rZ haZ hrZ=>AB4 ACm rfl haZ (Wk (AIj rfl (by omega) (ALf ABx rfl hrZ rfl (AGi (by omega)) fun Cw Bj=>AB4 ACr rfl Bj (AKk rfl rfl (by omega) (by omega) (AK0 rfl rfl (by omega) (by omega) (Wk (ATn rfl rfl (by omega) ?_))))))))))))))))));have hnf:=AXg (Aes (m:=m - 1) (by rw [show m - 1 + 1=m by omega];exact hstg) (by omega) (by rw [show m - 1 + 1=m by omega];exact hsh)) (by omega) (by omega) (i:=i) (j:=j) (by omega) (by omega);unfold Abs at hnf;rw [show IntKind.i64.wrap ((F 0 0 * F (i + 1) (j + 1) - F (i + 1) 0 * F 0 (j + 1)).tdiv last)=APl F last i j from Go.QF.wrap_small (by have:(F 0 0 * F (i + 1) (j + 1) - F (i + 1) 0 * F 0 (j + 1)).tdiv last=APl F last i j:=rfl;omega) (by have:(F 0 0 * F (i + 1) (j + 1) - F (i + 1) 0 * F 0 (j + 1)).tdiv last=APl F last i j:=rfl;omega)];refine AMw ABx rfl hrQ rfl (by rw [List.length_map,AK2];omega) ?_;refine Aqr (ATk (m - 1) (APl F last i) (fun _=>0) (j + 1)) ACr rfl rfl HQ hgQ (AUm (by simp)) hrQ (by rw [AK2];omega) (AX1 (by omega) rfl) fun h6 Bl U6 Cy=>?_;have Cz:=U6.1;have C0:=Ba.thenUpd U6 (fun k hk=>by have Ag:k=gQ:=hk;omega);have Ao:=E5.thenUpd U6 (fun k hk=>by have Ag:k=gQ:=hk;omega);have HS_30:=HS.ext Ao;have Ap:=Bl;rw [Adm (by simp)] at Ap;refine ACj (q_b (q_t (ABw (AIj rfl (by omega) (Wk (ABo ?_))))));exact ⟨m - 1 - (j + 1),j + 1,by omega,⟨rfl,by omega,Ao,Ap⟩,rfl,trivial⟩
     ·refine ABo (ABm (AB9 rfl (ACc (ACa (ACa (ADm (q_b (q_t (ABw (AIj rfl (by omega) (Wk (ABo ?_))))))))))));exact ⟨m - 1 - (i + 1),i + 1,by omega,⟨rfl,by omega,E5,gs ++ [g4],by rw [AXz _ _ (by omega)] at HQ;rw [<- Agb];exact HQ⟩,rfl,trivial⟩
    ·refine ABo (ABm (AB9 rfl (ACc (ACa (ACa (ADm (q_t (ABm ?_))))))));obtain rfl:i=m - 1:=by omega
     have Aq:ANl h3 tR tI (Array.size hq) b2 gs v2 (tab (m - 1) (m - 1) (APl F last)).length (tab (m - 1) (m - 1) (APl F last)):=by rw [ADf];exact HP
     have HN:=Aq.mat;have hcapn:=Aq.cap;have Bm:=Aes (m:=m - 1) (by rw [show m - 1 + 1=m by omega];exact hstg) (by omega) (by rw [show m - 1 + 1=m by omega];exact hsh);have hnx:Stg (m - 1) (APl F last) (F 0 0) (262144 + 16384 * (M.length - ((m - 1:Nat):Int))):=by rw [show (262144 + 16384 * ((M.length:Int) - ((m - 1:Nat):Int)))=262144 + 16384 * ((M.length:Int) - (m:Int)) + 16384 by omega];exact Bm
     refine ABw (Wk (AOa (n:=1) AB2 rfl HS_11 rfl (AEc (by omega)) fun C1 C2 Bn Bo=>AB4 ACm rfl Bn (ALf (n:=0) ABx rfl Bo rfl (AGi (by omega)) fun C3 Bp=>AB4 ACr rfl Bp (ABp (ABm (ABm ?_))))));have hd:=hsh.1;have hnf:=AXg hnx (by omega) (by omega) (i:=0) (j:=0) (by omega) (by omega);have q5:=ATb (a:=65535) (b:=34359738368) (x:=last) (y:=APl F last 0 0) ⟨by omega,by omega⟩ hnf;have q2:=hsh.2 1 (by omega) (by omega);have q6:=ATb (a:=32768) (b:=32768) (x:=F 1 0) (y:=F 1 0) ⟨by omega,by omega⟩ ⟨by omega,by omega⟩;have q7:=AQ3 (a:=3 * F 0 0) (b:=F 0 0) (A:=196605) (B:=65535) (by omega) (by omega) (by omega) (by omega);unfold Abs at q5 q6;refine ABw (Wk (Wk (AOa (n:=0) AB2 rfl HN rfl (AEc (by omega)) fun aN rN haN hrN=>AB4 ACm rfl haN (ALf (n:=0) ABx rfl hrN rfl (AGi (by omega)) fun aO haO=>AB4 ACr rfl haO (AKk rfl rfl (by omega) (by omega) (Wk (Wk (AKk rfl rfl (by omega) (by omega) (ASg rfl rfl (by omega) (by omega) (AKk rfl rfl (by omega) (by omega) (Wk (AKk rfl rfl (by omega) (by omega) (Wk (AKk rfl rfl (by omega) (by omega) (AFd rfl rfl (fun Bt=>?_) (fun Bt=>?_))))))))))))))))
     ·refine ABo (AB6 rfl (ABj (ABp (ABs (AB1 (ADs (AB1 (ADs (AB1 (⟨_,ABu,?_⟩))))))))))
      first
        | exact ⟨X9,congrArg Value.bool (show false=isRed M by unfold isRed;rw [show AJ1 M=false by assumption];rfl)⟩
        | exact ⟨X9,congrArg Value.bool (show false=isRed M by unfold isRed;rw [hred,AM8 (by omega) (of_decide_eq_false (by assumption)),Bool.and_false])⟩
        | exact ⟨X9,congrArg Value.bool (show false=isRed M by unfold isRed;rw [hred,AQn (by omega) (by unfold ATm;omega),Bool.and_false])⟩
        | (obtain rfl:m=1:=by omega
           first
           | exact ⟨X9,congrArg Value.bool (show true=isRed M by unfold isRed;rw [hred,<- AF7 hsm,AN1,decide_eq_true ⟨by omega,by omega⟩];rfl)⟩
           | exact ⟨X9,congrArg Value.bool (show false=isRed M by unfold isRed;rw [hred,AN1,decide_eq_false (by omega),Bool.and_false])⟩)
     ·refine ABo (AB9 rfl (ABr (q_t ?_)));have hlov:ATm F last:=by unfold ATm;omega
      have hredn:=Aky (last:=last) (by omega) hsh hlov;refine ABw (Wk (Wk (ACg (ACg (ACj (q_b (q_t ?_)))))));exact ⟨m - 1,(m - 1,v2,F 0 0,APl F last),by first | omega | (dsimp only;omega),⟨rfl,X9,by first | omega | (dsimp only;omega),by first | omega | (dsimp only;omega),HN,hcapn,hnx,by rw [hred,hredn]⟩,rfl,rfl,trivial⟩
  ·refine ABo (AB9 rfl (ACc (ACa (ACa (ADm (q_t (ABj (Wk (AOa (n:=0) AB2 rfl HS rfl (AEc (by omega)) fun C5 C6 Bu Bv=>AB4 ACm rfl Bu (ALf (n:=0) ABx rfl Bv rfl (AGi (by omega)) fun C7 Bw=>AB4 ACr rfl Bw (AQd rfl rfl (fun Bx=>?_) (fun Bx=>?_))))))))))))
   ·refine Wk (ACt 110 true (by kernel_rfl) rfl rfl (Wk (ACt 110 true (by kernel_rfl) rfl rfl (AOa (n:=0) AB2 rfl HS rfl (AEc (by omega)) fun C8 C9 By Bz=>ACt 110 true (by kernel_rfl) rfl rfl (AB4 ACm rfl By (ACt 110 true (by kernel_rfl) rfl rfl (ALf (n:=0) ABx rfl Bz rfl (AGi (by omega)) fun Da B1=>ACt 110 true (by kernel_rfl) rfl rfl (AB4 ACr rfl B1 (ACt 110 true (by kernel_rfl) rfl rfl (ATo rfl rfl (fun B2=>?_) (fun B2=>?_)))))))))))
    ·refine AB0 rfl (ABp (ABs (⟨_,ABu,?_⟩)))
     first
       | exact ⟨XQ,congrArg Value.bool (show false=isRed M by unfold isRed;rw [show AJ1 M=false by assumption];rfl)⟩
       | exact ⟨XQ,congrArg Value.bool (show false=isRed M by unfold isRed;rw [hred,AM8 (by omega) (of_decide_eq_false (by assumption)),Bool.and_false])⟩
       | exact ⟨XQ,congrArg Value.bool (show false=isRed M by unfold isRed;rw [hred,AQn (by omega) (by unfold ATm;omega),Bool.and_false])⟩
       | (obtain rfl:m=1:=by omega
          first
          | exact ⟨XQ,congrArg Value.bool (show true=isRed M by unfold isRed;rw [hred,<- AF7 hsm,AN1,decide_eq_true ⟨by omega,by omega⟩];rfl)⟩
          | exact ⟨XQ,congrArg Value.bool (show false=isRed M by unfold isRed;rw [hred,AN1,decide_eq_false (by omega),Bool.and_false])⟩)
    ·refine AB0 rfl (ABp (ABs (⟨_,ABu,?_⟩)))
     first
       | exact ⟨XQ,congrArg Value.bool (show false=isRed M by unfold isRed;rw [show AJ1 M=false by assumption];rfl)⟩
       | exact ⟨XQ,congrArg Value.bool (show false=isRed M by unfold isRed;rw [hred,AM8 (by omega) (of_decide_eq_false (by assumption)),Bool.and_false])⟩
       | exact ⟨XQ,congrArg Value.bool (show false=isRed M by unfold isRed;rw [hred,AQn (by omega) (by unfold ATm;omega),Bool.and_false])⟩
       | (obtain rfl:m=1:=by omega
          first
          | exact ⟨XQ,congrArg Value.bool (show true=isRed M by unfold isRed;rw [hred,<- AF7 hsm,AN1,decide_eq_true ⟨by omega,by omega⟩];rfl)⟩
          | exact ⟨XQ,congrArg Value.bool (show false=isRed M by unfold isRed;rw [hred,AN1,decide_eq_false (by omega),Bool.and_false])⟩)
   ·refine Wk (ACb 110 false (by kernel_rfl) rfl rfl (ACb 110 false (by kernel_rfl) rfl rfl (ACb 110 false (by kernel_rfl) rfl rfl (ACb 110 false (by kernel_rfl) rfl rfl (ACb 110 false (by kernel_rfl) rfl rfl (ACb 110 false (by kernel_rfl) rfl rfl (ABv rfl (ABp (ABs (⟨_,ABu,?_⟩))))))))))
    first
      | exact ⟨XQ,congrArg Value.bool (show false=isRed M by unfold isRed;rw [show AJ1 M=false by assumption];rfl)⟩
      | exact ⟨XQ,congrArg Value.bool (show false=isRed M by unfold isRed;rw [hred,AM8 (by omega) (of_decide_eq_false (by assumption)),Bool.and_false])⟩
      | exact ⟨XQ,congrArg Value.bool (show false=isRed M by unfold isRed;rw [hred,AQn (by omega) (by unfold ATm;omega),Bool.and_false])⟩
      | (obtain rfl:m=1:=by omega
         first
         | exact ⟨XQ,congrArg Value.bool (show true=isRed M by unfold isRed;rw [hred,<- AF7 hsm,AN1,decide_eq_true ⟨by omega,by omega⟩];rfl)⟩
         | exact ⟨XQ,congrArg Value.bool (show false=isRed M by unfold isRed;rw [hred,AN1,decide_eq_false (by omega),Bool.and_false])⟩)
end Go.Proofs.YtiegjkmfpcgjjaaGreatDoor
namespace Go.QF
theorem AFy {α:Type} (f g:α->Int) (l:List α):ACs (l.map fun x=>f x * g x)=ACs (l.map f) * ACs (l.map g):=by
 induction l with
 | nil=>simp [ACs]
 | cons x l ih=>simp only [List.map_cons,ACs,ih];simp only [Int.mul_assoc,Int.mul_left_comm]
theorem AW2 (a:Int) (l:List Int):ACs (l.map fun x=>a * x)=a ^ l.length * ACs l:=by
 induction l with
 | nil=>simp [ACs]
 | cons x l ih=>simp only [List.map_cons,ACs,ih,List.length_cons,Int.pow_succ];simp only [Int.mul_assoc,Int.mul_left_comm,Int.mul_comm]
theorem AEw {α:Type} {f g:α->Int} {l:List α} (h:∀ x∈l,f x=g x):ACs (l.map f)=ACs (l.map g):=by rw [List.map_congr_left h]
theorem AY0 {α β:Type} (f:α->β->Int) (l:List α) (t:List β):ACs (l.map fun x=>ACs (t.map fun y=>f x y))=ACs (t.map fun y=>ACs (l.map fun x=>f x y)):=by
 induction l with
 | nil=>
   simp only [List.map_nil,ACs]
   induction t with
   | nil=>rfl
   | cons y t ih=>simp only [List.map_cons,ACs,<- ih];rfl
 | cons x l ih=>simp only [List.map_cons,ACs,ih];rw [<- AFy]
theorem Aew {p:Int} {α:Type} {f g:α->Int} {l:List α} (h:∀ x∈l,f x % p=g x % p):ACs (l.map f) % p=ACs (l.map g) % p:=by
 induction l with
 | nil=>rfl
 | cons x l ih=>
   simp only [List.map_cons,ACs]
   rw [Int.mul_emod,h x (List.mem_cons_self ..),ih fun y hy=>h y (List.mem_cons_of_mem _ hy),<- Int.mul_emod]
theorem AY1 {α:Type} {f:α->Int} {l:List α} (h:∀ x∈l,f x=1∨f x= -1):ACs (l.map f)=1∨ACs (l.map f)= -1:=by
 induction l with
 | nil=>exact .inl rfl
 | cons x l ih=>
   simp only [List.map_cons,ACs]
   rcases h x (List.mem_cons_self ..) with h1 | h1 <;> rcases ih (fun y hy=>h y (List.mem_cons_of_mem _ hy)) with h2 | h2 <;> rw [h1,h2] <;> simp
theorem Art (n:Nat):(upN n).length=n:=by simp [upN]
theorem AY2 (n:Nat):upN (n + 1)=upN n ++ [(n:Int) + 1]:=by simp [upN,List.range_succ]
theorem AOm (l t:List Int):ACs (l ++ t)=ACs l * ACs t:=by
 induction l with
 | nil=>simp [ACs]
 | cons x l ih=>simp only [List.cons_append,ACs,ih,Int.mul_assoc]
def chi (n:Int):Int:=if n % 2=0 then 1 else -1
theorem Aoe (n:Int):chi n=1∨chi n= -1:=by unfold chi;split <;> simp
theorem ATc (a b:Int):chi (a + b)=chi a * chi b:=by
 unfold chi;by_cases ha:a % 2=0 <;> by_cases hb:b % 2=0
 ·rw [if_pos ha,if_pos hb,if_pos (by omega)];rfl
 ·rw [if_pos ha,if_neg hb,if_neg (by omega)];rfl
 ·rw [if_neg ha,if_pos hb,if_neg (by omega)];rfl
 ·rw [if_neg ha,if_neg hb,if_pos (by omega)];rfl
theorem AV6 {a b:Int} (h:(a - b) % 2=0):chi a=chi b:=by
 unfold chi;by_cases ha:a % 2=0
 ·rw [if_pos ha,if_pos (by omega)]
 ·rw [if_neg ha,if_neg (by omega)]
theorem count_le (M N:Nat) (h:N<=M):ACs ((upN M).map fun l=>if l<=(N:Int) then -1 else 1)=chi N:=by
  induction M with
  | zero=>
    obtain rfl:N=0:=by omega
    rfl
  | succ M ih=>
    rw [AY2,List.map_append,AOm];simp only [List.map_cons,List.map_nil,ACs,Int.mul_one]
    rcases Nat.lt_or_ge M N with hlt | hge
    · obtain rfl:N=M + 1:=by omega
      rw [if_pos (by omega)]
      have h2:ACs ((upN M).map fun l=>if l<=((M + 1:Nat):Int) then -1 else 1)=ACs ((upN M).map fun l=>if l<=(M:Int) then -1 else 1):=AEw fun x hx=>by
        have:=AKr.1 hx;rw [if_pos (by omega),if_pos (by omega)]
      rw [h2]
      have key:∀ K:Nat,ACs ((upN K).map fun l=>if l<=(K:Int) then -1 else 1)=chi K:=by
        intro K;induction K with
        | zero=>rfl
        | succ K ihK=>
          rw [AY2,List.map_append,AOm];simp only [List.map_cons,List.map_nil,ACs,Int.mul_one]
          have h3:ACs ((upN K).map fun l=>if l<=((K + 1:Nat):Int) then -1 else 1)=ACs ((upN K).map fun l=>if l<=(K:Int) then -1 else 1):=AEw fun x hx=>by
            have:=AKr.1 hx;rw [if_pos (by omega),if_pos (by omega)]
          rw [h3,ihK,if_pos (by omega)];have:=ATc (K:Int) 1;rw [show ((K + 1:Nat):Int)=(K:Int) + 1 by omega,this];rfl
      rw [key];have:=ATc (M:Int) 1;rw [show ((M + 1:Nat):Int)=(M:Int) + 1 by omega,this];rfl
    · rw [ih hge,if_neg (by omega),Int.mul_one]
section
variable {p:Int} {m:Nat}
def gs (p:Int) (m:Nat) (a k:Int):Int:=if a * k % p<=m then 1 else -1
def gv (p:Int) (m:Nat) (a k:Int):Int:=if a * k % p<=m then a * k % p else p - a * k % p
def GS (p:Int) (m:Nat) (a:Int):Int:=ACs ((upN m).map (gs p m a))
theorem AWq (p:Int) (m:Nat) (a:Int):GS p m a=1∨GS p m a= -1:=AY1 fun x _=>by unfold gs;split <;> simp
theorem AOq (hp:Pr p) {a k:Int} (ha:a % p≠0) (hk:0 < k) (hkp:k < p):a * k % p≠0:=by
 have h2:=hp.1;have h1:0 < a % p:=by have:=Int.emod_nonneg a (show p≠0 by omega);omega
 have h3:=Int.emod_lt_of_pos a (show 0 < p by omega);have:=Aub hp h1 h3 hk hkp;rwa [Int.mul_emod,Int.emod_emod,<- Int.mul_emod] at this
theorem ARn (hp:Pr p) {a k:Int} (ha:a % p≠0) (hk:0 < k) (hkp:k < p):1<=a * k % p/\a * k % p < p:=by
 have h2:=hp.1;have h1:=AOq hp ha hk hkp;have h3:=Int.emod_nonneg (a * k) (show p≠0 by omega);have h4:=Int.emod_lt_of_pos (a * k) (show 0 < p by omega);omega
theorem Ai0 (hp:Pr p) (hm:p=2 * m + 1) {a:Int} (ha:a % p≠0):((upN m).map (gv p m a)).Perm (upN m):=by
 have hinj:∀ k∈upN m,∀ j∈upN m,gv p m a k=gv p m a j->k=j:=by
   intro k hk j hj he
   have hk:=AKr.1 hk
   have hj:=AKr.1 hj
   have r1:=ARn hp ha (k:=k) (by omega) (by omega)
   have r2:=ARn hp ha (k:=j) (by omega) (by omega)
   by_cases hkj:k=j
   · exact hkj
   · exfalso
     unfold gv at he
     have e1:a * k % p=a * j % p->False:=by
       intro h
       have h3:a * (k - j) % p=0:=by rw [Int.mul_sub,Int.sub_emod,h,Int.sub_self];rfl
       rcases Int.lt_trichotomy k j with hlt | heq | hgt
       · refine AOq hp ha (k:=j - k) (by omega) (by omega) ?_
         rw [show a * (j - k)= -(a * (k - j)) by rw [<- Int.mul_neg];congr 1;omega]
         exact Int.emod_eq_zero_of_dvd (Int.dvd_neg.2 (Int.dvd_of_emod_eq_zero h3))
       · exact hkj heq
       · exact AOq hp ha (k:=k - j) (by omega) (by omega) h3
     have e2:a * k % p + a * j % p=p->False:=by
       intro h
       refine AOq hp ha (k:=k + j) (by omega) (by omega) ?_
       rw [Int.mul_add,Int.add_emod,h,Int.emod_self]
     split at he <;> split at he
     · exact e1 he
     · exact e2 (by omega)
     · exact e2 (by omega)
     · exact e1 (by omega)
 refine AWi _ _ ?_ (fun x hx=>?_) (by simp)
 ·rw [List.nodup_iff_pairwise_ne,List.pairwise_map];have hnd:=Akd m;rw [List.nodup_iff_pairwise_ne] at hnd;refine List.Pairwise.imp_of_mem (fun {x y} hx hy hxy he=>hxy (hinj x hx y hy he)) hnd
 ·obtain ⟨k,hk,rfl⟩:=List.mem_map.1 hx;have hk:=AKr.1 hk;have r1:=ARn hp ha (k:=k) (by omega) (by omega);rw [AKr];unfold gv;split <;> omega
theorem Ai1 (hp:Pr p) (hm:p=2 * m + 1) {a:Int} (ha:a % p≠0):a ^ m % p=GS p m a % p:=by
 have h2:=hp.1;refine Aqk hp (upN m) (fun x hx=>by have:=AKr.1 hx;omega) ?_;have h1:=AW2 a (upN m);rw [Art] at h1;rw [<- h1]
 have h3:ACs ((upN m).map fun k=>a * k) % p=ACs ((upN m).map fun k=>gs p m a k * gv p m a k) % p:=by
   refine Aew fun k hk=>?_
   unfold gs gv
   split
   · rw [Int.one_mul,Int.emod_emod]
   · rw [show (-1:Int) * (p - a * k % p)=a * k % p - p by omega,Int.sub_emod,Int.emod_emod,Int.emod_self,Int.sub_zero,Int.emod_emod]
 rw [h3,AFy,AX6 (Ai0 hp hm ha)];rfl
theorem Atn (hp:Pr p) (hm:p=2 * m + 1) {a:Int} (ha:a % p≠0) (hodd:a % 2=1):GS p m a=ACs ((upN m).map fun k=>chi (a * k / p)):=by
 have h2:=hp.1
 have hpt:∀ k∈upN m,chi k=chi (a * k / p) * chi (gv p m a k) * gs p m a k:=by
   intro k hk
   have hk:=AKr.1 hk
   have r1:=ARn hp ha (k:=k) (by omega) (by omega)
   have hd:=Int.mul_ediv_add_emod (a * k) p
   have par:chi (a * k)=chi k:=by
     refine AV6 ?_
     obtain ⟨b,hb⟩:∃ b,a=2 * b + 1:=⟨a / 2,by omega⟩
     rw [hb,Int.add_mul,Int.one_mul,Int.mul_assoc]
     omega
   have parp:chi (p * (a * k / p))=chi (a * k / p):=by
     refine AV6 ?_
     rw [hm,Int.add_mul,Int.one_mul,Int.mul_assoc]
     omega
   rw [<- par,<- hd,ATc,parp,Int.mul_assoc]
   congr 1
   · rw [hd]
   · unfold gv gs
     split
     · rw [Int.mul_one]
     · have:chi (a * k % p)=chi (p - a * k % p) * chi 1:=by
         rw [<- ATc]
         exact AV6 (by omega)
       rw [this];rfl
 have h3:ACs ((upN m).map chi)=ACs ((upN m).map fun k=>chi (a * k / p)) * ACs ((upN m).map fun k=>chi (gv p m a k)) * GS p m a:=by
   rw [AEw hpt,AFy (fun k=>chi (a * k / p) * chi (gv p m a k)) (gs p m a),AFy]
   rfl
 have h4:ACs ((upN m).map fun k=>chi (gv p m a k))=ACs ((upN m).map chi):=by
   have:=AX6 ((Ai0 hp hm ha).map chi)
   rw [List.map_map] at this
   exact this
 rw [h4] at h3;have q1:=AY1 (f:=chi) (l:=upN m) fun x _=>Aoe x;have q2:=AY1 (f:=fun k=>chi (a * k / p)) (l:=upN m) fun x _=>Aoe _;have q3:=AWq p m a;generalize ACs ((upN m).map chi)=A at h3 q1;generalize ACs ((upN m).map fun k=>chi (a * k / p))=B at h3 q2 ⊢;generalize GS p m a=Cc at h3 q3 ⊢;rcases q1 with rfl | rfl <;> rcases q2 with rfl | rfl <;> rcases q3 with rfl | rfl <;> first | rfl | (exfalso;revert h3;decide)
end
theorem AY3 {p q:Int} {n:Nat} (hp:0 < p) (hq:q=2 * n + 1) {k:Int} (hk:0<=k) (Ad:2 * k < p):chi (q * k / p)=ACs ((upN n).map fun l=>if p * l<=q * k then -1 else 1):=by
 have h0:0<=q * k:=Int.mul_nonneg (by omega) hk;have h1:0<=q * k / p:=Int.ediv_nonneg h0 (by omega);obtain ⟨N,hN⟩:∃ N:Nat,q * k / p=N:=⟨(q * k / p).toNat,by omega⟩
 have hle:N<=n:=by
   rcases Nat.lt_or_ge n N with h | h
   · exfalso
     have h2:q * k / p * p<=q * k:=Int.ediv_mul_le _ (by omega)
     rw [hN] at h2
     have h3:((n:Int) + 1) * p<=N * p:=Int.mul_le_mul_of_nonneg_right (by omega) (by omega)
     have h4:q * (2 * k)<=q * (p - 1):=Int.mul_le_mul_of_nonneg_left (by omega) (by omega)
     rw [Int.mul_sub,Int.mul_one,Int.mul_left_comm] at h4
     have h5:(2 * (n:Int) + 2) * p=q * p + p:=by rw [hq,Int.add_mul,Int.add_mul];omega
     have h6:(2 * (n:Int) + 2) * p=2 * (((n:Int) + 1) * p):=by rw [<- Int.mul_assoc];congr 1
     omega
   · exact h
 rw [hN,<- count_le n N hle];refine AEw fun l hl=>?_
 have hiff:l<=(N:Int)↔p * l<=q * k:=by
   rw [<- hN,Int.le_ediv_iff_mul_le hp,Int.mul_comm]
 by_cases h:l<=(N:Int)
 ·rw [if_pos h,if_pos (hiff.1 h)]
 ·rw [if_neg h,if_neg (fun h'=>h (hiff.2 h'))]
theorem Aav (n:Nat):ACs ((upN n).map fun _=>(-1:Int))=chi n:=by
 rw [<- count_le n n (Nat.le_refl _)];exact AEw fun x hx=>by rw [if_pos (AKr.1 hx).2]
theorem Ak0 (n:Nat) (b:Int):ACs ((upN n).map fun _=>chi b)=chi (n * b):=by
 induction n with
 | zero=>simp [upN,ACs,chi]
 | succ n ih=>
   rw [AY2,List.map_append,AOm,ih]
   simp only [List.map_cons,List.map_nil,ACs,Int.mul_one]
   rw [<- ATc]
   congr 1
   rw [show ((n + 1:Nat):Int)=(n:Int) + 1 by omega,Int.add_mul,Int.one_mul]
theorem Awk {p q:Int} {m n:Nat} (hp:Pr p) (hq:Pr q) (hm:p=2 * m + 1) (hn:q=2 * n + 1) (hne:p≠q):GS p m q * GS q n p=chi (m * n):=by
 have Aa:=hp.1;have Ab:=hq.1
 have hqp:q % p≠0:=by
   intro h
   rcases Int.lt_trichotomy p q with hlt | heq | hgt
   · exact hq.2 p Aa hlt h
   · exact hne heq
   · rw [Int.emod_eq_of_lt (by omega) hgt] at h;omega
 have hpq:p % q≠0:=by
   intro h
   rcases Int.lt_trichotomy p q with hlt | heq | hgt
   · rw [Int.emod_eq_of_lt (by omega) hlt] at h;omega
   · exact hne heq
   · exact hp.2 q Ab hgt h
 rw [Atn hp hm hqp (by omega),Atn hq hn hpq (by omega)]
 have e1:ACs ((upN m).map fun k=>chi (q * k / p))=ACs ((upN m).map fun k=>ACs ((upN n).map fun l=>if p * l<=q * k then -1 else 1)):=
   AEw fun k hk=>by have:=AKr.1 hk;exact AY3 (by omega) hn (by omega) (by omega)
 have e2:ACs ((upN n).map fun l=>chi (p * l / q))=ACs ((upN n).map fun l=>ACs ((upN m).map fun k=>if q * k<=p * l then -1 else 1)):=
   AEw fun l hl=>by have:=AKr.1 hl;exact AY3 (by omega) hm (by omega) (by omega)
 rw [e1,e2,AY0 (fun l k=>if q * k<=p * l then (-1:Int) else 1),<- AFy]
 have e3:ACs ((upN m).map fun k=>ACs ((upN n).map fun l=>if p * l<=q * k then (-1:Int) else 1) * ACs ((upN n).map fun l=>if q * k<=p * l then (-1:Int) else 1))=ACs ((upN m).map fun _=>chi n):=by
   refine AEw fun k hk=>?_
   rw [<- AFy,<- Aav n]
   refine AEw fun l hl=>?_
   have hk:=AKr.1 hk
   have hl:=AKr.1 hl
   have hno:p * l≠q * k:=by
     intro he
     refine AOq hp hqp (k:=k) (by omega) (by omega) ?_
     rw [<- he];exact Int.mul_emod_right p l
   by_cases h:p * l<=q * k
   · rw [if_pos h,if_neg (by omega)];rfl
   · rw [if_neg h,if_pos (by omega)];rfl
 rw [e3,Ak0]
theorem Ak1 {p:Int} {m:Nat} (hp:Pr p) (hm:p=2 * m + 1) (hm1:1<=m):GS p m 2=if p % 8=1∨p % 8=7 then 1 else -1:=by
  have h1:GS p m 2=ACs ((upN m).map fun k=>(-1) * (if k<=((m / 2:Nat):Int) then -1 else 1)):=by
    refine AEw fun k hk=>?_;have hk:=AKr.1 hk;unfold gs;rw [Int.emod_eq_of_lt (by omega) (by omega)]
    by_cases h:2 * k<=(m:Int)
    · rw [if_pos h,if_pos (by omega)];rfl
    · rw [if_neg h,if_neg (by omega)];rfl
  rw [h1,AFy (fun _=> -1) (fun k=>if k<=((m / 2:Nat):Int) then -1 else 1),Aav,count_le m (m / 2) (by omega),<- ATc];unfold chi;obtain ⟨j,r,hj,hr⟩:∃ j r:Nat,m=4 * j + r/\r < 4:=⟨m / 4,m % 4,by omega,by omega⟩;have hd:m / 2=2 * j + r / 2:=by omega
  rw [hd]
  by_cases h:p % 8=1∨p % 8=7
  · have:r=0∨r=3:=by omega
    rcases this with rfl | rfl
    · rw [if_pos h,if_pos (by omega)]
    · rw [if_pos h,if_pos (by omega)]
  · have:r=1∨r=2:=by omega
    rcases this with rfl | rfl
    · rw [if_neg h,if_neg (by omega)]
    · rw [if_neg h,if_neg (by omega)]
end Go.QF
namespace Go.QF
def lg (p a:Int):Int:=if a ^ ((p - 1) / 2).toNat % p=0 then 0 else if a ^ ((p - 1) / 2).toNat % p=1 then 1 else -1
def OPr (p:Int):Prop:=Pr p/\p % 2=1
theorem OPr.half {p:Int} (h:OPr p):p=2 * (((p - 1) / 2).toNat:Int) + 1/\1<=((p - 1) / 2).toNat:=by
 have h1:=h.1.1;have h2:=h.2;omega
theorem OPr.three {p:Int} (h:OPr p):3<=p:=by have h1:=h.1.1;have h2:=h.2;omega
theorem AU3 {p a:Int} (hp:OPr p) (ha:a % p≠0):lg p a=GS p ((p - 1) / 2).toNat a:=by
 obtain ⟨h1,h2⟩:=hp.half;have h3:=hp.three;have hg:=Ai1 hp.1 h1 ha;unfold lg;rw [hg];rcases AWq p ((p - 1) / 2).toNat a with h | h
 ·rw [h,Int.emod_eq_of_lt (by omega) (by omega)];rfl
 ·rw [h]
  have:(-1:Int) % p=p - 1:=by
    rw [show (-1:Int)=(p - 1) + p * (-1) by omega,Int.add_mul_emod_self_left,Int.emod_eq_of_lt (by omega) (by omega)]
  rw [this,if_neg (by omega),if_neg (by omega)]
theorem Aci {p a:Int} (ha:a % p=0):∀ m:Nat,1<=m->a ^ m % p=0:=by
 intro m hm;obtain ⟨k,rfl⟩:∃ k,m=k + 1:=⟨m - 1,by omega⟩;rw [Int.pow_succ,Int.mul_emod,ha,Int.mul_zero,Int.zero_emod]
theorem AKw {p a:Int} (hp:OPr p) (ha:a % p=0):lg p a=0:=by
 unfold lg;rw [if_pos (Aci ha _ hp.half.2)]
theorem AWr {p a:Int} (hp:OPr p) (ha:a % p≠0):lg p a=1∨lg p a= -1:=by rw [AU3 hp ha];exact AWq _ _ _
theorem AJp {p a b:Int} (hp:OPr p) (h:a % p=b % p):lg p a=lg p b:=by
 by_cases ha:a % p=0
 ·rw [AKw hp ha,AKw hp (h ▸ ha)]
 ·rw [AU3 hp ha,AU3 hp (h ▸ ha)];refine AEw fun k _=>?_;unfold gs;rw [Int.mul_emod a,h,<- Int.mul_emod]
theorem Acj {p a:Int} (hp:OPr p):lg p (a % p)=lg p a:=AJp hp (Int.emod_emod _ _)
theorem AWs {p a b:Int} (hp:OPr p) (ha:a % p≠0) (hb:b % p≠0):a * b % p≠0:=by
 have h3:=hp.three;have h1:=Int.emod_nonneg b (show p≠0 by omega);have h2:=Int.emod_lt_of_pos b (show 0 < p by omega);have:=AOq hp.1 ha (k:=b % p) (by omega) h2;rwa [Int.mul_emod,Int.emod_emod,<- Int.mul_emod] at this
theorem AL2 {p:Int} (hp:OPr p) (a b:Int):lg p (a * b)=lg p a * lg p b:=by
 by_cases ha:a % p=0
 ·rw [AKw hp ha,AKw hp (by rw [Int.mul_emod,ha,Int.zero_mul,Int.zero_emod]),Int.zero_mul]
 ·by_cases hb:b % p=0
  ·rw [AKw hp hb,AKw hp (by rw [Int.mul_emod,hb,Int.mul_zero,Int.zero_emod]),Int.mul_zero]
  ·obtain ⟨h1,h2⟩:=hp.half;have h3:=hp.three;have hab:=AWs hp ha hb;rw [AU3 hp ha,AU3 hp hb,AU3 hp hab];have g1:=Ai1 hp.1 h1 ha;have g2:=Ai1 hp.1 h1 hb;have g3:=Ai1 hp.1 h1 hab;rw [Int.mul_pow,Int.mul_emod,g1,g2,<- Int.mul_emod] at g3
   have Ah:(-1:Int) % p=p - 1:=by
     rw [show (-1:Int)=(p - 1) + p * (-1) by omega,Int.add_mul_emod_self_left,Int.emod_eq_of_lt (by omega) (by omega)]
   have Ai:(1:Int) % p=1:=Int.emod_eq_of_lt (by omega) (by omega);rcases AWq p ((p - 1) / 2).toNat a with e1 | e1 <;> rcases AWq p ((p - 1) / 2).toNat b with e2 | e2 <;> rcases AWq p ((p - 1) / 2).toNat (a * b) with e3 | e3 <;> rw [e1,e2,e3] at g3 ⊢ <;> first | rfl | (exfalso;simp only [Int.mul_one,Int.one_mul,Int.mul_neg,Int.neg_mul,Int.neg_neg,Ah,Ai] at g3;omega)
def e4 (x y:Int):Int:=if x % 4=3/\y % 4=3 then -1 else 1
def e8 (x:Int):Int:=if x % 8=1∨x % 8=7 then 1 else -1
theorem Aux {p:Int} (hp:OPr p):lg p 2=e8 p:=by
 obtain ⟨h1,h2⟩:=hp.half;have h3:=hp.three;rw [AU3 hp (by rw [Int.emod_eq_of_lt (by omega) (by omega)];omega),Ak1 hp.1 h1 h2];rfl
theorem Aof {p q:Int} (hp:OPr p) (hq:OPr q):lg p q=e4 p q * lg q p:=by
 by_cases hpq:p=q
 ·subst hpq;rw [AKw hp (Int.emod_self),Int.mul_zero]
 ·obtain ⟨h1,_⟩:=hp.half;obtain ⟨h2,_⟩:=hq.half
  have Ae:q % p≠0:=by
    intro h
    rcases Int.lt_trichotomy p q with hlt | heq | hgt
    · exact hq.1.2 p hp.1.1 hlt h
    · exact hpq heq
    · rw [Int.emod_eq_of_lt (by have:=hq.three;omega) hgt] at h;have:=hq.three;omega
  have Af:p % q≠0:=by
    intro h
    rcases Int.lt_trichotomy p q with hlt | heq | hgt
    · rw [Int.emod_eq_of_lt (by have:=hp.three;omega) hlt] at h;have:=hp.three;omega
    · exact hpq heq
    · exact hp.1.2 q hq.1.1 hgt h
  have hr:=Awk hp.1 hq.1 h1 h2 hpq;rw [AU3 hp Ae,AU3 hq Af]
  have hc:chi ((((p - 1) / 2).toNat:Int) * (((q - 1) / 2).toNat:Int))=e4 p q:=by
    generalize hm:(((p - 1) / 2).toNat:Int)=m at h1 ⊢
    generalize hn:(((q - 1) / 2).toNat:Int)=n at h2 ⊢
    unfold chi e4
    rw [Int.mul_emod]
    rcases (by omega:m % 2=0∨m % 2=1) with a | a <;> rcases (by omega:n % 2=0∨n % 2=1) with b | b <;> rw [a,b]
    · rw [if_pos (by decide),if_neg (by omega)]
    · rw [if_pos (by decide),if_neg (by omega)]
    · rw [if_pos (by decide),if_neg (by omega)]
    · rw [if_neg (by decide),if_pos (by omega)]
  rw [hc] at hr;rcases AWq p ((p - 1) / 2).toNat q with e1 | e1 <;> rcases AWq q ((q - 1) / 2).toNat p with e2 | e2 <;> rw [e1,e2] at hr ⊢ <;> rw [<- hr] <;> rfl
def Jb (ps:List Int) (a:Int):Int:=ACs (ps.map fun p=>lg p a)
def AZ4 (ps:List Int):Prop:= ∀ p∈ps,OPr p
theorem Auy {ps:List Int} (h:AZ4 ps) (a b:Int):Jb ps (a * b)=Jb ps a * Jb ps b:=by
 unfold Jb;rw [<- AFy];exact AEw fun p hp=>AL2 (h p hp) a b
theorem ASs {ps:List Int} (h:AZ4 ps):ACs ps % 2=1/\1<=ACs ps:=by
 induction ps with
 | nil=>exact ⟨rfl,Int.le_refl _⟩
 | cons p ps ih=>
   obtain ⟨h1,h2⟩:=ih fun q hq=>h q (List.mem_cons_of_mem _ hq)
   have hp:=h p (List.mem_cons_self ..)
   have h3:=hp.three
   have h4:=hp.2
   simp only [ACs]
   refine ⟨by rw [Int.mul_emod,h1,h4];rfl,?_⟩
   have:=Int.mul_le_mul (show (1:Int)<=p by omega) h2 (by omega) (by omega)
   simpa using this
theorem Aru {ps:List Int} (h:AZ4 ps) (hne:ps≠[]):3<=ACs ps:=by
 cases ps with
 | nil=>exact absurd rfl hne
 | cons p ps=>
   have h2:=(ASs (ps:=ps) fun q hq=>h q (List.mem_cons_of_mem _ hq)).2
   have h3:=(h p (List.mem_cons_self ..)).three
   have:=Int.mul_le_mul h3 h2 (by omega) (by omega)
   simp only [ACs]
   simpa using this
theorem Aog {ps:List Int} {p:Int} (h:p∈ps):p ∣ ACs ps:=by
 induction ps with
 | nil=>cases h
 | cons q ps ih=>
   simp only [ACs]
   rcases List.mem_cons.1 h with rfl | h
   · exact Int.dvd_mul_right _ _
   · exact Int.dvd_mul_of_dvd_right (ih h)
theorem Auz {ps:List Int} (h:AZ4 ps) (a:Int):Jb ps (a % ACs ps)=Jb ps a:=
  AEw fun p hp=>AJp (h p hp) (Int.emod_emod_of_dvd a (Aog hp))
theorem Au0 {x y:Int} (hx:x % 2=1) (hy:y % 2=1):e8 (x * y)=e8 x * e8 y:=by
 unfold e8;rw [Int.mul_emod];rcases (by omega:x % 8=1∨x % 8=3∨x % 8=5∨x % 8=7) with a | a | a | a <;> rcases (by omega:y % 8=1∨y % 8=3∨y % 8=5∨y % 8=7) with b | b | b | b <;> rw [a,b] <;> rfl
theorem Au1 {x y z:Int} (hy:y % 2=1) (hz:z % 2=1):e4 x (y * z)=e4 x y * e4 x z:=by
 unfold e4;rw [Int.mul_emod];rcases (by omega:x % 4=0∨x % 4=1∨x % 4=2∨x % 4=3) with a | a | a | a <;> rcases (by omega:y % 4=1∨y % 4=3) with b | b <;> rcases (by omega:z % 4=1∨z % 4=3) with c | c <;> rw [a,b,c] <;> rfl
theorem Arv (x y:Int):e4 x y=e4 y x:=by unfold e4;simp only [And.comm]
theorem Au2 {ps:List Int} (h:AZ4 ps):Jb ps 2=e8 (ACs ps):=by
 induction ps with
 | nil=>rfl
 | cons p ps ih=>
   have hp:=h p (List.mem_cons_self ..)
   have ho:=ASs (ps:=ps) fun q hq=>h q (List.mem_cons_of_mem _ hq)
   have ih:=ih fun q hq=>h q (List.mem_cons_of_mem _ hq)
   unfold Jb at ih ⊢
   simp only [List.map_cons,ACs]
   rw [ih,Aux hp,Au0 hp.2 ho.1]
theorem Ai2 {p:Int} (hp:OPr p) (qs:List Int):lg p (ACs qs)=ACs (qs.map fun q=>lg p q):=by
 induction qs with
 | nil=>
   show lg p 1=1
   unfold lg
   have h3:=hp.three
   rw [Int.one_pow,Int.emod_eq_of_lt (by omega) (by omega)];rfl
 | cons q qs ih=>simp only [List.map_cons,ACs];rw [AL2 hp,ih]
theorem Ai3 {x:Int} {qs:List Int} (h:AZ4 qs):ACs (qs.map fun q=>e4 x q)=e4 x (ACs qs):=by
 induction qs with
 | nil=>simp [ACs,e4]
 | cons q qs ih=>
   have ho:=ASs (ps:=qs) fun r hr=>h r (List.mem_cons_of_mem _ hr)
   simp only [List.map_cons,ACs]
   rw [ih fun r hr=>h r (List.mem_cons_of_mem _ hr),Au1 (h q (List.mem_cons_self ..)).2 ho.1]
theorem Aoh {ps qs:List Int} (hp:AZ4 ps) (hq:AZ4 qs):Jb ps (ACs qs)=e4 (ACs qs) (ACs ps) * Jb qs (ACs ps):=by
 unfold Jb
 have e1:ACs (ps.map fun p=>lg p (ACs qs))=ACs (ps.map fun p=>e4 (ACs qs) p * ACs (qs.map fun q=>lg q p)):=by
   refine AEw fun p hpm=>?_
   rw [Ai2 (hp p hpm),Arv,<- Ai3 hq,<- AFy]
   exact AEw fun q hqm=>Aof (hp p hpm) (hq q hqm)
 rw [e1,AFy,Ai3 hp,AY0 (fun p q=>lg q p)];congr 1;exact AEw fun q hqm=>(Ai2 (hq q hqm) ps).symm
theorem Arw:∀ (n:Nat) (a:Int),a.toNat<=n->1<=a->a % 2=1-> ∃ qs,AZ4 qs/\ACs qs=a:=by
 intro n
 induction n with
 | zero=>intro a h1 h2;omega
 | succ n ih=>
   intro a h1 h2 h3
   by_cases Ah:a=1
   · exact ⟨[],(fun q hq=>by cases hq),by rw [Ah];rfl⟩
   · by_cases hpr:Pr a
     · exact ⟨[a],(fun q hq=>by rw [List.mem_singleton.1 hq];exact ⟨hpr,h3⟩),by simp [ACs]⟩
     · have hex:∃ d,2<=d/\d < a/\a % d=0:=by
         by_cases hh:∃ d,2<=d/\d < a/\a % d=0
         · exact hh
         · exact absurd ⟨by omega,fun d Aa Ad Ab=>hh ⟨d,Aa,Ad,Ab⟩⟩ hpr
       obtain ⟨d,Aa,Ad,Ab⟩:=hex
       have hda:d * (a / d)=a:=by have:=Int.mul_ediv_add_emod a d;omega
       have Aq:0 < a / d:=Int.ediv_pos_of_pos_of_dvd (by omega) (by omega) (Int.dvd_of_emod_eq_zero Ab)
       have hqlt:a / d < a:=by
         have:2 * (a / d)<=d * (a / d):=Int.mul_le_mul_of_nonneg_right Aa (by omega)
         omega
       have hpar:d % 2=1/\(a / d) % 2=1:=by
         have h4:(d % 2) * ((a / d) % 2) % 2=1:=by rw [<- Int.mul_emod,hda];exact h3
         rcases (by omega:d % 2=0∨d % 2=1) with e | e <;> rcases (by omega:(a / d) % 2=0∨(a / d) % 2=1) with f | f <;> rw [e,f] at h4 <;> first | exact ⟨e,f⟩ | (exfalso;revert h4;decide)
       obtain ⟨q1,Aj,e1⟩:=ih d (by omega) (by omega) hpar.1
       obtain ⟨q2,Ao,e2⟩:=ih (a / d) (by omega) (by omega) hpar.2
       refine ⟨q1 ++ q2,fun q hq=>?_,by rw [AOm,e1,e2,hda]⟩
       rcases List.mem_append.1 hq with h | h
       · exact Aj q h
       · exact Ao q h
def AY4 (T s a n:Int):Prop:= ∃ ps,AZ4 ps/\ACs ps=n/\T=s * Jb ps a
theorem Ag8 {p a:Int} (hp:OPr p):AY4 (lg p a) 1 a p:=⟨[p],(fun q hq=>by rw [List.mem_singleton.1 hq];exact hp),by simp [ACs],by simp [Jb,ACs]⟩
theorem Ak2 {T s a n:Int} (h:AY4 T s a n) (he:a % 2=0):AY4 T (if n % 8=3∨n % 8=5 then -s else s) (a / 2) n:=by
 obtain ⟨ps,h1,h2,h3⟩:=h;refine ⟨ps,h1,h2,?_⟩;have ho:=ASs h1;have ha:a=2 * (a / 2):=by omega
 rw [ha,Auy h1,Au2 h1,h2] at h3;rw [h3];rw [h2] at ho;unfold e8;by_cases h8:n % 8=3∨n % 8=5
 ·rw [if_pos h8,if_neg (by omega)];simp [Int.mul_neg,Int.neg_mul]
 ·rw [if_neg h8,if_pos (by omega)];simp
theorem Ak3 {T s a n:Int} (h:AY4 T s a n) (h0:0 < a) (ho:a % 2=1):AY4 T (if a % 4=3/\n % 4=3 then -s else s) (n % a) a:=by
 obtain ⟨ps,h1,h2,h3⟩:=h;obtain ⟨qs,q1,q2⟩:=Arw a.toNat a (Nat.le_refl _) (by omega) ho;refine ⟨qs,q1,q2,?_⟩;have hr:=Aoh h1 q1;rw [q2,h2] at hr;rw [h3,hr];have hmod:=Auz q1 n;rw [q2] at hmod;rw [hmod];unfold e4;by_cases h4:a % 4=3/\n % 4=3
 ·rw [if_pos h4,if_pos h4];simp [Int.mul_neg,Int.neg_mul]
 ·rw [if_neg h4,if_neg h4];simp
theorem Aoi {T s n:Int} (h:AY4 T s 0 n):T=if n=1 then s else 0:=by
 obtain ⟨ps,h1,h2,h3⟩:=h;by_cases hn:ps=[]
 ·subst hn;simp only [ACs] at h2;rw [if_pos h2.symm,h3];simp [Jb,ACs]
 ·have:=Aru h1 hn;rw [if_neg (by omega),h3]
  cases ps with
  | nil=>exact absurd rfl hn
  | cons p ps=>
    unfold Jb
    simp only [List.map_cons,ACs]
    rw [AKw (h1 p (List.mem_cons_self ..)) (Int.zero_emod _),Int.zero_mul,Int.mul_zero]
theorem Aex {T s a n:Int} (h:AY4 T s a n):n % 2=1/\1<=n:=by
 obtain ⟨ps,h1,h2,_⟩:=h;rw [<- h2];exact ASs h1
end Go.QF
namespace Go.Proofs.YtiegjkmfpcgjjaaGreatDoor
open Go Go.QF
set_option maxRecDepth 100000
open Classical in
noncomputable def AOn (p:Int):Bool:=decide (2 < p/\p<=9973/\Pr p)
theorem AT9 {p:Int} (h:2 < p/\p<=9973/\Pr p):true=AOn p:=by simp [AOn,h]
theorem ARo {p:Int} (h: ¬ (2 < p/\p<=9973/\Pr p)):false=AOn p:=by simp [AOn,h]
theorem Ack {p:Int} (h:AOn p=true):2 < p/\p<=9973/\Pr p:=by simpa [AOn] using h
theorem prB {p:Int} {b:Bool} (h:AKl p=b) (hp:p<=9973):b=true↔Pr p:=by
 subst h;constructor
 ·intro h;exact (Aab h).2
 ·intro h;exact (AXv (by omega) h).symm
open Classical in
noncomputable def AFp (p:Int):Bool:=decide (p<=9973/\Pr p)
theorem Aoj (p:Int) (h:ABh):ACd Tryz.prog 101 #[.int .i64 p] h fun v h'=>h'=h/\v= .bool (AFp p):=by
 refine ACv (l:=[_]) mx Tryz.func101 rfl rfl rfl rfl rfl (by kernel_rfl) (ABj (ACu (Wk (ATo rfl rfl (fun Aa=>?_) (fun Aa=>?_)))))
 ·refine Wk (ACt 5 true (by kernel_rfl) rfl rfl (Wk (ACt 5 true (by kernel_rfl) rfl rfl (ACn trivial rfl (Amj p _) fun x1 h hk=>?_))));obtain ⟨rfl,rfl⟩:=hk;refine ⟨trivial,?_⟩;cases Ac:AKl p
  ·refine AB0 rfl (ABp (ABs (⟨_,ABu,?_⟩)))
   first
   | exact ⟨rfl,congrArg Value.bool (show false=AFp p by simp [AFp];intro hh;omega)⟩
   | (have hq:=(prB (by assumption:AKl p=_) (by omega));first | exact ⟨rfl,congrArg Value.bool (show true=AFp p by simp [AFp];exact ⟨by omega,hq.1 rfl⟩)⟩ | exact ⟨rfl,congrArg Value.bool (show false=AFp p by simp [AFp];intro _ hh;have:=hq.2 hh;cases this)⟩)
  ·refine AB0 rfl (ABp (ABs (⟨_,ABu,?_⟩)))
   first
   | exact ⟨rfl,congrArg Value.bool (show false=AFp p by simp [AFp];intro hh;omega)⟩
   | (have hq:=(prB (by assumption:AKl p=_) (by omega));first | exact ⟨rfl,congrArg Value.bool (show true=AFp p by simp [AFp];exact ⟨by omega,hq.1 rfl⟩)⟩ | exact ⟨rfl,congrArg Value.bool (show false=AFp p by simp [AFp];intro _ hh;have:=hq.2 hh;cases this)⟩)
 ·refine Wk (ACb 5 false (by kernel_rfl) rfl rfl (ACb 5 false (by kernel_rfl) rfl rfl (ABv rfl (ABp (ABs (⟨_,ABu,?_⟩))))))
  first
  | exact ⟨rfl,congrArg Value.bool (show false=AFp p by simp [AFp];intro hh;omega)⟩
  | (have hq:=(prB (by assumption:AKl p=_) (by omega));first | exact ⟨rfl,congrArg Value.bool (show true=AFp p by simp [AFp];exact ⟨by omega,hq.1 rfl⟩)⟩ | exact ⟨rfl,congrArg Value.bool (show false=AFp p by simp [AFp];intro _ hh;have:=hq.2 hh;cases this)⟩)
theorem Ak4 (p:Int) (h:ABh):ACd Tryz.prog 65 #[.int .i64 p] h fun v h'=>h'=h/\v= .bool (AOn p):=by
 refine ACv (l:=[_]) mx Tryz.func65 rfl rfl rfl rfl rfl (by kernel_rfl) (ABj (ACu (Wk (ATq rfl rfl (fun Ab=>?_) (fun Ab=>?_)))))
 ·refine Wk (ACt 5 true (by kernel_rfl) rfl rfl (Wk (ACt 5 true (by kernel_rfl) rfl rfl (ACn trivial rfl (Aoj p _) fun x1 h hk=>?_))));obtain ⟨rfl,rfl⟩:=hk;refine ⟨trivial,?_⟩;cases Ad:AFp p
  ·refine AB0 rfl (ABp (ABs (⟨_,ABu,?_⟩)))
   first
   | (have hq:AFp p=true:=by assumption
      have Aa:p<=9973/\Pr p:=by simpa [AFp] using hq
      exact ⟨rfl,congrArg Value.bool (AT9 ⟨by have:=Aa.2.1;omega,Aa⟩)⟩)
   | (have hq:AFp p=false:=by assumption
      exact ⟨rfl,congrArg Value.bool (ARo (fun hh=>by
        have Aa: ¬ (p<=9973/\Pr p):=by simpa [AFp] using hq
        exact Aa hh.2))⟩)
   | exact ⟨rfl,congrArg Value.bool (ARo (fun hh=>by have:=hh.1;omega))⟩
  ·refine AB0 rfl (ABp (ABs (⟨_,ABu,?_⟩)))
   first
   | (have hq:AFp p=true:=by assumption
      have Aa:p<=9973/\Pr p:=by simpa [AFp] using hq
      exact ⟨rfl,congrArg Value.bool (AT9 ⟨by have:=Aa.2.1;omega,Aa⟩)⟩)
   | (have hq:AFp p=false:=by assumption
      exact ⟨rfl,congrArg Value.bool (ARo (fun hh=>by
        have Aa: ¬ (p<=9973/\Pr p):=by simpa [AFp] using hq
        exact Aa hh.2))⟩)
   | exact ⟨rfl,congrArg Value.bool (ARo (fun hh=>by have:=hh.1;omega))⟩
 ·refine Wk (ACb 5 false (by kernel_rfl) rfl rfl (ACb 5 false (by kernel_rfl) rfl rfl (ABv rfl (ABp (ABs (⟨_,ABu,?_⟩))))))
  first
  | (have hq:AFp p=true:=by assumption
     have Aa:p<=9973/\Pr p:=by simpa [AFp] using hq
     exact ⟨rfl,congrArg Value.bool (AT9 ⟨by have:=Aa.2.1;omega,Aa⟩)⟩)
  | (have hq:AFp p=false:=by assumption
     exact ⟨rfl,congrArg Value.bool (ARo (fun hh=>by
       have Aa: ¬ (p<=9973/\Pr p):=by simpa [AFp] using hq
       exact Aa hh.2))⟩)
  | exact ⟨rfl,congrArg Value.bool (ARo (fun hh=>by have:=hh.1;omega))⟩
end Go.Proofs.YtiegjkmfpcgjjaaGreatDoor
namespace Go.Proofs.YtiegjkmfpcgjjaaGreatDoor
open Go Go.QF
noncomputable def AV7 (fuel:Nat) (M:List (List Int)):Option Bool:=some (isRed M)
theorem Ag9 {fuel:Nat} {h:ABh} {v:Value} {M:List (List Int)} {r:Bool} (H:AGe (cI .i64) h v M) (hp:AV7 fuel M=some r):ACd Tryz.prog 67 #[v] h (fun x h'=>Ext h h'/\x= .bool r):=by
 cases hp;exact Ach (An8 H) H.1
noncomputable def AY5 (fuel:Nat) (n:Int):Option Bool:=some (AKl n)
theorem Ak5 {fuel:Nat} {h:ABh} {n:Int} {r:Bool} (HO:AT2 h) (hp:AY5 fuel n=some r):ACd Tryz.prog 68 #[.int .i64 n] h (fun x h'=>Ext h h'/\x= .bool r):=by
 cases hp;exact (Av4 n HO).mono fun x h' ⟨he,hx⟩=>⟨he ▸ Ext.refl _,hx⟩
noncomputable def Acl (fuel:Nat) (n:Int):Option Bool:=some (AOn n)
theorem Aok {fuel:Nat} {h:ABh} {n:Int} {r:Bool} (hp:Acl fuel n=some r):ACd Tryz.prog 65 #[.int .i64 n] h (fun x h'=>Ext h h'/\x= .bool r):=by
 cases hp;exact (Ak4 n h).mono fun x h' ⟨he,hx⟩=>⟨he ▸ Ext.refl _,hx⟩
end Go.Proofs.YtiegjkmfpcgjjaaGreatDoor
namespace Go.Proofs.YtiegjkmfpcgjjaaGreatDoor
open Go Go.QF
set_option maxRecDepth 100000
set_option maxHeartbeats 4000000
def AHu (fuel:Nat) (a3:LiI):Option Int:=
  ((AE5 fuel a3).bind fun x5=>((AC3 fuel x5).bind fun Ac=>((Ab8 fuel Ac).bind fun (Ad,Ae)=>(some Ad))))
theorem ARp {fuel:Nat} {h:ABh} {Aa:Value} {a3:LiI} {r:Int} (H2:AGe (cI .i64) h Aa a3) (hp:AHu fuel a3=some r):ACd Tryz.prog 66 #[Aa] h (fun x h'=>Ext h h'/\x= .int .i64 r):=by
 unfold AHu at hp;refine cwf (l:=[_]) Tryz.func66 rfl rfl (ABj (ACu (Wk ?_)));have K0:=Kst.k0 h;obtain ⟨x5,Ah,Ai⟩:=ABl hp;refine AC4 rfl (AKn (H2.ext K0.x) Ah) fun A4 h9 E8 Ak=>?_;obtain ⟨A6,A7,A8,A9,rfl,Am,Ao⟩:=Ak;have Ad:=K0.no2 E8 Ao Am;obtain ⟨Ba,Ap,Aq⟩:=ABl Ai;refine AC4 rfl (AEb (Ad.o2 p0).rd Ap) fun Bb Bc Ar Au=>?_;obtain ⟨Be,rfl,Av⟩:=Au;obtain ⟨Bf,rfl,Aw⟩:=Av.cs;have Ae:=(Ad.e Ar).az Aw;obtain ⟨⟨Bg,Bh⟩,Ax,Af⟩:=ABl Aq;dsimp only at Af;refine AC4 rfl (Ad9 (Ae.z p0).2 Ax) fun Bi Bj Ay Az=>?_;subst Az;refine Wk (ADc rfl rfl (ADc rfl rfl (ACg (ACu (Wk (ABp (ABs ?_)))))));obtain rfl:=ABk Af;exact ⟨_,ABu,(Ae.e Ay).x,rfl⟩
end Go.Proofs.YtiegjkmfpcgjjaaGreatDoor
namespace Go.Proofs.YtiegjkmfpcgjjaaGreatDoor
open Go Go.QF
set_option maxRecDepth 100000
set_option maxHeartbeats 4000000
def AMa (fuel:Nat) (a3 a7:LiI) (Ab:Int) (Ae:LiA) (Aa:Int):Option ((Int) ⊕ ((Bool) ⊕ (Unit))):=
  (if Aa < (Ae.length:Int) then ((gI a3 Ab).bind fun Af=>((gI Af Aa).bind fun Ag=>((gI a7 Ab).bind fun Ah=>((gI Ah Aa).bind fun Ai=>(if ¬ Ag=Ai then (some (Sum.inr<| Sum.inl <| false)) else (some (Sum.inl (w64 (Aa + 1))))))))) else (some (Sum.inr<| Sum.inr <| ())))
def AMb (fuel:Nat) (a3 a7:LiI) (Aa:Int):Option ((Int) ⊕ ((Bool) ⊕ (Unit))):=
  (if Aa < (a3.length:Int) then ((gI a3 Aa).bind fun Ad=>((gI a7 Aa).bind fun Ae=>(if ¬ (Ad.length:Int)=(Ae.length:Int) then (some (Sum.inr<| Sum.inl <| false)) else ((iter (fun s=>AMa fuel a3 a7 Aa Ad s) fuel 0).bind (fun ex=>match ex with | Sum.inl Af=>(some (Sum.inr<| Sum.inl <| Af)) | Sum.inr (_)=>(some (Sum.inl (w64 (Aa + 1))))))))) else (some (Sum.inr<| Sum.inr <| ())))
def AK6 (fuel:Nat) (a3 a7:LiI):Option Bool:=
  (if ¬ (a3.length:Int)=(a7.length:Int) then (some false) else ((iter (fun s=>AMb fuel a3 a7 s) fuel 0).bind (fun ex=>match ex with | Sum.inl Ac=>(some Ac) | Sum.inr (_)=>(some true))))
theorem AQo {fuel:Nat} {h:ABh} {Av:Value} {a3:LiI} {Ax:Value} {a7:LiI} {r:Bool} (H2:AGe (cI .i64) h Av a3) (H6:AGe (cI .i64) h Ax a7) (hp:AK6 fuel a3 a7=some r):ACd Tryz.prog 17 #[Av,Ax] h (fun x h'=>Ext h h'/\x= .bool r):=by
 unfold AK6 at hp;refine cwf (l:=[_,_]) Tryz.func17 rfl rfl (ABj (ABp (ABm (ABj (Wk (ADn AB2 rfl H2 (Wk (ADn AB2 rfl H6 (AHe rfl rfl (ABo ?_))))))))));have K0:=Kst.k0 h;refine ⟨_,rfl,fun Ak=>?_,fun Ak=>?_⟩
 ·refine ABj (ABp (ABs (AB1 ?_)));obtain rfl:=ABk (AC7 hp Ak);exact ⟨_,ABu,K0.x,rfl⟩
 ·refine ABr (q_t (ABm (ABj (Wk (ADn AB2 rfl H2 (Wk (ABo (ABq ?_))))))));obtain ⟨Ah,A6,Am⟩:=ABl (AC8 hp Ak);obtain ⟨A7,A8,A9⟩:=ACl A6;refine ACk 9007199254724720 (fun x:(Int)=>[(14,(.int .i64 x))]) (fun k x h'=>iter A7 k x=some Ah/\Kst h h' (K0.L)) (by kernel_rfl) fuel (0:(Int)) ?_ ⟨rfl,trivial⟩ ?_
  ·exact ⟨A9,K0⟩
  rintro Cb Ba Cd Ce ⟨Bb,Aa⟩;obtain ⟨Bc,Cf,rfl,Ae,Ab⟩:=AB7 Bb;rw [A8] at Ae;dsimp only at Ae;unfold AMb at Ae;refine ABj (AC1 rfl rfl (ABo (ABm (⟨_,rfl,fun Ao=>?_,fun Ao=>?_⟩))))
  ·refine ABr (q_t (ABm (ABq (ABj (Wk (ABp (ABm (ABm (AMd (Wk (Wk ?_)))))))))));obtain ⟨Cg,Az,Be⟩:=ABl (AC7 Ae Ao);refine AIy AB2 rfl H2 rfl Az fun Ch Ci Cj Bf Bg=>AB4 ACm rfl (ABz Bf Aa.x) (AD1 ABx rfl Bg (Wk (Wk ?_)));obtain ⟨Ck,Bh,A3⟩:=ABl Be;refine AIy AB2 rfl H6 rfl Bh fun Cm Cn Co Bi Bj=>AB4 ACm rfl (ABz Bi Aa.x) (AD1 ABx rfl Bj (AHe rfl rfl (ABo (⟨_,rfl,fun Ap=>?_,fun Ap=>?_⟩))))
   ·refine ABj (ABp ?_);obtain rfl:=ABk (AC7 A3 Ap);change _=Ah at Ab;subst Ab;refine ABs (AB1 (ADs (AB1 (AB1 (ADs (AB1 ?_))))));obtain rfl:=ABk Am;exact ⟨_,ABu,Aa.x,rfl⟩
   ·refine ABr (q_t (ABj (Wk (Wk (AIy AB2 rfl H2 rfl Az fun Cp Cq Cr Bl Bm=>AB4 ACm rfl (ABz Bl Aa.x) (AD1 ABx rfl Bm (Wk (ABo (ABq ?_)))))))));obtain ⟨Aq,Bn,A4⟩:=ABl (AC8 A3 Ap);obtain ⟨Bo,Bp,Bq⟩:=ACl Bn;refine ACk 4503591037435984 (fun x:(Int)=>[(33,(.int .i64 x))]) (fun k x h'=>iter Bo k x=some Aq/\Kst h h' (Aa.L)) (by kernel_rfl) fuel (0:(Int)) ?_ ⟨rfl,trivial⟩ ?_
    ·exact ⟨Bq,Aa⟩
    rintro Ct Br Cu Cv ⟨Bt,Ac⟩;obtain ⟨Bu,Cw,rfl,Af,Ag⟩:=AB7 Bt;rw [Bp] at Af;dsimp only at Af;unfold AMa at Af;refine ABj (AC1 rfl rfl (ABo (ABm (⟨_,rfl,fun Ar=>?_,fun Ar=>?_⟩))))
    ·refine ABr (q_t (ABm (ABq (ABj (Wk (ABp (ABm (AMd (Wk (Wk ?_))))))))));obtain ⟨Cx,Bv,Bw⟩:=ABl (AC7 Af Ar);refine AIy AB2 rfl H2 rfl Bv fun Cy Cz C0 Bx By=>AB4 ACm rfl (ABz Bx Ac.x) (Wk ?_);obtain ⟨C1,Bz,B1⟩:=ABl Bw;refine AJf (c:=(cI .i64)) ABx rfl By rfl Bz fun C2 C3 C4 B2 B3=>?_;obtain rfl:=B2;refine AB4 ACr rfl (ABz (B3 0 _ rfl) Ac.x) (Wk (Wk ?_));obtain ⟨C5,B4,B5⟩:=ABl B1;refine AIy AB2 rfl H6 rfl B4 fun C6 C7 C8 B6 B7=>AB4 ACm rfl (ABz B6 Ac.x) (Wk ?_);obtain ⟨C9,B8,A5⟩:=ABl B5;refine AJf (c:=(cI .i64)) ABx rfl B7 rfl B8 fun Da Db Dc B9 Ca=>?_;obtain rfl:=B9;refine AB4 ACr rfl (ABz (Ca 0 _ rfl) Ac.x) (AHe rfl rfl (ABo (⟨_,rfl,fun Au=>?_,fun Au=>?_⟩)))
     ·refine ABj (ABp ?_);obtain rfl:=ABk (AC7 A5 Au);change _=Aq at Ag;subst Ag;obtain rfl:=ABk A4;change _=Ah at Ab;subst Ab;refine ABs (ADs (AB1 (AB1 (ADs (ADs (AB1 (AB1 (ADs (AB1 ?_)))))))));obtain rfl:=ABk Am;exact ⟨_,ABu,Ac.x,rfl⟩
     ·refine ABr (q_b (q_t (ABw (AC2 rfl rfl (Wk (ABo ?_))))));obtain rfl:=ABk (AC8 A5 Au);exact ⟨Bu,((w64 (Br + 1)):(Int)),Nat.lt_succ_self _,⟨Ag,Ac⟩,rfl,trivial⟩
    ·obtain rfl:=ABk (AC8 Af Ar);change _=Aq at Ag;subst Ag;refine ACc (ACa (ACa (ADm (q_b (q_t (ABw (AC2 rfl rfl (Wk (ABo ?_)))))))));obtain rfl:=ABk A4;exact ⟨Bc,((w64 (Ba + 1)):(Int)),Nat.lt_succ_self _,⟨Ab,Ac⟩,rfl,trivial⟩
  ·obtain rfl:=ABk (AC8 Ae Ao);change _=Ah at Ab;subst Ab;refine ACc (ACa (ACa (ADm (q_t (ABj (ABp (ABs ?_)))))));obtain rfl:=ABk Am;exact ⟨_,ABu,Aa.x,rfl⟩
end Go.Proofs.YtiegjkmfpcgjjaaGreatDoor
namespace Go.Proofs.YtiegjkmfpcgjjaaGreatDoor
open Go Go.QF
set_option maxRecDepth 100000
theorem Acm {h h2:ABh} {r1:Value} {M:List (List Int)} {m:Int} {b:Nat} {gs:List Nat} {c:Nat} (Ac:AZx h2 tR tI b gs r1 (M.map (·.map (· % m)))) (hr:∀ z∈M,z.length=c):ADq h2 tR tI b gs r1 M.length (tab M.length c (ent (ALk M m))):=by
 have ht:=Abi (A:=ALk M m) (c:=c) (Amg hr);rw [Abk] at ht;rw [<- ht];have:AZx h2 tR tI b gs r1 (ALk M m):=Ac;unfold AZx at this;rw [Abk] at this;exact this
theorem Au3 {M:List (List Int)} {c:Nat} {m:Int} (hm:0 < m):Bd M.length c m (ent (ALk M m)):=by
 have:=Aua (c:=c) hm (Aqh hm M);rw [Abk] at this;exact this
def Awl (M:List (List Int)) (m:Int) (Q:(Nat->Nat->Int)->Int->Prop) (h:ABh) (x:Value) (h':ABh):Prop:=Ext h h'/\ ∃ r e,x= .tuple #[r,.int .i64 e]/\
  ((AHy M=false/\e=3/\Mat h' r [])∨(AHy M=true/\APg m=false/\e=1/\Mat h' r [])∨
   (AHy M=true/\APg m=true/\ ∃ F1 s,(s=1∨s= -1)/\Q F1 s/\Bd M.length (M.length + M.length) m F1/\Zc M.length F1 M.length/\
     ((e=8/\Mat h' r []/\ ∃ c,c < M.length/\¬ ∃ y,AJ9 m (F1 c c) y)∨
      (e=0/\(∀ c,c < M.length-> ∃ y,AJ9 m (F1 c c) y)/\Mat h' r (tab M.length M.length fun i j=>AHb m M.length F1 M.length i (M.length + j))))))
theorem AXi {a b c d:Value} (h:Value.tuple #[a,b]= .tuple #[c,d]):a=c/\b=d:=by
 injection h with h;have:=congrArg Array.toList h;simpa using this
theorem Aey {h:ABh} {v:Value} {M:List (List Int)} (HM:Mat h v M) (m:Int) (Q:(Nat->Nat->Int)->Int->Prop) (Bf:AHy M=true->APg m=true->Q (AZy M.length (ent (ALk M m))) 1) (hQ:Aoc M.length (M.length + M.length) m Q):ACd Tryz.prog 39 #[v,.int .i64 m] h (fun x h'=>Awl M m Q h x h'/\ ∀ r e,x= .tuple #[r,e]->AMy r):=by
 refine ACv (l:=[_,_]) mx Tryz.func39 rfl rfl rfl rfl rfl (by kernel_rfl) (ABj (ACg (ABp (ABm (ABm ?_)))));have Bg:=Ext.refl h;refine ABw (Wk (ACn trivial rfl (Ami HM) fun v' h hk=>?_));obtain ⟨rfl,rfl⟩:=hk;refine ⟨trivial,?_⟩;cases Ab:AHy M
 ·refine AGr rfl (ABo (AB6 rfl (ABj (ACg (ABp (ABs (AB1 (⟨_,ADb,?_⟩))))))));exact ⟨⟨Ext.refl _,_,_,rfl,.inl ⟨Ab,rfl,Abf _⟩⟩,fun r e he=>(AXi he).1 ▸ AQg⟩
 ·refine AGr rfl (ABo (AB9 rfl (ABr (q_t (ABm (ABj (Wk (ACn trivial rfl (AW0 m h) fun v' h hk=>?_))))))));obtain ⟨rfl,rfl⟩:=hk;refine ⟨trivial,?_⟩;refine ACu (Wk (ATq rfl rfl (fun Ah=>?_) (fun Ah=>?_)))
  ·refine ABo (AB6 rfl (ABj (Wk (ACg (ABp (ABs (AB1 (⟨_,ADb,?_⟩))))))));have hmB:APg m=false:=by cases hb:APg m <;> simp [hb] at Ah ⊢
   exact ⟨⟨Ext.refl _,_,_,rfl,.inr (.inl ⟨Ab,hmB,by simp [hmB],Abf _⟩)⟩,fun r e he=>(AXi he).1 ▸ AQg⟩
  ·refine ABo (AB9 rfl (ABr (q_t (ABm ?_))));have hmB:APg m=true:=by cases hb:APg m <;> simp [hb] at Ah ⊢
   have hm:=ASj hmB;obtain ⟨hv,hsq,h8⟩:=Aag Ab;have Bh:=hv.1;have Bi:=hv.2.1;refine ABw (Wk (AMg AB2 rfl (HM.ext Bg) (ACu (Wk (Wk ?_)))));have hmB:APg m=true:=by cases hb:APg m <;> simp [hb] at Ah ⊢
   have hm:=ASj hmB;obtain ⟨hv,hsq,h8⟩:=Aag Ab;have Bh:=hv.1;have Bi:=hv.2.1;refine ACn trivial rfl (Ado HM hm.1 hm.2 (by omega) (Amf hv)) fun r1 h2 hk=>?_;obtain ⟨Bj,b,gs,Bl,hb⟩:=hk;refine ⟨trivial,?_⟩;have Ay:=Acm (c:=M.length) (h:=h) Bl (fun z hz=>by rw [hv.2.2.2.2 z hz];omega);have Bm:=Au3 (M:=M) (c:=M.length) (m:=m) (by omega);refine ABp (ABm (ABj (Wk (AT3 AB2 rfl Ay (Wk (ABo (ABq (ACk 4503597479887360 (fun i:Nat=>[(31,.int .i64 (i:Int))]) (fun k i h'=>Ext h h'/\k=M.length - i/\i<=M.length/\ ∃ gs',ADq h' tR tI b gs' r1 M.length (AVs M.length i (fun k=>(List.range (M.length + M.length)).map (AZy M.length (ent (ALk M m)) k)) (fun k=>(List.range M.length).map (ent (ALk M m) k)))/\ ∀ g∈b :: gs',h.size<=g) (by kernel_rfl) M.length 0 ?_ ⟨rfl,trivial⟩ ?_))))))))
   ·exact ⟨Bj,by omega,by omega,gs,by rw [Aaf];exact Ay,hb⟩
   rintro k i sx h3 ⟨hEA,rfl,hi,gsA,HPA,hgA⟩;refine ABj (AFd rfl rfl (fun Bo=>?_) (fun Bo=>?_))
   ·refine ABo (ABm (AB6 rfl (ABr (q_t (ABm (ABq (ABj (Wk (ACu (Wk (Wk (Wk (Wk (ANj AB2 rfl HPA rfl (Ah3 (by omega)) fun aK rK gK haK hgK hrK=>AB4 ACm rfl haK (Wk (Auc (n:=M.length) ABx AQ7 AIl rfl trivial rfl hrK rfl (by omega) (by simp;omega) (by simp;omega) fun r4 g4 h4 A4 Bp Ao=>⟨trivial,?_⟩))))))))))))))));obtain ⟨rs,HT,hrl⟩:=ADq.top HPA;have hKb:=ADq.ne HPA hgK;have Af:=HT.upd Ao (fun he=>hKb (Eq.symm he))
    have HO4b:AD2 h4 tI g4 r4 (((List.range M.length).map (ent (ALk M m) i) ++ List.replicate M.length 0).map (.int .i64)):=by
      rw [List.map_append,List.map_replicate];exact A4
    refine AMw AB2 rfl Af rfl (by omega) (ARw ACm rfl rfl A4.one Af (by omega) ?_)
    have hg4s:g4=gK∨h3.size<=g4:=by
      rcases Bp with h | h
      · exact .inl h
      · exact .inr (by omega)
    have HPB:=ADq.replace HPA hgK Ao HO4b hg4s;have hgKm:=hgA gK (List.mem_cons_of_mem _ (List.mem_of_getElem? hgK));have Bq:=hgA b (List.mem_cons_self ..)
    have hg4m:h.size<=g4:=by
      rcases hg4s with h | h
      · omega
      · have:=hEA.1;omega
    have hgB:∀ g∈b :: gsA.set i g4,h.size<=g:=fun g hg=>by
      rcases List.mem_cons.1 hg with rfl | hg
      · exact Bq
      · exact AX7 (fun g hg=>hgA g (List.mem_cons_of_mem _ hg)) hg4m g hg
    have hEB:=(hEA.thenUpd Ao (fun k hk=>by have Ap:k=gK:=hk;omega)).thenUpd (AGt h4 ⟨b,i,none⟩ r4) (fun k hk=>by have Ap:k=b:=hk;omega);have hgl:gsA.length=M.length:=by have:=ADq.glen HPA;rw [AX8] at this;exact this
    refine ABo (ABw (Wk (Wk (ANj AB2 rfl HPB rfl (List.getElem?_set_self (by rw [AX8];omega)) fun aQ rQ gQ haQ hgQ hrQ=>?_))));refine AB4 ACm rfl haQ (Wk (Wk (AYa rfl rfl (by omega) (AMw (n:=M.length + i) ABx rfl hrQ rfl (by simp;omega) ?_))));refine ARw ACr rfl rfl rfl hrQ (by simp;omega) ?_;have HPC:=ADq.setElem HPB hgQ (List.getElem?_set_self (by rw [AX8];omega)) (j:=M.length + i) (by simp;omega) 1;rw [List.set_set,Aqm _ (by omega),Adt rfl] at HPC;have hEC:=hEB.thenUpd (AGt _ ⟨gQ,M.length + i,none⟩ (.int .i64 1)) (fun k hk=>by have Ap:k=gQ:=hk;have:=hgB gQ (List.mem_cons_of_mem _ (List.mem_of_getElem? hgQ));omega);refine ACj (q_b (q_t (ABw (AIj rfl (by omega) (Wk (ABo ?_))))));exact ⟨M.length - (i + 1),i + 1,by omega,⟨hEC,rfl,by omega,_,HPC,hgB⟩,rfl,trivial⟩
   ·refine ABo (ABm (AB9 rfl (ACc (ACa (ACa (ADm (q_t (ABj (Wk (Wk ?_))))))))));rw [Ads _ _ (by omega)] at HPA;refine ACn trivial rfl (AZ3 HPA (by omega) (by omega) hm.1 hm.2 (Aud hm.1 Bm) Q (Bf Ab hmB) hQ) fun x3 h5 hk=>?_;obtain ⟨Br,F1,s,Ac,rfl,hs,A5,Bt,A6,Ai,Aq⟩:=hk;refine ⟨trivial,?_⟩;have A7:=hEA.thenUpd Br (fun k hk=>hgA k hk);have hlt:=ADq.lt A5
    have hge:∀ g∈b :: Ac,h.size<=g:=fun g hg=>hgA g (by
      rcases List.mem_cons.1 hg with rfl | hg
      · exact List.mem_cons_self ..
      · exact List.mem_cons_of_mem _ (Bt g hg))
    refine AMh (Wk (ACn trivial rfl (ATw m h5) fun fv h6 hk=>?_));obtain ⟨rfl,rfl⟩:=hk;refine ⟨trivial,?_⟩;have hpush:=AD9 h5 (.cells #[.int .i64 m] tI (0,0));refine ABp (ABm (ABj (Wk (AK0 rfl rfl (by omega) (by omega) (ABp (ABq (ACk 81129638414606105235036701751344 (fun y:Nat × Int=>[(11,.int .i64 y.2)]) (fun k y h'=>k=M.length - y.1/\y.1<=M.length/\y.2=(M.length:Int) - 1 - (y.1:Int)/\Aev h5 h' b Ac r1 M.length (M.length + M.length) m (AHb m M.length F1 y.1) (.slice none 0 0) [] Ac/\ ∀ c,M.length - y.1<=c->c < M.length-> ∃ z,AJ9 m (F1 c c) z) (by kernel_rfl) M.length (0,(M.length:Int) - 1) ?_ ⟨rfl,trivial⟩ ?_)))))))
    ·refine ⟨rfl,by omega,by simp,⟨hpush.upd,ADq.ext A5 hpush,fun g hg=>hg,AS1 _ _ _,?_,by simp⟩,fun c h1 h2=>absurd h1 (by simp;omega)⟩;simp [AEm]
    rintro k ⟨j,xv⟩ sy h6 ⟨rfl,hj,hxv,HIB,hall⟩;dsimp only at hj hxv HIB hall ⊢;refine ABm (ABj (Wk (ATp rfl rfl (fun Bv=>?_) (fun Bv=>?_))))
    ·refine ABo (AB6 rfl (ABr (q_t (ABm (ABq (ABm ?_))))));obtain ⟨c,rfl⟩:∃ c:Nat,xv=(c:Int):=⟨xv.toNat,by omega⟩;obtain ⟨G,hG⟩:∃ G,AHb m M.length F1 j=G:=⟨_,rfl⟩;rw [hG] at HIB;have HPG:=HIB.2.1;have hbdG:Bd M.length (M.length + M.length) m G:=hG ▸ Abq (by omega) Ai j;have hx:=hbdG c c (by omega) (by omega);have hdiag:G c c=F1 c c:=by rw [<- hG];exact AX9 (by omega) Ai (by omega) Aq j (by omega) c c (by omega) (by omega)
     refine ABw (Wk (Wk (ANj AB2 rfl HPG rfl (AEc (by omega)) fun aR rR gR haR hgR hrR=>AB4 ACm rfl haR (Wk (ALf ABx rfl hrR.sl rfl (AGi (by omega)) fun aX haX=>AB4 ACr rfl haX (Wk (ACn trivial rfl (AZw (x:=G c c) (m:=m) hx.1 hx.2 hm.1 hm.2 _) fun rv h7 hk=>?_)))))));obtain ⟨rfl,inv,ok,rfl,Bw,him,hok,hno⟩:=hk;refine ⟨trivial,?_⟩;refine Wk (ADc rfl rfl (ADc rfl rfl (ACg (ABp (ABm (ABj (Wk (AGr rfl (ABo (⟨_,rfl,fun Au=>?_,fun Au=>?_⟩))))))))))
     ·refine ABj (ACg (ABp (ABs (AB1 (ADs (AB1 (AB1 (ADs (AB1 (⟨_,ADb,?_⟩))))))))));have Aj:ok=false:=by cases ok <;> simp at Au ⊢
      exact ⟨⟨A7.thenUpd HIB.1 (fun k hk=>hge k hk),_,_,rfl,.inr (.inr ⟨Ab,hmB,F1,s,hs,A6,Ai,Aq,.inl ⟨rfl,Abf _,c,by omega,hdiag ▸ hno Aj⟩⟩)⟩,fun r e he=>(AXi he).1 ▸ AQg⟩
     ·refine ABr (q_t (ABm ?_));have Aj:ok=true:=by cases ok <;> simp at Au ⊢
      have hinv:=Ahw (hok Aj);have HPG:=HIB.2.1;refine ABw (Wk (Wk (ANj AB2 rfl HPG rfl (AEc (by omega)) fun aS rS gS haS hgS hrS=>AB4 ACm rfl haS (Wk (Wk (ACn trivial rfl (Aob hrS (AX4 hbdG (by omega)) Bw him hm.1 hm.2 (by simp;omega)) fun sv h8 hk=>?_))))));obtain ⟨A8,A9⟩:=hk;refine ⟨trivial,?_⟩;rw [Akz] at A9;have Ba:=ADq.setRow' HIB.2.1 hgS A8 (AEc (by omega)) hrS A9;rw [AHl] at Ba;have Bx:=HIB.turn hlt A8 (List.mem_cons_of_mem _ (List.mem_of_getElem? hgS)) (F2:=ALl G c inv m) Ba HIB.2.2.1;have By:=Adq (a:=c) (f:=inv) (by omega:0 < m) hbdG;refine AMh (Wk (Wk (ABo (ABq (ACk 81129599728980454027655414562816 (fun q:Nat=>[(85,.int .i64 (q:Int))]) (fun k q h'=>k=c - q/\q<=c/\Aev h5 h' b Ac r1 M.length (M.length + M.length) m (AKa (ALl G c inv m) c c m q) (.slice none 0 0) [] Ac) (by kernel_rfl) c 0 ?_ ⟨rfl,trivial⟩ ?_)))))
      ·exact ⟨rfl,by omega,by rw [AX2];exact Bx⟩
      rintro k q sz h9 ⟨rfl,hq,HIk⟩;have HPk:=HIk.2.1;refine ABj (AFd rfl rfl (fun Bz=>?_) (fun Bz=>?_))
      ·refine ABo (ABm (AB6 rfl (ABr (q_t (ABm (ABq (ABm ?_)))))));have hbk:=Ahy (k:=q) (top:=c) (j:=c) (by omega:0 < m) By;have hY:=hbk q c (by omega) (by omega);refine ABw (Wk (ABp (ANt (by kernel_rfl) (Wk (Wk (Wk (ANj AB2 rfl HPk rfl (AEc (by omega)) fun aK rK gK haK hgK hrK=>AB4 ACm rfl haK (Wk (Wk (ANj AB2 rfl HPk rfl (AEc (by omega)) fun aL rL gL haL hgL hrL=>AB4 ACm rfl haL ?_))))))))));have hgKm:gK∈b :: Ac:=List.mem_cons_of_mem _ (List.mem_of_getElem? hgK);have hneKL:gK≠gL:=fun he=>absurd (AGj (List.nodup_cons.1 (ADq.nodup HIk.2.1)).2 hgK (he ▸ hgL)) (by omega);refine Wk (Wk (ANj AB2 rfl HPk rfl (AEc (by omega)) fun aN rN gN haN hgN hrN=>AB4 ACm rfl haN (Wk (ALf ABx rfl hrN.sl rfl (AGi (by omega)) fun aY haY=>AB4 ACr rfl haY (Abe trivial rfl rfl (AU2 (a:=⟨h5.size,0,none⟩) hrK hrL hneKL (by simp) HIk.2.2.2.2.1 (by have:=hlt _ hgKm;dsimp only;omega) (AX4 hbk (by omega)) (AX4 hbk (by omega)) hY.1 hY.2 hm.1 hm.2 (by simp;omega)) fun ev B9 hk=>?_)))));obtain ⟨Bb,Bc⟩:=hk;refine ⟨trivial,?_⟩;rw [Aeu] at Bc;have Ak:=ADq.setRow' HIk.2.1 hgK Bb (AEc (by omega)) hrK Bc;rw [AHl] at Ak;simp only [Adp,AVr] at Ak;rw [AX3 (by omega)] at Ak;have B1:=HIk.turn hlt Bb hgKm Ak HIk.2.2.1;refine ACj (q_b (q_t (ABw (AIj rfl (by omega) (Wk (ABo ?_))))));exact ⟨c - (q + 1),q + 1,by omega,⟨rfl,by omega,B1⟩,rfl,trivial⟩
      ·refine ABo (ABm (AB9 rfl (ACc (ACa (ACa (ADm (q_b (q_t (ABw (Wk (AK0 rfl rfl (by omega) (by omega) (ABp ?_))))))))))));obtain rfl:q=c:=by omega
       have hS:AHb m M.length F1 (j + 1)=AKa (ALl G q inv m) q q m q:=by
         simp only [AHb,Aae]
         rw [hG,show M.length - 1 - j=q by omega,hinv]
       refine ⟨M.length - (j + 1),(j + 1,(q:Int) - 1),by first | omega | (dsimp only;omega),⟨rfl,by first | omega | (dsimp only;omega),by simp;omega,?_,fun c h1 h2=>?_⟩,rfl,trivial⟩
       ·dsimp only;rw [hS];exact HIk
       ·dsimp only at h1;by_cases hcq:c=q
        ·subst hcq;exact ⟨inv,hdiag ▸ hok Aj⟩
        ·exact hall c (by omega) h2
    ·refine ABo (AB9 rfl (ACc (ACa (ACa (ADm (q_t (ABm (ABm ?_))))))));obtain rfl:j=M.length:=by omega
     have HPG:=HIB.2.1;refine ABw (Wk (AT3 AB2 rfl HPG (Wk (ABo (ABq (ACk 5316587464586005064888445085100834816 (fun i:Nat=>[(108,.int .i64 (i:Int))]) (fun k i h'=>Ext h h'/\k=M.length - i/\i<=M.length/\ ∃ gs',ADq h' tR tI b gs' r1 M.length (AVs M.length i (fun k=>(List.range M.length).map fun j=>AHb m M.length F1 M.length k (M.length + j)) (fun k=>(List.range (M.length + M.length)).map (AHb m M.length F1 M.length k)))/\ ∀ g∈b :: gs',h.size<=g) (by kernel_rfl) M.length 0 ?_ ⟨rfl,trivial⟩ ?_))))))
     ·exact ⟨A7.thenUpd HIB.1 (fun k hk=>hge k hk),by omega,by omega,Ac,by rw [Aaf];exact HPG,hge⟩
     rintro k i sw B2 ⟨hEW,rfl,hi,gsW,HPW,Av⟩;refine ABj (AFd rfl rfl (fun B3=>?_) (fun B3=>?_))
     ·refine ABo (ABm (AB6 rfl (ABr (q_t (ABm (ABq (ABj (Wk (ABp (ABw (Wk (Wk (Wk (Wk (ANj AB2 rfl HPW rfl (Ah3 (by omega)) fun aW rW gW haW hgW hrW=>AB4 ACm rfl haW (Wk ?_))))))))))))))));obtain ⟨capW,hvW,hcW⟩:=hrW.slice;have hlW:(((List.range (M.length + M.length)).map (AHb m M.length F1 M.length i)).map (Value.int .i64)).length=M.length + M.length:=by simp
      rw [hlW] at hvW hcW;have HX:=hrW.from (k:=M.length) (cap:=capW) hlW (by omega) (by omega);rw [Amp] at HX;refine Adh ABx hvW rfl (by omega) hcW (Af7 ABx AIl rfl trivial rfl rfl HX (by simp [isOne]) (by rw [List.map_map];exact Abj (by omega)) (by simp;omega) (by simp;omega) fun B4 B5 Be Aw=>⟨trivial,?_⟩);obtain ⟨rs,HT,hrl⟩:=ADq.top HPW;have Af:=HT.ext Aw;refine AMw AB2 rfl Af rfl (by omega) (ARw ACm rfl rfl Be.one Af (by omega) ?_);have HPY:=ADq.replace HPW hgW Aw.upd Be (.inr (Nat.le_refl _));rw [Adt rfl] at HPY;refine ACj (q_b (q_t (ABw (AIj rfl (by omega) (Wk (ABo ?_))))));have hEY:=(hEW.trans Aw).thenUpd (AGt B5 ⟨b,i,none⟩ B4) (fun k hk=>by have Ap:k=b:=hk;have:=Av b (List.mem_cons_self ..);omega)
      exact ⟨M.length - (i + 1),i + 1,by omega,⟨hEY,rfl,by omega,_,HPY,fun g hg=>by
        rcases List.mem_cons.1 hg with rfl | hg
        · exact Av _ (List.mem_cons_self ..)
        · exact AX7 (fun g hg=>Av g (List.mem_cons_of_mem _ hg)) hEW.1 g hg⟩,rfl,trivial⟩
     ·refine ABo (ABm (AB9 rfl (ACc (ACa (ACa (ADm (q_t (ABj (Wk (ACg (ABp (ABs (⟨_,ADb,?_⟩)))))))))))));obtain rfl:i=M.length:=by omega
      rw [Ads _ _ (by omega)] at HPW;refine ⟨⟨hEW,_,_,rfl,.inr (.inr ⟨Ab,hmB,F1,s,hs,A6,Ai,Aq,.inr ⟨rfl,fun c hc=>hall c (by omega) hc,?_⟩⟩)⟩,fun r e he=>(AXi he).1 ▸ (let ⟨_,ho,_⟩:=HPW;ho.cap)⟩;exact (show AZx B2 tR tI b gsW r1 (tab M.length M.length fun i j=>AHb m M.length F1 M.length i (M.length + j)) by unfold AZx;rw [ADf];exact HPW).mat
end Go.Proofs.YtiegjkmfpcgjjaaGreatDoor
namespace Go.QF
theorem ATd:∀ {n:Nat} {m:Int} {F G:Nat->Nat->Int},(∀ i j,i < n->j < n->Eqm m (F i j) (G i j))->Eqm m (det n F) (det n G):=by
 intro n m
 induction n with
 | zero=>intro _ _ _;rfl
 | succ n ih=>
   intro F G h
   refine Eqm.psum fun i hi=>?_
   exact ((Eqm.refl _ _).mul (h i 0 hi (by omega))).mul (ih (F:=AEp i F) (G:=AEp i G) fun a b ha hb=>h _ _ (Anu ha) (by omega))
theorem Ak6 {n c i:Nat} {q m:Int} {F:Nat->Nat->Int} (hc:c < n) (hi:i < n) (hne:c≠i):Eqm m (det n (ANk F c i q m)) (-det n F):=by
  rw [<- AH8 (F:=F) hc hi hne (-q),<- AO4 (F:=ADe F c fun x=>F c x + -q * F i x) hc hi hne];refine ATd fun a b ha hb=>?_;unfold ANk;rw [AKi,AKi];simp only [ACq]
  have key:Eqm m ((F c b + (m - q) * F i b) % m) (F c b + -q * F i b):=by
    refine (Eqm.mod _ _).trans ?_;unfold Eqm;rw [show F c b + (m - q) * F i b=F c b + -q * F i b + m * F i b by grind,Int.add_mul_emod_self_left]
  split
  · split <;> first | exact key | rfl
  · split
    · split <;> first | exact key | rfl
    · first | rfl | exact key
theorem Aol {F:Nat->Nat->Int} {m s:Int}:∀ n,Eqm m (AQ8 F m s n) (s * AF9 (fun i=>F i i) n):=by
 intro n
 induction n with
 | zero=>unfold AQ8 AF9 Eqm;rw [Int.add_emod_right,Int.mul_one]
 | succ n ih=>
   unfold AQ8 AF9
   refine (Eqm.mod _ _).trans ?_
   rw [<- Int.mul_assoc]
   exact ((Eqm.mod _ _).trans ih).mul (Eqm.refl _ _)
def AZ5 (M:List (List Int)) (m:Int):Int:=if AHy M && APg m then det M.length (ent M) % m else 0
end Go.QF
namespace Go.Proofs.YtiegjkmfpcgjjaaGreatDoor
open Go Go.QF
end Go.Proofs.YtiegjkmfpcgjjaaGreatDoor
namespace Go.QF
def Aez (n:Nat) (m:Int) (A F:Nat->Nat->Int):Prop:=
  (∀ i j,i < n->j < n->Eqm m (F i j) (psum (fun k=>F i (n + k) * A k j) n))/\
  ∃ S:Nat->Nat->Int,∀ i j,i < n->j < n->Eqm m (comb n (S i) F (n + j)) (dl i j)
theorem AY6 {n:Nat} {m:Int} {A F F':Nat->Nat->Int} (E:AOd n (n + n) m F F') (H:Aez n m A F):Aez n m A F':=by
 obtain ⟨h1,S,h2⟩:=H;refine ⟨fun i j hi hj=>?_,fun i=>(E.2 (S i)).choose,fun i j hi hj=>((E.2 (S i)).choose_spec (n + j) (by omega)).symm.trans (h2 i j hi hj)⟩;obtain ⟨y,e,_⟩:=E.1 (AV2 (fun _=>0) i 1);have e':∀ q,q < n + n->Eqm m (F' i q) (comb n y F q):=fun q hq=>by have:=e q hq;rw [Akp hi] at this;exact this
 refine (e' j (by omega)).trans ?_;have h3:Eqm m (comb n y F j) (psum (fun a=>y a * psum (fun k=>F a (n + k) * A k j) n) n):=Eqm.psum fun a ha=>(Eqm.refl _ _).mul (h1 a j ha hj);refine h3.trans ?_
 have h4:psum (fun a=>y a * psum (fun k=>F a (n + k) * A k j) n) n=psum (fun k=>comb n y F (n + k) * A k j) n:=by
   unfold comb
   rw [ABt (g:=fun a=>psum (fun k=>y a * F a (n + k) * A k j) n) (fun a _=>by rw [<- ADa];exact ABt fun k _=>by rw [Int.mul_assoc]),AM5]
   exact ABt fun k _=>by rw [Int.mul_comm,<- ADa];exact ABt fun a _=>by rw [Int.mul_comm]
 rw [h4];exact Eqm.psum fun k hk=>((e' (n + k) (by omega)).symm).mul (Eqm.refl _ _)
theorem Aha {r c a i:Nat} {q m:Int} {F:Nat->Nat->Int} (ha:a < r) (hi:i < r) (hne:a≠i):AOd r c m F (ANk F a i q m):=
  (Aan (e:=m - q) ha hi hne).trans (Agy ha hi)
theorem Aom {n:Nat} {m:Int} {A:Nat->Nat->Int}:Aez n m A (AZy n A):=by
 have h0:∀ i k,i < n->k < n->AZy n A i (n + k)=dl i k:=by
   intro i k hi hk
   unfold AZy dl
   rw [if_neg (by omega)]
   by_cases h:i=k
   · subst h;simp
   · rw [if_neg h,if_neg (by omega)]
 refine ⟨fun i j hi hj=>Eqm.of_eq ?_,dl,fun i j hi hj=>Eqm.of_eq ?_⟩
 ·rw [ABt (g:=fun k=>dl i k * A k j) (fun k hk=>by rw [h0 i k hi hk])];rw [AFo hi (fun k hk=>by unfold dl;rw [if_neg (fun h=>hk h.symm)];simp)];simp [dl,AZy,hj]
 ·unfold comb;rw [ABt (g:=fun k=>dl i k * dl k j) (fun k hk=>by rw [h0 k j hk hj])];rw [AFo hi (fun k hk=>by unfold dl;rw [if_neg (fun h=>hk h.symm)];simp)];simp [dl]
theorem Ahb {n c:Nat} {m:Int} {F:Nat->Nat->Int} {k:Nat} (hk:k < n) (hu:∃ y,AJ9 m (F k k) y):AOd n c m F (Aae m F k):=by
 obtain ⟨y,hy⟩:=hu;have hinv:=AS0 hy;unfold Aae;refine (Aef (g:=F k k) hk ?_).trans (Agz hk k (by omega));exact hinv.2.2
theorem Ak7 {n:Nat} {m:Int} {A F:Nat->Nat->Int} (hm:2<=m) (hbd:Bd n (n + n) m F) (hz:Zc n F n) (hu:∀ c,c < n-> ∃ y,AJ9 m (F c c) y) (H:Aez n m A F):∀ j,j<=n->Aez n m A (AHb m n F j):=by
 intro j
 induction j with
 | zero=>intro _;exact H
 | succ j ih=>
   intro hj
   refine AY6 (Ahb (by omega) ?_) (ih (by omega))
   rw [AX9 (by omega) hbd (by omega) hz j (by omega) (n - 1 - j) (n - 1 - j) (by omega) (by omega)]
   exact hu _ (by omega)
theorem Arx {n:Nat} {m:Int} {F:Nat->Nat->Int} (hm:2<=m) (hbd:Bd n (n + n) m F) (hz:Zc n F n) (hu:∀ c,c < n-> ∃ y,AJ9 m (F c c) y):∀ j,j<=n-> ∀ i c,i < n->n - j<=c->c < n->AHb m n F j i c=dl i c:=by
 intro j
 induction j with
 | zero=>intro _ i c _ h1 h2;omega
 | succ j ih=>
   intro hj i c hi h1 h2
   have hb:=Abq (n:=n) (by omega:0 < m) hbd j
   have hcol:=AX9 (m:=m) (by omega) hbd (by omega) hz j (by omega)
   obtain ⟨G,hG⟩:∃ G,AHb m n F j=G:=⟨_,rfl⟩
   obtain ⟨k,hk⟩:∃ k,n - 1 - j=k:=⟨_,rfl⟩
   have hkn:k < n:=by omega
   simp only [AHb,Aae]
   rw [hG,hk]
   rw [hG] at ih hb hcol
   have hkk:G k k=F k k:=hcol k k hkn (by omega)
   obtain ⟨y,hy⟩:=hu k hkn
   have hinv:=AS0 hy
   rw [hkk]
   have hrow:∀ q,ALl G k (AXw m (F k k)) m k q=G k q * AXw m (F k k) % m:=fun q=>by unfold ALl;rw [AC5]
   have hoth:∀ a,a≠k->ALl G k (AXw m (F k k)) m a=G a:=fun a ha=>by unfold ALl;rw [AD3 _ _ ha]
   have hone:ALl G k (AXw m (F k k)) m k k=1:=by rw [hrow,hkk,Int.mul_comm,hinv.2.2,Int.emod_eq_of_lt (by omega) (by omega)]
   have hright:∀ c,k < c->c < n->ALl G k (AXw m (F k k)) m k c=0:=fun c h3 h4=>by
     rw [hrow,ih (by omega) k c hkn (by omega) h4];unfold dl;rw [if_neg (by omega)];simp
   by_cases hik:i=k
   · subst hik
     rw [AVr]
     by_cases hci:c=i
     · subst hci;rw [hone];simp [dl]
     · rw [hright c (by omega) h2];unfold dl;rw [if_neg (fun h=>hci h.symm)]
   · by_cases hlt:i < k
     · rw [Ag0 hlt hik,hoth i hik]
       by_cases hck:c=k
       · subst hck
         rw [hone,Int.mul_one,show G i c + (m - G i c)=m by omega,Int.emod_self]
         unfold dl;rw [if_neg hik]
       · rw [hright c (by omega) h2,Int.mul_zero,Int.add_zero,ih (by omega) i c hi (by omega) h2]
         unfold dl;rw [if_neg (by omega)];simp
     · have he:AKa (ALl G k (AXw m (F k k)) m) k k m k i c=G i c:=by
         unfold AKa;rw [if_neg (by omega),hoth i hik]
       rw [he]
       by_cases hck:c=k
       · subst hck
         rw [hcol i c hi (by omega),hz c i hkn (by omega) hi]
         unfold dl;rw [if_neg hik]
       · exact ih (by omega) i c hi (by omega) h2
theorem Aon {n:Nat} {m:Int} {A F:Nat->Nat->Int} (hm:2<=m) (hbd:Bd n (n + n) m F) (hz:Zc n F n) (hu:∀ c,c < n-> ∃ y,AJ9 m (F c c) y) (H:Aez n m A F):
    (∀ i j,i < n->j < n->Eqm m (psum (fun k=>AHb m n F n i (n + k) * A k j) n) (dl i j))/\(∀ i j,i < n->j < n->Eqm m (psum (fun k=>A i k * AHb m n F n k (n + j)) n) (dl i j)):=by
  obtain ⟨h1,S,h2⟩:=Ak7 hm hbd hz hu H n (Nat.le_refl _);have hid:=Arx hm hbd hz hu n (Nat.le_refl _);obtain ⟨G,hG⟩:∃ G,AHb m n F n=G:=⟨_,rfl⟩;rw [hG] at h1 h2 hid ⊢
  have hBA:∀ i j,i < n->j < n->Eqm m (psum (fun k=>G i (n + k) * A k j) n) (dl i j):=fun i j hi hj=>by
    have:=h1 i j hi hj;rw [hid i j hi (by omega) hj] at this;exact this.symm
  refine ⟨hBA,fun i j hi hj=>?_⟩
  have hSA:∀ i j,i < n->j < n->Eqm m (S i j) (A i j):=by
    intro i j hi hj
    have e1:S i j=psum (fun k=>S i k * dl k j) n:=by
      rw [AFo hj (fun k hk=>by unfold dl;rw [if_neg hk];simp)];simp [dl]
    have e2:Eqm m (psum (fun k=>S i k * dl k j) n) (psum (fun k=>S i k * psum (fun l=>G k (n + l) * A l j) n) n):=Eqm.psum fun k hk=>(Eqm.refl _ _).mul (hBA k j hk hj).symm
    have e3:psum (fun k=>S i k * psum (fun l=>G k (n + l) * A l j) n) n=psum (fun l=>comb n (S i) G (n + l) * A l j) n:=by
      unfold comb;rw [ABt (g:=fun k=>psum (fun l=>S i k * G k (n + l) * A l j) n) (fun k _=>by rw [<- ADa];exact ABt fun l _=>by rw [Int.mul_assoc]),AM5];exact ABt fun l _=>by rw [Int.mul_comm,<- ADa];exact ABt fun k _=>by rw [Int.mul_comm]
    have e4:Eqm m (psum (fun l=>comb n (S i) G (n + l) * A l j) n) (psum (fun l=>dl i l * A l j) n):=Eqm.psum fun l hl=>(h2 i l hi hl).mul (Eqm.refl _ _)
    have e5:psum (fun l=>dl i l * A l j) n=A i j:=by
      rw [AFo hi (fun k hk=>by unfold dl;rw [if_neg (fun h=>hk h.symm)];simp)];simp [dl]
    rw [e1];exact (e2.trans (Eqm.of_eq e3)).trans (e4.trans (Eqm.of_eq e5))
  refine Eqm.trans (Eqm.psum fun k hk=>(hSA i k hi hk).symm.mul (Eqm.refl _ _)) ?_;exact h2 i j hi hj
theorem Aoo {n:Nat} {m:Int} {T L:Nat->Nat->Int} (hm:2<=m) (hL:∀ i c,c < i->i < n->L i c=0) (hT:∀ i j,i < n->j < n->Eqm m (psum (fun k=>T i k * L k j) n) (dl i j)):
    ∀ c,c < n->Eqm m (T c c * L c c) 1/\ ∀ i,c < i->i < n->Eqm m (T i c) 0:=by
  intro c;induction c using Nat.strongRecOn with
  | _ c ih=>
    intro hc
    have key:∀ i,c<=i->i < n->Eqm m (T i c * L c c) (dl i c):=by
      intro i h1 h2;refine Eqm.trans ?_ (hT i c h2 hc)
      have e1:Eqm m (psum (fun k=>T i k * L k c) n) (psum (fun k=>if k=c then T i c * L c c else 0) n):=Eqm.psum fun k hk=>by
        by_cases h3:k=c
        · subst h3;rw [if_pos rfl];exact Eqm.refl _ _
        · rw [if_neg h3]
          rcases Nat.lt_or_ge k c with h4 | h4
          · exact (((ih k h4 (by omega)).2 i (by omega) h2).mul (Eqm.refl _ _)).trans (Eqm.of_eq (by simp))
          · rw [hL k c (by omega) hk];exact Eqm.of_eq (by simp)
      refine Eqm.trans (Eqm.of_eq ?_) e1.symm;rw [AFo hc (fun k hk=>if_neg hk),if_pos rfl]
    have hcc:Eqm m (T c c * L c c) 1:=by have:=key c (Nat.le_refl _) hc;simpa [dl] using this
    refine ⟨hcc,fun i h1 h2=>?_⟩;have h3:=key i (by omega) h2;unfold dl at h3;rw [if_neg (by omega)] at h3;have h4:=h3.mul (Eqm.refl m (T c c));refine Eqm.trans ?_ (h4.trans (Eqm.of_eq (by simp)));refine Eqm.trans (Eqm.of_eq (show T i c=T i c * 1 by omega)) (((Eqm.refl m (T i c)).mul hcc.symm).trans (Eqm.of_eq ?_));grind
theorem Aop {n:Nat} {m:Int} {A F V:Nat->Nat->Int} (hm:2<=m) (hz:Zc n F n) (H:Aez n m A F) (hV:∀ i j,i < n->j < n->Eqm m (psum (fun k=>V i k * A k j) n) (dl i j)):∀ c,c < n-> ∃ y,AJ9 m (F c c) y:=by
  obtain ⟨h1,S,h2⟩:=H
  have hT:∀ i j,i < n->j < n->Eqm m (psum (fun k=>psum (fun a=>V i a * S a k) n * F k j) n) (dl i j):=by
    intro i j hi hj;have e1:Eqm m (psum (fun k=>psum (fun a=>V i a * S a k) n * F k j) n) (psum (fun k=>psum (fun a=>V i a * S a k) n * psum (fun l=>F k (n + l) * A l j) n) n):=Eqm.psum fun k hk=>(Eqm.refl _ _).mul (h1 k j hk hj)
    have e2:psum (fun k=>psum (fun a=>V i a * S a k) n * psum (fun l=>F k (n + l) * A l j) n) n=psum (fun a=>V i a * psum (fun l=>comb n (S a) F (n + l) * A l j) n) n:=by
      have s1:∀ k,psum (fun a=>V i a * S a k) n * psum (fun l=>F k (n + l) * A l j) n=psum (fun a=>V i a * (S a k * psum (fun l=>F k (n + l) * A l j) n)) n:=fun k=>by
        rw [Int.mul_comm,<- ADa];exact ABt fun a _=>by rw [Int.mul_comm,Int.mul_assoc]
      rw [ABt (fun k _=>s1 k),AM5];refine ABt fun a _=>?_;rw [ADa];congr 1;unfold comb;rw [ABt (g:=fun k=>psum (fun l=>S a k * F k (n + l) * A l j) n) (fun k _=>by rw [<- ADa];exact ABt fun l _=>by rw [Int.mul_assoc]),AM5];exact ABt fun l _=>by rw [Int.mul_comm,<- ADa];exact ABt fun k _=>by rw [Int.mul_comm]
    have e3:Eqm m (psum (fun a=>V i a * psum (fun l=>comb n (S a) F (n + l) * A l j) n) n) (psum (fun a=>V i a * A a j) n):=Eqm.psum fun a ha=>by
      refine (Eqm.refl _ _).mul ?_;refine (Eqm.psum (g:=fun l=>dl a l * A l j) fun l hl=>(h2 a l ha hl).mul (Eqm.refl _ _)).trans (Eqm.of_eq ?_);rw [AFo ha (fun k hk=>by unfold dl;rw [if_neg (fun h=>hk h.symm)];simp)];simp [dl]
    exact (e1.trans (Eqm.of_eq e2)).trans (e3.trans (hV i j hi hj))
  intro c hc;have:=(Aoo hm (fun i c h3 h4=>hz c i (by omega) h3 h4) hT c hc).1;refine ⟨psum (fun a=>V c a * S a c) n % m,Int.emod_nonneg _ (by omega),Int.emod_lt_of_pos _ (by omega),?_⟩;rw [Int.mul_emod,Int.emod_emod,<- Int.mul_emod];exact this
def AU4 (n:Nat) (F:Nat->Nat->Int) (i j:Nat):Int:=det n (ADe F i (dl j))
def ALn (n:Nat) (F:Nat->Nat->Int) (i j:Nat):Int:=AU4 n F j i
def tau (j c:Nat):Nat:=if c=j then j + 1 else if c=j + 1 then j else c
theorem AY7 {n j:Nat} {F:Nat->Nat->Int} (hj:j + 1 < n):det n (fun r c=>F r (tau j c))= -det n F:=by
 rw [<- AL1 (fun r c=>F r (tau j c)),<- AL1 F,<- AO4 (F:=trF F) (a:=j) (b:=j + 1) (by omega) hj (by omega)];refine AC6 fun c r hc hr=>?_;rw [AKi];show F r (tau j c)=if c=j + 1 then F r j else if c=j then F r (j + 1) else F r c;unfold tau;by_cases h1:c=j + 1
 ·subst h1;simp
 ·by_cases h2:c=j
  ·subst h2;simp
  ·simp [h1,h2]
theorem AM9 {f:Nat->Int} {n a:Nat} (ha:a < n) (h:∀ i,i < n->i≠a->f i=0):psum f n=f a:=by
 rw [ABt (g:=fun i=>if i=a then f a else 0) (fun k hk=>?_),AFo ha (fun i hi=>if_neg hi),if_pos rfl];by_cases e:k=a
 ·subst e;rw [if_pos rfl]
 ·rw [if_neg e,h k hk e]
theorem Aaw {n:Nat}:∀ {j:Nat} {F:Nat->Nat->Int} {i:Nat},i < n + 1->j < n + 1->AU4 (n + 1) F i j=sg i * sg j * det n (fun a b=>F (skp i a) (skp j b)):=by
 intro j
 induction j with
 | zero=>
   intro F i hi hj
   unfold AU4
   simp only [det]
   rw [AM9 hi (fun r hrn hr=>?_)]
   · rw [ACq,if_pos rfl,ARy]
     have:det n (AEp i F)=det n (fun a b=>F (skp i a) (skp 0 b)):=AC6 fun a b _ _=>by unfold AEp skp;simp
     rw [this]
     simp [dl,sg]
   · have:det n (AEp r (ADe F i (dl 0)))=0:=by
       rw [ARl (fun h=>hr h.symm)]
       refine AOl (r:=usk r i) (Anv (fun h=>hr h.symm) hrn hi) fun q _=>?_
       rw [ACq,if_pos rfl];simp [dl]
     rw [this];simp
 | succ j ih=>
   intro F i hi hj
   have h1:=ih (F:=fun r c=>F r (tau j c)) (i:=i) hi (by omega)
   have h2:AU4 (n + 1) (fun r c=>F r (tau j c)) i j= -AU4 (n + 1) F i (j + 1):=by
     unfold AU4
     rw [<- AY7 (F:=ADe F i (dl (j + 1))) (by omega)]
     refine AC6 fun r c _ _=>?_
     rw [ACq,ACq]
     split
     · unfold dl tau
       by_cases h1:c=j
       · subst h1;simp
       · by_cases h2:c=j + 1
         · subst h2;simp
         · rw [if_neg (fun h=>h1 h.symm),if_neg h1,if_neg h2,if_neg (fun h=>h2 h.symm)]
     · rfl
   have h3:(fun a b=>F (skp i a) (tau j (skp j b)))=fun a b=>F (skp i a) (skp (j + 1) b):=by
     funext a b
     congr 1
     unfold tau skp
     by_cases h1:b < j
     · rw [if_pos h1,if_neg (by omega),if_neg (by omega),if_pos (by omega)]
     · rw [if_neg h1]
       by_cases h2:b=j
       · subst h2;rw [if_neg (by omega),if_pos rfl,if_pos (by omega)]
       · rw [if_neg (by omega),if_neg (by omega),if_neg (by omega)]
   rw [h2,h3] at h1
   rw [Ait]
   have:AU4 (n + 1) F i (j + 1)= -(sg i * sg j * det n fun a b=>F (skp i a) (skp (j + 1) b)):=by omega
   rw [this];grind
theorem Au4 {n:Nat} {F:Nat->Nat->Int} {i j:Nat} (hi:i < n) (hj:j < n):AU4 n (trF F) i j=AU4 n F j i:=by
 obtain ⟨k,rfl⟩:∃ k,n=k + 1:=⟨n - 1,by omega⟩;rw [Aaw hi hj,Aaw hj hi,<- AL1 (fun a b=>F (skp j a) (skp i b)),Int.mul_comm (sg i)];rfl
theorem Ai4 {n:Nat} {F:Nat->Nat->Int} {i j:Nat} (hi:i < n) (hj:j < n):psum (fun k=>F i k * AU4 n F j k) n=if i=j then det n F else 0:=by
 have h:=AYv (F:=F) hj (F i) dl n
 have e:det n (ADe F j fun q=>psum (fun k=>F i k * dl k q) n)=det n (ADe F j (F i)):=AC6 fun r c _ hc=>by
   rw [ACq,ACq]
   split
   · exact Ag2 (F:=F) (i:=i) hc
   · rfl
 unfold AU4;rw [<- h,e];split
 ·subst_vars
  refine AC6 fun r c _ _=>?_;rw [ACq];split
  ·subst_vars;rfl
  ·rfl
 ·rename_i hij;refine AL9 hi hj hij ?_;funext c;rw [ACq,if_neg hij,ACq,if_pos rfl]
theorem Ary {n:Nat} {F:Nat->Nat->Int} {i j:Nat} (hi:i < n) (hj:j < n):psum (fun k=>AU4 n F k i * F k j) n=if i=j then det n F else 0:=by
 have h:=Ai4 (F:=trF F) hj hi;rw [AL1] at h;rw [ABt (g:=fun k=>trF F j k * AU4 n (trF F) i k) (fun k hk=>by rw [Au4 hi hk,Int.mul_comm];rfl),h];by_cases e:i=j
 ·rw [if_pos e,if_pos e.symm]
 ·rw [if_neg e,if_neg (fun h=>e h.symm)]
theorem Aax {n:Nat} {F:Nat->Nat->Int} {i j:Nat} (hi:i < n) (hj:j < n):psum (fun k=>F i k * ALn n F k j) n=det n F * dl i j:=by
 unfold ALn;rw [Ai4 hi hj];unfold dl;split <;> simp
theorem Aoq {n:Nat} {F:Nat->Nat->Int} {i j:Nat} (hi:i < n) (hj:j < n):psum (fun k=>ALn n F i k * F k j) n=det n F * dl i j:=by
 unfold ALn;rw [Ary hi hj];unfold dl;split <;> simp
end Go.QF
namespace Go.Proofs.YtiegjkmfpcgjjaaGreatDoor
open Go Go.QF
theorem Ae0 {fuel n r c:Nat} {F:Nat->Nat->Int} {f g:Nat->Nat} (hr:r<=100) (hc:c<=100) (hf:100 < fuel) (hfn:∀ a,a < r->f a < n) (hgn:∀ a,a < c->g a < n):AE9 fuel (tab n n F) (AD5 r fun a=>(f a:Int)) (AD5 c fun a=>(g a:Int))=some (tab r c fun a b=>F (f a) (g b)):=by
 apply ok_eq;unfold AE9;refine ABn (ACz (fun i s=>s=(AD5 i fun a=>AD5 c fun b=>F (f a) (g b),(i:Int))) r (Q:=(· =tab r c fun a b=>F (f a) (g b))) rfl (by omega) fun i s hi hI=>?_) fun y hy=>ABi hy;subst hI;unfold AIp;dsimp only;rw [ADj];refine ACf (fun h=>?_) (fun h=>ABi ?_)
 ·have hi':i < r:=by omega
  refine AB5 (ACp hi') rfl (ABn (ACz (fun j s=>s=(AD5 j fun b=>F (f i) (g b),(j:Int))) c (Q:=(· =AD5 c fun b=>F (f i) (g b))) rfl (by omega) fun j s hj hJ=>?_) fun e he=>AEk (by rw [ADj];omega) (ABi ⟨hi',?_⟩))
  ·subst hJ;unfold AIo;dsimp only;rw [ADj,ADj];refine ACf (fun h2=>?_) (fun h2=>ABi ?_)
   ·have hj':j < c:=by omega
    refine AB5 (ACp hj') rfl (AB5 (ADg (hfn i hi')) rfl (AB5 (ACp (hgn j hj')) rfl (AEk (by omega) (ABi ⟨hj',?_⟩))));rw [wk (by omega),<- AOo];rfl
   ·obtain rfl:j=c:=by omega
    rfl
  ·subst he;rw [wk (by omega),<- AOo];rfl
 ·obtain rfl:i=r:=by omega
  rfl
theorem Aay {fuel n:Nat} {F:Nat->Nat->Int} (hn:1<=n) (Ad:n<=16) (hf:100 < fuel):AE8 fuel (tab n n F)=some ((n:Int),true):=by
 apply ok_eq;unfold AE8;refine ABn (Q:=(· =((n:Int),(n:Int),true))) ?_ fun e he=>?_
 ·unfold ADx;rw [ADf];refine ABn (Q:=fun ex=>match ex with | .inl _=>False | .inr _=>True) (ACf (fun h=>by omega) fun h=>ACf (fun h2=>by omega) fun h2=>ABi trivial) fun ex hex=>?_
  cases ex with
  | inl e=>exact hex.elim
  | inr u=>
    dsimp only
    refine ABn (ACz (fun i (s:Int)=>s=i) n (Q:=fun ex=>match ex with | .inl _=>False | .inr _=>True) rfl (by omega) fun i s hi hI=>?_) fun ex hex=>?_
    · subst hI
      unfold AGv
      rw [ADf]
      refine ACf (fun h=>AB5 (ADg (by omega)) rfl ?_) fun h=>ABi trivial
      rw [ADj]
      refine ACf (fun h2=>by omega) fun h2=>ACf (fun h3=>by omega) fun h3=>AB5 (n:=0) (ADg (by omega)) rfl (ACf (fun h4=>?_) fun h4=>ABi ⟨by omega,wk (by omega)⟩)
      rw [ADj] at h4;omega
    · cases ex with
      | inl e=>exact hex.elim
      | inr u=>exact AB5 (n:=0) (ADg (by omega)) rfl (ABi (by rw [ADj]))
 ·subst he;dsimp only;exact ACf (fun h=>by cases h) fun _=>ACf (fun h=>absurd rfl h) fun _=>ABi rfl
end Go.Proofs.YtiegjkmfpcgjjaaGreatDoor
namespace Go.QF
def AKd (n:Nat) (A:Nat->Nat->Int):Prop:= ∀ i j,i < n->j < n->A i j=A j i
def ALq (n:Nat) (A:Nat->Nat->Int):Prop:= ∀ k,k<=n->0 < det k A
theorem AMn {k i r n:Nat} (hk:k<=n) (hi:i < n):bro k i r < n:=by unfold bro;split <;> omega
theorem Ahc {n k:Nat} {A:Nat->Nat->Int} (hs:AKd n A) (hk:k<=n) {i j:Nat} (hi:i < n) (hj:j < n):Mn k A i j=Mn k A j i:=by
 unfold Mn;rw [<- AL1];refine AC6 fun r c _ _=>?_;exact hs _ _ (AMn hk hi) (AMn hk hj)
theorem Ahd {k:Nat} (A:Nat->Nat->Int) {i:Nat} (j:Nat) (hi:i < k):Mn k A i j=0:=by
 unfold Mn;refine AL9 (a:=i) (b:=k) (by omega) (by omega) (by omega) ?_;funext c;unfold bro;simp [hi]
def bil (n k:Nat) (A:Nat->Nat->Int) (x y:Nat->Int):Int:=psum (fun i=>psum (fun j=>Mn k A i j * x i * y j) n) n
def lin (n k:Nat) (A:Nat->Nat->Int) (x:Nat->Int):Int:=psum (fun j=>Mn k A k j * x j) n
theorem Ak8 (f g:Nat->Int) (n:Nat):psum (fun i=>psum (fun j=>f i * g j) n) n=psum f n * psum g n:=by
 rw [ABt (g:=fun i=>psum g n * f i) (fun i _=>by rw [ADa,Int.mul_comm]),ADa,Int.mul_comm]
theorem Axd {n k:Nat} {A:Nat->Nat->Int} (hs:AKd n A) (hk:k < n) (h0:det k A≠0) (x y:Nat->Int):det (k + 1) A * bil n k A x y=lin n k A x * lin n k A y + det k A * bil n (k + 1) A x y:=by
 unfold bil;rw [<- ADa,<- ADa];have e1:lin n k A x * lin n k A y=psum (fun i=>psum (fun j=>Mn k A k i * x i * (Mn k A k j * y j)) n) n:=(Ak8 (fun i=>Mn k A k i * x i) (fun j=>Mn k A k j * y j) n).symm;rw [e1,<- AGh];refine ABt fun i hi=>?_;rw [<- ADa,<- ADa,<- AGh];refine ABt fun j hj=>?_;have h:=AXd (k:=k) (A:=A) h0 i j;rw [ALb,Ahc hs (by omega) hi hk] at h;have h2:det (k + 1) A * Mn k A i j=Mn k A k i * Mn k A k j + det k A * Mn (k + 1) A i j:=by omega
 grind
theorem Arz (n:Nat) (A:Nat->Nat->Int) (x y:Nat->Int):bil n n A x y=0:=by
 unfold bil;rw [ABt (g:=fun _=>0) fun i hi=>?_]
 ·exact AJo n
 ·rw [ABt (g:=fun _=>0) fun j _=>by rw [Ahd A j hi];simp];exact AJo n
theorem AO7 {n:Nat} {A:Nat->Nat->Int} (hs:AKd n A) (hp:ALq n A) (x:Nat->Int):∀ d k,k + d=n->0<=bil n k A x x:=by
 intro d
 induction d with
 | zero=>
     intro k hk;obtain rfl:k=n:=by omega
     rw [Arz];exact Int.le_refl _
 | succ d ih=>
   intro k hk
   have h1:=ih (k + 1) (by omega)
   have h2:=hp k (by omega)
   have h3:=hp (k + 1) (by omega)
   have h4:=Axd hs (show k < n by omega) (by omega) x x
   have h5:0<=lin n k A x * lin n k A x:=by
     rcases Int.le_total 0 (lin n k A x) with h | h
     · exact Int.mul_nonneg h h
     · exact Int.mul_nonneg_of_nonpos_of_nonpos h h
   have h6:=Int.mul_nonneg (Int.le_of_lt h2) h1
   exact Int.nonneg_of_mul_nonneg_right (by omega) h3
theorem Acn {n k:Nat} {A:Nat->Nat->Int} (a b:Int) (x y z:Nat->Int):bil n k A (fun i=>a * x i + b * y i) z=a * bil n k A x z + b * bil n k A y z:=by
 unfold bil;rw [<- ADa,<- ADa,<- AGh];refine ABt fun i _=>?_;rw [<- ADa,<- ADa,<- AGh];exact ABt fun j _=>by grind
theorem Aco {n k:Nat} {A:Nat->Nat->Int} (hs:AKd n A) (hk:k<=n) (x y:Nat->Int):bil n k A x y=bil n k A y x:=by
 unfold bil;rw [AM5];refine ABt fun j hj=>ABt fun i hi=>?_;rw [Ahc hs hk hi hj];grind
theorem Aor {n k:Nat} {A:Nat->Nat->Int} (hs:AKd n A) (hp:ALq n A) (hk:k<=n) (x y:Nat->Int):bil n k A x y * bil n k A x y<=bil n k A x x * bil n k A y y:=by
  obtain ⟨p,hpq⟩:∃ p,bil n k A x y=p:=⟨_,rfl⟩;obtain ⟨q,hq⟩:∃ q,bil n k A x x=q:=⟨_,rfl⟩;obtain ⟨r,hr⟩:∃ r,bil n k A y y=r:=⟨_,rfl⟩;have hyx:bil n k A y x=p:=by rw [Aco hs hk];exact hpq
  have key:∀ a b:Int,0<=a * (a * q + b * p) + b * (a * p + b * r):=fun a b=>by
    have h:=AO7 hs hp (fun i=>a * x i + b * y i) (n - k) k (by omega);rw [Acn,Aco hs hk x (fun i=>a * x i + b * y i),Acn,Aco hs hk y (fun i=>a * x i + b * y i),Acn,hpq,hq,hr,hyx] at h;exact h
  rw [hpq,hq,hr];have hq0:0<=q:=hq ▸ AO7 hs hp x (n - k) k (by omega)
  rcases Int.lt_or_eq_of_le hq0 with h | h
  · have h1:=key p (-q);have e:p * (p * q + -q * p) + -q * (p * p + -q * r)=q * (q * r - p * p):=by grind
    rw [e] at h1;have:=Int.nonneg_of_mul_nonneg_right h1 h;omega
  · subst h;have h1:=key (-(r + 1)) p;have h2:=key 1 0;have e: -(r + 1) * (-(r + 1) * 0 + p * p) + p * (-(r + 1) * p + p * r)= -((r + 2) * (p * p)):=by grind
    rw [e] at h1;have hr0:0<=r:=hr ▸ AO7 hs hp y (n - k) k (by omega)
    have hpp:0<=p * p:=by
      rcases Int.le_total 0 p with h | h
      · exact Int.mul_nonneg h h
      · exact Int.mul_nonneg_of_nonpos_of_nonpos h h
    have:0<=r * (p * p):=Int.mul_nonneg hr0 hpp;have e2:(r + 2) * (p * p)=r * (p * p) + 2 * (p * p):=by grind
    rw [Int.zero_mul];omega
theorem AU5 {n k:Nat} {A:Nat->Nat->Int} {i j:Nat} (hi:i < n) (hj:j < n):bil n k A (dl i) (dl j)=Mn k A i j:=by
 unfold bil;rw [AM9 hi (fun a ha hne=>?_),AM9 hj (fun b hb hne=>?_)]
 ·simp [dl]
 ·unfold dl;rw [if_neg (fun h:j=b=>hne h.symm)];simp
 ·rw [ABt (g:=fun _=>0) fun b _=>by unfold dl;rw [if_neg (fun h:i=a=>hne h.symm)];simp];exact AJo n
theorem Aaz {n k:Nat} {A:Nat->Nat->Int} (hs:AKd n A) (hp:ALq n A) (hk:k<=n) {i j:Nat} (hi:i < n) (hj:j < n):Mn k A i j * Mn k A i j<=Mn k A i i * Mn k A j j:=by
 have:=Aor hs hp hk (dl i) (dl j);rwa [AU5 hi hj,AU5 hi hi,AU5 hj hj] at this
theorem Aa0 {n k:Nat} {A:Nat->Nat->Int} (hs:AKd n A) (hp:ALq n A) (hk:k<=n) {i:Nat} (hi:i < n):0<=Mn k A i i:=by
 have:=AO7 hs hp (dl i) (n - k) k (by omega);rwa [AU5 hi hi] at this
theorem Acp {n k:Nat} {A:Nat->Nat->Int} (hs:AKd n A) (hp:ALq n A) (hk:k < n) {i:Nat} (hi:i < n):det (k + 1) A * Mn k A i i=Mn k A i k * Mn k A i k + det k A * Mn (k + 1) A i i:=by
 have h:=AXd (k:=k) (A:=A) (by have:=hp k (by omega);omega) i i;rw [ALb,<- Ahc hs (by omega) hi hk] at h;omega
theorem Ato {n:Nat} {A:Nat->Nat->Int} (hs:AKd n A) (hp:ALq n A) {i:Nat} (hi:i < n):∀ k,k<=n->Mn k A i i<=det k A * A i i:=by
 intro k
 induction k with
 | zero=>intro _;rw [ANg];simp [det]
 | succ k ih=>
   intro hk
   have h1:=ih (by omega)
   have h2:=Acp hs hp (show k < n by omega) hi
   have h3:0<=Mn k A i k * Mn k A i k:=by
     rcases Int.le_total 0 (Mn k A i k) with h | h
     · exact Int.mul_nonneg h h
     · exact Int.mul_nonneg_of_nonpos_of_nonpos h h
   have h4:=hp k (by omega)
   have h5:=hp (k + 1) (by omega)
   have h6:det (k + 1) A * Mn k A i i<=det (k + 1) A * (det k A * A i i):=Int.mul_le_mul_of_nonneg_left h1 (by omega)
   have h7:det k A * Mn (k + 1) A i i<=det k A * (det (k + 1) A * A i i):=by
     have e:det (k + 1) A * (det k A * A i i)=det k A * (det (k + 1) A * A i i):=by grind
     omega
   exact Int.le_of_mul_le_mul_left h7 h4
theorem Aos {n:Nat} {A:Nat->Nat->Int} (hs:AKd n A) (hp:ALq n A) {B:Int} (hB:1<=B) (hA:∀ i,i < n->A i i<=B):∀ k,k<=n->det k A<=B ^ k:=by
  intro k;induction k with
  | zero=>intro _;simp [det]
  | succ k ih=>
    intro hk;have h1:=ih (by omega);have h2:=Ato hs hp (show k < n by omega) k (by omega);rw [ALb] at h2;have h3:=hp k (by omega);have h4:det k A * A k k<=det k A * B:=Int.mul_le_mul_of_nonneg_left (hA k (by omega)) (by omega);have h5:det k A * B<=B ^ k * B:=Int.mul_le_mul_of_nonneg_right h1 (by omega);rw [Int.pow_succ];omega
theorem Ar0 {n:Nat} {A:Nat->Nat->Int} (hs:AKd n A) (hp:ALq n A) (x:Nat->Int) {k:Nat} (hk:k < n):x k * x k<=ALn n A k k * bil n 0 A x x:=by
  have hd:=hp n (Nat.le_refl _)
  have hB:∀ y z:Nat->Int,bil n 0 A y z=psum (fun i=>y i * psum (fun j=>A i j * z j) n) n:=fun y z=>by
    unfold bil;refine ABt fun i _=>?_;rw [<- ADa];exact ABt fun j _=>by rw [ANg];grind
  have h1:∀ y:Nat->Int,bil n 0 A y (fun j=>ALn n A j k)=det n A * y k:=fun y=>by
    rw [hB,ABt (g:=fun i=>y i * (det n A * dl i k)) (fun i hi=>by rw [Aax hi hk])];rw [AM9 hk (fun i _ hne=>by unfold dl;rw [if_neg hne];simp)];simp [dl,Int.mul_comm]
  have h2:=Aor hs hp (Nat.zero_le n) x (fun j=>ALn n A j k);rw [h1 x,h1 (fun j=>ALn n A j k)] at h2;have e1:det n A * x k * (det n A * x k)=det n A * (det n A * (x k * x k)):=by grind
  have e2:bil n 0 A x x * (det n A * ALn n A k k)=det n A * (ALn n A k k * bil n 0 A x x):=by grind
  rw [e1,e2] at h2;have h3:=Int.le_of_mul_le_mul_left h2 hd
  have h4:0<=x k * x k:=by
    rcases Int.le_total 0 (x k) with h | h
    · exact Int.mul_nonneg h h
    · exact Int.mul_nonneg_of_nonpos_of_nonpos h h
  have h5:1 * (x k * x k)<=det n A * (x k * x k):=Int.mul_le_mul_of_nonneg_right (by omega) h4;omega
def AV8 (A:Nat->Nat->Int) (i j:Nat) (c:Int):Nat->Nat->Int:=ADe A i fun s=>A i s + c * A j s
def Aot (A:Nat->Nat->Int) (i j:Nat) (c:Int):Nat->Nat->Int:=trF (AV8 (trF A) i j c)
def AU6 (A:Nat->Nat->Int) (i j:Nat) (c:Int):Nat->Nat->Int:=Aot (AV8 A i j c) i j c
def swA (A:Nat->Nat->Int) (j:Nat):Nat->Nat->Int:=fun r s=>A (tau j r) (tau j s)
theorem Aov (l:Nat) (A:Nat->Nat->Int) (r s:Nat):Mn l (trF A) s r=Mn l A r s:=by
 unfold Mn;rw [<- AL1];rfl
theorem Ae1 {A:Nat->Nat->Int} {i j k:Nat} {c:Int} (hij:j < i):det k (AV8 A i j c)=det k A:=by
 rcases Nat.lt_or_ge i k with h | h
 ·exact AH8 h (by omega) (by omega) c
 ·refine AC6 fun r s hr _=>?_;unfold AV8;rw [ACq,if_neg (by omega)]
theorem Aow {A:Nat->Nat->Int} {i j k:Nat} {c:Int} (hij:j < i):det k (Aot A i j c)=det k A:=by
 unfold Aot;rw [AL1,Ae1 hij,AL1]
theorem ANh {A:Nat->Nat->Int} {i j k:Nat} {c:Int} (hij:j < i):det k (AU6 A i j c)=det k A:=by
 unfold AU6;rw [Aow hij,Ae1 hij]
theorem Acq {A:Nat->Nat->Int} {i j l r s:Nat} {c:Int} (hij:j < i) (hr:l<=r):Mn l (AV8 A i j c) r s=Mn l A r s + if l<=i/\r=i then c * Mn l A j s else 0:=by
 rcases Nat.lt_or_ge i l with h | h
 ·rw [if_neg (by omega),Int.add_zero];unfold Mn;have e:=AH8 (n:=l + 1) (F:=fun a b=>A (bro l r a) (bro l s b)) (a:=i) (b:=j) (by omega) (by omega) (by omega) c;rw [<- e];refine AC6 fun a b ha _=>?_;rw [ACq];unfold AV8;rw [ACq];have hbi:bro l r i=i:=by unfold bro;rw [if_pos h]
  have hbj:bro l r j=j:=by unfold bro;rw [if_pos (by omega)]
  by_cases ea:a=i
  ·subst ea;rw [hbi,if_pos rfl,if_pos rfl,hbj]
  ·rw [if_neg ea,if_neg];unfold bro;split <;> omega
 ·by_cases er:r=i
  ·subst er;rw [if_pos ⟨h,rfl⟩];unfold Mn;have e:=ARm (n:=l + 1) (F:=fun a b=>A (bro l r a) (bro l s b)) (r:=l) (fun b=>A r (bro l s b)) (fun b=>A j (bro l s b)) 1 c (by omega)
   have e1:det (l + 1) (fun a b=>AV8 A r j c (bro l r a) (bro l s b))=det (l + 1) (ADe (fun a b=>A (bro l r a) (bro l s b)) l fun q=>1 * A r (bro l s q) + c * A j (bro l s q)):=by
     refine AC6 fun a b ha _=>?_
     rw [ACq]
     unfold AV8
     rw [ACq]
     by_cases ea:a=l
     · subst ea
       rw [show bro a r a=r by unfold bro;rw [if_neg (by omega)],if_pos rfl,if_pos rfl,Int.one_mul]
     · rw [if_neg ea,if_neg]
       unfold bro;rw [if_pos (by omega)];omega
   have e2:det (l + 1) (ADe (fun a b=>A (bro l r a) (bro l s b)) l fun b=>A r (bro l s b))=det (l + 1) (fun a b=>A (bro l r a) (bro l s b)):=by
     refine AC6 fun a b ha _=>?_
     rw [ACq]
     by_cases ea:a=l
     · subst ea;rw [if_pos rfl,show bro a r a=r by unfold bro;rw [if_neg (by omega)]]
     · rw [if_neg ea]
   have e3:det (l + 1) (ADe (fun a b=>A (bro l r a) (bro l s b)) l fun b=>A j (bro l s b))=det (l + 1) (fun a b=>A (bro l j a) (bro l s b)):=by
     refine AC6 fun a b ha _=>?_
     rw [ACq]
     by_cases ea:a=l
     · subst ea;rw [if_pos rfl,show bro a j a=j by unfold bro;rw [if_neg (by omega)]]
     · rw [if_neg ea,show bro l r a=a by unfold bro;rw [if_pos (by omega)],show bro l j a=a by unfold bro;rw [if_pos (by omega)]]
   rw [e1,e,e2,e3,Int.one_mul]
  ·rw [if_neg (fun h=>er h.2),Int.add_zero];unfold Mn;refine AC6 fun a b ha _=>?_;unfold AV8;rw [ACq,if_neg];unfold bro;split <;> omega
theorem Ar1 {A:Nat->Nat->Int} {i j l r s:Nat} {c:Int} (hij:j < i) (hs:l<=s):Mn l (Aot A i j c) r s=Mn l A r s + if l<=i/\s=i then c * Mn l A r j else 0:=by
 unfold Aot;rw [Aov,Acq hij hs,Aov,Aov]
theorem Aox {A:Nat->Nat->Int} {i j l r s:Nat} {c:Int} (hij:j < i) (hr:l<=r) (hs:l<=s):Mn l (AU6 A i j c) r s=Mn l A r s + (if l<=i/\r=i then c * Mn l A j s else 0) + if l<=i/\s=i then c * (Mn l A r j + if l<=i/\r=i then c * Mn l A j j else 0) else 0:=by
  unfold AU6;rw [Ar1 hij hs,Acq hij hr,Acq hij hr]
theorem AXj (A:Nat->Nat->Int) (i j:Nat) (c:Int) (r s:Nat):AU6 A i j c r s=if s=i then (if r=i then A i i + c * A j i else A r i) + c * (if r=i then A i j + c * A j j else A r j) else if r=i then A i s + c * A j s else A r s:=by
 show ADe (trF (AV8 A i j c)) i (fun q=>trF (AV8 A i j c) i q + c * trF (AV8 A i j c) j q) s r=_;rw [ACq];unfold trF AV8;by_cases h:s=i
 ·rw [if_pos h,if_pos h,ACq,ACq]
 ·rw [if_neg h,if_neg h,ACq]
theorem Ar2 {n:Nat} {A:Nat->Nat->Int} {i j:Nat} {c:Int} (hi:i < n) (hj:j < n) (h:AKd n A):AKd n (AU6 A i j c):=by
 intro r s hr hs;rw [AXj,AXj];by_cases h1:r=i
 ·by_cases h2:s=i
  ·rw [h1,h2]
  ·rw [if_neg h2,if_pos h1,if_pos h1,if_neg h2,if_neg h2,h i s hi hs,h j s hj hs]
 ·by_cases h2:s=i
  ·rw [if_pos h2,if_neg h1,if_neg h1,if_neg h1,if_pos h2,h r i hr hi,h r j hr hj]
  ·rw [if_neg h2,if_neg h1,if_neg h1,if_neg h2,h r s hr hs]
theorem Ai5 {A:Nat->Nat->Int} {j k:Nat} (hk:k≠j + 1):det k (swA A j)=det k A:=by
 rcases Nat.lt_or_ge (j + 1) k with h | h
 ·have e1:det k (swA A j)= -det k (fun r s=>A (tau j r) s):=AY7 (F:=fun r s=>A (tau j r) s) h
  have e2:det k (fun r s=>A (tau j r) s)= -det k A:=by
    rw [<- AL1 (fun r s=>A (tau j r) s),<- AL1 A]
    exact AY7 (F:=trF A) h
  rw [e1,e2];omega
 ·refine AC6 fun r s hr hs=>?_;unfold swA tau;rw [if_neg (by omega),if_neg (by omega),if_neg (by omega),if_neg (by omega)]
theorem Ae2 {A:Nat->Nat->Int} {j:Nat}:det (j + 1) (swA A j)=Mn j A (j + 1) (j + 1):=by
 unfold Mn;refine AC6 fun r s hr hs=>?_
 have e:∀ r,r < j + 1->tau j r=bro j (j + 1) r:=fun r hr=>by
   unfold tau bro
   by_cases h:r < j
   · rw [if_neg (by omega),if_neg (by omega),if_pos h]
   · rw [if_pos (by omega),if_neg h]
 unfold swA;rw [e r hr,e s hs]
theorem Au6 {n j:Nat} {A:Nat->Nat->Int} (hj:j + 1 < n) (h:AKd n A):AKd n (swA A j):=fun r s hr hs=>by
  have e:∀ r,r < n->tau j r < n:=fun r hr=>by unfold tau;split <;> (try split) <;> omega
  exact h _ _ (e r hr) (e s hs)
theorem sq_nonneg (x:Int):0<=x * x:=by
 rcases Int.le_total 0 x with h | h
 ·exact Int.mul_nonneg h h
 ·exact Int.mul_nonneg_of_nonpos_of_nonpos h h
theorem Ai6 {x y:Int} (hy:0<=y) (h:x * x<=y * y): -y<=x/\x<=y:=by
 constructor
 ·rcases Int.lt_or_le x (-y) with h1 | h1
  ·have h2:0 < (-x - y) * (-x + y):=Int.mul_pos (by omega) (by omega);have e:(-x - y) * (-x + y)=x * x - y * y:=by grind
   omega
  ·exact h1
 ·rcases Int.lt_or_le y x with h1 | h1
  ·have h2:0 < (x - y) * (x + y):=Int.mul_pos (by omega) (by omega);have e:(x - y) * (x + y)=x * x - y * y:=by grind
   omega
  ·exact h1
theorem ASt {x y:Int} (h1: -y<=x) (h2:x<=y):x * x<=y * y:=by
 have h3:0<=(y - x) * (y + x):=Int.mul_nonneg (by omega) (by omega);have e:(y - x) * (y + x)=y * y - x * x:=by grind
 omega
def SzF (A:Nat->Nat->Int) (i j:Nat):Prop:= -(det (j + 1) A)<=2 * Mn j A i j/\2 * Mn j A i j<=det (j + 1) A
def LvF (A:Nat->Nat->Int) (j:Nat):Prop:=3 * (det (j + 1) A * det (j + 1) A)<=4 * (det j A * det (j + 2) A + Mn j A (j + 1) j * Mn j A (j + 1) j)
def Ahe (A:Nat->Nat->Int) (i:Nat) (K:Int):Prop:= ∀ l,l < i-> -(K * det (l + 1) A)<=Mn l A i l/\Mn l A i l<=K * det (l + 1) A
theorem Aa1 {n i:Nat} {A:Nat->Nat->Int} {Dm p q:Int} (hs:AKd n A) (hp:ALq n A) (hi:i < n) (hD:∀ k,k<=n->det k A<=Dm) (p0:0<=p) (q0:0<=q) (hl:∀ l,l < i->q * (Mn l A i l * Mn l A i l)<=p * (det (l + 1) A * det (l + 1) A)):∀ d l:Nat,l + d=i->q * Mn l A i i<=(q + d * p) * (Dm * det l A):=by
  have hD0:1<=Dm:=by
    have:=hD 0 (by omega);simpa [det] using this
  have hDl:∀ l k,l<=n->k<=n->det k A<=Dm * det l A:=fun l k h1 h2=>by
    have:=hp l h1;have h3:=hD k h2;have h4:Dm * 1<=Dm * det l A:=Int.mul_le_mul_of_nonneg_left (by omega) (by omega);omega
  intro d;induction d with
  | zero=>
    intro l h;obtain rfl:l=i:=by omega
    rw [ALb];have h1:=Int.mul_le_mul_of_nonneg_left (hDl l (l + 1) (by omega) (by omega)) q0;simpa using h1
  | succ d ih=>
    intro l h;have h1:=ih (l + 1) (by omega);have h2:=Acp hs hp (show l < n by omega) hi;have h3:=hl l (by omega);have h4:=hp l (by omega);have h5:=hp (l + 1) (by omega);have h6:=Int.mul_le_mul_of_nonneg_left h1 (Int.le_of_lt h4)
    have h7:det (l + 1) A * (q * Mn l A i i)=q * (Mn l A i l * Mn l A i l) + det l A * (q * Mn (l + 1) A i i):=by
      have e1:det (l + 1) A * (q * Mn l A i i)=q * (det (l + 1) A * Mn l A i i):=by grind
      rw [e1,h2];grind
    have h8:=Int.mul_le_mul_of_nonneg_left (hDl l (l + 1) (by omega) (by omega)) p0;have h9:=Int.mul_le_mul_of_nonneg_left h8 (Int.le_of_lt h5);have e2:det (l + 1) A * (p * det (l + 1) A)=p * (det (l + 1) A * det (l + 1) A):=by grind
    have h10:det (l + 1) A * (q * Mn l A i i)<=det (l + 1) A * ((q + ((d + 1:Nat):Int) * p) * (Dm * det l A)):=by
      have e3:det (l + 1) A * ((q + ((d + 1:Nat):Int) * p) * (Dm * det l A))=det (l + 1) A * (p * (Dm * det l A)) + det l A * ((q + (d:Int) * p) * (Dm * det (l + 1) A)):=by
        rw [Int.natCast_add,Int.natCast_one];grind
      rw [e3];omega
    exact Int.le_of_mul_le_mul_left h10 h5
theorem Ae4 {n i:Nat} {A:Nat->Nat->Int} {Dm:Int} (hn:n<=8) (hs:AKd n A) (hp:ALq n A) (hi:i < n) (hD:∀ k,k<=n->det k A<=Dm) (hz:∀ l,l < i->SzF A i l):A i i<=3 * Dm:=by
 have h:=Aa1 hs hp hi hD (p:=1) (q:=4) (by omega) (by omega) (fun l hl=>by
   have:=ASt (hz l hl).1 (hz l hl).2
   have e:2 * Mn l A i l * (2 * Mn l A i l)=4 * (Mn l A i l * Mn l A i l):=by grind
   omega) i 0 (by omega)
 rw [ANg] at h
 have Aa:1<=Dm:=by
   have:=hD 0 (by omega);simpa [det] using this
 have h2:(4 + (i:Int) * 1) * (Dm * det 0 A)<=12 * Dm:=by
   have:(4 + (i:Int) * 1) * Dm<=12 * Dm:=Int.mul_le_mul_of_nonneg_right (by omega) (by omega)
   simpa [det] using this
 omega
theorem Ak9 {n i:Nat} {A:Nat->Nat->Int} {Dm:Int} (hs:AKd n A) (hp:ALq n A) (hi:i < n) (hD:∀ k,k<=n->det k A<=Dm) (hA:A i i<=3 * Dm):Ahe A i (2 * Dm):=by
 intro l hl
 have Ad:1<=Dm:=by
   have:=hD 0 (by omega);simpa [det] using this
 have h1:=Aaz hs hp (show l<=n by omega) hi (show l < n by omega);rw [ALb] at h1;have h2:=Ato hs hp hi l (by omega);have h3:=hp l (by omega);have h4:=hp (l + 1) (by omega)
 have h5:det l A * A i i<=Dm * (3 * Dm):=by
   have a1:=Int.mul_le_mul_of_nonneg_left hA (Int.le_of_lt h3)
   have a2:=Int.mul_le_mul_of_nonneg_right (hD l (by omega)) (show (0:Int)<=3 * Dm by omega)
   omega
 have h6:Mn l A i i * det (l + 1) A<=Dm * (3 * Dm) * det (l + 1) A:=Int.mul_le_mul_of_nonneg_right (by omega) (by omega);have h7:Dm * (3 * Dm) * (det (l + 1) A * 1)<=Dm * (3 * Dm) * (det (l + 1) A * det (l + 1) A):=Int.mul_le_mul_of_nonneg_left (Int.mul_le_mul_of_nonneg_left (by omega) (by omega)) (Int.mul_nonneg (by omega) (by omega));have h8:0<=Dm * Dm * (det (l + 1) A * det (l + 1) A):=Int.mul_nonneg (sq_nonneg _) (sq_nonneg _);have h9:2 * Dm * det (l + 1) A * (2 * Dm * det (l + 1) A)=Dm * (3 * Dm) * (det (l + 1) A * det (l + 1) A) + Dm * Dm * (det (l + 1) A * det (l + 1) A):=by grind
 rw [Int.mul_one] at h7;exact Ai6 (Int.mul_nonneg (by omega) (by omega)) (by omega)
theorem Ae5 {A:Nat->Nat->Int} {i:Nat} {K K':Int} (hp:∀ l,l<=i->0 < det l A) (hK:K<=K') (h:Ahe A i K):Ahe A i K':=fun l hl=>by
  have h1:=h l hl
  have h2:=hp (l + 1) (by omega)
  have h3:=Int.mul_le_mul_of_nonneg_right hK (Int.le_of_lt h2)
  omega
theorem Ae6 {a d:Int} (hd:0 < d): -d<=2 * (a + -((2 * a + d) / (2 * d)) * d)/\2 * (a + -((2 * a + d) / (2 * d)) * d)<=d:=by
  have h1:=Int.mul_ediv_add_emod (2 * a + d) (2 * d);have h2:=Int.emod_nonneg (2 * a + d) (show 2 * d≠0 by omega);have h3:=Int.emod_lt_of_pos (2 * a + d) (show 0 < 2 * d by omega);generalize (2 * a + d) / (2 * d)=q at *
  generalize (2 * a + d) % (2 * d)=r at *
  have e:2 * (a + -q * d)=2 * a - 2 * d * q:=by grind
  omega
theorem Ar3 {a d K:Int} (hd:0 < d) (h1: -(K * d)<=a) (h2:a<=K * d): -K<= -((2 * a + d) / (2 * d))/\ -((2 * a + d) / (2 * d))<=K:=by
 have h:=Ae6 (a:=a) hd;generalize -((2 * a + d) / (2 * d))=c at *;constructor
 ·rcases Int.lt_or_le c (-K) with h3 | h3
  ·have h4:(c + K + 1) * d<=0:=by
     have:=Int.mul_nonneg (show 0<= -(c + K + 1) by omega) (Int.le_of_lt hd)
     have e: -(c + K + 1) * d= -((c + K + 1) * d):=by grind
     omega
   have e:(c + K + 1) * d=c * d + K * d + d:=by grind
   omega
  ·exact h3
 ·rcases Int.lt_or_le K c with h3 | h3
  ·have h4:=Int.mul_nonneg (show 0<=c - K - 1 by omega) (Int.le_of_lt hd);have e:(c - K - 1) * d=c * d - K * d - d:=by grind
   omega
  ·exact h3
theorem Ai7 {A:Nat->Nat->Int} {i j l:Nat} {c:Int} (hij:j < i) (hl:l < i):Mn l (AU6 A i j c) i l=Mn l A i l + c * Mn l A j l:=by
 rw [Aox hij (by omega) (Nat.le_refl _),if_pos ⟨by omega,rfl⟩,if_neg (fun h:l<=i/\l=i=>by omega)];omega
theorem Aa2 {A:Nat->Nat->Int} {i j l r:Nat} {c:Int} (hij:j < i) (hr:r < i) (hl:l<=r):Mn l (AU6 A i j c) r l=Mn l A r l:=by
 rw [Aox hij hl (Nat.le_refl _),if_neg (fun h:l<=i/\r=i=>by omega),if_neg (fun h:l<=i/\l=i=>by omega)];omega
theorem Aoy {A:Nat->Nat->Int} {i j:Nat} {K c:Int} (hij:j < i) (hp:∀ l,l<=i->0 < det l A) (hK:0<=K) (h:Ahe A i K) (hz:∀ l,l < j->SzF A j l) (Ab: -K<=c) (Ac:c<=K):Ahe (AU6 A i j c) i (2 * K):=by
 intro l hl;rw [ANh hij,Ai7 hij hl];have h1:=h l hl;have h2:=hp (l + 1) (by omega)
 have hm: -(det (l + 1) A)<=Mn l A j l/\Mn l A j l<=det (l + 1) A:=by
   rcases Nat.lt_trichotomy l j with h3 | h3 | h3
   · have:=hz l h3;unfold SzF at this;omega
   · subst h3;rw [ALb];omega
   · rw [Ahd A l h3];omega
 have h3: -(K * det (l + 1) A)<=c * Mn l A j l/\c * Mn l A j l<=K * det (l + 1) A:=by
   refine Ai6 (Int.mul_nonneg hK (Int.le_of_lt h2)) ?_
   have a1:=ASt Ab Ac
   have a2:=ASt hm.1 hm.2
   have a3:c * c * (Mn l A j l * Mn l A j l)<=K * K * (det (l + 1) A * det (l + 1) A):=Int.mul_le_mul a1 a2 (sq_nonneg _) (sq_nonneg _)
   have e1:c * Mn l A j l * (c * Mn l A j l)=c * c * (Mn l A j l * Mn l A j l):=by grind
   have e2:K * det (l + 1) A * (K * det (l + 1) A)=K * K * (det (l + 1) A * det (l + 1) A):=by grind
   omega
 have e:2 * K * det (l + 1) A=K * det (l + 1) A + K * det (l + 1) A:=by grind
 omega
theorem Aoz {A:Nat->Nat->Int} {i j k:Nat} {c:Int} (hk:k≠i):AU6 A i j c k k=A k k:=by
 rw [AXj,if_neg hk,if_neg hk]
structure Acr (n:Nat) (Dm:Int) (A:Nat->Nat->Int) (i t:Nat):Prop where
  sym:AKd n A
  pos:ALq n A
  dm:∀ k,k<=n->det k A<=Dm
  hi:i < n
  ht:t<=i
  rows:∀ k,k < n->k≠i->A k k<=3 * Dm
  row:t=0->A i i<=3 * Dm
  lamb:Ahe A i (2 ^ t * (2 * Dm))
  pre:∀ r l,l < r->r < i->SzF A r l
  prei:∀ l,l < i->i<=l + t->SzF A i l
  lov:∀ r,r + 1 < i->LvF A r
theorem AY8 {n:Nat} {Dm:Int} {A:Nat->Nat->Int} (hn:0 < n) (hs:AKd n A) (hp:ALq n A) (hD:∀ k,k<=n->det k A<=Dm) (hr:∀ k,k < n->A k k<=3 * Dm):Acr n Dm A 0 0:=
  ⟨hs,hp,hD,hn,Nat.le_refl _,fun k hk _=>hr k hk,fun _=>hr 0 hn,fun l hl=>by omega,fun r l h1 h2=>by omega,fun l hl=>by omega,fun r hr=>by omega⟩
theorem Ao0 {n i t:Nat} {Dm:Int} {A:Nat->Nat->Int} (h:Acr n Dm A i t):1<=Dm:=by
 have:=h.dm 0 (by omega);simpa [det] using this
theorem ATf {n i t:Nat} {Dm:Int} {A:Nat->Nat->Int} (hn:n<=8) (h:Acr n Dm A i t) (hz:∀ l,l < i->SzF A i l):∀ k,k < n->A k k<=3 * Dm:=fun k hk=>by
  by_cases e:k=i
  · subst e;exact Ae4 hn h.sym h.pos h.hi h.dm hz
  · exact h.rows k hk e
theorem AU7 (t:Nat):(0:Int) < 2 ^ t:=Int.pow_pos (by omega)
theorem AXk {s t:Nat} (h:s<=t):(2:Int) ^ s<=2 ^ t:=by
 have:=Nat.pow_le_pow_right (show 0 < 2 by omega) h;have e:∀ k:Nat,(2:Int) ^ k=((2 ^ k:Nat):Int):=fun k=>by simp
 rw [e,e];omega
theorem Ala {n i t i' j:Nat} {Dm:Int} {A:Nat->Nat->Int} (hn:n<=8) (h:Acr n Dm A i t) (hi':i' < n) (hj:j < i') (hbad: ¬ SzF A i' j)
    (hz:∀ r l,l < r->r < i'->SzF A r l) (hzi:∀ l,l < i'->j < l->SzF A i' l) (hl:∀ r,r + 1 < i'->LvF A r):
    Acr n Dm (AU6 A i' j (-((2 * Mn j A i' j + det (j + 1) A) / (2 * det (j + 1) A)))) i' (i' - j)/\i * 16 + t < i' * 16 + (i' - j):=by
  have hD1:=Ao0 h
  have hlt:i < i'∨i=i'/\t < i' - j:=by
    rcases Nat.lt_trichotomy i i' with h1 | h1 | h1
    · exact .inl h1
    · refine .inr ⟨h1,?_⟩
      rcases Nat.lt_or_ge t (i' - j) with h2 | h2
      · exact h2
      · subst h1;exact absurd (h.prei j hj (by omega)) hbad
    · exact absurd (h.pre i' j hj h1) hbad
  have hrows:∀ k,k < n->k≠i'->A k k<=3 * Dm:=fun k hk hne=>by
    rcases hlt with h1 | h1
    · exact ATf hn h (fun l hl=>hz i l hl h1) k hk
    · exact h.rows k hk (by omega)
  have hK0:0<=2 ^ (i' - j - 1) * (2 * Dm):=Int.mul_nonneg (Int.le_of_lt (AU7 _)) (by omega);have hp':∀ l,l<=i'->0 < det l A:=fun l hl=>h.pos l (by omega)
  have hlam:Ahe A i' (2 ^ (i' - j - 1) * (2 * Dm)):=by
    rcases hlt with h1 | h1
    · refine Ae5 hp' ?_ (Ak9 h.sym h.pos hi' h.dm (ATf hn h (fun l hl=>hz i l hl h1) i' hi'));have:=Int.mul_le_mul_of_nonneg_right (AXk (Nat.zero_le (i' - j - 1))) (show (0:Int)<=2 * Dm by omega);simpa using this
    · obtain ⟨rfl,h1⟩:=h1;exact Ae5 hp' (Int.mul_le_mul_of_nonneg_right (AXk (by omega)) (by omega)) h.lamb
  have hd:=hp' (j + 1) (by omega);obtain ⟨c1,c2⟩:=Ar3 hd (hlam j hj).1 (hlam j hj).2;have hrem:=Ae6 (a:=Mn j A i' j) hd;generalize hc: -((2 * Mn j A i' j + det (j + 1) A) / (2 * det (j + 1) A))=c at *
  refine ⟨⟨Ar2 hi' (by omega) h.sym,fun k hk=>by rw [ANh hj];exact h.pos k hk,fun k hk=>by rw [ANh hj];exact h.dm k hk,hi',by omega,fun k hk hne=>by rw [Aoz hne];exact hrows k hk hne,fun h0=>by omega,?_,fun r l h1 h2=>?_,fun l h1 h2=>?_,fun r hr=>?_⟩,by have:=h.ht;have:=h.hi;omega⟩
  · have:=Aoy hj hp' hK0 hlam (fun l hl=>hz j l hl hj) c1 c2
    have e:2 * (2 ^ (i' - j - 1) * (2 * Dm))=2 ^ (i' - j) * (2 * Dm):=by
      rw [show i' - j=i' - j - 1 + 1 by omega,Int.pow_succ];simp only [Nat.add_sub_cancel];grind
    rwa [e] at this
  · unfold SzF;rw [ANh hj,Aa2 hj h2 (by omega)];exact hz r l h1 h2
  · unfold SzF;rw [ANh hj,Ai7 hj h1]
    rcases Nat.lt_or_ge j l with h3 | h3
    · rw [Ahd A l h3,Int.mul_zero,Int.add_zero];exact hzi l h1 h3
    · obtain rfl:l=j:=by omega
      rw [ALb];exact hrem
  · unfold LvF;rw [ANh hj,ANh hj,ANh hj,Aa2 hj (by omega) (by omega)];exact hl r hr
def Ae7 (n:Nat) (A:Nat->Nat->Int):Int:=psum (fun k=>det k A) (n + 1)
theorem Ar4 {f g:Nat->Int} {n k:Nat} (hk:k < n) (hne:∀ l,l≠k->f l=g l) (h:f k < g k):psum f n < psum g n:=by
 induction n with
 | zero=>omega
 | succ n ih=>
   simp only [psum]
   rcases Nat.lt_or_ge k n with h1 | h1
   · have:=ih h1;rw [hne n (by omega)];omega
   · obtain rfl:k=n:=by omega
     rw [ABt (g:=g) fun i hi=>hne i (by omega)];omega
theorem Alb {n i t j:Nat} {Dm:Int} {A:Nat->Nat->Int} (hn:n<=8) (h:Acr n Dm A i t) (hj:j + 1 < n) (hbad: ¬ LvF A j)
    (hz:∀ r l,l < r->r<=j + 1->SzF A r l) (hl:∀ r,r < j->LvF A r):
    Acr n Dm (swA A j) 0 0/\Ae7 n (swA A j) < Ae7 n A:=by
  have hij:i<=j + 1:=by
    rcases Nat.lt_or_ge (j + 1) i with h1 | h1
    · exact absurd (h.lov j h1) hbad
    · exact h1
  have hrest:=ATf hn h (fun l hl=>hz i l hl hij);have h1:=Acp h.sym h.pos (show j < n by omega) hj;have p0:=h.pos j (by omega);have p1:=h.pos (j + 1) (by omega);have p2:=h.pos (j + 2) (by omega);rw [show Mn (j + 1) A (j + 1) (j + 1)=det (j + 2) A from ALb _ _] at h1
  have hlt:Mn j A (j + 1) (j + 1) < det (j + 1) A:=by
    unfold LvF at hbad
    have h2:det (j + 1) A * (4 * Mn j A (j + 1) (j + 1)) < det (j + 1) A * (3 * det (j + 1) A):=by
      have e1:det (j + 1) A * (4 * Mn j A (j + 1) (j + 1))=4 * (det (j + 1) A * Mn j A (j + 1) (j + 1)):=by grind
      have e2:det (j + 1) A * (3 * det (j + 1) A)=3 * (det (j + 1) A * det (j + 1) A):=by grind
      omega
    have:=Int.lt_of_mul_lt_mul_left h2 (Int.le_of_lt p1);omega
  have hpos:0 < Mn j A (j + 1) (j + 1):=by
    have h3:=sq_nonneg (Mn j A (j + 1) j);have h4:=Int.mul_pos p0 p2;exact Int.pos_of_mul_pos_right (a:=det (j + 1) A) (by omega) p1
  have hdet:∀ k,det k (swA A j)=if k=j + 1 then Mn j A (j + 1) (j + 1) else det k A:=fun k=>by
    by_cases e:k=j + 1
    · subst e;rw [if_pos rfl,Ae2]
    · rw [if_neg e,Ai5 e]
  refine ⟨AY8 (by omega) (Au6 hj h.sym) (fun k hk=>?_) (fun k hk=>?_) (fun k hk=>?_),?_⟩
  · rw [hdet];split
    · exact hpos
    · exact h.pos k hk
  · rw [hdet];split
    · have:=h.dm (j + 1) (by omega);omega
    · exact h.dm k hk
  · have e:tau j k < n:=by unfold tau;split <;> (try split) <;> omega
    exact hrest _ e
  · exact Ar4 (k:=j + 1) (by omega) (fun l hl=>by rw [hdet,if_neg hl]) (by rw [hdet,if_pos rfl];exact hlt)
end Go.QF
namespace Go.Proofs.YtiegjkmfpcgjjaaGreatDoor
open Go Go.QF
theorem Acs (k m:Nat):AD5 k (fun a=>((a:Nat):Int)) ++ [((m:Nat):Int)]=AD5 (k + 1) fun a=>((bro k m a:Nat):Int):=by
 rw [<- AOo,ACw (g:=fun a=>((bro k m a:Nat):Int)) fun a ha=>by unfold bro;rw [if_pos ha]];unfold bro;rw [if_neg (by omega)]
theorem Ai8 {fuel k m:Nat} (hk:k<=100) (hf:100 < fuel):AFl fuel (k:Int) (m:Int)=some (AD5 (k + 1) fun a=>((bro k m a:Nat):Int)):=by
 apply ok_eq;unfold AFl;refine ABn (ACz (fun i s=>s=(AD5 i (fun a=>((a:Nat):Int)),((i:Nat):Int))/\i<=k) k (Q:=(· =AD5 k fun a=>((a:Nat):Int))) ⟨rfl,Nat.zero_le _⟩ (by omega) fun i s hi hI=>?_) fun e he=>?_
 ·obtain ⟨rfl,hik⟩:=hI;unfold AI8;dsimp only;refine ACf (fun h=>AEk (by rw [ADj];omega) (ABi ⟨by omega,?_,by omega⟩)) (fun h=>ABi ?_)
  ·rw [wk (by omega),AOo i fun a=>((a:Nat):Int)];simp
  ·obtain rfl:i=k:=by omega
   rfl
 ·subst he;refine AEk (by rw [ADj];omega) (ABi ?_);exact Acs k m
theorem AY9 {fuel n i j:Nat} {F:Nat->Nat->Int} (hn:n<=8) (hi:i < n) (hj:j < n) (hb:∀ i j,i < n->j < n->(F i j).natAbs<=AGo) (hf:100 < fuel):AEj fuel (tab n n F) (i:Int) (j:Int)=some (Mn j F i j):=by
 apply ok_eq;unfold AEj;refine ABn (ACz (fun q s=>s=(AD5 q (fun a=>((a:Nat):Int)),AD5 q (fun a=>((a:Nat):Int)),((q:Nat):Int))/\q<=j) j (Q:=(· =(AD5 j (fun a=>((a:Nat):Int)),AD5 j fun a=>((a:Nat):Int)))) ⟨rfl,Nat.zero_le _⟩ (by omega) fun q s hq hI=>?_) fun e he=>?_
 ·obtain ⟨rfl,hqj⟩:=hI;unfold AIs;dsimp only;refine ACf (fun h=>AEk (by rw [ADj];omega) (AEk (by rw [ADj];omega) (ABi ⟨by omega,?_,by omega⟩))) (fun h=>ABi ?_)
  ·rw [wk (by omega),AOo q fun a=>((a:Nat):Int)];simp
  ·obtain rfl:q=j:=by omega
   rfl
 ·subst he;dsimp only;refine AEk (by rw [ADj];omega) (AEk (by rw [ADj];omega) ?_);rw [Acs,Acs];refine ABn (AC9 (Ae0 (n:=n) (by omega) (by omega) hf (fun a ha=>AMn (by omega) hi) (fun a ha=>AMn (by omega) hj))) fun x hx=>?_;subst hx;refine ABn (AC9 (AU1 (by omega) (fun a b ha Aa=>hb _ _ (AMn (by omega) hi) (AMn (by omega) hj)) (by omega))) fun y hy=>ABi hy
theorem ATg {fuel n k:Nat} {F:Nat->Nat->Int} (hk:k<=n) (hn:n<=8):ADp fuel (AD5 n fun a=>det (a + 1) F) (k:Int)=some (det k F):=by
 apply ok_eq;unfold ADp;refine ACf (fun h=>?_) (fun h=>?_)
 ·obtain rfl:k=0:=by omega
  exact ⟨1,rfl,by simp [det]⟩
 ·obtain ⟨q,rfl⟩:∃ q,k=q + 1:=⟨k - 1,by omega⟩;refine AB5 (n:=q) (ACp (by omega)) (by rw [wk (by omega)];omega) (ABi rfl)
theorem Aa3 {fuel n:Nat} {F:Nat->Nat->Int} (Aa:1<=n) (hn:n<=8) (hb:∀ i j,i < n->j < n->(F i j).natAbs<=AGo) (hf:100 < fuel):AE0 fuel (tab n n F)=some (AD5 n fun a=>det (a + 1) F,true):=by
 apply ok_eq;unfold AE0;refine ABn (AC9 (Aay Aa (by omega) hf)) fun x hx=>?_;subst hx;dsimp only;refine ACf (fun h=>absurd h (by decide)) (fun _=>ABn (ACz (fun k s=>s=(AD5 k (fun a=>det (a + 1) F),((k:Nat):Int))/\k<=n) n (Q:=(· =AD5 n fun a=>det (a + 1) F)) ⟨rfl,Nat.zero_le _⟩ (by omega) fun k s hk hI=>?_) fun e he=>ABi (by rw [he]));obtain ⟨rfl,hkn⟩:=hI;unfold AIc;dsimp only;refine ACf (fun h=>?_) (fun h=>ABi ?_)
 ·have hk':k < n:=by omega
  refine ABn (AC9 (Ai8 (by omega) hf)) fun r hr=>?_;subst hr;refine ABn (AC9 (Ai8 (by omega) hf)) fun c hc=>?_;subst hc;refine ABn (AC9 (Ae0 (n:=n) (by omega) (by omega) hf (fun a ha=>AMn (by omega) hk') (fun a ha=>AMn (by omega) hk'))) fun x hx=>?_;subst hx;refine ABn (AC9 (AU1 (by omega) (fun a b ha Ab=>hb _ _ (AMn (by omega) hk') (AMn (by omega) hk')) (by omega))) fun y hy=>?_;subst hy;refine AEk (by rw [ADj];omega) (ABi ⟨by omega,?_,by omega⟩);rw [show (det (k + 1) fun a b=>F (bro k k a) (bro k k b))=det (k + 1) F from ALb k F,wk (by omega),AOo k fun a=>det (a + 1) F];simp
 ·obtain rfl:k=n:=by omega
  rfl
theorem Acu (a b:Int):AQj a b<=0↔a<=b:=by unfold AQj;split <;> (try split) <;> omega
theorem AZa {n j i l:Nat} {F:Nat->Nat->Int} (hn:n<=8) (hi:i < n) (hl:l < n) (hj:j < n) (hb:∀ i j,i < n->j < n->(F i j).natAbs<=AGo):(Mn j F i l).natAbs<=dBd AGo 9:=by
 have e:Mn j F i l=Mn j (fun a b=>if a < n/\b < n then F a b else 0) i l:=by
   unfold Mn
   refine AC6 fun a b ha Aa=>?_
   dsimp only
   rw [if_pos ⟨AMn (by omega) hi,AMn (by omega) hl⟩]
 rw [e];refine Nat.le_trans (Ag5 (m:=AGo) (fun a b=>?_) i l) (AO5 (by decide) (by omega));split
 ·next h=>exact hb a b h.1 h.2
 ·exact Nat.zero_le _
theorem ASu {n k:Nat} {F:Nat->Nat->Int} (hn:n<=8) (hk:k<=n) (hb:∀ i j,i < n->j < n->(F i j).natAbs<=AGo):(det k F).natAbs<=dBd AGo 9:=by
 rcases Nat.eq_zero_or_pos k with h | h
 ·subst h;simp only [det];decide
 ·obtain ⟨q,rfl⟩:∃ q,k=q + 1:=⟨k - 1,by omega⟩;rw [<- ALb q F];exact AZa hn (by omega) (by omega) (by omega) hb
theorem Ar5 {fuel n i j:Nat} {F:Nat->Nat->Int} (hn:n<=8) (hi:i < n) (hj:j < n) (hb:∀ i j,i < n->j < n->(F i j).natAbs<=AGo) (hf:100 < fuel):AGf fuel (tab n n F) (AD5 n fun a=>det (a + 1) F) (i:Int) (j:Int)=some (decide (2 * ((Mn j F i j).natAbs:Int)<=det (j + 1) F)):=by
 apply ok_eq;unfold AGf;refine ABn (Q:=(· =2)) ⟨2,if_pos (by omega),rfl⟩ fun two h2=>?_;subst h2;refine ABn (AC9 (AY9 hn hi hj hb hf)) fun x hx=>?_;subst hx;refine ABn (AC9 (a:=((Mn j F i j).natAbs:Int)) rfl) fun y hy=>?_;subst hy;refine ABn (AC9 (AV5 Aiz (show (2:Int).natAbs<=dBd AGo (8 + 1) by decide) (by rw [Int.natAbs_natCast];exact AZa hn hi hj hj hb))) fun w hw=>?_;subst hw;rw [wk (by omega)];refine ABn (AC9 (ATg (k:=j + 1) (by omega) hn)) fun m hm=>?_;subst hm;refine ABn (AC9 (a:=AQj (2 * ((Mn j F i j).natAbs:Int)) (det (j + 1) F)) rfl) fun c hc=>ABi ?_;subst hc;exact decide_eq_decide.2 (Acu _ _)
theorem Ai9 {F:Nat->Nat->Int} {i j:Nat}:2 * ((Mn j F i j).natAbs:Int)<=det (j + 1) F↔SzF F i j:=by
 unfold SzF;omega
theorem psum_abs {f g:Nat->Int} {D:Nat}:∀ (n:Nat),(∀ a,a < n->(f a).natAbs<=D/\(g a).natAbs<=D)->(psum (fun a=>f a * g a) n).natAbs<=n * (D * D)
  | 0,_=>by simp [psum]
  | n + 1,h=>by
    have h1:=psum_abs n fun a ha=>h a (by omega)
    have h2:=Nat.mul_le_mul (h n (by omega)).1 (h n (by omega)).2
    rw [<- Int.natAbs_mul] at h2
    have e:(n + 1) * (D * D)=n * (D * D) + D * D:=by rw [Nat.add_mul,Nat.one_mul]
    simp only [psum]
    omega
theorem Awm {fuel n D:Nat} {f g:Nat->Int} (hn:n<=16) (hD:16 * (D * D) < AEo) (hb:∀ a,a < n->(f a).natAbs<=D/\(g a).natAbs<=D) (hf:100 < fuel):AHo fuel (AD5 n f) (AD5 n g)=some (psum (fun a=>f a * g a) n):=by
 apply ok_eq;unfold AHo;refine ABn (ACz (fun k s=>s=(((k:Nat):Int),psum (fun a=>f a * g a) k)/\k<=n) n (Q:=(· =psum (fun a=>f a * g a) n)) ⟨rfl,Nat.zero_le _⟩ (by omega) fun k s hk hI=>?_) fun e he=>ABi he;obtain ⟨rfl,hkn⟩:=hI;unfold AJx;dsimp only;rw [ADj];refine ACf (fun h=>?_) (fun h=>ABi ?_)
 ·have hk':k < n:=by omega
  have h1:=psum_abs k fun a ha=>hb a (by omega);have h2:=Nat.mul_le_mul (hb k hk').1 (hb k hk').2;have h3:k * (D * D)<=16 * (D * D):=Nat.mul_le_mul_right _ (by omega);have h4:1 * (D * D)<=16 * (D * D):=Nat.mul_le_mul_right _ (by omega);refine AB5 (ACp hk') rfl (AB5 (ACp hk') rfl (ABn (Q:=(· =f k * g k)) ⟨_,if_pos (by omega),rfl⟩ fun x hx=>?_));subst hx;refine ABn (Q:=(· =psum (fun a=>f a * g a) k + f k * g k)) ⟨_,if_pos ⟨by omega,by rw [Int.natAbs_mul];omega⟩,rfl⟩ fun y hy=>ABi ⟨by omega,?_,by omega⟩;subst hy;rw [wk (by omega)];simp [psum]
 ·obtain rfl:k=n:=by omega
  rfl
theorem AZb {fuel n:Nat} {F:Nat->Nat->Int} (hn:1<=n) (Ad:n<=16) (hf:100 < fuel):ADx fuel (tab n n F)=some ((n:Int),(n:Int),true):=by
 apply ok_eq;unfold ADx;rw [ADf];refine ABn (Q:=fun ex=>match ex with | .inl _=>False | .inr _=>True) (ACf (fun h=>by omega) fun h=>ACf (fun h2=>by omega) fun h2=>ABi trivial) fun ex hex=>?_
 cases ex with
 | inl e=>exact hex.elim
 | inr u=>
   dsimp only
   refine ABn (ACz (fun i (s:Int)=>s=i) n (Q:=fun ex=>match ex with | .inl _=>False | .inr _=>True) rfl (by omega) fun i s hi hI=>?_) fun ex hex=>?_
   · subst hI
     unfold AGv
     rw [ADf]
     refine ACf (fun h=>AB5 (ADg (by omega)) rfl ?_) fun h=>ABi trivial
     rw [ADj]
     refine ACf (fun h2=>by omega) fun h2=>ACf (fun h3=>by omega) fun h3=>AB5 (n:=0) (ADg (by omega)) rfl (ACf (fun h4=>?_) fun h4=>ABi ⟨by omega,wk (by omega)⟩)
     rw [ADj] at h4;omega
   · cases ex with
     | inl e=>exact hex.elim
     | inr u=>exact AB5 (n:=0) (ADg (by omega)) rfl (ABi (by rw [ADj]))
theorem AMo {r c:Nat} {F G:Nat->Nat->Int} (h:∀ i j,i < r->j < c->F i j=G i j):tab r c F=tab r c G:=by
 rw [ANn,ANn];exact ACw fun i hi=>ACw fun j hj=>h i j hi hj
def trS (F:Nat->Nat->Int) (i j r c:Nat):Int:=if c < i∨c=i/\r < j then F c r else 0
theorem Aja {fuel n:Nat} {F:Nat->Nat->Int} (hn:1<=n) (Ad:n<=16) (hf:100 < fuel):AEf fuel (tab n n F)=some (tab n n (trF F),true):=by
 apply ok_eq;unfold AEf;refine ABn (AC9 (AZb hn Ad hf)) fun x hx=>?_;subst hx;dsimp only;refine ACf (fun h=>absurd h (by decide)) fun _=>ABn (AC9 (AXf (by omega) (by omega) (by omega))) fun O hO=>?_;subst hO;refine ABn (ACz (fun i s=>s=(((i:Nat):Int),tab n n (trS F i 0))/\i<=n) n (Q:=(· =tab n n (trF F))) ⟨?_,Nat.zero_le _⟩ (by omega) fun i s hi hI=>?_) fun e he=>ABi (by rw [he])
 ·rw [AHs n (0:Int),AHs];refine congrArg (Prod.mk (0:Int)) ?_;rw [ANn];exact ACw fun r _=>ACw fun c _=>by unfold trS;rw [if_neg (by omega)]
 ·obtain ⟨rfl,hin⟩:=hI;unfold AHg;dsimp only;rw [ADf];refine ACf (fun h=>?_) (fun h=>ABi ?_)
  ·have hi':i < n:=by omega
   refine AB5 (ADg hi') rfl (ABn (ACz (fun j s=>s=(((j:Nat):Int),tab n n (trS F i j))/\j<=n) n (Q:=(· =tab n n (trS F (i + 1) 0))) ⟨rfl,Nat.zero_le _⟩ (by omega) fun j s hj hJ=>?_) fun e he=>ABi ⟨by omega,by rw [wk (by omega),he];simp,by omega⟩);obtain ⟨rfl,hjn⟩:=hJ;unfold AHf;dsimp only;rw [ADj];refine ACf (fun h2=>?_) (fun h2=>ABi ?_)
   ·have hj':j < n:=by omega
    refine AB5 (ADg hj') rfl (AB5 (ADg hi') rfl (AB5 (ACp hj') rfl (ABn (AC9 (a:=F i j) rfl) fun y hy=>AB5 (ACp hi') rfl (ABi ⟨by omega,?_,by omega⟩))));subst hy;rw [wk (by omega),Acg];refine Prod.ext (by dsimp only;omega) (AMo fun r c hr hc=>?_);rw [ACq];unfold trS;by_cases h3:r=j
    ·rw [if_pos h3];by_cases h4:c=i
     ·rw [if_pos h4,if_pos (by omega),h3,h4]
     ·rw [if_neg h4];by_cases h5:c < i
      ·rw [if_pos (by omega),if_pos (by omega),h3]
      ·rw [if_neg (by omega),if_neg (by omega)]
    ·rw [if_neg h3];by_cases h5:c < i∨c=i/\r < j
     ·rw [if_pos h5,if_pos (by omega)]
     ·rw [if_neg h5,if_neg (by omega)]
   ·refine AMo fun r c hr hc=>?_;unfold trS;by_cases h5:c < i + 1
    ·rw [if_pos (by omega),if_pos (by omega)]
    ·rw [if_neg (by omega),if_neg (by omega)]
  ·refine AMo fun r c hr hc=>?_;unfold trS trF;rw [if_pos (by omega)]
def muS (H:Nat->Nat->Int) (i j r c:Nat):Int:=if r < i∨r=i/\c < j then H r c else 0
theorem Ao1 {fuel n D:Nat} {F G:Nat->Nat->Int} (hn:1<=n) (Ab:n<=16) (hD:16 * (D * D) < AEo) (hF:∀ i j,i < n->j < n->(F i j).natAbs<=D) (hG:∀ i j,i < n->j < n->(G i j).natAbs<=D) (hf:100 < fuel):AHp fuel (tab n n F) (tab n n G)=some (tab n n (AE1 n F G),true):=by
 apply ok_eq;unfold AHp;refine ABn (AC9 (AZb hn Ab hf)) fun x hx=>?_;subst hx;dsimp only;refine ABn (AC9 (Aja hn Ab hf)) fun x hx=>?_;subst hx;dsimp only;rw [ADf,ADf];refine ABn (Q:=fun ex=>match ex with | .inl _=>False | .inr _=>True) (ACf (fun h=>absurd h (by decide)) fun _=>ACf (fun h=>absurd h (by decide)) fun _=>ACf (fun h=>absurd rfl h) fun _=>ABi trivial) fun ex hex=>?_
 cases ex with
 | inl e=>exact hex.elim
 | inr u=>
   dsimp only
   rw [ADf]
   refine ABn (AC9 (AXf (by omega) (by omega) (by omega))) fun O hO=>?_
   subst hO
   refine ABn (ACz (fun i s=>s=(((i:Nat):Int),tab n n (muS (AE1 n F G) i 0))/\i<=n) n (Q:=(· =tab n n (AE1 n F G))) ⟨?_,Nat.zero_le _⟩ (by omega) fun i s hi hI=>?_) fun e he=>ABi (by rw [he])
   · rw [AHs n (0:Int),AHs]
     refine congrArg (Prod.mk (0:Int)) ?_
     rw [ANn]
     exact ACw fun r _=>ACw fun c _=>by unfold muS;rw [if_neg (by omega)]
   · obtain ⟨rfl,hin⟩:=hI
     unfold AJz
     dsimp only
     rw [ADf]
     refine ACf (fun h=>?_) (fun h=>ABi ?_)
     · have hi':i < n:=by omega
       refine ABn (ACz (fun j s=>s=(((j:Nat):Int),tab n n (muS (AE1 n F G) i j))/\j<=n) n (Q:=(· =tab n n (muS (AE1 n F G) (i + 1) 0))) ⟨rfl,Nat.zero_le _⟩ (by omega) fun j s hj hJ=>?_) fun e he=>ABi ⟨by omega,by rw [wk (by omega),he];simp,by omega⟩
       obtain ⟨rfl,hjn⟩:=hJ
       unfold AJy
       dsimp only
       rw [ADf]
       refine ACf (fun h2=>?_) (fun h2=>ABi ?_)
       · have hj':j < n:=by omega
         refine AB5 (ADg hi') rfl (AB5 (ADg hi') rfl (AB5 (ADg hj') rfl (ABn (AC9 (Awm (D:=D) Ab hD (fun a ha=>⟨hF i a hi' ha,hG a j ha hj'⟩) hf)) fun y hy=>AB5 (ACp hj') rfl (ABi ⟨by omega,?_,by omega⟩))))
         subst hy
         rw [wk (by omega),Acg]
         refine Prod.ext (by dsimp only;omega) (AMo fun r c hr hc=>?_)
         rw [ACq]
         unfold muS
         by_cases h3:r=i
         · rw [if_pos h3]
           by_cases h4:c=j
           · rw [if_pos h4,if_pos (by omega),h3,h4];rfl
           · rw [if_neg h4]
             by_cases h5:c < j
             · rw [if_pos (by omega),if_pos (by omega),h3]
             · rw [if_neg (by omega),if_neg (by omega)]
         · rw [if_neg h3]
           by_cases h5:r < i
           · rw [if_pos (by omega),if_pos (by omega)]
           · rw [if_neg (by omega),if_neg (by omega)]
       · refine AMo fun r c hr hc=>?_
         unfold muS
         by_cases h5:r < i + 1
         · rw [if_pos (by omega),if_pos (by omega)]
         · rw [if_neg (by omega),if_neg (by omega)]
     · refine AMo fun r c hr hc=>?_
       unfold muS
       rw [if_pos (by omega)]
theorem Ajb (a b:Int):AQj a b=0↔a=b:=by unfold AQj;split <;> (try split) <;> omega
theorem Atp {fuel n:Nat} {F:Nat->Nat->Int} (Ae:n<=16) (hf:100 < fuel):Ok (AEg fuel (tab n n F)) fun r=>r=true↔AKd n F:=by
 unfold AEg;refine ABn (ACz (fun i s=>s=((i:Nat):Int)/\i<=n/\ ∀ a b,b < a->a < i->F a b=F b a) n (Q:=fun ex=>match ex with | .inl e=>e=false/\¬ AKd n F | .inr _=>AKd n F) ⟨rfl,Nat.zero_le _,fun a b h1 h2=>by omega⟩ (by omega) fun i s hi hI=>?_) fun ex hex=>?_
 ·obtain ⟨rfl,hin,hs⟩:=hI;unfold AHi;rw [ADf];refine ACf (fun h=>?_) (fun h=>ABi ?_)
  ·have hi':i < n:=by omega
   refine ABn (ACz (fun j s=>s=((j:Nat):Int)/\j<=i/\ ∀ b,b < j->F i b=F b i) i (Q:=fun ex=>match ex with | .inl e=>e=false/\¬ AKd n F | .inr _=> ∀ b,b < i->F i b=F b i) ⟨rfl,Nat.zero_le _,fun b h1=>by omega⟩ (by omega) fun j s hj hJ=>?_) fun ex hex=>?_
   ·obtain ⟨rfl,hji,hb⟩:=hJ;unfold AHh;refine ACf (fun h2=>?_) (fun h2=>ABi ?_)
    ·have hj':j < i:=by omega
     refine AB5 (ADg hi') rfl (AB5 (ACp (by omega)) rfl (AB5 (ADg (by omega)) rfl (AB5 (ACp hi') rfl (ABn (AC9 (a:=AQj (F i j) (F j i)) rfl) fun c hc=>?_))));subst hc;refine ACf (fun h3=>ABi ⟨rfl,fun h4=>h3 ((Ajb _ _).2 (h4 i j hi' (by omega)))⟩) (fun h3=>ABi ⟨by omega,by rw [wk (by omega)];simp,by omega,fun b Af=>?_⟩);rcases Nat.lt_or_ge b j with h4 | h4
     ·exact hb b h4
     ·obtain rfl:b=j:=by omega
      exact (Ajb _ _).1 (Classical.not_not.1 h3)
    ·obtain rfl:j=i:=by omega
     exact hb
   ·cases ex with
    | inl e=>exact ABi hex
    | inr u=>exact ABi ⟨by omega,by rw [wk (by omega)];simp,by omega,fun a b h1 h2=>by
        rcases Nat.lt_or_ge a i with h4 | h4
        · exact hs a b h1 h4
        · obtain rfl:a=i:=by omega
          exact hex b h1⟩
  ·obtain rfl:i=n:=by omega
   intro a b ha hb;rcases Nat.lt_trichotomy a b with h1 | h1 | h1
   ·exact (hs b a h1 hb).symm
   ·rw [h1]
   ·exact hs a b h1 ha
 ·cases ex with
  | inl e=>obtain ⟨rfl,h⟩:=hex;exact ABi ⟨fun h1=>Bool.noConfusion h1,fun h1=>absurd h1 h⟩
  | inr u=>exact ABi ⟨fun _=>hex,fun _=>rfl⟩
theorem Ar6 {fuel n D:Nat} {F G:Nat->Nat->Int} (hn:1<=n) (Aa:n<=16) (hD:16 * (D * D) < AEo) (hF:∀ i j,i < n->j < n->(F i j).natAbs<=D) (hG:∀ i j,i < n->j < n->(G i j).natAbs<=D) (hH:∀ i j,i < n->j < n->(AE1 n (trF G) F i j).natAbs<=D) (hf:100 < fuel):AEh fuel (tab n n F) (tab n n G)=some (tab n n (AE1 n (AE1 n (trF G) F) G)):=by
 apply ok_eq;unfold AEh;refine ABn (AC9 (Aja hn Aa hf)) fun x hx=>?_;subst hx;dsimp only
 have pr:∀ {F G:Nat->Nat->Int},(∀ i j,i < n->j < n->(F i j).natAbs<=D)->(∀ i j,i < n->j < n->(G i j).natAbs<=D)->Ok (ADo fuel (tab n n F) (tab n n G)) (· =tab n n (AE1 n F G)):=fun {F G} hF hG=>by
   unfold ADo
   refine ABn (AC9 (Ao1 hn Aa hD hF hG hf)) fun x hx=>?_
   subst hx
   exact ABi rfl
 refine ABn (pr (fun i j hi hj=>hG j i hj hi) hF) fun x hx=>?_;subst hx;refine ABn (pr hH hG) fun y hy=>ABi hy
theorem Ajc (a:Int):AG6 a<=0↔a<=0:=by unfold AG6;split <;> (try split) <;> omega
theorem Awn {fuel n:Nat} {F:Nat->Nat->Int} (Ae:1<=n) (hn:n<=8) (hb:∀ i j,i < n->j < n->(F i j).natAbs<=AGo) (hf:100 < fuel):Ok (AFm fuel (tab n n F)) fun r=>r=true↔AKd n F/\ALq n F:=by
 unfold AFm;refine ABn (AC9 (Aa3 Ae hn hb hf)) fun x hx=>?_;subst hx;dsimp only;refine ABn (Q:=fun ex=>match ex with | .inl e=>e=false/\¬ AKd n F | .inr _=>AKd n F) (ACf (fun h=>absurd h (by decide)) fun _=>ABn (Atp (by omega) hf) fun r hr=>?_) fun ex hex=>?_
 ·refine ACf (fun h=>ABi ⟨rfl,fun h1=>?_⟩) (fun h=>ABi (hr.1 ?_))
  ·rw [hr.2 h1] at h;exact absurd h (by decide)
  ·cases r
   ·exact absurd rfl h
   ·rfl
 ·cases ex with
  | inl e=>obtain ⟨rfl,h⟩:=hex;exact ABi ⟨fun h1=>Bool.noConfusion h1,fun h1=>absurd h1.1 h⟩
  | inr u=>
    dsimp only at hex ⊢
    have h0:∀ k,k<=0->0 < det k F:=fun k hk=>by
      obtain rfl:k=0:=by omega
      simp [det]
    refine ABn (ACz (fun i s=>s=((i:Nat):Int)/\i<=n/\ ∀ k,k<=i->0 < det k F) n (Q:=fun ex=>match ex with | .inl e=>e=false/\¬ ALq n F | .inr _=>ALq n F) ⟨rfl,Nat.zero_le _,h0⟩ (by omega) fun i s hi hI=>?_) fun ex Ad=>?_
    · obtain ⟨rfl,hin,hp⟩:=hI
      unfold AH5
      rw [ADj]
      refine ACf (fun h=>?_) (fun h=>ABi ?_)
      · have hi':i < n:=by omega
        refine AB5 (ACp hi') rfl (ABn (AC9 (a:=AG6 (det (i + 1) F)) rfl) fun c hc=>?_)
        subst hc
        refine ACf (fun h3=>ABi ⟨rfl,fun h4=>?_⟩) (fun h3=>ABi ⟨by omega,by rw [wk (by omega)];simp,by omega,fun k hk=>?_⟩)
        · have:=h4 (i + 1) (by omega);have:=(Ajc _).1 h3;omega
        · rcases Nat.lt_or_ge k (i + 1) with h4 | h4
          · exact hp k (by omega)
          · obtain rfl:k=i + 1:=by omega
            rw [Ajc] at h3;omega
      · obtain rfl:i=n:=by omega
        exact hp
    · cases ex with
      | inl e=>obtain ⟨rfl,h⟩:=Ad;exact ABi ⟨fun h1=>Bool.noConfusion h1,fun h1=>absurd h1.2 h⟩
      | inr u=>exact ABi ⟨fun _=>⟨hex,Ad⟩,fun _=>rfl⟩
theorem AZc {fuel n:Nat} {F:Nat->Nat->Int} (Ac:1<=n) (hn:n<=8) (hb:∀ i j,i < n->j < n->(F i j).natAbs<=AGo) (hf:100 < fuel):Ok (AEs fuel (tab n n F)) fun r=>r=0↔AKd n F/\ALq n F:=by
 unfold AEs;refine ABn (AC9 (Aay Ac (by omega) hf)) fun x hx=>?_;subst hx;dsimp only;refine ACf (fun h=>absurd h (by decide)) fun _=>ACf (fun h=>by omega) fun _=>ABn (Atp (by omega) hf) fun r hr=>ACf (fun h=>ABi ⟨fun h1=>by omega,fun h1=>?_⟩) fun h=>ABn (Awn Ac hn hb hf) fun q hq=>ACf (fun h2=>ABi ⟨fun h1=>by omega,fun h1=>?_⟩) fun h2=>ABi ⟨fun _=>hq.1 ?_,fun _=>rfl⟩
 ·rw [hr.2 h1.1] at h;exact absurd h (by decide)
 ·rw [hq.2 h1] at h2;exact absurd h2 (by decide)
 ·cases q
  ·exact absurd rfl h2
  ·rfl
theorem Ar7 {fuel n:Nat} {F:Nat->Nat->Int} (hn:n<=8) (hb:∀ i j,i < n->j < n->(F i j).natAbs<=AGo) (hf:100 < fuel):AGg fuel (tab n n F)=some (decide (det n F<=10000)):=by
 apply ok_eq;unfold AGg;refine ABn (AC9 (AU1 hn hb (by omega))) fun x hx=>?_;subst hx;refine ABn (Q:=(· =10000)) ⟨10000,if_pos (by omega),rfl⟩ fun y hy=>?_;subst hy;refine ABn (AC9 (a:=AQj (det n F) 10000) rfl) fun c hc=>ABi ?_;subst hc;exact decide_eq_decide.2 (Acu _ _)
def idS (i r c:Nat):Int:=if r=c/\r < i then 1 else 0
theorem Ajd {fuel n:Nat} (hn:1<=n) (Ae:n<=16) (hf:100 < fuel):AEr fuel (n:Int)=some (tab n n dl,true):=by
 apply ok_eq;unfold AEr;refine ABn (Q:=fun ex=>match ex with | .inl _=>False | .inr _=>True) (ACf (fun h=>by omega) fun _=>ACf (fun h=>by omega) fun _=>ABi trivial) fun ex hex=>?_
 cases ex with
 | inl e=>exact hex.elim
 | inr u=>
   dsimp only
   refine ABn (AC9 (AXf (by omega) (by omega) (by omega))) fun O hO=>?_
   have Ab:O=tab n n (idS 0):=by
     rw [hO,AHs n (0:Int),AHs,ANn]
     exact ACw fun r _=>ACw fun c _=>by unfold idS;rw [if_neg (by omega)]
   have hlen:O.length=n:=by rw [Ab,ADf]
   refine ABn (ACz (fun i s=>s=(((i:Nat):Int),tab n n (idS i))/\i<=n) n (Q:=(· =tab n n dl)) ⟨by rw [Ab];rfl,Nat.zero_le _⟩ (by omega) fun i s hi hI=>?_) fun e he=>ABi (by rw [he])
   obtain ⟨rfl,hin⟩:=hI
   unfold AH4
   dsimp only
   rw [hlen]
   refine ACf (fun h=>?_) (fun h=>ABi ?_)
   · have hi':i < n:=by omega
     refine AB5 (ADg hi') rfl (ABn (Q:=(· =1)) ⟨1,if_pos (by omega),rfl⟩ fun y hy=>AB5 (ACp hi') rfl (ABi ⟨by omega,?_,by omega⟩))
     subst hy
     rw [wk (by omega),Acg]
     refine Prod.ext (by dsimp only;omega) (AMo fun r c hr hc=>?_)
     rw [ACq]
     unfold idS
     by_cases h3:r=i
     · rw [if_pos h3]
       by_cases h4:c=i
       · rw [if_pos h4,if_pos (by omega)]
       · rw [if_neg h4,if_neg (by omega),if_neg (by omega)]
     · rw [if_neg h3]
       by_cases h5:r=c/\r < i
       · rw [if_pos h5,if_pos (by omega)]
       · rw [if_neg h5,if_neg (by omega)]
   · refine AMo fun r c hr hc=>?_
     unfold idS dl
     by_cases h5:r=c
     · rw [if_pos (by omega),if_pos h5]
     · rw [if_neg (by omega),if_neg h5]
def toS (n:Nat) (F:Nat->Nat->Int) (i:Nat):List (List Int):=AD5 n fun r=>if r < i then AD5 n (F r) else []
def toR (n:Nat) (F:Nat->Nat->Int) (i j:Nat):List (List Int):=AD5 n fun r=>if r < i then AD5 n (F r) else if r=i then AD5 n (fun c=>if c < j then F i c else 0) else []
theorem Awp {fuel n:Nat} {F:Nat->Nat->Int} (hn:1<=n) (Ae:n<=16) (hb:∀ i j,i < n->j < n->(F i j).natAbs < 9223372036854775808) (hf:100 < fuel):AF0 fuel (tab n n F)=some (tab n n F,true):=by
 apply ok_eq;unfold AF0;refine ABn (AC9 (AZb hn Ae hf)) fun x hx=>?_;subst hx;dsimp only;refine ACf (fun h=>absurd h (by decide)) fun _=>AEk (by omega) (ABn (ACz (fun i s=>s=(((i:Nat):Int),toS n F i)/\i<=n) n (Q:=fun ex=>match ex with | .inl _=>False | .inr e=>e=tab n n F) ⟨?_,Nat.zero_le _⟩ (by omega) fun i s hi hI=>?_) fun ex hex=>?_)
 ·rw [Int.toNat_natCast,AHs];exact congrArg (Prod.mk (0:Int)) (ACw fun r _=>by rw [if_neg (by omega)])
 ·obtain ⟨rfl,hin⟩:=hI;unfold AIr;dsimp only;rw [List.length_replicate,Int.toNat_natCast];refine ACf (fun h=>AEk (by omega) ?_) (fun h=>ABi ?_)
  ·have hi':i < n:=by omega
   have e0:sI (toS n F i) (i:Int) (List.replicate n (0:Int))=toR n F i 0:=by
     rw [ADv];unfold toS;rw [AE6]
     refine ACw fun r _=>?_
     by_cases h1:r=i
     · rw [if_pos h1,if_neg (by omega),if_pos h1,AHs];exact ACw fun c _=>by rw [if_neg (by omega)]
     · rw [if_neg h1]
       by_cases h2:r < i
       · rw [if_pos h2,if_pos h2]
       · rw [if_neg h2,if_neg h2,if_neg h1]
   refine AB5 (n:=i) (ACp hi') rfl ?_;rw [e0];refine AB5 (n:=i) (ACp hi') rfl ?_;rw [if_neg (by omega),if_pos rfl];refine ABn (ACz (fun j s=>s=(((j:Nat):Int),toR n F i j)/\j<=n) n (Q:=fun ex=>match ex with | .inl _=>False | .inr e=>e=toS n F (i + 1)) ⟨rfl,Nat.zero_le _⟩ (by omega) fun j s hj hJ=>?_) fun ex hex=>?_
   ·obtain ⟨rfl,hjn⟩:=hJ;unfold AIq;dsimp only;rw [ADj];refine ACf (fun h2=>?_) (fun h2=>ABi ?_)
    ·have hj':j < n:=by omega
     refine AB5 (ADg hi') rfl (AB5 (ACp hj') rfl (ABn (Q:=(· =(F i j,true))) ⟨_,if_pos (hb i j hi' hj'),rfl⟩ fun y hy=>?_));subst hy;dsimp only;refine ACf (fun h=>absurd h (by decide)) fun _=>AB5 (n:=i) (ACp hi') rfl ?_;rw [if_neg (by omega),if_pos rfl];refine AB5 (ACp hj') rfl (ABi ⟨by omega,?_,by omega⟩);rw [wk (by omega),ADv,ADv];refine Prod.ext (by dsimp only;omega) ?_;dsimp only;unfold toR;rw [AE6,AE6];refine ACw fun r _=>?_;by_cases h1:r=i
     ·rw [if_pos h1,if_neg (by omega),if_pos h1];refine ACw fun c _=>?_;by_cases h3:c=j
      ·rw [if_pos h3,if_pos (by omega),h3]
      ·rw [if_neg h3];by_cases h4:c < j
       ·rw [if_pos h4,if_pos (by omega)]
       ·rw [if_neg h4,if_neg (by omega)]
     ·rw [if_neg h1,if_neg h1,if_neg h1]
    ·refine ACw fun r _=>?_;by_cases h1:r < i
     ·rw [if_pos h1,if_pos (by omega)]
     ·rw [if_neg h1];by_cases h3:r=i
      ·rw [if_pos h3,if_pos (by omega),h3];exact ACw fun c hc=>by rw [if_pos (by omega)]
      ·rw [if_neg h3,if_neg (by omega)]
   ·cases ex with
    | inl e=>exact hex.elim
    | inr e=>exact ABi ⟨by omega,by rw [wk (by omega),hex];simp,by omega⟩
  ·refine ACw fun r hr=>?_;rw [if_pos (by omega)];rfl
 ·cases ex with
  | inl e=>exact hex.elim
  | inr e=>exact ABi (by rw [hex])
theorem AZd {S E:Type} {body:S->Option (S ⊕ E)} {Q:E->Prop} (I:S->Prop) (μ:S->Nat) (hs:∀ s,I s->Ok (body s) fun r=>match r with | .inl s'=>I s'/\μ s' < μ s | .inr e=>Q e):∀ {fuel:Nat} {s0:S},I s0->μ s0 < fuel->Ok (iter body fuel s0) Q:=by
  intro fuel;induction fuel with
  | zero=>intro s0 _ h;omega
  | succ f ih=>
    intro s0 h0 hf;obtain ⟨r,hr,hq⟩:=hs s0 h0;cases r with
    | inl s'=>
      obtain ⟨e,he,hQ⟩:=ih hq.1 (by have:=hq.2;omega);exact ⟨e,by simp [iter,hr,he],hQ⟩
    | inr e=>exact ⟨e,by simp [iter,hr],hq⟩
theorem Acv (a:Int):AG6 a=0↔a=0:=by unfold AG6;split <;> (try split) <;> omega
theorem Aje (a:Int):AG6 a < 0↔a < 0:=by unfold AG6;split <;> (try split) <;> omega
theorem Ao2 {fuel:Nat} {a b:Int} (ha:a.natAbs < AEo) (hb:b.natAbs < AEo) (h0:b≠0):AD8 fuel a b=some (a / b):=by
 apply ok_eq;unfold AD8;refine ABn (AC9 (a:=(a / b,a % b,true)) (if_pos ⟨ha,hb,h0⟩)) fun x hx=>?_;subst hx;exact ABi rfl
theorem Awq {fuel:Nat} {a b:Int} (ha:a.natAbs < AEo) (hb:b.natAbs < AEo) (h0:b≠0):AHn fuel a b=some (a % b):=by
 apply ok_eq;unfold AHn;refine ABn (AC9 (a:=(a / b,a % b,true)) (if_pos ⟨ha,hb,h0⟩)) fun x hx=>?_;subst hx;exact ABi rfl
theorem Awr {fuel:Nat} {a b:Int} (ha:a.natAbs < AEo) (hb:b.natAbs < AEo) (h0:b≠0) (hf:AEo < fuel):Ok (AHr fuel a b) fun g=>0 < g/\g ∣ a/\g ∣ b:=by
 unfold AHr;refine ABn (AC9 (a:=(a.natAbs:Int)) rfl) fun x hx=>ABn (AC9 (a:=(b.natAbs:Int)) rfl) fun y hy=>?_;subst hx;subst hy;refine ABn (AZd (fun s:Int × Int=>0<=s.1/\0<=s.2/\s.1.natAbs < AEo/\s.2.natAbs < AEo/\(0 < s.1∨0 < s.2)/\ ∀ d:Int,d ∣ s.1->d ∣ s.2->d ∣ a/\d ∣ b) (fun s=>s.2.natAbs) (Q:=fun g=>0 < g/\g ∣ a/\g ∣ b) (fun s hs=>?_) ⟨by omega,by omega,by omega,by omega,.inr (by omega),fun d h1 h2=>⟨Int.dvd_natAbs.1 h1,Int.dvd_natAbs.1 h2⟩⟩ (by dsimp only;omega)) fun g hg=>ABi hg;obtain ⟨u,v⟩:=s;obtain ⟨h1,h2,h3,h4,h5,h6⟩:=hs;unfold AJ0;dsimp only at h1 h2 h3 h4 h5 h6 ⊢;refine ABn (AC9 (a:=AG6 v) rfl) fun s hs=>?_;subst hs;refine ACf (fun hv=>?_) fun hv=>ABi ?_
 ·have Ab:v≠0:=fun h=>hv ((Acv v).2 h);refine ABn (AC9 (Awq h3 h4 Ab)) fun r hr=>ABi ?_;subst hr;have e1:=Int.emod_nonneg u Ab;have e2:=Int.emod_lt_of_pos u (show 0 < v by omega);refine ⟨⟨h2,e1,h4,by omega,.inl (by omega),fun d d1 d2=>h6 d ?_ d1⟩,by omega⟩;have:=Int.dvd_add d2 (Int.dvd_trans d1 ⟨u / v,rfl⟩);rwa [Int.emod_add_mul_ediv] at this
 ·have Ab:v=0:=by
    rcases Decidable.em (AG6 v=0) with h | h
    · exact (Acv v).1 h
    · exact absurd h hv
  subst Ab;exact ⟨by omega,h6 u (Int.dvd_refl u) ⟨0,by simp⟩⟩
def FrE (n d n' d':Int):Prop:=0 < d'/\n' * d=n * d'/\n'.natAbs<=n.natAbs/\d'.natAbs<=d.natAbs
theorem Atq {fuel:Nat} {a b:Int} (ha:a.natAbs < AEo) (hb:b.natAbs < AEo) (h0:b≠0) (hf:AEo < fuel):Ok (AF6 fuel a b) fun r=>r.2=true/\FrE a b r.1.1 r.1.2:=by
 unfold AF6;refine ABn (AC9 (a:=AG6 b) rfl) fun s hs=>?_;subst hs;refine ACf (fun h=>absurd ((Acv b).1 h) h0) fun _=>ABn (Q:=fun e:Int × Int=>0 < e.2/\e.1 * b=a * e.2/\e.1.natAbs=a.natAbs/\e.2.natAbs=b.natAbs) (ABn (AC9 (a:=AG6 b) rfl) fun s hs=>?_) fun e he=>?_
 ·subst hs;refine ACf (fun h=>?_) fun h=>ABi ⟨?_,rfl,rfl,rfl⟩
  ·have:=(Aje b).1 h;refine ABn (AC9 (a:= -a) rfl) fun x hx=>ABn (AC9 (a:= -b) rfl) fun y hy=>ABi ?_;subst hx;subst hy;exact ⟨by dsimp only;omega,by dsimp only;grind,by dsimp only;omega,by dsimp only;omega⟩
  ·have: ¬ b < 0:=fun h2=>h ((Aje b).2 h2);dsimp only;omega
 ·obtain ⟨u,v⟩:=e;obtain ⟨h1,h2,h3,h4⟩:=he;dsimp only at h1 h2 h3 h4 ⊢;refine ABn (Awr (a:=u) (b:=v) (by omega) (by omega) (by omega) hf) fun g hg=>?_;obtain ⟨g1,⟨u',rfl⟩,⟨v',rfl⟩⟩:=hg;have gn:g≠0:=by omega
  have hv':0 < v':=Int.pos_of_mul_pos_right h1 g1;have e1:(g * u').natAbs=g.natAbs * u'.natAbs:=Int.natAbs_mul _ _;have e2:(g * v').natAbs=g.natAbs * v'.natAbs:=Int.natAbs_mul _ _;have g2:1<=g.natAbs:=by omega
  have m1:=Nat.mul_le_mul_right u'.natAbs g2;have m2:=Nat.mul_le_mul_right v'.natAbs g2;have m3:=Nat.mul_le_mul_left g.natAbs (show 1<=v'.natAbs by omega);refine ABn (AC9 (Ao2 (by omega) (by omega) gn)) fun x hx=>ABn (AC9 (Ao2 (by omega) (by omega) gn)) fun y hy=>ABi ⟨rfl,?_⟩;subst hx;subst hy;rw [Int.mul_ediv_cancel_left _ gn,Int.mul_ediv_cancel_left _ gn];refine ⟨hv',?_,by dsimp only;omega,by dsimp only;omega⟩;have:g * (u' * b)=g * (a * v'):=by grind
  exact Int.eq_of_mul_eq_mul_left gn this
theorem Acw {fuel:Nat} {a b:Int} (ha:a.natAbs < AEo) (hb:b.natAbs < AEo) (h0:b≠0) (hf:AEo < fuel):Ok (ADr fuel a b) fun r=>FrE a b r.1 r.2:=by
 unfold ADr;refine ABn (Atq ha hb h0 hf) fun r hr=>?_;obtain ⟨⟨x,y⟩,c⟩:=r;obtain ⟨h1,h2⟩:=hr;dsimp only at h1 h2 ⊢;subst h1;exact ACf (fun h=>absurd h (by decide)) fun _=>ABi h2
theorem Au9 {fuel:Nat} {a b:Int} (ha:a.natAbs < AEo) (hb:b.natAbs < AEo) (h0:b≠0) (hf:AEo < fuel):Ok (AFn fuel a b) fun r=>FrE a b r.1 r.2:=by
 unfold AFn;exact ABn (Acw ha hb h0 hf) fun r hr=>ABi hr
theorem Ae8 {N D N' D':Int} (hD:0 < D) (hD':0 < D') (h:N * D'=N' * D):N / D=N' / D':=by
 rw [<- Int.mul_ediv_mul_of_pos_left N D hD',h,Int.mul_comm D D',Int.mul_ediv_mul_of_pos_left N' D' hD]
theorem Ava {fuel:Nat} {a b:Int} (hab:4 * (a.natAbs + b.natAbs) < AEo) (h0:0 < b) (hf:AEo < fuel):Ok (AFw fuel a b) fun r=>r=(2 * a + b) / (2 * b):=by
 have Ag:(1:Int).natAbs < AEo:=by
   have:(1:Int).natAbs=1:=rfl
   omega
 have Ah:(2:Int).natAbs < AEo:=by
   have:(2:Int).natAbs=2:=rfl
   omega
 unfold AFw;refine ABn (Q:=(· =(1,2))) ?_ fun hh he=>?_
 ·unfold AI1;exact ABn (Q:=(· =1)) ⟨1,if_pos (by omega),rfl⟩ fun x hx=>ABn (Q:=(· =2)) ⟨2,if_pos (by omega),rfl⟩ fun y hy=>ABi (by rw [hx,hy])
 subst he;dsimp only;refine ABn (Q:=fun r=>0 < r.2/\r.1 * (2 * b)=(2 * a + b) * r.2/\r.1.natAbs < AEo/\r.2.natAbs < AEo) ?_ fun r hr=>?_
 ·unfold AJd;refine ABn (Acw (by omega) (by omega) (by omega) hf) fun x hx=>ABn (Acw (a:=1) (b:=2) Ag Ah (by omega) hf) fun y hy=>?_;obtain ⟨x1,x2⟩:=x;obtain ⟨y1,y2⟩:=y;obtain ⟨a1,a2,a3,a4⟩:=hx;obtain ⟨b1,b2,b3,b4⟩:=hy;dsimp only at *;obtain rfl:y2=2:=by omega
  obtain rfl:y1=1:=by omega
  refine ABn (AC9 (a:=x1 * 2) (if_pos (by have:(2:Int).natAbs=2:=rfl;rw [this];omega))) fun u hu=>ABn (AC9 (a:=1 * x2) (if_pos (by have:(1:Int).natAbs=1:=rfl;rw [this];omega))) fun v hv=>?_;subst hu;subst hv;refine ABn (AC9 (a:=x1 * 2 + 1 * x2) (if_pos ⟨by omega,by omega⟩)) fun w hw=>ABn (AC9 (a:=x2 * 2) (if_pos (by have:(2:Int).natAbs=2:=rfl;rw [this];omega))) fun z hz=>?_;subst hw;subst hz;refine ABn (Atq (by omega) (by omega) (by omega) hf) fun r hr=>ABi ?_;obtain ⟨⟨r1,r2⟩,c⟩:=r;obtain ⟨-,c1,c2,c3,c4⟩:=hr;dsimp only at *;refine ⟨c1,?_,by omega,by omega⟩;have h1:x2 * (r1 * (2 * b))=x2 * ((2 * a + b) * r2):=by grind
  exact Int.eq_of_mul_eq_mul_left (show x2≠0 by omega) h1
 ·obtain ⟨r1,r2⟩:=r;obtain ⟨h1,h2,h3,h4⟩:=hr;dsimp only at *;unfold AIf;refine ABn (Q:=fun r=>r=(2 * a + b) / (2 * b)) (ABn (Acw h3 h4 (by omega) hf) fun x hx=>?_) fun z hz=>ABi hz;obtain ⟨x1,x2⟩:=x;obtain ⟨a1,a2,a3,a4⟩:=hx;dsimp only at *;refine ABn (AC9 (Ao2 (by omega) (by omega) (by omega))) fun q hq=>ABi ?_;subst hq;refine Ae8 a1 (by omega) ?_;have h5:r2 * (x1 * (2 * b))=r2 * ((2 * a + b) * x2):=by grind
  exact Int.eq_of_mul_eq_mul_left (show r2≠0 by omega) h5
end Go.Proofs.YtiegjkmfpcgjjaaGreatDoor
namespace Go.Proofs.YtiegjkmfpcgjjaaGreatDoor
open Go Go.QF
set_option maxRecDepth 100000
theorem Ae9:64 * (dBd AGo (8 + 1) * dBd AGo (8 + 1)) < AEo:=by decide
theorem Ao3 {fuel n j:Nat} {F:Nat->Nat->Int} (hn:n<=8) (hj:j + 1 < n) (hb:∀ i j,i < n->j < n->(F i j).natAbs<=AGo) (hf:100 < fuel):Ok (AF1 fuel (tab n n F) (AD5 n fun a=>det (a + 1) F) ((j + 1:Nat):Int)) fun r=>r=true↔LvF F j:=by
 show Ok _ fun r:Bool=>r=true↔3 * (det (j + 1) F * det (j + 1) F)<=4 * (det j F * det (j + 2) F + Mn j F (j + 1) j * Mn j F (j + 1) j);unfold AF1;have w1:w64 (((j + 1:Nat):Int) - 1)=(j:Int):=by rw [wk (by omega)];omega
 have w2:w64 (((j + 1:Nat):Int) + 1)=((j + 2:Nat):Int):=by rw [wk (by omega)];omega
 rw [w1,w2];have hD:=Ae9;have bl:(Mn j F (j + 1) j).natAbs<=dBd AGo (8 + 1):=AZa hn (by omega) (by omega) (by omega) hb;have b0:(det j F).natAbs<=dBd AGo (8 + 1):=ASu hn (by omega) hb;have b1:(det (j + 1) F).natAbs<=dBd AGo (8 + 1):=ASu hn (by omega) hb;have b2:(det (j + 2) F).natAbs<=dBd AGo (8 + 1):=ASu hn (by omega) hb;have p1:=Nat.mul_le_mul b0 b2;have p2:=Nat.mul_le_mul bl bl;have p3:=Nat.mul_le_mul b1 b1;have e1:=Int.natAbs_mul (det j F) (det (j + 2) F);have e2:=Int.natAbs_mul (Mn j F (j + 1) j) (Mn j F (j + 1) j);have e3:=Int.natAbs_mul (det (j + 1) F) (det (j + 1) F);refine ABn (AC9 (AY9 hn (by omega) (by omega) hb hf)) fun l hl=>?_;subst hl;refine ABn (Q:=(· =4)) ⟨4,if_pos (by omega),rfl⟩ fun x hx=>?_;subst hx;refine ABn (AC9 (ATg (by omega) hn)) fun x hx=>ABn (AC9 (ATg (by omega) hn)) fun y hy=>?_;subst hx;subst hy;refine ABn (AC9 (a:=det j F * det (j + 2) F) (if_pos (by omega))) fun x hx=>ABn (AC9 (a:=Mn j F (j + 1) j * Mn j F (j + 1) j) (if_pos (by omega))) fun y hy=>?_;subst hx;subst hy;generalize det j F * det (j + 2) F=P at *;generalize Mn j F (j + 1) j * Mn j F (j + 1) j=L at *;refine ABn (AC9 (a:=P + L) (if_pos (by omega))) fun x hx=>ABn (AC9 (a:=4 * x) (if_pos (by have:(4:Int).natAbs=4:=rfl;rw [this];omega))) fun y hy=>?_;subst hx;subst hy;refine ABn (Q:=(· =3)) ⟨3,if_pos (by omega),rfl⟩ fun x hx=>?_;subst hx;refine ABn (AC9 (ATg (by omega) hn)) fun x hx=>ABn (AC9 (ATg (by omega) hn)) fun y hy=>?_;subst hx;subst hy;refine ABn (AC9 (a:=det (j + 1) F * det (j + 1) F) (if_pos (by omega))) fun x hx=>?_;subst hx;generalize det (j + 1) F * det (j + 1) F=S at *;refine ABn (AC9 (a:=3 * S) (if_pos (by have:(3:Int).natAbs=3:=rfl;rw [this];omega))) fun x hx=>ABn (AC9 (a:=AQj (4 * (P + L)) x) rfl) fun c hc=>ABi ?_;subst hx;subst hc;rw [decide_eq_true_iff];unfold AQj;split <;> (try split) <;> omega
def AQp (A:Nat->Nat->Int) (i j:Nat):Int:= -((2 * Mn j A i j + det (j + 1) A) / (2 * det (j + 1) A))
def AUa (A:Nat->Nat->Int) (i j:Nat):Nat->Nat->Int:=ADe dl j fun q=>if q=i then AQp A i j else dl j q
def AU8 (A:Nat->Nat->Int) (i:Nat):Prop:= ∀ r l,l < r->r < i->SzF A r l
def AWt (A:Nat->Nat->Int) (i:Nat):Prop:= ∀ r,r + 1 < i->LvF A r
def Ao4 (n:Nat) (A:Nat->Nat->Int) (r:List (List Int) × Bool):Prop:=
  (r=([],false)/\AU8 A n/\AWt A n)∨
  (∃ i j,j < i/\i < n/\¬ SzF A i j/\AU8 A i/\(∀ l,l < i->j < l->SzF A i l)/\AWt A i/\r=(tab n n (AUa A i j),true))∨
  ∃ j,j + 1 < n/\¬ LvF A j/\AU8 A (j + 2)/\AWt A (j + 1)/\r=(tab n n (AFj dl (j + 1) j),true)
theorem Avb {fuel n:Nat} {A:Nat->Nat->Int} (Ai:1<=n) (hn:n<=8) (hp:ALq n A) (hb:∀ i j,i < n->j < n->(A i j).natAbs<=AGo) (hf:AEo < fuel):Ok (AG1 fuel (tab n n A)) (Ao4 n A):=by
 have Ac:100 < fuel:=Nat.lt_of_le_of_lt (by decide) hf;have hD:=Ae9;unfold AG1;refine ABn (AC9 (Aa3 Ai hn hb Ac)) fun x hx=>?_;subst hx;dsimp only;rw [ADf];refine ABn (AC9 (Ajd Ai (by omega) Ac)) fun x hx=>?_;subst hx;dsimp only;refine ABn (ACz (fun i s=>s=(((i:Nat):Int),tab n n dl)/\i<=n/\AU8 A i/\AWt A i) n (Q:=fun ex=>match ex with | .inl r=>Ao4 n A r | .inr _=>AU8 A n/\AWt A n) ⟨rfl,Nat.zero_le _,fun r l h1 h2=>by omega,fun r h=>by omega⟩ (by omega) fun i s hi hI=>?_) fun ex hex=>?_
 ·obtain ⟨rfl,hin,hsz,hlv⟩:=hI;unfold AJn;dsimp only;rw [ADf];refine ACf (fun h=>?_) (fun h=>ABi ?_)
  ·have hi':i < n:=by omega
   refine ABn (ACz (fun k s=>s=((i:Int) - 1 - k,tab n n dl)/\k<=i/\ ∀ l,l < i->i<=l + k->SzF A i l) i (Q:=fun ex=>match ex with | .inl r=>Ao4 n A r | .inr e=>e=tab n n dl/\ ∀ l,l < i->SzF A i l) ⟨by rw [wk (by omega)];simp,Nat.zero_le _,fun l h1 h2=>by omega⟩ (by omega) fun k s hk hK=>?_) fun ex hex=>?_
   ·obtain ⟨rfl,hki,hz⟩:=hK;unfold AJm;dsimp only;refine ACf (fun h2=>?_) (fun h2=>ABi ⟨rfl,fun l hl=>hz l hl (by omega)⟩);obtain ⟨j,hj⟩:∃ j:Nat,(i:Int) - 1 - k=j:=⟨i - 1 - k,by omega⟩;rw [hj];have hji:j < i:=by omega
    refine ABn (AC9 (Ar5 hn hi' (by omega) hb Ac)) fun b Ag=>?_;subst Ag;refine ACf (fun h3=>?_) (fun h3=>ABi ⟨by omega,?_,by omega,fun l h4 h5=>?_⟩)
    ·have hbad: ¬ SzF A i j:=fun h=>by rw [<- Ai9] at h;simp [h] at h3
     refine AB5 (ADg (by omega)) rfl (ABn (AC9 (AY9 hn hi' (by omega) hb Ac)) fun l hl=>?_);subst hl;rw [show w64 ((j:Int) + 1)=((j + 1:Nat):Int) by rw [wk (by omega)];omega];refine ABn (AC9 (ATg (by omega) hn)) fun d hd=>?_;subst hd;have bl:(Mn j A i j).natAbs<=dBd AGo (8 + 1):=AZa hn hi' (by omega) (by omega) hb;have b1:(det (j + 1) A).natAbs<=dBd AGo (8 + 1):=ASu hn (by omega) hb;have hd:=hp (j + 1) (by omega);have hDD:dBd AGo (8 + 1)<=dBd AGo (8 + 1) * dBd AGo (8 + 1):=Nat.le_mul_of_pos_left _ (by omega);refine ABn (Au9 (by omega) (by omega) (by omega) hf) fun q hq=>?_;obtain ⟨x,y⟩:=q;obtain ⟨q1,q2,q3,q4⟩:=hq;dsimp only at q1 q2 q3 q4 ⊢;refine ABn (Ava (by omega) q1 hf) fun m hm=>ABn (AC9 (a:= -m) rfl) fun c hc=>?_
     have Ap:c=AQp A i j:=by
       rw [hc,hm]
       unfold AQp
       congr 1
       refine Ae8 (by omega) (by omega) ?_
       grind
     clear hm hc;refine AB5 (ACp hi') rfl (ABi (.inr (.inl ⟨i,j,hji,hi',hbad,hsz,fun l h4 h5=>hz l h4 (by omega),hlv,?_⟩)));rw [ADv,ADv,AE6,Ap,show (AD5 n fun q=>if q=i then AQp A i j else dl j q)=(List.range n).map fun q=>if q=i then AQp A i j else dl j q from rfl,AHl];rfl
    ·rw [wk (by omega)];refine congrArg (fun z=>(z,tab n n dl)) ?_;omega
    ·have hgood:SzF A i j:=by rw [<- Ai9];simpa using h3
     rcases Nat.lt_or_ge (l + k) i with h6 | h6
     ·obtain rfl:l=j:=by omega
      exact hgood
     ·exact hz l h4 h6
   ·cases ex with
    | inl r=>exact ABi hex
    | inr e=>
      obtain ⟨rfl,hzi⟩:=hex
      have hsz':AU8 A (i + 1):=fun r l h1 h2=>by
        rcases Nat.lt_or_ge r i with h3 | h3
        · exact hsz r l h1 h3
        · obtain rfl:r=i:=by omega
          exact hzi l h1
      dsimp only
      have nx:w64 ((i:Int) + 1)=((i + 1:Nat):Int):=by rw [wk (by omega)];omega
      refine ACf (fun h4=>?_) (fun h4=>ABi ⟨by omega,by rw [nx],by omega,hsz',fun r hr=>by omega⟩)
      obtain ⟨j,rfl⟩:∃ j,i=j + 1:=⟨i - 1,by omega⟩
      refine ABn (Ao3 hn hi' hb Ac) fun b Ag=>?_
      refine ACf (fun h5=>?_) (fun h5=>ABi ⟨by omega,by rw [nx],by omega,hsz',fun r hr=>?_⟩)
      · have hbad: ¬ LvF A j:=fun h=>by rw [Ag.2 h] at h5;cases h5
        rw [show w64 (((j + 1:Nat):Int) - 1)=(j:Int) by rw [wk (by omega)];omega]
        refine AB5 (ADg (by omega)) rfl (AB5 (ADg hi') rfl (ABi (.inr (.inr ⟨j,hi',hbad,hsz',hlv,?_⟩))))
        rw [ADv,ADv,show AD5 n (dl j)=(List.range n).map (dl j) from rfl,show AD5 n (dl (j + 1))=(List.range n).map (dl (j + 1)) from rfl,AHl,AHl]
        rfl
      · have hgood:LvF A j:=Ag.1 (by simpa using h5)
        rcases Nat.lt_or_ge r j with h6 | h6
        · exact hlv r (by omega)
        · obtain rfl:r=j:=by omega
          exact hgood
  ·obtain rfl:i=n:=by omega
   exact ⟨hsz,hlv⟩
 ·cases ex with
  | inl r=>exact ABi hex
  | inr u=>exact ABi (.inl ⟨rfl,hex⟩)
end Go.Proofs.YtiegjkmfpcgjjaaGreatDoor
namespace Go.QF
open Go
theorem Afa (c:Int) (f:Nat->Int) (n:Nat):c * psum f n=psum (fun i=>c * f i) n:=(ADa c f n).symm
theorem Ahf (c:Int) (f:Nat->Int) (n:Nat):psum f n * c=psum (fun i=>f i * c) n:=by
 rw [Int.mul_comm,Afa];exact ABt fun k _=>Int.mul_comm _ _
section
variable {n K:Nat} {p:Int} {e f:Nat->Nat} {a b D D' S:Nat->Nat->Int}
theorem ARq {A B C:Nat->Nat->Int} (i j:Nat):AE1 n (AE1 n A B) C i j=AE1 n A (AE1 n B C) i j:=by
 unfold AE1;rw [ABt (g:=fun k=>psum (fun l=>A i l * B l k * C k j) n) fun k _=>Ahf _ _ _,AM5]
 exact ABt fun l _=>by
   rw [Afa]
   exact ABt fun k _=>by grind
end
end Go.QF
namespace Go.Proofs.YtiegjkmfpcgjjaaGreatDoor
open Go Go.QF
set_option maxRecDepth 100000
theorem Ao5 {S E:Type} {body:S->Option (S ⊕ E)} {Q:E->Prop} (I:Nat->S->Prop) (hs:∀ k s,I k s->Ok (body s) fun r=>match r with | .inl s'=> ∃ k',k' < k/\I k' s' | .inr e=>Q e):∀ {fuel k:Nat} {s0:S},I k s0->k < fuel->Ok (iter body fuel s0) Q:=by
  intro fuel;induction fuel with
  | zero=>intro k s0 _ h;omega
  | succ f ih=>
    intro k s0 h0 hf;obtain ⟨r,hr,hq⟩:=hs k s0 h0;cases r with
    | inl s'=>
      obtain ⟨k',h1,h2⟩:=hq;obtain ⟨e,he,hQ⟩:=ih h2 (by omega);exact ⟨e,by simp [iter,hr,he],hQ⟩
    | inr e=>exact ⟨e,by simp [iter,hr],hq⟩
theorem Afb {n i j s:Nat} {A:Nat->Nat->Int} (hj:j < i) (hi:i < n) (hs:s < n) (X:Nat->Int):psum (fun k=>X k * AUa A i j k s) n=X s + if s=i then AQp A i j * X j else 0:=by
 have h1:∀ k,X k * AUa A i j k s=X k * dl k s + (if k=j then (if s=i then AQp A i j * X j else 0) else 0):=fun k=>by
   unfold AUa
   rw [ACq]
   split
   · next h=>
     subst h
     split
     · next h2=>subst h2;unfold dl;rw [if_neg (by omega)];grind
     · simp
   · simp
 rw [ABt fun k _=>h1 k,AGh,Acd X hs,AM9 (a:=j) (by omega) fun k _ hk=>if_neg hk,if_pos rfl]
theorem Afc {n i j r s:Nat} {A:Nat->Nat->Int} (hj:j < i) (hi:i < n) (hr:r < n) (hs:s < n):AE1 n (AE1 n (trF (AUa A i j)) A) (AUa A i j) r s=AU6 A i j (AQp A i j) r s:=by
 have h2:∀ k,AE1 n (trF (AUa A i j)) A r k=A r k + if r=i then AQp A i j * A j k else 0:=fun k=>by
   show psum (fun l=>AUa A i j l r * A l k) n=_
   rw [ABt (g:=fun l=>A l k * AUa A i j l r) fun l _=>Int.mul_comm _ _]
   exact Afb hj hi hr fun l=>A l k
 show psum (fun k=>AE1 n (trF (AUa A i j)) A r k * AUa A i j k s) n=_;rw [Afb hj hi hs fun k=>AE1 n (trF (AUa A i j)) A r k];rw [h2,h2,AXj];split <;> split <;> first | (subst_vars;grind) | grind
theorem Acx (j k s:Nat):AFj dl (j + 1) j k s=dl (tau j k) s:=by
 rw [AKi];unfold tau;split
 ·next h=>subst h;rfl
 ·split <;> rfl
theorem Ajf (j k:Nat):tau j (tau j k)=k:=by unfold tau;split <;> (try split) <;> (try split) <;> omega
theorem Avc {j k n:Nat} (hj:j + 1 < n) (hk:k < n):tau j k < n:=by unfold tau;split <;> (try split) <;> omega
theorem Ajg {n j s:Nat} (hj:j + 1 < n) (hs:s < n) (X:Nat->Int):psum (fun k=>X k * AFj dl (j + 1) j k s) n=X (tau j s):=by
 rw [AM9 (a:=tau j s) (Avc hj hs) fun k hk hne=>?_]
 ·rw [Acx,Ajf];unfold dl;rw [if_pos rfl];simp
 ·rw [Acx];unfold dl;rw [if_neg (fun h=>hne (by rw [<- h,Ajf]))];simp
theorem Ajh {n j r s:Nat} {A:Nat->Nat->Int} (hj:j + 1 < n) (hr:r < n) (hs:s < n):AE1 n (AE1 n (trF (AFj dl (j + 1) j)) A) (AFj dl (j + 1) j) r s=swA A j r s:=by
 show psum (fun k=>AE1 n (trF (AFj dl (j + 1) j)) A r k * AFj dl (j + 1) j k s) n=_;rw [Ajg hj hs fun k=>AE1 n (trF (AFj dl (j + 1) j)) A r k];show psum (fun l=>AFj dl (j + 1) j l r * A l (tau j s)) n=_;rw [ABt (g:=fun l=>A l (tau j s) * AFj dl (j + 1) j l r) fun l _=>Int.mul_comm _ _];exact Ajg hj hr fun l=>A l (tau j s)
theorem ARr {n:Nat} {A A' B B':Nat->Nat->Int} {i j:Nat} (hA:∀ k,k < n->A i k=A' i k) (hB:∀ k,k < n->B k j=B' k j):AE1 n A B i j=AE1 n A' B' i j:=ABt fun k hk=>by rw [hA k hk,hB k hk]
theorem Ar8 {n:Nat} {T U:Nat->Nat->Int} (i j:Nat):trF (AE1 n T U) i j=AE1 n (trF U) (trF T) i j:=ABt fun k _=>Int.mul_comm _ _
def Ahg (n:Nat) (A0 T A:Nat->Nat->Int):Prop:= ∀ i j,i < n->j < n->A i j=AE1 n (trF T) (AE1 n A0 T) i j
theorem Aa4 {n:Nat} {A0 T A U B:Nat->Nat->Int} (H:Ahg n A0 T A) (K:∀ i j,i < n->j < n->AE1 n (AE1 n (trF U) A) U i j=B i j):Ahg n A0 (AE1 n T U) B:=fun i j hi hj=>by
  rw [<- K i j hi hj,ARq]
  have h1:AE1 n (trF U) (AE1 n A U) i j=AE1 n (trF U) (AE1 n (trF T) (AE1 n A0 (AE1 n T U))) i j:=by
    refine ARr (fun _ _=>rfl) fun k hk=>?_;rw [ARr (A':=AE1 n (trF T) (AE1 n A0 T)) (fun l hl=>H k l hk hl) (fun _ _=>rfl),ARq];refine ARr (fun _ _=>rfl) fun l hl=>?_;rw [ARq]
  rw [h1,<- ARq];exact ARr (fun k _=>(Ar8 i k).symm) fun _ _=>rfl
theorem Ar9 {n:Nat} {A:Nat->Nat->Int}:Ahg n A dl A:=fun i j hi hj=>by
  show _=psum (fun k=>dl k i * AE1 n A dl k j) n
  rw [ABt (g:=fun k=>AE1 n A dl k j * dl k i) fun k _=>Int.mul_comm _ _,Acd (fun k=>AE1 n A dl k j) hi]
  exact (Ag2 hj).symm
def dm9:Int:=9 ^ 8
def Asa:Int:=2 ^ 97
theorem Asb {n i t:Nat} {A:Nat->Nat->Int} (hn:n<=8) (h:Acr n dm9 A i t):∀ k,k < n->A k k<=Asa:=fun k hk=>by
  by_cases e:k=i
  · subst e
    have h1:=Aa1 (p:=(2 ^ 7 * (2 * dm9)) * (2 ^ 7 * (2 * dm9))) (q:=1) h.sym h.pos h.hi h.dm (by decide) (by decide) (fun l hl=>by
      have h2:=h.lamb l hl;have h3:(2:Int) ^ t * (2 * dm9)<=2 ^ 7 * (2 * dm9):=Int.mul_le_mul_of_nonneg_right (AXk (by have:=h.ht;omega)) (by decide);have h4:=h.pos (l + 1) (by have:=h.hi;omega);have h5:=Int.mul_le_mul_of_nonneg_right h3 (Int.le_of_lt h4);have h6:=ASt (x:=Mn l A k l) (y:=2 ^ 7 * (2 * dm9) * det (l + 1) A) (by omega) (by omega);rw [Int.one_mul];refine Int.le_trans h6 (Int.le_of_eq ?_);grind) k 0 (by omega)
    rw [ANg,show det 0 A=1 from rfl,Int.one_mul] at h1
    have h7:(1 + (k:Int) * ((2 ^ 7 * (2 * dm9)) * (2 ^ 7 * (2 * dm9)))) * (dm9 * 1)<=(1 + 7 * ((2 ^ 7 * (2 * dm9)) * (2 ^ 7 * (2 * dm9)))) * (dm9 * 1):=by
      refine Int.mul_le_mul_of_nonneg_right ?_ (by decide);have:=Int.mul_le_mul_of_nonneg_right (show (k:Int)<=7 by omega) (show (0:Int)<=(2 ^ 7 * (2 * dm9)) * (2 ^ 7 * (2 * dm9)) by decide);omega
    exact Int.le_trans h1 (Int.le_trans h7 (by decide))
  · exact Int.le_trans (h.rows k hk e) (by decide)
theorem Afd {n:Nat} {A:Nat->Nat->Int} {B:Int} (hs:AKd n A) (hp:ALq n A) (hB:∀ k,k < n->A k k<=B) {i j:Nat} (hi:i < n) (hj:j < n): -B<=A i j/\A i j<=B:=by
 have h1:=Aaz (k:=0) hs hp (Nat.zero_le _) hi hj;simp only [ANg] at h1;have p1:=Aa0 (k:=0) hs hp (Nat.zero_le _) hi;have p2:=Aa0 (k:=0) hs hp (Nat.zero_le _) hj;simp only [ANg] at p1 p2;have h2:=Int.mul_le_mul (hB i hi) (hB j hj) p2 (Int.le_trans p1 (hB i hi));exact Ai6 (Int.le_trans p1 (hB i hi)) (Int.le_trans h1 h2)
theorem Aji {n:Nat} {A:Nat->Nat->Int} {B:Int} (hs:AKd n A) (hp:ALq n A) (hB:∀ k,k < n->A k k<=B) {i j:Nat} (hi:i < n) (hj:j < n):(A i j).natAbs<=B.natAbs:=by
 have:=Afd hs hp hB hi hj;omega
def Aa5:Nat:=(2 ^ 240) ^ 5
theorem Afe:16 * (Aa5 * Aa5) < AEo:=by decide
def Aa6:Nat:=(2 ^ 220) ^ 5
theorem Aws {n:Nat} {A0 A T:Nat->Nat->Int} (hn:n<=8) (hE:∀ i j,(A0 i j).natAbs<=2 ^ 40) (hs:AKd n A0) (hp:ALq n A0) (H:Ahg n A0 T A) (hB:∀ k,k < n->A k k<=Asa) {k s:Nat} (hk:k < n) (hs2:s < n):(T k s).natAbs<=Aa6:=by
  have h1:=Ar0 hs hp (fun r=>T r s) hk
  have h2:bil n 0 A0 (fun r=>T r s) (fun r=>T r s)=A s s:=by
    rw [H s s hs2 hs2];show _=psum (fun i=>T i s * psum (fun j=>A0 i j * T j s) n) n;unfold bil;refine ABt fun i _=>?_;rw [<- ADa];exact ABt fun j _=>by rw [ANg];grind
  rw [h2] at h1
  have h3:(ALn n A0 k k).natAbs<=dBd (2 ^ 40) 9:=by
    refine Nat.le_trans (AXe (m:=2 ^ 40) fun i j=>?_) (AO5 (by decide) (by omega));rw [ACq]
    split
    · unfold dl;split <;> decide
    · exact hE i j
  have h4:ALn n A0 k k * A s s<=(dBd (2 ^ 40) 9:Nat) * Asa:=by
    have p0:0<=A s s:=by
      have:A s s=bil n 0 A0 (fun r=>T r s) (fun r=>T r s):=h2.symm;rw [this];exact AO7 hs hp _ n 0 (by omega)
    have b1:ALn n A0 k k<=(dBd (2 ^ 40) 9:Nat):=by omega
    have b2:=Int.mul_le_mul_of_nonneg_right b1 p0;have b3:=Int.mul_le_mul_of_nonneg_left (hB s hs2) (show (0:Int)<=(dBd (2 ^ 40) 9:Nat) by omega);omega
  have h5:((dBd (2 ^ 40) 9:Nat):Int) * Asa<=(Aa6:Int) * (Aa6:Int):=by decide
  have h6:=Ai6 (x:=T k s) (y:=(Aa6:Int)) (by omega) (Int.le_trans (Int.le_trans h1 h4) h5);omega
structure Ahh (n:Nat) (A:Nat->Nat->Int):Prop where
  sym:AKd n A
  pos:ALq n A
  sz:AU8 A n
  lv:AWt A n
  dt:det n A<=10000
structure RSt (n:Nat) (A0 A T:Nat->Nat->Int) (i t:Nat):Prop where
  inv:Acr n dm9 A i t
  car:Ahg n A0 T A
  dt:det n A=det n A0
def Axg (n:Nat) (A0:Nat->Nat->Int) (k:Nat) (s:List (List Int) × List (List Int)):Prop:=
  ∃ A T i t,RSt n A0 A T i t/\s=(tab n n A,tab n n T)/\k=(Ae7 n A).toNat * 128 + (128 - (16 * i + t))
theorem Ajj {n:Nat} {A:Nat->Nat->Int} (hp:ALq n A):0<=Ae7 n A:=by
 have:∀ m,m<=n + 1->0<=psum (fun k=>det k A) m:=fun m=>by
   induction m with
   | zero=>intro _;exact Int.le_refl _
   | succ m ih=>intro h;have h1:=ih (by omega);have h2:=hp m (by omega);simp only [psum];omega
 exact this _ (Nat.le_refl _)
theorem Asd {n:Nat} {A:Nat->Nat->Int} (hd:∀ k,k<=n->det k A<=dm9):Ae7 n A<=(n + 1:Nat) * dm9:=by
 have:∀ m,m<=n + 1->psum (fun k=>det k A) m<=(m:Nat) * dm9:=fun m=>by
   induction m with
   | zero=>intro _;simp [psum]
   | succ m ih=>intro h;have h1:=ih (by omega);have h2:=hd m (by omega);simp only [psum];rw [Int.natCast_add,Int.add_mul];omega
 exact this _ (Nat.le_refl _)
theorem Alc {n i j:Nat} {A:Nat->Nat->Int} (hn:n<=8) (hj:j < i) (hi:i < n) (hp:ALq n A) (hb:∀ i j,i < n->j < n->(A i j).natAbs<=AGo):(AQp A i j).natAbs<=3 * dBd AGo 9:=by
 have b1:(Mn j A i j).natAbs<=dBd AGo 9:=AZa hn hi (by omega) (by omega) hb;have b2:(det (j + 1) A).natAbs<=dBd AGo 9:=ASu hn (by omega) hb;have hd:=hp (j + 1) (by omega);unfold AQp;rw [Int.natAbs_neg];have:=Int.natAbs_ediv_le_natAbs (2 * Mn j A i j + det (j + 1) A) (2 * det (j + 1) A);omega
theorem Ald {fuel n:Nat} {A0:Nat->Nat->Int} (Ac:1<=n) (hn:n<=8) (hs:AKd n A0) (hp:ALq n A0) (hE:∀ i j,(A0 i j).natAbs<=2 ^ 40) (hD:∀ k,k<=n->det k A0<=dm9) (hr:∀ k,k < n->A0 k k<=3 * dm9) (hdt:det n A0<=10000) (hf:AEo < fuel):
    Ok (AF2 fuel (tab n n A0)) fun r=> ∃ A T,r=(tab n n A,tab n n T,0)/\Ahh n A/\Ahg n A0 T A/\det n A=det n A0/\ ∀ k,k < n->A k k<=3 * dm9:=by
 have Ad:100 < fuel:=Nat.lt_of_le_of_lt (by decide) hf;have Av:100000000 < fuel:=Nat.lt_of_le_of_lt (by decide) hf;have Ak:∀ i j,i < n->j < n->(A0 i j).natAbs<=AGo:=fun i j _ _=>Nat.le_trans (hE i j) (by decide);unfold AF2;refine ABn (AZc Ac hn Ak Ad) fun v hv=>?_;have Ap:=hv.2 ⟨hs,hp⟩;subst Ap;refine ACf (fun h=>absurd rfl h) fun _=>ABn (AC9 (Ar7 hn Ak Ad)) fun b hb=>?_;subst hb;refine ACf (fun h=>by simp [hdt] at h) fun _=>?_;refine ABn (AC9 (Aiy (A:=tab n n A0) (by rw [ADf];omega) (fun z hz=>by rw [AUl z hz];omega) (by rw [ADf];omega))) fun x hx=>?_;subst hx;rw [ADf];refine ABn (AC9 (Ajd Ac (by omega) Ad)) fun x hx=>?_;subst hx;dsimp only;refine ABn (Ao5 (Axg n A0) (Q:=fun r=> ∃ A T,r=(tab n n A,tab n n T,0)/\Ahh n A/\Ahg n A0 T A/\det n A=det n A0/\ ∀ k,k < n->A k k<=3 * dm9) (fun k s hI=>?_) (k:=(Ae7 n A0).toNat * 128 + 128) ⟨A0,dl,0,0,⟨AY8 Ac hs hp hD hr,Ar9,rfl⟩,rfl,rfl⟩ ?_) fun r hr=>ABi hr
 ·obtain ⟨A,T,i,t,R,rfl,rfl⟩:=hI;have L:=R.inv;have hbd:=Asb hn L;have hb:∀ i j,i < n->j < n->(A i j).natAbs<=AGo:=fun i j hi hj=>Nat.le_trans (Aji L.sym L.pos hbd hi hj) (by decide);have hT:∀ k s,k < n->s < n->(T k s).natAbs<=Aa6:=fun k s hk Ab=>Aws hn hE hs hp R.car hbd hk Ab;have hTD:Aa6<=Aa5:=by decide
  have hMD:AGo<=Aa5:=by decide
  unfold AIu;refine ABn (Avb Ac hn L.pos hb hf) fun r hr=>?_
  have prod:∀ {U:Nat->Nat->Int},(∀ i j,i < n->j < n->(U i j).natAbs<=3 * dBd AGo 9)->(AEh fuel (tab n n A) (tab n n U)=some (tab n n (AE1 n (AE1 n (trF U) A) U))/\ADo fuel (tab n n T) (tab n n U)=some (tab n n (AE1 n T U))):=fun {U} hU=>by
    have Am:∀ i j,i < n->j < n->(U i j).natAbs<=Aa5:=fun i j hi hj=>Nat.le_trans (hU i j hi hj) (by decide)
    refine ⟨Ar6 Ac (by omega) Afe (fun i j hi hj=>Nat.le_trans (hb i j hi hj) hMD) Am (fun i j hi hj=>?_) Ad,?_⟩
    · have h1:=psum_abs (f:=fun l=>U l i) (g:=fun l=>A l j) (D:=3 * dBd AGo 9) n fun l hl=>⟨hU l i hl hi,Nat.le_trans (hb l j hl hj) (by decide)⟩
      have h2:n * ((3 * dBd AGo 9) * (3 * dBd AGo 9))<=8 * ((3 * dBd AGo 9) * (3 * dBd AGo 9)):=Nat.mul_le_mul_right _ hn
      have h3:(AE1 n (trF U) A i j).natAbs=(psum (fun l=>U l i * A l j) n).natAbs:=rfl
      have h4:∀ l,l < n->(U l i).natAbs<=3 * dBd AGo 9/\(A l j).natAbs<=AGo:=fun l hl=>⟨hU l i hl hi,hb l j hl hj⟩
      have h5:(psum (fun l=>U l i * A l j) n).natAbs<=n * (3 * dBd AGo 9 * AGo):=by
        refine QF.psum_abs fun l hl=>?_
        rw [Int.natAbs_mul]
        exact Nat.mul_le_mul (h4 l hl).1 (h4 l hl).2
      have h6:n * (3 * dBd AGo 9 * AGo)<=8 * (3 * dBd AGo 9 * AGo):=Nat.mul_le_mul_right _ hn
      have h7:8 * (3 * dBd AGo 9 * AGo)<=Aa5:=by decide
      rw [h3]
      exact Nat.le_trans h5 (Nat.le_trans h6 h7)
    · unfold ADo
      rw [Ao1 Ac (by omega) Afe (fun i j hi hj=>Nat.le_trans (hT i j hi hj) hTD) Am Ad]
      rfl
  rcases hr with ⟨rfl,hsz,hlv⟩ | ⟨i',j,hji,hi',hbad,hsz,hzi,hlv,rfl⟩ | ⟨j,hj,hbad,hsz,hlv,rfl⟩
  ·dsimp only;refine ACf (fun _=>?_) (fun h=>absurd rfl h);have hrest:=ATf hn L fun l hl=>hsz i l hl L.hi;refine ABn (AC9 (Awp Ac (by omega) (fun i j hi hj=>Nat.lt_of_le_of_lt (Aji L.sym L.pos hrest hi hj) (by decide)) Ad)) fun x hx=>ABi ?_;subst hx;exact ⟨A,T,rfl,⟨L.sym,L.pos,hsz,hlv,by rw [R.dt];exact hdt⟩,R.car,R.dt,hrest⟩
  ·dsimp only;refine ACf (fun h=>absurd h (by decide)) fun _=>?_
   have hU:∀ r s,r < n->s < n->(AUa A i' j r s).natAbs<=3 * dBd AGo 9:=fun r s hr Ab=>by
     have hdl:∀ a b,(dl a b).natAbs<=3 * dBd AGo 9:=fun a b=>by unfold dl;split <;> decide
     unfold AUa
     rw [ACq]
     split
     · split
       · exact Alc hn hji hi' L.pos hb
       · exact hdl _ _
     · exact hdl _ _
   obtain ⟨e1,e2⟩:=prod hU;refine ABn (AC9 e1) fun x hx=>ABn (AC9 e2) fun y hy=>ABi ?_;subst hx;subst hy;obtain ⟨L2,hm⟩:=Ala hn L hi' hji hbad hsz hzi hlv;have hsum:Ae7 n (AU6 A i' j (AQp A i' j))=Ae7 n A:=ABt fun k _=>ANh hji;refine ⟨_,?_,AU6 A i' j (AQp A i' j),AE1 n T (AUa A i' j),i',i' - j,⟨L2,Aa4 R.car fun r s hr Ab=>Afc hji hi' hr Ab,by rw [ANh hji];exact R.dt⟩,?_,rfl⟩
   ·rw [hsum];have:=L.hi;have:=L.ht;omega
   ·rw [AMo fun r s hr Ab=>Afc hji hi' hr Ab]
  ·dsimp only;refine ACf (fun h=>absurd h (by decide)) fun _=>?_
   have hU:∀ r s,r < n->s < n->(AFj dl (j + 1) j r s).natAbs<=3 * dBd AGo 9:=fun r s hr Ab=>by
     rw [Acx];unfold dl;split <;> decide
   obtain ⟨e1,e2⟩:=prod hU;refine ABn (AC9 e1) fun x hx=>ABn (AC9 e2) fun y hy=>ABi ?_;subst hx;subst hy;obtain ⟨L2,hm⟩:=Alb hn L hj hbad (fun r l h1 h2=>hsz r l h1 (by omega)) fun r hr=>hlv r (by omega);refine ⟨_,?_,swA A j,AE1 n T (AFj dl (j + 1) j),0,0,⟨L2,Aa4 R.car fun r s hr Ab=>Ajh hj hr Ab,by rw [Ai5 (by omega)];exact R.dt⟩,?_,rfl⟩
   ·have h1:=Ajj L.pos;have h2:=Ajj L2.pos;have:=L.hi;have:=L.ht;omega
   ·rw [AMo fun r s hr Ab=>Ajh hj hr Ab]
 ·have h1:=Asd hD;have h2:((n + 1:Nat):Int) * dm9<=9 * dm9:=Int.mul_le_mul_of_nonneg_right (by omega) (by decide);have h3:(9 * dm9)=387420489:=by decide
  have h4:387420489 * 128 + 128 < AEo:=by decide
  omega
def part (n i:Nat) (G:Nat->Nat->Int):List (List Int):=AD5 n fun r=>if r < i then AD5 n (G r) else []
theorem AMp {n i r:Nat} {G:Nat->Nat->Int} (hr:r < i) (hn:r < n):(part n i G)[r]? =some (AD5 n (G r)):=by
 unfold part;rw [ACp hn,if_pos hr]
theorem ATh {n i:Nat} {G:Nat->Nat->Int} (hn:i < n):(part n i G)[i]? =some []:=by
 unfold part;rw [ACp hn,if_neg (Nat.lt_irrefl i)]
theorem ANo {n i r:Nat} {G:Nat->Nat->Int} {g:Nat->Int} (hr:r < i):(part n i G).set r (AD5 n g)=part n i (ADe G r g):=by
 unfold part;rw [AE6];refine ACw fun k _=>?_;by_cases h:k=r
 ·subst h;rw [if_pos rfl,if_pos hr,AC5]
 ·rw [if_neg h,AD3 _ _ h]
theorem AQq {n i:Nat} {G:Nat->Nat->Int} {g:Nat->Int}:(part n i G).set i (AD5 n g)=part n (i + 1) (ADe G i g):=by
 unfold part;rw [AE6];refine ACw fun k _=>?_;by_cases h:k=i
 ·subst h;rw [if_pos rfl,if_pos (by omega),AC5]
 ·rw [if_neg h,AD3 _ _ h];by_cases h2:k < i
  ·rw [if_pos h2,if_pos (by omega)]
  ·rw [if_neg h2,if_neg (by omega)]
theorem AOr (n:Nat) (G:Nat->Nat->Int):part n n G=tab n n G:=by
 unfold part;rw [ANn];exact ACw fun k hk=>if_pos hk
theorem AOs (n:Nat) (G:Nat->Nat->Int):List.replicate n ([]:List Int)=part n 0 G:=by
 rw [AHs];exact ACw fun k _=>(if_neg (by omega)).symm
theorem AUb {L:List Int} {q:Nat} (hq:q < 4611686018427387904):Ok (if (L.length:Int)<=((q:Nat):Int) then (some ((0:Int),((q:Nat):Int))) else ((gI L (w64 ((w64 (((q:Nat):Int) + 1)) - 1))).bind fun x=>(some ((w64 x),(w64 (((q:Nat):Int) + 1)))))) fun e=> ∃ p:Nat,e.2=(p:Int)/\p<=q + 1:=by
  refine ACf (fun h=>ABi ⟨q,rfl,by omega⟩) fun h=>?_;have hl:q < L.length:=by omega
  refine AB5 (n:=q) (List.getElem?_eq_getElem hl) (by rw [AFa (x:=(q:Int) + 1) (by omega) (by omega),wk (by omega)];omega) (ABi ⟨q + 1,?_,by omega⟩);rw [AFa (x:=(q:Int) + 1) (by omega) (by omega)];omega
theorem AR0 (x:Int) (m:Nat) (hm:0 < m):0<=Int.tmod (w64 (IntKind.wrap .u8 x)) (m:Int)/\Int.tmod (w64 (IntKind.wrap .u8 x)) (m:Int) < m:=by
 have h1:IntKind.wrap .u8 x=x % 256:=by rw [IntKind.wrap_u8]
 rw [h1];have a1:=Int.emod_nonneg x (show (256:Int)≠0 by decide);have a2:=Int.emod_lt_of_pos x (show (0:Int) < 256 by decide);rw [wk (by omega),Int.tmod_eq_emod_of_nonneg a1];exact ⟨Int.emod_nonneg _ (by omega),Int.emod_lt_of_pos _ (by omega)⟩
def dgF (f:Nat->Int) (r c:Nat):Int:=if c=r then f r else 0
theorem Awt {fuel N q0:Nat} {a1 Ac:Int} {L:List Int} (hN:w64 (1 + (Int.tmod (w64 a1) Ac))=(N:Int)) (Af:N<=8) (Ag:q0<=1000) (hf:100 < fuel):
    Ok (iter (fun s=>AFb fuel a1 L Ac s.1 s.2.1 s.2.2) fuel (0,(q0:Int),(List.replicate (Int.toNat (w64 (1 + (Int.tmod (w64 a1) Ac)))) ([]:List Int)))) fun e=> ∃ (q:Nat) (f:Nat->Int),e=((q:Int),tab N N (dgF f))/\q<=q0 + N/\ ∀ r,r < N->1<=f r/\f r<=6:=by
 refine ACz (fun i s=> ∃ (q:Nat) (f:Nat->Int),s=(((i:Nat):Int),(q:Int),part N i (dgF f))/\i<=N/\q<=q0 + i/\ ∀ r,r < i->1<=f r/\f r<=6) N ⟨q0,fun _=>0,by rw [hN,Int.toNat_natCast,AOs N (dgF fun _=>0)];rfl,by omega,by omega,fun r hr=>by omega⟩ (by omega) fun i s hi hI=>?_;obtain ⟨q,f,rfl,hiN,hq,Ad⟩:=hI;unfold AFb;dsimp only;rw [List.length_replicate,hN,Int.toNat_natCast];refine ACf (fun h=>AEk (by omega) ?_) (fun h=>ABi ?_)
 ·have hi':i < N:=by omega
  refine AB5 (ATh hi') rfl ?_;rw [ADv,AHs N (0:Int),AQq];refine AB5 (AMp (by omega) hi') rfl ?_;rw [AC5];refine ABn (Q:=fun e:Int × Int=>0<=e.1/\e.1 < 6/\ ∃ p:Nat,e.2=(p:Int)/\p<=q + 1) (ABn (AUb (L:=L) (q:=q) (by omega)) fun e he=>?_) fun e he=>AB5 (ACp hi') rfl (ABi ⟨by omega,?_⟩)
  ·exact ABi ⟨(AR0 _ 6 (by decide)).1,(AR0 _ 6 (by decide)).2,he⟩
  ·obtain ⟨h1,h2,p,h3,h4⟩:=he;refine ⟨p,fun r=>if r=i then 1 + e.1 else f r,?_,by omega,by omega,fun r hr=>?_⟩
   ·rw [AFa (x:=(i:Int) + 1) (by omega) (by omega),AFa (x:=1 + e.1) (by omega) (by omega),h3,ADv,ADv,AE6,ANo (by omega)];refine congrArg (fun z=>(((i + 1:Nat):Int),(p:Int),z)) (ACw fun r hr=>?_);split
    ·refine ACw fun c hc=>?_;rw [ACq];unfold dgF;dsimp only;split
     ·next h=>subst h;rfl
     ·next h=>rw [ACq,if_neg h]
    ·rfl
   ·dsimp only;split
    ·omega
    ·exact Ad r (by omega)
 ·obtain rfl:i=N:=by omega
  exact ⟨q,f,by rw [AOr],by omega,Ad⟩
theorem Avd {fuel N q0:Nat} {a1 Ac:Int} {L:List Int} (hN:w64 (1 + (Int.tmod (w64 a1) Ac))=(N:Int)) (Af:N<=8) (Ag:q0<=1000) (hf:100 < fuel):
    Ok (iter (fun s=>AE2 fuel a1 L Ac s.1 s.2.1 s.2.2) fuel (0,(q0:Int),(List.replicate (Int.toNat (w64 (1 + (Int.tmod (w64 a1) Ac)))) ([]:List Int)))) fun e=> ∃ (q:Nat) (f:Nat->Int),e=((q:Int),tab N N (dgF f))/\q<=q0 + N/\ ∀ r,r < N->1<=f r/\f r<=9:=by
 refine ACz (fun i s=> ∃ (q:Nat) (f:Nat->Int),s=(((i:Nat):Int),(q:Int),part N i (dgF f))/\i<=N/\q<=q0 + i/\ ∀ r,r < i->1<=f r/\f r<=9) N ⟨q0,fun _=>0,by rw [hN,Int.toNat_natCast,AOs N (dgF fun _=>0)];rfl,by omega,by omega,fun r hr=>by omega⟩ (by omega) fun i s hi hI=>?_;obtain ⟨q,f,rfl,hiN,hq,Ad⟩:=hI;unfold AE2;dsimp only;rw [List.length_replicate,hN,Int.toNat_natCast];refine ACf (fun h=>AEk (by omega) ?_) (fun h=>ABi ?_)
 ·have hi':i < N:=by omega
  refine AB5 (ATh hi') rfl ?_;rw [ADv,AHs N (0:Int),AQq];refine AB5 (AMp (by omega) hi') rfl ?_;rw [AC5];refine ABn (Q:=fun e:Int × Int=>0<=e.1/\e.1 < 9/\ ∃ p:Nat,e.2=(p:Int)/\p<=q + 1) (ABn (AUb (L:=L) (q:=q) (by omega)) fun e he=>?_) fun e he=>AB5 (ACp hi') rfl (ABi ⟨by omega,?_⟩)
  ·exact ABi ⟨(AR0 _ 9 (by decide)).1,(AR0 _ 9 (by decide)).2,he⟩
  ·obtain ⟨h1,h2,p,h3,h4⟩:=he;refine ⟨p,fun r=>if r=i then 1 + e.1 else f r,?_,by omega,by omega,fun r hr=>?_⟩
   ·rw [AFa (x:=(i:Int) + 1) (by omega) (by omega),AFa (x:=1 + e.1) (by omega) (by omega),h3,ADv,ADv,AE6,ANo (by omega)];refine congrArg (fun z=>(((i + 1:Nat):Int),(p:Int),z)) (ACw fun r hr=>?_);split
    ·refine ACw fun c hc=>?_;rw [ACq];unfold dgF;dsimp only;split
     ·next h=>subst h;rfl
     ·next h=>rw [ACq,if_neg h]
    ·rfl
   ·dsimp only;split
    ·omega
    ·exact Ad r (by omega)
 ·obtain rfl:i=N:=by omega
  exact ⟨q,f,by rw [AOr],by omega,Ad⟩
theorem Ave {fuel N q0:Nat} {a1 Ac:Int} {L:List Int} (hN:w64 (1 + (Int.tmod (w64 a1) Ac))=(N:Int)) (Af:N<=8) (Ag:q0<=1000) (hf:100 < fuel):
    Ok (iter (fun s=>AE3 fuel a1 L Ac s.1 s.2.1 s.2.2) fuel (0,(q0:Int),(List.replicate (Int.toNat (w64 (1 + (Int.tmod (w64 a1) Ac)))) ([]:List Int)))) fun e=> ∃ (q:Nat) (f:Nat->Int),e=((q:Int),tab N N (dgF f))/\q<=q0 + N/\ ∀ r,r < N->1<=f r/\f r<=1:=by
 refine ACz (fun i s=> ∃ (q:Nat) (f:Nat->Int),s=(((i:Nat):Int),(q:Int),part N i (dgF f))/\i<=N/\q<=q0 + i/\ ∀ r,r < i->1<=f r/\f r<=1) N ⟨q0,fun _=>0,by rw [hN,Int.toNat_natCast,AOs N (dgF fun _=>0)];rfl,by omega,by omega,fun r hr=>by omega⟩ (by omega) fun i s hi hI=>?_;obtain ⟨q,f,rfl,hiN,hq,Ad⟩:=hI;unfold AE3;dsimp only;rw [List.length_replicate,hN,Int.toNat_natCast];refine ACf (fun h=>AEk (by omega) ?_) (fun h=>ABi ?_)
 ·have hi':i < N:=by omega
  refine AB5 (ATh hi') rfl ?_;rw [ADv,AHs N (0:Int),AQq];refine AB5 (AMp (by omega) hi') rfl ?_;rw [AC5];refine ABn (Q:=fun e:Int × Int=>0<=e.1/\e.1 < 1/\ ∃ p:Nat,e.2=(p:Int)/\p<=q + 1) (ABn (AUb (L:=L) (q:=q) (by omega)) fun e he=>?_) fun e he=>AB5 (ACp hi') rfl (ABi ⟨by omega,?_⟩)
  ·exact ABi ⟨(AR0 _ 1 (by decide)).1,(AR0 _ 1 (by decide)).2,he⟩
  ·obtain ⟨h1,h2,p,h3,h4⟩:=he;refine ⟨p,fun r=>if r=i then 1 + e.1 else f r,?_,by omega,by omega,fun r hr=>?_⟩
   ·rw [AFa (x:=(i:Int) + 1) (by omega) (by omega),AFa (x:=1 + e.1) (by omega) (by omega),h3,ADv,ADv,AE6,ANo (by omega)];refine congrArg (fun z=>(((i + 1:Nat):Int),(p:Int),z)) (ACw fun r hr=>?_);split
    ·refine ACw fun c hc=>?_;rw [ACq];unfold dgF;dsimp only;split
     ·next h=>subst h;rfl
     ·next h=>rw [ACq,if_neg h]
    ·rfl
   ·dsimp only;split
    ·omega
    ·exact Ad r (by omega)
 ·obtain rfl:i=N:=by omega
  exact ⟨q,f,by rw [AOr],by omega,Ad⟩
theorem Avf {fuel N q0:Nat} {a1 Ac:Int} {L:List Int} (hN:w64 (1 + (Int.tmod (w64 a1) Ac))=(N:Int)) (Af:N<=8) (Ag:q0<=1000) (hf:100 < fuel):
    Ok (iter (fun s=>AE4 fuel a1 L Ac s.1 s.2.1 s.2.2) fuel (0,(q0:Int),(List.replicate (Int.toNat (w64 (1 + (Int.tmod (w64 a1) Ac)))) ([]:List Int)))) fun e=> ∃ (q:Nat) (f:Nat->Int),e=((q:Int),tab N N (dgF f))/\q<=q0 + N/\ ∀ r,r < N->1<=f r/\f r<=2:=by
 refine ACz (fun i s=> ∃ (q:Nat) (f:Nat->Int),s=(((i:Nat):Int),(q:Int),part N i (dgF f))/\i<=N/\q<=q0 + i/\ ∀ r,r < i->1<=f r/\f r<=2) N ⟨q0,fun _=>0,by rw [hN,Int.toNat_natCast,AOs N (dgF fun _=>0)];rfl,by omega,by omega,fun r hr=>by omega⟩ (by omega) fun i s hi hI=>?_;obtain ⟨q,f,rfl,hiN,hq,Ad⟩:=hI;unfold AE4;dsimp only;rw [List.length_replicate,hN,Int.toNat_natCast];refine ACf (fun h=>AEk (by omega) ?_) (fun h=>ABi ?_)
 ·have hi':i < N:=by omega
  refine AB5 (ATh hi') rfl ?_;rw [ADv,AHs N (0:Int),AQq];refine AB5 (AMp (by omega) hi') rfl ?_;rw [AC5];refine ABn (Q:=fun e:Int × Int=>0<=e.1/\e.1 < 2/\ ∃ p:Nat,e.2=(p:Int)/\p<=q + 1) (ABn (AUb (L:=L) (q:=q) (by omega)) fun e he=>?_) fun e he=>AB5 (ACp hi') rfl (ABi ⟨by omega,?_⟩)
  ·exact ABi ⟨(AR0 _ 2 (by decide)).1,(AR0 _ 2 (by decide)).2,he⟩
  ·obtain ⟨h1,h2,p,h3,h4⟩:=he;refine ⟨p,fun r=>if r=i then 1 + e.1 else f r,?_,by omega,by omega,fun r hr=>?_⟩
   ·rw [AFa (x:=(i:Int) + 1) (by omega) (by omega),AFa (x:=1 + e.1) (by omega) (by omega),h3,ADv,ADv,AE6,ANo (by omega)];refine congrArg (fun z=>(((i + 1:Nat):Int),(p:Int),z)) (ACw fun r hr=>?_);split
    ·refine ACw fun c hc=>?_;rw [ACq];unfold dgF;dsimp only;split
     ·next h=>subst h;rfl
     ·next h=>rw [ACq,if_neg h]
    ·rfl
   ·dsimp only;split
    ·omega
    ·exact Ad r (by omega)
 ·obtain rfl:i=N:=by omega
  exact ⟨q,f,by rw [AOr],by omega,Ad⟩
theorem Avg {fuel N q0:Nat} {L:List Int} {F0:Nat->Nat->Int} (Ag:N<=8) (Ah:q0<=1000) (Ad:∀ i j,i < N->j < N->(F0 i j).natAbs<=9) (hf:100 < fuel):
    Ok (iter (fun s=>AFc fuel L (tab N N F0) s.1 s.2.1 s.2.2) fuel (0,(q0:Int),tab N N F0)) fun e=> ∃ (q:Nat) (F:Nat->Nat->Int),e=((q:Int),tab N N F)/\q<=q0 + 8 * N/\ ∀ i j,i < N->j < N->(F i j).natAbs<=9:=by
 refine ACz (fun i s=> ∃ (q:Nat) (F:Nat->Nat->Int),s=(((i:Nat):Int),(q:Int),tab N N F)/\i<=N/\q<=q0 + 8 * i/\ ∀ i j,i < N->j < N->(F i j).natAbs<=9) N ⟨q0,F0,rfl,by omega,by omega,Ad⟩ (by omega) fun i s hi hI=>?_;obtain ⟨q,F,rfl,hiN,hq,hF⟩:=hI;unfold AFc;dsimp only;rw [ADf];refine ACf (fun h=>?_) (fun h=>ABi ⟨q,F,rfl,by omega,hF⟩);have hi':i < N:=by omega
 refine ABn (ACz (fun j s=> ∃ (p:Nat) (F:Nat->Nat->Int),s=(((j:Nat):Int),(p:Int),tab N N F)/\j<=i/\p<=q + j/\ ∀ i j,i < N->j < N->(F i j).natAbs<=9) i (Q:=fun e=> ∃ (p:Nat) (F:Nat->Nat->Int),e=((p:Int),tab N N F)/\p<=q + i/\ ∀ i j,i < N->j < N->(F i j).natAbs<=9) ⟨q,F,rfl,by omega,by omega,hF⟩ (by omega) fun j s hj hJ=>?_) fun e he=>?_
 ·obtain ⟨p,F,rfl,hji,hp,hF⟩:=hJ;unfold AGp;dsimp only;refine ACf (fun h=>?_) (fun h=>ABi ⟨p,F,rfl,by omega,hF⟩);have hj':j < i:=by omega
  refine AB5 (ADg hi') rfl (ABn (AUb (L:=L) (q:=p) (by omega)) fun e he=>AB5 (ACp (by omega)) rfl ?_);obtain ⟨p2,h3,h4⟩:=he;rw [ADv,ADv,AE6,show (AD5 N fun c=>if c=j then Int.tmod e.1 3 else F i c)=(List.range N).map fun c=>if c=j then Int.tmod e.1 3 else F i c from rfl,AHl];refine AB5 (ADg (by omega)) rfl (AB5 (ADg hi') rfl (AB5 (ACp (by omega)) rfl (AB5 (ACp hi') rfl (ABi ⟨by omega,p2,?_⟩))));generalize Af:(ADe F i fun c=>if c=j then Int.tmod e.1 3 else F i c)=F1
  have hv:(Int.tmod e.1 3).natAbs<=9:=by
    have:=Int.natAbs_tmod e.1 3
    have h5:e.1.natAbs % (3:Int).natAbs < 3:=Nat.mod_lt _ (by decide)
    omega
  have hF1b:∀ i j,i < N->j < N->(F1 i j).natAbs<=9:=fun a b ha hb=>by
    subst Af
    rw [ACq]
    split
    · split
      · exact hv
      · exact hF i b hi' hb
    · exact hF a b ha hb
  refine ⟨ADe F1 j fun c=>if c=i then F1 i j else F1 j c,?_,by omega,by omega,fun a b ha hb=>?_⟩
  ·rw [wk (by omega),h3,ADv,ADv,AE6,show (AD5 N fun c=>if c=i then F1 i j else F1 j c)=(List.range N).map fun c=>if c=i then F1 i j else F1 j c from rfl,AHl];rfl
  ·rw [ACq];split
   ·split
    ·exact hF1b i j hi' (by omega)
    ·exact hF1b j b (by omega) hb
   ·exact hF1b a b ha hb
 ·obtain ⟨p,F,rfl,hp,hF⟩:=he;exact ABi ⟨by omega,p,F,by rw [wk (by omega)];rfl,by omega,by omega,hF⟩
theorem Ajk {fuel N:Nat} {b:Bool} (Ag:1<=N) (Ah:N<=8) (hf:100 < fuel):Ok (AFv fuel (N:Int) b) fun e=> ∃ F,e=tab N N F/\ ∀ i j,i < N->j < N->(F i j).natAbs<=2:=by
 unfold AFv;refine AEk (by omega) ?_;rw [Int.toNat_natCast];refine ABn (ACz (fun i s=> ∃ G:Nat->Nat->Int,s=(((i:Nat):Int),part N i G)/\i<=N/\ ∀ r c,(G r c).natAbs<=2) N (Q:=fun e=> ∃ F,e=tab N N F/\ ∀ i j,i < N->j < N->(F i j).natAbs<=2) ⟨fun _ _=>0,by rw [AOs N fun _ _=>0];rfl,by omega,fun _ _=>Nat.zero_le _⟩ (by omega) fun i s hi hI=>?_) fun e he=>ABi he;obtain ⟨G,rfl,hiN,hG⟩:=hI;unfold AJl;dsimp only;rw [List.length_replicate,Int.toNat_natCast];refine ACf (fun h=>AEk (by omega) ?_) (fun h=>ABi ?_)
 ·have hi':i < N:=by omega
  refine AB5 (ATh hi') rfl ?_;rw [ADv,AHs N (0:Int),AQq];refine AB5 (AMp (by omega) hi') rfl ?_;rw [AC5];refine AB5 (ACp hi') rfl ?_;rw [ADv,ADv,AE6,ANo (by omega)]
  have Ab:∀ r c,(ADe (ADe G i fun x=>0) i (fun c=>if c=i then 2 else 0) r c).natAbs<=2:=fun r c=>by
    rw [ACq]
    split
    · split <;> decide
    · rw [ACq]
      split
      · decide
      · exact hG r c
  generalize (ADe (ADe G i fun x=>0) i fun c=>if c=i then 2 else 0)=G1 at Ab;have wi:w64 ((i:Int) + 1)=((i + 1:Nat):Int):=by rw [wk (by omega)];omega
  refine ABn (Q:=fun k=>k=(i:Int) - 1∨k=(i:Int) - 2) ?_ fun k hk=>?_
  ·have w1:w64 ((i:Int) - 1)=(i:Int) - 1:=wk (by omega);have w2:w64 ((i:Int) - 2)=(i:Int) - 2:=wk (by omega);rw [w1,w2];exact ACf (fun _=>ACf (fun _=>ACf (fun _=>ABi (.inr rfl)) fun _=>ABi (.inl rfl)) fun _=>ABi (.inl rfl)) fun _=>ABi (.inl rfl)
  ·refine ACf (fun h=>?_) (fun h=>ABi ⟨by omega,G1,by rw [wi],by omega,Ab⟩);obtain ⟨k,rfl⟩:∃ q:Nat,k=q:=⟨k.toNat,by omega⟩;have hki:k < i:=by omega
   refine AB5 (AMp (by omega) hi') rfl (AB5 (AMp (by omega) (by omega)) rfl (AB5 (ACp (by omega)) rfl ?_));rw [ADv,ADv,AE6,ANo (by omega)]
   have Ac:∀ r c,(ADe G1 i (fun c=>if c=k then -1 else G1 i c) r c).natAbs<=2:=fun r c=>by
     rw [ACq]
     split
     · split
       · decide
       · exact Ab i c
     · exact Ab r c
   generalize (ADe G1 i fun c=>if c=k then -1 else G1 i c)=G2 at Ac;refine AB5 (AMp (by omega) (by omega)) rfl (AB5 (ACp hi') rfl (ABi ⟨by omega,ADe G2 k fun c=>if c=i then -1 else G2 k c,?_,by omega,fun r c=>?_⟩))
   ·rw [wi,ADv,ADv,AE6,ANo (by omega)]
   ·rw [ACq];split
    ·split
     ·decide
     ·exact Ac k c
    ·exact Ac r c
 ·obtain rfl:i=N:=by omega
  exact ⟨G,AOr _ _,fun a b _ _=>hG a b⟩
theorem Ao6 {n B:Nat} {F:Nat->Nat->Int} (hB:B < 9223372036854775808) (h:∀ i j,i < n->j < n->(F i j).natAbs<=B):∀ z∈tab n n F,∀ x∈z,-9223372036854775808<=x/\x<=9223372036854775807:=fun z hz x hx=>by
  obtain ⟨i,hi⟩:=List.getElem?_of_mem hz
  have hin:i < n:=by have:=(List.getElem?_eq_some_iff.1 hi).1;rwa [ADf] at this
  rw [ADg hin] at hi
  cases hi
  obtain ⟨j,hj⟩:=List.getElem?_of_mem hx
  have hjn:j < n:=by have:=(List.getElem?_eq_some_iff.1 hj).1;rwa [ADj] at this
  rw [ACp hjn] at hj
  cases hj
  have:=h i j hin hjn
  omega
theorem Ase {n:Nat} {F:Nat->Nat->Int} (hn:1<=n) (Aa:n<=16):okM (tab n n F)=true:=by
 have hc:ALy (tab n n F)=n:=Ame hn;unfold okM;rw [decide_eq_true_iff,ADf,hc];exact ⟨hn,Aa,fun z hz=>by rw [AUl z hz];exact ⟨hn,Aa,rfl⟩⟩
theorem Ahi {fuel n:Nat} {F:Nat->Nat->Int} (hn:1<=n) (Aa:n<=16) (h:∀ i j,i < n->j < n->(F i j).natAbs<=9223372036854775807) (hf:17 < fuel):AE5 fuel (tab n n F)=some (tab n n F):=by
 rw [Awj (Ao6 (by decide) h) hf,if_pos (Ase hn Aa)]
theorem Avh {fuel n:Nat} {F:Nat->Nat->Int} (Ab:1<=n) (hn:n<=8) (hb:∀ i j,i < n->j < n->(F i j).natAbs<=1000000) (hf:100 < fuel):Ok (AHq fuel (tab n n F)) fun r=>r=true↔AKd n F/\ALq n F/\det n F<=10000:=by
 have Ac:∀ i j,i < n->j < n->(F i j).natAbs<=AGo:=fun i j hi hj=>Nat.le_trans (hb i j hi hj) (by decide);unfold AHq;refine ABn (AC9 (Ahi Ab (by omega) (fun i j hi hj=>Nat.le_trans (hb i j hi hj) (by decide)) (by omega))) fun x hx=>?_;subst hx;refine ABn (AZc Ab hn Ac hf) fun v hv=>ACf (fun h=>?_) fun h=>ABi (Iff.intro (fun h2=>nomatch h2) fun h2=>absurd (hv.2 ⟨h2.1,h2.2.1⟩) h);have h1:=hv.1 h;refine ABn (AC9 (AU1 hn Ac (by omega))) fun d hd=>ABn (Q:=(· =10000)) ⟨10000,if_pos (by omega),rfl⟩ fun t ht=>ABn (AC9 (a:=AQj d t) rfl) fun c hc=>ABi ?_;subst hd;subst ht;subst hc;rw [decide_eq_true_iff,Acu];exact ⟨fun h2=>⟨h1.1,h1.2,h2⟩,fun h2=>h2.2.2⟩
theorem Avi {n:Nat} {f:Nat->Int} (hn:n<=8) (h:∀ r,r < n->1<=f r/\f r<=2):AKd n (dgF f)/\ALq n (dgF f)/\det n (dgF f)<=10000:=by
 have hd:∀ k,k<=n->det k (dgF f)=AF9 f k:=fun k hk=>by
   rw [AQm (F:=dgF f) (fun c i hc hci hi=>by unfold dgF;rw [if_neg (by omega)])]
   exact AWn fun i _=>by unfold dgF;rw [if_pos rfl]
 have hb:∀ k,k<=n->0 < AF9 f k/\AF9 f k<=2 ^ k:=fun k=>by
   induction k with
   | zero=>intro _;simp [AF9]
   | succ k ih=>
     intro hk
     have h1:=ih (by omega)
     have h2:=h k (by omega)
     simp only [AF9]
     refine ⟨Int.mul_pos h1.1 (by omega),?_⟩
     rw [Int.pow_succ]
     exact Int.mul_le_mul h1.2 h2.2 (by omega) (Int.le_of_lt (AU7 k))
 refine ⟨fun i j hi hj=>?_,fun k hk=>by rw [hd k hk];exact (hb k hk).1,?_⟩
 ·unfold dgF;split
  ·next h=>subst h;rw [if_pos rfl]
  ·next h=>rw [if_neg (fun h2=>h h2.symm)]
 ·rw [hd n (Nat.le_refl n)];have:=(hb n (Nat.le_refl n)).2;have h2:=AXk hn;omega
structure Awu (n:Nat) (A:Nat->Nat->Int):Prop where
  n1:1<=n
  n8:n<=8
  sym:AKd n A
  pos:ALq n A
  bd:∀ i j,i < n->j < n->(A i j).natAbs<=9
  dt:det n A<=10000
theorem Ajl {n m:Nat} {f:Nat->Int} (h:∀ r,r < n->1<=f r/\f r<=(m:Int)):∀ i j,i < n->j < n->(dgF f i j).natAbs<=m:=fun i j hi hj=>by
  unfold dgF
  have:=h i hi
  split <;> omega
theorem Avj {fuel:Nat} {a1 a2 most:Int} {L L2:List Int} (h1:0<=a1/\a1 < 256) (hm:1<=most/\most<=8) (hf:100 < fuel):Ok (AEy fuel a1 a2 L L2 most) fun r=> ∃ n A,r=tab n n A/\Awu n A/\(n:Int)=1 + Int.tmod a1 most:=by
 have t1:=Int.emod_nonneg a1 (show most≠0 by omega);have t2:=Int.emod_lt_of_pos a1 (show 0 < most by omega);have t3:Int.tmod a1 most=a1 % most:=Int.tmod_eq_emod_of_nonneg h1.1
 have hN:w64 (1 + Int.tmod (w64 a1) most)=((1 + a1 % most).toNat:Int):=by
   rw [AFa (x:=a1) (by omega) (by omega),t3,wk (by omega)];omega
 generalize hNN:(1 + a1 % most).toNat=N at hN;have Ae:1<=N:=by omega
 have Ab:N<=8:=by omega
 unfold AEy;refine AEk (by omega) (ABn (Q:=fun e=> ∃ (q:Nat) (F:Nat->Nat->Int),e=(tab N N F,(q:Int))/\q<=200/\ ∀ i j,i < N->j < N->(F i j).natAbs<=9) (ABn (Q:=fun _=>True) ?_ fun k _=>ACf (fun _=>?_) fun _=>ACf (fun _=>?_) fun _=>ACf (fun _=>?_) fun _=>ACf (fun _=>?_) fun _=>?_) fun e he=>?_)
 ·exact ACf (fun _=>ABi trivial) fun _=>ACf (fun _=>ABi trivial) fun _=>ACf (fun _=>ABi trivial) fun _=>ABi trivial
 ·refine ABn (Q:=fun e=> ∃ (q:Nat) (F:Nat->Nat->Int),e=(tab N N F,(q:Int))/\q<=200/\ ∀ i j,i < N->j < N->(F i j).natAbs<=9) (ABn (Q:=fun e=> ∃ (q:Nat) (f:Nat->Int),e=(tab N N (dgF f),(q:Int))/\q<=8/\ ∀ r,r < N->1<=f r/\f r<=6) (AEk (by rw [hN];omega) (ABn (Awt (q0:=0) (L:=L) hN Ab (by omega) hf) fun e he=>ABi ?_)) fun e he=>?_) fun e he=>ABi he
  ·obtain ⟨q,f,rfl,h2,h3⟩:=he;exact ⟨q,f,rfl,by omega,h3⟩
  ·obtain ⟨q,f,rfl,h2,h3⟩:=he;refine ABn (Avg (L:=L) (q0:=q) Ab (by omega) (fun i j hi hj=>Nat.le_trans (Ajl (m:=6) h3 i j hi hj) (by decide)) hf) fun e he=>ABi ?_;obtain ⟨q,F,rfl,h4,h5⟩:=he;exact ⟨q,F,rfl,by omega,h5⟩
 ·rw [hN];refine ABn (Ajk Ae Ab hf) fun F hF=>?_;obtain ⟨F,rfl,hF⟩:=hF;refine AB5 (n:=0) (ADg (by omega)) rfl (AB5 (n:=0) (ACp (by omega)) rfl (ABn (Q:=fun e:Int × Int=>0<=e.1/\e.1 < 3/\ ∃ p:Nat,e.2=(p:Int)/\p<=0 + 1) (ABn (AUb (L:=L) (q:=0) (by omega)) fun e he=>ABi ⟨(AR0 _ 3 (by decide)).1,(AR0 _ 3 (by decide)).2,he⟩) fun e he=>ABi ?_));obtain ⟨c1,c2,p,c3,c4⟩:=he;have c5:=hF 0 0 (by omega) (by omega);refine ⟨p,ADe F 0 fun c=>if c=0 then F 0 0 + e.1 else F 0 c,?_,by omega,fun i j hi hj=>?_⟩
  ·rw [c3,wk (by omega)];refine congrArg (fun z=>(z,(p:Int))) ?_;show (tab N N F).set 0 ((AD5 N (F 0)).set 0 (F 0 0 + e.1))=_;rw [AE6];exact AHl
  ·rw [ACq];split
   ·split
    ·omega
    ·have:=hF 0 j (by omega) hj;omega
   ·have:=hF i j hi hj;omega
 ·rw [hN];refine ABn (Ajk Ae Ab hf) fun F hF=>?_;obtain ⟨F,rfl,hF⟩:=hF;have w1:w64 ((N:Int) - 1)=((N - 1:Nat):Int):=by rw [wk (by omega)];omega
  rw [w1];refine AB5 (ADg (by omega)) rfl (AB5 (ACp (by omega)) rfl (ABn (Q:=fun e:Int × Int=>0<=e.1/\e.1 < 2/\ ∃ p:Nat,e.2=(p:Int)/\p<=0 + 1) (ABn (AUb (L:=L) (q:=0) (by omega)) fun e he=>ABi ⟨(AR0 _ 2 (by decide)).1,(AR0 _ 2 (by decide)).2,he⟩) fun e he=>ABi ?_));obtain ⟨c1,c2,p,c3,c4⟩:=he;have c5:=hF (N - 1) (N - 1) (by omega) (by omega);refine ⟨p,ADe F (N - 1) fun c=>if c=N - 1 then F (N - 1) (N - 1) + e.1 else F (N - 1) c,?_,by omega,fun i j hi hj=>?_⟩
  ·rw [c3,wk (by omega),ADv,ADv];refine congrArg (fun z=>(z,(p:Int))) ?_;rw [AE6];exact AHl
  ·rw [ACq];split
   ·split
    ·omega
    ·have:=hF (N - 1) j (by omega) hj;omega
   ·have:=hF i j hi hj;omega
 ·refine ABn (Q:=fun e=> ∃ (q:Nat) (F:Nat->Nat->Int),e=(tab N N F,(q:Int))/\q<=200/\ ∀ i j,i < N->j < N->(F i j).natAbs<=9) (AEk (by rw [hN];omega) (ABn (Avd (q0:=0) (L:=L) hN Ab (by omega) hf) fun e he=>ABi ?_)) fun e he=>ABi he;obtain ⟨q,f,rfl,h2,h3⟩:=he;exact ⟨q,dgF f,rfl,by omega,fun i j hi hj=>Ajl (m:=9) h3 i j hi hj⟩
 ·refine ABn (Q:=fun e=> ∃ (q:Nat) (F:Nat->Nat->Int),e=(tab N N F,(q:Int))/\q<=200/\ ∀ i j,i < N->j < N->(F i j).natAbs<=9) (AEk (by rw [hN];omega) (ABn (Ave (q0:=0) (L:=L) hN Ab (by omega) hf) fun e he=>ABi ?_)) fun e he=>ABi he;obtain ⟨q,f,rfl,h2,h3⟩:=he;exact ⟨q,dgF f,rfl,by omega,fun i j hi hj=>Nat.le_trans (Ajl (m:=1) h3 i j hi hj) (by decide)⟩
 ·obtain ⟨q,F,rfl,h2,h3⟩:=he;dsimp only;refine ABn (Avh Ae Ab (fun i j hi hj=>Nat.le_trans (h3 i j hi hj) (by decide)) hf) fun b hb=>ACf (fun hn=>?_) fun hn=>ABi ?_
  ·refine ABn (Q:=fun e=> ∃ f:Nat->Int,e.1=tab N N (dgF f)/\ ∀ r,r < N->1<=f r/\f r<=2) (AEk (by rw [hN];omega) (ABn (Avf (q0:=q) (L:=L) hN Ab (by omega) hf) fun e he=>ABi ?_)) fun e he=>ABi ?_
   ·obtain ⟨q,f,rfl,h4,h5⟩:=he;exact ⟨f,rfl,h5⟩
   ·obtain ⟨f,h4,h5⟩:=he;obtain ⟨d1,d2,d3⟩:=Avi Ab h5;exact ⟨N,dgF f,h4,⟨Ae,Ab,d1,d2,fun i j hi hj=>Nat.le_trans (Ajl (m:=2) h5 i j hi hj) (by decide),d3⟩,by rw [t3];omega⟩
  ·have hg:AKd N F/\ALq N F/\det N F<=10000:=hb.1 (by simpa using hn);exact ⟨N,F,rfl,⟨Ae,Ab,hg.1,hg.2.1,h3,hg.2.2⟩,by rw [t3];omega⟩
theorem Avk {fuel:Nat} {a1 a2 most:Int} {L L2:List Int} (h1:0<=a1/\a1 < 256) (hm:1<=most/\most<=8) (hf:AEo < fuel):Ok (AEz fuel a1 a2 L L2 most) fun r=> ∃ n A,r=tab n n A/\1<=n/\(n:Int)<=most/\Ahh n A/\ ∀ k,k < n->A k k<=3 * dm9:=by
  have hf2:100 < fuel:=Nat.lt_of_le_of_lt (by decide) hf;unfold AEz;refine ABn (Avj h1 hm hf2) fun g hg=>?_;obtain ⟨n,A,rfl,G,hn⟩:=hg;have t2:=Int.emod_lt_of_pos a1 (show 0 < most by omega);have t3:Int.tmod a1 most=a1 % most:=Int.tmod_eq_emod_of_nonneg h1.1
  let A0:Nat->Nat->Int:=fun i j=>if i < n/\j < n then A i j else 0
  have hA0:∀ i j,i < n->j < n->A0 i j=A i j:=fun i j hi hj=>if_pos ⟨hi,hj⟩;have e:tab n n A=tab n n A0:=AMo fun i j hi hj=>(hA0 i j hi hj).symm;refine ABn (AC9 (Ahi G.n1 (by have:=G.n8;omega) (fun i j hi hj=>Nat.le_trans (G.bd i j hi hj) (by decide)) (by omega))) fun x hx=>?_;subst hx;rw [e];have hp:ALq n A0:=fun k hk=>by rw [AC6 fun i j hi hj=>hA0 i j (by omega) (by omega)];exact G.pos k hk
  have hs:AKd n A0:=fun i j hi hj=>by rw [hA0 i j hi hj,hA0 j i hj hi];exact G.sym i j hi hj
  have hE:∀ i j,(A0 i j).natAbs<=9:=fun i j=>by
    show (if i < n/\j < n then A i j else 0).natAbs<=9
    split
    · next h=>exact G.bd i j h.1 h.2
    · decide
  have hh:=Aos hs hp (B:=9) (by decide) (fun i hi=>by have:=hE i i;omega)
  refine ABn (Ald G.n1 G.n8 hs hp (fun i j=>Nat.le_trans (hE i j) (by decide)) (fun k hk=>?_) (fun k hk=>?_) ?_ hf) fun r hr=>ABi ?_
  · have h2:=hh k hk
    have h3:(9:Int) ^ k<=9 ^ 8:=by
      have:=Nat.pow_le_pow_right (show 0 < 9 by omega) (show k<=8 by have:=G.n8;omega);have e2:∀ t:Nat,(9:Int) ^ t=((9 ^ t:Nat):Int):=fun t=>by simp
      rw [e2,e2];omega
    exact Int.le_trans h2 h3
  · have:=hE k k;have:(3 * dm9)=129140163:=by decide
    omega
  · rw [AC6 hA0];exact G.dt
  · obtain ⟨A',T,rfl,R,-,-,hd⟩:=hr;exact ⟨n,A',rfl,G.n1,by rw [hn,t3];omega,R,hd⟩
end Go.Proofs.YtiegjkmfpcgjjaaGreatDoor
