/-
  Texts of a proof, joined. Conditions stand in each statement.
-/
import Derived.Lib.SmallJoins
import Derived.Test.YtiegjkmfpcgjjaaGreatDoorMLineLifts3
set_option linter.unusedVariables false
set_option linter.unusedSimpArgs false
namespace Go.Proofs.YtiegjkmfpcgjjaaGreatDoor
open Go Go.QF
set_option maxRecDepth 100000
set_option maxHeartbeats 4000000
def AFb (fuel:Nat) (a1:Int) (a5:LiA) (Ac Aa Ad:Int) (Ae:LiI):Option ((Int × Int × LiI) ⊕ ((Int × LiI))):=
  (if Aa < ((List.replicate (Int.toNat (w64 (1 + (Int.tmod (w64 a1) Ac)))) ([]:List Int)).length:Int) then (if 0<=(w64 (1 + (Int.tmod (w64 a1) Ac)))/\(w64 (1 + (Int.tmod (w64 a1) Ac)))<=100000000 then ((gI Ae Aa).bind fun Ao=>((gI (sI Ae Aa (List.replicate (Int.toNat (w64 (1 + (Int.tmod (w64 a1) Ac)))) (0:Int))) Aa).bind fun Ag=>(((((if (a5.length:Int)<=Ad then (some ( (0,Ad))) else ((gI a5 (w64 ((w64 (Ad + 1)) - 1))).bind fun Ah=>(some ( ((w64 Ah),(w64 (Ad + 1))))))):Option (Int × Int)).bind fun (Ai,Aj)=>(some ( ((Int.tmod (w64 (IntKind.wrap .u8 Ai)) 6),Aj)))):Option (Int × Int)).bind fun (Ak,Am)=>((gI Ag Aa).bind fun Ap=>(some (Sum.inl ((w64 (Aa + 1)),Am,(sI (sI Ae Aa (List.replicate (Int.toNat (w64 (1 + (Int.tmod (w64 a1) Ac)))) (0:Int))) Aa (sI Ag Aa (w64 (1 + Ak))))))))))) else none) else (some (Sum.inr<| (Ad,Ae))))
def AGs (fuel:Nat) (a5:LiA) (Ab Aa Ac:Int) (Ad:LiI):Option ((Int × Int × LiI) ⊕ ((Int × LiI))):=
  (if Aa < Ab then ((gI Ad Ab).bind fun Ae=>(((if (a5.length:Int)<=Ac then (some ( (0,Ac))) else ((gI a5 (w64 ((w64 (Ac + 1)) - 1))).bind fun Ai=>(some ( ((w64 Ai),(w64 (Ac + 1))))))):Option (Int × Int)).bind fun (Af,Aj)=>((gI Ae Aa).bind fun Ao=>((gI (sI Ad Ab (sI Ae Aa (Int.tmod Af 3))) Aa).bind fun Ah=>((gI (sI Ad Ab (sI Ae Aa (Int.tmod Af 3))) Ab).bind fun Ak=>((gI Ak Aa).bind fun Am=>((gI Ah Ab).bind fun Ap=>(some (Sum.inl ((w64 (Aa + 1)),Aj,(sI (sI Ad Ab (sI Ae Aa (Int.tmod Af 3))) Aa (sI Ah Ab Am)))))))))))) else (some (Sum.inr<| (Ac,Ad))))
def AFc (fuel:Nat) (a5:LiA) (Ae:LiI) (Aa Ab:Int) (Ac:LiI):Option ((Int × Int × LiI) ⊕ ((Int × LiI))):=
  (if Aa < (Ae.length:Int) then ((iter (fun s=>AGs fuel a5 Aa s.1 s.2.1 s.2.2) fuel (0,Ab,Ac)).bind (fun ((Af,Ag):Int × LiI)=>(some (Sum.inl ((w64 (Aa + 1)),Af,Ag))))) else (some (Sum.inr<| (Ab,Ac))))
def AE1 (fuel:Nat) (a1:Int) (a5:LiA) (Ac Aa Ad:Int) (Ae:LiI):Option ((Int × Int × LiI) ⊕ ((Int × LiI))):=
  (if Aa < ((List.replicate (Int.toNat (w64 (1 + (Int.tmod (w64 a1) Ac)))) ([]:List Int)).length:Int) then (if 0<=(w64 (1 + (Int.tmod (w64 a1) Ac)))/\(w64 (1 + (Int.tmod (w64 a1) Ac)))<=100000000 then ((gI Ae Aa).bind fun Ao=>((gI (sI Ae Aa (List.replicate (Int.toNat (w64 (1 + (Int.tmod (w64 a1) Ac)))) (0:Int))) Aa).bind fun Ag=>(((((if (a5.length:Int)<=Ad then (some ( (0,Ad))) else ((gI a5 (w64 ((w64 (Ad + 1)) - 1))).bind fun Ah=>(some ( ((w64 Ah),(w64 (Ad + 1))))))):Option (Int × Int)).bind fun (Ai,Aj)=>(some ( ((Int.tmod (w64 (IntKind.wrap .u8 Ai)) 9),Aj)))):Option (Int × Int)).bind fun (Ak,Am)=>((gI Ag Aa).bind fun Ap=>(some (Sum.inl ((w64 (Aa + 1)),Am,(sI (sI Ae Aa (List.replicate (Int.toNat (w64 (1 + (Int.tmod (w64 a1) Ac)))) (0:Int))) Aa (sI Ag Aa (w64 (1 + Ak))))))))))) else none) else (some (Sum.inr<| (Ad,Ae))))
def AE2 (fuel:Nat) (a1:Int) (a5:LiA) (Ac Aa Ad:Int) (Ae:LiI):Option ((Int × Int × LiI) ⊕ ((Int × LiI))):=
  (if Aa < ((List.replicate (Int.toNat (w64 (1 + (Int.tmod (w64 a1) Ac)))) ([]:List Int)).length:Int) then (if 0<=(w64 (1 + (Int.tmod (w64 a1) Ac)))/\(w64 (1 + (Int.tmod (w64 a1) Ac)))<=100000000 then ((gI Ae Aa).bind fun Ao=>((gI (sI Ae Aa (List.replicate (Int.toNat (w64 (1 + (Int.tmod (w64 a1) Ac)))) (0:Int))) Aa).bind fun Ag=>(((((if (a5.length:Int)<=Ad then (some ( (0,Ad))) else ((gI a5 (w64 ((w64 (Ad + 1)) - 1))).bind fun Ah=>(some ( ((w64 Ah),(w64 (Ad + 1))))))):Option (Int × Int)).bind fun (Ai,Aj)=>(some ( ((Int.tmod (w64 (IntKind.wrap .u8 Ai)) 1),Aj)))):Option (Int × Int)).bind fun (Ak,Am)=>((gI Ag Aa).bind fun Ap=>(some (Sum.inl ((w64 (Aa + 1)),Am,(sI (sI Ae Aa (List.replicate (Int.toNat (w64 (1 + (Int.tmod (w64 a1) Ac)))) (0:Int))) Aa (sI Ag Aa (w64 (1 + Ak))))))))))) else none) else (some (Sum.inr<| (Ad,Ae))))
def AE3 (fuel:Nat) (a1:Int) (a5:LiA) (Ac Aa Ad:Int) (Ae:LiI):Option ((Int × Int × LiI) ⊕ ((Int × LiI))):=
  (if Aa < ((List.replicate (Int.toNat (w64 (1 + (Int.tmod (w64 a1) Ac)))) ([]:List Int)).length:Int) then (if 0<=(w64 (1 + (Int.tmod (w64 a1) Ac)))/\(w64 (1 + (Int.tmod (w64 a1) Ac)))<=100000000 then ((gI Ae Aa).bind fun Ao=>((gI (sI Ae Aa (List.replicate (Int.toNat (w64 (1 + (Int.tmod (w64 a1) Ac)))) (0:Int))) Aa).bind fun Ag=>(((((if (a5.length:Int)<=Ad then (some ( (0,Ad))) else ((gI a5 (w64 ((w64 (Ad + 1)) - 1))).bind fun Ah=>(some ( ((w64 Ah),(w64 (Ad + 1))))))):Option (Int × Int)).bind fun (Ai,Aj)=>(some ( ((Int.tmod (w64 (IntKind.wrap .u8 Ai)) 2),Aj)))):Option (Int × Int)).bind fun (Ak,Am)=>((gI Ag Aa).bind fun Ap=>(some (Sum.inl ((w64 (Aa + 1)),Am,(sI (sI Ae Aa (List.replicate (Int.toNat (w64 (1 + (Int.tmod (w64 a1) Ac)))) (0:Int))) Aa (sI Ag Aa (w64 (1 + Ak))))))))))) else none) else (some (Sum.inr<| (Ad,Ae))))
def AEv (fuel:Nat) (a1 a2:Int) (a5 a9:LiA) (Aa:Int):Option LiI:=
  (if Aa≠0 then (((((if (Int.tmod a2 8)=0 then (some ( (decide ((Int.tmod a2 8)=0)))) else (if (Int.tmod a2 8)=1 then (some ( (decide ((Int.tmod a2 8)=1)))) else (if (Int.tmod a2 8)=2 then (some ( (decide ((Int.tmod a2 8)=2)))) else (some ( (decide ((Int.tmod a2 8)=3))))))):Option ((Bool))).bind (fun (Ak:Bool)=>(if Ak=true then (((((if 0<=(w64 (1 + (Int.tmod (w64 a1) Aa)))/\(w64 (1 + (Int.tmod (w64 a1) Aa)))<=100000000 then ((iter (fun s=>AFb fuel a1 a5 Aa s.1 s.2.1 s.2.2) fuel (0,0,(List.replicate (Int.toNat (w64 (1 + (Int.tmod (w64 a1) Aa)))) ([]:List Int)))).bind (fun ((Am,Ao):Int × LiI)=>(some ( (Ao,Am))))) else none):Option (LiI × Int)).bind fun (Ae,Ap)=>((iter (fun s=>AFc fuel a5 Ae s.1 s.2.1 s.2.2) fuel (0,Ap,Ae)).bind (fun ((Aq,Ar):Int × LiI)=>(some ( (Ar,Aq)))))):Option (LiI × Int)).bind fun (Au,Av)=>(some ( (Au,Av)))) else (if (Int.tmod a2 8)=4 then ((AFv fuel (w64 (1 + (Int.tmod (w64 a1) Aa))) false).bind fun Af=>((gI Af 0).bind fun Ag=>((gI Ag 0).bind fun Aw=>(((((if (a5.length:Int)<=0 then (some ( (0,0))) else ((gI a5 (w64 ((w64 (0 + 1)) - 1))).bind fun Ax=>(some ( ((w64 Ax),(w64 (0 + 1))))))):Option (Int × Int)).bind fun (Ay,Az)=>(some ( ((Int.tmod (w64 (IntKind.wrap .u8 Ay)) 3),Az)))):Option (Int × Int)).bind fun (A3,A4)=>(some ( ((sI Af 0 (sI Ag 0 (w64 (Aw + A3)))),A4))))))) else (if (Int.tmod a2 8)=5 then ((AFv fuel (w64 (1 + (Int.tmod (w64 a1) Aa))) true).bind fun Ah=>((gI Ah (w64 ((w64 (1 + (Int.tmod (w64 a1) Aa))) - 1))).bind fun Ai=>((gI Ai (w64 ((w64 (1 + (Int.tmod (w64 a1) Aa))) - 1))).bind fun A5=>(((((if (a5.length:Int)<=0 then (some ( (0,0))) else ((gI a5 (w64 ((w64 (0 + 1)) - 1))).bind fun A6=>(some ( ((w64 A6),(w64 (0 + 1))))))):Option (Int × Int)).bind fun (A7,A8)=>(some ( ((Int.tmod (w64 (IntKind.wrap .u8 A7)) 2),A8)))):Option (Int × Int)).bind fun (A9,Ba)=>(some ( ((sI Ah (w64 ((w64 (1 + (Int.tmod (w64 a1) Aa))) - 1)) (sI Ai (w64 ((w64 (1 + (Int.tmod (w64 a1) Aa))) - 1)) (w64 (A5 + A9)))),Ba))))))) else (if (Int.tmod a2 8)=6 then (((if 0<=(w64 (1 + (Int.tmod (w64 a1) Aa)))/\(w64 (1 + (Int.tmod (w64 a1) Aa)))<=100000000 then ((iter (fun s=>AE1 fuel a1 a5 Aa s.1 s.2.1 s.2.2) fuel (0,0,(List.replicate (Int.toNat (w64 (1 + (Int.tmod (w64 a1) Aa)))) ([]:List Int)))).bind (fun ((Bb,Bc):Int × LiI)=>(some ( (Bc,Bb))))) else none):Option (LiI × Int)).bind fun (Be,Bf)=>(some ( (Be,Bf)))) else (((if 0<=(w64 (1 + (Int.tmod (w64 a1) Aa)))/\(w64 (1 + (Int.tmod (w64 a1) Aa)))<=100000000 then ((iter (fun s=>AE2 fuel a1 a5 Aa s.1 s.2.1 s.2.2) fuel (0,0,(List.replicate (Int.toNat (w64 (1 + (Int.tmod (w64 a1) Aa)))) ([]:List Int)))).bind (fun ((Bg,Bh):Int × LiI)=>(some ( (Bh,Bg))))) else none):Option (LiI × Int)).bind fun (Bi,Bj)=>(some ( (Bi,Bj)))))))))):Option ((LiI × Int))).bind (fun ((Aj,Bl):LiI × Int)=>((AHq fuel Aj).bind fun Bm=>(if (!Bm)=true then (((if 0<=(w64 (1 + (Int.tmod (w64 a1) Aa)))/\(w64 (1 + (Int.tmod (w64 a1) Aa)))<=100000000 then ((iter (fun s=>AE3 fuel a1 a5 Aa s.1 s.2.1 s.2.2) fuel (0,Bl,(List.replicate (Int.toNat (w64 (1 + (Int.tmod (w64 a1) Aa)))) ([]:List Int)))).bind (fun ((Bn,Bo):Int × LiI)=>(some ( (Bo,Bn))))) else none):Option (LiI × Int)).bind fun (Bp,Br)=>(some Bp)) else (some Aj))))) else none)
theorem AM4 {fuel:Nat} {h:ABg} {a1 a2:Int} {Ab:Value} {a5:LiA} {Cb:Value} {a9:LiA} {Af:Int} {r:LiI} (H4:SlC (cI .i8) h Ab a5) (H8:SlC (cI .i8) h Cb a9) (hp:AEv fuel a1 a2 a5 a9 Af=some r):AB8 Tryz.prog 30 #[(.agg #[(.int .u8 a1),(.int .u8 a2),Ab,Cb]),(.int .i64 Af)] h (fun x h'=>Ext h h'/\ ∃ (x0:Value) (F0:List Nat) (Iu:List LnA) (Iv:List Value),x=x0/\AE8 (cI .i64) 23 2 h' F0 Iu Iv x0 r/\Sp h' h.size [F0]):=by
 unfold AEv at hp;refine cwf (l:=[_,_]) Tryz.func30 rfl rfl (ABh (AHz [(.int .u8 a1),(.int .u8 a2),Ab,Cb] trivial tt2 rfl rfl fun Wk Wl Iw Ix Iy=>ACq (AIo Aop rfl ?_)));have Cd:=(Kst.k0 h).nb Ix Iy Iw;refine AB3 AOn rfl ((Cd.b p0).cell (i:=2) rfl) ?_;obtain ⟨_,_,_,Iz⟩:=(H4.ext Cd.x).shape;refine ALt (v:=(.agg #[Ab,(.int .i64 0)])) (fun _=>by subst Iz;kernel_rfl) (AHz [Ab,(.int .i64 0)] trivial tt2 rfl rfl fun Aa Wm I0 I1 I2=>ACq (AIo Aon rfl ?_));have A4:=Cd.nb I1 I2 I0;refine AB3 Ap0 rfl ((A4.b p1).cell (i:=0) rfl) (ALn APc APm rfl (Wj ?_));obtain ⟨I3,I6⟩:=ifN hp;refine AFq rfl rfl I3 (ACw rfl rfl (ACq (ABp ?_)));obtain ⟨I7,I9,D9⟩:=ABk I6;refine AMd 147573952589676150912 (fun x:(LiI) × (Value) × LnA × LnN × LvA × (Int)=>[(7,x.2.1)]) (fun x h'=>( (x.1,x.2.2.2.2.2))=I7/\Kst h h' (aO2 (cI .i64) 23 2 x.2.2.1 x.2.2.2.1 x.2.2.2.2.1 x.2.1 x.1 :: ((AIk A4.L [0]).set 0 (aB 76 Aa [Ab,(.int .i64 x.2.2.2.2.2)])))) ?_ ?_
 ·refine ABh (AIo Aoo rfl (AB3 Ap0 rfl ((A4.b p1).cell (i:=1) rfl) (AFq rfl rfl (by decide) (ABn (ABo ?_)))));obtain ⟨Ja,Ea,Ce⟩:=ABk I9;refine AMd 520093696 (fun x:(Bool)=>[(24,(.bool x))]) (fun x h'=>( x)=Ja/\Kst h h' (AIk A4.L [0])) ?_ ?_
  ·refine ABh (ADo rfl rfl (ABp (⟨_,rfl,fun Cf=>?_,fun Cf=>?_⟩)))
   ·refine ABq (q_t ?_);exact ⟨((decide ((Int.tmod a2 8)=0)):(Bool)),⟨ABi (AC0 Ea Cf),A4.sel [0] (by decide)⟩,rfl,trivial⟩
   ·refine ABh (ADo rfl rfl (ABp ?_));have Eb:=AC1 Ea Cf;refine ⟨_,rfl,fun Cg=>?_,fun Cg=>?_⟩
    ·refine ABq (q_t ?_);exact ⟨((decide ((Int.tmod a2 8)=1)):(Bool)),⟨ABi (AC0 Eb Cg),A4.sel [0] (by decide)⟩,rfl,trivial⟩
    ·refine ABh (ADo rfl rfl (ABp ?_));have Ec:=AC1 Eb Cg;refine ⟨_,rfl,fun Ch=>?_,fun Ch=>?_⟩
     ·refine ABq (q_t ?_);exact ⟨((decide ((Int.tmod a2 8)=2)):(Bool)),⟨ABi (AC0 Ec Ch),A4.sel [0] (by decide)⟩,rfl,trivial⟩
     ·refine ABw (ADo rfl rfl (ABp ?_));exact ⟨((decide ((Int.tmod a2 8)=3)):(Bool)),⟨ABi (AC1 Ec Ch),A4.sel [0] (by decide)⟩,rfl,trivial⟩
  rintro Jc Je Jf ⟨Jg,Ao⟩;(try dsimp only [Kst.L,List.set,AIk,ALl] at Ao);refine (show W _ _ _ (setL [(24,(.bool Jc))] (mix _ Je _)) Jf from ?_);subst Jg;(try dsimp only at Ce);refine ⟨_,rfl,fun Ci=>?_,fun Ci=>?_⟩
  ·refine ABw (Wj (Wj ?_));obtain ⟨Jh,Ji,Ed⟩:=ABk (ifT Ce Ci);refine ACo (K':=(fun xr h'=> ∃ x:(LiI) × (Value) × LnA × LnN × LvA × (Int),(x.1,x.2.2.2.2.2)=Jh/\xr=x.2.1/\Kst h h' (aO2 (cI .i64) 23 2 x.2.2.1 x.2.2.2.1 x.2.2.2.2.1 x.2.1 x.1 :: (Ao.L.set 0 (aB 76 Aa [Ab,(.int .i64 x.2.2.2.2.2)]))))) trivial rfl ?_ fun Ee Wn Jj=>?_
   ·refine cwf (l:=[_,_]) Tryz.func60 rfl rfl (ABh (ACq (Wj (Wj ?_))));obtain ⟨Jk,Jl,Ef⟩:=ABk Ji;refine ACo (K':=(fun xr h'=> ∃ x:(LiI) × (Value) × LnA × LnN × LvA × (Int),(x.1,x.2.2.2.2.2)=Jk/\xr=x.2.1/\Kst h h' (aO2 (cI .i64) 23 2 x.2.2.1 x.2.2.2.1 x.2.2.2.2.1 x.2.1 x.1 :: (Ao.L.set 0 (aB 76 Aa [Ab,(.int .i64 x.2.2.2.2.2)]))))) trivial rfl ?_ fun Bp Wo Jm=>?_
    ·refine cwf (l:=[_,_,_]) Tryz.func63 rfl rfl (ABh (ACq (Wj ?_)));obtain ⟨Jn,Jo⟩:=ifN Jl;refine AUh (cI .i64) 2 AB1 ALx rfl trivial tt2 rfl rfl (by decide) Jn fun Jp Jq Jr Eg Wp Js Jt Ju=>ABp (ABl (ABh (Wj ?_)));have Cj:=Ao.no2 Jt Ju Js;refine ADf AB1 rfl (Cj.o2 p0).rd (Wj (ABn (ABo ?_)));obtain ⟨Eh,Jv,Ei⟩:=ABk Jo;obtain ⟨Jw,Jx,Jy⟩:=ACe Jv;refine ACg 4294959360 (fun x:(Int) × (Int) × (LiI) × LnA × LnN × LvA=>[(13,(.int .i64 x.1))]) (fun k x h'=>iter Jw k (x.1,x.2.1,x.2.2.1)=some Eh/\Kst h h' ((Cj.L.set 0 (aO2 (cI .i64) 23 2 x.2.2.2.1 x.2.2.2.2.1 x.2.2.2.2.2 Eg x.2.2.1)).set 1 (aB 76 Aa [Ab,(.int .i64 x.2.1)]))) (by kernel_rfl) fuel ((0,0,(List.replicate (Int.toNat (w64 (1 + (Int.tmod (w64 a1) Af)))) ([]:List Int)),Jp,Jq,Jr):(Int) × (Int) × (LiI) × LnA × LnN × LvA) ?_ ⟨rfl,trivial⟩ ?_
     ·exact ⟨Jy,Cj⟩
     rintro Wq ⟨Ap,Bq,Ej,Jz,Ck,Ek⟩ J0 J1 ⟨J2,Cm⟩;(try dsimp only [Kst.L,List.set,AIk,ALl] at Cm);refine (show W _ _ _ (setL [(13,(.int .i64 Ap))] (mix _ J0 _)) J1 from ?_);obtain ⟨J3,Wr,rfl,Ba,Cn⟩:=AB2 J2;rw [Jx] at Ba;dsimp only at Ba;unfold AFb at Ba;refine ABh (ACx rfl rfl (ABn (ABl (⟨_,rfl,fun Co=>?_,fun Co=>?_⟩))))
     ·refine ABq (q_t (ABl (ABo (ABh (Wj (ACq (Wj (Wj (Wj ?_)))))))));obtain ⟨J4,J5⟩:=ifN (AC0 Ba Co);refine AQz (c:=(cI .i64)) (a:=0) ABt AHa rfl rfl (fun _=>rfl) rfl trivial tt2 rfl rfl (by decide) J4 fun El J6 Ws J7 J8 J9 Ka=>?_;have Bb:=Cm.no J8 (AGm J9 Ka) J7;obtain ⟨Wt,Em,Kb⟩:=ABk J5;refine ADl AB1 rfl (Bb.o2 p1) rfl Em fun Kc Wu Kd Wv Ww=>AVz ACn (Bb.o2 p1) Em Kd rfl rfl (Bb.o p0) (Bb.dj p0 p1 (by decide)) fun Av Ke Kf Kg=>ABn (AEb (fun h'=>UpT ([Aa] ++ []) Av h') (by kernel_rfl) ?_);have Ah:=Bb.m2 p0 p1 (by decide) Kf Ke (fun z hz=> .inl (Kg z hz));have Cp:UpT ([Aa] ++ []) Av Av:=UpT.start (AD3 (AGd (Ah.b p2) rfl) all_nil);refine Wj (Wj ?_);obtain ⟨Kh,Cq,Ki⟩:=ABk Kb;refine ADl AB1 rfl (Ah.o2 p1) rfl Cq fun Wx Wy Kj Kk Kl=>AFr ACn rfl Cp (fun h' hb=>AKd Kl hb (APu (Ah.dj p1 p2 (by decide) _ (by simp [aO,aO2,Kj])) APv)) (Wj (Wj (Wj ?_)));obtain ⟨Km,Kn,En⟩:=ABk Ki;have Ko:UpT ([Aa] ++ []) Av Av:=UpT.start (AD3 (AGd (Ah.b p2) rfl) all_nil);refine ACo (K':=(fun xr h'=> ∃ x:(Int) × (Int),(x.1,x.2)=Km/\xr=(.int .i64 x.1)/\Kst h h' ((AIk Ah.L [1,2]).set 1 (aB 76 Aa [Ab,(.int .i64 x.2)]))/\UpT ([Aa] ++ []) Av h')) Cp rfl ?_ fun Wz W0 Kp=>?_
      ·refine cwf (l:=[_,_]) Tryz.func62 rfl rfl (ABh (ACq (Wj ?_)));obtain ⟨Kr,Eo,Ep⟩:=ABk Kn;have Er:UpT ([Aa] ++ []) Av Av:=UpT.start (AD3 (AGd (Ah.b p2) rfl) all_nil);refine ACo (K':=(fun xr h'=> ∃ x:(Int) × (Int),(x.1,x.2)=Kr/\xr=(.int .i64 x.1)/\Kst h h' ((AIk Ah.L [1,2]).set 1 (aB 76 Aa [Ab,(.int .i64 x.2)]))/\UpT ([Aa] ++ []) Av h')) trivial rfl ?_ fun W1 W3 Kt=>?_
       ·refine cwf (l:=[_]) Tryz.func50 rfl rfl (ABh (ABp (ABl (ABl (AMe (Wj (AI6 rfl (AIo AD4 rfl (AB3 AFh rfl ((Ah.b p2).cell (i:=1) rfl) (Wj (AI6 rfl (AIo AIz rfl (AB3 AOn rfl ((Ah.b p2).cell (i:=0) rfl) (ADs APb rfl H4 (AL0 rfl rfl (ABn (⟨_,rfl,fun Cr=>?_,fun Cr=>?_⟩)))))))))))))))))
        ·refine ABh (ABp (ABr (ABz (⟨_,ABs,((0,Bq):(Int) × (Int)),?_,rfl,?_,?_⟩))))
         ·exact ABi (AC0 Eo Cr)
         ·exact Ah.sel [1,2] (by decide)
         ·exact Er
        ·refine ABq (q_t (ABh (Wj (AI6 rfl (AIo AD4 rfl (AB3 AFh rfl ((Ah.b p2).cell (i:=1) rfl) (ACw rfl rfl (AI6 rfl (AIo AD4 rfl (AUc [Ab,(.int .i64 (w64 (Bq + 1)))] AFh rfl rfl rfl (Ah.b p2) (Nat.le_of_ble_eq_true rfl) rfl fun W4 Es Et=>ABn (ABl (AMe (Wj (AI6 rfl (AIo AIz rfl ?_)))))))))))))));have Br:=Ah.sb p2 Et Es rfl;refine AB3 AOn rfl ((Br.b p2).cell (i:=0) rfl) (Wj (AI6 rfl (AIo AD4 rfl (AB3 AFh rfl ((Br.b p2).cell (i:=1) rfl) (AGb rfl rfl ?_)))));obtain ⟨Ku,Kv,Kw⟩:=ABk (AC1 Eo Cr);refine AIc (c:=(cI .i8)) APb rfl H4 rfl Kv fun W5 W6 W7 Kx Ky=>?_;obtain rfl:=Kx;refine AB3 AW6 rfl (ABv (Ky 0 _ rfl) Br.x) (ALn AW7 AKw rfl (ABp (ABr (⟨_,ABs,(((w64 Ku),(w64 (Bq + 1))):(Int) × (Int)),?_,rfl,?_,?_⟩))))
         ·exact ABi Kw
         ·exact Br.sel [1,2] (by decide)
         ·exact (Er.then (Es.stA Et (AGd (Ah.b p2) rfl) rfl) (ALc rfl))
       obtain ⟨⟨Kz,K3⟩,K5,rfl,Eu,K6⟩:=Kt;(try dsimp only [Kst.L,List.set,AIk,ALl] at Eu);refine ⟨trivial,?_⟩;subst K5;(try dsimp only at Ep);refine ALn AKw APc rfl (ALn APc APm rfl (Wj (AFq rfl rfl (by decide) (ABp (ABr (⟨_,ABs,(((Int.tmod (w64 (IntKind.wrap .u8 Kz)) 6),K3):(Int) × (Int)),?_,rfl,?_,?_⟩))))))
       ·exact ABi Ep
       ·exact Eu
       ·exact (Ko.then K6 (AD3 (ALc rfl) all_nil))
      obtain ⟨⟨Ev,K9⟩,La,rfl,Ct,Lb⟩:=Kp;(try dsimp only [Kst.L,List.set,AIk,ALl] at Ct);refine ⟨(Cp.then Lb (AD3 (ALc rfl) all_nil)),?_⟩;subst La;(try dsimp only at En);refine ACw rfl rfl ?_;obtain ⟨W8,Ew,Lc⟩:=ABk En;refine AEx (m:=Ap) ABt rfl (Ah.o2 p1) Kk Cq rfl Ew fun W9 Ld=>AJd (m:=Ap) (AFy ACm rfl rfl rfl) (Ct.o2 p0) Ld Cq Ew (show ((cI .i64)).rep _ (w64 (1 + Ev)) _ from rfl) fun Xa Le Lf=>ACh (q_b (q_t (ABw (ACw rfl rfl (Wj (ABn ?_))))));obtain rfl:=ABi Lc;exact ⟨J3,(((w64 (Ap + 1)),K9,(sI (sI Ej Ap (List.replicate (Int.toNat (w64 (1 + (Int.tmod (w64 a1) Af)))) (0:Int))) Ap (sI Kh Ap (w64 (1 + Ev)))),(Kc :: (Ck.set (Int.toNat Ap) [El]).flatten),(Ck.set (Int.toNat Ap) [El]),(Ek.set (Int.toNat Ap) J6)):(Int) × (Int) × (LiI) × LnA × LnN × LvA),Nat.lt_succ_self _,⟨Cn,(Ct.uO2 p0 Lf Le)⟩,rfl,trivial⟩
     ·obtain rfl:=ABi (AC1 Ba Co);change _=Eh at Cn;subst Cn;(try dsimp only at Ei);refine AB9 (AB7 (AB7 (ADh (q_t (ABh (Wj (ABp (ABr (⟨_,ABs,((Ej,Eg,Jz,Ck,Ek,Bq):(LiI) × (Value) × LnA × LnN × LvA × (Int)),?_,rfl,?_⟩)))))))))
      ·exact ABi Ei
      ·exact Cm
    obtain ⟨⟨Lg,Bp,Lh,Li,Lj,Lk⟩,Ll,rfl,Bt⟩:=Jm;(try dsimp only [Kst.L,List.set,AIk,ALl] at Bt);refine ⟨trivial,?_⟩;subst Ll;(try dsimp only at Ef);refine ABp (ABl (ABh (Wj (ADf AB1 rfl (Bt.o2 p0).rd (Wj (ABn (ABo ?_)))))));obtain ⟨Ey,Lm,Ez⟩:=ABk Ef;obtain ⟨Ln,Lo,Lq⟩:=ACe Lm;refine ACg 17592186036416 (fun x:(Int) × (Int) × (LiI) × LnA × LnN × LvA=>[(13,(.int .i64 x.1))]) (fun k x h'=>iter Ln k (x.1,x.2.1,x.2.2.1)=some Ey/\Kst h h' ((Bt.L.set 0 (aO2 (cI .i64) 23 2 x.2.2.2.1 x.2.2.2.2.1 x.2.2.2.2.2 Bp x.2.2.1)).set 1 (aB 76 Aa [Ab,(.int .i64 x.2.1)]))) (by kernel_rfl) fuel ((0,Lk,Lg,Lh,Li,Lj):(Int) × (Int) × (LiI) × LnA × LnN × LvA) ?_ ⟨rfl,trivial⟩ ?_
    ·exact ⟨Lq,Bt⟩
    rintro Xb ⟨A6,Fa,Fb,Fc,Fd,Fe⟩ Lr Lu ⟨Lv,Bu⟩;(try dsimp only [Kst.L,List.set,AIk,ALl] at Bu);refine (show W _ _ _ (setL [(13,(.int .i64 A6))] (mix _ Lr _)) Lu from ?_);obtain ⟨Lw,Xc,rfl,Bc,Cu⟩:=AB2 Lv;rw [Lo] at Bc;dsimp only at Bc;unfold AFc at Bc;refine ABh (ACx rfl rfl (ABn (ABl (⟨_,rfl,fun Cv=>?_,fun Cv=>?_⟩))))
    ·refine ABq (q_t (ABl (ABo (ABh (Wj (ACq (ABp (ABo ?_))))))));obtain ⟨Ff,Lx,Fg⟩:=ABk (AC0 Bc Cv);obtain ⟨Ly,Lz,Ma⟩:=ACe Lx;refine ACg 8796092956800 (fun x:(Int) × (Int) × (LiI) × LnA × LnN × LvA=>[(7,(.int .i64 x.1))]) (fun k x h'=>iter Ly k (x.1,x.2.1,x.2.2.1)=some Ff/\Kst h h' ((Bu.L.set 0 (aO2 (cI .i64) 23 2 x.2.2.2.1 x.2.2.2.2.1 x.2.2.2.2.2 Bp x.2.2.1)).set 1 (aB 76 Aa [Ab,(.int .i64 x.2.1)]))) (by kernel_rfl) fuel ((0,Fa,Fb,Fc,Fd,Fe):(Int) × (Int) × (LiI) × LnA × LnN × LvA) ?_ ⟨rfl,trivial⟩ ?_
     ·exact ⟨Ma,Bu⟩
     rintro Xd ⟨A9,Bv,Fh,Fi,Fj,Fk⟩ Mb A7 ⟨Mc,Ai⟩;(try dsimp only [Kst.L,List.set,AIk,ALl] at Ai);refine (show W _ _ _ (setL [(7,(.int .i64 A9))] (mix _ Mb _)) A7 from ?_);obtain ⟨Md,Xe,rfl,Be,Cw⟩:=AB2 Mc;rw [Lz] at Be;dsimp only at Be;unfold AGs at Be;refine ABl (ABh (Wj (Wj (ACx rfl rfl (ABn (⟨_,rfl,fun Cx=>?_,fun Cx=>?_⟩))))))
     ·refine ABq (q_t (ABl (ABo (ABl (AEb (fun h'=>UpT ([Aa] ++ []) A7 h') (by kernel_rfl) ?_)))));have Cy:UpT ([Aa] ++ []) A7 A7:=UpT.start (AD3 (AGd (Ai.b p1) rfl) all_nil);refine Wj (Wj ?_);obtain ⟨Me,Cz,Mf⟩:=ABk (AC0 Be Cx);refine ADl AB1 rfl (Ai.o2 p0) rfl Cz fun Xf Xg Mg Mh Mi=>AFr ACn rfl Cy (fun h' hb=>AKd Mi hb (APu (Ai.dj p0 p1 (by decide) _ (by simp [aO,aO2,Mg])) APv)) (Wj (Wj ?_));obtain ⟨Mj,Fl,Fm⟩:=ABk Mf;have Fo:UpT ([Aa] ++ []) A7 A7:=UpT.start (AD3 (AGd (Ai.b p1) rfl) all_nil);refine ACo (K':=(fun xr h'=> ∃ x:(Int) × (Int),(x.1,x.2)=Mj/\xr=(.int .i64 x.1)/\Kst h h' (Ai.L.set 1 (aB 76 Aa [Ab,(.int .i64 x.2)]))/\UpT ([Aa] ++ []) A7 h')) Cy rfl ?_ fun Xh Xi Mk=>?_
      ·refine cwf (l:=[_]) Tryz.func50 rfl rfl (ABh (ABp (ABl (ABl (AMe (Wj (AI6 rfl (AIo AD4 rfl (AB3 AFh rfl ((Ai.b p1).cell (i:=1) rfl) (Wj (AI6 rfl (AIo AIz rfl (AB3 AOn rfl ((Ai.b p1).cell (i:=0) rfl) (ADs APb rfl H4 (AL0 rfl rfl (ABn (⟨_,rfl,fun C0=>?_,fun C0=>?_⟩)))))))))))))))))
       ·refine ABh (ABp (ABr (ABz (⟨_,ABs,((0,Bv):(Int) × (Int)),?_,rfl,?_,?_⟩))))
        ·exact ABi (AC0 Fl C0)
        ·exact Ai
        ·exact Fo
       ·refine ABq (q_t (ABh (Wj (AI6 rfl (AIo AD4 rfl (AB3 AFh rfl ((Ai.b p1).cell (i:=1) rfl) (ACw rfl rfl (AI6 rfl (AIo AD4 rfl (AUc [Ab,(.int .i64 (w64 (Bv + 1)))] AFh rfl rfl rfl (Ai.b p1) (Nat.le_of_ble_eq_true rfl) rfl fun Xj Fp Fq=>ABn (ABl (AMe (Wj (AI6 rfl (AIo AIz rfl ?_)))))))))))))));have Bw:=Ai.sb p1 Fq Fp rfl;refine AB3 AOn rfl ((Bw.b p1).cell (i:=0) rfl) (Wj (AI6 rfl (AIo AD4 rfl (AB3 AFh rfl ((Bw.b p1).cell (i:=1) rfl) (AGb rfl rfl ?_)))));obtain ⟨Ml,Mm,Mo⟩:=ABk (AC1 Fl C0);refine AIc (c:=(cI .i8)) APb rfl H4 rfl Mm fun Xk Xl Xm Mq Mr=>?_;obtain rfl:=Mq;refine AB3 AW6 rfl (ABv (Mr 0 _ rfl) Bw.x) (ALn AW7 AKw rfl (ABp (ABr (⟨_,ABs,(((w64 Ml),(w64 (Bv + 1))):(Int) × (Int)),?_,rfl,?_,?_⟩))))
        ·exact ABi Mo
        ·exact Bw
        ·exact (Fo.then (Fp.stA Fq (AGd (Ai.b p1) rfl) rfl) (ALc rfl))
      obtain ⟨⟨Fr,Ms⟩,Mt,rfl,C1,Mu⟩:=Mk;(try dsimp only [Kst.L,List.set,AIk,ALl] at C1);refine ⟨(Cy.then Mu (AD3 (ALc rfl) all_nil)),?_⟩;subst Mt;(try dsimp only at Fm);refine AFq rfl rfl (by decide) ?_;obtain ⟨Xn,Ft,Mv⟩:=ABk Fm;refine AEx (m:=A6) ABt rfl (Ai.o2 p0) Mh Cz rfl Ft fun Xo Mw=>AJd (m:=A6) (AFy ACm rfl rfl rfl) (C1.o2 p0) Mw Cz Ft (show ((cI .i64)).rep _ (Int.tmod Fr 3) _ from rfl) fun Xp Mx My=>ABn (AMe (Wj (Wj ?_)));have A8:=C1.uO2 p0 My Mx;obtain ⟨Mz,C2,M0⟩:=ABk Mv;refine ADl AB1 rfl (A8.o2 p0) rfl C2 fun Xq Xr Xt M1 M2=>AB3 ACn rfl M2 (Wj (Wj (Wj ?_)));obtain ⟨Xu,C3,M3⟩:=ABk M0;refine ADl AB1 rfl (A8.o2 p0) rfl C3 fun Xv Xw Xx M4 M5=>AB3 ACn rfl M5 (Wj ?_);obtain ⟨Fu,Fv,M6⟩:=ABk M3;refine AEx (m:=A6) ABt rfl (A8.o2 p0) M4 C3 rfl Fv fun Xy M7=>?_;obtain ⟨Xz,M8,M9⟩:=(A8.o2 p0).cells M7 C3 Fv;obtain rfl:=M8;refine AB3 ACm rfl (M9 0 _ rfl) ?_;obtain ⟨X0,Fw,Na⟩:=ABk M6;refine AEx (m:=A9) ABt rfl (A8.o2 p0) M1 C2 rfl Fw fun X3 Nb=>AJd (m:=A9) (AFy ACm rfl rfl rfl) (A8.o2 p0) Nb C2 Fw (show ((cI .i64)).rep _ Fu _ from rfl) fun X4 Nc Nd=>ACh (q_b (q_t (ABw (Wj (ACw rfl rfl (ABp ?_))))));obtain rfl:=ABi Na;exact ⟨Md,(((w64 (A9 + 1)),Ms,(sI (sI Fh A6 (sI Me A9 (Int.tmod Fr 3))) A9 (sI Mz A6 Fu)),Fi,Fj,Fk):(Int) × (Int) × (LiI) × LnA × LnN × LvA),Nat.lt_succ_self _,⟨Cw,(A8.uO2 p0 Nd Nc)⟩,rfl,trivial⟩
     ·obtain rfl:=ABi (AC1 Be Cx);change _=Ff at Cw;subst Cw;(try dsimp only at Fg);refine AB9 (AB7 (AB7 (ADh (q_b (q_t (ABw (ACw rfl rfl (Wj (ABn ?_)))))))));obtain rfl:=ABi Fg;exact ⟨Lw,(((w64 (A6 + 1)),Bv,Fh,Fi,Fj,Fk):(Int) × (Int) × (LiI) × LnA × LnN × LvA),Nat.lt_succ_self _,⟨Cu,Ai⟩,rfl,trivial⟩
    ·obtain rfl:=ABi (AC1 Bc Cv);change _=Ey at Cu;subst Cu;(try dsimp only at Ez);refine AB9 (AB7 (AB7 (ADh (q_t (ABh (Wj (ABp (ABr (⟨_,ABs,((Fb,Bp,Fc,Fd,Fe,Fa):(LiI) × (Value) × LnA × LnN × LvA × (Int)),?_,rfl,?_⟩)))))))))
     ·exact ABi Ez
     ·exact Bu
   obtain ⟨⟨Nf,Ee,Ng,Nh,Ni,Nj⟩,Nk,rfl,Fx⟩:=Jj;(try dsimp only [Kst.L,List.set,AIk,ALl] at Fx);refine ⟨trivial,?_⟩;subst Nk;(try dsimp only at Ed);refine ACd (ACh (q_b (q_t ?_)));exact ⟨((Nf,Ee,Ng,Nh,Ni,Nj):(LiI) × (Value) × LnA × LnN × LvA × (Int)),⟨ABi Ed,Fx⟩,rfl,trivial⟩
  ·refine ABh (ADo rfl rfl (ABp ?_));have Fy:=ALj Ce Ci;refine ⟨_,rfl,fun C4=>?_,fun C4=>?_⟩
   ·refine ABh (Wj ?_);obtain ⟨Nl,Nm,Nn⟩:=ABk (AC0 Fy C4);refine AC2 rfl (AL7 Nm) fun Np Aw Nq Nr=>?_;obtain ⟨X5,Ns,Nt,Nu,rfl,Nv,Nw⟩:=Nr;refine ABp (AEb (fun h'=>UpT ([Aa] ++ []) Aw h') (by kernel_rfl) ?_);have Ac:=Ao.no2 Nq Nw Nv;have Bx:UpT ([Aa] ++ []) Aw Aw:=UpT.start (AD3 (AGd (Ac.b p1) rfl) all_nil);refine Wj ?_;obtain ⟨Ny,Bf,Nz⟩:=ABk Nn;refine ADl AB1 rfl (Ac.o2 p0) rfl Bf fun X6 X8 N0 Fz N3=>AFr ACn rfl Bx (fun h' hb=>AKd N3 hb (APu (Ac.dj p0 p1 (by decide) _ (by simp [aO,aO2,N0])) APv)) ?_;obtain ⟨F4,By,N4⟩:=ABk Nz;refine AEx (m:=0) ABt rfl (Ac.o2 p0) Fz Bf rfl By fun Ya F5=>?_;obtain ⟨Yb,N5,N6⟩:=(Ac.o2 p0).cells F5 Bf By;obtain rfl:=N5;refine AFr ACm rfl Bx (fun h' hb=>AKd (N6 0 _ rfl) hb (APu (Ac.dj p0 p1 (by decide) _ ((Ac.o2 p0).gmem F5)) APv)) (Wj ?_);obtain ⟨N7,N8,F6⟩:=ABk N4;have N9:UpT ([Aa] ++ []) Aw Aw:=UpT.start (AD3 (AGd (Ac.b p1) rfl) all_nil);refine ACo (K':=(fun xr h'=> ∃ x:(Int) × (Int),(x.1,x.2)=N7/\xr=(.int .i64 x.1)/\Kst h h' (Ac.L.set 1 (aB 76 Aa [Ab,(.int .i64 x.2)]))/\UpT ([Aa] ++ []) Aw h')) Bx rfl ?_ fun Yc Yd Oa=>?_
    ·refine cwf (l:=[_,_]) Tryz.func62 rfl rfl (ABh (ACq (Wj ?_)));obtain ⟨Ob,F7,F8⟩:=ABk N8;have F9:UpT ([Aa] ++ []) Aw Aw:=UpT.start (AD3 (AGd (Ac.b p1) rfl) all_nil);refine ACo (K':=(fun xr h'=> ∃ x:(Int) × (Int),(x.1,x.2)=Ob/\xr=(.int .i64 x.1)/\Kst h h' (Ac.L.set 1 (aB 76 Aa [Ab,(.int .i64 x.2)]))/\UpT ([Aa] ++ []) Aw h')) trivial rfl ?_ fun Ye Yf Oc=>?_
     ·refine cwf (l:=[_]) Tryz.func50 rfl rfl (ABh (ABp (ABl (ABl (AMe (Wj (AI6 rfl (AIo AD4 rfl (AB3 AFh rfl ((Ac.b p1).cell (i:=1) rfl) (Wj (AI6 rfl (AIo AIz rfl (AB3 AOn rfl ((Ac.b p1).cell (i:=0) rfl) (ADs APb rfl H4 (AL0 rfl rfl (ABn (⟨_,rfl,fun C5=>?_,fun C5=>?_⟩)))))))))))))))))
      ·refine ABh (ABp (ABr (ABz (⟨_,ABs,((0,0):(Int) × (Int)),?_,rfl,?_,?_⟩))))
       ·exact ABi (AC0 F7 C5)
       ·exact Ac
       ·exact F9
      ·refine ABq (q_t (ABh (Wj (AI6 rfl (AIo AD4 rfl (AB3 AFh rfl ((Ac.b p1).cell (i:=1) rfl) (ACw rfl rfl (AI6 rfl (AIo AD4 rfl (AUc [Ab,(.int .i64 (w64 (0 + 1)))] AFh rfl rfl rfl (Ac.b p1) (Nat.le_of_ble_eq_true rfl) rfl fun Yg Ga Gb=>ABn (ABl (AMe (Wj (AI6 rfl (AIo AIz rfl ?_)))))))))))))));have Bz:=Ac.sb p1 Gb Ga rfl;refine AB3 AOn rfl ((Bz.b p1).cell (i:=0) rfl) (Wj (AI6 rfl (AIo AD4 rfl (AB3 AFh rfl ((Bz.b p1).cell (i:=1) rfl) (AGb rfl rfl ?_)))));obtain ⟨Od,Oe,Og⟩:=ABk (AC1 F7 C5);refine AIc (c:=(cI .i8)) APb rfl H4 rfl Oe fun Yh Yi Yj Oh Oi=>?_;obtain rfl:=Oh;refine AB3 AW6 rfl (ABv (Oi 0 _ rfl) Bz.x) (ALn AW7 AKw rfl (ABp (ABr (⟨_,ABs,(((w64 Od),(w64 (0 + 1))):(Int) × (Int)),?_,rfl,?_,?_⟩))))
       ·exact ABi Og
       ·exact Bz
       ·exact (F9.then (Ga.stA Gb (AGd (Ac.b p1) rfl) rfl) (ALc rfl))
     obtain ⟨⟨Oj,Ol⟩,Om,rfl,Gc,On⟩:=Oc;(try dsimp only [Kst.L,List.set,AIk,ALl] at Gc);refine ⟨trivial,?_⟩;subst Om;(try dsimp only at F8);refine ALn AKw APc rfl (ALn APc APm rfl (Wj (AFq rfl rfl (by decide) (ABp (ABr (⟨_,ABs,(((Int.tmod (w64 (IntKind.wrap .u8 Oj)) 3),Ol):(Int) × (Int)),?_,rfl,?_,?_⟩))))))
     ·exact ABi F8
     ·exact Gc
     ·exact (N9.then On (AD3 (ALc rfl) all_nil))
    obtain ⟨⟨Gd,Oo⟩,Oq,rfl,C6,Ot⟩:=Oa;(try dsimp only [Kst.L,List.set,AIk,ALl] at C6);refine ⟨(Bx.then Ot (AD3 (ALc rfl) all_nil)),?_⟩;subst Oq;(try dsimp only at F6);refine ACw rfl rfl (AEx (m:=0) ABt rfl (Ac.o2 p0) Fz Bf rfl By fun Yk Ou=>AJd (m:=0) (AFy ACm rfl rfl rfl) (C6.o2 p0) Ou Bf By (show ((cI .i64)).rep _ (w64 (F4 + Gd)) _ from rfl) fun Yl Ov Ow=>ACh (q_b (q_t ?_)));exact ⟨(((sI Nl 0 (sI Ny 0 (w64 (F4 + Gd)))),Np,Ns,Nt,Nu,Oo):(LiI) × (Value) × LnA × LnN × LvA × (Int)),⟨ABi F6,(C6.uO2 p0 Ow Ov)⟩,rfl,trivial⟩
   ·refine ABh (ADo rfl rfl (ABp ?_));have Ge:=AC1 Fy C4;refine ⟨_,rfl,fun C7=>?_,fun C7=>?_⟩
    ·refine ABh (Wj ?_);obtain ⟨Ox,Oy,Oz⟩:=ABk (AC0 Ge C7);refine AC2 rfl (AL7 Oy) fun O0 Ax O1 O2=>?_;obtain ⟨Ym,O3,O4,O5,rfl,O6,O7⟩:=O2;refine ABp (AEb (fun h'=>UpT ([Aa] ++ []) Ax h') (by kernel_rfl) ?_);have Ad:=Ao.no2 O1 O7 O6;have B1:UpT ([Aa] ++ []) Ax Ax:=UpT.start (AD3 (AGd (Ad.b p1) rfl) all_nil);refine Wj (Wj (AGb rfl rfl ?_));obtain ⟨O8,Bg,O9⟩:=ABk Oz;refine ADl AB1 rfl (Ad.o2 p0) rfl Bg fun Yn Yo Pa Gf Pb=>AFr ACn rfl B1 (fun h' hb=>AKd Pb hb (APu (Ad.dj p0 p1 (by decide) _ (by simp [aO,aO2,Pa])) APv)) (Wj (AGb rfl rfl ?_));obtain ⟨Gg,B2,Pc⟩:=ABk O9;refine AEx (m:=(w64 ((w64 (1 + (Int.tmod (w64 a1) Af))) - 1))) ABt rfl (Ad.o2 p0) Gf Bg rfl B2 fun Yp Gh=>?_;obtain ⟨Yq,Pd,Pe⟩:=(Ad.o2 p0).cells Gh Bg B2;obtain rfl:=Pd;refine AFr ACm rfl B1 (fun h' hb=>AKd (Pe 0 _ rfl) hb (APu (Ad.dj p0 p1 (by decide) _ ((Ad.o2 p0).gmem Gh)) APv)) (Wj ?_);obtain ⟨Pf,Pg,Gi⟩:=ABk Pc;have Ph:UpT ([Aa] ++ []) Ax Ax:=UpT.start (AD3 (AGd (Ad.b p1) rfl) all_nil);refine ACo (K':=(fun xr h'=> ∃ x:(Int) × (Int),(x.1,x.2)=Pf/\xr=(.int .i64 x.1)/\Kst h h' (Ad.L.set 1 (aB 76 Aa [Ab,(.int .i64 x.2)]))/\UpT ([Aa] ++ []) Ax h')) B1 rfl ?_ fun Yr Ys Pj=>?_
     ·refine cwf (l:=[_,_]) Tryz.func62 rfl rfl (ABh (ACq (Wj ?_)));obtain ⟨Pk,Gj,Gk⟩:=ABk Pg;have Gl:UpT ([Aa] ++ []) Ax Ax:=UpT.start (AD3 (AGd (Ad.b p1) rfl) all_nil);refine ACo (K':=(fun xr h'=> ∃ x:(Int) × (Int),(x.1,x.2)=Pk/\xr=(.int .i64 x.1)/\Kst h h' (Ad.L.set 1 (aB 76 Aa [Ab,(.int .i64 x.2)]))/\UpT ([Aa] ++ []) Ax h')) trivial rfl ?_ fun Yt Yu Pl=>?_
      ·refine cwf (l:=[_]) Tryz.func50 rfl rfl (ABh (ABp (ABl (ABl (AMe (Wj (AI6 rfl (AIo AD4 rfl (AB3 AFh rfl ((Ad.b p1).cell (i:=1) rfl) (Wj (AI6 rfl (AIo AIz rfl (AB3 AOn rfl ((Ad.b p1).cell (i:=0) rfl) (ADs APb rfl H4 (AL0 rfl rfl (ABn (⟨_,rfl,fun C8=>?_,fun C8=>?_⟩)))))))))))))))))
       ·refine ABh (ABp (ABr (ABz (⟨_,ABs,((0,0):(Int) × (Int)),?_,rfl,?_,?_⟩))))
        ·exact ABi (AC0 Gj C8)
        ·exact Ad
        ·exact Gl
       ·refine ABq (q_t (ABh (Wj (AI6 rfl (AIo AD4 rfl (AB3 AFh rfl ((Ad.b p1).cell (i:=1) rfl) (ACw rfl rfl (AI6 rfl (AIo AD4 rfl (AUc [Ab,(.int .i64 (w64 (0 + 1)))] AFh rfl rfl rfl (Ad.b p1) (Nat.le_of_ble_eq_true rfl) rfl fun Yv Gm Gn=>ABn (ABl (AMe (Wj (AI6 rfl (AIo AIz rfl ?_)))))))))))))));have B3:=Ad.sb p1 Gn Gm rfl;refine AB3 AOn rfl ((B3.b p1).cell (i:=0) rfl) (Wj (AI6 rfl (AIo AD4 rfl (AB3 AFh rfl ((B3.b p1).cell (i:=1) rfl) (AGb rfl rfl ?_)))));obtain ⟨Pm,Pn,Po⟩:=ABk (AC1 Gj C8);refine AIc (c:=(cI .i8)) APb rfl H4 rfl Pn fun Yw Yx Yy Pp Pq=>?_;obtain rfl:=Pp;refine AB3 AW6 rfl (ABv (Pq 0 _ rfl) B3.x) (ALn AW7 AKw rfl (ABp (ABr (⟨_,ABs,(((w64 Pm),(w64 (0 + 1))):(Int) × (Int)),?_,rfl,?_,?_⟩))))
        ·exact ABi Po
        ·exact B3
        ·exact (Gl.then (Gm.stA Gn (AGd (Ad.b p1) rfl) rfl) (ALc rfl))
      obtain ⟨⟨Ps,Pt⟩,Pu,rfl,Gp,Pv⟩:=Pl;(try dsimp only [Kst.L,List.set,AIk,ALl] at Gp);refine ⟨trivial,?_⟩;subst Pu;(try dsimp only at Gk);refine ALn AKw APc rfl (ALn APc APm rfl (Wj (AFq rfl rfl (by decide) (ABp (ABr (⟨_,ABs,(((Int.tmod (w64 (IntKind.wrap .u8 Ps)) 2),Pt):(Int) × (Int)),?_,rfl,?_,?_⟩))))))
      ·exact ABi Gk
      ·exact Gp
      ·exact (Ph.then Pv (AD3 (ALc rfl) all_nil))
     obtain ⟨⟨Gq,Pw⟩,Px,rfl,C9,Py⟩:=Pj;(try dsimp only [Kst.L,List.set,AIk,ALl] at C9);refine ⟨(B1.then Py (AD3 (ALc rfl) all_nil)),?_⟩;subst Px;(try dsimp only at Gi);refine ACw rfl rfl (AEx (m:=(w64 ((w64 (1 + (Int.tmod (w64 a1) Af))) - 1))) ABt rfl (Ad.o2 p0) Gf Bg rfl B2 fun Yz Pz=>AJd (m:=(w64 ((w64 (1 + (Int.tmod (w64 a1) Af))) - 1))) (AFy ACm rfl rfl rfl) (C9.o2 p0) Pz Bg B2 (show ((cI .i64)).rep _ (w64 (Gg + Gq)) _ from rfl) fun Y1 P0 P1=>ACh (q_b (q_t ?_)));exact ⟨(((sI Ox (w64 ((w64 (1 + (Int.tmod (w64 a1) Af))) - 1)) (sI O8 (w64 ((w64 (1 + (Int.tmod (w64 a1) Af))) - 1)) (w64 (Gg + Gq)))),O0,O3,O4,O5,Pw):(LiI) × (Value) × LnA × LnN × LvA × (Int)),⟨ABi Gi,(C9.uO2 p0 P1 P0)⟩,rfl,trivial⟩
    ·refine ABh (ADo rfl rfl (ABp ?_));have Gr:=AC1 Ge C7;refine ⟨_,rfl,fun Da=>?_,fun Da=>?_⟩
     ·refine ABw (Wj (Wj ?_));obtain ⟨P2,P3,Gt⟩:=ABk (AC0 Gr Da);refine ACo (K':=(fun xr h'=> ∃ x:(LiI) × (Value) × LnA × LnN × LvA × (Int),(x.1,x.2.2.2.2.2)=P2/\xr=x.2.1/\Kst h h' (aO2 (cI .i64) 23 2 x.2.2.1 x.2.2.2.1 x.2.2.2.2.1 x.2.1 x.1 :: (Ao.L.set 0 (aB 76 Aa [Ab,(.int .i64 x.2.2.2.2.2)]))))) trivial rfl ?_ fun Gu Y2 P4=>?_
      ·refine cwf (l:=[_,_,_]) Tryz.func63 rfl rfl (ABh (ACq (Wj ?_)));obtain ⟨P5,P6⟩:=ifN P3;refine AUh (cI .i64) 2 AB1 ALx rfl trivial tt2 rfl rfl (by decide) P5 fun P7 P8 P9 Gv Y3 Qa Qb Qc=>ABp (ABl (ABh (Wj ?_)));have Db:=Ao.no2 Qb Qc Qa;refine ADf AB1 rfl (Db.o2 p0).rd (Wj (ABn (ABo ?_)));obtain ⟨Gw,Qd,Gx⟩:=ABk P6;obtain ⟨Qe,Qg,Qh⟩:=ACe Qd;refine ACg 4294959360 (fun x:(Int) × (Int) × (LiI) × LnA × LnN × LvA=>[(13,(.int .i64 x.1))]) (fun k x h'=>iter Qe k (x.1,x.2.1,x.2.2.1)=some Gw/\Kst h h' ((Db.L.set 0 (aO2 (cI .i64) 23 2 x.2.2.2.1 x.2.2.2.2.1 x.2.2.2.2.2 Gv x.2.2.1)).set 1 (aB 76 Aa [Ab,(.int .i64 x.2.1)]))) (by kernel_rfl) fuel ((0,0,(List.replicate (Int.toNat (w64 (1 + (Int.tmod (w64 a1) Af)))) ([]:List Int)),P7,P8,P9):(Int) × (Int) × (LiI) × LnA × LnN × LvA) ?_ ⟨rfl,trivial⟩ ?_
       ·exact ⟨Qh,Db⟩
       rintro Y4 ⟨Aq,B4,Gy,Qi,Dc,Gz⟩ Qj Qk ⟨Ql,Dd⟩;(try dsimp only [Kst.L,List.set,AIk,ALl] at Dd);refine (show W _ _ _ (setL [(13,(.int .i64 Aq))] (mix _ Qj _)) Qk from ?_);obtain ⟨Qm,Y5,rfl,Bh,De⟩:=AB2 Ql;rw [Qg] at Bh;dsimp only at Bh;unfold AE1 at Bh;refine ABh (ACx rfl rfl (ABn (ABl (⟨_,rfl,fun Df=>?_,fun Df=>?_⟩))))
       ·refine ABq (q_t (ABl (ABo (ABh (Wj (ACq (Wj (Wj (Wj ?_)))))))));obtain ⟨Qn,Qo⟩:=ifN (AC0 Bh Df);refine AQz (c:=(cI .i64)) (a:=0) ABt AHa rfl rfl (fun _=>rfl) rfl trivial tt2 rfl rfl (by decide) Qn fun G3 Qp Y6 Qq Qr Qs Qt=>?_;have Bi:=Dd.no Qr (AGm Qs Qt) Qq;obtain ⟨Y7,G4,Qu⟩:=ABk Qo;refine ADl AB1 rfl (Bi.o2 p1) rfl G4 fun Qv Y8 Qw Y9 Za=>AVz ACn (Bi.o2 p1) G4 Qw rfl rfl (Bi.o p0) (Bi.dj p0 p1 (by decide)) fun Ay Qx Qy Qz=>ABn (AEb (fun h'=>UpT ([Aa] ++ []) Ay h') (by kernel_rfl) ?_);have Aj:=Bi.m2 p0 p1 (by decide) Qy Qx (fun z hz=> .inl (Qz z hz));have Dg:UpT ([Aa] ++ []) Ay Ay:=UpT.start (AD3 (AGd (Aj.b p2) rfl) all_nil);refine Wj (Wj ?_);obtain ⟨Q0,Dh,Q1⟩:=ABk Qu;refine ADl AB1 rfl (Aj.o2 p1) rfl Dh fun Zb Zd Q2 Q3 Q4=>AFr ACn rfl Dg (fun h' hb=>AKd Q4 hb (APu (Aj.dj p1 p2 (by decide) _ (by simp [aO,aO2,Q2])) APv)) (Wj (Wj (Wj ?_)));obtain ⟨Q6,Q7,G5⟩:=ABk Q1;have Q8:UpT ([Aa] ++ []) Ay Ay:=UpT.start (AD3 (AGd (Aj.b p2) rfl) all_nil);refine ACo (K':=(fun xr h'=> ∃ x:(Int) × (Int),(x.1,x.2)=Q6/\xr=(.int .i64 x.1)/\Kst h h' ((AIk Aj.L [1,2]).set 1 (aB 76 Aa [Ab,(.int .i64 x.2)]))/\UpT ([Aa] ++ []) Ay h')) Dg rfl ?_ fun Ze Zf Q9=>?_
        ·refine cwf (l:=[_,_]) Tryz.func62 rfl rfl (ABh (ACq (Wj ?_)));obtain ⟨Rc,G6,G7⟩:=ABk Q7;have G8:UpT ([Aa] ++ []) Ay Ay:=UpT.start (AD3 (AGd (Aj.b p2) rfl) all_nil);refine ACo (K':=(fun xr h'=> ∃ x:(Int) × (Int),(x.1,x.2)=Rc/\xr=(.int .i64 x.1)/\Kst h h' ((AIk Aj.L [1,2]).set 1 (aB 76 Aa [Ab,(.int .i64 x.2)]))/\UpT ([Aa] ++ []) Ay h')) trivial rfl ?_ fun Zg Zh Rd=>?_
         ·refine cwf (l:=[_]) Tryz.func50 rfl rfl (ABh (ABp (ABl (ABl (AMe (Wj (AI6 rfl (AIo AD4 rfl (AB3 AFh rfl ((Aj.b p2).cell (i:=1) rfl) (Wj (AI6 rfl (AIo AIz rfl (AB3 AOn rfl ((Aj.b p2).cell (i:=0) rfl) (ADs APb rfl H4 (AL0 rfl rfl (ABn (⟨_,rfl,fun Di=>?_,fun Di=>?_⟩)))))))))))))))))
          ·refine ABh (ABp (ABr (ABz (⟨_,ABs,((0,B4):(Int) × (Int)),?_,rfl,?_,?_⟩))))
           ·exact ABi (AC0 G6 Di)
           ·exact Aj.sel [1,2] (by decide)
           ·exact G8
          ·refine ABq (q_t (ABh (Wj (AI6 rfl (AIo AD4 rfl (AB3 AFh rfl ((Aj.b p2).cell (i:=1) rfl) (ACw rfl rfl (AI6 rfl (AIo AD4 rfl (AUc [Ab,(.int .i64 (w64 (B4 + 1)))] AFh rfl rfl rfl (Aj.b p2) (Nat.le_of_ble_eq_true rfl) rfl fun Zj G9 Hb=>ABn (ABl (AMe (Wj (AI6 rfl (AIo AIz rfl ?_)))))))))))))));have B5:=Aj.sb p2 Hb G9 rfl;refine AB3 AOn rfl ((B5.b p2).cell (i:=0) rfl) (Wj (AI6 rfl (AIo AD4 rfl (AB3 AFh rfl ((B5.b p2).cell (i:=1) rfl) (AGb rfl rfl ?_)))));obtain ⟨Re,Rf,Rg⟩:=ABk (AC1 G6 Di);refine AIc (c:=(cI .i8)) APb rfl H4 rfl Rf fun Zk Zl Zm Rh Ri=>?_;obtain rfl:=Rh;refine AB3 AW6 rfl (ABv (Ri 0 _ rfl) B5.x) (ALn AW7 AKw rfl (ABp (ABr (⟨_,ABs,(((w64 Re),(w64 (B4 + 1))):(Int) × (Int)),?_,rfl,?_,?_⟩))))
           ·exact ABi Rg
           ·exact B5.sel [1,2] (by decide)
           ·exact (G8.then (G9.stA Hb (AGd (Aj.b p2) rfl) rfl) (ALc rfl))
         obtain ⟨⟨Rj,Rm⟩,Rn,rfl,Hc,Ro⟩:=Rd;(try dsimp only [Kst.L,List.set,AIk,ALl] at Hc);refine ⟨trivial,?_⟩;subst Rn;(try dsimp only at G7);refine ALn AKw APc rfl (ALn APc APm rfl (Wj (AFq rfl rfl (by decide) (ABp (ABr (⟨_,ABs,(((Int.tmod (w64 (IntKind.wrap .u8 Rj)) 9),Rm):(Int) × (Int)),?_,rfl,?_,?_⟩))))))
         ·exact ABi G7
         ·exact Hc
         ·exact (Q8.then Ro (AD3 (ALc rfl) all_nil))
        obtain ⟨⟨Hd,Rq⟩,Rr,rfl,Dj,Rs⟩:=Q9;(try dsimp only [Kst.L,List.set,AIk,ALl] at Dj);refine ⟨(Dg.then Rs (AD3 (ALc rfl) all_nil)),?_⟩;subst Rr;(try dsimp only at G5);refine ACw rfl rfl ?_;obtain ⟨Zn,He,Rt⟩:=ABk G5;refine AEx (m:=Aq) ABt rfl (Aj.o2 p1) Q3 Dh rfl He fun Zo Ru=>AJd (m:=Aq) (AFy ACm rfl rfl rfl) (Dj.o2 p0) Ru Dh He (show ((cI .i64)).rep _ (w64 (1 + Hd)) _ from rfl) fun Zp Rv Rw=>ACh (q_b (q_t (ABw (ACw rfl rfl (Wj (ABn ?_))))));obtain rfl:=ABi Rt;exact ⟨Qm,(((w64 (Aq + 1)),Rq,(sI (sI Gy Aq (List.replicate (Int.toNat (w64 (1 + (Int.tmod (w64 a1) Af)))) (0:Int))) Aq (sI Q0 Aq (w64 (1 + Hd)))),(Qv :: (Dc.set (Int.toNat Aq) [G3]).flatten),(Dc.set (Int.toNat Aq) [G3]),(Gz.set (Int.toNat Aq) Qp)):(Int) × (Int) × (LiI) × LnA × LnN × LvA),Nat.lt_succ_self _,⟨De,(Dj.uO2 p0 Rw Rv)⟩,rfl,trivial⟩
       ·obtain rfl:=ABi (AC1 Bh Df);change _=Gw at De;subst De;(try dsimp only at Gx);refine AB9 (AB7 (AB7 (ADh (q_t (ABh (Wj (ABp (ABr (⟨_,ABs,((Gy,Gv,Qi,Dc,Gz,B4):(LiI) × (Value) × LnA × LnN × LvA × (Int)),?_,rfl,?_⟩)))))))))
        ·exact ABi Gx
        ·exact Dd
      obtain ⟨⟨Rx,Gu,Ry,Rz,R3,R4⟩,R5,rfl,Hf⟩:=P4;(try dsimp only [Kst.L,List.set,AIk,ALl] at Hf);refine ⟨trivial,?_⟩;subst R5;(try dsimp only at Gt);refine ACd (ACh (q_b (q_t ?_)));exact ⟨((Rx,Gu,Ry,Rz,R3,R4):(LiI) × (Value) × LnA × LnN × LvA × (Int)),⟨ABi Gt,Hf⟩,rfl,trivial⟩
     ·refine ABw (Wj (Wj ?_));obtain ⟨R6,R7,Hg⟩:=ABk (AC1 Gr Da);refine ACo (K':=(fun xr h'=> ∃ x:(LiI) × (Value) × LnA × LnN × LvA × (Int),(x.1,x.2.2.2.2.2)=R6/\xr=x.2.1/\Kst h h' (aO2 (cI .i64) 23 2 x.2.2.1 x.2.2.2.1 x.2.2.2.2.1 x.2.1 x.1 :: (Ao.L.set 0 (aB 76 Aa [Ab,(.int .i64 x.2.2.2.2.2)]))))) trivial rfl ?_ fun Hh Zq R8=>?_
      ·refine cwf (l:=[_,_,_]) Tryz.func63 rfl rfl (ABh (ACq (Wj ?_)));obtain ⟨R9,Sa⟩:=ifN R7;refine AUh (cI .i64) 2 AB1 ALx rfl trivial tt2 rfl rfl (by decide) R9 fun Sb Sc Sd Hj Zr Se Sf Sg=>ABp (ABl (ABh (Wj ?_)));have Dk:=Ao.no2 Sf Sg Se;refine ADf AB1 rfl (Dk.o2 p0).rd (Wj (ABn (ABo ?_)));obtain ⟨Hk,Sh,Hl⟩:=ABk Sa;obtain ⟨Si,Sj,Sk⟩:=ACe Sh;refine ACg 4294959360 (fun x:(Int) × (Int) × (LiI) × LnA × LnN × LvA=>[(13,(.int .i64 x.1))]) (fun k x h'=>iter Si k (x.1,x.2.1,x.2.2.1)=some Hk/\Kst h h' ((Dk.L.set 0 (aO2 (cI .i64) 23 2 x.2.2.2.1 x.2.2.2.2.1 x.2.2.2.2.2 Hj x.2.2.1)).set 1 (aB 76 Aa [Ab,(.int .i64 x.2.1)]))) (by kernel_rfl) fuel ((0,0,(List.replicate (Int.toNat (w64 (1 + (Int.tmod (w64 a1) Af)))) ([]:List Int)),Sb,Sc,Sd):(Int) × (Int) × (LiI) × LnA × LnN × LvA) ?_ ⟨rfl,trivial⟩ ?_
       ·exact ⟨Sk,Dk⟩
       rintro Zs ⟨Ar,B6,Hm,Sm,Dl,Hn⟩ Sn So ⟨Sq,Dn⟩;(try dsimp only [Kst.L,List.set,AIk,ALl] at Dn);refine (show W _ _ _ (setL [(13,(.int .i64 Ar))] (mix _ Sn _)) So from ?_);obtain ⟨Sr,Zt,rfl,Bj,Do⟩:=AB2 Sq;rw [Sj] at Bj;dsimp only at Bj;unfold AE2 at Bj;refine ABh (ACx rfl rfl (ABn (ABl (⟨_,rfl,fun Dp=>?_,fun Dp=>?_⟩))))
       ·refine ABq (q_t (ABl (ABo (ABh (Wj (ACq (Wj (Wj (Wj ?_)))))))));obtain ⟨Ss,St⟩:=ifN (AC0 Bj Dp);refine AQz (c:=(cI .i64)) (a:=0) ABt AHa rfl rfl (fun _=>rfl) rfl trivial tt2 rfl rfl (by decide) Ss fun Ho Su Zu Sv Sw Sx Sy=>?_;have Bl:=Dn.no Sw (AGm Sx Sy) Sv;obtain ⟨Zv,Hq,Sz⟩:=ABk St;refine ADl AB1 rfl (Bl.o2 p1) rfl Hq fun S0 Zw S2 Zx Zy=>AVz ACn (Bl.o2 p1) Hq S2 rfl rfl (Bl.o p0) (Bl.dj p0 p1 (by decide)) fun Az S3 S4 S7=>ABn (AEb (fun h'=>UpT ([Aa] ++ []) Az h') (by kernel_rfl) ?_);have Ak:=Bl.m2 p0 p1 (by decide) S4 S3 (fun z hz=> .inl (S7 z hz));have Dq:UpT ([Aa] ++ []) Az Az:=UpT.start (AD3 (AGd (Ak.b p2) rfl) all_nil);refine Wj (Wj ?_);obtain ⟨Ta,Dr,Tb⟩:=ABk Sz;refine ADl AB1 rfl (Ak.o2 p1) rfl Dr fun Zz Z1 Tc Td Te=>AFr ACn rfl Dq (fun h' hb=>AKd Te hb (APu (Ak.dj p1 p2 (by decide) _ (by simp [aO,aO2,Tc])) APv)) (Wj (Wj (Wj ?_)));obtain ⟨Tf,Tg,Hr⟩:=ABk Tb;have Th:UpT ([Aa] ++ []) Az Az:=UpT.start (AD3 (AGd (Ak.b p2) rfl) all_nil);refine ACo (K':=(fun xr h'=> ∃ x:(Int) × (Int),(x.1,x.2)=Tf/\xr=(.int .i64 x.1)/\Kst h h' ((AIk Ak.L [1,2]).set 1 (aB 76 Aa [Ab,(.int .i64 x.2)]))/\UpT ([Aa] ++ []) Az h')) Dq rfl ?_ fun Z2 Z4 Ti=>?_
        ·refine cwf (l:=[_,_]) Tryz.func62 rfl rfl (ABh (ACq (Wj ?_)));obtain ⟨Tj,Hs,Ht⟩:=ABk Tg;have Hu:UpT ([Aa] ++ []) Az Az:=UpT.start (AD3 (AGd (Ak.b p2) rfl) all_nil);refine ACo (K':=(fun xr h'=> ∃ x:(Int) × (Int),(x.1,x.2)=Tj/\xr=(.int .i64 x.1)/\Kst h h' ((AIk Ak.L [1,2]).set 1 (aB 76 Aa [Ab,(.int .i64 x.2)]))/\UpT ([Aa] ++ []) Az h')) trivial rfl ?_ fun Z9 AAa Tk=>?_
         ·refine cwf (l:=[_]) Tryz.func50 rfl rfl (ABh (ABp (ABl (ABl (AMe (Wj (AI6 rfl (AIo AD4 rfl (AB3 AFh rfl ((Ak.b p2).cell (i:=1) rfl) (Wj (AI6 rfl (AIo AIz rfl (AB3 AOn rfl ((Ak.b p2).cell (i:=0) rfl) (ADs APb rfl H4 (AL0 rfl rfl (ABn (⟨_,rfl,fun Ds=>?_,fun Ds=>?_⟩)))))))))))))))))
          ·refine ABh (ABp (ABr (ABz (⟨_,ABs,((0,B6):(Int) × (Int)),?_,rfl,?_,?_⟩))))
           ·exact ABi (AC0 Hs Ds)
           ·exact Ak.sel [1,2] (by decide)
           ·exact Hu
          ·refine ABq (q_t (ABh (Wj (AI6 rfl (AIo AD4 rfl (AB3 AFh rfl ((Ak.b p2).cell (i:=1) rfl) (ACw rfl rfl (AI6 rfl (AIo AD4 rfl (AUc [Ab,(.int .i64 (w64 (B6 + 1)))] AFh rfl rfl rfl (Ak.b p2) (Nat.le_of_ble_eq_true rfl) rfl fun AAb Hv Hw=>ABn (ABl (AMe (Wj (AI6 rfl (AIo AIz rfl ?_)))))))))))))));have B7:=Ak.sb p2 Hw Hv rfl;refine AB3 AOn rfl ((B7.b p2).cell (i:=0) rfl) (Wj (AI6 rfl (AIo AD4 rfl (AB3 AFh rfl ((B7.b p2).cell (i:=1) rfl) (AGb rfl rfl ?_)))));obtain ⟨Tl,Tm,Tn⟩:=ABk (AC1 Hs Ds);refine AIc (c:=(cI .i8)) APb rfl H4 rfl Tm fun AAc AAd AAe To Tp=>?_;obtain rfl:=To;refine AB3 AW6 rfl (ABv (Tp 0 _ rfl) B7.x) (ALn AW7 AKw rfl (ABp (ABr (⟨_,ABs,(((w64 Tl),(w64 (B6 + 1))):(Int) × (Int)),?_,rfl,?_,?_⟩))))
           ·exact ABi Tn
           ·exact B7.sel [1,2] (by decide)
           ·exact (Hu.then (Hv.stA Hw (AGd (Ak.b p2) rfl) rfl) (ALc rfl))
         obtain ⟨⟨Tq,Tr⟩,Ts,rfl,Hx,Tt⟩:=Tk;(try dsimp only [Kst.L,List.set,AIk,ALl] at Hx);refine ⟨trivial,?_⟩;subst Ts;(try dsimp only at Ht);refine ALn AKw APc rfl (ALn APc APm rfl (Wj (AFq rfl rfl (by decide) (ABp (ABr (⟨_,ABs,(((Int.tmod (w64 (IntKind.wrap .u8 Tq)) 1),Tr):(Int) × (Int)),?_,rfl,?_,?_⟩))))))
         ·exact ABi Ht
         ·exact Hx
         ·exact (Th.then Tt (AD3 (ALc rfl) all_nil))
        obtain ⟨⟨Hy,Tu⟩,Tv,rfl,Dt,Tw⟩:=Ti;(try dsimp only [Kst.L,List.set,AIk,ALl] at Dt);refine ⟨(Dq.then Tw (AD3 (ALc rfl) all_nil)),?_⟩;subst Tv;(try dsimp only at Hr);refine ACw rfl rfl ?_;obtain ⟨AAf,Hz,Tx⟩:=ABk Hr;refine AEx (m:=Ar) ABt rfl (Ak.o2 p1) Td Dr rfl Hz fun AAg Ty=>AJd (m:=Ar) (AFy ACm rfl rfl rfl) (Dt.o2 p0) Ty Dr Hz (show ((cI .i64)).rep _ (w64 (1 + Hy)) _ from rfl) fun AAh Tz T0=>ACh (q_b (q_t (ABw (ACw rfl rfl (Wj (ABn ?_))))));obtain rfl:=ABi Tx;exact ⟨Sr,(((w64 (Ar + 1)),Tu,(sI (sI Hm Ar (List.replicate (Int.toNat (w64 (1 + (Int.tmod (w64 a1) Af)))) (0:Int))) Ar (sI Ta Ar (w64 (1 + Hy)))),(S0 :: (Dl.set (Int.toNat Ar) [Ho]).flatten),(Dl.set (Int.toNat Ar) [Ho]),(Hn.set (Int.toNat Ar) Su)):(Int) × (Int) × (LiI) × LnA × LnN × LvA),Nat.lt_succ_self _,⟨Do,(Dt.uO2 p0 T0 Tz)⟩,rfl,trivial⟩
       ·obtain rfl:=ABi (AC1 Bj Dp);change _=Hk at Do;subst Do;(try dsimp only at Hl);refine AB9 (AB7 (AB7 (ADh (q_t (ABh (Wj (ABp (ABr (⟨_,ABs,((Hm,Hj,Sm,Dl,Hn,B6):(LiI) × (Value) × LnA × LnN × LvA × (Int)),?_,rfl,?_⟩)))))))))
        ·exact ABi Hl
        ·exact Dn
      obtain ⟨⟨T1,Hh,T2,T3,T4,T5⟩,T6,rfl,H5⟩:=R8;(try dsimp only [Kst.L,List.set,AIk,ALl] at H5);refine ⟨trivial,?_⟩;subst T6;(try dsimp only at Hg);refine ACd (ACh (q_b (q_t ?_)));exact ⟨((T1,Hh,T2,T3,T4,T5):(LiI) × (Value) × LnA × LnN × LvA × (Int)),⟨ABi Hg,H5⟩,rfl,trivial⟩
 rintro ⟨AAi,T7,AAj,AAk,AAl,T8⟩ T9 Ua ⟨Ub,Du⟩;(try dsimp only [Kst.L,List.set,AIk,ALl] at Du);refine (show W _ _ _ (setL [(7,T7)] (mix _ T9 _)) Ua from ?_);subst Ub;(try dsimp only at D9);refine ABl (ABh (Wj ?_));obtain ⟨AAm,Uc,H9⟩:=ABk D9;refine AC2 rfl (AQ6 (Du.o2 p0).rd Uc) fun AAn AAo Ud Ue=>?_;subst Ue;refine AGt rfl (ABn ?_);have Bm:=Du.e Ud;refine ⟨_,rfl,fun Dv=>?_,fun Dv=>?_⟩
 ·refine ABh (Wj (Wj ?_));obtain ⟨Uf,Ug,Ia⟩:=ABk (ifT H9 Dv);refine ACo (K':=(fun xr h'=> ∃ x:(LiI) × (Value) × LnA × LnN × LvA × (Int),(x.1,x.2.2.2.2.2)=Uf/\xr=x.2.1/\Kst h h' (aO2 (cI .i64) 23 2 x.2.2.1 x.2.2.2.1 x.2.2.2.2.1 x.2.1 x.1 :: (Bm.L.set 1 (aB 76 Aa [Ab,(.int .i64 x.2.2.2.2.2)]))))) trivial rfl ?_ fun Uh AAp Ui=>?_
  ·refine cwf (l:=[_,_,_]) Tryz.func63 rfl rfl (ABh (ACq (Wj ?_)));obtain ⟨Uj,Uk⟩:=ifN Ug;refine AUh (cI .i64) 2 AB1 ALx rfl trivial tt2 rfl rfl (by decide) Uj fun Ul Um Un Ib AAq Uo Up Uq=>ABp (ABl (ABh (Wj ?_)));have Dw:=Bm.no2 Up Uq Uo;refine ADf AB1 rfl (Dw.o2 p0).rd (Wj (ABn (ABo ?_)));obtain ⟨Ic,Ur,Id⟩:=ABk Uk;obtain ⟨Us,Ut,Uu⟩:=ACe Ur;refine ACg 4294959360 (fun x:(Int) × (Int) × (LiI) × LnA × LnN × LvA=>[(13,(.int .i64 x.1))]) (fun k x h'=>iter Us k (x.1,x.2.1,x.2.2.1)=some Ic/\Kst h h' ((Dw.L.set 0 (aO2 (cI .i64) 23 2 x.2.2.2.1 x.2.2.2.2.1 x.2.2.2.2.2 Ib x.2.2.1)).set 2 (aB 76 Aa [Ab,(.int .i64 x.2.1)]))) (by kernel_rfl) fuel ((0,T8,(List.replicate (Int.toNat (w64 (1 + (Int.tmod (w64 a1) Af)))) ([]:List Int)),Ul,Um,Un):(Int) × (Int) × (LiI) × LnA × LnN × LvA) ?_ ⟨rfl,trivial⟩ ?_
   ·exact ⟨Uu,Dw⟩
   rintro AAr ⟨Au,B8,Ie,Uv,Dx,If⟩ Uw Ux ⟨Uy,Dy⟩;(try dsimp only [Kst.L,List.set,AIk,ALl] at Dy);refine (show W _ _ _ (setL [(13,(.int .i64 Au))] (mix _ Uw _)) Ux from ?_);obtain ⟨Uz,AAs,rfl,Bn,Dz⟩:=AB2 Uy;rw [Ut] at Bn;dsimp only at Bn;unfold AE3 at Bn;refine ABh (ACx rfl rfl (ABn (ABl (⟨_,rfl,fun D0=>?_,fun D0=>?_⟩))))
   ·refine ABq (q_t (ABl (ABo (ABh (Wj (ACq (Wj (Wj (Wj ?_)))))))));obtain ⟨U0,U3⟩:=ifN (AC0 Bn D0);refine AQz (c:=(cI .i64)) (a:=0) ABt AHa rfl rfl (fun _=>rfl) rfl trivial tt2 rfl rfl (by decide) U0 fun Ih U8 AAt Va Vb Vc Vd=>?_;have Bo:=Dy.no Vb (AGm Vc Vd) Va;obtain ⟨AAu,Ii,Ve⟩:=ABk U3;refine ADl AB1 rfl (Bo.o2 p1) rfl Ii fun Vf AAv Vg AAw AAx=>AVz ACn (Bo.o2 p1) Ii Vg rfl rfl (Bo.o p0) (Bo.dj p0 p1 (by decide)) fun A3 Vh Vi Vj=>ABn (AEb (fun h'=>UpT ([Aa] ++ []) A3 h') (by kernel_rfl) ?_);have Am:=Bo.m2 p0 p1 (by decide) Vi Vh (fun z hz=> .inl (Vj z hz));have D1:UpT ([Aa] ++ []) A3 A3:=UpT.start (AD3 (AGd (Am.b p3) rfl) all_nil);refine Wj (Wj ?_);obtain ⟨Vk,D2,Vl⟩:=ABk Ve;refine ADl AB1 rfl (Am.o2 p1) rfl D2 fun AAy AAz Vm Vn Vo=>AFr ACn rfl D1 (fun h' hb=>AKd Vo hb (APu (Am.dj p1 p3 (by decide) _ (by simp [aO,aO2,Vm])) APv)) (Wj (Wj (Wj ?_)));obtain ⟨Vp,Vq,Ij⟩:=ABk Vl;have Vr:UpT ([Aa] ++ []) A3 A3:=UpT.start (AD3 (AGd (Am.b p3) rfl) all_nil);refine ACo (K':=(fun xr h'=> ∃ x:(Int) × (Int),(x.1,x.2)=Vp/\xr=(.int .i64 x.1)/\Kst h h' ((AIk Am.L [1,2,3]).set 2 (aB 76 Aa [Ab,(.int .i64 x.2)]))/\UpT ([Aa] ++ []) A3 h')) D1 rfl ?_ fun AA0 AA1 Vs=>?_
    ·refine cwf (l:=[_,_]) Tryz.func62 rfl rfl (ABh (ACq (Wj ?_)));obtain ⟨Vt,Ik,Il⟩:=ABk Vq;have Im:UpT ([Aa] ++ []) A3 A3:=UpT.start (AD3 (AGd (Am.b p3) rfl) all_nil);refine ACo (K':=(fun xr h'=> ∃ x:(Int) × (Int),(x.1,x.2)=Vt/\xr=(.int .i64 x.1)/\Kst h h' ((AIk Am.L [1,2,3]).set 2 (aB 76 Aa [Ab,(.int .i64 x.2)]))/\UpT ([Aa] ++ []) A3 h')) trivial rfl ?_ fun AA2 AA3 Vu=>?_
     ·refine cwf (l:=[_]) Tryz.func50 rfl rfl (ABh (ABp (ABl (ABl (AMe (Wj (AI6 rfl (AIo AD4 rfl (AB3 AFh rfl ((Am.b p3).cell (i:=1) rfl) (Wj (AI6 rfl (AIo AIz rfl (AB3 AOn rfl ((Am.b p3).cell (i:=0) rfl) (ADs APb rfl H4 (AL0 rfl rfl (ABn (⟨_,rfl,fun D3=>?_,fun D3=>?_⟩)))))))))))))))))
      ·refine ABh (ABp (ABr (ABz (⟨_,ABs,((0,B8):(Int) × (Int)),?_,rfl,?_,?_⟩))))
       ·exact ABi (AC0 Ik D3)
       ·exact Am.sel [1,2,3] (by decide)
       ·exact Im
      ·refine ABq (q_t (ABh (Wj (AI6 rfl (AIo AD4 rfl (AB3 AFh rfl ((Am.b p3).cell (i:=1) rfl) (ACw rfl rfl (AI6 rfl (AIo AD4 rfl (AUc [Ab,(.int .i64 (w64 (B8 + 1)))] AFh rfl rfl rfl (Am.b p3) (Nat.le_of_ble_eq_true rfl) rfl fun AA4 Io Ip=>ABn (ABl (AMe (Wj (AI6 rfl (AIo AIz rfl ?_)))))))))))))));have B9:=Am.sb p3 Ip Io rfl;refine AB3 AOn rfl ((B9.b p3).cell (i:=0) rfl) (Wj (AI6 rfl (AIo AD4 rfl (AB3 AFh rfl ((B9.b p3).cell (i:=1) rfl) (AGb rfl rfl ?_)))));obtain ⟨Vv,Vw,Vx⟩:=ABk (AC1 Ik D3);refine AIc (c:=(cI .i8)) APb rfl H4 rfl Vw fun AA5 AA6 AA7 Vy Vz=>?_;obtain rfl:=Vy;refine AB3 AW6 rfl (ABv (Vz 0 _ rfl) B9.x) (ALn AW7 AKw rfl (ABp (ABr (⟨_,ABs,(((w64 Vv),(w64 (B8 + 1))):(Int) × (Int)),?_,rfl,?_,?_⟩))))
       ·exact ABi Vx
       ·exact B9.sel [1,2,3] (by decide)
       ·exact (Im.then (Io.stA Ip (AGd (Am.b p3) rfl) rfl) (ALc rfl))
     obtain ⟨⟨V1,V5⟩,V6,rfl,Iq,Wa⟩:=Vu;(try dsimp only [Kst.L,List.set,AIk,ALl] at Iq);refine ⟨trivial,?_⟩;subst V6;(try dsimp only at Il);refine ALn AKw APc rfl (ALn APc APm rfl (Wj (AFq rfl rfl (by decide) (ABp (ABr (⟨_,ABs,(((Int.tmod (w64 (IntKind.wrap .u8 V1)) 2),V5):(Int) × (Int)),?_,rfl,?_,?_⟩))))))
     ·exact ABi Il
     ·exact Iq
     ·exact (Vr.then Wa (AD3 (ALc rfl) all_nil))
    obtain ⟨⟨Ir,Wb⟩,Wc,rfl,D4,Wd⟩:=Vs;(try dsimp only [Kst.L,List.set,AIk,ALl] at D4);refine ⟨(D1.then Wd (AD3 (ALc rfl) all_nil)),?_⟩;subst Wc;(try dsimp only at Ij);refine ACw rfl rfl ?_;obtain ⟨AA8,It,We⟩:=ABk Ij;refine AEx (m:=Au) ABt rfl (Am.o2 p1) Vn D2 rfl It fun AA9 Wf=>AJd (m:=Au) (AFy ACm rfl rfl rfl) (D4.o2 p0) Wf D2 It (show ((cI .i64)).rep _ (w64 (1 + Ir)) _ from rfl) fun ABa Wg Wh=>ACh (q_b (q_t (ABw (ACw rfl rfl (Wj (ABn ?_))))));obtain rfl:=ABi We;exact ⟨Uz,(((w64 (Au + 1)),Wb,(sI (sI Ie Au (List.replicate (Int.toNat (w64 (1 + (Int.tmod (w64 a1) Af)))) (0:Int))) Au (sI Vk Au (w64 (1 + Ir)))),(Vf :: (Dx.set (Int.toNat Au) [Ih]).flatten),(Dx.set (Int.toNat Au) [Ih]),(If.set (Int.toNat Au) U8)):(Int) × (Int) × (LiI) × LnA × LnN × LvA),Nat.lt_succ_self _,⟨Dz,(D4.uO2 p0 Wh Wg)⟩,rfl,trivial⟩
   ·obtain rfl:=ABi (AC1 Bn D0);change _=Ic at Dz;subst Dz;(try dsimp only at Id);refine AB9 (AB7 (AB7 (ADh (q_t (ABh (Wj (ABp (ABr (⟨_,ABs,((Ie,Ib,Uv,Dx,If,B8):(LiI) × (Value) × LnA × LnN × LvA × (Int)),?_,rfl,?_⟩)))))))))
    ·exact ABi Id
    ·exact Dy
  obtain ⟨⟨ABb,Uh,ABc,ABd,ABe,ABf⟩,Wi,rfl,Ca⟩:=Ui;(try dsimp only [Kst.L,List.set,AIk,ALl] at Ca);refine ⟨trivial,?_⟩;subst Wi;(try dsimp only at Ia);refine ABp (ABr (ABz ?_));obtain rfl:=ABi Ia;exact ⟨_,ABs,Ca.x,_,_,_,_,rfl,(Ca.o2 p0),Ca.s.sel [0] (by decide)⟩
 ·refine ABq (q_t (ABh (Wj (ABp (ABr ?_)))));obtain rfl:=ABi (ALj H9 Dv);exact ⟨_,ABs,Bm.x,_,_,_,_,rfl,(Bm.o2 p0),Bm.s.sel [0] (by decide)⟩
def AEw (fuel:Nat) (a1 a2:Int) (a5 a9:LiA) (Ae:Int):Option LiI:=
  ((AEv fuel a1 a2 a5 a9 Ae).bind fun Af=>((AE4 fuel Af).bind fun Ag=>((AF6 fuel Ag).bind fun (Ah,Ai,Aj)=>(some Ah))))
theorem AM5 {fuel:Nat} {h:ABg} {a1 a2:Int} {Ac:Value} {a5:LiA} {Ad:Value} {a9:LiA} {Ai:Int} {r:LiI} (H4:SlC (cI .i8) h Ac a5) (H8:SlC (cI .i8) h Ad a9) (hp:AEw fuel a1 a2 a5 a9 Ai=some r):AB8 Tryz.prog 12 #[(.agg #[(.int .u8 a1),(.int .u8 a2),Ac,Ad]),(.int .i64 Ai)] h (fun x h'=>Ext h h'/\ ∃ (x0:Value) (F0:List Nat) (Au:List LnA) (Av:List Value),x=x0/\AE8 (cI .i64) 23 2 h' F0 Au Av x0 r/\Sp h' h.size [F0]):=by
 unfold AEw at hp;refine cwf (l:=[_,_]) Tryz.func12 rfl rfl (ABh (AHz [(.int .u8 a1),(.int .u8 a2),Ac,Ad] trivial tt2 rfl rfl fun Bx By Aw Ax Ay=>ACq ?_));have Ae:=(Kst.k0 h).nb Ax Ay Aw;refine AG0 [(.int .u8 a1),(.int .u8 a2),Ac,Ad] Alm rfl rfl (Ae.b p0).agg (Wj ?_);obtain ⟨Bz,Az,A3⟩:=ABk hp;refine AC2 rfl (AM4 (H4.ext Ae.x) (H8.ext Ae.x) Az) fun B1 B2 A4 A5=>?_;obtain ⟨B3,B4,B5,B6,rfl,A6,A7⟩:=A5;have Am:=Ae.no2 A4 A7 A6;obtain ⟨B7,A8,A9⟩:=ABk A3;refine AC2 rfl (AKl (Am.o2 p0).rd A8) fun B8 B9 Ba Bb=>?_;obtain ⟨Ca,Cb,Cd,Ce,rfl,Bc,Be⟩:=Bb;have Ao:=Am.no2 Ba Be Bc;obtain ⟨⟨Bf,Bg,Cf⟩,Bh,Ap⟩:=ABk A9;dsimp only at Ap;refine AC2 rfl (AO6 (Ao.o2 p0).rd Bh) fun Cg Ch Bi Bj=>?_;obtain ⟨Bl,Bm,Bn,Bo,Bp,Bq,Br,Bt,rfl,Bu,Bv,Bw⟩:=Bj;have Af:=Ao.n Bi [aO2 (cI .i64) 23 2 Bm Bn Bo Bl Bf,aO2 cZ 112 109 Bq Br Bt Bp Bg] Bw ⟨Bu,Bv,trivial⟩;simp only [List.cons_append,List.nil_append] at Af;refine Wj (ADa rfl rfl (ADa rfl rfl (ADa rfl rfl (ACd (ACd (ACq (Wj (ABp (ABr ?_)))))))));obtain rfl:=ABi Ap;exact ⟨_,ABs,Af.x,_,_,_,_,rfl,(Af.o2 p0),Af.s.sel [0] (by decide)⟩
end Go.Proofs.YtiegjkmfpcgjjaaGreatDoor
namespace Go.QF
open Go
theorem AZk {h:ABg} {v:Value} {l:List Value} (H:Sl h v l):SlK h 1 v (l.map fun x=>[x]):=by
 obtain ⟨a,cap,hv,hc⟩:=H;refine ⟨a,cap,by rw [List.length_map];exact hv,fun i row hr=>?_⟩;rw [List.getElem?_map] at hr;obtain ⟨x,hx,rfl⟩:=Option.map_eq_some_iff.1 hr;obtain ⟨b,o,ha,hb⟩:=hc i x hx;refine ⟨b,o,ha,fun j y hy=>?_⟩
 cases j with
 | zero=>injection hy with hy;subst hy;rw [Nat.mul_one,Nat.add_zero];exact hb
 | succ j=>simp at hy
theorem AZl {h:ABg} {v:Value} {l:List Value} (H:SlK h 1 v (l.map fun x=>[x])):Sl h v l:=by
 obtain ⟨a,cap,hv,hc⟩:=H;refine ⟨a,cap,by rw [List.length_map] at hv;exact hv,fun i x hx=>?_⟩;obtain ⟨b,o,ha,hb⟩:=hc i [x] (by simp [hx]);refine ⟨b,o,ha,?_⟩;have:=hb 0 x rfl;rwa [Nat.mul_one,Nat.add_zero] at this
theorem Afk {κ:IntKind} {h:ABg} {v:Value} {L:List Int} (H:Sl h v (L.map (.int κ))):SlC (cI κ) h v L:=by
 refine ⟨L.map fun a=>[.int κ a],?_,by simp,fun i cs a h1 h2=>?_⟩
 ·have:=AZk H;rwa [List.map_map] at this
 ·rw [List.getElem?_map,h2] at h1;injection h1 with h1;exact h1.symm
theorem Aqa {κ:IntKind} {h:ABg} {v:Value} {L:List Int} (H:SlC (cI κ) h v L):Sl h v (L.map (.int κ)):=by
 obtain ⟨Ls,h1,h2,h3⟩:=H
 have:Ls=(L.map (Value.int κ)).map fun x=>[x]:=by
   apply List.ext_getElem?
   intro i
   by_cases hi:i < L.length
   · obtain ⟨a,ha⟩:∃ a,L[i]? =some a:=⟨L[i],List.getElem?_eq_getElem hi⟩
     obtain ⟨cs,hcs⟩:∃ cs,Ls[i]? =some cs:=⟨Ls[i]'(by omega),List.getElem?_eq_getElem _⟩
     have:=h3 i cs a hcs ha
     rw [hcs,List.map_map,List.getElem?_map,ha]
     exact congrArg some this
   · rw [List.getElem?_eq_none (by omega),List.getElem?_eq_none (by simp;omega)]
 subst this;exact AZl h1
theorem Aln {h:ABg} {v:Value} {M:List (List Int)} (H:AF2 (cI .i64) h v M):Mat h v M:=by
 obtain ⟨_,rs,h1,h2,h3⟩:=H;exact ⟨rs,AZl h1,h2,fun i r z hr hz=>Aqa (h3 i r z hr hz)⟩
theorem Aoq {h:ABg} {v:Value} {M:List (List Int)} (H:Mat h v M) (hc:AMv v):AF2 (cI .i64) h v M:=by
 obtain ⟨rs,h1,h2,h3⟩:=H;exact ⟨hc,rs,AZk h1,h2,fun i r z hr hz=>Afk (h3 i r z hr hz)⟩
end Go.QF
namespace Go.QF
def Abs (x b:Int):Prop:= -b<=x/\x<=b
theorem ASz {x y a b:Int} (hx:Abs x a) (hy:Abs y b):Abs (x * y) (a * b):=by
 unfold Abs at *;have ha:0<=a:=by omega
 have hb:0<=b:=by omega
 have h1:0<=(a - x) * (b - y):=Int.mul_nonneg (by omega) (by omega);have h2:0<=(a - x) * (b + y):=Int.mul_nonneg (by omega) (by omega);have h3:0<=(a + x) * (b - y):=Int.mul_nonneg (by omega) (by omega);have h4:0<=(a + x) * (b + y):=Int.mul_nonneg (by omega) (by omega);constructor <;> grind
theorem Alo {x b y:Int} (hb:0 < b) (hx:Abs x (b * y)):Abs (x.tdiv b) y:=by
 unfold Abs at *;rcases ARj x 0 with h | h
 ·have h1:x.tdiv b= -((-x).tdiv b):=by rw [Int.neg_tdiv,Int.neg_neg]
  have h2:(-x).tdiv b=(-x) / b:=Int.tdiv_eq_ediv_of_nonneg (by omega)
  have h3:(-x) / b<=y:=by
    have:(-x) / b<=(b * y) / b:=Int.ediv_le_ediv hb (by omega)
    rwa [Int.mul_ediv_cancel_left _ (by omega)] at this
  have h4:0<=(-x) / b:=Int.ediv_nonneg (by omega) (by omega);omega
 ·have h2:x.tdiv b=x / b:=Int.tdiv_eq_ediv_of_nonneg h
  have h3:x / b<=y:=by
    have:x / b<=(b * y) / b:=Int.ediv_le_ediv hb (by omega)
    rwa [Int.mul_ediv_cancel_left _ (by omega)] at this
  have h4:0<=x / b:=Int.ediv_nonneg h (by omega);omega
def AX1 (M:List (List Int)):Prop:=(1<=M.length/\M.length<=8)/\(∀ z∈M,z.length=M.length)/\ ∀ i j,i < M.length->j < M.length->ent M i j=ent M j i/\ -262144 < ent M i j/\ent M i j < 262144
open Classical in
noncomputable def AJy (M:List (List Int)):Bool:=decide (AX1 M)
theorem AGa {M:List (List Int)} (h:AX1 M):true=AJy M:=by simp [AJy,h]
theorem AEs {M:List (List Int)} (h: ¬ AX1 M):false=AJy M:=by simp [AJy,h]
theorem AX2 {M:List (List Int)} (h:AJy M=true):AX1 M:=by simpa [AJy] using h
def ANy (m:Nat) (F:Nat->Nat->Int):Prop:=(0 < F 0 0/\F 0 0 < 65536)/\ ∀ i,1<=i->i < m->2 * F i 0<=F 0 0/\ -2 * F i 0<=F 0 0
instance (m:Nat) (F:Nat->Nat->Int):Decidable (ANy m F):=by
  unfold ANy
  have:Decidable (∀ i,1<=i->i < m->2 * F i 0<=F 0 0/\ -2 * F i 0<=F 0 0):=
    decidable_of_iff (∀ i,i < m->1<=i->2 * F i 0<=F 0 0/\ -2 * F i 0<=F 0 0) ⟨fun h i a b=>h i b a,fun h i a b=>h i b a⟩
  infer_instance
def AO7 (F:Nat->Nat->Int) (last:Int):Nat->Nat->Int:=fun i j=>(F 0 0 * F (i + 1) (j + 1) - F (i + 1) 0 * F 0 (j + 1)).tdiv last
def AS9 (F:Nat->Nat->Int) (last:Int):Prop:=3 * F 0 0 * F 0 0<=4 * (last * AO7 F last 0 0 + F 1 0 * F 1 0)
instance (F:Nat->Nat->Int) (last:Int):Decidable (AS9 F last):=by unfold AS9;infer_instance
def ANz:Nat->(Nat->Nat->Int)->Int->Bool
  | 0,_,_=>false
  | 1,F,_=>decide (0 < F 0 0/\F 0 0<=10000)
  | m + 2,F,last=>decide (ANy (m + 2) F) && (decide (AS9 F last) && ANz (m + 1) (AO7 F last) (F 0 0))
noncomputable def isRed (M:List (List Int)):Bool:=AJy M && ANz M.length (ent M) 1
structure Stg (m:Nat) (F:Nat->Nat->Int) (last:Int) (K:Int):Prop where
  sym:∀ i j,i < m->j < m->F i j=F j i
  bd:∀ i j,i < m->j < m->Abs (F i j) (last * K)
  l1:1<=last
  l2:last<=65535
theorem Ada {m:Nat} {F:Nat->Nat->Int} {last K:Int} (H:Stg (m + 1) F last K) (hK:0<=K) (hs:ANy (m + 1) F):Stg m (AO7 F last) (F 0 0) (K + 16384):=by
 have hd:=hs.1
 have hcol:∀ i,i < m->Abs (2 * F (i + 1) 0) (F 0 0):=fun i hi=>by
   have:=hs.2 (i + 1) (by omega) (by omega)
   exact ⟨by omega,by omega⟩
 refine ⟨fun i j hi hj=>?_,fun i j hi hj=>?_,by omega,by omega⟩
 ·unfold AO7;rw [H.sym (i + 1) (j + 1) (by omega) (by omega),H.sym (i + 1) 0 (by omega) (by omega),H.sym 0 (j + 1) (by omega) (by omega),Int.mul_comm (F 0 (i + 1))]
 ·unfold AO7;refine Alo (by have:=H.l1;omega) ?_;have h1:Abs (F 0 0 * F (i + 1) (j + 1)) (F 0 0 * (last * K)):=ASz ⟨by omega,by omega⟩ (H.bd _ _ (by omega) (by omega))
  have h2:Abs (2 * F (i + 1) 0 * (2 * F 0 (j + 1))) (F 0 0 * F 0 0):=by
    refine ASz (hcol i hi) ?_
    rw [H.sym 0 (j + 1) (by omega) (by omega)];exact hcol j hj
  have h3:0<=F 0 0 * (65536 - F 0 0):=Int.mul_nonneg (by omega) (by omega);have h4:0<=F 0 0 * (last - 1):=Int.mul_nonneg (by omega) (by have:=H.l1;omega);unfold Abs at *;have e1:2 * F (i + 1) 0 * (2 * F 0 (j + 1))=4 * (F (i + 1) 0 * F 0 (j + 1)):=by grind
  rw [e1] at h2;have e2:last * (F 0 0 * (K + 16384))=F 0 0 * (last * K) + 16384 * (F 0 0 * last):=by grind
  rw [e2];have e3:F 0 0 * (65536 - F 0 0)=65536 * F 0 0 - F 0 0 * F 0 0:=by grind
  have e4:F 0 0 * (last - 1)=F 0 0 * last - F 0 0:=by grind
  rw [e3] at h3;rw [e4] at h4;omega
theorem Aiq {M:List (List Int)} (h:AX1 M):Stg M.length (ent M) 1 262144:=by
 refine ⟨fun i j hi hj=>(h.2.2 i j hi hj).1,fun i j hi hj=>?_,by omega,by omega⟩;have:=h.2.2 i j hi hj;unfold Abs;omega
theorem AM6 {m:Nat} {F:Nat->Nat->Int} {last:Int} (h:2<=m) (hs: ¬ ANy m F):ANz m F last=false:=by
 obtain ⟨n,rfl⟩:∃ n,m=n + 2:=⟨m - 2,by omega⟩;unfold ANz;rw [decide_eq_false hs];rfl
theorem AQd {m:Nat} {F:Nat->Nat->Int} {last:Int} (h:2<=m) (hs: ¬ AS9 F last):ANz m F last=false:=by
 obtain ⟨n,rfl⟩:∃ n,m=n + 2:=⟨m - 2,by omega⟩;unfold ANz;rw [decide_eq_false hs,Bool.false_and,Bool.and_false]
theorem Air {m:Nat} {F:Nat->Nat->Int} {last:Int} (h:2<=m) (hs:ANy m F) (hl:AS9 F last):ANz m F last=ANz (m - 1) (AO7 F last) (F 0 0):=by
 obtain ⟨n,rfl⟩:∃ n,m=n + 2:=⟨m - 2,by omega⟩;rw [ANz,decide_eq_true hs,decide_eq_true hl];rfl
theorem AWp {m:Nat} {F:Nat->Nat->Int} {last K:Int} (H:Stg m F last K) (hK0:0<=K) (hK:K<=393216) {i j:Nat} (hi:i < m) (hj:j < m):Abs (F i j) 34359738368:=by
  have h1:=H.bd i j hi hj;have h2:=(AQt (a:=last) (b:=K) (A:=65535) (B:=393216) (by have:=H.l1;omega) H.l2 hK0 hK).2;unfold Abs at *;omega
end Go.QF
namespace Go.Proofs.YtiegjkmfpcgjjaaGreatDoor
open Go Go.QF
set_option maxRecDepth 100000
def zf (z:List Int) (c:Nat):Int:=z[c]?.getD 0
theorem Adb (z:List Int):(List.range z.length).map (zf z)=z:=by
 refine List.ext_getElem (by simp) fun i h1 h2=>?_;simp [zf,h2]
theorem Alp {z:List Int} {m:Int} (hm:0 < m) (h:∀ x∈z,0<=x/\x < m) (c:Nat):0<=zf z c/\zf z c < m:=by
 unfold zf;rcases Nat.lt_or_ge c z.length with hc | hc
 ·simp [hc];exact h _ (List.getElem_mem _)
 ·simp [List.getElem?_eq_none hc,hm]
theorem Alq {h:ABg} {g:Nat} {v:Value} {z:List Int} (HO:AD1 h tI g v (z.map (.int .i64))) {f m:Int} (hz:∀ x∈z,0<=x/\x < m) (hf:0<=f) (hfm:f < m) (hm:2<=m) (Ac:m<=2147483647) (hl:z.length<=1000000):
    AB8 Tryz.prog 76 #[v,.int .i64 f,.int .i64 m] h fun r h'=>Upd (· =g) h h'/\AD1 h' tI g v (((List.range z.length).map fun c=>zf z c * f % m).map (.int .i64)):=by
 refine ACu (l:=[_,_,_]) mx Tryz.func76 rfl rfl rfl rfl rfl (by kernel_rfl) (ABh (Wj (AOl ABt rfl HO.sl (Wj (ABn (ABo (ACg 16776384 (fun j:Nat=>[(10,.int .i64 (j:Int))]) (fun k j h'=>Upd (· =g) h h'/\k=z.length - j/\j<=z.length/\AD1 h' tI g v ((AS6 z.length (fun c=>zf z c * f % m) (zf z) j).map (.int .i64))) (by kernel_rfl) z.length 0 ?_ ⟨rfl,trivial⟩ ?_)))))))
 ·exact ⟨Upd.refl _ _,by omega,by omega,by rw [AVa,Adb];exact HO⟩
 rintro k j s h1 ⟨hU,rfl,hj,HQ⟩;refine ABh (AFe rfl rfl (fun Ab=>?_) (fun Ab=>?_))
 ·refine ABn (ABl (AB6 rfl (ABq (q_t (ABl (ABo (ABh (Wj (ALb ABt rfl HQ.sl rfl (Af4 (by omega)) fun aX haX=>AB3 ACm rfl haX (ACd (ABp ?_)))))))))));have hxb:=Alp (by omega) hz j;have hxf:=AQt (a:=zf z j) (b:=f) (A:=2147483647) (B:=2147483647) (by omega) (by omega) (by omega) (by omega);refine ABw (Wj (Wj (Wj (Wj (AKh rfl rfl (by omega) (by omega) (Wj (ANs rfl rfl (by omega) (by omega) (AMu ABt rfl HQ rfl (by rw [List.length_map,AKx];omega) ?_))))))));refine ARi ACm rfl rfl rfl HQ (by rw [List.length_map,AKx];omega) ?_;have Aa:=HQ.setI (j:=j) (by rw [AKx];omega) (zf z j * f % m);rw [AXa (by omega) rfl] at Aa;refine ACh (q_b (q_t (ABw (AIl rfl (by omega) (Wj (ABn ?_))))));exact ⟨z.length - (j + 1),j + 1,by omega,⟨hU.trans (AGu _ _ _),rfl,by omega,Aa⟩,rfl,trivial⟩
 ·refine ABn (ABl (ACc rfl (AB9 (AB7 (AB7 (ADh (⟨_,ASm,?_⟩)))))));rw [AW8 _ _ (by omega)] at HQ;exact ⟨hU,HQ⟩
theorem AUp {h:ABg} {g gr:Nat} {vt vr:Value} {t r:List Int} {a:Addr} (HT:AD1 h tI g vt (t.map (.int .i64))) (HR:AD1 h tI gr vr (r.map (.int .i64))) (hne:g≠gr) (htr:t.length=r.length) {f m:Int} (hb:AEm h a=some (.int .i64 m)) (hab:a.block≠g) (ht:∀ x∈t,0<=x/\x < m) (hr:∀ x∈r,0<=x/\x < m) (hf:0<=f) (hfm:f < m) (hm:2<=m) (Ac:m<=2147483647) (hl:r.length<=1000000):
    AB8 Tryz.prog 105 #[vt,vr,.int .i64 f,.pointer (some a)] h fun _ h'=>Upd (· =g) h h'/\AD1 h' tI g vt (((List.range r.length).map fun c=>(zf t c + (m - f) * zf r c) % m).map (.int .i64)):=by
 refine ACu (l:=[_,_,_,_]) mx Tryz.func105 rfl rfl rfl rfl rfl (by kernel_rfl) (ABh (Wj (AOl ABt rfl HR.sl (Wj (ABn (ABo (ACg 4294965632 (fun j:Nat=>[(11,.int .i64 (j:Int))]) (fun k j h'=>Upd (· =g) h h'/\k=r.length - j/\j<=r.length/\AD1 h' tI g vt ((AS6 r.length (fun c=>(zf t c + (m - f) * zf r c) % m) (zf t) j).map (.int .i64))) (by kernel_rfl) r.length 0 ?_ ⟨rfl,trivial⟩ ?_)))))))
 ·exact ⟨Upd.refl _ _,by omega,by omega,by rw [AVa,<- htr,Adb];exact HT⟩
 rintro k j s h1 ⟨hU,rfl,hj,HQ⟩;have HRc:=HR.upd hU (fun he=>hne he.symm);have hbx:=ASn hb hU (fun he=>hab he);refine ABh (AFe rfl rfl (fun Ab=>?_) (fun Ab=>?_))
 ·refine ABn (ABl (AB6 rfl (ABq (q_t (ABl (ABo (ABh (Wj (ALb ABt rfl HRc.sl rfl (show r[j]? =some (zf r j) by rw [zf,List.getElem?_eq_getElem (by omega)];rfl) fun aX haX=>?_)))))))));refine AB3 ACm rfl haX (ACd (ABp ?_));have hxb:=Alp (by omega) hr j;have htb:=Alp (by omega) ht j;have hxf:=AQt (a:=m - f) (b:=zf r j) (A:=2147483647) (B:=2147483647) (by omega) (by omega) (by omega) (by omega);refine ANq (by kernel_rfl) (Wj (Wj (Wj (Wj (ALb ABt rfl HQ.sl rfl (Af4 (by omega)) fun aT haT=>AB3 ACm rfl haT (AB3 ACm rfl hbx (Wj (AKv rfl rfl (by omega) (by omega) (Wj (AKh rfl rfl (by omega) (by omega) (AR3 rfl rfl (by omega) (by omega) (AB3 ACm rfl hbx (ANs rfl rfl (by omega) (by omega) (AMu ABt rfl HQ rfl (by rw [List.length_map,AKx];omega) ?_))))))))))))));refine ARi ACm rfl rfl rfl HQ (by rw [List.length_map,AKx];omega) ?_;have Aa:=HQ.setI (j:=j) (by rw [AKx];omega) ((zf t j + (m - f) * zf r j) % m);rw [AXa (by omega) rfl] at Aa;refine ACh (q_b (q_t (ABw (AIl rfl (by omega) (Wj (ABn ?_))))));exact ⟨r.length - (j + 1),j + 1,by omega,⟨hU.trans (AGu _ _ _),rfl,by omega,Aa⟩,rfl,trivial⟩
 ·refine ABn (ABl (ACc rfl (AB9 (AB7 (AB7 (ADh (⟨_,ASm,?_⟩)))))));rw [AW8 _ _ (by omega)] at HQ;exact ⟨hU,HQ⟩
theorem ATk (m:Int) (h:ABg):AB8 Tryz.prog 74 #[.int .i64 m] h fun v h'=>h'=h.push (.cells #[.int .i64 m] tI (0,0))/\v= .func (.func 105) #[] #[.pointer (some ⟨h.size,0,none⟩)]:=by
 refine ACu (l:=[_]) mx Tryz.func74 rfl rfl rfl rfl rfl (by kernel_rfl) (ABh (Ajl trivial rfl ⟨trivial,?_⟩));refine ACq (Aqn (l:=[.pointer (some ⟨h.size,0,none⟩)]) rfl (ABp (ABr (⟨_,ABs,?_⟩))));exact ⟨rfl,rfl⟩
theorem AX3 {c:Nat} {g:Nat->Int} {q:Nat} (hq:q < c):zf ((List.range c).map g) q=g q:=by simp [zf,hq]
theorem AGj {α:Type} {c:Nat} {g:Nat->α} {q:Nat} (hq:q < c):((List.range c).map g)[q]? =some (g q):=by simp [hq]
theorem AV4 {α:Type} {c:Nat} {f g:Nat->α} (h:∀ q,q < c->f q=g q):(List.range c).map f=(List.range c).map g:=List.map_congr_left fun q hq=>h q (by simpa using hq)
theorem Ais {c:Nat} {g:Nat->Int} {f m:Int}:(List.range ((List.range c).map g).length).map (fun q=>zf ((List.range c).map g) q * f % m)=(List.range c).map fun q=>g q * f % m:=by
 rw [List.length_map,List.length_range];exact AV4 fun q hq=>by rw [AX3 hq]
theorem Adc {c:Nat} {g k:Nat->Int} {f m:Int}:(List.range ((List.range c).map g).length).map (fun q=>(zf ((List.range c).map k) q + (m - f) * zf ((List.range c).map g) q) % m)=(List.range c).map fun q=>(k q + (m - f) * g q) % m:=by
 rw [List.length_map,List.length_range];exact AV4 fun q hq=>by rw [AX3 hq,AX3 hq]
def Atm (x:Nat):Value:= .int .i64 (x:Int)
def Ade (h h':ABg) (b:Nat) (gs:List Nat) (v:Value) (r c:Nat) (p:Int) (F:Nat->Nat->Int) (pv:Value) (piv:List Nat) (gs':List Nat):Prop:=
  Upd (· ∈b :: gs) h h'/\ADp h' tR tI b gs' v r (tab r c F)/\(∀ g∈gs',g∈gs)/\Gro h' 3 (h.size + 1) pv (piv.map Atm)/\AEm h' ⟨h.size,0,none⟩=some (.int .i64 p)/\h.size + 1<=h'.size
theorem Ade.turn {h h1 h2:ABg} {b:Nat} {gs Af Ab:List Nat} {v pv:Value} {r c:Nat} {p:Int} {F F2:Nat->Nat->Int} {piv:List Nat} (H:Ade h h1 b gs v r c p F pv piv Af) (hlt:∀ g∈b :: gs,g < h.size) {g:Nat} (hU:Upd (· =g) h1 h2) (hg:g∈b :: gs) (HP:ADp h2 tR tI b Ab v r (tab r c F2)) (hs:∀ g∈Ab,g∈gs):Ade h h2 b gs v r c p F2 pv piv Ab:=by
 obtain ⟨h3,h4,h5,h6,h7,h8⟩:=H;have hgl:=hlt g hg;refine ⟨h3.trans (hU.mono fun k _ hk=>by have Aj:k=g:=hk;rw [Aj];exact hg),HP,hs,h6.upd hU (fun k hk he=>by have Ak:k=g:=he;have:=(h6.blk k hk).1;omega),ASn h7 hU (fun he=>by have Ak:h.size=g:=he;omega),Nat.le_trans h8 hU.1⟩
section
variable {P:Program} {B:ABg->Prop} {st:Bool} {ops:Array Oper} {rest:List Oper} {e:Env} {h:ABg} {K:Env->ABg->Prop}
variable {d:Nat} {ty:TypeId} {pos:String} {af:Array Edge}
end
theorem ADp.nodup {h:ABg} {er ei b n:Nat} {gs:List Nat} {v:Value} {M:List (List Int)} (H:ADp h er ei b gs v n M):(b :: gs).Nodup:=let ⟨_,_,_,_,_,_,h⟩:=H;h
end Go.Proofs.YtiegjkmfpcgjjaaGreatDoor
namespace Go.Proofs.YtiegjkmfpcgjjaaGreatDoor
open Go Go.QF
set_option maxRecDepth 100000
def Alr (n C:Nat) (m:Int) (Q:(Nat->Nat->Int)->Int->Prop):Prop:= ∀ F s c i q,c < n->i < n->c≠i->0<=q->q < m->Bd n C m F->Q F s->Q (ANi F c i q m) (-s)
theorem AYv {h:ABg} {b:Nat} {gs:List Nat} {v:Value} {n C:Nat} {F:Nat->Nat->Int} {m:Int} (Aj:ADp h tR tI b gs v n (tab n C F)) (hnC:n<=C) (hC:C<=1000000) (hm:2<=m) (Be:m<=2147483647) (hbd:Bd n C m F) (Q:(Nat->Nat->Int)->Int->Prop) (Bf:Q F 1) (hQ:Alr n C m Q):
    AB8 Tryz.prog 73 #[v,.int .i64 m] h fun x h'=>Upd (· ∈b :: gs) h h'/\ ∃ F1 s Af,x= .int .i64 s/\(s=1∨s= -1)/\ADp h' tR tI b Af v n (tab n C F1)/\(∀ g∈Af,g∈gs)/\Q F1 s/\Bd n C m F1/\Zc n F1 n:=by
 have HP:=Aj;refine ACu (l:=[_,_]) mx Tryz.func73 rfl rfl rfl rfl rfl (by kernel_rfl) (ABh (ACq (Wj (ACo trivial rfl (ATk m h) fun fv h1 hk=>?_))));obtain ⟨rfl,rfl⟩:=hk;refine ⟨trivial,?_⟩;have hpush:=AD8 h (.cells #[.int .i64 m] tI (0,0));have HP:=ADp.ext Aj hpush;have hlt:=ADp.lt Aj;refine ACq (ABp (ABl (ABh (Wj (ATq AB1 rfl HP (Wj (ABn (ABo (ACg 18889465931478580847040 (fun y:Nat × Int=>[(13,.int .i64 (y.1:Int)),(6,.int .i64 y.2)]) (fun k y h'=>k=n - y.1/\y.1<=n/\(y.2=1∨y.2= -1)/\ ∃ F1 Af,Ade h h' b gs v n C m F1 (.slice none 0 0) [] Af/\Q F1 y.2/\Bd n C m F1/\Zc n F1 y.1) (by kernel_rfl) n (0,1) ?_ ⟨rfl,rfl,trivial⟩ ?_)))))))))
 ·refine ⟨rfl,by omega,.inl rfl,F,gs,⟨hpush.upd,HP,fun g hg=>hg,ASp _ _ _,?_,by simp⟩,Bf,hbd,fun c' i h1=>by omega⟩;simp [AEm]
 rintro k ⟨c,s1⟩ sx h1 ⟨rfl,hc,Am,F1,Af,Ah,Ao,Ay,Ap⟩;dsimp only at hc Am Ao Ap ⊢;have Bo:=Ah.2.1;refine ABh (AFe rfl rfl (fun Bg=>?_) (fun Bg=>?_))
 ·refine ABn (ABl (AB6 rfl (ABq (q_t (ABl (ABo (ABh (Wj (ACq (Wj (AIl rfl (by omega) (ABp (ABo ?_)))))))))))));refine ACg 9444732965739290165568 (fun y:Nat × Int=>[(8,.int .i64 (y.1:Int)),(6,.int .i64 y.2)]) (fun k y h'=>k=n - y.1/\c < y.1/\y.1<=n/\(y.2=1∨y.2= -1)/\ ∃ F2 Ai,Ade h h' b gs v n C m F2 (.slice none 0 0) [] Ai/\Q F2 y.2/\Bd n C m F2/\Zc n F2 c/\Zi F2 c y.1) (by kernel_rfl) (n - (c + 1)) (c + 1,s1) ?_ ⟨rfl,rfl,trivial⟩ ?_
  ·exact ⟨rfl,by first | omega | (dsimp only;omega),by first | omega | (dsimp only;omega),Am,F1,Af,Ah,Ao,Ay,Ap,fun k h1 h2=>by omega⟩
  rintro k ⟨i,s2⟩ sy h2 ⟨rfl,hci,hi,Aq,F2,Ai,Ar,Au,Az,A3,Av⟩;dsimp only at hci hi Aq Au Av ⊢;have Bi:=Ar.2.1;refine ABl (ABh (Wj (Wj (ATq AB1 rfl Bi (AFe rfl rfl (fun Bj=>?_) (fun Bj=>?_))))))
  ·refine ABn (AB6 rfl (ABq (q_t (ABl (ABo (ABo (ACg 9444732965739273650240 (fun s3:Int=>[(6,.int .i64 s3)]) (fun k s3 h'=>(s3=1∨s3= -1)/\ ∃ F3 Aw,k=(F3 i c).toNat/\Ade h h' b gs v n C m F3 (.slice none 0 0) [] Aw/\Q F3 s3/\Bd n C m F3/\Zc n F3 c/\Zi F3 c i) (by kernel_rfl) (F2 i c).toNat s2 ?_ ⟨rfl,trivial⟩ ?_)))))))
   ·exact ⟨Aq,F2,Ai,rfl,Ar,Au,Az,A3,Av⟩
   rintro k s3 sz h3 ⟨Bl,F3,Aw,rfl,Ae,A4,Ag,A5,A6⟩;have Ad:=Ae.2.1;refine ABl (ABh (Wj (Wj (ANh AB1 rfl Ad rfl (AEc (by omega)) fun aA rA gA haA hgA hrA=>AB3 ACn rfl haA (Wj (ALb ABt rfl hrA.sl rfl (AGj (by omega)) fun aB haB=>AB3 ACm rfl haB (ATe rfl rfl (fun A7=>?_) (fun A7=>?_))))))))
   ·refine ABn (AB6 rfl (ABq (q_t (ABo (ABl ?_)))));have hcc:=Ag c c (by omega) (by omega);have hic:=Ag i c (by omega) (by omega);have hq:=Aj2 hcc.1 hcc.2 (b:=F3 i c) (by omega);refine ANq (by kernel_rfl) (Wj (Wj (Wj (ANh AB1 rfl Ad rfl (AEc (by omega)) fun aK rK gK haK hgK hrK=>AB3 ACn rfl haK (Wj (Wj (ANh AB1 rfl Ad rfl (AEc (by omega)) fun aL rL gL haL hgL hrL=>AB3 ACn rfl haL ?_)))))));have hgKm:gK∈b :: gs:=List.mem_cons_of_mem _ (Ae.2.2.1 _ (List.mem_of_getElem? hgK));have hneKL:gK≠gL:=fun he=>absurd (AGl (List.nodup_cons.1 (ADp.nodup Ae.2.1)).2 hgK (he ▸ hgL)) (by omega);refine Wj (Wj (ANh AB1 rfl Ad rfl (AEc (by omega)) fun aN rN gN haN hgN hrN=>AB3 ACn rfl haN (Wj (ALb ABt rfl hrN.sl rfl (AGj (by omega)) fun aU haU=>AB3 ACm rfl haU (Wj (Wj (ANh AB1 rfl Ad rfl (AEc (by omega)) fun aO rO gO haO hgO hrO=>AB3 ACn rfl haO (Wj (ALb ABt rfl hrO.sl rfl (AGj (by omega)) fun aV haV=>AB3 ACm rfl haV (AU5 rfl rfl (by omega) (by omega) (by omega) (AZ1 trivial rfl rfl (AUp (a:=⟨h.size,0,none⟩) hrK hrL hneKL (by simp) Ae.2.2.2.2.1 (by have:=hlt _ hgKm;dsimp only;omega) (AXd Ag (by omega)) (AXd Ag (by omega)) hq.1 hq.2 hm Be (by simp;omega)) fun ev h7 hk=>?_)))))))))));obtain ⟨A8,A9⟩:=hk;refine ⟨trivial,?_⟩;rw [Adc] at A9;have Ax:=ADp.setRow' Ae.2.1 hgK A8 (AEc (by omega)) hrK A9;rw [AHl] at Ax;have Ba:=Ae.turn hlt A8 hgKm Ax Ae.2.2.1;have Ad:=Ax;refine ABn (ABl (ANq (by kernel_rfl) (Wj (Wj (Wj (Wj (Wj (Wj (ANh AB1 rfl Ad rfl (AEc (by omega)) fun aI rI gI haI hgI hrI=>AB3 ACn rfl haI (Wj (Wj (ANh AB1 rfl Ad rfl (AEc (by omega)) fun aT rT gT haT hgT hrT=>AB3 ACn rfl haT ?_))))))))))));obtain ⟨rs,HT,hrl⟩:=ADp.top Ad;refine AMu AB1 rfl HT rfl (by omega) (ARi ACn rfl rfl hrI.one HT (by omega) ?_);have Bb:=HT.set c rI (by omega);refine AMu AB1 rfl Bb rfl (by simp;omega) ?_;refine ARi ACn rfl rfl hrT.one Bb (by simp;omega) ?_;have Bc:=ADp.swap Ad hgT hgI (AEc (by omega)) (AEc (by omega)) hrT hrI;rw [AHl,AHl] at Bc;have Bm:=Ba.turn hlt ((AGu _ ⟨b,c,none⟩ rI).trans (AGu _ ⟨b,i,none⟩ rT)) (List.mem_cons_self ..) (F2:=ANi F3 c i (F3 c c / F3 i c) m) Bc (fun g hg=>Ba.2.2.1 g (Aj0 hgT hgI hg));refine ABn (ABw (Wj (AR1 rfl ?_)));have hws:IntKind.i64.wrap (0 - s3)= -s3:=by rw [IntKind.wrap_i64];omega
    rw [hws];refine ACd (ACh (q_b (q_t ?_)));have Bn:ANi F3 c i (F3 c c / F3 i c) m i c=F3 c c % F3 i c:=by rw [Aab];exact Af9 hcc.1 hcc.2 (by omega) hic.2
    have Br:=Int.emod_lt_of_pos (F3 c c) (b:=F3 i c) (by omega);exact ⟨_,-s3,by rw [Bn];omega,⟨by omega,_,_,rfl,Bm,hQ _ _ _ _ _ (by omega) (by omega) (by omega) hq.1 hq.2 Ag A4,Af6 (by omega) Ag (by omega) (by omega),Af7 A5 (by omega) (by omega),Af8 A6⟩,rfl,trivial⟩
   ·refine ABn (ACc rfl (AB9 (AB7 (AB7 (ADh (q_b (q_t (ABw (Wj (AIl rfl (by omega) (ABp ?_)))))))))));exact ⟨n - (i + 1),(i + 1,s3),by first | omega | (dsimp only;omega),⟨rfl,by first | omega | (dsimp only;omega),by first | omega | (dsimp only;omega),Bl,F3,Aw,Ae,A4,Ag,A5,Aac A6 A7⟩,rfl,rfl,trivial⟩
  ·refine ABn (ACc rfl (AB9 (AB7 (AB7 (ADh (q_b (q_t (ABw (AIl rfl (by omega) (Wj (ABn ?_)))))))))));obtain rfl:i=n:=by omega
   exact ⟨i - (c + 1),(c + 1,s2),by first | omega | (dsimp only;omega),⟨rfl,by first | omega | (dsimp only;omega),Aq,F2,Ai,Ar,Au,Az,Aad A3 Av⟩,rfl,rfl,trivial⟩
 ·refine ABn (ABl (ACc rfl (AB9 (AB7 (AB7 (ADh (q_t (ABh (Wj (ABp (ABr (⟨_,ABs,?_⟩))))))))))));obtain rfl:c=n:=by omega
  exact ⟨Ah.1,F1,s1,Af,rfl,Am,Ah.2.1,Ah.2.2.1,Ao,Ay,Ap⟩
theorem Afl {h:ABg} {v:Value} {M:List (List Int)} (HM:Mat h v M):AB8 Tryz.prog 102 #[v] h fun x h'=>h'=h/\x= .bool (AJy M):=by
 refine ACu (l:=[_]) mx Tryz.func102 rfl rfl rfl rfl rfl (by kernel_rfl) (ABh (ACq (Wj (AMg AB1 rfl HM (ABp (ABl (ABh (Wj (AFe rfl rfl (fun Ab=>?_) (fun Ab=>?_))))))))))
 ·refine Wj (ACb 14 true (by kernel_rfl) rfl rfl (ACb 14 true (by kernel_rfl) rfl rfl (AB0 rfl (ABn (AB6 rfl (ABh (ABp (ABr (ABz (⟨_,ABs,?_⟩))))))))))
  first
    | exact ⟨rfl,congrArg Value.bool (AEs fun hh=>by have:=hh.1;omega)⟩
    | exact ⟨rfl,congrArg Value.bool (AEs fun hh=>by have:=hh.2.1 M[i] (List.getElem_mem _);omega)⟩
    | exact ⟨rfl,congrArg Value.bool (AEs fun hh=>by have:=hh.2.2 a b (by omega) (by omega);omega)⟩
    | exact ⟨rfl,congrArg Value.bool (AGa ⟨⟨by omega,by omega⟩,hrows,fun x y hx hy=>hall x y (by omega) hy⟩)⟩
 ·refine Wj (ACt 14 false (by kernel_rfl) rfl rfl (Wj (ACt 14 false (by kernel_rfl) rfl rfl (AP3 rfl rfl (fun Ac=>?_) (fun Ac=>?_)))))
  ·refine ABx rfl (ABn (AB6 rfl (ABh (ABp (ABr (ABz (⟨_,ABs,?_⟩)))))))
   first
     | exact ⟨rfl,congrArg Value.bool (AEs fun hh=>by have:=hh.1;omega)⟩
     | exact ⟨rfl,congrArg Value.bool (AEs fun hh=>by have:=hh.2.1 M[i] (List.getElem_mem _);omega)⟩
     | exact ⟨rfl,congrArg Value.bool (AEs fun hh=>by have:=hh.2.2 a b (by omega) (by omega);omega)⟩
     | exact ⟨rfl,congrArg Value.bool (AGa ⟨⟨by omega,by omega⟩,hrows,fun x y hx hy=>hall x y (by omega) hy⟩)⟩
  ·refine ABx rfl (ABn (ACc rfl (ABq (q_t (ABl (ABh (Wj (AMg AB1 rfl HM (Wj (ABn (ABo (ACg 535822372 (fun i:Nat=>[(20,.int .i64 (i:Int))]) (fun k i h'=>h'=h/\k=M.length - i/\i<=M.length/\ ∀ j (hj:j < M.length),j < i->M[j].length=M.length) (by kernel_rfl) M.length 0 ?_ ⟨rfl,trivial⟩ ?_))))))))))))
   ·exact ⟨rfl,rfl,Nat.zero_le _,fun j _ hj=>by omega⟩
   rintro k i s1 h ⟨rfl,rfl,hi,hrow⟩;refine ABh (AFe rfl rfl (fun Ad=>?_) (fun Ad=>?_))
   ·refine ABn (ABl (AB6 rfl (ABq (q_t (ABl (ABo (ABh (AN5 AB1 rfl HM rfl (List.getElem?_eq_getElem (by omega)) fun aR rR haR hrR=>?_))))))));refine AB3 ACn rfl haR (ACq (Wj (AOl ABt rfl hrR (Wj (ATe rfl rfl (fun Ae=>?_) (fun Ae=>?_))))))
    ·refine ABn (AB6 rfl (ABh (ABp (ABr (ADk (ABz (ABz (ADk (ABz (⟨_,ABs,?_⟩))))))))))
     first
       | exact ⟨rfl,congrArg Value.bool (AEs fun hh=>by have:=hh.1;omega)⟩
       | exact ⟨rfl,congrArg Value.bool (AEs fun hh=>by have:=hh.2.1 M[i] (List.getElem_mem _);omega)⟩
       | exact ⟨rfl,congrArg Value.bool (AEs fun hh=>by have:=hh.2.2 a b (by omega) (by omega);omega)⟩
       | exact ⟨rfl,congrArg Value.bool (AGa ⟨⟨by omega,by omega⟩,hrows,fun x y hx hy=>hall x y (by omega) hy⟩)⟩
    ·refine ABn (ACc rfl (ABq (q_b (q_t (ABw (AIl rfl (by omega) (Wj (ABn ?_))))))));exact ⟨M.length - (i + 1),i + 1,by omega,⟨rfl,rfl,by omega,fun j hj Af=>by rcases Nat.lt_succ_iff_lt_or_eq.1 Af with q | rfl;exact hrow j hj q;omega⟩,rfl,trivial⟩
   ·refine ABn (ABl (ACc rfl (AB9 (AB7 (AB7 (ADh (q_t (ABl (ABl ?_)))))))));have hrows:∀ z∈M,z.length=M.length:=fun z hz=>by obtain ⟨j,hj,rfl⟩:=List.getElem_of_mem hz;exact hrow j hj (by omega)
    have Aa:Mat h v (tab M.length M.length (ent M)):=(AZ5 hrows) ▸ HM;refine ABw (Wj (AMg AB1 rfl Aa ?_));rw [AC9];refine Wj (ABn (ABo (ACg 4611686016279905220 (fun a:Nat=>[(31,.int .i64 (a:Int))]) (fun k a h'=>h'=h/\k=M.length - a/\a<=M.length/\ ∀ x y,x < a->y < M.length->ent M x y=ent M y x/\ -262144 < ent M x y/\ent M x y < 262144) (by kernel_rfl) M.length 0 ?_ ⟨rfl,trivial⟩ ?_)))
    ·exact ⟨rfl,rfl,Nat.zero_le _,fun x y hx=>by omega⟩
    rintro k a s2 h ⟨rfl,rfl,ha,hall⟩;refine ABh (AFe rfl rfl (fun Ag=>?_) (fun Ag=>?_))
    ·refine ABn (ABl (AB6 rfl (ABq (q_t (ABl (ABo (ABh (Wj (AN5 AB1 rfl Aa rfl (AEc (by omega)) fun aS rS haS hrS=>AB3 ACn rfl haS (ACd (ACq (Wj (AOl ABt rfl hrS ?_)))))))))))));rw [List.length_map,List.length_range];refine Wj (ABn (ABo (ACg 2305842734335787780 (fun b:Nat=>[(38,.int .i64 (b:Int))]) (fun k b h'=>h'=h/\k=M.length - b/\b<=M.length/\ ∀ y,y < b->ent M a y=ent M y a/\ -262144 < ent M a y/\ent M a y < 262144) (by kernel_rfl) M.length 0 ?_ ⟨rfl,trivial⟩ ?_)))
     ·exact ⟨rfl,rfl,Nat.zero_le _,fun y hy=>by omega⟩
     rintro k b s3 h ⟨rfl,rfl,hb,hrw⟩;refine ABh (AFe rfl rfl (fun Ah=>?_) (fun Ah=>?_))
     ·refine ABn (ABl (AB6 rfl (ABq (q_t (ABl (ABo (ABh (Wj (ALb ABt rfl hrS rfl (AGj (by omega)) fun Aq Ai=>AB3 ACm rfl Ai (ACd (ACq (Wj (Wj (Wj (AN5 AB1 rfl Aa rfl (AEc (by omega)) fun aT rT haT hrT=>?_)))))))))))))));refine AB3 ACn rfl haT (Wj (ALb ABt rfl hrT rfl (AGj (by omega)) fun Ar Aj=>AB3 ACm rfl Aj (ATe rfl rfl (fun Ak=>?_) (fun Ak=>?_))))
      ·refine Wj (ACb 52 true (by kernel_rfl) rfl rfl (ACb 52 true (by kernel_rfl) rfl rfl (AB0 rfl (Wj (ACb 56 true (by kernel_rfl) rfl rfl (ACb 56 true (by kernel_rfl) rfl rfl (AB0 rfl (ABn (AB6 rfl (ABh (ABp (ABr (ADk (ABz (ABz (ADk (ADk (ABz (ABz (ADk (ABz (⟨_,ABs,?_⟩))))))))))))))))))))))
       first
         | exact ⟨rfl,congrArg Value.bool (AEs fun hh=>by have:=hh.1;omega)⟩
         | exact ⟨rfl,congrArg Value.bool (AEs fun hh=>by have:=hh.2.1 M[i] (List.getElem_mem _);omega)⟩
         | exact ⟨rfl,congrArg Value.bool (AEs fun hh=>by have:=hh.2.2 a b (by omega) (by omega);omega)⟩
         | exact ⟨rfl,congrArg Value.bool (AGa ⟨⟨by omega,by omega⟩,hrows,fun x y hx hy=>hall x y (by omega) hy⟩)⟩
      ·refine Wj (ACt 52 false (by kernel_rfl) rfl rfl (Wj (ACt 52 false (by kernel_rfl) rfl rfl (ATc rfl rfl (fun Am=>?_) (fun Am=>?_)))))
       ·refine ABx rfl (Wj (ACb 56 true (by kernel_rfl) rfl rfl (ACb 56 true (by kernel_rfl) rfl rfl (AB0 rfl (ABn (AB6 rfl (ABh (ABp (ABr (ADk (ABz (ABz (ADk (ADk (ABz (ABz (ADk (ABz (⟨_,ABs,?_⟩)))))))))))))))))))
        first
          | exact ⟨rfl,congrArg Value.bool (AEs fun hh=>by have:=hh.1;omega)⟩
          | exact ⟨rfl,congrArg Value.bool (AEs fun hh=>by have:=hh.2.1 M[i] (List.getElem_mem _);omega)⟩
          | exact ⟨rfl,congrArg Value.bool (AEs fun hh=>by have:=hh.2.2 a b (by omega) (by omega);omega)⟩
          | exact ⟨rfl,congrArg Value.bool (AGa ⟨⟨by omega,by omega⟩,hrows,fun x y hx hy=>hall x y (by omega) hy⟩)⟩
       ·refine ABx rfl (Wj (ACt 56 false (by kernel_rfl) rfl rfl (Wj (ACt 56 false (by kernel_rfl) rfl rfl (ATd rfl rfl (fun Ao=>?_) (fun Ao=>?_))))))
        ·refine ABx rfl (ABn (AB6 rfl (ABh (ABp (ABr (ADk (ABz (ABz (ADk (ADk (ABz (ABz (ADk (ABz (⟨_,ABs,?_⟩)))))))))))))))
         first
           | exact ⟨rfl,congrArg Value.bool (AEs fun hh=>by have:=hh.1;omega)⟩
           | exact ⟨rfl,congrArg Value.bool (AEs fun hh=>by have:=hh.2.1 M[i] (List.getElem_mem _);omega)⟩
           | exact ⟨rfl,congrArg Value.bool (AEs fun hh=>by have:=hh.2.2 a b (by omega) (by omega);omega)⟩
           | exact ⟨rfl,congrArg Value.bool (AGa ⟨⟨by omega,by omega⟩,hrows,fun x y hx hy=>hall x y (by omega) hy⟩)⟩
        ·refine ABx rfl (ABn (ACc rfl (ABq (q_b (q_t (ABw (AIl rfl (by omega) (Wj (ABn ?_)))))))));exact ⟨M.length - (b + 1),b + 1,by omega,⟨rfl,rfl,by omega,fun y hy=>by rcases Nat.lt_succ_iff_lt_or_eq.1 hy with q | rfl;exact hrw y q;exact ⟨by omega,by omega,by omega⟩⟩,rfl,trivial⟩
     ·refine ABn (ABl (ACc rfl (AB9 (AB7 (AB7 (ADh (q_b (q_t (ABw (AIl rfl (by omega) (Wj (ABn ?_))))))))))));exact ⟨M.length - (a + 1),a + 1,by omega,⟨rfl,rfl,by omega,fun x y hx hy=>by rcases Nat.lt_succ_iff_lt_or_eq.1 hx with q | rfl;exact hall x y q hy;exact hrw y (by omega)⟩,rfl,trivial⟩
    ·refine ABn (ABl (ACc rfl (AB9 (AB7 (AB7 (ADh (q_t (ABh (ABp (ABr (⟨_,ABs,?_⟩)))))))))))
     first
       | exact ⟨rfl,congrArg Value.bool (AEs fun hh=>by have:=hh.1;omega)⟩
       | exact ⟨rfl,congrArg Value.bool (AEs fun hh=>by have:=hh.2.1 M[i] (List.getElem_mem _);omega)⟩
       | exact ⟨rfl,congrArg Value.bool (AEs fun hh=>by have:=hh.2.2 a b (by omega) (by omega);omega)⟩
       | exact ⟨rfl,congrArg Value.bool (AGa ⟨⟨by omega,by omega⟩,hrows,fun x y hx hy=>hall x y (by omega) hy⟩)⟩
theorem Als {m:Nat} {F:Nat->Nat->Int}:(tab m m F).drop 1=tab (m - 1) m fun i j=>F (i + 1) j:=by
 refine List.ext_getElem (by simp [tab]) fun i h1 h2=>?_;simp [tab,Nat.add_comm]
theorem AX4 {h:ABg} {v:Value} {m:Nat} {F:Nat->Nat->Int} (HM:Mat h v (tab m m F)) (hcap:AMv v) (hm:1<=m) (Au:m<=8) (hfit:∀ i,i < m->Abs (F i 0) 34359738368):AB8 Tryz.prog 103 #[v] h fun x h'=>h'=h/\x= .bool (decide (ANy m F)):=by
 refine ACu (l:=[_]) mx Tryz.func103 rfl rfl rfl rfl rfl (by kernel_rfl) (ABh (ACq (Wj (AN5 (n:=0) AB1 rfl HM rfl (AEc (by omega)) fun Av Aw Ad Ae=>AB3 ACn rfl Ad (ALb (n:=0) ABt rfl Ae rfl (AGj (by omega)) fun Ax Af=>AB3 ACm rfl Af (ABp (ABl (ABh (Wj (ATc rfl rfl (fun Ag=>?_) (fun Ag=>?_)))))))))))
 ·refine Wj (ACb 13 true (by kernel_rfl) rfl rfl (ACb 13 true (by kernel_rfl) rfl rfl (AB0 rfl (ABn (AB6 rfl (ABh (ABp (ABr (ABz (⟨_,ABs,?_⟩))))))))))
  first
    | exact ⟨rfl,congrArg Value.bool (decide_eq_false (fun hh=>by have:=hh.1;omega)).symm⟩
    | exact ⟨rfl,congrArg Value.bool (decide_eq_false (fun hh=>by have:=hh.2 (i + 1) (by omega) (by omega);omega)).symm⟩
    | exact ⟨rfl,congrArg Value.bool (decide_eq_true ⟨⟨by omega,by omega⟩,fun j h1 h2=>hall j h1 (by omega)⟩).symm⟩
 ·refine Wj (ACt 13 false (by kernel_rfl) rfl rfl (Wj (ACt 13 false (by kernel_rfl) rfl rfl (ATd rfl rfl (fun Ah=>?_) (fun Ah=>?_)))))
  ·refine ABx rfl (ABn (AB6 rfl (ABh (ABp (ABr (ABz (⟨_,ABs,?_⟩)))))))
   first
     | exact ⟨rfl,congrArg Value.bool (decide_eq_false (fun hh=>by have:=hh.1;omega)).symm⟩
     | exact ⟨rfl,congrArg Value.bool (decide_eq_false (fun hh=>by have:=hh.2 (i + 1) (by omega) (by omega);omega)).symm⟩
     | exact ⟨rfl,congrArg Value.bool (decide_eq_true ⟨⟨by omega,by omega⟩,fun j h1 h2=>hall j h1 (by omega)⟩).symm⟩
  ·refine ABx rfl (ABn (ACc rfl (ABq (q_t (ABl (ABh (Wj (Ah8 (k:=1) AB1 rfl HM hcap rfl (by rw [AC9];omega) fun v1 Ai Ay=>?_))))))));have HD:Mat h v1 (tab (m - 1) m fun i j=>F (i + 1) j):=Als (m:=m) ▸ Ai;refine AMg AB1 rfl HD ?_;rw [AC9];refine Wj (ABn (ABo (ACg 549754765348 (fun i:Nat=>[(20,.int .i64 (i:Int))]) (fun k i h'=>h'=h/\k=m - 1 - i/\i<=m - 1/\ ∀ j,1<=j->j < i + 1->2 * F j 0<=F 0 0/\ -2 * F j 0<=F 0 0) (by kernel_rfl) (m - 1) 0 ?_ ⟨rfl,trivial⟩ ?_)))
   ·exact ⟨rfl,rfl,Nat.zero_le _,fun j h1 h2=>by omega⟩
   rintro k i s1 h ⟨rfl,rfl,hi,hall⟩;refine ABh (AFe rfl rfl (fun Aj=>?_) (fun Aj=>?_))
   ·refine ABn (ABl (AB6 rfl (ABq (q_t (ABl (ABo (ABh (AN5 AB1 rfl HD rfl (AEc (by omega)) fun Az A3 Ak Ac=>AB3 ACn rfl Ak (ABp (ABl ?_))))))))));have Am:=hfit (i + 1) (by omega);unfold Abs at Am;refine ABw (Wj (ALb (n:=0) ABt rfl Ac rfl (AGj (by omega)) fun A4 Ao=>AB3 ACm rfl Ao (AKh rfl rfl (by omega) (by omega) (Wj (AP3 rfl rfl (fun Ap=>?_) (fun Ap=>?_))))))
    ·refine Wj (ACb 30 true (by kernel_rfl) rfl rfl (ACb 30 true (by kernel_rfl) rfl rfl (ACb 30 true (by kernel_rfl) rfl rfl (ACb 30 true (by kernel_rfl) rfl rfl (ACb 30 true (by kernel_rfl) rfl rfl (ACb 30 true (by kernel_rfl) rfl rfl (AB0 rfl (ABn (AB6 rfl (ABh (ABp (ABr (ADk (ABz (ABz (ADk (ABz (⟨_,ABs,?_⟩))))))))))))))))))
     first
       | exact ⟨rfl,congrArg Value.bool (decide_eq_false (fun hh=>by have:=hh.1;omega)).symm⟩
       | exact ⟨rfl,congrArg Value.bool (decide_eq_false (fun hh=>by have:=hh.2 (i + 1) (by omega) (by omega);omega)).symm⟩
       | exact ⟨rfl,congrArg Value.bool (decide_eq_true ⟨⟨by omega,by omega⟩,fun j h1 h2=>hall j h1 (by omega)⟩).symm⟩
    ·refine Wj (ACt 30 false (by kernel_rfl) rfl rfl (Wj (ACt 30 false (by kernel_rfl) rfl rfl (ALb (n:=0) ABt rfl Ac rfl (AGj (by omega)) fun A5 Aq=>ACt 30 false (by kernel_rfl) rfl rfl (AB3 ACm rfl Aq (ACt 30 false (by kernel_rfl) rfl rfl (AKh rfl rfl (by omega) (by omega) (ACt 30 false (by kernel_rfl) rfl rfl (Wj (ACt 30 false (by kernel_rfl) rfl rfl (AP3 rfl rfl (fun Ar=>?_) (fun Ar=>?_))))))))))))
     ·refine ABx rfl (ABn (AB6 rfl (ABh (ABp (ABr (ADk (ABz (ABz (ADk (ABz (⟨_,ABs,?_⟩)))))))))))
      first
        | exact ⟨rfl,congrArg Value.bool (decide_eq_false (fun hh=>by have:=hh.1;omega)).symm⟩
        | exact ⟨rfl,congrArg Value.bool (decide_eq_false (fun hh=>by have:=hh.2 (i + 1) (by omega) (by omega);omega)).symm⟩
        | exact ⟨rfl,congrArg Value.bool (decide_eq_true ⟨⟨by omega,by omega⟩,fun j h1 h2=>hall j h1 (by omega)⟩).symm⟩
     ·refine ABx rfl (ABn (ACc rfl (ABq (q_b (q_t (ABw (AIl rfl (by omega) (Wj (ABn ?_)))))))));exact ⟨m - 1 - (i + 1),i + 1,by omega,⟨rfl,rfl,by omega,fun j h1 h2=>by rcases Nat.lt_succ_iff_lt_or_eq.1 h2 with q | rfl;exact hall j h1 q;exact ⟨by omega,by omega⟩⟩,rfl,trivial⟩
   ·refine ABn (ABl (ACc rfl (AB9 (AB7 (AB7 (ADh (q_t (ABh (ABp (ABr (⟨_,ABs,?_⟩)))))))))))
    first
      | exact ⟨rfl,congrArg Value.bool (decide_eq_false (fun hh=>by have:=hh.1;omega)).symm⟩
      | exact ⟨rfl,congrArg Value.bool (decide_eq_false (fun hh=>by have:=hh.2 (i + 1) (by omega) (by omega);omega)).symm⟩
      | exact ⟨rfl,congrArg Value.bool (decide_eq_true ⟨⟨by omega,by omega⟩,fun j h1 h2=>hall j h1 (by omega)⟩).symm⟩
theorem Aa5 {h:ABg} {v:Value} {M:List (List Int)} (HM:Mat h v M) (hcap:AMv v):AB8 Tryz.prog 67 #[v] h fun x h'=>Ext h h'/\x= .bool (isRed M):=by
 refine ACu (l:=[_]) mx Tryz.func67 rfl rfl rfl rfl rfl (by kernel_rfl) (ABh (ABp (ABl (ABh (Wj (ACo trivial rfl (Afl HM) fun x1 h hk=>?_))))));obtain ⟨rfl,rfl⟩:=hk;refine ⟨trivial,?_⟩;cases Au:AJy M
 ·refine AGt rfl (ABn (AB6 rfl (ABh (ABp (ABr (ABz (⟨_,ABs,?_⟩)))))))
  first
    | exact ⟨(Ext.refl _),congrArg Value.bool (show false=isRed M by unfold isRed;rw [show AJy M=false by assumption];rfl)⟩
    | exact ⟨(Ext.refl _),congrArg Value.bool (show false=isRed M by unfold isRed;rw [hred,AM6 (by omega) (of_decide_eq_false (by assumption)),Bool.and_false])⟩
    | exact ⟨(Ext.refl _),congrArg Value.bool (show false=isRed M by unfold isRed;rw [hred,AQd (by omega) (by unfold AS9;omega),Bool.and_false])⟩
    | (obtain rfl:m=1:=by omega
       first
       | exact ⟨(Ext.refl _),congrArg Value.bool (show true=isRed M by unfold isRed;rw [hred,<- AGa hsm,ANz,decide_eq_true ⟨by omega,by omega⟩];rfl)⟩
       | exact ⟨(Ext.refl _),congrArg Value.bool (show false=isRed M by unfold isRed;rw [hred,ANz,decide_eq_false (by omega),Bool.and_false])⟩)
 ·refine AGt rfl (ABn (ACc rfl (ABq (q_t (ABh (Wj (ACq (ABp (ABl (ABo ?_))))))))));have hsm:=AX2 Au;have Av:=Aiq hsm;have Aw:Mat h v (tab M.length M.length (ent M)):=(AZ5 hsm.2.1) ▸ HM;refine ACg 20282409603651670423947251255292 (fun y:Nat × Value × Int × (Nat->Nat->Int)=>[(3,y.2.1),(4,.int .i64 y.2.2.1)]) (fun k y h'=>y.1=k/\Ext h h'/\1<=y.1/\y.1<=M.length/\Mat h' y.2.1 (tab y.1 y.1 y.2.2.2)/\AMv y.2.1/\Stg y.1 y.2.2.2 y.2.2.1 (262144 + 16384 * (M.length - y.1))/\ANz M.length (ent M) 1=ANz y.1 y.2.2.2 y.2.2.1) (by kernel_rfl) M.length (M.length,v,1,ent M) ?_ ⟨rfl,rfl,trivial⟩ ?_
  ·exact ⟨rfl,Ext.refl _,hsm.1.1,Nat.le_refl _,Aw,hcap,by have e0:(262144 + 16384 * ((M.length:Int) - (M.length:Int)))=262144:=(by omega);rw [e0];exact Av,rfl⟩
  rintro k ⟨m,vs,last,F⟩ s1 hq ⟨rfl,XQ,Ay,hmn,HS,Aj,hstg,hred⟩;dsimp only at Ay hmn HS Aj hstg hred ⊢;have h8:=hsm.1.2;have B6:=hstg.l1;have B7:=hstg.l2;have szq:=XQ.1;refine ABl (ABh (Wj (AMg AB1 rfl HS ?_)));rw [AC9];refine AP3 rfl rfl (fun Az=>?_) (fun Az=>?_)
  ·refine ABn (AB6 rfl (ABq (q_t (ABo (ABh (Wj (AN5 (n:=0) AB1 rfl HS rfl (AEc (by omega)) fun B8 B9 A3 A4=>AB3 ACn rfl A3 (ALb (n:=0) ABt rfl A4 rfl (AGj (by omega)) fun Ca A5=>AB3 ACm rfl A5 (ABp (ABl (ABh (Wj (ACo trivial rfl (AX4 HS Aj (by omega) (by omega) (fun i hi=>AWp hstg (by omega) (by omega) hi (by omega))) fun x4 hq hk=>?_)))))))))))));obtain ⟨rfl,rfl⟩:=hk;refine ⟨trivial,?_⟩;cases Cd:decide (ANy m F)
   ·refine AGt rfl (ABn (AB6 rfl (ABh (ABp (ABr (ABz (ADk (ABz (ADk (ABz (⟨_,ABs,?_⟩)))))))))))
    first
      | exact ⟨XQ,congrArg Value.bool (show false=isRed M by unfold isRed;rw [show AJy M=false by assumption];rfl)⟩
      | exact ⟨XQ,congrArg Value.bool (show false=isRed M by unfold isRed;rw [hred,AM6 (by omega) (of_decide_eq_false (by assumption)),Bool.and_false])⟩
      | exact ⟨XQ,congrArg Value.bool (show false=isRed M by unfold isRed;rw [hred,AQd (by omega) (by unfold AS9;omega),Bool.and_false])⟩
      | (obtain rfl:m=1:=by omega
         first
         | exact ⟨XQ,congrArg Value.bool (show true=isRed M by unfold isRed;rw [hred,<- AGa hsm,ANz,decide_eq_true ⟨by omega,by omega⟩];rfl)⟩
         | exact ⟨XQ,congrArg Value.bool (show false=isRed M by unfold isRed;rw [hred,ANz,decide_eq_false (by omega),Bool.and_false])⟩)
   ·refine AGt rfl (ABn (ACc rfl (ABq (q_t (ABh (Wj (AMg AB1 rfl HS ?_)))))));rw [AC9];have hsh:ANy m F:=of_decide_eq_true (by assumption);refine AKv rfl rfl (by omega) (by omega) ?_;rw [show ((m:Nat):Int) - 1=((m - 1:Nat):Int) by omega];refine Asm (ei:=tI) AB1 ALx (fun _=>trivial) rfl rfl (by decide) (by omega) fun b2 v2 h2 Ak E2 Cf hl2b=>?_;have Cg:=E2.1;have Z6:=(Ext.refl hq).trans E2;have X7:=XQ.trans E2;have HS_8:=HS.ext E2;refine ABp (ABl (ABh (Wj (ATq AB1 rfl Ak.1 (Wj (ABn (ABo (ACg 1208925819614624879739776 (fun i:Nat=>[(32,.int .i64 (i:Int))]) (fun k i h'=>k=m - 1 - i/\i<=m - 1/\Ext hq h'/\ ∃ gs,ANj h' tR tI (Array.size hq) b2 gs v2 (m - 1) ((List.range i).map (fun i=>(List.range (m - 1)).map fun j=>AO7 F last i j))) (by kernel_rfl) (m - 1) 0 ?_ ⟨rfl,trivial⟩ ?_))))))))
    ·exact ⟨rfl,Nat.zero_le _,E2,[],Ak⟩
    rintro k i s2 h3 ⟨rfl,hi,E3,gs,HP⟩;have X9:=XQ.trans E3;have Cj:=E3.1;have HS_11:=HS.ext E3;refine ABh (AFe rfl rfl (fun A7=>?_) (fun A7=>?_))
    ·refine ABn (ABl (AB6 rfl (ABq (q_t (ABl (ABo (ABh (Wj (ACq (Wj (Wj (AIl rfl (by omega) (Ajz AB1 rfl HS E3 rfl (AEc (by omega)) fun aR rR haR hrR=>AB3 ACn rfl haR (ABp ?_))))))))))))));refine ABh (Wj (Wj (Wj (ATq AB1 rfl HP.1 (Asn ABt AHa (fun _=>trivial) rfl rfl (by decide) (by omega) fun g4 v4 h4 A8 E4 Cm Cn=>?_)))));have Co:=E4.1;have A9:=E3.trans E4;have Ba:=X9.trans E4;have HS_15:=HS_11.ext E4;have HP_16:=HP.ext E4;refine Ann AB1 rfl HP_16 rfl (by omega) ?_;have hglt:=HP.1.lt;have hblo:=HP.2 b2 (List.mem_cons_self ..);refine Ano ACn rfl rfl HP_16 (by simp) (by omega) A8 (fun hc=>by have:=hglt _ hc;omega) (by omega) fun h4b HPb U4=>?_;have Cp:=U4.1;have Cq:=Ba.thenUpd U4 (fun k hk=>by have Ah:k=b2:=hk;omega);have Ao:=A9.thenUpd U4 (fun k hk=>by have Ah:k=b2:=hk;omega);have HS_20:=HS.ext Ao;refine AMh (Wj (ATq AB1 rfl HPb.1 (Wj (ABn (ABo (ACg 604462909525839610642944 (fun j:Nat=>[(48,.int .i64 (j:Int))]) (fun k j h'=>k=m - 1 - j/\j<=m - 1/\Ext hq h'/\ANj h' tR tI (Array.size hq) b2 (gs ++ [g4]) v2 (m - 1) ((List.range i).map (fun i=>(List.range (m - 1)).map fun j=>AO7 F last i j) ++ [AS6 (m - 1) (AO7 F last i) (fun _=>0) j])) (by kernel_rfl) (m - 1) 0 ?_ ⟨rfl,trivial⟩ ?_))))))
     ·exact ⟨rfl,Nat.zero_le _,Ao,by rw [AVa,Ah4];exact HPb⟩
     rintro k j s3 h5 ⟨rfl,hj,E5,HQ⟩;have Bb:=XQ.trans E5;have Cu:=E5.1;have HS_23:=HS.ext E5;refine ABh (AFe rfl rfl (fun Bc=>?_) (fun Bc=>?_))
     ·refine ABn (ABl (AB6 rfl (ABq (q_t (ABl (ABo (ABh (Wj (ABp ?_)))))))));have hd:=hsh.1;have hfit:=fun i j hi hj=>AWp hstg (by omega) (by omega) (i:=i) (j:=j) hi hj;have q1:=ASz (a:=65535) (b:=34359738368) (x:=F 0 0) (y:=F (i + 1) (j + 1)) ⟨by omega,by omega⟩ (hfit _ _ (by omega) (by omega));have q2:=hsh.2 (i + 1) (by omega) (by omega);have q3:=hsh.2 (j + 1) (by omega) (by omega);rw [<- hstg.sym 0 (j + 1) (by omega) (by omega)] at q3;have q4:=ASz (a:=32768) (b:=32768) (x:=F (i + 1) 0) (y:=F 0 (j + 1)) ⟨by omega,by omega⟩ ⟨by omega,by omega⟩;unfold Abs at q1 q4;refine ANq (by kernel_rfl) (Wj (Wj (Aso AB1 rfl HQ rfl (AT9 (by simp)) fun aQ rQ gQ haQ hgQ hrQ=>?_)));refine AB3 ACn rfl haQ (Wj (Wj (Wj (Wj (AIl rfl (by omega) (ALb ABt rfl (hrR.ext E5) rfl (AGj (by omega)) fun Cv Bi=>AB3 ACm rfl Bi (AKh rfl rfl (by omega) (by omega) (Wj (ALb (n:=0) ABt rfl (hrR.ext E5) rfl (AGj (by omega)) fun Cw Bj=>AB3 ACm rfl Bj (Wj (AN5 (n:=0) AB1 rfl HS_23 rfl (AEc (by omega)) fun aZ rZ haZ hrZ=>AB3 ACn rfl haZ (Wj (AIl rfl (by omega) (ALb ABt rfl hrZ rfl (AGj (by omega)) fun Cx Bl=>AB3 ACm rfl Bl (AKh rfl rfl (by omega) (by omega) (AKv rfl rfl (by omega) (by omega) (Wj (ATb rfl rfl (by omega) ?_))))))))))))))))));have hnf:=AWp (Ada (m:=m - 1) (by rw [show m - 1 + 1=m by omega];exact hstg) (by omega) (by rw [show m - 1 + 1=m by omega];exact hsh)) (by omega) (by omega) (i:=i) (j:=j) (by omega) (by omega);unfold Abs at hnf;rw [show IntKind.i64.wrap ((F 0 0 * F (i + 1) (j + 1) - F (i + 1) 0 * F 0 (j + 1)).tdiv last)=AO7 F last i j from Go.QF.wrap_small (by have:(F 0 0 * F (i + 1) (j + 1) - F (i + 1) 0 * F 0 (j + 1)).tdiv last=AO7 F last i j:=rfl;omega) (by have:(F 0 0 * F (i + 1) (j + 1) - F (i + 1) 0 * F 0 (j + 1)).tdiv last=AO7 F last i j:=rfl;omega)];refine AMu ABt rfl hrQ rfl (by rw [List.length_map,AKx];omega) ?_;refine Anp (AS6 (m - 1) (AO7 F last i) (fun _=>0) (j + 1)) ACm rfl rfl HQ hgQ (AT9 (by simp)) hrQ (by rw [AKx];omega) (AXa (by omega) rfl) fun h6 Bm U6 Cz=>?_;have C0:=U6.1;have C1:=Bb.thenUpd U6 (fun k hk=>by have Ah:k=gQ:=hk;omega);have Ap:=E5.thenUpd U6 (fun k hk=>by have Ah:k=gQ:=hk;omega);have HS_30:=HS.ext Ap;have Aq:=Bm;rw [Ab2 (by simp)] at Aq;refine ACh (q_b (q_t (ABw (AIl rfl (by omega) (Wj (ABn ?_))))));exact ⟨m - 1 - (j + 1),j + 1,by omega,⟨rfl,by omega,Ap,Aq⟩,rfl,trivial⟩
     ·refine ABn (ABl (ACc rfl (AB9 (AB7 (AB7 (ADh (q_b (q_t (ABw (AIl rfl (by omega) (Wj (ABn ?_))))))))))));exact ⟨m - 1 - (i + 1),i + 1,by omega,⟨rfl,by omega,E5,gs ++ [g4],by rw [AW8 _ _ (by omega)] at HQ;rw [<- Aep];exact HQ⟩,rfl,trivial⟩
    ·refine ABn (ABl (ACc rfl (AB9 (AB7 (AB7 (ADh (q_t (ABl ?_))))))));obtain rfl:i=m - 1:=by omega
     have Ar:ANj h3 tR tI (Array.size hq) b2 gs v2 (tab (m - 1) (m - 1) (AO7 F last)).length (tab (m - 1) (m - 1) (AO7 F last)):=by rw [AC9];exact HP
     have HN:=Ar.mat;have hcapn:=Ar.cap;have Bn:=Ada (m:=m - 1) (by rw [show m - 1 + 1=m by omega];exact hstg) (by omega) (by rw [show m - 1 + 1=m by omega];exact hsh);have hnx:Stg (m - 1) (AO7 F last) (F 0 0) (262144 + 16384 * (M.length - ((m - 1:Nat):Int))):=by rw [show (262144 + 16384 * ((M.length:Int) - ((m - 1:Nat):Int)))=262144 + 16384 * ((M.length:Int) - (m:Int)) + 16384 by omega];exact Bn
     refine ABw (Wj (AN5 (n:=1) AB1 rfl HS_11 rfl (AEc (by omega)) fun C2 C3 Bo Bp=>AB3 ACn rfl Bo (ALb (n:=0) ABt rfl Bp rfl (AGj (by omega)) fun C4 Bq=>AB3 ACm rfl Bq (ABp (ABl (ABl ?_))))));have hd:=hsh.1;have hnf:=AWp hnx (by omega) (by omega) (i:=0) (j:=0) (by omega) (by omega);have q5:=ASz (a:=65535) (b:=34359738368) (x:=last) (y:=AO7 F last 0 0) ⟨by omega,by omega⟩ hnf;have q2:=hsh.2 1 (by omega) (by omega);have q6:=ASz (a:=32768) (b:=32768) (x:=F 1 0) (y:=F 1 0) ⟨by omega,by omega⟩ ⟨by omega,by omega⟩;have q7:=AQt (a:=3 * F 0 0) (b:=F 0 0) (A:=196605) (B:=65535) (by omega) (by omega) (by omega) (by omega);unfold Abs at q5 q6;refine ABw (Wj (Wj (AN5 (n:=0) AB1 rfl HN rfl (AEc (by omega)) fun aN rN haN hrN=>AB3 ACn rfl haN (ALb (n:=0) ABt rfl hrN rfl (AGj (by omega)) fun aO haO=>AB3 ACm rfl haO (AKh rfl rfl (by omega) (by omega) (Wj (Wj (AKh rfl rfl (by omega) (by omega) (AR3 rfl rfl (by omega) (by omega) (AKh rfl rfl (by omega) (by omega) (Wj (AKh rfl rfl (by omega) (by omega) (Wj (AKh rfl rfl (by omega) (by omega) (AFe rfl rfl (fun Bu=>?_) (fun Bu=>?_))))))))))))))))
     ·refine ABn (AB6 rfl (ABh (ABp (ABr (ABz (ADk (ABz (ADk (ABz (⟨_,ABs,?_⟩))))))))))
      first
        | exact ⟨X9,congrArg Value.bool (show false=isRed M by unfold isRed;rw [show AJy M=false by assumption];rfl)⟩
        | exact ⟨X9,congrArg Value.bool (show false=isRed M by unfold isRed;rw [hred,AM6 (by omega) (of_decide_eq_false (by assumption)),Bool.and_false])⟩
        | exact ⟨X9,congrArg Value.bool (show false=isRed M by unfold isRed;rw [hred,AQd (by omega) (by unfold AS9;omega),Bool.and_false])⟩
        | (obtain rfl:m=1:=by omega
           first
           | exact ⟨X9,congrArg Value.bool (show true=isRed M by unfold isRed;rw [hred,<- AGa hsm,ANz,decide_eq_true ⟨by omega,by omega⟩];rfl)⟩
           | exact ⟨X9,congrArg Value.bool (show false=isRed M by unfold isRed;rw [hred,ANz,decide_eq_false (by omega),Bool.and_false])⟩)
     ·refine ABn (ACc rfl (ABq (q_t ?_)));have hlov:AS9 F last:=by unfold AS9;omega
      have hredn:=Air (last:=last) (by omega) hsh hlov;refine ABw (Wj (Wj (ACd (ACd (ACh (q_b (q_t ?_)))))));exact ⟨m - 1,(m - 1,v2,F 0 0,AO7 F last),by first | omega | (dsimp only;omega),⟨rfl,X9,by first | omega | (dsimp only;omega),by first | omega | (dsimp only;omega),HN,hcapn,hnx,by rw [hred,hredn]⟩,rfl,rfl,trivial⟩
  ·refine ABn (ACc rfl (AB9 (AB7 (AB7 (ADh (q_t (ABh (Wj (AN5 (n:=0) AB1 rfl HS rfl (AEc (by omega)) fun C6 C7 Bv Bw=>AB3 ACn rfl Bv (ALb (n:=0) ABt rfl Bw rfl (AGj (by omega)) fun C8 Bx=>AB3 ACm rfl Bx (AP3 rfl rfl (fun By=>?_) (fun By=>?_))))))))))))
   ·refine Wj (ACt 110 true (by kernel_rfl) rfl rfl (Wj (ACt 110 true (by kernel_rfl) rfl rfl (AN5 (n:=0) AB1 rfl HS rfl (AEc (by omega)) fun C9 Da Bz B1=>ACt 110 true (by kernel_rfl) rfl rfl (AB3 ACn rfl Bz (ACt 110 true (by kernel_rfl) rfl rfl (ALb (n:=0) ABt rfl B1 rfl (AGj (by omega)) fun Db B2=>ACt 110 true (by kernel_rfl) rfl rfl (AB3 ACm rfl B2 (ACt 110 true (by kernel_rfl) rfl rfl (ATc rfl rfl (fun B3=>?_) (fun B3=>?_)))))))))))
    ·refine AB0 rfl (ABp (ABr (⟨_,ABs,?_⟩)))
     first
       | exact ⟨XQ,congrArg Value.bool (show false=isRed M by unfold isRed;rw [show AJy M=false by assumption];rfl)⟩
       | exact ⟨XQ,congrArg Value.bool (show false=isRed M by unfold isRed;rw [hred,AM6 (by omega) (of_decide_eq_false (by assumption)),Bool.and_false])⟩
       | exact ⟨XQ,congrArg Value.bool (show false=isRed M by unfold isRed;rw [hred,AQd (by omega) (by unfold AS9;omega),Bool.and_false])⟩
       | (obtain rfl:m=1:=by omega
          first
          | exact ⟨XQ,congrArg Value.bool (show true=isRed M by unfold isRed;rw [hred,<- AGa hsm,ANz,decide_eq_true ⟨by omega,by omega⟩];rfl)⟩
          | exact ⟨XQ,congrArg Value.bool (show false=isRed M by unfold isRed;rw [hred,ANz,decide_eq_false (by omega),Bool.and_false])⟩)
    ·refine AB0 rfl (ABp (ABr (⟨_,ABs,?_⟩)))
     first
       | exact ⟨XQ,congrArg Value.bool (show false=isRed M by unfold isRed;rw [show AJy M=false by assumption];rfl)⟩
       | exact ⟨XQ,congrArg Value.bool (show false=isRed M by unfold isRed;rw [hred,AM6 (by omega) (of_decide_eq_false (by assumption)),Bool.and_false])⟩
       | exact ⟨XQ,congrArg Value.bool (show false=isRed M by unfold isRed;rw [hred,AQd (by omega) (by unfold AS9;omega),Bool.and_false])⟩
       | (obtain rfl:m=1:=by omega
          first
          | exact ⟨XQ,congrArg Value.bool (show true=isRed M by unfold isRed;rw [hred,<- AGa hsm,ANz,decide_eq_true ⟨by omega,by omega⟩];rfl)⟩
          | exact ⟨XQ,congrArg Value.bool (show false=isRed M by unfold isRed;rw [hred,ANz,decide_eq_false (by omega),Bool.and_false])⟩)
   ·refine Wj (ACb 110 false (by kernel_rfl) rfl rfl (ACb 110 false (by kernel_rfl) rfl rfl (ACb 110 false (by kernel_rfl) rfl rfl (ACb 110 false (by kernel_rfl) rfl rfl (ACb 110 false (by kernel_rfl) rfl rfl (ACb 110 false (by kernel_rfl) rfl rfl (ABx rfl (ABp (ABr (⟨_,ABs,?_⟩))))))))))
    first
      | exact ⟨XQ,congrArg Value.bool (show false=isRed M by unfold isRed;rw [show AJy M=false by assumption];rfl)⟩
      | exact ⟨XQ,congrArg Value.bool (show false=isRed M by unfold isRed;rw [hred,AM6 (by omega) (of_decide_eq_false (by assumption)),Bool.and_false])⟩
      | exact ⟨XQ,congrArg Value.bool (show false=isRed M by unfold isRed;rw [hred,AQd (by omega) (by unfold AS9;omega),Bool.and_false])⟩
      | (obtain rfl:m=1:=by omega
         first
         | exact ⟨XQ,congrArg Value.bool (show true=isRed M by unfold isRed;rw [hred,<- AGa hsm,ANz,decide_eq_true ⟨by omega,by omega⟩];rfl)⟩
         | exact ⟨XQ,congrArg Value.bool (show false=isRed M by unfold isRed;rw [hred,ANz,decide_eq_false (by omega),Bool.and_false])⟩)
end Go.Proofs.YtiegjkmfpcgjjaaGreatDoor
namespace Go.Proofs.YtiegjkmfpcgjjaaGreatDoor
open Go Go.QF
set_option maxRecDepth 100000
open Classical in
noncomputable def AOg (p:Int):Bool:=decide (2 < p/\p<=9973/\Pr p)
theorem ATw {p:Int} (h:2 < p/\p<=9973/\Pr p):true=AOg p:=by simp [AOg,h]
theorem ARc {p:Int} (h: ¬ (2 < p/\p<=9973/\Pr p)):false=AOg p:=by simp [AOg,h]
theorem Aa6 {p:Int} (h:AOg p=true):2 < p/\p<=9973/\Pr p:=by simpa [AOg] using h
theorem prB {p:Int} {b:Bool} (h:AKi p=b) (hp:p<=9973):b=true↔Pr p:=by
 subst h;constructor
 ·intro h;exact (AY2 h).2
 ·intro h;exact (AW4 (by omega) h).symm
open Classical in
noncomputable def AFo (p:Int):Bool:=decide (p<=9973/\Pr p)
theorem Alu (p:Int) (h:ABg):AB8 Tryz.prog 101 #[.int .i64 p] h fun v h'=>h'=h/\v= .bool (AFo p):=by
 refine ACu (l:=[_]) mx Tryz.func101 rfl rfl rfl rfl rfl (by kernel_rfl) (ABh (ACq (Wj (ATc rfl rfl (fun Aa=>?_) (fun Aa=>?_)))))
 ·refine Wj (ACt 5 true (by kernel_rfl) rfl rfl (Wj (ACt 5 true (by kernel_rfl) rfl rfl (ACo trivial rfl (Ajw p _) fun x1 h hk=>?_))));obtain ⟨rfl,rfl⟩:=hk;refine ⟨trivial,?_⟩;cases Ac:AKi p
  ·refine AB0 rfl (ABp (ABr (⟨_,ABs,?_⟩)))
   first
   | exact ⟨rfl,congrArg Value.bool (show false=AFo p by simp [AFo];intro hh;omega)⟩
   | (have hq:=(prB (by assumption:AKi p=_) (by omega));first | exact ⟨rfl,congrArg Value.bool (show true=AFo p by simp [AFo];exact ⟨by omega,hq.1 rfl⟩)⟩ | exact ⟨rfl,congrArg Value.bool (show false=AFo p by simp [AFo];intro _ hh;have:=hq.2 hh;cases this)⟩)
  ·refine AB0 rfl (ABp (ABr (⟨_,ABs,?_⟩)))
   first
   | exact ⟨rfl,congrArg Value.bool (show false=AFo p by simp [AFo];intro hh;omega)⟩
   | (have hq:=(prB (by assumption:AKi p=_) (by omega));first | exact ⟨rfl,congrArg Value.bool (show true=AFo p by simp [AFo];exact ⟨by omega,hq.1 rfl⟩)⟩ | exact ⟨rfl,congrArg Value.bool (show false=AFo p by simp [AFo];intro _ hh;have:=hq.2 hh;cases this)⟩)
 ·refine Wj (ACb 5 false (by kernel_rfl) rfl rfl (ACb 5 false (by kernel_rfl) rfl rfl (ABx rfl (ABp (ABr (⟨_,ABs,?_⟩))))))
  first
  | exact ⟨rfl,congrArg Value.bool (show false=AFo p by simp [AFo];intro hh;omega)⟩
  | (have hq:=(prB (by assumption:AKi p=_) (by omega));first | exact ⟨rfl,congrArg Value.bool (show true=AFo p by simp [AFo];exact ⟨by omega,hq.1 rfl⟩)⟩ | exact ⟨rfl,congrArg Value.bool (show false=AFo p by simp [AFo];intro _ hh;have:=hq.2 hh;cases this)⟩)
theorem Ait (p:Int) (h:ABg):AB8 Tryz.prog 65 #[.int .i64 p] h fun v h'=>h'=h/\v= .bool (AOg p):=by
 refine ACu (l:=[_]) mx Tryz.func65 rfl rfl rfl rfl rfl (by kernel_rfl) (ABh (ACq (Wj (ATe rfl rfl (fun Ab=>?_) (fun Ab=>?_)))))
 ·refine Wj (ACt 5 true (by kernel_rfl) rfl rfl (Wj (ACt 5 true (by kernel_rfl) rfl rfl (ACo trivial rfl (Alu p _) fun x1 h hk=>?_))));obtain ⟨rfl,rfl⟩:=hk;refine ⟨trivial,?_⟩;cases Ad:AFo p
  ·refine AB0 rfl (ABp (ABr (⟨_,ABs,?_⟩)))
   first
   | (have hq:AFo p=true:=by assumption
      have Aa:p<=9973/\Pr p:=by simpa [AFo] using hq
      exact ⟨rfl,congrArg Value.bool (ATw ⟨by have:=Aa.2.1;omega,Aa⟩)⟩)
   | (have hq:AFo p=false:=by assumption
      exact ⟨rfl,congrArg Value.bool (ARc (fun hh=>by
        have Aa: ¬ (p<=9973/\Pr p):=by simpa [AFo] using hq
        exact Aa hh.2))⟩)
   | exact ⟨rfl,congrArg Value.bool (ARc (fun hh=>by have:=hh.1;omega))⟩
  ·refine AB0 rfl (ABp (ABr (⟨_,ABs,?_⟩)))
   first
   | (have hq:AFo p=true:=by assumption
      have Aa:p<=9973/\Pr p:=by simpa [AFo] using hq
      exact ⟨rfl,congrArg Value.bool (ATw ⟨by have:=Aa.2.1;omega,Aa⟩)⟩)
   | (have hq:AFo p=false:=by assumption
      exact ⟨rfl,congrArg Value.bool (ARc (fun hh=>by
        have Aa: ¬ (p<=9973/\Pr p):=by simpa [AFo] using hq
        exact Aa hh.2))⟩)
   | exact ⟨rfl,congrArg Value.bool (ARc (fun hh=>by have:=hh.1;omega))⟩
 ·refine Wj (ACb 5 false (by kernel_rfl) rfl rfl (ACb 5 false (by kernel_rfl) rfl rfl (ABx rfl (ABp (ABr (⟨_,ABs,?_⟩))))))
  first
  | (have hq:AFo p=true:=by assumption
     have Aa:p<=9973/\Pr p:=by simpa [AFo] using hq
     exact ⟨rfl,congrArg Value.bool (ATw ⟨by have:=Aa.2.1;omega,Aa⟩)⟩)
  | (have hq:AFo p=false:=by assumption
     exact ⟨rfl,congrArg Value.bool (ARc (fun hh=>by
       have Aa: ¬ (p<=9973/\Pr p):=by simpa [AFo] using hq
       exact Aa hh.2))⟩)
  | exact ⟨rfl,congrArg Value.bool (ARc (fun hh=>by have:=hh.1;omega))⟩
end Go.Proofs.YtiegjkmfpcgjjaaGreatDoor
namespace Go.Proofs.YtiegjkmfpcgjjaaGreatDoor
open Go Go.QF
noncomputable def AVr (fuel:Nat) (M:List (List Int)):Option Bool:=some (isRed M)
theorem Afm {fuel:Nat} {h:ABg} {v:Value} {M:List (List Int)} {r:Bool} (H:AF2 (cI .i64) h v M) (hp:AVr fuel M=some r):AB8 Tryz.prog 67 #[v] h (fun x h'=>Ext h h'/\x= .bool r):=by
 cases hp;exact Aa5 (Aln H) H.1
noncomputable def AX5 (fuel:Nat) (n:Int):Option Bool:=some (AKi n)
theorem Aiu {fuel:Nat} {h:ABg} {n:Int} {r:Bool} (HO:AT7 h) (hp:AX5 fuel n=some r):AB8 Tryz.prog 68 #[.int .i64 n] h (fun x h'=>Ext h h'/\x= .bool r):=by
 cases hp;exact (Asi n HO).mono fun x h' ⟨he,hx⟩=>⟨he ▸ Ext.refl _,hx⟩
noncomputable def Aa7 (fuel:Nat) (n:Int):Option Bool:=some (AOg n)
theorem Alw {fuel:Nat} {h:ABg} {n:Int} {r:Bool} (hp:Aa7 fuel n=some r):AB8 Tryz.prog 65 #[.int .i64 n] h (fun x h'=>Ext h h'/\x= .bool r):=by
 cases hp;exact (Ait n h).mono fun x h' ⟨he,hx⟩=>⟨he ▸ Ext.refl _,hx⟩
end Go.Proofs.YtiegjkmfpcgjjaaGreatDoor
namespace Go.Proofs.YtiegjkmfpcgjjaaGreatDoor
open Go Go.QF
set_option maxRecDepth 100000
set_option maxHeartbeats 4000000
def AHu (fuel:Nat) (a3:LiI):Option Int:=
  ((AE4 fuel a3).bind fun x5=>((AC3 fuel x5).bind fun Ac=>((Aax fuel Ac).bind fun (Ad,Ae)=>(some Ad))))
theorem ARd {fuel:Nat} {h:ABg} {Aa:Value} {a3:LiI} {r:Int} (H2:AF2 (cI .i64) h Aa a3) (hp:AHu fuel a3=some r):AB8 Tryz.prog 66 #[Aa] h (fun x h'=>Ext h h'/\x= .int .i64 r):=by
 unfold AHu at hp;refine cwf (l:=[_]) Tryz.func66 rfl rfl (ABh (ACq (Wj ?_)));have K0:=Kst.k0 h;obtain ⟨x5,Ah,Ai⟩:=ABk hp;refine AC2 rfl (AKl (H2.ext K0.x) Ah) fun A4 h9 E8 Ak=>?_;obtain ⟨A6,A7,A8,A9,rfl,Am,Ao⟩:=Ak;have Ad:=K0.no2 E8 Ao Am;obtain ⟨Ba,Ap,Aq⟩:=ABk Ai;refine AC2 rfl (AEa (Ad.o2 p0).rd Ap) fun Bb Bc Ar Au=>?_;obtain ⟨Be,rfl,Av⟩:=Au;obtain ⟨Bf,rfl,Aw⟩:=Av.cs;have Ae:=(Ad.e Ar).az Aw;obtain ⟨⟨Bg,Bh⟩,Ax,Af⟩:=ABk Aq;dsimp only at Af;refine AC2 rfl (Acq (Ae.z p0).2 Ax) fun Bi Bj Ay Az=>?_;subst Az;refine Wj (ADa rfl rfl (ADa rfl rfl (ACd (ACq (Wj (ABp (ABr ?_)))))));obtain rfl:=ABi Af;exact ⟨_,ABs,(Ae.e Ay).x,rfl⟩
end Go.Proofs.YtiegjkmfpcgjjaaGreatDoor
namespace Go.Proofs.YtiegjkmfpcgjjaaGreatDoor
open Go Go.QF
set_option maxRecDepth 100000
set_option maxHeartbeats 4000000
def AD7 (fuel:Nat) (a1 a2:Int):Option Int:=
  (if a2≠0 then (if (Int.tmod a1 a2) < 0 then (some (w64 ((Int.tmod a1 a2) + a2))) else (some (Int.tmod a1 a2))) else none)
theorem AF7 {fuel:Nat} {h:ABg} {a1 a2 r:Int} (hp:AD7 fuel a1 a2=some r):AB8 Tryz.prog 18 #[(.int .i64 a1),(.int .i64 a2)] h (fun x h'=>Ext h h'/\x= .int .i64 r):=by
 unfold AD7 at hp;refine cwf (l:=[_,_]) Tryz.func18 rfl rfl (ABh (ACq (Wj (Wj ?_))));have K0:=Kst.k0 h;obtain ⟨Af,Ae⟩:=ifN hp;refine AFq rfl rfl Af (ABp (ABl (ABh (Wj (ACx rfl rfl (ABn (⟨_,rfl,fun Aa=>?_,fun Aa=>?_⟩)))))))
 ·refine ABw (Wj (Wj (ACw rfl rfl (ACq (Wj (ABp (ABr ?_)))))));obtain rfl:=ABi (AC0 Ae Aa);exact ⟨_,ABs,K0.x,rfl⟩
 ·refine ABq (q_t (ABh (Wj (ABp (ABr ?_)))));obtain rfl:=ABi (AC1 Ae Aa);exact ⟨_,ABs,K0.x,rfl⟩
def AMa (fuel:Nat) (a3 a7:LiI) (Ab:Int) (Ae:LiA) (Aa:Int):Option ((Int) ⊕ ((Bool) ⊕ (Unit))):=
  (if Aa < (Ae.length:Int) then ((gI a3 Ab).bind fun Af=>((gI Af Aa).bind fun Ag=>((gI a7 Ab).bind fun Ah=>((gI Ah Aa).bind fun Ai=>(if ¬ Ag=Ai then (some (Sum.inr<| Sum.inl <| false)) else (some (Sum.inl (w64 (Aa + 1))))))))) else (some (Sum.inr<| Sum.inr <| ())))
def AMb (fuel:Nat) (a3 a7:LiI) (Aa:Int):Option ((Int) ⊕ ((Bool) ⊕ (Unit))):=
  (if Aa < (a3.length:Int) then ((gI a3 Aa).bind fun Ad=>((gI a7 Aa).bind fun Ae=>(if ¬ (Ad.length:Int)=(Ae.length:Int) then (some (Sum.inr<| Sum.inl <| false)) else ((iter (fun s=>AMa fuel a3 a7 Aa Ad s) fuel 0).bind (fun ex=>match ex with | Sum.inl Af=>(some (Sum.inr<| Sum.inl <| Af)) | Sum.inr (_)=>(some (Sum.inl (w64 (Aa + 1))))))))) else (some (Sum.inr<| Sum.inr <| ())))
def AK2 (fuel:Nat) (a3 a7:LiI):Option Bool:=
  (if ¬ (a3.length:Int)=(a7.length:Int) then (some false) else ((iter (fun s=>AMb fuel a3 a7 s) fuel 0).bind (fun ex=>match ex with | Sum.inl Ac=>(some Ac) | Sum.inr (_)=>(some true))))
theorem AQe {fuel:Nat} {h:ABg} {Av:Value} {a3:LiI} {Ax:Value} {a7:LiI} {r:Bool} (H2:AF2 (cI .i64) h Av a3) (H6:AF2 (cI .i64) h Ax a7) (hp:AK2 fuel a3 a7=some r):AB8 Tryz.prog 17 #[Av,Ax] h (fun x h'=>Ext h h'/\x= .bool r):=by
 unfold AK2 at hp;refine cwf (l:=[_,_]) Tryz.func17 rfl rfl (ABh (ABp (ABl (ABh (Wj (ADf AB1 rfl H2 (Wj (ADf AB1 rfl H6 (AGe rfl rfl (ABn ?_))))))))));have K0:=Kst.k0 h;refine ⟨_,rfl,fun Ak=>?_,fun Ak=>?_⟩
 ·refine ABh (ABp (ABr (ABz ?_)));obtain rfl:=ABi (AC0 hp Ak);exact ⟨_,ABs,K0.x,rfl⟩
 ·refine ABq (q_t (ABl (ABh (Wj (ADf AB1 rfl H2 (Wj (ABn (ABo ?_))))))));obtain ⟨Ah,A6,Am⟩:=ABk (AC1 hp Ak);obtain ⟨A7,A8,A9⟩:=ACe A6;refine ACg 9007199254724720 (fun x:(Int)=>[(14,(.int .i64 x))]) (fun k x h'=>iter A7 k x=some Ah/\Kst h h' (K0.L)) (by kernel_rfl) fuel (0:(Int)) ?_ ⟨rfl,trivial⟩ ?_
  ·exact ⟨A9,K0⟩
  rintro Cb Ba Cd Ce ⟨Bb,Aa⟩;obtain ⟨Bc,Cf,rfl,Ae,Ab⟩:=AB2 Bb;rw [A8] at Ae;dsimp only at Ae;unfold AMb at Ae;refine ABh (ACx rfl rfl (ABn (ABl (⟨_,rfl,fun Ao=>?_,fun Ao=>?_⟩))))
  ·refine ABq (q_t (ABl (ABo (ABh (Wj (ABp (ABl (ABl (AMe (Wj (Wj ?_)))))))))));obtain ⟨Cg,Az,Be⟩:=ABk (AC0 Ae Ao);refine AIn AB1 rfl H2 rfl Az fun Ch Ci Cj Bf Bg=>AB3 ACn rfl (ABv Bf Aa.x) (ADs ABt rfl Bg (Wj (Wj ?_)));obtain ⟨Ck,Bh,A3⟩:=ABk Be;refine AIn AB1 rfl H6 rfl Bh fun Cm Cn Co Bi Bj=>AB3 ACn rfl (ABv Bi Aa.x) (ADs ABt rfl Bj (AGe rfl rfl (ABn (⟨_,rfl,fun Ap=>?_,fun Ap=>?_⟩))))
   ·refine ABh (ABp ?_);obtain rfl:=ABi (AC0 A3 Ap);change _=Ah at Ab;subst Ab;refine ABr (ABz (ADk (ABz (ABz (ADk (ABz ?_))))));obtain rfl:=ABi Am;exact ⟨_,ABs,Aa.x,rfl⟩
   ·refine ABq (q_t (ABh (Wj (Wj (AIn AB1 rfl H2 rfl Az fun Cp Cq Cr Bl Bm=>AB3 ACn rfl (ABv Bl Aa.x) (ADs ABt rfl Bm (Wj (ABn (ABo ?_)))))))));obtain ⟨Aq,Bn,A4⟩:=ABk (AC1 A3 Ap);obtain ⟨Bo,Bp,Bq⟩:=ACe Bn;refine ACg 4503591037435984 (fun x:(Int)=>[(33,(.int .i64 x))]) (fun k x h'=>iter Bo k x=some Aq/\Kst h h' (Aa.L)) (by kernel_rfl) fuel (0:(Int)) ?_ ⟨rfl,trivial⟩ ?_
    ·exact ⟨Bq,Aa⟩
    rintro Ct Br Cu Cv ⟨Bt,Ac⟩;obtain ⟨Bu,Cw,rfl,Af,Ag⟩:=AB2 Bt;rw [Bp] at Af;dsimp only at Af;unfold AMa at Af;refine ABh (ACx rfl rfl (ABn (ABl (⟨_,rfl,fun Ar=>?_,fun Ar=>?_⟩))))
    ·refine ABq (q_t (ABl (ABo (ABh (Wj (ABp (ABl (AMe (Wj (Wj ?_))))))))));obtain ⟨Cx,Bv,Bw⟩:=ABk (AC0 Af Ar);refine AIn AB1 rfl H2 rfl Bv fun Cy Cz C0 Bx By=>AB3 ACn rfl (ABv Bx Ac.x) (Wj ?_);obtain ⟨C1,Bz,B1⟩:=ABk Bw;refine AIc (c:=(cI .i64)) ABt rfl By rfl Bz fun C2 C3 C4 B2 B3=>?_;obtain rfl:=B2;refine AB3 ACm rfl (ABv (B3 0 _ rfl) Ac.x) (Wj (Wj ?_));obtain ⟨C5,B4,B5⟩:=ABk B1;refine AIn AB1 rfl H6 rfl B4 fun C6 C7 C8 B6 B7=>AB3 ACn rfl (ABv B6 Ac.x) (Wj ?_);obtain ⟨C9,B8,A5⟩:=ABk B5;refine AIc (c:=(cI .i64)) ABt rfl B7 rfl B8 fun Da Db Dc B9 Ca=>?_;obtain rfl:=B9;refine AB3 ACm rfl (ABv (Ca 0 _ rfl) Ac.x) (AGe rfl rfl (ABn (⟨_,rfl,fun Au=>?_,fun Au=>?_⟩)))
     ·refine ABh (ABp ?_);obtain rfl:=ABi (AC0 A5 Au);change _=Aq at Ag;subst Ag;obtain rfl:=ABi A4;change _=Ah at Ab;subst Ab;refine ABr (ADk (ABz (ABz (ADk (ADk (ABz (ABz (ADk (ABz ?_)))))))));obtain rfl:=ABi Am;exact ⟨_,ABs,Ac.x,rfl⟩
     ·refine ABq (q_b (q_t (ABw (ACw rfl rfl (Wj (ABn ?_))))));obtain rfl:=ABi (AC1 A5 Au);exact ⟨Bu,((w64 (Br + 1)):(Int)),Nat.lt_succ_self _,⟨Ag,Ac⟩,rfl,trivial⟩
    ·obtain rfl:=ABi (AC1 Af Ar);change _=Aq at Ag;subst Ag;refine AB9 (AB7 (AB7 (ADh (q_b (q_t (ABw (ACw rfl rfl (Wj (ABn ?_)))))))));obtain rfl:=ABi A4;exact ⟨Bc,((w64 (Ba + 1)):(Int)),Nat.lt_succ_self _,⟨Ab,Ac⟩,rfl,trivial⟩
  ·obtain rfl:=ABi (AC1 Ae Ao);change _=Ah at Ab;subst Ab;refine AB9 (AB7 (AB7 (ADh (q_t (ABh (ABp (ABr ?_)))))));obtain rfl:=ABi Am;exact ⟨_,ABs,Aa.x,rfl⟩
end Go.Proofs.YtiegjkmfpcgjjaaGreatDoor
namespace Go.Proofs.YtiegjkmfpcgjjaaGreatDoor
open Go Go.QF
set_option maxRecDepth 100000
theorem Aa8 {h h2:ABg} {r1:Value} {M:List (List Int)} {m:Int} {b:Nat} {gs:List Nat} {c:Nat} (Ac:AYp h2 tR tI b gs r1 (M.map (·.map (· % m)))) (hr:∀ z∈M,z.length=c):ADp h2 tR tI b gs r1 M.length (tab M.length c (ent (ALh M m))):=by
 have ht:=AZ5 (A:=ALh M m) (c:=c) (Ajt hr);rw [AZ7] at ht;rw [<- ht];have:AYp h2 tR tI b gs r1 (ALh M m):=Ac;unfold AYp at this;rw [AZ7] at this;exact this
theorem Arf {M:List (List Int)} {c:Nat} {m:Int} (hm:0 < m):Bd M.length c m (ent (ALh M m)):=by
 have:=Aqs (c:=c) hm (Ang hm M);rw [AZ7] at this;exact this
def As0 (M:List (List Int)) (m:Int) (Q:(Nat->Nat->Int)->Int->Prop) (h:ABg) (x:Value) (h':ABg):Prop:=Ext h h'/\ ∃ r e,x= .tuple #[r,.int .i64 e]/\
  ((AHy M=false/\e=3/\Mat h' r [])∨(AHy M=true/\AO3 m=false/\e=1/\Mat h' r [])∨
   (AHy M=true/\AO3 m=true/\ ∃ F1 s,(s=1∨s= -1)/\Q F1 s/\Bd M.length (M.length + M.length) m F1/\Zc M.length F1 M.length/\
     ((e=8/\Mat h' r []/\ ∃ c,c < M.length/\¬ ∃ y,AJ5 m (F1 c c) y)∨
      (e=0/\(∀ c,c < M.length-> ∃ y,AJ5 m (F1 c c) y)/\Mat h' r (tab M.length M.length fun i j=>AHb m M.length F1 M.length i (M.length + j))))))
theorem AWq {a b c d:Value} (h:Value.tuple #[a,b]= .tuple #[c,d]):a=c/\b=d:=by
 injection h with h;have:=congrArg Array.toList h;simpa using this
theorem Adf {h:ABg} {v:Value} {M:List (List Int)} (HM:Mat h v M) (m:Int) (Q:(Nat->Nat->Int)->Int->Prop) (Bf:AHy M=true->AO3 m=true->Q (AYq M.length (ent (ALh M m))) 1) (hQ:Alr M.length (M.length + M.length) m Q):AB8 Tryz.prog 39 #[v,.int .i64 m] h (fun x h'=>As0 M m Q h x h'/\ ∀ r e,x= .tuple #[r,e]->AMv r):=by
 refine ACu (l:=[_,_]) mx Tryz.func39 rfl rfl rfl rfl rfl (by kernel_rfl) (ABh (ACd (ABp (ABl (ABl ?_)))));have Bg:=Ext.refl h;refine ABw (Wj (ACo trivial rfl (Ajv HM) fun v' h hk=>?_));obtain ⟨rfl,rfl⟩:=hk;refine ⟨trivial,?_⟩;cases Ab:AHy M
 ·refine AGt rfl (ABn (AB6 rfl (ABh (ACd (ABp (ABr (ABz (⟨_,AC6,?_⟩))))))));exact ⟨⟨Ext.refl _,_,_,rfl,.inl ⟨Ab,rfl,AZ2 _⟩⟩,fun r e he=>(AWq he).1 ▸ AP6⟩
 ·refine AGt rfl (ABn (ACc rfl (ABq (q_t (ABl (ABh (Wj (ACo trivial rfl (AWa m h) fun v' h hk=>?_))))))));obtain ⟨rfl,rfl⟩:=hk;refine ⟨trivial,?_⟩;refine ACq (Wj (ATe rfl rfl (fun Ah=>?_) (fun Ah=>?_)))
  ·refine ABn (AB6 rfl (ABh (Wj (ACd (ABp (ABr (ABz (⟨_,AC6,?_⟩))))))));have hmB:AO3 m=false:=by cases hb:AO3 m <;> simp [hb] at Ah ⊢
   exact ⟨⟨Ext.refl _,_,_,rfl,.inr (.inl ⟨Ab,hmB,by simp [hmB],AZ2 _⟩)⟩,fun r e he=>(AWq he).1 ▸ AP6⟩
  ·refine ABn (ACc rfl (ABq (q_t (ABl ?_))));have hmB:AO3 m=true:=by cases hb:AO3 m <;> simp [hb] at Ah ⊢
   have hm:=AR6 hmB;obtain ⟨hv,hsq,h8⟩:=AY7 Ab;have Bh:=hv.1;have Bi:=hv.2.1;refine ABw (Wj (AMg AB1 rfl (HM.ext Bg) (ACq (Wj (Wj ?_)))));have hmB:AO3 m=true:=by cases hb:AO3 m <;> simp [hb] at Ah ⊢
   have hm:=AR6 hmB;obtain ⟨hv,hsq,h8⟩:=AY7 Ab;have Bh:=hv.1;have Bi:=hv.2.1;refine ACo trivial rfl (Ab4 HM hm.1 hm.2 (by omega) (Ajs hv)) fun r1 h2 hk=>?_;obtain ⟨Bj,b,gs,Bl,hb⟩:=hk;refine ⟨trivial,?_⟩;have Ay:=Aa8 (c:=M.length) (h:=h) Bl (fun z hz=>by rw [hv.2.2.2.2 z hz];omega);have Bm:=Arf (M:=M) (c:=M.length) (m:=m) (by omega);refine ABp (ABl (ABh (Wj (ATq AB1 rfl Ay (Wj (ABn (ABo (ACg 4503597479887360 (fun i:Nat=>[(31,.int .i64 (i:Int))]) (fun k i h'=>Ext h h'/\k=M.length - i/\i<=M.length/\ ∃ gs',ADp h' tR tI b gs' r1 M.length (AVc M.length i (fun k=>(List.range (M.length + M.length)).map (AYq M.length (ent (ALh M m)) k)) (fun k=>(List.range M.length).map (ent (ALh M m) k)))/\ ∀ g∈b :: gs',h.size<=g) (by kernel_rfl) M.length 0 ?_ ⟨rfl,trivial⟩ ?_))))))))
   ·exact ⟨Bj,by omega,by omega,gs,by rw [AY6];exact Ay,hb⟩
   rintro k i sx h3 ⟨hEA,rfl,hi,gsA,HPA,hgA⟩;refine ABh (AFe rfl rfl (fun Bo=>?_) (fun Bo=>?_))
   ·refine ABn (ABl (AB6 rfl (ABq (q_t (ABl (ABo (ABh (Wj (ACq (Wj (Wj (Wj (Wj (ANh AB1 rfl HPA rfl (Aga (by omega)) fun aK rK gK haK hgK hrK=>AB3 ACn rfl haK (Wj (Aqt (n:=M.length) ABt APm AHa rfl trivial rfl hrK rfl (by omega) (by simp;omega) (by simp;omega) fun r4 g4 h4 A4 Bp Ao=>⟨trivial,?_⟩))))))))))))))));obtain ⟨rs,HT,hrl⟩:=ADp.top HPA;have hKb:=ADp.ne HPA hgK;have Af:=HT.upd Ao (fun he=>hKb (Eq.symm he))
    have HO4b:AD1 h4 tI g4 r4 (((List.range M.length).map (ent (ALh M m) i) ++ List.replicate M.length 0).map (.int .i64)):=by
      rw [List.map_append,List.map_replicate];exact A4
    refine AMu AB1 rfl Af rfl (by omega) (ARi ACn rfl rfl A4.one Af (by omega) ?_)
    have hg4s:g4=gK∨h3.size<=g4:=by
      rcases Bp with h | h
      · exact .inl h
      · exact .inr (by omega)
    have HPB:=ADp.replace HPA hgK Ao HO4b hg4s;have hgKm:=hgA gK (List.mem_cons_of_mem _ (List.mem_of_getElem? hgK));have Bq:=hgA b (List.mem_cons_self ..)
    have hg4m:h.size<=g4:=by
      rcases hg4s with h | h
      · omega
      · have:=hEA.1;omega
    have hgB:∀ g∈b :: gsA.set i g4,h.size<=g:=fun g hg=>by
      rcases List.mem_cons.1 hg with rfl | hg
      · exact Bq
      · exact AXf (fun g hg=>hgA g (List.mem_cons_of_mem _ hg)) hg4m g hg
    have hEB:=(hEA.thenUpd Ao (fun k hk=>by have Ap:k=gK:=hk;omega)).thenUpd (AGu h4 ⟨b,i,none⟩ r4) (fun k hk=>by have Ap:k=b:=hk;omega);have hgl:gsA.length=M.length:=by have:=ADp.glen HPA;rw [AXg] at this;exact this
    refine ABn (ABw (Wj (Wj (ANh AB1 rfl HPB rfl (List.getElem?_set_self (by rw [AXg];omega)) fun aQ rQ gQ haQ hgQ hrQ=>?_))));refine AB3 ACn rfl haQ (Wj (Wj (AXi rfl rfl (by omega) (AMu (n:=M.length + i) ABt rfl hrQ rfl (by simp;omega) ?_))));refine ARi ACm rfl rfl rfl hrQ (by simp;omega) ?_;have HPC:=ADp.setElem HPB hgQ (List.getElem?_set_self (by rw [AXg];omega)) (j:=M.length + i) (by simp;omega) 1;rw [List.set_set,Ank _ (by omega),Ab9 rfl] at HPC;have hEC:=hEB.thenUpd (AGu _ ⟨gQ,M.length + i,none⟩ (.int .i64 1)) (fun k hk=>by have Ap:k=gQ:=hk;have:=hgB gQ (List.mem_cons_of_mem _ (List.mem_of_getElem? hgQ));omega);refine ACh (q_b (q_t (ABw (AIl rfl (by omega) (Wj (ABn ?_))))));exact ⟨M.length - (i + 1),i + 1,by omega,⟨hEC,rfl,by omega,_,HPC,hgB⟩,rfl,trivial⟩
   ·refine ABn (ABl (ACc rfl (AB9 (AB7 (AB7 (ADh (q_t (ABh (Wj (Wj ?_))))))))));rw [Ab8 _ _ (by omega)] at HPA;refine ACo trivial rfl (AYv HPA (by omega) (by omega) hm.1 hm.2 (Aqu hm.1 Bm) Q (Bf Ab hmB) hQ) fun x3 h5 hk=>?_;obtain ⟨Br,F1,s,Ac,rfl,hs,A5,Bt,A6,Ai,Aq⟩:=hk;refine ⟨trivial,?_⟩;have A7:=hEA.thenUpd Br (fun k hk=>hgA k hk);have hlt:=ADp.lt A5
    have hge:∀ g∈b :: Ac,h.size<=g:=fun g hg=>hgA g (by
      rcases List.mem_cons.1 hg with rfl | hg
      · exact List.mem_cons_self ..
      · exact List.mem_cons_of_mem _ (Bt g hg))
    refine AMh (Wj (ACo trivial rfl (ATk m h5) fun fv h6 hk=>?_));obtain ⟨rfl,rfl⟩:=hk;refine ⟨trivial,?_⟩;have hpush:=AD8 h5 (.cells #[.int .i64 m] tI (0,0));refine ABp (ABl (ABh (Wj (AKv rfl rfl (by omega) (by omega) (ABp (ABo (ACg 81129638414606105235036701751344 (fun y:Nat × Int=>[(11,.int .i64 y.2)]) (fun k y h'=>k=M.length - y.1/\y.1<=M.length/\y.2=(M.length:Int) - 1 - (y.1:Int)/\Ade h5 h' b Ac r1 M.length (M.length + M.length) m (AHb m M.length F1 y.1) (.slice none 0 0) [] Ac/\ ∀ c,M.length - y.1<=c->c < M.length-> ∃ z,AJ5 m (F1 c c) z) (by kernel_rfl) M.length (0,(M.length:Int) - 1) ?_ ⟨rfl,trivial⟩ ?_)))))))
    ·refine ⟨rfl,by omega,by simp,⟨hpush.upd,ADp.ext A5 hpush,fun g hg=>hg,ASp _ _ _,?_,by simp⟩,fun c h1 h2=>absurd h1 (by simp;omega)⟩;simp [AEm]
    rintro k ⟨j,xv⟩ sy h6 ⟨rfl,hj,hxv,HIB,hall⟩;dsimp only at hj hxv HIB hall ⊢;refine ABl (ABh (Wj (ATd rfl rfl (fun Bv=>?_) (fun Bv=>?_))))
    ·refine ABn (AB6 rfl (ABq (q_t (ABl (ABo (ABl ?_))))));obtain ⟨c,rfl⟩:∃ c:Nat,xv=(c:Int):=⟨xv.toNat,by omega⟩;obtain ⟨G,hG⟩:∃ G,AHb m M.length F1 j=G:=⟨_,rfl⟩;rw [hG] at HIB;have HPG:=HIB.2.1;have hbdG:Bd M.length (M.length + M.length) m G:=hG ▸ Aae (by omega) Ai j;have hx:=hbdG c c (by omega) (by omega);have hdiag:G c c=F1 c c:=by rw [<- hG];exact AXh (by omega) Ai (by omega) Aq j (by omega) c c (by omega) (by omega)
     refine ABw (Wj (Wj (ANh AB1 rfl HPG rfl (AEc (by omega)) fun aR rR gR haR hgR hrR=>AB3 ACn rfl haR (Wj (ALb ABt rfl hrR.sl rfl (AGj (by omega)) fun aX haX=>AB3 ACm rfl haX (Wj (ACo trivial rfl (AYo (x:=G c c) (m:=m) hx.1 hx.2 hm.1 hm.2 _) fun rv h7 hk=>?_)))))));obtain ⟨rfl,inv,ok,rfl,Bw,him,hok,hno⟩:=hk;refine ⟨trivial,?_⟩;refine Wj (ADa rfl rfl (ADa rfl rfl (ACd (ABp (ABl (ABh (Wj (AGt rfl (ABn (⟨_,rfl,fun Au=>?_,fun Au=>?_⟩))))))))))
     ·refine ABh (ACd (ABp (ABr (ABz (ADk (ABz (ABz (ADk (ABz (⟨_,AC6,?_⟩))))))))));have Aj:ok=false:=by cases ok <;> simp at Au ⊢
      exact ⟨⟨A7.thenUpd HIB.1 (fun k hk=>hge k hk),_,_,rfl,.inr (.inr ⟨Ab,hmB,F1,s,hs,A6,Ai,Aq,.inl ⟨rfl,AZ2 _,c,by omega,hdiag ▸ hno Aj⟩⟩)⟩,fun r e he=>(AWq he).1 ▸ AP6⟩
     ·refine ABq (q_t (ABl ?_));have Aj:ok=true:=by cases ok <;> simp at Au ⊢
      have hinv:=Af3 (hok Aj);have HPG:=HIB.2.1;refine ABw (Wj (Wj (ANh AB1 rfl HPG rfl (AEc (by omega)) fun aS rS gS haS hgS hrS=>AB3 ACn rfl haS (Wj (Wj (ACo trivial rfl (Alq hrS (AXd hbdG (by omega)) Bw him hm.1 hm.2 (by simp;omega)) fun sv h8 hk=>?_))))));obtain ⟨A8,A9⟩:=hk;refine ⟨trivial,?_⟩;rw [Ais] at A9;have Ba:=ADp.setRow' HIB.2.1 hgS A8 (AEc (by omega)) hrS A9;rw [AHl] at Ba;have Bx:=HIB.turn hlt A8 (List.mem_cons_of_mem _ (List.mem_of_getElem? hgS)) (F2:=ALi G c inv m) Ba HIB.2.2.1;have By:=Ab6 (a:=c) (f:=inv) (by omega:0 < m) hbdG;refine AMh (Wj (Wj (ABn (ABo (ACg 81129599728980454027655414562816 (fun q:Nat=>[(85,.int .i64 (q:Int))]) (fun k q h'=>k=c - q/\q<=c/\Ade h5 h' b Ac r1 M.length (M.length + M.length) m (AJ6 (ALi G c inv m) c c m q) (.slice none 0 0) [] Ac) (by kernel_rfl) c 0 ?_ ⟨rfl,trivial⟩ ?_)))))
      ·exact ⟨rfl,by omega,by rw [AXb];exact Bx⟩
      rintro k q sz h9 ⟨rfl,hq,HIk⟩;have HPk:=HIk.2.1;refine ABh (AFe rfl rfl (fun Bz=>?_) (fun Bz=>?_))
      ·refine ABn (ABl (AB6 rfl (ABq (q_t (ABl (ABo (ABl ?_)))))));have hbk:=Af5 (k:=q) (top:=c) (j:=c) (by omega:0 < m) By;have hY:=hbk q c (by omega) (by omega);refine ABw (Wj (ABp (ANq (by kernel_rfl) (Wj (Wj (Wj (ANh AB1 rfl HPk rfl (AEc (by omega)) fun aK rK gK haK hgK hrK=>AB3 ACn rfl haK (Wj (Wj (ANh AB1 rfl HPk rfl (AEc (by omega)) fun aL rL gL haL hgL hrL=>AB3 ACn rfl haL ?_))))))))));have hgKm:gK∈b :: Ac:=List.mem_cons_of_mem _ (List.mem_of_getElem? hgK);have hneKL:gK≠gL:=fun he=>absurd (AGl (List.nodup_cons.1 (ADp.nodup HIk.2.1)).2 hgK (he ▸ hgL)) (by omega);refine Wj (Wj (ANh AB1 rfl HPk rfl (AEc (by omega)) fun aN rN gN haN hgN hrN=>AB3 ACn rfl haN (Wj (ALb ABt rfl hrN.sl rfl (AGj (by omega)) fun aY haY=>AB3 ACm rfl haY (AZ1 trivial rfl rfl (AUp (a:=⟨h5.size,0,none⟩) hrK hrL hneKL (by simp) HIk.2.2.2.2.1 (by have:=hlt _ hgKm;dsimp only;omega) (AXd hbk (by omega)) (AXd hbk (by omega)) hY.1 hY.2 hm.1 hm.2 (by simp;omega)) fun ev B9 hk=>?_)))));obtain ⟨Bb,Bc⟩:=hk;refine ⟨trivial,?_⟩;rw [Adc] at Bc;have Ak:=ADp.setRow' HIk.2.1 hgK Bb (AEc (by omega)) hrK Bc;rw [AHl] at Ak;simp only [Ab5,AVb] at Ak;rw [AXc (by omega)] at Ak;have B1:=HIk.turn hlt Bb hgKm Ak HIk.2.2.1;refine ACh (q_b (q_t (ABw (AIl rfl (by omega) (Wj (ABn ?_))))));exact ⟨c - (q + 1),q + 1,by omega,⟨rfl,by omega,B1⟩,rfl,trivial⟩
      ·refine ABn (ABl (ACc rfl (AB9 (AB7 (AB7 (ADh (q_b (q_t (ABw (Wj (AKv rfl rfl (by omega) (by omega) (ABp ?_))))))))))));obtain rfl:q=c:=by omega
       have hS:AHb m M.length F1 (j + 1)=AJ6 (ALi G q inv m) q q m q:=by
         simp only [AHb,AY5]
         rw [hG,show M.length - 1 - j=q by omega,hinv]
       refine ⟨M.length - (j + 1),(j + 1,(q:Int) - 1),by first | omega | (dsimp only;omega),⟨rfl,by first | omega | (dsimp only;omega),by simp;omega,?_,fun c h1 h2=>?_⟩,rfl,trivial⟩
       ·dsimp only;rw [hS];exact HIk
       ·dsimp only at h1;by_cases hcq:c=q
        ·subst hcq;exact ⟨inv,hdiag ▸ hok Aj⟩
        ·exact hall c (by omega) h2
    ·refine ABn (ACc rfl (AB9 (AB7 (AB7 (ADh (q_t (ABl (ABl ?_))))))));obtain rfl:j=M.length:=by omega
     have HPG:=HIB.2.1;refine ABw (Wj (ATq AB1 rfl HPG (Wj (ABn (ABo (ACg 5316587464586005064888445085100834816 (fun i:Nat=>[(108,.int .i64 (i:Int))]) (fun k i h'=>Ext h h'/\k=M.length - i/\i<=M.length/\ ∃ gs',ADp h' tR tI b gs' r1 M.length (AVc M.length i (fun k=>(List.range M.length).map fun j=>AHb m M.length F1 M.length k (M.length + j)) (fun k=>(List.range (M.length + M.length)).map (AHb m M.length F1 M.length k)))/\ ∀ g∈b :: gs',h.size<=g) (by kernel_rfl) M.length 0 ?_ ⟨rfl,trivial⟩ ?_))))))
     ·exact ⟨A7.thenUpd HIB.1 (fun k hk=>hge k hk),by omega,by omega,Ac,by rw [AY6];exact HPG,hge⟩
     rintro k i sw B2 ⟨hEW,rfl,hi,gsW,HPW,Av⟩;refine ABh (AFe rfl rfl (fun B3=>?_) (fun B3=>?_))
     ·refine ABn (ABl (AB6 rfl (ABq (q_t (ABl (ABo (ABh (Wj (ABp (ABw (Wj (Wj (Wj (Wj (ANh AB1 rfl HPW rfl (Aga (by omega)) fun aW rW gW haW hgW hrW=>AB3 ACn rfl haW (Wj ?_))))))))))))))));obtain ⟨capW,hvW,hcW⟩:=hrW.slice;have hlW:(((List.range (M.length + M.length)).map (AHb m M.length F1 M.length i)).map (Value.int .i64)).length=M.length + M.length:=by simp
      rw [hlW] at hvW hcW;have HX:=hrW.from (k:=M.length) (cap:=capW) hlW (by omega) (by omega);rw [Aj3] at HX;refine Abx ABt hvW rfl (by omega) hcW (Ael ABt AHa rfl trivial rfl rfl HX (by simp [isOne]) (by rw [List.map_map];exact AZ6 (by omega)) (by simp;omega) (by simp;omega) fun B4 B5 Be Aw=>⟨trivial,?_⟩);obtain ⟨rs,HT,hrl⟩:=ADp.top HPW;have Af:=HT.ext Aw;refine AMu AB1 rfl Af rfl (by omega) (ARi ACn rfl rfl Be.one Af (by omega) ?_);have HPY:=ADp.replace HPW hgW Aw.upd Be (.inr (Nat.le_refl _));rw [Ab9 rfl] at HPY;refine ACh (q_b (q_t (ABw (AIl rfl (by omega) (Wj (ABn ?_))))));have hEY:=(hEW.trans Aw).thenUpd (AGu B5 ⟨b,i,none⟩ B4) (fun k hk=>by have Ap:k=b:=hk;have:=Av b (List.mem_cons_self ..);omega)
      exact ⟨M.length - (i + 1),i + 1,by omega,⟨hEY,rfl,by omega,_,HPY,fun g hg=>by
        rcases List.mem_cons.1 hg with rfl | hg
        · exact Av _ (List.mem_cons_self ..)
        · exact AXf (fun g hg=>Av g (List.mem_cons_of_mem _ hg)) hEW.1 g hg⟩,rfl,trivial⟩
     ·refine ABn (ABl (ACc rfl (AB9 (AB7 (AB7 (ADh (q_t (ABh (Wj (ACd (ABp (ABr (⟨_,AC6,?_⟩)))))))))))));obtain rfl:i=M.length:=by omega
      rw [Ab8 _ _ (by omega)] at HPW;refine ⟨⟨hEW,_,_,rfl,.inr (.inr ⟨Ab,hmB,F1,s,hs,A6,Ai,Aq,.inr ⟨rfl,fun c hc=>hall c (by omega) hc,?_⟩⟩)⟩,fun r e he=>(AWq he).1 ▸ (let ⟨_,ho,_⟩:=HPW;ho.cap)⟩;exact (show AYp B2 tR tI b gsW r1 (tab M.length M.length fun i j=>AHb m M.length F1 M.length i (M.length + j)) by unfold AYp;rw [AC9];exact HPW).mat
end Go.Proofs.YtiegjkmfpcgjjaaGreatDoor
namespace Go.QF
theorem AWr:∀ {n:Nat} {m:Int} {F G:Nat->Nat->Int},(∀ i j,i < n->j < n->Eqm m (F i j) (G i j))->Eqm m (det n F) (det n G):=by
 intro n m
 induction n with
 | zero=>intro _ _ _;rfl
 | succ n ih=>
   intro F G h
   refine Eqm.psum fun i hi=>?_
   exact ((Eqm.refl _ _).mul (h i 0 hi (by omega))).mul (ih (F:=AEy i F) (G:=AEy i G) fun a b ha hb=>h _ _ (Ak8 ha) (by omega))
theorem Aiv {n c i:Nat} {q m:Int} {F:Nat->Nat->Int} (hc:c < n) (hi:i < n) (hne:c≠i):Eqm m (det n (ANi F c i q m)) (-det n F):=by
  rw [<- AK1 (F:=F) hc hi hne (-q),<- AOu (F:=ADd F c fun x=>F c x + -q * F i x) hc hi hne];refine AWr fun a b ha hb=>?_;unfold ANi;rw [AKe,AKe];simp only [ACr]
  have key:Eqm m ((F c b + (m - q) * F i b) % m) (F c b + -q * F i b):=by
    refine (Eqm.mod _ _).trans ?_;unfold Eqm;rw [show F c b + (m - q) * F i b=F c b + -q * F i b + m * F i b by grind,Int.add_mul_emod_self_left]
  split
  · split <;> first | exact key | rfl
  · split
    · split <;> first | exact key | rfl
    · first | rfl | exact key
theorem Alx {F:Nat->Nat->Int} {m s:Int}:∀ n,Eqm m (AQw F m s n) (s * AGc (fun i=>F i i) n):=by
 intro n
 induction n with
 | zero=>unfold AQw AGc Eqm;rw [Int.add_emod_right,Int.mul_one]
 | succ n ih=>
   unfold AQw AGc
   refine (Eqm.mod _ _).trans ?_
   rw [<- Int.mul_assoc]
   exact ((Eqm.mod _ _).trans ih).mul (Eqm.refl _ _)
def AYw (M:List (List Int)) (m:Int):Int:=if AHy M && AO3 m then det M.length (ent M) % m else 0
end Go.QF
namespace Go.Proofs.YtiegjkmfpcgjjaaGreatDoor
open Go Go.QF
end Go.Proofs.YtiegjkmfpcgjjaaGreatDoor
namespace Go.Proofs.YtiegjkmfpcgjjaaGreatDoor
open Go Go.QF
theorem AX6 {fuel:Nat} {a m:Int} (hm:0 < m) (Ae:m<=2147483647):AD7 fuel a m=some (a % m):=by
 unfold AD7;rw [if_pos (by omega)];have h1:=Int.tmod_lt_of_pos a hm
 have h2: -m < Int.tmod a m:=by
   have:=Int.tmod_lt_of_pos (-a) hm
   rw [Int.neg_tmod] at this;omega
 have h3:Int.tmod a m=a % m∨Int.tmod a m=a % m - m:=by
   rcases Int.lt_or_le a 0 with h | h
   · have e1:Int.tmod a m= -((-a) % m):=by rw [show a= -(-a) by omega,Int.neg_tmod,Int.tmod_eq_emod_of_nonneg (by omega)];simp
     rcases Int.lt_or_eq_of_le (Int.emod_nonneg (-a) (by omega:m≠0)) with h4 | h4
     · right
       rw [e1]
       have:=Int.emod_add_mul_ediv (-a) m
       have h5:a % m=m - (-a) % m:=by
         have h6:=Int.emod_lt_of_pos (-a) hm
         have e:a=(m - (-a) % m) + m * (-(-a / m) - 1):=by
           have e0:m * (-(-a / m) - 1)= -(m * (-a / m)) - m:=by rw [Int.mul_sub,Int.mul_neg,Int.mul_one]
           omega
         conv=>lhs;rw [e]
         rw [Int.add_mul_emod_self_left,Int.emod_eq_of_lt (by omega) (by omega)]
       omega
     · left
       rw [e1,<- h4]
       have:m ∣ -a:=Int.dvd_of_emod_eq_zero h4.symm
       have:m ∣ a:=(Int.dvd_neg).1 this
       rw [Int.emod_eq_zero_of_dvd this];rfl
   · left;exact Int.tmod_eq_emod_of_nonneg h
 have h4:=Int.emod_nonneg a (by omega:m≠0);have h5:=Int.emod_lt_of_pos a hm;rcases h3 with h3 | h3
 ·rw [if_neg (by omega),h3]
 ·rw [if_pos (by omega),wk (by omega)];congr 1;omega
end Go.Proofs.YtiegjkmfpcgjjaaGreatDoor
namespace Go.QF
def Adg (n:Nat) (m:Int) (A F:Nat->Nat->Int):Prop:=
  (∀ i j,i < n->j < n->Eqm m (F i j) (psum (fun k=>F i (n + k) * A k j) n))/\
  ∃ S:Nat->Nat->Int,∀ i j,i < n->j < n->Eqm m (comb n (S i) F (n + j)) (dl i j)
theorem AX7 {n:Nat} {m:Int} {A F F':Nat->Nat->Int} (E:AN8 n (n + n) m F F') (H:Adg n m A F):Adg n m A F':=by
 obtain ⟨h1,S,h2⟩:=H;refine ⟨fun i j hi hj=>?_,fun i=>(E.2 (S i)).choose,fun i j hi hj=>((E.2 (S i)).choose_spec (n + j) (by omega)).symm.trans (h2 i j hi hj)⟩;obtain ⟨y,e,_⟩:=E.1 (AVn (fun _=>0) i 1);have e':∀ q,q < n + n->Eqm m (F' i q) (comb n y F q):=fun q hq=>by have:=e q hq;rw [Aii hi] at this;exact this
 refine (e' j (by omega)).trans ?_;have h3:Eqm m (comb n y F j) (psum (fun a=>y a * psum (fun k=>F a (n + k) * A k j) n) n):=Eqm.psum fun a ha=>(Eqm.refl _ _).mul (h1 a j ha hj);refine h3.trans ?_
 have h4:psum (fun a=>y a * psum (fun k=>F a (n + k) * A k j) n) n=psum (fun k=>comb n y F (n + k) * A k j) n:=by
   unfold comb
   rw [ABu (g:=fun a=>psum (fun k=>y a * F a (n + k) * A k j) n) (fun a _=>by rw [<- ADr];exact ABu fun k _=>by rw [Int.mul_assoc]),AL8]
   exact ABu fun k _=>by rw [Int.mul_comm,<- ADr];exact ABu fun a _=>by rw [Int.mul_comm]
 rw [h4];exact Eqm.psum fun k hk=>((e' (n + k) (by omega)).symm).mul (Eqm.refl _ _)
theorem Afn {r c a i:Nat} {q m:Int} {F:Nat->Nat->Int} (ha:a < r) (hi:i < r) (hne:a≠i):AN8 r c m F (ANi F a i q m):=
  (AZf (e:=m - q) ha hi hne).trans (Afc ha hi)
theorem Aly {n:Nat} {m:Int} {A:Nat->Nat->Int}:Adg n m A (AYq n A):=by
 have h0:∀ i k,i < n->k < n->AYq n A i (n + k)=dl i k:=by
   intro i k hi hk
   unfold AYq dl
   rw [if_neg (by omega)]
   by_cases h:i=k
   · subst h;simp
   · rw [if_neg h,if_neg (by omega)]
 refine ⟨fun i j hi hj=>Eqm.of_eq ?_,dl,fun i j hi hj=>Eqm.of_eq ?_⟩
 ·rw [ABu (g:=fun k=>dl i k * A k j) (fun k hk=>by rw [h0 i k hi hk])];rw [AFn hi (fun k hk=>by unfold dl;rw [if_neg (fun h=>hk h.symm)];simp)];simp [dl,AYq,hj]
 ·unfold comb;rw [ABu (g:=fun k=>dl i k * dl k j) (fun k hk=>by rw [h0 k j hk hj])];rw [AFn hi (fun k hk=>by unfold dl;rw [if_neg (fun h=>hk h.symm)];simp)];simp [dl]
theorem Afo {n c:Nat} {m:Int} {F:Nat->Nat->Int} {k:Nat} (hk:k < n) (hu:∃ y,AJ5 m (F k k) y):AN8 n c m F (AY5 m F k):=by
 obtain ⟨y,hy⟩:=hu;have hinv:=ASo hy;unfold AY5;refine (Acx (g:=F k k) hk ?_).trans (Afd hk k (by omega));exact hinv.2.2
theorem Aiw {n:Nat} {m:Int} {A F:Nat->Nat->Int} (hm:2<=m) (hbd:Bd n (n + n) m F) (hz:Zc n F n) (hu:∀ c,c < n-> ∃ y,AJ5 m (F c c) y) (H:Adg n m A F):∀ j,j<=n->Adg n m A (AHb m n F j):=by
 intro j
 induction j with
 | zero=>intro _;exact H
 | succ j ih=>
   intro hj
   refine AX7 (Afo (by omega) ?_) (ih (by omega))
   rw [AXh (by omega) hbd (by omega) hz j (by omega) (n - 1 - j) (n - 1 - j) (by omega) (by omega)]
   exact hu _ (by omega)
theorem Aor {n:Nat} {m:Int} {F:Nat->Nat->Int} (hm:2<=m) (hbd:Bd n (n + n) m F) (hz:Zc n F n) (hu:∀ c,c < n-> ∃ y,AJ5 m (F c c) y):∀ j,j<=n-> ∀ i c,i < n->n - j<=c->c < n->AHb m n F j i c=dl i c:=by
 intro j
 induction j with
 | zero=>intro _ i c _ h1 h2;omega
 | succ j ih=>
   intro hj i c hi h1 h2
   have hb:=Aae (n:=n) (by omega:0 < m) hbd j
   have hcol:=AXh (m:=m) (by omega) hbd (by omega) hz j (by omega)
   obtain ⟨G,hG⟩:∃ G,AHb m n F j=G:=⟨_,rfl⟩
   obtain ⟨k,hk⟩:∃ k,n - 1 - j=k:=⟨_,rfl⟩
   have hkn:k < n:=by omega
   simp only [AHb,AY5]
   rw [hG,hk]
   rw [hG] at ih hb hcol
   have hkk:G k k=F k k:=hcol k k hkn (by omega)
   obtain ⟨y,hy⟩:=hu k hkn
   have hinv:=ASo hy
   rw [hkk]
   have hrow:∀ q,ALi G k (AW5 m (F k k)) m k q=G k q * AW5 m (F k k) % m:=fun q=>by unfold ALi;rw [AC4]
   have hoth:∀ a,a≠k->ALi G k (AW5 m (F k k)) m a=G a:=fun a ha=>by unfold ALi;rw [AD2 _ _ ha]
   have hone:ALi G k (AW5 m (F k k)) m k k=1:=by rw [hrow,hkk,Int.mul_comm,hinv.2.2,Int.emod_eq_of_lt (by omega) (by omega)]
   have hright:∀ c,k < c->c < n->ALi G k (AW5 m (F k k)) m k c=0:=fun c h3 h4=>by
     rw [hrow,ih (by omega) k c hkn (by omega) h4];unfold dl;rw [if_neg (by omega)];simp
   by_cases hik:i=k
   · subst hik
     rw [AVb]
     by_cases hci:c=i
     · subst hci;rw [hone];simp [dl]
     · rw [hright c (by omega) h2];unfold dl;rw [if_neg (fun h=>hci h.symm)]
   · by_cases hlt:i < k
     · rw [Afe hlt hik,hoth i hik]
       by_cases hck:c=k
       · subst hck
         rw [hone,Int.mul_one,show G i c + (m - G i c)=m by omega,Int.emod_self]
         unfold dl;rw [if_neg hik]
       · rw [hright c (by omega) h2,Int.mul_zero,Int.add_zero,ih (by omega) i c hi (by omega) h2]
         unfold dl;rw [if_neg (by omega)];simp
     · have he:AJ6 (ALi G k (AW5 m (F k k)) m) k k m k i c=G i c:=by
         unfold AJ6;rw [if_neg (by omega),hoth i hik]
       rw [he]
       by_cases hck:c=k
       · subst hck
         rw [hcol i c hi (by omega),hz c i hkn (by omega) hi]
         unfold dl;rw [if_neg hik]
       · exact ih (by omega) i c hi (by omega) h2
theorem Alz {n:Nat} {m:Int} {A F:Nat->Nat->Int} (hm:2<=m) (hbd:Bd n (n + n) m F) (hz:Zc n F n) (hu:∀ c,c < n-> ∃ y,AJ5 m (F c c) y) (H:Adg n m A F):
    (∀ i j,i < n->j < n->Eqm m (psum (fun k=>AHb m n F n i (n + k) * A k j) n) (dl i j))/\(∀ i j,i < n->j < n->Eqm m (psum (fun k=>A i k * AHb m n F n k (n + j)) n) (dl i j)):=by
  obtain ⟨h1,S,h2⟩:=Aiw hm hbd hz hu H n (Nat.le_refl _);have hid:=Aor hm hbd hz hu n (Nat.le_refl _);obtain ⟨G,hG⟩:∃ G,AHb m n F n=G:=⟨_,rfl⟩;rw [hG] at h1 h2 hid ⊢
  have hBA:∀ i j,i < n->j < n->Eqm m (psum (fun k=>G i (n + k) * A k j) n) (dl i j):=fun i j hi hj=>by
    have:=h1 i j hi hj;rw [hid i j hi (by omega) hj] at this;exact this.symm
  refine ⟨hBA,fun i j hi hj=>?_⟩
  have hSA:∀ i j,i < n->j < n->Eqm m (S i j) (A i j):=by
    intro i j hi hj
    have e1:S i j=psum (fun k=>S i k * dl k j) n:=by
      rw [AFn hj (fun k hk=>by unfold dl;rw [if_neg hk];simp)];simp [dl]
    have e2:Eqm m (psum (fun k=>S i k * dl k j) n) (psum (fun k=>S i k * psum (fun l=>G k (n + l) * A l j) n) n):=Eqm.psum fun k hk=>(Eqm.refl _ _).mul (hBA k j hk hj).symm
    have e3:psum (fun k=>S i k * psum (fun l=>G k (n + l) * A l j) n) n=psum (fun l=>comb n (S i) G (n + l) * A l j) n:=by
      unfold comb;rw [ABu (g:=fun k=>psum (fun l=>S i k * G k (n + l) * A l j) n) (fun k _=>by rw [<- ADr];exact ABu fun l _=>by rw [Int.mul_assoc]),AL8];exact ABu fun l _=>by rw [Int.mul_comm,<- ADr];exact ABu fun k _=>by rw [Int.mul_comm]
    have e4:Eqm m (psum (fun l=>comb n (S i) G (n + l) * A l j) n) (psum (fun l=>dl i l * A l j) n):=Eqm.psum fun l hl=>(h2 i l hi hl).mul (Eqm.refl _ _)
    have e5:psum (fun l=>dl i l * A l j) n=A i j:=by
      rw [AFn hi (fun k hk=>by unfold dl;rw [if_neg (fun h=>hk h.symm)];simp)];simp [dl]
    rw [e1];exact (e2.trans (Eqm.of_eq e3)).trans (e4.trans (Eqm.of_eq e5))
  refine Eqm.trans (Eqm.psum fun k hk=>(hSA i k hi hk).symm.mul (Eqm.refl _ _)) ?_;exact h2 i j hi hj
theorem Al0 {n:Nat} {m:Int} {T L:Nat->Nat->Int} (hm:2<=m) (hL:∀ i c,c < i->i < n->L i c=0) (hT:∀ i j,i < n->j < n->Eqm m (psum (fun k=>T i k * L k j) n) (dl i j)):
    ∀ c,c < n->Eqm m (T c c * L c c) 1/\ ∀ i,c < i->i < n->Eqm m (T i c) 0:=by
  intro c;induction c using Nat.strongRecOn with
  | _ c ih=>
    intro hc
    have key:∀ i,c<=i->i < n->Eqm m (T i c * L c c) (dl i c):=by
      intro i h1 h2;refine Eqm.trans ?_ (hT i c h2 hc)
      have e1:Eqm m (psum (fun k=>T i k * L k c) n) (psum (fun k=>if k=c then T i c * L c c else 0) n):=Eqm.psum fun k hk=>by
        by_cases h3:k=c
        · subst h3;rw [if_pos rfl];exact Eqm.refl _ _
        · rw [if_neg h3]
          rcases Nat.lt_or_ge k c with h4 | h4
          · exact (((ih k h4 (by omega)).2 i (by omega) h2).mul (Eqm.refl _ _)).trans (Eqm.of_eq (by simp))
          · rw [hL k c (by omega) hk];exact Eqm.of_eq (by simp)
      refine Eqm.trans (Eqm.of_eq ?_) e1.symm;rw [AFn hc (fun k hk=>if_neg hk),if_pos rfl]
    have hcc:Eqm m (T c c * L c c) 1:=by have:=key c (Nat.le_refl _) hc;simpa [dl] using this
    refine ⟨hcc,fun i h1 h2=>?_⟩;have h3:=key i (by omega) h2;unfold dl at h3;rw [if_neg (by omega)] at h3;have h4:=h3.mul (Eqm.refl m (T c c));refine Eqm.trans ?_ (h4.trans (Eqm.of_eq (by simp)));refine Eqm.trans (Eqm.of_eq (show T i c=T i c * 1 by omega)) (((Eqm.refl m (T i c)).mul hcc.symm).trans (Eqm.of_eq ?_));grind
theorem Al1 {n:Nat} {m:Int} {A F V:Nat->Nat->Int} (hm:2<=m) (hz:Zc n F n) (H:Adg n m A F) (hV:∀ i j,i < n->j < n->Eqm m (psum (fun k=>V i k * A k j) n) (dl i j)):∀ c,c < n-> ∃ y,AJ5 m (F c c) y:=by
  obtain ⟨h1,S,h2⟩:=H
  have hT:∀ i j,i < n->j < n->Eqm m (psum (fun k=>psum (fun a=>V i a * S a k) n * F k j) n) (dl i j):=by
    intro i j hi hj;have e1:Eqm m (psum (fun k=>psum (fun a=>V i a * S a k) n * F k j) n) (psum (fun k=>psum (fun a=>V i a * S a k) n * psum (fun l=>F k (n + l) * A l j) n) n):=Eqm.psum fun k hk=>(Eqm.refl _ _).mul (h1 k j hk hj)
    have e2:psum (fun k=>psum (fun a=>V i a * S a k) n * psum (fun l=>F k (n + l) * A l j) n) n=psum (fun a=>V i a * psum (fun l=>comb n (S a) F (n + l) * A l j) n) n:=by
      have s1:∀ k,psum (fun a=>V i a * S a k) n * psum (fun l=>F k (n + l) * A l j) n=psum (fun a=>V i a * (S a k * psum (fun l=>F k (n + l) * A l j) n)) n:=fun k=>by
        rw [Int.mul_comm,<- ADr];exact ABu fun a _=>by rw [Int.mul_comm,Int.mul_assoc]
      rw [ABu (fun k _=>s1 k),AL8];refine ABu fun a _=>?_;rw [ADr];congr 1;unfold comb;rw [ABu (g:=fun k=>psum (fun l=>S a k * F k (n + l) * A l j) n) (fun k _=>by rw [<- ADr];exact ABu fun l _=>by rw [Int.mul_assoc]),AL8];exact ABu fun l _=>by rw [Int.mul_comm,<- ADr];exact ABu fun k _=>by rw [Int.mul_comm]
    have e3:Eqm m (psum (fun a=>V i a * psum (fun l=>comb n (S a) F (n + l) * A l j) n) n) (psum (fun a=>V i a * A a j) n):=Eqm.psum fun a ha=>by
      refine (Eqm.refl _ _).mul ?_;refine (Eqm.psum (g:=fun l=>dl a l * A l j) fun l hl=>(h2 a l ha hl).mul (Eqm.refl _ _)).trans (Eqm.of_eq ?_);rw [AFn ha (fun k hk=>by unfold dl;rw [if_neg (fun h=>hk h.symm)];simp)];simp [dl]
    exact (e1.trans (Eqm.of_eq e2)).trans (e3.trans (hV i j hi hj))
  intro c hc;have:=(Al0 hm (fun i c h3 h4=>hz c i (by omega) h3 h4) hT c hc).1;refine ⟨psum (fun a=>V c a * S a c) n % m,Int.emod_nonneg _ (by omega),Int.emod_lt_of_pos _ (by omega),?_⟩;rw [Int.mul_emod,Int.emod_emod,<- Int.mul_emod];exact this
def AUq (n:Nat) (F:Nat->Nat->Int) (i j:Nat):Int:=det n (ADd F i (dl j))
def AJz (n:Nat) (F:Nat->Nat->Int) (i j:Nat):Int:=AUq n F j i
def tau (j c:Nat):Nat:=if c=j then j + 1 else if c=j + 1 then j else c
theorem AX8 {n j:Nat} {F:Nat->Nat->Int} (hj:j + 1 < n):det n (fun r c=>F r (tau j c))= -det n F:=by
 rw [<- AM3 (fun r c=>F r (tau j c)),<- AM3 F,<- AOu (F:=trF F) (a:=j) (b:=j + 1) (by omega) hj (by omega)];refine ADc fun c r hc hr=>?_;rw [AKe];show F r (tau j c)=if c=j + 1 then F r j else if c=j then F r (j + 1) else F r c;unfold tau;by_cases h1:c=j + 1
 ·subst h1;simp
 ·by_cases h2:c=j
  ·subst h2;simp
  ·simp [h1,h2]
theorem AM7 {f:Nat->Int} {n a:Nat} (ha:a < n) (h:∀ i,i < n->i≠a->f i=0):psum f n=f a:=by
 rw [ABu (g:=fun i=>if i=a then f a else 0) (fun k hk=>?_),AFn ha (fun i hi=>if_neg hi),if_pos rfl];by_cases e:k=a
 ·subst e;rw [if_pos rfl]
 ·rw [if_neg e,h k hk e]
theorem AZn {n:Nat}:∀ {j:Nat} {F:Nat->Nat->Int} {i:Nat},i < n + 1->j < n + 1->AUq (n + 1) F i j=sg i * sg j * det n (fun a b=>F (skp i a) (skp j b)):=by
 intro j
 induction j with
 | zero=>
   intro F i hi hj
   unfold AUq
   simp only [det]
   rw [AM7 hi (fun r hrn hr=>?_)]
   · rw [ACr,if_pos rfl,ARk]
     have:det n (AEy i F)=det n (fun a b=>F (skp i a) (skp 0 b)):=ADc fun a b _ _=>by unfold AEy skp;simp
     rw [this]
     simp [dl,sg]
   · have:det n (AEy r (ADd F i (dl 0)))=0:=by
       rw [AQ9 (fun h=>hr h.symm)]
       refine ARb (r:=usk r i) (Ak9 (fun h=>hr h.symm) hrn hi) fun q _=>?_
       rw [ACr,if_pos rfl];simp [dl]
     rw [this];simp
 | succ j ih=>
   intro F i hi hj
   have h1:=ih (F:=fun r c=>F r (tau j c)) (i:=i) hi (by omega)
   have h2:AUq (n + 1) (fun r c=>F r (tau j c)) i j= -AUq (n + 1) F i (j + 1):=by
     unfold AUq
     rw [<- AX8 (F:=ADd F i (dl (j + 1))) (by omega)]
     refine ADc fun r c _ _=>?_
     rw [ACr,ACr]
     split
     · unfold dl tau
       by_cases h1:c=j
       · subst h1;simp
       · by_cases h2:c=j + 1
         · subst h2;simp
         · rw [if_neg (fun h=>h1 h.symm),if_neg h1,if_neg h2,if_neg (fun h=>h2 h.symm)]
     · rfl
   have h3:(fun a b=>F (skp i a) (tau j (skp j b)))=fun a b=>F (skp i a) (skp (j + 1) b):=by
     funext a b
     congr 1
     unfold tau skp
     by_cases h1:b < j
     · rw [if_pos h1,if_neg (by omega),if_neg (by omega),if_pos (by omega)]
     · rw [if_neg h1]
       by_cases h2:b=j
       · subst h2;rw [if_neg (by omega),if_pos rfl,if_pos (by omega)]
       · rw [if_neg (by omega),if_neg (by omega),if_neg (by omega)]
   rw [h2,h3] at h1
   rw [Agx]
   have:AUq (n + 1) F i (j + 1)= -(sg i * sg j * det n fun a b=>F (skp i a) (skp (j + 1) b)):=by omega
   rw [this];grind
theorem Arh {n:Nat} {F:Nat->Nat->Int} {i j:Nat} (hi:i < n) (hj:j < n):AUq n (trF F) i j=AUq n F j i:=by
 obtain ⟨k,rfl⟩:∃ k,n=k + 1:=⟨n - 1,by omega⟩;rw [AZn hi hj,AZn hj hi,<- AM3 (fun a b=>F (skp j a) (skp i b)),Int.mul_comm (sg i)];rfl
theorem Ag4 {n:Nat} {F:Nat->Nat->Int} {i j:Nat} (hi:i < n) (hj:j < n):psum (fun k=>F i k * AUq n F j k) n=if i=j then det n F else 0:=by
 have h:=AX0 (F:=F) hj (F i) dl n
 have e:det n (ADd F j fun q=>psum (fun k=>F i k * dl k q) n)=det n (ADd F j (F i)):=ADc fun r c _ hc=>by
   rw [ACr,ACr]
   split
   · exact Afg (F:=F) (i:=i) hc
   · rfl
 unfold AUq;rw [<- h,e];split
 ·subst_vars
  refine ADc fun r c _ _=>?_;rw [ACr];split
  ·subst_vars;rfl
  ·rfl
 ·rename_i hij;refine AL9 hi hj hij ?_;funext c;rw [ACr,if_neg hij,ACr,if_pos rfl]
theorem Aos {n:Nat} {F:Nat->Nat->Int} {i j:Nat} (hi:i < n) (hj:j < n):psum (fun k=>AUq n F k i * F k j) n=if i=j then det n F else 0:=by
 have h:=Ag4 (F:=trF F) hj hi;rw [AM3] at h;rw [ABu (g:=fun k=>trF F j k * AUq n (trF F) i k) (fun k hk=>by rw [Arh hi hk,Int.mul_comm];rfl),h];by_cases e:i=j
 ·rw [if_pos e,if_pos e.symm]
 ·rw [if_neg e,if_neg (fun h=>e h.symm)]
theorem AZo {n:Nat} {F:Nat->Nat->Int} {i j:Nat} (hi:i < n) (hj:j < n):psum (fun k=>F i k * AJz n F k j) n=det n F * dl i j:=by
 unfold AJz;rw [Ag4 hi hj];unfold dl;split <;> simp
theorem Adh {n:Nat} {F:Nat->Nat->Int} {i j:Nat} (hi:i < n) (hj:j < n):psum (fun k=>AJz n F i k * F k j) n=det n F * dl i j:=by
 unfold AJz;rw [Aos hi hj];unfold dl;split <;> simp
end Go.QF
namespace Go.Proofs.YtiegjkmfpcgjjaaGreatDoor
open Go Go.QF
theorem Adi {fuel n r c:Nat} {F:Nat->Nat->Int} {f g:Nat->Nat} (hr:r<=100) (hc:c<=100) (hf:100 < fuel) (hfn:∀ a,a < r->f a < n) (hgn:∀ a,a < c->g a < n):AFa fuel (tab n n F) (ADu r fun a=>(f a:Int)) (ADu c fun a=>(g a:Int))=some (tab r c fun a b=>F (f a) (g b)):=by
 apply ok_eq;unfold AFa;refine ABm (ACy (fun i s=>s=(ADu i fun a=>ADu c fun b=>F (f a) (g b),(i:Int))) r (Q:=(· =tab r c fun a b=>F (f a) (g b))) rfl (by omega) fun i s hi hI=>?_) fun y hy=>ABj hy;subst hI;unfold AIq;dsimp only;rw [AC8];refine ACk (fun h=>?_) (fun h=>ABj ?_)
 ·have hi':i < r:=by omega
  refine AB4 (ACj hi') rfl (ABm (ACy (fun j s=>s=(ADu j fun b=>F (f i) (g b),(j:Int))) c (Q:=(· =ADu c fun b=>F (f i) (g b))) rfl (by omega) fun j s hj hJ=>?_) fun e he=>AEo (by rw [AC8];omega) (ABj ⟨hi',?_⟩))
  ·subst hJ;unfold AIp;dsimp only;rw [AC8,AC8];refine ACk (fun h2=>?_) (fun h2=>ABj ?_)
   ·have hj':j < c:=by omega
    refine AB4 (ACj hj') rfl (AB4 (ADb (hfn i hi')) rfl (AB4 (ACj (hgn j hj')) rfl (AEo (by omega) (ABj ⟨hj',?_⟩))));rw [wk (by omega),<- AM0];rfl
   ·obtain rfl:j=c:=by omega
    rfl
  ·subst he;rw [wk (by omega),<- AM0];rfl
 ·obtain rfl:i=r:=by omega
  rfl
theorem AZp {fuel n:Nat} {F:Nat->Nat->Int} (hn:1<=n) (Ad:n<=16) (hf:100 < fuel):AE9 fuel (tab n n F)=some ((n:Int),true):=by
 apply ok_eq;unfold AE9;refine ABm (Q:=(· =((n:Int),(n:Int),true))) ?_ fun e he=>?_
 ·unfold AD0;rw [AC9];refine ABm (Q:=fun ex=>match ex with | .inl _=>False | .inr _=>True) (ACk (fun h=>by omega) fun h=>ACk (fun h2=>by omega) fun h2=>ABj trivial) fun ex hex=>?_
  cases ex with
  | inl e=>exact hex.elim
  | inr u=>
    dsimp only
    refine ABm (ACy (fun i (s:Int)=>s=i) n (Q:=fun ex=>match ex with | .inl _=>False | .inr _=>True) rfl (by omega) fun i s hi hI=>?_) fun ex hex=>?_
    · subst hI
      unfold AGw
      rw [AC9]
      refine ACk (fun h=>AB4 (ADb (by omega)) rfl ?_) fun h=>ABj trivial
      rw [AC8]
      refine ACk (fun h2=>by omega) fun h2=>ACk (fun h3=>by omega) fun h3=>AB4 (n:=0) (ADb (by omega)) rfl (ACk (fun h4=>?_) fun h4=>ABj ⟨by omega,wk (by omega)⟩)
      rw [AC8] at h4;omega
    · cases ex with
      | inl e=>exact hex.elim
      | inr u=>exact AB4 (n:=0) (ADb (by omega)) rfl (ABj (by rw [AC8]))
 ·subst he;dsimp only;exact ACk (fun h=>by cases h) fun _=>ACk (fun h=>absurd rfl h) fun _=>ABj rfl
end Go.Proofs.YtiegjkmfpcgjjaaGreatDoor
namespace Go.QF
def AKa (n:Nat) (A:Nat->Nat->Int):Prop:= ∀ i j,i < n->j < n->A i j=A j i
def ALr (n:Nat) (A:Nat->Nat->Int):Prop:= ∀ k,k<=n->0 < det k A
theorem AMl {k i r n:Nat} (hk:k<=n) (hi:i < n):bro k i r < n:=by unfold bro;split <;> omega
theorem Afp {n k:Nat} {A:Nat->Nat->Int} (hs:AKa n A) (hk:k<=n) {i j:Nat} (hi:i < n) (hj:j < n):Mn k A i j=Mn k A j i:=by
 unfold Mn;rw [<- AM3];refine ADc fun r c _ _=>?_;exact hs _ _ (AMl hk hi) (AMl hk hj)
theorem Afq {k:Nat} (A:Nat->Nat->Int) {i:Nat} (j:Nat) (hi:i < k):Mn k A i j=0:=by
 unfold Mn;refine AL9 (a:=i) (b:=k) (by omega) (by omega) (by omega) ?_;funext c;unfold bro;simp [hi]
def bil (n k:Nat) (A:Nat->Nat->Int) (x y:Nat->Int):Int:=psum (fun i=>psum (fun j=>Mn k A i j * x i * y j) n) n
def lin (n k:Nat) (A:Nat->Nat->Int) (x:Nat->Int):Int:=psum (fun j=>Mn k A k j * x j) n
theorem Aix (f g:Nat->Int) (n:Nat):psum (fun i=>psum (fun j=>f i * g j) n) n=psum f n * psum g n:=by
 rw [ABu (g:=fun i=>psum g n * f i) (fun i _=>by rw [ADr,Int.mul_comm]),ADr,Int.mul_comm]
theorem Ato {n k:Nat} {A:Nat->Nat->Int} (hs:AKa n A) (hk:k < n) (h0:det k A≠0) (x y:Nat->Int):det (k + 1) A * bil n k A x y=lin n k A x * lin n k A y + det k A * bil n (k + 1) A x y:=by
 unfold bil;rw [<- ADr,<- ADr];have e1:lin n k A x * lin n k A y=psum (fun i=>psum (fun j=>Mn k A k i * x i * (Mn k A k j * y j)) n) n:=(Aix (fun i=>Mn k A k i * x i) (fun j=>Mn k A k j * y j) n).symm;rw [e1,<- AK0];refine ABu fun i hi=>?_;rw [<- ADr,<- ADr,<- AK0];refine ABu fun j hj=>?_;have h:=AWm (k:=k) (A:=A) h0 i j;rw [AK7,Afp hs (by omega) hi hk] at h;have h2:det (k + 1) A * Mn k A i j=Mn k A k i * Mn k A k j + det k A * Mn (k + 1) A i j:=by omega
 grind
theorem Aot (n:Nat) (A:Nat->Nat->Int) (x y:Nat->Int):bil n n A x y=0:=by
 unfold bil;rw [ABu (g:=fun _=>0) fun i hi=>?_]
 ·exact AM2 n
 ·rw [ABu (g:=fun _=>0) fun j _=>by rw [Afq A j hi];simp];exact AM2 n
theorem AOw {n:Nat} {A:Nat->Nat->Int} (hs:AKa n A) (hp:ALr n A) (x:Nat->Int):∀ d k,k + d=n->0<=bil n k A x x:=by
 intro d
 induction d with
 | zero=>
     intro k hk;obtain rfl:k=n:=by omega
     rw [Aot];exact Int.le_refl _
 | succ d ih=>
   intro k hk
   have h1:=ih (k + 1) (by omega)
   have h2:=hp k (by omega)
   have h3:=hp (k + 1) (by omega)
   have h4:=Ato hs (show k < n by omega) (by omega) x x
   have h5:0<=lin n k A x * lin n k A x:=by
     rcases Int.le_total 0 (lin n k A x) with h | h
     · exact Int.mul_nonneg h h
     · exact Int.mul_nonneg_of_nonpos_of_nonpos h h
   have h6:=Int.mul_nonneg (Int.le_of_lt h2) h1
   exact Int.nonneg_of_mul_nonneg_right (by omega) h3
theorem Aa9 {n k:Nat} {A:Nat->Nat->Int} (a b:Int) (x y z:Nat->Int):bil n k A (fun i=>a * x i + b * y i) z=a * bil n k A x z + b * bil n k A y z:=by
 unfold bil;rw [<- ADr,<- ADr,<- AK0];refine ABu fun i _=>?_;rw [<- ADr,<- ADr,<- AK0];exact ABu fun j _=>by grind
theorem Aba {n k:Nat} {A:Nat->Nat->Int} (hs:AKa n A) (hk:k<=n) (x y:Nat->Int):bil n k A x y=bil n k A y x:=by
 unfold bil;rw [AL8];refine ABu fun j hj=>ABu fun i hi=>?_;rw [Afp hs hk hi hj];grind
theorem Al2 {n k:Nat} {A:Nat->Nat->Int} (hs:AKa n A) (hp:ALr n A) (hk:k<=n) (x y:Nat->Int):bil n k A x y * bil n k A x y<=bil n k A x x * bil n k A y y:=by
  obtain ⟨p,hpq⟩:∃ p,bil n k A x y=p:=⟨_,rfl⟩;obtain ⟨q,hq⟩:∃ q,bil n k A x x=q:=⟨_,rfl⟩;obtain ⟨r,hr⟩:∃ r,bil n k A y y=r:=⟨_,rfl⟩;have hyx:bil n k A y x=p:=by rw [Aba hs hk];exact hpq
  have key:∀ a b:Int,0<=a * (a * q + b * p) + b * (a * p + b * r):=fun a b=>by
    have h:=AOw hs hp (fun i=>a * x i + b * y i) (n - k) k (by omega);rw [Aa9,Aba hs hk x (fun i=>a * x i + b * y i),Aa9,Aba hs hk y (fun i=>a * x i + b * y i),Aa9,hpq,hq,hr,hyx] at h;exact h
  rw [hpq,hq,hr];have hq0:0<=q:=hq ▸ AOw hs hp x (n - k) k (by omega)
  rcases Int.lt_or_eq_of_le hq0 with h | h
  · have h1:=key p (-q);have e:p * (p * q + -q * p) + -q * (p * p + -q * r)=q * (q * r - p * p):=by grind
    rw [e] at h1;have:=Int.nonneg_of_mul_nonneg_right h1 h;omega
  · subst h;have h1:=key (-(r + 1)) p;have h2:=key 1 0;have e: -(r + 1) * (-(r + 1) * 0 + p * p) + p * (-(r + 1) * p + p * r)= -((r + 2) * (p * p)):=by grind
    rw [e] at h1;have hr0:0<=r:=hr ▸ AOw hs hp y (n - k) k (by omega)
    have hpp:0<=p * p:=by
      rcases Int.le_total 0 p with h | h
      · exact Int.mul_nonneg h h
      · exact Int.mul_nonneg_of_nonpos_of_nonpos h h
    have:0<=r * (p * p):=Int.mul_nonneg hr0 hpp;have e2:(r + 2) * (p * p)=r * (p * p) + 2 * (p * p):=by grind
    rw [Int.zero_mul];omega
theorem AUr {n k:Nat} {A:Nat->Nat->Int} {i j:Nat} (hi:i < n) (hj:j < n):bil n k A (dl i) (dl j)=Mn k A i j:=by
 unfold bil;rw [AM7 hi (fun a ha hne=>?_),AM7 hj (fun b hb hne=>?_)]
 ·simp [dl]
 ·unfold dl;rw [if_neg (fun h:j=b=>hne h.symm)];simp
 ·rw [ABu (g:=fun _=>0) fun b _=>by unfold dl;rw [if_neg (fun h:i=a=>hne h.symm)];simp];exact AM2 n
theorem AZq {n k:Nat} {A:Nat->Nat->Int} (hs:AKa n A) (hp:ALr n A) (hk:k<=n) {i j:Nat} (hi:i < n) (hj:j < n):Mn k A i j * Mn k A i j<=Mn k A i i * Mn k A j j:=by
 have:=Al2 hs hp hk (dl i) (dl j);rwa [AUr hi hj,AUr hi hi,AUr hj hj] at this
theorem AZr {n k:Nat} {A:Nat->Nat->Int} (hs:AKa n A) (hp:ALr n A) (hk:k<=n) {i:Nat} (hi:i < n):0<=Mn k A i i:=by
 have:=AOw hs hp (dl i) (n - k) k (by omega);rwa [AUr hi hi] at this
theorem Abb {n k:Nat} {A:Nat->Nat->Int} (hs:AKa n A) (hp:ALr n A) (hk:k < n) {i:Nat} (hi:i < n):det (k + 1) A * Mn k A i i=Mn k A i k * Mn k A i k + det k A * Mn (k + 1) A i i:=by
 have h:=AWm (k:=k) (A:=A) (by have:=hp k (by omega);omega) i i;rw [AK7,<- Afp hs (by omega) hi hk] at h;omega
theorem Aqb {n:Nat} {A:Nat->Nat->Int} (hs:AKa n A) (hp:ALr n A) {i:Nat} (hi:i < n):∀ k,k<=n->Mn k A i i<=det k A * A i i:=by
 intro k
 induction k with
 | zero=>intro _;rw [ANf];simp [det]
 | succ k ih=>
   intro hk
   have h1:=ih (by omega)
   have h2:=Abb hs hp (show k < n by omega) hi
   have h3:0<=Mn k A i k * Mn k A i k:=by
     rcases Int.le_total 0 (Mn k A i k) with h | h
     · exact Int.mul_nonneg h h
     · exact Int.mul_nonneg_of_nonpos_of_nonpos h h
   have h4:=hp k (by omega)
   have h5:=hp (k + 1) (by omega)
   have h6:det (k + 1) A * Mn k A i i<=det (k + 1) A * (det k A * A i i):=Int.mul_le_mul_of_nonneg_left h1 (by omega)
   have h7:det k A * Mn (k + 1) A i i<=det k A * (det (k + 1) A * A i i):=by
     have e:det (k + 1) A * (det k A * A i i)=det k A * (det (k + 1) A * A i i):=by grind
     omega
   exact Int.le_of_mul_le_mul_left h7 h4
theorem Al3 {n:Nat} {A:Nat->Nat->Int} (hs:AKa n A) (hp:ALr n A) {B:Int} (hB:1<=B) (hA:∀ i,i < n->A i i<=B):∀ k,k<=n->det k A<=B ^ k:=by
  intro k;induction k with
  | zero=>intro _;simp [det]
  | succ k ih=>
    intro hk;have h1:=ih (by omega);have h2:=Aqb hs hp (show k < n by omega) k (by omega);rw [AK7] at h2;have h3:=hp k (by omega);have h4:det k A * A k k<=det k A * B:=Int.mul_le_mul_of_nonneg_left (hA k (by omega)) (by omega);have h5:det k A * B<=B ^ k * B:=Int.mul_le_mul_of_nonneg_right h1 (by omega);rw [Int.pow_succ];omega
theorem Aou {n:Nat} {A:Nat->Nat->Int} (hs:AKa n A) (hp:ALr n A) (x:Nat->Int) {k:Nat} (hk:k < n):x k * x k<=AJz n A k k * bil n 0 A x x:=by
  have hd:=hp n (Nat.le_refl _)
  have hB:∀ y z:Nat->Int,bil n 0 A y z=psum (fun i=>y i * psum (fun j=>A i j * z j) n) n:=fun y z=>by
    unfold bil;refine ABu fun i _=>?_;rw [<- ADr];exact ABu fun j _=>by rw [ANf];grind
  have h1:∀ y:Nat->Int,bil n 0 A y (fun j=>AJz n A j k)=det n A * y k:=fun y=>by
    rw [hB,ABu (g:=fun i=>y i * (det n A * dl i k)) (fun i hi=>by rw [AZo hi hk])];rw [AM7 hk (fun i _ hne=>by unfold dl;rw [if_neg hne];simp)];simp [dl,Int.mul_comm]
  have h2:=Al2 hs hp (Nat.zero_le n) x (fun j=>AJz n A j k);rw [h1 x,h1 (fun j=>AJz n A j k)] at h2;have e1:det n A * x k * (det n A * x k)=det n A * (det n A * (x k * x k)):=by grind
  have e2:bil n 0 A x x * (det n A * AJz n A k k)=det n A * (AJz n A k k * bil n 0 A x x):=by grind
  rw [e1,e2] at h2;have h3:=Int.le_of_mul_le_mul_left h2 hd
  have h4:0<=x k * x k:=by
    rcases Int.le_total 0 (x k) with h | h
    · exact Int.mul_nonneg h h
    · exact Int.mul_nonneg_of_nonpos_of_nonpos h h
  have h5:1 * (x k * x k)<=det n A * (x k * x k):=Int.mul_le_mul_of_nonneg_right (by omega) h4;omega
def AVs (A:Nat->Nat->Int) (i j:Nat) (c:Int):Nat->Nat->Int:=ADd A i fun s=>A i s + c * A j s
def Al4 (A:Nat->Nat->Int) (i j:Nat) (c:Int):Nat->Nat->Int:=trF (AVs (trF A) i j c)
def AUs (A:Nat->Nat->Int) (i j:Nat) (c:Int):Nat->Nat->Int:=Al4 (AVs A i j c) i j c
def swA (A:Nat->Nat->Int) (j:Nat):Nat->Nat->Int:=fun r s=>A (tau j r) (tau j s)
theorem Al6 (l:Nat) (A:Nat->Nat->Int) (r s:Nat):Mn l (trF A) s r=Mn l A r s:=by
 unfold Mn;rw [<- AM3];rfl
theorem Adj {A:Nat->Nat->Int} {i j k:Nat} {c:Int} (hij:j < i):det k (AVs A i j c)=det k A:=by
 rcases Nat.lt_or_ge i k with h | h
 ·exact AK1 h (by omega) (by omega) c
 ·refine ADc fun r s hr _=>?_;unfold AVs;rw [ACr,if_neg (by omega)]
theorem Al7 {A:Nat->Nat->Int} {i j k:Nat} {c:Int} (hij:j < i):det k (Al4 A i j c)=det k A:=by
 unfold Al4;rw [AM3,Adj hij,AM3]
theorem ANg {A:Nat->Nat->Int} {i j k:Nat} {c:Int} (hij:j < i):det k (AUs A i j c)=det k A:=by
 unfold AUs;rw [Al7 hij,Adj hij]
theorem Abc {A:Nat->Nat->Int} {i j l r s:Nat} {c:Int} (hij:j < i) (hr:l<=r):Mn l (AVs A i j c) r s=Mn l A r s + if l<=i/\r=i then c * Mn l A j s else 0:=by
 rcases Nat.lt_or_ge i l with h | h
 ·rw [if_neg (by omega),Int.add_zero];unfold Mn;have e:=AK1 (n:=l + 1) (F:=fun a b=>A (bro l r a) (bro l s b)) (a:=i) (b:=j) (by omega) (by omega) (by omega) c;rw [<- e];refine ADc fun a b ha _=>?_;rw [ACr];unfold AVs;rw [ACr];have hbi:bro l r i=i:=by unfold bro;rw [if_pos h]
  have hbj:bro l r j=j:=by unfold bro;rw [if_pos (by omega)]
  by_cases ea:a=i
  ·subst ea;rw [hbi,if_pos rfl,if_pos rfl,hbj]
  ·rw [if_neg ea,if_neg];unfold bro;split <;> omega
 ·by_cases er:r=i
  ·subst er;rw [if_pos ⟨h,rfl⟩];unfold Mn;have e:=ARa (n:=l + 1) (F:=fun a b=>A (bro l r a) (bro l s b)) (r:=l) (fun b=>A r (bro l s b)) (fun b=>A j (bro l s b)) 1 c (by omega)
   have e1:det (l + 1) (fun a b=>AVs A r j c (bro l r a) (bro l s b))=det (l + 1) (ADd (fun a b=>A (bro l r a) (bro l s b)) l fun q=>1 * A r (bro l s q) + c * A j (bro l s q)):=by
     refine ADc fun a b ha _=>?_
     rw [ACr]
     unfold AVs
     rw [ACr]
     by_cases ea:a=l
     · subst ea
       rw [show bro a r a=r by unfold bro;rw [if_neg (by omega)],if_pos rfl,if_pos rfl,Int.one_mul]
     · rw [if_neg ea,if_neg]
       unfold bro;rw [if_pos (by omega)];omega
   have e2:det (l + 1) (ADd (fun a b=>A (bro l r a) (bro l s b)) l fun b=>A r (bro l s b))=det (l + 1) (fun a b=>A (bro l r a) (bro l s b)):=by
     refine ADc fun a b ha _=>?_
     rw [ACr]
     by_cases ea:a=l
     · subst ea;rw [if_pos rfl,show bro a r a=r by unfold bro;rw [if_neg (by omega)]]
     · rw [if_neg ea]
   have e3:det (l + 1) (ADd (fun a b=>A (bro l r a) (bro l s b)) l fun b=>A j (bro l s b))=det (l + 1) (fun a b=>A (bro l j a) (bro l s b)):=by
     refine ADc fun a b ha _=>?_
     rw [ACr]
     by_cases ea:a=l
     · subst ea;rw [if_pos rfl,show bro a j a=j by unfold bro;rw [if_neg (by omega)]]
     · rw [if_neg ea,show bro l r a=a by unfold bro;rw [if_pos (by omega)],show bro l j a=a by unfold bro;rw [if_pos (by omega)]]
   rw [e1,e,e2,e3,Int.one_mul]
  ·rw [if_neg (fun h=>er h.2),Int.add_zero];unfold Mn;refine ADc fun a b ha _=>?_;unfold AVs;rw [ACr,if_neg];unfold bro;split <;> omega
theorem Aov {A:Nat->Nat->Int} {i j l r s:Nat} {c:Int} (hij:j < i) (hs:l<=s):Mn l (Al4 A i j c) r s=Mn l A r s + if l<=i/\s=i then c * Mn l A r j else 0:=by
 unfold Al4;rw [Al6,Abc hij hs,Al6,Al6]
theorem Al8 {A:Nat->Nat->Int} {i j l r s:Nat} {c:Int} (hij:j < i) (hr:l<=r) (hs:l<=s):Mn l (AUs A i j c) r s=Mn l A r s + (if l<=i/\r=i then c * Mn l A j s else 0) + if l<=i/\s=i then c * (Mn l A r j + if l<=i/\r=i then c * Mn l A j j else 0) else 0:=by
  unfold AUs;rw [Aov hij hs,Abc hij hr,Abc hij hr]
theorem AWs (A:Nat->Nat->Int) (i j:Nat) (c:Int) (r s:Nat):AUs A i j c r s=if s=i then (if r=i then A i i + c * A j i else A r i) + c * (if r=i then A i j + c * A j j else A r j) else if r=i then A i s + c * A j s else A r s:=by
 show ADd (trF (AVs A i j c)) i (fun q=>trF (AVs A i j c) i q + c * trF (AVs A i j c) j q) s r=_;rw [ACr];unfold trF AVs;by_cases h:s=i
 ·rw [if_pos h,if_pos h,ACr,ACr]
 ·rw [if_neg h,if_neg h,ACr]
theorem Aow {n:Nat} {A:Nat->Nat->Int} {i j:Nat} {c:Int} (hi:i < n) (hj:j < n) (h:AKa n A):AKa n (AUs A i j c):=by
 intro r s hr hs;rw [AWs,AWs];by_cases h1:r=i
 ·by_cases h2:s=i
  ·rw [h1,h2]
  ·rw [if_neg h2,if_pos h1,if_pos h1,if_neg h2,if_neg h2,h i s hi hs,h j s hj hs]
 ·by_cases h2:s=i
  ·rw [if_pos h2,if_neg h1,if_neg h1,if_neg h1,if_pos h2,h r i hr hi,h r j hr hj]
  ·rw [if_neg h2,if_neg h1,if_neg h1,if_neg h2,h r s hr hs]
theorem Ag5 {A:Nat->Nat->Int} {j k:Nat} (hk:k≠j + 1):det k (swA A j)=det k A:=by
 rcases Nat.lt_or_ge (j + 1) k with h | h
 ·have e1:det k (swA A j)= -det k (fun r s=>A (tau j r) s):=AX8 (F:=fun r s=>A (tau j r) s) h
  have e2:det k (fun r s=>A (tau j r) s)= -det k A:=by
    rw [<- AM3 (fun r s=>A (tau j r) s),<- AM3 A]
    exact AX8 (F:=trF A) h
  rw [e1,e2];omega
 ·refine ADc fun r s hr hs=>?_;unfold swA tau;rw [if_neg (by omega),if_neg (by omega),if_neg (by omega),if_neg (by omega)]
theorem Adk {A:Nat->Nat->Int} {j:Nat}:det (j + 1) (swA A j)=Mn j A (j + 1) (j + 1):=by
 unfold Mn;refine ADc fun r s hr hs=>?_
 have e:∀ r,r < j + 1->tau j r=bro j (j + 1) r:=fun r hr=>by
   unfold tau bro
   by_cases h:r < j
   · rw [if_neg (by omega),if_neg (by omega),if_pos h]
   · rw [if_pos (by omega),if_neg h]
 unfold swA;rw [e r hr,e s hs]
theorem Arj {n j:Nat} {A:Nat->Nat->Int} (hj:j + 1 < n) (h:AKa n A):AKa n (swA A j):=fun r s hr hs=>by
  have e:∀ r,r < n->tau j r < n:=fun r hr=>by unfold tau;split <;> (try split) <;> omega
  exact h _ _ (e r hr) (e s hs)
theorem sq_nonneg (x:Int):0<=x * x:=by
 rcases Int.le_total 0 x with h | h
 ·exact Int.mul_nonneg h h
 ·exact Int.mul_nonneg_of_nonpos_of_nonpos h h
theorem Ag6 {x y:Int} (hy:0<=y) (h:x * x<=y * y): -y<=x/\x<=y:=by
 constructor
 ·rcases Int.lt_or_le x (-y) with h1 | h1
  ·have h2:0 < (-x - y) * (-x + y):=Int.mul_pos (by omega) (by omega);have e:(-x - y) * (-x + y)=x * x - y * y:=by grind
   omega
  ·exact h1
 ·rcases Int.lt_or_le y x with h1 | h1
  ·have h2:0 < (x - y) * (x + y):=Int.mul_pos (by omega) (by omega);have e:(x - y) * (x + y)=x * x - y * y:=by grind
   omega
  ·exact h1
theorem ASd {x y:Int} (h1: -y<=x) (h2:x<=y):x * x<=y * y:=by
 have h3:0<=(y - x) * (y + x):=Int.mul_nonneg (by omega) (by omega);have e:(y - x) * (y + x)=y * y - x * x:=by grind
 omega
def SzF (A:Nat->Nat->Int) (i j:Nat):Prop:= -(det (j + 1) A)<=2 * Mn j A i j/\2 * Mn j A i j<=det (j + 1) A
def LvF (A:Nat->Nat->Int) (j:Nat):Prop:=3 * (det (j + 1) A * det (j + 1) A)<=4 * (det j A * det (j + 2) A + Mn j A (j + 1) j * Mn j A (j + 1) j)
def Afr (A:Nat->Nat->Int) (i:Nat) (K:Int):Prop:= ∀ l,l < i-> -(K * det (l + 1) A)<=Mn l A i l/\Mn l A i l<=K * det (l + 1) A
theorem AZs {n i:Nat} {A:Nat->Nat->Int} {Dm p q:Int} (hs:AKa n A) (hp:ALr n A) (hi:i < n) (hD:∀ k,k<=n->det k A<=Dm) (p0:0<=p) (q0:0<=q) (hl:∀ l,l < i->q * (Mn l A i l * Mn l A i l)<=p * (det (l + 1) A * det (l + 1) A)):∀ d l:Nat,l + d=i->q * Mn l A i i<=(q + d * p) * (Dm * det l A):=by
  have hD0:1<=Dm:=by
    have:=hD 0 (by omega);simpa [det] using this
  have hDl:∀ l k,l<=n->k<=n->det k A<=Dm * det l A:=fun l k h1 h2=>by
    have:=hp l h1;have h3:=hD k h2;have h4:Dm * 1<=Dm * det l A:=Int.mul_le_mul_of_nonneg_left (by omega) (by omega);omega
  intro d;induction d with
  | zero=>
    intro l h;obtain rfl:l=i:=by omega
    rw [AK7];have h1:=Int.mul_le_mul_of_nonneg_left (hDl l (l + 1) (by omega) (by omega)) q0;simpa using h1
  | succ d ih=>
    intro l h;have h1:=ih (l + 1) (by omega);have h2:=Abb hs hp (show l < n by omega) hi;have h3:=hl l (by omega);have h4:=hp l (by omega);have h5:=hp (l + 1) (by omega);have h6:=Int.mul_le_mul_of_nonneg_left h1 (Int.le_of_lt h4)
    have h7:det (l + 1) A * (q * Mn l A i i)=q * (Mn l A i l * Mn l A i l) + det l A * (q * Mn (l + 1) A i i):=by
      have e1:det (l + 1) A * (q * Mn l A i i)=q * (det (l + 1) A * Mn l A i i):=by grind
      rw [e1,h2];grind
    have h8:=Int.mul_le_mul_of_nonneg_left (hDl l (l + 1) (by omega) (by omega)) p0;have h9:=Int.mul_le_mul_of_nonneg_left h8 (Int.le_of_lt h5);have e2:det (l + 1) A * (p * det (l + 1) A)=p * (det (l + 1) A * det (l + 1) A):=by grind
    have h10:det (l + 1) A * (q * Mn l A i i)<=det (l + 1) A * ((q + ((d + 1:Nat):Int) * p) * (Dm * det l A)):=by
      have e3:det (l + 1) A * ((q + ((d + 1:Nat):Int) * p) * (Dm * det l A))=det (l + 1) A * (p * (Dm * det l A)) + det l A * ((q + (d:Int) * p) * (Dm * det (l + 1) A)):=by
        rw [Int.natCast_add,Int.natCast_one];grind
      rw [e3];omega
    exact Int.le_of_mul_le_mul_left h10 h5
theorem Adm {n i:Nat} {A:Nat->Nat->Int} {Dm:Int} (hn:n<=8) (hs:AKa n A) (hp:ALr n A) (hi:i < n) (hD:∀ k,k<=n->det k A<=Dm) (hz:∀ l,l < i->SzF A i l):A i i<=3 * Dm:=by
 have h:=AZs hs hp hi hD (p:=1) (q:=4) (by omega) (by omega) (fun l hl=>by
   have:=ASd (hz l hl).1 (hz l hl).2
   have e:2 * Mn l A i l * (2 * Mn l A i l)=4 * (Mn l A i l * Mn l A i l):=by grind
   omega) i 0 (by omega)
 rw [ANf] at h
 have Aa:1<=Dm:=by
   have:=hD 0 (by omega);simpa [det] using this
 have h2:(4 + (i:Int) * 1) * (Dm * det 0 A)<=12 * Dm:=by
   have:(4 + (i:Int) * 1) * Dm<=12 * Dm:=Int.mul_le_mul_of_nonneg_right (by omega) (by omega)
   simpa [det] using this
 omega
theorem Aiy {n i:Nat} {A:Nat->Nat->Int} {Dm:Int} (hs:AKa n A) (hp:ALr n A) (hi:i < n) (hD:∀ k,k<=n->det k A<=Dm) (hA:A i i<=3 * Dm):Afr A i (2 * Dm):=by
 intro l hl
 have Ad:1<=Dm:=by
   have:=hD 0 (by omega);simpa [det] using this
 have h1:=AZq hs hp (show l<=n by omega) hi (show l < n by omega);rw [AK7] at h1;have h2:=Aqb hs hp hi l (by omega);have h3:=hp l (by omega);have h4:=hp (l + 1) (by omega)
 have h5:det l A * A i i<=Dm * (3 * Dm):=by
   have a1:=Int.mul_le_mul_of_nonneg_left hA (Int.le_of_lt h3)
   have a2:=Int.mul_le_mul_of_nonneg_right (hD l (by omega)) (show (0:Int)<=3 * Dm by omega)
   omega
 have h6:Mn l A i i * det (l + 1) A<=Dm * (3 * Dm) * det (l + 1) A:=Int.mul_le_mul_of_nonneg_right (by omega) (by omega);have h7:Dm * (3 * Dm) * (det (l + 1) A * 1)<=Dm * (3 * Dm) * (det (l + 1) A * det (l + 1) A):=Int.mul_le_mul_of_nonneg_left (Int.mul_le_mul_of_nonneg_left (by omega) (by omega)) (Int.mul_nonneg (by omega) (by omega));have h8:0<=Dm * Dm * (det (l + 1) A * det (l + 1) A):=Int.mul_nonneg (sq_nonneg _) (sq_nonneg _);have h9:2 * Dm * det (l + 1) A * (2 * Dm * det (l + 1) A)=Dm * (3 * Dm) * (det (l + 1) A * det (l + 1) A) + Dm * Dm * (det (l + 1) A * det (l + 1) A):=by grind
 rw [Int.mul_one] at h7;exact Ag6 (Int.mul_nonneg (by omega) (by omega)) (by omega)
theorem Adn {A:Nat->Nat->Int} {i:Nat} {K K':Int} (hp:∀ l,l<=i->0 < det l A) (hK:K<=K') (h:Afr A i K):Afr A i K':=fun l hl=>by
  have h1:=h l hl
  have h2:=hp (l + 1) (by omega)
  have h3:=Int.mul_le_mul_of_nonneg_right hK (Int.le_of_lt h2)
  omega
theorem Ado {a d:Int} (hd:0 < d): -d<=2 * (a + -((2 * a + d) / (2 * d)) * d)/\2 * (a + -((2 * a + d) / (2 * d)) * d)<=d:=by
  have h1:=Int.mul_ediv_add_emod (2 * a + d) (2 * d);have h2:=Int.emod_nonneg (2 * a + d) (show 2 * d≠0 by omega);have h3:=Int.emod_lt_of_pos (2 * a + d) (show 0 < 2 * d by omega);generalize (2 * a + d) / (2 * d)=q at *
  generalize (2 * a + d) % (2 * d)=r at *
  have e:2 * (a + -q * d)=2 * a - 2 * d * q:=by grind
  omega
theorem Aox {a d K:Int} (hd:0 < d) (h1: -(K * d)<=a) (h2:a<=K * d): -K<= -((2 * a + d) / (2 * d))/\ -((2 * a + d) / (2 * d))<=K:=by
 have h:=Ado (a:=a) hd;generalize -((2 * a + d) / (2 * d))=c at *;constructor
 ·rcases Int.lt_or_le c (-K) with h3 | h3
  ·have h4:(c + K + 1) * d<=0:=by
     have:=Int.mul_nonneg (show 0<= -(c + K + 1) by omega) (Int.le_of_lt hd)
     have e: -(c + K + 1) * d= -((c + K + 1) * d):=by grind
     omega
   have e:(c + K + 1) * d=c * d + K * d + d:=by grind
   omega
  ·exact h3
 ·rcases Int.lt_or_le K c with h3 | h3
  ·have h4:=Int.mul_nonneg (show 0<=c - K - 1 by omega) (Int.le_of_lt hd);have e:(c - K - 1) * d=c * d - K * d - d:=by grind
   omega
  ·exact h3
theorem Ag7 {A:Nat->Nat->Int} {i j l:Nat} {c:Int} (hij:j < i) (hl:l < i):Mn l (AUs A i j c) i l=Mn l A i l + c * Mn l A j l:=by
 rw [Al8 hij (by omega) (Nat.le_refl _),if_pos ⟨by omega,rfl⟩,if_neg (fun h:l<=i/\l=i=>by omega)];omega
theorem AZt {A:Nat->Nat->Int} {i j l r:Nat} {c:Int} (hij:j < i) (hr:r < i) (hl:l<=r):Mn l (AUs A i j c) r l=Mn l A r l:=by
 rw [Al8 hij hl (Nat.le_refl _),if_neg (fun h:l<=i/\r=i=>by omega),if_neg (fun h:l<=i/\l=i=>by omega)];omega
theorem Al9 {A:Nat->Nat->Int} {i j:Nat} {K c:Int} (hij:j < i) (hp:∀ l,l<=i->0 < det l A) (hK:0<=K) (h:Afr A i K) (hz:∀ l,l < j->SzF A j l) (Ab: -K<=c) (Ac:c<=K):Afr (AUs A i j c) i (2 * K):=by
 intro l hl;rw [ANg hij,Ag7 hij hl];have h1:=h l hl;have h2:=hp (l + 1) (by omega)
 have hm: -(det (l + 1) A)<=Mn l A j l/\Mn l A j l<=det (l + 1) A:=by
   rcases Nat.lt_trichotomy l j with h3 | h3 | h3
   · have:=hz l h3;unfold SzF at this;omega
   · subst h3;rw [AK7];omega
   · rw [Afq A l h3];omega
 have h3: -(K * det (l + 1) A)<=c * Mn l A j l/\c * Mn l A j l<=K * det (l + 1) A:=by
   refine Ag6 (Int.mul_nonneg hK (Int.le_of_lt h2)) ?_
   have a1:=ASd Ab Ac
   have a2:=ASd hm.1 hm.2
   have a3:c * c * (Mn l A j l * Mn l A j l)<=K * K * (det (l + 1) A * det (l + 1) A):=Int.mul_le_mul a1 a2 (sq_nonneg _) (sq_nonneg _)
   have e1:c * Mn l A j l * (c * Mn l A j l)=c * c * (Mn l A j l * Mn l A j l):=by grind
   have e2:K * det (l + 1) A * (K * det (l + 1) A)=K * K * (det (l + 1) A * det (l + 1) A):=by grind
   omega
 have e:2 * K * det (l + 1) A=K * det (l + 1) A + K * det (l + 1) A:=by grind
 omega
theorem Ama {A:Nat->Nat->Int} {i j k:Nat} {c:Int} (hk:k≠i):AUs A i j c k k=A k k:=by
 rw [AWs,if_neg hk,if_neg hk]
structure Abd (n:Nat) (Dm:Int) (A:Nat->Nat->Int) (i t:Nat):Prop where
  sym:AKa n A
  pos:ALr n A
  dm:∀ k,k<=n->det k A<=Dm
  hi:i < n
  ht:t<=i
  rows:∀ k,k < n->k≠i->A k k<=3 * Dm
  row:t=0->A i i<=3 * Dm
  lamb:Afr A i (2 ^ t * (2 * Dm))
  pre:∀ r l,l < r->r < i->SzF A r l
  prei:∀ l,l < i->i<=l + t->SzF A i l
  lov:∀ r,r + 1 < i->LvF A r
theorem AX9 {n:Nat} {Dm:Int} {A:Nat->Nat->Int} (hn:0 < n) (hs:AKa n A) (hp:ALr n A) (hD:∀ k,k<=n->det k A<=Dm) (hr:∀ k,k < n->A k k<=3 * Dm):Abd n Dm A 0 0:=
  ⟨hs,hp,hD,hn,Nat.le_refl _,fun k hk _=>hr k hk,fun _=>hr 0 hn,fun l hl=>by omega,fun r l h1 h2=>by omega,fun l hl=>by omega,fun r hr=>by omega⟩
theorem Amb {n i t:Nat} {Dm:Int} {A:Nat->Nat->Int} (h:Abd n Dm A i t):1<=Dm:=by
 have:=h.dm 0 (by omega);simpa [det] using this
theorem AS1 {n i t:Nat} {Dm:Int} {A:Nat->Nat->Int} (hn:n<=8) (h:Abd n Dm A i t) (hz:∀ l,l < i->SzF A i l):∀ k,k < n->A k k<=3 * Dm:=fun k hk=>by
  by_cases e:k=i
  · subst e;exact Adm hn h.sym h.pos h.hi h.dm hz
  · exact h.rows k hk e
theorem AUt (t:Nat):(0:Int) < 2 ^ t:=Int.pow_pos (by omega)
theorem AWt {s t:Nat} (h:s<=t):(2:Int) ^ s<=2 ^ t:=by
 have:=Nat.pow_le_pow_right (show 0 < 2 by omega) h;have e:∀ k:Nat,(2:Int) ^ k=((2 ^ k:Nat):Int):=fun k=>by simp
 rw [e,e];omega
theorem Aiz {n i t i' j:Nat} {Dm:Int} {A:Nat->Nat->Int} (hn:n<=8) (h:Abd n Dm A i t) (hi':i' < n) (hj:j < i') (hbad: ¬ SzF A i' j)
    (hz:∀ r l,l < r->r < i'->SzF A r l) (hzi:∀ l,l < i'->j < l->SzF A i' l) (hl:∀ r,r + 1 < i'->LvF A r):
    Abd n Dm (AUs A i' j (-((2 * Mn j A i' j + det (j + 1) A) / (2 * det (j + 1) A)))) i' (i' - j)/\i * 16 + t < i' * 16 + (i' - j):=by
  have hD1:=Amb h
  have hlt:i < i'∨i=i'/\t < i' - j:=by
    rcases Nat.lt_trichotomy i i' with h1 | h1 | h1
    · exact .inl h1
    · refine .inr ⟨h1,?_⟩
      rcases Nat.lt_or_ge t (i' - j) with h2 | h2
      · exact h2
      · subst h1;exact absurd (h.prei j hj (by omega)) hbad
    · exact absurd (h.pre i' j hj h1) hbad
  have hrows:∀ k,k < n->k≠i'->A k k<=3 * Dm:=fun k hk hne=>by
    rcases hlt with h1 | h1
    · exact AS1 hn h (fun l hl=>hz i l hl h1) k hk
    · exact h.rows k hk (by omega)
  have hK0:0<=2 ^ (i' - j - 1) * (2 * Dm):=Int.mul_nonneg (Int.le_of_lt (AUt _)) (by omega);have hp':∀ l,l<=i'->0 < det l A:=fun l hl=>h.pos l (by omega)
  have hlam:Afr A i' (2 ^ (i' - j - 1) * (2 * Dm)):=by
    rcases hlt with h1 | h1
    · refine Adn hp' ?_ (Aiy h.sym h.pos hi' h.dm (AS1 hn h (fun l hl=>hz i l hl h1) i' hi'));have:=Int.mul_le_mul_of_nonneg_right (AWt (Nat.zero_le (i' - j - 1))) (show (0:Int)<=2 * Dm by omega);simpa using this
    · obtain ⟨rfl,h1⟩:=h1;exact Adn hp' (Int.mul_le_mul_of_nonneg_right (AWt (by omega)) (by omega)) h.lamb
  have hd:=hp' (j + 1) (by omega);obtain ⟨c1,c2⟩:=Aox hd (hlam j hj).1 (hlam j hj).2;have hrem:=Ado (a:=Mn j A i' j) hd;generalize hc: -((2 * Mn j A i' j + det (j + 1) A) / (2 * det (j + 1) A))=c at *
  refine ⟨⟨Aow hi' (by omega) h.sym,fun k hk=>by rw [ANg hj];exact h.pos k hk,fun k hk=>by rw [ANg hj];exact h.dm k hk,hi',by omega,fun k hk hne=>by rw [Ama hne];exact hrows k hk hne,fun h0=>by omega,?_,fun r l h1 h2=>?_,fun l h1 h2=>?_,fun r hr=>?_⟩,by have:=h.ht;have:=h.hi;omega⟩
  · have:=Al9 hj hp' hK0 hlam (fun l hl=>hz j l hl hj) c1 c2
    have e:2 * (2 ^ (i' - j - 1) * (2 * Dm))=2 ^ (i' - j) * (2 * Dm):=by
      rw [show i' - j=i' - j - 1 + 1 by omega,Int.pow_succ];simp only [Nat.add_sub_cancel];grind
    rwa [e] at this
  · unfold SzF;rw [ANg hj,AZt hj h2 (by omega)];exact hz r l h1 h2
  · unfold SzF;rw [ANg hj,Ag7 hj h1]
    rcases Nat.lt_or_ge j l with h3 | h3
    · rw [Afq A l h3,Int.mul_zero,Int.add_zero];exact hzi l h1 h3
    · obtain rfl:l=j:=by omega
      rw [AK7];exact hrem
  · unfold LvF;rw [ANg hj,ANg hj,ANg hj,AZt hj (by omega) (by omega)];exact hl r hr
def Adp (n:Nat) (A:Nat->Nat->Int):Int:=psum (fun k=>det k A) (n + 1)
theorem Aoy {f g:Nat->Int} {n k:Nat} (hk:k < n) (hne:∀ l,l≠k->f l=g l) (h:f k < g k):psum f n < psum g n:=by
 induction n with
 | zero=>omega
 | succ n ih=>
   simp only [psum]
   rcases Nat.lt_or_ge k n with h1 | h1
   · have:=ih h1;rw [hne n (by omega)];omega
   · obtain rfl:k=n:=by omega
     rw [ABu (g:=g) fun i hi=>hne i (by omega)];omega
theorem Ai0 {n i t j:Nat} {Dm:Int} {A:Nat->Nat->Int} (hn:n<=8) (h:Abd n Dm A i t) (hj:j + 1 < n) (hbad: ¬ LvF A j)
    (hz:∀ r l,l < r->r<=j + 1->SzF A r l) (hl:∀ r,r < j->LvF A r):
    Abd n Dm (swA A j) 0 0/\Adp n (swA A j) < Adp n A:=by
  have hij:i<=j + 1:=by
    rcases Nat.lt_or_ge (j + 1) i with h1 | h1
    · exact absurd (h.lov j h1) hbad
    · exact h1
  have hrest:=AS1 hn h (fun l hl=>hz i l hl hij);have h1:=Abb h.sym h.pos (show j < n by omega) hj;have p0:=h.pos j (by omega);have p1:=h.pos (j + 1) (by omega);have p2:=h.pos (j + 2) (by omega);rw [show Mn (j + 1) A (j + 1) (j + 1)=det (j + 2) A from AK7 _ _] at h1
  have hlt:Mn j A (j + 1) (j + 1) < det (j + 1) A:=by
    unfold LvF at hbad
    have h2:det (j + 1) A * (4 * Mn j A (j + 1) (j + 1)) < det (j + 1) A * (3 * det (j + 1) A):=by
      have e1:det (j + 1) A * (4 * Mn j A (j + 1) (j + 1))=4 * (det (j + 1) A * Mn j A (j + 1) (j + 1)):=by grind
      have e2:det (j + 1) A * (3 * det (j + 1) A)=3 * (det (j + 1) A * det (j + 1) A):=by grind
      omega
    have:=Int.lt_of_mul_lt_mul_left h2 (Int.le_of_lt p1);omega
  have hpos:0 < Mn j A (j + 1) (j + 1):=by
    have h3:=sq_nonneg (Mn j A (j + 1) j);have h4:=Int.mul_pos p0 p2;exact Int.pos_of_mul_pos_right (a:=det (j + 1) A) (by omega) p1
  have hdet:∀ k,det k (swA A j)=if k=j + 1 then Mn j A (j + 1) (j + 1) else det k A:=fun k=>by
    by_cases e:k=j + 1
    · subst e;rw [if_pos rfl,Adk]
    · rw [if_neg e,Ag5 e]
  refine ⟨AX9 (by omega) (Arj hj h.sym) (fun k hk=>?_) (fun k hk=>?_) (fun k hk=>?_),?_⟩
  · rw [hdet];split
    · exact hpos
    · exact h.pos k hk
  · rw [hdet];split
    · have:=h.dm (j + 1) (by omega);omega
    · exact h.dm k hk
  · have e:tau j k < n:=by unfold tau;split <;> (try split) <;> omega
    exact hrest _ e
  · exact Aoy (k:=j + 1) (by omega) (fun l hl=>by rw [hdet,if_neg hl]) (by rw [hdet,if_pos rfl];exact hlt)
end Go.QF
namespace Go.Proofs.YtiegjkmfpcgjjaaGreatDoor
open Go Go.QF
theorem Abe (k m:Nat):ADu k (fun a=>((a:Nat):Int)) ++ [((m:Nat):Int)]=ADu (k + 1) fun a=>((bro k m a:Nat):Int):=by
 rw [<- AM0,ACv (g:=fun a=>((bro k m a:Nat):Int)) fun a ha=>by unfold bro;rw [if_pos ha]];unfold bro;rw [if_neg (by omega)]
theorem Ag8 {fuel k m:Nat} (hk:k<=100) (hf:100 < fuel):AFk fuel (k:Int) (m:Int)=some (ADu (k + 1) fun a=>((bro k m a:Nat):Int)):=by
 apply ok_eq;unfold AFk;refine ABm (ACy (fun i s=>s=(ADu i (fun a=>((a:Nat):Int)),((i:Nat):Int))/\i<=k) k (Q:=(· =ADu k fun a=>((a:Nat):Int))) ⟨rfl,Nat.zero_le _⟩ (by omega) fun i s hi hI=>?_) fun e he=>?_
 ·obtain ⟨rfl,hik⟩:=hI;unfold AI4;dsimp only;refine ACk (fun h=>AEo (by rw [AC8];omega) (ABj ⟨by omega,?_,by omega⟩)) (fun h=>ABj ?_)
  ·rw [wk (by omega),AM0 i fun a=>((a:Nat):Int)];simp
  ·obtain rfl:i=k:=by omega
   rfl
 ·subst he;refine AEo (by rw [AC8];omega) (ABj ?_);exact Abe k m
theorem AYa {fuel n i j:Nat} {F:Nat->Nat->Int} (hn:n<=8) (hi:i < n) (hj:j < n) (hb:∀ i j,i < n->j < n->(F i j).natAbs<=AGr) (hf:100 < fuel):AEj fuel (tab n n F) (i:Int) (j:Int)=some (Mn j F i j):=by
 apply ok_eq;unfold AEj;refine ABm (ACy (fun q s=>s=(ADu q (fun a=>((a:Nat):Int)),ADu q (fun a=>((a:Nat):Int)),((q:Nat):Int))/\q<=j) j (Q:=(· =(ADu j (fun a=>((a:Nat):Int)),ADu j fun a=>((a:Nat):Int)))) ⟨rfl,Nat.zero_le _⟩ (by omega) fun q s hq hI=>?_) fun e he=>?_
 ·obtain ⟨rfl,hqj⟩:=hI;unfold AIt;dsimp only;refine ACk (fun h=>AEo (by rw [AC8];omega) (AEo (by rw [AC8];omega) (ABj ⟨by omega,?_,by omega⟩))) (fun h=>ABj ?_)
  ·rw [wk (by omega),AM0 q fun a=>((a:Nat):Int)];simp
  ·obtain rfl:q=j:=by omega
   rfl
 ·subst he;dsimp only;refine AEo (by rw [AC8];omega) (AEo (by rw [AC8];omega) ?_);rw [Abe,Abe];refine ABm (AC7 (Adi (n:=n) (by omega) (by omega) hf (fun a ha=>AMl (by omega) hi) (fun a ha=>AMl (by omega) hj))) fun x hx=>?_;subst hx;refine ABm (AC7 (AUo (by omega) (fun a b ha Aa=>hb _ _ (AMl (by omega) hi) (AMl (by omega) hj)) (by omega))) fun y hy=>ABj hy
theorem AS2 {fuel n k:Nat} {F:Nat->Nat->Int} (hk:k<=n) (hn:n<=8):ADn fuel (ADu n fun a=>det (a + 1) F) (k:Int)=some (det k F):=by
 apply ok_eq;unfold ADn;refine ACk (fun h=>?_) (fun h=>?_)
 ·obtain rfl:k=0:=by omega
  exact ⟨1,rfl,by simp [det]⟩
 ·obtain ⟨q,rfl⟩:∃ q,k=q + 1:=⟨k - 1,by omega⟩;refine AB4 (n:=q) (ACj (by omega)) (by rw [wk (by omega)];omega) (ABj rfl)
theorem AZu {fuel n:Nat} {F:Nat->Nat->Int} (Aa:1<=n) (hn:n<=8) (hb:∀ i j,i < n->j < n->(F i j).natAbs<=AGr) (hf:100 < fuel):AEz fuel (tab n n F)=some (ADu n fun a=>det (a + 1) F,true):=by
 apply ok_eq;unfold AEz;refine ABm (AC7 (AZp Aa (by omega) hf)) fun x hx=>?_;subst hx;dsimp only;refine ACk (fun h=>absurd h (by decide)) (fun _=>ABm (ACy (fun k s=>s=(ADu k (fun a=>det (a + 1) F),((k:Nat):Int))/\k<=n) n (Q:=(· =ADu n fun a=>det (a + 1) F)) ⟨rfl,Nat.zero_le _⟩ (by omega) fun k s hk hI=>?_) fun e he=>ABj (by rw [he]));obtain ⟨rfl,hkn⟩:=hI;unfold AIg;dsimp only;refine ACk (fun h=>?_) (fun h=>ABj ?_)
 ·have hk':k < n:=by omega
  refine ABm (AC7 (Ag8 (by omega) hf)) fun r hr=>?_;subst hr;refine ABm (AC7 (Ag8 (by omega) hf)) fun c hc=>?_;subst hc;refine ABm (AC7 (Adi (n:=n) (by omega) (by omega) hf (fun a ha=>AMl (by omega) hk') (fun a ha=>AMl (by omega) hk'))) fun x hx=>?_;subst hx;refine ABm (AC7 (AUo (by omega) (fun a b ha Ab=>hb _ _ (AMl (by omega) hk') (AMl (by omega) hk')) (by omega))) fun y hy=>?_;subst hy;refine AEo (by rw [AC8];omega) (ABj ⟨by omega,?_,by omega⟩);rw [show (det (k + 1) fun a b=>F (bro k k a) (bro k k b))=det (k + 1) F from AK7 k F,wk (by omega),AM0 k fun a=>det (a + 1) F];simp
 ·obtain rfl:k=n:=by omega
  rfl
theorem Abf (a b:Int):AP9 a b<=0↔a<=b:=by unfold AP9;split <;> (try split) <;> omega
theorem AYb {n j i l:Nat} {F:Nat->Nat->Int} (hn:n<=8) (hi:i < n) (hl:l < n) (hj:j < n) (hb:∀ i j,i < n->j < n->(F i j).natAbs<=AGr):(Mn j F i l).natAbs<=dBd AGr 9:=by
 have e:Mn j F i l=Mn j (fun a b=>if a < n/\b < n then F a b else 0) i l:=by
   unfold Mn
   refine ADc fun a b ha Aa=>?_
   dsimp only
   rw [if_pos ⟨AMl (by omega) hi,AMl (by omega) hl⟩]
 rw [e];refine Nat.le_trans (Afj (m:=AGr) (fun a b=>?_) i l) (AOv (by decide) (by omega));split
 ·next h=>exact hb a b h.1 h.2
 ·exact Nat.zero_le _
theorem ASe {n k:Nat} {F:Nat->Nat->Int} (hn:n<=8) (hk:k<=n) (hb:∀ i j,i < n->j < n->(F i j).natAbs<=AGr):(det k F).natAbs<=dBd AGr 9:=by
 rcases Nat.eq_zero_or_pos k with h | h
 ·subst h;simp only [det];decide
 ·obtain ⟨q,rfl⟩:∃ q,k=q + 1:=⟨k - 1,by omega⟩;rw [<- AK7 q F];exact AYb hn (by omega) (by omega) (by omega) hb
theorem Aoz {fuel n i j:Nat} {F:Nat->Nat->Int} (hn:n<=8) (hi:i < n) (hj:j < n) (hb:∀ i j,i < n->j < n->(F i j).natAbs<=AGr) (hf:100 < fuel):AGh fuel (tab n n F) (ADu n fun a=>det (a + 1) F) (i:Int) (j:Int)=some (decide (2 * ((Mn j F i j).natAbs:Int)<=det (j + 1) F)):=by
 apply ok_eq;unfold AGh;refine ABm (Q:=(· =2)) ⟨2,if_pos (by omega),rfl⟩ fun two h2=>?_;subst h2;refine ABm (AC7 (AYa hn hi hj hb hf)) fun x hx=>?_;subst hx;refine ABm (AC7 (a:=((Mn j F i j).natAbs:Int)) rfl) fun y hy=>?_;subst hy;refine ABm (AC7 (AVq Ag3 (show (2:Int).natAbs<=dBd AGr (8 + 1) by decide) (by rw [Int.natAbs_natCast];exact AYb hn hi hj hj hb))) fun w hw=>?_;subst hw;rw [wk (by omega)];refine ABm (AC7 (AS2 (k:=j + 1) (by omega) hn)) fun m hm=>?_;subst hm;refine ABm (AC7 (a:=AP9 (2 * ((Mn j F i j).natAbs:Int)) (det (j + 1) F)) rfl) fun c hc=>ABj ?_;subst hc;exact decide_eq_decide.2 (Abf _ _)
theorem Ag9 {F:Nat->Nat->Int} {i j:Nat}:2 * ((Mn j F i j).natAbs:Int)<=det (j + 1) F↔SzF F i j:=by
 unfold SzF;omega
theorem psum_abs {f g:Nat->Int} {D:Nat}:∀ (n:Nat),(∀ a,a < n->(f a).natAbs<=D/\(g a).natAbs<=D)->(psum (fun a=>f a * g a) n).natAbs<=n * (D * D)
  | 0,_=>by simp [psum]
  | n + 1,h=>by
    have h1:=psum_abs n fun a ha=>h a (by omega)
    have h2:=Nat.mul_le_mul (h n (by omega)).1 (h n (by omega)).2
    rw [<- Int.natAbs_mul] at h2
    have e:(n + 1) * (D * D)=n * (D * D) + D * D:=by rw [Nat.add_mul,Nat.one_mul]
    simp only [psum]
    omega
theorem As1 {fuel n D:Nat} {f g:Nat->Int} (hn:n<=16) (hD:16 * (D * D) < AEt) (hb:∀ a,a < n->(f a).natAbs<=D/\(g a).natAbs<=D) (hf:100 < fuel):AHo fuel (ADu n f) (ADu n g)=some (psum (fun a=>f a * g a) n):=by
 apply ok_eq;unfold AHo;refine ABm (ACy (fun k s=>s=(((k:Nat):Int),psum (fun a=>f a * g a) k)/\k<=n) n (Q:=(· =psum (fun a=>f a * g a) n)) ⟨rfl,Nat.zero_le _⟩ (by omega) fun k s hk hI=>?_) fun e he=>ABj he;obtain ⟨rfl,hkn⟩:=hI;unfold AJu;dsimp only;rw [AC8];refine ACk (fun h=>?_) (fun h=>ABj ?_)
 ·have hk':k < n:=by omega
  have h1:=psum_abs k fun a ha=>hb a (by omega);have h2:=Nat.mul_le_mul (hb k hk').1 (hb k hk').2;have h3:k * (D * D)<=16 * (D * D):=Nat.mul_le_mul_right _ (by omega);have h4:1 * (D * D)<=16 * (D * D):=Nat.mul_le_mul_right _ (by omega);refine AB4 (ACj hk') rfl (AB4 (ACj hk') rfl (ABm (Q:=(· =f k * g k)) ⟨_,if_pos (by omega),rfl⟩ fun x hx=>?_));subst hx;refine ABm (Q:=(· =psum (fun a=>f a * g a) k + f k * g k)) ⟨_,if_pos ⟨by omega,by rw [Int.natAbs_mul];omega⟩,rfl⟩ fun y hy=>ABj ⟨by omega,?_,by omega⟩;subst hy;rw [wk (by omega)];simp [psum]
 ·obtain rfl:k=n:=by omega
  rfl
theorem AYc {fuel n:Nat} {F:Nat->Nat->Int} (hn:1<=n) (Ad:n<=16) (hf:100 < fuel):AD0 fuel (tab n n F)=some ((n:Int),(n:Int),true):=by
 apply ok_eq;unfold AD0;rw [AC9];refine ABm (Q:=fun ex=>match ex with | .inl _=>False | .inr _=>True) (ACk (fun h=>by omega) fun h=>ACk (fun h2=>by omega) fun h2=>ABj trivial) fun ex hex=>?_
 cases ex with
 | inl e=>exact hex.elim
 | inr u=>
   dsimp only
   refine ABm (ACy (fun i (s:Int)=>s=i) n (Q:=fun ex=>match ex with | .inl _=>False | .inr _=>True) rfl (by omega) fun i s hi hI=>?_) fun ex hex=>?_
   · subst hI
     unfold AGw
     rw [AC9]
     refine ACk (fun h=>AB4 (ADb (by omega)) rfl ?_) fun h=>ABj trivial
     rw [AC8]
     refine ACk (fun h2=>by omega) fun h2=>ACk (fun h3=>by omega) fun h3=>AB4 (n:=0) (ADb (by omega)) rfl (ACk (fun h4=>?_) fun h4=>ABj ⟨by omega,wk (by omega)⟩)
     rw [AC8] at h4;omega
   · cases ex with
     | inl e=>exact hex.elim
     | inr u=>exact AB4 (n:=0) (ADb (by omega)) rfl (ABj (by rw [AC8]))
theorem AMm {r c:Nat} {F G:Nat->Nat->Int} (h:∀ i j,i < r->j < c->F i j=G i j):tab r c F=tab r c G:=by
 rw [ANk,ANk];exact ACv fun i hi=>ACv fun j hj=>h i j hi hj
def trS (F:Nat->Nat->Int) (i j r c:Nat):Int:=if c < i∨c=i/\r < j then F c r else 0
theorem Aha {fuel n:Nat} {F:Nat->Nat->Int} (hn:1<=n) (Ad:n<=16) (hf:100 < fuel):AEg fuel (tab n n F)=some (tab n n (trF F),true):=by
 apply ok_eq;unfold AEg;refine ABm (AC7 (AYc hn Ad hf)) fun x hx=>?_;subst hx;dsimp only;refine ACk (fun h=>absurd h (by decide)) fun _=>ABm (AC7 (AWo (by omega) (by omega) (by omega))) fun O hO=>?_;subst hO;refine ABm (ACy (fun i s=>s=(((i:Nat):Int),tab n n (trS F i 0))/\i<=n) n (Q:=(· =tab n n (trF F))) ⟨?_,Nat.zero_le _⟩ (by omega) fun i s hi hI=>?_) fun e he=>ABj (by rw [he])
 ·rw [AHs n (0:Int),AHs];refine congrArg (Prod.mk (0:Int)) ?_;rw [ANk];exact ACv fun r _=>ACv fun c _=>by unfold trS;rw [if_neg (by omega)]
 ·obtain ⟨rfl,hin⟩:=hI;unfold AHe;dsimp only;rw [AC9];refine ACk (fun h=>?_) (fun h=>ABj ?_)
  ·have hi':i < n:=by omega
   refine AB4 (ADb hi') rfl (ABm (ACy (fun j s=>s=(((j:Nat):Int),tab n n (trS F i j))/\j<=n) n (Q:=(· =tab n n (trS F (i + 1) 0))) ⟨rfl,Nat.zero_le _⟩ (by omega) fun j s hj hJ=>?_) fun e he=>ABj ⟨by omega,by rw [wk (by omega),he];simp,by omega⟩);obtain ⟨rfl,hjn⟩:=hJ;unfold AHd;dsimp only;rw [AC8];refine ACk (fun h2=>?_) (fun h2=>ABj ?_)
   ·have hj':j < n:=by omega
    refine AB4 (ADb hj') rfl (AB4 (ADb hi') rfl (AB4 (ACj hj') rfl (ABm (AC7 (a:=F i j) rfl) fun y hy=>AB4 (ACj hi') rfl (ABj ⟨by omega,?_,by omega⟩))));subst hy;rw [wk (by omega),Aa4];refine Prod.ext (by dsimp only;omega) (AMm fun r c hr hc=>?_);rw [ACr];unfold trS;by_cases h3:r=j
    ·rw [if_pos h3];by_cases h4:c=i
     ·rw [if_pos h4,if_pos (by omega),h3,h4]
     ·rw [if_neg h4];by_cases h5:c < i
      ·rw [if_pos (by omega),if_pos (by omega),h3]
      ·rw [if_neg (by omega),if_neg (by omega)]
    ·rw [if_neg h3];by_cases h5:c < i∨c=i/\r < j
     ·rw [if_pos h5,if_pos (by omega)]
     ·rw [if_neg h5,if_neg (by omega)]
   ·refine AMm fun r c hr hc=>?_;unfold trS;by_cases h5:c < i + 1
    ·rw [if_pos (by omega),if_pos (by omega)]
    ·rw [if_neg (by omega),if_neg (by omega)]
  ·refine AMm fun r c hr hc=>?_;unfold trS trF;rw [if_pos (by omega)]
def muS (H:Nat->Nat->Int) (i j r c:Nat):Int:=if r < i∨r=i/\c < j then H r c else 0
theorem Amc {fuel n D:Nat} {F G:Nat->Nat->Int} (hn:1<=n) (Ab:n<=16) (hD:16 * (D * D) < AEt) (hF:∀ i j,i < n->j < n->(F i j).natAbs<=D) (hG:∀ i j,i < n->j < n->(G i j).natAbs<=D) (hf:100 < fuel):AHp fuel (tab n n F) (tab n n G)=some (tab n n (AE0 n F G),true):=by
 apply ok_eq;unfold AHp;refine ABm (AC7 (AYc hn Ab hf)) fun x hx=>?_;subst hx;dsimp only;refine ABm (AC7 (Aha hn Ab hf)) fun x hx=>?_;subst hx;dsimp only;rw [AC9,AC9];refine ABm (Q:=fun ex=>match ex with | .inl _=>False | .inr _=>True) (ACk (fun h=>absurd h (by decide)) fun _=>ACk (fun h=>absurd h (by decide)) fun _=>ACk (fun h=>absurd rfl h) fun _=>ABj trivial) fun ex hex=>?_
 cases ex with
 | inl e=>exact hex.elim
 | inr u=>
   dsimp only
   rw [AC9]
   refine ABm (AC7 (AWo (by omega) (by omega) (by omega))) fun O hO=>?_
   subst hO
   refine ABm (ACy (fun i s=>s=(((i:Nat):Int),tab n n (muS (AE0 n F G) i 0))/\i<=n) n (Q:=(· =tab n n (AE0 n F G))) ⟨?_,Nat.zero_le _⟩ (by omega) fun i s hi hI=>?_) fun e he=>ABj (by rw [he])
   · rw [AHs n (0:Int),AHs]
     refine congrArg (Prod.mk (0:Int)) ?_
     rw [ANk]
     exact ACv fun r _=>ACv fun c _=>by unfold muS;rw [if_neg (by omega)]
   · obtain ⟨rfl,hin⟩:=hI
     unfold AJw
     dsimp only
     rw [AC9]
     refine ACk (fun h=>?_) (fun h=>ABj ?_)
     · have hi':i < n:=by omega
       refine ABm (ACy (fun j s=>s=(((j:Nat):Int),tab n n (muS (AE0 n F G) i j))/\j<=n) n (Q:=(· =tab n n (muS (AE0 n F G) (i + 1) 0))) ⟨rfl,Nat.zero_le _⟩ (by omega) fun j s hj hJ=>?_) fun e he=>ABj ⟨by omega,by rw [wk (by omega),he];simp,by omega⟩
       obtain ⟨rfl,hjn⟩:=hJ
       unfold AJv
       dsimp only
       rw [AC9]
       refine ACk (fun h2=>?_) (fun h2=>ABj ?_)
       · have hj':j < n:=by omega
         refine AB4 (ADb hi') rfl (AB4 (ADb hi') rfl (AB4 (ADb hj') rfl (ABm (AC7 (As1 (D:=D) Ab hD (fun a ha=>⟨hF i a hi' ha,hG a j ha hj'⟩) hf)) fun y hy=>AB4 (ACj hj') rfl (ABj ⟨by omega,?_,by omega⟩))))
         subst hy
         rw [wk (by omega),Aa4]
         refine Prod.ext (by dsimp only;omega) (AMm fun r c hr hc=>?_)
         rw [ACr]
         unfold muS
         by_cases h3:r=i
         · rw [if_pos h3]
           by_cases h4:c=j
           · rw [if_pos h4,if_pos (by omega),h3,h4];rfl
           · rw [if_neg h4]
             by_cases h5:c < j
             · rw [if_pos (by omega),if_pos (by omega),h3]
             · rw [if_neg (by omega),if_neg (by omega)]
         · rw [if_neg h3]
           by_cases h5:r < i
           · rw [if_pos (by omega),if_pos (by omega)]
           · rw [if_neg (by omega),if_neg (by omega)]
       · refine AMm fun r c hr hc=>?_
         unfold muS
         by_cases h5:r < i + 1
         · rw [if_pos (by omega),if_pos (by omega)]
         · rw [if_neg (by omega),if_neg (by omega)]
     · refine AMm fun r c hr hc=>?_
       unfold muS
       rw [if_pos (by omega)]
theorem Ahb (a b:Int):AP9 a b=0↔a=b:=by unfold AP9;split <;> (try split) <;> omega
theorem Aqc {fuel n:Nat} {F:Nat->Nat->Int} (Ae:n<=16) (hf:100 < fuel):Ok (AEh fuel (tab n n F)) fun r=>r=true↔AKa n F:=by
 unfold AEh;refine ABm (ACy (fun i s=>s=((i:Nat):Int)/\i<=n/\ ∀ a b,b < a->a < i->F a b=F b a) n (Q:=fun ex=>match ex with | .inl e=>e=false/\¬ AKa n F | .inr _=>AKa n F) ⟨rfl,Nat.zero_le _,fun a b h1 h2=>by omega⟩ (by omega) fun i s hi hI=>?_) fun ex hex=>?_
 ·obtain ⟨rfl,hin,hs⟩:=hI;unfold AHg;rw [AC9];refine ACk (fun h=>?_) (fun h=>ABj ?_)
  ·have hi':i < n:=by omega
   refine ABm (ACy (fun j s=>s=((j:Nat):Int)/\j<=i/\ ∀ b,b < j->F i b=F b i) i (Q:=fun ex=>match ex with | .inl e=>e=false/\¬ AKa n F | .inr _=> ∀ b,b < i->F i b=F b i) ⟨rfl,Nat.zero_le _,fun b h1=>by omega⟩ (by omega) fun j s hj hJ=>?_) fun ex hex=>?_
   ·obtain ⟨rfl,hji,hb⟩:=hJ;unfold AHf;refine ACk (fun h2=>?_) (fun h2=>ABj ?_)
    ·have hj':j < i:=by omega
     refine AB4 (ADb hi') rfl (AB4 (ACj (by omega)) rfl (AB4 (ADb (by omega)) rfl (AB4 (ACj hi') rfl (ABm (AC7 (a:=AP9 (F i j) (F j i)) rfl) fun c hc=>?_))));subst hc;refine ACk (fun h3=>ABj ⟨rfl,fun h4=>h3 ((Ahb _ _).2 (h4 i j hi' (by omega)))⟩) (fun h3=>ABj ⟨by omega,by rw [wk (by omega)];simp,by omega,fun b Af=>?_⟩);rcases Nat.lt_or_ge b j with h4 | h4
     ·exact hb b h4
     ·obtain rfl:b=j:=by omega
      exact (Ahb _ _).1 (Classical.not_not.1 h3)
    ·obtain rfl:j=i:=by omega
     exact hb
   ·cases ex with
    | inl e=>exact ABj hex
    | inr u=>exact ABj ⟨by omega,by rw [wk (by omega)];simp,by omega,fun a b h1 h2=>by
        rcases Nat.lt_or_ge a i with h4 | h4
        · exact hs a b h1 h4
        · obtain rfl:a=i:=by omega
          exact hex b h1⟩
  ·obtain rfl:i=n:=by omega
   intro a b ha hb;rcases Nat.lt_trichotomy a b with h1 | h1 | h1
   ·exact (hs b a h1 hb).symm
   ·rw [h1]
   ·exact hs a b h1 ha
 ·cases ex with
  | inl e=>obtain ⟨rfl,h⟩:=hex;exact ABj ⟨fun h1=>Bool.noConfusion h1,fun h1=>absurd h1 h⟩
  | inr u=>exact ABj ⟨fun _=>hex,fun _=>rfl⟩
theorem Ao0 {fuel n D:Nat} {F G:Nat->Nat->Int} (hn:1<=n) (Aa:n<=16) (hD:16 * (D * D) < AEt) (hF:∀ i j,i < n->j < n->(F i j).natAbs<=D) (hG:∀ i j,i < n->j < n->(G i j).natAbs<=D) (hH:∀ i j,i < n->j < n->(AE0 n (trF G) F i j).natAbs<=D) (hf:100 < fuel):AEi fuel (tab n n F) (tab n n G)=some (tab n n (AE0 n (AE0 n (trF G) F) G)):=by
 apply ok_eq;unfold AEi;refine ABm (AC7 (Aha hn Aa hf)) fun x hx=>?_;subst hx;dsimp only
 have pr:∀ {F G:Nat->Nat->Int},(∀ i j,i < n->j < n->(F i j).natAbs<=D)->(∀ i j,i < n->j < n->(G i j).natAbs<=D)->Ok (ADm fuel (tab n n F) (tab n n G)) (· =tab n n (AE0 n F G)):=fun {F G} hF hG=>by
   unfold ADm
   refine ABm (AC7 (Amc hn Aa hD hF hG hf)) fun x hx=>?_
   subst hx
   exact ABj rfl
 refine ABm (pr (fun i j hi hj=>hG j i hj hi) hF) fun x hx=>?_;subst hx;refine ABm (pr hH hG) fun y hy=>ABj hy
theorem Ahc (a:Int):AG6 a<=0↔a<=0:=by unfold AG6;split <;> (try split) <;> omega
theorem As2 {fuel n:Nat} {F:Nat->Nat->Int} (Ae:1<=n) (hn:n<=8) (hb:∀ i j,i < n->j < n->(F i j).natAbs<=AGr) (hf:100 < fuel):Ok (AFl fuel (tab n n F)) fun r=>r=true↔AKa n F/\ALr n F:=by
 unfold AFl;refine ABm (AC7 (AZu Ae hn hb hf)) fun x hx=>?_;subst hx;dsimp only;refine ABm (Q:=fun ex=>match ex with | .inl e=>e=false/\¬ AKa n F | .inr _=>AKa n F) (ACk (fun h=>absurd h (by decide)) fun _=>ABm (Aqc (by omega) hf) fun r hr=>?_) fun ex hex=>?_
 ·refine ACk (fun h=>ABj ⟨rfl,fun h1=>?_⟩) (fun h=>ABj (hr.1 ?_))
  ·rw [hr.2 h1] at h;exact absurd h (by decide)
  ·cases r
   ·exact absurd rfl h
   ·rfl
 ·cases ex with
  | inl e=>obtain ⟨rfl,h⟩:=hex;exact ABj ⟨fun h1=>Bool.noConfusion h1,fun h1=>absurd h1.1 h⟩
  | inr u=>
    dsimp only at hex ⊢
    have h0:∀ k,k<=0->0 < det k F:=fun k hk=>by
      obtain rfl:k=0:=by omega
      simp [det]
    refine ABm (ACy (fun i s=>s=((i:Nat):Int)/\i<=n/\ ∀ k,k<=i->0 < det k F) n (Q:=fun ex=>match ex with | .inl e=>e=false/\¬ ALr n F | .inr _=>ALr n F) ⟨rfl,Nat.zero_le _,h0⟩ (by omega) fun i s hi hI=>?_) fun ex Ad=>?_
    · obtain ⟨rfl,hin,hp⟩:=hI
      unfold AH5
      rw [AC8]
      refine ACk (fun h=>?_) (fun h=>ABj ?_)
      · have hi':i < n:=by omega
        refine AB4 (ACj hi') rfl (ABm (AC7 (a:=AG6 (det (i + 1) F)) rfl) fun c hc=>?_)
        subst hc
        refine ACk (fun h3=>ABj ⟨rfl,fun h4=>?_⟩) (fun h3=>ABj ⟨by omega,by rw [wk (by omega)];simp,by omega,fun k hk=>?_⟩)
        · have:=h4 (i + 1) (by omega);have:=(Ahc _).1 h3;omega
        · rcases Nat.lt_or_ge k (i + 1) with h4 | h4
          · exact hp k (by omega)
          · obtain rfl:k=i + 1:=by omega
            rw [Ahc] at h3;omega
      · obtain rfl:i=n:=by omega
        exact hp
    · cases ex with
      | inl e=>obtain ⟨rfl,h⟩:=Ad;exact ABj ⟨fun h1=>Bool.noConfusion h1,fun h1=>absurd h1.2 h⟩
      | inr u=>exact ABj ⟨fun _=>⟨hex,Ad⟩,fun _=>rfl⟩
theorem AYd {fuel n:Nat} {F:Nat->Nat->Int} (Ac:1<=n) (hn:n<=8) (hb:∀ i j,i < n->j < n->(F i j).natAbs<=AGr) (hf:100 < fuel):Ok (AEq fuel (tab n n F)) fun r=>r=0↔AKa n F/\ALr n F:=by
 unfold AEq;refine ABm (AC7 (AZp Ac (by omega) hf)) fun x hx=>?_;subst hx;dsimp only;refine ACk (fun h=>absurd h (by decide)) fun _=>ACk (fun h=>by omega) fun _=>ABm (Aqc (by omega) hf) fun r hr=>ACk (fun h=>ABj ⟨fun h1=>by omega,fun h1=>?_⟩) fun h=>ABm (As2 Ac hn hb hf) fun q hq=>ACk (fun h2=>ABj ⟨fun h1=>by omega,fun h1=>?_⟩) fun h2=>ABj ⟨fun _=>hq.1 ?_,fun _=>rfl⟩
 ·rw [hr.2 h1.1] at h;exact absurd h (by decide)
 ·rw [hq.2 h1] at h2;exact absurd h2 (by decide)
 ·cases q
  ·exact absurd rfl h2
  ·rfl
theorem Ao1 {fuel n:Nat} {F:Nat->Nat->Int} (hn:n<=8) (hb:∀ i j,i < n->j < n->(F i j).natAbs<=AGr) (hf:100 < fuel):AGi fuel (tab n n F)=some (decide (det n F<=10000)):=by
 apply ok_eq;unfold AGi;refine ABm (AC7 (AUo hn hb (by omega))) fun x hx=>?_;subst hx;refine ABm (Q:=(· =10000)) ⟨10000,if_pos (by omega),rfl⟩ fun y hy=>?_;subst hy;refine ABm (AC7 (a:=AP9 (det n F) 10000) rfl) fun c hc=>ABj ?_;subst hc;exact decide_eq_decide.2 (Abf _ _)
def idS (i r c:Nat):Int:=if r=c/\r < i then 1 else 0
theorem Ahd {fuel n:Nat} (hn:1<=n) (Ae:n<=16) (hf:100 < fuel):AEp fuel (n:Int)=some (tab n n dl,true):=by
 apply ok_eq;unfold AEp;refine ABm (Q:=fun ex=>match ex with | .inl _=>False | .inr _=>True) (ACk (fun h=>by omega) fun _=>ACk (fun h=>by omega) fun _=>ABj trivial) fun ex hex=>?_
 cases ex with
 | inl e=>exact hex.elim
 | inr u=>
   dsimp only
   refine ABm (AC7 (AWo (by omega) (by omega) (by omega))) fun O hO=>?_
   have Ab:O=tab n n (idS 0):=by
     rw [hO,AHs n (0:Int),AHs,ANk]
     exact ACv fun r _=>ACv fun c _=>by unfold idS;rw [if_neg (by omega)]
   have hlen:O.length=n:=by rw [Ab,AC9]
   refine ABm (ACy (fun i s=>s=(((i:Nat):Int),tab n n (idS i))/\i<=n) n (Q:=(· =tab n n dl)) ⟨by rw [Ab];rfl,Nat.zero_le _⟩ (by omega) fun i s hi hI=>?_) fun e he=>ABj (by rw [he])
   obtain ⟨rfl,hin⟩:=hI
   unfold AH4
   dsimp only
   rw [hlen]
   refine ACk (fun h=>?_) (fun h=>ABj ?_)
   · have hi':i < n:=by omega
     refine AB4 (ADb hi') rfl (ABm (Q:=(· =1)) ⟨1,if_pos (by omega),rfl⟩ fun y hy=>AB4 (ACj hi') rfl (ABj ⟨by omega,?_,by omega⟩))
     subst hy
     rw [wk (by omega),Aa4]
     refine Prod.ext (by dsimp only;omega) (AMm fun r c hr hc=>?_)
     rw [ACr]
     unfold idS
     by_cases h3:r=i
     · rw [if_pos h3]
       by_cases h4:c=i
       · rw [if_pos h4,if_pos (by omega)]
       · rw [if_neg h4,if_neg (by omega),if_neg (by omega)]
     · rw [if_neg h3]
       by_cases h5:r=c/\r < i
       · rw [if_pos h5,if_pos (by omega)]
       · rw [if_neg h5,if_neg (by omega)]
   · refine AMm fun r c hr hc=>?_
     unfold idS dl
     by_cases h5:r=c
     · rw [if_pos (by omega),if_pos h5]
     · rw [if_neg (by omega),if_neg h5]
def toS (n:Nat) (F:Nat->Nat->Int) (i:Nat):List (List Int):=ADu n fun r=>if r < i then ADu n (F r) else []
def toR (n:Nat) (F:Nat->Nat->Int) (i j:Nat):List (List Int):=ADu n fun r=>if r < i then ADu n (F r) else if r=i then ADu n (fun c=>if c < j then F i c else 0) else []
theorem As4 {fuel n:Nat} {F:Nat->Nat->Int} (hn:1<=n) (Ae:n<=16) (hb:∀ i j,i < n->j < n->(F i j).natAbs < 9223372036854775808) (hf:100 < fuel):AF4 fuel (tab n n F)=some (tab n n F,true):=by
 apply ok_eq;unfold AF4;refine ABm (AC7 (AYc hn Ae hf)) fun x hx=>?_;subst hx;dsimp only;refine ACk (fun h=>absurd h (by decide)) fun _=>AEo (by omega) (ABm (ACy (fun i s=>s=(((i:Nat):Int),toS n F i)/\i<=n) n (Q:=fun ex=>match ex with | .inl _=>False | .inr e=>e=tab n n F) ⟨?_,Nat.zero_le _⟩ (by omega) fun i s hi hI=>?_) fun ex hex=>?_)
 ·rw [Int.toNat_natCast,AHs];exact congrArg (Prod.mk (0:Int)) (ACv fun r _=>by rw [if_neg (by omega)])
 ·obtain ⟨rfl,hin⟩:=hI;unfold AIs;dsimp only;rw [List.length_replicate,Int.toNat_natCast];refine ACk (fun h=>AEo (by omega) ?_) (fun h=>ABj ?_)
  ·have hi':i < n:=by omega
   have e0:sI (toS n F i) (i:Int) (List.replicate n (0:Int))=toR n F i 0:=by
     rw [ADv];unfold toS;rw [AE5]
     refine ACv fun r _=>?_
     by_cases h1:r=i
     · rw [if_pos h1,if_neg (by omega),if_pos h1,AHs];exact ACv fun c _=>by rw [if_neg (by omega)]
     · rw [if_neg h1]
       by_cases h2:r < i
       · rw [if_pos h2,if_pos h2]
       · rw [if_neg h2,if_neg h2,if_neg h1]
   refine AB4 (n:=i) (ACj hi') rfl ?_;rw [e0];refine AB4 (n:=i) (ACj hi') rfl ?_;rw [if_neg (by omega),if_pos rfl];refine ABm (ACy (fun j s=>s=(((j:Nat):Int),toR n F i j)/\j<=n) n (Q:=fun ex=>match ex with | .inl _=>False | .inr e=>e=toS n F (i + 1)) ⟨rfl,Nat.zero_le _⟩ (by omega) fun j s hj hJ=>?_) fun ex hex=>?_
   ·obtain ⟨rfl,hjn⟩:=hJ;unfold AIr;dsimp only;rw [AC8];refine ACk (fun h2=>?_) (fun h2=>ABj ?_)
    ·have hj':j < n:=by omega
     refine AB4 (ADb hi') rfl (AB4 (ACj hj') rfl (ABm (Q:=(· =(F i j,true))) ⟨_,if_pos (hb i j hi' hj'),rfl⟩ fun y hy=>?_));subst hy;dsimp only;refine ACk (fun h=>absurd h (by decide)) fun _=>AB4 (n:=i) (ACj hi') rfl ?_;rw [if_neg (by omega),if_pos rfl];refine AB4 (ACj hj') rfl (ABj ⟨by omega,?_,by omega⟩);rw [wk (by omega),ADv,ADv];refine Prod.ext (by dsimp only;omega) ?_;dsimp only;unfold toR;rw [AE5,AE5];refine ACv fun r _=>?_;by_cases h1:r=i
     ·rw [if_pos h1,if_neg (by omega),if_pos h1];refine ACv fun c _=>?_;by_cases h3:c=j
      ·rw [if_pos h3,if_pos (by omega),h3]
      ·rw [if_neg h3];by_cases h4:c < j
       ·rw [if_pos h4,if_pos (by omega)]
       ·rw [if_neg h4,if_neg (by omega)]
     ·rw [if_neg h1,if_neg h1,if_neg h1]
    ·refine ACv fun r _=>?_;by_cases h1:r < i
     ·rw [if_pos h1,if_pos (by omega)]
     ·rw [if_neg h1];by_cases h3:r=i
      ·rw [if_pos h3,if_pos (by omega),h3];exact ACv fun c hc=>by rw [if_pos (by omega)]
      ·rw [if_neg h3,if_neg (by omega)]
   ·cases ex with
    | inl e=>exact hex.elim
    | inr e=>exact ABj ⟨by omega,by rw [wk (by omega),hex];simp,by omega⟩
  ·refine ACv fun r hr=>?_;rw [if_pos (by omega)];rfl
 ·cases ex with
  | inl e=>exact hex.elim
  | inr e=>exact ABj (by rw [hex])
theorem Amd {S E:Type} {body:S->Option (S ⊕ E)} {Q:E->Prop} (I:S->Prop) (μ:S->Nat) (hs:∀ s,I s->Ok (body s) fun r=>match r with | .inl s'=>I s'/\μ s' < μ s | .inr e=>Q e):∀ {fuel:Nat} {s0:S},I s0->μ s0 < fuel->Ok (iter body fuel s0) Q:=by
  intro fuel;induction fuel with
  | zero=>intro s0 _ h;omega
  | succ f ih=>
    intro s0 h0 hf;obtain ⟨r,hr,hq⟩:=hs s0 h0;cases r with
    | inl s'=>
      obtain ⟨e,he,hQ⟩:=ih hq.1 (by have:=hq.2;omega);exact ⟨e,by simp [iter,hr,he],hQ⟩
    | inr e=>exact ⟨e,by simp [iter,hr],hq⟩
theorem Abg (a:Int):AG6 a=0↔a=0:=by unfold AG6;split <;> (try split) <;> omega
theorem Ahe (a:Int):AG6 a < 0↔a < 0:=by unfold AG6;split <;> (try split) <;> omega
theorem Ame {fuel:Nat} {a b:Int} (ha:a.natAbs < AEt) (hb:b.natAbs < AEt) (h0:b≠0):AD5 fuel a b=some (a / b):=by
 apply ok_eq;unfold AD5;refine ABm (AC7 (a:=(a / b,a % b,true)) (if_pos ⟨ha,hb,h0⟩)) fun x hx=>?_;subst hx;exact ABj rfl
theorem As5 {fuel:Nat} {a b:Int} (ha:a.natAbs < AEt) (hb:b.natAbs < AEt) (h0:b≠0):AHn fuel a b=some (a % b):=by
 apply ok_eq;unfold AHn;refine ABm (AC7 (a:=(a / b,a % b,true)) (if_pos ⟨ha,hb,h0⟩)) fun x hx=>?_;subst hx;exact ABj rfl
theorem As6 {fuel:Nat} {a b:Int} (ha:a.natAbs < AEt) (hb:b.natAbs < AEt) (h0:b≠0) (hf:AEt < fuel):Ok (AHr fuel a b) fun g=>0 < g/\g ∣ a/\g ∣ b:=by
 unfold AHr;refine ABm (AC7 (a:=(a.natAbs:Int)) rfl) fun x hx=>ABm (AC7 (a:=(b.natAbs:Int)) rfl) fun y hy=>?_;subst hx;subst hy;refine ABm (Amd (fun s:Int × Int=>0<=s.1/\0<=s.2/\s.1.natAbs < AEt/\s.2.natAbs < AEt/\(0 < s.1∨0 < s.2)/\ ∀ d:Int,d ∣ s.1->d ∣ s.2->d ∣ a/\d ∣ b) (fun s=>s.2.natAbs) (Q:=fun g=>0 < g/\g ∣ a/\g ∣ b) (fun s hs=>?_) ⟨by omega,by omega,by omega,by omega,.inr (by omega),fun d h1 h2=>⟨Int.dvd_natAbs.1 h1,Int.dvd_natAbs.1 h2⟩⟩ (by dsimp only;omega)) fun g hg=>ABj hg;obtain ⟨u,v⟩:=s;obtain ⟨h1,h2,h3,h4,h5,h6⟩:=hs;unfold AJx;dsimp only at h1 h2 h3 h4 h5 h6 ⊢;refine ABm (AC7 (a:=AG6 v) rfl) fun s hs=>?_;subst hs;refine ACk (fun hv=>?_) fun hv=>ABj ?_
 ·have Ab:v≠0:=fun h=>hv ((Abg v).2 h);refine ABm (AC7 (As5 h3 h4 Ab)) fun r hr=>ABj ?_;subst hr;have e1:=Int.emod_nonneg u Ab;have e2:=Int.emod_lt_of_pos u (show 0 < v by omega);refine ⟨⟨h2,e1,h4,by omega,.inl (by omega),fun d d1 d2=>h6 d ?_ d1⟩,by omega⟩;have:=Int.dvd_add d2 (Int.dvd_trans d1 ⟨u / v,rfl⟩);rwa [Int.emod_add_mul_ediv] at this
 ·have Ab:v=0:=by
    rcases Decidable.em (AG6 v=0) with h | h
    · exact (Abg v).1 h
    · exact absurd h hv
  subst Ab;exact ⟨by omega,h6 u (Int.dvd_refl u) ⟨0,by simp⟩⟩
def FrE (n d n' d':Int):Prop:=0 < d'/\n' * d=n * d'/\n'.natAbs<=n.natAbs/\d'.natAbs<=d.natAbs
theorem Aqd {fuel:Nat} {a b:Int} (ha:a.natAbs < AEt) (hb:b.natAbs < AEt) (h0:b≠0) (hf:AEt < fuel):Ok (AF9 fuel a b) fun r=>r.2=true/\FrE a b r.1.1 r.1.2:=by
 unfold AF9;refine ABm (AC7 (a:=AG6 b) rfl) fun s hs=>?_;subst hs;refine ACk (fun h=>absurd ((Abg b).1 h) h0) fun _=>ABm (Q:=fun e:Int × Int=>0 < e.2/\e.1 * b=a * e.2/\e.1.natAbs=a.natAbs/\e.2.natAbs=b.natAbs) (ABm (AC7 (a:=AG6 b) rfl) fun s hs=>?_) fun e he=>?_
 ·subst hs;refine ACk (fun h=>?_) fun h=>ABj ⟨?_,rfl,rfl,rfl⟩
  ·have:=(Ahe b).1 h;refine ABm (AC7 (a:= -a) rfl) fun x hx=>ABm (AC7 (a:= -b) rfl) fun y hy=>ABj ?_;subst hx;subst hy;exact ⟨by dsimp only;omega,by dsimp only;grind,by dsimp only;omega,by dsimp only;omega⟩
  ·have: ¬ b < 0:=fun h2=>h ((Ahe b).2 h2);dsimp only;omega
 ·obtain ⟨u,v⟩:=e;obtain ⟨h1,h2,h3,h4⟩:=he;dsimp only at h1 h2 h3 h4 ⊢;refine ABm (As6 (a:=u) (b:=v) (by omega) (by omega) (by omega) hf) fun g hg=>?_;obtain ⟨g1,⟨u',rfl⟩,⟨v',rfl⟩⟩:=hg;have gn:g≠0:=by omega
  have hv':0 < v':=Int.pos_of_mul_pos_right h1 g1;have e1:(g * u').natAbs=g.natAbs * u'.natAbs:=Int.natAbs_mul _ _;have e2:(g * v').natAbs=g.natAbs * v'.natAbs:=Int.natAbs_mul _ _;have g2:1<=g.natAbs:=by omega
  have m1:=Nat.mul_le_mul_right u'.natAbs g2;have m2:=Nat.mul_le_mul_right v'.natAbs g2;have m3:=Nat.mul_le_mul_left g.natAbs (show 1<=v'.natAbs by omega);refine ABm (AC7 (Ame (by omega) (by omega) gn)) fun x hx=>ABm (AC7 (Ame (by omega) (by omega) gn)) fun y hy=>ABj ⟨rfl,?_⟩;subst hx;subst hy;rw [Int.mul_ediv_cancel_left _ gn,Int.mul_ediv_cancel_left _ gn];refine ⟨hv',?_,by dsimp only;omega,by dsimp only;omega⟩;have:g * (u' * b)=g * (a * v'):=by grind
  exact Int.eq_of_mul_eq_mul_left gn this
theorem Abh {fuel:Nat} {a b:Int} (ha:a.natAbs < AEt) (hb:b.natAbs < AEt) (h0:b≠0) (hf:AEt < fuel):Ok (ADq fuel a b) fun r=>FrE a b r.1 r.2:=by
 unfold ADq;refine ABm (Aqd ha hb h0 hf) fun r hr=>?_;obtain ⟨⟨x,y⟩,c⟩:=r;obtain ⟨h1,h2⟩:=hr;dsimp only at h1 h2 ⊢;subst h1;exact ACk (fun h=>absurd h (by decide)) fun _=>ABj h2
theorem Arm {fuel:Nat} {a b:Int} (ha:a.natAbs < AEt) (hb:b.natAbs < AEt) (h0:b≠0) (hf:AEt < fuel):Ok (AFm fuel a b) fun r=>FrE a b r.1 r.2:=by
 unfold AFm;exact ABm (Abh ha hb h0 hf) fun r hr=>ABj hr
theorem Adq {N D N' D':Int} (hD:0 < D) (hD':0 < D') (h:N * D'=N' * D):N / D=N' / D':=by
 rw [<- Int.mul_ediv_mul_of_pos_left N D hD',h,Int.mul_comm D D',Int.mul_ediv_mul_of_pos_left N' D' hD]
theorem Arn {fuel:Nat} {a b:Int} (hab:4 * (a.natAbs + b.natAbs) < AEt) (h0:0 < b) (hf:AEt < fuel):Ok (AFw fuel a b) fun r=>r=(2 * a + b) / (2 * b):=by
 have Ag:(1:Int).natAbs < AEt:=by
   have:(1:Int).natAbs=1:=rfl
   omega
 have Ah:(2:Int).natAbs < AEt:=by
   have:(2:Int).natAbs=2:=rfl
   omega
 unfold AFw;refine ABm (Q:=(· =(1,2))) ?_ fun hh he=>?_
 ·unfold AI0;exact ABm (Q:=(· =1)) ⟨1,if_pos (by omega),rfl⟩ fun x hx=>ABm (Q:=(· =2)) ⟨2,if_pos (by omega),rfl⟩ fun y hy=>ABj (by rw [hx,hy])
 subst he;dsimp only;refine ABm (Q:=fun r=>0 < r.2/\r.1 * (2 * b)=(2 * a + b) * r.2/\r.1.natAbs < AEt/\r.2.natAbs < AEt) ?_ fun r hr=>?_
 ·unfold AI9;refine ABm (Abh (by omega) (by omega) (by omega) hf) fun x hx=>ABm (Abh (a:=1) (b:=2) Ag Ah (by omega) hf) fun y hy=>?_;obtain ⟨x1,x2⟩:=x;obtain ⟨y1,y2⟩:=y;obtain ⟨a1,a2,a3,a4⟩:=hx;obtain ⟨b1,b2,b3,b4⟩:=hy;dsimp only at *;obtain rfl:y2=2:=by omega
  obtain rfl:y1=1:=by omega
  refine ABm (AC7 (a:=x1 * 2) (if_pos (by have:(2:Int).natAbs=2:=rfl;rw [this];omega))) fun u hu=>ABm (AC7 (a:=1 * x2) (if_pos (by have:(1:Int).natAbs=1:=rfl;rw [this];omega))) fun v hv=>?_;subst hu;subst hv;refine ABm (AC7 (a:=x1 * 2 + 1 * x2) (if_pos ⟨by omega,by omega⟩)) fun w hw=>ABm (AC7 (a:=x2 * 2) (if_pos (by have:(2:Int).natAbs=2:=rfl;rw [this];omega))) fun z hz=>?_;subst hw;subst hz;refine ABm (Aqd (by omega) (by omega) (by omega) hf) fun r hr=>ABj ?_;obtain ⟨⟨r1,r2⟩,c⟩:=r;obtain ⟨-,c1,c2,c3,c4⟩:=hr;dsimp only at *;refine ⟨c1,?_,by omega,by omega⟩;have h1:x2 * (r1 * (2 * b))=x2 * ((2 * a + b) * r2):=by grind
  exact Int.eq_of_mul_eq_mul_left (show x2≠0 by omega) h1
 ·obtain ⟨r1,r2⟩:=r;obtain ⟨h1,h2,h3,h4⟩:=hr;dsimp only at *;unfold AIh;refine ABm (Q:=fun r=>r=(2 * a + b) / (2 * b)) (ABm (Abh h3 h4 (by omega) hf) fun x hx=>?_) fun z hz=>ABj hz;obtain ⟨x1,x2⟩:=x;obtain ⟨a1,a2,a3,a4⟩:=hx;dsimp only at *;refine ABm (AC7 (Ame (by omega) (by omega) (by omega))) fun q hq=>ABj ?_;subst hq;refine Adq a1 (by omega) ?_;have h5:r2 * (x1 * (2 * b))=r2 * ((2 * a + b) * x2):=by grind
  exact Int.eq_of_mul_eq_mul_left (show r2≠0 by omega) h5
end Go.Proofs.YtiegjkmfpcgjjaaGreatDoor
namespace Go.Proofs.YtiegjkmfpcgjjaaGreatDoor
open Go Go.QF
set_option maxRecDepth 100000
theorem Adr:64 * (dBd AGr (8 + 1) * dBd AGr (8 + 1)) < AEt:=by decide
theorem Amf {fuel n j:Nat} {F:Nat->Nat->Int} (hn:n<=8) (hj:j + 1 < n) (hb:∀ i j,i < n->j < n->(F i j).natAbs<=AGr) (hf:100 < fuel):Ok (AF5 fuel (tab n n F) (ADu n fun a=>det (a + 1) F) ((j + 1:Nat):Int)) fun r=>r=true↔LvF F j:=by
 show Ok _ fun r:Bool=>r=true↔3 * (det (j + 1) F * det (j + 1) F)<=4 * (det j F * det (j + 2) F + Mn j F (j + 1) j * Mn j F (j + 1) j);unfold AF5;have w1:w64 (((j + 1:Nat):Int) - 1)=(j:Int):=by rw [wk (by omega)];omega
 have w2:w64 (((j + 1:Nat):Int) + 1)=((j + 2:Nat):Int):=by rw [wk (by omega)];omega
 rw [w1,w2];have hD:=Adr;have bl:(Mn j F (j + 1) j).natAbs<=dBd AGr (8 + 1):=AYb hn (by omega) (by omega) (by omega) hb;have b0:(det j F).natAbs<=dBd AGr (8 + 1):=ASe hn (by omega) hb;have b1:(det (j + 1) F).natAbs<=dBd AGr (8 + 1):=ASe hn (by omega) hb;have b2:(det (j + 2) F).natAbs<=dBd AGr (8 + 1):=ASe hn (by omega) hb;have p1:=Nat.mul_le_mul b0 b2;have p2:=Nat.mul_le_mul bl bl;have p3:=Nat.mul_le_mul b1 b1;have e1:=Int.natAbs_mul (det j F) (det (j + 2) F);have e2:=Int.natAbs_mul (Mn j F (j + 1) j) (Mn j F (j + 1) j);have e3:=Int.natAbs_mul (det (j + 1) F) (det (j + 1) F);refine ABm (AC7 (AYa hn (by omega) (by omega) hb hf)) fun l hl=>?_;subst hl;refine ABm (Q:=(· =4)) ⟨4,if_pos (by omega),rfl⟩ fun x hx=>?_;subst hx;refine ABm (AC7 (AS2 (by omega) hn)) fun x hx=>ABm (AC7 (AS2 (by omega) hn)) fun y hy=>?_;subst hx;subst hy;refine ABm (AC7 (a:=det j F * det (j + 2) F) (if_pos (by omega))) fun x hx=>ABm (AC7 (a:=Mn j F (j + 1) j * Mn j F (j + 1) j) (if_pos (by omega))) fun y hy=>?_;subst hx;subst hy;generalize det j F * det (j + 2) F=P at *;generalize Mn j F (j + 1) j * Mn j F (j + 1) j=L at *;refine ABm (AC7 (a:=P + L) (if_pos (by omega))) fun x hx=>ABm (AC7 (a:=4 * x) (if_pos (by have:(4:Int).natAbs=4:=rfl;rw [this];omega))) fun y hy=>?_;subst hx;subst hy;refine ABm (Q:=(· =3)) ⟨3,if_pos (by omega),rfl⟩ fun x hx=>?_;subst hx;refine ABm (AC7 (AS2 (by omega) hn)) fun x hx=>ABm (AC7 (AS2 (by omega) hn)) fun y hy=>?_;subst hx;subst hy;refine ABm (AC7 (a:=det (j + 1) F * det (j + 1) F) (if_pos (by omega))) fun x hx=>?_;subst hx;generalize det (j + 1) F * det (j + 1) F=S at *;refine ABm (AC7 (a:=3 * S) (if_pos (by have:(3:Int).natAbs=3:=rfl;rw [this];omega))) fun x hx=>ABm (AC7 (a:=AP9 (4 * (P + L)) x) rfl) fun c hc=>ABj ?_;subst hx;subst hc;rw [decide_eq_true_iff];unfold AP9;split <;> (try split) <;> omega
def AQf (A:Nat->Nat->Int) (i j:Nat):Int:= -((2 * Mn j A i j + det (j + 1) A) / (2 * det (j + 1) A))
def ATx (A:Nat->Nat->Int) (i j:Nat):Nat->Nat->Int:=ADd dl j fun q=>if q=i then AQf A i j else dl j q
def AUu (A:Nat->Nat->Int) (i:Nat):Prop:= ∀ r l,l < r->r < i->SzF A r l
def AV5 (A:Nat->Nat->Int) (i:Nat):Prop:= ∀ r,r + 1 < i->LvF A r
def Amg (n:Nat) (A:Nat->Nat->Int) (r:List (List Int) × Bool):Prop:=
  (r=([],false)/\AUu A n/\AV5 A n)∨
  (∃ i j,j < i/\i < n/\¬ SzF A i j/\AUu A i/\(∀ l,l < i->j < l->SzF A i l)/\AV5 A i/\r=(tab n n (ATx A i j),true))∨
  ∃ j,j + 1 < n/\¬ LvF A j/\AUu A (j + 2)/\AV5 A (j + 1)/\r=(tab n n (AFj dl (j + 1) j),true)
theorem Aro {fuel n:Nat} {A:Nat->Nat->Int} (Ai:1<=n) (hn:n<=8) (hp:ALr n A) (hb:∀ i j,i < n->j < n->(A i j).natAbs<=AGr) (hf:AEt < fuel):Ok (AG2 fuel (tab n n A)) (Amg n A):=by
 have Ac:100 < fuel:=Nat.lt_of_le_of_lt (by decide) hf;have hD:=Adr;unfold AG2;refine ABm (AC7 (AZu Ai hn hb Ac)) fun x hx=>?_;subst hx;dsimp only;rw [AC9];refine ABm (AC7 (Ahd Ai (by omega) Ac)) fun x hx=>?_;subst hx;dsimp only;refine ABm (ACy (fun i s=>s=(((i:Nat):Int),tab n n dl)/\i<=n/\AUu A i/\AV5 A i) n (Q:=fun ex=>match ex with | .inl r=>Amg n A r | .inr _=>AUu A n/\AV5 A n) ⟨rfl,Nat.zero_le _,fun r l h1 h2=>by omega,fun r h=>by omega⟩ (by omega) fun i s hi hI=>?_) fun ex hex=>?_
 ·obtain ⟨rfl,hin,hsz,hlv⟩:=hI;unfold AJk;dsimp only;rw [AC9];refine ACk (fun h=>?_) (fun h=>ABj ?_)
  ·have hi':i < n:=by omega
   refine ABm (ACy (fun k s=>s=((i:Int) - 1 - k,tab n n dl)/\k<=i/\ ∀ l,l < i->i<=l + k->SzF A i l) i (Q:=fun ex=>match ex with | .inl r=>Amg n A r | .inr e=>e=tab n n dl/\ ∀ l,l < i->SzF A i l) ⟨by rw [wk (by omega)];simp,Nat.zero_le _,fun l h1 h2=>by omega⟩ (by omega) fun k s hk hK=>?_) fun ex hex=>?_
   ·obtain ⟨rfl,hki,hz⟩:=hK;unfold AJj;dsimp only;refine ACk (fun h2=>?_) (fun h2=>ABj ⟨rfl,fun l hl=>hz l hl (by omega)⟩);obtain ⟨j,hj⟩:∃ j:Nat,(i:Int) - 1 - k=j:=⟨i - 1 - k,by omega⟩;rw [hj];have hji:j < i:=by omega
    refine ABm (AC7 (Aoz hn hi' (by omega) hb Ac)) fun b Ag=>?_;subst Ag;refine ACk (fun h3=>?_) (fun h3=>ABj ⟨by omega,?_,by omega,fun l h4 h5=>?_⟩)
    ·have hbad: ¬ SzF A i j:=fun h=>by rw [<- Ag9] at h;simp [h] at h3
     refine AB4 (ADb (by omega)) rfl (ABm (AC7 (AYa hn hi' (by omega) hb Ac)) fun l hl=>?_);subst hl;rw [show w64 ((j:Int) + 1)=((j + 1:Nat):Int) by rw [wk (by omega)];omega];refine ABm (AC7 (AS2 (by omega) hn)) fun d hd=>?_;subst hd;have bl:(Mn j A i j).natAbs<=dBd AGr (8 + 1):=AYb hn hi' (by omega) (by omega) hb;have b1:(det (j + 1) A).natAbs<=dBd AGr (8 + 1):=ASe hn (by omega) hb;have hd:=hp (j + 1) (by omega);have hDD:dBd AGr (8 + 1)<=dBd AGr (8 + 1) * dBd AGr (8 + 1):=Nat.le_mul_of_pos_left _ (by omega);refine ABm (Arm (by omega) (by omega) (by omega) hf) fun q hq=>?_;obtain ⟨x,y⟩:=q;obtain ⟨q1,q2,q3,q4⟩:=hq;dsimp only at q1 q2 q3 q4 ⊢;refine ABm (Arn (by omega) q1 hf) fun m hm=>ABm (AC7 (a:= -m) rfl) fun c hc=>?_
     have Ap:c=AQf A i j:=by
       rw [hc,hm]
       unfold AQf
       congr 1
       refine Adq (by omega) (by omega) ?_
       grind
     clear hm hc;refine AB4 (ACj hi') rfl (ABj (.inr (.inl ⟨i,j,hji,hi',hbad,hsz,fun l h4 h5=>hz l h4 (by omega),hlv,?_⟩)));rw [ADv,ADv,AE5,Ap,show (ADu n fun q=>if q=i then AQf A i j else dl j q)=(List.range n).map fun q=>if q=i then AQf A i j else dl j q from rfl,AHl];rfl
    ·rw [wk (by omega)];refine congrArg (fun z=>(z,tab n n dl)) ?_;omega
    ·have hgood:SzF A i j:=by rw [<- Ag9];simpa using h3
     rcases Nat.lt_or_ge (l + k) i with h6 | h6
     ·obtain rfl:l=j:=by omega
      exact hgood
     ·exact hz l h4 h6
   ·cases ex with
    | inl r=>exact ABj hex
    | inr e=>
      obtain ⟨rfl,hzi⟩:=hex
      have hsz':AUu A (i + 1):=fun r l h1 h2=>by
        rcases Nat.lt_or_ge r i with h3 | h3
        · exact hsz r l h1 h3
        · obtain rfl:r=i:=by omega
          exact hzi l h1
      dsimp only
      have nx:w64 ((i:Int) + 1)=((i + 1:Nat):Int):=by rw [wk (by omega)];omega
      refine ACk (fun h4=>?_) (fun h4=>ABj ⟨by omega,by rw [nx],by omega,hsz',fun r hr=>by omega⟩)
      obtain ⟨j,rfl⟩:∃ j,i=j + 1:=⟨i - 1,by omega⟩
      refine ABm (Amf hn hi' hb Ac) fun b Ag=>?_
      refine ACk (fun h5=>?_) (fun h5=>ABj ⟨by omega,by rw [nx],by omega,hsz',fun r hr=>?_⟩)
      · have hbad: ¬ LvF A j:=fun h=>by rw [Ag.2 h] at h5;cases h5
        rw [show w64 (((j + 1:Nat):Int) - 1)=(j:Int) by rw [wk (by omega)];omega]
        refine AB4 (ADb (by omega)) rfl (AB4 (ADb hi') rfl (ABj (.inr (.inr ⟨j,hi',hbad,hsz',hlv,?_⟩))))
        rw [ADv,ADv,show ADu n (dl j)=(List.range n).map (dl j) from rfl,show ADu n (dl (j + 1))=(List.range n).map (dl (j + 1)) from rfl,AHl,AHl]
        rfl
      · have hgood:LvF A j:=Ag.1 (by simpa using h5)
        rcases Nat.lt_or_ge r j with h6 | h6
        · exact hlv r (by omega)
        · obtain rfl:r=j:=by omega
          exact hgood
  ·obtain rfl:i=n:=by omega
   exact ⟨hsz,hlv⟩
 ·cases ex with
  | inl r=>exact ABj hex
  | inr u=>exact ABj (.inl ⟨rfl,hex⟩)
end Go.Proofs.YtiegjkmfpcgjjaaGreatDoor
namespace Go.QF
open Go
theorem Ads (c:Int) (f:Nat->Int) (n:Nat):c * psum f n=psum (fun i=>c * f i) n:=(ADr c f n).symm
theorem Afs (c:Int) (f:Nat->Int) (n:Nat):psum f n * c=psum (fun i=>f i * c) n:=by
 rw [Int.mul_comm,Ads];exact ABu fun k _=>Int.mul_comm _ _
section
variable {n K:Nat} {p:Int} {e f:Nat->Nat} {a b D D' S:Nat->Nat->Int}
theorem ARe {A B C:Nat->Nat->Int} (i j:Nat):AE0 n (AE0 n A B) C i j=AE0 n A (AE0 n B C) i j:=by
 unfold AE0;rw [ABu (g:=fun k=>psum (fun l=>A i l * B l k * C k j) n) fun k _=>Afs _ _ _,AL8]
 exact ABu fun l _=>by
   rw [Ads]
   exact ABu fun k _=>by grind
end
end Go.QF
namespace Go.Proofs.YtiegjkmfpcgjjaaGreatDoor
open Go Go.QF
set_option maxRecDepth 100000
theorem Amh {S E:Type} {body:S->Option (S ⊕ E)} {Q:E->Prop} (I:Nat->S->Prop) (hs:∀ k s,I k s->Ok (body s) fun r=>match r with | .inl s'=> ∃ k',k' < k/\I k' s' | .inr e=>Q e):∀ {fuel k:Nat} {s0:S},I k s0->k < fuel->Ok (iter body fuel s0) Q:=by
  intro fuel;induction fuel with
  | zero=>intro k s0 _ h;omega
  | succ f ih=>
    intro k s0 h0 hf;obtain ⟨r,hr,hq⟩:=hs k s0 h0;cases r with
    | inl s'=>
      obtain ⟨k',h1,h2⟩:=hq;obtain ⟨e,he,hQ⟩:=ih h2 (by omega);exact ⟨e,by simp [iter,hr,he],hQ⟩
    | inr e=>exact ⟨e,by simp [iter,hr],hq⟩
theorem Adt {n i j s:Nat} {A:Nat->Nat->Int} (hj:j < i) (hi:i < n) (hs:s < n) (X:Nat->Int):psum (fun k=>X k * ATx A i j k s) n=X s + if s=i then AQf A i j * X j else 0:=by
 have h1:∀ k,X k * ATx A i j k s=X k * dl k s + (if k=j then (if s=i then AQf A i j * X j else 0) else 0):=fun k=>by
   unfold ATx
   rw [ACr]
   split
   · next h=>
     subst h
     split
     · next h2=>subst h2;unfold dl;rw [if_neg (by omega)];grind
     · simp
   · simp
 rw [ABu fun k _=>h1 k,AK0,Aa1 X hs,AM7 (a:=j) (by omega) fun k _ hk=>if_neg hk,if_pos rfl]
theorem Adu {n i j r s:Nat} {A:Nat->Nat->Int} (hj:j < i) (hi:i < n) (hr:r < n) (hs:s < n):AE0 n (AE0 n (trF (ATx A i j)) A) (ATx A i j) r s=AUs A i j (AQf A i j) r s:=by
 have h2:∀ k,AE0 n (trF (ATx A i j)) A r k=A r k + if r=i then AQf A i j * A j k else 0:=fun k=>by
   show psum (fun l=>ATx A i j l r * A l k) n=_
   rw [ABu (g:=fun l=>A l k * ATx A i j l r) fun l _=>Int.mul_comm _ _]
   exact Adt hj hi hr fun l=>A l k
 show psum (fun k=>AE0 n (trF (ATx A i j)) A r k * ATx A i j k s) n=_;rw [Adt hj hi hs fun k=>AE0 n (trF (ATx A i j)) A r k];rw [h2,h2,AWs];split <;> split <;> first | (subst_vars;grind) | grind
theorem Abi (j k s:Nat):AFj dl (j + 1) j k s=dl (tau j k) s:=by
 rw [AKe];unfold tau;split
 ·next h=>subst h;rfl
 ·split <;> rfl
theorem Ahf (j k:Nat):tau j (tau j k)=k:=by unfold tau;split <;> (try split) <;> (try split) <;> omega
theorem Arp {j k n:Nat} (hj:j + 1 < n) (hk:k < n):tau j k < n:=by unfold tau;split <;> (try split) <;> omega
theorem Ahg {n j s:Nat} (hj:j + 1 < n) (hs:s < n) (X:Nat->Int):psum (fun k=>X k * AFj dl (j + 1) j k s) n=X (tau j s):=by
 rw [AM7 (a:=tau j s) (Arp hj hs) fun k hk hne=>?_]
 ·rw [Abi,Ahf];unfold dl;rw [if_pos rfl];simp
 ·rw [Abi];unfold dl;rw [if_neg (fun h=>hne (by rw [<- h,Ahf]))];simp
theorem Ahh {n j r s:Nat} {A:Nat->Nat->Int} (hj:j + 1 < n) (hr:r < n) (hs:s < n):AE0 n (AE0 n (trF (AFj dl (j + 1) j)) A) (AFj dl (j + 1) j) r s=swA A j r s:=by
 show psum (fun k=>AE0 n (trF (AFj dl (j + 1) j)) A r k * AFj dl (j + 1) j k s) n=_;rw [Ahg hj hs fun k=>AE0 n (trF (AFj dl (j + 1) j)) A r k];show psum (fun l=>AFj dl (j + 1) j l r * A l (tau j s)) n=_;rw [ABu (g:=fun l=>A l (tau j s) * AFj dl (j + 1) j l r) fun l _=>Int.mul_comm _ _];exact Ahg hj hr fun l=>A l (tau j s)
theorem ARf {n:Nat} {A A' B B':Nat->Nat->Int} {i j:Nat} (hA:∀ k,k < n->A i k=A' i k) (hB:∀ k,k < n->B k j=B' k j):AE0 n A B i j=AE0 n A' B' i j:=ABu fun k hk=>by rw [hA k hk,hB k hk]
theorem Ao2 {n:Nat} {T U:Nat->Nat->Int} (i j:Nat):trF (AE0 n T U) i j=AE0 n (trF U) (trF T) i j:=ABu fun k _=>Int.mul_comm _ _
def Aft (n:Nat) (A0 T A:Nat->Nat->Int):Prop:= ∀ i j,i < n->j < n->A i j=AE0 n (trF T) (AE0 n A0 T) i j
theorem AZv {n:Nat} {A0 T A U B:Nat->Nat->Int} (H:Aft n A0 T A) (K:∀ i j,i < n->j < n->AE0 n (AE0 n (trF U) A) U i j=B i j):Aft n A0 (AE0 n T U) B:=fun i j hi hj=>by
  rw [<- K i j hi hj,ARe]
  have h1:AE0 n (trF U) (AE0 n A U) i j=AE0 n (trF U) (AE0 n (trF T) (AE0 n A0 (AE0 n T U))) i j:=by
    refine ARf (fun _ _=>rfl) fun k hk=>?_;rw [ARf (A':=AE0 n (trF T) (AE0 n A0 T)) (fun l hl=>H k l hk hl) (fun _ _=>rfl),ARe];refine ARf (fun _ _=>rfl) fun l hl=>?_;rw [ARe]
  rw [h1,<- ARe];exact ARf (fun k _=>(Ao2 i k).symm) fun _ _=>rfl
theorem Ao3 {n:Nat} {A:Nat->Nat->Int}:Aft n A dl A:=fun i j hi hj=>by
  show _=psum (fun k=>dl k i * AE0 n A dl k j) n
  rw [ABu (g:=fun k=>AE0 n A dl k j * dl k i) fun k _=>Int.mul_comm _ _,Aa1 (fun k=>AE0 n A dl k j) hi]
  exact (Afg hj).symm
def dm9:Int:=9 ^ 8
def Ao4:Int:=2 ^ 97
theorem Ao5 {n i t:Nat} {A:Nat->Nat->Int} (hn:n<=8) (h:Abd n dm9 A i t):∀ k,k < n->A k k<=Ao4:=fun k hk=>by
  by_cases e:k=i
  · subst e
    have h1:=AZs (p:=(2 ^ 7 * (2 * dm9)) * (2 ^ 7 * (2 * dm9))) (q:=1) h.sym h.pos h.hi h.dm (by decide) (by decide) (fun l hl=>by
      have h2:=h.lamb l hl;have h3:(2:Int) ^ t * (2 * dm9)<=2 ^ 7 * (2 * dm9):=Int.mul_le_mul_of_nonneg_right (AWt (by have:=h.ht;omega)) (by decide);have h4:=h.pos (l + 1) (by have:=h.hi;omega);have h5:=Int.mul_le_mul_of_nonneg_right h3 (Int.le_of_lt h4);have h6:=ASd (x:=Mn l A k l) (y:=2 ^ 7 * (2 * dm9) * det (l + 1) A) (by omega) (by omega);rw [Int.one_mul];refine Int.le_trans h6 (Int.le_of_eq ?_);grind) k 0 (by omega)
    rw [ANf,show det 0 A=1 from rfl,Int.one_mul] at h1
    have h7:(1 + (k:Int) * ((2 ^ 7 * (2 * dm9)) * (2 ^ 7 * (2 * dm9)))) * (dm9 * 1)<=(1 + 7 * ((2 ^ 7 * (2 * dm9)) * (2 ^ 7 * (2 * dm9)))) * (dm9 * 1):=by
      refine Int.mul_le_mul_of_nonneg_right ?_ (by decide);have:=Int.mul_le_mul_of_nonneg_right (show (k:Int)<=7 by omega) (show (0:Int)<=(2 ^ 7 * (2 * dm9)) * (2 ^ 7 * (2 * dm9)) by decide);omega
    exact Int.le_trans h1 (Int.le_trans h7 (by decide))
  · exact Int.le_trans (h.rows k hk e) (by decide)
theorem Adv {n:Nat} {A:Nat->Nat->Int} {B:Int} (hs:AKa n A) (hp:ALr n A) (hB:∀ k,k < n->A k k<=B) {i j:Nat} (hi:i < n) (hj:j < n): -B<=A i j/\A i j<=B:=by
 have h1:=AZq (k:=0) hs hp (Nat.zero_le _) hi hj;simp only [ANf] at h1;have p1:=AZr (k:=0) hs hp (Nat.zero_le _) hi;have p2:=AZr (k:=0) hs hp (Nat.zero_le _) hj;simp only [ANf] at p1 p2;have h2:=Int.mul_le_mul (hB i hi) (hB j hj) p2 (Int.le_trans p1 (hB i hi));exact Ag6 (Int.le_trans p1 (hB i hi)) (Int.le_trans h1 h2)
theorem Ahi {n:Nat} {A:Nat->Nat->Int} {B:Int} (hs:AKa n A) (hp:ALr n A) (hB:∀ k,k < n->A k k<=B) {i j:Nat} (hi:i < n) (hj:j < n):(A i j).natAbs<=B.natAbs:=by
 have:=Adv hs hp hB hi hj;omega
def AZw:Nat:=(2 ^ 240) ^ 5
theorem Adw:16 * (AZw * AZw) < AEt:=by decide
def AZx:Nat:=(2 ^ 220) ^ 5
theorem As7 {n:Nat} {A0 A T:Nat->Nat->Int} (hn:n<=8) (hE:∀ i j,(A0 i j).natAbs<=2 ^ 40) (hs:AKa n A0) (hp:ALr n A0) (H:Aft n A0 T A) (hB:∀ k,k < n->A k k<=Ao4) {k s:Nat} (hk:k < n) (hs2:s < n):(T k s).natAbs<=AZx:=by
  have h1:=Aou hs hp (fun r=>T r s) hk
  have h2:bil n 0 A0 (fun r=>T r s) (fun r=>T r s)=A s s:=by
    rw [H s s hs2 hs2];show _=psum (fun i=>T i s * psum (fun j=>A0 i j * T j s) n) n;unfold bil;refine ABu fun i _=>?_;rw [<- ADr];exact ABu fun j _=>by rw [ANf];grind
  rw [h2] at h1
  have h3:(AJz n A0 k k).natAbs<=dBd (2 ^ 40) 9:=by
    refine Nat.le_trans (AWn (m:=2 ^ 40) fun i j=>?_) (AOv (by decide) (by omega));rw [ACr]
    split
    · unfold dl;split <;> decide
    · exact hE i j
  have h4:AJz n A0 k k * A s s<=(dBd (2 ^ 40) 9:Nat) * Ao4:=by
    have p0:0<=A s s:=by
      have:A s s=bil n 0 A0 (fun r=>T r s) (fun r=>T r s):=h2.symm;rw [this];exact AOw hs hp _ n 0 (by omega)
    have b1:AJz n A0 k k<=(dBd (2 ^ 40) 9:Nat):=by omega
    have b2:=Int.mul_le_mul_of_nonneg_right b1 p0;have b3:=Int.mul_le_mul_of_nonneg_left (hB s hs2) (show (0:Int)<=(dBd (2 ^ 40) 9:Nat) by omega);omega
  have h5:((dBd (2 ^ 40) 9:Nat):Int) * Ao4<=(AZx:Int) * (AZx:Int):=by decide
  have h6:=Ag6 (x:=T k s) (y:=(AZx:Int)) (by omega) (Int.le_trans (Int.le_trans h1 h4) h5);omega
structure Afu (n:Nat) (A:Nat->Nat->Int):Prop where
  sym:AKa n A
  pos:ALr n A
  sz:AUu A n
  lv:AV5 A n
  dt:det n A<=10000
structure RSt (n:Nat) (A0 A T:Nat->Nat->Int) (i t:Nat):Prop where
  inv:Abd n dm9 A i t
  car:Aft n A0 T A
  dt:det n A=det n A0
def Atr (n:Nat) (A0:Nat->Nat->Int) (k:Nat) (s:List (List Int) × List (List Int)):Prop:=
  ∃ A T i t,RSt n A0 A T i t/\s=(tab n n A,tab n n T)/\k=(Adp n A).toNat * 128 + (128 - (16 * i + t))
theorem Ahj {n:Nat} {A:Nat->Nat->Int} (hp:ALr n A):0<=Adp n A:=by
 have:∀ m,m<=n + 1->0<=psum (fun k=>det k A) m:=fun m=>by
   induction m with
   | zero=>intro _;exact Int.le_refl _
   | succ m ih=>intro h;have h1:=ih (by omega);have h2:=hp m (by omega);simp only [psum];omega
 exact this _ (Nat.le_refl _)
theorem Ao6 {n:Nat} {A:Nat->Nat->Int} (hd:∀ k,k<=n->det k A<=dm9):Adp n A<=(n + 1:Nat) * dm9:=by
 have:∀ m,m<=n + 1->psum (fun k=>det k A) m<=(m:Nat) * dm9:=fun m=>by
   induction m with
   | zero=>intro _;simp [psum]
   | succ m ih=>intro h;have h1:=ih (by omega);have h2:=hd m (by omega);simp only [psum];rw [Int.natCast_add,Int.add_mul];omega
 exact this _ (Nat.le_refl _)
theorem Ai1 {n i j:Nat} {A:Nat->Nat->Int} (hn:n<=8) (hj:j < i) (hi:i < n) (hp:ALr n A) (hb:∀ i j,i < n->j < n->(A i j).natAbs<=AGr):(AQf A i j).natAbs<=3 * dBd AGr 9:=by
 have b1:(Mn j A i j).natAbs<=dBd AGr 9:=AYb hn hi (by omega) (by omega) hb;have b2:(det (j + 1) A).natAbs<=dBd AGr 9:=ASe hn (by omega) hb;have hd:=hp (j + 1) (by omega);unfold AQf;rw [Int.natAbs_neg];have:=Int.natAbs_ediv_le_natAbs (2 * Mn j A i j + det (j + 1) A) (2 * det (j + 1) A);omega
theorem Ai2 {fuel n:Nat} {A0:Nat->Nat->Int} (Ac:1<=n) (hn:n<=8) (hs:AKa n A0) (hp:ALr n A0) (hE:∀ i j,(A0 i j).natAbs<=2 ^ 40) (hD:∀ k,k<=n->det k A0<=dm9) (hr:∀ k,k < n->A0 k k<=3 * dm9) (hdt:det n A0<=10000) (hf:AEt < fuel):
    Ok (AF6 fuel (tab n n A0)) fun r=> ∃ A T,r=(tab n n A,tab n n T,0)/\Afu n A/\Aft n A0 T A/\det n A=det n A0/\ ∀ k,k < n->A k k<=3 * dm9:=by
 have Ad:100 < fuel:=Nat.lt_of_le_of_lt (by decide) hf;have Av:100000000 < fuel:=Nat.lt_of_le_of_lt (by decide) hf;have Ak:∀ i j,i < n->j < n->(A0 i j).natAbs<=AGr:=fun i j _ _=>Nat.le_trans (hE i j) (by decide);unfold AF6;refine ABm (AYd Ac hn Ak Ad) fun v hv=>?_;have Ap:=hv.2 ⟨hs,hp⟩;subst Ap;refine ACk (fun h=>absurd rfl h) fun _=>ABm (AC7 (Ao1 hn Ak Ad)) fun b hb=>?_;subst hb;refine ACk (fun h=>by simp [hdt] at h) fun _=>?_;refine ABm (AC7 (Ag2 (A:=tab n n A0) (by rw [AC9];omega) (fun z hz=>by rw [AT8 z hz];omega) (by rw [AC9];omega))) fun x hx=>?_;subst hx;rw [AC9];refine ABm (AC7 (Ahd Ac (by omega) Ad)) fun x hx=>?_;subst hx;dsimp only;refine ABm (Amh (Atr n A0) (Q:=fun r=> ∃ A T,r=(tab n n A,tab n n T,0)/\Afu n A/\Aft n A0 T A/\det n A=det n A0/\ ∀ k,k < n->A k k<=3 * dm9) (fun k s hI=>?_) (k:=(Adp n A0).toNat * 128 + 128) ⟨A0,dl,0,0,⟨AX9 Ac hs hp hD hr,Ao3,rfl⟩,rfl,rfl⟩ ?_) fun r hr=>ABj hr
 ·obtain ⟨A,T,i,t,R,rfl,rfl⟩:=hI;have L:=R.inv;have hbd:=Ao5 hn L;have hb:∀ i j,i < n->j < n->(A i j).natAbs<=AGr:=fun i j hi hj=>Nat.le_trans (Ahi L.sym L.pos hbd hi hj) (by decide);have hT:∀ k s,k < n->s < n->(T k s).natAbs<=AZx:=fun k s hk Ab=>As7 hn hE hs hp R.car hbd hk Ab;have hTD:AZx<=AZw:=by decide
  have hMD:AGr<=AZw:=by decide
  unfold AIv;refine ABm (Aro Ac hn L.pos hb hf) fun r hr=>?_
  have prod:∀ {U:Nat->Nat->Int},(∀ i j,i < n->j < n->(U i j).natAbs<=3 * dBd AGr 9)->(AEi fuel (tab n n A) (tab n n U)=some (tab n n (AE0 n (AE0 n (trF U) A) U))/\ADm fuel (tab n n T) (tab n n U)=some (tab n n (AE0 n T U))):=fun {U} hU=>by
    have Am:∀ i j,i < n->j < n->(U i j).natAbs<=AZw:=fun i j hi hj=>Nat.le_trans (hU i j hi hj) (by decide)
    refine ⟨Ao0 Ac (by omega) Adw (fun i j hi hj=>Nat.le_trans (hb i j hi hj) hMD) Am (fun i j hi hj=>?_) Ad,?_⟩
    · have h1:=psum_abs (f:=fun l=>U l i) (g:=fun l=>A l j) (D:=3 * dBd AGr 9) n fun l hl=>⟨hU l i hl hi,Nat.le_trans (hb l j hl hj) (by decide)⟩
      have h2:n * ((3 * dBd AGr 9) * (3 * dBd AGr 9))<=8 * ((3 * dBd AGr 9) * (3 * dBd AGr 9)):=Nat.mul_le_mul_right _ hn
      have h3:(AE0 n (trF U) A i j).natAbs=(psum (fun l=>U l i * A l j) n).natAbs:=rfl
      have h4:∀ l,l < n->(U l i).natAbs<=3 * dBd AGr 9/\(A l j).natAbs<=AGr:=fun l hl=>⟨hU l i hl hi,hb l j hl hj⟩
      have h5:(psum (fun l=>U l i * A l j) n).natAbs<=n * (3 * dBd AGr 9 * AGr):=by
        refine QF.psum_abs fun l hl=>?_
        rw [Int.natAbs_mul]
        exact Nat.mul_le_mul (h4 l hl).1 (h4 l hl).2
      have h6:n * (3 * dBd AGr 9 * AGr)<=8 * (3 * dBd AGr 9 * AGr):=Nat.mul_le_mul_right _ hn
      have h7:8 * (3 * dBd AGr 9 * AGr)<=AZw:=by decide
      rw [h3]
      exact Nat.le_trans h5 (Nat.le_trans h6 h7)
    · unfold ADm
      rw [Amc Ac (by omega) Adw (fun i j hi hj=>Nat.le_trans (hT i j hi hj) hTD) Am Ad]
      rfl
  rcases hr with ⟨rfl,hsz,hlv⟩ | ⟨i',j,hji,hi',hbad,hsz,hzi,hlv,rfl⟩ | ⟨j,hj,hbad,hsz,hlv,rfl⟩
  ·dsimp only;refine ACk (fun _=>?_) (fun h=>absurd rfl h);have hrest:=AS1 hn L fun l hl=>hsz i l hl L.hi;refine ABm (AC7 (As4 Ac (by omega) (fun i j hi hj=>Nat.lt_of_le_of_lt (Ahi L.sym L.pos hrest hi hj) (by decide)) Ad)) fun x hx=>ABj ?_;subst hx;exact ⟨A,T,rfl,⟨L.sym,L.pos,hsz,hlv,by rw [R.dt];exact hdt⟩,R.car,R.dt,hrest⟩
  ·dsimp only;refine ACk (fun h=>absurd h (by decide)) fun _=>?_
   have hU:∀ r s,r < n->s < n->(ATx A i' j r s).natAbs<=3 * dBd AGr 9:=fun r s hr Ab=>by
     have hdl:∀ a b,(dl a b).natAbs<=3 * dBd AGr 9:=fun a b=>by unfold dl;split <;> decide
     unfold ATx
     rw [ACr]
     split
     · split
       · exact Ai1 hn hji hi' L.pos hb
       · exact hdl _ _
     · exact hdl _ _
   obtain ⟨e1,e2⟩:=prod hU;refine ABm (AC7 e1) fun x hx=>ABm (AC7 e2) fun y hy=>ABj ?_;subst hx;subst hy;obtain ⟨L2,hm⟩:=Aiz hn L hi' hji hbad hsz hzi hlv;have hsum:Adp n (AUs A i' j (AQf A i' j))=Adp n A:=ABu fun k _=>ANg hji;refine ⟨_,?_,AUs A i' j (AQf A i' j),AE0 n T (ATx A i' j),i',i' - j,⟨L2,AZv R.car fun r s hr Ab=>Adu hji hi' hr Ab,by rw [ANg hji];exact R.dt⟩,?_,rfl⟩
   ·rw [hsum];have:=L.hi;have:=L.ht;omega
   ·rw [AMm fun r s hr Ab=>Adu hji hi' hr Ab]
  ·dsimp only;refine ACk (fun h=>absurd h (by decide)) fun _=>?_
   have hU:∀ r s,r < n->s < n->(AFj dl (j + 1) j r s).natAbs<=3 * dBd AGr 9:=fun r s hr Ab=>by
     rw [Abi];unfold dl;split <;> decide
   obtain ⟨e1,e2⟩:=prod hU;refine ABm (AC7 e1) fun x hx=>ABm (AC7 e2) fun y hy=>ABj ?_;subst hx;subst hy;obtain ⟨L2,hm⟩:=Ai0 hn L hj hbad (fun r l h1 h2=>hsz r l h1 (by omega)) fun r hr=>hlv r (by omega);refine ⟨_,?_,swA A j,AE0 n T (AFj dl (j + 1) j),0,0,⟨L2,AZv R.car fun r s hr Ab=>Ahh hj hr Ab,by rw [Ag5 (by omega)];exact R.dt⟩,?_,rfl⟩
   ·have h1:=Ahj L.pos;have h2:=Ahj L2.pos;have:=L.hi;have:=L.ht;omega
   ·rw [AMm fun r s hr Ab=>Ahh hj hr Ab]
 ·have h1:=Ao6 hD;have h2:((n + 1:Nat):Int) * dm9<=9 * dm9:=Int.mul_le_mul_of_nonneg_right (by omega) (by decide);have h3:(9 * dm9)=387420489:=by decide
  have h4:387420489 * 128 + 128 < AEt:=by decide
  omega
def part (n i:Nat) (G:Nat->Nat->Int):List (List Int):=ADu n fun r=>if r < i then ADu n (G r) else []
theorem AMn {n i r:Nat} {G:Nat->Nat->Int} (hr:r < i) (hn:r < n):(part n i G)[r]? =some (ADu n (G r)):=by
 unfold part;rw [ACj hn,if_pos hr]
theorem AS3 {n i:Nat} {G:Nat->Nat->Int} (hn:i < n):(part n i G)[i]? =some []:=by
 unfold part;rw [ACj hn,if_neg (Nat.lt_irrefl i)]
theorem ANl {n i r:Nat} {G:Nat->Nat->Int} {g:Nat->Int} (hr:r < i):(part n i G).set r (ADu n g)=part n i (ADd G r g):=by
 unfold part;rw [AE5];refine ACv fun k _=>?_;by_cases h:k=r
 ·subst h;rw [if_pos rfl,if_pos hr,AC4]
 ·rw [if_neg h,AD2 _ _ h]
theorem AQg {n i:Nat} {G:Nat->Nat->Int} {g:Nat->Int}:(part n i G).set i (ADu n g)=part n (i + 1) (ADd G i g):=by
 unfold part;rw [AE5];refine ACv fun k _=>?_;by_cases h:k=i
 ·subst h;rw [if_pos rfl,if_pos (by omega),AC4]
 ·rw [if_neg h,AD2 _ _ h];by_cases h2:k < i
  ·rw [if_pos h2,if_pos (by omega)]
  ·rw [if_neg h2,if_neg (by omega)]
theorem AOi (n:Nat) (G:Nat->Nat->Int):part n n G=tab n n G:=by
 unfold part;rw [ANk];exact ACv fun k hk=>if_pos hk
theorem AOj (n:Nat) (G:Nat->Nat->Int):List.replicate n ([]:List Int)=part n 0 G:=by
 rw [AHs];exact ACv fun k _=>(if_neg (by omega)).symm
theorem ATy {L:List Int} {q:Nat} (hq:q < 4611686018427387904):Ok (if (L.length:Int)<=((q:Nat):Int) then (some ((0:Int),((q:Nat):Int))) else ((gI L (w64 ((w64 (((q:Nat):Int) + 1)) - 1))).bind fun x=>(some ((w64 x),(w64 (((q:Nat):Int) + 1)))))) fun e=> ∃ p:Nat,e.2=(p:Int)/\p<=q + 1:=by
  refine ACk (fun h=>ABj ⟨q,rfl,by omega⟩) fun h=>?_;have hl:q < L.length:=by omega
  refine AB4 (n:=q) (List.getElem?_eq_getElem hl) (by rw [AD6 (x:=(q:Int) + 1) (by omega) (by omega),wk (by omega)];omega) (ABj ⟨q + 1,?_,by omega⟩);rw [AD6 (x:=(q:Int) + 1) (by omega) (by omega)];omega
theorem ARl (x:Int) (m:Nat) (hm:0 < m):0<=Int.tmod (w64 (IntKind.wrap .u8 x)) (m:Int)/\Int.tmod (w64 (IntKind.wrap .u8 x)) (m:Int) < m:=by
 have h1:IntKind.wrap .u8 x=x % 256:=by rw [IntKind.wrap_u8]
 rw [h1];have a1:=Int.emod_nonneg x (show (256:Int)≠0 by decide);have a2:=Int.emod_lt_of_pos x (show (0:Int) < 256 by decide);rw [wk (by omega),Int.tmod_eq_emod_of_nonneg a1];exact ⟨Int.emod_nonneg _ (by omega),Int.emod_lt_of_pos _ (by omega)⟩
def dgF (f:Nat->Int) (r c:Nat):Int:=if c=r then f r else 0
theorem As8 {fuel N q0:Nat} {a1 Ac:Int} {L:List Int} (hN:w64 (1 + (Int.tmod (w64 a1) Ac))=(N:Int)) (Af:N<=8) (Ag:q0<=1000) (hf:100 < fuel):
    Ok (iter (fun s=>AFb fuel a1 L Ac s.1 s.2.1 s.2.2) fuel (0,(q0:Int),(List.replicate (Int.toNat (w64 (1 + (Int.tmod (w64 a1) Ac)))) ([]:List Int)))) fun e=> ∃ (q:Nat) (f:Nat->Int),e=((q:Int),tab N N (dgF f))/\q<=q0 + N/\ ∀ r,r < N->1<=f r/\f r<=6:=by
 refine ACy (fun i s=> ∃ (q:Nat) (f:Nat->Int),s=(((i:Nat):Int),(q:Int),part N i (dgF f))/\i<=N/\q<=q0 + i/\ ∀ r,r < i->1<=f r/\f r<=6) N ⟨q0,fun _=>0,by rw [hN,Int.toNat_natCast,AOj N (dgF fun _=>0)];rfl,by omega,by omega,fun r hr=>by omega⟩ (by omega) fun i s hi hI=>?_;obtain ⟨q,f,rfl,hiN,hq,Ad⟩:=hI;unfold AFb;dsimp only;rw [List.length_replicate,hN,Int.toNat_natCast];refine ACk (fun h=>AEo (by omega) ?_) (fun h=>ABj ?_)
 ·have hi':i < N:=by omega
  refine AB4 (AS3 hi') rfl ?_;rw [ADv,AHs N (0:Int),AQg];refine AB4 (AMn (by omega) hi') rfl ?_;rw [AC4];refine ABm (Q:=fun e:Int × Int=>0<=e.1/\e.1 < 6/\ ∃ p:Nat,e.2=(p:Int)/\p<=q + 1) (ABm (ATy (L:=L) (q:=q) (by omega)) fun e he=>?_) fun e he=>AB4 (ACj hi') rfl (ABj ⟨by omega,?_⟩)
  ·exact ABj ⟨(ARl _ 6 (by decide)).1,(ARl _ 6 (by decide)).2,he⟩
  ·obtain ⟨h1,h2,p,h3,h4⟩:=he;refine ⟨p,fun r=>if r=i then 1 + e.1 else f r,?_,by omega,by omega,fun r hr=>?_⟩
   ·rw [AD6 (x:=(i:Int) + 1) (by omega) (by omega),AD6 (x:=1 + e.1) (by omega) (by omega),h3,ADv,ADv,AE5,ANl (by omega)];refine congrArg (fun z=>(((i + 1:Nat):Int),(p:Int),z)) (ACv fun r hr=>?_);split
    ·refine ACv fun c hc=>?_;rw [ACr];unfold dgF;dsimp only;split
     ·next h=>subst h;rfl
     ·next h=>rw [ACr,if_neg h]
    ·rfl
   ·dsimp only;split
    ·omega
    ·exact Ad r (by omega)
 ·obtain rfl:i=N:=by omega
  exact ⟨q,f,by rw [AOi],by omega,Ad⟩
theorem Arq {fuel N q0:Nat} {a1 Ac:Int} {L:List Int} (hN:w64 (1 + (Int.tmod (w64 a1) Ac))=(N:Int)) (Af:N<=8) (Ag:q0<=1000) (hf:100 < fuel):
    Ok (iter (fun s=>AE1 fuel a1 L Ac s.1 s.2.1 s.2.2) fuel (0,(q0:Int),(List.replicate (Int.toNat (w64 (1 + (Int.tmod (w64 a1) Ac)))) ([]:List Int)))) fun e=> ∃ (q:Nat) (f:Nat->Int),e=((q:Int),tab N N (dgF f))/\q<=q0 + N/\ ∀ r,r < N->1<=f r/\f r<=9:=by
 refine ACy (fun i s=> ∃ (q:Nat) (f:Nat->Int),s=(((i:Nat):Int),(q:Int),part N i (dgF f))/\i<=N/\q<=q0 + i/\ ∀ r,r < i->1<=f r/\f r<=9) N ⟨q0,fun _=>0,by rw [hN,Int.toNat_natCast,AOj N (dgF fun _=>0)];rfl,by omega,by omega,fun r hr=>by omega⟩ (by omega) fun i s hi hI=>?_;obtain ⟨q,f,rfl,hiN,hq,Ad⟩:=hI;unfold AE1;dsimp only;rw [List.length_replicate,hN,Int.toNat_natCast];refine ACk (fun h=>AEo (by omega) ?_) (fun h=>ABj ?_)
 ·have hi':i < N:=by omega
  refine AB4 (AS3 hi') rfl ?_;rw [ADv,AHs N (0:Int),AQg];refine AB4 (AMn (by omega) hi') rfl ?_;rw [AC4];refine ABm (Q:=fun e:Int × Int=>0<=e.1/\e.1 < 9/\ ∃ p:Nat,e.2=(p:Int)/\p<=q + 1) (ABm (ATy (L:=L) (q:=q) (by omega)) fun e he=>?_) fun e he=>AB4 (ACj hi') rfl (ABj ⟨by omega,?_⟩)
  ·exact ABj ⟨(ARl _ 9 (by decide)).1,(ARl _ 9 (by decide)).2,he⟩
  ·obtain ⟨h1,h2,p,h3,h4⟩:=he;refine ⟨p,fun r=>if r=i then 1 + e.1 else f r,?_,by omega,by omega,fun r hr=>?_⟩
   ·rw [AD6 (x:=(i:Int) + 1) (by omega) (by omega),AD6 (x:=1 + e.1) (by omega) (by omega),h3,ADv,ADv,AE5,ANl (by omega)];refine congrArg (fun z=>(((i + 1:Nat):Int),(p:Int),z)) (ACv fun r hr=>?_);split
    ·refine ACv fun c hc=>?_;rw [ACr];unfold dgF;dsimp only;split
     ·next h=>subst h;rfl
     ·next h=>rw [ACr,if_neg h]
    ·rfl
   ·dsimp only;split
    ·omega
    ·exact Ad r (by omega)
 ·obtain rfl:i=N:=by omega
  exact ⟨q,f,by rw [AOi],by omega,Ad⟩
theorem Arr {fuel N q0:Nat} {a1 Ac:Int} {L:List Int} (hN:w64 (1 + (Int.tmod (w64 a1) Ac))=(N:Int)) (Af:N<=8) (Ag:q0<=1000) (hf:100 < fuel):
    Ok (iter (fun s=>AE2 fuel a1 L Ac s.1 s.2.1 s.2.2) fuel (0,(q0:Int),(List.replicate (Int.toNat (w64 (1 + (Int.tmod (w64 a1) Ac)))) ([]:List Int)))) fun e=> ∃ (q:Nat) (f:Nat->Int),e=((q:Int),tab N N (dgF f))/\q<=q0 + N/\ ∀ r,r < N->1<=f r/\f r<=1:=by
 refine ACy (fun i s=> ∃ (q:Nat) (f:Nat->Int),s=(((i:Nat):Int),(q:Int),part N i (dgF f))/\i<=N/\q<=q0 + i/\ ∀ r,r < i->1<=f r/\f r<=1) N ⟨q0,fun _=>0,by rw [hN,Int.toNat_natCast,AOj N (dgF fun _=>0)];rfl,by omega,by omega,fun r hr=>by omega⟩ (by omega) fun i s hi hI=>?_;obtain ⟨q,f,rfl,hiN,hq,Ad⟩:=hI;unfold AE2;dsimp only;rw [List.length_replicate,hN,Int.toNat_natCast];refine ACk (fun h=>AEo (by omega) ?_) (fun h=>ABj ?_)
 ·have hi':i < N:=by omega
  refine AB4 (AS3 hi') rfl ?_;rw [ADv,AHs N (0:Int),AQg];refine AB4 (AMn (by omega) hi') rfl ?_;rw [AC4];refine ABm (Q:=fun e:Int × Int=>0<=e.1/\e.1 < 1/\ ∃ p:Nat,e.2=(p:Int)/\p<=q + 1) (ABm (ATy (L:=L) (q:=q) (by omega)) fun e he=>?_) fun e he=>AB4 (ACj hi') rfl (ABj ⟨by omega,?_⟩)
  ·exact ABj ⟨(ARl _ 1 (by decide)).1,(ARl _ 1 (by decide)).2,he⟩
  ·obtain ⟨h1,h2,p,h3,h4⟩:=he;refine ⟨p,fun r=>if r=i then 1 + e.1 else f r,?_,by omega,by omega,fun r hr=>?_⟩
   ·rw [AD6 (x:=(i:Int) + 1) (by omega) (by omega),AD6 (x:=1 + e.1) (by omega) (by omega),h3,ADv,ADv,AE5,ANl (by omega)];refine congrArg (fun z=>(((i + 1:Nat):Int),(p:Int),z)) (ACv fun r hr=>?_);split
    ·refine ACv fun c hc=>?_;rw [ACr];unfold dgF;dsimp only;split
     ·next h=>subst h;rfl
     ·next h=>rw [ACr,if_neg h]
    ·rfl
   ·dsimp only;split
    ·omega
    ·exact Ad r (by omega)
 ·obtain rfl:i=N:=by omega
  exact ⟨q,f,by rw [AOi],by omega,Ad⟩
theorem Ars {fuel N q0:Nat} {a1 Ac:Int} {L:List Int} (hN:w64 (1 + (Int.tmod (w64 a1) Ac))=(N:Int)) (Af:N<=8) (Ag:q0<=1000) (hf:100 < fuel):
    Ok (iter (fun s=>AE3 fuel a1 L Ac s.1 s.2.1 s.2.2) fuel (0,(q0:Int),(List.replicate (Int.toNat (w64 (1 + (Int.tmod (w64 a1) Ac)))) ([]:List Int)))) fun e=> ∃ (q:Nat) (f:Nat->Int),e=((q:Int),tab N N (dgF f))/\q<=q0 + N/\ ∀ r,r < N->1<=f r/\f r<=2:=by
 refine ACy (fun i s=> ∃ (q:Nat) (f:Nat->Int),s=(((i:Nat):Int),(q:Int),part N i (dgF f))/\i<=N/\q<=q0 + i/\ ∀ r,r < i->1<=f r/\f r<=2) N ⟨q0,fun _=>0,by rw [hN,Int.toNat_natCast,AOj N (dgF fun _=>0)];rfl,by omega,by omega,fun r hr=>by omega⟩ (by omega) fun i s hi hI=>?_;obtain ⟨q,f,rfl,hiN,hq,Ad⟩:=hI;unfold AE3;dsimp only;rw [List.length_replicate,hN,Int.toNat_natCast];refine ACk (fun h=>AEo (by omega) ?_) (fun h=>ABj ?_)
 ·have hi':i < N:=by omega
  refine AB4 (AS3 hi') rfl ?_;rw [ADv,AHs N (0:Int),AQg];refine AB4 (AMn (by omega) hi') rfl ?_;rw [AC4];refine ABm (Q:=fun e:Int × Int=>0<=e.1/\e.1 < 2/\ ∃ p:Nat,e.2=(p:Int)/\p<=q + 1) (ABm (ATy (L:=L) (q:=q) (by omega)) fun e he=>?_) fun e he=>AB4 (ACj hi') rfl (ABj ⟨by omega,?_⟩)
  ·exact ABj ⟨(ARl _ 2 (by decide)).1,(ARl _ 2 (by decide)).2,he⟩
  ·obtain ⟨h1,h2,p,h3,h4⟩:=he;refine ⟨p,fun r=>if r=i then 1 + e.1 else f r,?_,by omega,by omega,fun r hr=>?_⟩
   ·rw [AD6 (x:=(i:Int) + 1) (by omega) (by omega),AD6 (x:=1 + e.1) (by omega) (by omega),h3,ADv,ADv,AE5,ANl (by omega)];refine congrArg (fun z=>(((i + 1:Nat):Int),(p:Int),z)) (ACv fun r hr=>?_);split
    ·refine ACv fun c hc=>?_;rw [ACr];unfold dgF;dsimp only;split
     ·next h=>subst h;rfl
     ·next h=>rw [ACr,if_neg h]
    ·rfl
   ·dsimp only;split
    ·omega
    ·exact Ad r (by omega)
 ·obtain rfl:i=N:=by omega
  exact ⟨q,f,by rw [AOi],by omega,Ad⟩
theorem Art {fuel N q0:Nat} {L:List Int} {F0:Nat->Nat->Int} (Ag:N<=8) (Ah:q0<=1000) (Ad:∀ i j,i < N->j < N->(F0 i j).natAbs<=9) (hf:100 < fuel):
    Ok (iter (fun s=>AFc fuel L (tab N N F0) s.1 s.2.1 s.2.2) fuel (0,(q0:Int),tab N N F0)) fun e=> ∃ (q:Nat) (F:Nat->Nat->Int),e=((q:Int),tab N N F)/\q<=q0 + 8 * N/\ ∀ i j,i < N->j < N->(F i j).natAbs<=9:=by
 refine ACy (fun i s=> ∃ (q:Nat) (F:Nat->Nat->Int),s=(((i:Nat):Int),(q:Int),tab N N F)/\i<=N/\q<=q0 + 8 * i/\ ∀ i j,i < N->j < N->(F i j).natAbs<=9) N ⟨q0,F0,rfl,by omega,by omega,Ad⟩ (by omega) fun i s hi hI=>?_;obtain ⟨q,F,rfl,hiN,hq,hF⟩:=hI;unfold AFc;dsimp only;rw [AC9];refine ACk (fun h=>?_) (fun h=>ABj ⟨q,F,rfl,by omega,hF⟩);have hi':i < N:=by omega
 refine ABm (ACy (fun j s=> ∃ (p:Nat) (F:Nat->Nat->Int),s=(((j:Nat):Int),(p:Int),tab N N F)/\j<=i/\p<=q + j/\ ∀ i j,i < N->j < N->(F i j).natAbs<=9) i (Q:=fun e=> ∃ (p:Nat) (F:Nat->Nat->Int),e=((p:Int),tab N N F)/\p<=q + i/\ ∀ i j,i < N->j < N->(F i j).natAbs<=9) ⟨q,F,rfl,by omega,by omega,hF⟩ (by omega) fun j s hj hJ=>?_) fun e he=>?_
 ·obtain ⟨p,F,rfl,hji,hp,hF⟩:=hJ;unfold AGs;dsimp only;refine ACk (fun h=>?_) (fun h=>ABj ⟨p,F,rfl,by omega,hF⟩);have hj':j < i:=by omega
  refine AB4 (ADb hi') rfl (ABm (ATy (L:=L) (q:=p) (by omega)) fun e he=>AB4 (ACj (by omega)) rfl ?_);obtain ⟨p2,h3,h4⟩:=he;rw [ADv,ADv,AE5,show (ADu N fun c=>if c=j then Int.tmod e.1 3 else F i c)=(List.range N).map fun c=>if c=j then Int.tmod e.1 3 else F i c from rfl,AHl];refine AB4 (ADb (by omega)) rfl (AB4 (ADb hi') rfl (AB4 (ACj (by omega)) rfl (AB4 (ACj hi') rfl (ABj ⟨by omega,p2,?_⟩))));generalize Af:(ADd F i fun c=>if c=j then Int.tmod e.1 3 else F i c)=F1
  have hv:(Int.tmod e.1 3).natAbs<=9:=by
    have:=Int.natAbs_tmod e.1 3
    have h5:e.1.natAbs % (3:Int).natAbs < 3:=Nat.mod_lt _ (by decide)
    omega
  have hF1b:∀ i j,i < N->j < N->(F1 i j).natAbs<=9:=fun a b ha hb=>by
    subst Af
    rw [ACr]
    split
    · split
      · exact hv
      · exact hF i b hi' hb
    · exact hF a b ha hb
  refine ⟨ADd F1 j fun c=>if c=i then F1 i j else F1 j c,?_,by omega,by omega,fun a b ha hb=>?_⟩
  ·rw [wk (by omega),h3,ADv,ADv,AE5,show (ADu N fun c=>if c=i then F1 i j else F1 j c)=(List.range N).map fun c=>if c=i then F1 i j else F1 j c from rfl,AHl];rfl
  ·rw [ACr];split
   ·split
    ·exact hF1b i j hi' (by omega)
    ·exact hF1b j b (by omega) hb
   ·exact hF1b a b ha hb
 ·obtain ⟨p,F,rfl,hp,hF⟩:=he;exact ABj ⟨by omega,p,F,by rw [wk (by omega)];rfl,by omega,by omega,hF⟩
theorem Ahk {fuel N:Nat} {b:Bool} (Ag:1<=N) (Ah:N<=8) (hf:100 < fuel):Ok (AFv fuel (N:Int) b) fun e=> ∃ F,e=tab N N F/\ ∀ i j,i < N->j < N->(F i j).natAbs<=2:=by
 unfold AFv;refine AEo (by omega) ?_;rw [Int.toNat_natCast];refine ABm (ACy (fun i s=> ∃ G:Nat->Nat->Int,s=(((i:Nat):Int),part N i G)/\i<=N/\ ∀ r c,(G r c).natAbs<=2) N (Q:=fun e=> ∃ F,e=tab N N F/\ ∀ i j,i < N->j < N->(F i j).natAbs<=2) ⟨fun _ _=>0,by rw [AOj N fun _ _=>0];rfl,by omega,fun _ _=>Nat.zero_le _⟩ (by omega) fun i s hi hI=>?_) fun e he=>ABj he;obtain ⟨G,rfl,hiN,hG⟩:=hI;unfold AJi;dsimp only;rw [List.length_replicate,Int.toNat_natCast];refine ACk (fun h=>AEo (by omega) ?_) (fun h=>ABj ?_)
 ·have hi':i < N:=by omega
  refine AB4 (AS3 hi') rfl ?_;rw [ADv,AHs N (0:Int),AQg];refine AB4 (AMn (by omega) hi') rfl ?_;rw [AC4];refine AB4 (ACj hi') rfl ?_;rw [ADv,ADv,AE5,ANl (by omega)]
  have Ab:∀ r c,(ADd (ADd G i fun x=>0) i (fun c=>if c=i then 2 else 0) r c).natAbs<=2:=fun r c=>by
    rw [ACr]
    split
    · split <;> decide
    · rw [ACr]
      split
      · decide
      · exact hG r c
  generalize (ADd (ADd G i fun x=>0) i fun c=>if c=i then 2 else 0)=G1 at Ab;have wi:w64 ((i:Int) + 1)=((i + 1:Nat):Int):=by rw [wk (by omega)];omega
  refine ABm (Q:=fun k=>k=(i:Int) - 1∨k=(i:Int) - 2) ?_ fun k hk=>?_
  ·have w1:w64 ((i:Int) - 1)=(i:Int) - 1:=wk (by omega);have w2:w64 ((i:Int) - 2)=(i:Int) - 2:=wk (by omega);rw [w1,w2];exact ACk (fun _=>ACk (fun _=>ACk (fun _=>ABj (.inr rfl)) fun _=>ABj (.inl rfl)) fun _=>ABj (.inl rfl)) fun _=>ABj (.inl rfl)
  ·refine ACk (fun h=>?_) (fun h=>ABj ⟨by omega,G1,by rw [wi],by omega,Ab⟩);obtain ⟨k,rfl⟩:∃ q:Nat,k=q:=⟨k.toNat,by omega⟩;have hki:k < i:=by omega
   refine AB4 (AMn (by omega) hi') rfl (AB4 (AMn (by omega) (by omega)) rfl (AB4 (ACj (by omega)) rfl ?_));rw [ADv,ADv,AE5,ANl (by omega)]
   have Ac:∀ r c,(ADd G1 i (fun c=>if c=k then -1 else G1 i c) r c).natAbs<=2:=fun r c=>by
     rw [ACr]
     split
     · split
       · decide
       · exact Ab i c
     · exact Ab r c
   generalize (ADd G1 i fun c=>if c=k then -1 else G1 i c)=G2 at Ac;refine AB4 (AMn (by omega) (by omega)) rfl (AB4 (ACj hi') rfl (ABj ⟨by omega,ADd G2 k fun c=>if c=i then -1 else G2 k c,?_,by omega,fun r c=>?_⟩))
   ·rw [wi,ADv,ADv,AE5,ANl (by omega)]
   ·rw [ACr];split
    ·split
     ·decide
     ·exact Ac k c
    ·exact Ac r c
 ·obtain rfl:i=N:=by omega
  exact ⟨G,AOi _ _,fun a b _ _=>hG a b⟩
theorem Ami {n B:Nat} {F:Nat->Nat->Int} (hB:B < 9223372036854775808) (h:∀ i j,i < n->j < n->(F i j).natAbs<=B):∀ z∈tab n n F,∀ x∈z,-9223372036854775808<=x/\x<=9223372036854775807:=fun z hz x hx=>by
  obtain ⟨i,hi⟩:=List.getElem?_of_mem hz
  have hin:i < n:=by have:=(List.getElem?_eq_some_iff.1 hi).1;rwa [AC9] at this
  rw [ADb hin] at hi
  cases hi
  obtain ⟨j,hj⟩:=List.getElem?_of_mem hx
  have hjn:j < n:=by have:=(List.getElem?_eq_some_iff.1 hj).1;rwa [AC8] at this
  rw [ACj hjn] at hj
  cases hj
  have:=h i j hin hjn
  omega
theorem Ao7 {n:Nat} {F:Nat->Nat->Int} (hn:1<=n) (Aa:n<=16):okM (tab n n F)=true:=by
 have hc:ALy (tab n n F)=n:=Ajr hn;unfold okM;rw [decide_eq_true_iff,AC9,hc];exact ⟨hn,Aa,fun z hz=>by rw [AT8 z hz];exact ⟨hn,Aa,rfl⟩⟩
theorem Afv {fuel n:Nat} {F:Nat->Nat->Int} (hn:1<=n) (Aa:n<=16) (h:∀ i j,i < n->j < n->(F i j).natAbs<=9223372036854775807) (hf:17 < fuel):AE4 fuel (tab n n F)=some (tab n n F):=by
 rw [Asz (Ami (by decide) h) hf,if_pos (Ao7 hn Aa)]
theorem Aru {fuel n:Nat} {F:Nat->Nat->Int} (Ab:1<=n) (hn:n<=8) (hb:∀ i j,i < n->j < n->(F i j).natAbs<=1000000) (hf:100 < fuel):Ok (AHq fuel (tab n n F)) fun r=>r=true↔AKa n F/\ALr n F/\det n F<=10000:=by
 have Ac:∀ i j,i < n->j < n->(F i j).natAbs<=AGr:=fun i j hi hj=>Nat.le_trans (hb i j hi hj) (by decide);unfold AHq;refine ABm (AC7 (Afv Ab (by omega) (fun i j hi hj=>Nat.le_trans (hb i j hi hj) (by decide)) (by omega))) fun x hx=>?_;subst hx;refine ABm (AYd Ab hn Ac hf) fun v hv=>ACk (fun h=>?_) fun h=>ABj (Iff.intro (fun h2=>nomatch h2) fun h2=>absurd (hv.2 ⟨h2.1,h2.2.1⟩) h);have h1:=hv.1 h;refine ABm (AC7 (AUo hn Ac (by omega))) fun d hd=>ABm (Q:=(· =10000)) ⟨10000,if_pos (by omega),rfl⟩ fun t ht=>ABm (AC7 (a:=AP9 d t) rfl) fun c hc=>ABj ?_;subst hd;subst ht;subst hc;rw [decide_eq_true_iff,Abf];exact ⟨fun h2=>⟨h1.1,h1.2,h2⟩,fun h2=>h2.2.2⟩
theorem Arv {n:Nat} {f:Nat->Int} (hn:n<=8) (h:∀ r,r < n->1<=f r/\f r<=2):AKa n (dgF f)/\ALr n (dgF f)/\det n (dgF f)<=10000:=by
 have hd:∀ k,k<=n->det k (dgF f)=AGc f k:=fun k hk=>by
   rw [AQc (F:=dgF f) (fun c i hc hci hi=>by unfold dgF;rw [if_neg (by omega)])]
   exact AV2 fun i _=>by unfold dgF;rw [if_pos rfl]
 have hb:∀ k,k<=n->0 < AGc f k/\AGc f k<=2 ^ k:=fun k=>by
   induction k with
   | zero=>intro _;simp [AGc]
   | succ k ih=>
     intro hk
     have h1:=ih (by omega)
     have h2:=h k (by omega)
     simp only [AGc]
     refine ⟨Int.mul_pos h1.1 (by omega),?_⟩
     rw [Int.pow_succ]
     exact Int.mul_le_mul h1.2 h2.2 (by omega) (Int.le_of_lt (AUt k))
 refine ⟨fun i j hi hj=>?_,fun k hk=>by rw [hd k hk];exact (hb k hk).1,?_⟩
 ·unfold dgF;split
  ·next h=>subst h;rw [if_pos rfl]
  ·next h=>rw [if_neg (fun h2=>h h2.symm)]
 ·rw [hd n (Nat.le_refl n)];have:=(hb n (Nat.le_refl n)).2;have h2:=AWt hn;omega
structure As9 (n:Nat) (A:Nat->Nat->Int):Prop where
  n1:1<=n
  n8:n<=8
  sym:AKa n A
  pos:ALr n A
  bd:∀ i j,i < n->j < n->(A i j).natAbs<=9
  dt:det n A<=10000
theorem Ahl {n m:Nat} {f:Nat->Int} (h:∀ r,r < n->1<=f r/\f r<=(m:Int)):∀ i j,i < n->j < n->(dgF f i j).natAbs<=m:=fun i j hi hj=>by
  unfold dgF
  have:=h i hi
  split <;> omega
theorem Arw {fuel:Nat} {a1 a2 most:Int} {L L2:List Int} (h1:0<=a1/\a1 < 256) (hm:1<=most/\most<=8) (hf:100 < fuel):Ok (AEv fuel a1 a2 L L2 most) fun r=> ∃ n A,r=tab n n A/\As9 n A/\(n:Int)=1 + Int.tmod a1 most:=by
 have t1:=Int.emod_nonneg a1 (show most≠0 by omega);have t2:=Int.emod_lt_of_pos a1 (show 0 < most by omega);have t3:Int.tmod a1 most=a1 % most:=Int.tmod_eq_emod_of_nonneg h1.1
 have hN:w64 (1 + Int.tmod (w64 a1) most)=((1 + a1 % most).toNat:Int):=by
   rw [AD6 (x:=a1) (by omega) (by omega),t3,wk (by omega)];omega
 generalize hNN:(1 + a1 % most).toNat=N at hN;have Ae:1<=N:=by omega
 have Ab:N<=8:=by omega
 unfold AEv;refine AEo (by omega) (ABm (Q:=fun e=> ∃ (q:Nat) (F:Nat->Nat->Int),e=(tab N N F,(q:Int))/\q<=200/\ ∀ i j,i < N->j < N->(F i j).natAbs<=9) (ABm (Q:=fun _=>True) ?_ fun k _=>ACk (fun _=>?_) fun _=>ACk (fun _=>?_) fun _=>ACk (fun _=>?_) fun _=>ACk (fun _=>?_) fun _=>?_) fun e he=>?_)
 ·exact ACk (fun _=>ABj trivial) fun _=>ACk (fun _=>ABj trivial) fun _=>ACk (fun _=>ABj trivial) fun _=>ABj trivial
 ·refine ABm (Q:=fun e=> ∃ (q:Nat) (F:Nat->Nat->Int),e=(tab N N F,(q:Int))/\q<=200/\ ∀ i j,i < N->j < N->(F i j).natAbs<=9) (ABm (Q:=fun e=> ∃ (q:Nat) (f:Nat->Int),e=(tab N N (dgF f),(q:Int))/\q<=8/\ ∀ r,r < N->1<=f r/\f r<=6) (AEo (by rw [hN];omega) (ABm (As8 (q0:=0) (L:=L) hN Ab (by omega) hf) fun e he=>ABj ?_)) fun e he=>?_) fun e he=>ABj he
  ·obtain ⟨q,f,rfl,h2,h3⟩:=he;exact ⟨q,f,rfl,by omega,h3⟩
  ·obtain ⟨q,f,rfl,h2,h3⟩:=he;refine ABm (Art (L:=L) (q0:=q) Ab (by omega) (fun i j hi hj=>Nat.le_trans (Ahl (m:=6) h3 i j hi hj) (by decide)) hf) fun e he=>ABj ?_;obtain ⟨q,F,rfl,h4,h5⟩:=he;exact ⟨q,F,rfl,by omega,h5⟩
 ·rw [hN];refine ABm (Ahk Ae Ab hf) fun F hF=>?_;obtain ⟨F,rfl,hF⟩:=hF;refine AB4 (n:=0) (ADb (by omega)) rfl (AB4 (n:=0) (ACj (by omega)) rfl (ABm (Q:=fun e:Int × Int=>0<=e.1/\e.1 < 3/\ ∃ p:Nat,e.2=(p:Int)/\p<=0 + 1) (ABm (ATy (L:=L) (q:=0) (by omega)) fun e he=>ABj ⟨(ARl _ 3 (by decide)).1,(ARl _ 3 (by decide)).2,he⟩) fun e he=>ABj ?_));obtain ⟨c1,c2,p,c3,c4⟩:=he;have c5:=hF 0 0 (by omega) (by omega);refine ⟨p,ADd F 0 fun c=>if c=0 then F 0 0 + e.1 else F 0 c,?_,by omega,fun i j hi hj=>?_⟩
  ·rw [c3,wk (by omega)];refine congrArg (fun z=>(z,(p:Int))) ?_;show (tab N N F).set 0 ((ADu N (F 0)).set 0 (F 0 0 + e.1))=_;rw [AE5];exact AHl
  ·rw [ACr];split
   ·split
    ·omega
    ·have:=hF 0 j (by omega) hj;omega
   ·have:=hF i j hi hj;omega
 ·rw [hN];refine ABm (Ahk Ae Ab hf) fun F hF=>?_;obtain ⟨F,rfl,hF⟩:=hF;have w1:w64 ((N:Int) - 1)=((N - 1:Nat):Int):=by rw [wk (by omega)];omega
  rw [w1];refine AB4 (ADb (by omega)) rfl (AB4 (ACj (by omega)) rfl (ABm (Q:=fun e:Int × Int=>0<=e.1/\e.1 < 2/\ ∃ p:Nat,e.2=(p:Int)/\p<=0 + 1) (ABm (ATy (L:=L) (q:=0) (by omega)) fun e he=>ABj ⟨(ARl _ 2 (by decide)).1,(ARl _ 2 (by decide)).2,he⟩) fun e he=>ABj ?_));obtain ⟨c1,c2,p,c3,c4⟩:=he;have c5:=hF (N - 1) (N - 1) (by omega) (by omega);refine ⟨p,ADd F (N - 1) fun c=>if c=N - 1 then F (N - 1) (N - 1) + e.1 else F (N - 1) c,?_,by omega,fun i j hi hj=>?_⟩
  ·rw [c3,wk (by omega),ADv,ADv];refine congrArg (fun z=>(z,(p:Int))) ?_;rw [AE5];exact AHl
  ·rw [ACr];split
   ·split
    ·omega
    ·have:=hF (N - 1) j (by omega) hj;omega
   ·have:=hF i j hi hj;omega
 ·refine ABm (Q:=fun e=> ∃ (q:Nat) (F:Nat->Nat->Int),e=(tab N N F,(q:Int))/\q<=200/\ ∀ i j,i < N->j < N->(F i j).natAbs<=9) (AEo (by rw [hN];omega) (ABm (Arq (q0:=0) (L:=L) hN Ab (by omega) hf) fun e he=>ABj ?_)) fun e he=>ABj he;obtain ⟨q,f,rfl,h2,h3⟩:=he;exact ⟨q,dgF f,rfl,by omega,fun i j hi hj=>Ahl (m:=9) h3 i j hi hj⟩
 ·refine ABm (Q:=fun e=> ∃ (q:Nat) (F:Nat->Nat->Int),e=(tab N N F,(q:Int))/\q<=200/\ ∀ i j,i < N->j < N->(F i j).natAbs<=9) (AEo (by rw [hN];omega) (ABm (Arr (q0:=0) (L:=L) hN Ab (by omega) hf) fun e he=>ABj ?_)) fun e he=>ABj he;obtain ⟨q,f,rfl,h2,h3⟩:=he;exact ⟨q,dgF f,rfl,by omega,fun i j hi hj=>Nat.le_trans (Ahl (m:=1) h3 i j hi hj) (by decide)⟩
 ·obtain ⟨q,F,rfl,h2,h3⟩:=he;dsimp only;refine ABm (Aru Ae Ab (fun i j hi hj=>Nat.le_trans (h3 i j hi hj) (by decide)) hf) fun b hb=>ACk (fun hn=>?_) fun hn=>ABj ?_
  ·refine ABm (Q:=fun e=> ∃ f:Nat->Int,e.1=tab N N (dgF f)/\ ∀ r,r < N->1<=f r/\f r<=2) (AEo (by rw [hN];omega) (ABm (Ars (q0:=q) (L:=L) hN Ab (by omega) hf) fun e he=>ABj ?_)) fun e he=>ABj ?_
   ·obtain ⟨q,f,rfl,h4,h5⟩:=he;exact ⟨f,rfl,h5⟩
   ·obtain ⟨f,h4,h5⟩:=he;obtain ⟨d1,d2,d3⟩:=Arv Ab h5;exact ⟨N,dgF f,h4,⟨Ae,Ab,d1,d2,fun i j hi hj=>Nat.le_trans (Ahl (m:=2) h5 i j hi hj) (by decide),d3⟩,by rw [t3];omega⟩
  ·have hg:AKa N F/\ALr N F/\det N F<=10000:=hb.1 (by simpa using hn);exact ⟨N,F,rfl,⟨Ae,Ab,hg.1,hg.2.1,h3,hg.2.2⟩,by rw [t3];omega⟩
theorem Arx {fuel:Nat} {a1 a2 most:Int} {L L2:List Int} (h1:0<=a1/\a1 < 256) (hm:1<=most/\most<=8) (hf:AEt < fuel):Ok (AEw fuel a1 a2 L L2 most) fun r=> ∃ n A,r=tab n n A/\1<=n/\(n:Int)<=most/\Afu n A/\ ∀ k,k < n->A k k<=3 * dm9:=by
  have hf2:100 < fuel:=Nat.lt_of_le_of_lt (by decide) hf;unfold AEw;refine ABm (Arw h1 hm hf2) fun g hg=>?_;obtain ⟨n,A,rfl,G,hn⟩:=hg;have t2:=Int.emod_lt_of_pos a1 (show 0 < most by omega);have t3:Int.tmod a1 most=a1 % most:=Int.tmod_eq_emod_of_nonneg h1.1
  let A0:Nat->Nat->Int:=fun i j=>if i < n/\j < n then A i j else 0
  have hA0:∀ i j,i < n->j < n->A0 i j=A i j:=fun i j hi hj=>if_pos ⟨hi,hj⟩;have e:tab n n A=tab n n A0:=AMm fun i j hi hj=>(hA0 i j hi hj).symm;refine ABm (AC7 (Afv G.n1 (by have:=G.n8;omega) (fun i j hi hj=>Nat.le_trans (G.bd i j hi hj) (by decide)) (by omega))) fun x hx=>?_;subst hx;rw [e];have hp:ALr n A0:=fun k hk=>by rw [ADc fun i j hi hj=>hA0 i j (by omega) (by omega)];exact G.pos k hk
  have hs:AKa n A0:=fun i j hi hj=>by rw [hA0 i j hi hj,hA0 j i hj hi];exact G.sym i j hi hj
  have hE:∀ i j,(A0 i j).natAbs<=9:=fun i j=>by
    show (if i < n/\j < n then A i j else 0).natAbs<=9
    split
    · next h=>exact G.bd i j h.1 h.2
    · decide
  have hh:=Al3 hs hp (B:=9) (by decide) (fun i hi=>by have:=hE i i;omega)
  refine ABm (Ai2 G.n1 G.n8 hs hp (fun i j=>Nat.le_trans (hE i j) (by decide)) (fun k hk=>?_) (fun k hk=>?_) ?_ hf) fun r hr=>ABj ?_
  · have h2:=hh k hk
    have h3:(9:Int) ^ k<=9 ^ 8:=by
      have:=Nat.pow_le_pow_right (show 0 < 9 by omega) (show k<=8 by have:=G.n8;omega);have e2:∀ t:Nat,(9:Int) ^ t=((9 ^ t:Nat):Int):=fun t=>by simp
      rw [e2,e2];omega
    exact Int.le_trans h2 h3
  · have:=hE k k;have:(3 * dm9)=129140163:=by decide
    omega
  · rw [ADc hA0];exact G.dt
  · obtain ⟨A',T,rfl,R,-,-,hd⟩:=hr;exact ⟨n,A',rfl,G.n1,by rw [hn,t3];omega,R,hd⟩
theorem Amj {A:Nat->Nat->Int} {k:Nat} (h1:LvF A k) (h2:SzF A (k + 1) k) (hp:0 < det (k + 1) A):det (k + 1) A * det (k + 1) A<=2 * (det k A * det (k + 2) A):=by
 unfold LvF at h1;unfold SzF at h2;have h3:(2 * Mn k A (k + 1) k) * (2 * Mn k A (k + 1) k)<=det (k + 1) A * det (k + 1) A:=ASd (by omega) h2.2;have h4:(2 * Mn k A (k + 1) k) * (2 * Mn k A (k + 1) k)=4 * (Mn k A (k + 1) k * Mn k A (k + 1) k):=by grind
 omega
theorem AMo {x y:Int} (h0:0<=x) (h:x<=y):∀ k:Nat,x ^ k<=y ^ k
  | 0=>by simp
  | k + 1=>by
    rw [Int.pow_succ,Int.pow_succ]
    exact Int.mul_le_mul (AMo h0 h k) h h0 (Int.le_trans (Int.pow_nonneg h0) (AMo h0 h k))
def tri:Nat->Nat
  | 0=>0
  | k + 1=>tri k + (k + 1)
theorem Afw {n:Nat} {A:Nat->Nat->Int} (hp:ALr n A) (hs:AUu A n) (hl:AV5 A n):∀ k,k + 1<=n->det k A ^ (k + 1)<=det (k + 1) A ^ k * 2 ^ tri k:=by
  intro k;induction k with
  | zero=>intro _;simp [det,tri]
  | succ k ih=>
    intro hk;have ih:=ih (by omega);have p0:=hp k (by omega);have p1:=hp (k + 1) (by omega);have p2:=hp (k + 2) (by omega);have h1:=Amj (hl k (by omega)) (hs (k + 1) k (by omega) (by omega)) p1;generalize det k A=a at *
    generalize det (k + 1) A=b at *
    generalize det (k + 2) A=c at *
    have h2:(b * b) ^ (k + 1)<=(2 * (a * c)) ^ (k + 1):=AMo (Int.le_of_lt (Int.mul_pos p1 p1)) h1 _;rw [Int.mul_pow,Int.mul_pow,Int.mul_pow] at h2;have h3:a ^ (k + 1) * c ^ (k + 1)<=b ^ k * 2 ^ tri k * c ^ (k + 1):=Int.mul_le_mul_of_nonneg_right ih (Int.le_of_lt (Int.pow_pos p2));have h4:2 ^ (k + 1) * (a ^ (k + 1) * c ^ (k + 1))<=2 ^ (k + 1) * (b ^ k * 2 ^ tri k * c ^ (k + 1)):=Int.mul_le_mul_of_nonneg_left h3 (Int.le_of_lt (AUt _));have h5:=Int.le_trans h2 h4;have e1:b ^ (k + 1) * b ^ (k + 1)=b ^ k * b ^ (k + 1 + 1):=by rw [Int.pow_succ b k,Int.pow_succ b (k + 1),Int.pow_succ b k];grind
    have e2:(2:Int) ^ (k + 1) * (b ^ k * 2 ^ tri k * c ^ (k + 1))=b ^ k * (c ^ (k + 1) * 2 ^ tri (k + 1)):=by
      have:(2:Int) ^ tri (k + 1)=2 ^ tri k * 2 ^ (k + 1):=by rw [<- Int.pow_add];rfl
      rw [this];grind
    rw [e1,e2] at h5;exact Int.le_of_mul_le_mul_left h5 (Int.pow_pos p1)
def dU:Nat->Int
  | 8=>10000
  | 7=>35777
  | 6=>64000
  | 5=>57243
  | 4=>25600
  | _=>10000
theorem Ata (k:Nat):dU k<=64000:=by unfold dU;split <;> omega
theorem Aqe (k:Nat):10000<=dU k:=by unfold dU;split <;> omega
theorem Ao8:∀ k,k < 8->dU (k + 1) ^ k * 2 ^ tri k < (dU k + 1) ^ (k + 1):=by decide
theorem Ai3 {n:Nat} {A:Nat->Nat->Int} (hn:n<=8) (hp:ALr n A) (hs:AUu A n) (hl:AV5 A n) (hd:det n A<=10000):∀ m k,k + m=n->det k A<=dU k:=by
 intro m
 induction m with
 | zero=>
     intro k hk;obtain rfl:k=n:=by omega
     exact Int.le_trans hd (Aqe _)
 | succ m ih=>
   intro k hk
   have h1:=ih (k + 1) (by omega)
   have h2:=Afw hp hs hl k (by omega)
   have p0:=hp k (by omega)
   have p1:=hp (k + 1) (by omega)
   rcases Int.lt_or_le (dU k) (det k A) with h | h
   · exfalso
     have h3:(dU k + 1) ^ (k + 1)<=det k A ^ (k + 1):=AMo (by have:=Aqe k;omega) (by omega) _
     have h4:det (k + 1) A ^ k * 2 ^ tri k<=dU (k + 1) ^ k * 2 ^ tri k:=Int.mul_le_mul_of_nonneg_right (AMo (Int.le_of_lt p1) h1 k) (Int.le_of_lt (AUt _))
     have h5:=Ao8 k (by omega)
     omega
   · exact h
theorem Adx {n:Nat} {A:Nat->Nat->Int} (hn:n<=8) (R:Afu n A) {k:Nat} (hk:k<=n):0 < det k A/\det k A<=64000:=
  ⟨R.pos k hk,Int.le_trans (Ai3 hn R.pos R.sz R.lv R.dt (n - k) k (by omega)) (Ata k)⟩
theorem Abj {n:Nat} {A:Nat->Nat->Int} (hn:n<=8) (R:Afu n A) {i j:Nat} (hi:i < n) (hj:j < n): -192000<=A i j/\A i j<=192000:=
  Adv R.sym R.pos (fun k hk=>Adm (Dm:=64000) hn R.sym R.pos hk (fun k hk=>(Adx hn R hk).2) fun l hl=>R.sz k l hl hk) hi hj
structure RB (n:Nat) (A:Nat->Nat->Int) (k:Nat):Prop where
  pos:∀ j,k < j->j<=n->0 < det j A
  lt:∀ j,k < j->j < n->det j A < 65536
  sz:∀ l i,k<=l->l < i->i < n->SzF A i l
  lv:∀ l,k<=l->l + 1 < n->LvF A l
  dt:det n A<=10000
theorem Ary {A F:Nat->Nat->Int} {m k:Nat} (h0:0 < det k A) (hF:∀ i j,i < m + 1->j < m + 1->F i j=Mn k A (k + i) (k + j)) {i j:Nat} (hi:i < m) (hj:j < m):AO7 F (det k A) i j=Mn (k + 1) A (k + 1 + i) (k + 1 + j):=by
 unfold AO7;rw [hF 0 0 (by omega) (by omega),hF (i + 1) (j + 1) (by omega) (by omega),hF (i + 1) 0 (by omega) (by omega),hF 0 (j + 1) (by omega) (by omega),Nat.add_zero,AWm (by omega),Int.mul_tdiv_cancel_left _ (by omega)];rw [show k + (i + 1)=k + 1 + i by omega,show k + (j + 1)=k + 1 + j by omega]
theorem Ady {n:Nat} {A:Nat->Nat->Int}:∀ (m k:Nat) (F:Nat->Nat->Int),k + m=n->1<=m->0 < det k A->(∀ i j,i < m->j < m->F i j=Mn k A (k + i) (k + j))->(ANz m F (det k A)=true↔RB n A k):=by
 intro m
 induction m with
 | zero=>intro k F _ h;omega
 | succ m ih=>
   intro k F hk _ h0 hF
   have Ad:F 0 0=det (k + 1) A:=by rw [hF 0 0 (by omega) (by omega)];exact AK7 k A
   cases m with
   | zero=>
     obtain rfl:k + 1=n:=hk
     show decide (0 < F 0 0/\F 0 0<=10000)=true↔_
     rw [decide_eq_true_iff,Ad]
     exact ⟨fun h=>⟨fun j h1 h2=>by
       obtain rfl:j=k + 1:=by omega
       exact h.1,fun j h1 h2=>by omega,fun l i h1 h2 h3=>by omega,fun l h1 h2=>by omega,h.2⟩,fun h=>⟨h.pos (k + 1) (by omega) (Nat.le_refl _),h.dt⟩⟩
   | succ m=>
     have hN:∀ i j,i < m + 1->j < m + 1->AO7 F (det k A) i j=Mn (k + 1) A (k + 1 + i) (k + 1 + j):=fun i j hi hj=>Ary h0 hF hi hj
     have hS:ANy (m + 1 + 1) F↔(0 < det (k + 1) A/\det (k + 1) A < 65536)/\ ∀ i,k < i->i < n->SzF A i k:=by
       unfold ANy
       rw [Ad]
       refine and_congr_right fun _=>⟨fun h i h1 h2=>?_,fun h i h1 h2=>?_⟩
       · have h3:=h (i - k) (by omega) (by omega)
         rw [hF (i - k) 0 (by omega) (by omega),show k + (i - k)=i by omega] at h3
         unfold SzF
         simp only [Nat.add_zero] at h3
         omega
       · have h3:=h (k + i) (by omega) (by omega)
         unfold SzF at h3
         rw [hF i 0 h2 (by omega),Nat.add_zero]
         omega
     have hL:AS9 F (det k A)↔LvF A k:=by
       unfold AS9 LvF
       rw [Ad,hN 0 0 (by omega) (by omega),Nat.add_zero,AK7 (k + 1) A,hF 1 0 (by omega) (by omega),Nat.add_zero]
       have e:3 * det (k + 1) A * det (k + 1) A=3 * (det (k + 1) A * det (k + 1) A):=by grind
       rw [e]
       exact Iff.rfl
     show (decide (ANy (m + 1 + 1) F) && (decide (AS9 F (det k A)) && ANz (m + 1) (AO7 F (det k A)) (F 0 0)))=true↔_
     rw [Bool.and_eq_true,Bool.and_eq_true,decide_eq_true_iff,decide_eq_true_iff,hS,hL,Ad]
     constructor
     · rintro ⟨⟨⟨h1,h2⟩,h3⟩,h4,h5⟩
       have R:=(ih (k + 1) _ (by omega) (by omega) h1 hN).1 h5
       refine ⟨fun j a b=>?_,fun j a b=>?_,fun l i a b c=>?_,fun l a b=>?_,R.dt⟩
       · by_cases e:j=k + 1
         · subst e;exact h1
         · exact R.pos j (by omega) b
       · by_cases e:j=k + 1
         · subst e;exact h2
         · exact R.lt j (by omega) b
       · by_cases e:l=k
         · subst e;exact h3 i b c
         · exact R.sz l i (by omega) b c
       · by_cases e:l=k
         · subst e;exact h4
         · exact R.lv l (by omega) b
     · intro R
       have h1:=R.pos (k + 1) (by omega) (by omega)
       exact ⟨⟨⟨h1,R.lt (k + 1) (by omega) (by omega)⟩,fun i a b=>R.sz k i (Nat.le_refl k) a b⟩,R.lv k (Nat.le_refl k) (by omega),(ih (k + 1) _ (by omega) (by omega) h1 hN).2 ⟨fun j a b=>R.pos j (by omega) b,fun j a b=>R.lt j (by omega) b,fun l i a b c=>R.sz l i (by omega) b c,fun l a b=>R.lv l (by omega) b,R.dt⟩⟩
def AT0 (M:List (List Int)):Prop:=(1<=M.length/\M.length<=8)/\(∀ z∈M,z.length=M.length)/\Afu M.length (ent M)
theorem AS4 (M:List (List Int)):isRed M=true↔AT0 M:=by
 unfold isRed;rw [Bool.and_eq_true];constructor
 ·rintro ⟨h1,h2⟩;have S:=AX2 h1;have R:=(Ady (A:=ent M) (n:=M.length) M.length 0 (ent M) (by omega) S.1.1 (by simp [det]) fun i j _ _=>by rw [ANf,Nat.zero_add,Nat.zero_add]).1 (by simpa [det] using h2);refine ⟨S.1,S.2.1,fun i j hi hj=>(S.2.2 i j hi hj).1,fun k hk=>?_,fun r l h3 h4=>R.sz l r (Nat.zero_le _) h3 h4,fun l hl=>R.lv l (Nat.zero_le _) hl,R.dt⟩;rcases Nat.eq_zero_or_pos k with h | h
  ·subst h;simp [det]
  ·exact R.pos k h hk
 ·rintro ⟨h1,h2,R⟩;refine ⟨(AGa ⟨h1,h2,fun i j hi hj=>⟨R.sym i j hi hj,?_,?_⟩⟩).symm,?_⟩
  ·have:=Abj h1.2 R hi hj;omega
  ·have:=Abj h1.2 R hi hj;omega
  ·have h3:=(Ady (A:=ent M) (n:=M.length) M.length 0 (ent M) (by omega) h1.1 (by simp [det]) fun i j _ _=>by rw [ANf,Nat.zero_add,Nat.zero_add]).2 ⟨fun j _ hj=>R.pos j hj,fun j _ hj=>by have:=Adx h1.2 R (k:=j) (by omega);omega,fun l i _ a b=>R.sz i l a b,fun l _ hl=>R.lv l hl,R.dt⟩;simpa [det] using h3
end Go.Proofs.YtiegjkmfpcgjjaaGreatDoor
namespace Go.Proofs.YtiegjkmfpcgjjaaGreatDoor
open Go Go.QF
open Go.ChangeShapes Go.WideShapes Go.ChangeAt Go.RowKit
set_option maxRecDepth 100000
theorem Ai4:Tryz.prog.cellsOf 26=4:=by kernel_rfl
theorem Amk {H:Type} {enc:TypeId × Value->H} {W:World} {r:Reach} {b0:Nat} {v:Value} {d:DataW H} {p:List MemPlace} (hv:Value.okWide Tryz.prog W r b0 26 v) (h:DataW.Trod enc Tryz.prog W 0 (fun _=>true) true 26 v d p):
    ∃ (g k:Int) (lv bv:Value) (Z Y:List Int),v= .agg #[.int .u8 g,.int .u8 k,lv,bv]/\SlC (cI .i8) W.heap lv Z/\SlC (cI .i8) W.heap bv Y/\(0<=g/\g < 256)/\(0<=k/\k < 256)/\(∀ z∈Z,-128<=z/\z<=127)/\ ∀ z∈Y,-128<=z/\z<=127:=by
  obtain ⟨cs,rfl,hsz⟩:=okWide_struct Tryz.underlying26 hv;rw [Ai4] at hsz;obtain ⟨l⟩:=cs
  match l,hsz with
  | [c0,c1,c2,c3],_=>
    obtain ⟨fuel,hf⟩:=h;obtain ⟨y0,y1,y2,y3,n,_,_,h0,h1,h2,h3⟩:=Joins.trod_struct4 Tryz.underlying26 hf;simp [Value.cells,Aj5,Aj6] at h0 h1 h2 h3;obtain ⟨x0,e0,_,w0⟩:=DataW.trod_int Tryz.underlying5 h0;obtain ⟨x1,e1,_,w1⟩:=DataW.trod_int Tryz.underlying5 h1;simp at e0 e1;subst e0;subst e1;have b0:=wf_u8 w0;have b1:=wf_u8 w1;obtain ⟨Z,HZ,hZ⟩:=Aj7 h2;obtain ⟨Y,HY,hY⟩:=Aj7 h3;exact ⟨x0,x1,c2,c3,Z,Y,rfl,Afk HZ,Afk HY,by omega,by omega,hZ,hY⟩
end Go.Proofs.YtiegjkmfpcgjjaaGreatDoor
namespace Go.QF
open Go
theorem AWu:∀ u∈([]:List Value),isOne u=true:=fun u h=>by cases h
theorem ANm {v:Value} {l:List Value} (h:isOne v=true) (H:∀ u∈l,isOne u=true):∀ u∈v :: l,isOne u=true:=fun u hu=>(List.mem_cons.1 hu).elim (fun e=>e ▸ h) (H u)
section
variable {P:Program} {B:ABg->Prop} {st:Bool} {ops:Array Oper} {rest:List Oper} {e:Env} {h:ABg} {K:Env->ABg->Prop} {d:Nat} {ty:TypeId} {pos:String} {af:Array Edge}
end
end Go.QF
namespace Go.QF
open Go
theorem Aml (l:List Value):(l.map fun r=>[r]).flatten=l:=by
 induction l with
 | nil=>rfl
 | cons a L ih=>simp [ih]
def AV6 {α:Type} (c:Cod α) (el:Nat) (h:ABg):List (List Nat)->List Value->List (List α)->Prop
  | [],[],[]=>True
  | G :: Gs,r :: rs,L :: M=>OwC c el h G r L/\AV6 c el h Gs rs M
  | _,_,_=>False
theorem AV6.len {α:Type} {c:Cod α} {el:Nat} {h:ABg}:∀ {Gs:List (List Nat)} {rs:List Value} {M:List (List α)},AV6 c el h Gs rs M->rs.length=M.length/\Gs.length=M.length
  | [],[],[],_=>⟨rfl,rfl⟩
  | G :: Gs,r :: rs,L :: M,H=>by have:=AV6.len H.2;simp [this.1,this.2]
theorem AV6.get {α:Type} {c:Cod α} {el:Nat} {h:ABg}:∀ {Gs:List (List Nat)} {rs:List Value} {M:List (List α)},AV6 c el h Gs rs M-> ∀ (i:Nat) (G:List Nat) (r:Value) (L:List α),Gs[i]? =some G->rs[i]? =some r->M[i]? =some L->OwC c el h G r L
  | [],[],[],_,i,G,r,L,h1,_,_=>by simp at h1
  | G0 :: Gs,r0 :: rs,L0 :: M,H,0,G,r,L,h1,h2,h3=>by simp at h1 h2 h3;subst h1;subst h2;subst h3;exact H.1
  | G0 :: Gs,r0 :: rs,L0 :: M,H,i + 1,G,r,L,h1,h2,h3=>AV6.get H.2 i G r L (by simpa using h1) (by simpa using h2) (by simpa using h3)
section
variable {P:Program} {B:ABg->Prop} {st:Bool} {ops:Array Oper} {rest:List Oper} {e:Env} {h:ABg} {K:Env->ABg->Prop} {d:Nat} {ty:TypeId} {pos:String} {af:Array Edge}
theorem AS5 {α:Type} {c:Cod α} (Gs:List (List Nat)) (rs:List Value) (M:List (List α)) {t er el bytes n:Nat} {z:Value} {parts:List (Nat × Operand)} (hT:SlT P t er 1) (hz:ZeT P er z bytes) (h1:isOne z=true) (hel:Nat.beq er 147=false) (hb:B h) (hBE:∀ h',Ext h h'->B h') (hn:rs.length=n) (Aa:Nat.ble n 16777216=true) (hpos:Nat.ble 1 n=true) (hp:(parts.map fun (i,x)=>(i,e.ev x))=partsOf 0 rs) (hone:∀ u∈rs,isOne u=true) (hr:AV6 c el h Gs rs M) (hnd:Gs.flatten.Nodup) (H:∀ b v h',AE8 c er el h' (b :: Gs.flatten) Gs rs v M->Ext h h'->(∀ z∈b :: Gs.flatten,z∈Gs.flatten∨h.size<=z)->RL P B st ops rest (e.set d v) h' K):RL P B st ops (⟨some d,.buildSlice t n parts.toArray,ty,pos,af,none⟩ :: rest) e h K:=by
 have Aa:=Nat.le_of_ble_eq_true Aa;have E:Ext h (h.push (.cells rs.toArray er (0,0))):=AD8 _ _;have HO:AI3 (h.push (.cells rs.toArray er (0,0))) er 1 h.size (.slice (some ⟨h.size,0,none⟩) n n) (rs.map fun r=>[r]):=⟨n,rs.toArray,by rw [List.length_map,hn],by simp,by simp [hn],by unfold maxLen;omega,by simp [hn],fun r hr=>by obtain ⟨a,_,rfl⟩:=List.mem_map.1 hr;rfl,by rw [Aml];simp⟩
 have hlt:∀ z∈Gs.flatten,z < h.size:=fun z hz=>by
   obtain ⟨G,hG,hzG⟩:=List.mem_flatten.1 hz
   obtain ⟨i,hi⟩:=List.getElem?_of_mem hG
   have hi':=(List.getElem?_eq_some_iff.1 hi).1
   have hl:=hr.len
   exact (hr.get i G (rs[i]'(by omega)) (M[i]'(by omega)) hi (List.getElem?_eq_getElem _) (List.getElem?_eq_getElem _)).lt z hzG
 refine Anc rs hT hz h1 hb hn Aa (Nat.le_of_ble_eq_true hpos) hp hone ⟨hBE _ E,H h.size _ _ (.inr ⟨h.size,rfl,?_,HO,hel,hr.len.1,hr.len.2,fun i G r L a1 a2 a3=>(hr.get i G r L a1 a2 a3).ext E⟩) E fun z hz=>?_⟩
 ·exact List.nodup_cons.2 ⟨fun hm=>by have:=hlt _ hm;omega,hnd⟩
 ·rcases List.mem_cons.1 hz with rfl | h2
  ·exact .inr (Nat.le_refl _)
  ·exact .inl h2
end
end Go.QF
namespace Go.Proofs.YtiegjkmfpcgjjaaGreatDoor
open Go Go.QF
def aT (F:List Nat):Asr:=⟨F,fun h=> ∀ b∈F,APp h b,fun {G h h'} U d H b hb=>by
  obtain ⟨o,h1,h2⟩:=H b hb;exact ⟨o,(U.1.2 b (Array.getElem?_eq_some_iff.1 h1).1 (d b hb)).trans h1,h2⟩⟩
namespace Kst
variable {h0 h h':ABg} {l l':List Asr}
theorem a0 (k:Kst h0 h l):Kst h0 h (aT [] :: l):=k.n (Ext.refl h) [aT []] (by exact ⟨by simp [fps,aT],fun b hb=>by simp [fps,aT] at hb⟩) ⟨fun b hb=>by simp at hb,trivial⟩
theorem grab {α:Type} {c:Cod α} {F R:List Nat} {j el:Nat} {w:Value} {y:List α} (k:Kst h0 h (aT F :: l)) (e:Rep j l (aO c el R w y) (aC True) l'):Kst h0 h (aT (F ++ R) :: l'):=by
 obtain ⟨e,rfl⟩:=e;have HR:OwC c el h R w y:=AMj k.p.2 e;have e1:(fps (aT F :: l))[j + 1]? =some R:=(ALu e:(fps l)[j]? =some R);have e0:(fps (aT F :: l))[0]? =some F:=rfl;have hd:=k.s.dj 0 (j + 1) e0 e1 (by omega);have hF:F.Nodup:=(List.nodup_append.1 k.s.1).1;have:=k.s.put2 0 (j + 1) (F':=F ++ R) e0 e1 (by omega) (List.nodup_append.2 ⟨hF,HR.nodup,fun a ha b hb hab=>hd a ha (hab ▸ hb)⟩) (Nat.le_refl _) k.x.1 (fun x hx=>(List.mem_append.1 hx).elim (fun h=>(k.s.lo 0 e0 x h).2) fun h=>HR.lt x h) (fun x hx=>(List.mem_append.1 hx).elim .inl fun h=> .inr (.inl h));refine ⟨k.x,?_,fun b hb=>(List.mem_append.1 hb).elim (k.p.1 b) (HR.notD b),AZd k.p.2 j⟩
 have e2:fps (aT (F ++ R) :: l.set j (aC True))=((fps (aT F :: l)).set (j + 1) []).set 0 (F ++ R):=by
   show (F ++ R) :: fps (l.set j (aC True))=_
   rw [AUm];rfl
 rw [e2];exact this
theorem ndT {F:List Nat} (k:Kst h0 h (aT F :: l)):F.Nodup:=(List.nodup_append.1 k.s.1).1
theorem lit {α:Type} {c:Cod α} {er el:Nat} {F F':List Nat} {Gs:List (List Nat)} {rs:List Value} {v:Value} {x:List (List α)} (k:Kst h0 h (aT F :: l)) (E:Ext h h') (V:AE8 c er el h' F' Gs rs v x) (hs:∀ z∈F',z∈F∨h.size<=z):Kst h0 h' (aO2 c er el F' Gs rs v x :: l):=
  k.u p0 (E.upT.mono (fun x hx=>by simp at hx) fun x hx _=>k.p.1 x hx) V V.nodup V.lt hs
end Kst
end Go.Proofs.YtiegjkmfpcgjjaaGreatDoor
