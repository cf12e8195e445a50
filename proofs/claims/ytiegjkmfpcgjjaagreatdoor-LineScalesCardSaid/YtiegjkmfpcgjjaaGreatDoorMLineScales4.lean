/-
  Texts of a proof, joined. Conditions stand in each statement.
-/
import Derived.Lib.SmallJoins
import Derived.Test.YtiegjkmfpcgjjaaGreatDoorMLineScales3
set_option linter.unusedVariables false
set_option linter.unusedSimpArgs false
namespace Go.Proofs.YtiegjkmfpcgjjaaGreatDoor
open Go Go.QF
set_option maxRecDepth 100000
set_option maxHeartbeats 4000000
def AE9 (fuel:Nat) (a1:Int) (a5:LiA) (Ac Aa Ad:Int) (Ae:LiI):Option ((Int × Int × LiI) ⊕ ((Int × LiI))):=
  (if Aa < ((List.replicate (Int.toNat (w64 (1 + (Int.tmod (w64 a1) Ac)))) ([]:List Int)).length:Int) then (if 0<=(w64 (1 + (Int.tmod (w64 a1) Ac)))/\(w64 (1 + (Int.tmod (w64 a1) Ac)))<=100000000 then ((gI Ae Aa).bind fun Ao=>((gI (sI Ae Aa (List.replicate (Int.toNat (w64 (1 + (Int.tmod (w64 a1) Ac)))) (0:Int))) Aa).bind fun Ag=>(((((if (a5.length:Int)<=Ad then (some ( (0,Ad))) else ((gI a5 (w64 ((w64 (Ad + 1)) - 1))).bind fun Ah=>(some ( ((w64 Ah),(w64 (Ad + 1))))))):Option (Int × Int)).bind fun (Ai,Aj)=>(some ( ((Int.tmod (w64 (IntKind.wrap .u8 Ai)) 6),Aj)))):Option (Int × Int)).bind fun (Ak,Am)=>((gI Ag Aa).bind fun Ap=>(some (Sum.inl ((w64 (Aa + 1)),Am,(sI (sI Ae Aa (List.replicate (Int.toNat (w64 (1 + (Int.tmod (w64 a1) Ac)))) (0:Int))) Aa (sI Ag Aa (w64 (1 + Ak))))))))))) else none) else (some (Sum.inr<| (Ad,Ae))))
def AGp (fuel:Nat) (a5:LiA) (Ab Aa Ac:Int) (Ad:LiI):Option ((Int × Int × LiI) ⊕ ((Int × LiI))):=
  (if Aa < Ab then ((gI Ad Ab).bind fun Ae=>(((if (a5.length:Int)<=Ac then (some ( (0,Ac))) else ((gI a5 (w64 ((w64 (Ac + 1)) - 1))).bind fun Ai=>(some ( ((w64 Ai),(w64 (Ac + 1))))))):Option (Int × Int)).bind fun (Af,Aj)=>((gI Ae Aa).bind fun Ao=>((gI (sI Ad Ab (sI Ae Aa (Int.tmod Af 3))) Aa).bind fun Ah=>((gI (sI Ad Ab (sI Ae Aa (Int.tmod Af 3))) Ab).bind fun Ak=>((gI Ak Aa).bind fun Am=>((gI Ah Ab).bind fun Ap=>(some (Sum.inl ((w64 (Aa + 1)),Aj,(sI (sI Ad Ab (sI Ae Aa (Int.tmod Af 3))) Aa (sI Ah Ab Am)))))))))))) else (some (Sum.inr<| (Ac,Ad))))
def AFa (fuel:Nat) (a5:LiA) (Ae:LiI) (Aa Ab:Int) (Ac:LiI):Option ((Int × Int × LiI) ⊕ ((Int × LiI))):=
  (if Aa < (Ae.length:Int) then ((iter (fun s=>AGp fuel a5 Aa s.1 s.2.1 s.2.2) fuel (0,Ab,Ac)).bind (fun ((Af,Ag):Int × LiI)=>(some (Sum.inl ((w64 (Aa + 1)),Af,Ag))))) else (some (Sum.inr<| (Ab,Ac))))
def AEz (fuel:Nat) (a1:Int) (a5:LiA) (Ac Aa Ad:Int) (Ae:LiI):Option ((Int × Int × LiI) ⊕ ((Int × LiI))):=
  (if Aa < ((List.replicate (Int.toNat (w64 (1 + (Int.tmod (w64 a1) Ac)))) ([]:List Int)).length:Int) then (if 0<=(w64 (1 + (Int.tmod (w64 a1) Ac)))/\(w64 (1 + (Int.tmod (w64 a1) Ac)))<=100000000 then ((gI Ae Aa).bind fun Ao=>((gI (sI Ae Aa (List.replicate (Int.toNat (w64 (1 + (Int.tmod (w64 a1) Ac)))) (0:Int))) Aa).bind fun Ag=>(((((if (a5.length:Int)<=Ad then (some ( (0,Ad))) else ((gI a5 (w64 ((w64 (Ad + 1)) - 1))).bind fun Ah=>(some ( ((w64 Ah),(w64 (Ad + 1))))))):Option (Int × Int)).bind fun (Ai,Aj)=>(some ( ((Int.tmod (w64 (IntKind.wrap .u8 Ai)) 9),Aj)))):Option (Int × Int)).bind fun (Ak,Am)=>((gI Ag Aa).bind fun Ap=>(some (Sum.inl ((w64 (Aa + 1)),Am,(sI (sI Ae Aa (List.replicate (Int.toNat (w64 (1 + (Int.tmod (w64 a1) Ac)))) (0:Int))) Aa (sI Ag Aa (w64 (1 + Ak))))))))))) else none) else (some (Sum.inr<| (Ad,Ae))))
def AE0 (fuel:Nat) (a1:Int) (a5:LiA) (Ac Aa Ad:Int) (Ae:LiI):Option ((Int × Int × LiI) ⊕ ((Int × LiI))):=
  (if Aa < ((List.replicate (Int.toNat (w64 (1 + (Int.tmod (w64 a1) Ac)))) ([]:List Int)).length:Int) then (if 0<=(w64 (1 + (Int.tmod (w64 a1) Ac)))/\(w64 (1 + (Int.tmod (w64 a1) Ac)))<=100000000 then ((gI Ae Aa).bind fun Ao=>((gI (sI Ae Aa (List.replicate (Int.toNat (w64 (1 + (Int.tmod (w64 a1) Ac)))) (0:Int))) Aa).bind fun Ag=>(((((if (a5.length:Int)<=Ad then (some ( (0,Ad))) else ((gI a5 (w64 ((w64 (Ad + 1)) - 1))).bind fun Ah=>(some ( ((w64 Ah),(w64 (Ad + 1))))))):Option (Int × Int)).bind fun (Ai,Aj)=>(some ( ((Int.tmod (w64 (IntKind.wrap .u8 Ai)) 1),Aj)))):Option (Int × Int)).bind fun (Ak,Am)=>((gI Ag Aa).bind fun Ap=>(some (Sum.inl ((w64 (Aa + 1)),Am,(sI (sI Ae Aa (List.replicate (Int.toNat (w64 (1 + (Int.tmod (w64 a1) Ac)))) (0:Int))) Aa (sI Ag Aa (w64 (1 + Ak))))))))))) else none) else (some (Sum.inr<| (Ad,Ae))))
def AE1 (fuel:Nat) (a1:Int) (a5:LiA) (Ac Aa Ad:Int) (Ae:LiI):Option ((Int × Int × LiI) ⊕ ((Int × LiI))):=
  (if Aa < ((List.replicate (Int.toNat (w64 (1 + (Int.tmod (w64 a1) Ac)))) ([]:List Int)).length:Int) then (if 0<=(w64 (1 + (Int.tmod (w64 a1) Ac)))/\(w64 (1 + (Int.tmod (w64 a1) Ac)))<=100000000 then ((gI Ae Aa).bind fun Ao=>((gI (sI Ae Aa (List.replicate (Int.toNat (w64 (1 + (Int.tmod (w64 a1) Ac)))) (0:Int))) Aa).bind fun Ag=>(((((if (a5.length:Int)<=Ad then (some ( (0,Ad))) else ((gI a5 (w64 ((w64 (Ad + 1)) - 1))).bind fun Ah=>(some ( ((w64 Ah),(w64 (Ad + 1))))))):Option (Int × Int)).bind fun (Ai,Aj)=>(some ( ((Int.tmod (w64 (IntKind.wrap .u8 Ai)) 2),Aj)))):Option (Int × Int)).bind fun (Ak,Am)=>((gI Ag Aa).bind fun Ap=>(some (Sum.inl ((w64 (Aa + 1)),Am,(sI (sI Ae Aa (List.replicate (Int.toNat (w64 (1 + (Int.tmod (w64 a1) Ac)))) (0:Int))) Aa (sI Ag Aa (w64 (1 + Ak))))))))))) else none) else (some (Sum.inr<| (Ad,Ae))))
def AEu (fuel:Nat) (a1 a2:Int) (a5 a9:LiA) (Aa:Int):Option LiI:=
  (if Aa≠0 then (((((if (Int.tmod a2 8)=0 then (some ( (decide ((Int.tmod a2 8)=0)))) else (if (Int.tmod a2 8)=1 then (some ( (decide ((Int.tmod a2 8)=1)))) else (if (Int.tmod a2 8)=2 then (some ( (decide ((Int.tmod a2 8)=2)))) else (some ( (decide ((Int.tmod a2 8)=3))))))):Option ((Bool))).bind (fun (Ak:Bool)=>(if Ak=true then (((((if 0<=(w64 (1 + (Int.tmod (w64 a1) Aa)))/\(w64 (1 + (Int.tmod (w64 a1) Aa)))<=100000000 then ((iter (fun s=>AE9 fuel a1 a5 Aa s.1 s.2.1 s.2.2) fuel (0,0,(List.replicate (Int.toNat (w64 (1 + (Int.tmod (w64 a1) Aa)))) ([]:List Int)))).bind (fun ((Am,Ao):Int × LiI)=>(some ( (Ao,Am))))) else none):Option (LiI × Int)).bind fun (Ae,Ap)=>((iter (fun s=>AFa fuel a5 Ae s.1 s.2.1 s.2.2) fuel (0,Ap,Ae)).bind (fun ((Aq,Ar):Int × LiI)=>(some ( (Ar,Aq)))))):Option (LiI × Int)).bind fun (Au,Av)=>(some ( (Au,Av)))) else (if (Int.tmod a2 8)=4 then ((AFr fuel (w64 (1 + (Int.tmod (w64 a1) Aa))) false).bind fun Af=>((gI Af 0).bind fun Ag=>((gI Ag 0).bind fun Aw=>(((((if (a5.length:Int)<=0 then (some ( (0,0))) else ((gI a5 (w64 ((w64 (0 + 1)) - 1))).bind fun Ax=>(some ( ((w64 Ax),(w64 (0 + 1))))))):Option (Int × Int)).bind fun (Ay,Az)=>(some ( ((Int.tmod (w64 (IntKind.wrap .u8 Ay)) 3),Az)))):Option (Int × Int)).bind fun (A3,A4)=>(some ( ((sI Af 0 (sI Ag 0 (w64 (Aw + A3)))),A4))))))) else (if (Int.tmod a2 8)=5 then ((AFr fuel (w64 (1 + (Int.tmod (w64 a1) Aa))) true).bind fun Ah=>((gI Ah (w64 ((w64 (1 + (Int.tmod (w64 a1) Aa))) - 1))).bind fun Ai=>((gI Ai (w64 ((w64 (1 + (Int.tmod (w64 a1) Aa))) - 1))).bind fun A5=>(((((if (a5.length:Int)<=0 then (some ( (0,0))) else ((gI a5 (w64 ((w64 (0 + 1)) - 1))).bind fun A6=>(some ( ((w64 A6),(w64 (0 + 1))))))):Option (Int × Int)).bind fun (A7,A8)=>(some ( ((Int.tmod (w64 (IntKind.wrap .u8 A7)) 2),A8)))):Option (Int × Int)).bind fun (A9,Ba)=>(some ( ((sI Ah (w64 ((w64 (1 + (Int.tmod (w64 a1) Aa))) - 1)) (sI Ai (w64 ((w64 (1 + (Int.tmod (w64 a1) Aa))) - 1)) (w64 (A5 + A9)))),Ba))))))) else (if (Int.tmod a2 8)=6 then (((if 0<=(w64 (1 + (Int.tmod (w64 a1) Aa)))/\(w64 (1 + (Int.tmod (w64 a1) Aa)))<=100000000 then ((iter (fun s=>AEz fuel a1 a5 Aa s.1 s.2.1 s.2.2) fuel (0,0,(List.replicate (Int.toNat (w64 (1 + (Int.tmod (w64 a1) Aa)))) ([]:List Int)))).bind (fun ((Bb,Bc):Int × LiI)=>(some ( (Bc,Bb))))) else none):Option (LiI × Int)).bind fun (Be,Bf)=>(some ( (Be,Bf)))) else (((if 0<=(w64 (1 + (Int.tmod (w64 a1) Aa)))/\(w64 (1 + (Int.tmod (w64 a1) Aa)))<=100000000 then ((iter (fun s=>AE0 fuel a1 a5 Aa s.1 s.2.1 s.2.2) fuel (0,0,(List.replicate (Int.toNat (w64 (1 + (Int.tmod (w64 a1) Aa)))) ([]:List Int)))).bind (fun ((Bg,Bh):Int × LiI)=>(some ( (Bh,Bg))))) else none):Option (LiI × Int)).bind fun (Bi,Bj)=>(some ( (Bi,Bj)))))))))):Option ((LiI × Int))).bind (fun ((Aj,Bl):LiI × Int)=>((AHo fuel Aj).bind fun Bm=>(if (!Bm)=true then (((if 0<=(w64 (1 + (Int.tmod (w64 a1) Aa)))/\(w64 (1 + (Int.tmod (w64 a1) Aa)))<=100000000 then ((iter (fun s=>AE1 fuel a1 a5 Aa s.1 s.2.1 s.2.2) fuel (0,Bl,(List.replicate (Int.toNat (w64 (1 + (Int.tmod (w64 a1) Aa)))) ([]:List Int)))).bind (fun ((Bn,Bo):Int × LiI)=>(some ( (Bo,Bn))))) else none):Option (LiI × Int)).bind fun (Bp,Br)=>(some Bp)) else (some Aj))))) else none)
theorem AM1 {fuel:Nat} {h:ABg} {a1 a2:Int} {Ab:Value} {a5:LiA} {Cb:Value} {a9:LiA} {Af:Int} {r:LiI} (H4:SlC (cI .i8) h Ab a5) (H8:SlC (cI .i8) h Cb a9) (hp:AEu fuel a1 a2 a5 a9 Af=some r):AB7 Tryz.prog 30 #[(.agg #[(.int .u8 a1),(.int .u8 a2),Ab,Cb]),(.int .i64 Af)] h (fun x h'=>Ext h h'/\ ∃ (x0:Value) (F0:List Nat) (Iu:List LnA) (Iv:List Value),x=x0/\AE6 (cI .i64) 23 2 h' F0 Iu Iv x0 r/\Sp h' h.size [F0]):=by
 unfold AEu at hp;refine cwf (l:=[_,_]) Tryz.func30 rfl rfl (ABh (AHx [(.int .u8 a1),(.int .u8 a2),Ab,Cb] trivial tt2 rfl rfl fun Wk Wl Iw Ix Iy=>ACq (AIn Aoh rfl ?_)));have Cd:=(Kst.k0 h).nb Ix Iy Iw;refine AB3 AOn rfl ((Cd.b p0).cell (i:=2) rfl) ?_;obtain ⟨_,_,_,Iz⟩:=(H4.ext Cd.x).shape;refine ALo (v:=(.agg #[Ab,(.int .i64 0)])) (fun _=>by subst Iz;kernel_rfl) (AHx [Ab,(.int .i64 0)] trivial tt2 rfl rfl fun Aa Wm I0 I1 I2=>ACq (AIn Aof rfl ?_));have A4:=Cd.nb I1 I2 I0;refine AB3 Aps rfl ((A4.b p1).cell (i:=0) rfl) (ALi APd APm rfl (Wj ?_));obtain ⟨I3,I6⟩:=ifN hp;refine AFz rfl rfl I3 (ACw rfl rfl (ACq (ABp ?_)));obtain ⟨I7,I9,D9⟩:=ABj I6;refine AMb 147573952589676150912 (fun x:(LiI) × (Value) × LnA × LnN × LvA × (Int)=>[(7,x.2.1)]) (fun x h'=>( (x.1,x.2.2.2.2.2))=I7/\Kst h h' (aO2 (cI .i64) 23 2 x.2.2.1 x.2.2.2.1 x.2.2.2.2.1 x.2.1 x.1 :: ((AId A4.L [0]).set 0 (aB 76 Aa [Ab,(.int .i64 x.2.2.2.2.2)])))) ?_ ?_
 ·refine ABh (AIn Aog rfl (AB3 Aps rfl ((A4.b p1).cell (i:=1) rfl) (AFz rfl rfl (by decide) (ABn (ABo ?_)))));obtain ⟨Ja,Ea,Ce⟩:=ABj I9;refine AMb 520093696 (fun x:(Bool)=>[(24,(.bool x))]) (fun x h'=>( x)=Ja/\Kst h h' (AId A4.L [0])) ?_ ?_
  ·refine ABh (ADj rfl rfl (ABp (⟨_,rfl,fun Cf=>?_,fun Cf=>?_⟩)))
   ·refine ABq (q_t ?_);exact ⟨((decide ((Int.tmod a2 8)=0)):(Bool)),⟨ABi (AC1 Ea Cf),A4.sel [0] (by decide)⟩,rfl,trivial⟩
   ·refine ABh (ADj rfl rfl (ABp ?_));have Eb:=AC2 Ea Cf;refine ⟨_,rfl,fun Cg=>?_,fun Cg=>?_⟩
    ·refine ABq (q_t ?_);exact ⟨((decide ((Int.tmod a2 8)=1)):(Bool)),⟨ABi (AC1 Eb Cg),A4.sel [0] (by decide)⟩,rfl,trivial⟩
    ·refine ABh (ADj rfl rfl (ABp ?_));have Ec:=AC2 Eb Cg;refine ⟨_,rfl,fun Ch=>?_,fun Ch=>?_⟩
     ·refine ABq (q_t ?_);exact ⟨((decide ((Int.tmod a2 8)=2)):(Bool)),⟨ABi (AC1 Ec Ch),A4.sel [0] (by decide)⟩,rfl,trivial⟩
     ·refine ABu (ADj rfl rfl (ABp ?_));exact ⟨((decide ((Int.tmod a2 8)=3)):(Bool)),⟨ABi (AC2 Ec Ch),A4.sel [0] (by decide)⟩,rfl,trivial⟩
  rintro Jc Je Jf ⟨Jg,Ao⟩;(try dsimp only [Kst.L,List.set,AId,AK2] at Ao);refine (show W _ _ _ (setL [(24,(.bool Jc))] (mix _ Je _)) Jf from ?_);subst Jg;(try dsimp only at Ce);refine ⟨_,rfl,fun Ci=>?_,fun Ci=>?_⟩
  ·refine ABu (Wj (Wj ?_));obtain ⟨Jh,Ji,Ed⟩:=ABj (ifT Ce Ci);refine ACm (K':=(fun xr h'=> ∃ x:(LiI) × (Value) × LnA × LnN × LvA × (Int),(x.1,x.2.2.2.2.2)=Jh/\xr=x.2.1/\Kst h h' (aO2 (cI .i64) 23 2 x.2.2.1 x.2.2.2.1 x.2.2.2.2.1 x.2.1 x.1 :: (Ao.L.set 0 (aB 76 Aa [Ab,(.int .i64 x.2.2.2.2.2)]))))) trivial rfl ?_ fun Ee Wn Jj=>?_
   ·refine cwf (l:=[_,_]) Tryz.func60 rfl rfl (ABh (ACq (Wj (Wj ?_))));obtain ⟨Jk,Jl,Ef⟩:=ABj Ji;refine ACm (K':=(fun xr h'=> ∃ x:(LiI) × (Value) × LnA × LnN × LvA × (Int),(x.1,x.2.2.2.2.2)=Jk/\xr=x.2.1/\Kst h h' (aO2 (cI .i64) 23 2 x.2.2.1 x.2.2.2.1 x.2.2.2.2.1 x.2.1 x.1 :: (Ao.L.set 0 (aB 76 Aa [Ab,(.int .i64 x.2.2.2.2.2)]))))) trivial rfl ?_ fun Bp Wo Jm=>?_
    ·refine cwf (l:=[_,_,_]) Tryz.func63 rfl rfl (ABh (ACq (Wj ?_)));obtain ⟨Jn,Jo⟩:=ifN Jl;refine AUb (cI .i64) 2 AB0 ALt rfl trivial tt2 rfl rfl (by decide) Jn fun Jp Jq Jr Eg Wp Js Jt Ju=>ABp (ABl (ABh (Wj ?_)));have Cj:=Ao.no2 Jt Ju Js;refine ADf AB0 rfl (Cj.o2 p0).rd (Wj (ABn (ABo ?_)));obtain ⟨Eh,Jv,Ei⟩:=ABj Jo;obtain ⟨Jw,Jx,Jy⟩:=ACd Jv;refine ACg 4294959360 (fun x:(Int) × (Int) × (LiI) × LnA × LnN × LvA=>[(13,(.int .i64 x.1))]) (fun k x h'=>iter Jw k (x.1,x.2.1,x.2.2.1)=some Eh/\Kst h h' ((Cj.L.set 0 (aO2 (cI .i64) 23 2 x.2.2.2.1 x.2.2.2.2.1 x.2.2.2.2.2 Eg x.2.2.1)).set 1 (aB 76 Aa [Ab,(.int .i64 x.2.1)]))) (by kernel_rfl) fuel ((0,0,(List.replicate (Int.toNat (w64 (1 + (Int.tmod (w64 a1) Af)))) ([]:List Int)),Jp,Jq,Jr):(Int) × (Int) × (LiI) × LnA × LnN × LvA) ?_ ⟨rfl,trivial⟩ ?_
     ·exact ⟨Jy,Cj⟩
     rintro Wq ⟨Ap,Bq,Ej,Jz,Ck,Ek⟩ J0 J1 ⟨J2,Cm⟩;(try dsimp only [Kst.L,List.set,AId,AK2] at Cm);refine (show W _ _ _ (setL [(13,(.int .i64 Ap))] (mix _ J0 _)) J1 from ?_);obtain ⟨J3,Wr,rfl,Ba,Cn⟩:=AB1 J2;rw [Jx] at Ba;dsimp only at Ba;unfold AE9 at Ba;refine ABh (ACx rfl rfl (ABn (ABl (⟨_,rfl,fun Co=>?_,fun Co=>?_⟩))))
     ·refine ABq (q_t (ABl (ABo (ABh (Wj (ACq (Wj (Wj (Wj ?_)))))))));obtain ⟨J4,J5⟩:=ifN (AC1 Ba Co);refine AQ1 (c:=(cI .i64)) (a:=0) ABt AGy rfl rfl (fun _=>rfl) rfl trivial tt2 rfl rfl (by decide) J4 fun El J6 Ws J7 J8 J9 Ka=>?_;have Bb:=Cm.no J8 (AGj J9 Ka) J7;obtain ⟨Wt,Em,Kb⟩:=ABj J5;refine ADn AB0 rfl (Bb.o2 p1) rfl Em fun Kc Wu Kd Wv Ww=>AVv ACl (Bb.o2 p1) Em Kd rfl rfl (Bb.o p0) (Bb.dj p0 p1 (by decide)) fun Av Ke Kf Kg=>ABn (AEg (fun h'=>UpT ([Aa] ++ []) Av h') (by kernel_rfl) ?_);have Ah:=Bb.m2 p0 p1 (by decide) Kf Ke (fun z hz=> .inl (Kg z hz));have Cp:UpT ([Aa] ++ []) Av Av:=UpT.start (AD3 (AGc (Ah.b p2) rfl) all_nil);refine Wj (Wj ?_);obtain ⟨Kh,Cq,Ki⟩:=ABj Kb;refine ADn AB0 rfl (Ah.o2 p1) rfl Cq fun Wx Wy Kj Kk Kl=>AGa ACl rfl Cp (fun h' hb=>AJ9 Kl hb (APv (Ah.dj p1 p2 (by decide) _ (by simp [aO,aO2,Kj])) APw)) (Wj (Wj (Wj ?_)));obtain ⟨Km,Kn,En⟩:=ABj Ki;have Ko:UpT ([Aa] ++ []) Av Av:=UpT.start (AD3 (AGc (Ah.b p2) rfl) all_nil);refine ACm (K':=(fun xr h'=> ∃ x:(Int) × (Int),(x.1,x.2)=Km/\xr=(.int .i64 x.1)/\Kst h h' ((AId Ah.L [1,2]).set 1 (aB 76 Aa [Ab,(.int .i64 x.2)]))/\UpT ([Aa] ++ []) Av h')) Cp rfl ?_ fun Wz W0 Kp=>?_
      ·refine cwf (l:=[_,_]) Tryz.func62 rfl rfl (ABh (ACq (Wj ?_)));obtain ⟨Kr,Eo,Ep⟩:=ABj Kn;have Er:UpT ([Aa] ++ []) Av Av:=UpT.start (AD3 (AGc (Ah.b p2) rfl) all_nil);refine ACm (K':=(fun xr h'=> ∃ x:(Int) × (Int),(x.1,x.2)=Kr/\xr=(.int .i64 x.1)/\Kst h h' ((AId Ah.L [1,2]).set 1 (aB 76 Aa [Ab,(.int .i64 x.2)]))/\UpT ([Aa] ++ []) Av h')) trivial rfl ?_ fun W1 W3 Kt=>?_
       ·refine cwf (l:=[_]) Tryz.func50 rfl rfl (ABh (ABp (ABl (ABl (AMq (Wj (AI6 rfl (AIn AD4 rfl (AB3 AFg rfl ((Ah.b p2).cell (i:=1) rfl) (Wj (AI6 rfl (AIn AIy rfl (AB3 AOn rfl ((Ah.b p2).cell (i:=0) rfl) (ADs APc rfl H4 (AMe rfl rfl (ABn (⟨_,rfl,fun Cr=>?_,fun Cr=>?_⟩)))))))))))))))))
        ·refine ABh (ABp (ABr (ABz (⟨_,ABs,((0,Bq):(Int) × (Int)),?_,rfl,?_,?_⟩))))
         ·exact ABi (AC1 Eo Cr)
         ·exact Ah.sel [1,2] (by decide)
         ·exact Er
        ·refine ABq (q_t (ABh (Wj (AI6 rfl (AIn AD4 rfl (AB3 AFg rfl ((Ah.b p2).cell (i:=1) rfl) (ACw rfl rfl (AI6 rfl (AIn AD4 rfl (AT6 [Ab,(.int .i64 (w64 (Bq + 1)))] AFg rfl rfl rfl (Ah.b p2) (Nat.le_of_ble_eq_true rfl) rfl fun W4 Es Et=>ABn (ABl (AMq (Wj (AI6 rfl (AIn AIy rfl ?_)))))))))))))));have Br:=Ah.sb p2 Et Es rfl;refine AB3 AOn rfl ((Br.b p2).cell (i:=0) rfl) (Wj (AI6 rfl (AIn AD4 rfl (AB3 AFg rfl ((Br.b p2).cell (i:=1) rfl) (AGd rfl rfl ?_)))));obtain ⟨Ku,Kv,Kw⟩:=ABj (AC2 Eo Cr);refine AIa (c:=(cI .i8)) APc rfl H4 rfl Kv fun W5 W6 W7 Kx Ky=>?_;obtain rfl:=Kx;refine AB3 AW3 rfl (ABv (Ky 0 _ rfl) Br.x) (ALi AW4 AKr rfl (ABp (ABr (⟨_,ABs,(((w64 Ku),(w64 (Bq + 1))):(Int) × (Int)),?_,rfl,?_,?_⟩))))
         ·exact ABi Kw
         ·exact Br.sel [1,2] (by decide)
         ·exact (Er.then (Es.stA Et (AGc (Ah.b p2) rfl) rfl) (AK7 rfl))
       obtain ⟨⟨Kz,K3⟩,K5,rfl,Eu,K6⟩:=Kt;(try dsimp only [Kst.L,List.set,AId,AK2] at Eu);refine ⟨trivial,?_⟩;subst K5;(try dsimp only at Ep);refine ALi AKr APd rfl (ALi APd APm rfl (Wj (AFz rfl rfl (by decide) (ABp (ABr (⟨_,ABs,(((Int.tmod (w64 (IntKind.wrap .u8 Kz)) 6),K3):(Int) × (Int)),?_,rfl,?_,?_⟩))))))
       ·exact ABi Ep
       ·exact Eu
       ·exact (Ko.then K6 (AD3 (AK7 rfl) all_nil))
      obtain ⟨⟨Ev,K9⟩,La,rfl,Ct,Lb⟩:=Kp;(try dsimp only [Kst.L,List.set,AId,AK2] at Ct);refine ⟨(Cp.then Lb (AD3 (AK7 rfl) all_nil)),?_⟩;subst La;(try dsimp only at En);refine ACw rfl rfl ?_;obtain ⟨W8,Ew,Lc⟩:=ABj En;refine AE2 (m:=Ap) ABt rfl (Ah.o2 p1) Kk Cq rfl Ew fun W9 Ld=>AJc (m:=Ap) (AFw ACp rfl rfl rfl) (Ct.o2 p0) Ld Cq Ew (show ((cI .i64)).rep _ (w64 (1 + Ev)) _ from rfl) fun Xa Le Lf=>ACh (q_b (q_t (ABu (ACw rfl rfl (Wj (ABn ?_))))));obtain rfl:=ABi Lc;exact ⟨J3,(((w64 (Ap + 1)),K9,(sI (sI Ej Ap (List.replicate (Int.toNat (w64 (1 + (Int.tmod (w64 a1) Af)))) (0:Int))) Ap (sI Kh Ap (w64 (1 + Ev)))),(Kc :: (Ck.set (Int.toNat Ap) [El]).flatten),(Ck.set (Int.toNat Ap) [El]),(Ek.set (Int.toNat Ap) J6)):(Int) × (Int) × (LiI) × LnA × LnN × LvA),Nat.lt_succ_self _,⟨Cn,(Ct.uO2 p0 Lf Le)⟩,rfl,trivial⟩
     ·obtain rfl:=ABi (AC2 Ba Co);change _=Eh at Cn;subst Cn;(try dsimp only at Ei);refine AB8 (AB6 (AB6 (ADg (q_t (ABh (Wj (ABp (ABr (⟨_,ABs,((Ej,Eg,Jz,Ck,Ek,Bq):(LiI) × (Value) × LnA × LnN × LvA × (Int)),?_,rfl,?_⟩)))))))))
      ·exact ABi Ei
      ·exact Cm
    obtain ⟨⟨Lg,Bp,Lh,Li,Lj,Lk⟩,Ll,rfl,Bt⟩:=Jm;(try dsimp only [Kst.L,List.set,AId,AK2] at Bt);refine ⟨trivial,?_⟩;subst Ll;(try dsimp only at Ef);refine ABp (ABl (ABh (Wj (ADf AB0 rfl (Bt.o2 p0).rd (Wj (ABn (ABo ?_)))))));obtain ⟨Ey,Lm,Ez⟩:=ABj Ef;obtain ⟨Ln,Lo,Lq⟩:=ACd Lm;refine ACg 17592186036416 (fun x:(Int) × (Int) × (LiI) × LnA × LnN × LvA=>[(13,(.int .i64 x.1))]) (fun k x h'=>iter Ln k (x.1,x.2.1,x.2.2.1)=some Ey/\Kst h h' ((Bt.L.set 0 (aO2 (cI .i64) 23 2 x.2.2.2.1 x.2.2.2.2.1 x.2.2.2.2.2 Bp x.2.2.1)).set 1 (aB 76 Aa [Ab,(.int .i64 x.2.1)]))) (by kernel_rfl) fuel ((0,Lk,Lg,Lh,Li,Lj):(Int) × (Int) × (LiI) × LnA × LnN × LvA) ?_ ⟨rfl,trivial⟩ ?_
    ·exact ⟨Lq,Bt⟩
    rintro Xb ⟨A6,Fa,Fb,Fc,Fd,Fe⟩ Lr Lu ⟨Lv,Bu⟩;(try dsimp only [Kst.L,List.set,AId,AK2] at Bu);refine (show W _ _ _ (setL [(13,(.int .i64 A6))] (mix _ Lr _)) Lu from ?_);obtain ⟨Lw,Xc,rfl,Bc,Cu⟩:=AB1 Lv;rw [Lo] at Bc;dsimp only at Bc;unfold AFa at Bc;refine ABh (ACx rfl rfl (ABn (ABl (⟨_,rfl,fun Cv=>?_,fun Cv=>?_⟩))))
    ·refine ABq (q_t (ABl (ABo (ABh (Wj (ACq (ABp (ABo ?_))))))));obtain ⟨Ff,Lx,Fg⟩:=ABj (AC1 Bc Cv);obtain ⟨Ly,Lz,Ma⟩:=ACd Lx;refine ACg 8796092956800 (fun x:(Int) × (Int) × (LiI) × LnA × LnN × LvA=>[(7,(.int .i64 x.1))]) (fun k x h'=>iter Ly k (x.1,x.2.1,x.2.2.1)=some Ff/\Kst h h' ((Bu.L.set 0 (aO2 (cI .i64) 23 2 x.2.2.2.1 x.2.2.2.2.1 x.2.2.2.2.2 Bp x.2.2.1)).set 1 (aB 76 Aa [Ab,(.int .i64 x.2.1)]))) (by kernel_rfl) fuel ((0,Fa,Fb,Fc,Fd,Fe):(Int) × (Int) × (LiI) × LnA × LnN × LvA) ?_ ⟨rfl,trivial⟩ ?_
     ·exact ⟨Ma,Bu⟩
     rintro Xd ⟨A9,Bv,Fh,Fi,Fj,Fk⟩ Mb A7 ⟨Mc,Ai⟩;(try dsimp only [Kst.L,List.set,AId,AK2] at Ai);refine (show W _ _ _ (setL [(7,(.int .i64 A9))] (mix _ Mb _)) A7 from ?_);obtain ⟨Md,Xe,rfl,Be,Cw⟩:=AB1 Mc;rw [Lz] at Be;dsimp only at Be;unfold AGp at Be;refine ABl (ABh (Wj (Wj (ACx rfl rfl (ABn (⟨_,rfl,fun Cx=>?_,fun Cx=>?_⟩))))))
     ·refine ABq (q_t (ABl (ABo (ABl (AEg (fun h'=>UpT ([Aa] ++ []) A7 h') (by kernel_rfl) ?_)))));have Cy:UpT ([Aa] ++ []) A7 A7:=UpT.start (AD3 (AGc (Ai.b p1) rfl) all_nil);refine Wj (Wj ?_);obtain ⟨Me,Cz,Mf⟩:=ABj (AC1 Be Cx);refine ADn AB0 rfl (Ai.o2 p0) rfl Cz fun Xf Xg Mg Mh Mi=>AGa ACl rfl Cy (fun h' hb=>AJ9 Mi hb (APv (Ai.dj p0 p1 (by decide) _ (by simp [aO,aO2,Mg])) APw)) (Wj (Wj ?_));obtain ⟨Mj,Fl,Fm⟩:=ABj Mf;have Fo:UpT ([Aa] ++ []) A7 A7:=UpT.start (AD3 (AGc (Ai.b p1) rfl) all_nil);refine ACm (K':=(fun xr h'=> ∃ x:(Int) × (Int),(x.1,x.2)=Mj/\xr=(.int .i64 x.1)/\Kst h h' (Ai.L.set 1 (aB 76 Aa [Ab,(.int .i64 x.2)]))/\UpT ([Aa] ++ []) A7 h')) Cy rfl ?_ fun Xh Xi Mk=>?_
      ·refine cwf (l:=[_]) Tryz.func50 rfl rfl (ABh (ABp (ABl (ABl (AMq (Wj (AI6 rfl (AIn AD4 rfl (AB3 AFg rfl ((Ai.b p1).cell (i:=1) rfl) (Wj (AI6 rfl (AIn AIy rfl (AB3 AOn rfl ((Ai.b p1).cell (i:=0) rfl) (ADs APc rfl H4 (AMe rfl rfl (ABn (⟨_,rfl,fun C0=>?_,fun C0=>?_⟩)))))))))))))))))
       ·refine ABh (ABp (ABr (ABz (⟨_,ABs,((0,Bv):(Int) × (Int)),?_,rfl,?_,?_⟩))))
        ·exact ABi (AC1 Fl C0)
        ·exact Ai
        ·exact Fo
       ·refine ABq (q_t (ABh (Wj (AI6 rfl (AIn AD4 rfl (AB3 AFg rfl ((Ai.b p1).cell (i:=1) rfl) (ACw rfl rfl (AI6 rfl (AIn AD4 rfl (AT6 [Ab,(.int .i64 (w64 (Bv + 1)))] AFg rfl rfl rfl (Ai.b p1) (Nat.le_of_ble_eq_true rfl) rfl fun Xj Fp Fq=>ABn (ABl (AMq (Wj (AI6 rfl (AIn AIy rfl ?_)))))))))))))));have Bw:=Ai.sb p1 Fq Fp rfl;refine AB3 AOn rfl ((Bw.b p1).cell (i:=0) rfl) (Wj (AI6 rfl (AIn AD4 rfl (AB3 AFg rfl ((Bw.b p1).cell (i:=1) rfl) (AGd rfl rfl ?_)))));obtain ⟨Ml,Mm,Mo⟩:=ABj (AC2 Fl C0);refine AIa (c:=(cI .i8)) APc rfl H4 rfl Mm fun Xk Xl Xm Mq Mr=>?_;obtain rfl:=Mq;refine AB3 AW3 rfl (ABv (Mr 0 _ rfl) Bw.x) (ALi AW4 AKr rfl (ABp (ABr (⟨_,ABs,(((w64 Ml),(w64 (Bv + 1))):(Int) × (Int)),?_,rfl,?_,?_⟩))))
        ·exact ABi Mo
        ·exact Bw
        ·exact (Fo.then (Fp.stA Fq (AGc (Ai.b p1) rfl) rfl) (AK7 rfl))
      obtain ⟨⟨Fr,Ms⟩,Mt,rfl,C1,Mu⟩:=Mk;(try dsimp only [Kst.L,List.set,AId,AK2] at C1);refine ⟨(Cy.then Mu (AD3 (AK7 rfl) all_nil)),?_⟩;subst Mt;(try dsimp only at Fm);refine AFz rfl rfl (by decide) ?_;obtain ⟨Xn,Ft,Mv⟩:=ABj Fm;refine AE2 (m:=A6) ABt rfl (Ai.o2 p0) Mh Cz rfl Ft fun Xo Mw=>AJc (m:=A6) (AFw ACp rfl rfl rfl) (C1.o2 p0) Mw Cz Ft (show ((cI .i64)).rep _ (Int.tmod Fr 3) _ from rfl) fun Xp Mx My=>ABn (AMq (Wj (Wj ?_)));have A8:=C1.uO2 p0 My Mx;obtain ⟨Mz,C2,M0⟩:=ABj Mv;refine ADn AB0 rfl (A8.o2 p0) rfl C2 fun Xq Xr Xt M1 M2=>AB3 ACl rfl M2 (Wj (Wj (Wj ?_)));obtain ⟨Xu,C3,M3⟩:=ABj M0;refine ADn AB0 rfl (A8.o2 p0) rfl C3 fun Xv Xw Xx M4 M5=>AB3 ACl rfl M5 (Wj ?_);obtain ⟨Fu,Fv,M6⟩:=ABj M3;refine AE2 (m:=A6) ABt rfl (A8.o2 p0) M4 C3 rfl Fv fun Xy M7=>?_;obtain ⟨Xz,M8,M9⟩:=(A8.o2 p0).cells M7 C3 Fv;obtain rfl:=M8;refine AB3 ACp rfl (M9 0 _ rfl) ?_;obtain ⟨X0,Fw,Na⟩:=ABj M6;refine AE2 (m:=A9) ABt rfl (A8.o2 p0) M1 C2 rfl Fw fun X3 Nb=>AJc (m:=A9) (AFw ACp rfl rfl rfl) (A8.o2 p0) Nb C2 Fw (show ((cI .i64)).rep _ Fu _ from rfl) fun X4 Nc Nd=>ACh (q_b (q_t (ABu (Wj (ACw rfl rfl (ABp ?_))))));obtain rfl:=ABi Na;exact ⟨Md,(((w64 (A9 + 1)),Ms,(sI (sI Fh A6 (sI Me A9 (Int.tmod Fr 3))) A9 (sI Mz A6 Fu)),Fi,Fj,Fk):(Int) × (Int) × (LiI) × LnA × LnN × LvA),Nat.lt_succ_self _,⟨Cw,(A8.uO2 p0 Nd Nc)⟩,rfl,trivial⟩
     ·obtain rfl:=ABi (AC2 Be Cx);change _=Ff at Cw;subst Cw;(try dsimp only at Fg);refine AB8 (AB6 (AB6 (ADg (q_b (q_t (ABu (ACw rfl rfl (Wj (ABn ?_)))))))));obtain rfl:=ABi Fg;exact ⟨Lw,(((w64 (A6 + 1)),Bv,Fh,Fi,Fj,Fk):(Int) × (Int) × (LiI) × LnA × LnN × LvA),Nat.lt_succ_self _,⟨Cu,Ai⟩,rfl,trivial⟩
    ·obtain rfl:=ABi (AC2 Bc Cv);change _=Ey at Cu;subst Cu;(try dsimp only at Ez);refine AB8 (AB6 (AB6 (ADg (q_t (ABh (Wj (ABp (ABr (⟨_,ABs,((Fb,Bp,Fc,Fd,Fe,Fa):(LiI) × (Value) × LnA × LnN × LvA × (Int)),?_,rfl,?_⟩)))))))))
     ·exact ABi Ez
     ·exact Bu
   obtain ⟨⟨Nf,Ee,Ng,Nh,Ni,Nj⟩,Nk,rfl,Fx⟩:=Jj;(try dsimp only [Kst.L,List.set,AId,AK2] at Fx);refine ⟨trivial,?_⟩;subst Nk;(try dsimp only at Ed);refine ACa (ACh (q_b (q_t ?_)));exact ⟨((Nf,Ee,Ng,Nh,Ni,Nj):(LiI) × (Value) × LnA × LnN × LvA × (Int)),⟨ABi Ed,Fx⟩,rfl,trivial⟩
  ·refine ABh (ADj rfl rfl (ABp ?_));have Fy:=AKt Ce Ci;refine ⟨_,rfl,fun C4=>?_,fun C4=>?_⟩
   ·refine ABh (Wj ?_);obtain ⟨Nl,Nm,Nn⟩:=ABj (AC1 Fy C4);refine AC0 rfl (AL3 Nm) fun Np Aw Nq Nr=>?_;obtain ⟨X5,Ns,Nt,Nu,rfl,Nv,Nw⟩:=Nr;refine ABp (AEg (fun h'=>UpT ([Aa] ++ []) Aw h') (by kernel_rfl) ?_);have Ac:=Ao.no2 Nq Nw Nv;have Bx:UpT ([Aa] ++ []) Aw Aw:=UpT.start (AD3 (AGc (Ac.b p1) rfl) all_nil);refine Wj ?_;obtain ⟨Ny,Bf,Nz⟩:=ABj Nn;refine ADn AB0 rfl (Ac.o2 p0) rfl Bf fun X6 X8 N0 Fz N3=>AGa ACl rfl Bx (fun h' hb=>AJ9 N3 hb (APv (Ac.dj p0 p1 (by decide) _ (by simp [aO,aO2,N0])) APw)) ?_;obtain ⟨F4,By,N4⟩:=ABj Nz;refine AE2 (m:=0) ABt rfl (Ac.o2 p0) Fz Bf rfl By fun Ya F5=>?_;obtain ⟨Yb,N5,N6⟩:=(Ac.o2 p0).cells F5 Bf By;obtain rfl:=N5;refine AGa ACp rfl Bx (fun h' hb=>AJ9 (N6 0 _ rfl) hb (APv (Ac.dj p0 p1 (by decide) _ ((Ac.o2 p0).gmem F5)) APw)) (Wj ?_);obtain ⟨N7,N8,F6⟩:=ABj N4;have N9:UpT ([Aa] ++ []) Aw Aw:=UpT.start (AD3 (AGc (Ac.b p1) rfl) all_nil);refine ACm (K':=(fun xr h'=> ∃ x:(Int) × (Int),(x.1,x.2)=N7/\xr=(.int .i64 x.1)/\Kst h h' (Ac.L.set 1 (aB 76 Aa [Ab,(.int .i64 x.2)]))/\UpT ([Aa] ++ []) Aw h')) Bx rfl ?_ fun Yc Yd Oa=>?_
    ·refine cwf (l:=[_,_]) Tryz.func62 rfl rfl (ABh (ACq (Wj ?_)));obtain ⟨Ob,F7,F8⟩:=ABj N8;have F9:UpT ([Aa] ++ []) Aw Aw:=UpT.start (AD3 (AGc (Ac.b p1) rfl) all_nil);refine ACm (K':=(fun xr h'=> ∃ x:(Int) × (Int),(x.1,x.2)=Ob/\xr=(.int .i64 x.1)/\Kst h h' (Ac.L.set 1 (aB 76 Aa [Ab,(.int .i64 x.2)]))/\UpT ([Aa] ++ []) Aw h')) trivial rfl ?_ fun Ye Yf Oc=>?_
     ·refine cwf (l:=[_]) Tryz.func50 rfl rfl (ABh (ABp (ABl (ABl (AMq (Wj (AI6 rfl (AIn AD4 rfl (AB3 AFg rfl ((Ac.b p1).cell (i:=1) rfl) (Wj (AI6 rfl (AIn AIy rfl (AB3 AOn rfl ((Ac.b p1).cell (i:=0) rfl) (ADs APc rfl H4 (AMe rfl rfl (ABn (⟨_,rfl,fun C5=>?_,fun C5=>?_⟩)))))))))))))))))
      ·refine ABh (ABp (ABr (ABz (⟨_,ABs,((0,0):(Int) × (Int)),?_,rfl,?_,?_⟩))))
       ·exact ABi (AC1 F7 C5)
       ·exact Ac
       ·exact F9
      ·refine ABq (q_t (ABh (Wj (AI6 rfl (AIn AD4 rfl (AB3 AFg rfl ((Ac.b p1).cell (i:=1) rfl) (ACw rfl rfl (AI6 rfl (AIn AD4 rfl (AT6 [Ab,(.int .i64 (w64 (0 + 1)))] AFg rfl rfl rfl (Ac.b p1) (Nat.le_of_ble_eq_true rfl) rfl fun Yg Ga Gb=>ABn (ABl (AMq (Wj (AI6 rfl (AIn AIy rfl ?_)))))))))))))));have Bz:=Ac.sb p1 Gb Ga rfl;refine AB3 AOn rfl ((Bz.b p1).cell (i:=0) rfl) (Wj (AI6 rfl (AIn AD4 rfl (AB3 AFg rfl ((Bz.b p1).cell (i:=1) rfl) (AGd rfl rfl ?_)))));obtain ⟨Od,Oe,Og⟩:=ABj (AC2 F7 C5);refine AIa (c:=(cI .i8)) APc rfl H4 rfl Oe fun Yh Yi Yj Oh Oi=>?_;obtain rfl:=Oh;refine AB3 AW3 rfl (ABv (Oi 0 _ rfl) Bz.x) (ALi AW4 AKr rfl (ABp (ABr (⟨_,ABs,(((w64 Od),(w64 (0 + 1))):(Int) × (Int)),?_,rfl,?_,?_⟩))))
       ·exact ABi Og
       ·exact Bz
       ·exact (F9.then (Ga.stA Gb (AGc (Ac.b p1) rfl) rfl) (AK7 rfl))
     obtain ⟨⟨Oj,Ol⟩,Om,rfl,Gc,On⟩:=Oc;(try dsimp only [Kst.L,List.set,AId,AK2] at Gc);refine ⟨trivial,?_⟩;subst Om;(try dsimp only at F8);refine ALi AKr APd rfl (ALi APd APm rfl (Wj (AFz rfl rfl (by decide) (ABp (ABr (⟨_,ABs,(((Int.tmod (w64 (IntKind.wrap .u8 Oj)) 3),Ol):(Int) × (Int)),?_,rfl,?_,?_⟩))))))
     ·exact ABi F8
     ·exact Gc
     ·exact (N9.then On (AD3 (AK7 rfl) all_nil))
    obtain ⟨⟨Gd,Oo⟩,Oq,rfl,C6,Ot⟩:=Oa;(try dsimp only [Kst.L,List.set,AId,AK2] at C6);refine ⟨(Bx.then Ot (AD3 (AK7 rfl) all_nil)),?_⟩;subst Oq;(try dsimp only at F6);refine ACw rfl rfl (AE2 (m:=0) ABt rfl (Ac.o2 p0) Fz Bf rfl By fun Yk Ou=>AJc (m:=0) (AFw ACp rfl rfl rfl) (C6.o2 p0) Ou Bf By (show ((cI .i64)).rep _ (w64 (F4 + Gd)) _ from rfl) fun Yl Ov Ow=>ACh (q_b (q_t ?_)));exact ⟨(((sI Nl 0 (sI Ny 0 (w64 (F4 + Gd)))),Np,Ns,Nt,Nu,Oo):(LiI) × (Value) × LnA × LnN × LvA × (Int)),⟨ABi F6,(C6.uO2 p0 Ow Ov)⟩,rfl,trivial⟩
   ·refine ABh (ADj rfl rfl (ABp ?_));have Ge:=AC2 Fy C4;refine ⟨_,rfl,fun C7=>?_,fun C7=>?_⟩
    ·refine ABh (Wj ?_);obtain ⟨Ox,Oy,Oz⟩:=ABj (AC1 Ge C7);refine AC0 rfl (AL3 Oy) fun O0 Ax O1 O2=>?_;obtain ⟨Ym,O3,O4,O5,rfl,O6,O7⟩:=O2;refine ABp (AEg (fun h'=>UpT ([Aa] ++ []) Ax h') (by kernel_rfl) ?_);have Ad:=Ao.no2 O1 O7 O6;have B1:UpT ([Aa] ++ []) Ax Ax:=UpT.start (AD3 (AGc (Ad.b p1) rfl) all_nil);refine Wj (Wj (AGd rfl rfl ?_));obtain ⟨O8,Bg,O9⟩:=ABj Oz;refine ADn AB0 rfl (Ad.o2 p0) rfl Bg fun Yn Yo Pa Gf Pb=>AGa ACl rfl B1 (fun h' hb=>AJ9 Pb hb (APv (Ad.dj p0 p1 (by decide) _ (by simp [aO,aO2,Pa])) APw)) (Wj (AGd rfl rfl ?_));obtain ⟨Gg,B2,Pc⟩:=ABj O9;refine AE2 (m:=(w64 ((w64 (1 + (Int.tmod (w64 a1) Af))) - 1))) ABt rfl (Ad.o2 p0) Gf Bg rfl B2 fun Yp Gh=>?_;obtain ⟨Yq,Pd,Pe⟩:=(Ad.o2 p0).cells Gh Bg B2;obtain rfl:=Pd;refine AGa ACp rfl B1 (fun h' hb=>AJ9 (Pe 0 _ rfl) hb (APv (Ad.dj p0 p1 (by decide) _ ((Ad.o2 p0).gmem Gh)) APw)) (Wj ?_);obtain ⟨Pf,Pg,Gi⟩:=ABj Pc;have Ph:UpT ([Aa] ++ []) Ax Ax:=UpT.start (AD3 (AGc (Ad.b p1) rfl) all_nil);refine ACm (K':=(fun xr h'=> ∃ x:(Int) × (Int),(x.1,x.2)=Pf/\xr=(.int .i64 x.1)/\Kst h h' (Ad.L.set 1 (aB 76 Aa [Ab,(.int .i64 x.2)]))/\UpT ([Aa] ++ []) Ax h')) B1 rfl ?_ fun Yr Ys Pj=>?_
     ·refine cwf (l:=[_,_]) Tryz.func62 rfl rfl (ABh (ACq (Wj ?_)));obtain ⟨Pk,Gj,Gk⟩:=ABj Pg;have Gl:UpT ([Aa] ++ []) Ax Ax:=UpT.start (AD3 (AGc (Ad.b p1) rfl) all_nil);refine ACm (K':=(fun xr h'=> ∃ x:(Int) × (Int),(x.1,x.2)=Pk/\xr=(.int .i64 x.1)/\Kst h h' (Ad.L.set 1 (aB 76 Aa [Ab,(.int .i64 x.2)]))/\UpT ([Aa] ++ []) Ax h')) trivial rfl ?_ fun Yt Yu Pl=>?_
      ·refine cwf (l:=[_]) Tryz.func50 rfl rfl (ABh (ABp (ABl (ABl (AMq (Wj (AI6 rfl (AIn AD4 rfl (AB3 AFg rfl ((Ad.b p1).cell (i:=1) rfl) (Wj (AI6 rfl (AIn AIy rfl (AB3 AOn rfl ((Ad.b p1).cell (i:=0) rfl) (ADs APc rfl H4 (AMe rfl rfl (ABn (⟨_,rfl,fun C8=>?_,fun C8=>?_⟩)))))))))))))))))
       ·refine ABh (ABp (ABr (ABz (⟨_,ABs,((0,0):(Int) × (Int)),?_,rfl,?_,?_⟩))))
        ·exact ABi (AC1 Gj C8)
        ·exact Ad
        ·exact Gl
       ·refine ABq (q_t (ABh (Wj (AI6 rfl (AIn AD4 rfl (AB3 AFg rfl ((Ad.b p1).cell (i:=1) rfl) (ACw rfl rfl (AI6 rfl (AIn AD4 rfl (AT6 [Ab,(.int .i64 (w64 (0 + 1)))] AFg rfl rfl rfl (Ad.b p1) (Nat.le_of_ble_eq_true rfl) rfl fun Yv Gm Gn=>ABn (ABl (AMq (Wj (AI6 rfl (AIn AIy rfl ?_)))))))))))))));have B3:=Ad.sb p1 Gn Gm rfl;refine AB3 AOn rfl ((B3.b p1).cell (i:=0) rfl) (Wj (AI6 rfl (AIn AD4 rfl (AB3 AFg rfl ((B3.b p1).cell (i:=1) rfl) (AGd rfl rfl ?_)))));obtain ⟨Pm,Pn,Po⟩:=ABj (AC2 Gj C8);refine AIa (c:=(cI .i8)) APc rfl H4 rfl Pn fun Yw Yx Yy Pp Pq=>?_;obtain rfl:=Pp;refine AB3 AW3 rfl (ABv (Pq 0 _ rfl) B3.x) (ALi AW4 AKr rfl (ABp (ABr (⟨_,ABs,(((w64 Pm),(w64 (0 + 1))):(Int) × (Int)),?_,rfl,?_,?_⟩))))
        ·exact ABi Po
        ·exact B3
        ·exact (Gl.then (Gm.stA Gn (AGc (Ad.b p1) rfl) rfl) (AK7 rfl))
      obtain ⟨⟨Ps,Pt⟩,Pu,rfl,Gp,Pv⟩:=Pl;(try dsimp only [Kst.L,List.set,AId,AK2] at Gp);refine ⟨trivial,?_⟩;subst Pu;(try dsimp only at Gk);refine ALi AKr APd rfl (ALi APd APm rfl (Wj (AFz rfl rfl (by decide) (ABp (ABr (⟨_,ABs,(((Int.tmod (w64 (IntKind.wrap .u8 Ps)) 2),Pt):(Int) × (Int)),?_,rfl,?_,?_⟩))))))
      ·exact ABi Gk
      ·exact Gp
      ·exact (Ph.then Pv (AD3 (AK7 rfl) all_nil))
     obtain ⟨⟨Gq,Pw⟩,Px,rfl,C9,Py⟩:=Pj;(try dsimp only [Kst.L,List.set,AId,AK2] at C9);refine ⟨(B1.then Py (AD3 (AK7 rfl) all_nil)),?_⟩;subst Px;(try dsimp only at Gi);refine ACw rfl rfl (AE2 (m:=(w64 ((w64 (1 + (Int.tmod (w64 a1) Af))) - 1))) ABt rfl (Ad.o2 p0) Gf Bg rfl B2 fun Yz Pz=>AJc (m:=(w64 ((w64 (1 + (Int.tmod (w64 a1) Af))) - 1))) (AFw ACp rfl rfl rfl) (C9.o2 p0) Pz Bg B2 (show ((cI .i64)).rep _ (w64 (Gg + Gq)) _ from rfl) fun Y1 P0 P1=>ACh (q_b (q_t ?_)));exact ⟨(((sI Ox (w64 ((w64 (1 + (Int.tmod (w64 a1) Af))) - 1)) (sI O8 (w64 ((w64 (1 + (Int.tmod (w64 a1) Af))) - 1)) (w64 (Gg + Gq)))),O0,O3,O4,O5,Pw):(LiI) × (Value) × LnA × LnN × LvA × (Int)),⟨ABi Gi,(C9.uO2 p0 P1 P0)⟩,rfl,trivial⟩
    ·refine ABh (ADj rfl rfl (ABp ?_));have Gr:=AC2 Ge C7;refine ⟨_,rfl,fun Da=>?_,fun Da=>?_⟩
     ·refine ABu (Wj (Wj ?_));obtain ⟨P2,P3,Gt⟩:=ABj (AC1 Gr Da);refine ACm (K':=(fun xr h'=> ∃ x:(LiI) × (Value) × LnA × LnN × LvA × (Int),(x.1,x.2.2.2.2.2)=P2/\xr=x.2.1/\Kst h h' (aO2 (cI .i64) 23 2 x.2.2.1 x.2.2.2.1 x.2.2.2.2.1 x.2.1 x.1 :: (Ao.L.set 0 (aB 76 Aa [Ab,(.int .i64 x.2.2.2.2.2)]))))) trivial rfl ?_ fun Gu Y2 P4=>?_
      ·refine cwf (l:=[_,_,_]) Tryz.func63 rfl rfl (ABh (ACq (Wj ?_)));obtain ⟨P5,P6⟩:=ifN P3;refine AUb (cI .i64) 2 AB0 ALt rfl trivial tt2 rfl rfl (by decide) P5 fun P7 P8 P9 Gv Y3 Qa Qb Qc=>ABp (ABl (ABh (Wj ?_)));have Db:=Ao.no2 Qb Qc Qa;refine ADf AB0 rfl (Db.o2 p0).rd (Wj (ABn (ABo ?_)));obtain ⟨Gw,Qd,Gx⟩:=ABj P6;obtain ⟨Qe,Qg,Qh⟩:=ACd Qd;refine ACg 4294959360 (fun x:(Int) × (Int) × (LiI) × LnA × LnN × LvA=>[(13,(.int .i64 x.1))]) (fun k x h'=>iter Qe k (x.1,x.2.1,x.2.2.1)=some Gw/\Kst h h' ((Db.L.set 0 (aO2 (cI .i64) 23 2 x.2.2.2.1 x.2.2.2.2.1 x.2.2.2.2.2 Gv x.2.2.1)).set 1 (aB 76 Aa [Ab,(.int .i64 x.2.1)]))) (by kernel_rfl) fuel ((0,0,(List.replicate (Int.toNat (w64 (1 + (Int.tmod (w64 a1) Af)))) ([]:List Int)),P7,P8,P9):(Int) × (Int) × (LiI) × LnA × LnN × LvA) ?_ ⟨rfl,trivial⟩ ?_
       ·exact ⟨Qh,Db⟩
       rintro Y4 ⟨Aq,B4,Gy,Qi,Dc,Gz⟩ Qj Qk ⟨Ql,Dd⟩;(try dsimp only [Kst.L,List.set,AId,AK2] at Dd);refine (show W _ _ _ (setL [(13,(.int .i64 Aq))] (mix _ Qj _)) Qk from ?_);obtain ⟨Qm,Y5,rfl,Bh,De⟩:=AB1 Ql;rw [Qg] at Bh;dsimp only at Bh;unfold AEz at Bh;refine ABh (ACx rfl rfl (ABn (ABl (⟨_,rfl,fun Df=>?_,fun Df=>?_⟩))))
       ·refine ABq (q_t (ABl (ABo (ABh (Wj (ACq (Wj (Wj (Wj ?_)))))))));obtain ⟨Qn,Qo⟩:=ifN (AC1 Bh Df);refine AQ1 (c:=(cI .i64)) (a:=0) ABt AGy rfl rfl (fun _=>rfl) rfl trivial tt2 rfl rfl (by decide) Qn fun G3 Qp Y6 Qq Qr Qs Qt=>?_;have Bi:=Dd.no Qr (AGj Qs Qt) Qq;obtain ⟨Y7,G4,Qu⟩:=ABj Qo;refine ADn AB0 rfl (Bi.o2 p1) rfl G4 fun Qv Y8 Qw Y9 Za=>AVv ACl (Bi.o2 p1) G4 Qw rfl rfl (Bi.o p0) (Bi.dj p0 p1 (by decide)) fun Ay Qx Qy Qz=>ABn (AEg (fun h'=>UpT ([Aa] ++ []) Ay h') (by kernel_rfl) ?_);have Aj:=Bi.m2 p0 p1 (by decide) Qy Qx (fun z hz=> .inl (Qz z hz));have Dg:UpT ([Aa] ++ []) Ay Ay:=UpT.start (AD3 (AGc (Aj.b p2) rfl) all_nil);refine Wj (Wj ?_);obtain ⟨Q0,Dh,Q1⟩:=ABj Qu;refine ADn AB0 rfl (Aj.o2 p1) rfl Dh fun Zb Zd Q2 Q3 Q4=>AGa ACl rfl Dg (fun h' hb=>AJ9 Q4 hb (APv (Aj.dj p1 p2 (by decide) _ (by simp [aO,aO2,Q2])) APw)) (Wj (Wj (Wj ?_)));obtain ⟨Q6,Q7,G5⟩:=ABj Q1;have Q8:UpT ([Aa] ++ []) Ay Ay:=UpT.start (AD3 (AGc (Aj.b p2) rfl) all_nil);refine ACm (K':=(fun xr h'=> ∃ x:(Int) × (Int),(x.1,x.2)=Q6/\xr=(.int .i64 x.1)/\Kst h h' ((AId Aj.L [1,2]).set 1 (aB 76 Aa [Ab,(.int .i64 x.2)]))/\UpT ([Aa] ++ []) Ay h')) Dg rfl ?_ fun Ze Zf Q9=>?_
        ·refine cwf (l:=[_,_]) Tryz.func62 rfl rfl (ABh (ACq (Wj ?_)));obtain ⟨Rc,G6,G7⟩:=ABj Q7;have G8:UpT ([Aa] ++ []) Ay Ay:=UpT.start (AD3 (AGc (Aj.b p2) rfl) all_nil);refine ACm (K':=(fun xr h'=> ∃ x:(Int) × (Int),(x.1,x.2)=Rc/\xr=(.int .i64 x.1)/\Kst h h' ((AId Aj.L [1,2]).set 1 (aB 76 Aa [Ab,(.int .i64 x.2)]))/\UpT ([Aa] ++ []) Ay h')) trivial rfl ?_ fun Zg Zh Rd=>?_
         ·refine cwf (l:=[_]) Tryz.func50 rfl rfl (ABh (ABp (ABl (ABl (AMq (Wj (AI6 rfl (AIn AD4 rfl (AB3 AFg rfl ((Aj.b p2).cell (i:=1) rfl) (Wj (AI6 rfl (AIn AIy rfl (AB3 AOn rfl ((Aj.b p2).cell (i:=0) rfl) (ADs APc rfl H4 (AMe rfl rfl (ABn (⟨_,rfl,fun Di=>?_,fun Di=>?_⟩)))))))))))))))))
          ·refine ABh (ABp (ABr (ABz (⟨_,ABs,((0,B4):(Int) × (Int)),?_,rfl,?_,?_⟩))))
           ·exact ABi (AC1 G6 Di)
           ·exact Aj.sel [1,2] (by decide)
           ·exact G8
          ·refine ABq (q_t (ABh (Wj (AI6 rfl (AIn AD4 rfl (AB3 AFg rfl ((Aj.b p2).cell (i:=1) rfl) (ACw rfl rfl (AI6 rfl (AIn AD4 rfl (AT6 [Ab,(.int .i64 (w64 (B4 + 1)))] AFg rfl rfl rfl (Aj.b p2) (Nat.le_of_ble_eq_true rfl) rfl fun Zj G9 Hb=>ABn (ABl (AMq (Wj (AI6 rfl (AIn AIy rfl ?_)))))))))))))));have B5:=Aj.sb p2 Hb G9 rfl;refine AB3 AOn rfl ((B5.b p2).cell (i:=0) rfl) (Wj (AI6 rfl (AIn AD4 rfl (AB3 AFg rfl ((B5.b p2).cell (i:=1) rfl) (AGd rfl rfl ?_)))));obtain ⟨Re,Rf,Rg⟩:=ABj (AC2 G6 Di);refine AIa (c:=(cI .i8)) APc rfl H4 rfl Rf fun Zk Zl Zm Rh Ri=>?_;obtain rfl:=Rh;refine AB3 AW3 rfl (ABv (Ri 0 _ rfl) B5.x) (ALi AW4 AKr rfl (ABp (ABr (⟨_,ABs,(((w64 Re),(w64 (B4 + 1))):(Int) × (Int)),?_,rfl,?_,?_⟩))))
           ·exact ABi Rg
           ·exact B5.sel [1,2] (by decide)
           ·exact (G8.then (G9.stA Hb (AGc (Aj.b p2) rfl) rfl) (AK7 rfl))
         obtain ⟨⟨Rj,Rm⟩,Rn,rfl,Hc,Ro⟩:=Rd;(try dsimp only [Kst.L,List.set,AId,AK2] at Hc);refine ⟨trivial,?_⟩;subst Rn;(try dsimp only at G7);refine ALi AKr APd rfl (ALi APd APm rfl (Wj (AFz rfl rfl (by decide) (ABp (ABr (⟨_,ABs,(((Int.tmod (w64 (IntKind.wrap .u8 Rj)) 9),Rm):(Int) × (Int)),?_,rfl,?_,?_⟩))))))
         ·exact ABi G7
         ·exact Hc
         ·exact (Q8.then Ro (AD3 (AK7 rfl) all_nil))
        obtain ⟨⟨Hd,Rq⟩,Rr,rfl,Dj,Rs⟩:=Q9;(try dsimp only [Kst.L,List.set,AId,AK2] at Dj);refine ⟨(Dg.then Rs (AD3 (AK7 rfl) all_nil)),?_⟩;subst Rr;(try dsimp only at G5);refine ACw rfl rfl ?_;obtain ⟨Zn,He,Rt⟩:=ABj G5;refine AE2 (m:=Aq) ABt rfl (Aj.o2 p1) Q3 Dh rfl He fun Zo Ru=>AJc (m:=Aq) (AFw ACp rfl rfl rfl) (Dj.o2 p0) Ru Dh He (show ((cI .i64)).rep _ (w64 (1 + Hd)) _ from rfl) fun Zp Rv Rw=>ACh (q_b (q_t (ABu (ACw rfl rfl (Wj (ABn ?_))))));obtain rfl:=ABi Rt;exact ⟨Qm,(((w64 (Aq + 1)),Rq,(sI (sI Gy Aq (List.replicate (Int.toNat (w64 (1 + (Int.tmod (w64 a1) Af)))) (0:Int))) Aq (sI Q0 Aq (w64 (1 + Hd)))),(Qv :: (Dc.set (Int.toNat Aq) [G3]).flatten),(Dc.set (Int.toNat Aq) [G3]),(Gz.set (Int.toNat Aq) Qp)):(Int) × (Int) × (LiI) × LnA × LnN × LvA),Nat.lt_succ_self _,⟨De,(Dj.uO2 p0 Rw Rv)⟩,rfl,trivial⟩
       ·obtain rfl:=ABi (AC2 Bh Df);change _=Gw at De;subst De;(try dsimp only at Gx);refine AB8 (AB6 (AB6 (ADg (q_t (ABh (Wj (ABp (ABr (⟨_,ABs,((Gy,Gv,Qi,Dc,Gz,B4):(LiI) × (Value) × LnA × LnN × LvA × (Int)),?_,rfl,?_⟩)))))))))
        ·exact ABi Gx
        ·exact Dd
      obtain ⟨⟨Rx,Gu,Ry,Rz,R3,R4⟩,R5,rfl,Hf⟩:=P4;(try dsimp only [Kst.L,List.set,AId,AK2] at Hf);refine ⟨trivial,?_⟩;subst R5;(try dsimp only at Gt);refine ACa (ACh (q_b (q_t ?_)));exact ⟨((Rx,Gu,Ry,Rz,R3,R4):(LiI) × (Value) × LnA × LnN × LvA × (Int)),⟨ABi Gt,Hf⟩,rfl,trivial⟩
     ·refine ABu (Wj (Wj ?_));obtain ⟨R6,R7,Hg⟩:=ABj (AC2 Gr Da);refine ACm (K':=(fun xr h'=> ∃ x:(LiI) × (Value) × LnA × LnN × LvA × (Int),(x.1,x.2.2.2.2.2)=R6/\xr=x.2.1/\Kst h h' (aO2 (cI .i64) 23 2 x.2.2.1 x.2.2.2.1 x.2.2.2.2.1 x.2.1 x.1 :: (Ao.L.set 0 (aB 76 Aa [Ab,(.int .i64 x.2.2.2.2.2)]))))) trivial rfl ?_ fun Hh Zq R8=>?_
      ·refine cwf (l:=[_,_,_]) Tryz.func63 rfl rfl (ABh (ACq (Wj ?_)));obtain ⟨R9,Sa⟩:=ifN R7;refine AUb (cI .i64) 2 AB0 ALt rfl trivial tt2 rfl rfl (by decide) R9 fun Sb Sc Sd Hj Zr Se Sf Sg=>ABp (ABl (ABh (Wj ?_)));have Dk:=Ao.no2 Sf Sg Se;refine ADf AB0 rfl (Dk.o2 p0).rd (Wj (ABn (ABo ?_)));obtain ⟨Hk,Sh,Hl⟩:=ABj Sa;obtain ⟨Si,Sj,Sk⟩:=ACd Sh;refine ACg 4294959360 (fun x:(Int) × (Int) × (LiI) × LnA × LnN × LvA=>[(13,(.int .i64 x.1))]) (fun k x h'=>iter Si k (x.1,x.2.1,x.2.2.1)=some Hk/\Kst h h' ((Dk.L.set 0 (aO2 (cI .i64) 23 2 x.2.2.2.1 x.2.2.2.2.1 x.2.2.2.2.2 Hj x.2.2.1)).set 1 (aB 76 Aa [Ab,(.int .i64 x.2.1)]))) (by kernel_rfl) fuel ((0,0,(List.replicate (Int.toNat (w64 (1 + (Int.tmod (w64 a1) Af)))) ([]:List Int)),Sb,Sc,Sd):(Int) × (Int) × (LiI) × LnA × LnN × LvA) ?_ ⟨rfl,trivial⟩ ?_
       ·exact ⟨Sk,Dk⟩
       rintro Zs ⟨Ar,B6,Hm,Sm,Dl,Hn⟩ Sn So ⟨Sq,Dn⟩;(try dsimp only [Kst.L,List.set,AId,AK2] at Dn);refine (show W _ _ _ (setL [(13,(.int .i64 Ar))] (mix _ Sn _)) So from ?_);obtain ⟨Sr,Zt,rfl,Bj,Do⟩:=AB1 Sq;rw [Sj] at Bj;dsimp only at Bj;unfold AE0 at Bj;refine ABh (ACx rfl rfl (ABn (ABl (⟨_,rfl,fun Dp=>?_,fun Dp=>?_⟩))))
       ·refine ABq (q_t (ABl (ABo (ABh (Wj (ACq (Wj (Wj (Wj ?_)))))))));obtain ⟨Ss,St⟩:=ifN (AC1 Bj Dp);refine AQ1 (c:=(cI .i64)) (a:=0) ABt AGy rfl rfl (fun _=>rfl) rfl trivial tt2 rfl rfl (by decide) Ss fun Ho Su Zu Sv Sw Sx Sy=>?_;have Bl:=Dn.no Sw (AGj Sx Sy) Sv;obtain ⟨Zv,Hq,Sz⟩:=ABj St;refine ADn AB0 rfl (Bl.o2 p1) rfl Hq fun S0 Zw S2 Zx Zy=>AVv ACl (Bl.o2 p1) Hq S2 rfl rfl (Bl.o p0) (Bl.dj p0 p1 (by decide)) fun Az S3 S4 S7=>ABn (AEg (fun h'=>UpT ([Aa] ++ []) Az h') (by kernel_rfl) ?_);have Ak:=Bl.m2 p0 p1 (by decide) S4 S3 (fun z hz=> .inl (S7 z hz));have Dq:UpT ([Aa] ++ []) Az Az:=UpT.start (AD3 (AGc (Ak.b p2) rfl) all_nil);refine Wj (Wj ?_);obtain ⟨Ta,Dr,Tb⟩:=ABj Sz;refine ADn AB0 rfl (Ak.o2 p1) rfl Dr fun Zz Z1 Tc Td Te=>AGa ACl rfl Dq (fun h' hb=>AJ9 Te hb (APv (Ak.dj p1 p2 (by decide) _ (by simp [aO,aO2,Tc])) APw)) (Wj (Wj (Wj ?_)));obtain ⟨Tf,Tg,Hr⟩:=ABj Tb;have Th:UpT ([Aa] ++ []) Az Az:=UpT.start (AD3 (AGc (Ak.b p2) rfl) all_nil);refine ACm (K':=(fun xr h'=> ∃ x:(Int) × (Int),(x.1,x.2)=Tf/\xr=(.int .i64 x.1)/\Kst h h' ((AId Ak.L [1,2]).set 1 (aB 76 Aa [Ab,(.int .i64 x.2)]))/\UpT ([Aa] ++ []) Az h')) Dq rfl ?_ fun Z2 Z4 Ti=>?_
        ·refine cwf (l:=[_,_]) Tryz.func62 rfl rfl (ABh (ACq (Wj ?_)));obtain ⟨Tj,Hs,Ht⟩:=ABj Tg;have Hu:UpT ([Aa] ++ []) Az Az:=UpT.start (AD3 (AGc (Ak.b p2) rfl) all_nil);refine ACm (K':=(fun xr h'=> ∃ x:(Int) × (Int),(x.1,x.2)=Tj/\xr=(.int .i64 x.1)/\Kst h h' ((AId Ak.L [1,2]).set 1 (aB 76 Aa [Ab,(.int .i64 x.2)]))/\UpT ([Aa] ++ []) Az h')) trivial rfl ?_ fun Z9 AAa Tk=>?_
         ·refine cwf (l:=[_]) Tryz.func50 rfl rfl (ABh (ABp (ABl (ABl (AMq (Wj (AI6 rfl (AIn AD4 rfl (AB3 AFg rfl ((Ak.b p2).cell (i:=1) rfl) (Wj (AI6 rfl (AIn AIy rfl (AB3 AOn rfl ((Ak.b p2).cell (i:=0) rfl) (ADs APc rfl H4 (AMe rfl rfl (ABn (⟨_,rfl,fun Ds=>?_,fun Ds=>?_⟩)))))))))))))))))
          ·refine ABh (ABp (ABr (ABz (⟨_,ABs,((0,B6):(Int) × (Int)),?_,rfl,?_,?_⟩))))
           ·exact ABi (AC1 Hs Ds)
           ·exact Ak.sel [1,2] (by decide)
           ·exact Hu
          ·refine ABq (q_t (ABh (Wj (AI6 rfl (AIn AD4 rfl (AB3 AFg rfl ((Ak.b p2).cell (i:=1) rfl) (ACw rfl rfl (AI6 rfl (AIn AD4 rfl (AT6 [Ab,(.int .i64 (w64 (B6 + 1)))] AFg rfl rfl rfl (Ak.b p2) (Nat.le_of_ble_eq_true rfl) rfl fun AAb Hv Hw=>ABn (ABl (AMq (Wj (AI6 rfl (AIn AIy rfl ?_)))))))))))))));have B7:=Ak.sb p2 Hw Hv rfl;refine AB3 AOn rfl ((B7.b p2).cell (i:=0) rfl) (Wj (AI6 rfl (AIn AD4 rfl (AB3 AFg rfl ((B7.b p2).cell (i:=1) rfl) (AGd rfl rfl ?_)))));obtain ⟨Tl,Tm,Tn⟩:=ABj (AC2 Hs Ds);refine AIa (c:=(cI .i8)) APc rfl H4 rfl Tm fun AAc AAd AAe To Tp=>?_;obtain rfl:=To;refine AB3 AW3 rfl (ABv (Tp 0 _ rfl) B7.x) (ALi AW4 AKr rfl (ABp (ABr (⟨_,ABs,(((w64 Tl),(w64 (B6 + 1))):(Int) × (Int)),?_,rfl,?_,?_⟩))))
           ·exact ABi Tn
           ·exact B7.sel [1,2] (by decide)
           ·exact (Hu.then (Hv.stA Hw (AGc (Ak.b p2) rfl) rfl) (AK7 rfl))
         obtain ⟨⟨Tq,Tr⟩,Ts,rfl,Hx,Tt⟩:=Tk;(try dsimp only [Kst.L,List.set,AId,AK2] at Hx);refine ⟨trivial,?_⟩;subst Ts;(try dsimp only at Ht);refine ALi AKr APd rfl (ALi APd APm rfl (Wj (AFz rfl rfl (by decide) (ABp (ABr (⟨_,ABs,(((Int.tmod (w64 (IntKind.wrap .u8 Tq)) 1),Tr):(Int) × (Int)),?_,rfl,?_,?_⟩))))))
         ·exact ABi Ht
         ·exact Hx
         ·exact (Th.then Tt (AD3 (AK7 rfl) all_nil))
        obtain ⟨⟨Hy,Tu⟩,Tv,rfl,Dt,Tw⟩:=Ti;(try dsimp only [Kst.L,List.set,AId,AK2] at Dt);refine ⟨(Dq.then Tw (AD3 (AK7 rfl) all_nil)),?_⟩;subst Tv;(try dsimp only at Hr);refine ACw rfl rfl ?_;obtain ⟨AAf,Hz,Tx⟩:=ABj Hr;refine AE2 (m:=Ar) ABt rfl (Ak.o2 p1) Td Dr rfl Hz fun AAg Ty=>AJc (m:=Ar) (AFw ACp rfl rfl rfl) (Dt.o2 p0) Ty Dr Hz (show ((cI .i64)).rep _ (w64 (1 + Hy)) _ from rfl) fun AAh Tz T0=>ACh (q_b (q_t (ABu (ACw rfl rfl (Wj (ABn ?_))))));obtain rfl:=ABi Tx;exact ⟨Sr,(((w64 (Ar + 1)),Tu,(sI (sI Hm Ar (List.replicate (Int.toNat (w64 (1 + (Int.tmod (w64 a1) Af)))) (0:Int))) Ar (sI Ta Ar (w64 (1 + Hy)))),(S0 :: (Dl.set (Int.toNat Ar) [Ho]).flatten),(Dl.set (Int.toNat Ar) [Ho]),(Hn.set (Int.toNat Ar) Su)):(Int) × (Int) × (LiI) × LnA × LnN × LvA),Nat.lt_succ_self _,⟨Do,(Dt.uO2 p0 T0 Tz)⟩,rfl,trivial⟩
       ·obtain rfl:=ABi (AC2 Bj Dp);change _=Hk at Do;subst Do;(try dsimp only at Hl);refine AB8 (AB6 (AB6 (ADg (q_t (ABh (Wj (ABp (ABr (⟨_,ABs,((Hm,Hj,Sm,Dl,Hn,B6):(LiI) × (Value) × LnA × LnN × LvA × (Int)),?_,rfl,?_⟩)))))))))
        ·exact ABi Hl
        ·exact Dn
      obtain ⟨⟨T1,Hh,T2,T3,T4,T5⟩,T6,rfl,H5⟩:=R8;(try dsimp only [Kst.L,List.set,AId,AK2] at H5);refine ⟨trivial,?_⟩;subst T6;(try dsimp only at Hg);refine ACa (ACh (q_b (q_t ?_)));exact ⟨((T1,Hh,T2,T3,T4,T5):(LiI) × (Value) × LnA × LnN × LvA × (Int)),⟨ABi Hg,H5⟩,rfl,trivial⟩
 rintro ⟨AAi,T7,AAj,AAk,AAl,T8⟩ T9 Ua ⟨Ub,Du⟩;(try dsimp only [Kst.L,List.set,AId,AK2] at Du);refine (show W _ _ _ (setL [(7,T7)] (mix _ T9 _)) Ua from ?_);subst Ub;(try dsimp only at D9);refine ABl (ABh (Wj ?_));obtain ⟨AAm,Uc,H9⟩:=ABj D9;refine AC0 rfl (AQ8 (Du.o2 p0).rd Uc) fun AAn AAo Ud Ue=>?_;subst Ue;refine AGq rfl (ABn ?_);have Bm:=Du.e Ud;refine ⟨_,rfl,fun Dv=>?_,fun Dv=>?_⟩
 ·refine ABh (Wj (Wj ?_));obtain ⟨Uf,Ug,Ia⟩:=ABj (ifT H9 Dv);refine ACm (K':=(fun xr h'=> ∃ x:(LiI) × (Value) × LnA × LnN × LvA × (Int),(x.1,x.2.2.2.2.2)=Uf/\xr=x.2.1/\Kst h h' (aO2 (cI .i64) 23 2 x.2.2.1 x.2.2.2.1 x.2.2.2.2.1 x.2.1 x.1 :: (Bm.L.set 1 (aB 76 Aa [Ab,(.int .i64 x.2.2.2.2.2)]))))) trivial rfl ?_ fun Uh AAp Ui=>?_
  ·refine cwf (l:=[_,_,_]) Tryz.func63 rfl rfl (ABh (ACq (Wj ?_)));obtain ⟨Uj,Uk⟩:=ifN Ug;refine AUb (cI .i64) 2 AB0 ALt rfl trivial tt2 rfl rfl (by decide) Uj fun Ul Um Un Ib AAq Uo Up Uq=>ABp (ABl (ABh (Wj ?_)));have Dw:=Bm.no2 Up Uq Uo;refine ADf AB0 rfl (Dw.o2 p0).rd (Wj (ABn (ABo ?_)));obtain ⟨Ic,Ur,Id⟩:=ABj Uk;obtain ⟨Us,Ut,Uu⟩:=ACd Ur;refine ACg 4294959360 (fun x:(Int) × (Int) × (LiI) × LnA × LnN × LvA=>[(13,(.int .i64 x.1))]) (fun k x h'=>iter Us k (x.1,x.2.1,x.2.2.1)=some Ic/\Kst h h' ((Dw.L.set 0 (aO2 (cI .i64) 23 2 x.2.2.2.1 x.2.2.2.2.1 x.2.2.2.2.2 Ib x.2.2.1)).set 2 (aB 76 Aa [Ab,(.int .i64 x.2.1)]))) (by kernel_rfl) fuel ((0,T8,(List.replicate (Int.toNat (w64 (1 + (Int.tmod (w64 a1) Af)))) ([]:List Int)),Ul,Um,Un):(Int) × (Int) × (LiI) × LnA × LnN × LvA) ?_ ⟨rfl,trivial⟩ ?_
   ·exact ⟨Uu,Dw⟩
   rintro AAr ⟨Au,B8,Ie,Uv,Dx,If⟩ Uw Ux ⟨Uy,Dy⟩;(try dsimp only [Kst.L,List.set,AId,AK2] at Dy);refine (show W _ _ _ (setL [(13,(.int .i64 Au))] (mix _ Uw _)) Ux from ?_);obtain ⟨Uz,AAs,rfl,Bn,Dz⟩:=AB1 Uy;rw [Ut] at Bn;dsimp only at Bn;unfold AE1 at Bn;refine ABh (ACx rfl rfl (ABn (ABl (⟨_,rfl,fun D0=>?_,fun D0=>?_⟩))))
   ·refine ABq (q_t (ABl (ABo (ABh (Wj (ACq (Wj (Wj (Wj ?_)))))))));obtain ⟨U0,U3⟩:=ifN (AC1 Bn D0);refine AQ1 (c:=(cI .i64)) (a:=0) ABt AGy rfl rfl (fun _=>rfl) rfl trivial tt2 rfl rfl (by decide) U0 fun Ih U8 AAt Va Vb Vc Vd=>?_;have Bo:=Dy.no Vb (AGj Vc Vd) Va;obtain ⟨AAu,Ii,Ve⟩:=ABj U3;refine ADn AB0 rfl (Bo.o2 p1) rfl Ii fun Vf AAv Vg AAw AAx=>AVv ACl (Bo.o2 p1) Ii Vg rfl rfl (Bo.o p0) (Bo.dj p0 p1 (by decide)) fun A3 Vh Vi Vj=>ABn (AEg (fun h'=>UpT ([Aa] ++ []) A3 h') (by kernel_rfl) ?_);have Am:=Bo.m2 p0 p1 (by decide) Vi Vh (fun z hz=> .inl (Vj z hz));have D1:UpT ([Aa] ++ []) A3 A3:=UpT.start (AD3 (AGc (Am.b p3) rfl) all_nil);refine Wj (Wj ?_);obtain ⟨Vk,D2,Vl⟩:=ABj Ve;refine ADn AB0 rfl (Am.o2 p1) rfl D2 fun AAy AAz Vm Vn Vo=>AGa ACl rfl D1 (fun h' hb=>AJ9 Vo hb (APv (Am.dj p1 p3 (by decide) _ (by simp [aO,aO2,Vm])) APw)) (Wj (Wj (Wj ?_)));obtain ⟨Vp,Vq,Ij⟩:=ABj Vl;have Vr:UpT ([Aa] ++ []) A3 A3:=UpT.start (AD3 (AGc (Am.b p3) rfl) all_nil);refine ACm (K':=(fun xr h'=> ∃ x:(Int) × (Int),(x.1,x.2)=Vp/\xr=(.int .i64 x.1)/\Kst h h' ((AId Am.L [1,2,3]).set 2 (aB 76 Aa [Ab,(.int .i64 x.2)]))/\UpT ([Aa] ++ []) A3 h')) D1 rfl ?_ fun AA0 AA1 Vs=>?_
    ·refine cwf (l:=[_,_]) Tryz.func62 rfl rfl (ABh (ACq (Wj ?_)));obtain ⟨Vt,Ik,Il⟩:=ABj Vq;have Im:UpT ([Aa] ++ []) A3 A3:=UpT.start (AD3 (AGc (Am.b p3) rfl) all_nil);refine ACm (K':=(fun xr h'=> ∃ x:(Int) × (Int),(x.1,x.2)=Vt/\xr=(.int .i64 x.1)/\Kst h h' ((AId Am.L [1,2,3]).set 2 (aB 76 Aa [Ab,(.int .i64 x.2)]))/\UpT ([Aa] ++ []) A3 h')) trivial rfl ?_ fun AA2 AA3 Vu=>?_
     ·refine cwf (l:=[_]) Tryz.func50 rfl rfl (ABh (ABp (ABl (ABl (AMq (Wj (AI6 rfl (AIn AD4 rfl (AB3 AFg rfl ((Am.b p3).cell (i:=1) rfl) (Wj (AI6 rfl (AIn AIy rfl (AB3 AOn rfl ((Am.b p3).cell (i:=0) rfl) (ADs APc rfl H4 (AMe rfl rfl (ABn (⟨_,rfl,fun D3=>?_,fun D3=>?_⟩)))))))))))))))))
      ·refine ABh (ABp (ABr (ABz (⟨_,ABs,((0,B8):(Int) × (Int)),?_,rfl,?_,?_⟩))))
       ·exact ABi (AC1 Ik D3)
       ·exact Am.sel [1,2,3] (by decide)
       ·exact Im
      ·refine ABq (q_t (ABh (Wj (AI6 rfl (AIn AD4 rfl (AB3 AFg rfl ((Am.b p3).cell (i:=1) rfl) (ACw rfl rfl (AI6 rfl (AIn AD4 rfl (AT6 [Ab,(.int .i64 (w64 (B8 + 1)))] AFg rfl rfl rfl (Am.b p3) (Nat.le_of_ble_eq_true rfl) rfl fun AA4 Io Ip=>ABn (ABl (AMq (Wj (AI6 rfl (AIn AIy rfl ?_)))))))))))))));have B9:=Am.sb p3 Ip Io rfl;refine AB3 AOn rfl ((B9.b p3).cell (i:=0) rfl) (Wj (AI6 rfl (AIn AD4 rfl (AB3 AFg rfl ((B9.b p3).cell (i:=1) rfl) (AGd rfl rfl ?_)))));obtain ⟨Vv,Vw,Vx⟩:=ABj (AC2 Ik D3);refine AIa (c:=(cI .i8)) APc rfl H4 rfl Vw fun AA5 AA6 AA7 Vy Vz=>?_;obtain rfl:=Vy;refine AB3 AW3 rfl (ABv (Vz 0 _ rfl) B9.x) (ALi AW4 AKr rfl (ABp (ABr (⟨_,ABs,(((w64 Vv),(w64 (B8 + 1))):(Int) × (Int)),?_,rfl,?_,?_⟩))))
       ·exact ABi Vx
       ·exact B9.sel [1,2,3] (by decide)
       ·exact (Im.then (Io.stA Ip (AGc (Am.b p3) rfl) rfl) (AK7 rfl))
     obtain ⟨⟨V1,V5⟩,V6,rfl,Iq,Wa⟩:=Vu;(try dsimp only [Kst.L,List.set,AId,AK2] at Iq);refine ⟨trivial,?_⟩;subst V6;(try dsimp only at Il);refine ALi AKr APd rfl (ALi APd APm rfl (Wj (AFz rfl rfl (by decide) (ABp (ABr (⟨_,ABs,(((Int.tmod (w64 (IntKind.wrap .u8 V1)) 2),V5):(Int) × (Int)),?_,rfl,?_,?_⟩))))))
     ·exact ABi Il
     ·exact Iq
     ·exact (Vr.then Wa (AD3 (AK7 rfl) all_nil))
    obtain ⟨⟨Ir,Wb⟩,Wc,rfl,D4,Wd⟩:=Vs;(try dsimp only [Kst.L,List.set,AId,AK2] at D4);refine ⟨(D1.then Wd (AD3 (AK7 rfl) all_nil)),?_⟩;subst Wc;(try dsimp only at Ij);refine ACw rfl rfl ?_;obtain ⟨AA8,It,We⟩:=ABj Ij;refine AE2 (m:=Au) ABt rfl (Am.o2 p1) Vn D2 rfl It fun AA9 Wf=>AJc (m:=Au) (AFw ACp rfl rfl rfl) (D4.o2 p0) Wf D2 It (show ((cI .i64)).rep _ (w64 (1 + Ir)) _ from rfl) fun ABa Wg Wh=>ACh (q_b (q_t (ABu (ACw rfl rfl (Wj (ABn ?_))))));obtain rfl:=ABi We;exact ⟨Uz,(((w64 (Au + 1)),Wb,(sI (sI Ie Au (List.replicate (Int.toNat (w64 (1 + (Int.tmod (w64 a1) Af)))) (0:Int))) Au (sI Vk Au (w64 (1 + Ir)))),(Vf :: (Dx.set (Int.toNat Au) [Ih]).flatten),(Dx.set (Int.toNat Au) [Ih]),(If.set (Int.toNat Au) U8)):(Int) × (Int) × (LiI) × LnA × LnN × LvA),Nat.lt_succ_self _,⟨Dz,(D4.uO2 p0 Wh Wg)⟩,rfl,trivial⟩
   ·obtain rfl:=ABi (AC2 Bn D0);change _=Ic at Dz;subst Dz;(try dsimp only at Id);refine AB8 (AB6 (AB6 (ADg (q_t (ABh (Wj (ABp (ABr (⟨_,ABs,((Ie,Ib,Uv,Dx,If,B8):(LiI) × (Value) × LnA × LnN × LvA × (Int)),?_,rfl,?_⟩)))))))))
    ·exact ABi Id
    ·exact Dy
  obtain ⟨⟨ABb,Uh,ABc,ABd,ABe,ABf⟩,Wi,rfl,Ca⟩:=Ui;(try dsimp only [Kst.L,List.set,AId,AK2] at Ca);refine ⟨trivial,?_⟩;subst Wi;(try dsimp only at Ia);refine ABp (ABr (ABz ?_));obtain rfl:=ABi Ia;exact ⟨_,ABs,Ca.x,_,_,_,_,rfl,(Ca.o2 p0),Ca.s.sel [0] (by decide)⟩
 ·refine ABq (q_t (ABh (Wj (ABp (ABr ?_)))));obtain rfl:=ABi (AKt H9 Dv);exact ⟨_,ABs,Bm.x,_,_,_,_,rfl,(Bm.o2 p0),Bm.s.sel [0] (by decide)⟩
def AEv (fuel:Nat) (a1 a2:Int) (a5 a9:LiA) (Ae:Int):Option LiI:=
  ((AEu fuel a1 a2 a5 a9 Ae).bind fun Af=>((AE3 fuel Af).bind fun Ag=>((AF5 fuel Ag).bind fun (Ah,Ai,Aj)=>(some Ah))))
theorem AM2 {fuel:Nat} {h:ABg} {a1 a2:Int} {Ac:Value} {a5:LiA} {Ad:Value} {a9:LiA} {Ai:Int} {r:LiI} (H4:SlC (cI .i8) h Ac a5) (H8:SlC (cI .i8) h Ad a9) (hp:AEv fuel a1 a2 a5 a9 Ai=some r):AB7 Tryz.prog 12 #[(.agg #[(.int .u8 a1),(.int .u8 a2),Ac,Ad]),(.int .i64 Ai)] h (fun x h'=>Ext h h'/\ ∃ (x0:Value) (F0:List Nat) (Au:List LnA) (Av:List Value),x=x0/\AE6 (cI .i64) 23 2 h' F0 Au Av x0 r/\Sp h' h.size [F0]):=by
 unfold AEv at hp;refine cwf (l:=[_,_]) Tryz.func12 rfl rfl (ABh (AHx [(.int .u8 a1),(.int .u8 a2),Ac,Ad] trivial tt2 rfl rfl fun Bx By Aw Ax Ay=>ACq ?_));have Ae:=(Kst.k0 h).nb Ax Ay Aw;refine AGx [(.int .u8 a1),(.int .u8 a2),Ac,Ad] Alf rfl rfl (Ae.b p0).agg (Wj ?_);obtain ⟨Bz,Az,A3⟩:=ABj hp;refine AC0 rfl (AM1 (H4.ext Ae.x) (H8.ext Ae.x) Az) fun B1 B2 A4 A5=>?_;obtain ⟨B3,B4,B5,B6,rfl,A6,A7⟩:=A5;have Am:=Ae.no2 A4 A7 A6;obtain ⟨B7,A8,A9⟩:=ABj A3;refine AC0 rfl (AKg (Am.o2 p0).rd A8) fun B8 B9 Ba Bb=>?_;obtain ⟨Ca,Cb,Cd,Ce,rfl,Bc,Be⟩:=Bb;have Ao:=Am.no2 Ba Be Bc;obtain ⟨⟨Bf,Bg,Cf⟩,Bh,Ap⟩:=ABj A9;dsimp only at Ap;refine AC0 rfl (AO5 (Ao.o2 p0).rd Bh) fun Cg Ch Bi Bj=>?_;obtain ⟨Bl,Bm,Bn,Bo,Bp,Bq,Br,Bt,rfl,Bu,Bv,Bw⟩:=Bj;have Af:=Ao.n Bi [aO2 (cI .i64) 23 2 Bm Bn Bo Bl Bf,aO2 cZ 112 109 Bq Br Bt Bp Bg] Bw ⟨Bu,Bv,trivial⟩;simp only [List.cons_append,List.nil_append] at Af;refine Wj (AC9 rfl rfl (AC9 rfl rfl (AC9 rfl rfl (ACa (ACa (ACq (Wj (ABp (ABr ?_)))))))));obtain rfl:=ABi Ap;exact ⟨_,ABs,Af.x,_,_,_,_,rfl,(Af.o2 p0),Af.s.sel [0] (by decide)⟩
end Go.Proofs.YtiegjkmfpcgjjaaGreatDoor
namespace Go.QF
open Go
theorem AZi {h:ABg} {v:Value} {l:List Value} (H:Sl h v l):SlK h 1 v (l.map fun x=>[x]):=by
 obtain ⟨a,cap,hv,hc⟩:=H;refine ⟨a,cap,by rw [List.length_map];exact hv,fun i row hr=>?_⟩;rw [List.getElem?_map] at hr;obtain ⟨x,hx,rfl⟩:=Option.map_eq_some_iff.1 hr;obtain ⟨b,o,ha,hb⟩:=hc i x hx;refine ⟨b,o,ha,fun j y hy=>?_⟩
 cases j with
 | zero=>injection hy with hy;subst hy;rw [Nat.mul_one,Nat.add_zero];exact hb
 | succ j=>simp at hy
theorem AZj {h:ABg} {v:Value} {l:List Value} (H:SlK h 1 v (l.map fun x=>[x])):Sl h v l:=by
 obtain ⟨a,cap,hv,hc⟩:=H;refine ⟨a,cap,by rw [List.length_map] at hv;exact hv,fun i x hx=>?_⟩;obtain ⟨b,o,ha,hb⟩:=hc i [x] (by simp [hx]);refine ⟨b,o,ha,?_⟩;have:=hb 0 x rfl;rwa [Nat.mul_one,Nat.add_zero] at this
theorem Afj {κ:IntKind} {h:ABg} {v:Value} {L:List Int} (H:Sl h v (L.map (.int κ))):SlC (cI κ) h v L:=by
 refine ⟨L.map fun a=>[.int κ a],?_,by simp,fun i cs a h1 h2=>?_⟩
 ·have:=AZi H;rwa [List.map_map] at this
 ·rw [List.getElem?_map,h2] at h1;injection h1 with h1;exact h1.symm
theorem Ap2 {κ:IntKind} {h:ABg} {v:Value} {L:List Int} (H:SlC (cI κ) h v L):Sl h v (L.map (.int κ)):=by
 obtain ⟨Ls,h1,h2,h3⟩:=H
 have:Ls=(L.map (Value.int κ)).map fun x=>[x]:=by
   apply List.ext_getElem?
   intro i
   by_cases hi:i < L.length
   · obtain ⟨a,ha⟩:∃ a,L[i]? =some a:=⟨L[i],List.getElem?_eq_getElem hi⟩
     obtain ⟨cs,hcs⟩:∃ cs,Ls[i]? =some cs:=⟨Ls[i]'(by omega),List.getElem?_eq_getElem _⟩
     have:=h3 i cs a hcs ha
     rw [hcs,List.map_map,List.getElem?_map,ha]
     exact congrArg some this
   · rw [List.getElem?_eq_none (by omega),List.getElem?_eq_none (by simp;omega)]
 subst this;exact AZj h1
theorem Alg {h:ABg} {v:Value} {M:List (List Int)} (H:AF0 (cI .i64) h v M):Mat h v M:=by
 obtain ⟨_,rs,h1,h2,h3⟩:=H;exact ⟨rs,AZj h1,h2,fun i r z hr hz=>Ap2 (h3 i r z hr hz)⟩
theorem Aoi {h:ABg} {v:Value} {M:List (List Int)} (H:Mat h v M) (hc:AMs v):AF0 (cI .i64) h v M:=by
 obtain ⟨rs,h1,h2,h3⟩:=H;exact ⟨hc,rs,AZi h1,h2,fun i r z hr hz=>Afj (h3 i r z hr hz)⟩
end Go.QF
namespace Go.QF
def Abs (x b:Int):Prop:= -b<=x/\x<=b
theorem ASw {x y a b:Int} (hx:Abs x a) (hy:Abs y b):Abs (x * y) (a * b):=by
 unfold Abs at *;have ha:0<=a:=by omega
 have hb:0<=b:=by omega
 have h1:0<=(a - x) * (b - y):=Int.mul_nonneg (by omega) (by omega);have h2:0<=(a - x) * (b + y):=Int.mul_nonneg (by omega) (by omega);have h3:0<=(a + x) * (b - y):=Int.mul_nonneg (by omega) (by omega);have h4:0<=(a + x) * (b + y):=Int.mul_nonneg (by omega) (by omega);constructor <;> grind
theorem Alh {x b y:Int} (hb:0 < b) (hx:Abs x (b * y)):Abs (x.tdiv b) y:=by
 unfold Abs at *;rcases ARm x 0 with h | h
 ·have h1:x.tdiv b= -((-x).tdiv b):=by rw [Int.neg_tdiv,Int.neg_neg]
  have h2:(-x).tdiv b=(-x) / b:=Int.tdiv_eq_ediv_of_nonneg (by omega)
  have h3:(-x) / b<=y:=by
    have:(-x) / b<=(b * y) / b:=Int.ediv_le_ediv hb (by omega)
    rwa [Int.mul_ediv_cancel_left _ (by omega)] at this
  have h4:0<=(-x) / b:=Int.ediv_nonneg (by omega) (by omega);omega
 ·have h2:x.tdiv b=x / b:=Int.tdiv_eq_ediv_of_nonneg h
  have h3:x / b<=y:=by
    have:x / b<=(b * y) / b:=Int.ediv_le_ediv hb (by omega)
    rwa [Int.mul_ediv_cancel_left _ (by omega)] at this
  have h4:0<=x / b:=Int.ediv_nonneg h (by omega);omega
def AX0 (M:List (List Int)):Prop:=(1<=M.length/\M.length<=8)/\(∀ z∈M,z.length=M.length)/\ ∀ i j,i < M.length->j < M.length->ent M i j=ent M j i/\ -262144 < ent M i j/\ent M i j < 262144
open Classical in
noncomputable def AJv (M:List (List Int)):Bool:=decide (AX0 M)
theorem AF9 {M:List (List Int)} (h:AX0 M):true=AJv M:=by simp [AJv,h]
theorem AEr {M:List (List Int)} (h: ¬ AX0 M):false=AJv M:=by simp [AJv,h]
theorem AX1 {M:List (List Int)} (h:AJv M=true):AX0 M:=by simpa [AJv] using h
def ANy (m:Nat) (F:Nat->Nat->Int):Prop:=(0 < F 0 0/\F 0 0 < 65536)/\ ∀ i,1<=i->i < m->2 * F i 0<=F 0 0/\ -2 * F i 0<=F 0 0
instance (m:Nat) (F:Nat->Nat->Int):Decidable (ANy m F):=by
  unfold ANy
  have:Decidable (∀ i,1<=i->i < m->2 * F i 0<=F 0 0/\ -2 * F i 0<=F 0 0):=
    decidable_of_iff (∀ i,i < m->1<=i->2 * F i 0<=F 0 0/\ -2 * F i 0<=F 0 0) ⟨fun h i a b=>h i b a,fun h i a b=>h i b a⟩
  infer_instance
def AO6 (F:Nat->Nat->Int) (last:Int):Nat->Nat->Int:=fun i j=>(F 0 0 * F (i + 1) (j + 1) - F (i + 1) 0 * F 0 (j + 1)).tdiv last
def AS5 (F:Nat->Nat->Int) (last:Int):Prop:=3 * F 0 0 * F 0 0<=4 * (last * AO6 F last 0 0 + F 1 0 * F 1 0)
instance (F:Nat->Nat->Int) (last:Int):Decidable (AS5 F last):=by unfold AS5;infer_instance
def ANz:Nat->(Nat->Nat->Int)->Int->Bool
  | 0,_,_=>false
  | 1,F,_=>decide (0 < F 0 0/\F 0 0<=10000)
  | m + 2,F,last=>decide (ANy (m + 2) F) && (decide (AS5 F last) && ANz (m + 1) (AO6 F last) (F 0 0))
noncomputable def isRed (M:List (List Int)):Bool:=AJv M && ANz M.length (ent M) 1
structure Stg (m:Nat) (F:Nat->Nat->Int) (last:Int) (K:Int):Prop where
  sym:∀ i j,i < m->j < m->F i j=F j i
  bd:∀ i j,i < m->j < m->Abs (F i j) (last * K)
  l1:1<=last
  l2:last<=65535
theorem Ac8 {m:Nat} {F:Nat->Nat->Int} {last K:Int} (H:Stg (m + 1) F last K) (hK:0<=K) (hs:ANy (m + 1) F):Stg m (AO6 F last) (F 0 0) (K + 16384):=by
 have hd:=hs.1
 have hcol:∀ i,i < m->Abs (2 * F (i + 1) 0) (F 0 0):=fun i hi=>by
   have:=hs.2 (i + 1) (by omega) (by omega)
   exact ⟨by omega,by omega⟩
 refine ⟨fun i j hi hj=>?_,fun i j hi hj=>?_,by omega,by omega⟩
 ·unfold AO6;rw [H.sym (i + 1) (j + 1) (by omega) (by omega),H.sym (i + 1) 0 (by omega) (by omega),H.sym 0 (j + 1) (by omega) (by omega),Int.mul_comm (F 0 (i + 1))]
 ·unfold AO6;refine Alh (by have:=H.l1;omega) ?_;have h1:Abs (F 0 0 * F (i + 1) (j + 1)) (F 0 0 * (last * K)):=ASw ⟨by omega,by omega⟩ (H.bd _ _ (by omega) (by omega))
  have h2:Abs (2 * F (i + 1) 0 * (2 * F 0 (j + 1))) (F 0 0 * F 0 0):=by
    refine ASw (hcol i hi) ?_
    rw [H.sym 0 (j + 1) (by omega) (by omega)];exact hcol j hj
  have h3:0<=F 0 0 * (65536 - F 0 0):=Int.mul_nonneg (by omega) (by omega);have h4:0<=F 0 0 * (last - 1):=Int.mul_nonneg (by omega) (by have:=H.l1;omega);unfold Abs at *;have e1:2 * F (i + 1) 0 * (2 * F 0 (j + 1))=4 * (F (i + 1) 0 * F 0 (j + 1)):=by grind
  rw [e1] at h2;have e2:last * (F 0 0 * (K + 16384))=F 0 0 * (last * K) + 16384 * (F 0 0 * last):=by grind
  rw [e2];have e3:F 0 0 * (65536 - F 0 0)=65536 * F 0 0 - F 0 0 * F 0 0:=by grind
  have e4:F 0 0 * (last - 1)=F 0 0 * last - F 0 0:=by grind
  rw [e3] at h3;rw [e4] at h4;omega
theorem Aik {M:List (List Int)} (h:AX0 M):Stg M.length (ent M) 1 262144:=by
 refine ⟨fun i j hi hj=>(h.2.2 i j hi hj).1,fun i j hi hj=>?_,by omega,by omega⟩;have:=h.2.2 i j hi hj;unfold Abs;omega
theorem AM3 {m:Nat} {F:Nat->Nat->Int} {last:Int} (h:2<=m) (hs: ¬ ANy m F):ANz m F last=false:=by
 obtain ⟨n,rfl⟩:∃ n,m=n + 2:=⟨m - 2,by omega⟩;unfold ANz;rw [decide_eq_false hs];rfl
theorem AQe {m:Nat} {F:Nat->Nat->Int} {last:Int} (h:2<=m) (hs: ¬ AS5 F last):ANz m F last=false:=by
 obtain ⟨n,rfl⟩:∃ n,m=n + 2:=⟨m - 2,by omega⟩;unfold ANz;rw [decide_eq_false hs,Bool.false_and,Bool.and_false]
theorem Ail {m:Nat} {F:Nat->Nat->Int} {last:Int} (h:2<=m) (hs:ANy m F) (hl:AS5 F last):ANz m F last=ANz (m - 1) (AO6 F last) (F 0 0):=by
 obtain ⟨n,rfl⟩:∃ n,m=n + 2:=⟨m - 2,by omega⟩;rw [ANz,decide_eq_true hs,decide_eq_true hl];rfl
theorem AWn {m:Nat} {F:Nat->Nat->Int} {last K:Int} (H:Stg m F last K) (hK0:0<=K) (hK:K<=393216) {i j:Nat} (hi:i < m) (hj:j < m):Abs (F i j) 34359738368:=by
  have h1:=H.bd i j hi hj;have h2:=(AQv (a:=last) (b:=K) (A:=65535) (B:=393216) (by have:=H.l1;omega) H.l2 hK0 hK).2;unfold Abs at *;omega
end Go.QF
namespace Go.Proofs.YtiegjkmfpcgjjaaGreatDoor
open Go Go.QF
set_option maxRecDepth 100000
def zf (z:List Int) (c:Nat):Int:=z[c]?.getD 0
theorem Ac9 (z:List Int):(List.range z.length).map (zf z)=z:=by
 refine List.ext_getElem (by simp) fun i h1 h2=>?_;simp [zf,h2]
theorem Ali {z:List Int} {m:Int} (hm:0 < m) (h:∀ x∈z,0<=x/\x < m) (c:Nat):0<=zf z c/\zf z c < m:=by
 unfold zf;rcases Nat.lt_or_ge c z.length with hc | hc
 ·simp [hc];exact h _ (List.getElem_mem _)
 ·simp [List.getElem?_eq_none hc,hm]
theorem Alj {h:ABg} {g:Nat} {v:Value} {z:List Int} (HO:AD1 h tI g v (z.map (.int .i64))) {f m:Int} (hz:∀ x∈z,0<=x/\x < m) (hf:0<=f) (hfm:f < m) (hm:2<=m) (Ac:m<=2147483647) (hl:z.length<=1000000):
    AB7 Tryz.prog 76 #[v,.int .i64 f,.int .i64 m] h fun r h'=>Upd (· =g) h h'/\AD1 h' tI g v (((List.range z.length).map fun c=>zf z c * f % m).map (.int .i64)):=by
 refine ACu (l:=[_,_,_]) mx Tryz.func76 rfl rfl rfl rfl rfl (by kernel_rfl) (ABh (Wj (AOl ABt rfl HO.sl (Wj (ABn (ABo (ACg 16776384 (fun j:Nat=>[(10,.int .i64 (j:Int))]) (fun k j h'=>Upd (· =g) h h'/\k=z.length - j/\j<=z.length/\AD1 h' tI g v ((AS2 z.length (fun c=>zf z c * f % m) (zf z) j).map (.int .i64))) (by kernel_rfl) z.length 0 ?_ ⟨rfl,trivial⟩ ?_)))))))
 ·exact ⟨Upd.refl _ _,by omega,by omega,by rw [AU7,Ac9];exact HO⟩
 rintro k j s h1 ⟨hU,rfl,hj,HQ⟩;refine ABh (AFc rfl rfl (fun Ab=>?_) (fun Ab=>?_))
 ·refine ABn (ABl (AB5 rfl (ABq (q_t (ABl (ABo (ABh (Wj (AK6 ABt rfl HQ.sl rfl (Af3 (by omega)) fun aX haX=>AB3 ACp rfl haX (ACa (ABp ?_)))))))))));have hxb:=Ali (by omega) hz j;have hxf:=AQv (a:=zf z j) (b:=f) (A:=2147483647) (B:=2147483647) (by omega) (by omega) (by omega) (by omega);refine ABu (Wj (Wj (Wj (Wj (AKc rfl rfl (by omega) (by omega) (Wj (ANs rfl rfl (by omega) (by omega) (AMr ABt rfl HQ rfl (by rw [List.length_map,AKs];omega) ?_))))))));refine ARl ACp rfl rfl rfl HQ (by rw [List.length_map,AKs];omega) ?_;have Aa:=HQ.setI (j:=j) (by rw [AKs];omega) (zf z j * f % m);rw [AW7 (by omega) rfl] at Aa;refine ACh (q_b (q_t (ABu (AIk rfl (by omega) (Wj (ABn ?_))))));exact ⟨z.length - (j + 1),j + 1,by omega,⟨hU.trans (AGr _ _ _),rfl,by omega,Aa⟩,rfl,trivial⟩
 ·refine ABn (ABl (ACc rfl (AB8 (AB6 (AB6 (ADg (⟨_,ASj,?_⟩)))))));rw [AW5 _ _ (by omega)] at HQ;exact ⟨hU,HQ⟩
theorem AUj {h:ABg} {g gr:Nat} {vt vr:Value} {t r:List Int} {a:Addr} (HT:AD1 h tI g vt (t.map (.int .i64))) (HR:AD1 h tI gr vr (r.map (.int .i64))) (hne:g≠gr) (htr:t.length=r.length) {f m:Int} (hb:AEk h a=some (.int .i64 m)) (hab:a.block≠g) (ht:∀ x∈t,0<=x/\x < m) (hr:∀ x∈r,0<=x/\x < m) (hf:0<=f) (hfm:f < m) (hm:2<=m) (Ac:m<=2147483647) (hl:r.length<=1000000):
    AB7 Tryz.prog 105 #[vt,vr,.int .i64 f,.pointer (some a)] h fun _ h'=>Upd (· =g) h h'/\AD1 h' tI g vt (((List.range r.length).map fun c=>(zf t c + (m - f) * zf r c) % m).map (.int .i64)):=by
 refine ACu (l:=[_,_,_,_]) mx Tryz.func105 rfl rfl rfl rfl rfl (by kernel_rfl) (ABh (Wj (AOl ABt rfl HR.sl (Wj (ABn (ABo (ACg 4294965632 (fun j:Nat=>[(11,.int .i64 (j:Int))]) (fun k j h'=>Upd (· =g) h h'/\k=r.length - j/\j<=r.length/\AD1 h' tI g vt ((AS2 r.length (fun c=>(zf t c + (m - f) * zf r c) % m) (zf t) j).map (.int .i64))) (by kernel_rfl) r.length 0 ?_ ⟨rfl,trivial⟩ ?_)))))))
 ·exact ⟨Upd.refl _ _,by omega,by omega,by rw [AU7,<- htr,Ac9];exact HT⟩
 rintro k j s h1 ⟨hU,rfl,hj,HQ⟩;have HRc:=HR.upd hU (fun he=>hne he.symm);have hbx:=ASk hb hU (fun he=>hab he);refine ABh (AFc rfl rfl (fun Ab=>?_) (fun Ab=>?_))
 ·refine ABn (ABl (AB5 rfl (ABq (q_t (ABl (ABo (ABh (Wj (AK6 ABt rfl HRc.sl rfl (show r[j]? =some (zf r j) by rw [zf,List.getElem?_eq_getElem (by omega)];rfl) fun aX haX=>?_)))))))));refine AB3 ACp rfl haX (ACa (ABp ?_));have hxb:=Ali (by omega) hr j;have htb:=Ali (by omega) ht j;have hxf:=AQv (a:=m - f) (b:=zf r j) (A:=2147483647) (B:=2147483647) (by omega) (by omega) (by omega) (by omega);refine ANq (by kernel_rfl) (Wj (Wj (Wj (Wj (AK6 ABt rfl HQ.sl rfl (Af3 (by omega)) fun aT haT=>AB3 ACp rfl haT (AB3 ACp rfl hbx (Wj (AKq rfl rfl (by omega) (by omega) (Wj (AKc rfl rfl (by omega) (by omega) (AR5 rfl rfl (by omega) (by omega) (AB3 ACp rfl hbx (ANs rfl rfl (by omega) (by omega) (AMr ABt rfl HQ rfl (by rw [List.length_map,AKs];omega) ?_))))))))))))));refine ARl ACp rfl rfl rfl HQ (by rw [List.length_map,AKs];omega) ?_;have Aa:=HQ.setI (j:=j) (by rw [AKs];omega) ((zf t j + (m - f) * zf r j) % m);rw [AW7 (by omega) rfl] at Aa;refine ACh (q_b (q_t (ABu (AIk rfl (by omega) (Wj (ABn ?_))))));exact ⟨r.length - (j + 1),j + 1,by omega,⟨hU.trans (AGr _ _ _),rfl,by omega,Aa⟩,rfl,trivial⟩
 ·refine ABn (ABl (ACc rfl (AB8 (AB6 (AB6 (ADg (⟨_,ASj,?_⟩)))))));rw [AW5 _ _ (by omega)] at HQ;exact ⟨hU,HQ⟩
theorem ATf (m:Int) (h:ABg):AB7 Tryz.prog 74 #[.int .i64 m] h fun v h'=>h'=h.push (.cells #[.int .i64 m] tI (0,0))/\v= .func (.func 105) #[] #[.pointer (some ⟨h.size,0,none⟩)]:=by
 refine ACu (l:=[_]) mx Tryz.func74 rfl rfl rfl rfl rfl (by kernel_rfl) (ABh (Ajg trivial rfl ⟨trivial,?_⟩));refine ACq (Aqe (l:=[.pointer (some ⟨h.size,0,none⟩)]) rfl (ABp (ABr (⟨_,ABs,?_⟩))));exact ⟨rfl,rfl⟩
theorem AX2 {c:Nat} {g:Nat->Int} {q:Nat} (hq:q < c):zf ((List.range c).map g) q=g q:=by simp [zf,hq]
theorem AGg {α:Type} {c:Nat} {g:Nat->α} {q:Nat} (hq:q < c):((List.range c).map g)[q]? =some (g q):=by simp [hq]
theorem AV0 {α:Type} {c:Nat} {f g:Nat->α} (h:∀ q,q < c->f q=g q):(List.range c).map f=(List.range c).map g:=List.map_congr_left fun q hq=>h q (by simpa using hq)
theorem Aim {c:Nat} {g:Nat->Int} {f m:Int}:(List.range ((List.range c).map g).length).map (fun q=>zf ((List.range c).map g) q * f % m)=(List.range c).map fun q=>g q * f % m:=by
 rw [List.length_map,List.length_range];exact AV0 fun q hq=>by rw [AX2 hq]
theorem Ada {c:Nat} {g k:Nat->Int} {f m:Int}:(List.range ((List.range c).map g).length).map (fun q=>(zf ((List.range c).map k) q + (m - f) * zf ((List.range c).map g) q) % m)=(List.range c).map fun q=>(k q + (m - f) * g q) % m:=by
 rw [List.length_map,List.length_range];exact AV0 fun q hq=>by rw [AX2 hq,AX2 hq]
def Atd (x:Nat):Value:= .int .i64 (x:Int)
def Adb (h h':ABg) (b:Nat) (gs:List Nat) (v:Value) (r c:Nat) (p:Int) (F:Nat->Nat->Int) (pv:Value) (piv:List Nat) (gs':List Nat):Prop:=
  Upd (· ∈b :: gs) h h'/\ADo h' tR tI b gs' v r (tab r c F)/\(∀ g∈gs',g∈gs)/\Gro h' 3 (h.size + 1) pv (piv.map Atd)/\AEk h' ⟨h.size,0,none⟩=some (.int .i64 p)/\h.size + 1<=h'.size
theorem Adb.turn {h h1 h2:ABg} {b:Nat} {gs Af Ab:List Nat} {v pv:Value} {r c:Nat} {p:Int} {F F2:Nat->Nat->Int} {piv:List Nat} (H:Adb h h1 b gs v r c p F pv piv Af) (hlt:∀ g∈b :: gs,g < h.size) {g:Nat} (hU:Upd (· =g) h1 h2) (hg:g∈b :: gs) (HP:ADo h2 tR tI b Ab v r (tab r c F2)) (hs:∀ g∈Ab,g∈gs):Adb h h2 b gs v r c p F2 pv piv Ab:=by
 obtain ⟨h3,h4,h5,h6,h7,h8⟩:=H;have hgl:=hlt g hg;refine ⟨h3.trans (hU.mono fun k _ hk=>by have Aj:k=g:=hk;rw [Aj];exact hg),HP,hs,h6.upd hU (fun k hk he=>by have Ak:k=g:=he;have:=(h6.blk k hk).1;omega),ASk h7 hU (fun he=>by have Ak:h.size=g:=he;omega),Nat.le_trans h8 hU.1⟩
section
variable {P:Program} {B:ABg->Prop} {st:Bool} {ops:Array Oper} {rest:List Oper} {e:Env} {h:ABg} {K:Env->ABg->Prop}
variable {d:Nat} {ty:TypeId} {pos:String} {af:Array Edge}
end
theorem ADo.nodup {h:ABg} {er ei b n:Nat} {gs:List Nat} {v:Value} {M:List (List Int)} (H:ADo h er ei b gs v n M):(b :: gs).Nodup:=let ⟨_,_,_,_,_,_,h⟩:=H;h
end Go.Proofs.YtiegjkmfpcgjjaaGreatDoor
namespace Go.Proofs.YtiegjkmfpcgjjaaGreatDoor
open Go Go.QF
set_option maxRecDepth 100000
def Alk (n C:Nat) (m:Int) (Q:(Nat->Nat->Int)->Int->Prop):Prop:= ∀ F s c i q,c < n->i < n->c≠i->0<=q->q < m->Bd n C m F->Q F s->Q (ANf F c i q m) (-s)
theorem AYt {h:ABg} {b:Nat} {gs:List Nat} {v:Value} {n C:Nat} {F:Nat->Nat->Int} {m:Int} (Aj:ADo h tR tI b gs v n (tab n C F)) (hnC:n<=C) (hC:C<=1000000) (hm:2<=m) (Be:m<=2147483647) (hbd:Bd n C m F) (Q:(Nat->Nat->Int)->Int->Prop) (Bf:Q F 1) (hQ:Alk n C m Q):
    AB7 Tryz.prog 73 #[v,.int .i64 m] h fun x h'=>Upd (· ∈b :: gs) h h'/\ ∃ F1 s Af,x= .int .i64 s/\(s=1∨s= -1)/\ADo h' tR tI b Af v n (tab n C F1)/\(∀ g∈Af,g∈gs)/\Q F1 s/\Bd n C m F1/\Zc n F1 n:=by
 have HP:=Aj;refine ACu (l:=[_,_]) mx Tryz.func73 rfl rfl rfl rfl rfl (by kernel_rfl) (ABh (ACq (Wj (ACm trivial rfl (ATf m h) fun fv h1 hk=>?_))));obtain ⟨rfl,rfl⟩:=hk;refine ⟨trivial,?_⟩;have hpush:=AD7 h (.cells #[.int .i64 m] tI (0,0));have HP:=ADo.ext Aj hpush;have hlt:=ADo.lt Aj;refine ACq (ABp (ABl (ABh (Wj (ATm AB0 rfl HP (Wj (ABn (ABo (ACg 18889465931478580847040 (fun y:Nat × Int=>[(13,.int .i64 (y.1:Int)),(6,.int .i64 y.2)]) (fun k y h'=>k=n - y.1/\y.1<=n/\(y.2=1∨y.2= -1)/\ ∃ F1 Af,Adb h h' b gs v n C m F1 (.slice none 0 0) [] Af/\Q F1 y.2/\Bd n C m F1/\Zc n F1 y.1) (by kernel_rfl) n (0,1) ?_ ⟨rfl,rfl,trivial⟩ ?_)))))))))
 ·refine ⟨rfl,by omega,.inl rfl,F,gs,⟨hpush.upd,HP,fun g hg=>hg,ASm _ _ _,?_,by simp⟩,Bf,hbd,fun c' i h1=>by omega⟩;simp [AEk]
 rintro k ⟨c,s1⟩ sx h1 ⟨rfl,hc,Am,F1,Af,Ah,Ao,Ay,Ap⟩;dsimp only at hc Am Ao Ap ⊢;have Bo:=Ah.2.1;refine ABh (AFc rfl rfl (fun Bg=>?_) (fun Bg=>?_))
 ·refine ABn (ABl (AB5 rfl (ABq (q_t (ABl (ABo (ABh (Wj (ACq (Wj (AIk rfl (by omega) (ABp (ABo ?_)))))))))))));refine ACg 9444732965739290165568 (fun y:Nat × Int=>[(8,.int .i64 (y.1:Int)),(6,.int .i64 y.2)]) (fun k y h'=>k=n - y.1/\c < y.1/\y.1<=n/\(y.2=1∨y.2= -1)/\ ∃ F2 Ai,Adb h h' b gs v n C m F2 (.slice none 0 0) [] Ai/\Q F2 y.2/\Bd n C m F2/\Zc n F2 c/\Zi F2 c y.1) (by kernel_rfl) (n - (c + 1)) (c + 1,s1) ?_ ⟨rfl,rfl,trivial⟩ ?_
  ·exact ⟨rfl,by first | omega | (dsimp only;omega),by first | omega | (dsimp only;omega),Am,F1,Af,Ah,Ao,Ay,Ap,fun k h1 h2=>by omega⟩
  rintro k ⟨i,s2⟩ sy h2 ⟨rfl,hci,hi,Aq,F2,Ai,Ar,Au,Az,A3,Av⟩;dsimp only at hci hi Aq Au Av ⊢;have Bi:=Ar.2.1;refine ABl (ABh (Wj (Wj (ATm AB0 rfl Bi (AFc rfl rfl (fun Bj=>?_) (fun Bj=>?_))))))
  ·refine ABn (AB5 rfl (ABq (q_t (ABl (ABo (ABo (ACg 9444732965739273650240 (fun s3:Int=>[(6,.int .i64 s3)]) (fun k s3 h'=>(s3=1∨s3= -1)/\ ∃ F3 Aw,k=(F3 i c).toNat/\Adb h h' b gs v n C m F3 (.slice none 0 0) [] Aw/\Q F3 s3/\Bd n C m F3/\Zc n F3 c/\Zi F3 c i) (by kernel_rfl) (F2 i c).toNat s2 ?_ ⟨rfl,trivial⟩ ?_)))))))
   ·exact ⟨Aq,F2,Ai,rfl,Ar,Au,Az,A3,Av⟩
   rintro k s3 sz h3 ⟨Bl,F3,Aw,rfl,Ae,A4,Ag,A5,A6⟩;have Ad:=Ae.2.1;refine ABl (ABh (Wj (Wj (ANe AB0 rfl Ad rfl (AEa (by omega)) fun aA rA gA haA hgA hrA=>AB3 ACl rfl haA (Wj (AK6 ABt rfl hrA.sl rfl (AGg (by omega)) fun aB haB=>AB3 ACp rfl haB (AS9 rfl rfl (fun A7=>?_) (fun A7=>?_))))))))
   ·refine ABn (AB5 rfl (ABq (q_t (ABo (ABl ?_)))));have hcc:=Ag c c (by omega) (by omega);have hic:=Ag i c (by omega) (by omega);have hq:=Ajw hcc.1 hcc.2 (b:=F3 i c) (by omega);refine ANq (by kernel_rfl) (Wj (Wj (Wj (ANe AB0 rfl Ad rfl (AEa (by omega)) fun aK rK gK haK hgK hrK=>AB3 ACl rfl haK (Wj (Wj (ANe AB0 rfl Ad rfl (AEa (by omega)) fun aL rL gL haL hgL hrL=>AB3 ACl rfl haL ?_)))))));have hgKm:gK∈b :: gs:=List.mem_cons_of_mem _ (Ae.2.2.1 _ (List.mem_of_getElem? hgK));have hneKL:gK≠gL:=fun he=>absurd (AGi (List.nodup_cons.1 (ADo.nodup Ae.2.1)).2 hgK (he ▸ hgL)) (by omega);refine Wj (Wj (ANe AB0 rfl Ad rfl (AEa (by omega)) fun aN rN gN haN hgN hrN=>AB3 ACl rfl haN (Wj (AK6 ABt rfl hrN.sl rfl (AGg (by omega)) fun aU haU=>AB3 ACp rfl haU (Wj (Wj (ANe AB0 rfl Ad rfl (AEa (by omega)) fun aO rO gO haO hgO hrO=>AB3 ACl rfl haO (Wj (AK6 ABt rfl hrO.sl rfl (AGg (by omega)) fun aV haV=>AB3 ACp rfl haV (AU2 rfl rfl (by omega) (by omega) (by omega) (AZ0 trivial rfl rfl (AUj (a:=⟨h.size,0,none⟩) hrK hrL hneKL (by simp) Ae.2.2.2.2.1 (by have:=hlt _ hgKm;dsimp only;omega) (AXa Ag (by omega)) (AXa Ag (by omega)) hq.1 hq.2 hm Be (by simp;omega)) fun ev h7 hk=>?_)))))))))));obtain ⟨A8,A9⟩:=hk;refine ⟨trivial,?_⟩;rw [Ada] at A9;have Ax:=ADo.setRow' Ae.2.1 hgK A8 (AEa (by omega)) hrK A9;rw [AHj] at Ax;have Ba:=Ae.turn hlt A8 hgKm Ax Ae.2.2.1;have Ad:=Ax;refine ABn (ABl (ANq (by kernel_rfl) (Wj (Wj (Wj (Wj (Wj (Wj (ANe AB0 rfl Ad rfl (AEa (by omega)) fun aI rI gI haI hgI hrI=>AB3 ACl rfl haI (Wj (Wj (ANe AB0 rfl Ad rfl (AEa (by omega)) fun aT rT gT haT hgT hrT=>AB3 ACl rfl haT ?_))))))))))));obtain ⟨rs,HT,hrl⟩:=ADo.top Ad;refine AMr AB0 rfl HT rfl (by omega) (ARl ACl rfl rfl hrI.one HT (by omega) ?_);have Bb:=HT.set c rI (by omega);refine AMr AB0 rfl Bb rfl (by simp;omega) ?_;refine ARl ACl rfl rfl hrT.one Bb (by simp;omega) ?_;have Bc:=ADo.swap Ad hgT hgI (AEa (by omega)) (AEa (by omega)) hrT hrI;rw [AHj,AHj] at Bc;have Bm:=Ba.turn hlt ((AGr _ ⟨b,c,none⟩ rI).trans (AGr _ ⟨b,i,none⟩ rT)) (List.mem_cons_self ..) (F2:=ANf F3 c i (F3 c c / F3 i c) m) Bc (fun g hg=>Ba.2.2.1 g (Ajv hgT hgI hg));refine ABn (ABu (Wj (AR3 rfl ?_)));have hws:IntKind.i64.wrap (0 - s3)= -s3:=by rw [IntKind.wrap_i64];omega
    rw [hws];refine ACa (ACh (q_b (q_t ?_)));have Bn:ANf F3 c i (F3 c c / F3 i c) m i c=F3 c c % F3 i c:=by rw [AZ9];exact Af8 hcc.1 hcc.2 (by omega) hic.2
    have Br:=Int.emod_lt_of_pos (F3 c c) (b:=F3 i c) (by omega);exact ⟨_,-s3,by rw [Bn];omega,⟨by omega,_,_,rfl,Bm,hQ _ _ _ _ _ (by omega) (by omega) (by omega) hq.1 hq.2 Ag A4,Af5 (by omega) Ag (by omega) (by omega),Af6 A5 (by omega) (by omega),Af7 A6⟩,rfl,trivial⟩
   ·refine ABn (ACc rfl (AB8 (AB6 (AB6 (ADg (q_b (q_t (ABu (Wj (AIk rfl (by omega) (ABp ?_)))))))))));exact ⟨n - (i + 1),(i + 1,s3),by first | omega | (dsimp only;omega),⟨rfl,by first | omega | (dsimp only;omega),by first | omega | (dsimp only;omega),Bl,F3,Aw,Ae,A4,Ag,A5,Aaa A6 A7⟩,rfl,rfl,trivial⟩
  ·refine ABn (ACc rfl (AB8 (AB6 (AB6 (ADg (q_b (q_t (ABu (AIk rfl (by omega) (Wj (ABn ?_)))))))))));obtain rfl:i=n:=by omega
   exact ⟨i - (c + 1),(c + 1,s2),by first | omega | (dsimp only;omega),⟨rfl,by first | omega | (dsimp only;omega),Aq,F2,Ai,Ar,Au,Az,Aab A3 Av⟩,rfl,rfl,trivial⟩
 ·refine ABn (ABl (ACc rfl (AB8 (AB6 (AB6 (ADg (q_t (ABh (Wj (ABp (ABr (⟨_,ABs,?_⟩))))))))))));obtain rfl:c=n:=by omega
  exact ⟨Ah.1,F1,s1,Af,rfl,Am,Ah.2.1,Ah.2.2.1,Ao,Ay,Ap⟩
theorem Afk {h:ABg} {v:Value} {M:List (List Int)} (HM:Mat h v M):AB7 Tryz.prog 102 #[v] h fun x h'=>h'=h/\x= .bool (AJv M):=by
 refine ACu (l:=[_]) mx Tryz.func102 rfl rfl rfl rfl rfl (by kernel_rfl) (ABh (ACq (Wj (AL9 AB0 rfl HM (ABp (ABl (ABh (Wj (AFc rfl rfl (fun Ab=>?_) (fun Ab=>?_))))))))))
 ·refine Wj (ACb 14 true (by kernel_rfl) rfl rfl (ACb 14 true (by kernel_rfl) rfl rfl (AB2 rfl (ABn (AB5 rfl (ABh (ABp (ABr (ABz (⟨_,ABs,?_⟩))))))))))
  first
    | exact ⟨rfl,congrArg Value.bool (AEr fun hh=>by have:=hh.1;omega)⟩
    | exact ⟨rfl,congrArg Value.bool (AEr fun hh=>by have:=hh.2.1 M[i] (List.getElem_mem _);omega)⟩
    | exact ⟨rfl,congrArg Value.bool (AEr fun hh=>by have:=hh.2.2 a b (by omega) (by omega);omega)⟩
    | exact ⟨rfl,congrArg Value.bool (AF9 ⟨⟨by omega,by omega⟩,hrows,fun x y hx hy=>hall x y (by omega) hy⟩)⟩
 ·refine Wj (ACt 14 false (by kernel_rfl) rfl rfl (Wj (ACt 14 false (by kernel_rfl) rfl rfl (AP3 rfl rfl (fun Ac=>?_) (fun Ac=>?_)))))
  ·refine ABx rfl (ABn (AB5 rfl (ABh (ABp (ABr (ABz (⟨_,ABs,?_⟩)))))))
   first
     | exact ⟨rfl,congrArg Value.bool (AEr fun hh=>by have:=hh.1;omega)⟩
     | exact ⟨rfl,congrArg Value.bool (AEr fun hh=>by have:=hh.2.1 M[i] (List.getElem_mem _);omega)⟩
     | exact ⟨rfl,congrArg Value.bool (AEr fun hh=>by have:=hh.2.2 a b (by omega) (by omega);omega)⟩
     | exact ⟨rfl,congrArg Value.bool (AF9 ⟨⟨by omega,by omega⟩,hrows,fun x y hx hy=>hall x y (by omega) hy⟩)⟩
  ·refine ABx rfl (ABn (ACc rfl (ABq (q_t (ABl (ABh (Wj (AL9 AB0 rfl HM (Wj (ABn (ABo (ACg 535822372 (fun i:Nat=>[(20,.int .i64 (i:Int))]) (fun k i h'=>h'=h/\k=M.length - i/\i<=M.length/\ ∀ j (hj:j < M.length),j < i->M[j].length=M.length) (by kernel_rfl) M.length 0 ?_ ⟨rfl,trivial⟩ ?_))))))))))))
   ·exact ⟨rfl,rfl,Nat.zero_le _,fun j _ hj=>by omega⟩
   rintro k i s1 h ⟨rfl,rfl,hi,hrow⟩;refine ABh (AFc rfl rfl (fun Ad=>?_) (fun Ad=>?_))
   ·refine ABn (ABl (AB5 rfl (ABq (q_t (ABl (ABo (ABh (AN5 AB0 rfl HM rfl (List.getElem?_eq_getElem (by omega)) fun aR rR haR hrR=>?_))))))));refine AB3 ACl rfl haR (ACq (Wj (AOl ABt rfl hrR (Wj (AS9 rfl rfl (fun Ae=>?_) (fun Ae=>?_))))))
    ·refine ABn (AB5 rfl (ABh (ABp (ABr (ADk (ABz (ABz (ADk (ABz (⟨_,ABs,?_⟩))))))))))
     first
       | exact ⟨rfl,congrArg Value.bool (AEr fun hh=>by have:=hh.1;omega)⟩
       | exact ⟨rfl,congrArg Value.bool (AEr fun hh=>by have:=hh.2.1 M[i] (List.getElem_mem _);omega)⟩
       | exact ⟨rfl,congrArg Value.bool (AEr fun hh=>by have:=hh.2.2 a b (by omega) (by omega);omega)⟩
       | exact ⟨rfl,congrArg Value.bool (AF9 ⟨⟨by omega,by omega⟩,hrows,fun x y hx hy=>hall x y (by omega) hy⟩)⟩
    ·refine ABn (ACc rfl (ABq (q_b (q_t (ABu (AIk rfl (by omega) (Wj (ABn ?_))))))));exact ⟨M.length - (i + 1),i + 1,by omega,⟨rfl,rfl,by omega,fun j hj Af=>by rcases Nat.lt_succ_iff_lt_or_eq.1 Af with q | rfl;exact hrow j hj q;omega⟩,rfl,trivial⟩
   ·refine ABn (ABl (ACc rfl (AB8 (AB6 (AB6 (ADg (q_t (ABl (ABl ?_)))))))));have hrows:∀ z∈M,z.length=M.length:=fun z hz=>by obtain ⟨j,hj,rfl⟩:=List.getElem_of_mem hz;exact hrow j hj (by omega)
    have Aa:Mat h v (tab M.length M.length (ent M)):=(AZ4 hrows) ▸ HM;refine ABu (Wj (AL9 AB0 rfl Aa ?_));rw [AC8];refine Wj (ABn (ABo (ACg 4611686016279905220 (fun a:Nat=>[(31,.int .i64 (a:Int))]) (fun k a h'=>h'=h/\k=M.length - a/\a<=M.length/\ ∀ x y,x < a->y < M.length->ent M x y=ent M y x/\ -262144 < ent M x y/\ent M x y < 262144) (by kernel_rfl) M.length 0 ?_ ⟨rfl,trivial⟩ ?_)))
    ·exact ⟨rfl,rfl,Nat.zero_le _,fun x y hx=>by omega⟩
    rintro k a s2 h ⟨rfl,rfl,ha,hall⟩;refine ABh (AFc rfl rfl (fun Ag=>?_) (fun Ag=>?_))
    ·refine ABn (ABl (AB5 rfl (ABq (q_t (ABl (ABo (ABh (Wj (AN5 AB0 rfl Aa rfl (AEa (by omega)) fun aS rS haS hrS=>AB3 ACl rfl haS (ACa (ACq (Wj (AOl ABt rfl hrS ?_)))))))))))));rw [List.length_map,List.length_range];refine Wj (ABn (ABo (ACg 2305842734335787780 (fun b:Nat=>[(38,.int .i64 (b:Int))]) (fun k b h'=>h'=h/\k=M.length - b/\b<=M.length/\ ∀ y,y < b->ent M a y=ent M y a/\ -262144 < ent M a y/\ent M a y < 262144) (by kernel_rfl) M.length 0 ?_ ⟨rfl,trivial⟩ ?_)))
     ·exact ⟨rfl,rfl,Nat.zero_le _,fun y hy=>by omega⟩
     rintro k b s3 h ⟨rfl,rfl,hb,hrw⟩;refine ABh (AFc rfl rfl (fun Ah=>?_) (fun Ah=>?_))
     ·refine ABn (ABl (AB5 rfl (ABq (q_t (ABl (ABo (ABh (Wj (AK6 ABt rfl hrS rfl (AGg (by omega)) fun Aq Ai=>AB3 ACp rfl Ai (ACa (ACq (Wj (Wj (Wj (AN5 AB0 rfl Aa rfl (AEa (by omega)) fun aT rT haT hrT=>?_)))))))))))))));refine AB3 ACl rfl haT (Wj (AK6 ABt rfl hrT rfl (AGg (by omega)) fun Ar Aj=>AB3 ACp rfl Aj (AS9 rfl rfl (fun Ak=>?_) (fun Ak=>?_))))
      ·refine Wj (ACb 52 true (by kernel_rfl) rfl rfl (ACb 52 true (by kernel_rfl) rfl rfl (AB2 rfl (Wj (ACb 56 true (by kernel_rfl) rfl rfl (ACb 56 true (by kernel_rfl) rfl rfl (AB2 rfl (ABn (AB5 rfl (ABh (ABp (ABr (ADk (ABz (ABz (ADk (ADk (ABz (ABz (ADk (ABz (⟨_,ABs,?_⟩))))))))))))))))))))))
       first
         | exact ⟨rfl,congrArg Value.bool (AEr fun hh=>by have:=hh.1;omega)⟩
         | exact ⟨rfl,congrArg Value.bool (AEr fun hh=>by have:=hh.2.1 M[i] (List.getElem_mem _);omega)⟩
         | exact ⟨rfl,congrArg Value.bool (AEr fun hh=>by have:=hh.2.2 a b (by omega) (by omega);omega)⟩
         | exact ⟨rfl,congrArg Value.bool (AF9 ⟨⟨by omega,by omega⟩,hrows,fun x y hx hy=>hall x y (by omega) hy⟩)⟩
      ·refine Wj (ACt 52 false (by kernel_rfl) rfl rfl (Wj (ACt 52 false (by kernel_rfl) rfl rfl (AS7 rfl rfl (fun Am=>?_) (fun Am=>?_)))))
       ·refine ABx rfl (Wj (ACb 56 true (by kernel_rfl) rfl rfl (ACb 56 true (by kernel_rfl) rfl rfl (AB2 rfl (ABn (AB5 rfl (ABh (ABp (ABr (ADk (ABz (ABz (ADk (ADk (ABz (ABz (ADk (ABz (⟨_,ABs,?_⟩)))))))))))))))))))
        first
          | exact ⟨rfl,congrArg Value.bool (AEr fun hh=>by have:=hh.1;omega)⟩
          | exact ⟨rfl,congrArg Value.bool (AEr fun hh=>by have:=hh.2.1 M[i] (List.getElem_mem _);omega)⟩
          | exact ⟨rfl,congrArg Value.bool (AEr fun hh=>by have:=hh.2.2 a b (by omega) (by omega);omega)⟩
          | exact ⟨rfl,congrArg Value.bool (AF9 ⟨⟨by omega,by omega⟩,hrows,fun x y hx hy=>hall x y (by omega) hy⟩)⟩
       ·refine ABx rfl (Wj (ACt 56 false (by kernel_rfl) rfl rfl (Wj (ACt 56 false (by kernel_rfl) rfl rfl (AS8 rfl rfl (fun Ao=>?_) (fun Ao=>?_))))))
        ·refine ABx rfl (ABn (AB5 rfl (ABh (ABp (ABr (ADk (ABz (ABz (ADk (ADk (ABz (ABz (ADk (ABz (⟨_,ABs,?_⟩)))))))))))))))
         first
           | exact ⟨rfl,congrArg Value.bool (AEr fun hh=>by have:=hh.1;omega)⟩
           | exact ⟨rfl,congrArg Value.bool (AEr fun hh=>by have:=hh.2.1 M[i] (List.getElem_mem _);omega)⟩
           | exact ⟨rfl,congrArg Value.bool (AEr fun hh=>by have:=hh.2.2 a b (by omega) (by omega);omega)⟩
           | exact ⟨rfl,congrArg Value.bool (AF9 ⟨⟨by omega,by omega⟩,hrows,fun x y hx hy=>hall x y (by omega) hy⟩)⟩
        ·refine ABx rfl (ABn (ACc rfl (ABq (q_b (q_t (ABu (AIk rfl (by omega) (Wj (ABn ?_)))))))));exact ⟨M.length - (b + 1),b + 1,by omega,⟨rfl,rfl,by omega,fun y hy=>by rcases Nat.lt_succ_iff_lt_or_eq.1 hy with q | rfl;exact hrw y q;exact ⟨by omega,by omega,by omega⟩⟩,rfl,trivial⟩
     ·refine ABn (ABl (ACc rfl (AB8 (AB6 (AB6 (ADg (q_b (q_t (ABu (AIk rfl (by omega) (Wj (ABn ?_))))))))))));exact ⟨M.length - (a + 1),a + 1,by omega,⟨rfl,rfl,by omega,fun x y hx hy=>by rcases Nat.lt_succ_iff_lt_or_eq.1 hx with q | rfl;exact hall x y q hy;exact hrw y (by omega)⟩,rfl,trivial⟩
    ·refine ABn (ABl (ACc rfl (AB8 (AB6 (AB6 (ADg (q_t (ABh (ABp (ABr (⟨_,ABs,?_⟩)))))))))))
     first
       | exact ⟨rfl,congrArg Value.bool (AEr fun hh=>by have:=hh.1;omega)⟩
       | exact ⟨rfl,congrArg Value.bool (AEr fun hh=>by have:=hh.2.1 M[i] (List.getElem_mem _);omega)⟩
       | exact ⟨rfl,congrArg Value.bool (AEr fun hh=>by have:=hh.2.2 a b (by omega) (by omega);omega)⟩
       | exact ⟨rfl,congrArg Value.bool (AF9 ⟨⟨by omega,by omega⟩,hrows,fun x y hx hy=>hall x y (by omega) hy⟩)⟩
theorem Alm {m:Nat} {F:Nat->Nat->Int}:(tab m m F).drop 1=tab (m - 1) m fun i j=>F (i + 1) j:=by
 refine List.ext_getElem (by simp [tab]) fun i h1 h2=>?_;simp [tab,Nat.add_comm]
theorem AX3 {h:ABg} {v:Value} {m:Nat} {F:Nat->Nat->Int} (HM:Mat h v (tab m m F)) (hcap:AMs v) (hm:1<=m) (Au:m<=8) (hfit:∀ i,i < m->Abs (F i 0) 34359738368):AB7 Tryz.prog 103 #[v] h fun x h'=>h'=h/\x= .bool (decide (ANy m F)):=by
 refine ACu (l:=[_]) mx Tryz.func103 rfl rfl rfl rfl rfl (by kernel_rfl) (ABh (ACq (Wj (AN5 (n:=0) AB0 rfl HM rfl (AEa (by omega)) fun Av Aw Ad Ae=>AB3 ACl rfl Ad (AK6 (n:=0) ABt rfl Ae rfl (AGg (by omega)) fun Ax Af=>AB3 ACp rfl Af (ABp (ABl (ABh (Wj (AS7 rfl rfl (fun Ag=>?_) (fun Ag=>?_)))))))))))
 ·refine Wj (ACb 13 true (by kernel_rfl) rfl rfl (ACb 13 true (by kernel_rfl) rfl rfl (AB2 rfl (ABn (AB5 rfl (ABh (ABp (ABr (ABz (⟨_,ABs,?_⟩))))))))))
  first
    | exact ⟨rfl,congrArg Value.bool (decide_eq_false (fun hh=>by have:=hh.1;omega)).symm⟩
    | exact ⟨rfl,congrArg Value.bool (decide_eq_false (fun hh=>by have:=hh.2 (i + 1) (by omega) (by omega);omega)).symm⟩
    | exact ⟨rfl,congrArg Value.bool (decide_eq_true ⟨⟨by omega,by omega⟩,fun j h1 h2=>hall j h1 (by omega)⟩).symm⟩
 ·refine Wj (ACt 13 false (by kernel_rfl) rfl rfl (Wj (ACt 13 false (by kernel_rfl) rfl rfl (AS8 rfl rfl (fun Ah=>?_) (fun Ah=>?_)))))
  ·refine ABx rfl (ABn (AB5 rfl (ABh (ABp (ABr (ABz (⟨_,ABs,?_⟩)))))))
   first
     | exact ⟨rfl,congrArg Value.bool (decide_eq_false (fun hh=>by have:=hh.1;omega)).symm⟩
     | exact ⟨rfl,congrArg Value.bool (decide_eq_false (fun hh=>by have:=hh.2 (i + 1) (by omega) (by omega);omega)).symm⟩
     | exact ⟨rfl,congrArg Value.bool (decide_eq_true ⟨⟨by omega,by omega⟩,fun j h1 h2=>hall j h1 (by omega)⟩).symm⟩
  ·refine ABx rfl (ABn (ACc rfl (ABq (q_t (ABl (ABh (Wj (Ah2 (k:=1) AB0 rfl HM hcap rfl (by rw [AC8];omega) fun v1 Ai Ay=>?_))))))));have HD:Mat h v1 (tab (m - 1) m fun i j=>F (i + 1) j):=Alm (m:=m) ▸ Ai;refine AL9 AB0 rfl HD ?_;rw [AC8];refine Wj (ABn (ABo (ACg 549754765348 (fun i:Nat=>[(20,.int .i64 (i:Int))]) (fun k i h'=>h'=h/\k=m - 1 - i/\i<=m - 1/\ ∀ j,1<=j->j < i + 1->2 * F j 0<=F 0 0/\ -2 * F j 0<=F 0 0) (by kernel_rfl) (m - 1) 0 ?_ ⟨rfl,trivial⟩ ?_)))
   ·exact ⟨rfl,rfl,Nat.zero_le _,fun j h1 h2=>by omega⟩
   rintro k i s1 h ⟨rfl,rfl,hi,hall⟩;refine ABh (AFc rfl rfl (fun Aj=>?_) (fun Aj=>?_))
   ·refine ABn (ABl (AB5 rfl (ABq (q_t (ABl (ABo (ABh (AN5 AB0 rfl HD rfl (AEa (by omega)) fun Az A3 Ak Ac=>AB3 ACl rfl Ak (ABp (ABl ?_))))))))));have Am:=hfit (i + 1) (by omega);unfold Abs at Am;refine ABu (Wj (AK6 (n:=0) ABt rfl Ac rfl (AGg (by omega)) fun A4 Ao=>AB3 ACp rfl Ao (AKc rfl rfl (by omega) (by omega) (Wj (AP3 rfl rfl (fun Ap=>?_) (fun Ap=>?_))))))
    ·refine Wj (ACb 30 true (by kernel_rfl) rfl rfl (ACb 30 true (by kernel_rfl) rfl rfl (ACb 30 true (by kernel_rfl) rfl rfl (ACb 30 true (by kernel_rfl) rfl rfl (ACb 30 true (by kernel_rfl) rfl rfl (ACb 30 true (by kernel_rfl) rfl rfl (AB2 rfl (ABn (AB5 rfl (ABh (ABp (ABr (ADk (ABz (ABz (ADk (ABz (⟨_,ABs,?_⟩))))))))))))))))))
     first
       | exact ⟨rfl,congrArg Value.bool (decide_eq_false (fun hh=>by have:=hh.1;omega)).symm⟩
       | exact ⟨rfl,congrArg Value.bool (decide_eq_false (fun hh=>by have:=hh.2 (i + 1) (by omega) (by omega);omega)).symm⟩
       | exact ⟨rfl,congrArg Value.bool (decide_eq_true ⟨⟨by omega,by omega⟩,fun j h1 h2=>hall j h1 (by omega)⟩).symm⟩
    ·refine Wj (ACt 30 false (by kernel_rfl) rfl rfl (Wj (ACt 30 false (by kernel_rfl) rfl rfl (AK6 (n:=0) ABt rfl Ac rfl (AGg (by omega)) fun A5 Aq=>ACt 30 false (by kernel_rfl) rfl rfl (AB3 ACp rfl Aq (ACt 30 false (by kernel_rfl) rfl rfl (AKc rfl rfl (by omega) (by omega) (ACt 30 false (by kernel_rfl) rfl rfl (Wj (ACt 30 false (by kernel_rfl) rfl rfl (AP3 rfl rfl (fun Ar=>?_) (fun Ar=>?_))))))))))))
     ·refine ABx rfl (ABn (AB5 rfl (ABh (ABp (ABr (ADk (ABz (ABz (ADk (ABz (⟨_,ABs,?_⟩)))))))))))
      first
        | exact ⟨rfl,congrArg Value.bool (decide_eq_false (fun hh=>by have:=hh.1;omega)).symm⟩
        | exact ⟨rfl,congrArg Value.bool (decide_eq_false (fun hh=>by have:=hh.2 (i + 1) (by omega) (by omega);omega)).symm⟩
        | exact ⟨rfl,congrArg Value.bool (decide_eq_true ⟨⟨by omega,by omega⟩,fun j h1 h2=>hall j h1 (by omega)⟩).symm⟩
     ·refine ABx rfl (ABn (ACc rfl (ABq (q_b (q_t (ABu (AIk rfl (by omega) (Wj (ABn ?_)))))))));exact ⟨m - 1 - (i + 1),i + 1,by omega,⟨rfl,rfl,by omega,fun j h1 h2=>by rcases Nat.lt_succ_iff_lt_or_eq.1 h2 with q | rfl;exact hall j h1 q;exact ⟨by omega,by omega⟩⟩,rfl,trivial⟩
   ·refine ABn (ABl (ACc rfl (AB8 (AB6 (AB6 (ADg (q_t (ABh (ABp (ABr (⟨_,ABs,?_⟩)))))))))))
    first
      | exact ⟨rfl,congrArg Value.bool (decide_eq_false (fun hh=>by have:=hh.1;omega)).symm⟩
      | exact ⟨rfl,congrArg Value.bool (decide_eq_false (fun hh=>by have:=hh.2 (i + 1) (by omega) (by omega);omega)).symm⟩
      | exact ⟨rfl,congrArg Value.bool (decide_eq_true ⟨⟨by omega,by omega⟩,fun j h1 h2=>hall j h1 (by omega)⟩).symm⟩
theorem Aa2 {h:ABg} {v:Value} {M:List (List Int)} (HM:Mat h v M) (hcap:AMs v):AB7 Tryz.prog 67 #[v] h fun x h'=>Ext h h'/\x= .bool (isRed M):=by
 refine ACu (l:=[_]) mx Tryz.func67 rfl rfl rfl rfl rfl (by kernel_rfl) (ABh (ABp (ABl (ABh (Wj (ACm trivial rfl (Afk HM) fun x1 h hk=>?_))))));obtain ⟨rfl,rfl⟩:=hk;refine ⟨trivial,?_⟩;cases Au:AJv M
 ·refine AGq rfl (ABn (AB5 rfl (ABh (ABp (ABr (ABz (⟨_,ABs,?_⟩)))))))
  first
    | exact ⟨(Ext.refl _),congrArg Value.bool (show false=isRed M by unfold isRed;rw [show AJv M=false by assumption];rfl)⟩
    | exact ⟨(Ext.refl _),congrArg Value.bool (show false=isRed M by unfold isRed;rw [hred,AM3 (by omega) (of_decide_eq_false (by assumption)),Bool.and_false])⟩
    | exact ⟨(Ext.refl _),congrArg Value.bool (show false=isRed M by unfold isRed;rw [hred,AQe (by omega) (by unfold AS5;omega),Bool.and_false])⟩
    | (obtain rfl:m=1:=by omega
       first
       | exact ⟨(Ext.refl _),congrArg Value.bool (show true=isRed M by unfold isRed;rw [hred,<- AF9 hsm,ANz,decide_eq_true ⟨by omega,by omega⟩];rfl)⟩
       | exact ⟨(Ext.refl _),congrArg Value.bool (show false=isRed M by unfold isRed;rw [hred,ANz,decide_eq_false (by omega),Bool.and_false])⟩)
 ·refine AGq rfl (ABn (ACc rfl (ABq (q_t (ABh (Wj (ACq (ABp (ABl (ABo ?_))))))))));have hsm:=AX1 Au;have Av:=Aik hsm;have Aw:Mat h v (tab M.length M.length (ent M)):=(AZ4 hsm.2.1) ▸ HM;refine ACg 20282409603651670423947251255292 (fun y:Nat × Value × Int × (Nat->Nat->Int)=>[(3,y.2.1),(4,.int .i64 y.2.2.1)]) (fun k y h'=>y.1=k/\Ext h h'/\1<=y.1/\y.1<=M.length/\Mat h' y.2.1 (tab y.1 y.1 y.2.2.2)/\AMs y.2.1/\Stg y.1 y.2.2.2 y.2.2.1 (262144 + 16384 * (M.length - y.1))/\ANz M.length (ent M) 1=ANz y.1 y.2.2.2 y.2.2.1) (by kernel_rfl) M.length (M.length,v,1,ent M) ?_ ⟨rfl,rfl,trivial⟩ ?_
  ·exact ⟨rfl,Ext.refl _,hsm.1.1,Nat.le_refl _,Aw,hcap,by have e0:(262144 + 16384 * ((M.length:Int) - (M.length:Int)))=262144:=(by omega);rw [e0];exact Av,rfl⟩
  rintro k ⟨m,vs,last,F⟩ s1 hq ⟨rfl,XQ,Ay,hmn,HS,Aj,hstg,hred⟩;dsimp only at Ay hmn HS Aj hstg hred ⊢;have h8:=hsm.1.2;have B6:=hstg.l1;have B7:=hstg.l2;have szq:=XQ.1;refine ABl (ABh (Wj (AL9 AB0 rfl HS ?_)));rw [AC8];refine AP3 rfl rfl (fun Az=>?_) (fun Az=>?_)
  ·refine ABn (AB5 rfl (ABq (q_t (ABo (ABh (Wj (AN5 (n:=0) AB0 rfl HS rfl (AEa (by omega)) fun B8 B9 A3 A4=>AB3 ACl rfl A3 (AK6 (n:=0) ABt rfl A4 rfl (AGg (by omega)) fun Ca A5=>AB3 ACp rfl A5 (ABp (ABl (ABh (Wj (ACm trivial rfl (AX3 HS Aj (by omega) (by omega) (fun i hi=>AWn hstg (by omega) (by omega) hi (by omega))) fun x4 hq hk=>?_)))))))))))));obtain ⟨rfl,rfl⟩:=hk;refine ⟨trivial,?_⟩;cases Cd:decide (ANy m F)
   ·refine AGq rfl (ABn (AB5 rfl (ABh (ABp (ABr (ABz (ADk (ABz (ADk (ABz (⟨_,ABs,?_⟩)))))))))))
    first
      | exact ⟨XQ,congrArg Value.bool (show false=isRed M by unfold isRed;rw [show AJv M=false by assumption];rfl)⟩
      | exact ⟨XQ,congrArg Value.bool (show false=isRed M by unfold isRed;rw [hred,AM3 (by omega) (of_decide_eq_false (by assumption)),Bool.and_false])⟩
      | exact ⟨XQ,congrArg Value.bool (show false=isRed M by unfold isRed;rw [hred,AQe (by omega) (by unfold AS5;omega),Bool.and_false])⟩
      | (obtain rfl:m=1:=by omega
         first
         | exact ⟨XQ,congrArg Value.bool (show true=isRed M by unfold isRed;rw [hred,<- AF9 hsm,ANz,decide_eq_true ⟨by omega,by omega⟩];rfl)⟩
         | exact ⟨XQ,congrArg Value.bool (show false=isRed M by unfold isRed;rw [hred,ANz,decide_eq_false (by omega),Bool.and_false])⟩)
   ·refine AGq rfl (ABn (ACc rfl (ABq (q_t (ABh (Wj (AL9 AB0 rfl HS ?_)))))));rw [AC8];have hsh:ANy m F:=of_decide_eq_true (by assumption);refine AKq rfl rfl (by omega) (by omega) ?_;rw [show ((m:Nat):Int) - 1=((m - 1:Nat):Int) by omega];refine Asa (ei:=tI) AB0 ALt (fun _=>trivial) rfl rfl (by decide) (by omega) fun b2 v2 h2 Ak E2 Cf hl2b=>?_;have Cg:=E2.1;have Z6:=(Ext.refl hq).trans E2;have X7:=XQ.trans E2;have HS_8:=HS.ext E2;refine ABp (ABl (ABh (Wj (ATm AB0 rfl Ak.1 (Wj (ABn (ABo (ACg 1208925819614624879739776 (fun i:Nat=>[(32,.int .i64 (i:Int))]) (fun k i h'=>k=m - 1 - i/\i<=m - 1/\Ext hq h'/\ ∃ gs,ANg h' tR tI (Array.size hq) b2 gs v2 (m - 1) ((List.range i).map (fun i=>(List.range (m - 1)).map fun j=>AO6 F last i j))) (by kernel_rfl) (m - 1) 0 ?_ ⟨rfl,trivial⟩ ?_))))))))
    ·exact ⟨rfl,Nat.zero_le _,E2,[],Ak⟩
    rintro k i s2 h3 ⟨rfl,hi,E3,gs,HP⟩;have X9:=XQ.trans E3;have Cj:=E3.1;have HS_11:=HS.ext E3;refine ABh (AFc rfl rfl (fun A7=>?_) (fun A7=>?_))
    ·refine ABn (ABl (AB5 rfl (ABq (q_t (ABl (ABo (ABh (Wj (ACq (Wj (Wj (AIk rfl (by omega) (Aju AB0 rfl HS E3 rfl (AEa (by omega)) fun aR rR haR hrR=>AB3 ACl rfl haR (ABp ?_))))))))))))));refine ABh (Wj (Wj (Wj (ATm AB0 rfl HP.1 (Asb ABt AGy (fun _=>trivial) rfl rfl (by decide) (by omega) fun g4 v4 h4 A8 E4 Cm Cn=>?_)))));have Co:=E4.1;have A9:=E3.trans E4;have Ba:=X9.trans E4;have HS_15:=HS_11.ext E4;have HP_16:=HP.ext E4;refine Anf AB0 rfl HP_16 rfl (by omega) ?_;have hglt:=HP.1.lt;have hblo:=HP.2 b2 (List.mem_cons_self ..);refine Ang ACl rfl rfl HP_16 (by simp) (by omega) A8 (fun hc=>by have:=hglt _ hc;omega) (by omega) fun h4b HPb U4=>?_;have Cp:=U4.1;have Cq:=Ba.thenUpd U4 (fun k hk=>by have Ah:k=b2:=hk;omega);have Ao:=A9.thenUpd U4 (fun k hk=>by have Ah:k=b2:=hk;omega);have HS_20:=HS.ext Ao;refine AMa (Wj (ATm AB0 rfl HPb.1 (Wj (ABn (ABo (ACg 604462909525839610642944 (fun j:Nat=>[(48,.int .i64 (j:Int))]) (fun k j h'=>k=m - 1 - j/\j<=m - 1/\Ext hq h'/\ANg h' tR tI (Array.size hq) b2 (gs ++ [g4]) v2 (m - 1) ((List.range i).map (fun i=>(List.range (m - 1)).map fun j=>AO6 F last i j) ++ [AS2 (m - 1) (AO6 F last i) (fun _=>0) j])) (by kernel_rfl) (m - 1) 0 ?_ ⟨rfl,trivial⟩ ?_))))))
     ·exact ⟨rfl,Nat.zero_le _,Ao,by rw [AU7,Ahy];exact HPb⟩
     rintro k j s3 h5 ⟨rfl,hj,E5,HQ⟩;have Bb:=XQ.trans E5;have Cu:=E5.1;have HS_23:=HS.ext E5;refine ABh (AFc rfl rfl (fun Bc=>?_) (fun Bc=>?_))
     ·refine ABn (ABl (AB5 rfl (ABq (q_t (ABl (ABo (ABh (Wj (ABp ?_)))))))));have hd:=hsh.1;have hfit:=fun i j hi hj=>AWn hstg (by omega) (by omega) (i:=i) (j:=j) hi hj;have q1:=ASw (a:=65535) (b:=34359738368) (x:=F 0 0) (y:=F (i + 1) (j + 1)) ⟨by omega,by omega⟩ (hfit _ _ (by omega) (by omega));have q2:=hsh.2 (i + 1) (by omega) (by omega);have q3:=hsh.2 (j + 1) (by omega) (by omega);rw [<- hstg.sym 0 (j + 1) (by omega) (by omega)] at q3;have q4:=ASw (a:=32768) (b:=32768) (x:=F (i + 1) 0) (y:=F 0 (j + 1)) ⟨by omega,by omega⟩ ⟨by omega,by omega⟩;unfold Abs at q1 q4;refine ANq (by kernel_rfl) (Wj (Wj (Asd AB0 rfl HQ rfl (AT3 (by simp)) fun aQ rQ gQ haQ hgQ hrQ=>?_)));refine AB3 ACl rfl haQ (Wj (Wj (Wj (Wj (AIk rfl (by omega) (AK6 ABt rfl (hrR.ext E5) rfl (AGg (by omega)) fun Cv Bi=>AB3 ACp rfl Bi (AKc rfl rfl (by omega) (by omega) (Wj (AK6 (n:=0) ABt rfl (hrR.ext E5) rfl (AGg (by omega)) fun Cw Bj=>AB3 ACp rfl Bj (Wj (AN5 (n:=0) AB0 rfl HS_23 rfl (AEa (by omega)) fun aZ rZ haZ hrZ=>AB3 ACl rfl haZ (Wj (AIk rfl (by omega) (AK6 ABt rfl hrZ rfl (AGg (by omega)) fun Cx Bl=>AB3 ACp rfl Bl (AKc rfl rfl (by omega) (by omega) (AKq rfl rfl (by omega) (by omega) (Wj (AS6 rfl rfl (by omega) ?_))))))))))))))))));have hnf:=AWn (Ac8 (m:=m - 1) (by rw [show m - 1 + 1=m by omega];exact hstg) (by omega) (by rw [show m - 1 + 1=m by omega];exact hsh)) (by omega) (by omega) (i:=i) (j:=j) (by omega) (by omega);unfold Abs at hnf;rw [show IntKind.i64.wrap ((F 0 0 * F (i + 1) (j + 1) - F (i + 1) 0 * F 0 (j + 1)).tdiv last)=AO6 F last i j from Go.QF.wrap_small (by have:(F 0 0 * F (i + 1) (j + 1) - F (i + 1) 0 * F 0 (j + 1)).tdiv last=AO6 F last i j:=rfl;omega) (by have:(F 0 0 * F (i + 1) (j + 1) - F (i + 1) 0 * F 0 (j + 1)).tdiv last=AO6 F last i j:=rfl;omega)];refine AMr ABt rfl hrQ rfl (by rw [List.length_map,AKs];omega) ?_;refine Anh (AS2 (m - 1) (AO6 F last i) (fun _=>0) (j + 1)) ACp rfl rfl HQ hgQ (AT3 (by simp)) hrQ (by rw [AKs];omega) (AW7 (by omega) rfl) fun h6 Bm U6 Cz=>?_;have C0:=U6.1;have C1:=Bb.thenUpd U6 (fun k hk=>by have Ah:k=gQ:=hk;omega);have Ap:=E5.thenUpd U6 (fun k hk=>by have Ah:k=gQ:=hk;omega);have HS_30:=HS.ext Ap;have Aq:=Bm;rw [Ab1 (by simp)] at Aq;refine ACh (q_b (q_t (ABu (AIk rfl (by omega) (Wj (ABn ?_))))));exact ⟨m - 1 - (j + 1),j + 1,by omega,⟨rfl,by omega,Ap,Aq⟩,rfl,trivial⟩
     ·refine ABn (ABl (ACc rfl (AB8 (AB6 (AB6 (ADg (q_b (q_t (ABu (AIk rfl (by omega) (Wj (ABn ?_))))))))))));exact ⟨m - 1 - (i + 1),i + 1,by omega,⟨rfl,by omega,E5,gs ++ [g4],by rw [AW5 _ _ (by omega)] at HQ;rw [<- Aen];exact HQ⟩,rfl,trivial⟩
    ·refine ABn (ABl (ACc rfl (AB8 (AB6 (AB6 (ADg (q_t (ABl ?_))))))));obtain rfl:i=m - 1:=by omega
     have Ar:ANg h3 tR tI (Array.size hq) b2 gs v2 (tab (m - 1) (m - 1) (AO6 F last)).length (tab (m - 1) (m - 1) (AO6 F last)):=by rw [AC8];exact HP
     have HN:=Ar.mat;have hcapn:=Ar.cap;have Bn:=Ac8 (m:=m - 1) (by rw [show m - 1 + 1=m by omega];exact hstg) (by omega) (by rw [show m - 1 + 1=m by omega];exact hsh);have hnx:Stg (m - 1) (AO6 F last) (F 0 0) (262144 + 16384 * (M.length - ((m - 1:Nat):Int))):=by rw [show (262144 + 16384 * ((M.length:Int) - ((m - 1:Nat):Int)))=262144 + 16384 * ((M.length:Int) - (m:Int)) + 16384 by omega];exact Bn
     refine ABu (Wj (AN5 (n:=1) AB0 rfl HS_11 rfl (AEa (by omega)) fun C2 C3 Bo Bp=>AB3 ACl rfl Bo (AK6 (n:=0) ABt rfl Bp rfl (AGg (by omega)) fun C4 Bq=>AB3 ACp rfl Bq (ABp (ABl (ABl ?_))))));have hd:=hsh.1;have hnf:=AWn hnx (by omega) (by omega) (i:=0) (j:=0) (by omega) (by omega);have q5:=ASw (a:=65535) (b:=34359738368) (x:=last) (y:=AO6 F last 0 0) ⟨by omega,by omega⟩ hnf;have q2:=hsh.2 1 (by omega) (by omega);have q6:=ASw (a:=32768) (b:=32768) (x:=F 1 0) (y:=F 1 0) ⟨by omega,by omega⟩ ⟨by omega,by omega⟩;have q7:=AQv (a:=3 * F 0 0) (b:=F 0 0) (A:=196605) (B:=65535) (by omega) (by omega) (by omega) (by omega);unfold Abs at q5 q6;refine ABu (Wj (Wj (AN5 (n:=0) AB0 rfl HN rfl (AEa (by omega)) fun aN rN haN hrN=>AB3 ACl rfl haN (AK6 (n:=0) ABt rfl hrN rfl (AGg (by omega)) fun aO haO=>AB3 ACp rfl haO (AKc rfl rfl (by omega) (by omega) (Wj (Wj (AKc rfl rfl (by omega) (by omega) (AR5 rfl rfl (by omega) (by omega) (AKc rfl rfl (by omega) (by omega) (Wj (AKc rfl rfl (by omega) (by omega) (Wj (AKc rfl rfl (by omega) (by omega) (AFc rfl rfl (fun Bu=>?_) (fun Bu=>?_))))))))))))))))
     ·refine ABn (AB5 rfl (ABh (ABp (ABr (ABz (ADk (ABz (ADk (ABz (⟨_,ABs,?_⟩))))))))))
      first
        | exact ⟨X9,congrArg Value.bool (show false=isRed M by unfold isRed;rw [show AJv M=false by assumption];rfl)⟩
        | exact ⟨X9,congrArg Value.bool (show false=isRed M by unfold isRed;rw [hred,AM3 (by omega) (of_decide_eq_false (by assumption)),Bool.and_false])⟩
        | exact ⟨X9,congrArg Value.bool (show false=isRed M by unfold isRed;rw [hred,AQe (by omega) (by unfold AS5;omega),Bool.and_false])⟩
        | (obtain rfl:m=1:=by omega
           first
           | exact ⟨X9,congrArg Value.bool (show true=isRed M by unfold isRed;rw [hred,<- AF9 hsm,ANz,decide_eq_true ⟨by omega,by omega⟩];rfl)⟩
           | exact ⟨X9,congrArg Value.bool (show false=isRed M by unfold isRed;rw [hred,ANz,decide_eq_false (by omega),Bool.and_false])⟩)
     ·refine ABn (ACc rfl (ABq (q_t ?_)));have hlov:AS5 F last:=by unfold AS5;omega
      have hredn:=Ail (last:=last) (by omega) hsh hlov;refine ABu (Wj (Wj (ACa (ACa (ACh (q_b (q_t ?_)))))));exact ⟨m - 1,(m - 1,v2,F 0 0,AO6 F last),by first | omega | (dsimp only;omega),⟨rfl,X9,by first | omega | (dsimp only;omega),by first | omega | (dsimp only;omega),HN,hcapn,hnx,by rw [hred,hredn]⟩,rfl,rfl,trivial⟩
  ·refine ABn (ACc rfl (AB8 (AB6 (AB6 (ADg (q_t (ABh (Wj (AN5 (n:=0) AB0 rfl HS rfl (AEa (by omega)) fun C6 C7 Bv Bw=>AB3 ACl rfl Bv (AK6 (n:=0) ABt rfl Bw rfl (AGg (by omega)) fun C8 Bx=>AB3 ACp rfl Bx (AP3 rfl rfl (fun By=>?_) (fun By=>?_))))))))))))
   ·refine Wj (ACt 110 true (by kernel_rfl) rfl rfl (Wj (ACt 110 true (by kernel_rfl) rfl rfl (AN5 (n:=0) AB0 rfl HS rfl (AEa (by omega)) fun C9 Da Bz B1=>ACt 110 true (by kernel_rfl) rfl rfl (AB3 ACl rfl Bz (ACt 110 true (by kernel_rfl) rfl rfl (AK6 (n:=0) ABt rfl B1 rfl (AGg (by omega)) fun Db B2=>ACt 110 true (by kernel_rfl) rfl rfl (AB3 ACp rfl B2 (ACt 110 true (by kernel_rfl) rfl rfl (AS7 rfl rfl (fun B3=>?_) (fun B3=>?_)))))))))))
    ·refine AB2 rfl (ABp (ABr (⟨_,ABs,?_⟩)))
     first
       | exact ⟨XQ,congrArg Value.bool (show false=isRed M by unfold isRed;rw [show AJv M=false by assumption];rfl)⟩
       | exact ⟨XQ,congrArg Value.bool (show false=isRed M by unfold isRed;rw [hred,AM3 (by omega) (of_decide_eq_false (by assumption)),Bool.and_false])⟩
       | exact ⟨XQ,congrArg Value.bool (show false=isRed M by unfold isRed;rw [hred,AQe (by omega) (by unfold AS5;omega),Bool.and_false])⟩
       | (obtain rfl:m=1:=by omega
          first
          | exact ⟨XQ,congrArg Value.bool (show true=isRed M by unfold isRed;rw [hred,<- AF9 hsm,ANz,decide_eq_true ⟨by omega,by omega⟩];rfl)⟩
          | exact ⟨XQ,congrArg Value.bool (show false=isRed M by unfold isRed;rw [hred,ANz,decide_eq_false (by omega),Bool.and_false])⟩)
    ·refine AB2 rfl (ABp (ABr (⟨_,ABs,?_⟩)))
     first
       | exact ⟨XQ,congrArg Value.bool (show false=isRed M by unfold isRed;rw [show AJv M=false by assumption];rfl)⟩
       | exact ⟨XQ,congrArg Value.bool (show false=isRed M by unfold isRed;rw [hred,AM3 (by omega) (of_decide_eq_false (by assumption)),Bool.and_false])⟩
       | exact ⟨XQ,congrArg Value.bool (show false=isRed M by unfold isRed;rw [hred,AQe (by omega) (by unfold AS5;omega),Bool.and_false])⟩
       | (obtain rfl:m=1:=by omega
          first
          | exact ⟨XQ,congrArg Value.bool (show true=isRed M by unfold isRed;rw [hred,<- AF9 hsm,ANz,decide_eq_true ⟨by omega,by omega⟩];rfl)⟩
          | exact ⟨XQ,congrArg Value.bool (show false=isRed M by unfold isRed;rw [hred,ANz,decide_eq_false (by omega),Bool.and_false])⟩)
   ·refine Wj (ACb 110 false (by kernel_rfl) rfl rfl (ACb 110 false (by kernel_rfl) rfl rfl (ACb 110 false (by kernel_rfl) rfl rfl (ACb 110 false (by kernel_rfl) rfl rfl (ACb 110 false (by kernel_rfl) rfl rfl (ACb 110 false (by kernel_rfl) rfl rfl (ABx rfl (ABp (ABr (⟨_,ABs,?_⟩))))))))))
    first
      | exact ⟨XQ,congrArg Value.bool (show false=isRed M by unfold isRed;rw [show AJv M=false by assumption];rfl)⟩
      | exact ⟨XQ,congrArg Value.bool (show false=isRed M by unfold isRed;rw [hred,AM3 (by omega) (of_decide_eq_false (by assumption)),Bool.and_false])⟩
      | exact ⟨XQ,congrArg Value.bool (show false=isRed M by unfold isRed;rw [hred,AQe (by omega) (by unfold AS5;omega),Bool.and_false])⟩
      | (obtain rfl:m=1:=by omega
         first
         | exact ⟨XQ,congrArg Value.bool (show true=isRed M by unfold isRed;rw [hred,<- AF9 hsm,ANz,decide_eq_true ⟨by omega,by omega⟩];rfl)⟩
         | exact ⟨XQ,congrArg Value.bool (show false=isRed M by unfold isRed;rw [hred,ANz,decide_eq_false (by omega),Bool.and_false])⟩)
end Go.Proofs.YtiegjkmfpcgjjaaGreatDoor
namespace Go.Proofs.YtiegjkmfpcgjjaaGreatDoor
open Go Go.QF
set_option maxRecDepth 100000
open Classical in
noncomputable def AO7 (p:Int):Bool:=decide (2 < p/\p<=9973/\Pr p)
theorem ATs {p:Int} (h:2 < p/\p<=9973/\Pr p):true=AO7 p:=by simp [AO7,h]
theorem ARe {p:Int} (h: ¬ (2 < p/\p<=9973/\Pr p)):false=AO7 p:=by simp [AO7,h]
theorem Aa3 {p:Int} (h:AO7 p=true):2 < p/\p<=9973/\Pr p:=by simpa [AO7] using h
theorem prB {p:Int} {b:Bool} (h:AKd p=b) (hp:p<=9973):b=true↔Pr p:=by
 subst h;constructor
 ·intro h;exact (AY0 h).2
 ·intro h;exact (AW1 (by omega) h).symm
open Classical in
noncomputable def AFm (p:Int):Bool:=decide (p<=9973/\Pr p)
theorem Aln (p:Int) (h:ABg):AB7 Tryz.prog 101 #[.int .i64 p] h fun v h'=>h'=h/\v= .bool (AFm p):=by
 refine ACu (l:=[_]) mx Tryz.func101 rfl rfl rfl rfl rfl (by kernel_rfl) (ABh (ACq (Wj (AS7 rfl rfl (fun Aa=>?_) (fun Aa=>?_)))))
 ·refine Wj (ACt 5 true (by kernel_rfl) rfl rfl (Wj (ACt 5 true (by kernel_rfl) rfl rfl (ACm trivial rfl (Ajr p _) fun x1 h hk=>?_))));obtain ⟨rfl,rfl⟩:=hk;refine ⟨trivial,?_⟩;cases Ac:AKd p
  ·refine AB2 rfl (ABp (ABr (⟨_,ABs,?_⟩)))
   first
   | exact ⟨rfl,congrArg Value.bool (show false=AFm p by simp [AFm];intro hh;omega)⟩
   | (have hq:=(prB (by assumption:AKd p=_) (by omega));first | exact ⟨rfl,congrArg Value.bool (show true=AFm p by simp [AFm];exact ⟨by omega,hq.1 rfl⟩)⟩ | exact ⟨rfl,congrArg Value.bool (show false=AFm p by simp [AFm];intro _ hh;have:=hq.2 hh;cases this)⟩)
  ·refine AB2 rfl (ABp (ABr (⟨_,ABs,?_⟩)))
   first
   | exact ⟨rfl,congrArg Value.bool (show false=AFm p by simp [AFm];intro hh;omega)⟩
   | (have hq:=(prB (by assumption:AKd p=_) (by omega));first | exact ⟨rfl,congrArg Value.bool (show true=AFm p by simp [AFm];exact ⟨by omega,hq.1 rfl⟩)⟩ | exact ⟨rfl,congrArg Value.bool (show false=AFm p by simp [AFm];intro _ hh;have:=hq.2 hh;cases this)⟩)
 ·refine Wj (ACb 5 false (by kernel_rfl) rfl rfl (ACb 5 false (by kernel_rfl) rfl rfl (ABx rfl (ABp (ABr (⟨_,ABs,?_⟩))))))
  first
  | exact ⟨rfl,congrArg Value.bool (show false=AFm p by simp [AFm];intro hh;omega)⟩
  | (have hq:=(prB (by assumption:AKd p=_) (by omega));first | exact ⟨rfl,congrArg Value.bool (show true=AFm p by simp [AFm];exact ⟨by omega,hq.1 rfl⟩)⟩ | exact ⟨rfl,congrArg Value.bool (show false=AFm p by simp [AFm];intro _ hh;have:=hq.2 hh;cases this)⟩)
theorem Ain (p:Int) (h:ABg):AB7 Tryz.prog 65 #[.int .i64 p] h fun v h'=>h'=h/\v= .bool (AO7 p):=by
 refine ACu (l:=[_]) mx Tryz.func65 rfl rfl rfl rfl rfl (by kernel_rfl) (ABh (ACq (Wj (AS9 rfl rfl (fun Ab=>?_) (fun Ab=>?_)))))
 ·refine Wj (ACt 5 true (by kernel_rfl) rfl rfl (Wj (ACt 5 true (by kernel_rfl) rfl rfl (ACm trivial rfl (Aln p _) fun x1 h hk=>?_))));obtain ⟨rfl,rfl⟩:=hk;refine ⟨trivial,?_⟩;cases Ad:AFm p
  ·refine AB2 rfl (ABp (ABr (⟨_,ABs,?_⟩)))
   first
   | (have hq:AFm p=true:=by assumption
      have Aa:p<=9973/\Pr p:=by simpa [AFm] using hq
      exact ⟨rfl,congrArg Value.bool (ATs ⟨by have:=Aa.2.1;omega,Aa⟩)⟩)
   | (have hq:AFm p=false:=by assumption
      exact ⟨rfl,congrArg Value.bool (ARe (fun hh=>by
        have Aa: ¬ (p<=9973/\Pr p):=by simpa [AFm] using hq
        exact Aa hh.2))⟩)
   | exact ⟨rfl,congrArg Value.bool (ARe (fun hh=>by have:=hh.1;omega))⟩
  ·refine AB2 rfl (ABp (ABr (⟨_,ABs,?_⟩)))
   first
   | (have hq:AFm p=true:=by assumption
      have Aa:p<=9973/\Pr p:=by simpa [AFm] using hq
      exact ⟨rfl,congrArg Value.bool (ATs ⟨by have:=Aa.2.1;omega,Aa⟩)⟩)
   | (have hq:AFm p=false:=by assumption
      exact ⟨rfl,congrArg Value.bool (ARe (fun hh=>by
        have Aa: ¬ (p<=9973/\Pr p):=by simpa [AFm] using hq
        exact Aa hh.2))⟩)
   | exact ⟨rfl,congrArg Value.bool (ARe (fun hh=>by have:=hh.1;omega))⟩
 ·refine Wj (ACb 5 false (by kernel_rfl) rfl rfl (ACb 5 false (by kernel_rfl) rfl rfl (ABx rfl (ABp (ABr (⟨_,ABs,?_⟩))))))
  first
  | (have hq:AFm p=true:=by assumption
     have Aa:p<=9973/\Pr p:=by simpa [AFm] using hq
     exact ⟨rfl,congrArg Value.bool (ATs ⟨by have:=Aa.2.1;omega,Aa⟩)⟩)
  | (have hq:AFm p=false:=by assumption
     exact ⟨rfl,congrArg Value.bool (ARe (fun hh=>by
       have Aa: ¬ (p<=9973/\Pr p):=by simpa [AFm] using hq
       exact Aa hh.2))⟩)
  | exact ⟨rfl,congrArg Value.bool (ARe (fun hh=>by have:=hh.1;omega))⟩
end Go.Proofs.YtiegjkmfpcgjjaaGreatDoor
namespace Go.Proofs.YtiegjkmfpcgjjaaGreatDoor
open Go Go.QF
noncomputable def AVn (fuel:Nat) (M:List (List Int)):Option Bool:=some (isRed M)
theorem Afl {fuel:Nat} {h:ABg} {v:Value} {M:List (List Int)} {r:Bool} (H:AF0 (cI .i64) h v M) (hp:AVn fuel M=some r):AB7 Tryz.prog 67 #[v] h (fun x h'=>Ext h h'/\x= .bool r):=by
 cases hp;exact Aa2 (Alg H) H.1
noncomputable def AX4 (fuel:Nat) (n:Int):Option Bool:=some (AKd n)
theorem Aio {fuel:Nat} {h:ABg} {n:Int} {r:Bool} (HO:ATl h) (hp:AX4 fuel n=some r):AB7 Tryz.prog 68 #[.int .i64 n] h (fun x h'=>Ext h h'/\x= .bool r):=by
 cases hp;exact (Ar7 n HO).mono fun x h' ⟨he,hx⟩=>⟨he ▸ Ext.refl _,hx⟩
noncomputable def Aa4 (fuel:Nat) (n:Int):Option Bool:=some (AO7 n)
theorem Alo {fuel:Nat} {h:ABg} {n:Int} {r:Bool} (hp:Aa4 fuel n=some r):AB7 Tryz.prog 65 #[.int .i64 n] h (fun x h'=>Ext h h'/\x= .bool r):=by
 cases hp;exact (Ain n h).mono fun x h' ⟨he,hx⟩=>⟨he ▸ Ext.refl _,hx⟩
end Go.Proofs.YtiegjkmfpcgjjaaGreatDoor
namespace Go.Proofs.YtiegjkmfpcgjjaaGreatDoor
open Go Go.QF
set_option maxRecDepth 100000
set_option maxHeartbeats 4000000
def AHs (fuel:Nat) (a3:LiI):Option Int:=
  ((AE3 fuel a3).bind fun x5=>((AC3 fuel x5).bind fun Ac=>((Aau fuel Ac).bind fun (Ad,Ae)=>(some Ad))))
theorem ARf {fuel:Nat} {h:ABg} {Aa:Value} {a3:LiI} {r:Int} (H2:AF0 (cI .i64) h Aa a3) (hp:AHs fuel a3=some r):AB7 Tryz.prog 66 #[Aa] h (fun x h'=>Ext h h'/\x= .int .i64 r):=by
 unfold AHs at hp;refine cwf (l:=[_]) Tryz.func66 rfl rfl (ABh (ACq (Wj ?_)));have K0:=Kst.k0 h;obtain ⟨x5,Ah,Ai⟩:=ABj hp;refine AC0 rfl (AKg (H2.ext K0.x) Ah) fun A4 h9 E8 Ak=>?_;obtain ⟨A6,A7,A8,A9,rfl,Am,Ao⟩:=Ak;have Ad:=K0.no2 E8 Ao Am;obtain ⟨Ba,Ap,Aq⟩:=ABj Ai;refine AC0 rfl (AD9 (Ad.o2 p0).rd Ap) fun Bb Bc Ar Au=>?_;obtain ⟨Be,rfl,Av⟩:=Au;obtain ⟨Bf,rfl,Aw⟩:=Av.cs;have Ae:=(Ad.e Ar).az Aw;obtain ⟨⟨Bg,Bh⟩,Ax,Af⟩:=ABj Aq;dsimp only at Af;refine AC0 rfl (Aco (Ae.z p0).2 Ax) fun Bi Bj Ay Az=>?_;subst Az;refine Wj (AC9 rfl rfl (AC9 rfl rfl (ACa (ACq (Wj (ABp (ABr ?_)))))));obtain rfl:=ABi Af;exact ⟨_,ABs,(Ae.e Ay).x,rfl⟩
end Go.Proofs.YtiegjkmfpcgjjaaGreatDoor
namespace Go.Proofs.YtiegjkmfpcgjjaaGreatDoor
open Go Go.QF
set_option maxRecDepth 100000
set_option maxHeartbeats 4000000
def AEs (fuel:Nat) (a1 a2:Int):Option Int:=
  (if a2≠0 then (if (Int.tmod a1 a2) < 0 then (some (w64 ((Int.tmod a1 a2) + a2))) else (some (Int.tmod a1 a2))) else none)
theorem AH6 {fuel:Nat} {h:ABg} {a1 a2 r:Int} (hp:AEs fuel a1 a2=some r):AB7 Tryz.prog 18 #[(.int .i64 a1),(.int .i64 a2)] h (fun x h'=>Ext h h'/\x= .int .i64 r):=by
 unfold AEs at hp;refine cwf (l:=[_,_]) Tryz.func18 rfl rfl (ABh (ACq (Wj (Wj ?_))));have K0:=Kst.k0 h;obtain ⟨Af,Ae⟩:=ifN hp;refine AFz rfl rfl Af (ABp (ABl (ABh (Wj (ACx rfl rfl (ABn (⟨_,rfl,fun Aa=>?_,fun Aa=>?_⟩)))))))
 ·refine ABu (Wj (Wj (ACw rfl rfl (ACq (Wj (ABp (ABr ?_)))))));obtain rfl:=ABi (AC1 Ae Aa);exact ⟨_,ABs,K0.x,rfl⟩
 ·refine ABq (q_t (ABh (Wj (ABp (ABr ?_)))));obtain rfl:=ABi (AC2 Ae Aa);exact ⟨_,ABs,K0.x,rfl⟩
def AL5 (fuel:Nat) (a3 a7:LiI) (Ab:Int) (Ae:LiA) (Aa:Int):Option ((Int) ⊕ ((Bool) ⊕ (Unit))):=
  (if Aa < (Ae.length:Int) then ((gI a3 Ab).bind fun Af=>((gI Af Aa).bind fun Ag=>((gI a7 Ab).bind fun Ah=>((gI Ah Aa).bind fun Ai=>(if ¬ Ag=Ai then (some (Sum.inr<| Sum.inl <| false)) else (some (Sum.inl (w64 (Aa + 1))))))))) else (some (Sum.inr<| Sum.inr <| ())))
def AL6 (fuel:Nat) (a3 a7:LiI) (Aa:Int):Option ((Int) ⊕ ((Bool) ⊕ (Unit))):=
  (if Aa < (a3.length:Int) then ((gI a3 Aa).bind fun Ad=>((gI a7 Aa).bind fun Ae=>(if ¬ (Ad.length:Int)=(Ae.length:Int) then (some (Sum.inr<| Sum.inl <| false)) else ((iter (fun s=>AL5 fuel a3 a7 Aa Ad s) fuel 0).bind (fun ex=>match ex with | Sum.inl Af=>(some (Sum.inr<| Sum.inl <| Af)) | Sum.inr (_)=>(some (Sum.inl (w64 (Aa + 1))))))))) else (some (Sum.inr<| Sum.inr <| ())))
def AKx (fuel:Nat) (a3 a7:LiI):Option Bool:=
  (if ¬ (a3.length:Int)=(a7.length:Int) then (some false) else ((iter (fun s=>AL6 fuel a3 a7 s) fuel 0).bind (fun ex=>match ex with | Sum.inl Ac=>(some Ac) | Sum.inr (_)=>(some true))))
theorem AQf {fuel:Nat} {h:ABg} {Av:Value} {a3:LiI} {Ax:Value} {a7:LiI} {r:Bool} (H2:AF0 (cI .i64) h Av a3) (H6:AF0 (cI .i64) h Ax a7) (hp:AKx fuel a3 a7=some r):AB7 Tryz.prog 17 #[Av,Ax] h (fun x h'=>Ext h h'/\x= .bool r):=by
 unfold AKx at hp;refine cwf (l:=[_,_]) Tryz.func17 rfl rfl (ABh (ABp (ABl (ABh (Wj (ADf AB0 rfl H2 (Wj (ADf AB0 rfl H6 (AG0 rfl rfl (ABn ?_))))))))));have K0:=Kst.k0 h;refine ⟨_,rfl,fun Ak=>?_,fun Ak=>?_⟩
 ·refine ABh (ABp (ABr (ABz ?_)));obtain rfl:=ABi (AC1 hp Ak);exact ⟨_,ABs,K0.x,rfl⟩
 ·refine ABq (q_t (ABl (ABh (Wj (ADf AB0 rfl H2 (Wj (ABn (ABo ?_))))))));obtain ⟨Ah,A6,Am⟩:=ABj (AC2 hp Ak);obtain ⟨A7,A8,A9⟩:=ACd A6;refine ACg 9007199254724720 (fun x:(Int)=>[(14,(.int .i64 x))]) (fun k x h'=>iter A7 k x=some Ah/\Kst h h' (K0.L)) (by kernel_rfl) fuel (0:(Int)) ?_ ⟨rfl,trivial⟩ ?_
  ·exact ⟨A9,K0⟩
  rintro Cb Ba Cd Ce ⟨Bb,Aa⟩;obtain ⟨Bc,Cf,rfl,Ae,Ab⟩:=AB1 Bb;rw [A8] at Ae;dsimp only at Ae;unfold AL6 at Ae;refine ABh (ACx rfl rfl (ABn (ABl (⟨_,rfl,fun Ao=>?_,fun Ao=>?_⟩))))
  ·refine ABq (q_t (ABl (ABo (ABh (Wj (ABp (ABl (ABl (AMq (Wj (Wj ?_)))))))))));obtain ⟨Cg,Az,Be⟩:=ABj (AC1 Ae Ao);refine AIm AB0 rfl H2 rfl Az fun Ch Ci Cj Bf Bg=>AB3 ACl rfl (ABv Bf Aa.x) (ADs ABt rfl Bg (Wj (Wj ?_)));obtain ⟨Ck,Bh,A3⟩:=ABj Be;refine AIm AB0 rfl H6 rfl Bh fun Cm Cn Co Bi Bj=>AB3 ACl rfl (ABv Bi Aa.x) (ADs ABt rfl Bj (AG0 rfl rfl (ABn (⟨_,rfl,fun Ap=>?_,fun Ap=>?_⟩))))
   ·refine ABh (ABp ?_);obtain rfl:=ABi (AC1 A3 Ap);change _=Ah at Ab;subst Ab;refine ABr (ABz (ADk (ABz (ABz (ADk (ABz ?_))))));obtain rfl:=ABi Am;exact ⟨_,ABs,Aa.x,rfl⟩
   ·refine ABq (q_t (ABh (Wj (Wj (AIm AB0 rfl H2 rfl Az fun Cp Cq Cr Bl Bm=>AB3 ACl rfl (ABv Bl Aa.x) (ADs ABt rfl Bm (Wj (ABn (ABo ?_)))))))));obtain ⟨Aq,Bn,A4⟩:=ABj (AC2 A3 Ap);obtain ⟨Bo,Bp,Bq⟩:=ACd Bn;refine ACg 4503591037435984 (fun x:(Int)=>[(33,(.int .i64 x))]) (fun k x h'=>iter Bo k x=some Aq/\Kst h h' (Aa.L)) (by kernel_rfl) fuel (0:(Int)) ?_ ⟨rfl,trivial⟩ ?_
    ·exact ⟨Bq,Aa⟩
    rintro Ct Br Cu Cv ⟨Bt,Ac⟩;obtain ⟨Bu,Cw,rfl,Af,Ag⟩:=AB1 Bt;rw [Bp] at Af;dsimp only at Af;unfold AL5 at Af;refine ABh (ACx rfl rfl (ABn (ABl (⟨_,rfl,fun Ar=>?_,fun Ar=>?_⟩))))
    ·refine ABq (q_t (ABl (ABo (ABh (Wj (ABp (ABl (AMq (Wj (Wj ?_))))))))));obtain ⟨Cx,Bv,Bw⟩:=ABj (AC1 Af Ar);refine AIm AB0 rfl H2 rfl Bv fun Cy Cz C0 Bx By=>AB3 ACl rfl (ABv Bx Ac.x) (Wj ?_);obtain ⟨C1,Bz,B1⟩:=ABj Bw;refine AIa (c:=(cI .i64)) ABt rfl By rfl Bz fun C2 C3 C4 B2 B3=>?_;obtain rfl:=B2;refine AB3 ACp rfl (ABv (B3 0 _ rfl) Ac.x) (Wj (Wj ?_));obtain ⟨C5,B4,B5⟩:=ABj B1;refine AIm AB0 rfl H6 rfl B4 fun C6 C7 C8 B6 B7=>AB3 ACl rfl (ABv B6 Ac.x) (Wj ?_);obtain ⟨C9,B8,A5⟩:=ABj B5;refine AIa (c:=(cI .i64)) ABt rfl B7 rfl B8 fun Da Db Dc B9 Ca=>?_;obtain rfl:=B9;refine AB3 ACp rfl (ABv (Ca 0 _ rfl) Ac.x) (AG0 rfl rfl (ABn (⟨_,rfl,fun Au=>?_,fun Au=>?_⟩)))
     ·refine ABh (ABp ?_);obtain rfl:=ABi (AC1 A5 Au);change _=Aq at Ag;subst Ag;obtain rfl:=ABi A4;change _=Ah at Ab;subst Ab;refine ABr (ADk (ABz (ABz (ADk (ADk (ABz (ABz (ADk (ABz ?_)))))))));obtain rfl:=ABi Am;exact ⟨_,ABs,Ac.x,rfl⟩
     ·refine ABq (q_b (q_t (ABu (ACw rfl rfl (Wj (ABn ?_))))));obtain rfl:=ABi (AC2 A5 Au);exact ⟨Bu,((w64 (Br + 1)):(Int)),Nat.lt_succ_self _,⟨Ag,Ac⟩,rfl,trivial⟩
    ·obtain rfl:=ABi (AC2 Af Ar);change _=Aq at Ag;subst Ag;refine AB8 (AB6 (AB6 (ADg (q_b (q_t (ABu (ACw rfl rfl (Wj (ABn ?_)))))))));obtain rfl:=ABi A4;exact ⟨Bc,((w64 (Ba + 1)):(Int)),Nat.lt_succ_self _,⟨Ab,Ac⟩,rfl,trivial⟩
  ·obtain rfl:=ABi (AC2 Ae Ao);change _=Ah at Ab;subst Ab;refine AB8 (AB6 (AB6 (ADg (q_t (ABh (ABp (ABr ?_)))))));obtain rfl:=ABi Am;exact ⟨_,ABs,Aa.x,rfl⟩
end Go.Proofs.YtiegjkmfpcgjjaaGreatDoor
namespace Go.Proofs.YtiegjkmfpcgjjaaGreatDoor
open Go Go.QF
set_option maxRecDepth 100000
theorem Aa5 {h h2:ABg} {r1:Value} {M:List (List Int)} {m:Int} {b:Nat} {gs:List Nat} {c:Nat} (Ac:AYn h2 tR tI b gs r1 (M.map (·.map (· % m)))) (hr:∀ z∈M,z.length=c):ADo h2 tR tI b gs r1 M.length (tab M.length c (ent (ALc M m))):=by
 have ht:=AZ4 (A:=ALc M m) (c:=c) (Ajo hr);rw [AZ6] at ht;rw [<- ht];have:AYn h2 tR tI b gs r1 (ALc M m):=Ac;unfold AYn at this;rw [AZ6] at this;exact this
theorem Aq7 {M:List (List Int)} {c:Nat} {m:Int} (hm:0 < m):Bd M.length c m (ent (ALc M m)):=by
 have:=Aqj (c:=c) hm (Am7 hm M);rw [AZ6] at this;exact this
def Asp (M:List (List Int)) (m:Int) (Q:(Nat->Nat->Int)->Int->Prop) (h:ABg) (x:Value) (h':ABg):Prop:=Ext h h'/\ ∃ r e,x= .tuple #[r,.int .i64 e]/\
  ((AHw M=false/\e=3/\Mat h' r [])∨(AHw M=true/\AO2 m=false/\e=1/\Mat h' r [])∨
   (AHw M=true/\AO2 m=true/\ ∃ F1 s,(s=1∨s= -1)/\Q F1 s/\Bd M.length (M.length + M.length) m F1/\Zc M.length F1 M.length/\
     ((e=8/\Mat h' r []/\ ∃ c,c < M.length/\¬ ∃ y,AKk m (F1 c c) y)∨
      (e=0/\(∀ c,c < M.length-> ∃ y,AKk m (F1 c c) y)/\Mat h' r (tab M.length M.length fun i j=>AHb m M.length F1 M.length i (M.length + j))))))
theorem AWo {a b c d:Value} (h:Value.tuple #[a,b]= .tuple #[c,d]):a=c/\b=d:=by
 injection h with h;have:=congrArg Array.toList h;simpa using this
theorem Adc {h:ABg} {v:Value} {M:List (List Int)} (HM:Mat h v M) (m:Int) (Q:(Nat->Nat->Int)->Int->Prop) (Bf:AHw M=true->AO2 m=true->Q (AYo M.length (ent (ALc M m))) 1) (hQ:Alk M.length (M.length + M.length) m Q):AB7 Tryz.prog 39 #[v,.int .i64 m] h (fun x h'=>Asp M m Q h x h'/\ ∀ r e,x= .tuple #[r,e]->AMs r):=by
 refine ACu (l:=[_,_]) mx Tryz.func39 rfl rfl rfl rfl rfl (by kernel_rfl) (ABh (ACa (ABp (ABl (ABl ?_)))));have Bg:=Ext.refl h;refine ABu (Wj (ACm trivial rfl (Ajq HM) fun v' h hk=>?_));obtain ⟨rfl,rfl⟩:=hk;refine ⟨trivial,?_⟩;cases Ab:AHw M
 ·refine AGq rfl (ABn (AB5 rfl (ABh (ACa (ABp (ABr (ABz (⟨_,AC5,?_⟩))))))));exact ⟨⟨Ext.refl _,_,_,rfl,.inl ⟨Ab,rfl,AZ1 _⟩⟩,fun r e he=>(AWo he).1 ▸ AP6⟩
 ·refine AGq rfl (ABn (ACc rfl (ABq (q_t (ABl (ABh (Wj (ACm trivial rfl (AV6 m h) fun v' h hk=>?_))))))));obtain ⟨rfl,rfl⟩:=hk;refine ⟨trivial,?_⟩;refine ACq (Wj (AS9 rfl rfl (fun Ah=>?_) (fun Ah=>?_)))
  ·refine ABn (AB5 rfl (ABh (Wj (ACa (ABp (ABr (ABz (⟨_,AC5,?_⟩))))))));have hmB:AO2 m=false:=by cases hb:AO2 m <;> simp [hb] at Ah ⊢
   exact ⟨⟨Ext.refl _,_,_,rfl,.inr (.inl ⟨Ab,hmB,by simp [hmB],AZ1 _⟩)⟩,fun r e he=>(AWo he).1 ▸ AP6⟩
  ·refine ABn (ACc rfl (ABq (q_t (ABl ?_))));have hmB:AO2 m=true:=by cases hb:AO2 m <;> simp [hb] at Ah ⊢
   have hm:=AR8 hmB;obtain ⟨hv,hsq,h8⟩:=AY5 Ab;have Bh:=hv.1;have Bi:=hv.2.1;refine ABu (Wj (AL9 AB0 rfl (HM.ext Bg) (ACq (Wj (Wj ?_)))));have hmB:AO2 m=true:=by cases hb:AO2 m <;> simp [hb] at Ah ⊢
   have hm:=AR8 hmB;obtain ⟨hv,hsq,h8⟩:=AY5 Ab;have Bh:=hv.1;have Bi:=hv.2.1;refine ACm trivial rfl (Ab3 HM hm.1 hm.2 (by omega) (Ajn hv)) fun r1 h2 hk=>?_;obtain ⟨Bj,b,gs,Bl,hb⟩:=hk;refine ⟨trivial,?_⟩;have Ay:=Aa5 (c:=M.length) (h:=h) Bl (fun z hz=>by rw [hv.2.2.2.2 z hz];omega);have Bm:=Aq7 (M:=M) (c:=M.length) (m:=m) (by omega);refine ABp (ABl (ABh (Wj (ATm AB0 rfl Ay (Wj (ABn (ABo (ACg 4503597479887360 (fun i:Nat=>[(31,.int .i64 (i:Int))]) (fun k i h'=>Ext h h'/\k=M.length - i/\i<=M.length/\ ∃ gs',ADo h' tR tI b gs' r1 M.length (AU9 M.length i (fun k=>(List.range (M.length + M.length)).map (AYo M.length (ent (ALc M m)) k)) (fun k=>(List.range M.length).map (ent (ALc M m) k)))/\ ∀ g∈b :: gs',h.size<=g) (by kernel_rfl) M.length 0 ?_ ⟨rfl,trivial⟩ ?_))))))))
   ·exact ⟨Bj,by omega,by omega,gs,by rw [AY4];exact Ay,hb⟩
   rintro k i sx h3 ⟨hEA,rfl,hi,gsA,HPA,hgA⟩;refine ABh (AFc rfl rfl (fun Bo=>?_) (fun Bo=>?_))
   ·refine ABn (ABl (AB5 rfl (ABq (q_t (ABl (ABo (ABh (Wj (ACq (Wj (Wj (Wj (Wj (ANe AB0 rfl HPA rfl (Af9 (by omega)) fun aK rK gK haK hgK hrK=>AB3 ACl rfl haK (Wj (Aql (n:=M.length) ABt APm AGy rfl trivial rfl hrK rfl (by omega) (by simp;omega) (by simp;omega) fun r4 g4 h4 A4 Bp Ao=>⟨trivial,?_⟩))))))))))))))));obtain ⟨rs,HT,hrl⟩:=ADo.top HPA;have hKb:=ADo.ne HPA hgK;have Af:=HT.upd Ao (fun he=>hKb (Eq.symm he))
    have HO4b:AD1 h4 tI g4 r4 (((List.range M.length).map (ent (ALc M m) i) ++ List.replicate M.length 0).map (.int .i64)):=by
      rw [List.map_append,List.map_replicate];exact A4
    refine AMr AB0 rfl Af rfl (by omega) (ARl ACl rfl rfl A4.one Af (by omega) ?_)
    have hg4s:g4=gK∨h3.size<=g4:=by
      rcases Bp with h | h
      · exact .inl h
      · exact .inr (by omega)
    have HPB:=ADo.replace HPA hgK Ao HO4b hg4s;have hgKm:=hgA gK (List.mem_cons_of_mem _ (List.mem_of_getElem? hgK));have Bq:=hgA b (List.mem_cons_self ..)
    have hg4m:h.size<=g4:=by
      rcases hg4s with h | h
      · omega
      · have:=hEA.1;omega
    have hgB:∀ g∈b :: gsA.set i g4,h.size<=g:=fun g hg=>by
      rcases List.mem_cons.1 hg with rfl | hg
      · exact Bq
      · exact AXb (fun g hg=>hgA g (List.mem_cons_of_mem _ hg)) hg4m g hg
    have hEB:=(hEA.thenUpd Ao (fun k hk=>by have Ap:k=gK:=hk;omega)).thenUpd (AGr h4 ⟨b,i,none⟩ r4) (fun k hk=>by have Ap:k=b:=hk;omega);have hgl:gsA.length=M.length:=by have:=ADo.glen HPA;rw [AXc] at this;exact this
    refine ABn (ABu (Wj (Wj (ANe AB0 rfl HPB rfl (List.getElem?_set_self (by rw [AXc];omega)) fun aQ rQ gQ haQ hgQ hrQ=>?_))));refine AB3 ACl rfl haQ (Wj (Wj (AXe rfl rfl (by omega) (AMr (n:=M.length + i) ABt rfl hrQ rfl (by simp;omega) ?_))));refine ARl ACp rfl rfl rfl hrQ (by simp;omega) ?_;have HPC:=ADo.setElem HPB hgQ (List.getElem?_set_self (by rw [AXc];omega)) (j:=M.length + i) (by simp;omega) 1;rw [List.set_set,Anb _ (by omega),Ab8 rfl] at HPC;have hEC:=hEB.thenUpd (AGr _ ⟨gQ,M.length + i,none⟩ (.int .i64 1)) (fun k hk=>by have Ap:k=gQ:=hk;have:=hgB gQ (List.mem_cons_of_mem _ (List.mem_of_getElem? hgQ));omega);refine ACh (q_b (q_t (ABu (AIk rfl (by omega) (Wj (ABn ?_))))));exact ⟨M.length - (i + 1),i + 1,by omega,⟨hEC,rfl,by omega,_,HPC,hgB⟩,rfl,trivial⟩
   ·refine ABn (ABl (ACc rfl (AB8 (AB6 (AB6 (ADg (q_t (ABh (Wj (Wj ?_))))))))));rw [Ab7 _ _ (by omega)] at HPA;refine ACm trivial rfl (AYt HPA (by omega) (by omega) hm.1 hm.2 (Aqm hm.1 Bm) Q (Bf Ab hmB) hQ) fun x3 h5 hk=>?_;obtain ⟨Br,F1,s,Ac,rfl,hs,A5,Bt,A6,Ai,Aq⟩:=hk;refine ⟨trivial,?_⟩;have A7:=hEA.thenUpd Br (fun k hk=>hgA k hk);have hlt:=ADo.lt A5
    have hge:∀ g∈b :: Ac,h.size<=g:=fun g hg=>hgA g (by
      rcases List.mem_cons.1 hg with rfl | hg
      · exact List.mem_cons_self ..
      · exact List.mem_cons_of_mem _ (Bt g hg))
    refine AMa (Wj (ACm trivial rfl (ATf m h5) fun fv h6 hk=>?_));obtain ⟨rfl,rfl⟩:=hk;refine ⟨trivial,?_⟩;have hpush:=AD7 h5 (.cells #[.int .i64 m] tI (0,0));refine ABp (ABl (ABh (Wj (AKq rfl rfl (by omega) (by omega) (ABp (ABo (ACg 81129638414606105235036701751344 (fun y:Nat × Int=>[(11,.int .i64 y.2)]) (fun k y h'=>k=M.length - y.1/\y.1<=M.length/\y.2=(M.length:Int) - 1 - (y.1:Int)/\Adb h5 h' b Ac r1 M.length (M.length + M.length) m (AHb m M.length F1 y.1) (.slice none 0 0) [] Ac/\ ∀ c,M.length - y.1<=c->c < M.length-> ∃ z,AKk m (F1 c c) z) (by kernel_rfl) M.length (0,(M.length:Int) - 1) ?_ ⟨rfl,trivial⟩ ?_)))))))
    ·refine ⟨rfl,by omega,by simp,⟨hpush.upd,ADo.ext A5 hpush,fun g hg=>hg,ASm _ _ _,?_,by simp⟩,fun c h1 h2=>absurd h1 (by simp;omega)⟩;simp [AEk]
    rintro k ⟨j,xv⟩ sy h6 ⟨rfl,hj,hxv,HIB,hall⟩;dsimp only at hj hxv HIB hall ⊢;refine ABl (ABh (Wj (AS8 rfl rfl (fun Bv=>?_) (fun Bv=>?_))))
    ·refine ABn (AB5 rfl (ABq (q_t (ABl (ABo (ABl ?_))))));obtain ⟨c,rfl⟩:∃ c:Nat,xv=(c:Int):=⟨xv.toNat,by omega⟩;obtain ⟨G,hG⟩:∃ G,AHb m M.length F1 j=G:=⟨_,rfl⟩;rw [hG] at HIB;have HPG:=HIB.2.1;have hbdG:Bd M.length (M.length + M.length) m G:=hG ▸ Aac (by omega) Ai j;have hx:=hbdG c c (by omega) (by omega);have hdiag:G c c=F1 c c:=by rw [<- hG];exact AXd (by omega) Ai (by omega) Aq j (by omega) c c (by omega) (by omega)
     refine ABu (Wj (Wj (ANe AB0 rfl HPG rfl (AEa (by omega)) fun aR rR gR haR hgR hrR=>AB3 ACl rfl haR (Wj (AK6 ABt rfl hrR.sl rfl (AGg (by omega)) fun aX haX=>AB3 ACp rfl haX (Wj (ACm trivial rfl (AYm (x:=G c c) (m:=m) hx.1 hx.2 hm.1 hm.2 _) fun rv h7 hk=>?_)))))));obtain ⟨rfl,inv,ok,rfl,Bw,him,hok,hno⟩:=hk;refine ⟨trivial,?_⟩;refine Wj (AC9 rfl rfl (AC9 rfl rfl (ACa (ABp (ABl (ABh (Wj (AGq rfl (ABn (⟨_,rfl,fun Au=>?_,fun Au=>?_⟩))))))))))
     ·refine ABh (ACa (ABp (ABr (ABz (ADk (ABz (ABz (ADk (ABz (⟨_,AC5,?_⟩))))))))));have Aj:ok=false:=by cases ok <;> simp at Au ⊢
      exact ⟨⟨A7.thenUpd HIB.1 (fun k hk=>hge k hk),_,_,rfl,.inr (.inr ⟨Ab,hmB,F1,s,hs,A6,Ai,Aq,.inl ⟨rfl,AZ1 _,c,by omega,hdiag ▸ hno Aj⟩⟩)⟩,fun r e he=>(AWo he).1 ▸ AP6⟩
     ·refine ABq (q_t (ABl ?_));have Aj:ok=true:=by cases ok <;> simp at Au ⊢
      have hinv:=Af2 (hok Aj);have HPG:=HIB.2.1;refine ABu (Wj (Wj (ANe AB0 rfl HPG rfl (AEa (by omega)) fun aS rS gS haS hgS hrS=>AB3 ACl rfl haS (Wj (Wj (ACm trivial rfl (Alj hrS (AXa hbdG (by omega)) Bw him hm.1 hm.2 (by simp;omega)) fun sv h8 hk=>?_))))));obtain ⟨A8,A9⟩:=hk;refine ⟨trivial,?_⟩;rw [Aim] at A9;have Ba:=ADo.setRow' HIB.2.1 hgS A8 (AEa (by omega)) hrS A9;rw [AHj] at Ba;have Bx:=HIB.turn hlt A8 (List.mem_cons_of_mem _ (List.mem_of_getElem? hgS)) (F2:=ALd G c inv m) Ba HIB.2.2.1;have By:=Ab5 (a:=c) (f:=inv) (by omega:0 < m) hbdG;refine AMa (Wj (Wj (ABn (ABo (ACg 81129599728980454027655414562816 (fun q:Nat=>[(85,.int .i64 (q:Int))]) (fun k q h'=>k=c - q/\q<=c/\Adb h5 h' b Ac r1 M.length (M.length + M.length) m (AJ2 (ALd G c inv m) c c m q) (.slice none 0 0) [] Ac) (by kernel_rfl) c 0 ?_ ⟨rfl,trivial⟩ ?_)))))
      ·exact ⟨rfl,by omega,by rw [AW8];exact Bx⟩
      rintro k q sz h9 ⟨rfl,hq,HIk⟩;have HPk:=HIk.2.1;refine ABh (AFc rfl rfl (fun Bz=>?_) (fun Bz=>?_))
      ·refine ABn (ABl (AB5 rfl (ABq (q_t (ABl (ABo (ABl ?_)))))));have hbk:=Af4 (k:=q) (top:=c) (j:=c) (by omega:0 < m) By;have hY:=hbk q c (by omega) (by omega);refine ABu (Wj (ABp (ANq (by kernel_rfl) (Wj (Wj (Wj (ANe AB0 rfl HPk rfl (AEa (by omega)) fun aK rK gK haK hgK hrK=>AB3 ACl rfl haK (Wj (Wj (ANe AB0 rfl HPk rfl (AEa (by omega)) fun aL rL gL haL hgL hrL=>AB3 ACl rfl haL ?_))))))))));have hgKm:gK∈b :: Ac:=List.mem_cons_of_mem _ (List.mem_of_getElem? hgK);have hneKL:gK≠gL:=fun he=>absurd (AGi (List.nodup_cons.1 (ADo.nodup HIk.2.1)).2 hgK (he ▸ hgL)) (by omega);refine Wj (Wj (ANe AB0 rfl HPk rfl (AEa (by omega)) fun aN rN gN haN hgN hrN=>AB3 ACl rfl haN (Wj (AK6 ABt rfl hrN.sl rfl (AGg (by omega)) fun aY haY=>AB3 ACp rfl haY (AZ0 trivial rfl rfl (AUj (a:=⟨h5.size,0,none⟩) hrK hrL hneKL (by simp) HIk.2.2.2.2.1 (by have:=hlt _ hgKm;dsimp only;omega) (AXa hbk (by omega)) (AXa hbk (by omega)) hY.1 hY.2 hm.1 hm.2 (by simp;omega)) fun ev B9 hk=>?_)))));obtain ⟨Bb,Bc⟩:=hk;refine ⟨trivial,?_⟩;rw [Ada] at Bc;have Ak:=ADo.setRow' HIk.2.1 hgK Bb (AEa (by omega)) hrK Bc;rw [AHj] at Ak;simp only [Ab4,AU8] at Ak;rw [AW9 (by omega)] at Ak;have B1:=HIk.turn hlt Bb hgKm Ak HIk.2.2.1;refine ACh (q_b (q_t (ABu (AIk rfl (by omega) (Wj (ABn ?_))))));exact ⟨c - (q + 1),q + 1,by omega,⟨rfl,by omega,B1⟩,rfl,trivial⟩
      ·refine ABn (ABl (ACc rfl (AB8 (AB6 (AB6 (ADg (q_b (q_t (ABu (Wj (AKq rfl rfl (by omega) (by omega) (ABp ?_))))))))))));obtain rfl:q=c:=by omega
       have hS:AHb m M.length F1 (j + 1)=AJ2 (ALd G q inv m) q q m q:=by
         simp only [AHb,AY3]
         rw [hG,show M.length - 1 - j=q by omega,hinv]
       refine ⟨M.length - (j + 1),(j + 1,(q:Int) - 1),by first | omega | (dsimp only;omega),⟨rfl,by first | omega | (dsimp only;omega),by simp;omega,?_,fun c h1 h2=>?_⟩,rfl,trivial⟩
       ·dsimp only;rw [hS];exact HIk
       ·dsimp only at h1;by_cases hcq:c=q
        ·subst hcq;exact ⟨inv,hdiag ▸ hok Aj⟩
        ·exact hall c (by omega) h2
    ·refine ABn (ACc rfl (AB8 (AB6 (AB6 (ADg (q_t (ABl (ABl ?_))))))));obtain rfl:j=M.length:=by omega
     have HPG:=HIB.2.1;refine ABu (Wj (ATm AB0 rfl HPG (Wj (ABn (ABo (ACg 5316587464586005064888445085100834816 (fun i:Nat=>[(108,.int .i64 (i:Int))]) (fun k i h'=>Ext h h'/\k=M.length - i/\i<=M.length/\ ∃ gs',ADo h' tR tI b gs' r1 M.length (AU9 M.length i (fun k=>(List.range M.length).map fun j=>AHb m M.length F1 M.length k (M.length + j)) (fun k=>(List.range (M.length + M.length)).map (AHb m M.length F1 M.length k)))/\ ∀ g∈b :: gs',h.size<=g) (by kernel_rfl) M.length 0 ?_ ⟨rfl,trivial⟩ ?_))))))
     ·exact ⟨A7.thenUpd HIB.1 (fun k hk=>hge k hk),by omega,by omega,Ac,by rw [AY4];exact HPG,hge⟩
     rintro k i sw B2 ⟨hEW,rfl,hi,gsW,HPW,Av⟩;refine ABh (AFc rfl rfl (fun B3=>?_) (fun B3=>?_))
     ·refine ABn (ABl (AB5 rfl (ABq (q_t (ABl (ABo (ABh (Wj (ABp (ABu (Wj (Wj (Wj (Wj (ANe AB0 rfl HPW rfl (Af9 (by omega)) fun aW rW gW haW hgW hrW=>AB3 ACl rfl haW (Wj ?_))))))))))))))));obtain ⟨capW,hvW,hcW⟩:=hrW.slice;have hlW:(((List.range (M.length + M.length)).map (AHb m M.length F1 M.length i)).map (Value.int .i64)).length=M.length + M.length:=by simp
      rw [hlW] at hvW hcW;have HX:=hrW.from (k:=M.length) (cap:=capW) hlW (by omega) (by omega);rw [Ajx] at HX;refine Abw ABt hvW rfl (by omega) hcW (Aej ABt AGy rfl trivial rfl rfl HX (by simp [isOne]) (by rw [List.map_map];exact AZ5 (by omega)) (by simp;omega) (by simp;omega) fun B4 B5 Be Aw=>⟨trivial,?_⟩);obtain ⟨rs,HT,hrl⟩:=ADo.top HPW;have Af:=HT.ext Aw;refine AMr AB0 rfl Af rfl (by omega) (ARl ACl rfl rfl Be.one Af (by omega) ?_);have HPY:=ADo.replace HPW hgW Aw.upd Be (.inr (Nat.le_refl _));rw [Ab8 rfl] at HPY;refine ACh (q_b (q_t (ABu (AIk rfl (by omega) (Wj (ABn ?_))))));have hEY:=(hEW.trans Aw).thenUpd (AGr B5 ⟨b,i,none⟩ B4) (fun k hk=>by have Ap:k=b:=hk;have:=Av b (List.mem_cons_self ..);omega)
      exact ⟨M.length - (i + 1),i + 1,by omega,⟨hEY,rfl,by omega,_,HPY,fun g hg=>by
        rcases List.mem_cons.1 hg with rfl | hg
        · exact Av _ (List.mem_cons_self ..)
        · exact AXb (fun g hg=>Av g (List.mem_cons_of_mem _ hg)) hEW.1 g hg⟩,rfl,trivial⟩
     ·refine ABn (ABl (ACc rfl (AB8 (AB6 (AB6 (ADg (q_t (ABh (Wj (ACa (ABp (ABr (⟨_,AC5,?_⟩)))))))))))));obtain rfl:i=M.length:=by omega
      rw [Ab7 _ _ (by omega)] at HPW;refine ⟨⟨hEW,_,_,rfl,.inr (.inr ⟨Ab,hmB,F1,s,hs,A6,Ai,Aq,.inr ⟨rfl,fun c hc=>hall c (by omega) hc,?_⟩⟩)⟩,fun r e he=>(AWo he).1 ▸ (let ⟨_,ho,_⟩:=HPW;ho.cap)⟩;exact (show AYn B2 tR tI b gsW r1 (tab M.length M.length fun i j=>AHb m M.length F1 M.length i (M.length + j)) by unfold AYn;rw [AC8];exact HPW).mat
end Go.Proofs.YtiegjkmfpcgjjaaGreatDoor
namespace Go.QF
theorem AWp:∀ {n:Nat} {m:Int} {F G:Nat->Nat->Int},(∀ i j,i < n->j < n->Eqm m (F i j) (G i j))->Eqm m (det n F) (det n G):=by
 intro n m
 induction n with
 | zero=>intro _ _ _;rfl
 | succ n ih=>
   intro F G h
   refine Eqm.psum fun i hi=>?_
   exact ((Eqm.refl _ _).mul (h i 0 hi (by omega))).mul (ih (F:=AEw i F) (G:=AEw i G) fun a b ha hb=>h _ _ (Ak2 ha) (by omega))
theorem Aip {n c i:Nat} {q m:Int} {F:Nat->Nat->Int} (hc:c < n) (hi:i < n) (hne:c≠i):Eqm m (det n (ANf F c i q m)) (-det n F):=by
  rw [<- AKw (F:=F) hc hi hne (-q),<- AOu (F:=ADc F c fun x=>F c x + -q * F i x) hc hi hne];refine AWp fun a b ha hb=>?_;unfold ANf;rw [AKa,AKa];simp only [ACr]
  have key:Eqm m ((F c b + (m - q) * F i b) % m) (F c b + -q * F i b):=by
    refine (Eqm.mod _ _).trans ?_;unfold Eqm;rw [show F c b + (m - q) * F i b=F c b + -q * F i b + m * F i b by grind,Int.add_mul_emod_self_left]
  split
  · split <;> first | exact key | rfl
  · split
    · split <;> first | exact key | rfl
    · first | rfl | exact key
theorem Alp {F:Nat->Nat->Int} {m s:Int}:∀ n,Eqm m (AQy F m s n) (s * AGb (fun i=>F i i) n):=by
 intro n
 induction n with
 | zero=>unfold AQy AGb Eqm;rw [Int.add_emod_right,Int.mul_one]
 | succ n ih=>
   unfold AQy AGb
   refine (Eqm.mod _ _).trans ?_
   rw [<- Int.mul_assoc]
   exact ((Eqm.mod _ _).trans ih).mul (Eqm.refl _ _)
def AYu (M:List (List Int)) (m:Int):Int:=if AHw M && AO2 m then det M.length (ent M) % m else 0
end Go.QF
namespace Go.Proofs.YtiegjkmfpcgjjaaGreatDoor
open Go Go.QF
end Go.Proofs.YtiegjkmfpcgjjaaGreatDoor
namespace Go.Proofs.YtiegjkmfpcgjjaaGreatDoor
open Go Go.QF
theorem Aa6 {fuel:Nat} {a m:Int} (hm:0 < m) (Ae:m<=2147483647):AEs fuel a m=some (a % m):=by
 unfold AEs;rw [if_pos (by omega)];have h1:=Int.tmod_lt_of_pos a hm
 have h2: -m < Int.tmod a m:=by
   have:=Int.tmod_lt_of_pos (-a) hm
   rw [Int.neg_tmod] at this;omega
 have h3:Int.tmod a m=a % m∨Int.tmod a m=a % m - m:=by
   rcases Int.lt_or_le a 0 with h | h
   · have e1:Int.tmod a m= -((-a) % m):=by rw [show a= -(-a) by omega,Int.neg_tmod,Int.tmod_eq_emod_of_nonneg (by omega)];simp
     rcases Int.lt_or_eq_of_le (Int.emod_nonneg (-a) (by omega:m≠0)) with h4 | h4
     · right
       rw [e1]
       have:=Int.emod_add_mul_ediv (-a) m
       have h5:a % m=m - (-a) % m:=by
         have h6:=Int.emod_lt_of_pos (-a) hm
         have e:a=(m - (-a) % m) + m * (-(-a / m) - 1):=by
           have e0:m * (-(-a / m) - 1)= -(m * (-a / m)) - m:=by rw [Int.mul_sub,Int.mul_neg,Int.mul_one]
           omega
         conv=>lhs;rw [e]
         rw [Int.add_mul_emod_self_left,Int.emod_eq_of_lt (by omega) (by omega)]
       omega
     · left
       rw [e1,<- h4]
       have:m ∣ -a:=Int.dvd_of_emod_eq_zero h4.symm
       have:m ∣ a:=(Int.dvd_neg).1 this
       rw [Int.emod_eq_zero_of_dvd this];rfl
   · left;exact Int.tmod_eq_emod_of_nonneg h
 have h4:=Int.emod_nonneg a (by omega:m≠0);have h5:=Int.emod_lt_of_pos a hm;rcases h3 with h3 | h3
 ·rw [if_neg (by omega),h3]
 ·rw [if_pos (by omega),wk (by omega)];congr 1;omega
end Go.Proofs.YtiegjkmfpcgjjaaGreatDoor
namespace Go.QF
def Ade (n:Nat) (m:Int) (A F:Nat->Nat->Int):Prop:=
  (∀ i j,i < n->j < n->Eqm m (F i j) (psum (fun k=>F i (n + k) * A k j) n))/\
  ∃ S:Nat->Nat->Int,∀ i j,i < n->j < n->Eqm m (comb n (S i) F (n + j)) (dl i j)
theorem AX5 {n:Nat} {m:Int} {A F F':Nat->Nat->Int} (E:AN7 n (n + n) m F F') (H:Ade n m A F):Ade n m A F':=by
 obtain ⟨h1,S,h2⟩:=H;refine ⟨fun i j hi hj=>?_,fun i=>(E.2 (S i)).choose,fun i j hi hj=>((E.2 (S i)).choose_spec (n + j) (by omega)).symm.trans (h2 i j hi hj)⟩;obtain ⟨y,e,_⟩:=E.1 (AVj (fun _=>0) i 1);have e':∀ q,q < n + n->Eqm m (F' i q) (comb n y F q):=fun q hq=>by have:=e q hq;rw [Aic hi] at this;exact this
 refine (e' j (by omega)).trans ?_;have h3:Eqm m (comb n y F j) (psum (fun a=>y a * psum (fun k=>F a (n + k) * A k j) n) n):=Eqm.psum fun a ha=>(Eqm.refl _ _).mul (h1 a j ha hj);refine h3.trans ?_
 have h4:psum (fun a=>y a * psum (fun k=>F a (n + k) * A k j) n) n=psum (fun k=>comb n y F (n + k) * A k j) n:=by
   unfold comb
   rw [ABw (g:=fun a=>psum (fun k=>y a * F a (n + k) * A k j) n) (fun a _=>by rw [<- AD0];exact ABw fun k _=>by rw [Int.mul_assoc]),AMz]
   exact ABw fun k _=>by rw [Int.mul_comm,<- AD0];exact ABw fun a _=>by rw [Int.mul_comm]
 rw [h4];exact Eqm.psum fun k hk=>((e' (n + k) (by omega)).symm).mul (Eqm.refl _ _)
theorem Afm {r c a i:Nat} {q m:Int} {F:Nat->Nat->Int} (ha:a < r) (hi:i < r) (hne:a≠i):AN7 r c m F (ANf F a i q m):=
  (AZd (e:=m - q) ha hi hne).trans (Afb ha hi)
theorem Alq {n:Nat} {m:Int} {A:Nat->Nat->Int}:Ade n m A (AYo n A):=by
 have h0:∀ i k,i < n->k < n->AYo n A i (n + k)=dl i k:=by
   intro i k hi hk
   unfold AYo dl
   rw [if_neg (by omega)]
   by_cases h:i=k
   · subst h;simp
   · rw [if_neg h,if_neg (by omega)]
 refine ⟨fun i j hi hj=>Eqm.of_eq ?_,dl,fun i j hi hj=>Eqm.of_eq ?_⟩
 ·rw [ABw (g:=fun k=>dl i k * A k j) (fun k hk=>by rw [h0 i k hi hk])];rw [AFt hi (fun k hk=>by unfold dl;rw [if_neg (fun h=>hk h.symm)];simp)];simp [dl,AYo,hj]
 ·unfold comb;rw [ABw (g:=fun k=>dl i k * dl k j) (fun k hk=>by rw [h0 k j hk hj])];rw [AFt hi (fun k hk=>by unfold dl;rw [if_neg (fun h=>hk h.symm)];simp)];simp [dl]
theorem Afn {n c:Nat} {m:Int} {F:Nat->Nat->Int} {k:Nat} (hk:k < n) (hu:∃ y,AKk m (F k k) y):AN7 n c m F (AY3 m F k):=by
 obtain ⟨y,hy⟩:=hu;have hinv:=ASl hy;unfold AY3;refine (Acv (g:=F k k) hk ?_).trans (Afc hk k (by omega));exact hinv.2.2
theorem Aiq {n:Nat} {m:Int} {A F:Nat->Nat->Int} (hm:2<=m) (hbd:Bd n (n + n) m F) (hz:Zc n F n) (hu:∀ c,c < n-> ∃ y,AKk m (F c c) y) (H:Ade n m A F):∀ j,j<=n->Ade n m A (AHb m n F j):=by
 intro j
 induction j with
 | zero=>intro _;exact H
 | succ j ih=>
   intro hj
   refine AX5 (Afn (by omega) ?_) (ih (by omega))
   rw [AXd (by omega) hbd (by omega) hz j (by omega) (n - 1 - j) (n - 1 - j) (by omega) (by omega)]
   exact hu _ (by omega)
theorem Aoj {n:Nat} {m:Int} {F:Nat->Nat->Int} (hm:2<=m) (hbd:Bd n (n + n) m F) (hz:Zc n F n) (hu:∀ c,c < n-> ∃ y,AKk m (F c c) y):∀ j,j<=n-> ∀ i c,i < n->n - j<=c->c < n->AHb m n F j i c=dl i c:=by
 intro j
 induction j with
 | zero=>intro _ i c _ h1 h2;omega
 | succ j ih=>
   intro hj i c hi h1 h2
   have hb:=Aac (n:=n) (by omega:0 < m) hbd j
   have hcol:=AXd (m:=m) (by omega) hbd (by omega) hz j (by omega)
   obtain ⟨G,hG⟩:∃ G,AHb m n F j=G:=⟨_,rfl⟩
   obtain ⟨k,hk⟩:∃ k,n - 1 - j=k:=⟨_,rfl⟩
   have hkn:k < n:=by omega
   simp only [AHb,AY3]
   rw [hG,hk]
   rw [hG] at ih hb hcol
   have hkk:G k k=F k k:=hcol k k hkn (by omega)
   obtain ⟨y,hy⟩:=hu k hkn
   have hinv:=ASl hy
   rw [hkk]
   have hrow:∀ q,ALd G k (AW2 m (F k k)) m k q=G k q * AW2 m (F k k) % m:=fun q=>by unfold ALd;rw [AC4]
   have hoth:∀ a,a≠k->ALd G k (AW2 m (F k k)) m a=G a:=fun a ha=>by unfold ALd;rw [AD2 _ _ ha]
   have hone:ALd G k (AW2 m (F k k)) m k k=1:=by rw [hrow,hkk,Int.mul_comm,hinv.2.2,Int.emod_eq_of_lt (by omega) (by omega)]
   have hright:∀ c,k < c->c < n->ALd G k (AW2 m (F k k)) m k c=0:=fun c h3 h4=>by
     rw [hrow,ih (by omega) k c hkn (by omega) h4];unfold dl;rw [if_neg (by omega)];simp
   by_cases hik:i=k
   · subst hik
     rw [AU8]
     by_cases hci:c=i
     · subst hci;rw [hone];simp [dl]
     · rw [hright c (by omega) h2];unfold dl;rw [if_neg (fun h=>hci h.symm)]
   · by_cases hlt:i < k
     · rw [Afd hlt hik,hoth i hik]
       by_cases hck:c=k
       · subst hck
         rw [hone,Int.mul_one,show G i c + (m - G i c)=m by omega,Int.emod_self]
         unfold dl;rw [if_neg hik]
       · rw [hright c (by omega) h2,Int.mul_zero,Int.add_zero,ih (by omega) i c hi (by omega) h2]
         unfold dl;rw [if_neg (by omega)];simp
     · have he:AJ2 (ALd G k (AW2 m (F k k)) m) k k m k i c=G i c:=by
         unfold AJ2;rw [if_neg (by omega),hoth i hik]
       rw [he]
       by_cases hck:c=k
       · subst hck
         rw [hcol i c hi (by omega),hz c i hkn (by omega) hi]
         unfold dl;rw [if_neg hik]
       · exact ih (by omega) i c hi (by omega) h2
theorem Alr {n:Nat} {m:Int} {A F:Nat->Nat->Int} (hm:2<=m) (hbd:Bd n (n + n) m F) (hz:Zc n F n) (hu:∀ c,c < n-> ∃ y,AKk m (F c c) y) (H:Ade n m A F):
    (∀ i j,i < n->j < n->Eqm m (psum (fun k=>AHb m n F n i (n + k) * A k j) n) (dl i j))/\(∀ i j,i < n->j < n->Eqm m (psum (fun k=>A i k * AHb m n F n k (n + j)) n) (dl i j)):=by
  obtain ⟨h1,S,h2⟩:=Aiq hm hbd hz hu H n (Nat.le_refl _);have hid:=Aoj hm hbd hz hu n (Nat.le_refl _);obtain ⟨G,hG⟩:∃ G,AHb m n F n=G:=⟨_,rfl⟩;rw [hG] at h1 h2 hid ⊢
  have hBA:∀ i j,i < n->j < n->Eqm m (psum (fun k=>G i (n + k) * A k j) n) (dl i j):=fun i j hi hj=>by
    have:=h1 i j hi hj;rw [hid i j hi (by omega) hj] at this;exact this.symm
  refine ⟨hBA,fun i j hi hj=>?_⟩
  have hSA:∀ i j,i < n->j < n->Eqm m (S i j) (A i j):=by
    intro i j hi hj
    have e1:S i j=psum (fun k=>S i k * dl k j) n:=by
      rw [AFt hj (fun k hk=>by unfold dl;rw [if_neg hk];simp)];simp [dl]
    have e2:Eqm m (psum (fun k=>S i k * dl k j) n) (psum (fun k=>S i k * psum (fun l=>G k (n + l) * A l j) n) n):=Eqm.psum fun k hk=>(Eqm.refl _ _).mul (hBA k j hk hj).symm
    have e3:psum (fun k=>S i k * psum (fun l=>G k (n + l) * A l j) n) n=psum (fun l=>comb n (S i) G (n + l) * A l j) n:=by
      unfold comb;rw [ABw (g:=fun k=>psum (fun l=>S i k * G k (n + l) * A l j) n) (fun k _=>by rw [<- AD0];exact ABw fun l _=>by rw [Int.mul_assoc]),AMz];exact ABw fun l _=>by rw [Int.mul_comm,<- AD0];exact ABw fun k _=>by rw [Int.mul_comm]
    have e4:Eqm m (psum (fun l=>comb n (S i) G (n + l) * A l j) n) (psum (fun l=>dl i l * A l j) n):=Eqm.psum fun l hl=>(h2 i l hi hl).mul (Eqm.refl _ _)
    have e5:psum (fun l=>dl i l * A l j) n=A i j:=by
      rw [AFt hi (fun k hk=>by unfold dl;rw [if_neg (fun h=>hk h.symm)];simp)];simp [dl]
    rw [e1];exact (e2.trans (Eqm.of_eq e3)).trans (e4.trans (Eqm.of_eq e5))
  refine Eqm.trans (Eqm.psum fun k hk=>(hSA i k hi hk).symm.mul (Eqm.refl _ _)) ?_;exact h2 i j hi hj
theorem Als {n:Nat} {m:Int} {T L:Nat->Nat->Int} (hm:2<=m) (hL:∀ i c,c < i->i < n->L i c=0) (hT:∀ i j,i < n->j < n->Eqm m (psum (fun k=>T i k * L k j) n) (dl i j)):
    ∀ c,c < n->Eqm m (T c c * L c c) 1/\ ∀ i,c < i->i < n->Eqm m (T i c) 0:=by
  intro c;induction c using Nat.strongRecOn with
  | _ c ih=>
    intro hc
    have key:∀ i,c<=i->i < n->Eqm m (T i c * L c c) (dl i c):=by
      intro i h1 h2;refine Eqm.trans ?_ (hT i c h2 hc)
      have e1:Eqm m (psum (fun k=>T i k * L k c) n) (psum (fun k=>if k=c then T i c * L c c else 0) n):=Eqm.psum fun k hk=>by
        by_cases h3:k=c
        · subst h3;rw [if_pos rfl];exact Eqm.refl _ _
        · rw [if_neg h3]
          rcases Nat.lt_or_ge k c with h4 | h4
          · exact (((ih k h4 (by omega)).2 i (by omega) h2).mul (Eqm.refl _ _)).trans (Eqm.of_eq (by simp))
          · rw [hL k c (by omega) hk];exact Eqm.of_eq (by simp)
      refine Eqm.trans (Eqm.of_eq ?_) e1.symm;rw [AFt hc (fun k hk=>if_neg hk),if_pos rfl]
    have hcc:Eqm m (T c c * L c c) 1:=by have:=key c (Nat.le_refl _) hc;simpa [dl] using this
    refine ⟨hcc,fun i h1 h2=>?_⟩;have h3:=key i (by omega) h2;unfold dl at h3;rw [if_neg (by omega)] at h3;have h4:=h3.mul (Eqm.refl m (T c c));refine Eqm.trans ?_ (h4.trans (Eqm.of_eq (by simp)));refine Eqm.trans (Eqm.of_eq (show T i c=T i c * 1 by omega)) (((Eqm.refl m (T i c)).mul hcc.symm).trans (Eqm.of_eq ?_));grind
theorem Alu {n:Nat} {m:Int} {A F V:Nat->Nat->Int} (hm:2<=m) (hz:Zc n F n) (H:Ade n m A F) (hV:∀ i j,i < n->j < n->Eqm m (psum (fun k=>V i k * A k j) n) (dl i j)):∀ c,c < n-> ∃ y,AKk m (F c c) y:=by
  obtain ⟨h1,S,h2⟩:=H
  have hT:∀ i j,i < n->j < n->Eqm m (psum (fun k=>psum (fun a=>V i a * S a k) n * F k j) n) (dl i j):=by
    intro i j hi hj;have e1:Eqm m (psum (fun k=>psum (fun a=>V i a * S a k) n * F k j) n) (psum (fun k=>psum (fun a=>V i a * S a k) n * psum (fun l=>F k (n + l) * A l j) n) n):=Eqm.psum fun k hk=>(Eqm.refl _ _).mul (h1 k j hk hj)
    have e2:psum (fun k=>psum (fun a=>V i a * S a k) n * psum (fun l=>F k (n + l) * A l j) n) n=psum (fun a=>V i a * psum (fun l=>comb n (S a) F (n + l) * A l j) n) n:=by
      have s1:∀ k,psum (fun a=>V i a * S a k) n * psum (fun l=>F k (n + l) * A l j) n=psum (fun a=>V i a * (S a k * psum (fun l=>F k (n + l) * A l j) n)) n:=fun k=>by
        rw [Int.mul_comm,<- AD0];exact ABw fun a _=>by rw [Int.mul_comm,Int.mul_assoc]
      rw [ABw (fun k _=>s1 k),AMz];refine ABw fun a _=>?_;rw [AD0];congr 1;unfold comb;rw [ABw (g:=fun k=>psum (fun l=>S a k * F k (n + l) * A l j) n) (fun k _=>by rw [<- AD0];exact ABw fun l _=>by rw [Int.mul_assoc]),AMz];exact ABw fun l _=>by rw [Int.mul_comm,<- AD0];exact ABw fun k _=>by rw [Int.mul_comm]
    have e3:Eqm m (psum (fun a=>V i a * psum (fun l=>comb n (S a) F (n + l) * A l j) n) n) (psum (fun a=>V i a * A a j) n):=Eqm.psum fun a ha=>by
      refine (Eqm.refl _ _).mul ?_;refine (Eqm.psum (g:=fun l=>dl a l * A l j) fun l hl=>(h2 a l ha hl).mul (Eqm.refl _ _)).trans (Eqm.of_eq ?_);rw [AFt ha (fun k hk=>by unfold dl;rw [if_neg (fun h=>hk h.symm)];simp)];simp [dl]
    exact (e1.trans (Eqm.of_eq e2)).trans (e3.trans (hV i j hi hj))
  intro c hc;have:=(Als hm (fun i c h3 h4=>hz c i (by omega) h3 h4) hT c hc).1;refine ⟨psum (fun a=>V c a * S a c) n % m,Int.emod_nonneg _ (by omega),Int.emod_lt_of_pos _ (by omega),?_⟩;rw [Int.mul_emod,Int.emod_emod,<- Int.mul_emod];exact this
def AUk (n:Nat) (F:Nat->Nat->Int) (i j:Nat):Int:=det n (ADc F i (dl j))
def ALf (n:Nat) (F:Nat->Nat->Int) (i j:Nat):Int:=AUk n F j i
def tau (j c:Nat):Nat:=if c=j then j + 1 else if c=j + 1 then j else c
theorem AX6 {n j:Nat} {F:Nat->Nat->Int} (hj:j + 1 < n):det n (fun r c=>F r (tau j c))= -det n F:=by
 rw [<- AM0 (fun r c=>F r (tau j c)),<- AM0 F,<- AOu (F:=trF F) (a:=j) (b:=j + 1) (by omega) hj (by omega)];refine ADa fun c r hc hr=>?_;rw [AKa];show F r (tau j c)=if c=j + 1 then F r j else if c=j then F r (j + 1) else F r c;unfold tau;by_cases h1:c=j + 1
 ·subst h1;simp
 ·by_cases h2:c=j
  ·subst h2;simp
  ·simp [h1,h2]
theorem AM4 {f:Nat->Int} {n a:Nat} (ha:a < n) (h:∀ i,i < n->i≠a->f i=0):psum f n=f a:=by
 rw [ABw (g:=fun i=>if i=a then f a else 0) (fun k hk=>?_),AFt ha (fun i hi=>if_neg hi),if_pos rfl];by_cases e:k=a
 ·subst e;rw [if_pos rfl]
 ·rw [if_neg e,h k hk e]
theorem AZl {n:Nat}:∀ {j:Nat} {F:Nat->Nat->Int} {i:Nat},i < n + 1->j < n + 1->AUk (n + 1) F i j=sg i * sg j * det n (fun a b=>F (skp i a) (skp j b)):=by
 intro j
 induction j with
 | zero=>
   intro F i hi hj
   unfold AUk
   simp only [det]
   rw [AM4 hi (fun r hrn hr=>?_)]
   · rw [ACr,if_pos rfl,ARn]
     have:det n (AEw i F)=det n (fun a b=>F (skp i a) (skp 0 b)):=ADa fun a b _ _=>by unfold AEw skp;simp
     rw [this]
     simp [dl,sg]
   · have:det n (AEw r (ADc F i (dl 0)))=0:=by
       rw [ARb (fun h=>hr h.symm)]
       refine ARd (r:=usk r i) (Ak3 (fun h=>hr h.symm) hrn hi) fun q _=>?_
       rw [ACr,if_pos rfl];simp [dl]
     rw [this];simp
 | succ j ih=>
   intro F i hi hj
   have h1:=ih (F:=fun r c=>F r (tau j c)) (i:=i) hi (by omega)
   have h2:AUk (n + 1) (fun r c=>F r (tau j c)) i j= -AUk (n + 1) F i (j + 1):=by
     unfold AUk
     rw [<- AX6 (F:=ADc F i (dl (j + 1))) (by omega)]
     refine ADa fun r c _ _=>?_
     rw [ACr,ACr]
     split
     · unfold dl tau
       by_cases h1:c=j
       · subst h1;simp
       · by_cases h2:c=j + 1
         · subst h2;simp
         · rw [if_neg (fun h=>h1 h.symm),if_neg h1,if_neg h2,if_neg (fun h=>h2 h.symm)]
     · rfl
   have h3:(fun a b=>F (skp i a) (tau j (skp j b)))=fun a b=>F (skp i a) (skp (j + 1) b):=by
     funext a b
     congr 1
     unfold tau skp
     by_cases h1:b < j
     · rw [if_pos h1,if_neg (by omega),if_neg (by omega),if_pos (by omega)]
     · rw [if_neg h1]
       by_cases h2:b=j
       · subst h2;rw [if_neg (by omega),if_pos rfl,if_pos (by omega)]
       · rw [if_neg (by omega),if_neg (by omega),if_neg (by omega)]
   rw [h2,h3] at h1
   rw [Agw]
   have:AUk (n + 1) F i (j + 1)= -(sg i * sg j * det n fun a b=>F (skp i a) (skp (j + 1) b)):=by omega
   rw [this];grind
theorem Aq8 {n:Nat} {F:Nat->Nat->Int} {i j:Nat} (hi:i < n) (hj:j < n):AUk n (trF F) i j=AUk n F j i:=by
 obtain ⟨k,rfl⟩:∃ k,n=k + 1:=⟨n - 1,by omega⟩;rw [AZl hi hj,AZl hj hi,<- AM0 (fun a b=>F (skp j a) (skp i b)),Int.mul_comm (sg i)];rfl
theorem Ag3 {n:Nat} {F:Nat->Nat->Int} {i j:Nat} (hi:i < n) (hj:j < n):psum (fun k=>F i k * AUk n F j k) n=if i=j then det n F else 0:=by
 have h:=AXz (F:=F) hj (F i) dl n
 have e:det n (ADc F j fun q=>psum (fun k=>F i k * dl k q) n)=det n (ADc F j (F i)):=ADa fun r c _ hc=>by
   rw [ACr,ACr]
   split
   · exact Aff (F:=F) (i:=i) hc
   · rfl
 unfold AUk;rw [<- h,e];split
 ·subst_vars
  refine ADa fun r c _ _=>?_;rw [ACr];split
  ·subst_vars;rfl
  ·rfl
 ·rename_i hij;refine AL4 hi hj hij ?_;funext c;rw [ACr,if_neg hij,ACr,if_pos rfl]
theorem Aok {n:Nat} {F:Nat->Nat->Int} {i j:Nat} (hi:i < n) (hj:j < n):psum (fun k=>AUk n F k i * F k j) n=if i=j then det n F else 0:=by
 have h:=Ag3 (F:=trF F) hj hi;rw [AM0] at h;rw [ABw (g:=fun k=>trF F j k * AUk n (trF F) i k) (fun k hk=>by rw [Aq8 hi hk,Int.mul_comm];rfl),h];by_cases e:i=j
 ·rw [if_pos e,if_pos e.symm]
 ·rw [if_neg e,if_neg (fun h=>e h.symm)]
theorem AZm {n:Nat} {F:Nat->Nat->Int} {i j:Nat} (hi:i < n) (hj:j < n):psum (fun k=>F i k * ALf n F k j) n=det n F * dl i j:=by
 unfold ALf;rw [Ag3 hi hj];unfold dl;split <;> simp
theorem Alw {n:Nat} {F:Nat->Nat->Int} {i j:Nat} (hi:i < n) (hj:j < n):psum (fun k=>ALf n F i k * F k j) n=det n F * dl i j:=by
 unfold ALf;rw [Aok hi hj];unfold dl;split <;> simp
end Go.QF
namespace Go.Proofs.YtiegjkmfpcgjjaaGreatDoor
open Go Go.QF
theorem Adf {fuel n r c:Nat} {F:Nat->Nat->Int} {f g:Nat->Nat} (hr:r<=100) (hc:c<=100) (hf:100 < fuel) (hfn:∀ a,a < r->f a < n) (hgn:∀ a,a < c->g a < n):AE8 fuel (tab n n F) (ADz r fun a=>(f a:Int)) (ADz c fun a=>(g a:Int))=some (tab r c fun a b=>F (f a) (g b)):=by
 apply ok_eq;unfold AE8;refine ABm (ACy (fun i s=>s=(ADz i fun a=>ADz c fun b=>F (f a) (g b),(i:Int))) r (Q:=(· =tab r c fun a b=>F (f a) (g b))) rfl (by omega) fun i s hi hI=>?_) fun y hy=>ABk hy;subst hI;unfold AIp;dsimp only;rw [ADb];refine ACj (fun h=>?_) (fun h=>ABk ?_)
 ·have hi':i < r:=by omega
  refine AB9 (ACk hi') rfl (ABm (ACy (fun j s=>s=(ADz j fun b=>F (f i) (g b),(j:Int))) c (Q:=(· =ADz c fun b=>F (f i) (g b))) rfl (by omega) fun j s hj hJ=>?_) fun e he=>AEm (by rw [ADb];omega) (ABk ⟨hi',?_⟩))
  ·subst hJ;unfold AIo;dsimp only;rw [ADb,ADb];refine ACj (fun h2=>?_) (fun h2=>ABk ?_)
   ·have hj':j < c:=by omega
    refine AB9 (ACk hj') rfl (AB9 (ADd (hfn i hi')) rfl (AB9 (ACk (hgn j hj')) rfl (AEm (by omega) (ABk ⟨hj',?_⟩))));rw [wk (by omega),<- AMx];rfl
   ·obtain rfl:j=c:=by omega
    rfl
  ·subst he;rw [wk (by omega),<- AMx];rfl
 ·obtain rfl:i=r:=by omega
  rfl
theorem AZn {fuel n:Nat} {F:Nat->Nat->Int} (hn:1<=n) (Ad:n<=16) (hf:100 < fuel):AE7 fuel (tab n n F)=some ((n:Int),true):=by
 apply ok_eq;unfold AE7;refine ABm (Q:=(· =((n:Int),(n:Int),true))) ?_ fun e he=>?_
 ·unfold ADy;rw [AC8];refine ABm (Q:=fun ex=>match ex with | .inl _=>False | .inr _=>True) (ACj (fun h=>by omega) fun h=>ACj (fun h2=>by omega) fun h2=>ABk trivial) fun ex hex=>?_
  cases ex with
  | inl e=>exact hex.elim
  | inr u=>
    dsimp only
    refine ABm (ACy (fun i (s:Int)=>s=i) n (Q:=fun ex=>match ex with | .inl _=>False | .inr _=>True) rfl (by omega) fun i s hi hI=>?_) fun ex hex=>?_
    · subst hI
      unfold AGt
      rw [AC8]
      refine ACj (fun h=>AB9 (ADd (by omega)) rfl ?_) fun h=>ABk trivial
      rw [ADb]
      refine ACj (fun h2=>by omega) fun h2=>ACj (fun h3=>by omega) fun h3=>AB9 (n:=0) (ADd (by omega)) rfl (ACj (fun h4=>?_) fun h4=>ABk ⟨by omega,wk (by omega)⟩)
      rw [ADb] at h4;omega
    · cases ex with
      | inl e=>exact hex.elim
      | inr u=>exact AB9 (n:=0) (ADd (by omega)) rfl (ABk (by rw [ADb]))
 ·subst he;dsimp only;exact ACj (fun h=>by cases h) fun _=>ACj (fun h=>absurd rfl h) fun _=>ABk rfl
end Go.Proofs.YtiegjkmfpcgjjaaGreatDoor
namespace Go.QF
def AJ5 (n:Nat) (A:Nat->Nat->Int):Prop:= ∀ i j,i < n->j < n->A i j=A j i
def ALm (n:Nat) (A:Nat->Nat->Int):Prop:= ∀ k,k<=n->0 < det k A
theorem AMh {k i r n:Nat} (hk:k<=n) (hi:i < n):bro k i r < n:=by unfold bro;split <;> omega
theorem Afo {n k:Nat} {A:Nat->Nat->Int} (hs:AJ5 n A) (hk:k<=n) {i j:Nat} (hi:i < n) (hj:j < n):Mn k A i j=Mn k A j i:=by
 unfold Mn;rw [<- AM0];refine ADa fun r c _ _=>?_;exact hs _ _ (AMh hk hi) (AMh hk hj)
theorem Afp {k:Nat} (A:Nat->Nat->Int) {i:Nat} (j:Nat) (hi:i < k):Mn k A i j=0:=by
 unfold Mn;refine AL4 (a:=i) (b:=k) (by omega) (by omega) (by omega) ?_;funext c;unfold bro;simp [hi]
def bil (n k:Nat) (A:Nat->Nat->Int) (x y:Nat->Int):Int:=psum (fun i=>psum (fun j=>Mn k A i j * x i * y j) n) n
def lin (n k:Nat) (A:Nat->Nat->Int) (x:Nat->Int):Int:=psum (fun j=>Mn k A k j * x j) n
theorem Air (f g:Nat->Int) (n:Nat):psum (fun i=>psum (fun j=>f i * g j) n) n=psum f n * psum g n:=by
 rw [ABw (g:=fun i=>psum g n * f i) (fun i _=>by rw [AD0,Int.mul_comm]),AD0,Int.mul_comm]
theorem Atf {n k:Nat} {A:Nat->Nat->Int} (hs:AJ5 n A) (hk:k < n) (h0:det k A≠0) (x y:Nat->Int):det (k + 1) A * bil n k A x y=lin n k A x * lin n k A y + det k A * bil n (k + 1) A x y:=by
 unfold bil;rw [<- AD0,<- AD0];have e1:lin n k A x * lin n k A y=psum (fun i=>psum (fun j=>Mn k A k i * x i * (Mn k A k j * y j)) n) n:=(Air (fun i=>Mn k A k i * x i) (fun j=>Mn k A k j * y j) n).symm;rw [e1,<- ALl];refine ABw fun i hi=>?_;rw [<- AD0,<- AD0,<- ALl];refine ABw fun j hj=>?_;have h:=AWk (k:=k) (A:=A) h0 i j;rw [AK3,Afo hs (by omega) hi hk] at h;have h2:det (k + 1) A * Mn k A i j=Mn k A k i * Mn k A k j + det k A * Mn (k + 1) A i j:=by omega
 grind
theorem Aol (n:Nat) (A:Nat->Nat->Int) (x y:Nat->Int):bil n n A x y=0:=by
 unfold bil;rw [ABw (g:=fun _=>0) fun i hi=>?_]
 ·exact AOg n
 ·rw [ABw (g:=fun _=>0) fun j _=>by rw [Afp A j hi];simp];exact AOg n
theorem AOw {n:Nat} {A:Nat->Nat->Int} (hs:AJ5 n A) (hp:ALm n A) (x:Nat->Int):∀ d k,k + d=n->0<=bil n k A x x:=by
 intro d
 induction d with
 | zero=>
     intro k hk;obtain rfl:k=n:=by omega
     rw [Aol];exact Int.le_refl _
 | succ d ih=>
   intro k hk
   have h1:=ih (k + 1) (by omega)
   have h2:=hp k (by omega)
   have h3:=hp (k + 1) (by omega)
   have h4:=Atf hs (show k < n by omega) (by omega) x x
   have h5:0<=lin n k A x * lin n k A x:=by
     rcases Int.le_total 0 (lin n k A x) with h | h
     · exact Int.mul_nonneg h h
     · exact Int.mul_nonneg_of_nonpos_of_nonpos h h
   have h6:=Int.mul_nonneg (Int.le_of_lt h2) h1
   exact Int.nonneg_of_mul_nonneg_right (by omega) h3
theorem Aa7 {n k:Nat} {A:Nat->Nat->Int} (a b:Int) (x y z:Nat->Int):bil n k A (fun i=>a * x i + b * y i) z=a * bil n k A x z + b * bil n k A y z:=by
 unfold bil;rw [<- AD0,<- AD0,<- ALl];refine ABw fun i _=>?_;rw [<- AD0,<- AD0,<- ALl];exact ABw fun j _=>by grind
theorem Aa8 {n k:Nat} {A:Nat->Nat->Int} (hs:AJ5 n A) (hk:k<=n) (x y:Nat->Int):bil n k A x y=bil n k A y x:=by
 unfold bil;rw [AMz];refine ABw fun j hj=>ABw fun i hi=>?_;rw [Afo hs hk hi hj];grind
theorem Alx {n k:Nat} {A:Nat->Nat->Int} (hs:AJ5 n A) (hp:ALm n A) (hk:k<=n) (x y:Nat->Int):bil n k A x y * bil n k A x y<=bil n k A x x * bil n k A y y:=by
  obtain ⟨p,hpq⟩:∃ p,bil n k A x y=p:=⟨_,rfl⟩;obtain ⟨q,hq⟩:∃ q,bil n k A x x=q:=⟨_,rfl⟩;obtain ⟨r,hr⟩:∃ r,bil n k A y y=r:=⟨_,rfl⟩;have hyx:bil n k A y x=p:=by rw [Aa8 hs hk];exact hpq
  have key:∀ a b:Int,0<=a * (a * q + b * p) + b * (a * p + b * r):=fun a b=>by
    have h:=AOw hs hp (fun i=>a * x i + b * y i) (n - k) k (by omega);rw [Aa7,Aa8 hs hk x (fun i=>a * x i + b * y i),Aa7,Aa8 hs hk y (fun i=>a * x i + b * y i),Aa7,hpq,hq,hr,hyx] at h;exact h
  rw [hpq,hq,hr];have hq0:0<=q:=hq ▸ AOw hs hp x (n - k) k (by omega)
  rcases Int.lt_or_eq_of_le hq0 with h | h
  · have h1:=key p (-q);have e:p * (p * q + -q * p) + -q * (p * p + -q * r)=q * (q * r - p * p):=by grind
    rw [e] at h1;have:=Int.nonneg_of_mul_nonneg_right h1 h;omega
  · subst h;have h1:=key (-(r + 1)) p;have h2:=key 1 0;have e: -(r + 1) * (-(r + 1) * 0 + p * p) + p * (-(r + 1) * p + p * r)= -((r + 2) * (p * p)):=by grind
    rw [e] at h1;have hr0:0<=r:=hr ▸ AOw hs hp y (n - k) k (by omega)
    have hpp:0<=p * p:=by
      rcases Int.le_total 0 p with h | h
      · exact Int.mul_nonneg h h
      · exact Int.mul_nonneg_of_nonpos_of_nonpos h h
    have:0<=r * (p * p):=Int.mul_nonneg hr0 hpp;have e2:(r + 2) * (p * p)=r * (p * p) + 2 * (p * p):=by grind
    rw [Int.zero_mul];omega
theorem AUl {n k:Nat} {A:Nat->Nat->Int} {i j:Nat} (hi:i < n) (hj:j < n):bil n k A (dl i) (dl j)=Mn k A i j:=by
 unfold bil;rw [AM4 hi (fun a ha hne=>?_),AM4 hj (fun b hb hne=>?_)]
 ·simp [dl]
 ·unfold dl;rw [if_neg (fun h:j=b=>hne h.symm)];simp
 ·rw [ABw (g:=fun _=>0) fun b _=>by unfold dl;rw [if_neg (fun h:i=a=>hne h.symm)];simp];exact AOg n
theorem AZo {n k:Nat} {A:Nat->Nat->Int} (hs:AJ5 n A) (hp:ALm n A) (hk:k<=n) {i j:Nat} (hi:i < n) (hj:j < n):Mn k A i j * Mn k A i j<=Mn k A i i * Mn k A j j:=by
 have:=Alx hs hp hk (dl i) (dl j);rwa [AUl hi hj,AUl hi hi,AUl hj hj] at this
theorem AZp {n k:Nat} {A:Nat->Nat->Int} (hs:AJ5 n A) (hp:ALm n A) (hk:k<=n) {i:Nat} (hi:i < n):0<=Mn k A i i:=by
 have:=AOw hs hp (dl i) (n - k) k (by omega);rwa [AUl hi hi] at this
theorem Aa9 {n k:Nat} {A:Nat->Nat->Int} (hs:AJ5 n A) (hp:ALm n A) (hk:k < n) {i:Nat} (hi:i < n):det (k + 1) A * Mn k A i i=Mn k A i k * Mn k A i k + det k A * Mn (k + 1) A i i:=by
 have h:=AWk (k:=k) (A:=A) (by have:=hp k (by omega);omega) i i;rw [AK3,<- Afo hs (by omega) hi hk] at h;omega
theorem Ap3 {n:Nat} {A:Nat->Nat->Int} (hs:AJ5 n A) (hp:ALm n A) {i:Nat} (hi:i < n):∀ k,k<=n->Mn k A i i<=det k A * A i i:=by
 intro k
 induction k with
 | zero=>intro _;rw [ANb];simp [det]
 | succ k ih=>
   intro hk
   have h1:=ih (by omega)
   have h2:=Aa9 hs hp (show k < n by omega) hi
   have h3:0<=Mn k A i k * Mn k A i k:=by
     rcases Int.le_total 0 (Mn k A i k) with h | h
     · exact Int.mul_nonneg h h
     · exact Int.mul_nonneg_of_nonpos_of_nonpos h h
   have h4:=hp k (by omega)
   have h5:=hp (k + 1) (by omega)
   have h6:det (k + 1) A * Mn k A i i<=det (k + 1) A * (det k A * A i i):=Int.mul_le_mul_of_nonneg_left h1 (by omega)
   have h7:det k A * Mn (k + 1) A i i<=det k A * (det (k + 1) A * A i i):=by
     have e:det (k + 1) A * (det k A * A i i)=det k A * (det (k + 1) A * A i i):=by grind
     omega
   exact Int.le_of_mul_le_mul_left h7 h4
theorem Aly {n:Nat} {A:Nat->Nat->Int} (hs:AJ5 n A) (hp:ALm n A) {B:Int} (hB:1<=B) (hA:∀ i,i < n->A i i<=B):∀ k,k<=n->det k A<=B ^ k:=by
  intro k;induction k with
  | zero=>intro _;simp [det]
  | succ k ih=>
    intro hk;have h1:=ih (by omega);have h2:=Ap3 hs hp (show k < n by omega) k (by omega);rw [AK3] at h2;have h3:=hp k (by omega);have h4:det k A * A k k<=det k A * B:=Int.mul_le_mul_of_nonneg_left (hA k (by omega)) (by omega);have h5:det k A * B<=B ^ k * B:=Int.mul_le_mul_of_nonneg_right h1 (by omega);rw [Int.pow_succ];omega
theorem Aom {n:Nat} {A:Nat->Nat->Int} (hs:AJ5 n A) (hp:ALm n A) (x:Nat->Int) {k:Nat} (hk:k < n):x k * x k<=ALf n A k k * bil n 0 A x x:=by
  have hd:=hp n (Nat.le_refl _)
  have hB:∀ y z:Nat->Int,bil n 0 A y z=psum (fun i=>y i * psum (fun j=>A i j * z j) n) n:=fun y z=>by
    unfold bil;refine ABw fun i _=>?_;rw [<- AD0];exact ABw fun j _=>by rw [ANb];grind
  have h1:∀ y:Nat->Int,bil n 0 A y (fun j=>ALf n A j k)=det n A * y k:=fun y=>by
    rw [hB,ABw (g:=fun i=>y i * (det n A * dl i k)) (fun i hi=>by rw [AZm hi hk])];rw [AM4 hk (fun i _ hne=>by unfold dl;rw [if_neg hne];simp)];simp [dl,Int.mul_comm]
  have h2:=Alx hs hp (Nat.zero_le n) x (fun j=>ALf n A j k);rw [h1 x,h1 (fun j=>ALf n A j k)] at h2;have e1:det n A * x k * (det n A * x k)=det n A * (det n A * (x k * x k)):=by grind
  have e2:bil n 0 A x x * (det n A * ALf n A k k)=det n A * (ALf n A k k * bil n 0 A x x):=by grind
  rw [e1,e2] at h2;have h3:=Int.le_of_mul_le_mul_left h2 hd
  have h4:0<=x k * x k:=by
    rcases Int.le_total 0 (x k) with h | h
    · exact Int.mul_nonneg h h
    · exact Int.mul_nonneg_of_nonpos_of_nonpos h h
  have h5:1 * (x k * x k)<=det n A * (x k * x k):=Int.mul_le_mul_of_nonneg_right (by omega) h4;omega
def AVo (A:Nat->Nat->Int) (i j:Nat) (c:Int):Nat->Nat->Int:=ADc A i fun s=>A i s + c * A j s
def Alz (A:Nat->Nat->Int) (i j:Nat) (c:Int):Nat->Nat->Int:=trF (AVo (trF A) i j c)
def AUm (A:Nat->Nat->Int) (i j:Nat) (c:Int):Nat->Nat->Int:=Alz (AVo A i j c) i j c
def swA (A:Nat->Nat->Int) (j:Nat):Nat->Nat->Int:=fun r s=>A (tau j r) (tau j s)
theorem Al1 (l:Nat) (A:Nat->Nat->Int) (r s:Nat):Mn l (trF A) s r=Mn l A r s:=by
 unfold Mn;rw [<- AM0];rfl
theorem Adg {A:Nat->Nat->Int} {i j k:Nat} {c:Int} (hij:j < i):det k (AVo A i j c)=det k A:=by
 rcases Nat.lt_or_ge i k with h | h
 ·exact AKw h (by omega) (by omega) c
 ·refine ADa fun r s hr _=>?_;unfold AVo;rw [ACr,if_neg (by omega)]
theorem Al2 {A:Nat->Nat->Int} {i j k:Nat} {c:Int} (hij:j < i):det k (Alz A i j c)=det k A:=by
 unfold Alz;rw [AM0,Adg hij,AM0]
theorem ANc {A:Nat->Nat->Int} {i j k:Nat} {c:Int} (hij:j < i):det k (AUm A i j c)=det k A:=by
 unfold AUm;rw [Al2 hij,Adg hij]
theorem Aba {A:Nat->Nat->Int} {i j l r s:Nat} {c:Int} (hij:j < i) (hr:l<=r):Mn l (AVo A i j c) r s=Mn l A r s + if l<=i/\r=i then c * Mn l A j s else 0:=by
 rcases Nat.lt_or_ge i l with h | h
 ·rw [if_neg (by omega),Int.add_zero];unfold Mn;have e:=AKw (n:=l + 1) (F:=fun a b=>A (bro l r a) (bro l s b)) (a:=i) (b:=j) (by omega) (by omega) (by omega) c;rw [<- e];refine ADa fun a b ha _=>?_;rw [ACr];unfold AVo;rw [ACr];have hbi:bro l r i=i:=by unfold bro;rw [if_pos h]
  have hbj:bro l r j=j:=by unfold bro;rw [if_pos (by omega)]
  by_cases ea:a=i
  ·subst ea;rw [hbi,if_pos rfl,if_pos rfl,hbj]
  ·rw [if_neg ea,if_neg];unfold bro;split <;> omega
 ·by_cases er:r=i
  ·subst er;rw [if_pos ⟨h,rfl⟩];unfold Mn;have e:=ARc (n:=l + 1) (F:=fun a b=>A (bro l r a) (bro l s b)) (r:=l) (fun b=>A r (bro l s b)) (fun b=>A j (bro l s b)) 1 c (by omega)
   have e1:det (l + 1) (fun a b=>AVo A r j c (bro l r a) (bro l s b))=det (l + 1) (ADc (fun a b=>A (bro l r a) (bro l s b)) l fun q=>1 * A r (bro l s q) + c * A j (bro l s q)):=by
     refine ADa fun a b ha _=>?_
     rw [ACr]
     unfold AVo
     rw [ACr]
     by_cases ea:a=l
     · subst ea
       rw [show bro a r a=r by unfold bro;rw [if_neg (by omega)],if_pos rfl,if_pos rfl,Int.one_mul]
     · rw [if_neg ea,if_neg]
       unfold bro;rw [if_pos (by omega)];omega
   have e2:det (l + 1) (ADc (fun a b=>A (bro l r a) (bro l s b)) l fun b=>A r (bro l s b))=det (l + 1) (fun a b=>A (bro l r a) (bro l s b)):=by
     refine ADa fun a b ha _=>?_
     rw [ACr]
     by_cases ea:a=l
     · subst ea;rw [if_pos rfl,show bro a r a=r by unfold bro;rw [if_neg (by omega)]]
     · rw [if_neg ea]
   have e3:det (l + 1) (ADc (fun a b=>A (bro l r a) (bro l s b)) l fun b=>A j (bro l s b))=det (l + 1) (fun a b=>A (bro l j a) (bro l s b)):=by
     refine ADa fun a b ha _=>?_
     rw [ACr]
     by_cases ea:a=l
     · subst ea;rw [if_pos rfl,show bro a j a=j by unfold bro;rw [if_neg (by omega)]]
     · rw [if_neg ea,show bro l r a=a by unfold bro;rw [if_pos (by omega)],show bro l j a=a by unfold bro;rw [if_pos (by omega)]]
   rw [e1,e,e2,e3,Int.one_mul]
  ·rw [if_neg (fun h=>er h.2),Int.add_zero];unfold Mn;refine ADa fun a b ha _=>?_;unfold AVo;rw [ACr,if_neg];unfold bro;split <;> omega
theorem Aon {A:Nat->Nat->Int} {i j l r s:Nat} {c:Int} (hij:j < i) (hs:l<=s):Mn l (Alz A i j c) r s=Mn l A r s + if l<=i/\s=i then c * Mn l A r j else 0:=by
 unfold Alz;rw [Al1,Aba hij hs,Al1,Al1]
theorem Al3 {A:Nat->Nat->Int} {i j l r s:Nat} {c:Int} (hij:j < i) (hr:l<=r) (hs:l<=s):Mn l (AUm A i j c) r s=Mn l A r s + (if l<=i/\r=i then c * Mn l A j s else 0) + if l<=i/\s=i then c * (Mn l A r j + if l<=i/\r=i then c * Mn l A j j else 0) else 0:=by
  unfold AUm;rw [Aon hij hs,Aba hij hr,Aba hij hr]
theorem AWq (A:Nat->Nat->Int) (i j:Nat) (c:Int) (r s:Nat):AUm A i j c r s=if s=i then (if r=i then A i i + c * A j i else A r i) + c * (if r=i then A i j + c * A j j else A r j) else if r=i then A i s + c * A j s else A r s:=by
 show ADc (trF (AVo A i j c)) i (fun q=>trF (AVo A i j c) i q + c * trF (AVo A i j c) j q) s r=_;rw [ACr];unfold trF AVo;by_cases h:s=i
 ·rw [if_pos h,if_pos h,ACr,ACr]
 ·rw [if_neg h,if_neg h,ACr]
theorem Aoo {n:Nat} {A:Nat->Nat->Int} {i j:Nat} {c:Int} (hi:i < n) (hj:j < n) (h:AJ5 n A):AJ5 n (AUm A i j c):=by
 intro r s hr hs;rw [AWq,AWq];by_cases h1:r=i
 ·by_cases h2:s=i
  ·rw [h1,h2]
  ·rw [if_neg h2,if_pos h1,if_pos h1,if_neg h2,if_neg h2,h i s hi hs,h j s hj hs]
 ·by_cases h2:s=i
  ·rw [if_pos h2,if_neg h1,if_neg h1,if_neg h1,if_pos h2,h r i hr hi,h r j hr hj]
  ·rw [if_neg h2,if_neg h1,if_neg h1,if_neg h2,h r s hr hs]
theorem Ag4 {A:Nat->Nat->Int} {j k:Nat} (hk:k≠j + 1):det k (swA A j)=det k A:=by
 rcases Nat.lt_or_ge (j + 1) k with h | h
 ·have e1:det k (swA A j)= -det k (fun r s=>A (tau j r) s):=AX6 (F:=fun r s=>A (tau j r) s) h
  have e2:det k (fun r s=>A (tau j r) s)= -det k A:=by
    rw [<- AM0 (fun r s=>A (tau j r) s),<- AM0 A]
    exact AX6 (F:=trF A) h
  rw [e1,e2];omega
 ·refine ADa fun r s hr hs=>?_;unfold swA tau;rw [if_neg (by omega),if_neg (by omega),if_neg (by omega),if_neg (by omega)]
theorem Adh {A:Nat->Nat->Int} {j:Nat}:det (j + 1) (swA A j)=Mn j A (j + 1) (j + 1):=by
 unfold Mn;refine ADa fun r s hr hs=>?_
 have e:∀ r,r < j + 1->tau j r=bro j (j + 1) r:=fun r hr=>by
   unfold tau bro
   by_cases h:r < j
   · rw [if_neg (by omega),if_neg (by omega),if_pos h]
   · rw [if_pos (by omega),if_neg h]
 unfold swA;rw [e r hr,e s hs]
theorem Ara {n j:Nat} {A:Nat->Nat->Int} (hj:j + 1 < n) (h:AJ5 n A):AJ5 n (swA A j):=fun r s hr hs=>by
  have e:∀ r,r < n->tau j r < n:=fun r hr=>by unfold tau;split <;> (try split) <;> omega
  exact h _ _ (e r hr) (e s hs)
theorem sq_nonneg (x:Int):0<=x * x:=by
 rcases Int.le_total 0 x with h | h
 ·exact Int.mul_nonneg h h
 ·exact Int.mul_nonneg_of_nonpos_of_nonpos h h
theorem Ag5 {x y:Int} (hy:0<=y) (h:x * x<=y * y): -y<=x/\x<=y:=by
 constructor
 ·rcases Int.lt_or_le x (-y) with h1 | h1
  ·have h2:0 < (-x - y) * (-x + y):=Int.mul_pos (by omega) (by omega);have e:(-x - y) * (-x + y)=x * x - y * y:=by grind
   omega
  ·exact h1
 ·rcases Int.lt_or_le y x with h1 | h1
  ·have h2:0 < (x - y) * (x + y):=Int.mul_pos (by omega) (by omega);have e:(x - y) * (x + y)=x * x - y * y:=by grind
   omega
  ·exact h1
theorem ASe {x y:Int} (h1: -y<=x) (h2:x<=y):x * x<=y * y:=by
 have h3:0<=(y - x) * (y + x):=Int.mul_nonneg (by omega) (by omega);have e:(y - x) * (y + x)=y * y - x * x:=by grind
 omega
def SzF (A:Nat->Nat->Int) (i j:Nat):Prop:= -(det (j + 1) A)<=2 * Mn j A i j/\2 * Mn j A i j<=det (j + 1) A
def LvF (A:Nat->Nat->Int) (j:Nat):Prop:=3 * (det (j + 1) A * det (j + 1) A)<=4 * (det j A * det (j + 2) A + Mn j A (j + 1) j * Mn j A (j + 1) j)
def Afq (A:Nat->Nat->Int) (i:Nat) (K:Int):Prop:= ∀ l,l < i-> -(K * det (l + 1) A)<=Mn l A i l/\Mn l A i l<=K * det (l + 1) A
theorem AZq {n i:Nat} {A:Nat->Nat->Int} {Dm p q:Int} (hs:AJ5 n A) (hp:ALm n A) (hi:i < n) (hD:∀ k,k<=n->det k A<=Dm) (p0:0<=p) (q0:0<=q) (hl:∀ l,l < i->q * (Mn l A i l * Mn l A i l)<=p * (det (l + 1) A * det (l + 1) A)):∀ d l:Nat,l + d=i->q * Mn l A i i<=(q + d * p) * (Dm * det l A):=by
  have hD0:1<=Dm:=by
    have:=hD 0 (by omega);simpa [det] using this
  have hDl:∀ l k,l<=n->k<=n->det k A<=Dm * det l A:=fun l k h1 h2=>by
    have:=hp l h1;have h3:=hD k h2;have h4:Dm * 1<=Dm * det l A:=Int.mul_le_mul_of_nonneg_left (by omega) (by omega);omega
  intro d;induction d with
  | zero=>
    intro l h;obtain rfl:l=i:=by omega
    rw [AK3];have h1:=Int.mul_le_mul_of_nonneg_left (hDl l (l + 1) (by omega) (by omega)) q0;simpa using h1
  | succ d ih=>
    intro l h;have h1:=ih (l + 1) (by omega);have h2:=Aa9 hs hp (show l < n by omega) hi;have h3:=hl l (by omega);have h4:=hp l (by omega);have h5:=hp (l + 1) (by omega);have h6:=Int.mul_le_mul_of_nonneg_left h1 (Int.le_of_lt h4)
    have h7:det (l + 1) A * (q * Mn l A i i)=q * (Mn l A i l * Mn l A i l) + det l A * (q * Mn (l + 1) A i i):=by
      have e1:det (l + 1) A * (q * Mn l A i i)=q * (det (l + 1) A * Mn l A i i):=by grind
      rw [e1,h2];grind
    have h8:=Int.mul_le_mul_of_nonneg_left (hDl l (l + 1) (by omega) (by omega)) p0;have h9:=Int.mul_le_mul_of_nonneg_left h8 (Int.le_of_lt h5);have e2:det (l + 1) A * (p * det (l + 1) A)=p * (det (l + 1) A * det (l + 1) A):=by grind
    have h10:det (l + 1) A * (q * Mn l A i i)<=det (l + 1) A * ((q + ((d + 1:Nat):Int) * p) * (Dm * det l A)):=by
      have e3:det (l + 1) A * ((q + ((d + 1:Nat):Int) * p) * (Dm * det l A))=det (l + 1) A * (p * (Dm * det l A)) + det l A * ((q + (d:Int) * p) * (Dm * det (l + 1) A)):=by
        rw [Int.natCast_add,Int.natCast_one];grind
      rw [e3];omega
    exact Int.le_of_mul_le_mul_left h10 h5
theorem Adj {n i:Nat} {A:Nat->Nat->Int} {Dm:Int} (hn:n<=8) (hs:AJ5 n A) (hp:ALm n A) (hi:i < n) (hD:∀ k,k<=n->det k A<=Dm) (hz:∀ l,l < i->SzF A i l):A i i<=3 * Dm:=by
 have h:=AZq hs hp hi hD (p:=1) (q:=4) (by omega) (by omega) (fun l hl=>by
   have:=ASe (hz l hl).1 (hz l hl).2
   have e:2 * Mn l A i l * (2 * Mn l A i l)=4 * (Mn l A i l * Mn l A i l):=by grind
   omega) i 0 (by omega)
 rw [ANb] at h
 have Aa:1<=Dm:=by
   have:=hD 0 (by omega);simpa [det] using this
 have h2:(4 + (i:Int) * 1) * (Dm * det 0 A)<=12 * Dm:=by
   have:(4 + (i:Int) * 1) * Dm<=12 * Dm:=Int.mul_le_mul_of_nonneg_right (by omega) (by omega)
   simpa [det] using this
 omega
theorem Ais {n i:Nat} {A:Nat->Nat->Int} {Dm:Int} (hs:AJ5 n A) (hp:ALm n A) (hi:i < n) (hD:∀ k,k<=n->det k A<=Dm) (hA:A i i<=3 * Dm):Afq A i (2 * Dm):=by
 intro l hl
 have Ad:1<=Dm:=by
   have:=hD 0 (by omega);simpa [det] using this
 have h1:=AZo hs hp (show l<=n by omega) hi (show l < n by omega);rw [AK3] at h1;have h2:=Ap3 hs hp hi l (by omega);have h3:=hp l (by omega);have h4:=hp (l + 1) (by omega)
 have h5:det l A * A i i<=Dm * (3 * Dm):=by
   have a1:=Int.mul_le_mul_of_nonneg_left hA (Int.le_of_lt h3)
   have a2:=Int.mul_le_mul_of_nonneg_right (hD l (by omega)) (show (0:Int)<=3 * Dm by omega)
   omega
 have h6:Mn l A i i * det (l + 1) A<=Dm * (3 * Dm) * det (l + 1) A:=Int.mul_le_mul_of_nonneg_right (by omega) (by omega);have h7:Dm * (3 * Dm) * (det (l + 1) A * 1)<=Dm * (3 * Dm) * (det (l + 1) A * det (l + 1) A):=Int.mul_le_mul_of_nonneg_left (Int.mul_le_mul_of_nonneg_left (by omega) (by omega)) (Int.mul_nonneg (by omega) (by omega));have h8:0<=Dm * Dm * (det (l + 1) A * det (l + 1) A):=Int.mul_nonneg (sq_nonneg _) (sq_nonneg _);have h9:2 * Dm * det (l + 1) A * (2 * Dm * det (l + 1) A)=Dm * (3 * Dm) * (det (l + 1) A * det (l + 1) A) + Dm * Dm * (det (l + 1) A * det (l + 1) A):=by grind
 rw [Int.mul_one] at h7;exact Ag5 (Int.mul_nonneg (by omega) (by omega)) (by omega)
theorem Adk {A:Nat->Nat->Int} {i:Nat} {K K':Int} (hp:∀ l,l<=i->0 < det l A) (hK:K<=K') (h:Afq A i K):Afq A i K':=fun l hl=>by
  have h1:=h l hl
  have h2:=hp (l + 1) (by omega)
  have h3:=Int.mul_le_mul_of_nonneg_right hK (Int.le_of_lt h2)
  omega
theorem Adl {a d:Int} (hd:0 < d): -d<=2 * (a + -((2 * a + d) / (2 * d)) * d)/\2 * (a + -((2 * a + d) / (2 * d)) * d)<=d:=by
  have h1:=Int.mul_ediv_add_emod (2 * a + d) (2 * d);have h2:=Int.emod_nonneg (2 * a + d) (show 2 * d≠0 by omega);have h3:=Int.emod_lt_of_pos (2 * a + d) (show 0 < 2 * d by omega);generalize (2 * a + d) / (2 * d)=q at *
  generalize (2 * a + d) % (2 * d)=r at *
  have e:2 * (a + -q * d)=2 * a - 2 * d * q:=by grind
  omega
theorem Aop {a d K:Int} (hd:0 < d) (h1: -(K * d)<=a) (h2:a<=K * d): -K<= -((2 * a + d) / (2 * d))/\ -((2 * a + d) / (2 * d))<=K:=by
 have h:=Adl (a:=a) hd;generalize -((2 * a + d) / (2 * d))=c at *;constructor
 ·rcases Int.lt_or_le c (-K) with h3 | h3
  ·have h4:(c + K + 1) * d<=0:=by
     have:=Int.mul_nonneg (show 0<= -(c + K + 1) by omega) (Int.le_of_lt hd)
     have e: -(c + K + 1) * d= -((c + K + 1) * d):=by grind
     omega
   have e:(c + K + 1) * d=c * d + K * d + d:=by grind
   omega
  ·exact h3
 ·rcases Int.lt_or_le K c with h3 | h3
  ·have h4:=Int.mul_nonneg (show 0<=c - K - 1 by omega) (Int.le_of_lt hd);have e:(c - K - 1) * d=c * d - K * d - d:=by grind
   omega
  ·exact h3
theorem Ag6 {A:Nat->Nat->Int} {i j l:Nat} {c:Int} (hij:j < i) (hl:l < i):Mn l (AUm A i j c) i l=Mn l A i l + c * Mn l A j l:=by
 rw [Al3 hij (by omega) (Nat.le_refl _),if_pos ⟨by omega,rfl⟩,if_neg (fun h:l<=i/\l=i=>by omega)];omega
theorem AZr {A:Nat->Nat->Int} {i j l r:Nat} {c:Int} (hij:j < i) (hr:r < i) (hl:l<=r):Mn l (AUm A i j c) r l=Mn l A r l:=by
 rw [Al3 hij hl (Nat.le_refl _),if_neg (fun h:l<=i/\r=i=>by omega),if_neg (fun h:l<=i/\l=i=>by omega)];omega
theorem Al4 {A:Nat->Nat->Int} {i j:Nat} {K c:Int} (hij:j < i) (hp:∀ l,l<=i->0 < det l A) (hK:0<=K) (h:Afq A i K) (hz:∀ l,l < j->SzF A j l) (Ab: -K<=c) (Ac:c<=K):Afq (AUm A i j c) i (2 * K):=by
 intro l hl;rw [ANc hij,Ag6 hij hl];have h1:=h l hl;have h2:=hp (l + 1) (by omega)
 have hm: -(det (l + 1) A)<=Mn l A j l/\Mn l A j l<=det (l + 1) A:=by
   rcases Nat.lt_trichotomy l j with h3 | h3 | h3
   · have:=hz l h3;unfold SzF at this;omega
   · subst h3;rw [AK3];omega
   · rw [Afp A l h3];omega
 have h3: -(K * det (l + 1) A)<=c * Mn l A j l/\c * Mn l A j l<=K * det (l + 1) A:=by
   refine Ag5 (Int.mul_nonneg hK (Int.le_of_lt h2)) ?_
   have a1:=ASe Ab Ac
   have a2:=ASe hm.1 hm.2
   have a3:c * c * (Mn l A j l * Mn l A j l)<=K * K * (det (l + 1) A * det (l + 1) A):=Int.mul_le_mul a1 a2 (sq_nonneg _) (sq_nonneg _)
   have e1:c * Mn l A j l * (c * Mn l A j l)=c * c * (Mn l A j l * Mn l A j l):=by grind
   have e2:K * det (l + 1) A * (K * det (l + 1) A)=K * K * (det (l + 1) A * det (l + 1) A):=by grind
   omega
 have e:2 * K * det (l + 1) A=K * det (l + 1) A + K * det (l + 1) A:=by grind
 omega
theorem Al5 {A:Nat->Nat->Int} {i j k:Nat} {c:Int} (hk:k≠i):AUm A i j c k k=A k k:=by
 rw [AWq,if_neg hk,if_neg hk]
structure Abb (n:Nat) (Dm:Int) (A:Nat->Nat->Int) (i t:Nat):Prop where
  sym:AJ5 n A
  pos:ALm n A
  dm:∀ k,k<=n->det k A<=Dm
  hi:i < n
  ht:t<=i
  rows:∀ k,k < n->k≠i->A k k<=3 * Dm
  row:t=0->A i i<=3 * Dm
  lamb:Afq A i (2 ^ t * (2 * Dm))
  pre:∀ r l,l < r->r < i->SzF A r l
  prei:∀ l,l < i->i<=l + t->SzF A i l
  lov:∀ r,r + 1 < i->LvF A r
theorem AX7 {n:Nat} {Dm:Int} {A:Nat->Nat->Int} (hn:0 < n) (hs:AJ5 n A) (hp:ALm n A) (hD:∀ k,k<=n->det k A<=Dm) (hr:∀ k,k < n->A k k<=3 * Dm):Abb n Dm A 0 0:=
  ⟨hs,hp,hD,hn,Nat.le_refl _,fun k hk _=>hr k hk,fun _=>hr 0 hn,fun l hl=>by omega,fun r l h1 h2=>by omega,fun l hl=>by omega,fun r hr=>by omega⟩
theorem Al6 {n i t:Nat} {Dm:Int} {A:Nat->Nat->Int} (h:Abb n Dm A i t):1<=Dm:=by
 have:=h.dm 0 (by omega);simpa [det] using this
theorem ASy {n i t:Nat} {Dm:Int} {A:Nat->Nat->Int} (hn:n<=8) (h:Abb n Dm A i t) (hz:∀ l,l < i->SzF A i l):∀ k,k < n->A k k<=3 * Dm:=fun k hk=>by
  by_cases e:k=i
  · subst e;exact Adj hn h.sym h.pos h.hi h.dm hz
  · exact h.rows k hk e
theorem AUn (t:Nat):(0:Int) < 2 ^ t:=Int.pow_pos (by omega)
theorem AWr {s t:Nat} (h:s<=t):(2:Int) ^ s<=2 ^ t:=by
 have:=Nat.pow_le_pow_right (show 0 < 2 by omega) h;have e:∀ k:Nat,(2:Int) ^ k=((2 ^ k:Nat):Int):=fun k=>by simp
 rw [e,e];omega
theorem Ait {n i t i' j:Nat} {Dm:Int} {A:Nat->Nat->Int} (hn:n<=8) (h:Abb n Dm A i t) (hi':i' < n) (hj:j < i') (hbad: ¬ SzF A i' j)
    (hz:∀ r l,l < r->r < i'->SzF A r l) (hzi:∀ l,l < i'->j < l->SzF A i' l) (hl:∀ r,r + 1 < i'->LvF A r):
    Abb n Dm (AUm A i' j (-((2 * Mn j A i' j + det (j + 1) A) / (2 * det (j + 1) A)))) i' (i' - j)/\i * 16 + t < i' * 16 + (i' - j):=by
  have hD1:=Al6 h
  have hlt:i < i'∨i=i'/\t < i' - j:=by
    rcases Nat.lt_trichotomy i i' with h1 | h1 | h1
    · exact .inl h1
    · refine .inr ⟨h1,?_⟩
      rcases Nat.lt_or_ge t (i' - j) with h2 | h2
      · exact h2
      · subst h1;exact absurd (h.prei j hj (by omega)) hbad
    · exact absurd (h.pre i' j hj h1) hbad
  have hrows:∀ k,k < n->k≠i'->A k k<=3 * Dm:=fun k hk hne=>by
    rcases hlt with h1 | h1
    · exact ASy hn h (fun l hl=>hz i l hl h1) k hk
    · exact h.rows k hk (by omega)
  have hK0:0<=2 ^ (i' - j - 1) * (2 * Dm):=Int.mul_nonneg (Int.le_of_lt (AUn _)) (by omega);have hp':∀ l,l<=i'->0 < det l A:=fun l hl=>h.pos l (by omega)
  have hlam:Afq A i' (2 ^ (i' - j - 1) * (2 * Dm)):=by
    rcases hlt with h1 | h1
    · refine Adk hp' ?_ (Ais h.sym h.pos hi' h.dm (ASy hn h (fun l hl=>hz i l hl h1) i' hi'));have:=Int.mul_le_mul_of_nonneg_right (AWr (Nat.zero_le (i' - j - 1))) (show (0:Int)<=2 * Dm by omega);simpa using this
    · obtain ⟨rfl,h1⟩:=h1;exact Adk hp' (Int.mul_le_mul_of_nonneg_right (AWr (by omega)) (by omega)) h.lamb
  have hd:=hp' (j + 1) (by omega);obtain ⟨c1,c2⟩:=Aop hd (hlam j hj).1 (hlam j hj).2;have hrem:=Adl (a:=Mn j A i' j) hd;generalize hc: -((2 * Mn j A i' j + det (j + 1) A) / (2 * det (j + 1) A))=c at *
  refine ⟨⟨Aoo hi' (by omega) h.sym,fun k hk=>by rw [ANc hj];exact h.pos k hk,fun k hk=>by rw [ANc hj];exact h.dm k hk,hi',by omega,fun k hk hne=>by rw [Al5 hne];exact hrows k hk hne,fun h0=>by omega,?_,fun r l h1 h2=>?_,fun l h1 h2=>?_,fun r hr=>?_⟩,by have:=h.ht;have:=h.hi;omega⟩
  · have:=Al4 hj hp' hK0 hlam (fun l hl=>hz j l hl hj) c1 c2
    have e:2 * (2 ^ (i' - j - 1) * (2 * Dm))=2 ^ (i' - j) * (2 * Dm):=by
      rw [show i' - j=i' - j - 1 + 1 by omega,Int.pow_succ];simp only [Nat.add_sub_cancel];grind
    rwa [e] at this
  · unfold SzF;rw [ANc hj,AZr hj h2 (by omega)];exact hz r l h1 h2
  · unfold SzF;rw [ANc hj,Ag6 hj h1]
    rcases Nat.lt_or_ge j l with h3 | h3
    · rw [Afp A l h3,Int.mul_zero,Int.add_zero];exact hzi l h1 h3
    · obtain rfl:l=j:=by omega
      rw [AK3];exact hrem
  · unfold LvF;rw [ANc hj,ANc hj,ANc hj,AZr hj (by omega) (by omega)];exact hl r hr
def Adm (n:Nat) (A:Nat->Nat->Int):Int:=psum (fun k=>det k A) (n + 1)
theorem Aoq {f g:Nat->Int} {n k:Nat} (hk:k < n) (hne:∀ l,l≠k->f l=g l) (h:f k < g k):psum f n < psum g n:=by
 induction n with
 | zero=>omega
 | succ n ih=>
   simp only [psum]
   rcases Nat.lt_or_ge k n with h1 | h1
   · have:=ih h1;rw [hne n (by omega)];omega
   · obtain rfl:k=n:=by omega
     rw [ABw (g:=g) fun i hi=>hne i (by omega)];omega
theorem Aiu {n i t j:Nat} {Dm:Int} {A:Nat->Nat->Int} (hn:n<=8) (h:Abb n Dm A i t) (hj:j + 1 < n) (hbad: ¬ LvF A j)
    (hz:∀ r l,l < r->r<=j + 1->SzF A r l) (hl:∀ r,r < j->LvF A r):
    Abb n Dm (swA A j) 0 0/\Adm n (swA A j) < Adm n A:=by
  have hij:i<=j + 1:=by
    rcases Nat.lt_or_ge (j + 1) i with h1 | h1
    · exact absurd (h.lov j h1) hbad
    · exact h1
  have hrest:=ASy hn h (fun l hl=>hz i l hl hij);have h1:=Aa9 h.sym h.pos (show j < n by omega) hj;have p0:=h.pos j (by omega);have p1:=h.pos (j + 1) (by omega);have p2:=h.pos (j + 2) (by omega);rw [show Mn (j + 1) A (j + 1) (j + 1)=det (j + 2) A from AK3 _ _] at h1
  have hlt:Mn j A (j + 1) (j + 1) < det (j + 1) A:=by
    unfold LvF at hbad
    have h2:det (j + 1) A * (4 * Mn j A (j + 1) (j + 1)) < det (j + 1) A * (3 * det (j + 1) A):=by
      have e1:det (j + 1) A * (4 * Mn j A (j + 1) (j + 1))=4 * (det (j + 1) A * Mn j A (j + 1) (j + 1)):=by grind
      have e2:det (j + 1) A * (3 * det (j + 1) A)=3 * (det (j + 1) A * det (j + 1) A):=by grind
      omega
    have:=Int.lt_of_mul_lt_mul_left h2 (Int.le_of_lt p1);omega
  have hpos:0 < Mn j A (j + 1) (j + 1):=by
    have h3:=sq_nonneg (Mn j A (j + 1) j);have h4:=Int.mul_pos p0 p2;exact Int.pos_of_mul_pos_right (a:=det (j + 1) A) (by omega) p1
  have hdet:∀ k,det k (swA A j)=if k=j + 1 then Mn j A (j + 1) (j + 1) else det k A:=fun k=>by
    by_cases e:k=j + 1
    · subst e;rw [if_pos rfl,Adh]
    · rw [if_neg e,Ag4 e]
  refine ⟨AX7 (by omega) (Ara hj h.sym) (fun k hk=>?_) (fun k hk=>?_) (fun k hk=>?_),?_⟩
  · rw [hdet];split
    · exact hpos
    · exact h.pos k hk
  · rw [hdet];split
    · have:=h.dm (j + 1) (by omega);omega
    · exact h.dm k hk
  · have e:tau j k < n:=by unfold tau;split <;> (try split) <;> omega
    exact hrest _ e
  · exact Aoq (k:=j + 1) (by omega) (fun l hl=>by rw [hdet,if_neg hl]) (by rw [hdet,if_pos rfl];exact hlt)
end Go.QF
namespace Go.Proofs.YtiegjkmfpcgjjaaGreatDoor
open Go Go.QF
theorem Abc (k m:Nat):ADz k (fun a=>((a:Nat):Int)) ++ [((m:Nat):Int)]=ADz (k + 1) fun a=>((bro k m a:Nat):Int):=by
 rw [<- AMx,ACv (g:=fun a=>((bro k m a:Nat):Int)) fun a ha=>by unfold bro;rw [if_pos ha]];unfold bro;rw [if_neg (by omega)]
theorem Ag7 {fuel k m:Nat} (hk:k<=100) (hf:100 < fuel):AFj fuel (k:Int) (m:Int)=some (ADz (k + 1) fun a=>((bro k m a:Nat):Int)):=by
 apply ok_eq;unfold AFj;refine ABm (ACy (fun i s=>s=(ADz i (fun a=>((a:Nat):Int)),((i:Nat):Int))/\i<=k) k (Q:=(· =ADz k fun a=>((a:Nat):Int))) ⟨rfl,Nat.zero_le _⟩ (by omega) fun i s hi hI=>?_) fun e he=>?_
 ·obtain ⟨rfl,hik⟩:=hI;unfold AI3;dsimp only;refine ACj (fun h=>AEm (by rw [ADb];omega) (ABk ⟨by omega,?_,by omega⟩)) (fun h=>ABk ?_)
  ·rw [wk (by omega),AMx i fun a=>((a:Nat):Int)];simp
  ·obtain rfl:i=k:=by omega
   rfl
 ·subst he;refine AEm (by rw [ADb];omega) (ABk ?_);exact Abc k m
theorem AX8 {fuel n i j:Nat} {F:Nat->Nat->Int} (hn:n<=8) (hi:i < n) (hj:j < n) (hb:∀ i j,i < n->j < n->(F i j).natAbs<=AGo) (hf:100 < fuel):AEh fuel (tab n n F) (i:Int) (j:Int)=some (Mn j F i j):=by
 apply ok_eq;unfold AEh;refine ABm (ACy (fun q s=>s=(ADz q (fun a=>((a:Nat):Int)),ADz q (fun a=>((a:Nat):Int)),((q:Nat):Int))/\q<=j) j (Q:=(· =(ADz j (fun a=>((a:Nat):Int)),ADz j fun a=>((a:Nat):Int)))) ⟨rfl,Nat.zero_le _⟩ (by omega) fun q s hq hI=>?_) fun e he=>?_
 ·obtain ⟨rfl,hqj⟩:=hI;unfold AIs;dsimp only;refine ACj (fun h=>AEm (by rw [ADb];omega) (AEm (by rw [ADb];omega) (ABk ⟨by omega,?_,by omega⟩))) (fun h=>ABk ?_)
  ·rw [wk (by omega),AMx q fun a=>((a:Nat):Int)];simp
  ·obtain rfl:q=j:=by omega
   rfl
 ·subst he;dsimp only;refine AEm (by rw [ADb];omega) (AEm (by rw [ADb];omega) ?_);rw [Abc,Abc];refine ABm (AC7 (Adf (n:=n) (by omega) (by omega) hf (fun a ha=>AMh (by omega) hi) (fun a ha=>AMh (by omega) hj))) fun x hx=>?_;subst hx;refine ABm (AC7 (AUi (by omega) (fun a b ha Aa=>hb _ _ (AMh (by omega) hi) (AMh (by omega) hj)) (by omega))) fun y hy=>ABk hy
theorem ASz {fuel n k:Nat} {F:Nat->Nat->Int} (hk:k<=n) (hn:n<=8):ADm fuel (ADz n fun a=>det (a + 1) F) (k:Int)=some (det k F):=by
 apply ok_eq;unfold ADm;refine ACj (fun h=>?_) (fun h=>?_)
 ·obtain rfl:k=0:=by omega
  exact ⟨1,rfl,by simp [det]⟩
 ·obtain ⟨q,rfl⟩:∃ q,k=q + 1:=⟨k - 1,by omega⟩;refine AB9 (n:=q) (ACk (by omega)) (by rw [wk (by omega)];omega) (ABk rfl)
theorem AZs {fuel n:Nat} {F:Nat->Nat->Int} (Aa:1<=n) (hn:n<=8) (hb:∀ i j,i < n->j < n->(F i j).natAbs<=AGo) (hf:100 < fuel):AEx fuel (tab n n F)=some (ADz n fun a=>det (a + 1) F,true):=by
 apply ok_eq;unfold AEx;refine ABm (AC7 (AZn Aa (by omega) hf)) fun x hx=>?_;subst hx;dsimp only;refine ACj (fun h=>absurd h (by decide)) (fun _=>ABm (ACy (fun k s=>s=(ADz k (fun a=>det (a + 1) F),((k:Nat):Int))/\k<=n) n (Q:=(· =ADz n fun a=>det (a + 1) F)) ⟨rfl,Nat.zero_le _⟩ (by omega) fun k s hk hI=>?_) fun e he=>ABk (by rw [he]));obtain ⟨rfl,hkn⟩:=hI;unfold AIf;dsimp only;refine ACj (fun h=>?_) (fun h=>ABk ?_)
 ·have hk':k < n:=by omega
  refine ABm (AC7 (Ag7 (by omega) hf)) fun r hr=>?_;subst hr;refine ABm (AC7 (Ag7 (by omega) hf)) fun c hc=>?_;subst hc;refine ABm (AC7 (Adf (n:=n) (by omega) (by omega) hf (fun a ha=>AMh (by omega) hk') (fun a ha=>AMh (by omega) hk'))) fun x hx=>?_;subst hx;refine ABm (AC7 (AUi (by omega) (fun a b ha Ab=>hb _ _ (AMh (by omega) hk') (AMh (by omega) hk')) (by omega))) fun y hy=>?_;subst hy;refine AEm (by rw [ADb];omega) (ABk ⟨by omega,?_,by omega⟩);rw [show (det (k + 1) fun a b=>F (bro k k a) (bro k k b))=det (k + 1) F from AK3 k F,wk (by omega),AMx k fun a=>det (a + 1) F];simp
 ·obtain rfl:k=n:=by omega
  rfl
theorem Abd (a b:Int):AQa a b<=0↔a<=b:=by unfold AQa;split <;> (try split) <;> omega
theorem AX9 {n j i l:Nat} {F:Nat->Nat->Int} (hn:n<=8) (hi:i < n) (hl:l < n) (hj:j < n) (hb:∀ i j,i < n->j < n->(F i j).natAbs<=AGo):(Mn j F i l).natAbs<=dBd AGo 9:=by
 have e:Mn j F i l=Mn j (fun a b=>if a < n/\b < n then F a b else 0) i l:=by
   unfold Mn
   refine ADa fun a b ha Aa=>?_
   dsimp only
   rw [if_pos ⟨AMh (by omega) hi,AMh (by omega) hl⟩]
 rw [e];refine Nat.le_trans (Afi (m:=AGo) (fun a b=>?_) i l) (AOv (by decide) (by omega));split
 ·next h=>exact hb a b h.1 h.2
 ·exact Nat.zero_le _
theorem ASf {n k:Nat} {F:Nat->Nat->Int} (hn:n<=8) (hk:k<=n) (hb:∀ i j,i < n->j < n->(F i j).natAbs<=AGo):(det k F).natAbs<=dBd AGo 9:=by
 rcases Nat.eq_zero_or_pos k with h | h
 ·subst h;simp only [det];decide
 ·obtain ⟨q,rfl⟩:∃ q,k=q + 1:=⟨k - 1,by omega⟩;rw [<- AK3 q F];exact AX9 hn (by omega) (by omega) (by omega) hb
theorem Aor {fuel n i j:Nat} {F:Nat->Nat->Int} (hn:n<=8) (hi:i < n) (hj:j < n) (hb:∀ i j,i < n->j < n->(F i j).natAbs<=AGo) (hf:100 < fuel):AGe fuel (tab n n F) (ADz n fun a=>det (a + 1) F) (i:Int) (j:Int)=some (decide (2 * ((Mn j F i j).natAbs:Int)<=det (j + 1) F)):=by
 apply ok_eq;unfold AGe;refine ABm (Q:=(· =2)) ⟨2,if_pos (by omega),rfl⟩ fun two h2=>?_;subst h2;refine ABm (AC7 (AX8 hn hi hj hb hf)) fun x hx=>?_;subst hx;refine ABm (AC7 (a:=((Mn j F i j).natAbs:Int)) rfl) fun y hy=>?_;subst hy;refine ABm (AC7 (AVm Ag2 (show (2:Int).natAbs<=dBd AGo (8 + 1) by decide) (by rw [Int.natAbs_natCast];exact AX9 hn hi hj hj hb))) fun w hw=>?_;subst hw;rw [wk (by omega)];refine ABm (AC7 (ASz (k:=j + 1) (by omega) hn)) fun m hm=>?_;subst hm;refine ABm (AC7 (a:=AQa (2 * ((Mn j F i j).natAbs:Int)) (det (j + 1) F)) rfl) fun c hc=>ABk ?_;subst hc;exact decide_eq_decide.2 (Abd _ _)
theorem Ag8 {F:Nat->Nat->Int} {i j:Nat}:2 * ((Mn j F i j).natAbs:Int)<=det (j + 1) F↔SzF F i j:=by
 unfold SzF;omega
theorem psum_abs {f g:Nat->Int} {D:Nat}:∀ (n:Nat),(∀ a,a < n->(f a).natAbs<=D/\(g a).natAbs<=D)->(psum (fun a=>f a * g a) n).natAbs<=n * (D * D)
  | 0,_=>by simp [psum]
  | n + 1,h=>by
    have h1:=psum_abs n fun a ha=>h a (by omega)
    have h2:=Nat.mul_le_mul (h n (by omega)).1 (h n (by omega)).2
    rw [<- Int.natAbs_mul] at h2
    have e:(n + 1) * (D * D)=n * (D * D) + D * D:=by rw [Nat.add_mul,Nat.one_mul]
    simp only [psum]
    omega
theorem Asq {fuel n D:Nat} {f g:Nat->Int} (hn:n<=16) (hD:16 * (D * D) < AEn) (hb:∀ a,a < n->(f a).natAbs<=D/\(g a).natAbs<=D) (hf:100 < fuel):AHm fuel (ADz n f) (ADz n g)=some (psum (fun a=>f a * g a) n):=by
 apply ok_eq;unfold AHm;refine ABm (ACy (fun k s=>s=(((k:Nat):Int),psum (fun a=>f a * g a) k)/\k<=n) n (Q:=(· =psum (fun a=>f a * g a) n)) ⟨rfl,Nat.zero_le _⟩ (by omega) fun k s hk hI=>?_) fun e he=>ABk he;obtain ⟨rfl,hkn⟩:=hI;unfold AJr;dsimp only;rw [ADb];refine ACj (fun h=>?_) (fun h=>ABk ?_)
 ·have hk':k < n:=by omega
  have h1:=psum_abs k fun a ha=>hb a (by omega);have h2:=Nat.mul_le_mul (hb k hk').1 (hb k hk').2;have h3:k * (D * D)<=16 * (D * D):=Nat.mul_le_mul_right _ (by omega);have h4:1 * (D * D)<=16 * (D * D):=Nat.mul_le_mul_right _ (by omega);refine AB9 (ACk hk') rfl (AB9 (ACk hk') rfl (ABm (Q:=(· =f k * g k)) ⟨_,if_pos (by omega),rfl⟩ fun x hx=>?_));subst hx;refine ABm (Q:=(· =psum (fun a=>f a * g a) k + f k * g k)) ⟨_,if_pos ⟨by omega,by rw [Int.natAbs_mul];omega⟩,rfl⟩ fun y hy=>ABk ⟨by omega,?_,by omega⟩;subst hy;rw [wk (by omega)];simp [psum]
 ·obtain rfl:k=n:=by omega
  rfl
theorem AYa {fuel n:Nat} {F:Nat->Nat->Int} (hn:1<=n) (Ad:n<=16) (hf:100 < fuel):ADy fuel (tab n n F)=some ((n:Int),(n:Int),true):=by
 apply ok_eq;unfold ADy;rw [AC8];refine ABm (Q:=fun ex=>match ex with | .inl _=>False | .inr _=>True) (ACj (fun h=>by omega) fun h=>ACj (fun h2=>by omega) fun h2=>ABk trivial) fun ex hex=>?_
 cases ex with
 | inl e=>exact hex.elim
 | inr u=>
   dsimp only
   refine ABm (ACy (fun i (s:Int)=>s=i) n (Q:=fun ex=>match ex with | .inl _=>False | .inr _=>True) rfl (by omega) fun i s hi hI=>?_) fun ex hex=>?_
   · subst hI
     unfold AGt
     rw [AC8]
     refine ACj (fun h=>AB9 (ADd (by omega)) rfl ?_) fun h=>ABk trivial
     rw [ADb]
     refine ACj (fun h2=>by omega) fun h2=>ACj (fun h3=>by omega) fun h3=>AB9 (n:=0) (ADd (by omega)) rfl (ACj (fun h4=>?_) fun h4=>ABk ⟨by omega,wk (by omega)⟩)
     rw [ADb] at h4;omega
   · cases ex with
     | inl e=>exact hex.elim
     | inr u=>exact AB9 (n:=0) (ADd (by omega)) rfl (ABk (by rw [ADb]))
theorem AMi {r c:Nat} {F G:Nat->Nat->Int} (h:∀ i j,i < r->j < c->F i j=G i j):tab r c F=tab r c G:=by
 rw [ANi,ANi];exact ACv fun i hi=>ACv fun j hj=>h i j hi hj
def trS (F:Nat->Nat->Int) (i j r c:Nat):Int:=if c < i∨c=i/\r < j then F c r else 0
theorem Ag9 {fuel n:Nat} {F:Nat->Nat->Int} (hn:1<=n) (Ad:n<=16) (hf:100 < fuel):AEd fuel (tab n n F)=some (tab n n (trF F),true):=by
 apply ok_eq;unfold AEd;refine ABm (AC7 (AYa hn Ad hf)) fun x hx=>?_;subst hx;dsimp only;refine ACj (fun h=>absurd h (by decide)) fun _=>ABm (AC7 (AWm (by omega) (by omega) (by omega))) fun O hO=>?_;subst hO;refine ABm (ACy (fun i s=>s=(((i:Nat):Int),tab n n (trS F i 0))/\i<=n) n (Q:=(· =tab n n (trF F))) ⟨?_,Nat.zero_le _⟩ (by omega) fun i s hi hI=>?_) fun e he=>ABk (by rw [he])
 ·rw [AHq n (0:Int),AHq];refine congrArg (Prod.mk (0:Int)) ?_;rw [ANi];exact ACv fun r _=>ACv fun c _=>by unfold trS;rw [if_neg (by omega)]
 ·obtain ⟨rfl,hin⟩:=hI;unfold AHe;dsimp only;rw [AC8];refine ACj (fun h=>?_) (fun h=>ABk ?_)
  ·have hi':i < n:=by omega
   refine AB9 (ADd hi') rfl (ABm (ACy (fun j s=>s=(((j:Nat):Int),tab n n (trS F i j))/\j<=n) n (Q:=(· =tab n n (trS F (i + 1) 0))) ⟨rfl,Nat.zero_le _⟩ (by omega) fun j s hj hJ=>?_) fun e he=>ABk ⟨by omega,by rw [wk (by omega),he];simp,by omega⟩);obtain ⟨rfl,hjn⟩:=hJ;unfold AHd;dsimp only;rw [ADb];refine ACj (fun h2=>?_) (fun h2=>ABk ?_)
   ·have hj':j < n:=by omega
    refine AB9 (ADd hj') rfl (AB9 (ADd hi') rfl (AB9 (ACk hj') rfl (ABm (AC7 (a:=F i j) rfl) fun y hy=>AB9 (ACk hi') rfl (ABk ⟨by omega,?_,by omega⟩))));subst hy;rw [wk (by omega),Aa1];refine Prod.ext (by dsimp only;omega) (AMi fun r c hr hc=>?_);rw [ACr];unfold trS;by_cases h3:r=j
    ·rw [if_pos h3];by_cases h4:c=i
     ·rw [if_pos h4,if_pos (by omega),h3,h4]
     ·rw [if_neg h4];by_cases h5:c < i
      ·rw [if_pos (by omega),if_pos (by omega),h3]
      ·rw [if_neg (by omega),if_neg (by omega)]
    ·rw [if_neg h3];by_cases h5:c < i∨c=i/\r < j
     ·rw [if_pos h5,if_pos (by omega)]
     ·rw [if_neg h5,if_neg (by omega)]
   ·refine AMi fun r c hr hc=>?_;unfold trS;by_cases h5:c < i + 1
    ·rw [if_pos (by omega),if_pos (by omega)]
    ·rw [if_neg (by omega),if_neg (by omega)]
  ·refine AMi fun r c hr hc=>?_;unfold trS trF;rw [if_pos (by omega)]
def muS (H:Nat->Nat->Int) (i j r c:Nat):Int:=if r < i∨r=i/\c < j then H r c else 0
theorem Al7 {fuel n D:Nat} {F G:Nat->Nat->Int} (hn:1<=n) (Ab:n<=16) (hD:16 * (D * D) < AEn) (hF:∀ i j,i < n->j < n->(F i j).natAbs<=D) (hG:∀ i j,i < n->j < n->(G i j).natAbs<=D) (hf:100 < fuel):AHn fuel (tab n n F) (tab n n G)=some (tab n n (AEy n F G),true):=by
 apply ok_eq;unfold AHn;refine ABm (AC7 (AYa hn Ab hf)) fun x hx=>?_;subst hx;dsimp only;refine ABm (AC7 (Ag9 hn Ab hf)) fun x hx=>?_;subst hx;dsimp only;rw [AC8,AC8];refine ABm (Q:=fun ex=>match ex with | .inl _=>False | .inr _=>True) (ACj (fun h=>absurd h (by decide)) fun _=>ACj (fun h=>absurd h (by decide)) fun _=>ACj (fun h=>absurd rfl h) fun _=>ABk trivial) fun ex hex=>?_
 cases ex with
 | inl e=>exact hex.elim
 | inr u=>
   dsimp only
   rw [AC8]
   refine ABm (AC7 (AWm (by omega) (by omega) (by omega))) fun O hO=>?_
   subst hO
   refine ABm (ACy (fun i s=>s=(((i:Nat):Int),tab n n (muS (AEy n F G) i 0))/\i<=n) n (Q:=(· =tab n n (AEy n F G))) ⟨?_,Nat.zero_le _⟩ (by omega) fun i s hi hI=>?_) fun e he=>ABk (by rw [he])
   · rw [AHq n (0:Int),AHq]
     refine congrArg (Prod.mk (0:Int)) ?_
     rw [ANi]
     exact ACv fun r _=>ACv fun c _=>by unfold muS;rw [if_neg (by omega)]
   · obtain ⟨rfl,hin⟩:=hI
     unfold AJt
     dsimp only
     rw [AC8]
     refine ACj (fun h=>?_) (fun h=>ABk ?_)
     · have hi':i < n:=by omega
       refine ABm (ACy (fun j s=>s=(((j:Nat):Int),tab n n (muS (AEy n F G) i j))/\j<=n) n (Q:=(· =tab n n (muS (AEy n F G) (i + 1) 0))) ⟨rfl,Nat.zero_le _⟩ (by omega) fun j s hj hJ=>?_) fun e he=>ABk ⟨by omega,by rw [wk (by omega),he];simp,by omega⟩
       obtain ⟨rfl,hjn⟩:=hJ
       unfold AJs
       dsimp only
       rw [AC8]
       refine ACj (fun h2=>?_) (fun h2=>ABk ?_)
       · have hj':j < n:=by omega
         refine AB9 (ADd hi') rfl (AB9 (ADd hi') rfl (AB9 (ADd hj') rfl (ABm (AC7 (Asq (D:=D) Ab hD (fun a ha=>⟨hF i a hi' ha,hG a j ha hj'⟩) hf)) fun y hy=>AB9 (ACk hj') rfl (ABk ⟨by omega,?_,by omega⟩))))
         subst hy
         rw [wk (by omega),Aa1]
         refine Prod.ext (by dsimp only;omega) (AMi fun r c hr hc=>?_)
         rw [ACr]
         unfold muS
         by_cases h3:r=i
         · rw [if_pos h3]
           by_cases h4:c=j
           · rw [if_pos h4,if_pos (by omega),h3,h4];rfl
           · rw [if_neg h4]
             by_cases h5:c < j
             · rw [if_pos (by omega),if_pos (by omega),h3]
             · rw [if_neg (by omega),if_neg (by omega)]
         · rw [if_neg h3]
           by_cases h5:r < i
           · rw [if_pos (by omega),if_pos (by omega)]
           · rw [if_neg (by omega),if_neg (by omega)]
       · refine AMi fun r c hr hc=>?_
         unfold muS
         by_cases h5:r < i + 1
         · rw [if_pos (by omega),if_pos (by omega)]
         · rw [if_neg (by omega),if_neg (by omega)]
     · refine AMi fun r c hr hc=>?_
       unfold muS
       rw [if_pos (by omega)]
theorem Aha (a b:Int):AQa a b=0↔a=b:=by unfold AQa;split <;> (try split) <;> omega
theorem Ap4 {fuel n:Nat} {F:Nat->Nat->Int} (Ae:n<=16) (hf:100 < fuel):Ok (AEe fuel (tab n n F)) fun r=>r=true↔AJ5 n F:=by
 unfold AEe;refine ABm (ACy (fun i s=>s=((i:Nat):Int)/\i<=n/\ ∀ a b,b < a->a < i->F a b=F b a) n (Q:=fun ex=>match ex with | .inl e=>e=false/\¬ AJ5 n F | .inr _=>AJ5 n F) ⟨rfl,Nat.zero_le _,fun a b h1 h2=>by omega⟩ (by omega) fun i s hi hI=>?_) fun ex hex=>?_
 ·obtain ⟨rfl,hin,hs⟩:=hI;unfold AHg;rw [AC8];refine ACj (fun h=>?_) (fun h=>ABk ?_)
  ·have hi':i < n:=by omega
   refine ABm (ACy (fun j s=>s=((j:Nat):Int)/\j<=i/\ ∀ b,b < j->F i b=F b i) i (Q:=fun ex=>match ex with | .inl e=>e=false/\¬ AJ5 n F | .inr _=> ∀ b,b < i->F i b=F b i) ⟨rfl,Nat.zero_le _,fun b h1=>by omega⟩ (by omega) fun j s hj hJ=>?_) fun ex hex=>?_
   ·obtain ⟨rfl,hji,hb⟩:=hJ;unfold AHf;refine ACj (fun h2=>?_) (fun h2=>ABk ?_)
    ·have hj':j < i:=by omega
     refine AB9 (ADd hi') rfl (AB9 (ACk (by omega)) rfl (AB9 (ADd (by omega)) rfl (AB9 (ACk hi') rfl (ABm (AC7 (a:=AQa (F i j) (F j i)) rfl) fun c hc=>?_))));subst hc;refine ACj (fun h3=>ABk ⟨rfl,fun h4=>h3 ((Aha _ _).2 (h4 i j hi' (by omega)))⟩) (fun h3=>ABk ⟨by omega,by rw [wk (by omega)];simp,by omega,fun b Af=>?_⟩);rcases Nat.lt_or_ge b j with h4 | h4
     ·exact hb b h4
     ·obtain rfl:b=j:=by omega
      exact (Aha _ _).1 (Classical.not_not.1 h3)
    ·obtain rfl:j=i:=by omega
     exact hb
   ·cases ex with
    | inl e=>exact ABk hex
    | inr u=>exact ABk ⟨by omega,by rw [wk (by omega)];simp,by omega,fun a b h1 h2=>by
        rcases Nat.lt_or_ge a i with h4 | h4
        · exact hs a b h1 h4
        · obtain rfl:a=i:=by omega
          exact hex b h1⟩
  ·obtain rfl:i=n:=by omega
   intro a b ha hb;rcases Nat.lt_trichotomy a b with h1 | h1 | h1
   ·exact (hs b a h1 hb).symm
   ·rw [h1]
   ·exact hs a b h1 ha
 ·cases ex with
  | inl e=>obtain ⟨rfl,h⟩:=hex;exact ABk ⟨fun h1=>Bool.noConfusion h1,fun h1=>absurd h1 h⟩
  | inr u=>exact ABk ⟨fun _=>hex,fun _=>rfl⟩
theorem Aos {fuel n D:Nat} {F G:Nat->Nat->Int} (hn:1<=n) (Aa:n<=16) (hD:16 * (D * D) < AEn) (hF:∀ i j,i < n->j < n->(F i j).natAbs<=D) (hG:∀ i j,i < n->j < n->(G i j).natAbs<=D) (hH:∀ i j,i < n->j < n->(AEy n (trF G) F i j).natAbs<=D) (hf:100 < fuel):AEf fuel (tab n n F) (tab n n G)=some (tab n n (AEy n (AEy n (trF G) F) G)):=by
 apply ok_eq;unfold AEf;refine ABm (AC7 (Ag9 hn Aa hf)) fun x hx=>?_;subst hx;dsimp only
 have pr:∀ {F G:Nat->Nat->Int},(∀ i j,i < n->j < n->(F i j).natAbs<=D)->(∀ i j,i < n->j < n->(G i j).natAbs<=D)->Ok (ADl fuel (tab n n F) (tab n n G)) (· =tab n n (AEy n F G)):=fun {F G} hF hG=>by
   unfold ADl
   refine ABm (AC7 (Al7 hn Aa hD hF hG hf)) fun x hx=>?_
   subst hx
   exact ABk rfl
 refine ABm (pr (fun i j hi hj=>hG j i hj hi) hF) fun x hx=>?_;subst hx;refine ABm (pr hH hG) fun y hy=>ABk hy
theorem Ahb (a:Int):AG6 a<=0↔a<=0:=by unfold AG6;split <;> (try split) <;> omega
theorem Ass {fuel n:Nat} {F:Nat->Nat->Int} (Ae:1<=n) (hn:n<=8) (hb:∀ i j,i < n->j < n->(F i j).natAbs<=AGo) (hf:100 < fuel):Ok (AFk fuel (tab n n F)) fun r=>r=true↔AJ5 n F/\ALm n F:=by
 unfold AFk;refine ABm (AC7 (AZs Ae hn hb hf)) fun x hx=>?_;subst hx;dsimp only;refine ABm (Q:=fun ex=>match ex with | .inl e=>e=false/\¬ AJ5 n F | .inr _=>AJ5 n F) (ACj (fun h=>absurd h (by decide)) fun _=>ABm (Ap4 (by omega) hf) fun r hr=>?_) fun ex hex=>?_
 ·refine ACj (fun h=>ABk ⟨rfl,fun h1=>?_⟩) (fun h=>ABk (hr.1 ?_))
  ·rw [hr.2 h1] at h;exact absurd h (by decide)
  ·cases r
   ·exact absurd rfl h
   ·rfl
 ·cases ex with
  | inl e=>obtain ⟨rfl,h⟩:=hex;exact ABk ⟨fun h1=>Bool.noConfusion h1,fun h1=>absurd h1.1 h⟩
  | inr u=>
    dsimp only at hex ⊢
    have h0:∀ k,k<=0->0 < det k F:=fun k hk=>by
      obtain rfl:k=0:=by omega
      simp [det]
    refine ABm (ACy (fun i s=>s=((i:Nat):Int)/\i<=n/\ ∀ k,k<=i->0 < det k F) n (Q:=fun ex=>match ex with | .inl e=>e=false/\¬ ALm n F | .inr _=>ALm n F) ⟨rfl,Nat.zero_le _,h0⟩ (by omega) fun i s hi hI=>?_) fun ex Ad=>?_
    · obtain ⟨rfl,hin,hp⟩:=hI
      unfold AH4
      rw [ADb]
      refine ACj (fun h=>?_) (fun h=>ABk ?_)
      · have hi':i < n:=by omega
        refine AB9 (ACk hi') rfl (ABm (AC7 (a:=AG6 (det (i + 1) F)) rfl) fun c hc=>?_)
        subst hc
        refine ACj (fun h3=>ABk ⟨rfl,fun h4=>?_⟩) (fun h3=>ABk ⟨by omega,by rw [wk (by omega)];simp,by omega,fun k hk=>?_⟩)
        · have:=h4 (i + 1) (by omega);have:=(Ahb _).1 h3;omega
        · rcases Nat.lt_or_ge k (i + 1) with h4 | h4
          · exact hp k (by omega)
          · obtain rfl:k=i + 1:=by omega
            rw [Ahb] at h3;omega
      · obtain rfl:i=n:=by omega
        exact hp
    · cases ex with
      | inl e=>obtain ⟨rfl,h⟩:=Ad;exact ABk ⟨fun h1=>Bool.noConfusion h1,fun h1=>absurd h1.2 h⟩
      | inr u=>exact ABk ⟨fun _=>⟨hex,Ad⟩,fun _=>rfl⟩
theorem AYb {fuel n:Nat} {F:Nat->Nat->Int} (Ac:1<=n) (hn:n<=8) (hb:∀ i j,i < n->j < n->(F i j).natAbs<=AGo) (hf:100 < fuel):Ok (AEp fuel (tab n n F)) fun r=>r=0↔AJ5 n F/\ALm n F:=by
 unfold AEp;refine ABm (AC7 (AZn Ac (by omega) hf)) fun x hx=>?_;subst hx;dsimp only;refine ACj (fun h=>absurd h (by decide)) fun _=>ACj (fun h=>by omega) fun _=>ABm (Ap4 (by omega) hf) fun r hr=>ACj (fun h=>ABk ⟨fun h1=>by omega,fun h1=>?_⟩) fun h=>ABm (Ass Ac hn hb hf) fun q hq=>ACj (fun h2=>ABk ⟨fun h1=>by omega,fun h1=>?_⟩) fun h2=>ABk ⟨fun _=>hq.1 ?_,fun _=>rfl⟩
 ·rw [hr.2 h1.1] at h;exact absurd h (by decide)
 ·rw [hq.2 h1] at h2;exact absurd h2 (by decide)
 ·cases q
  ·exact absurd rfl h2
  ·rfl
theorem Aot {fuel n:Nat} {F:Nat->Nat->Int} (hn:n<=8) (hb:∀ i j,i < n->j < n->(F i j).natAbs<=AGo) (hf:100 < fuel):AGf fuel (tab n n F)=some (decide (det n F<=10000)):=by
 apply ok_eq;unfold AGf;refine ABm (AC7 (AUi hn hb (by omega))) fun x hx=>?_;subst hx;refine ABm (Q:=(· =10000)) ⟨10000,if_pos (by omega),rfl⟩ fun y hy=>?_;subst hy;refine ABm (AC7 (a:=AQa (det n F) 10000) rfl) fun c hc=>ABk ?_;subst hc;exact decide_eq_decide.2 (Abd _ _)
def idS (i r c:Nat):Int:=if r=c/\r < i then 1 else 0
theorem Ahc {fuel n:Nat} (hn:1<=n) (Ae:n<=16) (hf:100 < fuel):AEo fuel (n:Int)=some (tab n n dl,true):=by
 apply ok_eq;unfold AEo;refine ABm (Q:=fun ex=>match ex with | .inl _=>False | .inr _=>True) (ACj (fun h=>by omega) fun _=>ACj (fun h=>by omega) fun _=>ABk trivial) fun ex hex=>?_
 cases ex with
 | inl e=>exact hex.elim
 | inr u=>
   dsimp only
   refine ABm (AC7 (AWm (by omega) (by omega) (by omega))) fun O hO=>?_
   have Ab:O=tab n n (idS 0):=by
     rw [hO,AHq n (0:Int),AHq,ANi]
     exact ACv fun r _=>ACv fun c _=>by unfold idS;rw [if_neg (by omega)]
   have hlen:O.length=n:=by rw [Ab,AC8]
   refine ABm (ACy (fun i s=>s=(((i:Nat):Int),tab n n (idS i))/\i<=n) n (Q:=(· =tab n n dl)) ⟨by rw [Ab];rfl,Nat.zero_le _⟩ (by omega) fun i s hi hI=>?_) fun e he=>ABk (by rw [he])
   obtain ⟨rfl,hin⟩:=hI
   unfold AH3
   dsimp only
   rw [hlen]
   refine ACj (fun h=>?_) (fun h=>ABk ?_)
   · have hi':i < n:=by omega
     refine AB9 (ADd hi') rfl (ABm (Q:=(· =1)) ⟨1,if_pos (by omega),rfl⟩ fun y hy=>AB9 (ACk hi') rfl (ABk ⟨by omega,?_,by omega⟩))
     subst hy
     rw [wk (by omega),Aa1]
     refine Prod.ext (by dsimp only;omega) (AMi fun r c hr hc=>?_)
     rw [ACr]
     unfold idS
     by_cases h3:r=i
     · rw [if_pos h3]
       by_cases h4:c=i
       · rw [if_pos h4,if_pos (by omega)]
       · rw [if_neg h4,if_neg (by omega),if_neg (by omega)]
     · rw [if_neg h3]
       by_cases h5:r=c/\r < i
       · rw [if_pos h5,if_pos (by omega)]
       · rw [if_neg h5,if_neg (by omega)]
   · refine AMi fun r c hr hc=>?_
     unfold idS dl
     by_cases h5:r=c
     · rw [if_pos (by omega),if_pos h5]
     · rw [if_neg (by omega),if_neg h5]
def toS (n:Nat) (F:Nat->Nat->Int) (i:Nat):List (List Int):=ADz n fun r=>if r < i then ADz n (F r) else []
def toR (n:Nat) (F:Nat->Nat->Int) (i j:Nat):List (List Int):=ADz n fun r=>if r < i then ADz n (F r) else if r=i then ADz n (fun c=>if c < j then F i c else 0) else []
theorem Asu {fuel n:Nat} {F:Nat->Nat->Int} (hn:1<=n) (Ae:n<=16) (hb:∀ i j,i < n->j < n->(F i j).natAbs < 9223372036854775808) (hf:100 < fuel):AF3 fuel (tab n n F)=some (tab n n F,true):=by
 apply ok_eq;unfold AF3;refine ABm (AC7 (AYa hn Ae hf)) fun x hx=>?_;subst hx;dsimp only;refine ACj (fun h=>absurd h (by decide)) fun _=>AEm (by omega) (ABm (ACy (fun i s=>s=(((i:Nat):Int),toS n F i)/\i<=n) n (Q:=fun ex=>match ex with | .inl _=>False | .inr e=>e=tab n n F) ⟨?_,Nat.zero_le _⟩ (by omega) fun i s hi hI=>?_) fun ex hex=>?_)
 ·rw [Int.toNat_natCast,AHq];exact congrArg (Prod.mk (0:Int)) (ACv fun r _=>by rw [if_neg (by omega)])
 ·obtain ⟨rfl,hin⟩:=hI;unfold AIr;dsimp only;rw [List.length_replicate,Int.toNat_natCast];refine ACj (fun h=>AEm (by omega) ?_) (fun h=>ABk ?_)
  ·have hi':i < n:=by omega
   have e0:sI (toS n F i) (i:Int) (List.replicate n (0:Int))=toR n F i 0:=by
     rw [ADu];unfold toS;rw [AFe]
     refine ACv fun r _=>?_
     by_cases h1:r=i
     · rw [if_pos h1,if_neg (by omega),if_pos h1,AHq];exact ACv fun c _=>by rw [if_neg (by omega)]
     · rw [if_neg h1]
       by_cases h2:r < i
       · rw [if_pos h2,if_pos h2]
       · rw [if_neg h2,if_neg h2,if_neg h1]
   refine AB9 (n:=i) (ACk hi') rfl ?_;rw [e0];refine AB9 (n:=i) (ACk hi') rfl ?_;rw [if_neg (by omega),if_pos rfl];refine ABm (ACy (fun j s=>s=(((j:Nat):Int),toR n F i j)/\j<=n) n (Q:=fun ex=>match ex with | .inl _=>False | .inr e=>e=toS n F (i + 1)) ⟨rfl,Nat.zero_le _⟩ (by omega) fun j s hj hJ=>?_) fun ex hex=>?_
   ·obtain ⟨rfl,hjn⟩:=hJ;unfold AIq;dsimp only;rw [ADb];refine ACj (fun h2=>?_) (fun h2=>ABk ?_)
    ·have hj':j < n:=by omega
     refine AB9 (ADd hi') rfl (AB9 (ACk hj') rfl (ABm (Q:=(· =(F i j,true))) ⟨_,if_pos (hb i j hi' hj'),rfl⟩ fun y hy=>?_));subst hy;dsimp only;refine ACj (fun h=>absurd h (by decide)) fun _=>AB9 (n:=i) (ACk hi') rfl ?_;rw [if_neg (by omega),if_pos rfl];refine AB9 (ACk hj') rfl (ABk ⟨by omega,?_,by omega⟩);rw [wk (by omega),ADu,ADu];refine Prod.ext (by dsimp only;omega) ?_;dsimp only;unfold toR;rw [AFe,AFe];refine ACv fun r _=>?_;by_cases h1:r=i
     ·rw [if_pos h1,if_neg (by omega),if_pos h1];refine ACv fun c _=>?_;by_cases h3:c=j
      ·rw [if_pos h3,if_pos (by omega),h3]
      ·rw [if_neg h3];by_cases h4:c < j
       ·rw [if_pos h4,if_pos (by omega)]
       ·rw [if_neg h4,if_neg (by omega)]
     ·rw [if_neg h1,if_neg h1,if_neg h1]
    ·refine ACv fun r _=>?_;by_cases h1:r < i
     ·rw [if_pos h1,if_pos (by omega)]
     ·rw [if_neg h1];by_cases h3:r=i
      ·rw [if_pos h3,if_pos (by omega),h3];exact ACv fun c hc=>by rw [if_pos (by omega)]
      ·rw [if_neg h3,if_neg (by omega)]
   ·cases ex with
    | inl e=>exact hex.elim
    | inr e=>exact ABk ⟨by omega,by rw [wk (by omega),hex];simp,by omega⟩
  ·refine ACv fun r hr=>?_;rw [if_pos (by omega)];rfl
 ·cases ex with
  | inl e=>exact hex.elim
  | inr e=>exact ABk (by rw [hex])
theorem Al8 {S E:Type} {body:S->Option (S ⊕ E)} {Q:E->Prop} (I:S->Prop) (μ:S->Nat) (hs:∀ s,I s->Ok (body s) fun r=>match r with | .inl s'=>I s'/\μ s' < μ s | .inr e=>Q e):∀ {fuel:Nat} {s0:S},I s0->μ s0 < fuel->Ok (iter body fuel s0) Q:=by
  intro fuel;induction fuel with
  | zero=>intro s0 _ h;omega
  | succ f ih=>
    intro s0 h0 hf;obtain ⟨r,hr,hq⟩:=hs s0 h0;cases r with
    | inl s'=>
      obtain ⟨e,he,hQ⟩:=ih hq.1 (by have:=hq.2;omega);exact ⟨e,by simp [iter,hr,he],hQ⟩
    | inr e=>exact ⟨e,by simp [iter,hr],hq⟩
theorem Abe (a:Int):AG6 a=0↔a=0:=by unfold AG6;split <;> (try split) <;> omega
theorem Ahd (a:Int):AG6 a < 0↔a < 0:=by unfold AG6;split <;> (try split) <;> omega
theorem Al9 {fuel:Nat} {a b:Int} (ha:a.natAbs < AEn) (hb:b.natAbs < AEn) (h0:b≠0):AD6 fuel a b=some (a / b):=by
 apply ok_eq;unfold AD6;refine ABm (AC7 (a:=(a / b,a % b,true)) (if_pos ⟨ha,hb,h0⟩)) fun x hx=>?_;subst hx;exact ABk rfl
theorem Asv {fuel:Nat} {a b:Int} (ha:a.natAbs < AEn) (hb:b.natAbs < AEn) (h0:b≠0):AHl fuel a b=some (a % b):=by
 apply ok_eq;unfold AHl;refine ABm (AC7 (a:=(a / b,a % b,true)) (if_pos ⟨ha,hb,h0⟩)) fun x hx=>?_;subst hx;exact ABk rfl
theorem Asw {fuel:Nat} {a b:Int} (ha:a.natAbs < AEn) (hb:b.natAbs < AEn) (h0:b≠0) (hf:AEn < fuel):Ok (AHp fuel a b) fun g=>0 < g/\g ∣ a/\g ∣ b:=by
 unfold AHp;refine ABm (AC7 (a:=(a.natAbs:Int)) rfl) fun x hx=>ABm (AC7 (a:=(b.natAbs:Int)) rfl) fun y hy=>?_;subst hx;subst hy;refine ABm (Al8 (fun s:Int × Int=>0<=s.1/\0<=s.2/\s.1.natAbs < AEn/\s.2.natAbs < AEn/\(0 < s.1∨0 < s.2)/\ ∀ d:Int,d ∣ s.1->d ∣ s.2->d ∣ a/\d ∣ b) (fun s=>s.2.natAbs) (Q:=fun g=>0 < g/\g ∣ a/\g ∣ b) (fun s hs=>?_) ⟨by omega,by omega,by omega,by omega,.inr (by omega),fun d h1 h2=>⟨Int.dvd_natAbs.1 h1,Int.dvd_natAbs.1 h2⟩⟩ (by dsimp only;omega)) fun g hg=>ABk hg;obtain ⟨u,v⟩:=s;obtain ⟨h1,h2,h3,h4,h5,h6⟩:=hs;unfold AJu;dsimp only at h1 h2 h3 h4 h5 h6 ⊢;refine ABm (AC7 (a:=AG6 v) rfl) fun s hs=>?_;subst hs;refine ACj (fun hv=>?_) fun hv=>ABk ?_
 ·have Ab:v≠0:=fun h=>hv ((Abe v).2 h);refine ABm (AC7 (Asv h3 h4 Ab)) fun r hr=>ABk ?_;subst hr;have e1:=Int.emod_nonneg u Ab;have e2:=Int.emod_lt_of_pos u (show 0 < v by omega);refine ⟨⟨h2,e1,h4,by omega,.inl (by omega),fun d d1 d2=>h6 d ?_ d1⟩,by omega⟩;have:=Int.dvd_add d2 (Int.dvd_trans d1 ⟨u / v,rfl⟩);rwa [Int.emod_add_mul_ediv] at this
 ·have Ab:v=0:=by
    rcases Decidable.em (AG6 v=0) with h | h
    · exact (Abe v).1 h
    · exact absurd h hv
  subst Ab;exact ⟨by omega,h6 u (Int.dvd_refl u) ⟨0,by simp⟩⟩
def FrE (n d n' d':Int):Prop:=0 < d'/\n' * d=n * d'/\n'.natAbs<=n.natAbs/\d'.natAbs<=d.natAbs
theorem Ap5 {fuel:Nat} {a b:Int} (ha:a.natAbs < AEn) (hb:b.natAbs < AEn) (h0:b≠0) (hf:AEn < fuel):Ok (AF8 fuel a b) fun r=>r.2=true/\FrE a b r.1.1 r.1.2:=by
 unfold AF8;refine ABm (AC7 (a:=AG6 b) rfl) fun s hs=>?_;subst hs;refine ACj (fun h=>absurd ((Abe b).1 h) h0) fun _=>ABm (Q:=fun e:Int × Int=>0 < e.2/\e.1 * b=a * e.2/\e.1.natAbs=a.natAbs/\e.2.natAbs=b.natAbs) (ABm (AC7 (a:=AG6 b) rfl) fun s hs=>?_) fun e he=>?_
 ·subst hs;refine ACj (fun h=>?_) fun h=>ABk ⟨?_,rfl,rfl,rfl⟩
  ·have:=(Ahd b).1 h;refine ABm (AC7 (a:= -a) rfl) fun x hx=>ABm (AC7 (a:= -b) rfl) fun y hy=>ABk ?_;subst hx;subst hy;exact ⟨by dsimp only;omega,by dsimp only;grind,by dsimp only;omega,by dsimp only;omega⟩
  ·have: ¬ b < 0:=fun h2=>h ((Ahd b).2 h2);dsimp only;omega
 ·obtain ⟨u,v⟩:=e;obtain ⟨h1,h2,h3,h4⟩:=he;dsimp only at h1 h2 h3 h4 ⊢;refine ABm (Asw (a:=u) (b:=v) (by omega) (by omega) (by omega) hf) fun g hg=>?_;obtain ⟨g1,⟨u',rfl⟩,⟨v',rfl⟩⟩:=hg;have gn:g≠0:=by omega
  have hv':0 < v':=Int.pos_of_mul_pos_right h1 g1;have e1:(g * u').natAbs=g.natAbs * u'.natAbs:=Int.natAbs_mul _ _;have e2:(g * v').natAbs=g.natAbs * v'.natAbs:=Int.natAbs_mul _ _;have g2:1<=g.natAbs:=by omega
  have m1:=Nat.mul_le_mul_right u'.natAbs g2;have m2:=Nat.mul_le_mul_right v'.natAbs g2;have m3:=Nat.mul_le_mul_left g.natAbs (show 1<=v'.natAbs by omega);refine ABm (AC7 (Al9 (by omega) (by omega) gn)) fun x hx=>ABm (AC7 (Al9 (by omega) (by omega) gn)) fun y hy=>ABk ⟨rfl,?_⟩;subst hx;subst hy;rw [Int.mul_ediv_cancel_left _ gn,Int.mul_ediv_cancel_left _ gn];refine ⟨hv',?_,by dsimp only;omega,by dsimp only;omega⟩;have:g * (u' * b)=g * (a * v'):=by grind
  exact Int.eq_of_mul_eq_mul_left gn this
theorem Abf {fuel:Nat} {a b:Int} (ha:a.natAbs < AEn) (hb:b.natAbs < AEn) (h0:b≠0) (hf:AEn < fuel):Ok (ADp fuel a b) fun r=>FrE a b r.1 r.2:=by
 unfold ADp;refine ABm (Ap5 ha hb h0 hf) fun r hr=>?_;obtain ⟨⟨x,y⟩,c⟩:=r;obtain ⟨h1,h2⟩:=hr;dsimp only at h1 h2 ⊢;subst h1;exact ACj (fun h=>absurd h (by decide)) fun _=>ABk h2
theorem Ard {fuel:Nat} {a b:Int} (ha:a.natAbs < AEn) (hb:b.natAbs < AEn) (h0:b≠0) (hf:AEn < fuel):Ok (AFl fuel a b) fun r=>FrE a b r.1 r.2:=by
 unfold AFl;exact ABm (Abf ha hb h0 hf) fun r hr=>ABk hr
theorem Adn {N D N' D':Int} (hD:0 < D) (hD':0 < D') (h:N * D'=N' * D):N / D=N' / D':=by
 rw [<- Int.mul_ediv_mul_of_pos_left N D hD',h,Int.mul_comm D D',Int.mul_ediv_mul_of_pos_left N' D' hD]
theorem Are {fuel:Nat} {a b:Int} (hab:4 * (a.natAbs + b.natAbs) < AEn) (h0:0 < b) (hf:AEn < fuel):Ok (AFs fuel a b) fun r=>r=(2 * a + b) / (2 * b):=by
 have Ag:(1:Int).natAbs < AEn:=by
   have:(1:Int).natAbs=1:=rfl
   omega
 have Ah:(2:Int).natAbs < AEn:=by
   have:(2:Int).natAbs=2:=rfl
   omega
 unfold AFs;refine ABm (Q:=(· =(1,2))) ?_ fun hh he=>?_
 ·unfold AIz;exact ABm (Q:=(· =1)) ⟨1,if_pos (by omega),rfl⟩ fun x hx=>ABm (Q:=(· =2)) ⟨2,if_pos (by omega),rfl⟩ fun y hy=>ABk (by rw [hx,hy])
 subst he;dsimp only;refine ABm (Q:=fun r=>0 < r.2/\r.1 * (2 * b)=(2 * a + b) * r.2/\r.1.natAbs < AEn/\r.2.natAbs < AEn) ?_ fun r hr=>?_
 ·unfold AI9;refine ABm (Abf (by omega) (by omega) (by omega) hf) fun x hx=>ABm (Abf (a:=1) (b:=2) Ag Ah (by omega) hf) fun y hy=>?_;obtain ⟨x1,x2⟩:=x;obtain ⟨y1,y2⟩:=y;obtain ⟨a1,a2,a3,a4⟩:=hx;obtain ⟨b1,b2,b3,b4⟩:=hy;dsimp only at *;obtain rfl:y2=2:=by omega
  obtain rfl:y1=1:=by omega
  refine ABm (AC7 (a:=x1 * 2) (if_pos (by have:(2:Int).natAbs=2:=rfl;rw [this];omega))) fun u hu=>ABm (AC7 (a:=1 * x2) (if_pos (by have:(1:Int).natAbs=1:=rfl;rw [this];omega))) fun v hv=>?_;subst hu;subst hv;refine ABm (AC7 (a:=x1 * 2 + 1 * x2) (if_pos ⟨by omega,by omega⟩)) fun w hw=>ABm (AC7 (a:=x2 * 2) (if_pos (by have:(2:Int).natAbs=2:=rfl;rw [this];omega))) fun z hz=>?_;subst hw;subst hz;refine ABm (Ap5 (by omega) (by omega) (by omega) hf) fun r hr=>ABk ?_;obtain ⟨⟨r1,r2⟩,c⟩:=r;obtain ⟨-,c1,c2,c3,c4⟩:=hr;dsimp only at *;refine ⟨c1,?_,by omega,by omega⟩;have h1:x2 * (r1 * (2 * b))=x2 * ((2 * a + b) * r2):=by grind
  exact Int.eq_of_mul_eq_mul_left (show x2≠0 by omega) h1
 ·obtain ⟨r1,r2⟩:=r;obtain ⟨h1,h2,h3,h4⟩:=hr;dsimp only at *;unfold AIh;refine ABm (Q:=fun r=>r=(2 * a + b) / (2 * b)) (ABm (Abf h3 h4 (by omega) hf) fun x hx=>?_) fun z hz=>ABk hz;obtain ⟨x1,x2⟩:=x;obtain ⟨a1,a2,a3,a4⟩:=hx;dsimp only at *;refine ABm (AC7 (Al9 (by omega) (by omega) (by omega))) fun q hq=>ABk ?_;subst hq;refine Adn a1 (by omega) ?_;have h5:r2 * (x1 * (2 * b))=r2 * ((2 * a + b) * x2):=by grind
  exact Int.eq_of_mul_eq_mul_left (show r2≠0 by omega) h5
end Go.Proofs.YtiegjkmfpcgjjaaGreatDoor
namespace Go.Proofs.YtiegjkmfpcgjjaaGreatDoor
open Go Go.QF
set_option maxRecDepth 100000
theorem Ado:64 * (dBd AGo (8 + 1) * dBd AGo (8 + 1)) < AEn:=by decide
theorem Ama {fuel n j:Nat} {F:Nat->Nat->Int} (hn:n<=8) (hj:j + 1 < n) (hb:∀ i j,i < n->j < n->(F i j).natAbs<=AGo) (hf:100 < fuel):Ok (AF4 fuel (tab n n F) (ADz n fun a=>det (a + 1) F) ((j + 1:Nat):Int)) fun r=>r=true↔LvF F j:=by
 show Ok _ fun r:Bool=>r=true↔3 * (det (j + 1) F * det (j + 1) F)<=4 * (det j F * det (j + 2) F + Mn j F (j + 1) j * Mn j F (j + 1) j);unfold AF4;have w1:w64 (((j + 1:Nat):Int) - 1)=(j:Int):=by rw [wk (by omega)];omega
 have w2:w64 (((j + 1:Nat):Int) + 1)=((j + 2:Nat):Int):=by rw [wk (by omega)];omega
 rw [w1,w2];have hD:=Ado;have bl:(Mn j F (j + 1) j).natAbs<=dBd AGo (8 + 1):=AX9 hn (by omega) (by omega) (by omega) hb;have b0:(det j F).natAbs<=dBd AGo (8 + 1):=ASf hn (by omega) hb;have b1:(det (j + 1) F).natAbs<=dBd AGo (8 + 1):=ASf hn (by omega) hb;have b2:(det (j + 2) F).natAbs<=dBd AGo (8 + 1):=ASf hn (by omega) hb;have p1:=Nat.mul_le_mul b0 b2;have p2:=Nat.mul_le_mul bl bl;have p3:=Nat.mul_le_mul b1 b1;have e1:=Int.natAbs_mul (det j F) (det (j + 2) F);have e2:=Int.natAbs_mul (Mn j F (j + 1) j) (Mn j F (j + 1) j);have e3:=Int.natAbs_mul (det (j + 1) F) (det (j + 1) F);refine ABm (AC7 (AX8 hn (by omega) (by omega) hb hf)) fun l hl=>?_;subst hl;refine ABm (Q:=(· =4)) ⟨4,if_pos (by omega),rfl⟩ fun x hx=>?_;subst hx;refine ABm (AC7 (ASz (by omega) hn)) fun x hx=>ABm (AC7 (ASz (by omega) hn)) fun y hy=>?_;subst hx;subst hy;refine ABm (AC7 (a:=det j F * det (j + 2) F) (if_pos (by omega))) fun x hx=>ABm (AC7 (a:=Mn j F (j + 1) j * Mn j F (j + 1) j) (if_pos (by omega))) fun y hy=>?_;subst hx;subst hy;generalize det j F * det (j + 2) F=P at *;generalize Mn j F (j + 1) j * Mn j F (j + 1) j=L at *;refine ABm (AC7 (a:=P + L) (if_pos (by omega))) fun x hx=>ABm (AC7 (a:=4 * x) (if_pos (by have:(4:Int).natAbs=4:=rfl;rw [this];omega))) fun y hy=>?_;subst hx;subst hy;refine ABm (Q:=(· =3)) ⟨3,if_pos (by omega),rfl⟩ fun x hx=>?_;subst hx;refine ABm (AC7 (ASz (by omega) hn)) fun x hx=>ABm (AC7 (ASz (by omega) hn)) fun y hy=>?_;subst hx;subst hy;refine ABm (AC7 (a:=det (j + 1) F * det (j + 1) F) (if_pos (by omega))) fun x hx=>?_;subst hx;generalize det (j + 1) F * det (j + 1) F=S at *;refine ABm (AC7 (a:=3 * S) (if_pos (by have:(3:Int).natAbs=3:=rfl;rw [this];omega))) fun x hx=>ABm (AC7 (a:=AQa (4 * (P + L)) x) rfl) fun c hc=>ABk ?_;subst hx;subst hc;rw [decide_eq_true_iff];unfold AQa;split <;> (try split) <;> omega
def AQg (A:Nat->Nat->Int) (i j:Nat):Int:= -((2 * Mn j A i j + det (j + 1) A) / (2 * det (j + 1) A))
def ATt (A:Nat->Nat->Int) (i j:Nat):Nat->Nat->Int:=ADc dl j fun q=>if q=i then AQg A i j else dl j q
def AUo (A:Nat->Nat->Int) (i:Nat):Prop:= ∀ r l,l < r->r < i->SzF A r l
def AV1 (A:Nat->Nat->Int) (i:Nat):Prop:= ∀ r,r + 1 < i->LvF A r
def Amb (n:Nat) (A:Nat->Nat->Int) (r:List (List Int) × Bool):Prop:=
  (r=([],false)/\AUo A n/\AV1 A n)∨
  (∃ i j,j < i/\i < n/\¬ SzF A i j/\AUo A i/\(∀ l,l < i->j < l->SzF A i l)/\AV1 A i/\r=(tab n n (ATt A i j),true))∨
  ∃ j,j + 1 < n/\¬ LvF A j/\AUo A (j + 2)/\AV1 A (j + 1)/\r=(tab n n (AFi dl (j + 1) j),true)
theorem Arf {fuel n:Nat} {A:Nat->Nat->Int} (Ai:1<=n) (hn:n<=8) (hp:ALm n A) (hb:∀ i j,i < n->j < n->(A i j).natAbs<=AGo) (hf:AEn < fuel):Ok (AG1 fuel (tab n n A)) (Amb n A):=by
 have Ac:100 < fuel:=Nat.lt_of_le_of_lt (by decide) hf;have hD:=Ado;unfold AG1;refine ABm (AC7 (AZs Ai hn hb Ac)) fun x hx=>?_;subst hx;dsimp only;rw [AC8];refine ABm (AC7 (Ahc Ai (by omega) Ac)) fun x hx=>?_;subst hx;dsimp only;refine ABm (ACy (fun i s=>s=(((i:Nat):Int),tab n n dl)/\i<=n/\AUo A i/\AV1 A i) n (Q:=fun ex=>match ex with | .inl r=>Amb n A r | .inr _=>AUo A n/\AV1 A n) ⟨rfl,Nat.zero_le _,fun r l h1 h2=>by omega,fun r h=>by omega⟩ (by omega) fun i s hi hI=>?_) fun ex hex=>?_
 ·obtain ⟨rfl,hin,hsz,hlv⟩:=hI;unfold AJj;dsimp only;rw [AC8];refine ACj (fun h=>?_) (fun h=>ABk ?_)
  ·have hi':i < n:=by omega
   refine ABm (ACy (fun k s=>s=((i:Int) - 1 - k,tab n n dl)/\k<=i/\ ∀ l,l < i->i<=l + k->SzF A i l) i (Q:=fun ex=>match ex with | .inl r=>Amb n A r | .inr e=>e=tab n n dl/\ ∀ l,l < i->SzF A i l) ⟨by rw [wk (by omega)];simp,Nat.zero_le _,fun l h1 h2=>by omega⟩ (by omega) fun k s hk hK=>?_) fun ex hex=>?_
   ·obtain ⟨rfl,hki,hz⟩:=hK;unfold AJi;dsimp only;refine ACj (fun h2=>?_) (fun h2=>ABk ⟨rfl,fun l hl=>hz l hl (by omega)⟩);obtain ⟨j,hj⟩:∃ j:Nat,(i:Int) - 1 - k=j:=⟨i - 1 - k,by omega⟩;rw [hj];have hji:j < i:=by omega
    refine ABm (AC7 (Aor hn hi' (by omega) hb Ac)) fun b Ag=>?_;subst Ag;refine ACj (fun h3=>?_) (fun h3=>ABk ⟨by omega,?_,by omega,fun l h4 h5=>?_⟩)
    ·have hbad: ¬ SzF A i j:=fun h=>by rw [<- Ag8] at h;simp [h] at h3
     refine AB9 (ADd (by omega)) rfl (ABm (AC7 (AX8 hn hi' (by omega) hb Ac)) fun l hl=>?_);subst hl;rw [show w64 ((j:Int) + 1)=((j + 1:Nat):Int) by rw [wk (by omega)];omega];refine ABm (AC7 (ASz (by omega) hn)) fun d hd=>?_;subst hd;have bl:(Mn j A i j).natAbs<=dBd AGo (8 + 1):=AX9 hn hi' (by omega) (by omega) hb;have b1:(det (j + 1) A).natAbs<=dBd AGo (8 + 1):=ASf hn (by omega) hb;have hd:=hp (j + 1) (by omega);have hDD:dBd AGo (8 + 1)<=dBd AGo (8 + 1) * dBd AGo (8 + 1):=Nat.le_mul_of_pos_left _ (by omega);refine ABm (Ard (by omega) (by omega) (by omega) hf) fun q hq=>?_;obtain ⟨x,y⟩:=q;obtain ⟨q1,q2,q3,q4⟩:=hq;dsimp only at q1 q2 q3 q4 ⊢;refine ABm (Are (by omega) q1 hf) fun m hm=>ABm (AC7 (a:= -m) rfl) fun c hc=>?_
     have Ap:c=AQg A i j:=by
       rw [hc,hm]
       unfold AQg
       congr 1
       refine Adn (by omega) (by omega) ?_
       grind
     clear hm hc;refine AB9 (ACk hi') rfl (ABk (.inr (.inl ⟨i,j,hji,hi',hbad,hsz,fun l h4 h5=>hz l h4 (by omega),hlv,?_⟩)));rw [ADu,ADu,AFe,Ap,show (ADz n fun q=>if q=i then AQg A i j else dl j q)=(List.range n).map fun q=>if q=i then AQg A i j else dl j q from rfl,AHj];rfl
    ·rw [wk (by omega)];refine congrArg (fun z=>(z,tab n n dl)) ?_;omega
    ·have hgood:SzF A i j:=by rw [<- Ag8];simpa using h3
     rcases Nat.lt_or_ge (l + k) i with h6 | h6
     ·obtain rfl:l=j:=by omega
      exact hgood
     ·exact hz l h4 h6
   ·cases ex with
    | inl r=>exact ABk hex
    | inr e=>
      obtain ⟨rfl,hzi⟩:=hex
      have hsz':AUo A (i + 1):=fun r l h1 h2=>by
        rcases Nat.lt_or_ge r i with h3 | h3
        · exact hsz r l h1 h3
        · obtain rfl:r=i:=by omega
          exact hzi l h1
      dsimp only
      have nx:w64 ((i:Int) + 1)=((i + 1:Nat):Int):=by rw [wk (by omega)];omega
      refine ACj (fun h4=>?_) (fun h4=>ABk ⟨by omega,by rw [nx],by omega,hsz',fun r hr=>by omega⟩)
      obtain ⟨j,rfl⟩:∃ j,i=j + 1:=⟨i - 1,by omega⟩
      refine ABm (Ama hn hi' hb Ac) fun b Ag=>?_
      refine ACj (fun h5=>?_) (fun h5=>ABk ⟨by omega,by rw [nx],by omega,hsz',fun r hr=>?_⟩)
      · have hbad: ¬ LvF A j:=fun h=>by rw [Ag.2 h] at h5;cases h5
        rw [show w64 (((j + 1:Nat):Int) - 1)=(j:Int) by rw [wk (by omega)];omega]
        refine AB9 (ADd (by omega)) rfl (AB9 (ADd hi') rfl (ABk (.inr (.inr ⟨j,hi',hbad,hsz',hlv,?_⟩))))
        rw [ADu,ADu,show ADz n (dl j)=(List.range n).map (dl j) from rfl,show ADz n (dl (j + 1))=(List.range n).map (dl (j + 1)) from rfl,AHj,AHj]
        rfl
      · have hgood:LvF A j:=Ag.1 (by simpa using h5)
        rcases Nat.lt_or_ge r j with h6 | h6
        · exact hlv r (by omega)
        · obtain rfl:r=j:=by omega
          exact hgood
  ·obtain rfl:i=n:=by omega
   exact ⟨hsz,hlv⟩
 ·cases ex with
  | inl r=>exact ABk hex
  | inr u=>exact ABk (.inl ⟨rfl,hex⟩)
end Go.Proofs.YtiegjkmfpcgjjaaGreatDoor
namespace Go.QF
open Go
theorem Adp (c:Int) (f:Nat->Int) (n:Nat):c * psum f n=psum (fun i=>c * f i) n:=(AD0 c f n).symm
theorem Afr (c:Int) (f:Nat->Int) (n:Nat):psum f n * c=psum (fun i=>f i * c) n:=by
 rw [Int.mul_comm,Adp];exact ABw fun k _=>Int.mul_comm _ _
section
variable {n K:Nat} {p:Int} {e f:Nat->Nat} {a b D D' S:Nat->Nat->Int}
theorem ARg {A B C:Nat->Nat->Int} (i j:Nat):AEy n (AEy n A B) C i j=AEy n A (AEy n B C) i j:=by
 unfold AEy;rw [ABw (g:=fun k=>psum (fun l=>A i l * B l k * C k j) n) fun k _=>Afr _ _ _,AMz]
 exact ABw fun l _=>by
   rw [Adp]
   exact ABw fun k _=>by grind
end
end Go.QF
namespace Go.Proofs.YtiegjkmfpcgjjaaGreatDoor
open Go Go.QF
set_option maxRecDepth 100000
theorem Amc {S E:Type} {body:S->Option (S ⊕ E)} {Q:E->Prop} (I:Nat->S->Prop) (hs:∀ k s,I k s->Ok (body s) fun r=>match r with | .inl s'=> ∃ k',k' < k/\I k' s' | .inr e=>Q e):∀ {fuel k:Nat} {s0:S},I k s0->k < fuel->Ok (iter body fuel s0) Q:=by
  intro fuel;induction fuel with
  | zero=>intro k s0 _ h;omega
  | succ f ih=>
    intro k s0 h0 hf;obtain ⟨r,hr,hq⟩:=hs k s0 h0;cases r with
    | inl s'=>
      obtain ⟨k',h1,h2⟩:=hq;obtain ⟨e,he,hQ⟩:=ih h2 (by omega);exact ⟨e,by simp [iter,hr,he],hQ⟩
    | inr e=>exact ⟨e,by simp [iter,hr],hq⟩
theorem Adq {n i j s:Nat} {A:Nat->Nat->Int} (hj:j < i) (hi:i < n) (hs:s < n) (X:Nat->Int):psum (fun k=>X k * ATt A i j k s) n=X s + if s=i then AQg A i j * X j else 0:=by
 have h1:∀ k,X k * ATt A i j k s=X k * dl k s + (if k=j then (if s=i then AQg A i j * X j else 0) else 0):=fun k=>by
   unfold ATt
   rw [ACr]
   split
   · next h=>
     subst h
     split
     · next h2=>subst h2;unfold dl;rw [if_neg (by omega)];grind
     · simp
   · simp
 rw [ABw fun k _=>h1 k,ALl,Aay X hs,AM4 (a:=j) (by omega) fun k _ hk=>if_neg hk,if_pos rfl]
theorem Adr {n i j r s:Nat} {A:Nat->Nat->Int} (hj:j < i) (hi:i < n) (hr:r < n) (hs:s < n):AEy n (AEy n (trF (ATt A i j)) A) (ATt A i j) r s=AUm A i j (AQg A i j) r s:=by
 have h2:∀ k,AEy n (trF (ATt A i j)) A r k=A r k + if r=i then AQg A i j * A j k else 0:=fun k=>by
   show psum (fun l=>ATt A i j l r * A l k) n=_
   rw [ABw (g:=fun l=>A l k * ATt A i j l r) fun l _=>Int.mul_comm _ _]
   exact Adq hj hi hr fun l=>A l k
 show psum (fun k=>AEy n (trF (ATt A i j)) A r k * ATt A i j k s) n=_;rw [Adq hj hi hs fun k=>AEy n (trF (ATt A i j)) A r k];rw [h2,h2,AWq];split <;> split <;> first | (subst_vars;grind) | grind
theorem Abg (j k s:Nat):AFi dl (j + 1) j k s=dl (tau j k) s:=by
 rw [AKa];unfold tau;split
 ·next h=>subst h;rfl
 ·split <;> rfl
theorem Ahe (j k:Nat):tau j (tau j k)=k:=by unfold tau;split <;> (try split) <;> (try split) <;> omega
theorem Arh {j k n:Nat} (hj:j + 1 < n) (hk:k < n):tau j k < n:=by unfold tau;split <;> (try split) <;> omega
theorem Ahf {n j s:Nat} (hj:j + 1 < n) (hs:s < n) (X:Nat->Int):psum (fun k=>X k * AFi dl (j + 1) j k s) n=X (tau j s):=by
 rw [AM4 (a:=tau j s) (Arh hj hs) fun k hk hne=>?_]
 ·rw [Abg,Ahe];unfold dl;rw [if_pos rfl];simp
 ·rw [Abg];unfold dl;rw [if_neg (fun h=>hne (by rw [<- h,Ahe]))];simp
theorem Ahg {n j r s:Nat} {A:Nat->Nat->Int} (hj:j + 1 < n) (hr:r < n) (hs:s < n):AEy n (AEy n (trF (AFi dl (j + 1) j)) A) (AFi dl (j + 1) j) r s=swA A j r s:=by
 show psum (fun k=>AEy n (trF (AFi dl (j + 1) j)) A r k * AFi dl (j + 1) j k s) n=_;rw [Ahf hj hs fun k=>AEy n (trF (AFi dl (j + 1) j)) A r k];show psum (fun l=>AFi dl (j + 1) j l r * A l (tau j s)) n=_;rw [ABw (g:=fun l=>A l (tau j s) * AFi dl (j + 1) j l r) fun l _=>Int.mul_comm _ _];exact Ahf hj hr fun l=>A l (tau j s)
theorem ARh {n:Nat} {A A' B B':Nat->Nat->Int} {i j:Nat} (hA:∀ k,k < n->A i k=A' i k) (hB:∀ k,k < n->B k j=B' k j):AEy n A B i j=AEy n A' B' i j:=ABw fun k hk=>by rw [hA k hk,hB k hk]
theorem Aou {n:Nat} {T U:Nat->Nat->Int} (i j:Nat):trF (AEy n T U) i j=AEy n (trF U) (trF T) i j:=ABw fun k _=>Int.mul_comm _ _
def Afs (n:Nat) (A0 T A:Nat->Nat->Int):Prop:= ∀ i j,i < n->j < n->A i j=AEy n (trF T) (AEy n A0 T) i j
theorem AZt {n:Nat} {A0 T A U B:Nat->Nat->Int} (H:Afs n A0 T A) (K:∀ i j,i < n->j < n->AEy n (AEy n (trF U) A) U i j=B i j):Afs n A0 (AEy n T U) B:=fun i j hi hj=>by
  rw [<- K i j hi hj,ARg]
  have h1:AEy n (trF U) (AEy n A U) i j=AEy n (trF U) (AEy n (trF T) (AEy n A0 (AEy n T U))) i j:=by
    refine ARh (fun _ _=>rfl) fun k hk=>?_;rw [ARh (A':=AEy n (trF T) (AEy n A0 T)) (fun l hl=>H k l hk hl) (fun _ _=>rfl),ARg];refine ARh (fun _ _=>rfl) fun l hl=>?_;rw [ARg]
  rw [h1,<- ARg];exact ARh (fun k _=>(Aou i k).symm) fun _ _=>rfl
theorem Aov {n:Nat} {A:Nat->Nat->Int}:Afs n A dl A:=fun i j hi hj=>by
  show _=psum (fun k=>dl k i * AEy n A dl k j) n
  rw [ABw (g:=fun k=>AEy n A dl k j * dl k i) fun k _=>Int.mul_comm _ _,Aay (fun k=>AEy n A dl k j) hi]
  exact (Aff hj).symm
def dm9:Int:=9 ^ 8
def Aiv:Int:=2 ^ 97
theorem Aow {n i t:Nat} {A:Nat->Nat->Int} (hn:n<=8) (h:Abb n dm9 A i t):∀ k,k < n->A k k<=Aiv:=fun k hk=>by
  by_cases e:k=i
  · subst e
    have h1:=AZq (p:=(2 ^ 7 * (2 * dm9)) * (2 ^ 7 * (2 * dm9))) (q:=1) h.sym h.pos h.hi h.dm (by decide) (by decide) (fun l hl=>by
      have h2:=h.lamb l hl;have h3:(2:Int) ^ t * (2 * dm9)<=2 ^ 7 * (2 * dm9):=Int.mul_le_mul_of_nonneg_right (AWr (by have:=h.ht;omega)) (by decide);have h4:=h.pos (l + 1) (by have:=h.hi;omega);have h5:=Int.mul_le_mul_of_nonneg_right h3 (Int.le_of_lt h4);have h6:=ASe (x:=Mn l A k l) (y:=2 ^ 7 * (2 * dm9) * det (l + 1) A) (by omega) (by omega);rw [Int.one_mul];refine Int.le_trans h6 (Int.le_of_eq ?_);grind) k 0 (by omega)
    rw [ANb,show det 0 A=1 from rfl,Int.one_mul] at h1
    have h7:(1 + (k:Int) * ((2 ^ 7 * (2 * dm9)) * (2 ^ 7 * (2 * dm9)))) * (dm9 * 1)<=(1 + 7 * ((2 ^ 7 * (2 * dm9)) * (2 ^ 7 * (2 * dm9)))) * (dm9 * 1):=by
      refine Int.mul_le_mul_of_nonneg_right ?_ (by decide);have:=Int.mul_le_mul_of_nonneg_right (show (k:Int)<=7 by omega) (show (0:Int)<=(2 ^ 7 * (2 * dm9)) * (2 ^ 7 * (2 * dm9)) by decide);omega
    exact Int.le_trans h1 (Int.le_trans h7 (by decide))
  · exact Int.le_trans (h.rows k hk e) (by decide)
theorem Ads {n:Nat} {A:Nat->Nat->Int} {B:Int} (hs:AJ5 n A) (hp:ALm n A) (hB:∀ k,k < n->A k k<=B) {i j:Nat} (hi:i < n) (hj:j < n): -B<=A i j/\A i j<=B:=by
 have h1:=AZo (k:=0) hs hp (Nat.zero_le _) hi hj;simp only [ANb] at h1;have p1:=AZp (k:=0) hs hp (Nat.zero_le _) hi;have p2:=AZp (k:=0) hs hp (Nat.zero_le _) hj;simp only [ANb] at p1 p2;have h2:=Int.mul_le_mul (hB i hi) (hB j hj) p2 (Int.le_trans p1 (hB i hi));exact Ag5 (Int.le_trans p1 (hB i hi)) (Int.le_trans h1 h2)
theorem Ahh {n:Nat} {A:Nat->Nat->Int} {B:Int} (hs:AJ5 n A) (hp:ALm n A) (hB:∀ k,k < n->A k k<=B) {i j:Nat} (hi:i < n) (hj:j < n):(A i j).natAbs<=B.natAbs:=by
 have:=Ads hs hp hB hi hj;omega
def AZu:Nat:=(2 ^ 240) ^ 5
theorem Adt:16 * (AZu * AZu) < AEn:=by decide
def AZv:Nat:=(2 ^ 220) ^ 5
theorem Asx {n:Nat} {A0 A T:Nat->Nat->Int} (hn:n<=8) (hE:∀ i j,(A0 i j).natAbs<=2 ^ 40) (hs:AJ5 n A0) (hp:ALm n A0) (H:Afs n A0 T A) (hB:∀ k,k < n->A k k<=Aiv) {k s:Nat} (hk:k < n) (hs2:s < n):(T k s).natAbs<=AZv:=by
  have h1:=Aom hs hp (fun r=>T r s) hk
  have h2:bil n 0 A0 (fun r=>T r s) (fun r=>T r s)=A s s:=by
    rw [H s s hs2 hs2];show _=psum (fun i=>T i s * psum (fun j=>A0 i j * T j s) n) n;unfold bil;refine ABw fun i _=>?_;rw [<- AD0];exact ABw fun j _=>by rw [ANb];grind
  rw [h2] at h1
  have h3:(ALf n A0 k k).natAbs<=dBd (2 ^ 40) 9:=by
    refine Nat.le_trans (AWl (m:=2 ^ 40) fun i j=>?_) (AOv (by decide) (by omega));rw [ACr]
    split
    · unfold dl;split <;> decide
    · exact hE i j
  have h4:ALf n A0 k k * A s s<=(dBd (2 ^ 40) 9:Nat) * Aiv:=by
    have p0:0<=A s s:=by
      have:A s s=bil n 0 A0 (fun r=>T r s) (fun r=>T r s):=h2.symm;rw [this];exact AOw hs hp _ n 0 (by omega)
    have b1:ALf n A0 k k<=(dBd (2 ^ 40) 9:Nat):=by omega
    have b2:=Int.mul_le_mul_of_nonneg_right b1 p0;have b3:=Int.mul_le_mul_of_nonneg_left (hB s hs2) (show (0:Int)<=(dBd (2 ^ 40) 9:Nat) by omega);omega
  have h5:((dBd (2 ^ 40) 9:Nat):Int) * Aiv<=(AZv:Int) * (AZv:Int):=by decide
  have h6:=Ag5 (x:=T k s) (y:=(AZv:Int)) (by omega) (Int.le_trans (Int.le_trans h1 h4) h5);omega
structure Aft (n:Nat) (A:Nat->Nat->Int):Prop where
  sym:AJ5 n A
  pos:ALm n A
  sz:AUo A n
  lv:AV1 A n
  dt:det n A<=10000
structure RSt (n:Nat) (A0 A T:Nat->Nat->Int) (i t:Nat):Prop where
  inv:Abb n dm9 A i t
  car:Afs n A0 T A
  dt:det n A=det n A0
def Ati (n:Nat) (A0:Nat->Nat->Int) (k:Nat) (s:List (List Int) × List (List Int)):Prop:=
  ∃ A T i t,RSt n A0 A T i t/\s=(tab n n A,tab n n T)/\k=(Adm n A).toNat * 128 + (128 - (16 * i + t))
theorem Ahi {n:Nat} {A:Nat->Nat->Int} (hp:ALm n A):0<=Adm n A:=by
 have:∀ m,m<=n + 1->0<=psum (fun k=>det k A) m:=fun m=>by
   induction m with
   | zero=>intro _;exact Int.le_refl _
   | succ m ih=>intro h;have h1:=ih (by omega);have h2:=hp m (by omega);simp only [psum];omega
 exact this _ (Nat.le_refl _)
theorem Aox {n:Nat} {A:Nat->Nat->Int} (hd:∀ k,k<=n->det k A<=dm9):Adm n A<=(n + 1:Nat) * dm9:=by
 have:∀ m,m<=n + 1->psum (fun k=>det k A) m<=(m:Nat) * dm9:=fun m=>by
   induction m with
   | zero=>intro _;simp [psum]
   | succ m ih=>intro h;have h1:=ih (by omega);have h2:=hd m (by omega);simp only [psum];rw [Int.natCast_add,Int.add_mul];omega
 exact this _ (Nat.le_refl _)
theorem Aiw {n i j:Nat} {A:Nat->Nat->Int} (hn:n<=8) (hj:j < i) (hi:i < n) (hp:ALm n A) (hb:∀ i j,i < n->j < n->(A i j).natAbs<=AGo):(AQg A i j).natAbs<=3 * dBd AGo 9:=by
 have b1:(Mn j A i j).natAbs<=dBd AGo 9:=AX9 hn hi (by omega) (by omega) hb;have b2:(det (j + 1) A).natAbs<=dBd AGo 9:=ASf hn (by omega) hb;have hd:=hp (j + 1) (by omega);unfold AQg;rw [Int.natAbs_neg];have:=Int.natAbs_ediv_le_natAbs (2 * Mn j A i j + det (j + 1) A) (2 * det (j + 1) A);omega
theorem Aix {fuel n:Nat} {A0:Nat->Nat->Int} (Ac:1<=n) (hn:n<=8) (hs:AJ5 n A0) (hp:ALm n A0) (hE:∀ i j,(A0 i j).natAbs<=2 ^ 40) (hD:∀ k,k<=n->det k A0<=dm9) (hr:∀ k,k < n->A0 k k<=3 * dm9) (hdt:det n A0<=10000) (hf:AEn < fuel):
    Ok (AF5 fuel (tab n n A0)) fun r=> ∃ A T,r=(tab n n A,tab n n T,0)/\Aft n A/\Afs n A0 T A/\det n A=det n A0/\ ∀ k,k < n->A k k<=3 * dm9:=by
 have Ad:100 < fuel:=Nat.lt_of_le_of_lt (by decide) hf;have Av:100000000 < fuel:=Nat.lt_of_le_of_lt (by decide) hf;have Ak:∀ i j,i < n->j < n->(A0 i j).natAbs<=AGo:=fun i j _ _=>Nat.le_trans (hE i j) (by decide);unfold AF5;refine ABm (AYb Ac hn Ak Ad) fun v hv=>?_;have Ap:=hv.2 ⟨hs,hp⟩;subst Ap;refine ACj (fun h=>absurd rfl h) fun _=>ABm (AC7 (Aot hn Ak Ad)) fun b hb=>?_;subst hb;refine ACj (fun h=>by simp [hdt] at h) fun _=>?_;refine ABm (AC7 (Ag1 (A:=tab n n A0) (by rw [AC8];omega) (fun z hz=>by rw [AT2 z hz];omega) (by rw [AC8];omega))) fun x hx=>?_;subst hx;rw [AC8];refine ABm (AC7 (Ahc Ac (by omega) Ad)) fun x hx=>?_;subst hx;dsimp only;refine ABm (Amc (Ati n A0) (Q:=fun r=> ∃ A T,r=(tab n n A,tab n n T,0)/\Aft n A/\Afs n A0 T A/\det n A=det n A0/\ ∀ k,k < n->A k k<=3 * dm9) (fun k s hI=>?_) (k:=(Adm n A0).toNat * 128 + 128) ⟨A0,dl,0,0,⟨AX7 Ac hs hp hD hr,Aov,rfl⟩,rfl,rfl⟩ ?_) fun r hr=>ABk hr
 ·obtain ⟨A,T,i,t,R,rfl,rfl⟩:=hI;have L:=R.inv;have hbd:=Aow hn L;have hb:∀ i j,i < n->j < n->(A i j).natAbs<=AGo:=fun i j hi hj=>Nat.le_trans (Ahh L.sym L.pos hbd hi hj) (by decide);have hT:∀ k s,k < n->s < n->(T k s).natAbs<=AZv:=fun k s hk Ab=>Asx hn hE hs hp R.car hbd hk Ab;have hTD:AZv<=AZu:=by decide
  have hMD:AGo<=AZu:=by decide
  unfold AIu;refine ABm (Arf Ac hn L.pos hb hf) fun r hr=>?_
  have prod:∀ {U:Nat->Nat->Int},(∀ i j,i < n->j < n->(U i j).natAbs<=3 * dBd AGo 9)->(AEf fuel (tab n n A) (tab n n U)=some (tab n n (AEy n (AEy n (trF U) A) U))/\ADl fuel (tab n n T) (tab n n U)=some (tab n n (AEy n T U))):=fun {U} hU=>by
    have Am:∀ i j,i < n->j < n->(U i j).natAbs<=AZu:=fun i j hi hj=>Nat.le_trans (hU i j hi hj) (by decide)
    refine ⟨Aos Ac (by omega) Adt (fun i j hi hj=>Nat.le_trans (hb i j hi hj) hMD) Am (fun i j hi hj=>?_) Ad,?_⟩
    · have h1:=psum_abs (f:=fun l=>U l i) (g:=fun l=>A l j) (D:=3 * dBd AGo 9) n fun l hl=>⟨hU l i hl hi,Nat.le_trans (hb l j hl hj) (by decide)⟩
      have h2:n * ((3 * dBd AGo 9) * (3 * dBd AGo 9))<=8 * ((3 * dBd AGo 9) * (3 * dBd AGo 9)):=Nat.mul_le_mul_right _ hn
      have h3:(AEy n (trF U) A i j).natAbs=(psum (fun l=>U l i * A l j) n).natAbs:=rfl
      have h4:∀ l,l < n->(U l i).natAbs<=3 * dBd AGo 9/\(A l j).natAbs<=AGo:=fun l hl=>⟨hU l i hl hi,hb l j hl hj⟩
      have h5:(psum (fun l=>U l i * A l j) n).natAbs<=n * (3 * dBd AGo 9 * AGo):=by
        refine QF.psum_abs fun l hl=>?_
        rw [Int.natAbs_mul]
        exact Nat.mul_le_mul (h4 l hl).1 (h4 l hl).2
      have h6:n * (3 * dBd AGo 9 * AGo)<=8 * (3 * dBd AGo 9 * AGo):=Nat.mul_le_mul_right _ hn
      have h7:8 * (3 * dBd AGo 9 * AGo)<=AZu:=by decide
      rw [h3]
      exact Nat.le_trans h5 (Nat.le_trans h6 h7)
    · unfold ADl
      rw [Al7 Ac (by omega) Adt (fun i j hi hj=>Nat.le_trans (hT i j hi hj) hTD) Am Ad]
      rfl
  rcases hr with ⟨rfl,hsz,hlv⟩ | ⟨i',j,hji,hi',hbad,hsz,hzi,hlv,rfl⟩ | ⟨j,hj,hbad,hsz,hlv,rfl⟩
  ·dsimp only;refine ACj (fun _=>?_) (fun h=>absurd rfl h);have hrest:=ASy hn L fun l hl=>hsz i l hl L.hi;refine ABm (AC7 (Asu Ac (by omega) (fun i j hi hj=>Nat.lt_of_le_of_lt (Ahh L.sym L.pos hrest hi hj) (by decide)) Ad)) fun x hx=>ABk ?_;subst hx;exact ⟨A,T,rfl,⟨L.sym,L.pos,hsz,hlv,by rw [R.dt];exact hdt⟩,R.car,R.dt,hrest⟩
  ·dsimp only;refine ACj (fun h=>absurd h (by decide)) fun _=>?_
   have hU:∀ r s,r < n->s < n->(ATt A i' j r s).natAbs<=3 * dBd AGo 9:=fun r s hr Ab=>by
     have hdl:∀ a b,(dl a b).natAbs<=3 * dBd AGo 9:=fun a b=>by unfold dl;split <;> decide
     unfold ATt
     rw [ACr]
     split
     · split
       · exact Aiw hn hji hi' L.pos hb
       · exact hdl _ _
     · exact hdl _ _
   obtain ⟨e1,e2⟩:=prod hU;refine ABm (AC7 e1) fun x hx=>ABm (AC7 e2) fun y hy=>ABk ?_;subst hx;subst hy;obtain ⟨L2,hm⟩:=Ait hn L hi' hji hbad hsz hzi hlv;have hsum:Adm n (AUm A i' j (AQg A i' j))=Adm n A:=ABw fun k _=>ANc hji;refine ⟨_,?_,AUm A i' j (AQg A i' j),AEy n T (ATt A i' j),i',i' - j,⟨L2,AZt R.car fun r s hr Ab=>Adr hji hi' hr Ab,by rw [ANc hji];exact R.dt⟩,?_,rfl⟩
   ·rw [hsum];have:=L.hi;have:=L.ht;omega
   ·rw [AMi fun r s hr Ab=>Adr hji hi' hr Ab]
  ·dsimp only;refine ACj (fun h=>absurd h (by decide)) fun _=>?_
   have hU:∀ r s,r < n->s < n->(AFi dl (j + 1) j r s).natAbs<=3 * dBd AGo 9:=fun r s hr Ab=>by
     rw [Abg];unfold dl;split <;> decide
   obtain ⟨e1,e2⟩:=prod hU;refine ABm (AC7 e1) fun x hx=>ABm (AC7 e2) fun y hy=>ABk ?_;subst hx;subst hy;obtain ⟨L2,hm⟩:=Aiu hn L hj hbad (fun r l h1 h2=>hsz r l h1 (by omega)) fun r hr=>hlv r (by omega);refine ⟨_,?_,swA A j,AEy n T (AFi dl (j + 1) j),0,0,⟨L2,AZt R.car fun r s hr Ab=>Ahg hj hr Ab,by rw [Ag4 (by omega)];exact R.dt⟩,?_,rfl⟩
   ·have h1:=Ahi L.pos;have h2:=Ahi L2.pos;have:=L.hi;have:=L.ht;omega
   ·rw [AMi fun r s hr Ab=>Ahg hj hr Ab]
 ·have h1:=Aox hD;have h2:((n + 1:Nat):Int) * dm9<=9 * dm9:=Int.mul_le_mul_of_nonneg_right (by omega) (by decide);have h3:(9 * dm9)=387420489:=by decide
  have h4:387420489 * 128 + 128 < AEn:=by decide
  omega
def part (n i:Nat) (G:Nat->Nat->Int):List (List Int):=ADz n fun r=>if r < i then ADz n (G r) else []
theorem AMj {n i r:Nat} {G:Nat->Nat->Int} (hr:r < i) (hn:r < n):(part n i G)[r]? =some (ADz n (G r)):=by
 unfold part;rw [ACk hn,if_pos hr]
theorem AS0 {n i:Nat} {G:Nat->Nat->Int} (hn:i < n):(part n i G)[i]? =some []:=by
 unfold part;rw [ACk hn,if_neg (Nat.lt_irrefl i)]
theorem ANj {n i r:Nat} {G:Nat->Nat->Int} {g:Nat->Int} (hr:r < i):(part n i G).set r (ADz n g)=part n i (ADc G r g):=by
 unfold part;rw [AFe];refine ACv fun k _=>?_;by_cases h:k=r
 ·subst h;rw [if_pos rfl,if_pos hr,AC4]
 ·rw [if_neg h,AD2 _ _ h]
theorem AQh {n i:Nat} {G:Nat->Nat->Int} {g:Nat->Int}:(part n i G).set i (ADz n g)=part n (i + 1) (ADc G i g):=by
 unfold part;rw [AFe];refine ACv fun k _=>?_;by_cases h:k=i
 ·subst h;rw [if_pos rfl,if_pos (by omega),AC4]
 ·rw [if_neg h,AD2 _ _ h];by_cases h2:k < i
  ·rw [if_pos h2,if_pos (by omega)]
  ·rw [if_neg h2,if_neg (by omega)]
theorem AOi (n:Nat) (G:Nat->Nat->Int):part n n G=tab n n G:=by
 unfold part;rw [ANi];exact ACv fun k hk=>if_pos hk
theorem AOj (n:Nat) (G:Nat->Nat->Int):List.replicate n ([]:List Int)=part n 0 G:=by
 rw [AHq];exact ACv fun k _=>(if_neg (by omega)).symm
theorem ATu {L:List Int} {q:Nat} (hq:q < 4611686018427387904):Ok (if (L.length:Int)<=((q:Nat):Int) then (some ((0:Int),((q:Nat):Int))) else ((gI L (w64 ((w64 (((q:Nat):Int) + 1)) - 1))).bind fun x=>(some ((w64 x),(w64 (((q:Nat):Int) + 1)))))) fun e=> ∃ p:Nat,e.2=(p:Int)/\p<=q + 1:=by
  refine ACj (fun h=>ABk ⟨q,rfl,by omega⟩) fun h=>?_;have hl:q < L.length:=by omega
  refine AB9 (n:=q) (List.getElem?_eq_getElem hl) (by rw [AFx (x:=(q:Int) + 1) (by omega) (by omega),wk (by omega)];omega) (ABk ⟨q + 1,?_,by omega⟩);rw [AFx (x:=(q:Int) + 1) (by omega) (by omega)];omega
theorem ARo (x:Int) (m:Nat) (hm:0 < m):0<=Int.tmod (w64 (IntKind.wrap .u8 x)) (m:Int)/\Int.tmod (w64 (IntKind.wrap .u8 x)) (m:Int) < m:=by
 have h1:IntKind.wrap .u8 x=x % 256:=by rw [IntKind.wrap_u8]
 rw [h1];have a1:=Int.emod_nonneg x (show (256:Int)≠0 by decide);have a2:=Int.emod_lt_of_pos x (show (0:Int) < 256 by decide);rw [wk (by omega),Int.tmod_eq_emod_of_nonneg a1];exact ⟨Int.emod_nonneg _ (by omega),Int.emod_lt_of_pos _ (by omega)⟩
def dgF (f:Nat->Int) (r c:Nat):Int:=if c=r then f r else 0
theorem Asy {fuel N q0:Nat} {a1 Ac:Int} {L:List Int} (hN:w64 (1 + (Int.tmod (w64 a1) Ac))=(N:Int)) (Af:N<=8) (Ag:q0<=1000) (hf:100 < fuel):
    Ok (iter (fun s=>AE9 fuel a1 L Ac s.1 s.2.1 s.2.2) fuel (0,(q0:Int),(List.replicate (Int.toNat (w64 (1 + (Int.tmod (w64 a1) Ac)))) ([]:List Int)))) fun e=> ∃ (q:Nat) (f:Nat->Int),e=((q:Int),tab N N (dgF f))/\q<=q0 + N/\ ∀ r,r < N->1<=f r/\f r<=6:=by
 refine ACy (fun i s=> ∃ (q:Nat) (f:Nat->Int),s=(((i:Nat):Int),(q:Int),part N i (dgF f))/\i<=N/\q<=q0 + i/\ ∀ r,r < i->1<=f r/\f r<=6) N ⟨q0,fun _=>0,by rw [hN,Int.toNat_natCast,AOj N (dgF fun _=>0)];rfl,by omega,by omega,fun r hr=>by omega⟩ (by omega) fun i s hi hI=>?_;obtain ⟨q,f,rfl,hiN,hq,Ad⟩:=hI;unfold AE9;dsimp only;rw [List.length_replicate,hN,Int.toNat_natCast];refine ACj (fun h=>AEm (by omega) ?_) (fun h=>ABk ?_)
 ·have hi':i < N:=by omega
  refine AB9 (AS0 hi') rfl ?_;rw [ADu,AHq N (0:Int),AQh];refine AB9 (AMj (by omega) hi') rfl ?_;rw [AC4];refine ABm (Q:=fun e:Int × Int=>0<=e.1/\e.1 < 6/\ ∃ p:Nat,e.2=(p:Int)/\p<=q + 1) (ABm (ATu (L:=L) (q:=q) (by omega)) fun e he=>?_) fun e he=>AB9 (ACk hi') rfl (ABk ⟨by omega,?_⟩)
  ·exact ABk ⟨(ARo _ 6 (by decide)).1,(ARo _ 6 (by decide)).2,he⟩
  ·obtain ⟨h1,h2,p,h3,h4⟩:=he;refine ⟨p,fun r=>if r=i then 1 + e.1 else f r,?_,by omega,by omega,fun r hr=>?_⟩
   ·rw [AFx (x:=(i:Int) + 1) (by omega) (by omega),AFx (x:=1 + e.1) (by omega) (by omega),h3,ADu,ADu,AFe,ANj (by omega)];refine congrArg (fun z=>(((i + 1:Nat):Int),(p:Int),z)) (ACv fun r hr=>?_);split
    ·refine ACv fun c hc=>?_;rw [ACr];unfold dgF;dsimp only;split
     ·next h=>subst h;rfl
     ·next h=>rw [ACr,if_neg h]
    ·rfl
   ·dsimp only;split
    ·omega
    ·exact Ad r (by omega)
 ·obtain rfl:i=N:=by omega
  exact ⟨q,f,by rw [AOi],by omega,Ad⟩
theorem Ari {fuel N q0:Nat} {a1 Ac:Int} {L:List Int} (hN:w64 (1 + (Int.tmod (w64 a1) Ac))=(N:Int)) (Af:N<=8) (Ag:q0<=1000) (hf:100 < fuel):
    Ok (iter (fun s=>AEz fuel a1 L Ac s.1 s.2.1 s.2.2) fuel (0,(q0:Int),(List.replicate (Int.toNat (w64 (1 + (Int.tmod (w64 a1) Ac)))) ([]:List Int)))) fun e=> ∃ (q:Nat) (f:Nat->Int),e=((q:Int),tab N N (dgF f))/\q<=q0 + N/\ ∀ r,r < N->1<=f r/\f r<=9:=by
 refine ACy (fun i s=> ∃ (q:Nat) (f:Nat->Int),s=(((i:Nat):Int),(q:Int),part N i (dgF f))/\i<=N/\q<=q0 + i/\ ∀ r,r < i->1<=f r/\f r<=9) N ⟨q0,fun _=>0,by rw [hN,Int.toNat_natCast,AOj N (dgF fun _=>0)];rfl,by omega,by omega,fun r hr=>by omega⟩ (by omega) fun i s hi hI=>?_;obtain ⟨q,f,rfl,hiN,hq,Ad⟩:=hI;unfold AEz;dsimp only;rw [List.length_replicate,hN,Int.toNat_natCast];refine ACj (fun h=>AEm (by omega) ?_) (fun h=>ABk ?_)
 ·have hi':i < N:=by omega
  refine AB9 (AS0 hi') rfl ?_;rw [ADu,AHq N (0:Int),AQh];refine AB9 (AMj (by omega) hi') rfl ?_;rw [AC4];refine ABm (Q:=fun e:Int × Int=>0<=e.1/\e.1 < 9/\ ∃ p:Nat,e.2=(p:Int)/\p<=q + 1) (ABm (ATu (L:=L) (q:=q) (by omega)) fun e he=>?_) fun e he=>AB9 (ACk hi') rfl (ABk ⟨by omega,?_⟩)
  ·exact ABk ⟨(ARo _ 9 (by decide)).1,(ARo _ 9 (by decide)).2,he⟩
  ·obtain ⟨h1,h2,p,h3,h4⟩:=he;refine ⟨p,fun r=>if r=i then 1 + e.1 else f r,?_,by omega,by omega,fun r hr=>?_⟩
   ·rw [AFx (x:=(i:Int) + 1) (by omega) (by omega),AFx (x:=1 + e.1) (by omega) (by omega),h3,ADu,ADu,AFe,ANj (by omega)];refine congrArg (fun z=>(((i + 1:Nat):Int),(p:Int),z)) (ACv fun r hr=>?_);split
    ·refine ACv fun c hc=>?_;rw [ACr];unfold dgF;dsimp only;split
     ·next h=>subst h;rfl
     ·next h=>rw [ACr,if_neg h]
    ·rfl
   ·dsimp only;split
    ·omega
    ·exact Ad r (by omega)
 ·obtain rfl:i=N:=by omega
  exact ⟨q,f,by rw [AOi],by omega,Ad⟩
theorem Arj {fuel N q0:Nat} {a1 Ac:Int} {L:List Int} (hN:w64 (1 + (Int.tmod (w64 a1) Ac))=(N:Int)) (Af:N<=8) (Ag:q0<=1000) (hf:100 < fuel):
    Ok (iter (fun s=>AE0 fuel a1 L Ac s.1 s.2.1 s.2.2) fuel (0,(q0:Int),(List.replicate (Int.toNat (w64 (1 + (Int.tmod (w64 a1) Ac)))) ([]:List Int)))) fun e=> ∃ (q:Nat) (f:Nat->Int),e=((q:Int),tab N N (dgF f))/\q<=q0 + N/\ ∀ r,r < N->1<=f r/\f r<=1:=by
 refine ACy (fun i s=> ∃ (q:Nat) (f:Nat->Int),s=(((i:Nat):Int),(q:Int),part N i (dgF f))/\i<=N/\q<=q0 + i/\ ∀ r,r < i->1<=f r/\f r<=1) N ⟨q0,fun _=>0,by rw [hN,Int.toNat_natCast,AOj N (dgF fun _=>0)];rfl,by omega,by omega,fun r hr=>by omega⟩ (by omega) fun i s hi hI=>?_;obtain ⟨q,f,rfl,hiN,hq,Ad⟩:=hI;unfold AE0;dsimp only;rw [List.length_replicate,hN,Int.toNat_natCast];refine ACj (fun h=>AEm (by omega) ?_) (fun h=>ABk ?_)
 ·have hi':i < N:=by omega
  refine AB9 (AS0 hi') rfl ?_;rw [ADu,AHq N (0:Int),AQh];refine AB9 (AMj (by omega) hi') rfl ?_;rw [AC4];refine ABm (Q:=fun e:Int × Int=>0<=e.1/\e.1 < 1/\ ∃ p:Nat,e.2=(p:Int)/\p<=q + 1) (ABm (ATu (L:=L) (q:=q) (by omega)) fun e he=>?_) fun e he=>AB9 (ACk hi') rfl (ABk ⟨by omega,?_⟩)
  ·exact ABk ⟨(ARo _ 1 (by decide)).1,(ARo _ 1 (by decide)).2,he⟩
  ·obtain ⟨h1,h2,p,h3,h4⟩:=he;refine ⟨p,fun r=>if r=i then 1 + e.1 else f r,?_,by omega,by omega,fun r hr=>?_⟩
   ·rw [AFx (x:=(i:Int) + 1) (by omega) (by omega),AFx (x:=1 + e.1) (by omega) (by omega),h3,ADu,ADu,AFe,ANj (by omega)];refine congrArg (fun z=>(((i + 1:Nat):Int),(p:Int),z)) (ACv fun r hr=>?_);split
    ·refine ACv fun c hc=>?_;rw [ACr];unfold dgF;dsimp only;split
     ·next h=>subst h;rfl
     ·next h=>rw [ACr,if_neg h]
    ·rfl
   ·dsimp only;split
    ·omega
    ·exact Ad r (by omega)
 ·obtain rfl:i=N:=by omega
  exact ⟨q,f,by rw [AOi],by omega,Ad⟩
theorem Ark {fuel N q0:Nat} {a1 Ac:Int} {L:List Int} (hN:w64 (1 + (Int.tmod (w64 a1) Ac))=(N:Int)) (Af:N<=8) (Ag:q0<=1000) (hf:100 < fuel):
    Ok (iter (fun s=>AE1 fuel a1 L Ac s.1 s.2.1 s.2.2) fuel (0,(q0:Int),(List.replicate (Int.toNat (w64 (1 + (Int.tmod (w64 a1) Ac)))) ([]:List Int)))) fun e=> ∃ (q:Nat) (f:Nat->Int),e=((q:Int),tab N N (dgF f))/\q<=q0 + N/\ ∀ r,r < N->1<=f r/\f r<=2:=by
 refine ACy (fun i s=> ∃ (q:Nat) (f:Nat->Int),s=(((i:Nat):Int),(q:Int),part N i (dgF f))/\i<=N/\q<=q0 + i/\ ∀ r,r < i->1<=f r/\f r<=2) N ⟨q0,fun _=>0,by rw [hN,Int.toNat_natCast,AOj N (dgF fun _=>0)];rfl,by omega,by omega,fun r hr=>by omega⟩ (by omega) fun i s hi hI=>?_;obtain ⟨q,f,rfl,hiN,hq,Ad⟩:=hI;unfold AE1;dsimp only;rw [List.length_replicate,hN,Int.toNat_natCast];refine ACj (fun h=>AEm (by omega) ?_) (fun h=>ABk ?_)
 ·have hi':i < N:=by omega
  refine AB9 (AS0 hi') rfl ?_;rw [ADu,AHq N (0:Int),AQh];refine AB9 (AMj (by omega) hi') rfl ?_;rw [AC4];refine ABm (Q:=fun e:Int × Int=>0<=e.1/\e.1 < 2/\ ∃ p:Nat,e.2=(p:Int)/\p<=q + 1) (ABm (ATu (L:=L) (q:=q) (by omega)) fun e he=>?_) fun e he=>AB9 (ACk hi') rfl (ABk ⟨by omega,?_⟩)
  ·exact ABk ⟨(ARo _ 2 (by decide)).1,(ARo _ 2 (by decide)).2,he⟩
  ·obtain ⟨h1,h2,p,h3,h4⟩:=he;refine ⟨p,fun r=>if r=i then 1 + e.1 else f r,?_,by omega,by omega,fun r hr=>?_⟩
   ·rw [AFx (x:=(i:Int) + 1) (by omega) (by omega),AFx (x:=1 + e.1) (by omega) (by omega),h3,ADu,ADu,AFe,ANj (by omega)];refine congrArg (fun z=>(((i + 1:Nat):Int),(p:Int),z)) (ACv fun r hr=>?_);split
    ·refine ACv fun c hc=>?_;rw [ACr];unfold dgF;dsimp only;split
     ·next h=>subst h;rfl
     ·next h=>rw [ACr,if_neg h]
    ·rfl
   ·dsimp only;split
    ·omega
    ·exact Ad r (by omega)
 ·obtain rfl:i=N:=by omega
  exact ⟨q,f,by rw [AOi],by omega,Ad⟩
theorem Arl {fuel N q0:Nat} {L:List Int} {F0:Nat->Nat->Int} (Ag:N<=8) (Ah:q0<=1000) (Ad:∀ i j,i < N->j < N->(F0 i j).natAbs<=9) (hf:100 < fuel):
    Ok (iter (fun s=>AFa fuel L (tab N N F0) s.1 s.2.1 s.2.2) fuel (0,(q0:Int),tab N N F0)) fun e=> ∃ (q:Nat) (F:Nat->Nat->Int),e=((q:Int),tab N N F)/\q<=q0 + 8 * N/\ ∀ i j,i < N->j < N->(F i j).natAbs<=9:=by
 refine ACy (fun i s=> ∃ (q:Nat) (F:Nat->Nat->Int),s=(((i:Nat):Int),(q:Int),tab N N F)/\i<=N/\q<=q0 + 8 * i/\ ∀ i j,i < N->j < N->(F i j).natAbs<=9) N ⟨q0,F0,rfl,by omega,by omega,Ad⟩ (by omega) fun i s hi hI=>?_;obtain ⟨q,F,rfl,hiN,hq,hF⟩:=hI;unfold AFa;dsimp only;rw [AC8];refine ACj (fun h=>?_) (fun h=>ABk ⟨q,F,rfl,by omega,hF⟩);have hi':i < N:=by omega
 refine ABm (ACy (fun j s=> ∃ (p:Nat) (F:Nat->Nat->Int),s=(((j:Nat):Int),(p:Int),tab N N F)/\j<=i/\p<=q + j/\ ∀ i j,i < N->j < N->(F i j).natAbs<=9) i (Q:=fun e=> ∃ (p:Nat) (F:Nat->Nat->Int),e=((p:Int),tab N N F)/\p<=q + i/\ ∀ i j,i < N->j < N->(F i j).natAbs<=9) ⟨q,F,rfl,by omega,by omega,hF⟩ (by omega) fun j s hj hJ=>?_) fun e he=>?_
 ·obtain ⟨p,F,rfl,hji,hp,hF⟩:=hJ;unfold AGp;dsimp only;refine ACj (fun h=>?_) (fun h=>ABk ⟨p,F,rfl,by omega,hF⟩);have hj':j < i:=by omega
  refine AB9 (ADd hi') rfl (ABm (ATu (L:=L) (q:=p) (by omega)) fun e he=>AB9 (ACk (by omega)) rfl ?_);obtain ⟨p2,h3,h4⟩:=he;rw [ADu,ADu,AFe,show (ADz N fun c=>if c=j then Int.tmod e.1 3 else F i c)=(List.range N).map fun c=>if c=j then Int.tmod e.1 3 else F i c from rfl,AHj];refine AB9 (ADd (by omega)) rfl (AB9 (ADd hi') rfl (AB9 (ACk (by omega)) rfl (AB9 (ACk hi') rfl (ABk ⟨by omega,p2,?_⟩))));generalize Af:(ADc F i fun c=>if c=j then Int.tmod e.1 3 else F i c)=F1
  have hv:(Int.tmod e.1 3).natAbs<=9:=by
    have:=Int.natAbs_tmod e.1 3
    have h5:e.1.natAbs % (3:Int).natAbs < 3:=Nat.mod_lt _ (by decide)
    omega
  have hF1b:∀ i j,i < N->j < N->(F1 i j).natAbs<=9:=fun a b ha hb=>by
    subst Af
    rw [ACr]
    split
    · split
      · exact hv
      · exact hF i b hi' hb
    · exact hF a b ha hb
  refine ⟨ADc F1 j fun c=>if c=i then F1 i j else F1 j c,?_,by omega,by omega,fun a b ha hb=>?_⟩
  ·rw [wk (by omega),h3,ADu,ADu,AFe,show (ADz N fun c=>if c=i then F1 i j else F1 j c)=(List.range N).map fun c=>if c=i then F1 i j else F1 j c from rfl,AHj];rfl
  ·rw [ACr];split
   ·split
    ·exact hF1b i j hi' (by omega)
    ·exact hF1b j b (by omega) hb
   ·exact hF1b a b ha hb
 ·obtain ⟨p,F,rfl,hp,hF⟩:=he;exact ABk ⟨by omega,p,F,by rw [wk (by omega)];rfl,by omega,by omega,hF⟩
theorem Ahj {fuel N:Nat} {b:Bool} (Ag:1<=N) (Ah:N<=8) (hf:100 < fuel):Ok (AFr fuel (N:Int) b) fun e=> ∃ F,e=tab N N F/\ ∀ i j,i < N->j < N->(F i j).natAbs<=2:=by
 unfold AFr;refine AEm (by omega) ?_;rw [Int.toNat_natCast];refine ABm (ACy (fun i s=> ∃ G:Nat->Nat->Int,s=(((i:Nat):Int),part N i G)/\i<=N/\ ∀ r c,(G r c).natAbs<=2) N (Q:=fun e=> ∃ F,e=tab N N F/\ ∀ i j,i < N->j < N->(F i j).natAbs<=2) ⟨fun _ _=>0,by rw [AOj N fun _ _=>0];rfl,by omega,fun _ _=>Nat.zero_le _⟩ (by omega) fun i s hi hI=>?_) fun e he=>ABk he;obtain ⟨G,rfl,hiN,hG⟩:=hI;unfold AJh;dsimp only;rw [List.length_replicate,Int.toNat_natCast];refine ACj (fun h=>AEm (by omega) ?_) (fun h=>ABk ?_)
 ·have hi':i < N:=by omega
  refine AB9 (AS0 hi') rfl ?_;rw [ADu,AHq N (0:Int),AQh];refine AB9 (AMj (by omega) hi') rfl ?_;rw [AC4];refine AB9 (ACk hi') rfl ?_;rw [ADu,ADu,AFe,ANj (by omega)]
  have Ab:∀ r c,(ADc (ADc G i fun x=>0) i (fun c=>if c=i then 2 else 0) r c).natAbs<=2:=fun r c=>by
    rw [ACr]
    split
    · split <;> decide
    · rw [ACr]
      split
      · decide
      · exact hG r c
  generalize (ADc (ADc G i fun x=>0) i fun c=>if c=i then 2 else 0)=G1 at Ab;have wi:w64 ((i:Int) + 1)=((i + 1:Nat):Int):=by rw [wk (by omega)];omega
  refine ABm (Q:=fun k=>k=(i:Int) - 1∨k=(i:Int) - 2) ?_ fun k hk=>?_
  ·have w1:w64 ((i:Int) - 1)=(i:Int) - 1:=wk (by omega);have w2:w64 ((i:Int) - 2)=(i:Int) - 2:=wk (by omega);rw [w1,w2];exact ACj (fun _=>ACj (fun _=>ACj (fun _=>ABk (.inr rfl)) fun _=>ABk (.inl rfl)) fun _=>ABk (.inl rfl)) fun _=>ABk (.inl rfl)
  ·refine ACj (fun h=>?_) (fun h=>ABk ⟨by omega,G1,by rw [wi],by omega,Ab⟩);obtain ⟨k,rfl⟩:∃ q:Nat,k=q:=⟨k.toNat,by omega⟩;have hki:k < i:=by omega
   refine AB9 (AMj (by omega) hi') rfl (AB9 (AMj (by omega) (by omega)) rfl (AB9 (ACk (by omega)) rfl ?_));rw [ADu,ADu,AFe,ANj (by omega)]
   have Ac:∀ r c,(ADc G1 i (fun c=>if c=k then -1 else G1 i c) r c).natAbs<=2:=fun r c=>by
     rw [ACr]
     split
     · split
       · decide
       · exact Ab i c
     · exact Ab r c
   generalize (ADc G1 i fun c=>if c=k then -1 else G1 i c)=G2 at Ac;refine AB9 (AMj (by omega) (by omega)) rfl (AB9 (ACk hi') rfl (ABk ⟨by omega,ADc G2 k fun c=>if c=i then -1 else G2 k c,?_,by omega,fun r c=>?_⟩))
   ·rw [wi,ADu,ADu,AFe,ANj (by omega)]
   ·rw [ACr];split
    ·split
     ·decide
     ·exact Ac k c
    ·exact Ac r c
 ·obtain rfl:i=N:=by omega
  exact ⟨G,AOi _ _,fun a b _ _=>hG a b⟩
theorem Amd {n B:Nat} {F:Nat->Nat->Int} (hB:B < 9223372036854775808) (h:∀ i j,i < n->j < n->(F i j).natAbs<=B):∀ z∈tab n n F,∀ x∈z,-9223372036854775808<=x/\x<=9223372036854775807:=fun z hz x hx=>by
  obtain ⟨i,hi⟩:=List.getElem?_of_mem hz
  have hin:i < n:=by have:=(List.getElem?_eq_some_iff.1 hi).1;rwa [AC8] at this
  rw [ADd hin] at hi
  cases hi
  obtain ⟨j,hj⟩:=List.getElem?_of_mem hx
  have hjn:j < n:=by have:=(List.getElem?_eq_some_iff.1 hj).1;rwa [ADb] at this
  rw [ACk hjn] at hj
  cases hj
  have:=h i j hin hjn
  omega
theorem Aoy {n:Nat} {F:Nat->Nat->Int} (hn:1<=n) (Aa:n<=16):okM (tab n n F)=true:=by
 have hc:ALu (tab n n F)=n:=Ajm hn;unfold okM;rw [decide_eq_true_iff,AC8,hc];exact ⟨hn,Aa,fun z hz=>by rw [AT2 z hz];exact ⟨hn,Aa,rfl⟩⟩
theorem Afu {fuel n:Nat} {F:Nat->Nat->Int} (hn:1<=n) (Aa:n<=16) (h:∀ i j,i < n->j < n->(F i j).natAbs<=9223372036854775807) (hf:17 < fuel):AE3 fuel (tab n n F)=some (tab n n F):=by
 rw [Aso (Amd (by decide) h) hf,if_pos (Aoy hn Aa)]
theorem Arm {fuel n:Nat} {F:Nat->Nat->Int} (Ab:1<=n) (hn:n<=8) (hb:∀ i j,i < n->j < n->(F i j).natAbs<=1000000) (hf:100 < fuel):Ok (AHo fuel (tab n n F)) fun r=>r=true↔AJ5 n F/\ALm n F/\det n F<=10000:=by
 have Ac:∀ i j,i < n->j < n->(F i j).natAbs<=AGo:=fun i j hi hj=>Nat.le_trans (hb i j hi hj) (by decide);unfold AHo;refine ABm (AC7 (Afu Ab (by omega) (fun i j hi hj=>Nat.le_trans (hb i j hi hj) (by decide)) (by omega))) fun x hx=>?_;subst hx;refine ABm (AYb Ab hn Ac hf) fun v hv=>ACj (fun h=>?_) fun h=>ABk (Iff.intro (fun h2=>nomatch h2) fun h2=>absurd (hv.2 ⟨h2.1,h2.2.1⟩) h);have h1:=hv.1 h;refine ABm (AC7 (AUi hn Ac (by omega))) fun d hd=>ABm (Q:=(· =10000)) ⟨10000,if_pos (by omega),rfl⟩ fun t ht=>ABm (AC7 (a:=AQa d t) rfl) fun c hc=>ABk ?_;subst hd;subst ht;subst hc;rw [decide_eq_true_iff,Abd];exact ⟨fun h2=>⟨h1.1,h1.2,h2⟩,fun h2=>h2.2.2⟩
theorem Arn {n:Nat} {f:Nat->Int} (hn:n<=8) (h:∀ r,r < n->1<=f r/\f r<=2):AJ5 n (dgF f)/\ALm n (dgF f)/\det n (dgF f)<=10000:=by
 have hd:∀ k,k<=n->det k (dgF f)=AGb f k:=fun k hk=>by
   rw [AQd (F:=dgF f) (fun c i hc hci hi=>by unfold dgF;rw [if_neg (by omega)])]
   exact AVy fun i _=>by unfold dgF;rw [if_pos rfl]
 have hb:∀ k,k<=n->0 < AGb f k/\AGb f k<=2 ^ k:=fun k=>by
   induction k with
   | zero=>intro _;simp [AGb]
   | succ k ih=>
     intro hk
     have h1:=ih (by omega)
     have h2:=h k (by omega)
     simp only [AGb]
     refine ⟨Int.mul_pos h1.1 (by omega),?_⟩
     rw [Int.pow_succ]
     exact Int.mul_le_mul h1.2 h2.2 (by omega) (Int.le_of_lt (AUn k))
 refine ⟨fun i j hi hj=>?_,fun k hk=>by rw [hd k hk];exact (hb k hk).1,?_⟩
 ·unfold dgF;split
  ·next h=>subst h;rw [if_pos rfl]
  ·next h=>rw [if_neg (fun h2=>h h2.symm)]
 ·rw [hd n (Nat.le_refl n)];have:=(hb n (Nat.le_refl n)).2;have h2:=AWr hn;omega
structure Asz (n:Nat) (A:Nat->Nat->Int):Prop where
  n1:1<=n
  n8:n<=8
  sym:AJ5 n A
  pos:ALm n A
  bd:∀ i j,i < n->j < n->(A i j).natAbs<=9
  dt:det n A<=10000
theorem Ahk {n m:Nat} {f:Nat->Int} (h:∀ r,r < n->1<=f r/\f r<=(m:Int)):∀ i j,i < n->j < n->(dgF f i j).natAbs<=m:=fun i j hi hj=>by
  unfold dgF
  have:=h i hi
  split <;> omega
theorem Aro {fuel:Nat} {a1 a2 most:Int} {L L2:List Int} (h1:0<=a1/\a1 < 256) (hm:1<=most/\most<=8) (hf:100 < fuel):Ok (AEu fuel a1 a2 L L2 most) fun r=> ∃ n A,r=tab n n A/\Asz n A/\(n:Int)=1 + Int.tmod a1 most:=by
 have t1:=Int.emod_nonneg a1 (show most≠0 by omega);have t2:=Int.emod_lt_of_pos a1 (show 0 < most by omega);have t3:Int.tmod a1 most=a1 % most:=Int.tmod_eq_emod_of_nonneg h1.1
 have hN:w64 (1 + Int.tmod (w64 a1) most)=((1 + a1 % most).toNat:Int):=by
   rw [AFx (x:=a1) (by omega) (by omega),t3,wk (by omega)];omega
 generalize hNN:(1 + a1 % most).toNat=N at hN;have Ae:1<=N:=by omega
 have Ab:N<=8:=by omega
 unfold AEu;refine AEm (by omega) (ABm (Q:=fun e=> ∃ (q:Nat) (F:Nat->Nat->Int),e=(tab N N F,(q:Int))/\q<=200/\ ∀ i j,i < N->j < N->(F i j).natAbs<=9) (ABm (Q:=fun _=>True) ?_ fun k _=>ACj (fun _=>?_) fun _=>ACj (fun _=>?_) fun _=>ACj (fun _=>?_) fun _=>ACj (fun _=>?_) fun _=>?_) fun e he=>?_)
 ·exact ACj (fun _=>ABk trivial) fun _=>ACj (fun _=>ABk trivial) fun _=>ACj (fun _=>ABk trivial) fun _=>ABk trivial
 ·refine ABm (Q:=fun e=> ∃ (q:Nat) (F:Nat->Nat->Int),e=(tab N N F,(q:Int))/\q<=200/\ ∀ i j,i < N->j < N->(F i j).natAbs<=9) (ABm (Q:=fun e=> ∃ (q:Nat) (f:Nat->Int),e=(tab N N (dgF f),(q:Int))/\q<=8/\ ∀ r,r < N->1<=f r/\f r<=6) (AEm (by rw [hN];omega) (ABm (Asy (q0:=0) (L:=L) hN Ab (by omega) hf) fun e he=>ABk ?_)) fun e he=>?_) fun e he=>ABk he
  ·obtain ⟨q,f,rfl,h2,h3⟩:=he;exact ⟨q,f,rfl,by omega,h3⟩
  ·obtain ⟨q,f,rfl,h2,h3⟩:=he;refine ABm (Arl (L:=L) (q0:=q) Ab (by omega) (fun i j hi hj=>Nat.le_trans (Ahk (m:=6) h3 i j hi hj) (by decide)) hf) fun e he=>ABk ?_;obtain ⟨q,F,rfl,h4,h5⟩:=he;exact ⟨q,F,rfl,by omega,h5⟩
 ·rw [hN];refine ABm (Ahj Ae Ab hf) fun F hF=>?_;obtain ⟨F,rfl,hF⟩:=hF;refine AB9 (n:=0) (ADd (by omega)) rfl (AB9 (n:=0) (ACk (by omega)) rfl (ABm (Q:=fun e:Int × Int=>0<=e.1/\e.1 < 3/\ ∃ p:Nat,e.2=(p:Int)/\p<=0 + 1) (ABm (ATu (L:=L) (q:=0) (by omega)) fun e he=>ABk ⟨(ARo _ 3 (by decide)).1,(ARo _ 3 (by decide)).2,he⟩) fun e he=>ABk ?_));obtain ⟨c1,c2,p,c3,c4⟩:=he;have c5:=hF 0 0 (by omega) (by omega);refine ⟨p,ADc F 0 fun c=>if c=0 then F 0 0 + e.1 else F 0 c,?_,by omega,fun i j hi hj=>?_⟩
  ·rw [c3,wk (by omega)];refine congrArg (fun z=>(z,(p:Int))) ?_;show (tab N N F).set 0 ((ADz N (F 0)).set 0 (F 0 0 + e.1))=_;rw [AFe];exact AHj
  ·rw [ACr];split
   ·split
    ·omega
    ·have:=hF 0 j (by omega) hj;omega
   ·have:=hF i j hi hj;omega
 ·rw [hN];refine ABm (Ahj Ae Ab hf) fun F hF=>?_;obtain ⟨F,rfl,hF⟩:=hF;have w1:w64 ((N:Int) - 1)=((N - 1:Nat):Int):=by rw [wk (by omega)];omega
  rw [w1];refine AB9 (ADd (by omega)) rfl (AB9 (ACk (by omega)) rfl (ABm (Q:=fun e:Int × Int=>0<=e.1/\e.1 < 2/\ ∃ p:Nat,e.2=(p:Int)/\p<=0 + 1) (ABm (ATu (L:=L) (q:=0) (by omega)) fun e he=>ABk ⟨(ARo _ 2 (by decide)).1,(ARo _ 2 (by decide)).2,he⟩) fun e he=>ABk ?_));obtain ⟨c1,c2,p,c3,c4⟩:=he;have c5:=hF (N - 1) (N - 1) (by omega) (by omega);refine ⟨p,ADc F (N - 1) fun c=>if c=N - 1 then F (N - 1) (N - 1) + e.1 else F (N - 1) c,?_,by omega,fun i j hi hj=>?_⟩
  ·rw [c3,wk (by omega),ADu,ADu];refine congrArg (fun z=>(z,(p:Int))) ?_;rw [AFe];exact AHj
  ·rw [ACr];split
   ·split
    ·omega
    ·have:=hF (N - 1) j (by omega) hj;omega
   ·have:=hF i j hi hj;omega
 ·refine ABm (Q:=fun e=> ∃ (q:Nat) (F:Nat->Nat->Int),e=(tab N N F,(q:Int))/\q<=200/\ ∀ i j,i < N->j < N->(F i j).natAbs<=9) (AEm (by rw [hN];omega) (ABm (Ari (q0:=0) (L:=L) hN Ab (by omega) hf) fun e he=>ABk ?_)) fun e he=>ABk he;obtain ⟨q,f,rfl,h2,h3⟩:=he;exact ⟨q,dgF f,rfl,by omega,fun i j hi hj=>Ahk (m:=9) h3 i j hi hj⟩
 ·refine ABm (Q:=fun e=> ∃ (q:Nat) (F:Nat->Nat->Int),e=(tab N N F,(q:Int))/\q<=200/\ ∀ i j,i < N->j < N->(F i j).natAbs<=9) (AEm (by rw [hN];omega) (ABm (Arj (q0:=0) (L:=L) hN Ab (by omega) hf) fun e he=>ABk ?_)) fun e he=>ABk he;obtain ⟨q,f,rfl,h2,h3⟩:=he;exact ⟨q,dgF f,rfl,by omega,fun i j hi hj=>Nat.le_trans (Ahk (m:=1) h3 i j hi hj) (by decide)⟩
 ·obtain ⟨q,F,rfl,h2,h3⟩:=he;dsimp only;refine ABm (Arm Ae Ab (fun i j hi hj=>Nat.le_trans (h3 i j hi hj) (by decide)) hf) fun b hb=>ACj (fun hn=>?_) fun hn=>ABk ?_
  ·refine ABm (Q:=fun e=> ∃ f:Nat->Int,e.1=tab N N (dgF f)/\ ∀ r,r < N->1<=f r/\f r<=2) (AEm (by rw [hN];omega) (ABm (Ark (q0:=q) (L:=L) hN Ab (by omega) hf) fun e he=>ABk ?_)) fun e he=>ABk ?_
   ·obtain ⟨q,f,rfl,h4,h5⟩:=he;exact ⟨f,rfl,h5⟩
   ·obtain ⟨f,h4,h5⟩:=he;obtain ⟨d1,d2,d3⟩:=Arn Ab h5;exact ⟨N,dgF f,h4,⟨Ae,Ab,d1,d2,fun i j hi hj=>Nat.le_trans (Ahk (m:=2) h5 i j hi hj) (by decide),d3⟩,by rw [t3];omega⟩
  ·have hg:AJ5 N F/\ALm N F/\det N F<=10000:=hb.1 (by simpa using hn);exact ⟨N,F,rfl,⟨Ae,Ab,hg.1,hg.2.1,h3,hg.2.2⟩,by rw [t3];omega⟩
theorem Arp {fuel:Nat} {a1 a2 most:Int} {L L2:List Int} (h1:0<=a1/\a1 < 256) (hm:1<=most/\most<=8) (hf:AEn < fuel):Ok (AEv fuel a1 a2 L L2 most) fun r=> ∃ n A,r=tab n n A/\1<=n/\(n:Int)<=most/\Aft n A/\ ∀ k,k < n->A k k<=3 * dm9:=by
  have hf2:100 < fuel:=Nat.lt_of_le_of_lt (by decide) hf;unfold AEv;refine ABm (Aro h1 hm hf2) fun g hg=>?_;obtain ⟨n,A,rfl,G,hn⟩:=hg;have t2:=Int.emod_lt_of_pos a1 (show 0 < most by omega);have t3:Int.tmod a1 most=a1 % most:=Int.tmod_eq_emod_of_nonneg h1.1
  let A0:Nat->Nat->Int:=fun i j=>if i < n/\j < n then A i j else 0
  have hA0:∀ i j,i < n->j < n->A0 i j=A i j:=fun i j hi hj=>if_pos ⟨hi,hj⟩;have e:tab n n A=tab n n A0:=AMi fun i j hi hj=>(hA0 i j hi hj).symm;refine ABm (AC7 (Afu G.n1 (by have:=G.n8;omega) (fun i j hi hj=>Nat.le_trans (G.bd i j hi hj) (by decide)) (by omega))) fun x hx=>?_;subst hx;rw [e];have hp:ALm n A0:=fun k hk=>by rw [ADa fun i j hi hj=>hA0 i j (by omega) (by omega)];exact G.pos k hk
  have hs:AJ5 n A0:=fun i j hi hj=>by rw [hA0 i j hi hj,hA0 j i hj hi];exact G.sym i j hi hj
  have hE:∀ i j,(A0 i j).natAbs<=9:=fun i j=>by
    show (if i < n/\j < n then A i j else 0).natAbs<=9
    split
    · next h=>exact G.bd i j h.1 h.2
    · decide
  have hh:=Aly hs hp (B:=9) (by decide) (fun i hi=>by have:=hE i i;omega)
  refine ABm (Aix G.n1 G.n8 hs hp (fun i j=>Nat.le_trans (hE i j) (by decide)) (fun k hk=>?_) (fun k hk=>?_) ?_ hf) fun r hr=>ABk ?_
  · have h2:=hh k hk
    have h3:(9:Int) ^ k<=9 ^ 8:=by
      have:=Nat.pow_le_pow_right (show 0 < 9 by omega) (show k<=8 by have:=G.n8;omega);have e2:∀ t:Nat,(9:Int) ^ t=((9 ^ t:Nat):Int):=fun t=>by simp
      rw [e2,e2];omega
    exact Int.le_trans h2 h3
  · have:=hE k k;have:(3 * dm9)=129140163:=by decide
    omega
  · rw [ADa hA0];exact G.dt
  · obtain ⟨A',T,rfl,R,-,-,hd⟩:=hr;exact ⟨n,A',rfl,G.n1,by rw [hn,t3];omega,R,hd⟩
theorem Ame {A:Nat->Nat->Int} {k:Nat} (h1:LvF A k) (h2:SzF A (k + 1) k) (hp:0 < det (k + 1) A):det (k + 1) A * det (k + 1) A<=2 * (det k A * det (k + 2) A):=by
 unfold LvF at h1;unfold SzF at h2;have h3:(2 * Mn k A (k + 1) k) * (2 * Mn k A (k + 1) k)<=det (k + 1) A * det (k + 1) A:=ASe (by omega) h2.2;have h4:(2 * Mn k A (k + 1) k) * (2 * Mn k A (k + 1) k)=4 * (Mn k A (k + 1) k * Mn k A (k + 1) k):=by grind
 omega
theorem AMk {x y:Int} (h0:0<=x) (h:x<=y):∀ k:Nat,x ^ k<=y ^ k
  | 0=>by simp
  | k + 1=>by
    rw [Int.pow_succ,Int.pow_succ]
    exact Int.mul_le_mul (AMk h0 h k) h h0 (Int.le_trans (Int.pow_nonneg h0) (AMk h0 h k))
def tri:Nat->Nat
  | 0=>0
  | k + 1=>tri k + (k + 1)
theorem Afv {n:Nat} {A:Nat->Nat->Int} (hp:ALm n A) (hs:AUo A n) (hl:AV1 A n):∀ k,k + 1<=n->det k A ^ (k + 1)<=det (k + 1) A ^ k * 2 ^ tri k:=by
  intro k;induction k with
  | zero=>intro _;simp [det,tri]
  | succ k ih=>
    intro hk;have ih:=ih (by omega);have p0:=hp k (by omega);have p1:=hp (k + 1) (by omega);have p2:=hp (k + 2) (by omega);have h1:=Ame (hl k (by omega)) (hs (k + 1) k (by omega) (by omega)) p1;generalize det k A=a at *
    generalize det (k + 1) A=b at *
    generalize det (k + 2) A=c at *
    have h2:(b * b) ^ (k + 1)<=(2 * (a * c)) ^ (k + 1):=AMk (Int.le_of_lt (Int.mul_pos p1 p1)) h1 _;rw [Int.mul_pow,Int.mul_pow,Int.mul_pow] at h2;have h3:a ^ (k + 1) * c ^ (k + 1)<=b ^ k * 2 ^ tri k * c ^ (k + 1):=Int.mul_le_mul_of_nonneg_right ih (Int.le_of_lt (Int.pow_pos p2));have h4:2 ^ (k + 1) * (a ^ (k + 1) * c ^ (k + 1))<=2 ^ (k + 1) * (b ^ k * 2 ^ tri k * c ^ (k + 1)):=Int.mul_le_mul_of_nonneg_left h3 (Int.le_of_lt (AUn _));have h5:=Int.le_trans h2 h4;have e1:b ^ (k + 1) * b ^ (k + 1)=b ^ k * b ^ (k + 1 + 1):=by rw [Int.pow_succ b k,Int.pow_succ b (k + 1),Int.pow_succ b k];grind
    have e2:(2:Int) ^ (k + 1) * (b ^ k * 2 ^ tri k * c ^ (k + 1))=b ^ k * (c ^ (k + 1) * 2 ^ tri (k + 1)):=by
      have:(2:Int) ^ tri (k + 1)=2 ^ tri k * 2 ^ (k + 1):=by rw [<- Int.pow_add];rfl
      rw [this];grind
    rw [e1,e2] at h5;exact Int.le_of_mul_le_mul_left h5 (Int.pow_pos p1)
def dU:Nat->Int
  | 8=>10000
  | 7=>35777
  | 6=>64000
  | 5=>57243
  | 4=>25600
  | _=>10000
theorem As0 (k:Nat):dU k<=64000:=by unfold dU;split <;> omega
theorem Ap6 (k:Nat):10000<=dU k:=by unfold dU;split <;> omega
theorem Aoz:∀ k,k < 8->dU (k + 1) ^ k * 2 ^ tri k < (dU k + 1) ^ (k + 1):=by decide
theorem Aiy {n:Nat} {A:Nat->Nat->Int} (hn:n<=8) (hp:ALm n A) (hs:AUo A n) (hl:AV1 A n) (hd:det n A<=10000):∀ m k,k + m=n->det k A<=dU k:=by
 intro m
 induction m with
 | zero=>
     intro k hk;obtain rfl:k=n:=by omega
     exact Int.le_trans hd (Ap6 _)
 | succ m ih=>
   intro k hk
   have h1:=ih (k + 1) (by omega)
   have h2:=Afv hp hs hl k (by omega)
   have p0:=hp k (by omega)
   have p1:=hp (k + 1) (by omega)
   rcases Int.lt_or_le (dU k) (det k A) with h | h
   · exfalso
     have h3:(dU k + 1) ^ (k + 1)<=det k A ^ (k + 1):=AMk (by have:=Ap6 k;omega) (by omega) _
     have h4:det (k + 1) A ^ k * 2 ^ tri k<=dU (k + 1) ^ k * 2 ^ tri k:=Int.mul_le_mul_of_nonneg_right (AMk (Int.le_of_lt p1) h1 k) (Int.le_of_lt (AUn _))
     have h5:=Aoz k (by omega)
     omega
   · exact h
theorem Adu {n:Nat} {A:Nat->Nat->Int} (hn:n<=8) (R:Aft n A) {k:Nat} (hk:k<=n):0 < det k A/\det k A<=64000:=
  ⟨R.pos k hk,Int.le_trans (Aiy hn R.pos R.sz R.lv R.dt (n - k) k (by omega)) (As0 k)⟩
theorem Abh {n:Nat} {A:Nat->Nat->Int} (hn:n<=8) (R:Aft n A) {i j:Nat} (hi:i < n) (hj:j < n): -192000<=A i j/\A i j<=192000:=
  Ads R.sym R.pos (fun k hk=>Adj (Dm:=64000) hn R.sym R.pos hk (fun k hk=>(Adu hn R hk).2) fun l hl=>R.sz k l hl hk) hi hj
structure RB (n:Nat) (A:Nat->Nat->Int) (k:Nat):Prop where
  pos:∀ j,k < j->j<=n->0 < det j A
  lt:∀ j,k < j->j < n->det j A < 65536
  sz:∀ l i,k<=l->l < i->i < n->SzF A i l
  lv:∀ l,k<=l->l + 1 < n->LvF A l
  dt:det n A<=10000
theorem Arq {A F:Nat->Nat->Int} {m k:Nat} (h0:0 < det k A) (hF:∀ i j,i < m + 1->j < m + 1->F i j=Mn k A (k + i) (k + j)) {i j:Nat} (hi:i < m) (hj:j < m):AO6 F (det k A) i j=Mn (k + 1) A (k + 1 + i) (k + 1 + j):=by
 unfold AO6;rw [hF 0 0 (by omega) (by omega),hF (i + 1) (j + 1) (by omega) (by omega),hF (i + 1) 0 (by omega) (by omega),hF 0 (j + 1) (by omega) (by omega),Nat.add_zero,AWk (by omega),Int.mul_tdiv_cancel_left _ (by omega)];rw [show k + (i + 1)=k + 1 + i by omega,show k + (j + 1)=k + 1 + j by omega]
theorem Adv {n:Nat} {A:Nat->Nat->Int}:∀ (m k:Nat) (F:Nat->Nat->Int),k + m=n->1<=m->0 < det k A->(∀ i j,i < m->j < m->F i j=Mn k A (k + i) (k + j))->(ANz m F (det k A)=true↔RB n A k):=by
 intro m
 induction m with
 | zero=>intro k F _ h;omega
 | succ m ih=>
   intro k F hk _ h0 hF
   have Ad:F 0 0=det (k + 1) A:=by rw [hF 0 0 (by omega) (by omega)];exact AK3 k A
   cases m with
   | zero=>
     obtain rfl:k + 1=n:=hk
     show decide (0 < F 0 0/\F 0 0<=10000)=true↔_
     rw [decide_eq_true_iff,Ad]
     exact ⟨fun h=>⟨fun j h1 h2=>by
       obtain rfl:j=k + 1:=by omega
       exact h.1,fun j h1 h2=>by omega,fun l i h1 h2 h3=>by omega,fun l h1 h2=>by omega,h.2⟩,fun h=>⟨h.pos (k + 1) (by omega) (Nat.le_refl _),h.dt⟩⟩
   | succ m=>
     have hN:∀ i j,i < m + 1->j < m + 1->AO6 F (det k A) i j=Mn (k + 1) A (k + 1 + i) (k + 1 + j):=fun i j hi hj=>Arq h0 hF hi hj
     have hS:ANy (m + 1 + 1) F↔(0 < det (k + 1) A/\det (k + 1) A < 65536)/\ ∀ i,k < i->i < n->SzF A i k:=by
       unfold ANy
       rw [Ad]
       refine and_congr_right fun _=>⟨fun h i h1 h2=>?_,fun h i h1 h2=>?_⟩
       · have h3:=h (i - k) (by omega) (by omega)
         rw [hF (i - k) 0 (by omega) (by omega),show k + (i - k)=i by omega] at h3
         unfold SzF
         simp only [Nat.add_zero] at h3
         omega
       · have h3:=h (k + i) (by omega) (by omega)
         unfold SzF at h3
         rw [hF i 0 h2 (by omega),Nat.add_zero]
         omega
     have hL:AS5 F (det k A)↔LvF A k:=by
       unfold AS5 LvF
       rw [Ad,hN 0 0 (by omega) (by omega),Nat.add_zero,AK3 (k + 1) A,hF 1 0 (by omega) (by omega),Nat.add_zero]
       have e:3 * det (k + 1) A * det (k + 1) A=3 * (det (k + 1) A * det (k + 1) A):=by grind
       rw [e]
       exact Iff.rfl
     show (decide (ANy (m + 1 + 1) F) && (decide (AS5 F (det k A)) && ANz (m + 1) (AO6 F (det k A)) (F 0 0)))=true↔_
     rw [Bool.and_eq_true,Bool.and_eq_true,decide_eq_true_iff,decide_eq_true_iff,hS,hL,Ad]
     constructor
     · rintro ⟨⟨⟨h1,h2⟩,h3⟩,h4,h5⟩
       have R:=(ih (k + 1) _ (by omega) (by omega) h1 hN).1 h5
       refine ⟨fun j a b=>?_,fun j a b=>?_,fun l i a b c=>?_,fun l a b=>?_,R.dt⟩
       · by_cases e:j=k + 1
         · subst e;exact h1
         · exact R.pos j (by omega) b
       · by_cases e:j=k + 1
         · subst e;exact h2
         · exact R.lt j (by omega) b
       · by_cases e:l=k
         · subst e;exact h3 i b c
         · exact R.sz l i (by omega) b c
       · by_cases e:l=k
         · subst e;exact h4
         · exact R.lv l (by omega) b
     · intro R
       have h1:=R.pos (k + 1) (by omega) (by omega)
       exact ⟨⟨⟨h1,R.lt (k + 1) (by omega) (by omega)⟩,fun i a b=>R.sz k i (Nat.le_refl k) a b⟩,R.lv k (Nat.le_refl k) (by omega),(ih (k + 1) _ (by omega) (by omega) h1 hN).2 ⟨fun j a b=>R.pos j (by omega) b,fun j a b=>R.lt j (by omega) b,fun l i a b c=>R.sz l i (by omega) b c,fun l a b=>R.lv l (by omega) b,R.dt⟩⟩
def AUp (M:List (List Int)):Prop:=(1<=M.length/\M.length<=8)/\(∀ z∈M,z.length=M.length)/\Aft M.length (ent M)
theorem AVq (M:List (List Int)):isRed M=true↔AUp M:=by
 unfold isRed;rw [Bool.and_eq_true];constructor
 ·rintro ⟨h1,h2⟩;have S:=AX1 h1;have R:=(Adv (A:=ent M) (n:=M.length) M.length 0 (ent M) (by omega) S.1.1 (by simp [det]) fun i j _ _=>by rw [ANb,Nat.zero_add,Nat.zero_add]).1 (by simpa [det] using h2);refine ⟨S.1,S.2.1,fun i j hi hj=>(S.2.2 i j hi hj).1,fun k hk=>?_,fun r l h3 h4=>R.sz l r (Nat.zero_le _) h3 h4,fun l hl=>R.lv l (Nat.zero_le _) hl,R.dt⟩;rcases Nat.eq_zero_or_pos k with h | h
  ·subst h;simp [det]
  ·exact R.pos k h hk
 ·rintro ⟨h1,h2,R⟩;refine ⟨(AF9 ⟨h1,h2,fun i j hi hj=>⟨R.sym i j hi hj,?_,?_⟩⟩).symm,?_⟩
  ·have:=Abh h1.2 R hi hj;omega
  ·have:=Abh h1.2 R hi hj;omega
  ·have h3:=(Adv (A:=ent M) (n:=M.length) M.length 0 (ent M) (by omega) h1.1 (by simp [det]) fun i j _ _=>by rw [ANb,Nat.zero_add,Nat.zero_add]).2 ⟨fun j _ hj=>R.pos j hj,fun j _ hj=>by have:=Adu h1.2 R (k:=j) (by omega);omega,fun l i _ a b=>R.sz i l a b,fun l _ hl=>R.lv l hl,R.dt⟩;simpa [det] using h3
end Go.Proofs.YtiegjkmfpcgjjaaGreatDoor
namespace Go.Proofs.YtiegjkmfpcgjjaaGreatDoor
open Go Go.QF
open Go.ChangeShapes Go.WideShapes Go.ChangeAt Go.RowKit
set_option maxRecDepth 100000
theorem Aiz:Tryz.prog.cellsOf 26=4:=by kernel_rfl
theorem Amf {H:Type} {enc:TypeId × Value->H} {W:World} {r:Reach} {b0:Nat} {v:Value} {d:DataW H} {p:List MemPlace} (hv:Value.okWide Tryz.prog W r b0 26 v) (h:DataW.Trod enc Tryz.prog W 0 (fun _=>true) true 26 v d p):
    ∃ (g k:Int) (lv bv:Value) (Z Y:List Int),v= .agg #[.int .u8 g,.int .u8 k,lv,bv]/\SlC (cI .i8) W.heap lv Z/\SlC (cI .i8) W.heap bv Y/\(0<=g/\g < 256)/\(0<=k/\k < 256)/\(∀ z∈Z,-128<=z/\z<=127)/\ ∀ z∈Y,-128<=z/\z<=127:=by
  obtain ⟨cs,rfl,hsz⟩:=okWide_struct Tryz.underlying26 hv;rw [Aiz] at hsz;obtain ⟨l⟩:=cs
  match l,hsz with
  | [c0,c1,c2,c3],_=>
    obtain ⟨fuel,hf⟩:=h;obtain ⟨y0,y1,y2,y3,n,_,_,h0,h1,h2,h3⟩:=Joins.trod_struct4 Tryz.underlying26 hf;simp [Value.cells,Ajz,Aj0] at h0 h1 h2 h3;obtain ⟨x0,e0,_,w0⟩:=DataW.trod_int Tryz.underlying5 h0;obtain ⟨x1,e1,_,w1⟩:=DataW.trod_int Tryz.underlying5 h1;simp at e0 e1;subst e0;subst e1;have b0:=wf_u8 w0;have b1:=wf_u8 w1;obtain ⟨Z,HZ,hZ⟩:=Aj1 h2;obtain ⟨Y,HY,hY⟩:=Aj1 h3;exact ⟨x0,x1,c2,c3,Z,Y,rfl,Afj HZ,Afj HY,by omega,by omega,hZ,hY⟩
end Go.Proofs.YtiegjkmfpcgjjaaGreatDoor
namespace Go.QF
open Go
theorem AWs:∀ u∈([]:List Value),isOne u=true:=fun u h=>by cases h
theorem ANk {v:Value} {l:List Value} (h:isOne v=true) (H:∀ u∈l,isOne u=true):∀ u∈v :: l,isOne u=true:=fun u hu=>(List.mem_cons.1 hu).elim (fun e=>e ▸ h) (H u)
section
variable {P:Program} {B:ABg->Prop} {st:Bool} {ops:Array Oper} {rest:List Oper} {e:Env} {h:ABg} {K:Env->ABg->Prop} {d:Nat} {ty:TypeId} {pos:String} {af:Array Edge}
end
end Go.QF
namespace Go.QF
open Go
theorem Amg (l:List Value):(l.map fun r=>[r]).flatten=l:=by
 induction l with
 | nil=>rfl
 | cons a L ih=>simp [ih]
def AV2 {α:Type} (c:Cod α) (el:Nat) (h:ABg):List (List Nat)->List Value->List (List α)->Prop
  | [],[],[]=>True
  | G :: Gs,r :: rs,L :: M=>OwC c el h G r L/\AV2 c el h Gs rs M
  | _,_,_=>False
theorem AV2.len {α:Type} {c:Cod α} {el:Nat} {h:ABg}:∀ {Gs:List (List Nat)} {rs:List Value} {M:List (List α)},AV2 c el h Gs rs M->rs.length=M.length/\Gs.length=M.length
  | [],[],[],_=>⟨rfl,rfl⟩
  | G :: Gs,r :: rs,L :: M,H=>by have:=AV2.len H.2;simp [this.1,this.2]
theorem AV2.get {α:Type} {c:Cod α} {el:Nat} {h:ABg}:∀ {Gs:List (List Nat)} {rs:List Value} {M:List (List α)},AV2 c el h Gs rs M-> ∀ (i:Nat) (G:List Nat) (r:Value) (L:List α),Gs[i]? =some G->rs[i]? =some r->M[i]? =some L->OwC c el h G r L
  | [],[],[],_,i,G,r,L,h1,_,_=>by simp at h1
  | G0 :: Gs,r0 :: rs,L0 :: M,H,0,G,r,L,h1,h2,h3=>by simp at h1 h2 h3;subst h1;subst h2;subst h3;exact H.1
  | G0 :: Gs,r0 :: rs,L0 :: M,H,i + 1,G,r,L,h1,h2,h3=>AV2.get H.2 i G r L (by simpa using h1) (by simpa using h2) (by simpa using h3)
section
variable {P:Program} {B:ABg->Prop} {st:Bool} {ops:Array Oper} {rest:List Oper} {e:Env} {h:ABg} {K:Env->ABg->Prop} {d:Nat} {ty:TypeId} {pos:String} {af:Array Edge}
theorem AS1 {α:Type} {c:Cod α} (Gs:List (List Nat)) (rs:List Value) (M:List (List α)) {t er el bytes n:Nat} {z:Value} {parts:List (Nat × Operand)} (hT:SlT P t er 1) (hz:ZeT P er z bytes) (h1:isOne z=true) (hel:Nat.beq er 147=false) (hb:B h) (hBE:∀ h',Ext h h'->B h') (hn:rs.length=n) (Aa:Nat.ble n 16777216=true) (hpos:Nat.ble 1 n=true) (hp:(parts.map fun (i,x)=>(i,e.ev x))=partsOf 0 rs) (hone:∀ u∈rs,isOne u=true) (hr:AV2 c el h Gs rs M) (hnd:Gs.flatten.Nodup) (H:∀ b v h',AE6 c er el h' (b :: Gs.flatten) Gs rs v M->Ext h h'->(∀ z∈b :: Gs.flatten,z∈Gs.flatten∨h.size<=z)->RL P B st ops rest (e.set d v) h' K):RL P B st ops (⟨some d,.buildSlice t n parts.toArray,ty,pos,af,none⟩ :: rest) e h K:=by
 have Aa:=Nat.le_of_ble_eq_true Aa;have E:Ext h (h.push (.cells rs.toArray er (0,0))):=AD7 _ _;have HO:AI2 (h.push (.cells rs.toArray er (0,0))) er 1 h.size (.slice (some ⟨h.size,0,none⟩) n n) (rs.map fun r=>[r]):=⟨n,rs.toArray,by rw [List.length_map,hn],by simp,by simp [hn],by unfold maxLen;omega,by simp [hn],fun r hr=>by obtain ⟨a,_,rfl⟩:=List.mem_map.1 hr;rfl,by rw [Amg];simp⟩
 have hlt:∀ z∈Gs.flatten,z < h.size:=fun z hz=>by
   obtain ⟨G,hG,hzG⟩:=List.mem_flatten.1 hz
   obtain ⟨i,hi⟩:=List.getElem?_of_mem hG
   have hi':=(List.getElem?_eq_some_iff.1 hi).1
   have hl:=hr.len
   exact (hr.get i G (rs[i]'(by omega)) (M[i]'(by omega)) hi (List.getElem?_eq_getElem _) (List.getElem?_eq_getElem _)).lt z hzG
 refine Am4 rs hT hz h1 hb hn Aa (Nat.le_of_ble_eq_true hpos) hp hone ⟨hBE _ E,H h.size _ _ (.inr ⟨h.size,rfl,?_,HO,hel,hr.len.1,hr.len.2,fun i G r L a1 a2 a3=>(hr.get i G r L a1 a2 a3).ext E⟩) E fun z hz=>?_⟩
 ·exact List.nodup_cons.2 ⟨fun hm=>by have:=hlt _ hm;omega,hnd⟩
 ·rcases List.mem_cons.1 hz with rfl | h2
  ·exact .inr (Nat.le_refl _)
  ·exact .inl h2
end
end Go.QF
namespace Go.Proofs.YtiegjkmfpcgjjaaGreatDoor
open Go Go.QF
def aT (F:List Nat):Asr:=⟨F,fun h=> ∀ b∈F,APp h b,fun {G h h'} U d H b hb=>by
  obtain ⟨o,h1,h2⟩:=H b hb;exact ⟨o,(U.1.2 b (Array.getElem?_eq_some_iff.1 h1).1 (d b hb)).trans h1,h2⟩⟩
namespace Kst
variable {h0 h h':ABg} {l l':List Asr}
theorem a0 (k:Kst h0 h l):Kst h0 h (aT [] :: l):=k.n (Ext.refl h) [aT []] (by exact ⟨by simp [fps,aT],fun b hb=>by simp [fps,aT] at hb⟩) ⟨fun b hb=>by simp at hb,trivial⟩
theorem grab {α:Type} {c:Cod α} {F R:List Nat} {j el:Nat} {w:Value} {y:List α} (k:Kst h0 h (aT F :: l)) (e:Rep j l (aO c el R w y) (aC True) l'):Kst h0 h (aT (F ++ R) :: l'):=by
 obtain ⟨e,rfl⟩:=e;have HR:OwC c el h R w y:=AMf k.p.2 e;have e1:(fps (aT F :: l))[j + 1]? =some R:=(ALq e:(fps l)[j]? =some R);have e0:(fps (aT F :: l))[0]? =some F:=rfl;have hd:=k.s.dj 0 (j + 1) e0 e1 (by omega);have hF:F.Nodup:=(List.nodup_append.1 k.s.1).1;have:=k.s.put2 0 (j + 1) (F':=F ++ R) e0 e1 (by omega) (List.nodup_append.2 ⟨hF,HR.nodup,fun a ha b hb hab=>hd a ha (hab ▸ hb)⟩) (Nat.le_refl _) k.x.1 (fun x hx=>(List.mem_append.1 hx).elim (fun h=>(k.s.lo 0 e0 x h).2) fun h=>HR.lt x h) (fun x hx=>(List.mem_append.1 hx).elim .inl fun h=> .inr (.inl h));refine ⟨k.x,?_,fun b hb=>(List.mem_append.1 hb).elim (k.p.1 b) (HR.notD b),AZb k.p.2 j⟩
 have e2:fps (aT (F ++ R) :: l.set j (aC True))=((fps (aT F :: l)).set (j + 1) []).set 0 (F ++ R):=by
   show (F ++ R) :: fps (l.set j (aC True))=_
   rw [AUg];rfl
 rw [e2];exact this
theorem ndT {F:List Nat} (k:Kst h0 h (aT F :: l)):F.Nodup:=(List.nodup_append.1 k.s.1).1
theorem lit {α:Type} {c:Cod α} {er el:Nat} {F F':List Nat} {Gs:List (List Nat)} {rs:List Value} {v:Value} {x:List (List α)} (k:Kst h0 h (aT F :: l)) (E:Ext h h') (V:AE6 c er el h' F' Gs rs v x) (hs:∀ z∈F',z∈F∨h.size<=z):Kst h0 h' (aO2 c er el F' Gs rs v x :: l):=
  k.u p0 (E.upT.mono (fun x hx=>by simp at hx) fun x hx _=>k.p.1 x hx) V V.nodup V.lt hs
end Kst
end Go.Proofs.YtiegjkmfpcgjjaaGreatDoor
