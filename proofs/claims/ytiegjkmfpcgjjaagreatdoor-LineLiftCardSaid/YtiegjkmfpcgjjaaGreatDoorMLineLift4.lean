/-
  Texts of a proof, joined. Conditions stand in each statement.
-/
import Derived.Lib.SmallJoins
import Derived.Test.YtiegjkmfpcgjjaaGreatDoorMLineLift3
set_option linter.unusedVariables false
set_option linter.unusedSimpArgs false
namespace Go.Proofs.YtiegjkmfpcgjjaaGreatDoor
open Go Go.QF
set_option maxRecDepth 100000
set_option maxHeartbeats 4000000
def AFi (fuel:Nat) (a1:Int) (a5:LiA) (Ac Aa Ad:Int) (Ae:LiI):Option ((Int × Int × LiI) ⊕ ((Int × LiI))):=
  (if Aa < ((List.replicate (Int.toNat (w64 (1 + (Int.tmod (w64 a1) Ac)))) ([]:List Int)).length:Int) then (if 0<=(w64 (1 + (Int.tmod (w64 a1) Ac)))/\(w64 (1 + (Int.tmod (w64 a1) Ac)))<=100000000 then ((gI Ae Aa).bind fun Ao=>((gI (sI Ae Aa (List.replicate (Int.toNat (w64 (1 + (Int.tmod (w64 a1) Ac)))) (0:Int))) Aa).bind fun Ag=>(((((if (a5.length:Int)<=Ad then (some ( (0,Ad))) else ((gI a5 (w64 ((w64 (Ad + 1)) - 1))).bind fun Ah=>(some ( ((w64 Ah),(w64 (Ad + 1))))))):Option (Int × Int)).bind fun (Ai,Aj)=>(some ( ((Int.tmod (w64 (IntKind.wrap .u8 Ai)) 6),Aj)))):Option (Int × Int)).bind fun (Ak,Am)=>((gI Ag Aa).bind fun Ap=>(some (Sum.inl ((w64 (Aa + 1)),Am,(sI (sI Ae Aa (List.replicate (Int.toNat (w64 (1 + (Int.tmod (w64 a1) Ac)))) (0:Int))) Aa (sI Ag Aa (w64 (1 + Ak))))))))))) else none) else (some (Sum.inr<| (Ad,Ae))))
def AG4 (fuel:Nat) (a5:LiA) (Ab Aa Ac:Int) (Ad:LiI):Option ((Int × Int × LiI) ⊕ ((Int × LiI))):=
  (if Aa < Ab then ((gI Ad Ab).bind fun Ae=>(((if (a5.length:Int)<=Ac then (some ( (0,Ac))) else ((gI a5 (w64 ((w64 (Ac + 1)) - 1))).bind fun Ai=>(some ( ((w64 Ai),(w64 (Ac + 1))))))):Option (Int × Int)).bind fun (Af,Aj)=>((gI Ae Aa).bind fun Ao=>((gI (sI Ad Ab (sI Ae Aa (Int.tmod Af 3))) Aa).bind fun Ah=>((gI (sI Ad Ab (sI Ae Aa (Int.tmod Af 3))) Ab).bind fun Ak=>((gI Ak Aa).bind fun Am=>((gI Ah Ab).bind fun Ap=>(some (Sum.inl ((w64 (Aa + 1)),Aj,(sI (sI Ad Ab (sI Ae Aa (Int.tmod Af 3))) Aa (sI Ah Ab Am)))))))))))) else (some (Sum.inr<| (Ac,Ad))))
def AFj (fuel:Nat) (a5:LiA) (Ae:LiI) (Aa Ab:Int) (Ac:LiI):Option ((Int × Int × LiI) ⊕ ((Int × LiI))):=
  (if Aa < (Ae.length:Int) then ((iter (fun s=>AG4 fuel a5 Aa s.1 s.2.1 s.2.2) fuel (0,Ab,Ac)).bind (fun ((Af,Ag):Int × LiI)=>(some (Sum.inl ((w64 (Aa + 1)),Af,Ag))))) else (some (Sum.inr<| (Ab,Ac))))
def AE9 (fuel:Nat) (a1:Int) (a5:LiA) (Ac Aa Ad:Int) (Ae:LiI):Option ((Int × Int × LiI) ⊕ ((Int × LiI))):=
  (if Aa < ((List.replicate (Int.toNat (w64 (1 + (Int.tmod (w64 a1) Ac)))) ([]:List Int)).length:Int) then (if 0<=(w64 (1 + (Int.tmod (w64 a1) Ac)))/\(w64 (1 + (Int.tmod (w64 a1) Ac)))<=100000000 then ((gI Ae Aa).bind fun Ao=>((gI (sI Ae Aa (List.replicate (Int.toNat (w64 (1 + (Int.tmod (w64 a1) Ac)))) (0:Int))) Aa).bind fun Ag=>(((((if (a5.length:Int)<=Ad then (some ( (0,Ad))) else ((gI a5 (w64 ((w64 (Ad + 1)) - 1))).bind fun Ah=>(some ( ((w64 Ah),(w64 (Ad + 1))))))):Option (Int × Int)).bind fun (Ai,Aj)=>(some ( ((Int.tmod (w64 (IntKind.wrap .u8 Ai)) 9),Aj)))):Option (Int × Int)).bind fun (Ak,Am)=>((gI Ag Aa).bind fun Ap=>(some (Sum.inl ((w64 (Aa + 1)),Am,(sI (sI Ae Aa (List.replicate (Int.toNat (w64 (1 + (Int.tmod (w64 a1) Ac)))) (0:Int))) Aa (sI Ag Aa (w64 (1 + Ak))))))))))) else none) else (some (Sum.inr<| (Ad,Ae))))
def AFa (fuel:Nat) (a1:Int) (a5:LiA) (Ac Aa Ad:Int) (Ae:LiI):Option ((Int × Int × LiI) ⊕ ((Int × LiI))):=
  (if Aa < ((List.replicate (Int.toNat (w64 (1 + (Int.tmod (w64 a1) Ac)))) ([]:List Int)).length:Int) then (if 0<=(w64 (1 + (Int.tmod (w64 a1) Ac)))/\(w64 (1 + (Int.tmod (w64 a1) Ac)))<=100000000 then ((gI Ae Aa).bind fun Ao=>((gI (sI Ae Aa (List.replicate (Int.toNat (w64 (1 + (Int.tmod (w64 a1) Ac)))) (0:Int))) Aa).bind fun Ag=>(((((if (a5.length:Int)<=Ad then (some ( (0,Ad))) else ((gI a5 (w64 ((w64 (Ad + 1)) - 1))).bind fun Ah=>(some ( ((w64 Ah),(w64 (Ad + 1))))))):Option (Int × Int)).bind fun (Ai,Aj)=>(some ( ((Int.tmod (w64 (IntKind.wrap .u8 Ai)) 1),Aj)))):Option (Int × Int)).bind fun (Ak,Am)=>((gI Ag Aa).bind fun Ap=>(some (Sum.inl ((w64 (Aa + 1)),Am,(sI (sI Ae Aa (List.replicate (Int.toNat (w64 (1 + (Int.tmod (w64 a1) Ac)))) (0:Int))) Aa (sI Ag Aa (w64 (1 + Ak))))))))))) else none) else (some (Sum.inr<| (Ad,Ae))))
def AFb (fuel:Nat) (a1:Int) (a5:LiA) (Ac Aa Ad:Int) (Ae:LiI):Option ((Int × Int × LiI) ⊕ ((Int × LiI))):=
  (if Aa < ((List.replicate (Int.toNat (w64 (1 + (Int.tmod (w64 a1) Ac)))) ([]:List Int)).length:Int) then (if 0<=(w64 (1 + (Int.tmod (w64 a1) Ac)))/\(w64 (1 + (Int.tmod (w64 a1) Ac)))<=100000000 then ((gI Ae Aa).bind fun Ao=>((gI (sI Ae Aa (List.replicate (Int.toNat (w64 (1 + (Int.tmod (w64 a1) Ac)))) (0:Int))) Aa).bind fun Ag=>(((((if (a5.length:Int)<=Ad then (some ( (0,Ad))) else ((gI a5 (w64 ((w64 (Ad + 1)) - 1))).bind fun Ah=>(some ( ((w64 Ah),(w64 (Ad + 1))))))):Option (Int × Int)).bind fun (Ai,Aj)=>(some ( ((Int.tmod (w64 (IntKind.wrap .u8 Ai)) 2),Aj)))):Option (Int × Int)).bind fun (Ak,Am)=>((gI Ag Aa).bind fun Ap=>(some (Sum.inl ((w64 (Aa + 1)),Am,(sI (sI Ae Aa (List.replicate (Int.toNat (w64 (1 + (Int.tmod (w64 a1) Ac)))) (0:Int))) Aa (sI Ag Aa (w64 (1 + Ak))))))))))) else none) else (some (Sum.inr<| (Ad,Ae))))
def AE5 (fuel:Nat) (a1 a2:Int) (a5 a9:LiA) (Aa:Int):Option LiI:=
  (if Aa≠0 then (((((if (Int.tmod a2 8)=0 then (some ( (decide ((Int.tmod a2 8)=0)))) else (if (Int.tmod a2 8)=1 then (some ( (decide ((Int.tmod a2 8)=1)))) else (if (Int.tmod a2 8)=2 then (some ( (decide ((Int.tmod a2 8)=2)))) else (some ( (decide ((Int.tmod a2 8)=3))))))):Option ((Bool))).bind (fun (Ak:Bool)=>(if Ak=true then (((((if 0<=(w64 (1 + (Int.tmod (w64 a1) Aa)))/\(w64 (1 + (Int.tmod (w64 a1) Aa)))<=100000000 then ((iter (fun s=>AFi fuel a1 a5 Aa s.1 s.2.1 s.2.2) fuel (0,0,(List.replicate (Int.toNat (w64 (1 + (Int.tmod (w64 a1) Aa)))) ([]:List Int)))).bind (fun ((Am,Ao):Int × LiI)=>(some ( (Ao,Am))))) else none):Option (LiI × Int)).bind fun (Ae,Ap)=>((iter (fun s=>AFj fuel a5 Ae s.1 s.2.1 s.2.2) fuel (0,Ap,Ae)).bind (fun ((Aq,Ar):Int × LiI)=>(some ( (Ar,Aq)))))):Option (LiI × Int)).bind fun (Au,Av)=>(some ( (Au,Av)))) else (if (Int.tmod a2 8)=4 then ((AGa fuel (w64 (1 + (Int.tmod (w64 a1) Aa))) false).bind fun Af=>((gI Af 0).bind fun Ag=>((gI Ag 0).bind fun Aw=>(((((if (a5.length:Int)<=0 then (some ( (0,0))) else ((gI a5 (w64 ((w64 (0 + 1)) - 1))).bind fun Ax=>(some ( ((w64 Ax),(w64 (0 + 1))))))):Option (Int × Int)).bind fun (Ay,Az)=>(some ( ((Int.tmod (w64 (IntKind.wrap .u8 Ay)) 3),Az)))):Option (Int × Int)).bind fun (A3,A4)=>(some ( ((sI Af 0 (sI Ag 0 (w64 (Aw + A3)))),A4))))))) else (if (Int.tmod a2 8)=5 then ((AGa fuel (w64 (1 + (Int.tmod (w64 a1) Aa))) true).bind fun Ah=>((gI Ah (w64 ((w64 (1 + (Int.tmod (w64 a1) Aa))) - 1))).bind fun Ai=>((gI Ai (w64 ((w64 (1 + (Int.tmod (w64 a1) Aa))) - 1))).bind fun A5=>(((((if (a5.length:Int)<=0 then (some ( (0,0))) else ((gI a5 (w64 ((w64 (0 + 1)) - 1))).bind fun A6=>(some ( ((w64 A6),(w64 (0 + 1))))))):Option (Int × Int)).bind fun (A7,A8)=>(some ( ((Int.tmod (w64 (IntKind.wrap .u8 A7)) 2),A8)))):Option (Int × Int)).bind fun (A9,Ba)=>(some ( ((sI Ah (w64 ((w64 (1 + (Int.tmod (w64 a1) Aa))) - 1)) (sI Ai (w64 ((w64 (1 + (Int.tmod (w64 a1) Aa))) - 1)) (w64 (A5 + A9)))),Ba))))))) else (if (Int.tmod a2 8)=6 then (((if 0<=(w64 (1 + (Int.tmod (w64 a1) Aa)))/\(w64 (1 + (Int.tmod (w64 a1) Aa)))<=100000000 then ((iter (fun s=>AE9 fuel a1 a5 Aa s.1 s.2.1 s.2.2) fuel (0,0,(List.replicate (Int.toNat (w64 (1 + (Int.tmod (w64 a1) Aa)))) ([]:List Int)))).bind (fun ((Bb,Bc):Int × LiI)=>(some ( (Bc,Bb))))) else none):Option (LiI × Int)).bind fun (Be,Bf)=>(some ( (Be,Bf)))) else (((if 0<=(w64 (1 + (Int.tmod (w64 a1) Aa)))/\(w64 (1 + (Int.tmod (w64 a1) Aa)))<=100000000 then ((iter (fun s=>AFa fuel a1 a5 Aa s.1 s.2.1 s.2.2) fuel (0,0,(List.replicate (Int.toNat (w64 (1 + (Int.tmod (w64 a1) Aa)))) ([]:List Int)))).bind (fun ((Bg,Bh):Int × LiI)=>(some ( (Bh,Bg))))) else none):Option (LiI × Int)).bind fun (Bi,Bj)=>(some ( (Bi,Bj)))))))))):Option ((LiI × Int))).bind (fun ((Aj,Bl):LiI × Int)=>((AH1 fuel Aj).bind fun Bm=>(if (!Bm)=true then (((if 0<=(w64 (1 + (Int.tmod (w64 a1) Aa)))/\(w64 (1 + (Int.tmod (w64 a1) Aa)))<=100000000 then ((iter (fun s=>AFb fuel a1 a5 Aa s.1 s.2.1 s.2.2) fuel (0,Bl,(List.replicate (Int.toNat (w64 (1 + (Int.tmod (w64 a1) Aa)))) ([]:List Int)))).bind (fun ((Bn,Bo):Int × LiI)=>(some ( (Bo,Bn))))) else none):Option (LiI × Int)).bind fun (Bp,Br)=>(some Bp)) else (some Aj))))) else none)
theorem ANt {fuel:Nat} {h:ABk} {a1 a2:Int} {Ab:Value} {a5:LiA} {Cb:Value} {a9:LiA} {Af:Int} {r:LiI} (H4:SlC (cI .i8) h Ab a5) (H8:SlC (cI .i8) h Cb a9) (hp:AE5 fuel a1 a2 a5 a9 Af=some r):AB9 Tryz.prog 30 #[(.agg #[(.int .u8 a1),(.int .u8 a2),Ab,Cb]),(.int .i64 Af)] h (fun x h'=>Ext h h'/\ ∃ (x0:Value) (F0:List Nat) (Iu:List LnA) (Iv:List Value),x=x0/\AFf (cI .i64) 23 2 h' F0 Iu Iv x0 r/\Sp h' h.size [F0]):=by
 unfold AE5 at hp;refine cwf (l:=[_,_]) Tryz.func30 rfl rfl (ABj (AIa [(.int .u8 a1),(.int .u8 a2),Ab,Cb] trivial tt2 rfl rfl fun Wm Wn Iw Ix Iy=>ACs (AI3 Ap0 rfl ?_)));have Cd:=(Kst.k0 h).nb Ix Iy Iw;refine AB8 APb rfl ((Cd.b p0).cell (i:=2) rfl) ?_;obtain ⟨_,_,_,Iz⟩:=(H4.ext Cd.x).shape;refine AMh (v:=(.agg #[Ab,(.int .i64 0)])) (fun _=>by subst Iz;kernel_rfl) (AIa [Ab,(.int .i64 0)] trivial tt2 rfl rfl fun Aa Wo I0 I1 I2=>ACs (AI3 Apy rfl ?_));have A4:=Cd.nb I1 I2 I0;refine AB8 Aq7 rfl ((A4.b p1).cell (i:=0) rfl) (AL5 APd APc rfl (Wl ?_));obtain ⟨I3,I6⟩:=ifN hp;refine AF7 rfl rfl I3 (AC0 rfl rfl (ACs (ABq ?_)));obtain ⟨I7,I9,D9⟩:=ABm I6;refine ANh 147573952589676150912 (fun x:(LiI) × (Value) × LnA × LnN × LvA × (Int)=>[(7,x.2.1)]) (fun x h'=>( (x.1,x.2.2.2.2.2))=I7/\Kst h h' (aO2 (cI .i64) 23 2 x.2.2.1 x.2.2.2.1 x.2.2.2.2.1 x.2.1 x.1 :: ((AI0 A4.L [0]).set 0 (aB 76 Aa [Ab,(.int .i64 x.2.2.2.2.2)])))) ?_ ?_
 ·refine ABj (AI3 Apz rfl (AB8 Aq7 rfl ((A4.b p1).cell (i:=1) rfl) (AF7 rfl rfl (by decide) (ABp (ABr ?_)))));obtain ⟨Ja,Ea,Ce⟩:=ABm I9;refine ANh 520093696 (fun x:(Bool)=>[(24,(.bool x))]) (fun x h'=>( x)=Ja/\Kst h h' (AI0 A4.L [0])) ?_ ?_
  ·refine ABj (ADn rfl rfl (ABq (⟨_,rfl,fun Cf=>?_,fun Cf=>?_⟩)))
   ·refine ABs (q_t ?_);exact ⟨((decide ((Int.tmod a2 8)=0)):(Bool)),⟨ABl (AC2 Ea Cf),A4.sel [0] (by decide)⟩,rfl,trivial⟩
   ·refine ABj (ADn rfl rfl (ABq ?_));have Eb:=AC3 Ea Cf;refine ⟨_,rfl,fun Cg=>?_,fun Cg=>?_⟩
    ·refine ABs (q_t ?_);exact ⟨((decide ((Int.tmod a2 8)=1)):(Bool)),⟨ABl (AC2 Eb Cg),A4.sel [0] (by decide)⟩,rfl,trivial⟩
    ·refine ABj (ADn rfl rfl (ABq ?_));have Ec:=AC3 Eb Cg;refine ⟨_,rfl,fun Ch=>?_,fun Ch=>?_⟩
     ·refine ABs (q_t ?_);exact ⟨((decide ((Int.tmod a2 8)=2)):(Bool)),⟨ABl (AC2 Ec Ch),A4.sel [0] (by decide)⟩,rfl,trivial⟩
     ·refine ABy (ADn rfl rfl (ABq ?_));exact ⟨((decide ((Int.tmod a2 8)=3)):(Bool)),⟨ABl (AC3 Ec Ch),A4.sel [0] (by decide)⟩,rfl,trivial⟩
  rintro Jc Je Jf ⟨Jg,Ao⟩;(try dsimp only [Kst.L,List.set,AI0,ALr] at Ao);refine (show W _ _ _ (setL [(24,(.bool Jc))] (mix _ Je _)) Jf from ?_);subst Jg;(try dsimp only at Ce);refine ⟨_,rfl,fun Ci=>?_,fun Ci=>?_⟩
  ·refine ABy (Wl (Wl ?_));obtain ⟨Jh,Ji,Ed⟩:=ABm (ifT Ce Ci);refine ACp (K':=(fun xr h'=> ∃ x:(LiI) × (Value) × LnA × LnN × LvA × (Int),(x.1,x.2.2.2.2.2)=Jh/\xr=x.2.1/\Kst h h' (aO2 (cI .i64) 23 2 x.2.2.1 x.2.2.2.1 x.2.2.2.2.1 x.2.1 x.1 :: (Ao.L.set 0 (aB 76 Aa [Ab,(.int .i64 x.2.2.2.2.2)]))))) trivial rfl ?_ fun Ee Wp Jj=>?_
   ·refine cwf (l:=[_,_]) Tryz.func60 rfl rfl (ABj (ACs (Wl (Wl ?_))));obtain ⟨Jk,Jl,Ef⟩:=ABm Ji;refine ACp (K':=(fun xr h'=> ∃ x:(LiI) × (Value) × LnA × LnN × LvA × (Int),(x.1,x.2.2.2.2.2)=Jk/\xr=x.2.1/\Kst h h' (aO2 (cI .i64) 23 2 x.2.2.1 x.2.2.2.1 x.2.2.2.2.1 x.2.1 x.1 :: (Ao.L.set 0 (aB 76 Aa [Ab,(.int .i64 x.2.2.2.2.2)]))))) trivial rfl ?_ fun Bp Wq Jm=>?_
    ·refine cwf (l:=[_,_,_]) Tryz.func63 rfl rfl (ABj (ACs (Wl ?_)));obtain ⟨Jn,Jo⟩:=ifN Jl;refine AU9 (cI .i64) 2 AB3 AKb rfl trivial tt2 rfl rfl (by decide) Jn fun Jp Jq Jr Eg Wr Js Jt Ju=>ABq (ABn (ABj (Wl ?_)));have Cj:=Ao.no2 Jt Ju Js;refine ADf AB3 rfl (Cj.o2 p0).rd (Wl (ABp (ABr ?_)));obtain ⟨Eh,Jv,Ei⟩:=ABm Jo;obtain ⟨Jw,Jx,Jy⟩:=ACd Jv;refine ACi 4294959360 (fun x:(Int) × (Int) × (LiI) × LnA × LnN × LvA=>[(13,(.int .i64 x.1))]) (fun k x h'=>iter Jw k (x.1,x.2.1,x.2.2.1)=some Eh/\Kst h h' ((Cj.L.set 0 (aO2 (cI .i64) 23 2 x.2.2.2.1 x.2.2.2.2.1 x.2.2.2.2.2 Eg x.2.2.1)).set 1 (aB 76 Aa [Ab,(.int .i64 x.2.1)]))) (by kernel_rfl) fuel ((0,0,(List.replicate (Int.toNat (w64 (1 + (Int.tmod (w64 a1) Af)))) ([]:List Int)),Jp,Jq,Jr):(Int) × (Int) × (LiI) × LnA × LnN × LvA) ?_ ⟨rfl,trivial⟩ ?_
     ·exact ⟨Jy,Cj⟩
     rintro Ws ⟨Ap,Bq,Ej,Jz,Ck,Ek⟩ J0 J1 ⟨J2,Cm⟩;(try dsimp only [Kst.L,List.set,AI0,ALr] at Cm);refine (show W _ _ _ (setL [(13,(.int .i64 Ap))] (mix _ J0 _)) J1 from ?_);obtain ⟨J3,Wt,rfl,Ba,Cn⟩:=AB4 J2;rw [Jx] at Ba;dsimp only at Ba;unfold AFi at Ba;refine ABj (AC1 rfl rfl (ABp (ABn (⟨_,rfl,fun Co=>?_,fun Co=>?_⟩))))
     ·refine ABs (q_t (ABn (ABr (ABj (Wl (ACs (Wl (Wl (Wl ?_)))))))));obtain ⟨J4,J5⟩:=ifN (AC2 Ba Co);refine ARr (c:=(cI .i64)) (a:=0) ABv AGz rfl rfl (fun _=>rfl) rfl trivial tt2 rfl rfl (by decide) J4 fun El J6 Wu J7 J8 J9 Ka=>?_;have Bb:=Cm.no J8 (AGr J9 Ka) J7;obtain ⟨Wv,Em,Kb⟩:=ABm J5;refine ADt AB3 rfl (Bb.o2 p1) rfl Em fun Kc Ww Kd Wx Wy=>AWt ACo (Bb.o2 p1) Em Kd rfl rfl (Bb.o p0) (Bb.dj p0 p1 (by decide)) fun Av Ke Kf Kg=>ABp (AEq (fun h'=>UpT ([Aa] ++ []) Av h') (by kernel_rfl) ?_);have Ah:=Bb.m2 p0 p1 (by decide) Kf Ke (fun z hz=> .inl (Kg z hz));have Cp:UpT ([Aa] ++ []) Av Av:=UpT.start (AD9 (AGs (Ah.b p2) rfl) all_nil);refine Wl (Wl ?_);obtain ⟨Kh,Cq,Ki⟩:=ABm Kb;refine ADt AB3 rfl (Ah.o2 p1) rfl Cq fun Wz W0 Kj Kk Kl=>AGp ACo rfl Cp (fun h' hb=>AK0 Kl hb (AQn (Ah.dj p1 p2 (by decide) _ (by simp [aO,aO2,Kj])) AQo)) (Wl (Wl (Wl ?_)));obtain ⟨Km,Kn,En⟩:=ABm Ki;have Ko:UpT ([Aa] ++ []) Av Av:=UpT.start (AD9 (AGs (Ah.b p2) rfl) all_nil);refine ACp (K':=(fun xr h'=> ∃ x:(Int) × (Int),(x.1,x.2)=Km/\xr=(.int .i64 x.1)/\Kst h h' ((AI0 Ah.L [1,2]).set 1 (aB 76 Aa [Ab,(.int .i64 x.2)]))/\UpT ([Aa] ++ []) Av h')) Cp rfl ?_ fun W1 W3 Kp=>?_
      ·refine cwf (l:=[_,_]) Tryz.func62 rfl rfl (ABj (ACs (Wl ?_)));obtain ⟨Kr,Eo,Ep⟩:=ABm Kn;have Er:UpT ([Aa] ++ []) Av Av:=UpT.start (AD9 (AGs (Ah.b p2) rfl) all_nil);refine ACp (K':=(fun xr h'=> ∃ x:(Int) × (Int),(x.1,x.2)=Kr/\xr=(.int .i64 x.1)/\Kst h h' ((AI0 Ah.L [1,2]).set 1 (aB 76 Aa [Ab,(.int .i64 x.2)]))/\UpT ([Aa] ++ []) Av h')) trivial rfl ?_ fun W4 W5 Kt=>?_
       ·refine cwf (l:=[_]) Tryz.func50 rfl rfl (ABj (ABq (ABn (ABn (ANi (Wl (AJn rfl (AI3 AEa rfl (AB8 AFq rfl ((Ah.b p2).cell (i:=1) rfl) (Wl (AJn rfl (AI3 AJg rfl (AB8 APb rfl ((Ah.b p2).cell (i:=0) rfl) (ADy AP4 rfl H4 (AM6 rfl rfl (ABp (⟨_,rfl,fun Cr=>?_,fun Cr=>?_⟩)))))))))))))))))
        ·refine ABj (ABq (ABt (AB1 (⟨_,ABu,((0,Bq):(Int) × (Int)),?_,rfl,?_,?_⟩))))
         ·exact ABl (AC2 Eo Cr)
         ·exact Ah.sel [1,2] (by decide)
         ·exact Er
        ·refine ABs (q_t (ABj (Wl (AJn rfl (AI3 AEa rfl (AB8 AFq rfl ((Ah.b p2).cell (i:=1) rfl) (AC0 rfl rfl (AJn rfl (AI3 AEa rfl (AU4 [Ab,(.int .i64 (w64 (Bq + 1)))] AFq rfl rfl rfl (Ah.b p2) (Nat.le_of_ble_eq_true rfl) rfl fun W6 Es Et=>ABp (ABn (ANi (Wl (AJn rfl (AI3 AJg rfl ?_)))))))))))))));have Br:=Ah.sb p2 Et Es rfl;refine AB8 APb rfl ((Br.b p2).cell (i:=0) rfl) (Wl (AJn rfl (AI3 AEa rfl (AB8 AFq rfl ((Br.b p2).cell (i:=1) rfl) (AGt rfl rfl ?_)))));obtain ⟨Ku,Kv,Kw⟩:=ABm (AC3 Eo Cr);refine AIm (c:=(cI .i8)) AP4 rfl H4 rfl Kv fun W7 W8 W9 Kx Ky=>?_;obtain rfl:=Kx;refine AB8 AX1 rfl (ABz (Ky 0 _ rfl) Br.x) (AL5 AX2 ALi rfl (ABq (ABt (⟨_,ABu,(((w64 Ku),(w64 (Bq + 1))):(Int) × (Int)),?_,rfl,?_,?_⟩))))
         ·exact ABl Kw
         ·exact Br.sel [1,2] (by decide)
         ·exact (Er.then (Es.stA Et (AGs (Ah.b p2) rfl) rfl) (ALy rfl))
       obtain ⟨⟨Kz,K3⟩,K5,rfl,Eu,K6⟩:=Kt;(try dsimp only [Kst.L,List.set,AI0,ALr] at Eu);refine ⟨trivial,?_⟩;subst K5;(try dsimp only at Ep);refine AL5 ALi APd rfl (AL5 APd APc rfl (Wl (AF7 rfl rfl (by decide) (ABq (ABt (⟨_,ABu,(((Int.tmod (w64 (IntKind.wrap .u8 Kz)) 6),K3):(Int) × (Int)),?_,rfl,?_,?_⟩))))))
       ·exact ABl Ep
       ·exact Eu
       ·exact (Ko.then K6 (AD9 (ALy rfl) all_nil))
      obtain ⟨⟨Ev,K9⟩,La,rfl,Ct,Lb⟩:=Kp;(try dsimp only [Kst.L,List.set,AI0,ALr] at Ct);refine ⟨(Cp.then Lb (AD9 (ALy rfl) all_nil)),?_⟩;subst La;(try dsimp only at En);refine AC0 rfl rfl ?_;obtain ⟨Xa,Ew,Lc⟩:=ABm En;refine AFc (m:=Ap) ABv rfl (Ah.o2 p1) Kk Cq rfl Ew fun Xb Ld=>AJt (m:=Ap) (AF3 ACr rfl rfl rfl) (Ct.o2 p0) Ld Cq Ew (show ((cI .i64)).rep _ (w64 (1 + Ev)) _ from rfl) fun Xc Le Lf=>ACk (q_b (q_t (ABy (AC0 rfl rfl (Wl (ABp ?_))))));obtain rfl:=ABl Lc;exact ⟨J3,(((w64 (Ap + 1)),K9,(sI (sI Ej Ap (List.replicate (Int.toNat (w64 (1 + (Int.tmod (w64 a1) Af)))) (0:Int))) Ap (sI Kh Ap (w64 (1 + Ev)))),(Kc :: (Ck.set (Int.toNat Ap) [El]).flatten),(Ck.set (Int.toNat Ap) [El]),(Ek.set (Int.toNat Ap) J6)):(Int) × (Int) × (LiI) × LnA × LnN × LvA),Nat.lt_succ_self _,⟨Cn,(Ct.uO2 p0 Lf Le)⟩,rfl,trivial⟩
     ·obtain rfl:=ABl (AC3 Ba Co);change _=Eh at Cn;subst Cn;(try dsimp only at Ei);refine ACb (ACa (ACa (ADj (q_t (ABj (Wl (ABq (ABt (⟨_,ABu,((Ej,Eg,Jz,Ck,Ek,Bq):(LiI) × (Value) × LnA × LnN × LvA × (Int)),?_,rfl,?_⟩)))))))))
      ·exact ABl Ei
      ·exact Cm
    obtain ⟨⟨Lg,Bp,Lh,Li,Lj,Lk⟩,Ll,rfl,Bt⟩:=Jm;(try dsimp only [Kst.L,List.set,AI0,ALr] at Bt);refine ⟨trivial,?_⟩;subst Ll;(try dsimp only at Ef);refine ABq (ABn (ABj (Wl (ADf AB3 rfl (Bt.o2 p0).rd (Wl (ABp (ABr ?_)))))));obtain ⟨Ey,Lm,Ez⟩:=ABm Ef;obtain ⟨Ln,Lo,Lq⟩:=ACd Lm;refine ACi 17592186036416 (fun x:(Int) × (Int) × (LiI) × LnA × LnN × LvA=>[(13,(.int .i64 x.1))]) (fun k x h'=>iter Ln k (x.1,x.2.1,x.2.2.1)=some Ey/\Kst h h' ((Bt.L.set 0 (aO2 (cI .i64) 23 2 x.2.2.2.1 x.2.2.2.2.1 x.2.2.2.2.2 Bp x.2.2.1)).set 1 (aB 76 Aa [Ab,(.int .i64 x.2.1)]))) (by kernel_rfl) fuel ((0,Lk,Lg,Lh,Li,Lj):(Int) × (Int) × (LiI) × LnA × LnN × LvA) ?_ ⟨rfl,trivial⟩ ?_
    ·exact ⟨Lq,Bt⟩
    rintro Xd ⟨A6,Fa,Fb,Fc,Fd,Fe⟩ Lr Lu ⟨Lv,Bu⟩;(try dsimp only [Kst.L,List.set,AI0,ALr] at Bu);refine (show W _ _ _ (setL [(13,(.int .i64 A6))] (mix _ Lr _)) Lu from ?_);obtain ⟨Lw,Xe,rfl,Bc,Cu⟩:=AB4 Lv;rw [Lo] at Bc;dsimp only at Bc;unfold AFj at Bc;refine ABj (AC1 rfl rfl (ABp (ABn (⟨_,rfl,fun Cv=>?_,fun Cv=>?_⟩))))
    ·refine ABs (q_t (ABn (ABr (ABj (Wl (ACs (ABq (ABr ?_))))))));obtain ⟨Ff,Lx,Fg⟩:=ABm (AC2 Bc Cv);obtain ⟨Ly,Lz,Ma⟩:=ACd Lx;refine ACi 8796092956800 (fun x:(Int) × (Int) × (LiI) × LnA × LnN × LvA=>[(7,(.int .i64 x.1))]) (fun k x h'=>iter Ly k (x.1,x.2.1,x.2.2.1)=some Ff/\Kst h h' ((Bu.L.set 0 (aO2 (cI .i64) 23 2 x.2.2.2.1 x.2.2.2.2.1 x.2.2.2.2.2 Bp x.2.2.1)).set 1 (aB 76 Aa [Ab,(.int .i64 x.2.1)]))) (by kernel_rfl) fuel ((0,Fa,Fb,Fc,Fd,Fe):(Int) × (Int) × (LiI) × LnA × LnN × LvA) ?_ ⟨rfl,trivial⟩ ?_
     ·exact ⟨Ma,Bu⟩
     rintro Xf ⟨A9,Bv,Fh,Fi,Fj,Fk⟩ Mb A7 ⟨Mc,Ai⟩;(try dsimp only [Kst.L,List.set,AI0,ALr] at Ai);refine (show W _ _ _ (setL [(7,(.int .i64 A9))] (mix _ Mb _)) A7 from ?_);obtain ⟨Md,Xg,rfl,Be,Cw⟩:=AB4 Mc;rw [Lz] at Be;dsimp only at Be;unfold AG4 at Be;refine ABn (ABj (Wl (Wl (AC1 rfl rfl (ABp (⟨_,rfl,fun Cx=>?_,fun Cx=>?_⟩))))))
     ·refine ABs (q_t (ABn (ABr (ABn (AEq (fun h'=>UpT ([Aa] ++ []) A7 h') (by kernel_rfl) ?_)))));have Cy:UpT ([Aa] ++ []) A7 A7:=UpT.start (AD9 (AGs (Ai.b p1) rfl) all_nil);refine Wl (Wl ?_);obtain ⟨Me,Cz,Mf⟩:=ABm (AC2 Be Cx);refine ADt AB3 rfl (Ai.o2 p0) rfl Cz fun Xh Xi Mg Mh Mi=>AGp ACo rfl Cy (fun h' hb=>AK0 Mi hb (AQn (Ai.dj p0 p1 (by decide) _ (by simp [aO,aO2,Mg])) AQo)) (Wl (Wl ?_));obtain ⟨Mj,Fl,Fm⟩:=ABm Mf;have Fo:UpT ([Aa] ++ []) A7 A7:=UpT.start (AD9 (AGs (Ai.b p1) rfl) all_nil);refine ACp (K':=(fun xr h'=> ∃ x:(Int) × (Int),(x.1,x.2)=Mj/\xr=(.int .i64 x.1)/\Kst h h' (Ai.L.set 1 (aB 76 Aa [Ab,(.int .i64 x.2)]))/\UpT ([Aa] ++ []) A7 h')) Cy rfl ?_ fun Xj Xk Mk=>?_
      ·refine cwf (l:=[_]) Tryz.func50 rfl rfl (ABj (ABq (ABn (ABn (ANi (Wl (AJn rfl (AI3 AEa rfl (AB8 AFq rfl ((Ai.b p1).cell (i:=1) rfl) (Wl (AJn rfl (AI3 AJg rfl (AB8 APb rfl ((Ai.b p1).cell (i:=0) rfl) (ADy AP4 rfl H4 (AM6 rfl rfl (ABp (⟨_,rfl,fun C0=>?_,fun C0=>?_⟩)))))))))))))))))
       ·refine ABj (ABq (ABt (AB1 (⟨_,ABu,((0,Bv):(Int) × (Int)),?_,rfl,?_,?_⟩))))
        ·exact ABl (AC2 Fl C0)
        ·exact Ai
        ·exact Fo
       ·refine ABs (q_t (ABj (Wl (AJn rfl (AI3 AEa rfl (AB8 AFq rfl ((Ai.b p1).cell (i:=1) rfl) (AC0 rfl rfl (AJn rfl (AI3 AEa rfl (AU4 [Ab,(.int .i64 (w64 (Bv + 1)))] AFq rfl rfl rfl (Ai.b p1) (Nat.le_of_ble_eq_true rfl) rfl fun Xl Fp Fq=>ABp (ABn (ANi (Wl (AJn rfl (AI3 AJg rfl ?_)))))))))))))));have Bw:=Ai.sb p1 Fq Fp rfl;refine AB8 APb rfl ((Bw.b p1).cell (i:=0) rfl) (Wl (AJn rfl (AI3 AEa rfl (AB8 AFq rfl ((Bw.b p1).cell (i:=1) rfl) (AGt rfl rfl ?_)))));obtain ⟨Ml,Mm,Mo⟩:=ABm (AC3 Fl C0);refine AIm (c:=(cI .i8)) AP4 rfl H4 rfl Mm fun Xm Xn Xo Mq Mr=>?_;obtain rfl:=Mq;refine AB8 AX1 rfl (ABz (Mr 0 _ rfl) Bw.x) (AL5 AX2 ALi rfl (ABq (ABt (⟨_,ABu,(((w64 Ml),(w64 (Bv + 1))):(Int) × (Int)),?_,rfl,?_,?_⟩))))
        ·exact ABl Mo
        ·exact Bw
        ·exact (Fo.then (Fp.stA Fq (AGs (Ai.b p1) rfl) rfl) (ALy rfl))
      obtain ⟨⟨Fr,Ms⟩,Mt,rfl,C1,Mu⟩:=Mk;(try dsimp only [Kst.L,List.set,AI0,ALr] at C1);refine ⟨(Cy.then Mu (AD9 (ALy rfl) all_nil)),?_⟩;subst Mt;(try dsimp only at Fm);refine AF7 rfl rfl (by decide) ?_;obtain ⟨Xp,Ft,Mv⟩:=ABm Fm;refine AFc (m:=A6) ABv rfl (Ai.o2 p0) Mh Cz rfl Ft fun Xq Mw=>AJt (m:=A6) (AF3 ACr rfl rfl rfl) (C1.o2 p0) Mw Cz Ft (show ((cI .i64)).rep _ (Int.tmod Fr 3) _ from rfl) fun Xr Mx My=>ABp (ANi (Wl (Wl ?_)));have A8:=C1.uO2 p0 My Mx;obtain ⟨Mz,C2,M1⟩:=ABm Mv;refine ADt AB3 rfl (A8.o2 p0) rfl C2 fun Xt Xu Xv M2 M3=>AB8 ACo rfl M3 (Wl (Wl (Wl ?_)));obtain ⟨Xw,C3,M4⟩:=ABm M1;refine ADt AB3 rfl (A8.o2 p0) rfl C3 fun Xx Xy Xz M5 M6=>AB8 ACo rfl M6 (Wl ?_);obtain ⟨Fu,Fv,M7⟩:=ABm M4;refine AFc (m:=A6) ABv rfl (A8.o2 p0) M5 C3 rfl Fv fun X0 M8=>?_;obtain ⟨X3,M9,Na⟩:=(A8.o2 p0).cells M8 C3 Fv;obtain rfl:=M9;refine AB8 ACr rfl (Na 0 _ rfl) ?_;obtain ⟨X4,Fw,Nb⟩:=ABm M7;refine AFc (m:=A9) ABv rfl (A8.o2 p0) M2 C2 rfl Fw fun X5 Nc=>AJt (m:=A9) (AF3 ACr rfl rfl rfl) (A8.o2 p0) Nc C2 Fw (show ((cI .i64)).rep _ Fu _ from rfl) fun X6 Nd Nf=>ACk (q_b (q_t (ABy (Wl (AC0 rfl rfl (ABq ?_))))));obtain rfl:=ABl Nb;exact ⟨Md,(((w64 (A9 + 1)),Ms,(sI (sI Fh A6 (sI Me A9 (Int.tmod Fr 3))) A9 (sI Mz A6 Fu)),Fi,Fj,Fk):(Int) × (Int) × (LiI) × LnA × LnN × LvA),Nat.lt_succ_self _,⟨Cw,(A8.uO2 p0 Nf Nd)⟩,rfl,trivial⟩
     ·obtain rfl:=ABl (AC3 Be Cx);change _=Ff at Cw;subst Cw;(try dsimp only at Fg);refine ACb (ACa (ACa (ADj (q_b (q_t (ABy (AC0 rfl rfl (Wl (ABp ?_)))))))));obtain rfl:=ABl Fg;exact ⟨Lw,(((w64 (A6 + 1)),Bv,Fh,Fi,Fj,Fk):(Int) × (Int) × (LiI) × LnA × LnN × LvA),Nat.lt_succ_self _,⟨Cu,Ai⟩,rfl,trivial⟩
    ·obtain rfl:=ABl (AC3 Bc Cv);change _=Ey at Cu;subst Cu;(try dsimp only at Ez);refine ACb (ACa (ACa (ADj (q_t (ABj (Wl (ABq (ABt (⟨_,ABu,((Fb,Bp,Fc,Fd,Fe,Fa):(LiI) × (Value) × LnA × LnN × LvA × (Int)),?_,rfl,?_⟩)))))))))
     ·exact ABl Ez
     ·exact Bu
   obtain ⟨⟨Ng,Ee,Nh,Ni,Nj,Nk⟩,Nl,rfl,Fx⟩:=Jj;(try dsimp only [Kst.L,List.set,AI0,ALr] at Fx);refine ⟨trivial,?_⟩;subst Nl;(try dsimp only at Ed);refine ACe (ACk (q_b (q_t ?_)));exact ⟨((Ng,Ee,Nh,Ni,Nj,Nk):(LiI) × (Value) × LnA × LnN × LvA × (Int)),⟨ABl Ed,Fx⟩,rfl,trivial⟩
  ·refine ABj (ADn rfl rfl (ABq ?_));have Fy:=AIz Ce Ci;refine ⟨_,rfl,fun C4=>?_,fun C4=>?_⟩
   ·refine ABj (Wl ?_);obtain ⟨Nm,Nn,Np⟩:=ABm (AC2 Fy C4);refine ACw rfl (AMu Nn) fun Nq Aw Nr Ns=>?_;obtain ⟨X8,Nt,Nu,Nv,rfl,Nw,Ny⟩:=Ns;refine ABq (AEq (fun h'=>UpT ([Aa] ++ []) Aw h') (by kernel_rfl) ?_);have Ac:=Ao.no2 Nr Ny Nw;have Bx:UpT ([Aa] ++ []) Aw Aw:=UpT.start (AD9 (AGs (Ac.b p1) rfl) all_nil);refine Wl ?_;obtain ⟨Nz,Bf,N0⟩:=ABm Np;refine ADt AB3 rfl (Ac.o2 p0) rfl Bf fun Ya Yb N3 Fz N4=>AGp ACo rfl Bx (fun h' hb=>AK0 N4 hb (AQn (Ac.dj p0 p1 (by decide) _ (by simp [aO,aO2,N3])) AQo)) ?_;obtain ⟨F4,By,N5⟩:=ABm N0;refine AFc (m:=0) ABv rfl (Ac.o2 p0) Fz Bf rfl By fun Yc F5=>?_;obtain ⟨Yd,N6,N7⟩:=(Ac.o2 p0).cells F5 Bf By;obtain rfl:=N6;refine AGp ACr rfl Bx (fun h' hb=>AK0 (N7 0 _ rfl) hb (AQn (Ac.dj p0 p1 (by decide) _ ((Ac.o2 p0).gmem F5)) AQo)) (Wl ?_);obtain ⟨N8,N9,F6⟩:=ABm N5;have Oa:UpT ([Aa] ++ []) Aw Aw:=UpT.start (AD9 (AGs (Ac.b p1) rfl) all_nil);refine ACp (K':=(fun xr h'=> ∃ x:(Int) × (Int),(x.1,x.2)=N8/\xr=(.int .i64 x.1)/\Kst h h' (Ac.L.set 1 (aB 76 Aa [Ab,(.int .i64 x.2)]))/\UpT ([Aa] ++ []) Aw h')) Bx rfl ?_ fun Ye Yf Ob=>?_
    ·refine cwf (l:=[_,_]) Tryz.func62 rfl rfl (ABj (ACs (Wl ?_)));obtain ⟨Oc,F7,F8⟩:=ABm N9;have F9:UpT ([Aa] ++ []) Aw Aw:=UpT.start (AD9 (AGs (Ac.b p1) rfl) all_nil);refine ACp (K':=(fun xr h'=> ∃ x:(Int) × (Int),(x.1,x.2)=Oc/\xr=(.int .i64 x.1)/\Kst h h' (Ac.L.set 1 (aB 76 Aa [Ab,(.int .i64 x.2)]))/\UpT ([Aa] ++ []) Aw h')) trivial rfl ?_ fun Yg Yh Od=>?_
     ·refine cwf (l:=[_]) Tryz.func50 rfl rfl (ABj (ABq (ABn (ABn (ANi (Wl (AJn rfl (AI3 AEa rfl (AB8 AFq rfl ((Ac.b p1).cell (i:=1) rfl) (Wl (AJn rfl (AI3 AJg rfl (AB8 APb rfl ((Ac.b p1).cell (i:=0) rfl) (ADy AP4 rfl H4 (AM6 rfl rfl (ABp (⟨_,rfl,fun C5=>?_,fun C5=>?_⟩)))))))))))))))))
      ·refine ABj (ABq (ABt (AB1 (⟨_,ABu,((0,0):(Int) × (Int)),?_,rfl,?_,?_⟩))))
       ·exact ABl (AC2 F7 C5)
       ·exact Ac
       ·exact F9
      ·refine ABs (q_t (ABj (Wl (AJn rfl (AI3 AEa rfl (AB8 AFq rfl ((Ac.b p1).cell (i:=1) rfl) (AC0 rfl rfl (AJn rfl (AI3 AEa rfl (AU4 [Ab,(.int .i64 (w64 (0 + 1)))] AFq rfl rfl rfl (Ac.b p1) (Nat.le_of_ble_eq_true rfl) rfl fun Yi Ga Gb=>ABp (ABn (ANi (Wl (AJn rfl (AI3 AJg rfl ?_)))))))))))))));have Bz:=Ac.sb p1 Gb Ga rfl;refine AB8 APb rfl ((Bz.b p1).cell (i:=0) rfl) (Wl (AJn rfl (AI3 AEa rfl (AB8 AFq rfl ((Bz.b p1).cell (i:=1) rfl) (AGt rfl rfl ?_)))));obtain ⟨Oe,Og,Oh⟩:=ABm (AC3 F7 C5);refine AIm (c:=(cI .i8)) AP4 rfl H4 rfl Og fun Yj Yk Yl Oi Oj=>?_;obtain rfl:=Oi;refine AB8 AX1 rfl (ABz (Oj 0 _ rfl) Bz.x) (AL5 AX2 ALi rfl (ABq (ABt (⟨_,ABu,(((w64 Oe),(w64 (0 + 1))):(Int) × (Int)),?_,rfl,?_,?_⟩))))
       ·exact ABl Oh
       ·exact Bz
       ·exact (F9.then (Ga.stA Gb (AGs (Ac.b p1) rfl) rfl) (ALy rfl))
     obtain ⟨⟨Ol,Om⟩,On,rfl,Gc,Oo⟩:=Od;(try dsimp only [Kst.L,List.set,AI0,ALr] at Gc);refine ⟨trivial,?_⟩;subst On;(try dsimp only at F8);refine AL5 ALi APd rfl (AL5 APd APc rfl (Wl (AF7 rfl rfl (by decide) (ABq (ABt (⟨_,ABu,(((Int.tmod (w64 (IntKind.wrap .u8 Ol)) 3),Om):(Int) × (Int)),?_,rfl,?_,?_⟩))))))
     ·exact ABl F8
     ·exact Gc
     ·exact (Oa.then Oo (AD9 (ALy rfl) all_nil))
    obtain ⟨⟨Gd,Oq⟩,Ot,rfl,C6,Ou⟩:=Ob;(try dsimp only [Kst.L,List.set,AI0,ALr] at C6);refine ⟨(Bx.then Ou (AD9 (ALy rfl) all_nil)),?_⟩;subst Ot;(try dsimp only at F6);refine AC0 rfl rfl (AFc (m:=0) ABv rfl (Ac.o2 p0) Fz Bf rfl By fun Ym Ov=>AJt (m:=0) (AF3 ACr rfl rfl rfl) (C6.o2 p0) Ov Bf By (show ((cI .i64)).rep _ (w64 (F4 + Gd)) _ from rfl) fun Yn Ow Ox=>ACk (q_b (q_t ?_)));exact ⟨(((sI Nm 0 (sI Nz 0 (w64 (F4 + Gd)))),Nq,Nt,Nu,Nv,Oq):(LiI) × (Value) × LnA × LnN × LvA × (Int)),⟨ABl F6,(C6.uO2 p0 Ox Ow)⟩,rfl,trivial⟩
   ·refine ABj (ADn rfl rfl (ABq ?_));have Ge:=AC3 Fy C4;refine ⟨_,rfl,fun C7=>?_,fun C7=>?_⟩
    ·refine ABj (Wl ?_);obtain ⟨Oy,Oz,O0⟩:=ABm (AC2 Ge C7);refine ACw rfl (AMu Oz) fun O1 Ax O2 O3=>?_;obtain ⟨Yo,O4,O5,O6,rfl,O7,O8⟩:=O3;refine ABq (AEq (fun h'=>UpT ([Aa] ++ []) Ax h') (by kernel_rfl) ?_);have Ad:=Ao.no2 O2 O8 O7;have B1:UpT ([Aa] ++ []) Ax Ax:=UpT.start (AD9 (AGs (Ad.b p1) rfl) all_nil);refine Wl (Wl (AGt rfl rfl ?_));obtain ⟨O9,Bg,Pa⟩:=ABm O0;refine ADt AB3 rfl (Ad.o2 p0) rfl Bg fun Yp Yq Pb Gf Pc=>AGp ACo rfl B1 (fun h' hb=>AK0 Pc hb (AQn (Ad.dj p0 p1 (by decide) _ (by simp [aO,aO2,Pb])) AQo)) (Wl (AGt rfl rfl ?_));obtain ⟨Gg,B2,Pd⟩:=ABm Pa;refine AFc (m:=(w64 ((w64 (1 + (Int.tmod (w64 a1) Af))) - 1))) ABv rfl (Ad.o2 p0) Gf Bg rfl B2 fun Yr Gh=>?_;obtain ⟨Ys,Pe,Pf⟩:=(Ad.o2 p0).cells Gh Bg B2;obtain rfl:=Pe;refine AGp ACr rfl B1 (fun h' hb=>AK0 (Pf 0 _ rfl) hb (AQn (Ad.dj p0 p1 (by decide) _ ((Ad.o2 p0).gmem Gh)) AQo)) (Wl ?_);obtain ⟨Pg,Ph,Gi⟩:=ABm Pd;have Pj:UpT ([Aa] ++ []) Ax Ax:=UpT.start (AD9 (AGs (Ad.b p1) rfl) all_nil);refine ACp (K':=(fun xr h'=> ∃ x:(Int) × (Int),(x.1,x.2)=Pg/\xr=(.int .i64 x.1)/\Kst h h' (Ad.L.set 1 (aB 76 Aa [Ab,(.int .i64 x.2)]))/\UpT ([Aa] ++ []) Ax h')) B1 rfl ?_ fun Yt Yu Pk=>?_
     ·refine cwf (l:=[_,_]) Tryz.func62 rfl rfl (ABj (ACs (Wl ?_)));obtain ⟨Pl,Gj,Gk⟩:=ABm Ph;have Gl:UpT ([Aa] ++ []) Ax Ax:=UpT.start (AD9 (AGs (Ad.b p1) rfl) all_nil);refine ACp (K':=(fun xr h'=> ∃ x:(Int) × (Int),(x.1,x.2)=Pl/\xr=(.int .i64 x.1)/\Kst h h' (Ad.L.set 1 (aB 76 Aa [Ab,(.int .i64 x.2)]))/\UpT ([Aa] ++ []) Ax h')) trivial rfl ?_ fun Yv Yw Pm=>?_
      ·refine cwf (l:=[_]) Tryz.func50 rfl rfl (ABj (ABq (ABn (ABn (ANi (Wl (AJn rfl (AI3 AEa rfl (AB8 AFq rfl ((Ad.b p1).cell (i:=1) rfl) (Wl (AJn rfl (AI3 AJg rfl (AB8 APb rfl ((Ad.b p1).cell (i:=0) rfl) (ADy AP4 rfl H4 (AM6 rfl rfl (ABp (⟨_,rfl,fun C8=>?_,fun C8=>?_⟩)))))))))))))))))
       ·refine ABj (ABq (ABt (AB1 (⟨_,ABu,((0,0):(Int) × (Int)),?_,rfl,?_,?_⟩))))
        ·exact ABl (AC2 Gj C8)
        ·exact Ad
        ·exact Gl
       ·refine ABs (q_t (ABj (Wl (AJn rfl (AI3 AEa rfl (AB8 AFq rfl ((Ad.b p1).cell (i:=1) rfl) (AC0 rfl rfl (AJn rfl (AI3 AEa rfl (AU4 [Ab,(.int .i64 (w64 (0 + 1)))] AFq rfl rfl rfl (Ad.b p1) (Nat.le_of_ble_eq_true rfl) rfl fun Yx Gm Gn=>ABp (ABn (ANi (Wl (AJn rfl (AI3 AJg rfl ?_)))))))))))))));have B3:=Ad.sb p1 Gn Gm rfl;refine AB8 APb rfl ((B3.b p1).cell (i:=0) rfl) (Wl (AJn rfl (AI3 AEa rfl (AB8 AFq rfl ((B3.b p1).cell (i:=1) rfl) (AGt rfl rfl ?_)))));obtain ⟨Pn,Po,Pp⟩:=ABm (AC3 Gj C8);refine AIm (c:=(cI .i8)) AP4 rfl H4 rfl Po fun Yy Yz Y0 Pq Ps=>?_;obtain rfl:=Pq;refine AB8 AX1 rfl (ABz (Ps 0 _ rfl) B3.x) (AL5 AX2 ALi rfl (ABq (ABt (⟨_,ABu,(((w64 Pn),(w64 (0 + 1))):(Int) × (Int)),?_,rfl,?_,?_⟩))))
        ·exact ABl Pp
        ·exact B3
        ·exact (Gl.then (Gm.stA Gn (AGs (Ad.b p1) rfl) rfl) (ALy rfl))
      obtain ⟨⟨Pt,Pu⟩,Pv,rfl,Gp,Pw⟩:=Pm;(try dsimp only [Kst.L,List.set,AI0,ALr] at Gp);refine ⟨trivial,?_⟩;subst Pv;(try dsimp only at Gk);refine AL5 ALi APd rfl (AL5 APd APc rfl (Wl (AF7 rfl rfl (by decide) (ABq (ABt (⟨_,ABu,(((Int.tmod (w64 (IntKind.wrap .u8 Pt)) 2),Pu):(Int) × (Int)),?_,rfl,?_,?_⟩))))))
      ·exact ABl Gk
      ·exact Gp
      ·exact (Pj.then Pw (AD9 (ALy rfl) all_nil))
     obtain ⟨⟨Gq,Px⟩,Py,rfl,C9,Pz⟩:=Pk;(try dsimp only [Kst.L,List.set,AI0,ALr] at C9);refine ⟨(B1.then Pz (AD9 (ALy rfl) all_nil)),?_⟩;subst Py;(try dsimp only at Gi);refine AC0 rfl rfl (AFc (m:=(w64 ((w64 (1 + (Int.tmod (w64 a1) Af))) - 1))) ABv rfl (Ad.o2 p0) Gf Bg rfl B2 fun Y1 P0=>AJt (m:=(w64 ((w64 (1 + (Int.tmod (w64 a1) Af))) - 1))) (AF3 ACr rfl rfl rfl) (C9.o2 p0) P0 Bg B2 (show ((cI .i64)).rep _ (w64 (Gg + Gq)) _ from rfl) fun Y3 P1 P2=>ACk (q_b (q_t ?_)));exact ⟨(((sI Oy (w64 ((w64 (1 + (Int.tmod (w64 a1) Af))) - 1)) (sI O9 (w64 ((w64 (1 + (Int.tmod (w64 a1) Af))) - 1)) (w64 (Gg + Gq)))),O1,O4,O5,O6,Px):(LiI) × (Value) × LnA × LnN × LvA × (Int)),⟨ABl Gi,(C9.uO2 p0 P2 P1)⟩,rfl,trivial⟩
    ·refine ABj (ADn rfl rfl (ABq ?_));have Gr:=AC3 Ge C7;refine ⟨_,rfl,fun Da=>?_,fun Da=>?_⟩
     ·refine ABy (Wl (Wl ?_));obtain ⟨P3,P4,Gt⟩:=ABm (AC2 Gr Da);refine ACp (K':=(fun xr h'=> ∃ x:(LiI) × (Value) × LnA × LnN × LvA × (Int),(x.1,x.2.2.2.2.2)=P3/\xr=x.2.1/\Kst h h' (aO2 (cI .i64) 23 2 x.2.2.1 x.2.2.2.1 x.2.2.2.2.1 x.2.1 x.1 :: (Ao.L.set 0 (aB 76 Aa [Ab,(.int .i64 x.2.2.2.2.2)]))))) trivial rfl ?_ fun Gu Y4 P5=>?_
      ·refine cwf (l:=[_,_,_]) Tryz.func63 rfl rfl (ABj (ACs (Wl ?_)));obtain ⟨P6,P7⟩:=ifN P4;refine AU9 (cI .i64) 2 AB3 AKb rfl trivial tt2 rfl rfl (by decide) P6 fun P8 P9 Qa Gv Y5 Qb Qc Qd=>ABq (ABn (ABj (Wl ?_)));have Db:=Ao.no2 Qc Qd Qb;refine ADf AB3 rfl (Db.o2 p0).rd (Wl (ABp (ABr ?_)));obtain ⟨Gw,Qe,Gx⟩:=ABm P7;obtain ⟨Qg,Qh,Qi⟩:=ACd Qe;refine ACi 4294959360 (fun x:(Int) × (Int) × (LiI) × LnA × LnN × LvA=>[(13,(.int .i64 x.1))]) (fun k x h'=>iter Qg k (x.1,x.2.1,x.2.2.1)=some Gw/\Kst h h' ((Db.L.set 0 (aO2 (cI .i64) 23 2 x.2.2.2.1 x.2.2.2.2.1 x.2.2.2.2.2 Gv x.2.2.1)).set 1 (aB 76 Aa [Ab,(.int .i64 x.2.1)]))) (by kernel_rfl) fuel ((0,0,(List.replicate (Int.toNat (w64 (1 + (Int.tmod (w64 a1) Af)))) ([]:List Int)),P8,P9,Qa):(Int) × (Int) × (LiI) × LnA × LnN × LvA) ?_ ⟨rfl,trivial⟩ ?_
       ·exact ⟨Qi,Db⟩
       rintro Y6 ⟨Aq,B4,Gy,Qj,Dc,Gz⟩ Qk Ql ⟨Qm,Dd⟩;(try dsimp only [Kst.L,List.set,AI0,ALr] at Dd);refine (show W _ _ _ (setL [(13,(.int .i64 Aq))] (mix _ Qk _)) Ql from ?_);obtain ⟨Qn,Y7,rfl,Bh,De⟩:=AB4 Qm;rw [Qh] at Bh;dsimp only at Bh;unfold AE9 at Bh;refine ABj (AC1 rfl rfl (ABp (ABn (⟨_,rfl,fun Df=>?_,fun Df=>?_⟩))))
       ·refine ABs (q_t (ABn (ABr (ABj (Wl (ACs (Wl (Wl (Wl ?_)))))))));obtain ⟨Qo,Qp⟩:=ifN (AC2 Bh Df);refine ARr (c:=(cI .i64)) (a:=0) ABv AGz rfl rfl (fun _=>rfl) rfl trivial tt2 rfl rfl (by decide) Qo fun G3 Qq Y8 Qr Qs Qt Qu=>?_;have Bi:=Dd.no Qs (AGr Qt Qu) Qr;obtain ⟨Y9,G4,Qv⟩:=ABm Qp;refine ADt AB3 rfl (Bi.o2 p1) rfl G4 fun Qw Za Qx Zb Zd=>AWt ACo (Bi.o2 p1) G4 Qx rfl rfl (Bi.o p0) (Bi.dj p0 p1 (by decide)) fun Ay Qy Qz Q0=>ABp (AEq (fun h'=>UpT ([Aa] ++ []) Ay h') (by kernel_rfl) ?_);have Aj:=Bi.m2 p0 p1 (by decide) Qz Qy (fun z hz=> .inl (Q0 z hz));have Dg:UpT ([Aa] ++ []) Ay Ay:=UpT.start (AD9 (AGs (Aj.b p2) rfl) all_nil);refine Wl (Wl ?_);obtain ⟨Q1,Dh,Q2⟩:=ABm Qv;refine ADt AB3 rfl (Aj.o2 p1) rfl Dh fun Ze Zf Q3 Q4 Q6=>AGp ACo rfl Dg (fun h' hb=>AK0 Q6 hb (AQn (Aj.dj p1 p2 (by decide) _ (by simp [aO,aO2,Q3])) AQo)) (Wl (Wl (Wl ?_)));obtain ⟨Q7,Q8,G5⟩:=ABm Q2;have Q9:UpT ([Aa] ++ []) Ay Ay:=UpT.start (AD9 (AGs (Aj.b p2) rfl) all_nil);refine ACp (K':=(fun xr h'=> ∃ x:(Int) × (Int),(x.1,x.2)=Q7/\xr=(.int .i64 x.1)/\Kst h h' ((AI0 Aj.L [1,2]).set 1 (aB 76 Aa [Ab,(.int .i64 x.2)]))/\UpT ([Aa] ++ []) Ay h')) Dg rfl ?_ fun Zg Zh Rc=>?_
        ·refine cwf (l:=[_,_]) Tryz.func62 rfl rfl (ABj (ACs (Wl ?_)));obtain ⟨Rd,G6,G7⟩:=ABm Q8;have G8:UpT ([Aa] ++ []) Ay Ay:=UpT.start (AD9 (AGs (Aj.b p2) rfl) all_nil);refine ACp (K':=(fun xr h'=> ∃ x:(Int) × (Int),(x.1,x.2)=Rd/\xr=(.int .i64 x.1)/\Kst h h' ((AI0 Aj.L [1,2]).set 1 (aB 76 Aa [Ab,(.int .i64 x.2)]))/\UpT ([Aa] ++ []) Ay h')) trivial rfl ?_ fun Zj Zk Re=>?_
         ·refine cwf (l:=[_]) Tryz.func50 rfl rfl (ABj (ABq (ABn (ABn (ANi (Wl (AJn rfl (AI3 AEa rfl (AB8 AFq rfl ((Aj.b p2).cell (i:=1) rfl) (Wl (AJn rfl (AI3 AJg rfl (AB8 APb rfl ((Aj.b p2).cell (i:=0) rfl) (ADy AP4 rfl H4 (AM6 rfl rfl (ABp (⟨_,rfl,fun Di=>?_,fun Di=>?_⟩)))))))))))))))))
          ·refine ABj (ABq (ABt (AB1 (⟨_,ABu,((0,B4):(Int) × (Int)),?_,rfl,?_,?_⟩))))
           ·exact ABl (AC2 G6 Di)
           ·exact Aj.sel [1,2] (by decide)
           ·exact G8
          ·refine ABs (q_t (ABj (Wl (AJn rfl (AI3 AEa rfl (AB8 AFq rfl ((Aj.b p2).cell (i:=1) rfl) (AC0 rfl rfl (AJn rfl (AI3 AEa rfl (AU4 [Ab,(.int .i64 (w64 (B4 + 1)))] AFq rfl rfl rfl (Aj.b p2) (Nat.le_of_ble_eq_true rfl) rfl fun Zl G9 Hb=>ABp (ABn (ANi (Wl (AJn rfl (AI3 AJg rfl ?_)))))))))))))));have B5:=Aj.sb p2 Hb G9 rfl;refine AB8 APb rfl ((B5.b p2).cell (i:=0) rfl) (Wl (AJn rfl (AI3 AEa rfl (AB8 AFq rfl ((B5.b p2).cell (i:=1) rfl) (AGt rfl rfl ?_)))));obtain ⟨Rf,Rg,Rh⟩:=ABm (AC3 G6 Di);refine AIm (c:=(cI .i8)) AP4 rfl H4 rfl Rg fun Zm Zn Zo Ri Rj=>?_;obtain rfl:=Ri;refine AB8 AX1 rfl (ABz (Rj 0 _ rfl) B5.x) (AL5 AX2 ALi rfl (ABq (ABt (⟨_,ABu,(((w64 Rf),(w64 (B4 + 1))):(Int) × (Int)),?_,rfl,?_,?_⟩))))
           ·exact ABl Rh
           ·exact B5.sel [1,2] (by decide)
           ·exact (G8.then (G9.stA Hb (AGs (Aj.b p2) rfl) rfl) (ALy rfl))
         obtain ⟨⟨Rm,Rn⟩,Ro,rfl,Hc,Rq⟩:=Re;(try dsimp only [Kst.L,List.set,AI0,ALr] at Hc);refine ⟨trivial,?_⟩;subst Ro;(try dsimp only at G7);refine AL5 ALi APd rfl (AL5 APd APc rfl (Wl (AF7 rfl rfl (by decide) (ABq (ABt (⟨_,ABu,(((Int.tmod (w64 (IntKind.wrap .u8 Rm)) 9),Rn):(Int) × (Int)),?_,rfl,?_,?_⟩))))))
         ·exact ABl G7
         ·exact Hc
         ·exact (Q9.then Rq (AD9 (ALy rfl) all_nil))
        obtain ⟨⟨Hd,Rr⟩,Rs,rfl,Dj,Rt⟩:=Rc;(try dsimp only [Kst.L,List.set,AI0,ALr] at Dj);refine ⟨(Dg.then Rt (AD9 (ALy rfl) all_nil)),?_⟩;subst Rs;(try dsimp only at G5);refine AC0 rfl rfl ?_;obtain ⟨Zp,He,Ru⟩:=ABm G5;refine AFc (m:=Aq) ABv rfl (Aj.o2 p1) Q4 Dh rfl He fun Zq Rv=>AJt (m:=Aq) (AF3 ACr rfl rfl rfl) (Dj.o2 p0) Rv Dh He (show ((cI .i64)).rep _ (w64 (1 + Hd)) _ from rfl) fun Zr Rw Rx=>ACk (q_b (q_t (ABy (AC0 rfl rfl (Wl (ABp ?_))))));obtain rfl:=ABl Ru;exact ⟨Qn,(((w64 (Aq + 1)),Rr,(sI (sI Gy Aq (List.replicate (Int.toNat (w64 (1 + (Int.tmod (w64 a1) Af)))) (0:Int))) Aq (sI Q1 Aq (w64 (1 + Hd)))),(Qw :: (Dc.set (Int.toNat Aq) [G3]).flatten),(Dc.set (Int.toNat Aq) [G3]),(Gz.set (Int.toNat Aq) Qq)):(Int) × (Int) × (LiI) × LnA × LnN × LvA),Nat.lt_succ_self _,⟨De,(Dj.uO2 p0 Rx Rw)⟩,rfl,trivial⟩
       ·obtain rfl:=ABl (AC3 Bh Df);change _=Gw at De;subst De;(try dsimp only at Gx);refine ACb (ACa (ACa (ADj (q_t (ABj (Wl (ABq (ABt (⟨_,ABu,((Gy,Gv,Qj,Dc,Gz,B4):(LiI) × (Value) × LnA × LnN × LvA × (Int)),?_,rfl,?_⟩)))))))))
        ·exact ABl Gx
        ·exact Dd
      obtain ⟨⟨Ry,Gu,Rz,R3,R4,R5⟩,R6,rfl,Hf⟩:=P5;(try dsimp only [Kst.L,List.set,AI0,ALr] at Hf);refine ⟨trivial,?_⟩;subst R6;(try dsimp only at Gt);refine ACe (ACk (q_b (q_t ?_)));exact ⟨((Ry,Gu,Rz,R3,R4,R5):(LiI) × (Value) × LnA × LnN × LvA × (Int)),⟨ABl Gt,Hf⟩,rfl,trivial⟩
     ·refine ABy (Wl (Wl ?_));obtain ⟨R7,R8,Hg⟩:=ABm (AC3 Gr Da);refine ACp (K':=(fun xr h'=> ∃ x:(LiI) × (Value) × LnA × LnN × LvA × (Int),(x.1,x.2.2.2.2.2)=R7/\xr=x.2.1/\Kst h h' (aO2 (cI .i64) 23 2 x.2.2.1 x.2.2.2.1 x.2.2.2.2.1 x.2.1 x.1 :: (Ao.L.set 0 (aB 76 Aa [Ab,(.int .i64 x.2.2.2.2.2)]))))) trivial rfl ?_ fun Hh Zs R9=>?_
      ·refine cwf (l:=[_,_,_]) Tryz.func63 rfl rfl (ABj (ACs (Wl ?_)));obtain ⟨Sa,Sb⟩:=ifN R8;refine AU9 (cI .i64) 2 AB3 AKb rfl trivial tt2 rfl rfl (by decide) Sa fun Sc Sd Se Hj Zt Sf Sg Sh=>ABq (ABn (ABj (Wl ?_)));have Dk:=Ao.no2 Sg Sh Sf;refine ADf AB3 rfl (Dk.o2 p0).rd (Wl (ABp (ABr ?_)));obtain ⟨Hk,Si,Hl⟩:=ABm Sb;obtain ⟨Sj,Sk,Sm⟩:=ACd Si;refine ACi 4294959360 (fun x:(Int) × (Int) × (LiI) × LnA × LnN × LvA=>[(13,(.int .i64 x.1))]) (fun k x h'=>iter Sj k (x.1,x.2.1,x.2.2.1)=some Hk/\Kst h h' ((Dk.L.set 0 (aO2 (cI .i64) 23 2 x.2.2.2.1 x.2.2.2.2.1 x.2.2.2.2.2 Hj x.2.2.1)).set 1 (aB 76 Aa [Ab,(.int .i64 x.2.1)]))) (by kernel_rfl) fuel ((0,0,(List.replicate (Int.toNat (w64 (1 + (Int.tmod (w64 a1) Af)))) ([]:List Int)),Sc,Sd,Se):(Int) × (Int) × (LiI) × LnA × LnN × LvA) ?_ ⟨rfl,trivial⟩ ?_
       ·exact ⟨Sm,Dk⟩
       rintro Zu ⟨Ar,B6,Hm,Sn,Dl,Hn⟩ So Sq ⟨Sr,Dn⟩;(try dsimp only [Kst.L,List.set,AI0,ALr] at Dn);refine (show W _ _ _ (setL [(13,(.int .i64 Ar))] (mix _ So _)) Sq from ?_);obtain ⟨Ss,Zv,rfl,Bj,Do⟩:=AB4 Sr;rw [Sk] at Bj;dsimp only at Bj;unfold AFa at Bj;refine ABj (AC1 rfl rfl (ABp (ABn (⟨_,rfl,fun Dp=>?_,fun Dp=>?_⟩))))
       ·refine ABs (q_t (ABn (ABr (ABj (Wl (ACs (Wl (Wl (Wl ?_)))))))));obtain ⟨St,Su⟩:=ifN (AC2 Bj Dp);refine ARr (c:=(cI .i64)) (a:=0) ABv AGz rfl rfl (fun _=>rfl) rfl trivial tt2 rfl rfl (by decide) St fun Ho Sv Zw Sw Sx Sy Sz=>?_;have Bl:=Dn.no Sx (AGr Sy Sz) Sw;obtain ⟨Zx,Hq,S0⟩:=ABm Su;refine ADt AB3 rfl (Bl.o2 p1) rfl Hq fun S2 Zy S3 Zz Z0=>AWt ACo (Bl.o2 p1) Hq S3 rfl rfl (Bl.o p0) (Bl.dj p0 p1 (by decide)) fun Az S4 S7 Ta=>ABp (AEq (fun h'=>UpT ([Aa] ++ []) Az h') (by kernel_rfl) ?_);have Ak:=Bl.m2 p0 p1 (by decide) S7 S4 (fun z hz=> .inl (Ta z hz));have Dq:UpT ([Aa] ++ []) Az Az:=UpT.start (AD9 (AGs (Ak.b p2) rfl) all_nil);refine Wl (Wl ?_);obtain ⟨Tb,Dr,Tc⟩:=ABm S0;refine ADt AB3 rfl (Ak.o2 p1) rfl Dr fun Z1 Z4 Td Te Tf=>AGp ACo rfl Dq (fun h' hb=>AK0 Tf hb (AQn (Ak.dj p1 p2 (by decide) _ (by simp [aO,aO2,Td])) AQo)) (Wl (Wl (Wl ?_)));obtain ⟨Tg,Th,Hr⟩:=ABm Tc;have Ti:UpT ([Aa] ++ []) Az Az:=UpT.start (AD9 (AGs (Ak.b p2) rfl) all_nil);refine ACp (K':=(fun xr h'=> ∃ x:(Int) × (Int),(x.1,x.2)=Tg/\xr=(.int .i64 x.1)/\Kst h h' ((AI0 Ak.L [1,2]).set 1 (aB 76 Aa [Ab,(.int .i64 x.2)]))/\UpT ([Aa] ++ []) Az h')) Dq rfl ?_ fun Z9 AAa Tj=>?_
        ·refine cwf (l:=[_,_]) Tryz.func62 rfl rfl (ABj (ACs (Wl ?_)));obtain ⟨Tk,Hs,Ht⟩:=ABm Th;have Hu:UpT ([Aa] ++ []) Az Az:=UpT.start (AD9 (AGs (Ak.b p2) rfl) all_nil);refine ACp (K':=(fun xr h'=> ∃ x:(Int) × (Int),(x.1,x.2)=Tk/\xr=(.int .i64 x.1)/\Kst h h' ((AI0 Ak.L [1,2]).set 1 (aB 76 Aa [Ab,(.int .i64 x.2)]))/\UpT ([Aa] ++ []) Az h')) trivial rfl ?_ fun AAb AAc Tl=>?_
         ·refine cwf (l:=[_]) Tryz.func50 rfl rfl (ABj (ABq (ABn (ABn (ANi (Wl (AJn rfl (AI3 AEa rfl (AB8 AFq rfl ((Ak.b p2).cell (i:=1) rfl) (Wl (AJn rfl (AI3 AJg rfl (AB8 APb rfl ((Ak.b p2).cell (i:=0) rfl) (ADy AP4 rfl H4 (AM6 rfl rfl (ABp (⟨_,rfl,fun Ds=>?_,fun Ds=>?_⟩)))))))))))))))))
          ·refine ABj (ABq (ABt (AB1 (⟨_,ABu,((0,B6):(Int) × (Int)),?_,rfl,?_,?_⟩))))
           ·exact ABl (AC2 Hs Ds)
           ·exact Ak.sel [1,2] (by decide)
           ·exact Hu
          ·refine ABs (q_t (ABj (Wl (AJn rfl (AI3 AEa rfl (AB8 AFq rfl ((Ak.b p2).cell (i:=1) rfl) (AC0 rfl rfl (AJn rfl (AI3 AEa rfl (AU4 [Ab,(.int .i64 (w64 (B6 + 1)))] AFq rfl rfl rfl (Ak.b p2) (Nat.le_of_ble_eq_true rfl) rfl fun AAd Hv Hw=>ABp (ABn (ANi (Wl (AJn rfl (AI3 AJg rfl ?_)))))))))))))));have B7:=Ak.sb p2 Hw Hv rfl;refine AB8 APb rfl ((B7.b p2).cell (i:=0) rfl) (Wl (AJn rfl (AI3 AEa rfl (AB8 AFq rfl ((B7.b p2).cell (i:=1) rfl) (AGt rfl rfl ?_)))));obtain ⟨Tm,Tn,To⟩:=ABm (AC3 Hs Ds);refine AIm (c:=(cI .i8)) AP4 rfl H4 rfl Tn fun AAe AAf AAg Tp Tq=>?_;obtain rfl:=Tp;refine AB8 AX1 rfl (ABz (Tq 0 _ rfl) B7.x) (AL5 AX2 ALi rfl (ABq (ABt (⟨_,ABu,(((w64 Tm),(w64 (B6 + 1))):(Int) × (Int)),?_,rfl,?_,?_⟩))))
           ·exact ABl To
           ·exact B7.sel [1,2] (by decide)
           ·exact (Hu.then (Hv.stA Hw (AGs (Ak.b p2) rfl) rfl) (ALy rfl))
         obtain ⟨⟨Tr,Ts⟩,Tt,rfl,Hx,Tu⟩:=Tl;(try dsimp only [Kst.L,List.set,AI0,ALr] at Hx);refine ⟨trivial,?_⟩;subst Tt;(try dsimp only at Ht);refine AL5 ALi APd rfl (AL5 APd APc rfl (Wl (AF7 rfl rfl (by decide) (ABq (ABt (⟨_,ABu,(((Int.tmod (w64 (IntKind.wrap .u8 Tr)) 1),Ts):(Int) × (Int)),?_,rfl,?_,?_⟩))))))
         ·exact ABl Ht
         ·exact Hx
         ·exact (Ti.then Tu (AD9 (ALy rfl) all_nil))
        obtain ⟨⟨Hy,Tv⟩,Tw,rfl,Dt,Tx⟩:=Tj;(try dsimp only [Kst.L,List.set,AI0,ALr] at Dt);refine ⟨(Dq.then Tx (AD9 (ALy rfl) all_nil)),?_⟩;subst Tw;(try dsimp only at Hr);refine AC0 rfl rfl ?_;obtain ⟨AAh,Hz,Ty⟩:=ABm Hr;refine AFc (m:=Ar) ABv rfl (Ak.o2 p1) Te Dr rfl Hz fun AAi Tz=>AJt (m:=Ar) (AF3 ACr rfl rfl rfl) (Dt.o2 p0) Tz Dr Hz (show ((cI .i64)).rep _ (w64 (1 + Hy)) _ from rfl) fun AAj T0 T1=>ACk (q_b (q_t (ABy (AC0 rfl rfl (Wl (ABp ?_))))));obtain rfl:=ABl Ty;exact ⟨Ss,(((w64 (Ar + 1)),Tv,(sI (sI Hm Ar (List.replicate (Int.toNat (w64 (1 + (Int.tmod (w64 a1) Af)))) (0:Int))) Ar (sI Tb Ar (w64 (1 + Hy)))),(S2 :: (Dl.set (Int.toNat Ar) [Ho]).flatten),(Dl.set (Int.toNat Ar) [Ho]),(Hn.set (Int.toNat Ar) Sv)):(Int) × (Int) × (LiI) × LnA × LnN × LvA),Nat.lt_succ_self _,⟨Do,(Dt.uO2 p0 T1 T0)⟩,rfl,trivial⟩
       ·obtain rfl:=ABl (AC3 Bj Dp);change _=Hk at Do;subst Do;(try dsimp only at Hl);refine ACb (ACa (ACa (ADj (q_t (ABj (Wl (ABq (ABt (⟨_,ABu,((Hm,Hj,Sn,Dl,Hn,B6):(LiI) × (Value) × LnA × LnN × LvA × (Int)),?_,rfl,?_⟩)))))))))
        ·exact ABl Hl
        ·exact Dn
      obtain ⟨⟨T2,Hh,T3,T4,T5,T6⟩,T7,rfl,H5⟩:=R9;(try dsimp only [Kst.L,List.set,AI0,ALr] at H5);refine ⟨trivial,?_⟩;subst T7;(try dsimp only at Hg);refine ACe (ACk (q_b (q_t ?_)));exact ⟨((T2,Hh,T3,T4,T5,T6):(LiI) × (Value) × LnA × LnN × LvA × (Int)),⟨ABl Hg,H5⟩,rfl,trivial⟩
 rintro ⟨AAk,T8,AAl,AAm,AAn,T9⟩ Ua Ub ⟨Uc,Du⟩;(try dsimp only [Kst.L,List.set,AI0,ALr] at Du);refine (show W _ _ _ (setL [(7,T8)] (mix _ Ua _)) Ub from ?_);subst Uc;(try dsimp only at D9);refine ABn (ABj (Wl ?_));obtain ⟨AAo,Ud,H9⟩:=ABm D9;refine ACw rfl (ARx (Du.o2 p0).rd Ud) fun AAp AAq Ue Uf=>?_;subst Uf;refine AF8 rfl (ABp ?_);have Bm:=Du.e Ue;refine ⟨_,rfl,fun Dv=>?_,fun Dv=>?_⟩
 ·refine ABj (Wl (Wl ?_));obtain ⟨Ug,Uh,Ia⟩:=ABm (ifT H9 Dv);refine ACp (K':=(fun xr h'=> ∃ x:(LiI) × (Value) × LnA × LnN × LvA × (Int),(x.1,x.2.2.2.2.2)=Ug/\xr=x.2.1/\Kst h h' (aO2 (cI .i64) 23 2 x.2.2.1 x.2.2.2.1 x.2.2.2.2.1 x.2.1 x.1 :: (Bm.L.set 1 (aB 76 Aa [Ab,(.int .i64 x.2.2.2.2.2)]))))) trivial rfl ?_ fun Ui AAr Uj=>?_
  ·refine cwf (l:=[_,_,_]) Tryz.func63 rfl rfl (ABj (ACs (Wl ?_)));obtain ⟨Uk,Ul⟩:=ifN Uh;refine AU9 (cI .i64) 2 AB3 AKb rfl trivial tt2 rfl rfl (by decide) Uk fun Um Un Uo Ib AAs Up Uq Ur=>ABq (ABn (ABj (Wl ?_)));have Dw:=Bm.no2 Uq Ur Up;refine ADf AB3 rfl (Dw.o2 p0).rd (Wl (ABp (ABr ?_)));obtain ⟨Ic,Us,Id⟩:=ABm Ul;obtain ⟨Ut,Uu,Uv⟩:=ACd Us;refine ACi 4294959360 (fun x:(Int) × (Int) × (LiI) × LnA × LnN × LvA=>[(13,(.int .i64 x.1))]) (fun k x h'=>iter Ut k (x.1,x.2.1,x.2.2.1)=some Ic/\Kst h h' ((Dw.L.set 0 (aO2 (cI .i64) 23 2 x.2.2.2.1 x.2.2.2.2.1 x.2.2.2.2.2 Ib x.2.2.1)).set 2 (aB 76 Aa [Ab,(.int .i64 x.2.1)]))) (by kernel_rfl) fuel ((0,T9,(List.replicate (Int.toNat (w64 (1 + (Int.tmod (w64 a1) Af)))) ([]:List Int)),Um,Un,Uo):(Int) × (Int) × (LiI) × LnA × LnN × LvA) ?_ ⟨rfl,trivial⟩ ?_
   ·exact ⟨Uv,Dw⟩
   rintro AAt ⟨Au,B8,Ie,Uw,Dx,If⟩ Ux Uy ⟨Uz,Dy⟩;(try dsimp only [Kst.L,List.set,AI0,ALr] at Dy);refine (show W _ _ _ (setL [(13,(.int .i64 Au))] (mix _ Ux _)) Uy from ?_);obtain ⟨U0,AAu,rfl,Bn,Dz⟩:=AB4 Uz;rw [Uu] at Bn;dsimp only at Bn;unfold AFb at Bn;refine ABj (AC1 rfl rfl (ABp (ABn (⟨_,rfl,fun D0=>?_,fun D0=>?_⟩))))
   ·refine ABs (q_t (ABn (ABr (ABj (Wl (ACs (Wl (Wl (Wl ?_)))))))));obtain ⟨U3,U8⟩:=ifN (AC2 Bn D0);refine ARr (c:=(cI .i64)) (a:=0) ABv AGz rfl rfl (fun _=>rfl) rfl trivial tt2 rfl rfl (by decide) U3 fun Ih Va AAv Vb Vc Vd Ve=>?_;have Bo:=Dy.no Vc (AGr Vd Ve) Vb;obtain ⟨AAw,Ii,Vf⟩:=ABm U8;refine ADt AB3 rfl (Bo.o2 p1) rfl Ii fun Vg AAx Vh AAy AAz=>AWt ACo (Bo.o2 p1) Ii Vh rfl rfl (Bo.o p0) (Bo.dj p0 p1 (by decide)) fun A3 Vi Vj Vk=>ABp (AEq (fun h'=>UpT ([Aa] ++ []) A3 h') (by kernel_rfl) ?_);have Am:=Bo.m2 p0 p1 (by decide) Vj Vi (fun z hz=> .inl (Vk z hz));have D1:UpT ([Aa] ++ []) A3 A3:=UpT.start (AD9 (AGs (Am.b p3) rfl) all_nil);refine Wl (Wl ?_);obtain ⟨Vl,D2,Vm⟩:=ABm Vf;refine ADt AB3 rfl (Am.o2 p1) rfl D2 fun AA0 AA1 Vn Vo Vp=>AGp ACo rfl D1 (fun h' hb=>AK0 Vp hb (AQn (Am.dj p1 p3 (by decide) _ (by simp [aO,aO2,Vn])) AQo)) (Wl (Wl (Wl ?_)));obtain ⟨Vq,Vr,Ij⟩:=ABm Vm;have Vs:UpT ([Aa] ++ []) A3 A3:=UpT.start (AD9 (AGs (Am.b p3) rfl) all_nil);refine ACp (K':=(fun xr h'=> ∃ x:(Int) × (Int),(x.1,x.2)=Vq/\xr=(.int .i64 x.1)/\Kst h h' ((AI0 Am.L [1,2,3]).set 2 (aB 76 Aa [Ab,(.int .i64 x.2)]))/\UpT ([Aa] ++ []) A3 h')) D1 rfl ?_ fun AA2 AA3 Vt=>?_
    ·refine cwf (l:=[_,_]) Tryz.func62 rfl rfl (ABj (ACs (Wl ?_)));obtain ⟨Vu,Ik,Il⟩:=ABm Vr;have Im:UpT ([Aa] ++ []) A3 A3:=UpT.start (AD9 (AGs (Am.b p3) rfl) all_nil);refine ACp (K':=(fun xr h'=> ∃ x:(Int) × (Int),(x.1,x.2)=Vu/\xr=(.int .i64 x.1)/\Kst h h' ((AI0 Am.L [1,2,3]).set 2 (aB 76 Aa [Ab,(.int .i64 x.2)]))/\UpT ([Aa] ++ []) A3 h')) trivial rfl ?_ fun AA4 AA5 Vv=>?_
     ·refine cwf (l:=[_]) Tryz.func50 rfl rfl (ABj (ABq (ABn (ABn (ANi (Wl (AJn rfl (AI3 AEa rfl (AB8 AFq rfl ((Am.b p3).cell (i:=1) rfl) (Wl (AJn rfl (AI3 AJg rfl (AB8 APb rfl ((Am.b p3).cell (i:=0) rfl) (ADy AP4 rfl H4 (AM6 rfl rfl (ABp (⟨_,rfl,fun D3=>?_,fun D3=>?_⟩)))))))))))))))))
      ·refine ABj (ABq (ABt (AB1 (⟨_,ABu,((0,B8):(Int) × (Int)),?_,rfl,?_,?_⟩))))
       ·exact ABl (AC2 Ik D3)
       ·exact Am.sel [1,2,3] (by decide)
       ·exact Im
      ·refine ABs (q_t (ABj (Wl (AJn rfl (AI3 AEa rfl (AB8 AFq rfl ((Am.b p3).cell (i:=1) rfl) (AC0 rfl rfl (AJn rfl (AI3 AEa rfl (AU4 [Ab,(.int .i64 (w64 (B8 + 1)))] AFq rfl rfl rfl (Am.b p3) (Nat.le_of_ble_eq_true rfl) rfl fun AA6 Io Ip=>ABp (ABn (ANi (Wl (AJn rfl (AI3 AJg rfl ?_)))))))))))))));have B9:=Am.sb p3 Ip Io rfl;refine AB8 APb rfl ((B9.b p3).cell (i:=0) rfl) (Wl (AJn rfl (AI3 AEa rfl (AB8 AFq rfl ((B9.b p3).cell (i:=1) rfl) (AGt rfl rfl ?_)))));obtain ⟨Vw,Vx,Vy⟩:=ABm (AC3 Ik D3);refine AIm (c:=(cI .i8)) AP4 rfl H4 rfl Vx fun AA7 AA8 AA9 Vz V5=>?_;obtain rfl:=Vz;refine AB8 AX1 rfl (ABz (V5 0 _ rfl) B9.x) (AL5 AX2 ALi rfl (ABq (ABt (⟨_,ABu,(((w64 Vw),(w64 (B8 + 1))):(Int) × (Int)),?_,rfl,?_,?_⟩))))
       ·exact ABl Vy
       ·exact B9.sel [1,2,3] (by decide)
       ·exact (Im.then (Io.stA Ip (AGs (Am.b p3) rfl) rfl) (ALy rfl))
     obtain ⟨⟨V6,Wa⟩,Wb,rfl,Iq,Wc⟩:=Vv;(try dsimp only [Kst.L,List.set,AI0,ALr] at Iq);refine ⟨trivial,?_⟩;subst Wb;(try dsimp only at Il);refine AL5 ALi APd rfl (AL5 APd APc rfl (Wl (AF7 rfl rfl (by decide) (ABq (ABt (⟨_,ABu,(((Int.tmod (w64 (IntKind.wrap .u8 V6)) 2),Wa):(Int) × (Int)),?_,rfl,?_,?_⟩))))))
     ·exact ABl Il
     ·exact Iq
     ·exact (Vs.then Wc (AD9 (ALy rfl) all_nil))
    obtain ⟨⟨Ir,Wd⟩,We,rfl,D4,Wf⟩:=Vt;(try dsimp only [Kst.L,List.set,AI0,ALr] at D4);refine ⟨(D1.then Wf (AD9 (ALy rfl) all_nil)),?_⟩;subst We;(try dsimp only at Ij);refine AC0 rfl rfl ?_;obtain ⟨ABa,It,Wg⟩:=ABm Ij;refine AFc (m:=Au) ABv rfl (Am.o2 p1) Vo D2 rfl It fun ABb Wh=>AJt (m:=Au) (AF3 ACr rfl rfl rfl) (D4.o2 p0) Wh D2 It (show ((cI .i64)).rep _ (w64 (1 + Ir)) _ from rfl) fun ABc Wi Wj=>ACk (q_b (q_t (ABy (AC0 rfl rfl (Wl (ABp ?_))))));obtain rfl:=ABl Wg;exact ⟨U0,(((w64 (Au + 1)),Wd,(sI (sI Ie Au (List.replicate (Int.toNat (w64 (1 + (Int.tmod (w64 a1) Af)))) (0:Int))) Au (sI Vl Au (w64 (1 + Ir)))),(Vg :: (Dx.set (Int.toNat Au) [Ih]).flatten),(Dx.set (Int.toNat Au) [Ih]),(If.set (Int.toNat Au) Va)):(Int) × (Int) × (LiI) × LnA × LnN × LvA),Nat.lt_succ_self _,⟨Dz,(D4.uO2 p0 Wj Wi)⟩,rfl,trivial⟩
   ·obtain rfl:=ABl (AC3 Bn D0);change _=Ic at Dz;subst Dz;(try dsimp only at Id);refine ACb (ACa (ACa (ADj (q_t (ABj (Wl (ABq (ABt (⟨_,ABu,((Ie,Ib,Uw,Dx,If,B8):(LiI) × (Value) × LnA × LnN × LvA × (Int)),?_,rfl,?_⟩)))))))))
    ·exact ABl Id
    ·exact Dy
  obtain ⟨⟨ABd,Ui,ABe,ABf,ABg,ABh⟩,Wk,rfl,Ca⟩:=Uj;(try dsimp only [Kst.L,List.set,AI0,ALr] at Ca);refine ⟨trivial,?_⟩;subst Wk;(try dsimp only at Ia);refine ABq (ABt (AB1 ?_));obtain rfl:=ABl Ia;exact ⟨_,ABu,Ca.x,_,_,_,_,rfl,(Ca.o2 p0),Ca.s.sel [0] (by decide)⟩
 ·refine ABs (q_t (ABj (Wl (ABq (ABt ?_)))));obtain rfl:=ABl (AIz H9 Dv);exact ⟨_,ABu,Bm.x,_,_,_,_,rfl,(Bm.o2 p0),Bm.s.sel [0] (by decide)⟩
def AE6 (fuel:Nat) (a1 a2:Int) (a5 a9:LiA) (Ae:Int):Option LiI:=
  ((AE5 fuel a1 a2 a5 a9 Ae).bind fun Af=>((AFd fuel Af).bind fun Ag=>((AGk fuel Ag).bind fun (Ah,Ai,Aj)=>(some Ah))))
theorem ANu {fuel:Nat} {h:ABk} {a1 a2:Int} {Ac:Value} {a5:LiA} {Ad:Value} {a9:LiA} {Ai:Int} {r:LiI} (H4:SlC (cI .i8) h Ac a5) (H8:SlC (cI .i8) h Ad a9) (hp:AE6 fuel a1 a2 a5 a9 Ai=some r):AB9 Tryz.prog 12 #[(.agg #[(.int .u8 a1),(.int .u8 a2),Ac,Ad]),(.int .i64 Ai)] h (fun x h'=>Ext h h'/\ ∃ (x0:Value) (F0:List Nat) (Au:List LnA) (Av:List Value),x=x0/\AFf (cI .i64) 23 2 h' F0 Au Av x0 r/\Sp h' h.size [F0]):=by
 unfold AE6 at hp;refine cwf (l:=[_,_]) Tryz.func12 rfl rfl (ABj (AIa [(.int .u8 a1),(.int .u8 a2),Ac,Ad] trivial tt2 rfl rfl fun Bx By Aw Ax Ay=>ACs ?_));have Ae:=(Kst.k0 h).nb Ax Ay Aw;refine AHd [(.int .u8 a1),(.int .u8 a2),Ac,Ad] Amz rfl rfl (Ae.b p0).agg (Wl ?_);obtain ⟨Bz,Az,A3⟩:=ABm hp;refine ACw rfl (ANt (H4.ext Ae.x) (H8.ext Ae.x) Az) fun B1 B2 A4 A5=>?_;obtain ⟨B3,B4,B5,B6,rfl,A6,A7⟩:=A5;have Am:=Ae.no2 A4 A7 A6;obtain ⟨B7,A8,A9⟩:=ABm A3;refine ACw rfl (AK7 (Am.o2 p0).rd A8) fun B8 B9 Ba Bb=>?_;obtain ⟨Ca,Cb,Cd,Ce,rfl,Bc,Be⟩:=Bb;have Ao:=Am.no2 Ba Be Bc;obtain ⟨⟨Bf,Bg,Cf⟩,Bh,Ap⟩:=ABm A9;dsimp only at Ap;refine ACw rfl (AP0 (Ao.o2 p0).rd Bh) fun Cg Ch Bi Bj=>?_;obtain ⟨Bl,Bm,Bn,Bo,Bp,Bq,Br,Bt,rfl,Bu,Bv,Bw⟩:=Bj;have Af:=Ao.n Bi [aO2 (cI .i64) 23 2 Bm Bn Bo Bl Bf,aO2 cZ 112 109 Bq Br Bt Bp Bg] Bw ⟨Bu,Bv,trivial⟩;simp only [List.cons_append,List.nil_append] at Af;refine Wl (AC6 rfl rfl (AC6 rfl rfl (AC6 rfl rfl (ACe (ACe (ACs (Wl (ABq (ABt ?_)))))))));obtain rfl:=ABl Ap;exact ⟨_,ABu,Af.x,_,_,_,_,rfl,(Af.o2 p0),Af.s.sel [0] (by decide)⟩
end Go.Proofs.YtiegjkmfpcgjjaaGreatDoor
namespace Go.QF
open Go
theorem Aag {h:ABk} {v:Value} {l:List Value} (H:Sl h v l):SlK h 1 v (l.map fun x=>[x]):=by
 obtain ⟨a,cap,hv,hc⟩:=H;refine ⟨a,cap,by rw [List.length_map];exact hv,fun i row hr=>?_⟩;rw [List.getElem?_map] at hr;obtain ⟨x,hx,rfl⟩:=Option.map_eq_some_iff.1 hr;obtain ⟨b,o,ha,hb⟩:=hc i x hx;refine ⟨b,o,ha,fun j y hy=>?_⟩
 cases j with
 | zero=>injection hy with hy;subst hy;rw [Nat.mul_one,Nat.add_zero];exact hb
 | succ j=>simp at hy
theorem Aah {h:ABk} {v:Value} {l:List Value} (H:SlK h 1 v (l.map fun x=>[x])):Sl h v l:=by
 obtain ⟨a,cap,hv,hc⟩:=H;refine ⟨a,cap,by rw [List.length_map] at hv;exact hv,fun i x hx=>?_⟩;obtain ⟨b,o,ha,hb⟩:=hc i [x] (by simp [hx]);refine ⟨b,o,ha,?_⟩;have:=hb 0 x rfl;rwa [Nat.mul_one,Nat.add_zero] at this
theorem Ab1 {κ:IntKind} {h:ABk} {v:Value} {L:List Int} (H:Sl h v (L.map (.int κ))):SlC (cI κ) h v L:=by
 refine ⟨L.map fun a=>[.int κ a],?_,by simp,fun i cs a h1 h2=>?_⟩
 ·have:=Aag H;rwa [List.map_map] at this
 ·rw [List.getElem?_map,h2] at h1;injection h1 with h1;exact h1.symm
theorem Ari {κ:IntKind} {h:ABk} {v:Value} {L:List Int} (H:SlC (cI κ) h v L):Sl h v (L.map (.int κ)):=by
 obtain ⟨Ls,h1,h2,h3⟩:=H
 have:Ls=(L.map (Value.int κ)).map fun x=>[x]:=by
   apply List.ext_getElem?
   intro i
   by_cases hi:i < L.length
   · obtain ⟨a,ha⟩:∃ a,L[i]? =some a:=⟨L[i],List.getElem?_eq_getElem hi⟩
     obtain ⟨cs,hcs⟩:∃ cs,Ls[i]? =some cs:=⟨Ls[i]'(by omega),List.getElem?_eq_getElem _⟩
     have:=h3 i cs a hcs ha
     rw [hcs,List.map_map,List.getElem?_map,ha]
     exact congrArg some this
   · rw [List.getElem?_eq_none (by omega),List.getElem?_eq_none (by simp;omega)]
 subst this;exact Aah h1
theorem Am0 {h:ABk} {v:Value} {M:List (List Int)} (H:AFn (cI .i64) h v M):Mat h v M:=by
 obtain ⟨_,rs,h1,h2,h3⟩:=H;exact ⟨rs,Aah h1,h2,fun i r z hr hz=>Ari (h3 i r z hr hz)⟩
theorem Ah7 {h:ABk} {v:Value} {M:List (List Int)} (H:Mat h v M) (hc:ANk v):AFn (cI .i64) h v M:=by
 obtain ⟨rs,h1,h2,h3⟩:=H;exact ⟨hc,rs,Aag h1,h2,fun i r z hr hz=>Ab1 (h3 i r z hr hz)⟩
end Go.QF
namespace Go.QF
def Abs (x b:Int):Prop:= -b<=x/\x<=b
theorem ATs {x y a b:Int} (hx:Abs x a) (hy:Abs y b):Abs (x * y) (a * b):=by
 unfold Abs at *;have ha:0<=a:=by omega
 have hb:0<=b:=by omega
 have h1:0<=(a - x) * (b - y):=Int.mul_nonneg (by omega) (by omega);have h2:0<=(a - x) * (b + y):=Int.mul_nonneg (by omega) (by omega);have h3:0<=(a + x) * (b - y):=Int.mul_nonneg (by omega) (by omega);have h4:0<=(a + x) * (b + y):=Int.mul_nonneg (by omega) (by omega);constructor <;> grind
theorem Am1 {x b y:Int} (hb:0 < b) (hx:Abs x (b * y)):Abs (x.tdiv b) y:=by
 unfold Abs at *;rcases ASf x 0 with h | h
 ·have h1:x.tdiv b= -((-x).tdiv b):=by rw [Int.neg_tdiv,Int.neg_neg]
  have h2:(-x).tdiv b=(-x) / b:=Int.tdiv_eq_ediv_of_nonneg (by omega)
  have h3:(-x) / b<=y:=by
    have:(-x) / b<=(b * y) / b:=Int.ediv_le_ediv hb (by omega)
    rwa [Int.mul_ediv_cancel_left _ (by omega)] at this
  have h4:0<=(-x) / b:=Int.ediv_nonneg (by omega) (by omega);omega
 ·have h2:x.tdiv b=x / b:=Int.tdiv_eq_ediv_of_nonneg h
  have h3:x / b<=y:=by
    have:x / b<=(b * y) / b:=Int.ediv_le_ediv hb (by omega)
    rwa [Int.mul_ediv_cancel_left _ (by omega)] at this
  have h4:0<=x / b:=Int.ediv_nonneg h (by omega);omega
def AYz (M:List (List Int)):Prop:=(1<=M.length/\M.length<=8)/\(∀ z∈M,z.length=M.length)/\ ∀ i j,i < M.length->j < M.length->ent M i j=ent M j i/\ -262144 < ent M i j/\ent M i j < 262144
open Classical in
noncomputable def AKj (M:List (List Int)):Bool:=decide (AYz M)
theorem AGn {M:List (List Int)} (h:AYz M):true=AKj M:=by simp [AKj,h]
theorem AE2 {M:List (List Int)} (h: ¬ AYz M):false=AKj M:=by simp [AKj,h]
theorem AY0 {M:List (List Int)} (h:AKj M=true):AYz M:=by simpa [AKj] using h
def AOm (m:Nat) (F:Nat->Nat->Int):Prop:=(0 < F 0 0/\F 0 0 < 65536)/\ ∀ i,1<=i->i < m->2 * F i 0<=F 0 0/\ -2 * F i 0<=F 0 0
instance (m:Nat) (F:Nat->Nat->Int):Decidable (AOm m F):=by
  unfold AOm
  have:Decidable (∀ i,1<=i->i < m->2 * F i 0<=F 0 0/\ -2 * F i 0<=F 0 0):=
    decidable_of_iff (∀ i,i < m->1<=i->2 * F i 0<=F 0 0/\ -2 * F i 0<=F 0 0) ⟨fun h i a b=>h i b a,fun h i a b=>h i b a⟩
  infer_instance
def AP1 (F:Nat->Nat->Int) (last:Int):Nat->Nat->Int:=fun i j=>(F 0 0 * F (i + 1) (j + 1) - F (i + 1) 0 * F 0 (j + 1)).tdiv last
def AT0 (F:Nat->Nat->Int) (last:Int):Prop:=3 * F 0 0 * F 0 0<=4 * (last * AP1 F last 0 0 + F 1 0 * F 1 0)
instance (F:Nat->Nat->Int) (last:Int):Decidable (AT0 F last):=by unfold AT0;infer_instance
def AOn:Nat->(Nat->Nat->Int)->Int->Bool
  | 0,_,_=>false
  | 1,F,_=>decide (0 < F 0 0/\F 0 0<=10000)
  | m + 2,F,last=>decide (AOm (m + 2) F) && (decide (AT0 F last) && AOn (m + 1) (AP1 F last) (F 0 0))
noncomputable def isRed (M:List (List Int)):Bool:=AKj M && AOn M.length (ent M) 1
structure Stg (m:Nat) (F:Nat->Nat->Int) (last:Int) (K:Int):Prop where
  sym:∀ i j,i < m->j < m->F i j=F j i
  bd:∀ i j,i < m->j < m->Abs (F i j) (last * K)
  l1:1<=last
  l2:last<=65535
theorem Ad8 {m:Nat} {F:Nat->Nat->Int} {last K:Int} (H:Stg (m + 1) F last K) (hK:0<=K) (hs:AOm (m + 1) F):Stg m (AP1 F last) (F 0 0) (K + 16384):=by
 have hd:=hs.1
 have hcol:∀ i,i < m->Abs (2 * F (i + 1) 0) (F 0 0):=fun i hi=>by
   have:=hs.2 (i + 1) (by omega) (by omega)
   exact ⟨by omega,by omega⟩
 refine ⟨fun i j hi hj=>?_,fun i j hi hj=>?_,by omega,by omega⟩
 ·unfold AP1;rw [H.sym (i + 1) (j + 1) (by omega) (by omega),H.sym (i + 1) 0 (by omega) (by omega),H.sym 0 (j + 1) (by omega) (by omega),Int.mul_comm (F 0 (i + 1))]
 ·unfold AP1;refine Am1 (by have:=H.l1;omega) ?_;have h1:Abs (F 0 0 * F (i + 1) (j + 1)) (F 0 0 * (last * K)):=ATs ⟨by omega,by omega⟩ (H.bd _ _ (by omega) (by omega))
  have h2:Abs (2 * F (i + 1) 0 * (2 * F 0 (j + 1))) (F 0 0 * F 0 0):=by
    refine ATs (hcol i hi) ?_
    rw [H.sym 0 (j + 1) (by omega) (by omega)];exact hcol j hj
  have h3:0<=F 0 0 * (65536 - F 0 0):=Int.mul_nonneg (by omega) (by omega);have h4:0<=F 0 0 * (last - 1):=Int.mul_nonneg (by omega) (by have:=H.l1;omega);unfold Abs at *;have e1:2 * F (i + 1) 0 * (2 * F 0 (j + 1))=4 * (F (i + 1) 0 * F 0 (j + 1)):=by grind
  rw [e1] at h2;have e2:last * (F 0 0 * (K + 16384))=F 0 0 * (last * K) + 16384 * (F 0 0 * last):=by grind
  rw [e2];have e3:F 0 0 * (65536 - F 0 0)=65536 * F 0 0 - F 0 0 * F 0 0:=by grind
  have e4:F 0 0 * (last - 1)=F 0 0 * last - F 0 0:=by grind
  rw [e3] at h3;rw [e4] at h4;omega
theorem Ajw {M:List (List Int)} (h:AYz M):Stg M.length (ent M) 1 262144:=by
 refine ⟨fun i j hi hj=>(h.2.2 i j hi hj).1,fun i j hi hj=>?_,by omega,by omega⟩;have:=h.2.2 i j hi hj;unfold Abs;omega
theorem ANv {m:Nat} {F:Nat->Nat->Int} {last:Int} (h:2<=m) (hs: ¬ AOm m F):AOn m F last=false:=by
 obtain ⟨n,rfl⟩:∃ n,m=n + 2:=⟨m - 2,by omega⟩;unfold AOn;rw [decide_eq_false hs];rfl
theorem AQ6 {m:Nat} {F:Nat->Nat->Int} {last:Int} (h:2<=m) (hs: ¬ AT0 F last):AOn m F last=false:=by
 obtain ⟨n,rfl⟩:∃ n,m=n + 2:=⟨m - 2,by omega⟩;unfold AOn;rw [decide_eq_false hs,Bool.false_and,Bool.and_false]
theorem Ajx {m:Nat} {F:Nat->Nat->Int} {last:Int} (h:2<=m) (hs:AOm m F) (hl:AT0 F last):AOn m F last=AOn (m - 1) (AP1 F last) (F 0 0):=by
 obtain ⟨n,rfl⟩:∃ n,m=n + 2:=⟨m - 2,by omega⟩;rw [AOn,decide_eq_true hs,decide_eq_true hl];rfl
theorem AXk {m:Nat} {F:Nat->Nat->Int} {last K:Int} (H:Stg m F last K) (hK0:0<=K) (hK:K<=393216) {i j:Nat} (hi:i < m) (hj:j < m):Abs (F i j) 34359738368:=by
  have h1:=H.bd i j hi hj;have h2:=(ARl (a:=last) (b:=K) (A:=65535) (B:=393216) (by have:=H.l1;omega) H.l2 hK0 hK).2;unfold Abs at *;omega
end Go.QF
namespace Go.Proofs.YtiegjkmfpcgjjaaGreatDoor
open Go Go.QF
set_option maxRecDepth 100000
def zf (z:List Int) (c:Nat):Int:=z[c]?.getD 0
theorem Ad9 (z:List Int):(List.range z.length).map (zf z)=z:=by
 refine List.ext_getElem (by simp) fun i h1 h2=>?_;simp [zf,h2]
theorem Am2 {z:List Int} {m:Int} (hm:0 < m) (h:∀ x∈z,0<=x/\x < m) (c:Nat):0<=zf z c/\zf z c < m:=by
 unfold zf;rcases Nat.lt_or_ge c z.length with hc | hc
 ·simp [hc];exact h _ (List.getElem_mem _)
 ·simp [List.getElem?_eq_none hc,hm]
theorem Am3 {h:ABk} {g:Nat} {v:Value} {z:List Int} (HO:AD7 h tI g v (z.map (.int .i64))) {f m:Int} (hz:∀ x∈z,0<=x/\x < m) (hf:0<=f) (hfm:f < m) (hm:2<=m) (Ac:m<=2147483647) (hl:z.length<=1000000):
    AB9 Tryz.prog 76 #[v,.int .i64 f,.int .i64 m] h fun r h'=>Upd (· =g) h h'/\AD7 h' tI g v (((List.range z.length).map fun c=>zf z c * f % m).map (.int .i64)):=by
 refine ACz (l:=[_,_,_]) mx Tryz.func76 rfl rfl rfl rfl rfl (by kernel_rfl) (ABj (Wl (AO9 ABv rfl HO.sl (Wl (ABp (ABr (ACi 16776384 (fun j:Nat=>[(10,.int .i64 (j:Int))]) (fun k j h'=>Upd (· =g) h h'/\k=z.length - j/\j<=z.length/\AD7 h' tI g v ((ATx z.length (fun c=>zf z c * f % m) (zf z) j).map (.int .i64))) (by kernel_rfl) z.length 0 ?_ ⟨rfl,trivial⟩ ?_)))))))
 ·exact ⟨Upd.refl _ _,by omega,by omega,by rw [AV3,Ad9];exact HO⟩
 rintro k j s h1 ⟨hU,rfl,hj,HQ⟩;refine ABj (AFm rfl rfl (fun Ab=>?_) (fun Ab=>?_))
 ·refine ABp (ABn (ACc rfl (ABs (q_t (ABn (ABr (ABj (Wl (ALw ABv rfl HQ.sl rfl (Ag7 (by omega)) fun aX haX=>AB8 ACr rfl haX (ACe (ABq ?_)))))))))));have hxb:=Am2 (by omega) hz j;have hxf:=ARl (a:=zf z j) (b:=f) (A:=2147483647) (B:=2147483647) (by omega) (by omega) (by omega) (by omega);refine ABy (Wl (Wl (Wl (Wl (AK4 rfl rfl (by omega) (by omega) (Wl (AOf rfl rfl (by omega) (by omega) (ANj ABv rfl HQ rfl (by rw [List.length_map,ALj];omega) ?_))))))));refine ASe ACr rfl rfl rfl HQ (by rw [List.length_map,ALj];omega) ?_;have Aa:=HQ.setI (j:=j) (by rw [ALj];omega) (zf z j * f % m);rw [AX6 (by omega) rfl] at Aa;refine ACk (q_b (q_t (ABy (AI1 rfl (by omega) (Wl (ABp ?_))))));exact ⟨z.length - (j + 1),j + 1,by omega,⟨hU.trans (AG5 _ _ _),rfl,by omega,Aa⟩,rfl,trivial⟩
 ·refine ABp (ABn (ACf rfl (ACb (ACa (ACa (ADj (⟨_,ATf,?_⟩)))))));rw [AX4 _ _ (by omega)] at HQ;exact ⟨hU,HQ⟩
theorem AVh {h:ABk} {g gr:Nat} {vt vr:Value} {t r:List Int} {a:Addr} (HT:AD7 h tI g vt (t.map (.int .i64))) (HR:AD7 h tI gr vr (r.map (.int .i64))) (hne:g≠gr) (htr:t.length=r.length) {f m:Int} (hb:AEy h a=some (.int .i64 m)) (hab:a.block≠g) (ht:∀ x∈t,0<=x/\x < m) (hr:∀ x∈r,0<=x/\x < m) (hf:0<=f) (hfm:f < m) (hm:2<=m) (Ac:m<=2147483647) (hl:r.length<=1000000):
    AB9 Tryz.prog 105 #[vt,vr,.int .i64 f,.pointer (some a)] h fun _ h'=>Upd (· =g) h h'/\AD7 h' tI g vt (((List.range r.length).map fun c=>(zf t c + (m - f) * zf r c) % m).map (.int .i64)):=by
 refine ACz (l:=[_,_,_,_]) mx Tryz.func105 rfl rfl rfl rfl rfl (by kernel_rfl) (ABj (Wl (AO9 ABv rfl HR.sl (Wl (ABp (ABr (ACi 4294965632 (fun j:Nat=>[(11,.int .i64 (j:Int))]) (fun k j h'=>Upd (· =g) h h'/\k=r.length - j/\j<=r.length/\AD7 h' tI g vt ((ATx r.length (fun c=>(zf t c + (m - f) * zf r c) % m) (zf t) j).map (.int .i64))) (by kernel_rfl) r.length 0 ?_ ⟨rfl,trivial⟩ ?_)))))))
 ·exact ⟨Upd.refl _ _,by omega,by omega,by rw [AV3,<- htr,Ad9];exact HT⟩
 rintro k j s h1 ⟨hU,rfl,hj,HQ⟩;have HRc:=HR.upd hU (fun he=>hne he.symm);have hbx:=ATg hb hU (fun he=>hab he);refine ABj (AFm rfl rfl (fun Ab=>?_) (fun Ab=>?_))
 ·refine ABp (ABn (ACc rfl (ABs (q_t (ABn (ABr (ABj (Wl (ALw ABv rfl HRc.sl rfl (show r[j]? =some (zf r j) by rw [zf,List.getElem?_eq_getElem (by omega)];rfl) fun aX haX=>?_)))))))));refine AB8 ACr rfl haX (ACe (ABq ?_));have hxb:=Am2 (by omega) hr j;have htb:=Am2 (by omega) ht j;have hxf:=ARl (a:=m - f) (b:=zf r j) (A:=2147483647) (B:=2147483647) (by omega) (by omega) (by omega) (by omega);refine AOd (by kernel_rfl) (Wl (Wl (Wl (Wl (ALw ABv rfl HQ.sl rfl (Ag7 (by omega)) fun aT haT=>AB8 ACr rfl haT (AB8 ACr rfl hbx (Wl (ALh rfl rfl (by omega) (by omega) (Wl (AK4 rfl rfl (by omega) (by omega) (ASy rfl rfl (by omega) (by omega) (AB8 ACr rfl hbx (AOf rfl rfl (by omega) (by omega) (ANj ABv rfl HQ rfl (by rw [List.length_map,ALj];omega) ?_))))))))))))));refine ASe ACr rfl rfl rfl HQ (by rw [List.length_map,ALj];omega) ?_;have Aa:=HQ.setI (j:=j) (by rw [ALj];omega) ((zf t j + (m - f) * zf r j) % m);rw [AX6 (by omega) rfl] at Aa;refine ACk (q_b (q_t (ABy (AI1 rfl (by omega) (Wl (ABp ?_))))));exact ⟨r.length - (j + 1),j + 1,by omega,⟨hU.trans (AG5 _ _ _),rfl,by omega,Aa⟩,rfl,trivial⟩
 ·refine ABp (ABn (ACf rfl (ACb (ACa (ACa (ADj (⟨_,ATf,?_⟩)))))));rw [AX4 _ _ (by omega)] at HQ;exact ⟨hU,HQ⟩
theorem AUa (m:Int) (h:ABk):AB9 Tryz.prog 74 #[.int .i64 m] h fun v h'=>h'=h.push (.cells #[.int .i64 m] tI (0,0))/\v= .func (.func 105) #[] #[.pointer (some ⟨h.size,0,none⟩)]:=by
 refine ACz (l:=[_]) mx Tryz.func74 rfl rfl rfl rfl rfl (by kernel_rfl) (ABj (Akw trivial rfl ⟨trivial,?_⟩));refine ACs (Aru (l:=[.pointer (some ⟨h.size,0,none⟩)]) rfl (ABq (ABt (⟨_,ABu,?_⟩))));exact ⟨rfl,rfl⟩
theorem AY1 {c:Nat} {g:Nat->Int} {q:Nat} (hq:q < c):zf ((List.range c).map g) q=g q:=by simp [zf,hq]
theorem AGu {α:Type} {c:Nat} {g:Nat->α} {q:Nat} (hq:q < c):((List.range c).map g)[q]? =some (g q):=by simp [hq]
theorem AWz {α:Type} {c:Nat} {f g:Nat->α} (h:∀ q,q < c->f q=g q):(List.range c).map f=(List.range c).map g:=List.map_congr_left fun q hq=>h q (by simpa using hq)
theorem Ajy {c:Nat} {g:Nat->Int} {f m:Int}:(List.range ((List.range c).map g).length).map (fun q=>zf ((List.range c).map g) q * f % m)=(List.range c).map fun q=>g q * f % m:=by
 rw [List.length_map,List.length_range];exact AWz fun q hq=>by rw [AY1 hq]
theorem Aea {c:Nat} {g k:Nat->Int} {f m:Int}:(List.range ((List.range c).map g).length).map (fun q=>(zf ((List.range c).map k) q + (m - f) * zf ((List.range c).map g) q) % m)=(List.range c).map fun q=>(k q + (m - f) * g q) % m:=by
 rw [List.length_map,List.length_range];exact AWz fun q hq=>by rw [AY1 hq,AY1 hq]
def Auq (x:Nat):Value:= .int .i64 (x:Int)
def Aeb (h h':ABk) (b:Nat) (gs:List Nat) (v:Value) (r c:Nat) (p:Int) (F:Nat->Nat->Int) (pv:Value) (piv:List Nat) (gs':List Nat):Prop:=
  Upd (· ∈b :: gs) h h'/\ADu h' tR tI b gs' v r (tab r c F)/\(∀ g∈gs',g∈gs)/\Gro h' 3 (h.size + 1) pv (piv.map Auq)/\AEy h' ⟨h.size,0,none⟩=some (.int .i64 p)/\h.size + 1<=h'.size
theorem Aeb.turn {h h1 h2:ABk} {b:Nat} {gs Af Ab:List Nat} {v pv:Value} {r c:Nat} {p:Int} {F F2:Nat->Nat->Int} {piv:List Nat} (H:Aeb h h1 b gs v r c p F pv piv Af) (hlt:∀ g∈b :: gs,g < h.size) {g:Nat} (hU:Upd (· =g) h1 h2) (hg:g∈b :: gs) (HP:ADu h2 tR tI b Ab v r (tab r c F2)) (hs:∀ g∈Ab,g∈gs):Aeb h h2 b gs v r c p F2 pv piv Ab:=by
 obtain ⟨h3,h4,h5,h6,h7,h8⟩:=H;have hgl:=hlt g hg;refine ⟨h3.trans (hU.mono fun k _ hk=>by have Aj:k=g:=hk;rw [Aj];exact hg),HP,hs,h6.upd hU (fun k hk he=>by have Ak:k=g:=he;have:=(h6.blk k hk).1;omega),ATg h7 hU (fun he=>by have Ak:h.size=g:=he;omega),Nat.le_trans h8 hU.1⟩
section
variable {P:Program} {B:ABk->Prop} {st:Bool} {ops:Array Oper} {rest:List Oper} {e:Env} {h:ABk} {K:Env->ABk->Prop}
variable {d:Nat} {ty:TypeId} {pos:String} {af:Array Edge}
end
theorem ADu.nodup {h:ABk} {er ei b n:Nat} {gs:List Nat} {v:Value} {M:List (List Int)} (H:ADu h er ei b gs v n M):(b :: gs).Nodup:=let ⟨_,_,_,_,_,_,h⟩:=H;h
end Go.Proofs.YtiegjkmfpcgjjaaGreatDoor
namespace Go.Proofs.YtiegjkmfpcgjjaaGreatDoor
open Go Go.QF
set_option maxRecDepth 100000
def Am4 (n C:Nat) (m:Int) (Q:(Nat->Nat->Int)->Int->Prop):Prop:= ∀ F s c i q,c < n->i < n->c≠i->0<=q->q < m->Bd n C m F->Q F s->Q (AN7 F c i q m) (-s)
theorem AZq {h:ABk} {b:Nat} {gs:List Nat} {v:Value} {n C:Nat} {F:Nat->Nat->Int} {m:Int} (Aj:ADu h tR tI b gs v n (tab n C F)) (hnC:n<=C) (hC:C<=1000000) (hm:2<=m) (Be:m<=2147483647) (hbd:Bd n C m F) (Q:(Nat->Nat->Int)->Int->Prop) (Bf:Q F 1) (hQ:Am4 n C m Q):
    AB9 Tryz.prog 73 #[v,.int .i64 m] h fun x h'=>Upd (· ∈b :: gs) h h'/\ ∃ F1 s Af,x= .int .i64 s/\(s=1∨s= -1)/\ADu h' tR tI b Af v n (tab n C F1)/\(∀ g∈Af,g∈gs)/\Q F1 s/\Bd n C m F1/\Zc n F1 n:=by
 have HP:=Aj;refine ACz (l:=[_,_]) mx Tryz.func73 rfl rfl rfl rfl rfl (by kernel_rfl) (ABj (ACs (Wl (ACp trivial rfl (AUa m h) fun fv h1 hk=>?_))));obtain ⟨rfl,rfl⟩:=hk;refine ⟨trivial,?_⟩;have hpush:=AEd h (.cells #[.int .i64 m] tI (0,0));have HP:=ADu.ext Aj hpush;have hlt:=ADu.lt Aj;refine ACs (ABq (ABn (ABj (Wl (AUg AB3 rfl HP (Wl (ABp (ABr (ACi 18889465931478580847040 (fun y:Nat × Int=>[(13,.int .i64 (y.1:Int)),(6,.int .i64 y.2)]) (fun k y h'=>k=n - y.1/\y.1<=n/\(y.2=1∨y.2= -1)/\ ∃ F1 Af,Aeb h h' b gs v n C m F1 (.slice none 0 0) [] Af/\Q F1 y.2/\Bd n C m F1/\Zc n F1 y.1) (by kernel_rfl) n (0,1) ?_ ⟨rfl,rfl,trivial⟩ ?_)))))))))
 ·refine ⟨rfl,by omega,.inl rfl,F,gs,⟨hpush.upd,HP,fun g hg=>hg,ATi _ _ _,?_,by simp⟩,Bf,hbd,fun c' i h1=>by omega⟩;simp [AEy]
 rintro k ⟨c,s1⟩ sx h1 ⟨rfl,hc,Am,F1,Af,Ah,Ao,Ay,Ap⟩;dsimp only at hc Am Ao Ap ⊢;have Bo:=Ah.2.1;refine ABj (AFm rfl rfl (fun Bg=>?_) (fun Bg=>?_))
 ·refine ABp (ABn (ACc rfl (ABs (q_t (ABn (ABr (ABj (Wl (ACs (Wl (AI1 rfl (by omega) (ABq (ABr ?_)))))))))))));refine ACi 9444732965739290165568 (fun y:Nat × Int=>[(8,.int .i64 (y.1:Int)),(6,.int .i64 y.2)]) (fun k y h'=>k=n - y.1/\c < y.1/\y.1<=n/\(y.2=1∨y.2= -1)/\ ∃ F2 Ai,Aeb h h' b gs v n C m F2 (.slice none 0 0) [] Ai/\Q F2 y.2/\Bd n C m F2/\Zc n F2 c/\Zi F2 c y.1) (by kernel_rfl) (n - (c + 1)) (c + 1,s1) ?_ ⟨rfl,rfl,trivial⟩ ?_
  ·exact ⟨rfl,by first | omega | (dsimp only;omega),by first | omega | (dsimp only;omega),Am,F1,Af,Ah,Ao,Ay,Ap,fun k h1 h2=>by omega⟩
  rintro k ⟨i,s2⟩ sy h2 ⟨rfl,hci,hi,Aq,F2,Ai,Ar,Au,Az,A3,Av⟩;dsimp only at hci hi Aq Au Av ⊢;have Bi:=Ar.2.1;refine ABn (ABj (Wl (Wl (AUg AB3 rfl Bi (AFm rfl rfl (fun Bj=>?_) (fun Bj=>?_))))))
  ·refine ABp (ACc rfl (ABs (q_t (ABn (ABr (ABr (ACi 9444732965739273650240 (fun s3:Int=>[(6,.int .i64 s3)]) (fun k s3 h'=>(s3=1∨s3= -1)/\ ∃ F3 Aw,k=(F3 i c).toNat/\Aeb h h' b gs v n C m F3 (.slice none 0 0) [] Aw/\Q F3 s3/\Bd n C m F3/\Zc n F3 c/\Zi F3 c i) (by kernel_rfl) (F2 i c).toNat s2 ?_ ⟨rfl,trivial⟩ ?_)))))))
   ·exact ⟨Aq,F2,Ai,rfl,Ar,Au,Az,A3,Av⟩
   rintro k s3 sz h3 ⟨Bl,F3,Aw,rfl,Ae,A4,Ag,A5,A6⟩;have Ad:=Ae.2.1;refine ABn (ABj (Wl (Wl (AN6 AB3 rfl Ad rfl (AEh (by omega)) fun aA rA gA haA hgA hrA=>AB8 ACo rfl haA (Wl (ALw ABv rfl hrA.sl rfl (AGu (by omega)) fun aB haB=>AB8 ACr rfl haB (AT4 rfl rfl (fun A7=>?_) (fun A7=>?_))))))))
   ·refine ABp (ACc rfl (ABs (q_t (ABr (ABn ?_)))));have hcc:=Ag c c (by omega) (by omega);have hic:=Ag i c (by omega) (by omega);have hq:=Ald hcc.1 hcc.2 (b:=F3 i c) (by omega);refine AOd (by kernel_rfl) (Wl (Wl (Wl (AN6 AB3 rfl Ad rfl (AEh (by omega)) fun aK rK gK haK hgK hrK=>AB8 ACo rfl haK (Wl (Wl (AN6 AB3 rfl Ad rfl (AEh (by omega)) fun aL rL gL haL hgL hrL=>AB8 ACo rfl haL ?_)))))));have hgKm:gK∈b :: gs:=List.mem_cons_of_mem _ (Ae.2.2.1 _ (List.mem_of_getElem? hgK));have hneKL:gK≠gL:=fun he=>absurd (AGy (List.nodup_cons.1 (ADu.nodup Ae.2.1)).2 hgK (he ▸ hgL)) (by omega);refine Wl (Wl (AN6 AB3 rfl Ad rfl (AEh (by omega)) fun aN rN gN haN hgN hrN=>AB8 ACo rfl haN (Wl (ALw ABv rfl hrN.sl rfl (AGu (by omega)) fun aU haU=>AB8 ACr rfl haU (Wl (Wl (AN6 AB3 rfl Ad rfl (AEh (by omega)) fun aO rO gO haO hgO hrO=>AB8 ACo rfl haO (Wl (ALw ABv rfl hrO.sl rfl (AGu (by omega)) fun aV haV=>AB8 ACr rfl haV (AVx rfl rfl (by omega) (by omega) (by omega) (Aaw trivial rfl rfl (AVh (a:=⟨h.size,0,none⟩) hrK hrL hneKL (by simp) Ae.2.2.2.2.1 (by have:=hlt _ hgKm;dsimp only;omega) (AX9 Ag (by omega)) (AX9 Ag (by omega)) hq.1 hq.2 hm Be (by simp;omega)) fun ev h7 hk=>?_)))))))))));obtain ⟨A8,A9⟩:=hk;refine ⟨trivial,?_⟩;rw [Aea] at A9;have Ax:=ADu.setRow' Ae.2.1 hgK A8 (AEh (by omega)) hrK A9;rw [AHw] at Ax;have Ba:=Ae.turn hlt A8 hgKm Ax Ae.2.2.1;have Ad:=Ax;refine ABp (ABn (AOd (by kernel_rfl) (Wl (Wl (Wl (Wl (Wl (Wl (AN6 AB3 rfl Ad rfl (AEh (by omega)) fun aI rI gI haI hgI hrI=>AB8 ACo rfl haI (Wl (Wl (AN6 AB3 rfl Ad rfl (AEh (by omega)) fun aT rT gT haT hgT hrT=>AB8 ACo rfl haT ?_))))))))))));obtain ⟨rs,HT,hrl⟩:=ADu.top Ad;refine ANj AB3 rfl HT rfl (by omega) (ASe ACo rfl rfl hrI.one HT (by omega) ?_);have Bb:=HT.set c rI (by omega);refine ANj AB3 rfl Bb rfl (by simp;omega) ?_;refine ASe ACo rfl rfl hrT.one Bb (by simp;omega) ?_;have Bc:=ADu.swap Ad hgT hgI (AEh (by omega)) (AEh (by omega)) hrT hrI;rw [AHw,AHw] at Bc;have Bm:=Ba.turn hlt ((AG5 _ ⟨b,c,none⟩ rI).trans (AG5 _ ⟨b,i,none⟩ rT)) (List.mem_cons_self ..) (F2:=AN7 F3 c i (F3 c c / F3 i c) m) Bc (fun g hg=>Ba.2.2.1 g (Alc hgT hgI hg));refine ABp (ABy (Wl (ASw rfl ?_)));have hws:IntKind.i64.wrap (0 - s3)= -s3:=by rw [IntKind.wrap_i64];omega
    rw [hws];refine ACe (ACk (q_b (q_t ?_)));have Bn:AN7 F3 c i (F3 c c / F3 i c) m i c=F3 c c % F3 i c:=by rw [Aa5];exact Ahc hcc.1 hcc.2 (by omega) hic.2
    have Br:=Int.emod_lt_of_pos (F3 c c) (b:=F3 i c) (by omega);exact ⟨_,-s3,by rw [Bn];omega,⟨by omega,_,_,rfl,Bm,hQ _ _ _ _ _ (by omega) (by omega) (by omega) hq.1 hq.2 Ag A4,Ag9 (by omega) Ag (by omega) (by omega),Aha A5 (by omega) (by omega),Ahb A6⟩,rfl,trivial⟩
   ·refine ABp (ACf rfl (ACb (ACa (ACa (ADj (q_b (q_t (ABy (Wl (AI1 rfl (by omega) (ABq ?_)))))))))));exact ⟨n - (i + 1),(i + 1,s3),by first | omega | (dsimp only;omega),⟨rfl,by first | omega | (dsimp only;omega),by first | omega | (dsimp only;omega),Bl,F3,Aw,Ae,A4,Ag,A5,Aa6 A6 A7⟩,rfl,rfl,trivial⟩
  ·refine ABp (ACf rfl (ACb (ACa (ACa (ADj (q_b (q_t (ABy (AI1 rfl (by omega) (Wl (ABp ?_)))))))))));obtain rfl:i=n:=by omega
   exact ⟨i - (c + 1),(c + 1,s2),by first | omega | (dsimp only;omega),⟨rfl,by first | omega | (dsimp only;omega),Aq,F2,Ai,Ar,Au,Az,Aa7 A3 Av⟩,rfl,rfl,trivial⟩
 ·refine ABp (ABn (ACf rfl (ACb (ACa (ACa (ADj (q_t (ABj (Wl (ABq (ABt (⟨_,ABu,?_⟩))))))))))));obtain rfl:c=n:=by omega
  exact ⟨Ah.1,F1,s1,Af,rfl,Am,Ah.2.1,Ah.2.2.1,Ao,Ay,Ap⟩
theorem Agm {h:ABk} {v:Value} {M:List (List Int)} (HM:Mat h v M):AB9 Tryz.prog 102 #[v] h fun x h'=>h'=h/\x= .bool (AKj M):=by
 refine ACz (l:=[_]) mx Tryz.func102 rfl rfl rfl rfl rfl (by kernel_rfl) (ABj (ACs (Wl (AM3 AB3 rfl HM (ABq (ABn (ABj (Wl (AFm rfl rfl (fun Ab=>?_) (fun Ab=>?_))))))))))
 ·refine Wl (ACj 14 true (by kernel_rfl) rfl rfl (ACj 14 true (by kernel_rfl) rfl rfl (AB2 rfl (ABp (ACc rfl (ABj (ABq (ABt (AB1 (⟨_,ABu,?_⟩))))))))))
  first
    | exact ⟨rfl,congrArg Value.bool (AE2 fun hh=>by have:=hh.1;omega)⟩
    | exact ⟨rfl,congrArg Value.bool (AE2 fun hh=>by have:=hh.2.1 M[i] (List.getElem_mem _);omega)⟩
    | exact ⟨rfl,congrArg Value.bool (AE2 fun hh=>by have:=hh.2.2 a b (by omega) (by omega);omega)⟩
    | exact ⟨rfl,congrArg Value.bool (AGn ⟨⟨by omega,by omega⟩,hrows,fun x y hx hy=>hall x y (by omega) hy⟩)⟩
 ·refine Wl (ACy 14 false (by kernel_rfl) rfl rfl (Wl (ACy 14 false (by kernel_rfl) rfl rfl (AQx rfl rfl (fun Ac=>?_) (fun Ac=>?_)))))
  ·refine ABw rfl (ABp (ACc rfl (ABj (ABq (ABt (AB1 (⟨_,ABu,?_⟩)))))))
   first
     | exact ⟨rfl,congrArg Value.bool (AE2 fun hh=>by have:=hh.1;omega)⟩
     | exact ⟨rfl,congrArg Value.bool (AE2 fun hh=>by have:=hh.2.1 M[i] (List.getElem_mem _);omega)⟩
     | exact ⟨rfl,congrArg Value.bool (AE2 fun hh=>by have:=hh.2.2 a b (by omega) (by omega);omega)⟩
     | exact ⟨rfl,congrArg Value.bool (AGn ⟨⟨by omega,by omega⟩,hrows,fun x y hx hy=>hall x y (by omega) hy⟩)⟩
  ·refine ABw rfl (ABp (ACf rfl (ABs (q_t (ABn (ABj (Wl (AM3 AB3 rfl HM (Wl (ABp (ABr (ACi 535822372 (fun i:Nat=>[(20,.int .i64 (i:Int))]) (fun k i h'=>h'=h/\k=M.length - i/\i<=M.length/\ ∀ j (hj:j < M.length),j < i->M[j].length=M.length) (by kernel_rfl) M.length 0 ?_ ⟨rfl,trivial⟩ ?_))))))))))))
   ·exact ⟨rfl,rfl,Nat.zero_le _,fun j _ hj=>by omega⟩
   rintro k i s1 h ⟨rfl,rfl,hi,hrow⟩;refine ABj (AFm rfl rfl (fun Ad=>?_) (fun Ad=>?_))
   ·refine ABp (ABn (ACc rfl (ABs (q_t (ABn (ABr (ABj (AOs AB3 rfl HM rfl (List.getElem?_eq_getElem (by omega)) fun aR rR haR hrR=>?_))))))));refine AB8 ACo rfl haR (ACs (Wl (AO9 ABv rfl hrR (Wl (AT4 rfl rfl (fun Ae=>?_) (fun Ae=>?_))))))
    ·refine ABp (ACc rfl (ABj (ABq (ABt (ADl (AB1 (AB1 (ADl (AB1 (⟨_,ABu,?_⟩))))))))))
     first
       | exact ⟨rfl,congrArg Value.bool (AE2 fun hh=>by have:=hh.1;omega)⟩
       | exact ⟨rfl,congrArg Value.bool (AE2 fun hh=>by have:=hh.2.1 M[i] (List.getElem_mem _);omega)⟩
       | exact ⟨rfl,congrArg Value.bool (AE2 fun hh=>by have:=hh.2.2 a b (by omega) (by omega);omega)⟩
       | exact ⟨rfl,congrArg Value.bool (AGn ⟨⟨by omega,by omega⟩,hrows,fun x y hx hy=>hall x y (by omega) hy⟩)⟩
    ·refine ABp (ACf rfl (ABs (q_b (q_t (ABy (AI1 rfl (by omega) (Wl (ABp ?_))))))));exact ⟨M.length - (i + 1),i + 1,by omega,⟨rfl,rfl,by omega,fun j hj Af=>by rcases Nat.lt_succ_iff_lt_or_eq.1 Af with q | rfl;exact hrow j hj q;omega⟩,rfl,trivial⟩
   ·refine ABp (ABn (ACf rfl (ACb (ACa (ACa (ADj (q_t (ABn (ABn ?_)))))))));have hrows:∀ z∈M,z.length=M.length:=fun z hz=>by obtain ⟨j,hj,rfl⟩:=List.getElem_of_mem hz;exact hrow j hj (by omega)
    have Aa:Mat h v (tab M.length M.length (ent M)):=(AX3 hrows) ▸ HM;refine ABy (Wl (AM3 AB3 rfl Aa ?_));rw [AC5];refine Wl (ABp (ABr (ACi 4611686016279905220 (fun a:Nat=>[(31,.int .i64 (a:Int))]) (fun k a h'=>h'=h/\k=M.length - a/\a<=M.length/\ ∀ x y,x < a->y < M.length->ent M x y=ent M y x/\ -262144 < ent M x y/\ent M x y < 262144) (by kernel_rfl) M.length 0 ?_ ⟨rfl,trivial⟩ ?_)))
    ·exact ⟨rfl,rfl,Nat.zero_le _,fun x y hx=>by omega⟩
    rintro k a s2 h ⟨rfl,rfl,ha,hall⟩;refine ABj (AFm rfl rfl (fun Ag=>?_) (fun Ag=>?_))
    ·refine ABp (ABn (ACc rfl (ABs (q_t (ABn (ABr (ABj (Wl (AOs AB3 rfl Aa rfl (AEh (by omega)) fun aS rS haS hrS=>AB8 ACo rfl haS (ACe (ACs (Wl (AO9 ABv rfl hrS ?_)))))))))))));rw [List.length_map,List.length_range];refine Wl (ABp (ABr (ACi 2305842734335787780 (fun b:Nat=>[(38,.int .i64 (b:Int))]) (fun k b h'=>h'=h/\k=M.length - b/\b<=M.length/\ ∀ y,y < b->ent M a y=ent M y a/\ -262144 < ent M a y/\ent M a y < 262144) (by kernel_rfl) M.length 0 ?_ ⟨rfl,trivial⟩ ?_)))
     ·exact ⟨rfl,rfl,Nat.zero_le _,fun y hy=>by omega⟩
     rintro k b s3 h ⟨rfl,rfl,hb,hrw⟩;refine ABj (AFm rfl rfl (fun Ah=>?_) (fun Ah=>?_))
     ·refine ABp (ABn (ACc rfl (ABs (q_t (ABn (ABr (ABj (Wl (ALw ABv rfl hrS rfl (AGu (by omega)) fun Aq Ai=>AB8 ACr rfl Ai (ACe (ACs (Wl (Wl (Wl (AOs AB3 rfl Aa rfl (AEh (by omega)) fun aT rT haT hrT=>?_)))))))))))))));refine AB8 ACo rfl haT (Wl (ALw ABv rfl hrT rfl (AGu (by omega)) fun Ar Aj=>AB8 ACr rfl Aj (AT4 rfl rfl (fun Ak=>?_) (fun Ak=>?_))))
      ·refine Wl (ACj 52 true (by kernel_rfl) rfl rfl (ACj 52 true (by kernel_rfl) rfl rfl (AB2 rfl (Wl (ACj 56 true (by kernel_rfl) rfl rfl (ACj 56 true (by kernel_rfl) rfl rfl (AB2 rfl (ABp (ACc rfl (ABj (ABq (ABt (ADl (AB1 (AB1 (ADl (ADl (AB1 (AB1 (ADl (AB1 (⟨_,ABu,?_⟩))))))))))))))))))))))
       first
         | exact ⟨rfl,congrArg Value.bool (AE2 fun hh=>by have:=hh.1;omega)⟩
         | exact ⟨rfl,congrArg Value.bool (AE2 fun hh=>by have:=hh.2.1 M[i] (List.getElem_mem _);omega)⟩
         | exact ⟨rfl,congrArg Value.bool (AE2 fun hh=>by have:=hh.2.2 a b (by omega) (by omega);omega)⟩
         | exact ⟨rfl,congrArg Value.bool (AGn ⟨⟨by omega,by omega⟩,hrows,fun x y hx hy=>hall x y (by omega) hy⟩)⟩
      ·refine Wl (ACy 52 false (by kernel_rfl) rfl rfl (Wl (ACy 52 false (by kernel_rfl) rfl rfl (AT2 rfl rfl (fun Am=>?_) (fun Am=>?_)))))
       ·refine ABw rfl (Wl (ACj 56 true (by kernel_rfl) rfl rfl (ACj 56 true (by kernel_rfl) rfl rfl (AB2 rfl (ABp (ACc rfl (ABj (ABq (ABt (ADl (AB1 (AB1 (ADl (ADl (AB1 (AB1 (ADl (AB1 (⟨_,ABu,?_⟩)))))))))))))))))))
        first
          | exact ⟨rfl,congrArg Value.bool (AE2 fun hh=>by have:=hh.1;omega)⟩
          | exact ⟨rfl,congrArg Value.bool (AE2 fun hh=>by have:=hh.2.1 M[i] (List.getElem_mem _);omega)⟩
          | exact ⟨rfl,congrArg Value.bool (AE2 fun hh=>by have:=hh.2.2 a b (by omega) (by omega);omega)⟩
          | exact ⟨rfl,congrArg Value.bool (AGn ⟨⟨by omega,by omega⟩,hrows,fun x y hx hy=>hall x y (by omega) hy⟩)⟩
       ·refine ABw rfl (Wl (ACy 56 false (by kernel_rfl) rfl rfl (Wl (ACy 56 false (by kernel_rfl) rfl rfl (AT3 rfl rfl (fun Ao=>?_) (fun Ao=>?_))))))
        ·refine ABw rfl (ABp (ACc rfl (ABj (ABq (ABt (ADl (AB1 (AB1 (ADl (ADl (AB1 (AB1 (ADl (AB1 (⟨_,ABu,?_⟩)))))))))))))))
         first
           | exact ⟨rfl,congrArg Value.bool (AE2 fun hh=>by have:=hh.1;omega)⟩
           | exact ⟨rfl,congrArg Value.bool (AE2 fun hh=>by have:=hh.2.1 M[i] (List.getElem_mem _);omega)⟩
           | exact ⟨rfl,congrArg Value.bool (AE2 fun hh=>by have:=hh.2.2 a b (by omega) (by omega);omega)⟩
           | exact ⟨rfl,congrArg Value.bool (AGn ⟨⟨by omega,by omega⟩,hrows,fun x y hx hy=>hall x y (by omega) hy⟩)⟩
        ·refine ABw rfl (ABp (ACf rfl (ABs (q_b (q_t (ABy (AI1 rfl (by omega) (Wl (ABp ?_)))))))));exact ⟨M.length - (b + 1),b + 1,by omega,⟨rfl,rfl,by omega,fun y hy=>by rcases Nat.lt_succ_iff_lt_or_eq.1 hy with q | rfl;exact hrw y q;exact ⟨by omega,by omega,by omega⟩⟩,rfl,trivial⟩
     ·refine ABp (ABn (ACf rfl (ACb (ACa (ACa (ADj (q_b (q_t (ABy (AI1 rfl (by omega) (Wl (ABp ?_))))))))))));exact ⟨M.length - (a + 1),a + 1,by omega,⟨rfl,rfl,by omega,fun x y hx hy=>by rcases Nat.lt_succ_iff_lt_or_eq.1 hx with q | rfl;exact hall x y q hy;exact hrw y (by omega)⟩,rfl,trivial⟩
    ·refine ABp (ABn (ACf rfl (ACb (ACa (ACa (ADj (q_t (ABj (ABq (ABt (⟨_,ABu,?_⟩)))))))))))
     first
       | exact ⟨rfl,congrArg Value.bool (AE2 fun hh=>by have:=hh.1;omega)⟩
       | exact ⟨rfl,congrArg Value.bool (AE2 fun hh=>by have:=hh.2.1 M[i] (List.getElem_mem _);omega)⟩
       | exact ⟨rfl,congrArg Value.bool (AE2 fun hh=>by have:=hh.2.2 a b (by omega) (by omega);omega)⟩
       | exact ⟨rfl,congrArg Value.bool (AGn ⟨⟨by omega,by omega⟩,hrows,fun x y hx hy=>hall x y (by omega) hy⟩)⟩
theorem Am5 {m:Nat} {F:Nat->Nat->Int}:(tab m m F).drop 1=tab (m - 1) m fun i j=>F (i + 1) j:=by
 refine List.ext_getElem (by simp [tab]) fun i h1 h2=>?_;simp [tab,Nat.add_comm]
theorem AY2 {h:ABk} {v:Value} {m:Nat} {F:Nat->Nat->Int} (HM:Mat h v (tab m m F)) (hcap:ANk v) (hm:1<=m) (Au:m<=8) (hfit:∀ i,i < m->Abs (F i 0) 34359738368):AB9 Tryz.prog 103 #[v] h fun x h'=>h'=h/\x= .bool (decide (AOm m F)):=by
 refine ACz (l:=[_]) mx Tryz.func103 rfl rfl rfl rfl rfl (by kernel_rfl) (ABj (ACs (Wl (AOs (n:=0) AB3 rfl HM rfl (AEh (by omega)) fun Av Aw Ad Ae=>AB8 ACo rfl Ad (ALw (n:=0) ABv rfl Ae rfl (AGu (by omega)) fun Ax Af=>AB8 ACr rfl Af (ABq (ABn (ABj (Wl (AT2 rfl rfl (fun Ag=>?_) (fun Ag=>?_)))))))))))
 ·refine Wl (ACj 13 true (by kernel_rfl) rfl rfl (ACj 13 true (by kernel_rfl) rfl rfl (AB2 rfl (ABp (ACc rfl (ABj (ABq (ABt (AB1 (⟨_,ABu,?_⟩))))))))))
  first
    | exact ⟨rfl,congrArg Value.bool (decide_eq_false (fun hh=>by have:=hh.1;omega)).symm⟩
    | exact ⟨rfl,congrArg Value.bool (decide_eq_false (fun hh=>by have:=hh.2 (i + 1) (by omega) (by omega);omega)).symm⟩
    | exact ⟨rfl,congrArg Value.bool (decide_eq_true ⟨⟨by omega,by omega⟩,fun j h1 h2=>hall j h1 (by omega)⟩).symm⟩
 ·refine Wl (ACy 13 false (by kernel_rfl) rfl rfl (Wl (ACy 13 false (by kernel_rfl) rfl rfl (AT3 rfl rfl (fun Ah=>?_) (fun Ah=>?_)))))
  ·refine ABw rfl (ABp (ACc rfl (ABj (ABq (ABt (AB1 (⟨_,ABu,?_⟩)))))))
   first
     | exact ⟨rfl,congrArg Value.bool (decide_eq_false (fun hh=>by have:=hh.1;omega)).symm⟩
     | exact ⟨rfl,congrArg Value.bool (decide_eq_false (fun hh=>by have:=hh.2 (i + 1) (by omega) (by omega);omega)).symm⟩
     | exact ⟨rfl,congrArg Value.bool (decide_eq_true ⟨⟨by omega,by omega⟩,fun j h1 h2=>hall j h1 (by omega)⟩).symm⟩
  ·refine ABw rfl (ABp (ACf rfl (ABs (q_t (ABn (ABj (Wl (Ajf (k:=1) AB3 rfl HM hcap rfl (by rw [AC5];omega) fun v1 Ai Ay=>?_))))))));have HD:Mat h v1 (tab (m - 1) m fun i j=>F (i + 1) j):=Am5 (m:=m) ▸ Ai;refine AM3 AB3 rfl HD ?_;rw [AC5];refine Wl (ABp (ABr (ACi 549754765348 (fun i:Nat=>[(20,.int .i64 (i:Int))]) (fun k i h'=>h'=h/\k=m - 1 - i/\i<=m - 1/\ ∀ j,1<=j->j < i + 1->2 * F j 0<=F 0 0/\ -2 * F j 0<=F 0 0) (by kernel_rfl) (m - 1) 0 ?_ ⟨rfl,trivial⟩ ?_)))
   ·exact ⟨rfl,rfl,Nat.zero_le _,fun j h1 h2=>by omega⟩
   rintro k i s1 h ⟨rfl,rfl,hi,hall⟩;refine ABj (AFm rfl rfl (fun Aj=>?_) (fun Aj=>?_))
   ·refine ABp (ABn (ACc rfl (ABs (q_t (ABn (ABr (ABj (AOs AB3 rfl HD rfl (AEh (by omega)) fun Az A3 Ak Ac=>AB8 ACo rfl Ak (ABq (ABn ?_))))))))));have Am:=hfit (i + 1) (by omega);unfold Abs at Am;refine ABy (Wl (ALw (n:=0) ABv rfl Ac rfl (AGu (by omega)) fun A4 Ao=>AB8 ACr rfl Ao (AK4 rfl rfl (by omega) (by omega) (Wl (AQx rfl rfl (fun Ap=>?_) (fun Ap=>?_))))))
    ·refine Wl (ACj 30 true (by kernel_rfl) rfl rfl (ACj 30 true (by kernel_rfl) rfl rfl (ACj 30 true (by kernel_rfl) rfl rfl (ACj 30 true (by kernel_rfl) rfl rfl (ACj 30 true (by kernel_rfl) rfl rfl (ACj 30 true (by kernel_rfl) rfl rfl (AB2 rfl (ABp (ACc rfl (ABj (ABq (ABt (ADl (AB1 (AB1 (ADl (AB1 (⟨_,ABu,?_⟩))))))))))))))))))
     first
       | exact ⟨rfl,congrArg Value.bool (decide_eq_false (fun hh=>by have:=hh.1;omega)).symm⟩
       | exact ⟨rfl,congrArg Value.bool (decide_eq_false (fun hh=>by have:=hh.2 (i + 1) (by omega) (by omega);omega)).symm⟩
       | exact ⟨rfl,congrArg Value.bool (decide_eq_true ⟨⟨by omega,by omega⟩,fun j h1 h2=>hall j h1 (by omega)⟩).symm⟩
    ·refine Wl (ACy 30 false (by kernel_rfl) rfl rfl (Wl (ACy 30 false (by kernel_rfl) rfl rfl (ALw (n:=0) ABv rfl Ac rfl (AGu (by omega)) fun A5 Aq=>ACy 30 false (by kernel_rfl) rfl rfl (AB8 ACr rfl Aq (ACy 30 false (by kernel_rfl) rfl rfl (AK4 rfl rfl (by omega) (by omega) (ACy 30 false (by kernel_rfl) rfl rfl (Wl (ACy 30 false (by kernel_rfl) rfl rfl (AQx rfl rfl (fun Ar=>?_) (fun Ar=>?_))))))))))))
     ·refine ABw rfl (ABp (ACc rfl (ABj (ABq (ABt (ADl (AB1 (AB1 (ADl (AB1 (⟨_,ABu,?_⟩)))))))))))
      first
        | exact ⟨rfl,congrArg Value.bool (decide_eq_false (fun hh=>by have:=hh.1;omega)).symm⟩
        | exact ⟨rfl,congrArg Value.bool (decide_eq_false (fun hh=>by have:=hh.2 (i + 1) (by omega) (by omega);omega)).symm⟩
        | exact ⟨rfl,congrArg Value.bool (decide_eq_true ⟨⟨by omega,by omega⟩,fun j h1 h2=>hall j h1 (by omega)⟩).symm⟩
     ·refine ABw rfl (ABp (ACf rfl (ABs (q_b (q_t (ABy (AI1 rfl (by omega) (Wl (ABp ?_)))))))));exact ⟨m - 1 - (i + 1),i + 1,by omega,⟨rfl,rfl,by omega,fun j h1 h2=>by rcases Nat.lt_succ_iff_lt_or_eq.1 h2 with q | rfl;exact hall j h1 q;exact ⟨by omega,by omega⟩⟩,rfl,trivial⟩
   ·refine ABp (ABn (ACf rfl (ACb (ACa (ACa (ADj (q_t (ABj (ABq (ABt (⟨_,ABu,?_⟩)))))))))))
    first
      | exact ⟨rfl,congrArg Value.bool (decide_eq_false (fun hh=>by have:=hh.1;omega)).symm⟩
      | exact ⟨rfl,congrArg Value.bool (decide_eq_false (fun hh=>by have:=hh.2 (i + 1) (by omega) (by omega);omega)).symm⟩
      | exact ⟨rfl,congrArg Value.bool (decide_eq_true ⟨⟨by omega,by omega⟩,fun j h1 h2=>hall j h1 (by omega)⟩).symm⟩
theorem Ab2 {h:ABk} {v:Value} {M:List (List Int)} (HM:Mat h v M) (hcap:ANk v):AB9 Tryz.prog 67 #[v] h fun x h'=>Ext h h'/\x= .bool (isRed M):=by
 refine ACz (l:=[_]) mx Tryz.func67 rfl rfl rfl rfl rfl (by kernel_rfl) (ABj (ABq (ABn (ABj (Wl (ACp trivial rfl (Agm HM) fun x1 h hk=>?_))))));obtain ⟨rfl,rfl⟩:=hk;refine ⟨trivial,?_⟩;cases Au:AKj M
 ·refine AF8 rfl (ABp (ACc rfl (ABj (ABq (ABt (AB1 (⟨_,ABu,?_⟩)))))))
  first
    | exact ⟨(Ext.refl _),congrArg Value.bool (show false=isRed M by unfold isRed;rw [show AKj M=false by assumption];rfl)⟩
    | exact ⟨(Ext.refl _),congrArg Value.bool (show false=isRed M by unfold isRed;rw [hred,ANv (by omega) (of_decide_eq_false (by assumption)),Bool.and_false])⟩
    | exact ⟨(Ext.refl _),congrArg Value.bool (show false=isRed M by unfold isRed;rw [hred,AQ6 (by omega) (by unfold AT0;omega),Bool.and_false])⟩
    | (obtain rfl:m=1:=by omega
       first
       | exact ⟨(Ext.refl _),congrArg Value.bool (show true=isRed M by unfold isRed;rw [hred,<- AGn hsm,AOn,decide_eq_true ⟨by omega,by omega⟩];rfl)⟩
       | exact ⟨(Ext.refl _),congrArg Value.bool (show false=isRed M by unfold isRed;rw [hred,AOn,decide_eq_false (by omega),Bool.and_false])⟩)
 ·refine AF8 rfl (ABp (ACf rfl (ABs (q_t (ABj (Wl (ACs (ABq (ABn (ABr ?_))))))))));have hsm:=AY0 Au;have Av:=Ajw hsm;have Aw:Mat h v (tab M.length M.length (ent M)):=(AX3 hsm.2.1) ▸ HM;refine ACi 20282409603651670423947251255292 (fun y:Nat × Value × Int × (Nat->Nat->Int)=>[(3,y.2.1),(4,.int .i64 y.2.2.1)]) (fun k y h'=>y.1=k/\Ext h h'/\1<=y.1/\y.1<=M.length/\Mat h' y.2.1 (tab y.1 y.1 y.2.2.2)/\ANk y.2.1/\Stg y.1 y.2.2.2 y.2.2.1 (262144 + 16384 * (M.length - y.1))/\AOn M.length (ent M) 1=AOn y.1 y.2.2.2 y.2.2.1) (by kernel_rfl) M.length (M.length,v,1,ent M) ?_ ⟨rfl,rfl,trivial⟩ ?_
  ·exact ⟨rfl,Ext.refl _,hsm.1.1,Nat.le_refl _,Aw,hcap,by have e0:(262144 + 16384 * ((M.length:Int) - (M.length:Int)))=262144:=(by omega);rw [e0];exact Av,rfl⟩
  rintro k ⟨m,vs,last,F⟩ s1 hq ⟨rfl,XQ,Ay,hmn,HS,Aj,hstg,hred⟩;dsimp only at Ay hmn HS Aj hstg hred ⊢;have h8:=hsm.1.2;have B6:=hstg.l1;have B7:=hstg.l2;have szq:=XQ.1;refine ABn (ABj (Wl (AM3 AB3 rfl HS ?_)));rw [AC5];refine AQx rfl rfl (fun Az=>?_) (fun Az=>?_)
  ·refine ABp (ACc rfl (ABs (q_t (ABr (ABj (Wl (AOs (n:=0) AB3 rfl HS rfl (AEh (by omega)) fun B8 B9 A3 A4=>AB8 ACo rfl A3 (ALw (n:=0) ABv rfl A4 rfl (AGu (by omega)) fun Ca A5=>AB8 ACr rfl A5 (ABq (ABn (ABj (Wl (ACp trivial rfl (AY2 HS Aj (by omega) (by omega) (fun i hi=>AXk hstg (by omega) (by omega) hi (by omega))) fun x4 hq hk=>?_)))))))))))));obtain ⟨rfl,rfl⟩:=hk;refine ⟨trivial,?_⟩;cases Cd:decide (AOm m F)
   ·refine AF8 rfl (ABp (ACc rfl (ABj (ABq (ABt (AB1 (ADl (AB1 (ADl (AB1 (⟨_,ABu,?_⟩)))))))))))
    first
      | exact ⟨XQ,congrArg Value.bool (show false=isRed M by unfold isRed;rw [show AKj M=false by assumption];rfl)⟩
      | exact ⟨XQ,congrArg Value.bool (show false=isRed M by unfold isRed;rw [hred,ANv (by omega) (of_decide_eq_false (by assumption)),Bool.and_false])⟩
      | exact ⟨XQ,congrArg Value.bool (show false=isRed M by unfold isRed;rw [hred,AQ6 (by omega) (by unfold AT0;omega),Bool.and_false])⟩
      | (obtain rfl:m=1:=by omega
         first
         | exact ⟨XQ,congrArg Value.bool (show true=isRed M by unfold isRed;rw [hred,<- AGn hsm,AOn,decide_eq_true ⟨by omega,by omega⟩];rfl)⟩
         | exact ⟨XQ,congrArg Value.bool (show false=isRed M by unfold isRed;rw [hred,AOn,decide_eq_false (by omega),Bool.and_false])⟩)
   ·refine AF8 rfl (ABp (ACf rfl (ABs (q_t (ABj (Wl (AM3 AB3 rfl HS ?_)))))));rw [AC5];have hsh:AOm m F:=of_decide_eq_true (by assumption);refine ALh rfl rfl (by omega) (by omega) ?_;rw [show ((m:Nat):Int) - 1=((m - 1:Nat):Int) by omega];refine Atr (ei:=tI) AB3 AKb (fun _=>trivial) rfl rfl (by decide) (by omega) fun b2 v2 h2 Ak E2 Cf hl2b=>?_;have Cg:=E2.1;have Z6:=(Ext.refl hq).trans E2;have X7:=XQ.trans E2;have HS_8:=HS.ext E2;refine ABq (ABn (ABj (Wl (AUg AB3 rfl Ak.1 (Wl (ABp (ABr (ACi 1208925819614624879739776 (fun i:Nat=>[(32,.int .i64 (i:Int))]) (fun k i h'=>k=m - 1 - i/\i<=m - 1/\Ext hq h'/\ ∃ gs,AN8 h' tR tI (Array.size hq) b2 gs v2 (m - 1) ((List.range i).map (fun i=>(List.range (m - 1)).map fun j=>AP1 F last i j))) (by kernel_rfl) (m - 1) 0 ?_ ⟨rfl,trivial⟩ ?_))))))))
    ·exact ⟨rfl,Nat.zero_le _,E2,[],Ak⟩
    rintro k i s2 h3 ⟨rfl,hi,E3,gs,HP⟩;have X9:=XQ.trans E3;have Cj:=E3.1;have HS_11:=HS.ext E3;refine ABj (AFm rfl rfl (fun A7=>?_) (fun A7=>?_))
    ·refine ABp (ABn (ACc rfl (ABs (q_t (ABn (ABr (ABj (Wl (ACs (Wl (Wl (AI1 rfl (by omega) (Alb AB3 rfl HS E3 rfl (AEh (by omega)) fun aR rR haR hrR=>AB8 ACo rfl haR (ABq ?_))))))))))))));refine ABj (Wl (Wl (Wl (AUg AB3 rfl HP.1 (Ats ABv AGz (fun _=>trivial) rfl rfl (by decide) (by omega) fun g4 v4 h4 A8 E4 Cm Cn=>?_)))));have Co:=E4.1;have A9:=E3.trans E4;have Ba:=X9.trans E4;have HS_15:=HS_11.ext E4;have HP_16:=HP.ext E4;refine Aoy AB3 rfl HP_16 rfl (by omega) ?_;have hglt:=HP.1.lt;have hblo:=HP.2 b2 (List.mem_cons_self ..);refine Aoz ACo rfl rfl HP_16 (by simp) (by omega) A8 (fun hc=>by have:=hglt _ hc;omega) (by omega) fun h4b HPb U4=>?_;have Cp:=U4.1;have Cq:=Ba.thenUpd U4 (fun k hk=>by have Ah:k=b2:=hk;omega);have Ao:=A9.thenUpd U4 (fun k hk=>by have Ah:k=b2:=hk;omega);have HS_20:=HS.ext Ao;refine AM4 (Wl (AUg AB3 rfl HPb.1 (Wl (ABp (ABr (ACi 604462909525839610642944 (fun j:Nat=>[(48,.int .i64 (j:Int))]) (fun k j h'=>k=m - 1 - j/\j<=m - 1/\Ext hq h'/\AN8 h' tR tI (Array.size hq) b2 (gs ++ [g4]) v2 (m - 1) ((List.range i).map (fun i=>(List.range (m - 1)).map fun j=>AP1 F last i j) ++ [ATx (m - 1) (AP1 F last i) (fun _=>0) j])) (by kernel_rfl) (m - 1) 0 ?_ ⟨rfl,trivial⟩ ?_))))))
     ·exact ⟨rfl,Nat.zero_le _,Ao,by rw [AV3,Ajb];exact HPb⟩
     rintro k j s3 h5 ⟨rfl,hj,E5,HQ⟩;have Bb:=XQ.trans E5;have Cu:=E5.1;have HS_23:=HS.ext E5;refine ABj (AFm rfl rfl (fun Bc=>?_) (fun Bc=>?_))
     ·refine ABp (ABn (ACc rfl (ABs (q_t (ABn (ABr (ABj (Wl (ABq ?_)))))))));have hd:=hsh.1;have hfit:=fun i j hi hj=>AXk hstg (by omega) (by omega) (i:=i) (j:=j) hi hj;have q1:=ATs (a:=65535) (b:=34359738368) (x:=F 0 0) (y:=F (i + 1) (j + 1)) ⟨by omega,by omega⟩ (hfit _ _ (by omega) (by omega));have q2:=hsh.2 (i + 1) (by omega) (by omega);have q3:=hsh.2 (j + 1) (by omega) (by omega);rw [<- hstg.sym 0 (j + 1) (by omega) (by omega)] at q3;have q4:=ATs (a:=32768) (b:=32768) (x:=F (i + 1) 0) (y:=F 0 (j + 1)) ⟨by omega,by omega⟩ ⟨by omega,by omega⟩;unfold Abs at q1 q4;refine AOd (by kernel_rfl) (Wl (Wl (Att AB3 rfl HQ rfl (AU0 (by simp)) fun aQ rQ gQ haQ hgQ hrQ=>?_)));refine AB8 ACo rfl haQ (Wl (Wl (Wl (Wl (AI1 rfl (by omega) (ALw ABv rfl (hrR.ext E5) rfl (AGu (by omega)) fun Cv Bi=>AB8 ACr rfl Bi (AK4 rfl rfl (by omega) (by omega) (Wl (ALw (n:=0) ABv rfl (hrR.ext E5) rfl (AGu (by omega)) fun Cw Bj=>AB8 ACr rfl Bj (Wl (AOs (n:=0) AB3 rfl HS_23 rfl (AEh (by omega)) fun aZ rZ haZ hrZ=>AB8 ACo rfl haZ (Wl (AI1 rfl (by omega) (ALw ABv rfl hrZ rfl (AGu (by omega)) fun Cx Bl=>AB8 ACr rfl Bl (AK4 rfl rfl (by omega) (by omega) (ALh rfl rfl (by omega) (by omega) (Wl (AT1 rfl rfl (by omega) ?_))))))))))))))))));have hnf:=AXk (Ad8 (m:=m - 1) (by rw [show m - 1 + 1=m by omega];exact hstg) (by omega) (by rw [show m - 1 + 1=m by omega];exact hsh)) (by omega) (by omega) (i:=i) (j:=j) (by omega) (by omega);unfold Abs at hnf;rw [show IntKind.i64.wrap ((F 0 0 * F (i + 1) (j + 1) - F (i + 1) 0 * F 0 (j + 1)).tdiv last)=AP1 F last i j from Go.QF.wrap_small (by have:(F 0 0 * F (i + 1) (j + 1) - F (i + 1) 0 * F 0 (j + 1)).tdiv last=AP1 F last i j:=rfl;omega) (by have:(F 0 0 * F (i + 1) (j + 1) - F (i + 1) 0 * F 0 (j + 1)).tdiv last=AP1 F last i j:=rfl;omega)];refine ANj ABv rfl hrQ rfl (by rw [List.length_map,ALj];omega) ?_;refine Ao0 (ATx (m - 1) (AP1 F last i) (fun _=>0) (j + 1)) ACr rfl rfl HQ hgQ (AU0 (by simp)) hrQ (by rw [ALj];omega) (AX6 (by omega) rfl) fun h6 Bm U6 Cz=>?_;have C0:=U6.1;have C1:=Bb.thenUpd U6 (fun k hk=>by have Ah:k=gQ:=hk;omega);have Ap:=E5.thenUpd U6 (fun k hk=>by have Ah:k=gQ:=hk;omega);have HS_30:=HS.ext Ap;have Aq:=Bm;rw [Ac2 (by simp)] at Aq;refine ACk (q_b (q_t (ABy (AI1 rfl (by omega) (Wl (ABp ?_))))));exact ⟨m - 1 - (j + 1),j + 1,by omega,⟨rfl,by omega,Ap,Aq⟩,rfl,trivial⟩
     ·refine ABp (ABn (ACf rfl (ACb (ACa (ACa (ADj (q_b (q_t (ABy (AI1 rfl (by omega) (Wl (ABp ?_))))))))))));exact ⟨m - 1 - (i + 1),i + 1,by omega,⟨rfl,by omega,E5,gs ++ [g4],by rw [AX4 _ _ (by omega)] at HQ;rw [<- Afr];exact HQ⟩,rfl,trivial⟩
    ·refine ABp (ABn (ACf rfl (ACb (ACa (ACa (ADj (q_t (ABn ?_))))))));obtain rfl:i=m - 1:=by omega
     have Ar:AN8 h3 tR tI (Array.size hq) b2 gs v2 (tab (m - 1) (m - 1) (AP1 F last)).length (tab (m - 1) (m - 1) (AP1 F last)):=by rw [AC5];exact HP
     have HN:=Ar.mat;have hcapn:=Ar.cap;have Bn:=Ad8 (m:=m - 1) (by rw [show m - 1 + 1=m by omega];exact hstg) (by omega) (by rw [show m - 1 + 1=m by omega];exact hsh);have hnx:Stg (m - 1) (AP1 F last) (F 0 0) (262144 + 16384 * (M.length - ((m - 1:Nat):Int))):=by rw [show (262144 + 16384 * ((M.length:Int) - ((m - 1:Nat):Int)))=262144 + 16384 * ((M.length:Int) - (m:Int)) + 16384 by omega];exact Bn
     refine ABy (Wl (AOs (n:=1) AB3 rfl HS_11 rfl (AEh (by omega)) fun C2 C3 Bo Bp=>AB8 ACo rfl Bo (ALw (n:=0) ABv rfl Bp rfl (AGu (by omega)) fun C4 Bq=>AB8 ACr rfl Bq (ABq (ABn (ABn ?_))))));have hd:=hsh.1;have hnf:=AXk hnx (by omega) (by omega) (i:=0) (j:=0) (by omega) (by omega);have q5:=ATs (a:=65535) (b:=34359738368) (x:=last) (y:=AP1 F last 0 0) ⟨by omega,by omega⟩ hnf;have q2:=hsh.2 1 (by omega) (by omega);have q6:=ATs (a:=32768) (b:=32768) (x:=F 1 0) (y:=F 1 0) ⟨by omega,by omega⟩ ⟨by omega,by omega⟩;have q7:=ARl (a:=3 * F 0 0) (b:=F 0 0) (A:=196605) (B:=65535) (by omega) (by omega) (by omega) (by omega);unfold Abs at q5 q6;refine ABy (Wl (Wl (AOs (n:=0) AB3 rfl HN rfl (AEh (by omega)) fun aN rN haN hrN=>AB8 ACo rfl haN (ALw (n:=0) ABv rfl hrN rfl (AGu (by omega)) fun aO haO=>AB8 ACr rfl haO (AK4 rfl rfl (by omega) (by omega) (Wl (Wl (AK4 rfl rfl (by omega) (by omega) (ASy rfl rfl (by omega) (by omega) (AK4 rfl rfl (by omega) (by omega) (Wl (AK4 rfl rfl (by omega) (by omega) (Wl (AK4 rfl rfl (by omega) (by omega) (AFm rfl rfl (fun Bu=>?_) (fun Bu=>?_))))))))))))))))
     ·refine ABp (ACc rfl (ABj (ABq (ABt (AB1 (ADl (AB1 (ADl (AB1 (⟨_,ABu,?_⟩))))))))))
      first
        | exact ⟨X9,congrArg Value.bool (show false=isRed M by unfold isRed;rw [show AKj M=false by assumption];rfl)⟩
        | exact ⟨X9,congrArg Value.bool (show false=isRed M by unfold isRed;rw [hred,ANv (by omega) (of_decide_eq_false (by assumption)),Bool.and_false])⟩
        | exact ⟨X9,congrArg Value.bool (show false=isRed M by unfold isRed;rw [hred,AQ6 (by omega) (by unfold AT0;omega),Bool.and_false])⟩
        | (obtain rfl:m=1:=by omega
           first
           | exact ⟨X9,congrArg Value.bool (show true=isRed M by unfold isRed;rw [hred,<- AGn hsm,AOn,decide_eq_true ⟨by omega,by omega⟩];rfl)⟩
           | exact ⟨X9,congrArg Value.bool (show false=isRed M by unfold isRed;rw [hred,AOn,decide_eq_false (by omega),Bool.and_false])⟩)
     ·refine ABp (ACf rfl (ABs (q_t ?_)));have hlov:AT0 F last:=by unfold AT0;omega
      have hredn:=Ajx (last:=last) (by omega) hsh hlov;refine ABy (Wl (Wl (ACe (ACe (ACk (q_b (q_t ?_)))))));exact ⟨m - 1,(m - 1,v2,F 0 0,AP1 F last),by first | omega | (dsimp only;omega),⟨rfl,X9,by first | omega | (dsimp only;omega),by first | omega | (dsimp only;omega),HN,hcapn,hnx,by rw [hred,hredn]⟩,rfl,rfl,trivial⟩
  ·refine ABp (ACf rfl (ACb (ACa (ACa (ADj (q_t (ABj (Wl (AOs (n:=0) AB3 rfl HS rfl (AEh (by omega)) fun C6 C7 Bv Bw=>AB8 ACo rfl Bv (ALw (n:=0) ABv rfl Bw rfl (AGu (by omega)) fun C8 Bx=>AB8 ACr rfl Bx (AQx rfl rfl (fun By=>?_) (fun By=>?_))))))))))))
   ·refine Wl (ACy 110 true (by kernel_rfl) rfl rfl (Wl (ACy 110 true (by kernel_rfl) rfl rfl (AOs (n:=0) AB3 rfl HS rfl (AEh (by omega)) fun C9 Da Bz B1=>ACy 110 true (by kernel_rfl) rfl rfl (AB8 ACo rfl Bz (ACy 110 true (by kernel_rfl) rfl rfl (ALw (n:=0) ABv rfl B1 rfl (AGu (by omega)) fun Db B2=>ACy 110 true (by kernel_rfl) rfl rfl (AB8 ACr rfl B2 (ACy 110 true (by kernel_rfl) rfl rfl (AT2 rfl rfl (fun B3=>?_) (fun B3=>?_)))))))))))
    ·refine AB2 rfl (ABq (ABt (⟨_,ABu,?_⟩)))
     first
       | exact ⟨XQ,congrArg Value.bool (show false=isRed M by unfold isRed;rw [show AKj M=false by assumption];rfl)⟩
       | exact ⟨XQ,congrArg Value.bool (show false=isRed M by unfold isRed;rw [hred,ANv (by omega) (of_decide_eq_false (by assumption)),Bool.and_false])⟩
       | exact ⟨XQ,congrArg Value.bool (show false=isRed M by unfold isRed;rw [hred,AQ6 (by omega) (by unfold AT0;omega),Bool.and_false])⟩
       | (obtain rfl:m=1:=by omega
          first
          | exact ⟨XQ,congrArg Value.bool (show true=isRed M by unfold isRed;rw [hred,<- AGn hsm,AOn,decide_eq_true ⟨by omega,by omega⟩];rfl)⟩
          | exact ⟨XQ,congrArg Value.bool (show false=isRed M by unfold isRed;rw [hred,AOn,decide_eq_false (by omega),Bool.and_false])⟩)
    ·refine AB2 rfl (ABq (ABt (⟨_,ABu,?_⟩)))
     first
       | exact ⟨XQ,congrArg Value.bool (show false=isRed M by unfold isRed;rw [show AKj M=false by assumption];rfl)⟩
       | exact ⟨XQ,congrArg Value.bool (show false=isRed M by unfold isRed;rw [hred,ANv (by omega) (of_decide_eq_false (by assumption)),Bool.and_false])⟩
       | exact ⟨XQ,congrArg Value.bool (show false=isRed M by unfold isRed;rw [hred,AQ6 (by omega) (by unfold AT0;omega),Bool.and_false])⟩
       | (obtain rfl:m=1:=by omega
          first
          | exact ⟨XQ,congrArg Value.bool (show true=isRed M by unfold isRed;rw [hred,<- AGn hsm,AOn,decide_eq_true ⟨by omega,by omega⟩];rfl)⟩
          | exact ⟨XQ,congrArg Value.bool (show false=isRed M by unfold isRed;rw [hred,AOn,decide_eq_false (by omega),Bool.and_false])⟩)
   ·refine Wl (ACj 110 false (by kernel_rfl) rfl rfl (ACj 110 false (by kernel_rfl) rfl rfl (ACj 110 false (by kernel_rfl) rfl rfl (ACj 110 false (by kernel_rfl) rfl rfl (ACj 110 false (by kernel_rfl) rfl rfl (ACj 110 false (by kernel_rfl) rfl rfl (ABw rfl (ABq (ABt (⟨_,ABu,?_⟩))))))))))
    first
      | exact ⟨XQ,congrArg Value.bool (show false=isRed M by unfold isRed;rw [show AKj M=false by assumption];rfl)⟩
      | exact ⟨XQ,congrArg Value.bool (show false=isRed M by unfold isRed;rw [hred,ANv (by omega) (of_decide_eq_false (by assumption)),Bool.and_false])⟩
      | exact ⟨XQ,congrArg Value.bool (show false=isRed M by unfold isRed;rw [hred,AQ6 (by omega) (by unfold AT0;omega),Bool.and_false])⟩
      | (obtain rfl:m=1:=by omega
         first
         | exact ⟨XQ,congrArg Value.bool (show true=isRed M by unfold isRed;rw [hred,<- AGn hsm,AOn,decide_eq_true ⟨by omega,by omega⟩];rfl)⟩
         | exact ⟨XQ,congrArg Value.bool (show false=isRed M by unfold isRed;rw [hred,AOn,decide_eq_false (by omega),Bool.and_false])⟩)
end Go.Proofs.YtiegjkmfpcgjjaaGreatDoor
namespace Go.Proofs.YtiegjkmfpcgjjaaGreatDoor
open Go Go.QF
set_option maxRecDepth 100000
open Classical in
noncomputable def APn (p:Int):Bool:=decide (2 < p/\p<=9973/\Pr p)
theorem AUm {p:Int} (h:2 < p/\p<=9973/\Pr p):true=APn p:=by simp [APn,h]
theorem AR3 {p:Int} (h: ¬ (2 < p/\p<=9973/\Pr p)):false=APn p:=by simp [APn,h]
theorem AVi {p:Int} (h:APn p=true):2 < p/\p<=9973/\Pr p:=by simpa [APn] using h
theorem prB {p:Int} {b:Bool} (h:AK5 p=b) (hp:p<=9973):b=true↔Pr p:=by
 subst h;constructor
 ·intro h;exact (AZy h).2
 ·intro h;exact (AXz (by omega) h).symm
open Classical in
noncomputable def AF1 (p:Int):Bool:=decide (p<=9973/\Pr p)
theorem Am6 (p:Int) (h:ABk):AB9 Tryz.prog 101 #[.int .i64 p] h fun v h'=>h'=h/\v= .bool (AF1 p):=by
 refine ACz (l:=[_]) mx Tryz.func101 rfl rfl rfl rfl rfl (by kernel_rfl) (ABj (ACs (Wl (AT2 rfl rfl (fun Aa=>?_) (fun Aa=>?_)))))
 ·refine Wl (ACy 5 true (by kernel_rfl) rfl rfl (Wl (ACy 5 true (by kernel_rfl) rfl rfl (ACp trivial rfl (Ak8 p _) fun x1 h hk=>?_))));obtain ⟨rfl,rfl⟩:=hk;refine ⟨trivial,?_⟩;cases Ac:AK5 p
  ·refine AB2 rfl (ABq (ABt (⟨_,ABu,?_⟩)))
   first
   | exact ⟨rfl,congrArg Value.bool (show false=AF1 p by simp [AF1];intro hh;omega)⟩
   | (have hq:=(prB (by assumption:AK5 p=_) (by omega));first | exact ⟨rfl,congrArg Value.bool (show true=AF1 p by simp [AF1];exact ⟨by omega,hq.1 rfl⟩)⟩ | exact ⟨rfl,congrArg Value.bool (show false=AF1 p by simp [AF1];intro _ hh;have:=hq.2 hh;cases this)⟩)
  ·refine AB2 rfl (ABq (ABt (⟨_,ABu,?_⟩)))
   first
   | exact ⟨rfl,congrArg Value.bool (show false=AF1 p by simp [AF1];intro hh;omega)⟩
   | (have hq:=(prB (by assumption:AK5 p=_) (by omega));first | exact ⟨rfl,congrArg Value.bool (show true=AF1 p by simp [AF1];exact ⟨by omega,hq.1 rfl⟩)⟩ | exact ⟨rfl,congrArg Value.bool (show false=AF1 p by simp [AF1];intro _ hh;have:=hq.2 hh;cases this)⟩)
 ·refine Wl (ACj 5 false (by kernel_rfl) rfl rfl (ACj 5 false (by kernel_rfl) rfl rfl (ABw rfl (ABq (ABt (⟨_,ABu,?_⟩))))))
  first
  | exact ⟨rfl,congrArg Value.bool (show false=AF1 p by simp [AF1];intro hh;omega)⟩
  | (have hq:=(prB (by assumption:AK5 p=_) (by omega));first | exact ⟨rfl,congrArg Value.bool (show true=AF1 p by simp [AF1];exact ⟨by omega,hq.1 rfl⟩)⟩ | exact ⟨rfl,congrArg Value.bool (show false=AF1 p by simp [AF1];intro _ hh;have:=hq.2 hh;cases this)⟩)
theorem Ajz (p:Int) (h:ABk):AB9 Tryz.prog 65 #[.int .i64 p] h fun v h'=>h'=h/\v= .bool (APn p):=by
 refine ACz (l:=[_]) mx Tryz.func65 rfl rfl rfl rfl rfl (by kernel_rfl) (ABj (ACs (Wl (AT4 rfl rfl (fun Ab=>?_) (fun Ab=>?_)))))
 ·refine Wl (ACy 5 true (by kernel_rfl) rfl rfl (Wl (ACy 5 true (by kernel_rfl) rfl rfl (ACp trivial rfl (Am6 p _) fun x1 h hk=>?_))));obtain ⟨rfl,rfl⟩:=hk;refine ⟨trivial,?_⟩;cases Ad:AF1 p
  ·refine AB2 rfl (ABq (ABt (⟨_,ABu,?_⟩)))
   first
   | (have hq:AF1 p=true:=by assumption
      have Aa:p<=9973/\Pr p:=by simpa [AF1] using hq
      exact ⟨rfl,congrArg Value.bool (AUm ⟨by have:=Aa.2.1;omega,Aa⟩)⟩)
   | (have hq:AF1 p=false:=by assumption
      exact ⟨rfl,congrArg Value.bool (AR3 (fun hh=>by
        have Aa: ¬ (p<=9973/\Pr p):=by simpa [AF1] using hq
        exact Aa hh.2))⟩)
   | exact ⟨rfl,congrArg Value.bool (AR3 (fun hh=>by have:=hh.1;omega))⟩
  ·refine AB2 rfl (ABq (ABt (⟨_,ABu,?_⟩)))
   first
   | (have hq:AF1 p=true:=by assumption
      have Aa:p<=9973/\Pr p:=by simpa [AF1] using hq
      exact ⟨rfl,congrArg Value.bool (AUm ⟨by have:=Aa.2.1;omega,Aa⟩)⟩)
   | (have hq:AF1 p=false:=by assumption
      exact ⟨rfl,congrArg Value.bool (AR3 (fun hh=>by
        have Aa: ¬ (p<=9973/\Pr p):=by simpa [AF1] using hq
        exact Aa hh.2))⟩)
   | exact ⟨rfl,congrArg Value.bool (AR3 (fun hh=>by have:=hh.1;omega))⟩
 ·refine Wl (ACj 5 false (by kernel_rfl) rfl rfl (ACj 5 false (by kernel_rfl) rfl rfl (ABw rfl (ABq (ABt (⟨_,ABu,?_⟩))))))
  first
  | (have hq:AF1 p=true:=by assumption
     have Aa:p<=9973/\Pr p:=by simpa [AF1] using hq
     exact ⟨rfl,congrArg Value.bool (AUm ⟨by have:=Aa.2.1;omega,Aa⟩)⟩)
  | (have hq:AF1 p=false:=by assumption
     exact ⟨rfl,congrArg Value.bool (AR3 (fun hh=>by
       have Aa: ¬ (p<=9973/\Pr p):=by simpa [AF1] using hq
       exact Aa hh.2))⟩)
  | exact ⟨rfl,congrArg Value.bool (AR3 (fun hh=>by have:=hh.1;omega))⟩
end Go.Proofs.YtiegjkmfpcgjjaaGreatDoor
namespace Go.Proofs.YtiegjkmfpcgjjaaGreatDoor
open Go Go.QF
noncomputable def AWk (fuel:Nat) (M:List (List Int)):Option Bool:=some (isRed M)
theorem Agn {fuel:Nat} {h:ABk} {v:Value} {M:List (List Int)} {r:Bool} (H:AFn (cI .i64) h v M) (hp:AWk fuel M=some r):AB9 Tryz.prog 67 #[v] h (fun x h'=>Ext h h'/\x= .bool r):=by
 cases hp;exact Ab2 (Am0 H) H.1
noncomputable def AY3 (fuel:Nat) (n:Int):Option Bool:=some (AK5 n)
theorem Aj0 {fuel:Nat} {h:ABk} {n:Int} {r:Bool} (HO:AUy h) (hp:AY3 fuel n=some r):AB9 Tryz.prog 68 #[.int .i64 n] h (fun x h'=>Ext h h'/\x= .bool r):=by
 cases hp;exact (Ato n HO).mono fun x h' ⟨he,hx⟩=>⟨he ▸ Ext.refl _,hx⟩
noncomputable def Ab3 (fuel:Nat) (n:Int):Option Bool:=some (APn n)
theorem Am7 {fuel:Nat} {h:ABk} {n:Int} {r:Bool} (hp:Ab3 fuel n=some r):AB9 Tryz.prog 65 #[.int .i64 n] h (fun x h'=>Ext h h'/\x= .bool r):=by
 cases hp;exact (Ajz n h).mono fun x h' ⟨he,hx⟩=>⟨he ▸ Ext.refl _,hx⟩
end Go.Proofs.YtiegjkmfpcgjjaaGreatDoor
namespace Go.Proofs.YtiegjkmfpcgjjaaGreatDoor
open Go Go.QF
set_option maxRecDepth 100000
set_option maxHeartbeats 4000000
def AH5 (fuel:Nat) (a3:LiI):Option Int:=
  ((AFd fuel a3).bind fun x5=>((AC7 fuel x5).bind fun Ac=>((Abt fuel Ac).bind fun (Ad,Ae)=>(some Ad))))
theorem AR4 {fuel:Nat} {h:ABk} {Aa:Value} {a3:LiI} {r:Int} (H2:AFn (cI .i64) h Aa a3) (hp:AH5 fuel a3=some r):AB9 Tryz.prog 66 #[Aa] h (fun x h'=>Ext h h'/\x= .int .i64 r):=by
 unfold AH5 at hp;refine cwf (l:=[_]) Tryz.func66 rfl rfl (ABj (ACs (Wl ?_)));have K0:=Kst.k0 h;obtain ⟨x5,Ah,Ai⟩:=ABm hp;refine ACw rfl (AK7 (H2.ext K0.x) Ah) fun A4 h9 E8 Ak=>?_;obtain ⟨A6,A7,A8,A9,rfl,Am,Ao⟩:=Ak;have Ad:=K0.no2 E8 Ao Am;obtain ⟨Ba,Ap,Aq⟩:=ABm Ai;refine ACw rfl (AEe (Ad.o2 p0).rd Ap) fun Bb Bc Ar Au=>?_;obtain ⟨Be,rfl,Av⟩:=Au;obtain ⟨Bf,rfl,Aw⟩:=Av.cs;have Ae:=(Ad.e Ar).az Aw;obtain ⟨⟨Bg,Bh⟩,Ax,Af⟩:=ABm Aq;dsimp only at Af;refine ACw rfl (Adq (Ae.z p0).2 Ax) fun Bi Bj Ay Az=>?_;subst Az;refine Wl (AC6 rfl rfl (AC6 rfl rfl (ACe (ACs (Wl (ABq (ABt ?_)))))));obtain rfl:=ABl Af;exact ⟨_,ABu,(Ae.e Ay).x,rfl⟩
def AIw (fuel:Nat) (a1:Int):Option Int:=
  (if (([2,3,5,7,2,3,5,11,13,17,19,23,3,2,9973,10007,1,4,9,(-3)]:List Int).length:Int)≠0 then ((gI ([2,3,5,7,2,3,5,11,13,17,19,23,3,2,9973,10007,1,4,9,(-3)]:List Int) (Int.tmod (w64 a1) (([2,3,5,7,2,3,5,11,13,17,19,23,3,2,9973,10007,1,4,9,(-3)]:List Int).length:Int))).bind fun Ab=>(some Ab)) else none)
theorem AQt {fuel:Nat} {h:ABk} {a1 r:Int} (hp:AIw fuel a1=some r):AB9 Tryz.prog 27 #[(.int .u8 a1)] h (fun x h'=>Ext h h'/\x= .int .i64 r):=by
 unfold AIw at hp;refine cwf (l:=[_]) Tryz.func27 rfl rfl (ABj (ACs (AQp (κ:= .i64) [2,3,5,7,2,3,5,11,13,17,19,23,3,2,9973,10007,1,4,9,(-3)] ABv AGz rfl rfl trivial tt2 rfl rfl rfl rfl fun b2 v3 h4 I5 E6 Af Ag=>ACs (Wl (Wl (AL5 APd APc rfl (Wl ?_)))))));have Aa:=(Kst.k0 h).no E6 (AGr Af Ag) I5;refine ADy ABv rfl (Aa.o p0).rd ?_;obtain ⟨Ah,Ai⟩:=ifN hp;refine AF7 rfl rfl Ah ?_;obtain ⟨Au,Ac,Aj⟩:=ABm Ai;refine AMr ABv rfl (Aa.o p0) rfl Ac fun Av Ak=>?_;obtain ⟨Aw,Am,Ao⟩:=(Aa.o p0).cells Ak Ac;obtain rfl:=Am;refine AB8 ACr rfl (Ao 0 _ rfl) (ABq (ABt ?_));obtain rfl:=ABl Aj;exact ⟨_,ABu,Aa.x,rfl⟩
end Go.Proofs.YtiegjkmfpcgjjaaGreatDoor
namespace Go.Proofs.YtiegjkmfpcgjjaaGreatDoor
open Go Go.QF
set_option maxRecDepth 100000
set_option maxHeartbeats 4000000
def AFs (fuel:Nat) (a1 a2:Int):Option Int:=
  (if a2≠0 then (if (Int.tmod a1 a2) < 0 then (some (w64 ((Int.tmod a1 a2) + a2))) else (some (Int.tmod a1 a2))) else none)
theorem AKk {fuel:Nat} {h:ABk} {a1 a2 r:Int} (hp:AFs fuel a1 a2=some r):AB9 Tryz.prog 18 #[(.int .i64 a1),(.int .i64 a2)] h (fun x h'=>Ext h h'/\x= .int .i64 r):=by
 unfold AFs at hp;refine cwf (l:=[_,_]) Tryz.func18 rfl rfl (ABj (ACs (Wl (Wl ?_))));have K0:=Kst.k0 h;obtain ⟨Af,Ae⟩:=ifN hp;refine AF7 rfl rfl Af (ABq (ABn (ABj (Wl (AC1 rfl rfl (ABp (⟨_,rfl,fun Aa=>?_,fun Aa=>?_⟩)))))))
 ·refine ABy (Wl (Wl (AC0 rfl rfl (ACs (Wl (ABq (ABt ?_)))))));obtain rfl:=ABl (AC2 Ae Aa);exact ⟨_,ABu,K0.x,rfl⟩
 ·refine ABs (q_t (ABj (Wl (ABq (ABt ?_)))));obtain rfl:=ABl (AC3 Ae Aa);exact ⟨_,ABu,K0.x,rfl⟩
def AJ1 (fuel:Nat) (a3 a7:LiI) (Ab:Int) (Ae:LiA) (Aa:Int):Option ((Int) ⊕ ((Bool) ⊕ (Unit))):=
  (if Aa < (Ae.length:Int) then ((gI a3 Ab).bind fun Af=>((gI Af Aa).bind fun Ag=>((gI a7 Ab).bind fun Ah=>((gI Ah Aa).bind fun Ai=>(if ¬ Ag=Ai then (some (Sum.inr<| Sum.inl <| false)) else (some (Sum.inl (w64 (Aa + 1))))))))) else (some (Sum.inr<| Sum.inr <| ())))
def AJ2 (fuel:Nat) (a3 a7:LiI) (Aa:Int):Option ((Int) ⊕ ((Bool) ⊕ (Unit))):=
  (if Aa < (a3.length:Int) then ((gI a3 Aa).bind fun Ad=>((gI a7 Aa).bind fun Ae=>(if ¬ (Ad.length:Int)=(Ae.length:Int) then (some (Sum.inr<| Sum.inl <| false)) else ((iter (fun s=>AJ1 fuel a3 a7 Aa Ad s) fuel 0).bind (fun ex=>match ex with | Sum.inl Af=>(some (Sum.inr<| Sum.inl <| Af)) | Sum.inr (_)=>(some (Sum.inl (w64 (Aa + 1))))))))) else (some (Sum.inr<| Sum.inr <| ())))
def AEk (fuel:Nat) (a3 a7:LiI):Option Bool:=
  (if ¬ (a3.length:Int)=(a7.length:Int) then (some false) else ((iter (fun s=>AJ2 fuel a3 a7 s) fuel 0).bind (fun ex=>match ex with | Sum.inl Ac=>(some Ac) | Sum.inr (_)=>(some true))))
theorem AJ3 {fuel:Nat} {h:ABk} {Av:Value} {a3:LiI} {Ax:Value} {a7:LiI} {r:Bool} (H2:AFn (cI .i64) h Av a3) (H6:AFn (cI .i64) h Ax a7) (hp:AEk fuel a3 a7=some r):AB9 Tryz.prog 17 #[Av,Ax] h (fun x h'=>Ext h h'/\x= .bool r):=by
 unfold AEk at hp;refine cwf (l:=[_,_]) Tryz.func17 rfl rfl (ABj (ABq (ABn (ABj (Wl (ADf AB3 rfl H2 (Wl (ADf AB3 rfl H6 (AHf rfl rfl (ABp ?_))))))))));have K0:=Kst.k0 h;refine ⟨_,rfl,fun Ak=>?_,fun Ak=>?_⟩
 ·refine ABj (ABq (ABt (AB1 ?_)));obtain rfl:=ABl (AC2 hp Ak);exact ⟨_,ABu,K0.x,rfl⟩
 ·refine ABs (q_t (ABn (ABj (Wl (ADf AB3 rfl H2 (Wl (ABp (ABr ?_))))))));obtain ⟨Ah,A6,Am⟩:=ABm (AC3 hp Ak);obtain ⟨A7,A8,A9⟩:=ACd A6;refine ACi 9007199254724720 (fun x:(Int)=>[(14,(.int .i64 x))]) (fun k x h'=>iter A7 k x=some Ah/\Kst h h' (K0.L)) (by kernel_rfl) fuel (0:(Int)) ?_ ⟨rfl,trivial⟩ ?_
  ·exact ⟨A9,K0⟩
  rintro Cb Ba Cd Ce ⟨Bb,Aa⟩;obtain ⟨Bc,Cf,rfl,Ae,Ab⟩:=AB4 Bb;rw [A8] at Ae;dsimp only at Ae;unfold AJ2 at Ae;refine ABj (AC1 rfl rfl (ABp (ABn (⟨_,rfl,fun Ao=>?_,fun Ao=>?_⟩))))
  ·refine ABs (q_t (ABn (ABr (ABj (Wl (ABq (ABn (ABn (ANi (Wl (Wl ?_)))))))))));obtain ⟨Cg,Az,Be⟩:=ABm (AC2 Ae Ao);refine AIn AB3 rfl H2 rfl Az fun Ch Ci Cj Bf Bg=>AB8 ACo rfl (ABz Bf Aa.x) (ADy ABv rfl Bg (Wl (Wl ?_)));obtain ⟨Ck,Bh,A3⟩:=ABm Be;refine AIn AB3 rfl H6 rfl Bh fun Cm Cn Co Bi Bj=>AB8 ACo rfl (ABz Bi Aa.x) (ADy ABv rfl Bj (AHf rfl rfl (ABp (⟨_,rfl,fun Ap=>?_,fun Ap=>?_⟩))))
   ·refine ABj (ABq ?_);obtain rfl:=ABl (AC2 A3 Ap);change _=Ah at Ab;subst Ab;refine ABt (AB1 (ADl (AB1 (AB1 (ADl (AB1 ?_))))));obtain rfl:=ABl Am;exact ⟨_,ABu,Aa.x,rfl⟩
   ·refine ABs (q_t (ABj (Wl (Wl (AIn AB3 rfl H2 rfl Az fun Cp Cq Cr Bl Bm=>AB8 ACo rfl (ABz Bl Aa.x) (ADy ABv rfl Bm (Wl (ABp (ABr ?_)))))))));obtain ⟨Aq,Bn,A4⟩:=ABm (AC3 A3 Ap);obtain ⟨Bo,Bp,Bq⟩:=ACd Bn;refine ACi 4503591037435984 (fun x:(Int)=>[(33,(.int .i64 x))]) (fun k x h'=>iter Bo k x=some Aq/\Kst h h' (Aa.L)) (by kernel_rfl) fuel (0:(Int)) ?_ ⟨rfl,trivial⟩ ?_
    ·exact ⟨Bq,Aa⟩
    rintro Ct Br Cu Cv ⟨Bt,Ac⟩;obtain ⟨Bu,Cw,rfl,Af,Ag⟩:=AB4 Bt;rw [Bp] at Af;dsimp only at Af;unfold AJ1 at Af;refine ABj (AC1 rfl rfl (ABp (ABn (⟨_,rfl,fun Ar=>?_,fun Ar=>?_⟩))))
    ·refine ABs (q_t (ABn (ABr (ABj (Wl (ABq (ABn (ANi (Wl (Wl ?_))))))))));obtain ⟨Cx,Bv,Bw⟩:=ABm (AC2 Af Ar);refine AIn AB3 rfl H2 rfl Bv fun Cy Cz C0 Bx By=>AB8 ACo rfl (ABz Bx Ac.x) (Wl ?_);obtain ⟨C1,Bz,B1⟩:=ABm Bw;refine AIm (c:=(cI .i64)) ABv rfl By rfl Bz fun C2 C3 C4 B2 B3=>?_;obtain rfl:=B2;refine AB8 ACr rfl (ABz (B3 0 _ rfl) Ac.x) (Wl (Wl ?_));obtain ⟨C5,B4,B5⟩:=ABm B1;refine AIn AB3 rfl H6 rfl B4 fun C6 C7 C8 B6 B7=>AB8 ACo rfl (ABz B6 Ac.x) (Wl ?_);obtain ⟨C9,B8,A5⟩:=ABm B5;refine AIm (c:=(cI .i64)) ABv rfl B7 rfl B8 fun Da Db Dc B9 Ca=>?_;obtain rfl:=B9;refine AB8 ACr rfl (ABz (Ca 0 _ rfl) Ac.x) (AHf rfl rfl (ABp (⟨_,rfl,fun Au=>?_,fun Au=>?_⟩)))
     ·refine ABj (ABq ?_);obtain rfl:=ABl (AC2 A5 Au);change _=Aq at Ag;subst Ag;obtain rfl:=ABl A4;change _=Ah at Ab;subst Ab;refine ABt (ADl (AB1 (AB1 (ADl (ADl (AB1 (AB1 (ADl (AB1 ?_)))))))));obtain rfl:=ABl Am;exact ⟨_,ABu,Ac.x,rfl⟩
     ·refine ABs (q_b (q_t (ABy (AC0 rfl rfl (Wl (ABp ?_))))));obtain rfl:=ABl (AC3 A5 Au);exact ⟨Bu,((w64 (Br + 1)):(Int)),Nat.lt_succ_self _,⟨Ag,Ac⟩,rfl,trivial⟩
    ·obtain rfl:=ABl (AC3 Af Ar);change _=Aq at Ag;subst Ag;refine ACb (ACa (ACa (ADj (q_b (q_t (ABy (AC0 rfl rfl (Wl (ABp ?_)))))))));obtain rfl:=ABl A4;exact ⟨Bc,((w64 (Ba + 1)):(Int)),Nat.lt_succ_self _,⟨Ab,Ac⟩,rfl,trivial⟩
  ·obtain rfl:=ABl (AC3 Ae Ao);change _=Ah at Ab;subst Ab;refine ACb (ACa (ACa (ADj (q_t (ABj (ABq (ABt ?_)))))));obtain rfl:=ABl Am;exact ⟨_,ABu,Aa.x,rfl⟩
end Go.Proofs.YtiegjkmfpcgjjaaGreatDoor
namespace Go.Proofs.YtiegjkmfpcgjjaaGreatDoor
open Go Go.QF
set_option maxRecDepth 100000
theorem Ab4 {h h2:ABk} {r1:Value} {M:List (List Int)} {m:Int} {b:Nat} {gs:List Nat} {c:Nat} (Ac:AZk h2 tR tI b gs r1 (M.map (·.map (· % m)))) (hr:∀ z∈M,z.length=c):ADu h2 tR tI b gs r1 M.length (tab M.length c (ent (AL6 M m))):=by
 have ht:=AX3 (A:=AL6 M m) (c:=c) (Ak5 hr);rw [Aa1] at ht;rw [<- ht];have:AZk h2 tR tI b gs r1 (AL6 M m):=Ac;unfold AZk at this;rw [Aa1] at this;exact this
theorem Asn {M:List (List Int)} {c:Nat} {m:Int} (hm:0 < m):Bd M.length c m (ent (AL6 M m)):=by
 have:=Ary (c:=c) hm (Aor hm M);rw [Aa1] at this;exact this
def At4 (M:List (List Int)) (m:Int) (Q:(Nat->Nat->Int)->Int->Prop) (h:ABk) (x:Value) (h':ABk):Prop:=Ext h h'/\ ∃ r e,x= .tuple #[r,.int .i64 e]/\
  ((AH9 M=false/\e=3/\Mat h' r [])∨(AH9 M=true/\APy m=false/\e=1/\Mat h' r [])∨
   (AH9 M=true/\APy m=true/\ ∃ F1 s,(s=1∨s= -1)/\Q F1 s/\Bd M.length (M.length + M.length) m F1/\Zc M.length F1 M.length/\
     ((e=8/\Mat h' r []/\ ∃ c,c < M.length/\¬ ∃ y,AKs m (F1 c c) y)∨
      (e=0/\(∀ c,c < M.length-> ∃ y,AKs m (F1 c c) y)/\Mat h' r (tab M.length M.length fun i j=>AHn m M.length F1 M.length i (M.length + j))))))
theorem AXl {a b c d:Value} (h:Value.tuple #[a,b]= .tuple #[c,d]):a=c/\b=d:=by
 injection h with h;have:=congrArg Array.toList h;simpa using this
theorem Aec {h:ABk} {v:Value} {M:List (List Int)} (HM:Mat h v M) (m:Int) (Q:(Nat->Nat->Int)->Int->Prop) (Bf:AH9 M=true->APy m=true->Q (AZl M.length (ent (AL6 M m))) 1) (hQ:Am4 M.length (M.length + M.length) m Q):AB9 Tryz.prog 39 #[v,.int .i64 m] h (fun x h'=>At4 M m Q h x h'/\ ∀ r e,x= .tuple #[r,e]->ANk r):=by
 refine ACz (l:=[_,_]) mx Tryz.func39 rfl rfl rfl rfl rfl (by kernel_rfl) (ABj (ACe (ABq (ABn (ABn ?_)))));have Bg:=Ext.refl h;refine ABy (Wl (ACp trivial rfl (Ak7 HM) fun v' h hk=>?_));obtain ⟨rfl,rfl⟩:=hk;refine ⟨trivial,?_⟩;cases Ab:AH9 M
 ·refine AF8 rfl (ABp (ACc rfl (ABj (ACe (ABq (ABt (AB1 (⟨_,ADa,?_⟩))))))));exact ⟨⟨Ext.refl _,_,_,rfl,.inl ⟨Ab,rfl,Aax _⟩⟩,fun r e he=>(AXl he).1 ▸ AO4⟩
 ·refine AF8 rfl (ABp (ACf rfl (ABs (q_t (ABn (ABj (Wl (ACp trivial rfl (AW5 m h) fun v' h hk=>?_))))))));obtain ⟨rfl,rfl⟩:=hk;refine ⟨trivial,?_⟩;refine ACs (Wl (AT4 rfl rfl (fun Ah=>?_) (fun Ah=>?_)))
  ·refine ABp (ACc rfl (ABj (Wl (ACe (ABq (ABt (AB1 (⟨_,ADa,?_⟩))))))));have hmB:APy m=false:=by cases hb:APy m <;> simp [hb] at Ah ⊢
   exact ⟨⟨Ext.refl _,_,_,rfl,.inr (.inl ⟨Ab,hmB,by simp [hmB],Aax _⟩)⟩,fun r e he=>(AXl he).1 ▸ AO4⟩
  ·refine ABp (ACf rfl (ABs (q_t (ABn ?_))));have hmB:APy m=true:=by cases hb:APy m <;> simp [hb] at Ah ⊢
   have hm:=AS1 hmB;obtain ⟨hv,hsq,h8⟩:=AZ3 Ab;have Bh:=hv.1;have Bi:=hv.2.1;refine ABy (Wl (AM3 AB3 rfl (HM.ext Bg) (ACs (Wl (Wl ?_)))));have hmB:APy m=true:=by cases hb:APy m <;> simp [hb] at Ah ⊢
   have hm:=AS1 hmB;obtain ⟨hv,hsq,h8⟩:=AZ3 Ab;have Bh:=hv.1;have Bi:=hv.2.1;refine ACp trivial rfl (Ac4 HM hm.1 hm.2 (by omega) (Ak4 hv)) fun r1 h2 hk=>?_;obtain ⟨Bj,b,gs,Bl,hb⟩:=hk;refine ⟨trivial,?_⟩;have Ay:=Ab4 (c:=M.length) (h:=h) Bl (fun z hz=>by rw [hv.2.2.2.2 z hz];omega);have Bm:=Asn (M:=M) (c:=M.length) (m:=m) (by omega);refine ABq (ABn (ABj (Wl (AUg AB3 rfl Ay (Wl (ABp (ABr (ACi 4503597479887360 (fun i:Nat=>[(31,.int .i64 (i:Int))]) (fun k i h'=>Ext h h'/\k=M.length - i/\i<=M.length/\ ∃ gs',ADu h' tR tI b gs' r1 M.length (AV5 M.length i (fun k=>(List.range (M.length + M.length)).map (AZl M.length (ent (AL6 M m)) k)) (fun k=>(List.range M.length).map (ent (AL6 M m) k)))/\ ∀ g∈b :: gs',h.size<=g) (by kernel_rfl) M.length 0 ?_ ⟨rfl,trivial⟩ ?_))))))))
   ·exact ⟨Bj,by omega,by omega,gs,by rw [AZ2];exact Ay,hb⟩
   rintro k i sx h3 ⟨hEA,rfl,hi,gsA,HPA,hgA⟩;refine ABj (AFm rfl rfl (fun Bo=>?_) (fun Bo=>?_))
   ·refine ABp (ABn (ACc rfl (ABs (q_t (ABn (ABr (ABj (Wl (ACs (Wl (Wl (Wl (Wl (AN6 AB3 rfl HPA rfl (Ahd (by omega)) fun aK rK gK haK hgK hrK=>AB8 ACo rfl haK (Wl (Arz (n:=M.length) ABv APc AGz rfl trivial rfl hrK rfl (by omega) (by simp;omega) (by simp;omega) fun r4 g4 h4 A4 Bp Ao=>⟨trivial,?_⟩))))))))))))))));obtain ⟨rs,HT,hrl⟩:=ADu.top HPA;have hKb:=ADu.ne HPA hgK;have Af:=HT.upd Ao (fun he=>hKb (Eq.symm he))
    have HO4b:AD7 h4 tI g4 r4 (((List.range M.length).map (ent (AL6 M m) i) ++ List.replicate M.length 0).map (.int .i64)):=by
      rw [List.map_append,List.map_replicate];exact A4
    refine ANj AB3 rfl Af rfl (by omega) (ASe ACo rfl rfl A4.one Af (by omega) ?_)
    have hg4s:g4=gK∨h3.size<=g4:=by
      rcases Bp with h | h
      · exact .inl h
      · exact .inr (by omega)
    have HPB:=ADu.replace HPA hgK Ao HO4b hg4s;have hgKm:=hgA gK (List.mem_cons_of_mem _ (List.mem_of_getElem? hgK));have Bq:=hgA b (List.mem_cons_self ..)
    have hg4m:h.size<=g4:=by
      rcases hg4s with h | h
      · omega
      · have:=hEA.1;omega
    have hgB:∀ g∈b :: gsA.set i g4,h.size<=g:=fun g hg=>by
      rcases List.mem_cons.1 hg with rfl | hg
      · exact Bq
      · exact AYb (fun g hg=>hgA g (List.mem_cons_of_mem _ hg)) hg4m g hg
    have hEB:=(hEA.thenUpd Ao (fun k hk=>by have Ap:k=gK:=hk;omega)).thenUpd (AG5 h4 ⟨b,i,none⟩ r4) (fun k hk=>by have Ap:k=b:=hk;omega);have hgl:gsA.length=M.length:=by have:=ADu.glen HPA;rw [AYc] at this;exact this
    refine ABp (ABy (Wl (Wl (AN6 AB3 rfl HPB rfl (List.getElem?_set_self (by rw [AYc];omega)) fun aQ rQ gQ haQ hgQ hrQ=>?_))));refine AB8 ACo rfl haQ (Wl (Wl (AYe rfl rfl (by omega) (ANj (n:=M.length + i) ABv rfl hrQ rfl (by simp;omega) ?_))));refine ASe ACr rfl rfl rfl hrQ (by simp;omega) ?_;have HPC:=ADu.setElem HPB hgQ (List.getElem?_set_self (by rw [AYc];omega)) (j:=M.length + i) (by simp;omega) 1;rw [List.set_set,Aov _ (by omega),Ac9 rfl] at HPC;have hEC:=hEB.thenUpd (AG5 _ ⟨gQ,M.length + i,none⟩ (.int .i64 1)) (fun k hk=>by have Ap:k=gQ:=hk;have:=hgB gQ (List.mem_cons_of_mem _ (List.mem_of_getElem? hgQ));omega);refine ACk (q_b (q_t (ABy (AI1 rfl (by omega) (Wl (ABp ?_))))));exact ⟨M.length - (i + 1),i + 1,by omega,⟨hEC,rfl,by omega,_,HPC,hgB⟩,rfl,trivial⟩
   ·refine ABp (ABn (ACf rfl (ACb (ACa (ACa (ADj (q_t (ABj (Wl (Wl ?_))))))))));rw [Ac8 _ _ (by omega)] at HPA;refine ACp trivial rfl (AZq HPA (by omega) (by omega) hm.1 hm.2 (Ar0 hm.1 Bm) Q (Bf Ab hmB) hQ) fun x3 h5 hk=>?_;obtain ⟨Br,F1,s,Ac,rfl,hs,A5,Bt,A6,Ai,Aq⟩:=hk;refine ⟨trivial,?_⟩;have A7:=hEA.thenUpd Br (fun k hk=>hgA k hk);have hlt:=ADu.lt A5
    have hge:∀ g∈b :: Ac,h.size<=g:=fun g hg=>hgA g (by
      rcases List.mem_cons.1 hg with rfl | hg
      · exact List.mem_cons_self ..
      · exact List.mem_cons_of_mem _ (Bt g hg))
    refine AM4 (Wl (ACp trivial rfl (AUa m h5) fun fv h6 hk=>?_));obtain ⟨rfl,rfl⟩:=hk;refine ⟨trivial,?_⟩;have hpush:=AEd h5 (.cells #[.int .i64 m] tI (0,0));refine ABq (ABn (ABj (Wl (ALh rfl rfl (by omega) (by omega) (ABq (ABr (ACi 81129638414606105235036701751344 (fun y:Nat × Int=>[(11,.int .i64 y.2)]) (fun k y h'=>k=M.length - y.1/\y.1<=M.length/\y.2=(M.length:Int) - 1 - (y.1:Int)/\Aeb h5 h' b Ac r1 M.length (M.length + M.length) m (AHn m M.length F1 y.1) (.slice none 0 0) [] Ac/\ ∀ c,M.length - y.1<=c->c < M.length-> ∃ z,AKs m (F1 c c) z) (by kernel_rfl) M.length (0,(M.length:Int) - 1) ?_ ⟨rfl,trivial⟩ ?_)))))))
    ·refine ⟨rfl,by omega,by simp,⟨hpush.upd,ADu.ext A5 hpush,fun g hg=>hg,ATi _ _ _,?_,by simp⟩,fun c h1 h2=>absurd h1 (by simp;omega)⟩;simp [AEy]
    rintro k ⟨j,xv⟩ sy h6 ⟨rfl,hj,hxv,HIB,hall⟩;dsimp only at hj hxv HIB hall ⊢;refine ABn (ABj (Wl (AT3 rfl rfl (fun Bv=>?_) (fun Bv=>?_))))
    ·refine ABp (ACc rfl (ABs (q_t (ABn (ABr (ABn ?_))))));obtain ⟨c,rfl⟩:∃ c:Nat,xv=(c:Int):=⟨xv.toNat,by omega⟩;obtain ⟨G,hG⟩:∃ G,AHn m M.length F1 j=G:=⟨_,rfl⟩;rw [hG] at HIB;have HPG:=HIB.2.1;have hbdG:Bd M.length (M.length + M.length) m G:=hG ▸ Aa8 (by omega) Ai j;have hx:=hbdG c c (by omega) (by omega);have hdiag:G c c=F1 c c:=by rw [<- hG];exact AYd (by omega) Ai (by omega) Aq j (by omega) c c (by omega) (by omega)
     refine ABy (Wl (Wl (AN6 AB3 rfl HPG rfl (AEh (by omega)) fun aR rR gR haR hgR hrR=>AB8 ACo rfl haR (Wl (ALw ABv rfl hrR.sl rfl (AGu (by omega)) fun aX haX=>AB8 ACr rfl haX (Wl (ACp trivial rfl (AZj (x:=G c c) (m:=m) hx.1 hx.2 hm.1 hm.2 _) fun rv h7 hk=>?_)))))));obtain ⟨rfl,inv,ok,rfl,Bw,him,hok,hno⟩:=hk;refine ⟨trivial,?_⟩;refine Wl (AC6 rfl rfl (AC6 rfl rfl (ACe (ABq (ABn (ABj (Wl (AF8 rfl (ABp (⟨_,rfl,fun Au=>?_,fun Au=>?_⟩))))))))))
     ·refine ABj (ACe (ABq (ABt (AB1 (ADl (AB1 (AB1 (ADl (AB1 (⟨_,ADa,?_⟩))))))))));have Aj:ok=false:=by cases ok <;> simp at Au ⊢
      exact ⟨⟨A7.thenUpd HIB.1 (fun k hk=>hge k hk),_,_,rfl,.inr (.inr ⟨Ab,hmB,F1,s,hs,A6,Ai,Aq,.inl ⟨rfl,Aax _,c,by omega,hdiag ▸ hno Aj⟩⟩)⟩,fun r e he=>(AXl he).1 ▸ AO4⟩
     ·refine ABs (q_t (ABn ?_));have Aj:ok=true:=by cases ok <;> simp at Au ⊢
      have hinv:=Ag6 (hok Aj);have HPG:=HIB.2.1;refine ABy (Wl (Wl (AN6 AB3 rfl HPG rfl (AEh (by omega)) fun aS rS gS haS hgS hrS=>AB8 ACo rfl haS (Wl (Wl (ACp trivial rfl (Am3 hrS (AX9 hbdG (by omega)) Bw him hm.1 hm.2 (by simp;omega)) fun sv h8 hk=>?_))))));obtain ⟨A8,A9⟩:=hk;refine ⟨trivial,?_⟩;rw [Ajy] at A9;have Ba:=ADu.setRow' HIB.2.1 hgS A8 (AEh (by omega)) hrS A9;rw [AHw] at Ba;have Bx:=HIB.turn hlt A8 (List.mem_cons_of_mem _ (List.mem_of_getElem? hgS)) (F2:=AL7 G c inv m) Ba HIB.2.2.1;have By:=Ac6 (a:=c) (f:=inv) (by omega:0 < m) hbdG;refine AM4 (Wl (Wl (ABp (ABr (ACi 81129599728980454027655414562816 (fun q:Nat=>[(85,.int .i64 (q:Int))]) (fun k q h'=>k=c - q/\q<=c/\Aeb h5 h' b Ac r1 M.length (M.length + M.length) m (AKt (AL7 G c inv m) c c m q) (.slice none 0 0) [] Ac) (by kernel_rfl) c 0 ?_ ⟨rfl,trivial⟩ ?_)))))
      ·exact ⟨rfl,by omega,by rw [AX7];exact Bx⟩
      rintro k q sz h9 ⟨rfl,hq,HIk⟩;have HPk:=HIk.2.1;refine ABj (AFm rfl rfl (fun Bz=>?_) (fun Bz=>?_))
      ·refine ABp (ABn (ACc rfl (ABs (q_t (ABn (ABr (ABn ?_)))))));have hbk:=Ag8 (k:=q) (top:=c) (j:=c) (by omega:0 < m) By;have hY:=hbk q c (by omega) (by omega);refine ABy (Wl (ABq (AOd (by kernel_rfl) (Wl (Wl (Wl (AN6 AB3 rfl HPk rfl (AEh (by omega)) fun aK rK gK haK hgK hrK=>AB8 ACo rfl haK (Wl (Wl (AN6 AB3 rfl HPk rfl (AEh (by omega)) fun aL rL gL haL hgL hrL=>AB8 ACo rfl haL ?_))))))))));have hgKm:gK∈b :: Ac:=List.mem_cons_of_mem _ (List.mem_of_getElem? hgK);have hneKL:gK≠gL:=fun he=>absurd (AGy (List.nodup_cons.1 (ADu.nodup HIk.2.1)).2 hgK (he ▸ hgL)) (by omega);refine Wl (Wl (AN6 AB3 rfl HPk rfl (AEh (by omega)) fun aN rN gN haN hgN hrN=>AB8 ACo rfl haN (Wl (ALw ABv rfl hrN.sl rfl (AGu (by omega)) fun aY haY=>AB8 ACr rfl haY (Aaw trivial rfl rfl (AVh (a:=⟨h5.size,0,none⟩) hrK hrL hneKL (by simp) HIk.2.2.2.2.1 (by have:=hlt _ hgKm;dsimp only;omega) (AX9 hbk (by omega)) (AX9 hbk (by omega)) hY.1 hY.2 hm.1 hm.2 (by simp;omega)) fun ev B9 hk=>?_)))));obtain ⟨Bb,Bc⟩:=hk;refine ⟨trivial,?_⟩;rw [Aea] at Bc;have Ak:=ADu.setRow' HIk.2.1 hgK Bb (AEh (by omega)) hrK Bc;rw [AHw] at Ak;simp only [Ac5,AV4] at Ak;rw [AX8 (by omega)] at Ak;have B1:=HIk.turn hlt Bb hgKm Ak HIk.2.2.1;refine ACk (q_b (q_t (ABy (AI1 rfl (by omega) (Wl (ABp ?_))))));exact ⟨c - (q + 1),q + 1,by omega,⟨rfl,by omega,B1⟩,rfl,trivial⟩
      ·refine ABp (ABn (ACf rfl (ACb (ACa (ACa (ADj (q_b (q_t (ABy (Wl (ALh rfl rfl (by omega) (by omega) (ABq ?_))))))))))));obtain rfl:q=c:=by omega
       have hS:AHn m M.length F1 (j + 1)=AKt (AL7 G q inv m) q q m q:=by
         simp only [AHn,AZ1]
         rw [hG,show M.length - 1 - j=q by omega,hinv]
       refine ⟨M.length - (j + 1),(j + 1,(q:Int) - 1),by first | omega | (dsimp only;omega),⟨rfl,by first | omega | (dsimp only;omega),by simp;omega,?_,fun c h1 h2=>?_⟩,rfl,trivial⟩
       ·dsimp only;rw [hS];exact HIk
       ·dsimp only at h1;by_cases hcq:c=q
        ·subst hcq;exact ⟨inv,hdiag ▸ hok Aj⟩
        ·exact hall c (by omega) h2
    ·refine ABp (ACf rfl (ACb (ACa (ACa (ADj (q_t (ABn (ABn ?_))))))));obtain rfl:j=M.length:=by omega
     have HPG:=HIB.2.1;refine ABy (Wl (AUg AB3 rfl HPG (Wl (ABp (ABr (ACi 5316587464586005064888445085100834816 (fun i:Nat=>[(108,.int .i64 (i:Int))]) (fun k i h'=>Ext h h'/\k=M.length - i/\i<=M.length/\ ∃ gs',ADu h' tR tI b gs' r1 M.length (AV5 M.length i (fun k=>(List.range M.length).map fun j=>AHn m M.length F1 M.length k (M.length + j)) (fun k=>(List.range (M.length + M.length)).map (AHn m M.length F1 M.length k)))/\ ∀ g∈b :: gs',h.size<=g) (by kernel_rfl) M.length 0 ?_ ⟨rfl,trivial⟩ ?_))))))
     ·exact ⟨A7.thenUpd HIB.1 (fun k hk=>hge k hk),by omega,by omega,Ac,by rw [AZ2];exact HPG,hge⟩
     rintro k i sw B2 ⟨hEW,rfl,hi,gsW,HPW,Av⟩;refine ABj (AFm rfl rfl (fun B3=>?_) (fun B3=>?_))
     ·refine ABp (ABn (ACc rfl (ABs (q_t (ABn (ABr (ABj (Wl (ABq (ABy (Wl (Wl (Wl (Wl (AN6 AB3 rfl HPW rfl (Ahd (by omega)) fun aW rW gW haW hgW hrW=>AB8 ACo rfl haW (Wl ?_))))))))))))))));obtain ⟨capW,hvW,hcW⟩:=hrW.slice;have hlW:(((List.range (M.length + M.length)).map (AHn m M.length F1 M.length i)).map (Value.int .i64)).length=M.length + M.length:=by simp
      rw [hlW] at hvW hcW;have HX:=hrW.from (k:=M.length) (cap:=capW) hlW (by omega) (by omega);rw [Ale] at HX;refine Acy ABv hvW rfl (by omega) hcW (Afn ABv AGz rfl trivial rfl rfl HX (by simp [isOne]) (by rw [List.map_map];exact Aa0 (by omega)) (by simp;omega) (by simp;omega) fun B4 B5 Be Aw=>⟨trivial,?_⟩);obtain ⟨rs,HT,hrl⟩:=ADu.top HPW;have Af:=HT.ext Aw;refine ANj AB3 rfl Af rfl (by omega) (ASe ACo rfl rfl Be.one Af (by omega) ?_);have HPY:=ADu.replace HPW hgW Aw.upd Be (.inr (Nat.le_refl _));rw [Ac9 rfl] at HPY;refine ACk (q_b (q_t (ABy (AI1 rfl (by omega) (Wl (ABp ?_))))));have hEY:=(hEW.trans Aw).thenUpd (AG5 B5 ⟨b,i,none⟩ B4) (fun k hk=>by have Ap:k=b:=hk;have:=Av b (List.mem_cons_self ..);omega)
      exact ⟨M.length - (i + 1),i + 1,by omega,⟨hEY,rfl,by omega,_,HPY,fun g hg=>by
        rcases List.mem_cons.1 hg with rfl | hg
        · exact Av _ (List.mem_cons_self ..)
        · exact AYb (fun g hg=>Av g (List.mem_cons_of_mem _ hg)) hEW.1 g hg⟩,rfl,trivial⟩
     ·refine ABp (ABn (ACf rfl (ACb (ACa (ACa (ADj (q_t (ABj (Wl (ACe (ABq (ABt (⟨_,ADa,?_⟩)))))))))))));obtain rfl:i=M.length:=by omega
      rw [Ac8 _ _ (by omega)] at HPW;refine ⟨⟨hEW,_,_,rfl,.inr (.inr ⟨Ab,hmB,F1,s,hs,A6,Ai,Aq,.inr ⟨rfl,fun c hc=>hall c (by omega) hc,?_⟩⟩)⟩,fun r e he=>(AXl he).1 ▸ (let ⟨_,ho,_⟩:=HPW;ho.cap)⟩;exact (show AZk B2 tR tI b gsW r1 (tab M.length M.length fun i j=>AHn m M.length F1 M.length i (M.length + j)) by unfold AZk;rw [AC5];exact HPW).mat
end Go.Proofs.YtiegjkmfpcgjjaaGreatDoor
namespace Go.QF
theorem AXm:∀ {n:Nat} {m:Int} {F G:Nat->Nat->Int},(∀ i j,i < n->j < n->Eqm m (F i j) (G i j))->Eqm m (det n F) (det n G):=by
 intro n m
 induction n with
 | zero=>intro _ _ _;rfl
 | succ n ih=>
   intro F G h
   refine Eqm.psum fun i hi=>?_
   exact ((Eqm.refl _ _).mul (h i 0 hi (by omega))).mul (ih (F:=AE7 i F) (G:=AE7 i G) fun a b ha hb=>h _ _ (Amm ha) (by omega))
theorem Aj1 {n c i:Nat} {q m:Int} {F:Nat->Nat->Int} (hc:c < n) (hi:i < n) (hne:c≠i):Eqm m (det n (AN7 F c i q m)) (-det n F):=by
  rw [<- ALm (F:=F) hc hi hne (-q),<- APl (F:=ADg F c fun x=>F c x + -q * F i x) hc hi hne];refine AXm fun a b ha hb=>?_;unfold AN7;rw [AK1,AK1];simp only [ACu]
  have key:Eqm m ((F c b + (m - q) * F i b) % m) (F c b + -q * F i b):=by
    refine (Eqm.mod _ _).trans ?_;unfold Eqm;rw [show F c b + (m - q) * F i b=F c b + -q * F i b + m * F i b by grind,Int.add_mul_emod_self_left]
  split
  · split <;> first | exact key | rfl
  · split
    · split <;> first | exact key | rfl
    · first | rfl | exact key
theorem Am8 {F:Nat->Nat->Int} {m s:Int}:∀ n,Eqm m (ARo F m s n) (s * AGq (fun i=>F i i) n):=by
 intro n
 induction n with
 | zero=>unfold ARo AGq Eqm;rw [Int.add_emod_right,Int.mul_one]
 | succ n ih=>
   unfold ARo AGq
   refine (Eqm.mod _ _).trans ?_
   rw [<- Int.mul_assoc]
   exact ((Eqm.mod _ _).trans ih).mul (Eqm.refl _ _)
def AZr (M:List (List Int)) (m:Int):Int:=if AH9 M && APy m then det M.length (ent M) % m else 0
end Go.QF
namespace Go.Proofs.YtiegjkmfpcgjjaaGreatDoor
open Go Go.QF
end Go.Proofs.YtiegjkmfpcgjjaaGreatDoor
namespace Go.Proofs.YtiegjkmfpcgjjaaGreatDoor
open Go Go.QF
theorem Ago {fuel:Nat} {a m:Int} (hm:0 < m) (Ae:m<=2147483647):AFs fuel a m=some (a % m):=by
 unfold AFs;rw [if_pos (by omega)];have h1:=Int.tmod_lt_of_pos a hm
 have h2: -m < Int.tmod a m:=by
   have:=Int.tmod_lt_of_pos (-a) hm
   rw [Int.neg_tmod] at this;omega
 have h3:Int.tmod a m=a % m∨Int.tmod a m=a % m - m:=by
   rcases Int.lt_or_le a 0 with h | h
   · have e1:Int.tmod a m= -((-a) % m):=by rw [show a= -(-a) by omega,Int.neg_tmod,Int.tmod_eq_emod_of_nonneg (by omega)];simp
     rcases Int.lt_or_eq_of_le (Int.emod_nonneg (-a) (by omega:m≠0)) with h4 | h4
     · right
       rw [e1]
       have:=Int.emod_add_mul_ediv (-a) m
       have h5:a % m=m - (-a) % m:=by
         have h6:=Int.emod_lt_of_pos (-a) hm
         have e:a=(m - (-a) % m) + m * (-(-a / m) - 1):=by
           have e0:m * (-(-a / m) - 1)= -(m * (-a / m)) - m:=by rw [Int.mul_sub,Int.mul_neg,Int.mul_one]
           omega
         conv=>lhs;rw [e]
         rw [Int.add_mul_emod_self_left,Int.emod_eq_of_lt (by omega) (by omega)]
       omega
     · left
       rw [e1,<- h4]
       have:m ∣ -a:=Int.dvd_of_emod_eq_zero h4.symm
       have:m ∣ a:=(Int.dvd_neg).1 this
       rw [Int.emod_eq_zero_of_dvd this];rfl
   · left;exact Int.tmod_eq_emod_of_nonneg h
 have h4:=Int.emod_nonneg a (by omega:m≠0);have h5:=Int.emod_lt_of_pos a hm;rcases h3 with h3 | h3
 ·rw [if_neg (by omega),h3]
 ·rw [if_pos (by omega),wk (by omega)];congr 1;omega
end Go.Proofs.YtiegjkmfpcgjjaaGreatDoor
namespace Go.QF
def Aed (n:Nat) (m:Int) (A F:Nat->Nat->Int):Prop:=
  (∀ i j,i < n->j < n->Eqm m (F i j) (psum (fun k=>F i (n + k) * A k j) n))/\
  ∃ S:Nat->Nat->Int,∀ i j,i < n->j < n->Eqm m (comb n (S i) F (n + j)) (dl i j)
theorem AY4 {n:Nat} {m:Int} {A F F':Nat->Nat->Int} (E:AOw n (n + n) m F F') (H:Aed n m A F):Aed n m A F':=by
 obtain ⟨h1,S,h2⟩:=H;refine ⟨fun i j hi hj=>?_,fun i=>(E.2 (S i)).choose,fun i j hi hj=>((E.2 (S i)).choose_spec (n + j) (by omega)).symm.trans (h2 i j hi hj)⟩;obtain ⟨y,e,_⟩:=E.1 (AWf (fun _=>0) i 1);have e':∀ q,q < n + n->Eqm m (F' i q) (comb n y F q):=fun q hq=>by have:=e q hq;rw [Ajp hi] at this;exact this
 refine (e' j (by omega)).trans ?_;have h3:Eqm m (comb n y F j) (psum (fun a=>y a * psum (fun k=>F a (n + k) * A k j) n) n):=Eqm.psum fun a ha=>(Eqm.refl _ _).mul (h1 a j ha hj);refine h3.trans ?_
 have h4:psum (fun a=>y a * psum (fun k=>F a (n + k) * A k j) n) n=psum (fun k=>comb n y F (n + k) * A k j) n:=by
   unfold comb
   rw [ABx (g:=fun a=>psum (fun k=>y a * F a (n + k) * A k j) n) (fun a _=>by rw [<- ADw];exact ABx fun k _=>by rw [Int.mul_assoc]),AMv]
   exact ABx fun k _=>by rw [Int.mul_comm,<- ADw];exact ABx fun a _=>by rw [Int.mul_comm]
 rw [h4];exact Eqm.psum fun k hk=>((e' (n + k) (by omega)).symm).mul (Eqm.refl _ _)
theorem Agp {r c a i:Nat} {q m:Int} {F:Nat->Nat->Int} (ha:a < r) (hi:i < r) (hne:a≠i):AOw r c m F (AN7 F a i q m):=
  (Aaa (e:=m - q) ha hi hne).trans (Age ha hi)
theorem Am9 {n:Nat} {m:Int} {A:Nat->Nat->Int}:Aed n m A (AZl n A):=by
 have h0:∀ i k,i < n->k < n->AZl n A i (n + k)=dl i k:=by
   intro i k hi hk
   unfold AZl dl
   rw [if_neg (by omega)]
   by_cases h:i=k
   · subst h;simp
   · rw [if_neg h,if_neg (by omega)]
 refine ⟨fun i j hi hj=>Eqm.of_eq ?_,dl,fun i j hi hj=>Eqm.of_eq ?_⟩
 ·rw [ABx (g:=fun k=>dl i k * A k j) (fun k hk=>by rw [h0 i k hi hk])];rw [AF0 hi (fun k hk=>by unfold dl;rw [if_neg (fun h=>hk h.symm)];simp)];simp [dl,AZl,hj]
 ·unfold comb;rw [ABx (g:=fun k=>dl i k * dl k j) (fun k hk=>by rw [h0 k j hk hj])];rw [AF0 hi (fun k hk=>by unfold dl;rw [if_neg (fun h=>hk h.symm)];simp)];simp [dl]
theorem Agq {n c:Nat} {m:Int} {F:Nat->Nat->Int} {k:Nat} (hk:k < n) (hu:∃ y,AKs m (F k k) y):AOw n c m F (AZ1 m F k):=by
 obtain ⟨y,hy⟩:=hu;have hinv:=ATh hy;unfold AZ1;refine (Adx (g:=F k k) hk ?_).trans (Agf hk k (by omega));exact hinv.2.2
theorem Aj2 {n:Nat} {m:Int} {A F:Nat->Nat->Int} (hm:2<=m) (hbd:Bd n (n + n) m F) (hz:Zc n F n) (hu:∀ c,c < n-> ∃ y,AKs m (F c c) y) (H:Aed n m A F):∀ j,j<=n->Aed n m A (AHn m n F j):=by
 intro j
 induction j with
 | zero=>intro _;exact H
 | succ j ih=>
   intro hj
   refine AY4 (Agq (by omega) ?_) (ih (by omega))
   rw [AYd (by omega) hbd (by omega) hz j (by omega) (n - 1 - j) (n - 1 - j) (by omega) (by omega)]
   exact hu _ (by omega)
theorem Ap1 {n:Nat} {m:Int} {F:Nat->Nat->Int} (hm:2<=m) (hbd:Bd n (n + n) m F) (hz:Zc n F n) (hu:∀ c,c < n-> ∃ y,AKs m (F c c) y):∀ j,j<=n-> ∀ i c,i < n->n - j<=c->c < n->AHn m n F j i c=dl i c:=by
 intro j
 induction j with
 | zero=>intro _ i c _ h1 h2;omega
 | succ j ih=>
   intro hj i c hi h1 h2
   have hb:=Aa8 (n:=n) (by omega:0 < m) hbd j
   have hcol:=AYd (m:=m) (by omega) hbd (by omega) hz j (by omega)
   obtain ⟨G,hG⟩:∃ G,AHn m n F j=G:=⟨_,rfl⟩
   obtain ⟨k,hk⟩:∃ k,n - 1 - j=k:=⟨_,rfl⟩
   have hkn:k < n:=by omega
   simp only [AHn,AZ1]
   rw [hG,hk]
   rw [hG] at ih hb hcol
   have hkk:G k k=F k k:=hcol k k hkn (by omega)
   obtain ⟨y,hy⟩:=hu k hkn
   have hinv:=ATh hy
   rw [hkk]
   have hrow:∀ q,AL7 G k (AX0 m (F k k)) m k q=G k q * AX0 m (F k k) % m:=fun q=>by unfold AL7;rw [AC8]
   have hoth:∀ a,a≠k->AL7 G k (AX0 m (F k k)) m a=G a:=fun a ha=>by unfold AL7;rw [AD8 _ _ ha]
   have hone:AL7 G k (AX0 m (F k k)) m k k=1:=by rw [hrow,hkk,Int.mul_comm,hinv.2.2,Int.emod_eq_of_lt (by omega) (by omega)]
   have hright:∀ c,k < c->c < n->AL7 G k (AX0 m (F k k)) m k c=0:=fun c h3 h4=>by
     rw [hrow,ih (by omega) k c hkn (by omega) h4];unfold dl;rw [if_neg (by omega)];simp
   by_cases hik:i=k
   · subst hik
     rw [AV4]
     by_cases hci:c=i
     · subst hci;rw [hone];simp [dl]
     · rw [hright c (by omega) h2];unfold dl;rw [if_neg (fun h=>hci h.symm)]
   · by_cases hlt:i < k
     · rw [Agg hlt hik,hoth i hik]
       by_cases hck:c=k
       · subst hck
         rw [hone,Int.mul_one,show G i c + (m - G i c)=m by omega,Int.emod_self]
         unfold dl;rw [if_neg hik]
       · rw [hright c (by omega) h2,Int.mul_zero,Int.add_zero,ih (by omega) i c hi (by omega) h2]
         unfold dl;rw [if_neg (by omega)];simp
     · have he:AKt (AL7 G k (AX0 m (F k k)) m) k k m k i c=G i c:=by
         unfold AKt;rw [if_neg (by omega),hoth i hik]
       rw [he]
       by_cases hck:c=k
       · subst hck
         rw [hcol i c hi (by omega),hz c i hkn (by omega) hi]
         unfold dl;rw [if_neg hik]
       · exact ih (by omega) i c hi (by omega) h2
theorem Ana {n:Nat} {m:Int} {A F:Nat->Nat->Int} (hm:2<=m) (hbd:Bd n (n + n) m F) (hz:Zc n F n) (hu:∀ c,c < n-> ∃ y,AKs m (F c c) y) (H:Aed n m A F):
    (∀ i j,i < n->j < n->Eqm m (psum (fun k=>AHn m n F n i (n + k) * A k j) n) (dl i j))/\(∀ i j,i < n->j < n->Eqm m (psum (fun k=>A i k * AHn m n F n k (n + j)) n) (dl i j)):=by
  obtain ⟨h1,S,h2⟩:=Aj2 hm hbd hz hu H n (Nat.le_refl _);have hid:=Ap1 hm hbd hz hu n (Nat.le_refl _);obtain ⟨G,hG⟩:∃ G,AHn m n F n=G:=⟨_,rfl⟩;rw [hG] at h1 h2 hid ⊢
  have hBA:∀ i j,i < n->j < n->Eqm m (psum (fun k=>G i (n + k) * A k j) n) (dl i j):=fun i j hi hj=>by
    have:=h1 i j hi hj;rw [hid i j hi (by omega) hj] at this;exact this.symm
  refine ⟨hBA,fun i j hi hj=>?_⟩
  have hSA:∀ i j,i < n->j < n->Eqm m (S i j) (A i j):=by
    intro i j hi hj
    have e1:S i j=psum (fun k=>S i k * dl k j) n:=by
      rw [AF0 hj (fun k hk=>by unfold dl;rw [if_neg hk];simp)];simp [dl]
    have e2:Eqm m (psum (fun k=>S i k * dl k j) n) (psum (fun k=>S i k * psum (fun l=>G k (n + l) * A l j) n) n):=Eqm.psum fun k hk=>(Eqm.refl _ _).mul (hBA k j hk hj).symm
    have e3:psum (fun k=>S i k * psum (fun l=>G k (n + l) * A l j) n) n=psum (fun l=>comb n (S i) G (n + l) * A l j) n:=by
      unfold comb;rw [ABx (g:=fun k=>psum (fun l=>S i k * G k (n + l) * A l j) n) (fun k _=>by rw [<- ADw];exact ABx fun l _=>by rw [Int.mul_assoc]),AMv];exact ABx fun l _=>by rw [Int.mul_comm,<- ADw];exact ABx fun k _=>by rw [Int.mul_comm]
    have e4:Eqm m (psum (fun l=>comb n (S i) G (n + l) * A l j) n) (psum (fun l=>dl i l * A l j) n):=Eqm.psum fun l hl=>(h2 i l hi hl).mul (Eqm.refl _ _)
    have e5:psum (fun l=>dl i l * A l j) n=A i j:=by
      rw [AF0 hi (fun k hk=>by unfold dl;rw [if_neg (fun h=>hk h.symm)];simp)];simp [dl]
    rw [e1];exact (e2.trans (Eqm.of_eq e3)).trans (e4.trans (Eqm.of_eq e5))
  refine Eqm.trans (Eqm.psum fun k hk=>(hSA i k hi hk).symm.mul (Eqm.refl _ _)) ?_;exact h2 i j hi hj
theorem Anb {n:Nat} {m:Int} {T L:Nat->Nat->Int} (hm:2<=m) (hL:∀ i c,c < i->i < n->L i c=0) (hT:∀ i j,i < n->j < n->Eqm m (psum (fun k=>T i k * L k j) n) (dl i j)):
    ∀ c,c < n->Eqm m (T c c * L c c) 1/\ ∀ i,c < i->i < n->Eqm m (T i c) 0:=by
  intro c;induction c using Nat.strongRecOn with
  | _ c ih=>
    intro hc
    have key:∀ i,c<=i->i < n->Eqm m (T i c * L c c) (dl i c):=by
      intro i h1 h2;refine Eqm.trans ?_ (hT i c h2 hc)
      have e1:Eqm m (psum (fun k=>T i k * L k c) n) (psum (fun k=>if k=c then T i c * L c c else 0) n):=Eqm.psum fun k hk=>by
        by_cases h3:k=c
        · subst h3;rw [if_pos rfl];exact Eqm.refl _ _
        · rw [if_neg h3]
          rcases Nat.lt_or_ge k c with h4 | h4
          · exact (((ih k h4 (by omega)).2 i (by omega) h2).mul (Eqm.refl _ _)).trans (Eqm.of_eq (by simp))
          · rw [hL k c (by omega) hk];exact Eqm.of_eq (by simp)
      refine Eqm.trans (Eqm.of_eq ?_) e1.symm;rw [AF0 hc (fun k hk=>if_neg hk),if_pos rfl]
    have hcc:Eqm m (T c c * L c c) 1:=by have:=key c (Nat.le_refl _) hc;simpa [dl] using this
    refine ⟨hcc,fun i h1 h2=>?_⟩;have h3:=key i (by omega) h2;unfold dl at h3;rw [if_neg (by omega)] at h3;have h4:=h3.mul (Eqm.refl m (T c c));refine Eqm.trans ?_ (h4.trans (Eqm.of_eq (by simp)));refine Eqm.trans (Eqm.of_eq (show T i c=T i c * 1 by omega)) (((Eqm.refl m (T i c)).mul hcc.symm).trans (Eqm.of_eq ?_));grind
theorem Anc {n:Nat} {m:Int} {A F V:Nat->Nat->Int} (hm:2<=m) (hz:Zc n F n) (H:Aed n m A F) (hV:∀ i j,i < n->j < n->Eqm m (psum (fun k=>V i k * A k j) n) (dl i j)):∀ c,c < n-> ∃ y,AKs m (F c c) y:=by
  obtain ⟨h1,S,h2⟩:=H
  have hT:∀ i j,i < n->j < n->Eqm m (psum (fun k=>psum (fun a=>V i a * S a k) n * F k j) n) (dl i j):=by
    intro i j hi hj;have e1:Eqm m (psum (fun k=>psum (fun a=>V i a * S a k) n * F k j) n) (psum (fun k=>psum (fun a=>V i a * S a k) n * psum (fun l=>F k (n + l) * A l j) n) n):=Eqm.psum fun k hk=>(Eqm.refl _ _).mul (h1 k j hk hj)
    have e2:psum (fun k=>psum (fun a=>V i a * S a k) n * psum (fun l=>F k (n + l) * A l j) n) n=psum (fun a=>V i a * psum (fun l=>comb n (S a) F (n + l) * A l j) n) n:=by
      have s1:∀ k,psum (fun a=>V i a * S a k) n * psum (fun l=>F k (n + l) * A l j) n=psum (fun a=>V i a * (S a k * psum (fun l=>F k (n + l) * A l j) n)) n:=fun k=>by
        rw [Int.mul_comm,<- ADw];exact ABx fun a _=>by rw [Int.mul_comm,Int.mul_assoc]
      rw [ABx (fun k _=>s1 k),AMv];refine ABx fun a _=>?_;rw [ADw];congr 1;unfold comb;rw [ABx (g:=fun k=>psum (fun l=>S a k * F k (n + l) * A l j) n) (fun k _=>by rw [<- ADw];exact ABx fun l _=>by rw [Int.mul_assoc]),AMv];exact ABx fun l _=>by rw [Int.mul_comm,<- ADw];exact ABx fun k _=>by rw [Int.mul_comm]
    have e3:Eqm m (psum (fun a=>V i a * psum (fun l=>comb n (S a) F (n + l) * A l j) n) n) (psum (fun a=>V i a * A a j) n):=Eqm.psum fun a ha=>by
      refine (Eqm.refl _ _).mul ?_;refine (Eqm.psum (g:=fun l=>dl a l * A l j) fun l hl=>(h2 a l ha hl).mul (Eqm.refl _ _)).trans (Eqm.of_eq ?_);rw [AF0 ha (fun k hk=>by unfold dl;rw [if_neg (fun h=>hk h.symm)];simp)];simp [dl]
    exact (e1.trans (Eqm.of_eq e2)).trans (e3.trans (hV i j hi hj))
  intro c hc;have:=(Anb hm (fun i c h3 h4=>hz c i (by omega) h3 h4) hT c hc).1;refine ⟨psum (fun a=>V c a * S a c) n % m,Int.emod_nonneg _ (by omega),Int.emod_lt_of_pos _ (by omega),?_⟩;rw [Int.mul_emod,Int.emod_emod,<- Int.mul_emod];exact this
def AVj (n:Nat) (F:Nat->Nat->Int) (i j:Nat):Int:=det n (ADg F i (dl j))
def AKl (n:Nat) (F:Nat->Nat->Int) (i j:Nat):Int:=AVj n F j i
def tau (j c:Nat):Nat:=if c=j then j + 1 else if c=j + 1 then j else c
theorem AY5 {n j:Nat} {F:Nat->Nat->Int} (hj:j + 1 < n):det n (fun r c=>F r (tau j c))= -det n F:=by
 rw [<- ANs (fun r c=>F r (tau j c)),<- ANs F,<- APl (F:=trF F) (a:=j) (b:=j + 1) (by omega) hj (by omega)];refine ADe fun c r hc hr=>?_;rw [AK1];show F r (tau j c)=if c=j + 1 then F r j else if c=j then F r (j + 1) else F r c;unfold tau;by_cases h1:c=j + 1
 ·subst h1;simp
 ·by_cases h2:c=j
  ·subst h2;simp
  ·simp [h1,h2]
theorem ANw {f:Nat->Int} {n a:Nat} (ha:a < n) (h:∀ i,i < n->i≠a->f i=0):psum f n=f a:=by
 rw [ABx (g:=fun i=>if i=a then f a else 0) (fun k hk=>?_),AF0 ha (fun i hi=>if_neg hi),if_pos rfl];by_cases e:k=a
 ·subst e;rw [if_pos rfl]
 ·rw [if_neg e,h k hk e]
theorem Aaj {n:Nat}:∀ {j:Nat} {F:Nat->Nat->Int} {i:Nat},i < n + 1->j < n + 1->AVj (n + 1) F i j=sg i * sg j * det n (fun a b=>F (skp i a) (skp j b)):=by
 intro j
 induction j with
 | zero=>
   intro F i hi hj
   unfold AVj
   simp only [det]
   rw [ANw hi (fun r hrn hr=>?_)]
   · rw [ACu,if_pos rfl,ASg]
     have:det n (AE7 i F)=det n (fun a b=>F (skp i a) (skp 0 b)):=ADe fun a b _ _=>by unfold AE7 skp;simp
     rw [this]
     simp [dl,sg]
   · have:det n (AE7 r (ADg F i (dl 0)))=0:=by
       rw [AR0 (fun h=>hr h.symm)]
       refine AR2 (r:=usk r i) (Amn (fun h=>hr h.symm) hrn hi) fun q _=>?_
       rw [ACu,if_pos rfl];simp [dl]
     rw [this];simp
 | succ j ih=>
   intro F i hi hj
   have h1:=ih (F:=fun r c=>F r (tau j c)) (i:=i) hi (by omega)
   have h2:AVj (n + 1) (fun r c=>F r (tau j c)) i j= -AVj (n + 1) F i (j + 1):=by
     unfold AVj
     rw [<- AY5 (F:=ADg F i (dl (j + 1))) (by omega)]
     refine ADe fun r c _ _=>?_
     rw [ACu,ACu]
     split
     · unfold dl tau
       by_cases h1:c=j
       · subst h1;simp
       · by_cases h2:c=j + 1
         · subst h2;simp
         · rw [if_neg (fun h=>h1 h.symm),if_neg h1,if_neg h2,if_neg (fun h=>h2 h.symm)]
     · rfl
   have h3:(fun a b=>F (skp i a) (tau j (skp j b)))=fun a b=>F (skp i a) (skp (j + 1) b):=by
     funext a b
     congr 1
     unfold tau skp
     by_cases h1:b < j
     · rw [if_pos h1,if_neg (by omega),if_neg (by omega),if_pos (by omega)]
     · rw [if_neg h1]
       by_cases h2:b=j
       · subst h2;rw [if_neg (by omega),if_pos rfl,if_pos (by omega)]
       · rw [if_neg (by omega),if_neg (by omega),if_neg (by omega)]
   rw [h2,h3] at h1
   rw [Ah0]
   have:AVj (n + 1) F i (j + 1)= -(sg i * sg j * det n fun a b=>F (skp i a) (skp (j + 1) b)):=by omega
   rw [this];grind
theorem Aso {n:Nat} {F:Nat->Nat->Int} {i j:Nat} (hi:i < n) (hj:j < n):AVj n (trF F) i j=AVj n F j i:=by
 obtain ⟨k,rfl⟩:∃ k,n=k + 1:=⟨n - 1,by omega⟩;rw [Aaj hi hj,Aaj hj hi,<- ANs (fun a b=>F (skp j a) (skp i b)),Int.mul_comm (sg i)];rfl
theorem Ah8 {n:Nat} {F:Nat->Nat->Int} {i j:Nat} (hi:i < n) (hj:j < n):psum (fun k=>F i k * AVj n F j k) n=if i=j then det n F else 0:=by
 have h:=AYy (F:=F) hj (F i) dl n
 have e:det n (ADg F j fun q=>psum (fun k=>F i k * dl k q) n)=det n (ADg F j (F i)):=ADe fun r c _ hc=>by
   rw [ACu,ACu]
   split
   · exact Agi (F:=F) (i:=i) hc
   · rfl
 unfold AVj;rw [<- h,e];split
 ·subst_vars
  refine ADe fun r c _ _=>?_;rw [ACu];split
  ·subst_vars;rfl
  ·rfl
 ·rename_i hij;refine AMw hi hj hij ?_;funext c;rw [ACu,if_neg hij,ACu,if_pos rfl]
theorem Ap2 {n:Nat} {F:Nat->Nat->Int} {i j:Nat} (hi:i < n) (hj:j < n):psum (fun k=>AVj n F k i * F k j) n=if i=j then det n F else 0:=by
 have h:=Ah8 (F:=trF F) hj hi;rw [ANs] at h;rw [ABx (g:=fun k=>trF F j k * AVj n (trF F) i k) (fun k hk=>by rw [Aso hi hk,Int.mul_comm];rfl),h];by_cases e:i=j
 ·rw [if_pos e,if_pos e.symm]
 ·rw [if_neg e,if_neg (fun h=>e h.symm)]
theorem Aak {n:Nat} {F:Nat->Nat->Int} {i j:Nat} (hi:i < n) (hj:j < n):psum (fun k=>F i k * AKl n F k j) n=det n F * dl i j:=by
 unfold AKl;rw [Ah8 hi hj];unfold dl;split <;> simp
theorem Aee {n:Nat} {F:Nat->Nat->Int} {i j:Nat} (hi:i < n) (hj:j < n):psum (fun k=>AKl n F i k * F k j) n=det n F * dl i j:=by
 unfold AKl;rw [Ap2 hi hj];unfold dl;split <;> simp
end Go.QF
namespace Go.Proofs.YtiegjkmfpcgjjaaGreatDoor
open Go Go.QF
theorem Aef {fuel n r c:Nat} {F:Nat->Nat->Int} {f g:Nat->Nat} (hr:r<=100) (hc:c<=100) (hf:100 < fuel) (hfn:∀ a,a < r->f a < n) (hgn:∀ a,a < c->g a < n):AFg fuel (tab n n F) (ADx r fun a=>(f a:Int)) (ADx c fun a=>(g a:Int))=some (tab r c fun a b=>F (f a) (g b)):=by
 apply ok_eq;unfold AFg;refine ABo (ACx (fun i s=>s=(ADx i fun a=>ADx c fun b=>F (f a) (g b),(i:Int))) r (Q:=(· =tab r c fun a b=>F (f a) (g b))) rfl (by omega) fun i s hi hI=>?_) fun y hy=>ABi hy;subst hI;unfold AI6;dsimp only;rw [ADb];refine AB5 (fun h=>?_) (fun h=>ABi ?_)
 ·have hi':i < r:=by omega
  refine AB6 (ACn hi') rfl (ABo (ACx (fun j s=>s=(ADx j fun b=>F (f i) (g b),(j:Int))) c (Q:=(· =ADx c fun b=>F (f i) (g b))) rfl (by omega) fun j s hj hJ=>?_) fun e he=>AEu (by rw [ADb];omega) (ABi ⟨hi',?_⟩))
  ·subst hJ;unfold AI5;dsimp only;rw [ADb,ADb];refine AB5 (fun h2=>?_) (fun h2=>ABi ?_)
   ·have hj':j < c:=by omega
    refine AB6 (ACn hj') rfl (AB6 (ADd (hfn i hi')) rfl (AB6 (ACn (hgn j hj')) rfl (AEu (by omega) (ABi ⟨hj',?_⟩))));rw [wk (by omega),<- ANp];rfl
   ·obtain rfl:j=c:=by omega
    rfl
  ·subst he;rw [wk (by omega),<- ANp];rfl
 ·obtain rfl:i=r:=by omega
  rfl
theorem Aal {fuel n:Nat} {F:Nat->Nat->Int} (hn:1<=n) (Ad:n<=16) (hf:100 < fuel):AEs fuel (tab n n F)=some ((n:Int),true):=by
 apply ok_eq;unfold AEs;refine ABo (Q:=(· =((n:Int),(n:Int),true))) ?_ fun e he=>?_
 ·unfold ADi;rw [AC5];refine ABo (Q:=fun ex=>match ex with | .inl _=>False | .inr _=>True) (AB5 (fun h=>by omega) fun h=>AB5 (fun h2=>by omega) fun h2=>ABi trivial) fun ex hex=>?_
  cases ex with
  | inl e=>exact hex.elim
  | inr u=>
    dsimp only
    refine ABo (ACx (fun i (s:Int)=>s=i) n (Q:=fun ex=>match ex with | .inl _=>False | .inr _=>True) rfl (by omega) fun i s hi hI=>?_) fun ex hex=>?_
    · subst hI
      unfold AFx
      rw [AC5]
      refine AB5 (fun h=>AB6 (ADd (by omega)) rfl ?_) fun h=>ABi trivial
      rw [ADb]
      refine AB5 (fun h2=>by omega) fun h2=>AB5 (fun h3=>by omega) fun h3=>AB6 (n:=0) (ADd (by omega)) rfl (AB5 (fun h4=>?_) fun h4=>ABi ⟨by omega,wk (by omega)⟩)
      rw [ADb] at h4;omega
    · cases ex with
      | inl e=>exact hex.elim
      | inr u=>exact AB6 (n:=0) (ADd (by omega)) rfl (ABi (by rw [ADb]))
 ·subst he;dsimp only;exact AB5 (fun h=>by cases h) fun _=>AB5 (fun h=>absurd rfl h) fun _=>ABi rfl
end Go.Proofs.YtiegjkmfpcgjjaaGreatDoor
namespace Go.QF
def AKw (n:Nat) (A:Nat->Nat->Int):Prop:= ∀ i j,i < n->j < n->A i j=A j i
def AMf (n:Nat) (A:Nat->Nat->Int):Prop:= ∀ k,k<=n->0 < det k A
theorem AM9 {k i r n:Nat} (hk:k<=n) (hi:i < n):bro k i r < n:=by unfold bro;split <;> omega
theorem Agr {n k:Nat} {A:Nat->Nat->Int} (hs:AKw n A) (hk:k<=n) {i j:Nat} (hi:i < n) (hj:j < n):Mn k A i j=Mn k A j i:=by
 unfold Mn;rw [<- ANs];refine ADe fun r c _ _=>?_;exact hs _ _ (AM9 hk hi) (AM9 hk hj)
theorem Ags {k:Nat} (A:Nat->Nat->Int) {i:Nat} (j:Nat) (hi:i < k):Mn k A i j=0:=by
 unfold Mn;refine AMw (a:=i) (b:=k) (by omega) (by omega) (by omega) ?_;funext c;unfold bro;simp [hi]
def bil (n k:Nat) (A:Nat->Nat->Int) (x y:Nat->Int):Int:=psum (fun i=>psum (fun j=>Mn k A i j * x i * y j) n) n
def lin (n k:Nat) (A:Nat->Nat->Int) (x:Nat->Int):Int:=psum (fun j=>Mn k A k j * x j) n
theorem Aj3 (f g:Nat->Int) (n:Nat):psum (fun i=>psum (fun j=>f i * g j) n) n=psum f n * psum g n:=by
 rw [ABx (g:=fun i=>psum g n * f i) (fun i _=>by rw [ADw,Int.mul_comm]),ADw,Int.mul_comm]
theorem Aus {n k:Nat} {A:Nat->Nat->Int} (hs:AKw n A) (hk:k < n) (h0:det k A≠0) (x y:Nat->Int):det (k + 1) A * bil n k A x y=lin n k A x * lin n k A y + det k A * bil n (k + 1) A x y:=by
 unfold bil;rw [<- ADw,<- ADw];have e1:lin n k A x * lin n k A y=psum (fun i=>psum (fun j=>Mn k A k i * x i * (Mn k A k j * y j)) n) n:=(Aj3 (fun i=>Mn k A k i * x i) (fun j=>Mn k A k j * y j) n).symm;rw [e1,<- ALl];refine ABx fun i hi=>?_;rw [<- ADw,<- ADw,<- ALl];refine ABx fun j hj=>?_;have h:=AXh (k:=k) (A:=A) h0 i j;rw [ALs,Agr hs (by omega) hi hk] at h;have h2:det (k + 1) A * Mn k A i j=Mn k A k i * Mn k A k j + det k A * Mn (k + 1) A i j:=by omega
 grind
theorem Ap3 (n:Nat) (A:Nat->Nat->Int) (x y:Nat->Int):bil n n A x y=0:=by
 unfold bil;rw [ABx (g:=fun _=>0) fun i hi=>?_]
 ·exact ANr n
 ·rw [ABx (g:=fun _=>0) fun j _=>by rw [Ags A j hi];simp];exact ANr n
theorem APo {n:Nat} {A:Nat->Nat->Int} (hs:AKw n A) (hp:AMf n A) (x:Nat->Int):∀ d k,k + d=n->0<=bil n k A x x:=by
 intro d
 induction d with
 | zero=>
     intro k hk;obtain rfl:k=n:=by omega
     rw [Ap3];exact Int.le_refl _
 | succ d ih=>
   intro k hk
   have h1:=ih (k + 1) (by omega)
   have h2:=hp k (by omega)
   have h3:=hp (k + 1) (by omega)
   have h4:=Aus hs (show k < n by omega) (by omega) x x
   have h5:0<=lin n k A x * lin n k A x:=by
     rcases Int.le_total 0 (lin n k A x) with h | h
     · exact Int.mul_nonneg h h
     · exact Int.mul_nonneg_of_nonpos_of_nonpos h h
   have h6:=Int.mul_nonneg (Int.le_of_lt h2) h1
   exact Int.nonneg_of_mul_nonneg_right (by omega) h3
theorem Ab5 {n k:Nat} {A:Nat->Nat->Int} (a b:Int) (x y z:Nat->Int):bil n k A (fun i=>a * x i + b * y i) z=a * bil n k A x z + b * bil n k A y z:=by
 unfold bil;rw [<- ADw,<- ADw,<- ALl];refine ABx fun i _=>?_;rw [<- ADw,<- ADw,<- ALl];exact ABx fun j _=>by grind
theorem Ab6 {n k:Nat} {A:Nat->Nat->Int} (hs:AKw n A) (hk:k<=n) (x y:Nat->Int):bil n k A x y=bil n k A y x:=by
 unfold bil;rw [AMv];refine ABx fun j hj=>ABx fun i hi=>?_;rw [Agr hs hk hi hj];grind
theorem Ane {n k:Nat} {A:Nat->Nat->Int} (hs:AKw n A) (hp:AMf n A) (hk:k<=n) (x y:Nat->Int):bil n k A x y * bil n k A x y<=bil n k A x x * bil n k A y y:=by
  obtain ⟨p,hpq⟩:∃ p,bil n k A x y=p:=⟨_,rfl⟩;obtain ⟨q,hq⟩:∃ q,bil n k A x x=q:=⟨_,rfl⟩;obtain ⟨r,hr⟩:∃ r,bil n k A y y=r:=⟨_,rfl⟩;have hyx:bil n k A y x=p:=by rw [Ab6 hs hk];exact hpq
  have key:∀ a b:Int,0<=a * (a * q + b * p) + b * (a * p + b * r):=fun a b=>by
    have h:=APo hs hp (fun i=>a * x i + b * y i) (n - k) k (by omega);rw [Ab5,Ab6 hs hk x (fun i=>a * x i + b * y i),Ab5,Ab6 hs hk y (fun i=>a * x i + b * y i),Ab5,hpq,hq,hr,hyx] at h;exact h
  rw [hpq,hq,hr];have hq0:0<=q:=hq ▸ APo hs hp x (n - k) k (by omega)
  rcases Int.lt_or_eq_of_le hq0 with h | h
  · have h1:=key p (-q);have e:p * (p * q + -q * p) + -q * (p * p + -q * r)=q * (q * r - p * p):=by grind
    rw [e] at h1;have:=Int.nonneg_of_mul_nonneg_right h1 h;omega
  · subst h;have h1:=key (-(r + 1)) p;have h2:=key 1 0;have e: -(r + 1) * (-(r + 1) * 0 + p * p) + p * (-(r + 1) * p + p * r)= -((r + 2) * (p * p)):=by grind
    rw [e] at h1;have hr0:0<=r:=hr ▸ APo hs hp y (n - k) k (by omega)
    have hpp:0<=p * p:=by
      rcases Int.le_total 0 p with h | h
      · exact Int.mul_nonneg h h
      · exact Int.mul_nonneg_of_nonpos_of_nonpos h h
    have:0<=r * (p * p):=Int.mul_nonneg hr0 hpp;have e2:(r + 2) * (p * p)=r * (p * p) + 2 * (p * p):=by grind
    rw [Int.zero_mul];omega
theorem AVk {n k:Nat} {A:Nat->Nat->Int} {i j:Nat} (hi:i < n) (hj:j < n):bil n k A (dl i) (dl j)=Mn k A i j:=by
 unfold bil;rw [ANw hi (fun a ha hne=>?_),ANw hj (fun b hb hne=>?_)]
 ·simp [dl]
 ·unfold dl;rw [if_neg (fun h:j=b=>hne h.symm)];simp
 ·rw [ABx (g:=fun _=>0) fun b _=>by unfold dl;rw [if_neg (fun h:i=a=>hne h.symm)];simp];exact ANr n
theorem Aam {n k:Nat} {A:Nat->Nat->Int} (hs:AKw n A) (hp:AMf n A) (hk:k<=n) {i j:Nat} (hi:i < n) (hj:j < n):Mn k A i j * Mn k A i j<=Mn k A i i * Mn k A j j:=by
 have:=Ane hs hp hk (dl i) (dl j);rwa [AVk hi hj,AVk hi hi,AVk hj hj] at this
theorem Aan {n k:Nat} {A:Nat->Nat->Int} (hs:AKw n A) (hp:AMf n A) (hk:k<=n) {i:Nat} (hi:i < n):0<=Mn k A i i:=by
 have:=APo hs hp (dl i) (n - k) k (by omega);rwa [AVk hi hi] at this
theorem Ab7 {n k:Nat} {A:Nat->Nat->Int} (hs:AKw n A) (hp:AMf n A) (hk:k < n) {i:Nat} (hi:i < n):det (k + 1) A * Mn k A i i=Mn k A i k * Mn k A i k + det k A * Mn (k + 1) A i i:=by
 have h:=AXh (k:=k) (A:=A) (by have:=hp k (by omega);omega) i i;rw [ALs,<- Agr hs (by omega) hi hk] at h;omega
theorem Arj {n:Nat} {A:Nat->Nat->Int} (hs:AKw n A) (hp:AMf n A) {i:Nat} (hi:i < n):∀ k,k<=n->Mn k A i i<=det k A * A i i:=by
 intro k
 induction k with
 | zero=>intro _;rw [AN4];simp [det]
 | succ k ih=>
   intro hk
   have h1:=ih (by omega)
   have h2:=Ab7 hs hp (show k < n by omega) hi
   have h3:0<=Mn k A i k * Mn k A i k:=by
     rcases Int.le_total 0 (Mn k A i k) with h | h
     · exact Int.mul_nonneg h h
     · exact Int.mul_nonneg_of_nonpos_of_nonpos h h
   have h4:=hp k (by omega)
   have h5:=hp (k + 1) (by omega)
   have h6:det (k + 1) A * Mn k A i i<=det (k + 1) A * (det k A * A i i):=Int.mul_le_mul_of_nonneg_left h1 (by omega)
   have h7:det k A * Mn (k + 1) A i i<=det k A * (det (k + 1) A * A i i):=by
     have e:det (k + 1) A * (det k A * A i i)=det k A * (det (k + 1) A * A i i):=by grind
     omega
   exact Int.le_of_mul_le_mul_left h7 h4
theorem Anf {n:Nat} {A:Nat->Nat->Int} (hs:AKw n A) (hp:AMf n A) {B:Int} (hB:1<=B) (hA:∀ i,i < n->A i i<=B):∀ k,k<=n->det k A<=B ^ k:=by
  intro k;induction k with
  | zero=>intro _;simp [det]
  | succ k ih=>
    intro hk;have h1:=ih (by omega);have h2:=Arj hs hp (show k < n by omega) k (by omega);rw [ALs] at h2;have h3:=hp k (by omega);have h4:det k A * A k k<=det k A * B:=Int.mul_le_mul_of_nonneg_left (hA k (by omega)) (by omega);have h5:det k A * B<=B ^ k * B:=Int.mul_le_mul_of_nonneg_right h1 (by omega);rw [Int.pow_succ];omega
theorem Ap4 {n:Nat} {A:Nat->Nat->Int} (hs:AKw n A) (hp:AMf n A) (x:Nat->Int) {k:Nat} (hk:k < n):x k * x k<=AKl n A k k * bil n 0 A x x:=by
  have hd:=hp n (Nat.le_refl _)
  have hB:∀ y z:Nat->Int,bil n 0 A y z=psum (fun i=>y i * psum (fun j=>A i j * z j) n) n:=fun y z=>by
    unfold bil;refine ABx fun i _=>?_;rw [<- ADw];exact ABx fun j _=>by rw [AN4];grind
  have h1:∀ y:Nat->Int,bil n 0 A y (fun j=>AKl n A j k)=det n A * y k:=fun y=>by
    rw [hB,ABx (g:=fun i=>y i * (det n A * dl i k)) (fun i hi=>by rw [Aak hi hk])];rw [ANw hk (fun i _ hne=>by unfold dl;rw [if_neg hne];simp)];simp [dl,Int.mul_comm]
  have h2:=Ane hs hp (Nat.zero_le n) x (fun j=>AKl n A j k);rw [h1 x,h1 (fun j=>AKl n A j k)] at h2;have e1:det n A * x k * (det n A * x k)=det n A * (det n A * (x k * x k)):=by grind
  have e2:bil n 0 A x x * (det n A * AKl n A k k)=det n A * (AKl n A k k * bil n 0 A x x):=by grind
  rw [e1,e2] at h2;have h3:=Int.le_of_mul_le_mul_left h2 hd
  have h4:0<=x k * x k:=by
    rcases Int.le_total 0 (x k) with h | h
    · exact Int.mul_nonneg h h
    · exact Int.mul_nonneg_of_nonpos_of_nonpos h h
  have h5:1 * (x k * x k)<=det n A * (x k * x k):=Int.mul_le_mul_of_nonneg_right (by omega) h4;omega
def AWl (A:Nat->Nat->Int) (i j:Nat) (c:Int):Nat->Nat->Int:=ADg A i fun s=>A i s + c * A j s
def Ang (A:Nat->Nat->Int) (i j:Nat) (c:Int):Nat->Nat->Int:=trF (AWl (trF A) i j c)
def AVl (A:Nat->Nat->Int) (i j:Nat) (c:Int):Nat->Nat->Int:=Ang (AWl A i j c) i j c
def swA (A:Nat->Nat->Int) (j:Nat):Nat->Nat->Int:=fun r s=>A (tau j r) (tau j s)
theorem Ani (l:Nat) (A:Nat->Nat->Int) (r s:Nat):Mn l (trF A) s r=Mn l A r s:=by
 unfold Mn;rw [<- ANs];rfl
theorem Aeg {A:Nat->Nat->Int} {i j k:Nat} {c:Int} (hij:j < i):det k (AWl A i j c)=det k A:=by
 rcases Nat.lt_or_ge i k with h | h
 ·exact ALm h (by omega) (by omega) c
 ·refine ADe fun r s hr _=>?_;unfold AWl;rw [ACu,if_neg (by omega)]
theorem Anj {A:Nat->Nat->Int} {i j k:Nat} {c:Int} (hij:j < i):det k (Ang A i j c)=det k A:=by
 unfold Ang;rw [ANs,Aeg hij,ANs]
theorem AN5 {A:Nat->Nat->Int} {i j k:Nat} {c:Int} (hij:j < i):det k (AVl A i j c)=det k A:=by
 unfold AVl;rw [Anj hij,Aeg hij]
theorem Ab8 {A:Nat->Nat->Int} {i j l r s:Nat} {c:Int} (hij:j < i) (hr:l<=r):Mn l (AWl A i j c) r s=Mn l A r s + if l<=i/\r=i then c * Mn l A j s else 0:=by
 rcases Nat.lt_or_ge i l with h | h
 ·rw [if_neg (by omega),Int.add_zero];unfold Mn;have e:=ALm (n:=l + 1) (F:=fun a b=>A (bro l r a) (bro l s b)) (a:=i) (b:=j) (by omega) (by omega) (by omega) c;rw [<- e];refine ADe fun a b ha _=>?_;rw [ACu];unfold AWl;rw [ACu];have hbi:bro l r i=i:=by unfold bro;rw [if_pos h]
  have hbj:bro l r j=j:=by unfold bro;rw [if_pos (by omega)]
  by_cases ea:a=i
  ·subst ea;rw [hbi,if_pos rfl,if_pos rfl,hbj]
  ·rw [if_neg ea,if_neg];unfold bro;split <;> omega
 ·by_cases er:r=i
  ·subst er;rw [if_pos ⟨h,rfl⟩];unfold Mn;have e:=AR1 (n:=l + 1) (F:=fun a b=>A (bro l r a) (bro l s b)) (r:=l) (fun b=>A r (bro l s b)) (fun b=>A j (bro l s b)) 1 c (by omega)
   have e1:det (l + 1) (fun a b=>AWl A r j c (bro l r a) (bro l s b))=det (l + 1) (ADg (fun a b=>A (bro l r a) (bro l s b)) l fun q=>1 * A r (bro l s q) + c * A j (bro l s q)):=by
     refine ADe fun a b ha _=>?_
     rw [ACu]
     unfold AWl
     rw [ACu]
     by_cases ea:a=l
     · subst ea
       rw [show bro a r a=r by unfold bro;rw [if_neg (by omega)],if_pos rfl,if_pos rfl,Int.one_mul]
     · rw [if_neg ea,if_neg]
       unfold bro;rw [if_pos (by omega)];omega
   have e2:det (l + 1) (ADg (fun a b=>A (bro l r a) (bro l s b)) l fun b=>A r (bro l s b))=det (l + 1) (fun a b=>A (bro l r a) (bro l s b)):=by
     refine ADe fun a b ha _=>?_
     rw [ACu]
     by_cases ea:a=l
     · subst ea;rw [if_pos rfl,show bro a r a=r by unfold bro;rw [if_neg (by omega)]]
     · rw [if_neg ea]
   have e3:det (l + 1) (ADg (fun a b=>A (bro l r a) (bro l s b)) l fun b=>A j (bro l s b))=det (l + 1) (fun a b=>A (bro l j a) (bro l s b)):=by
     refine ADe fun a b ha _=>?_
     rw [ACu]
     by_cases ea:a=l
     · subst ea;rw [if_pos rfl,show bro a j a=j by unfold bro;rw [if_neg (by omega)]]
     · rw [if_neg ea,show bro l r a=a by unfold bro;rw [if_pos (by omega)],show bro l j a=a by unfold bro;rw [if_pos (by omega)]]
   rw [e1,e,e2,e3,Int.one_mul]
  ·rw [if_neg (fun h=>er h.2),Int.add_zero];unfold Mn;refine ADe fun a b ha _=>?_;unfold AWl;rw [ACu,if_neg];unfold bro;split <;> omega
theorem Ap5 {A:Nat->Nat->Int} {i j l r s:Nat} {c:Int} (hij:j < i) (hs:l<=s):Mn l (Ang A i j c) r s=Mn l A r s + if l<=i/\s=i then c * Mn l A r j else 0:=by
 unfold Ang;rw [Ani,Ab8 hij hs,Ani,Ani]
theorem Ank {A:Nat->Nat->Int} {i j l r s:Nat} {c:Int} (hij:j < i) (hr:l<=r) (hs:l<=s):Mn l (AVl A i j c) r s=Mn l A r s + (if l<=i/\r=i then c * Mn l A j s else 0) + if l<=i/\s=i then c * (Mn l A r j + if l<=i/\r=i then c * Mn l A j j else 0) else 0:=by
  unfold AVl;rw [Ap5 hij hs,Ab8 hij hr,Ab8 hij hr]
theorem AXn (A:Nat->Nat->Int) (i j:Nat) (c:Int) (r s:Nat):AVl A i j c r s=if s=i then (if r=i then A i i + c * A j i else A r i) + c * (if r=i then A i j + c * A j j else A r j) else if r=i then A i s + c * A j s else A r s:=by
 show ADg (trF (AWl A i j c)) i (fun q=>trF (AWl A i j c) i q + c * trF (AWl A i j c) j q) s r=_;rw [ACu];unfold trF AWl;by_cases h:s=i
 ·rw [if_pos h,if_pos h,ACu,ACu]
 ·rw [if_neg h,if_neg h,ACu]
theorem Ap6 {n:Nat} {A:Nat->Nat->Int} {i j:Nat} {c:Int} (hi:i < n) (hj:j < n) (h:AKw n A):AKw n (AVl A i j c):=by
 intro r s hr hs;rw [AXn,AXn];by_cases h1:r=i
 ·by_cases h2:s=i
  ·rw [h1,h2]
  ·rw [if_neg h2,if_pos h1,if_pos h1,if_neg h2,if_neg h2,h i s hi hs,h j s hj hs]
 ·by_cases h2:s=i
  ·rw [if_pos h2,if_neg h1,if_neg h1,if_neg h1,if_pos h2,h r i hr hi,h r j hr hj]
  ·rw [if_neg h2,if_neg h1,if_neg h1,if_neg h2,h r s hr hs]
theorem Ah9 {A:Nat->Nat->Int} {j k:Nat} (hk:k≠j + 1):det k (swA A j)=det k A:=by
 rcases Nat.lt_or_ge (j + 1) k with h | h
 ·have e1:det k (swA A j)= -det k (fun r s=>A (tau j r) s):=AY5 (F:=fun r s=>A (tau j r) s) h
  have e2:det k (fun r s=>A (tau j r) s)= -det k A:=by
    rw [<- ANs (fun r s=>A (tau j r) s),<- ANs A]
    exact AY5 (F:=trF A) h
  rw [e1,e2];omega
 ·refine ADe fun r s hr hs=>?_;unfold swA tau;rw [if_neg (by omega),if_neg (by omega),if_neg (by omega),if_neg (by omega)]
theorem Aeh {A:Nat->Nat->Int} {j:Nat}:det (j + 1) (swA A j)=Mn j A (j + 1) (j + 1):=by
 unfold Mn;refine ADe fun r s hr hs=>?_
 have e:∀ r,r < j + 1->tau j r=bro j (j + 1) r:=fun r hr=>by
   unfold tau bro
   by_cases h:r < j
   · rw [if_neg (by omega),if_neg (by omega),if_pos h]
   · rw [if_pos (by omega),if_neg h]
 unfold swA;rw [e r hr,e s hs]
theorem Asq {n j:Nat} {A:Nat->Nat->Int} (hj:j + 1 < n) (h:AKw n A):AKw n (swA A j):=fun r s hr hs=>by
  have e:∀ r,r < n->tau j r < n:=fun r hr=>by unfold tau;split <;> (try split) <;> omega
  exact h _ _ (e r hr) (e s hs)
theorem sq_nonneg (x:Int):0<=x * x:=by
 rcases Int.le_total 0 x with h | h
 ·exact Int.mul_nonneg h h
 ·exact Int.mul_nonneg_of_nonpos_of_nonpos h h
theorem Aia {x y:Int} (hy:0<=y) (h:x * x<=y * y): -y<=x/\x<=y:=by
 constructor
 ·rcases Int.lt_or_le x (-y) with h1 | h1
  ·have h2:0 < (-x - y) * (-x + y):=Int.mul_pos (by omega) (by omega);have e:(-x - y) * (-x + y)=x * x - y * y:=by grind
   omega
  ·exact h1
 ·rcases Int.lt_or_le y x with h1 | h1
  ·have h2:0 < (x - y) * (x + y):=Int.mul_pos (by omega) (by omega);have e:(x - y) * (x + y)=x * x - y * y:=by grind
   omega
  ·exact h1
theorem AS8 {x y:Int} (h1: -y<=x) (h2:x<=y):x * x<=y * y:=by
 have h3:0<=(y - x) * (y + x):=Int.mul_nonneg (by omega) (by omega);have e:(y - x) * (y + x)=y * y - x * x:=by grind
 omega
def SzF (A:Nat->Nat->Int) (i j:Nat):Prop:= -(det (j + 1) A)<=2 * Mn j A i j/\2 * Mn j A i j<=det (j + 1) A
def LvF (A:Nat->Nat->Int) (j:Nat):Prop:=3 * (det (j + 1) A * det (j + 1) A)<=4 * (det j A * det (j + 2) A + Mn j A (j + 1) j * Mn j A (j + 1) j)
def Agt (A:Nat->Nat->Int) (i:Nat) (K:Int):Prop:= ∀ l,l < i-> -(K * det (l + 1) A)<=Mn l A i l/\Mn l A i l<=K * det (l + 1) A
theorem Aao {n i:Nat} {A:Nat->Nat->Int} {Dm p q:Int} (hs:AKw n A) (hp:AMf n A) (hi:i < n) (hD:∀ k,k<=n->det k A<=Dm) (p0:0<=p) (q0:0<=q) (hl:∀ l,l < i->q * (Mn l A i l * Mn l A i l)<=p * (det (l + 1) A * det (l + 1) A)):∀ d l:Nat,l + d=i->q * Mn l A i i<=(q + d * p) * (Dm * det l A):=by
  have hD0:1<=Dm:=by
    have:=hD 0 (by omega);simpa [det] using this
  have hDl:∀ l k,l<=n->k<=n->det k A<=Dm * det l A:=fun l k h1 h2=>by
    have:=hp l h1;have h3:=hD k h2;have h4:Dm * 1<=Dm * det l A:=Int.mul_le_mul_of_nonneg_left (by omega) (by omega);omega
  intro d;induction d with
  | zero=>
    intro l h;obtain rfl:l=i:=by omega
    rw [ALs];have h1:=Int.mul_le_mul_of_nonneg_left (hDl l (l + 1) (by omega) (by omega)) q0;simpa using h1
  | succ d ih=>
    intro l h;have h1:=ih (l + 1) (by omega);have h2:=Ab7 hs hp (show l < n by omega) hi;have h3:=hl l (by omega);have h4:=hp l (by omega);have h5:=hp (l + 1) (by omega);have h6:=Int.mul_le_mul_of_nonneg_left h1 (Int.le_of_lt h4)
    have h7:det (l + 1) A * (q * Mn l A i i)=q * (Mn l A i l * Mn l A i l) + det l A * (q * Mn (l + 1) A i i):=by
      have e1:det (l + 1) A * (q * Mn l A i i)=q * (det (l + 1) A * Mn l A i i):=by grind
      rw [e1,h2];grind
    have h8:=Int.mul_le_mul_of_nonneg_left (hDl l (l + 1) (by omega) (by omega)) p0;have h9:=Int.mul_le_mul_of_nonneg_left h8 (Int.le_of_lt h5);have e2:det (l + 1) A * (p * det (l + 1) A)=p * (det (l + 1) A * det (l + 1) A):=by grind
    have h10:det (l + 1) A * (q * Mn l A i i)<=det (l + 1) A * ((q + ((d + 1:Nat):Int) * p) * (Dm * det l A)):=by
      have e3:det (l + 1) A * ((q + ((d + 1:Nat):Int) * p) * (Dm * det l A))=det (l + 1) A * (p * (Dm * det l A)) + det l A * ((q + (d:Int) * p) * (Dm * det (l + 1) A)):=by
        rw [Int.natCast_add,Int.natCast_one];grind
      rw [e3];omega
    exact Int.le_of_mul_le_mul_left h10 h5
theorem Aei {n i:Nat} {A:Nat->Nat->Int} {Dm:Int} (hn:n<=8) (hs:AKw n A) (hp:AMf n A) (hi:i < n) (hD:∀ k,k<=n->det k A<=Dm) (hz:∀ l,l < i->SzF A i l):A i i<=3 * Dm:=by
 have h:=Aao hs hp hi hD (p:=1) (q:=4) (by omega) (by omega) (fun l hl=>by
   have:=AS8 (hz l hl).1 (hz l hl).2
   have e:2 * Mn l A i l * (2 * Mn l A i l)=4 * (Mn l A i l * Mn l A i l):=by grind
   omega) i 0 (by omega)
 rw [AN4] at h
 have Aa:1<=Dm:=by
   have:=hD 0 (by omega);simpa [det] using this
 have h2:(4 + (i:Int) * 1) * (Dm * det 0 A)<=12 * Dm:=by
   have:(4 + (i:Int) * 1) * Dm<=12 * Dm:=Int.mul_le_mul_of_nonneg_right (by omega) (by omega)
   simpa [det] using this
 omega
theorem Aj4 {n i:Nat} {A:Nat->Nat->Int} {Dm:Int} (hs:AKw n A) (hp:AMf n A) (hi:i < n) (hD:∀ k,k<=n->det k A<=Dm) (hA:A i i<=3 * Dm):Agt A i (2 * Dm):=by
 intro l hl
 have Ad:1<=Dm:=by
   have:=hD 0 (by omega);simpa [det] using this
 have h1:=Aam hs hp (show l<=n by omega) hi (show l < n by omega);rw [ALs] at h1;have h2:=Arj hs hp hi l (by omega);have h3:=hp l (by omega);have h4:=hp (l + 1) (by omega)
 have h5:det l A * A i i<=Dm * (3 * Dm):=by
   have a1:=Int.mul_le_mul_of_nonneg_left hA (Int.le_of_lt h3)
   have a2:=Int.mul_le_mul_of_nonneg_right (hD l (by omega)) (show (0:Int)<=3 * Dm by omega)
   omega
 have h6:Mn l A i i * det (l + 1) A<=Dm * (3 * Dm) * det (l + 1) A:=Int.mul_le_mul_of_nonneg_right (by omega) (by omega);have h7:Dm * (3 * Dm) * (det (l + 1) A * 1)<=Dm * (3 * Dm) * (det (l + 1) A * det (l + 1) A):=Int.mul_le_mul_of_nonneg_left (Int.mul_le_mul_of_nonneg_left (by omega) (by omega)) (Int.mul_nonneg (by omega) (by omega));have h8:0<=Dm * Dm * (det (l + 1) A * det (l + 1) A):=Int.mul_nonneg (sq_nonneg _) (sq_nonneg _);have h9:2 * Dm * det (l + 1) A * (2 * Dm * det (l + 1) A)=Dm * (3 * Dm) * (det (l + 1) A * det (l + 1) A) + Dm * Dm * (det (l + 1) A * det (l + 1) A):=by grind
 rw [Int.mul_one] at h7;exact Aia (Int.mul_nonneg (by omega) (by omega)) (by omega)
theorem Aej {A:Nat->Nat->Int} {i:Nat} {K K':Int} (hp:∀ l,l<=i->0 < det l A) (hK:K<=K') (h:Agt A i K):Agt A i K':=fun l hl=>by
  have h1:=h l hl
  have h2:=hp (l + 1) (by omega)
  have h3:=Int.mul_le_mul_of_nonneg_right hK (Int.le_of_lt h2)
  omega
theorem Aek {a d:Int} (hd:0 < d): -d<=2 * (a + -((2 * a + d) / (2 * d)) * d)/\2 * (a + -((2 * a + d) / (2 * d)) * d)<=d:=by
  have h1:=Int.mul_ediv_add_emod (2 * a + d) (2 * d);have h2:=Int.emod_nonneg (2 * a + d) (show 2 * d≠0 by omega);have h3:=Int.emod_lt_of_pos (2 * a + d) (show 0 < 2 * d by omega);generalize (2 * a + d) / (2 * d)=q at *
  generalize (2 * a + d) % (2 * d)=r at *
  have e:2 * (a + -q * d)=2 * a - 2 * d * q:=by grind
  omega
theorem Ap7 {a d K:Int} (hd:0 < d) (h1: -(K * d)<=a) (h2:a<=K * d): -K<= -((2 * a + d) / (2 * d))/\ -((2 * a + d) / (2 * d))<=K:=by
 have h:=Aek (a:=a) hd;generalize -((2 * a + d) / (2 * d))=c at *;constructor
 ·rcases Int.lt_or_le c (-K) with h3 | h3
  ·have h4:(c + K + 1) * d<=0:=by
     have:=Int.mul_nonneg (show 0<= -(c + K + 1) by omega) (Int.le_of_lt hd)
     have e: -(c + K + 1) * d= -((c + K + 1) * d):=by grind
     omega
   have e:(c + K + 1) * d=c * d + K * d + d:=by grind
   omega
  ·exact h3
 ·rcases Int.lt_or_le K c with h3 | h3
  ·have h4:=Int.mul_nonneg (show 0<=c - K - 1 by omega) (Int.le_of_lt hd);have e:(c - K - 1) * d=c * d - K * d - d:=by grind
   omega
  ·exact h3
theorem Aib {A:Nat->Nat->Int} {i j l:Nat} {c:Int} (hij:j < i) (hl:l < i):Mn l (AVl A i j c) i l=Mn l A i l + c * Mn l A j l:=by
 rw [Ank hij (by omega) (Nat.le_refl _),if_pos ⟨by omega,rfl⟩,if_neg (fun h:l<=i/\l=i=>by omega)];omega
theorem Aap {A:Nat->Nat->Int} {i j l r:Nat} {c:Int} (hij:j < i) (hr:r < i) (hl:l<=r):Mn l (AVl A i j c) r l=Mn l A r l:=by
 rw [Ank hij hl (Nat.le_refl _),if_neg (fun h:l<=i/\r=i=>by omega),if_neg (fun h:l<=i/\l=i=>by omega)];omega
theorem Anl {A:Nat->Nat->Int} {i j:Nat} {K c:Int} (hij:j < i) (hp:∀ l,l<=i->0 < det l A) (hK:0<=K) (h:Agt A i K) (hz:∀ l,l < j->SzF A j l) (Ab: -K<=c) (Ac:c<=K):Agt (AVl A i j c) i (2 * K):=by
 intro l hl;rw [AN5 hij,Aib hij hl];have h1:=h l hl;have h2:=hp (l + 1) (by omega)
 have hm: -(det (l + 1) A)<=Mn l A j l/\Mn l A j l<=det (l + 1) A:=by
   rcases Nat.lt_trichotomy l j with h3 | h3 | h3
   · have:=hz l h3;unfold SzF at this;omega
   · subst h3;rw [ALs];omega
   · rw [Ags A l h3];omega
 have h3: -(K * det (l + 1) A)<=c * Mn l A j l/\c * Mn l A j l<=K * det (l + 1) A:=by
   refine Aia (Int.mul_nonneg hK (Int.le_of_lt h2)) ?_
   have a1:=AS8 Ab Ac
   have a2:=AS8 hm.1 hm.2
   have a3:c * c * (Mn l A j l * Mn l A j l)<=K * K * (det (l + 1) A * det (l + 1) A):=Int.mul_le_mul a1 a2 (sq_nonneg _) (sq_nonneg _)
   have e1:c * Mn l A j l * (c * Mn l A j l)=c * c * (Mn l A j l * Mn l A j l):=by grind
   have e2:K * det (l + 1) A * (K * det (l + 1) A)=K * K * (det (l + 1) A * det (l + 1) A):=by grind
   omega
 have e:2 * K * det (l + 1) A=K * det (l + 1) A + K * det (l + 1) A:=by grind
 omega
theorem Anm {A:Nat->Nat->Int} {i j k:Nat} {c:Int} (hk:k≠i):AVl A i j c k k=A k k:=by
 rw [AXn,if_neg hk,if_neg hk]
structure Ab9 (n:Nat) (Dm:Int) (A:Nat->Nat->Int) (i t:Nat):Prop where
  sym:AKw n A
  pos:AMf n A
  dm:∀ k,k<=n->det k A<=Dm
  hi:i < n
  ht:t<=i
  rows:∀ k,k < n->k≠i->A k k<=3 * Dm
  row:t=0->A i i<=3 * Dm
  lamb:Agt A i (2 ^ t * (2 * Dm))
  pre:∀ r l,l < r->r < i->SzF A r l
  prei:∀ l,l < i->i<=l + t->SzF A i l
  lov:∀ r,r + 1 < i->LvF A r
theorem AY6 {n:Nat} {Dm:Int} {A:Nat->Nat->Int} (hn:0 < n) (hs:AKw n A) (hp:AMf n A) (hD:∀ k,k<=n->det k A<=Dm) (hr:∀ k,k < n->A k k<=3 * Dm):Ab9 n Dm A 0 0:=
  ⟨hs,hp,hD,hn,Nat.le_refl _,fun k hk _=>hr k hk,fun _=>hr 0 hn,fun l hl=>by omega,fun r l h1 h2=>by omega,fun l hl=>by omega,fun r hr=>by omega⟩
theorem Ann {n i t:Nat} {Dm:Int} {A:Nat->Nat->Int} (h:Ab9 n Dm A i t):1<=Dm:=by
 have:=h.dm 0 (by omega);simpa [det] using this
theorem ATu {n i t:Nat} {Dm:Int} {A:Nat->Nat->Int} (hn:n<=8) (h:Ab9 n Dm A i t) (hz:∀ l,l < i->SzF A i l):∀ k,k < n->A k k<=3 * Dm:=fun k hk=>by
  by_cases e:k=i
  · subst e;exact Aei hn h.sym h.pos h.hi h.dm hz
  · exact h.rows k hk e
theorem AVm (t:Nat):(0:Int) < 2 ^ t:=Int.pow_pos (by omega)
theorem AXo {s t:Nat} (h:s<=t):(2:Int) ^ s<=2 ^ t:=by
 have:=Nat.pow_le_pow_right (show 0 < 2 by omega) h;have e:∀ k:Nat,(2:Int) ^ k=((2 ^ k:Nat):Int):=fun k=>by simp
 rw [e,e];omega
theorem Aj5 {n i t i' j:Nat} {Dm:Int} {A:Nat->Nat->Int} (hn:n<=8) (h:Ab9 n Dm A i t) (hi':i' < n) (hj:j < i') (hbad: ¬ SzF A i' j)
    (hz:∀ r l,l < r->r < i'->SzF A r l) (hzi:∀ l,l < i'->j < l->SzF A i' l) (hl:∀ r,r + 1 < i'->LvF A r):
    Ab9 n Dm (AVl A i' j (-((2 * Mn j A i' j + det (j + 1) A) / (2 * det (j + 1) A)))) i' (i' - j)/\i * 16 + t < i' * 16 + (i' - j):=by
  have hD1:=Ann h
  have hlt:i < i'∨i=i'/\t < i' - j:=by
    rcases Nat.lt_trichotomy i i' with h1 | h1 | h1
    · exact .inl h1
    · refine .inr ⟨h1,?_⟩
      rcases Nat.lt_or_ge t (i' - j) with h2 | h2
      · exact h2
      · subst h1;exact absurd (h.prei j hj (by omega)) hbad
    · exact absurd (h.pre i' j hj h1) hbad
  have hrows:∀ k,k < n->k≠i'->A k k<=3 * Dm:=fun k hk hne=>by
    rcases hlt with h1 | h1
    · exact ATu hn h (fun l hl=>hz i l hl h1) k hk
    · exact h.rows k hk (by omega)
  have hK0:0<=2 ^ (i' - j - 1) * (2 * Dm):=Int.mul_nonneg (Int.le_of_lt (AVm _)) (by omega);have hp':∀ l,l<=i'->0 < det l A:=fun l hl=>h.pos l (by omega)
  have hlam:Agt A i' (2 ^ (i' - j - 1) * (2 * Dm)):=by
    rcases hlt with h1 | h1
    · refine Aej hp' ?_ (Aj4 h.sym h.pos hi' h.dm (ATu hn h (fun l hl=>hz i l hl h1) i' hi'));have:=Int.mul_le_mul_of_nonneg_right (AXo (Nat.zero_le (i' - j - 1))) (show (0:Int)<=2 * Dm by omega);simpa using this
    · obtain ⟨rfl,h1⟩:=h1;exact Aej hp' (Int.mul_le_mul_of_nonneg_right (AXo (by omega)) (by omega)) h.lamb
  have hd:=hp' (j + 1) (by omega);obtain ⟨c1,c2⟩:=Ap7 hd (hlam j hj).1 (hlam j hj).2;have hrem:=Aek (a:=Mn j A i' j) hd;generalize hc: -((2 * Mn j A i' j + det (j + 1) A) / (2 * det (j + 1) A))=c at *
  refine ⟨⟨Ap6 hi' (by omega) h.sym,fun k hk=>by rw [AN5 hj];exact h.pos k hk,fun k hk=>by rw [AN5 hj];exact h.dm k hk,hi',by omega,fun k hk hne=>by rw [Anm hne];exact hrows k hk hne,fun h0=>by omega,?_,fun r l h1 h2=>?_,fun l h1 h2=>?_,fun r hr=>?_⟩,by have:=h.ht;have:=h.hi;omega⟩
  · have:=Anl hj hp' hK0 hlam (fun l hl=>hz j l hl hj) c1 c2
    have e:2 * (2 ^ (i' - j - 1) * (2 * Dm))=2 ^ (i' - j) * (2 * Dm):=by
      rw [show i' - j=i' - j - 1 + 1 by omega,Int.pow_succ];simp only [Nat.add_sub_cancel];grind
    rwa [e] at this
  · unfold SzF;rw [AN5 hj,Aap hj h2 (by omega)];exact hz r l h1 h2
  · unfold SzF;rw [AN5 hj,Aib hj h1]
    rcases Nat.lt_or_ge j l with h3 | h3
    · rw [Ags A l h3,Int.mul_zero,Int.add_zero];exact hzi l h1 h3
    · obtain rfl:l=j:=by omega
      rw [ALs];exact hrem
  · unfold LvF;rw [AN5 hj,AN5 hj,AN5 hj,Aap hj (by omega) (by omega)];exact hl r hr
def Ael (n:Nat) (A:Nat->Nat->Int):Int:=psum (fun k=>det k A) (n + 1)
theorem Ap8 {f g:Nat->Int} {n k:Nat} (hk:k < n) (hne:∀ l,l≠k->f l=g l) (h:f k < g k):psum f n < psum g n:=by
 induction n with
 | zero=>omega
 | succ n ih=>
   simp only [psum]
   rcases Nat.lt_or_ge k n with h1 | h1
   · have:=ih h1;rw [hne n (by omega)];omega
   · obtain rfl:k=n:=by omega
     rw [ABx (g:=g) fun i hi=>hne i (by omega)];omega
theorem Aj6 {n i t j:Nat} {Dm:Int} {A:Nat->Nat->Int} (hn:n<=8) (h:Ab9 n Dm A i t) (hj:j + 1 < n) (hbad: ¬ LvF A j)
    (hz:∀ r l,l < r->r<=j + 1->SzF A r l) (hl:∀ r,r < j->LvF A r):
    Ab9 n Dm (swA A j) 0 0/\Ael n (swA A j) < Ael n A:=by
  have hij:i<=j + 1:=by
    rcases Nat.lt_or_ge (j + 1) i with h1 | h1
    · exact absurd (h.lov j h1) hbad
    · exact h1
  have hrest:=ATu hn h (fun l hl=>hz i l hl hij);have h1:=Ab7 h.sym h.pos (show j < n by omega) hj;have p0:=h.pos j (by omega);have p1:=h.pos (j + 1) (by omega);have p2:=h.pos (j + 2) (by omega);rw [show Mn (j + 1) A (j + 1) (j + 1)=det (j + 2) A from ALs _ _] at h1
  have hlt:Mn j A (j + 1) (j + 1) < det (j + 1) A:=by
    unfold LvF at hbad
    have h2:det (j + 1) A * (4 * Mn j A (j + 1) (j + 1)) < det (j + 1) A * (3 * det (j + 1) A):=by
      have e1:det (j + 1) A * (4 * Mn j A (j + 1) (j + 1))=4 * (det (j + 1) A * Mn j A (j + 1) (j + 1)):=by grind
      have e2:det (j + 1) A * (3 * det (j + 1) A)=3 * (det (j + 1) A * det (j + 1) A):=by grind
      omega
    have:=Int.lt_of_mul_lt_mul_left h2 (Int.le_of_lt p1);omega
  have hpos:0 < Mn j A (j + 1) (j + 1):=by
    have h3:=sq_nonneg (Mn j A (j + 1) j);have h4:=Int.mul_pos p0 p2;exact Int.pos_of_mul_pos_right (a:=det (j + 1) A) (by omega) p1
  have hdet:∀ k,det k (swA A j)=if k=j + 1 then Mn j A (j + 1) (j + 1) else det k A:=fun k=>by
    by_cases e:k=j + 1
    · subst e;rw [if_pos rfl,Aeh]
    · rw [if_neg e,Ah9 e]
  refine ⟨AY6 (by omega) (Asq hj h.sym) (fun k hk=>?_) (fun k hk=>?_) (fun k hk=>?_),?_⟩
  · rw [hdet];split
    · exact hpos
    · exact h.pos k hk
  · rw [hdet];split
    · have:=h.dm (j + 1) (by omega);omega
    · exact h.dm k hk
  · have e:tau j k < n:=by unfold tau;split <;> (try split) <;> omega
    exact hrest _ e
  · exact Ap8 (k:=j + 1) (by omega) (fun l hl=>by rw [hdet,if_neg hl]) (by rw [hdet,if_pos rfl];exact hlt)
end Go.QF
namespace Go.Proofs.YtiegjkmfpcgjjaaGreatDoor
open Go Go.QF
theorem Aca (k m:Nat):ADx k (fun a=>((a:Nat):Int)) ++ [((m:Nat):Int)]=ADx (k + 1) fun a=>((bro k m a:Nat):Int):=by
 rw [<- ANp,ACv (g:=fun a=>((bro k m a:Nat):Int)) fun a ha=>by unfold bro;rw [if_pos ha]];unfold bro;rw [if_neg (by omega)]
theorem Aic {fuel k m:Nat} (hk:k<=100) (hf:100 < fuel):AFu fuel (k:Int) (m:Int)=some (ADx (k + 1) fun a=>((bro k m a:Nat):Int)):=by
 apply ok_eq;unfold AFu;refine ABo (ACx (fun i s=>s=(ADx i (fun a=>((a:Nat):Int)),((i:Nat):Int))/\i<=k) k (Q:=(· =ADx k fun a=>((a:Nat):Int))) ⟨rfl,Nat.zero_le _⟩ (by omega) fun i s hi hI=>?_) fun e he=>?_
 ·obtain ⟨rfl,hik⟩:=hI;unfold AJl;dsimp only;refine AB5 (fun h=>AEu (by rw [ADb];omega) (ABi ⟨by omega,?_,by omega⟩)) (fun h=>ABi ?_)
  ·rw [wk (by omega),ANp i fun a=>((a:Nat):Int)];simp
  ·obtain rfl:i=k:=by omega
   rfl
 ·subst he;refine AEu (by rw [ADb];omega) (ABi ?_);exact Aca k m
theorem AY7 {fuel n i j:Nat} {F:Nat->Nat->Int} (hn:n<=8) (hi:i < n) (hj:j < n) (hb:∀ i j,i < n->j < n->(F i j).natAbs<=AGo) (hf:100 < fuel):AEt fuel (tab n n F) (i:Int) (j:Int)=some (Mn j F i j):=by
 apply ok_eq;unfold AEt;refine ABo (ACx (fun q s=>s=(ADx q (fun a=>((a:Nat):Int)),ADx q (fun a=>((a:Nat):Int)),((q:Nat):Int))/\q<=j) j (Q:=(· =(ADx j (fun a=>((a:Nat):Int)),ADx j fun a=>((a:Nat):Int)))) ⟨rfl,Nat.zero_le _⟩ (by omega) fun q s hq hI=>?_) fun e he=>?_
 ·obtain ⟨rfl,hqj⟩:=hI;unfold AI9;dsimp only;refine AB5 (fun h=>AEu (by rw [ADb];omega) (AEu (by rw [ADb];omega) (ABi ⟨by omega,?_,by omega⟩))) (fun h=>ABi ?_)
  ·rw [wk (by omega),ANp q fun a=>((a:Nat):Int)];simp
  ·obtain rfl:q=j:=by omega
   rfl
 ·subst he;dsimp only;refine AEu (by rw [ADb];omega) (AEu (by rw [ADb];omega) ?_);rw [Aca,Aca];refine ABo (AC9 (Aef (n:=n) (by omega) (by omega) hf (fun a ha=>AM9 (by omega) hi) (fun a ha=>AM9 (by omega) hj))) fun x hx=>?_;subst hx;refine ABo (AC9 (AVg (by omega) (fun a b ha Aa=>hb _ _ (AM9 (by omega) hi) (AM9 (by omega) hj)) (by omega))) fun y hy=>ABi hy
theorem ATv {fuel n k:Nat} {F:Nat->Nat->Int} (hk:k<=n) (hn:n<=8):ADr fuel (ADx n fun a=>det (a + 1) F) (k:Int)=some (det k F):=by
 apply ok_eq;unfold ADr;refine AB5 (fun h=>?_) (fun h=>?_)
 ·obtain rfl:k=0:=by omega
  exact ⟨1,rfl,by simp [det]⟩
 ·obtain ⟨q,rfl⟩:∃ q,k=q + 1:=⟨k - 1,by omega⟩;refine AB6 (n:=q) (ACn (by omega)) (by rw [wk (by omega)];omega) (ABi rfl)
theorem AWm {fuel n:Nat} {F:Nat->Nat->Int} (Aa:1<=n) (hn:n<=8) (hb:∀ i j,i < n->j < n->(F i j).natAbs<=AGo) (hf:100 < fuel):AEf fuel (tab n n F)=some (ADx n fun a=>det (a + 1) F,true):=by
 apply ok_eq;unfold AEf;refine ABo (AC9 (Aal Aa (by omega) hf)) fun x hx=>?_;subst hx;dsimp only;refine AB5 (fun h=>absurd h (by decide)) (fun _=>ABo (ACx (fun k s=>s=(ADx k (fun a=>det (a + 1) F),((k:Nat):Int))/\k<=n) n (Q:=(· =ADx n fun a=>det (a + 1) F)) ⟨rfl,Nat.zero_le _⟩ (by omega) fun k s hk hI=>?_) fun e he=>ABi (by rw [he]));obtain ⟨rfl,hkn⟩:=hI;unfold AIr;dsimp only;refine AB5 (fun h=>?_) (fun h=>ABi ?_)
 ·have hk':k < n:=by omega
  refine ABo (AC9 (Aic (by omega) hf)) fun r hr=>?_;subst hr;refine ABo (AC9 (Aic (by omega) hf)) fun c hc=>?_;subst hc;refine ABo (AC9 (Aef (n:=n) (by omega) (by omega) hf (fun a ha=>AM9 (by omega) hk') (fun a ha=>AM9 (by omega) hk'))) fun x hx=>?_;subst hx;refine ABo (AC9 (AVg (by omega) (fun a b ha Ab=>hb _ _ (AM9 (by omega) hk') (AM9 (by omega) hk')) (by omega))) fun y hy=>?_;subst hy;refine AEu (by rw [ADb];omega) (ABi ⟨by omega,?_,by omega⟩);rw [show (det (k + 1) fun a b=>F (bro k k a) (bro k k b))=det (k + 1) F from ALs k F,wk (by omega),ANp k fun a=>det (a + 1) F];simp
 ·obtain rfl:k=n:=by omega
  rfl
theorem Acb (a b:Int):AQ2 a b<=0↔a<=b:=by unfold AQ2;split <;> (try split) <;> omega
theorem AY8 {n j i l:Nat} {F:Nat->Nat->Int} (hn:n<=8) (hi:i < n) (hl:l < n) (hj:j < n) (hb:∀ i j,i < n->j < n->(F i j).natAbs<=AGo):(Mn j F i l).natAbs<=dBd AGo 9:=by
 have e:Mn j F i l=Mn j (fun a b=>if a < n/\b < n then F a b else 0) i l:=by
   unfold Mn
   refine ADe fun a b ha Aa=>?_
   dsimp only
   rw [if_pos ⟨AM9 (by omega) hi,AM9 (by omega) hl⟩]
 rw [e];refine Nat.le_trans (Agl (m:=AGo) (fun a b=>?_) i l) (APm (by decide) (by omega));split
 ·next h=>exact hb a b h.1 h.2
 ·exact Nat.zero_le _
theorem AS9 {n k:Nat} {F:Nat->Nat->Int} (hn:n<=8) (hk:k<=n) (hb:∀ i j,i < n->j < n->(F i j).natAbs<=AGo):(det k F).natAbs<=dBd AGo 9:=by
 rcases Nat.eq_zero_or_pos k with h | h
 ·subst h;simp only [det];decide
 ·obtain ⟨q,rfl⟩:∃ q,k=q + 1:=⟨k - 1,by omega⟩;rw [<- ALs q F];exact AY8 hn (by omega) (by omega) (by omega) hb
theorem Aid {fuel n i j:Nat} {F:Nat->Nat->Int} (hn:n<=8) (hi:i < n) (hj:j < n) (hb:∀ i j,i < n->j < n->(F i j).natAbs<=AGo) (hf:100 < fuel):AFv fuel (tab n n F) (ADx n fun a=>det (a + 1) F) (i:Int) (j:Int)=some (decide (2 * ((Mn j F i j).natAbs:Int)<=det (j + 1) F)):=by
 apply ok_eq;unfold AFv;refine ABo (Q:=(· =2)) ⟨2,if_pos (by omega),rfl⟩ fun two h2=>?_;subst h2;refine ABo (AC9 (AY7 hn hi hj hb hf)) fun x hx=>?_;subst hx;refine ABo (AC9 (a:=((Mn j F i j).natAbs:Int)) rfl) fun y hy=>?_;subst hy;refine ABo (AC9 (AWj Ah6 (show (2:Int).natAbs<=dBd AGo (8 + 1) by decide) (by rw [Int.natAbs_natCast];exact AY8 hn hi hj hj hb))) fun w hw=>?_;subst hw;rw [wk (by omega)];refine ABo (AC9 (ATv (k:=j + 1) (by omega) hn)) fun m hm=>?_;subst hm;refine ABo (AC9 (a:=AQ2 (2 * ((Mn j F i j).natAbs:Int)) (det (j + 1) F)) rfl) fun c hc=>ABi ?_;subst hc;exact decide_eq_decide.2 (Acb _ _)
theorem AXp {F:Nat->Nat->Int} {i j:Nat}:2 * ((Mn j F i j).natAbs:Int)<=det (j + 1) F↔SzF F i j:=by
 unfold SzF;omega
theorem psum_abs {f g:Nat->Int} {D:Nat}:∀ (n:Nat),(∀ a,a < n->(f a).natAbs<=D/\(g a).natAbs<=D)->(psum (fun a=>f a * g a) n).natAbs<=n * (D * D)
  | 0,_=>by simp [psum]
  | n + 1,h=>by
    have h1:=psum_abs n fun a ha=>h a (by omega)
    have h2:=Nat.mul_le_mul (h n (by omega)).1 (h n (by omega)).2
    rw [<- Int.natAbs_mul] at h2
    have e:(n + 1) * (D * D)=n * (D * D) + D * D:=by rw [Nat.add_mul,Nat.one_mul]
    simp only [psum]
    omega
theorem At5 {fuel n D:Nat} {f g:Nat->Int} (hn:n<=16) (hD:16 * (D * D) < AEr) (hb:∀ a,a < n->(f a).natAbs<=D/\(g a).natAbs<=D) (hf:100 < fuel):AHz fuel (ADx n f) (ADx n g)=some (psum (fun a=>f a * g a) n):=by
 apply ok_eq;unfold AHz;refine ABo (ACx (fun k s=>s=(((k:Nat):Int),psum (fun a=>f a * g a) k)/\k<=n) n (Q:=(· =psum (fun a=>f a * g a) n)) ⟨rfl,Nat.zero_le _⟩ (by omega) fun k s hk hI=>?_) fun e he=>ABi he;obtain ⟨rfl,hkn⟩:=hI;unfold AKf;dsimp only;rw [ADb];refine AB5 (fun h=>?_) (fun h=>ABi ?_)
 ·have hk':k < n:=by omega
  have h1:=psum_abs k fun a ha=>hb a (by omega);have h2:=Nat.mul_le_mul (hb k hk').1 (hb k hk').2;have h3:k * (D * D)<=16 * (D * D):=Nat.mul_le_mul_right _ (by omega);have h4:1 * (D * D)<=16 * (D * D):=Nat.mul_le_mul_right _ (by omega);refine AB6 (ACn hk') rfl (AB6 (ACn hk') rfl (ABo (Q:=(· =f k * g k)) ⟨_,if_pos (by omega),rfl⟩ fun x hx=>?_));subst hx;refine ABo (Q:=(· =psum (fun a=>f a * g a) k + f k * g k)) ⟨_,if_pos ⟨by omega,by rw [Int.natAbs_mul];omega⟩,rfl⟩ fun y hy=>ABi ⟨by omega,?_,by omega⟩;subst hy;rw [wk (by omega)];simp [psum]
 ·obtain rfl:k=n:=by omega
  rfl
theorem AY9 {fuel n:Nat} {F:Nat->Nat->Int} (hn:1<=n) (Ad:n<=16) (hf:100 < fuel):ADi fuel (tab n n F)=some ((n:Int),(n:Int),true):=by
 apply ok_eq;unfold ADi;rw [AC5];refine ABo (Q:=fun ex=>match ex with | .inl _=>False | .inr _=>True) (AB5 (fun h=>by omega) fun h=>AB5 (fun h2=>by omega) fun h2=>ABi trivial) fun ex hex=>?_
 cases ex with
 | inl e=>exact hex.elim
 | inr u=>
   dsimp only
   refine ABo (ACx (fun i (s:Int)=>s=i) n (Q:=fun ex=>match ex with | .inl _=>False | .inr _=>True) rfl (by omega) fun i s hi hI=>?_) fun ex hex=>?_
   · subst hI
     unfold AFx
     rw [AC5]
     refine AB5 (fun h=>AB6 (ADd (by omega)) rfl ?_) fun h=>ABi trivial
     rw [ADb]
     refine AB5 (fun h2=>by omega) fun h2=>AB5 (fun h3=>by omega) fun h3=>AB6 (n:=0) (ADd (by omega)) rfl (AB5 (fun h4=>?_) fun h4=>ABi ⟨by omega,wk (by omega)⟩)
     rw [ADb] at h4;omega
   · cases ex with
     | inl e=>exact hex.elim
     | inr u=>exact AB6 (n:=0) (ADd (by omega)) rfl (ABi (by rw [ADb]))
theorem ANa {r c:Nat} {F G:Nat->Nat->Int} (h:∀ i j,i < r->j < c->F i j=G i j):tab r c F=tab r c G:=by
 rw [AN9,AN9];exact ACv fun i hi=>ACv fun j hj=>h i j hi hj
def trS (F:Nat->Nat->Int) (i j r c:Nat):Int:=if c < i∨c=i/\r < j then F c r else 0
theorem Aie {fuel n:Nat} {F:Nat->Nat->Int} (hn:1<=n) (Ad:n<=16) (hf:100 < fuel):AEm fuel (tab n n F)=some (tab n n (trF F),true):=by
 apply ok_eq;unfold AEm;refine ABo (AC9 (AY9 hn Ad hf)) fun x hx=>?_;subst hx;dsimp only;refine AB5 (fun h=>absurd h (by decide)) fun _=>ABo (AC9 (AXj (by omega) (by omega) (by omega))) fun O hO=>?_;subst hO;refine ABo (ACx (fun i s=>s=(((i:Nat):Int),tab n n (trS F i 0))/\i<=n) n (Q:=(· =tab n n (trF F))) ⟨?_,Nat.zero_le _⟩ (by omega) fun i s hi hI=>?_) fun e he=>ABi (by rw [he])
 ·rw [AH3 n (0:Int),AH3];refine congrArg (Prod.mk (0:Int)) ?_;rw [AN9];exact ACv fun r _=>ACv fun c _=>by unfold trS;rw [if_neg (by omega)]
 ·obtain ⟨rfl,hin⟩:=hI;unfold AHr;dsimp only;rw [AC5];refine AB5 (fun h=>?_) (fun h=>ABi ?_)
  ·have hi':i < n:=by omega
   refine AB6 (ADd hi') rfl (ABo (ACx (fun j s=>s=(((j:Nat):Int),tab n n (trS F i j))/\j<=n) n (Q:=(· =tab n n (trS F (i + 1) 0))) ⟨rfl,Nat.zero_le _⟩ (by omega) fun j s hj hJ=>?_) fun e he=>ABi ⟨by omega,by rw [wk (by omega),he];simp,by omega⟩);obtain ⟨rfl,hjn⟩:=hJ;unfold AHq;dsimp only;rw [ADb];refine AB5 (fun h2=>?_) (fun h2=>ABi ?_)
   ·have hj':j < n:=by omega
    refine AB6 (ADd hj') rfl (AB6 (ADd hi') rfl (AB6 (ACn hj') rfl (ABo (AC9 (a:=F i j) rfl) fun y hy=>AB6 (ACn hi') rfl (ABi ⟨by omega,?_,by omega⟩))));subst hy;rw [wk (by omega),Ab0];refine Prod.ext (by dsimp only;omega) (ANa fun r c hr hc=>?_);rw [ACu];unfold trS;by_cases h3:r=j
    ·rw [if_pos h3];by_cases h4:c=i
     ·rw [if_pos h4,if_pos (by omega),h3,h4]
     ·rw [if_neg h4];by_cases h5:c < i
      ·rw [if_pos (by omega),if_pos (by omega),h3]
      ·rw [if_neg (by omega),if_neg (by omega)]
    ·rw [if_neg h3];by_cases h5:c < i∨c=i/\r < j
     ·rw [if_pos h5,if_pos (by omega)]
     ·rw [if_neg h5,if_neg (by omega)]
   ·refine ANa fun r c hr hc=>?_;unfold trS;by_cases h5:c < i + 1
    ·rw [if_pos (by omega),if_pos (by omega)]
    ·rw [if_neg (by omega),if_neg (by omega)]
  ·refine ANa fun r c hr hc=>?_;unfold trS trF;rw [if_pos (by omega)]
def muS (H:Nat->Nat->Int) (i j r c:Nat):Int:=if r < i∨r=i/\c < j then H r c else 0
theorem Ano {fuel n D:Nat} {F G:Nat->Nat->Int} (hn:1<=n) (Ab:n<=16) (hD:16 * (D * D) < AEr) (hF:∀ i j,i < n->j < n->(F i j).natAbs<=D) (hG:∀ i j,i < n->j < n->(G i j).natAbs<=D) (hf:100 < fuel):AH0 fuel (tab n n F) (tab n n G)=some (tab n n (AE8 n F G),true):=by
 apply ok_eq;unfold AH0;refine ABo (AC9 (AY9 hn Ab hf)) fun x hx=>?_;subst hx;dsimp only;refine ABo (AC9 (Aie hn Ab hf)) fun x hx=>?_;subst hx;dsimp only;rw [AC5,AC5];refine ABo (Q:=fun ex=>match ex with | .inl _=>False | .inr _=>True) (AB5 (fun h=>absurd h (by decide)) fun _=>AB5 (fun h=>absurd h (by decide)) fun _=>AB5 (fun h=>absurd rfl h) fun _=>ABi trivial) fun ex hex=>?_
 cases ex with
 | inl e=>exact hex.elim
 | inr u=>
   dsimp only
   rw [AC5]
   refine ABo (AC9 (AXj (by omega) (by omega) (by omega))) fun O hO=>?_
   subst hO
   refine ABo (ACx (fun i s=>s=(((i:Nat):Int),tab n n (muS (AE8 n F G) i 0))/\i<=n) n (Q:=(· =tab n n (AE8 n F G))) ⟨?_,Nat.zero_le _⟩ (by omega) fun i s hi hI=>?_) fun e he=>ABi (by rw [he])
   · rw [AH3 n (0:Int),AH3]
     refine congrArg (Prod.mk (0:Int)) ?_
     rw [AN9]
     exact ACv fun r _=>ACv fun c _=>by unfold muS;rw [if_neg (by omega)]
   · obtain ⟨rfl,hin⟩:=hI
     unfold AKh
     dsimp only
     rw [AC5]
     refine AB5 (fun h=>?_) (fun h=>ABi ?_)
     · have hi':i < n:=by omega
       refine ABo (ACx (fun j s=>s=(((j:Nat):Int),tab n n (muS (AE8 n F G) i j))/\j<=n) n (Q:=(· =tab n n (muS (AE8 n F G) (i + 1) 0))) ⟨rfl,Nat.zero_le _⟩ (by omega) fun j s hj hJ=>?_) fun e he=>ABi ⟨by omega,by rw [wk (by omega),he];simp,by omega⟩
       obtain ⟨rfl,hjn⟩:=hJ
       unfold AKg
       dsimp only
       rw [AC5]
       refine AB5 (fun h2=>?_) (fun h2=>ABi ?_)
       · have hj':j < n:=by omega
         refine AB6 (ADd hi') rfl (AB6 (ADd hi') rfl (AB6 (ADd hj') rfl (ABo (AC9 (At5 (D:=D) Ab hD (fun a ha=>⟨hF i a hi' ha,hG a j ha hj'⟩) hf)) fun y hy=>AB6 (ACn hj') rfl (ABi ⟨by omega,?_,by omega⟩))))
         subst hy
         rw [wk (by omega),Ab0]
         refine Prod.ext (by dsimp only;omega) (ANa fun r c hr hc=>?_)
         rw [ACu]
         unfold muS
         by_cases h3:r=i
         · rw [if_pos h3]
           by_cases h4:c=j
           · rw [if_pos h4,if_pos (by omega),h3,h4];rfl
           · rw [if_neg h4]
             by_cases h5:c < j
             · rw [if_pos (by omega),if_pos (by omega),h3]
             · rw [if_neg (by omega),if_neg (by omega)]
         · rw [if_neg h3]
           by_cases h5:r < i
           · rw [if_pos (by omega),if_pos (by omega)]
           · rw [if_neg (by omega),if_neg (by omega)]
       · refine ANa fun r c hr hc=>?_
         unfold muS
         by_cases h5:r < i + 1
         · rw [if_pos (by omega),if_pos (by omega)]
         · rw [if_neg (by omega),if_neg (by omega)]
     · refine ANa fun r c hr hc=>?_
       unfold muS
       rw [if_pos (by omega)]
theorem Aif (a b:Int):AQ2 a b=0↔a=b:=by unfold AQ2;split <;> (try split) <;> omega
theorem Ark {fuel n:Nat} {F:Nat->Nat->Int} (Ae:n<=16) (hf:100 < fuel):Ok (AEn fuel (tab n n F)) fun r=>r=true↔AKw n F:=by
 unfold AEn;refine ABo (ACx (fun i s=>s=((i:Nat):Int)/\i<=n/\ ∀ a b,b < a->a < i->F a b=F b a) n (Q:=fun ex=>match ex with | .inl e=>e=false/\¬ AKw n F | .inr _=>AKw n F) ⟨rfl,Nat.zero_le _,fun a b h1 h2=>by omega⟩ (by omega) fun i s hi hI=>?_) fun ex hex=>?_
 ·obtain ⟨rfl,hin,hs⟩:=hI;unfold AHt;rw [AC5];refine AB5 (fun h=>?_) (fun h=>ABi ?_)
  ·have hi':i < n:=by omega
   refine ABo (ACx (fun j s=>s=((j:Nat):Int)/\j<=i/\ ∀ b,b < j->F i b=F b i) i (Q:=fun ex=>match ex with | .inl e=>e=false/\¬ AKw n F | .inr _=> ∀ b,b < i->F i b=F b i) ⟨rfl,Nat.zero_le _,fun b h1=>by omega⟩ (by omega) fun j s hj hJ=>?_) fun ex hex=>?_
   ·obtain ⟨rfl,hji,hb⟩:=hJ;unfold AHs;refine AB5 (fun h2=>?_) (fun h2=>ABi ?_)
    ·have hj':j < i:=by omega
     refine AB6 (ADd hi') rfl (AB6 (ACn (by omega)) rfl (AB6 (ADd (by omega)) rfl (AB6 (ACn hi') rfl (ABo (AC9 (a:=AQ2 (F i j) (F j i)) rfl) fun c hc=>?_))));subst hc;refine AB5 (fun h3=>ABi ⟨rfl,fun h4=>h3 ((Aif _ _).2 (h4 i j hi' (by omega)))⟩) (fun h3=>ABi ⟨by omega,by rw [wk (by omega)];simp,by omega,fun b Af=>?_⟩);rcases Nat.lt_or_ge b j with h4 | h4
     ·exact hb b h4
     ·obtain rfl:b=j:=by omega
      exact (Aif _ _).1 (Classical.not_not.1 h3)
    ·obtain rfl:j=i:=by omega
     exact hb
   ·cases ex with
    | inl e=>exact ABi hex
    | inr u=>exact ABi ⟨by omega,by rw [wk (by omega)];simp,by omega,fun a b h1 h2=>by
        rcases Nat.lt_or_ge a i with h4 | h4
        · exact hs a b h1 h4
        · obtain rfl:a=i:=by omega
          exact hex b h1⟩
  ·obtain rfl:i=n:=by omega
   intro a b ha hb;rcases Nat.lt_trichotomy a b with h1 | h1 | h1
   ·exact (hs b a h1 hb).symm
   ·rw [h1]
   ·exact hs a b h1 ha
 ·cases ex with
  | inl e=>obtain ⟨rfl,h⟩:=hex;exact ABi ⟨fun h1=>Bool.noConfusion h1,fun h1=>absurd h1 h⟩
  | inr u=>exact ABi ⟨fun _=>hex,fun _=>rfl⟩
theorem Ap9 {fuel n D:Nat} {F G:Nat->Nat->Int} (hn:1<=n) (Aa:n<=16) (hD:16 * (D * D) < AEr) (hF:∀ i j,i < n->j < n->(F i j).natAbs<=D) (hG:∀ i j,i < n->j < n->(G i j).natAbs<=D) (hH:∀ i j,i < n->j < n->(AE8 n (trF G) F i j).natAbs<=D) (hf:100 < fuel):AEo fuel (tab n n F) (tab n n G)=some (tab n n (AE8 n (AE8 n (trF G) F) G)):=by
 apply ok_eq;unfold AEo;refine ABo (AC9 (Aie hn Aa hf)) fun x hx=>?_;subst hx;dsimp only
 have pr:∀ {F G:Nat->Nat->Int},(∀ i j,i < n->j < n->(F i j).natAbs<=D)->(∀ i j,i < n->j < n->(G i j).natAbs<=D)->Ok (ADq fuel (tab n n F) (tab n n G)) (· =tab n n (AE8 n F G)):=fun {F G} hF hG=>by
   unfold ADq
   refine ABo (AC9 (Ano hn Aa hD hF hG hf)) fun x hx=>?_
   subst hx
   exact ABi rfl
 refine ABo (pr (fun i j hi hj=>hG j i hj hi) hF) fun x hx=>?_;subst hx;refine ABo (pr hH hG) fun y hy=>ABi hy
theorem Aig (a:Int):AHi a<=0↔a<=0:=by unfold AHi;split <;> (try split) <;> omega
theorem At6 {fuel n:Nat} {F:Nat->Nat->Int} (Ae:1<=n) (hn:n<=8) (hb:∀ i j,i < n->j < n->(F i j).natAbs<=AGo) (hf:100 < fuel):Ok (AFy fuel (tab n n F)) fun r=>r=true↔AKw n F/\AMf n F:=by
 unfold AFy;refine ABo (AC9 (AWm Ae hn hb hf)) fun x hx=>?_;subst hx;dsimp only;refine ABo (Q:=fun ex=>match ex with | .inl e=>e=false/\¬ AKw n F | .inr _=>AKw n F) (AB5 (fun h=>absurd h (by decide)) fun _=>ABo (Ark (by omega) hf) fun r hr=>?_) fun ex hex=>?_
 ·refine AB5 (fun h=>ABi ⟨rfl,fun h1=>?_⟩) (fun h=>ABi (hr.1 ?_))
  ·rw [hr.2 h1] at h;exact absurd h (by decide)
  ·cases r
   ·exact absurd rfl h
   ·rfl
 ·cases ex with
  | inl e=>obtain ⟨rfl,h⟩:=hex;exact ABi ⟨fun h1=>Bool.noConfusion h1,fun h1=>absurd h1.1 h⟩
  | inr u=>
    dsimp only at hex ⊢
    have h0:∀ k,k<=0->0 < det k F:=fun k hk=>by
      obtain rfl:k=0:=by omega
      simp [det]
    refine ABo (ACx (fun i s=>s=((i:Nat):Int)/\i<=n/\ ∀ k,k<=i->0 < det k F) n (Q:=fun ex=>match ex with | .inl e=>e=false/\¬ AMf n F | .inr _=>AMf n F) ⟨rfl,Nat.zero_le _,h0⟩ (by omega) fun i s hi hI=>?_) fun ex Ad=>?_
    · obtain ⟨rfl,hin,hp⟩:=hI
      unfold AIg
      rw [ADb]
      refine AB5 (fun h=>?_) (fun h=>ABi ?_)
      · have hi':i < n:=by omega
        refine AB6 (ACn hi') rfl (ABo (AC9 (a:=AHi (det (i + 1) F)) rfl) fun c hc=>?_)
        subst hc
        refine AB5 (fun h3=>ABi ⟨rfl,fun h4=>?_⟩) (fun h3=>ABi ⟨by omega,by rw [wk (by omega)];simp,by omega,fun k hk=>?_⟩)
        · have:=h4 (i + 1) (by omega);have:=(Aig _).1 h3;omega
        · rcases Nat.lt_or_ge k (i + 1) with h4 | h4
          · exact hp k (by omega)
          · obtain rfl:k=i + 1:=by omega
            rw [Aig] at h3;omega
      · obtain rfl:i=n:=by omega
        exact hp
    · cases ex with
      | inl e=>obtain ⟨rfl,h⟩:=Ad;exact ABi ⟨fun h1=>Bool.noConfusion h1,fun h1=>absurd h1.2 h⟩
      | inr u=>exact ABi ⟨fun _=>⟨hex,Ad⟩,fun _=>rfl⟩
theorem AUo {fuel n:Nat} {F:Nat->Nat->Int} (Ac:1<=n) (hn:n<=8) (hb:∀ i j,i < n->j < n->(F i j).natAbs<=AGo) (hf:100 < fuel):Ok (AD0 fuel (tab n n F)) fun r=>r=0↔AKw n F/\AMf n F:=by
 unfold AD0;refine ABo (AC9 (Aal Ac (by omega) hf)) fun x hx=>?_;subst hx;dsimp only;refine AB5 (fun h=>absurd h (by decide)) fun _=>AB5 (fun h=>by omega) fun _=>ABo (Ark (by omega) hf) fun r hr=>AB5 (fun h=>ABi ⟨fun h1=>by omega,fun h1=>?_⟩) fun h=>ABo (At6 Ac hn hb hf) fun q hq=>AB5 (fun h2=>ABi ⟨fun h1=>by omega,fun h1=>?_⟩) fun h2=>ABi ⟨fun _=>hq.1 ?_,fun _=>rfl⟩
 ·rw [hr.2 h1.1] at h;exact absurd h (by decide)
 ·rw [hq.2 h1] at h2;exact absurd h2 (by decide)
 ·cases q
  ·exact absurd rfl h2
  ·rfl
theorem Aih {fuel n:Nat} {F:Nat->Nat->Int} (hn:n<=8) (hb:∀ i j,i < n->j < n->(F i j).natAbs<=AGo) (hf:100 < fuel):AFw fuel (tab n n F)=some (decide (det n F<=10000)):=by
 apply ok_eq;unfold AFw;refine ABo (AC9 (AVg hn hb (by omega))) fun x hx=>?_;subst hx;refine ABo (Q:=(· =10000)) ⟨10000,if_pos (by omega),rfl⟩ fun y hy=>?_;subst hy;refine ABo (AC9 (a:=AQ2 (det n F) 10000) rfl) fun c hc=>ABi ?_;subst hc;exact decide_eq_decide.2 (Acb _ _)
def idS (i r c:Nat):Int:=if r=c/\r < i then 1 else 0
theorem Aii {fuel n:Nat} (hn:1<=n) (Ae:n<=16) (hf:100 < fuel):AE0 fuel (n:Int)=some (tab n n dl,true):=by
 apply ok_eq;unfold AE0;refine ABo (Q:=fun ex=>match ex with | .inl _=>False | .inr _=>True) (AB5 (fun h=>by omega) fun _=>AB5 (fun h=>by omega) fun _=>ABi trivial) fun ex hex=>?_
 cases ex with
 | inl e=>exact hex.elim
 | inr u=>
   dsimp only
   refine ABo (AC9 (AXj (by omega) (by omega) (by omega))) fun O hO=>?_
   have Ab:O=tab n n (idS 0):=by
     rw [hO,AH3 n (0:Int),AH3,AN9]
     exact ACv fun r _=>ACv fun c _=>by unfold idS;rw [if_neg (by omega)]
   have hlen:O.length=n:=by rw [Ab,AC5]
   refine ABo (ACx (fun i s=>s=(((i:Nat):Int),tab n n (idS i))/\i<=n) n (Q:=(· =tab n n dl)) ⟨by rw [Ab];rfl,Nat.zero_le _⟩ (by omega) fun i s hi hI=>?_) fun e he=>ABi (by rw [he])
   obtain ⟨rfl,hin⟩:=hI
   unfold AIf
   dsimp only
   rw [hlen]
   refine AB5 (fun h=>?_) (fun h=>ABi ?_)
   · have hi':i < n:=by omega
     refine AB6 (ADd hi') rfl (ABo (Q:=(· =1)) ⟨1,if_pos (by omega),rfl⟩ fun y hy=>AB6 (ACn hi') rfl (ABi ⟨by omega,?_,by omega⟩))
     subst hy
     rw [wk (by omega),Ab0]
     refine Prod.ext (by dsimp only;omega) (ANa fun r c hr hc=>?_)
     rw [ACu]
     unfold idS
     by_cases h3:r=i
     · rw [if_pos h3]
       by_cases h4:c=i
       · rw [if_pos h4,if_pos (by omega)]
       · rw [if_neg h4,if_neg (by omega),if_neg (by omega)]
     · rw [if_neg h3]
       by_cases h5:r=c/\r < i
       · rw [if_pos h5,if_pos (by omega)]
       · rw [if_neg h5,if_neg (by omega)]
   · refine ANa fun r c hr hc=>?_
     unfold idS dl
     by_cases h5:r=c
     · rw [if_pos (by omega),if_pos h5]
     · rw [if_neg (by omega),if_neg h5]
def toS (n:Nat) (F:Nat->Nat->Int) (i:Nat):List (List Int):=ADx n fun r=>if r < i then ADx n (F r) else []
def toR (n:Nat) (F:Nat->Nat->Int) (i j:Nat):List (List Int):=ADx n fun r=>if r < i then ADx n (F r) else if r=i then ADx n (fun c=>if c < j then F i c else 0) else []
theorem At8 {fuel n:Nat} {F:Nat->Nat->Int} (hn:1<=n) (Ae:n<=16) (hb:∀ i j,i < n->j < n->(F i j).natAbs < 9223372036854775808) (hf:100 < fuel):AGj fuel (tab n n F)=some (tab n n F,true):=by
 apply ok_eq;unfold AGj;refine ABo (AC9 (AY9 hn Ae hf)) fun x hx=>?_;subst hx;dsimp only;refine AB5 (fun h=>absurd h (by decide)) fun _=>AEu (by omega) (ABo (ACx (fun i s=>s=(((i:Nat):Int),toS n F i)/\i<=n) n (Q:=fun ex=>match ex with | .inl _=>False | .inr e=>e=tab n n F) ⟨?_,Nat.zero_le _⟩ (by omega) fun i s hi hI=>?_) fun ex hex=>?_)
 ·rw [Int.toNat_natCast,AH3];exact congrArg (Prod.mk (0:Int)) (ACv fun r _=>by rw [if_neg (by omega)])
 ·obtain ⟨rfl,hin⟩:=hI;unfold AI8;dsimp only;rw [List.length_replicate,Int.toNat_natCast];refine AB5 (fun h=>AEu (by omega) ?_) (fun h=>ABi ?_)
  ·have hi':i < n:=by omega
   have e0:sI (toS n F i) (i:Int) (List.replicate n (0:Int))=toR n F i 0:=by
     rw [ADz];unfold toS;rw [AE4]
     refine ACv fun r _=>?_
     by_cases h1:r=i
     · rw [if_pos h1,if_neg (by omega),if_pos h1,AH3];exact ACv fun c _=>by rw [if_neg (by omega)]
     · rw [if_neg h1]
       by_cases h2:r < i
       · rw [if_pos h2,if_pos h2]
       · rw [if_neg h2,if_neg h2,if_neg h1]
   refine AB6 (n:=i) (ACn hi') rfl ?_;rw [e0];refine AB6 (n:=i) (ACn hi') rfl ?_;rw [if_neg (by omega),if_pos rfl];refine ABo (ACx (fun j s=>s=(((j:Nat):Int),toR n F i j)/\j<=n) n (Q:=fun ex=>match ex with | .inl _=>False | .inr e=>e=toS n F (i + 1)) ⟨rfl,Nat.zero_le _⟩ (by omega) fun j s hj hJ=>?_) fun ex hex=>?_
   ·obtain ⟨rfl,hjn⟩:=hJ;unfold AI7;dsimp only;rw [ADb];refine AB5 (fun h2=>?_) (fun h2=>ABi ?_)
    ·have hj':j < n:=by omega
     refine AB6 (ADd hi') rfl (AB6 (ACn hj') rfl (ABo (Q:=(· =(F i j,true))) ⟨_,if_pos (hb i j hi' hj'),rfl⟩ fun y hy=>?_));subst hy;dsimp only;refine AB5 (fun h=>absurd h (by decide)) fun _=>AB6 (n:=i) (ACn hi') rfl ?_;rw [if_neg (by omega),if_pos rfl];refine AB6 (ACn hj') rfl (ABi ⟨by omega,?_,by omega⟩);rw [wk (by omega),ADz,ADz];refine Prod.ext (by dsimp only;omega) ?_;dsimp only;unfold toR;rw [AE4,AE4];refine ACv fun r _=>?_;by_cases h1:r=i
     ·rw [if_pos h1,if_neg (by omega),if_pos h1];refine ACv fun c _=>?_;by_cases h3:c=j
      ·rw [if_pos h3,if_pos (by omega),h3]
      ·rw [if_neg h3];by_cases h4:c < j
       ·rw [if_pos h4,if_pos (by omega)]
       ·rw [if_neg h4,if_neg (by omega)]
     ·rw [if_neg h1,if_neg h1,if_neg h1]
    ·refine ACv fun r _=>?_;by_cases h1:r < i
     ·rw [if_pos h1,if_pos (by omega)]
     ·rw [if_neg h1];by_cases h3:r=i
      ·rw [if_pos h3,if_pos (by omega),h3];exact ACv fun c hc=>by rw [if_pos (by omega)]
      ·rw [if_neg h3,if_neg (by omega)]
   ·cases ex with
    | inl e=>exact hex.elim
    | inr e=>exact ABi ⟨by omega,by rw [wk (by omega),hex];simp,by omega⟩
  ·refine ACv fun r hr=>?_;rw [if_pos (by omega)];rfl
 ·cases ex with
  | inl e=>exact hex.elim
  | inr e=>exact ABi (by rw [hex])
theorem Anp {S E:Type} {body:S->Option (S ⊕ E)} {Q:E->Prop} (I:S->Prop) (μ:S->Nat) (hs:∀ s,I s->Ok (body s) fun r=>match r with | .inl s'=>I s'/\μ s' < μ s | .inr e=>Q e):∀ {fuel:Nat} {s0:S},I s0->μ s0 < fuel->Ok (iter body fuel s0) Q:=by
  intro fuel;induction fuel with
  | zero=>intro s0 _ h;omega
  | succ f ih=>
    intro s0 h0 hf;obtain ⟨r,hr,hq⟩:=hs s0 h0;cases r with
    | inl s'=>
      obtain ⟨e,he,hQ⟩:=ih hq.1 (by have:=hq.2;omega);exact ⟨e,by simp [iter,hr,he],hQ⟩
    | inr e=>exact ⟨e,by simp [iter,hr],hq⟩
theorem Acd (a:Int):AHi a=0↔a=0:=by unfold AHi;split <;> (try split) <;> omega
theorem Aij (a:Int):AHi a < 0↔a < 0:=by unfold AHi;split <;> (try split) <;> omega
theorem Anq {fuel:Nat} {a b:Int} (ha:a.natAbs < AEr) (hb:b.natAbs < AEr) (h0:b≠0):AEc fuel a b=some (a / b):=by
 apply ok_eq;unfold AEc;refine ABo (AC9 (a:=(a / b,a % b,true)) (if_pos ⟨ha,hb,h0⟩)) fun x hx=>?_;subst hx;exact ABi rfl
theorem At9 {fuel:Nat} {a b:Int} (ha:a.natAbs < AEr) (hb:b.natAbs < AEr) (h0:b≠0):AHy fuel a b=some (a % b):=by
 apply ok_eq;unfold AHy;refine ABo (AC9 (a:=(a / b,a % b,true)) (if_pos ⟨ha,hb,h0⟩)) fun x hx=>?_;subst hx;exact ABi rfl
theorem Aua {fuel:Nat} {a b:Int} (ha:a.natAbs < AEr) (hb:b.natAbs < AEr) (h0:b≠0) (hf:AEr < fuel):Ok (AH2 fuel a b) fun g=>0 < g/\g ∣ a/\g ∣ b:=by
 unfold AH2;refine ABo (AC9 (a:=(a.natAbs:Int)) rfl) fun x hx=>ABo (AC9 (a:=(b.natAbs:Int)) rfl) fun y hy=>?_;subst hx;subst hy;refine ABo (Anp (fun s:Int × Int=>0<=s.1/\0<=s.2/\s.1.natAbs < AEr/\s.2.natAbs < AEr/\(0 < s.1∨0 < s.2)/\ ∀ d:Int,d ∣ s.1->d ∣ s.2->d ∣ a/\d ∣ b) (fun s=>s.2.natAbs) (Q:=fun g=>0 < g/\g ∣ a/\g ∣ b) (fun s hs=>?_) ⟨by omega,by omega,by omega,by omega,.inr (by omega),fun d h1 h2=>⟨Int.dvd_natAbs.1 h1,Int.dvd_natAbs.1 h2⟩⟩ (by dsimp only;omega)) fun g hg=>ABi hg;obtain ⟨u,v⟩:=s;obtain ⟨h1,h2,h3,h4,h5,h6⟩:=hs;unfold AKi;dsimp only at h1 h2 h3 h4 h5 h6 ⊢;refine ABo (AC9 (a:=AHi v) rfl) fun s hs=>?_;subst hs;refine AB5 (fun hv=>?_) fun hv=>ABi ?_
 ·have Ab:v≠0:=fun h=>hv ((Acd v).2 h);refine ABo (AC9 (At9 h3 h4 Ab)) fun r hr=>ABi ?_;subst hr;have e1:=Int.emod_nonneg u Ab;have e2:=Int.emod_lt_of_pos u (show 0 < v by omega);refine ⟨⟨h2,e1,h4,by omega,.inl (by omega),fun d d1 d2=>h6 d ?_ d1⟩,by omega⟩;have:=Int.dvd_add d2 (Int.dvd_trans d1 ⟨u / v,rfl⟩);rwa [Int.emod_add_mul_ediv] at this
 ·have Ab:v=0:=by
    rcases Decidable.em (AHi v=0) with h | h
    · exact (Acd v).1 h
    · exact absurd h hv
  subst Ab;exact ⟨by omega,h6 u (Int.dvd_refl u) ⟨0,by simp⟩⟩
def FrE (n d n' d':Int):Prop:=0 < d'/\n' * d=n * d'/\n'.natAbs<=n.natAbs/\d'.natAbs<=d.natAbs
theorem Arl {fuel:Nat} {a b:Int} (ha:a.natAbs < AEr) (hb:b.natAbs < AEr) (h0:b≠0) (hf:AEr < fuel):Ok (AGm fuel a b) fun r=>r.2=true/\FrE a b r.1.1 r.1.2:=by
 unfold AGm;refine ABo (AC9 (a:=AHi b) rfl) fun s hs=>?_;subst hs;refine AB5 (fun h=>absurd ((Acd b).1 h) h0) fun _=>ABo (Q:=fun e:Int × Int=>0 < e.2/\e.1 * b=a * e.2/\e.1.natAbs=a.natAbs/\e.2.natAbs=b.natAbs) (ABo (AC9 (a:=AHi b) rfl) fun s hs=>?_) fun e he=>?_
 ·subst hs;refine AB5 (fun h=>?_) fun h=>ABi ⟨?_,rfl,rfl,rfl⟩
  ·have:=(Aij b).1 h;refine ABo (AC9 (a:= -a) rfl) fun x hx=>ABo (AC9 (a:= -b) rfl) fun y hy=>ABi ?_;subst hx;subst hy;exact ⟨by dsimp only;omega,by dsimp only;grind,by dsimp only;omega,by dsimp only;omega⟩
  ·have: ¬ b < 0:=fun h2=>h ((Aij b).2 h2);dsimp only;omega
 ·obtain ⟨u,v⟩:=e;obtain ⟨h1,h2,h3,h4⟩:=he;dsimp only at h1 h2 h3 h4 ⊢;refine ABo (Aua (a:=u) (b:=v) (by omega) (by omega) (by omega) hf) fun g hg=>?_;obtain ⟨g1,⟨u',rfl⟩,⟨v',rfl⟩⟩:=hg;have gn:g≠0:=by omega
  have hv':0 < v':=Int.pos_of_mul_pos_right h1 g1;have e1:(g * u').natAbs=g.natAbs * u'.natAbs:=Int.natAbs_mul _ _;have e2:(g * v').natAbs=g.natAbs * v'.natAbs:=Int.natAbs_mul _ _;have g2:1<=g.natAbs:=by omega
  have m1:=Nat.mul_le_mul_right u'.natAbs g2;have m2:=Nat.mul_le_mul_right v'.natAbs g2;have m3:=Nat.mul_le_mul_left g.natAbs (show 1<=v'.natAbs by omega);refine ABo (AC9 (Anq (by omega) (by omega) gn)) fun x hx=>ABo (AC9 (Anq (by omega) (by omega) gn)) fun y hy=>ABi ⟨rfl,?_⟩;subst hx;subst hy;rw [Int.mul_ediv_cancel_left _ gn,Int.mul_ediv_cancel_left _ gn];refine ⟨hv',?_,by dsimp only;omega,by dsimp only;omega⟩;have:g * (u' * b)=g * (a * v'):=by grind
  exact Int.eq_of_mul_eq_mul_left gn this
theorem Ace {fuel:Nat} {a b:Int} (ha:a.natAbs < AEr) (hb:b.natAbs < AEr) (h0:b≠0) (hf:AEr < fuel):Ok (ADv fuel a b) fun r=>FrE a b r.1 r.2:=by
 unfold ADv;refine ABo (Arl ha hb h0 hf) fun r hr=>?_;obtain ⟨⟨x,y⟩,c⟩:=r;obtain ⟨h1,h2⟩:=hr;dsimp only at h1 h2 ⊢;subst h1;exact AB5 (fun h=>absurd h (by decide)) fun _=>ABi h2
theorem Asu {fuel:Nat} {a b:Int} (ha:a.natAbs < AEr) (hb:b.natAbs < AEr) (h0:b≠0) (hf:AEr < fuel):Ok (AFz fuel a b) fun r=>FrE a b r.1 r.2:=by
 unfold AFz;exact ABo (Ace ha hb h0 hf) fun r hr=>ABi hr
theorem Aem {N D N' D':Int} (hD:0 < D) (hD':0 < D') (h:N * D'=N' * D):N / D=N' / D':=by
 rw [<- Int.mul_ediv_mul_of_pos_left N D hD',h,Int.mul_comm D D',Int.mul_ediv_mul_of_pos_left N' D' hD]
theorem Asv {fuel:Nat} {a b:Int} (hab:4 * (a.natAbs + b.natAbs) < AEr) (h0:0 < b) (hf:AEr < fuel):Ok (AGb fuel a b) fun r=>r=(2 * a + b) / (2 * b):=by
 have Ag:(1:Int).natAbs < AEr:=by
   have:(1:Int).natAbs=1:=rfl
   omega
 have Ah:(2:Int).natAbs < AEr:=by
   have:(2:Int).natAbs=2:=rfl
   omega
 unfold AGb;refine ABo (Q:=(· =(1,2))) ?_ fun hh he=>?_
 ·unfold AJh;exact ABo (Q:=(· =1)) ⟨1,if_pos (by omega),rfl⟩ fun x hx=>ABo (Q:=(· =2)) ⟨2,if_pos (by omega),rfl⟩ fun y hy=>ABi (by rw [hx,hy])
 subst he;dsimp only;refine ABo (Q:=fun r=>0 < r.2/\r.1 * (2 * b)=(2 * a + b) * r.2/\r.1.natAbs < AEr/\r.2.natAbs < AEr) ?_ fun r hr=>?_
 ·unfold AJq;refine ABo (Ace (by omega) (by omega) (by omega) hf) fun x hx=>ABo (Ace (a:=1) (b:=2) Ag Ah (by omega) hf) fun y hy=>?_;obtain ⟨x1,x2⟩:=x;obtain ⟨y1,y2⟩:=y;obtain ⟨a1,a2,a3,a4⟩:=hx;obtain ⟨b1,b2,b3,b4⟩:=hy;dsimp only at *;obtain rfl:y2=2:=by omega
  obtain rfl:y1=1:=by omega
  refine ABo (AC9 (a:=x1 * 2) (if_pos (by have:(2:Int).natAbs=2:=rfl;rw [this];omega))) fun u hu=>ABo (AC9 (a:=1 * x2) (if_pos (by have:(1:Int).natAbs=1:=rfl;rw [this];omega))) fun v hv=>?_;subst hu;subst hv;refine ABo (AC9 (a:=x1 * 2 + 1 * x2) (if_pos ⟨by omega,by omega⟩)) fun w hw=>ABo (AC9 (a:=x2 * 2) (if_pos (by have:(2:Int).natAbs=2:=rfl;rw [this];omega))) fun z hz=>?_;subst hw;subst hz;refine ABo (Arl (by omega) (by omega) (by omega) hf) fun r hr=>ABi ?_;obtain ⟨⟨r1,r2⟩,c⟩:=r;obtain ⟨-,c1,c2,c3,c4⟩:=hr;dsimp only at *;refine ⟨c1,?_,by omega,by omega⟩;have h1:x2 * (r1 * (2 * b))=x2 * ((2 * a + b) * r2):=by grind
  exact Int.eq_of_mul_eq_mul_left (show x2≠0 by omega) h1
 ·obtain ⟨r1,r2⟩:=r;obtain ⟨h1,h2,h3,h4⟩:=hr;dsimp only at *;unfold AIv;refine ABo (Q:=fun r=>r=(2 * a + b) / (2 * b)) (ABo (Ace h3 h4 (by omega) hf) fun x hx=>?_) fun z hz=>ABi hz;obtain ⟨x1,x2⟩:=x;obtain ⟨a1,a2,a3,a4⟩:=hx;dsimp only at *;refine ABo (AC9 (Anq (by omega) (by omega) (by omega))) fun q hq=>ABi ?_;subst hq;refine Aem a1 (by omega) ?_;have h5:r2 * (x1 * (2 * b))=r2 * ((2 * a + b) * x2):=by grind
  exact Int.eq_of_mul_eq_mul_left (show r2≠0 by omega) h5
end Go.Proofs.YtiegjkmfpcgjjaaGreatDoor
namespace Go.Proofs.YtiegjkmfpcgjjaaGreatDoor
open Go Go.QF
set_option maxRecDepth 100000
theorem Aen:64 * (dBd AGo (8 + 1) * dBd AGo (8 + 1)) < AEr:=by decide
theorem Aeo {fuel n j:Nat} {F:Nat->Nat->Int} (hn:n<=8) (hj:j + 1 < n) (hb:∀ i j,i < n->j < n->(F i j).natAbs<=AGo) (hf:100 < fuel):Ok (AFh fuel (tab n n F) (ADx n fun a=>det (a + 1) F) ((j + 1:Nat):Int)) fun r=>r=true↔LvF F j:=by
 show Ok _ fun r:Bool=>r=true↔3 * (det (j + 1) F * det (j + 1) F)<=4 * (det j F * det (j + 2) F + Mn j F (j + 1) j * Mn j F (j + 1) j);unfold AFh;have w1:w64 (((j + 1:Nat):Int) - 1)=(j:Int):=by rw [wk (by omega)];omega
 have w2:w64 (((j + 1:Nat):Int) + 1)=((j + 2:Nat):Int):=by rw [wk (by omega)];omega
 rw [w1,w2];have hD:=Aen;have bl:(Mn j F (j + 1) j).natAbs<=dBd AGo (8 + 1):=AY8 hn (by omega) (by omega) (by omega) hb;have b0:(det j F).natAbs<=dBd AGo (8 + 1):=AS9 hn (by omega) hb;have b1:(det (j + 1) F).natAbs<=dBd AGo (8 + 1):=AS9 hn (by omega) hb;have b2:(det (j + 2) F).natAbs<=dBd AGo (8 + 1):=AS9 hn (by omega) hb;have p1:=Nat.mul_le_mul b0 b2;have p2:=Nat.mul_le_mul bl bl;have p3:=Nat.mul_le_mul b1 b1;have e1:=Int.natAbs_mul (det j F) (det (j + 2) F);have e2:=Int.natAbs_mul (Mn j F (j + 1) j) (Mn j F (j + 1) j);have e3:=Int.natAbs_mul (det (j + 1) F) (det (j + 1) F);refine ABo (AC9 (AY7 hn (by omega) (by omega) hb hf)) fun l hl=>?_;subst hl;refine ABo (Q:=(· =4)) ⟨4,if_pos (by omega),rfl⟩ fun x hx=>?_;subst hx;refine ABo (AC9 (ATv (by omega) hn)) fun x hx=>ABo (AC9 (ATv (by omega) hn)) fun y hy=>?_;subst hx;subst hy;refine ABo (AC9 (a:=det j F * det (j + 2) F) (if_pos (by omega))) fun x hx=>ABo (AC9 (a:=Mn j F (j + 1) j * Mn j F (j + 1) j) (if_pos (by omega))) fun y hy=>?_;subst hx;subst hy;generalize det j F * det (j + 2) F=P at *;generalize Mn j F (j + 1) j * Mn j F (j + 1) j=L at *;refine ABo (AC9 (a:=P + L) (if_pos (by omega))) fun x hx=>ABo (AC9 (a:=4 * x) (if_pos (by have:(4:Int).natAbs=4:=rfl;rw [this];omega))) fun y hy=>?_;subst hx;subst hy;refine ABo (Q:=(· =3)) ⟨3,if_pos (by omega),rfl⟩ fun x hx=>?_;subst hx;refine ABo (AC9 (ATv (by omega) hn)) fun x hx=>ABo (AC9 (ATv (by omega) hn)) fun y hy=>?_;subst hx;subst hy;refine ABo (AC9 (a:=det (j + 1) F * det (j + 1) F) (if_pos (by omega))) fun x hx=>?_;subst hx;generalize det (j + 1) F * det (j + 1) F=S at *;refine ABo (AC9 (a:=3 * S) (if_pos (by have:(3:Int).natAbs=3:=rfl;rw [this];omega))) fun x hx=>ABo (AC9 (a:=AQ2 (4 * (P + L)) x) rfl) fun c hc=>ABi ?_;subst hx;subst hc;rw [decide_eq_true_iff];unfold AQ2;split <;> (try split) <;> omega
def AQ7 (A:Nat->Nat->Int) (i j:Nat):Int:= -((2 * Mn j A i j + det (j + 1) A) / (2 * det (j + 1) A))
def AUp (A:Nat->Nat->Int) (i j:Nat):Nat->Nat->Int:=ADg dl j fun q=>if q=i then AQ7 A i j else dl j q
def APp (A:Nat->Nat->Int) (i:Nat):Prop:= ∀ r l,l < r->r < i->SzF A r l
def AQ8 (A:Nat->Nat->Int) (i:Nat):Prop:= ∀ r,r + 1 < i->LvF A r
def Anr (n:Nat) (A:Nat->Nat->Int) (r:List (List Int) × Bool):Prop:=
  (r=([],false)/\APp A n/\AQ8 A n)∨
  (∃ i j,j < i/\i < n/\¬ SzF A i j/\APp A i/\(∀ l,l < i->j < l->SzF A i l)/\AQ8 A i/\r=(tab n n (AUp A i j),true))∨
  ∃ j,j + 1 < n/\¬ LvF A j/\APp A (j + 2)/\AQ8 A (j + 1)/\r=(tab n n (AFt dl (j + 1) j),true)
theorem Asw {fuel n:Nat} {A:Nat->Nat->Int} (Ai:1<=n) (hn:n<=8) (hp:AMf n A) (hb:∀ i j,i < n->j < n->(A i j).natAbs<=AGo) (hf:AEr < fuel):Ok (AHg fuel (tab n n A)) (Anr n A):=by
 have Ac:100 < fuel:=Nat.lt_of_le_of_lt (by decide) hf;have hD:=Aen;unfold AHg;refine ABo (AC9 (AWm Ai hn hb Ac)) fun x hx=>?_;subst hx;dsimp only;rw [AC5];refine ABo (AC9 (Aii Ai (by omega) Ac)) fun x hx=>?_;subst hx;dsimp only;refine ABo (ACx (fun i s=>s=(((i:Nat):Int),tab n n dl)/\i<=n/\APp A i/\AQ8 A i) n (Q:=fun ex=>match ex with | .inl r=>Anr n A r | .inr _=>APp A n/\AQ8 A n) ⟨rfl,Nat.zero_le _,fun r l h1 h2=>by omega,fun r h=>by omega⟩ (by omega) fun i s hi hI=>?_) fun ex hex=>?_
 ·obtain ⟨rfl,hin,hsz,hlv⟩:=hI;unfold AJ0;dsimp only;rw [AC5];refine AB5 (fun h=>?_) (fun h=>ABi ?_)
  ·have hi':i < n:=by omega
   refine ABo (ACx (fun k s=>s=((i:Int) - 1 - k,tab n n dl)/\k<=i/\ ∀ l,l < i->i<=l + k->SzF A i l) i (Q:=fun ex=>match ex with | .inl r=>Anr n A r | .inr e=>e=tab n n dl/\ ∀ l,l < i->SzF A i l) ⟨by rw [wk (by omega)];simp,Nat.zero_le _,fun l h1 h2=>by omega⟩ (by omega) fun k s hk hK=>?_) fun ex hex=>?_
   ·obtain ⟨rfl,hki,hz⟩:=hK;unfold AJz;dsimp only;refine AB5 (fun h2=>?_) (fun h2=>ABi ⟨rfl,fun l hl=>hz l hl (by omega)⟩);obtain ⟨j,hj⟩:∃ j:Nat,(i:Int) - 1 - k=j:=⟨i - 1 - k,by omega⟩;rw [hj];have hji:j < i:=by omega
    refine ABo (AC9 (Aid hn hi' (by omega) hb Ac)) fun b Ag=>?_;subst Ag;refine AB5 (fun h3=>?_) (fun h3=>ABi ⟨by omega,?_,by omega,fun l h4 h5=>?_⟩)
    ·have hbad: ¬ SzF A i j:=fun h=>by rw [<- AXp] at h;simp [h] at h3
     refine AB6 (ADd (by omega)) rfl (ABo (AC9 (AY7 hn hi' (by omega) hb Ac)) fun l hl=>?_);subst hl;rw [show w64 ((j:Int) + 1)=((j + 1:Nat):Int) by rw [wk (by omega)];omega];refine ABo (AC9 (ATv (by omega) hn)) fun d hd=>?_;subst hd;have bl:(Mn j A i j).natAbs<=dBd AGo (8 + 1):=AY8 hn hi' (by omega) (by omega) hb;have b1:(det (j + 1) A).natAbs<=dBd AGo (8 + 1):=AS9 hn (by omega) hb;have hd:=hp (j + 1) (by omega);have hDD:dBd AGo (8 + 1)<=dBd AGo (8 + 1) * dBd AGo (8 + 1):=Nat.le_mul_of_pos_left _ (by omega);refine ABo (Asu (by omega) (by omega) (by omega) hf) fun q hq=>?_;obtain ⟨x,y⟩:=q;obtain ⟨q1,q2,q3,q4⟩:=hq;dsimp only at q1 q2 q3 q4 ⊢;refine ABo (Asv (by omega) q1 hf) fun m hm=>ABo (AC9 (a:= -m) rfl) fun c hc=>?_
     have Ap:c=AQ7 A i j:=by
       rw [hc,hm]
       unfold AQ7
       congr 1
       refine Aem (by omega) (by omega) ?_
       grind
     clear hm hc;refine AB6 (ACn hi') rfl (ABi (.inr (.inl ⟨i,j,hji,hi',hbad,hsz,fun l h4 h5=>hz l h4 (by omega),hlv,?_⟩)));rw [ADz,ADz,AE4,Ap,show (ADx n fun q=>if q=i then AQ7 A i j else dl j q)=(List.range n).map fun q=>if q=i then AQ7 A i j else dl j q from rfl,AHw];rfl
    ·rw [wk (by omega)];refine congrArg (fun z=>(z,tab n n dl)) ?_;omega
    ·have hgood:SzF A i j:=by rw [<- AXp];simpa using h3
     rcases Nat.lt_or_ge (l + k) i with h6 | h6
     ·obtain rfl:l=j:=by omega
      exact hgood
     ·exact hz l h4 h6
   ·cases ex with
    | inl r=>exact ABi hex
    | inr e=>
      obtain ⟨rfl,hzi⟩:=hex
      have hsz':APp A (i + 1):=fun r l h1 h2=>by
        rcases Nat.lt_or_ge r i with h3 | h3
        · exact hsz r l h1 h3
        · obtain rfl:r=i:=by omega
          exact hzi l h1
      dsimp only
      have nx:w64 ((i:Int) + 1)=((i + 1:Nat):Int):=by rw [wk (by omega)];omega
      refine AB5 (fun h4=>?_) (fun h4=>ABi ⟨by omega,by rw [nx],by omega,hsz',fun r hr=>by omega⟩)
      obtain ⟨j,rfl⟩:∃ j,i=j + 1:=⟨i - 1,by omega⟩
      refine ABo (Aeo hn hi' hb Ac) fun b Ag=>?_
      refine AB5 (fun h5=>?_) (fun h5=>ABi ⟨by omega,by rw [nx],by omega,hsz',fun r hr=>?_⟩)
      · have hbad: ¬ LvF A j:=fun h=>by rw [Ag.2 h] at h5;cases h5
        rw [show w64 (((j + 1:Nat):Int) - 1)=(j:Int) by rw [wk (by omega)];omega]
        refine AB6 (ADd (by omega)) rfl (AB6 (ADd hi') rfl (ABi (.inr (.inr ⟨j,hi',hbad,hsz',hlv,?_⟩))))
        rw [ADz,ADz,show ADx n (dl j)=(List.range n).map (dl j) from rfl,show ADx n (dl (j + 1))=(List.range n).map (dl (j + 1)) from rfl,AHw,AHw]
        rfl
      · have hgood:LvF A j:=Ag.1 (by simpa using h5)
        rcases Nat.lt_or_ge r j with h6 | h6
        · exact hlv r (by omega)
        · obtain rfl:r=j:=by omega
          exact hgood
  ·obtain rfl:i=n:=by omega
   exact ⟨hsz,hlv⟩
 ·cases ex with
  | inl r=>exact ABi hex
  | inr u=>exact ABi (.inl ⟨rfl,hex⟩)
end Go.Proofs.YtiegjkmfpcgjjaaGreatDoor
namespace Go.QF
open Go
theorem Aep (c:Int) (f:Nat->Int) (n:Nat):c * psum f n=psum (fun i=>c * f i) n:=(ADw c f n).symm
theorem Agu (c:Int) (f:Nat->Int) (n:Nat):psum f n * c=psum (fun i=>f i * c) n:=by
 rw [Int.mul_comm,Aep];exact ABx fun k _=>Int.mul_comm _ _
section
variable {n K:Nat} {p:Int} {e f:Nat->Nat} {a b D D' S:Nat->Nat->Int}
theorem AR5 {A B C:Nat->Nat->Int} (i j:Nat):AE8 n (AE8 n A B) C i j=AE8 n A (AE8 n B C) i j:=by
 unfold AE8;rw [ABx (g:=fun k=>psum (fun l=>A i l * B l k * C k j) n) fun k _=>Agu _ _ _,AMv]
 exact ABx fun l _=>by
   rw [Aep]
   exact ABx fun k _=>by grind
end
end Go.QF
namespace Go.Proofs.YtiegjkmfpcgjjaaGreatDoor
open Go Go.QF
set_option maxRecDepth 100000
theorem Ans {S E:Type} {body:S->Option (S ⊕ E)} {Q:E->Prop} (I:Nat->S->Prop) (hs:∀ k s,I k s->Ok (body s) fun r=>match r with | .inl s'=> ∃ k',k' < k/\I k' s' | .inr e=>Q e):∀ {fuel k:Nat} {s0:S},I k s0->k < fuel->Ok (iter body fuel s0) Q:=by
  intro fuel;induction fuel with
  | zero=>intro k s0 _ h;omega
  | succ f ih=>
    intro k s0 h0 hf;obtain ⟨r,hr,hq⟩:=hs k s0 h0;cases r with
    | inl s'=>
      obtain ⟨k',h1,h2⟩:=hq;obtain ⟨e,he,hQ⟩:=ih h2 (by omega);exact ⟨e,by simp [iter,hr,he],hQ⟩
    | inr e=>exact ⟨e,by simp [iter,hr],hq⟩
theorem Aeq {n i j s:Nat} {A:Nat->Nat->Int} (hj:j < i) (hi:i < n) (hs:s < n) (X:Nat->Int):psum (fun k=>X k * AUp A i j k s) n=X s + if s=i then AQ7 A i j * X j else 0:=by
 have h1:∀ k,X k * AUp A i j k s=X k * dl k s + (if k=j then (if s=i then AQ7 A i j * X j else 0) else 0):=fun k=>by
   unfold AUp
   rw [ACu]
   split
   · next h=>
     subst h
     split
     · next h2=>subst h2;unfold dl;rw [if_neg (by omega)];grind
     · simp
   · simp
 rw [ABx fun k _=>h1 k,ALl,Abx X hs,ANw (a:=j) (by omega) fun k _ hk=>if_neg hk,if_pos rfl]
theorem Aer {n i j r s:Nat} {A:Nat->Nat->Int} (hj:j < i) (hi:i < n) (hr:r < n) (hs:s < n):AE8 n (AE8 n (trF (AUp A i j)) A) (AUp A i j) r s=AVl A i j (AQ7 A i j) r s:=by
 have h2:∀ k,AE8 n (trF (AUp A i j)) A r k=A r k + if r=i then AQ7 A i j * A j k else 0:=fun k=>by
   show psum (fun l=>AUp A i j l r * A l k) n=_
   rw [ABx (g:=fun l=>A l k * AUp A i j l r) fun l _=>Int.mul_comm _ _]
   exact Aeq hj hi hr fun l=>A l k
 show psum (fun k=>AE8 n (trF (AUp A i j)) A r k * AUp A i j k s) n=_;rw [Aeq hj hi hs fun k=>AE8 n (trF (AUp A i j)) A r k];rw [h2,h2,AXn];split <;> split <;> first | (subst_vars;grind) | grind
theorem Acf (j k s:Nat):AFt dl (j + 1) j k s=dl (tau j k) s:=by
 rw [AK1];unfold tau;split
 ·next h=>subst h;rfl
 ·split <;> rfl
theorem Aik (j k:Nat):tau j (tau j k)=k:=by unfold tau;split <;> (try split) <;> (try split) <;> omega
theorem Asx {j k n:Nat} (hj:j + 1 < n) (hk:k < n):tau j k < n:=by unfold tau;split <;> (try split) <;> omega
theorem Ail {n j s:Nat} (hj:j + 1 < n) (hs:s < n) (X:Nat->Int):psum (fun k=>X k * AFt dl (j + 1) j k s) n=X (tau j s):=by
 rw [ANw (a:=tau j s) (Asx hj hs) fun k hk hne=>?_]
 ·rw [Acf,Aik];unfold dl;rw [if_pos rfl];simp
 ·rw [Acf];unfold dl;rw [if_neg (fun h=>hne (by rw [<- h,Aik]))];simp
theorem Aim {n j r s:Nat} {A:Nat->Nat->Int} (hj:j + 1 < n) (hr:r < n) (hs:s < n):AE8 n (AE8 n (trF (AFt dl (j + 1) j)) A) (AFt dl (j + 1) j) r s=swA A j r s:=by
 show psum (fun k=>AE8 n (trF (AFt dl (j + 1) j)) A r k * AFt dl (j + 1) j k s) n=_;rw [Ail hj hs fun k=>AE8 n (trF (AFt dl (j + 1) j)) A r k];show psum (fun l=>AFt dl (j + 1) j l r * A l (tau j s)) n=_;rw [ABx (g:=fun l=>A l (tau j s) * AFt dl (j + 1) j l r) fun l _=>Int.mul_comm _ _];exact Ail hj hr fun l=>A l (tau j s)
theorem AR6 {n:Nat} {A A' B B':Nat->Nat->Int} {i j:Nat} (hA:∀ k,k < n->A i k=A' i k) (hB:∀ k,k < n->B k j=B' k j):AE8 n A B i j=AE8 n A' B' i j:=ABx fun k hk=>by rw [hA k hk,hB k hk]
theorem Aqa {n:Nat} {T U:Nat->Nat->Int} (i j:Nat):trF (AE8 n T U) i j=AE8 n (trF U) (trF T) i j:=ABx fun k _=>Int.mul_comm _ _
def Agv (n:Nat) (A0 T A:Nat->Nat->Int):Prop:= ∀ i j,i < n->j < n->A i j=AE8 n (trF T) (AE8 n A0 T) i j
theorem Aaq {n:Nat} {A0 T A U B:Nat->Nat->Int} (H:Agv n A0 T A) (K:∀ i j,i < n->j < n->AE8 n (AE8 n (trF U) A) U i j=B i j):Agv n A0 (AE8 n T U) B:=fun i j hi hj=>by
  rw [<- K i j hi hj,AR5]
  have h1:AE8 n (trF U) (AE8 n A U) i j=AE8 n (trF U) (AE8 n (trF T) (AE8 n A0 (AE8 n T U))) i j:=by
    refine AR6 (fun _ _=>rfl) fun k hk=>?_;rw [AR6 (A':=AE8 n (trF T) (AE8 n A0 T)) (fun l hl=>H k l hk hl) (fun _ _=>rfl),AR5];refine AR6 (fun _ _=>rfl) fun l hl=>?_;rw [AR5]
  rw [h1,<- AR5];exact AR6 (fun k _=>(Aqa i k).symm) fun _ _=>rfl
theorem Aqb {n:Nat} {A:Nat->Nat->Int}:Agv n A dl A:=fun i j hi hj=>by
  show _=psum (fun k=>dl k i * AE8 n A dl k j) n
  rw [ABx (g:=fun k=>AE8 n A dl k j * dl k i) fun k _=>Int.mul_comm _ _,Abx (fun k=>AE8 n A dl k j) hi]
  exact (Agi hj).symm
def dm9:Int:=9 ^ 8
def Aqc:Int:=2 ^ 97
theorem Aqd {n i t:Nat} {A:Nat->Nat->Int} (hn:n<=8) (h:Ab9 n dm9 A i t):∀ k,k < n->A k k<=Aqc:=fun k hk=>by
  by_cases e:k=i
  · subst e
    have h1:=Aao (p:=(2 ^ 7 * (2 * dm9)) * (2 ^ 7 * (2 * dm9))) (q:=1) h.sym h.pos h.hi h.dm (by decide) (by decide) (fun l hl=>by
      have h2:=h.lamb l hl;have h3:(2:Int) ^ t * (2 * dm9)<=2 ^ 7 * (2 * dm9):=Int.mul_le_mul_of_nonneg_right (AXo (by have:=h.ht;omega)) (by decide);have h4:=h.pos (l + 1) (by have:=h.hi;omega);have h5:=Int.mul_le_mul_of_nonneg_right h3 (Int.le_of_lt h4);have h6:=AS8 (x:=Mn l A k l) (y:=2 ^ 7 * (2 * dm9) * det (l + 1) A) (by omega) (by omega);rw [Int.one_mul];refine Int.le_trans h6 (Int.le_of_eq ?_);grind) k 0 (by omega)
    rw [AN4,show det 0 A=1 from rfl,Int.one_mul] at h1
    have h7:(1 + (k:Int) * ((2 ^ 7 * (2 * dm9)) * (2 ^ 7 * (2 * dm9)))) * (dm9 * 1)<=(1 + 7 * ((2 ^ 7 * (2 * dm9)) * (2 ^ 7 * (2 * dm9)))) * (dm9 * 1):=by
      refine Int.mul_le_mul_of_nonneg_right ?_ (by decide);have:=Int.mul_le_mul_of_nonneg_right (show (k:Int)<=7 by omega) (show (0:Int)<=(2 ^ 7 * (2 * dm9)) * (2 ^ 7 * (2 * dm9)) by decide);omega
    exact Int.le_trans h1 (Int.le_trans h7 (by decide))
  · exact Int.le_trans (h.rows k hk e) (by decide)
theorem Aes {n:Nat} {A:Nat->Nat->Int} {B:Int} (hs:AKw n A) (hp:AMf n A) (hB:∀ k,k < n->A k k<=B) {i j:Nat} (hi:i < n) (hj:j < n): -B<=A i j/\A i j<=B:=by
 have h1:=Aam (k:=0) hs hp (Nat.zero_le _) hi hj;simp only [AN4] at h1;have p1:=Aan (k:=0) hs hp (Nat.zero_le _) hi;have p2:=Aan (k:=0) hs hp (Nat.zero_le _) hj;simp only [AN4] at p1 p2;have h2:=Int.mul_le_mul (hB i hi) (hB j hj) p2 (Int.le_trans p1 (hB i hi));exact Aia (Int.le_trans p1 (hB i hi)) (Int.le_trans h1 h2)
theorem Ain {n:Nat} {A:Nat->Nat->Int} {B:Int} (hs:AKw n A) (hp:AMf n A) (hB:∀ k,k < n->A k k<=B) {i j:Nat} (hi:i < n) (hj:j < n):(A i j).natAbs<=B.natAbs:=by
 have:=Aes hs hp hB hi hj;omega
def Aar:Nat:=(2 ^ 240) ^ 5
theorem Aet:16 * (Aar * Aar) < AEr:=by decide
def Aas:Nat:=(2 ^ 220) ^ 5
theorem Aub {n:Nat} {A0 A T:Nat->Nat->Int} (hn:n<=8) (hE:∀ i j,(A0 i j).natAbs<=2 ^ 40) (hs:AKw n A0) (hp:AMf n A0) (H:Agv n A0 T A) (hB:∀ k,k < n->A k k<=Aqc) {k s:Nat} (hk:k < n) (hs2:s < n):(T k s).natAbs<=Aas:=by
  have h1:=Ap4 hs hp (fun r=>T r s) hk
  have h2:bil n 0 A0 (fun r=>T r s) (fun r=>T r s)=A s s:=by
    rw [H s s hs2 hs2];show _=psum (fun i=>T i s * psum (fun j=>A0 i j * T j s) n) n;unfold bil;refine ABx fun i _=>?_;rw [<- ADw];exact ABx fun j _=>by rw [AN4];grind
  rw [h2] at h1
  have h3:(AKl n A0 k k).natAbs<=dBd (2 ^ 40) 9:=by
    refine Nat.le_trans (AXi (m:=2 ^ 40) fun i j=>?_) (APm (by decide) (by omega));rw [ACu]
    split
    · unfold dl;split <;> decide
    · exact hE i j
  have h4:AKl n A0 k k * A s s<=(dBd (2 ^ 40) 9:Nat) * Aqc:=by
    have p0:0<=A s s:=by
      have:A s s=bil n 0 A0 (fun r=>T r s) (fun r=>T r s):=h2.symm;rw [this];exact APo hs hp _ n 0 (by omega)
    have b1:AKl n A0 k k<=(dBd (2 ^ 40) 9:Nat):=by omega
    have b2:=Int.mul_le_mul_of_nonneg_right b1 p0;have b3:=Int.mul_le_mul_of_nonneg_left (hB s hs2) (show (0:Int)<=(dBd (2 ^ 40) 9:Nat) by omega);omega
  have h5:((dBd (2 ^ 40) 9:Nat):Int) * Aqc<=(Aas:Int) * (Aas:Int):=by decide
  have h6:=Aia (x:=T k s) (y:=(Aas:Int)) (by omega) (Int.le_trans (Int.le_trans h1 h4) h5);omega
structure Acg (n:Nat) (A:Nat->Nat->Int):Prop where
  sym:AKw n A
  pos:AMf n A
  sz:APp A n
  lv:AQ8 A n
  dt:det n A<=10000
structure RSt (n:Nat) (A0 A T:Nat->Nat->Int) (i t:Nat):Prop where
  inv:Ab9 n dm9 A i t
  car:Agv n A0 T A
  dt:det n A=det n A0
def Auv (n:Nat) (A0:Nat->Nat->Int) (k:Nat) (s:List (List Int) × List (List Int)):Prop:=
  ∃ A T i t,RSt n A0 A T i t/\s=(tab n n A,tab n n T)/\k=(Ael n A).toNat * 128 + (128 - (16 * i + t))
theorem Aio {n:Nat} {A:Nat->Nat->Int} (hp:AMf n A):0<=Ael n A:=by
 have:∀ m,m<=n + 1->0<=psum (fun k=>det k A) m:=fun m=>by
   induction m with
   | zero=>intro _;exact Int.le_refl _
   | succ m ih=>intro h;have h1:=ih (by omega);have h2:=hp m (by omega);simp only [psum];omega
 exact this _ (Nat.le_refl _)
theorem Aqe {n:Nat} {A:Nat->Nat->Int} (hd:∀ k,k<=n->det k A<=dm9):Ael n A<=(n + 1:Nat) * dm9:=by
 have:∀ m,m<=n + 1->psum (fun k=>det k A) m<=(m:Nat) * dm9:=fun m=>by
   induction m with
   | zero=>intro _;simp [psum]
   | succ m ih=>intro h;have h1:=ih (by omega);have h2:=hd m (by omega);simp only [psum];rw [Int.natCast_add,Int.add_mul];omega
 exact this _ (Nat.le_refl _)
theorem Aj7 {n i j:Nat} {A:Nat->Nat->Int} (hn:n<=8) (hj:j < i) (hi:i < n) (hp:AMf n A) (hb:∀ i j,i < n->j < n->(A i j).natAbs<=AGo):(AQ7 A i j).natAbs<=3 * dBd AGo 9:=by
 have b1:(Mn j A i j).natAbs<=dBd AGo 9:=AY8 hn hi (by omega) (by omega) hb;have b2:(det (j + 1) A).natAbs<=dBd AGo 9:=AS9 hn (by omega) hb;have hd:=hp (j + 1) (by omega);unfold AQ7;rw [Int.natAbs_neg];have:=Int.natAbs_ediv_le_natAbs (2 * Mn j A i j + det (j + 1) A) (2 * det (j + 1) A);omega
theorem Aj8 {fuel n:Nat} {A0:Nat->Nat->Int} (Ac:1<=n) (hn:n<=8) (hs:AKw n A0) (hp:AMf n A0) (hE:∀ i j,(A0 i j).natAbs<=2 ^ 40) (hD:∀ k,k<=n->det k A0<=dm9) (hr:∀ k,k < n->A0 k k<=3 * dm9) (hdt:det n A0<=10000) (hf:AEr < fuel):
    Ok (AGk fuel (tab n n A0)) fun r=> ∃ A T,r=(tab n n A,tab n n T,0)/\Acg n A/\Agv n A0 T A/\det n A=det n A0/\ ∀ k,k < n->A k k<=3 * dm9:=by
 have Ad:100 < fuel:=Nat.lt_of_le_of_lt (by decide) hf;have Av:100000000 < fuel:=Nat.lt_of_le_of_lt (by decide) hf;have Ak:∀ i j,i < n->j < n->(A0 i j).natAbs<=AGo:=fun i j _ _=>Nat.le_trans (hE i j) (by decide);unfold AGk;refine ABo (AUo Ac hn Ak Ad) fun v hv=>?_;have Ap:=hv.2 ⟨hs,hp⟩;subst Ap;refine AB5 (fun h=>absurd rfl h) fun _=>ABo (AC9 (Aih hn Ak Ad)) fun b hb=>?_;subst hb;refine AB5 (fun h=>by simp [hdt] at h) fun _=>?_;refine ABo (AC9 (Ah5 (A:=tab n n A0) (by rw [AC5];omega) (fun z hz=>by rw [AUz z hz];omega) (by rw [AC5];omega))) fun x hx=>?_;subst hx;rw [AC5];refine ABo (AC9 (Aii Ac (by omega) Ad)) fun x hx=>?_;subst hx;dsimp only;refine ABo (Ans (Auv n A0) (Q:=fun r=> ∃ A T,r=(tab n n A,tab n n T,0)/\Acg n A/\Agv n A0 T A/\det n A=det n A0/\ ∀ k,k < n->A k k<=3 * dm9) (fun k s hI=>?_) (k:=(Ael n A0).toNat * 128 + 128) ⟨A0,dl,0,0,⟨AY6 Ac hs hp hD hr,Aqb,rfl⟩,rfl,rfl⟩ ?_) fun r hr=>ABi hr
 ·obtain ⟨A,T,i,t,R,rfl,rfl⟩:=hI;have L:=R.inv;have hbd:=Aqd hn L;have hb:∀ i j,i < n->j < n->(A i j).natAbs<=AGo:=fun i j hi hj=>Nat.le_trans (Ain L.sym L.pos hbd hi hj) (by decide);have hT:∀ k s,k < n->s < n->(T k s).natAbs<=Aas:=fun k s hk Ab=>Aub hn hE hs hp R.car hbd hk Ab;have hTD:Aas<=Aar:=by decide
  have hMD:AGo<=Aar:=by decide
  unfold AJb;refine ABo (Asw Ac hn L.pos hb hf) fun r hr=>?_
  have prod:∀ {U:Nat->Nat->Int},(∀ i j,i < n->j < n->(U i j).natAbs<=3 * dBd AGo 9)->(AEo fuel (tab n n A) (tab n n U)=some (tab n n (AE8 n (AE8 n (trF U) A) U))/\ADq fuel (tab n n T) (tab n n U)=some (tab n n (AE8 n T U))):=fun {U} hU=>by
    have Am:∀ i j,i < n->j < n->(U i j).natAbs<=Aar:=fun i j hi hj=>Nat.le_trans (hU i j hi hj) (by decide)
    refine ⟨Ap9 Ac (by omega) Aet (fun i j hi hj=>Nat.le_trans (hb i j hi hj) hMD) Am (fun i j hi hj=>?_) Ad,?_⟩
    · have h1:=psum_abs (f:=fun l=>U l i) (g:=fun l=>A l j) (D:=3 * dBd AGo 9) n fun l hl=>⟨hU l i hl hi,Nat.le_trans (hb l j hl hj) (by decide)⟩
      have h2:n * ((3 * dBd AGo 9) * (3 * dBd AGo 9))<=8 * ((3 * dBd AGo 9) * (3 * dBd AGo 9)):=Nat.mul_le_mul_right _ hn
      have h3:(AE8 n (trF U) A i j).natAbs=(psum (fun l=>U l i * A l j) n).natAbs:=rfl
      have h4:∀ l,l < n->(U l i).natAbs<=3 * dBd AGo 9/\(A l j).natAbs<=AGo:=fun l hl=>⟨hU l i hl hi,hb l j hl hj⟩
      have h5:(psum (fun l=>U l i * A l j) n).natAbs<=n * (3 * dBd AGo 9 * AGo):=by
        refine QF.psum_abs fun l hl=>?_
        rw [Int.natAbs_mul]
        exact Nat.mul_le_mul (h4 l hl).1 (h4 l hl).2
      have h6:n * (3 * dBd AGo 9 * AGo)<=8 * (3 * dBd AGo 9 * AGo):=Nat.mul_le_mul_right _ hn
      have h7:8 * (3 * dBd AGo 9 * AGo)<=Aar:=by decide
      rw [h3]
      exact Nat.le_trans h5 (Nat.le_trans h6 h7)
    · unfold ADq
      rw [Ano Ac (by omega) Aet (fun i j hi hj=>Nat.le_trans (hT i j hi hj) hTD) Am Ad]
      rfl
  rcases hr with ⟨rfl,hsz,hlv⟩ | ⟨i',j,hji,hi',hbad,hsz,hzi,hlv,rfl⟩ | ⟨j,hj,hbad,hsz,hlv,rfl⟩
  ·dsimp only;refine AB5 (fun _=>?_) (fun h=>absurd rfl h);have hrest:=ATu hn L fun l hl=>hsz i l hl L.hi;refine ABo (AC9 (At8 Ac (by omega) (fun i j hi hj=>Nat.lt_of_le_of_lt (Ain L.sym L.pos hrest hi hj) (by decide)) Ad)) fun x hx=>ABi ?_;subst hx;exact ⟨A,T,rfl,⟨L.sym,L.pos,hsz,hlv,by rw [R.dt];exact hdt⟩,R.car,R.dt,hrest⟩
  ·dsimp only;refine AB5 (fun h=>absurd h (by decide)) fun _=>?_
   have hU:∀ r s,r < n->s < n->(AUp A i' j r s).natAbs<=3 * dBd AGo 9:=fun r s hr Ab=>by
     have hdl:∀ a b,(dl a b).natAbs<=3 * dBd AGo 9:=fun a b=>by unfold dl;split <;> decide
     unfold AUp
     rw [ACu]
     split
     · split
       · exact Aj7 hn hji hi' L.pos hb
       · exact hdl _ _
     · exact hdl _ _
   obtain ⟨e1,e2⟩:=prod hU;refine ABo (AC9 e1) fun x hx=>ABo (AC9 e2) fun y hy=>ABi ?_;subst hx;subst hy;obtain ⟨L2,hm⟩:=Aj5 hn L hi' hji hbad hsz hzi hlv;have hsum:Ael n (AVl A i' j (AQ7 A i' j))=Ael n A:=ABx fun k _=>AN5 hji;refine ⟨_,?_,AVl A i' j (AQ7 A i' j),AE8 n T (AUp A i' j),i',i' - j,⟨L2,Aaq R.car fun r s hr Ab=>Aer hji hi' hr Ab,by rw [AN5 hji];exact R.dt⟩,?_,rfl⟩
   ·rw [hsum];have:=L.hi;have:=L.ht;omega
   ·rw [ANa fun r s hr Ab=>Aer hji hi' hr Ab]
  ·dsimp only;refine AB5 (fun h=>absurd h (by decide)) fun _=>?_
   have hU:∀ r s,r < n->s < n->(AFt dl (j + 1) j r s).natAbs<=3 * dBd AGo 9:=fun r s hr Ab=>by
     rw [Acf];unfold dl;split <;> decide
   obtain ⟨e1,e2⟩:=prod hU;refine ABo (AC9 e1) fun x hx=>ABo (AC9 e2) fun y hy=>ABi ?_;subst hx;subst hy;obtain ⟨L2,hm⟩:=Aj6 hn L hj hbad (fun r l h1 h2=>hsz r l h1 (by omega)) fun r hr=>hlv r (by omega);refine ⟨_,?_,swA A j,AE8 n T (AFt dl (j + 1) j),0,0,⟨L2,Aaq R.car fun r s hr Ab=>Aim hj hr Ab,by rw [Ah9 (by omega)];exact R.dt⟩,?_,rfl⟩
   ·have h1:=Aio L.pos;have h2:=Aio L2.pos;have:=L.hi;have:=L.ht;omega
   ·rw [ANa fun r s hr Ab=>Aim hj hr Ab]
 ·have h1:=Aqe hD;have h2:((n + 1:Nat):Int) * dm9<=9 * dm9:=Int.mul_le_mul_of_nonneg_right (by omega) (by decide);have h3:(9 * dm9)=387420489:=by decide
  have h4:387420489 * 128 + 128 < AEr:=by decide
  omega
def part (n i:Nat) (G:Nat->Nat->Int):List (List Int):=ADx n fun r=>if r < i then ADx n (G r) else []
theorem ANb {n i r:Nat} {G:Nat->Nat->Int} (hr:r < i) (hn:r < n):(part n i G)[r]? =some (ADx n (G r)):=by
 unfold part;rw [ACn hn,if_pos hr]
theorem ATw {n i:Nat} {G:Nat->Nat->Int} (hn:i < n):(part n i G)[i]? =some []:=by
 unfold part;rw [ACn hn,if_neg (Nat.lt_irrefl i)]
theorem AOa {n i r:Nat} {G:Nat->Nat->Int} {g:Nat->Int} (hr:r < i):(part n i G).set r (ADx n g)=part n i (ADg G r g):=by
 unfold part;rw [AE4];refine ACv fun k _=>?_;by_cases h:k=r
 ·subst h;rw [if_pos rfl,if_pos hr,AC8]
 ·rw [if_neg h,AD8 _ _ h]
theorem AQ9 {n i:Nat} {G:Nat->Nat->Int} {g:Nat->Int}:(part n i G).set i (ADx n g)=part n (i + 1) (ADg G i g):=by
 unfold part;rw [AE4];refine ACv fun k _=>?_;by_cases h:k=i
 ·subst h;rw [if_pos rfl,if_pos (by omega),AC8]
 ·rw [if_neg h,AD8 _ _ h];by_cases h2:k < i
  ·rw [if_pos h2,if_pos (by omega)]
  ·rw [if_neg h2,if_neg (by omega)]
theorem AO6 (n:Nat) (G:Nat->Nat->Int):part n n G=tab n n G:=by
 unfold part;rw [AN9];exact ACv fun k hk=>if_pos hk
theorem AO7 (n:Nat) (G:Nat->Nat->Int):List.replicate n ([]:List Int)=part n 0 G:=by
 rw [AH3];exact ACv fun k _=>(if_neg (by omega)).symm
theorem AUq {L:List Int} {q:Nat} (hq:q < 4611686018427387904):Ok (if (L.length:Int)<=((q:Nat):Int) then (some ((0:Int),((q:Nat):Int))) else ((gI L (w64 ((w64 (((q:Nat):Int) + 1)) - 1))).bind fun x=>(some ((w64 x),(w64 (((q:Nat):Int) + 1)))))) fun e=> ∃ p:Nat,e.2=(p:Int)/\p<=q + 1:=by
  refine AB5 (fun h=>ABi ⟨q,rfl,by omega⟩) fun h=>?_;have hl:q < L.length:=by omega
  refine AB6 (n:=q) (List.getElem?_eq_getElem hl) (by rw [AEv (x:=(q:Int) + 1) (by omega) (by omega),wk (by omega)];omega) (ABi ⟨q + 1,?_,by omega⟩);rw [AEv (x:=(q:Int) + 1) (by omega) (by omega)];omega
theorem ASh (x:Int) (m:Nat) (hm:0 < m):0<=Int.tmod (w64 (IntKind.wrap .u8 x)) (m:Int)/\Int.tmod (w64 (IntKind.wrap .u8 x)) (m:Int) < m:=by
 have h1:IntKind.wrap .u8 x=x % 256:=by rw [IntKind.wrap_u8]
 rw [h1];have a1:=Int.emod_nonneg x (show (256:Int)≠0 by decide);have a2:=Int.emod_lt_of_pos x (show (0:Int) < 256 by decide);rw [wk (by omega),Int.tmod_eq_emod_of_nonneg a1];exact ⟨Int.emod_nonneg _ (by omega),Int.emod_lt_of_pos _ (by omega)⟩
def dgF (f:Nat->Int) (r c:Nat):Int:=if c=r then f r else 0
theorem Auc {fuel N q0:Nat} {a1 Ac:Int} {L:List Int} (hN:w64 (1 + (Int.tmod (w64 a1) Ac))=(N:Int)) (Af:N<=8) (Ag:q0<=1000) (hf:100 < fuel):
    Ok (iter (fun s=>AFi fuel a1 L Ac s.1 s.2.1 s.2.2) fuel (0,(q0:Int),(List.replicate (Int.toNat (w64 (1 + (Int.tmod (w64 a1) Ac)))) ([]:List Int)))) fun e=> ∃ (q:Nat) (f:Nat->Int),e=((q:Int),tab N N (dgF f))/\q<=q0 + N/\ ∀ r,r < N->1<=f r/\f r<=6:=by
 refine ACx (fun i s=> ∃ (q:Nat) (f:Nat->Int),s=(((i:Nat):Int),(q:Int),part N i (dgF f))/\i<=N/\q<=q0 + i/\ ∀ r,r < i->1<=f r/\f r<=6) N ⟨q0,fun _=>0,by rw [hN,Int.toNat_natCast,AO7 N (dgF fun _=>0)];rfl,by omega,by omega,fun r hr=>by omega⟩ (by omega) fun i s hi hI=>?_;obtain ⟨q,f,rfl,hiN,hq,Ad⟩:=hI;unfold AFi;dsimp only;rw [List.length_replicate,hN,Int.toNat_natCast];refine AB5 (fun h=>AEu (by omega) ?_) (fun h=>ABi ?_)
 ·have hi':i < N:=by omega
  refine AB6 (ATw hi') rfl ?_;rw [ADz,AH3 N (0:Int),AQ9];refine AB6 (ANb (by omega) hi') rfl ?_;rw [AC8];refine ABo (Q:=fun e:Int × Int=>0<=e.1/\e.1 < 6/\ ∃ p:Nat,e.2=(p:Int)/\p<=q + 1) (ABo (AUq (L:=L) (q:=q) (by omega)) fun e he=>?_) fun e he=>AB6 (ACn hi') rfl (ABi ⟨by omega,?_⟩)
  ·exact ABi ⟨(ASh _ 6 (by decide)).1,(ASh _ 6 (by decide)).2,he⟩
  ·obtain ⟨h1,h2,p,h3,h4⟩:=he;refine ⟨p,fun r=>if r=i then 1 + e.1 else f r,?_,by omega,by omega,fun r hr=>?_⟩
   ·rw [AEv (x:=(i:Int) + 1) (by omega) (by omega),AEv (x:=1 + e.1) (by omega) (by omega),h3,ADz,ADz,AE4,AOa (by omega)];refine congrArg (fun z=>(((i + 1:Nat):Int),(p:Int),z)) (ACv fun r hr=>?_);split
    ·refine ACv fun c hc=>?_;rw [ACu];unfold dgF;dsimp only;split
     ·next h=>subst h;rfl
     ·next h=>rw [ACu,if_neg h]
    ·rfl
   ·dsimp only;split
    ·omega
    ·exact Ad r (by omega)
 ·obtain rfl:i=N:=by omega
  exact ⟨q,f,by rw [AO6],by omega,Ad⟩
theorem Asy {fuel N q0:Nat} {a1 Ac:Int} {L:List Int} (hN:w64 (1 + (Int.tmod (w64 a1) Ac))=(N:Int)) (Af:N<=8) (Ag:q0<=1000) (hf:100 < fuel):
    Ok (iter (fun s=>AE9 fuel a1 L Ac s.1 s.2.1 s.2.2) fuel (0,(q0:Int),(List.replicate (Int.toNat (w64 (1 + (Int.tmod (w64 a1) Ac)))) ([]:List Int)))) fun e=> ∃ (q:Nat) (f:Nat->Int),e=((q:Int),tab N N (dgF f))/\q<=q0 + N/\ ∀ r,r < N->1<=f r/\f r<=9:=by
 refine ACx (fun i s=> ∃ (q:Nat) (f:Nat->Int),s=(((i:Nat):Int),(q:Int),part N i (dgF f))/\i<=N/\q<=q0 + i/\ ∀ r,r < i->1<=f r/\f r<=9) N ⟨q0,fun _=>0,by rw [hN,Int.toNat_natCast,AO7 N (dgF fun _=>0)];rfl,by omega,by omega,fun r hr=>by omega⟩ (by omega) fun i s hi hI=>?_;obtain ⟨q,f,rfl,hiN,hq,Ad⟩:=hI;unfold AE9;dsimp only;rw [List.length_replicate,hN,Int.toNat_natCast];refine AB5 (fun h=>AEu (by omega) ?_) (fun h=>ABi ?_)
 ·have hi':i < N:=by omega
  refine AB6 (ATw hi') rfl ?_;rw [ADz,AH3 N (0:Int),AQ9];refine AB6 (ANb (by omega) hi') rfl ?_;rw [AC8];refine ABo (Q:=fun e:Int × Int=>0<=e.1/\e.1 < 9/\ ∃ p:Nat,e.2=(p:Int)/\p<=q + 1) (ABo (AUq (L:=L) (q:=q) (by omega)) fun e he=>?_) fun e he=>AB6 (ACn hi') rfl (ABi ⟨by omega,?_⟩)
  ·exact ABi ⟨(ASh _ 9 (by decide)).1,(ASh _ 9 (by decide)).2,he⟩
  ·obtain ⟨h1,h2,p,h3,h4⟩:=he;refine ⟨p,fun r=>if r=i then 1 + e.1 else f r,?_,by omega,by omega,fun r hr=>?_⟩
   ·rw [AEv (x:=(i:Int) + 1) (by omega) (by omega),AEv (x:=1 + e.1) (by omega) (by omega),h3,ADz,ADz,AE4,AOa (by omega)];refine congrArg (fun z=>(((i + 1:Nat):Int),(p:Int),z)) (ACv fun r hr=>?_);split
    ·refine ACv fun c hc=>?_;rw [ACu];unfold dgF;dsimp only;split
     ·next h=>subst h;rfl
     ·next h=>rw [ACu,if_neg h]
    ·rfl
   ·dsimp only;split
    ·omega
    ·exact Ad r (by omega)
 ·obtain rfl:i=N:=by omega
  exact ⟨q,f,by rw [AO6],by omega,Ad⟩
theorem Asz {fuel N q0:Nat} {a1 Ac:Int} {L:List Int} (hN:w64 (1 + (Int.tmod (w64 a1) Ac))=(N:Int)) (Af:N<=8) (Ag:q0<=1000) (hf:100 < fuel):
    Ok (iter (fun s=>AFa fuel a1 L Ac s.1 s.2.1 s.2.2) fuel (0,(q0:Int),(List.replicate (Int.toNat (w64 (1 + (Int.tmod (w64 a1) Ac)))) ([]:List Int)))) fun e=> ∃ (q:Nat) (f:Nat->Int),e=((q:Int),tab N N (dgF f))/\q<=q0 + N/\ ∀ r,r < N->1<=f r/\f r<=1:=by
 refine ACx (fun i s=> ∃ (q:Nat) (f:Nat->Int),s=(((i:Nat):Int),(q:Int),part N i (dgF f))/\i<=N/\q<=q0 + i/\ ∀ r,r < i->1<=f r/\f r<=1) N ⟨q0,fun _=>0,by rw [hN,Int.toNat_natCast,AO7 N (dgF fun _=>0)];rfl,by omega,by omega,fun r hr=>by omega⟩ (by omega) fun i s hi hI=>?_;obtain ⟨q,f,rfl,hiN,hq,Ad⟩:=hI;unfold AFa;dsimp only;rw [List.length_replicate,hN,Int.toNat_natCast];refine AB5 (fun h=>AEu (by omega) ?_) (fun h=>ABi ?_)
 ·have hi':i < N:=by omega
  refine AB6 (ATw hi') rfl ?_;rw [ADz,AH3 N (0:Int),AQ9];refine AB6 (ANb (by omega) hi') rfl ?_;rw [AC8];refine ABo (Q:=fun e:Int × Int=>0<=e.1/\e.1 < 1/\ ∃ p:Nat,e.2=(p:Int)/\p<=q + 1) (ABo (AUq (L:=L) (q:=q) (by omega)) fun e he=>?_) fun e he=>AB6 (ACn hi') rfl (ABi ⟨by omega,?_⟩)
  ·exact ABi ⟨(ASh _ 1 (by decide)).1,(ASh _ 1 (by decide)).2,he⟩
  ·obtain ⟨h1,h2,p,h3,h4⟩:=he;refine ⟨p,fun r=>if r=i then 1 + e.1 else f r,?_,by omega,by omega,fun r hr=>?_⟩
   ·rw [AEv (x:=(i:Int) + 1) (by omega) (by omega),AEv (x:=1 + e.1) (by omega) (by omega),h3,ADz,ADz,AE4,AOa (by omega)];refine congrArg (fun z=>(((i + 1:Nat):Int),(p:Int),z)) (ACv fun r hr=>?_);split
    ·refine ACv fun c hc=>?_;rw [ACu];unfold dgF;dsimp only;split
     ·next h=>subst h;rfl
     ·next h=>rw [ACu,if_neg h]
    ·rfl
   ·dsimp only;split
    ·omega
    ·exact Ad r (by omega)
 ·obtain rfl:i=N:=by omega
  exact ⟨q,f,by rw [AO6],by omega,Ad⟩
theorem As0 {fuel N q0:Nat} {a1 Ac:Int} {L:List Int} (hN:w64 (1 + (Int.tmod (w64 a1) Ac))=(N:Int)) (Af:N<=8) (Ag:q0<=1000) (hf:100 < fuel):
    Ok (iter (fun s=>AFb fuel a1 L Ac s.1 s.2.1 s.2.2) fuel (0,(q0:Int),(List.replicate (Int.toNat (w64 (1 + (Int.tmod (w64 a1) Ac)))) ([]:List Int)))) fun e=> ∃ (q:Nat) (f:Nat->Int),e=((q:Int),tab N N (dgF f))/\q<=q0 + N/\ ∀ r,r < N->1<=f r/\f r<=2:=by
 refine ACx (fun i s=> ∃ (q:Nat) (f:Nat->Int),s=(((i:Nat):Int),(q:Int),part N i (dgF f))/\i<=N/\q<=q0 + i/\ ∀ r,r < i->1<=f r/\f r<=2) N ⟨q0,fun _=>0,by rw [hN,Int.toNat_natCast,AO7 N (dgF fun _=>0)];rfl,by omega,by omega,fun r hr=>by omega⟩ (by omega) fun i s hi hI=>?_;obtain ⟨q,f,rfl,hiN,hq,Ad⟩:=hI;unfold AFb;dsimp only;rw [List.length_replicate,hN,Int.toNat_natCast];refine AB5 (fun h=>AEu (by omega) ?_) (fun h=>ABi ?_)
 ·have hi':i < N:=by omega
  refine AB6 (ATw hi') rfl ?_;rw [ADz,AH3 N (0:Int),AQ9];refine AB6 (ANb (by omega) hi') rfl ?_;rw [AC8];refine ABo (Q:=fun e:Int × Int=>0<=e.1/\e.1 < 2/\ ∃ p:Nat,e.2=(p:Int)/\p<=q + 1) (ABo (AUq (L:=L) (q:=q) (by omega)) fun e he=>?_) fun e he=>AB6 (ACn hi') rfl (ABi ⟨by omega,?_⟩)
  ·exact ABi ⟨(ASh _ 2 (by decide)).1,(ASh _ 2 (by decide)).2,he⟩
  ·obtain ⟨h1,h2,p,h3,h4⟩:=he;refine ⟨p,fun r=>if r=i then 1 + e.1 else f r,?_,by omega,by omega,fun r hr=>?_⟩
   ·rw [AEv (x:=(i:Int) + 1) (by omega) (by omega),AEv (x:=1 + e.1) (by omega) (by omega),h3,ADz,ADz,AE4,AOa (by omega)];refine congrArg (fun z=>(((i + 1:Nat):Int),(p:Int),z)) (ACv fun r hr=>?_);split
    ·refine ACv fun c hc=>?_;rw [ACu];unfold dgF;dsimp only;split
     ·next h=>subst h;rfl
     ·next h=>rw [ACu,if_neg h]
    ·rfl
   ·dsimp only;split
    ·omega
    ·exact Ad r (by omega)
 ·obtain rfl:i=N:=by omega
  exact ⟨q,f,by rw [AO6],by omega,Ad⟩
theorem As1 {fuel N q0:Nat} {L:List Int} {F0:Nat->Nat->Int} (Ag:N<=8) (Ah:q0<=1000) (Ad:∀ i j,i < N->j < N->(F0 i j).natAbs<=9) (hf:100 < fuel):
    Ok (iter (fun s=>AFj fuel L (tab N N F0) s.1 s.2.1 s.2.2) fuel (0,(q0:Int),tab N N F0)) fun e=> ∃ (q:Nat) (F:Nat->Nat->Int),e=((q:Int),tab N N F)/\q<=q0 + 8 * N/\ ∀ i j,i < N->j < N->(F i j).natAbs<=9:=by
 refine ACx (fun i s=> ∃ (q:Nat) (F:Nat->Nat->Int),s=(((i:Nat):Int),(q:Int),tab N N F)/\i<=N/\q<=q0 + 8 * i/\ ∀ i j,i < N->j < N->(F i j).natAbs<=9) N ⟨q0,F0,rfl,by omega,by omega,Ad⟩ (by omega) fun i s hi hI=>?_;obtain ⟨q,F,rfl,hiN,hq,hF⟩:=hI;unfold AFj;dsimp only;rw [AC5];refine AB5 (fun h=>?_) (fun h=>ABi ⟨q,F,rfl,by omega,hF⟩);have hi':i < N:=by omega
 refine ABo (ACx (fun j s=> ∃ (p:Nat) (F:Nat->Nat->Int),s=(((j:Nat):Int),(p:Int),tab N N F)/\j<=i/\p<=q + j/\ ∀ i j,i < N->j < N->(F i j).natAbs<=9) i (Q:=fun e=> ∃ (p:Nat) (F:Nat->Nat->Int),e=((p:Int),tab N N F)/\p<=q + i/\ ∀ i j,i < N->j < N->(F i j).natAbs<=9) ⟨q,F,rfl,by omega,by omega,hF⟩ (by omega) fun j s hj hJ=>?_) fun e he=>?_
 ·obtain ⟨p,F,rfl,hji,hp,hF⟩:=hJ;unfold AG4;dsimp only;refine AB5 (fun h=>?_) (fun h=>ABi ⟨p,F,rfl,by omega,hF⟩);have hj':j < i:=by omega
  refine AB6 (ADd hi') rfl (ABo (AUq (L:=L) (q:=p) (by omega)) fun e he=>AB6 (ACn (by omega)) rfl ?_);obtain ⟨p2,h3,h4⟩:=he;rw [ADz,ADz,AE4,show (ADx N fun c=>if c=j then Int.tmod e.1 3 else F i c)=(List.range N).map fun c=>if c=j then Int.tmod e.1 3 else F i c from rfl,AHw];refine AB6 (ADd (by omega)) rfl (AB6 (ADd hi') rfl (AB6 (ACn (by omega)) rfl (AB6 (ACn hi') rfl (ABi ⟨by omega,p2,?_⟩))));generalize Af:(ADg F i fun c=>if c=j then Int.tmod e.1 3 else F i c)=F1
  have hv:(Int.tmod e.1 3).natAbs<=9:=by
    have:=Int.natAbs_tmod e.1 3
    have h5:e.1.natAbs % (3:Int).natAbs < 3:=Nat.mod_lt _ (by decide)
    omega
  have hF1b:∀ i j,i < N->j < N->(F1 i j).natAbs<=9:=fun a b ha hb=>by
    subst Af
    rw [ACu]
    split
    · split
      · exact hv
      · exact hF i b hi' hb
    · exact hF a b ha hb
  refine ⟨ADg F1 j fun c=>if c=i then F1 i j else F1 j c,?_,by omega,by omega,fun a b ha hb=>?_⟩
  ·rw [wk (by omega),h3,ADz,ADz,AE4,show (ADx N fun c=>if c=i then F1 i j else F1 j c)=(List.range N).map fun c=>if c=i then F1 i j else F1 j c from rfl,AHw];rfl
  ·rw [ACu];split
   ·split
    ·exact hF1b i j hi' (by omega)
    ·exact hF1b j b (by omega) hb
   ·exact hF1b a b ha hb
 ·obtain ⟨p,F,rfl,hp,hF⟩:=he;exact ABi ⟨by omega,p,F,by rw [wk (by omega)];rfl,by omega,by omega,hF⟩
theorem Aip {fuel N:Nat} {b:Bool} (Ag:1<=N) (Ah:N<=8) (hf:100 < fuel):Ok (AGa fuel (N:Int) b) fun e=> ∃ F,e=tab N N F/\ ∀ i j,i < N->j < N->(F i j).natAbs<=2:=by
 unfold AGa;refine AEu (by omega) ?_;rw [Int.toNat_natCast];refine ABo (ACx (fun i s=> ∃ G:Nat->Nat->Int,s=(((i:Nat):Int),part N i G)/\i<=N/\ ∀ r c,(G r c).natAbs<=2) N (Q:=fun e=> ∃ F,e=tab N N F/\ ∀ i j,i < N->j < N->(F i j).natAbs<=2) ⟨fun _ _=>0,by rw [AO7 N fun _ _=>0];rfl,by omega,fun _ _=>Nat.zero_le _⟩ (by omega) fun i s hi hI=>?_) fun e he=>ABi he;obtain ⟨G,rfl,hiN,hG⟩:=hI;unfold AJy;dsimp only;rw [List.length_replicate,Int.toNat_natCast];refine AB5 (fun h=>AEu (by omega) ?_) (fun h=>ABi ?_)
 ·have hi':i < N:=by omega
  refine AB6 (ATw hi') rfl ?_;rw [ADz,AH3 N (0:Int),AQ9];refine AB6 (ANb (by omega) hi') rfl ?_;rw [AC8];refine AB6 (ACn hi') rfl ?_;rw [ADz,ADz,AE4,AOa (by omega)]
  have Ab:∀ r c,(ADg (ADg G i fun x=>0) i (fun c=>if c=i then 2 else 0) r c).natAbs<=2:=fun r c=>by
    rw [ACu]
    split
    · split <;> decide
    · rw [ACu]
      split
      · decide
      · exact hG r c
  generalize (ADg (ADg G i fun x=>0) i fun c=>if c=i then 2 else 0)=G1 at Ab;have wi:w64 ((i:Int) + 1)=((i + 1:Nat):Int):=by rw [wk (by omega)];omega
  refine ABo (Q:=fun k=>k=(i:Int) - 1∨k=(i:Int) - 2) ?_ fun k hk=>?_
  ·have w1:w64 ((i:Int) - 1)=(i:Int) - 1:=wk (by omega);have w2:w64 ((i:Int) - 2)=(i:Int) - 2:=wk (by omega);rw [w1,w2];exact AB5 (fun _=>AB5 (fun _=>AB5 (fun _=>ABi (.inr rfl)) fun _=>ABi (.inl rfl)) fun _=>ABi (.inl rfl)) fun _=>ABi (.inl rfl)
  ·refine AB5 (fun h=>?_) (fun h=>ABi ⟨by omega,G1,by rw [wi],by omega,Ab⟩);obtain ⟨k,rfl⟩:∃ q:Nat,k=q:=⟨k.toNat,by omega⟩;have hki:k < i:=by omega
   refine AB6 (ANb (by omega) hi') rfl (AB6 (ANb (by omega) (by omega)) rfl (AB6 (ACn (by omega)) rfl ?_));rw [ADz,ADz,AE4,AOa (by omega)]
   have Ac:∀ r c,(ADg G1 i (fun c=>if c=k then -1 else G1 i c) r c).natAbs<=2:=fun r c=>by
     rw [ACu]
     split
     · split
       · decide
       · exact Ab i c
     · exact Ab r c
   generalize (ADg G1 i fun c=>if c=k then -1 else G1 i c)=G2 at Ac;refine AB6 (ANb (by omega) (by omega)) rfl (AB6 (ACn hi') rfl (ABi ⟨by omega,ADg G2 k fun c=>if c=i then -1 else G2 k c,?_,by omega,fun r c=>?_⟩))
   ·rw [wi,ADz,ADz,AE4,AOa (by omega)]
   ·rw [ACu];split
    ·split
     ·decide
     ·exact Ac k c
    ·exact Ac r c
 ·obtain rfl:i=N:=by omega
  exact ⟨G,AO6 _ _,fun a b _ _=>hG a b⟩
theorem Aeu {n B:Nat} {F:Nat->Nat->Int} (hB:B < 9223372036854775808) (h:∀ i j,i < n->j < n->(F i j).natAbs<=B):∀ z∈tab n n F,∀ x∈z,-9223372036854775808<=x/\x<=9223372036854775807:=fun z hz x hx=>by
  obtain ⟨i,hi⟩:=List.getElem?_of_mem hz
  have hin:i < n:=by have:=(List.getElem?_eq_some_iff.1 hi).1;rwa [AC5] at this
  rw [ADd hin] at hi
  cases hi
  obtain ⟨j,hj⟩:=List.getElem?_of_mem hx
  have hjn:j < n:=by have:=(List.getElem?_eq_some_iff.1 hj).1;rwa [ADb] at this
  rw [ACn hjn] at hj
  cases hj
  have:=h i j hin hjn
  omega
theorem Aqf {n:Nat} {F:Nat->Nat->Int} (hn:1<=n) (Aa:n<=16):okM (tab n n F)=true:=by
 have hc:ALf (tab n n F)=n:=Ak3 hn;unfold okM;rw [decide_eq_true_iff,AC5,hc];exact ⟨hn,Aa,fun z hz=>by rw [AUz z hz];exact ⟨hn,Aa,rfl⟩⟩
theorem Agw {fuel n:Nat} {F:Nat->Nat->Int} (hn:1<=n) (Aa:n<=16) (h:∀ i j,i < n->j < n->(F i j).natAbs<=9223372036854775807) (hf:17 < fuel):AFd fuel (tab n n F)=some (tab n n F):=by
 rw [At3 (Aeu (by decide) h) hf,if_pos (Aqf hn Aa)]
theorem As2 {fuel n:Nat} {F:Nat->Nat->Int} (Ab:1<=n) (hn:n<=8) (hb:∀ i j,i < n->j < n->(F i j).natAbs<=1000000) (hf:100 < fuel):Ok (AH1 fuel (tab n n F)) fun r=>r=true↔AKw n F/\AMf n F/\det n F<=10000:=by
 have Ac:∀ i j,i < n->j < n->(F i j).natAbs<=AGo:=fun i j hi hj=>Nat.le_trans (hb i j hi hj) (by decide);unfold AH1;refine ABo (AC9 (Agw Ab (by omega) (fun i j hi hj=>Nat.le_trans (hb i j hi hj) (by decide)) (by omega))) fun x hx=>?_;subst hx;refine ABo (AUo Ab hn Ac hf) fun v hv=>AB5 (fun h=>?_) fun h=>ABi (Iff.intro (fun h2=>nomatch h2) fun h2=>absurd (hv.2 ⟨h2.1,h2.2.1⟩) h);have h1:=hv.1 h;refine ABo (AC9 (AVg hn Ac (by omega))) fun d hd=>ABo (Q:=(· =10000)) ⟨10000,if_pos (by omega),rfl⟩ fun t ht=>ABo (AC9 (a:=AQ2 d t) rfl) fun c hc=>ABi ?_;subst hd;subst ht;subst hc;rw [decide_eq_true_iff,Acb];exact ⟨fun h2=>⟨h1.1,h1.2,h2⟩,fun h2=>h2.2.2⟩
theorem As3 {n:Nat} {f:Nat->Int} (hn:n<=8) (h:∀ r,r < n->1<=f r/\f r<=2):AKw n (dgF f)/\AMf n (dgF f)/\det n (dgF f)<=10000:=by
 have hd:∀ k,k<=n->det k (dgF f)=AGq f k:=fun k hk=>by
   rw [AQ5 (F:=dgF f) (fun c i hc hci hi=>by unfold dgF;rw [if_neg (by omega)])]
   exact AWw fun i _=>by unfold dgF;rw [if_pos rfl]
 have hb:∀ k,k<=n->0 < AGq f k/\AGq f k<=2 ^ k:=fun k=>by
   induction k with
   | zero=>intro _;simp [AGq]
   | succ k ih=>
     intro hk
     have h1:=ih (by omega)
     have h2:=h k (by omega)
     simp only [AGq]
     refine ⟨Int.mul_pos h1.1 (by omega),?_⟩
     rw [Int.pow_succ]
     exact Int.mul_le_mul h1.2 h2.2 (by omega) (Int.le_of_lt (AVm k))
 refine ⟨fun i j hi hj=>?_,fun k hk=>by rw [hd k hk];exact (hb k hk).1,?_⟩
 ·unfold dgF;split
  ·next h=>subst h;rw [if_pos rfl]
  ·next h=>rw [if_neg (fun h2=>h h2.symm)]
 ·rw [hd n (Nat.le_refl n)];have:=(hb n (Nat.le_refl n)).2;have h2:=AXo hn;omega
structure Aud (n:Nat) (A:Nat->Nat->Int):Prop where
  n1:1<=n
  n8:n<=8
  sym:AKw n A
  pos:AMf n A
  bd:∀ i j,i < n->j < n->(A i j).natAbs<=9
  dt:det n A<=10000
theorem Aiq {n m:Nat} {f:Nat->Int} (h:∀ r,r < n->1<=f r/\f r<=(m:Int)):∀ i j,i < n->j < n->(dgF f i j).natAbs<=m:=fun i j hi hj=>by
  unfold dgF
  have:=h i hi
  split <;> omega
theorem As4 {fuel:Nat} {a1 a2 most:Int} {L L2:List Int} (h1:0<=a1/\a1 < 256) (hm:1<=most/\most<=8) (hf:100 < fuel):Ok (AE5 fuel a1 a2 L L2 most) fun r=> ∃ n A,r=tab n n A/\Aud n A/\(n:Int)=1 + Int.tmod a1 most:=by
 have t1:=Int.emod_nonneg a1 (show most≠0 by omega);have t2:=Int.emod_lt_of_pos a1 (show 0 < most by omega);have t3:Int.tmod a1 most=a1 % most:=Int.tmod_eq_emod_of_nonneg h1.1
 have hN:w64 (1 + Int.tmod (w64 a1) most)=((1 + a1 % most).toNat:Int):=by
   rw [AEv (x:=a1) (by omega) (by omega),t3,wk (by omega)];omega
 generalize hNN:(1 + a1 % most).toNat=N at hN;have Ae:1<=N:=by omega
 have Ab:N<=8:=by omega
 unfold AE5;refine AEu (by omega) (ABo (Q:=fun e=> ∃ (q:Nat) (F:Nat->Nat->Int),e=(tab N N F,(q:Int))/\q<=200/\ ∀ i j,i < N->j < N->(F i j).natAbs<=9) (ABo (Q:=fun _=>True) ?_ fun k _=>AB5 (fun _=>?_) fun _=>AB5 (fun _=>?_) fun _=>AB5 (fun _=>?_) fun _=>AB5 (fun _=>?_) fun _=>?_) fun e he=>?_)
 ·exact AB5 (fun _=>ABi trivial) fun _=>AB5 (fun _=>ABi trivial) fun _=>AB5 (fun _=>ABi trivial) fun _=>ABi trivial
 ·refine ABo (Q:=fun e=> ∃ (q:Nat) (F:Nat->Nat->Int),e=(tab N N F,(q:Int))/\q<=200/\ ∀ i j,i < N->j < N->(F i j).natAbs<=9) (ABo (Q:=fun e=> ∃ (q:Nat) (f:Nat->Int),e=(tab N N (dgF f),(q:Int))/\q<=8/\ ∀ r,r < N->1<=f r/\f r<=6) (AEu (by rw [hN];omega) (ABo (Auc (q0:=0) (L:=L) hN Ab (by omega) hf) fun e he=>ABi ?_)) fun e he=>?_) fun e he=>ABi he
  ·obtain ⟨q,f,rfl,h2,h3⟩:=he;exact ⟨q,f,rfl,by omega,h3⟩
  ·obtain ⟨q,f,rfl,h2,h3⟩:=he;refine ABo (As1 (L:=L) (q0:=q) Ab (by omega) (fun i j hi hj=>Nat.le_trans (Aiq (m:=6) h3 i j hi hj) (by decide)) hf) fun e he=>ABi ?_;obtain ⟨q,F,rfl,h4,h5⟩:=he;exact ⟨q,F,rfl,by omega,h5⟩
 ·rw [hN];refine ABo (Aip Ae Ab hf) fun F hF=>?_;obtain ⟨F,rfl,hF⟩:=hF;refine AB6 (n:=0) (ADd (by omega)) rfl (AB6 (n:=0) (ACn (by omega)) rfl (ABo (Q:=fun e:Int × Int=>0<=e.1/\e.1 < 3/\ ∃ p:Nat,e.2=(p:Int)/\p<=0 + 1) (ABo (AUq (L:=L) (q:=0) (by omega)) fun e he=>ABi ⟨(ASh _ 3 (by decide)).1,(ASh _ 3 (by decide)).2,he⟩) fun e he=>ABi ?_));obtain ⟨c1,c2,p,c3,c4⟩:=he;have c5:=hF 0 0 (by omega) (by omega);refine ⟨p,ADg F 0 fun c=>if c=0 then F 0 0 + e.1 else F 0 c,?_,by omega,fun i j hi hj=>?_⟩
  ·rw [c3,wk (by omega)];refine congrArg (fun z=>(z,(p:Int))) ?_;show (tab N N F).set 0 ((ADx N (F 0)).set 0 (F 0 0 + e.1))=_;rw [AE4];exact AHw
  ·rw [ACu];split
   ·split
    ·omega
    ·have:=hF 0 j (by omega) hj;omega
   ·have:=hF i j hi hj;omega
 ·rw [hN];refine ABo (Aip Ae Ab hf) fun F hF=>?_;obtain ⟨F,rfl,hF⟩:=hF;have w1:w64 ((N:Int) - 1)=((N - 1:Nat):Int):=by rw [wk (by omega)];omega
  rw [w1];refine AB6 (ADd (by omega)) rfl (AB6 (ACn (by omega)) rfl (ABo (Q:=fun e:Int × Int=>0<=e.1/\e.1 < 2/\ ∃ p:Nat,e.2=(p:Int)/\p<=0 + 1) (ABo (AUq (L:=L) (q:=0) (by omega)) fun e he=>ABi ⟨(ASh _ 2 (by decide)).1,(ASh _ 2 (by decide)).2,he⟩) fun e he=>ABi ?_));obtain ⟨c1,c2,p,c3,c4⟩:=he;have c5:=hF (N - 1) (N - 1) (by omega) (by omega);refine ⟨p,ADg F (N - 1) fun c=>if c=N - 1 then F (N - 1) (N - 1) + e.1 else F (N - 1) c,?_,by omega,fun i j hi hj=>?_⟩
  ·rw [c3,wk (by omega),ADz,ADz];refine congrArg (fun z=>(z,(p:Int))) ?_;rw [AE4];exact AHw
  ·rw [ACu];split
   ·split
    ·omega
    ·have:=hF (N - 1) j (by omega) hj;omega
   ·have:=hF i j hi hj;omega
 ·refine ABo (Q:=fun e=> ∃ (q:Nat) (F:Nat->Nat->Int),e=(tab N N F,(q:Int))/\q<=200/\ ∀ i j,i < N->j < N->(F i j).natAbs<=9) (AEu (by rw [hN];omega) (ABo (Asy (q0:=0) (L:=L) hN Ab (by omega) hf) fun e he=>ABi ?_)) fun e he=>ABi he;obtain ⟨q,f,rfl,h2,h3⟩:=he;exact ⟨q,dgF f,rfl,by omega,fun i j hi hj=>Aiq (m:=9) h3 i j hi hj⟩
 ·refine ABo (Q:=fun e=> ∃ (q:Nat) (F:Nat->Nat->Int),e=(tab N N F,(q:Int))/\q<=200/\ ∀ i j,i < N->j < N->(F i j).natAbs<=9) (AEu (by rw [hN];omega) (ABo (Asz (q0:=0) (L:=L) hN Ab (by omega) hf) fun e he=>ABi ?_)) fun e he=>ABi he;obtain ⟨q,f,rfl,h2,h3⟩:=he;exact ⟨q,dgF f,rfl,by omega,fun i j hi hj=>Nat.le_trans (Aiq (m:=1) h3 i j hi hj) (by decide)⟩
 ·obtain ⟨q,F,rfl,h2,h3⟩:=he;dsimp only;refine ABo (As2 Ae Ab (fun i j hi hj=>Nat.le_trans (h3 i j hi hj) (by decide)) hf) fun b hb=>AB5 (fun hn=>?_) fun hn=>ABi ?_
  ·refine ABo (Q:=fun e=> ∃ f:Nat->Int,e.1=tab N N (dgF f)/\ ∀ r,r < N->1<=f r/\f r<=2) (AEu (by rw [hN];omega) (ABo (As0 (q0:=q) (L:=L) hN Ab (by omega) hf) fun e he=>ABi ?_)) fun e he=>ABi ?_
   ·obtain ⟨q,f,rfl,h4,h5⟩:=he;exact ⟨f,rfl,h5⟩
   ·obtain ⟨f,h4,h5⟩:=he;obtain ⟨d1,d2,d3⟩:=As3 Ab h5;exact ⟨N,dgF f,h4,⟨Ae,Ab,d1,d2,fun i j hi hj=>Nat.le_trans (Aiq (m:=2) h5 i j hi hj) (by decide),d3⟩,by rw [t3];omega⟩
  ·have hg:AKw N F/\AMf N F/\det N F<=10000:=hb.1 (by simpa using hn);exact ⟨N,F,rfl,⟨Ae,Ab,hg.1,hg.2.1,h3,hg.2.2⟩,by rw [t3];omega⟩
theorem As5 {fuel:Nat} {a1 a2 most:Int} {L L2:List Int} (h1:0<=a1/\a1 < 256) (hm:1<=most/\most<=8) (hf:AEr < fuel):Ok (AE6 fuel a1 a2 L L2 most) fun r=> ∃ n A,r=tab n n A/\1<=n/\(n:Int)<=most/\Acg n A/\ ∀ k,k < n->A k k<=3 * dm9:=by
  have hf2:100 < fuel:=Nat.lt_of_le_of_lt (by decide) hf;unfold AE6;refine ABo (As4 h1 hm hf2) fun g hg=>?_;obtain ⟨n,A,rfl,G,hn⟩:=hg;have t2:=Int.emod_lt_of_pos a1 (show 0 < most by omega);have t3:Int.tmod a1 most=a1 % most:=Int.tmod_eq_emod_of_nonneg h1.1
  let A0:Nat->Nat->Int:=fun i j=>if i < n/\j < n then A i j else 0
  have hA0:∀ i j,i < n->j < n->A0 i j=A i j:=fun i j hi hj=>if_pos ⟨hi,hj⟩;have e:tab n n A=tab n n A0:=ANa fun i j hi hj=>(hA0 i j hi hj).symm;refine ABo (AC9 (Agw G.n1 (by have:=G.n8;omega) (fun i j hi hj=>Nat.le_trans (G.bd i j hi hj) (by decide)) (by omega))) fun x hx=>?_;subst hx;rw [e];have hp:AMf n A0:=fun k hk=>by rw [ADe fun i j hi hj=>hA0 i j (by omega) (by omega)];exact G.pos k hk
  have hs:AKw n A0:=fun i j hi hj=>by rw [hA0 i j hi hj,hA0 j i hj hi];exact G.sym i j hi hj
  have hE:∀ i j,(A0 i j).natAbs<=9:=fun i j=>by
    show (if i < n/\j < n then A i j else 0).natAbs<=9
    split
    · next h=>exact G.bd i j h.1 h.2
    · decide
  have hh:=Anf hs hp (B:=9) (by decide) (fun i hi=>by have:=hE i i;omega)
  refine ABo (Aj8 G.n1 G.n8 hs hp (fun i j=>Nat.le_trans (hE i j) (by decide)) (fun k hk=>?_) (fun k hk=>?_) ?_ hf) fun r hr=>ABi ?_
  · have h2:=hh k hk
    have h3:(9:Int) ^ k<=9 ^ 8:=by
      have:=Nat.pow_le_pow_right (show 0 < 9 by omega) (show k<=8 by have:=G.n8;omega);have e2:∀ t:Nat,(9:Int) ^ t=((9 ^ t:Nat):Int):=fun t=>by simp
      rw [e2,e2];omega
    exact Int.le_trans h2 h3
  · have:=hE k k;have:(3 * dm9)=129140163:=by decide
    omega
  · rw [ADe hA0];exact G.dt
  · obtain ⟨A',T,rfl,R,-,-,hd⟩:=hr;exact ⟨n,A',rfl,G.n1,by rw [hn,t3];omega,R,hd⟩
theorem Ant {A:Nat->Nat->Int} {k:Nat} (h1:LvF A k) (h2:SzF A (k + 1) k) (hp:0 < det (k + 1) A):det (k + 1) A * det (k + 1) A<=2 * (det k A * det (k + 2) A):=by
 unfold LvF at h1;unfold SzF at h2;have h3:(2 * Mn k A (k + 1) k) * (2 * Mn k A (k + 1) k)<=det (k + 1) A * det (k + 1) A:=AS8 (by omega) h2.2;have h4:(2 * Mn k A (k + 1) k) * (2 * Mn k A (k + 1) k)=4 * (Mn k A (k + 1) k * Mn k A (k + 1) k):=by grind
 omega
theorem ANc {x y:Int} (h0:0<=x) (h:x<=y):∀ k:Nat,x ^ k<=y ^ k
  | 0=>by simp
  | k + 1=>by
    rw [Int.pow_succ,Int.pow_succ]
    exact Int.mul_le_mul (ANc h0 h k) h h0 (Int.le_trans (Int.pow_nonneg h0) (ANc h0 h k))
def tri:Nat->Nat
  | 0=>0
  | k + 1=>tri k + (k + 1)
theorem Agx {n:Nat} {A:Nat->Nat->Int} (hp:AMf n A) (hs:APp A n) (hl:AQ8 A n):∀ k,k + 1<=n->det k A ^ (k + 1)<=det (k + 1) A ^ k * 2 ^ tri k:=by
  intro k;induction k with
  | zero=>intro _;simp [det,tri]
  | succ k ih=>
    intro hk;have ih:=ih (by omega);have p0:=hp k (by omega);have p1:=hp (k + 1) (by omega);have p2:=hp (k + 2) (by omega);have h1:=Ant (hl k (by omega)) (hs (k + 1) k (by omega) (by omega)) p1;generalize det k A=a at *
    generalize det (k + 1) A=b at *
    generalize det (k + 2) A=c at *
    have h2:(b * b) ^ (k + 1)<=(2 * (a * c)) ^ (k + 1):=ANc (Int.le_of_lt (Int.mul_pos p1 p1)) h1 _;rw [Int.mul_pow,Int.mul_pow,Int.mul_pow] at h2;have h3:a ^ (k + 1) * c ^ (k + 1)<=b ^ k * 2 ^ tri k * c ^ (k + 1):=Int.mul_le_mul_of_nonneg_right ih (Int.le_of_lt (Int.pow_pos p2));have h4:2 ^ (k + 1) * (a ^ (k + 1) * c ^ (k + 1))<=2 ^ (k + 1) * (b ^ k * 2 ^ tri k * c ^ (k + 1)):=Int.mul_le_mul_of_nonneg_left h3 (Int.le_of_lt (AVm _));have h5:=Int.le_trans h2 h4;have e1:b ^ (k + 1) * b ^ (k + 1)=b ^ k * b ^ (k + 1 + 1):=by rw [Int.pow_succ b k,Int.pow_succ b (k + 1),Int.pow_succ b k];grind
    have e2:(2:Int) ^ (k + 1) * (b ^ k * 2 ^ tri k * c ^ (k + 1))=b ^ k * (c ^ (k + 1) * 2 ^ tri (k + 1)):=by
      have:(2:Int) ^ tri (k + 1)=2 ^ tri k * 2 ^ (k + 1):=by rw [<- Int.pow_add];rfl
      rw [this];grind
    rw [e1,e2] at h5;exact Int.le_of_mul_le_mul_left h5 (Int.pow_pos p1)
def dU:Nat->Int
  | 8=>10000
  | 7=>35777
  | 6=>64000
  | 5=>57243
  | 4=>25600
  | _=>10000
theorem Aue (k:Nat):dU k<=64000:=by unfold dU;split <;> omega
theorem Arm (k:Nat):10000<=dU k:=by unfold dU;split <;> omega
theorem Aqg:∀ k,k < 8->dU (k + 1) ^ k * 2 ^ tri k < (dU k + 1) ^ (k + 1):=by decide
theorem Aj9 {n:Nat} {A:Nat->Nat->Int} (hn:n<=8) (hp:AMf n A) (hs:APp A n) (hl:AQ8 A n) (hd:det n A<=10000):∀ m k,k + m=n->det k A<=dU k:=by
 intro m
 induction m with
 | zero=>
     intro k hk;obtain rfl:k=n:=by omega
     exact Int.le_trans hd (Arm _)
 | succ m ih=>
   intro k hk
   have h1:=ih (k + 1) (by omega)
   have h2:=Agx hp hs hl k (by omega)
   have p0:=hp k (by omega)
   have p1:=hp (k + 1) (by omega)
   rcases Int.lt_or_le (dU k) (det k A) with h | h
   · exfalso
     have h3:(dU k + 1) ^ (k + 1)<=det k A ^ (k + 1):=ANc (by have:=Arm k;omega) (by omega) _
     have h4:det (k + 1) A ^ k * 2 ^ tri k<=dU (k + 1) ^ k * 2 ^ tri k:=Int.mul_le_mul_of_nonneg_right (ANc (Int.le_of_lt p1) h1 k) (Int.le_of_lt (AVm _))
     have h5:=Aqg k (by omega)
     omega
   · exact h
theorem Aev {n:Nat} {A:Nat->Nat->Int} (hn:n<=8) (R:Acg n A) {k:Nat} (hk:k<=n):0 < det k A/\det k A<=64000:=
  ⟨R.pos k hk,Int.le_trans (Aj9 hn R.pos R.sz R.lv R.dt (n - k) k (by omega)) (Aue k)⟩
theorem AXq {n:Nat} {A:Nat->Nat->Int} (hn:n<=8) (R:Acg n A) {i j:Nat} (hi:i < n) (hj:j < n): -192000<=A i j/\A i j<=192000:=
  Aes R.sym R.pos (fun k hk=>Aei (Dm:=64000) hn R.sym R.pos hk (fun k hk=>(Aev hn R hk).2) fun l hl=>R.sz k l hl hk) hi hj
structure RB (n:Nat) (A:Nat->Nat->Int) (k:Nat):Prop where
  pos:∀ j,k < j->j<=n->0 < det j A
  lt:∀ j,k < j->j < n->det j A < 65536
  sz:∀ l i,k<=l->l < i->i < n->SzF A i l
  lv:∀ l,k<=l->l + 1 < n->LvF A l
  dt:det n A<=10000
theorem As6 {A F:Nat->Nat->Int} {m k:Nat} (h0:0 < det k A) (hF:∀ i j,i < m + 1->j < m + 1->F i j=Mn k A (k + i) (k + j)) {i j:Nat} (hi:i < m) (hj:j < m):AP1 F (det k A) i j=Mn (k + 1) A (k + 1 + i) (k + 1 + j):=by
 unfold AP1;rw [hF 0 0 (by omega) (by omega),hF (i + 1) (j + 1) (by omega) (by omega),hF (i + 1) 0 (by omega) (by omega),hF 0 (j + 1) (by omega) (by omega),Nat.add_zero,AXh (by omega),Int.mul_tdiv_cancel_left _ (by omega)];rw [show k + (i + 1)=k + 1 + i by omega,show k + (j + 1)=k + 1 + j by omega]
theorem Aew {n:Nat} {A:Nat->Nat->Int}:∀ (m k:Nat) (F:Nat->Nat->Int),k + m=n->1<=m->0 < det k A->(∀ i j,i < m->j < m->F i j=Mn k A (k + i) (k + j))->(AOn m F (det k A)=true↔RB n A k):=by
 intro m
 induction m with
 | zero=>intro k F _ h;omega
 | succ m ih=>
   intro k F hk _ h0 hF
   have Ad:F 0 0=det (k + 1) A:=by rw [hF 0 0 (by omega) (by omega)];exact ALs k A
   cases m with
   | zero=>
     obtain rfl:k + 1=n:=hk
     show decide (0 < F 0 0/\F 0 0<=10000)=true↔_
     rw [decide_eq_true_iff,Ad]
     exact ⟨fun h=>⟨fun j h1 h2=>by
       obtain rfl:j=k + 1:=by omega
       exact h.1,fun j h1 h2=>by omega,fun l i h1 h2 h3=>by omega,fun l h1 h2=>by omega,h.2⟩,fun h=>⟨h.pos (k + 1) (by omega) (Nat.le_refl _),h.dt⟩⟩
   | succ m=>
     have hN:∀ i j,i < m + 1->j < m + 1->AP1 F (det k A) i j=Mn (k + 1) A (k + 1 + i) (k + 1 + j):=fun i j hi hj=>As6 h0 hF hi hj
     have hS:AOm (m + 1 + 1) F↔(0 < det (k + 1) A/\det (k + 1) A < 65536)/\ ∀ i,k < i->i < n->SzF A i k:=by
       unfold AOm
       rw [Ad]
       refine and_congr_right fun _=>⟨fun h i h1 h2=>?_,fun h i h1 h2=>?_⟩
       · have h3:=h (i - k) (by omega) (by omega)
         rw [hF (i - k) 0 (by omega) (by omega),show k + (i - k)=i by omega] at h3
         unfold SzF
         simp only [Nat.add_zero] at h3
         omega
       · have h3:=h (k + i) (by omega) (by omega)
         unfold SzF at h3
         rw [hF i 0 h2 (by omega),Nat.add_zero]
         omega
     have hL:AT0 F (det k A)↔LvF A k:=by
       unfold AT0 LvF
       rw [Ad,hN 0 0 (by omega) (by omega),Nat.add_zero,ALs (k + 1) A,hF 1 0 (by omega) (by omega),Nat.add_zero]
       have e:3 * det (k + 1) A * det (k + 1) A=3 * (det (k + 1) A * det (k + 1) A):=by grind
       rw [e]
       exact Iff.rfl
     show (decide (AOm (m + 1 + 1) F) && (decide (AT0 F (det k A)) && AOn (m + 1) (AP1 F (det k A)) (F 0 0)))=true↔_
     rw [Bool.and_eq_true,Bool.and_eq_true,decide_eq_true_iff,decide_eq_true_iff,hS,hL,Ad]
     constructor
     · rintro ⟨⟨⟨h1,h2⟩,h3⟩,h4,h5⟩
       have R:=(ih (k + 1) _ (by omega) (by omega) h1 hN).1 h5
       refine ⟨fun j a b=>?_,fun j a b=>?_,fun l i a b c=>?_,fun l a b=>?_,R.dt⟩
       · by_cases e:j=k + 1
         · subst e;exact h1
         · exact R.pos j (by omega) b
       · by_cases e:j=k + 1
         · subst e;exact h2
         · exact R.lt j (by omega) b
       · by_cases e:l=k
         · subst e;exact h3 i b c
         · exact R.sz l i (by omega) b c
       · by_cases e:l=k
         · subst e;exact h4
         · exact R.lv l (by omega) b
     · intro R
       have h1:=R.pos (k + 1) (by omega) (by omega)
       exact ⟨⟨⟨h1,R.lt (k + 1) (by omega) (by omega)⟩,fun i a b=>R.sz k i (Nat.le_refl k) a b⟩,R.lv k (Nat.le_refl k) (by omega),(ih (k + 1) _ (by omega) (by omega) h1 hN).2 ⟨fun j a b=>R.pos j (by omega) b,fun j a b=>R.lt j (by omega) b,fun l i a b c=>R.sz l i (by omega) b c,fun l a b=>R.lv l (by omega) b,R.dt⟩⟩
def ATa (M:List (List Int)):Prop:=(1<=M.length/\M.length<=8)/\(∀ z∈M,z.length=M.length)/\Acg M.length (ent M)
theorem ARa (M:List (List Int)):isRed M=true↔ATa M:=by
 unfold isRed;rw [Bool.and_eq_true];constructor
 ·rintro ⟨h1,h2⟩;have S:=AY0 h1;have R:=(Aew (A:=ent M) (n:=M.length) M.length 0 (ent M) (by omega) S.1.1 (by simp [det]) fun i j _ _=>by rw [AN4,Nat.zero_add,Nat.zero_add]).1 (by simpa [det] using h2);refine ⟨S.1,S.2.1,fun i j hi hj=>(S.2.2 i j hi hj).1,fun k hk=>?_,fun r l h3 h4=>R.sz l r (Nat.zero_le _) h3 h4,fun l hl=>R.lv l (Nat.zero_le _) hl,R.dt⟩;rcases Nat.eq_zero_or_pos k with h | h
  ·subst h;simp [det]
  ·exact R.pos k h hk
 ·rintro ⟨h1,h2,R⟩;refine ⟨(AGn ⟨h1,h2,fun i j hi hj=>⟨R.sym i j hi hj,?_,?_⟩⟩).symm,?_⟩
  ·have:=AXq h1.2 R hi hj;omega
  ·have:=AXq h1.2 R hi hj;omega
  ·have h3:=(Aew (A:=ent M) (n:=M.length) M.length 0 (ent M) (by omega) h1.1 (by simp [det]) fun i j _ _=>by rw [AN4,Nat.zero_add,Nat.zero_add]).2 ⟨fun j _ hj=>R.pos j hj,fun j _ hj=>by have:=Aev h1.2 R (k:=j) (by omega);omega,fun l i _ a b=>R.sz i l a b,fun l _ hl=>R.lv l hl,R.dt⟩;simpa [det] using h3
theorem Agy {fuel r c:Nat} {F:Nat->Nat->Int} (hr:1<=r) (Ad:r<=16) (hc:1<=c) (Ae:c<=16) (hf:100 < fuel):ADi fuel (tab r c F)=some ((r:Int),(c:Int),true):=by
 apply ok_eq;unfold ADi;rw [AC5];refine ABo (Q:=fun ex=>match ex with | .inl _=>False | .inr _=>True) (AB5 (fun h=>by omega) fun h=>AB5 (fun h2=>by omega) fun h2=>ABi trivial) fun ex hex=>?_
 cases ex with
 | inl e=>exact hex.elim
 | inr u=>
   dsimp only
   refine ABo (ACx (fun i (s:Int)=>s=i) r (Q:=fun ex=>match ex with | .inl _=>False | .inr _=>True) rfl (by omega) fun i s hi hI=>?_) fun ex hex=>?_
   · subst hI
     unfold AFx
     rw [AC5]
     refine AB5 (fun h=>AB6 (ADd (by omega)) rfl ?_) fun h=>ABi trivial
     rw [ADb]
     refine AB5 (fun h2=>by omega) fun h2=>AB5 (fun h3=>by omega) fun h3=>AB6 (n:=0) (ADd (by omega)) rfl (AB5 (fun h4=>?_) fun h4=>ABi ⟨by omega,wk (by omega)⟩)
     rw [ADb] at h4;omega
   · cases ex with
     | inl e=>exact hex.elim
     | inr u=>exact AB6 (n:=0) (ADd (by omega)) rfl (ABi (by rw [ADb]))
theorem Aka {fuel n:Nat} {F:Nat->Nat->Int} (Ah:1<=n) (hn:n<=8) (hb:∀ i j,i < n->j < n->(F i j).natAbs<=AGo) (hf:100 < fuel):Ok (AGc fuel (tab n n F)) fun r=>r=true↔APp F n/\AQ8 F n:=by
 unfold AGc;refine ABo (AC9 (AWm Ah hn hb hf)) fun x hx=>?_;subst hx;dsimp only;refine ABo (ACx (fun i s=>s=((i:Nat):Int)/\i<=n/\APp F i/\AQ8 F i) n (Q:=fun ex=>match ex with | .inl e=>e=false/\¬ (APp F n/\AQ8 F n) | .inr _=>APp F n/\AQ8 F n) ⟨rfl,Nat.zero_le _,fun r l h1 h2=>by omega,fun r h=>by omega⟩ (by omega) fun i s hi hI=>?_) fun ex hex=>?_
 ·obtain ⟨rfl,hin,hsz,hlv⟩:=hI;unfold AIu;rw [AC5];refine AB5 (fun h=>?_) (fun h=>ABi ?_)
  ·have hi':i < n:=by omega
   refine ABo (ACx (fun k s=>s=((k:Nat):Int)/\k<=i/\ ∀ l,l < k->SzF F i l) i (Q:=fun ex=>match ex with | .inl e=>e=false/\¬ (APp F n/\AQ8 F n) | .inr _=> ∀ l,l < i->SzF F i l) ⟨rfl,Nat.zero_le _,fun l h1=>by omega⟩ (by omega) fun k s hk hK=>?_) fun ex hex=>?_
   ·obtain ⟨rfl,hki,hz⟩:=hK;unfold AIt;refine AB5 (fun h2=>?_) (fun h2=>ABi ?_)
    ·have hki':k < i:=by omega
     refine ABo (AC9 (Aid hn hi' (by omega) hb hf)) fun b Ad=>?_;subst Ad;refine AB5 (fun h3=>ABi ⟨rfl,fun h4=>?_⟩) (fun h3=>ABi ⟨by omega,by rw [wk (by omega)];omega,by omega,fun l hl=>?_⟩)
     ·have:=h4.1 i k hki' hi';rw [<- AXp] at this;simp [this] at h3
     ·have hgood:SzF F i k:=by rw [<- AXp];simpa using h3
      rcases Nat.lt_or_ge l k with h6 | h6
      ·exact hz l h6
      ·obtain rfl:l=k:=by omega
       exact hgood
    ·obtain rfl:k=i:=by omega
     exact hz
   ·cases ex with
    | inl r=>exact ABi hex
    | inr e=>
      have hsz':APp F (i + 1):=fun r l h1 h2=>by
        rcases Nat.lt_or_ge r i with h3 | h3
        · exact hsz r l h1 h3
        · obtain rfl:r=i:=by omega
          exact hex l h1
      dsimp only
      have nx:w64 ((i:Int) + 1)=((i + 1:Nat):Int):=by rw [wk (by omega)];omega
      refine AB5 (fun h4=>?_) (fun h4=>ABi ⟨by omega,nx,by omega,hsz',fun r hr=>by omega⟩)
      obtain ⟨j,rfl⟩:∃ j,i=j + 1:=⟨i - 1,by omega⟩
      refine ABo (Aeo hn hi' hb hf) fun b Ad=>?_
      refine AB5 (fun h5=>ABi ⟨rfl,fun h6=>?_⟩) (fun h5=>ABi ⟨by omega,nx,by omega,hsz',fun r hr=>?_⟩)
      · rw [Ad.2 (h6.2 j hi')] at h5;cases h5
      · have hgood:LvF F j:=Ad.1 (by simpa using h5)
        rcases Nat.lt_or_ge r j with h6 | h6
        · exact hlv r (by omega)
        · obtain rfl:r=j:=by omega
          exact hgood
  ·obtain rfl:i=n:=by omega
   exact ⟨hsz,hlv⟩
 ·cases ex with
  | inl r=>exact ABi (Iff.intro (fun h=>by rw [hex.1] at h;cases h) fun h=>absurd h hex.2)
  | inr u=>exact ABi ⟨fun _=>hex,fun _=>rfl⟩
def Ach (M:List (List Int)):Prop:= ∀ z∈M,∀ x∈z,-9223372036854775808<=x/\x<=9223372036854775807
theorem Agz {fuel:Nat} {M:List (List Int)} (hM:Ach M) (hf:100 < fuel):AEp fuel M=some (isRed M):=by
 have key:Ok (AEp fuel M) fun r=>r=true↔ATa M:=by
   unfold AEp
   refine ABo (AC9 (AWx hM (by omega))) fun x hx=>?_
   subst hx
   by_cases hk:okM M=true
   · rw [if_pos hk]
     dsimp only
     have Ag:=hk
     unfold okM at Ag
     rw [decide_eq_true_iff] at Ag
     obtain ⟨a1,a2,a3⟩:=Ag
     have hne:∃ z,M[0]? =some z:=⟨M[0],List.getElem?_eq_getElem (by omega)⟩
     obtain ⟨z,hz⟩:=hne
     have hc:ALf M=z.length:=AWi hz
     have Aj:=a3 z (List.mem_of_getElem? hz)
     have hT:M=tab M.length (ALf M) (ent M):=AX3 fun z hz=>(a3 z hz).2.2
     refine AB5 (fun _=>?_) fun h=>absurd rfl h
     by_cases hsq:ALf M=M.length/\M.length<=8
     · have Ai:M=tab M.length M.length (ent M):=by rw [hsq.1] at hT;exact hT
       have hb:∀ i j,i < M.length->j < M.length->(ent M i j).natAbs<=AGo:=fun i j hi hj=>by
         have hl:M[i].length=M.length:=by rw [(a3 _ (List.getElem_mem hi)).2.2];exact hsq.1
         rw [Ak2 hi (by omega)]
         have h1:=hM _ (List.getElem_mem hi) _ (List.getElem_mem (show j < M[i].length by omega))
         have h2:(9223372036854775808:Nat)<=AGo:=by decide
         omega
       have hR:ATa M↔Acg M.length (ent M):=⟨fun h=>h.2.2,fun h=>⟨⟨a1,hsq.2⟩,fun z hz=>by rw [(a3 z hz).2.2];exact hsq.1,h⟩⟩
       rw [hR]
       generalize hF:ent M=F at *
       generalize hL:M.length=n at *
       rw [Ai]
       refine ABo (AUo a1 hsq.2 hb hf) fun v hv=>AB5 (fun h=>?_) fun h=>ABi ⟨fun h2=>(nomatch h2),fun h2=>absurd (hv.2 ⟨h2.sym,h2.pos⟩) h⟩
       have h1:=hv.1 h
       refine ABo (AC9 (Aih hsq.2 hb hf)) fun b Ad=>?_
       subst Ad
       refine AB5 (fun h2=>?_) fun h2=>ABi ⟨fun h3=>(nomatch h3),fun h3=>absurd (decide_eq_true h3.dt) h2⟩
       refine ABo (Aka a1 hsq.2 hb hf) fun b Ad=>ABi ⟨fun h3=>?_,fun h3=>Ad.2 ⟨h3.sz,h3.lv⟩⟩
       exact ⟨h1.1,h1.2,(Ad.1 h3).1,(Ad.1 h3).2,of_decide_eq_true h2⟩
     · have hnr: ¬ ATa M:=fun h=>hsq ⟨by rw [hc];exact h.2.1 z (List.mem_of_getElem? hz),h.1.2⟩
       refine ABo (Q:=fun v=>v=3) ?_ fun v hv=>AB5 (fun h=>by omega) fun _=>ABi ⟨fun h=>(nomatch h),fun h=>absurd h hnr⟩
       unfold AD0
       refine ABo (Q:=fun e=>e.2=false∨(8:Int) < e.1) ?_ fun e he=>?_
       · unfold AEs
         rw [hT]
         refine ABo (AC9 (Agy a1 a2 (by omega) (by omega) hf)) fun x hx=>?_
         subst hx
         dsimp only
         refine AB5 (fun h=>absurd h (by decide)) fun _=>AB5 (fun h=>ABi (.inl rfl)) fun h=>ABi (.inr ?_)
         have h2:M.length=ALf M:=by omega
         dsimp only
         by_cases h3:M.length<=8
         · exact absurd ⟨h2.symm,h3⟩ hsq
         · omega
       · obtain ⟨e1,e2⟩:=e
         dsimp only at he ⊢
         refine AB5 (fun h=>ABi rfl) fun h=>AB5 (fun _=>ABi rfl) fun h2=>?_
         rcases he with rfl | he
         · exact absurd rfl h
         · exact absurd he h2
   · rw [if_neg hk]
     refine AB5 (fun h=>(nomatch h)) fun _=>ABi ⟨fun h=>(nomatch h),fun h=>absurd ?_ hk⟩
     obtain ⟨h1,h2,_⟩:=h
     unfold okM
     rw [decide_eq_true_iff]
     have hc:ALf M=M.length:=by rw [AWi (List.getElem?_eq_getElem (show 0 < M.length by omega))];exact h2 _ (List.getElem_mem _)
     exact ⟨by omega,by omega,fun z hz=>by rw [h2 z hz,hc];exact ⟨by omega,by omega,rfl⟩⟩
 obtain ⟨r,h1,h2⟩:=key;rw [h1];congr 1;rw [<- ARa] at h2;cases r <;> cases h:isRed M <;> simp_all
end Go.Proofs.YtiegjkmfpcgjjaaGreatDoor
namespace Go.Proofs.YtiegjkmfpcgjjaaGreatDoor
open Go Go.QF
open Go.ChangeShapes Go.WideShapes Go.ChangeAt Go.RowKit
set_option maxRecDepth 100000
theorem Akb:Tryz.prog.cellsOf 26=4:=by kernel_rfl
theorem wf_i64 {z:Int} (h:(Lit.int .i64 z).wf=true): -9223372036854775808<=z/\z<=9223372036854775807:=by
 simp [Lit.wf,IntKind.min,IntKind.max,IntKind.bits,IntKind.signed] at h;omega
theorem As7 {H:Type} {enc:TypeId × Value->H} {W:World} {fuel:Nat} {v:Value} {x:DataW H × List MemPlace} (hf:DataW.trod enc Tryz.prog W 0 (fun _=>true) true fuel 22 [v]=some x):∃ M,AFn (cI .i64) W.heap v M/\Ach M:=by
  rcases Deep.open_int_rows Tryz.underlying22 Tryz.underlying23 Tryz.underlying2 Ai9 AVz hf with ⟨hcs,_⟩ | ⟨a',len',cap',A,L,C,Z,hcs,_,hl,_,_,hrow⟩
  · simp at hcs;subst hcs;exact ⟨[],Al8 _ _,fun z hz=>by cases hz⟩
  · simp at hcs;subst hcs
    have hM:Mat W.heap (.slice (some a') len' cap') ((List.range len').map fun r=>(Z r).take (L r)):=by
      refine ⟨(List.range len').map fun r=> .slice (A r) (L r) (C r),?_,by simp,fun i r z hr hz=>?_⟩
      · refine AP5 (by simp) (fun h=>by cases h) fun a'' ha i x hx=>?_;injection ha with ha;subst ha;have hi:i < len':=by have:=(List.getElem?_eq_some_iff.1 hx).1;simpa using this
        simp [hi] at hx;subst hx;exact (hrow i (by omega)).1
      · have hi:i < len':=by have:=(List.getElem?_eq_some_iff.1 hr).1;simpa using this
        simp [hi] at hr hz;subst hr;subst hz;obtain ⟨_,hLC,_,hZ,_,hnone,hcell⟩:=hrow i (by omega);refine AP5 (by simp;omega) (fun h=>by have:=hnone h;omega) fun a'' ha c x hx=>?_;have hc:c < L i:=by have:=(List.getElem?_eq_some_iff.1 hx).1;simp at this;omega
        have:=(hcell a'' ha).2 c (by omega);rw [this];rw [List.getElem?_map,List.getElem?_take,if_pos hc,List.getElem?_eq_getElem (by omega)] at hx;simp only [Option.map_some,Option.some.injEq] at hx;rw [<- hx,List.getD_eq_getElem?_getD,List.getElem?_eq_getElem (by omega)];rfl
    refine ⟨_,Ah7 hM ⟨_,_,_,rfl,hl⟩,fun z hz x hx=>?_⟩;obtain ⟨r,hr,rfl⟩:=List.mem_map.1 hz;have hr':r < len':=List.mem_range.1 hr;exact wf_i64 ((hrow r (by omega)).2.2.2.2.1 x (List.mem_of_mem_take hx))
theorem Anu {H:Type} {enc:TypeId × Value->H} {W:World} {v:Value} {d:DataW H} {p:List MemPlace} (hv:∃ a len cap,v= .slice a len cap) (h:DataW.Trod enc Tryz.prog W 0 (fun _=>true) true 22 v d p):∃ M,AFn (cI .i64) W.heap v M/\Ach M:=by
 obtain ⟨fuel,hf⟩:=h;obtain ⟨a,len,cap,rfl⟩:=hv;exact As7 hf
theorem Anv {H:Type} {enc:TypeId × Value->H} {W:World} {r:Reach} {b0:Nat} {v:Value} {d:DataW H} {p:List MemPlace} (hv:Value.okWide Tryz.prog W r b0 26 v) (h:DataW.Trod enc Tryz.prog W 0 (fun _=>true) true 26 v d p):
    ∃ (g k:Int) (lv bv:Value) (Z Y:List Int),v= .agg #[.int .u8 g,.int .u8 k,lv,bv]/\SlC (cI .i8) W.heap lv Z/\SlC (cI .i8) W.heap bv Y/\(0<=g/\g < 256)/\(0<=k/\k < 256)/\(∀ z∈Z,-128<=z/\z<=127)/\ ∀ z∈Y,-128<=z/\z<=127:=by
  obtain ⟨cs,rfl,hsz⟩:=okWide_struct Tryz.underlying26 hv;rw [Akb] at hsz;obtain ⟨l⟩:=cs
  match l,hsz with
  | [c0,c1,c2,c3],_=>
    obtain ⟨fuel,hf⟩:=h;obtain ⟨y0,y1,y2,y3,n,_,_,h0,h1,h2,h3⟩:=Joins.trod_struct4 Tryz.underlying26 hf;simp [Value.cells,Alg,Alh] at h0 h1 h2 h3;obtain ⟨x0,e0,_,w0⟩:=DataW.trod_int Tryz.underlying5 h0;obtain ⟨x1,e1,_,w1⟩:=DataW.trod_int Tryz.underlying5 h1;simp at e0 e1;subst e0;subst e1;have b0:=wf_u8 w0;have b1:=wf_u8 w1;obtain ⟨Z,HZ,hZ⟩:=Ali h2;obtain ⟨Y,HY,hY⟩:=Ali h3;exact ⟨x0,x1,c2,c3,Z,Y,rfl,Ab1 HZ,Ab1 HY,by omega,by omega,hZ,hY⟩
end Go.Proofs.YtiegjkmfpcgjjaaGreatDoor
namespace Go.QF
open Go
theorem AP9:∀ u∈([]:List Value),isOne u=true:=fun u h=>by cases h
theorem AKx {v:Value} {l:List Value} (h:isOne v=true) (H:∀ u∈l,isOne u=true):∀ u∈v :: l,isOne u=true:=fun u hu=>(List.mem_cons.1 hu).elim (fun e=>e ▸ h) (H u)
section
variable {P:Program} {B:ABk->Prop} {st:Bool} {ops:Array Oper} {rest:List Oper} {e:Env} {h:ABk} {K:Env->ABk->Prop} {d:Nat} {ty:TypeId} {pos:String} {af:Array Edge}
end
end Go.QF
