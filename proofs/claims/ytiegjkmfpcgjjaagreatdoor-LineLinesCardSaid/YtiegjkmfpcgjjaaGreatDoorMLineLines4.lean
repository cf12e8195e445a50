/-
  Texts of a proof, joined. Conditions stand in each statement.
-/
import Derived.Test.YtiegjkmfpcgjjaaGreatDoorMLineLines3
set_option linter.unusedVariables false
set_option linter.unusedSimpArgs false
namespace Go.Proofs.YtiegjkmfpcgjjaaGreatDoor
open Go Go.QF
set_option maxRecDepth 100000
set_option maxHeartbeats 4000000
def AFk (fuel:Nat) (a1:Int) (a5:LiA) (Ac Aa Ad:Int) (Ae:LiI):Option ((Int × Int × LiI) ⊕ ((Int × LiI))):=
  (if Aa < ((List.replicate (Int.toNat (w64 (1 + (Int.tmod (w64 a1) Ac)))) ([]:List Int)).length:Int) then (if 0<=(w64 (1 + (Int.tmod (w64 a1) Ac)))/\(w64 (1 + (Int.tmod (w64 a1) Ac)))<=100000000 then ((gI Ae Aa).bind fun Ao=>((gI (sI Ae Aa (List.replicate (Int.toNat (w64 (1 + (Int.tmod (w64 a1) Ac)))) (0:Int))) Aa).bind fun Ag=>(((((if (a5.length:Int)<=Ad then (some ( (0,Ad))) else ((gI a5 (w64 ((w64 (Ad + 1)) - 1))).bind fun Ah=>(some ( ((w64 Ah),(w64 (Ad + 1))))))):Option (Int × Int)).bind fun (Ai,Aj)=>(some ( ((Int.tmod (w64 (IntKind.wrap .u8 Ai)) 6),Aj)))):Option (Int × Int)).bind fun (Ak,Am)=>((gI Ag Aa).bind fun Ap=>(some (Sum.inl ((w64 (Aa + 1)),Am,(sI (sI Ae Aa (List.replicate (Int.toNat (w64 (1 + (Int.tmod (w64 a1) Ac)))) (0:Int))) Aa (sI Ag Aa (w64 (1 + Ak))))))))))) else none) else (some (Sum.inr<| (Ad,Ae))))
def AHb (fuel:Nat) (a5:LiA) (Ab Aa Ac:Int) (Ad:LiI):Option ((Int × Int × LiI) ⊕ ((Int × LiI))):=
  (if Aa < Ab then ((gI Ad Ab).bind fun Ae=>(((if (a5.length:Int)<=Ac then (some ( (0,Ac))) else ((gI a5 (w64 ((w64 (Ac + 1)) - 1))).bind fun Ai=>(some ( ((w64 Ai),(w64 (Ac + 1))))))):Option (Int × Int)).bind fun (Af,Aj)=>((gI Ae Aa).bind fun Ao=>((gI (sI Ad Ab (sI Ae Aa (Int.tmod Af 3))) Aa).bind fun Ah=>((gI (sI Ad Ab (sI Ae Aa (Int.tmod Af 3))) Ab).bind fun Ak=>((gI Ak Aa).bind fun Am=>((gI Ah Ab).bind fun Ap=>(some (Sum.inl ((w64 (Aa + 1)),Aj,(sI (sI Ad Ab (sI Ae Aa (Int.tmod Af 3))) Aa (sI Ah Ab Am)))))))))))) else (some (Sum.inr<| (Ac,Ad))))
def AFl (fuel:Nat) (a5:LiA) (Ae:LiI) (Aa Ab:Int) (Ac:LiI):Option ((Int × Int × LiI) ⊕ ((Int × LiI))):=
  (if Aa < (Ae.length:Int) then ((iter (fun s=>AHb fuel a5 Aa s.1 s.2.1 s.2.2) fuel (0,Ab,Ac)).bind (fun ((Af,Ag):Int × LiI)=>(some (Sum.inl ((w64 (Aa + 1)),Af,Ag))))) else (some (Sum.inr<| (Ab,Ac))))
def AFa (fuel:Nat) (a1:Int) (a5:LiA) (Ac Aa Ad:Int) (Ae:LiI):Option ((Int × Int × LiI) ⊕ ((Int × LiI))):=
  (if Aa < ((List.replicate (Int.toNat (w64 (1 + (Int.tmod (w64 a1) Ac)))) ([]:List Int)).length:Int) then (if 0<=(w64 (1 + (Int.tmod (w64 a1) Ac)))/\(w64 (1 + (Int.tmod (w64 a1) Ac)))<=100000000 then ((gI Ae Aa).bind fun Ao=>((gI (sI Ae Aa (List.replicate (Int.toNat (w64 (1 + (Int.tmod (w64 a1) Ac)))) (0:Int))) Aa).bind fun Ag=>(((((if (a5.length:Int)<=Ad then (some ( (0,Ad))) else ((gI a5 (w64 ((w64 (Ad + 1)) - 1))).bind fun Ah=>(some ( ((w64 Ah),(w64 (Ad + 1))))))):Option (Int × Int)).bind fun (Ai,Aj)=>(some ( ((Int.tmod (w64 (IntKind.wrap .u8 Ai)) 9),Aj)))):Option (Int × Int)).bind fun (Ak,Am)=>((gI Ag Aa).bind fun Ap=>(some (Sum.inl ((w64 (Aa + 1)),Am,(sI (sI Ae Aa (List.replicate (Int.toNat (w64 (1 + (Int.tmod (w64 a1) Ac)))) (0:Int))) Aa (sI Ag Aa (w64 (1 + Ak))))))))))) else none) else (some (Sum.inr<| (Ad,Ae))))
def AFb (fuel:Nat) (a1:Int) (a5:LiA) (Ac Aa Ad:Int) (Ae:LiI):Option ((Int × Int × LiI) ⊕ ((Int × LiI))):=
  (if Aa < ((List.replicate (Int.toNat (w64 (1 + (Int.tmod (w64 a1) Ac)))) ([]:List Int)).length:Int) then (if 0<=(w64 (1 + (Int.tmod (w64 a1) Ac)))/\(w64 (1 + (Int.tmod (w64 a1) Ac)))<=100000000 then ((gI Ae Aa).bind fun Ao=>((gI (sI Ae Aa (List.replicate (Int.toNat (w64 (1 + (Int.tmod (w64 a1) Ac)))) (0:Int))) Aa).bind fun Ag=>(((((if (a5.length:Int)<=Ad then (some ( (0,Ad))) else ((gI a5 (w64 ((w64 (Ad + 1)) - 1))).bind fun Ah=>(some ( ((w64 Ah),(w64 (Ad + 1))))))):Option (Int × Int)).bind fun (Ai,Aj)=>(some ( ((Int.tmod (w64 (IntKind.wrap .u8 Ai)) 1),Aj)))):Option (Int × Int)).bind fun (Ak,Am)=>((gI Ag Aa).bind fun Ap=>(some (Sum.inl ((w64 (Aa + 1)),Am,(sI (sI Ae Aa (List.replicate (Int.toNat (w64 (1 + (Int.tmod (w64 a1) Ac)))) (0:Int))) Aa (sI Ag Aa (w64 (1 + Ak))))))))))) else none) else (some (Sum.inr<| (Ad,Ae))))
def AFc (fuel:Nat) (a1:Int) (a5:LiA) (Ac Aa Ad:Int) (Ae:LiI):Option ((Int × Int × LiI) ⊕ ((Int × LiI))):=
  (if Aa < ((List.replicate (Int.toNat (w64 (1 + (Int.tmod (w64 a1) Ac)))) ([]:List Int)).length:Int) then (if 0<=(w64 (1 + (Int.tmod (w64 a1) Ac)))/\(w64 (1 + (Int.tmod (w64 a1) Ac)))<=100000000 then ((gI Ae Aa).bind fun Ao=>((gI (sI Ae Aa (List.replicate (Int.toNat (w64 (1 + (Int.tmod (w64 a1) Ac)))) (0:Int))) Aa).bind fun Ag=>(((((if (a5.length:Int)<=Ad then (some ( (0,Ad))) else ((gI a5 (w64 ((w64 (Ad + 1)) - 1))).bind fun Ah=>(some ( ((w64 Ah),(w64 (Ad + 1))))))):Option (Int × Int)).bind fun (Ai,Aj)=>(some ( ((Int.tmod (w64 (IntKind.wrap .u8 Ai)) 2),Aj)))):Option (Int × Int)).bind fun (Ak,Am)=>((gI Ag Aa).bind fun Ap=>(some (Sum.inl ((w64 (Aa + 1)),Am,(sI (sI Ae Aa (List.replicate (Int.toNat (w64 (1 + (Int.tmod (w64 a1) Ac)))) (0:Int))) Aa (sI Ag Aa (w64 (1 + Ak))))))))))) else none) else (some (Sum.inr<| (Ad,Ae))))
def AE6 (fuel:Nat) (a1 a2:Int) (a5 a9:LiA) (Aa:Int):Option LiI:=
  (if Aa≠0 then (((((if (Int.tmod a2 8)=0 then (some ( (decide ((Int.tmod a2 8)=0)))) else (if (Int.tmod a2 8)=1 then (some ( (decide ((Int.tmod a2 8)=1)))) else (if (Int.tmod a2 8)=2 then (some ( (decide ((Int.tmod a2 8)=2)))) else (some ( (decide ((Int.tmod a2 8)=3))))))):Option ((Bool))).bind (fun (Ak:Bool)=>(if Ak=true then (((((if 0<=(w64 (1 + (Int.tmod (w64 a1) Aa)))/\(w64 (1 + (Int.tmod (w64 a1) Aa)))<=100000000 then ((iter (fun s=>AFk fuel a1 a5 Aa s.1 s.2.1 s.2.2) fuel (0,0,(List.replicate (Int.toNat (w64 (1 + (Int.tmod (w64 a1) Aa)))) ([]:List Int)))).bind (fun ((Am,Ao):Int × LiI)=>(some ( (Ao,Am))))) else none):Option (LiI × Int)).bind fun (Ae,Ap)=>((iter (fun s=>AFl fuel a5 Ae s.1 s.2.1 s.2.2) fuel (0,Ap,Ae)).bind (fun ((Aq,Ar):Int × LiI)=>(some ( (Ar,Aq)))))):Option (LiI × Int)).bind fun (Au,Av)=>(some ( (Au,Av)))) else (if (Int.tmod a2 8)=4 then ((AGb fuel (w64 (1 + (Int.tmod (w64 a1) Aa))) false).bind fun Af=>((gI Af 0).bind fun Ag=>((gI Ag 0).bind fun Aw=>(((((if (a5.length:Int)<=0 then (some ( (0,0))) else ((gI a5 (w64 ((w64 (0 + 1)) - 1))).bind fun Ax=>(some ( ((w64 Ax),(w64 (0 + 1))))))):Option (Int × Int)).bind fun (Ay,Az)=>(some ( ((Int.tmod (w64 (IntKind.wrap .u8 Ay)) 3),Az)))):Option (Int × Int)).bind fun (A3,A4)=>(some ( ((sI Af 0 (sI Ag 0 (w64 (Aw + A3)))),A4))))))) else (if (Int.tmod a2 8)=5 then ((AGb fuel (w64 (1 + (Int.tmod (w64 a1) Aa))) true).bind fun Ah=>((gI Ah (w64 ((w64 (1 + (Int.tmod (w64 a1) Aa))) - 1))).bind fun Ai=>((gI Ai (w64 ((w64 (1 + (Int.tmod (w64 a1) Aa))) - 1))).bind fun A5=>(((((if (a5.length:Int)<=0 then (some ( (0,0))) else ((gI a5 (w64 ((w64 (0 + 1)) - 1))).bind fun A6=>(some ( ((w64 A6),(w64 (0 + 1))))))):Option (Int × Int)).bind fun (A7,A8)=>(some ( ((Int.tmod (w64 (IntKind.wrap .u8 A7)) 2),A8)))):Option (Int × Int)).bind fun (A9,Ba)=>(some ( ((sI Ah (w64 ((w64 (1 + (Int.tmod (w64 a1) Aa))) - 1)) (sI Ai (w64 ((w64 (1 + (Int.tmod (w64 a1) Aa))) - 1)) (w64 (A5 + A9)))),Ba))))))) else (if (Int.tmod a2 8)=6 then (((if 0<=(w64 (1 + (Int.tmod (w64 a1) Aa)))/\(w64 (1 + (Int.tmod (w64 a1) Aa)))<=100000000 then ((iter (fun s=>AFa fuel a1 a5 Aa s.1 s.2.1 s.2.2) fuel (0,0,(List.replicate (Int.toNat (w64 (1 + (Int.tmod (w64 a1) Aa)))) ([]:List Int)))).bind (fun ((Bb,Bc):Int × LiI)=>(some ( (Bc,Bb))))) else none):Option (LiI × Int)).bind fun (Be,Bf)=>(some ( (Be,Bf)))) else (((if 0<=(w64 (1 + (Int.tmod (w64 a1) Aa)))/\(w64 (1 + (Int.tmod (w64 a1) Aa)))<=100000000 then ((iter (fun s=>AFb fuel a1 a5 Aa s.1 s.2.1 s.2.2) fuel (0,0,(List.replicate (Int.toNat (w64 (1 + (Int.tmod (w64 a1) Aa)))) ([]:List Int)))).bind (fun ((Bg,Bh):Int × LiI)=>(some ( (Bh,Bg))))) else none):Option (LiI × Int)).bind fun (Bi,Bj)=>(some ( (Bi,Bj)))))))))):Option ((LiI × Int))).bind (fun ((Aj,Bl):LiI × Int)=>((AIa fuel Aj).bind fun Bm=>(if (!Bm)=true then (((if 0<=(w64 (1 + (Int.tmod (w64 a1) Aa)))/\(w64 (1 + (Int.tmod (w64 a1) Aa)))<=100000000 then ((iter (fun s=>AFc fuel a1 a5 Aa s.1 s.2.1 s.2.2) fuel (0,Bl,(List.replicate (Int.toNat (w64 (1 + (Int.tmod (w64 a1) Aa)))) ([]:List Int)))).bind (fun ((Bn,Bo):Int × LiI)=>(some ( (Bo,Bn))))) else none):Option (LiI × Int)).bind fun (Bp,Br)=>(some Bp)) else (some Aj))))) else none)
theorem AN3 {fuel:Nat} {h:ABj} {a1 a2:Int} {Ab:Value} {a5:LiA} {Cb:Value} {a9:LiA} {Af:Int} {r:LiI} (H4:SlC (cI .i8) h Ab a5) (H8:SlC (cI .i8) h Cb a9) (hp:AE6 fuel a1 a2 a5 a9 Af=some r):ACa Tryz.prog 30 #[(.agg #[(.int .u8 a1),(.int .u8 a2),Ab,Cb]),(.int .i64 Af)] h (fun x h'=>Ext h h'/\ ∃ (x0:Value) (F0:List Nat) (Iu:List LnA) (Iv:List Value),x=x0/\AFh (cI .i64) 23 2 h' F0 Iu Iv x0 r/\Sp h' h.size [F0]):=by
 unfold AE6 at hp;refine cwf (l:=[_,_]) Tryz.func30 rfl rfl (ABl (AIj [(.int .u8 a1),(.int .u8 a2),Ab,Cb] trivial tt2 rfl rfl fun Wm Wn Iw Ix Iy=>ACr (AJd As3 rfl ?_)));have Cd:=(Kst.k0 h).nb Ix Iy Iw;refine AB9 APy rfl ((Cd.b p0).cell (i:=2) rfl) ?_;obtain ⟨_,_,_,Iz⟩:=(H4.ext Cd.x).shape;refine AMr (v:=(.agg #[Ab,(.int .i64 0)])) (fun _=>by subst Iz;kernel_rfl) (AIj [Ab,(.int .i64 0)] trivial tt2 rfl rfl fun Aa Wo I0 I1 I2=>ACr (AJd As1 rfl ?_));have A4:=Cd.nb I1 I2 I0;refine AB9 Aul rfl ((A4.b p1).cell (i:=0) rfl) (AMv AQq AR8 rfl (Wl ?_));obtain ⟨I3,I6⟩:=ifN hp;refine AGj rfl rfl I3 (AC3 rfl rfl (ACr (ABq ?_)));obtain ⟨I7,I9,D9⟩:=ABm I6;refine ANx 147573952589676150912 (fun x:(LiI) × (Value) × LnA × LnN × LvA × (Int)=>[(7,x.2.1)]) (fun x h'=>( (x.1,x.2.2.2.2.2))=I7/\Kst h h' (aO2 (cI .i64) 23 2 x.2.2.1 x.2.2.2.1 x.2.2.2.2.1 x.2.1 x.1 :: ((AJf A4.L [0]).set 0 (aB 76 Aa [Ab,(.int .i64 x.2.2.2.2.2)])))) ?_ ?_
 ·refine ABl (AJd As2 rfl (AB9 Aul rfl ((A4.b p1).cell (i:=1) rfl) (AGj rfl rfl (by decide) (ABp (ABr ?_)))));obtain ⟨Ja,Ea,Ce⟩:=ABm I9;refine ANx 520093696 (fun x:(Bool)=>[(24,(.bool x))]) (fun x h'=>( x)=Ja/\Kst h h' (AJf A4.L [0])) ?_ ?_
  ·refine ABl (ADk rfl rfl (ABq (⟨_,rfl,fun Cf=>?_,fun Cf=>?_⟩)))
   ·refine ABt (q_t ?_);exact ⟨((decide ((Int.tmod a2 8)=0)):(Bool)),⟨ABk (AC5 Ea Cf),A4.sel [0] (by decide)⟩,rfl,trivial⟩
   ·refine ABl (ADk rfl rfl (ABq ?_));have Eb:=AC6 Ea Cf;refine ⟨_,rfl,fun Cg=>?_,fun Cg=>?_⟩
    ·refine ABt (q_t ?_);exact ⟨((decide ((Int.tmod a2 8)=1)):(Bool)),⟨ABk (AC5 Eb Cg),A4.sel [0] (by decide)⟩,rfl,trivial⟩
    ·refine ABl (ADk rfl rfl (ABq ?_));have Ec:=AC6 Eb Cg;refine ⟨_,rfl,fun Ch=>?_,fun Ch=>?_⟩
     ·refine ABt (q_t ?_);exact ⟨((decide ((Int.tmod a2 8)=2)):(Bool)),⟨ABk (AC5 Ec Ch),A4.sel [0] (by decide)⟩,rfl,trivial⟩
     ·refine ABy (ADk rfl rfl (ABq ?_));exact ⟨((decide ((Int.tmod a2 8)=3)):(Bool)),⟨ABk (AC6 Ec Ch),A4.sel [0] (by decide)⟩,rfl,trivial⟩
  rintro Jc Je Jf ⟨Jg,Ao⟩;(try dsimp only [Kst.L,List.set,AJf,AMg] at Ao);refine (show W _ _ _ (setL [(24,(.bool Jc))] (mix _ Je _)) Jf from ?_);subst Jg;(try dsimp only at Ce);refine ⟨_,rfl,fun Ci=>?_,fun Ci=>?_⟩
  ·refine ABy (Wl (Wl ?_));obtain ⟨Jh,Ji,Ed⟩:=ABm (ifT Ce Ci);refine ACp (K':=(fun xr h'=> ∃ x:(LiI) × (Value) × LnA × LnN × LvA × (Int),(x.1,x.2.2.2.2.2)=Jh/\xr=x.2.1/\Kst h h' (aO2 (cI .i64) 23 2 x.2.2.1 x.2.2.2.1 x.2.2.2.2.1 x.2.1 x.1 :: (Ao.L.set 0 (aB 76 Aa [Ab,(.int .i64 x.2.2.2.2.2)]))))) trivial rfl ?_ fun Ee Wp Jj=>?_
   ·refine cwf (l:=[_,_]) Tryz.func60 rfl rfl (ABl (ACr (Wl (Wl ?_))));obtain ⟨Jk,Jl,Ef⟩:=ABm Ji;refine ACp (K':=(fun xr h'=> ∃ x:(LiI) × (Value) × LnA × LnN × LvA × (Int),(x.1,x.2.2.2.2.2)=Jk/\xr=x.2.1/\Kst h h' (aO2 (cI .i64) 23 2 x.2.2.1 x.2.2.2.1 x.2.2.2.2.1 x.2.1 x.1 :: (Ao.L.set 0 (aB 76 Aa [Ab,(.int .i64 x.2.2.2.2.2)]))))) trivial rfl ?_ fun Bp Wq Jm=>?_
    ·refine cwf (l:=[_,_,_]) Tryz.func63 rfl rfl (ABl (ACr (Wl ?_)));obtain ⟨Jn,Jo⟩:=ifN Jl;refine AVy (cI .i64) 2 AB4 AMw rfl trivial tt2 rfl rfl (by decide) Jn fun Jp Jq Jr Eg Wr Js Jt Ju=>ABq (ABn (ABl (Wl ?_)));have Cj:=Ao.no2 Jt Ju Js;refine ADh AB4 rfl (Cj.o2 p0).rd (Wl (ABp (ABr ?_)));obtain ⟨Eh,Jv,Ei⟩:=ABm Jo;obtain ⟨Jw,Jx,Jy⟩:=ACj Jv;refine ACk 4294959360 (fun x:(Int) × (Int) × (LiI) × LnA × LnN × LvA=>[(13,(.int .i64 x.1))]) (fun k x h'=>iter Jw k (x.1,x.2.1,x.2.2.1)=some Eh/\Kst h h' ((Cj.L.set 0 (aO2 (cI .i64) 23 2 x.2.2.2.1 x.2.2.2.2.1 x.2.2.2.2.2 Eg x.2.2.1)).set 1 (aB 76 Aa [Ab,(.int .i64 x.2.1)]))) (by kernel_rfl) fuel ((0,0,(List.replicate (Int.toNat (w64 (1 + (Int.tmod (w64 a1) Af)))) ([]:List Int)),Jp,Jq,Jr):(Int) × (Int) × (LiI) × LnA × LnN × LvA) ?_ ⟨rfl,trivial⟩ ?_
     ·exact ⟨Jy,Cj⟩
     rintro Ws ⟨Ap,Bq,Ej,Jz,Ck,Ek⟩ J0 J1 ⟨J2,Cm⟩;(try dsimp only [Kst.L,List.set,AJf,AMg] at Cm);refine (show W _ _ _ (setL [(13,(.int .i64 Ap))] (mix _ J0 _)) J1 from ?_);obtain ⟨J3,Wt,rfl,Ba,Cn⟩:=AB5 J2;rw [Jx] at Ba;dsimp only at Ba;unfold AFk at Ba;refine ABl (AC1 rfl rfl (ABp (ABn (⟨_,rfl,fun Co=>?_,fun Co=>?_⟩))))
     ·refine ABt (q_t (ABn (ABr (ABl (Wl (ACr (Wl (Wl (Wl ?_)))))))));obtain ⟨J4,J5⟩:=ifN (AC5 Ba Co);refine ASc (c:=(cI .i64)) (a:=0) ABx AHn rfl rfl (fun _=>rfl) rfl trivial tt2 rfl rfl (by decide) J4 fun El J6 Wu J7 J8 J9 Ka=>?_;have Bb:=Cm.no J8 (AGy J9 Ka) J7;obtain ⟨Wv,Em,Kb⟩:=ABm J5;refine ADx AB4 rfl (Bb.o2 p1) rfl Em fun Kc Ww Kd Wx Wy=>AXn ACo (Bb.o2 p1) Em Kd rfl rfl (Bb.o p0) (Bb.dj p0 p1 (by decide)) fun Av Ke Kf Kg=>ABp (AEs (fun h'=>UpT ([Aa] ++ []) Av h') (by kernel_rfl) ?_);have Ah:=Bb.m2 p0 p1 (by decide) Kf Ke (fun z hz=> .inl (Kg z hz));have Cp:UpT ([Aa] ++ []) Av Av:=UpT.start (AD9 (AGz (Ah.b p2) rfl) all_nil);refine Wl (Wl ?_);obtain ⟨Kh,Cq,Ki⟩:=ABm Kb;refine ADx AB4 rfl (Ah.o2 p1) rfl Cq fun Wz W0 Kj Kk Kl=>AGw ACo rfl Cp (fun h' hb=>ALa Kl hb (AQ4 (Ah.dj p1 p2 (by decide) _ (by simp [aO,aO2,Kj])) AQ5)) (Wl (Wl (Wl ?_)));obtain ⟨Km,Kn,En⟩:=ABm Ki;have Ko:UpT ([Aa] ++ []) Av Av:=UpT.start (AD9 (AGz (Ah.b p2) rfl) all_nil);refine ACp (K':=(fun xr h'=> ∃ x:(Int) × (Int),(x.1,x.2)=Km/\xr=(.int .i64 x.1)/\Kst h h' ((AJf Ah.L [1,2]).set 1 (aB 76 Aa [Ab,(.int .i64 x.2)]))/\UpT ([Aa] ++ []) Av h')) Cp rfl ?_ fun W1 W3 Kp=>?_
      ·refine cwf (l:=[_,_]) Tryz.func62 rfl rfl (ABl (ACr (Wl ?_)));obtain ⟨Kr,Eo,Ep⟩:=ABm Kn;have Er:UpT ([Aa] ++ []) Av Av:=UpT.start (AD9 (AGz (Ah.b p2) rfl) all_nil);refine ACp (K':=(fun xr h'=> ∃ x:(Int) × (Int),(x.1,x.2)=Kr/\xr=(.int .i64 x.1)/\Kst h h' ((AJf Ah.L [1,2]).set 1 (aB 76 Aa [Ab,(.int .i64 x.2)]))/\UpT ([Aa] ++ []) Av h')) trivial rfl ?_ fun W4 W5 Kt=>?_
       ·refine cwf (l:=[_]) Tryz.func50 rfl rfl (ABl (ABq (ABn (ABn (ANr (Wl (AJy rfl (AJd AEa rfl (AB9 AFq rfl ((Ah.b p2).cell (i:=1) rfl) (Wl (AJy rfl (AJd AJq rfl (AB9 APy rfl ((Ah.b p2).cell (i:=0) rfl) (AD1 AQp rfl H4 (ANe rfl rfl (ABp (⟨_,rfl,fun Cr=>?_,fun Cr=>?_⟩)))))))))))))))))
        ·refine ABl (ABq (ABs (AB2 (⟨_,ABu,((0,Bq):(Int) × (Int)),?_,rfl,?_,?_⟩))))
         ·exact ABk (AC5 Eo Cr)
         ·exact Ah.sel [1,2] (by decide)
         ·exact Er
        ·refine ABt (q_t (ABl (Wl (AJy rfl (AJd AEa rfl (AB9 AFq rfl ((Ah.b p2).cell (i:=1) rfl) (AC3 rfl rfl (AJy rfl (AJd AEa rfl (AVt [Ab,(.int .i64 (w64 (Bq + 1)))] AFq rfl rfl rfl (Ah.b p2) (Nat.le_of_ble_eq_true rfl) rfl fun W6 Es Et=>ABp (ABn (ANr (Wl (AJy rfl (AJd AJq rfl ?_)))))))))))))));have Br:=Ah.sb p2 Et Es rfl;refine AB9 APy rfl ((Br.b p2).cell (i:=0) rfl) (Wl (AJy rfl (AJd AEa rfl (AB9 AFq rfl ((Br.b p2).cell (i:=1) rfl) (AHd rfl rfl ?_)))));obtain ⟨Ku,Kv,Kw⟩:=ABm (AC6 Eo Cr);refine AIw (c:=(cI .i8)) AQp rfl H4 rfl Kv fun W7 W8 W9 Kx Ky=>?_;obtain rfl:=Kx;refine AB9 AY2 rfl (AB0 (Ky 0 _ rfl) Br.x) (AMv AY3 ALw rfl (ABq (ABs (⟨_,ABu,(((w64 Ku),(w64 (Bq + 1))):(Int) × (Int)),?_,rfl,?_,?_⟩))))
         ·exact ABk Kw
         ·exact Br.sel [1,2] (by decide)
         ·exact (Er.then (Es.stA Et (AGz (Ah.b p2) rfl) rfl) (AL7 rfl))
       obtain ⟨⟨Kz,K3⟩,K5,rfl,Eu,K6⟩:=Kt;(try dsimp only [Kst.L,List.set,AJf,AMg] at Eu);refine ⟨trivial,?_⟩;subst K5;(try dsimp only at Ep);refine AMv ALw AQq rfl (AMv AQq AR8 rfl (Wl (AGj rfl rfl (by decide) (ABq (ABs (⟨_,ABu,(((Int.tmod (w64 (IntKind.wrap .u8 Kz)) 6),K3):(Int) × (Int)),?_,rfl,?_,?_⟩))))))
       ·exact ABk Ep
       ·exact Eu
       ·exact (Ko.then K6 (AD9 (AL7 rfl) all_nil))
      obtain ⟨⟨Ev,K9⟩,La,rfl,Ct,Lb⟩:=Kp;(try dsimp only [Kst.L,List.set,AJf,AMg] at Ct);refine ⟨(Cp.then Lb (AD9 (AL7 rfl) all_nil)),?_⟩;subst La;(try dsimp only at En);refine AC3 rfl rfl ?_;obtain ⟨Xa,Ew,Lc⟩:=ABm En;refine AFd (m:=Ap) ABx rfl (Ah.o2 p1) Kk Cq rfl Ew fun Xb Ld=>AJ5 (m:=Ap) (AGf ACt rfl rfl rfl) (Ct.o2 p0) Ld Cq Ew (show ((cI .i64)).rep _ (w64 (1 + Ev)) _ from rfl) fun Xc Le Lf=>ACm (q_b (q_t (ABy (AC3 rfl rfl (Wl (ABp ?_))))));obtain rfl:=ABk Lc;exact ⟨J3,(((w64 (Ap + 1)),K9,(sI (sI Ej Ap (List.replicate (Int.toNat (w64 (1 + (Int.tmod (w64 a1) Af)))) (0:Int))) Ap (sI Kh Ap (w64 (1 + Ev)))),(Kc :: (Ck.set (Int.toNat Ap) [El]).flatten),(Ck.set (Int.toNat Ap) [El]),(Ek.set (Int.toNat Ap) J6)):(Int) × (Int) × (LiI) × LnA × LnN × LvA),Nat.lt_succ_self _,⟨Cn,(Ct.uO2 p0 Lf Le)⟩,rfl,trivial⟩
     ·obtain rfl:=ABk (AC6 Ba Co);change _=Eh at Cn;subst Cn;(try dsimp only at Ei);refine ACd (ACc (ACc (ADo (q_t (ABl (Wl (ABq (ABs (⟨_,ABu,((Ej,Eg,Jz,Ck,Ek,Bq):(LiI) × (Value) × LnA × LnN × LvA × (Int)),?_,rfl,?_⟩)))))))))
      ·exact ABk Ei
      ·exact Cm
    obtain ⟨⟨Lg,Bp,Lh,Li,Lj,Lk⟩,Ll,rfl,Bt⟩:=Jm;(try dsimp only [Kst.L,List.set,AJf,AMg] at Bt);refine ⟨trivial,?_⟩;subst Ll;(try dsimp only at Ef);refine ABq (ABn (ABl (Wl (ADh AB4 rfl (Bt.o2 p0).rd (Wl (ABp (ABr ?_)))))));obtain ⟨Ey,Lm,Ez⟩:=ABm Ef;obtain ⟨Ln,Lo,Lq⟩:=ACj Lm;refine ACk 17592186036416 (fun x:(Int) × (Int) × (LiI) × LnA × LnN × LvA=>[(13,(.int .i64 x.1))]) (fun k x h'=>iter Ln k (x.1,x.2.1,x.2.2.1)=some Ey/\Kst h h' ((Bt.L.set 0 (aO2 (cI .i64) 23 2 x.2.2.2.1 x.2.2.2.2.1 x.2.2.2.2.2 Bp x.2.2.1)).set 1 (aB 76 Aa [Ab,(.int .i64 x.2.1)]))) (by kernel_rfl) fuel ((0,Lk,Lg,Lh,Li,Lj):(Int) × (Int) × (LiI) × LnA × LnN × LvA) ?_ ⟨rfl,trivial⟩ ?_
    ·exact ⟨Lq,Bt⟩
    rintro Xd ⟨A6,Fa,Fb,Fc,Fd,Fe⟩ Lr Lu ⟨Lv,Bu⟩;(try dsimp only [Kst.L,List.set,AJf,AMg] at Bu);refine (show W _ _ _ (setL [(13,(.int .i64 A6))] (mix _ Lr _)) Lu from ?_);obtain ⟨Lw,Xe,rfl,Bc,Cu⟩:=AB5 Lv;rw [Lo] at Bc;dsimp only at Bc;unfold AFl at Bc;refine ABl (AC1 rfl rfl (ABp (ABn (⟨_,rfl,fun Cv=>?_,fun Cv=>?_⟩))))
    ·refine ABt (q_t (ABn (ABr (ABl (Wl (ACr (ABq (ABr ?_))))))));obtain ⟨Ff,Lx,Fg⟩:=ABm (AC5 Bc Cv);obtain ⟨Ly,Lz,Ma⟩:=ACj Lx;refine ACk 8796092956800 (fun x:(Int) × (Int) × (LiI) × LnA × LnN × LvA=>[(7,(.int .i64 x.1))]) (fun k x h'=>iter Ly k (x.1,x.2.1,x.2.2.1)=some Ff/\Kst h h' ((Bu.L.set 0 (aO2 (cI .i64) 23 2 x.2.2.2.1 x.2.2.2.2.1 x.2.2.2.2.2 Bp x.2.2.1)).set 1 (aB 76 Aa [Ab,(.int .i64 x.2.1)]))) (by kernel_rfl) fuel ((0,Fa,Fb,Fc,Fd,Fe):(Int) × (Int) × (LiI) × LnA × LnN × LvA) ?_ ⟨rfl,trivial⟩ ?_
     ·exact ⟨Ma,Bu⟩
     rintro Xf ⟨A9,Bv,Fh,Fi,Fj,Fk⟩ Mb A7 ⟨Mc,Ai⟩;(try dsimp only [Kst.L,List.set,AJf,AMg] at Ai);refine (show W _ _ _ (setL [(7,(.int .i64 A9))] (mix _ Mb _)) A7 from ?_);obtain ⟨Md,Xg,rfl,Be,Cw⟩:=AB5 Mc;rw [Lz] at Be;dsimp only at Be;unfold AHb at Be;refine ABn (ABl (Wl (Wl (AC1 rfl rfl (ABp (⟨_,rfl,fun Cx=>?_,fun Cx=>?_⟩))))))
     ·refine ABt (q_t (ABn (ABr (ABn (AEs (fun h'=>UpT ([Aa] ++ []) A7 h') (by kernel_rfl) ?_)))));have Cy:UpT ([Aa] ++ []) A7 A7:=UpT.start (AD9 (AGz (Ai.b p1) rfl) all_nil);refine Wl (Wl ?_);obtain ⟨Me,Cz,Mf⟩:=ABm (AC5 Be Cx);refine ADx AB4 rfl (Ai.o2 p0) rfl Cz fun Xh Xi Mg Mh Mi=>AGw ACo rfl Cy (fun h' hb=>ALa Mi hb (AQ4 (Ai.dj p0 p1 (by decide) _ (by simp [aO,aO2,Mg])) AQ5)) (Wl (Wl ?_));obtain ⟨Mj,Fl,Fm⟩:=ABm Mf;have Fo:UpT ([Aa] ++ []) A7 A7:=UpT.start (AD9 (AGz (Ai.b p1) rfl) all_nil);refine ACp (K':=(fun xr h'=> ∃ x:(Int) × (Int),(x.1,x.2)=Mj/\xr=(.int .i64 x.1)/\Kst h h' (Ai.L.set 1 (aB 76 Aa [Ab,(.int .i64 x.2)]))/\UpT ([Aa] ++ []) A7 h')) Cy rfl ?_ fun Xj Xk Mk=>?_
      ·refine cwf (l:=[_]) Tryz.func50 rfl rfl (ABl (ABq (ABn (ABn (ANr (Wl (AJy rfl (AJd AEa rfl (AB9 AFq rfl ((Ai.b p1).cell (i:=1) rfl) (Wl (AJy rfl (AJd AJq rfl (AB9 APy rfl ((Ai.b p1).cell (i:=0) rfl) (AD1 AQp rfl H4 (ANe rfl rfl (ABp (⟨_,rfl,fun C0=>?_,fun C0=>?_⟩)))))))))))))))))
       ·refine ABl (ABq (ABs (AB2 (⟨_,ABu,((0,Bv):(Int) × (Int)),?_,rfl,?_,?_⟩))))
        ·exact ABk (AC5 Fl C0)
        ·exact Ai
        ·exact Fo
       ·refine ABt (q_t (ABl (Wl (AJy rfl (AJd AEa rfl (AB9 AFq rfl ((Ai.b p1).cell (i:=1) rfl) (AC3 rfl rfl (AJy rfl (AJd AEa rfl (AVt [Ab,(.int .i64 (w64 (Bv + 1)))] AFq rfl rfl rfl (Ai.b p1) (Nat.le_of_ble_eq_true rfl) rfl fun Xl Fp Fq=>ABp (ABn (ANr (Wl (AJy rfl (AJd AJq rfl ?_)))))))))))))));have Bw:=Ai.sb p1 Fq Fp rfl;refine AB9 APy rfl ((Bw.b p1).cell (i:=0) rfl) (Wl (AJy rfl (AJd AEa rfl (AB9 AFq rfl ((Bw.b p1).cell (i:=1) rfl) (AHd rfl rfl ?_)))));obtain ⟨Ml,Mm,Mo⟩:=ABm (AC6 Fl C0);refine AIw (c:=(cI .i8)) AQp rfl H4 rfl Mm fun Xm Xn Xo Mq Mr=>?_;obtain rfl:=Mq;refine AB9 AY2 rfl (AB0 (Mr 0 _ rfl) Bw.x) (AMv AY3 ALw rfl (ABq (ABs (⟨_,ABu,(((w64 Ml),(w64 (Bv + 1))):(Int) × (Int)),?_,rfl,?_,?_⟩))))
        ·exact ABk Mo
        ·exact Bw
        ·exact (Fo.then (Fp.stA Fq (AGz (Ai.b p1) rfl) rfl) (AL7 rfl))
      obtain ⟨⟨Fr,Ms⟩,Mt,rfl,C1,Mu⟩:=Mk;(try dsimp only [Kst.L,List.set,AJf,AMg] at C1);refine ⟨(Cy.then Mu (AD9 (AL7 rfl) all_nil)),?_⟩;subst Mt;(try dsimp only at Fm);refine AGj rfl rfl (by decide) ?_;obtain ⟨Xp,Ft,Mv⟩:=ABm Fm;refine AFd (m:=A6) ABx rfl (Ai.o2 p0) Mh Cz rfl Ft fun Xq Mw=>AJ5 (m:=A6) (AGf ACt rfl rfl rfl) (C1.o2 p0) Mw Cz Ft (show ((cI .i64)).rep _ (Int.tmod Fr 3) _ from rfl) fun Xr Mx My=>ABp (ANr (Wl (Wl ?_)));have A8:=C1.uO2 p0 My Mx;obtain ⟨Mz,C2,M1⟩:=ABm Mv;refine ADx AB4 rfl (A8.o2 p0) rfl C2 fun Xt Xu Xv M2 M3=>AB9 ACo rfl M3 (Wl (Wl (Wl ?_)));obtain ⟨Xw,C3,M4⟩:=ABm M1;refine ADx AB4 rfl (A8.o2 p0) rfl C3 fun Xx Xy Xz M5 M6=>AB9 ACo rfl M6 (Wl ?_);obtain ⟨Fu,Fv,M7⟩:=ABm M4;refine AFd (m:=A6) ABx rfl (A8.o2 p0) M5 C3 rfl Fv fun X0 M8=>?_;obtain ⟨X3,M9,Na⟩:=(A8.o2 p0).cells M8 C3 Fv;obtain rfl:=M9;refine AB9 ACt rfl (Na 0 _ rfl) ?_;obtain ⟨X4,Fw,Nb⟩:=ABm M7;refine AFd (m:=A9) ABx rfl (A8.o2 p0) M2 C2 rfl Fw fun X5 Nc=>AJ5 (m:=A9) (AGf ACt rfl rfl rfl) (A8.o2 p0) Nc C2 Fw (show ((cI .i64)).rep _ Fu _ from rfl) fun X6 Nd Nf=>ACm (q_b (q_t (ABy (Wl (AC3 rfl rfl (ABq ?_))))));obtain rfl:=ABk Nb;exact ⟨Md,(((w64 (A9 + 1)),Ms,(sI (sI Fh A6 (sI Me A9 (Int.tmod Fr 3))) A9 (sI Mz A6 Fu)),Fi,Fj,Fk):(Int) × (Int) × (LiI) × LnA × LnN × LvA),Nat.lt_succ_self _,⟨Cw,(A8.uO2 p0 Nf Nd)⟩,rfl,trivial⟩
     ·obtain rfl:=ABk (AC6 Be Cx);change _=Ff at Cw;subst Cw;(try dsimp only at Fg);refine ACd (ACc (ACc (ADo (q_b (q_t (ABy (AC3 rfl rfl (Wl (ABp ?_)))))))));obtain rfl:=ABk Fg;exact ⟨Lw,(((w64 (A6 + 1)),Bv,Fh,Fi,Fj,Fk):(Int) × (Int) × (LiI) × LnA × LnN × LvA),Nat.lt_succ_self _,⟨Cu,Ai⟩,rfl,trivial⟩
    ·obtain rfl:=ABk (AC6 Bc Cv);change _=Ey at Cu;subst Cu;(try dsimp only at Ez);refine ACd (ACc (ACc (ADo (q_t (ABl (Wl (ABq (ABs (⟨_,ABu,((Fb,Bp,Fc,Fd,Fe,Fa):(LiI) × (Value) × LnA × LnN × LvA × (Int)),?_,rfl,?_⟩)))))))))
     ·exact ABk Ez
     ·exact Bu
   obtain ⟨⟨Ng,Ee,Nh,Ni,Nj,Nk⟩,Nl,rfl,Fx⟩:=Jj;(try dsimp only [Kst.L,List.set,AJf,AMg] at Fx);refine ⟨trivial,?_⟩;subst Nl;(try dsimp only at Ed);refine ACg (ACm (q_b (q_t ?_)));exact ⟨((Ng,Ee,Nh,Ni,Nj,Nk):(LiI) × (Value) × LnA × LnN × LvA × (Int)),⟨ABk Ed,Fx⟩,rfl,trivial⟩
  ·refine ABl (ADk rfl rfl (ABq ?_));have Fy:=AJc Ce Ci;refine ⟨_,rfl,fun C4=>?_,fun C4=>?_⟩
   ·refine ABl (Wl ?_);obtain ⟨Nm,Nn,Np⟩:=ABm (AC5 Fy C4);refine ACw rfl (AM7 Nn) fun Nq Aw Nr Ns=>?_;obtain ⟨X8,Nt,Nu,Nv,rfl,Nw,Ny⟩:=Ns;refine ABq (AEs (fun h'=>UpT ([Aa] ++ []) Aw h') (by kernel_rfl) ?_);have Ac:=Ao.no2 Nr Ny Nw;have Bx:UpT ([Aa] ++ []) Aw Aw:=UpT.start (AD9 (AGz (Ac.b p1) rfl) all_nil);refine Wl ?_;obtain ⟨Nz,Bf,N0⟩:=ABm Np;refine ADx AB4 rfl (Ac.o2 p0) rfl Bf fun Ya Yb N3 Fz N4=>AGw ACo rfl Bx (fun h' hb=>ALa N4 hb (AQ4 (Ac.dj p0 p1 (by decide) _ (by simp [aO,aO2,N3])) AQ5)) ?_;obtain ⟨F4,By,N5⟩:=ABm N0;refine AFd (m:=0) ABx rfl (Ac.o2 p0) Fz Bf rfl By fun Yc F5=>?_;obtain ⟨Yd,N6,N7⟩:=(Ac.o2 p0).cells F5 Bf By;obtain rfl:=N6;refine AGw ACt rfl Bx (fun h' hb=>ALa (N7 0 _ rfl) hb (AQ4 (Ac.dj p0 p1 (by decide) _ ((Ac.o2 p0).gmem F5)) AQ5)) (Wl ?_);obtain ⟨N8,N9,F6⟩:=ABm N5;have Oa:UpT ([Aa] ++ []) Aw Aw:=UpT.start (AD9 (AGz (Ac.b p1) rfl) all_nil);refine ACp (K':=(fun xr h'=> ∃ x:(Int) × (Int),(x.1,x.2)=N8/\xr=(.int .i64 x.1)/\Kst h h' (Ac.L.set 1 (aB 76 Aa [Ab,(.int .i64 x.2)]))/\UpT ([Aa] ++ []) Aw h')) Bx rfl ?_ fun Ye Yf Ob=>?_
    ·refine cwf (l:=[_,_]) Tryz.func62 rfl rfl (ABl (ACr (Wl ?_)));obtain ⟨Oc,F7,F8⟩:=ABm N9;have F9:UpT ([Aa] ++ []) Aw Aw:=UpT.start (AD9 (AGz (Ac.b p1) rfl) all_nil);refine ACp (K':=(fun xr h'=> ∃ x:(Int) × (Int),(x.1,x.2)=Oc/\xr=(.int .i64 x.1)/\Kst h h' (Ac.L.set 1 (aB 76 Aa [Ab,(.int .i64 x.2)]))/\UpT ([Aa] ++ []) Aw h')) trivial rfl ?_ fun Yg Yh Od=>?_
     ·refine cwf (l:=[_]) Tryz.func50 rfl rfl (ABl (ABq (ABn (ABn (ANr (Wl (AJy rfl (AJd AEa rfl (AB9 AFq rfl ((Ac.b p1).cell (i:=1) rfl) (Wl (AJy rfl (AJd AJq rfl (AB9 APy rfl ((Ac.b p1).cell (i:=0) rfl) (AD1 AQp rfl H4 (ANe rfl rfl (ABp (⟨_,rfl,fun C5=>?_,fun C5=>?_⟩)))))))))))))))))
      ·refine ABl (ABq (ABs (AB2 (⟨_,ABu,((0,0):(Int) × (Int)),?_,rfl,?_,?_⟩))))
       ·exact ABk (AC5 F7 C5)
       ·exact Ac
       ·exact F9
      ·refine ABt (q_t (ABl (Wl (AJy rfl (AJd AEa rfl (AB9 AFq rfl ((Ac.b p1).cell (i:=1) rfl) (AC3 rfl rfl (AJy rfl (AJd AEa rfl (AVt [Ab,(.int .i64 (w64 (0 + 1)))] AFq rfl rfl rfl (Ac.b p1) (Nat.le_of_ble_eq_true rfl) rfl fun Yi Ga Gb=>ABp (ABn (ANr (Wl (AJy rfl (AJd AJq rfl ?_)))))))))))))));have Bz:=Ac.sb p1 Gb Ga rfl;refine AB9 APy rfl ((Bz.b p1).cell (i:=0) rfl) (Wl (AJy rfl (AJd AEa rfl (AB9 AFq rfl ((Bz.b p1).cell (i:=1) rfl) (AHd rfl rfl ?_)))));obtain ⟨Oe,Og,Oh⟩:=ABm (AC6 F7 C5);refine AIw (c:=(cI .i8)) AQp rfl H4 rfl Og fun Yj Yk Yl Oi Oj=>?_;obtain rfl:=Oi;refine AB9 AY2 rfl (AB0 (Oj 0 _ rfl) Bz.x) (AMv AY3 ALw rfl (ABq (ABs (⟨_,ABu,(((w64 Oe),(w64 (0 + 1))):(Int) × (Int)),?_,rfl,?_,?_⟩))))
       ·exact ABk Oh
       ·exact Bz
       ·exact (F9.then (Ga.stA Gb (AGz (Ac.b p1) rfl) rfl) (AL7 rfl))
     obtain ⟨⟨Ol,Om⟩,On,rfl,Gc,Oo⟩:=Od;(try dsimp only [Kst.L,List.set,AJf,AMg] at Gc);refine ⟨trivial,?_⟩;subst On;(try dsimp only at F8);refine AMv ALw AQq rfl (AMv AQq AR8 rfl (Wl (AGj rfl rfl (by decide) (ABq (ABs (⟨_,ABu,(((Int.tmod (w64 (IntKind.wrap .u8 Ol)) 3),Om):(Int) × (Int)),?_,rfl,?_,?_⟩))))))
     ·exact ABk F8
     ·exact Gc
     ·exact (Oa.then Oo (AD9 (AL7 rfl) all_nil))
    obtain ⟨⟨Gd,Oq⟩,Ot,rfl,C6,Ou⟩:=Ob;(try dsimp only [Kst.L,List.set,AJf,AMg] at C6);refine ⟨(Bx.then Ou (AD9 (AL7 rfl) all_nil)),?_⟩;subst Ot;(try dsimp only at F6);refine AC3 rfl rfl (AFd (m:=0) ABx rfl (Ac.o2 p0) Fz Bf rfl By fun Ym Ov=>AJ5 (m:=0) (AGf ACt rfl rfl rfl) (C6.o2 p0) Ov Bf By (show ((cI .i64)).rep _ (w64 (F4 + Gd)) _ from rfl) fun Yn Ow Ox=>ACm (q_b (q_t ?_)));exact ⟨(((sI Nm 0 (sI Nz 0 (w64 (F4 + Gd)))),Nq,Nt,Nu,Nv,Oq):(LiI) × (Value) × LnA × LnN × LvA × (Int)),⟨ABk F6,(C6.uO2 p0 Ox Ow)⟩,rfl,trivial⟩
   ·refine ABl (ADk rfl rfl (ABq ?_));have Ge:=AC6 Fy C4;refine ⟨_,rfl,fun C7=>?_,fun C7=>?_⟩
    ·refine ABl (Wl ?_);obtain ⟨Oy,Oz,O0⟩:=ABm (AC5 Ge C7);refine ACw rfl (AM7 Oz) fun O1 Ax O2 O3=>?_;obtain ⟨Yo,O4,O5,O6,rfl,O7,O8⟩:=O3;refine ABq (AEs (fun h'=>UpT ([Aa] ++ []) Ax h') (by kernel_rfl) ?_);have Ad:=Ao.no2 O2 O8 O7;have B1:UpT ([Aa] ++ []) Ax Ax:=UpT.start (AD9 (AGz (Ad.b p1) rfl) all_nil);refine Wl (Wl (AHd rfl rfl ?_));obtain ⟨O9,Bg,Pa⟩:=ABm O0;refine ADx AB4 rfl (Ad.o2 p0) rfl Bg fun Yp Yq Pb Gf Pc=>AGw ACo rfl B1 (fun h' hb=>ALa Pc hb (AQ4 (Ad.dj p0 p1 (by decide) _ (by simp [aO,aO2,Pb])) AQ5)) (Wl (AHd rfl rfl ?_));obtain ⟨Gg,B2,Pd⟩:=ABm Pa;refine AFd (m:=(w64 ((w64 (1 + (Int.tmod (w64 a1) Af))) - 1))) ABx rfl (Ad.o2 p0) Gf Bg rfl B2 fun Yr Gh=>?_;obtain ⟨Ys,Pe,Pf⟩:=(Ad.o2 p0).cells Gh Bg B2;obtain rfl:=Pe;refine AGw ACt rfl B1 (fun h' hb=>ALa (Pf 0 _ rfl) hb (AQ4 (Ad.dj p0 p1 (by decide) _ ((Ad.o2 p0).gmem Gh)) AQ5)) (Wl ?_);obtain ⟨Pg,Ph,Gi⟩:=ABm Pd;have Pj:UpT ([Aa] ++ []) Ax Ax:=UpT.start (AD9 (AGz (Ad.b p1) rfl) all_nil);refine ACp (K':=(fun xr h'=> ∃ x:(Int) × (Int),(x.1,x.2)=Pg/\xr=(.int .i64 x.1)/\Kst h h' (Ad.L.set 1 (aB 76 Aa [Ab,(.int .i64 x.2)]))/\UpT ([Aa] ++ []) Ax h')) B1 rfl ?_ fun Yt Yu Pk=>?_
     ·refine cwf (l:=[_,_]) Tryz.func62 rfl rfl (ABl (ACr (Wl ?_)));obtain ⟨Pl,Gj,Gk⟩:=ABm Ph;have Gl:UpT ([Aa] ++ []) Ax Ax:=UpT.start (AD9 (AGz (Ad.b p1) rfl) all_nil);refine ACp (K':=(fun xr h'=> ∃ x:(Int) × (Int),(x.1,x.2)=Pl/\xr=(.int .i64 x.1)/\Kst h h' (Ad.L.set 1 (aB 76 Aa [Ab,(.int .i64 x.2)]))/\UpT ([Aa] ++ []) Ax h')) trivial rfl ?_ fun Yv Yw Pm=>?_
      ·refine cwf (l:=[_]) Tryz.func50 rfl rfl (ABl (ABq (ABn (ABn (ANr (Wl (AJy rfl (AJd AEa rfl (AB9 AFq rfl ((Ad.b p1).cell (i:=1) rfl) (Wl (AJy rfl (AJd AJq rfl (AB9 APy rfl ((Ad.b p1).cell (i:=0) rfl) (AD1 AQp rfl H4 (ANe rfl rfl (ABp (⟨_,rfl,fun C8=>?_,fun C8=>?_⟩)))))))))))))))))
       ·refine ABl (ABq (ABs (AB2 (⟨_,ABu,((0,0):(Int) × (Int)),?_,rfl,?_,?_⟩))))
        ·exact ABk (AC5 Gj C8)
        ·exact Ad
        ·exact Gl
       ·refine ABt (q_t (ABl (Wl (AJy rfl (AJd AEa rfl (AB9 AFq rfl ((Ad.b p1).cell (i:=1) rfl) (AC3 rfl rfl (AJy rfl (AJd AEa rfl (AVt [Ab,(.int .i64 (w64 (0 + 1)))] AFq rfl rfl rfl (Ad.b p1) (Nat.le_of_ble_eq_true rfl) rfl fun Yx Gm Gn=>ABp (ABn (ANr (Wl (AJy rfl (AJd AJq rfl ?_)))))))))))))));have B3:=Ad.sb p1 Gn Gm rfl;refine AB9 APy rfl ((B3.b p1).cell (i:=0) rfl) (Wl (AJy rfl (AJd AEa rfl (AB9 AFq rfl ((B3.b p1).cell (i:=1) rfl) (AHd rfl rfl ?_)))));obtain ⟨Pn,Po,Pp⟩:=ABm (AC6 Gj C8);refine AIw (c:=(cI .i8)) AQp rfl H4 rfl Po fun Yy Yz Y0 Pq Ps=>?_;obtain rfl:=Pq;refine AB9 AY2 rfl (AB0 (Ps 0 _ rfl) B3.x) (AMv AY3 ALw rfl (ABq (ABs (⟨_,ABu,(((w64 Pn),(w64 (0 + 1))):(Int) × (Int)),?_,rfl,?_,?_⟩))))
        ·exact ABk Pp
        ·exact B3
        ·exact (Gl.then (Gm.stA Gn (AGz (Ad.b p1) rfl) rfl) (AL7 rfl))
      obtain ⟨⟨Pt,Pu⟩,Pv,rfl,Gp,Pw⟩:=Pm;(try dsimp only [Kst.L,List.set,AJf,AMg] at Gp);refine ⟨trivial,?_⟩;subst Pv;(try dsimp only at Gk);refine AMv ALw AQq rfl (AMv AQq AR8 rfl (Wl (AGj rfl rfl (by decide) (ABq (ABs (⟨_,ABu,(((Int.tmod (w64 (IntKind.wrap .u8 Pt)) 2),Pu):(Int) × (Int)),?_,rfl,?_,?_⟩))))))
      ·exact ABk Gk
      ·exact Gp
      ·exact (Pj.then Pw (AD9 (AL7 rfl) all_nil))
     obtain ⟨⟨Gq,Px⟩,Py,rfl,C9,Pz⟩:=Pk;(try dsimp only [Kst.L,List.set,AJf,AMg] at C9);refine ⟨(B1.then Pz (AD9 (AL7 rfl) all_nil)),?_⟩;subst Py;(try dsimp only at Gi);refine AC3 rfl rfl (AFd (m:=(w64 ((w64 (1 + (Int.tmod (w64 a1) Af))) - 1))) ABx rfl (Ad.o2 p0) Gf Bg rfl B2 fun Y2 P0=>AJ5 (m:=(w64 ((w64 (1 + (Int.tmod (w64 a1) Af))) - 1))) (AGf ACt rfl rfl rfl) (C9.o2 p0) P0 Bg B2 (show ((cI .i64)).rep _ (w64 (Gg + Gq)) _ from rfl) fun Y3 P1 P2=>ACm (q_b (q_t ?_)));exact ⟨(((sI Oy (w64 ((w64 (1 + (Int.tmod (w64 a1) Af))) - 1)) (sI O9 (w64 ((w64 (1 + (Int.tmod (w64 a1) Af))) - 1)) (w64 (Gg + Gq)))),O1,O4,O5,O6,Px):(LiI) × (Value) × LnA × LnN × LvA × (Int)),⟨ABk Gi,(C9.uO2 p0 P2 P1)⟩,rfl,trivial⟩
    ·refine ABl (ADk rfl rfl (ABq ?_));have Gr:=AC6 Ge C7;refine ⟨_,rfl,fun Da=>?_,fun Da=>?_⟩
     ·refine ABy (Wl (Wl ?_));obtain ⟨P3,P4,Gt⟩:=ABm (AC5 Gr Da);refine ACp (K':=(fun xr h'=> ∃ x:(LiI) × (Value) × LnA × LnN × LvA × (Int),(x.1,x.2.2.2.2.2)=P3/\xr=x.2.1/\Kst h h' (aO2 (cI .i64) 23 2 x.2.2.1 x.2.2.2.1 x.2.2.2.2.1 x.2.1 x.1 :: (Ao.L.set 0 (aB 76 Aa [Ab,(.int .i64 x.2.2.2.2.2)]))))) trivial rfl ?_ fun Gu Y4 P5=>?_
      ·refine cwf (l:=[_,_,_]) Tryz.func63 rfl rfl (ABl (ACr (Wl ?_)));obtain ⟨P6,P7⟩:=ifN P4;refine AVy (cI .i64) 2 AB4 AMw rfl trivial tt2 rfl rfl (by decide) P6 fun P8 P9 Qa Gv Y5 Qb Qc Qd=>ABq (ABn (ABl (Wl ?_)));have Db:=Ao.no2 Qc Qd Qb;refine ADh AB4 rfl (Db.o2 p0).rd (Wl (ABp (ABr ?_)));obtain ⟨Gw,Qe,Gx⟩:=ABm P7;obtain ⟨Qg,Qh,Qi⟩:=ACj Qe;refine ACk 4294959360 (fun x:(Int) × (Int) × (LiI) × LnA × LnN × LvA=>[(13,(.int .i64 x.1))]) (fun k x h'=>iter Qg k (x.1,x.2.1,x.2.2.1)=some Gw/\Kst h h' ((Db.L.set 0 (aO2 (cI .i64) 23 2 x.2.2.2.1 x.2.2.2.2.1 x.2.2.2.2.2 Gv x.2.2.1)).set 1 (aB 76 Aa [Ab,(.int .i64 x.2.1)]))) (by kernel_rfl) fuel ((0,0,(List.replicate (Int.toNat (w64 (1 + (Int.tmod (w64 a1) Af)))) ([]:List Int)),P8,P9,Qa):(Int) × (Int) × (LiI) × LnA × LnN × LvA) ?_ ⟨rfl,trivial⟩ ?_
       ·exact ⟨Qi,Db⟩
       rintro Y6 ⟨Aq,B4,Gy,Qj,Dc,Gz⟩ Qk Ql ⟨Qm,Dd⟩;(try dsimp only [Kst.L,List.set,AJf,AMg] at Dd);refine (show W _ _ _ (setL [(13,(.int .i64 Aq))] (mix _ Qk _)) Ql from ?_);obtain ⟨Qn,Y7,rfl,Bh,De⟩:=AB5 Qm;rw [Qh] at Bh;dsimp only at Bh;unfold AFa at Bh;refine ABl (AC1 rfl rfl (ABp (ABn (⟨_,rfl,fun Df=>?_,fun Df=>?_⟩))))
       ·refine ABt (q_t (ABn (ABr (ABl (Wl (ACr (Wl (Wl (Wl ?_)))))))));obtain ⟨Qo,Qp⟩:=ifN (AC5 Bh Df);refine ASc (c:=(cI .i64)) (a:=0) ABx AHn rfl rfl (fun _=>rfl) rfl trivial tt2 rfl rfl (by decide) Qo fun G3 Qq Y8 Qr Qs Qt Qu=>?_;have Bi:=Dd.no Qs (AGy Qt Qu) Qr;obtain ⟨Y9,G4,Qv⟩:=ABm Qp;refine ADx AB4 rfl (Bi.o2 p1) rfl G4 fun Qw Za Qx Zb Zd=>AXn ACo (Bi.o2 p1) G4 Qx rfl rfl (Bi.o p0) (Bi.dj p0 p1 (by decide)) fun Ay Qy Qz Q0=>ABp (AEs (fun h'=>UpT ([Aa] ++ []) Ay h') (by kernel_rfl) ?_);have Aj:=Bi.m2 p0 p1 (by decide) Qz Qy (fun z hz=> .inl (Q0 z hz));have Dg:UpT ([Aa] ++ []) Ay Ay:=UpT.start (AD9 (AGz (Aj.b p2) rfl) all_nil);refine Wl (Wl ?_);obtain ⟨Q1,Dh,Q2⟩:=ABm Qv;refine ADx AB4 rfl (Aj.o2 p1) rfl Dh fun Ze Zf Q3 Q4 Q6=>AGw ACo rfl Dg (fun h' hb=>ALa Q6 hb (AQ4 (Aj.dj p1 p2 (by decide) _ (by simp [aO,aO2,Q3])) AQ5)) (Wl (Wl (Wl ?_)));obtain ⟨Q7,Q8,G5⟩:=ABm Q2;have Q9:UpT ([Aa] ++ []) Ay Ay:=UpT.start (AD9 (AGz (Aj.b p2) rfl) all_nil);refine ACp (K':=(fun xr h'=> ∃ x:(Int) × (Int),(x.1,x.2)=Q7/\xr=(.int .i64 x.1)/\Kst h h' ((AJf Aj.L [1,2]).set 1 (aB 76 Aa [Ab,(.int .i64 x.2)]))/\UpT ([Aa] ++ []) Ay h')) Dg rfl ?_ fun Zg Zh Rc=>?_
        ·refine cwf (l:=[_,_]) Tryz.func62 rfl rfl (ABl (ACr (Wl ?_)));obtain ⟨Rd,G6,G7⟩:=ABm Q8;have G8:UpT ([Aa] ++ []) Ay Ay:=UpT.start (AD9 (AGz (Aj.b p2) rfl) all_nil);refine ACp (K':=(fun xr h'=> ∃ x:(Int) × (Int),(x.1,x.2)=Rd/\xr=(.int .i64 x.1)/\Kst h h' ((AJf Aj.L [1,2]).set 1 (aB 76 Aa [Ab,(.int .i64 x.2)]))/\UpT ([Aa] ++ []) Ay h')) trivial rfl ?_ fun Zj Zk Re=>?_
         ·refine cwf (l:=[_]) Tryz.func50 rfl rfl (ABl (ABq (ABn (ABn (ANr (Wl (AJy rfl (AJd AEa rfl (AB9 AFq rfl ((Aj.b p2).cell (i:=1) rfl) (Wl (AJy rfl (AJd AJq rfl (AB9 APy rfl ((Aj.b p2).cell (i:=0) rfl) (AD1 AQp rfl H4 (ANe rfl rfl (ABp (⟨_,rfl,fun Di=>?_,fun Di=>?_⟩)))))))))))))))))
          ·refine ABl (ABq (ABs (AB2 (⟨_,ABu,((0,B4):(Int) × (Int)),?_,rfl,?_,?_⟩))))
           ·exact ABk (AC5 G6 Di)
           ·exact Aj.sel [1,2] (by decide)
           ·exact G8
          ·refine ABt (q_t (ABl (Wl (AJy rfl (AJd AEa rfl (AB9 AFq rfl ((Aj.b p2).cell (i:=1) rfl) (AC3 rfl rfl (AJy rfl (AJd AEa rfl (AVt [Ab,(.int .i64 (w64 (B4 + 1)))] AFq rfl rfl rfl (Aj.b p2) (Nat.le_of_ble_eq_true rfl) rfl fun Zl G9 Hb=>ABp (ABn (ANr (Wl (AJy rfl (AJd AJq rfl ?_)))))))))))))));have B5:=Aj.sb p2 Hb G9 rfl;refine AB9 APy rfl ((B5.b p2).cell (i:=0) rfl) (Wl (AJy rfl (AJd AEa rfl (AB9 AFq rfl ((B5.b p2).cell (i:=1) rfl) (AHd rfl rfl ?_)))));obtain ⟨Rf,Rg,Rh⟩:=ABm (AC6 G6 Di);refine AIw (c:=(cI .i8)) AQp rfl H4 rfl Rg fun Zm Zn Zo Ri Rj=>?_;obtain rfl:=Ri;refine AB9 AY2 rfl (AB0 (Rj 0 _ rfl) B5.x) (AMv AY3 ALw rfl (ABq (ABs (⟨_,ABu,(((w64 Rf),(w64 (B4 + 1))):(Int) × (Int)),?_,rfl,?_,?_⟩))))
           ·exact ABk Rh
           ·exact B5.sel [1,2] (by decide)
           ·exact (G8.then (G9.stA Hb (AGz (Aj.b p2) rfl) rfl) (AL7 rfl))
         obtain ⟨⟨Rm,Rn⟩,Ro,rfl,Hc,Rq⟩:=Re;(try dsimp only [Kst.L,List.set,AJf,AMg] at Hc);refine ⟨trivial,?_⟩;subst Ro;(try dsimp only at G7);refine AMv ALw AQq rfl (AMv AQq AR8 rfl (Wl (AGj rfl rfl (by decide) (ABq (ABs (⟨_,ABu,(((Int.tmod (w64 (IntKind.wrap .u8 Rm)) 9),Rn):(Int) × (Int)),?_,rfl,?_,?_⟩))))))
         ·exact ABk G7
         ·exact Hc
         ·exact (Q9.then Rq (AD9 (AL7 rfl) all_nil))
        obtain ⟨⟨Hd,Rr⟩,Rs,rfl,Dj,Rt⟩:=Rc;(try dsimp only [Kst.L,List.set,AJf,AMg] at Dj);refine ⟨(Dg.then Rt (AD9 (AL7 rfl) all_nil)),?_⟩;subst Rs;(try dsimp only at G5);refine AC3 rfl rfl ?_;obtain ⟨Zp,He,Ru⟩:=ABm G5;refine AFd (m:=Aq) ABx rfl (Aj.o2 p1) Q4 Dh rfl He fun Zq Rv=>AJ5 (m:=Aq) (AGf ACt rfl rfl rfl) (Dj.o2 p0) Rv Dh He (show ((cI .i64)).rep _ (w64 (1 + Hd)) _ from rfl) fun Zr Rw Rx=>ACm (q_b (q_t (ABy (AC3 rfl rfl (Wl (ABp ?_))))));obtain rfl:=ABk Ru;exact ⟨Qn,(((w64 (Aq + 1)),Rr,(sI (sI Gy Aq (List.replicate (Int.toNat (w64 (1 + (Int.tmod (w64 a1) Af)))) (0:Int))) Aq (sI Q1 Aq (w64 (1 + Hd)))),(Qw :: (Dc.set (Int.toNat Aq) [G3]).flatten),(Dc.set (Int.toNat Aq) [G3]),(Gz.set (Int.toNat Aq) Qq)):(Int) × (Int) × (LiI) × LnA × LnN × LvA),Nat.lt_succ_self _,⟨De,(Dj.uO2 p0 Rx Rw)⟩,rfl,trivial⟩
       ·obtain rfl:=ABk (AC6 Bh Df);change _=Gw at De;subst De;(try dsimp only at Gx);refine ACd (ACc (ACc (ADo (q_t (ABl (Wl (ABq (ABs (⟨_,ABu,((Gy,Gv,Qj,Dc,Gz,B4):(LiI) × (Value) × LnA × LnN × LvA × (Int)),?_,rfl,?_⟩)))))))))
        ·exact ABk Gx
        ·exact Dd
      obtain ⟨⟨Ry,Gu,Rz,R3,R4,R5⟩,R6,rfl,Hf⟩:=P5;(try dsimp only [Kst.L,List.set,AJf,AMg] at Hf);refine ⟨trivial,?_⟩;subst R6;(try dsimp only at Gt);refine ACg (ACm (q_b (q_t ?_)));exact ⟨((Ry,Gu,Rz,R3,R4,R5):(LiI) × (Value) × LnA × LnN × LvA × (Int)),⟨ABk Gt,Hf⟩,rfl,trivial⟩
     ·refine ABy (Wl (Wl ?_));obtain ⟨R7,R8,Hg⟩:=ABm (AC6 Gr Da);refine ACp (K':=(fun xr h'=> ∃ x:(LiI) × (Value) × LnA × LnN × LvA × (Int),(x.1,x.2.2.2.2.2)=R7/\xr=x.2.1/\Kst h h' (aO2 (cI .i64) 23 2 x.2.2.1 x.2.2.2.1 x.2.2.2.2.1 x.2.1 x.1 :: (Ao.L.set 0 (aB 76 Aa [Ab,(.int .i64 x.2.2.2.2.2)]))))) trivial rfl ?_ fun Hh Zs R9=>?_
      ·refine cwf (l:=[_,_,_]) Tryz.func63 rfl rfl (ABl (ACr (Wl ?_)));obtain ⟨Sa,Sb⟩:=ifN R8;refine AVy (cI .i64) 2 AB4 AMw rfl trivial tt2 rfl rfl (by decide) Sa fun Sc Sd Se Hj Zt Sf Sg Sh=>ABq (ABn (ABl (Wl ?_)));have Dk:=Ao.no2 Sg Sh Sf;refine ADh AB4 rfl (Dk.o2 p0).rd (Wl (ABp (ABr ?_)));obtain ⟨Hk,Si,Hl⟩:=ABm Sb;obtain ⟨Sj,Sk,Sm⟩:=ACj Si;refine ACk 4294959360 (fun x:(Int) × (Int) × (LiI) × LnA × LnN × LvA=>[(13,(.int .i64 x.1))]) (fun k x h'=>iter Sj k (x.1,x.2.1,x.2.2.1)=some Hk/\Kst h h' ((Dk.L.set 0 (aO2 (cI .i64) 23 2 x.2.2.2.1 x.2.2.2.2.1 x.2.2.2.2.2 Hj x.2.2.1)).set 1 (aB 76 Aa [Ab,(.int .i64 x.2.1)]))) (by kernel_rfl) fuel ((0,0,(List.replicate (Int.toNat (w64 (1 + (Int.tmod (w64 a1) Af)))) ([]:List Int)),Sc,Sd,Se):(Int) × (Int) × (LiI) × LnA × LnN × LvA) ?_ ⟨rfl,trivial⟩ ?_
       ·exact ⟨Sm,Dk⟩
       rintro Zu ⟨Ar,B6,Hm,Sn,Dl,Hn⟩ So Sq ⟨Sr,Dn⟩;(try dsimp only [Kst.L,List.set,AJf,AMg] at Dn);refine (show W _ _ _ (setL [(13,(.int .i64 Ar))] (mix _ So _)) Sq from ?_);obtain ⟨Ss,Zv,rfl,Bj,Do⟩:=AB5 Sr;rw [Sk] at Bj;dsimp only at Bj;unfold AFb at Bj;refine ABl (AC1 rfl rfl (ABp (ABn (⟨_,rfl,fun Dp=>?_,fun Dp=>?_⟩))))
       ·refine ABt (q_t (ABn (ABr (ABl (Wl (ACr (Wl (Wl (Wl ?_)))))))));obtain ⟨St,Su⟩:=ifN (AC5 Bj Dp);refine ASc (c:=(cI .i64)) (a:=0) ABx AHn rfl rfl (fun _=>rfl) rfl trivial tt2 rfl rfl (by decide) St fun Ho Sv Zw Sw Sx Sy Sz=>?_;have Bl:=Dn.no Sx (AGy Sy Sz) Sw;obtain ⟨Zx,Hq,S0⟩:=ABm Su;refine ADx AB4 rfl (Bl.o2 p1) rfl Hq fun S2 Zy S3 Zz Z0=>AXn ACo (Bl.o2 p1) Hq S3 rfl rfl (Bl.o p0) (Bl.dj p0 p1 (by decide)) fun Az S4 S7 Ta=>ABp (AEs (fun h'=>UpT ([Aa] ++ []) Az h') (by kernel_rfl) ?_);have Ak:=Bl.m2 p0 p1 (by decide) S7 S4 (fun z hz=> .inl (Ta z hz));have Dq:UpT ([Aa] ++ []) Az Az:=UpT.start (AD9 (AGz (Ak.b p2) rfl) all_nil);refine Wl (Wl ?_);obtain ⟨Tb,Dr,Tc⟩:=ABm S0;refine ADx AB4 rfl (Ak.o2 p1) rfl Dr fun Z2 Z4 Td Te Tf=>AGw ACo rfl Dq (fun h' hb=>ALa Tf hb (AQ4 (Ak.dj p1 p2 (by decide) _ (by simp [aO,aO2,Td])) AQ5)) (Wl (Wl (Wl ?_)));obtain ⟨Tg,Th,Hr⟩:=ABm Tc;have Ti:UpT ([Aa] ++ []) Az Az:=UpT.start (AD9 (AGz (Ak.b p2) rfl) all_nil);refine ACp (K':=(fun xr h'=> ∃ x:(Int) × (Int),(x.1,x.2)=Tg/\xr=(.int .i64 x.1)/\Kst h h' ((AJf Ak.L [1,2]).set 1 (aB 76 Aa [Ab,(.int .i64 x.2)]))/\UpT ([Aa] ++ []) Az h')) Dq rfl ?_ fun Z9 AAa Tj=>?_
        ·refine cwf (l:=[_,_]) Tryz.func62 rfl rfl (ABl (ACr (Wl ?_)));obtain ⟨Tk,Hs,Ht⟩:=ABm Th;have Hu:UpT ([Aa] ++ []) Az Az:=UpT.start (AD9 (AGz (Ak.b p2) rfl) all_nil);refine ACp (K':=(fun xr h'=> ∃ x:(Int) × (Int),(x.1,x.2)=Tk/\xr=(.int .i64 x.1)/\Kst h h' ((AJf Ak.L [1,2]).set 1 (aB 76 Aa [Ab,(.int .i64 x.2)]))/\UpT ([Aa] ++ []) Az h')) trivial rfl ?_ fun AAb AAc Tl=>?_
         ·refine cwf (l:=[_]) Tryz.func50 rfl rfl (ABl (ABq (ABn (ABn (ANr (Wl (AJy rfl (AJd AEa rfl (AB9 AFq rfl ((Ak.b p2).cell (i:=1) rfl) (Wl (AJy rfl (AJd AJq rfl (AB9 APy rfl ((Ak.b p2).cell (i:=0) rfl) (AD1 AQp rfl H4 (ANe rfl rfl (ABp (⟨_,rfl,fun Ds=>?_,fun Ds=>?_⟩)))))))))))))))))
          ·refine ABl (ABq (ABs (AB2 (⟨_,ABu,((0,B6):(Int) × (Int)),?_,rfl,?_,?_⟩))))
           ·exact ABk (AC5 Hs Ds)
           ·exact Ak.sel [1,2] (by decide)
           ·exact Hu
          ·refine ABt (q_t (ABl (Wl (AJy rfl (AJd AEa rfl (AB9 AFq rfl ((Ak.b p2).cell (i:=1) rfl) (AC3 rfl rfl (AJy rfl (AJd AEa rfl (AVt [Ab,(.int .i64 (w64 (B6 + 1)))] AFq rfl rfl rfl (Ak.b p2) (Nat.le_of_ble_eq_true rfl) rfl fun AAd Hv Hw=>ABp (ABn (ANr (Wl (AJy rfl (AJd AJq rfl ?_)))))))))))))));have B7:=Ak.sb p2 Hw Hv rfl;refine AB9 APy rfl ((B7.b p2).cell (i:=0) rfl) (Wl (AJy rfl (AJd AEa rfl (AB9 AFq rfl ((B7.b p2).cell (i:=1) rfl) (AHd rfl rfl ?_)))));obtain ⟨Tm,Tn,To⟩:=ABm (AC6 Hs Ds);refine AIw (c:=(cI .i8)) AQp rfl H4 rfl Tn fun AAe AAf AAg Tp Tq=>?_;obtain rfl:=Tp;refine AB9 AY2 rfl (AB0 (Tq 0 _ rfl) B7.x) (AMv AY3 ALw rfl (ABq (ABs (⟨_,ABu,(((w64 Tm),(w64 (B6 + 1))):(Int) × (Int)),?_,rfl,?_,?_⟩))))
           ·exact ABk To
           ·exact B7.sel [1,2] (by decide)
           ·exact (Hu.then (Hv.stA Hw (AGz (Ak.b p2) rfl) rfl) (AL7 rfl))
         obtain ⟨⟨Tr,Ts⟩,Tt,rfl,Hx,Tu⟩:=Tl;(try dsimp only [Kst.L,List.set,AJf,AMg] at Hx);refine ⟨trivial,?_⟩;subst Tt;(try dsimp only at Ht);refine AMv ALw AQq rfl (AMv AQq AR8 rfl (Wl (AGj rfl rfl (by decide) (ABq (ABs (⟨_,ABu,(((Int.tmod (w64 (IntKind.wrap .u8 Tr)) 1),Ts):(Int) × (Int)),?_,rfl,?_,?_⟩))))))
         ·exact ABk Ht
         ·exact Hx
         ·exact (Ti.then Tu (AD9 (AL7 rfl) all_nil))
        obtain ⟨⟨Hy,Tv⟩,Tw,rfl,Dt,Tx⟩:=Tj;(try dsimp only [Kst.L,List.set,AJf,AMg] at Dt);refine ⟨(Dq.then Tx (AD9 (AL7 rfl) all_nil)),?_⟩;subst Tw;(try dsimp only at Hr);refine AC3 rfl rfl ?_;obtain ⟨AAh,Hz,Ty⟩:=ABm Hr;refine AFd (m:=Ar) ABx rfl (Ak.o2 p1) Te Dr rfl Hz fun AAi Tz=>AJ5 (m:=Ar) (AGf ACt rfl rfl rfl) (Dt.o2 p0) Tz Dr Hz (show ((cI .i64)).rep _ (w64 (1 + Hy)) _ from rfl) fun AAj T0 T1=>ACm (q_b (q_t (ABy (AC3 rfl rfl (Wl (ABp ?_))))));obtain rfl:=ABk Ty;exact ⟨Ss,(((w64 (Ar + 1)),Tv,(sI (sI Hm Ar (List.replicate (Int.toNat (w64 (1 + (Int.tmod (w64 a1) Af)))) (0:Int))) Ar (sI Tb Ar (w64 (1 + Hy)))),(S2 :: (Dl.set (Int.toNat Ar) [Ho]).flatten),(Dl.set (Int.toNat Ar) [Ho]),(Hn.set (Int.toNat Ar) Sv)):(Int) × (Int) × (LiI) × LnA × LnN × LvA),Nat.lt_succ_self _,⟨Do,(Dt.uO2 p0 T1 T0)⟩,rfl,trivial⟩
       ·obtain rfl:=ABk (AC6 Bj Dp);change _=Hk at Do;subst Do;(try dsimp only at Hl);refine ACd (ACc (ACc (ADo (q_t (ABl (Wl (ABq (ABs (⟨_,ABu,((Hm,Hj,Sn,Dl,Hn,B6):(LiI) × (Value) × LnA × LnN × LvA × (Int)),?_,rfl,?_⟩)))))))))
        ·exact ABk Hl
        ·exact Dn
      obtain ⟨⟨T2,Hh,T3,T4,T5,T6⟩,T7,rfl,H5⟩:=R9;(try dsimp only [Kst.L,List.set,AJf,AMg] at H5);refine ⟨trivial,?_⟩;subst T7;(try dsimp only at Hg);refine ACg (ACm (q_b (q_t ?_)));exact ⟨((T2,Hh,T3,T4,T5,T6):(LiI) × (Value) × LnA × LnN × LvA × (Int)),⟨ABk Hg,H5⟩,rfl,trivial⟩
 rintro ⟨AAk,T8,AAl,AAm,AAn,T9⟩ Ua Ub ⟨Uc,Du⟩;(try dsimp only [Kst.L,List.set,AJf,AMg] at Du);refine (show W _ _ _ (setL [(7,T8)] (mix _ Ua _)) Ub from ?_);subst Uc;(try dsimp only at D9);refine ABn (ABl (Wl ?_));obtain ⟨AAo,Ud,H9⟩:=ABm D9;refine ACw rfl (ASi (Du.o2 p0).rd Ud) fun AAp AAq Ue Uf=>?_;subst Uf;refine AF9 rfl (ABp ?_);have Bm:=Du.e Ue;refine ⟨_,rfl,fun Dv=>?_,fun Dv=>?_⟩
 ·refine ABl (Wl (Wl ?_));obtain ⟨Ug,Uh,Ia⟩:=ABm (ifT H9 Dv);refine ACp (K':=(fun xr h'=> ∃ x:(LiI) × (Value) × LnA × LnN × LvA × (Int),(x.1,x.2.2.2.2.2)=Ug/\xr=x.2.1/\Kst h h' (aO2 (cI .i64) 23 2 x.2.2.1 x.2.2.2.1 x.2.2.2.2.1 x.2.1 x.1 :: (Bm.L.set 1 (aB 76 Aa [Ab,(.int .i64 x.2.2.2.2.2)]))))) trivial rfl ?_ fun Ui AAr Uj=>?_
  ·refine cwf (l:=[_,_,_]) Tryz.func63 rfl rfl (ABl (ACr (Wl ?_)));obtain ⟨Uk,Ul⟩:=ifN Uh;refine AVy (cI .i64) 2 AB4 AMw rfl trivial tt2 rfl rfl (by decide) Uk fun Um Un Uo Ib AAs Up Uq Ur=>ABq (ABn (ABl (Wl ?_)));have Dw:=Bm.no2 Uq Ur Up;refine ADh AB4 rfl (Dw.o2 p0).rd (Wl (ABp (ABr ?_)));obtain ⟨Ic,Ut,Id⟩:=ABm Ul;obtain ⟨Uu,Uv,Uw⟩:=ACj Ut;refine ACk 4294959360 (fun x:(Int) × (Int) × (LiI) × LnA × LnN × LvA=>[(13,(.int .i64 x.1))]) (fun k x h'=>iter Uu k (x.1,x.2.1,x.2.2.1)=some Ic/\Kst h h' ((Dw.L.set 0 (aO2 (cI .i64) 23 2 x.2.2.2.1 x.2.2.2.2.1 x.2.2.2.2.2 Ib x.2.2.1)).set 2 (aB 76 Aa [Ab,(.int .i64 x.2.1)]))) (by kernel_rfl) fuel ((0,T9,(List.replicate (Int.toNat (w64 (1 + (Int.tmod (w64 a1) Af)))) ([]:List Int)),Um,Un,Uo):(Int) × (Int) × (LiI) × LnA × LnN × LvA) ?_ ⟨rfl,trivial⟩ ?_
   ·exact ⟨Uw,Dw⟩
   rintro AAt ⟨Au,B8,Ie,Ux,Dx,If⟩ Uy Uz ⟨U0,Dy⟩;(try dsimp only [Kst.L,List.set,AJf,AMg] at Dy);refine (show W _ _ _ (setL [(13,(.int .i64 Au))] (mix _ Uy _)) Uz from ?_);obtain ⟨U3,AAu,rfl,Bn,Dz⟩:=AB5 U0;rw [Uv] at Bn;dsimp only at Bn;unfold AFc at Bn;refine ABl (AC1 rfl rfl (ABp (ABn (⟨_,rfl,fun D0=>?_,fun D0=>?_⟩))))
   ·refine ABt (q_t (ABn (ABr (ABl (Wl (ACr (Wl (Wl (Wl ?_)))))))));obtain ⟨U8,Va⟩:=ifN (AC5 Bn D0);refine ASc (c:=(cI .i64)) (a:=0) ABx AHn rfl rfl (fun _=>rfl) rfl trivial tt2 rfl rfl (by decide) U8 fun Ih Vb AAv Vc Vd Ve Vf=>?_;have Bo:=Dy.no Vd (AGy Ve Vf) Vc;obtain ⟨AAw,Ii,Vg⟩:=ABm Va;refine ADx AB4 rfl (Bo.o2 p1) rfl Ii fun Vh AAx Vi AAy AAz=>AXn ACo (Bo.o2 p1) Ii Vi rfl rfl (Bo.o p0) (Bo.dj p0 p1 (by decide)) fun A3 Vj Vk Vl=>ABp (AEs (fun h'=>UpT ([Aa] ++ []) A3 h') (by kernel_rfl) ?_);have Am:=Bo.m2 p0 p1 (by decide) Vk Vj (fun z hz=> .inl (Vl z hz));have D1:UpT ([Aa] ++ []) A3 A3:=UpT.start (AD9 (AGz (Am.b p3) rfl) all_nil);refine Wl (Wl ?_);obtain ⟨Vm,D2,Vn⟩:=ABm Vg;refine ADx AB4 rfl (Am.o2 p1) rfl D2 fun AA0 AA1 Vo Vp Vq=>AGw ACo rfl D1 (fun h' hb=>ALa Vq hb (AQ4 (Am.dj p1 p3 (by decide) _ (by simp [aO,aO2,Vo])) AQ5)) (Wl (Wl (Wl ?_)));obtain ⟨Vr,Vs,Ij⟩:=ABm Vn;have Vt:UpT ([Aa] ++ []) A3 A3:=UpT.start (AD9 (AGz (Am.b p3) rfl) all_nil);refine ACp (K':=(fun xr h'=> ∃ x:(Int) × (Int),(x.1,x.2)=Vr/\xr=(.int .i64 x.1)/\Kst h h' ((AJf Am.L [1,2,3]).set 2 (aB 76 Aa [Ab,(.int .i64 x.2)]))/\UpT ([Aa] ++ []) A3 h')) D1 rfl ?_ fun AA2 AA3 Vu=>?_
    ·refine cwf (l:=[_,_]) Tryz.func62 rfl rfl (ABl (ACr (Wl ?_)));obtain ⟨Vv,Ik,Il⟩:=ABm Vs;have Im:UpT ([Aa] ++ []) A3 A3:=UpT.start (AD9 (AGz (Am.b p3) rfl) all_nil);refine ACp (K':=(fun xr h'=> ∃ x:(Int) × (Int),(x.1,x.2)=Vv/\xr=(.int .i64 x.1)/\Kst h h' ((AJf Am.L [1,2,3]).set 2 (aB 76 Aa [Ab,(.int .i64 x.2)]))/\UpT ([Aa] ++ []) A3 h')) trivial rfl ?_ fun AA4 AA5 Vw=>?_
     ·refine cwf (l:=[_]) Tryz.func50 rfl rfl (ABl (ABq (ABn (ABn (ANr (Wl (AJy rfl (AJd AEa rfl (AB9 AFq rfl ((Am.b p3).cell (i:=1) rfl) (Wl (AJy rfl (AJd AJq rfl (AB9 APy rfl ((Am.b p3).cell (i:=0) rfl) (AD1 AQp rfl H4 (ANe rfl rfl (ABp (⟨_,rfl,fun D3=>?_,fun D3=>?_⟩)))))))))))))))))
      ·refine ABl (ABq (ABs (AB2 (⟨_,ABu,((0,B8):(Int) × (Int)),?_,rfl,?_,?_⟩))))
       ·exact ABk (AC5 Ik D3)
       ·exact Am.sel [1,2,3] (by decide)
       ·exact Im
      ·refine ABt (q_t (ABl (Wl (AJy rfl (AJd AEa rfl (AB9 AFq rfl ((Am.b p3).cell (i:=1) rfl) (AC3 rfl rfl (AJy rfl (AJd AEa rfl (AVt [Ab,(.int .i64 (w64 (B8 + 1)))] AFq rfl rfl rfl (Am.b p3) (Nat.le_of_ble_eq_true rfl) rfl fun AA6 Io Ip=>ABp (ABn (ANr (Wl (AJy rfl (AJd AJq rfl ?_)))))))))))))));have B9:=Am.sb p3 Ip Io rfl;refine AB9 APy rfl ((B9.b p3).cell (i:=0) rfl) (Wl (AJy rfl (AJd AEa rfl (AB9 AFq rfl ((B9.b p3).cell (i:=1) rfl) (AHd rfl rfl ?_)))));obtain ⟨Vx,Vy,Vz⟩:=ABm (AC6 Ik D3);refine AIw (c:=(cI .i8)) AQp rfl H4 rfl Vy fun AA7 AA8 AA9 V1 V5=>?_;obtain rfl:=V1;refine AB9 AY2 rfl (AB0 (V5 0 _ rfl) B9.x) (AMv AY3 ALw rfl (ABq (ABs (⟨_,ABu,(((w64 Vx),(w64 (B8 + 1))):(Int) × (Int)),?_,rfl,?_,?_⟩))))
       ·exact ABk Vz
       ·exact B9.sel [1,2,3] (by decide)
       ·exact (Im.then (Io.stA Ip (AGz (Am.b p3) rfl) rfl) (AL7 rfl))
     obtain ⟨⟨V6,Wa⟩,Wb,rfl,Iq,Wc⟩:=Vw;(try dsimp only [Kst.L,List.set,AJf,AMg] at Iq);refine ⟨trivial,?_⟩;subst Wb;(try dsimp only at Il);refine AMv ALw AQq rfl (AMv AQq AR8 rfl (Wl (AGj rfl rfl (by decide) (ABq (ABs (⟨_,ABu,(((Int.tmod (w64 (IntKind.wrap .u8 V6)) 2),Wa):(Int) × (Int)),?_,rfl,?_,?_⟩))))))
     ·exact ABk Il
     ·exact Iq
     ·exact (Vt.then Wc (AD9 (AL7 rfl) all_nil))
    obtain ⟨⟨Ir,Wd⟩,We,rfl,D4,Wf⟩:=Vu;(try dsimp only [Kst.L,List.set,AJf,AMg] at D4);refine ⟨(D1.then Wf (AD9 (AL7 rfl) all_nil)),?_⟩;subst We;(try dsimp only at Ij);refine AC3 rfl rfl ?_;obtain ⟨ABa,It,Wg⟩:=ABm Ij;refine AFd (m:=Au) ABx rfl (Am.o2 p1) Vp D2 rfl It fun ABb Wh=>AJ5 (m:=Au) (AGf ACt rfl rfl rfl) (D4.o2 p0) Wh D2 It (show ((cI .i64)).rep _ (w64 (1 + Ir)) _ from rfl) fun ABc Wi Wj=>ACm (q_b (q_t (ABy (AC3 rfl rfl (Wl (ABp ?_))))));obtain rfl:=ABk Wg;exact ⟨U3,(((w64 (Au + 1)),Wd,(sI (sI Ie Au (List.replicate (Int.toNat (w64 (1 + (Int.tmod (w64 a1) Af)))) (0:Int))) Au (sI Vm Au (w64 (1 + Ir)))),(Vh :: (Dx.set (Int.toNat Au) [Ih]).flatten),(Dx.set (Int.toNat Au) [Ih]),(If.set (Int.toNat Au) Vb)):(Int) × (Int) × (LiI) × LnA × LnN × LvA),Nat.lt_succ_self _,⟨Dz,(D4.uO2 p0 Wj Wi)⟩,rfl,trivial⟩
   ·obtain rfl:=ABk (AC6 Bn D0);change _=Ic at Dz;subst Dz;(try dsimp only at Id);refine ACd (ACc (ACc (ADo (q_t (ABl (Wl (ABq (ABs (⟨_,ABu,((Ie,Ib,Ux,Dx,If,B8):(LiI) × (Value) × LnA × LnN × LvA × (Int)),?_,rfl,?_⟩)))))))))
    ·exact ABk Id
    ·exact Dy
  obtain ⟨⟨ABd,Ui,ABe,ABf,ABg,ABh⟩,Wk,rfl,Ca⟩:=Uj;(try dsimp only [Kst.L,List.set,AJf,AMg] at Ca);refine ⟨trivial,?_⟩;subst Wk;(try dsimp only at Ia);refine ABq (ABs (AB2 ?_));obtain rfl:=ABk Ia;exact ⟨_,ABu,Ca.x,_,_,_,_,rfl,(Ca.o2 p0),Ca.s.sel [0] (by decide)⟩
 ·refine ABt (q_t (ABl (Wl (ABq (ABs ?_)))));obtain rfl:=ABk (AJc H9 Dv);exact ⟨_,ABu,Bm.x,_,_,_,_,rfl,(Bm.o2 p0),Bm.s.sel [0] (by decide)⟩
def AE7 (fuel:Nat) (a1 a2:Int) (a5 a9:LiA) (Ae:Int):Option LiI:=
  ((AE6 fuel a1 a2 a5 a9 Ae).bind fun Af=>((AFe fuel Af).bind fun Ag=>((AGn fuel Ag).bind fun (Ah,Ai,Aj)=>(some Ah))))
theorem AN4 {fuel:Nat} {h:ABj} {a1 a2:Int} {Ac:Value} {a5:LiA} {Ad:Value} {a9:LiA} {Ai:Int} {r:LiI} (H4:SlC (cI .i8) h Ac a5) (H8:SlC (cI .i8) h Ad a9) (hp:AE7 fuel a1 a2 a5 a9 Ai=some r):ACa Tryz.prog 12 #[(.agg #[(.int .u8 a1),(.int .u8 a2),Ac,Ad]),(.int .i64 Ai)] h (fun x h'=>Ext h h'/\ ∃ (x0:Value) (F0:List Nat) (Au:List LnA) (Av:List Value),x=x0/\AFh (cI .i64) 23 2 h' F0 Au Av x0 r/\Sp h' h.size [F0]):=by
 unfold AE7 at hp;refine cwf (l:=[_,_]) Tryz.func12 rfl rfl (ABl (AIj [(.int .u8 a1),(.int .u8 a2),Ac,Ad] trivial tt2 rfl rfl fun Bx By Aw Ax Ay=>ACr ?_));have Ae:=(Kst.k0 h).nb Ax Ay Aw;refine AHm [(.int .u8 a1),(.int .u8 a2),Ac,Ad] Aph rfl rfl (Ae.b p0).agg (Wl ?_);obtain ⟨Bz,Az,A3⟩:=ABm hp;refine ACw rfl (AN3 (H4.ext Ae.x) (H8.ext Ae.x) Az) fun B1 B2 A4 A5=>?_;obtain ⟨B3,B4,B5,B6,rfl,A6,A7⟩:=A5;have Am:=Ae.no2 A4 A7 A6;obtain ⟨B7,A8,A9⟩:=ABm A3;refine ACw rfl (ALf (Am.o2 p0).rd A8) fun B8 B9 Ba Bb=>?_;obtain ⟨Ca,Cb,Cd,Ce,rfl,Bc,Be⟩:=Bb;have Ao:=Am.no2 Ba Be Bc;obtain ⟨⟨Bf,Bg,Cf⟩,Bh,Ap⟩:=ABm A9;dsimp only at Ap;refine ACw rfl (AQj (Ao.o2 p0).rd Bh) fun Cg Ch Bi Bj=>?_;obtain ⟨Bl,Bm,Bn,Bo,Bp,Bq,Br,Bt,rfl,Bu,Bv,Bw⟩:=Bj;have Af:=Ao.n Bi [aO2 (cI .i64) 23 2 Bm Bn Bo Bl Bf,aO2 cZ 112 109 Bq Br Bt Bp Bg] Bw ⟨Bu,Bv,trivial⟩;simp only [List.cons_append,List.nil_append] at Af;refine Wl (AC4 rfl rfl (AC4 rfl rfl (AC4 rfl rfl (ACg (ACg (ACr (Wl (ABq (ABs ?_)))))))));obtain rfl:=ABk Ap;exact ⟨_,ABu,Af.x,_,_,_,_,rfl,(Af.o2 p0),Af.s.sel [0] (by decide)⟩
end Go.Proofs.YtiegjkmfpcgjjaaGreatDoor
namespace Go.QF
open Go
theorem Ab0 {h:ABj} {v:Value} {l:List Value} (H:Sl h v l):SlK h 1 v (l.map fun x=>[x]):=by
 obtain ⟨a,cap,hv,hc⟩:=H;refine ⟨a,cap,by rw [List.length_map];exact hv,fun i row hr=>?_⟩;rw [List.getElem?_map] at hr;obtain ⟨x,hx,rfl⟩:=Option.map_eq_some_iff.1 hr;obtain ⟨b,o,ha,hb⟩:=hc i x hx;refine ⟨b,o,ha,fun j y hy=>?_⟩
 cases j with
 | zero=>injection hy with hy;subst hy;rw [Nat.mul_one,Nat.add_zero];exact hb
 | succ j=>simp at hy
theorem Ab1 {h:ABj} {v:Value} {l:List Value} (H:SlK h 1 v (l.map fun x=>[x])):Sl h v l:=by
 obtain ⟨a,cap,hv,hc⟩:=H;refine ⟨a,cap,by rw [List.length_map] at hv;exact hv,fun i x hx=>?_⟩;obtain ⟨b,o,ha,hb⟩:=hc i [x] (by simp [hx]);refine ⟨b,o,ha,?_⟩;have:=hb 0 x rfl;rwa [Nat.mul_one,Nat.add_zero] at this
theorem Aif {κ:IntKind} {h:ABj} {v:Value} {L:List Int} (H:Sl h v (L.map (.int κ))):SlC (cI κ) h v L:=by
 refine ⟨L.map fun a=>[.int κ a],?_,by simp,fun i cs a h1 h2=>?_⟩
 ·have:=Ab0 H;rwa [List.map_map] at this
 ·rw [List.getElem?_map,h2] at h1;injection h1 with h1;exact h1.symm
theorem Auv {κ:IntKind} {h:ABj} {v:Value} {L:List Int} (H:SlC (cI κ) h v L):Sl h v (L.map (.int κ)):=by
 obtain ⟨Ls,h1,h2,h3⟩:=H
 have:Ls=(L.map (Value.int κ)).map fun x=>[x]:=by
   apply List.ext_getElem?
   intro i
   by_cases hi:i < L.length
   · obtain ⟨a,ha⟩:∃ a,L[i]? =some a:=⟨L[i],List.getElem?_eq_getElem hi⟩
     obtain ⟨cs,hcs⟩:∃ cs,Ls[i]? =some cs:=⟨Ls[i]'(by omega),List.getElem?_eq_getElem _⟩
     have:=h3 i cs a hcs ha
     rw [hcs,List.map_map,List.getElem?_map,ha]
     exact congrArg some this
   · rw [List.getElem?_eq_none (by omega),List.getElem?_eq_none (by simp;omega)]
 subst this;exact Ab1 h1
theorem Api {h:ABj} {v:Value} {M:List (List Int)} (H:AFo (cI .i64) h v M):Mat h v M:=by
 obtain ⟨_,rs,h1,h2,h3⟩:=H;exact ⟨rs,Ab1 h1,h2,fun i r z hr hz=>Auv (h3 i r z hr hz)⟩
theorem Aj7 {h:ABj} {v:Value} {M:List (List Int)} (H:Mat h v M) (hc:ANt v):AFo (cI .i64) h v M:=by
 obtain ⟨rs,h1,h2,h3⟩:=H;exact ⟨hc,rs,Ab0 h1,h2,fun i r z hr hz=>Aif (h3 i r z hr hz)⟩
end Go.QF
namespace Go.QF
def Abs (x b:Int):Prop:= -b<=x/\x<=b
theorem AUe {x y a b:Int} (hx:Abs x a) (hy:Abs y b):Abs (x * y) (a * b):=by
 unfold Abs at *;have ha:0<=a:=by omega
 have hb:0<=b:=by omega
 have h1:0<=(a - x) * (b - y):=Int.mul_nonneg (by omega) (by omega);have h2:0<=(a - x) * (b + y):=Int.mul_nonneg (by omega) (by omega);have h3:0<=(a + x) * (b - y):=Int.mul_nonneg (by omega) (by omega);have h4:0<=(a + x) * (b + y):=Int.mul_nonneg (by omega) (by omega);constructor <;> grind
theorem Apj {x b y:Int} (hb:0 < b) (hx:Abs x (b * y)):Abs (x.tdiv b) y:=by
 unfold Abs at *;rcases AS1 x 0 with h | h
 ·have h1:x.tdiv b= -((-x).tdiv b):=by rw [Int.neg_tdiv,Int.neg_neg]
  have h2:(-x).tdiv b=(-x) / b:=Int.tdiv_eq_ediv_of_nonneg (by omega)
  have h3:(-x) / b<=y:=by
    have:(-x) / b<=(b * y) / b:=Int.ediv_le_ediv hb (by omega)
    rwa [Int.mul_ediv_cancel_left _ (by omega)] at this
  have h4:0<=(-x) / b:=Int.ediv_nonneg (by omega) (by omega);omega
 ·have h2:x.tdiv b=x / b:=Int.tdiv_eq_ediv_of_nonneg h
  have h3:x / b<=y:=by
    have:x / b<=(b * y) / b:=Int.ediv_le_ediv hb (by omega)
    rwa [Int.mul_ediv_cancel_left _ (by omega)] at this
  have h4:0<=x / b:=Int.ediv_nonneg h (by omega);omega
def AZ2 (M:List (List Int)):Prop:=(1<=M.length/\M.length<=8)/\(∀ z∈M,z.length=M.length)/\ ∀ i j,i < M.length->j < M.length->ent M i j=ent M j i/\ -262144 < ent M i j/\ent M i j < 262144
open Classical in
noncomputable def AKu (M:List (List Int)):Bool:=decide (AZ2 M)
theorem AGt {M:List (List Int)} (h:AZ2 M):true=AKu M:=by simp [AKu,h]
theorem AE3 {M:List (List Int)} (h: ¬ AZ2 M):false=AKu M:=by simp [AKu,h]
theorem AZ3 {M:List (List Int)} (h:AKu M=true):AZ2 M:=by simpa [AKu] using h
def AO0 (m:Nat) (F:Nat->Nat->Int):Prop:=(0 < F 0 0/\F 0 0 < 65536)/\ ∀ i,1<=i->i < m->2 * F i 0<=F 0 0/\ -2 * F i 0<=F 0 0
instance (m:Nat) (F:Nat->Nat->Int):Decidable (AO0 m F):=by
  unfold AO0
  have:Decidable (∀ i,1<=i->i < m->2 * F i 0<=F 0 0/\ -2 * F i 0<=F 0 0):=
    decidable_of_iff (∀ i,i < m->1<=i->2 * F i 0<=F 0 0/\ -2 * F i 0<=F 0 0) ⟨fun h i a b=>h i b a,fun h i a b=>h i b a⟩
  infer_instance
def AQk (F:Nat->Nat->Int) (last:Int):Nat->Nat->Int:=fun i j=>(F 0 0 * F (i + 1) (j + 1) - F (i + 1) 0 * F 0 (j + 1)).tdiv last
def AUp (F:Nat->Nat->Int) (last:Int):Prop:=3 * F 0 0 * F 0 0<=4 * (last * AQk F last 0 0 + F 1 0 * F 1 0)
instance (F:Nat->Nat->Int) (last:Int):Decidable (AUp F last):=by unfold AUp;infer_instance
def AO1:Nat->(Nat->Nat->Int)->Int->Bool
  | 0,_,_=>false
  | 1,F,_=>decide (0 < F 0 0/\F 0 0<=10000)
  | m + 2,F,last=>decide (AO0 (m + 2) F) && (decide (AUp F last) && AO1 (m + 1) (AQk F last) (F 0 0))
noncomputable def isRed (M:List (List Int)):Bool:=AKu M && AO1 M.length (ent M) 1
structure Stg (m:Nat) (F:Nat->Nat->Int) (last:Int) (K:Int):Prop where
  sym:∀ i j,i < m->j < m->F i j=F j i
  bd:∀ i j,i < m->j < m->Abs (F i j) (last * K)
  l1:1<=last
  l2:last<=65535
theorem Afv {m:Nat} {F:Nat->Nat->Int} {last K:Int} (H:Stg (m + 1) F last K) (hK:0<=K) (hs:AO0 (m + 1) F):Stg m (AQk F last) (F 0 0) (K + 16384):=by
 have hd:=hs.1
 have hcol:∀ i,i < m->Abs (2 * F (i + 1) 0) (F 0 0):=fun i hi=>by
   have:=hs.2 (i + 1) (by omega) (by omega)
   exact ⟨by omega,by omega⟩
 refine ⟨fun i j hi hj=>?_,fun i j hi hj=>?_,by omega,by omega⟩
 ·unfold AQk;rw [H.sym (i + 1) (j + 1) (by omega) (by omega),H.sym (i + 1) 0 (by omega) (by omega),H.sym 0 (j + 1) (by omega) (by omega),Int.mul_comm (F 0 (i + 1))]
 ·unfold AQk;refine Apj (by have:=H.l1;omega) ?_;have h1:Abs (F 0 0 * F (i + 1) (j + 1)) (F 0 0 * (last * K)):=AUe ⟨by omega,by omega⟩ (H.bd _ _ (by omega) (by omega))
  have h2:Abs (2 * F (i + 1) 0 * (2 * F 0 (j + 1))) (F 0 0 * F 0 0):=by
    refine AUe (hcol i hi) ?_
    rw [H.sym 0 (j + 1) (by omega) (by omega)];exact hcol j hj
  have h3:0<=F 0 0 * (65536 - F 0 0):=Int.mul_nonneg (by omega) (by omega);have h4:0<=F 0 0 * (last - 1):=Int.mul_nonneg (by omega) (by have:=H.l1;omega);unfold Abs at *;have e1:2 * F (i + 1) 0 * (2 * F 0 (j + 1))=4 * (F (i + 1) 0 * F 0 (j + 1)):=by grind
  rw [e1] at h2;have e2:last * (F 0 0 * (K + 16384))=F 0 0 * (last * K) + 16384 * (F 0 0 * last):=by grind
  rw [e2];have e3:F 0 0 * (65536 - F 0 0)=65536 * F 0 0 - F 0 0 * F 0 0:=by grind
  have e4:F 0 0 * (last - 1)=F 0 0 * last - F 0 0:=by grind
  rw [e3] at h3;rw [e4] at h4;omega
theorem Al9 {M:List (List Int)} (h:AZ2 M):Stg M.length (ent M) 1 262144:=by
 refine ⟨fun i j hi hj=>(h.2.2 i j hi hj).1,fun i j hi hj=>?_,by omega,by omega⟩;have:=h.2.2 i j hi hj;unfold Abs;omega
theorem AN5 {m:Nat} {F:Nat->Nat->Int} {last:Int} (h:2<=m) (hs: ¬ AO0 m F):AO1 m F last=false:=by
 obtain ⟨n,rfl⟩:∃ n,m=n + 2:=⟨m - 2,by omega⟩;unfold AO1;rw [decide_eq_false hs];rfl
theorem ARq {m:Nat} {F:Nat->Nat->Int} {last:Int} (h:2<=m) (hs: ¬ AUp F last):AO1 m F last=false:=by
 obtain ⟨n,rfl⟩:∃ n,m=n + 2:=⟨m - 2,by omega⟩;unfold AO1;rw [decide_eq_false hs,Bool.false_and,Bool.and_false]
theorem Ama {m:Nat} {F:Nat->Nat->Int} {last:Int} (h:2<=m) (hs:AO0 m F) (hl:AUp F last):AO1 m F last=AO1 (m - 1) (AQk F last) (F 0 0):=by
 obtain ⟨n,rfl⟩:∃ n,m=n + 2:=⟨m - 2,by omega⟩;rw [AO1,decide_eq_true hs,decide_eq_true hl];rfl
theorem AYi {m:Nat} {F:Nat->Nat->Int} {last K:Int} (H:Stg m F last K) (hK0:0<=K) (hK:K<=393216) {i j:Nat} (hi:i < m) (hj:j < m):Abs (F i j) 34359738368:=by
  have h1:=H.bd i j hi hj;have h2:=(AR5 (a:=last) (b:=K) (A:=65535) (B:=393216) (by have:=H.l1;omega) H.l2 hK0 hK).2;unfold Abs at *;omega
end Go.QF
namespace Go.Proofs.YtiegjkmfpcgjjaaGreatDoor
open Go Go.QF
set_option maxRecDepth 100000
def zf (z:List Int) (c:Nat):Int:=z[c]?.getD 0
theorem Afw (z:List Int):(List.range z.length).map (zf z)=z:=by
 refine List.ext_getElem (by simp) fun i h1 h2=>?_;simp [zf,h2]
theorem Apk {z:List Int} {m:Int} (hm:0 < m) (h:∀ x∈z,0<=x/\x < m) (c:Nat):0<=zf z c/\zf z c < m:=by
 unfold zf;rcases Nat.lt_or_ge c z.length with hc | hc
 ·simp [hc];exact h _ (List.getElem_mem _)
 ·simp [List.getElem?_eq_none hc,hm]
theorem Apl {h:ABj} {g:Nat} {v:Value} {z:List Int} (HO:AD7 h tI g v (z.map (.int .i64))) {f m:Int} (hz:∀ x∈z,0<=x/\x < m) (hf:0<=f) (hfm:f < m) (hm:2<=m) (Ac:m<=2147483647) (hl:z.length<=1000000):
    ACa Tryz.prog 76 #[v,.int .i64 f,.int .i64 m] h fun r h'=>Upd (· =g) h h'/\AD7 h' tI g v (((List.range z.length).map fun c=>zf z c * f % m).map (.int .i64)):=by
 refine AC0 (l:=[_,_,_]) mx Tryz.func76 rfl rfl rfl rfl rfl (by kernel_rfl) (ABl (Wl (APw ABx rfl HO.sl (Wl (ABp (ABr (ACk 16776384 (fun j:Nat=>[(10,.int .i64 (j:Int))]) (fun k j h'=>Upd (· =g) h h'/\k=z.length - j/\j<=z.length/\AD7 h' tI g v ((AUn z.length (fun c=>zf z c * f % m) (zf z) j).map (.int .i64))) (by kernel_rfl) z.length 0 ?_ ⟨rfl,trivial⟩ ?_)))))))
 ·exact ⟨Upd.refl _ _,by omega,by omega,by rw [AWq,Afw];exact HO⟩
 rintro k j s h1 ⟨hU,rfl,hj,HQ⟩;refine ABl (AFn rfl rfl (fun Ab=>?_) (fun Ab=>?_))
 ·refine ABp (ABn (ACe rfl (ABt (q_t (ABn (ABr (ABl (Wl (AL6 ABx rfl HQ.sl rfl (Ai8 (by omega)) fun aX haX=>AB9 ACt rfl haX (ACg (ABq ?_)))))))))));have hxb:=Apk (by omega) hz j;have hxf:=AR5 (a:=zf z j) (b:=f) (A:=2147483647) (B:=2147483647) (by omega) (by omega) (by omega) (by omega);refine ABy (Wl (Wl (Wl (Wl (ALd rfl rfl (by omega) (by omega) (Wl (AOu rfl rfl (by omega) (by omega) (ANs ABx rfl HQ rfl (by rw [List.length_map,ALx];omega) ?_))))))));refine ASz ACt rfl rfl rfl HQ (by rw [List.length_map,ALx];omega) ?_;have Aa:=HQ.setI (j:=j) (by rw [ALx];omega) (zf z j * f % m);rw [AY8 (by omega) rfl] at Aa;refine ACm (q_b (q_t (ABy (AI9 rfl (by omega) (Wl (ABp ?_))))));exact ⟨z.length - (j + 1),j + 1,by omega,⟨hU.trans (AHe _ _ _),rfl,by omega,Aa⟩,rfl,trivial⟩
 ·refine ABp (ABn (ACf rfl (ACd (ACc (ACc (ADo (⟨_,AT1,?_⟩)))))));rw [AY6 _ _ (by omega)] at HQ;exact ⟨hU,HQ⟩
theorem AV6 {h:ABj} {g gr:Nat} {vt vr:Value} {t r:List Int} {a:Addr} (HT:AD7 h tI g vt (t.map (.int .i64))) (HR:AD7 h tI gr vr (r.map (.int .i64))) (hne:g≠gr) (htr:t.length=r.length) {f m:Int} (hb:AEx h a=some (.int .i64 m)) (hab:a.block≠g) (ht:∀ x∈t,0<=x/\x < m) (hr:∀ x∈r,0<=x/\x < m) (hf:0<=f) (hfm:f < m) (hm:2<=m) (Ac:m<=2147483647) (hl:r.length<=1000000):
    ACa Tryz.prog 105 #[vt,vr,.int .i64 f,.pointer (some a)] h fun _ h'=>Upd (· =g) h h'/\AD7 h' tI g vt (((List.range r.length).map fun c=>(zf t c + (m - f) * zf r c) % m).map (.int .i64)):=by
 refine AC0 (l:=[_,_,_,_]) mx Tryz.func105 rfl rfl rfl rfl rfl (by kernel_rfl) (ABl (Wl (APw ABx rfl HR.sl (Wl (ABp (ABr (ACk 4294965632 (fun j:Nat=>[(11,.int .i64 (j:Int))]) (fun k j h'=>Upd (· =g) h h'/\k=r.length - j/\j<=r.length/\AD7 h' tI g vt ((AUn r.length (fun c=>(zf t c + (m - f) * zf r c) % m) (zf t) j).map (.int .i64))) (by kernel_rfl) r.length 0 ?_ ⟨rfl,trivial⟩ ?_)))))))
 ·exact ⟨Upd.refl _ _,by omega,by omega,by rw [AWq,<- htr,Afw];exact HT⟩
 rintro k j s h1 ⟨hU,rfl,hj,HQ⟩;have HRc:=HR.upd hU (fun he=>hne he.symm);have hbx:=AT2 hb hU (fun he=>hab he);refine ABl (AFn rfl rfl (fun Ab=>?_) (fun Ab=>?_))
 ·refine ABp (ABn (ACe rfl (ABt (q_t (ABn (ABr (ABl (Wl (AL6 ABx rfl HRc.sl rfl (show r[j]? =some (zf r j) by rw [zf,List.getElem?_eq_getElem (by omega)];rfl) fun aX haX=>?_)))))))));refine AB9 ACt rfl haX (ACg (ABq ?_));have hxb:=Apk (by omega) hr j;have htb:=Apk (by omega) ht j;have hxf:=AR5 (a:=m - f) (b:=zf r j) (A:=2147483647) (B:=2147483647) (by omega) (by omega) (by omega) (by omega);refine AOs (by kernel_rfl) (Wl (Wl (Wl (Wl (AL6 ABx rfl HQ.sl rfl (Ai8 (by omega)) fun aT haT=>AB9 ACt rfl haT (AB9 ACt rfl hbx (Wl (ALu rfl rfl (by omega) (by omega) (Wl (ALd rfl rfl (by omega) (by omega) (ATj rfl rfl (by omega) (by omega) (AB9 ACt rfl hbx (AOu rfl rfl (by omega) (by omega) (ANs ABx rfl HQ rfl (by rw [List.length_map,ALx];omega) ?_))))))))))))));refine ASz ACt rfl rfl rfl HQ (by rw [List.length_map,ALx];omega) ?_;have Aa:=HQ.setI (j:=j) (by rw [ALx];omega) ((zf t j + (m - f) * zf r j) % m);rw [AY8 (by omega) rfl] at Aa;refine ACm (q_b (q_t (ABy (AI9 rfl (by omega) (Wl (ABp ?_))))));exact ⟨r.length - (j + 1),j + 1,by omega,⟨hU.trans (AHe _ _ _),rfl,by omega,Aa⟩,rfl,trivial⟩
 ·refine ABp (ABn (ACf rfl (ACd (ACc (ACc (ADo (⟨_,AT1,?_⟩)))))));rw [AY6 _ _ (by omega)] at HQ;exact ⟨hU,HQ⟩
theorem AUz (m:Int) (h:ABj):ACa Tryz.prog 74 #[.int .i64 m] h fun v h'=>h'=h.push (.cells #[.int .i64 m] tI (0,0))/\v= .func (.func 105) #[] #[.pointer (some ⟨h.size,0,none⟩)]:=by
 refine AC0 (l:=[_]) mx Tryz.func74 rfl rfl rfl rfl rfl (by kernel_rfl) (ABl (Ang trivial rfl ⟨trivial,?_⟩));refine ACr (Avc (l:=[.pointer (some ⟨h.size,0,none⟩)]) rfl (ABq (ABs (⟨_,ABu,?_⟩))));exact ⟨rfl,rfl⟩
theorem AZ4 {c:Nat} {g:Nat->Int} {q:Nat} (hq:q < c):zf ((List.range c).map g) q=g q:=by simp [zf,hq]
theorem AG3 {α:Type} {c:Nat} {g:Nat->α} {q:Nat} (hq:q < c):((List.range c).map g)[q]? =some (g q):=by simp [hq]
theorem AXt {α:Type} {c:Nat} {f g:Nat->α} (h:∀ q,q < c->f q=g q):(List.range c).map f=(List.range c).map g:=List.map_congr_left fun q hq=>h q (by simpa using hq)
theorem Amb {c:Nat} {g:Nat->Int} {f m:Int}:(List.range ((List.range c).map g).length).map (fun q=>zf ((List.range c).map g) q * f % m)=(List.range c).map fun q=>g q * f % m:=by
 rw [List.length_map,List.length_range];exact AXt fun q hq=>by rw [AZ4 hq]
theorem Afx {c:Nat} {g k:Nat->Int} {f m:Int}:(List.range ((List.range c).map g).length).map (fun q=>(zf ((List.range c).map k) q + (m - f) * zf ((List.range c).map g) q) % m)=(List.range c).map fun q=>(k q + (m - f) * g q) % m:=by
 rw [List.length_map,List.length_range];exact AXt fun q hq=>by rw [AZ4 hq,AZ4 hq]
def Ayk (x:Nat):Value:= .int .i64 (x:Int)
def Afy (h h':ABj) (b:Nat) (gs:List Nat) (v:Value) (r c:Nat) (p:Int) (F:Nat->Nat->Int) (pv:Value) (piv:List Nat) (gs':List Nat):Prop:=
  Upd (· ∈b :: gs) h h'/\ADv h' tR tI b gs' v r (tab r c F)/\(∀ g∈gs',g∈gs)/\Gro h' 3 (h.size + 1) pv (piv.map Ayk)/\AEx h' ⟨h.size,0,none⟩=some (.int .i64 p)/\h.size + 1<=h'.size
theorem Afy.turn {h h1 h2:ABj} {b:Nat} {gs Af Ab:List Nat} {v pv:Value} {r c:Nat} {p:Int} {F F2:Nat->Nat->Int} {piv:List Nat} (H:Afy h h1 b gs v r c p F pv piv Af) (hlt:∀ g∈b :: gs,g < h.size) {g:Nat} (hU:Upd (· =g) h1 h2) (hg:g∈b :: gs) (HP:ADv h2 tR tI b Ab v r (tab r c F2)) (hs:∀ g∈Ab,g∈gs):Afy h h2 b gs v r c p F2 pv piv Ab:=by
 obtain ⟨h3,h4,h5,h6,h7,h8⟩:=H;have hgl:=hlt g hg;refine ⟨h3.trans (hU.mono fun k _ hk=>by have Aj:k=g:=hk;rw [Aj];exact hg),HP,hs,h6.upd hU (fun k hk he=>by have Ak:k=g:=he;have:=(h6.blk k hk).1;omega),AT2 h7 hU (fun he=>by have Ak:h.size=g:=he;omega),Nat.le_trans h8 hU.1⟩
section
variable {P:Program} {B:ABj->Prop} {st:Bool} {ops:Array Oper} {rest:List Oper} {e:Env} {h:ABj} {K:Env->ABj->Prop}
variable {d:Nat} {ty:TypeId} {pos:String} {af:Array Edge}
end
theorem ADv.nodup {h:ABj} {er ei b n:Nat} {gs:List Nat} {v:Value} {M:List (List Int)} (H:ADv h er ei b gs v n M):(b :: gs).Nodup:=let ⟨_,_,_,_,_,_,h⟩:=H;h
end Go.Proofs.YtiegjkmfpcgjjaaGreatDoor
namespace Go.Proofs.YtiegjkmfpcgjjaaGreatDoor
open Go Go.QF
set_option maxRecDepth 100000
def Apm (n C:Nat) (m:Int) (Q:(Nat->Nat->Int)->Int->Prop):Prop:= ∀ F s c i q,c < n->i < n->c≠i->0<=q->q < m->Bd n C m F->Q F s->Q (AOi F c i q m) (-s)
theorem Aa7 {h:ABj} {b:Nat} {gs:List Nat} {v:Value} {n C:Nat} {F:Nat->Nat->Int} {m:Int} (Aj:ADv h tR tI b gs v n (tab n C F)) (hnC:n<=C) (hC:C<=1000000) (hm:2<=m) (Be:m<=2147483647) (hbd:Bd n C m F) (Q:(Nat->Nat->Int)->Int->Prop) (Bf:Q F 1) (hQ:Apm n C m Q):
    ACa Tryz.prog 73 #[v,.int .i64 m] h fun x h'=>Upd (· ∈b :: gs) h h'/\ ∃ F1 s Af,x= .int .i64 s/\(s=1∨s= -1)/\ADv h' tR tI b Af v n (tab n C F1)/\(∀ g∈Af,g∈gs)/\Q F1 s/\Bd n C m F1/\Zc n F1 n:=by
 have HP:=Aj;refine AC0 (l:=[_,_]) mx Tryz.func73 rfl rfl rfl rfl rfl (by kernel_rfl) (ABl (ACr (Wl (ACp trivial rfl (AUz m h) fun fv h1 hk=>?_))));obtain ⟨rfl,rfl⟩:=hk;refine ⟨trivial,?_⟩;have hpush:=AEf h (.cells #[.int .i64 m] tI (0,0));have HP:=ADv.ext Aj hpush;have hlt:=ADv.lt Aj;refine ACr (ABq (ABn (ABl (Wl (AU5 AB4 rfl HP (Wl (ABp (ABr (ACk 18889465931478580847040 (fun y:Nat × Int=>[(13,.int .i64 (y.1:Int)),(6,.int .i64 y.2)]) (fun k y h'=>k=n - y.1/\y.1<=n/\(y.2=1∨y.2= -1)/\ ∃ F1 Af,Afy h h' b gs v n C m F1 (.slice none 0 0) [] Af/\Q F1 y.2/\Bd n C m F1/\Zc n F1 y.1) (by kernel_rfl) n (0,1) ?_ ⟨rfl,rfl,trivial⟩ ?_)))))))))
 ·refine ⟨rfl,by omega,.inl rfl,F,gs,⟨hpush.upd,HP,fun g hg=>hg,AT4 _ _ _,?_,by simp⟩,Bf,hbd,fun c' i h1=>by omega⟩;simp [AEx]
 rintro k ⟨c,s1⟩ sx h1 ⟨rfl,hc,Am,F1,Af,Ah,Ao,Ay,Ap⟩;dsimp only at hc Am Ao Ap ⊢;have Bo:=Ah.2.1;refine ABl (AFn rfl rfl (fun Bg=>?_) (fun Bg=>?_))
 ·refine ABp (ABn (ACe rfl (ABt (q_t (ABn (ABr (ABl (Wl (ACr (Wl (AI9 rfl (by omega) (ABq (ABr ?_)))))))))))));refine ACk 9444732965739290165568 (fun y:Nat × Int=>[(8,.int .i64 (y.1:Int)),(6,.int .i64 y.2)]) (fun k y h'=>k=n - y.1/\c < y.1/\y.1<=n/\(y.2=1∨y.2= -1)/\ ∃ F2 Ai,Afy h h' b gs v n C m F2 (.slice none 0 0) [] Ai/\Q F2 y.2/\Bd n C m F2/\Zc n F2 c/\Zi F2 c y.1) (by kernel_rfl) (n - (c + 1)) (c + 1,s1) ?_ ⟨rfl,rfl,trivial⟩ ?_
  ·exact ⟨rfl,by first | omega | (dsimp only;omega),by first | omega | (dsimp only;omega),Am,F1,Af,Ah,Ao,Ay,Ap,fun k h1 h2=>by omega⟩
  rintro k ⟨i,s2⟩ sy h2 ⟨rfl,hci,hi,Aq,F2,Ai,Ar,Au,Az,A3,Av⟩;dsimp only at hci hi Aq Au Av ⊢;have Bi:=Ar.2.1;refine ABn (ABl (Wl (Wl (AU5 AB4 rfl Bi (AFn rfl rfl (fun Bj=>?_) (fun Bj=>?_))))))
  ·refine ABp (ACe rfl (ABt (q_t (ABn (ABr (ABr (ACk 9444732965739273650240 (fun s3:Int=>[(6,.int .i64 s3)]) (fun k s3 h'=>(s3=1∨s3= -1)/\ ∃ F3 Aw,k=(F3 i c).toNat/\Afy h h' b gs v n C m F3 (.slice none 0 0) [] Aw/\Q F3 s3/\Bd n C m F3/\Zc n F3 c/\Zi F3 c i) (by kernel_rfl) (F2 i c).toNat s2 ?_ ⟨rfl,trivial⟩ ?_)))))))
   ·exact ⟨Aq,F2,Ai,rfl,Ar,Au,Az,A3,Av⟩
   rintro k s3 sz h3 ⟨Bl,F3,Aw,rfl,Ae,A4,Ag,A5,A6⟩;have Ad:=Ae.2.1;refine ABn (ABl (Wl (Wl (AOh AB4 rfl Ad rfl (AEi (by omega)) fun aA rA gA haA hgA hrA=>AB9 ACo rfl haA (Wl (AL6 ABx rfl hrA.sl rfl (AG3 (by omega)) fun aB haB=>AB9 ACt rfl haB (AUt rfl rfl (fun A7=>?_) (fun A7=>?_))))))))
   ·refine ABp (ACe rfl (ABt (q_t (ABr (ABn ?_)))));have hcc:=Ag c c (by omega) (by omega);have hic:=Ag i c (by omega) (by omega);have hq:=Anx hcc.1 hcc.2 (b:=F3 i c) (by omega);refine AOs (by kernel_rfl) (Wl (Wl (Wl (AOh AB4 rfl Ad rfl (AEi (by omega)) fun aK rK gK haK hgK hrK=>AB9 ACo rfl haK (Wl (Wl (AOh AB4 rfl Ad rfl (AEi (by omega)) fun aL rL gL haL hgL hrL=>AB9 ACo rfl haL ?_)))))));have hgKm:gK∈b :: gs:=List.mem_cons_of_mem _ (Ae.2.2.1 _ (List.mem_of_getElem? hgK));have hneKL:gK≠gL:=fun he=>absurd (AG6 (List.nodup_cons.1 (ADv.nodup Ae.2.1)).2 hgK (he ▸ hgL)) (by omega);refine Wl (Wl (AOh AB4 rfl Ad rfl (AEi (by omega)) fun aN rN gN haN hgN hrN=>AB9 ACo rfl haN (Wl (AL6 ABx rfl hrN.sl rfl (AG3 (by omega)) fun aU haU=>AB9 ACt rfl haU (Wl (Wl (AOh AB4 rfl Ad rfl (AEi (by omega)) fun aO rO gO haO hgO hrO=>AB9 ACo rfl haO (Wl (AL6 ABx rfl hrO.sl rfl (AG3 (by omega)) fun aV haV=>AB9 ACt rfl haV (AWl rfl rfl (by omega) (by omega) (by omega) (Aco trivial rfl rfl (AV6 (a:=⟨h.size,0,none⟩) hrK hrL hneKL (by simp) Ae.2.2.2.2.1 (by have:=hlt _ hgKm;dsimp only;omega) (AZb Ag (by omega)) (AZb Ag (by omega)) hq.1 hq.2 hm Be (by simp;omega)) fun ev h7 hk=>?_)))))))))));obtain ⟨A8,A9⟩:=hk;refine ⟨trivial,?_⟩;rw [Afx] at A9;have Ax:=ADv.setRow' Ae.2.1 hgK A8 (AEi (by omega)) hrK A9;rw [AH5] at Ax;have Ba:=Ae.turn hlt A8 hgKm Ax Ae.2.2.1;have Ad:=Ax;refine ABp (ABn (AOs (by kernel_rfl) (Wl (Wl (Wl (Wl (Wl (Wl (AOh AB4 rfl Ad rfl (AEi (by omega)) fun aI rI gI haI hgI hrI=>AB9 ACo rfl haI (Wl (Wl (AOh AB4 rfl Ad rfl (AEi (by omega)) fun aT rT gT haT hgT hrT=>AB9 ACo rfl haT ?_))))))))))));obtain ⟨rs,HT,hrl⟩:=ADv.top Ad;refine ANs AB4 rfl HT rfl (by omega) (ASz ACo rfl rfl hrI.one HT (by omega) ?_);have Bb:=HT.set c rI (by omega);refine ANs AB4 rfl Bb rfl (by simp;omega) ?_;refine ASz ACo rfl rfl hrT.one Bb (by simp;omega) ?_;have Bc:=ADv.swap Ad hgT hgI (AEi (by omega)) (AEi (by omega)) hrT hrI;rw [AH5,AH5] at Bc;have Bm:=Ba.turn hlt ((AHe _ ⟨b,c,none⟩ rI).trans (AHe _ ⟨b,i,none⟩ rT)) (List.mem_cons_self ..) (F2:=AOi F3 c i (F3 c c / F3 i c) m) Bc (fun g hg=>Ba.2.2.1 g (Anw hgT hgI hg));refine ABp (ABy (Wl (ATh rfl ?_)));have hws:IntKind.i64.wrap (0 - s3)= -s3:=by rw [IntKind.wrap_i64];omega
    rw [hws];refine ACg (ACm (q_b (q_t ?_)));have Bn:AOi F3 c i (F3 c c / F3 i c) m i c=F3 c c % F3 i c:=by rw [Acx];exact Ajd hcc.1 hcc.2 (by omega) hic.2
    have Br:=Int.emod_lt_of_pos (F3 c c) (b:=F3 i c) (by omega);exact ⟨_,-s3,by rw [Bn];omega,⟨by omega,_,_,rfl,Bm,hQ _ _ _ _ _ (by omega) (by omega) (by omega) hq.1 hq.2 Ag A4,Aja (by omega) Ag (by omega) (by omega),Ajb A5 (by omega) (by omega),Ajc A6⟩,rfl,trivial⟩
   ·refine ABp (ACf rfl (ACd (ACc (ACc (ADo (q_b (q_t (ABy (Wl (AI9 rfl (by omega) (ABq ?_)))))))))));exact ⟨n - (i + 1),(i + 1,s3),by first | omega | (dsimp only;omega),⟨rfl,by first | omega | (dsimp only;omega),by first | omega | (dsimp only;omega),Bl,F3,Aw,Ae,A4,Ag,A5,Acy A6 A7⟩,rfl,rfl,trivial⟩
  ·refine ABp (ACf rfl (ACd (ACc (ACc (ADo (q_b (q_t (ABy (AI9 rfl (by omega) (Wl (ABp ?_)))))))))));obtain rfl:i=n:=by omega
   exact ⟨i - (c + 1),(c + 1,s2),by first | omega | (dsimp only;omega),⟨rfl,by first | omega | (dsimp only;omega),Aq,F2,Ai,Ar,Au,Az,Acz A3 Av⟩,rfl,rfl,trivial⟩
 ·refine ABp (ABn (ACf rfl (ACd (ACc (ACc (ADo (q_t (ABl (Wl (ABq (ABs (⟨_,ABu,?_⟩))))))))))));obtain rfl:c=n:=by omega
  exact ⟨Ah.1,F1,s1,Af,rfl,Am,Ah.2.1,Ah.2.2.1,Ao,Ay,Ap⟩
theorem Aig {h:ABj} {v:Value} {M:List (List Int)} (HM:Mat h v M):ACa Tryz.prog 102 #[v] h fun x h'=>h'=h/\x= .bool (AKu M):=by
 refine AC0 (l:=[_]) mx Tryz.func102 rfl rfl rfl rfl rfl (by kernel_rfl) (ABl (ACr (Wl (ANb AB4 rfl HM (ABq (ABn (ABl (Wl (AFn rfl rfl (fun Ab=>?_) (fun Ab=>?_))))))))))
 ·refine Wl (ACi 14 true (by kernel_rfl) rfl rfl (ACi 14 true (by kernel_rfl) rfl rfl (ABz rfl (ABp (ACe rfl (ABl (ABq (ABs (AB2 (⟨_,ABu,?_⟩))))))))))
  first
    | exact ⟨rfl,congrArg Value.bool (AE3 fun hh=>by have:=hh.1;omega)⟩
    | exact ⟨rfl,congrArg Value.bool (AE3 fun hh=>by have:=hh.2.1 M[i] (List.getElem_mem _);omega)⟩
    | exact ⟨rfl,congrArg Value.bool (AE3 fun hh=>by have:=hh.2.2 a b (by omega) (by omega);omega)⟩
    | exact ⟨rfl,congrArg Value.bool (AGt ⟨⟨by omega,by omega⟩,hrows,fun x y hx hy=>hall x y (by omega) hy⟩)⟩
 ·refine Wl (ACz 14 false (by kernel_rfl) rfl rfl (Wl (ACz 14 false (by kernel_rfl) rfl rfl (ARh rfl rfl (fun Ac=>?_) (fun Ac=>?_)))))
  ·refine ABw rfl (ABp (ACe rfl (ABl (ABq (ABs (AB2 (⟨_,ABu,?_⟩)))))))
   first
     | exact ⟨rfl,congrArg Value.bool (AE3 fun hh=>by have:=hh.1;omega)⟩
     | exact ⟨rfl,congrArg Value.bool (AE3 fun hh=>by have:=hh.2.1 M[i] (List.getElem_mem _);omega)⟩
     | exact ⟨rfl,congrArg Value.bool (AE3 fun hh=>by have:=hh.2.2 a b (by omega) (by omega);omega)⟩
     | exact ⟨rfl,congrArg Value.bool (AGt ⟨⟨by omega,by omega⟩,hrows,fun x y hx hy=>hall x y (by omega) hy⟩)⟩
  ·refine ABw rfl (ABp (ACf rfl (ABt (q_t (ABn (ABl (Wl (ANb AB4 rfl HM (Wl (ABp (ABr (ACk 535822372 (fun i:Nat=>[(20,.int .i64 (i:Int))]) (fun k i h'=>h'=h/\k=M.length - i/\i<=M.length/\ ∀ j (hj:j < M.length),j < i->M[j].length=M.length) (by kernel_rfl) M.length 0 ?_ ⟨rfl,trivial⟩ ?_))))))))))))
   ·exact ⟨rfl,rfl,Nat.zero_le _,fun j _ hj=>by omega⟩
   rintro k i s1 h ⟨rfl,rfl,hi,hrow⟩;refine ABl (AFn rfl rfl (fun Ad=>?_) (fun Ad=>?_))
   ·refine ABp (ABn (ACe rfl (ABt (q_t (ABn (ABr (ABl (APb AB4 rfl HM rfl (List.getElem?_eq_getElem (by omega)) fun aR rR haR hrR=>?_))))))));refine AB9 ACo rfl haR (ACr (Wl (APw ABx rfl hrR (Wl (AUt rfl rfl (fun Ae=>?_) (fun Ae=>?_))))))
    ·refine ABp (ACe rfl (ABl (ABq (ABs (ADp (AB2 (AB2 (ADp (AB2 (⟨_,ABu,?_⟩))))))))))
     first
       | exact ⟨rfl,congrArg Value.bool (AE3 fun hh=>by have:=hh.1;omega)⟩
       | exact ⟨rfl,congrArg Value.bool (AE3 fun hh=>by have:=hh.2.1 M[i] (List.getElem_mem _);omega)⟩
       | exact ⟨rfl,congrArg Value.bool (AE3 fun hh=>by have:=hh.2.2 a b (by omega) (by omega);omega)⟩
       | exact ⟨rfl,congrArg Value.bool (AGt ⟨⟨by omega,by omega⟩,hrows,fun x y hx hy=>hall x y (by omega) hy⟩)⟩
    ·refine ABp (ACf rfl (ABt (q_b (q_t (ABy (AI9 rfl (by omega) (Wl (ABp ?_))))))));exact ⟨M.length - (i + 1),i + 1,by omega,⟨rfl,rfl,by omega,fun j hj Af=>by rcases Nat.lt_succ_iff_lt_or_eq.1 Af with q | rfl;exact hrow j hj q;omega⟩,rfl,trivial⟩
   ·refine ABp (ABn (ACf rfl (ACd (ACc (ACc (ADo (q_t (ABn (ABn ?_)))))))));have hrows:∀ z∈M,z.length=M.length:=fun z hz=>by obtain ⟨j,hj,rfl⟩:=List.getElem_of_mem hz;exact hrow j hj (by omega)
    have Aa:Mat h v (tab M.length M.length (ent M)):=(AY4 hrows) ▸ HM;refine ABy (Wl (ANb AB4 rfl Aa ?_));rw [ADg];refine Wl (ABp (ABr (ACk 4611686016279905220 (fun a:Nat=>[(31,.int .i64 (a:Int))]) (fun k a h'=>h'=h/\k=M.length - a/\a<=M.length/\ ∀ x y,x < a->y < M.length->ent M x y=ent M y x/\ -262144 < ent M x y/\ent M x y < 262144) (by kernel_rfl) M.length 0 ?_ ⟨rfl,trivial⟩ ?_)))
    ·exact ⟨rfl,rfl,Nat.zero_le _,fun x y hx=>by omega⟩
    rintro k a s2 h ⟨rfl,rfl,ha,hall⟩;refine ABl (AFn rfl rfl (fun Ag=>?_) (fun Ag=>?_))
    ·refine ABp (ABn (ACe rfl (ABt (q_t (ABn (ABr (ABl (Wl (APb AB4 rfl Aa rfl (AEi (by omega)) fun aS rS haS hrS=>AB9 ACo rfl haS (ACg (ACr (Wl (APw ABx rfl hrS ?_)))))))))))));rw [List.length_map,List.length_range];refine Wl (ABp (ABr (ACk 2305842734335787780 (fun b:Nat=>[(38,.int .i64 (b:Int))]) (fun k b h'=>h'=h/\k=M.length - b/\b<=M.length/\ ∀ y,y < b->ent M a y=ent M y a/\ -262144 < ent M a y/\ent M a y < 262144) (by kernel_rfl) M.length 0 ?_ ⟨rfl,trivial⟩ ?_)))
     ·exact ⟨rfl,rfl,Nat.zero_le _,fun y hy=>by omega⟩
     rintro k b s3 h ⟨rfl,rfl,hb,hrw⟩;refine ABl (AFn rfl rfl (fun Ah=>?_) (fun Ah=>?_))
     ·refine ABp (ABn (ACe rfl (ABt (q_t (ABn (ABr (ABl (Wl (AL6 ABx rfl hrS rfl (AG3 (by omega)) fun Aq Ai=>AB9 ACt rfl Ai (ACg (ACr (Wl (Wl (Wl (APb AB4 rfl Aa rfl (AEi (by omega)) fun aT rT haT hrT=>?_)))))))))))))));refine AB9 ACo rfl haT (Wl (AL6 ABx rfl hrT rfl (AG3 (by omega)) fun Ar Aj=>AB9 ACt rfl Aj (AUt rfl rfl (fun Ak=>?_) (fun Ak=>?_))))
      ·refine Wl (ACi 52 true (by kernel_rfl) rfl rfl (ACi 52 true (by kernel_rfl) rfl rfl (ABz rfl (Wl (ACi 56 true (by kernel_rfl) rfl rfl (ACi 56 true (by kernel_rfl) rfl rfl (ABz rfl (ABp (ACe rfl (ABl (ABq (ABs (ADp (AB2 (AB2 (ADp (ADp (AB2 (AB2 (ADp (AB2 (⟨_,ABu,?_⟩))))))))))))))))))))))
       first
         | exact ⟨rfl,congrArg Value.bool (AE3 fun hh=>by have:=hh.1;omega)⟩
         | exact ⟨rfl,congrArg Value.bool (AE3 fun hh=>by have:=hh.2.1 M[i] (List.getElem_mem _);omega)⟩
         | exact ⟨rfl,congrArg Value.bool (AE3 fun hh=>by have:=hh.2.2 a b (by omega) (by omega);omega)⟩
         | exact ⟨rfl,congrArg Value.bool (AGt ⟨⟨by omega,by omega⟩,hrows,fun x y hx hy=>hall x y (by omega) hy⟩)⟩
      ·refine Wl (ACz 52 false (by kernel_rfl) rfl rfl (Wl (ACz 52 false (by kernel_rfl) rfl rfl (AUr rfl rfl (fun Am=>?_) (fun Am=>?_)))))
       ·refine ABw rfl (Wl (ACi 56 true (by kernel_rfl) rfl rfl (ACi 56 true (by kernel_rfl) rfl rfl (ABz rfl (ABp (ACe rfl (ABl (ABq (ABs (ADp (AB2 (AB2 (ADp (ADp (AB2 (AB2 (ADp (AB2 (⟨_,ABu,?_⟩)))))))))))))))))))
        first
          | exact ⟨rfl,congrArg Value.bool (AE3 fun hh=>by have:=hh.1;omega)⟩
          | exact ⟨rfl,congrArg Value.bool (AE3 fun hh=>by have:=hh.2.1 M[i] (List.getElem_mem _);omega)⟩
          | exact ⟨rfl,congrArg Value.bool (AE3 fun hh=>by have:=hh.2.2 a b (by omega) (by omega);omega)⟩
          | exact ⟨rfl,congrArg Value.bool (AGt ⟨⟨by omega,by omega⟩,hrows,fun x y hx hy=>hall x y (by omega) hy⟩)⟩
       ·refine ABw rfl (Wl (ACz 56 false (by kernel_rfl) rfl rfl (Wl (ACz 56 false (by kernel_rfl) rfl rfl (AUs rfl rfl (fun Ao=>?_) (fun Ao=>?_))))))
        ·refine ABw rfl (ABp (ACe rfl (ABl (ABq (ABs (ADp (AB2 (AB2 (ADp (ADp (AB2 (AB2 (ADp (AB2 (⟨_,ABu,?_⟩)))))))))))))))
         first
           | exact ⟨rfl,congrArg Value.bool (AE3 fun hh=>by have:=hh.1;omega)⟩
           | exact ⟨rfl,congrArg Value.bool (AE3 fun hh=>by have:=hh.2.1 M[i] (List.getElem_mem _);omega)⟩
           | exact ⟨rfl,congrArg Value.bool (AE3 fun hh=>by have:=hh.2.2 a b (by omega) (by omega);omega)⟩
           | exact ⟨rfl,congrArg Value.bool (AGt ⟨⟨by omega,by omega⟩,hrows,fun x y hx hy=>hall x y (by omega) hy⟩)⟩
        ·refine ABw rfl (ABp (ACf rfl (ABt (q_b (q_t (ABy (AI9 rfl (by omega) (Wl (ABp ?_)))))))));exact ⟨M.length - (b + 1),b + 1,by omega,⟨rfl,rfl,by omega,fun y hy=>by rcases Nat.lt_succ_iff_lt_or_eq.1 hy with q | rfl;exact hrw y q;exact ⟨by omega,by omega,by omega⟩⟩,rfl,trivial⟩
     ·refine ABp (ABn (ACf rfl (ACd (ACc (ACc (ADo (q_b (q_t (ABy (AI9 rfl (by omega) (Wl (ABp ?_))))))))))));exact ⟨M.length - (a + 1),a + 1,by omega,⟨rfl,rfl,by omega,fun x y hx hy=>by rcases Nat.lt_succ_iff_lt_or_eq.1 hx with q | rfl;exact hall x y q hy;exact hrw y (by omega)⟩,rfl,trivial⟩
    ·refine ABp (ABn (ACf rfl (ACd (ACc (ACc (ADo (q_t (ABl (ABq (ABs (⟨_,ABu,?_⟩)))))))))))
     first
       | exact ⟨rfl,congrArg Value.bool (AE3 fun hh=>by have:=hh.1;omega)⟩
       | exact ⟨rfl,congrArg Value.bool (AE3 fun hh=>by have:=hh.2.1 M[i] (List.getElem_mem _);omega)⟩
       | exact ⟨rfl,congrArg Value.bool (AE3 fun hh=>by have:=hh.2.2 a b (by omega) (by omega);omega)⟩
       | exact ⟨rfl,congrArg Value.bool (AGt ⟨⟨by omega,by omega⟩,hrows,fun x y hx hy=>hall x y (by omega) hy⟩)⟩
theorem Apn {m:Nat} {F:Nat->Nat->Int}:(tab m m F).drop 1=tab (m - 1) m fun i j=>F (i + 1) j:=by
 refine List.ext_getElem (by simp [tab]) fun i h1 h2=>?_;simp [tab,Nat.add_comm]
theorem AZ5 {h:ABj} {v:Value} {m:Nat} {F:Nat->Nat->Int} (HM:Mat h v (tab m m F)) (hcap:ANt v) (hm:1<=m) (Au:m<=8) (hfit:∀ i,i < m->Abs (F i 0) 34359738368):ACa Tryz.prog 103 #[v] h fun x h'=>h'=h/\x= .bool (decide (AO0 m F)):=by
 refine AC0 (l:=[_]) mx Tryz.func103 rfl rfl rfl rfl rfl (by kernel_rfl) (ABl (ACr (Wl (APb (n:=0) AB4 rfl HM rfl (AEi (by omega)) fun Av Aw Ad Ae=>AB9 ACo rfl Ad (AL6 (n:=0) ABx rfl Ae rfl (AG3 (by omega)) fun Ax Af=>AB9 ACt rfl Af (ABq (ABn (ABl (Wl (AUr rfl rfl (fun Ag=>?_) (fun Ag=>?_)))))))))))
 ·refine Wl (ACi 13 true (by kernel_rfl) rfl rfl (ACi 13 true (by kernel_rfl) rfl rfl (ABz rfl (ABp (ACe rfl (ABl (ABq (ABs (AB2 (⟨_,ABu,?_⟩))))))))))
  first
    | exact ⟨rfl,congrArg Value.bool (decide_eq_false (fun hh=>by have:=hh.1;omega)).symm⟩
    | exact ⟨rfl,congrArg Value.bool (decide_eq_false (fun hh=>by have:=hh.2 (i + 1) (by omega) (by omega);omega)).symm⟩
    | exact ⟨rfl,congrArg Value.bool (decide_eq_true ⟨⟨by omega,by omega⟩,fun j h1 h2=>hall j h1 (by omega)⟩).symm⟩
 ·refine Wl (ACz 13 false (by kernel_rfl) rfl rfl (Wl (ACz 13 false (by kernel_rfl) rfl rfl (AUs rfl rfl (fun Ah=>?_) (fun Ah=>?_)))))
  ·refine ABw rfl (ABp (ACe rfl (ABl (ABq (ABs (AB2 (⟨_,ABu,?_⟩)))))))
   first
     | exact ⟨rfl,congrArg Value.bool (decide_eq_false (fun hh=>by have:=hh.1;omega)).symm⟩
     | exact ⟨rfl,congrArg Value.bool (decide_eq_false (fun hh=>by have:=hh.2 (i + 1) (by omega) (by omega);omega)).symm⟩
     | exact ⟨rfl,congrArg Value.bool (decide_eq_true ⟨⟨by omega,by omega⟩,fun j h1 h2=>hall j h1 (by omega)⟩).symm⟩
  ·refine ABw rfl (ABp (ACf rfl (ABt (q_t (ABn (ABl (Wl (Alq (k:=1) AB4 rfl HM hcap rfl (by rw [ADg];omega) fun v1 Ai Ay=>?_))))))));have HD:Mat h v1 (tab (m - 1) m fun i j=>F (i + 1) j):=Apn (m:=m) ▸ Ai;refine ANb AB4 rfl HD ?_;rw [ADg];refine Wl (ABp (ABr (ACk 549754765348 (fun i:Nat=>[(20,.int .i64 (i:Int))]) (fun k i h'=>h'=h/\k=m - 1 - i/\i<=m - 1/\ ∀ j,1<=j->j < i + 1->2 * F j 0<=F 0 0/\ -2 * F j 0<=F 0 0) (by kernel_rfl) (m - 1) 0 ?_ ⟨rfl,trivial⟩ ?_)))
   ·exact ⟨rfl,rfl,Nat.zero_le _,fun j h1 h2=>by omega⟩
   rintro k i s1 h ⟨rfl,rfl,hi,hall⟩;refine ABl (AFn rfl rfl (fun Aj=>?_) (fun Aj=>?_))
   ·refine ABp (ABn (ACe rfl (ABt (q_t (ABn (ABr (ABl (APb AB4 rfl HD rfl (AEi (by omega)) fun Az A3 Ak Ac=>AB9 ACo rfl Ak (ABq (ABn ?_))))))))));have Am:=hfit (i + 1) (by omega);unfold Abs at Am;refine ABy (Wl (AL6 (n:=0) ABx rfl Ac rfl (AG3 (by omega)) fun A4 Ao=>AB9 ACt rfl Ao (ALd rfl rfl (by omega) (by omega) (Wl (ARh rfl rfl (fun Ap=>?_) (fun Ap=>?_))))))
    ·refine Wl (ACi 30 true (by kernel_rfl) rfl rfl (ACi 30 true (by kernel_rfl) rfl rfl (ACi 30 true (by kernel_rfl) rfl rfl (ACi 30 true (by kernel_rfl) rfl rfl (ACi 30 true (by kernel_rfl) rfl rfl (ACi 30 true (by kernel_rfl) rfl rfl (ABz rfl (ABp (ACe rfl (ABl (ABq (ABs (ADp (AB2 (AB2 (ADp (AB2 (⟨_,ABu,?_⟩))))))))))))))))))
     first
       | exact ⟨rfl,congrArg Value.bool (decide_eq_false (fun hh=>by have:=hh.1;omega)).symm⟩
       | exact ⟨rfl,congrArg Value.bool (decide_eq_false (fun hh=>by have:=hh.2 (i + 1) (by omega) (by omega);omega)).symm⟩
       | exact ⟨rfl,congrArg Value.bool (decide_eq_true ⟨⟨by omega,by omega⟩,fun j h1 h2=>hall j h1 (by omega)⟩).symm⟩
    ·refine Wl (ACz 30 false (by kernel_rfl) rfl rfl (Wl (ACz 30 false (by kernel_rfl) rfl rfl (AL6 (n:=0) ABx rfl Ac rfl (AG3 (by omega)) fun A5 Aq=>ACz 30 false (by kernel_rfl) rfl rfl (AB9 ACt rfl Aq (ACz 30 false (by kernel_rfl) rfl rfl (ALd rfl rfl (by omega) (by omega) (ACz 30 false (by kernel_rfl) rfl rfl (Wl (ACz 30 false (by kernel_rfl) rfl rfl (ARh rfl rfl (fun Ar=>?_) (fun Ar=>?_))))))))))))
     ·refine ABw rfl (ABp (ACe rfl (ABl (ABq (ABs (ADp (AB2 (AB2 (ADp (AB2 (⟨_,ABu,?_⟩)))))))))))
      first
        | exact ⟨rfl,congrArg Value.bool (decide_eq_false (fun hh=>by have:=hh.1;omega)).symm⟩
        | exact ⟨rfl,congrArg Value.bool (decide_eq_false (fun hh=>by have:=hh.2 (i + 1) (by omega) (by omega);omega)).symm⟩
        | exact ⟨rfl,congrArg Value.bool (decide_eq_true ⟨⟨by omega,by omega⟩,fun j h1 h2=>hall j h1 (by omega)⟩).symm⟩
     ·refine ABw rfl (ABp (ACf rfl (ABt (q_b (q_t (ABy (AI9 rfl (by omega) (Wl (ABp ?_)))))))));exact ⟨m - 1 - (i + 1),i + 1,by omega,⟨rfl,rfl,by omega,fun j h1 h2=>by rcases Nat.lt_succ_iff_lt_or_eq.1 h2 with q | rfl;exact hall j h1 q;exact ⟨by omega,by omega⟩⟩,rfl,trivial⟩
   ·refine ABp (ABn (ACf rfl (ACd (ACc (ACc (ADo (q_t (ABl (ABq (ABs (⟨_,ABu,?_⟩)))))))))))
    first
      | exact ⟨rfl,congrArg Value.bool (decide_eq_false (fun hh=>by have:=hh.1;omega)).symm⟩
      | exact ⟨rfl,congrArg Value.bool (decide_eq_false (fun hh=>by have:=hh.2 (i + 1) (by omega) (by omega);omega)).symm⟩
      | exact ⟨rfl,congrArg Value.bool (decide_eq_true ⟨⟨by omega,by omega⟩,fun j h1 h2=>hall j h1 (by omega)⟩).symm⟩
theorem Adt {h:ABj} {v:Value} {M:List (List Int)} (HM:Mat h v M) (hcap:ANt v):ACa Tryz.prog 67 #[v] h fun x h'=>Ext h h'/\x= .bool (isRed M):=by
 refine AC0 (l:=[_]) mx Tryz.func67 rfl rfl rfl rfl rfl (by kernel_rfl) (ABl (ABq (ABn (ABl (Wl (ACp trivial rfl (Aig HM) fun x1 h hk=>?_))))));obtain ⟨rfl,rfl⟩:=hk;refine ⟨trivial,?_⟩;cases Ar:AKu M
 ·refine AF9 rfl (ABp (ACe rfl (ABl (ABq (ABs (AB2 (⟨_,ABu,?_⟩)))))))
  first
    | exact ⟨(Ext.refl _),congrArg Value.bool (show false=isRed M by unfold isRed;rw [show AKu M=false by assumption];rfl)⟩
    | exact ⟨(Ext.refl _),congrArg Value.bool (show false=isRed M by unfold isRed;rw [hred,AN5 (by omega) (of_decide_eq_false (by assumption)),Bool.and_false])⟩
    | exact ⟨(Ext.refl _),congrArg Value.bool (show false=isRed M by unfold isRed;rw [hred,ARq (by omega) (by unfold AUp;omega),Bool.and_false])⟩
    | (obtain rfl:m=1:=by omega
       first
       | exact ⟨(Ext.refl _),congrArg Value.bool (show true=isRed M by unfold isRed;rw [hred,<- AGt hsm,AO1,decide_eq_true ⟨by omega,by omega⟩];rfl)⟩
       | exact ⟨(Ext.refl _),congrArg Value.bool (show false=isRed M by unfold isRed;rw [hred,AO1,decide_eq_false (by omega),Bool.and_false])⟩)
 ·refine AF9 rfl (ABp (ACf rfl (ABt (q_t (ABl (Wl (ACr (ABq (ABn (ABr ?_))))))))));have hsm:=AZ3 Ar;have Au:=Al9 hsm;have Av:Mat h v (tab M.length M.length (ent M)):=(AY4 hsm.2.1) ▸ HM;refine ACk 20282409603651670423947251255292 (fun y:Nat × Value × Int × (Nat->Nat->Int)=>[(3,y.2.1),(4,.int .i64 y.2.2.1)]) (fun k y h'=>y.1=k/\Ext h h'/\1<=y.1/\y.1<=M.length/\Mat h' y.2.1 (tab y.1 y.1 y.2.2.2)/\ANt y.2.1/\Stg y.1 y.2.2.2 y.2.2.1 (262144 + 16384 * (M.length - y.1))/\AO1 M.length (ent M) 1=AO1 y.1 y.2.2.2 y.2.2.1) (by kernel_rfl) M.length (M.length,v,1,ent M) ?_ ⟨rfl,rfl,trivial⟩ ?_
  ·exact ⟨rfl,Ext.refl _,hsm.1.1,Nat.le_refl _,Av,hcap,by have e0:(262144 + 16384 * ((M.length:Int) - (M.length:Int)))=262144:=(by omega);rw [e0];exact Au,rfl⟩
  rintro k ⟨m,vs,last,F⟩ s1 hq ⟨rfl,XQ,Ax,hmn,HS,Ai,hstg,hred⟩;dsimp only at Ax hmn HS Ai hstg hred ⊢;have h8:=hsm.1.2;have B5:=hstg.l1;have B6:=hstg.l2;have szq:=XQ.1;refine ABn (ABl (Wl (ANb AB4 rfl HS ?_)));rw [ADg];refine ARh rfl rfl (fun Ay=>?_) (fun Ay=>?_)
  ·refine ABp (ACe rfl (ABt (q_t (ABr (ABl (Wl (APb (n:=0) AB4 rfl HS rfl (AEi (by omega)) fun B7 B8 Az A3=>AB9 ACo rfl Az (AL6 (n:=0) ABx rfl A3 rfl (AG3 (by omega)) fun B9 A4=>AB9 ACt rfl A4 (ABq (ABn (ABl (Wl (ACp trivial rfl (AZ5 HS Ai (by omega) (by omega) (fun i hi=>AYi hstg (by omega) (by omega) hi (by omega))) fun x4 hq hk=>?_)))))))))))));obtain ⟨rfl,rfl⟩:=hk;refine ⟨trivial,?_⟩;cases Cb:decide (AO0 m F)
   ·refine AF9 rfl (ABp (ACe rfl (ABl (ABq (ABs (AB2 (ADp (AB2 (ADp (AB2 (⟨_,ABu,?_⟩)))))))))))
    first
      | exact ⟨XQ,congrArg Value.bool (show false=isRed M by unfold isRed;rw [show AKu M=false by assumption];rfl)⟩
      | exact ⟨XQ,congrArg Value.bool (show false=isRed M by unfold isRed;rw [hred,AN5 (by omega) (of_decide_eq_false (by assumption)),Bool.and_false])⟩
      | exact ⟨XQ,congrArg Value.bool (show false=isRed M by unfold isRed;rw [hred,ARq (by omega) (by unfold AUp;omega),Bool.and_false])⟩
      | (obtain rfl:m=1:=by omega
         first
         | exact ⟨XQ,congrArg Value.bool (show true=isRed M by unfold isRed;rw [hred,<- AGt hsm,AO1,decide_eq_true ⟨by omega,by omega⟩];rfl)⟩
         | exact ⟨XQ,congrArg Value.bool (show false=isRed M by unfold isRed;rw [hred,AO1,decide_eq_false (by omega),Bool.and_false])⟩)
   ·refine AF9 rfl (ABp (ACf rfl (ABt (q_t (ABl (Wl (ANb AB4 rfl HS ?_)))))));rw [ADg];have hsh:AO0 m F:=of_decide_eq_true (by assumption);refine ALu rfl rfl (by omega) (by omega) ?_;rw [show ((m:Nat):Int) - 1=((m - 1:Nat):Int) by omega];refine Axe (ei:=tI) AB4 AMw (fun _=>trivial) rfl rfl (by decide) (by omega) fun b2 v2 h2 Aj E2 Ce hl2b=>?_;have Cf:=E2.1;have Z6:=(Ext.refl hq).trans E2;have X7:=XQ.trans E2;have HS_8:=HS.ext E2;refine ABq (ABn (ABl (Wl (AU5 AB4 rfl Aj.1 (Wl (ABp (ABr (ACk 1208925819614624879739776 (fun i:Nat=>[(32,.int .i64 (i:Int))]) (fun k i h'=>k=m - 1 - i/\i<=m - 1/\Ext hq h'/\ ∃ gs,AOj h' tR tI (Array.size hq) b2 gs v2 (m - 1) ((List.range i).map (fun i=>(List.range (m - 1)).map fun j=>AQk F last i j))) (by kernel_rfl) (m - 1) 0 ?_ ⟨rfl,trivial⟩ ?_))))))))
    ·exact ⟨rfl,Nat.zero_le _,E2,[],Aj⟩
    rintro k i s2 h3 ⟨rfl,hi,E3,gs,HP⟩;have X9:=XQ.trans E3;have Ci:=E3.1;have HS_11:=HS.ext E3;refine ABl (AFn rfl rfl (fun A6=>?_) (fun A6=>?_))
    ·refine ABp (ABn (ACe rfl (ABt (q_t (ABn (ABr (ABl (Wl (ACr (Wl (Wl (AI9 rfl (by omega) (Anv AB4 rfl HS E3 rfl (AEi (by omega)) fun aR rR haR hrR=>AB9 ACo rfl haR (ABq ?_))))))))))))));refine ABl (Wl (Wl (Wl (AU5 AB4 rfl HP.1 (Axf ABx AHn (fun _=>trivial) rfl rfl (by decide) (by omega) fun g4 v4 h4 A7 E4 Ck Cm=>?_)))));have Cn:=E4.1;have A8:=E3.trans E4;have A9:=X9.trans E4;have HS_15:=HS_11.ext E4;have HP_16:=HP.ext E4;refine Ary AB4 rfl HP_16 rfl (by omega) ?_;have hglt:=HP.1.lt;have hblo:=HP.2 b2 (List.mem_cons_self ..);refine Arz ACo rfl rfl HP_16 (by simp) (by omega) A7 (fun hc=>by have:=hglt _ hc;omega) (by omega) fun h4b HPb U4=>?_;have Co:=U4.1;have Cp:=A9.thenUpd U4 (fun k hk=>by have Ag:k=b2:=hk;omega);have Am:=A8.thenUpd U4 (fun k hk=>by have Ag:k=b2:=hk;omega);have HS_20:=HS.ext Am;refine ANc (Wl (AU5 AB4 rfl HPb.1 (Wl (ABp (ABr (ACk 604462909525839610642944 (fun j:Nat=>[(48,.int .i64 (j:Int))]) (fun k j h'=>k=m - 1 - j/\j<=m - 1/\Ext hq h'/\AOj h' tR tI (Array.size hq) b2 (gs ++ [g4]) v2 (m - 1) ((List.range i).map (fun i=>(List.range (m - 1)).map fun j=>AQk F last i j) ++ [AUn (m - 1) (AQk F last i) (fun _=>0) j])) (by kernel_rfl) (m - 1) 0 ?_ ⟨rfl,trivial⟩ ?_))))))
     ·exact ⟨rfl,Nat.zero_le _,Am,by rw [AWq,Alk];exact HPb⟩
     rintro k j s3 h5 ⟨rfl,hj,E5,HQ⟩;have Ba:=XQ.trans E5;have Ct:=E5.1;have HS_23:=HS.ext E5;refine ABl (AFn rfl rfl (fun Bb=>?_) (fun Bb=>?_))
     ·refine ABp (ABn (ACe rfl (ABt (q_t (ABn (ABr (ABl (Wl (ABq ?_)))))))));have hd:=hsh.1;have hfit:=fun i j hi hj=>AYi hstg (by omega) (by omega) (i:=i) (j:=j) hi hj;have q1:=AUe (a:=65535) (b:=34359738368) (x:=F 0 0) (y:=F (i + 1) (j + 1)) ⟨by omega,by omega⟩ (hfit _ _ (by omega) (by omega));have q2:=hsh.2 (i + 1) (by omega) (by omega);have q3:=hsh.2 (j + 1) (by omega) (by omega);rw [<- hstg.sym 0 (j + 1) (by omega) (by omega)] at q3;have q4:=AUe (a:=32768) (b:=32768) (x:=F (i + 1) 0) (y:=F 0 (j + 1)) ⟨by omega,by omega⟩ ⟨by omega,by omega⟩;unfold Abs at q1 q4;refine AOs (by kernel_rfl) (Wl (Wl (Axg AB4 rfl HQ rfl (AVp (by simp)) fun aQ rQ gQ haQ hgQ hrQ=>?_)));refine AB9 ACo rfl haQ (Wl (Wl (Wl (Wl (AI9 rfl (by omega) (AL6 ABx rfl (hrR.ext E5) rfl (AG3 (by omega)) fun Cu Bh=>AB9 ACt rfl Bh (ALd rfl rfl (by omega) (by omega) (Wl (AL6 (n:=0) ABx rfl (hrR.ext E5) rfl (AG3 (by omega)) fun Cv Bi=>AB9 ACt rfl Bi (Wl (APb (n:=0) AB4 rfl HS_23 rfl (AEi (by omega)) fun aZ rZ haZ hrZ=>AB9 ACo rfl haZ (Wl (AI9 rfl (by omega) (AL6 ABx rfl hrZ rfl (AG3 (by omega)) fun Cw Bj=>AB9 ACt rfl Bj (ALd rfl rfl (by omega) (by omega) (ALu rfl rfl (by omega) (by omega) (Wl (AUq rfl rfl (by omega) ?_))))))))))))))))));have hnf:=AYi (Afv (m:=m - 1) (by rw [show m - 1 + 1=m by omega];exact hstg) (by omega) (by rw [show m - 1 + 1=m by omega];exact hsh)) (by omega) (by omega) (i:=i) (j:=j) (by omega) (by omega);unfold Abs at hnf;rw [show IntKind.i64.wrap ((F 0 0 * F (i + 1) (j + 1) - F (i + 1) 0 * F 0 (j + 1)).tdiv last)=AQk F last i j from Go.QF.wrap_small (by have:(F 0 0 * F (i + 1) (j + 1) - F (i + 1) 0 * F 0 (j + 1)).tdiv last=AQk F last i j:=rfl;omega) (by have:(F 0 0 * F (i + 1) (j + 1) - F (i + 1) 0 * F 0 (j + 1)).tdiv last=AQk F last i j:=rfl;omega)];refine ANs ABx rfl hrQ rfl (by rw [List.length_map,ALx];omega) ?_;refine Ar0 (AUn (m - 1) (AQk F last i) (fun _=>0) (j + 1)) ACt rfl rfl HQ hgQ (AVp (by simp)) hrQ (by rw [ALx];omega) (AY8 (by omega) rfl) fun h6 Bl U6 Cy=>?_;have Cz:=U6.1;have C0:=Ba.thenUpd U6 (fun k hk=>by have Ag:k=gQ:=hk;omega);have Ao:=E5.thenUpd U6 (fun k hk=>by have Ag:k=gQ:=hk;omega);have HS_30:=HS.ext Ao;have Ap:=Bl;rw [Aer (by simp)] at Ap;refine ACm (q_b (q_t (ABy (AI9 rfl (by omega) (Wl (ABp ?_))))));exact ⟨m - 1 - (j + 1),j + 1,by omega,⟨rfl,by omega,Ao,Ap⟩,rfl,trivial⟩
     ·refine ABp (ABn (ACf rfl (ACd (ACc (ACc (ADo (q_b (q_t (ABy (AI9 rfl (by omega) (Wl (ABp ?_))))))))))));exact ⟨m - 1 - (i + 1),i + 1,by omega,⟨rfl,by omega,E5,gs ++ [g4],by rw [AY6 _ _ (by omega)] at HQ;rw [<- Ahk];exact HQ⟩,rfl,trivial⟩
    ·refine ABp (ABn (ACf rfl (ACd (ACc (ACc (ADo (q_t (ABn ?_))))))));obtain rfl:i=m - 1:=by omega
     have Aq:AOj h3 tR tI (Array.size hq) b2 gs v2 (tab (m - 1) (m - 1) (AQk F last)).length (tab (m - 1) (m - 1) (AQk F last)):=by rw [ADg];exact HP
     have HN:=Aq.mat;have hcapn:=Aq.cap;have Bm:=Afv (m:=m - 1) (by rw [show m - 1 + 1=m by omega];exact hstg) (by omega) (by rw [show m - 1 + 1=m by omega];exact hsh);have hnx:Stg (m - 1) (AQk F last) (F 0 0) (262144 + 16384 * (M.length - ((m - 1:Nat):Int))):=by rw [show (262144 + 16384 * ((M.length:Int) - ((m - 1:Nat):Int)))=262144 + 16384 * ((M.length:Int) - (m:Int)) + 16384 by omega];exact Bm
     refine ABy (Wl (APb (n:=1) AB4 rfl HS_11 rfl (AEi (by omega)) fun C1 C2 Bn Bo=>AB9 ACo rfl Bn (AL6 (n:=0) ABx rfl Bo rfl (AG3 (by omega)) fun C3 Bp=>AB9 ACt rfl Bp (ABq (ABn (ABn ?_))))));have hd:=hsh.1;have hnf:=AYi hnx (by omega) (by omega) (i:=0) (j:=0) (by omega) (by omega);have q5:=AUe (a:=65535) (b:=34359738368) (x:=last) (y:=AQk F last 0 0) ⟨by omega,by omega⟩ hnf;have q2:=hsh.2 1 (by omega) (by omega);have q6:=AUe (a:=32768) (b:=32768) (x:=F 1 0) (y:=F 1 0) ⟨by omega,by omega⟩ ⟨by omega,by omega⟩;have q7:=AR5 (a:=3 * F 0 0) (b:=F 0 0) (A:=196605) (B:=65535) (by omega) (by omega) (by omega) (by omega);unfold Abs at q5 q6;refine ABy (Wl (Wl (APb (n:=0) AB4 rfl HN rfl (AEi (by omega)) fun aN rN haN hrN=>AB9 ACo rfl haN (AL6 (n:=0) ABx rfl hrN rfl (AG3 (by omega)) fun aO haO=>AB9 ACt rfl haO (ALd rfl rfl (by omega) (by omega) (Wl (Wl (ALd rfl rfl (by omega) (by omega) (ATj rfl rfl (by omega) (by omega) (ALd rfl rfl (by omega) (by omega) (Wl (ALd rfl rfl (by omega) (by omega) (Wl (ALd rfl rfl (by omega) (by omega) (AFn rfl rfl (fun Bt=>?_) (fun Bt=>?_))))))))))))))))
     ·refine ABp (ACe rfl (ABl (ABq (ABs (AB2 (ADp (AB2 (ADp (AB2 (⟨_,ABu,?_⟩))))))))))
      first
        | exact ⟨X9,congrArg Value.bool (show false=isRed M by unfold isRed;rw [show AKu M=false by assumption];rfl)⟩
        | exact ⟨X9,congrArg Value.bool (show false=isRed M by unfold isRed;rw [hred,AN5 (by omega) (of_decide_eq_false (by assumption)),Bool.and_false])⟩
        | exact ⟨X9,congrArg Value.bool (show false=isRed M by unfold isRed;rw [hred,ARq (by omega) (by unfold AUp;omega),Bool.and_false])⟩
        | (obtain rfl:m=1:=by omega
           first
           | exact ⟨X9,congrArg Value.bool (show true=isRed M by unfold isRed;rw [hred,<- AGt hsm,AO1,decide_eq_true ⟨by omega,by omega⟩];rfl)⟩
           | exact ⟨X9,congrArg Value.bool (show false=isRed M by unfold isRed;rw [hred,AO1,decide_eq_false (by omega),Bool.and_false])⟩)
     ·refine ABp (ACf rfl (ABt (q_t ?_)));have hlov:AUp F last:=by unfold AUp;omega
      have hredn:=Ama (last:=last) (by omega) hsh hlov;refine ABy (Wl (Wl (ACg (ACg (ACm (q_b (q_t ?_)))))));exact ⟨m - 1,(m - 1,v2,F 0 0,AQk F last),by first | omega | (dsimp only;omega),⟨rfl,X9,by first | omega | (dsimp only;omega),by first | omega | (dsimp only;omega),HN,hcapn,hnx,by rw [hred,hredn]⟩,rfl,rfl,trivial⟩
  ·refine ABp (ACf rfl (ACd (ACc (ACc (ADo (q_t (ABl (Wl (APb (n:=0) AB4 rfl HS rfl (AEi (by omega)) fun C5 C6 Bu Bv=>AB9 ACo rfl Bu (AL6 (n:=0) ABx rfl Bv rfl (AG3 (by omega)) fun C7 Bw=>AB9 ACt rfl Bw (ARh rfl rfl (fun Bx=>?_) (fun Bx=>?_))))))))))))
   ·refine Wl (ACz 110 true (by kernel_rfl) rfl rfl (Wl (ACz 110 true (by kernel_rfl) rfl rfl (APb (n:=0) AB4 rfl HS rfl (AEi (by omega)) fun C8 C9 By Bz=>ACz 110 true (by kernel_rfl) rfl rfl (AB9 ACo rfl By (ACz 110 true (by kernel_rfl) rfl rfl (AL6 (n:=0) ABx rfl Bz rfl (AG3 (by omega)) fun Da B1=>ACz 110 true (by kernel_rfl) rfl rfl (AB9 ACt rfl B1 (ACz 110 true (by kernel_rfl) rfl rfl (AUr rfl rfl (fun B2=>?_) (fun B2=>?_)))))))))))
    ·refine ABz rfl (ABq (ABs (⟨_,ABu,?_⟩)))
     first
       | exact ⟨XQ,congrArg Value.bool (show false=isRed M by unfold isRed;rw [show AKu M=false by assumption];rfl)⟩
       | exact ⟨XQ,congrArg Value.bool (show false=isRed M by unfold isRed;rw [hred,AN5 (by omega) (of_decide_eq_false (by assumption)),Bool.and_false])⟩
       | exact ⟨XQ,congrArg Value.bool (show false=isRed M by unfold isRed;rw [hred,ARq (by omega) (by unfold AUp;omega),Bool.and_false])⟩
       | (obtain rfl:m=1:=by omega
          first
          | exact ⟨XQ,congrArg Value.bool (show true=isRed M by unfold isRed;rw [hred,<- AGt hsm,AO1,decide_eq_true ⟨by omega,by omega⟩];rfl)⟩
          | exact ⟨XQ,congrArg Value.bool (show false=isRed M by unfold isRed;rw [hred,AO1,decide_eq_false (by omega),Bool.and_false])⟩)
    ·refine ABz rfl (ABq (ABs (⟨_,ABu,?_⟩)))
     first
       | exact ⟨XQ,congrArg Value.bool (show false=isRed M by unfold isRed;rw [show AKu M=false by assumption];rfl)⟩
       | exact ⟨XQ,congrArg Value.bool (show false=isRed M by unfold isRed;rw [hred,AN5 (by omega) (of_decide_eq_false (by assumption)),Bool.and_false])⟩
       | exact ⟨XQ,congrArg Value.bool (show false=isRed M by unfold isRed;rw [hred,ARq (by omega) (by unfold AUp;omega),Bool.and_false])⟩
       | (obtain rfl:m=1:=by omega
          first
          | exact ⟨XQ,congrArg Value.bool (show true=isRed M by unfold isRed;rw [hred,<- AGt hsm,AO1,decide_eq_true ⟨by omega,by omega⟩];rfl)⟩
          | exact ⟨XQ,congrArg Value.bool (show false=isRed M by unfold isRed;rw [hred,AO1,decide_eq_false (by omega),Bool.and_false])⟩)
   ·refine Wl (ACi 110 false (by kernel_rfl) rfl rfl (ACi 110 false (by kernel_rfl) rfl rfl (ACi 110 false (by kernel_rfl) rfl rfl (ACi 110 false (by kernel_rfl) rfl rfl (ACi 110 false (by kernel_rfl) rfl rfl (ACi 110 false (by kernel_rfl) rfl rfl (ABw rfl (ABq (ABs (⟨_,ABu,?_⟩))))))))))
    first
      | exact ⟨XQ,congrArg Value.bool (show false=isRed M by unfold isRed;rw [show AKu M=false by assumption];rfl)⟩
      | exact ⟨XQ,congrArg Value.bool (show false=isRed M by unfold isRed;rw [hred,AN5 (by omega) (of_decide_eq_false (by assumption)),Bool.and_false])⟩
      | exact ⟨XQ,congrArg Value.bool (show false=isRed M by unfold isRed;rw [hred,ARq (by omega) (by unfold AUp;omega),Bool.and_false])⟩
      | (obtain rfl:m=1:=by omega
         first
         | exact ⟨XQ,congrArg Value.bool (show true=isRed M by unfold isRed;rw [hred,<- AGt hsm,AO1,decide_eq_true ⟨by omega,by omega⟩];rfl)⟩
         | exact ⟨XQ,congrArg Value.bool (show false=isRed M by unfold isRed;rw [hred,AO1,decide_eq_false (by omega),Bool.and_false])⟩)
end Go.Proofs.YtiegjkmfpcgjjaaGreatDoor
namespace Go.QF
theorem AGi {α:Type} (f g:α->Int) (l:List α):ACy (l.map fun x=>f x * g x)=ACy (l.map f) * ACy (l.map g):=by
 induction l with
 | nil=>simp [ACy]
 | cons x l ih=>simp only [List.map_cons,ACy,ih];simp only [Int.mul_assoc,Int.mul_left_comm]
theorem AX6 (a:Int) (l:List Int):ACy (l.map fun x=>a * x)=a ^ l.length * ACy l:=by
 induction l with
 | nil=>simp [ACy]
 | cons x l ih=>simp only [List.map_cons,ACy,ih,List.length_cons,Int.pow_succ];simp only [Int.mul_assoc,Int.mul_left_comm,Int.mul_comm]
theorem AE4 {α:Type} {f g:α->Int} {l:List α} (h:∀ x∈l,f x=g x):ACy (l.map f)=ACy (l.map g):=by rw [List.map_congr_left h]
theorem AZ6 {α β:Type} (f:α->β->Int) (l:List α) (t:List β):ACy (l.map fun x=>ACy (t.map fun y=>f x y))=ACy (t.map fun y=>ACy (l.map fun x=>f x y)):=by
 induction l with
 | nil=>
   simp only [List.map_nil,ACy]
   induction t with
   | nil=>rfl
   | cons y t ih=>simp only [List.map_cons,ACy,<- ih];rfl
 | cons x l ih=>simp only [List.map_cons,ACy,ih];rw [<- AGi]
theorem Afz {p:Int} {α:Type} {f g:α->Int} {l:List α} (h:∀ x∈l,f x % p=g x % p):ACy (l.map f) % p=ACy (l.map g) % p:=by
 induction l with
 | nil=>rfl
 | cons x l ih=>
   simp only [List.map_cons,ACy]
   rw [Int.mul_emod,h x (List.mem_cons_self ..),ih fun y hy=>h y (List.mem_cons_of_mem _ hy),<- Int.mul_emod]
theorem AZ7 {α:Type} {f:α->Int} {l:List α} (h:∀ x∈l,f x=1∨f x= -1):ACy (l.map f)=1∨ACy (l.map f)= -1:=by
 induction l with
 | nil=>exact .inl rfl
 | cons x l ih=>
   simp only [List.map_cons,ACy]
   rcases h x (List.mem_cons_self ..) with h1 | h1 <;> rcases ih (fun y hy=>h y (List.mem_cons_of_mem _ hy)) with h2 | h2 <;> rw [h1,h2] <;> simp
theorem As4 (n:Nat):(upN n).length=n:=by simp [upN]
theorem AZ8 (n:Nat):upN (n + 1)=upN n ++ [(n:Int) + 1]:=by simp [upN,List.range_succ]
theorem APn (l t:List Int):ACy (l ++ t)=ACy l * ACy t:=by
 induction l with
 | nil=>simp [ACy]
 | cons x l ih=>simp only [List.cons_append,ACy,ih,Int.mul_assoc]
def chi (n:Int):Int:=if n % 2=0 then 1 else -1
theorem Apo (n:Int):chi n=1∨chi n= -1:=by unfold chi;split <;> simp
theorem AUf (a b:Int):chi (a + b)=chi a * chi b:=by
 unfold chi;by_cases ha:a % 2=0 <;> by_cases hb:b % 2=0
 ·rw [if_pos ha,if_pos hb,if_pos (by omega)];rfl
 ·rw [if_pos ha,if_neg hb,if_neg (by omega)];rfl
 ·rw [if_neg ha,if_pos hb,if_neg (by omega)];rfl
 ·rw [if_neg ha,if_neg hb,if_pos (by omega)];rfl
theorem AW7 {a b:Int} (h:(a - b) % 2=0):chi a=chi b:=by
 unfold chi;by_cases ha:a % 2=0
 ·rw [if_pos ha,if_pos (by omega)]
 ·rw [if_neg ha,if_neg (by omega)]
theorem count_le (M N:Nat) (h:N<=M):ACy ((upN M).map fun l=>if l<=(N:Int) then -1 else 1)=chi N:=by
  induction M with
  | zero=>
    obtain rfl:N=0:=by omega
    rfl
  | succ M ih=>
    rw [AZ8,List.map_append,APn];simp only [List.map_cons,List.map_nil,ACy,Int.mul_one]
    rcases Nat.lt_or_ge M N with hlt | hge
    · obtain rfl:N=M + 1:=by omega
      rw [if_pos (by omega)]
      have h2:ACy ((upN M).map fun l=>if l<=((M + 1:Nat):Int) then -1 else 1)=ACy ((upN M).map fun l=>if l<=(M:Int) then -1 else 1):=AE4 fun x hx=>by
        have:=ALj.1 hx;rw [if_pos (by omega),if_pos (by omega)]
      rw [h2]
      have key:∀ K:Nat,ACy ((upN K).map fun l=>if l<=(K:Int) then -1 else 1)=chi K:=by
        intro K;induction K with
        | zero=>rfl
        | succ K ihK=>
          rw [AZ8,List.map_append,APn];simp only [List.map_cons,List.map_nil,ACy,Int.mul_one]
          have h3:ACy ((upN K).map fun l=>if l<=((K + 1:Nat):Int) then -1 else 1)=ACy ((upN K).map fun l=>if l<=(K:Int) then -1 else 1):=AE4 fun x hx=>by
            have:=ALj.1 hx;rw [if_pos (by omega),if_pos (by omega)]
          rw [h3,ihK,if_pos (by omega)];have:=AUf (K:Int) 1;rw [show ((K + 1:Nat):Int)=(K:Int) + 1 by omega,this];rfl
      rw [key];have:=AUf (M:Int) 1;rw [show ((M + 1:Nat):Int)=(M:Int) + 1 by omega,this];rfl
    · rw [ih hge,if_neg (by omega),Int.mul_one]
section
variable {p:Int} {m:Nat}
def gs (p:Int) (m:Nat) (a k:Int):Int:=if a * k % p<=m then 1 else -1
def gv (p:Int) (m:Nat) (a k:Int):Int:=if a * k % p<=m then a * k % p else p - a * k % p
def GS (p:Int) (m:Nat) (a:Int):Int:=ACy ((upN m).map (gs p m a))
theorem AXu (p:Int) (m:Nat) (a:Int):GS p m a=1∨GS p m a= -1:=AZ7 fun x _=>by unfold gs;split <;> simp
theorem APr (hp:Pr p) {a k:Int} (ha:a % p≠0) (hk:0 < k) (hkp:k < p):a * k % p≠0:=by
 have h2:=hp.1;have h1:0 < a % p:=by have:=Int.emod_nonneg a (show p≠0 by omega);omega
 have h3:=Int.emod_lt_of_pos a (show 0 < p by omega);have:=Avh hp h1 h3 hk hkp;rwa [Int.mul_emod,Int.emod_emod,<- Int.mul_emod] at this
theorem ASn (hp:Pr p) {a k:Int} (ha:a % p≠0) (hk:0 < k) (hkp:k < p):1<=a * k % p/\a * k % p < p:=by
 have h2:=hp.1;have h1:=APr hp ha hk hkp;have h3:=Int.emod_nonneg (a * k) (show p≠0 by omega);have h4:=Int.emod_lt_of_pos (a * k) (show 0 < p by omega);omega
theorem Aj8 (hp:Pr p) (hm:p=2 * m + 1) {a:Int} (ha:a % p≠0):((upN m).map (gv p m a)).Perm (upN m):=by
 have hinj:∀ k∈upN m,∀ j∈upN m,gv p m a k=gv p m a j->k=j:=by
   intro k hk j hj he
   have hk:=ALj.1 hk
   have hj:=ALj.1 hj
   have r1:=ASn hp ha (k:=k) (by omega) (by omega)
   have r2:=ASn hp ha (k:=j) (by omega) (by omega)
   by_cases hkj:k=j
   · exact hkj
   · exfalso
     unfold gv at he
     have e1:a * k % p=a * j % p->False:=by
       intro h
       have h3:a * (k - j) % p=0:=by rw [Int.mul_sub,Int.sub_emod,h,Int.sub_self];rfl
       rcases Int.lt_trichotomy k j with hlt | heq | hgt
       · refine APr hp ha (k:=j - k) (by omega) (by omega) ?_
         rw [show a * (j - k)= -(a * (k - j)) by rw [<- Int.mul_neg];congr 1;omega]
         exact Int.emod_eq_zero_of_dvd (Int.dvd_neg.2 (Int.dvd_of_emod_eq_zero h3))
       · exact hkj heq
       · exact APr hp ha (k:=k - j) (by omega) (by omega) h3
     have e2:a * k % p + a * j % p=p->False:=by
       intro h
       refine APr hp ha (k:=k + j) (by omega) (by omega) ?_
       rw [Int.mul_add,Int.add_emod,h,Int.emod_self]
     split at he <;> split at he
     · exact e1 he
     · exact e2 (by omega)
     · exact e2 (by omega)
     · exact e1 (by omega)
 refine AXl _ _ ?_ (fun x hx=>?_) (by simp)
 ·rw [List.nodup_iff_pairwise_ne,List.pairwise_map];have hnd:=Alo m;rw [List.nodup_iff_pairwise_ne] at hnd;refine List.Pairwise.imp_of_mem (fun {x y} hx hy hxy he=>hxy (hinj x hx y hy he)) hnd
 ·obtain ⟨k,hk,rfl⟩:=List.mem_map.1 hx;have hk:=ALj.1 hk;have r1:=ASn hp ha (k:=k) (by omega) (by omega);rw [ALj];unfold gv;split <;> omega
theorem Aj9 (hp:Pr p) (hm:p=2 * m + 1) {a:Int} (ha:a % p≠0):a ^ m % p=GS p m a % p:=by
 have h2:=hp.1;refine Art hp (upN m) (fun x hx=>by have:=ALj.1 hx;omega) ?_;have h1:=AX6 a (upN m);rw [As4] at h1;rw [<- h1]
 have h3:ACy ((upN m).map fun k=>a * k) % p=ACy ((upN m).map fun k=>gs p m a k * gv p m a k) % p:=by
   refine Afz fun k hk=>?_
   unfold gs gv
   split
   · rw [Int.one_mul,Int.emod_emod]
   · rw [show (-1:Int) * (p - a * k % p)=a * k % p - p by omega,Int.sub_emod,Int.emod_emod,Int.emod_self,Int.sub_zero,Int.emod_emod]
 rw [h3,AGi,AZd (Aj8 hp hm ha)];rfl
theorem Auw (hp:Pr p) (hm:p=2 * m + 1) {a:Int} (ha:a % p≠0) (hodd:a % 2=1):GS p m a=ACy ((upN m).map fun k=>chi (a * k / p)):=by
 have h2:=hp.1
 have hpt:∀ k∈upN m,chi k=chi (a * k / p) * chi (gv p m a k) * gs p m a k:=by
   intro k hk
   have hk:=ALj.1 hk
   have r1:=ASn hp ha (k:=k) (by omega) (by omega)
   have hd:=Int.mul_ediv_add_emod (a * k) p
   have par:chi (a * k)=chi k:=by
     refine AW7 ?_
     obtain ⟨b,hb⟩:∃ b,a=2 * b + 1:=⟨a / 2,by omega⟩
     rw [hb,Int.add_mul,Int.one_mul,Int.mul_assoc]
     omega
   have parp:chi (p * (a * k / p))=chi (a * k / p):=by
     refine AW7 ?_
     rw [hm,Int.add_mul,Int.one_mul,Int.mul_assoc]
     omega
   rw [<- par,<- hd,AUf,parp,Int.mul_assoc]
   congr 1
   · rw [hd]
   · unfold gv gs
     split
     · rw [Int.mul_one]
     · have:chi (a * k % p)=chi (p - a * k % p) * chi 1:=by
         rw [<- AUf]
         exact AW7 (by omega)
       rw [this];rfl
 have h3:ACy ((upN m).map chi)=ACy ((upN m).map fun k=>chi (a * k / p)) * ACy ((upN m).map fun k=>chi (gv p m a k)) * GS p m a:=by
   rw [AE4 hpt,AGi (fun k=>chi (a * k / p) * chi (gv p m a k)) (gs p m a),AGi]
   rfl
 have h4:ACy ((upN m).map fun k=>chi (gv p m a k))=ACy ((upN m).map chi):=by
   have:=AZd ((Aj8 hp hm ha).map chi)
   rw [List.map_map] at this
   exact this
 rw [h4] at h3;have q1:=AZ7 (f:=chi) (l:=upN m) fun x _=>Apo x;have q2:=AZ7 (f:=fun k=>chi (a * k / p)) (l:=upN m) fun x _=>Apo _;have q3:=AXu p m a;generalize ACy ((upN m).map chi)=A at h3 q1;generalize ACy ((upN m).map fun k=>chi (a * k / p))=B at h3 q2 ⊢;generalize GS p m a=Cc at h3 q3 ⊢;rcases q1 with rfl | rfl <;> rcases q2 with rfl | rfl <;> rcases q3 with rfl | rfl <;> first | rfl | (exfalso;revert h3;decide)
end
theorem AZ9 {p q:Int} {n:Nat} (hp:0 < p) (hq:q=2 * n + 1) {k:Int} (hk:0<=k) (Ad:2 * k < p):chi (q * k / p)=ACy ((upN n).map fun l=>if p * l<=q * k then -1 else 1):=by
 have h0:0<=q * k:=Int.mul_nonneg (by omega) hk;have h1:0<=q * k / p:=Int.ediv_nonneg h0 (by omega);obtain ⟨N,hN⟩:∃ N:Nat,q * k / p=N:=⟨(q * k / p).toNat,by omega⟩
 have hle:N<=n:=by
   rcases Nat.lt_or_ge n N with h | h
   · exfalso
     have h2:q * k / p * p<=q * k:=Int.ediv_mul_le _ (by omega)
     rw [hN] at h2
     have h3:((n:Int) + 1) * p<=N * p:=Int.mul_le_mul_of_nonneg_right (by omega) (by omega)
     have h4:q * (2 * k)<=q * (p - 1):=Int.mul_le_mul_of_nonneg_left (by omega) (by omega)
     rw [Int.mul_sub,Int.mul_one,Int.mul_left_comm] at h4
     have h5:(2 * (n:Int) + 2) * p=q * p + p:=by rw [hq,Int.add_mul,Int.add_mul];omega
     have h6:(2 * (n:Int) + 2) * p=2 * (((n:Int) + 1) * p):=by rw [<- Int.mul_assoc];congr 1
     omega
   · exact h
 rw [hN,<- count_le n N hle];refine AE4 fun l hl=>?_
 have hiff:l<=(N:Int)↔p * l<=q * k:=by
   rw [<- hN,Int.le_ediv_iff_mul_le hp,Int.mul_comm]
 by_cases h:l<=(N:Int)
 ·rw [if_pos h,if_pos (hiff.1 h)]
 ·rw [if_neg h,if_neg (fun h'=>h (hiff.2 h'))]
theorem Ab3 (n:Nat):ACy ((upN n).map fun _=>(-1:Int))=chi n:=by
 rw [<- count_le n n (Nat.le_refl _)];exact AE4 fun x hx=>by rw [if_pos (ALj.1 hx).2]
theorem Amc (n:Nat) (b:Int):ACy ((upN n).map fun _=>chi b)=chi (n * b):=by
 induction n with
 | zero=>simp [upN,ACy,chi]
 | succ n ih=>
   rw [AZ8,List.map_append,APn,ih]
   simp only [List.map_cons,List.map_nil,ACy,Int.mul_one]
   rw [<- AUf]
   congr 1
   rw [show ((n + 1:Nat):Int)=(n:Int) + 1 by omega,Int.add_mul,Int.one_mul]
theorem Axr {p q:Int} {m n:Nat} (hp:Pr p) (hq:Pr q) (hm:p=2 * m + 1) (hn:q=2 * n + 1) (hne:p≠q):GS p m q * GS q n p=chi (m * n):=by
 have Aa:=hp.1;have Ab:=hq.1
 have hqp:q % p≠0:=by
   intro h
   rcases Int.lt_trichotomy p q with hlt | heq | hgt
   · exact hq.2 p Aa hlt h
   · exact hne heq
   · rw [Int.emod_eq_of_lt (by omega) hgt] at h;omega
 have hpq:p % q≠0:=by
   intro h
   rcases Int.lt_trichotomy p q with hlt | heq | hgt
   · rw [Int.emod_eq_of_lt (by omega) hlt] at h;omega
   · exact hne heq
   · exact hp.2 q Ab hgt h
 rw [Auw hp hm hqp (by omega),Auw hq hn hpq (by omega)]
 have e1:ACy ((upN m).map fun k=>chi (q * k / p))=ACy ((upN m).map fun k=>ACy ((upN n).map fun l=>if p * l<=q * k then -1 else 1)):=
   AE4 fun k hk=>by have:=ALj.1 hk;exact AZ9 (by omega) hn (by omega) (by omega)
 have e2:ACy ((upN n).map fun l=>chi (p * l / q))=ACy ((upN n).map fun l=>ACy ((upN m).map fun k=>if q * k<=p * l then -1 else 1)):=
   AE4 fun l hl=>by have:=ALj.1 hl;exact AZ9 (by omega) hm (by omega) (by omega)
 rw [e1,e2,AZ6 (fun l k=>if q * k<=p * l then (-1:Int) else 1),<- AGi]
 have e3:ACy ((upN m).map fun k=>ACy ((upN n).map fun l=>if p * l<=q * k then (-1:Int) else 1) * ACy ((upN n).map fun l=>if q * k<=p * l then (-1:Int) else 1))=ACy ((upN m).map fun _=>chi n):=by
   refine AE4 fun k hk=>?_
   rw [<- AGi,<- Ab3 n]
   refine AE4 fun l hl=>?_
   have hk:=ALj.1 hk
   have hl:=ALj.1 hl
   have hno:p * l≠q * k:=by
     intro he
     refine APr hp hqp (k:=k) (by omega) (by omega) ?_
     rw [<- he];exact Int.mul_emod_right p l
   by_cases h:p * l<=q * k
   · rw [if_pos h,if_neg (by omega)];rfl
   · rw [if_neg h,if_pos (by omega)];rfl
 rw [e3,Amc]
theorem Amd {p:Int} {m:Nat} (hp:Pr p) (hm:p=2 * m + 1) (hm1:1<=m):GS p m 2=if p % 8=1∨p % 8=7 then 1 else -1:=by
  have h1:GS p m 2=ACy ((upN m).map fun k=>(-1) * (if k<=((m / 2:Nat):Int) then -1 else 1)):=by
    refine AE4 fun k hk=>?_;have hk:=ALj.1 hk;unfold gs;rw [Int.emod_eq_of_lt (by omega) (by omega)]
    by_cases h:2 * k<=(m:Int)
    · rw [if_pos h,if_pos (by omega)];rfl
    · rw [if_neg h,if_neg (by omega)];rfl
  rw [h1,AGi (fun _=> -1) (fun k=>if k<=((m / 2:Nat):Int) then -1 else 1),Ab3,count_le m (m / 2) (by omega),<- AUf];unfold chi;obtain ⟨j,r,hj,hr⟩:∃ j r:Nat,m=4 * j + r/\r < 4:=⟨m / 4,m % 4,by omega,by omega⟩;have hd:m / 2=2 * j + r / 2:=by omega
  rw [hd]
  by_cases h:p % 8=1∨p % 8=7
  · have:r=0∨r=3:=by omega
    rcases this with rfl | rfl
    · rw [if_pos h,if_pos (by omega)]
    · rw [if_pos h,if_pos (by omega)]
  · have:r=1∨r=2:=by omega
    rcases this with rfl | rfl
    · rw [if_neg h,if_neg (by omega)]
    · rw [if_neg h,if_neg (by omega)]
end Go.QF
namespace Go.QF
def lg (p a:Int):Int:=if a ^ ((p - 1) / 2).toNat % p=0 then 0 else if a ^ ((p - 1) / 2).toNat % p=1 then 1 else -1
def OPr (p:Int):Prop:=Pr p/\p % 2=1
theorem OPr.half {p:Int} (h:OPr p):p=2 * (((p - 1) / 2).toNat:Int) + 1/\1<=((p - 1) / 2).toNat:=by
 have h1:=h.1.1;have h2:=h.2;omega
theorem OPr.three {p:Int} (h:OPr p):3<=p:=by have h1:=h.1.1;have h2:=h.2;omega
theorem AV7 {p a:Int} (hp:OPr p) (ha:a % p≠0):lg p a=GS p ((p - 1) / 2).toNat a:=by
 obtain ⟨h1,h2⟩:=hp.half;have h3:=hp.three;have hg:=Aj9 hp.1 h1 ha;unfold lg;rw [hg];rcases AXu p ((p - 1) / 2).toNat a with h | h
 ·rw [h,Int.emod_eq_of_lt (by omega) (by omega)];rfl
 ·rw [h]
  have:(-1:Int) % p=p - 1:=by
    rw [show (-1:Int)=(p - 1) + p * (-1) by omega,Int.add_mul_emod_self_left,Int.emod_eq_of_lt (by omega) (by omega)]
  rw [this,if_neg (by omega),if_neg (by omega)]
theorem Adu {p a:Int} (ha:a % p=0):∀ m:Nat,1<=m->a ^ m % p=0:=by
 intro m hm;obtain ⟨k,rfl⟩:∃ k,m=k + 1:=⟨m - 1,by omega⟩;rw [Int.pow_succ,Int.mul_emod,ha,Int.mul_zero,Int.zero_emod]
theorem ALo {p a:Int} (hp:OPr p) (ha:a % p=0):lg p a=0:=by
 unfold lg;rw [if_pos (Adu ha _ hp.half.2)]
theorem AXv {p a:Int} (hp:OPr p) (ha:a % p≠0):lg p a=1∨lg p a= -1:=by rw [AV7 hp ha];exact AXu _ _ _
theorem AKe {p a b:Int} (hp:OPr p) (h:a % p=b % p):lg p a=lg p b:=by
 by_cases ha:a % p=0
 ·rw [ALo hp ha,ALo hp (h ▸ ha)]
 ·rw [AV7 hp ha,AV7 hp (h ▸ ha)];refine AE4 fun k _=>?_;unfold gs;rw [Int.mul_emod a,h,<- Int.mul_emod]
theorem Adv {p a:Int} (hp:OPr p):lg p (a % p)=lg p a:=AKe hp (Int.emod_emod _ _)
theorem AXw {p a b:Int} (hp:OPr p) (ha:a % p≠0) (hb:b % p≠0):a * b % p≠0:=by
 have h3:=hp.three;have h1:=Int.emod_nonneg b (show p≠0 by omega);have h2:=Int.emod_lt_of_pos b (show 0 < p by omega);have:=APr hp.1 ha (k:=b % p) (by omega) h2;rwa [Int.mul_emod,Int.emod_emod,<- Int.mul_emod] at this
theorem AM0 {p:Int} (hp:OPr p) (a b:Int):lg p (a * b)=lg p a * lg p b:=by
 by_cases ha:a % p=0
 ·rw [ALo hp ha,ALo hp (by rw [Int.mul_emod,ha,Int.zero_mul,Int.zero_emod]),Int.zero_mul]
 ·by_cases hb:b % p=0
  ·rw [ALo hp hb,ALo hp (by rw [Int.mul_emod,hb,Int.mul_zero,Int.zero_emod]),Int.mul_zero]
  ·obtain ⟨h1,h2⟩:=hp.half;have h3:=hp.three;have hab:=AXw hp ha hb;rw [AV7 hp ha,AV7 hp hb,AV7 hp hab];have g1:=Aj9 hp.1 h1 ha;have g2:=Aj9 hp.1 h1 hb;have g3:=Aj9 hp.1 h1 hab;rw [Int.mul_pow,Int.mul_emod,g1,g2,<- Int.mul_emod] at g3
   have Ah:(-1:Int) % p=p - 1:=by
     rw [show (-1:Int)=(p - 1) + p * (-1) by omega,Int.add_mul_emod_self_left,Int.emod_eq_of_lt (by omega) (by omega)]
   have Ai:(1:Int) % p=1:=Int.emod_eq_of_lt (by omega) (by omega);rcases AXu p ((p - 1) / 2).toNat a with e1 | e1 <;> rcases AXu p ((p - 1) / 2).toNat b with e2 | e2 <;> rcases AXu p ((p - 1) / 2).toNat (a * b) with e3 | e3 <;> rw [e1,e2,e3] at g3 ⊢ <;> first | rfl | (exfalso;simp only [Int.mul_one,Int.one_mul,Int.mul_neg,Int.neg_mul,Int.neg_neg,Ah,Ai] at g3;omega)
def e4 (x y:Int):Int:=if x % 4=3/\y % 4=3 then -1 else 1
def e8 (x:Int):Int:=if x % 8=1∨x % 8=7 then 1 else -1
theorem Av3 {p:Int} (hp:OPr p):lg p 2=e8 p:=by
 obtain ⟨h1,h2⟩:=hp.half;have h3:=hp.three;rw [AV7 hp (by rw [Int.emod_eq_of_lt (by omega) (by omega)];omega),Amd hp.1 h1 h2];rfl
theorem Apq {p q:Int} (hp:OPr p) (hq:OPr q):lg p q=e4 p q * lg q p:=by
 by_cases hpq:p=q
 ·subst hpq;rw [ALo hp (Int.emod_self),Int.mul_zero]
 ·obtain ⟨h1,_⟩:=hp.half;obtain ⟨h2,_⟩:=hq.half
  have Ae:q % p≠0:=by
    intro h
    rcases Int.lt_trichotomy p q with hlt | heq | hgt
    · exact hq.1.2 p hp.1.1 hlt h
    · exact hpq heq
    · rw [Int.emod_eq_of_lt (by have:=hq.three;omega) hgt] at h;have:=hq.three;omega
  have Af:p % q≠0:=by
    intro h
    rcases Int.lt_trichotomy p q with hlt | heq | hgt
    · rw [Int.emod_eq_of_lt (by have:=hp.three;omega) hlt] at h;have:=hp.three;omega
    · exact hpq heq
    · exact hp.1.2 q hq.1.1 hgt h
  have hr:=Axr hp.1 hq.1 h1 h2 hpq;rw [AV7 hp Ae,AV7 hq Af]
  have hc:chi ((((p - 1) / 2).toNat:Int) * (((q - 1) / 2).toNat:Int))=e4 p q:=by
    generalize hm:(((p - 1) / 2).toNat:Int)=m at h1 ⊢
    generalize hn:(((q - 1) / 2).toNat:Int)=n at h2 ⊢
    unfold chi e4
    rw [Int.mul_emod]
    rcases (by omega:m % 2=0∨m % 2=1) with a | a <;> rcases (by omega:n % 2=0∨n % 2=1) with b | b <;> rw [a,b]
    · rw [if_pos (by decide),if_neg (by omega)]
    · rw [if_pos (by decide),if_neg (by omega)]
    · rw [if_pos (by decide),if_neg (by omega)]
    · rw [if_neg (by decide),if_pos (by omega)]
  rw [hc] at hr;rcases AXu p ((p - 1) / 2).toNat q with e1 | e1 <;> rcases AXu q ((q - 1) / 2).toNat p with e2 | e2 <;> rw [e1,e2] at hr ⊢ <;> rw [<- hr] <;> rfl
def Jb (ps:List Int) (a:Int):Int:=ACy (ps.map fun p=>lg p a)
def Aa8 (ps:List Int):Prop:= ∀ p∈ps,OPr p
theorem Av4 {ps:List Int} (h:Aa8 ps) (a b:Int):Jb ps (a * b)=Jb ps a * Jb ps b:=by
 unfold Jb;rw [<- AGi];exact AE4 fun p hp=>AM0 (h p hp) a b
theorem ATu {ps:List Int} (h:Aa8 ps):ACy ps % 2=1/\1<=ACy ps:=by
 induction ps with
 | nil=>exact ⟨rfl,Int.le_refl _⟩
 | cons p ps ih=>
   obtain ⟨h1,h2⟩:=ih fun q hq=>h q (List.mem_cons_of_mem _ hq)
   have hp:=h p (List.mem_cons_self ..)
   have h3:=hp.three
   have h4:=hp.2
   simp only [ACy]
   refine ⟨by rw [Int.mul_emod,h1,h4];rfl,?_⟩
   have:=Int.mul_le_mul (show (1:Int)<=p by omega) h2 (by omega) (by omega)
   simpa using this
theorem As5 {ps:List Int} (h:Aa8 ps) (hne:ps≠[]):3<=ACy ps:=by
 cases ps with
 | nil=>exact absurd rfl hne
 | cons p ps=>
   have h2:=(ATu (ps:=ps) fun q hq=>h q (List.mem_cons_of_mem _ hq)).2
   have h3:=(h p (List.mem_cons_self ..)).three
   have:=Int.mul_le_mul h3 h2 (by omega) (by omega)
   simp only [ACy]
   simpa using this
theorem Apr {ps:List Int} {p:Int} (h:p∈ps):p ∣ ACy ps:=by
 induction ps with
 | nil=>cases h
 | cons q ps ih=>
   simp only [ACy]
   rcases List.mem_cons.1 h with rfl | h
   · exact Int.dvd_mul_right _ _
   · exact Int.dvd_mul_of_dvd_right (ih h)
theorem Av5 {ps:List Int} (h:Aa8 ps) (a:Int):Jb ps (a % ACy ps)=Jb ps a:=
  AE4 fun p hp=>AKe (h p hp) (Int.emod_emod_of_dvd a (Apr hp))
theorem Av6 {x y:Int} (hx:x % 2=1) (hy:y % 2=1):e8 (x * y)=e8 x * e8 y:=by
 unfold e8;rw [Int.mul_emod];rcases (by omega:x % 8=1∨x % 8=3∨x % 8=5∨x % 8=7) with a | a | a | a <;> rcases (by omega:y % 8=1∨y % 8=3∨y % 8=5∨y % 8=7) with b | b | b | b <;> rw [a,b] <;> rfl
theorem Av7 {x y z:Int} (hy:y % 2=1) (hz:z % 2=1):e4 x (y * z)=e4 x y * e4 x z:=by
 unfold e4;rw [Int.mul_emod];rcases (by omega:x % 4=0∨x % 4=1∨x % 4=2∨x % 4=3) with a | a | a | a <;> rcases (by omega:y % 4=1∨y % 4=3) with b | b <;> rcases (by omega:z % 4=1∨z % 4=3) with c | c <;> rw [a,b,c] <;> rfl
theorem As6 (x y:Int):e4 x y=e4 y x:=by unfold e4;simp only [And.comm]
theorem Av8 {ps:List Int} (h:Aa8 ps):Jb ps 2=e8 (ACy ps):=by
 induction ps with
 | nil=>rfl
 | cons p ps ih=>
   have hp:=h p (List.mem_cons_self ..)
   have ho:=ATu (ps:=ps) fun q hq=>h q (List.mem_cons_of_mem _ hq)
   have ih:=ih fun q hq=>h q (List.mem_cons_of_mem _ hq)
   unfold Jb at ih ⊢
   simp only [List.map_cons,ACy]
   rw [ih,Av3 hp,Av6 hp.2 ho.1]
theorem Aka {p:Int} (hp:OPr p) (qs:List Int):lg p (ACy qs)=ACy (qs.map fun q=>lg p q):=by
 induction qs with
 | nil=>
   show lg p 1=1
   unfold lg
   have h3:=hp.three
   rw [Int.one_pow,Int.emod_eq_of_lt (by omega) (by omega)];rfl
 | cons q qs ih=>simp only [List.map_cons,ACy];rw [AM0 hp,ih]
theorem Akb {x:Int} {qs:List Int} (h:Aa8 qs):ACy (qs.map fun q=>e4 x q)=e4 x (ACy qs):=by
 induction qs with
 | nil=>simp [ACy,e4]
 | cons q qs ih=>
   have ho:=ATu (ps:=qs) fun r hr=>h r (List.mem_cons_of_mem _ hr)
   simp only [List.map_cons,ACy]
   rw [ih fun r hr=>h r (List.mem_cons_of_mem _ hr),Av7 (h q (List.mem_cons_self ..)).2 ho.1]
theorem Aps {ps qs:List Int} (hp:Aa8 ps) (hq:Aa8 qs):Jb ps (ACy qs)=e4 (ACy qs) (ACy ps) * Jb qs (ACy ps):=by
 unfold Jb
 have e1:ACy (ps.map fun p=>lg p (ACy qs))=ACy (ps.map fun p=>e4 (ACy qs) p * ACy (qs.map fun q=>lg q p)):=by
   refine AE4 fun p hpm=>?_
   rw [Aka (hp p hpm),As6,<- Akb hq,<- AGi]
   exact AE4 fun q hqm=>Apq (hp p hpm) (hq q hqm)
 rw [e1,AGi,Akb hp,AZ6 (fun p q=>lg q p)];congr 1;exact AE4 fun q hqm=>(Aka (hq q hqm) ps).symm
theorem As7:∀ (n:Nat) (a:Int),a.toNat<=n->1<=a->a % 2=1-> ∃ qs,Aa8 qs/\ACy qs=a:=by
 intro n
 induction n with
 | zero=>intro a h1 h2;omega
 | succ n ih=>
   intro a h1 h2 h3
   by_cases Ah:a=1
   · exact ⟨[],(fun q hq=>by cases hq),by rw [Ah];rfl⟩
   · by_cases hpr:Pr a
     · exact ⟨[a],(fun q hq=>by rw [List.mem_singleton.1 hq];exact ⟨hpr,h3⟩),by simp [ACy]⟩
     · have hex:∃ d,2<=d/\d < a/\a % d=0:=by
         by_cases hh:∃ d,2<=d/\d < a/\a % d=0
         · exact hh
         · exact absurd ⟨by omega,fun d Aa Ad Ab=>hh ⟨d,Aa,Ad,Ab⟩⟩ hpr
       obtain ⟨d,Aa,Ad,Ab⟩:=hex
       have hda:d * (a / d)=a:=by have:=Int.mul_ediv_add_emod a d;omega
       have Aq:0 < a / d:=Int.ediv_pos_of_pos_of_dvd (by omega) (by omega) (Int.dvd_of_emod_eq_zero Ab)
       have hqlt:a / d < a:=by
         have:2 * (a / d)<=d * (a / d):=Int.mul_le_mul_of_nonneg_right Aa (by omega)
         omega
       have hpar:d % 2=1/\(a / d) % 2=1:=by
         have h4:(d % 2) * ((a / d) % 2) % 2=1:=by rw [<- Int.mul_emod,hda];exact h3
         rcases (by omega:d % 2=0∨d % 2=1) with e | e <;> rcases (by omega:(a / d) % 2=0∨(a / d) % 2=1) with f | f <;> rw [e,f] at h4 <;> first | exact ⟨e,f⟩ | (exfalso;revert h4;decide)
       obtain ⟨q1,Aj,e1⟩:=ih d (by omega) (by omega) hpar.1
       obtain ⟨q2,Ao,e2⟩:=ih (a / d) (by omega) (by omega) hpar.2
       refine ⟨q1 ++ q2,fun q hq=>?_,by rw [APn,e1,e2,hda]⟩
       rcases List.mem_append.1 hq with h | h
       · exact Aj q h
       · exact Ao q h
def Aaa (T s a n:Int):Prop:= ∃ ps,Aa8 ps/\ACy ps=n/\T=s * Jb ps a
theorem Aih {p a:Int} (hp:OPr p):Aaa (lg p a) 1 a p:=⟨[p],(fun q hq=>by rw [List.mem_singleton.1 hq];exact hp),by simp [ACy],by simp [Jb,ACy]⟩
theorem Ame {T s a n:Int} (h:Aaa T s a n) (he:a % 2=0):Aaa T (if n % 8=3∨n % 8=5 then -s else s) (a / 2) n:=by
 obtain ⟨ps,h1,h2,h3⟩:=h;refine ⟨ps,h1,h2,?_⟩;have ho:=ATu h1;have ha:a=2 * (a / 2):=by omega
 rw [ha,Av4 h1,Av8 h1,h2] at h3;rw [h3];rw [h2] at ho;unfold e8;by_cases h8:n % 8=3∨n % 8=5
 ·rw [if_pos h8,if_neg (by omega)];simp [Int.mul_neg,Int.neg_mul]
 ·rw [if_neg h8,if_pos (by omega)];simp
theorem Amf {T s a n:Int} (h:Aaa T s a n) (h0:0 < a) (ho:a % 2=1):Aaa T (if a % 4=3/\n % 4=3 then -s else s) (n % a) a:=by
 obtain ⟨ps,h1,h2,h3⟩:=h;obtain ⟨qs,q1,q2⟩:=As7 a.toNat a (Nat.le_refl _) (by omega) ho;refine ⟨qs,q1,q2,?_⟩;have hr:=Aps h1 q1;rw [q2,h2] at hr;rw [h3,hr];have hmod:=Av5 q1 n;rw [q2] at hmod;rw [hmod];unfold e4;by_cases h4:a % 4=3/\n % 4=3
 ·rw [if_pos h4,if_pos h4];simp [Int.mul_neg,Int.neg_mul]
 ·rw [if_neg h4,if_neg h4];simp
theorem Apt {T s n:Int} (h:Aaa T s 0 n):T=if n=1 then s else 0:=by
 obtain ⟨ps,h1,h2,h3⟩:=h;by_cases hn:ps=[]
 ·subst hn;simp only [ACy] at h2;rw [if_pos h2.symm,h3];simp [Jb,ACy]
 ·have:=As5 h1 hn;rw [if_neg (by omega),h3]
  cases ps with
  | nil=>exact absurd rfl hn
  | cons p ps=>
    unfold Jb
    simp only [List.map_cons,ACy]
    rw [ALo (h1 p (List.mem_cons_self ..)) (Int.zero_emod _),Int.zero_mul,Int.mul_zero]
theorem Af0 {T s a n:Int} (h:Aaa T s a n):n % 2=1/\1<=n:=by
 obtain ⟨ps,h1,h2,_⟩:=h;rw [<- h2];exact ATu h1
end Go.QF
namespace Go.Proofs.YtiegjkmfpcgjjaaGreatDoor
open Go Go.QF
set_option maxRecDepth 100000
open Classical in
noncomputable def ARa (p:Int):Bool:=decide (2 < p/\p<=9973/\Pr p)
theorem AW8 {p:Int} (h:2 < p/\p<=9973/\Pr p):true=ARa p:=by simp [ARa,h]
theorem ASo {p:Int} (h: ¬ (2 < p/\p<=9973/\Pr p)):false=ARa p:=by simp [ARa,h]
theorem Akc {p:Int} (h:ARa p=true):2 < p/\p<=9973/\Pr p:=by simpa [ARa] using h
theorem prB {p:Int} {b:Bool} (h:ALe p=b) (hp:p<=9973):b=true↔Pr p:=by
 subst h;constructor
 ·intro h;exact (Abf h).2
 ·intro h;exact (AY0 (by omega) h).symm
open Classical in
noncomputable def AF2 (p:Int):Bool:=decide (p<=9973/\Pr p)
theorem Apu (p:Int) (h:ABj):ACa Tryz.prog 101 #[.int .i64 p] h fun v h'=>h'=h/\v= .bool (AF2 p):=by
 refine AC0 (l:=[_]) mx Tryz.func101 rfl rfl rfl rfl rfl (by kernel_rfl) (ABl (ACr (Wl (AUr rfl rfl (fun Aa=>?_) (fun Aa=>?_)))))
 ·refine Wl (ACz 5 true (by kernel_rfl) rfl rfl (Wl (ACz 5 true (by kernel_rfl) rfl rfl (ACp trivial rfl (Ans p _) fun x1 h hk=>?_))));obtain ⟨rfl,rfl⟩:=hk;refine ⟨trivial,?_⟩;cases Ac:ALe p
  ·refine ABz rfl (ABq (ABs (⟨_,ABu,?_⟩)))
   first
   | exact ⟨rfl,congrArg Value.bool (show false=AF2 p by simp [AF2];intro hh;omega)⟩
   | (have hq:=(prB (by assumption:ALe p=_) (by omega));first | exact ⟨rfl,congrArg Value.bool (show true=AF2 p by simp [AF2];exact ⟨by omega,hq.1 rfl⟩)⟩ | exact ⟨rfl,congrArg Value.bool (show false=AF2 p by simp [AF2];intro _ hh;have:=hq.2 hh;cases this)⟩)
  ·refine ABz rfl (ABq (ABs (⟨_,ABu,?_⟩)))
   first
   | exact ⟨rfl,congrArg Value.bool (show false=AF2 p by simp [AF2];intro hh;omega)⟩
   | (have hq:=(prB (by assumption:ALe p=_) (by omega));first | exact ⟨rfl,congrArg Value.bool (show true=AF2 p by simp [AF2];exact ⟨by omega,hq.1 rfl⟩)⟩ | exact ⟨rfl,congrArg Value.bool (show false=AF2 p by simp [AF2];intro _ hh;have:=hq.2 hh;cases this)⟩)
 ·refine Wl (ACi 5 false (by kernel_rfl) rfl rfl (ACi 5 false (by kernel_rfl) rfl rfl (ABw rfl (ABq (ABs (⟨_,ABu,?_⟩))))))
  first
  | exact ⟨rfl,congrArg Value.bool (show false=AF2 p by simp [AF2];intro hh;omega)⟩
  | (have hq:=(prB (by assumption:ALe p=_) (by omega));first | exact ⟨rfl,congrArg Value.bool (show true=AF2 p by simp [AF2];exact ⟨by omega,hq.1 rfl⟩)⟩ | exact ⟨rfl,congrArg Value.bool (show false=AF2 p by simp [AF2];intro _ hh;have:=hq.2 hh;cases this)⟩)
theorem Amg (p:Int) (h:ABj):ACa Tryz.prog 65 #[.int .i64 p] h fun v h'=>h'=h/\v= .bool (ARa p):=by
 refine AC0 (l:=[_]) mx Tryz.func65 rfl rfl rfl rfl rfl (by kernel_rfl) (ABl (ACr (Wl (AUt rfl rfl (fun Ab=>?_) (fun Ab=>?_)))))
 ·refine Wl (ACz 5 true (by kernel_rfl) rfl rfl (Wl (ACz 5 true (by kernel_rfl) rfl rfl (ACp trivial rfl (Apu p _) fun x1 h hk=>?_))));obtain ⟨rfl,rfl⟩:=hk;refine ⟨trivial,?_⟩;cases Ad:AF2 p
  ·refine ABz rfl (ABq (ABs (⟨_,ABu,?_⟩)))
   first
   | (have hq:AF2 p=true:=by assumption
      have Aa:p<=9973/\Pr p:=by simpa [AF2] using hq
      exact ⟨rfl,congrArg Value.bool (AW8 ⟨by have:=Aa.2.1;omega,Aa⟩)⟩)
   | (have hq:AF2 p=false:=by assumption
      exact ⟨rfl,congrArg Value.bool (ASo (fun hh=>by
        have Aa: ¬ (p<=9973/\Pr p):=by simpa [AF2] using hq
        exact Aa hh.2))⟩)
   | exact ⟨rfl,congrArg Value.bool (ASo (fun hh=>by have:=hh.1;omega))⟩
  ·refine ABz rfl (ABq (ABs (⟨_,ABu,?_⟩)))
   first
   | (have hq:AF2 p=true:=by assumption
      have Aa:p<=9973/\Pr p:=by simpa [AF2] using hq
      exact ⟨rfl,congrArg Value.bool (AW8 ⟨by have:=Aa.2.1;omega,Aa⟩)⟩)
   | (have hq:AF2 p=false:=by assumption
      exact ⟨rfl,congrArg Value.bool (ASo (fun hh=>by
        have Aa: ¬ (p<=9973/\Pr p):=by simpa [AF2] using hq
        exact Aa hh.2))⟩)
   | exact ⟨rfl,congrArg Value.bool (ASo (fun hh=>by have:=hh.1;omega))⟩
 ·refine Wl (ACi 5 false (by kernel_rfl) rfl rfl (ACi 5 false (by kernel_rfl) rfl rfl (ABw rfl (ABq (ABs (⟨_,ABu,?_⟩))))))
  first
  | (have hq:AF2 p=true:=by assumption
     have Aa:p<=9973/\Pr p:=by simpa [AF2] using hq
     exact ⟨rfl,congrArg Value.bool (AW8 ⟨by have:=Aa.2.1;omega,Aa⟩)⟩)
  | (have hq:AF2 p=false:=by assumption
     exact ⟨rfl,congrArg Value.bool (ASo (fun hh=>by
       have Aa: ¬ (p<=9973/\Pr p):=by simpa [AF2] using hq
       exact Aa hh.2))⟩)
  | exact ⟨rfl,congrArg Value.bool (ASo (fun hh=>by have:=hh.1;omega))⟩
end Go.Proofs.YtiegjkmfpcgjjaaGreatDoor
namespace Go.Proofs.YtiegjkmfpcgjjaaGreatDoor
open Go Go.QF
noncomputable def AW9 (fuel:Nat) (M:List (List Int)):Option Bool:=some (isRed M)
theorem Aii {fuel:Nat} {h:ABj} {v:Value} {M:List (List Int)} {r:Bool} (H:AFo (cI .i64) h v M) (hp:AW9 fuel M=some r):ACa Tryz.prog 67 #[v] h (fun x h'=>Ext h h'/\x= .bool r):=by
 cases hp;exact Adt (Api H) H.1
noncomputable def Aab (fuel:Nat) (n:Int):Option Bool:=some (ALe n)
theorem Amh {fuel:Nat} {h:ABj} {n:Int} {r:Bool} (HO:AU4 h) (hp:Aab fuel n=some r):ACa Tryz.prog 68 #[.int .i64 n] h (fun x h'=>Ext h h'/\x= .bool r):=by
 cases hp;exact (Axb n HO).mono fun x h' ⟨he,hx⟩=>⟨he ▸ Ext.refl _,hx⟩
noncomputable def Adw (fuel:Nat) (n:Int):Option Bool:=some (ARa n)
theorem Apv {fuel:Nat} {h:ABj} {n:Int} {r:Bool} (hp:Adw fuel n=some r):ACa Tryz.prog 65 #[.int .i64 n] h (fun x h'=>Ext h h'/\x= .bool r):=by
 cases hp;exact (Amg n h).mono fun x h' ⟨he,hx⟩=>⟨he ▸ Ext.refl _,hx⟩
end Go.Proofs.YtiegjkmfpcgjjaaGreatDoor
namespace Go.Proofs.YtiegjkmfpcgjjaaGreatDoor
open Go Go.QF
set_option maxRecDepth 100000
set_option maxHeartbeats 4000000
def AId (fuel:Nat) (a3:LiI):Option Int:=
  ((AFe fuel a3).bind fun x5=>((AC8 fuel x5).bind fun Ac=>((Adl fuel Ac).bind fun (Ad,Ae)=>(some Ad))))
theorem ASp {fuel:Nat} {h:ABj} {Aa:Value} {a3:LiI} {r:Int} (H2:AFo (cI .i64) h Aa a3) (hp:AId fuel a3=some r):ACa Tryz.prog 66 #[Aa] h (fun x h'=>Ext h h'/\x= .int .i64 r):=by
 unfold AId at hp;refine cwf (l:=[_]) Tryz.func66 rfl rfl (ABl (ACr (Wl ?_)));have K0:=Kst.k0 h;obtain ⟨x5,Ah,Ai⟩:=ABm hp;refine ACw rfl (ALf (H2.ext K0.x) Ah) fun A4 h9 E8 Ak=>?_;obtain ⟨A6,A7,A8,A9,rfl,Am,Ao⟩:=Ak;have Ad:=K0.no2 E8 Ao Am;obtain ⟨Ba,Ap,Aq⟩:=ABm Ai;refine ACw rfl (AEg (Ad.o2 p0).rd Ap) fun Bb Bc Ar Au=>?_;obtain ⟨Be,rfl,Av⟩:=Au;obtain ⟨Bf,rfl,Aw⟩:=Av.cs;have Ae:=(Ad.e Ar).az Aw;obtain ⟨⟨Bg,Bh⟩,Ax,Af⟩:=ABm Aq;dsimp only at Af;refine ACw rfl (Afe (Ae.z p0).2 Ax) fun Bi Bj Ay Az=>?_;subst Az;refine Wl (AC4 rfl rfl (AC4 rfl rfl (ACg (ACr (Wl (ABq (ABs ?_)))))));obtain rfl:=ABk Af;exact ⟨_,ABu,(Ae.e Ay).x,rfl⟩
def AI6 (fuel:Nat) (a1:Int):Option Int:=
  (if (([2,3,5,7,2,3,5,11,13,17,19,23,3,2,9973,10007,1,4,9,(-3)]:List Int).length:Int)≠0 then ((gI ([2,3,5,7,2,3,5,11,13,17,19,23,3,2,9973,10007,1,4,9,(-3)]:List Int) (Int.tmod (w64 a1) (([2,3,5,7,2,3,5,11,13,17,19,23,3,2,9973,10007,1,4,9,(-3)]:List Int).length:Int))).bind fun Ab=>(some Ab)) else none)
theorem ARb {fuel:Nat} {h:ABj} {a1 r:Int} (hp:AI6 fuel a1=some r):ACa Tryz.prog 27 #[(.int .u8 a1)] h (fun x h'=>Ext h h'/\x= .int .i64 r):=by
 unfold AI6 at hp;refine cwf (l:=[_]) Tryz.func27 rfl rfl (ABl (ACr (AQ6 (κ:= .i64) [2,3,5,7,2,3,5,11,13,17,19,23,3,2,9973,10007,1,4,9,(-3)] ABx AHn rfl rfl trivial tt2 rfl rfl rfl rfl fun b2 v3 h4 I5 E6 Af Ag=>ACr (Wl (Wl (AMv AQq AR8 rfl (Wl ?_)))))));have Aa:=(Kst.k0 h).no E6 (AGy Af Ag) I5;refine AD1 ABx rfl (Aa.o p0).rd ?_;obtain ⟨Ah,Ai⟩:=ifN hp;refine AGj rfl rfl Ah ?_;obtain ⟨Au,Ac,Aj⟩:=ABm Ai;refine AOk ABx rfl (Aa.o p0) rfl Ac fun Av Ak=>?_;obtain ⟨Aw,Am,Ao⟩:=(Aa.o p0).cells Ak Ac;obtain rfl:=Am;refine AB9 ACt rfl (Ao 0 _ rfl) (ABq (ABs ?_));obtain rfl:=ABk Aj;exact ⟨_,ABu,Aa.x,rfl⟩
end Go.Proofs.YtiegjkmfpcgjjaaGreatDoor
namespace Go.Proofs.YtiegjkmfpcgjjaaGreatDoor
open Go Go.QF
set_option maxRecDepth 100000
set_option maxHeartbeats 4000000
def AFs (fuel:Nat) (a1 a2:Int):Option Int:=
  (if a2≠0 then (if (Int.tmod a1 a2) < 0 then (some (w64 ((Int.tmod a1 a2) + a2))) else (some (Int.tmod a1 a2))) else none)
theorem AKv {fuel:Nat} {h:ABj} {a1 a2 r:Int} (hp:AFs fuel a1 a2=some r):ACa Tryz.prog 18 #[(.int .i64 a1),(.int .i64 a2)] h (fun x h'=>Ext h h'/\x= .int .i64 r):=by
 unfold AFs at hp;refine cwf (l:=[_,_]) Tryz.func18 rfl rfl (ABl (ACr (Wl (Wl ?_))));have K0:=Kst.k0 h;obtain ⟨Af,Ae⟩:=ifN hp;refine AGj rfl rfl Af (ABq (ABn (ABl (Wl (AC1 rfl rfl (ABp (⟨_,rfl,fun Aa=>?_,fun Aa=>?_⟩)))))))
 ·refine ABy (Wl (Wl (AC3 rfl rfl (ACr (Wl (ABq (ABs ?_)))))));obtain rfl:=ABk (AC5 Ae Aa);exact ⟨_,ABu,K0.x,rfl⟩
 ·refine ABt (q_t (ABl (Wl (ABq (ABs ?_)))));obtain rfl:=ABk (AC6 Ae Aa);exact ⟨_,ABu,K0.x,rfl⟩
def AKf (fuel:Nat) (a3 a7:LiI) (Ab:Int) (Ae:LiA) (Aa:Int):Option ((Int) ⊕ ((Bool) ⊕ (Unit))):=
  (if Aa < (Ae.length:Int) then ((gI a3 Ab).bind fun Af=>((gI Af Aa).bind fun Ag=>((gI a7 Ab).bind fun Ah=>((gI Ah Aa).bind fun Ai=>(if ¬ Ag=Ai then (some (Sum.inr<| Sum.inl <| false)) else (some (Sum.inl (w64 (Aa + 1))))))))) else (some (Sum.inr<| Sum.inr <| ())))
def AKg (fuel:Nat) (a3 a7:LiI) (Aa:Int):Option ((Int) ⊕ ((Bool) ⊕ (Unit))):=
  (if Aa < (a3.length:Int) then ((gI a3 Aa).bind fun Ad=>((gI a7 Aa).bind fun Ae=>(if ¬ (Ad.length:Int)=(Ae.length:Int) then (some (Sum.inr<| Sum.inl <| false)) else ((iter (fun s=>AKf fuel a3 a7 Aa Ad s) fuel 0).bind (fun ex=>match ex with | Sum.inl Af=>(some (Sum.inr<| Sum.inl <| Af)) | Sum.inr (_)=>(some (Sum.inl (w64 (Aa + 1))))))))) else (some (Sum.inr<| Sum.inr <| ())))
def AEn (fuel:Nat) (a3 a7:LiI):Option Bool:=
  (if ¬ (a3.length:Int)=(a7.length:Int) then (some false) else ((iter (fun s=>AKg fuel a3 a7 s) fuel 0).bind (fun ex=>match ex with | Sum.inl Ac=>(some Ac) | Sum.inr (_)=>(some true))))
theorem AKh {fuel:Nat} {h:ABj} {Av:Value} {a3:LiI} {Ax:Value} {a7:LiI} {r:Bool} (H2:AFo (cI .i64) h Av a3) (H6:AFo (cI .i64) h Ax a7) (hp:AEn fuel a3 a7=some r):ACa Tryz.prog 17 #[Av,Ax] h (fun x h'=>Ext h h'/\x= .bool r):=by
 unfold AEn at hp;refine cwf (l:=[_,_]) Tryz.func17 rfl rfl (ABl (ABq (ABn (ABl (Wl (ADh AB4 rfl H2 (Wl (ADh AB4 rfl H6 (AHz rfl rfl (ABp ?_))))))))));have K0:=Kst.k0 h;refine ⟨_,rfl,fun Ak=>?_,fun Ak=>?_⟩
 ·refine ABl (ABq (ABs (AB2 ?_)));obtain rfl:=ABk (AC5 hp Ak);exact ⟨_,ABu,K0.x,rfl⟩
 ·refine ABt (q_t (ABn (ABl (Wl (ADh AB4 rfl H2 (Wl (ABp (ABr ?_))))))));obtain ⟨Ah,A6,Am⟩:=ABm (AC6 hp Ak);obtain ⟨A7,A8,A9⟩:=ACj A6;refine ACk 9007199254724720 (fun x:(Int)=>[(14,(.int .i64 x))]) (fun k x h'=>iter A7 k x=some Ah/\Kst h h' (K0.L)) (by kernel_rfl) fuel (0:(Int)) ?_ ⟨rfl,trivial⟩ ?_
  ·exact ⟨A9,K0⟩
  rintro Cb Ba Cd Ce ⟨Bb,Aa⟩;obtain ⟨Bc,Cf,rfl,Ae,Ab⟩:=AB5 Bb;rw [A8] at Ae;dsimp only at Ae;unfold AKg at Ae;refine ABl (AC1 rfl rfl (ABp (ABn (⟨_,rfl,fun Ao=>?_,fun Ao=>?_⟩))))
  ·refine ABt (q_t (ABn (ABr (ABl (Wl (ABq (ABn (ABn (ANr (Wl (Wl ?_)))))))))));obtain ⟨Cg,Az,Be⟩:=ABm (AC5 Ae Ao);refine AIx AB4 rfl H2 rfl Az fun Ch Ci Cj Bf Bg=>AB9 ACo rfl (AB0 Bf Aa.x) (AD1 ABx rfl Bg (Wl (Wl ?_)));obtain ⟨Ck,Bh,A3⟩:=ABm Be;refine AIx AB4 rfl H6 rfl Bh fun Cm Cn Co Bi Bj=>AB9 ACo rfl (AB0 Bi Aa.x) (AD1 ABx rfl Bj (AHz rfl rfl (ABp (⟨_,rfl,fun Ap=>?_,fun Ap=>?_⟩))))
   ·refine ABl (ABq ?_);obtain rfl:=ABk (AC5 A3 Ap);change _=Ah at Ab;subst Ab;refine ABs (AB2 (ADp (AB2 (AB2 (ADp (AB2 ?_))))));obtain rfl:=ABk Am;exact ⟨_,ABu,Aa.x,rfl⟩
   ·refine ABt (q_t (ABl (Wl (Wl (AIx AB4 rfl H2 rfl Az fun Cp Cq Cr Bl Bm=>AB9 ACo rfl (AB0 Bl Aa.x) (AD1 ABx rfl Bm (Wl (ABp (ABr ?_)))))))));obtain ⟨Aq,Bn,A4⟩:=ABm (AC6 A3 Ap);obtain ⟨Bo,Bp,Bq⟩:=ACj Bn;refine ACk 4503591037435984 (fun x:(Int)=>[(33,(.int .i64 x))]) (fun k x h'=>iter Bo k x=some Aq/\Kst h h' (Aa.L)) (by kernel_rfl) fuel (0:(Int)) ?_ ⟨rfl,trivial⟩ ?_
    ·exact ⟨Bq,Aa⟩
    rintro Ct Br Cu Cv ⟨Bt,Ac⟩;obtain ⟨Bu,Cw,rfl,Af,Ag⟩:=AB5 Bt;rw [Bp] at Af;dsimp only at Af;unfold AKf at Af;refine ABl (AC1 rfl rfl (ABp (ABn (⟨_,rfl,fun Ar=>?_,fun Ar=>?_⟩))))
    ·refine ABt (q_t (ABn (ABr (ABl (Wl (ABq (ABn (ANr (Wl (Wl ?_))))))))));obtain ⟨Cx,Bv,Bw⟩:=ABm (AC5 Af Ar);refine AIx AB4 rfl H2 rfl Bv fun Cy Cz C0 Bx By=>AB9 ACo rfl (AB0 Bx Ac.x) (Wl ?_);obtain ⟨C1,Bz,B1⟩:=ABm Bw;refine AIw (c:=(cI .i64)) ABx rfl By rfl Bz fun C2 C3 C4 B2 B3=>?_;obtain rfl:=B2;refine AB9 ACt rfl (AB0 (B3 0 _ rfl) Ac.x) (Wl (Wl ?_));obtain ⟨C5,B4,B5⟩:=ABm B1;refine AIx AB4 rfl H6 rfl B4 fun C6 C7 C8 B6 B7=>AB9 ACo rfl (AB0 B6 Ac.x) (Wl ?_);obtain ⟨C9,B8,A5⟩:=ABm B5;refine AIw (c:=(cI .i64)) ABx rfl B7 rfl B8 fun Da Db Dc B9 Ca=>?_;obtain rfl:=B9;refine AB9 ACt rfl (AB0 (Ca 0 _ rfl) Ac.x) (AHz rfl rfl (ABp (⟨_,rfl,fun Au=>?_,fun Au=>?_⟩)))
     ·refine ABl (ABq ?_);obtain rfl:=ABk (AC5 A5 Au);change _=Aq at Ag;subst Ag;obtain rfl:=ABk A4;change _=Ah at Ab;subst Ab;refine ABs (ADp (AB2 (AB2 (ADp (ADp (AB2 (AB2 (ADp (AB2 ?_)))))))));obtain rfl:=ABk Am;exact ⟨_,ABu,Ac.x,rfl⟩
     ·refine ABt (q_b (q_t (ABy (AC3 rfl rfl (Wl (ABp ?_))))));obtain rfl:=ABk (AC6 A5 Au);exact ⟨Bu,((w64 (Br + 1)):(Int)),Nat.lt_succ_self _,⟨Ag,Ac⟩,rfl,trivial⟩
    ·obtain rfl:=ABk (AC6 Af Ar);change _=Aq at Ag;subst Ag;refine ACd (ACc (ACc (ADo (q_b (q_t (ABy (AC3 rfl rfl (Wl (ABp ?_)))))))));obtain rfl:=ABk A4;exact ⟨Bc,((w64 (Ba + 1)):(Int)),Nat.lt_succ_self _,⟨Ab,Ac⟩,rfl,trivial⟩
  ·obtain rfl:=ABk (AC6 Ae Ao);change _=Ah at Ab;subst Ab;refine ACd (ACc (ACc (ADo (q_t (ABl (ABq (ABs ?_)))))));obtain rfl:=ABk Am;exact ⟨_,ABu,Aa.x,rfl⟩
end Go.Proofs.YtiegjkmfpcgjjaaGreatDoor
namespace Go.Proofs.YtiegjkmfpcgjjaaGreatDoor
open Go Go.QF
set_option maxRecDepth 100000
theorem Adx {h h2:ABj} {r1:Value} {M:List (List Int)} {m:Int} {b:Nat} {gs:List Nat} {c:Nat} (Ac:Aa1 h2 tR tI b gs r1 (M.map (·.map (· % m)))) (hr:∀ z∈M,z.length=c):ADv h2 tR tI b gs r1 M.length (tab M.length c (ent (AMd M m))):=by
 have ht:=AY4 (A:=AMd M m) (c:=c) (Anp hr);rw [Acu] at ht;rw [<- ht];have:Aa1 h2 tR tI b gs r1 (AMd M m):=Ac;unfold Aa1 at this;rw [Acu] at this;exact this
theorem Av9 {M:List (List Int)} {c:Nat} {m:Int} (hm:0 < m):Bd M.length c m (ent (AMd M m)):=by
 have:=Avg (c:=c) hm (Arq hm M);rw [Acu] at this;exact this
def Axs (M:List (List Int)) (m:Int) (Q:(Nat->Nat->Int)->Int->Prop) (h:ABj) (x:Value) (h':ABj):Prop:=Ext h h'/\ ∃ r e,x= .tuple #[r,.int .i64 e]/\
  ((AIi M=false/\e=3/\Mat h' r [])∨(AIi M=true/\AQh m=false/\e=1/\Mat h' r [])∨
   (AIi M=true/\AQh m=true/\ ∃ F1 s,(s=1∨s= -1)/\Q F1 s/\Bd M.length (M.length + M.length) m F1/\Zc M.length F1 M.length/\
     ((e=8/\Mat h' r []/\ ∃ c,c < M.length/\¬ ∃ y,AK3 m (F1 c c) y)∨
      (e=0/\(∀ c,c < M.length-> ∃ y,AK3 m (F1 c c) y)/\Mat h' r (tab M.length M.length fun i j=>AHw m M.length F1 M.length i (M.length + j))))))
theorem AYk {a b c d:Value} (h:Value.tuple #[a,b]= .tuple #[c,d]):a=c/\b=d:=by
 injection h with h;have:=congrArg Array.toList h;simpa using this
theorem Af1 {h:ABj} {v:Value} {M:List (List Int)} (HM:Mat h v M) (m:Int) (Q:(Nat->Nat->Int)->Int->Prop) (Bf:AIi M=true->AQh m=true->Q (Aa2 M.length (ent (AMd M m))) 1) (hQ:Apm M.length (M.length + M.length) m Q):ACa Tryz.prog 39 #[v,.int .i64 m] h (fun x h'=>Axs M m Q h x h'/\ ∀ r e,x= .tuple #[r,e]->ANt r):=by
 refine AC0 (l:=[_,_]) mx Tryz.func39 rfl rfl rfl rfl rfl (by kernel_rfl) (ABl (ACg (ABq (ABn (ABn ?_)))));have Bg:=Ext.refl h;refine ABy (Wl (ACp trivial rfl (Anr HM) fun v' h hk=>?_));obtain ⟨rfl,rfl⟩:=hk;refine ⟨trivial,?_⟩;cases Ab:AIi M
 ·refine AF9 rfl (ABp (ACe rfl (ABl (ACg (ABq (ABs (AB2 (⟨_,ADc,?_⟩))))))));exact ⟨⟨Ext.refl _,_,_,rfl,.inl ⟨Ab,rfl,Acp _⟩⟩,fun r e he=>(AYk he).1 ▸ APp⟩
 ·refine AF9 rfl (ABp (ACf rfl (ABt (q_t (ABn (ABl (Wl (ACp trivial rfl (AX4 m h) fun v' h hk=>?_))))))));obtain ⟨rfl,rfl⟩:=hk;refine ⟨trivial,?_⟩;refine ACr (Wl (AUt rfl rfl (fun Ah=>?_) (fun Ah=>?_)))
  ·refine ABp (ACe rfl (ABl (Wl (ACg (ABq (ABs (AB2 (⟨_,ADc,?_⟩))))))));have hmB:AQh m=false:=by cases hb:AQh m <;> simp [hb] at Ah ⊢
   exact ⟨⟨Ext.refl _,_,_,rfl,.inr (.inl ⟨Ab,hmB,by simp [hmB],Acp _⟩)⟩,fun r e he=>(AYk he).1 ▸ APp⟩
  ·refine ABp (ACf rfl (ABt (q_t (ABn ?_))));have hmB:AQh m=true:=by cases hb:AQh m <;> simp [hb] at Ah ⊢
   have hm:=ATn hmB;obtain ⟨hv,hsq,h8⟩:=Abl Ab;have Bh:=hv.1;have Bi:=hv.2.1;refine ABy (Wl (ANb AB4 rfl (HM.ext Bg) (ACr (Wl (Wl ?_)))));have hmB:AQh m=true:=by cases hb:AQh m <;> simp [hb] at Ah ⊢
   have hm:=ATn hmB;obtain ⟨hv,hsq,h8⟩:=Abl Ab;have Bh:=hv.1;have Bi:=hv.2.1;refine ACp trivial rfl (Aet HM hm.1 hm.2 (by omega) (Ano hv)) fun r1 h2 hk=>?_;obtain ⟨Bj,b,gs,Bl,hb⟩:=hk;refine ⟨trivial,?_⟩;have Ay:=Adx (c:=M.length) (h:=h) Bl (fun z hz=>by rw [hv.2.2.2.2 z hz];omega);have Bm:=Av9 (M:=M) (c:=M.length) (m:=m) (by omega);refine ABq (ABn (ABl (Wl (AU5 AB4 rfl Ay (Wl (ABp (ABr (ACk 4503597479887360 (fun i:Nat=>[(31,.int .i64 (i:Int))]) (fun k i h'=>Ext h h'/\k=M.length - i/\i<=M.length/\ ∃ gs',ADv h' tR tI b gs' r1 M.length (AWs M.length i (fun k=>(List.range (M.length + M.length)).map (Aa2 M.length (ent (AMd M m)) k)) (fun k=>(List.range M.length).map (ent (AMd M m) k)))/\ ∀ g∈b :: gs',h.size<=g) (by kernel_rfl) M.length 0 ?_ ⟨rfl,trivial⟩ ?_))))))))
   ·exact ⟨Bj,by omega,by omega,gs,by rw [Abk];exact Ay,hb⟩
   rintro k i sx h3 ⟨hEA,rfl,hi,gsA,HPA,hgA⟩;refine ABl (AFn rfl rfl (fun Bo=>?_) (fun Bo=>?_))
   ·refine ABp (ABn (ACe rfl (ABt (q_t (ABn (ABr (ABl (Wl (ACr (Wl (Wl (Wl (Wl (AOh AB4 rfl HPA rfl (Aje (by omega)) fun aK rK gK haK hgK hrK=>AB9 ACo rfl haK (Wl (Avi (n:=M.length) ABx AR8 AHn rfl trivial rfl hrK rfl (by omega) (by simp;omega) (by simp;omega) fun r4 g4 h4 A4 Bp Ao=>⟨trivial,?_⟩))))))))))))))));obtain ⟨rs,HT,hrl⟩:=ADv.top HPA;have hKb:=ADv.ne HPA hgK;have Af:=HT.upd Ao (fun he=>hKb (Eq.symm he))
    have HO4b:AD7 h4 tI g4 r4 (((List.range M.length).map (ent (AMd M m) i) ++ List.replicate M.length 0).map (.int .i64)):=by
      rw [List.map_append,List.map_replicate];exact A4
    refine ANs AB4 rfl Af rfl (by omega) (ASz ACo rfl rfl A4.one Af (by omega) ?_)
    have hg4s:g4=gK∨h3.size<=g4:=by
      rcases Bp with h | h
      · exact .inl h
      · exact .inr (by omega)
    have HPB:=ADv.replace HPA hgK Ao HO4b hg4s;have hgKm:=hgA gK (List.mem_cons_of_mem _ (List.mem_of_getElem? hgK));have Bq:=hgA b (List.mem_cons_self ..)
    have hg4m:h.size<=g4:=by
      rcases hg4s with h | h
      · omega
      · have:=hEA.1;omega
    have hgB:∀ g∈b :: gsA.set i g4,h.size<=g:=fun g hg=>by
      rcases List.mem_cons.1 hg with rfl | hg
      · exact Bq
      · exact AZe (fun g hg=>hgA g (List.mem_cons_of_mem _ hg)) hg4m g hg
    have hEB:=(hEA.thenUpd Ao (fun k hk=>by have Ap:k=gK:=hk;omega)).thenUpd (AHe h4 ⟨b,i,none⟩ r4) (fun k hk=>by have Ap:k=b:=hk;omega);have hgl:gsA.length=M.length:=by have:=ADv.glen HPA;rw [AZf] at this;exact this
    refine ABp (ABy (Wl (Wl (AOh AB4 rfl HPB rfl (List.getElem?_set_self (by rw [AZf];omega)) fun aQ rQ gQ haQ hgQ hrQ=>?_))));refine AB9 ACo rfl haQ (Wl (Wl (AZh rfl rfl (by omega) (ANs (n:=M.length + i) ABx rfl hrQ rfl (by simp;omega) ?_))));refine ASz ACt rfl rfl rfl hrQ (by simp;omega) ?_;have HPC:=ADv.setElem HPB hgQ (List.getElem?_set_self (by rw [AZf];omega)) (j:=M.length + i) (by simp;omega) 1;rw [List.set_set,Arv _ (by omega),Aey rfl] at HPC;have hEC:=hEB.thenUpd (AHe _ ⟨gQ,M.length + i,none⟩ (.int .i64 1)) (fun k hk=>by have Ap:k=gQ:=hk;have:=hgB gQ (List.mem_cons_of_mem _ (List.mem_of_getElem? hgQ));omega);refine ACm (q_b (q_t (ABy (AI9 rfl (by omega) (Wl (ABp ?_))))));exact ⟨M.length - (i + 1),i + 1,by omega,⟨hEC,rfl,by omega,_,HPC,hgB⟩,rfl,trivial⟩
   ·refine ABp (ABn (ACf rfl (ACd (ACc (ACc (ADo (q_t (ABl (Wl (Wl ?_))))))))));rw [Aex _ _ (by omega)] at HPA;refine ACp trivial rfl (Aa7 HPA (by omega) (by omega) hm.1 hm.2 (Avj hm.1 Bm) Q (Bf Ab hmB) hQ) fun x3 h5 hk=>?_;obtain ⟨Br,F1,s,Ac,rfl,hs,A5,Bt,A6,Ai,Aq⟩:=hk;refine ⟨trivial,?_⟩;have A7:=hEA.thenUpd Br (fun k hk=>hgA k hk);have hlt:=ADv.lt A5
    have hge:∀ g∈b :: Ac,h.size<=g:=fun g hg=>hgA g (by
      rcases List.mem_cons.1 hg with rfl | hg
      · exact List.mem_cons_self ..
      · exact List.mem_cons_of_mem _ (Bt g hg))
    refine ANc (Wl (ACp trivial rfl (AUz m h5) fun fv h6 hk=>?_));obtain ⟨rfl,rfl⟩:=hk;refine ⟨trivial,?_⟩;have hpush:=AEf h5 (.cells #[.int .i64 m] tI (0,0));refine ABq (ABn (ABl (Wl (ALu rfl rfl (by omega) (by omega) (ABq (ABr (ACk 81129638414606105235036701751344 (fun y:Nat × Int=>[(11,.int .i64 y.2)]) (fun k y h'=>k=M.length - y.1/\y.1<=M.length/\y.2=(M.length:Int) - 1 - (y.1:Int)/\Afy h5 h' b Ac r1 M.length (M.length + M.length) m (AHw m M.length F1 y.1) (.slice none 0 0) [] Ac/\ ∀ c,M.length - y.1<=c->c < M.length-> ∃ z,AK3 m (F1 c c) z) (by kernel_rfl) M.length (0,(M.length:Int) - 1) ?_ ⟨rfl,trivial⟩ ?_)))))))
    ·refine ⟨rfl,by omega,by simp,⟨hpush.upd,ADv.ext A5 hpush,fun g hg=>hg,AT4 _ _ _,?_,by simp⟩,fun c h1 h2=>absurd h1 (by simp;omega)⟩;simp [AEx]
    rintro k ⟨j,xv⟩ sy h6 ⟨rfl,hj,hxv,HIB,hall⟩;dsimp only at hj hxv HIB hall ⊢;refine ABn (ABl (Wl (AUs rfl rfl (fun Bv=>?_) (fun Bv=>?_))))
    ·refine ABp (ACe rfl (ABt (q_t (ABn (ABr (ABn ?_))))));obtain ⟨c,rfl⟩:∃ c:Nat,xv=(c:Int):=⟨xv.toNat,by omega⟩;obtain ⟨G,hG⟩:∃ G,AHw m M.length F1 j=G:=⟨_,rfl⟩;rw [hG] at HIB;have HPG:=HIB.2.1;have hbdG:Bd M.length (M.length + M.length) m G:=hG ▸ Ac0 (by omega) Ai j;have hx:=hbdG c c (by omega) (by omega);have hdiag:G c c=F1 c c:=by rw [<- hG];exact AZg (by omega) Ai (by omega) Aq j (by omega) c c (by omega) (by omega)
     refine ABy (Wl (Wl (AOh AB4 rfl HPG rfl (AEi (by omega)) fun aR rR gR haR hgR hrR=>AB9 ACo rfl haR (Wl (AL6 ABx rfl hrR.sl rfl (AG3 (by omega)) fun aX haX=>AB9 ACt rfl haX (Wl (ACp trivial rfl (Aa0 (x:=G c c) (m:=m) hx.1 hx.2 hm.1 hm.2 _) fun rv h7 hk=>?_)))))));obtain ⟨rfl,inv,ok,rfl,Bw,him,hok,hno⟩:=hk;refine ⟨trivial,?_⟩;refine Wl (AC4 rfl rfl (AC4 rfl rfl (ACg (ABq (ABn (ABl (Wl (AF9 rfl (ABp (⟨_,rfl,fun Au=>?_,fun Au=>?_⟩))))))))))
     ·refine ABl (ACg (ABq (ABs (AB2 (ADp (AB2 (AB2 (ADp (AB2 (⟨_,ADc,?_⟩))))))))));have Aj:ok=false:=by cases ok <;> simp at Au ⊢
      exact ⟨⟨A7.thenUpd HIB.1 (fun k hk=>hge k hk),_,_,rfl,.inr (.inr ⟨Ab,hmB,F1,s,hs,A6,Ai,Aq,.inl ⟨rfl,Acp _,c,by omega,hdiag ▸ hno Aj⟩⟩)⟩,fun r e he=>(AYk he).1 ▸ APp⟩
     ·refine ABt (q_t (ABn ?_));have Aj:ok=true:=by cases ok <;> simp at Au ⊢
      have hinv:=Ai7 (hok Aj);have HPG:=HIB.2.1;refine ABy (Wl (Wl (AOh AB4 rfl HPG rfl (AEi (by omega)) fun aS rS gS haS hgS hrS=>AB9 ACo rfl haS (Wl (Wl (ACp trivial rfl (Apl hrS (AZb hbdG (by omega)) Bw him hm.1 hm.2 (by simp;omega)) fun sv h8 hk=>?_))))));obtain ⟨A8,A9⟩:=hk;refine ⟨trivial,?_⟩;rw [Amb] at A9;have Ba:=ADv.setRow' HIB.2.1 hgS A8 (AEi (by omega)) hrS A9;rw [AH5] at Ba;have Bx:=HIB.turn hlt A8 (List.mem_cons_of_mem _ (List.mem_of_getElem? hgS)) (F2:=AMe G c inv m) Ba HIB.2.2.1;have By:=Aev (a:=c) (f:=inv) (by omega:0 < m) hbdG;refine ANc (Wl (Wl (ABp (ABr (ACk 81129599728980454027655414562816 (fun q:Nat=>[(85,.int .i64 (q:Int))]) (fun k q h'=>k=c - q/\q<=c/\Afy h5 h' b Ac r1 M.length (M.length + M.length) m (AK4 (AMe G c inv m) c c m q) (.slice none 0 0) [] Ac) (by kernel_rfl) c 0 ?_ ⟨rfl,trivial⟩ ?_)))))
      ·exact ⟨rfl,by omega,by rw [AY9];exact Bx⟩
      rintro k q sz h9 ⟨rfl,hq,HIk⟩;have HPk:=HIk.2.1;refine ABl (AFn rfl rfl (fun Bz=>?_) (fun Bz=>?_))
      ·refine ABp (ABn (ACe rfl (ABt (q_t (ABn (ABr (ABn ?_)))))));have hbk:=Ai9 (k:=q) (top:=c) (j:=c) (by omega:0 < m) By;have hY:=hbk q c (by omega) (by omega);refine ABy (Wl (ABq (AOs (by kernel_rfl) (Wl (Wl (Wl (AOh AB4 rfl HPk rfl (AEi (by omega)) fun aK rK gK haK hgK hrK=>AB9 ACo rfl haK (Wl (Wl (AOh AB4 rfl HPk rfl (AEi (by omega)) fun aL rL gL haL hgL hrL=>AB9 ACo rfl haL ?_))))))))));have hgKm:gK∈b :: Ac:=List.mem_cons_of_mem _ (List.mem_of_getElem? hgK);have hneKL:gK≠gL:=fun he=>absurd (AG6 (List.nodup_cons.1 (ADv.nodup HIk.2.1)).2 hgK (he ▸ hgL)) (by omega);refine Wl (Wl (AOh AB4 rfl HPk rfl (AEi (by omega)) fun aN rN gN haN hgN hrN=>AB9 ACo rfl haN (Wl (AL6 ABx rfl hrN.sl rfl (AG3 (by omega)) fun aY haY=>AB9 ACt rfl haY (Aco trivial rfl rfl (AV6 (a:=⟨h5.size,0,none⟩) hrK hrL hneKL (by simp) HIk.2.2.2.2.1 (by have:=hlt _ hgKm;dsimp only;omega) (AZb hbk (by omega)) (AZb hbk (by omega)) hY.1 hY.2 hm.1 hm.2 (by simp;omega)) fun ev B9 hk=>?_)))));obtain ⟨Bb,Bc⟩:=hk;refine ⟨trivial,?_⟩;rw [Afx] at Bc;have Ak:=ADv.setRow' HIk.2.1 hgK Bb (AEi (by omega)) hrK Bc;rw [AH5] at Ak;simp only [Aeu,AWr] at Ak;rw [AZa (by omega)] at Ak;have B1:=HIk.turn hlt Bb hgKm Ak HIk.2.2.1;refine ACm (q_b (q_t (ABy (AI9 rfl (by omega) (Wl (ABp ?_))))));exact ⟨c - (q + 1),q + 1,by omega,⟨rfl,by omega,B1⟩,rfl,trivial⟩
      ·refine ABp (ABn (ACf rfl (ACd (ACc (ACc (ADo (q_b (q_t (ABy (Wl (ALu rfl rfl (by omega) (by omega) (ABq ?_))))))))))));obtain rfl:q=c:=by omega
       have hS:AHw m M.length F1 (j + 1)=AK4 (AMe G q inv m) q q m q:=by
         simp only [AHw,Abj]
         rw [hG,show M.length - 1 - j=q by omega,hinv]
       refine ⟨M.length - (j + 1),(j + 1,(q:Int) - 1),by first | omega | (dsimp only;omega),⟨rfl,by first | omega | (dsimp only;omega),by simp;omega,?_,fun c h1 h2=>?_⟩,rfl,trivial⟩
       ·dsimp only;rw [hS];exact HIk
       ·dsimp only at h1;by_cases hcq:c=q
        ·subst hcq;exact ⟨inv,hdiag ▸ hok Aj⟩
        ·exact hall c (by omega) h2
    ·refine ABp (ACf rfl (ACd (ACc (ACc (ADo (q_t (ABn (ABn ?_))))))));obtain rfl:j=M.length:=by omega
     have HPG:=HIB.2.1;refine ABy (Wl (AU5 AB4 rfl HPG (Wl (ABp (ABr (ACk 5316587464586005064888445085100834816 (fun i:Nat=>[(108,.int .i64 (i:Int))]) (fun k i h'=>Ext h h'/\k=M.length - i/\i<=M.length/\ ∃ gs',ADv h' tR tI b gs' r1 M.length (AWs M.length i (fun k=>(List.range M.length).map fun j=>AHw m M.length F1 M.length k (M.length + j)) (fun k=>(List.range (M.length + M.length)).map (AHw m M.length F1 M.length k)))/\ ∀ g∈b :: gs',h.size<=g) (by kernel_rfl) M.length 0 ?_ ⟨rfl,trivial⟩ ?_))))))
     ·exact ⟨A7.thenUpd HIB.1 (fun k hk=>hge k hk),by omega,by omega,Ac,by rw [Abk];exact HPG,hge⟩
     rintro k i sw B2 ⟨hEW,rfl,hi,gsW,HPW,Av⟩;refine ABl (AFn rfl rfl (fun B3=>?_) (fun B3=>?_))
     ·refine ABp (ABn (ACe rfl (ABt (q_t (ABn (ABr (ABl (Wl (ABq (ABy (Wl (Wl (Wl (Wl (AOh AB4 rfl HPW rfl (Aje (by omega)) fun aW rW gW haW hgW hrW=>AB9 ACo rfl haW (Wl ?_))))))))))))))));obtain ⟨capW,hvW,hcW⟩:=hrW.slice;have hlW:(((List.range (M.length + M.length)).map (AHw m M.length F1 M.length i)).map (Value.int .i64)).length=M.length + M.length:=by simp
      rw [hlW] at hvW hcW;have HX:=hrW.from (k:=M.length) (cap:=capW) hlW (by omega) (by omega);rw [Anz] at HX;refine Aen ABx hvW rfl (by omega) hcW (Ahg ABx AHn rfl trivial rfl rfl HX (by simp [isOne]) (by rw [List.map_map];exact Acs (by omega)) (by simp;omega) (by simp;omega) fun B4 B5 Be Aw=>⟨trivial,?_⟩);obtain ⟨rs,HT,hrl⟩:=ADv.top HPW;have Af:=HT.ext Aw;refine ANs AB4 rfl Af rfl (by omega) (ASz ACo rfl rfl Be.one Af (by omega) ?_);have HPY:=ADv.replace HPW hgW Aw.upd Be (.inr (Nat.le_refl _));rw [Aey rfl] at HPY;refine ACm (q_b (q_t (ABy (AI9 rfl (by omega) (Wl (ABp ?_))))));have hEY:=(hEW.trans Aw).thenUpd (AHe B5 ⟨b,i,none⟩ B4) (fun k hk=>by have Ap:k=b:=hk;have:=Av b (List.mem_cons_self ..);omega)
      exact ⟨M.length - (i + 1),i + 1,by omega,⟨hEY,rfl,by omega,_,HPY,fun g hg=>by
        rcases List.mem_cons.1 hg with rfl | hg
        · exact Av _ (List.mem_cons_self ..)
        · exact AZe (fun g hg=>Av g (List.mem_cons_of_mem _ hg)) hEW.1 g hg⟩,rfl,trivial⟩
     ·refine ABp (ABn (ACf rfl (ACd (ACc (ACc (ADo (q_t (ABl (Wl (ACg (ABq (ABs (⟨_,ADc,?_⟩)))))))))))));obtain rfl:i=M.length:=by omega
      rw [Aex _ _ (by omega)] at HPW;refine ⟨⟨hEW,_,_,rfl,.inr (.inr ⟨Ab,hmB,F1,s,hs,A6,Ai,Aq,.inr ⟨rfl,fun c hc=>hall c (by omega) hc,?_⟩⟩)⟩,fun r e he=>(AYk he).1 ▸ (let ⟨_,ho,_⟩:=HPW;ho.cap)⟩;exact (show Aa1 B2 tR tI b gsW r1 (tab M.length M.length fun i j=>AHw m M.length F1 M.length i (M.length + j)) by unfold Aa1;rw [ADg];exact HPW).mat
end Go.Proofs.YtiegjkmfpcgjjaaGreatDoor
namespace Go.QF
theorem AUg:∀ {n:Nat} {m:Int} {F G:Nat->Nat->Int},(∀ i j,i < n->j < n->Eqm m (F i j) (G i j))->Eqm m (det n F) (det n G):=by
 intro n m
 induction n with
 | zero=>intro _ _ _;rfl
 | succ n ih=>
   intro F G h
   refine Eqm.psum fun i hi=>?_
   exact ((Eqm.refl _ _).mul (h i 0 hi (by omega))).mul (ih (F:=AE0 i F) (G:=AE0 i G) fun a b ha hb=>h _ _ (Ao5 ha) (by omega))
theorem Ami {n c i:Nat} {q m:Int} {F:Nat->Nat->Int} (hc:c < n) (hi:i < n) (hne:c≠i):Eqm m (det n (AOi F c i q m)) (-det n F):=by
  rw [<- AIu (F:=F) hc hi hne (-q),<- AP7 (F:=ADj F c fun x=>F c x + -q * F i x) hc hi hne];refine AUg fun a b ha hb=>?_;unfold AOi;rw [ALb,ALb];simp only [ACs]
  have key:Eqm m ((F c b + (m - q) * F i b) % m) (F c b + -q * F i b):=by
    refine (Eqm.mod _ _).trans ?_;unfold Eqm;rw [show F c b + (m - q) * F i b=F c b + -q * F i b + m * F i b by grind,Int.add_mul_emod_self_left]
  split
  · split <;> first | exact key | rfl
  · split
    · split <;> first | exact key | rfl
    · first | rfl | exact key
theorem Apw {F:Nat->Nat->Int} {m s:Int}:∀ n,Eqm m (AR9 F m s n) (s * AGx (fun i=>F i i) n):=by
 intro n
 induction n with
 | zero=>unfold AR9 AGx Eqm;rw [Int.add_emod_right,Int.mul_one]
 | succ n ih=>
   unfold AR9 AGx
   refine (Eqm.mod _ _).trans ?_
   rw [<- Int.mul_assoc]
   exact ((Eqm.mod _ _).trans ih).mul (Eqm.refl _ _)
def Aa9 (M:List (List Int)) (m:Int):Int:=if AIi M && AQh m then det M.length (ent M) % m else 0
end Go.QF
namespace Go.Proofs.YtiegjkmfpcgjjaaGreatDoor
open Go Go.QF
end Go.Proofs.YtiegjkmfpcgjjaaGreatDoor
namespace Go.Proofs.YtiegjkmfpcgjjaaGreatDoor
open Go Go.QF
theorem Aij {fuel:Nat} {a m:Int} (hm:0 < m) (Ae:m<=2147483647):AFs fuel a m=some (a % m):=by
 unfold AFs;rw [if_pos (by omega)];have h1:=Int.tmod_lt_of_pos a hm
 have h2: -m < Int.tmod a m:=by
   have:=Int.tmod_lt_of_pos (-a) hm
   rw [Int.neg_tmod] at this;omega
 have h3:Int.tmod a m=a % m∨Int.tmod a m=a % m - m:=by
   rcases Int.lt_or_le a 0 with h | h
   · have e1:Int.tmod a m= -((-a) % m):=by rw [show a= -(-a) by omega,Int.neg_tmod,Int.tmod_eq_emod_of_nonneg (by omega)];simp
     rcases Int.lt_or_eq_of_le (Int.emod_nonneg (-a) (by omega:m≠0)) with h4 | h4
     · right
       rw [e1]
       have:=Int.emod_add_mul_ediv (-a) m
       have h5:a % m=m - (-a) % m:=by
         have h6:=Int.emod_lt_of_pos (-a) hm
         have e:a=(m - (-a) % m) + m * (-(-a / m) - 1):=by
           have e0:m * (-(-a / m) - 1)= -(m * (-a / m)) - m:=by rw [Int.mul_sub,Int.mul_neg,Int.mul_one]
           omega
         conv=>lhs;rw [e]
         rw [Int.add_mul_emod_self_left,Int.emod_eq_of_lt (by omega) (by omega)]
       omega
     · left
       rw [e1,<- h4]
       have:m ∣ -a:=Int.dvd_of_emod_eq_zero h4.symm
       have:m ∣ a:=(Int.dvd_neg).1 this
       rw [Int.emod_eq_zero_of_dvd this];rfl
   · left;exact Int.tmod_eq_emod_of_nonneg h
 have h4:=Int.emod_nonneg a (by omega:m≠0);have h5:=Int.emod_lt_of_pos a hm;rcases h3 with h3 | h3
 ·rw [if_neg (by omega),h3]
 ·rw [if_pos (by omega),wk (by omega)];congr 1;omega
end Go.Proofs.YtiegjkmfpcgjjaaGreatDoor
namespace Go.QF
def Af2 (n:Nat) (m:Int) (A F:Nat->Nat->Int):Prop:=
  (∀ i j,i < n->j < n->Eqm m (F i j) (psum (fun k=>F i (n + k) * A k j) n))/\
  ∃ S:Nat->Nat->Int,∀ i j,i < n->j < n->Eqm m (comb n (S i) F (n + j)) (dl i j)
theorem Aac {n:Nat} {m:Int} {A F F':Nat->Nat->Int} (E:APe n (n + n) m F F') (H:Af2 n m A F):Af2 n m A F':=by
 obtain ⟨h1,S,h2⟩:=H;refine ⟨fun i j hi hj=>?_,fun i=>(E.2 (S i)).choose,fun i j hi hj=>((E.2 (S i)).choose_spec (n + j) (by omega)).symm.trans (h2 i j hi hj)⟩;obtain ⟨y,e,_⟩:=E.1 (AW2 (fun _=>0) i 1);have e':∀ q,q < n + n->Eqm m (F' i q) (comb n y F q):=fun q hq=>by have:=e q hq;rw [Al2 hi] at this;exact this
 refine (e' j (by omega)).trans ?_;have h3:Eqm m (comb n y F j) (psum (fun a=>y a * psum (fun k=>F a (n + k) * A k j) n) n):=Eqm.psum fun a ha=>(Eqm.refl _ _).mul (h1 a j ha hj);refine h3.trans ?_
 have h4:psum (fun a=>y a * psum (fun k=>F a (n + k) * A k j) n) n=psum (fun k=>comb n y F (n + k) * A k j) n:=by
   unfold comb
   rw [ABv (g:=fun a=>psum (fun k=>y a * F a (n + k) * A k j) n) (fun a _=>by rw [<- ADf];exact ABv fun k _=>by rw [Int.mul_assoc]),AN2]
   exact ABv fun k _=>by rw [Int.mul_comm,<- ADf];exact ABv fun a _=>by rw [Int.mul_comm]
 rw [h4];exact Eqm.psum fun k hk=>((e' (n + k) (by omega)).symm).mul (Eqm.refl _ _)
theorem Aik {r c a i:Nat} {q m:Int} {F:Nat->Nat->Int} (ha:a < r) (hi:i < r) (hne:a≠i):APe r c m F (AOi F a i q m):=
  (Abu (e:=m - q) ha hi hne).trans (Ah7 ha hi)
theorem Apx {n:Nat} {m:Int} {A:Nat->Nat->Int}:Af2 n m A (Aa2 n A):=by
 have h0:∀ i k,i < n->k < n->Aa2 n A i (n + k)=dl i k:=by
   intro i k hi hk
   unfold Aa2 dl
   rw [if_neg (by omega)]
   by_cases h:i=k
   · subst h;simp
   · rw [if_neg h,if_neg (by omega)]
 refine ⟨fun i j hi hj=>Eqm.of_eq ?_,dl,fun i j hi hj=>Eqm.of_eq ?_⟩
 ·rw [ABv (g:=fun k=>dl i k * A k j) (fun k hk=>by rw [h0 i k hi hk])];rw [AF1 hi (fun k hk=>by unfold dl;rw [if_neg (fun h=>hk h.symm)];simp)];simp [dl,Aa2,hj]
 ·unfold comb;rw [ABv (g:=fun k=>dl i k * dl k j) (fun k hk=>by rw [h0 k j hk hj])];rw [AF1 hi (fun k hk=>by unfold dl;rw [if_neg (fun h=>hk h.symm)];simp)];simp [dl]
theorem Ail {n c:Nat} {m:Int} {F:Nat->Nat->Int} {k:Nat} (hk:k < n) (hu:∃ y,AK3 m (F k k) y):APe n c m F (Abj m F k):=by
 obtain ⟨y,hy⟩:=hu;have hinv:=AT3 hy;unfold Abj;refine (Afk (g:=F k k) hk ?_).trans (Ah8 hk k (by omega));exact hinv.2.2
theorem Amj {n:Nat} {m:Int} {A F:Nat->Nat->Int} (hm:2<=m) (hbd:Bd n (n + n) m F) (hz:Zc n F n) (hu:∀ c,c < n-> ∃ y,AK3 m (F c c) y) (H:Af2 n m A F):∀ j,j<=n->Af2 n m A (AHw m n F j):=by
 intro j
 induction j with
 | zero=>intro _;exact H
 | succ j ih=>
   intro hj
   refine Aac (Ail (by omega) ?_) (ih (by omega))
   rw [AZg (by omega) hbd (by omega) hz j (by omega) (n - 1 - j) (n - 1 - j) (by omega) (by omega)]
   exact hu _ (by omega)
theorem As8 {n:Nat} {m:Int} {F:Nat->Nat->Int} (hm:2<=m) (hbd:Bd n (n + n) m F) (hz:Zc n F n) (hu:∀ c,c < n-> ∃ y,AK3 m (F c c) y):∀ j,j<=n-> ∀ i c,i < n->n - j<=c->c < n->AHw m n F j i c=dl i c:=by
 intro j
 induction j with
 | zero=>intro _ i c _ h1 h2;omega
 | succ j ih=>
   intro hj i c hi h1 h2
   have hb:=Ac0 (n:=n) (by omega:0 < m) hbd j
   have hcol:=AZg (m:=m) (by omega) hbd (by omega) hz j (by omega)
   obtain ⟨G,hG⟩:∃ G,AHw m n F j=G:=⟨_,rfl⟩
   obtain ⟨k,hk⟩:∃ k,n - 1 - j=k:=⟨_,rfl⟩
   have hkn:k < n:=by omega
   simp only [AHw,Abj]
   rw [hG,hk]
   rw [hG] at ih hb hcol
   have hkk:G k k=F k k:=hcol k k hkn (by omega)
   obtain ⟨y,hy⟩:=hu k hkn
   have hinv:=AT3 hy
   rw [hkk]
   have hrow:∀ q,AMe G k (AY1 m (F k k)) m k q=G k q * AY1 m (F k k) % m:=fun q=>by unfold AMe;rw [AC9]
   have hoth:∀ a,a≠k->AMe G k (AY1 m (F k k)) m a=G a:=fun a ha=>by unfold AMe;rw [AD8 _ _ ha]
   have hone:AMe G k (AY1 m (F k k)) m k k=1:=by rw [hrow,hkk,Int.mul_comm,hinv.2.2,Int.emod_eq_of_lt (by omega) (by omega)]
   have hright:∀ c,k < c->c < n->AMe G k (AY1 m (F k k)) m k c=0:=fun c h3 h4=>by
     rw [hrow,ih (by omega) k c hkn (by omega) h4];unfold dl;rw [if_neg (by omega)];simp
   by_cases hik:i=k
   · subst hik
     rw [AWr]
     by_cases hci:c=i
     · subst hci;rw [hone];simp [dl]
     · rw [hright c (by omega) h2];unfold dl;rw [if_neg (fun h=>hci h.symm)]
   · by_cases hlt:i < k
     · rw [Ah9 hlt hik,hoth i hik]
       by_cases hck:c=k
       · subst hck
         rw [hone,Int.mul_one,show G i c + (m - G i c)=m by omega,Int.emod_self]
         unfold dl;rw [if_neg hik]
       · rw [hright c (by omega) h2,Int.mul_zero,Int.add_zero,ih (by omega) i c hi (by omega) h2]
         unfold dl;rw [if_neg (by omega)];simp
     · have he:AK4 (AMe G k (AY1 m (F k k)) m) k k m k i c=G i c:=by
         unfold AK4;rw [if_neg (by omega),hoth i hik]
       rw [he]
       by_cases hck:c=k
       · subst hck
         rw [hcol i c hi (by omega),hz c i hkn (by omega) hi]
         unfold dl;rw [if_neg hik]
       · exact ih (by omega) i c hi (by omega) h2
theorem Apy {n:Nat} {m:Int} {A F:Nat->Nat->Int} (hm:2<=m) (hbd:Bd n (n + n) m F) (hz:Zc n F n) (hu:∀ c,c < n-> ∃ y,AK3 m (F c c) y) (H:Af2 n m A F):
    (∀ i j,i < n->j < n->Eqm m (psum (fun k=>AHw m n F n i (n + k) * A k j) n) (dl i j))/\(∀ i j,i < n->j < n->Eqm m (psum (fun k=>A i k * AHw m n F n k (n + j)) n) (dl i j)):=by
  obtain ⟨h1,S,h2⟩:=Amj hm hbd hz hu H n (Nat.le_refl _);have hid:=As8 hm hbd hz hu n (Nat.le_refl _);obtain ⟨G,hG⟩:∃ G,AHw m n F n=G:=⟨_,rfl⟩;rw [hG] at h1 h2 hid ⊢
  have hBA:∀ i j,i < n->j < n->Eqm m (psum (fun k=>G i (n + k) * A k j) n) (dl i j):=fun i j hi hj=>by
    have:=h1 i j hi hj;rw [hid i j hi (by omega) hj] at this;exact this.symm
  refine ⟨hBA,fun i j hi hj=>?_⟩
  have hSA:∀ i j,i < n->j < n->Eqm m (S i j) (A i j):=by
    intro i j hi hj
    have e1:S i j=psum (fun k=>S i k * dl k j) n:=by
      rw [AF1 hj (fun k hk=>by unfold dl;rw [if_neg hk];simp)];simp [dl]
    have e2:Eqm m (psum (fun k=>S i k * dl k j) n) (psum (fun k=>S i k * psum (fun l=>G k (n + l) * A l j) n) n):=Eqm.psum fun k hk=>(Eqm.refl _ _).mul (hBA k j hk hj).symm
    have e3:psum (fun k=>S i k * psum (fun l=>G k (n + l) * A l j) n) n=psum (fun l=>comb n (S i) G (n + l) * A l j) n:=by
      unfold comb;rw [ABv (g:=fun k=>psum (fun l=>S i k * G k (n + l) * A l j) n) (fun k _=>by rw [<- ADf];exact ABv fun l _=>by rw [Int.mul_assoc]),AN2];exact ABv fun l _=>by rw [Int.mul_comm,<- ADf];exact ABv fun k _=>by rw [Int.mul_comm]
    have e4:Eqm m (psum (fun l=>comb n (S i) G (n + l) * A l j) n) (psum (fun l=>dl i l * A l j) n):=Eqm.psum fun l hl=>(h2 i l hi hl).mul (Eqm.refl _ _)
    have e5:psum (fun l=>dl i l * A l j) n=A i j:=by
      rw [AF1 hi (fun k hk=>by unfold dl;rw [if_neg (fun h=>hk h.symm)];simp)];simp [dl]
    rw [e1];exact (e2.trans (Eqm.of_eq e3)).trans (e4.trans (Eqm.of_eq e5))
  refine Eqm.trans (Eqm.psum fun k hk=>(hSA i k hi hk).symm.mul (Eqm.refl _ _)) ?_;exact h2 i j hi hj
theorem Apz {n:Nat} {m:Int} {T L:Nat->Nat->Int} (hm:2<=m) (hL:∀ i c,c < i->i < n->L i c=0) (hT:∀ i j,i < n->j < n->Eqm m (psum (fun k=>T i k * L k j) n) (dl i j)):
    ∀ c,c < n->Eqm m (T c c * L c c) 1/\ ∀ i,c < i->i < n->Eqm m (T i c) 0:=by
  intro c;induction c using Nat.strongRecOn with
  | _ c ih=>
    intro hc
    have key:∀ i,c<=i->i < n->Eqm m (T i c * L c c) (dl i c):=by
      intro i h1 h2;refine Eqm.trans ?_ (hT i c h2 hc)
      have e1:Eqm m (psum (fun k=>T i k * L k c) n) (psum (fun k=>if k=c then T i c * L c c else 0) n):=Eqm.psum fun k hk=>by
        by_cases h3:k=c
        · subst h3;rw [if_pos rfl];exact Eqm.refl _ _
        · rw [if_neg h3]
          rcases Nat.lt_or_ge k c with h4 | h4
          · exact (((ih k h4 (by omega)).2 i (by omega) h2).mul (Eqm.refl _ _)).trans (Eqm.of_eq (by simp))
          · rw [hL k c (by omega) hk];exact Eqm.of_eq (by simp)
      refine Eqm.trans (Eqm.of_eq ?_) e1.symm;rw [AF1 hc (fun k hk=>if_neg hk),if_pos rfl]
    have hcc:Eqm m (T c c * L c c) 1:=by have:=key c (Nat.le_refl _) hc;simpa [dl] using this
    refine ⟨hcc,fun i h1 h2=>?_⟩;have h3:=key i (by omega) h2;unfold dl at h3;rw [if_neg (by omega)] at h3;have h4:=h3.mul (Eqm.refl m (T c c));refine Eqm.trans ?_ (h4.trans (Eqm.of_eq (by simp)));refine Eqm.trans (Eqm.of_eq (show T i c=T i c * 1 by omega)) (((Eqm.refl m (T i c)).mul hcc.symm).trans (Eqm.of_eq ?_));grind
theorem Ap0 {n:Nat} {m:Int} {A F V:Nat->Nat->Int} (hm:2<=m) (hz:Zc n F n) (H:Af2 n m A F) (hV:∀ i j,i < n->j < n->Eqm m (psum (fun k=>V i k * A k j) n) (dl i j)):∀ c,c < n-> ∃ y,AK3 m (F c c) y:=by
  obtain ⟨h1,S,h2⟩:=H
  have hT:∀ i j,i < n->j < n->Eqm m (psum (fun k=>psum (fun a=>V i a * S a k) n * F k j) n) (dl i j):=by
    intro i j hi hj;have e1:Eqm m (psum (fun k=>psum (fun a=>V i a * S a k) n * F k j) n) (psum (fun k=>psum (fun a=>V i a * S a k) n * psum (fun l=>F k (n + l) * A l j) n) n):=Eqm.psum fun k hk=>(Eqm.refl _ _).mul (h1 k j hk hj)
    have e2:psum (fun k=>psum (fun a=>V i a * S a k) n * psum (fun l=>F k (n + l) * A l j) n) n=psum (fun a=>V i a * psum (fun l=>comb n (S a) F (n + l) * A l j) n) n:=by
      have s1:∀ k,psum (fun a=>V i a * S a k) n * psum (fun l=>F k (n + l) * A l j) n=psum (fun a=>V i a * (S a k * psum (fun l=>F k (n + l) * A l j) n)) n:=fun k=>by
        rw [Int.mul_comm,<- ADf];exact ABv fun a _=>by rw [Int.mul_comm,Int.mul_assoc]
      rw [ABv (fun k _=>s1 k),AN2];refine ABv fun a _=>?_;rw [ADf];congr 1;unfold comb;rw [ABv (g:=fun k=>psum (fun l=>S a k * F k (n + l) * A l j) n) (fun k _=>by rw [<- ADf];exact ABv fun l _=>by rw [Int.mul_assoc]),AN2];exact ABv fun l _=>by rw [Int.mul_comm,<- ADf];exact ABv fun k _=>by rw [Int.mul_comm]
    have e3:Eqm m (psum (fun a=>V i a * psum (fun l=>comb n (S a) F (n + l) * A l j) n) n) (psum (fun a=>V i a * A a j) n):=Eqm.psum fun a ha=>by
      refine (Eqm.refl _ _).mul ?_;refine (Eqm.psum (g:=fun l=>dl a l * A l j) fun l hl=>(h2 a l ha hl).mul (Eqm.refl _ _)).trans (Eqm.of_eq ?_);rw [AF1 ha (fun k hk=>by unfold dl;rw [if_neg (fun h=>hk h.symm)];simp)];simp [dl]
    exact (e1.trans (Eqm.of_eq e2)).trans (e3.trans (hV i j hi hj))
  intro c hc;have:=(Apz hm (fun i c h3 h4=>hz c i (by omega) h3 h4) hT c hc).1;refine ⟨psum (fun a=>V c a * S a c) n % m,Int.emod_nonneg _ (by omega),Int.emod_lt_of_pos _ (by omega),?_⟩;rw [Int.mul_emod,Int.emod_emod,<- Int.mul_emod];exact this
def AV8 (n:Nat) (F:Nat->Nat->Int) (i j:Nat):Int:=det n (ADj F i (dl j))
def AMh (n:Nat) (F:Nat->Nat->Int) (i j:Nat):Int:=AV8 n F j i
def tau (j c:Nat):Nat:=if c=j then j + 1 else if c=j + 1 then j else c
theorem Aad {n j:Nat} {F:Nat->Nat->Int} (hj:j + 1 < n):det n (fun r c=>F r (tau j c))= -det n F:=by
 rw [<- AMz (fun r c=>F r (tau j c)),<- AMz F,<- AP7 (F:=trF F) (a:=j) (b:=j + 1) (by omega) hj (by omega)];refine ADe fun c r hc hr=>?_;rw [ALb];show F r (tau j c)=if c=j + 1 then F r j else if c=j then F r (j + 1) else F r c;unfold tau;by_cases h1:c=j + 1
 ·subst h1;simp
 ·by_cases h2:c=j
  ·subst h2;simp
  ·simp [h1,h2]
theorem AN6 {f:Nat->Int} {n a:Nat} (ha:a < n) (h:∀ i,i < n->i≠a->f i=0):psum f n=f a:=by
 rw [ABv (g:=fun i=>if i=a then f a else 0) (fun k hk=>?_),AF1 ha (fun i hi=>if_neg hi),if_pos rfl];by_cases e:k=a
 ·subst e;rw [if_pos rfl]
 ·rw [if_neg e,h k hk e]
theorem Ab4 {n:Nat}:∀ {j:Nat} {F:Nat->Nat->Int} {i:Nat},i < n + 1->j < n + 1->AV8 (n + 1) F i j=sg i * sg j * det n (fun a b=>F (skp i a) (skp j b)):=by
 intro j
 induction j with
 | zero=>
   intro F i hi hj
   unfold AV8
   simp only [det]
   rw [AN6 hi (fun r hrn hr=>?_)]
   · rw [ACs,if_pos rfl,AS2]
     have:det n (AE0 i F)=det n (fun a b=>F (skp i a) (skp 0 b)):=ADe fun a b _ _=>by unfold AE0 skp;simp
     rw [this]
     simp [dl,sg]
   · have:det n (AE0 r (ADj F i (dl 0)))=0:=by
       rw [ASl (fun h=>hr h.symm)]
       refine APm (r:=usk r i) (Ao6 (fun h=>hr h.symm) hrn hi) fun q _=>?_
       rw [ACs,if_pos rfl];simp [dl]
     rw [this];simp
 | succ j ih=>
   intro F i hi hj
   have h1:=ih (F:=fun r c=>F r (tau j c)) (i:=i) hi (by omega)
   have h2:AV8 (n + 1) (fun r c=>F r (tau j c)) i j= -AV8 (n + 1) F i (j + 1):=by
     unfold AV8
     rw [<- Aad (F:=ADj F i (dl (j + 1))) (by omega)]
     refine ADe fun r c _ _=>?_
     rw [ACs,ACs]
     split
     · unfold dl tau
       by_cases h1:c=j
       · subst h1;simp
       · by_cases h2:c=j + 1
         · subst h2;simp
         · rw [if_neg (fun h=>h1 h.symm),if_neg h1,if_neg h2,if_neg (fun h=>h2 h.symm)]
     · rfl
   have h3:(fun a b=>F (skp i a) (tau j (skp j b)))=fun a b=>F (skp i a) (skp (j + 1) b):=by
     funext a b
     congr 1
     unfold tau skp
     by_cases h1:b < j
     · rw [if_pos h1,if_neg (by omega),if_neg (by omega),if_pos (by omega)]
     · rw [if_neg h1]
       by_cases h2:b=j
       · subst h2;rw [if_neg (by omega),if_pos rfl,if_pos (by omega)]
       · rw [if_neg (by omega),if_neg (by omega),if_neg (by omega)]
   rw [h2,h3] at h1
   rw [Aj0]
   have:AV8 (n + 1) F i (j + 1)= -(sg i * sg j * det n fun a b=>F (skp i a) (skp (j + 1) b)):=by omega
   rw [this];grind
theorem Awa {n:Nat} {F:Nat->Nat->Int} {i j:Nat} (hi:i < n) (hj:j < n):AV8 n (trF F) i j=AV8 n F j i:=by
 obtain ⟨k,rfl⟩:∃ k,n=k + 1:=⟨n - 1,by omega⟩;rw [Ab4 hi hj,Ab4 hj hi,<- AMz (fun a b=>F (skp j a) (skp i b)),Int.mul_comm (sg i)];rfl
theorem Akd {n:Nat} {F:Nat->Nat->Int} {i j:Nat} (hi:i < n) (hj:j < n):psum (fun k=>F i k * AV8 n F j k) n=if i=j then det n F else 0:=by
 have h:=AZ1 (F:=F) hj (F i) dl n
 have e:det n (ADj F j fun q=>psum (fun k=>F i k * dl k q) n)=det n (ADj F j (F i)):=ADe fun r c _ hc=>by
   rw [ACs,ACs]
   split
   · exact Aib (F:=F) (i:=i) hc
   · rfl
 unfold AV8;rw [<- h,e];split
 ·subst_vars
  refine ADe fun r c _ _=>?_;rw [ACs];split
  ·subst_vars;rfl
  ·rfl
 ·rename_i hij;refine AM8 hi hj hij ?_;funext c;rw [ACs,if_neg hij,ACs,if_pos rfl]
theorem As9 {n:Nat} {F:Nat->Nat->Int} {i j:Nat} (hi:i < n) (hj:j < n):psum (fun k=>AV8 n F k i * F k j) n=if i=j then det n F else 0:=by
 have h:=Akd (F:=trF F) hj hi;rw [AMz] at h;rw [ABv (g:=fun k=>trF F j k * AV8 n (trF F) i k) (fun k hk=>by rw [Awa hi hk,Int.mul_comm];rfl),h];by_cases e:i=j
 ·rw [if_pos e,if_pos e.symm]
 ·rw [if_neg e,if_neg (fun h=>e h.symm)]
theorem Ab5 {n:Nat} {F:Nat->Nat->Int} {i j:Nat} (hi:i < n) (hj:j < n):psum (fun k=>F i k * AMh n F k j) n=det n F * dl i j:=by
 unfold AMh;rw [Akd hi hj];unfold dl;split <;> simp
theorem Ap1 {n:Nat} {F:Nat->Nat->Int} {i j:Nat} (hi:i < n) (hj:j < n):psum (fun k=>AMh n F i k * F k j) n=det n F * dl i j:=by
 unfold AMh;rw [As9 hi hj];unfold dl;split <;> simp
end Go.QF
namespace Go.Proofs.YtiegjkmfpcgjjaaGreatDoor
open Go Go.QF
theorem Af3 {fuel n r c:Nat} {F:Nat->Nat->Int} {f g:Nat->Nat} (hr:r<=100) (hc:c<=100) (hf:100 < fuel) (hfn:∀ a,a < r->f a < n) (hgn:∀ a,a < c->g a < n):AFi fuel (tab n n F) (ADz r fun a=>(f a:Int)) (ADz c fun a=>(g a:Int))=some (tab r c fun a b=>F (f a) (g b)):=by
 apply ok_eq;unfold AFi;refine ABo (ACv (fun i s=>s=(ADz i fun a=>ADz c fun b=>F (f a) (g b),(i:Int))) r (Q:=(· =tab r c fun a b=>F (f a) (g b))) rfl (by omega) fun i s hi hI=>?_) fun y hy=>ABi hy;subst hI;unfold AJh;dsimp only;rw [ADb];refine AB3 (fun h=>?_) (fun h=>ABi ?_)
 ·have hi':i < r:=by omega
  refine AB7 (ACn hi') rfl (ABo (ACv (fun j s=>s=(ADz j fun b=>F (f i) (g b),(j:Int))) c (Q:=(· =ADz c fun b=>F (f i) (g b))) rfl (by omega) fun j s hj hJ=>?_) fun e he=>AEe (by rw [ADb];omega) (ABi ⟨hi',?_⟩))
  ·subst hJ;unfold AJg;dsimp only;rw [ADb,ADb];refine AB3 (fun h2=>?_) (fun h2=>ABi ?_)
   ·have hj':j < c:=by omega
    refine AB7 (ACn hj') rfl (AB7 (ADi (hfn i hi')) rfl (AB7 (ACn (hgn j hj')) rfl (AEe (by omega) (ABi ⟨hj',?_⟩))));rw [wk (by omega),<- AN0];rfl
   ·obtain rfl:j=c:=by omega
    rfl
  ·subst he;rw [wk (by omega),<- AN0];rfl
 ·obtain rfl:i=r:=by omega
  rfl
theorem Ab6 {fuel n:Nat} {F:Nat->Nat->Int} (hn:1<=n) (Ad:n<=16) (hf:100 < fuel):AEt fuel (tab n n F)=some ((n:Int),true):=by
 apply ok_eq;unfold AEt;refine ABo (Q:=(· =((n:Int),(n:Int),true))) ?_ fun e he=>?_
 ·unfold ADl;rw [ADg];refine ABo (Q:=fun ex=>match ex with | .inl _=>False | .inr _=>True) (AB3 (fun h=>by omega) fun h=>AB3 (fun h2=>by omega) fun h2=>ABi trivial) fun ex hex=>?_
  cases ex with
  | inl e=>exact hex.elim
  | inr u=>
    dsimp only
    refine ABo (ACv (fun i (s:Int)=>s=i) n (Q:=fun ex=>match ex with | .inl _=>False | .inr _=>True) rfl (by omega) fun i s hi hI=>?_) fun ex hex=>?_
    · subst hI
      unfold AFy
      rw [ADg]
      refine AB3 (fun h=>AB7 (ADi (by omega)) rfl ?_) fun h=>ABi trivial
      rw [ADb]
      refine AB3 (fun h2=>by omega) fun h2=>AB3 (fun h3=>by omega) fun h3=>AB7 (n:=0) (ADi (by omega)) rfl (AB3 (fun h4=>?_) fun h4=>ABi ⟨by omega,wk (by omega)⟩)
      rw [ADb] at h4;omega
    · cases ex with
      | inl e=>exact hex.elim
      | inr u=>exact AB7 (n:=0) (ADi (by omega)) rfl (ABi (by rw [ADb]))
 ·subst he;dsimp only;exact AB3 (fun h=>by cases h) fun _=>AB3 (fun h=>absurd rfl h) fun _=>ABi rfl
end Go.Proofs.YtiegjkmfpcgjjaaGreatDoor
namespace Go.QF
def AK7 (n:Nat) (A:Nat->Nat->Int):Prop:= ∀ i j,i < n->j < n->A i j=A j i
def AMn (n:Nat) (A:Nat->Nat->Int):Prop:= ∀ k,k<=n->0 < det k A
theorem AO2 {k i r n:Nat} (hk:k<=n) (hi:i < n):bro k i r < n:=by unfold bro;split <;> omega
theorem Aim {n k:Nat} {A:Nat->Nat->Int} (hs:AK7 n A) (hk:k<=n) {i j:Nat} (hi:i < n) (hj:j < n):Mn k A i j=Mn k A j i:=by
 unfold Mn;rw [<- AMz];refine ADe fun r c _ _=>?_;exact hs _ _ (AO2 hk hi) (AO2 hk hj)
theorem Ain {k:Nat} (A:Nat->Nat->Int) {i:Nat} (j:Nat) (hi:i < k):Mn k A i j=0:=by
 unfold Mn;refine AM8 (a:=i) (b:=k) (by omega) (by omega) (by omega) ?_;funext c;unfold bro;simp [hi]
def bil (n k:Nat) (A:Nat->Nat->Int) (x y:Nat->Int):Int:=psum (fun i=>psum (fun j=>Mn k A i j * x i * y j) n) n
def lin (n k:Nat) (A:Nat->Nat->Int) (x:Nat->Int):Int:=psum (fun j=>Mn k A k j * x j) n
theorem Amk (f g:Nat->Int) (n:Nat):psum (fun i=>psum (fun j=>f i * g j) n) n=psum f n * psum g n:=by
 rw [ABv (g:=fun i=>psum g n * f i) (fun i _=>by rw [ADf,Int.mul_comm]),ADf,Int.mul_comm]
theorem Aym {n k:Nat} {A:Nat->Nat->Int} (hs:AK7 n A) (hk:k < n) (h0:det k A≠0) (x y:Nat->Int):det (k + 1) A * bil n k A x y=lin n k A x * lin n k A y + det k A * bil n (k + 1) A x y:=by
 unfold bil;rw [<- ADf,<- ADf];have e1:lin n k A x * lin n k A y=psum (fun i=>psum (fun j=>Mn k A k i * x i * (Mn k A k j * y j)) n) n:=(Amk (fun i=>Mn k A k i * x i) (fun j=>Mn k A k j * y j) n).symm;rw [e1,<- AG2];refine ABv fun i hi=>?_;rw [<- ADf,<- ADf,<- AG2];refine ABv fun j hj=>?_;have h:=AYf (k:=k) (A:=A) h0 i j;rw [AL2,Aim hs (by omega) hi hk] at h;have h2:det (k + 1) A * Mn k A i j=Mn k A k i * Mn k A k j + det k A * Mn (k + 1) A i j:=by omega
 grind
theorem Ata (n:Nat) (A:Nat->Nat->Int) (x y:Nat->Int):bil n n A x y=0:=by
 unfold bil;rw [ABv (g:=fun _=>0) fun i hi=>?_]
 ·exact AKd n
 ·rw [ABv (g:=fun _=>0) fun j _=>by rw [Ain A j hi];simp];exact AKd n
theorem AQa {n:Nat} {A:Nat->Nat->Int} (hs:AK7 n A) (hp:AMn n A) (x:Nat->Int):∀ d k,k + d=n->0<=bil n k A x x:=by
 intro d
 induction d with
 | zero=>
     intro k hk;obtain rfl:k=n:=by omega
     rw [Ata];exact Int.le_refl _
 | succ d ih=>
   intro k hk
   have h1:=ih (k + 1) (by omega)
   have h2:=hp k (by omega)
   have h3:=hp (k + 1) (by omega)
   have h4:=Aym hs (show k < n by omega) (by omega) x x
   have h5:0<=lin n k A x * lin n k A x:=by
     rcases Int.le_total 0 (lin n k A x) with h | h
     · exact Int.mul_nonneg h h
     · exact Int.mul_nonneg_of_nonpos_of_nonpos h h
   have h6:=Int.mul_nonneg (Int.le_of_lt h2) h1
   exact Int.nonneg_of_mul_nonneg_right (by omega) h3
theorem Ady {n k:Nat} {A:Nat->Nat->Int} (a b:Int) (x y z:Nat->Int):bil n k A (fun i=>a * x i + b * y i) z=a * bil n k A x z + b * bil n k A y z:=by
 unfold bil;rw [<- ADf,<- ADf,<- AG2];refine ABv fun i _=>?_;rw [<- ADf,<- ADf,<- AG2];exact ABv fun j _=>by grind
theorem Adz {n k:Nat} {A:Nat->Nat->Int} (hs:AK7 n A) (hk:k<=n) (x y:Nat->Int):bil n k A x y=bil n k A y x:=by
 unfold bil;rw [AN2];refine ABv fun j hj=>ABv fun i hi=>?_;rw [Aim hs hk hi hj];grind
theorem Ap2 {n k:Nat} {A:Nat->Nat->Int} (hs:AK7 n A) (hp:AMn n A) (hk:k<=n) (x y:Nat->Int):bil n k A x y * bil n k A x y<=bil n k A x x * bil n k A y y:=by
  obtain ⟨p,hpq⟩:∃ p,bil n k A x y=p:=⟨_,rfl⟩;obtain ⟨q,hq⟩:∃ q,bil n k A x x=q:=⟨_,rfl⟩;obtain ⟨r,hr⟩:∃ r,bil n k A y y=r:=⟨_,rfl⟩;have hyx:bil n k A y x=p:=by rw [Adz hs hk];exact hpq
  have key:∀ a b:Int,0<=a * (a * q + b * p) + b * (a * p + b * r):=fun a b=>by
    have h:=AQa hs hp (fun i=>a * x i + b * y i) (n - k) k (by omega);rw [Ady,Adz hs hk x (fun i=>a * x i + b * y i),Ady,Adz hs hk y (fun i=>a * x i + b * y i),Ady,hpq,hq,hr,hyx] at h;exact h
  rw [hpq,hq,hr];have hq0:0<=q:=hq ▸ AQa hs hp x (n - k) k (by omega)
  rcases Int.lt_or_eq_of_le hq0 with h | h
  · have h1:=key p (-q);have e:p * (p * q + -q * p) + -q * (p * p + -q * r)=q * (q * r - p * p):=by grind
    rw [e] at h1;have:=Int.nonneg_of_mul_nonneg_right h1 h;omega
  · subst h;have h1:=key (-(r + 1)) p;have h2:=key 1 0;have e: -(r + 1) * (-(r + 1) * 0 + p * p) + p * (-(r + 1) * p + p * r)= -((r + 2) * (p * p)):=by grind
    rw [e] at h1;have hr0:0<=r:=hr ▸ AQa hs hp y (n - k) k (by omega)
    have hpp:0<=p * p:=by
      rcases Int.le_total 0 p with h | h
      · exact Int.mul_nonneg h h
      · exact Int.mul_nonneg_of_nonpos_of_nonpos h h
    have:0<=r * (p * p):=Int.mul_nonneg hr0 hpp;have e2:(r + 2) * (p * p)=r * (p * p) + 2 * (p * p):=by grind
    rw [Int.zero_mul];omega
theorem AV9 {n k:Nat} {A:Nat->Nat->Int} {i j:Nat} (hi:i < n) (hj:j < n):bil n k A (dl i) (dl j)=Mn k A i j:=by
 unfold bil;rw [AN6 hi (fun a ha hne=>?_),AN6 hj (fun b hb hne=>?_)]
 ·simp [dl]
 ·unfold dl;rw [if_neg (fun h:j=b=>hne h.symm)];simp
 ·rw [ABv (g:=fun _=>0) fun b _=>by unfold dl;rw [if_neg (fun h:i=a=>hne h.symm)];simp];exact AKd n
theorem Ab7 {n k:Nat} {A:Nat->Nat->Int} (hs:AK7 n A) (hp:AMn n A) (hk:k<=n) {i j:Nat} (hi:i < n) (hj:j < n):Mn k A i j * Mn k A i j<=Mn k A i i * Mn k A j j:=by
 have:=Ap2 hs hp hk (dl i) (dl j);rwa [AV9 hi hj,AV9 hi hi,AV9 hj hj] at this
theorem Ab8 {n k:Nat} {A:Nat->Nat->Int} (hs:AK7 n A) (hp:AMn n A) (hk:k<=n) {i:Nat} (hi:i < n):0<=Mn k A i i:=by
 have:=AQa hs hp (dl i) (n - k) k (by omega);rwa [AV9 hi hi] at this
theorem Ad0 {n k:Nat} {A:Nat->Nat->Int} (hs:AK7 n A) (hp:AMn n A) (hk:k < n) {i:Nat} (hi:i < n):det (k + 1) A * Mn k A i i=Mn k A i k * Mn k A i k + det k A * Mn (k + 1) A i i:=by
 have h:=AYf (k:=k) (A:=A) (by have:=hp k (by omega);omega) i i;rw [AL2,<- Aim hs (by omega) hi hk] at h;omega
theorem Aux {n:Nat} {A:Nat->Nat->Int} (hs:AK7 n A) (hp:AMn n A) {i:Nat} (hi:i < n):∀ k,k<=n->Mn k A i i<=det k A * A i i:=by
 intro k
 induction k with
 | zero=>intro _;rw [AOe];simp [det]
 | succ k ih=>
   intro hk
   have h1:=ih (by omega)
   have h2:=Ad0 hs hp (show k < n by omega) hi
   have h3:0<=Mn k A i k * Mn k A i k:=by
     rcases Int.le_total 0 (Mn k A i k) with h | h
     · exact Int.mul_nonneg h h
     · exact Int.mul_nonneg_of_nonpos_of_nonpos h h
   have h4:=hp k (by omega)
   have h5:=hp (k + 1) (by omega)
   have h6:det (k + 1) A * Mn k A i i<=det (k + 1) A * (det k A * A i i):=Int.mul_le_mul_of_nonneg_left h1 (by omega)
   have h7:det k A * Mn (k + 1) A i i<=det k A * (det (k + 1) A * A i i):=by
     have e:det (k + 1) A * (det k A * A i i)=det k A * (det (k + 1) A * A i i):=by grind
     omega
   exact Int.le_of_mul_le_mul_left h7 h4
theorem Ap3 {n:Nat} {A:Nat->Nat->Int} (hs:AK7 n A) (hp:AMn n A) {B:Int} (hB:1<=B) (hA:∀ i,i < n->A i i<=B):∀ k,k<=n->det k A<=B ^ k:=by
  intro k;induction k with
  | zero=>intro _;simp [det]
  | succ k ih=>
    intro hk;have h1:=ih (by omega);have h2:=Aux hs hp (show k < n by omega) k (by omega);rw [AL2] at h2;have h3:=hp k (by omega);have h4:det k A * A k k<=det k A * B:=Int.mul_le_mul_of_nonneg_left (hA k (by omega)) (by omega);have h5:det k A * B<=B ^ k * B:=Int.mul_le_mul_of_nonneg_right h1 (by omega);rw [Int.pow_succ];omega
theorem Atb {n:Nat} {A:Nat->Nat->Int} (hs:AK7 n A) (hp:AMn n A) (x:Nat->Int) {k:Nat} (hk:k < n):x k * x k<=AMh n A k k * bil n 0 A x x:=by
  have hd:=hp n (Nat.le_refl _)
  have hB:∀ y z:Nat->Int,bil n 0 A y z=psum (fun i=>y i * psum (fun j=>A i j * z j) n) n:=fun y z=>by
    unfold bil;refine ABv fun i _=>?_;rw [<- ADf];exact ABv fun j _=>by rw [AOe];grind
  have h1:∀ y:Nat->Int,bil n 0 A y (fun j=>AMh n A j k)=det n A * y k:=fun y=>by
    rw [hB,ABv (g:=fun i=>y i * (det n A * dl i k)) (fun i hi=>by rw [Ab5 hi hk])];rw [AN6 hk (fun i _ hne=>by unfold dl;rw [if_neg hne];simp)];simp [dl,Int.mul_comm]
  have h2:=Ap2 hs hp (Nat.zero_le n) x (fun j=>AMh n A j k);rw [h1 x,h1 (fun j=>AMh n A j k)] at h2;have e1:det n A * x k * (det n A * x k)=det n A * (det n A * (x k * x k)):=by grind
  have e2:bil n 0 A x x * (det n A * AMh n A k k)=det n A * (AMh n A k k * bil n 0 A x x):=by grind
  rw [e1,e2] at h2;have h3:=Int.le_of_mul_le_mul_left h2 hd
  have h4:0<=x k * x k:=by
    rcases Int.le_total 0 (x k) with h | h
    · exact Int.mul_nonneg h h
    · exact Int.mul_nonneg_of_nonpos_of_nonpos h h
  have h5:1 * (x k * x k)<=det n A * (x k * x k):=Int.mul_le_mul_of_nonneg_right (by omega) h4;omega
def AXa (A:Nat->Nat->Int) (i j:Nat) (c:Int):Nat->Nat->Int:=ADj A i fun s=>A i s + c * A j s
def Ap4 (A:Nat->Nat->Int) (i j:Nat) (c:Int):Nat->Nat->Int:=trF (AXa (trF A) i j c)
def AWa (A:Nat->Nat->Int) (i j:Nat) (c:Int):Nat->Nat->Int:=Ap4 (AXa A i j c) i j c
def swA (A:Nat->Nat->Int) (j:Nat):Nat->Nat->Int:=fun r s=>A (tau j r) (tau j s)
theorem Ap6 (l:Nat) (A:Nat->Nat->Int) (r s:Nat):Mn l (trF A) s r=Mn l A r s:=by
 unfold Mn;rw [<- AMz];rfl
theorem Af4 {A:Nat->Nat->Int} {i j k:Nat} {c:Int} (hij:j < i):det k (AXa A i j c)=det k A:=by
 rcases Nat.lt_or_ge i k with h | h
 ·exact AIu h (by omega) (by omega) c
 ·refine ADe fun r s hr _=>?_;unfold AXa;rw [ACs,if_neg (by omega)]
theorem Ap7 {A:Nat->Nat->Int} {i j k:Nat} {c:Int} (hij:j < i):det k (Ap4 A i j c)=det k A:=by
 unfold Ap4;rw [AMz,Af4 hij,AMz]
theorem AOf {A:Nat->Nat->Int} {i j k:Nat} {c:Int} (hij:j < i):det k (AWa A i j c)=det k A:=by
 unfold AWa;rw [Ap7 hij,Af4 hij]
theorem Ad1 {A:Nat->Nat->Int} {i j l r s:Nat} {c:Int} (hij:j < i) (hr:l<=r):Mn l (AXa A i j c) r s=Mn l A r s + if l<=i/\r=i then c * Mn l A j s else 0:=by
 rcases Nat.lt_or_ge i l with h | h
 ·rw [if_neg (by omega),Int.add_zero];unfold Mn;have e:=AIu (n:=l + 1) (F:=fun a b=>A (bro l r a) (bro l s b)) (a:=i) (b:=j) (by omega) (by omega) (by omega) c;rw [<- e];refine ADe fun a b ha _=>?_;rw [ACs];unfold AXa;rw [ACs];have hbi:bro l r i=i:=by unfold bro;rw [if_pos h]
  have hbj:bro l r j=j:=by unfold bro;rw [if_pos (by omega)]
  by_cases ea:a=i
  ·subst ea;rw [hbi,if_pos rfl,if_pos rfl,hbj]
  ·rw [if_neg ea,if_neg];unfold bro;split <;> omega
 ·by_cases er:r=i
  ·subst er;rw [if_pos ⟨h,rfl⟩];unfold Mn;have e:=ASm (n:=l + 1) (F:=fun a b=>A (bro l r a) (bro l s b)) (r:=l) (fun b=>A r (bro l s b)) (fun b=>A j (bro l s b)) 1 c (by omega)
   have e1:det (l + 1) (fun a b=>AXa A r j c (bro l r a) (bro l s b))=det (l + 1) (ADj (fun a b=>A (bro l r a) (bro l s b)) l fun q=>1 * A r (bro l s q) + c * A j (bro l s q)):=by
     refine ADe fun a b ha _=>?_
     rw [ACs]
     unfold AXa
     rw [ACs]
     by_cases ea:a=l
     · subst ea
       rw [show bro a r a=r by unfold bro;rw [if_neg (by omega)],if_pos rfl,if_pos rfl,Int.one_mul]
     · rw [if_neg ea,if_neg]
       unfold bro;rw [if_pos (by omega)];omega
   have e2:det (l + 1) (ADj (fun a b=>A (bro l r a) (bro l s b)) l fun b=>A r (bro l s b))=det (l + 1) (fun a b=>A (bro l r a) (bro l s b)):=by
     refine ADe fun a b ha _=>?_
     rw [ACs]
     by_cases ea:a=l
     · subst ea;rw [if_pos rfl,show bro a r a=r by unfold bro;rw [if_neg (by omega)]]
     · rw [if_neg ea]
   have e3:det (l + 1) (ADj (fun a b=>A (bro l r a) (bro l s b)) l fun b=>A j (bro l s b))=det (l + 1) (fun a b=>A (bro l j a) (bro l s b)):=by
     refine ADe fun a b ha _=>?_
     rw [ACs]
     by_cases ea:a=l
     · subst ea;rw [if_pos rfl,show bro a j a=j by unfold bro;rw [if_neg (by omega)]]
     · rw [if_neg ea,show bro l r a=a by unfold bro;rw [if_pos (by omega)],show bro l j a=a by unfold bro;rw [if_pos (by omega)]]
   rw [e1,e,e2,e3,Int.one_mul]
  ·rw [if_neg (fun h=>er h.2),Int.add_zero];unfold Mn;refine ADe fun a b ha _=>?_;unfold AXa;rw [ACs,if_neg];unfold bro;split <;> omega
theorem Atc {A:Nat->Nat->Int} {i j l r s:Nat} {c:Int} (hij:j < i) (hs:l<=s):Mn l (Ap4 A i j c) r s=Mn l A r s + if l<=i/\s=i then c * Mn l A r j else 0:=by
 unfold Ap4;rw [Ap6,Ad1 hij hs,Ap6,Ap6]
theorem Ap8 {A:Nat->Nat->Int} {i j l r s:Nat} {c:Int} (hij:j < i) (hr:l<=r) (hs:l<=s):Mn l (AWa A i j c) r s=Mn l A r s + (if l<=i/\r=i then c * Mn l A j s else 0) + if l<=i/\s=i then c * (Mn l A r j + if l<=i/\r=i then c * Mn l A j j else 0) else 0:=by
  unfold AWa;rw [Atc hij hs,Ad1 hij hr,Ad1 hij hr]
theorem AYl (A:Nat->Nat->Int) (i j:Nat) (c:Int) (r s:Nat):AWa A i j c r s=if s=i then (if r=i then A i i + c * A j i else A r i) + c * (if r=i then A i j + c * A j j else A r j) else if r=i then A i s + c * A j s else A r s:=by
 show ADj (trF (AXa A i j c)) i (fun q=>trF (AXa A i j c) i q + c * trF (AXa A i j c) j q) s r=_;rw [ACs];unfold trF AXa;by_cases h:s=i
 ·rw [if_pos h,if_pos h,ACs,ACs]
 ·rw [if_neg h,if_neg h,ACs]
theorem Atd {n:Nat} {A:Nat->Nat->Int} {i j:Nat} {c:Int} (hi:i < n) (hj:j < n) (h:AK7 n A):AK7 n (AWa A i j c):=by
 intro r s hr hs;rw [AYl,AYl];by_cases h1:r=i
 ·by_cases h2:s=i
  ·rw [h1,h2]
  ·rw [if_neg h2,if_pos h1,if_pos h1,if_neg h2,if_neg h2,h i s hi hs,h j s hj hs]
 ·by_cases h2:s=i
  ·rw [if_pos h2,if_neg h1,if_neg h1,if_neg h1,if_pos h2,h r i hr hi,h r j hr hj]
  ·rw [if_neg h2,if_neg h1,if_neg h1,if_neg h2,h r s hr hs]
theorem Ake {A:Nat->Nat->Int} {j k:Nat} (hk:k≠j + 1):det k (swA A j)=det k A:=by
 rcases Nat.lt_or_ge (j + 1) k with h | h
 ·have e1:det k (swA A j)= -det k (fun r s=>A (tau j r) s):=Aad (F:=fun r s=>A (tau j r) s) h
  have e2:det k (fun r s=>A (tau j r) s)= -det k A:=by
    rw [<- AMz (fun r s=>A (tau j r) s),<- AMz A]
    exact Aad (F:=trF A) h
  rw [e1,e2];omega
 ·refine ADe fun r s hr hs=>?_;unfold swA tau;rw [if_neg (by omega),if_neg (by omega),if_neg (by omega),if_neg (by omega)]
theorem Af5 {A:Nat->Nat->Int} {j:Nat}:det (j + 1) (swA A j)=Mn j A (j + 1) (j + 1):=by
 unfold Mn;refine ADe fun r s hr hs=>?_
 have e:∀ r,r < j + 1->tau j r=bro j (j + 1) r:=fun r hr=>by
   unfold tau bro
   by_cases h:r < j
   · rw [if_neg (by omega),if_neg (by omega),if_pos h]
   · rw [if_pos (by omega),if_neg h]
 unfold swA;rw [e r hr,e s hs]
theorem Awc {n j:Nat} {A:Nat->Nat->Int} (hj:j + 1 < n) (h:AK7 n A):AK7 n (swA A j):=fun r s hr hs=>by
  have e:∀ r,r < n->tau j r < n:=fun r hr=>by unfold tau;split <;> (try split) <;> omega
  exact h _ _ (e r hr) (e s hs)
theorem sq_nonneg (x:Int):0<=x * x:=by
 rcases Int.le_total 0 x with h | h
 ·exact Int.mul_nonneg h h
 ·exact Int.mul_nonneg_of_nonpos_of_nonpos h h
theorem Akf {x y:Int} (hy:0<=y) (h:x * x<=y * y): -y<=x/\x<=y:=by
 constructor
 ·rcases Int.lt_or_le x (-y) with h1 | h1
  ·have h2:0 < (-x - y) * (-x + y):=Int.mul_pos (by omega) (by omega);have e:(-x - y) * (-x + y)=x * x - y * y:=by grind
   omega
  ·exact h1
 ·rcases Int.lt_or_le y x with h1 | h1
  ·have h2:0 < (x - y) * (x + y):=Int.mul_pos (by omega) (by omega);have e:(x - y) * (x + y)=x * x - y * y:=by grind
   omega
  ·exact h1
theorem ATv {x y:Int} (h1: -y<=x) (h2:x<=y):x * x<=y * y:=by
 have h3:0<=(y - x) * (y + x):=Int.mul_nonneg (by omega) (by omega);have e:(y - x) * (y + x)=y * y - x * x:=by grind
 omega
def SzF (A:Nat->Nat->Int) (i j:Nat):Prop:= -(det (j + 1) A)<=2 * Mn j A i j/\2 * Mn j A i j<=det (j + 1) A
def LvF (A:Nat->Nat->Int) (j:Nat):Prop:=3 * (det (j + 1) A * det (j + 1) A)<=4 * (det j A * det (j + 2) A + Mn j A (j + 1) j * Mn j A (j + 1) j)
def Aio (A:Nat->Nat->Int) (i:Nat) (K:Int):Prop:= ∀ l,l < i-> -(K * det (l + 1) A)<=Mn l A i l/\Mn l A i l<=K * det (l + 1) A
theorem Ab9 {n i:Nat} {A:Nat->Nat->Int} {Dm p q:Int} (hs:AK7 n A) (hp:AMn n A) (hi:i < n) (hD:∀ k,k<=n->det k A<=Dm) (p0:0<=p) (q0:0<=q) (hl:∀ l,l < i->q * (Mn l A i l * Mn l A i l)<=p * (det (l + 1) A * det (l + 1) A)):∀ d l:Nat,l + d=i->q * Mn l A i i<=(q + d * p) * (Dm * det l A):=by
  have hD0:1<=Dm:=by
    have:=hD 0 (by omega);simpa [det] using this
  have hDl:∀ l k,l<=n->k<=n->det k A<=Dm * det l A:=fun l k h1 h2=>by
    have:=hp l h1;have h3:=hD k h2;have h4:Dm * 1<=Dm * det l A:=Int.mul_le_mul_of_nonneg_left (by omega) (by omega);omega
  intro d;induction d with
  | zero=>
    intro l h;obtain rfl:l=i:=by omega
    rw [AL2];have h1:=Int.mul_le_mul_of_nonneg_left (hDl l (l + 1) (by omega) (by omega)) q0;simpa using h1
  | succ d ih=>
    intro l h;have h1:=ih (l + 1) (by omega);have h2:=Ad0 hs hp (show l < n by omega) hi;have h3:=hl l (by omega);have h4:=hp l (by omega);have h5:=hp (l + 1) (by omega);have h6:=Int.mul_le_mul_of_nonneg_left h1 (Int.le_of_lt h4)
    have h7:det (l + 1) A * (q * Mn l A i i)=q * (Mn l A i l * Mn l A i l) + det l A * (q * Mn (l + 1) A i i):=by
      have e1:det (l + 1) A * (q * Mn l A i i)=q * (det (l + 1) A * Mn l A i i):=by grind
      rw [e1,h2];grind
    have h8:=Int.mul_le_mul_of_nonneg_left (hDl l (l + 1) (by omega) (by omega)) p0;have h9:=Int.mul_le_mul_of_nonneg_left h8 (Int.le_of_lt h5);have e2:det (l + 1) A * (p * det (l + 1) A)=p * (det (l + 1) A * det (l + 1) A):=by grind
    have h10:det (l + 1) A * (q * Mn l A i i)<=det (l + 1) A * ((q + ((d + 1:Nat):Int) * p) * (Dm * det l A)):=by
      have e3:det (l + 1) A * ((q + ((d + 1:Nat):Int) * p) * (Dm * det l A))=det (l + 1) A * (p * (Dm * det l A)) + det l A * ((q + (d:Int) * p) * (Dm * det (l + 1) A)):=by
        rw [Int.natCast_add,Int.natCast_one];grind
      rw [e3];omega
    exact Int.le_of_mul_le_mul_left h10 h5
theorem Af7 {n i:Nat} {A:Nat->Nat->Int} {Dm:Int} (hn:n<=8) (hs:AK7 n A) (hp:AMn n A) (hi:i < n) (hD:∀ k,k<=n->det k A<=Dm) (hz:∀ l,l < i->SzF A i l):A i i<=3 * Dm:=by
 have h:=Ab9 hs hp hi hD (p:=1) (q:=4) (by omega) (by omega) (fun l hl=>by
   have:=ATv (hz l hl).1 (hz l hl).2
   have e:2 * Mn l A i l * (2 * Mn l A i l)=4 * (Mn l A i l * Mn l A i l):=by grind
   omega) i 0 (by omega)
 rw [AOe] at h
 have Aa:1<=Dm:=by
   have:=hD 0 (by omega);simpa [det] using this
 have h2:(4 + (i:Int) * 1) * (Dm * det 0 A)<=12 * Dm:=by
   have:(4 + (i:Int) * 1) * Dm<=12 * Dm:=Int.mul_le_mul_of_nonneg_right (by omega) (by omega)
   simpa [det] using this
 omega
theorem Aml {n i:Nat} {A:Nat->Nat->Int} {Dm:Int} (hs:AK7 n A) (hp:AMn n A) (hi:i < n) (hD:∀ k,k<=n->det k A<=Dm) (hA:A i i<=3 * Dm):Aio A i (2 * Dm):=by
 intro l hl
 have Ad:1<=Dm:=by
   have:=hD 0 (by omega);simpa [det] using this
 have h1:=Ab7 hs hp (show l<=n by omega) hi (show l < n by omega);rw [AL2] at h1;have h2:=Aux hs hp hi l (by omega);have h3:=hp l (by omega);have h4:=hp (l + 1) (by omega)
 have h5:det l A * A i i<=Dm * (3 * Dm):=by
   have a1:=Int.mul_le_mul_of_nonneg_left hA (Int.le_of_lt h3)
   have a2:=Int.mul_le_mul_of_nonneg_right (hD l (by omega)) (show (0:Int)<=3 * Dm by omega)
   omega
 have h6:Mn l A i i * det (l + 1) A<=Dm * (3 * Dm) * det (l + 1) A:=Int.mul_le_mul_of_nonneg_right (by omega) (by omega);have h7:Dm * (3 * Dm) * (det (l + 1) A * 1)<=Dm * (3 * Dm) * (det (l + 1) A * det (l + 1) A):=Int.mul_le_mul_of_nonneg_left (Int.mul_le_mul_of_nonneg_left (by omega) (by omega)) (Int.mul_nonneg (by omega) (by omega));have h8:0<=Dm * Dm * (det (l + 1) A * det (l + 1) A):=Int.mul_nonneg (sq_nonneg _) (sq_nonneg _);have h9:2 * Dm * det (l + 1) A * (2 * Dm * det (l + 1) A)=Dm * (3 * Dm) * (det (l + 1) A * det (l + 1) A) + Dm * Dm * (det (l + 1) A * det (l + 1) A):=by grind
 rw [Int.mul_one] at h7;exact Akf (Int.mul_nonneg (by omega) (by omega)) (by omega)
theorem Af8 {A:Nat->Nat->Int} {i:Nat} {K K':Int} (hp:∀ l,l<=i->0 < det l A) (hK:K<=K') (h:Aio A i K):Aio A i K':=fun l hl=>by
  have h1:=h l hl
  have h2:=hp (l + 1) (by omega)
  have h3:=Int.mul_le_mul_of_nonneg_right hK (Int.le_of_lt h2)
  omega
theorem Af9 {a d:Int} (hd:0 < d): -d<=2 * (a + -((2 * a + d) / (2 * d)) * d)/\2 * (a + -((2 * a + d) / (2 * d)) * d)<=d:=by
  have h1:=Int.mul_ediv_add_emod (2 * a + d) (2 * d);have h2:=Int.emod_nonneg (2 * a + d) (show 2 * d≠0 by omega);have h3:=Int.emod_lt_of_pos (2 * a + d) (show 0 < 2 * d by omega);generalize (2 * a + d) / (2 * d)=q at *
  generalize (2 * a + d) % (2 * d)=r at *
  have e:2 * (a + -q * d)=2 * a - 2 * d * q:=by grind
  omega
theorem Ate {a d K:Int} (hd:0 < d) (h1: -(K * d)<=a) (h2:a<=K * d): -K<= -((2 * a + d) / (2 * d))/\ -((2 * a + d) / (2 * d))<=K:=by
 have h:=Af9 (a:=a) hd;generalize -((2 * a + d) / (2 * d))=c at *;constructor
 ·rcases Int.lt_or_le c (-K) with h3 | h3
  ·have h4:(c + K + 1) * d<=0:=by
     have:=Int.mul_nonneg (show 0<= -(c + K + 1) by omega) (Int.le_of_lt hd)
     have e: -(c + K + 1) * d= -((c + K + 1) * d):=by grind
     omega
   have e:(c + K + 1) * d=c * d + K * d + d:=by grind
   omega
  ·exact h3
 ·rcases Int.lt_or_le K c with h3 | h3
  ·have h4:=Int.mul_nonneg (show 0<=c - K - 1 by omega) (Int.le_of_lt hd);have e:(c - K - 1) * d=c * d - K * d - d:=by grind
   omega
  ·exact h3
theorem Akg {A:Nat->Nat->Int} {i j l:Nat} {c:Int} (hij:j < i) (hl:l < i):Mn l (AWa A i j c) i l=Mn l A i l + c * Mn l A j l:=by
 rw [Ap8 hij (by omega) (Nat.le_refl _),if_pos ⟨by omega,rfl⟩,if_neg (fun h:l<=i/\l=i=>by omega)];omega
theorem Aca {A:Nat->Nat->Int} {i j l r:Nat} {c:Int} (hij:j < i) (hr:r < i) (hl:l<=r):Mn l (AWa A i j c) r l=Mn l A r l:=by
 rw [Ap8 hij hl (Nat.le_refl _),if_neg (fun h:l<=i/\r=i=>by omega),if_neg (fun h:l<=i/\l=i=>by omega)];omega
theorem Ap9 {A:Nat->Nat->Int} {i j:Nat} {K c:Int} (hij:j < i) (hp:∀ l,l<=i->0 < det l A) (hK:0<=K) (h:Aio A i K) (hz:∀ l,l < j->SzF A j l) (Ab: -K<=c) (Ac:c<=K):Aio (AWa A i j c) i (2 * K):=by
 intro l hl;rw [AOf hij,Akg hij hl];have h1:=h l hl;have h2:=hp (l + 1) (by omega)
 have hm: -(det (l + 1) A)<=Mn l A j l/\Mn l A j l<=det (l + 1) A:=by
   rcases Nat.lt_trichotomy l j with h3 | h3 | h3
   · have:=hz l h3;unfold SzF at this;omega
   · subst h3;rw [AL2];omega
   · rw [Ain A l h3];omega
 have h3: -(K * det (l + 1) A)<=c * Mn l A j l/\c * Mn l A j l<=K * det (l + 1) A:=by
   refine Akf (Int.mul_nonneg hK (Int.le_of_lt h2)) ?_
   have a1:=ATv Ab Ac
   have a2:=ATv hm.1 hm.2
   have a3:c * c * (Mn l A j l * Mn l A j l)<=K * K * (det (l + 1) A * det (l + 1) A):=Int.mul_le_mul a1 a2 (sq_nonneg _) (sq_nonneg _)
   have e1:c * Mn l A j l * (c * Mn l A j l)=c * c * (Mn l A j l * Mn l A j l):=by grind
   have e2:K * det (l + 1) A * (K * det (l + 1) A)=K * K * (det (l + 1) A * det (l + 1) A):=by grind
   omega
 have e:2 * K * det (l + 1) A=K * det (l + 1) A + K * det (l + 1) A:=by grind
 omega
theorem Aqa {A:Nat->Nat->Int} {i j k:Nat} {c:Int} (hk:k≠i):AWa A i j c k k=A k k:=by
 rw [AYl,if_neg hk,if_neg hk]
structure Ad2 (n:Nat) (Dm:Int) (A:Nat->Nat->Int) (i t:Nat):Prop where
  sym:AK7 n A
  pos:AMn n A
  dm:∀ k,k<=n->det k A<=Dm
  hi:i < n
  ht:t<=i
  rows:∀ k,k < n->k≠i->A k k<=3 * Dm
  row:t=0->A i i<=3 * Dm
  lamb:Aio A i (2 ^ t * (2 * Dm))
  pre:∀ r l,l < r->r < i->SzF A r l
  prei:∀ l,l < i->i<=l + t->SzF A i l
  lov:∀ r,r + 1 < i->LvF A r
theorem Aae {n:Nat} {Dm:Int} {A:Nat->Nat->Int} (hn:0 < n) (hs:AK7 n A) (hp:AMn n A) (hD:∀ k,k<=n->det k A<=Dm) (hr:∀ k,k < n->A k k<=3 * Dm):Ad2 n Dm A 0 0:=
  ⟨hs,hp,hD,hn,Nat.le_refl _,fun k hk _=>hr k hk,fun _=>hr 0 hn,fun l hl=>by omega,fun r l h1 h2=>by omega,fun l hl=>by omega,fun r hr=>by omega⟩
theorem Aqb {n i t:Nat} {Dm:Int} {A:Nat->Nat->Int} (h:Ad2 n Dm A i t):1<=Dm:=by
 have:=h.dm 0 (by omega);simpa [det] using this
theorem AUi {n i t:Nat} {Dm:Int} {A:Nat->Nat->Int} (hn:n<=8) (h:Ad2 n Dm A i t) (hz:∀ l,l < i->SzF A i l):∀ k,k < n->A k k<=3 * Dm:=fun k hk=>by
  by_cases e:k=i
  · subst e;exact Af7 hn h.sym h.pos h.hi h.dm hz
  · exact h.rows k hk e
theorem AWb (t:Nat):(0:Int) < 2 ^ t:=Int.pow_pos (by omega)
theorem AYm {s t:Nat} (h:s<=t):(2:Int) ^ s<=2 ^ t:=by
 have:=Nat.pow_le_pow_right (show 0 < 2 by omega) h;have e:∀ k:Nat,(2:Int) ^ k=((2 ^ k:Nat):Int):=fun k=>by simp
 rw [e,e];omega
theorem Amm {n i t i' j:Nat} {Dm:Int} {A:Nat->Nat->Int} (hn:n<=8) (h:Ad2 n Dm A i t) (hi':i' < n) (hj:j < i') (hbad: ¬ SzF A i' j)
    (hz:∀ r l,l < r->r < i'->SzF A r l) (hzi:∀ l,l < i'->j < l->SzF A i' l) (hl:∀ r,r + 1 < i'->LvF A r):
    Ad2 n Dm (AWa A i' j (-((2 * Mn j A i' j + det (j + 1) A) / (2 * det (j + 1) A)))) i' (i' - j)/\i * 16 + t < i' * 16 + (i' - j):=by
  have hD1:=Aqb h
  have hlt:i < i'∨i=i'/\t < i' - j:=by
    rcases Nat.lt_trichotomy i i' with h1 | h1 | h1
    · exact .inl h1
    · refine .inr ⟨h1,?_⟩
      rcases Nat.lt_or_ge t (i' - j) with h2 | h2
      · exact h2
      · subst h1;exact absurd (h.prei j hj (by omega)) hbad
    · exact absurd (h.pre i' j hj h1) hbad
  have hrows:∀ k,k < n->k≠i'->A k k<=3 * Dm:=fun k hk hne=>by
    rcases hlt with h1 | h1
    · exact AUi hn h (fun l hl=>hz i l hl h1) k hk
    · exact h.rows k hk (by omega)
  have hK0:0<=2 ^ (i' - j - 1) * (2 * Dm):=Int.mul_nonneg (Int.le_of_lt (AWb _)) (by omega);have hp':∀ l,l<=i'->0 < det l A:=fun l hl=>h.pos l (by omega)
  have hlam:Aio A i' (2 ^ (i' - j - 1) * (2 * Dm)):=by
    rcases hlt with h1 | h1
    · refine Af8 hp' ?_ (Aml h.sym h.pos hi' h.dm (AUi hn h (fun l hl=>hz i l hl h1) i' hi'));have:=Int.mul_le_mul_of_nonneg_right (AYm (Nat.zero_le (i' - j - 1))) (show (0:Int)<=2 * Dm by omega);simpa using this
    · obtain ⟨rfl,h1⟩:=h1;exact Af8 hp' (Int.mul_le_mul_of_nonneg_right (AYm (by omega)) (by omega)) h.lamb
  have hd:=hp' (j + 1) (by omega);obtain ⟨c1,c2⟩:=Ate hd (hlam j hj).1 (hlam j hj).2;have hrem:=Af9 (a:=Mn j A i' j) hd;generalize hc: -((2 * Mn j A i' j + det (j + 1) A) / (2 * det (j + 1) A))=c at *
  refine ⟨⟨Atd hi' (by omega) h.sym,fun k hk=>by rw [AOf hj];exact h.pos k hk,fun k hk=>by rw [AOf hj];exact h.dm k hk,hi',by omega,fun k hk hne=>by rw [Aqa hne];exact hrows k hk hne,fun h0=>by omega,?_,fun r l h1 h2=>?_,fun l h1 h2=>?_,fun r hr=>?_⟩,by have:=h.ht;have:=h.hi;omega⟩
  · have:=Ap9 hj hp' hK0 hlam (fun l hl=>hz j l hl hj) c1 c2
    have e:2 * (2 ^ (i' - j - 1) * (2 * Dm))=2 ^ (i' - j) * (2 * Dm):=by
      rw [show i' - j=i' - j - 1 + 1 by omega,Int.pow_succ];simp only [Nat.add_sub_cancel];grind
    rwa [e] at this
  · unfold SzF;rw [AOf hj,Aca hj h2 (by omega)];exact hz r l h1 h2
  · unfold SzF;rw [AOf hj,Akg hj h1]
    rcases Nat.lt_or_ge j l with h3 | h3
    · rw [Ain A l h3,Int.mul_zero,Int.add_zero];exact hzi l h1 h3
    · obtain rfl:l=j:=by omega
      rw [AL2];exact hrem
  · unfold LvF;rw [AOf hj,AOf hj,AOf hj,Aca hj (by omega) (by omega)];exact hl r hr
def Aga (n:Nat) (A:Nat->Nat->Int):Int:=psum (fun k=>det k A) (n + 1)
theorem Atf {f g:Nat->Int} {n k:Nat} (hk:k < n) (hne:∀ l,l≠k->f l=g l) (h:f k < g k):psum f n < psum g n:=by
 induction n with
 | zero=>omega
 | succ n ih=>
   simp only [psum]
   rcases Nat.lt_or_ge k n with h1 | h1
   · have:=ih h1;rw [hne n (by omega)];omega
   · obtain rfl:k=n:=by omega
     rw [ABv (g:=g) fun i hi=>hne i (by omega)];omega
theorem Amn {n i t j:Nat} {Dm:Int} {A:Nat->Nat->Int} (hn:n<=8) (h:Ad2 n Dm A i t) (hj:j + 1 < n) (hbad: ¬ LvF A j)
    (hz:∀ r l,l < r->r<=j + 1->SzF A r l) (hl:∀ r,r < j->LvF A r):
    Ad2 n Dm (swA A j) 0 0/\Aga n (swA A j) < Aga n A:=by
  have hij:i<=j + 1:=by
    rcases Nat.lt_or_ge (j + 1) i with h1 | h1
    · exact absurd (h.lov j h1) hbad
    · exact h1
  have hrest:=AUi hn h (fun l hl=>hz i l hl hij);have h1:=Ad0 h.sym h.pos (show j < n by omega) hj;have p0:=h.pos j (by omega);have p1:=h.pos (j + 1) (by omega);have p2:=h.pos (j + 2) (by omega);rw [show Mn (j + 1) A (j + 1) (j + 1)=det (j + 2) A from AL2 _ _] at h1
  have hlt:Mn j A (j + 1) (j + 1) < det (j + 1) A:=by
    unfold LvF at hbad
    have h2:det (j + 1) A * (4 * Mn j A (j + 1) (j + 1)) < det (j + 1) A * (3 * det (j + 1) A):=by
      have e1:det (j + 1) A * (4 * Mn j A (j + 1) (j + 1))=4 * (det (j + 1) A * Mn j A (j + 1) (j + 1)):=by grind
      have e2:det (j + 1) A * (3 * det (j + 1) A)=3 * (det (j + 1) A * det (j + 1) A):=by grind
      omega
    have:=Int.lt_of_mul_lt_mul_left h2 (Int.le_of_lt p1);omega
  have hpos:0 < Mn j A (j + 1) (j + 1):=by
    have h3:=sq_nonneg (Mn j A (j + 1) j);have h4:=Int.mul_pos p0 p2;exact Int.pos_of_mul_pos_right (a:=det (j + 1) A) (by omega) p1
  have hdet:∀ k,det k (swA A j)=if k=j + 1 then Mn j A (j + 1) (j + 1) else det k A:=fun k=>by
    by_cases e:k=j + 1
    · subst e;rw [if_pos rfl,Af5]
    · rw [if_neg e,Ake e]
  refine ⟨Aae (by omega) (Awc hj h.sym) (fun k hk=>?_) (fun k hk=>?_) (fun k hk=>?_),?_⟩
  · rw [hdet];split
    · exact hpos
    · exact h.pos k hk
  · rw [hdet];split
    · have:=h.dm (j + 1) (by omega);omega
    · exact h.dm k hk
  · have e:tau j k < n:=by unfold tau;split <;> (try split) <;> omega
    exact hrest _ e
  · exact Atf (k:=j + 1) (by omega) (fun l hl=>by rw [hdet,if_neg hl]) (by rw [hdet,if_pos rfl];exact hlt)
end Go.QF
namespace Go.Proofs.YtiegjkmfpcgjjaaGreatDoor
open Go Go.QF
theorem Ad3 (k m:Nat):ADz k (fun a=>((a:Nat):Int)) ++ [((m:Nat):Int)]=ADz (k + 1) fun a=>((bro k m a:Nat):Int):=by
 rw [<- AN0,ACu (g:=fun a=>((bro k m a:Nat):Int)) fun a ha=>by unfold bro;rw [if_pos ha]];unfold bro;rw [if_neg (by omega)]
theorem Akh {fuel k m:Nat} (hk:k<=100) (hf:100 < fuel):AFu fuel (k:Int) (m:Int)=some (ADz (k + 1) fun a=>((bro k m a:Nat):Int)):=by
 apply ok_eq;unfold AFu;refine ABo (ACv (fun i s=>s=(ADz i (fun a=>((a:Nat):Int)),((i:Nat):Int))/\i<=k) k (Q:=(· =ADz k fun a=>((a:Nat):Int))) ⟨rfl,Nat.zero_le _⟩ (by omega) fun i s hi hI=>?_) fun e he=>?_
 ·obtain ⟨rfl,hik⟩:=hI;unfold AJx;dsimp only;refine AB3 (fun h=>AEe (by rw [ADb];omega) (ABi ⟨by omega,?_,by omega⟩)) (fun h=>ABi ?_)
  ·rw [wk (by omega),AN0 i fun a=>((a:Nat):Int)];simp
  ·obtain rfl:i=k:=by omega
   rfl
 ·subst he;refine AEe (by rw [ADb];omega) (ABi ?_);exact Ad3 k m
theorem Aaf {fuel n i j:Nat} {F:Nat->Nat->Int} (hn:n<=8) (hi:i < n) (hj:j < n) (hb:∀ i j,i < n->j < n->(F i j).natAbs<=AGv) (hf:100 < fuel):AEu fuel (tab n n F) (i:Int) (j:Int)=some (Mn j F i j):=by
 apply ok_eq;unfold AEu;refine ABo (ACv (fun q s=>s=(ADz q (fun a=>((a:Nat):Int)),ADz q (fun a=>((a:Nat):Int)),((q:Nat):Int))/\q<=j) j (Q:=(· =(ADz j (fun a=>((a:Nat):Int)),ADz j fun a=>((a:Nat):Int)))) ⟨rfl,Nat.zero_le _⟩ (by omega) fun q s hq hI=>?_) fun e he=>?_
 ·obtain ⟨rfl,hqj⟩:=hI;unfold AJk;dsimp only;refine AB3 (fun h=>AEe (by rw [ADb];omega) (AEe (by rw [ADb];omega) (ABi ⟨by omega,?_,by omega⟩))) (fun h=>ABi ?_)
  ·rw [wk (by omega),AN0 q fun a=>((a:Nat):Int)];simp
  ·obtain rfl:q=j:=by omega
   rfl
 ·subst he;dsimp only;refine AEe (by rw [ADb];omega) (AEe (by rw [ADb];omega) ?_);rw [Ad3,Ad3];refine ABo (ADa (Af3 (n:=n) (by omega) (by omega) hf (fun a ha=>AO2 (by omega) hi) (fun a ha=>AO2 (by omega) hj))) fun x hx=>?_;subst hx;refine ABo (ADa (AV5 (by omega) (fun a b ha Aa=>hb _ _ (AO2 (by omega) hi) (AO2 (by omega) hj)) (by omega))) fun y hy=>ABi hy
theorem AUj {fuel n k:Nat} {F:Nat->Nat->Int} (hk:k<=n) (hn:n<=8):ADu fuel (ADz n fun a=>det (a + 1) F) (k:Int)=some (det k F):=by
 apply ok_eq;unfold ADu;refine AB3 (fun h=>?_) (fun h=>?_)
 ·obtain rfl:k=0:=by omega
  exact ⟨1,rfl,by simp [det]⟩
 ·obtain ⟨q,rfl⟩:∃ q,k=q + 1:=⟨k - 1,by omega⟩;refine AB7 (n:=q) (ACn (by omega)) (by rw [wk (by omega)];omega) (ABi rfl)
theorem AXb {fuel n:Nat} {F:Nat->Nat->Int} (Aa:1<=n) (hn:n<=8) (hb:∀ i j,i < n->j < n->(F i j).natAbs<=AGv) (hf:100 < fuel):AEh fuel (tab n n F)=some (ADz n fun a=>det (a + 1) F,true):=by
 apply ok_eq;unfold AEh;refine ABo (ADa (Ab6 Aa (by omega) hf)) fun x hx=>?_;subst hx;dsimp only;refine AB3 (fun h=>absurd h (by decide)) (fun _=>ABo (ACv (fun k s=>s=(ADz k (fun a=>det (a + 1) F),((k:Nat):Int))/\k<=n) n (Q:=(· =ADz n fun a=>det (a + 1) F)) ⟨rfl,Nat.zero_le _⟩ (by omega) fun k s hk hI=>?_) fun e he=>ABi (by rw [he]));obtain ⟨rfl,hkn⟩:=hI;unfold AI1;dsimp only;refine AB3 (fun h=>?_) (fun h=>ABi ?_)
 ·have hk':k < n:=by omega
  refine ABo (ADa (Akh (by omega) hf)) fun r hr=>?_;subst hr;refine ABo (ADa (Akh (by omega) hf)) fun c hc=>?_;subst hc;refine ABo (ADa (Af3 (n:=n) (by omega) (by omega) hf (fun a ha=>AO2 (by omega) hk') (fun a ha=>AO2 (by omega) hk'))) fun x hx=>?_;subst hx;refine ABo (ADa (AV5 (by omega) (fun a b ha Ab=>hb _ _ (AO2 (by omega) hk') (AO2 (by omega) hk')) (by omega))) fun y hy=>?_;subst hy;refine AEe (by rw [ADb];omega) (ABi ⟨by omega,?_,by omega⟩);rw [show (det (k + 1) fun a b=>F (bro k k a) (bro k k b))=det (k + 1) F from AL2 k F,wk (by omega),AN0 k fun a=>det (a + 1) F];simp
 ·obtain rfl:k=n:=by omega
  rfl
theorem Ad4 (a b:Int):ARm a b<=0↔a<=b:=by unfold ARm;split <;> (try split) <;> omega
theorem Aag {n j i l:Nat} {F:Nat->Nat->Int} (hn:n<=8) (hi:i < n) (hl:l < n) (hj:j < n) (hb:∀ i j,i < n->j < n->(F i j).natAbs<=AGv):(Mn j F i l).natAbs<=dBd AGv 9:=by
 have e:Mn j F i l=Mn j (fun a b=>if a < n/\b < n then F a b else 0) i l:=by
   unfold Mn
   refine ADe fun a b ha Aa=>?_
   dsimp only
   rw [if_pos ⟨AO2 (by omega) hi,AO2 (by omega) hl⟩]
 rw [e];refine Nat.le_trans (Aie (m:=AGv) (fun a b=>?_) i l) (AP8 (by decide) (by omega));split
 ·next h=>exact hb a b h.1 h.2
 ·exact Nat.zero_le _
theorem ATw {n k:Nat} {F:Nat->Nat->Int} (hn:n<=8) (hk:k<=n) (hb:∀ i j,i < n->j < n->(F i j).natAbs<=AGv):(det k F).natAbs<=dBd AGv 9:=by
 rcases Nat.eq_zero_or_pos k with h | h
 ·subst h;simp only [det];decide
 ·obtain ⟨q,rfl⟩:∃ q,k=q + 1:=⟨k - 1,by omega⟩;rw [<- AL2 q F];exact Aag hn (by omega) (by omega) (by omega) hb
theorem Aki {fuel n i j:Nat} {F:Nat->Nat->Int} (hn:n<=8) (hi:i < n) (hj:j < n) (hb:∀ i j,i < n->j < n->(F i j).natAbs<=AGv) (hf:100 < fuel):AFv fuel (tab n n F) (ADz n fun a=>det (a + 1) F) (i:Int) (j:Int)=some (decide (2 * ((Mn j F i j).natAbs:Int)<=det (j + 1) F)):=by
 apply ok_eq;unfold AFv;refine ABo (Q:=(· =2)) ⟨2,if_pos (by omega),rfl⟩ fun two h2=>?_;subst h2;refine ABo (ADa (Aaf hn hi hj hb hf)) fun x hx=>?_;subst hx;refine ABo (ADa (a:=((Mn j F i j).natAbs:Int)) rfl) fun y hy=>?_;subst hy;refine ABo (ADa (AW6 Aj6 (show (2:Int).natAbs<=dBd AGv (8 + 1) by decide) (by rw [Int.natAbs_natCast];exact Aag hn hi hj hj hb))) fun w hw=>?_;subst hw;rw [wk (by omega)];refine ABo (ADa (AUj (k:=j + 1) (by omega) hn)) fun m hm=>?_;subst hm;refine ABo (ADa (a:=ARm (2 * ((Mn j F i j).natAbs:Int)) (det (j + 1) F)) rfl) fun c hc=>ABi ?_;subst hc;exact decide_eq_decide.2 (Ad4 _ _)
theorem AYn {F:Nat->Nat->Int} {i j:Nat}:2 * ((Mn j F i j).natAbs:Int)<=det (j + 1) F↔SzF F i j:=by
 unfold SzF;omega
theorem psum_abs {f g:Nat->Int} {D:Nat}:∀ (n:Nat),(∀ a,a < n->(f a).natAbs<=D/\(g a).natAbs<=D)->(psum (fun a=>f a * g a) n).natAbs<=n * (D * D)
  | 0,_=>by simp [psum]
  | n + 1,h=>by
    have h1:=psum_abs n fun a ha=>h a (by omega)
    have h2:=Nat.mul_le_mul (h n (by omega)).1 (h n (by omega)).2
    rw [<- Int.natAbs_mul] at h2
    have e:(n + 1) * (D * D)=n * (D * D) + D * D:=by rw [Nat.add_mul,Nat.one_mul]
    simp only [psum]
    omega
theorem Axt {fuel n D:Nat} {f g:Nat->Int} (hn:n<=16) (hD:16 * (D * D) < AEk) (hb:∀ a,a < n->(f a).natAbs<=D/\(g a).natAbs<=D) (hf:100 < fuel):AH8 fuel (ADz n f) (ADz n g)=some (psum (fun a=>f a * g a) n):=by
 apply ok_eq;unfold AH8;refine ABo (ACv (fun k s=>s=(((k:Nat):Int),psum (fun a=>f a * g a) k)/\k<=n) n (Q:=(· =psum (fun a=>f a * g a) n)) ⟨rfl,Nat.zero_le _⟩ (by omega) fun k s hk hI=>?_) fun e he=>ABi he;obtain ⟨rfl,hkn⟩:=hI;unfold AKq;dsimp only;rw [ADb];refine AB3 (fun h=>?_) (fun h=>ABi ?_)
 ·have hk':k < n:=by omega
  have h1:=psum_abs k fun a ha=>hb a (by omega);have h2:=Nat.mul_le_mul (hb k hk').1 (hb k hk').2;have h3:k * (D * D)<=16 * (D * D):=Nat.mul_le_mul_right _ (by omega);have h4:1 * (D * D)<=16 * (D * D):=Nat.mul_le_mul_right _ (by omega);refine AB7 (ACn hk') rfl (AB7 (ACn hk') rfl (ABo (Q:=(· =f k * g k)) ⟨_,if_pos (by omega),rfl⟩ fun x hx=>?_));subst hx;refine ABo (Q:=(· =psum (fun a=>f a * g a) k + f k * g k)) ⟨_,if_pos ⟨by omega,by rw [Int.natAbs_mul];omega⟩,rfl⟩ fun y hy=>ABi ⟨by omega,?_,by omega⟩;subst hy;rw [wk (by omega)];simp [psum]
 ·obtain rfl:k=n:=by omega
  rfl
theorem Aah {fuel n:Nat} {F:Nat->Nat->Int} (hn:1<=n) (Ad:n<=16) (hf:100 < fuel):ADl fuel (tab n n F)=some ((n:Int),(n:Int),true):=by
 apply ok_eq;unfold ADl;rw [ADg];refine ABo (Q:=fun ex=>match ex with | .inl _=>False | .inr _=>True) (AB3 (fun h=>by omega) fun h=>AB3 (fun h2=>by omega) fun h2=>ABi trivial) fun ex hex=>?_
 cases ex with
 | inl e=>exact hex.elim
 | inr u=>
   dsimp only
   refine ABo (ACv (fun i (s:Int)=>s=i) n (Q:=fun ex=>match ex with | .inl _=>False | .inr _=>True) rfl (by omega) fun i s hi hI=>?_) fun ex hex=>?_
   · subst hI
     unfold AFy
     rw [ADg]
     refine AB3 (fun h=>AB7 (ADi (by omega)) rfl ?_) fun h=>ABi trivial
     rw [ADb]
     refine AB3 (fun h2=>by omega) fun h2=>AB3 (fun h3=>by omega) fun h3=>AB7 (n:=0) (ADi (by omega)) rfl (AB3 (fun h4=>?_) fun h4=>ABi ⟨by omega,wk (by omega)⟩)
     rw [ADb] at h4;omega
   · cases ex with
     | inl e=>exact hex.elim
     | inr u=>exact AB7 (n:=0) (ADi (by omega)) rfl (ABi (by rw [ADb]))
theorem ANh {r c:Nat} {F G:Nat->Nat->Int} (h:∀ i j,i < r->j < c->F i j=G i j):tab r c F=tab r c G:=by
 rw [AOl,AOl];exact ACu fun i hi=>ACu fun j hj=>h i j hi hj
def trS (F:Nat->Nat->Int) (i j r c:Nat):Int:=if c < i∨c=i/\r < j then F c r else 0
theorem Akj {fuel n:Nat} {F:Nat->Nat->Int} (hn:1<=n) (Ad:n<=16) (hf:100 < fuel):AEo fuel (tab n n F)=some (tab n n (trF F),true):=by
 apply ok_eq;unfold AEo;refine ABo (ADa (Aah hn Ad hf)) fun x hx=>?_;subst hx;dsimp only;refine AB3 (fun h=>absurd h (by decide)) fun _=>ABo (ADa (AYh (by omega) (by omega) (by omega))) fun O hO=>?_;subst hO;refine ABo (ACv (fun i s=>s=(((i:Nat):Int),tab n n (trS F i 0))/\i<=n) n (Q:=(· =tab n n (trF F))) ⟨?_,Nat.zero_le _⟩ (by omega) fun i s hi hI=>?_) fun e he=>ABi (by rw [he])
 ·rw [AHq n (0:Int),AHq];refine congrArg (Prod.mk (0:Int)) ?_;rw [AOl];exact ACu fun r _=>ACu fun c _=>by unfold trS;rw [if_neg (by omega)]
 ·obtain ⟨rfl,hin⟩:=hI;unfold AH1;dsimp only;rw [ADg];refine AB3 (fun h=>?_) (fun h=>ABi ?_)
  ·have hi':i < n:=by omega
   refine AB7 (ADi hi') rfl (ABo (ACv (fun j s=>s=(((j:Nat):Int),tab n n (trS F i j))/\j<=n) n (Q:=(· =tab n n (trS F (i + 1) 0))) ⟨rfl,Nat.zero_le _⟩ (by omega) fun j s hj hJ=>?_) fun e he=>ABi ⟨by omega,by rw [wk (by omega),he];simp,by omega⟩);obtain ⟨rfl,hjn⟩:=hJ;unfold AH0;dsimp only;rw [ADb];refine AB3 (fun h2=>?_) (fun h2=>ABi ?_)
   ·have hj':j < n:=by omega
    refine AB7 (ADi hj') rfl (AB7 (ADi hi') rfl (AB7 (ACn hj') rfl (ABo (ADa (a:=F i j) rfl) fun y hy=>AB7 (ACn hi') rfl (ABi ⟨by omega,?_,by omega⟩))));subst hy;rw [wk (by omega),Ads];refine Prod.ext (by dsimp only;omega) (ANh fun r c hr hc=>?_);rw [ACs];unfold trS;by_cases h3:r=j
    ·rw [if_pos h3];by_cases h4:c=i
     ·rw [if_pos h4,if_pos (by omega),h3,h4]
     ·rw [if_neg h4];by_cases h5:c < i
      ·rw [if_pos (by omega),if_pos (by omega),h3]
      ·rw [if_neg (by omega),if_neg (by omega)]
    ·rw [if_neg h3];by_cases h5:c < i∨c=i/\r < j
     ·rw [if_pos h5,if_pos (by omega)]
     ·rw [if_neg h5,if_neg (by omega)]
   ·refine ANh fun r c hr hc=>?_;unfold trS;by_cases h5:c < i + 1
    ·rw [if_pos (by omega),if_pos (by omega)]
    ·rw [if_neg (by omega),if_neg (by omega)]
  ·refine ANh fun r c hr hc=>?_;unfold trS trF;rw [if_pos (by omega)]
def muS (H:Nat->Nat->Int) (i j r c:Nat):Int:=if r < i∨r=i/\c < j then H r c else 0
theorem Aqc {fuel n D:Nat} {F G:Nat->Nat->Int} (hn:1<=n) (Ab:n<=16) (hD:16 * (D * D) < AEk) (hF:∀ i j,i < n->j < n->(F i j).natAbs<=D) (hG:∀ i j,i < n->j < n->(G i j).natAbs<=D) (hf:100 < fuel):AH9 fuel (tab n n F) (tab n n G)=some (tab n n (AE9 n F G),true):=by
 apply ok_eq;unfold AH9;refine ABo (ADa (Aah hn Ab hf)) fun x hx=>?_;subst hx;dsimp only;refine ABo (ADa (Akj hn Ab hf)) fun x hx=>?_;subst hx;dsimp only;rw [ADg,ADg];refine ABo (Q:=fun ex=>match ex with | .inl _=>False | .inr _=>True) (AB3 (fun h=>absurd h (by decide)) fun _=>AB3 (fun h=>absurd h (by decide)) fun _=>AB3 (fun h=>absurd rfl h) fun _=>ABi trivial) fun ex hex=>?_
 cases ex with
 | inl e=>exact hex.elim
 | inr u=>
   dsimp only
   rw [ADg]
   refine ABo (ADa (AYh (by omega) (by omega) (by omega))) fun O hO=>?_
   subst hO
   refine ABo (ACv (fun i s=>s=(((i:Nat):Int),tab n n (muS (AE9 n F G) i 0))/\i<=n) n (Q:=(· =tab n n (AE9 n F G))) ⟨?_,Nat.zero_le _⟩ (by omega) fun i s hi hI=>?_) fun e he=>ABi (by rw [he])
   · rw [AHq n (0:Int),AHq]
     refine congrArg (Prod.mk (0:Int)) ?_
     rw [AOl]
     exact ACu fun r _=>ACu fun c _=>by unfold muS;rw [if_neg (by omega)]
   · obtain ⟨rfl,hin⟩:=hI
     unfold AKs
     dsimp only
     rw [ADg]
     refine AB3 (fun h=>?_) (fun h=>ABi ?_)
     · have hi':i < n:=by omega
       refine ABo (ACv (fun j s=>s=(((j:Nat):Int),tab n n (muS (AE9 n F G) i j))/\j<=n) n (Q:=(· =tab n n (muS (AE9 n F G) (i + 1) 0))) ⟨rfl,Nat.zero_le _⟩ (by omega) fun j s hj hJ=>?_) fun e he=>ABi ⟨by omega,by rw [wk (by omega),he];simp,by omega⟩
       obtain ⟨rfl,hjn⟩:=hJ
       unfold AKr
       dsimp only
       rw [ADg]
       refine AB3 (fun h2=>?_) (fun h2=>ABi ?_)
       · have hj':j < n:=by omega
         refine AB7 (ADi hi') rfl (AB7 (ADi hi') rfl (AB7 (ADi hj') rfl (ABo (ADa (Axt (D:=D) Ab hD (fun a ha=>⟨hF i a hi' ha,hG a j ha hj'⟩) hf)) fun y hy=>AB7 (ACn hj') rfl (ABi ⟨by omega,?_,by omega⟩))))
         subst hy
         rw [wk (by omega),Ads]
         refine Prod.ext (by dsimp only;omega) (ANh fun r c hr hc=>?_)
         rw [ACs]
         unfold muS
         by_cases h3:r=i
         · rw [if_pos h3]
           by_cases h4:c=j
           · rw [if_pos h4,if_pos (by omega),h3,h4];rfl
           · rw [if_neg h4]
             by_cases h5:c < j
             · rw [if_pos (by omega),if_pos (by omega),h3]
             · rw [if_neg (by omega),if_neg (by omega)]
         · rw [if_neg h3]
           by_cases h5:r < i
           · rw [if_pos (by omega),if_pos (by omega)]
           · rw [if_neg (by omega),if_neg (by omega)]
       · refine ANh fun r c hr hc=>?_
         unfold muS
         by_cases h5:r < i + 1
         · rw [if_pos (by omega),if_pos (by omega)]
         · rw [if_neg (by omega),if_neg (by omega)]
     · refine ANh fun r c hr hc=>?_
       unfold muS
       rw [if_pos (by omega)]
theorem Akk (a b:Int):ARm a b=0↔a=b:=by unfold ARm;split <;> (try split) <;> omega
theorem Auy {fuel n:Nat} {F:Nat->Nat->Int} (Ae:n<=16) (hf:100 < fuel):Ok (AEp fuel (tab n n F)) fun r=>r=true↔AK7 n F:=by
 unfold AEp;refine ABo (ACv (fun i s=>s=((i:Nat):Int)/\i<=n/\ ∀ a b,b < a->a < i->F a b=F b a) n (Q:=fun ex=>match ex with | .inl e=>e=false/\¬ AK7 n F | .inr _=>AK7 n F) ⟨rfl,Nat.zero_le _,fun a b h1 h2=>by omega⟩ (by omega) fun i s hi hI=>?_) fun ex hex=>?_
 ·obtain ⟨rfl,hin,hs⟩:=hI;unfold AH3;rw [ADg];refine AB3 (fun h=>?_) (fun h=>ABi ?_)
  ·have hi':i < n:=by omega
   refine ABo (ACv (fun j s=>s=((j:Nat):Int)/\j<=i/\ ∀ b,b < j->F i b=F b i) i (Q:=fun ex=>match ex with | .inl e=>e=false/\¬ AK7 n F | .inr _=> ∀ b,b < i->F i b=F b i) ⟨rfl,Nat.zero_le _,fun b h1=>by omega⟩ (by omega) fun j s hj hJ=>?_) fun ex hex=>?_
   ·obtain ⟨rfl,hji,hb⟩:=hJ;unfold AH2;refine AB3 (fun h2=>?_) (fun h2=>ABi ?_)
    ·have hj':j < i:=by omega
     refine AB7 (ADi hi') rfl (AB7 (ACn (by omega)) rfl (AB7 (ADi (by omega)) rfl (AB7 (ACn hi') rfl (ABo (ADa (a:=ARm (F i j) (F j i)) rfl) fun c hc=>?_))));subst hc;refine AB3 (fun h3=>ABi ⟨rfl,fun h4=>h3 ((Akk _ _).2 (h4 i j hi' (by omega)))⟩) (fun h3=>ABi ⟨by omega,by rw [wk (by omega)];simp,by omega,fun b Af=>?_⟩);rcases Nat.lt_or_ge b j with h4 | h4
     ·exact hb b h4
     ·obtain rfl:b=j:=by omega
      exact (Akk _ _).1 (Classical.not_not.1 h3)
    ·obtain rfl:j=i:=by omega
     exact hb
   ·cases ex with
    | inl e=>exact ABi hex
    | inr u=>exact ABi ⟨by omega,by rw [wk (by omega)];simp,by omega,fun a b h1 h2=>by
        rcases Nat.lt_or_ge a i with h4 | h4
        · exact hs a b h1 h4
        · obtain rfl:a=i:=by omega
          exact hex b h1⟩
  ·obtain rfl:i=n:=by omega
   intro a b ha hb;rcases Nat.lt_trichotomy a b with h1 | h1 | h1
   ·exact (hs b a h1 hb).symm
   ·rw [h1]
   ·exact hs a b h1 ha
 ·cases ex with
  | inl e=>obtain ⟨rfl,h⟩:=hex;exact ABi ⟨fun h1=>Bool.noConfusion h1,fun h1=>absurd h1 h⟩
  | inr u=>exact ABi ⟨fun _=>hex,fun _=>rfl⟩
theorem Atg {fuel n D:Nat} {F G:Nat->Nat->Int} (hn:1<=n) (Aa:n<=16) (hD:16 * (D * D) < AEk) (hF:∀ i j,i < n->j < n->(F i j).natAbs<=D) (hG:∀ i j,i < n->j < n->(G i j).natAbs<=D) (hH:∀ i j,i < n->j < n->(AE9 n (trF G) F i j).natAbs<=D) (hf:100 < fuel):AEq fuel (tab n n F) (tab n n G)=some (tab n n (AE9 n (AE9 n (trF G) F) G)):=by
 apply ok_eq;unfold AEq;refine ABo (ADa (Akj hn Aa hf)) fun x hx=>?_;subst hx;dsimp only
 have pr:∀ {F G:Nat->Nat->Int},(∀ i j,i < n->j < n->(F i j).natAbs<=D)->(∀ i j,i < n->j < n->(G i j).natAbs<=D)->Ok (ADt fuel (tab n n F) (tab n n G)) (· =tab n n (AE9 n F G)):=fun {F G} hF hG=>by
   unfold ADt
   refine ABo (ADa (Aqc hn Aa hD hF hG hf)) fun x hx=>?_
   subst hx
   exact ABi rfl
 refine ABo (pr (fun i j hi hj=>hG j i hj hi) hF) fun x hx=>?_;subst hx;refine ABo (pr hH hG) fun y hy=>ABi hy
theorem Akl (a:Int):AHs a<=0↔a<=0:=by unfold AHs;split <;> (try split) <;> omega
theorem Axu {fuel n:Nat} {F:Nat->Nat->Int} (Ae:1<=n) (hn:n<=8) (hb:∀ i j,i < n->j < n->(F i j).natAbs<=AGv) (hf:100 < fuel):Ok (AFz fuel (tab n n F)) fun r=>r=true↔AK7 n F/\AMn n F:=by
 unfold AFz;refine ABo (ADa (AXb Ae hn hb hf)) fun x hx=>?_;subst hx;dsimp only;refine ABo (Q:=fun ex=>match ex with | .inl e=>e=false/\¬ AK7 n F | .inr _=>AK7 n F) (AB3 (fun h=>absurd h (by decide)) fun _=>ABo (Auy (by omega) hf) fun r hr=>?_) fun ex hex=>?_
 ·refine AB3 (fun h=>ABi ⟨rfl,fun h1=>?_⟩) (fun h=>ABi (hr.1 ?_))
  ·rw [hr.2 h1] at h;exact absurd h (by decide)
  ·cases r
   ·exact absurd rfl h
   ·rfl
 ·cases ex with
  | inl e=>obtain ⟨rfl,h⟩:=hex;exact ABi ⟨fun h1=>Bool.noConfusion h1,fun h1=>absurd h1.1 h⟩
  | inr u=>
    dsimp only at hex ⊢
    have h0:∀ k,k<=0->0 < det k F:=fun k hk=>by
      obtain rfl:k=0:=by omega
      simp [det]
    refine ABo (ACv (fun i s=>s=((i:Nat):Int)/\i<=n/\ ∀ k,k<=i->0 < det k F) n (Q:=fun ex=>match ex with | .inl e=>e=false/\¬ AMn n F | .inr _=>AMn n F) ⟨rfl,Nat.zero_le _,h0⟩ (by omega) fun i s hi hI=>?_) fun ex Ad=>?_
    · obtain ⟨rfl,hin,hp⟩:=hI
      unfold AIq
      rw [ADb]
      refine AB3 (fun h=>?_) (fun h=>ABi ?_)
      · have hi':i < n:=by omega
        refine AB7 (ACn hi') rfl (ABo (ADa (a:=AHs (det (i + 1) F)) rfl) fun c hc=>?_)
        subst hc
        refine AB3 (fun h3=>ABi ⟨rfl,fun h4=>?_⟩) (fun h3=>ABi ⟨by omega,by rw [wk (by omega)];simp,by omega,fun k hk=>?_⟩)
        · have:=h4 (i + 1) (by omega);have:=(Akl _).1 h3;omega
        · rcases Nat.lt_or_ge k (i + 1) with h4 | h4
          · exact hp k (by omega)
          · obtain rfl:k=i + 1:=by omega
            rw [Akl] at h3;omega
      · obtain rfl:i=n:=by omega
        exact hp
    · cases ex with
      | inl e=>obtain ⟨rfl,h⟩:=Ad;exact ABi ⟨fun h1=>Bool.noConfusion h1,fun h1=>absurd h1.2 h⟩
      | inr u=>exact ABi ⟨fun _=>⟨hex,Ad⟩,fun _=>rfl⟩
theorem AVb {fuel n:Nat} {F:Nat->Nat->Int} (Ac:1<=n) (hn:n<=8) (hb:∀ i j,i < n->j < n->(F i j).natAbs<=AGv) (hf:100 < fuel):Ok (AD0 fuel (tab n n F)) fun r=>r=0↔AK7 n F/\AMn n F:=by
 unfold AD0;refine ABo (ADa (Ab6 Ac (by omega) hf)) fun x hx=>?_;subst hx;dsimp only;refine AB3 (fun h=>absurd h (by decide)) fun _=>AB3 (fun h=>by omega) fun _=>ABo (Auy (by omega) hf) fun r hr=>AB3 (fun h=>ABi ⟨fun h1=>by omega,fun h1=>?_⟩) fun h=>ABo (Axu Ac hn hb hf) fun q hq=>AB3 (fun h2=>ABi ⟨fun h1=>by omega,fun h1=>?_⟩) fun h2=>ABi ⟨fun _=>hq.1 ?_,fun _=>rfl⟩
 ·rw [hr.2 h1.1] at h;exact absurd h (by decide)
 ·rw [hq.2 h1] at h2;exact absurd h2 (by decide)
 ·cases q
  ·exact absurd rfl h2
  ·rfl
theorem Akm {fuel n:Nat} {F:Nat->Nat->Int} (hn:n<=8) (hb:∀ i j,i < n->j < n->(F i j).natAbs<=AGv) (hf:100 < fuel):AFw fuel (tab n n F)=some (decide (det n F<=10000)):=by
 apply ok_eq;unfold AFw;refine ABo (ADa (AV5 hn hb (by omega))) fun x hx=>?_;subst hx;refine ABo (Q:=(· =10000)) ⟨10000,if_pos (by omega),rfl⟩ fun y hy=>?_;subst hy;refine ABo (ADa (a:=ARm (det n F) 10000) rfl) fun c hc=>ABi ?_;subst hc;exact decide_eq_decide.2 (Ad4 _ _)
def idS (i r c:Nat):Int:=if r=c/\r < i then 1 else 0
theorem Akn {fuel n:Nat} (hn:1<=n) (Ae:n<=16) (hf:100 < fuel):AE1 fuel (n:Int)=some (tab n n dl,true):=by
 apply ok_eq;unfold AE1;refine ABo (Q:=fun ex=>match ex with | .inl _=>False | .inr _=>True) (AB3 (fun h=>by omega) fun _=>AB3 (fun h=>by omega) fun _=>ABi trivial) fun ex hex=>?_
 cases ex with
 | inl e=>exact hex.elim
 | inr u=>
   dsimp only
   refine ABo (ADa (AYh (by omega) (by omega) (by omega))) fun O hO=>?_
   have Ab:O=tab n n (idS 0):=by
     rw [hO,AHq n (0:Int),AHq,AOl]
     exact ACu fun r _=>ACu fun c _=>by unfold idS;rw [if_neg (by omega)]
   have hlen:O.length=n:=by rw [Ab,ADg]
   refine ABo (ACv (fun i s=>s=(((i:Nat):Int),tab n n (idS i))/\i<=n) n (Q:=(· =tab n n dl)) ⟨by rw [Ab];rfl,Nat.zero_le _⟩ (by omega) fun i s hi hI=>?_) fun e he=>ABi (by rw [he])
   obtain ⟨rfl,hin⟩:=hI
   unfold AIp
   dsimp only
   rw [hlen]
   refine AB3 (fun h=>?_) (fun h=>ABi ?_)
   · have hi':i < n:=by omega
     refine AB7 (ADi hi') rfl (ABo (Q:=(· =1)) ⟨1,if_pos (by omega),rfl⟩ fun y hy=>AB7 (ACn hi') rfl (ABi ⟨by omega,?_,by omega⟩))
     subst hy
     rw [wk (by omega),Ads]
     refine Prod.ext (by dsimp only;omega) (ANh fun r c hr hc=>?_)
     rw [ACs]
     unfold idS
     by_cases h3:r=i
     · rw [if_pos h3]
       by_cases h4:c=i
       · rw [if_pos h4,if_pos (by omega)]
       · rw [if_neg h4,if_neg (by omega),if_neg (by omega)]
     · rw [if_neg h3]
       by_cases h5:r=c/\r < i
       · rw [if_pos h5,if_pos (by omega)]
       · rw [if_neg h5,if_neg (by omega)]
   · refine ANh fun r c hr hc=>?_
     unfold idS dl
     by_cases h5:r=c
     · rw [if_pos (by omega),if_pos h5]
     · rw [if_neg (by omega),if_neg h5]
def toS (n:Nat) (F:Nat->Nat->Int) (i:Nat):List (List Int):=ADz n fun r=>if r < i then ADz n (F r) else []
def toR (n:Nat) (F:Nat->Nat->Int) (i j:Nat):List (List Int):=ADz n fun r=>if r < i then ADz n (F r) else if r=i then ADz n (fun c=>if c < j then F i c else 0) else []
theorem Axw {fuel n:Nat} {F:Nat->Nat->Int} (hn:1<=n) (Ae:n<=16) (hb:∀ i j,i < n->j < n->(F i j).natAbs < 9223372036854775808) (hf:100 < fuel):AGm fuel (tab n n F)=some (tab n n F,true):=by
 apply ok_eq;unfold AGm;refine ABo (ADa (Aah hn Ae hf)) fun x hx=>?_;subst hx;dsimp only;refine AB3 (fun h=>absurd h (by decide)) fun _=>AEe (by omega) (ABo (ACv (fun i s=>s=(((i:Nat):Int),toS n F i)/\i<=n) n (Q:=fun ex=>match ex with | .inl _=>False | .inr e=>e=tab n n F) ⟨?_,Nat.zero_le _⟩ (by omega) fun i s hi hI=>?_) fun ex hex=>?_)
 ·rw [Int.toNat_natCast,AHq];exact congrArg (Prod.mk (0:Int)) (ACu fun r _=>by rw [if_neg (by omega)])
 ·obtain ⟨rfl,hin⟩:=hI;unfold AJj;dsimp only;rw [List.length_replicate,Int.toNat_natCast];refine AB3 (fun h=>AEe (by omega) ?_) (fun h=>ABi ?_)
  ·have hi':i < n:=by omega
   have e0:sI (toS n F i) (i:Int) (List.replicate n (0:Int))=toR n F i 0:=by
     rw [ADy];unfold toS;rw [AEz]
     refine ACu fun r _=>?_
     by_cases h1:r=i
     · rw [if_pos h1,if_neg (by omega),if_pos h1,AHq];exact ACu fun c _=>by rw [if_neg (by omega)]
     · rw [if_neg h1]
       by_cases h2:r < i
       · rw [if_pos h2,if_pos h2]
       · rw [if_neg h2,if_neg h2,if_neg h1]
   refine AB7 (n:=i) (ACn hi') rfl ?_;rw [e0];refine AB7 (n:=i) (ACn hi') rfl ?_;rw [if_neg (by omega),if_pos rfl];refine ABo (ACv (fun j s=>s=(((j:Nat):Int),toR n F i j)/\j<=n) n (Q:=fun ex=>match ex with | .inl _=>False | .inr e=>e=toS n F (i + 1)) ⟨rfl,Nat.zero_le _⟩ (by omega) fun j s hj hJ=>?_) fun ex hex=>?_
   ·obtain ⟨rfl,hjn⟩:=hJ;unfold AJi;dsimp only;rw [ADb];refine AB3 (fun h2=>?_) (fun h2=>ABi ?_)
    ·have hj':j < n:=by omega
     refine AB7 (ADi hi') rfl (AB7 (ACn hj') rfl (ABo (Q:=(· =(F i j,true))) ⟨_,if_pos (hb i j hi' hj'),rfl⟩ fun y hy=>?_));subst hy;dsimp only;refine AB3 (fun h=>absurd h (by decide)) fun _=>AB7 (n:=i) (ACn hi') rfl ?_;rw [if_neg (by omega),if_pos rfl];refine AB7 (ACn hj') rfl (ABi ⟨by omega,?_,by omega⟩);rw [wk (by omega),ADy,ADy];refine Prod.ext (by dsimp only;omega) ?_;dsimp only;unfold toR;rw [AEz,AEz];refine ACu fun r _=>?_;by_cases h1:r=i
     ·rw [if_pos h1,if_neg (by omega),if_pos h1];refine ACu fun c _=>?_;by_cases h3:c=j
      ·rw [if_pos h3,if_pos (by omega),h3]
      ·rw [if_neg h3];by_cases h4:c < j
       ·rw [if_pos h4,if_pos (by omega)]
       ·rw [if_neg h4,if_neg (by omega)]
     ·rw [if_neg h1,if_neg h1,if_neg h1]
    ·refine ACu fun r _=>?_;by_cases h1:r < i
     ·rw [if_pos h1,if_pos (by omega)]
     ·rw [if_neg h1];by_cases h3:r=i
      ·rw [if_pos h3,if_pos (by omega),h3];exact ACu fun c hc=>by rw [if_pos (by omega)]
      ·rw [if_neg h3,if_neg (by omega)]
   ·cases ex with
    | inl e=>exact hex.elim
    | inr e=>exact ABi ⟨by omega,by rw [wk (by omega),hex];simp,by omega⟩
  ·refine ACu fun r hr=>?_;rw [if_pos (by omega)];rfl
 ·cases ex with
  | inl e=>exact hex.elim
  | inr e=>exact ABi (by rw [hex])
theorem Aai {S E:Type} {body:S->Option (S ⊕ E)} {Q:E->Prop} (I:S->Prop) (μ:S->Nat) (hs:∀ s,I s->Ok (body s) fun r=>match r with | .inl s'=>I s'/\μ s' < μ s | .inr e=>Q e):∀ {fuel:Nat} {s0:S},I s0->μ s0 < fuel->Ok (iter body fuel s0) Q:=by
  intro fuel;induction fuel with
  | zero=>intro s0 _ h;omega
  | succ f ih=>
    intro s0 h0 hf;obtain ⟨r,hr,hq⟩:=hs s0 h0;cases r with
    | inl s'=>
      obtain ⟨e,he,hQ⟩:=ih hq.1 (by have:=hq.2;omega);exact ⟨e,by simp [iter,hr,he],hQ⟩
    | inr e=>exact ⟨e,by simp [iter,hr],hq⟩
theorem Ad5 (a:Int):AHs a=0↔a=0:=by unfold AHs;split <;> (try split) <;> omega
theorem Ako (a:Int):AHs a < 0↔a < 0:=by unfold AHs;split <;> (try split) <;> omega
theorem Aqd {fuel:Nat} {a b:Int} (ha:a.natAbs < AEk) (hb:b.natAbs < AEk) (h0:b≠0):AEd fuel a b=some (a / b):=by
 apply ok_eq;unfold AEd;refine ABo (ADa (a:=(a / b,a % b,true)) (if_pos ⟨ha,hb,h0⟩)) fun x hx=>?_;subst hx;exact ABi rfl
theorem Axx {fuel:Nat} {a b:Int} (ha:a.natAbs < AEk) (hb:b.natAbs < AEk) (h0:b≠0):AH7 fuel a b=some (a % b):=by
 apply ok_eq;unfold AH7;refine ABo (ADa (a:=(a / b,a % b,true)) (if_pos ⟨ha,hb,h0⟩)) fun x hx=>?_;subst hx;exact ABi rfl
theorem Axy {fuel:Nat} {a b:Int} (ha:a.natAbs < AEk) (hb:b.natAbs < AEk) (h0:b≠0) (hf:AEk < fuel):Ok (AIb fuel a b) fun g=>0 < g/\g ∣ a/\g ∣ b:=by
 unfold AIb;refine ABo (ADa (a:=(a.natAbs:Int)) rfl) fun x hx=>ABo (ADa (a:=(b.natAbs:Int)) rfl) fun y hy=>?_;subst hx;subst hy;refine ABo (Aai (fun s:Int × Int=>0<=s.1/\0<=s.2/\s.1.natAbs < AEk/\s.2.natAbs < AEk/\(0 < s.1∨0 < s.2)/\ ∀ d:Int,d ∣ s.1->d ∣ s.2->d ∣ a/\d ∣ b) (fun s=>s.2.natAbs) (Q:=fun g=>0 < g/\g ∣ a/\g ∣ b) (fun s hs=>?_) ⟨by omega,by omega,by omega,by omega,.inr (by omega),fun d h1 h2=>⟨Int.dvd_natAbs.1 h1,Int.dvd_natAbs.1 h2⟩⟩ (by dsimp only;omega)) fun g hg=>ABi hg;obtain ⟨u,v⟩:=s;obtain ⟨h1,h2,h3,h4,h5,h6⟩:=hs;unfold AKt;dsimp only at h1 h2 h3 h4 h5 h6 ⊢;refine ABo (ADa (a:=AHs v) rfl) fun s hs=>?_;subst hs;refine AB3 (fun hv=>?_) fun hv=>ABi ?_
 ·have Ab:v≠0:=fun h=>hv ((Ad5 v).2 h);refine ABo (ADa (Axx h3 h4 Ab)) fun r hr=>ABi ?_;subst hr;have e1:=Int.emod_nonneg u Ab;have e2:=Int.emod_lt_of_pos u (show 0 < v by omega);refine ⟨⟨h2,e1,h4,by omega,.inl (by omega),fun d d1 d2=>h6 d ?_ d1⟩,by omega⟩;have:=Int.dvd_add d2 (Int.dvd_trans d1 ⟨u / v,rfl⟩);rwa [Int.emod_add_mul_ediv] at this
 ·have Ab:v=0:=by
    rcases Decidable.em (AHs v=0) with h | h
    · exact (Ad5 v).1 h
    · exact absurd h hv
  subst Ab;exact ⟨by omega,h6 u (Int.dvd_refl u) ⟨0,by simp⟩⟩
def FrE (n d n' d':Int):Prop:=0 < d'/\n' * d=n * d'/\n'.natAbs<=n.natAbs/\d'.natAbs<=d.natAbs
theorem Auz {fuel:Nat} {a b:Int} (ha:a.natAbs < AEk) (hb:b.natAbs < AEk) (h0:b≠0) (hf:AEk < fuel):Ok (AGs fuel a b) fun r=>r.2=true/\FrE a b r.1.1 r.1.2:=by
 unfold AGs;refine ABo (ADa (a:=AHs b) rfl) fun s hs=>?_;subst hs;refine AB3 (fun h=>absurd ((Ad5 b).1 h) h0) fun _=>ABo (Q:=fun e:Int × Int=>0 < e.2/\e.1 * b=a * e.2/\e.1.natAbs=a.natAbs/\e.2.natAbs=b.natAbs) (ABo (ADa (a:=AHs b) rfl) fun s hs=>?_) fun e he=>?_
 ·subst hs;refine AB3 (fun h=>?_) fun h=>ABi ⟨?_,rfl,rfl,rfl⟩
  ·have:=(Ako b).1 h;refine ABo (ADa (a:= -a) rfl) fun x hx=>ABo (ADa (a:= -b) rfl) fun y hy=>ABi ?_;subst hx;subst hy;exact ⟨by dsimp only;omega,by dsimp only;grind,by dsimp only;omega,by dsimp only;omega⟩
  ·have: ¬ b < 0:=fun h2=>h ((Ako b).2 h2);dsimp only;omega
 ·obtain ⟨u,v⟩:=e;obtain ⟨h1,h2,h3,h4⟩:=he;dsimp only at h1 h2 h3 h4 ⊢;refine ABo (Axy (a:=u) (b:=v) (by omega) (by omega) (by omega) hf) fun g hg=>?_;obtain ⟨g1,⟨u',rfl⟩,⟨v',rfl⟩⟩:=hg;have gn:g≠0:=by omega
  have hv':0 < v':=Int.pos_of_mul_pos_right h1 g1;have e1:(g * u').natAbs=g.natAbs * u'.natAbs:=Int.natAbs_mul _ _;have e2:(g * v').natAbs=g.natAbs * v'.natAbs:=Int.natAbs_mul _ _;have g2:1<=g.natAbs:=by omega
  have m1:=Nat.mul_le_mul_right u'.natAbs g2;have m2:=Nat.mul_le_mul_right v'.natAbs g2;have m3:=Nat.mul_le_mul_left g.natAbs (show 1<=v'.natAbs by omega);refine ABo (ADa (Aqd (by omega) (by omega) gn)) fun x hx=>ABo (ADa (Aqd (by omega) (by omega) gn)) fun y hy=>ABi ⟨rfl,?_⟩;subst hx;subst hy;rw [Int.mul_ediv_cancel_left _ gn,Int.mul_ediv_cancel_left _ gn];refine ⟨hv',?_,by dsimp only;omega,by dsimp only;omega⟩;have:g * (u' * b)=g * (a * v'):=by grind
  exact Int.eq_of_mul_eq_mul_left gn this
theorem Ad6 {fuel:Nat} {a b:Int} (ha:a.natAbs < AEk) (hb:b.natAbs < AEk) (h0:b≠0) (hf:AEk < fuel):Ok (ADw fuel a b) fun r=>FrE a b r.1 r.2:=by
 unfold ADw;refine ABo (Auz ha hb h0 hf) fun r hr=>?_;obtain ⟨⟨x,y⟩,c⟩:=r;obtain ⟨h1,h2⟩:=hr;dsimp only at h1 h2 ⊢;subst h1;exact AB3 (fun h=>absurd h (by decide)) fun _=>ABi h2
theorem Awf {fuel:Nat} {a b:Int} (ha:a.natAbs < AEk) (hb:b.natAbs < AEk) (h0:b≠0) (hf:AEk < fuel):Ok (AF0 fuel a b) fun r=>FrE a b r.1 r.2:=by
 unfold AF0;exact ABo (Ad6 ha hb h0 hf) fun r hr=>ABi hr
theorem Agb {N D N' D':Int} (hD:0 < D) (hD':0 < D') (h:N * D'=N' * D):N / D=N' / D':=by
 rw [<- Int.mul_ediv_mul_of_pos_left N D hD',h,Int.mul_comm D D',Int.mul_ediv_mul_of_pos_left N' D' hD]
theorem Awg {fuel:Nat} {a b:Int} (hab:4 * (a.natAbs + b.natAbs) < AEk) (h0:0 < b) (hf:AEk < fuel):Ok (AGc fuel a b) fun r=>r=(2 * a + b) / (2 * b):=by
 have Ag:(1:Int).natAbs < AEk:=by
   have:(1:Int).natAbs=1:=rfl
   omega
 have Ah:(2:Int).natAbs < AEk:=by
   have:(2:Int).natAbs=2:=rfl
   omega
 unfold AGc;refine ABo (Q:=(· =(1,2))) ?_ fun hh he=>?_
 ·unfold AJr;exact ABo (Q:=(· =1)) ⟨1,if_pos (by omega),rfl⟩ fun x hx=>ABo (Q:=(· =2)) ⟨2,if_pos (by omega),rfl⟩ fun y hy=>ABi (by rw [hx,hy])
 subst he;dsimp only;refine ABo (Q:=fun r=>0 < r.2/\r.1 * (2 * b)=(2 * a + b) * r.2/\r.1.natAbs < AEk/\r.2.natAbs < AEk) ?_ fun r hr=>?_
 ·unfold AJ2;refine ABo (Ad6 (by omega) (by omega) (by omega) hf) fun x hx=>ABo (Ad6 (a:=1) (b:=2) Ag Ah (by omega) hf) fun y hy=>?_;obtain ⟨x1,x2⟩:=x;obtain ⟨y1,y2⟩:=y;obtain ⟨a1,a2,a3,a4⟩:=hx;obtain ⟨b1,b2,b3,b4⟩:=hy;dsimp only at *;obtain rfl:y2=2:=by omega
  obtain rfl:y1=1:=by omega
  refine ABo (ADa (a:=x1 * 2) (if_pos (by have:(2:Int).natAbs=2:=rfl;rw [this];omega))) fun u hu=>ABo (ADa (a:=1 * x2) (if_pos (by have:(1:Int).natAbs=1:=rfl;rw [this];omega))) fun v hv=>?_;subst hu;subst hv;refine ABo (ADa (a:=x1 * 2 + 1 * x2) (if_pos ⟨by omega,by omega⟩)) fun w hw=>ABo (ADa (a:=x2 * 2) (if_pos (by have:(2:Int).natAbs=2:=rfl;rw [this];omega))) fun z hz=>?_;subst hw;subst hz;refine ABo (Auz (by omega) (by omega) (by omega) hf) fun r hr=>ABi ?_;obtain ⟨⟨r1,r2⟩,c⟩:=r;obtain ⟨-,c1,c2,c3,c4⟩:=hr;dsimp only at *;refine ⟨c1,?_,by omega,by omega⟩;have h1:x2 * (r1 * (2 * b))=x2 * ((2 * a + b) * r2):=by grind
  exact Int.eq_of_mul_eq_mul_left (show x2≠0 by omega) h1
 ·obtain ⟨r1,r2⟩:=r;obtain ⟨h1,h2,h3,h4⟩:=hr;dsimp only at *;unfold AI5;refine ABo (Q:=fun r=>r=(2 * a + b) / (2 * b)) (ABo (Ad6 h3 h4 (by omega) hf) fun x hx=>?_) fun z hz=>ABi hz;obtain ⟨x1,x2⟩:=x;obtain ⟨a1,a2,a3,a4⟩:=hx;dsimp only at *;refine ABo (ADa (Aqd (by omega) (by omega) (by omega))) fun q hq=>ABi ?_;subst hq;refine Agb a1 (by omega) ?_;have h5:r2 * (x1 * (2 * b))=r2 * ((2 * a + b) * x2):=by grind
  exact Int.eq_of_mul_eq_mul_left (show r2≠0 by omega) h5
end Go.Proofs.YtiegjkmfpcgjjaaGreatDoor
namespace Go.Proofs.YtiegjkmfpcgjjaaGreatDoor
open Go Go.QF
set_option maxRecDepth 100000
theorem Agc:64 * (dBd AGv (8 + 1) * dBd AGv (8 + 1)) < AEk:=by decide
theorem Agd {fuel n j:Nat} {F:Nat->Nat->Int} (hn:n<=8) (hj:j + 1 < n) (hb:∀ i j,i < n->j < n->(F i j).natAbs<=AGv) (hf:100 < fuel):Ok (AFj fuel (tab n n F) (ADz n fun a=>det (a + 1) F) ((j + 1:Nat):Int)) fun r=>r=true↔LvF F j:=by
 show Ok _ fun r:Bool=>r=true↔3 * (det (j + 1) F * det (j + 1) F)<=4 * (det j F * det (j + 2) F + Mn j F (j + 1) j * Mn j F (j + 1) j);unfold AFj;have w1:w64 (((j + 1:Nat):Int) - 1)=(j:Int):=by rw [wk (by omega)];omega
 have w2:w64 (((j + 1:Nat):Int) + 1)=((j + 2:Nat):Int):=by rw [wk (by omega)];omega
 rw [w1,w2];have hD:=Agc;have bl:(Mn j F (j + 1) j).natAbs<=dBd AGv (8 + 1):=Aag hn (by omega) (by omega) (by omega) hb;have b0:(det j F).natAbs<=dBd AGv (8 + 1):=ATw hn (by omega) hb;have b1:(det (j + 1) F).natAbs<=dBd AGv (8 + 1):=ATw hn (by omega) hb;have b2:(det (j + 2) F).natAbs<=dBd AGv (8 + 1):=ATw hn (by omega) hb;have p1:=Nat.mul_le_mul b0 b2;have p2:=Nat.mul_le_mul bl bl;have p3:=Nat.mul_le_mul b1 b1;have e1:=Int.natAbs_mul (det j F) (det (j + 2) F);have e2:=Int.natAbs_mul (Mn j F (j + 1) j) (Mn j F (j + 1) j);have e3:=Int.natAbs_mul (det (j + 1) F) (det (j + 1) F);refine ABo (ADa (Aaf hn (by omega) (by omega) hb hf)) fun l hl=>?_;subst hl;refine ABo (Q:=(· =4)) ⟨4,if_pos (by omega),rfl⟩ fun x hx=>?_;subst hx;refine ABo (ADa (AUj (by omega) hn)) fun x hx=>ABo (ADa (AUj (by omega) hn)) fun y hy=>?_;subst hx;subst hy;refine ABo (ADa (a:=det j F * det (j + 2) F) (if_pos (by omega))) fun x hx=>ABo (ADa (a:=Mn j F (j + 1) j * Mn j F (j + 1) j) (if_pos (by omega))) fun y hy=>?_;subst hx;subst hy;generalize det j F * det (j + 2) F=P at *;generalize Mn j F (j + 1) j * Mn j F (j + 1) j=L at *;refine ABo (ADa (a:=P + L) (if_pos (by omega))) fun x hx=>ABo (ADa (a:=4 * x) (if_pos (by have:(4:Int).natAbs=4:=rfl;rw [this];omega))) fun y hy=>?_;subst hx;subst hy;refine ABo (Q:=(· =3)) ⟨3,if_pos (by omega),rfl⟩ fun x hx=>?_;subst hx;refine ABo (ADa (AUj (by omega) hn)) fun x hx=>ABo (ADa (AUj (by omega) hn)) fun y hy=>?_;subst hx;subst hy;refine ABo (ADa (a:=det (j + 1) F * det (j + 1) F) (if_pos (by omega))) fun x hx=>?_;subst hx;generalize det (j + 1) F * det (j + 1) F=S at *;refine ABo (ADa (a:=3 * S) (if_pos (by have:(3:Int).natAbs=3:=rfl;rw [this];omega))) fun x hx=>ABo (ADa (a:=ARm (4 * (P + L)) x) rfl) fun c hc=>ABi ?_;subst hx;subst hc;rw [decide_eq_true_iff];unfold ARm;split <;> (try split) <;> omega
def ARr (A:Nat->Nat->Int) (i j:Nat):Int:= -((2 * Mn j A i j + det (j + 1) A) / (2 * det (j + 1) A))
def AVc (A:Nat->Nat->Int) (i j:Nat):Nat->Nat->Int:=ADj dl j fun q=>if q=i then ARr A i j else dl j q
def AQb (A:Nat->Nat->Int) (i:Nat):Prop:= ∀ r l,l < r->r < i->SzF A r l
def ARs (A:Nat->Nat->Int) (i:Nat):Prop:= ∀ r,r + 1 < i->LvF A r
def Aqe (n:Nat) (A:Nat->Nat->Int) (r:List (List Int) × Bool):Prop:=
  (r=([],false)/\AQb A n/\ARs A n)∨
  (∃ i j,j < i/\i < n/\¬ SzF A i j/\AQb A i/\(∀ l,l < i->j < l->SzF A i l)/\ARs A i/\r=(tab n n (AVc A i j),true))∨
  ∃ j,j + 1 < n/\¬ LvF A j/\AQb A (j + 2)/\ARs A (j + 1)/\r=(tab n n (AFt dl (j + 1) j),true)
theorem Awh {fuel n:Nat} {A:Nat->Nat->Int} (Ai:1<=n) (hn:n<=8) (hp:AMn n A) (hb:∀ i j,i < n->j < n->(A i j).natAbs<=AGv) (hf:AEk < fuel):Ok (AHp fuel (tab n n A)) (Aqe n A):=by
 have Ac:100 < fuel:=Nat.lt_of_le_of_lt (by decide) hf;have hD:=Agc;unfold AHp;refine ABo (ADa (AXb Ai hn hb Ac)) fun x hx=>?_;subst hx;dsimp only;rw [ADg];refine ABo (ADa (Akn Ai (by omega) Ac)) fun x hx=>?_;subst hx;dsimp only;refine ABo (ACv (fun i s=>s=(((i:Nat):Int),tab n n dl)/\i<=n/\AQb A i/\ARs A i) n (Q:=fun ex=>match ex with | .inl r=>Aqe n A r | .inr _=>AQb A n/\ARs A n) ⟨rfl,Nat.zero_le _,fun r l h1 h2=>by omega,fun r h=>by omega⟩ (by omega) fun i s hi hI=>?_) fun ex hex=>?_
 ·obtain ⟨rfl,hin,hsz,hlv⟩:=hI;unfold AKc;dsimp only;rw [ADg];refine AB3 (fun h=>?_) (fun h=>ABi ?_)
  ·have hi':i < n:=by omega
   refine ABo (ACv (fun k s=>s=((i:Int) - 1 - k,tab n n dl)/\k<=i/\ ∀ l,l < i->i<=l + k->SzF A i l) i (Q:=fun ex=>match ex with | .inl r=>Aqe n A r | .inr e=>e=tab n n dl/\ ∀ l,l < i->SzF A i l) ⟨by rw [wk (by omega)];simp,Nat.zero_le _,fun l h1 h2=>by omega⟩ (by omega) fun k s hk hK=>?_) fun ex hex=>?_
   ·obtain ⟨rfl,hki,hz⟩:=hK;unfold AKb;dsimp only;refine AB3 (fun h2=>?_) (fun h2=>ABi ⟨rfl,fun l hl=>hz l hl (by omega)⟩);obtain ⟨j,hj⟩:∃ j:Nat,(i:Int) - 1 - k=j:=⟨i - 1 - k,by omega⟩;rw [hj];have hji:j < i:=by omega
    refine ABo (ADa (Aki hn hi' (by omega) hb Ac)) fun b Ag=>?_;subst Ag;refine AB3 (fun h3=>?_) (fun h3=>ABi ⟨by omega,?_,by omega,fun l h4 h5=>?_⟩)
    ·have hbad: ¬ SzF A i j:=fun h=>by rw [<- AYn] at h;simp [h] at h3
     refine AB7 (ADi (by omega)) rfl (ABo (ADa (Aaf hn hi' (by omega) hb Ac)) fun l hl=>?_);subst hl;rw [show w64 ((j:Int) + 1)=((j + 1:Nat):Int) by rw [wk (by omega)];omega];refine ABo (ADa (AUj (by omega) hn)) fun d hd=>?_;subst hd;have bl:(Mn j A i j).natAbs<=dBd AGv (8 + 1):=Aag hn hi' (by omega) (by omega) hb;have b1:(det (j + 1) A).natAbs<=dBd AGv (8 + 1):=ATw hn (by omega) hb;have hd:=hp (j + 1) (by omega);have hDD:dBd AGv (8 + 1)<=dBd AGv (8 + 1) * dBd AGv (8 + 1):=Nat.le_mul_of_pos_left _ (by omega);refine ABo (Awf (by omega) (by omega) (by omega) hf) fun q hq=>?_;obtain ⟨x,y⟩:=q;obtain ⟨q1,q2,q3,q4⟩:=hq;dsimp only at q1 q2 q3 q4 ⊢;refine ABo (Awg (by omega) q1 hf) fun m hm=>ABo (ADa (a:= -m) rfl) fun c hc=>?_
     have Ap:c=ARr A i j:=by
       rw [hc,hm]
       unfold ARr
       congr 1
       refine Agb (by omega) (by omega) ?_
       grind
     clear hm hc;refine AB7 (ACn hi') rfl (ABi (.inr (.inl ⟨i,j,hji,hi',hbad,hsz,fun l h4 h5=>hz l h4 (by omega),hlv,?_⟩)));rw [ADy,ADy,AEz,Ap,show (ADz n fun q=>if q=i then ARr A i j else dl j q)=(List.range n).map fun q=>if q=i then ARr A i j else dl j q from rfl,AH5];rfl
    ·rw [wk (by omega)];refine congrArg (fun z=>(z,tab n n dl)) ?_;omega
    ·have hgood:SzF A i j:=by rw [<- AYn];simpa using h3
     rcases Nat.lt_or_ge (l + k) i with h6 | h6
     ·obtain rfl:l=j:=by omega
      exact hgood
     ·exact hz l h4 h6
   ·cases ex with
    | inl r=>exact ABi hex
    | inr e=>
      obtain ⟨rfl,hzi⟩:=hex
      have hsz':AQb A (i + 1):=fun r l h1 h2=>by
        rcases Nat.lt_or_ge r i with h3 | h3
        · exact hsz r l h1 h3
        · obtain rfl:r=i:=by omega
          exact hzi l h1
      dsimp only
      have nx:w64 ((i:Int) + 1)=((i + 1:Nat):Int):=by rw [wk (by omega)];omega
      refine AB3 (fun h4=>?_) (fun h4=>ABi ⟨by omega,by rw [nx],by omega,hsz',fun r hr=>by omega⟩)
      obtain ⟨j,rfl⟩:∃ j,i=j + 1:=⟨i - 1,by omega⟩
      refine ABo (Agd hn hi' hb Ac) fun b Ag=>?_
      refine AB3 (fun h5=>?_) (fun h5=>ABi ⟨by omega,by rw [nx],by omega,hsz',fun r hr=>?_⟩)
      · have hbad: ¬ LvF A j:=fun h=>by rw [Ag.2 h] at h5;cases h5
        rw [show w64 (((j + 1:Nat):Int) - 1)=(j:Int) by rw [wk (by omega)];omega]
        refine AB7 (ADi (by omega)) rfl (AB7 (ADi hi') rfl (ABi (.inr (.inr ⟨j,hi',hbad,hsz',hlv,?_⟩))))
        rw [ADy,ADy,show ADz n (dl j)=(List.range n).map (dl j) from rfl,show ADz n (dl (j + 1))=(List.range n).map (dl (j + 1)) from rfl,AH5,AH5]
        rfl
      · have hgood:LvF A j:=Ag.1 (by simpa using h5)
        rcases Nat.lt_or_ge r j with h6 | h6
        · exact hlv r (by omega)
        · obtain rfl:r=j:=by omega
          exact hgood
  ·obtain rfl:i=n:=by omega
   exact ⟨hsz,hlv⟩
 ·cases ex with
  | inl r=>exact ABi hex
  | inr u=>exact ABi (.inl ⟨rfl,hex⟩)
end Go.Proofs.YtiegjkmfpcgjjaaGreatDoor
namespace Go.QF
open Go
theorem Age (c:Int) (f:Nat->Int) (n:Nat):c * psum f n=psum (fun i=>c * f i) n:=(ADf c f n).symm
theorem Aip (c:Int) (f:Nat->Int) (n:Nat):psum f n * c=psum (fun i=>f i * c) n:=by
 rw [Int.mul_comm,Age];exact ABv fun k _=>Int.mul_comm _ _
section
variable {n K:Nat} {p:Int} {e f:Nat->Nat} {a b D D' S:Nat->Nat->Int}
theorem ASq {A B C:Nat->Nat->Int} (i j:Nat):AE9 n (AE9 n A B) C i j=AE9 n A (AE9 n B C) i j:=by
 unfold AE9;rw [ABv (g:=fun k=>psum (fun l=>A i l * B l k * C k j) n) fun k _=>Aip _ _ _,AN2]
 exact ABv fun l _=>by
   rw [Age]
   exact ABv fun k _=>by grind
end
end Go.QF
namespace Go.Proofs.YtiegjkmfpcgjjaaGreatDoor
open Go Go.QF
set_option maxRecDepth 100000
theorem Aqf {S E:Type} {body:S->Option (S ⊕ E)} {Q:E->Prop} (I:Nat->S->Prop) (hs:∀ k s,I k s->Ok (body s) fun r=>match r with | .inl s'=> ∃ k',k' < k/\I k' s' | .inr e=>Q e):∀ {fuel k:Nat} {s0:S},I k s0->k < fuel->Ok (iter body fuel s0) Q:=by
  intro fuel;induction fuel with
  | zero=>intro k s0 _ h;omega
  | succ f ih=>
    intro k s0 h0 hf;obtain ⟨r,hr,hq⟩:=hs k s0 h0;cases r with
    | inl s'=>
      obtain ⟨k',h1,h2⟩:=hq;obtain ⟨e,he,hQ⟩:=ih h2 (by omega);exact ⟨e,by simp [iter,hr,he],hQ⟩
    | inr e=>exact ⟨e,by simp [iter,hr],hq⟩
theorem Agf {n i j s:Nat} {A:Nat->Nat->Int} (hj:j < i) (hi:i < n) (hs:s < n) (X:Nat->Int):psum (fun k=>X k * AVc A i j k s) n=X s + if s=i then ARr A i j * X j else 0:=by
 have h1:∀ k,X k * AVc A i j k s=X k * dl k s + (if k=j then (if s=i then ARr A i j * X j else 0) else 0):=fun k=>by
   unfold AVc
   rw [ACs]
   split
   · next h=>
     subst h
     split
     · next h2=>subst h2;unfold dl;rw [if_neg (by omega)];grind
     · simp
   · simp
 rw [ABv fun k _=>h1 k,AG2,Adp X hs,AN6 (a:=j) (by omega) fun k _ hk=>if_neg hk,if_pos rfl]
theorem Agg {n i j r s:Nat} {A:Nat->Nat->Int} (hj:j < i) (hi:i < n) (hr:r < n) (hs:s < n):AE9 n (AE9 n (trF (AVc A i j)) A) (AVc A i j) r s=AWa A i j (ARr A i j) r s:=by
 have h2:∀ k,AE9 n (trF (AVc A i j)) A r k=A r k + if r=i then ARr A i j * A j k else 0:=fun k=>by
   show psum (fun l=>AVc A i j l r * A l k) n=_
   rw [ABv (g:=fun l=>A l k * AVc A i j l r) fun l _=>Int.mul_comm _ _]
   exact Agf hj hi hr fun l=>A l k
 show psum (fun k=>AE9 n (trF (AVc A i j)) A r k * AVc A i j k s) n=_;rw [Agf hj hi hs fun k=>AE9 n (trF (AVc A i j)) A r k];rw [h2,h2,AYl];split <;> split <;> first | (subst_vars;grind) | grind
theorem Ad7 (j k s:Nat):AFt dl (j + 1) j k s=dl (tau j k) s:=by
 rw [ALb];unfold tau;split
 ·next h=>subst h;rfl
 ·split <;> rfl
theorem Akp (j k:Nat):tau j (tau j k)=k:=by unfold tau;split <;> (try split) <;> (try split) <;> omega
theorem Awi {j k n:Nat} (hj:j + 1 < n) (hk:k < n):tau j k < n:=by unfold tau;split <;> (try split) <;> omega
theorem Akq {n j s:Nat} (hj:j + 1 < n) (hs:s < n) (X:Nat->Int):psum (fun k=>X k * AFt dl (j + 1) j k s) n=X (tau j s):=by
 rw [AN6 (a:=tau j s) (Awi hj hs) fun k hk hne=>?_]
 ·rw [Ad7,Akp];unfold dl;rw [if_pos rfl];simp
 ·rw [Ad7];unfold dl;rw [if_neg (fun h=>hne (by rw [<- h,Akp]))];simp
theorem Akr {n j r s:Nat} {A:Nat->Nat->Int} (hj:j + 1 < n) (hr:r < n) (hs:s < n):AE9 n (AE9 n (trF (AFt dl (j + 1) j)) A) (AFt dl (j + 1) j) r s=swA A j r s:=by
 show psum (fun k=>AE9 n (trF (AFt dl (j + 1) j)) A r k * AFt dl (j + 1) j k s) n=_;rw [Akq hj hs fun k=>AE9 n (trF (AFt dl (j + 1) j)) A r k];show psum (fun l=>AFt dl (j + 1) j l r * A l (tau j s)) n=_;rw [ABv (g:=fun l=>A l (tau j s) * AFt dl (j + 1) j l r) fun l _=>Int.mul_comm _ _];exact Akq hj hr fun l=>A l (tau j s)
theorem ASr {n:Nat} {A A' B B':Nat->Nat->Int} {i j:Nat} (hA:∀ k,k < n->A i k=A' i k) (hB:∀ k,k < n->B k j=B' k j):AE9 n A B i j=AE9 n A' B' i j:=ABv fun k hk=>by rw [hA k hk,hB k hk]
theorem Ath {n:Nat} {T U:Nat->Nat->Int} (i j:Nat):trF (AE9 n T U) i j=AE9 n (trF U) (trF T) i j:=ABv fun k _=>Int.mul_comm _ _
def Aiq (n:Nat) (A0 T A:Nat->Nat->Int):Prop:= ∀ i j,i < n->j < n->A i j=AE9 n (trF T) (AE9 n A0 T) i j
theorem Acb {n:Nat} {A0 T A U B:Nat->Nat->Int} (H:Aiq n A0 T A) (K:∀ i j,i < n->j < n->AE9 n (AE9 n (trF U) A) U i j=B i j):Aiq n A0 (AE9 n T U) B:=fun i j hi hj=>by
  rw [<- K i j hi hj,ASq]
  have h1:AE9 n (trF U) (AE9 n A U) i j=AE9 n (trF U) (AE9 n (trF T) (AE9 n A0 (AE9 n T U))) i j:=by
    refine ASr (fun _ _=>rfl) fun k hk=>?_;rw [ASr (A':=AE9 n (trF T) (AE9 n A0 T)) (fun l hl=>H k l hk hl) (fun _ _=>rfl),ASq];refine ASr (fun _ _=>rfl) fun l hl=>?_;rw [ASq]
  rw [h1,<- ASq];exact ASr (fun k _=>(Ath i k).symm) fun _ _=>rfl
theorem Ati {n:Nat} {A:Nat->Nat->Int}:Aiq n A dl A:=fun i j hi hj=>by
  show _=psum (fun k=>dl k i * AE9 n A dl k j) n
  rw [ABv (g:=fun k=>AE9 n A dl k j * dl k i) fun k _=>Int.mul_comm _ _,Adp (fun k=>AE9 n A dl k j) hi]
  exact (Aib hj).symm
def dm9:Int:=9 ^ 8
def Atj:Int:=2 ^ 97
theorem Atk {n i t:Nat} {A:Nat->Nat->Int} (hn:n<=8) (h:Ad2 n dm9 A i t):∀ k,k < n->A k k<=Atj:=fun k hk=>by
  by_cases e:k=i
  · subst e
    have h1:=Ab9 (p:=(2 ^ 7 * (2 * dm9)) * (2 ^ 7 * (2 * dm9))) (q:=1) h.sym h.pos h.hi h.dm (by decide) (by decide) (fun l hl=>by
      have h2:=h.lamb l hl;have h3:(2:Int) ^ t * (2 * dm9)<=2 ^ 7 * (2 * dm9):=Int.mul_le_mul_of_nonneg_right (AYm (by have:=h.ht;omega)) (by decide);have h4:=h.pos (l + 1) (by have:=h.hi;omega);have h5:=Int.mul_le_mul_of_nonneg_right h3 (Int.le_of_lt h4);have h6:=ATv (x:=Mn l A k l) (y:=2 ^ 7 * (2 * dm9) * det (l + 1) A) (by omega) (by omega);rw [Int.one_mul];refine Int.le_trans h6 (Int.le_of_eq ?_);grind) k 0 (by omega)
    rw [AOe,show det 0 A=1 from rfl,Int.one_mul] at h1
    have h7:(1 + (k:Int) * ((2 ^ 7 * (2 * dm9)) * (2 ^ 7 * (2 * dm9)))) * (dm9 * 1)<=(1 + 7 * ((2 ^ 7 * (2 * dm9)) * (2 ^ 7 * (2 * dm9)))) * (dm9 * 1):=by
      refine Int.mul_le_mul_of_nonneg_right ?_ (by decide);have:=Int.mul_le_mul_of_nonneg_right (show (k:Int)<=7 by omega) (show (0:Int)<=(2 ^ 7 * (2 * dm9)) * (2 ^ 7 * (2 * dm9)) by decide);omega
    exact Int.le_trans h1 (Int.le_trans h7 (by decide))
  · exact Int.le_trans (h.rows k hk e) (by decide)
theorem Agh {n:Nat} {A:Nat->Nat->Int} {B:Int} (hs:AK7 n A) (hp:AMn n A) (hB:∀ k,k < n->A k k<=B) {i j:Nat} (hi:i < n) (hj:j < n): -B<=A i j/\A i j<=B:=by
 have h1:=Ab7 (k:=0) hs hp (Nat.zero_le _) hi hj;simp only [AOe] at h1;have p1:=Ab8 (k:=0) hs hp (Nat.zero_le _) hi;have p2:=Ab8 (k:=0) hs hp (Nat.zero_le _) hj;simp only [AOe] at p1 p2;have h2:=Int.mul_le_mul (hB i hi) (hB j hj) p2 (Int.le_trans p1 (hB i hi));exact Akf (Int.le_trans p1 (hB i hi)) (Int.le_trans h1 h2)
theorem Aks {n:Nat} {A:Nat->Nat->Int} {B:Int} (hs:AK7 n A) (hp:AMn n A) (hB:∀ k,k < n->A k k<=B) {i j:Nat} (hi:i < n) (hj:j < n):(A i j).natAbs<=B.natAbs:=by
 have:=Agh hs hp hB hi hj;omega
def Acd:Nat:=(2 ^ 240) ^ 5
theorem Agi:16 * (Acd * Acd) < AEk:=by decide
def Ace:Nat:=(2 ^ 220) ^ 5
theorem Axz {n:Nat} {A0 A T:Nat->Nat->Int} (hn:n<=8) (hE:∀ i j,(A0 i j).natAbs<=2 ^ 40) (hs:AK7 n A0) (hp:AMn n A0) (H:Aiq n A0 T A) (hB:∀ k,k < n->A k k<=Atj) {k s:Nat} (hk:k < n) (hs2:s < n):(T k s).natAbs<=Ace:=by
  have h1:=Atb hs hp (fun r=>T r s) hk
  have h2:bil n 0 A0 (fun r=>T r s) (fun r=>T r s)=A s s:=by
    rw [H s s hs2 hs2];show _=psum (fun i=>T i s * psum (fun j=>A0 i j * T j s) n) n;unfold bil;refine ABv fun i _=>?_;rw [<- ADf];exact ABv fun j _=>by rw [AOe];grind
  rw [h2] at h1
  have h3:(AMh n A0 k k).natAbs<=dBd (2 ^ 40) 9:=by
    refine Nat.le_trans (AYg (m:=2 ^ 40) fun i j=>?_) (AP8 (by decide) (by omega));rw [ACs]
    split
    · unfold dl;split <;> decide
    · exact hE i j
  have h4:AMh n A0 k k * A s s<=(dBd (2 ^ 40) 9:Nat) * Atj:=by
    have p0:0<=A s s:=by
      have:A s s=bil n 0 A0 (fun r=>T r s) (fun r=>T r s):=h2.symm;rw [this];exact AQa hs hp _ n 0 (by omega)
    have b1:AMh n A0 k k<=(dBd (2 ^ 40) 9:Nat):=by omega
    have b2:=Int.mul_le_mul_of_nonneg_right b1 p0;have b3:=Int.mul_le_mul_of_nonneg_left (hB s hs2) (show (0:Int)<=(dBd (2 ^ 40) 9:Nat) by omega);omega
  have h5:((dBd (2 ^ 40) 9:Nat):Int) * Atj<=(Ace:Int) * (Ace:Int):=by decide
  have h6:=Akf (x:=T k s) (y:=(Ace:Int)) (by omega) (Int.le_trans (Int.le_trans h1 h4) h5);omega
structure Agj (n:Nat) (A:Nat->Nat->Int):Prop where
  sym:AK7 n A
  pos:AMn n A
  sz:AQb A n
  lv:ARs A n
  dt:det n A<=10000
structure RSt (n:Nat) (A0 A T:Nat->Nat->Int) (i t:Nat):Prop where
  inv:Ad2 n dm9 A i t
  car:Aiq n A0 T A
  dt:det n A=det n A0
def Ayp (n:Nat) (A0:Nat->Nat->Int) (k:Nat) (s:List (List Int) × List (List Int)):Prop:=
  ∃ A T i t,RSt n A0 A T i t/\s=(tab n n A,tab n n T)/\k=(Aga n A).toNat * 128 + (128 - (16 * i + t))
theorem Akt {n:Nat} {A:Nat->Nat->Int} (hp:AMn n A):0<=Aga n A:=by
 have:∀ m,m<=n + 1->0<=psum (fun k=>det k A) m:=fun m=>by
   induction m with
   | zero=>intro _;exact Int.le_refl _
   | succ m ih=>intro h;have h1:=ih (by omega);have h2:=hp m (by omega);simp only [psum];omega
 exact this _ (Nat.le_refl _)
theorem Atl {n:Nat} {A:Nat->Nat->Int} (hd:∀ k,k<=n->det k A<=dm9):Aga n A<=(n + 1:Nat) * dm9:=by
 have:∀ m,m<=n + 1->psum (fun k=>det k A) m<=(m:Nat) * dm9:=fun m=>by
   induction m with
   | zero=>intro _;simp [psum]
   | succ m ih=>intro h;have h1:=ih (by omega);have h2:=hd m (by omega);simp only [psum];rw [Int.natCast_add,Int.add_mul];omega
 exact this _ (Nat.le_refl _)
theorem Amo {n i j:Nat} {A:Nat->Nat->Int} (hn:n<=8) (hj:j < i) (hi:i < n) (hp:AMn n A) (hb:∀ i j,i < n->j < n->(A i j).natAbs<=AGv):(ARr A i j).natAbs<=3 * dBd AGv 9:=by
 have b1:(Mn j A i j).natAbs<=dBd AGv 9:=Aag hn hi (by omega) (by omega) hb;have b2:(det (j + 1) A).natAbs<=dBd AGv 9:=ATw hn (by omega) hb;have hd:=hp (j + 1) (by omega);unfold ARr;rw [Int.natAbs_neg];have:=Int.natAbs_ediv_le_natAbs (2 * Mn j A i j + det (j + 1) A) (2 * det (j + 1) A);omega
theorem Amp {fuel n:Nat} {A0:Nat->Nat->Int} (Ac:1<=n) (hn:n<=8) (hs:AK7 n A0) (hp:AMn n A0) (hE:∀ i j,(A0 i j).natAbs<=2 ^ 40) (hD:∀ k,k<=n->det k A0<=dm9) (hr:∀ k,k < n->A0 k k<=3 * dm9) (hdt:det n A0<=10000) (hf:AEk < fuel):
    Ok (AGn fuel (tab n n A0)) fun r=> ∃ A T,r=(tab n n A,tab n n T,0)/\Agj n A/\Aiq n A0 T A/\det n A=det n A0/\ ∀ k,k < n->A k k<=3 * dm9:=by
 have Ad:100 < fuel:=Nat.lt_of_le_of_lt (by decide) hf;have Av:100000000 < fuel:=Nat.lt_of_le_of_lt (by decide) hf;have Ak:∀ i j,i < n->j < n->(A0 i j).natAbs<=AGv:=fun i j _ _=>Nat.le_trans (hE i j) (by decide);unfold AGn;refine ABo (AVb Ac hn Ak Ad) fun v hv=>?_;have Ap:=hv.2 ⟨hs,hp⟩;subst Ap;refine AB3 (fun h=>absurd rfl h) fun _=>ABo (ADa (Akm hn Ak Ad)) fun b hb=>?_;subst hb;refine AB3 (fun h=>by simp [hdt] at h) fun _=>?_;refine ABo (ADa (Aj5 (A:=tab n n A0) (by rw [ADg];omega) (fun z hz=>by rw [AY5 z hz];omega) (by rw [ADg];omega))) fun x hx=>?_;subst hx;rw [ADg];refine ABo (ADa (Akn Ac (by omega) Ad)) fun x hx=>?_;subst hx;dsimp only;refine ABo (Aqf (Ayp n A0) (Q:=fun r=> ∃ A T,r=(tab n n A,tab n n T,0)/\Agj n A/\Aiq n A0 T A/\det n A=det n A0/\ ∀ k,k < n->A k k<=3 * dm9) (fun k s hI=>?_) (k:=(Aga n A0).toNat * 128 + 128) ⟨A0,dl,0,0,⟨Aae Ac hs hp hD hr,Ati,rfl⟩,rfl,rfl⟩ ?_) fun r hr=>ABi hr
 ·obtain ⟨A,T,i,t,R,rfl,rfl⟩:=hI;have L:=R.inv;have hbd:=Atk hn L;have hb:∀ i j,i < n->j < n->(A i j).natAbs<=AGv:=fun i j hi hj=>Nat.le_trans (Aks L.sym L.pos hbd hi hj) (by decide);have hT:∀ k s,k < n->s < n->(T k s).natAbs<=Ace:=fun k s hk Ab=>Axz hn hE hs hp R.car hbd hk Ab;have hTD:Ace<=Acd:=by decide
  have hMD:AGv<=Acd:=by decide
  unfold AJm;refine ABo (Awh Ac hn L.pos hb hf) fun r hr=>?_
  have prod:∀ {U:Nat->Nat->Int},(∀ i j,i < n->j < n->(U i j).natAbs<=3 * dBd AGv 9)->(AEq fuel (tab n n A) (tab n n U)=some (tab n n (AE9 n (AE9 n (trF U) A) U))/\ADt fuel (tab n n T) (tab n n U)=some (tab n n (AE9 n T U))):=fun {U} hU=>by
    have Am:∀ i j,i < n->j < n->(U i j).natAbs<=Acd:=fun i j hi hj=>Nat.le_trans (hU i j hi hj) (by decide)
    refine ⟨Atg Ac (by omega) Agi (fun i j hi hj=>Nat.le_trans (hb i j hi hj) hMD) Am (fun i j hi hj=>?_) Ad,?_⟩
    · have h1:=psum_abs (f:=fun l=>U l i) (g:=fun l=>A l j) (D:=3 * dBd AGv 9) n fun l hl=>⟨hU l i hl hi,Nat.le_trans (hb l j hl hj) (by decide)⟩
      have h2:n * ((3 * dBd AGv 9) * (3 * dBd AGv 9))<=8 * ((3 * dBd AGv 9) * (3 * dBd AGv 9)):=Nat.mul_le_mul_right _ hn
      have h3:(AE9 n (trF U) A i j).natAbs=(psum (fun l=>U l i * A l j) n).natAbs:=rfl
      have h4:∀ l,l < n->(U l i).natAbs<=3 * dBd AGv 9/\(A l j).natAbs<=AGv:=fun l hl=>⟨hU l i hl hi,hb l j hl hj⟩
      have h5:(psum (fun l=>U l i * A l j) n).natAbs<=n * (3 * dBd AGv 9 * AGv):=by
        refine QF.psum_abs fun l hl=>?_
        rw [Int.natAbs_mul]
        exact Nat.mul_le_mul (h4 l hl).1 (h4 l hl).2
      have h6:n * (3 * dBd AGv 9 * AGv)<=8 * (3 * dBd AGv 9 * AGv):=Nat.mul_le_mul_right _ hn
      have h7:8 * (3 * dBd AGv 9 * AGv)<=Acd:=by decide
      rw [h3]
      exact Nat.le_trans h5 (Nat.le_trans h6 h7)
    · unfold ADt
      rw [Aqc Ac (by omega) Agi (fun i j hi hj=>Nat.le_trans (hT i j hi hj) hTD) Am Ad]
      rfl
  rcases hr with ⟨rfl,hsz,hlv⟩ | ⟨i',j,hji,hi',hbad,hsz,hzi,hlv,rfl⟩ | ⟨j,hj,hbad,hsz,hlv,rfl⟩
  ·dsimp only;refine AB3 (fun _=>?_) (fun h=>absurd rfl h);have hrest:=AUi hn L fun l hl=>hsz i l hl L.hi;refine ABo (ADa (Axw Ac (by omega) (fun i j hi hj=>Nat.lt_of_le_of_lt (Aks L.sym L.pos hrest hi hj) (by decide)) Ad)) fun x hx=>ABi ?_;subst hx;exact ⟨A,T,rfl,⟨L.sym,L.pos,hsz,hlv,by rw [R.dt];exact hdt⟩,R.car,R.dt,hrest⟩
  ·dsimp only;refine AB3 (fun h=>absurd h (by decide)) fun _=>?_
   have hU:∀ r s,r < n->s < n->(AVc A i' j r s).natAbs<=3 * dBd AGv 9:=fun r s hr Ab=>by
     have hdl:∀ a b,(dl a b).natAbs<=3 * dBd AGv 9:=fun a b=>by unfold dl;split <;> decide
     unfold AVc
     rw [ACs]
     split
     · split
       · exact Amo hn hji hi' L.pos hb
       · exact hdl _ _
     · exact hdl _ _
   obtain ⟨e1,e2⟩:=prod hU;refine ABo (ADa e1) fun x hx=>ABo (ADa e2) fun y hy=>ABi ?_;subst hx;subst hy;obtain ⟨L2,hm⟩:=Amm hn L hi' hji hbad hsz hzi hlv;have hsum:Aga n (AWa A i' j (ARr A i' j))=Aga n A:=ABv fun k _=>AOf hji;refine ⟨_,?_,AWa A i' j (ARr A i' j),AE9 n T (AVc A i' j),i',i' - j,⟨L2,Acb R.car fun r s hr Ab=>Agg hji hi' hr Ab,by rw [AOf hji];exact R.dt⟩,?_,rfl⟩
   ·rw [hsum];have:=L.hi;have:=L.ht;omega
   ·rw [ANh fun r s hr Ab=>Agg hji hi' hr Ab]
  ·dsimp only;refine AB3 (fun h=>absurd h (by decide)) fun _=>?_
   have hU:∀ r s,r < n->s < n->(AFt dl (j + 1) j r s).natAbs<=3 * dBd AGv 9:=fun r s hr Ab=>by
     rw [Ad7];unfold dl;split <;> decide
   obtain ⟨e1,e2⟩:=prod hU;refine ABo (ADa e1) fun x hx=>ABo (ADa e2) fun y hy=>ABi ?_;subst hx;subst hy;obtain ⟨L2,hm⟩:=Amn hn L hj hbad (fun r l h1 h2=>hsz r l h1 (by omega)) fun r hr=>hlv r (by omega);refine ⟨_,?_,swA A j,AE9 n T (AFt dl (j + 1) j),0,0,⟨L2,Acb R.car fun r s hr Ab=>Akr hj hr Ab,by rw [Ake (by omega)];exact R.dt⟩,?_,rfl⟩
   ·have h1:=Akt L.pos;have h2:=Akt L2.pos;have:=L.hi;have:=L.ht;omega
   ·rw [ANh fun r s hr Ab=>Akr hj hr Ab]
 ·have h1:=Atl hD;have h2:((n + 1:Nat):Int) * dm9<=9 * dm9:=Int.mul_le_mul_of_nonneg_right (by omega) (by decide);have h3:(9 * dm9)=387420489:=by decide
  have h4:387420489 * 128 + 128 < AEk:=by decide
  omega
end Go.Proofs.YtiegjkmfpcgjjaaGreatDoor
