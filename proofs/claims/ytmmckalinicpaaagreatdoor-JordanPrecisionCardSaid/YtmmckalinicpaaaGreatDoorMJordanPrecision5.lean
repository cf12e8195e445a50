/-
  Texts of a proof, joined. Conditions stand in each statement.
-/
import Derived.Lib.SmallJoins
import Derived.Test.YtmmckalinicpaaaGreatDoorMJordanPrecision4
set_option linter.unusedVariables false
set_option linter.unusedSimpArgs false
namespace Go.Proofs.YtmmckalinicpaaaGreatDoor
open Go Go.QF
set_option maxRecDepth 100000
set_option maxHeartbeats 4000000
def ALu (fuel:Nat) (a1:Int) (a5:LiA) (Ac:Int) (Aa:Int) (Ad:Int) (Ae:LiI):Option ((Int × Int × LiI) ⊕ ((Int × LiI))):=
  (if Aa < ((List.replicate (Int.toNat (w64 (1 + (Int.tmod (w64 a1) Ac)))) ([]:List Int)).length:Int) then (if 0<=(w64 (1 + (Int.tmod (w64 a1) Ac)))/\(w64 (1 + (Int.tmod (w64 a1) Ac)))<=100000000 then ((gI Ae Aa).bind fun Ao=>((gI (sI Ae Aa (List.replicate (Int.toNat (w64 (1 + (Int.tmod (w64 a1) Ac)))) (0:Int))) Aa).bind fun Ag=>(((((if (a5.length:Int)<=Ad then (some ( (0,Ad))) else ((gI a5 (w64 ((w64 (Ad + 1)) - 1))).bind fun Ah=>(some ( ((w64 Ah),(w64 (Ad + 1))))))):Option (Int × Int)).bind fun (Ai,Aj)=>(some ( ((Int.tmod (w64 (IntKind.wrap .u8 Ai)) 6),Aj)))):Option (Int × Int)).bind fun (Ak,Am)=>((gI Ag Aa).bind fun Ap=>(some (Sum.inl ((w64 (Aa + 1)),Am,(sI (sI Ae Aa (List.replicate (Int.toNat (w64 (1 + (Int.tmod (w64 a1) Ac)))) (0:Int))) Aa (sI Ag Aa (w64 (1 + Ak))))))))))) else none) else (some (Sum.inr<| (Ad,Ae))))
def AM4 (fuel:Nat) (a5:LiA) (Ab:Int) (Aa:Int) (Ac:Int) (Ad:LiI):Option ((Int × Int × LiI) ⊕ ((Int × LiI))):=
  (if Aa < Ab then ((gI Ad Ab).bind fun Ae=>(((if (a5.length:Int)<=Ac then (some ( (0,Ac))) else ((gI a5 (w64 ((w64 (Ac + 1)) - 1))).bind fun Ai=>(some ( ((w64 Ai),(w64 (Ac + 1))))))):Option (Int × Int)).bind fun (Af,Aj)=>((gI Ae Aa).bind fun Ao=>((gI (sI Ad Ab (sI Ae Aa (Int.tmod Af 3))) Aa).bind fun Ah=>((gI (sI Ad Ab (sI Ae Aa (Int.tmod Af 3))) Ab).bind fun Ak=>((gI Ak Aa).bind fun Am=>((gI Ah Ab).bind fun Ap=>(some (Sum.inl ((w64 (Aa + 1)),Aj,(sI (sI Ad Ab (sI Ae Aa (Int.tmod Af 3))) Aa (sI Ah Ab Am)))))))))))) else (some (Sum.inr<| (Ac,Ad))))
def ALv (fuel:Nat) (a5:LiA) (Ae:LiI) (Aa:Int) (Ab:Int) (Ac:LiI):Option ((Int × Int × LiI) ⊕ ((Int × LiI))):=
  (if Aa < (Ae.length:Int) then ((iter (fun s=>AM4 fuel a5 Aa s.1 s.2.1 s.2.2) fuel (0,Ab,Ac)).bind (fun ((Af,Ag):Int × LiI)=>(some (Sum.inl ((w64 (Aa + 1)),Af,Ag))))) else (some (Sum.inr<| (Ab,Ac))))
def ALh (fuel:Nat) (a1:Int) (a5:LiA) (Ac:Int) (Aa:Int) (Ad:Int) (Ae:LiI):Option ((Int × Int × LiI) ⊕ ((Int × LiI))):=
  (if Aa < ((List.replicate (Int.toNat (w64 (1 + (Int.tmod (w64 a1) Ac)))) ([]:List Int)).length:Int) then (if 0<=(w64 (1 + (Int.tmod (w64 a1) Ac)))/\(w64 (1 + (Int.tmod (w64 a1) Ac)))<=100000000 then ((gI Ae Aa).bind fun Ao=>((gI (sI Ae Aa (List.replicate (Int.toNat (w64 (1 + (Int.tmod (w64 a1) Ac)))) (0:Int))) Aa).bind fun Ag=>(((((if (a5.length:Int)<=Ad then (some ( (0,Ad))) else ((gI a5 (w64 ((w64 (Ad + 1)) - 1))).bind fun Ah=>(some ( ((w64 Ah),(w64 (Ad + 1))))))):Option (Int × Int)).bind fun (Ai,Aj)=>(some ( ((Int.tmod (w64 (IntKind.wrap .u8 Ai)) 9),Aj)))):Option (Int × Int)).bind fun (Ak,Am)=>((gI Ag Aa).bind fun Ap=>(some (Sum.inl ((w64 (Aa + 1)),Am,(sI (sI Ae Aa (List.replicate (Int.toNat (w64 (1 + (Int.tmod (w64 a1) Ac)))) (0:Int))) Aa (sI Ag Aa (w64 (1 + Ak))))))))))) else none) else (some (Sum.inr<| (Ad,Ae))))
def ALi (fuel:Nat) (a1:Int) (a5:LiA) (Ac:Int) (Aa:Int) (Ad:Int) (Ae:LiI):Option ((Int × Int × LiI) ⊕ ((Int × LiI))):=
  (if Aa < ((List.replicate (Int.toNat (w64 (1 + (Int.tmod (w64 a1) Ac)))) ([]:List Int)).length:Int) then (if 0<=(w64 (1 + (Int.tmod (w64 a1) Ac)))/\(w64 (1 + (Int.tmod (w64 a1) Ac)))<=100000000 then ((gI Ae Aa).bind fun Ao=>((gI (sI Ae Aa (List.replicate (Int.toNat (w64 (1 + (Int.tmod (w64 a1) Ac)))) (0:Int))) Aa).bind fun Ag=>(((((if (a5.length:Int)<=Ad then (some ( (0,Ad))) else ((gI a5 (w64 ((w64 (Ad + 1)) - 1))).bind fun Ah=>(some ( ((w64 Ah),(w64 (Ad + 1))))))):Option (Int × Int)).bind fun (Ai,Aj)=>(some ( ((Int.tmod (w64 (IntKind.wrap .u8 Ai)) 1),Aj)))):Option (Int × Int)).bind fun (Ak,Am)=>((gI Ag Aa).bind fun Ap=>(some (Sum.inl ((w64 (Aa + 1)),Am,(sI (sI Ae Aa (List.replicate (Int.toNat (w64 (1 + (Int.tmod (w64 a1) Ac)))) (0:Int))) Aa (sI Ag Aa (w64 (1 + Ak))))))))))) else none) else (some (Sum.inr<| (Ad,Ae))))
def ALj (fuel:Nat) (a1:Int) (a5:LiA) (Ac:Int) (Aa:Int) (Ad:Int) (Ae:LiI):Option ((Int × Int × LiI) ⊕ ((Int × LiI))):=
  (if Aa < ((List.replicate (Int.toNat (w64 (1 + (Int.tmod (w64 a1) Ac)))) ([]:List Int)).length:Int) then (if 0<=(w64 (1 + (Int.tmod (w64 a1) Ac)))/\(w64 (1 + (Int.tmod (w64 a1) Ac)))<=100000000 then ((gI Ae Aa).bind fun Ao=>((gI (sI Ae Aa (List.replicate (Int.toNat (w64 (1 + (Int.tmod (w64 a1) Ac)))) (0:Int))) Aa).bind fun Ag=>(((((if (a5.length:Int)<=Ad then (some ( (0,Ad))) else ((gI a5 (w64 ((w64 (Ad + 1)) - 1))).bind fun Ah=>(some ( ((w64 Ah),(w64 (Ad + 1))))))):Option (Int × Int)).bind fun (Ai,Aj)=>(some ( ((Int.tmod (w64 (IntKind.wrap .u8 Ai)) 2),Aj)))):Option (Int × Int)).bind fun (Ak,Am)=>((gI Ag Aa).bind fun Ap=>(some (Sum.inl ((w64 (Aa + 1)),Am,(sI (sI Ae Aa (List.replicate (Int.toNat (w64 (1 + (Int.tmod (w64 a1) Ac)))) (0:Int))) Aa (sI Ag Aa (w64 (1 + Ak))))))))))) else none) else (some (Sum.inr<| (Ad,Ae))))
def ALb (fuel:Nat) (a1:Int) (a2:Int) (a5:LiA) (a9:LiA) (Aa:Int):Option LiI:=
  (if Aa≠0 then (((((if (Int.tmod a2 8)=0 then (some ( (decide ((Int.tmod a2 8)=0)))) else (if (Int.tmod a2 8)=1 then (some ( (decide ((Int.tmod a2 8)=1)))) else (if (Int.tmod a2 8)=2 then (some ( (decide ((Int.tmod a2 8)=2)))) else (some ( (decide ((Int.tmod a2 8)=3))))))):Option ((Bool))).bind (fun (Ak:Bool)=>(if Ak=true then (((((if 0<=(w64 (1 + (Int.tmod (w64 a1) Aa)))/\(w64 (1 + (Int.tmod (w64 a1) Aa)))<=100000000 then ((iter (fun s=>ALu fuel a1 a5 Aa s.1 s.2.1 s.2.2) fuel (0,0,(List.replicate (Int.toNat (w64 (1 + (Int.tmod (w64 a1) Aa)))) ([]:List Int)))).bind (fun ((Am,Ao):Int × LiI)=>(some ( (Ao,Am))))) else none):Option (LiI × Int)).bind fun (Ae,Ap)=>((iter (fun s=>ALv fuel a5 Ae s.1 s.2.1 s.2.2) fuel (0,Ap,Ae)).bind (fun ((Aq,Ar):Int × LiI)=>(some ( (Ar,Aq)))))):Option (LiI × Int)).bind fun (Au,Av)=>(some ( (Au,Av)))) else (if (Int.tmod a2 8)=4 then ((AMf fuel (w64 (1 + (Int.tmod (w64 a1) Aa))) false).bind fun Af=>((gI Af 0).bind fun Ag=>((gI Ag 0).bind fun Aw=>(((((if (a5.length:Int)<=0 then (some ( (0,0))) else ((gI a5 (w64 ((w64 (0 + 1)) - 1))).bind fun Ax=>(some ( ((w64 Ax),(w64 (0 + 1))))))):Option (Int × Int)).bind fun (Ay,Az)=>(some ( ((Int.tmod (w64 (IntKind.wrap .u8 Ay)) 3),Az)))):Option (Int × Int)).bind fun (A3,A4)=>(some ( ((sI Af 0 (sI Ag 0 (w64 (Aw + A3)))),A4))))))) else (if (Int.tmod a2 8)=5 then ((AMf fuel (w64 (1 + (Int.tmod (w64 a1) Aa))) true).bind fun Ah=>((gI Ah (w64 ((w64 (1 + (Int.tmod (w64 a1) Aa))) - 1))).bind fun Ai=>((gI Ai (w64 ((w64 (1 + (Int.tmod (w64 a1) Aa))) - 1))).bind fun A5=>(((((if (a5.length:Int)<=0 then (some ( (0,0))) else ((gI a5 (w64 ((w64 (0 + 1)) - 1))).bind fun A6=>(some ( ((w64 A6),(w64 (0 + 1))))))):Option (Int × Int)).bind fun (A7,A8)=>(some ( ((Int.tmod (w64 (IntKind.wrap .u8 A7)) 2),A8)))):Option (Int × Int)).bind fun (A9,Ba)=>(some ( ((sI Ah (w64 ((w64 (1 + (Int.tmod (w64 a1) Aa))) - 1)) (sI Ai (w64 ((w64 (1 + (Int.tmod (w64 a1) Aa))) - 1)) (w64 (A5 + A9)))),Ba))))))) else (if (Int.tmod a2 8)=6 then (((if 0<=(w64 (1 + (Int.tmod (w64 a1) Aa)))/\(w64 (1 + (Int.tmod (w64 a1) Aa)))<=100000000 then ((iter (fun s=>ALh fuel a1 a5 Aa s.1 s.2.1 s.2.2) fuel (0,0,(List.replicate (Int.toNat (w64 (1 + (Int.tmod (w64 a1) Aa)))) ([]:List Int)))).bind (fun ((Bb,Bc):Int × LiI)=>(some ( (Bc,Bb))))) else none):Option (LiI × Int)).bind fun (Be,Bf)=>(some ( (Be,Bf)))) else (((if 0<=(w64 (1 + (Int.tmod (w64 a1) Aa)))/\(w64 (1 + (Int.tmod (w64 a1) Aa)))<=100000000 then ((iter (fun s=>ALi fuel a1 a5 Aa s.1 s.2.1 s.2.2) fuel (0,0,(List.replicate (Int.toNat (w64 (1 + (Int.tmod (w64 a1) Aa)))) ([]:List Int)))).bind (fun ((Bg,Bh):Int × LiI)=>(some ( (Bh,Bg))))) else none):Option (LiI × Int)).bind fun (Bi,Bj)=>(some ( (Bi,Bj)))))))))):Option ((LiI × Int))).bind (fun ((Aj,Bl):LiI × Int)=>((ANw fuel Aj).bind fun Bm=>(if (!Bm)=true then (((if 0<=(w64 (1 + (Int.tmod (w64 a1) Aa)))/\(w64 (1 + (Int.tmod (w64 a1) Aa)))<=100000000 then ((iter (fun s=>ALj fuel a1 a5 Aa s.1 s.2.1 s.2.2) fuel (0,Bl,(List.replicate (Int.toNat (w64 (1 + (Int.tmod (w64 a1) Aa)))) ([]:List Int)))).bind (fun ((Bn,Bo):Int × LiI)=>(some ( (Bo,Bn))))) else none):Option (LiI × Int)).bind fun (Bp,Br)=>(some Bp)) else (some Aj))))) else none)
theorem ASx {fuel:Nat} {h:AHr} {a1:Int} {a2:Int} {Ab:Value} {a5:LiA} {Gk:Value} {a9:LiA} {Aj:Int} {r:LiI} (H4:SlC (cI .i8) h Ab a5) (H8:SlC (cI .i8) h Gk a9) (hp:ALb fuel a1 a2 a5 a9 Aj=some r):AIj Tryz.prog 47 #[(.agg #[(.int .u8 a1),(.int .u8 a2),Ab,Gk]),(.int .i64 Aj)] h (fun x h'=>Ext h h'/\ ∃ (x0:Value) (F0:List Nat) (Qi:List LnA) (Qj:List Value),x=x0/\AI4 (cI .i64) 60 2 h' F0 Qi Qj x0 r/\Sp h' h.size [F0]):=by
 unfold ALb at hp;refine AHx (l:=[_,_]) mx Tryz.func47 rfl rfl rfl rfl rfl (by kernel_rfl) (ACu (ACv (AN2 [(.int .u8 a1),(.int .u8 a2),Ab,Gk] trivial tt2 rfl rfl fun b12 h13 Ki Ci Qk=>AHq (ACt (q_t (ACu (ACv (AJq (fs:=1) Atu (by kernel_rfl) (by decide) rfl (AIr ATx rfl (Ki.cell (i:=2) rfl) ?_)))))))));have ACw:=Ci.1;obtain ⟨_,_,_,Ql⟩:=(H4.ext Ci).shape;refine AM7 (v:=(.agg #[Ab,(.int .i64 0)])) (fun _=>by subst Ql;kernel_rfl) (AN2 [Ab,(.int .i64 0)] trivial tt2 rfl rfl fun Aa Ac Bb Dv Qm=>AHq (ACt (q_t (ACu (ACv (AJq (fs:=1) Ats (by kernel_rfl) (by decide) rfl ?_))))));have ACx:=Dv.1;have Kj:=Ci.trans Dv;have Kk:=Ki.ext Dv;refine AIr Aue rfl (Kk.cell (i:=0) rfl) (AQk AUs AU2 rfl (AHo ?_));obtain ⟨Qn,Qo⟩:=ifN hp;refine AVj rfl rfl Qn (AJd rfl rfl (AHq (ACt (q_t (ACu (ACv (AHq (ACt (q_t ?_)))))))));obtain ⟨Qp,Qq,Qr⟩:=AHv Qo;have Cj:=(((AJ8 h h.size).app Qk Ci.1 (Nat.le_refl _)).app Qm Dv.1 Ci.1).sel [1] (by decide);refine AMu 147573952589676150912 (fun x:(LiI) × (Value) × LnA × LnN × LvA × (Int)=>[(7,x.2.1)]) (fun (x:(LiI) × (Value) × LnA × LnN × LvA × (Int)) (h':AHr)=>( (x.1,x.2.2.2.2.2))=Qp/\UpT ([Aa] ++ []) Ac h'/\Sp h' h.size [[Aa],x.2.2.1]/\AI4 (cI .i64) 60 2 h' x.2.2.1 x.2.2.2.1 x.2.2.2.2.1 x.2.1 x.1/\(∀ z∈x.2.2.1,z∈([Aa] ++ [])∨Array.size Ac<=z)/\AI1 126 h' Aa [Ab,(.int .i64 x.2.2.2.2.2)]) (by kernel_rfl) ?_ ?_
 ·refine ACu (ACv (AJq (fs:=1) Att (by kernel_rfl) (by decide) rfl (AIr Aue rfl (Kk.cell (i:=1) rfl) (AVj rfl rfl (by decide) (ACt (q_t (AHz ?_)))))));obtain ⟨Qs,Kl,Qt⟩:=AHv Qq;refine AMu 520093696 (fun x:(Bool)=>[(24,(.bool x))]) (fun (x:(Bool)) (h':AHr)=>( x)=Qs/\UpT [] Ac h'/\Sp h' h.size [[Aa]]) (by kernel_rfl) ?_ ?_
  ·refine ACu (ACv (AIp rfl rfl (AMi _ _) (AHq (ACt (q_t (⟨_,rfl,fun Gl=>?_,fun Gl=>?_⟩))))))
   ·refine AH2 (q_t ?_);have Qu:UpT [] Ac Ac:=UpT.start all_nil;exact ⟨((decide ((Int.tmod a2 8)=0)):(Bool)),⟨AHw (AJ2 Kl Gl),Qu,Cj⟩,rfl,trivial⟩
   ·refine ACu (ACv (AIp rfl rfl (AMi _ _) (AHq (ACt (q_t ?_)))));have Km:=AJ3 Kl Gl;refine ⟨_,rfl,fun Gm=>?_,fun Gm=>?_⟩
    ·refine AH2 (q_t ?_);have Qv:UpT [] Ac Ac:=UpT.start all_nil;exact ⟨((decide ((Int.tmod a2 8)=1)):(Bool)),⟨AHw (AJ2 Km Gm),Qv,Cj⟩,rfl,trivial⟩
    ·refine ACu (ACv (AIp rfl rfl (AMi _ _) (AHq (ACt (q_t ?_)))));have Kn:=AJ3 Km Gm;refine ⟨_,rfl,fun Gn=>?_,fun Gn=>?_⟩
     ·refine AH2 (q_t ?_);have Qw:UpT [] Ac Ac:=UpT.start all_nil;exact ⟨((decide ((Int.tmod a2 8)=2)):(Bool)),⟨AHw (AJ2 Kn Gn),Qw,Cj⟩,rfl,trivial⟩
     ·refine ACv (AIp rfl rfl (AMi _ _) (AHq (ACt (q_t ?_))));have Qx:UpT [] Ac Ac:=UpT.start all_nil;exact ⟨((decide ((Int.tmod a2 8)=3)):(Bool)),⟨AHw (AJ3 Kn Gn),Qx,Cj⟩,rfl,trivial⟩
  rintro Qy Qz Ad ⟨Q0,Ao,S64⟩;replace S64:Sp Ad h.size [[Aa]]:=S64;refine (show W _ _ _ (setL [(24,(.bool Qy))] (mix _ Qz _)) Ad from ?_);have ACy:=Ao.size;have A4:=Kj.thenT Ao all_nil;subst Q0;have Gp:=Qt;(try dsimp only at Gp);refine ⟨_,rfl,fun Gq=>?_,fun Gq=>?_⟩
  ·refine ACv (AHo (AHo ?_));obtain ⟨Q1,Q2,Q3⟩:=AHv (ifT Gp Gq);have Gr:=Bb.upT Ao AI3;refine AIa (K':=(fun xr h'=> ∃ x:(LiI) × (Value) × LnA × LnN × LvA × (Int),(x.1,x.2.2.2.2.2)=Q1/\xr=x.2.1/\UpT ([Aa] ++ []) Ad h'/\Sp h' h.size [[Aa],x.2.2.1]/\AI4 (cI .i64) 60 2 h' x.2.2.1 x.2.2.2.1 x.2.2.2.2.1 x.2.1 x.1/\(∀ z∈x.2.2.1,z∈([Aa] ++ [])∨Array.size Ad<=z)/\AI1 126 h' Aa [Ab,(.int .i64 x.2.2.2.2.2)])) trivial rfl ?_ fun Gt Gu Q4=>?_
   ·refine AHx (l:=[_,_]) mx Tryz.func91 rfl rfl rfl rfl rfl (by kernel_rfl) (ACu (ACv (AHq (ACt (q_t (ACu (ACv (AHo (AHo ?_)))))))));obtain ⟨Q6,Q7,Q8⟩:=AHv Q2;refine AIa (K':=(fun xr h'=> ∃ x:(LiI) × (Value) × LnA × LnN × LvA × (Int),(x.1,x.2.2.2.2.2)=Q6/\xr=x.2.1/\UpT ([Aa] ++ []) Ad h'/\Sp h' h.size [[Aa],x.2.2.1]/\AI4 (cI .i64) 60 2 h' x.2.2.1 x.2.2.2.1 x.2.2.2.2.1 x.2.1 x.1/\(∀ z∈x.2.2.1,z∈([Aa] ++ [])∨Array.size Ad<=z)/\AI1 126 h' Aa [Ab,(.int .i64 x.2.2.2.2.2)])) trivial rfl ?_ fun Br Bx Q9=>?_
    ·refine AHx (l:=[_,_,_]) mx Tryz.func94 rfl rfl rfl rfl rfl (by kernel_rfl) (ACu (ACv (AHq (ACt (q_t (ACu (ACv (AHo ?_))))))));obtain ⟨Rc,Rd⟩:=ifN Q7;refine AYe (cI .i64) 2 AJg AYr rfl trivial tt2 rfl rfl (by decide) Rc fun Dw Re Rf Gv Gw Gx Ck Ko=>AHq (ACt (q_t (ACu (ACu (ACv (AHo (AKc AJg rfl Gx.rd (AHo (ACt (q_t (AHz ?_)))))))))));have ACz:=Ck.1;have Gy:=S64.app Ko Ck.1 A4.1;have Kp:=Ko.loAll 0 rfl;obtain ⟨Kr,Rg,Rh⟩:=AHv Rd;obtain ⟨Ri,Rj,Rm⟩:=AI0 Rg;have Kt:=Gr.ext Ck;refine AIy 4294959360 (fun x:(Int) × (Int) × (LiI) × LnA × LnN × LvA=>[(13,(.int .i64 x.1))]) (fun (k:Nat) (x:(Int) × (Int) × (LiI) × LnA × LnN × LvA) (h':AHr)=>iter Ri k (x.1,x.2.1,x.2.2.1)=some Kr/\UpT (Dw ++ ([Aa] ++ [])) Gw h'/\Sp h' h.size [[Aa],x.2.2.2.1]/\AI4 (cI .i64) 60 2 h' x.2.2.2.1 x.2.2.2.2.1 x.2.2.2.2.2 Gv x.2.2.1/\(∀ z∈x.2.2.2.1,z∈(Dw ++ ([Aa] ++ []))∨Array.size Gw<=z)/\AI1 126 h' Aa [Ab,(.int .i64 x.2.1)]) (by kernel_rfl) fuel ((0,0,(List.replicate (Int.toNat (w64 (1 + (Int.tmod (w64 a1) Aj)))) ([]:List Int)),Dw,Re,Rf):(Int) × (Int) × (LiI) × LnA × LnN × LvA) ?_ ⟨rfl,trivial⟩ ?_
     ·exact ⟨Rm,UpT.start (AHp Gx.notD (AHp (AH8 Kt rfl) all_nil)),Gy,Gx,(AH4 rfl),Kt⟩
     rintro AC0 ⟨Ae,Cm,Gz,Cn,Ap,G0⟩ Rn Dx ⟨Ro,Dy,Dz,D0,By,D1⟩;replace D0:AI4 (cI .i64) 60 2 Dx Cn Ap G0 Gv Gz:=D0;replace By:∀ z∈Cn,z∈(Dw ++ ([Aa] ++ []))∨Array.size Gw<=z:=By;replace D1:AI1 126 Dx Aa [Ab,(.int .i64 Cm)]:=D1;replace Dz:Sp Dx h.size [[Aa],Cn]:=Dz;refine (show W _ _ _ (setL [(13,(.int .i64 Ae))] (mix _ Rn _)) Dx from ?_);have AC1:=Dy.size;have Ku:=(A4.trans Ck).thenT Dy (AHp (Gy.loAll 1 rfl) (AHp (Gy.loAll 0 rfl) all_nil));obtain ⟨Rq,AC2,rfl,Co,Kv⟩:=AIs Ro;rw [Rj] at Co;dsimp only at Co;unfold ALu at Co;refine ACu (ACv (AIp rfl rfl (AI6 _ _) (ACt (q_t (ACu (⟨_,rfl,fun G3=>?_,fun G3=>?_⟩))))))
     ·refine AH2 (q_t (ACu (AHz (ACu (ACv (AHo (AHq (ACt (q_t (ACu (ACv (AHo (AHo (AHo ?_))))))))))))));obtain ⟨Rr,Rs⟩:=ifN (AJ2 Co G3);refine Aag (c:=(cI .i64)) (a:=0) AJp AW7 rfl rfl (fun _=>rfl) rfl trivial tt2 rfl rfl (by decide) Rr fun A5 Rt Ru Rv Bz Rw Rx=>?_;have Kw:=ARl Rw Rx;have AC3:=Bz.1;have Kx:=Ku.trans Bz;have D2:=Dz.app Kw Bz.1 Ku.1;have Ky:=Kw.loAll 0 rfl;obtain ⟨AC4,Kz,Ry⟩:=AHv Rs;have K0:=D0.ext Bz;refine AJs AJg rfl K0 rfl Kz fun Bj AC5 Rz AC6 AC7=>AZg AKg K0 Kz Rz rfl rfl Rv (D2.dj 2 1 rfl rfl (by decide)) fun Aq Cp Cq R3=>?_;have G4:∀ z∈(Bj :: (Ap.set (Int.toNat Ae) [A5]).flatten),z∈Cn ++ [A5]∨Array.size Ru<=z:=(fun z hz=> .inl (R3 z hz));have AC8:=Cq.size;have Cr:Sp Aq h.size [(Bj :: (Ap.set (Int.toNat Ae) [A5]).flatten),[Aa]]:=(((D2.sel [1,2,0] (by decide))).mrg).put 0 rfl Cp.nodup Cq.size Kx.1 Cp.lt G4;refine ACt (q_t (AKf (fun h'=>UpT ([Aa] ++ []) Aq h') (by kernel_rfl) ?_));have Bc:=(D1.ext Bz).upT Cq (D2.dj 0 1 rfl rfl (by decide));have G5:UpT ([Aa] ++ []) Aq Aq:=UpT.start (AHp (AH8 Bc rfl) all_nil);refine AHo (AHo ?_);obtain ⟨R4,G6,R5⟩:=AHv Ry;refine AJs AJg rfl Cp rfl G6 fun AC9 ADa R6 R7 R8=>AK1 AKg rfl G5 (fun h' hb=>AQj R8 hb (AVa (Cr.dj 0 1 rfl rfl (by decide) _ (by simp [R6])) AVb)) (AHo (AHo (AHo ?_)));obtain ⟨R9,Sa,Sb⟩:=AHv R5;refine AIa (K':=(fun xr h'=> ∃ x:(Int) × (Int),(x.1,x.2)=R9/\xr=(.int .i64 x.1)/\UpT ([Aa] ++ []) Aq h'/\Sp h' h.size [(Bj :: (Ap.set (Int.toNat Ae) [A5]).flatten),[Aa]]/\AI1 126 h' Aa [Ab,(.int .i64 x.2)])) G5 rfl ?_ fun ADb K3 Sc=>?_
      ·refine AHx (l:=[_,_]) mx Tryz.func93 rfl rfl rfl rfl rfl (by kernel_rfl) (ACu (ACv (AHq (ACt (q_t (ACu (ACv (AHo ?_))))))));obtain ⟨Sd,K4,Se⟩:=AHv Sa;refine AIa (K':=(fun xr h'=> ∃ x:(Int) × (Int),(x.1,x.2)=Sd/\xr=(.int .i64 x.1)/\UpT ([Aa] ++ []) Aq h'/\Sp h' h.size [(Bj :: (Ap.set (Int.toNat Ae) [A5]).flatten),[Aa]]/\AI1 126 h' Aa [Ab,(.int .i64 x.2)])) trivial rfl ?_ fun ADc K5 Sf=>?_
       ·refine AHx (l:=[_]) mx Tryz.func155 rfl rfl rfl rfl rfl (by kernel_rfl) (ACu (ACv (AHq (ACt (q_t (ACu (ACu (ALp (by kernel_rfl) (AHo (AO4 rfl (AJq (fs:=1) AKi (by kernel_rfl) (by decide) rfl (AIr AK3 rfl (Bc.cell (i:=1) rfl) (AHo (AO4 rfl (AJq (fs:=1) AOx (by kernel_rfl) (by decide) rfl (AIr ATx rfl (Bc.cell (i:=0) rfl) (ALe AUr rfl H4 (AIp rfl rfl (ASm _ _) (ACt (q_t (⟨_,rfl,fun G7=>?_,fun G7=>?_⟩)))))))))))))))))))))
        ·refine ACu (ACv (AHq (ACt (q_t (AH1 (AIi ?_))))));have Sg:UpT ([Aa] ++ []) Aq Aq:=UpT.start (AHp (AH8 Bc rfl) all_nil);refine ⟨_,AH5,((0,Cm):(Int) × (Int)),?_,rfl,?_,?_,?_⟩
         ·exact AHw (AJ2 K4 G7)
         ·exact Sg
         ·exact Cr
         ·exact Bc
        ·refine AH2 (q_t (ACu (ACv (AHo (AO4 rfl (AJq (fs:=1) AKi (by kernel_rfl) (by decide) rfl (AIr AK3 rfl (Bc.cell (i:=1) rfl) (AJd rfl rfl (AO4 rfl (AJq (fs:=1) AKi (by kernel_rfl) (by decide) rfl (AYd [Ab,(.int .i64 (w64 (Cm + 1)))] AK3 rfl rfl rfl Bc (Nat.le_of_ble_eq_true rfl) rfl fun Sh D3 Si=>?_)))))))))));have D4:=D3.stA Si (AH8 Bc rfl) rfl;have ADd:=D4.size;have Sj:Sp Sh h.size [(Bj :: (Ap.set (Int.toNat Ae) [A5]).flatten),[Aa]]:=Cr.keep D4.size;refine ACt (q_t (ACu (ALp (by kernel_rfl) (AHo (AO4 rfl (AJq (fs:=1) AOx (by kernel_rfl) (by decide) rfl (AIr ATx rfl (D3.cell (i:=0) rfl) (AHo (AO4 rfl (AJq (fs:=1) AKi (by kernel_rfl) (by decide) rfl (AIr AK3 rfl (D3.cell (i:=1) rfl) (AOv rfl rfl ?_))))))))))));obtain ⟨Sk,Sm,Sn⟩:=AHv (AJ3 K4 G7);refine AR4 (c:=(cI .i8)) AUr rfl H4 rfl Sm fun ADe ADf ADg So Sq=>?_;obtain rfl:=So;refine AIr Acm rfl (AIc (Sq 0 _ rfl) ((Kx.thenT Cq (D2.loAll 1 rfl)).thenT D4 (Cr.loAll 1 rfl))) (AQk Acn APi rfl (AHq (ACt (q_t (AH1 ?_)))));have Sr:UpT ([Aa] ++ []) Aq Aq:=UpT.start (AHp (AH8 Bc rfl) all_nil);refine ⟨_,AH5,(((w64 Sk),(w64 (Cm + 1))):(Int) × (Int)),?_,rfl,?_,?_,?_⟩
         ·exact AHw Sn
         ·exact (Sr.then D4 (AH4 rfl))
         ·exact Sj
         ·exact D3
       obtain ⟨⟨Ss,K6⟩,St,rfl,K7,G8,G9⟩:=Sf;replace G9:AI1 126 K5 Aa [Ab,(.int .i64 K6)]:=G9;replace G8:Sp K5 h.size [(Bj :: (Ap.set (Int.toNat Ae) [A5]).flatten),[Aa]]:=G8;have ADh:=K7.size;refine ⟨trivial,?_⟩;subst St;have K8:=Se;(try dsimp only at K8);refine AQk APi AUs rfl (AQk AUs AU2 rfl (AHo (AVj rfl rfl (by decide) (AHq (ACt (q_t (AH1 ?_)))))));have Su:UpT ([Aa] ++ []) Aq Aq:=UpT.start (AHp (AH8 Bc rfl) all_nil);refine ⟨_,AH5,(((Int.tmod (w64 (IntKind.wrap .u8 Ss)) 6),K6):(Int) × (Int)),?_,rfl,?_,?_,?_⟩
       ·exact AHw K8
       ·exact (Su.then K7 (AHp (AH4 rfl) all_nil))
       ·exact G8
       ·exact G9
      obtain ⟨⟨K9,La⟩,Sv,rfl,D5,D6,Ha⟩:=Sc;replace Ha:AI1 126 K3 Aa [Ab,(.int .i64 La)]:=Ha;replace D6:Sp K3 h.size [(Bj :: (Ap.set (Int.toNat Ae) [A5]).flatten),[Aa]]:=D6;have ADi:=D5.size;refine ⟨(G5.then D5 (AHp (AH4 rfl) all_nil)),?_⟩;subst Sv;have Lb:=Sb;(try dsimp only at Lb);refine AJd rfl rfl ?_;obtain ⟨ADj,Lc,Sw⟩:=AHv Lb;refine ALr (m:=Ae) AJp rfl Cp R7 G6 rfl Lc fun ADk Sx=>APj (m:=Ae) (APe ALy rfl rfl rfl) (Cp.upT D5 (AJc (Cr.dj 0 1 rfl rfl (by decide)) AI3)) Sx G6 Lc (show ((cI .i64)).rep _ (w64 (1 + K9)) _ from rfl) fun Sy Sz D7=>?_;have ADl:=D7.size;have S1:Sp Sy h.size [(Bj :: (Ap.set (Int.toNat Ae) [A5]).flatten),[Aa]]:=D6.keep D7.size;refine ACt (q_b (q_t (ACv (AJd rfl rfl (AHo (ACt (q_t ?_)))))));obtain rfl:=AHw Sw;exact ⟨Rq,(((w64 (Ae + 1)),La,(sI (sI Gz Ae (List.replicate (Int.toNat (w64 (1 + (Int.tmod (w64 a1) Aj)))) (0:Int))) Ae (sI R4 Ae (w64 (1 + K9)))),(Bj :: (Ap.set (Int.toNat Ae) [A5]).flatten),(Ap.set (Int.toNat Ae) [A5]),(G0.set (Int.toNat Ae) Rt)):(Int) × (Int) × (LiI) × LnA × LnN × LvA),Nat.lt_succ_self _,⟨Kv,((((Dy.thenE Bz).then Cq (AH6 By (AHp (AH4 rfl) (AHp (ALf (AH4 rfl)) all_nil)) (by omega))).then D5 (AHp (ALf (AH4 rfl)) all_nil)).then D7 (AH6 G4 (AHp (AH6 By (AHp (AH4 rfl) (AHp (ALf (AH4 rfl)) all_nil)) (by omega)) (AJw Ky (by omega))) (by omega))),(S1.sel [1,0] (by decide)),Sz,(AH6 G4 (AHp (AH6 By (AHp (AH4 rfl) (AHp (ALf (AH4 rfl)) all_nil)) (by omega)) (AJw Ky (by omega))) (by omega)),(Ha.upT D7 (D6.dj 1 0 rfl rfl (by decide)))⟩,rfl,trivial⟩
     ·obtain rfl:=AHw (AJ3 Co G3);have Ld:=Kv;change _=Kr at Ld;subst Ld;have Le:=Rh;(try dsimp only at Le);refine AIo (AIq (AIq (AJ5 (q_t (ACu (ACv (AHo (AHq (ACt (q_t (AH1 ?_)))))))))));have S2:UpT ([Aa] ++ []) Ad Ad:=UpT.start (AHp (AH8 Gr rfl) all_nil);refine ⟨_,AH5,((Gz,Gv,Cn,Ap,G0,Cm):(LiI) × (Value) × LnA × LnN × LvA × (Int)),?_,rfl,?_,?_,?_,?_,?_⟩
      ·exact AHw Le
      ·exact ((S2.thenE Ck).then Dy (AHp (AJw Kp (by omega)) (AHp (AH4 rfl) all_nil)))
      ·exact Dz
      ·exact D0
      ·exact (AH6 By (AHp (AJw Kp (by omega)) (AHp (AH4 rfl) all_nil)) (by omega))
      ·exact D1
    obtain ⟨⟨Lf,Br,Bt,Lg,Lh,Li⟩,S3,rfl,Hb,Ct,Cu,D8,D9⟩:=Q9;replace Cu:AI4 (cI .i64) 60 2 Bx Bt Lg Lh Br Lf:=Cu;replace D8:∀ z∈Bt,z∈([Aa] ++ [])∨Array.size Ad<=z:=D8;replace D9:AI1 126 Bx Aa [Ab,(.int .i64 Li)]:=D9;replace Ct:Sp Bx h.size [[Aa],Bt]:=Ct;have ADm:=Hb.size;refine ⟨trivial,?_⟩;subst S3;have Lj:=Q8;(try dsimp only at Lj);refine AHq (ACt (q_t (ACu (ACu (ACv (AHo (AKc AJg rfl Cu.rd (AHo (ACt (q_t (AHz ?_)))))))))));obtain ⟨Lk,S4,S7⟩:=AHv Lj;obtain ⟨Ta,Tb,Tc⟩:=AI0 S4;refine AIy 17592186036416 (fun x:(Int) × (Int) × (LiI) × LnA × LnN × LvA=>[(13,(.int .i64 x.1))]) (fun (k:Nat) (x:(Int) × (Int) × (LiI) × LnA × LnN × LvA) (h':AHr)=>iter Ta k (x.1,x.2.1,x.2.2.1)=some Lk/\UpT (Bt ++ ([Aa] ++ [])) Bx h'/\Sp h' h.size [[Aa],x.2.2.2.1]/\AI4 (cI .i64) 60 2 h' x.2.2.2.1 x.2.2.2.2.1 x.2.2.2.2.2 Br x.2.2.1/\(∀ z∈x.2.2.2.1,z∈(Bt ++ ([Aa] ++ []))∨Array.size Bx<=z)/\AI1 126 h' Aa [Ab,(.int .i64 x.2.1)]) (by kernel_rfl) fuel ((0,Li,Lf,Bt,Lg,Lh):(Int) × (Int) × (LiI) × LnA × LnN × LvA) ?_ ⟨rfl,trivial⟩ ?_
    ·exact ⟨Tc,UpT.start (AHp Cu.notD (AHp (AH8 D9 rfl) all_nil)),Ct,Cu,(AH4 rfl),D9⟩
    rintro ADn ⟨Bu,Hc,Hd,Bo,He,Hf⟩ Td Bv ⟨Te,Ea,B1,Cv,Cw,Cx⟩;replace Cv:AI4 (cI .i64) 60 2 Bv Bo He Hf Br Hd:=Cv;replace Cw:∀ z∈Bo,z∈(Bt ++ ([Aa] ++ []))∨Array.size Bx<=z:=Cw;replace Cx:AI1 126 Bv Aa [Ab,(.int .i64 Hc)]:=Cx;replace B1:Sp Bv h.size [[Aa],Bo]:=B1;refine (show W _ _ _ (setL [(13,(.int .i64 Bu))] (mix _ Td _)) Bv from ?_);have ADo:=Ea.size;obtain ⟨Tf,ADp,rfl,Cy,Ll⟩:=AIs Te;rw [Tb] at Cy;dsimp only at Cy;unfold ALv at Cy;refine ACu (ACv (AIp rfl rfl (AI6 _ _) (ACt (q_t (ACu (⟨_,rfl,fun Hg=>?_,fun Hg=>?_⟩))))))
    ·refine AH2 (q_t (ACu (AHz (ACu (ACv (AHo (AHq (ACt (q_t (ACu (ACv (AHq (ACt (q_t (AHz ?_)))))))))))))));obtain ⟨Lm,Tg,Th⟩:=AHv (AJ2 Cy Hg);obtain ⟨Ti,Tj,Tk⟩:=AI0 Tg;refine AIy 8796092956800 (fun x:(Int) × (Int) × (LiI) × LnA × LnN × LvA=>[(7,(.int .i64 x.1))]) (fun (k:Nat) (x:(Int) × (Int) × (LiI) × LnA × LnN × LvA) (h':AHr)=>iter Ti k (x.1,x.2.1,x.2.2.1)=some Lm/\UpT (Bo ++ ([Aa] ++ [])) Bv h'/\Sp h' h.size [[Aa],x.2.2.2.1]/\AI4 (cI .i64) 60 2 h' x.2.2.2.1 x.2.2.2.2.1 x.2.2.2.2.2 Br x.2.2.1/\(∀ z∈x.2.2.2.1,z∈(Bo ++ ([Aa] ++ []))∨Array.size Bv<=z)/\AI1 126 h' Aa [Ab,(.int .i64 x.2.1)]) (by kernel_rfl) fuel ((0,Hc,Hd,Bo,He,Hf):(Int) × (Int) × (LiI) × LnA × LnN × LvA) ?_ ⟨rfl,trivial⟩ ?_
     ·exact ⟨Tk,UpT.start (AHp Cv.notD (AHp (AH8 Cx rfl) all_nil)),B1,Cv,(AH4 rfl),Cx⟩
     rintro ADq ⟨B3,Cz,Hh,Bw,Hj,Hk⟩ Tl Ar ⟨Tm,Eb,Bp,B4,B5,Au⟩;replace B4:AI4 (cI .i64) 60 2 Ar Bw Hj Hk Br Hh:=B4;replace B5:∀ z∈Bw,z∈(Bo ++ ([Aa] ++ []))∨Array.size Bv<=z:=B5;replace Au:AI1 126 Ar Aa [Ab,(.int .i64 Cz)]:=Au;replace Bp:Sp Ar h.size [[Aa],Bw]:=Bp;refine (show W _ _ _ (setL [(7,(.int .i64 B3))] (mix _ Tl _)) Ar from ?_);have ADr:=Eb.size;obtain ⟨Tn,ADs,rfl,C0,Ln⟩:=AIs Tm;rw [Tj] at C0;dsimp only at C0;unfold AM4 at C0;refine ACu (ACu (ACv (AHo (AHo (AIp rfl rfl (AI6 _ _) (ACt (q_t (⟨_,rfl,fun Hl=>?_,fun Hl=>?_⟩))))))))
     ·refine AH2 (q_t (ACu (AHz (ACu (AKf (fun h'=>UpT ([Aa] ++ []) Ar h') (by kernel_rfl) ?_)))));have Hm:UpT ([Aa] ++ []) Ar Ar:=UpT.start (AHp (AH8 Au rfl) all_nil);refine AHo (AHo ?_);obtain ⟨To,Hn,Tp⟩:=AHv (AJ2 C0 Hl);refine AJs AJg rfl B4 rfl Hn fun ADt ADu Tq Tr Ts=>AK1 AKg rfl Hm (fun h' hb=>AQj Ts hb (AVa (Bp.dj 1 0 rfl rfl (by decide) _ (by simp [Tq])) AVb)) (AHo (AHo ?_));obtain ⟨Tt,Lo,Tu⟩:=AHv Tp;refine AIa (K':=(fun xr h'=> ∃ x:(Int) × (Int),(x.1,x.2)=Tt/\xr=(.int .i64 x.1)/\UpT ([Aa] ++ []) Ar h'/\Sp h' h.size [[Aa],Bw]/\AI1 126 h' Aa [Ab,(.int .i64 x.2)])) Hm rfl ?_ fun ADv Lq Tv=>?_
      ·refine AHx (l:=[_]) mx Tryz.func155 rfl rfl rfl rfl rfl (by kernel_rfl) (ACu (ACv (AHq (ACt (q_t (ACu (ACu (ALp (by kernel_rfl) (AHo (AO4 rfl (AJq (fs:=1) AKi (by kernel_rfl) (by decide) rfl (AIr AK3 rfl (Au.cell (i:=1) rfl) (AHo (AO4 rfl (AJq (fs:=1) AOx (by kernel_rfl) (by decide) rfl (AIr ATx rfl (Au.cell (i:=0) rfl) (ALe AUr rfl H4 (AIp rfl rfl (ASm _ _) (ACt (q_t (⟨_,rfl,fun Ho=>?_,fun Ho=>?_⟩)))))))))))))))))))))
       ·refine ACu (ACv (AHq (ACt (q_t (AH1 (AIi ?_))))));have Tw:UpT ([Aa] ++ []) Ar Ar:=UpT.start (AHp (AH8 Au rfl) all_nil);refine ⟨_,AH5,((0,Cz):(Int) × (Int)),?_,rfl,?_,?_,?_⟩
        ·exact AHw (AJ2 Lo Ho)
        ·exact Tw
        ·exact Bp
        ·exact Au
       ·refine AH2 (q_t (ACu (ACv (AHo (AO4 rfl (AJq (fs:=1) AKi (by kernel_rfl) (by decide) rfl (AIr AK3 rfl (Au.cell (i:=1) rfl) (AJd rfl rfl (AO4 rfl (AJq (fs:=1) AKi (by kernel_rfl) (by decide) rfl (AYd [Ab,(.int .i64 (w64 (Cz + 1)))] AK3 rfl rfl rfl Au (Nat.le_of_ble_eq_true rfl) rfl fun ADw Ec Tx=>ACt (q_t (ACu (ALp (by kernel_rfl) (AHo (AO4 rfl (AJq (fs:=1) AOx (by kernel_rfl) (by decide) rfl (AIr ATx rfl (Ec.cell (i:=0) rfl) (AHo (AO4 rfl (AJq (fs:=1) AKi (by kernel_rfl) (by decide) rfl (AIr AK3 rfl (Ec.cell (i:=1) rfl) (AOv rfl rfl ?_)))))))))))))))))))))));have Ed:=Ec.stA Tx (AH8 Au rfl) rfl;have ADx:=Ed.size;obtain ⟨Ty,Tz,T0⟩:=AHv (AJ3 Lo Ho);refine AR4 (c:=(cI .i8)) AUr rfl H4 rfl Tz fun ADy ADz AD0 T1 T2=>?_;obtain rfl:=T1;refine AIr Acm rfl (AIc (T2 0 _ rfl) ((((A4.thenT Hb (AHp (S64.loAll 0 rfl) all_nil)).thenT Ea (AHp (Ct.loAll 1 rfl) (AHp (Ct.loAll 0 rfl) all_nil))).thenT Eb (AHp (B1.loAll 1 rfl) (AHp (B1.loAll 0 rfl) all_nil))).thenT Ed (Bp.loAll 0 rfl))) (AQk Acn APi rfl (AHq (ACt (q_t (AH1 ?_)))));have T3:UpT ([Aa] ++ []) Ar Ar:=UpT.start (AHp (AH8 Au rfl) all_nil);refine ⟨_,AH5,(((w64 Ty),(w64 (Cz + 1))):(Int) × (Int)),?_,rfl,?_,?_,?_⟩
        ·exact AHw T0
        ·exact (T3.then Ed (AH4 rfl))
        ·exact (Bp.keep Ed.size)
        ·exact Ec
      obtain ⟨⟨Lr,Lv⟩,T4,rfl,Ee,Ef,Hq⟩:=Tv;replace Hq:AI1 126 Lq Aa [Ab,(.int .i64 Lv)]:=Hq;replace Ef:Sp Lq h.size [[Aa],Bw]:=Ef;have AD1:=Ee.size;refine ⟨(Hm.then Ee (AHp (AH4 rfl) all_nil)),?_⟩;subst T4;have Lw:=Tu;(try dsimp only at Lw);refine AVj rfl rfl (by decide) ?_;obtain ⟨AD2,Lx,T5⟩:=AHv Lw;refine ALr (m:=Bu) AJp rfl B4 Tr Hn rfl Lx fun AD3 T6=>APj (m:=Bu) (APe ALy rfl rfl rfl) (B4.upT Ee (AJc (Bp.dj 1 0 rfl rfl (by decide)) AI3)) T6 Hn Lx (show ((cI .i64)).rep _ (Int.tmod Lr 3) _ from rfl) fun AD4 B6 Eg=>ACt (q_t (ALp (by kernel_rfl) (AHo (AHo ?_))));have AD5:=Eg.size;have Ly:=Ef.keep Eg.size;obtain ⟨T7,Hr,T8⟩:=AHv T5;refine AJs AJg rfl B6 rfl Hr fun AD6 AD7 AD8 T9 Ua=>AIr AKg rfl Ua (AHo (AHo (AHo ?_)));obtain ⟨AD9,Hs,Ub⟩:=AHv T8;refine AJs AJg rfl B6 rfl Hs fun AEa AEb AEc Uc Ud=>AIr AKg rfl Ud (AHo ?_);obtain ⟨Lz,L0,Ue⟩:=AHv Ub;refine ALr (m:=Bu) AJp rfl B6 Uc Hs rfl L0 fun AEd Uf=>?_;obtain ⟨AEe,Ug,Uh⟩:=B6.cells Uf Hs L0;obtain rfl:=Ug;refine AIr ALy rfl (Uh 0 _ rfl) ?_;obtain ⟨AEf,Ma,Ui⟩:=AHv Ue;refine ALr (m:=B3) AJp rfl B6 T9 Hr rfl Ma fun AEg Uj=>APj (m:=B3) (APe ALy rfl rfl rfl) B6 Uj Hr Ma (show ((cI .i64)).rep _ Lz _ from rfl) fun AEh Uk Eh=>ACt (q_b (q_t (ACv (AHo (AJd rfl rfl (AHq (ACt (q_t ?_))))))));have AEi:=Eh.size;obtain rfl:=AHw Ui;exact ⟨Tn,(((w64 (B3 + 1)),Lv,(sI (sI Hh Bu (sI To B3 (Int.tmod Lr 3))) B3 (sI T7 Bu Lz)),Bw,Hj,Hk):(Int) × (Int) × (LiI) × LnA × LnN × LvA),Nat.lt_succ_self _,⟨Ln,(((Eb.then Ee (AHp (ALf (AH4 rfl)) all_nil)).then Eg (AH6 B5 (AHp (AH4 rfl) (AHp (ALf (AH4 rfl)) all_nil)) (by omega))).then Eh (AH6 B5 (AHp (AH4 rfl) (AHp (ALf (AH4 rfl)) all_nil)) (by omega))),(Ly.keep Eh.size),Uk,(AH6 B5 (AHp (AH4 rfl) (AHp (ALf (AH4 rfl)) all_nil)) (by omega)),((Hq.upT Eg (Ef.dj 0 1 rfl rfl (by decide))).upT Eh (Ly.dj 0 1 rfl rfl (by decide)))⟩,rfl,trivial⟩
     ·obtain rfl:=AHw (AJ3 C0 Hl);have Mb:=Ln;change _=Lm at Mb;subst Mb;have Mc:=Th;(try dsimp only at Mc);refine AIo (AIq (AIq (AJ5 (q_b (q_t (ACv (AJd rfl rfl (AHo (ACt (q_t ?_))))))))));obtain rfl:=AHw Mc;exact ⟨Tf,(((w64 (Bu + 1)),Cz,Hh,Bw,Hj,Hk):(Int) × (Int) × (LiI) × LnA × LnN × LvA),Nat.lt_succ_self _,⟨Ll,(Ea.then Eb (AHp (AH6 Cw (AHp (AH4 rfl) (AHp (ALf (AH4 rfl)) all_nil)) (by omega)) (AHp (ALf (AH4 rfl)) all_nil))),Bp,B4,(AH6 B5 (AHp (AH6 Cw (AHp (AH4 rfl) (AHp (ALf (AH4 rfl)) all_nil)) (by omega)) (AHp (ALf (AH4 rfl)) all_nil)) (by omega)),Au⟩,rfl,trivial⟩
    ·obtain rfl:=AHw (AJ3 Cy Hg);have Md:=Ll;change _=Lk at Md;subst Md;have Me:=S7;(try dsimp only at Me);refine AIo (AIq (AIq (AJ5 (q_t (ACu (ACv (AHo (AHq (ACt (q_t (AH1 ?_)))))))))));have Ul:UpT ([Aa] ++ []) Ad Ad:=UpT.start (AHp (AH8 Gr rfl) all_nil);refine ⟨_,AH5,((Hd,Br,Bo,He,Hf,Hc):(LiI) × (Value) × LnA × LnN × LvA × (Int)),?_,rfl,?_,?_,?_,?_,?_⟩
     ·exact AHw Me
     ·exact ((Ul.then Hb (AHp (AH4 rfl) all_nil)).then Ea (AHp (AH6 D8 (AHp (AH4 rfl) all_nil) (by omega)) (AHp (AH4 rfl) all_nil)))
     ·exact B1
     ·exact Cv
     ·exact (AH6 Cw (AHp (AH6 D8 (AHp (AH4 rfl) all_nil) (by omega)) (AHp (AH4 rfl) all_nil)) (by omega))
     ·exact Cx
   obtain ⟨⟨Mf,Gt,Ei,Mg,Mh,Mi⟩,Um,rfl,Mj,Ht,Hu,Hv,Hw⟩:=Q4;replace Hu:AI4 (cI .i64) 60 2 Gu Ei Mg Mh Gt Mf:=Hu;replace Hv:∀ z∈Ei,z∈([Aa] ++ [])∨Array.size Ad<=z:=Hv;replace Hw:AI1 126 Gu Aa [Ab,(.int .i64 Mi)]:=Hw;replace Ht:Sp Gu h.size [[Aa],Ei]:=Ht;have AEj:=Mj.size;refine ⟨trivial,?_⟩;subst Um;have Mk:=Q3;(try dsimp only at Mk);refine AHq (ACt (q_b (q_t ?_)));have Un:UpT ([Aa] ++ []) Ac Ac:=UpT.start (AHp (AH8 Bb rfl) all_nil);exact ⟨((Mf,Gt,Ei,Mg,Mh,Mi):(LiI) × (Value) × LnA × LnN × LvA × (Int)),⟨AHw Mk,((Un.then Ao all_nil).then Mj (AHp (AH4 rfl) all_nil)),Ht,Hu,(AH6 Hv (AHp (AH4 rfl) all_nil) (by omega)),Hw⟩,rfl,trivial⟩
  ·refine ACu (ACv (AIp rfl rfl (AMi _ _) (AHq (ACt (q_t ?_)))));have Ml:=AQm Gp Gq;refine ⟨_,rfl,fun Hx=>?_,fun Hx=>?_⟩
   ·refine ACu (ACv (AHo ?_));obtain ⟨Uo,Up,Uq⟩:=AHv (AJ2 Ml Hx);refine AHy trivial tt2 rfl (AR7 Up) fun Ur A6 C1 Us=>?_;obtain ⟨AEk,C2,Ut,Uu,rfl,B7,Mm⟩:=Us;refine AHq (ACt (q_t (AKf (fun h'=>UpT ([Aa] ++ []) A6 h') (by kernel_rfl) ?_)));have AEl:=C1.1;have B8:=S64.app Mm C1.1 A4.1;have Mo:=Mm.loAll 0 rfl;have Be:=(Bb.upT Ao AI3).ext C1;have Ej:UpT ([Aa] ++ []) A6 A6:=UpT.start (AHp (AH8 Be rfl) all_nil);refine AHo ?_;obtain ⟨Uv,C3,Uw⟩:=AHv Uq;refine AJs AJg rfl B7 rfl C3 fun AEm AEn Ux Mq Uy=>AK1 AKg rfl Ej (fun h' hb=>AQj Uy hb (AVa (B8.dj 1 0 rfl rfl (by decide) _ (by simp [Ux])) AVb)) ?_;obtain ⟨Mr,Ek,Uz⟩:=AHv Uw;refine ALr (m:=0) AJp rfl B7 Mq C3 rfl Ek fun AEo Ms=>?_;obtain ⟨AEp,U0,U3⟩:=B7.cells Ms C3 Ek;obtain rfl:=U0;refine AK1 ALy rfl Ej (fun h' hb=>AQj (U3 0 _ rfl) hb (AVa (B8.dj 1 0 rfl rfl (by decide) _ (B7.gmem Ms)) AVb)) (AHo ?_);obtain ⟨U8,Va,Vb⟩:=AHv Uz;refine AIa (K':=(fun xr h'=> ∃ x:(Int) × (Int),(x.1,x.2)=U8/\xr=(.int .i64 x.1)/\UpT ([Aa] ++ []) A6 h'/\Sp h' h.size [[Aa],C2]/\AI1 126 h' Aa [Ab,(.int .i64 x.2)])) Ej rfl ?_ fun AEq Mt Vc=>?_
    ·refine AHx (l:=[_,_]) mx Tryz.func93 rfl rfl rfl rfl rfl (by kernel_rfl) (ACu (ACv (AHq (ACt (q_t (ACu (ACv (AHo ?_))))))));obtain ⟨Vd,Mu,Ve⟩:=AHv Va;refine AIa (K':=(fun xr h'=> ∃ x:(Int) × (Int),(x.1,x.2)=Vd/\xr=(.int .i64 x.1)/\UpT ([Aa] ++ []) A6 h'/\Sp h' h.size [[Aa],C2]/\AI1 126 h' Aa [Ab,(.int .i64 x.2)])) trivial rfl ?_ fun AEr Mv Vf=>?_
     ·refine AHx (l:=[_]) mx Tryz.func155 rfl rfl rfl rfl rfl (by kernel_rfl) (ACu (ACv (AHq (ACt (q_t (ACu (ACu (ALp (by kernel_rfl) (AHo (AO4 rfl (AJq (fs:=1) AKi (by kernel_rfl) (by decide) rfl (AIr AK3 rfl (Be.cell (i:=1) rfl) (AHo (AO4 rfl (AJq (fs:=1) AOx (by kernel_rfl) (by decide) rfl (AIr ATx rfl (Be.cell (i:=0) rfl) (ALe AUr rfl H4 (AIp rfl rfl (ASm _ _) (ACt (q_t (⟨_,rfl,fun Hy=>?_,fun Hy=>?_⟩)))))))))))))))))))))
      ·refine ACu (ACv (AHq (ACt (q_t (AH1 (AIi ?_))))));have Vg:UpT ([Aa] ++ []) A6 A6:=UpT.start (AHp (AH8 Be rfl) all_nil);refine ⟨_,AH5,((0,0):(Int) × (Int)),?_,rfl,?_,?_,?_⟩
       ·exact AHw (AJ2 Mu Hy)
       ·exact Vg
       ·exact B8
       ·exact Be
      ·refine AH2 (q_t (ACu (ACv (AHo (AO4 rfl (AJq (fs:=1) AKi (by kernel_rfl) (by decide) rfl (AIr AK3 rfl (Be.cell (i:=1) rfl) (AJd rfl rfl (AO4 rfl (AJq (fs:=1) AKi (by kernel_rfl) (by decide) rfl (AYd [Ab,(.int .i64 (w64 (0 + 1)))] AK3 rfl rfl rfl Be (Nat.le_of_ble_eq_true rfl) rfl fun AEs El Vh=>ACt (q_t (ACu (ALp (by kernel_rfl) (AHo (AO4 rfl (AJq (fs:=1) AOx (by kernel_rfl) (by decide) rfl (AIr ATx rfl (El.cell (i:=0) rfl) (AHo (AO4 rfl (AJq (fs:=1) AKi (by kernel_rfl) (by decide) rfl (AIr AK3 rfl (El.cell (i:=1) rfl) (AOv rfl rfl ?_)))))))))))))))))))))));have Em:=El.stA Vh (AH8 Be rfl) rfl;have AEt:=Em.size;obtain ⟨Vi,Vj,Vk⟩:=AHv (AJ3 Mu Hy);refine AR4 (c:=(cI .i8)) AUr rfl H4 rfl Vj fun AEu AEv AEw Vl Vm=>?_;obtain rfl:=Vl;refine AIr Acm rfl (AIc (Vm 0 _ rfl) ((A4.trans C1).thenT Em (B8.loAll 0 rfl))) (AQk Acn APi rfl (AHq (ACt (q_t (AH1 ?_)))));have Vn:UpT ([Aa] ++ []) A6 A6:=UpT.start (AHp (AH8 Be rfl) all_nil);refine ⟨_,AH5,(((w64 Vi),(w64 (0 + 1))):(Int) × (Int)),?_,rfl,?_,?_,?_⟩
       ·exact AHw Vk
       ·exact (Vn.then Em (AH4 rfl))
       ·exact (B8.keep Em.size)
       ·exact El
     obtain ⟨⟨Vo,Mw⟩,Vp,rfl,Mx,Hz,H5⟩:=Vf;replace H5:AI1 126 Mv Aa [Ab,(.int .i64 Mw)]:=H5;replace Hz:Sp Mv h.size [[Aa],C2]:=Hz;have AEx:=Mx.size;refine ⟨trivial,?_⟩;subst Vp;have My:=Ve;(try dsimp only at My);refine AQk APi AUs rfl (AQk AUs AU2 rfl (AHo (AVj rfl rfl (by decide) (AHq (ACt (q_t (AH1 ?_)))))));have Vq:UpT ([Aa] ++ []) A6 A6:=UpT.start (AHp (AH8 Be rfl) all_nil);refine ⟨_,AH5,(((Int.tmod (w64 (IntKind.wrap .u8 Vo)) 3),Mw):(Int) × (Int)),?_,rfl,?_,?_,?_⟩
     ·exact AHw My
     ·exact (Vq.then Mx (AHp (AH4 rfl) all_nil))
     ·exact Hz
     ·exact H5
    obtain ⟨⟨Mz,M0⟩,Vr,rfl,En,Eo,H9⟩:=Vc;replace H9:AI1 126 Mt Aa [Ab,(.int .i64 M0)]:=H9;replace Eo:Sp Mt h.size [[Aa],C2]:=Eo;have AEy:=En.size;refine ⟨(Ej.then En (AHp (AH4 rfl) all_nil)),?_⟩;subst Vr;have M2:=Vb;(try dsimp only at M2);refine AJd rfl rfl (ALr (m:=0) AJp rfl B7 Mq C3 rfl Ek fun AEz Vs=>APj (m:=0) (APe ALy rfl rfl rfl) (B7.upT En (AJc (B8.dj 1 0 rfl rfl (by decide)) AI3)) Vs C3 Ek (show ((cI .i64)).rep _ (w64 (Mr + Mz)) _ from rfl) fun AE0 Vt Ep=>ACt (q_b (q_t ?_)));have AE1:=Ep.size;have Vu:UpT ([Aa] ++ []) Ac Ac:=UpT.start (AHp (AH8 Bb rfl) all_nil);exact ⟨(((sI Uo 0 (sI Uv 0 (w64 (Mr + Mz)))),Ur,C2,Ut,Uu,M0):(LiI) × (Value) × LnA × LnN × LvA × (Int)),⟨AHw M2,((((Vu.then Ao all_nil).thenE C1).then En (AHp (AH4 rfl) all_nil)).then Ep (AJw Mo (by omega))),(Eo.keep Ep.size),Vt,(AJw Mo (by omega)),(H9.upT Ep (Eo.dj 0 1 rfl rfl (by decide)))⟩,rfl,trivial⟩
   ·refine ACu (ACv (AIp rfl rfl (AMi _ _) (AHq (ACt (q_t ?_)))));have M3:=AJ3 Ml Hx;refine ⟨_,rfl,fun Ia=>?_,fun Ia=>?_⟩
    ·refine ACu (ACv (AHo ?_));obtain ⟨Vv,Vw,Vx⟩:=AHv (AJ2 M3 Ia);refine AHy trivial tt2 rfl (AR7 Vw) fun Vy A7 C4 Vz=>?_;obtain ⟨AE2,C5,V1,V2,rfl,B9,M4⟩:=Vz;refine AHq (ACt (q_t (AKf (fun h'=>UpT ([Aa] ++ []) A7 h') (by kernel_rfl) ?_)));have AE3:=C4.1;have Ca:=S64.app M4 C4.1 A4.1;have M5:=M4.loAll 0 rfl;have Bf:=(Bb.upT Ao AI3).ext C4;have Er:UpT ([Aa] ++ []) A7 A7:=UpT.start (AHp (AH8 Bf rfl) all_nil);refine AHo (AHo (AOv rfl rfl ?_));obtain ⟨V6,C6,Wa⟩:=AHv Vx;refine AJs AJg rfl B9 rfl C6 fun AE4 AE5 Wb M6 Wc=>AK1 AKg rfl Er (fun h' hb=>AQj Wc hb (AVa (Ca.dj 1 0 rfl rfl (by decide) _ (by simp [Wb])) AVb)) (AHo (AOv rfl rfl ?_));obtain ⟨M7,Es,Wd⟩:=AHv Wa;refine ALr (m:=(w64 ((w64 (1 + (Int.tmod (w64 a1) Aj))) - 1))) AJp rfl B9 M6 C6 rfl Es fun AE6 M8=>?_;obtain ⟨AE7,We,Wf⟩:=B9.cells M8 C6 Es;obtain rfl:=We;refine AK1 ALy rfl Er (fun h' hb=>AQj (Wf 0 _ rfl) hb (AVa (Ca.dj 1 0 rfl rfl (by decide) _ (B9.gmem M8)) AVb)) (AHo ?_);obtain ⟨Wg,Wh,Wi⟩:=AHv Wd;refine AIa (K':=(fun xr h'=> ∃ x:(Int) × (Int),(x.1,x.2)=Wg/\xr=(.int .i64 x.1)/\UpT ([Aa] ++ []) A7 h'/\Sp h' h.size [[Aa],C5]/\AI1 126 h' Aa [Ab,(.int .i64 x.2)])) Er rfl ?_ fun AE8 M9 Wj=>?_
     ·refine AHx (l:=[_,_]) mx Tryz.func93 rfl rfl rfl rfl rfl (by kernel_rfl) (ACu (ACv (AHq (ACt (q_t (ACu (ACv (AHo ?_))))))));obtain ⟨Wk,Na,Wl⟩:=AHv Wh;refine AIa (K':=(fun xr h'=> ∃ x:(Int) × (Int),(x.1,x.2)=Wk/\xr=(.int .i64 x.1)/\UpT ([Aa] ++ []) A7 h'/\Sp h' h.size [[Aa],C5]/\AI1 126 h' Aa [Ab,(.int .i64 x.2)])) trivial rfl ?_ fun AE9 Nb Wm=>?_
      ·refine AHx (l:=[_]) mx Tryz.func155 rfl rfl rfl rfl rfl (by kernel_rfl) (ACu (ACv (AHq (ACt (q_t (ACu (ACu (ALp (by kernel_rfl) (AHo (AO4 rfl (AJq (fs:=1) AKi (by kernel_rfl) (by decide) rfl (AIr AK3 rfl (Bf.cell (i:=1) rfl) (AHo (AO4 rfl (AJq (fs:=1) AOx (by kernel_rfl) (by decide) rfl (AIr ATx rfl (Bf.cell (i:=0) rfl) (ALe AUr rfl H4 (AIp rfl rfl (ASm _ _) (ACt (q_t (⟨_,rfl,fun Ib=>?_,fun Ib=>?_⟩)))))))))))))))))))))
       ·refine ACu (ACv (AHq (ACt (q_t (AH1 (AIi ?_))))));have Wn:UpT ([Aa] ++ []) A7 A7:=UpT.start (AHp (AH8 Bf rfl) all_nil);refine ⟨_,AH5,((0,0):(Int) × (Int)),?_,rfl,?_,?_,?_⟩
        ·exact AHw (AJ2 Na Ib)
        ·exact Wn
        ·exact Ca
        ·exact Bf
       ·refine AH2 (q_t (ACu (ACv (AHo (AO4 rfl (AJq (fs:=1) AKi (by kernel_rfl) (by decide) rfl (AIr AK3 rfl (Bf.cell (i:=1) rfl) (AJd rfl rfl (AO4 rfl (AJq (fs:=1) AKi (by kernel_rfl) (by decide) rfl (AYd [Ab,(.int .i64 (w64 (0 + 1)))] AK3 rfl rfl rfl Bf (Nat.le_of_ble_eq_true rfl) rfl fun AFa Et Wo=>ACt (q_t (ACu (ALp (by kernel_rfl) (AHo (AO4 rfl (AJq (fs:=1) AOx (by kernel_rfl) (by decide) rfl (AIr ATx rfl (Et.cell (i:=0) rfl) (AHo (AO4 rfl (AJq (fs:=1) AKi (by kernel_rfl) (by decide) rfl (AIr AK3 rfl (Et.cell (i:=1) rfl) (AOv rfl rfl ?_)))))))))))))))))))))));have Eu:=Et.stA Wo (AH8 Bf rfl) rfl;have AFb:=Eu.size;obtain ⟨Wp,Wq,Wr⟩:=AHv (AJ3 Na Ib);refine AR4 (c:=(cI .i8)) AUr rfl H4 rfl Wq fun AFc AFd AFe Ws Wt=>?_;obtain rfl:=Ws;refine AIr Acm rfl (AIc (Wt 0 _ rfl) ((A4.trans C4).thenT Eu (Ca.loAll 0 rfl))) (AQk Acn APi rfl (AHq (ACt (q_t (AH1 ?_)))));have Wu:UpT ([Aa] ++ []) A7 A7:=UpT.start (AHp (AH8 Bf rfl) all_nil);refine ⟨_,AH5,(((w64 Wp),(w64 (0 + 1))):(Int) × (Int)),?_,rfl,?_,?_,?_⟩
        ·exact AHw Wr
        ·exact (Wu.then Eu (AH4 rfl))
        ·exact (Ca.keep Eu.size)
        ·exact Et
      obtain ⟨⟨Wv,Nc⟩,Ww,rfl,Nd,Ic,Id⟩:=Wm;replace Id:AI1 126 Nb Aa [Ab,(.int .i64 Nc)]:=Id;replace Ic:Sp Nb h.size [[Aa],C5]:=Ic;have AFf:=Nd.size;refine ⟨trivial,?_⟩;subst Ww;have Nf:=Wl;(try dsimp only at Nf);refine AQk APi AUs rfl (AQk AUs AU2 rfl (AHo (AVj rfl rfl (by decide) (AHq (ACt (q_t (AH1 ?_)))))));have Wx:UpT ([Aa] ++ []) A7 A7:=UpT.start (AHp (AH8 Bf rfl) all_nil);refine ⟨_,AH5,(((Int.tmod (w64 (IntKind.wrap .u8 Wv)) 2),Nc):(Int) × (Int)),?_,rfl,?_,?_,?_⟩
      ·exact AHw Nf
      ·exact (Wx.then Nd (AHp (AH4 rfl) all_nil))
      ·exact Ic
      ·exact Id
     obtain ⟨⟨Ng,Nh⟩,Wy,rfl,Ev,Ew,Ie⟩:=Wj;replace Ie:AI1 126 M9 Aa [Ab,(.int .i64 Nh)]:=Ie;replace Ew:Sp M9 h.size [[Aa],C5]:=Ew;have AFg:=Ev.size;refine ⟨(Er.then Ev (AHp (AH4 rfl) all_nil)),?_⟩;subst Wy;have Ni:=Wi;(try dsimp only at Ni);refine AJd rfl rfl (ALr (m:=(w64 ((w64 (1 + (Int.tmod (w64 a1) Aj))) - 1))) AJp rfl B9 M6 C6 rfl Es fun AFh Wz=>APj (m:=(w64 ((w64 (1 + (Int.tmod (w64 a1) Aj))) - 1))) (APe ALy rfl rfl rfl) (B9.upT Ev (AJc (Ca.dj 1 0 rfl rfl (by decide)) AI3)) Wz C6 Es (show ((cI .i64)).rep _ (w64 (M7 + Ng)) _ from rfl) fun AFi W0 Ey=>ACt (q_b (q_t ?_)));have AFj:=Ey.size;have W1:UpT ([Aa] ++ []) Ac Ac:=UpT.start (AHp (AH8 Bb rfl) all_nil);exact ⟨(((sI Vv (w64 ((w64 (1 + (Int.tmod (w64 a1) Aj))) - 1)) (sI V6 (w64 ((w64 (1 + (Int.tmod (w64 a1) Aj))) - 1)) (w64 (M7 + Ng)))),Vy,C5,V1,V2,Nh):(LiI) × (Value) × LnA × LnN × LvA × (Int)),⟨AHw Ni,((((W1.then Ao all_nil).thenE C4).then Ev (AHp (AH4 rfl) all_nil)).then Ey (AJw M5 (by omega))),(Ew.keep Ey.size),W0,(AJw M5 (by omega)),(Ie.upT Ey (Ew.dj 0 1 rfl rfl (by decide)))⟩,rfl,trivial⟩
    ·refine ACu (ACv (AIp rfl rfl (AMi _ _) (AHq (ACt (q_t ?_)))));have Nj:=AJ3 M3 Ia;refine ⟨_,rfl,fun If=>?_,fun If=>?_⟩
     ·refine ACv (AHo (AHo ?_));obtain ⟨W3,W4,W5⟩:=AHv (AJ2 Nj If);have Nk:=Bb.upT Ao AI3;refine AIa (K':=(fun xr h'=> ∃ x:(LiI) × (Value) × LnA × LnN × LvA × (Int),(x.1,x.2.2.2.2.2)=W3/\xr=x.2.1/\UpT ([Aa] ++ []) Ad h'/\Sp h' h.size [[Aa],x.2.2.1]/\AI4 (cI .i64) 60 2 h' x.2.2.1 x.2.2.2.1 x.2.2.2.2.1 x.2.1 x.1/\(∀ z∈x.2.2.1,z∈([Aa] ++ [])∨Array.size Ad<=z)/\AI1 126 h' Aa [Ab,(.int .i64 x.2.2.2.2.2)])) trivial rfl ?_ fun Ih Ii W6=>?_
      ·refine AHx (l:=[_,_,_]) mx Tryz.func94 rfl rfl rfl rfl rfl (by kernel_rfl) (ACu (ACv (AHq (ACt (q_t (ACu (ACv (AHo ?_))))))));obtain ⟨W7,W8⟩:=ifN W4;refine AYe (cI .i64) 2 AJg AYr rfl trivial tt2 rfl rfl (by decide) W7 fun Ez W9 Xa Ij Ik Il C7 Nl=>AHq (ACt (q_t (ACu (ACu (ACv (AHo (AKc AJg rfl Il.rd (AHo (ACt (q_t (AHz ?_)))))))))));have AFk:=C7.1;have Im:=S64.app Nl C7.1 A4.1;have Nm:=Nl.loAll 0 rfl;obtain ⟨Nn,Xb,Xc⟩:=AHv W8;obtain ⟨Xd,Xe,Xf⟩:=AI0 Xb;have Np:=Nk.ext C7;refine AIy 4294959360 (fun x:(Int) × (Int) × (LiI) × LnA × LnN × LvA=>[(13,(.int .i64 x.1))]) (fun (k:Nat) (x:(Int) × (Int) × (LiI) × LnA × LnN × LvA) (h':AHr)=>iter Xd k (x.1,x.2.1,x.2.2.1)=some Nn/\UpT (Ez ++ ([Aa] ++ [])) Ik h'/\Sp h' h.size [[Aa],x.2.2.2.1]/\AI4 (cI .i64) 60 2 h' x.2.2.2.1 x.2.2.2.2.1 x.2.2.2.2.2 Ij x.2.2.1/\(∀ z∈x.2.2.2.1,z∈(Ez ++ ([Aa] ++ []))∨Array.size Ik<=z)/\AI1 126 h' Aa [Ab,(.int .i64 x.2.1)]) (by kernel_rfl) fuel ((0,0,(List.replicate (Int.toNat (w64 (1 + (Int.tmod (w64 a1) Aj)))) ([]:List Int)),Ez,W9,Xa):(Int) × (Int) × (LiI) × LnA × LnN × LvA) ?_ ⟨rfl,trivial⟩ ?_
       ·exact ⟨Xf,UpT.start (AHp Il.notD (AHp (AH8 Np rfl) all_nil)),Im,Il,(AH4 rfl),Np⟩
       rintro AFl ⟨Af,C8,Io,C9,Av,Ip⟩ Xg Fa ⟨Xh,Fb,Fc,Fd,Cb,Fe⟩;replace Fd:AI4 (cI .i64) 60 2 Fa C9 Av Ip Ij Io:=Fd;replace Cb:∀ z∈C9,z∈(Ez ++ ([Aa] ++ []))∨Array.size Ik<=z:=Cb;replace Fe:AI1 126 Fa Aa [Ab,(.int .i64 C8)]:=Fe;replace Fc:Sp Fa h.size [[Aa],C9]:=Fc;refine (show W _ _ _ (setL [(13,(.int .i64 Af))] (mix _ Xg _)) Fa from ?_);have AFm:=Fb.size;have Nq:=(A4.trans C7).thenT Fb (AHp (Im.loAll 1 rfl) (AHp (Im.loAll 0 rfl) all_nil));obtain ⟨Xi,AFn,rfl,Da,Nr⟩:=AIs Xh;rw [Xe] at Da;dsimp only at Da;unfold ALh at Da;refine ACu (ACv (AIp rfl rfl (AI6 _ _) (ACt (q_t (ACu (⟨_,rfl,fun Iq=>?_,fun Iq=>?_⟩))))))
       ·refine AH2 (q_t (ACu (AHz (ACu (ACv (AHo (AHq (ACt (q_t (ACu (ACv (AHo (AHo (AHo ?_))))))))))))));obtain ⟨Xj,Xk⟩:=ifN (AJ2 Da Iq);refine Aag (c:=(cI .i64)) (a:=0) AJp AW7 rfl rfl (fun _=>rfl) rfl trivial tt2 rfl rfl (by decide) Xj fun A8 Xl Xm Xn Cd Xo Xp=>?_;have Ns:=ARl Xo Xp;have AFo:=Cd.1;have Nt:=Nq.trans Cd;have Ff:=Fc.app Ns Cd.1 Nq.1;have Nu:=Ns.loAll 0 rfl;obtain ⟨AFp,Nv,Xq⟩:=AHv Xk;have Nw:=Fd.ext Cd;refine AJs AJg rfl Nw rfl Nv fun Bl AFq Xr AFr AFs=>AZg AKg Nw Nv Xr rfl rfl Xn (Ff.dj 2 1 rfl rfl (by decide)) fun Aw Db Dc Xt=>?_;have Ir:∀ z∈(Bl :: (Av.set (Int.toNat Af) [A8]).flatten),z∈C9 ++ [A8]∨Array.size Xm<=z:=(fun z hz=> .inl (Xt z hz));have AFt:=Dc.size;have Dd:Sp Aw h.size [(Bl :: (Av.set (Int.toNat Af) [A8]).flatten),[Aa]]:=(((Ff.sel [1,2,0] (by decide))).mrg).put 0 rfl Db.nodup Dc.size Nt.1 Db.lt Ir;refine ACt (q_t (AKf (fun h'=>UpT ([Aa] ++ []) Aw h') (by kernel_rfl) ?_));have Bg:=(Fe.ext Cd).upT Dc (Ff.dj 0 1 rfl rfl (by decide));have Is:UpT ([Aa] ++ []) Aw Aw:=UpT.start (AHp (AH8 Bg rfl) all_nil);refine AHo (AHo ?_);obtain ⟨Xu,It,Xv⟩:=AHv Xq;refine AJs AJg rfl Db rfl It fun AFu AFv Xw Xx Xy=>AK1 AKg rfl Is (fun h' hb=>AQj Xy hb (AVa (Dd.dj 0 1 rfl rfl (by decide) _ (by simp [Xw])) AVb)) (AHo (AHo (AHo ?_)));obtain ⟨Xz,X0,X3⟩:=AHv Xv;refine AIa (K':=(fun xr h'=> ∃ x:(Int) × (Int),(x.1,x.2)=Xz/\xr=(.int .i64 x.1)/\UpT ([Aa] ++ []) Aw h'/\Sp h' h.size [(Bl :: (Av.set (Int.toNat Af) [A8]).flatten),[Aa]]/\AI1 126 h' Aa [Ab,(.int .i64 x.2)])) Is rfl ?_ fun AFw Ny X4=>?_
        ·refine AHx (l:=[_,_]) mx Tryz.func93 rfl rfl rfl rfl rfl (by kernel_rfl) (ACu (ACv (AHq (ACt (q_t (ACu (ACv (AHo ?_))))))));obtain ⟨X5,Nz,X6⟩:=AHv X0;refine AIa (K':=(fun xr h'=> ∃ x:(Int) × (Int),(x.1,x.2)=X5/\xr=(.int .i64 x.1)/\UpT ([Aa] ++ []) Aw h'/\Sp h' h.size [(Bl :: (Av.set (Int.toNat Af) [A8]).flatten),[Aa]]/\AI1 126 h' Aa [Ab,(.int .i64 x.2)])) trivial rfl ?_ fun AFx N0 X8=>?_
         ·refine AHx (l:=[_]) mx Tryz.func155 rfl rfl rfl rfl rfl (by kernel_rfl) (ACu (ACv (AHq (ACt (q_t (ACu (ACu (ALp (by kernel_rfl) (AHo (AO4 rfl (AJq (fs:=1) AKi (by kernel_rfl) (by decide) rfl (AIr AK3 rfl (Bg.cell (i:=1) rfl) (AHo (AO4 rfl (AJq (fs:=1) AOx (by kernel_rfl) (by decide) rfl (AIr ATx rfl (Bg.cell (i:=0) rfl) (ALe AUr rfl H4 (AIp rfl rfl (ASm _ _) (ACt (q_t (⟨_,rfl,fun Iu=>?_,fun Iu=>?_⟩)))))))))))))))))))))
          ·refine ACu (ACv (AHq (ACt (q_t (AH1 (AIi ?_))))));have Ya:UpT ([Aa] ++ []) Aw Aw:=UpT.start (AHp (AH8 Bg rfl) all_nil);refine ⟨_,AH5,((0,C8):(Int) × (Int)),?_,rfl,?_,?_,?_⟩
           ·exact AHw (AJ2 Nz Iu)
           ·exact Ya
           ·exact Dd
           ·exact Bg
          ·refine AH2 (q_t (ACu (ACv (AHo (AO4 rfl (AJq (fs:=1) AKi (by kernel_rfl) (by decide) rfl (AIr AK3 rfl (Bg.cell (i:=1) rfl) (AJd rfl rfl (AO4 rfl (AJq (fs:=1) AKi (by kernel_rfl) (by decide) rfl (AYd [Ab,(.int .i64 (w64 (C8 + 1)))] AK3 rfl rfl rfl Bg (Nat.le_of_ble_eq_true rfl) rfl fun Yb Fg Yc=>?_)))))))))));have Fh:=Fg.stA Yc (AH8 Bg rfl) rfl;have AFy:=Fh.size;have Yd:Sp Yb h.size [(Bl :: (Av.set (Int.toNat Af) [A8]).flatten),[Aa]]:=Dd.keep Fh.size;refine ACt (q_t (ACu (ALp (by kernel_rfl) (AHo (AO4 rfl (AJq (fs:=1) AOx (by kernel_rfl) (by decide) rfl (AIr ATx rfl (Fg.cell (i:=0) rfl) (AHo (AO4 rfl (AJq (fs:=1) AKi (by kernel_rfl) (by decide) rfl (AIr AK3 rfl (Fg.cell (i:=1) rfl) (AOv rfl rfl ?_))))))))))));obtain ⟨Ye,Yf,Yg⟩:=AHv (AJ3 Nz Iu);refine AR4 (c:=(cI .i8)) AUr rfl H4 rfl Yf fun AFz AF0 AF1 Yh Yi=>?_;obtain rfl:=Yh;refine AIr Acm rfl (AIc (Yi 0 _ rfl) ((Nt.thenT Dc (Ff.loAll 1 rfl)).thenT Fh (Dd.loAll 1 rfl))) (AQk Acn APi rfl (AHq (ACt (q_t (AH1 ?_)))));have Yj:UpT ([Aa] ++ []) Aw Aw:=UpT.start (AHp (AH8 Bg rfl) all_nil);refine ⟨_,AH5,(((w64 Ye),(w64 (C8 + 1))):(Int) × (Int)),?_,rfl,?_,?_,?_⟩
           ·exact AHw Yg
           ·exact (Yj.then Fh (AH4 rfl))
           ·exact Yd
           ·exact Fg
         obtain ⟨⟨Yk,N3⟩,Yl,rfl,N4,Iv,Iw⟩:=X8;replace Iw:AI1 126 N0 Aa [Ab,(.int .i64 N3)]:=Iw;replace Iv:Sp N0 h.size [(Bl :: (Av.set (Int.toNat Af) [A8]).flatten),[Aa]]:=Iv;have AF2:=N4.size;refine ⟨trivial,?_⟩;subst Yl;have N5:=X6;(try dsimp only at N5);refine AQk APi AUs rfl (AQk AUs AU2 rfl (AHo (AVj rfl rfl (by decide) (AHq (ACt (q_t (AH1 ?_)))))));have Ym:UpT ([Aa] ++ []) Aw Aw:=UpT.start (AHp (AH8 Bg rfl) all_nil);refine ⟨_,AH5,(((Int.tmod (w64 (IntKind.wrap .u8 Yk)) 9),N3):(Int) × (Int)),?_,rfl,?_,?_,?_⟩
         ·exact AHw N5
         ·exact (Ym.then N4 (AHp (AH4 rfl) all_nil))
         ·exact Iv
         ·exact Iw
        obtain ⟨⟨N6,N7⟩,Yn,rfl,Fi,Fj,Ix⟩:=X4;replace Ix:AI1 126 Ny Aa [Ab,(.int .i64 N7)]:=Ix;replace Fj:Sp Ny h.size [(Bl :: (Av.set (Int.toNat Af) [A8]).flatten),[Aa]]:=Fj;have AF3:=Fi.size;refine ⟨(Is.then Fi (AHp (AH4 rfl) all_nil)),?_⟩;subst Yn;have N8:=X3;(try dsimp only at N8);refine AJd rfl rfl ?_;obtain ⟨AF4,N9,Yo⟩:=AHv N8;refine ALr (m:=Af) AJp rfl Db Xx It rfl N9 fun AF5 Yp=>APj (m:=Af) (APe ALy rfl rfl rfl) (Db.upT Fi (AJc (Dd.dj 0 1 rfl rfl (by decide)) AI3)) Yp It N9 (show ((cI .i64)).rep _ (w64 (1 + N6)) _ from rfl) fun Yq Yr Fk=>?_;have AF6:=Fk.size;have Ys:Sp Yq h.size [(Bl :: (Av.set (Int.toNat Af) [A8]).flatten),[Aa]]:=Fj.keep Fk.size;refine ACt (q_b (q_t (ACv (AJd rfl rfl (AHo (ACt (q_t ?_)))))));obtain rfl:=AHw Yo;exact ⟨Xi,(((w64 (Af + 1)),N7,(sI (sI Io Af (List.replicate (Int.toNat (w64 (1 + (Int.tmod (w64 a1) Aj)))) (0:Int))) Af (sI Xu Af (w64 (1 + N6)))),(Bl :: (Av.set (Int.toNat Af) [A8]).flatten),(Av.set (Int.toNat Af) [A8]),(Ip.set (Int.toNat Af) Xl)):(Int) × (Int) × (LiI) × LnA × LnN × LvA),Nat.lt_succ_self _,⟨Nr,((((Fb.thenE Cd).then Dc (AH6 Cb (AHp (AH4 rfl) (AHp (ALf (AH4 rfl)) all_nil)) (by omega))).then Fi (AHp (ALf (AH4 rfl)) all_nil)).then Fk (AH6 Ir (AHp (AH6 Cb (AHp (AH4 rfl) (AHp (ALf (AH4 rfl)) all_nil)) (by omega)) (AJw Nu (by omega))) (by omega))),(Ys.sel [1,0] (by decide)),Yr,(AH6 Ir (AHp (AH6 Cb (AHp (AH4 rfl) (AHp (ALf (AH4 rfl)) all_nil)) (by omega)) (AJw Nu (by omega))) (by omega)),(Ix.upT Fk (Fj.dj 1 0 rfl rfl (by decide)))⟩,rfl,trivial⟩
       ·obtain rfl:=AHw (AJ3 Da Iq);have Oa:=Nr;change _=Nn at Oa;subst Oa;have Ob:=Xc;(try dsimp only at Ob);refine AIo (AIq (AIq (AJ5 (q_t (ACu (ACv (AHo (AHq (ACt (q_t (AH1 ?_)))))))))));have Yt:UpT ([Aa] ++ []) Ad Ad:=UpT.start (AHp (AH8 Nk rfl) all_nil);refine ⟨_,AH5,((Io,Ij,C9,Av,Ip,C8):(LiI) × (Value) × LnA × LnN × LvA × (Int)),?_,rfl,?_,?_,?_,?_,?_⟩
        ·exact AHw Ob
        ·exact ((Yt.thenE C7).then Fb (AHp (AJw Nm (by omega)) (AHp (AH4 rfl) all_nil)))
        ·exact Fc
        ·exact Fd
        ·exact (AH6 Cb (AHp (AJw Nm (by omega)) (AHp (AH4 rfl) all_nil)) (by omega))
        ·exact Fe
      obtain ⟨⟨Oc,Ih,Fl,Od,Oe,Og⟩,Yu,rfl,Oh,Iy,Iz,I0,I1⟩:=W6;replace Iz:AI4 (cI .i64) 60 2 Ii Fl Od Oe Ih Oc:=Iz;replace I0:∀ z∈Fl,z∈([Aa] ++ [])∨Array.size Ad<=z:=I0;replace I1:AI1 126 Ii Aa [Ab,(.int .i64 Og)]:=I1;replace Iy:Sp Ii h.size [[Aa],Fl]:=Iy;have AF7:=Oh.size;refine ⟨trivial,?_⟩;subst Yu;have Oi:=W5;(try dsimp only at Oi);refine AHq (ACt (q_b (q_t ?_)));have Yv:UpT ([Aa] ++ []) Ac Ac:=UpT.start (AHp (AH8 Bb rfl) all_nil);exact ⟨((Oc,Ih,Fl,Od,Oe,Og):(LiI) × (Value) × LnA × LnN × LvA × (Int)),⟨AHw Oi,((Yv.then Ao all_nil).then Oh (AHp (AH4 rfl) all_nil)),Iy,Iz,(AH6 I0 (AHp (AH4 rfl) all_nil) (by omega)),I1⟩,rfl,trivial⟩
     ·refine ACv (AHo (AHo ?_));obtain ⟨Yw,Yx,Yy⟩:=AHv (AJ3 Nj If);have Oj:=Bb.upT Ao AI3;refine AIa (K':=(fun xr h'=> ∃ x:(LiI) × (Value) × LnA × LnN × LvA × (Int),(x.1,x.2.2.2.2.2)=Yw/\xr=x.2.1/\UpT ([Aa] ++ []) Ad h'/\Sp h' h.size [[Aa],x.2.2.1]/\AI4 (cI .i64) 60 2 h' x.2.2.1 x.2.2.2.1 x.2.2.2.2.1 x.2.1 x.1/\(∀ z∈x.2.2.1,z∈([Aa] ++ [])∨Array.size Ad<=z)/\AI1 126 h' Aa [Ab,(.int .i64 x.2.2.2.2.2)])) trivial rfl ?_ fun I2 I3 Yz=>?_
      ·refine AHx (l:=[_,_,_]) mx Tryz.func94 rfl rfl rfl rfl rfl (by kernel_rfl) (ACu (ACv (AHq (ACt (q_t (ACu (ACv (AHo ?_))))))));obtain ⟨Y1,Y2⟩:=ifN Yx;refine AYe (cI .i64) 2 AJg AYr rfl trivial tt2 rfl rfl (by decide) Y1 fun Fm Y3 Y4 I6 I9 Ja De Ol=>AHq (ACt (q_t (ACu (ACu (ACv (AHo (AKc AJg rfl Ja.rd (AHo (ACt (q_t (AHz ?_)))))))))));have AF8:=De.1;have Jc:=S64.app Ol De.1 A4.1;have Om:=Ol.loAll 0 rfl;obtain ⟨On,Y5,Y6⟩:=AHv Y2;obtain ⟨Y7,Y8,Y9⟩:=AI0 Y5;have Oo:=Oj.ext De;refine AIy 4294959360 (fun x:(Int) × (Int) × (LiI) × LnA × LnN × LvA=>[(13,(.int .i64 x.1))]) (fun (k:Nat) (x:(Int) × (Int) × (LiI) × LnA × LnN × LvA) (h':AHr)=>iter Y7 k (x.1,x.2.1,x.2.2.1)=some On/\UpT (Fm ++ ([Aa] ++ [])) I9 h'/\Sp h' h.size [[Aa],x.2.2.2.1]/\AI4 (cI .i64) 60 2 h' x.2.2.2.1 x.2.2.2.2.1 x.2.2.2.2.2 I6 x.2.2.1/\(∀ z∈x.2.2.2.1,z∈(Fm ++ ([Aa] ++ []))∨Array.size I9<=z)/\AI1 126 h' Aa [Ab,(.int .i64 x.2.1)]) (by kernel_rfl) fuel ((0,0,(List.replicate (Int.toNat (w64 (1 + (Int.tmod (w64 a1) Aj)))) ([]:List Int)),Fm,Y3,Y4):(Int) × (Int) × (LiI) × LnA × LnN × LvA) ?_ ⟨rfl,trivial⟩ ?_
       ·exact ⟨Y9,UpT.start (AHp Ja.notD (AHp (AH8 Oo rfl) all_nil)),Jc,Ja,(AH4 rfl),Oo⟩
       rintro AF9 ⟨Ag,Df,Je,Dg,Ax,Jf⟩ Za Fo ⟨Zb,Fp,Fq,Fr,Ce,Ft⟩;replace Fr:AI4 (cI .i64) 60 2 Fo Dg Ax Jf I6 Je:=Fr;replace Ce:∀ z∈Dg,z∈(Fm ++ ([Aa] ++ []))∨Array.size I9<=z:=Ce;replace Ft:AI1 126 Fo Aa [Ab,(.int .i64 Df)]:=Ft;replace Fq:Sp Fo h.size [[Aa],Dg]:=Fq;refine (show W _ _ _ (setL [(13,(.int .i64 Ag))] (mix _ Za _)) Fo from ?_);have AGa:=Fp.size;have Oq:=(A4.trans De).thenT Fp (AHp (Jc.loAll 1 rfl) (AHp (Jc.loAll 0 rfl) all_nil));obtain ⟨Zd,AGb,rfl,Dh,Ot⟩:=AIs Zb;rw [Y8] at Dh;dsimp only at Dh;unfold ALi at Dh;refine ACu (ACv (AIp rfl rfl (AI6 _ _) (ACt (q_t (ACu (⟨_,rfl,fun Jg=>?_,fun Jg=>?_⟩))))))
       ·refine AH2 (q_t (ACu (AHz (ACu (ACv (AHo (AHq (ACt (q_t (ACu (ACv (AHo (AHo (AHo ?_))))))))))))));obtain ⟨Ze,Zf⟩:=ifN (AJ2 Dh Jg);refine Aag (c:=(cI .i64)) (a:=0) AJp AW7 rfl rfl (fun _=>rfl) rfl trivial tt2 rfl rfl (by decide) Ze fun A9 Zg Zh Zj Cf Zk Zl=>?_;have Ou:=ARl Zk Zl;have AGc:=Cf.1;have Ov:=Oq.trans Cf;have Fu:=Fq.app Ou Cf.1 Oq.1;have Ow:=Ou.loAll 0 rfl;obtain ⟨AGd,Ox,Zm⟩:=AHv Zf;have Oy:=Fr.ext Cf;refine AJs AJg rfl Oy rfl Ox fun Bm AGe Zn AGf AGg=>AZg AKg Oy Ox Zn rfl rfl Zj (Fu.dj 2 1 rfl rfl (by decide)) fun Ay Di Dj Zo=>?_;have Jh:∀ z∈(Bm :: (Ax.set (Int.toNat Ag) [A9]).flatten),z∈Dg ++ [A9]∨Array.size Zh<=z:=(fun z hz=> .inl (Zo z hz));have AGh:=Dj.size;have Dk:Sp Ay h.size [(Bm :: (Ax.set (Int.toNat Ag) [A9]).flatten),[Aa]]:=(((Fu.sel [1,2,0] (by decide))).mrg).put 0 rfl Di.nodup Dj.size Ov.1 Di.lt Jh;refine ACt (q_t (AKf (fun h'=>UpT ([Aa] ++ []) Ay h') (by kernel_rfl) ?_));have Bh:=(Ft.ext Cf).upT Dj (Fu.dj 0 1 rfl rfl (by decide));have Ji:UpT ([Aa] ++ []) Ay Ay:=UpT.start (AHp (AH8 Bh rfl) all_nil);refine AHo (AHo ?_);obtain ⟨Zp,Jj,Zq⟩:=AHv Zm;refine AJs AJg rfl Di rfl Jj fun AGi AGj Zr Zs Zt=>AK1 AKg rfl Ji (fun h' hb=>AQj Zt hb (AVa (Dk.dj 0 1 rfl rfl (by decide) _ (by simp [Zr])) AVb)) (AHo (AHo (AHo ?_)));obtain ⟨Zu,Zv,Zw⟩:=AHv Zq;refine AIa (K':=(fun xr h'=> ∃ x:(Int) × (Int),(x.1,x.2)=Zu/\xr=(.int .i64 x.1)/\UpT ([Aa] ++ []) Ay h'/\Sp h' h.size [(Bm :: (Ax.set (Int.toNat Ag) [A9]).flatten),[Aa]]/\AI1 126 h' Aa [Ab,(.int .i64 x.2)])) Ji rfl ?_ fun AGk Oz Zx=>?_
        ·refine AHx (l:=[_,_]) mx Tryz.func93 rfl rfl rfl rfl rfl (by kernel_rfl) (ACu (ACv (AHq (ACt (q_t (ACu (ACv (AHo ?_))))))));obtain ⟨Zy,O0,Zz⟩:=AHv Zv;refine AIa (K':=(fun xr h'=> ∃ x:(Int) × (Int),(x.1,x.2)=Zy/\xr=(.int .i64 x.1)/\UpT ([Aa] ++ []) Ay h'/\Sp h' h.size [(Bm :: (Ax.set (Int.toNat Ag) [A9]).flatten),[Aa]]/\AI1 126 h' Aa [Ab,(.int .i64 x.2)])) trivial rfl ?_ fun AGl O1 Z1=>?_
         ·refine AHx (l:=[_]) mx Tryz.func155 rfl rfl rfl rfl rfl (by kernel_rfl) (ACu (ACv (AHq (ACt (q_t (ACu (ACu (ALp (by kernel_rfl) (AHo (AO4 rfl (AJq (fs:=1) AKi (by kernel_rfl) (by decide) rfl (AIr AK3 rfl (Bh.cell (i:=1) rfl) (AHo (AO4 rfl (AJq (fs:=1) AOx (by kernel_rfl) (by decide) rfl (AIr ATx rfl (Bh.cell (i:=0) rfl) (ALe AUr rfl H4 (AIp rfl rfl (ASm _ _) (ACt (q_t (⟨_,rfl,fun Jk=>?_,fun Jk=>?_⟩)))))))))))))))))))))
          ·refine ACu (ACv (AHq (ACt (q_t (AH1 (AIi ?_))))));have Z4:UpT ([Aa] ++ []) Ay Ay:=UpT.start (AHp (AH8 Bh rfl) all_nil);refine ⟨_,AH5,((0,Df):(Int) × (Int)),?_,rfl,?_,?_,?_⟩
           ·exact AHw (AJ2 O0 Jk)
           ·exact Z4
           ·exact Dk
           ·exact Bh
          ·refine AH2 (q_t (ACu (ACv (AHo (AO4 rfl (AJq (fs:=1) AKi (by kernel_rfl) (by decide) rfl (AIr AK3 rfl (Bh.cell (i:=1) rfl) (AJd rfl rfl (AO4 rfl (AJq (fs:=1) AKi (by kernel_rfl) (by decide) rfl (AYd [Ab,(.int .i64 (w64 (Df + 1)))] AK3 rfl rfl rfl Bh (Nat.le_of_ble_eq_true rfl) rfl fun AAa Fv AAb=>?_)))))))))));have Fw:=Fv.stA AAb (AH8 Bh rfl) rfl;have AGm:=Fw.size;have AAc:Sp AAa h.size [(Bm :: (Ax.set (Int.toNat Ag) [A9]).flatten),[Aa]]:=Dk.keep Fw.size;refine ACt (q_t (ACu (ALp (by kernel_rfl) (AHo (AO4 rfl (AJq (fs:=1) AOx (by kernel_rfl) (by decide) rfl (AIr ATx rfl (Fv.cell (i:=0) rfl) (AHo (AO4 rfl (AJq (fs:=1) AKi (by kernel_rfl) (by decide) rfl (AIr AK3 rfl (Fv.cell (i:=1) rfl) (AOv rfl rfl ?_))))))))))));obtain ⟨AAd,AAe,AAf⟩:=AHv (AJ3 O0 Jk);refine AR4 (c:=(cI .i8)) AUr rfl H4 rfl AAe fun AGn AGo AGp AAg AAh=>?_;obtain rfl:=AAg;refine AIr Acm rfl (AIc (AAh 0 _ rfl) ((Ov.thenT Dj (Fu.loAll 1 rfl)).thenT Fw (Dk.loAll 1 rfl))) (AQk Acn APi rfl (AHq (ACt (q_t (AH1 ?_)))));have AAi:UpT ([Aa] ++ []) Ay Ay:=UpT.start (AHp (AH8 Bh rfl) all_nil);refine ⟨_,AH5,(((w64 AAd),(w64 (Df + 1))):(Int) × (Int)),?_,rfl,?_,?_,?_⟩
           ·exact AHw AAf
           ·exact (AAi.then Fw (AH4 rfl))
           ·exact AAc
           ·exact Fv
         obtain ⟨⟨AAj,O2⟩,AAk,rfl,O3,Jl,Jm⟩:=Z1;replace Jm:AI1 126 O1 Aa [Ab,(.int .i64 O2)]:=Jm;replace Jl:Sp O1 h.size [(Bm :: (Ax.set (Int.toNat Ag) [A9]).flatten),[Aa]]:=Jl;have AGq:=O3.size;refine ⟨trivial,?_⟩;subst AAk;have O4:=Zz;(try dsimp only at O4);refine AQk APi AUs rfl (AQk AUs AU2 rfl (AHo (AVj rfl rfl (by decide) (AHq (ACt (q_t (AH1 ?_)))))));have AAl:UpT ([Aa] ++ []) Ay Ay:=UpT.start (AHp (AH8 Bh rfl) all_nil);refine ⟨_,AH5,(((Int.tmod (w64 (IntKind.wrap .u8 AAj)) 1),O2):(Int) × (Int)),?_,rfl,?_,?_,?_⟩
         ·exact AHw O4
         ·exact (AAl.then O3 (AHp (AH4 rfl) all_nil))
         ·exact Jl
         ·exact Jm
        obtain ⟨⟨O5,O6⟩,AAm,rfl,Fx,Fy,Jn⟩:=Zx;replace Jn:AI1 126 Oz Aa [Ab,(.int .i64 O6)]:=Jn;replace Fy:Sp Oz h.size [(Bm :: (Ax.set (Int.toNat Ag) [A9]).flatten),[Aa]]:=Fy;have AGr:=Fx.size;refine ⟨(Ji.then Fx (AHp (AH4 rfl) all_nil)),?_⟩;subst AAm;have O7:=Zw;(try dsimp only at O7);refine AJd rfl rfl ?_;obtain ⟨AGs,O8,AAn⟩:=AHv O7;refine ALr (m:=Ag) AJp rfl Di Zs Jj rfl O8 fun AGt AAo=>APj (m:=Ag) (APe ALy rfl rfl rfl) (Di.upT Fx (AJc (Dk.dj 0 1 rfl rfl (by decide)) AI3)) AAo Jj O8 (show ((cI .i64)).rep _ (w64 (1 + O5)) _ from rfl) fun AAp AAq Fz=>?_;have AGu:=Fz.size;have AAr:Sp AAp h.size [(Bm :: (Ax.set (Int.toNat Ag) [A9]).flatten),[Aa]]:=Fy.keep Fz.size;refine ACt (q_b (q_t (ACv (AJd rfl rfl (AHo (ACt (q_t ?_)))))));obtain rfl:=AHw AAn;exact ⟨Zd,(((w64 (Ag + 1)),O6,(sI (sI Je Ag (List.replicate (Int.toNat (w64 (1 + (Int.tmod (w64 a1) Aj)))) (0:Int))) Ag (sI Zp Ag (w64 (1 + O5)))),(Bm :: (Ax.set (Int.toNat Ag) [A9]).flatten),(Ax.set (Int.toNat Ag) [A9]),(Jf.set (Int.toNat Ag) Zg)):(Int) × (Int) × (LiI) × LnA × LnN × LvA),Nat.lt_succ_self _,⟨Ot,((((Fp.thenE Cf).then Dj (AH6 Ce (AHp (AH4 rfl) (AHp (ALf (AH4 rfl)) all_nil)) (by omega))).then Fx (AHp (ALf (AH4 rfl)) all_nil)).then Fz (AH6 Jh (AHp (AH6 Ce (AHp (AH4 rfl) (AHp (ALf (AH4 rfl)) all_nil)) (by omega)) (AJw Ow (by omega))) (by omega))),(AAr.sel [1,0] (by decide)),AAq,(AH6 Jh (AHp (AH6 Ce (AHp (AH4 rfl) (AHp (ALf (AH4 rfl)) all_nil)) (by omega)) (AJw Ow (by omega))) (by omega)),(Jn.upT Fz (Fy.dj 1 0 rfl rfl (by decide)))⟩,rfl,trivial⟩
       ·obtain rfl:=AHw (AJ3 Dh Jg);have O9:=Ot;change _=On at O9;subst O9;have Pa:=Y6;(try dsimp only at Pa);refine AIo (AIq (AIq (AJ5 (q_t (ACu (ACv (AHo (AHq (ACt (q_t (AH1 ?_)))))))))));have AAs:UpT ([Aa] ++ []) Ad Ad:=UpT.start (AHp (AH8 Oj rfl) all_nil);refine ⟨_,AH5,((Je,I6,Dg,Ax,Jf,Df):(LiI) × (Value) × LnA × LnN × LvA × (Int)),?_,rfl,?_,?_,?_,?_,?_⟩
        ·exact AHw Pa
        ·exact ((AAs.thenE De).then Fp (AHp (AJw Om (by omega)) (AHp (AH4 rfl) all_nil)))
        ·exact Fq
        ·exact Fr
        ·exact (AH6 Ce (AHp (AJw Om (by omega)) (AHp (AH4 rfl) all_nil)) (by omega))
        ·exact Ft
      obtain ⟨⟨Pb,I2,F4,Pc,Pd,Pe⟩,AAt,rfl,Pf,Jo,Jp,Jq,Jr⟩:=Yz;replace Jp:AI4 (cI .i64) 60 2 I3 F4 Pc Pd I2 Pb:=Jp;replace Jq:∀ z∈F4,z∈([Aa] ++ [])∨Array.size Ad<=z:=Jq;replace Jr:AI1 126 I3 Aa [Ab,(.int .i64 Pe)]:=Jr;replace Jo:Sp I3 h.size [[Aa],F4]:=Jo;have AGv:=Pf.size;refine ⟨trivial,?_⟩;subst AAt;have Pg:=Yy;(try dsimp only at Pg);refine AHq (ACt (q_b (q_t ?_)));have AAu:UpT ([Aa] ++ []) Ac Ac:=UpT.start (AHp (AH8 Bb rfl) all_nil);exact ⟨((Pb,I2,F4,Pc,Pd,Pe):(LiI) × (Value) × LnA × LnN × LvA × (Int)),⟨AHw Pg,((AAu.then Ao all_nil).then Pf (AHp (AH4 rfl) all_nil)),Jo,Jp,(AH6 Jq (AHp (AH4 rfl) all_nil) (by omega)),Jr⟩,rfl,trivial⟩
 rintro ⟨AAv,Ph,Am,AAw,AAx,Pj⟩ AAy F5 ⟨AAz,Pk,Js,F6,Pl,Jt⟩;replace F6:AI4 (cI .i64) 60 2 F5 Am AAw AAx Ph AAv:=F6;replace Pl:∀ z∈Am,z∈([Aa] ++ [])∨Array.size Ac<=z:=Pl;replace Jt:AI1 126 F5 Aa [Ab,(.int .i64 Pj)]:=Jt;replace Js:Sp F5 h.size [[Aa],Am]:=Js;refine (show W _ _ _ (setL [(7,Ph)] (mix _ AAy _)) F5 from ?_);have AGw:=Pk.size;subst AAz;have Pm:=Qr;(try dsimp only at Pm);refine ACu (ACu (ACv (AHo ?_)));obtain ⟨AGx,AA0,Pn⟩:=AHv Pm;refine AHy trivial tt2 rfl (AWj F6.rd AA0) fun AGy Dl Dn AA1=>?_;subst AA1;refine AMj rfl (ACt (q_t ?_));have AGz:=Dn.1;have F7:=(Kj.thenT Pk (AHp (Cj.loAll 0 rfl) all_nil)).trans Dn;have Ju:=Js.keep Dn.1;refine ⟨_,rfl,fun Jv=>?_,fun Jv=>?_⟩
 ·refine ACu (ACv (AHo (AHo ?_)));obtain ⟨AA2,AA3,AA4⟩:=AHv (ifT Pn Jv);have Po:=Jt.ext Dn;refine AIa (K':=(fun xr h'=> ∃ x:(LiI) × (Value) × LnA × LnN × LvA × (Int),(x.1,x.2.2.2.2.2)=AA2/\xr=x.2.1/\UpT ([Aa] ++ []) Dl h'/\Sp h' h.size [[Aa],Am,x.2.2.1]/\AI4 (cI .i64) 60 2 h' x.2.2.1 x.2.2.2.1 x.2.2.2.2.1 x.2.1 x.1/\(∀ z∈x.2.2.1,z∈([Aa] ++ [])∨Array.size Dl<=z)/\AI1 126 h' Aa [Ab,(.int .i64 x.2.2.2.2.2)])) trivial rfl ?_ fun Pp Jw AA5=>?_
  ·refine AHx (l:=[_,_,_]) mx Tryz.func94 rfl rfl rfl rfl rfl (by kernel_rfl) (ACu (ACv (AHq (ACt (q_t (ACu (ACv (AHo ?_))))))));obtain ⟨AA6,AA7⟩:=ifN AA3;refine AYe (cI .i64) 2 AJg AYr rfl trivial tt2 rfl rfl (by decide) AA6 fun F8 AA8 AA9 Jx Jy Jz Do Pq=>AHq (ACt (q_t (ACu (ACu (ACv (AHo (AKc AJg rfl Jz.rd (AHo (ACt (q_t (AHz ?_)))))))))));have AG0:=Do.1;have J0:=Ju.app Pq Do.1 F7.1;have Ps:=Pq.loAll 0 rfl;obtain ⟨Pt,ABa,ABb⟩:=AHv AA7;obtain ⟨ABc,ABd,ABe⟩:=AI0 ABa;have Pu:=Po.ext Do;refine AIy 4294959360 (fun x:(Int) × (Int) × (LiI) × LnA × LnN × LvA=>[(13,(.int .i64 x.1))]) (fun (k:Nat) (x:(Int) × (Int) × (LiI) × LnA × LnN × LvA) (h':AHr)=>iter ABc k (x.1,x.2.1,x.2.2.1)=some Pt/\UpT (F8 ++ ([Aa] ++ [])) Jy h'/\Sp h' h.size [[Aa],Am,x.2.2.2.1]/\AI4 (cI .i64) 60 2 h' x.2.2.2.1 x.2.2.2.2.1 x.2.2.2.2.2 Jx x.2.2.1/\(∀ z∈x.2.2.2.1,z∈(F8 ++ ([Aa] ++ []))∨Array.size Jy<=z)/\AI1 126 h' Aa [Ab,(.int .i64 x.2.1)]) (by kernel_rfl) fuel ((0,Pj,(List.replicate (Int.toNat (w64 (1 + (Int.tmod (w64 a1) Aj)))) ([]:List Int)),F8,AA8,AA9):(Int) × (Int) × (LiI) × LnA × LnN × LvA) ?_ ⟨rfl,trivial⟩ ?_
   ·exact ⟨ABe,UpT.start (AHp Jz.notD (AHp (AH8 Pu rfl) all_nil)),J0,Jz,(AH4 rfl),Pu⟩
   rintro AG1 ⟨Ah,Dp,J1,Dq,Az,J2⟩ ABf F9 ⟨ABg,Ga,Gb,Gc,Cg,Gd⟩;replace Gc:AI4 (cI .i64) 60 2 F9 Dq Az J2 Jx J1:=Gc;replace Cg:∀ z∈Dq,z∈(F8 ++ ([Aa] ++ []))∨Array.size Jy<=z:=Cg;replace Gd:AI1 126 F9 Aa [Ab,(.int .i64 Dp)]:=Gd;replace Gb:Sp F9 h.size [[Aa],Am,Dq]:=Gb;refine (show W _ _ _ (setL [(13,(.int .i64 Ah))] (mix _ ABf _)) F9 from ?_);have AG2:=Ga.size;have Pv:=(F7.trans Do).thenT Ga (AHp (J0.loAll 2 rfl) (AHp (J0.loAll 0 rfl) all_nil));obtain ⟨ABh,AG3,rfl,Dr,Pw⟩:=AIs ABg;rw [ABd] at Dr;dsimp only at Dr;unfold ALj at Dr;refine ACu (ACv (AIp rfl rfl (AI6 _ _) (ACt (q_t (ACu (⟨_,rfl,fun J3=>?_,fun J3=>?_⟩))))))
   ·refine AH2 (q_t (ACu (AHz (ACu (ACv (AHo (AHq (ACt (q_t (ACu (ACv (AHo (AHo (AHo ?_))))))))))))));obtain ⟨ABi,ABj⟩:=ifN (AJ2 Dr J3);refine Aag (c:=(cI .i64)) (a:=0) AJp AW7 rfl rfl (fun _=>rfl) rfl trivial tt2 rfl rfl (by decide) ABi fun Ba ABk ABl ABm Ch ABn ABo=>?_;have Px:=ARl ABn ABo;have AG4:=Ch.1;have Py:=Pv.trans Ch;have Ge:=Gb.app Px Ch.1 Pv.1;have Pz:=Px.loAll 0 rfl;obtain ⟨AG5,P0,ABp⟩:=AHv ABj;have P1:=Gc.ext Ch;refine AJs AJg rfl P1 rfl P0 fun Bn AG6 ABq AG7 AG8=>AZg AKg P1 P0 ABq rfl rfl ABm (Ge.dj 3 2 rfl rfl (by decide)) fun A3 Ds Dt ABr=>?_;have J4:∀ z∈(Bn :: (Az.set (Int.toNat Ah) [Ba]).flatten),z∈Dq ++ [Ba]∨Array.size ABl<=z:=(fun z hz=> .inl (ABr z hz));have AG9:=Dt.size;have Du:Sp A3 h.size [(Bn :: (Az.set (Int.toNat Ah) [Ba]).flatten),[Aa],Am]:=(((Ge.sel [2,3,0,1] (by decide))).mrg).put 0 rfl Ds.nodup Dt.size Py.1 Ds.lt J4;refine ACt (q_t (AKf (fun h'=>UpT ([Aa] ++ []) A3 h') (by kernel_rfl) ?_));have Bi:=(Gd.ext Ch).upT Dt (Ge.dj 0 2 rfl rfl (by decide));have J5:UpT ([Aa] ++ []) A3 A3:=UpT.start (AHp (AH8 Bi rfl) all_nil);refine AHo (AHo ?_);obtain ⟨ABs,J6,ABt⟩:=AHv ABp;refine AJs AJg rfl Ds rfl J6 fun AHa AHb ABu ABv ABw=>AK1 AKg rfl J5 (fun h' hb=>AQj ABw hb (AVa (Du.dj 0 1 rfl rfl (by decide) _ (by simp [ABu])) AVb)) (AHo (AHo (AHo ?_)));obtain ⟨ABx,ABy,ABz⟩:=AHv ABt;refine AIa (K':=(fun xr h'=> ∃ x:(Int) × (Int),(x.1,x.2)=ABx/\xr=(.int .i64 x.1)/\UpT ([Aa] ++ []) A3 h'/\Sp h' h.size [(Bn :: (Az.set (Int.toNat Ah) [Ba]).flatten),[Aa],Am]/\AI1 126 h' Aa [Ab,(.int .i64 x.2)])) J5 rfl ?_ fun AHc P2 AB0=>?_
    ·refine AHx (l:=[_,_]) mx Tryz.func93 rfl rfl rfl rfl rfl (by kernel_rfl) (ACu (ACv (AHq (ACt (q_t (ACu (ACv (AHo ?_))))))));obtain ⟨AB1,P3,AB2⟩:=AHv ABy;refine AIa (K':=(fun xr h'=> ∃ x:(Int) × (Int),(x.1,x.2)=AB1/\xr=(.int .i64 x.1)/\UpT ([Aa] ++ []) A3 h'/\Sp h' h.size [(Bn :: (Az.set (Int.toNat Ah) [Ba]).flatten),[Aa],Am]/\AI1 126 h' Aa [Ab,(.int .i64 x.2)])) trivial rfl ?_ fun AHd P4 AB3=>?_
     ·refine AHx (l:=[_]) mx Tryz.func155 rfl rfl rfl rfl rfl (by kernel_rfl) (ACu (ACv (AHq (ACt (q_t (ACu (ACu (ALp (by kernel_rfl) (AHo (AO4 rfl (AJq (fs:=1) AKi (by kernel_rfl) (by decide) rfl (AIr AK3 rfl (Bi.cell (i:=1) rfl) (AHo (AO4 rfl (AJq (fs:=1) AOx (by kernel_rfl) (by decide) rfl (AIr ATx rfl (Bi.cell (i:=0) rfl) (ALe AUr rfl H4 (AIp rfl rfl (ASm _ _) (ACt (q_t (⟨_,rfl,fun J7=>?_,fun J7=>?_⟩)))))))))))))))))))))
      ·refine ACu (ACv (AHq (ACt (q_t (AH1 (AIi ?_))))));have AB4:UpT ([Aa] ++ []) A3 A3:=UpT.start (AHp (AH8 Bi rfl) all_nil);refine ⟨_,AH5,((0,Dp):(Int) × (Int)),?_,rfl,?_,?_,?_⟩
       ·exact AHw (AJ2 P3 J7)
       ·exact AB4
       ·exact Du
       ·exact Bi
      ·refine AH2 (q_t (ACu (ACv (AHo (AO4 rfl (AJq (fs:=1) AKi (by kernel_rfl) (by decide) rfl (AIr AK3 rfl (Bi.cell (i:=1) rfl) (AJd rfl rfl (AO4 rfl (AJq (fs:=1) AKi (by kernel_rfl) (by decide) rfl (AYd [Ab,(.int .i64 (w64 (Dp + 1)))] AK3 rfl rfl rfl Bi (Nat.le_of_ble_eq_true rfl) rfl fun AB5 Gf AB6=>?_)))))))))));have Gg:=Gf.stA AB6 (AH8 Bi rfl) rfl;have AHe:=Gg.size;have AB7:Sp AB5 h.size [(Bn :: (Az.set (Int.toNat Ah) [Ba]).flatten),[Aa],Am]:=Du.keep Gg.size;refine ACt (q_t (ACu (ALp (by kernel_rfl) (AHo (AO4 rfl (AJq (fs:=1) AOx (by kernel_rfl) (by decide) rfl (AIr ATx rfl (Gf.cell (i:=0) rfl) (AHo (AO4 rfl (AJq (fs:=1) AKi (by kernel_rfl) (by decide) rfl (AIr AK3 rfl (Gf.cell (i:=1) rfl) (AOv rfl rfl ?_))))))))))));obtain ⟨AB8,AB9,ACa⟩:=AHv (AJ3 P3 J7);refine AR4 (c:=(cI .i8)) AUr rfl H4 rfl AB9 fun AHf AHg AHh ACb ACc=>?_;obtain rfl:=ACb;refine AIr Acm rfl (AIc (ACc 0 _ rfl) ((Py.thenT Dt (Ge.loAll 2 rfl)).thenT Gg (Du.loAll 1 rfl))) (AQk Acn APi rfl (AHq (ACt (q_t (AH1 ?_)))));have ACd:UpT ([Aa] ++ []) A3 A3:=UpT.start (AHp (AH8 Bi rfl) all_nil);refine ⟨_,AH5,(((w64 AB8),(w64 (Dp + 1))):(Int) × (Int)),?_,rfl,?_,?_,?_⟩
       ·exact AHw ACa
       ·exact (ACd.then Gg (AH4 rfl))
       ·exact AB7
       ·exact Gf
     obtain ⟨⟨ACe,P5⟩,ACf,rfl,P6,J8,J9⟩:=AB3;replace J9:AI1 126 P4 Aa [Ab,(.int .i64 P5)]:=J9;replace J8:Sp P4 h.size [(Bn :: (Az.set (Int.toNat Ah) [Ba]).flatten),[Aa],Am]:=J8;have AHi:=P6.size;refine ⟨trivial,?_⟩;subst ACf;have P7:=AB2;(try dsimp only at P7);refine AQk APi AUs rfl (AQk AUs AU2 rfl (AHo (AVj rfl rfl (by decide) (AHq (ACt (q_t (AH1 ?_)))))));have ACg:UpT ([Aa] ++ []) A3 A3:=UpT.start (AHp (AH8 Bi rfl) all_nil);refine ⟨_,AH5,(((Int.tmod (w64 (IntKind.wrap .u8 ACe)) 2),P5):(Int) × (Int)),?_,rfl,?_,?_,?_⟩
     ·exact AHw P7
     ·exact (ACg.then P6 (AHp (AH4 rfl) all_nil))
     ·exact J8
     ·exact J9
    obtain ⟨⟨P8,P9⟩,ACh,rfl,Gh,Gi,Ka⟩:=AB0;replace Ka:AI1 126 P2 Aa [Ab,(.int .i64 P9)]:=Ka;replace Gi:Sp P2 h.size [(Bn :: (Az.set (Int.toNat Ah) [Ba]).flatten),[Aa],Am]:=Gi;have AHj:=Gh.size;refine ⟨(J5.then Gh (AHp (AH4 rfl) all_nil)),?_⟩;subst ACh;have Qa:=ABz;(try dsimp only at Qa);refine AJd rfl rfl ?_;obtain ⟨AHk,Qb,ACi⟩:=AHv Qa;refine ALr (m:=Ah) AJp rfl Ds ABv J6 rfl Qb fun AHl ACj=>APj (m:=Ah) (APe ALy rfl rfl rfl) (Ds.upT Gh (AJc (Du.dj 0 1 rfl rfl (by decide)) AI3)) ACj J6 Qb (show ((cI .i64)).rep _ (w64 (1 + P8)) _ from rfl) fun ACk ACl Gj=>?_;have AHm:=Gj.size;have ACm:Sp ACk h.size [(Bn :: (Az.set (Int.toNat Ah) [Ba]).flatten),[Aa],Am]:=Gi.keep Gj.size;refine ACt (q_b (q_t (ACv (AJd rfl rfl (AHo (ACt (q_t ?_)))))));obtain rfl:=AHw ACi;exact ⟨ABh,(((w64 (Ah + 1)),P9,(sI (sI J1 Ah (List.replicate (Int.toNat (w64 (1 + (Int.tmod (w64 a1) Aj)))) (0:Int))) Ah (sI ABs Ah (w64 (1 + P8)))),(Bn :: (Az.set (Int.toNat Ah) [Ba]).flatten),(Az.set (Int.toNat Ah) [Ba]),(J2.set (Int.toNat Ah) ABk)):(Int) × (Int) × (LiI) × LnA × LnN × LvA),Nat.lt_succ_self _,⟨Pw,((((Ga.thenE Ch).then Dt (AH6 Cg (AHp (AH4 rfl) (AHp (ALf (AH4 rfl)) all_nil)) (by omega))).then Gh (AHp (ALf (AH4 rfl)) all_nil)).then Gj (AH6 J4 (AHp (AH6 Cg (AHp (AH4 rfl) (AHp (ALf (AH4 rfl)) all_nil)) (by omega)) (AJw Pz (by omega))) (by omega))),(ACm.sel [1,2,0] (by decide)),ACl,(AH6 J4 (AHp (AH6 Cg (AHp (AH4 rfl) (AHp (ALf (AH4 rfl)) all_nil)) (by omega)) (AJw Pz (by omega))) (by omega)),(Ka.upT Gj (Gi.dj 1 0 rfl rfl (by decide)))⟩,rfl,trivial⟩
   ·obtain rfl:=AHw (AJ3 Dr J3);have Qc:=Pw;change _=Pt at Qc;subst Qc;have Qd:=ABb;(try dsimp only at Qd);refine AIo (AIq (AIq (AJ5 (q_t (ACu (ACv (AHo (AHq (ACt (q_t (AH1 ?_)))))))))));have ACn:UpT ([Aa] ++ []) Dl Dl:=UpT.start (AHp (AH8 Po rfl) all_nil);refine ⟨_,AH5,((J1,Jx,Dq,Az,J2,Dp):(LiI) × (Value) × LnA × LnN × LvA × (Int)),?_,rfl,?_,?_,?_,?_,?_⟩
    ·exact AHw Qd
    ·exact ((ACn.thenE Do).then Ga (AHp (AJw Ps (by omega)) (AHp (AH4 rfl) all_nil)))
    ·exact Gb
    ·exact Gc
    ·exact (AH6 Cg (AHp (AJw Ps (by omega)) (AHp (AH4 rfl) all_nil)) (by omega))
    ·exact Gd
  obtain ⟨⟨ACo,Pp,Kb,ACp,ACq,ACr⟩,ACs,rfl,Qe,Kc,Kd,Qf,Qg⟩:=AA5;replace Kd:AI4 (cI .i64) 60 2 Jw Kb ACp ACq Pp ACo:=Kd;replace Qf:∀ z∈Kb,z∈([Aa] ++ [])∨Array.size Dl<=z:=Qf;replace Qg:AI1 126 Jw Aa [Ab,(.int .i64 ACr)]:=Qg;replace Kc:Sp Jw h.size [[Aa],Am,Kb]:=Kc;have AHn:=Qe.size;refine ⟨trivial,?_⟩;subst ACs;have Qh:=AA4;(try dsimp only at Qh);refine AHq (ACt (q_t (AH1 (AIi ?_))));obtain rfl:=AHw Qh;exact ⟨_,AH5,(F7.thenT Qe (AHp (Ju.loAll 0 rfl) all_nil)),_,_,_,_,rfl,Kd,Kc.sel [2] (by decide)⟩
 ·refine AH2 (q_t (ACu (ACv (AHo (AHq (ACt (q_t (AH1 ?_))))))));obtain rfl:=AHw (AQm Pn Jv);exact ⟨_,AH5,F7,_,_,_,_,rfl,(F6.ext Dn),Ju.sel [1] (by decide)⟩
def ALc (fuel:Nat) (a1:Int) (a2:Int) (a5:LiA) (a9:LiA) (Ae:Int):Option LiI:=
  ((ALb fuel a1 a2 a5 a9 Ae).bind fun Af=>((ALm fuel Af).bind fun Ag=>((AMn fuel Ag).bind fun (Ah,Ai,Aj)=>(some Ah))))
theorem ASy {fuel:Nat} {h:AHr} {a1:Int} {a2:Int} {Ad:Value} {a5:LiA} {Ae:Value} {a9:LiA} {Ah:Int} {r:LiI} (H4:SlC (cI .i8) h Ad a5) (H8:SlC (cI .i8) h Ae a9) (hp:ALc fuel a1 a2 a5 a9 Ah=some r):AIj Tryz.prog 15 #[(.agg #[(.int .u8 a1),(.int .u8 a2),Ad,Ae]),(.int .i64 Ah)] h (fun x h'=>Ext h h'/\ ∃ (x0:Value) (F0:List Nat) (Aw:List LnA) (Ax:List Value),x=x0/\AI4 (cI .i64) 60 2 h' F0 Aw Ax x0 r/\Sp h' h.size [F0]):=by
 unfold ALc at hp;refine AHx (l:=[_,_]) mx Tryz.func15 rfl rfl rfl rfl rfl (by kernel_rfl) (ACu (ACv (AN2 [(.int .u8 a1),(.int .u8 a2),Ad,Ae] trivial tt2 rfl rfl fun Bi Bj Ay Aa Az=>AHq (ACt (q_t (ACu (ACv (AKr [(.int .u8 a1),(.int .u8 a2),Ad,Ae] Aq6 rfl rfl Ay.agg (AHo ?_)))))))));obtain ⟨Bl,A3,A4⟩:=AHv hp;refine AHy trivial tt2 rfl (ASx (H4.ext Aa) (H8.ext Aa) A3) fun Bm Bn Ak A5=>?_;obtain ⟨Bo,Bp,Bq,Br,rfl,A6,A7⟩:=A5;have Am:=Aa.trans Ak;obtain ⟨Bt,A8,A9⟩:=AHv A4;refine AHy trivial tt2 rfl (AQn A6.rd A8) fun Bu Bv Ao Ba=>?_;obtain ⟨Bw,Bx,By,Bz,rfl,Bb,Bc⟩:=Ba;have Ap:=Am.trans Ao;obtain ⟨⟨B1,B3,B4⟩,Be,Aq⟩:=AHv A9;dsimp only at Aq;refine AHy trivial tt2 rfl (AUm Bb.rd Be) fun B5 B6 Ar Bf=>?_;obtain ⟨B7,B8,B9,Ca,Cb,Cd,Ce,Cf,rfl,Bg,Cg,Bh⟩:=Bf;refine AHo (AI7 rfl rfl (AI7 rfl rfl (AI7 rfl rfl (AHq (AHq (AHq (ACt (q_t (ACu (ACv (AHo (AHq (ACt (q_t (AH1 ?_)))))))))))))));obtain rfl:=AHw Aq;exact ⟨_,AH5,(Ap.trans Ar),_,_,_,_,rfl,Bg,(((((AJ8 h h.size).app Az Aa.1 (Nat.le_refl _)).app A7 Ak.1 Aa.1).app Bc Ao.1 Am.1).app Bh Ar.1 Ap.1).sel [3] (by decide)⟩
end Go.Proofs.YtmmckalinicpaaaGreatDoor
namespace Go.Proofs.YtmmckalinicpaaaGreatDoor
open Go Go.QF
set_option maxRecDepth 100000
def part (n i:Nat) (G:Nat->Nat->Int):List (List Int):=ALa n fun r=>if r < i then ALa n (G r) else []
theorem AQ3 {n i r:Nat} {G:Nat->Nat->Int} (hr:r < i) (hn:r < n):(part n i G)[r]? =some (ALa n (G r)):=by
 unfold part;rw [AIz hn,if_pos hr]
theorem AWp {n i:Nat} {G:Nat->Nat->Int} (hn:i < n):(part n i G)[i]? =some []:=by
 unfold part;rw [AIz hn,if_neg (Nat.lt_irrefl i)]
theorem ASq {n i r:Nat} {G:Nat->Nat->Int} {g:Nat->Int} (hr:r < i):(part n i G).set r (ALa n g)=part n i (AKb G r g):=by
 unfold part;rw [AMo];refine AI5 fun k _=>?_;by_cases h:k=r
 ·subst h;rw [if_pos rfl,if_pos hr,AJ6]
 ·rw [if_neg h,AM8 _ _ h]
theorem AUi {n i:Nat} {G:Nat->Nat->Int} {g:Nat->Int}:(part n i G).set i (ALa n g)=part n (i + 1) (AKb G i g):=by
 unfold part;rw [AMo];refine AI5 fun k _=>?_;by_cases h:k=i
 ·subst h;rw [if_pos rfl,if_pos (by omega),AJ6]
 ·rw [if_neg h,AM8 _ _ h];by_cases h2:k < i
  ·rw [if_pos h2,if_pos (by omega)]
  ·rw [if_neg h2,if_neg (by omega)]
theorem ASz (n:Nat) (G:Nat->Nat->Int):part n n G=tab n n G:=by
 unfold part;rw [AS8];exact AI5 fun k hk=>if_pos hk
theorem AS0 (n:Nat) (G:Nat->Nat->Int):List.replicate n ([]:List Int)=part n 0 G:=by
 rw [ANy];exact AI5 fun k _=>(if_neg (by omega)).symm
theorem AY0 {L:List Int} {q:Nat} (hq:q < 4611686018427387904):Ok (if (L.length:Int)<=((q:Nat):Int) then (some ((0:Int),((q:Nat):Int))) else ((gI L (w64 ((w64 (((q:Nat):Int) + 1)) - 1))).bind fun x=>(some ((w64 x),(w64 (((q:Nat):Int) + 1)))))) fun e=> ∃ p:Nat,e.2=(p:Int)/\p<=q + 1:=by
  refine AIb (fun h=>AHu ⟨q,rfl,by omega⟩) fun h=>?_;have hl:q < L.length:=by omega
  refine AIe (n:=q) (List.getElem?_eq_getElem hl) (by rw [AIg (x:=(q:Int) + 1) (by omega) (by omega),AIg (by omega) (by omega)];omega) (AHu ⟨q + 1,?_,by omega⟩);rw [AIg (x:=(q:Int) + 1) (by omega) (by omega)];omega
theorem AWv (x:Int) (m:Nat) (hm:0 < m):0<=Int.tmod (w64 (IntKind.wrap .u8 x)) (m:Int)/\Int.tmod (w64 (IntKind.wrap .u8 x)) (m:Int) < m:=by
 have h1:IntKind.wrap .u8 x=x % 256:=by rw [IntKind.wrap_u8]
 rw [h1];have a1:=Int.emod_nonneg x (show (256:Int)≠0 by decide);have a2:=Int.emod_lt_of_pos x (show (0:Int) < 256 by decide);rw [AIg (by omega) (by omega),Int.tmod_eq_emod_of_nonneg a1];exact ⟨Int.emod_nonneg _ (by omega),Int.emod_lt_of_pos _ (by omega)⟩
def dgF (f:Nat->Int) (r c:Nat):Int:=if c=r then f r else 0
theorem Ax4 {fuel N q0:Nat} {a1 Ac:Int} {L:List Int} (hN:w64 (1 + (Int.tmod (w64 a1) Ac))=(N:Int)) (Af:N<=8) (Ag:q0<=1000) (hf:100 < fuel):
    Ok (iter (fun s=>ALu fuel a1 L Ac s.1 s.2.1 s.2.2) fuel (0,(q0:Int),(List.replicate (Int.toNat (w64 (1 + (Int.tmod (w64 a1) Ac)))) ([]:List Int)))) fun e=> ∃ (q:Nat) (f:Nat->Int),e=((q:Int),tab N N (dgF f))/\q<=q0 + N/\ ∀ r,r < N->1<=f r/\f r<=6:=by
 refine AJa (fun i s=> ∃ (q:Nat) (f:Nat->Int),s=(((i:Nat):Int),(q:Int),part N i (dgF f))/\i<=N/\q<=q0 + i/\ ∀ r,r < i->1<=f r/\f r<=6) N ⟨q0,fun _=>0,by rw [hN,Int.toNat_natCast,AS0 N (dgF fun _=>0)];rfl,by omega,by omega,fun r hr=>by omega⟩ (by omega) fun i s hi hI=>?_;obtain ⟨q,f,rfl,hiN,hq,Ad⟩:=hI;unfold ALu;dsimp only;rw [List.length_replicate,hN,Int.toNat_natCast];refine AIb (fun h=>AJ9 (by omega) ?_) (fun h=>AHu ?_)
 ·have hi':i < N:=by omega
  refine AIe (AWp hi') rfl ?_;rw [AKd,ANy N (0:Int),AUi];refine AIe (AQ3 (by omega) hi') rfl ?_;rw [AJ6];refine AHt (Q:=fun e:Int × Int=>0<=e.1/\e.1 < 6/\ ∃ p:Nat,e.2=(p:Int)/\p<=q + 1) (AHt (AY0 (L:=L) (q:=q) (by omega)) fun e he=>?_) fun e he=>AIe (AIz hi') rfl (AHu ⟨by omega,?_⟩)
  ·exact AHu ⟨(AWv _ 6 (by decide)).1,(AWv _ 6 (by decide)).2,he⟩
  ·obtain ⟨h1,h2,p,h3,h4⟩:=he;refine ⟨p,fun r=>if r=i then 1 + e.1 else f r,?_,by omega,by omega,fun r hr=>?_⟩
   ·rw [AIg (x:=(i:Int) + 1) (by omega) (by omega),AIg (x:=1 + e.1) (by omega) (by omega),h3,AKd,AKd,AMo,ASq (by omega)];refine congrArg (fun z=>(((i + 1:Nat):Int),(p:Int),z)) (AI5 fun r hr=>?_);split
    ·refine AI5 fun c hc=>?_;rw [AI2];unfold dgF;dsimp only;split
     ·next h=>subst h;rfl
     ·next h=>rw [AI2,if_neg h]
    ·rfl
   ·dsimp only;split
    ·omega
    ·exact Ad r (by omega)
 ·obtain rfl:i=N:=by omega
  exact ⟨q,f,by rw [ASz],by omega,Ad⟩
theorem Awa {fuel N q0:Nat} {a1 Ac:Int} {L:List Int} (hN:w64 (1 + (Int.tmod (w64 a1) Ac))=(N:Int)) (Af:N<=8) (Ag:q0<=1000) (hf:100 < fuel):
    Ok (iter (fun s=>ALh fuel a1 L Ac s.1 s.2.1 s.2.2) fuel (0,(q0:Int),(List.replicate (Int.toNat (w64 (1 + (Int.tmod (w64 a1) Ac)))) ([]:List Int)))) fun e=> ∃ (q:Nat) (f:Nat->Int),e=((q:Int),tab N N (dgF f))/\q<=q0 + N/\ ∀ r,r < N->1<=f r/\f r<=9:=by
 refine AJa (fun i s=> ∃ (q:Nat) (f:Nat->Int),s=(((i:Nat):Int),(q:Int),part N i (dgF f))/\i<=N/\q<=q0 + i/\ ∀ r,r < i->1<=f r/\f r<=9) N ⟨q0,fun _=>0,by rw [hN,Int.toNat_natCast,AS0 N (dgF fun _=>0)];rfl,by omega,by omega,fun r hr=>by omega⟩ (by omega) fun i s hi hI=>?_;obtain ⟨q,f,rfl,hiN,hq,Ad⟩:=hI;unfold ALh;dsimp only;rw [List.length_replicate,hN,Int.toNat_natCast];refine AIb (fun h=>AJ9 (by omega) ?_) (fun h=>AHu ?_)
 ·have hi':i < N:=by omega
  refine AIe (AWp hi') rfl ?_;rw [AKd,ANy N (0:Int),AUi];refine AIe (AQ3 (by omega) hi') rfl ?_;rw [AJ6];refine AHt (Q:=fun e:Int × Int=>0<=e.1/\e.1 < 9/\ ∃ p:Nat,e.2=(p:Int)/\p<=q + 1) (AHt (AY0 (L:=L) (q:=q) (by omega)) fun e he=>?_) fun e he=>AIe (AIz hi') rfl (AHu ⟨by omega,?_⟩)
  ·exact AHu ⟨(AWv _ 9 (by decide)).1,(AWv _ 9 (by decide)).2,he⟩
  ·obtain ⟨h1,h2,p,h3,h4⟩:=he;refine ⟨p,fun r=>if r=i then 1 + e.1 else f r,?_,by omega,by omega,fun r hr=>?_⟩
   ·rw [AIg (x:=(i:Int) + 1) (by omega) (by omega),AIg (x:=1 + e.1) (by omega) (by omega),h3,AKd,AKd,AMo,ASq (by omega)];refine congrArg (fun z=>(((i + 1:Nat):Int),(p:Int),z)) (AI5 fun r hr=>?_);split
    ·refine AI5 fun c hc=>?_;rw [AI2];unfold dgF;dsimp only;split
     ·next h=>subst h;rfl
     ·next h=>rw [AI2,if_neg h]
    ·rfl
   ·dsimp only;split
    ·omega
    ·exact Ad r (by omega)
 ·obtain rfl:i=N:=by omega
  exact ⟨q,f,by rw [ASz],by omega,Ad⟩
theorem Awb {fuel N q0:Nat} {a1 Ac:Int} {L:List Int} (hN:w64 (1 + (Int.tmod (w64 a1) Ac))=(N:Int)) (Af:N<=8) (Ag:q0<=1000) (hf:100 < fuel):
    Ok (iter (fun s=>ALi fuel a1 L Ac s.1 s.2.1 s.2.2) fuel (0,(q0:Int),(List.replicate (Int.toNat (w64 (1 + (Int.tmod (w64 a1) Ac)))) ([]:List Int)))) fun e=> ∃ (q:Nat) (f:Nat->Int),e=((q:Int),tab N N (dgF f))/\q<=q0 + N/\ ∀ r,r < N->1<=f r/\f r<=1:=by
 refine AJa (fun i s=> ∃ (q:Nat) (f:Nat->Int),s=(((i:Nat):Int),(q:Int),part N i (dgF f))/\i<=N/\q<=q0 + i/\ ∀ r,r < i->1<=f r/\f r<=1) N ⟨q0,fun _=>0,by rw [hN,Int.toNat_natCast,AS0 N (dgF fun _=>0)];rfl,by omega,by omega,fun r hr=>by omega⟩ (by omega) fun i s hi hI=>?_;obtain ⟨q,f,rfl,hiN,hq,Ad⟩:=hI;unfold ALi;dsimp only;rw [List.length_replicate,hN,Int.toNat_natCast];refine AIb (fun h=>AJ9 (by omega) ?_) (fun h=>AHu ?_)
 ·have hi':i < N:=by omega
  refine AIe (AWp hi') rfl ?_;rw [AKd,ANy N (0:Int),AUi];refine AIe (AQ3 (by omega) hi') rfl ?_;rw [AJ6];refine AHt (Q:=fun e:Int × Int=>0<=e.1/\e.1 < 1/\ ∃ p:Nat,e.2=(p:Int)/\p<=q + 1) (AHt (AY0 (L:=L) (q:=q) (by omega)) fun e he=>?_) fun e he=>AIe (AIz hi') rfl (AHu ⟨by omega,?_⟩)
  ·exact AHu ⟨(AWv _ 1 (by decide)).1,(AWv _ 1 (by decide)).2,he⟩
  ·obtain ⟨h1,h2,p,h3,h4⟩:=he;refine ⟨p,fun r=>if r=i then 1 + e.1 else f r,?_,by omega,by omega,fun r hr=>?_⟩
   ·rw [AIg (x:=(i:Int) + 1) (by omega) (by omega),AIg (x:=1 + e.1) (by omega) (by omega),h3,AKd,AKd,AMo,ASq (by omega)];refine congrArg (fun z=>(((i + 1:Nat):Int),(p:Int),z)) (AI5 fun r hr=>?_);split
    ·refine AI5 fun c hc=>?_;rw [AI2];unfold dgF;dsimp only;split
     ·next h=>subst h;rfl
     ·next h=>rw [AI2,if_neg h]
    ·rfl
   ·dsimp only;split
    ·omega
    ·exact Ad r (by omega)
 ·obtain rfl:i=N:=by omega
  exact ⟨q,f,by rw [ASz],by omega,Ad⟩
theorem Awc {fuel N q0:Nat} {a1 Ac:Int} {L:List Int} (hN:w64 (1 + (Int.tmod (w64 a1) Ac))=(N:Int)) (Af:N<=8) (Ag:q0<=1000) (hf:100 < fuel):
    Ok (iter (fun s=>ALj fuel a1 L Ac s.1 s.2.1 s.2.2) fuel (0,(q0:Int),(List.replicate (Int.toNat (w64 (1 + (Int.tmod (w64 a1) Ac)))) ([]:List Int)))) fun e=> ∃ (q:Nat) (f:Nat->Int),e=((q:Int),tab N N (dgF f))/\q<=q0 + N/\ ∀ r,r < N->1<=f r/\f r<=2:=by
 refine AJa (fun i s=> ∃ (q:Nat) (f:Nat->Int),s=(((i:Nat):Int),(q:Int),part N i (dgF f))/\i<=N/\q<=q0 + i/\ ∀ r,r < i->1<=f r/\f r<=2) N ⟨q0,fun _=>0,by rw [hN,Int.toNat_natCast,AS0 N (dgF fun _=>0)];rfl,by omega,by omega,fun r hr=>by omega⟩ (by omega) fun i s hi hI=>?_;obtain ⟨q,f,rfl,hiN,hq,Ad⟩:=hI;unfold ALj;dsimp only;rw [List.length_replicate,hN,Int.toNat_natCast];refine AIb (fun h=>AJ9 (by omega) ?_) (fun h=>AHu ?_)
 ·have hi':i < N:=by omega
  refine AIe (AWp hi') rfl ?_;rw [AKd,ANy N (0:Int),AUi];refine AIe (AQ3 (by omega) hi') rfl ?_;rw [AJ6];refine AHt (Q:=fun e:Int × Int=>0<=e.1/\e.1 < 2/\ ∃ p:Nat,e.2=(p:Int)/\p<=q + 1) (AHt (AY0 (L:=L) (q:=q) (by omega)) fun e he=>?_) fun e he=>AIe (AIz hi') rfl (AHu ⟨by omega,?_⟩)
  ·exact AHu ⟨(AWv _ 2 (by decide)).1,(AWv _ 2 (by decide)).2,he⟩
  ·obtain ⟨h1,h2,p,h3,h4⟩:=he;refine ⟨p,fun r=>if r=i then 1 + e.1 else f r,?_,by omega,by omega,fun r hr=>?_⟩
   ·rw [AIg (x:=(i:Int) + 1) (by omega) (by omega),AIg (x:=1 + e.1) (by omega) (by omega),h3,AKd,AKd,AMo,ASq (by omega)];refine congrArg (fun z=>(((i + 1:Nat):Int),(p:Int),z)) (AI5 fun r hr=>?_);split
    ·refine AI5 fun c hc=>?_;rw [AI2];unfold dgF;dsimp only;split
     ·next h=>subst h;rfl
     ·next h=>rw [AI2,if_neg h]
    ·rfl
   ·dsimp only;split
    ·omega
    ·exact Ad r (by omega)
 ·obtain rfl:i=N:=by omega
  exact ⟨q,f,by rw [ASz],by omega,Ad⟩
theorem Awd {fuel N q0:Nat} {L:List Int} {F0:Nat->Nat->Int} (Ah:N<=8) (Ai:q0<=1000) (Ad:∀ i j,i < N->j < N->(F0 i j).natAbs<=9) (hf:100 < fuel):
    Ok (iter (fun s=>ALv fuel L (tab N N F0) s.1 s.2.1 s.2.2) fuel (0,(q0:Int),tab N N F0)) fun e=> ∃ (q:Nat) (F:Nat->Nat->Int),e=((q:Int),tab N N F)/\q<=q0 + 8 * N/\ ∀ i j,i < N->j < N->(F i j).natAbs<=9:=by
 refine AJa (fun i s=> ∃ (q:Nat) (F:Nat->Nat->Int),s=(((i:Nat):Int),(q:Int),tab N N F)/\i<=N/\q<=q0 + 8 * i/\ ∀ i j,i < N->j < N->(F i j).natAbs<=9) N ⟨q0,F0,rfl,by omega,by omega,Ad⟩ (by omega) fun i s hi hI=>?_;obtain ⟨q,F,rfl,hiN,hq,hF⟩:=hI;unfold ALv;dsimp only;rw [AJk];refine AIb (fun h=>?_) (fun h=>AHu ⟨q,F,rfl,by omega,hF⟩);have hi':i < N:=by omega
 refine AHt (AJa (fun j s=> ∃ (p:Nat) (F:Nat->Nat->Int),s=(((j:Nat):Int),(p:Int),tab N N F)/\j<=i/\p<=q + j/\ ∀ i j,i < N->j < N->(F i j).natAbs<=9) i (Q:=fun e=> ∃ (p:Nat) (F:Nat->Nat->Int),e=((p:Int),tab N N F)/\p<=q + i/\ ∀ i j,i < N->j < N->(F i j).natAbs<=9) ⟨q,F,rfl,by omega,by omega,hF⟩ (by omega) fun j s hj hJ=>?_) fun e he=>?_
 ·obtain ⟨p,F,rfl,hji,hp,hF⟩:=hJ;unfold AM4;dsimp only;refine AIb (fun h=>?_) (fun h=>AHu ⟨p,F,rfl,by omega,hF⟩);have hj':j < i:=by omega
  refine AIe (AJn hi') rfl (AHt (AY0 (L:=L) (q:=p) (by omega)) fun e he=>AIe (AIz (by omega)) rfl ?_);obtain ⟨p2,h3,h4⟩:=he;rw [AKd,AKd,AMo,show (ALa N fun c=>if c=j then Int.tmod e.1 3 else F i c)=(List.range N).map fun c=>if c=j then Int.tmod e.1 3 else F i c from rfl,ARn];refine AIe (AJn (by omega)) rfl (AIe (AJn hi') rfl (AIe (AIz (by omega)) rfl (AIe (AIz hi') rfl (AHu ⟨by omega,p2,?_⟩))));generalize Ag:(AKb F i fun c=>if c=j then Int.tmod e.1 3 else F i c)=F1
  have hv:(Int.tmod e.1 3).natAbs<=9:=by
    have:=Int.natAbs_tmod e.1 3
    have h5:e.1.natAbs % (3:Int).natAbs < 3:=Nat.mod_lt _ (by decide)
    omega
  have hF1b:∀ i j,i < N->j < N->(F1 i j).natAbs<=9:=fun a b ha hb=>by
    subst Ag
    rw [AI2]
    split
    · split
      · exact hv
      · exact hF i b hi' hb
    · exact hF a b ha hb
  refine ⟨AKb F1 j fun c=>if c=i then F1 i j else F1 j c,?_,by omega,by omega,fun a b ha hb=>?_⟩
  ·rw [AIg (by omega) (by omega),h3,AKd,AKd,AMo,show (ALa N fun c=>if c=i then F1 i j else F1 j c)=(List.range N).map fun c=>if c=i then F1 i j else F1 j c from rfl,ARn];rfl
  ·rw [AI2];split
   ·split
    ·exact hF1b i j hi' (by omega)
    ·exact hF1b j b (by omega) hb
   ·exact hF1b a b ha hb
 ·obtain ⟨p,F,rfl,hp,hF⟩:=he;exact AHu ⟨by omega,p,F,by rw [AIg (by omega) (by omega)];rfl,by omega,by omega,hF⟩
theorem Alw {fuel N:Nat} {b:Bool} (Ag:1<=N) (Ah:N<=8) (hf:100 < fuel):Ok (AMf fuel (N:Int) b) fun e=> ∃ F,e=tab N N F/\ ∀ i j,i < N->j < N->(F i j).natAbs<=2:=by
 unfold AMf;refine AJ9 (by omega) ?_;rw [Int.toNat_natCast];refine AHt (AJa (fun i s=> ∃ G:Nat->Nat->Int,s=(((i:Nat):Int),part N i G)/\i<=N/\ ∀ r c,(G r c).natAbs<=2) N (Q:=fun e=> ∃ F,e=tab N N F/\ ∀ i j,i < N->j < N->(F i j).natAbs<=2) ⟨fun _ _=>0,by rw [AS0 N fun _ _=>0];rfl,by omega,fun _ _=>Nat.zero_le _⟩ (by omega) fun i s hi hI=>?_) fun e he=>AHu he;obtain ⟨G,rfl,hiN,hG⟩:=hI;unfold APo;dsimp only;rw [List.length_replicate,Int.toNat_natCast];refine AIb (fun h=>AJ9 (by omega) ?_) (fun h=>AHu ?_)
 ·have hi':i < N:=by omega
  refine AIe (AWp hi') rfl ?_;rw [AKd,ANy N (0:Int),AUi];refine AIe (AQ3 (by omega) hi') rfl ?_;rw [AJ6];refine AIe (AIz hi') rfl ?_;rw [AKd,AKd,AMo,ASq (by omega)]
  have Ab:∀ r c,(AKb (AKb G i fun x=>0) i (fun c=>if c=i then 2 else 0) r c).natAbs<=2:=fun r c=>by
    rw [AI2]
    split
    · split <;> decide
    · rw [AI2]
      split
      · decide
      · exact hG r c
  generalize (AKb (AKb G i fun x=>0) i fun c=>if c=i then 2 else 0)=G1 at Ab;have wi:w64 ((i:Int) + 1)=((i + 1:Nat):Int):=by rw [AIg (by omega) (by omega)];omega
  refine AHt (Q:=fun k=>k=(i:Int) - 1∨k=(i:Int) - 2) ?_ fun k hk=>?_
  ·have w1:w64 ((i:Int) - 1)=(i:Int) - 1:=AIg (by omega) (by omega);have w2:w64 ((i:Int) - 2)=(i:Int) - 2:=AIg (by omega) (by omega);rw [w1,w2];exact AIb (fun _=>AIb (fun _=>AIb (fun _=>AHu (.inr rfl)) fun _=>AHu (.inl rfl)) fun _=>AHu (.inl rfl)) fun _=>AHu (.inl rfl)
  ·refine AIb (fun h=>?_) (fun h=>AHu ⟨by omega,G1,by rw [wi],by omega,Ab⟩);obtain ⟨k,rfl⟩:∃ q:Nat,k=q:=⟨k.toNat,by omega⟩;have hki:k < i:=by omega
   refine AIe (AQ3 (by omega) hi') rfl (AIe (AQ3 (by omega) (by omega)) rfl (AIe (AIz (by omega)) rfl ?_));rw [AKd,AKd,AMo,ASq (by omega)]
   have Ac:∀ r c,(AKb G1 i (fun c=>if c=k then -1 else G1 i c) r c).natAbs<=2:=fun r c=>by
     rw [AI2]
     split
     · split
       · decide
       · exact Ab i c
     · exact Ab r c
   generalize (AKb G1 i fun c=>if c=k then -1 else G1 i c)=G2 at Ac;refine AIe (AQ3 (by omega) (by omega)) rfl (AIe (AIz hi') rfl (AHu ⟨by omega,AKb G2 k fun c=>if c=i then -1 else G2 k c,?_,by omega,fun r c=>?_⟩))
   ·rw [wi,AKd,AKd,AMo,ASq (by omega)]
   ·rw [AI2];split
    ·split
     ·decide
     ·exact Ac k c
    ·exact Ac r c
 ·obtain rfl:i=N:=by omega
  exact ⟨G,ASz _ _,fun a b _ _=>hG a b⟩
theorem Ah6 {n B:Nat} {F:Nat->Nat->Int} (hB:B < 9223372036854775808) (h:∀ i j,i < n->j < n->(F i j).natAbs<=B):∀ z∈tab n n F,∀ x∈z,-9223372036854775808<=x/\x<=9223372036854775807:=fun z hz x hx=>by
  obtain ⟨i,hi⟩:=List.getElem?_of_mem hz
  have hin:i < n:=by have:=(List.getElem?_eq_some_iff.1 hi).1;rwa [AJk] at this
  rw [AJn hin] at hi
  cases hi
  obtain ⟨j,hj⟩:=List.getElem?_of_mem hx
  have hjn:j < n:=by have:=(List.getElem?_eq_some_iff.1 hj).1;rwa [AJj] at this
  rw [AIz hjn] at hj
  cases hj
  have:=h i j hin hjn
  omega
theorem Atv {n:Nat} {F:Nat->Nat->Int} (hn:1<=n) (Aa:n<=16):okM (tab n n F)=true:=by
 have hc:ARk (tab n n F)=n:=Aof hn;unfold okM;rw [decide_eq_true_iff,AJk,hc];exact ⟨hn,Aa,fun z hz=>by rw [Aco z hz];exact ⟨hn,Aa,rfl⟩⟩
theorem Ajy {fuel n:Nat} {F:Nat->Nat->Int} (hn:1<=n) (Aa:n<=16) (h:∀ i j,i < n->j < n->(F i j).natAbs<=9223372036854775807) (hf:17 < fuel):ALm fuel (tab n n F)=some (tab n n F):=by
 rw [Axw (Ah6 (by decide) h) hf,if_pos (Atv hn Aa)]
theorem Awe {fuel n:Nat} {F:Nat->Nat->Int} (Ab:1<=n) (hn:n<=8) (hb:∀ i j,i < n->j < n->(F i j).natAbs<=1000000) (hf:100 < fuel):Ok (ANw fuel (tab n n F)) fun r=>r=true↔AQg n F/\ARy n F/\det n F<=10000:=by
 have Ac:∀ i j,i < n->j < n->(F i j).natAbs<=AMs:=fun i j hi hj=>Nat.le_trans (hb i j hi hj) (by decide);unfold ANw;refine AHt (AIx (Ajy Ab (by omega) (fun i j hi hj=>Nat.le_trans (hb i j hi hj) (by decide)) (by omega))) fun x hx=>?_;subst hx;refine AHt (AYy Ab hn Ac hf) fun v hv=>AIb (fun h=>?_) fun h=>AHu (Iff.intro (fun h2=>nomatch h2) fun h2=>absurd (hv.2 ⟨h2.1,h2.2.1⟩) h);have h1:=hv.1 h;refine AHt (AIx (AZx hn Ac (by omega))) fun d hd=>AHt (Q:=(· =10000)) ⟨10000,if_pos (by omega),rfl⟩ fun t ht=>AHt (AIx (a:=AVt d t) rfl) fun c hc=>AHu ?_;subst hd;subst ht;subst hc;rw [decide_eq_true_iff,Af9];exact ⟨fun h2=>⟨h1.1,h1.2,h2⟩,fun h2=>h2.2.2⟩
theorem Awf {n:Nat} {f:Nat->Int} (hn:n<=8) (h:∀ r,r < n->1<=f r/\f r<=2):AQg n (dgF f)/\ARy n (dgF f)/\det n (dgF f)<=10000:=by
 have hd:∀ k,k<=n->det k (dgF f)=ANe f k:=fun k hk=>by
   rw [AX2 (F:=dgF f) (fun c i hc hci hi=>by unfold dgF;rw [if_neg (by omega)])]
   exact Abe fun i _=>by unfold dgF;rw [if_pos rfl]
 have hb:∀ k,k<=n->0 < ANe f k/\ANe f k<=2 ^ k:=fun k=>by
   induction k with
   | zero=>intro _;simp [ANe]
   | succ k ih=>
     intro hk
     have h1:=ih (by omega)
     have h2:=h k (by omega)
     simp only [ANe]
     refine ⟨Int.mul_pos h1.1 (by omega),?_⟩
     rw [Int.pow_succ]
     exact Int.mul_le_mul h1.2 h2.2 (by omega) (Int.le_of_lt (AZ1 k))
 refine ⟨fun i j hi hj=>?_,fun k hk=>by rw [hd k hk];exact (hb k hk).1,?_⟩
 ·unfold dgF;split
  ·next h=>subst h;rw [if_pos rfl]
  ·next h=>rw [if_neg (fun h2=>h h2.symm)]
 ·rw [hd n (Nat.le_refl n)];have:=(hb n (Nat.le_refl n)).2;have h2:=AZ2 hn;omega
structure Ax5 (n:Nat) (A:Nat->Nat->Int):Prop where
  n1:1<=n
  n8:n<=8
  sym:AQg n A
  pos:ARy n A
  bd:∀ i j,i < n->j < n->(A i j).natAbs<=9
  dt:det n A<=10000
theorem Alx {n m:Nat} {f:Nat->Int} (h:∀ r,r < n->1<=f r/\f r<=(m:Int)):∀ i j,i < n->j < n->(dgF f i j).natAbs<=m:=fun i j hi hj=>by
  unfold dgF
  have:=h i hi
  split <;> omega
theorem Awg {fuel:Nat} {a1 a2 most:Int} {L L2:List Int} (h1:0<=a1/\a1 < 256) (hm:1<=most/\most<=8) (hf:100 < fuel):Ok (ALb fuel a1 a2 L L2 most) fun r=> ∃ n A,r=tab n n A/\Ax5 n A/\(n:Int)=1 + Int.tmod a1 most:=by
 have t1:=Int.emod_nonneg a1 (show most≠0 by omega);have t2:=Int.emod_lt_of_pos a1 (show 0 < most by omega);have t3:Int.tmod a1 most=a1 % most:=Int.tmod_eq_emod_of_nonneg h1.1
 have hN:w64 (1 + Int.tmod (w64 a1) most)=((1 + a1 % most).toNat:Int):=by
   rw [AIg (x:=a1) (by omega) (by omega),t3,AIg (by omega) (by omega)];omega
 generalize hNN:(1 + a1 % most).toNat=N at hN;have Ae:1<=N:=by omega
 have Ab:N<=8:=by omega
 unfold ALb;refine AJ9 (by omega) (AHt (Q:=fun e=> ∃ (q:Nat) (F:Nat->Nat->Int),e=(tab N N F,(q:Int))/\q<=200/\ ∀ i j,i < N->j < N->(F i j).natAbs<=9) (AHt (Q:=fun _=>True) ?_ fun k _=>AIb (fun _=>?_) fun _=>AIb (fun _=>?_) fun _=>AIb (fun _=>?_) fun _=>AIb (fun _=>?_) fun _=>?_) fun e he=>?_)
 ·exact AIb (fun _=>AHu trivial) fun _=>AIb (fun _=>AHu trivial) fun _=>AIb (fun _=>AHu trivial) fun _=>AHu trivial
 ·refine AHt (Q:=fun e=> ∃ (q:Nat) (F:Nat->Nat->Int),e=(tab N N F,(q:Int))/\q<=200/\ ∀ i j,i < N->j < N->(F i j).natAbs<=9) (AHt (Q:=fun e=> ∃ (q:Nat) (f:Nat->Int),e=(tab N N (dgF f),(q:Int))/\q<=8/\ ∀ r,r < N->1<=f r/\f r<=6) (AJ9 (by rw [hN];omega) (AHt (Ax4 (q0:=0) (L:=L) hN Ab (by omega) hf) fun e he=>AHu ?_)) fun e he=>?_) fun e he=>AHu he
  ·obtain ⟨q,f,rfl,h2,h3⟩:=he;exact ⟨q,f,rfl,by omega,h3⟩
  ·obtain ⟨q,f,rfl,h2,h3⟩:=he;refine AHt (Awd (L:=L) (q0:=q) Ab (by omega) (fun i j hi hj=>Nat.le_trans (Alx (m:=6) h3 i j hi hj) (by decide)) hf) fun e he=>AHu ?_;obtain ⟨q,F,rfl,h4,h5⟩:=he;exact ⟨q,F,rfl,by omega,h5⟩
 ·rw [hN];refine AHt (Alw Ae Ab hf) fun F hF=>?_;obtain ⟨F,rfl,hF⟩:=hF;refine AIe (n:=0) (AJn (by omega)) rfl (AIe (n:=0) (AIz (by omega)) rfl (AHt (Q:=fun e:Int × Int=>0<=e.1/\e.1 < 3/\ ∃ p:Nat,e.2=(p:Int)/\p<=0 + 1) (AHt (AY0 (L:=L) (q:=0) (by omega)) fun e he=>AHu ⟨(AWv _ 3 (by decide)).1,(AWv _ 3 (by decide)).2,he⟩) fun e he=>AHu ?_));obtain ⟨c1,c2,p,c3,c4⟩:=he;have c5:=hF 0 0 (by omega) (by omega);refine ⟨p,AKb F 0 fun c=>if c=0 then F 0 0 + e.1 else F 0 c,?_,by omega,fun i j hi hj=>?_⟩
  ·rw [c3,AIg (by omega) (by omega)];refine congrArg (fun z=>(z,(p:Int))) ?_;show (tab N N F).set 0 ((ALa N (F 0)).set 0 (F 0 0 + e.1))=_;rw [AMo];exact ARn
  ·rw [AI2];split
   ·split
    ·omega
    ·have:=hF 0 j (by omega) hj;omega
   ·have:=hF i j hi hj;omega
 ·rw [hN];refine AHt (Alw Ae Ab hf) fun F hF=>?_;obtain ⟨F,rfl,hF⟩:=hF;have w1:w64 ((N:Int) - 1)=((N - 1:Nat):Int):=by rw [AIg (by omega) (by omega)];omega
  rw [w1];refine AIe (AJn (by omega)) rfl (AIe (AIz (by omega)) rfl (AHt (Q:=fun e:Int × Int=>0<=e.1/\e.1 < 2/\ ∃ p:Nat,e.2=(p:Int)/\p<=0 + 1) (AHt (AY0 (L:=L) (q:=0) (by omega)) fun e he=>AHu ⟨(AWv _ 2 (by decide)).1,(AWv _ 2 (by decide)).2,he⟩) fun e he=>AHu ?_));obtain ⟨c1,c2,p,c3,c4⟩:=he;have c5:=hF (N - 1) (N - 1) (by omega) (by omega);refine ⟨p,AKb F (N - 1) fun c=>if c=N - 1 then F (N - 1) (N - 1) + e.1 else F (N - 1) c,?_,by omega,fun i j hi hj=>?_⟩
  ·rw [c3,AIg (by omega) (by omega),AKd,AKd];refine congrArg (fun z=>(z,(p:Int))) ?_;rw [AMo];exact ARn
  ·rw [AI2];split
   ·split
    ·omega
    ·have:=hF (N - 1) j (by omega) hj;omega
   ·have:=hF i j hi hj;omega
 ·refine AHt (Q:=fun e=> ∃ (q:Nat) (F:Nat->Nat->Int),e=(tab N N F,(q:Int))/\q<=200/\ ∀ i j,i < N->j < N->(F i j).natAbs<=9) (AJ9 (by rw [hN];omega) (AHt (Awa (q0:=0) (L:=L) hN Ab (by omega) hf) fun e he=>AHu ?_)) fun e he=>AHu he;obtain ⟨q,f,rfl,h2,h3⟩:=he;exact ⟨q,dgF f,rfl,by omega,fun i j hi hj=>Alx (m:=9) h3 i j hi hj⟩
 ·refine AHt (Q:=fun e=> ∃ (q:Nat) (F:Nat->Nat->Int),e=(tab N N F,(q:Int))/\q<=200/\ ∀ i j,i < N->j < N->(F i j).natAbs<=9) (AJ9 (by rw [hN];omega) (AHt (Awb (q0:=0) (L:=L) hN Ab (by omega) hf) fun e he=>AHu ?_)) fun e he=>AHu he;obtain ⟨q,f,rfl,h2,h3⟩:=he;exact ⟨q,dgF f,rfl,by omega,fun i j hi hj=>Nat.le_trans (Alx (m:=1) h3 i j hi hj) (by decide)⟩
 ·obtain ⟨q,F,rfl,h2,h3⟩:=he;dsimp only;refine AHt (Awe Ae Ab (fun i j hi hj=>Nat.le_trans (h3 i j hi hj) (by decide)) hf) fun b hb=>AIb (fun hn=>?_) fun hn=>AHu ?_
  ·refine AHt (Q:=fun e=> ∃ f:Nat->Int,e.1=tab N N (dgF f)/\ ∀ r,r < N->1<=f r/\f r<=2) (AJ9 (by rw [hN];omega) (AHt (Awc (q0:=q) (L:=L) hN Ab (by omega) hf) fun e he=>AHu ?_)) fun e he=>AHu ?_
   ·obtain ⟨q,f,rfl,h4,h5⟩:=he;exact ⟨f,rfl,h5⟩
   ·obtain ⟨f,h4,h5⟩:=he;obtain ⟨d1,d2,d3⟩:=Awf Ab h5;exact ⟨N,dgF f,h4,⟨Ae,Ab,d1,d2,fun i j hi hj=>Nat.le_trans (Alx (m:=2) h5 i j hi hj) (by decide),d3⟩,by rw [t3];omega⟩
  ·have hg:AQg N F/\ARy N F/\det N F<=10000:=hb.1 (by simpa using hn);exact ⟨N,F,rfl,⟨Ae,Ab,hg.1,hg.2.1,h3,hg.2.2⟩,by rw [t3];omega⟩
theorem Awh {fuel:Nat} {a1 a2 most:Int} {L L2:List Int} (h1:0<=a1/\a1 < 256) (hm:1<=most/\most<=8) (hf:AL1 < fuel):Ok (ALc fuel a1 a2 L L2 most) fun r=> ∃ n A,r=tab n n A/\1<=n/\(n:Int)<=most/\Ad2 n A/\ ∀ k,k < n->A k k<=3 * dm9:=by
  have hf2:100 < fuel:=Nat.lt_of_le_of_lt (by decide) hf;unfold ALc;refine AHt (Awg h1 hm hf2) fun g hg=>?_;obtain ⟨n,A,rfl,G,hn⟩:=hg;have t2:=Int.emod_lt_of_pos a1 (show 0 < most by omega);have t3:Int.tmod a1 most=a1 % most:=Int.tmod_eq_emod_of_nonneg h1.1
  let A0:Nat->Nat->Int:=fun i j=>if i < n/\j < n then A i j else 0
  have hA0:∀ i j,i < n->j < n->A0 i j=A i j:=fun i j hi hj=>if_pos ⟨hi,hj⟩;have e:tab n n A=tab n n A0:=ASp fun i j hi hj=>(hA0 i j hi hj).symm;refine AHt (AIx (Ajy G.n1 (by have:=G.n8;omega) (fun i j hi hj=>Nat.le_trans (G.bd i j hi hj) (by decide)) (by omega))) fun x hx=>?_;subst hx;rw [e];have hp:ARy n A0:=fun k hk=>by rw [AJo fun i j hi hj=>hA0 i j (by omega) (by omega)];exact G.pos k hk
  have hs:AQg n A0:=fun i j hi hj=>by rw [hA0 i j hi hj,hA0 j i hj hi];exact G.sym i j hi hj
  have hE:∀ i j,(A0 i j).natAbs<=9:=fun i j=>by
    show (if i < n/\j < n then A i j else 0).natAbs<=9
    split
    · next h=>exact G.bd i j h.1 h.2
    · decide
  have hh:=Aqs hs hp (B:=9) (by decide) (fun i hi=>by have:=hE i i;omega)
  refine AHt (Anc G.n1 G.n8 hs hp (fun i j=>Nat.le_trans (hE i j) (by decide)) (fun k hk=>?_) (fun k hk=>?_) ?_ hf) fun r hr=>AHu ?_
  · have h2:=hh k hk
    have h3:(9:Int) ^ k<=9 ^ 8:=by
      have:=Nat.pow_le_pow_right (show 0 < 9 by omega) (show k<=8 by have:=G.n8;omega);have e2:∀ t:Nat,(9:Int) ^ t=((9 ^ t:Nat):Int):=fun t=>by simp
      rw [e2,e2];omega
    exact Int.le_trans h2 h3
  · have:=hE k k;have:(3 * dm9)=129140163:=by decide
    omega
  · rw [AJo hA0];exact G.dt
  · obtain ⟨A',T,rfl,R,-,-,hd⟩:=hr;exact ⟨n,A',rfl,G.n1,by rw [hn,t3];omega,R,hd⟩
end Go.Proofs.YtmmckalinicpaaaGreatDoor
namespace Go.QF
def Abs (x b:Int):Prop:= -b<=x/\x<=b
theorem AX6 {x y a b:Int} (hx:Abs x a) (hy:Abs y b):Abs (x * y) (a * b):=by
 unfold Abs at *;have ha:0<=a:=by omega
 have hb:0<=b:=by omega
 have h1:0<=(a - x) * (b - y):=Int.mul_nonneg (by omega) (by omega);have h2:0<=(a - x) * (b + y):=Int.mul_nonneg (by omega) (by omega);have h3:0<=(a + x) * (b - y):=Int.mul_nonneg (by omega) (by omega);have h4:0<=(a + x) * (b + y):=Int.mul_nonneg (by omega) (by omega);constructor <;> grind
theorem Aq7 {x b y:Int} (hb:0 < b) (hx:Abs x (b * y)):Abs (x.tdiv b) y:=by
 unfold Abs at *;rcases AW6 x 0 with h | h
 ·have h1:x.tdiv b= -((-x).tdiv b):=by rw [Int.neg_tdiv,Int.neg_neg]
  have h2:(-x).tdiv b=(-x) / b:=Int.tdiv_eq_ediv_of_nonneg (by omega)
  have h3:(-x) / b<=y:=by
    have:(-x) / b<=(b * y) / b:=Int.ediv_le_ediv hb (by omega)
    rwa [Int.mul_ediv_cancel_left _ (by omega)] at this
  have h4:0<=(-x) / b:=Int.ediv_nonneg (by omega) (by omega);omega
 ·have h2:x.tdiv b=x / b:=Int.tdiv_eq_ediv_of_nonneg h
  have h3:x / b<=y:=by
    have:x / b<=(b * y) / b:=Int.ediv_le_ediv hb (by omega)
    rwa [Int.mul_ediv_cancel_left _ (by omega)] at this
  have h4:0<=x / b:=Int.ediv_nonneg h (by omega);omega
def Adl (M:List (List Int)):Prop:=(1<=M.length/\M.length<=8)/\(∀ z∈M,z.length=M.length)/\ ∀ i j,i < M.length->j < M.length->ent M i j=ent M j i/\ -262144 < ent M i j/\ent M i j < 262144
open Classical in
noncomputable def AQc (M:List (List Int)):Bool:=decide (Adl M)
theorem ANi {M:List (List Int)} (h:Adl M):true=AQc M:=by simp [AQc,h]
theorem AK7 {M:List (List Int)} (h: ¬ Adl M):false=AQc M:=by simp [AQc,h]
theorem Adm {M:List (List Int)} (h:AQc M=true):Adl M:=by simpa [AQc] using h
def ATg (m:Nat) (F:Nat->Nat->Int):Prop:=(0 < F 0 0/\F 0 0 < 65536)/\ ∀ i,1<=i->i < m->2 * F i 0<=F 0 0/\ -2 * F i 0<=F 0 0
instance (m:Nat) (F:Nat->Nat->Int):Decidable (ATg m F):=by
  unfold ATg
  have:Decidable (∀ i,1<=i->i < m->2 * F i 0<=F 0 0/\ -2 * F i 0<=F 0 0):=
    decidable_of_iff (∀ i,i < m->1<=i->2 * F i 0<=F 0 0/\ -2 * F i 0<=F 0 0) ⟨fun h i a b=>h i b a,fun h i a b=>h i b a⟩
  infer_instance
def AUn (F:Nat->Nat->Int) (last:Int):Nat->Nat->Int:=fun i j=>(F 0 0 * F (i + 1) (j + 1) - F (i + 1) 0 * F 0 (j + 1)).tdiv last
def AYa (F:Nat->Nat->Int) (last:Int):Prop:=3 * F 0 0 * F 0 0<=4 * (last * AUn F last 0 0 + F 1 0 * F 1 0)
instance (F:Nat->Nat->Int) (last:Int):Decidable (AYa F last):=by unfold AYa;infer_instance
def ATh:Nat->(Nat->Nat->Int)->Int->Bool
  | 0,_,_=>false
  | 1,F,_=>decide (0 < F 0 0/\F 0 0<=10000)
  | m + 2,F,last=>decide (ATg (m + 2) F) && (decide (AYa F last) && ATh (m + 1) (AUn F last) (F 0 0))
noncomputable def isRed (M:List (List Int)):Bool:=AQc M && ATh M.length (ent M) 1
structure Stg (m:Nat) (F:Nat->Nat->Int) (last:Int) (K:Int):Prop where
  sym:∀ i j,i < m->j < m->F i j=F j i
  bd:∀ i j,i < m->j < m->Abs (F i j) (last * K)
  l1:1<=last
  l2:last<=65535
theorem Ah7 {m:Nat} {F:Nat->Nat->Int} {last K:Int} (H:Stg (m + 1) F last K) (hK:0<=K) (hs:ATg (m + 1) F):Stg m (AUn F last) (F 0 0) (K + 16384):=by
 have hd:=hs.1
 have hcol:∀ i,i < m->Abs (2 * F (i + 1) 0) (F 0 0):=fun i hi=>by
   have:=hs.2 (i + 1) (by omega) (by omega)
   exact ⟨by omega,by omega⟩
 refine ⟨fun i j hi hj=>?_,fun i j hi hj=>?_,by omega,by omega⟩
 ·unfold AUn;rw [H.sym (i + 1) (j + 1) (by omega) (by omega),H.sym (i + 1) 0 (by omega) (by omega),H.sym 0 (j + 1) (by omega) (by omega),Int.mul_comm (F 0 (i + 1))]
 ·unfold AUn;refine Aq7 (by have:=H.l1;omega) ?_;have h1:Abs (F 0 0 * F (i + 1) (j + 1)) (F 0 0 * (last * K)):=AX6 ⟨by omega,by omega⟩ (H.bd _ _ (by omega) (by omega))
  have h2:Abs (2 * F (i + 1) 0 * (2 * F 0 (j + 1))) (F 0 0 * F 0 0):=by
    refine AX6 (hcol i hi) ?_
    rw [H.sym 0 (j + 1) (by omega) (by omega)];exact hcol j hj
  have h3:0<=F 0 0 * (65536 - F 0 0):=Int.mul_nonneg (by omega) (by omega);have h4:0<=F 0 0 * (last - 1):=Int.mul_nonneg (by omega) (by have:=H.l1;omega);unfold Abs at *;have e1:2 * F (i + 1) 0 * (2 * F 0 (j + 1))=4 * (F (i + 1) 0 * F 0 (j + 1)):=by grind
  rw [e1] at h2;have e2:last * (F 0 0 * (K + 16384))=F 0 0 * (last * K) + 16384 * (F 0 0 * last):=by grind
  rw [e2];have e3:F 0 0 * (65536 - F 0 0)=65536 * F 0 0 - F 0 0 * F 0 0:=by grind
  have e4:F 0 0 * (last - 1)=F 0 0 * last - F 0 0:=by grind
  rw [e3] at h3;rw [e4] at h4;omega
theorem Ane {M:List (List Int)} (h:Adl M):Stg M.length (ent M) 1 262144:=by
 refine ⟨fun i j hi hj=>(h.2.2 i j hi hj).1,fun i j hi hj=>?_,by omega,by omega⟩;have:=h.2.2 i j hi hj;unfold Abs;omega
theorem AS1 {m:Nat} {F:Nat->Nat->Int} {last:Int} (h:2<=m) (hs: ¬ ATg m F):ATh m F last=false:=by
 obtain ⟨n,rfl⟩:∃ n,m=n + 2:=⟨m - 2,by omega⟩;unfold ATh;rw [decide_eq_false hs];rfl
theorem AV1 {m:Nat} {F:Nat->Nat->Int} {last:Int} (h:2<=m) (hs: ¬ AYa F last):ATh m F last=false:=by
 obtain ⟨n,rfl⟩:∃ n,m=n + 2:=⟨m - 2,by omega⟩;unfold ATh;rw [decide_eq_false hs,Bool.false_and,Bool.and_false]
theorem Anf {m:Nat} {F:Nat->Nat->Int} {last:Int} (h:2<=m) (hs:ATg m F) (hl:AYa F last):ATh m F last=ATh (m - 1) (AUn F last) (F 0 0):=by
 obtain ⟨n,rfl⟩:∃ n,m=n + 2:=⟨m - 2,by omega⟩;rw [ATh,decide_eq_true hs,decide_eq_true hl];rfl
theorem Ab6 {m:Nat} {F:Nat->Nat->Int} {last K:Int} (H:Stg m F last K) (hK0:0<=K) (hK:K<=393216) {i j:Nat} (hi:i < m) (hj:j < m):Abs (F i j) 34359738368:=by
  have h1:=H.bd i j hi hj;have h2:=(AYp (a:=last) (b:=K) (A:=65535) (B:=393216) (by have:=H.l1;omega) H.l2 hK0 hK).2;unfold Abs at *;omega
end Go.QF
namespace Go.Proofs.YtmmckalinicpaaaGreatDoor
open Go Go.QF
set_option maxRecDepth 100000
theorem Aq8 {A:Nat->Nat->Int} {k:Nat} (h1:LvF A k) (h2:SzF A (k + 1) k) (hp:0 < det (k + 1) A):det (k + 1) A * det (k + 1) A<=2 * (det k A * det (k + 2) A):=by
 unfold LvF at h1;unfold SzF at h2;have h3:(2 * Mn k A (k + 1) k) * (2 * Mn k A (k + 1) k)<=det (k + 1) A * det (k + 1) A:=AXl (by omega) h2.2;have h4:(2 * Mn k A (k + 1) k) * (2 * Mn k A (k + 1) k)=4 * (Mn k A (k + 1) k * Mn k A (k + 1) k):=by grind
 omega
theorem ARe {x y:Int} (h0:0<=x) (h:x<=y):∀ k:Nat,x ^ k<=y ^ k
  | 0=>by simp
  | k + 1=>by
    rw [Int.pow_succ,Int.pow_succ]
    exact Int.mul_le_mul (ARe h0 h k) h h0 (Int.le_trans (Int.pow_nonneg h0) (ARe h0 h k))
def tri:Nat->Nat
  | 0=>0
  | k + 1=>tri k + (k + 1)
theorem Ajz {n:Nat} {A:Nat->Nat->Int} (hp:ARy n A) (hs:AUh A n) (hl:AV0 A n):∀ k,k + 1<=n->det k A ^ (k + 1)<=det (k + 1) A ^ k * 2 ^ tri k:=by
  intro k;induction k with
  | zero=>intro _;simp [det,tri]
  | succ k ih=>
    intro hk;have ih:=ih (by omega);have p0:=hp k (by omega);have p1:=hp (k + 1) (by omega);have p2:=hp (k + 2) (by omega);have h1:=Aq8 (hl k (by omega)) (hs (k + 1) k (by omega) (by omega)) p1;generalize det k A=a at *
    generalize det (k + 1) A=b at *
    generalize det (k + 2) A=c at *
    have h2:(b * b) ^ (k + 1)<=(2 * (a * c)) ^ (k + 1):=ARe (Int.le_of_lt (Int.mul_pos p1 p1)) h1 _;rw [Int.mul_pow,Int.mul_pow,Int.mul_pow] at h2;have h3:a ^ (k + 1) * c ^ (k + 1)<=b ^ k * 2 ^ tri k * c ^ (k + 1):=Int.mul_le_mul_of_nonneg_right ih (Int.le_of_lt (Int.pow_pos p2));have h4:2 ^ (k + 1) * (a ^ (k + 1) * c ^ (k + 1))<=2 ^ (k + 1) * (b ^ k * 2 ^ tri k * c ^ (k + 1)):=Int.mul_le_mul_of_nonneg_left h3 (Int.le_of_lt (AZ1 _));have h5:=Int.le_trans h2 h4;have e1:b ^ (k + 1) * b ^ (k + 1)=b ^ k * b ^ (k + 1 + 1):=by rw [Int.pow_succ b k,Int.pow_succ b (k + 1),Int.pow_succ b k];grind
    have e2:(2:Int) ^ (k + 1) * (b ^ k * 2 ^ tri k * c ^ (k + 1))=b ^ k * (c ^ (k + 1) * 2 ^ tri (k + 1)):=by
      have:(2:Int) ^ tri (k + 1)=2 ^ tri k * 2 ^ (k + 1):=by rw [<- Int.pow_add];rfl
      rw [this];grind
    rw [e1,e2] at h5;exact Int.le_of_mul_le_mul_left h5 (Int.pow_pos p1)
def dU:Nat->Int
  | 8=>10000
  | 7=>35777
  | 6=>64000
  | 5=>57243
  | 4=>25600
  | _=>10000
theorem Ax6 (k:Nat):dU k<=64000:=by unfold dU;split <;> omega
theorem Auv (k:Nat):10000<=dU k:=by unfold dU;split <;> omega
theorem Atw:∀ k,k < 8->dU (k + 1) ^ k * 2 ^ tri k < (dU k + 1) ^ (k + 1):=by decide
theorem Ang {n:Nat} {A:Nat->Nat->Int} (hn:n<=8) (hp:ARy n A) (hs:AUh A n) (hl:AV0 A n) (hd:det n A<=10000):∀ m k,k + m=n->det k A<=dU k:=by
 intro m
 induction m with
 | zero=>
     intro k hk;obtain rfl:k=n:=by omega
     exact Int.le_trans hd (Auv _)
 | succ m ih=>
   intro k hk
   have h1:=ih (k + 1) (by omega)
   have h2:=Ajz hp hs hl k (by omega)
   have p0:=hp k (by omega)
   have p1:=hp (k + 1) (by omega)
   rcases Int.lt_or_le (dU k) (det k A) with h | h
   · exfalso
     have h3:(dU k + 1) ^ (k + 1)<=det k A ^ (k + 1):=ARe (by have:=Auv k;omega) (by omega) _
     have h4:det (k + 1) A ^ k * 2 ^ tri k<=dU (k + 1) ^ k * 2 ^ tri k:=Int.mul_le_mul_of_nonneg_right (ARe (Int.le_of_lt p1) h1 k) (Int.le_of_lt (AZ1 _))
     have h5:=Atw k (by omega)
     omega
   · exact h
theorem AZ3 {n:Nat} {A:Nat->Nat->Int} (hn:n<=8) (R:Ad2 n A) {k:Nat} (hk:k<=n):0 < det k A/\det k A<=64000:=
  ⟨R.pos k hk,Int.le_trans (Ang hn R.pos R.sz R.lv R.dt (n - k) k (by omega)) (Ax6 k)⟩
theorem AZ4 {n:Nat} {A:Nat->Nat->Int} (hn:n<=8) (R:Ad2 n A) {i j:Nat} (hi:i < n) (hj:j < n): -192000<=A i j/\A i j<=192000:=
  Ah4 R.sym R.pos (fun k hk=>Ahu (Dm:=64000) hn R.sym R.pos hk (fun k hk=>(AZ3 hn R hk).2) fun l hl=>R.sz k l hl hk) hi hj
structure RB (n:Nat) (A:Nat->Nat->Int) (k:Nat):Prop where
  pos:∀ j,k < j->j<=n->0 < det j A
  lt:∀ j,k < j->j < n->det j A < 65536
  sz:∀ l i,k<=l->l < i->i < n->SzF A i l
  lv:∀ l,k<=l->l + 1 < n->LvF A l
  dt:det n A<=10000
theorem Awi {A F:Nat->Nat->Int} {m k:Nat} (h0:0 < det k A) (hF:∀ i j,i < m + 1->j < m + 1->F i j=Mn k A (k + i) (k + j)) {i j:Nat} (hi:i < m) (hj:j < m):AUn F (det k A) i j=Mn (k + 1) A (k + 1 + i) (k + 1 + j):=by
 unfold AUn;rw [hF 0 0 (by omega) (by omega),hF (i + 1) (j + 1) (by omega) (by omega),hF (i + 1) 0 (by omega) (by omega),hF 0 (j + 1) (by omega) (by omega),Nat.add_zero,AX3 (by omega),Int.mul_tdiv_cancel_left _ (by omega)];rw [show k + (i + 1)=k + 1 + i by omega,show k + (j + 1)=k + 1 + j by omega]
theorem Ah8 {n:Nat} {A:Nat->Nat->Int}:∀ (m k:Nat) (F:Nat->Nat->Int),k + m=n->1<=m->0 < det k A->(∀ i j,i < m->j < m->F i j=Mn k A (k + i) (k + j))->(ATh m F (det k A)=true↔RB n A k):=by
 intro m
 induction m with
 | zero=>intro k F _ h;omega
 | succ m ih=>
   intro k F hk _ h0 hF
   have Ad:F 0 0=det (k + 1) A:=by rw [hF 0 0 (by omega) (by omega)];exact APh k A
   cases m with
   | zero=>
     obtain rfl:k + 1=n:=hk
     show decide (0 < F 0 0/\F 0 0<=10000)=true↔_
     rw [decide_eq_true_iff,Ad]
     exact ⟨fun h=>⟨fun j h1 h2=>by
       obtain rfl:j=k + 1:=by omega
       exact h.1,fun j h1 h2=>by omega,fun l i h1 h2 h3=>by omega,fun l h1 h2=>by omega,h.2⟩,fun h=>⟨h.pos (k + 1) (by omega) (Nat.le_refl _),h.dt⟩⟩
   | succ m=>
     have hN:∀ i j,i < m + 1->j < m + 1->AUn F (det k A) i j=Mn (k + 1) A (k + 1 + i) (k + 1 + j):=fun i j hi hj=>Awi h0 hF hi hj
     have hS:ATg (m + 1 + 1) F↔(0 < det (k + 1) A/\det (k + 1) A < 65536)/\ ∀ i,k < i->i < n->SzF A i k:=by
       unfold ATg
       rw [Ad]
       refine and_congr_right fun _=>⟨fun h i h1 h2=>?_,fun h i h1 h2=>?_⟩
       · have h3:=h (i - k) (by omega) (by omega)
         rw [hF (i - k) 0 (by omega) (by omega),show k + (i - k)=i by omega] at h3
         unfold SzF
         simp only [Nat.add_zero] at h3
         omega
       · have h3:=h (k + i) (by omega) (by omega)
         unfold SzF at h3
         rw [hF i 0 h2 (by omega),Nat.add_zero]
         omega
     have hL:AYa F (det k A)↔LvF A k:=by
       unfold AYa LvF
       rw [Ad,hN 0 0 (by omega) (by omega),Nat.add_zero,APh (k + 1) A,hF 1 0 (by omega) (by omega),Nat.add_zero]
       have e:3 * det (k + 1) A * det (k + 1) A=3 * (det (k + 1) A * det (k + 1) A):=by grind
       rw [e]
       exact Iff.rfl
     show (decide (ATg (m + 1 + 1) F) && (decide (AYa F (det k A)) && ATh (m + 1) (AUn F (det k A)) (F 0 0)))=true↔_
     rw [Bool.and_eq_true,Bool.and_eq_true,decide_eq_true_iff,decide_eq_true_iff,hS,hL,Ad]
     constructor
     · rintro ⟨⟨⟨h1,h2⟩,h3⟩,h4,h5⟩
       have R:=(ih (k + 1) _ (by omega) (by omega) h1 hN).1 h5
       refine ⟨fun j a b=>?_,fun j a b=>?_,fun l i a b c=>?_,fun l a b=>?_,R.dt⟩
       · by_cases e:j=k + 1
         · subst e;exact h1
         · exact R.pos j (by omega) b
       · by_cases e:j=k + 1
         · subst e;exact h2
         · exact R.lt j (by omega) b
       · by_cases e:l=k
         · subst e;exact h3 i b c
         · exact R.sz l i (by omega) b c
       · by_cases e:l=k
         · subst e;exact h4
         · exact R.lv l (by omega) b
     · intro R
       have h1:=R.pos (k + 1) (by omega) (by omega)
       exact ⟨⟨⟨h1,R.lt (k + 1) (by omega) (by omega)⟩,fun i a b=>R.sz k i (Nat.le_refl k) a b⟩,R.lv k (Nat.le_refl k) (by omega),(ih (k + 1) _ (by omega) (by omega) h1 hN).2 ⟨fun j a b=>R.pos j (by omega) b,fun j a b=>R.lt j (by omega) b,fun l i a b c=>R.sz l i (by omega) b c,fun l a b=>R.lv l (by omega) b,R.dt⟩⟩
def Agc (M:List (List Int)):Prop:=(1<=M.length/\M.length<=8)/\(∀ z∈M,z.length=M.length)/\Ad2 M.length (ent M)
theorem Ae0 (M:List (List Int)):isRed M=true↔Agc M:=by
 unfold isRed;rw [Bool.and_eq_true];constructor
 ·rintro ⟨h1,h2⟩;have S:=Adm h1;have R:=(Ah8 (A:=ent M) (n:=M.length) M.length 0 (ent M) (by omega) S.1.1 (by simp [det]) fun i j _ _=>by rw [ASo,Nat.zero_add,Nat.zero_add]).1 (by simpa [det] using h2);refine ⟨S.1,S.2.1,fun i j hi hj=>(S.2.2 i j hi hj).1,fun k hk=>?_,fun r l h3 h4=>R.sz l r (Nat.zero_le _) h3 h4,fun l hl=>R.lv l (Nat.zero_le _) hl,R.dt⟩;rcases Nat.eq_zero_or_pos k with h | h
  ·subst h;simp [det]
  ·exact R.pos k h hk
 ·rintro ⟨h1,h2,R⟩;refine ⟨(ANi ⟨h1,h2,fun i j hi hj=>⟨R.sym i j hi hj,?_,?_⟩⟩).symm,?_⟩
  ·have:=AZ4 h1.2 R hi hj;omega
  ·have:=AZ4 h1.2 R hi hj;omega
  ·have h3:=(Ah8 (A:=ent M) (n:=M.length) M.length 0 (ent M) (by omega) h1.1 (by simp [det]) fun i j _ _=>by rw [ASo,Nat.zero_add,Nat.zero_add]).2 ⟨fun j _ hj=>R.pos j hj,fun j _ hj=>by have:=AZ3 h1.2 R (k:=j) (by omega);omega,fun l i _ a b=>R.sz i l a b,fun l _ hl=>R.lv l hl,R.dt⟩;simpa [det] using h3
theorem Aj0 {fuel r c:Nat} {F:Nat->Nat->Int} (hr:1<=r) (Ad:r<=16) (hc:1<=c) (Ae:c<=16) (hf:100 < fuel):AJi fuel (tab r c F)=some ((r:Int),(c:Int),true):=by
 apply ok_eq;unfold AJi;rw [AJk];refine AHt (Q:=fun ex=>match ex with | .inl _=>False | .inr _=>True) (AIb (fun h=>by omega) fun h=>AIb (fun h2=>by omega) fun h2=>AHu trivial) fun ex hex=>?_
 cases ex with
 | inl e=>exact hex.elim
 | inr u=>
   dsimp only
   refine AHt (AJa (fun i (s:Int)=>s=i) r (Q:=fun ex=>match ex with | .inl _=>False | .inr _=>True) rfl (by omega) fun i s hi hI=>?_) fun ex hex=>?_
   · subst hI
     unfold AL5
     rw [AJk]
     refine AIb (fun h=>AIe (AJn (by omega)) rfl ?_) fun h=>AHu trivial
     rw [AJj]
     refine AIb (fun h2=>by omega) fun h2=>AIb (fun h3=>by omega) fun h3=>AIe (n:=0) (AJn (by omega)) rfl (AIb (fun h4=>?_) fun h4=>AHu ⟨by omega,AIg (by omega) (by omega)⟩)
     rw [AJj] at h4;omega
   · cases ex with
     | inl e=>exact hex.elim
     | inr u=>exact AIe (n:=0) (AJn (by omega)) rfl (AHu (by rw [AJj]))
theorem Anh {fuel n:Nat} {F:Nat->Nat->Int} (Ah:1<=n) (hn:n<=8) (hb:∀ i j,i < n->j < n->(F i j).natAbs<=AMs) (hf:100 < fuel):Ok (AMh fuel (tab n n F)) fun r=>r=true↔AUh F n/\AV0 F n:=by
 unfold AMh;refine AHt (AIx (Aa0 Ah hn hb hf)) fun x hx=>?_;subst hx;dsimp only;refine AHt (AJa (fun i s=>s=((i:Nat):Int)/\i<=n/\AUh F i/\AV0 F i) n (Q:=fun ex=>match ex with | .inl e=>e=false/\¬ (AUh F n/\AV0 F n) | .inr _=>AUh F n/\AV0 F n) ⟨rfl,Nat.zero_le _,fun r l h1 h2=>by omega,fun r h=>by omega⟩ (by omega) fun i s hi hI=>?_) fun ex hex=>?_
 ·obtain ⟨rfl,hin,hsz,hlv⟩:=hI;unfold AOj;rw [AJk];refine AIb (fun h=>?_) (fun h=>AHu ?_)
  ·have hi':i < n:=by omega
   refine AHt (AJa (fun k s=>s=((k:Nat):Int)/\k<=i/\ ∀ l,l < k->SzF F i l) i (Q:=fun ex=>match ex with | .inl e=>e=false/\¬ (AUh F n/\AV0 F n) | .inr _=> ∀ l,l < i->SzF F i l) ⟨rfl,Nat.zero_le _,fun l h1=>by omega⟩ (by omega) fun k s hk hK=>?_) fun ex hex=>?_
   ·obtain ⟨rfl,hki,hz⟩:=hK;unfold AOi;refine AIb (fun h2=>?_) (fun h2=>AHu ?_)
    ·have hki':k < i:=by omega
     refine AHt (AIx (Alh hn hi' (by omega) hb hf)) fun b Ad=>?_;subst Ad;refine AIb (fun h3=>AHu ⟨rfl,fun h4=>?_⟩) (fun h3=>AHu ⟨by omega,by rw [AIg (by omega) (by omega)];omega,by omega,fun l hl=>?_⟩)
     ·have:=h4.1 i k hki' hi';rw [<- Ab5] at this;simp [this] at h3
     ·have hgood:SzF F i k:=by rw [<- Ab5];simpa using h3
      rcases Nat.lt_or_ge l k with h6 | h6
      ·exact hz l h6
      ·obtain rfl:l=k:=by omega
       exact hgood
    ·obtain rfl:k=i:=by omega
     exact hz
   ·cases ex with
    | inl r=>exact AHu hex
    | inr e=>
      have hsz':AUh F (i + 1):=fun r l h1 h2=>by
        rcases Nat.lt_or_ge r i with h3 | h3
        · exact hsz r l h1 h3
        · obtain rfl:r=i:=by omega
          exact hex l h1
      dsimp only
      have nx:w64 ((i:Int) + 1)=((i + 1:Nat):Int):=by rw [AIg (by omega) (by omega)];omega
      refine AIb (fun h4=>?_) (fun h4=>AHu ⟨by omega,nx,by omega,hsz',fun r hr=>by omega⟩)
      obtain ⟨j,rfl⟩:∃ j,i=j + 1:=⟨i - 1,by omega⟩
      refine AHt (Ah0 hn hi' hb hf) fun b Ad=>?_
      refine AIb (fun h5=>AHu ⟨rfl,fun h6=>?_⟩) (fun h5=>AHu ⟨by omega,nx,by omega,hsz',fun r hr=>?_⟩)
      · rw [Ad.2 (h6.2 j hi')] at h5;cases h5
      · have hgood:LvF F j:=Ad.1 (by simpa using h5)
        rcases Nat.lt_or_ge r j with h6 | h6
        · exact hlv r (by omega)
        · obtain rfl:r=j:=by omega
          exact hgood
  ·obtain rfl:i=n:=by omega
   exact ⟨hsz,hlv⟩
 ·cases ex with
  | inl r=>exact AHu (Iff.intro (fun h=>by rw [hex.1] at h;cases h) fun h=>absurd h hex.2)
  | inr u=>exact AHu ⟨fun _=>hex,fun _=>rfl⟩
def Aj1 (M:List (List Int)):Prop:= ∀ z∈M,∀ x∈z,-9223372036854775808<=x/\x<=9223372036854775807
theorem AY2 {fuel:Nat} {M:List (List Int)} (hM:Aj1 M) (hf:100 < fuel):AKx fuel M=some (isRed M):=by
 have key:Ok (AKx fuel M) fun r=>r=true↔Agc M:=by
   unfold AKx
   refine AHt (AIx (Abf hM (by omega))) fun x hx=>?_
   subst hx
   by_cases hk:okM M=true
   · rw [if_pos hk]
     dsimp only
     have Ag:=hk
     unfold okM at Ag
     rw [decide_eq_true_iff] at Ag
     obtain ⟨a1,a2,a3⟩:=Ag
     have hne:∃ z,M[0]? =some z:=⟨M[0],List.getElem?_eq_getElem (by omega)⟩
     obtain ⟨z,hz⟩:=hne
     have hc:ARk M=z.length:=Aav hz
     have Aj:=a3 z (List.mem_of_getElem? hz)
     have hT:M=tab M.length (ARk M) (ent M):=Afb fun z hz=>(a3 z hz).2.2
     refine AIb (fun _=>?_) fun h=>absurd rfl h
     by_cases hsq:ARk M=M.length/\M.length<=8
     · have Ai:M=tab M.length M.length (ent M):=by rw [hsq.1] at hT;exact hT
       have hb:∀ i j,i < M.length->j < M.length->(ent M i j).natAbs<=AMs:=fun i j hi hj=>by
         have hl:M[i].length=M.length:=by rw [(a3 _ (List.getElem_mem hi)).2.2];exact hsq.1
         rw [Aoe hi (by omega)]
         have h1:=hM _ (List.getElem_mem hi) _ (List.getElem_mem (show j < M[i].length by omega))
         have h2:(9223372036854775808:Nat)<=AMs:=by decide
         omega
       have hR:Agc M↔Ad2 M.length (ent M):=⟨fun h=>h.2.2,fun h=>⟨⟨a1,hsq.2⟩,fun z hz=>by rw [(a3 z hz).2.2];exact hsq.1,h⟩⟩
       rw [hR]
       generalize hF:ent M=F at *
       generalize hL:M.length=n at *
       rw [Ai]
       refine AHt (AYy a1 hsq.2 hb hf) fun v hv=>AIb (fun h=>?_) fun h=>AHu ⟨fun h2=>(nomatch h2),fun h2=>absurd (hv.2 ⟨h2.sym,h2.pos⟩) h⟩
       have h1:=hv.1 h
       refine AHt (AIx (Alm hsq.2 hb hf)) fun b Ad=>?_
       subst Ad
       refine AIb (fun h2=>?_) fun h2=>AHu ⟨fun h3=>(nomatch h3),fun h3=>absurd (decide_eq_true h3.dt) h2⟩
       refine AHt (Anh a1 hsq.2 hb hf) fun b Ad=>AHu ⟨fun h3=>?_,fun h3=>Ad.2 ⟨h3.sz,h3.lv⟩⟩
       exact ⟨h1.1,h1.2,(Ad.1 h3).1,(Ad.1 h3).2,of_decide_eq_true h2⟩
     · have hnr: ¬ Agc M:=fun h=>hsq ⟨by rw [hc];exact h.2.1 z (List.mem_of_getElem? hz),h.1.2⟩
       refine AHt (Q:=fun v=>v=3) ?_ fun v hv=>AIb (fun h=>by omega) fun _=>AHu ⟨fun h=>(nomatch h),fun h=>absurd h hnr⟩
       unfold AJ4
       refine AHt (Q:=fun e=>e.2=false∨(8:Int) < e.1) ?_ fun e he=>?_
       · unfold AKz
         rw [hT]
         refine AHt (AIx (Aj0 a1 a2 (by omega) (by omega) hf)) fun x hx=>?_
         subst hx
         dsimp only
         refine AIb (fun h=>absurd h (by decide)) fun _=>AIb (fun h=>AHu (.inl rfl)) fun h=>AHu (.inr ?_)
         have h2:M.length=ARk M:=by omega
         dsimp only
         by_cases h3:M.length<=8
         · exact absurd ⟨h2.symm,h3⟩ hsq
         · omega
       · obtain ⟨e1,e2⟩:=e
         dsimp only at he ⊢
         refine AIb (fun h=>AHu rfl) fun h=>AIb (fun _=>AHu rfl) fun h2=>?_
         rcases he with rfl | he
         · exact absurd rfl h
         · exact absurd he h2
   · rw [if_neg hk]
     refine AIb (fun h=>(nomatch h)) fun _=>AHu ⟨fun h=>(nomatch h),fun h=>absurd ?_ hk⟩
     obtain ⟨h1,h2,_⟩:=h
     unfold okM
     rw [decide_eq_true_iff]
     have hc:ARk M=M.length:=by rw [Aav (List.getElem?_eq_getElem (show 0 < M.length by omega))];exact h2 _ (List.getElem_mem _)
     exact ⟨by omega,by omega,fun z hz=>by rw [h2 z hz,hc];exact ⟨by omega,by omega,rfl⟩⟩
 obtain ⟨r,h1,h2⟩:=key;rw [h1];congr 1;rw [<- Ae0] at h2;cases r <;> cases h:isRed M <;> simp_all
end Go.Proofs.YtmmckalinicpaaaGreatDoor
namespace Go.QF
open Go
theorem Ae1 {h:AHr} {v:Value} {l:List Value} (H:Sl h v l):SlK h 1 v (l.map fun x=>[x]):=by
 obtain ⟨a,cap,hv,hc⟩:=H;refine ⟨a,cap,by rw [List.length_map];exact hv,fun i row hr=>?_⟩;rw [List.getElem?_map] at hr;obtain ⟨x,hx,rfl⟩:=Option.map_eq_some_iff.1 hr;obtain ⟨b,o,ha,hb⟩:=hc i x hx;refine ⟨b,o,ha,fun j y hy=>?_⟩
 cases j with
 | zero=>injection hy with hy;subst hy;rw [Nat.mul_one,Nat.add_zero];exact hb
 | succ j=>simp at hy
theorem Ae2 {h:AHr} {v:Value} {l:List Value} (H:SlK h 1 v (l.map fun x=>[x])):Sl h v l:=by
 obtain ⟨a,cap,hv,hc⟩:=H;refine ⟨a,cap,by rw [List.length_map] at hv;exact hv,fun i x hx=>?_⟩;obtain ⟨b,o,ha,hb⟩:=hc i [x] (by simp [hx]);refine ⟨b,o,ha,?_⟩;have:=hb 0 x rfl;rwa [Nat.mul_one,Nat.add_zero] at this
theorem Aj2 {κ:IntKind} {h:AHr} {v:Value} {L:List Int} (H:Sl h v (L.map (.int κ))):SlC (cI κ) h v L:=by
 refine ⟨L.map fun a=>[.int κ a],?_,by simp,fun i cs a h1 h2=>?_⟩
 ·have:=Ae1 H;rwa [List.map_map] at this
 ·rw [List.getElem?_map,h2] at h1;injection h1 with h1;exact h1.symm
theorem Ax7 {κ:IntKind} {h:AHr} {v:Value} {L:List Int} (H:SlC (cI κ) h v L):Sl h v (L.map (.int κ)):=by
 obtain ⟨Ls,h1,h2,h3⟩:=H
 have:Ls=(L.map (Value.int κ)).map fun x=>[x]:=by
   apply List.ext_getElem?
   intro i
   by_cases hi:i < L.length
   · obtain ⟨a,ha⟩:∃ a,L[i]? =some a:=⟨L[i],List.getElem?_eq_getElem hi⟩
     obtain ⟨cs,hcs⟩:∃ cs,Ls[i]? =some cs:=⟨Ls[i]'(by omega),List.getElem?_eq_getElem _⟩
     have:=h3 i cs a hcs ha
     rw [hcs,List.map_map,List.getElem?_map,ha]
     exact congrArg some this
   · rw [List.getElem?_eq_none (by omega),List.getElem?_eq_none (by simp;omega)]
 subst this;exact Ae2 h1
theorem Awj {h:AHr} {v:Value} {M:List (List Int)} (H:AM9 (cI .i64) h v M):Mat h v M:=by
 obtain ⟨_,rs,h1,h2,h3⟩:=H;exact ⟨rs,Ae2 h1,h2,fun i r z hr hz=>Ax7 (h3 i r z hr hz)⟩
theorem Atx {h:AHr} {v:Value} {M:List (List Int)} (H:Mat h v M) (hc:AS6 v):AM9 (cI .i64) h v M:=by
 obtain ⟨rs,h1,h2,h3⟩:=H;exact ⟨hc,rs,Ae1 h1,h2,fun i r z hr hz=>Aj2 (h3 i r z hr hz)⟩
end Go.QF
namespace Go.Proofs.YtmmckalinicpaaaGreatDoor
open Go Go.QF
open Go.ChangeShapes Go.WideShapes Go.ChangeAt Go.RowKit
set_option maxRecDepth 100000
theorem Ani:Tryz.prog.cellsOf 24=4:=by kernel_rfl
theorem wf_i64 {z:Int} (h:(Lit.int .i64 z).wf=true): -9223372036854775808<=z/\z<=9223372036854775807:=by
 simp [Lit.wf,IntKind.min,IntKind.max,IntKind.bits,IntKind.signed] at h;omega
theorem Awk {H:Type} {enc:TypeId × Value->H} {W:World} {fuel:Nat} {v:Value} {x:DataW H × List MemPlace} (hf:DataW.trod enc Tryz.prog W 0 (fun _=>true) true fuel 25 [v]=some x):∃ M,AM9 (cI .i64) W.heap v M/\Aj1 M:=by
  rcases Deep.open_int_rows Tryz.underlying25 Tryz.underlying60 Tryz.underlying2 Ame Ad7 hf with ⟨hcs,_⟩ | ⟨a',len',cap',A,L,C,Z,hcs,_,hl,_,_,hrow⟩
  · simp at hcs;subst hcs;exact ⟨[],Apy _ _,fun z hz=>by cases hz⟩
  · simp at hcs;subst hcs
    have hM:Mat W.heap (.slice (some a') len' cap') ((List.range len').map fun r=>(Z r).take (L r)):=by
      refine ⟨(List.range len').map fun r=> .slice (A r) (L r) (C r),?_,by simp,fun i r z hr hz=>?_⟩
      · refine AW8 (by simp) (fun h=>by cases h) fun a'' ha i x hx=>?_;injection ha with ha;subst ha;have hi:i < len':=by have:=(List.getElem?_eq_some_iff.1 hx).1;simpa using this
        simp [hi] at hx;subst hx;exact (hrow i (by omega)).1
      · have hi:i < len':=by have:=(List.getElem?_eq_some_iff.1 hr).1;simpa using this
        simp [hi] at hr hz;subst hr;subst hz;obtain ⟨_,hLC,_,hZ,_,hnone,hcell⟩:=hrow i (by omega);refine AW8 (by simp;omega) (fun h=>by have:=hnone h;omega) fun a'' ha c x hx=>?_;have hc:c < L i:=by have:=(List.getElem?_eq_some_iff.1 hx).1;simp at this;omega
        have:=(hcell a'' ha).2 c (by omega);rw [this];rw [List.getElem?_map,List.getElem?_take,if_pos hc,List.getElem?_eq_getElem (by omega)] at hx;simp only [Option.map_some,Option.some.injEq] at hx;rw [<- hx,List.getD_eq_getElem?_getD,List.getElem?_eq_getElem (by omega)];rfl
    refine ⟨_,Atx hM ⟨_,_,_,rfl,hl⟩,fun z hz x hx=>?_⟩;obtain ⟨r,hr,rfl⟩:=List.mem_map.1 hz;have hr':r < len':=List.mem_range.1 hr;exact wf_i64 ((hrow r (by omega)).2.2.2.2.1 x (List.mem_of_mem_take hx))
theorem Aq9 {H:Type} {enc:TypeId × Value->H} {W:World} {v:Value} {d:DataW H} {p:List MemPlace} (hv:∃ a len cap,v= .slice a len cap) (h:DataW.Trod enc Tryz.prog W 0 (fun _=>true) true 25 v d p):∃ M,AM9 (cI .i64) W.heap v M/\Aj1 M:=by
 obtain ⟨fuel,hf⟩:=h;obtain ⟨a,len,cap,rfl⟩:=hv;exact Awk hf
theorem Ara {H:Type} {enc:TypeId × Value->H} {W:World} {r:Reach} {b0:Nat} {v:Value} {d:DataW H} {p:List MemPlace} (hv:Value.okWide Tryz.prog W r b0 24 v) (h:DataW.Trod enc Tryz.prog W 0 (fun _=>true) true 24 v d p):
    ∃ (g k:Int) (lv bv:Value) (Z Y:List Int),v= .agg #[.int .u8 g,.int .u8 k,lv,bv]/\SlC (cI .i8) W.heap lv Z/\SlC (cI .i8) W.heap bv Y/\(0<=g/\g < 256)/\(0<=k/\k < 256)/\(∀ z∈Z,-128<=z/\z<=127)/\ ∀ z∈Y,-128<=z/\z<=127:=by
  obtain ⟨cs,rfl,hsz⟩:=okWide_struct Tryz.underlying24 hv;rw [Ani] at hsz;obtain ⟨l⟩:=cs
  match l,hsz with
  | [c0,c1,c2,c3],_=>
    obtain ⟨fuel,hf⟩:=h;obtain ⟨y0,y1,y2,y3,n,_,_,h0,h1,h2,h3⟩:=Joins.trod_struct4 Tryz.underlying24 hf;simp [Value.cells,Aoq,Aor] at h0 h1 h2 h3;obtain ⟨x0,e0,_,w0⟩:=DataW.trod_int Tryz.underlying5 h0;obtain ⟨x1,e1,_,w1⟩:=DataW.trod_int Tryz.underlying5 h1;simp at e0 e1;subst e0;subst e1;have b0:=wf_u8 w0;have b1:=wf_u8 w1;obtain ⟨Z,HZ,hZ⟩:=Aos h2;obtain ⟨Y,HY,hY⟩:=Aos h3;exact ⟨x0,x1,c2,c3,Z,Y,rfl,Aj2 HZ,Aj2 HY,by omega,by omega,hZ,hY⟩
end Go.Proofs.YtmmckalinicpaaaGreatDoor
namespace Go.Proofs.YtmmckalinicpaaaGreatDoor.Ig
open Go Go.QF
set_option maxRecDepth 100000
structure Aty (h:AHr) (v:Value) (L:List Nat) (v':Value) (L':List Nat):Prop where
  sl:Sl h v' (L'.map ARp)
  cap:AS6 v'
  dig:Dig L'
  blk:v'.ownBlock=v.ownBlock
  val:nv L'=nv L
  len:L'.length<=L.length
  tg:∀ g,v.ownBlock=some g-> ∃ cur off,h[g]? =some (.cells cur 199 off)
theorem Aty.ds {h:AHr} {lo:Nat} {v v':Value} {L L':List Nat} (H:Aty h v L v' L') (hl:∀ g,v.ownBlock=some g->lo<=g):DS h lo v' L':=⟨H.sl,H.cap,H.dig,fun g hg=>hl g (H.blk ▸ hg),fun g hg=>H.tg g (H.blk ▸ hg)⟩
theorem Arb {L:List Nat} (h:L[L.length - 1]? =some 0):nv (L.take (L.length - 1))=nv L:=by
 have h1:L=L.take (L.length - 1) ++ [0]:=by
   have:=Ad9 h
   rw [this,List.take_of_length_le (by have:=(List.getElem?_eq_some_iff.1 h).1;omega)]
 conv=>rhs;rw [h1,AP4]
 simp
theorem AQu {h:AHr} {v:Value} {L:List Nat} (H:DS h 0 v L) (hn:L.length<=1000000):AIj Tryz.prog 205 #[v] h fun x h'=>h'=h/\ ∃ L',Aty h v L x L'/\TL L':=by
 refine AHx (l:=[_]) mx Tryz.func205 rfl rfl rfl rfl rfl (by kernel_rfl) (ACu (ACv (AHq (ACt (q_t (ACu (AHz (AIy 1048569 (fun y:Value × List Nat=>[(0,y.1)]) (fun k y h'=>h'=h/\y.2.length=k/\Aty h v L y.1 y.2) (by kernel_rfl) L.length (v,L) ?_ ⟨rfl,trivial⟩ ?_))))))))
 ·exact ⟨rfl,rfl,H.sl,H.cap,H.dig,rfl,rfl,Nat.le_refl _,H.tg⟩
 rintro k ⟨u,Lu⟩ s1 h ⟨rfl,rfl,HT⟩;dsimp only at HT ⊢;refine ACu (ACu (ACv (AHo (AYm AH7 rfl HT.sl ?_))));rw [List.length_map];have hLlen:=HT.len;refine ATv rfl rfl (fun Aa=>?_) (fun Aa=>?_)
 ·refine AHo (AH3 6 true (by kernel_rfl) rfl rfl (AHo (AH3 6 true (by kernel_rfl) rfl rfl (AHo (AH3 6 true (by kernel_rfl) rfl rfl (AYm AH7 rfl HT.sl ?_))))));rw [List.length_map];refine AH3 6 true (by kernel_rfl) rfl rfl (AQx rfl rfl (by omega) (by omega) ?_);rw [show ((Lu.length:Nat):Int) - 1=((Lu.length - 1:Nat):Int) by omega];obtain ⟨x,hx⟩:∃ x,Lu[Lu.length - 1]? =some x:=⟨_,List.getElem?_eq_getElem (by omega)⟩;refine AH3 6 true (by kernel_rfl) rfl rfl (Aci AH7 rfl HT.sl rfl (AUt hx) fun a1 Ab=>AH3 6 true (by kernel_rfl) rfl rfl (AIr AJz rfl Ab (AH3 6 true (by kernel_rfl) rfl rfl (AVm rfl rfl (fun Ac=>?_) (fun Ac=>?_)))))
  ·refine AIt rfl (ACt (q_t (AIh rfl (AH2 (q_t (AHz (ACv (AHo (AHo (AYm AH7 rfl HT.sl ?_))))))))));rw [List.length_map];refine AQx rfl rfl (by omega) (by omega) ?_;rw [show ((Lu.length:Nat):Int) - 1=((Lu.length - 1:Nat):Int) by omega];have Ad:Lu[Lu.length - 1]? =some 0:=by rw [hx];congr 1;omega
   refine Afe (v:=u) AH7 rfl HT.sl HT.cap rfl (by rw [List.length_map];omega) fun v9 Af Ag Ah=>?_;refine AHq (ACt (q_b (q_t ?_)));exact ⟨Lu.length - 1,(v9,Lu.take (Lu.length - 1)),by first | omega | (dsimp only;omega),⟨rfl,by simp,⟨by dsimp only;rw [List.map_take];exact Af,Ag,AZd HT.dig _,Ah.trans HT.blk,by rw [Arb Ad];exact HT.val,by rw [List.length_take];have:=HT.len;omega,HT.tg⟩⟩,rfl,trivial⟩
  ·refine AIt rfl (ACt (q_t (AId rfl (AIo (AIq (AIq (AJ5 (q_t (ACu (ACv (AHo (AHq (ACt (q_t (AH1 (⟨_,AH5,?_⟩))))))))))))))));refine ⟨rfl,Lu,HT,fun y hy=>?_⟩
   first
   | (have:Lu=[]:=List.length_eq_zero_iff.1 (by omega);rw [this] at hy;cases hy)
   | (rw [List.getLast?_eq_getElem?,hx] at hy;injection hy with hy;subst hy;omega)
 ·refine AHo (AH0 6 false (by kernel_rfl) rfl rfl (AH0 6 false (by kernel_rfl) rfl rfl (AH0 6 false (by kernel_rfl) rfl rfl (AH0 6 false (by kernel_rfl) rfl rfl (AH0 6 false (by kernel_rfl) rfl rfl (AH0 6 false (by kernel_rfl) rfl rfl (AH0 6 false (by kernel_rfl) rfl rfl (AIv rfl (ACt (q_t (AId rfl (AIo (AIq (AIq (AJ5 (q_t (ACu (ACv (AHo (AHq (ACt (q_t (AH1 (⟨_,AH5,?_⟩))))))))))))))))))))))));refine ⟨rfl,Lu,HT,fun y hy=>?_⟩
  first
  | (have:Lu=[]:=List.length_eq_zero_iff.1 (by omega);rw [this] at hy;cases hy)
  | (rw [List.getLast?_eq_getElem?,hx] at hy;injection hy with hy;subst hy;omega)
theorem AS9 (w:Nat) (hw:w < 18446744073709551616) (h:AHr):AIj Tryz.prog 202 #[.int .u64 (w:Int)] h fun x h'=>Ext h h'/\ ∃ L,DS h' (Array.size h) x L/\TL L/\nv L=w/\L.length<=2:=by
 refine AHx (l:=[_]) mx Tryz.func202 rfl rfl rfl rfl rfl (by kernel_rfl) (ACu (ACv (AHq (ACt (q_t (ACu (ACv (AHo (AQk AKa AKm rfl ?_)))))))));rw [show IntKind.u32.wrap (w:Int)=((w % 4294967296:Nat):Int) by rw [wrap_u32];omega];refine AHo (Aba (n:=32) rfl rfl (by decide) (AQk AKa AKm rfl ?_));rw [show IntKind.u32.wrap ((w:Int) / 2 ^ 32)=((w / 4294967296:Nat):Int) by rw [wrap_u32];omega];have e1:IntKind.u32.wrap (w:Int)=((w % 4294967296:Nat):Int):=by rw [wrap_u32];omega
 have e2:IntKind.u32.wrap ((w:Int) / 2 ^ 32)=((w / 4294967296:Nat):Int):=by rw [wrap_u32];omega
 have hdg:Dig [w % 4294967296,w / 4294967296]:=by intro x hx;simp only [List.mem_cons,List.not_mem_nil,or_false] at hx;rcases hx with rfl | rfl <;> omega
 refine Aox ([w % 4294967296,w / 4294967296].map ARp) AH7 AP6 rfl (fun _=>trivial) rfl (by omega) (by omega) rfl (by simp [ARp,isOne]) fun g1 v1 h1 Ad E1 Ae Aj=>?_;have Ak:=E1.1;have Z2:=(Ext.refl h).trans E1;have Ab:=Ad.ds (lo:=Array.size h) hdg Ae;refine AIa trivial rfl (AQu (Ab.mono (Nat.zero_le _)) (by simp)) fun x3 h1 hk=>?_;obtain ⟨rfl,L2,HT,htl⟩:=hk;refine ⟨trivial,?_⟩;refine AHq (ACt (q_t (AH1 (⟨_,AH5,?_⟩))));exact ⟨E1,L2,HT.ds Ab.lo,htl,by rw [HT.val];simp only [nv];omega,by have:=HT.len;simpa using this⟩
theorem Ab7 {h:AHr} {lo:Nat} {v:Value} {L:List Nat} (H:DS h lo v L) (hn:L.length<=2):AIj Tryz.prog 219 #[v] h fun x h'=>h'=h/\x= .int .u64 (nv L:Int):=by
 refine AHx (l:=[_]) mx Tryz.func219 rfl rfl rfl rfl rfl (by kernel_rfl) (ACu (ACv (AHq (ACt (q_t (ACu (ACv (AHq (ACt (q_t (ACu (ACu (ACv (AHo (AYm AH7 rfl H.sl ?_)))))))))))))));rw [List.length_map];refine AHo (ACt (q_t (AHz (AIy 2096952 (fun y:Nat × Nat=>[(8,.int .i64 (y.1:Int)),(3,.int .u64 (y.2:Int))]) (fun k y h'=>h'=h/\k=L.length - y.1/\y.1<=L.length/\y.2=nv (L.take y.1)) (by kernel_rfl) L.length (0,0) ?_ ⟨rfl,rfl,trivial⟩ ?_))))
 ·exact ⟨rfl,rfl,Nat.zero_le _,rfl⟩
 rintro k ⟨i,w⟩ s1 h ⟨rfl,rfl,hi,hw⟩;dsimp only at hi hw ⊢;subst hw;refine ACu (ACv (ALo rfl rfl (fun Ab=>?_) (fun Ab=>?_)))
 ·refine ACt (q_t (ACu (AIh rfl (AH2 (q_t (ACu (AHz (ACu ?_))))))));obtain ⟨x,hx⟩:∃ x,L[i]? =some x:=⟨_,List.getElem?_eq_getElem (by omega)⟩;have hxb:=H.dig x (List.mem_of_getElem? hx);refine ACv (AHo (Aci AH7 rfl H.sl rfl (AUt hx) fun Af Ac=>AIr AJz rfl Ac (AHq (AHq (ACt (q_t (ACv (AHo (AHo (Auh AKm AKa rfl (by rw [wrap_u64];omega) ?_))))))))));refine AHo (AR0 rfl rfl (by omega) (by omega) ?_);rw [show (32:Int) * (i:Int)=((32 * i:Nat):Int) by omega];refine Acr (n:=32 * i) rfl rfl (by show 32 * i<=64;omega) ?_;have Aa:i=0∨i=1:=by omega
  have hlt:=AT0 H.dig hi
  have hsh:IntKind.u64.wrap ((x:Int) * 2 ^ (32 * i))=((2 ^ (32 * i) * x:Nat):Int):=by
    rw [wrap_u64]
    rcases Aa with rfl | rfl
    · simp;omega
    · simp;omega
  rw [hsh]
  have Ad:2 ^ (32 * i) * x < 18446744073709551616:=by
    rcases Aa with rfl | rfl
    · simp;omega
    · simp;omega
  have Ae:nv (L.take i) < 18446744073709551616:=by
    rcases Aa with rfl | rfl
    · simp at hlt ⊢;omega
    · simp at hlt ⊢;omega
  refine AU4 rfl rfl (.inr (.inl rfl)) (Aoz Ae Ad) ?_;rw [Ao0 (by rw [<- AYt];exact hlt),<- AYt,<- AJf hx];refine AHq (ACt (q_b (q_t (ACv (AOw rfl (by omega) (AHo (ACt (q_t ?_))))))));exact ⟨L.length - (i + 1),(i + 1,nv (L.take (i + 1))),by first | omega | (dsimp only;omega),⟨rfl,rfl,by first | omega | (dsimp only;omega),rfl⟩,rfl,rfl,trivial⟩
 ·refine ACt (q_t (ACu (AId rfl (AIo (AIq (AIq (AJ5 (q_t (ACu (ACv (AHo (AHq (ACt (q_t (AH1 (⟨_,AH5,?_⟩))))))))))))))));obtain rfl:i=L.length:=by omega
  exact ⟨rfl,by rw [List.take_length] at *;rfl⟩
theorem ASi (w:World):(Instr.build 104 #[]).run Tryz.prog w= .ok (.agg #[.bool false,.slice none 0 0]) w:=by kernel_rfl
theorem AZh (b:Bool) (a:Option Addr) (n c:Nat) (w:World):(Instr.build 104 #[(0,.bool b),(1,.slice a n c)]).run Tryz.prog w= .ok (.agg #[.bool b,.slice a n c]) w:=by kernel_rfl
theorem AOz {h:AHr} {lo:Nat} {s:Value} {L:List Nat} (neg:Bool) (H:DS h lo s L) (htl:TL L) (hn:L.length<=100):AIj Tryz.prog 201 #[.bool neg,s] h fun x h'=>Ext h h'/\ZV h' lo x (sgn neg (nv L)):=by
 obtain ⟨a,n,c,rfl,hnc⟩:=H.cap;refine AHx (l:=[_,_]) mx Tryz.func201 rfl rfl rfl rfl rfl (by kernel_rfl) (ACu (ACv (ALw [.bool false,.slice none 0 0] ALz rfl (fun _=>trivial) fun Aa h2 V3 E4 Ak Ar=>?_)));have Au:Array.size h<=Aa:=Ak;have Av:=E4.1;have Z8:=(Ext.refl h).trans E4;refine ACt (q_t (ACu (ACu (ACv (AHo (AYm AH7 rfl (H.sl.ext E4) ?_))))));rw [List.length_map];refine AVm rfl rfl (fun Am=>?_) (fun Am=>?_)
 ·refine ACt (q_t (AIh rfl (ACu (ACv (AM7 (v:= .agg #[.bool false,.slice none 0 0]) ASi (AIw [.bool false,.slice none 0 0] AH9 rfl rfl rfl rfl (by simp [isOne]) V3 fun h9 Ao Ad=>?_))))));have Af:=E4.thenUpd Ad (fun k hk=>by have Ac:k=Aa:=hk;omega);have Ax:=Ad.1;have Ay:=Z8.thenUpd Ad (fun k hk=>by have Ac:k=Aa:=hk;omega);have Az:=E4.thenUpd Ad (fun k hk=>by have Ac:k=Aa:=hk;omega);refine ACt (q_t (AH1 (AIi (⟨_,AJ7 AH9 rfl rfl Ao,?_⟩))))
  first
  | (have h0:L=[]:=List.length_eq_zero_iff.1 (by omega)
     subst h0
     exact ⟨Af,⟨false,_,[],rfl,ATz _ _,AU5,by simp,by cases neg <;> rfl⟩⟩)
  | exact ⟨Af,⟨neg,_,L,rfl,H.ext Af,htl,hn,rfl⟩⟩
 ·refine ACt (q_t (AId rfl (AH2 (q_t (ACu (ACv (AHo (AHo (AM7 (v:= .agg #[.bool neg,.slice a n c]) (AZh neg a n c) (AIw [.bool neg,.slice a n c] AH9 rfl rfl rfl rfl (by simp [isOne]) V3 fun A3 Ap Ae=>?_))))))))));have Ah:=E4.thenUpd Ae (fun k hk=>by have Ac:k=Aa:=hk;omega);have A4:=Ae.1;have A5:=Z8.thenUpd Ae (fun k hk=>by have Ac:k=Aa:=hk;omega);have A6:=E4.thenUpd Ae (fun k hk=>by have Ac:k=Aa:=hk;omega);refine ACt (q_t (AH1 (⟨_,AJ7 AH9 rfl rfl Ap,?_⟩)))
  first
  | (have h0:L=[]:=List.length_eq_zero_iff.1 (by omega)
     subst h0
     exact ⟨Ah,⟨false,_,[],rfl,ATz _ _,AU5,by simp,by cases neg <;> rfl⟩⟩)
  | exact ⟨Ah,⟨neg,_,L,rfl,H.ext Ah,htl,hn,rfl⟩⟩
theorem Small_ok {n:Int} (hn: -9223372036854775808<=n/\n<=9223372036854775807) (h:AHr):AIj Tryz.prog 172 #[.int .i64 n] h fun x h'=>Ext h h'/\ZV h' (Array.size h) x n:=by
 refine AHx (l:=[_]) mx Tryz.func172 rfl rfl rfl rfl rfl (by kernel_rfl) (ACu (ACv (ALw [.bool false,.slice none 0 0] ALz rfl (fun _=>trivial) fun Aa h2 V3 E4 Az By=>?_)));have Bz:Array.size h<=Aa:=Az;have B1:=E4.1;have Z8:=(Ext.refl h).trans E4;refine ACt (q_t (ACu (ACu (ACv (AHo (ALo rfl rfl (fun A3=>?_) (fun A3=>?_)))))))
 ·refine ACt (q_t (AIh rfl (ACu (ACv (AHo (AQk APi AKa rfl ?_))))));rw [show IntKind.u64.wrap n=n + 18446744073709551616 by rw [wrap_u64];omega];refine Akg rfl ?_;rw [show IntKind.u64.wrap (0 - (n + 18446744073709551616))=((n.natAbs:Nat):Int) by rw [wrap_u64];omega];refine AIa trivial rfl (AS9 n.natAbs (by omega) _) fun x9 B4 hk=>?_;obtain ⟨Ag,L1,Ah,Ao,Ap,A5⟩:=hk;refine ⟨trivial,?_⟩;have B5:=Ag.1;have A6:=Z8.trans Ag;have A7:=E4.trans Ag;have A8:=V3.ext Ag;have A9:=E4.trans Ag;refine AIa trivial rfl (AOz true Ah Ao (by omega)) fun B6 B7 hk=>?_;obtain ⟨Ac,Aq⟩:=hk;refine ⟨trivial,?_⟩;have B8:=Ac.1;have Ba:=A6.trans Ac;have Bb:=A7.trans Ac;have Bc:=A8.ext Ac;have Be:=A9.trans Ac;have Bf:=Ah.ext Ac;obtain ⟨Ai,s2,L2,rfl,Aj,Au,Av,Aw⟩:=Aq.out;refine AIw [.bool Ai,s2] AH9 rfl rfl rfl rfl (ALx Aj.cap) Bc fun B9 Bg Ad=>?_;have Bh:=Bb.thenUpd Ad (fun k hk=>by have Ak:k=Aa:=hk;omega);have Ca:=Ad.1;have Cb:=Ba.thenUpd Ad (fun k hk=>by have Ak:k=Aa:=hk;omega);have Cd:=Be.thenUpd Ad (fun k hk=>by have Ak:k=Aa:=hk;omega);have Ce:=Bf.updLo Ad (by omega);have Bi:=Aj.updLo Ad (by omega);refine ACt (q_t (AH1 (AIi (⟨_,AJ7 AH9 rfl rfl Bg,?_⟩))));exact ⟨Bh,⟨Ai,s2,L2,rfl,Bi.mono (by omega),Au,Av,by rw [<- Aw,Ap];unfold sgn;first | (rw [if_pos rfl];omega) | (rw [if_neg (by decide)];omega)⟩⟩
 ·refine ACt (q_t (AId rfl (AH2 (q_t (ACu (ACv (AHo (AQk APi AKa rfl ?_))))))));rw [show IntKind.u64.wrap n=((n.natAbs:Nat):Int) by rw [wrap_u64];omega];refine AIa trivial rfl (AS9 n.natAbs (by omega) _) fun Cf Cg hk=>?_;obtain ⟨Am,L1,Ah,Ao,Ap,A5⟩:=hk;refine ⟨trivial,?_⟩;have Ch:=Am.1;have Bj:=Z8.trans Am;have Bl:=E4.trans Am;have Bm:=V3.ext Am;have Bn:=E4.trans Am;refine AIa trivial rfl (AOz false Ah Ao (by omega)) fun Ci Cj hk=>?_;obtain ⟨Ae,Aq⟩:=hk;refine ⟨trivial,?_⟩;have Ck:=Ae.1;have Bo:=Bj.trans Ae;have Bp:=Bl.trans Ae;have Bq:=Bm.ext Ae;have Br:=Bn.trans Ae;have Bt:=Ah.ext Ae;obtain ⟨Ai,s2,L2,rfl,Aj,Au,Av,Aw⟩:=Aq.out;refine AIw [.bool Ai,s2] AH9 rfl rfl rfl rfl (ALx Aj.cap) Bq fun Cm Bu Af=>?_;have Bv:=Bp.thenUpd Af (fun k hk=>by have Ak:k=Aa:=hk;omega);have Cn:=Af.1;have Co:=Bo.thenUpd Af (fun k hk=>by have Ak:k=Aa:=hk;omega);have Cp:=Br.thenUpd Af (fun k hk=>by have Ak:k=Aa:=hk;omega);have Cq:=Bt.updLo Af (by omega);have Bw:=Aj.updLo Af (by omega);refine ACt (q_t (AH1 (⟨_,AJ7 AH9 rfl rfl Bu,?_⟩)));exact ⟨Bv,⟨Ai,s2,L2,rfl,Bw.mono (by omega),Au,Av,by rw [<- Aw,Ap];unfold sgn;first | (rw [if_pos rfl];omega) | (rw [if_neg (by decide)];omega)⟩⟩
theorem Aa2 {h:AHr} {lo:Nat} {v:Value} {L:List Nat} (H:DS h lo v L) (hn:L.length<=1000000):AIj Tryz.prog 206 #[v] h fun x h'=>Ext h h'/\DS h' (Array.size h) x L:=by
 obtain ⟨a,n,c,rfl,hnc⟩:=H.cap;refine AHx (l:=[_]) mx Tryz.func206 rfl rfl rfl rfl rfl (by kernel_rfl) (ACu (ACv (AHq (ACt (q_t (ACu (ACu (ACv (AHo (Ar8 Tryz.underlying102 rfl ?_))))))))));cases Ad:a.isNone
 ·refine ACt (q_t (AId rfl (AH2 (q_t (ACu ?_)))));obtain ⟨xa,rfl⟩:∃ q,a=some q:=Option.ne_none_iff_exists'.1 (fun he=>by rw [he] at Ad;cases Ad);refine ACv (Axn AH7 (fun _=>trivial) fun g1 v1 h1 Af E1 Ag Ap=>?_);have Aq:=E1.1;have Z2:=(Ext.refl h).trans E1;refine AHo ?_;by_cases hL:L=[]
  ·subst hL;obtain rfl:n=0:=Aoy H;refine Avc AH7 (fun _=>trivial) rfl Af rfl fun v2 h2 Ab U2=>AHq (ACt (q_t (AH1 (⟨_,AH5,?_⟩))));exact ⟨E1.thenUpd U2 (fun k hk=>by have Ai:k=g1:=hk;omega),Ab.ds H.dig Ag⟩
  refine Auc AH7 AP6 rfl trivial rfl Af rfl (H.sl.ext E1) (fun u hu=>by obtain ⟨y,_,rfl⟩:=List.mem_map.1 hu;rfl) (by simpa using hL) (by simp;omega) (by simp;omega) fun v2 g2 h2 Ab Ak U2=>?_;refine ⟨trivial,?_⟩;have XZ:=E1.thenUpd U2 (fun k hk=>by have Ai:k=g1:=hk;omega);have hg2l:Array.size h<=g2:=by rcases Ak with rfl | rfl;exact Ag;omega
  refine AHq (ACt (q_t (AH1 (⟨_,AH5,?_⟩))));exact ⟨XZ,Ab.ds H.dig hg2l⟩
 ·refine ACt (q_t (AIh rfl (ACu ?_)));have h0:L=[]:=Ar9 (Option.isNone_iff_eq_none.1 (by assumption)) H;refine ACv (AHq (ACt (q_t (AH1 (AIi (⟨_,AH5,?_⟩))))));subst h0;exact ⟨Ext.refl _,ATz _ _⟩
def AMa (z:Int):Int:=if z < 0 then -1 else if z=0 then 0 else 1
theorem sign_zero {z:Int} (h:z=0):AMa z=0:=by subst h;rfl
theorem sign_neg {z:Int} (h:z < 0):AMa z= -1:=if_pos h
theorem AT3 {z:Int} (h:0 < z):AMa z=1:=by unfold AMa;rw [if_neg (by omega),if_neg (by omega)]
theorem Sign_ok {h:AHr} {lo:Nat} {va:Value} {z:Int} (HA:ZV h lo va z):AIj Tryz.prog 175 #[va] h fun x h'=>Ext h h'/\x= .int .i64 (AMa z):=by
 obtain ⟨na,sa,LA,rfl,HDa,htla,hla,hza⟩:=HA.out;have hna:LA.length<=1000000:=by omega
 refine AHx (l:=[_]) mx Tryz.func175 rfl rfl rfl rfl rfl (by kernel_rfl) (ACu (ACv (AN1 [.bool na,sa] (fun _=>trivial) rfl rfl fun Aj h2 V3 E4 Ak Aq=>?_)));have Ar:Array.size h<=Aj:=Ak;have Au:=E4.1;have Z8:=(Ext.refl h).trans E4;refine AHq (ACt (q_t (ACu (AHz (ACu (ACv (AJq (fs:=1) AQd (by kernel_rfl) (by decide) rfl (AIr ANk rfl (V3.cell (i:=1) rfl) (AIa trivial rfl (AQu (DS.mono (HDa.ext E4) (Nat.zero_le _)) hna) fun x9 h2 hk=>?_)))))))));obtain ⟨rfl,L1,Af,Ag⟩:=hk;refine ⟨trivial,?_⟩;have Am:=Af.ds (lo:=lo) HDa.lo;refine AJb AH7 rfl Am (AVm rfl rfl (fun Ao=>?_) (fun Ao=>?_))
 ·refine AHq (ACt (q_t (AIh rfl (ACu (ACv (AHq (ACt (q_t (AH1 (AJ0 (AIi (⟨_,AH5,?_⟩))))))))))))
  first
  | (have h0:L1=[]:=List.length_eq_zero_iff.1 (by omega)
     have h1:nv LA=0:=by rw [<- Af.val,h0];rfl
     exact ⟨E4,congrArg (Value.int .i64) (sign_zero (hza.trans (by rw [h1];cases na <;> rfl))).symm⟩)
  | (have h1:nv LA≠0:=fun h0=>by rw [<- Af.val] at h0;have:=congrArg List.length (AMz Ag h0);rw [List.length_nil] at this;omega
     have h2:z=sgn na (nv LA):=hza
     have h3:na=true:=by assumption
     exact ⟨E4,congrArg (Value.int .i64) (sign_neg (by rw [h2,h3];unfold sgn;rw [if_pos rfl];omega)).symm⟩)
  | (have h1:nv LA≠0:=fun h0=>by rw [<- Af.val] at h0;have:=congrArg List.length (AMz Ag h0);rw [List.length_nil] at this;omega
     have h2:z=sgn na (nv LA):=hza
     have h3:na=false:=by assumption
     exact ⟨E4,congrArg (Value.int .i64) (AT3 (by rw [h2,h3];unfold sgn;rw [if_neg (by decide)];omega)).symm⟩)
 ·refine AHq (ACt (q_t (AId rfl (ACu (ACv (AJq (fs:=1) AP3 (by kernel_rfl) (by decide) rfl (AIr ALq rfl (V3.cell (i:=0) rfl) (AHq (ACt (q_t (⟨_,rfl,fun Ap=>?_,fun Ap=>?_⟩)))))))))))
  ·refine ACu (ACv (AHq (ACt (q_t (AH1 (AJ0 (AIi (⟨_,AH5,?_⟩))))))))
   first
   | (have h0:L1=[]:=List.length_eq_zero_iff.1 (by omega)
      have h1:nv LA=0:=by rw [<- Af.val,h0];rfl
      exact ⟨E4,congrArg (Value.int .i64) (sign_zero (hza.trans (by rw [h1];cases na <;> rfl))).symm⟩)
   | (have h1:nv LA≠0:=fun h0=>by rw [<- Af.val] at h0;have:=congrArg List.length (AMz Ag h0);rw [List.length_nil] at this;omega
      have h2:z=sgn na (nv LA):=hza
      have h3:na=true:=by assumption
      exact ⟨E4,congrArg (Value.int .i64) (sign_neg (by rw [h2,h3];unfold sgn;rw [if_pos rfl];omega)).symm⟩)
   | (have h1:nv LA≠0:=fun h0=>by rw [<- Af.val] at h0;have:=congrArg List.length (AMz Ag h0);rw [List.length_nil] at this;omega
      have h2:z=sgn na (nv LA):=hza
      have h3:na=false:=by assumption
      exact ⟨E4,congrArg (Value.int .i64) (AT3 (by rw [h2,h3];unfold sgn;rw [if_neg (by decide)];omega)).symm⟩)
  ·refine AH2 (q_b (q_t (ACu (ACv (AHq (ACt (q_t (AH1 (⟨_,AH5,?_⟩)))))))))
   first
   | (have h0:L1=[]:=List.length_eq_zero_iff.1 (by omega)
      have h1:nv LA=0:=by rw [<- Af.val,h0];rfl
      exact ⟨E4,congrArg (Value.int .i64) (sign_zero (hza.trans (by rw [h1];cases na <;> rfl))).symm⟩)
   | (have h1:nv LA≠0:=fun h0=>by rw [<- Af.val] at h0;have:=congrArg List.length (AMz Ag h0);rw [List.length_nil] at this;omega
      have h2:z=sgn na (nv LA):=hza
      have h3:na=true:=by assumption
      exact ⟨E4,congrArg (Value.int .i64) (sign_neg (by rw [h2,h3];unfold sgn;rw [if_pos rfl];omega)).symm⟩)
   | (have h1:nv LA≠0:=fun h0=>by rw [<- Af.val] at h0;have:=congrArg List.length (AMz Ag h0);rw [List.length_nil] at this;omega
      have h2:z=sgn na (nv LA):=hza
      have h3:na=false:=by assumption
      exact ⟨E4,congrArg (Value.int .i64) (AT3 (by rw [h2,h3];unfold sgn;rw [if_neg (by decide)];omega)).symm⟩)
theorem Neg_ok {h:AHr} {lo:Nat} {va:Value} {z:Int} (HA:ZV h lo va z):AIj Tryz.prog 204 #[va] h fun x h'=>Ext h h'/\ZV h' (Array.size h) x (-z):=by
 obtain ⟨na,sa,LA,rfl,HDa,htla,hla,hza⟩:=HA.out;have hna:LA.length<=1000000:=by omega
 refine AHx (l:=[_]) mx Tryz.func204 rfl rfl rfl rfl rfl (by kernel_rfl) (ACu (ACv (AN1 [.bool na,sa] (fun _=>trivial) rfl rfl fun Am h2 V3 E4 Az Bx=>?_)));have By:Array.size h<=Am:=Az;have Bz:=E4.1;have Z8:=(Ext.refl h).trans E4;refine ALw [.bool false,.slice none 0 0] ALz rfl (fun _=>trivial) fun Ad Ah A4 Ae A5 B1=>?_;have B3:Array.size h<=Ad:=Nat.le_trans E4.1 A5;have nebq1bq9:Am≠Ad:=by have:=V3.lt;omega
 have B4:=Ae.1;have A6:=Z8.trans Ae;have Ap:=E4.trans Ae;have Aq:=V3.ext Ae;have A7:=E4.trans Ae;refine ACt (q_t (ACu (AKf (fun h'=>Ext Ah h') (by kernel_rfl) ?_)));have Af:=Ext.refl Ah;refine AJq (fs:=1) AP3 (by kernel_rfl) (by decide) rfl (AK1 ALq rfl Af (fun h' hb=>(Aq.ext hb).cell (i:=0) rfl) (AMj rfl (AJq (fs:=1) AQd (by kernel_rfl) (by decide) rfl (AK1 ANk rfl Af (fun h' hb=>(Aq.ext hb).cell (i:=1) rfl) (AIa Af rfl (AQu (DS.mono (HDa.ext Ap) (Nat.zero_le _)) hna) fun B5 Ah hk=>?_)))));obtain ⟨rfl,L1,Ai,A8⟩:=hk;refine ⟨Af,?_⟩;have A9:=Ai.ds (lo:=lo) HDa.lo;have Ar:=Ai.val;have B7:=Ai.len;refine AIa Af rfl (Aa2 A9 (by omega)) fun B8 B9 hk=>?_;obtain ⟨Ab,Au⟩:=hk;have Aj:=Af.trans Ab;refine ⟨Aj,?_⟩;have Ca:=Ab.1;have Ba:=A6.trans Ab;have Bb:=Ap.trans Ab;have Bc:=A7.trans Ab;have Be:=A4.ext Ab;have Bf:=Ae.trans Ab;refine AIa Aj rfl (AOz (!na) Au A8 (by omega)) fun Cb Cd hk=>?_;obtain ⟨Aa,Bg⟩:=hk;have Bh:=Aj.trans Aa;refine ⟨Bh,?_⟩;have Ce:=Aa.1;have Bi:=Ba.trans Aa;have Bj:=Bb.trans Aa;have Bl:=Bc.trans Aa;have Bm:=Be.ext Aa;have Bn:=Bf.trans Aa;have Bo:=Au.ext Aa;obtain ⟨Av,s3,L3,rfl,Ax,Bq,Br,Ay⟩:=Bg.out;refine AIw [.bool Av,s3] AH9 rfl rfl rfl rfl (ALx Ax.cap) Bm fun Cf Bt Ac=>?_;have Bu:=Bj.thenUpd Ac (fun k hk=>by have Ak:k=Ad:=hk;omega);have Cg:=Ac.1;have Ch:=Bi.thenUpd Ac (fun k hk=>by have Ak:k=Ad:=hk;omega);have Ci:=Bn.thenUpd Ac (fun k hk=>by have Ak:k=Ad:=hk;omega);have Cj:=Bl.thenUpd Ac (fun k hk=>by have Ak:k=Ad:=hk;omega);have Ck:=Bo.updLo Ac (by omega);have Bv:=Ax.updLo Ac (by omega);refine ACt (q_t (AH1 (⟨_,AJ7 AH9 rfl rfl Bt,?_⟩)));exact ⟨Bu,⟨Av,s3,L3,rfl,Bv.mono (by omega),Bq,Br,by first | (rw [<- Ay,Ar,hza];done) | (rw [<- Ay,Ar,hza];cases na <;> simp [sgn])⟩⟩
theorem Normalize_ok {h:AHr} {lo:Nat} {va:Value} {z:Int} (HA:ZV h lo va z):AIj Tryz.prog 176 #[va] h fun x h'=>Ext h h'/\ZV h' (Array.size h) x (z):=by
 obtain ⟨na,sa,LA,rfl,HDa,htla,hla,hza⟩:=HA.out;have hna:LA.length<=1000000:=by omega
 refine AHx (l:=[_]) mx Tryz.func176 rfl rfl rfl rfl rfl (by kernel_rfl) (ACu (ACv (AN1 [.bool na,sa] (fun _=>trivial) rfl rfl fun Am h2 V3 E4 Az Bx=>?_)));have By:Array.size h<=Am:=Az;have Bz:=E4.1;have Z8:=(Ext.refl h).trans E4;refine ALw [.bool false,.slice none 0 0] ALz rfl (fun _=>trivial) fun Ad Ah A4 Ae A5 B1=>?_;have B3:Array.size h<=Ad:=Nat.le_trans E4.1 A5;have nebq1bq9:Am≠Ad:=by have:=V3.lt;omega
 have B4:=Ae.1;have A6:=Z8.trans Ae;have Ap:=E4.trans Ae;have Aq:=V3.ext Ae;have A7:=E4.trans Ae;refine ACt (q_t (ACu (AKf (fun h'=>Ext Ah h') (by kernel_rfl) ?_)));have Af:=Ext.refl Ah;refine AJq (fs:=1) AP3 (by kernel_rfl) (by decide) rfl (AK1 ALq rfl Af (fun h' hb=>(Aq.ext hb).cell (i:=0) rfl) (AJq (fs:=1) AQd (by kernel_rfl) (by decide) rfl (AK1 ANk rfl Af (fun h' hb=>(Aq.ext hb).cell (i:=1) rfl) (AIa Af rfl (AQu (DS.mono (HDa.ext Ap) (Nat.zero_le _)) hna) fun B5 Ah hk=>?_))));obtain ⟨rfl,L1,Ai,A8⟩:=hk;refine ⟨Af,?_⟩;have A9:=Ai.ds (lo:=lo) HDa.lo;have Ar:=Ai.val;have B7:=Ai.len;refine AIa Af rfl (Aa2 A9 (by omega)) fun B8 B9 hk=>?_;obtain ⟨Ab,Au⟩:=hk;have Aj:=Af.trans Ab;refine ⟨Aj,?_⟩;have Ca:=Ab.1;have Ba:=A6.trans Ab;have Bb:=Ap.trans Ab;have Bc:=A7.trans Ab;have Be:=A4.ext Ab;have Bf:=Ae.trans Ab;refine AIa Aj rfl (AOz na Au A8 (by omega)) fun Cb Cd hk=>?_;obtain ⟨Aa,Bg⟩:=hk;have Bh:=Aj.trans Aa;refine ⟨Bh,?_⟩;have Ce:=Aa.1;have Bi:=Ba.trans Aa;have Bj:=Bb.trans Aa;have Bl:=Bc.trans Aa;have Bm:=Be.ext Aa;have Bn:=Bf.trans Aa;have Bo:=Au.ext Aa;obtain ⟨Av,s3,L3,rfl,Ax,Bq,Br,Ay⟩:=Bg.out;refine AIw [.bool Av,s3] AH9 rfl rfl rfl rfl (ALx Ax.cap) Bm fun Cf Bt Ac=>?_;have Bu:=Bj.thenUpd Ac (fun k hk=>by have Ak:k=Ad:=hk;omega);have Cg:=Ac.1;have Ch:=Bi.thenUpd Ac (fun k hk=>by have Ak:k=Ad:=hk;omega);have Ci:=Bn.thenUpd Ac (fun k hk=>by have Ak:k=Ad:=hk;omega);have Cj:=Bl.thenUpd Ac (fun k hk=>by have Ak:k=Ad:=hk;omega);have Ck:=Bo.updLo Ac (by omega);have Bv:=Ax.updLo Ac (by omega);refine ACt (q_t (AH1 (⟨_,AJ7 AH9 rfl rfl Bt,?_⟩)));exact ⟨Bu,⟨Av,s3,L3,rfl,Bv.mono (by omega),Bq,Br,by first | (rw [<- Ay,Ar,hza];done) | (rw [<- Ay,Ar,hza];cases na <;> simp [sgn])⟩⟩
def ARm (a b:Nat):Int:=if a < b then -1 else if a=b then 0 else 1
theorem AO6 {a b:Nat} (h:a < b):ARm a b= -1:=if_pos h
theorem AO7 {a b:Nat} (h:b < a):ARm a b=1:=by unfold ARm;rw [if_neg (by omega),if_neg (by omega)]
theorem AT4 {a b:Nat} (h:a=b):ARm a b=0:=by unfold ARm;rw [if_neg (by omega),if_pos h]
theorem AO8 {A B:List Nat} (ha:Dig A) (hb:TL B) (h:A.length < B.length):nv A < nv B:=by
 have h1:=ARf ha;have h2:=Aow hb (fun he=>by rw [he] at h;simp at h);have h3:4294967296 ^ A.length<=4294967296 ^ (B.length - 1):=Nat.pow_le_pow_right (by decide) (by omega);omega
theorem AO9 {A B:List Nat} (ha:Dig A) (hb:Dig B) {i x y:Nat} (hl:A.length=B.length) (hx:A[i]? =some x) (hy:B[i]? =some y) (hxy:x < y) (hs:∀ q,i < q->A[q]? =B[q]?):nv A < nv B:=by
 have hi:=(List.getElem?_eq_some_iff.1 hx).1;have hd:A.drop (i + 1)=B.drop (i + 1):=List.ext_getElem? fun q=>by rw [List.getElem?_drop,List.getElem?_drop];exact hs _ (by omega)
 have e:∀ L:List Nat,nv L=nv (L.take (i + 1)) + 4294967296 ^ (L.take (i + 1)).length * nv (L.drop (i + 1)):=fun L=>by rw [<- AXu,List.take_append_drop]
 rw [e A,e B,hd,AJf hx,AJf hy,List.length_take,List.length_take,hl];have h1:=AT0 ha (i:=i) (by omega);have h2:4294967296 ^ i * (x + 1)<=4294967296 ^ i * y:=Nat.mul_le_mul_left _ hxy;rw [Nat.mul_add,Nat.mul_one] at h2;omega
theorem AYi {h:AHr} {la lb:Nat} {va vb:Value} {LA LB:List Nat} (HA:DS h la va LA) (HB:DS h lb vb LB) (hta:TL LA) (htb:TL LB) (hna:LA.length<=1000000) (hnb:LB.length<=1000000):AIj Tryz.prog 218 #[va,vb] h fun x h'=>h'=h/\x= .int .i64 (ARm (nv LA) (nv LB)):=by
 refine AHx (l:=[_,_]) mx Tryz.func218 rfl rfl rfl rfl rfl (by kernel_rfl) (ACu (ACv (AHq (ACt (q_t (ACu (AHz (ACu (ACv (AHo (AJb AH7 rfl HA (AHo (AJb AH7 rfl HB (ALo rfl rfl (fun Ac=>?_) (fun Ac=>?_)))))))))))))))
 ·refine AHq (ACt (q_t (AIh rfl (ACu (ACv (AHq (ACt (q_t (AH1 (AJ0 (AIi (⟨_,AH5,?_⟩))))))))))))
  first
  | exact ⟨rfl,congrArg (Value.int .i64) (AO6 (AO8 HA.dig htb (by omega))).symm⟩
  | exact ⟨rfl,congrArg (Value.int .i64) (AO7 (AO8 HB.dig hta (by omega))).symm⟩
  | exact ⟨rfl,congrArg (Value.int .i64) (AO6 (AO9 HA.dig HB.dig (by omega) hx hy (by omega) (fun q hq=>hsame q (by omega)))).symm⟩
  | exact ⟨rfl,congrArg (Value.int .i64) (AO7 (AO9 HB.dig HA.dig (by omega) hy hx (by omega) (fun q hq=>(hsame q (by omega)).symm))).symm⟩
  | exact ⟨rfl,congrArg (Value.int .i64) (AT4 (congrArg nv (List.ext_getElem? fun q=>hsame q (by omega)))).symm⟩
 ·refine AHq (ACt (q_t (AId rfl (ACu (ACv (AHo (AJb AH7 rfl HA (AHo (AJb AH7 rfl HB (ATv rfl rfl (fun Ad=>?_) (fun Ad=>?_)))))))))))
  ·refine AHq (ACt (q_t (AIh rfl (ACu (ACv (AHq (ACt (q_t (AH1 (AJ0 (AIi (⟨_,AH5,?_⟩))))))))))))
   first
   | exact ⟨rfl,congrArg (Value.int .i64) (AO6 (AO8 HA.dig htb (by omega))).symm⟩
   | exact ⟨rfl,congrArg (Value.int .i64) (AO7 (AO8 HB.dig hta (by omega))).symm⟩
   | exact ⟨rfl,congrArg (Value.int .i64) (AO6 (AO9 HA.dig HB.dig (by omega) hx hy (by omega) (fun q hq=>hsame q (by omega)))).symm⟩
   | exact ⟨rfl,congrArg (Value.int .i64) (AO7 (AO9 HB.dig HA.dig (by omega) hy hx (by omega) (fun q hq=>(hsame q (by omega)).symm))).symm⟩
   | exact ⟨rfl,congrArg (Value.int .i64) (AT4 (congrArg nv (List.ext_getElem? fun q=>hsame q (by omega)))).symm⟩
  ·refine AHq (ACt (q_t (AId rfl (AH2 (q_b (q_t (ACu (ACu (ACv (AHo (AJb AH7 rfl HA (AQx rfl rfl (by omega) (by omega) (AHq (ACt (q_t (AHz (AIy 35184369991728 (fun i:Nat=>[(5,.int .i64 ((i:Int) - 1))]) (fun k i h'=>h'=h/\i=k/\i<=LA.length/\ ∀ q,i<=q->LA[q]? =LB[q]?) (by kernel_rfl) LA.length LA.length ?_ ⟨rfl,trivial⟩ ?_)))))))))))))))))
   ·exact ⟨rfl,rfl,Nat.le_refl _,fun q hq=>by rw [List.getElem?_eq_none hq,List.getElem?_eq_none (by omega)]⟩
   rintro k i s1 h ⟨rfl,rfl,hi,hsame⟩;refine ACu (ACu (ACv (AHo (AW4 rfl rfl (fun Ae=>?_) (fun Ae=>?_)))))
   ·refine ACt (q_t (AIh rfl (AH2 (q_t (ACu (AHz (AHz (ACu ?_))))))));obtain ⟨x,hx⟩:∃ x,LA[i - 1]? =some x:=⟨_,List.getElem?_eq_getElem (by omega)⟩;obtain ⟨y,hy⟩:∃ y,LB[i - 1]? =some y:=⟨_,List.getElem?_eq_getElem (by omega)⟩;have e1:((i:Int) - 1)=((i - 1:Nat):Int):=by omega
    refine ALp (by kernel_rfl) (AHo (AHo (AOd (n:=i - 1) AH7 rfl HA (show Value.int .i64 ((i:Int) - 1)=_ by rw [e1]) hx fun a1 Af=>?_)));refine AIr AJz rfl Af (AHo (AHo (AOd (n:=i - 1) AH7 rfl HB (show Value.int .i64 ((i:Int) - 1)=_ by rw [e1]) hy fun a2 Ag=>?_)));refine AIr AJz rfl Ag (ALo rfl rfl (fun Ah=>?_) (fun Ah=>?_))
    ·refine AHq (ACt (q_t (AIh rfl (ACu (ACv (AHq (ACt (q_t (AH1 (AJ0 (AJ0 (AIi (AIi (AJ0 (AIi (⟨_,AH5,?_⟩))))))))))))))))
     first
     | exact ⟨rfl,congrArg (Value.int .i64) (AO6 (AO8 HA.dig htb (by omega))).symm⟩
     | exact ⟨rfl,congrArg (Value.int .i64) (AO7 (AO8 HB.dig hta (by omega))).symm⟩
     | exact ⟨rfl,congrArg (Value.int .i64) (AO6 (AO9 HA.dig HB.dig (by omega) hx hy (by omega) (fun q hq=>hsame q (by omega)))).symm⟩
     | exact ⟨rfl,congrArg (Value.int .i64) (AO7 (AO9 HB.dig HA.dig (by omega) hy hx (by omega) (fun q hq=>(hsame q (by omega)).symm))).symm⟩
     | exact ⟨rfl,congrArg (Value.int .i64) (AT4 (congrArg nv (List.ext_getElem? fun q=>hsame q (by omega)))).symm⟩
    ·refine AHq (ACt (q_t (AId rfl (ACu (ALp (by kernel_rfl) (AHo (AHo (AOd (n:=i - 1) AH7 rfl HA (show Value.int .i64 ((i:Int) - 1)=_ by rw [e1]) hx fun a3 Ai=>?_))))))));refine AIr AJz rfl Ai (AHo (AHo (AOd (n:=i - 1) AH7 rfl HB (show Value.int .i64 ((i:Int) - 1)=_ by rw [e1]) hy fun a4 Aj=>?_)));refine AIr AJz rfl Aj (ATv rfl rfl (fun Ak=>?_) (fun Ak=>?_))
     ·refine AHq (ACt (q_t (AIh rfl (ACu (ACv (AHq (ACt (q_t (AH1 (AJ0 (AJ0 (AIi (AIi (AJ0 (AIi (⟨_,AH5,?_⟩))))))))))))))))
      first
      | exact ⟨rfl,congrArg (Value.int .i64) (AO6 (AO8 HA.dig htb (by omega))).symm⟩
      | exact ⟨rfl,congrArg (Value.int .i64) (AO7 (AO8 HB.dig hta (by omega))).symm⟩
      | exact ⟨rfl,congrArg (Value.int .i64) (AO6 (AO9 HA.dig HB.dig (by omega) hx hy (by omega) (fun q hq=>hsame q (by omega)))).symm⟩
      | exact ⟨rfl,congrArg (Value.int .i64) (AO7 (AO9 HB.dig HA.dig (by omega) hy hx (by omega) (fun q hq=>(hsame q (by omega)).symm))).symm⟩
      | exact ⟨rfl,congrArg (Value.int .i64) (AT4 (congrArg nv (List.ext_getElem? fun q=>hsame q (by omega)))).symm⟩
     ·refine AHq (ACt (q_t (AId rfl (AH2 (q_b (q_b (q_t (ACv (AHo (AQx rfl rfl (by omega) (by omega) (AHq (ACt (q_t ?_)))))))))))));exact ⟨i - 1,i - 1,by omega,⟨rfl,rfl,by omega,fun q hq=>by rcases Nat.lt_or_ge q i with h2 | h2;obtain rfl:q=i - 1:=(by omega);rw [hx,hy];congr 1;omega;exact hsame q h2⟩,by rw [show ((i - 1:Nat):Int) - 1=(i:Int) - 1 - 1 by omega];rfl,trivial⟩
   ·refine ACt (q_t (AId rfl (AIo (AIq (AIq (AJ5 (q_t (ACu (ACv (AHq (ACt (q_t (AH1 (⟨_,AH5,?_⟩))))))))))))))
    first
    | exact ⟨rfl,congrArg (Value.int .i64) (AO6 (AO8 HA.dig htb (by omega))).symm⟩
    | exact ⟨rfl,congrArg (Value.int .i64) (AO7 (AO8 HB.dig hta (by omega))).symm⟩
    | exact ⟨rfl,congrArg (Value.int .i64) (AO6 (AO9 HA.dig HB.dig (by omega) hx hy (by omega) (fun q hq=>hsame q (by omega)))).symm⟩
    | exact ⟨rfl,congrArg (Value.int .i64) (AO7 (AO9 HB.dig HA.dig (by omega) hy hx (by omega) (fun q hq=>(hsame q (by omega)).symm))).symm⟩
    | exact ⟨rfl,congrArg (Value.int .i64) (AT4 (congrArg nv (List.ext_getElem? fun q=>hsame q (by omega)))).symm⟩
theorem Ae3 {h:AHr} {la lb:Nat} {va vb:Value} {LA LB:List Nat} (HA:DS h la va LA) (HB:DS h lb vb LB) (hna:LA.length<=1000) (hnb:LB.length<=1000):AIj Tryz.prog 208 #[va,vb] h fun x h'=>Ext h h'/\ ∃ L,DS h' (Array.size h) x L/\TL L/\nv L=nv LA + nv LB/\L.length<=1001:=by
 refine AHx (l:=[_,_]) mx Tryz.func208 rfl rfl rfl rfl rfl (by kernel_rfl) (ACu (ACv (AHq (ACt (q_t (AMu 65027 (fun y:Value × Value × List Nat × List Nat=>[(0,y.1),(1,y.2.1)]) (fun y h'=>h'=h/\DS h 0 y.1 y.2.2.1/\DS h 0 y.2.1 y.2.2.2/\y.2.2.2.length<=y.2.2.1.length/\y.2.2.1.length<=1000/\nv y.2.2.1 + nv y.2.2.2=nv LA + nv LB) (by kernel_rfl) ?_ ?_))))))
 ·refine ACu (ACv (AHo (AJb AH7 rfl HA (AHo (AJb AH7 rfl HB (ALo rfl rfl (fun Ao=>?_) (fun Ao=>?_)))))))
  ·refine ACt (q_t (AIh rfl (ACv (AHo (AHo (AHq (AHq (ACt (q_t ?_)))))))));exact ⟨(_,_,LB,LA),⟨rfl,HB.mono (Nat.zero_le _),HA.mono (Nat.zero_le _),by first | omega | (dsimp only;omega),hnb,Nat.add_comm _ _⟩,rfl,rfl,trivial⟩
  ·refine ACt (q_t (AId rfl (AH2 (q_t ?_))));exact ⟨(_,_,LA,LB),⟨rfl,HA.mono (Nat.zero_le _),HB.mono (Nat.zero_le _),by first | omega | (dsimp only;omega),hna,rfl⟩,rfl,rfl,trivial⟩
 rintro ⟨A9,Ba,A,B⟩ s0 h ⟨rfl,HX,HY,hBA,Ap,hsum⟩;dsimp only at HX HY hBA Ap hsum ⊢;refine ACu (ACv (AHo (AJb AH7 rfl HX (ASu (b:=1) rfl rfl (by omega) (Acv (n:=A.length + 1) AH7 AP6 (fun _=>trivial) rfl rfl (by decide) (by omega) fun g1 v1 h1 Aq E1 Ar Be=>?_)))));have Bf:=E1.1;have Z2:=(Ext.refl h).trans E1;refine AHq (ACt (q_t (ACu (ACv (AHq (ACt (q_t (ACu (ACu (ACv (AHo (AJb AH7 rfl (HY.ext E1) (AHo (ACt (q_t (AHz (AIy 70368739983552 (fun y:Nat × Nat=>[(22,.int .i64 (y.1:Int)),(6,.int .u64 (y.2:Int))]) (fun k y h'=>k=B.length - y.1/\y.1<=B.length/\Ext h h'/\y.2<=1/\ ∃ D,AK4 h' 199 g1 v1 ((D ++ List.replicate ((A.length + 1) - y.1) 0).map ARp)/\D.length=y.1/\Dig D/\nv D + 4294967296 ^ y.1 * y.2=nv (A.take y.1) + nv (B.take y.1)) (by kernel_rfl) B.length (0,0) ?_ ⟨rfl,rfl,trivial⟩ ?_)))))))))))))))))
 ·exact ⟨rfl,Nat.zero_le _,E1,by first | omega | (dsimp only;omega),[],by simpa using Aq,rfl,fun x hx=>(by simp at hx),rfl⟩
 rintro k ⟨i,c⟩ s1 h2 ⟨rfl,hi,E2,hc,D,Ag,hDl,hDd,hDv⟩;dsimp only at hi hc Ag hDl hDv ⊢;have Bi:=E2.1;refine ACu (ACv (ALo rfl rfl (fun Au=>?_) (fun Au=>?_)))
 ·refine ACt (q_t (ACu (AIh rfl (AH2 (q_t (ACu (AHz (ACu (ACv (AHo (AHq (ACt (q_t (ACu ?_))))))))))))));obtain ⟨x,hx⟩:∃ x,A[i]? =some x:=⟨_,List.getElem?_eq_getElem (by omega)⟩;have hbx:=HX.dig x (List.mem_of_getElem? hx);obtain ⟨y,hy⟩:∃ x,B[i]? =some x:=⟨_,List.getElem?_eq_getElem (by omega)⟩;have hby:=HY.dig y (List.mem_of_getElem? hy);refine ALp (by kernel_rfl) (AHo (AHo (AHo (AOd AH7 rfl (HX.ext E2) rfl hx fun Bj Av=>AIr AJz rfl Av (AU6 AKm AKa rfl hbx (AHo (AHo (AOd AH7 rfl (HY.ext E2) rfl hy fun Bl Aw=>AIr AJz rfl Aw (AU6 AKm AKa rfl hby (ASh rfl rfl (by omega) (ASh rfl rfl (by omega) (AHq (ACt (q_t (ACu (ACv (AHo (AHo (AHo (AWu AKa AKm rfl (AVk AH7 rfl Ag rfl (by simp;omega) ?_)))))))))))))))))))));refine AWt (D ++ [(c + (x + y)) % 4294967296] ++ List.replicate (A.length + 1 - (i + 1)) 0) AJz rfl rfl Ag (by simp;omega) (Abr hDl (by omega)) fun h4 Ax U4=>?_;have Bn:=U4.1;have X7:=E2.thenUpd U4 (fun k hk=>by have Ad:k=g1:=hk;omega);have Z8:=E2.thenUpd U4 (fun k hk=>by have Ad:k=g1:=hk;omega);refine ACt (q_t (ACv (AHo (AV5 rfl rfl (AHq (ACt (q_b (q_t (ACv (AOw rfl (by omega) (AHo (ACt (q_t ?_)))))))))))));exact ⟨B.length - (i + 1),(i + 1,(c + (x + y)) / 4294967296),by first | omega | (dsimp only;omega),⟨rfl,by first | omega | (dsimp only;omega),X7,by first | omega | (dsimp only;omega),_,Ax,by simp [hDl],AQy hDd (Nat.mod_lt _ (by decide)),by rw [AP4,hDl,AV6 hDv,AJf hx,AJf hy,Nat.mul_add];omega⟩,rfl,rfl,trivial⟩
 ·refine ACt (q_t (ACu (AId rfl (AIo (AIq (AIq (AJ5 (q_t (ACu (ACu (ACv (AHo (AJb AH7 rfl (HX.ext E2) (AHo (AJb AH7 rfl (HY.ext E2) (AQx rfl rfl (by omega) (by omega) ?_))))))))))))))));rw [show ((A.length:Nat):Int) - ((B.length:Nat):Int)=((A.length - B.length:Nat):Int) by omega];refine AHo (ACt (q_t (AHz ?_)));obtain rfl:i=B.length:=by omega
  rw [List.take_length] at hDv;refine AIy 37778929611157348024640 (fun y:Nat × Nat=>[(51,.int .i64 (y.1:Int)),(6,.int .u64 (y.2:Int))]) (fun k y h'=>k=A.length - B.length - y.1/\y.1<=A.length - B.length/\Ext h h'/\y.2<=1/\ ∃ D,AK4 h' 199 g1 v1 ((D ++ List.replicate ((A.length + 1) - (B.length + y.1)) 0).map ARp)/\D.length=B.length + y.1/\Dig D/\nv D + 4294967296 ^ (B.length + y.1) * y.2=nv (A.take (B.length + y.1)) + nv B) (by kernel_rfl) (A.length - B.length) (0,c) ?_ ⟨rfl,rfl,trivial⟩ ?_
  ·exact ⟨rfl,Nat.zero_le _,E2,hc,D,Ag,hDl,hDd,hDv⟩
  rintro k ⟨j,c⟩ s2 h3 ⟨rfl,hj,E3,hc,D,Ae,hDl,hDd,hDv⟩;dsimp only at hj hc Ae hDl hDv ⊢;have Bq:=E3.1;refine ACu (ACv (ALo rfl rfl (fun Az=>?_) (fun Az=>?_)))
  ·refine ACt (q_t (ACu (AIh rfl (AH2 (q_t (ACu (AHz (ACu (ACv (AHo (AHq (ACt (q_t (ACu ?_))))))))))))));obtain ⟨x,hx⟩:∃ x,A[(B.length + j)]? =some x:=⟨_,List.getElem?_eq_getElem (by omega)⟩;have hbx:=HX.dig x (List.mem_of_getElem? hx);refine ACv (AHo (AHo (AHo (AJb AH7 rfl (HY.ext E3) (AHo (ASu rfl rfl (by omega) (AOd AH7 rfl (HX.ext E3) rfl hx fun Br A3=>AIr AJz rfl A3 (AU6 AKm AKa rfl hbx (ASh rfl rfl (by omega) (AHq (ACt (q_t (ACu (ACv (AHo (AHo (AJb AH7 rfl (HY.ext E3) (AHo (ASu rfl rfl (by omega) (AHo (AWu AKa AKm rfl (AVk AH7 rfl Ae rfl (by simp;omega) ?_))))))))))))))))))))));refine AWt (D ++ [(c + x) % 4294967296] ++ List.replicate (A.length + 1 - (B.length + j + 1)) 0) AJz rfl rfl Ae (by simp;omega) (Abr hDl (by omega)) fun h5 A4 U5=>?_;have Bu:=U5.1;have A5:=E3.thenUpd U5 (fun k hk=>by have Ad:k=g1:=hk;omega);have Bv:=E3.thenUpd U5 (fun k hk=>by have Ad:k=g1:=hk;omega);refine ACt (q_t (ACv (AHo (AV5 rfl rfl (AHq (ACt (q_b (q_t (ACv (AOw rfl (by omega) (AHo (ACt (q_t ?_)))))))))))));exact ⟨A.length - B.length - (j + 1),(j + 1,(c + x) / 4294967296),by first | omega | (dsimp only;omega),⟨rfl,by first | omega | (dsimp only;omega),A5,by first | omega | (dsimp only;omega),_,A4,by simp [hDl];omega,AQy hDd (Nat.mod_lt _ (by decide)),by rw [AP4,hDl,<- Nat.add_assoc,AV6 hDv,AJf hx];omega⟩,rfl,rfl,trivial⟩
  ·refine ACt (q_t (ACu (AId rfl (AIo (AIq (AIq (AJ5 (q_t (ACu ?_)))))))));obtain rfl:j=A.length - B.length:=by omega
   have hBj:B.length + (A.length - B.length)=A.length:=by omega
   rw [hBj,List.take_length] at hDv;rw [hBj] at hDl;refine ACv (AHo (AHo (AJb AH7 rfl (HX.ext E3) (AHo (AWu AKa AKm rfl (AVk AH7 rfl Ae rfl (by simp;omega) ?_))))));refine AWt (D ++ [c % 4294967296] ++ List.replicate (A.length + 1 - (A.length + 1)) 0) AJz rfl rfl Ae (by simp;omega) (by rw [hBj];exact Abr hDl (by omega)) fun h6 Ak U6=>?_;have Bw:=U6.1;have A7:=E3.thenUpd U6 (fun k hk=>by have Ad:k=g1:=hk;omega);have Bx:=E3.thenUpd U6 (fun k hk=>by have Ad:k=g1:=hk;omega);rw [Nat.sub_self,List.replicate_zero,List.append_nil,Nat.mod_eq_of_lt (by omega)] at Ak;have Am:=Ak.ds (lo:=Array.size h) (AQy hDd (by omega)) Ar;refine ACt (q_t (ACu (ACv (AHo (AIa trivial rfl (AQu (Am.mono (Nat.zero_le _)) (by simp;omega)) fun By h6 hk=>?_)))));obtain ⟨rfl,L2,HT,htl⟩:=hk;refine ⟨trivial,?_⟩;refine AHq (ACt (q_t (AH1 (⟨_,AH5,?_⟩))));exact ⟨A7,L2,HT.ds Am.lo,htl,by rw [HT.val,AP4,hDl,hDv];exact hsum,by have:=HT.len;simp at this;omega⟩
theorem Aa3 {h:AHr} {la lb:Nat} {va vb:Value} {LA LB:List Nat} (HA:DS h la va LA) (HB:DS h lb vb LB) (htb:TL LB) (hle:nv LB<=nv LA) (hna:LA.length<=1000):AIj Tryz.prog 209 #[va,vb] h fun x h'=>Ext h h'/\ ∃ L,DS h' (Array.size h) x L/\TL L/\nv L=nv LA - nv LB/\L.length<=LA.length:=by
 refine AHx (l:=[_,_]) mx Tryz.func209 rfl rfl rfl rfl rfl (by kernel_rfl) (ACu (ACv (AHq (ACt (q_t (ACu (ACv (AHo (AJb AH7 rfl HA (Acv (n:=LA.length) AH7 AP6 (fun _=>trivial) rfl rfl (by decide) (by omega) fun g1 v1 h1 Aj E1 Ak Az=>?_))))))))));have A3:=E1.1;have Z2:=(Ext.refl h).trans E1;refine AHq (ACt (q_t (ACu (ACv (AHq (ACt (q_t (ACu (ACu (ACv (AHo (AJb AH7 rfl (HA.ext E1) (AHo (ACt (q_t (AHz (AIy 8796093006272 (fun y:Nat × Nat=>[(14,.int .i64 (y.1:Int)),(6,.int .u64 (y.2:Int))]) (fun k y h'=>k=LA.length - y.1/\y.1<=LA.length/\Ext h h'/\y.2<=1/\ ∃ D,AK4 h' 199 g1 v1 ((D ++ List.replicate (LA.length - y.1) 0).map ARp)/\D.length=y.1/\Dig D/\nv D + nv (LB.take y.1)=nv (LA.take y.1) + 4294967296 ^ y.1 * y.2) (by kernel_rfl) LA.length (0,0) ?_ ⟨rfl,rfl,trivial⟩ ?_)))))))))))))))))
 ·exact ⟨rfl,Nat.zero_le _,E1,by first | omega | (dsimp only;omega),[],by simpa using Aj,rfl,fun x hx=>(by simp at hx),rfl⟩
 rintro k ⟨i,c⟩ s1 h2 ⟨rfl,hi,E2,hc,D,Ab,hDl,hDd,hDv⟩;dsimp only at hi hc Ab hDl hDv ⊢;have A5:=E2.1;refine ACu (ACv (ALo rfl rfl (fun Am=>?_) (fun Am=>?_)))
 ·refine ACt (q_t (ACu (AIh rfl (AH2 (q_t (ACu (AHz (ACu (ACv (AHo (AHq (ACt (q_t (ACu ?_))))))))))))));obtain ⟨x,hx⟩:∃ x,LA[i]? =some x:=⟨_,List.getElem?_eq_getElem (by omega)⟩;have hbx:=HA.dig x (List.mem_of_getElem? hx);refine ACv (AHo (AHo (AOd AH7 rfl (HA.ext E2) rfl hx fun A6 Ao=>AIr AJz rfl Ao (AU6 AKm AKa rfl hbx (AHo (AOv rfl rfl ?_))))));rw [wrap_u64];refine AHq (ACt (q_t (AMu 34342961408 (fun s:Int=>[(8,.int .u64 (s % 18446744073709551616))]) (fun s h'=>h'=h2/\s=((x:Int) - (c:Int) - ((LB[i]?.getD 0:Nat):Int))) (by kernel_rfl) ?_ ?_)))
  ·refine ACu (ACv (AHo (AHo (AJb AH7 rfl (HB.ext E2) (ALo rfl rfl (fun Ap=>?_) (fun Ap=>?_))))))
   ·refine ACt (q_t (AIh rfl ?_));obtain ⟨y,Af⟩:∃ y,LB[i]? =some y:=⟨_,List.getElem?_eq_getElem (by omega)⟩;have hby:=HB.dig y (List.mem_of_getElem? Af);refine ACv (AHo (AHo (AHo (AOd AH7 rfl (HB.ext E2) rfl Af fun A7 Aq=>AIr AJz rfl Aq (AU6 AKm AKa rfl hby (AOv rfl rfl (AHq (ACt (q_t ?_)))))))));exact ⟨((x:Int) - (c:Int) - ((LB[i]?.getD 0:Nat):Int)),⟨rfl,rfl⟩,by rw [Af];show Value.int .u64 _=_;congr 1;rw [wrap_u64];simp only [Option.getD_some];omega,trivial⟩
   ·refine ACt (q_t (AId rfl (AH2 (q_t ?_))));exact ⟨((x:Int) - (c:Int) - ((LB[i]?.getD 0:Nat):Int)),⟨rfl,rfl⟩,by rw [List.getElem?_eq_none (by omega)];show Value.int .u64 _=_;congr 1;simp only [Option.getD_none];omega,trivial⟩
  rintro s s2 h2 ⟨rfl,hs⟩;obtain ⟨y,hy⟩:∃ y,LB[i]?.getD 0=y:=⟨_,rfl⟩;rw [hy] at hs;refine ACu ?_
  have hby:y < 4294967296:=by
    rw [<- hy]
    cases hq:LB[i]? with
    | none=>simp
    | some q=>exact HB.dig q (List.mem_of_getElem? hq)
  refine ACv (AHo (AHo (AHo (AQk AKa AKm rfl ?_))));obtain ⟨dg,hdg⟩:∃ dg:Nat,(dg:Int)=s % 4294967296:=⟨(s % 4294967296).toNat,by omega⟩;rw [show IntKind.u32.wrap (s % 18446744073709551616)=(dg:Int) by rw [wrap_u32,hdg];omega];refine AVk AH7 rfl Ab rfl (by simp;omega) ?_;refine AWt (D ++ [dg] ++ List.replicate (LA.length - (i + 1)) 0) AJz rfl rfl Ab (by simp;omega) (Abr hDl (by omega)) fun h4 Ar U4=>?_;have A9:=U4.1;have X7:=E2.thenUpd U4 (fun k hk=>by have Av:k=g1:=hk;omega);have Z8:=E2.thenUpd U4 (fun k hk=>by have Av:k=g1:=hk;omega);refine ACt (q_t (ACv (AHo (Aba (n:=63) rfl rfl (by decide) ?_))));rw [show s % 18446744073709551616 / 2 ^ 63=((if s < 0 then 1 else 0:Nat):Int) by split <;> omega];refine AHq (ACt (q_b (q_t (ACv (AOw rfl (by omega) (AHo (ACt (q_t ?_))))))));exact ⟨LA.length - (i + 1),(i + 1,if s < 0 then 1 else 0),by first | omega | (dsimp only;omega),⟨rfl,by first | omega | (dsimp only;omega),X7,by dsimp only;split <;> omega,_,Ar,by simp [hDl],AQy hDd (by omega),by rw [AP4,hDl,AP5 LB,hy,AJf hx];exact AXb hDv (by split <;> omega)⟩,rfl,rfl,trivial⟩
 ·refine ACt (q_t (ACu (AId rfl (AIo (AIq (AIq (AJ5 (q_t (ACu ?_)))))))));obtain rfl:i=LA.length:=by omega
  rw [List.take_length,List.take_of_length_le (by have:=AQl htb (Nat.lt_of_le_of_lt hle (ARf HA.dig));omega)] at hDv;have hDlt:=ARf hDd;rw [hDl] at hDlt
  have Aw:c=0:=by
    rcases Nat.eq_zero_or_pos c with h0 | h0
    · exact h0
    · obtain rfl:c=1:=by omega
      rw [Nat.mul_one] at hDv;omega
  subst Aw;rw [Nat.mul_zero,Nat.add_zero] at hDv;rw [Nat.sub_self,List.replicate_zero,List.append_nil] at Ab;have Ai:=Ab.ds (lo:=Array.size h) hDd Ak;refine ACv (AHo (AIa trivial rfl (AQu (Ai.mono (Nat.zero_le _)) (by omega)) fun x9 h2 hk=>?_));obtain ⟨rfl,L2,HT,htl⟩:=hk;refine ⟨trivial,?_⟩;refine AHq (ACt (q_t (AH1 (⟨_,AH5,?_⟩))));exact ⟨E2,L2,HT.ds Ai.lo,htl,by rw [HT.val];omega,by have:=HT.len;omega⟩
theorem Arc {L:List Nat} (h:Dig L) (hl:L.length<=1):nv L<=4294967295:=by
 have h1:=ARf h;have h2:4294967296 ^ L.length<=4294967296 ^ 1:=Nat.pow_le_pow_right (by decide) hl;omega
theorem Ard {A B:List Nat} (ha:Dig A) (hb:Dig B) (la:A.length<=1) (lb:B.length<=1):nv A * nv B < 18446744073709551616:=by
 have:=Nat.mul_le_mul (Arc ha la) (Arc hb lb);omega
theorem ASv {a b:Nat} (h:0<=ARm a b):b<=a:=by
 unfold ARm at h;split at h
 ·omega
 ·omega
theorem AV8 {a b:Nat} (h:ARm a b < 0):a<=b:=by
 unfold ARm at h;split at h
 ·omega
 ·split at h <;> omega
theorem Acy {A B:List Nat} (ha:Dig A) (hb:Dig B) (la:A.length<=99) (lb:B.length<=99):nv A + nv B < 4294967296 ^ 100:=by
 have h1:=ARf ha;have h2:=ARf hb;have h3:4294967296 ^ A.length<=4294967296 ^ 99:=Nat.pow_le_pow_right (by decide) la;have h4:4294967296 ^ B.length<=4294967296 ^ 99:=Nat.pow_le_pow_right (by decide) lb;have h5:4294967296 ^ 100=4294967296 ^ 99 * 4294967296:=Nat.pow_succ 4294967296 99;rw [h5];have h6:0 < 4294967296 ^ 99:=Nat.pow_pos (by decide);generalize 4294967296 ^ 99=t at *;omega
theorem AV9 {a b:Bool} {x y:Nat} (h:a=b):sgn a x + sgn b y=sgn a (x + y):=by
 subst h;cases a <;> simp [sgn] <;> omega
theorem AWa {a b:Bool} {x y:Nat} (h:a≠b) (hl:y<=x):sgn a x + sgn b y=sgn a (x - y):=by
 cases a <;> cases b <;> simp [sgn] at h ⊢ <;> omega
theorem AT5 {a b:Bool} {x y:Nat} (h:a≠b) (hl:x<=y):sgn a x + sgn b y=sgn b (y - x):=by
 cases a <;> cases b <;> simp [sgn] at h ⊢ <;> omega
theorem Agd {h:AHr} {la lb:Nat} {va vb:Value} {LA LB:List Nat} (na nb:Bool) (HA:DS h la va LA) (HB:DS h lb vb LB) (hta:TL LA) (htb:TL LB) (hna:LA.length<=99) (hnb:LB.length<=99):AIj Tryz.prog 217 #[.bool na,va,.bool nb,vb] h fun x h'=>Ext h h'/\ZV h' (Array.size h) x (sgn na (nv LA) + sgn nb (nv LB)):=by
 refine AHx (l:=[_,_,_,_]) mx Tryz.func217 rfl rfl rfl rfl rfl (by kernel_rfl) (ACu (ACv (ALw [.bool false,.slice none 0 0] ALz rfl (fun _=>trivial) fun Ab h2 V3 E4 A8 Cg=>?_)));have Ch:Array.size h<=Ab:=A8;have Ci:=E4.1;have Z8:=(Ext.refl h).trans E4;refine ACt (q_t (ACu (AHz (ACu (ACv (AHo (AHo (Acu AXy rfl rfl ?_))))))));cases Cj:na == nb
 ·refine AHq (ACt (q_t (AId rfl (ACu (ACv (AHo (AHo (AIa trivial rfl (AYi (HA.ext E4) (HB.ext E4) hta htb (by omega) (by omega)) fun x9 h2 hk=>?_))))))));obtain ⟨rfl,rfl⟩:=hk;refine ⟨trivial,?_⟩;refine AW4 rfl rfl (fun A9=>?_) (fun A9=>?_)
  ·refine AHq (ACt (q_t (AIh rfl (ACu (ACv (AHo (AHo (AHo (AIa trivial rfl (Aa3 (HA.ext E4) (HB.ext E4) htb (ASv (by assumption)) (by omega)) fun Cm Cn hk=>?_)))))))));obtain ⟨Aq,L1,Ac,Ag,Ah,A6⟩:=hk;refine ⟨trivial,?_⟩;have Co:=Aq.1;have Ba:=Z8.trans Aq;have Bb:=E4.trans Aq;have Bc:=V3.ext Aq;have Be:=E4.trans Aq;refine AIa trivial rfl (AOz na Ac Ag (by omega)) fun Cp Cq hk=>?_;obtain ⟨Ai,Ar⟩:=hk;refine ⟨trivial,?_⟩;have Cr:=Ai.1;have Bf:=Ba.trans Ai;have Bg:=Bb.trans Ai;have Bh:=Bc.ext Ai;have Bi:=Be.trans Ai;have Bj:=Ac.ext Ai;obtain ⟨Ad,s2,L2,rfl,Ae,Av,Aw,Ax⟩:=Ar.out;refine AIw [.bool Ad,s2] AH9 rfl rfl rfl rfl (ALx Ae.cap) Bh fun Ct Bl Aj=>?_;have Bm:=Bg.thenUpd Aj (fun k hk=>by have Af:k=Ab:=hk;omega);have Cu:=Aj.1;have Cv:=Bf.thenUpd Aj (fun k hk=>by have Af:k=Ab:=hk;omega);have Cw:=Bi.thenUpd Aj (fun k hk=>by have Af:k=Ab:=hk;omega);have Cx:=Bj.updLo Aj (by omega);have Bn:=Ae.updLo Aj (by omega);refine ACt (q_t (AH1 (AJ0 (AIi (⟨_,AJ7 AH9 rfl rfl Bl,?_⟩)))));exact ⟨Bm,⟨Ad,s2,L2,rfl,Bn.mono (by omega),Av,Aw,by rw [<- Ax,Ah];first | exact AV9 (eq_of_beq (by assumption)) | exact AWa (ne_of_beq_false (by assumption)) (ASv (by assumption)) | exact AT5 (ne_of_beq_false (by assumption)) (AV8 (by assumption))⟩⟩
  ·refine AHq (ACt (q_t (AId rfl (AH2 (q_b (q_t (ACu (ACv (AHo (AHo (AHo (AIa trivial rfl (Aa3 (HB.ext E4) (HA.ext E4) hta (AV8 (by assumption)) (by omega)) fun Cy Cz hk=>?_))))))))))));obtain ⟨Ay,L1,Ac,Ag,Ah,A6⟩:=hk;refine ⟨trivial,?_⟩;have C0:=Ay.1;have Bo:=Z8.trans Ay;have Bp:=E4.trans Ay;have Bq:=V3.ext Ay;have Br:=E4.trans Ay;refine AIa trivial rfl (AOz nb Ac Ag (by omega)) fun C1 C2 hk=>?_;obtain ⟨Ak,Ar⟩:=hk;refine ⟨trivial,?_⟩;have C3:=Ak.1;have Bt:=Bo.trans Ak;have Bu:=Bp.trans Ak;have Bv:=Bq.ext Ak;have Bw:=Br.trans Ak;have Bx:=Ac.ext Ak;obtain ⟨Ad,s2,L2,rfl,Ae,Av,Aw,Ax⟩:=Ar.out;refine AIw [.bool Ad,s2] AH9 rfl rfl rfl rfl (ALx Ae.cap) Bv fun C4 By Am=>?_;have Bz:=Bu.thenUpd Am (fun k hk=>by have Af:k=Ab:=hk;omega);have C5:=Am.1;have C6:=Bt.thenUpd Am (fun k hk=>by have Af:k=Ab:=hk;omega);have C7:=Bw.thenUpd Am (fun k hk=>by have Af:k=Ab:=hk;omega);have C8:=Bx.updLo Am (by omega);have B1:=Ae.updLo Am (by omega);refine ACt (q_t (AH1 (⟨_,AJ7 AH9 rfl rfl By,?_⟩)));exact ⟨Bz,⟨Ad,s2,L2,rfl,B1.mono (by omega),Av,Aw,by rw [<- Ax,Ah];first | exact AV9 (eq_of_beq (by assumption)) | exact AWa (ne_of_beq_false (by assumption)) (ASv (by assumption)) | exact AT5 (ne_of_beq_false (by assumption)) (AV8 (by assumption))⟩⟩
 ·refine AHq (ACt (q_t (AIh rfl (ACu (ACv (AHo (AHo (AHo (AIa trivial rfl (Ae3 (HA.ext E4) (HB.ext E4) (by omega) (by omega)) fun C9 Da hk=>?_)))))))));obtain ⟨Az,L1,Ac,Ag,Ah,A6⟩:=hk;refine ⟨trivial,?_⟩;have Db:=Az.1;have B3:=Z8.trans Az;have B4:=E4.trans Az;have B5:=V3.ext Az;have B6:=E4.trans Az;refine AIa trivial rfl (AOz na Ac Ag (AQl Ag (by rw [Ah];exact Acy HA.dig HB.dig hna hnb))) fun Dc Dd hk=>?_;obtain ⟨Ao,Ar⟩:=hk;refine ⟨trivial,?_⟩;have De:=Ao.1;have B7:=B3.trans Ao;have B8:=B4.trans Ao;have B9:=B5.ext Ao;have Ca:=B6.trans Ao;have Cb:=Ac.ext Ao;obtain ⟨Ad,s2,L2,rfl,Ae,Av,Aw,Ax⟩:=Ar.out;refine AIw [.bool Ad,s2] AH9 rfl rfl rfl rfl (ALx Ae.cap) B9 fun Df Cd Ap=>?_;have Ce:=B8.thenUpd Ap (fun k hk=>by have Af:k=Ab:=hk;omega);have Dg:=Ap.1;have Dh:=B7.thenUpd Ap (fun k hk=>by have Af:k=Ab:=hk;omega);have Di:=Ca.thenUpd Ap (fun k hk=>by have Af:k=Ab:=hk;omega);have Dj:=Cb.updLo Ap (by omega);have Cf:=Ae.updLo Ap (by omega);refine ACt (q_t (AH1 (AJ0 (AIi (⟨_,AJ7 AH9 rfl rfl Cd,?_⟩)))));exact ⟨Ce,⟨Ad,s2,L2,rfl,Cf.mono (by omega),Av,Aw,by rw [<- Ax,Ah];first | exact AV9 (eq_of_beq (by assumption)) | exact AWa (ne_of_beq_false (by assumption)) (ASv (by assumption)) | exact AT5 (ne_of_beq_false (by assumption)) (AV8 (by assumption))⟩⟩
theorem AL0 {ng:Bool} {n:Nat} {z:Int} (h:z=sgn ng n):z.natAbs=n:=by
 subst h;cases ng <;> simp [sgn]
theorem Akr (ng:Bool) (n:Nat):sgn (!ng) n= -sgn ng n:=by cases ng <;> simp [sgn]
theorem Sub_ok {h:AHr} {la lb:Nat} {va vb:Value} {a b:Int} (HA:ZV h la va a) (HB:ZV h lb vb b) (hba:a.natAbs < 4294967296 ^ 99) (hbb:b.natAbs < 4294967296 ^ 99):AIj Tryz.prog 203 #[va,vb] h fun x h'=>Ext h h'/\ZV h' (Array.size h) x (a - b):=by
 obtain ⟨na,sa,LA,rfl,HDa,htla,hla,hza⟩:=HA.out;obtain ⟨nb,sb,LB,rfl,HDb,htlb,hlb,hzb⟩:=HB.out;refine AHx (l:=[_,_]) mx Tryz.func203 rfl rfl rfl rfl rfl (by kernel_rfl) (ACu (ACv (AN1 [.bool na,sa] (fun _=>trivial) rfl rfl fun Aj h2 V3 E4 A8 B3=>?_)));have B4:Array.size h<=Aj:=A8;have B5:=E4.1;have Z8:=(Ext.refl h).trans E4;refine AN1 [.bool nb,sb] (fun _=>trivial) rfl rfl fun Ak B6 Ar Af Ba B7=>?_;have B8:Array.size h<=Ak:=Nat.le_trans E4.1 Ba;have nebq1bq9:Aj≠Ak:=by have:=V3.lt;omega
 have B9:=Af.1;have Au:=E4.trans Af;have Av:=V3.ext Af;refine ALw [.bool false,.slice none 0 0] ALz rfl (fun _=>trivial) fun Ab Ah Bb Ac Bc Ca=>?_;have Cb:Array.size h<=Ab:=Nat.le_trans Au.1 Bc;have nebq1bq20:Aj≠Ab:=by have:=Av.lt;omega
 have nebq9bq20:Ak≠Ab:=by have:=Ar.lt;omega
 have Cd:=Ac.1;have Be:=(Z8.trans Af).trans Ac;have Am:=Au.trans Ac;have Aw:=Av.ext Ac;have Bf:=(E4.trans Af).trans Ac;have Ax:=Ar.ext Ac;have Bg:=Af.trans Ac;refine ACt (q_t (ACu (AKf (fun h'=>Ext Ah h') (by kernel_rfl) ?_)));have Aa:=Ext.refl Ah;refine AJq (fs:=1) AP3 (by kernel_rfl) (by decide) rfl (AK1 ALq rfl Aa (fun h' hb=>(Aw.ext hb).cell (i:=0) rfl) (AJq (fs:=1) AQd (by kernel_rfl) (by decide) rfl (AK1 ANk rfl Aa (fun h' hb=>(Aw.ext hb).cell (i:=1) rfl) (AIa Aa rfl (AQu (DS.mono (HDa.ext Am) (Nat.zero_le _)) (by omega)) fun Ce Ah hk=>?_))));obtain ⟨rfl,L1,Ao,Ay⟩:=hk;refine ⟨Aa,?_⟩;have Bh:=Ao.ds (lo:=la) HDa.lo;have Az:=Ao.val;have Cg:=Ao.len;refine AJq (fs:=1) AP3 (by kernel_rfl) (by decide) rfl (AK1 ALq rfl Aa (fun h' hb=>(Ax.ext hb).cell (i:=0) rfl) (AMj rfl (AJq (fs:=1) AQd (by kernel_rfl) (by decide) rfl (AK1 ANk rfl Aa (fun h' hb=>(Ax.ext hb).cell (i:=1) rfl) (AIa Aa rfl (AQu (DS.mono (HDb.ext Am) (Nat.zero_le _)) (by omega)) fun Ch Ah hk=>?_)))));obtain ⟨rfl,L2,Ap,A3⟩:=hk;refine ⟨Aa,?_⟩;have Bi:=Ap.ds (lo:=lb) HDb.lo;have A4:=Ap.val;have Cj:=Ap.len;refine AIa Aa rfl (Agd na (!nb) Bh Bi Ay A3 (AQl Ay (by rw [Az,<- AL0 hza];exact hba)) (AQl A3 (by rw [A4,<- AL0 hzb];exact hbb))) fun Ck Cm hk=>?_;obtain ⟨Ad,Bj⟩:=hk;have Bl:=Aa.trans Ad;refine ⟨Bl,?_⟩;have Cn:=Ad.1;have Bm:=Be.trans Ad;have Bn:=Am.trans Ad;have Bo:=Bf.trans Ad;have Bp:=Bg.trans Ad;have Bq:=Bb.ext Ad;have Br:=Ac.trans Ad;obtain ⟨A5,s3,L3,rfl,A7,Bu,Bv,Bw⟩:=Bj.out;refine AIw [.bool A5,s3] AH9 rfl rfl rfl rfl (ALx A7.cap) Bq fun Co Bx Ae=>?_;have By:=Bn.thenUpd Ae (fun k hk=>by have Ai:k=Ab:=hk;omega);have Cp:=Ae.1;have Cq:=Bm.thenUpd Ae (fun k hk=>by have Ai:k=Ab:=hk;omega);have Cr:=Br.thenUpd Ae (fun k hk=>by have Ai:k=Ab:=hk;omega);have Ct:=Bo.thenUpd Ae (fun k hk=>by have Ai:k=Ab:=hk;omega);have Cu:=Bp.thenUpd Ae (fun k hk=>by have Ai:k=Ab:=hk;omega);have Bz:=A7.updLo Ae (by omega);refine ACt (q_t (AH1 (⟨_,AJ7 AH9 rfl rfl Bx,?_⟩)));exact ⟨By,⟨A5,s3,L3,rfl,Bz.mono (by omega),Bu,Bv,by rw [<- Bw,Az,A4,hza,hzb,Akr];omega⟩⟩
theorem Afj (a b:Bool) (x y:Nat):sgn a x * sgn b y=sgn (!(a == b)) (x * y):=by
 cases a <;> cases b <;> simp [sgn,Int.neg_mul,Int.mul_neg]
theorem Ai2 {L:List Nat} (h:Dig L) (hl:L.length<=2):nv L < 18446744073709551616:=by
 have h1:=ARf h;have h2:4294967296 ^ L.length<=4294967296 ^ 2:=Nat.pow_le_pow_right (by decide) hl;omega
theorem AZk {a b:Nat} (h:ARm a b < 0):a < b:=by
 unfold ARm at h;split at h
 ·assumption
 ·split at h <;> omega
theorem Aj3 {h:AHr} {la lb:Nat} {va vb:Value} {LA LB:List Nat} (HA:DS h la va LA) (HB:DS h lb vb LB) (hta:TL LA) (htb:TL LB) (Ar:nv LB≠0) (hna:LA.length<=2) (hnb:LB.length<=2):AIj Tryz.prog 207 #[va,vb] h fun x h'=>Ext h h'/\ ∃ q r,x= .tuple #[q,r]/\ ∃ LQ LR,DS h' (Array.size h) q LQ/\DS h' (Array.size h) r LR/\TL LQ/\TL LR/\nv LQ=nv LA / nv LB/\nv LR=nv LA % nv LB/\LQ.length<=2/\LR.length<=2:=by
 refine AHx (l:=[_,_]) mx Tryz.func207 rfl rfl rfl rfl rfl (by kernel_rfl) (ACu (ACv (AHq (AHq (ACt (q_t (ACu (AHz (ACu (ACv (AHo (AHo (AIa trivial rfl (AYi HA HB hta htb (by omega) (by omega)) fun x1 h hk=>?_)))))))))))));obtain ⟨rfl,rfl⟩:=hk;refine ⟨trivial,?_⟩;refine ALo rfl rfl (fun Am=>?_) (fun Am=>?_)
 ·refine AHq (ACt (q_t (AIh rfl (ACu (ACv (AHo (AIa trivial rfl (Aa2 HA (by omega)) fun x2 h3 hk=>?_)))))));obtain ⟨E4,Aa⟩:=hk;refine ⟨trivial,?_⟩;have Ax:=E4.1;have Z6:=(Ext.refl h).trans E4;refine AHq (AHq (ACt (q_t (AH1 (AJ0 (AIi (⟨_,AKj,?_⟩)))))))
  first
  | (have hlt:=AZk (by assumption:ARm (nv LA) (nv LB) < 0)
     exact ⟨E4,_,_,rfl,[],LA,ATz _ _,Aa,AU5,hta,by rw [Nat.div_eq_of_lt hlt];rfl,by rw [Nat.mod_eq_of_lt hlt],by simp,by omega⟩)
  | exact ⟨E4,_,_,rfl,L1,L2,lacks_HD1.mono (by omega),Aa.mono (by omega),Ag,Ah,Ai,Aj,by omega,by omega⟩
 ·refine AHq (ACt (q_t (AId rfl (ACu (ACv (AHo (AJb AH7 rfl HA (AVl rfl rfl (fun _=>?_) (fun hc=>absurd hc (by omega))))))))));refine AHq (ACt (q_t (AIh rfl (ACu (ACv (AHo (AIa trivial rfl (Ab7 HA (by omega)) fun x7 h hk=>?_)))))));obtain ⟨rfl,rfl⟩:=hk;refine ⟨trivial,?_⟩;refine AHo (AIa trivial rfl (Ab7 HB (by omega)) fun x8 h hk=>?_);obtain ⟨rfl,rfl⟩:=hk;refine ⟨trivial,?_⟩;refine AHq (AHq (ACt (q_t (ACu ?_))));have hlt:=Ai2 HA.dig hna;refine ALp (by kernel_rfl) (AHo (AHo (Ad4 rfl rfl (by omega) ?_)));rw [show IntKind.u64.wrap (((nv LA:Nat):Int).tdiv ((nv LB:Nat):Int))=((nv LA / nv LB:Nat):Int) by rw [Int.tdiv_eq_ediv_of_nonneg (by omega),<- Int.natCast_ediv,wrap_u64];have hq:=Nat.div_le_self (nv LA) (nv LB);generalize nv LA / nv LB=q at hq ⊢;omega];refine AIa trivial rfl (AS9 (nv LA / nv LB) (by have:=Nat.div_le_self (nv LA) (nv LB);omega) _) fun x9 A5 hk=>?_;obtain ⟨Ad,L1,Ao,Ag,Ai,A6⟩:=hk;refine ⟨trivial,?_⟩;have A7:=Ad.1;have Ap:=(Ext.refl h).trans Ad;refine AHo (AHo (Aoo rfl rfl (by omega) (AIa trivial rfl (AS9 (nv LA % nv LB) (by have:=Nat.mod_le (nv LA) (nv LB);omega) _) fun A8 A9 hk=>?_)));obtain ⟨Ac,L2,Aa,Ah,Aj,Ba⟩:=hk;refine ⟨trivial,?_⟩;have Bb:=Ac.1;have Bc:=Ap.trans Ac;have Ak:=Ad.trans Ac;have Aq:=Ao.ext Ac;refine AHq (AHq (ACt (q_t (AH1 (AJ0 (AIi (⟨_,AKj,?_⟩)))))))
  first
  | (have hlt:=AZk (by assumption:ARm (nv LA) (nv LB) < 0)
     exact ⟨Ak,_,_,rfl,[],LA,ATz _ _,Aa,AU5,hta,by rw [Nat.div_eq_of_lt hlt];rfl,by rw [Nat.mod_eq_of_lt hlt],by simp,by omega⟩)
  | exact ⟨Ak,_,_,rfl,L1,L2,Aq.mono (by omega),Aa.mono (by omega),Ag,Ah,Ai,Aj,by omega,by omega⟩
theorem ANa {a b q r:Int} (hb:b≠0) (h:a=b * q + r) (h0:0<=r) (h1:r < b.natAbs):a / b=q/\a % b=r:=by
 have hr:r % b=r:=by
   rcases AW6 0 b with hp | hn
   · exact Int.emod_eq_of_lt h0 (by omega)
   · rw [<- Int.emod_neg];exact Int.emod_eq_of_lt h0 (by omega)
 have hm:a % b=r:=by rw [h,Int.add_comm,Int.add_mul_emod_self_left];exact hr
 refine ⟨?_,hm⟩;have h2:=Int.mul_ediv_add_emod a b;rw [hm] at h2;have h3:b * (a / b)=b * q:=by omega
 exact Int.eq_of_mul_eq_mul_left hb h3
theorem Awl {A B:Nat} (hA:A < 18446744073709551616) (hr:A % B≠0):A / B + 1 < 18446744073709551616:=by
 match B with
 | 0=>simp
 | 1=>omega
 | n + 2=>
   have:A / (n + 2)<=A / 2:=Nat.div_le_div_left (show 2<=n + 2 by omega) (by omega)
   omega
theorem Apv {nb:Bool} {A B:Nat} (hB:B≠0):sgn nb (A / B)=(A:Int) / sgn nb B/\sgn false (A % B)=(A:Int) % sgn nb B:=by
 have h:=Nat.div_add_mod A B;have hl:=Nat.mod_lt A (Nat.pos_of_ne_zero hB);have h2:(A:Int)=(B:Int) * ((A / B:Nat):Int) + ((A % B:Nat):Int):=by rw [<- Int.natCast_mul,<- Int.natCast_add,h]
 have:=ANa (a:=A) (b:=sgn nb B) (q:=sgn nb (A / B)) (r:=((A % B:Nat):Int)) (by cases nb <;> simp [sgn] <;> omega) (by cases nb <;> simp only [sgn] <;> simp [Int.neg_mul_neg] <;> (rw [<- Int.natCast_ediv,<- Int.natCast_emod];exact h2)) (by omega) (by cases nb <;> simp only [sgn] <;> simp <;> omega);exact ⟨this.1.symm,this.2.symm⟩
theorem Ak2 {nb:Bool} {A B:Nat} (hB:B≠0) (hr:A % B≠0):sgn (!nb) (A / B + 1)= -(A:Int) / sgn nb B/\sgn false (B - A % B)= -(A:Int) % sgn nb B:=by
 have h:=Nat.div_add_mod A B;have hl:=Nat.mod_lt A (Nat.pos_of_ne_zero hB);have h2:(A:Int)=(B:Int) * ((A / B:Nat):Int) + ((A % B:Nat):Int):=by rw [<- Int.natCast_mul,<- Int.natCast_add,h]
 obtain ⟨q,hq⟩:∃ q,A / B=q:=⟨_,rfl⟩;obtain ⟨r,hrr⟩:∃ r,A % B=r:=⟨_,rfl⟩;rw [hq,hrr] at h2;rw [hrr] at hl hr;rw [hq,hrr];have e:((B - r:Nat):Int)=(B:Int) - (r:Int):=by omega
 have:=ANa (a:= -(A:Int)) (b:=sgn nb B) (q:=sgn (!nb) (q + 1)) (r:=((B - r:Nat):Int)) (by cases nb <;> simp [sgn] <;> omega) (by rw [h2,e];cases nb <;> simp [sgn] <;> grind) (by omega) (by cases nb <;> simp only [sgn] <;> simp <;> omega);exact ⟨this.1.symm,this.2.symm⟩
theorem Ak3 {nb:Bool} {A B:Nat} (hB:B≠0) (hr:A % B=0):sgn (!nb) (A / B)= -(A:Int) / sgn nb B/\sgn false (A % B)= -(A:Int) % sgn nb B:=by
 have h:=Nat.div_add_mod A B;have h2:(A:Int)=(B:Int) * ((A / B:Nat):Int):=by rw [<- Int.natCast_mul];omega
 obtain ⟨q,hq⟩:∃ q,A / B=q:=⟨_,rfl⟩;rw [hq] at h2;rw [hq,hr];have:=ANa (a:= -(A:Int)) (b:=sgn nb B) (q:=sgn (!nb) q) (r:=0) (by cases nb <;> simp [sgn] <;> omega) (by rw [h2];cases nb <;> simp [sgn] <;> grind) (by omega) (by cases nb <;> simp only [sgn] <;> simp <;> omega);exact ⟨this.1.symm,this.2.symm⟩
theorem DivMod2_ok {h:AHr} {la lb:Nat} {va vb:Value} {a b:Int} (HA:ZV h la va a) (HB:ZV h lb vb b) (hba:a.natAbs < 18446744073709551616) (hbb:b.natAbs < 18446744073709551616) (C6:b≠0):AIj Tryz.prog 178 #[va,vb] h fun x h'=>Ext h h'/\ ∃ q r,x= .tuple #[q,r,.bool true]/\ZV h' (Array.size h) q (a / b)/\ZV h' (Array.size h) r (a % b):=by
 obtain ⟨na,sa,LA,rfl,HDa,htla,hla,hza⟩:=HA.out;obtain ⟨nb,sb,LB,rfl,HDb,htlb,hlb,hzb⟩:=HB.out;refine AHx (l:=[_,_]) mx Tryz.func178 rfl rfl rfl rfl rfl (by kernel_rfl) (ACu (ACv (AN1 [.bool na,sa] (fun _=>trivial) rfl rfl fun A6 h2 V3 E4 C7 C8=>?_)));have Hl:Array.size h<=A6:=C7;have Hm:=E4.1;have Z8:=(Ext.refl h).trans E4;refine AN1 [.bool nb,sb] (fun _=>trivial) rfl rfl fun A7 Hn Bc Ba Da Ho=>?_;have Hq:Array.size h<=A7:=Nat.le_trans E4.1 Da;have nebq1bq9:A6≠A7:=by have:=V3.lt;omega
 have Hr:=Ba.1;have Ch:=E4.trans Ba;have Be:=V3.ext Ba;refine ALw [.bool false,.slice none 0 0] ALz rfl (fun _=>trivial) fun Ac Hs Ci Ay Db Ht=>?_;have Hu:Array.size h<=Ac:=Nat.le_trans Ch.1 Db;have nebq1bq20:A6≠Ac:=by have:=Be.lt;omega
 have nebq9bq20:A7≠Ac:=by have:=Bc.lt;omega
 have Hv:=Ay.1;have Dc:=(Z8.trans Ba).trans Ay;have Cj:=Ch.trans Ay;have Ck:=Be.ext Ay;have Dd:=(E4.trans Ba).trans Ay;have Cm:=Bc.ext Ay;refine ALw [.bool false,.slice none 0 0] ALz rfl (fun _=>trivial) fun Aa Cn De Ax Df Hw=>?_;have Hx:Array.size h<=Aa:=Nat.le_trans Cj.1 Df;have nebq1bq33:A6≠Aa:=by have:=Ck.lt;omega
 have nebq9bq33:A7≠Aa:=by have:=Cm.lt;omega
 have nebq20bq33:Ac≠Aa:=by have:=Ci.lt;omega
 have Hy:=Ax.1;have Dg:=Dc.trans Ax;have Bv:=Cj.trans Ax;have Co:=Ck.ext Ax;have Dh:=Dd.trans Ax;have Cp:=Cm.ext Ax;have Di:=(Ba.trans Ay).trans Ax;have Dj:=Ci.ext Ax;have Dk:=Ay.trans Ax;refine AHq (ACt (q_t (ACu (ACv (AJq (fs:=1) AQd (by kernel_rfl) (by decide) rfl (AIr ANk rfl (Cp.cell (i:=1) rfl) (AIa trivial rfl (AQu (DS.mono (HDb.ext Bv) (Nat.zero_le _)) (by omega)) fun Hz Cn hk=>?_)))))));obtain ⟨rfl,L2,Bw,Bx⟩:=hk;refine ⟨trivial,?_⟩;have By:=Bw.ds (lo:=lb) HDb.lo;have A8:=Bw.val;have H5:=Bw.len;refine AHq (ACt (q_t (ACu (ACu (ACv (AHo (AJb AH7 rfl By ?_)))))));have Bf:nv LB≠0:=fun h0=>C6 (by rw [hzb,h0];cases nb <;> rfl);have hLB:L2≠[]:=fun h0=>Bf (by rw [<- A8,h0];rfl);have hLp:=List.length_pos_iff.2 hLB;refine AVm rfl rfl (fun hc=>absurd hc (by omega)) (fun _=>ACt (q_t (AId rfl (AH2 (q_t (ACu (ACv (AJq (fs:=1) AQd (by kernel_rfl) (by decide) rfl (AIr ANk rfl (Co.cell (i:=1) rfl) (AIa trivial rfl (AQu (DS.mono (HDa.ext Bv) (Nat.zero_le _)) (by omega)) fun H9 Cn hk=>?_))))))))));obtain ⟨rfl,L1,Bz,Cr⟩:=hk;refine ⟨trivial,?_⟩;have Ct:=Bz.ds (lo:=la) HDa.lo;have Cu:=Bz.val;have Ib:=Bz.len;refine AHo (AIa trivial rfl (Aj3 Ct By Cr Bx (by rw [A8];exact Bf) (AQl Cr (by rw [Cu,<- AL0 hza];omega)) (AQl Bx (by rw [A8,<- AL0 hzb];omega))) fun Ic Id hk=>?_);obtain ⟨Am,qv,rv,rfl,LQ,LR,HQ,HR,htq,htr,hvq,hvr,hlq,hlr⟩:=hk;refine ⟨trivial,?_⟩;have Ie:=Am.1;have B1:=Dg.trans Am;have B3:=Bv.trans Am;have B4:=Co.ext Am;have B5:=Dh.trans Am;have Dl:=Cp.ext Am;have B6:=Di.trans Am;have B7:=Dj.ext Am;have B8:=Dk.trans Am;have B9:=De.ext Am;have Ca:=By.ext Am;have Cb:=Ct.ext Am;rw [Cu,A8] at hvq hvr;have If:L2.length<=2:=AQl Bx (by rw [A8,<- AL0 hzb];omega);refine AHo (AI7 rfl rfl (AI7 rfl rfl (AHq (AHq (ACt (q_t (ACu (ACv (AJq (fs:=1) AP3 (by kernel_rfl) (by decide) rfl (AIr ALq rfl (Dl.cell (i:=0) rfl) (AHq (ACt (q_t (ACu (AHz (ACu (AHz (ACu (AHz (ACu (ACu (ACu ?_))))))))))))))))))))));have hrl:LR.length=0↔nv LA % nv LB=0:=⟨fun h0=>by rw [<- hvr,List.length_eq_zero_iff.1 h0];rfl,fun h0=>by rw [AMz htr (hvr.trans h0)];rfl⟩;refine ACv (AJq (fs:=1) AP3 (by kernel_rfl) (by decide) rfl (AIr ALq rfl (B4.cell (i:=0) rfl) ?_));cases Bg:na
 ·refine AHo (AH0 32 false (by kernel_rfl) rfl rfl (AH0 32 false (by kernel_rfl) rfl rfl (AH0 32 false (by kernel_rfl) rfl rfl (AIv rfl (AHq (ACt (q_t (AId rfl (AH2 (q_t (ACu (ACv (AJq (fs:=1) AP3 (by kernel_rfl) (by decide) rfl (AIr ALq rfl (B4.cell (i:=0) rfl) ?_))))))))))))));rw [Bg];refine AHq (ACt (q_t (AId rfl (AH2 (q_t (AIo (Ae8 (by decide) (AIq (Ae8 (by decide) (AIq (AJ5 (q_t (ACu (ACv (AHo (AHo (AIa trivial rfl (AOz nb HQ htq (by omega)) fun Ih Ii hk=>?_)))))))))))))))));obtain ⟨Ao,Bh⟩:=hk;refine ⟨trivial,?_⟩;have Ij:=Ao.1;have Dn:=B1.trans Ao;have Do:=B3.trans Ao;have Dp:=B5.trans Ao;have Dq:=B6.trans Ao;have Dr:=B7.ext Ao;have Ds:=B8.trans Ao;have Dt:=B9.ext Ao;have Ik:=Ca.ext Ao;have Il:=Cb.ext Ao;have HQ_82:=HQ.ext Ao;have HR_83:=HR.ext Ao;obtain ⟨Az,s7,L7,rfl,Bj,Bl,Bm,Bn⟩:=Bh.out;refine AHo (AIa trivial rfl (AOz false HR_83 htr (by omega)) fun Im Io hk=>?_);obtain ⟨Ar,Bo⟩:=hk;refine ⟨trivial,?_⟩;have Ip:=Ar.1;have Du:=Dn.trans Ar;have Dv:=Do.trans Ar;have Dw:=Dp.trans Ar;have Dx:=Dq.trans Ar;have Dy:=Dr.ext Ar;have Dz:=Ds.trans Ar;have D0:=Dt.ext Ar;have HQ_98:=HQ_82.ext Ar;have HR_99:=HR_83.ext Ar;have Cv:=Bj.ext Ar;obtain ⟨A4,s8,L8,rfl,Bq,Br,Bt,Bu⟩:=Bo.out;refine AIw [.bool Az,s7] AH9 rfl rfl rfl rfl (ALx Cv.cap) Dy fun Iq D1 Au=>?_;have D2:=Dv.thenUpd Au (fun k hk=>by have Ab:k=Ac:=hk;omega);have Ir:=Au.1;have D3:=Du.thenUpd Au (fun k hk=>by have Ab:k=Ac:=hk;omega);have Cd:=Dz.thenUpd Au (fun k hk=>by have Ab:k=Ac:=hk;omega);have D4:=Dw.thenUpd Au (fun k hk=>by have Ab:k=Ac:=hk;omega);have D5:=Dx.thenUpd Au (fun k hk=>by have Ab:k=Ac:=hk;omega);have D6:=D0.upd Au (fun he=>(Ne.symm nebq20bq33) (he:Aa=Ac));have HQ_113:=HQ_98.updLo Au (by omega);have HR_114:=HR_99.updLo Au (by omega);have D7:=Cv.updLo Au (by omega);have Cw:=Bq.updLo Au (by omega);refine AIw [.bool A4,s8] AH9 rfl rfl rfl rfl (ALx Cw.cap) D6 fun Is D8 Ag=>?_;have D9:=D2.thenUpd Ag (fun k hk=>by have Ab:k=Aa:=hk;omega);have It:=Ag.1;have Iu:=D3.thenUpd Ag (fun k hk=>by have Ab:k=Aa:=hk;omega);have Iv:=(Be.ext Cd).upd Ag (fun he=>nebq1bq33 (he:A6=Aa));have Iw:=D4.thenUpd Ag (fun k hk=>by have Ab:k=Aa:=hk;omega);have Ix:=(Bc.ext Cd).upd Ag (fun he=>nebq9bq33 (he:A7=Aa));have Iy:=D5.thenUpd Ag (fun k hk=>by have Ab:k=Aa:=hk;omega);have Ea:=D1.upd Ag (fun he=>nebq20bq33 (he:Ac=Aa));have Iz:=Cd.thenUpd Ag (fun k hk=>by have Ab:k=Aa:=hk;omega);have HQ_129:=HQ_113.updLo Ag (by omega);have HR_130:=HR_114.updLo Ag (by omega);have Eb:=D7.updLo Ag (by omega);have Ec:=Cw.updLo Ag (by omega);refine AHq (ACt (q_t (AH1 (⟨_,ASg AH9 rfl rfl Ea AH9 rfl rfl D8,?_⟩))));have hk:=Apv (nb:=nb) (A:=nv LA) Bf;have ea:a=((nv LA:Nat):Int):=by rw [hza,Bg];rfl
  exact ⟨D9,_,_,rfl,⟨Az,s7,L7,rfl,Eb.mono (by omega),Bl,Bm,by rw [<- Bn,hvq,ea,hzb];exact hk.1.symm⟩,⟨A4,s8,L8,rfl,Ec.mono (by omega),Br,Bt,by rw [<- Bu,hvr,ea,hzb];exact hk.2.symm⟩⟩
 ·refine AHo (AH3 32 true (by kernel_rfl) rfl rfl (AHo (AH3 32 true (by kernel_rfl) rfl rfl (AJb AH7 rfl HR (AH3 32 true (by kernel_rfl) rfl rfl (ATv rfl rfl (fun Ed=>?_) (fun Ed=>?_)))))))
  ·refine AIt rfl (AHq (ACt (q_t (AIh rfl (AIo (AIq (AIq (AJ5 (q_t (ACu (ACv (AHo (Aox [ARp 1] AH7 AP6 rfl (fun _=>trivial) rfl (by omega) (by omega) rfl (by simp [ARp,isOne]) fun g8 v8 h8 Eg E8 I1 I2=>?_)))))))))))));have I3:=E8.1;have Eh:=B1.trans E8;have Ei:=B3.trans E8;have Ej:=B5.trans E8;have Ek:=B6.trans E8;have El:=B7.ext E8;have Em:=B8.trans E8;have En:=B9.ext E8;have Eo:=Ca.ext E8;have Ep:=Cb.ext E8;have HQ_146:=HQ.ext E8;have HR_147:=HR.ext E8;have HDu:DS h8 0 v8 [1]:=AK4.ds (L:=[1]) Eg (by intro x hx;rw [List.mem_singleton.1 hx];decide) (Nat.zero_le _);refine AIa trivial rfl (Ae3 HQ_146 HDu (by omega) (by simp)) fun I6 I9 hk=>?_;obtain ⟨Ah,L5,Es,Cx,Cy,Ja⟩:=hk;refine ⟨trivial,?_⟩;have Jc:=Ah.1;have Et:=Eh.trans Ah;have Eu:=Ei.trans Ah;have Ev:=Ej.trans Ah;have Ew:=Ek.trans Ah;have Ey:=El.ext Ah;have Ez:=Em.trans Ah;have Fa:=En.ext Ah;have Cz:=Eo.ext Ah;have Fb:=Ep.ext Ah;have HQ_164:=HQ_146.ext Ah;have HR_165:=HR_147.ext Ah;have HDu_166:=HDu.ext Ah;refine AHq (ACt (q_t (ACv (AHo (AHo (AIa trivial rfl (Aa3 Cz HR_165 htr (by rw [hvr,A8];exact Nat.le_of_lt (Nat.mod_lt _ (by omega))) (by omega)) fun Je Jf hk=>?_))))));obtain ⟨Af,L6,Fc,Fd,Fe,C8⟩:=hk;refine ⟨trivial,?_⟩;have Jh:=Af.1;have Ff:=Et.trans Af;have Fg:=Eu.trans Af;have Fh:=Ev.trans Af;have Fi:=Ew.trans Af;have Fj:=Ey.ext Af;have Fk:=Ez.trans Af;have Fl:=Fa.ext Af;have Fm:=Cz.ext Af;have Fo:=Fb.ext Af;have HQ_183:=HQ_164.ext Af;have HR_184:=HR_165.ext Af;have HDu_185:=HDu_166.ext Af;have C0:=Es.ext Af;refine AHq (ACt (q_b (q_t (ACu (ACv (AHo (AMj rfl (AHq (ACt (q_t (AIo (AJ5 (q_t (ACu (ACv (AHo (AHo (AIa trivial rfl (AOz (!nb) C0 Cx (by have h5:L5.length<=2:=AQl Cx (by rw [Cy,hvq];exact Awl (A:=nv LA) (B:=nv LB) (by rw [<- AL0 hza];exact hba) (by omega));omega)) fun Jj Jk hk=>?_))))))))))))))))));obtain ⟨Ad,Bh⟩:=hk;refine ⟨trivial,?_⟩;have Jl:=Ad.1;have Fp:=Ff.trans Ad;have Fq:=Fg.trans Ad;have Fr:=Fh.trans Ad;have Ft:=Fi.trans Ad;have Fu:=Fj.ext Ad;have Fv:=Fk.trans Ad;have Fw:=Fl.ext Ad;have Jm:=Fm.ext Ad;have Jn:=Fo.ext Ad;have HQ_203:=HQ_183.ext Ad;have HR_204:=HR_184.ext Ad;have HDu_205:=HDu_185.ext Ad;have Fx:=C0.ext Ad;have C1:=Fc.ext Ad;obtain ⟨Az,s7,L7,rfl,Bj,Bl,Bm,Bn⟩:=Bh.out;refine AHo (AIa trivial rfl (AOz false C1 Fd (by omega)) fun Jo Jp hk=>?_);obtain ⟨Ai,Bo⟩:=hk;refine ⟨trivial,?_⟩;have Jq:=Ai.1;have Fy:=Fp.trans Ai;have Fz:=Fq.trans Ai;have F4:=Fr.trans Ai;have F5:=Ft.trans Ai;have F6:=Fu.ext Ai;have F7:=Fv.trans Ai;have F8:=Fw.ext Ai;have HQ_222:=HQ_203.ext Ai;have HR_223:=HR_204.ext Ai;have F9:=Fx.ext Ai;have Ga:=C1.ext Ai;have C2:=Bj.ext Ai;obtain ⟨A4,s8,L8,rfl,Bq,Br,Bt,Bu⟩:=Bo.out;refine AIw [.bool Az,s7] AH9 rfl rfl rfl rfl (ALx C2.cap) F6 fun Jr Gb Aj=>?_;have Gc:=Fz.thenUpd Aj (fun k hk=>by have Ab:k=Ac:=hk;omega);have Js:=Aj.1;have Gd:=Fy.thenUpd Aj (fun k hk=>by have Ab:k=Ac:=hk;omega);have Ce:=F7.thenUpd Aj (fun k hk=>by have Ab:k=Ac:=hk;omega);have Ge:=F4.thenUpd Aj (fun k hk=>by have Ab:k=Ac:=hk;omega);have Gf:=F5.thenUpd Aj (fun k hk=>by have Ab:k=Ac:=hk;omega);have Gg:=F8.upd Aj (fun he=>(Ne.symm nebq20bq33) (he:Aa=Ac));have HQ_239:=HQ_222.updLo Aj (by omega);have HR_240:=HR_223.updLo Aj (by omega);have Gh:=F9.updLo Aj (by omega);have Gi:=Ga.updLo Aj (by omega);have Gj:=C2.updLo Aj (by omega);have C3:=Bq.updLo Aj (by omega);refine AIw [.bool A4,s8] AH9 rfl rfl rfl rfl (ALx C3.cap) Gg fun Jt Gk Ae=>?_;have Gl:=Gc.thenUpd Ae (fun k hk=>by have Ab:k=Aa:=hk;omega);have Ju:=Ae.1;have Jv:=Gd.thenUpd Ae (fun k hk=>by have Ab:k=Aa:=hk;omega);have Jw:=(Be.ext Ce).upd Ae (fun he=>nebq1bq33 (he:A6=Aa));have Jx:=Ge.thenUpd Ae (fun k hk=>by have Ab:k=Aa:=hk;omega);have Jy:=(Bc.ext Ce).upd Ae (fun he=>nebq9bq33 (he:A7=Aa));have Jz:=Gf.thenUpd Ae (fun k hk=>by have Ab:k=Aa:=hk;omega);have Gm:=Gb.upd Ae (fun he=>nebq20bq33 (he:Ac=Aa));have J0:=Ce.thenUpd Ae (fun k hk=>by have Ab:k=Aa:=hk;omega);have HQ_257:=HQ_239.updLo Ae (by omega);have HR_258:=HR_240.updLo Ae (by omega);have J1:=Gh.updLo Ae (by omega);have J2:=Gi.updLo Ae (by omega);have Gn:=Gj.updLo Ae (by omega);have Gp:=C3.updLo Ae (by omega);refine AHq (ACt (q_t (AH1 (⟨_,ASg AH9 rfl rfl Gm AH9 rfl rfl Gk,?_⟩))));have hk:=Ak2 (nb:=nb) (A:=nv LA) Bf (by omega);have ea:a= -((nv LA:Nat):Int):=by rw [hza,Bg];rfl
   exact ⟨Gl,_,_,rfl,⟨Az,s7,L7,rfl,Gn.mono (by omega),Bl,Bm,by rw [<- Bn,Cy,hvq,ea,hzb];exact hk.1.symm⟩,⟨A4,s8,L8,rfl,Gp.mono (by omega),Br,Bt,by rw [<- Bu,Fe,A8,hvr,ea,hzb];exact hk.2.symm⟩⟩
  ·refine AIt rfl (AHq (ACt (q_t (AId rfl (AH2 (q_t (ACu (ACv (AJq (fs:=1) AP3 (by kernel_rfl) (by decide) rfl (AIr ALq rfl (B4.cell (i:=0) rfl) ?_))))))))));rw [Bg];refine AHq (ACt (q_t (AIh rfl (AIo (AIq (Ae8 (by decide) (AIq (AJ5 (q_t (ACu (ACv (AHo (AMj rfl (AHq (ACt (q_t (AIo (AJ5 (q_t (ACu (ACv (AHo (AHo (AIa trivial rfl (AOz (!nb) HQ htq (by omega)) fun J3 J4 hk=>?_))))))))))))))))))))))));obtain ⟨Aq,Bh⟩:=hk;refine ⟨trivial,?_⟩;have J5:=Aq.1;have Gq:=B1.trans Aq;have Gr:=B3.trans Aq;have Gt:=B5.trans Aq;have Gu:=B6.trans Aq;have Gv:=B7.ext Aq;have Gw:=B8.trans Aq;have Gx:=B9.ext Aq;have J6:=Ca.ext Aq;have J7:=Cb.ext Aq;have HQ_279:=HQ.ext Aq;have HR_280:=HR.ext Aq;obtain ⟨Az,s7,L7,rfl,Bj,Bl,Bm,Bn⟩:=Bh.out;refine AHo (AIa trivial rfl (AOz false HR_280 htr (by omega)) fun J8 J9 hk=>?_);obtain ⟨Av,Bo⟩:=hk;refine ⟨trivial,?_⟩;have Ka:=Av.1;have Gy:=Gq.trans Av;have Gz:=Gr.trans Av;have G0:=Gt.trans Av;have G3:=Gu.trans Av;have G4:=Gv.ext Av;have G5:=Gw.trans Av;have G6:=Gx.ext Av;have HQ_295:=HQ_279.ext Av;have HR_296:=HR_280.ext Av;have C4:=Bj.ext Av;obtain ⟨A4,s8,L8,rfl,Bq,Br,Bt,Bu⟩:=Bo.out;refine AIw [.bool Az,s7] AH9 rfl rfl rfl rfl (ALx C4.cap) G4 fun Kb G7 Aw=>?_;have G8:=Gz.thenUpd Aw (fun k hk=>by have Ab:k=Ac:=hk;omega);have Kc:=Aw.1;have G9:=Gy.thenUpd Aw (fun k hk=>by have Ab:k=Ac:=hk;omega);have Cf:=G5.thenUpd Aw (fun k hk=>by have Ab:k=Ac:=hk;omega);have Ha:=G0.thenUpd Aw (fun k hk=>by have Ab:k=Ac:=hk;omega);have Hb:=G3.thenUpd Aw (fun k hk=>by have Ab:k=Ac:=hk;omega);have Hc:=G6.upd Aw (fun he=>(Ne.symm nebq20bq33) (he:Aa=Ac));have HQ_310:=HQ_295.updLo Aw (by omega);have HR_311:=HR_296.updLo Aw (by omega);have Hd:=C4.updLo Aw (by omega);have C5:=Bq.updLo Aw (by omega);refine AIw [.bool A4,s8] AH9 rfl rfl rfl rfl (ALx C5.cap) Hc fun Kd He Ak=>?_;have Hf:=G8.thenUpd Ak (fun k hk=>by have Ab:k=Aa:=hk;omega);have Ke:=Ak.1;have Kf:=G9.thenUpd Ak (fun k hk=>by have Ab:k=Aa:=hk;omega);have Kg:=(Be.ext Cf).upd Ak (fun he=>nebq1bq33 (he:A6=Aa));have Kh:=Ha.thenUpd Ak (fun k hk=>by have Ab:k=Aa:=hk;omega);have Ki:=(Bc.ext Cf).upd Ak (fun he=>nebq9bq33 (he:A7=Aa));have Kj:=Hb.thenUpd Ak (fun k hk=>by have Ab:k=Aa:=hk;omega);have Hg:=G7.upd Ak (fun he=>nebq20bq33 (he:Ac=Aa));have Kk:=Cf.thenUpd Ak (fun k hk=>by have Ab:k=Aa:=hk;omega);have HQ_326:=HQ_310.updLo Ak (by omega);have HR_327:=HR_311.updLo Ak (by omega);have Hh:=Hd.updLo Ak (by omega);have Hj:=C5.updLo Ak (by omega);refine AHq (ACt (q_t (AH1 (⟨_,ASg AH9 rfl rfl Hg AH9 rfl rfl He,?_⟩))));have hk:=Ak3 (nb:=nb) (A:=nv LA) Bf (by omega);have ea:a= -((nv LA:Nat):Int):=by rw [hza,Bg];rfl
   exact ⟨Hf,_,_,rfl,⟨Az,s7,L7,rfl,Hh.mono (by omega),Bl,Bm,by rw [<- Bn,hvq,ea,hzb];exact hk.1.symm⟩,⟨A4,s8,L8,rfl,Hj.mono (by omega),Br,Bt,by rw [<- Bu,hvr,ea,hzb];exact hk.2.symm⟩⟩
end Go.Proofs.YtmmckalinicpaaaGreatDoor.Ig
namespace Go.QF
open Go
section
variable {P:Program} {B:AHr->Prop} {st:Bool} {ops:Array Oper} {rest:List Oper} {e:Env} {h:AHr} {K:Env->AHr->Prop} {d:Nat} {ty:TypeId} {pos:String} {af:Array Edge}
theorem Aly {x y z:Operand} {t el er g lo hi:Nat} {v:Value} {l:List Value} {k1 k2:IntKind} (hT:SlT P t el 1) (hx:e.ev x=v) (HO:AK4 h er g v l) (hy:e.ev y= .int k1 (lo:Int)) (hz:e.ev z= .int k2 (hi:Int)) (hlt:lo < hi) (hle:hi<=l.length)
    (H:∀ c,RL P B st ops rest (e.set d (.slice (some ⟨g,lo,none⟩) (hi - lo) c)) h K):RL P B st ops (⟨some d,.slice t x (some y) (some z) none,ty,pos,af,none⟩ :: rest) e h K:=by
  obtain ⟨cap,cur,rfl,hg,h1,h2,h3,h4⟩:=HO;refine ALd (v:= .slice (some ⟨g,lo,none⟩) (hi - lo) (cap - lo)) rfl rfl (fun w=>?_) (H _);obtain ⟨hu,i,hi',hs⟩:=hT;have a4: ¬ cap=lo:=by omega
  simp [execOp,hx,hy,hz,Instr.sliceAt,Instr.slice,AOb hu,Instr.sliceBounds,Instr.sliceBound,asIntOf,a4,AP2 hi',hs,Addr.add];rw [if_pos (by omega),if_pos (by omega)]
  by_cases h0:lo=0
  · subst h0;simp
  · rw [if_neg h0]
theorem Ae4 {x i:Operand} {t el g o n c j:Nat} {k:IntKind} (hT:SlT P t el 1) (hx:e.ev x= .slice (some ⟨g,o,none⟩) n c) (hi:e.ev i= .int k (j:Int)) (hj:j < n)
    (H:RL P B st ops rest (e.set d (.pointer (some ⟨g,o + j,none⟩))) h K):RL P B st ops (⟨some d,.indexAddr t x i,ty,pos,af,none⟩ :: rest) e h K:=by
  refine Aiq hT hx hi (by omega) (by omega) ?_;have he:(⟨g,o,none⟩:Addr).add ((j:Int).toNat * 1)=⟨g,o + j,none⟩:=by rw [AMk];simp
  rw [he];exact H
end
end Go.QF
namespace Go.Proofs.YtmmckalinicpaaaGreatDoor.Ig
open Go Go.QF
set_option maxRecDepth 100000
theorem Anj {h:AHr} {la lb:Nat} {va vb:Value} {LA LB:List Nat} (HA:DS h la va LA) (HB:DS h lb vb LB) (hna:LA.length<=1000) (hnb:LB.length<=1000):AIj Tryz.prog 210 #[va,vb] h fun x h'=>Ext h h'/\ ∃ L,DS h' (Array.size h) x L/\TL L/\nv L=nv LA * nv LB/\L.length<=LA.length + LB.length + 2:=by
 refine AHx (l:=[_,_]) mx Tryz.func210 rfl rfl rfl rfl rfl (by kernel_rfl) (ACu (ACv (AHq (ACt (q_t (ACu (ACu (ACv (AHo (AJb AH7 rfl HA (AVl rfl rfl (fun Aw=>?_) (fun Aw=>?_))))))))))))
 ·refine AHo (AH3 15 true (by kernel_rfl) rfl rfl (AHo (AH3 15 true (by kernel_rfl) rfl rfl (AJb AH7 rfl HB (AH3 15 true (by kernel_rfl) rfl rfl (AVl rfl rfl (fun Ax=>?_) (fun Ax=>?_)))))))
  ·refine AIt rfl (ACt (q_t (AIh rfl (ACu (ACv (AHo (AIa trivial rfl (Ab7 HA (by omega)) fun x1 h hk=>?_)))))));obtain ⟨rfl,rfl⟩:=hk;refine ⟨trivial,?_⟩;refine AHo (AIa trivial rfl (Ab7 HB (by omega)) fun x2 h hk=>?_);obtain ⟨rfl,rfl⟩:=hk;refine ⟨trivial,?_⟩;have hm:=Ard HA.dig HB.dig (by omega) (by omega);refine Aff rfl rfl hm (AIa trivial rfl (AS9 (nv LA * nv LB) (by omega) _) fun x3 h4 hk=>?_);obtain ⟨E5,L1,Ay,Ak,Am,Av⟩:=hk;refine ⟨trivial,?_⟩;have Bo:=E5.1;have Z7:=(Ext.refl h).trans E5;refine AHq (ACt (q_t (AH1 (AIi (⟨_,AH5,?_⟩)))))
   first
   | exact ⟨E5,L1,Ay,Ak,Am,by omega⟩
   | exact ⟨E5,L2,HT.ds HDo.lo,htl,by rw [HT.val,hOv],by have:=HT.len;omega⟩
  ·refine AIt rfl (ACt (q_t (AId rfl (AH2 (q_t (ACu (ACv (AHo (AJb AH7 rfl HA (AHo (AJb AH7 rfl HB (ASu rfl rfl (by omega) (Acv (n:=LA.length + LB.length) AH7 AP6 (fun _=>trivial) rfl rfl (by decide) (by omega) fun g1 v1 h1 Ao E1 Az Av=>?_)))))))))))));have Bq:=E1.1;have Z9:=(Ext.refl h).trans E1;refine AHq (ACt (q_t (ACu (ACu (ACv (AHo (AJb AH7 rfl (HA.ext E1) (AHo (ACt (q_t (AHz (AIy 19342813113834049615433664 (fun y:Nat × List Nat=>[(34,.int .i64 (y.1:Int))]) (fun k y h'=>k=LA.length - y.1/\y.1<=LA.length/\Ext h h'/\g1 < Array.size h'/\AK4 h' 199 g1 v1 (y.2.map ARp)/\y.2.length=LA.length + LB.length/\Dig y.2/\nv y.2=nv (LA.take y.1) * nv LB/\ ∀ q,y.1 + LB.length<=q->q < LA.length + LB.length->y.2[q]? =some 0) (by kernel_rfl) LA.length (0,List.replicate (LA.length + LB.length) 0) ?_ ⟨rfl,trivial⟩ ?_))))))))))))
   ·exact ⟨rfl,Nat.zero_le _,E1,by omega,Ao,by simp,fun x hx=>by rw [(List.mem_replicate.1 hx).2];decide,by simp [nv,Acz],fun q hq A3=>by dsimp only;rw [List.getElem?_replicate];simp;omega⟩
   rintro k ⟨i,O⟩ s1 hq ⟨rfl,hi,XQ,hgq,Aa,hOl,hOd,hOv,hOz⟩;dsimp only at hi Aa hOl hOd hOv hOz ⊢;refine ACu (ACv (ALo rfl rfl (fun A4=>?_) (fun A4=>?_)))
   ·refine ACt (q_t (ACu (AIh rfl (AH2 (q_t (ACu (AHz (ACu ?_))))))));obtain ⟨x,hx⟩:∃ x,LA[i]? =some x:=⟨_,List.getElem?_eq_getElem (by omega)⟩;have hbx:=HA.dig x (List.mem_of_getElem? hx);refine ACv (AHo (AOd AH7 rfl (HA.ext XQ) rfl hx fun Bt A5=>AIr AJz rfl A5 (AHq (AHq (ACt (q_t (ACu (ACu (ACv (AHo (AVm rfl rfl (fun A6=>?_) (fun A6=>?_))))))))))))
    ·refine ACt (q_t (AIh rfl (AIo (AIq (AJ5 (q_t (ACv (AOw rfl (by omega) (AHo (ACt (q_t ?_)))))))))));exact ⟨LA.length - (i + 1),(i + 1,O),by first | omega | (dsimp only;omega),⟨rfl,by first | omega | (dsimp only;omega),XQ,by omega,Aa,hOl,hOd,by dsimp only;rw [hOv,AJf hx,show x=0 by omega];simp,fun q h1 h2=>hOz q (by dsimp only at h1;omega) h2⟩,rfl,trivial⟩
    ·refine ACt (q_t (AId rfl (AH2 (q_t (ACu (ACv (AHo (AHo (AHo (AHo (AJb AH7 rfl (HB.ext XQ) (ASu rfl rfl (by omega) (ASu (b:=1) rfl rfl (by omega) (Aly (lo:=i) (hi:=i + LB.length + 1) AH7 rfl Aa rfl rfl (by omega) (by rw [List.length_map];omega) fun cw=>?_))))))))))))));refine AHq (ACt (q_t (ACu (ACv (AHq (ACt (q_t (ACu (ACu (ACv (AHo (AJb AH7 rfl (HB.ext XQ) (AHo (ACt (q_t (AHz (AIy 151115725200028833156608 (fun y:Nat × Nat × List Nat=>[(51,.int .i64 (y.1:Int)),(9,.int .u64 (y.2.1:Int))]) (fun k y h'=>k=LB.length - y.1/\y.1<=LB.length/\Ext h h'/\g1 < Array.size h'/\AK4 h' 199 g1 v1 (y.2.2.map ARp)/\y.2.2.length=LA.length + LB.length/\Dig y.2.2/\y.2.1 < 4294967296/\nv y.2.2 + 4294967296 ^ (i + y.1) * y.2.1=nv (LA.take i) * nv LB + 4294967296 ^ i * (x * nv (LB.take y.1))/\ ∀ q,i + LB.length<=q->q < LA.length + LB.length->y.2.2[q]? =some 0) (by kernel_rfl) LB.length (0,0,O) ?_ ⟨rfl,rfl,trivial⟩ ?_)))))))))))))))))
     ·exact ⟨rfl,Nat.zero_le _,XQ,by omega,Aa,hOl,hOd,by dsimp only;omega,by simp [nv,hOv],hOz⟩
     rintro k ⟨j,c,O⟩ s2 hp ⟨rfl,hj,XQ,hgq,Aa,hOl,hOd,hc,hOv,hOz⟩;dsimp only at hj Aa hOl hOd hc hOv hOz ⊢;refine ACu (ACv (ALo rfl rfl (fun A7=>?_) (fun A7=>?_)))
     ·refine ACt (q_t (ACu (AIh rfl (AH2 (q_t (ACu (AHz (ACu ?_))))))));obtain ⟨y,hy⟩:∃ x,LB[j]? =some x:=⟨_,List.getElem?_eq_getElem (by omega)⟩;have hby:=HB.dig y (List.mem_of_getElem? hy);obtain ⟨ov,hov⟩:∃ x,O[i + j]? =some x:=⟨_,List.getElem?_eq_getElem (by omega)⟩;have hbo:=hOd ov (List.mem_of_getElem? hov);have htb:=Afg hc hbx hby hbo;have hxy:x * y<=4294967295 * 4294967295:=Nat.mul_le_mul (by omega) (by omega);refine ACv (AHo (AOd AH7 rfl (HB.ext XQ) rfl hy fun Bu A8=>AIr AJz rfl A8 (AHq (AHq (ACt (q_t (ACu (ACv (AHo (AHo (AU6 AKm AKa rfl hbx (AHo (AU6 AKm AKa rfl hby (Aff rfl rfl (by omega) (AHo (AHo (Ae4 AH7 rfl rfl (by omega) (AIr AJz rfl (AK4.cell Aa (AUt hov)) (AU6 AKm AKa rfl hbo (ASh rfl rfl (by omega) (ASh rfl rfl (by omega) ?_)))))))))))))))))))));refine AHq (ACt (q_t (ACu (ACv (AHo (AHo (AHo (AWu AKa AKm rfl (Ae4 AH7 rfl rfl (by omega) (AWt (O.set (i + j) ((c + (x * y + ov)) % 4294967296)) AJz rfl rfl Aa (by omega) rfl fun h4 Ap U4=>?_))))))))));have Bv:=U4.1;have A9:=XQ.thenUpd U4 (fun k hk=>by have Aq:k=g1:=hk;omega);refine ACt (q_t (ACv (AHo (AV5 rfl rfl (AHq (ACt (q_b (q_t (ACv (AOw rfl (by omega) (AHo (ACt (q_t ?_)))))))))))));exact ⟨LB.length - (j + 1),(j + 1,(c + (x * y + ov)) / 4294967296,O.set (i + j) ((c + (x * y + ov)) % 4294967296)),by first | omega | (dsimp only;omega),⟨rfl,by first | omega | (dsimp only;omega),A9,by omega,Ap,by simp [hOl],AUu hOd (Nat.mod_lt _ (by decide)),by dsimp only;exact Nat.div_lt_of_lt_mul htb,by dsimp only;rw [AJf hy];exact Acw (Pi:=0) (AXc _ hov) hOv (Nat.mod_add_div _ _),fun q h1 h2=>by dsimp only;rw [List.getElem?_set_ne (by omega)];exact hOz q h1 h2⟩,rfl,rfl,trivial⟩
     ·refine ACt (q_t (ACu (AId rfl (AIo (AIq (AIq (AJ5 (q_t ?_))))))));obtain rfl:j=LB.length:=by omega
      refine ACv (AHo (AHo (AJb AH7 rfl (HB.ext XQ) (AHo (AWu AKa AKm rfl ?_)))));rw [Nat.mod_eq_of_lt hc];refine Ae4 AH7 rfl rfl (by omega) (AWt (O.set (i + LB.length) (c)) AJz rfl rfl Aa (by omega) rfl fun h5 Ar U5=>?_);have Bw:=U5.1;have Bb:=XQ.thenUpd U5 (fun k hk=>by have Aq:k=g1:=hk;omega);refine ACt (q_b (q_t (ACv (AOw rfl (by omega) (AHo (ACt (q_t ?_)))))));exact ⟨LA.length - (i + 1),(i + 1,O.set (i + LB.length) c),by first | omega | (dsimp only;omega),⟨rfl,by first | omega | (dsimp only;omega),Bb,by omega,Ar,by simp [hOl],AUu hOd hc,by dsimp only;have h1:=AXc c (hOz (i + LB.length) (Nat.le_refl _) (by omega));rw [Nat.mul_zero,Nat.add_zero] at h1;rw [h1,hOv,List.take_length,AJf hx,Nat.add_mul,Nat.mul_assoc],fun q h1 h2=>by dsimp only;rw [List.getElem?_set_ne (by omega)];exact hOz q (by omega) h2⟩,rfl,trivial⟩
   ·refine ACt (q_t (ACu (AId rfl (AIo (AIq (AIq (AJ5 (q_t (ACu ?_)))))))));obtain rfl:i=LA.length:=by omega
    rw [List.take_length] at hOv;have HDo:=Aa.ds (lo:=Array.size h) hOd (by omega);refine ACv (AHo (AIa trivial rfl (AQu (DS.mono HDo (Nat.zero_le _)) (by omega)) fun Bx hq hk=>?_));obtain ⟨rfl,L2,HT,htl⟩:=hk;refine ⟨trivial,?_⟩;refine AHq (ACt (q_t (AH1 (⟨_,AH5,?_⟩))))
    first
    | exact ⟨XQ,L1,lacks_HD1,Ak,Am,by omega⟩
    | exact ⟨XQ,L2,HT.ds HDo.lo,htl,by rw [HT.val,hOv],by have:=HT.len;omega⟩
 ·refine AHo (AH0 15 false (by kernel_rfl) rfl rfl (AH0 15 false (by kernel_rfl) rfl rfl (AH0 15 false (by kernel_rfl) rfl rfl (AIv rfl (ACt (q_t (AId rfl (AH2 (q_t (ACu (ACv (AHo (AJb AH7 rfl HA (AHo (AJb AH7 rfl HB (ASu rfl rfl (by omega) (Acv (n:=LA.length + LB.length) AH7 AP6 (fun _=>trivial) rfl rfl (by decide) (by omega) fun g1 v1 h1 Ao E1 Az Av=>?_)))))))))))))))));have By:=E1.1;have Bz:=(Ext.refl h).trans E1;refine AHq (ACt (q_t (ACu (ACu (ACv (AHo (AJb AH7 rfl (HA.ext E1) (AHo (ACt (q_t (AHz (AIy 19342813113834049615433664 (fun y:Nat × List Nat=>[(34,.int .i64 (y.1:Int))]) (fun k y h'=>k=LA.length - y.1/\y.1<=LA.length/\Ext h h'/\g1 < Array.size h'/\AK4 h' 199 g1 v1 (y.2.map ARp)/\y.2.length=LA.length + LB.length/\Dig y.2/\nv y.2=nv (LA.take y.1) * nv LB/\ ∀ q,y.1 + LB.length<=q->q < LA.length + LB.length->y.2[q]? =some 0) (by kernel_rfl) LA.length (0,List.replicate (LA.length + LB.length) 0) ?_ ⟨rfl,trivial⟩ ?_))))))))))))
  ·exact ⟨rfl,Nat.zero_le _,E1,by omega,Ao,by simp,fun x hx=>by rw [(List.mem_replicate.1 hx).2];decide,by simp [nv,Acz],fun q hq A3=>by dsimp only;rw [List.getElem?_replicate];simp;omega⟩
  rintro k ⟨i,O⟩ s1 hq ⟨rfl,hi,XQ,hgq,Aa,hOl,hOd,hOv,hOz⟩;dsimp only at hi Aa hOl hOd hOv hOz ⊢;refine ACu (ACv (ALo rfl rfl (fun Bc=>?_) (fun Bc=>?_)))
  ·refine ACt (q_t (ACu (AIh rfl (AH2 (q_t (ACu (AHz (ACu ?_))))))));obtain ⟨x,hx⟩:∃ x,LA[i]? =some x:=⟨_,List.getElem?_eq_getElem (by omega)⟩;have hbx:=HA.dig x (List.mem_of_getElem? hx);refine ACv (AHo (AOd AH7 rfl (HA.ext XQ) rfl hx fun B1 Be=>AIr AJz rfl Be (AHq (AHq (ACt (q_t (ACu (ACu (ACv (AHo (AVm rfl rfl (fun Bf=>?_) (fun Bf=>?_))))))))))))
   ·refine ACt (q_t (AIh rfl (AIo (AIq (AJ5 (q_t (ACv (AOw rfl (by omega) (AHo (ACt (q_t ?_)))))))))));exact ⟨LA.length - (i + 1),(i + 1,O),by first | omega | (dsimp only;omega),⟨rfl,by first | omega | (dsimp only;omega),XQ,by omega,Aa,hOl,hOd,by dsimp only;rw [hOv,AJf hx,show x=0 by omega];simp,fun q h1 h2=>hOz q (by dsimp only at h1;omega) h2⟩,rfl,trivial⟩
   ·refine ACt (q_t (AId rfl (AH2 (q_t (ACu (ACv (AHo (AHo (AHo (AHo (AJb AH7 rfl (HB.ext XQ) (ASu rfl rfl (by omega) (ASu (b:=1) rfl rfl (by omega) (Aly (lo:=i) (hi:=i + LB.length + 1) AH7 rfl Aa rfl rfl (by omega) (by rw [List.length_map];omega) fun cw=>?_))))))))))))));refine AHq (ACt (q_t (ACu (ACv (AHq (ACt (q_t (ACu (ACu (ACv (AHo (AJb AH7 rfl (HB.ext XQ) (AHo (ACt (q_t (AHz (AIy 151115725200028833156608 (fun y:Nat × Nat × List Nat=>[(51,.int .i64 (y.1:Int)),(9,.int .u64 (y.2.1:Int))]) (fun k y h'=>k=LB.length - y.1/\y.1<=LB.length/\Ext h h'/\g1 < Array.size h'/\AK4 h' 199 g1 v1 (y.2.2.map ARp)/\y.2.2.length=LA.length + LB.length/\Dig y.2.2/\y.2.1 < 4294967296/\nv y.2.2 + 4294967296 ^ (i + y.1) * y.2.1=nv (LA.take i) * nv LB + 4294967296 ^ i * (x * nv (LB.take y.1))/\ ∀ q,i + LB.length<=q->q < LA.length + LB.length->y.2.2[q]? =some 0) (by kernel_rfl) LB.length (0,0,O) ?_ ⟨rfl,rfl,trivial⟩ ?_)))))))))))))))))
    ·exact ⟨rfl,Nat.zero_le _,XQ,by omega,Aa,hOl,hOd,by dsimp only;omega,by simp [nv,hOv],hOz⟩
    rintro k ⟨j,c,O⟩ s2 hp ⟨rfl,hj,XQ,hgq,Aa,hOl,hOd,hc,hOv,hOz⟩;dsimp only at hj Aa hOl hOd hc hOv hOz ⊢;refine ACu (ACv (ALo rfl rfl (fun Bg=>?_) (fun Bg=>?_)))
    ·refine ACt (q_t (ACu (AIh rfl (AH2 (q_t (ACu (AHz (ACu ?_))))))));obtain ⟨y,hy⟩:∃ x,LB[j]? =some x:=⟨_,List.getElem?_eq_getElem (by omega)⟩;have hby:=HB.dig y (List.mem_of_getElem? hy);obtain ⟨ov,hov⟩:∃ x,O[i + j]? =some x:=⟨_,List.getElem?_eq_getElem (by omega)⟩;have hbo:=hOd ov (List.mem_of_getElem? hov);have htb:=Afg hc hbx hby hbo;have hxy:x * y<=4294967295 * 4294967295:=Nat.mul_le_mul (by omega) (by omega);refine ACv (AHo (AOd AH7 rfl (HB.ext XQ) rfl hy fun B3 Bh=>AIr AJz rfl Bh (AHq (AHq (ACt (q_t (ACu (ACv (AHo (AHo (AU6 AKm AKa rfl hbx (AHo (AU6 AKm AKa rfl hby (Aff rfl rfl (by omega) (AHo (AHo (Ae4 AH7 rfl rfl (by omega) (AIr AJz rfl (AK4.cell Aa (AUt hov)) (AU6 AKm AKa rfl hbo (ASh rfl rfl (by omega) (ASh rfl rfl (by omega) ?_)))))))))))))))))))));refine AHq (ACt (q_t (ACu (ACv (AHo (AHo (AHo (AWu AKa AKm rfl (Ae4 AH7 rfl rfl (by omega) (AWt (O.set (i + j) ((c + (x * y + ov)) % 4294967296)) AJz rfl rfl Aa (by omega) rfl fun h4 Ap U4=>?_))))))))));have B4:=U4.1;have Bi:=XQ.thenUpd U4 (fun k hk=>by have Aq:k=g1:=hk;omega);refine ACt (q_t (ACv (AHo (AV5 rfl rfl (AHq (ACt (q_b (q_t (ACv (AOw rfl (by omega) (AHo (ACt (q_t ?_)))))))))))));exact ⟨LB.length - (j + 1),(j + 1,(c + (x * y + ov)) / 4294967296,O.set (i + j) ((c + (x * y + ov)) % 4294967296)),by first | omega | (dsimp only;omega),⟨rfl,by first | omega | (dsimp only;omega),Bi,by omega,Ap,by simp [hOl],AUu hOd (Nat.mod_lt _ (by decide)),by dsimp only;exact Nat.div_lt_of_lt_mul htb,by dsimp only;rw [AJf hy];exact Acw (Pi:=0) (AXc _ hov) hOv (Nat.mod_add_div _ _),fun q h1 h2=>by dsimp only;rw [List.getElem?_set_ne (by omega)];exact hOz q h1 h2⟩,rfl,rfl,trivial⟩
    ·refine ACt (q_t (ACu (AId rfl (AIo (AIq (AIq (AJ5 (q_t ?_))))))));obtain rfl:j=LB.length:=by omega
     refine ACv (AHo (AHo (AJb AH7 rfl (HB.ext XQ) (AHo (AWu AKa AKm rfl ?_)))));rw [Nat.mod_eq_of_lt hc];refine Ae4 AH7 rfl rfl (by omega) (AWt (O.set (i + LB.length) (c)) AJz rfl rfl Aa (by omega) rfl fun h5 Ar U5=>?_);have B5:=U5.1;have Bj:=XQ.thenUpd U5 (fun k hk=>by have Aq:k=g1:=hk;omega);refine ACt (q_b (q_t (ACv (AOw rfl (by omega) (AHo (ACt (q_t ?_)))))));exact ⟨LA.length - (i + 1),(i + 1,O.set (i + LB.length) c),by first | omega | (dsimp only;omega),⟨rfl,by first | omega | (dsimp only;omega),Bj,by omega,Ar,by simp [hOl],AUu hOd hc,by dsimp only;have h1:=AXc c (hOz (i + LB.length) (Nat.le_refl _) (by omega));rw [Nat.mul_zero,Nat.add_zero] at h1;rw [h1,hOv,List.take_length,AJf hx,Nat.add_mul,Nat.mul_assoc],fun q h1 h2=>by dsimp only;rw [List.getElem?_set_ne (by omega)];exact hOz q (by omega) h2⟩,rfl,trivial⟩
  ·refine ACt (q_t (ACu (AId rfl (AIo (AIq (AIq (AJ5 (q_t (ACu ?_)))))))));obtain rfl:i=LA.length:=by omega
   rw [List.take_length] at hOv;have HDo:=Aa.ds (lo:=Array.size h) hOd (by omega);refine ACv (AHo (AIa trivial rfl (AQu (DS.mono HDo (Nat.zero_le _)) (by omega)) fun B6 hq hk=>?_));obtain ⟨rfl,L2,HT,htl⟩:=hk;refine ⟨trivial,?_⟩;refine AHq (ACt (q_t (AH1 (⟨_,AH5,?_⟩))))
   first
   | exact ⟨XQ,L1,lacks_HD1,Ak,Am,by omega⟩
   | exact ⟨XQ,L2,HT.ds HDo.lo,htl,by rw [HT.val,hOv],by have:=HT.len;omega⟩
theorem MulZ_ok {h:AHr} {la lb:Nat} {va vb:Value} {a b:Int} (HA:ZV h la va a) (HB:ZV h lb vb b) (hab:a.natAbs * b.natAbs < 4294967296 ^ 100):AIj Tryz.prog 179 #[va,vb] h fun x h'=>Ext h h'/\ZV h' (Array.size h) x (a * b):=by
 obtain ⟨na,sa,LA,rfl,HDa,htla,hla,hza⟩:=HA.out;obtain ⟨nb,sb,LB,rfl,HDb,htlb,hlb,hzb⟩:=HB.out;refine AHx (l:=[_,_]) mx Tryz.func179 rfl rfl rfl rfl rfl (by kernel_rfl) (ACu (ACv (AN1 [.bool na,sa] (fun _=>trivial) rfl rfl fun Ak h2 V3 E4 Bb Ce=>?_)));have Cf:Array.size h<=Ak:=Bb;have Cg:=E4.1;have Z8:=(Ext.refl h).trans E4;refine AN1 [.bool nb,sb] (fun _=>trivial) rfl rfl fun Am Ch Av Ag Be Ci=>?_;have Cj:Array.size h<=Am:=Nat.le_trans E4.1 Be;have nebq1bq9:Ak≠Am:=by have:=V3.lt;omega
 have Ck:=Ag.1;have Aw:=E4.trans Ag;have Ax:=V3.ext Ag;refine ALw [.bool false,.slice none 0 0] ALz rfl (fun _=>trivial) fun Ac Ai Bf Ad Bg Cm=>?_;have Cn:Array.size h<=Ac:=Nat.le_trans Aw.1 Bg;have nebq1bq20:Ak≠Ac:=by have:=Ax.lt;omega
 have nebq9bq20:Am≠Ac:=by have:=Av.lt;omega
 have Co:=Ad.1;have Bh:=(Z8.trans Ag).trans Ad;have Ao:=Aw.trans Ad;have Ay:=Ax.ext Ad;have Bi:=(E4.trans Ag).trans Ad;have Az:=Av.ext Ad;have Bj:=Ag.trans Ad;refine ACt (q_t (ACu (AKf (fun h'=>Ext Ai h') (by kernel_rfl) ?_)));have Aa:=Ext.refl Ai;refine AJq (fs:=1) AP3 (by kernel_rfl) (by decide) rfl (AK1 ALq rfl Aa (fun h' hb=>(Ay.ext hb).cell (i:=0) rfl) (AJq (fs:=1) AP3 (by kernel_rfl) (by decide) rfl (AK1 ALq rfl Aa (fun h' hb=>(Az.ext hb).cell (i:=0) rfl) (AZb AXy rfl rfl (AJq (fs:=1) AQd (by kernel_rfl) (by decide) rfl (AK1 ANk rfl Aa (fun h' hb=>(Ay.ext hb).cell (i:=1) rfl) (AIa Aa rfl (AQu (DS.mono (HDa.ext Ao) (Nat.zero_le _)) (by omega)) fun Cp Ai hk=>?_)))))));obtain ⟨rfl,L1,Ap,Cr⟩:=hk;refine ⟨Aa,?_⟩;have Bl:=Ap.ds (lo:=la) HDa.lo;have A3:=Ap.val;have Ct:=Ap.len;refine AJq (fs:=1) AQd (by kernel_rfl) (by decide) rfl (AK1 ANk rfl Aa (fun h' hb=>(Az.ext hb).cell (i:=1) rfl) (AIa Aa rfl (AQu (DS.mono (HDb.ext Ao) (Nat.zero_le _)) (by omega)) fun Cu Ai hk=>?_));obtain ⟨rfl,L2,Aq,Cw⟩:=hk;refine ⟨Aa,?_⟩;have Bm:=Aq.ds (lo:=lb) HDb.lo;have A4:=Aq.val;have Cx:=Aq.len;refine AIa Aa rfl (Anj Bl Bm (by omega) (by omega)) fun Cy Cz hk=>?_;obtain ⟨Ae,L4,A5,A6,A7,C1⟩:=hk;have Ar:=Aa.trans Ae;refine ⟨Ar,?_⟩;have C2:=Ae.1;have Bn:=Bh.trans Ae;have Bo:=Ao.trans Ae;have Bp:=Bi.trans Ae;have Bq:=Bj.trans Ae;have Br:=Bf.ext Ae;have Bt:=Ad.trans Ae;refine AIa Ar rfl (AOz (!(na == nb)) A5 A6 (AQl A6 (by rw [A7,A3,A4,<- AL0 hza,<- AL0 hzb];exact hab))) fun C3 C4 hk=>?_;obtain ⟨Ab,Bu⟩:=hk;have Bv:=Ar.trans Ab;refine ⟨Bv,?_⟩;have C5:=Ab.1;have Bw:=Bn.trans Ab;have Bx:=Bo.trans Ab;have By:=Bp.trans Ab;have Bz:=Bq.trans Ab;have B1:=Br.ext Ab;have B3:=Bt.trans Ab;have B4:=A5.ext Ab;obtain ⟨A8,s3,L3,rfl,Ba,B6,B7,B8⟩:=Bu.out;refine AIw [.bool A8,s3] AH9 rfl rfl rfl rfl (ALx Ba.cap) B1 fun C6 B9 Af=>?_;have Ca:=Bx.thenUpd Af (fun k hk=>by have Aj:k=Ac:=hk;omega);have C7:=Af.1;have C8:=Bw.thenUpd Af (fun k hk=>by have Aj:k=Ac:=hk;omega);have C9:=B3.thenUpd Af (fun k hk=>by have Aj:k=Ac:=hk;omega);have Da:=By.thenUpd Af (fun k hk=>by have Aj:k=Ac:=hk;omega);have Db:=Bz.thenUpd Af (fun k hk=>by have Aj:k=Ac:=hk;omega);have Dc:=B4.updLo Af (by omega);have Cb:=Ba.updLo Af (by omega);refine ACt (q_t (AH1 (⟨_,AJ7 AH9 rfl rfl B9,?_⟩)));exact ⟨Ca,⟨A8,s3,L3,rfl,Cb.mono (by omega),B6,B7,by rw [<- B8,A7,A3,A4,hza,hzb,Afj]⟩⟩
end Go.Proofs.YtmmckalinicpaaaGreatDoor.Ig
namespace Go.Proofs.YtmmckalinicpaaaGreatDoor
open Go Go.QF
def Auw (fuel:Nat) (a b:Int):Option Int:=if a.natAbs < AL1/\b.natAbs < AL1 then some (a - b) else none
def Alz (fuel:Nat) (a b:Int):Option Int:=if a.natAbs * b.natAbs < AL1 then some (a * b) else none
def AXn (fuel:Nat) (a b:Int):Option (Int × Int × Bool):=if a.natAbs < 18446744073709551616/\b.natAbs < 18446744073709551616/\b≠0 then some (a / b,a % b,true) else none
def Aux (fuel:Nat) (a:Int):Option Int:=some (-a)
def AXo (fuel:Nat) (a:Int):Option Int:=some a
def Ab8 (fuel:Nat) (a:Int):Option Int:=if -9223372036854775808<=a/\a<=9223372036854775807 then some a else none
def Adn (fuel:Nat) (a:Int):Option Int:=some (AMa a)
theorem Awm {fuel:Nat} {h:AHr} {u v:Value} {a b r:Int} (H1:ZZ h u a) (H2:ZZ h v b) (hp:Auw fuel a b=some r):AIj Tryz.prog 203 #[u,v] h (fun x h'=>Ext h h'/\ ∃ (x0:Value),x=x0/\ZZ h' x0 r):=by
 obtain ⟨⟨h1,h2⟩,hp⟩:=ifN hp;cases hp;exact (Ig.Sub_ok H1 H2 h1 h2).mono fun x h' hk=>⟨hk.1,x,rfl,hk.2.zz⟩
theorem Aj4 {fuel:Nat} {h:AHr} {u v:Value} {a b r:Int} (H1:ZZ h u a) (H2:ZZ h v b) (hp:Alz fuel a b=some r):AIj Tryz.prog 179 #[u,v] h (fun x h'=>Ext h h'/\ ∃ (x0:Value),x=x0/\ZZ h' x0 r):=by
 obtain ⟨h1,hp⟩:=ifN hp;cases hp;exact (Ig.MulZ_ok H1 H2 (Apz h1)).mono fun x h' hk=>⟨hk.1,x,rfl,hk.2.zz⟩
theorem Awn {fuel:Nat} {h:AHr} {u:Value} {a r:Int} (H1:ZZ h u a) (hp:Aux fuel a=some r):AIj Tryz.prog 204 #[u] h (fun x h'=>Ext h h'/\ ∃ (x0:Value),x=x0/\ZZ h' x0 r):=by
 cases hp;exact (Ig.Neg_ok H1).mono fun x h' hk=>⟨hk.1,x,rfl,hk.2.zz⟩
theorem AZ5 {fuel:Nat} {h:AHr} {u:Value} {a r:Int} (H1:ZZ h u a) (hp:AXo fuel a=some r):AIj Tryz.prog 176 #[u] h (fun x h'=>Ext h h'/\ ∃ (x0:Value),x=x0/\ZZ h' x0 r):=by
 cases hp;exact (Ig.Normalize_ok H1).mono fun x h' hk=>⟨hk.1,x,rfl,hk.2.zz⟩
theorem Ado {fuel:Nat} {h:AHr} {a r:Int} (hp:Ab8 fuel a=some r):AIj Tryz.prog 172 #[.int .i64 a] h (fun x h'=>Ext h h'/\ ∃ (x0:Value),x=x0/\ZZ h' x0 r):=by
 obtain ⟨h1,hp⟩:=ifN hp;cases hp;exact (Ig.Small_ok h1 h).mono fun x h' hk=>⟨hk.1,x,rfl,hk.2.zz⟩
theorem Ab9 {fuel:Nat} {h:AHr} {u:Value} {a r:Int} (H1:ZZ h u a) (hp:Adn fuel a=some r):AIj Tryz.prog 175 #[u] h (fun x h'=>Ext h h'/\x= .int .i64 r):=by
 cases hp;exact Ig.Sign_ok H1
theorem Aa4 {fuel:Nat} {h:AHr} {u v:Value} {a b:Int} {r:Int × Int × Bool} (H1:ZZ h u a) (H2:ZZ h v b) (hp:AXn fuel a b=some r):AIj Tryz.prog 178 #[u,v] h (fun x h'=>Ext h h'/\ ∃ (x0:Value) (x1:Value),x= .tuple #[x0,x1,.bool r.2.2]/\ZZ h' x0 r.1/\ZZ h' x1 r.2.1):=by
 obtain ⟨⟨h1,h2,h3⟩,hp⟩:=ifN hp;cases hp;exact (Ig.DivMod2_ok H1 H2 h1 h2 h3).mono fun x h' ⟨E,q,r,hx,hq,hr⟩=>⟨E,q,r,hx,hq.zz,hr.zz⟩
end Go.Proofs.YtmmckalinicpaaaGreatDoor
namespace Go.QF
open Go
section
variable {P:Program} {B:AHr->Prop} {st:Bool} {ops:Array Oper} {rest:List Oper} {e:Env} {h:AHr} {K:Env->AHr->Prop}
variable {d d':Nat} {ty ty':TypeId} {pos pos':String} {af af':Array Edge}
theorem Are {x y:Operand} {t t2:TypeId} {k k':IntKind} {a n:Int} (hx:e.ev x= .int k a) (hy:e.ev y= .int k' n) (hn:0<=n/\n<=k.bits) (H:RL P B st ops rest (e.set d (.int k (k.wrap (a * 2 ^ n.toNat)))) h K):
    RL P B st ops (⟨some d,.binOp .shl t x y t2,ty,pos,af,none⟩ :: rest) e h K:=by
 obtain ⟨m,rfl⟩:∃ m:Nat,n=m:=⟨n.toNat,by omega⟩;rw [Int.toNat_natCast] at H;exact Acr hx hy (by omega) H
end
end Go.QF
namespace Go.QF
open Go
theorem Adp {P:Program} {e:Env} {h:AHr} {t u q:Tmp} {ty s tb b:Nat} {l:List Value} (ht:AgT P ty s) (hl:l.length=s) (he:e t= .pointer (some ⟨b,0,none⟩)) (HB:AI1 tb h b l):Adx P [.tmp u,.cell t ty,.tmp q] e h (.tuple #[e u,.agg l.toArray,e q]):=
  fun fn tmps w hr hg hw=>by
    have h1:tmps[t]?.getD undef= .pointer (some ⟨b,0,none⟩):=by rw [<- Array.getD_eq_getD_getElem?,hg];exact he
    have h2:=AQ8 ht hl w (a:=⟨b,0,none⟩) (by rw [hw];exact HB.agg)
    rw [<- hg u,<- hg q]
    simp only [results,hr]
    simp [h1,asAddr,h2]
theorem Ah9 {v:Value} (h:isOne v=true):v.cells=[v].toArray:=by cases v <;> first | rfl | cases h
section
variable {P:Program} {B:AHr->Prop} {st:Bool} {ops:Array Oper} {rest:List Oper} {e:Env} {h:AHr} {K:Env->AHr->Prop} {d:Nat} {ty:TypeId} {pos:String} {af:Array Edge}
theorem Awo {t el bytes:Nat} {z:Value} {y:Operand} {a:Int} {cs:List Value} (hT:SlT P t el 2) (hz:ZeT P el z bytes) (hel:Nat.beq el 199=false) (hb:B h) (hBE:∀ h',Ext h h'->B h') (hr:cZ.rep h a cs) (hy:e.ev y= .agg cs.toArray)
    (H:∀ b v h',OwC cZ el h' [b] v [a]->Ext h h'->h.size<=b->b < h'.size->RL P B st ops rest (e.set d v) h' K):RL P B st ops (⟨some d,.buildSlice t 1 #[(0,y)],ty,pos,af,none⟩ :: rest) e h K:=by
 have hl:=cZ.klen hr;have E:Ext h (h.push (.cells cs.toArray el (0,0))):=AK2 _ _;refine Axh cs hT hz hb hy hl (by decide) (by decide) ⟨hBE _ E,H h.size _ _ (.inr ⟨h.size,[cs],rfl,⟨1,cs.toArray,rfl,by simp,by simp,by decide,by simp [hl],fun r hr=>by rw [List.mem_singleton.1 hr];exact hl,?_⟩,⟨rfl,fun i cs' a' h1 h2=>?_⟩,hel⟩) E (Nat.le_refl _) (by simp)⟩
 ·have h2:cs.length=cZ.k:=hl;simp [<- h2]
 ·cases i with
  | zero=>simp at h1 h2;subst h1;subst h2;exact cZ.upT hr E.upT
  | succ i=>simp at h1
theorem Awp {κ:IntKind} {t el bytes n:Nat} {z:Value} {parts:List (Nat × Operand)} (L:List Int) (hT:SlT P t el 1) (hz:ZeT P el z bytes) (h1:isOne z=true) (hel:Nat.beq el 199=false) (hb:B h) (hBE:∀ h',Ext h h'->B h') (hn:L.length=n) (Ab:Nat.ble n 16777216=true) (hpos:Nat.ble 1 n=true) (hp:(parts.map fun (i,x)=>(i,e.ev x))=partsOf 0 (L.map (.int κ)))
    (H:∀ b v h',OwC (cI κ) el h' [b] v L->Ext h h'->h.size<=b->b < h'.size->RL P B st ops rest (e.set d v) h' K):RL P B st ops (⟨some d,.buildSlice t n parts.toArray,ty,pos,af,none⟩ :: rest) e h K:=by
 have Ab:=Nat.le_of_ble_eq_true Ab;have E:Ext h (h.push (.cells (L.map (Value.int κ)).toArray el (0,0))):=AK2 _ _;refine Au3 (L.map (.int κ)) hT hz h1 hb (by rw [List.length_map];exact hn) Ab (Nat.le_of_ble_eq_true hpos) hp (fun u hu=>?_) ⟨hBE _ E,H h.size _ _ (.inr ⟨h.size,L.map fun a=>[.int κ a],rfl,⟨n,(L.map (Value.int κ)).toArray,by rw [List.length_map,hn],by simp,by simp [hn],by unfold maxLen;omega,by show _=n * 1;simp [hn],fun r hr=>?_,?_⟩,⟨by simp,fun i cs a h1 h2=>?_⟩,hel⟩) E (Nat.le_refl _) (by simp)⟩
 ·obtain ⟨a,_,rfl⟩:=List.mem_map.1 hu;rfl
 ·obtain ⟨a,_,rfl⟩:=List.mem_map.1 hr;rfl
 ·have:(L.map fun a=>[Value.int κ a]).flatten=L.map (Value.int κ):=by
    clear H E hp hn Ab
    induction L with
    | nil=>rfl
    | cons a L ih=>simp [ih]
  rw [this,List.take_of_length_le (by show _<=_ * 1;simp)]
 ·rw [List.getElem?_map,h2] at h1;injection h1 with h1;exact h1.symm
theorem Arf {α:Type} {c:Cod α} {s x:Operand} {t er el:Nat} {F:List Nat} {Gs:List (List Nat)} {rs:List Value} {v r xv:Value} {M:List (List α)} {m:Int} {L L':List α} (hT:SlT P t el c.k) (hB:B h) (hs:e.ev s=r) (hx:e.ev x=xv) (HO:AI4 c er el h F Gs rs v M) (hr:rs[m.toNat]? =some r) (hL:gI M m=some L) (HX:SlC c h xv L') (hn0:L'.length=L.length/\0 < L.length)
    (H:∀ h',AI4 c er el h' F Gs rs v (sI M m L')->UpT F h h'->B h'/\RL P B st ops rest (e.set d (.int .i64 (.ofNat L.length))) h' K):RL P B st ops (⟨some d,.call ⟨.builtin .copy,#[s,x],#[t,t]⟩,ty,pos,af,none⟩ :: rest) e h K:=by
  obtain ⟨hlen,hpos⟩:=hn0;obtain ⟨i,rfl,hm0⟩:=APd hL;clear hL;have hL:=hm0;rw [Int.toNat_natCast] at hr;have hnd:=HO.notD;obtain ⟨G,hG,HR,hGF⟩:=HO.row hr hL
  rcases HO with ⟨rfl,_⟩ | ⟨b',hF',hn,h2,h3,h4,h5,h6⟩
  · simp at hL
  rcases HR with ⟨rfl,_,_⟩ | ⟨g,Ls,rfl,hk2,hk3,hk4⟩
  · simp at hpos
  obtain ⟨Ls',⟨xa,xc,hxv,hxc⟩,HA⟩:=HX;have hLs':Ls'.length=L.length:=HA.1.trans hlen;have hLs:Ls.length=L.length:=hk3.1
  have hk:∀ q∈Ls',q.length=c.k:=fun q hq=>by
    obtain ⟨j,hj⟩:=List.getElem?_of_mem hq;have hjl:=(List.getElem?_eq_some_iff.1 hj).1;exact c.klen (HA.2 j q (L'[j]'(by rw [<- HA.1];exact hjl)) hj (List.getElem?_eq_getElem _))
  have hone:∀ u∈Ls'.flatten,u.oneCell'=true:=fun u hu=>by
    obtain ⟨q,hq,huq⟩:=List.mem_flatten.1 hu;obtain ⟨j,hj⟩:=List.getElem?_of_mem hq;have hjl:=(List.getElem?_eq_some_iff.1 hj).1;have:=c.one (HA.2 j q (L'[j]'(by rw [<- HA.1];exact hjl)) hj (List.getElem?_eq_getElem _)) u huq;cases u <;> first | rfl | cases this
  obtain ⟨r0,hr0⟩:∃ r0,Ls'[0]? =some r0:=⟨Ls'[0]'(by omega),List.getElem?_eq_getElem _⟩;obtain ⟨b,o,rfl,_⟩:=hxc 0 r0 hr0;obtain ⟨hu,i0,hi0,hs0⟩:=hT;have hk2':=hk2;obtain ⟨cap,cur,hv,hg,hl,hm,hsz,hkk,ht⟩:=hk2;have hfl:Ls'.flatten.length=Ls'.length * c.k:=ARo hk;have hcu:Ls'.flatten.length<=cur.size:=by rw [hfl,hsz,hLs',<- hLs];exact Nat.mul_le_mul_right _ hl
  refine Apo (u:= .int .i64 (.ofNat L.length)) hB fun w hw=>?_;subst hw
  have hnews:∀ q u,Ls'.flatten[q]? =some u->w.cell? ((⟨b,o,none⟩:Addr).add q)=some u:=fun q u hq=>by
    have hqk:q / c.k < Ls'.length:=by
      have hq':=(List.getElem?_eq_some_iff.1 hq).1;rw [hfl] at hq';exact Nat.div_lt_of_lt_mul (by rw [Nat.mul_comm];exact hq')
    obtain ⟨row,hrow⟩:∃ row,Ls'[q / c.k]? =some row:=⟨Ls'[q / c.k],List.getElem?_eq_getElem hqk⟩;have hrl:=hk row (List.mem_of_getElem? hrow);have hmod:=Nat.mod_lt q c.pos;have hg:=AZa hk hrow (j:=q % c.k) (x:=row[q % c.k]'(by omega)) (List.getElem?_eq_getElem _);have e1:q / c.k * c.k + q % c.k=q:=by rw [Nat.mul_comm];exact Nat.div_add_mod q c.k
    rw [e1,hq] at hg;injection hg with hg;obtain ⟨b',o',hbo,hcell⟩:=hxc (q / c.k) row hrow;injection hbo with hbo;injection hbo with hb1 hb2;subst hb1;subst hb2;have:=hcell (q % c.k) u (by rw [hg];exact List.getElem?_eq_getElem _);rw [AMk,AQv];rw [Nat.add_assoc,e1] at this;exact this
  obtain ⟨cs',q2,q3,q4,q5⟩:=AU9 g Ls'.flatten 0 w cur el (0,0) hg (by omega)
  have hst:(storeCells ⟨g,0,none⟩ Ls'.flatten).run P w= .ok () (w.setCells g 0 Ls'.flatten):=by
    have:=run_storeCells_cells (P:=P) g 0 Ls'.flatten 0 w (fun j hj=>?_) (fun j hj=>?_) hone
    · simpa using this
    · have:j < cur.size:=by omega
      simp [World.cell?,hg,this]
    · simp [World.frozen?,hg]
  have hcs:cs'.size=cur.size:=by
    have:=congrArg List.length q3;rw [AXh] at this;simpa using this
  have hown:AO5 (w.setCells g 0 Ls'.flatten).heap el c.k g r Ls':=by
    refine ⟨cap,cs',by rw [hLs',<- hLs];exact hv,q2,by omega,hm,by rw [hcs,hsz],hk,?_⟩;rw [q3];apply List.ext_getElem?;intro q;rw [List.getElem?_take,ARt]
    by_cases hq:q < Ls'.flatten.length
    · rw [if_pos (by rw [hfl] at hq;exact hq),if_pos ⟨Nat.zero_le _,by omega,by simpa using (show q < cur.size by omega)⟩,Nat.sub_zero]
    · rw [if_neg (by rw [hfl] at hq;exact hq),List.getElem?_eq_none (by omega)]
  have U:UpT F w.heap (w.setCells g 0 Ls'.flatten).heap:=AU7 q4 (hGF g (by simp)) (fun b hb _=>hnd b hb) (hown.notD hk4)
  have hbg:b'≠g:=fun he=>by
    rw [hF'] at hn;exact (List.nodup_cons.1 hn).1 (he ▸ ALl hG (by simp))
  have H':=H _ (.inr ⟨b',hF',hn,h2.upd q4 hbg,h3,by simp [sI,h4],by simp [sI,h5],fun i' G' r' L2 hGi hri hLi=>?_⟩) U
  · refine ⟨_,?_,q5,H'.1,H'.2⟩;have hfc:=run_firstCells_some (P:=P) w i0.size L.length ⟨b,o,none⟩ Ls'.length xc Ls'.flatten (by rw [hfl,hLs',hs0]) hnews;have hmin:Nat.min Ls'.length Ls.length=L.length:=by rw [hLs',hLs];exact Nat.min_self _
    have hmin2:min Ls'.length Ls.length=L.length:=hmin;have hmin3:min Ls.length Ls'.length=L.length:=by rw [hLs',hLs];exact Nat.min_self _
    rw [hs,hx,hv,hxv];simp [Builtin.copy_,AOb hu,AP2 hi0,Builtin.lenOf,hmin,hmin2,hmin3,hfc,hst,goInt]
  · by_cases hii:i'=i
    · subst hii;rw [hG] at hGi;injection hGi with hGi;subst hGi;rw [hr] at hri;injection hri with hri;subst hri
      have:L2=L':=by
        simp only [sI,Int.toNat_natCast] at hLi;rw [List.getElem?_set_self (List.getElem?_eq_some_iff.1 hL).1] at hLi;exact (Option.some.inj hLi).symm
      subst this;exact .inr ⟨g,_,rfl,hown,Al.upT HA U,hk4⟩
    · have hLi':M[i']? =some L2:=by
        simp only [sI,Int.toNat_natCast] at hLi;rwa [List.getElem?_set_ne (fun he=>hii he.symm)] at hLi
      have U1:UpT [g] w.heap (w.setCells g 0 Ls'.flatten).heap:=AU7 q4 (by simp) (fun b hb _=>hnd b (hGF b hb)) (hown.notD hk4)
      exact (h6 i' G' r' L2 hGi hri hLi').upT U1 fun x hx hxg=>by
        rw [List.mem_singleton.1 hxg] at hx;rw [hF'] at hn;exact hii (AXd (List.nodup_cons.1 hn).2 hG hGi hx).symm
end
end Go.QF
