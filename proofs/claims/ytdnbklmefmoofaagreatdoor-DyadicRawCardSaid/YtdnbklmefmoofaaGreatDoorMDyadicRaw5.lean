/-
  Texts of a proof, joined. Conditions stand in each statement.
-/
import Derived.Lib.SmallJoins
import Derived.Deep.Slices
import Derived.Test.YtdnbklmefmoofaaGreatDoorMDyadicRaw4
set_option linter.unusedVariables false
set_option linter.unusedSimpArgs false
namespace Go.Proofs.YtdnbklmefmoofaaGreatDoor
open Go Go.QF
set_option maxRecDepth 100000
set_option maxHeartbeats 4000000
def AJe (fuel:Nat) (a1 a2:Int):Option Int:=
  (if a2≠0 then (if (Int.tmod a1 a2) < 0 then (some (w64 ((Int.tmod a1 a2) + a2))) else (some (Int.tmod a1 a2))) else none)
theorem AT6 {fuel:Nat} {h:ABu} {a1 a2 r:Int} (hp:AJe fuel a1 a2=some r):ACo Tryz.prog 142 #[(.int .i64 a1),(.int .i64 a2)] h (fun x h'=>Ext h h'/\x= .int .i64 r):=by
 unfold AJe at hp;refine cwf (l:=[_,_]) Tryz.func142 rfl rfl (ABp (AC4 (Wo (Wo ?_))));have K0:=Kst.k0 h;obtain ⟨Af,Ae⟩:=ifN hp;refine ALf rfl rfl Af (ABv (ABr (ABp (Wo (ACu rfl rfl (ABt (⟨_,rfl,fun Aa=>?_,fun Aa=>?_⟩)))))))
 ·refine AB6 (Wo (Wo (ACx rfl rfl (AC4 (Wo (ABv (ABx ?_)))))));obtain rfl:=ABo (AC8 Ae Aa);exact ⟨_,ABz,K0.x,rfl⟩
 ·refine ABy (q_t (ABp (Wo (ABv (ABx ?_)))));obtain rfl:=ABo (AC9 Ae Aa);exact ⟨_,ABz,K0.x,rfl⟩
def AHl (fuel:Nat) (a1 a5:Int):Option Int:=
  ((ALi fuel a5).bind fun Ac=>((AFq fuel a1 Ac).bind fun Ad=>((AVm fuel Ad).bind fun (Ae,Af)=>(some Ae))))
theorem ARt {fuel:Nat} {h:ABu} {Af:Value} {a1 a5 r:Int} (H3:ZZ h Af a1) (hp:AHl fuel a1 a5=some r):ACo Tryz.prog 101 #[Af,(.int .i64 a5)] h (fun x h'=>Ext h h'/\x= .int .i64 r):=by
 unfold AHl at hp;obtain ⟨Ai,rfl,Aj⟩:=H3.cs;refine cwf (l:=[_,_]) Tryz.func101 rfl rfl (ABp (AFk Ai trivial tt2 rfl rfl fun b6 h7 V8 E9 Aw=>ABv (ABr (AEj (fun h'=>UpT [] h7 h') (by kernel_rfl) ?_))));have Ac:=(Kst.k0 h).nb E9 Aw V8;have Aa:UpT [] h7 h7:=UpT.start all_nil;refine AEn Ai ACf (cZ.klen (Ac.zx Aj)) rfl Aa (fun h' hb=>((Ac.b p0).ext hb.ext).agg) (Wo ?_);obtain ⟨Bf,Ax,Ay⟩:=ABq hp;refine ADm Aa (fun _ E=>Aa.thenE E) rfl (AKs Ax) fun Bg Bh Ak Az=>?_;obtain ⟨Bi,rfl,A3⟩:=Az;have Ad:=Aa.thenE Ak;obtain ⟨Bj,rfl,A4⟩:=A3.cs;have Ae:=(Ac.e Ak).az A4;obtain ⟨Bl,A5,A6⟩:=ABq Ay;refine ADm Ad (fun _ E=>Ad.thenE E) rfl (APg (Ae.zx Aj).2 (Ae.z p0).2 A5) fun Bm Bn Am A7=>?_;obtain ⟨Bo,rfl,A8⟩:=A7;have Ao:=Ad.thenE Am;obtain ⟨Bp,rfl,A9⟩:=A8.cs;have Ap:=(Ae.e Am).az A9;obtain ⟨⟨Bq,Br⟩,Ba,Aq⟩:=ABq A6;dsimp only at Aq;refine ADm Ao (fun _ E=>Ao.thenE E) rfl (AZ2 (Ap.z p0).2 Ba) fun Bt Bu Bb Bc=>?_;subst Bc;refine Wo (ADn rfl rfl (ADn rfl rfl (ACr (AC4 (Wo (ABv (ABx ?_)))))));obtain rfl:=ABo Aq;exact ⟨_,ABz,(Ap.e Bb).x,rfl⟩
def ALc (fuel:Nat) (a3:LiI) (Ab:Int):Option ((Int) ⊕ ((Bool) ⊕ (Unit))):=
  (if Ab < (a3.length:Int) then ((gI a3 Ab).bind fun Ac=>((gI a3 0).bind fun Ad=>(if ¬ (Ac.length:Int)=(Ad.length:Int) then (some (Sum.inr<| Sum.inl <| false)) else (if (Ac.length:Int) < 1 then (some (Sum.inr<| Sum.inl <| false)) else (if 16 < (Ac.length:Int) then (some (Sum.inr<| Sum.inl <| false)) else (some (Sum.inl (w64 (Ab + 1))))))))) else (some (Sum.inr<| Sum.inr <| ())))
def AEx (fuel:Nat) (a3:LiI):Option Bool:=
  (((if (a3.length:Int) < 1 then (some (Sum.inl <| false)) else (if 16 < (a3.length:Int) then (some (Sum.inl <| false)) else (some (Sum.inr <| ())))):Option ((Bool) ⊕ (Unit))).bind (fun ex=>match ex with | Sum.inl Ab=>(some Ab) | Sum.inr (_)=>((iter (fun s=>ALc fuel a3 s) fuel 0).bind (fun ex=>match ex with | Sum.inl Ac=>(some Ac) | Sum.inr (_)=>(some true)))))
theorem ALd {fuel:Nat} {h:ABu} {Au:Value} {a3:LiI} {r:Bool} (H2:AEq (cI .i64) h Au a3) (hp:AEx fuel a3=some r):ACo Tryz.prog 104 #[Au] h (fun x h'=>Ext h h'/\x= .bool r):=by
 unfold AEx at hp;refine cwf (l:=[_]) Tryz.func104 rfl rfl (ABp (ABv ?_));have K0:=Kst.k0 h;obtain ⟨A5,Av,Am⟩:=ABq hp;refine AL7 8164 (fun x:Unit=>[]) (fun x h'=>(Sum.inr <| ())=A5/\Kst h h' (K0.L)) ?_ ?_
 ·refine ABp (Wo (ADa ACd rfl H2 (ACu rfl rfl (Wo ?_))));by_cases Ag:(a3.length:Int) < 1
  ·rw [decide_eq_true Ag];refine AE3 8 true (AB5 rfl (ABt (ACh rfl (ABp (ABv ?_)))));obtain rfl:=ABo (ifT Av Ag);refine ABx (AB2 ?_);obtain rfl:=ABo Am;exact ⟨_,ABz,K0.x,rfl⟩
  ·have Aw:=ifF Av Ag;rw [decide_eq_false Ag];refine AB4 8 false (Wo (AB4 8 false (ADa ACd rfl H2 (AB4 8 false (AGq rfl rfl (AB0 rfl (ABt (⟨_,rfl,fun Ao=>?_,fun Ao=>?_⟩))))))))
   ·refine ABp (ABv ?_);obtain rfl:=ABo (AC8 Aw Ao);refine ABx (AB2 ?_);obtain rfl:=ABo Am;exact ⟨_,ABz,K0.x,rfl⟩
   ·refine ABy (q_t ?_);exact ⟨(():Unit),⟨ABo (AC9 Aw Ao),K0⟩,trivial⟩
 rintro ⟨⟩ Bn Bo ⟨A6,Ax⟩;subst A6;refine ABr (ABp (Wo (ADa ACd rfl H2 (Wo (ABt (ABw ?_))))));obtain ⟨Ad,A7,Ah⟩:=ABq Am;obtain ⟨A8,A9,Ba⟩:=ACe A7;refine ACq 137438920724 (fun x:(Int)=>[(15,(.int .i64 x))]) (fun k x h'=>iter A8 k x=some Ad/\Kst h h' (Ax.L)) (by kernel_rfl) fuel (0:(Int)) ?_ ⟨rfl,trivial⟩ ?_
 ·exact ⟨Ba,Ax⟩
 rintro Bp Bb Bq Br ⟨Bc,Ab⟩;obtain ⟨Be,Bt,rfl,Ae,Aa⟩:=AB8 Bc;rw [A9] at Ae;dsimp only at Ae;unfold ALc at Ae;refine ABp (ACu rfl rfl (ABt (ABr (⟨_,rfl,fun Ap=>?_,fun Ap=>?_⟩))))
 ·refine ABy (q_t (ABr (ABw (ABp ?_))));obtain ⟨Ay,Bf,Bg⟩:=ABq (AC8 Ae Ap);refine AFj ACd rfl H2 rfl Bf fun Bu Bv Bw Bh Aq=>AB3 AC0 rfl (AB1 Bh Ab.x) (AC4 (Wo (ADi ACp rfl Aq (Wo ?_))));obtain ⟨Bi,Bj,Az⟩:=ABq Bg;refine AFj ACd rfl H2 rfl Bj fun Bx By Bz Bl Bm=>AB3 AC0 rfl (AB1 Bl Ab.x) (ADi ACp rfl Bm (AEt rfl rfl (Wo ?_)));by_cases Ai: ¬ (Ay.length:Int)=(Bi.length:Int)
  ·rw [decide_eq_true Ai];refine AE3 26 true (AB5 rfl (Wo (AE3 31 true (AB5 rfl (ABt (ACh rfl (ABp (ABv ?_))))))));obtain rfl:=ABo (ifT Az Ai);change _=Ad at Aa;subst Aa;refine ABx (ADb (AB2 (AB2 (ADb (AB2 ?_)))));obtain rfl:=ABo Ah;exact ⟨_,ABz,Ab.x,rfl⟩
  ·have A3:=ifF Az Ai;rw [decide_eq_false Ai];refine AB4 26 false (Wo (AB4 26 false (ADi ACp rfl Aq (AB4 26 false (ACu rfl rfl (AB0 rfl (Wo ?_)))))));by_cases Aj:(Ay.length:Int) < 1
   ·rw [decide_eq_true Aj];refine AE3 31 true (AB5 rfl (ABt (ACh rfl (ABp (ABv ?_)))));obtain rfl:=ABo (ifT A3 Aj);change _=Ad at Aa;subst Aa;refine ABx (ADb (AB2 (AB2 (ADb (AB2 ?_)))));obtain rfl:=ABo Ah;exact ⟨_,ABz,Ab.x,rfl⟩
   ·have A4:=ifF A3 Aj;rw [decide_eq_false Aj];refine AB4 31 false (Wo (AB4 31 false (ADi ACp rfl Aq (AB4 31 false (AGq rfl rfl (AB0 rfl (ABt (⟨_,rfl,fun Ar=>?_,fun Ar=>?_⟩))))))))
    ·refine ABp (ABv ?_);obtain rfl:=ABo (AC8 A4 Ar);change _=Ad at Aa;subst Aa;refine ABx (ADb (AB2 (AB2 (ADb (AB2 ?_)))));obtain rfl:=ABo Ah;exact ⟨_,ABz,Ab.x,rfl⟩
    ·refine ABy (q_b (q_t (AB6 (ACx rfl rfl (Wo (ABt ?_))))));obtain rfl:=ABo (AC9 A4 Ar);exact ⟨Be,((w64 (Bb + 1)):(Int)),Nat.lt_succ_self _,⟨Aa,Ab⟩,rfl,trivial⟩
 ·obtain rfl:=ABo (AC9 Ae Ap);change _=Ad at Aa;subst Aa;refine ACg (ACi (ACi (ADp (q_t (ABp (ABv (ABx ?_)))))));obtain rfl:=ABo Ah;exact ⟨_,ABz,Ab.x,rfl⟩
def AF1 (fuel:Nat) (a1:Int):Option Bool:=
  (if 2<=a1 then (some (decide (a1<=2147483647))) else (some false))
theorem ANu {fuel:Nat} {h:ABu} {a1:Int} {r:Bool} (hp:AF1 fuel a1=some r):ACo Tryz.prog 100 #[(.int .i64 a1)] h (fun x h'=>Ext h h'/\x= .bool r):=by
 unfold AF1 at hp;refine cwf (l:=[_]) Tryz.func100 rfl rfl (ABp (AC4 (Wo (AM5 rfl rfl (Wo ?_)))));have K0:=Kst.k0 h;by_cases Aa:2<=a1
 ·rw [decide_eq_true Aa];refine AB4 5 true (Wo (AB4 5 true (AWe rfl rfl (AB5 rfl (ABv (ABx ?_))))));obtain rfl:=ABo (ifT hp Aa);exact ⟨_,ABz,K0.x,rfl⟩
 ·rw [decide_eq_false Aa];refine AKb 5 false (AB0 rfl (ABv (ABx ?_)));obtain rfl:=ABo (ifF hp Aa);exact ⟨_,ABz,K0.x,rfl⟩
def AIa (fuel:Nat) (a5:Int) (Ac Aa:LiA) (Ab:Int):Option ((LiA × Int) ⊕ ((LiA))):=
  (if Ab < (Ac.length:Int) then ((gI Ac Ab).bind fun Ae=>((AJe fuel Ae a5).bind fun Af=>(if Aa.length<=100000000 then (some (Sum.inl ((Aa ++ [Af]),(w64 (Ab + 1))))) else none))) else (some (Sum.inr<| Aa)))
def AKl (fuel:Nat) (a3:LiI) (a5:Int) (Aa:LiI) (Ab:Int):Option ((LiI × Int) ⊕ ((LiI))):=
  (if Ab < (a3.length:Int) then ((gI a3 Ab).bind fun Ae=>((iter (fun s=>AIa fuel a5 Ae s.1 s.2) fuel ([],0)).bind (fun (Af:LiA)=>(if Aa.length<=100000000 then (some (Sum.inl ((Aa ++ [Af]),(w64 (Ab + 1))))) else none)))) else (some (Sum.inr<| Aa)))
def AEr (fuel:Nat) (a3:LiI) (a5:Int):Option LiI:=
  ((iter (fun s=>AKl fuel a3 a5 s.1 s.2) fuel ([],0)).bind (fun (Ac:LiI)=>(some Ac)))
theorem AKm {fuel:Nat} {h:ABu} {Aj:Value} {a3:LiI} {a5:Int} {r:LiI} (H2:AEq (cI .i64) h Aj a3) (hp:AEr fuel a3 a5=some r):ACo Tryz.prog 103 #[Aj,(.int .i64 a5)] h (fun x h'=>Ext h h'/\ ∃ (x0:Value) (F0:List Nat) (A3:List LnA) (A4:List Value),x=x0/\AFi (cI .i64) 35 2 h' F0 A3 A4 x0 r/\Sp h' h.size [F0]):=by
 unfold AEr at hp;refine cwf (l:=[_,_]) Tryz.func103 rfl rfl (ABp (AC4 (ABv (ABr (ABp (Wo (ADa ACd rfl H2 (Wo (ABt (ABw ?_))))))))));have K7:=Kst.anil2 (cI .i64) 35 2 (Kst.k0 h);obtain ⟨Au,A5,A6⟩:=ABq hp;obtain ⟨A7,A8,A9⟩:=ACe A5;refine ACq 34359731616 (fun x:(LiI) × (Value) × LnA × LnN × LvA × (Int)=>[(5,x.2.1),(13,(.int .i64 x.2.2.2.2.2))]) (fun k x h'=>iter A7 k (x.1,x.2.2.2.2.2)=some Au/\Kst h h' (K7.L.set 0 (aO2 (cI .i64) 35 2 x.2.2.1 x.2.2.2.1 x.2.2.2.2.1 x.2.1 x.1))) (by kernel_rfl) fuel (([],(.slice none 0 0),[],[],[],0):(LiI) × (Value) × LnA × LnN × LvA × (Int)) ?_ ⟨rfl,rfl,trivial⟩ ?_
 ·exact ⟨A9,K7⟩
 rintro Cm ⟨Ba,Cn,Co,Bb,Bc,Be⟩ Cp Cq ⟨Bf,Ab⟩;obtain ⟨Bg,Cr,rfl,Ac,Ae⟩:=AB8 Bf;rw [A8] at Ac;dsimp only at Ac;unfold AKl at Ac;refine ABp (ACu rfl rfl (ABt (ABr (⟨_,rfl,fun Af=>?_,fun Af=>?_⟩))))
 ·refine ABy (q_t (ABr (ABw (ABp ?_))));obtain ⟨Ct,Bh,Bi⟩:=ABq (AC8 Ac Af);refine AFj ACd rfl H2 rfl Bh fun Cu Cv Cw Bj Av=>AB3 AC0 rfl (AB1 Bj Ab.x) (AC4 (ABv (ABr (ABp (Wo (ADi ACp rfl Av (Wo (ABt (ABw ?_)))))))));have Aw:=Kst.anil (cI .i64) 2 Ab;obtain ⟨Ax,Bl,Bm⟩:=ABq Bi;obtain ⟨Bn,Bo,Bp⟩:=ACe Bl;refine ACq 1073218816 (fun x:(LiA) × (Value) × LnA × (Int)=>[(8,x.2.1),(19,(.int .i64 x.2.2.2))]) (fun k x h'=>iter Bn k (x.1,x.2.2.2)=some Ax/\Kst h h' (Aw.L.set 0 (aO (cI .i64) 2 x.2.2.1 x.2.1 x.1))) (by kernel_rfl) fuel (([],(.slice none 0 0),[],0):(LiA) × (Value) × LnA × (Int)) ?_ ⟨rfl,rfl,trivial⟩ ?_
  ·exact ⟨Bp,Aw⟩
  rintro Cx ⟨Ay,Bq,Br,Bt⟩ Cy Cz ⟨Bu,Aa⟩;obtain ⟨Bv,C0,rfl,Ad,Ag⟩:=AB8 Bu;rw [Bo] at Ad;dsimp only at Ad;unfold AIa at Ad;refine ABp (ACu rfl rfl (ABt (ABr (⟨_,rfl,fun Ah=>?_,fun Ah=>?_⟩))))
  ·refine ABy (q_t (ABr (ABw (ABp ?_))));obtain ⟨C1,Bw,Bx⟩:=ABq (AC8 Ad Ah);refine AHg (c:=(cI .i64)) ACp rfl Av rfl Bw fun C2 C3 C4 By Bz=>?_;obtain rfl:=By;refine AB3 ACw rfl (AB1 (Bz 0 _ rfl) Aa.x) (ABv (AB6 (Wo (Wo (Wo ?_)))));obtain ⟨Ai,B1,B3⟩:=ABq Bx;refine ADc rfl (AT6 B1) fun C5 C6 B4 B5=>?_;subst B5;have Az:=Aa.e B4;obtain ⟨B6,B7⟩:=ifN B3;refine AM9 ACp AL9 rfl rfl trivial tt2 (fun _=>rfl) rfl (show ((cI .i64)).rep _ Ai [(.int .i64 Ai)] from rfl) (Az.o p0) (by decide) B6 fun C7 B8 B9 C8 Ca Cb Cd=>ACr (ACs (q_b (q_t (AB6 (ACx rfl rfl (Wo (ABt ?_)))))));obtain rfl:=ABo B7;exact ⟨Bv,(((Ay ++ [Ai]),B9,B8,(w64 (Bt + 1))):(LiA) × (Value) × LnA × (Int)),Nat.lt_succ_self _,⟨Ag,(Az.uo p0 Cb Ca Cd)⟩,rfl,rfl,trivial⟩
  ·obtain rfl:=ABo (AC9 Ad Ah);change _=Ax at Ag;subst Ag;refine ACg (ACi (ACi (ADp (q_t (AB6 (Wo (Wo ?_)))))));obtain ⟨Ce,Cf⟩:=ifN Bm;refine AYw ACd ANi rfl rfl trivial tt2 (fun _=>rfl) rfl (Aa.o p0) (Aa.o2 p1) (Aa.dj p0 p1 (by decide)) (by decide) Ce fun C9 Cg Ch Da Ci Cj Ck=>ACr (ACs (q_b (q_t (AB6 (ACx rfl rfl (Wo (ABt ?_)))))));obtain rfl:=ABo Cf;exact ⟨Bg,(((Ba ++ [Ay]),Ch,Cg,(Bb ++ [Br]),(Bc ++ [Bq]),(w64 (Be + 1))):(LiI) × (Value) × LnA × LnN × LvA × (Int)),Nat.lt_succ_self _,⟨Ae,(Aa.m2 p0 p1 (by decide) Cj Ci Ck).sel [1] (by decide)⟩,rfl,rfl,trivial⟩
 ·obtain rfl:=ABo (AC9 Ac Af);change _=Au at Ae;subst Ae;refine ACg (ACi (ACi (ADp (q_t (ABp (Wo (ABv (ABx ?_))))))));obtain rfl:=ABo A6;exact ⟨_,ABz,Ab.x,_,_,_,_,rfl,(Ab.o2 p0),Ab.s.sel [0] (by decide)⟩
def AIx (fuel:Nat) (a3 a7:LiI) (Ab:Int) (Ae:LiA) (Aa:Int):Option ((Int) ⊕ ((Bool) ⊕ (Unit))):=
  (if Aa < (Ae.length:Int) then ((gI a3 Ab).bind fun Af=>((gI Af Aa).bind fun Ag=>((gI a7 Ab).bind fun Ah=>((gI Ah Aa).bind fun Ai=>(if ¬ Ag=Ai then (some (Sum.inr<| Sum.inl <| false)) else (some (Sum.inl (w64 (Aa + 1))))))))) else (some (Sum.inr<| Sum.inr <| ())))
def AIy (fuel:Nat) (a3 a7:LiI) (Aa:Int):Option ((Int) ⊕ ((Bool) ⊕ (Unit))):=
  (if Aa < (a3.length:Int) then ((gI a3 Aa).bind fun Ad=>((gI a7 Aa).bind fun Ae=>(if ¬ (Ad.length:Int)=(Ae.length:Int) then (some (Sum.inr<| Sum.inl <| false)) else ((iter (fun s=>AIx fuel a3 a7 Aa Ad s) fuel 0).bind (fun ex=>match ex with | Sum.inl Af=>(some (Sum.inr<| Sum.inl <| Af)) | Sum.inr (_)=>(some (Sum.inl (w64 (Aa + 1))))))))) else (some (Sum.inr<| Sum.inr <| ())))
def AIu (fuel:Nat) (a3 a7:LiI):Option Bool:=
  (if ¬ (a3.length:Int)=(a7.length:Int) then (some false) else ((iter (fun s=>AIy fuel a3 a7 s) fuel 0).bind (fun ex=>match ex with | Sum.inl Ac=>(some Ac) | Sum.inr (_)=>(some true))))
theorem ATc {fuel:Nat} {h:ABu} {Av:Value} {a3:LiI} {Ax:Value} {a7:LiI} {r:Bool} (H2:AEq (cI .i64) h Av a3) (H6:AEq (cI .i64) h Ax a7) (hp:AIu fuel a3 a7=some r):ACo Tryz.prog 60 #[Av,Ax] h (fun x h'=>Ext h h'/\x= .bool r):=by
 unfold AIu at hp;refine cwf (l:=[_,_]) Tryz.func60 rfl rfl (ABp (ABv (ABr (ABp (Wo (ADa ACd rfl H2 (Wo (ADa ACd rfl H6 (AEt rfl rfl (ABt ?_))))))))));have K0:=Kst.k0 h;refine ⟨_,rfl,fun Ak=>?_,fun Ak=>?_⟩
 ·refine ABp (ABv (ABx (AB2 ?_)));obtain rfl:=ABo (AC8 hp Ak);exact ⟨_,ABz,K0.x,rfl⟩
 ·refine ABy (q_t (ABr (ABp (Wo (ADa ACd rfl H2 (Wo (ABt (ABw ?_))))))));obtain ⟨Ah,A6,Am⟩:=ABq (AC9 hp Ak);obtain ⟨A7,A8,A9⟩:=ACe A6;refine ACq 9007199254724720 (fun x:(Int)=>[(14,(.int .i64 x))]) (fun k x h'=>iter A7 k x=some Ah/\Kst h h' (K0.L)) (by kernel_rfl) fuel (0:(Int)) ?_ ⟨rfl,trivial⟩ ?_
  ·exact ⟨A9,K0⟩
  rintro Cd Ba Ce Cf ⟨Bb,Aa⟩;obtain ⟨Bc,Cg,rfl,Ae,Ab⟩:=AB8 Bb;rw [A8] at Ae;dsimp only at Ae;unfold AIy at Ae;refine ABp (ACu rfl rfl (ABt (ABr (⟨_,rfl,fun Ao=>?_,fun Ao=>?_⟩))))
  ·refine ABy (q_t (ABr (ABw (ABp (Wo (ABv (ABr (ABr (AI7 (Wo (Wo ?_)))))))))));obtain ⟨Ch,Az,Be⟩:=ABq (AC8 Ae Ao);refine AFj ACd rfl H2 rfl Az fun Ci Cj Ck Bf Bg=>AB3 AC0 rfl (AB1 Bf Aa.x) (ADi ACp rfl Bg (Wo (Wo ?_)));obtain ⟨Cm,Bh,A3⟩:=ABq Be;refine AFj ACd rfl H6 rfl Bh fun Cn Co Cp Bi Bj=>AB3 AC0 rfl (AB1 Bi Aa.x) (ADi ACp rfl Bj (AEt rfl rfl (ABt (⟨_,rfl,fun Ap=>?_,fun Ap=>?_⟩))))
   ·refine ABp (ABv ?_);obtain rfl:=ABo (AC8 A3 Ap);change _=Ah at Ab;subst Ab;refine ABx (AB2 (ADb (AB2 (AB2 (ADb (AB2 ?_))))));obtain rfl:=ABo Am;exact ⟨_,ABz,Aa.x,rfl⟩
   ·refine ABy (q_t (ABp (Wo (Wo (AFj ACd rfl H2 rfl Az fun Cq Cr Ct Bl Bm=>AB3 AC0 rfl (AB1 Bl Aa.x) (ADi ACp rfl Bm (Wo (ABt (ABw ?_)))))))));obtain ⟨Aq,Bn,A4⟩:=ABq (AC9 A3 Ap);obtain ⟨Bo,Bp,Bq⟩:=ACe Bn;refine ACq 4503591037435984 (fun x:(Int)=>[(33,(.int .i64 x))]) (fun k x h'=>iter Bo k x=some Aq/\Kst h h' (Aa.L)) (by kernel_rfl) fuel (0:(Int)) ?_ ⟨rfl,trivial⟩ ?_
    ·exact ⟨Bq,Aa⟩
    rintro Cu Br Cv Cw ⟨Bt,Ac⟩;obtain ⟨Bu,Cx,rfl,Af,Ag⟩:=AB8 Bt;rw [Bp] at Af;dsimp only at Af;unfold AIx at Af;refine ABp (ACu rfl rfl (ABt (ABr (⟨_,rfl,fun Ar=>?_,fun Ar=>?_⟩))))
    ·refine ABy (q_t (ABr (ABw (ABp (Wo (ABv (ABr (AI7 (Wo (Wo ?_))))))))));obtain ⟨Cy,Bv,Bw⟩:=ABq (AC8 Af Ar);refine AFj ACd rfl H2 rfl Bv fun Cz C0 C1 Bx By=>AB3 AC0 rfl (AB1 Bx Ac.x) (Wo ?_);obtain ⟨C2,Bz,B1⟩:=ABq Bw;refine AHg (c:=(cI .i64)) ACp rfl By rfl Bz fun C3 C4 C5 B3 B4=>?_;obtain rfl:=B3;refine AB3 ACw rfl (AB1 (B4 0 _ rfl) Ac.x) (Wo (Wo ?_));obtain ⟨C6,B5,B6⟩:=ABq B1;refine AFj ACd rfl H6 rfl B5 fun C7 C8 C9 B7 B8=>AB3 AC0 rfl (AB1 B7 Ac.x) (Wo ?_);obtain ⟨Da,B9,A5⟩:=ABq B6;refine AHg (c:=(cI .i64)) ACp rfl B8 rfl B9 fun Db Dc Dd Ca Cb=>?_;obtain rfl:=Ca;refine AB3 ACw rfl (AB1 (Cb 0 _ rfl) Ac.x) (AEt rfl rfl (ABt (⟨_,rfl,fun Au=>?_,fun Au=>?_⟩)))
     ·refine ABp (ABv ?_);obtain rfl:=ABo (AC8 A5 Au);change _=Aq at Ag;subst Ag;obtain rfl:=ABo A4;change _=Ah at Ab;subst Ab;refine ABx (ADb (AB2 (AB2 (ADb (ADb (AB2 (AB2 (ADb (AB2 ?_)))))))));obtain rfl:=ABo Am;exact ⟨_,ABz,Ac.x,rfl⟩
     ·refine ABy (q_b (q_t (AB6 (ACx rfl rfl (Wo (ABt ?_))))));obtain rfl:=ABo (AC9 A5 Au);exact ⟨Bu,((w64 (Br + 1)):(Int)),Nat.lt_succ_self _,⟨Ag,Ac⟩,rfl,trivial⟩
    ·obtain rfl:=ABo (AC9 Af Ar);change _=Aq at Ag;subst Ag;refine ACg (ACi (ACi (ADp (q_b (q_t (AB6 (ACx rfl rfl (Wo (ABt ?_)))))))));obtain rfl:=ABo A4;exact ⟨Bc,((w64 (Ba + 1)):(Int)),Nat.lt_succ_self _,⟨Ab,Ac⟩,rfl,trivial⟩
  ·obtain rfl:=ABo (AC9 Ae Ao);change _=Ah at Ab;subst Ab;refine ACg (ACi (ACi (ADp (q_t (ABp (ABv (ABx ?_)))))));obtain rfl:=ABo Am;exact ⟨_,ABz,Aa.x,rfl⟩
def AHu (fuel:Nat) (a9:Int) (Af Ae:LiI) (Ag Ac Ab:Int) (Ad:LiA):Option ((Int × LiA) ⊕ ((LiA))):=
  (if Ab < (Ae.length:Int) then ((gI Ad Ac).bind fun Ah=>((gI Af Ag).bind fun Ai=>((gI Ai Ab).bind fun Aj=>((gI Ae Ab).bind fun Ak=>((gI Ak Ac).bind fun Am=>(if a9≠0 then (if a9≠0 then (some (Sum.inl ((w64 (Ab + 1)),(sI Ad Ac (Int.tmod (w64 (Ah + (Int.tmod (w64 (Aj * Am)) a9))) a9))))) else none) else none)))))) else (some (Sum.inr<| Ad)))
def AHv (fuel:Nat) (a9:Int) (Ad Ae:LiI) (Af:Int) (Ag:LiA) (Aa:Int) (Ab:LiA):Option ((Int × LiA) ⊕ ((LiA))):=
  (if Aa < ((List.replicate (Int.toNat (Ag.length:Int)) (0:Int)).length:Int) then ((iter (fun s=>AHu fuel a9 Ad Ae Af Aa s.1 s.2) fuel (0,Ab)).bind (fun (Ah:LiA)=>(some (Sum.inl ((w64 (Aa + 1)),Ah))))) else (some (Sum.inr<| Ab)))
def AHw (fuel:Nat) (a9:Int) (Ad Ae Ab:LiI) (Ac:Int):Option ((LiI × Int) ⊕ ((LiI))):=
  (if Ac < (Ad.length:Int) then ((gI Ae 0).bind fun Aa=>(if 0<=(Aa.length:Int)/\(Aa.length:Int)<=100000000 then ((iter (fun s=>AHv fuel a9 Ad Ae Ac Aa s.1 s.2) fuel (0,(List.replicate (Int.toNat (Aa.length:Int)) (0:Int)))).bind (fun (Ag:LiA)=>(if Ab.length<=100000000 then (some (Sum.inl ((Ab ++ [Ag]),(w64 (Ac + 1))))) else none))) else none)) else (some (Sum.inr<| Ab)))
def AF2 (fuel:Nat) (a3 a7:LiI) (a9:Int):Option LiI:=
  ((AEr fuel a3 a9).bind fun Ad=>((AEr fuel a7 a9).bind fun Ae=>((iter (fun s=>AHw fuel a9 Ad Ae s.1 s.2) fuel ([],0)).bind (fun (Af:LiI)=>(some Af)))))
theorem ANv {fuel:Nat} {h:ABu} {Aw:Value} {a3:LiI} {Ay:Value} {a7:LiI} {a9:Int} {r:LiI} (H2:AEq (cI .i64) h Aw a3) (H6:AEq (cI .i64) h Ay a7) (hp:AF2 fuel a3 a7 a9=some r):ACo Tryz.prog 105 #[Aw,Ay,(.int .i64 a9)] h (fun x h'=>Ext h h'/\ ∃ (x0:Value) (F0:List Nat) (Bu:List LnA) (Bv:List Value),x=x0/\AFi (cI .i64) 35 2 h' F0 Bu Bv x0 r/\Sp h' h.size [F0]):=by
 unfold AF2 at hp;refine cwf (l:=[_,_,_]) Tryz.func105 rfl rfl (ABp (AC4 (Wo (Wo ?_))));have K0:=Kst.k0 h;obtain ⟨D9,Bw,Bx⟩:=ABq hp;refine ADc rfl (AKm (H2.ext K0.x) Bw) fun Ea Eb By Bz=>?_;obtain ⟨Ec,Ed,Ee,Ef,rfl,B1,B3⟩:=Bz;refine Wo (Wo ?_);have A6:=K0.no2 By B3 B1;obtain ⟨Eg,B4,B5⟩:=ABq Bx;refine ADc rfl (AKm (H6.ext A6.x) B4) fun Eh Ei B6 B7=>?_;obtain ⟨Ej,Ek,El,Em,rfl,B8,B9⟩:=B7;refine ACr (AC4 (ABv (ABr (ABp (Wo ?_)))));have A7:=A6.no2 B6 B9 B8;refine ADa ACd rfl (A7.o2 p1).rd (Wo (ABt (ABw ?_)));have A8:=Kst.anil2 (cI .i64) 35 2 A7;obtain ⟨A9,Ca,Cb⟩:=ABq B5;obtain ⟨Cd,Ce,Cf⟩:=ACe Ca;refine ACq 4722366482869644169088 (fun x:(LiI) × (Value) × LnA × LnN × LvA × (Int)=>[(7,x.2.1),(20,(.int .i64 x.2.2.2.2.2))]) (fun k x h'=>iter Cd k (x.1,x.2.2.2.2.2)=some A9/\Kst h h' (A8.L.set 0 (aO2 (cI .i64) 35 2 x.2.2.1 x.2.2.2.1 x.2.2.2.2.1 x.2.1 x.1))) (by kernel_rfl) fuel (([],(.slice none 0 0),[],[],[],0):(LiI) × (Value) × LnA × LnN × LvA × (Int)) ?_ ⟨rfl,rfl,trivial⟩ ?_
 ·exact ⟨Cf,A8⟩
 rintro En ⟨Cg,Eo,Ep,Ch,Ci,Ba⟩ Er Es ⟨Cj,Ad⟩;obtain ⟨Ck,Et,rfl,Ae,Ai⟩:=AB8 Cj;rw [Ce] at Ae;dsimp only at Ae;unfold AHw at Ae;refine ABp (ACu rfl rfl (ABt (ABr (⟨_,rfl,fun Aj=>?_,fun Aj=>?_⟩))))
 ·refine ABy (q_t (ABr (ABw (ABp (Wo (AC4 (Wo ?_)))))));obtain ⟨Cm,Bb,Cn⟩:=ABq (AC8 Ae Aj);refine ADf ACd rfl (Ad.o2 p1) rfl Bb fun Eu Ev Ew Co Cp=>AB3 AC0 rfl Cp (ADi ACp rfl ((Ad.o2 p1).rowI Co Bb) ?_);obtain ⟨Cq,Cr⟩:=ifN Cn;refine AQj (c:=(cI .i64)) (a:=0) ACp AL9 rfl rfl (fun _=>rfl) rfl trivial tt2 rfl rfl (by decide) Cq fun Ct Ak Ey Cu Cv Cw Cx=>ABv (ABr (ABp (Wo ?_)));have Am:=Ad.no Cv (AH8 Cw Cx) Cu;refine ADi ACp rfl (Am.o p0).rd (Wo (ABt (ABw ?_)));obtain ⟨Bc,Cy,Cz⟩:=ABq Cr;obtain ⟨C0,C1,C2⟩:=ACe Cy;refine ACq 147573952588602674176 (fun x:(Int) × (LiA) × LnA=>[(30,(.int .i64 x.1))]) (fun k x h'=>iter C0 k (x.1,x.2.1)=some Bc/\Kst h h' (Am.L.set 0 (aO (cI .i64) 2 x.2.2 Ak x.2.1))) (by kernel_rfl) fuel ((0,(List.replicate (Int.toNat (Cm.length:Int)) (0:Int)),[Ct]):(Int) × (LiA) × LnA) ?_ ⟨rfl,trivial⟩ ?_
  ·exact ⟨C2,Am⟩
  rintro Ez ⟨Be,Bf,Bg⟩ Fa Fb ⟨C3,Ab⟩;obtain ⟨C4,Fc,rfl,Af,Ao⟩:=AB8 C3;rw [C1] at Af;dsimp only at Af;unfold AHv at Af;refine ABp (ACu rfl rfl (ABt (ABr (⟨_,rfl,fun Ap=>?_,fun Ap=>?_⟩))))
  ·refine ABy (q_t (ABr (ABw (ABp (Wo (AC4 (Wo (ADa ACd rfl (Ab.o2 p2).rd (Wo (ABt (ABw ?_)))))))))));obtain ⟨Bh,C5,C6⟩:=ABq (AC8 Af Ap);obtain ⟨C7,C8,C9⟩:=ACe C5;refine ACq 73786976260478470144 (fun x:(Int) × (LiA) × LnA=>[(35,(.int .i64 x.1))]) (fun k x h'=>iter C7 k (x.1,x.2.1)=some Bh/\Kst h h' (Ab.L.set 0 (aO (cI .i64) 2 x.2.2 Ak x.2.1))) (by kernel_rfl) fuel ((0,Bf,Bg):(Int) × (LiA) × LnA) ?_ ⟨rfl,trivial⟩ ?_
   ·exact ⟨C9,Ab⟩
   rintro Fd ⟨Bi,Bj,Bl⟩ Fe Ff ⟨Da,Aa⟩;obtain ⟨Db,Fg,rfl,Ag,Aq⟩:=AB8 Da;rw [C8] at Ag;dsimp only at Ag;unfold AHu at Ag;refine ABp (ACu rfl rfl (ABt (ABr (⟨_,rfl,fun Ar=>?_,fun Ar=>?_⟩))))
   ·refine ABy (q_t (ABr (ABw (ABp (Wo (ABv (AI7 (Wo (Wo (Wo (Wo ?_)))))))))));obtain ⟨Bm,Ah,Dc⟩:=ABq (AC8 Ag Ar);refine AW0 ACp rfl (Aa.o p0) rfl Ah fun Fh Dd=>?_;obtain ⟨Fi,De,Df⟩:=(Aa.o p0).cells Dd Ah;obtain rfl:=De;refine AB3 ACw rfl (Df 0 _ rfl) (Wo (Wo ?_));obtain ⟨Fj,Au,Dg⟩:=ABq Dc;refine ADf ACd rfl (Aa.o2 p3) rfl Au fun Fk Fl Fm Dh Di=>AB3 AC0 rfl Di (Wo ?_);obtain ⟨Bn,Bo,Dj⟩:=ABq Dg;refine AD0 (m:=Ba) ACp rfl (Aa.o2 p3) Dh Au rfl Bo fun Fo Dk=>?_;obtain ⟨Fp,Dl,Dn⟩:=(Aa.o2 p3).cells Dk Au Bo;obtain rfl:=Dl;refine AB3 ACw rfl (Dn 0 _ rfl) (Wo (Wo ?_));obtain ⟨Fq,Av,Do⟩:=ABq Dj;refine ADf ACd rfl (Aa.o2 p2) rfl Av fun Fr Ft Fu Dp Dq=>AB3 AC0 rfl Dq (Wo ?_);obtain ⟨Bp,Bq,Dr⟩:=ABq Do;refine AD0 (m:=Bi) ACp rfl (Aa.o2 p2) Dp Av rfl Bq fun Fv Ds=>?_;obtain ⟨Fw,Dt,Du⟩:=(Aa.o2 p2).cells Ds Av Bq;obtain rfl:=Dt;refine AB3 ACw rfl (Du 0 _ rfl) (AR7 rfl rfl (Wo ?_));obtain ⟨Dv,Dw⟩:=ifN Dr;refine ALf rfl rfl Dv (ACx rfl rfl (Wo ?_));obtain ⟨Dx,Dy⟩:=ifN Dw;refine ALf rfl rfl Dx (AW0 ACp rfl (Aa.o p0) rfl Ah fun Fx Dz=>Aud (AFv ACw rfl rfl rfl) (Aa.o p0) Dz Ah (show ((cI .i64)).rep _ (Int.tmod (w64 (Bm + (Int.tmod (w64 (Bn * Bp)) a9))) a9) _ from rfl) fun Fy D0 D1=>ACs (q_b (q_t (AB6 (ACx rfl rfl (Wo (ABt ?_)))))));obtain rfl:=ABo Dy;exact ⟨Db,(((w64 (Bi + 1)),(sI Bj Be (Int.tmod (w64 (Bm + (Int.tmod (w64 (Bn * Bp)) a9))) a9)),Bl):(Int) × (LiA) × LnA),Nat.lt_succ_self _,⟨Aq,(Aa.uO p0 D1 D0)⟩,rfl,trivial⟩
   ·obtain rfl:=ABo (AC9 Ag Ar);change _=Bh at Aq;subst Aq;refine ACg (ACi (ACi (ADp (q_b (q_t (AB6 (ACx rfl rfl (Wo (ABt ?_)))))))));obtain rfl:=ABo C6;exact ⟨C4,(((w64 (Be + 1)),Bj,Bl):(Int) × (LiA) × LnA),Nat.lt_succ_self _,⟨Ao,Aa⟩,rfl,trivial⟩
  ·obtain rfl:=ABo (AC9 Af Ap);change _=Bc at Ao;subst Ao;refine ACg (ACi (ACi (ADp (q_t (AB6 (Wo (Wo ?_)))))));obtain ⟨D2,D3⟩:=ifN Cz;refine AYw ACd ANi rfl rfl trivial tt2 (fun _=>rfl) rfl (Ab.o p0) (Ab.o2 p1) (Ab.dj p0 p1 (by decide)) (by decide) D2 fun Fz D4 D5 F4 D6 D7 D8=>ACr (ACs (q_b (q_t (AB6 (ACx rfl rfl (Wo (ABt ?_)))))));obtain rfl:=ABo D3;exact ⟨Ck,(((Cg ++ [Bf]),D5,D4,(Ch ++ [Bg]),(Ci ++ [Ak]),(w64 (Ba + 1))):(LiI) × (Value) × LnA × LnN × LvA × (Int)),Nat.lt_succ_self _,⟨Ai,(Ab.m2 p0 p1 (by decide) D7 D6 D8).sel [1,2,3] (by decide)⟩,rfl,rfl,trivial⟩
 ·obtain rfl:=ABo (AC9 Ae Aj);change _=A9 at Ai;subst Ai;refine ACg (ACi (ACi (ADp (q_t (ABp (Wo (ABv (ABx ?_))))))));obtain rfl:=ABo Cb;exact ⟨_,ABz,Ad.x,_,_,_,_,rfl,(Ad.o2 p0),Ad.s.sel [0] (by decide)⟩
def AHa (fuel:Nat) (a3:LiI) (Ad:Int) (Aa:LiA) (Ab:Int):Option ((LiA × Int) ⊕ ((LiA))):=
  (if Ab < (a3.length:Int) then ((gI a3 Ab).bind fun Ae=>((gI Ae Ad).bind fun Af=>(if Aa.length<=100000000 then (some (Sum.inl ((Aa ++ [Af]),(w64 (Ab + 1))))) else none))) else (some (Sum.inr<| Aa)))
def AHb (fuel:Nat) (a3:LiI) (x5:LiA) (Aa:LiI) (Ab:Int):Option ((LiI × Int) ⊕ ((LiI))):=
  (if Ab < (x5.length:Int) then ((iter (fun s=>AHa fuel a3 Ab s.1 s.2) fuel ([],0)).bind (fun (Ae:LiA)=>(if Aa.length<=100000000 then (some (Sum.inl ((Aa ++ [Ae]),(w64 (Ab + 1))))) else none))) else (some (Sum.inr<| Aa)))
def AGo (fuel:Nat) (a3:LiI):Option LiI:=
  ((gI a3 0).bind fun x5=>((iter (fun s=>AHb fuel a3 x5 s.1 s.2) fuel ([],0)).bind (fun (Ac:LiI)=>(some Ac))))
theorem AQr {fuel:Nat} {h:ABu} {Ak:Value} {a3 r:LiI} (H2:AEq (cI .i64) h Ak a3) (hp:AGo fuel a3=some r):ACo Tryz.prog 106 #[Ak] h (fun x h'=>Ext h h'/\ ∃ (x0:Value) (F0:List Nat) (Ay:List LnA) (Az:List Value),x=x0/\AFi (cI .i64) 35 2 h' F0 Ay Az x0 r/\Sp h' h.size [F0]):=by
 unfold AGo at hp;refine cwf (l:=[_]) Tryz.func106 rfl rfl (ABp (AC4 (ABv (ABr (ABp (Wo ?_))))));have K0:=Kst.k0 h;obtain ⟨x5,A3,A4⟩:=ABq hp;refine AFj ACd rfl H2 rfl A3 fun b8 o9 Co A5 A6=>AB3 AC0 rfl (AB1 A5 K0.x) (ADi ACp rfl A6 (Wo (ABt (ABw ?_))));have Ar:=Kst.anil2 (cI .i64) 35 2 K0;obtain ⟨Au,A7,A8⟩:=ABq A4;obtain ⟨A9,Ba,Bb⟩:=ACe A7;refine ACq 34359736440 (fun x:(LiI) × (Value) × LnA × LnN × LvA × (Int)=>[(3,x.2.1),(11,(.int .i64 x.2.2.2.2.2))]) (fun k x h'=>iter A9 k (x.1,x.2.2.2.2.2)=some Au/\Kst h h' (Ar.L.set 0 (aO2 (cI .i64) 35 2 x.2.2.1 x.2.2.2.1 x.2.2.2.2.1 x.2.1 x.1))) (by kernel_rfl) fuel (([],(.slice none 0 0),[],[],[],0):(LiI) × (Value) × LnA × LnN × LvA × (Int)) ?_ ⟨rfl,rfl,trivial⟩ ?_
 ·exact ⟨Bb,Ar⟩
 rintro Cp ⟨Bc,Cq,Cr,Be,Bf,Bg⟩ Ct Cu ⟨Bh,Ad⟩;obtain ⟨Bi,Cv,rfl,Ab,Af⟩:=AB8 Bh;rw [Ba] at Ab;dsimp only at Ab;unfold AHb at Ab;refine ABp (ACu rfl rfl (ABt (ABr (⟨_,rfl,fun Ag=>?_,fun Ag=>?_⟩))))
 ·refine ABy (q_t (ABr (ABw (ABp (Wo (AC4 (ABv (ABr (ABp (Wo ?_))))))))));refine ADa ACd rfl H2 (Wo (ABt (ABw ?_)));have Av:=Kst.anil (cI .i64) 2 Ad;obtain ⟨Aw,Bj,Bl⟩:=ABq (AC8 Ab Ag);obtain ⟨Bm,Bn,Bo⟩:=ACe Bj;refine ACq 1073676384 (fun x:(LiA) × (Value) × LnA × (Int)=>[(5,x.2.1),(16,(.int .i64 x.2.2.2))]) (fun k x h'=>iter Bm k (x.1,x.2.2.2)=some Aw/\Kst h h' (Av.L.set 0 (aO (cI .i64) 2 x.2.2.1 x.2.1 x.1))) (by kernel_rfl) fuel (([],(.slice none 0 0),[],0):(LiA) × (Value) × LnA × (Int)) ?_ ⟨rfl,rfl,trivial⟩ ?_
  ·exact ⟨Bo,Av⟩
  rintro Cw ⟨Ax,Bp,Bq,Br⟩ Cx Cy ⟨Bt,Aa⟩;obtain ⟨Bu,Cz,rfl,Ac,Ah⟩:=AB8 Bt;rw [Bn] at Ac;dsimp only at Ac;unfold AHa at Ac;refine ABp (ACu rfl rfl (ABt (ABr (⟨_,rfl,fun Ai=>?_,fun Ai=>?_⟩))))
  ·refine ABy (q_t (ABr (ABw (ABp (Wo (ABv (AB6 (Wo (Wo (Wo ?_))))))))));obtain ⟨C0,Bv,Bw⟩:=ABq (AC8 Ac Ai);refine AFj ACd rfl H2 rfl Bv fun C1 C2 C3 Bx By=>AB3 AC0 rfl (AB1 Bx Aa.x) (Wo ?_);obtain ⟨Aj,Bz,B1⟩:=ABq Bw;refine AHg (c:=(cI .i64)) ACp rfl By rfl Bz fun C4 C5 C6 B3 B4=>?_;obtain rfl:=B3;refine AB3 ACw rfl (AB1 (B4 0 _ rfl) Aa.x) ?_;obtain ⟨B5,B6⟩:=ifN B1;refine AM9 ACp AL9 rfl rfl trivial tt2 (fun _=>rfl) rfl (show ((cI .i64)).rep _ Aj [(.int .i64 Aj)] from rfl) (Aa.o p0) (by decide) B5 fun C7 B7 B8 C8 B9 Ca Cb=>ACr (ACs (q_b (q_t (AB6 (ACx rfl rfl (Wo (ABt ?_)))))));obtain rfl:=ABo B6;exact ⟨Bu,(((Ax ++ [Aj]),B8,B7,(w64 (Br + 1))):(LiA) × (Value) × LnA × (Int)),Nat.lt_succ_self _,⟨Ah,(Aa.uo p0 Ca B9 Cb)⟩,rfl,rfl,trivial⟩
  ·obtain rfl:=ABo (AC9 Ac Ai);change _=Aw at Ah;subst Ah;refine ACg (ACi (ACi (ADp (q_t (AB6 (Wo (Wo ?_)))))));obtain ⟨Cd,Ce⟩:=ifN Bl;refine AYw ACd ANi rfl rfl trivial tt2 (fun _=>rfl) rfl (Aa.o p0) (Aa.o2 p1) (Aa.dj p0 p1 (by decide)) (by decide) Cd fun C9 Cf Cg Da Ch Ci Cj=>ACr (ACs (q_b (q_t (AB6 (ACx rfl rfl (Wo (ABt ?_)))))));obtain rfl:=ABo Ce;exact ⟨Bi,(((Bc ++ [Ax]),Cg,Cf,(Be ++ [Bq]),(Bf ++ [Bp]),(w64 (Bg + 1))):(LiI) × (Value) × LnA × LnN × LvA × (Int)),Nat.lt_succ_self _,⟨Af,(Aa.m2 p0 p1 (by decide) Ci Ch Cj).sel [1] (by decide)⟩,rfl,rfl,trivial⟩
 ·obtain rfl:=ABo (AC9 Ab Ag);change _=Au at Af;subst Af;refine ACg (ACi (ACi (ADp (q_t (ABp (Wo (ABv (ABx ?_))))))));obtain rfl:=ABo A8;exact ⟨_,ABz,Ad.x,_,_,_,_,rfl,(Ad.o2 p0),Ad.s.sel [0] (by decide)⟩
def AF9 (fuel:Nat) (a3 a7:LiI) (a9:Int):Option (LiI × Int):=
  ((((AEx fuel a3).bind fun Ad=>(if (!Ad)=true then (some (Sum.inl <| ([],3))) else ((AEx fuel a7).bind fun Ae=>(if (!Ae)=true then (some (Sum.inl <| ([],3))) else ((gI a3 0).bind fun Af=>(if ¬ (a3.length:Int)=(Af.length:Int) then (some (Sum.inl <| ([],3))) else (if ¬ (a7.length:Int)=(a3.length:Int) then (some (Sum.inl <| ([],3))) else (some (Sum.inr <| ()))))))))):Option (((LiI × Int)) ⊕ (Unit))).bind (fun ex=>match ex with | Sum.inl Ag=>(some Ag) | Sum.inr (_)=>((AF1 fuel a9).bind fun Ah=>(if (!Ah)=true then (some ([],1)) else ((AGo fuel a7).bind fun Ai=>((AF2 fuel a3 a7 a9).bind fun Aj=>((AF2 fuel Ai Aj a9).bind fun Ak=>(some (Ak,0)))))))))
theorem AQc {fuel:Nat} {h:ABu} {Ax:Value} {a3:LiI} {Ay:Value} {a7:LiI} {a9:Int} {r:(LiI × Int)} (H2:AEq (cI .i64) h Ax a3) (H6:AEq (cI .i64) h Ay a7) (hp:AF9 fuel a3 a7 a9=some r):ACo Tryz.prog 59 #[Ax,Ay,(.int .i64 a9)] h (fun x h'=>Ext h h'/\ ∃ (x0:Value) (F0:List Nat) (Be:List LnA) (Bf:List Value),x= .tuple #[x0,.int .i64 r.2]/\AFi (cI .i64) 35 2 h' F0 Be Bf x0 r.1/\Sp h' h.size [F0]):=by
 unfold AF9 at hp;refine cwf (l:=[_,_,_]) Tryz.func59 rfl rfl (ABp (ACr (ABv ?_)));have K0:=Kst.k0 h;obtain ⟨Bg,Bh,Ab⟩:=ABq hp;refine AL7 4294967232 (fun x:Unit=>[]) (fun x h'=>(Sum.inr <| ())=Bg/\Kst h h' (K0.L)) ?_ ?_
 ·refine ABp (Wo ?_);obtain ⟨Bi,Bj,A6⟩:=ABq Bh;refine ADc rfl (ALd (H2.ext K0.x) Bj) fun Cn Co Bl Bm=>?_;subst Bm;refine AEy rfl (Wo ?_);have Ah:=K0.e Bl;cases A7:(!Bi)
  ·refine AB4 11 false (Wo (AB4 11 false ?_));obtain ⟨Bn,Bo,A8⟩:=ABq (AHo A6 A7);refine ADc rfl (ALd (H6.ext Ah.x) Bo) fun Cp Cq Bp Bq=>?_;subst Bq;refine AB4 11 false (AEy rfl (AB0 rfl (Wo ?_)));have Ac:=Ah.e Bp;cases A9:(!Bn)
   ·refine AB4 16 false (Wo (AB4 16 false (ADa ACd rfl H2 (AB4 16 false (Wo (AB4 16 false ?_))))));obtain ⟨Br,Bt,Ba⟩:=ABq (AHo A8 A9);refine AFj ACd rfl H2 rfl Bt fun Cr Ct Cu Bu Bv=>AB4 16 false (AB3 AC0 rfl (AB1 Bu Ac.x) (AB4 16 false (ADi ACp rfl Bv (AB4 16 false (AEt rfl rfl (AB0 rfl (Wo ?_)))))));by_cases Ae: ¬ (a3.length:Int)=(Br.length:Int)
    ·rw [decide_eq_true Ae];refine AHn 25 true (AB5 rfl (ABt (ACh rfl (ABp (ACr (ABv ?_))))));obtain rfl:=ABo (ifT Ba Ae);refine ABx (AB2 ?_);have Ai:=Kst.anil2 (cI .i64) 35 2 Ac;obtain rfl:=ABo Ab;exact ⟨_,ADt,Ai.x,_,_,_,_,rfl,(Ai.o2 p0),Ai.s.sel [0] (by decide)⟩
    ·have Bb:=ifF Ba Ae;rw [decide_eq_false Ae];refine AB4 25 false (Wo (AB4 25 false (ADa ACd rfl H6 (AB4 25 false (Wo (AB4 25 false (ADa ACd rfl H2 (AB4 25 false (AEt rfl rfl (AB0 rfl (ABt (⟨_,rfl,fun Aj=>?_,fun Aj=>?_⟩))))))))))))
     ·refine ABp (ACr (ABv ?_));obtain rfl:=ABo (AC8 Bb Aj);refine ABx (AB2 ?_);have Ak:=Kst.anil2 (cI .i64) 35 2 Ac;obtain rfl:=ABo Ab;exact ⟨_,ADt,Ak.x,_,_,_,_,rfl,(Ak.o2 p0),Ak.s.sel [0] (by decide)⟩
     ·refine ABy (q_t ?_);exact ⟨(():Unit),⟨ABo (AC9 Bb Aj),Ac⟩,trivial⟩
   ·refine AHn 16 true (AKb 16 true (AB5 rfl (Wo (AHn 25 true (AB5 rfl (ABt (ACh rfl (ABp (ACr (ABv ?_))))))))));obtain rfl:=ABo (ifT A8 A9);refine ABx (AB2 ?_);have Am:=Kst.anil2 (cI .i64) 35 2 Ac;obtain rfl:=ABo Ab;exact ⟨_,ADt,Am.x,_,_,_,_,rfl,(Am.o2 p0),Am.s.sel [0] (by decide)⟩
  ·refine AE3 11 true (AB5 rfl (Wo (AHn 16 true (AKb 16 true (AB5 rfl (Wo (AHn 25 true (AB5 rfl (ABt (ACh rfl (ABp (ACr (ABv ?_)))))))))))));obtain rfl:=ABo (ifT A6 A7);refine ABx (AB2 ?_);have Ao:=Kst.anil2 (cI .i64) 35 2 Ah;obtain rfl:=ABo Ab;exact ⟨_,ADt,Ao.x,_,_,_,_,rfl,(Ao.o2 p0),Ao.s.sel [0] (by decide)⟩
 rintro ⟨⟩ Cv Cw ⟨Bw,Bx⟩;subst Bw;refine ABr (ABp (Wo ?_));obtain ⟨Cx,By,Bc⟩:=ABq Ab;refine ADc rfl (ANu By) fun Cy Cz Bz B1=>?_;subst B1;refine AEy rfl (ABt ?_);have Ap:=Bx.e Bz;refine ⟨_,rfl,fun Aq=>?_,fun Aq=>?_⟩
 ·refine ABp (ACr (ABv (ABx (AB2 ?_))));have Ar:=Kst.anil2 (cI .i64) 35 2 Ap;obtain rfl:=ABo (ifT Bc Aq);exact ⟨_,ADt,Ar.x,_,_,_,_,rfl,(Ar.o2 p0),Ar.s.sel [0] (by decide)⟩
 ·refine ABy (q_t (ABp (Wo ?_)));obtain ⟨C0,B3,B4⟩:=ABq (AHo Bc Aq);refine ADc rfl (AQr (H6.ext Ap.x) B3) fun C1 C2 B5 B6=>?_;obtain ⟨C3,C4,C5,C6,rfl,B7,B8⟩:=B6;refine Wo (Wo (Wo ?_));have Au:=Ap.no2 B5 B8 B7;obtain ⟨C7,B9,Ca⟩:=ABq B4;refine ADc rfl (ANv (H2.ext Au.x) (H6.ext Au.x) B9) fun C8 C9 Cb Cd=>?_;obtain ⟨Da,Db,Dc,Dd,rfl,Ce,Cf⟩:=Cd;refine Wo ?_;have Av:=Au.no2 Cb Cf Ce;obtain ⟨De,Cg,Ch⟩:=ABq Ca;refine ADc rfl (ANv (Av.o2 p1).rd (Av.o2 p0).rd Cg) fun Df Dg Ci Cj=>?_;obtain ⟨Dh,Di,Dj,Dk,rfl,Ck,Cm⟩:=Cj;refine ACr (ABv (ABx ?_));have Aw:=Av.no2 Ci Cm Ck;obtain rfl:=ABo Ch;exact ⟨_,ADt,Aw.x,_,_,_,_,rfl,(Aw.o2 p0),Aw.s.sel [0] (by decide)⟩
def AHx (fuel:Nat) (a3:LiI):Option Bool:=
  ((AEx fuel a3).bind fun x5=>(if x5=true then ((gI a3 0).bind fun Ac=>(if (a3.length:Int)=(Ac.length:Int) then (some (decide ((a3.length:Int)<=8))) else (some false))) else (some false)))
theorem AR2 {fuel:Nat} {h:ABu} {Ae:Value} {a3:LiI} {r:Bool} (H2:AEq (cI .i64) h Ae a3) (hp:AHx fuel a3=some r):ACo Tryz.prog 99 #[Ae] h (fun x h'=>Ext h h'/\x= .bool r):=by
 unfold AHx at hp;refine cwf (l:=[_]) Tryz.func99 rfl rfl (ABp (AC4 (Wo ?_)));have K0:=Kst.k0 h;obtain ⟨x5,Ak,Ag⟩:=ABq hp;refine ADc rfl (ALd (H2.ext K0.x) Ak) fun Av h9 E8 Ao=>?_;subst Ao;refine Wo ?_;have Ab:=K0.e E8;cases Ah:x5
 ·refine AHn 5 false (AKb 5 false (AB0 rfl (Wo (AE3 14 false (AB0 rfl (ABv (ABx ?_)))))));obtain rfl:=ABo (AHo Ag Ah);exact ⟨_,ABz,Ab.x,rfl⟩
 ·refine AB4 5 true (Wo (AB4 5 true (ADa ACd rfl H2 (AB4 5 true (Wo (AB4 5 true ?_))))));obtain ⟨Ap,Aq,Ai⟩:=ABq (ifT Ag Ah);refine AFj ACd rfl H2 rfl Aq fun Ax Ay Az Ar Au=>AB4 5 true (AB3 AC0 rfl (AB1 Ar Ab.x) (AB4 5 true (ADi ACp rfl Au (AB4 5 true (AEf rfl rfl (AB5 rfl (Wo ?_)))))));by_cases Ac:(a3.length:Int)=(Ap.length:Int)
  ·rw [decide_eq_true Ac];refine AB4 14 true (Wo (AB4 14 true (ADa ACd rfl H2 (AB4 14 true (AWe rfl rfl (AB5 rfl (ABv (ABx ?_))))))));obtain rfl:=ABo (ifT Ai Ac);exact ⟨_,ABz,Ab.x,rfl⟩
  ·rw [decide_eq_false Ac];refine AE3 14 false (AB0 rfl (ABv (ABx ?_)));obtain rfl:=ABo (ifF Ai Ac);exact ⟨_,ABz,Ab.x,rfl⟩
def AFz (fuel:Nat) (a3:LiI):Option Int:=
  ((AFb fuel a3).bind fun Ab=>((AC7 fuel Ab).bind fun Ac=>(some Ac)))
theorem APu {fuel:Nat} {h:ABu} {Ac:Value} {a3:LiI} {r:Int} (H2:AEq (cI .i64) h Ac a3) (hp:AFz fuel a3=some r):ACo Tryz.prog 102 #[Ac] h (fun x h'=>Ext h h'/\ ∃ (x0:Value),x=x0/\ZZ h' x0 r):=by
 unfold AFz at hp;refine cwf (l:=[_]) Tryz.func102 rfl rfl (ABp (ADj [.bool false,.slice none 0 0] AGm rfl trivial tt2 fun b5 h6 V7 E8 S9=>AK4 (Wo ?_)));have Af:=(Kst.k0 h).nb E8 S9 V7;obtain ⟨Ba,Am,Ao⟩:=ABq hp;refine ADc rfl (AJ6 (H2.ext Af.x) Am) fun Bb Bc Ap Aq=>?_;obtain ⟨Be,Bf,Bg,Bh,rfl,Ar,Au⟩:=Aq;have Ag:=Af.no2 Ap Au Ar;obtain ⟨Bi,Av,Aw⟩:=ABq Ao;refine ADc rfl (AEi (Ag.o2 p0).rd Av) fun Bj Ax Ay Az=>?_;obtain ⟨Bl,rfl,A3⟩:=Az;obtain ⟨A4,rfl,A5⟩:=A3.cs;have Aa:=(Ag.e Ay).az A5;refine AC6 A4 ACf (cZ.klen (Aa.z p0)) (cZ.klen (ACa Ax)) rfl rfl (cZ.one (Aa.z p0)) (Aa.b p2) fun Bm A6 A7=>ABt (ABx ?_);have Ab:=Aa.sb p2 A7 A6 rfl;obtain rfl:=ABo Aw;exact ⟨_,AEe ACf (cZ.klen (Ab.z p0)) rfl (Ab.b p2),Ab.x,_,rfl,(Ab.z p0).2⟩
def AH4 (fuel:Nat) (a3:LiI) (a5:Int):Option (Int × Int):=
  ((AHx fuel a3).bind fun x6=>(if (!x6)=true then (some (0,3)) else ((AF1 fuel a5).bind fun Ad=>(if (!Ad)=true then (some (0,1)) else ((AEr fuel a3 a5).bind fun Ae=>((AFz fuel Ae).bind fun Af=>((AHl fuel Af a5).bind fun Ag=>(some (Ag,0)))))))))
theorem AT7 {fuel:Nat} {h:ABu} {Ad:Value} {a3:LiI} {a5:Int} {r:(Int × Int)} (H2:AEq (cI .i64) h Ad a3) (hp:AH4 fuel a3 a5=some r):ACo Tryz.prog 58 #[Ad,(.int .i64 a5)] h (fun x h'=>Ext h h'/\x= .tuple #[.int .i64 r.1,.int .i64 r.2]):=by
 unfold AH4 at hp;refine cwf (l:=[_,_]) Tryz.func58 rfl rfl (ABp (ACr (ABv (ABr (ABp (Wo ?_))))));have K0:=Kst.k0 h;obtain ⟨x6,Ap,Ai⟩:=ABq hp;refine ADc rfl (AR2 (H2.ext K0.x) Ap) fun Bi Bj E9 Ar=>?_;subst Ar;refine AEy rfl (ABt ?_);have Aj:=K0.e E9;refine ⟨_,rfl,fun Aa=>?_,fun Aa=>?_⟩
 ·refine ABp (ACr (ABv (ABx (AB2 ?_))));obtain rfl:=ABo (ifT Ai Aa);exact ⟨_,ADt,Aj.x,rfl⟩
 ·refine ABy (q_t (ABr (ABp (Wo ?_))));obtain ⟨Bl,Au,Ak⟩:=ABq (AHo Ai Aa);refine ADc rfl (ANu Au) fun Bm Bn Av Aw=>?_;subst Aw;refine AEy rfl (ABt ?_);have Ab:=Aj.e Av;refine ⟨_,rfl,fun Ac=>?_,fun Ac=>?_⟩
  ·refine ABp (ACr (ABv (ABx (AB2 ?_))));obtain rfl:=ABo (ifT Ak Ac);exact ⟨_,ADt,Ab.x,rfl⟩
  ·refine ABy (q_t (ABp (Wo (Wo ?_))));obtain ⟨Bo,Ax,Ay⟩:=ABq (AHo Ak Ac);refine ADc rfl (AKm (H2.ext Ab.x) Ax) fun Bp Bq Az A3=>?_;obtain ⟨Br,Bt,Bu,Bv,rfl,A4,A5⟩:=A3;have Am:=Ab.no2 Az A5 A4;obtain ⟨Bw,A6,A7⟩:=ABq Ay;refine ADc rfl (APu (Am.o2 p0).rd A6) fun Bx By A8 A9=>?_;obtain ⟨Bz,rfl,Ba⟩:=A9;obtain ⟨B1,rfl,Bb⟩:=Ba.cs;refine Wo ?_;have Ao:=(Am.e A8).az Bb;obtain ⟨B3,Bc,Be⟩:=ABq A7;refine ADc rfl (ARt (Ao.z p0).2 Bc) fun B4 B5 Bf Bg=>?_;subst Bg;refine ACr (ABv (ABx ?_));obtain rfl:=ABo Be;exact ⟨_,ADt,(Ao.e Bf).x,rfl⟩
end Go.Proofs.YtdnbklmefmoofaaGreatDoor
namespace Go.QF
theorem AY7:∀ {n:Nat} {m:Int} {F G:Nat->Nat->Int},(∀ i j,i < n->j < n->Eqm m (F i j) (G i j))->Eqm m (det n F) (det n G):=by
 intro n m
 induction n with
 | zero=>intro _ _ _;rfl
 | succ n ih=>
   intro F G h
   refine Eqm.psum fun i hi=>?_
   exact ((Eqm.refl _ _).mul (h i 0 hi (by omega))).mul (ih (F:=AGr i F) (G:=AGr i G) fun a b ha hb=>h _ _ (Amz ha) (by omega))
theorem Aj5 {n c i:Nat} {q m:Int} {F:Nat->Nat->Int} (hc:c < n) (hi:i < n) (hne:c≠i):Eqm m (det n (AS1 F c i q m)) (-det n F):=by
  rw [<- ANp (F:=F) hc hi hne (-q),<- ARq (F:=ADz F c fun x=>F c x + -q * F i x) hc hi hne];refine AY7 fun a b ha hb=>?_;unfold AS1;rw [ALw,ALw];simp only [ADk]
  have key:Eqm m ((F c b + (m - q) * F i b) % m) (F c b + -q * F i b):=by
    refine (Eqm.mod _ _).trans ?_;unfold Eqm;rw [show F c b + (m - q) * F i b=F c b + -q * F i b + m * F i b by grind,Int.add_mul_emod_self_left]
  split
  · split <;> first | exact key | rfl
  · split
    · split <;> first | exact key | rfl
    · first | rfl | exact key
theorem Anl {F:Nat->Nat->Int} {m s:Int}:∀ n,Eqm m (ATn F m s n) (s * AH7 (fun i=>F i i) n):=by
 intro n
 induction n with
 | zero=>unfold ATn AH7 Eqm;rw [Int.add_emod_right,Int.mul_one]
 | succ n ih=>
   unfold ATn AH7
   refine (Eqm.mod _ _).trans ?_
   rw [<- Int.mul_assoc]
   exact ((Eqm.mod _ _).trans ih).mul (Eqm.refl _ _)
def Asx (M:List (List Int)) (m:Int):Int:=if AO7 M && AYn m then det M.length (ent M) % m else 0
def Asy (M:List (List Int)) (m:Int):Int:=if AO7 M then (if AYn m then 0 else 1) else 3
end Go.QF
namespace Go.Proofs.YtdnbklmefmoofaaGreatDoor
open Go Go.QF
end Go.Proofs.YtdnbklmefmoofaaGreatDoor
namespace Go.Proofs.YtdnbklmefmoofaaGreatDoor
open Go Go.QF
theorem Asz {fuel:Nat} {a m:Int} (hm:0 < m) (Ae:m<=2147483647):AJe fuel a m=some (a % m):=by
 unfold AJe;rw [if_pos (by omega)];have h1:=Int.tmod_lt_of_pos a hm
 have h2: -m < Int.tmod a m:=by
   have:=Int.tmod_lt_of_pos (-a) hm
   rw [Int.neg_tmod] at this;omega
 have h3:Int.tmod a m=a % m∨Int.tmod a m=a % m - m:=by
   rcases Int.lt_or_le a 0 with h | h
   · have e1:Int.tmod a m= -((-a) % m):=by rw [show a= -(-a) by omega,Int.neg_tmod,Int.tmod_eq_emod_of_nonneg (by omega)];simp
     rcases Int.lt_or_eq_of_le (Int.emod_nonneg (-a) (by omega:m≠0)) with h4 | h4
     · right
       rw [e1]
       have:=Int.emod_add_mul_ediv (-a) m
       have h5:a % m=m - (-a) % m:=by
         have h6:=Int.emod_lt_of_pos (-a) hm
         have e:a=(m - (-a) % m) + m * (-(-a / m) - 1):=by
           have e0:m * (-(-a / m) - 1)= -(m * (-a / m)) - m:=by rw [Int.mul_sub,Int.mul_neg,Int.mul_one]
           omega
         conv=>lhs;rw [e]
         rw [Int.add_mul_emod_self_left,Int.emod_eq_of_lt (by omega) (by omega)]
       omega
     · left
       rw [e1,<- h4]
       have:m ∣ -a:=Int.dvd_of_emod_eq_zero h4.symm
       have:m ∣ a:=(Int.dvd_neg).1 this
       rw [Int.emod_eq_zero_of_dvd this];rfl
   · left;exact Int.tmod_eq_emod_of_nonneg h
 have h4:=Int.emod_nonneg a (by omega:m≠0);have h5:=Int.emod_lt_of_pos a hm;rcases h3 with h3 | h3
 ·rw [if_neg (by omega),h3]
 ·rw [if_pos (by omega),wk (by omega)];congr 1;omega
theorem Aih {fuel:Nat} {A:List (List Int)} (hf:21 < fuel):AEx fuel A=some (AQh A):=by
 apply ok_eq;unfold AEx;have hbad:∀ h: ¬ Valid A,AQh A=false:=fun h=>(Ak8 h).symm;refine ABs (Q:=fun ex=>match ex with | .inl e=>e=false/\AQh A=false | .inr _=>1<=A.length/\A.length<=16) (AB7 (fun h=>ABn ⟨rfl,hbad fun hv=>by have:=hv.1;omega⟩) fun h=>AB7 (fun h2=>ABn ⟨rfl,hbad fun hv=>by have:=hv.2.1;omega⟩) fun h2=>ABn ⟨by omega,by omega⟩) fun ex hex=>?_
 cases ex with
 | inl e=>exact ABn (hex.1.trans hex.2.symm)
 | inr u=>
   dsimp only at hex ⊢
   obtain ⟨z0,Aa⟩:∃ z,A[0]? =some z:=⟨A[0]'(by omega),List.getElem?_eq_getElem _⟩
   have hc:=AQ5 Aa
   refine ABs (AC3 (fun i (s:Int)=>s=(i:Int)/\ ∀ z∈A.take i,1<=z.length/\z.length<=16/\z.length=AN0 A) A.length (Q:=fun ex=>match ex with | .inl e=>e=false/\AQh A=false | .inr _=>AQh A=true) ⟨rfl,by simp⟩ (by omega) fun i s hi hI=>?_) fun ex Ac=>?_
   · obtain ⟨rfl,hI⟩:=hI
     unfold ALc
     refine AB7 (fun h=>?_) (fun h=>ABn ?_)
     · have hi':i < A.length:=by omega
       obtain ⟨row,hrow⟩:∃ row,A[i]? =some row:=⟨A[i],List.getElem?_eq_getElem hi'⟩
       have bad: ¬ (1<=row.length/\row.length<=16/\row.length=AN0 A)->AQh A=false:=fun hb=>hbad fun hv=>hb (by have:=hv.2.2.2.2 row (List.mem_of_getElem? hrow);have:=hv.2.2.1;have:=hv.2.2.2.1;omega)
       refine ACj hrow rfl (ACj Aa rfl (AB7 (fun h1=>ABn ⟨rfl,bad (by omega)⟩) fun h1=>AB7 (fun h2=>ABn ⟨rfl,bad (by omega)⟩) fun h2=>AB7 (fun h3=>ABn ⟨rfl,bad (by omega)⟩) fun h3=>ABn ⟨hi',wk (by omega),?_⟩))
       rw [List.take_add_one,hrow]
       intro z hz
       rcases List.mem_append.1 hz with hz | hz
       · exact hI z hz
       · rw [show z=row by simpa using hz];omega
     · obtain rfl:i=A.length:=by omega
       rw [List.take_length] at hI
       refine (Ak9 ⟨hex.1,hex.2,?_,?_,fun z hz=>(hI z hz).2.2⟩).symm
       · have:=hI z0 (List.mem_of_getElem? Aa);omega
       · have:=hI z0 (List.mem_of_getElem? Aa);omega
   · cases ex with
     | inl e=>exact ABn (Ac.1.trans Ac.2.symm)
     | inr u=>exact ABn Ac.symm
theorem Aj6 {fuel:Nat} {row:List Int} {m:Int} (hm:0 < m) (Aa:m<=2147483647) (hl:row.length<=100000000) (hf:row.length < fuel):iter (fun s=>AIa fuel m row s.1 s.2) fuel ([],0)=some (row.map (· % m)):=by
 apply ok_eq;refine AC3 (fun i s=>s=((row.take i).map (· % m),(i:Int))) row.length (by simp) hf fun i s hi hI=>?_;subst hI;unfold AIa;dsimp only;refine AB7 (fun h=>?_) (fun h=>ABn ?_)
 ·obtain ⟨x,hx⟩:∃ x,row[i]? =some x:=⟨row[i]'(by omega),List.getElem?_eq_getElem _⟩;refine ACj hx rfl (ABs (AC1 (Asz hm Aa)) fun y hy=>AD8 (by simp;omega) (ABn ⟨by omega,?_⟩));subst hy;rw [wk (by omega),List.take_add_one,hx];simp
 ·obtain rfl:i=row.length:=by omega
  rw [List.take_length]
theorem Ae6 {fuel:Nat} {A:List (List Int)} {m:Int} (hm:0 < m) (Aa:m<=2147483647) (hl:A.length<=100000000) (hf:A.length < fuel) (hr:∀ z∈A,z.length<=100000000/\z.length < fuel):AEr fuel A m=some (AP7 A m):=by
 apply ok_eq;unfold AEr;refine ABs (AC3 (fun i s=>s=(AP7 (A.take i) m,(i:Int))) A.length (Q:=(· =AP7 A m)) (by simp [AP7]) hf fun i s hi hI=>?_) fun x hx=>ABn hx;subst hI;unfold AKl;dsimp only;refine AB7 (fun h=>?_) (fun h=>ABn ?_)
 ·have hi':i < A.length:=by omega
  obtain ⟨row,hrow⟩:∃ row,A[i]? =some row:=⟨A[i],List.getElem?_eq_getElem hi'⟩;have:=hr row (List.mem_of_getElem? hrow);refine ACj hrow rfl (ABs (AC1 (Aj6 hm Aa this.1 this.2)) fun y hy=>AD8 (by simp [AP7];omega) (ABn ⟨hi',?_⟩));subst hy;rw [wk (by omega),List.take_add_one,hrow];simp [AP7]
 ·obtain rfl:i=A.length:=by omega
  rw [List.take_length]
theorem Ab5 {fuel:Nat} {m:Int}:AF1 fuel m=some (AYn m):=by
 unfold AF1 AYn;split
 ·congr 1;simp;omega
 ·congr 1;symm;simp;omega
theorem Anm {fuel:Nat} {A:List (List Int)} (hf:21 < fuel):AHx fuel A=some (AO7 A):=by
 apply ok_eq;unfold AHx;refine ABs (AC1 (Aih hf)) fun v hv=>?_;subst hv;refine AB7 (fun h=>?_) (fun h=>ABn ?_)
 ·have hv:Valid A:=by simpa [AQh] using h
  obtain ⟨z0,Ab⟩:∃ z,A[0]? =some z:=⟨A[0]'(by have:=hv.1;omega),List.getElem?_eq_getElem _⟩;have hc:=AQ5 Ab;refine ACj Ab rfl (AB7 (fun h2=>ABn ?_) (fun h2=>ABn ?_))
  ·unfold AO7;rw [Bool.eq_iff_iff];simp only [decide_eq_true_eq];constructor
   ·intro h3;exact ⟨hv,by omega,by omega⟩
   ·intro h3;have:=h3.2.2;omega
  ·symm;unfold AO7;rw [decide_eq_false_iff_not];intro h3;have:=h3.2.1;omega
 ·symm;unfold AO7;rw [decide_eq_false_iff_not];intro h3;exact h (by simpa [AQh] using h3.1)
theorem Aj7 {fuel:Nat} {d m:Int} (hm:0 < m) (Aa:m<=2147483647) (hd:d.natAbs < AFa):AHl fuel d m=some (d % m):=by
 have h4:=Int.emod_nonneg d (by omega:m≠0);have h5:=Int.emod_lt_of_pos d hm;have hb:m.natAbs < AFa:=Nat.lt_of_lt_of_le (show m.natAbs < 2147483648 by omega) (by decide);unfold AHl ALi;rw [if_pos (by omega)];show (AFq fuel d m).bind _=_;unfold AFq AS4;rw [if_pos ⟨hd,hb,by omega⟩];show (AVm fuel (d % m)).bind _=_;unfold AVm;rw [if_pos (by omega)];rfl
theorem AYj {A:List (List Int)} {m:Int} (hm:0 < m) (Aa:m<=2147483647) (i j:Nat):(ent (AP7 A m) i j).natAbs<=m63:=by
 rw [Ahj];have h4:=Int.emod_nonneg (ent A i j) (by omega:m≠0);have h5:=Int.emod_lt_of_pos (ent A i j) hm;unfold m63;omega
theorem Aak {A:List (List Int)} {m:Int} (h:AO7 A=true):AP7 A m=tab A.length A.length (ent (AP7 A m))/\okM (AP7 A m)=true/\A.length<=8/\1<=A.length:=by
 have hs:AZm A:=by simpa [AO7] using h
 obtain ⟨hv,h1,h2⟩:=hs
 have hr:∀ z∈AP7 A m,z.length=A.length:=fun z hz=>by
   obtain ⟨y,hy,rfl⟩:=List.mem_map.1 hz
   rw [List.length_map,hv.2.2.2.2 y hy];omega
 refine ⟨?_,?_,h2,hv.1⟩
 ·have:=AXs hr;rwa [Ahi] at this
 ·unfold okM;rw [decide_eq_true_eq,Ahi];refine ⟨hv.1,by omega,fun z hz=>?_⟩;rw [hr z hz,Ale];exact ⟨hv.1,by omega,h1⟩
theorem Ag1 {fuel:Nat} {A:List (List Int)} {m:Int} (hf:21 < fuel) (hs:AO7 A=true) (hm:AYn m=true):AFz fuel (AP7 A m)=some (det A.length (ent (AP7 A m))):=by
 have hm':2<=m/\m<=2147483647:=by simpa [AYn] using hm
 obtain ⟨ht,hok,h8,h1⟩:=Aak (m:=m) hs;unfold AFz
 have hr:∀ z∈AP7 A m,∀ x∈z,-9223372036854775808<=x/\x<=9223372036854775807:=fun z hz x hx=>by
   obtain ⟨y,hy,rfl⟩:=List.mem_map.1 hz
   obtain ⟨w,hw,rfl⟩:=List.mem_map.1 hx
   have h4:=Int.emod_nonneg w (by omega:m≠0)
   have h5:=Int.emod_lt_of_pos w (by omega:0 < m)
   omega
 rw [Arn hr (by omega),hok];show (AC7 fuel (AP7 A m)).bind _=_;have:=Asq (fuel:=fuel) (n:=A.length) (F:=ent (AP7 A m)) (by omega) (fun i j=>AYj (by omega) (by omega) i j) (by omega);rw [<- ht] at this;rw [this];rfl
theorem Aqi {A:List (List Int)} {m:Int} {n:Nat} (hm:0 < m) (Aa:m<=2147483647) (hn:n<=16):(det n (ent (AP7 A m))).natAbs < AFa:=Anb (Nat.le_trans (AW9 fun i j=>AYj hm Aa i j) (Anc hn).1)
theorem Ae7 {A:List (List Int)} {m:Int} {n:Nat}:det n (ent (AP7 A m)) % m=det n (ent A) % m:=AY7 fun i j _ _=>by rw [Ahj];exact Eqm.mod _ _
theorem Ann {fuel:Nat} {A:List (List Int)} {m:Int} (hf:21 < fuel) (hl:A.length<=20/\ ∀ z∈A,z.length<=20):AH4 fuel A m=some (Asx A m,Asy A m):=by
 apply ok_eq;unfold AH4 Asx Asy;refine ABs (AC1 (Anm hf)) fun v hv=>?_;subst hv
 cases hs:AO7 A with
 | false=>exact ABn rfl
 | true=>
   refine AB7 (fun h=>by cases h) fun _=>ABs (AC1 Ab5) fun v hv=>?_
   subst hv
   cases hm:AYn m with
   | false=>exact ABn rfl
   | true=>
     have hm':2<=m/\m<=2147483647:=by simpa [AYn] using hm
     refine AB7 (fun h=>by cases h) fun _=>ABs (AC1 (Ae6 (by omega) (by omega) (by omega) (by omega) fun z hz=>by have:=hl.2 z hz;omega)) fun R hR=>?_
     subst hR
     refine ABs (AC1 (Ag1 hf hs hm)) fun d hd=>?_
     subst hd
     obtain ⟨ht,hok,h8,h1⟩:=Aak (m:=m) hs
     refine ABs (AC1 (Aj7 (by omega) (by omega) (Aqi (by omega) (by omega) (by omega)))) fun x hx=>ABn ?_
     subst hx
     rw [Ae7];rfl
end Go.Proofs.YtdnbklmefmoofaaGreatDoor
namespace Go.QF
def As0 (n:Nat) (F:Nat->Nat->Int) (i j:Nat):Int:=det n (ADz F i (dl j))
def Aal (n:Nat) (F:Nat->Nat->Int) (i j:Nat):Int:=As0 n F j i
def tau (j c:Nat):Nat:=if c=j then j + 1 else if c=j + 1 then j else c
theorem Ae8 {n j:Nat} {F:Nat->Nat->Int} (hj:j + 1 < n):det n (fun r c=>F r (tau j c))= -det n F:=by
 rw [<- ARs (fun r c=>F r (tau j c)),<- ARs F,<- ARq (F:=trF F) (a:=j) (b:=j + 1) (by omega) hj (by omega)];refine AD6 fun c r hc hr=>?_;rw [ALw];show F r (tau j c)=if c=j + 1 then F r j else if c=j then F r (j + 1) else F r c;unfold tau;by_cases h1:c=j + 1
 ·subst h1;simp
 ·by_cases h2:c=j
  ·subst h2;simp
  ·simp [h1,h2]
theorem ATd {f:Nat->Int} {n a:Nat} (ha:a < n) (h:∀ i,i < n->i≠a->f i=0):psum f n=f a:=by
 rw [ADd (g:=fun i=>if i=a then f a else 0) (fun k hk=>?_),ALv ha (fun i hi=>if_neg hi),if_pos rfl];by_cases e:k=a
 ·subst e;rw [if_pos rfl]
 ·rw [if_neg e,h k hk e]
theorem Aqj {n:Nat} {F:Nat->Nat->Int} {i j:Nat} (hi:i < n) (hj:j < n):psum (fun k=>F i k * As0 n F j k) n=if i=j then det n F else 0:=by
 have h:=AZ8 (F:=F) hj (F i) dl n
 have e:det n (ADz F j fun q=>psum (fun k=>F i k * dl k q) n)=det n (ADz F j (F i)):=AD6 fun r c _ hc=>by
   rw [ADk,ADk]
   split
   · exact Am6 (F:=F) (i:=i) hc
   · rfl
 unfold As0;rw [<- h,e];split
 ·subst_vars
  refine AD6 fun r c _ _=>?_;rw [ADk];split
  ·subst_vars;rfl
  ·rfl
 ·rename_i hij;refine AO0 hi hj hij ?_;funext c;rw [ADk,if_neg hij,ADk,if_pos rfl]
theorem Aj8 {n:Nat} {F:Nat->Nat->Int} {i j:Nat} (hi:i < n) (hj:j < n):psum (fun k=>F i k * Aal n F k j) n=det n F * dl i j:=by
 unfold Aal;rw [Aqj hi hj];unfold dl;split <;> simp
end Go.QF
namespace Go.Proofs.YtdnbklmefmoofaaGreatDoor
open Go Go.QF
theorem Ae9 {fuel n r c:Nat} {F:Nat->Nat->Int} {f g:Nat->Nat} (hr:r<=100) (hc:c<=100) (hf:100 < fuel) (hfn:∀ a,a < r->f a < n) (hgn:∀ a,a < c->g a < n):AGb fuel (tab n n F) (AEl r fun a=>(f a:Int)) (AEl c fun a=>(g a:Int))=some (tab r c fun a b=>F (f a) (g b)):=by
 apply ok_eq;unfold AGb;refine ABs (AC3 (fun i s=>s=(AEl i fun a=>AEl c fun b=>F (f a) (g b),(i:Int))) r (Q:=(· =tab r c fun a b=>F (f a) (g b))) rfl (by omega) fun i s hi hI=>?_) fun y hy=>ABn hy;subst hI;unfold AKe;dsimp only;rw [ACy];refine AB7 (fun h=>?_) (fun h=>ABn ?_)
 ·have hi':i < r:=by omega
  refine ACj (ACk hi') rfl (ABs (AC3 (fun j s=>s=(AEl j fun b=>F (f i) (g b),(j:Int))) c (Q:=(· =AEl c fun b=>F (f i) (g b))) rfl (by omega) fun j s hj hJ=>?_) fun e he=>AD8 (by rw [ACy];omega) (ABn ⟨hi',?_⟩))
  ·subst hJ;unfold AKd;dsimp only;rw [ACy,ACy];refine AB7 (fun h2=>?_) (fun h2=>ABn ?_)
   ·have hj':j < c:=by omega
    refine ACj (ACk hj') rfl (ACj (ACv (hfn i hi')) rfl (ACj (ACk (hgn j hj')) rfl (AD8 (by omega) (ABn ⟨hj',?_⟩))));rw [wk (by omega),<- AOy];rfl
   ·obtain rfl:j=c:=by omega
    rfl
  ·subst he;rw [wk (by omega),<- AOy];rfl
 ·obtain rfl:i=r:=by omega
  rfl
theorem Ab6 {fuel n:Nat} {F:Nat->Nat->Int} (hn:1<=n) (Ad:n<=16) (hf:100 < fuel):AFc fuel (tab n n F)=some ((n:Int),true):=by
 apply ok_eq;unfold AFc;refine ABs (Q:=(· =((n:Int),(n:Int),true))) ?_ fun e he=>?_
 ·unfold AD1;rw [ACt];refine ABs (Q:=fun ex=>match ex with | .inl _=>False | .inr _=>True) (AB7 (fun h=>by omega) fun h=>AB7 (fun h2=>by omega) fun h2=>ABn trivial) fun ex hex=>?_
  cases ex with
  | inl e=>exact hex.elim
  | inr u=>
    dsimp only
    refine ABs (AC3 (fun i (s:Int)=>s=i) n (Q:=fun ex=>match ex with | .inl _=>False | .inr _=>True) rfl (by omega) fun i s hi hI=>?_) fun ex hex=>?_
    · subst hI
      unfold AG1
      rw [ACt]
      refine AB7 (fun h=>ACj (ACv (by omega)) rfl ?_) fun h=>ABn trivial
      rw [ACy]
      refine AB7 (fun h2=>by omega) fun h2=>AB7 (fun h3=>by omega) fun h3=>ACj (n:=0) (ACv (by omega)) rfl (AB7 (fun h4=>?_) fun h4=>ABn ⟨by omega,wk (by omega)⟩)
      rw [ACy] at h4;omega
    · cases ex with
      | inl e=>exact hex.elim
      | inr u=>exact ACj (n:=0) (ACv (by omega)) rfl (ABn (by rw [ACy]))
 ·subst he;dsimp only;exact AB7 (fun h=>by cases h) fun _=>AB7 (fun h=>absurd rfl h) fun _=>ABn rfl
end Go.Proofs.YtdnbklmefmoofaaGreatDoor
namespace Go.QF
def AMx (n:Nat) (A:Nat->Nat->Int):Prop:= ∀ i j,i < n->j < n->A i j=A j i
def AOi (n:Nat) (A:Nat->Nat->Int):Prop:= ∀ k,k<=n->0 < det k A
theorem AQs {k i r n:Nat} (hk:k<=n) (hi:i < n):bro k i r < n:=by unfold bro;split <;> omega
theorem Ag2 {n k:Nat} {A:Nat->Nat->Int} (hs:AMx n A) (hk:k<=n) {i j:Nat} (hi:i < n) (hj:j < n):Mn k A i j=Mn k A j i:=by
 unfold Mn;rw [<- ARs];refine AD6 fun r c _ _=>?_;exact hs _ _ (AQs hk hi) (AQs hk hj)
theorem Ag3 {k:Nat} (A:Nat->Nat->Int) {i:Nat} (j:Nat) (hi:i < k):Mn k A i j=0:=by
 unfold Mn;refine AO0 (a:=i) (b:=k) (by omega) (by omega) (by omega) ?_;funext c;unfold bro;simp [hi]
def bil (n k:Nat) (A:Nat->Nat->Int) (x y:Nat->Int):Int:=psum (fun i=>psum (fun j=>Mn k A i j * x i * y j) n) n
def lin (n k:Nat) (A:Nat->Nat->Int) (x:Nat->Int):Int:=psum (fun j=>Mn k A k j * x j) n
theorem Aj9 (f g:Nat->Int) (n:Nat):psum (fun i=>psum (fun j=>f i * g j) n) n=psum f n * psum g n:=by
 rw [ADd (g:=fun i=>psum g n * f i) (fun i _=>by rw [AIg,Int.mul_comm]),AIg,Int.mul_comm]
theorem Au8 {n k:Nat} {A:Nat->Nat->Int} (hs:AMx n A) (hk:k < n) (h0:det k A≠0) (x y:Nat->Int):det (k + 1) A * bil n k A x y=lin n k A x * lin n k A y + det k A * bil n (k + 1) A x y:=by
 unfold bil;rw [<- AIg,<- AIg];have e1:lin n k A x * lin n k A y=psum (fun i=>psum (fun j=>Mn k A k i * x i * (Mn k A k j * y j)) n) n:=(Aj9 (fun i=>Mn k A k i * x i) (fun j=>Mn k A k j * y j) n).symm;rw [e1,<- AOh];refine ADd fun i hi=>?_;rw [<- AIg,<- AIg,<- AOh];refine ADd fun j hj=>?_;have h:=AVp (k:=k) (A:=A) h0 i j;rw [ALk,Ag2 hs (by omega) hi hk] at h;have h2:det (k + 1) A * Mn k A i j=Mn k A k i * Mn k A k j + det k A * Mn (k + 1) A i j:=by omega
 grind
theorem Aqk (n:Nat) (A:Nat->Nat->Int) (x y:Nat->Int):bil n n A x y=0:=by
 unfold bil;rw [ADd (g:=fun _=>0) fun i hi=>?_]
 ·exact AQ3 n
 ·rw [ADd (g:=fun _=>0) fun j _=>by rw [Ag3 A j hi];simp];exact AQ3 n
theorem ARu {n:Nat} {A:Nat->Nat->Int} (hs:AMx n A) (hp:AOi n A) (x:Nat->Int):∀ d k,k + d=n->0<=bil n k A x x:=by
 intro d
 induction d with
 | zero=>
     intro k hk;obtain rfl:k=n:=by omega
     rw [Aqk];exact Int.le_refl _
 | succ d ih=>
   intro k hk
   have h1:=ih (k + 1) (by omega)
   have h2:=hp k (by omega)
   have h3:=hp (k + 1) (by omega)
   have h4:=Au8 hs (show k < n by omega) (by omega) x x
   have h5:0<=lin n k A x * lin n k A x:=by
     rcases Int.le_total 0 (lin n k A x) with h | h
     · exact Int.mul_nonneg h h
     · exact Int.mul_nonneg_of_nonpos_of_nonpos h h
   have h6:=Int.mul_nonneg (Int.le_of_lt h2) h1
   exact Int.nonneg_of_mul_nonneg_right (by omega) h3
theorem Adf {n k:Nat} {A:Nat->Nat->Int} (a b:Int) (x y z:Nat->Int):bil n k A (fun i=>a * x i + b * y i) z=a * bil n k A x z + b * bil n k A y z:=by
 unfold bil;rw [<- AIg,<- AIg,<- AOh];refine ADd fun i _=>?_;rw [<- AIg,<- AIg,<- AOh];exact ADd fun j _=>by grind
theorem Adg {n k:Nat} {A:Nat->Nat->Int} (hs:AMx n A) (hk:k<=n) (x y:Nat->Int):bil n k A x y=bil n k A y x:=by
 unfold bil;rw [Abq];refine ADd fun j hj=>ADd fun i hi=>?_;rw [Ag2 hs hk hi hj];grind
theorem Ano {n k:Nat} {A:Nat->Nat->Int} (hs:AMx n A) (hp:AOi n A) (hk:k<=n) (x y:Nat->Int):bil n k A x y * bil n k A x y<=bil n k A x x * bil n k A y y:=by
  obtain ⟨p,hpq⟩:∃ p,bil n k A x y=p:=⟨_,rfl⟩;obtain ⟨q,hq⟩:∃ q,bil n k A x x=q:=⟨_,rfl⟩;obtain ⟨r,hr⟩:∃ r,bil n k A y y=r:=⟨_,rfl⟩;have hyx:bil n k A y x=p:=by rw [Adg hs hk];exact hpq
  have key:∀ a b:Int,0<=a * (a * q + b * p) + b * (a * p + b * r):=fun a b=>by
    have h:=ARu hs hp (fun i=>a * x i + b * y i) (n - k) k (by omega);rw [Adf,Adg hs hk x (fun i=>a * x i + b * y i),Adf,Adg hs hk y (fun i=>a * x i + b * y i),Adf,hpq,hq,hr,hyx] at h;exact h
  rw [hpq,hq,hr];have hq0:0<=q:=hq ▸ ARu hs hp x (n - k) k (by omega)
  rcases Int.lt_or_eq_of_le hq0 with h | h
  · have h1:=key p (-q);have e:p * (p * q + -q * p) + -q * (p * p + -q * r)=q * (q * r - p * p):=by grind
    rw [e] at h1;have:=Int.nonneg_of_mul_nonneg_right h1 h;omega
  · subst h;have h1:=key (-(r + 1)) p;have h2:=key 1 0;have e: -(r + 1) * (-(r + 1) * 0 + p * p) + p * (-(r + 1) * p + p * r)= -((r + 2) * (p * p)):=by grind
    rw [e] at h1;have hr0:0<=r:=hr ▸ ARu hs hp y (n - k) k (by omega)
    have hpp:0<=p * p:=by
      rcases Int.le_total 0 p with h | h
      · exact Int.mul_nonneg h h
      · exact Int.mul_nonneg_of_nonpos_of_nonpos h h
    have:0<=r * (p * p):=Int.mul_nonneg hr0 hpp;have e2:(r + 2) * (p * p)=r * (p * p) + 2 * (p * p):=by grind
    rw [Int.zero_mul];omega
theorem AXe {n k:Nat} {A:Nat->Nat->Int} {i j:Nat} (hi:i < n) (hj:j < n):bil n k A (dl i) (dl j)=Mn k A i j:=by
 unfold bil;rw [ATd hi (fun a ha hne=>?_),ATd hj (fun b hb hne=>?_)]
 ·simp [dl]
 ·unfold dl;rw [if_neg (fun h:j=b=>hne h.symm)];simp
 ·rw [ADd (g:=fun _=>0) fun b _=>by unfold dl;rw [if_neg (fun h:i=a=>hne h.symm)];simp];exact AQ3 n
theorem AX2 {n k:Nat} {A:Nat->Nat->Int} (hs:AMx n A) (hp:AOi n A) (hk:k<=n) {i j:Nat} (hi:i < n) (hj:j < n):Mn k A i j * Mn k A i j<=Mn k A i i * Mn k A j j:=by
 have:=Ano hs hp hk (dl i) (dl j);rwa [AXe hi hj,AXe hi hi,AXe hj hj] at this
theorem AX3 {n k:Nat} {A:Nat->Nat->Int} (hs:AMx n A) (hp:AOi n A) (hk:k<=n) {i:Nat} (hi:i < n):0<=Mn k A i i:=by
 have:=ARu hs hp (dl i) (n - k) k (by omega);rwa [AXe hi hi] at this
theorem Adh {n k:Nat} {A:Nat->Nat->Int} (hs:AMx n A) (hp:AOi n A) (hk:k < n) {i:Nat} (hi:i < n):det (k + 1) A * Mn k A i i=Mn k A i k * Mn k A i k + det k A * Mn (k + 1) A i i:=by
 have h:=AVp (k:=k) (A:=A) (by have:=hp k (by omega);omega) i i;rw [ALk,<- Ag2 hs (by omega) hi hk] at h;omega
theorem Anp {n:Nat} {A:Nat->Nat->Int} (hs:AMx n A) (hp:AOi n A) {i:Nat} (hi:i < n):∀ k,k<=n->Mn k A i i<=det k A * A i i:=by
 intro k
 induction k with
 | zero=>intro _;rw [APi];simp [det]
 | succ k ih=>
   intro hk
   have h1:=ih (by omega)
   have h2:=Adh hs hp (show k < n by omega) hi
   have h3:0<=Mn k A i k * Mn k A i k:=by
     rcases Int.le_total 0 (Mn k A i k) with h | h
     · exact Int.mul_nonneg h h
     · exact Int.mul_nonneg_of_nonpos_of_nonpos h h
   have h4:=hp k (by omega)
   have h5:=hp (k + 1) (by omega)
   have h6:det (k + 1) A * Mn k A i i<=det (k + 1) A * (det k A * A i i):=Int.mul_le_mul_of_nonneg_left h1 (by omega)
   have h7:det k A * Mn (k + 1) A i i<=det k A * (det (k + 1) A * A i i):=by
     have e:det (k + 1) A * (det k A * A i i)=det k A * (det (k + 1) A * A i i):=by grind
     omega
   exact Int.le_of_mul_le_mul_left h7 h4
theorem Anq {n:Nat} {A:Nat->Nat->Int} (hs:AMx n A) (hp:AOi n A) {B:Int} (hB:1<=B) (hA:∀ i,i < n->A i i<=B):∀ k,k<=n->det k A<=B ^ k:=by
  intro k;induction k with
  | zero=>intro _;simp [det]
  | succ k ih=>
    intro hk;have h1:=ih (by omega);have h2:=Anp hs hp (show k < n by omega) k (by omega);rw [ALk] at h2;have h3:=hp k (by omega);have h4:det k A * A k k<=det k A * B:=Int.mul_le_mul_of_nonneg_left (hA k (by omega)) (by omega);have h5:det k A * B<=B ^ k * B:=Int.mul_le_mul_of_nonneg_right h1 (by omega);rw [Int.pow_succ];omega
theorem Aql {n:Nat} {A:Nat->Nat->Int} (hs:AMx n A) (hp:AOi n A) (x:Nat->Int) {k:Nat} (hk:k < n):x k * x k<=Aal n A k k * bil n 0 A x x:=by
  have hd:=hp n (Nat.le_refl _)
  have hB:∀ y z:Nat->Int,bil n 0 A y z=psum (fun i=>y i * psum (fun j=>A i j * z j) n) n:=fun y z=>by
    unfold bil;refine ADd fun i _=>?_;rw [<- AIg];exact ADd fun j _=>by rw [APi];grind
  have h1:∀ y:Nat->Int,bil n 0 A y (fun j=>Aal n A j k)=det n A * y k:=fun y=>by
    rw [hB,ADd (g:=fun i=>y i * (det n A * dl i k)) (fun i hi=>by rw [Aj8 hi hk])];rw [ATd hk (fun i _ hne=>by unfold dl;rw [if_neg hne];simp)];simp [dl,Int.mul_comm]
  have h2:=Ano hs hp (Nat.zero_le n) x (fun j=>Aal n A j k);rw [h1 x,h1 (fun j=>Aal n A j k)] at h2;have e1:det n A * x k * (det n A * x k)=det n A * (det n A * (x k * x k)):=by grind
  have e2:bil n 0 A x x * (det n A * Aal n A k k)=det n A * (Aal n A k k * bil n 0 A x x):=by grind
  rw [e1,e2] at h2;have h3:=Int.le_of_mul_le_mul_left h2 hd
  have h4:0<=x k * x k:=by
    rcases Int.le_total 0 (x k) with h | h
    · exact Int.mul_nonneg h h
    · exact Int.mul_nonneg_of_nonpos_of_nonpos h h
  have h5:1 * (x k * x k)<=det n A * (x k * x k):=Int.mul_le_mul_of_nonneg_right (by omega) h4;omega
def AX4 (A:Nat->Nat->Int) (i j:Nat) (c:Int):Nat->Nat->Int:=ADz A i fun s=>A i s + c * A j s
def Anr (A:Nat->Nat->Int) (i j:Nat) (c:Int):Nat->Nat->Int:=trF (AX4 (trF A) i j c)
def AXf (A:Nat->Nat->Int) (i j:Nat) (c:Int):Nat->Nat->Int:=Anr (AX4 A i j c) i j c
def swA (A:Nat->Nat->Int) (j:Nat):Nat->Nat->Int:=fun r s=>A (tau j r) (tau j s)
theorem Ant (l:Nat) (A:Nat->Nat->Int) (r s:Nat):Mn l (trF A) s r=Mn l A r s:=by
 unfold Mn;rw [<- ARs];rfl
theorem Afa {A:Nat->Nat->Int} {i j k:Nat} {c:Int} (hij:j < i):det k (AX4 A i j c)=det k A:=by
 rcases Nat.lt_or_ge i k with h | h
 ·exact ANp h (by omega) (by omega) c
 ·refine AD6 fun r s hr _=>?_;unfold AX4;rw [ADk,if_neg (by omega)]
theorem Anu {A:Nat->Nat->Int} {i j k:Nat} {c:Int} (hij:j < i):det k (Anr A i j c)=det k A:=by
 unfold Anr;rw [ARs,Afa hij,ARs]
theorem AP2 {A:Nat->Nat->Int} {i j k:Nat} {c:Int} (hij:j < i):det k (AXf A i j c)=det k A:=by
 unfold AXf;rw [Anu hij,Afa hij]
theorem Adi {A:Nat->Nat->Int} {i j l r s:Nat} {c:Int} (hij:j < i) (hr:l<=r):Mn l (AX4 A i j c) r s=Mn l A r s + if l<=i/\r=i then c * Mn l A j s else 0:=by
 rcases Nat.lt_or_ge i l with h | h
 ·rw [if_neg (by omega),Int.add_zero];unfold Mn;have e:=ANp (n:=l + 1) (F:=fun a b=>A (bro l r a) (bro l s b)) (a:=i) (b:=j) (by omega) (by omega) (by omega) c;rw [<- e];refine AD6 fun a b ha _=>?_;rw [ADk];unfold AX4;rw [ADk];have hbi:bro l r i=i:=by unfold bro;rw [if_pos h]
  have hbj:bro l r j=j:=by unfold bro;rw [if_pos (by omega)]
  by_cases ea:a=i
  ·subst ea;rw [hbi,if_pos rfl,if_pos rfl,hbj]
  ·rw [if_neg ea,if_neg];unfold bro;split <;> omega
 ·by_cases er:r=i
  ·subst er;rw [if_pos ⟨h,rfl⟩];unfold Mn;have e:=AT3 (n:=l + 1) (F:=fun a b=>A (bro l r a) (bro l s b)) (r:=l) (fun b=>A r (bro l s b)) (fun b=>A j (bro l s b)) 1 c (by omega)
   have e1:det (l + 1) (fun a b=>AX4 A r j c (bro l r a) (bro l s b))=det (l + 1) (ADz (fun a b=>A (bro l r a) (bro l s b)) l fun q=>1 * A r (bro l s q) + c * A j (bro l s q)):=by
     refine AD6 fun a b ha _=>?_
     rw [ADk]
     unfold AX4
     rw [ADk]
     by_cases ea:a=l
     · subst ea
       rw [show bro a r a=r by unfold bro;rw [if_neg (by omega)],if_pos rfl,if_pos rfl,Int.one_mul]
     · rw [if_neg ea,if_neg]
       unfold bro;rw [if_pos (by omega)];omega
   have e2:det (l + 1) (ADz (fun a b=>A (bro l r a) (bro l s b)) l fun b=>A r (bro l s b))=det (l + 1) (fun a b=>A (bro l r a) (bro l s b)):=by
     refine AD6 fun a b ha _=>?_
     rw [ADk]
     by_cases ea:a=l
     · subst ea;rw [if_pos rfl,show bro a r a=r by unfold bro;rw [if_neg (by omega)]]
     · rw [if_neg ea]
   have e3:det (l + 1) (ADz (fun a b=>A (bro l r a) (bro l s b)) l fun b=>A j (bro l s b))=det (l + 1) (fun a b=>A (bro l j a) (bro l s b)):=by
     refine AD6 fun a b ha _=>?_
     rw [ADk]
     by_cases ea:a=l
     · subst ea;rw [if_pos rfl,show bro a j a=j by unfold bro;rw [if_neg (by omega)]]
     · rw [if_neg ea,show bro l r a=a by unfold bro;rw [if_pos (by omega)],show bro l j a=a by unfold bro;rw [if_pos (by omega)]]
   rw [e1,e,e2,e3,Int.one_mul]
  ·rw [if_neg (fun h=>er h.2),Int.add_zero];unfold Mn;refine AD6 fun a b ha _=>?_;unfold AX4;rw [ADk,if_neg];unfold bro;split <;> omega
theorem Aqm {A:Nat->Nat->Int} {i j l r s:Nat} {c:Int} (hij:j < i) (hs:l<=s):Mn l (Anr A i j c) r s=Mn l A r s + if l<=i/\s=i then c * Mn l A r j else 0:=by
 unfold Anr;rw [Ant,Adi hij hs,Ant,Ant]
theorem Anv {A:Nat->Nat->Int} {i j l r s:Nat} {c:Int} (hij:j < i) (hr:l<=r) (hs:l<=s):Mn l (AXf A i j c) r s=Mn l A r s + (if l<=i/\r=i then c * Mn l A j s else 0) + if l<=i/\s=i then c * (Mn l A r j + if l<=i/\r=i then c * Mn l A j j else 0) else 0:=by
  unfold AXf;rw [Aqm hij hs,Adi hij hr,Adi hij hr]
theorem AY8 (A:Nat->Nat->Int) (i j:Nat) (c:Int) (r s:Nat):AXf A i j c r s=if s=i then (if r=i then A i i + c * A j i else A r i) + c * (if r=i then A i j + c * A j j else A r j) else if r=i then A i s + c * A j s else A r s:=by
 show ADz (trF (AX4 A i j c)) i (fun q=>trF (AX4 A i j c) i q + c * trF (AX4 A i j c) j q) s r=_;rw [ADk];unfold trF AX4;by_cases h:s=i
 ·rw [if_pos h,if_pos h,ADk,ADk]
 ·rw [if_neg h,if_neg h,ADk]
theorem Aqn {n:Nat} {A:Nat->Nat->Int} {i j:Nat} {c:Int} (hi:i < n) (hj:j < n) (h:AMx n A):AMx n (AXf A i j c):=by
 intro r s hr hs;rw [AY8,AY8];by_cases h1:r=i
 ·by_cases h2:s=i
  ·rw [h1,h2]
  ·rw [if_neg h2,if_pos h1,if_pos h1,if_neg h2,if_neg h2,h i s hi hs,h j s hj hs]
 ·by_cases h2:s=i
  ·rw [if_pos h2,if_neg h1,if_neg h1,if_neg h1,if_pos h2,h r i hr hi,h r j hr hj]
  ·rw [if_neg h2,if_neg h1,if_neg h1,if_neg h2,h r s hr hs]
theorem Aii {A:Nat->Nat->Int} {j k:Nat} (hk:k≠j + 1):det k (swA A j)=det k A:=by
 rcases Nat.lt_or_ge (j + 1) k with h | h
 ·have e1:det k (swA A j)= -det k (fun r s=>A (tau j r) s):=Ae8 (F:=fun r s=>A (tau j r) s) h
  have e2:det k (fun r s=>A (tau j r) s)= -det k A:=by
    rw [<- ARs (fun r s=>A (tau j r) s),<- ARs A]
    exact Ae8 (F:=trF A) h
  rw [e1,e2];omega
 ·refine AD6 fun r s hr hs=>?_;unfold swA tau;rw [if_neg (by omega),if_neg (by omega),if_neg (by omega),if_neg (by omega)]
theorem Afb {A:Nat->Nat->Int} {j:Nat}:det (j + 1) (swA A j)=Mn j A (j + 1) (j + 1):=by
 unfold Mn;refine AD6 fun r s hr hs=>?_
 have e:∀ r,r < j + 1->tau j r=bro j (j + 1) r:=fun r hr=>by
   unfold tau bro
   by_cases h:r < j
   · rw [if_neg (by omega),if_neg (by omega),if_pos h]
   · rw [if_pos (by omega),if_neg h]
 unfold swA;rw [e r hr,e s hs]
theorem As2 {n j:Nat} {A:Nat->Nat->Int} (hj:j + 1 < n) (h:AMx n A):AMx n (swA A j):=fun r s hr hs=>by
  have e:∀ r,r < n->tau j r < n:=fun r hr=>by unfold tau;split <;> (try split) <;> omega
  exact h _ _ (e r hr) (e s hs)
theorem sq_nonneg (x:Int):0<=x * x:=by
 rcases Int.le_total 0 x with h | h
 ·exact Int.mul_nonneg h h
 ·exact Int.mul_nonneg_of_nonpos_of_nonpos h h
theorem Afc {x y:Int} (hy:0<=y) (h:x * x<=y * y): -y<=x/\x<=y:=by
 constructor
 ·rcases Int.lt_or_le x (-y) with h1 | h1
  ·have h2:0 < (-x - y) * (-x + y):=Int.mul_pos (by omega) (by omega);have e:(-x - y) * (-x + y)=x * x - y * y:=by grind
   omega
  ·exact h1
 ·rcases Int.lt_or_le y x with h1 | h1
  ·have h2:0 < (x - y) * (x + y):=Int.mul_pos (by omega) (by omega);have e:(x - y) * (x + y)=x * x - y * y:=by grind
   omega
  ·exact h1
theorem AVa {x y:Int} (h1: -y<=x) (h2:x<=y):x * x<=y * y:=by
 have h3:0<=(y - x) * (y + x):=Int.mul_nonneg (by omega) (by omega);have e:(y - x) * (y + x)=y * y - x * x:=by grind
 omega
def SzF (A:Nat->Nat->Int) (i j:Nat):Prop:= -(det (j + 1) A)<=2 * Mn j A i j/\2 * Mn j A i j<=det (j + 1) A
def LvF (A:Nat->Nat->Int) (j:Nat):Prop:=3 * (det (j + 1) A * det (j + 1) A)<=4 * (det j A * det (j + 2) A + Mn j A (j + 1) j * Mn j A (j + 1) j)
def Ag4 (A:Nat->Nat->Int) (i:Nat) (K:Int):Prop:= ∀ l,l < i-> -(K * det (l + 1) A)<=Mn l A i l/\Mn l A i l<=K * det (l + 1) A
theorem Ab7 {n i:Nat} {A:Nat->Nat->Int} {Dm p q:Int} (hs:AMx n A) (hp:AOi n A) (hi:i < n) (hD:∀ k,k<=n->det k A<=Dm) (p0:0<=p) (q0:0<=q) (hl:∀ l,l < i->q * (Mn l A i l * Mn l A i l)<=p * (det (l + 1) A * det (l + 1) A)):∀ d l:Nat,l + d=i->q * Mn l A i i<=(q + d * p) * (Dm * det l A):=by
  have hD0:1<=Dm:=by
    have:=hD 0 (by omega);simpa [det] using this
  have hDl:∀ l k,l<=n->k<=n->det k A<=Dm * det l A:=fun l k h1 h2=>by
    have:=hp l h1;have h3:=hD k h2;have h4:Dm * 1<=Dm * det l A:=Int.mul_le_mul_of_nonneg_left (by omega) (by omega);omega
  intro d;induction d with
  | zero=>
    intro l h;obtain rfl:l=i:=by omega
    rw [ALk];have h1:=Int.mul_le_mul_of_nonneg_left (hDl l (l + 1) (by omega) (by omega)) q0;simpa using h1
  | succ d ih=>
    intro l h;have h1:=ih (l + 1) (by omega);have h2:=Adh hs hp (show l < n by omega) hi;have h3:=hl l (by omega);have h4:=hp l (by omega);have h5:=hp (l + 1) (by omega);have h6:=Int.mul_le_mul_of_nonneg_left h1 (Int.le_of_lt h4)
    have h7:det (l + 1) A * (q * Mn l A i i)=q * (Mn l A i l * Mn l A i l) + det l A * (q * Mn (l + 1) A i i):=by
      have e1:det (l + 1) A * (q * Mn l A i i)=q * (det (l + 1) A * Mn l A i i):=by grind
      rw [e1,h2];grind
    have h8:=Int.mul_le_mul_of_nonneg_left (hDl l (l + 1) (by omega) (by omega)) p0;have h9:=Int.mul_le_mul_of_nonneg_left h8 (Int.le_of_lt h5);have e2:det (l + 1) A * (p * det (l + 1) A)=p * (det (l + 1) A * det (l + 1) A):=by grind
    have h10:det (l + 1) A * (q * Mn l A i i)<=det (l + 1) A * ((q + ((d + 1:Nat):Int) * p) * (Dm * det l A)):=by
      have e3:det (l + 1) A * ((q + ((d + 1:Nat):Int) * p) * (Dm * det l A))=det (l + 1) A * (p * (Dm * det l A)) + det l A * ((q + (d:Int) * p) * (Dm * det (l + 1) A)):=by
        rw [Int.natCast_add,Int.natCast_one];grind
      rw [e3];omega
    exact Int.le_of_mul_le_mul_left h10 h5
theorem Afe {n i:Nat} {A:Nat->Nat->Int} {Dm:Int} (hn:n<=8) (hs:AMx n A) (hp:AOi n A) (hi:i < n) (hD:∀ k,k<=n->det k A<=Dm) (hz:∀ l,l < i->SzF A i l):A i i<=3 * Dm:=by
 have h:=Ab7 hs hp hi hD (p:=1) (q:=4) (by omega) (by omega) (fun l hl=>by
   have:=AVa (hz l hl).1 (hz l hl).2
   have e:2 * Mn l A i l * (2 * Mn l A i l)=4 * (Mn l A i l * Mn l A i l):=by grind
   omega) i 0 (by omega)
 rw [APi] at h
 have Aa:1<=Dm:=by
   have:=hD 0 (by omega);simpa [det] using this
 have h2:(4 + (i:Int) * 1) * (Dm * det 0 A)<=12 * Dm:=by
   have:(4 + (i:Int) * 1) * Dm<=12 * Dm:=Int.mul_le_mul_of_nonneg_right (by omega) (by omega)
   simpa [det] using this
 omega
theorem Aka {n i:Nat} {A:Nat->Nat->Int} {Dm:Int} (hs:AMx n A) (hp:AOi n A) (hi:i < n) (hD:∀ k,k<=n->det k A<=Dm) (hA:A i i<=3 * Dm):Ag4 A i (2 * Dm):=by
 intro l hl
 have Ad:1<=Dm:=by
   have:=hD 0 (by omega);simpa [det] using this
 have h1:=AX2 hs hp (show l<=n by omega) hi (show l < n by omega);rw [ALk] at h1;have h2:=Anp hs hp hi l (by omega);have h3:=hp l (by omega);have h4:=hp (l + 1) (by omega)
 have h5:det l A * A i i<=Dm * (3 * Dm):=by
   have a1:=Int.mul_le_mul_of_nonneg_left hA (Int.le_of_lt h3)
   have a2:=Int.mul_le_mul_of_nonneg_right (hD l (by omega)) (show (0:Int)<=3 * Dm by omega)
   omega
 have h6:Mn l A i i * det (l + 1) A<=Dm * (3 * Dm) * det (l + 1) A:=Int.mul_le_mul_of_nonneg_right (by omega) (by omega);have h7:Dm * (3 * Dm) * (det (l + 1) A * 1)<=Dm * (3 * Dm) * (det (l + 1) A * det (l + 1) A):=Int.mul_le_mul_of_nonneg_left (Int.mul_le_mul_of_nonneg_left (by omega) (by omega)) (Int.mul_nonneg (by omega) (by omega));have h8:0<=Dm * Dm * (det (l + 1) A * det (l + 1) A):=Int.mul_nonneg (sq_nonneg _) (sq_nonneg _);have h9:2 * Dm * det (l + 1) A * (2 * Dm * det (l + 1) A)=Dm * (3 * Dm) * (det (l + 1) A * det (l + 1) A) + Dm * Dm * (det (l + 1) A * det (l + 1) A):=by grind
 rw [Int.mul_one] at h7;exact Afc (Int.mul_nonneg (by omega) (by omega)) (by omega)
theorem Aff {A:Nat->Nat->Int} {i:Nat} {K K':Int} (hp:∀ l,l<=i->0 < det l A) (hK:K<=K') (h:Ag4 A i K):Ag4 A i K':=fun l hl=>by
  have h1:=h l hl
  have h2:=hp (l + 1) (by omega)
  have h3:=Int.mul_le_mul_of_nonneg_right hK (Int.le_of_lt h2)
  omega
theorem Afg {a d:Int} (hd:0 < d): -d<=2 * (a + -((2 * a + d) / (2 * d)) * d)/\2 * (a + -((2 * a + d) / (2 * d)) * d)<=d:=by
  have h1:=Int.mul_ediv_add_emod (2 * a + d) (2 * d);have h2:=Int.emod_nonneg (2 * a + d) (show 2 * d≠0 by omega);have h3:=Int.emod_lt_of_pos (2 * a + d) (show 0 < 2 * d by omega);generalize (2 * a + d) / (2 * d)=q at *
  generalize (2 * a + d) % (2 * d)=r at *
  have e:2 * (a + -q * d)=2 * a - 2 * d * q:=by grind
  omega
theorem Aqo {a d K:Int} (hd:0 < d) (h1: -(K * d)<=a) (h2:a<=K * d): -K<= -((2 * a + d) / (2 * d))/\ -((2 * a + d) / (2 * d))<=K:=by
 have h:=Afg (a:=a) hd;generalize -((2 * a + d) / (2 * d))=c at *;constructor
 ·rcases Int.lt_or_le c (-K) with h3 | h3
  ·have h4:(c + K + 1) * d<=0:=by
     have:=Int.mul_nonneg (show 0<= -(c + K + 1) by omega) (Int.le_of_lt hd)
     have e: -(c + K + 1) * d= -((c + K + 1) * d):=by grind
     omega
   have e:(c + K + 1) * d=c * d + K * d + d:=by grind
   omega
  ·exact h3
 ·rcases Int.lt_or_le K c with h3 | h3
  ·have h4:=Int.mul_nonneg (show 0<=c - K - 1 by omega) (Int.le_of_lt hd);have e:(c - K - 1) * d=c * d - K * d - d:=by grind
   omega
  ·exact h3
theorem Aij {A:Nat->Nat->Int} {i j l:Nat} {c:Int} (hij:j < i) (hl:l < i):Mn l (AXf A i j c) i l=Mn l A i l + c * Mn l A j l:=by
 rw [Anv hij (by omega) (Nat.le_refl _),if_pos ⟨by omega,rfl⟩,if_neg (fun h:l<=i/\l=i=>by omega)];omega
theorem Ab8 {A:Nat->Nat->Int} {i j l r:Nat} {c:Int} (hij:j < i) (hr:r < i) (hl:l<=r):Mn l (AXf A i j c) r l=Mn l A r l:=by
 rw [Anv hij hl (Nat.le_refl _),if_neg (fun h:l<=i/\r=i=>by omega),if_neg (fun h:l<=i/\l=i=>by omega)];omega
theorem Anw {A:Nat->Nat->Int} {i j:Nat} {K c:Int} (hij:j < i) (hp:∀ l,l<=i->0 < det l A) (hK:0<=K) (h:Ag4 A i K) (hz:∀ l,l < j->SzF A j l) (Ab: -K<=c) (Ac:c<=K):Ag4 (AXf A i j c) i (2 * K):=by
 intro l hl;rw [AP2 hij,Aij hij hl];have h1:=h l hl;have h2:=hp (l + 1) (by omega)
 have hm: -(det (l + 1) A)<=Mn l A j l/\Mn l A j l<=det (l + 1) A:=by
   rcases Nat.lt_trichotomy l j with h3 | h3 | h3
   · have:=hz l h3;unfold SzF at this;omega
   · subst h3;rw [ALk];omega
   · rw [Ag3 A l h3];omega
 have h3: -(K * det (l + 1) A)<=c * Mn l A j l/\c * Mn l A j l<=K * det (l + 1) A:=by
   refine Afc (Int.mul_nonneg hK (Int.le_of_lt h2)) ?_
   have a1:=AVa Ab Ac
   have a2:=AVa hm.1 hm.2
   have a3:c * c * (Mn l A j l * Mn l A j l)<=K * K * (det (l + 1) A * det (l + 1) A):=Int.mul_le_mul a1 a2 (sq_nonneg _) (sq_nonneg _)
   have e1:c * Mn l A j l * (c * Mn l A j l)=c * c * (Mn l A j l * Mn l A j l):=by grind
   have e2:K * det (l + 1) A * (K * det (l + 1) A)=K * K * (det (l + 1) A * det (l + 1) A):=by grind
   omega
 have e:2 * K * det (l + 1) A=K * det (l + 1) A + K * det (l + 1) A:=by grind
 omega
theorem Anx {A:Nat->Nat->Int} {i j k:Nat} {c:Int} (hk:k≠i):AXf A i j c k k=A k k:=by
 rw [AY8,if_neg hk,if_neg hk]
structure Adj (n:Nat) (Dm:Int) (A:Nat->Nat->Int) (i t:Nat):Prop where
  sym:AMx n A
  pos:AOi n A
  dm:∀ k,k<=n->det k A<=Dm
  hi:i < n
  ht:t<=i
  rows:∀ k,k < n->k≠i->A k k<=3 * Dm
  row:t=0->A i i<=3 * Dm
  lamb:Ag4 A i (2 ^ t * (2 * Dm))
  pre:∀ r l,l < r->r < i->SzF A r l
  prei:∀ l,l < i->i<=l + t->SzF A i l
  lov:∀ r,r + 1 < i->LvF A r
theorem Aam {n:Nat} {Dm:Int} {A:Nat->Nat->Int} (hn:0 < n) (hs:AMx n A) (hp:AOi n A) (hD:∀ k,k<=n->det k A<=Dm) (hr:∀ k,k < n->A k k<=3 * Dm):Adj n Dm A 0 0:=
  ⟨hs,hp,hD,hn,Nat.le_refl _,fun k hk _=>hr k hk,fun _=>hr 0 hn,fun l hl=>by omega,fun r l h1 h2=>by omega,fun l hl=>by omega,fun r hr=>by omega⟩
theorem Anz {n i t:Nat} {Dm:Int} {A:Nat->Nat->Int} (h:Adj n Dm A i t):1<=Dm:=by
 have:=h.dm 0 (by omega);simpa [det] using this
theorem AVr {n i t:Nat} {Dm:Int} {A:Nat->Nat->Int} (hn:n<=8) (h:Adj n Dm A i t) (hz:∀ l,l < i->SzF A i l):∀ k,k < n->A k k<=3 * Dm:=fun k hk=>by
  by_cases e:k=i
  · subst e;exact Afe hn h.sym h.pos h.hi h.dm hz
  · exact h.rows k hk e
theorem AXg (t:Nat):(0:Int) < 2 ^ t:=Int.pow_pos (by omega)
theorem AXh {s t:Nat} (h:s<=t):(2:Int) ^ s<=2 ^ t:=by
 have:=Nat.pow_le_pow_right (show 0 < 2 by omega) h;have e:∀ k:Nat,(2:Int) ^ k=((2 ^ k:Nat):Int):=fun k=>by simp
 rw [e,e];omega
theorem Akb {n i t i' j:Nat} {Dm:Int} {A:Nat->Nat->Int} (hn:n<=8) (h:Adj n Dm A i t) (hi':i' < n) (hj:j < i') (hbad: ¬ SzF A i' j)
    (hz:∀ r l,l < r->r < i'->SzF A r l) (hzi:∀ l,l < i'->j < l->SzF A i' l) (hl:∀ r,r + 1 < i'->LvF A r):
    Adj n Dm (AXf A i' j (-((2 * Mn j A i' j + det (j + 1) A) / (2 * det (j + 1) A)))) i' (i' - j)/\i * 16 + t < i' * 16 + (i' - j):=by
  have hD1:=Anz h
  have hlt:i < i'∨i=i'/\t < i' - j:=by
    rcases Nat.lt_trichotomy i i' with h1 | h1 | h1
    · exact .inl h1
    · refine .inr ⟨h1,?_⟩
      rcases Nat.lt_or_ge t (i' - j) with h2 | h2
      · exact h2
      · subst h1;exact absurd (h.prei j hj (by omega)) hbad
    · exact absurd (h.pre i' j hj h1) hbad
  have hrows:∀ k,k < n->k≠i'->A k k<=3 * Dm:=fun k hk hne=>by
    rcases hlt with h1 | h1
    · exact AVr hn h (fun l hl=>hz i l hl h1) k hk
    · exact h.rows k hk (by omega)
  have hK0:0<=2 ^ (i' - j - 1) * (2 * Dm):=Int.mul_nonneg (Int.le_of_lt (AXg _)) (by omega);have hp':∀ l,l<=i'->0 < det l A:=fun l hl=>h.pos l (by omega)
  have hlam:Ag4 A i' (2 ^ (i' - j - 1) * (2 * Dm)):=by
    rcases hlt with h1 | h1
    · refine Aff hp' ?_ (Aka h.sym h.pos hi' h.dm (AVr hn h (fun l hl=>hz i l hl h1) i' hi'));have:=Int.mul_le_mul_of_nonneg_right (AXh (Nat.zero_le (i' - j - 1))) (show (0:Int)<=2 * Dm by omega);simpa using this
    · obtain ⟨rfl,h1⟩:=h1;exact Aff hp' (Int.mul_le_mul_of_nonneg_right (AXh (by omega)) (by omega)) h.lamb
  have hd:=hp' (j + 1) (by omega);obtain ⟨c1,c2⟩:=Aqo hd (hlam j hj).1 (hlam j hj).2;have hrem:=Afg (a:=Mn j A i' j) hd;generalize hc: -((2 * Mn j A i' j + det (j + 1) A) / (2 * det (j + 1) A))=c at *
  refine ⟨⟨Aqn hi' (by omega) h.sym,fun k hk=>by rw [AP2 hj];exact h.pos k hk,fun k hk=>by rw [AP2 hj];exact h.dm k hk,hi',by omega,fun k hk hne=>by rw [Anx hne];exact hrows k hk hne,fun h0=>by omega,?_,fun r l h1 h2=>?_,fun l h1 h2=>?_,fun r hr=>?_⟩,by have:=h.ht;have:=h.hi;omega⟩
  · have:=Anw hj hp' hK0 hlam (fun l hl=>hz j l hl hj) c1 c2
    have e:2 * (2 ^ (i' - j - 1) * (2 * Dm))=2 ^ (i' - j) * (2 * Dm):=by
      rw [show i' - j=i' - j - 1 + 1 by omega,Int.pow_succ];simp only [Nat.add_sub_cancel];grind
    rwa [e] at this
  · unfold SzF;rw [AP2 hj,Ab8 hj h2 (by omega)];exact hz r l h1 h2
  · unfold SzF;rw [AP2 hj,Aij hj h1]
    rcases Nat.lt_or_ge j l with h3 | h3
    · rw [Ag3 A l h3,Int.mul_zero,Int.add_zero];exact hzi l h1 h3
    · obtain rfl:l=j:=by omega
      rw [ALk];exact hrem
  · unfold LvF;rw [AP2 hj,AP2 hj,AP2 hj,Ab8 hj (by omega) (by omega)];exact hl r hr
def Afh (n:Nat) (A:Nat->Nat->Int):Int:=psum (fun k=>det k A) (n + 1)
theorem Aqp {f g:Nat->Int} {n k:Nat} (hk:k < n) (hne:∀ l,l≠k->f l=g l) (h:f k < g k):psum f n < psum g n:=by
 induction n with
 | zero=>omega
 | succ n ih=>
   simp only [psum]
   rcases Nat.lt_or_ge k n with h1 | h1
   · have:=ih h1;rw [hne n (by omega)];omega
   · obtain rfl:k=n:=by omega
     rw [ADd (g:=g) fun i hi=>hne i (by omega)];omega
theorem Akc {n i t j:Nat} {Dm:Int} {A:Nat->Nat->Int} (hn:n<=8) (h:Adj n Dm A i t) (hj:j + 1 < n) (hbad: ¬ LvF A j)
    (hz:∀ r l,l < r->r<=j + 1->SzF A r l) (hl:∀ r,r < j->LvF A r):
    Adj n Dm (swA A j) 0 0/\Afh n (swA A j) < Afh n A:=by
  have hij:i<=j + 1:=by
    rcases Nat.lt_or_ge (j + 1) i with h1 | h1
    · exact absurd (h.lov j h1) hbad
    · exact h1
  have hrest:=AVr hn h (fun l hl=>hz i l hl hij);have h1:=Adh h.sym h.pos (show j < n by omega) hj;have p0:=h.pos j (by omega);have p1:=h.pos (j + 1) (by omega);have p2:=h.pos (j + 2) (by omega);rw [show Mn (j + 1) A (j + 1) (j + 1)=det (j + 2) A from ALk _ _] at h1
  have hlt:Mn j A (j + 1) (j + 1) < det (j + 1) A:=by
    unfold LvF at hbad
    have h2:det (j + 1) A * (4 * Mn j A (j + 1) (j + 1)) < det (j + 1) A * (3 * det (j + 1) A):=by
      have e1:det (j + 1) A * (4 * Mn j A (j + 1) (j + 1))=4 * (det (j + 1) A * Mn j A (j + 1) (j + 1)):=by grind
      have e2:det (j + 1) A * (3 * det (j + 1) A)=3 * (det (j + 1) A * det (j + 1) A):=by grind
      omega
    have:=Int.lt_of_mul_lt_mul_left h2 (Int.le_of_lt p1);omega
  have hpos:0 < Mn j A (j + 1) (j + 1):=by
    have h3:=sq_nonneg (Mn j A (j + 1) j);have h4:=Int.mul_pos p0 p2;exact Int.pos_of_mul_pos_right (a:=det (j + 1) A) (by omega) p1
  have hdet:∀ k,det k (swA A j)=if k=j + 1 then Mn j A (j + 1) (j + 1) else det k A:=fun k=>by
    by_cases e:k=j + 1
    · subst e;rw [if_pos rfl,Afb]
    · rw [if_neg e,Aii e]
  refine ⟨Aam (by omega) (As2 hj h.sym) (fun k hk=>?_) (fun k hk=>?_) (fun k hk=>?_),?_⟩
  · rw [hdet];split
    · exact hpos
    · exact h.pos k hk
  · rw [hdet];split
    · have:=h.dm (j + 1) (by omega);omega
    · exact h.dm k hk
  · have e:tau j k < n:=by unfold tau;split <;> (try split) <;> omega
    exact hrest _ e
  · exact Aqp (k:=j + 1) (by omega) (fun l hl=>by rw [hdet,if_neg hl]) (by rw [hdet,if_pos rfl];exact hlt)
end Go.QF
namespace Go.Proofs.YtdnbklmefmoofaaGreatDoor
open Go Go.QF
theorem Adk (k m:Nat):AEl k (fun a=>((a:Nat):Int)) ++ [((m:Nat):Int)]=AEl (k + 1) fun a=>((bro k m a:Nat):Int):=by
 rw [<- AOy,ADl (g:=fun a=>((bro k m a:Nat):Int)) fun a ha=>by unfold bro;rw [if_pos ha]];unfold bro;rw [if_neg (by omega)]
theorem Aik {fuel k m:Nat} (hk:k<=100) (hf:100 < fuel):AGt fuel (k:Int) (m:Int)=some (AEl (k + 1) fun a=>((bro k m a:Nat):Int)):=by
 apply ok_eq;unfold AGt;refine ABs (AC3 (fun i s=>s=(AEl i (fun a=>((a:Nat):Int)),((i:Nat):Int))/\i<=k) k (Q:=(· =AEl k fun a=>((a:Nat):Int))) ⟨rfl,Nat.zero_le _⟩ (by omega) fun i s hi hI=>?_) fun e he=>?_
 ·obtain ⟨rfl,hik⟩:=hI;unfold AK9;dsimp only;refine AB7 (fun h=>AD8 (by rw [ACy];omega) (ABn ⟨by omega,?_,by omega⟩)) (fun h=>ABn ?_)
  ·rw [wk (by omega),AOy i fun a=>((a:Nat):Int)];simp
  ·obtain rfl:i=k:=by omega
   rfl
 ·subst he;refine AD8 (by rw [ACy];omega) (ABn ?_);exact Adk k m
theorem Aan {fuel n i j:Nat} {F:Nat->Nat->Int} (hn:n<=8) (hi:i < n) (hj:j < n) (hb:∀ i j,i < n->j < n->(F i j).natAbs<=AH6) (hf:100 < fuel):AFd fuel (tab n n F) (i:Int) (j:Int)=some (Mn j F i j):=by
 apply ok_eq;unfold AFd;refine ABs (AC3 (fun q s=>s=(AEl q (fun a=>((a:Nat):Int)),AEl q (fun a=>((a:Nat):Int)),((q:Nat):Int))/\q<=j) j (Q:=(· =(AEl j (fun a=>((a:Nat):Int)),AEl j fun a=>((a:Nat):Int)))) ⟨rfl,Nat.zero_le _⟩ (by omega) fun q s hq hI=>?_) fun e he=>?_
 ·obtain ⟨rfl,hqj⟩:=hI;unfold AKh;dsimp only;refine AB7 (fun h=>AD8 (by rw [ACy];omega) (AD8 (by rw [ACy];omega) (ABn ⟨by omega,?_,by omega⟩))) (fun h=>ABn ?_)
  ·rw [wk (by omega),AOy q fun a=>((a:Nat):Int)];simp
  ·obtain rfl:q=j:=by omega
   rfl
 ·subst he;dsimp only;refine AD8 (by rw [ACy];omega) (AD8 (by rw [ACy];omega) ?_);rw [Adk,Adk];refine ABs (AC1 (Ae9 (n:=n) (by omega) (by omega) hf (fun a ha=>AQs (by omega) hi) (fun a ha=>AQs (by omega) hj))) fun x hx=>?_;subst hx;refine ABs (AC1 (AXb (by omega) (fun a b ha Aa=>hb _ _ (AQs (by omega) hi) (AQs (by omega) hj)) (by omega))) fun y hy=>ABn hy
theorem AVs {fuel n k:Nat} {F:Nat->Nat->Int} (hk:k<=n) (hn:n<=8):AD9 fuel (AEl n fun a=>det (a + 1) F) (k:Int)=some (det k F):=by
 apply ok_eq;unfold AD9;refine AB7 (fun h=>?_) (fun h=>?_)
 ·obtain rfl:k=0:=by omega
  exact ⟨1,rfl,by simp [det]⟩
 ·obtain ⟨q,rfl⟩:∃ q,k=q + 1:=⟨k - 1,by omega⟩;refine ACj (n:=q) (ACk (by omega)) (by rw [wk (by omega)];omega) (ABn rfl)
theorem AX5 {fuel n:Nat} {F:Nat->Nat->Int} (Aa:1<=n) (hn:n<=8) (hb:∀ i j,i < n->j < n->(F i j).natAbs<=AH6) (hf:100 < fuel):AE0 fuel (tab n n F)=some (AEl n fun a=>det (a + 1) F,true):=by
 apply ok_eq;unfold AE0;refine ABs (AC1 (Ab6 Aa (by omega) hf)) fun x hx=>?_;subst hx;dsimp only;refine AB7 (fun h=>absurd h (by decide)) (fun _=>ABs (AC3 (fun k s=>s=(AEl k (fun a=>det (a + 1) F),((k:Nat):Int))/\k<=n) n (Q:=(· =AEl n fun a=>det (a + 1) F)) ⟨rfl,Nat.zero_le _⟩ (by omega) fun k s hk hI=>?_) fun e he=>ABn (by rw [he]));obtain ⟨rfl,hkn⟩:=hI;unfold AJz;dsimp only;refine AB7 (fun h=>?_) (fun h=>ABn ?_)
 ·have hk':k < n:=by omega
  refine ABs (AC1 (Aik (by omega) hf)) fun r hr=>?_;subst hr;refine ABs (AC1 (Aik (by omega) hf)) fun c hc=>?_;subst hc;refine ABs (AC1 (Ae9 (n:=n) (by omega) (by omega) hf (fun a ha=>AQs (by omega) hk') (fun a ha=>AQs (by omega) hk'))) fun x hx=>?_;subst hx;refine ABs (AC1 (AXb (by omega) (fun a b ha Ab=>hb _ _ (AQs (by omega) hk') (AQs (by omega) hk')) (by omega))) fun y hy=>?_;subst hy;refine AD8 (by rw [ACy];omega) (ABn ⟨by omega,?_,by omega⟩);rw [show (det (k + 1) fun a b=>F (bro k k a) (bro k k b))=det (k + 1) F from ALk k F,wk (by omega),AOy k fun a=>det (a + 1) F];simp
 ·obtain rfl:k=n:=by omega
  rfl
theorem Adl (a b:Int):AS5 a b<=0↔a<=b:=by unfold AS5;split <;> (try split) <;> omega
theorem Aao {n j i l:Nat} {F:Nat->Nat->Int} (hn:n<=8) (hi:i < n) (hl:l < n) (hj:j < n) (hb:∀ i j,i < n->j < n->(F i j).natAbs<=AH6):(Mn j F i l).natAbs<=dBd AH6 9:=by
 have e:Mn j F i l=Mn j (fun a b=>if a < n/\b < n then F a b else 0) i l:=by
   unfold Mn
   refine AD6 fun a b ha Aa=>?_
   dsimp only
   rw [if_pos ⟨AQs (by omega) hi,AQs (by omega) hl⟩]
 rw [e];refine Nat.le_trans (Agw (m:=AH6) (fun a b=>?_) i l) (APj (by decide) (by omega));split
 ·next h=>exact hb a b h.1 h.2
 ·exact Nat.zero_le _
theorem AVb {n k:Nat} {F:Nat->Nat->Int} (hn:n<=8) (hk:k<=n) (hb:∀ i j,i < n->j < n->(F i j).natAbs<=AH6):(det k F).natAbs<=dBd AH6 9:=by
 rcases Nat.eq_zero_or_pos k with h | h
 ·subst h;simp only [det];decide
 ·obtain ⟨q,rfl⟩:∃ q,k=q + 1:=⟨k - 1,by omega⟩;rw [<- ALk q F];exact Aao hn (by omega) (by omega) (by omega) hb
theorem Ail {fuel n i j:Nat} {F:Nat->Nat->Int} (hn:n<=8) (hi:i < n) (hj:j < n) (hb:∀ i j,i < n->j < n->(F i j).natAbs<=AH6) (hf:100 < fuel):AGu fuel (tab n n F) (AEl n fun a=>det (a + 1) F) (i:Int) (j:Int)=some (decide (2 * ((Mn j F i j).natAbs:Int)<=det (j + 1) F)):=by
 apply ok_eq;unfold AGu;refine ABs (Q:=(· =2)) ⟨2,if_pos (by omega),rfl⟩ fun two h2=>?_;subst h2;refine ABs (AC1 (Aan hn hi hj hb hf)) fun x hx=>?_;subst hx;refine ABs (AC1 (a:=((Mn j F i j).natAbs:Int)) rfl) fun y hy=>?_;subst hy;refine ABs (AC1 (AXy Aie (show (2:Int).natAbs<=dBd AH6 (8 + 1) by decide) (by rw [Int.natAbs_natCast];exact Aao hn hi hj hj hb))) fun w hw=>?_;subst hw;rw [wk (by omega)];refine ABs (AC1 (AVs (k:=j + 1) (by omega) hn)) fun m hm=>?_;subst hm;refine ABs (AC1 (a:=AS5 (2 * ((Mn j F i j).natAbs:Int)) (det (j + 1) F)) rfl) fun c hc=>ABn ?_;subst hc;exact decide_eq_decide.2 (Adl _ _)
theorem AY9 {F:Nat->Nat->Int} {i j:Nat}:2 * ((Mn j F i j).natAbs:Int)<=det (j + 1) F↔SzF F i j:=by
 unfold SzF;omega
theorem psum_abs {f g:Nat->Int} {D:Nat}:∀ (n:Nat),(∀ a,a < n->(f a).natAbs<=D/\(g a).natAbs<=D)->(psum (fun a=>f a * g a) n).natAbs<=n * (D * D)
  | 0,_=>by simp [psum]
  | n + 1,h=>by
    have h1:=psum_abs n fun a ha=>h a (by omega)
    have h2:=Nat.mul_le_mul (h n (by omega)).1 (h n (by omega)).2
    rw [<- Int.natAbs_mul] at h2
    have e:(n + 1) * (D * D)=n * (D * D) + D * D:=by rw [Nat.add_mul,Nat.one_mul]
    simp only [psum]
    omega
theorem Auk {fuel n D:Nat} {f g:Nat->Int} (hn:n<=16) (hD:16 * (D * D) < AFa) (hb:∀ a,a < n->(f a).natAbs<=D/\(g a).natAbs<=D) (hf:100 < fuel):AI8 fuel (AEl n f) (AEl n g)=some (psum (fun a=>f a * g a) n):=by
 apply ok_eq;unfold AI8;refine ABs (AC3 (fun k s=>s=(((k:Nat):Int),psum (fun a=>f a * g a) k)/\k<=n) n (Q:=(· =psum (fun a=>f a * g a) n)) ⟨rfl,Nat.zero_le _⟩ (by omega) fun k s hk hI=>?_) fun e he=>ABn he;obtain ⟨rfl,hkn⟩:=hI;unfold AMh;dsimp only;rw [ACy];refine AB7 (fun h=>?_) (fun h=>ABn ?_)
 ·have hk':k < n:=by omega
  have h1:=psum_abs k fun a ha=>hb a (by omega);have h2:=Nat.mul_le_mul (hb k hk').1 (hb k hk').2;have h3:k * (D * D)<=16 * (D * D):=Nat.mul_le_mul_right _ (by omega);have h4:1 * (D * D)<=16 * (D * D):=Nat.mul_le_mul_right _ (by omega);refine ACj (ACk hk') rfl (ACj (ACk hk') rfl (ABs (Q:=(· =f k * g k)) ⟨_,if_pos (by omega),rfl⟩ fun x hx=>?_));subst hx;refine ABs (Q:=(· =psum (fun a=>f a * g a) k + f k * g k)) ⟨_,if_pos ⟨by omega,by rw [Int.natAbs_mul];omega⟩,rfl⟩ fun y hy=>ABn ⟨by omega,?_,by omega⟩;subst hy;rw [wk (by omega)];simp [psum]
 ·obtain rfl:k=n:=by omega
  rfl
theorem Aap {fuel n:Nat} {F:Nat->Nat->Int} (hn:1<=n) (Ad:n<=16) (hf:100 < fuel):AD1 fuel (tab n n F)=some ((n:Int),(n:Int),true):=by
 apply ok_eq;unfold AD1;rw [ACt];refine ABs (Q:=fun ex=>match ex with | .inl _=>False | .inr _=>True) (AB7 (fun h=>by omega) fun h=>AB7 (fun h2=>by omega) fun h2=>ABn trivial) fun ex hex=>?_
 cases ex with
 | inl e=>exact hex.elim
 | inr u=>
   dsimp only
   refine ABs (AC3 (fun i (s:Int)=>s=i) n (Q:=fun ex=>match ex with | .inl _=>False | .inr _=>True) rfl (by omega) fun i s hi hI=>?_) fun ex hex=>?_
   · subst hI
     unfold AG1
     rw [ACt]
     refine AB7 (fun h=>ACj (ACv (by omega)) rfl ?_) fun h=>ABn trivial
     rw [ACy]
     refine AB7 (fun h2=>by omega) fun h2=>AB7 (fun h3=>by omega) fun h3=>ACj (n:=0) (ACv (by omega)) rfl (AB7 (fun h4=>?_) fun h4=>ABn ⟨by omega,wk (by omega)⟩)
     rw [ACy] at h4;omega
   · cases ex with
     | inl e=>exact hex.elim
     | inr u=>exact ACj (n:=0) (ACv (by omega)) rfl (ABn (by rw [ACy]))
theorem APk {r c:Nat} {F G:Nat->Nat->Int} (h:∀ i j,i < r->j < c->F i j=G i j):tab r c F=tab r c G:=by
 rw [AQa,AQa];exact ADl fun i hi=>ADl fun j hj=>h i j hi hj
def trS (F:Nat->Nat->Int) (i j r c:Nat):Int:=if c < i∨c=i/\r < j then F c r else 0
theorem Aim {fuel n:Nat} {F:Nat->Nat->Int} (hn:1<=n) (Ad:n<=16) (hf:100 < fuel):AE6 fuel (tab n n F)=some (tab n n (trF F),true):=by
 apply ok_eq;unfold AE6;refine ABs (AC1 (Aap hn Ad hf)) fun x hx=>?_;subst hx;dsimp only;refine AB7 (fun h=>absurd h (by decide)) fun _=>ABs (AC1 (AY2 (by omega) (by omega) (by omega))) fun O hO=>?_;subst hO;refine ABs (AC3 (fun i s=>s=(((i:Nat):Int),tab n n (trS F i 0))/\i<=n) n (Q:=(· =tab n n (trF F))) ⟨?_,Nat.zero_le _⟩ (by omega) fun i s hi hI=>?_) fun e he=>ABn (by rw [he])
 ·rw [AGn n (0:Int),AGn];refine congrArg (Prod.mk (0:Int)) ?_;rw [AQa];exact ADl fun r _=>ADl fun c _=>by unfold trS;rw [if_neg (by omega)]
 ·obtain ⟨rfl,hin⟩:=hI;unfold AI3;dsimp only;rw [ACt];refine AB7 (fun h=>?_) (fun h=>ABn ?_)
  ·have hi':i < n:=by omega
   refine ACj (ACv hi') rfl (ABs (AC3 (fun j s=>s=(((j:Nat):Int),tab n n (trS F i j))/\j<=n) n (Q:=(· =tab n n (trS F (i + 1) 0))) ⟨rfl,Nat.zero_le _⟩ (by omega) fun j s hj hJ=>?_) fun e he=>ABn ⟨by omega,by rw [wk (by omega),he];simp,by omega⟩);obtain ⟨rfl,hjn⟩:=hJ;unfold AI2;dsimp only;rw [ACy];refine AB7 (fun h2=>?_) (fun h2=>ABn ?_)
   ·have hj':j < n:=by omega
    refine ACj (ACv hj') rfl (ACj (ACv hi') rfl (ACj (ACk hj') rfl (ABs (AC1 (a:=F i j) rfl) fun y hy=>ACj (ACk hi') rfl (ABn ⟨by omega,?_,by omega⟩))));subst hy;rw [wk (by omega),AWh];refine Prod.ext (by dsimp only;omega) (APk fun r c hr hc=>?_);rw [ADk];unfold trS;by_cases h3:r=j
    ·rw [if_pos h3];by_cases h4:c=i
     ·rw [if_pos h4,if_pos (by omega),h3,h4]
     ·rw [if_neg h4];by_cases h5:c < i
      ·rw [if_pos (by omega),if_pos (by omega),h3]
      ·rw [if_neg (by omega),if_neg (by omega)]
    ·rw [if_neg h3];by_cases h5:c < i∨c=i/\r < j
     ·rw [if_pos h5,if_pos (by omega)]
     ·rw [if_neg h5,if_neg (by omega)]
   ·refine APk fun r c hr hc=>?_;unfold trS;by_cases h5:c < i + 1
    ·rw [if_pos (by omega),if_pos (by omega)]
    ·rw [if_neg (by omega),if_neg (by omega)]
  ·refine APk fun r c hr hc=>?_;unfold trS trF;rw [if_pos (by omega)]
def muS (H:Nat->Nat->Int) (i j r c:Nat):Int:=if r < i∨r=i/\c < j then H r c else 0
theorem An0 {fuel n D:Nat} {F G:Nat->Nat->Int} (hn:1<=n) (Ab:n<=16) (hD:16 * (D * D) < AFa) (hF:∀ i j,i < n->j < n->(F i j).natAbs<=D) (hG:∀ i j,i < n->j < n->(G i j).natAbs<=D) (hf:100 < fuel):AI9 fuel (tab n n F) (tab n n G)=some (tab n n (AF8 n F G),true):=by
 apply ok_eq;unfold AI9;refine ABs (AC1 (Aap hn Ab hf)) fun x hx=>?_;subst hx;dsimp only;refine ABs (AC1 (Aim hn Ab hf)) fun x hx=>?_;subst hx;dsimp only;rw [ACt,ACt];refine ABs (Q:=fun ex=>match ex with | .inl _=>False | .inr _=>True) (AB7 (fun h=>absurd h (by decide)) fun _=>AB7 (fun h=>absurd h (by decide)) fun _=>AB7 (fun h=>absurd rfl h) fun _=>ABn trivial) fun ex hex=>?_
 cases ex with
 | inl e=>exact hex.elim
 | inr u=>
   dsimp only
   rw [ACt]
   refine ABs (AC1 (AY2 (by omega) (by omega) (by omega))) fun O hO=>?_
   subst hO
   refine ABs (AC3 (fun i s=>s=(((i:Nat):Int),tab n n (muS (AF8 n F G) i 0))/\i<=n) n (Q:=(· =tab n n (AF8 n F G))) ⟨?_,Nat.zero_le _⟩ (by omega) fun i s hi hI=>?_) fun e he=>ABn (by rw [he])
   · rw [AGn n (0:Int),AGn]
     refine congrArg (Prod.mk (0:Int)) ?_
     rw [AQa]
     exact ADl fun r _=>ADl fun c _=>by unfold muS;rw [if_neg (by omega)]
   · obtain ⟨rfl,hin⟩:=hI
     unfold AMj
     dsimp only
     rw [ACt]
     refine AB7 (fun h=>?_) (fun h=>ABn ?_)
     · have hi':i < n:=by omega
       refine ABs (AC3 (fun j s=>s=(((j:Nat):Int),tab n n (muS (AF8 n F G) i j))/\j<=n) n (Q:=(· =tab n n (muS (AF8 n F G) (i + 1) 0))) ⟨rfl,Nat.zero_le _⟩ (by omega) fun j s hj hJ=>?_) fun e he=>ABn ⟨by omega,by rw [wk (by omega),he];simp,by omega⟩
       obtain ⟨rfl,hjn⟩:=hJ
       unfold AMi
       dsimp only
       rw [ACt]
       refine AB7 (fun h2=>?_) (fun h2=>ABn ?_)
       · have hj':j < n:=by omega
         refine ACj (ACv hi') rfl (ACj (ACv hi') rfl (ACj (ACv hj') rfl (ABs (AC1 (Auk (D:=D) Ab hD (fun a ha=>⟨hF i a hi' ha,hG a j ha hj'⟩) hf)) fun y hy=>ACj (ACk hj') rfl (ABn ⟨by omega,?_,by omega⟩))))
         subst hy
         rw [wk (by omega),AWh]
         refine Prod.ext (by dsimp only;omega) (APk fun r c hr hc=>?_)
         rw [ADk]
         unfold muS
         by_cases h3:r=i
         · rw [if_pos h3]
           by_cases h4:c=j
           · rw [if_pos h4,if_pos (by omega),h3,h4];rfl
           · rw [if_neg h4]
             by_cases h5:c < j
             · rw [if_pos (by omega),if_pos (by omega),h3]
             · rw [if_neg (by omega),if_neg (by omega)]
         · rw [if_neg h3]
           by_cases h5:r < i
           · rw [if_pos (by omega),if_pos (by omega)]
           · rw [if_neg (by omega),if_neg (by omega)]
       · refine APk fun r c hr hc=>?_
         unfold muS
         by_cases h5:r < i + 1
         · rw [if_pos (by omega),if_pos (by omega)]
         · rw [if_neg (by omega),if_neg (by omega)]
     · refine APk fun r c hr hc=>?_
       unfold muS
       rw [if_pos (by omega)]
theorem Ain (a b:Int):AS5 a b=0↔a=b:=by unfold AS5;split <;> (try split) <;> omega
theorem Arq {fuel n:Nat} {F:Nat->Nat->Int} (Ae:n<=16) (hf:100 < fuel):Ok (AE7 fuel (tab n n F)) fun r=>r=true↔AMx n F:=by
 unfold AE7;refine ABs (AC3 (fun i s=>s=((i:Nat):Int)/\i<=n/\ ∀ a b,b < a->a < i->F a b=F b a) n (Q:=fun ex=>match ex with | .inl e=>e=false/\¬ AMx n F | .inr _=>AMx n F) ⟨rfl,Nat.zero_le _,fun a b h1 h2=>by omega⟩ (by omega) fun i s hi hI=>?_) fun ex hex=>?_
 ·obtain ⟨rfl,hin,hs⟩:=hI;unfold AI5;rw [ACt];refine AB7 (fun h=>?_) (fun h=>ABn ?_)
  ·have hi':i < n:=by omega
   refine ABs (AC3 (fun j s=>s=((j:Nat):Int)/\j<=i/\ ∀ b,b < j->F i b=F b i) i (Q:=fun ex=>match ex with | .inl e=>e=false/\¬ AMx n F | .inr _=> ∀ b,b < i->F i b=F b i) ⟨rfl,Nat.zero_le _,fun b h1=>by omega⟩ (by omega) fun j s hj hJ=>?_) fun ex hex=>?_
   ·obtain ⟨rfl,hji,hb⟩:=hJ;unfold AI4;refine AB7 (fun h2=>?_) (fun h2=>ABn ?_)
    ·have hj':j < i:=by omega
     refine ACj (ACv hi') rfl (ACj (ACk (by omega)) rfl (ACj (ACv (by omega)) rfl (ACj (ACk hi') rfl (ABs (AC1 (a:=AS5 (F i j) (F j i)) rfl) fun c hc=>?_))));subst hc;refine AB7 (fun h3=>ABn ⟨rfl,fun h4=>h3 ((Ain _ _).2 (h4 i j hi' (by omega)))⟩) (fun h3=>ABn ⟨by omega,by rw [wk (by omega)];simp,by omega,fun b Af=>?_⟩);rcases Nat.lt_or_ge b j with h4 | h4
     ·exact hb b h4
     ·obtain rfl:b=j:=by omega
      exact (Ain _ _).1 (Classical.not_not.1 h3)
    ·obtain rfl:j=i:=by omega
     exact hb
   ·cases ex with
    | inl e=>exact ABn hex
    | inr u=>exact ABn ⟨by omega,by rw [wk (by omega)];simp,by omega,fun a b h1 h2=>by
        rcases Nat.lt_or_ge a i with h4 | h4
        · exact hs a b h1 h4
        · obtain rfl:a=i:=by omega
          exact hex b h1⟩
  ·obtain rfl:i=n:=by omega
   intro a b ha hb;rcases Nat.lt_trichotomy a b with h1 | h1 | h1
   ·exact (hs b a h1 hb).symm
   ·rw [h1]
   ·exact hs a b h1 ha
 ·cases ex with
  | inl e=>obtain ⟨rfl,h⟩:=hex;exact ABn ⟨fun h1=>Bool.noConfusion h1,fun h1=>absurd h1 h⟩
  | inr u=>exact ABn ⟨fun _=>hex,fun _=>rfl⟩
theorem Aqq {fuel n D:Nat} {F G:Nat->Nat->Int} (hn:1<=n) (Aa:n<=16) (hD:16 * (D * D) < AFa) (hF:∀ i j,i < n->j < n->(F i j).natAbs<=D) (hG:∀ i j,i < n->j < n->(G i j).natAbs<=D) (hH:∀ i j,i < n->j < n->(AF8 n (trF G) F i j).natAbs<=D) (hf:100 < fuel):AE8 fuel (tab n n F) (tab n n G)=some (tab n n (AF8 n (AF8 n (trF G) F) G)):=by
 apply ok_eq;unfold AE8;refine ABs (AC1 (Aim hn Aa hf)) fun x hx=>?_;subst hx;dsimp only
 have pr:∀ {F G:Nat->Nat->Int},(∀ i j,i < n->j < n->(F i j).natAbs<=D)->(∀ i j,i < n->j < n->(G i j).natAbs<=D)->Ok (AD7 fuel (tab n n F) (tab n n G)) (· =tab n n (AF8 n F G)):=fun {F G} hF hG=>by
   unfold AD7
   refine ABs (AC1 (An0 hn Aa hD hF hG hf)) fun x hx=>?_
   subst hx
   exact ABn rfl
 refine ABs (pr (fun i j hi hj=>hG j i hj hi) hF) fun x hx=>?_;subst hx;refine ABs (pr hH hG) fun y hy=>ABn hy
theorem Aio (a:Int):AG8 a<=0↔a<=0:=by unfold AG8;split <;> (try split) <;> omega
theorem Aul {fuel n:Nat} {F:Nat->Nat->Int} (Ae:1<=n) (hn:n<=8) (hb:∀ i j,i < n->j < n->(F i j).natAbs<=AH6) (hf:100 < fuel):Ok (AG2 fuel (tab n n F)) fun r=>r=true↔AMx n F/\AOi n F:=by
 unfold AG2;refine ABs (AC1 (AX5 Ae hn hb hf)) fun x hx=>?_;subst hx;dsimp only;refine ABs (Q:=fun ex=>match ex with | .inl e=>e=false/\¬ AMx n F | .inr _=>AMx n F) (AB7 (fun h=>absurd h (by decide)) fun _=>ABs (Arq (by omega) hf) fun r hr=>?_) fun ex hex=>?_
 ·refine AB7 (fun h=>ABn ⟨rfl,fun h1=>?_⟩) (fun h=>ABn (hr.1 ?_))
  ·rw [hr.2 h1] at h;exact absurd h (by decide)
  ·cases r
   ·exact absurd rfl h
   ·rfl
 ·cases ex with
  | inl e=>obtain ⟨rfl,h⟩:=hex;exact ABn ⟨fun h1=>Bool.noConfusion h1,fun h1=>absurd h1.1 h⟩
  | inr u=>
    dsimp only at hex ⊢
    have h0:∀ k,k<=0->0 < det k F:=fun k hk=>by
      obtain rfl:k=0:=by omega
      simp [det]
    refine ABs (AC3 (fun i s=>s=((i:Nat):Int)/\i<=n/\ ∀ k,k<=i->0 < det k F) n (Q:=fun ex=>match ex with | .inl e=>e=false/\¬ AOi n F | .inr _=>AOi n F) ⟨rfl,Nat.zero_le _,h0⟩ (by omega) fun i s hi hI=>?_) fun ex Ad=>?_
    · obtain ⟨rfl,hin,hp⟩:=hI
      unfold AJo
      rw [ACy]
      refine AB7 (fun h=>?_) (fun h=>ABn ?_)
      · have hi':i < n:=by omega
        refine ACj (ACk hi') rfl (ABs (AC1 (a:=AG8 (det (i + 1) F)) rfl) fun c hc=>?_)
        subst hc
        refine AB7 (fun h3=>ABn ⟨rfl,fun h4=>?_⟩) (fun h3=>ABn ⟨by omega,by rw [wk (by omega)];simp,by omega,fun k hk=>?_⟩)
        · have:=h4 (i + 1) (by omega);have:=(Aio _).1 h3;omega
        · rcases Nat.lt_or_ge k (i + 1) with h4 | h4
          · exact hp k (by omega)
          · obtain rfl:k=i + 1:=by omega
            rw [Aio] at h3;omega
      · obtain rfl:i=n:=by omega
        exact hp
    · cases ex with
      | inl e=>obtain ⟨rfl,h⟩:=Ad;exact ABn ⟨fun h1=>Bool.noConfusion h1,fun h1=>absurd h1.2 h⟩
      | inr u=>exact ABn ⟨fun _=>⟨hex,Ad⟩,fun _=>rfl⟩
theorem AWi {fuel n:Nat} {F:Nat->Nat->Int} (Ac:1<=n) (hn:n<=8) (hb:∀ i j,i < n->j < n->(F i j).natAbs<=AH6) (hf:100 < fuel):Ok (AEh fuel (tab n n F)) fun r=>r=0↔AMx n F/\AOi n F:=by
 unfold AEh;refine ABs (AC1 (Ab6 Ac (by omega) hf)) fun x hx=>?_;subst hx;dsimp only;refine AB7 (fun h=>absurd h (by decide)) fun _=>AB7 (fun h=>by omega) fun _=>ABs (Arq (by omega) hf) fun r hr=>AB7 (fun h=>ABn ⟨fun h1=>by omega,fun h1=>?_⟩) fun h=>ABs (Aul Ac hn hb hf) fun q hq=>AB7 (fun h2=>ABn ⟨fun h1=>by omega,fun h1=>?_⟩) fun h2=>ABn ⟨fun _=>hq.1 ?_,fun _=>rfl⟩
 ·rw [hr.2 h1.1] at h;exact absurd h (by decide)
 ·rw [hq.2 h1] at h2;exact absurd h2 (by decide)
 ·cases q
  ·exact absurd rfl h2
  ·rfl
theorem Aip {fuel n:Nat} {F:Nat->Nat->Int} (hn:n<=8) (hb:∀ i j,i < n->j < n->(F i j).natAbs<=AH6) (hf:100 < fuel):AGv fuel (tab n n F)=some (decide (det n F<=10000)):=by
 apply ok_eq;unfold AGv;refine ABs (AC1 (AXb hn hb (by omega))) fun x hx=>?_;subst hx;refine ABs (Q:=(· =10000)) ⟨10000,if_pos (by omega),rfl⟩ fun y hy=>?_;subst hy;refine ABs (AC1 (a:=AS5 (det n F) 10000) rfl) fun c hc=>ABn ?_;subst hc;exact decide_eq_decide.2 (Adl _ _)
def idS (i r c:Nat):Int:=if r=c/\r < i then 1 else 0
theorem Aiq {fuel n:Nat} (hn:1<=n) (Ae:n<=16) (hf:100 < fuel):AFm fuel (n:Int)=some (tab n n dl,true):=by
 apply ok_eq;unfold AFm;refine ABs (Q:=fun ex=>match ex with | .inl _=>False | .inr _=>True) (AB7 (fun h=>by omega) fun _=>AB7 (fun h=>by omega) fun _=>ABn trivial) fun ex hex=>?_
 cases ex with
 | inl e=>exact hex.elim
 | inr u=>
   dsimp only
   refine ABs (AC1 (AY2 (by omega) (by omega) (by omega))) fun O hO=>?_
   have Ab:O=tab n n (idS 0):=by
     rw [hO,AGn n (0:Int),AGn,AQa]
     exact ADl fun r _=>ADl fun c _=>by unfold idS;rw [if_neg (by omega)]
   have hlen:O.length=n:=by rw [Ab,ACt]
   refine ABs (AC3 (fun i s=>s=(((i:Nat):Int),tab n n (idS i))/\i<=n) n (Q:=(· =tab n n dl)) ⟨by rw [Ab];rfl,Nat.zero_le _⟩ (by omega) fun i s hi hI=>?_) fun e he=>ABn (by rw [he])
   obtain ⟨rfl,hin⟩:=hI
   unfold AJn
   dsimp only
   rw [hlen]
   refine AB7 (fun h=>?_) (fun h=>ABn ?_)
   · have hi':i < n:=by omega
     refine ACj (ACv hi') rfl (ABs (Q:=(· =1)) ⟨1,if_pos (by omega),rfl⟩ fun y hy=>ACj (ACk hi') rfl (ABn ⟨by omega,?_,by omega⟩))
     subst hy
     rw [wk (by omega),AWh]
     refine Prod.ext (by dsimp only;omega) (APk fun r c hr hc=>?_)
     rw [ADk]
     unfold idS
     by_cases h3:r=i
     · rw [if_pos h3]
       by_cases h4:c=i
       · rw [if_pos h4,if_pos (by omega)]
       · rw [if_neg h4,if_neg (by omega),if_neg (by omega)]
     · rw [if_neg h3]
       by_cases h5:r=c/\r < i
       · rw [if_pos h5,if_pos (by omega)]
       · rw [if_neg h5,if_neg (by omega)]
   · refine APk fun r c hr hc=>?_
     unfold idS dl
     by_cases h5:r=c
     · rw [if_pos (by omega),if_pos h5]
     · rw [if_neg (by omega),if_neg h5]
def toS (n:Nat) (F:Nat->Nat->Int) (i:Nat):List (List Int):=AEl n fun r=>if r < i then AEl n (F r) else []
def toR (n:Nat) (F:Nat->Nat->Int) (i j:Nat):List (List Int):=AEl n fun r=>if r < i then AEl n (F r) else if r=i then AEl n (fun c=>if c < j then F i c else 0) else []
theorem Aun {fuel n:Nat} {F:Nat->Nat->Int} (hn:1<=n) (Ae:n<=16) (hb:∀ i j,i < n->j < n->(F i j).natAbs < 9223372036854775808) (hf:100 < fuel):AHr fuel (tab n n F)=some (tab n n F,true):=by
 apply ok_eq;unfold AHr;refine ABs (AC1 (Aap hn Ae hf)) fun x hx=>?_;subst hx;dsimp only;refine AB7 (fun h=>absurd h (by decide)) fun _=>AD8 (by omega) (ABs (AC3 (fun i s=>s=(((i:Nat):Int),toS n F i)/\i<=n) n (Q:=fun ex=>match ex with | .inl _=>False | .inr e=>e=tab n n F) ⟨?_,Nat.zero_le _⟩ (by omega) fun i s hi hI=>?_) fun ex hex=>?_)
 ·rw [Int.toNat_natCast,AGn];exact congrArg (Prod.mk (0:Int)) (ADl fun r _=>by rw [if_neg (by omega)])
 ·obtain ⟨rfl,hin⟩:=hI;unfold AKg;dsimp only;rw [List.length_replicate,Int.toNat_natCast];refine AB7 (fun h=>AD8 (by omega) ?_) (fun h=>ABn ?_)
  ·have hi':i < n:=by omega
   have e0:sI (toS n F i) (i:Int) (List.replicate n (0:Int))=toR n F i 0:=by
     rw [ADw];unfold toS;rw [AFw]
     refine ADl fun r _=>?_
     by_cases h1:r=i
     · rw [if_pos h1,if_neg (by omega),if_pos h1,AGn];exact ADl fun c _=>by rw [if_neg (by omega)]
     · rw [if_neg h1]
       by_cases h2:r < i
       · rw [if_pos h2,if_pos h2]
       · rw [if_neg h2,if_neg h2,if_neg h1]
   refine ACj (n:=i) (ACk hi') rfl ?_;rw [e0];refine ACj (n:=i) (ACk hi') rfl ?_;rw [if_neg (by omega),if_pos rfl];refine ABs (AC3 (fun j s=>s=(((j:Nat):Int),toR n F i j)/\j<=n) n (Q:=fun ex=>match ex with | .inl _=>False | .inr e=>e=toS n F (i + 1)) ⟨rfl,Nat.zero_le _⟩ (by omega) fun j s hj hJ=>?_) fun ex hex=>?_
   ·obtain ⟨rfl,hjn⟩:=hJ;unfold AKf;dsimp only;rw [ACy];refine AB7 (fun h2=>?_) (fun h2=>ABn ?_)
    ·have hj':j < n:=by omega
     refine ACj (ACv hi') rfl (ACj (ACk hj') rfl (ABs (Q:=(· =(F i j,true))) ⟨_,if_pos (hb i j hi' hj'),rfl⟩ fun y hy=>?_));subst hy;dsimp only;refine AB7 (fun h=>absurd h (by decide)) fun _=>ACj (n:=i) (ACk hi') rfl ?_;rw [if_neg (by omega),if_pos rfl];refine ACj (ACk hj') rfl (ABn ⟨by omega,?_,by omega⟩);rw [wk (by omega),ADw,ADw];refine Prod.ext (by dsimp only;omega) ?_;dsimp only;unfold toR;rw [AFw,AFw];refine ADl fun r _=>?_;by_cases h1:r=i
     ·rw [if_pos h1,if_neg (by omega),if_pos h1];refine ADl fun c _=>?_;by_cases h3:c=j
      ·rw [if_pos h3,if_pos (by omega),h3]
      ·rw [if_neg h3];by_cases h4:c < j
       ·rw [if_pos h4,if_pos (by omega)]
       ·rw [if_neg h4,if_neg (by omega)]
     ·rw [if_neg h1,if_neg h1,if_neg h1]
    ·refine ADl fun r _=>?_;by_cases h1:r < i
     ·rw [if_pos h1,if_pos (by omega)]
     ·rw [if_neg h1];by_cases h3:r=i
      ·rw [if_pos h3,if_pos (by omega),h3];exact ADl fun c hc=>by rw [if_pos (by omega)]
      ·rw [if_neg h3,if_neg (by omega)]
   ·cases ex with
    | inl e=>exact hex.elim
    | inr e=>exact ABn ⟨by omega,by rw [wk (by omega),hex];simp,by omega⟩
  ·refine ADl fun r hr=>?_;rw [if_pos (by omega)];rfl
 ·cases ex with
  | inl e=>exact hex.elim
  | inr e=>exact ABn (by rw [hex])
theorem An1 {S E:Type} {body:S->Option (S ⊕ E)} {Q:E->Prop} (I:S->Prop) (μ:S->Nat) (hs:∀ s,I s->Ok (body s) fun r=>match r with | .inl s'=>I s'/\μ s' < μ s | .inr e=>Q e):∀ {fuel:Nat} {s0:S},I s0->μ s0 < fuel->Ok (iter body fuel s0) Q:=by
  intro fuel;induction fuel with
  | zero=>intro s0 _ h;omega
  | succ f ih=>
    intro s0 h0 hf;obtain ⟨r,hr,hq⟩:=hs s0 h0;cases r with
    | inl s'=>
      obtain ⟨e,he,hQ⟩:=ih hq.1 (by have:=hq.2;omega);exact ⟨e,by simp [iter,hr,he],hQ⟩
    | inr e=>exact ⟨e,by simp [iter,hr],hq⟩
theorem AQ1 (a:Int):AG8 a=0↔a=0:=by unfold AG8;split <;> (try split) <;> omega
theorem Air (a:Int):AG8 a < 0↔a < 0:=by unfold AG8;split <;> (try split) <;> omega
theorem An2 {fuel:Nat} {a b:Int} (ha:a.natAbs < AFa) (hb:b.natAbs < AFa) (h0:b≠0):AEp fuel a b=some (a / b):=by
 apply ok_eq;unfold AEp;refine ABs (AC1 (a:=(a / b,a % b,true)) (if_pos ⟨ha,hb,h0⟩)) fun x hx=>?_;subst hx;exact ABn rfl
theorem Auo {fuel:Nat} {a b:Int} (ha:a.natAbs < AFa) (hb:b.natAbs < AFa) (h0:b≠0):AFq fuel a b=some (a % b):=by
 apply ok_eq;unfold AFq;refine ABs (AC1 (a:=(a / b,a % b,true)) (if_pos ⟨ha,hb,h0⟩)) fun x hx=>?_;subst hx;exact ABn rfl
theorem Aup {fuel:Nat} {a b:Int} (ha:a.natAbs < AFa) (hb:b.natAbs < AFa) (h0:b≠0) (hf:AFa < fuel):Ok (AJb fuel a b) fun g=>0 < g/\g ∣ a/\g ∣ b:=by
 unfold AJb;refine ABs (AC1 (a:=(a.natAbs:Int)) rfl) fun x hx=>ABs (AC1 (a:=(b.natAbs:Int)) rfl) fun y hy=>?_;subst hx;subst hy;refine ABs (An1 (fun s:Int × Int=>0<=s.1/\0<=s.2/\s.1.natAbs < AFa/\s.2.natAbs < AFa/\(0 < s.1∨0 < s.2)/\ ∀ d:Int,d ∣ s.1->d ∣ s.2->d ∣ a/\d ∣ b) (fun s=>s.2.natAbs) (Q:=fun g=>0 < g/\g ∣ a/\g ∣ b) (fun s hs=>?_) ⟨by omega,by omega,by omega,by omega,.inr (by omega),fun d h1 h2=>⟨Int.dvd_natAbs.1 h1,Int.dvd_natAbs.1 h2⟩⟩ (by dsimp only;omega)) fun g hg=>ABn hg;obtain ⟨u,v⟩:=s;obtain ⟨h1,h2,h3,h4,h5,h6⟩:=hs;unfold AMk;dsimp only at h1 h2 h3 h4 h5 h6 ⊢;refine ABs (AC1 (a:=AG8 v) rfl) fun s hs=>?_;subst hs;refine AB7 (fun hv=>?_) fun hv=>ABn ?_
 ·have Ab:v≠0:=fun h=>hv ((AQ1 v).2 h);refine ABs (AC1 (Auo h3 h4 Ab)) fun r hr=>ABn ?_;subst hr;have e1:=Int.emod_nonneg u Ab;have e2:=Int.emod_lt_of_pos u (show 0 < v by omega);refine ⟨⟨h2,e1,h4,by omega,.inl (by omega),fun d d1 d2=>h6 d ?_ d1⟩,by omega⟩;have:=Int.dvd_add d2 (Int.dvd_trans d1 ⟨u / v,rfl⟩);rwa [Int.emod_add_mul_ediv] at this
 ·have Ab:v=0:=by
    rcases Decidable.em (AG8 v=0) with h | h
    · exact (AQ1 v).1 h
    · exact absurd h hv
  subst Ab;exact ⟨by omega,h6 u (Int.dvd_refl u) ⟨0,by simp⟩⟩
def FrE (n d n' d':Int):Prop:=0 < d'/\n' * d=n * d'/\n'.natAbs<=n.natAbs/\d'.natAbs<=d.natAbs
theorem Arr {fuel:Nat} {a b:Int} (ha:a.natAbs < AFa) (hb:b.natAbs < AFa) (h0:b≠0) (hf:AFa < fuel):Ok (AH3 fuel a b) fun r=>r.2=true/\FrE a b r.1.1 r.1.2:=by
 unfold AH3;refine ABs (AC1 (a:=AG8 b) rfl) fun s hs=>?_;subst hs;refine AB7 (fun h=>absurd ((AQ1 b).1 h) h0) fun _=>ABs (Q:=fun e:Int × Int=>0 < e.2/\e.1 * b=a * e.2/\e.1.natAbs=a.natAbs/\e.2.natAbs=b.natAbs) (ABs (AC1 (a:=AG8 b) rfl) fun s hs=>?_) fun e he=>?_
 ·subst hs;refine AB7 (fun h=>?_) fun h=>ABn ⟨?_,rfl,rfl,rfl⟩
  ·have:=(Air b).1 h;refine ABs (AC1 (a:= -a) rfl) fun x hx=>ABs (AC1 (a:= -b) rfl) fun y hy=>ABn ?_;subst hx;subst hy;exact ⟨by dsimp only;omega,by dsimp only;grind,by dsimp only;omega,by dsimp only;omega⟩
  ·have: ¬ b < 0:=fun h2=>h ((Air b).2 h2);dsimp only;omega
 ·obtain ⟨u,v⟩:=e;obtain ⟨h1,h2,h3,h4⟩:=he;dsimp only at h1 h2 h3 h4 ⊢;refine ABs (Aup (a:=u) (b:=v) (by omega) (by omega) (by omega) hf) fun g hg=>?_;obtain ⟨g1,⟨u',rfl⟩,⟨v',rfl⟩⟩:=hg;have gn:g≠0:=by omega
  have hv':0 < v':=Int.pos_of_mul_pos_right h1 g1;have e1:(g * u').natAbs=g.natAbs * u'.natAbs:=Int.natAbs_mul _ _;have e2:(g * v').natAbs=g.natAbs * v'.natAbs:=Int.natAbs_mul _ _;have g2:1<=g.natAbs:=by omega
  have m1:=Nat.mul_le_mul_right u'.natAbs g2;have m2:=Nat.mul_le_mul_right v'.natAbs g2;have m3:=Nat.mul_le_mul_left g.natAbs (show 1<=v'.natAbs by omega);refine ABs (AC1 (An2 (by omega) (by omega) gn)) fun x hx=>ABs (AC1 (An2 (by omega) (by omega) gn)) fun y hy=>ABn ⟨rfl,?_⟩;subst hx;subst hy;rw [Int.mul_ediv_cancel_left _ gn,Int.mul_ediv_cancel_left _ gn];refine ⟨hv',?_,by dsimp only;omega,by dsimp only;omega⟩;have:g * (u' * b)=g * (a * v'):=by grind
  exact Int.eq_of_mul_eq_mul_left gn this
theorem Adm {fuel:Nat} {a b:Int} (ha:a.natAbs < AFa) (hb:b.natAbs < AFa) (h0:b≠0) (hf:AFa < fuel):Ok (AEa fuel a b) fun r=>FrE a b r.1 r.2:=by
 unfold AEa;refine ABs (Arr ha hb h0 hf) fun r hr=>?_;obtain ⟨⟨x,y⟩,c⟩:=r;obtain ⟨h1,h2⟩:=hr;dsimp only at h1 h2 ⊢;subst h1;exact AB7 (fun h=>absurd h (by decide)) fun _=>ABn h2
theorem As5 {fuel:Nat} {a b:Int} (ha:a.natAbs < AFa) (hb:b.natAbs < AFa) (h0:b≠0) (hf:AFa < fuel):Ok (AG3 fuel a b) fun r=>FrE a b r.1 r.2:=by
 unfold AG3;exact ABs (Adm ha hb h0 hf) fun r hr=>ABn hr
theorem Afi {N D N' D':Int} (hD:0 < D) (hD':0 < D') (h:N * D'=N' * D):N / D=N' / D':=by
 rw [<- Int.mul_ediv_mul_of_pos_left N D hD',h,Int.mul_comm D D',Int.mul_ediv_mul_of_pos_left N' D' hD]
theorem As6 {fuel:Nat} {a b:Int} (hab:4 * (a.natAbs + b.natAbs) < AFa) (h0:0 < b) (hf:AFa < fuel):Ok (AHj fuel a b) fun r=>r=(2 * a + b) / (2 * b):=by
 have Ag:(1:Int).natAbs < AFa:=by
   have:(1:Int).natAbs=1:=rfl
   omega
 have Ah:(2:Int).natAbs < AFa:=by
   have:(2:Int).natAbs=2:=rfl
   omega
 unfold AHj;refine ABs (Q:=(· =(1,2))) ?_ fun hh he=>?_
 ·unfold AKu;exact ABs (Q:=(· =1)) ⟨1,if_pos (by omega),rfl⟩ fun x hx=>ABs (Q:=(· =2)) ⟨2,if_pos (by omega),rfl⟩ fun y hy=>ABn (by rw [hx,hy])
 subst he;dsimp only;refine ABs (Q:=fun r=>0 < r.2/\r.1 * (2 * b)=(2 * a + b) * r.2/\r.1.natAbs < AFa/\r.2.natAbs < AFa) ?_ fun r hr=>?_
 ·unfold ALj;refine ABs (Adm (by omega) (by omega) (by omega) hf) fun x hx=>ABs (Adm (a:=1) (b:=2) Ag Ah (by omega) hf) fun y hy=>?_;obtain ⟨x1,x2⟩:=x;obtain ⟨y1,y2⟩:=y;obtain ⟨a1,a2,a3,a4⟩:=hx;obtain ⟨b1,b2,b3,b4⟩:=hy;dsimp only at *;obtain rfl:y2=2:=by omega
  obtain rfl:y1=1:=by omega
  refine ABs (AC1 (a:=x1 * 2) (if_pos (by have:(2:Int).natAbs=2:=rfl;rw [this];omega))) fun u hu=>ABs (AC1 (a:=1 * x2) (if_pos (by have:(1:Int).natAbs=1:=rfl;rw [this];omega))) fun v hv=>?_;subst hu;subst hv;refine ABs (AC1 (a:=x1 * 2 + 1 * x2) (if_pos ⟨by omega,by omega⟩)) fun w hw=>ABs (AC1 (a:=x2 * 2) (if_pos (by have:(2:Int).natAbs=2:=rfl;rw [this];omega))) fun z hz=>?_;subst hw;subst hz;refine ABs (Arr (by omega) (by omega) (by omega) hf) fun r hr=>ABn ?_;obtain ⟨⟨r1,r2⟩,c⟩:=r;obtain ⟨-,c1,c2,c3,c4⟩:=hr;dsimp only at *;refine ⟨c1,?_,by omega,by omega⟩;have h1:x2 * (r1 * (2 * b))=x2 * ((2 * a + b) * r2):=by grind
  exact Int.eq_of_mul_eq_mul_left (show x2≠0 by omega) h1
 ·obtain ⟨r1,r2⟩:=r;obtain ⟨h1,h2,h3,h4⟩:=hr;dsimp only at *;unfold AJ7;refine ABs (Q:=fun r=>r=(2 * a + b) / (2 * b)) (ABs (Adm h3 h4 (by omega) hf) fun x hx=>?_) fun z hz=>ABn hz;obtain ⟨x1,x2⟩:=x;obtain ⟨a1,a2,a3,a4⟩:=hx;dsimp only at *;refine ABs (AC1 (An2 (by omega) (by omega) (by omega))) fun q hq=>ABn ?_;subst hq;refine Afi a1 (by omega) ?_;have h5:r2 * (x1 * (2 * b))=r2 * ((2 * a + b) * x2):=by grind
  exact Int.eq_of_mul_eq_mul_left (show r2≠0 by omega) h5
end Go.Proofs.YtdnbklmefmoofaaGreatDoor
namespace Go.Proofs.YtdnbklmefmoofaaGreatDoor
open Go Go.QF
set_option maxRecDepth 100000
theorem Afj:64 * (dBd AH6 (8 + 1) * dBd AH6 (8 + 1)) < AFa:=by decide
theorem Afk {fuel n j:Nat} {F:Nat->Nat->Int} (hn:n<=8) (hj:j + 1 < n) (hb:∀ i j,i < n->j < n->(F i j).natAbs<=AH6) (hf:100 < fuel):Ok (AGg fuel (tab n n F) (AEl n fun a=>det (a + 1) F) ((j + 1:Nat):Int)) fun r=>r=true↔LvF F j:=by
 show Ok _ fun r:Bool=>r=true↔3 * (det (j + 1) F * det (j + 1) F)<=4 * (det j F * det (j + 2) F + Mn j F (j + 1) j * Mn j F (j + 1) j);unfold AGg;have w1:w64 (((j + 1:Nat):Int) - 1)=(j:Int):=by rw [wk (by omega)];omega
 have w2:w64 (((j + 1:Nat):Int) + 1)=((j + 2:Nat):Int):=by rw [wk (by omega)];omega
 rw [w1,w2];have hD:=Afj;have bl:(Mn j F (j + 1) j).natAbs<=dBd AH6 (8 + 1):=Aao hn (by omega) (by omega) (by omega) hb;have b0:(det j F).natAbs<=dBd AH6 (8 + 1):=AVb hn (by omega) hb;have b1:(det (j + 1) F).natAbs<=dBd AH6 (8 + 1):=AVb hn (by omega) hb;have b2:(det (j + 2) F).natAbs<=dBd AH6 (8 + 1):=AVb hn (by omega) hb;have p1:=Nat.mul_le_mul b0 b2;have p2:=Nat.mul_le_mul bl bl;have p3:=Nat.mul_le_mul b1 b1;have e1:=Int.natAbs_mul (det j F) (det (j + 2) F);have e2:=Int.natAbs_mul (Mn j F (j + 1) j) (Mn j F (j + 1) j);have e3:=Int.natAbs_mul (det (j + 1) F) (det (j + 1) F);refine ABs (AC1 (Aan hn (by omega) (by omega) hb hf)) fun l hl=>?_;subst hl;refine ABs (Q:=(· =4)) ⟨4,if_pos (by omega),rfl⟩ fun x hx=>?_;subst hx;refine ABs (AC1 (AVs (by omega) hn)) fun x hx=>ABs (AC1 (AVs (by omega) hn)) fun y hy=>?_;subst hx;subst hy;refine ABs (AC1 (a:=det j F * det (j + 2) F) (if_pos (by omega))) fun x hx=>ABs (AC1 (a:=Mn j F (j + 1) j * Mn j F (j + 1) j) (if_pos (by omega))) fun y hy=>?_;subst hx;subst hy;generalize det j F * det (j + 2) F=P at *;generalize Mn j F (j + 1) j * Mn j F (j + 1) j=L at *;refine ABs (AC1 (a:=P + L) (if_pos (by omega))) fun x hx=>ABs (AC1 (a:=4 * x) (if_pos (by have:(4:Int).natAbs=4:=rfl;rw [this];omega))) fun y hy=>?_;subst hx;subst hy;refine ABs (Q:=(· =3)) ⟨3,if_pos (by omega),rfl⟩ fun x hx=>?_;subst hx;refine ABs (AC1 (AVs (by omega) hn)) fun x hx=>ABs (AC1 (AVs (by omega) hn)) fun y hy=>?_;subst hx;subst hy;refine ABs (AC1 (a:=det (j + 1) F * det (j + 1) F) (if_pos (by omega))) fun x hx=>?_;subst hx;generalize det (j + 1) F * det (j + 1) F=S at *;refine ABs (AC1 (a:=3 * S) (if_pos (by have:(3:Int).natAbs=3:=rfl;rw [this];omega))) fun x hx=>ABs (AC1 (a:=AS5 (4 * (P + L)) x) rfl) fun c hc=>ABn ?_;subst hx;subst hc;rw [decide_eq_true_iff];unfold AS5;split <;> (try split) <;> omega
def ATe (A:Nat->Nat->Int) (i j:Nat):Int:= -((2 * Mn j A i j + det (j + 1) A) / (2 * det (j + 1) A))
def AWj (A:Nat->Nat->Int) (i j:Nat):Nat->Nat->Int:=ADz dl j fun q=>if q=i then ATe A i j else dl j q
def ARv (A:Nat->Nat->Int) (i:Nat):Prop:= ∀ r l,l < r->r < i->SzF A r l
def ATf (A:Nat->Nat->Int) (i:Nat):Prop:= ∀ r,r + 1 < i->LvF A r
def An3 (n:Nat) (A:Nat->Nat->Int) (r:List (List Int) × Bool):Prop:=
  (r=([],false)/\ARv A n/\ATf A n)∨
  (∃ i j,j < i/\i < n/\¬ SzF A i j/\ARv A i/\(∀ l,l < i->j < l->SzF A i l)/\ATf A i/\r=(tab n n (AWj A i j),true))∨
  ∃ j,j + 1 < n/\¬ LvF A j/\ARv A (j + 2)/\ATf A (j + 1)/\r=(tab n n (AHe dl (j + 1) j),true)
theorem As7 {fuel n:Nat} {A:Nat->Nat->Int} (Ai:1<=n) (hn:n<=8) (hp:AOi n A) (hb:∀ i j,i < n->j < n->(A i j).natAbs<=AH6) (hf:AFa < fuel):Ok (AIr fuel (tab n n A)) (An3 n A):=by
 have Ac:100 < fuel:=Nat.lt_of_le_of_lt (by decide) hf;have hD:=Afj;unfold AIr;refine ABs (AC1 (AX5 Ai hn hb Ac)) fun x hx=>?_;subst hx;dsimp only;rw [ACt];refine ABs (AC1 (Aiq Ai (by omega) Ac)) fun x hx=>?_;subst hx;dsimp only;refine ABs (AC3 (fun i s=>s=(((i:Nat):Int),tab n n dl)/\i<=n/\ARv A i/\ATf A i) n (Q:=fun ex=>match ex with | .inl r=>An3 n A r | .inr _=>ARv A n/\ATf A n) ⟨rfl,Nat.zero_le _,fun r l h1 h2=>by omega,fun r h=>by omega⟩ (by omega) fun i s hi hI=>?_) fun ex hex=>?_
 ·obtain ⟨rfl,hin,hsz,hlv⟩:=hI;unfold ALu;dsimp only;rw [ACt];refine AB7 (fun h=>?_) (fun h=>ABn ?_)
  ·have hi':i < n:=by omega
   refine ABs (AC3 (fun k s=>s=((i:Int) - 1 - k,tab n n dl)/\k<=i/\ ∀ l,l < i->i<=l + k->SzF A i l) i (Q:=fun ex=>match ex with | .inl r=>An3 n A r | .inr e=>e=tab n n dl/\ ∀ l,l < i->SzF A i l) ⟨by rw [wk (by omega)];simp,Nat.zero_le _,fun l h1 h2=>by omega⟩ (by omega) fun k s hk hK=>?_) fun ex hex=>?_
   ·obtain ⟨rfl,hki,hz⟩:=hK;unfold ALt;dsimp only;refine AB7 (fun h2=>?_) (fun h2=>ABn ⟨rfl,fun l hl=>hz l hl (by omega)⟩);obtain ⟨j,hj⟩:∃ j:Nat,(i:Int) - 1 - k=j:=⟨i - 1 - k,by omega⟩;rw [hj];have hji:j < i:=by omega
    refine ABs (AC1 (Ail hn hi' (by omega) hb Ac)) fun b Ag=>?_;subst Ag;refine AB7 (fun h3=>?_) (fun h3=>ABn ⟨by omega,?_,by omega,fun l h4 h5=>?_⟩)
    ·have hbad: ¬ SzF A i j:=fun h=>by rw [<- AY9] at h;simp [h] at h3
     refine ACj (ACv (by omega)) rfl (ABs (AC1 (Aan hn hi' (by omega) hb Ac)) fun l hl=>?_);subst hl;rw [show w64 ((j:Int) + 1)=((j + 1:Nat):Int) by rw [wk (by omega)];omega];refine ABs (AC1 (AVs (by omega) hn)) fun d hd=>?_;subst hd;have bl:(Mn j A i j).natAbs<=dBd AH6 (8 + 1):=Aao hn hi' (by omega) (by omega) hb;have b1:(det (j + 1) A).natAbs<=dBd AH6 (8 + 1):=AVb hn (by omega) hb;have hd:=hp (j + 1) (by omega);have hDD:dBd AH6 (8 + 1)<=dBd AH6 (8 + 1) * dBd AH6 (8 + 1):=Nat.le_mul_of_pos_left _ (by omega);refine ABs (As5 (by omega) (by omega) (by omega) hf) fun q hq=>?_;obtain ⟨x,y⟩:=q;obtain ⟨q1,q2,q3,q4⟩:=hq;dsimp only at q1 q2 q3 q4 ⊢;refine ABs (As6 (by omega) q1 hf) fun m hm=>ABs (AC1 (a:= -m) rfl) fun c hc=>?_
     have Ap:c=ATe A i j:=by
       rw [hc,hm]
       unfold ATe
       congr 1
       refine Afi (by omega) (by omega) ?_
       grind
     clear hm hc;refine ACj (ACk hi') rfl (ABn (.inr (.inl ⟨i,j,hji,hi',hbad,hsz,fun l h4 h5=>hz l h4 (by omega),hlv,?_⟩)));rw [ADw,ADw,AFw,Ap,show (AEl n fun q=>if q=i then ATe A i j else dl j q)=(List.range n).map fun q=>if q=i then ATe A i j else dl j q from rfl,ALn];rfl
    ·rw [wk (by omega)];refine congrArg (fun z=>(z,tab n n dl)) ?_;omega
    ·have hgood:SzF A i j:=by rw [<- AY9];simpa using h3
     rcases Nat.lt_or_ge (l + k) i with h6 | h6
     ·obtain rfl:l=j:=by omega
      exact hgood
     ·exact hz l h4 h6
   ·cases ex with
    | inl r=>exact ABn hex
    | inr e=>
      obtain ⟨rfl,hzi⟩:=hex
      have hsz':ARv A (i + 1):=fun r l h1 h2=>by
        rcases Nat.lt_or_ge r i with h3 | h3
        · exact hsz r l h1 h3
        · obtain rfl:r=i:=by omega
          exact hzi l h1
      dsimp only
      have nx:w64 ((i:Int) + 1)=((i + 1:Nat):Int):=by rw [wk (by omega)];omega
      refine AB7 (fun h4=>?_) (fun h4=>ABn ⟨by omega,by rw [nx],by omega,hsz',fun r hr=>by omega⟩)
      obtain ⟨j,rfl⟩:∃ j,i=j + 1:=⟨i - 1,by omega⟩
      refine ABs (Afk hn hi' hb Ac) fun b Ag=>?_
      refine AB7 (fun h5=>?_) (fun h5=>ABn ⟨by omega,by rw [nx],by omega,hsz',fun r hr=>?_⟩)
      · have hbad: ¬ LvF A j:=fun h=>by rw [Ag.2 h] at h5;cases h5
        rw [show w64 (((j + 1:Nat):Int) - 1)=(j:Int) by rw [wk (by omega)];omega]
        refine ACj (ACv (by omega)) rfl (ACj (ACv hi') rfl (ABn (.inr (.inr ⟨j,hi',hbad,hsz',hlv,?_⟩))))
        rw [ADw,ADw,show AEl n (dl j)=(List.range n).map (dl j) from rfl,show AEl n (dl (j + 1))=(List.range n).map (dl (j + 1)) from rfl,ALn,ALn]
        rfl
      · have hgood:LvF A j:=Ag.1 (by simpa using h5)
        rcases Nat.lt_or_ge r j with h6 | h6
        · exact hlv r (by omega)
        · obtain rfl:r=j:=by omega
          exact hgood
  ·obtain rfl:i=n:=by omega
   exact ⟨hsz,hlv⟩
 ·cases ex with
  | inl r=>exact ABn hex
  | inr u=>exact ABn (.inl ⟨rfl,hex⟩)
end Go.Proofs.YtdnbklmefmoofaaGreatDoor
namespace Go.QF
open Go
theorem Afl (c:Int) (f:Nat->Int) (n:Nat):c * psum f n=psum (fun i=>c * f i) n:=(AIg c f n).symm
theorem Ag5 (c:Int) (f:Nat->Int) (n:Nat):psum f n * c=psum (fun i=>f i * c) n:=by
 rw [Int.mul_comm,Afl];exact ADd fun k _=>Int.mul_comm _ _
section
variable {n K:Nat} {p:Int} {e f:Nat->Nat} {a b D D' S:Nat->Nat->Int}
theorem AT8 {A B C:Nat->Nat->Int} (i j:Nat):AF8 n (AF8 n A B) C i j=AF8 n A (AF8 n B C) i j:=by
 unfold AF8;rw [ADd (g:=fun k=>psum (fun l=>A i l * B l k * C k j) n) fun k _=>Ag5 _ _ _,Abq]
 exact ADd fun l _=>by
   rw [Afl]
   exact ADd fun k _=>by grind
end
end Go.QF
namespace Go.Proofs.YtdnbklmefmoofaaGreatDoor
open Go Go.QF
set_option maxRecDepth 100000
theorem An4 {S E:Type} {body:S->Option (S ⊕ E)} {Q:E->Prop} (I:Nat->S->Prop) (hs:∀ k s,I k s->Ok (body s) fun r=>match r with | .inl s'=> ∃ k',k' < k/\I k' s' | .inr e=>Q e):∀ {fuel k:Nat} {s0:S},I k s0->k < fuel->Ok (iter body fuel s0) Q:=by
  intro fuel;induction fuel with
  | zero=>intro k s0 _ h;omega
  | succ f ih=>
    intro k s0 h0 hf;obtain ⟨r,hr,hq⟩:=hs k s0 h0;cases r with
    | inl s'=>
      obtain ⟨k',h1,h2⟩:=hq;obtain ⟨e,he,hQ⟩:=ih h2 (by omega);exact ⟨e,by simp [iter,hr,he],hQ⟩
    | inr e=>exact ⟨e,by simp [iter,hr],hq⟩
theorem Afm {n i j s:Nat} {A:Nat->Nat->Int} (hj:j < i) (hi:i < n) (hs:s < n) (X:Nat->Int):psum (fun k=>X k * AWj A i j k s) n=X s + if s=i then ATe A i j * X j else 0:=by
 have h1:∀ k,X k * AWj A i j k s=X k * dl k s + (if k=j then (if s=i then ATe A i j * X j else 0) else 0):=fun k=>by
   unfold AWj
   rw [ADk]
   split
   · next h=>
     subst h
     split
     · next h2=>subst h2;unfold dl;rw [if_neg (by omega)];grind
     · simp
   · simp
 rw [ADd fun k _=>h1 k,AOh,Ac6 X hs,ATd (a:=j) (by omega) fun k _ hk=>if_neg hk,if_pos rfl]
theorem Afn {n i j r s:Nat} {A:Nat->Nat->Int} (hj:j < i) (hi:i < n) (hr:r < n) (hs:s < n):AF8 n (AF8 n (trF (AWj A i j)) A) (AWj A i j) r s=AXf A i j (ATe A i j) r s:=by
 have h2:∀ k,AF8 n (trF (AWj A i j)) A r k=A r k + if r=i then ATe A i j * A j k else 0:=fun k=>by
   show psum (fun l=>AWj A i j l r * A l k) n=_
   rw [ADd (g:=fun l=>A l k * AWj A i j l r) fun l _=>Int.mul_comm _ _]
   exact Afm hj hi hr fun l=>A l k
 show psum (fun k=>AF8 n (trF (AWj A i j)) A r k * AWj A i j k s) n=_;rw [Afm hj hi hs fun k=>AF8 n (trF (AWj A i j)) A r k];rw [h2,h2,AY8];split <;> split <;> first | (subst_vars;grind) | grind
theorem Adn (j k s:Nat):AHe dl (j + 1) j k s=dl (tau j k) s:=by
 rw [ALw];unfold tau;split
 ·next h=>subst h;rfl
 ·split <;> rfl
theorem Ais (j k:Nat):tau j (tau j k)=k:=by unfold tau;split <;> (try split) <;> (try split) <;> omega
theorem As8 {j k n:Nat} (hj:j + 1 < n) (hk:k < n):tau j k < n:=by unfold tau;split <;> (try split) <;> omega
theorem Ait {n j s:Nat} (hj:j + 1 < n) (hs:s < n) (X:Nat->Int):psum (fun k=>X k * AHe dl (j + 1) j k s) n=X (tau j s):=by
 rw [ATd (a:=tau j s) (As8 hj hs) fun k hk hne=>?_]
 ·rw [Adn,Ais];unfold dl;rw [if_pos rfl];simp
 ·rw [Adn];unfold dl;rw [if_neg (fun h=>hne (by rw [<- h,Ais]))];simp
theorem Aiu {n j r s:Nat} {A:Nat->Nat->Int} (hj:j + 1 < n) (hr:r < n) (hs:s < n):AF8 n (AF8 n (trF (AHe dl (j + 1) j)) A) (AHe dl (j + 1) j) r s=swA A j r s:=by
 show psum (fun k=>AF8 n (trF (AHe dl (j + 1) j)) A r k * AHe dl (j + 1) j k s) n=_;rw [Ait hj hs fun k=>AF8 n (trF (AHe dl (j + 1) j)) A r k];show psum (fun l=>AHe dl (j + 1) j l r * A l (tau j s)) n=_;rw [ADd (g:=fun l=>A l (tau j s) * AHe dl (j + 1) j l r) fun l _=>Int.mul_comm _ _];exact Ait hj hr fun l=>A l (tau j s)
theorem AT9 {n:Nat} {A A' B B':Nat->Nat->Int} {i j:Nat} (hA:∀ k,k < n->A i k=A' i k) (hB:∀ k,k < n->B k j=B' k j):AF8 n A B i j=AF8 n A' B' i j:=ADd fun k hk=>by rw [hA k hk,hB k hk]
theorem Aqr {n:Nat} {T U:Nat->Nat->Int} (i j:Nat):trF (AF8 n T U) i j=AF8 n (trF U) (trF T) i j:=ADd fun k _=>Int.mul_comm _ _
def Ag6 (n:Nat) (A0 T A:Nat->Nat->Int):Prop:= ∀ i j,i < n->j < n->A i j=AF8 n (trF T) (AF8 n A0 T) i j
theorem Ab9 {n:Nat} {A0 T A U B:Nat->Nat->Int} (H:Ag6 n A0 T A) (K:∀ i j,i < n->j < n->AF8 n (AF8 n (trF U) A) U i j=B i j):Ag6 n A0 (AF8 n T U) B:=fun i j hi hj=>by
  rw [<- K i j hi hj,AT8]
  have h1:AF8 n (trF U) (AF8 n A U) i j=AF8 n (trF U) (AF8 n (trF T) (AF8 n A0 (AF8 n T U))) i j:=by
    refine AT9 (fun _ _=>rfl) fun k hk=>?_;rw [AT9 (A':=AF8 n (trF T) (AF8 n A0 T)) (fun l hl=>H k l hk hl) (fun _ _=>rfl),AT8];refine AT9 (fun _ _=>rfl) fun l hl=>?_;rw [AT8]
  rw [h1,<- AT8];exact AT9 (fun k _=>(Aqr i k).symm) fun _ _=>rfl
theorem Aqs {n:Nat} {A:Nat->Nat->Int}:Ag6 n A dl A:=fun i j hi hj=>by
  show _=psum (fun k=>dl k i * AF8 n A dl k j) n
  rw [ADd (g:=fun k=>AF8 n A dl k j * dl k i) fun k _=>Int.mul_comm _ _,Ac6 (fun k=>AF8 n A dl k j) hi]
  exact (Am6 hj).symm
def dm9:Int:=9 ^ 8
def Aqt:Int:=2 ^ 97
theorem Aqu {n i t:Nat} {A:Nat->Nat->Int} (hn:n<=8) (h:Adj n dm9 A i t):∀ k,k < n->A k k<=Aqt:=fun k hk=>by
  by_cases e:k=i
  · subst e
    have h1:=Ab7 (p:=(2 ^ 7 * (2 * dm9)) * (2 ^ 7 * (2 * dm9))) (q:=1) h.sym h.pos h.hi h.dm (by decide) (by decide) (fun l hl=>by
      have h2:=h.lamb l hl;have h3:(2:Int) ^ t * (2 * dm9)<=2 ^ 7 * (2 * dm9):=Int.mul_le_mul_of_nonneg_right (AXh (by have:=h.ht;omega)) (by decide);have h4:=h.pos (l + 1) (by have:=h.hi;omega);have h5:=Int.mul_le_mul_of_nonneg_right h3 (Int.le_of_lt h4);have h6:=AVa (x:=Mn l A k l) (y:=2 ^ 7 * (2 * dm9) * det (l + 1) A) (by omega) (by omega);rw [Int.one_mul];refine Int.le_trans h6 (Int.le_of_eq ?_);grind) k 0 (by omega)
    rw [APi,show det 0 A=1 from rfl,Int.one_mul] at h1
    have h7:(1 + (k:Int) * ((2 ^ 7 * (2 * dm9)) * (2 ^ 7 * (2 * dm9)))) * (dm9 * 1)<=(1 + 7 * ((2 ^ 7 * (2 * dm9)) * (2 ^ 7 * (2 * dm9)))) * (dm9 * 1):=by
      refine Int.mul_le_mul_of_nonneg_right ?_ (by decide);have:=Int.mul_le_mul_of_nonneg_right (show (k:Int)<=7 by omega) (show (0:Int)<=(2 ^ 7 * (2 * dm9)) * (2 ^ 7 * (2 * dm9)) by decide);omega
    exact Int.le_trans h1 (Int.le_trans h7 (by decide))
  · exact Int.le_trans (h.rows k hk e) (by decide)
theorem Afo {n:Nat} {A:Nat->Nat->Int} {B:Int} (hs:AMx n A) (hp:AOi n A) (hB:∀ k,k < n->A k k<=B) {i j:Nat} (hi:i < n) (hj:j < n): -B<=A i j/\A i j<=B:=by
 have h1:=AX2 (k:=0) hs hp (Nat.zero_le _) hi hj;simp only [APi] at h1;have p1:=AX3 (k:=0) hs hp (Nat.zero_le _) hi;have p2:=AX3 (k:=0) hs hp (Nat.zero_le _) hj;simp only [APi] at p1 p2;have h2:=Int.mul_le_mul (hB i hi) (hB j hj) p2 (Int.le_trans p1 (hB i hi));exact Afc (Int.le_trans p1 (hB i hi)) (Int.le_trans h1 h2)
theorem Aiv {n:Nat} {A:Nat->Nat->Int} {B:Int} (hs:AMx n A) (hp:AOi n A) (hB:∀ k,k < n->A k k<=B) {i j:Nat} (hi:i < n) (hj:j < n):(A i j).natAbs<=B.natAbs:=by
 have:=Afo hs hp hB hi hj;omega
def Aca:Nat:=(2 ^ 240) ^ 5
theorem Afp:16 * (Aca * Aca) < AFa:=by decide
def Acb:Nat:=(2 ^ 220) ^ 5
theorem Auq {n:Nat} {A0 A T:Nat->Nat->Int} (hn:n<=8) (hE:∀ i j,(A0 i j).natAbs<=2 ^ 40) (hs:AMx n A0) (hp:AOi n A0) (H:Ag6 n A0 T A) (hB:∀ k,k < n->A k k<=Aqt) {k s:Nat} (hk:k < n) (hs2:s < n):(T k s).natAbs<=Acb:=by
  have h1:=Aql hs hp (fun r=>T r s) hk
  have h2:bil n 0 A0 (fun r=>T r s) (fun r=>T r s)=A s s:=by
    rw [H s s hs2 hs2];show _=psum (fun i=>T i s * psum (fun j=>A0 i j * T j s) n) n;unfold bil;refine ADd fun i _=>?_;rw [<- AIg];exact ADd fun j _=>by rw [APi];grind
  rw [h2] at h1
  have h3:(Aal n A0 k k).natAbs<=dBd (2 ^ 40) 9:=by
    refine Nat.le_trans (AW9 (m:=2 ^ 40) fun i j=>?_) (APj (by decide) (by omega));rw [ADk]
    split
    · unfold dl;split <;> decide
    · exact hE i j
  have h4:Aal n A0 k k * A s s<=(dBd (2 ^ 40) 9:Nat) * Aqt:=by
    have p0:0<=A s s:=by
      have:A s s=bil n 0 A0 (fun r=>T r s) (fun r=>T r s):=h2.symm;rw [this];exact ARu hs hp _ n 0 (by omega)
    have b1:Aal n A0 k k<=(dBd (2 ^ 40) 9:Nat):=by omega
    have b2:=Int.mul_le_mul_of_nonneg_right b1 p0;have b3:=Int.mul_le_mul_of_nonneg_left (hB s hs2) (show (0:Int)<=(dBd (2 ^ 40) 9:Nat) by omega);omega
  have h5:((dBd (2 ^ 40) 9:Nat):Int) * Aqt<=(Acb:Int) * (Acb:Int):=by decide
  have h6:=Afc (x:=T k s) (y:=(Acb:Int)) (by omega) (Int.le_trans (Int.le_trans h1 h4) h5);omega
structure Aa4 (n:Nat) (A:Nat->Nat->Int):Prop where
  sym:AMx n A
  pos:AOi n A
  sz:ARv A n
  lv:ATf A n
  dt:det n A<=10000
structure RSt (n:Nat) (A0 A T:Nat->Nat->Int) (i t:Nat):Prop where
  inv:Adj n dm9 A i t
  car:Ag6 n A0 T A
  dt:det n A=det n A0
def Avb (n:Nat) (A0:Nat->Nat->Int) (k:Nat) (s:List (List Int) × List (List Int)):Prop:=
  ∃ A T i t,RSt n A0 A T i t/\s=(tab n n A,tab n n T)/\k=(Afh n A).toNat * 128 + (128 - (16 * i + t))
theorem Aiw {n:Nat} {A:Nat->Nat->Int} (hp:AOi n A):0<=Afh n A:=by
 have:∀ m,m<=n + 1->0<=psum (fun k=>det k A) m:=fun m=>by
   induction m with
   | zero=>intro _;exact Int.le_refl _
   | succ m ih=>intro h;have h1:=ih (by omega);have h2:=hp m (by omega);simp only [psum];omega
 exact this _ (Nat.le_refl _)
theorem Aqv {n:Nat} {A:Nat->Nat->Int} (hd:∀ k,k<=n->det k A<=dm9):Afh n A<=(n + 1:Nat) * dm9:=by
 have:∀ m,m<=n + 1->psum (fun k=>det k A) m<=(m:Nat) * dm9:=fun m=>by
   induction m with
   | zero=>intro _;simp [psum]
   | succ m ih=>intro h;have h1:=ih (by omega);have h2:=hd m (by omega);simp only [psum];rw [Int.natCast_add,Int.add_mul];omega
 exact this _ (Nat.le_refl _)
theorem Akd {n i j:Nat} {A:Nat->Nat->Int} (hn:n<=8) (hj:j < i) (hi:i < n) (hp:AOi n A) (hb:∀ i j,i < n->j < n->(A i j).natAbs<=AH6):(ATe A i j).natAbs<=3 * dBd AH6 9:=by
 have b1:(Mn j A i j).natAbs<=dBd AH6 9:=Aao hn hi (by omega) (by omega) hb;have b2:(det (j + 1) A).natAbs<=dBd AH6 9:=AVb hn (by omega) hb;have hd:=hp (j + 1) (by omega);unfold ATe;rw [Int.natAbs_neg];have:=Int.natAbs_ediv_le_natAbs (2 * Mn j A i j + det (j + 1) A) (2 * det (j + 1) A);omega
theorem Ake {fuel n:Nat} {A0:Nat->Nat->Int} (Ac:1<=n) (hn:n<=8) (hs:AMx n A0) (hp:AOi n A0) (hE:∀ i j,(A0 i j).natAbs<=2 ^ 40) (hD:∀ k,k<=n->det k A0<=dm9) (hr:∀ k,k < n->A0 k k<=3 * dm9) (hdt:det n A0<=10000) (hf:AFa < fuel):
    Ok (AHs fuel (tab n n A0)) fun r=> ∃ A T,r=(tab n n A,tab n n T,0)/\Aa4 n A/\Ag6 n A0 T A/\det n A=det n A0/\ ∀ k,k < n->A k k<=3 * dm9:=by
 have Ad:100 < fuel:=Nat.lt_of_le_of_lt (by decide) hf;have Av:100000000 < fuel:=Nat.lt_of_le_of_lt (by decide) hf;have Ak:∀ i j,i < n->j < n->(A0 i j).natAbs<=AH6:=fun i j _ _=>Nat.le_trans (hE i j) (by decide);unfold AHs;refine ABs (AWi Ac hn Ak Ad) fun v hv=>?_;have Ap:=hv.2 ⟨hs,hp⟩;subst Ap;refine AB7 (fun h=>absurd rfl h) fun _=>ABs (AC1 (Aip hn Ak Ad)) fun b hb=>?_;subst hb;refine AB7 (fun h=>by simp [hdt] at h) fun _=>?_;refine ABs (AC1 (Ac9 (A:=tab n n A0) (by rw [ACt];omega) (fun z hz=>by rw [AWt z hz];omega) (by rw [ACt];omega))) fun x hx=>?_;subst hx;rw [ACt];refine ABs (AC1 (Aiq Ac (by omega) Ad)) fun x hx=>?_;subst hx;dsimp only;refine ABs (An4 (Avb n A0) (Q:=fun r=> ∃ A T,r=(tab n n A,tab n n T,0)/\Aa4 n A/\Ag6 n A0 T A/\det n A=det n A0/\ ∀ k,k < n->A k k<=3 * dm9) (fun k s hI=>?_) (k:=(Afh n A0).toNat * 128 + 128) ⟨A0,dl,0,0,⟨Aam Ac hs hp hD hr,Aqs,rfl⟩,rfl,rfl⟩ ?_) fun r hr=>ABn hr
 ·obtain ⟨A,T,i,t,R,rfl,rfl⟩:=hI;have L:=R.inv;have hbd:=Aqu hn L;have hb:∀ i j,i < n->j < n->(A i j).natAbs<=AH6:=fun i j hi hj=>Nat.le_trans (Aiv L.sym L.pos hbd hi hj) (by decide);have hT:∀ k s,k < n->s < n->(T k s).natAbs<=Acb:=fun k s hk Ab=>Auq hn hE hs hp R.car hbd hk Ab;have hTD:Acb<=Aca:=by decide
  have hMD:AH6<=Aca:=by decide
  unfold AKj;refine ABs (As7 Ac hn L.pos hb hf) fun r hr=>?_
  have prod:∀ {U:Nat->Nat->Int},(∀ i j,i < n->j < n->(U i j).natAbs<=3 * dBd AH6 9)->(AE8 fuel (tab n n A) (tab n n U)=some (tab n n (AF8 n (AF8 n (trF U) A) U))/\AD7 fuel (tab n n T) (tab n n U)=some (tab n n (AF8 n T U))):=fun {U} hU=>by
    have Am:∀ i j,i < n->j < n->(U i j).natAbs<=Aca:=fun i j hi hj=>Nat.le_trans (hU i j hi hj) (by decide)
    refine ⟨Aqq Ac (by omega) Afp (fun i j hi hj=>Nat.le_trans (hb i j hi hj) hMD) Am (fun i j hi hj=>?_) Ad,?_⟩
    · have h1:=psum_abs (f:=fun l=>U l i) (g:=fun l=>A l j) (D:=3 * dBd AH6 9) n fun l hl=>⟨hU l i hl hi,Nat.le_trans (hb l j hl hj) (by decide)⟩
      have h2:n * ((3 * dBd AH6 9) * (3 * dBd AH6 9))<=8 * ((3 * dBd AH6 9) * (3 * dBd AH6 9)):=Nat.mul_le_mul_right _ hn
      have h3:(AF8 n (trF U) A i j).natAbs=(psum (fun l=>U l i * A l j) n).natAbs:=rfl
      have h4:∀ l,l < n->(U l i).natAbs<=3 * dBd AH6 9/\(A l j).natAbs<=AH6:=fun l hl=>⟨hU l i hl hi,hb l j hl hj⟩
      have h5:(psum (fun l=>U l i * A l j) n).natAbs<=n * (3 * dBd AH6 9 * AH6):=by
        refine QF.psum_abs fun l hl=>?_
        rw [Int.natAbs_mul]
        exact Nat.mul_le_mul (h4 l hl).1 (h4 l hl).2
      have h6:n * (3 * dBd AH6 9 * AH6)<=8 * (3 * dBd AH6 9 * AH6):=Nat.mul_le_mul_right _ hn
      have h7:8 * (3 * dBd AH6 9 * AH6)<=Aca:=by decide
      rw [h3]
      exact Nat.le_trans h5 (Nat.le_trans h6 h7)
    · unfold AD7
      rw [An0 Ac (by omega) Afp (fun i j hi hj=>Nat.le_trans (hT i j hi hj) hTD) Am Ad]
      rfl
  rcases hr with ⟨rfl,hsz,hlv⟩ | ⟨i',j,hji,hi',hbad,hsz,hzi,hlv,rfl⟩ | ⟨j,hj,hbad,hsz,hlv,rfl⟩
  ·dsimp only;refine AB7 (fun _=>?_) (fun h=>absurd rfl h);have hrest:=AVr hn L fun l hl=>hsz i l hl L.hi;refine ABs (AC1 (Aun Ac (by omega) (fun i j hi hj=>Nat.lt_of_le_of_lt (Aiv L.sym L.pos hrest hi hj) (by decide)) Ad)) fun x hx=>ABn ?_;subst hx;exact ⟨A,T,rfl,⟨L.sym,L.pos,hsz,hlv,by rw [R.dt];exact hdt⟩,R.car,R.dt,hrest⟩
  ·dsimp only;refine AB7 (fun h=>absurd h (by decide)) fun _=>?_
   have hU:∀ r s,r < n->s < n->(AWj A i' j r s).natAbs<=3 * dBd AH6 9:=fun r s hr Ab=>by
     have hdl:∀ a b,(dl a b).natAbs<=3 * dBd AH6 9:=fun a b=>by unfold dl;split <;> decide
     unfold AWj
     rw [ADk]
     split
     · split
       · exact Akd hn hji hi' L.pos hb
       · exact hdl _ _
     · exact hdl _ _
   obtain ⟨e1,e2⟩:=prod hU;refine ABs (AC1 e1) fun x hx=>ABs (AC1 e2) fun y hy=>ABn ?_;subst hx;subst hy;obtain ⟨L2,hm⟩:=Akb hn L hi' hji hbad hsz hzi hlv;have hsum:Afh n (AXf A i' j (ATe A i' j))=Afh n A:=ADd fun k _=>AP2 hji;refine ⟨_,?_,AXf A i' j (ATe A i' j),AF8 n T (AWj A i' j),i',i' - j,⟨L2,Ab9 R.car fun r s hr Ab=>Afn hji hi' hr Ab,by rw [AP2 hji];exact R.dt⟩,?_,rfl⟩
   ·rw [hsum];have:=L.hi;have:=L.ht;omega
   ·rw [APk fun r s hr Ab=>Afn hji hi' hr Ab]
  ·dsimp only;refine AB7 (fun h=>absurd h (by decide)) fun _=>?_
   have hU:∀ r s,r < n->s < n->(AHe dl (j + 1) j r s).natAbs<=3 * dBd AH6 9:=fun r s hr Ab=>by
     rw [Adn];unfold dl;split <;> decide
   obtain ⟨e1,e2⟩:=prod hU;refine ABs (AC1 e1) fun x hx=>ABs (AC1 e2) fun y hy=>ABn ?_;subst hx;subst hy;obtain ⟨L2,hm⟩:=Akc hn L hj hbad (fun r l h1 h2=>hsz r l h1 (by omega)) fun r hr=>hlv r (by omega);refine ⟨_,?_,swA A j,AF8 n T (AHe dl (j + 1) j),0,0,⟨L2,Ab9 R.car fun r s hr Ab=>Aiu hj hr Ab,by rw [Aii (by omega)];exact R.dt⟩,?_,rfl⟩
   ·have h1:=Aiw L.pos;have h2:=Aiw L2.pos;have:=L.hi;have:=L.ht;omega
   ·rw [APk fun r s hr Ab=>Aiu hj hr Ab]
 ·have h1:=Aqv hD;have h2:((n + 1:Nat):Int) * dm9<=9 * dm9:=Int.mul_le_mul_of_nonneg_right (by omega) (by decide);have h3:(9 * dm9)=387420489:=by decide
  have h4:387420489 * 128 + 128 < AFa:=by decide
  omega
def part (n i:Nat) (G:Nat->Nat->Int):List (List Int):=AEl n fun r=>if r < i then AEl n (G r) else []
theorem AKy {n i r:Nat} {G:Nat->Nat->Int} (hr:r < i) (hn:r < n):(part n i G)[r]? =some (AEl n (G r)):=by
 unfold part;rw [ACk hn,if_pos hr]
theorem AOp {n i:Nat} {G:Nat->Nat->Int} (hn:i < n):(part n i G)[i]? =some []:=by
 unfold part;rw [ACk hn,if_neg (Nat.lt_irrefl i)]
theorem AMy {n i r:Nat} {G:Nat->Nat->Int} {g:Nat->Int} (hr:r < i):(part n i G).set r (AEl n g)=part n i (ADz G r g):=by
 unfold part;rw [AFw];refine ADl fun k _=>?_;by_cases h:k=r
 ·subst h;rw [if_pos rfl,if_pos hr,ADq]
 ·rw [if_neg h,AFu _ _ h]
theorem AMz {n i:Nat} {G:Nat->Nat->Int} {g:Nat->Int}:(part n i G).set i (AEl n g)=part n (i + 1) (ADz G i g):=by
 unfold part;rw [AFw];refine ADl fun k _=>?_;by_cases h:k=i
 ·subst h;rw [if_pos rfl,if_pos (by omega),ADq]
 ·rw [if_neg h,AFu _ _ h];by_cases h2:k < i
  ·rw [if_pos h2,if_pos (by omega)]
  ·rw [if_neg h2,if_neg (by omega)]
theorem AO1 (n:Nat) (G:Nat->Nat->Int):part n n G=tab n n G:=by
 unfold part;rw [AQa];exact ADl fun k hk=>if_pos hk
theorem AO2 (n:Nat) (G:Nat->Nat->Int):List.replicate n ([]:List Int)=part n 0 G:=by
 rw [AGn];exact ADl fun k _=>(if_neg (by omega)).symm
theorem AWk {L:List Int} {q:Nat} (hq:q < 4611686018427387904):Ok (if (L.length:Int)<=((q:Nat):Int) then (some ((0:Int),((q:Nat):Int))) else ((gI L (w64 ((w64 (((q:Nat):Int) + 1)) - 1))).bind fun x=>(some ((w64 x),(w64 (((q:Nat):Int) + 1)))))) fun e=> ∃ p:Nat,e.2=(p:Int)/\p<=q + 1:=by
  refine AB7 (fun h=>ABn ⟨q,rfl,by omega⟩) fun h=>?_;have hl:q < L.length:=by omega
  refine ACj (n:=q) (List.getElem?_eq_getElem hl) (by rw [AFe (x:=(q:Int) + 1) (by omega) (by omega),wk (by omega)];omega) (ABn ⟨q + 1,?_,by omega⟩);rw [AFe (x:=(q:Int) + 1) (by omega) (by omega)];omega
theorem AUf (x:Int) (m:Nat) (hm:0 < m):0<=Int.tmod (w64 (IntKind.wrap .u8 x)) (m:Int)/\Int.tmod (w64 (IntKind.wrap .u8 x)) (m:Int) < m:=by
 have h1:IntKind.wrap .u8 x=x % 256:=by rw [IntKind.wrap_u8]
 rw [h1];have a1:=Int.emod_nonneg x (show (256:Int)≠0 by decide);have a2:=Int.emod_lt_of_pos x (show (0:Int) < 256 by decide);rw [wk (by omega),Int.tmod_eq_emod_of_nonneg a1];exact ⟨Int.emod_nonneg _ (by omega),Int.emod_lt_of_pos _ (by omega)⟩
def dgF (f:Nat->Int) (r c:Nat):Int:=if c=r then f r else 0
theorem Aur {fuel N q0:Nat} {a1 Ac:Int} {L:List Int} (hN:w64 (1 + (Int.tmod (w64 a1) Ac))=(N:Int)) (Af:N<=8) (Ag:q0<=1000) (hf:100 < fuel):
    Ok (iter (fun s=>AGh fuel a1 L Ac s.1 s.2.1 s.2.2) fuel (0,(q0:Int),(List.replicate (Int.toNat (w64 (1 + (Int.tmod (w64 a1) Ac)))) ([]:List Int)))) fun e=> ∃ (q:Nat) (f:Nat->Int),e=((q:Int),tab N N (dgF f))/\q<=q0 + N/\ ∀ r,r < N->1<=f r/\f r<=6:=by
 refine AC3 (fun i s=> ∃ (q:Nat) (f:Nat->Int),s=(((i:Nat):Int),(q:Int),part N i (dgF f))/\i<=N/\q<=q0 + i/\ ∀ r,r < i->1<=f r/\f r<=6) N ⟨q0,fun _=>0,by rw [hN,Int.toNat_natCast,AO2 N (dgF fun _=>0)];rfl,by omega,by omega,fun r hr=>by omega⟩ (by omega) fun i s hi hI=>?_;obtain ⟨q,f,rfl,hiN,hq,Ad⟩:=hI;unfold AGh;dsimp only;rw [List.length_replicate,hN,Int.toNat_natCast];refine AB7 (fun h=>AD8 (by omega) ?_) (fun h=>ABn ?_)
 ·have hi':i < N:=by omega
  refine ACj (AOp hi') rfl ?_;rw [ADw,AGn N (0:Int),AMz];refine ACj (AKy (by omega) hi') rfl ?_;rw [ADq];refine ABs (Q:=fun e:Int × Int=>0<=e.1/\e.1 < 6/\ ∃ p:Nat,e.2=(p:Int)/\p<=q + 1) (ABs (AWk (L:=L) (q:=q) (by omega)) fun e he=>?_) fun e he=>ACj (ACk hi') rfl (ABn ⟨by omega,?_⟩)
  ·exact ABn ⟨(AUf _ 6 (by decide)).1,(AUf _ 6 (by decide)).2,he⟩
  ·obtain ⟨h1,h2,p,h3,h4⟩:=he;refine ⟨p,fun r=>if r=i then 1 + e.1 else f r,?_,by omega,by omega,fun r hr=>?_⟩
   ·rw [AFe (x:=(i:Int) + 1) (by omega) (by omega),AFe (x:=1 + e.1) (by omega) (by omega),h3,ADw,ADw,AFw,AMy (by omega)];refine congrArg (fun z=>(((i + 1:Nat):Int),(p:Int),z)) (ADl fun r hr=>?_);split
    ·refine ADl fun c hc=>?_;rw [ADk];unfold dgF;dsimp only;split
     ·next h=>subst h;rfl
     ·next h=>rw [ADk,if_neg h]
    ·rfl
   ·dsimp only;split
    ·omega
    ·exact Ad r (by omega)
 ·obtain rfl:i=N:=by omega
  exact ⟨q,f,by rw [AO1],by omega,Ad⟩
theorem As9 {fuel N q0:Nat} {a1 Ac:Int} {L:List Int} (hN:w64 (1 + (Int.tmod (w64 a1) Ac))=(N:Int)) (Af:N<=8) (Ag:q0<=1000) (hf:100 < fuel):
    Ok (iter (fun s=>AF3 fuel a1 L Ac s.1 s.2.1 s.2.2) fuel (0,(q0:Int),(List.replicate (Int.toNat (w64 (1 + (Int.tmod (w64 a1) Ac)))) ([]:List Int)))) fun e=> ∃ (q:Nat) (f:Nat->Int),e=((q:Int),tab N N (dgF f))/\q<=q0 + N/\ ∀ r,r < N->1<=f r/\f r<=9:=by
 refine AC3 (fun i s=> ∃ (q:Nat) (f:Nat->Int),s=(((i:Nat):Int),(q:Int),part N i (dgF f))/\i<=N/\q<=q0 + i/\ ∀ r,r < i->1<=f r/\f r<=9) N ⟨q0,fun _=>0,by rw [hN,Int.toNat_natCast,AO2 N (dgF fun _=>0)];rfl,by omega,by omega,fun r hr=>by omega⟩ (by omega) fun i s hi hI=>?_;obtain ⟨q,f,rfl,hiN,hq,Ad⟩:=hI;unfold AF3;dsimp only;rw [List.length_replicate,hN,Int.toNat_natCast];refine AB7 (fun h=>AD8 (by omega) ?_) (fun h=>ABn ?_)
 ·have hi':i < N:=by omega
  refine ACj (AOp hi') rfl ?_;rw [ADw,AGn N (0:Int),AMz];refine ACj (AKy (by omega) hi') rfl ?_;rw [ADq];refine ABs (Q:=fun e:Int × Int=>0<=e.1/\e.1 < 9/\ ∃ p:Nat,e.2=(p:Int)/\p<=q + 1) (ABs (AWk (L:=L) (q:=q) (by omega)) fun e he=>?_) fun e he=>ACj (ACk hi') rfl (ABn ⟨by omega,?_⟩)
  ·exact ABn ⟨(AUf _ 9 (by decide)).1,(AUf _ 9 (by decide)).2,he⟩
  ·obtain ⟨h1,h2,p,h3,h4⟩:=he;refine ⟨p,fun r=>if r=i then 1 + e.1 else f r,?_,by omega,by omega,fun r hr=>?_⟩
   ·rw [AFe (x:=(i:Int) + 1) (by omega) (by omega),AFe (x:=1 + e.1) (by omega) (by omega),h3,ADw,ADw,AFw,AMy (by omega)];refine congrArg (fun z=>(((i + 1:Nat):Int),(p:Int),z)) (ADl fun r hr=>?_);split
    ·refine ADl fun c hc=>?_;rw [ADk];unfold dgF;dsimp only;split
     ·next h=>subst h;rfl
     ·next h=>rw [ADk,if_neg h]
    ·rfl
   ·dsimp only;split
    ·omega
    ·exact Ad r (by omega)
 ·obtain rfl:i=N:=by omega
  exact ⟨q,f,by rw [AO1],by omega,Ad⟩
theorem Ata {fuel N q0:Nat} {a1 Ac:Int} {L:List Int} (hN:w64 (1 + (Int.tmod (w64 a1) Ac))=(N:Int)) (Af:N<=8) (Ag:q0<=1000) (hf:100 < fuel):
    Ok (iter (fun s=>AF4 fuel a1 L Ac s.1 s.2.1 s.2.2) fuel (0,(q0:Int),(List.replicate (Int.toNat (w64 (1 + (Int.tmod (w64 a1) Ac)))) ([]:List Int)))) fun e=> ∃ (q:Nat) (f:Nat->Int),e=((q:Int),tab N N (dgF f))/\q<=q0 + N/\ ∀ r,r < N->1<=f r/\f r<=1:=by
 refine AC3 (fun i s=> ∃ (q:Nat) (f:Nat->Int),s=(((i:Nat):Int),(q:Int),part N i (dgF f))/\i<=N/\q<=q0 + i/\ ∀ r,r < i->1<=f r/\f r<=1) N ⟨q0,fun _=>0,by rw [hN,Int.toNat_natCast,AO2 N (dgF fun _=>0)];rfl,by omega,by omega,fun r hr=>by omega⟩ (by omega) fun i s hi hI=>?_;obtain ⟨q,f,rfl,hiN,hq,Ad⟩:=hI;unfold AF4;dsimp only;rw [List.length_replicate,hN,Int.toNat_natCast];refine AB7 (fun h=>AD8 (by omega) ?_) (fun h=>ABn ?_)
 ·have hi':i < N:=by omega
  refine ACj (AOp hi') rfl ?_;rw [ADw,AGn N (0:Int),AMz];refine ACj (AKy (by omega) hi') rfl ?_;rw [ADq];refine ABs (Q:=fun e:Int × Int=>0<=e.1/\e.1 < 1/\ ∃ p:Nat,e.2=(p:Int)/\p<=q + 1) (ABs (AWk (L:=L) (q:=q) (by omega)) fun e he=>?_) fun e he=>ACj (ACk hi') rfl (ABn ⟨by omega,?_⟩)
  ·exact ABn ⟨(AUf _ 1 (by decide)).1,(AUf _ 1 (by decide)).2,he⟩
  ·obtain ⟨h1,h2,p,h3,h4⟩:=he;refine ⟨p,fun r=>if r=i then 1 + e.1 else f r,?_,by omega,by omega,fun r hr=>?_⟩
   ·rw [AFe (x:=(i:Int) + 1) (by omega) (by omega),AFe (x:=1 + e.1) (by omega) (by omega),h3,ADw,ADw,AFw,AMy (by omega)];refine congrArg (fun z=>(((i + 1:Nat):Int),(p:Int),z)) (ADl fun r hr=>?_);split
    ·refine ADl fun c hc=>?_;rw [ADk];unfold dgF;dsimp only;split
     ·next h=>subst h;rfl
     ·next h=>rw [ADk,if_neg h]
    ·rfl
   ·dsimp only;split
    ·omega
    ·exact Ad r (by omega)
 ·obtain rfl:i=N:=by omega
  exact ⟨q,f,by rw [AO1],by omega,Ad⟩
theorem Atb {fuel N q0:Nat} {a1 Ac:Int} {L:List Int} (hN:w64 (1 + (Int.tmod (w64 a1) Ac))=(N:Int)) (Af:N<=8) (Ag:q0<=1000) (hf:100 < fuel):
    Ok (iter (fun s=>AF5 fuel a1 L Ac s.1 s.2.1 s.2.2) fuel (0,(q0:Int),(List.replicate (Int.toNat (w64 (1 + (Int.tmod (w64 a1) Ac)))) ([]:List Int)))) fun e=> ∃ (q:Nat) (f:Nat->Int),e=((q:Int),tab N N (dgF f))/\q<=q0 + N/\ ∀ r,r < N->1<=f r/\f r<=2:=by
 refine AC3 (fun i s=> ∃ (q:Nat) (f:Nat->Int),s=(((i:Nat):Int),(q:Int),part N i (dgF f))/\i<=N/\q<=q0 + i/\ ∀ r,r < i->1<=f r/\f r<=2) N ⟨q0,fun _=>0,by rw [hN,Int.toNat_natCast,AO2 N (dgF fun _=>0)];rfl,by omega,by omega,fun r hr=>by omega⟩ (by omega) fun i s hi hI=>?_;obtain ⟨q,f,rfl,hiN,hq,Ad⟩:=hI;unfold AF5;dsimp only;rw [List.length_replicate,hN,Int.toNat_natCast];refine AB7 (fun h=>AD8 (by omega) ?_) (fun h=>ABn ?_)
 ·have hi':i < N:=by omega
  refine ACj (AOp hi') rfl ?_;rw [ADw,AGn N (0:Int),AMz];refine ACj (AKy (by omega) hi') rfl ?_;rw [ADq];refine ABs (Q:=fun e:Int × Int=>0<=e.1/\e.1 < 2/\ ∃ p:Nat,e.2=(p:Int)/\p<=q + 1) (ABs (AWk (L:=L) (q:=q) (by omega)) fun e he=>?_) fun e he=>ACj (ACk hi') rfl (ABn ⟨by omega,?_⟩)
  ·exact ABn ⟨(AUf _ 2 (by decide)).1,(AUf _ 2 (by decide)).2,he⟩
  ·obtain ⟨h1,h2,p,h3,h4⟩:=he;refine ⟨p,fun r=>if r=i then 1 + e.1 else f r,?_,by omega,by omega,fun r hr=>?_⟩
   ·rw [AFe (x:=(i:Int) + 1) (by omega) (by omega),AFe (x:=1 + e.1) (by omega) (by omega),h3,ADw,ADw,AFw,AMy (by omega)];refine congrArg (fun z=>(((i + 1:Nat):Int),(p:Int),z)) (ADl fun r hr=>?_);split
    ·refine ADl fun c hc=>?_;rw [ADk];unfold dgF;dsimp only;split
     ·next h=>subst h;rfl
     ·next h=>rw [ADk,if_neg h]
    ·rfl
   ·dsimp only;split
    ·omega
    ·exact Ad r (by omega)
 ·obtain rfl:i=N:=by omega
  exact ⟨q,f,by rw [AO1],by omega,Ad⟩
theorem Atc {fuel N q0:Nat} {L:List Int} {F0:Nat->Nat->Int} (Ag:N<=8) (Ah:q0<=1000) (Ad:∀ i j,i < N->j < N->(F0 i j).natAbs<=9) (hf:100 < fuel):
    Ok (iter (fun s=>AGi fuel L (tab N N F0) s.1 s.2.1 s.2.2) fuel (0,(q0:Int),tab N N F0)) fun e=> ∃ (q:Nat) (F:Nat->Nat->Int),e=((q:Int),tab N N F)/\q<=q0 + 8 * N/\ ∀ i j,i < N->j < N->(F i j).natAbs<=9:=by
 refine AC3 (fun i s=> ∃ (q:Nat) (F:Nat->Nat->Int),s=(((i:Nat):Int),(q:Int),tab N N F)/\i<=N/\q<=q0 + 8 * i/\ ∀ i j,i < N->j < N->(F i j).natAbs<=9) N ⟨q0,F0,rfl,by omega,by omega,Ad⟩ (by omega) fun i s hi hI=>?_;obtain ⟨q,F,rfl,hiN,hq,hF⟩:=hI;unfold AGi;dsimp only;rw [ACt];refine AB7 (fun h=>?_) (fun h=>ABn ⟨q,F,rfl,by omega,hF⟩);have hi':i < N:=by omega
 refine ABs (AC3 (fun j s=> ∃ (p:Nat) (F:Nat->Nat->Int),s=(((j:Nat):Int),(p:Int),tab N N F)/\j<=i/\p<=q + j/\ ∀ i j,i < N->j < N->(F i j).natAbs<=9) i (Q:=fun e=> ∃ (p:Nat) (F:Nat->Nat->Int),e=((p:Int),tab N N F)/\p<=q + i/\ ∀ i j,i < N->j < N->(F i j).natAbs<=9) ⟨q,F,rfl,by omega,by omega,hF⟩ (by omega) fun j s hj hJ=>?_) fun e he=>?_
 ·obtain ⟨p,F,rfl,hji,hp,hF⟩:=hJ;unfold AIi;dsimp only;refine AB7 (fun h=>?_) (fun h=>ABn ⟨p,F,rfl,by omega,hF⟩);have hj':j < i:=by omega
  refine ACj (ACv hi') rfl (ABs (AWk (L:=L) (q:=p) (by omega)) fun e he=>ACj (ACk (by omega)) rfl ?_);obtain ⟨p2,h3,h4⟩:=he;rw [ADw,ADw,AFw,show (AEl N fun c=>if c=j then Int.tmod e.1 3 else F i c)=(List.range N).map fun c=>if c=j then Int.tmod e.1 3 else F i c from rfl,ALn];refine ACj (ACv (by omega)) rfl (ACj (ACv hi') rfl (ACj (ACk (by omega)) rfl (ACj (ACk hi') rfl (ABn ⟨by omega,p2,?_⟩))));generalize Af:(ADz F i fun c=>if c=j then Int.tmod e.1 3 else F i c)=F1
  have hv:(Int.tmod e.1 3).natAbs<=9:=by
    have:=Int.natAbs_tmod e.1 3
    have h5:e.1.natAbs % (3:Int).natAbs < 3:=Nat.mod_lt _ (by decide)
    omega
  have hF1b:∀ i j,i < N->j < N->(F1 i j).natAbs<=9:=fun a b ha hb=>by
    subst Af
    rw [ADk]
    split
    · split
      · exact hv
      · exact hF i b hi' hb
    · exact hF a b ha hb
  refine ⟨ADz F1 j fun c=>if c=i then F1 i j else F1 j c,?_,by omega,by omega,fun a b ha hb=>?_⟩
  ·rw [wk (by omega),h3,ADw,ADw,AFw,show (AEl N fun c=>if c=i then F1 i j else F1 j c)=(List.range N).map fun c=>if c=i then F1 i j else F1 j c from rfl,ALn];rfl
  ·rw [ADk];split
   ·split
    ·exact hF1b i j hi' (by omega)
    ·exact hF1b j b (by omega) hb
   ·exact hF1b a b ha hb
 ·obtain ⟨p,F,rfl,hp,hF⟩:=he;exact ABn ⟨by omega,p,F,by rw [wk (by omega)];rfl,by omega,by omega,hF⟩
theorem Aix {fuel N:Nat} {b:Bool} (Ag:1<=N) (Ah:N<=8) (hf:100 < fuel):Ok (AHi fuel (N:Int) b) fun e=> ∃ F,e=tab N N F/\ ∀ i j,i < N->j < N->(F i j).natAbs<=2:=by
 unfold AHi;refine AD8 (by omega) ?_;rw [Int.toNat_natCast];refine ABs (AC3 (fun i s=> ∃ G:Nat->Nat->Int,s=(((i:Nat):Int),part N i G)/\i<=N/\ ∀ r c,(G r c).natAbs<=2) N (Q:=fun e=> ∃ F,e=tab N N F/\ ∀ i j,i < N->j < N->(F i j).natAbs<=2) ⟨fun _ _=>0,by rw [AO2 N fun _ _=>0];rfl,by omega,fun _ _=>Nat.zero_le _⟩ (by omega) fun i s hi hI=>?_) fun e he=>ABn he;obtain ⟨G,rfl,hiN,hG⟩:=hI;unfold ALs;dsimp only;rw [List.length_replicate,Int.toNat_natCast];refine AB7 (fun h=>AD8 (by omega) ?_) (fun h=>ABn ?_)
 ·have hi':i < N:=by omega
  refine ACj (AOp hi') rfl ?_;rw [ADw,AGn N (0:Int),AMz];refine ACj (AKy (by omega) hi') rfl ?_;rw [ADq];refine ACj (ACk hi') rfl ?_;rw [ADw,ADw,AFw,AMy (by omega)]
  have Ab:∀ r c,(ADz (ADz G i fun x=>0) i (fun c=>if c=i then 2 else 0) r c).natAbs<=2:=fun r c=>by
    rw [ADk]
    split
    · split <;> decide
    · rw [ADk]
      split
      · decide
      · exact hG r c
  generalize (ADz (ADz G i fun x=>0) i fun c=>if c=i then 2 else 0)=G1 at Ab;have wi:w64 ((i:Int) + 1)=((i + 1:Nat):Int):=by rw [wk (by omega)];omega
  refine ABs (Q:=fun k=>k=(i:Int) - 1∨k=(i:Int) - 2) ?_ fun k hk=>?_
  ·have w1:w64 ((i:Int) - 1)=(i:Int) - 1:=wk (by omega);have w2:w64 ((i:Int) - 2)=(i:Int) - 2:=wk (by omega);rw [w1,w2];exact AB7 (fun _=>AB7 (fun _=>AB7 (fun _=>ABn (.inr rfl)) fun _=>ABn (.inl rfl)) fun _=>ABn (.inl rfl)) fun _=>ABn (.inl rfl)
  ·refine AB7 (fun h=>?_) (fun h=>ABn ⟨by omega,G1,by rw [wi],by omega,Ab⟩);obtain ⟨k,rfl⟩:∃ q:Nat,k=q:=⟨k.toNat,by omega⟩;have hki:k < i:=by omega
   refine ACj (AKy (by omega) hi') rfl (ACj (AKy (by omega) (by omega)) rfl (ACj (ACk (by omega)) rfl ?_));rw [ADw,ADw,AFw,AMy (by omega)]
   have Ac:∀ r c,(ADz G1 i (fun c=>if c=k then -1 else G1 i c) r c).natAbs<=2:=fun r c=>by
     rw [ADk]
     split
     · split
       · decide
       · exact Ab i c
     · exact Ab r c
   generalize (ADz G1 i fun c=>if c=k then -1 else G1 i c)=G2 at Ac;refine ACj (AKy (by omega) (by omega)) rfl (ACj (ACk hi') rfl (ABn ⟨by omega,ADz G2 k fun c=>if c=i then -1 else G2 k c,?_,by omega,fun r c=>?_⟩))
   ·rw [wi,ADw,ADw,AFw,AMy (by omega)]
   ·rw [ADk];split
    ·split
     ·decide
     ·exact Ac k c
    ·exact Ac r c
 ·obtain rfl:i=N:=by omega
  exact ⟨G,AO1 _ _,fun a b _ _=>hG a b⟩
theorem Afq {n B:Nat} {F:Nat->Nat->Int} (hB:B < 9223372036854775808) (h:∀ i j,i < n->j < n->(F i j).natAbs<=B):∀ z∈tab n n F,∀ x∈z,-9223372036854775808<=x/\x<=9223372036854775807:=fun z hz x hx=>by
  obtain ⟨i,hi⟩:=List.getElem?_of_mem hz
  have hin:i < n:=by have:=(List.getElem?_eq_some_iff.1 hi).1;rwa [ACt] at this
  rw [ACv hin] at hi
  cases hi
  obtain ⟨j,hj⟩:=List.getElem?_of_mem hx
  have hjn:j < n:=by have:=(List.getElem?_eq_some_iff.1 hj).1;rwa [ACy] at this
  rw [ACk hjn] at hj
  cases hj
  have:=h i j hin hjn
  omega
theorem Aqw {n:Nat} {F:Nat->Nat->Int} (hn:1<=n) (Aa:n<=16):okM (tab n n F)=true:=by
 have hc:AN0 (tab n n F)=n:=Alb hn;unfold okM;rw [decide_eq_true_iff,ACt,hc];exact ⟨hn,Aa,fun z hz=>by rw [AWt z hz];exact ⟨hn,Aa,rfl⟩⟩
theorem Ag7 {fuel n:Nat} {F:Nat->Nat->Int} (hn:1<=n) (Aa:n<=16) (h:∀ i j,i < n->j < n->(F i j).natAbs<=9223372036854775807) (hf:17 < fuel):AFb fuel (tab n n F)=some (tab n n F):=by
 rw [Arn (Afq (by decide) h) hf,if_pos (Aqw hn Aa)]
theorem Atd {fuel n:Nat} {F:Nat->Nat->Int} (Ab:1<=n) (hn:n<=8) (hb:∀ i j,i < n->j < n->(F i j).natAbs<=1000000) (hf:100 < fuel):Ok (AJa fuel (tab n n F)) fun r=>r=true↔AMx n F/\AOi n F/\det n F<=10000:=by
 have Ac:∀ i j,i < n->j < n->(F i j).natAbs<=AH6:=fun i j hi hj=>Nat.le_trans (hb i j hi hj) (by decide);unfold AJa;refine ABs (AC1 (Ag7 Ab (by omega) (fun i j hi hj=>Nat.le_trans (hb i j hi hj) (by decide)) (by omega))) fun x hx=>?_;subst hx;refine ABs (AWi Ab hn Ac hf) fun v hv=>AB7 (fun h=>?_) fun h=>ABn (Iff.intro (fun h2=>nomatch h2) fun h2=>absurd (hv.2 ⟨h2.1,h2.2.1⟩) h);have h1:=hv.1 h;refine ABs (AC1 (AXb hn Ac (by omega))) fun d hd=>ABs (Q:=(· =10000)) ⟨10000,if_pos (by omega),rfl⟩ fun t ht=>ABs (AC1 (a:=AS5 d t) rfl) fun c hc=>ABn ?_;subst hd;subst ht;subst hc;rw [decide_eq_true_iff,Adl];exact ⟨fun h2=>⟨h1.1,h1.2,h2⟩,fun h2=>h2.2.2⟩
theorem Ate {n:Nat} {f:Nat->Int} (hn:n<=8) (h:∀ r,r < n->1<=f r/\f r<=2):AMx n (dgF f)/\AOi n (dgF f)/\det n (dgF f)<=10000:=by
 have hd:∀ k,k<=n->det k (dgF f)=AH7 f k:=fun k hk=>by
   rw [AS8 (F:=dgF f) (fun c i hc hci hi=>by unfold dgF;rw [if_neg (by omega)])]
   exact AYg fun i _=>by unfold dgF;rw [if_pos rfl]
 have hb:∀ k,k<=n->0 < AH7 f k/\AH7 f k<=2 ^ k:=fun k=>by
   induction k with
   | zero=>intro _;simp [AH7]
   | succ k ih=>
     intro hk
     have h1:=ih (by omega)
     have h2:=h k (by omega)
     simp only [AH7]
     refine ⟨Int.mul_pos h1.1 (by omega),?_⟩
     rw [Int.pow_succ]
     exact Int.mul_le_mul h1.2 h2.2 (by omega) (Int.le_of_lt (AXg k))
 refine ⟨fun i j hi hj=>?_,fun k hk=>by rw [hd k hk];exact (hb k hk).1,?_⟩
 ·unfold dgF;split
  ·next h=>subst h;rw [if_pos rfl]
  ·next h=>rw [if_neg (fun h2=>h h2.symm)]
 ·rw [hd n (Nat.le_refl n)];have:=(hb n (Nat.le_refl n)).2;have h2:=AXh hn;omega
structure Aus (n:Nat) (A:Nat->Nat->Int):Prop where
  n1:1<=n
  n8:n<=8
  sym:AMx n A
  pos:AOi n A
  bd:∀ i j,i < n->j < n->(A i j).natAbs<=9
  dt:det n A<=10000
theorem Aiy {n m:Nat} {f:Nat->Int} (h:∀ r,r < n->1<=f r/\f r<=(m:Int)):∀ i j,i < n->j < n->(dgF f i j).natAbs<=m:=fun i j hi hj=>by
  unfold dgF
  have:=h i hi
  split <;> omega
theorem Atf {fuel:Nat} {a1 a2 most:Int} {L L2:List Int} (h1:0<=a1/\a1 < 256) (hm:1<=most/\most<=8) (hf:100 < fuel):Ok (AFx fuel a1 a2 L L2 most) fun r=> ∃ n A,r=tab n n A/\Aus n A/\(n:Int)=1 + Int.tmod a1 most:=by
 have t1:=Int.emod_nonneg a1 (show most≠0 by omega);have t2:=Int.emod_lt_of_pos a1 (show 0 < most by omega);have t3:Int.tmod a1 most=a1 % most:=Int.tmod_eq_emod_of_nonneg h1.1
 have hN:w64 (1 + Int.tmod (w64 a1) most)=((1 + a1 % most).toNat:Int):=by
   rw [AFe (x:=a1) (by omega) (by omega),t3,wk (by omega)];omega
 generalize hNN:(1 + a1 % most).toNat=N at hN;have Ae:1<=N:=by omega
 have Ab:N<=8:=by omega
 unfold AFx;refine AD8 (by omega) (ABs (Q:=fun e=> ∃ (q:Nat) (F:Nat->Nat->Int),e=(tab N N F,(q:Int))/\q<=200/\ ∀ i j,i < N->j < N->(F i j).natAbs<=9) (ABs (Q:=fun _=>True) ?_ fun k _=>AB7 (fun _=>?_) fun _=>AB7 (fun _=>?_) fun _=>AB7 (fun _=>?_) fun _=>AB7 (fun _=>?_) fun _=>?_) fun e he=>?_)
 ·exact AB7 (fun _=>ABn trivial) fun _=>AB7 (fun _=>ABn trivial) fun _=>AB7 (fun _=>ABn trivial) fun _=>ABn trivial
 ·refine ABs (Q:=fun e=> ∃ (q:Nat) (F:Nat->Nat->Int),e=(tab N N F,(q:Int))/\q<=200/\ ∀ i j,i < N->j < N->(F i j).natAbs<=9) (ABs (Q:=fun e=> ∃ (q:Nat) (f:Nat->Int),e=(tab N N (dgF f),(q:Int))/\q<=8/\ ∀ r,r < N->1<=f r/\f r<=6) (AD8 (by rw [hN];omega) (ABs (Aur (q0:=0) (L:=L) hN Ab (by omega) hf) fun e he=>ABn ?_)) fun e he=>?_) fun e he=>ABn he
  ·obtain ⟨q,f,rfl,h2,h3⟩:=he;exact ⟨q,f,rfl,by omega,h3⟩
  ·obtain ⟨q,f,rfl,h2,h3⟩:=he;refine ABs (Atc (L:=L) (q0:=q) Ab (by omega) (fun i j hi hj=>Nat.le_trans (Aiy (m:=6) h3 i j hi hj) (by decide)) hf) fun e he=>ABn ?_;obtain ⟨q,F,rfl,h4,h5⟩:=he;exact ⟨q,F,rfl,by omega,h5⟩
 ·rw [hN];refine ABs (Aix Ae Ab hf) fun F hF=>?_;obtain ⟨F,rfl,hF⟩:=hF;refine ACj (n:=0) (ACv (by omega)) rfl (ACj (n:=0) (ACk (by omega)) rfl (ABs (Q:=fun e:Int × Int=>0<=e.1/\e.1 < 3/\ ∃ p:Nat,e.2=(p:Int)/\p<=0 + 1) (ABs (AWk (L:=L) (q:=0) (by omega)) fun e he=>ABn ⟨(AUf _ 3 (by decide)).1,(AUf _ 3 (by decide)).2,he⟩) fun e he=>ABn ?_));obtain ⟨c1,c2,p,c3,c4⟩:=he;have c5:=hF 0 0 (by omega) (by omega);refine ⟨p,ADz F 0 fun c=>if c=0 then F 0 0 + e.1 else F 0 c,?_,by omega,fun i j hi hj=>?_⟩
  ·rw [c3,wk (by omega)];refine congrArg (fun z=>(z,(p:Int))) ?_;show (tab N N F).set 0 ((AEl N (F 0)).set 0 (F 0 0 + e.1))=_;rw [AFw];exact ALn
  ·rw [ADk];split
   ·split
    ·omega
    ·have:=hF 0 j (by omega) hj;omega
   ·have:=hF i j hi hj;omega
 ·rw [hN];refine ABs (Aix Ae Ab hf) fun F hF=>?_;obtain ⟨F,rfl,hF⟩:=hF;have w1:w64 ((N:Int) - 1)=((N - 1:Nat):Int):=by rw [wk (by omega)];omega
  rw [w1];refine ACj (ACv (by omega)) rfl (ACj (ACk (by omega)) rfl (ABs (Q:=fun e:Int × Int=>0<=e.1/\e.1 < 2/\ ∃ p:Nat,e.2=(p:Int)/\p<=0 + 1) (ABs (AWk (L:=L) (q:=0) (by omega)) fun e he=>ABn ⟨(AUf _ 2 (by decide)).1,(AUf _ 2 (by decide)).2,he⟩) fun e he=>ABn ?_));obtain ⟨c1,c2,p,c3,c4⟩:=he;have c5:=hF (N - 1) (N - 1) (by omega) (by omega);refine ⟨p,ADz F (N - 1) fun c=>if c=N - 1 then F (N - 1) (N - 1) + e.1 else F (N - 1) c,?_,by omega,fun i j hi hj=>?_⟩
  ·rw [c3,wk (by omega),ADw,ADw];refine congrArg (fun z=>(z,(p:Int))) ?_;rw [AFw];exact ALn
  ·rw [ADk];split
   ·split
    ·omega
    ·have:=hF (N - 1) j (by omega) hj;omega
   ·have:=hF i j hi hj;omega
 ·refine ABs (Q:=fun e=> ∃ (q:Nat) (F:Nat->Nat->Int),e=(tab N N F,(q:Int))/\q<=200/\ ∀ i j,i < N->j < N->(F i j).natAbs<=9) (AD8 (by rw [hN];omega) (ABs (As9 (q0:=0) (L:=L) hN Ab (by omega) hf) fun e he=>ABn ?_)) fun e he=>ABn he;obtain ⟨q,f,rfl,h2,h3⟩:=he;exact ⟨q,dgF f,rfl,by omega,fun i j hi hj=>Aiy (m:=9) h3 i j hi hj⟩
 ·refine ABs (Q:=fun e=> ∃ (q:Nat) (F:Nat->Nat->Int),e=(tab N N F,(q:Int))/\q<=200/\ ∀ i j,i < N->j < N->(F i j).natAbs<=9) (AD8 (by rw [hN];omega) (ABs (Ata (q0:=0) (L:=L) hN Ab (by omega) hf) fun e he=>ABn ?_)) fun e he=>ABn he;obtain ⟨q,f,rfl,h2,h3⟩:=he;exact ⟨q,dgF f,rfl,by omega,fun i j hi hj=>Nat.le_trans (Aiy (m:=1) h3 i j hi hj) (by decide)⟩
 ·obtain ⟨q,F,rfl,h2,h3⟩:=he;dsimp only;refine ABs (Atd Ae Ab (fun i j hi hj=>Nat.le_trans (h3 i j hi hj) (by decide)) hf) fun b hb=>AB7 (fun hn=>?_) fun hn=>ABn ?_
  ·refine ABs (Q:=fun e=> ∃ f:Nat->Int,e.1=tab N N (dgF f)/\ ∀ r,r < N->1<=f r/\f r<=2) (AD8 (by rw [hN];omega) (ABs (Atb (q0:=q) (L:=L) hN Ab (by omega) hf) fun e he=>ABn ?_)) fun e he=>ABn ?_
   ·obtain ⟨q,f,rfl,h4,h5⟩:=he;exact ⟨f,rfl,h5⟩
   ·obtain ⟨f,h4,h5⟩:=he;obtain ⟨d1,d2,d3⟩:=Ate Ab h5;exact ⟨N,dgF f,h4,⟨Ae,Ab,d1,d2,fun i j hi hj=>Nat.le_trans (Aiy (m:=2) h5 i j hi hj) (by decide),d3⟩,by rw [t3];omega⟩
  ·have hg:AMx N F/\AOi N F/\det N F<=10000:=hb.1 (by simpa using hn);exact ⟨N,F,rfl,⟨Ae,Ab,hg.1,hg.2.1,h3,hg.2.2⟩,by rw [t3];omega⟩
theorem Atg {fuel:Nat} {a1 a2 most:Int} {L L2:List Int} (h1:0<=a1/\a1 < 256) (hm:1<=most/\most<=8) (hf:AFa < fuel):Ok (AFy fuel a1 a2 L L2 most) fun r=> ∃ n A,r=tab n n A/\1<=n/\(n:Int)<=most/\Aa4 n A/\ ∀ k,k < n->A k k<=3 * dm9:=by
  have hf2:100 < fuel:=Nat.lt_of_le_of_lt (by decide) hf;unfold AFy;refine ABs (Atf h1 hm hf2) fun g hg=>?_;obtain ⟨n,A,rfl,G,hn⟩:=hg;have t2:=Int.emod_lt_of_pos a1 (show 0 < most by omega);have t3:Int.tmod a1 most=a1 % most:=Int.tmod_eq_emod_of_nonneg h1.1
  let A0:Nat->Nat->Int:=fun i j=>if i < n/\j < n then A i j else 0
  have hA0:∀ i j,i < n->j < n->A0 i j=A i j:=fun i j hi hj=>if_pos ⟨hi,hj⟩;have e:tab n n A=tab n n A0:=APk fun i j hi hj=>(hA0 i j hi hj).symm;refine ABs (AC1 (Ag7 G.n1 (by have:=G.n8;omega) (fun i j hi hj=>Nat.le_trans (G.bd i j hi hj) (by decide)) (by omega))) fun x hx=>?_;subst hx;rw [e];have hp:AOi n A0:=fun k hk=>by rw [AD6 fun i j hi hj=>hA0 i j (by omega) (by omega)];exact G.pos k hk
  have hs:AMx n A0:=fun i j hi hj=>by rw [hA0 i j hi hj,hA0 j i hj hi];exact G.sym i j hi hj
  have hE:∀ i j,(A0 i j).natAbs<=9:=fun i j=>by
    show (if i < n/\j < n then A i j else 0).natAbs<=9
    split
    · next h=>exact G.bd i j h.1 h.2
    · decide
  have hh:=Anq hs hp (B:=9) (by decide) (fun i hi=>by have:=hE i i;omega)
  refine ABs (Ake G.n1 G.n8 hs hp (fun i j=>Nat.le_trans (hE i j) (by decide)) (fun k hk=>?_) (fun k hk=>?_) ?_ hf) fun r hr=>ABn ?_
  · have h2:=hh k hk
    have h3:(9:Int) ^ k<=9 ^ 8:=by
      have:=Nat.pow_le_pow_right (show 0 < 9 by omega) (show k<=8 by have:=G.n8;omega);have e2:∀ t:Nat,(9:Int) ^ t=((9 ^ t:Nat):Int):=fun t=>by simp
      rw [e2,e2];omega
    exact Int.le_trans h2 h3
  · have:=hE k k;have:(3 * dm9)=129140163:=by decide
    omega
  · rw [AD6 hA0];exact G.dt
  · obtain ⟨A',T,rfl,R,-,-,hd⟩:=hr;exact ⟨n,A',rfl,G.n1,by rw [hn,t3];omega,R,hd⟩
theorem An5 {A:Nat->Nat->Int} {k:Nat} (h1:LvF A k) (h2:SzF A (k + 1) k) (hp:0 < det (k + 1) A):det (k + 1) A * det (k + 1) A<=2 * (det k A * det (k + 2) A):=by
 unfold LvF at h1;unfold SzF at h2;have h3:(2 * Mn k A (k + 1) k) * (2 * Mn k A (k + 1) k)<=det (k + 1) A * det (k + 1) A:=AVa (by omega) h2.2;have h4:(2 * Mn k A (k + 1) k) * (2 * Mn k A (k + 1) k)=4 * (Mn k A (k + 1) k * Mn k A (k + 1) k):=by grind
 omega
theorem AMn {x y:Int} (h0:0<=x) (h:x<=y):∀ k:Nat,x ^ k<=y ^ k
  | 0=>by simp
  | k + 1=>by
    rw [Int.pow_succ,Int.pow_succ]
    exact Int.mul_le_mul (AMn h0 h k) h h0 (Int.le_trans (Int.pow_nonneg h0) (AMn h0 h k))
def tri:Nat->Nat
  | 0=>0
  | k + 1=>tri k + (k + 1)
theorem Ag8 {n:Nat} {A:Nat->Nat->Int} (hp:AOi n A) (hs:ARv A n) (hl:ATf A n):∀ k,k + 1<=n->det k A ^ (k + 1)<=det (k + 1) A ^ k * 2 ^ tri k:=by
  intro k;induction k with
  | zero=>intro _;simp [det,tri]
  | succ k ih=>
    intro hk;have ih:=ih (by omega);have p0:=hp k (by omega);have p1:=hp (k + 1) (by omega);have p2:=hp (k + 2) (by omega);have h1:=An5 (hl k (by omega)) (hs (k + 1) k (by omega) (by omega)) p1;generalize det k A=a at *
    generalize det (k + 1) A=b at *
    generalize det (k + 2) A=c at *
    have h2:(b * b) ^ (k + 1)<=(2 * (a * c)) ^ (k + 1):=AMn (Int.le_of_lt (Int.mul_pos p1 p1)) h1 _;rw [Int.mul_pow,Int.mul_pow,Int.mul_pow] at h2;have h3:a ^ (k + 1) * c ^ (k + 1)<=b ^ k * 2 ^ tri k * c ^ (k + 1):=Int.mul_le_mul_of_nonneg_right ih (Int.le_of_lt (Int.pow_pos p2));have h4:2 ^ (k + 1) * (a ^ (k + 1) * c ^ (k + 1))<=2 ^ (k + 1) * (b ^ k * 2 ^ tri k * c ^ (k + 1)):=Int.mul_le_mul_of_nonneg_left h3 (Int.le_of_lt (AXg _));have h5:=Int.le_trans h2 h4;have e1:b ^ (k + 1) * b ^ (k + 1)=b ^ k * b ^ (k + 1 + 1):=by rw [Int.pow_succ b k,Int.pow_succ b (k + 1),Int.pow_succ b k];grind
    have e2:(2:Int) ^ (k + 1) * (b ^ k * 2 ^ tri k * c ^ (k + 1))=b ^ k * (c ^ (k + 1) * 2 ^ tri (k + 1)):=by
      have:(2:Int) ^ tri (k + 1)=2 ^ tri k * 2 ^ (k + 1):=by rw [<- Int.pow_add];rfl
      rw [this];grind
    rw [e1,e2] at h5;exact Int.le_of_mul_le_mul_left h5 (Int.pow_pos p1)
def dU:Nat->Int
  | 8=>10000
  | 7=>35777
  | 6=>64000
  | 5=>57243
  | 4=>25600
  | _=>10000
theorem Aut (k:Nat):dU k<=64000:=by unfold dU;split <;> omega
theorem Ars (k:Nat):10000<=dU k:=by unfold dU;split <;> omega
theorem Aqx:∀ k,k < 8->dU (k + 1) ^ k * 2 ^ tri k < (dU k + 1) ^ (k + 1):=by decide
theorem Akf {n:Nat} {A:Nat->Nat->Int} (hn:n<=8) (hp:AOi n A) (hs:ARv A n) (hl:ATf A n) (hd:det n A<=10000):∀ m k,k + m=n->det k A<=dU k:=by
 intro m
 induction m with
 | zero=>
     intro k hk;obtain rfl:k=n:=by omega
     exact Int.le_trans hd (Ars _)
 | succ m ih=>
   intro k hk
   have h1:=ih (k + 1) (by omega)
   have h2:=Ag8 hp hs hl k (by omega)
   have p0:=hp k (by omega)
   have p1:=hp (k + 1) (by omega)
   rcases Int.lt_or_le (dU k) (det k A) with h | h
   · exfalso
     have h3:(dU k + 1) ^ (k + 1)<=det k A ^ (k + 1):=AMn (by have:=Ars k;omega) (by omega) _
     have h4:det (k + 1) A ^ k * 2 ^ tri k<=dU (k + 1) ^ k * 2 ^ tri k:=Int.mul_le_mul_of_nonneg_right (AMn (Int.le_of_lt p1) h1 k) (Int.le_of_lt (AXg _))
     have h5:=Aqx k (by omega)
     omega
   · exact h
theorem AXi {n:Nat} {A:Nat->Nat->Int} (hn:n<=8) (R:Aa4 n A) {k:Nat} (hk:k<=n):0 < det k A/\det k A<=64000:=
  ⟨R.pos k hk,Int.le_trans (Akf hn R.pos R.sz R.lv R.dt (n - k) k (by omega)) (Aut k)⟩
theorem AXj {n:Nat} {A:Nat->Nat->Int} (hn:n<=8) (R:Aa4 n A) {i j:Nat} (hi:i < n) (hj:j < n): -192000<=A i j/\A i j<=192000:=
  Afo R.sym R.pos (fun k hk=>Afe (Dm:=64000) hn R.sym R.pos hk (fun k hk=>(AXi hn R hk).2) fun l hl=>R.sz k l hl hk) hi hj
structure RB (n:Nat) (A:Nat->Nat->Int) (k:Nat):Prop where
  pos:∀ j,k < j->j<=n->0 < det j A
  lt:∀ j,k < j->j < n->det j A < 65536
  sz:∀ l i,k<=l->l < i->i < n->SzF A i l
  lv:∀ l,k<=l->l + 1 < n->LvF A l
  dt:det n A<=10000
theorem Ath {A F:Nat->Nat->Int} {m k:Nat} (h0:0 < det k A) (hF:∀ i j,i < m + 1->j < m + 1->F i j=Mn k A (k + i) (k + j)) {i j:Nat} (hi:i < m) (hj:j < m):AR0 F (det k A) i j=Mn (k + 1) A (k + 1 + i) (k + 1 + j):=by
 unfold AR0;rw [hF 0 0 (by omega) (by omega),hF (i + 1) (j + 1) (by omega) (by omega),hF (i + 1) 0 (by omega) (by omega),hF 0 (j + 1) (by omega) (by omega),Nat.add_zero,AVp (by omega),Int.mul_tdiv_cancel_left _ (by omega)];rw [show k + (i + 1)=k + 1 + i by omega,show k + (j + 1)=k + 1 + j by omega]
theorem Afr {n:Nat} {A:Nat->Nat->Int}:∀ (m k:Nat) (F:Nat->Nat->Int),k + m=n->1<=m->0 < det k A->(∀ i j,i < m->j < m->F i j=Mn k A (k + i) (k + j))->(AQq m F (det k A)=true↔RB n A k):=by
 intro m
 induction m with
 | zero=>intro k F _ h;omega
 | succ m ih=>
   intro k F hk _ h0 hF
   have Ad:F 0 0=det (k + 1) A:=by rw [hF 0 0 (by omega) (by omega)];exact ALk k A
   cases m with
   | zero=>
     obtain rfl:k + 1=n:=hk
     show decide (0 < F 0 0/\F 0 0<=10000)=true↔_
     rw [decide_eq_true_iff,Ad]
     exact ⟨fun h=>⟨fun j h1 h2=>by
       obtain rfl:j=k + 1:=by omega
       exact h.1,fun j h1 h2=>by omega,fun l i h1 h2 h3=>by omega,fun l h1 h2=>by omega,h.2⟩,fun h=>⟨h.pos (k + 1) (by omega) (Nat.le_refl _),h.dt⟩⟩
   | succ m=>
     have hN:∀ i j,i < m + 1->j < m + 1->AR0 F (det k A) i j=Mn (k + 1) A (k + 1 + i) (k + 1 + j):=fun i j hi hj=>Ath h0 hF hi hj
     have hS:AQp (m + 1 + 1) F↔(0 < det (k + 1) A/\det (k + 1) A < 65536)/\ ∀ i,k < i->i < n->SzF A i k:=by
       unfold AQp
       rw [Ad]
       refine and_congr_right fun _=>⟨fun h i h1 h2=>?_,fun h i h1 h2=>?_⟩
       · have h3:=h (i - k) (by omega) (by omega)
         rw [hF (i - k) 0 (by omega) (by omega),show k + (i - k)=i by omega] at h3
         unfold SzF
         simp only [Nat.add_zero] at h3
         omega
       · have h3:=h (k + i) (by omega) (by omega)
         unfold SzF at h3
         rw [hF i 0 h2 (by omega),Nat.add_zero]
         omega
     have hL:AVx F (det k A)↔LvF A k:=by
       unfold AVx LvF
       rw [Ad,hN 0 0 (by omega) (by omega),Nat.add_zero,ALk (k + 1) A,hF 1 0 (by omega) (by omega),Nat.add_zero]
       have e:3 * det (k + 1) A * det (k + 1) A=3 * (det (k + 1) A * det (k + 1) A):=by grind
       rw [e]
       exact Iff.rfl
     show (decide (AQp (m + 1 + 1) F) && (decide (AVx F (det k A)) && AQq (m + 1) (AR0 F (det k A)) (F 0 0)))=true↔_
     rw [Bool.and_eq_true,Bool.and_eq_true,decide_eq_true_iff,decide_eq_true_iff,hS,hL,Ad]
     constructor
     · rintro ⟨⟨⟨h1,h2⟩,h3⟩,h4,h5⟩
       have R:=(ih (k + 1) _ (by omega) (by omega) h1 hN).1 h5
       refine ⟨fun j a b=>?_,fun j a b=>?_,fun l i a b c=>?_,fun l a b=>?_,R.dt⟩
       · by_cases e:j=k + 1
         · subst e;exact h1
         · exact R.pos j (by omega) b
       · by_cases e:j=k + 1
         · subst e;exact h2
         · exact R.lt j (by omega) b
       · by_cases e:l=k
         · subst e;exact h3 i b c
         · exact R.sz l i (by omega) b c
       · by_cases e:l=k
         · subst e;exact h4
         · exact R.lv l (by omega) b
     · intro R
       have h1:=R.pos (k + 1) (by omega) (by omega)
       exact ⟨⟨⟨h1,R.lt (k + 1) (by omega) (by omega)⟩,fun i a b=>R.sz k i (Nat.le_refl k) a b⟩,R.lv k (Nat.le_refl k) (by omega),(ih (k + 1) _ (by omega) (by omega) h1 hN).2 ⟨fun j a b=>R.pos j (by omega) b,fun j a b=>R.lt j (by omega) b,fun l i a b c=>R.sz l i (by omega) b c,fun l a b=>R.lv l (by omega) b,R.dt⟩⟩
def Aa5 (M:List (List Int)):Prop:=(1<=M.length/\M.length<=8)/\(∀ z∈M,z.length=M.length)/\Aa4 M.length (ent M)
theorem AX7 (M:List (List Int)):isRed M=true↔Aa5 M:=by
 unfold isRed;rw [Bool.and_eq_true];constructor
 ·rintro ⟨h1,h2⟩;have S:=Aag h1;have R:=(Afr (A:=ent M) (n:=M.length) M.length 0 (ent M) (by omega) S.1.1 (by simp [det]) fun i j _ _=>by rw [APi,Nat.zero_add,Nat.zero_add]).1 (by simpa [det] using h2);refine ⟨S.1,S.2.1,fun i j hi hj=>(S.2.2 i j hi hj).1,fun k hk=>?_,fun r l h3 h4=>R.sz l r (Nat.zero_le _) h3 h4,fun l hl=>R.lv l (Nat.zero_le _) hl,R.dt⟩;rcases Nat.eq_zero_or_pos k with h | h
  ·subst h;simp [det]
  ·exact R.pos k h hk
 ·rintro ⟨h1,h2,R⟩;refine ⟨(AIj ⟨h1,h2,fun i j hi hj=>⟨R.sym i j hi hj,?_,?_⟩⟩).symm,?_⟩
  ·have:=AXj h1.2 R hi hj;omega
  ·have:=AXj h1.2 R hi hj;omega
  ·have h3:=(Afr (A:=ent M) (n:=M.length) M.length 0 (ent M) (by omega) h1.1 (by simp [det]) fun i j _ _=>by rw [APi,Nat.zero_add,Nat.zero_add]).2 ⟨fun j _ hj=>R.pos j hj,fun j _ hj=>by have:=AXi h1.2 R (k:=j) (by omega);omega,fun l i _ a b=>R.sz i l a b,fun l _ hl=>R.lv l hl,R.dt⟩;simpa [det] using h3
theorem Ag9 {fuel r c:Nat} {F:Nat->Nat->Int} (hr:1<=r) (Ad:r<=16) (hc:1<=c) (Ae:c<=16) (hf:100 < fuel):AD1 fuel (tab r c F)=some ((r:Int),(c:Int),true):=by
 apply ok_eq;unfold AD1;rw [ACt];refine ABs (Q:=fun ex=>match ex with | .inl _=>False | .inr _=>True) (AB7 (fun h=>by omega) fun h=>AB7 (fun h2=>by omega) fun h2=>ABn trivial) fun ex hex=>?_
 cases ex with
 | inl e=>exact hex.elim
 | inr u=>
   dsimp only
   refine ABs (AC3 (fun i (s:Int)=>s=i) r (Q:=fun ex=>match ex with | .inl _=>False | .inr _=>True) rfl (by omega) fun i s hi hI=>?_) fun ex hex=>?_
   · subst hI
     unfold AG1
     rw [ACt]
     refine AB7 (fun h=>ACj (ACv (by omega)) rfl ?_) fun h=>ABn trivial
     rw [ACy]
     refine AB7 (fun h2=>by omega) fun h2=>AB7 (fun h3=>by omega) fun h3=>ACj (n:=0) (ACv (by omega)) rfl (AB7 (fun h4=>?_) fun h4=>ABn ⟨by omega,wk (by omega)⟩)
     rw [ACy] at h4;omega
   · cases ex with
     | inl e=>exact hex.elim
     | inr u=>exact ACj (n:=0) (ACv (by omega)) rfl (ABn (by rw [ACy]))
theorem Akg {fuel n:Nat} {F:Nat->Nat->Int} (Ah:1<=n) (hn:n<=8) (hb:∀ i j,i < n->j < n->(F i j).natAbs<=AH6) (hf:100 < fuel):Ok (AHk fuel (tab n n F)) fun r=>r=true↔ARv F n/\ATf F n:=by
 unfold AHk;refine ABs (AC1 (AX5 Ah hn hb hf)) fun x hx=>?_;subst hx;dsimp only;refine ABs (AC3 (fun i s=>s=((i:Nat):Int)/\i<=n/\ARv F i/\ATf F i) n (Q:=fun ex=>match ex with | .inl e=>e=false/\¬ (ARv F n/\ATf F n) | .inr _=>ARv F n/\ATf F n) ⟨rfl,Nat.zero_le _,fun r l h1 h2=>by omega,fun r h=>by omega⟩ (by omega) fun i s hi hI=>?_) fun ex hex=>?_
 ·obtain ⟨rfl,hin,hsz,hlv⟩:=hI;unfold AJ2;rw [ACt];refine AB7 (fun h=>?_) (fun h=>ABn ?_)
  ·have hi':i < n:=by omega
   refine ABs (AC3 (fun k s=>s=((k:Nat):Int)/\k<=i/\ ∀ l,l < k->SzF F i l) i (Q:=fun ex=>match ex with | .inl e=>e=false/\¬ (ARv F n/\ATf F n) | .inr _=> ∀ l,l < i->SzF F i l) ⟨rfl,Nat.zero_le _,fun l h1=>by omega⟩ (by omega) fun k s hk hK=>?_) fun ex hex=>?_
   ·obtain ⟨rfl,hki,hz⟩:=hK;unfold AJ1;refine AB7 (fun h2=>?_) (fun h2=>ABn ?_)
    ·have hki':k < i:=by omega
     refine ABs (AC1 (Ail hn hi' (by omega) hb hf)) fun b Ad=>?_;subst Ad;refine AB7 (fun h3=>ABn ⟨rfl,fun h4=>?_⟩) (fun h3=>ABn ⟨by omega,by rw [wk (by omega)];omega,by omega,fun l hl=>?_⟩)
     ·have:=h4.1 i k hki' hi';rw [<- AY9] at this;simp [this] at h3
     ·have hgood:SzF F i k:=by rw [<- AY9];simpa using h3
      rcases Nat.lt_or_ge l k with h6 | h6
      ·exact hz l h6
      ·obtain rfl:l=k:=by omega
       exact hgood
    ·obtain rfl:k=i:=by omega
     exact hz
   ·cases ex with
    | inl r=>exact ABn hex
    | inr e=>
      have hsz':ARv F (i + 1):=fun r l h1 h2=>by
        rcases Nat.lt_or_ge r i with h3 | h3
        · exact hsz r l h1 h3
        · obtain rfl:r=i:=by omega
          exact hex l h1
      dsimp only
      have nx:w64 ((i:Int) + 1)=((i + 1:Nat):Int):=by rw [wk (by omega)];omega
      refine AB7 (fun h4=>?_) (fun h4=>ABn ⟨by omega,nx,by omega,hsz',fun r hr=>by omega⟩)
      obtain ⟨j,rfl⟩:∃ j,i=j + 1:=⟨i - 1,by omega⟩
      refine ABs (Afk hn hi' hb hf) fun b Ad=>?_
      refine AB7 (fun h5=>ABn ⟨rfl,fun h6=>?_⟩) (fun h5=>ABn ⟨by omega,nx,by omega,hsz',fun r hr=>?_⟩)
      · rw [Ad.2 (h6.2 j hi')] at h5;cases h5
      · have hgood:LvF F j:=Ad.1 (by simpa using h5)
        rcases Nat.lt_or_ge r j with h6 | h6
        · exact hlv r (by omega)
        · obtain rfl:r=j:=by omega
          exact hgood
  ·obtain rfl:i=n:=by omega
   exact ⟨hsz,hlv⟩
 ·cases ex with
  | inl r=>exact ABn (Iff.intro (fun h=>by rw [hex.1] at h;cases h) fun h=>absurd h hex.2)
  | inr u=>exact ABn ⟨fun _=>hex,fun _=>rfl⟩
def Afs (M:List (List Int)):Prop:= ∀ z∈M,∀ x∈z,-9223372036854775808<=x/\x<=9223372036854775807
theorem Aha {fuel:Nat} {M:List (List Int)} (hM:Afs M) (hf:100 < fuel):AE9 fuel M=some (isRed M):=by
 have key:Ok (AE9 fuel M) fun r=>r=true↔Aa5 M:=by
   unfold AE9
   refine ABs (AC1 (AYh hM (by omega))) fun x hx=>?_
   subst hx
   by_cases hk:okM M=true
   · rw [if_pos hk]
     dsimp only
     have Ag:=hk
     unfold okM at Ag
     rw [decide_eq_true_iff] at Ag
     obtain ⟨a1,a2,a3⟩:=Ag
     have hne:∃ z,M[0]? =some z:=⟨M[0],List.getElem?_eq_getElem (by omega)⟩
     obtain ⟨z,hz⟩:=hne
     have hc:AN0 M=z.length:=AQ5 hz
     have Aj:=a3 z (List.mem_of_getElem? hz)
     have hT:M=tab M.length (AN0 M) (ent M):=AXs fun z hz=>(a3 z hz).2.2
     refine AB7 (fun _=>?_) fun h=>absurd rfl h
     by_cases hsq:AN0 M=M.length/\M.length<=8
     · have Ai:M=tab M.length M.length (ent M):=by rw [hsq.1] at hT;exact hT
       have hb:∀ i j,i < M.length->j < M.length->(ent M i j).natAbs<=AH6:=fun i j hi hj=>by
         have hl:M[i].length=M.length:=by rw [(a3 _ (List.getElem_mem hi)).2.2];exact hsq.1
         rw [Ala hi (by omega)]
         have h1:=hM _ (List.getElem_mem hi) _ (List.getElem_mem (show j < M[i].length by omega))
         have h2:(9223372036854775808:Nat)<=AH6:=by decide
         omega
       have hR:Aa5 M↔Aa4 M.length (ent M):=⟨fun h=>h.2.2,fun h=>⟨⟨a1,hsq.2⟩,fun z hz=>by rw [(a3 z hz).2.2];exact hsq.1,h⟩⟩
       rw [hR]
       generalize hF:ent M=F at *
       generalize hL:M.length=n at *
       rw [Ai]
       refine ABs (AWi a1 hsq.2 hb hf) fun v hv=>AB7 (fun h=>?_) fun h=>ABn ⟨fun h2=>(nomatch h2),fun h2=>absurd (hv.2 ⟨h2.sym,h2.pos⟩) h⟩
       have h1:=hv.1 h
       refine ABs (AC1 (Aip hsq.2 hb hf)) fun b Ad=>?_
       subst Ad
       refine AB7 (fun h2=>?_) fun h2=>ABn ⟨fun h3=>(nomatch h3),fun h3=>absurd (decide_eq_true h3.dt) h2⟩
       refine ABs (Akg a1 hsq.2 hb hf) fun b Ad=>ABn ⟨fun h3=>?_,fun h3=>Ad.2 ⟨h3.sz,h3.lv⟩⟩
       exact ⟨h1.1,h1.2,(Ad.1 h3).1,(Ad.1 h3).2,of_decide_eq_true h2⟩
     · have hnr: ¬ Aa5 M:=fun h=>hsq ⟨by rw [hc];exact h.2.1 z (List.mem_of_getElem? hz),h.1.2⟩
       refine ABs (Q:=fun v=>v=3) ?_ fun v hv=>AB7 (fun h=>by omega) fun _=>ABn ⟨fun h=>(nomatch h),fun h=>absurd h hnr⟩
       unfold AEh
       refine ABs (Q:=fun e=>e.2=false∨(8:Int) < e.1) ?_ fun e he=>?_
       · unfold AFc
         rw [hT]
         refine ABs (AC1 (Ag9 a1 a2 (by omega) (by omega) hf)) fun x hx=>?_
         subst hx
         dsimp only
         refine AB7 (fun h=>absurd h (by decide)) fun _=>AB7 (fun h=>ABn (.inl rfl)) fun h=>ABn (.inr ?_)
         have h2:M.length=AN0 M:=by omega
         dsimp only
         by_cases h3:M.length<=8
         · exact absurd ⟨h2.symm,h3⟩ hsq
         · omega
       · obtain ⟨e1,e2⟩:=e
         dsimp only at he ⊢
         refine AB7 (fun h=>ABn rfl) fun h=>AB7 (fun _=>ABn rfl) fun h2=>?_
         rcases he with rfl | he
         · exact absurd rfl h
         · exact absurd he h2
   · rw [if_neg hk]
     refine AB7 (fun h=>(nomatch h)) fun _=>ABn ⟨fun h=>(nomatch h),fun h=>absurd ?_ hk⟩
     obtain ⟨h1,h2,_⟩:=h
     unfold okM
     rw [decide_eq_true_iff]
     have hc:AN0 M=M.length:=by rw [AQ5 (List.getElem?_eq_getElem (show 0 < M.length by omega))];exact h2 _ (List.getElem_mem _)
     exact ⟨by omega,by omega,fun z hz=>by rw [h2 z hz,hc];exact ⟨by omega,by omega,rfl⟩⟩
 obtain ⟨r,h1,h2⟩:=key;rw [h1];congr 1;rw [<- AX7] at h2;cases r <;> cases h:isRed M <;> simp_all
end Go.Proofs.YtdnbklmefmoofaaGreatDoor
namespace Go.Proofs.YtdnbklmefmoofaaGreatDoor
open Go Go.QF
open Go.ChangeShapes Go.WideShapes Go.ChangeAt Go.RowKit
set_option maxRecDepth 100000
theorem Akh:Tryz.prog.cellsOf 25=4:=by kernel_rfl
theorem wf_i64 {z:Int} (h:(Lit.int .i64 z).wf=true): -9223372036854775808<=z/\z<=9223372036854775807:=by
 simp [Lit.wf,IntKind.min,IntKind.max,IntKind.bits,IntKind.signed] at h;omega
theorem An6 {H:Type} {enc:TypeId × Value->H} {W:World} {fuel:Nat} {v:Value} {x:DataW H × List MemPlace} (hf:DataW.trod enc Tryz.prog W 0 (fun _=>true) true fuel 22 [v]=some x):∃ M,AEq (cI .i64) W.heap v M/\Afs M:=by
  rcases Deep.open_int_rows Tryz.underlying22 Tryz.underlying35 Tryz.underlying2 Ajg AVe hf with ⟨hcs,_⟩ | ⟨a',len',cap',A,L,C,Z,hcs,_,hl,_,_,hrow⟩
  · simp at hcs;subst hcs;exact ⟨[],Amh _ _,fun z hz=>by cases hz⟩
  · simp at hcs;subst hcs
    have hM:Mat W.heap (.slice (some a') len' cap') ((List.range len').map fun r=>(Z r).take (L r)):=by
      refine ⟨(List.range len').map fun r=> .slice (A r) (L r) (C r),?_,by simp,fun i r z hr hz=>?_⟩
      · refine AUv (by simp) (fun h=>by cases h) fun a'' ha i x hx=>?_;injection ha with ha;subst ha;have hi:i < len':=by have:=(List.getElem?_eq_some_iff.1 hx).1;simpa using this
        simp [hi] at hx;subst hx;exact (hrow i (by omega)).1
      · have hi:i < len':=by have:=(List.getElem?_eq_some_iff.1 hr).1;simpa using this
        simp [hi] at hr hz;subst hr;subst hz;obtain ⟨_,hLC,_,hZ,_,hnone,hcell⟩:=hrow i (by omega);refine AUv (by simp;omega) (fun h=>by have:=hnone h;omega) fun a'' ha c x hx=>?_;have hc:c < L i:=by have:=(List.getElem?_eq_some_iff.1 hx).1;simp at this;omega
        have:=(hcell a'' ha).2 c (by omega);rw [this];rw [List.getElem?_map,List.getElem?_take,if_pos hc,List.getElem?_eq_getElem (by omega)] at hx;simp only [Option.map_some,Option.some.injEq] at hx;rw [<- hx,List.getD_eq_getElem?_getD,List.getElem?_eq_getElem (by omega)];rfl
    refine ⟨_,Aqg hM ⟨_,_,_,rfl,hl⟩,fun z hz x hx=>?_⟩;obtain ⟨r,hr,rfl⟩:=List.mem_map.1 hz;have hr':r < len':=List.mem_range.1 hr;exact wf_i64 ((hrow r (by omega)).2.2.2.2.1 x (List.mem_of_mem_take hx))
theorem An7 {H:Type} {enc:TypeId × Value->H} {W:World} {v:Value} {d:DataW H} {p:List MemPlace} (hv:∃ a len cap,v= .slice a len cap) (h:DataW.Trod enc Tryz.prog W 0 (fun _=>true) true 22 v d p):∃ M,AEq (cI .i64) W.heap v M/\Afs M:=by
 obtain ⟨fuel,hf⟩:=h;obtain ⟨a,len,cap,rfl⟩:=hv;exact An6 hf
theorem An8 {H:Type} {enc:TypeId × Value->H} {W:World} {r:Reach} {b0:Nat} {v:Value} {d:DataW H} {p:List MemPlace} (hv:Value.okWide Tryz.prog W r b0 25 v) (h:DataW.Trod enc Tryz.prog W 0 (fun _=>true) true 25 v d p):
    ∃ (g k:Int) (lv bv:Value) (Z Y:List Int),v= .agg #[.int .u8 g,.int .u8 k,lv,bv]/\SlC (cI .i8) W.heap lv Z/\SlC (cI .i8) W.heap bv Y/\(0<=g/\g < 256)/\(0<=k/\k < 256)/\(∀ z∈Z,-128<=z/\z<=127)/\ ∀ z∈Y,-128<=z/\z<=127:=by
  obtain ⟨cs,rfl,hsz⟩:=okWide_struct Tryz.underlying25 hv;rw [Akh] at hsz;obtain ⟨l⟩:=cs
  match l,hsz with
  | [c0,c1,c2,c3],_=>
    obtain ⟨fuel,hf⟩:=h;obtain ⟨y0,y1,y2,y3,n,_,_,h0,h1,h2,h3⟩:=Joins.trod_struct4 Tryz.underlying25 hf;simp [Value.cells,Alo,Alp] at h0 h1 h2 h3;obtain ⟨x0,e0,_,w0⟩:=DataW.trod_int Tryz.underlying5 h0;obtain ⟨x1,e1,_,w1⟩:=DataW.trod_int Tryz.underlying5 h1;simp at e0 e1;subst e0;subst e1;have b0:=wf_u8 w0;have b1:=wf_u8 w1;obtain ⟨Z,HZ,hZ⟩:=Alq h2;obtain ⟨Y,HY,hY⟩:=Alq h3;exact ⟨x0,x1,c2,c3,Z,Y,rfl,Agz HZ,Agz HY,by omega,by omega,hZ,hY⟩
end Go.Proofs.YtdnbklmefmoofaaGreatDoor
namespace Go.Proofs.YtdnbklmefmoofaaGreatDoor
open Go Go.QF
open Go.ChangeShapes Go.WideShapes Go.ChangeAt Go.RowKit
set_option maxRecDepth 100000
theorem Aki:Tryz.prog.cellsOf 3=1:=by kernel_rfl
theorem Akj:Tryz.prog.cellsOf 37=5:=by kernel_rfl
theorem An9:Tryz.prog.cellsOf 26=1:=by kernel_rfl
theorem Aoa:Tryz.prog.cellsOf 22=1:=by kernel_rfl
theorem Akk:Tryz.prog.cellsOf 28=3:=by kernel_rfl
theorem Ati {α:Type} {f:α->List Value} {good:α->Prop} {W:World} {a:Addr} {len cap k:Nat} (hk:0 < k) (h:∀ i,i < len-> ∃ x,good x/\(f x).length=k/\W.cells? 0 (a.add (i * k)) k=some (f x)):
    ∃ Xs:List α,SlK W.heap k (.slice (some a) len cap) (Xs.map f)/\(∀ x∈Xs,good x)/\Xs.length=len:=by
  have key:∀ n,n<=len-> ∃ Xs:List α,Xs.length=n/\ ∀ (i:Nat) (x:α),Xs[i]? =some x->good x/\(f x).length=k/\W.cells? 0 (a.add (i * k)) k=some (f x):=by
    intro n;induction n with
    | zero=>intro _;exact ⟨[],rfl,fun i x hx=>by simp at hx⟩
    | succ n ih=>
      intro hn;obtain ⟨Xs,hl,hX⟩:=ih (by omega);obtain ⟨x,hx⟩:=h n (by omega);refine ⟨Xs ++ [x],by simp [hl],fun i y hy=>?_⟩
      rcases Nat.lt_or_ge i Xs.length with hi | hi
      · rw [List.getElem?_append_left hi] at hy;exact hX i y hy
      · have:=(List.getElem?_eq_some_iff.1 hy).1;simp at this;have hi2:i=Xs.length:=by omega
        subst hi2;simp at hy;subst hy;rw [hl];exact hx
  obtain ⟨Xs,hl,hX⟩:=key len (Nat.le_refl _)
  refine ⟨Xs,⟨some a,cap,by rw [List.length_map,hl],fun i row hrow=>?_⟩,fun x hx=>?_,hl⟩
  · rw [List.getElem?_map] at hrow;cases hxi:Xs[i]? with
    | none=>rw [hxi] at hrow;cases hrow
    | some x=>
      rw [hxi] at hrow;simp only [Option.map_some,Option.some.injEq] at hrow;subst hrow;obtain ⟨_,hfl,hc⟩:=hX i x hxi;obtain ⟨_,_,hcell⟩:=World.cells?_some hc;have hi:i < len:=by rw [<- hl];exact (List.getElem?_eq_some_iff.1 hxi).1
      have hsp:a.spot=none:=by
        obtain ⟨x0,_,hf0,hc0⟩:=h 0 (by omega);obtain ⟨_,_,hcell0⟩:=World.cells?_some hc0;have h0:=hcell0 0 hk;rw [List.getElem?_eq_getElem (by omega)] at h0;have ha:(a.add (0 * k)).add 0=a:=by simp [Addr.add]
        rw [ha] at h0;exact congrArg Addr.spot (Abg h0)
      obtain ⟨ab,ao,asp⟩:=a;simp only at hsp;subst hsp;refine ⟨ab,ao,rfl,fun j y hj=>?_⟩;have hjl:=(List.getElem?_eq_some_iff.1 hj).1;have:=hcell j (by omega);rw [AGy,AGy,hj] at this;exact this
  · obtain ⟨i,hi⟩:=List.getElem?_of_mem hx;exact (hX i x hi).1
section
variable {H:Type} {enc:TypeId × Value->H} {W:World}
theorem Auu {α:Type} {l:List α} (h:l.length=5):∃ a b c d e,l=[a,b,c,d,e]:=by
 match l,h with
 | [a,b,c,d,e],_=>exact ⟨a,b,c,d,e,rfl⟩
theorem Auv {fuel:Nat} {v:Value} {x:DataW H × List MemPlace} (hf:DataW.trod enc Tryz.prog W 0 (fun _=>true) true fuel 26 [v]=some x):∃ L:List AIp,SlC APo W.heap v L/\ ∀ b∈L,(I64 b.1/\I64 b.2.1)/\I64 b.2.2.1/\I64 b.2.2.2.1/\I64 b.2.2.2.2:=by
 rcases Deep.open_slice Tryz.underlying26 hf with ⟨hcs,_⟩ | ⟨a,len,cap,m,n,D,Pl,hcs,_,hl,_,hm,_,hel⟩
 ·simp at hcs;subst hcs;exact ⟨[],Ahq _ _,fun z hz=>by cases hz⟩
 ·simp at hcs;subst hcs
  suffices hh:∃ Bs:List Blk,SlK W.heap 5 (.slice (some a) len cap) (Bs.map Aui)/\(∀ b∈Bs,b.I)/\Bs.length=len by
    obtain ⟨Bs,q1,q2,q3⟩:=hh
    refine ⟨Bs.map fun b=>(b.exp,b.size,b.a,b.b,b.c),⟨Bs.map Aui,q1,by simp,fun i cs x h1 h2=>?_⟩,fun x hx=>?_⟩
    · rw [List.getElem?_map] at h1 h2
      cases hb:Bs[i]? with
      | none=>rw [hb] at h1;cases h1
      | some b=>rw [hb] at h1 h2;cases h1;cases h2;rfl
    · obtain ⟨b,hb,rfl⟩:=List.mem_map.1 hx
      obtain ⟨g0,g1,g2,g3,g4⟩:=q2 b hb
      exact ⟨⟨g0,g1⟩,g2,g3,g4⟩
  refine Ati (by decide) fun i hi=>?_;obtain ⟨cs',h1,h2⟩:=hel i (by rw [hm];split <;> omega);rw [Akj] at h1;obtain ⟨_,hcl,_⟩:=World.cells?_some h1;obtain ⟨c0,c1,c2,c3,c4,rfl⟩:=Auu hcl;obtain ⟨xs,n',_,_,_,hlen,hfld⟩:=DataW.trod_struct Tryz.underlying37 h2
  have rd:∀ (t:TypeId) (c:Value),(∃ y,DataW.trod enc Tryz.prog W 0 (fun _=>true) true n' t [c]=some y)->Tryz.prog.underlying t=some (.int .i64)-> ∃ z:Int,c= .int .i64 z/\I64 z:=by
    intro t c hy ht
    obtain ⟨y,hy⟩:=hy
    obtain ⟨z,e0,_,w0⟩:=DataW.trod_int ht hy
    simp at e0
    refine ⟨z,e0,?_⟩
    simp [Lit.wf,IntKind.min,IntKind.max,IntKind.bits,IntKind.signed] at w0
    unfold I64
    omega
  match xs,hlen with
  | [y0,y1,y2,y3,y4],_=>
    have f0:=hfld 0 _ rfl
    have f1:=hfld 1 _ rfl
    have f2:=hfld 2 _ rfl
    have f3:=hfld 3 _ rfl
    have f4:=hfld 4 _ rfl
    simp [Aki,AVe] at f0 f1 f2 f3 f4
    obtain ⟨z0,rfl,i0⟩:=rd 3 c0 ⟨_,f0⟩ Tryz.underlying3
    obtain ⟨z1,rfl,i1⟩:=rd 3 c1 ⟨_,f1⟩ Tryz.underlying3
    obtain ⟨z2,rfl,i2⟩:=rd 2 c2 ⟨_,f2⟩ Tryz.underlying2
    obtain ⟨z3,rfl,i3⟩:=rd 2 c3 ⟨_,f3⟩ Tryz.underlying2
    obtain ⟨z4,rfl,i4⟩:=rd 2 c4 ⟨_,f4⟩ Tryz.underlying2
    exact ⟨⟨z0,z1,z2,z3,z4⟩,⟨i0,i1,i2,i3,i4⟩,rfl,h1⟩
theorem Akl {r:Reach} {b0:Nat} {v:Value} {d:DataW H} {p:List MemPlace} (hv:Value.okWide Tryz.prog W r b0 28 v) (h:DataW.Trod enc Tryz.prog W 0 (fun _=>true) true 28 v d p):
    ∃ (q:Int) (vT vB:Value) (T:List (List Int)) (L:List AIp),v= .agg #[.int .i64 q,vT,vB]/\AEq (cI .i64) W.heap vT T/\Afs T/\SlC APo W.heap vB L/\I64 q/\ ∀ b∈L,(I64 b.1/\I64 b.2.1)/\I64 b.2.2.1/\I64 b.2.2.2.1/\I64 b.2.2.2.2:=by
 obtain ⟨cs,rfl,hsz⟩:=okWide_struct Tryz.underlying28 hv;rw [Akk] at hsz;obtain ⟨l⟩:=cs
 match l,hsz with
 | [c0,c1,c2],_=>
   obtain ⟨fuel,hf⟩:=h
   obtain ⟨y0,y1,y2,n,_,_,h0,h1,h2⟩:=Deep.trod_struct3 Tryz.underlying28 hf
   simp [Value.cells,AVe,Aoa,An9] at h0 h1 h2
   obtain ⟨x0,e0,_,w0⟩:=DataW.trod_int Tryz.underlying2 h0
   simp at e0
   subst e0
   obtain ⟨L,HB,hB⟩:=Auv h2
   obtain ⟨T,HT,hT⟩:=An6 h1
   exact ⟨x0,c1,c2,T,L,rfl,HT,hT,HB,by have:=wf_i64 w0;unfold I64;omega,hB⟩
end
end Go.Proofs.YtdnbklmefmoofaaGreatDoor
namespace Go.Proofs.YtdnbklmefmoofaaGreatDoor
open Go Go.QF
set_option maxRecDepth 100000
theorem Aiz {n k:Nat} {A:Nat->Nat->Int} (hn:n<=8) (R:Aa4 n A) (hk:k<=n) {i j:Nat} (hi:i < n) (hj:j < n):(Mn k A i j).natAbs<=12288000000:=by
 have h1:=AX2 R.sym R.pos hk hi hj
 have b:∀ i,i < n->Mn k A i i<=12288000000:=fun i hi=>by
   have h2:=Anp R.sym R.pos hi k hk
   have h3:=AXi hn R hk
   have h4:=AXj hn R hi hi
   have h5:det k A * A i i<=det k A * 192000:=Int.mul_le_mul_of_nonneg_left h4.2 (by omega)
   omega
 have p:=fun i (hi:i < n)=>AX3 R.sym R.pos hk hi;have h2:=Int.mul_le_mul (b i hi) (b j hj) (p j hj) (by omega);have:=Afc (x:=Mn k A i j) (y:=12288000000) (by omega) (Int.le_trans h1 h2);omega
theorem Atj {fuel n:Nat} {A:Nat->Nat->Int} (Ag:1<=n) (hn:n<=8) (R:Aa4 n A) (hf:100 < fuel):AIt fuel (tab n n A)=some (det n A):=by
 apply ok_eq;unfold AIt;rw [ACt];refine AD8 (by omega) ?_;rw [Int.toNat_natCast];refine ABs (AC3 (fun i s=>s=(((i:Nat):Int),part n i A)/\i<=n) n (Q:=(· =tab n n A)) ⟨by rw [AO2 n A];rfl,Nat.zero_le _⟩ (by omega) fun i s hi hI=>?_) fun e he=>?_
 ·obtain ⟨rfl,hin⟩:=hI;unfold AL2;dsimp only;rw [ACt];refine AB7 (fun h=>ACj (ACv (by omega)) rfl (AD8 (by omega) (ACj (AOp (by omega)) rfl ?_))) (fun h=>ABn ?_)
  ·have hi':i < n:=by omega
   rw [Int.toNat_natCast,ADw,AGn n (0:Int),AMz];refine ACj (AKy (by omega) hi') rfl (AD8 (by rw [ACy,ACy];exact ⟨rfl,Ag⟩) (ABn ⟨hi',?_,by omega⟩));rw [wk (by omega),ADw,AMy (by omega),AN2,AOz];refine congrArg (fun z=>(z,part n (i + 1) A)) ?_;omega
  ·obtain rfl:i=n:=by omega
   exact AO1 _ _
 subst he;refine ABs (Q:=(· =1)) ⟨1,if_pos (by omega),rfl⟩ fun one h1=>?_;subst h1;refine ABs (AC3 (fun k s=> ∃ G,s=(false,((k:Int),tab n n G,det k A))/\k<=n/\ ∀ r c,k<=r->r < n->k<=c->c < n->G r c=Mn k A r c) n (Q:=fun ex=>match ex with | .inl e=>False | .inr (neg,last)=>neg=false/\last=det n A) ⟨A,rfl,Nat.zero_le _,fun r c _ _ _ _=>(APi A r c).symm⟩ (by omega) fun k s hk hI=>?_) fun ex hex=>?_
 ·obtain ⟨G,rfl,hkn,hG⟩:=hI;unfold AL1;dsimp only;rw [ACt];refine AB7 (fun h=>?_) (fun h=>ABn ⟨rfl,?_⟩)
  ·have hk':k < n:=by omega
   have hGk:G k k=det (k + 1) A:=by rw [hG k k (by omega) hk' (by omega) hk',ALk]
   have hpos:0 < det (k + 1) A:=R.pos (k + 1) (by omega);have hlast:=AXi hn R (k:=k) (by omega);refine ABs (Q:=(· =(k:Int))) (ABs (AC3 (fun _ s=>s=(k:Int)) 0 (Q:=(· =(k:Int))) rfl (by omega) fun i s hi hI=>?_) fun e he=>ABn he) fun e he=>?_
   ·subst hI;unfold ALy;rw [ACt];refine ABs (Q:=fun ex=>match ex with | .inl _=>False | .inr _=>True) (AB7 (fun h2=>ACj (ACv hk') rfl (ACj (ACk hk') rfl (ABs (AC1 (a:=AG8 (G k k)) rfl) fun sg hsg=>AB7 (fun h3=>?_) fun h3=>ABn trivial))) fun h2=>absurd h h2) fun ex hex=>?_
    ·exfalso;rw [hsg] at h3;have:=(AQ1 _).1 h3;omega
    ·cases ex with
     | inl u=>exact hex.elim
     | inr u=>exact ABn rfl
   ·subst he;refine AB7 (fun h2=>by omega) fun _=>ABs (Q:=(· =(false,tab n n G))) (AB7 (fun h2=>absurd rfl h2) fun _=>ABn rfl) fun r hr=>?_;subst hr;dsimp only;refine ACj (ACv hk') rfl (ACj (ACk hk') rfl ?_);rw [wk (by omega)]
    have hq:∀ r c,k < r->r < n->k < c->c < n->bQ k G (det k A) r c=Mn (k + 1) A r c:=fun r c h1 h2 h3 h4=>by
      unfold bQ
      rw [hGk,hG r c (by omega) h2 (by omega) h4,hG r k (by omega) h2 (by omega) hk',hG k c (by omega) hk' (by omega) h4,<- ALk k A,AVp (by omega),Int.mul_ediv_cancel_left _ (by omega)]
    have habs:∀ r c,k<=r->r < n->k<=c->c < n->(G r c).natAbs<=12288000000:=fun r c h1 h2 h3 h4=>by rw [hG r c h1 h2 h3 h4];exact Aiz hn R (by omega) h2 h4
    refine ABs (AC3 (fun i s=>s=(((k + 1 + i:Nat):Int),tab n n (bF k G (det k A) (k + 1 + i) (k + 1)))/\k + 1 + i<=n) (n - (k + 1)) (Q:=(· =tab n n (bF k G (det k A) n (k + 1)))) ⟨by rw [Nat.add_zero,Aaa];simp,by omega⟩ (by omega) fun i s hi hI=>?_) fun a3 Ah=>?_
    ·obtain ⟨rfl,hin⟩:=hI;unfold AL0;dsimp only;rw [ACt];obtain ⟨q,hqe⟩:∃ q,k + 1 + i=q:=⟨_,rfl⟩;rw [hqe] at hin ⊢;refine AB7 (fun h3=>?_) (fun h3=>ABn ?_)
     ·have hqn:q < n:=by omega
      rw [wk (by omega)];refine ABs (AC3 (fun j s=>s=(((k + 1 + j:Nat):Int),tab n n (bF k G (det k A) q (k + 1 + j)))/\k + 1 + j<=n) (n - (k + 1)) (Q:=(· =tab n n (bF k G (det k A) q n))) ⟨by simp,by omega⟩ (by omega) fun j s hj hJ=>?_) fun a4 Ai=>ABn ?_
      ·obtain ⟨rfl,hjn⟩:=hJ;unfold ALz;dsimp only;rw [ACt];obtain ⟨c,hc⟩:∃ c,k + 1 + j=c:=⟨_,rfl⟩;rw [hc] at hjn ⊢;refine AB7 (fun h4=>?_) (fun h4=>ABn ?_)
       ·have hcn:c < n:=by omega
        have a1:=habs k k (by omega) hk' (by omega) hk';have a2:=habs q c (by omega) hqn (by omega) hcn;have a3:=habs q k (by omega) hqn (by omega) hk';have a4:=habs k c (by omega) hk' (by omega) hcn;have m1:=Nat.mul_le_mul a1 a2;have m2:=Nat.mul_le_mul a3 a4;have hB:12288000000 * 12288000000 < AFa:=by decide
        refine ACj (ACv hqn) rfl (ACj (ACk hcn) rfl ?_);rw [Am9];refine ABs (AC1 (a:=G k k * G q c) (if_pos (by omega))) fun x1 Am=>ACj (ACk hk') rfl (ACj (ACv hk') rfl (ACj (ACk hcn) rfl ?_));subst Am;rw [Am8,Aab];refine ABs (AC1 (a:=G q k * G k c) (if_pos (by omega))) fun x2 Ao=>?_;subst Ao;refine ABs (AC1 (a:=G k k * G q c - G q k * G k c) (if_pos ⟨by rw [Int.natAbs_mul];omega,by rw [Int.natAbs_mul];omega⟩)) fun x3 Ap=>?_;subst Ap
        have hnum:G k k * G q c - G q k * G k c=det k A * Mn (k + 1) A q c:=by
          rw [hGk,hG q c (by omega) hqn (by omega) hcn,hG q k (by omega) hqn (by omega) hk',hG k c (by omega) hk' (by omega) hcn,<- ALk k A,AVp (by omega)]
        have m3:(det k A * Mn (k + 1) A q c).natAbs<=64000 * 12288000000:=by
          rw [Int.natAbs_mul]
          exact Nat.mul_le_mul (by omega) (Aiz hn R (by omega) hqn hcn)
        refine ABs (Q:=fun x=>x.1=bQ k G (det k A) q c) ⟨_,if_pos ⟨by rw [hnum];omega,by omega,by omega⟩,rfl⟩ fun x4 Aq=>ABn ⟨by omega,?_,by omega⟩;rw [Aq,wk (by omega),AWh,Agv k G (det k A) (by omega) (by omega)];congr 1
        ·omega
        ·rw [<- Nat.add_assoc,hc]
       ·obtain rfl:c=n:=by omega
        rfl
      ·subst Ai;refine ⟨by omega,?_,by omega⟩;rw [wk (by omega)];congr 1
       ·omega
       ·refine AVf fun r c hr hc=>?_;rw [Agu k n G (det k A) q hc,<- Nat.add_assoc,hqe]
     ·obtain rfl:q=n:=by omega
      rfl
    ·subst Ah;refine ABn ⟨hk',bF k G (det k A) n (k + 1),?_,by omega,fun r c h1 h2 h3 h4=>?_⟩
     ·rw [hGk];rfl
     ·have:bF k G (det k A) n (k + 1) r c=bQ k G (det k A) r c:=by unfold bF;rw [if_pos (by omega)]
      rw [this];exact hq r c (by omega) h2 (by omega) h4
  ·obtain rfl:k=n:=by omega
   rfl
 ·match ex,hex with
  | .inl e,hex=>exact hex.elim
  | .inr (neg,last),hex=>
    obtain ⟨rfl,rfl⟩:=hex
    dsimp only
    exact AB7 (fun h=>nomatch h) fun _=>ABn rfl
theorem Aft {fuel n:Nat} {F:Nat->Nat->Int} (hn:1<=n) (Ab:n<=16) (hf:100 < fuel):AIs fuel (tab n n F)=some ((n:Int),(n:Int),true)/\AHt fuel (tab n n F)=some ((n:Int),(n:Int),true):=by
 constructor <;>
 ·apply ok_eq;first | unfold AIs | unfold AHt
  rw [ACt];refine ABs (Q:=fun ex=>match ex with | .inl _=>False | .inr _=>True) (AB7 (fun h=>by omega) fun h=>AB7 (fun h2=>by omega) fun h2=>ABn trivial) fun ex hex=>?_
  cases ex with
  | inl e=>exact hex.elim
  | inr u=>
    dsimp only
    refine ACj (n:=0) (ACv (by omega)) rfl ?_
    rw [ACy]
    refine ABs (Q:=fun ex=>match ex with | .inl _=>False | .inr _=>True) (AB7 (fun h=>by omega) fun h=>AB7 (fun h2=>by omega) fun h2=>ABn trivial) fun ex hex=>?_
    cases ex with
    | inl e=>exact hex.elim
    | inr u=>
      dsimp only
      refine ABs (AC3 (fun i (s:Int)=>s=i) n (Q:=fun ex=>match ex with | .inl _=>False | .inr _=>True) rfl (by omega) fun i s hi hI=>?_) fun ex hex=>?_
      · subst hI
        first | unfold ALx | unfold AKk
        rw [ACt]
        refine AB7 (fun h=>ACj (ACv (by omega)) rfl ?_) fun h=>ABn trivial
        rw [ACy,ACy]
        exact AB7 (fun h2=>absurd rfl h2) fun _=>ABn ⟨by omega,wk (by omega)⟩
      · cases ex with
        | inl e=>exact hex.elim
        | inr u=>exact ABn rfl
theorem Aqy {fuel n:Nat} {F:Nat->Nat->Int} (hn:1<=n) (Ac:n<=16) (hb:∀ i j,i < n->j < n->(F i j).natAbs<=9223372036854775807) (hf:100 < fuel):AKw fuel (tab n n F)=some (tab n n F,true):=by
 apply ok_eq;unfold AKw;refine ABs (AC1 (Aft hn Ac hf).1) fun x hx=>?_;subst hx;dsimp only;refine AB7 (fun h=>nomatch h) fun _=>ABs (Q:=(· =tab n n F)) (AD8 (by omega) ?_) fun e he=>ABn (by rw [he]);rw [Int.toNat_natCast];refine ABs (AC3 (fun i s=>s=(((i:Nat):Int),part n i F)/\i<=n) n (Q:=(· =tab n n F)) ⟨by rw [AO2 n F];rfl,Nat.zero_le _⟩ (by omega) fun i s hi hI=>?_) fun e he=>ABn he;obtain ⟨rfl,hin⟩:=hI;unfold ANr;dsimp only;rw [List.length_replicate,Int.toNat_natCast];refine AB7 (fun h=>AD8 (by omega) (ACj (AOp (by omega)) rfl ?_)) (fun h=>ABn ?_)
 ·have hi':i < n:=by omega
  rw [ADw,AGn n (0:Int),AMz];refine ACj (AKy (by omega) hi') rfl ?_;rw [ADq];refine ABs (AC3 (fun j s=>s=(((j:Nat):Int),part n (i + 1) (ADz F i fun c=>if c < j then F i c else 0))/\j<=n) n (Q:=(· =part n (i + 1) F)) ⟨?_,Nat.zero_le _⟩ (by omega) fun j s hj hJ=>?_) fun e he=>ABn ⟨hi',?_,by omega⟩
  ·refine congrArg (fun z=>((0:Int),z)) ?_;unfold part;refine ADl fun r hr=>?_;split
   ·exact ADl fun c hc=>by rw [ADk,ADk];split <;> simp
   ·rfl
  ·obtain ⟨rfl,hjn⟩:=hJ;unfold ANq;dsimp only;rw [ACy];refine AB7 (fun h=>?_) (fun h=>ABn ?_)
   ·have hj':j < n:=by omega
    refine ACj (AKy (by omega) hi') rfl ?_;rw [ADq];have:=hb i j hi' hj';refine ABs (Q:=(· =F i j)) (ACj (ACv hi') rfl (ACj (ACk hj') rfl (ABs (Q:=(· =F i j)) ⟨_,if_pos (by omega),rfl⟩ fun x hx=>ABn hx))) fun x hx=>?_;subst hx;refine ACj (ACk hj') rfl (ABn ⟨by omega,?_,by omega⟩);rw [wk (by omega),ADw,ADw,AFw,AMy (by omega),AN2];refine congrArg (fun z=>(((j + 1:Nat):Int),z)) ?_;congr 1;unfold ADz;funext r;split
    ·funext c;by_cases h1:c=j
     ·subst h1;rw [if_pos rfl,if_pos (by omega)]
     ·rw [if_neg h1];by_cases h2:c < j
      ·rw [if_pos h2,if_pos (by omega)]
      ·rw [if_neg h2,if_neg (by omega)]
    ·rfl
   ·obtain rfl:j=n:=by omega
    unfold part;refine ADl fun r hr=>?_;split
    ·refine ADl fun c hc=>?_;rw [ADk];split
     ·next h=>subst h;first | rfl | rw [if_pos hc]
     ·rfl
    ·rfl
  ·rw [he,wk (by omega)];rfl
 ·obtain rfl:i=n:=by omega
  exact AO1 _ _
def Afu (d p e:Int):Prop:= ∃ (k:Nat) (r:Int),e=k/\d=r * p ^ k/\¬ p ∣ r
theorem Ai0 {d p a b:Int} (hp:2<=p) (ha:Afu d p a) (hb:Afu d p b):a=b:=by
 have key:∀ (k l:Nat) (r s:Int),k < l->r * p ^ k=s * p ^ l->p ∣ r:=fun k l r s hkl h=>by
   obtain ⟨m,rfl⟩:∃ m,l=k + 1 + m:=⟨l - k - 1,by omega⟩
   rw [Int.pow_add,Int.pow_add,Int.pow_one] at h
   have h1:p ^ k * r=p ^ k * (p * (s * p ^ m)):=by grind
   exact ⟨_,Int.eq_of_mul_eq_mul_left (Int.pow_ne_zero (by omega)) h1⟩
 obtain ⟨k,r,rfl,h1,h2⟩:=ha;obtain ⟨l,s,rfl,h3,h4⟩:=hb;rcases Nat.lt_trichotomy k l with h | h | h
 ·exact absurd (key k l r s h (by rw [<- h1,<- h3])) h2
 ·rw [h]
 ·exact absurd (key l k s r h (by rw [<- h1,<- h3])) h4
theorem AVt {p r d:Int} {k:Nat} (hp:2<=p) (hr:0 < r) (hd:d<=10000) (h:d=r * p ^ k):k<=13:=by
 rcases Nat.lt_or_ge 13 k with h1 | h1
 ·exfalso;have h2:(2:Int) ^ 14<=2 ^ k:=AXh h1;have h3:(2:Int) ^ k<=p ^ k:=AMn (by omega) hp k;have h4:1 * p ^ k<=r * p ^ k:=Int.mul_le_mul_of_nonneg_right (by omega) (by omega);have h5:(2:Int) ^ 14=16384:=by decide
  omega
 ·exact h1
theorem Atk {fuel:Nat} {d p:Int} (Ac:1<=d) (hd:d<=10000) (hp:2<=p) (Ad:p<=9973) (hf:100 < fuel):Ok (AG4 fuel d p) (Afu d p):=by
 unfold AG4;refine ABs (AC3 (fun i s=> ∃ r:Int,s=(r,(i:Int))/\0 < r/\d=r * p ^ i) 14 (Q:=Afu d p) ⟨d,rfl,by omega,by simp⟩ (by omega) fun i s hi hI=>?_) fun e he=>ABn he;obtain ⟨r,rfl,hr,hdr⟩:=hI;have Ae:=AVt hp hr hd hdr
 have hrd:r<=d:=by
   have h1:r * 1<=r * p ^ i:=Int.mul_le_mul_of_nonneg_left (Int.pow_pos (by omega)) (by omega)
   omega
 unfold AJq;dsimp only;refine ABs (Q:=fun ex=>match ex with | .inl _=>p ∣ r | .inr _=> ¬ p ∣ r) (AB7 (fun h=>AD8 (by omega) (AB7 (fun h2=>ABn ?_) fun h2=>ABn ?_)) fun h=>by omega) fun ex hex=>?_
 ·exact Int.dvd_of_tmod_eq_zero h2
 ·exact fun h3=>h2 (Int.tmod_eq_zero_of_dvd h3)
 ·cases ex with
  | inl u=>
    obtain ⟨q,rfl⟩:p ∣ r:=hex
    have hq:0 < q:=Int.pos_of_mul_pos_right hr (by omega)
    have hqr:1 * q<=p * q:=Int.mul_le_mul_of_nonneg_right (by omega) (by omega)
    refine AD8 (by omega) (ABn ⟨by omega,q,?_,hq,by rw [hdr,Int.pow_succ];grind⟩)
    rw [Int.mul_tdiv_cancel_left _ (by omega),AFe (x:=q) (by omega) (by omega),wk (by omega)]
    rfl
  | inr u=>exact ABn ⟨i,r,rfl,hdr,hex⟩
def pwL (p:Int) (m:Nat):List Int:=AEl m fun i=>p ^ (2 ^ i)
theorem Aob {fuel:Nat} {a b:Int} (ha:a.natAbs < 18446744073709551616) (hb:b.natAbs < 18446744073709551616) (h0:b≠0):AU5 fuel a b=some (a / b,a % b,true):=if_pos ⟨ha,hb,h0⟩
theorem Atl {fuel:Nat} {d p:Int} (Am:1<=d) (hd:d<=10000) (hp:Pr p) (Ag:p<=9973) (hf:100 < fuel):Ok (AKx fuel d p) fun r=>Afu d p r.1:=by
 have Ae:2<=p:=hp.1;have pw:∀ k:Nat,0 < p ^ k:=fun k=>Int.pow_pos (by omega);unfold AKx;refine ABs (AC1 (a:=ALm p) rfl) fun b hb=>?_;rw [<- AWs (by omega) hp] at hb;subst hb;refine AB7 (fun h=>nomatch h) fun _=>ABs (AC1 (a:=AG8 d) rfl) fun s hs=>?_;subst hs;refine AB7 (fun h=>absurd ((AQ1 d).1 h) (by omega)) fun _=>ABs (AC1 (a:=d) rfl) fun x hx=>ABs (Q:=(· =p)) ⟨p,if_pos (by omega),rfl⟩ fun y hy=>?_;subst hx;subst hy;refine ABs (AC3 (fun j s=> ∃ r:Int,s=(pwL y (j + 1),r,((2 ^ j - 1:Nat):Int))/\0 < r/\x=r * y ^ (2 ^ j - 1)) 5 (Q:=fun e=> ∃ (j:Nat) (r:Int),e=(pwL y (j + 1),r,((2 ^ j - 1:Nat):Int))/\0 < r/\x=r * y ^ (2 ^ j - 1)/\¬ y ^ (2 ^ j) ∣ r/\j<=4) ⟨x,?_,by omega,by simp⟩ (by omega) fun j s hj hI=>?_) fun e he=>?_
 ·refine congrArg (fun l=>(l,x,(0:Int))) ?_;show [y]=[y ^ 1];rw [Int.pow_one]
 ·obtain ⟨r,rfl,hr,hxr⟩:=hI;have Ao:=AVt Ae hr hd hxr
  have Af:j<=3:=by
    rcases Nat.lt_or_ge 3 j with h | h
    · exfalso
      have:=Nat.pow_le_pow_right (show 0 < 2 by omega) h
      omega
    · exact h
  have hrx:r<=x:=by
    have h1:r * 1<=r * y ^ (2 ^ j - 1):=Int.mul_le_mul_of_nonneg_left (pw _) (by omega)
    omega
  have hjp:1<=2 ^ j:=Nat.one_le_two_pow
  have Ap:2 ^ j<=8:=by
    have:=Nat.pow_le_pow_right (show 0 < 2 by omega) Af
    omega
  have hyb:y ^ (2 ^ j)<=10000 * 9973:=by
    have e1:y ^ (2 ^ j)=y ^ (2 ^ j - 1) * y:=by rw [<- Int.pow_succ];congr 1;omega
    have h2:1 * y ^ (2 ^ j - 1)<=r * y ^ (2 ^ j - 1):=Int.mul_le_mul_of_nonneg_right (by omega) (Int.le_of_lt (pw _))
    rw [e1]
    exact Int.mul_le_mul (by omega) Ag (by omega) (by omega)
  have Ad:=pw (2 ^ j);unfold ANt;dsimp only;have hl:(pwL y (j + 1)).length=j + 1:=ACy _ _;rw [hl,AFe (x:=((j + 1:Nat):Int) - 1) (by omega) (by omega)];refine ACj (n:=j) (ACk (by omega)) (by omega) (AD8 (by omega) ?_);rw [show (((j + 1:Nat):Int) - 1).toNat=j by omega,show (1:Int) * 2 ^ j=((2 ^ j:Nat):Int) by simp,AFe (x:=((2 ^ j:Nat):Int)) (by omega) (by omega)];refine ABs (Q:=fun e:Bool × Int × Int=>if y ^ (2 ^ j) ∣ r then e=(true,r / y ^ (2 ^ j),((2 ^ (j + 1) - 1:Nat):Int)) else e=(false,r,((2 ^ j - 1:Nat):Int))) (ABs (AC1 (Aob (fuel:=fuel) (a:=r) (b:=y ^ (2 ^ j)) (by omega) (by omega) (by omega))) fun q hq=>ABs (AC1 (a:=AG8 q.2.1) rfl) fun s hs=>?_) fun e he=>?_
  ·subst hq;subst hs;dsimp only;refine AB7 (fun h=>ABn ?_) fun h=>ABn ?_
   ·have hnd: ¬ y ^ (2 ^ j) ∣ r:=fun h2=>h ((AQ1 _).2 (Int.emod_eq_zero_of_dvd h2));rw [if_neg hnd]
   ·have hdv:y ^ (2 ^ j) ∣ r:=Int.dvd_of_emod_eq_zero ((AQ1 _).1 (Classical.not_not.1 h));rw [if_pos hdv,wk (by omega),Nat.pow_succ];refine congrArg (fun z=>(true,r / y ^ (2 ^ j),z)) ?_;omega
  ·by_cases hdv:y ^ (2 ^ j) ∣ r
   ·rw [if_pos hdv] at he;subst he;dsimp only;refine AB7 (fun _=>?_) fun h=>absurd rfl h;obtain ⟨q,rfl⟩:=hdv;have Ah:0 < q:=Int.pos_of_mul_pos_right hr Ad;have hqm:y ^ (2 ^ j) * 1<=y ^ (2 ^ j) * q:=Int.mul_le_mul_of_nonneg_left (by omega) (by omega);have hB:10000 * 10000 < AFa:=by decide
    have m1:(y ^ (2 ^ j)).natAbs * (y ^ (2 ^ j)).natAbs<=10000 * 10000:=Nat.mul_le_mul (by omega) (by omega);refine ABs (AC1 (a:=y ^ (2 ^ j) * y ^ (2 ^ j)) (if_pos (by omega))) fun z hz=>AD8 (by omega) (ABn ⟨by omega,q,?_,Ah,?_⟩)
    ·subst hz;rw [Int.mul_ediv_cancel_left _ (by omega)];refine congrArg (fun l=>(l,q,((2 ^ (j + 1) - 1:Nat):Int))) ?_;have e1:y ^ (2 ^ j) * y ^ (2 ^ j)=y ^ (2 ^ (j + 1)):=by rw [<- Int.pow_add,Nat.pow_succ];congr 1;omega
     rw [e1];exact AOy (j + 1) fun i=>y ^ (2 ^ i)
    ·rw [hxr];have e1:y ^ (2 ^ (j + 1) - 1)=y ^ (2 ^ j) * y ^ (2 ^ j - 1):=by rw [<- Int.pow_add,Nat.pow_succ];congr 1;omega
     rw [e1];grind
   ·rw [if_neg hdv] at he;subst he;exact AB7 (fun h=>nomatch h) fun _=>ABn ⟨j,r,rfl,hr,hxr,hdv,by omega⟩
 ·obtain ⟨j,r,rfl,hr,hxr,hnd,Af⟩:=he;dsimp only
  have hY:∀ q,q < j->y ^ (2 ^ q)<=10000:=fun q hq=>by
    have h0:=Nat.pow_le_pow_right (show 0 < 2 by omega) (show q + 1<=j by omega)
    have h1:=Nat.one_le_two_pow (n:=q)
    rw [Nat.pow_succ] at h0
    have e1:y ^ (2 ^ j - 1)=y ^ (2 ^ q) * y ^ (2 ^ j - 1 - 2 ^ q):=by rw [<- Int.pow_add];congr 1;omega
    have h2:y ^ (2 ^ q) * 1<=y ^ (2 ^ q) * y ^ (2 ^ j - 1 - 2 ^ q):=Int.mul_le_mul_of_nonneg_left (pw _) (Int.le_of_lt (pw _))
    have h3:1 * y ^ (2 ^ j - 1)<=r * y ^ (2 ^ j - 1):=Int.mul_le_mul_of_nonneg_right (by omega) (Int.le_of_lt (pw _))
    omega
  have hl:(pwL y (j + 1)).length=j + 1:=ACy _ _;rw [hl,AFe (x:=((j + 1:Nat):Int) - 2) (by omega) (by omega)];refine ABs (AC3 (fun i s=> ∃ (r:Int) (k:Nat),s=((j:Int) - 1 - i,r,(k:Int))/\i<=j/\0 < r/\x=r * y ^ k/\¬ y ^ (2 ^ (j - i)) ∣ r) j (Q:=fun e=> ∃ (r:Int) (k:Nat),e=(r,(k:Int))/\x=r * y ^ k/\¬ y ∣ r) ⟨r,2 ^ j - 1,by refine congrArg (fun z=>(z,r,((2 ^ j - 1:Nat):Int))) ?_;omega,by omega,hr,hxr,by rw [Nat.sub_zero];exact hnd⟩ (by omega) fun i s hi hI=>?_) fun e he=>?_
  ·obtain ⟨r,k,rfl,hij,hr,hxr,hnd⟩:=hI;have Au:=AVt Ae hr hd hxr
   have hrx:r<=x:=by
     have h1:r * 1<=r * y ^ k:=Int.mul_le_mul_of_nonneg_left (pw _) (by omega)
     omega
   unfold ANs;dsimp only;refine AB7 (fun h=>?_) (fun h=>ABn ⟨r,k,rfl,hxr,?_⟩)
   ·obtain ⟨q,hq⟩:∃ q:Nat,(j:Int) - 1 - i=q:=⟨j - 1 - i,by omega⟩;rw [hq];have hqj:q < j + 1:=by omega
    have Aj:q<=3:=by omega
    have Av:1<=2 ^ q:=Nat.one_le_two_pow;have Aw:2 ^ q<=8:=by have:=Nat.pow_le_pow_right (show 0 < 2 by omega) Aj;omega
    have hyb:=hY q (by omega);have Ad:=pw (2 ^ q);have hsmall:y ^ (2 ^ q) ∣ r->y ^ (2 ^ q)<=r:=fun h=>Int.le_of_dvd hr h;refine ACj (n:=q) (ACk hqj) rfl (AD8 (by omega) ?_);rw [Int.toNat_natCast,show (1:Int) * 2 ^ q=((2 ^ q:Nat):Int) by simp,AFe (x:=((2 ^ q:Nat):Int)) (by omega) (by omega)];refine ABs (Q:=fun e:Bool × Int × Int=>if y ^ (2 ^ q) ∣ r then e=(true,r / y ^ (2 ^ q),((k + 2 ^ q:Nat):Int)) else e=(false,r,(k:Int))) (ABs (AC1 (Aob (fuel:=fuel) (a:=r) (b:=y ^ (2 ^ q)) (by omega) (by omega) (by omega))) fun t ht=>ABs (AC1 (a:=AG8 t.2.1) rfl) fun s hs=>?_) fun e he=>?_
    ·subst ht;subst hs;dsimp only;refine AB7 (fun h=>ABn ?_) fun h=>ABn ?_
     ·have hnd: ¬ y ^ (2 ^ q) ∣ r:=fun h2=>h ((AQ1 _).2 (Int.emod_eq_zero_of_dvd h2));rw [if_neg hnd]
     ·have hdv:y ^ (2 ^ q) ∣ r:=Int.dvd_of_emod_eq_zero ((AQ1 _).1 (Classical.not_not.1 h));rw [if_pos hdv,wk (by omega)];refine congrArg (fun z=>(true,r / y ^ (2 ^ q),z)) ?_;omega
    ·rw [AFe (x:=(q:Int) - 1) (by omega) (by omega)];by_cases hdv:y ^ (2 ^ q) ∣ r
     ·rw [if_pos hdv] at he;subst he;obtain ⟨w,rfl⟩:=hdv;have Ak:0 < w:=Int.pos_of_mul_pos_right hr Ad;refine ABn ⟨by omega,w,k + 2 ^ q,?_,by omega,Ak,?_,?_⟩
      ·rw [Int.mul_ediv_cancel_left _ (by omega)];refine congrArg (fun z=>(z,w,((k + 2 ^ q:Nat):Int))) ?_;omega
      ·rw [hxr,Int.pow_add];grind
      ·rw [show j - (i + 1)=q by omega];rintro ⟨u,rfl⟩;refine hnd ⟨u,?_⟩;rw [show j - i=q + 1 by omega,Nat.pow_succ,Nat.mul_two,Int.pow_add];grind
     ·rw [if_neg hdv] at he;subst he;refine ABn ⟨by omega,r,k,?_,by omega,hr,hxr,by rw [show j - (i + 1)=q by omega];exact hdv⟩;refine congrArg (fun z=>(z,r,(k:Int))) ?_;omega
   ·have:j - i=0:=by omega
    rw [this,Nat.pow_zero,Int.pow_one] at hnd;exact hnd
  ·obtain ⟨r,k,rfl,h1,h2⟩:=he;exact ABn ⟨k,r,rfl,h1,h2⟩
theorem Aaq {M:List (List Int)} (R:Aa5 M):M=tab M.length M.length (ent M):=AXs R.2.1
theorem Aoc {n:Nat} {A:Nat->Nat->Int} (hn:n<=8) (R:Aa4 n A):Afs (tab n n A):=Afq (B:=192000) (by decide) fun i j hi hj=>by have:=AXj hn R hi hj;omega
theorem Aar {M:List (List Int)} (R:Aa5 M):1<=det M.length (ent M)/\det M.length (ent M)<=10000:=⟨by have:=R.2.2.pos _ (Nat.le_refl _);omega,R.2.2.dt⟩
theorem Ai1 {M:List (List Int)} (R:Aa5 M) {i j:Nat} (hi:i < M.length) (hj:j < M.length):(ent M i j).natAbs<=192000:=by have:=AXj R.1.2 R.2.2 hi hj;omega
theorem Akm {fuel:Nat} {M:List (List Int)} (R:Aa5 M) (hf:100 < fuel):AJd fuel M=some (det M.length (ent M)):=by
 apply ok_eq;obtain ⟨v1,v2⟩:=Aar R;have hT:=Aaq R;have h1:=R.1;unfold AJd;generalize hF:ent M=F at *;generalize hL:M.length=n at *;have hb:∀ i j,i < n->j < n->(F i j).natAbs<=192000:=fun i j hi hj=>by subst hF;subst hL;exact Ai1 R hi hj
 rw [hT];refine ABs (AC1 (Ag7 h1.1 (by omega) (fun i j hi hj=>Nat.le_trans (hb i j hi hj) (by decide)) (by omega))) fun x hx=>?_;subst hx;refine ABs (AC1 (AXb h1.2 (fun i j hi hj=>Nat.le_trans (hb i j hi hj) (by decide)) (by omega))) fun y hy=>?_;subst hy;refine ABs (AC1 (a:=(det n F,true)) (if_pos (by omega))) fun z hz=>ABn ?_;rw [hz]
theorem Atm {d p v:Int} (Ab:1<=d) (hd:d<=10000) (hp:2<=p) (h:Afu d p v):0<=v/\v<=13:=by
 obtain ⟨k,r,rfl,h1,h2⟩:=h
 have hr:0 < r:=by
   have hpk:0 < p ^ k:=Int.pow_pos (by omega)
   rcases Int.lt_or_le 0 r with h | h
   · exact h
   · have:=Int.mul_nonpos_of_nonpos_of_nonneg h (Int.le_of_lt hpk);omega
 have:=AVt hp hr hd h1;omega
theorem Acd {fuel:Nat} {M:List (List Int)} {p:Int} (R:Aa5 M) (hp:Pr p) (hp2:p<=9973) (hf:100 < fuel):∃ v,Afu (det M.length (ent M)) p v/\(0<=v/\v<=13)/\AIk fuel M p=some (if p=2 then v + 3 else v + 1)/\AGj fuel M p=some (if p=2 then v + 3 else v + 1):=by
  obtain ⟨v1,v2⟩:=Aar R;obtain ⟨⟨v,r0,e0⟩,hv1,hv⟩:=Atl v1 v2 hp hp2 hf;dsimp only at hv;have hvb:=Atm v1 v2 hp.1 hv
  refine ⟨v,hv,hvb,?_,?_⟩
  · apply ok_eq;have hT:=Aaq R;have h1:=R.1;have RF:=R.2.2;unfold AIk;generalize hF:ent M=F at *
    generalize hL:M.length=n at *
    have hb:∀ i j,i < n->j < n->(F i j).natAbs<=192000:=fun i j hi hj=>by subst hF;subst hL;exact Ai1 R hi hj
    rw [hT];refine ABs (AC1 (Aqy h1.1 (by omega) (fun i j hi hj=>Nat.le_trans (hb i j hi hj) (by decide)) hf)) fun x hx=>?_;subst hx;dsimp only
    refine ABs (Q:=(· =(det n F,true))) ?_ fun y hy=>?_
    · unfold AQz;refine ABs (AC1 (Aft h1.1 (by omega) hf).2) fun x hx=>?_;subst hx;dsimp only;exact AB7 (fun h=>nomatch h) fun _=>AB7 (fun h=>absurd rfl h) fun _=>ABs (AC1 (Atj h1.1 h1.2 RF hf)) fun z hz=>ABn (by rw [hz])
    · subst hy;dsimp only;refine ABs (AC1 hv1) fun z hz=>?_;subst hz;dsimp only
      refine AB7 (fun h=>ABn ?_) fun h=>ABn ?_
      · rw [if_pos h,wk (by omega)]
      · rw [if_neg h,wk (by omega)]
  · apply ok_eq;unfold AGj;refine ABs (AC1 (Akm R hf)) fun d hd=>?_;subst hd;refine ABs (Atk v1 v2 hp.1 hp2 hf) fun w hw=>?_;obtain rfl:=Ai0 hp.1 hv hw
    refine AB7 (fun h=>ABn ?_) fun h=>ABn ?_
    · rw [if_pos h,wk (by omega)]
    · rw [if_neg h,wk (by omega)]
end Go.Proofs.YtdnbklmefmoofaaGreatDoor
namespace Go.Proofs.YtdnbklmefmoofaaGreatDoor
open Go Go.QF
set_option maxRecDepth 100000
set_option maxHeartbeats 4000000
def AMo (fuel:Nat) (a3:LiI) (Ab:Int):Option ((Int) ⊕ ((Bool) ⊕ (Unit))):=
  (if Ab < (a3.length:Int) then ((gI a3 Ab).bind fun Ac=>((gI a3 0).bind fun Ad=>(if ¬ (Ac.length:Int)=(Ad.length:Int) then (some (Sum.inr<| Sum.inl <| false)) else (some (Sum.inl (w64 (Ab + 1))))))) else (some (Sum.inr<| Sum.inr <| ())))
def AI6 (fuel:Nat) (a3:LiI):Option Bool:=
  (((if (a3.length:Int) < 1 then (some (Sum.inl <| false)) else (if 16 < (a3.length:Int) then (some (Sum.inl <| false)) else ((gI a3 0).bind fun Ab=>(if (Ab.length:Int) < 1 then (some (Sum.inl <| false)) else (if 16 < (Ab.length:Int) then (some (Sum.inl <| false)) else (some (Sum.inr <| ()))))))):Option ((Bool) ⊕ (Unit))).bind (fun ex=>match ex with | Sum.inl Ac=>(some Ac) | Sum.inr (_)=>((iter (fun s=>AMo fuel a3 s) fuel 0).bind (fun ex=>match ex with | Sum.inl Ad=>(some Ad) | Sum.inr (_)=>(some true)))))
theorem AOr {fuel:Nat} {h:ABu} {Aq:Value} {a3:LiI} {r:Bool} (H2:AEq (cI .i64) h Aq a3) (hp:AI6 fuel a3=some r):ACo Tryz.prog 94 #[Aq] h (fun x h'=>Ext h h'/\x= .bool r):=by
 unfold AI6 at hp;refine cwf (l:=[_]) Tryz.func94 rfl rfl (ABp (ABv ?_));have K0:=Kst.k0 h;obtain ⟨A4,Ar,Ac⟩:=ABq hp;refine AL7 134217700 (fun x:Unit=>[]) (fun x h'=>(Sum.inr <| ())=A4/\Kst h h' (K0.L)) ?_ ?_
 ·refine ABp (Wo (ADa ACd rfl H2 (ACu rfl rfl (Wo ?_))));by_cases Ah:(a3.length:Int) < 1
  ·rw [decide_eq_true Ah];refine AE3 8 true (AB5 rfl (Wo (AHn 13 true (AB5 rfl (Wo (AHn 20 true (AB5 rfl (ABt (ACh rfl (ABp (ABv ?_)))))))))));obtain rfl:=ABo (ifT Ar Ah);refine ABx (AB2 ?_);obtain rfl:=ABo Ac;exact ⟨_,ABz,K0.x,rfl⟩
  ·have Au:=ifF Ar Ah;rw [decide_eq_false Ah];refine AB4 8 false (Wo (AB4 8 false (ADa ACd rfl H2 (AB4 8 false (AGq rfl rfl (AB0 rfl (Wo ?_)))))));by_cases Ai:16 < (a3.length:Int)
   ·rw [decide_eq_true Ai];refine AHn 13 true (AB5 rfl (Wo (AHn 20 true (AB5 rfl (ABt (ACh rfl (ABp (ABv ?_))))))));obtain rfl:=ABo (ifT Au Ai);refine ABx (AB2 ?_);obtain rfl:=ABo Ac;exact ⟨_,ABz,K0.x,rfl⟩
   ·rw [decide_eq_false Ai];refine AB4 13 false (Wo (AB4 13 false ?_));obtain ⟨A5,Av,Aw⟩:=ABq (ifF Au Ai);refine AFj ACd rfl H2 rfl Av fun Br Bt Bu A6 A7=>AB4 13 false (AB3 AC0 rfl (AB1 A6 K0.x) (AB4 13 false (ADi ACp rfl A7 (AB4 13 false (ACu rfl rfl (AB0 rfl (Wo ?_)))))));by_cases Aj:(A5.length:Int) < 1
    ·rw [decide_eq_true Aj];refine AHn 20 true (AB5 rfl (ABt (ACh rfl (ABp (ABv ?_)))));obtain rfl:=ABo (ifT Aw Aj);refine ABx (AB2 ?_);obtain rfl:=ABo Ac;exact ⟨_,ABz,K0.x,rfl⟩
    ·have Ax:=ifF Aw Aj;rw [decide_eq_false Aj];refine AB4 20 false (Wo (AB4 20 false (AFj ACd rfl H2 rfl Av fun Bv Bw Bx A8 A9=>AB4 20 false (AB3 AC0 rfl (AB1 A8 K0.x) (AB4 20 false (ADi ACp rfl A9 (AB4 20 false (AGq rfl rfl (AB0 rfl (ABt (⟨_,rfl,fun Ak=>?_,fun Ak=>?_⟩)))))))))))
     ·refine ABp (ABv ?_);obtain rfl:=ABo (AC8 Ax Ak);refine ABx (AB2 ?_);obtain rfl:=ABo Ac;exact ⟨_,ABz,K0.x,rfl⟩
     ·refine ABy (q_t ?_);exact ⟨(():Unit),⟨ABo (AC9 Ax Ak),K0⟩,trivial⟩
 rintro ⟨⟩ By Bz ⟨Ba,Ay⟩;subst Ba;refine ABr (ABp (Wo (ADa ACd rfl H2 (Wo (ABt (ABw ?_))))));obtain ⟨Am,Bb,Az⟩:=ABq Ac;obtain ⟨Bc,Be,Bf⟩:=ACe Bb;refine ACq 2198486384660 (fun x:(Int)=>[(29,(.int .i64 x))]) (fun k x h'=>iter Bc k x=some Am/\Kst h h' (Ay.L)) (by kernel_rfl) fuel (0:(Int)) ?_ ⟨rfl,trivial⟩ ?_
 ·exact ⟨Bf,Ay⟩
 rintro B1 Bg B3 B4 ⟨Bh,Ad⟩;obtain ⟨Bi,B5,rfl,Ae,Af⟩:=AB8 Bh;rw [Be] at Ae;dsimp only at Ae;unfold AMo at Ae;refine ABp (ACu rfl rfl (ABt (ABr (⟨_,rfl,fun Ao=>?_,fun Ao=>?_⟩))))
 ·refine ABy (q_t (ABr (ABw (ABp ?_))));obtain ⟨B6,Bj,Bl⟩:=ABq (AC8 Ae Ao);refine AFj ACd rfl H2 rfl Bj fun B7 B8 B9 Bm Bn=>AB3 AC0 rfl (AB1 Bm Ad.x) (AC4 (Wo (ADi ACp rfl Bn (Wo ?_))));obtain ⟨Ca,Bo,A3⟩:=ABq Bl;refine AFj ACd rfl H2 rfl Bo fun Cb Cd Ce Bp Bq=>AB3 AC0 rfl (AB1 Bp Ad.x) (ADi ACp rfl Bq (AEt rfl rfl (ABt (⟨_,rfl,fun Ap=>?_,fun Ap=>?_⟩))))
  ·refine ABp (ABv ?_);obtain rfl:=ABo (AC8 A3 Ap);change _=Am at Af;subst Af;refine ABx (ADb (AB2 (AB2 (ADb (AB2 ?_)))));obtain rfl:=ABo Az;exact ⟨_,ABz,Ad.x,rfl⟩
  ·refine ABy (q_b (q_t (AB6 (ACx rfl rfl (Wo (ABt ?_))))));obtain rfl:=ABo (AC9 A3 Ap);exact ⟨Bi,((w64 (Bg + 1)):(Int)),Nat.lt_succ_self _,⟨Af,Ad⟩,rfl,trivial⟩
 ·obtain rfl:=ABo (AC9 Ae Ao);change _=Am at Af;subst Af;refine ACg (ACi (ACi (ADp (q_t (ABp (ABv (ABx ?_)))))));obtain rfl:=ABo Az;exact ⟨_,ABz,Ad.x,rfl⟩
def AM0 (fuel:Nat) (a3:LiI):Option Bool:=
  ((AI6 fuel a3).bind fun x5=>(if x5=true then ((gI a3 0).bind fun Ac=>(if (a3.length:Int)=(Ac.length:Int) then (some (decide ((a3.length:Int)<=8))) else (some false))) else (some false)))
theorem AWm {fuel:Nat} {h:ABu} {Ae:Value} {a3:LiI} {r:Bool} (H2:AEq (cI .i64) h Ae a3) (hp:AM0 fuel a3=some r):ACo Tryz.prog 90 #[Ae] h (fun x h'=>Ext h h'/\x= .bool r):=by
 unfold AM0 at hp;refine cwf (l:=[_]) Tryz.func90 rfl rfl (ABp (AC4 (Wo ?_)));have K0:=Kst.k0 h;obtain ⟨x5,Ak,Ag⟩:=ABq hp;refine ADc rfl (AOr (H2.ext K0.x) Ak) fun Av h9 E8 Ao=>?_;subst Ao;refine Wo ?_;have Ab:=K0.e E8;cases Ah:x5
 ·refine AHn 5 false (AKb 5 false (AB0 rfl (Wo (AE3 14 false (AB0 rfl (ABv (ABx ?_)))))));obtain rfl:=ABo (AHo Ag Ah);exact ⟨_,ABz,Ab.x,rfl⟩
 ·refine AB4 5 true (Wo (AB4 5 true (ADa ACd rfl H2 (AB4 5 true (Wo (AB4 5 true ?_))))));obtain ⟨Ap,Aq,Ai⟩:=ABq (ifT Ag Ah);refine AFj ACd rfl H2 rfl Aq fun Ax Ay Az Ar Au=>AB4 5 true (AB3 AC0 rfl (AB1 Ar Ab.x) (AB4 5 true (ADi ACp rfl Au (AB4 5 true (AEf rfl rfl (AB5 rfl (Wo ?_)))))));by_cases Ac:(a3.length:Int)=(Ap.length:Int)
  ·rw [decide_eq_true Ac];refine AB4 14 true (Wo (AB4 14 true (ADa ACd rfl H2 (AB4 14 true (AWe rfl rfl (AB5 rfl (ABv (ABx ?_))))))));obtain rfl:=ABo (ifT Ai Ac);exact ⟨_,ABz,Ab.x,rfl⟩
  ·rw [decide_eq_false Ac];refine AE3 14 false (AB0 rfl (ABv (ABx ?_)));obtain rfl:=ABo (ifF Ai Ac);exact ⟨_,ABz,Ab.x,rfl⟩
def AEs (fuel:Nat) (a1:Int):Option Int:=
  (if a1 < 2 then (some 1) else (if 2147483647 < a1 then (some 1) else (some 0)))
theorem AN9 {fuel:Nat} {h:ABu} {a1 r:Int} (hp:AEs fuel a1=some r):ACo Tryz.prog 91 #[(.int .i64 a1)] h (fun x h'=>Ext h h'/\x= .int .i64 r):=by
 unfold AEs at hp;refine cwf (l:=[_]) Tryz.func91 rfl rfl (ABp (ABv (ABr (ABp (Wo (ACu rfl rfl (Wo ?_)))))));have K0:=Kst.k0 h;by_cases Aa:a1 < 2
 ·rw [decide_eq_true Aa];refine AKb 5 true (AB5 rfl (ABt (ACh rfl (ABp (ABv (ABx (AB2 ?_)))))));obtain rfl:=ABo (ifT hp Aa);exact ⟨_,ABz,K0.x,rfl⟩
 ·have Ae:=ifF hp Aa;rw [decide_eq_false Aa];refine AB4 5 false (Wo (AB4 5 false (AGq rfl rfl (AB0 rfl (ABt (⟨_,rfl,fun Ad=>?_,fun Ad=>?_⟩))))))
  ·refine ABp (ABv (ABx (AB2 ?_)));obtain rfl:=ABo (AC8 Ae Ad);exact ⟨_,ABz,K0.x,rfl⟩
  ·refine ABy (q_t (ABp (ABv (ABx ?_))));obtain rfl:=ABo (AC9 Ae Ad);exact ⟨_,ABz,K0.x,rfl⟩
def AJ8 (fuel:Nat) (a5 Ad:Int) (Ae:LiA) (Ab:Int) (Ac:LiI):Option ((Int × LiI) ⊕ ((LiI))):=
  (if Ab < (Ae.length:Int) then ((gI Ae Ab).bind fun Ag=>((gI Ac Ad).bind fun Af=>(if a5≠0 then (if a5≠0 then ((gI Af Ab).bind fun Ah=>(some (Sum.inl ((w64 (Ab + 1)),(sI Ac Ad (sI Af Ab (Int.tmod (w64 ((Int.tmod Ag a5) + a5)) a5))))))) else none) else none))) else (some (Sum.inr<| Ac)))
def AJ9 (fuel:Nat) (a3:LiI) (a5 Aa:Int) (Ac:LiI):Option ((Int × LiI) ⊕ ((LiI))):=
  (if Aa < (a3.length:Int) then ((gI a3 Aa).bind fun Ab=>(if 0<=(Ab.length:Int)/\(Ab.length:Int)<=100000000 then ((gI Ac Aa).bind fun Ag=>((iter (fun s=>AJ8 fuel a5 Aa Ab s.1 s.2) fuel (0,(sI Ac Aa (List.replicate (Int.toNat (Ab.length:Int)) (0:Int))))).bind (fun (Af:LiI)=>(some (Sum.inl ((w64 (Aa + 1)),Af)))))) else none)) else (some (Sum.inr<| Ac)))
def AHd (fuel:Nat) (a3:LiI) (a5:Int):Option LiI:=
  (if 0<=(a3.length:Int)/\(a3.length:Int)<=100000000 then ((iter (fun s=>AJ9 fuel a3 a5 s.1 s.2) fuel (0,(List.replicate (Int.toNat (a3.length:Int)) ([]:List Int)))).bind (fun (Ac:LiI)=>(some Ac))) else none)
theorem AM8 {fuel:Nat} {h:ABu} {Au:Value} {a3:LiI} {a5:Int} {r:LiI} (H2:AEq (cI .i64) h Au a3) (hp:AHd fuel a3 a5=some r):ACo Tryz.prog 92 #[Au,(.int .i64 a5)] h (fun x h'=>Ext h h'/\ ∃ (x0:Value) (F0:List Nat) (Bf:List LnA) (Bg:List Value),x=x0/\AFi (cI .i64) 35 2 h' F0 Bf Bg x0 r/\Sp h' h.size [F0]):=by
 unfold AHd at hp;refine cwf (l:=[_,_]) Tryz.func92 rfl rfl (ABp (AC4 (Wo (ADa ACd rfl H2 ?_))));obtain ⟨Bh,Bi⟩:=ifN hp;refine ARf (cI .i64) 2 ACd ANi rfl trivial tt2 rfl rfl (by decide) Bh fun Bj Bl Bm Ax C9 Bn E8 S9=>ABv (ABr (ABp (Wo (ADa ACd rfl H2 (Wo (ABt (ABw ?_)))))));have Ay:=(Kst.k0 h).no2 E8 S9 Bn;obtain ⟨Az,Bq,Br⟩:=ABq Bi;obtain ⟨Bt,Bu,Bv⟩:=ACe Bq;refine ACq 281474976678848 (fun x:(Int) × (LiI) × LnA × LnN × LvA=>[(15,(.int .i64 x.1))]) (fun k x h'=>iter Bt k (x.1,x.2.1)=some Az/\Kst h h' (Ay.L.set 0 (aO2 (cI .i64) 35 2 x.2.2.1 x.2.2.2.1 x.2.2.2.2 Ax x.2.1))) (by kernel_rfl) fuel ((0,(List.replicate (Int.toNat (a3.length:Int)) ([]:List Int)),Bj,Bl,Bm):(Int) × (LiI) × LnA × LnN × LvA) ?_ ⟨rfl,trivial⟩ ?_
 ·exact ⟨Bv,Ay⟩
 rintro Da ⟨Ab,Bw,Db,A3,Bx⟩ Dc Dd ⟨By,Ad⟩;obtain ⟨Bz,De,rfl,Ae,Aj⟩:=AB8 By;rw [Bu] at Ae;dsimp only at Ae;unfold AJ9 at Ae;refine ABp (ACu rfl rfl (ABt (ABr (⟨_,rfl,fun Ak=>?_,fun Ak=>?_⟩))))
 ·refine ABy (q_t (ABr (ABw (ABp (Wo ?_)))));obtain ⟨B1,B3,B4⟩:=ABq (AC8 Ae Ak);refine AFj ACd rfl H2 rfl B3 fun Df Dg Dh B5 Am=>AB3 AC0 rfl (AB1 B5 Ad.x) (ACr (AC4 (Wo (Wo (Wo (ADi ACp rfl Am ?_))))));obtain ⟨B6,B7⟩:=ifN B4;refine AQj (c:=(cI .i64)) (a:=0) ACp AL9 rfl rfl (fun _=>rfl) rfl trivial tt2 rfl rfl (by decide) B6 fun A4 B8 Di B9 Ca Cb Cd=>?_;have Af:=Ad.no Ca (AH8 Cb Cd) B9;obtain ⟨Dj,A5,Ce⟩:=ABq B7;refine ADf ACd rfl (Af.o2 p1) rfl A5 fun Cf Dk Cg Dl Dn=>ASe AC0 (Af.o2 p1) A5 Cg rfl rfl (Af.o p0) (Af.dj p0 p1 (by decide)) fun Do Ch Ci Cj=>AK4 (Wo (ADi ACp rfl Am (Wo (ABt (ABw ?_)))));obtain ⟨A6,Ck,Cm⟩:=ABq Ce;obtain ⟨Cn,Co,Cp⟩:=ACe Ck;have Ao:=(Af.m2 p0 p1 (by decide) Ci Ch (fun z hz=> .inl (Cj z hz))).sel [1] (by decide);dsimp only [AIq,ALo] at Ao;refine ACq 140737219920640 (fun x:(Int) × (LiI) × LnA × LnN × LvA=>[(28,(.int .i64 x.1))]) (fun k x h'=>iter Cn k (x.1,x.2.1)=some A6/\Kst h h' (Ao.L.set 0 (aO2 (cI .i64) 35 2 x.2.2.1 x.2.2.2.1 x.2.2.2.2 Ax x.2.1))) (by kernel_rfl) fuel ((0,(sI Bw Ab (List.replicate (Int.toNat (B1.length:Int)) (0:Int))),(Cf :: (A3.set (Int.toNat Ab) [A4]).flatten),(A3.set (Int.toNat Ab) [A4]),(Bx.set (Int.toNat Ab) B8)):(Int) × (LiI) × LnA × LnN × LvA) ?_ ⟨rfl,trivial⟩ ?_
  ·exact ⟨Cp,Ao⟩
  rintro Dp ⟨A7,A8,A9,Ba,Bb⟩ Dq Dr ⟨Cq,Ac⟩;obtain ⟨Cr,Ds,rfl,Ag,Ap⟩:=AB8 Cq;rw [Co] at Ag;dsimp only at Ag;unfold AJ8 at Ag;refine ABp (ACu rfl rfl (ABt (ABr (⟨_,rfl,fun Aq=>?_,fun Aq=>?_⟩))))
  ·refine ABy (q_t (ABr (ABw (ABp (Wo ?_)))));obtain ⟨Bc,Ct,Cu⟩:=ABq (AC8 Ag Aq);refine AHg (c:=(cI .i64)) ACp rfl Am rfl Ct fun Dt Du Dv Cv Cw=>?_;obtain rfl:=Cv;refine AB3 ACw rfl (AB1 (Cw 0 _ rfl) Ac.x) (ACr (ABv (AI7 (Wo (Wo ?_)))));obtain ⟨Cx,Ar,Cy⟩:=ABq Cu;refine ADf ACd rfl (Ac.o2 p0) rfl Ar fun Dw Dx Dy Cz C0=>AB3 AC0 rfl C0 (Wo (Wo (Wo ?_)));obtain ⟨C1,C2⟩:=ifN Cy;refine ALf rfl rfl C1 (Wo (ACx rfl rfl (Wo ?_)));obtain ⟨C3,C4⟩:=ifN C2;refine ALf rfl rfl C3 ?_;obtain ⟨Dz,Be,C5⟩:=ABq C4;refine AD0 (m:=Ab) ACp rfl (Ac.o2 p0) Cz Ar rfl Be fun D0 C6=>AGz (m:=Ab) (AFv ACw rfl rfl rfl) (Ac.o2 p0) C6 Ar Be (show ((cI .i64)).rep _ (Int.tmod (w64 ((Int.tmod Bc a5) + a5)) a5) _ from rfl) fun D1 C7 C8=>ACs (q_b (q_t (AB6 (ACx rfl rfl (Wo (ABt ?_))))));obtain rfl:=ABo C5;exact ⟨Cr,(((w64 (A7 + 1)),(sI A8 Ab (sI Cx A7 (Int.tmod (w64 ((Int.tmod Bc a5) + a5)) a5))),A9,Ba,Bb):(Int) × (LiI) × LnA × LnN × LvA),Nat.lt_succ_self _,⟨Ap,(Ac.uO2 p0 C8 C7)⟩,rfl,trivial⟩
  ·obtain rfl:=ABo (AC9 Ag Aq);change _=A6 at Ap;subst Ap;refine ACg (ACi (ACi (ADp (q_b (q_t (AB6 (ACx rfl rfl (Wo (ABt ?_)))))))));obtain rfl:=ABo Cm;exact ⟨Bz,(((w64 (Ab + 1)),A8,A9,Ba,Bb):(Int) × (LiI) × LnA × LnN × LvA),Nat.lt_succ_self _,⟨Aj,Ac⟩,rfl,trivial⟩
 ·obtain rfl:=ABo (AC9 Ae Ak);change _=Az at Aj;subst Aj;refine ACg (ACi (ACi (ADp (q_t (ABp (Wo (ABv (ABx ?_))))))));obtain rfl:=ABo Br;exact ⟨_,ABz,Ad.x,_,_,_,_,rfl,(Ad.o2 p0),Ad.s.sel [0] (by decide)⟩
def AJr (fuel:Nat) (a3:LiI) (Ab Aa:Int) (Ac:LiI):Option ((Int × LiI) ⊕ ((LiI))):=
  (if Aa < (a3.length:Int) then ((gI a3 Aa).bind fun Af=>((gI Ac Ab).bind fun Ae=>((gI Af Ab).bind fun Ag=>((gI Ae Aa).bind fun Ah=>(some (Sum.inl ((w64 (Aa + 1)),(sI Ac Ab (sI Ae Aa Ag))))))))) else (some (Sum.inr<| Ac)))
def AJs (fuel:Nat) (a3:LiI) (x5:LiA) (Aa:Int) (Ac:LiI):Option ((Int × LiI) ⊕ ((LiI))):=
  (if Aa < ((List.replicate (Int.toNat (x5.length:Int)) ([]:List Int)).length:Int) then (if 0<=(a3.length:Int)/\(a3.length:Int)<=100000000 then ((gI Ac Aa).bind fun Af=>((iter (fun s=>AJr fuel a3 Aa s.1 s.2) fuel (0,(sI Ac Aa (List.replicate (Int.toNat (a3.length:Int)) (0:Int))))).bind (fun (Ae:LiI)=>(some (Sum.inl ((w64 (Aa + 1)),Ae)))))) else none) else (some (Sum.inr<| Ac)))
def AJf (fuel:Nat) (a3:LiI):Option LiI:=
  ((gI a3 0).bind fun x5=>(if 0<=(x5.length:Int)/\(x5.length:Int)<=100000000 then ((iter (fun s=>AJs fuel a3 x5 s.1 s.2) fuel (0,(List.replicate (Int.toNat (x5.length:Int)) ([]:List Int)))).bind (fun (Ac:LiI)=>(some Ac))) else none))
theorem AUa {fuel:Nat} {h:ABu} {Ar:Value} {a3 r:LiI} (H2:AEq (cI .i64) h Ar a3) (hp:AJf fuel a3=some r):ACo Tryz.prog 96 #[Ar] h (fun x h'=>Ext h h'/\ ∃ (x0:Value) (F0:List Nat) (Bc:List LnA) (Be:List Value),x=x0/\AFi (cI .i64) 35 2 h' F0 Bc Be x0 r/\Sp h' h.size [F0]):=by
 unfold AJf at hp;refine cwf (l:=[_]) Tryz.func96 rfl rfl (ABp (AC4 (Wo ?_)));have K0:=Kst.k0 h;obtain ⟨x5,Bg,Bh⟩:=ABq hp;refine AFj ACd rfl H2 rfl Bg fun b8 o9 Da Bi Bj=>AB3 AC0 rfl (AB1 Bi K0.x) (ADi ACp rfl Bj ?_);obtain ⟨Bl,Bm⟩:=ifN Bh;refine ARf (cI .i64) 2 ACd ANi rfl trivial tt2 rfl rfl (by decide) Bl fun Bn Bo Bp v20 Db Bq Br Bt=>ABv (ABr (ABp (Wo ?_)));have Ai:=K0.no2 Br Bt Bq;refine ADa ACd rfl (Ai.o2 p0).rd (Wo (ABt (ABw ?_)));obtain ⟨Ax,Bu,Bv⟩:=ABq Bm;obtain ⟨Bw,Bx,By⟩:=ACe Bu;refine ACq 4398046494832 (fun x:(Int) × (LiI) × LnA × LnN × LvA=>[(14,(.int .i64 x.1))]) (fun k x h'=>iter Bw k (x.1,x.2.1)=some Ax/\Kst h h' (Ai.L.set 0 (aO2 (cI .i64) 35 2 x.2.2.1 x.2.2.2.1 x.2.2.2.2 v20 x.2.1))) (by kernel_rfl) fuel ((0,(List.replicate (Int.toNat (x5.length:Int)) ([]:List Int)),Bn,Bo,Bp):(Int) × (LiI) × LnA × LnN × LvA) ?_ ⟨rfl,trivial⟩ ?_
 ·exact ⟨By,Ai⟩
 rintro Dc ⟨Aa,Bz,Dd,Ay,B1⟩ De Df ⟨B3,Ag⟩;obtain ⟨B4,Dg,rfl,Ac,Aj⟩:=AB8 B3;rw [Bx] at Ac;dsimp only at Ac;unfold AJs at Ac;refine ABp (ACu rfl rfl (ABt (ABr (⟨_,rfl,fun Ak=>?_,fun Ak=>?_⟩))))
 ·refine ABy (q_t (ABr (ABw (ABp (Wo (AC4 (Wo (Wo (Wo (ADa ACd rfl H2 ?_))))))))));obtain ⟨B5,B6⟩:=ifN (AC8 Ac Ak);refine AQj (c:=(cI .i64)) (a:=0) ACp AL9 rfl rfl (fun _=>rfl) rfl trivial tt2 rfl rfl (by decide) B5 fun Az B7 Dh B8 B9 Ca Cb=>?_;have Ad:=Ag.no B9 (AH8 Ca Cb) B8;obtain ⟨Di,A3,Cd⟩:=ABq B6;refine ADf ACd rfl (Ad.o2 p1) rfl A3 fun Ce Dj Cf Dk Dl=>ASe AC0 (Ad.o2 p1) A3 Cf rfl rfl (Ad.o p0) (Ad.dj p0 p1 (by decide)) fun Dn Cg Ch Ci=>AK4 (Wo (ADa ACd rfl H2 (Wo (ABt (ABw ?_)))));obtain ⟨A4,Cj,Ck⟩:=ABq Cd;obtain ⟨Cm,Cn,Co⟩:=ACe Cj;have Am:=(Ad.m2 p0 p1 (by decide) Ch Cg (fun z hz=> .inl (Ci z hz))).sel [1] (by decide);dsimp only [AIq,ALo] at Am;refine ACq 2198989701216 (fun x:(Int) × (LiI) × LnA × LnN × LvA=>[(25,(.int .i64 x.1))]) (fun k x h'=>iter Cm k (x.1,x.2.1)=some A4/\Kst h h' (Am.L.set 0 (aO2 (cI .i64) 35 2 x.2.2.1 x.2.2.2.1 x.2.2.2.2 v20 x.2.1))) (by kernel_rfl) fuel ((0,(sI Bz Aa (List.replicate (Int.toNat (a3.length:Int)) (0:Int))),(Ce :: (Ay.set (Int.toNat Aa) [Az]).flatten),(Ay.set (Int.toNat Aa) [Az]),(B1.set (Int.toNat Aa) B7)):(Int) × (LiI) × LnA × LnN × LvA) ?_ ⟨rfl,trivial⟩ ?_
  ·exact ⟨Co,Am⟩
  rintro Do ⟨A5,A6,A7,A8,A9⟩ Dp Dq ⟨Cp,Ab⟩;obtain ⟨Cq,Dr,rfl,Ae,Ao⟩:=AB8 Cp;rw [Cn] at Ae;dsimp only at Ae;unfold AJr at Ae;refine ABp (ACu rfl rfl (ABt (ABr (⟨_,rfl,fun Ap=>?_,fun Ap=>?_⟩))))
  ·refine ABy (q_t (ABr (ABw (ABp (Wo ?_)))));obtain ⟨Ds,Cr,Ct⟩:=ABq (AC8 Ae Ap);refine AFj ACd rfl H2 rfl Cr fun Dt Du Dv Cu Cv=>AB3 AC0 rfl (AB1 Cu Ab.x) (ACr (ABv (AI7 (Wo (Wo ?_)))));obtain ⟨Cw,Aq,Cx⟩:=ABq Ct;refine ADf ACd rfl (Ab.o2 p0) rfl Aq fun Dw Dx Dy Cy Cz=>AB3 AC0 rfl Cz (Wo (Wo (Wo ?_)));obtain ⟨Ba,C0,C1⟩:=ABq Cx;refine AHg (c:=(cI .i64)) ACp rfl Cv rfl C0 fun Dz D0 D1 C2 C3=>?_;obtain rfl:=C2;refine AB3 ACw rfl (AB1 (C3 0 _ rfl) Ab.x) ?_;obtain ⟨D2,Bb,C4⟩:=ABq C1;refine AD0 (m:=Aa) ACp rfl (Ab.o2 p0) Cy Aq rfl Bb fun D3 C5=>AGz (m:=Aa) (AFv ACw rfl rfl rfl) (Ab.o2 p0) C5 Aq Bb (show ((cI .i64)).rep _ Ba _ from rfl) fun D4 C6 C7=>ACs (q_b (q_t (AB6 (ACx rfl rfl (Wo (ABt ?_))))));obtain rfl:=ABo C4;exact ⟨Cq,(((w64 (A5 + 1)),(sI A6 Aa (sI Cw A5 Ba)),A7,A8,A9):(Int) × (LiI) × LnA × LnN × LvA),Nat.lt_succ_self _,⟨Ao,(Ab.uO2 p0 C7 C6)⟩,rfl,trivial⟩
  ·obtain rfl:=ABo (AC9 Ae Ap);change _=A4 at Ao;subst Ao;refine ACg (ACi (ACi (ADp (q_b (q_t (AB6 (ACx rfl rfl (Wo (ABt ?_)))))))));obtain rfl:=ABo Ck;exact ⟨B4,(((w64 (Aa + 1)),A6,A7,A8,A9):(Int) × (LiI) × LnA × LnN × LvA),Nat.lt_succ_self _,⟨Aj,Ab⟩,rfl,trivial⟩
 ·obtain rfl:=ABo (AC9 Ac Ak);change _=Ax at Aj;subst Aj;refine ACg (ACi (ACi (ADp (q_t (ABp (Wo (ABv (ABx ?_))))))));obtain rfl:=ABo Bv;exact ⟨_,ABz,Ag.x,_,_,_,_,rfl,(Ag.o2 p0),Ag.s.sel [0] (by decide)⟩
def AKz (fuel:Nat) (a9 Ad Ag:Int) (Ae:LiA) (Aa:Int) (Ab:LiI):Option ((Int × LiI) ⊕ ((LiI))):=
  (if Aa < (Ae.length:Int) then ((gI Ae Aa).bind fun Ah=>((gI Ab Ad).bind fun Af=>((gI Af Aa).bind fun Ai=>(if a9≠0 then (some (Sum.inl ((w64 (Aa + 1)),(sI Ab Ad (sI Af Aa (Int.tmod (w64 (Ai + (w64 (Ag * Ah)))) a9)))))) else none)))) else (some (Sum.inr<| Ab)))
def AK0 (fuel:Nat) (a7:LiI) (a9 Af:Int) (Ab:LiA) (Aa:Int) (Ac:LiI):Option ((Int × LiI) ⊕ ((LiI))):=
  (if Aa < (Ab.length:Int) then ((gI Ab Aa).bind fun Ag=>((gI a7 Aa).bind fun Ah=>((iter (fun s=>AKz fuel a9 Af Ag Ah s.1 s.2) fuel (0,Ac)).bind (fun (Ai:LiI)=>(some (Sum.inl ((w64 (Aa + 1)),Ai))))))) else (some (Sum.inr<| Ac)))
def AK1 (fuel:Nat) (a3 a7:LiI) (a9 Aa:Int) (Ab:LiI):Option ((Int × LiI) ⊕ ((LiI))):=
  (if Aa < (a3.length:Int) then ((gI a3 Aa).bind fun Ag=>((gI a7 0).bind fun Ac=>(if 0<=(Ac.length:Int)/\(Ac.length:Int)<=100000000 then ((gI Ab Aa).bind fun Ai=>((iter (fun s=>AK0 fuel a7 a9 Aa Ag s.1 s.2) fuel (0,(sI Ab Aa (List.replicate (Int.toNat (Ac.length:Int)) (0:Int))))).bind (fun (Ah:LiI)=>(some (Sum.inl ((w64 (Aa + 1)),Ah)))))) else none))) else (some (Sum.inr<| Ab)))
def AIz (fuel:Nat) (a3 a7:LiI) (a9:Int):Option LiI:=
  (if 0<=(a3.length:Int)/\(a3.length:Int)<=100000000 then ((iter (fun s=>AK1 fuel a3 a7 a9 s.1 s.2) fuel (0,(List.replicate (Int.toNat (a3.length:Int)) ([]:List Int)))).bind (fun (Ad:LiI)=>(some Ad))) else none)
theorem AQd {fuel:Nat} {h:ABu} {Az:Value} {a3:LiI} {A3:Value} {a7:LiI} {a9:Int} {r:LiI} (H2:AEq (cI .i64) h Az a3) (H6:AEq (cI .i64) h A3 a7) (hp:AIz fuel a3 a7 a9=some r):ACo Tryz.prog 95 #[Az,A3,(.int .i64 a9)] h (fun x h'=>Ext h h'/\ ∃ (x0:Value) (F0:List Nat) (Bw:List LnA) (Bx:List Value),x=x0/\AFi (cI .i64) 35 2 h' F0 Bw Bx x0 r/\Sp h' h.size [F0]):=by
 unfold AIz at hp;refine cwf (l:=[_,_,_]) Tryz.func95 rfl rfl (ABp (AC4 (Wo (ADa ACd rfl H2 ?_))));obtain ⟨By,Bz⟩:=ifN hp;refine ARf (cI .i64) 2 ACd ANi rfl trivial tt2 rfl rfl (by decide) By fun B1 B3 B4 Ap Eb B5 B6 B7=>ABv (ABr (ABp (Wo (ADa ACd rfl H2 (Wo (ABt (ABw ?_)))))));have A8:=(Kst.k0 h).no2 B6 B7 B5;obtain ⟨A9,B8,B9⟩:=ABq Bz;obtain ⟨Ca,Cb,Cd⟩:=ACe B8;refine ACq 2361183241434822098688 (fun x:(Int) × (LiI) × LnA × LnN × LvA=>[(19,(.int .i64 x.1))]) (fun k x h'=>iter Ca k (x.1,x.2.1)=some A9/\Kst h h' (A8.L.set 0 (aO2 (cI .i64) 35 2 x.2.2.1 x.2.2.2.1 x.2.2.2.2 Ap x.2.1))) (by kernel_rfl) fuel ((0,(List.replicate (Int.toNat (a3.length:Int)) ([]:List Int)),B1,B3,B4):(Int) × (LiI) × LnA × LnN × LvA) ?_ ⟨rfl,trivial⟩ ?_
 ·exact ⟨Cd,A8⟩
 rintro Ec ⟨Aa,Ce,Ed,Ba,Cf⟩ Ee Ef ⟨Cg,Ac⟩;obtain ⟨Ch,Eg,rfl,Ae,Aq⟩:=AB8 Cg;rw [Cb] at Ae;dsimp only at Ae;unfold AK1 at Ae;refine ABp (ACu rfl rfl (ABt (ABr (⟨_,rfl,fun Ar=>?_,fun Ar=>?_⟩))))
 ·refine ABy (q_t (ABr (ABw (ABp (Wo ?_)))));obtain ⟨Eh,Ci,Cj⟩:=ABq (AC8 Ae Ar);refine AFj ACd rfl H2 rfl Ci fun Ei Ej Ek Ck Bb=>AB3 AC0 rfl (AB1 Ck Ac.x) (ACr (AC4 (Wo (Wo (Wo ?_)))));obtain ⟨Cm,Cn,Co⟩:=ABq Cj;refine AFj ACd rfl H6 rfl Cn fun El Em En Cp Cq=>AB3 AC0 rfl (AB1 Cp Ac.x) (ADi ACp rfl Cq ?_);obtain ⟨Cr,Ct⟩:=ifN Co;refine AQj (c:=(cI .i64)) (a:=0) ACp AL9 rfl rfl (fun _=>rfl) rfl trivial tt2 rfl rfl (by decide) Cr fun Bc Cu Eo Cv Cw Cx Cy=>?_;have Af:=Ac.no Cw (AH8 Cx Cy) Cv;obtain ⟨Ep,Be,Cz⟩:=ABq Ct;refine ADf ACd rfl (Af.o2 p1) rfl Be fun C0 Er C1 Es Et=>ASe AC0 (Af.o2 p1) Be C1 rfl rfl (Af.o p0) (Af.dj p0 p1 (by decide)) fun Eu C2 C3 C4=>AK4 (Wo (ADi ACp rfl Bb (Wo (ABt (ABw ?_)))));obtain ⟨Bf,C5,C6⟩:=ABq Cz;obtain ⟨C7,C8,C9⟩:=ACe C5;have Au:=(Af.m2 p0 p1 (by decide) C3 C2 (fun z hz=> .inl (C4 z hz))).sel [1] (by decide);dsimp only [AIq,ALo] at Au;refine ACq 1180591620700231449600 (fun x:(Int) × (LiI) × LnA × LnN × LvA=>[(34,(.int .i64 x.1))]) (fun k x h'=>iter C7 k (x.1,x.2.1)=some Bf/\Kst h h' (Au.L.set 0 (aO2 (cI .i64) 35 2 x.2.2.1 x.2.2.2.1 x.2.2.2.2 Ap x.2.1))) (by kernel_rfl) fuel ((0,(sI Ce Aa (List.replicate (Int.toNat (Cm.length:Int)) (0:Int))),(C0 :: (Ba.set (Int.toNat Aa) [Bc]).flatten),(Ba.set (Int.toNat Aa) [Bc]),(Cf.set (Int.toNat Aa) Cu)):(Int) × (LiI) × LnA × LnN × LvA) ?_ ⟨rfl,trivial⟩ ?_
  ·exact ⟨C9,Au⟩
  rintro Ev ⟨Da,Bg,Bh,Bi,Bj⟩ Ew Ey ⟨Db,Ag⟩;obtain ⟨Dc,Ez,rfl,Ah,Av⟩:=AB8 Db;rw [C8] at Ah;dsimp only at Ah;unfold AK0 at Ah;refine ABp (ACu rfl rfl (ABt (ABr (⟨_,rfl,fun Aw=>?_,fun Aw=>?_⟩))))
  ·refine ABy (q_t (ABr (ABw (ABp (Wo ?_)))));obtain ⟨Bl,Dd,De⟩:=ABq (AC8 Ah Aw);refine AHg (c:=(cI .i64)) ACp rfl Bb rfl Dd fun Fa Fb Fc Df Dg=>?_;obtain rfl:=Df;refine AB3 ACw rfl (AB1 (Dg 0 _ rfl) Ag.x) (ACr (AC4 (Wo (Wo ?_))));obtain ⟨Fd,Dh,Di⟩:=ABq De;refine AFj ACd rfl H6 rfl Dh fun Fe Ff Fg Dj Bm=>AB3 AC0 rfl (AB1 Dj Ag.x) (ADi ACp rfl Bm (Wo (ABt (ABw ?_))));obtain ⟨Bn,Dk,Dl⟩:=ABq Di;obtain ⟨Dn,Do,Dp⟩:=ACe Dk;refine ACq 590295792766519619584 (fun x:(Int) × (LiI) × LnA × LnN × LvA=>[(44,(.int .i64 x.1))]) (fun k x h'=>iter Dn k (x.1,x.2.1)=some Bn/\Kst h h' (Ag.L.set 0 (aO2 (cI .i64) 35 2 x.2.2.1 x.2.2.2.1 x.2.2.2.2 Ap x.2.1))) (by kernel_rfl) fuel ((0,Bg,Bh,Bi,Bj):(Int) × (LiI) × LnA × LnN × LvA) ?_ ⟨rfl,trivial⟩ ?_
   ·exact ⟨Dp,Ag⟩
   rintro Fh ⟨Bo,Bp,Bq,Br,Bt⟩ Fi Fj ⟨Dq,Ab⟩;obtain ⟨Dr,Fk,rfl,Ai,Ax⟩:=AB8 Dq;rw [Do] at Ai;dsimp only at Ai;unfold AKz at Ai;refine ABp (ACu rfl rfl (ABt (ABr (⟨_,rfl,fun Ay=>?_,fun Ay=>?_⟩))))
   ·refine ABy (q_t (ABr (ABw (ABp (Wo ?_)))));obtain ⟨Bu,Ds,Dt⟩:=ABq (AC8 Ai Ay);refine AHg (c:=(cI .i64)) ACp rfl Bm rfl Ds fun Fl Fm Fo Du Dv=>?_;obtain rfl:=Du;refine AB3 ACw rfl (AB1 (Dv 0 _ rfl) Ab.x) (ACr (ABv (AI7 (Wo (Wo ?_)))));obtain ⟨Dw,Ad,Dx⟩:=ABq Dt;refine ADf ACd rfl (Ab.o2 p0) rfl Ad fun Fp Fq Fr Dy Dz=>AB3 AC0 rfl Dz (Wo (Wo (Wo (ADf ACd rfl (Ab.o2 p0) rfl Ad fun Ft Fu Fv D0 D1=>AB3 AC0 rfl D1 (Wo ?_)))));obtain ⟨Bv,Ak,D2⟩:=ABq Dx;refine AD0 (m:=Aa) ACp rfl (Ab.o2 p0) D0 Ad rfl Ak fun Fw D3=>?_;obtain ⟨Fx,D4,D5⟩:=(Ab.o2 p0).cells D3 Ad Ak;obtain rfl:=D4;refine AB3 ACw rfl (D5 0 _ rfl) (Wo (Wo (AR7 rfl rfl (ACx rfl rfl (Wo ?_)))));obtain ⟨D6,D7⟩:=ifN D2;refine ALf rfl rfl D6 (AD0 (m:=Aa) ACp rfl (Ab.o2 p0) Dy Ad rfl Ak fun Fy D8=>AGz (m:=Aa) (AFv ACw rfl rfl rfl) (Ab.o2 p0) D8 Ad Ak (show ((cI .i64)).rep _ (Int.tmod (w64 (Bv + (w64 (Bl * Bu)))) a9) _ from rfl) fun Fz D9 Ea=>ACs (q_b (q_t (AB6 (ACx rfl rfl (Wo (ABt ?_)))))));obtain rfl:=ABo D7;exact ⟨Dr,(((w64 (Bo + 1)),(sI Bp Aa (sI Dw Bo (Int.tmod (w64 (Bv + (w64 (Bl * Bu)))) a9))),Bq,Br,Bt):(Int) × (LiI) × LnA × LnN × LvA),Nat.lt_succ_self _,⟨Ax,(Ab.uO2 p0 Ea D9)⟩,rfl,trivial⟩
   ·obtain rfl:=ABo (AC9 Ai Ay);change _=Bn at Ax;subst Ax;refine ACg (ACi (ACi (ADp (q_b (q_t (AB6 (ACx rfl rfl (Wo (ABt ?_)))))))));obtain rfl:=ABo Dl;exact ⟨Dc,(((w64 (Da + 1)),Bp,Bq,Br,Bt):(Int) × (LiI) × LnA × LnN × LvA),Nat.lt_succ_self _,⟨Av,Ab⟩,rfl,trivial⟩
  ·obtain rfl:=ABo (AC9 Ah Aw);change _=Bf at Av;subst Av;refine ACg (ACi (ACi (ADp (q_b (q_t (AB6 (ACx rfl rfl (Wo (ABt ?_)))))))));obtain rfl:=ABo C6;exact ⟨Ch,(((w64 (Aa + 1)),Bg,Bh,Bi,Bj):(Int) × (LiI) × LnA × LnN × LvA),Nat.lt_succ_self _,⟨Aq,Ag⟩,rfl,trivial⟩
 ·obtain rfl:=ABo (AC9 Ae Ar);change _=A9 at Aq;subst Aq;refine ACg (ACi (ACi (ADp (q_t (ABp (Wo (ABv (ABx ?_))))))));obtain rfl:=ABo B9;exact ⟨_,ABz,Ac.x,_,_,_,_,rfl,(Ac.o2 p0),Ac.s.sel [0] (by decide)⟩
def AIv (fuel:Nat) (a3 a7:LiI) (a9:Int):Option (LiI × Int):=
  ((((AI6 fuel a3).bind fun Af=>(if (!Af)=true then (some (Sum.inl <| ([],3))) else ((AI6 fuel a7).bind fun Ag=>(if (!Ag)=true then (some (Sum.inl <| ([],3))) else ((gI a3 0).bind fun Ah=>(if ¬ (a3.length:Int)=(Ah.length:Int) then (some (Sum.inl <| ([],3))) else (if ¬ (a7.length:Int)=(a3.length:Int) then (some (Sum.inl <| ([],3))) else (some (Sum.inr <| ()))))))))):Option (((LiI × Int)) ⊕ (Unit))).bind (fun ex=>match ex with | Sum.inl Ai=>(some Ai) | Sum.inr (_)=>((AEs fuel a9).bind fun Ad=>(if ¬ Ad=0 then (some ([],Ad)) else ((AHd fuel a7 a9).bind fun Ae=>((AJf fuel Ae).bind fun Aj=>((AHd fuel a3 a9).bind fun Ak=>((AIz fuel Ak Ae a9).bind fun Am=>((AIz fuel Aj Am a9).bind fun Ao=>(some (Ao,0)))))))))))
theorem ATg {fuel:Nat} {h:ABu} {Ax:Value} {a3:LiI} {Ay:Value} {a7:LiI} {a9:Int} {r:(LiI × Int)} (H2:AEq (cI .i64) h Ax a3) (H6:AEq (cI .i64) h Ay a7) (hp:AIv fuel a3 a7 a9=some r):ACo Tryz.prog 53 #[Ax,Ay,(.int .i64 a9)] h (fun x h'=>Ext h h'/\ ∃ (x0:Value) (F0:List Nat) (Bg:List LnA) (Bh:List Value),x= .tuple #[x0,.int .i64 r.2]/\AFi (cI .i64) 35 2 h' F0 Bg Bh x0 r.1/\Sp h' h.size [F0]):=by
 unfold AIv at hp;refine cwf (l:=[_,_,_]) Tryz.func53 rfl rfl (ABp (ACr (ABv ?_)));have K0:=Kst.k0 h;obtain ⟨Bi,Bj,Ab⟩:=ABq hp;refine AL7 17179868352 (fun x:Unit=>[]) (fun x h'=>(Sum.inr <| ())=Bi/\Kst h h' (K0.L)) ?_ ?_
 ·refine ABp (Wo ?_);obtain ⟨Bl,Bm,A6⟩:=ABq Bj;refine ADc rfl (AOr (H2.ext K0.x) Bm) fun C2 C3 Bn Bo=>?_;subst Bo;refine AEy rfl (Wo ?_);have Ah:=K0.e Bn;cases A7:(!Bl)
  ·refine AB4 13 false (Wo (AB4 13 false ?_));obtain ⟨Bp,Bq,A8⟩:=ABq (AHo A6 A7);refine ADc rfl (AOr (H6.ext Ah.x) Bq) fun C4 C5 Br Bt=>?_;subst Bt;refine AB4 13 false (AEy rfl (AB0 rfl (Wo ?_)));have Ac:=Ah.e Br;cases A9:(!Bp)
   ·refine AB4 18 false (Wo (AB4 18 false (ADa ACd rfl H2 (AB4 18 false (Wo (AB4 18 false ?_))))));obtain ⟨Bu,Bv,Ba⟩:=ABq (AHo A8 A9);refine AFj ACd rfl H2 rfl Bv fun C6 C7 C8 Bw Bx=>AB4 18 false (AB3 AC0 rfl (AB1 Bw Ac.x) (AB4 18 false (ADi ACp rfl Bx (AB4 18 false (AEt rfl rfl (AB0 rfl (Wo ?_)))))));by_cases Ad: ¬ (a3.length:Int)=(Bu.length:Int)
    ·rw [decide_eq_true Ad];refine AHn 27 true (AB5 rfl (ABt (ACh rfl (ABp (ACr (ABv ?_))))));obtain rfl:=ABo (ifT Ba Ad);refine ABx (AB2 ?_);have Ai:=Kst.anil2 (cI .i64) 35 2 Ac;obtain rfl:=ABo Ab;exact ⟨_,ADt,Ai.x,_,_,_,_,rfl,(Ai.o2 p0),Ai.s.sel [0] (by decide)⟩
    ·have Bb:=ifF Ba Ad;rw [decide_eq_false Ad];refine AB4 27 false (Wo (AB4 27 false (ADa ACd rfl H6 (AB4 27 false (Wo (AB4 27 false (ADa ACd rfl H2 (AB4 27 false (AEt rfl rfl (AB0 rfl (ABt (⟨_,rfl,fun Aj=>?_,fun Aj=>?_⟩))))))))))))
     ·refine ABp (ACr (ABv ?_));obtain rfl:=ABo (AC8 Bb Aj);refine ABx (AB2 ?_);have Ak:=Kst.anil2 (cI .i64) 35 2 Ac;obtain rfl:=ABo Ab;exact ⟨_,ADt,Ak.x,_,_,_,_,rfl,(Ak.o2 p0),Ak.s.sel [0] (by decide)⟩
     ·refine ABy (q_t ?_);exact ⟨(():Unit),⟨ABo (AC9 Bb Aj),Ac⟩,trivial⟩
   ·refine AHn 18 true (AKb 18 true (AB5 rfl (Wo (AHn 27 true (AB5 rfl (ABt (ACh rfl (ABp (ACr (ABv ?_))))))))));obtain rfl:=ABo (ifT A8 A9);refine ABx (AB2 ?_);have Am:=Kst.anil2 (cI .i64) 35 2 Ac;obtain rfl:=ABo Ab;exact ⟨_,ADt,Am.x,_,_,_,_,rfl,(Am.o2 p0),Am.s.sel [0] (by decide)⟩
  ·refine AE3 13 true (AB5 rfl (Wo (AHn 18 true (AKb 18 true (AB5 rfl (Wo (AHn 27 true (AB5 rfl (ABt (ACh rfl (ABp (ACr (ABv ?_)))))))))))));obtain rfl:=ABo (ifT A6 A7);refine ABx (AB2 ?_);have Ao:=Kst.anil2 (cI .i64) 35 2 Ah;obtain rfl:=ABo Ab;exact ⟨_,ADt,Ao.x,_,_,_,_,rfl,(Ao.o2 p0),Ao.s.sel [0] (by decide)⟩
 rintro ⟨⟩ C9 Da ⟨By,Bz⟩;subst By;refine ABr (ABp (Wo ?_));obtain ⟨Db,B1,Bc⟩:=ABq Ab;refine ADc rfl (AN9 B1) fun Dc Dd B3 B4=>?_;subst B4;refine AC4 (Wo (AEt rfl rfl (ABt ?_)));have Ap:=Bz.e B3;refine ⟨_,rfl,fun Aq=>?_,fun Aq=>?_⟩
 ·refine ABp (Wo (ACr (ABv (ABx (AB2 ?_)))));have Ar:=Kst.anil2 (cI .i64) 35 2 Ap;obtain rfl:=ABo (AC8 Bc Aq);exact ⟨_,ADt,Ar.x,_,_,_,_,rfl,(Ar.o2 p0),Ar.s.sel [0] (by decide)⟩
 ·refine ABy (q_t (ABp (Wo (Wo ?_))));obtain ⟨De,B5,B6⟩:=ABq (AC9 Bc Aq);refine ADc rfl (AM8 (H6.ext Ap.x) B5) fun Df Dg B7 B8=>?_;obtain ⟨Dh,Di,Dj,Dk,rfl,B9,Ca⟩:=B8;refine AC4 (Wo ?_);have Be:=Ap.no2 B7 Ca B9;obtain ⟨Dl,Cb,Cd⟩:=ABq B6;refine ADc rfl (AUa (Be.o2 p0).rd Cb) fun Dn Do Ce Cf=>?_;obtain ⟨Dp,Dq,Dr,Ds,rfl,Cg,Ch⟩:=Cf;refine Wo (Wo ?_);have Bf:=Be.no2 Ce Ch Cg;obtain ⟨Dt,Ci,Cj⟩:=ABq Cd;refine ADc rfl (AM8 (H2.ext Bf.x) Ci) fun Du Dv Ck Cm=>?_;obtain ⟨Dw,Dx,Dy,Dz,rfl,Cn,Co⟩:=Cm;refine Wo (Wo ?_);have Au:=Bf.no2 Ck Co Cn;obtain ⟨D0,Cp,Cq⟩:=ABq Cj;refine ADc rfl (AQd (Au.o2 p0).rd (Au.o2 p2).rd Cp) fun D1 D2 Cr Ct=>?_;obtain ⟨D3,D4,D5,D6,rfl,Cu,Cv⟩:=Ct;refine Wo ?_;have Av:=Au.no2 Cr Cv Cu;obtain ⟨D7,Cw,Cx⟩:=ABq Cq;refine ADc rfl (AQd (Av.o2 p2).rd (Av.o2 p0).rd Cw) fun D8 D9 Cy Cz=>?_;obtain ⟨Ea,Eb,Ec,Ed,rfl,C0,C1⟩:=Cz;refine ACr (ABv (ABx ?_));have Aw:=Av.no2 Cy C1 C0;obtain rfl:=ABo Cx;exact ⟨_,ADt,Aw.x,_,_,_,_,rfl,(Aw.o2 p0),Aw.s.sel [0] (by decide)⟩
end Go.Proofs.YtdnbklmefmoofaaGreatDoor
namespace Go.Proofs.YtdnbklmefmoofaaGreatDoor
open Go Go.QF
set_option maxRecDepth 100000
theorem AE5 {α β:Type} {L:List α} {n:Nat} {x:α} {f:α->Option β} (hx:L[n]? =some x):(gI L (n:Int)).bind f=f x:=by
 unfold gI;rw [if_pos (by omega),Int.toNat_natCast,hx];rfl
theorem AXk {α β:Type} {L:List α} {x:α} {f:α->Option β} (hx:L[0]? =some x):(gI L 0).bind f=f x:=AE5 (n:=0) hx
theorem ADr {i:Nat} (h:i<=1000000000):w64 ((i:Int) + 1)=((i + 1:Nat):Int):=by rw [wk (by omega)];omega
theorem Aas {n i r:Nat} {G:Nat->Nat->Int} {g g':Nat->Int} (h:∀ c,c < n->g c=g' c):part n i (ADz G r g)=part n i (ADz G r g'):=by
 unfold part;refine ADl fun k _=>?_;split
 ·refine ADl fun c hc=>?_;by_cases hk:k=r
  ·subst hk;rw [ADq,ADq,h c hc]
  ·rw [AFu _ _ hk,AFu _ _ hk]
 ·rfl
theorem AVc {n i:Nat} {F:Nat->Nat->Int} {g:Nat->Int} (h:∀ c,c < n->g c=F i c):part n (i + 1) (ADz F i g)=part n (i + 1) F:=by
 rw [Aas h,AOz]
theorem Ado {body:Int × List (List Int)->Option ((Int × List (List Int)) ⊕ List (List Int))} {fuel n i:Nat} {G:Nat->Nat->Int} (v:Nat->Int) (hf:n < fuel)
    (hs:∀ (j:Nat) (g:Nat->Int),j < n->g j=G i j->body ((j:Int),part n (i + 1) (ADz G i g))=some (.inl (((j + 1:Nat):Int),part n (i + 1) (ADz G i fun c=>if c=j then v j else g c))))
    (he:∀ X,body ((n:Int),X)=some (.inr X)):iter body fuel (0,part n (i + 1) G)=some (part n (i + 1) (ADz G i v)):=by
  apply ok_eq
  refine AC3 (fun j s=>s=((j:Int),part n (i + 1) (ADz G i fun c=>if c < j then v c else G i c))) n ?_ hf fun j s hj hI=>?_
  · have:(fun c=>if c < 0 then v c else G i c)=G i:=funext fun c=>if_neg (by omega);rw [this,AOz];rfl
  · subst hI
    by_cases h:j < n
    · rw [hs j _ h (if_neg (by omega))];refine ABn ⟨h,?_⟩;refine congrArg (fun z=>(((j + 1:Nat):Int),part n (i + 1) (ADz G i z))) (funext fun c=>?_)
      by_cases h1:c=j
      · rw [if_pos h1,if_pos (by omega),h1]
      · rw [if_neg h1]
        by_cases h2:c < j
        · rw [if_pos h2,if_pos (by omega)]
        · rw [if_neg h2,if_neg (by omega)]
    · obtain rfl:j=n:=by omega
      rw [he];exact ABn (Aas fun c hc=>if_pos hc)
theorem AVd {body:Int × List (List Int)->Option ((Int × List (List Int)) ⊕ List (List Int))} {fuel n:Nat} (F:Nat->Nat->Int) (hf:n < fuel)
    (hs:∀ i:Nat,i < n->body ((i:Int),part n i F)=some (.inl (((i + 1:Nat):Int),part n (i + 1) F))) (he:∀ X,body ((n:Int),X)=some (.inr X)):iter body fuel (0,List.replicate n ([]:List Int))=some (tab n n F):=by
  apply ok_eq;refine AC3 (fun i s=>s=((i:Int),part n i F)) n (by rw [AO2 n F];rfl) hf fun i s hi hI=>?_;subst hI
  by_cases h:i < n
  · rw [hs i h];exact ABn ⟨h,rfl⟩
  · obtain rfl:i=n:=by omega
    rw [he];exact ABn (AO1 _ _)
theorem Akn {x m:Int} (hm:2<=m) (Ab:m<=2147483647):Int.tmod (w64 (Int.tmod x m + m)) m=x % m:=by
 have h1:=Int.tmod_lt_of_pos x (show 0 < m by omega);have h2:=Int.tmod_lt_of_pos (-x) (show 0 < m by omega);rw [Int.neg_tmod] at h2;rw [wk (by omega),Int.tmod_eq_emod_of_nonneg (by omega),Int.add_emod_right,Int.tmod_def,Int.sub_mul_emod_self_left]
theorem Ahb {fuel n:Nat} {F:Nat->Nat->Int} {m:Int} (hn:n<=8) (hm:2<=m) (Aa:m<=2147483647) (hf:100 < fuel):AHd fuel (tab n n F) m=some (tab n n fun i j=>F i j % m):=by
 unfold AHd;rw [ACt,if_pos (by omega),Int.toNat_natCast,AVd (n:=n) (fun i j=>F i j % m) (by omega) (fun i hi=>?_) fun X=>?_]
 ·rfl
 ·unfold AJ9;dsimp only;rw [ACt,if_pos (by omega),AE5 (ACv hi),ACy,if_pos (by omega),AE5 (AOp hi),ADw,Int.toNat_natCast,AGn n (0:Int),AMz,Ado (n:=n) (fun j=>F i j % m) (by omega) (fun j g hj hg=>?_) fun X=>?_]
  ·dsimp only [Option.bind_some];rw [AN2,AVc fun c _=>rfl,ADr (by omega)]
  ·unfold AJ8;dsimp only;rw [ACy,if_pos (by omega),AE5 (ACk hj),AE5 (AKy (by omega) hi),if_pos (by omega),if_pos (by omega),ADq,AE5 (ACk hj),Akn hm Aa,ADw,ADw,AFw,AMy (by omega),AN2,ADr (by omega)]
  ·unfold AJ8;dsimp only;rw [ACy,if_neg (by omega)]
 ·unfold AJ9;dsimp only;rw [ACt,if_neg (by omega)]
theorem Aod {fuel n:Nat} {F:Nat->Nat->Int} (Aa:1<=n) (hn:n<=8) (hf:100 < fuel):AJf fuel (tab n n F)=some (tab n n fun i j=>F j i):=by
 unfold AJf;rw [AXk (ACv (by omega)),ACy,if_pos (by omega),Int.toNat_natCast,AVd (n:=n) (fun i j=>F j i) (by omega) (fun i hi=>?_) fun X=>?_]
 ·rfl
 ·unfold AJs;dsimp only;rw [ACy,Int.toNat_natCast,List.length_replicate,if_pos (by omega),ACt,if_pos (by omega),AE5 (AOp hi),ADw,Int.toNat_natCast,AGn n (0:Int),AMz,Ado (n:=n) (fun j=>F j i) (by omega) (fun j g hj hg=>?_) fun X=>?_]
  ·dsimp only [Option.bind_some];rw [AN2,AVc fun c _=>rfl,ADr (by omega)]
  ·unfold AJr;dsimp only;rw [ACt,if_pos (by omega),AE5 (ACv hj),AE5 (AKy (by omega) hi),AE5 (ACk hi),ADq,AE5 (ACk hj),ADw,ADw,AFw,AMy (by omega),AN2,ADr (by omega)]
  ·unfold AJr;dsimp only;rw [ACt,if_neg (by omega)]
 ·unfold AJs;dsimp only;rw [ACy,Int.toNat_natCast,List.length_replicate,if_neg (by omega)]
def Atn (n:Nat) (m:Int) (F:Nat->Nat->Int):Prop:= ∀ i j,i < n->j < n->0<=F i j/\F i j < m
theorem Ahc {m:Int} {f:Nat->Int} {k:Nat} {x y:Int} (hm:2<=m) (Aa:m<=2147483647) (hx:0<=x/\x < m) (hy:0<=y/\y < m) (hf:f k=x * y):Int.tmod (w64 (psum f k % m + (w64 (x * y)))) m=psum f (k + 1) % m:=by
 have h0:=Int.mul_nonneg hx.1 hy.1;have h1:x * y<=2147483646 * 2147483646:=Int.mul_le_mul (by omega) (by omega) hy.1 (by omega);have h2:=Int.emod_nonneg (psum f k) (show m≠0 by omega);have h3:=Int.emod_lt_of_pos (psum f k) (show 0 < m by omega);rw [AFe (x:=x * y) (by omega) (by omega),wk (by omega),Int.tmod_eq_emod_of_nonneg (by omega),<- hf,Ajh]
theorem Ai2 {fuel n:Nat} {F G:Nat->Nat->Int} {m:Int} (Ab:1<=n) (hn:n<=8) (hm:2<=m) (Aa:m<=2147483647) (hF:Atn n m F) (hG:Atn n m G) (hf:100 < fuel):AIz fuel (tab n n F) (tab n n G) m=some (tab n n fun i j=>psum (fun k=>F i k * G k j) n % m):=by
 unfold AIz;rw [ACt,if_pos (by omega),Int.toNat_natCast,AVd (n:=n) (fun i j=>psum (fun k=>F i k * G k j) n % m) (by omega) (fun i hi=>?_) fun X=>?_]
 ·rfl
 ·unfold AK1;dsimp only;rw [ACt,if_pos (by omega),AE5 (ACv hi),AXk (ACv (by omega)),ACy,if_pos (by omega),AE5 (AOp hi),ADw,Int.toNat_natCast,AGn n (0:Int),AMz]
  have key:∀ X,iter (fun s=>AK0 fuel (tab n n G) m i (AEl n (F i)) s.1 s.2) fuel (0,part n (i + 1) (ADz X i fun _=>0))=some (part n (i + 1) (ADz X i fun j=>psum (fun k=>F i k * G k j) n % m)):=fun X=>by
    apply ok_eq
    refine AC3 (fun k s=>s=((k:Int),part n (i + 1) (ADz X i fun j=>psum (fun k=>F i k * G k j) k % m))) n ?_ (by omega) fun k s hk hI=>?_
    · refine congrArg (fun z=>((0:Int),part n (i + 1) (ADz X i z))) (funext fun c=>?_)
      show 0=0 % m
      rw [Int.zero_emod]
    · subst hI
      unfold AK0
      dsimp only
      rw [ACy]
      by_cases h:k < n
      · rw [if_pos (by omega),AE5 (ACk h),AE5 (ACv h),Ado (n:=n) (fun j=>psum (fun k=>F i k * G k j) (k + 1) % m) (by omega) (fun j g hj hg=>?_) fun X=>?_]
        · dsimp only [Option.bind_some]
          rw [AN2,ADr (by omega)]
          exact ABn ⟨h,rfl⟩
        · unfold AKz
          dsimp only
          rw [ACy,if_pos (by omega),AE5 (ACk hj),AE5 (AKy (by omega) hi),ADq,AE5 (ACk hj),if_pos (by omega),hg,ADq,Ahc (f:=fun k=>F i k * G k j) hm Aa (hF i k hi h) (hG k j h hj) rfl,ADw,ADw,AFw,AMy (by omega),AN2,ADr (by omega)]
        · unfold AKz
          dsimp only
          rw [ACy,if_neg (by omega)]
      · obtain rfl:k=n:=by omega
        rw [if_neg (by omega)]
        exact ABn rfl
  rw [key];dsimp only [Option.bind_some];rw [AVc fun c _=>rfl,ADr (by omega)]
 ·unfold AK1;dsimp only;rw [ACt,if_neg (by omega)]
end Go.Proofs.YtdnbklmefmoofaaGreatDoor
namespace Go.Proofs.YtdnbklmefmoofaaGreatDoor
open Go Go.QF
set_option maxRecDepth 100000
set_option maxHeartbeats 4000000
def AN3 (fuel:Nat) (Ac Ad Af:Int) (Ag:LiA) (Ah Ai Aa:Int) (Ab:LiI):Option ((Int × LiI) ⊕ ((LiI))):=
  (if Aa < (Ag.length:Int) then ((gI Ab Af).bind fun Aj=>((gI Aj Aa).bind fun Ak=>((gI Ab Ad).bind fun Ae=>((gI Ae Aa).bind fun Am=>(if Ac≠0 then (some (Sum.inl ((w64 (Aa + 1)),(sI Ab Ad (sI Ae Aa (Int.tmod (w64 (Am + (w64 ((w64 (Ac - (w64 (Int.tdiv Ai Ah)))) * Ak)))) Ac)))))) else none))))) else (some (Sum.inr<| Ab)))
def AN4 (fuel:Nat) (Ah Aa Ab Af:Int) (Ac:LiI):Option ((Int × LiI) ⊕ ((Int × LiI))):=
  ((gI Ac Ab).bind fun Ag=>((gI Ag Aa).bind fun Ad=>(if ¬ Ad=0 then ((gI Ac Aa).bind fun Ai=>((gI Ai Aa).bind fun Aj=>(if Ad≠0 then ((((iter (fun s=>AN3 fuel Ah Aa Ab Ag Ad Aj s.1 s.2) fuel (0,Ac)).bind (fun (Ak:LiI)=>(some ( Ak)))):Option (LiI)).bind fun Ae=>((gI Ae Ab).bind fun Am=>((gI Ae Aa).bind fun Ao=>(some (Sum.inl ((w64 (0 - Af)),(sI (sI Ae Aa Am) Ab Ao))))))) else none))) else (some (Sum.inr<| (Af,Ac))))))
def APv (fuel:Nat) (Ad Ae Ac Aa:Int) (Ab:LiI):Option ((Int × Int × LiI) ⊕ ((Int × LiI))):=
  (if Aa < (Ab.length:Int) then ((iter (fun s=>AN4 fuel Ad Ae Aa s.1 s.2) fuel (Ac,Ab)).bind (fun ((Af,Ag):Int × LiI)=>(some (Sum.inl (Af,(w64 (Aa + 1)),Ag))))) else (some (Sum.inr<| (Ac,Ab))))
def APw (fuel:Nat) (Ad:LiI) (Ae Ab Aa:Int) (Ac:LiI):Option ((Int × Int × LiI) ⊕ ((Int × LiI))):=
  (if Aa < (Ad.length:Int) then ((iter (fun s=>APv fuel Ae Aa s.1 s.2.1 s.2.2) fuel (Ab,(w64 (Aa + 1)),Ac)).bind (fun ((Af,Ag):Int × LiI)=>(some (Sum.inl (Af,(w64 (Aa + 1)),Ag))))) else (some (Sum.inr<| (Ab,Ac))))
def APx (fuel:Nat) (a5:Int) (Ac:LiI) (Ad Ab:Int):Option ((Int × Int) ⊕ ((Int))):=
  (if Ab < (Ac.length:Int) then ((gI Ac Ab).bind fun Ae=>(if a5≠0 then ((gI Ae Ab).bind fun Af=>(if a5≠0 then (some (Sum.inl ((Int.tmod (w64 ((Int.tmod Ad a5) * Af)) a5),(w64 (Ab + 1))))) else none)) else none)) else (some (Sum.inr<| Ad)))
def AOj (fuel:Nat) (a3:LiI) (a5:Int):Option (Int × Int):=
  ((AM0 fuel a3).bind fun x6=>(if (!x6)=true then (some (0,3)) else ((AEs fuel a5).bind fun Ac=>(if ¬ Ac=0 then (some (0,Ac)) else ((AHd fuel a3 a5).bind fun Ad=>(((((some ( a5)):Option (Int)).bind fun Af=>((iter (fun s=>APw fuel Ad Af s.1 s.2.1 s.2.2) fuel (1,0,Ad)).bind (fun ((Ag,Ah):Int × LiI)=>(some ( (Ag,Ah)))))):Option (Int × LiI)).bind fun (Ai,Aj)=>((iter (fun s=>APx fuel a5 Aj s.1 s.2) fuel ((w64 (Ai + a5)),0)).bind (fun (Ak:Int)=>(some (Ak,0))))))))))
theorem AX8 {fuel:Nat} {h:ABu} {Bq:Value} {a3:LiI} {a5:Int} {r:(Int × Int)} (H2:AEq (cI .i64) h Bq a3) (hp:AOj fuel a3 a5=some r):ACo Tryz.prog 51 #[Bq,(.int .i64 a5)] h (fun x h'=>Ext h h'/\x= .tuple #[.int .i64 r.1,.int .i64 r.2]):=by
 unfold AOj at hp;refine cwf (l:=[_,_]) Tryz.func51 rfl rfl (ABp (ACr (ABv (ABr (ABp (Wo ?_))))));have K0:=Kst.k0 h;obtain ⟨x6,Cy,Bv⟩:=ABq hp;refine ADc rfl (AWm (H2.ext K0.x) Cy) fun Hl Hm E9 C0=>?_;subst C0;refine AEy rfl (ABt ?_);have Bw:=K0.e E9;refine ⟨_,rfl,fun Ay=>?_,fun Ay=>?_⟩
 ·refine ABp (ACr (ABv (ABx (AB2 ?_))));obtain rfl:=ABo (ifT Bv Ay);exact ⟨_,ADt,Bw.x,rfl⟩
 ·refine ABy (q_t (ABr (ABp (Wo ?_))));obtain ⟨Hn,C1,Bx⟩:=ABq (AHo Bv Ay);refine ADc rfl (AN9 C1) fun Ho Hq C2 C3=>?_;subst C3;refine AC4 (Wo (AEt rfl rfl (ABt ?_)));have Az:=Bw.e C2;refine ⟨_,rfl,fun A3=>?_,fun A3=>?_⟩
  ·refine ABp (Wo (ACr (ABv (ABx (AB2 ?_)))));obtain rfl:=ABo (AC8 Bx A3);exact ⟨_,ADt,Az.x,rfl⟩
  ·refine ABy (q_t (ABp (Wo (Wo ?_))));obtain ⟨C4,C5,C6⟩:=ABq (AC9 Bx A3);refine ADc rfl (AM8 (H2.ext Az.x) C5) fun Af Hr C7 C8=>?_;obtain ⟨Hs,C9,Da,Db,rfl,Dc,Dd⟩:=C8;refine AC4 (Wo (Wo ?_));have A4:=Az.no2 C7 Dd Dc;obtain ⟨De,Df,Dg⟩:=ABq C6;refine ACl (K':=(fun xr h'=> ∃ x:(Int) × (LiI) × LnA × LnN × LvA,(x.1,x.2.1)=De/\xr=(.int .i64 x.1)/\Kst h h' (A4.L.set 0 (aO2 (cI .i64) 35 2 x.2.2.1 x.2.2.2.1 x.2.2.2.2 Af x.2.1)))) trivial rfl ?_ fun Ht Hu Dh=>?_
   ·refine cwf (l:=[_,_]) Tryz.func93 rfl rfl (ABp (AC4 (Wo ?_)));obtain ⟨Di,Dj,Dk⟩:=ABq Df;refine ACl (K':=(fun xr h'=> ∃ x:(Nat) × (Int),x.2=Di/\xr=(.func (.func 158) #[] #[(.pointer (some ⟨x.1,0,none⟩))])/\Kst h h' (aB 2 x.1 [(.int .i64 x.2)] :: A4.L))) trivial rfl ?_ fun Hv Hw Dl=>?_
    ·refine cwf (l:=[_]) Tryz.func140 rfl rfl (ABp (AFk [(.int .i64 a5)] trivial tt2 rfl rfl fun Dn Hx Do Dp Dq=>AC4 (Arx rfl (ABv (ABx (⟨_,ABz,((Dn,a5):(Nat) × (Int)),?_,rfl,?_⟩))))))
     ·exact ABo Dj
     ·exact (A4.nb Dp Dq Do)
    obtain ⟨⟨Dr,Ao⟩,Ds,rfl,A5⟩:=Dl;refine ⟨trivial,?_⟩;subst Ds;refine AC4 (ABv (ABr (ABp (Wo (ADa ACd rfl (A5.o2 p1).rd (Wo (ABt (ABw ?_))))))));obtain ⟨By,Dt,Du⟩:=ABq Dk;obtain ⟨Dv,Dw,Dx⟩:=ACe Dt;refine ACq 18889465931478580847040 (fun x:(Int) × (Int) × (LiI) × LnA × LnN × LvA=>[(6,(.int .i64 x.1)),(13,(.int .i64 x.2.1))]) (fun k x h'=>iter Dv k (x.1,x.2.1,x.2.2.1)=some By/\Kst h h' (A5.L.set 1 (aO2 (cI .i64) 35 2 x.2.2.2.1 x.2.2.2.2.1 x.2.2.2.2.2 Af x.2.2.1))) (by kernel_rfl) fuel ((1,0,C4,C9,Da,Db):(Int) × (Int) × (LiI) × LnA × LnN × LvA) ?_ ⟨rfl,rfl,trivial⟩ ?_
    ·exact ⟨Dx,A5⟩
    rintro Hy ⟨Bz,Ac,B1,B3,B4,B5⟩ Hz H5 ⟨Dy,A6⟩;obtain ⟨Dz,H9,rfl,Ag,A7⟩:=AB8 Dy;rw [Dw] at Ag;dsimp only at Ag;unfold APw at Ag;refine ABp (ACu rfl rfl (ABt (ABr (⟨_,rfl,fun A8=>?_,fun A8=>?_⟩))))
    ·refine ABy (q_t (ABr (ABw (ABp (Wo (AC4 (Wo (ACx rfl rfl (ABv (ABw ?_))))))))));obtain ⟨B6,D0,D1⟩:=ABq (AC8 Ag A8);obtain ⟨D2,D3,D4⟩:=ACe D0;refine ACq 9444732965739290165568 (fun x:(Int) × (Int) × (LiI) × LnA × LnN × LvA=>[(6,(.int .i64 x.1)),(8,(.int .i64 x.2.1))]) (fun k x h'=>iter D2 k (x.1,x.2.1,x.2.2.1)=some B6/\Kst h h' (A6.L.set 1 (aO2 (cI .i64) 35 2 x.2.2.2.1 x.2.2.2.2.1 x.2.2.2.2.2 Af x.2.2.1))) (by kernel_rfl) fuel ((Bz,(w64 (Ac + 1)),B1,B3,B4,B5):(Int) × (Int) × (LiI) × LnA × LnN × LvA) ?_ ⟨rfl,rfl,trivial⟩ ?_
     ·exact ⟨D4,A6⟩
     rintro Ia ⟨B7,Ah,B8,B9,Ca,Cb⟩ Ib Ic ⟨D5,Ap⟩;obtain ⟨D6,Id,rfl,Ai,A9⟩:=AB8 D5;rw [D3] at Ai;dsimp only at Ai;unfold APv at Ai;refine ABr (ABp (Wo (Wo (ADa ACd rfl (Ap.o2 p1).rd (ACu rfl rfl (ABt (⟨_,rfl,fun Ba=>?_,fun Ba=>?_⟩)))))))
     ·refine ABy (q_t (ABr (ABw (ABw ?_))));obtain ⟨Cd,D7,D8⟩:=ABq (AC8 Ai Ba);obtain ⟨D9,Ea,Eb⟩:=ACe D7;refine ACq 9444732965739273650240 (fun x:(Int) × (LiI) × LnA × LnN × LvA=>[(6,(.int .i64 x.1))]) (fun k x h'=>iter D9 k (x.1,x.2.1)=some Cd/\Kst h h' (Ap.L.set 1 (aO2 (cI .i64) 35 2 x.2.2.1 x.2.2.2.1 x.2.2.2.2 Af x.2.1))) (by kernel_rfl) fuel ((B7,B8,B9,Ca,Cb):(Int) × (LiI) × LnA × LnN × LvA) ?_ ⟨rfl,trivial⟩ ?_
      ·exact ⟨Eb,Ap⟩
      rintro Ie ⟨Ce,Cf,Bb,Bc,Be⟩ If Ih ⟨Ec,Aa⟩;obtain ⟨Ed,Ii,rfl,Aq,Bf⟩:=AB8 Ec;rw [Ea] at Aq;dsimp only at Aq;unfold AN4 at Aq;refine ABr (ABp (Wo (Wo ?_)));obtain ⟨Ij,Ad,Ee⟩:=ABq Aq;refine ADf ACd rfl (Aa.o2 p1) rfl Ad fun Ik Il Im Ef Eg=>AB3 AC0 rfl Eg (Wo ?_);obtain ⟨Bg,Ar,Cg⟩:=ABq Ee;refine AD0 (m:=Ah) ACp rfl (Aa.o2 p1) Ef Ad rfl Ar fun Io Eh=>?_;obtain ⟨Ip,Ei,Ej⟩:=(Aa.o2 p1).cells Eh Ad Ar;obtain rfl:=Ei;refine AB3 ACw rfl (Ej 0 _ rfl) (AEt rfl rfl (ABt (⟨_,rfl,fun Bh=>?_,fun Bh=>?_⟩)))
      ·refine ABy (q_t (ABw (ABr (AI7 (Wo (Wo (Wo ?_)))))));obtain ⟨Iq,Au,Ek⟩:=ABq (AC8 Cg Bh);refine ADf ACd rfl (Aa.o2 p1) rfl Au fun Ir El Is Ch Em=>AB3 AC0 rfl Em (Wo (Wo (ADf ACd rfl (Aa.o2 p1) rfl Ad fun It En Iu Ci Eo=>AB3 AC0 rfl Eo (Wo (Wo (ADf ACd rfl (Aa.o2 p1) rfl Au fun Iv Iw Ix Ep Er=>AB3 AC0 rfl Er (Wo ?_)))))));obtain ⟨Bi,Cj,Es⟩:=ABq Ek;refine AD0 (m:=Ac) ACp rfl (Aa.o2 p1) Ep Au rfl Cj fun Iy Et=>?_;obtain ⟨Iz,Eu,Ev⟩:=(Aa.o2 p1).cells Et Au Cj;obtain rfl:=Eu;refine AB3 ACw rfl (Ev 0 _ rfl) (Wo (Wo (ADf ACd rfl (Aa.o2 p1) rfl Ad fun I0 I1 I2 Ew Ey=>AB3 AC0 rfl Ey (Wo (AD0 (m:=Ah) ACp rfl (Aa.o2 p1) Ew Ad rfl Ar fun I3 Ez=>?_)))));obtain ⟨I5,Fa,Fb⟩:=(Aa.o2 p1).cells Ez Ad Ar;obtain rfl:=Fa;refine AB3 ACw rfl (Fb 0 _ rfl) ?_;obtain ⟨Fc,Fd⟩:=ifN Es;refine Aba rfl rfl Fc ?_;obtain ⟨Fe,Ff,Fg⟩:=ABq Fd;refine AYt (l:=[El,En,(.int .i64 (w64 (Int.tdiv Bi Bg)))]) (cl:=[(.pointer (some ⟨Dr,0,none⟩))]) (K':=(fun xr h'=> ∃ x:(LiI),x=Fe/\xr= .tuple #[]/\Kst h h' (Aa.L.set 1 (aO2 (cI .i64) 35 2 Bb Bc Be Af x)))) trivial rfl rfl ?_ fun I6 I7 Fh=>?_
       ·refine cwf (l:=[_,_,_,_]) Tryz.func158 rfl rfl (ABp (Wo (ADi ACp rfl ((Aa.o2 p1).rowI Ci Ad) (Wo (ABt (ABw ?_))))));obtain ⟨Ck,Fi,Fj⟩:=ABq Ff;obtain ⟨Fk,Fl,Fm⟩:=ACe Fi;refine ACq 4294965632 (fun x:(Int) × (LiI)=>[(11,(.int .i64 x.1))]) (fun k x h'=>iter Fk k (x.1,x.2)=some Ck/\Kst h h' (Aa.L.set 1 (aO2 (cI .i64) 35 2 Bb Bc Be Af x.2))) (by kernel_rfl) fuel ((0,Cf):(Int) × (LiI)) ?_ ⟨rfl,trivial⟩ ?_
        ·exact ⟨Fm,Aa⟩
        rintro I9 ⟨Cm,Cn⟩ Ja Jc ⟨Fo,Ab⟩;obtain ⟨Fp,Je,rfl,Aj,Bj⟩:=AB8 Fo;rw [Fl] at Aj;dsimp only at Aj;unfold AN3 at Aj;refine ABp (ACu rfl rfl (ABt (ABr (⟨_,rfl,fun Bl=>?_,fun Bl=>?_⟩))))
        ·refine ABy (q_t (ABr (ABw (ABp (Wo ?_)))));obtain ⟨Jf,Co,Fq⟩:=ABq (AC8 Aj Bl);obtain ⟨Cp,Cq,Fr⟩:=ABq Fq;refine AD0 (m:=Ah) ACp rfl (Ab.o2 p1) Ci Co rfl Cq fun Jg Ft=>?_;obtain ⟨Jh,Fu,Fv⟩:=(Ab.o2 p1).cells Ft Co Cq;obtain rfl:=Fu;refine AB3 ACw rfl (Fv 0 _ rfl) (ACr (ABv (AI7 (Wo (Wo (Wo (Wo ?_)))))));obtain ⟨Fw,Av,Fx⟩:=ABq Fr;obtain ⟨Cr,Aw,Fy⟩:=ABq Fx;refine AD0 (m:=Ac) ACp rfl (Ab.o2 p1) Ch Av rfl Aw fun Ji Fz=>?_;obtain ⟨Jj,F4,F5⟩:=(Ab.o2 p1).cells Fz Av Aw;obtain rfl:=F4;refine AB3 ACw rfl (F5 0 _ rfl) (AB3 ACw rfl ((Ab.b p0).cell (i:=0) rfl) (Wo (AHm rfl rfl (Wo (AR7 rfl rfl (ACx rfl rfl (AB3 ACw rfl ((Ab.b p0).cell (i:=0) rfl) ?_)))))));obtain ⟨F6,F7⟩:=ifN Fy;refine ALf rfl rfl F6 (AD0 (m:=Ac) ACp rfl (Ab.o2 p1) Ch Av rfl Aw fun Jk F8=>AGz (m:=Ac) (AFv ACw rfl rfl rfl) (Ab.o2 p1) F8 Av Aw (show ((cI .i64)).rep _ (Int.tmod (w64 (Cr + (w64 ((w64 (Ao - (w64 (Int.tdiv Bi Bg)))) * Cp)))) Ao) _ from rfl) fun Jl F9 Ga=>ACs (q_b (q_t (AB6 (ACx rfl rfl (Wo (ABt ?_)))))));obtain rfl:=ABo F7;exact ⟨Fp,(((w64 (Cm + 1)),(sI Cn Ac (sI Fw Cm (Int.tmod (w64 (Cr + (w64 ((w64 (Ao - (w64 (Int.tdiv Bi Bg)))) * Cp)))) Ao)))):(Int) × (LiI)),Nat.lt_succ_self _,⟨Bj,(Ab.uO2 p1 Ga F9)⟩,rfl,trivial⟩
        ·obtain rfl:=ABo (AC9 Aj Bl);change _=Ck at Bj;subst Bj;refine ACg (ACi (ACi (ADp (⟨_,Aa9,(Cn:(LiI)),?_,rfl,?_⟩))))
         ·exact ABo Fj
         ·exact Ab
       obtain ⟨Gb,Gc,rfl,Ax⟩:=Fh;refine ⟨trivial,?_⟩;subst Gc;refine ABt (ABr (AI7 (Wo (Wo (Wo (Wo (Wo (Wo ?_))))))));obtain ⟨Gd,Ct,Ge⟩:=ABq Fg;refine ADf ACd rfl (Ax.o2 p1) rfl Ct fun Jm Jn Jo Gf Gg=>AB3 AC0 rfl Gg (Wo (Wo ?_));obtain ⟨Gh,Cu,Gi⟩:=ABq Ge;refine ADf ACd rfl (Ax.o2 p1) rfl Cu fun Jp Jq Jr Gj Gk=>AB3 AC0 rfl Gk (ATu ACd AC0 (Ax.o2 p1) Gj Gf Cu Ct rfl rfl (fun _=>rfl) (fun _=>rfl) (fun _=>rfl) (fun _ _=>rfl) fun Js Jt Gl Gm Gn Ju Gp Gq Gr=>ABt (AB6 (Wo (Abb rfl (ACr (ACs (q_b (q_t ?_))))))));obtain rfl:=ABo Gi;exact ⟨Ed,(((w64 (0 - Ce)),(sI (sI Gb Ac Gd) Ah Gh),Gl,Gm,Gn):(Int) × (LiI) × LnA × LnN × LvA),Nat.lt_succ_self _,⟨Bf,(Ax.uo2 p1 Gq Gp Gr)⟩,rfl,trivial⟩
      ·obtain rfl:=ABo (AC9 Cg Bh);change _=Cd at Bf;subst Bf;refine ACg (ACi (ACi (ADp (q_b (q_t (AB6 (Wo (ACx rfl rfl (ABv ?_)))))))));obtain rfl:=ABo D8;exact ⟨D6,((Ce,(w64 (Ah + 1)),Cf,Bb,Bc,Be):(Int) × (Int) × (LiI) × LnA × LnN × LvA),Nat.lt_succ_self _,⟨A9,Aa⟩,rfl,rfl,trivial⟩
     ·obtain rfl:=ABo (AC9 Ai Ba);change _=B6 at A9;subst A9;refine ACg (ACi (ACi (ADp (q_b (q_t (AB6 (ACx rfl rfl (Wo (ABt ?_)))))))));obtain rfl:=ABo D1;exact ⟨Dz,((B7,(w64 (Ac + 1)),B8,B9,Ca,Cb):(Int) × (Int) × (LiI) × LnA × LnN × LvA),Nat.lt_succ_self _,⟨A7,Ap⟩,rfl,rfl,trivial⟩
    ·obtain rfl:=ABo (AC9 Ag A8);change _=By at A7;subst A7;refine ACg (ACi (ACi (ADp (q_t (ABp (Wo (ABv (ABx (⟨_,ABz,((Bz,B1,B3,B4,B5):(Int) × (LiI) × LnA × LnN × LvA),?_,rfl,?_⟩)))))))))
     ·exact ABo Du
     ·exact A6.sel [1] (by decide)
   obtain ⟨⟨Gt,Jv,Jw,Jx,Jy⟩,Gu,rfl,Bm⟩:=Dh;refine ⟨trivial,?_⟩;subst Gu;refine Wo (ACx rfl rfl (ABv (ABr (ABp (Wo (ADa ACd rfl (Bm.o2 p0).rd (Wo (ABt (ABw ?_)))))))));obtain ⟨Cv,Gv,Gw⟩:=ABq Dg;obtain ⟨Gx,Gy,Gz⟩:=ACe Gv;refine ACq 35183835219712 (fun x:(Int) × (Int)=>[(8,(.int .i64 x.1)),(29,(.int .i64 x.2))]) (fun k x h'=>iter Gx k (x.1,x.2)=some Cv/\Kst h h' (Bm.L)) (by kernel_rfl) fuel (((w64 (Gt + a5)),0):(Int) × (Int)) ?_ ⟨rfl,rfl,trivial⟩ ?_
   ·exact ⟨Gz,Bm⟩
   rintro Jz ⟨G3,Cw⟩ J0 J1 ⟨G4,Ak⟩;obtain ⟨G5,J2,rfl,Am,Bn⟩:=AB8 G4;rw [Gy] at Am;dsimp only at Am;unfold APx at Am;refine ABp (ACu rfl rfl (ABt (ABr (⟨_,rfl,fun Bo=>?_,fun Bo=>?_⟩))))
   ·refine ABy (q_t (ABr (ABw (ABp (Wo ?_)))));obtain ⟨J3,Bp,G6⟩:=ABq (AC8 Am Bo);refine ADf ACd rfl (Ak.o2 p0) rfl Bp fun J4 J5 J6 G7 G8=>AB3 AC0 rfl G8 (ACr (ABv (AI7 (Wo (Wo ?_)))));obtain ⟨G9,Hb⟩:=ifN G6;refine ALf rfl rfl G9 (Wo (Wo ?_));obtain ⟨Hc,Cx,Hd⟩:=ABq Hb;refine AD0 (m:=Cw) ACp rfl (Ak.o2 p0) G7 Bp rfl Cx fun J7 He=>?_;obtain ⟨J8,Hf,Hg⟩:=(Ak.o2 p0).cells He Bp Cx;obtain rfl:=Hf;refine AB3 ACw rfl (Hg 0 _ rfl) (AR7 rfl rfl (Wo ?_));obtain ⟨Hh,Hj⟩:=ifN Hd;refine ALf rfl rfl Hh (ACr (ACs (q_b (q_t (AB6 (ACx rfl rfl (Wo (ABt ?_))))))));obtain rfl:=ABo Hj;exact ⟨G5,(((Int.tmod (w64 ((Int.tmod G3 a5) * Hc)) a5),(w64 (Cw + 1))):(Int) × (Int)),Nat.lt_succ_self _,⟨Bn,Ak⟩,rfl,rfl,trivial⟩
   ·obtain rfl:=ABo (AC9 Am Bo);change _=Cv at Bn;subst Bn;refine ACg (ACi (ACi (ADp (q_t (ABp (Wo (ACr (ABv (ABx ?_)))))))));obtain rfl:=ABo Gw;exact ⟨_,ADt,Ak.x,rfl⟩
end Go.Proofs.YtdnbklmefmoofaaGreatDoor
namespace Go.Proofs.YtdnbklmefmoofaaGreatDoor
open Go Go.QF
set_option maxRecDepth 100000
theorem Aoe {E:Type} {body:Int->Option (Int ⊕ E)} {fuel n:Nat} {e:E} (hf:n < fuel) (hs:∀ i:Nat,i < n->body (i:Int)=some (.inl ((i + 1:Nat):Int))) (he:body (n:Int)=some (.inr e)):iter body fuel 0=some e:=by
 apply ok_eq;refine AC3 (fun i s=>s=(i:Int)) n rfl hf fun i s hi hI=>?_;subst hI;by_cases h:i < n
 ·rw [hs i h];exact ABn ⟨h,rfl⟩
 ·obtain rfl:i=n:=by omega
  rw [he];exact ABn rfl
theorem Aat {fuel n:Nat} {F:Nat->Nat->Int} (Aa:1<=n) (hn:n<=8) (hf:100 < fuel):AI6 fuel (tab n n F)=some true:=by
 unfold AI6;rw [ACt,if_neg (by omega),if_neg (by omega),AXk (ACv (by omega)),ACy,if_neg (by omega),if_neg (by omega)];simp only [Option.bind_some];rw [Aoe (n:=n) (e:= .inr ()) (by omega) (fun i hi=>?_) ?_]
 ·rfl
 ·unfold AMo;rw [ACt,if_neg (by omega)]
 ·unfold AMo;rw [ACt,if_pos (by omega),AE5 (ACv hi),AXk (ACv (by omega)),ACy,ACy,if_neg (fun h=>h rfl),ADr (by omega)]
theorem Aqz {n j:Nat} {g:Nat->Int} {x:Int}:sI (AEl n g) (j:Int) x=AEl n fun c=>if c=j then x else g c:=by rw [ADw,AFw]
theorem AMa {n i:Nat} {F:Nat->Nat->Int} {g:Nat->Int}:sI (tab n n F) (i:Int) (AEl n g)=tab n n (ADz F i g):=by
 rw [ADw];exact ALn
theorem Aof {n r:Nat} {F:Nat->Nat->Int} {g g':Nat->Int} (h:∀ c,c < n->g c=g' c):tab n n (ADz F r g)=tab n n (ADz F r g'):=AVf fun i j _ hj=>by
  rw [ADk,ADk,h j hj]
structure Aa6 (n:Nat) (m:Int) (A F:Nat->Nat->Int) (s:Int) (c:Nat):Prop where
  sg:s=1∨s= -1
  bd:Bd n n m F
  z:Zc n F c
  d:Eqm m (det n F) (s * det n A)
theorem Aq0 {m a b x y:Int} (hm:2<=m) (Ab:m<=2147483647) (ha:0<=a/\a < m) (hb:0 < b/\b < m) (hx:0<=x/\x < m) (hy:0<=y/\y < m):Int.tmod (w64 (x + (w64 ((w64 (m - (w64 (Int.tdiv a b)))) * y)))) m=(x + (m - a / b) * y) % m:=by
 have hq:=Ar3 ha.1 ha.2 hb.1;have h1:Int.tdiv a b=a / b:=Int.tdiv_eq_ediv_of_nonneg ha.1;have h0:0<=(m - a / b) * y:=Int.mul_nonneg (by omega) hy.1;have h2:(m - a / b) * y<=2147483647 * 2147483647:=Int.mul_le_mul (by omega) (by omega) hy.1 (by omega);rw [h1,AFe (x:=a / b) (by omega) (by omega),AFe (x:=m - a / b) (by omega) (by omega),AFe (x:=(m - a / b) * y) (by omega) (by omega),wk (by omega),Int.tmod_eq_emod_of_nonneg (by omega)]
theorem Aq1 {fuel n c i:Nat} {m:Int} {F:Nat->Nat->Int} (hn:n<=8) (hm:2<=m) (Ac:m<=2147483647) (hc:c < n) (hi:i < n) (hne:c≠i) (hB:Bd n n m F) (h0:F i c≠0) (hf:100 < fuel):
    iter (fun s=>AN3 fuel m c i (AEl n (F i)) (F i c) (F c c) s.1 s.2) fuel (0,tab n n F)=some (tab n n (ADz F c fun x=>(F c x + (m - F c c / F i c) * F i x) % m)):=by
 apply ok_eq;refine AC3 (fun j s=>s=((j:Int),tab n n (ADz F c fun x=>if x < j then (F c x + (m - F c c / F i c) * F i x) % m else F c x))) n ?_ (by omega) fun j s hj hI=>?_
 ·have:(fun x=>if x < 0 then (F c x + (m - F c c / F i c) * F i x) % m else F c x)=F c:=funext fun x=>if_neg (by omega);rw [this,AOz];rfl
 ·subst hI;unfold AN3;dsimp only;rw [ACy];by_cases h:j < n
  ·have b1:=hB c c hc hc;have b2:=hB i c hi hc;rw [if_pos (by omega),AE5 (ACv hi),AFu _ _ (Ne.symm hne),AE5 (ACk h),AE5 (ACv hc),ADq,AE5 (ACk h),if_pos (by omega),if_neg (by omega),Aq0 hm Ac (hB c c hc hc) ⟨by omega,b2.2⟩ (hB c j hc h) (hB i j hi h),Aqz,AMa,AN2,ADr (by omega)];refine ABn ⟨h,congrArg (fun z=>(((j + 1:Nat):Int),tab n n (ADz F c z))) (funext fun x=>?_)⟩;by_cases h1:x=j
   ·rw [if_pos h1,if_pos (by omega),h1]
   ·rw [if_neg h1];by_cases h2:x < j
    ·rw [if_pos h2,if_pos (by omega)]
    ·rw [if_neg h2,if_neg (by omega)]
  ·obtain rfl:j=n:=by omega
   rw [if_neg (by omega)];exact ABn (Aof fun x hx=>if_pos hx)
theorem Ako {n c i:Nat} {m s:Int} {A F:Nat->Nat->Int} (hm:2<=m) (hc:c < n) (hi:i < n) (hci:c < i) (H:Aa6 n m A F s c) (q:Int):Aa6 n m A (AS1 F c i q m) (-s) c:=by
 have h1:=(Eqm.refl m 0).sub H.d;rw [Int.zero_sub,Int.zero_sub] at h1;refine ⟨by rcases H.sg with h | h <;> rw [h] <;> simp,Ao2 (by omega) H.bd hc hi,Ao3 H.z hci hi,(Aj5 hc hi (by omega)).trans ?_⟩;rw [Int.neg_mul];exact h1
theorem Ahd {fuel n c i:Nat} {m s:Int} {A F:Nat->Nat->Int} (hn:n<=8) (hm:2<=m) (Ab:m<=2147483647) (hc:c < n) (hi:i < n) (hci:c < i) (H:Aa6 n m A F s c) (hZ:Zi F c i) (hf:2147483648 < fuel):
    Ok (iter (fun s=>AN4 fuel m c i s.1 s.2) fuel (s,tab n n F)) fun e=> ∃ s' F',e=(s',tab n n F')/\Aa6 n m A F' s' c/\Zi F' c i/\F' i c=0:=by
 refine AC3 (fun k st=> ∃ s' F',st=(s',tab n n F')/\Aa6 n m A F' s' c/\Zi F' c i/\F' i c + k<=m) m.toNat ⟨s,F,rfl,H,hZ,by have:=H.bd i c hi hc;omega⟩ (by omega) fun k st hk hI=>?_;obtain ⟨s',F',rfl,H',hZ',hk'⟩:=hI;have hB:=H'.bd;have b2:=hB i c hi hc;unfold AN4;dsimp only;rw [AE5 (ACv hi),AE5 (ACk hc)];refine AB7 (fun h=>?_) fun h=>ABn ⟨s',F',rfl,H',hZ',Decidable.not_not.1 h⟩;rw [AE5 (ACv hc),AE5 (ACk hc),if_pos h,Aq1 hn hm Ab hc hi (by omega) hB h (by omega)];simp only [Option.bind_some]
 have e1:∀ g,sI (sI (tab n n (ADz F' c g)) (c:Int) (AEl n (F' i))) (i:Int) (AEl n g)=tab n n (AHe (ADz F' c g) c i):=fun g=>by
   rw [AMa,AMa]
   unfold AHe
   rw [ADq,AFu _ _ (show i≠c by omega)]
 have b1:=hB c c hc hc;rw [AE5 (ACv hi),AFu _ _ (show i≠c by omega),AE5 (ACv hc),ADq,e1,AFe (by rcases H'.sg with h | h <;> omega) (by rcases H'.sg with h | h <;> omega),Int.zero_sub];refine ABn ⟨by omega,-s',_,rfl,Ako hm hc hi hci H' _,Ao4 hZ',?_⟩;show AS1 F' c i (F' c c / F' i c) m i c + ((k + 1:Nat):Int)<=m;rw [Ahk];dsimp only;rw [Ao5 b1.1 b1.2 (by omega) b2.2];have:=Int.emod_lt_of_pos (F' c c) (show 0 < F' i c by omega);omega
theorem Ato {fuel n:Nat} {T:Nat->Nat->Int} {m:Int} (Af:1<=n) (hn:n<=8) (hm:2<=m) (Ad:m<=2147483647) (hf:2147483648 < fuel):AOj fuel (tab n n T) m=some (det n T % m,0):=by
 unfold AOj
 have h0:AM0 fuel (tab n n T)=some true:=by
   unfold AM0
   rw [Aat Af hn (by omega)]
   simp only [Option.bind_some,reduceIte]
   rw [AXk (ACv (by omega)),ACy,ACt,if_pos rfl,decide_eq_true (by omega)]
 have h1:AEs fuel m=some 0:=by unfold AEs;rw [if_neg (by omega),if_neg (by omega)]
 rw [h0];simp only [Option.bind_some];rw [if_neg (by decide),h1];simp only [Option.bind_some];rw [if_neg (by decide),Ahb hn hm Ad (by omega)];simp only [Option.bind_some];apply ok_eq;generalize hA:(fun i j=>T i j % m)=A;have hAd:Eqm m (det n A) (det n T):=by subst hA;exact AY7 fun i j _ _=>Eqm.mod _ _
 have hAb:Bd n n m A:=by subst hA;exact fun i j _ _=>⟨Int.emod_nonneg _ (by omega),Int.emod_lt_of_pos _ (by omega)⟩
 refine ABs (Q:=fun e:Int × List (List Int)=> ∃ F,e.2=tab n n F/\Aa6 n m A F e.1 n) (ABs (AC3 (fun c st=> ∃ s F,st=(s,(c:Int),tab n n F)/\c<=n/\Aa6 n m A F s c) n (Q:=fun e:Int × List (List Int)=> ∃ F,e.2=tab n n F/\Aa6 n m A F e.1 n) ⟨1,A,rfl,Nat.zero_le _,.inl rfl,hAb,fun c' i h=>absurd h (Nat.not_lt_zero _),by rw [Int.one_mul];exact Eqm.refl _ _⟩ (by omega) fun c st hc hI=>?_) fun e he=>ABn he) fun e he=>?_
 ·obtain ⟨s,F,rfl,hcn,H⟩:=hI;unfold APw;dsimp only;rw [ACt];refine AB7 (fun h=>?_) fun h=>ABn ⟨F,rfl,(show c=n by omega) ▸ H⟩;have hc':c < n:=by omega
  rw [ADr (by omega)];refine ABs (AC3 (fun k st=> ∃ s F,st=(s,((c + 1 + k:Nat):Int),tab n n F)/\c + 1 + k<=n/\Aa6 n m A F s c/\Zi F c (c + 1 + k)) (n - (c + 1)) (Q:=fun e:Int × List (List Int)=> ∃ F,e.2=tab n n F/\Aa6 n m A F e.1 (c + 1)) ⟨s,F,rfl,by omega,H,fun k h1 h2=>by omega⟩ (by omega) fun k st hk hI=>?_) fun e he=>?_
  ·obtain ⟨s',F',rfl,hkn,H',hZ'⟩:=hI;unfold APv;dsimp only;rw [ACt];refine AB7 (fun h2=>ABs (Ahd hn hm Ad hc' (by omega) (by omega) H' hZ' hf) fun e he=>?_) fun h2=>ABn ⟨F',rfl,H'.sg,H'.bd,Ahm H'.z ((show c + 1 + k=n by omega) ▸ hZ'),H'.d⟩;obtain ⟨s2,F2,rfl,H2,Aj,h3⟩:=he;exact ABn ⟨by omega,s2,F2,by rw [ADr (by omega)];rfl,by omega,H2,Ahl Aj h3⟩
  ·obtain ⟨e1,e2⟩:=e;obtain ⟨F',h2,H'⟩:=he;dsimp only at h2 H';subst h2;exact ABn ⟨by omega,e1,F',rfl,by omega,H'⟩
 ·obtain ⟨s,M⟩:=e;obtain ⟨F,h2,H⟩:=he;dsimp only at h2 H;subst h2;dsimp only;rw [AFe (by rcases H.sg with h | h <;> omega) (by rcases H.sg with h | h <;> omega)];refine ABs (AC3 (fun k st=>st=(ATn F m s k,(k:Int))/\k<=n) n (Q:=(· =ATn F m s n)) ⟨rfl,Nat.zero_le _⟩ (by omega) fun k st hk hI=>?_) fun e he=>ABn ?_
  ·obtain ⟨rfl,hkn⟩:=hI;unfold APx;dsimp only;rw [ACt];by_cases h:k < n
   ·have hd:=Ao6 (F:=F) (m:=m) (s:=s) hm H.sg k;have hb:=H.bd k k h h;have h3:=Int.emod_nonneg (ATn F m s k) (show m≠0 by omega);have h4:=Int.emod_lt_of_pos (ATn F m s k) (show 0 < m by omega);have h5:=Int.mul_nonneg h3 hb.1;have h6:ATn F m s k % m * F k k<=2147483647 * 2147483647:=Int.mul_le_mul (by omega) (by omega) hb.1 (by omega);rw [if_pos (by omega),AE5 (ACv h),if_pos (by omega),AE5 (ACk h),if_pos (by omega),Int.tmod_eq_emod_of_nonneg hd.1,AFe (x:=ATn F m s k % m * F k k) (by omega) (by omega),Int.tmod_eq_emod_of_nonneg h5,ADr (by omega)];exact ABn ⟨h,rfl,by omega⟩
   ·obtain rfl:k=n:=by omega
    rw [if_neg (by omega)];exact ABn rfl
  ·subst he
   have h3:Eqm m (ATn F m s n) (det n T):=by
     refine (Anl _).trans ?_
     rw [<- AS8 H.z]
     refine ((Eqm.refl m s).mul H.d).trans (Eqm.trans (Eqm.of_eq ?_) hAd)
     rcases H.sg with h | h <;> rw [h] <;> grind
   have h4:0<=ATn F m s n/\ATn F m s n < m:=by
     obtain ⟨k,rfl⟩:∃ k,n=k + 1:=⟨n - 1,by omega⟩
     unfold ATn
     exact ⟨Int.emod_nonneg _ (by omega),Int.emod_lt_of_pos _ (by omega)⟩
   unfold Eqm at h3;rw [<- h3,Int.emod_eq_of_lt h4.1 h4.2]
end Go.Proofs.YtdnbklmefmoofaaGreatDoor
