/-
  Texts of a proof, joined. Conditions stand in each statement.
-/
import Derived.Lib.SmallJoins
import Derived.Deep.Slices
import Derived.Test.YtdnbklmefmoofaaGreatDoorMJordanRaw4
set_option linter.unusedVariables false
set_option linter.unusedSimpArgs false
namespace Go.Proofs.YtdnbklmefmoofaaGreatDoor
open Go Go.QF
set_option maxRecDepth 100000
set_option maxHeartbeats 4000000
def AJa (fuel:Nat) (a1 a2:Int):Option Int:=
  (if a2≠0 then (if (Int.tmod a1 a2) < 0 then (some (w64 ((Int.tmod a1 a2) + a2))) else (some (Int.tmod a1 a2))) else none)
theorem AT6 {fuel:Nat} {h:ABu} {a1 a2 r:Int} (hp:AJa fuel a1 a2=some r):ACn Tryz.prog 142 #[(.int .i64 a1),(.int .i64 a2)] h (fun x h'=>Ext h h'/\x= .int .i64 r):=by
 unfold AJa at hp;refine cwf (l:=[_,_]) Tryz.func142 rfl rfl (ABp (AC1 (Wo (Wo ?_))));have K0:=Kst.k0 h;obtain ⟨Af,Ae⟩:=ifN hp;refine AHh rfl rfl Af (ABv (ABr (ABp (Wo (ACu rfl rfl (ABt (⟨_,rfl,fun Aa=>?_,fun Aa=>?_⟩)))))))
 ·refine AB5 (Wo (Wo (ACz rfl rfl (AC1 (Wo (ABv (ABx ?_)))))));obtain rfl:=ABo (AC8 Ae Aa);exact ⟨_,ABz,K0.x,rfl⟩
 ·refine ABy (q_t (ABp (Wo (ABv (ABx ?_)))));obtain rfl:=ABo (AC9 Ae Aa);exact ⟨_,ABz,K0.x,rfl⟩
def AHo (fuel:Nat) (a1 a5:Int):Option Int:=
  ((ALf fuel a5).bind fun Ac=>((AFn fuel a1 Ac).bind fun Ad=>((AVj fuel Ad).bind fun (Ae,Af)=>(some Ae))))
theorem ARq {fuel:Nat} {h:ABu} {Af:Value} {a1 a5 r:Int} (H3:ZZ h Af a1) (hp:AHo fuel a1 a5=some r):ACn Tryz.prog 101 #[Af,(.int .i64 a5)] h (fun x h'=>Ext h h'/\x= .int .i64 r):=by
 unfold AHo at hp;obtain ⟨Ai,rfl,Aj⟩:=H3.cs;refine cwf (l:=[_,_]) Tryz.func101 rfl rfl (ABp (AGo Ai trivial tt2 rfl rfl fun b6 h7 V8 E9 Aw=>ABv (ABr (AEd (fun h'=>UpT [] h7 h') (by kernel_rfl) ?_))));have Ac:=(Kst.k0 h).nb E9 Aw V8;have Aa:UpT [] h7 h7:=UpT.start all_nil;refine AEk Ai ACf (cZ.klen (Ac.zx Aj)) rfl Aa (fun h' hb=>((Ac.b p0).ext hb.ext).agg) (Wo ?_);obtain ⟨Bf,Ax,Ay⟩:=ABq hp;refine ADg Aa (fun _ E=>Aa.thenE E) rfl (AKp Ax) fun Bg Bh Ak Az=>?_;obtain ⟨Bi,rfl,A3⟩:=Az;have Ad:=Aa.thenE Ak;obtain ⟨Bj,rfl,A4⟩:=A3.cs;have Ae:=(Ac.e Ak).az A4;obtain ⟨Bl,A5,A6⟩:=ABq Ay;refine ADg Ad (fun _ E=>Ad.thenE E) rfl (AO7 (Ae.zx Aj).2 (Ae.z p0).2 A5) fun Bm Bn Am A7=>?_;obtain ⟨Bo,rfl,A8⟩:=A7;have Ao:=Ad.thenE Am;obtain ⟨Bp,rfl,A9⟩:=A8.cs;have Ap:=(Ae.e Am).az A9;obtain ⟨⟨Bq,Br⟩,Ba,Aq⟩:=ABq A6;dsimp only at Aq;refine ADg Ao (fun _ E=>Ao.thenE E) rfl (AZ9 (Ap.z p0).2 Ba) fun Bt Bu Bb Bc=>?_;subst Bc;refine Wo (ADm rfl rfl (ADm rfl rfl (ACk (AC1 (Wo (ABv (ABx ?_)))))));obtain rfl:=ABo Aq;exact ⟨_,ABz,(Ap.e Bb).x,rfl⟩
def AK9 (fuel:Nat) (a3:LiI) (Ab:Int):Option ((Int) ⊕ ((Bool) ⊕ (Unit))):=
  (if Ab < (a3.length:Int) then ((gI a3 Ab).bind fun Ac=>((gI a3 0).bind fun Ad=>(if ¬ (Ac.length:Int)=(Ad.length:Int) then (some (Sum.inr<| Sum.inl <| false)) else (if (Ac.length:Int) < 1 then (some (Sum.inr<| Sum.inl <| false)) else (if 16 < (Ac.length:Int) then (some (Sum.inr<| Sum.inl <| false)) else (some (Sum.inl (w64 (Ab + 1))))))))) else (some (Sum.inr<| Sum.inr <| ())))
def AEx (fuel:Nat) (a3:LiI):Option Bool:=
  (((if (a3.length:Int) < 1 then (some (Sum.inl <| false)) else (if 16 < (a3.length:Int) then (some (Sum.inl <| false)) else (some (Sum.inr <| ())))):Option ((Bool) ⊕ (Unit))).bind (fun ex=>match ex with | Sum.inl Ab=>(some Ab) | Sum.inr (_)=>((iter (fun s=>AK9 fuel a3 s) fuel 0).bind (fun ex=>match ex with | Sum.inl Ac=>(some Ac) | Sum.inr (_)=>(some true)))))
theorem ALa {fuel:Nat} {h:ABu} {Au:Value} {a3:LiI} {r:Bool} (H2:AEq (cI .i64) h Au a3) (hp:AEx fuel a3=some r):ACn Tryz.prog 104 #[Au] h (fun x h'=>Ext h h'/\x= .bool r):=by
 unfold AEx at hp;refine cwf (l:=[_]) Tryz.func104 rfl rfl (ABp (ABv ?_));have K0:=Kst.k0 h;obtain ⟨A5,Av,Am⟩:=ABq hp;refine ALi 8164 (fun x:Unit=>[]) (fun x h'=>(Sum.inr <| ())=A5/\Kst h h' (K0.L)) ?_ ?_
 ·refine ABp (Wo (ADa ACi rfl H2 (ACu rfl rfl (Wo ?_))));by_cases Ag:(a3.length:Int) < 1
  ·rw [decide_eq_true Ag];refine AE2 8 true (AB2 rfl (ABt (ACd rfl (ABp (ABv ?_)))));obtain rfl:=ABo (ifT Av Ag);refine ABx (AB4 ?_);obtain rfl:=ABo Am;exact ⟨_,ABz,K0.x,rfl⟩
  ·have Aw:=ifF Av Ag;rw [decide_eq_false Ag];refine AB3 8 false (Wo (AB3 8 false (ADa ACi rfl H2 (AB3 8 false (AGz rfl rfl (AB0 rfl (ABt (⟨_,rfl,fun Ao=>?_,fun Ao=>?_⟩))))))))
   ·refine ABp (ABv ?_);obtain rfl:=ABo (AC8 Aw Ao);refine ABx (AB4 ?_);obtain rfl:=ABo Am;exact ⟨_,ABz,K0.x,rfl⟩
   ·refine ABy (q_t ?_);exact ⟨(():Unit),⟨ABo (AC9 Aw Ao),K0⟩,trivial⟩
 rintro ⟨⟩ Bn Bo ⟨A6,Ax⟩;subst A6;refine ABr (ABp (Wo (ADa ACi rfl H2 (Wo (ABt (ABw ?_))))));obtain ⟨Ad,A7,Ah⟩:=ABq Am;obtain ⟨A8,A9,Ba⟩:=ACe A7;refine ACq 137438920724 (fun x:(Int)=>[(15,(.int .i64 x))]) (fun k x h'=>iter A8 k x=some Ad/\Kst h h' (Ax.L)) (by kernel_rfl) fuel (0:(Int)) ?_ ⟨rfl,trivial⟩ ?_
 ·exact ⟨Ba,Ax⟩
 rintro Bp Bb Bq Br ⟨Bc,Ab⟩;obtain ⟨Be,Bt,rfl,Ae,Aa⟩:=AB7 Bc;rw [A9] at Ae;dsimp only at Ae;unfold AK9 at Ae;refine ABp (ACu rfl rfl (ABt (ABr (⟨_,rfl,fun Ap=>?_,fun Ap=>?_⟩))))
 ·refine ABy (q_t (ABr (ABw (ABp ?_))));obtain ⟨Ay,Bf,Bg⟩:=ABq (AC8 Ae Ap);refine AFg ACi rfl H2 rfl Bf fun Bu Bv Bw Bh Aq=>AB6 AC3 rfl (AB1 Bh Ab.x) (AC1 (Wo (ADh ACs rfl Aq (Wo ?_))));obtain ⟨Bi,Bj,Az⟩:=ABq Bg;refine AFg ACi rfl H2 rfl Bj fun Bx By Bz Bl Bm=>AB6 AC3 rfl (AB1 Bl Ab.x) (ADh ACs rfl Bm (AEn rfl rfl (Wo ?_)));by_cases Ai: ¬ (Ay.length:Int)=(Bi.length:Int)
  ·rw [decide_eq_true Ai];refine AE2 26 true (AB2 rfl (Wo (AE2 31 true (AB2 rfl (ABt (ACd rfl (ABp (ABv ?_))))))));obtain rfl:=ABo (ifT Az Ai);change _=Ad at Aa;subst Aa;refine ABx (ADe (AB4 (AB4 (ADe (AB4 ?_)))));obtain rfl:=ABo Ah;exact ⟨_,ABz,Ab.x,rfl⟩
  ·have A3:=ifF Az Ai;rw [decide_eq_false Ai];refine AB3 26 false (Wo (AB3 26 false (ADh ACs rfl Aq (AB3 26 false (ACu rfl rfl (AB0 rfl (Wo ?_)))))));by_cases Aj:(Ay.length:Int) < 1
   ·rw [decide_eq_true Aj];refine AE2 31 true (AB2 rfl (ABt (ACd rfl (ABp (ABv ?_)))));obtain rfl:=ABo (ifT A3 Aj);change _=Ad at Aa;subst Aa;refine ABx (ADe (AB4 (AB4 (ADe (AB4 ?_)))));obtain rfl:=ABo Ah;exact ⟨_,ABz,Ab.x,rfl⟩
   ·have A4:=ifF A3 Aj;rw [decide_eq_false Aj];refine AB3 31 false (Wo (AB3 31 false (ADh ACs rfl Aq (AB3 31 false (AGz rfl rfl (AB0 rfl (ABt (⟨_,rfl,fun Ar=>?_,fun Ar=>?_⟩))))))))
    ·refine ABp (ABv ?_);obtain rfl:=ABo (AC8 A4 Ar);change _=Ad at Aa;subst Aa;refine ABx (ADe (AB4 (AB4 (ADe (AB4 ?_)))));obtain rfl:=ABo Ah;exact ⟨_,ABz,Ab.x,rfl⟩
    ·refine ABy (q_b (q_t (AB5 (ACz rfl rfl (Wo (ABt ?_))))));obtain rfl:=ABo (AC9 A4 Ar);exact ⟨Be,((w64 (Bb + 1)):(Int)),Nat.lt_succ_self _,⟨Aa,Ab⟩,rfl,trivial⟩
 ·obtain rfl:=ABo (AC9 Ae Ap);change _=Ad at Aa;subst Aa;refine ACh (ACj (ACj (ADo (q_t (ABp (ABv (ABx ?_)))))));obtain rfl:=ABo Ah;exact ⟨_,ABz,Ab.x,rfl⟩
def AFw (fuel:Nat) (a1:Int):Option Bool:=
  (if 2<=a1 then (some (decide (a1<=2147483647))) else (some false))
theorem ANk {fuel:Nat} {h:ABu} {a1:Int} {r:Bool} (hp:AFw fuel a1=some r):ACn Tryz.prog 100 #[(.int .i64 a1)] h (fun x h'=>Ext h h'/\x= .bool r):=by
 unfold AFw at hp;refine cwf (l:=[_]) Tryz.func100 rfl rfl (ABp (AC1 (Wo (ANd rfl rfl (Wo ?_)))));have K0:=Kst.k0 h;by_cases Aa:2<=a1
 ·rw [decide_eq_true Aa];refine AB3 5 true (Wo (AB3 5 true (AWd rfl rfl (AB2 rfl (ABv (ABx ?_))))));obtain rfl:=ABo (ifT hp Aa);exact ⟨_,ABz,K0.x,rfl⟩
 ·rw [decide_eq_false Aa];refine AIg 5 false (AB0 rfl (ABv (ABx ?_)));obtain rfl:=ABo (ifF hp Aa);exact ⟨_,ABz,K0.x,rfl⟩
def AIa (fuel:Nat) (a5:Int) (Ac Aa:LiA) (Ab:Int):Option ((LiA × Int) ⊕ ((LiA))):=
  (if Ab < (Ac.length:Int) then ((gI Ac Ab).bind fun Ae=>((AJa fuel Ae a5).bind fun Af=>(if Aa.length<=100000000 then (some (Sum.inl ((Aa ++ [Af]),(w64 (Ab + 1))))) else none))) else (some (Sum.inr<| Aa)))
def AKi (fuel:Nat) (a3:LiI) (a5:Int) (Aa:LiI) (Ab:Int):Option ((LiI × Int) ⊕ ((LiI))):=
  (if Ab < (a3.length:Int) then ((gI a3 Ab).bind fun Ae=>((iter (fun s=>AIa fuel a5 Ae s.1 s.2) fuel ([],0)).bind (fun (Af:LiA)=>(if Aa.length<=100000000 then (some (Sum.inl ((Aa ++ [Af]),(w64 (Ab + 1))))) else none)))) else (some (Sum.inr<| Aa)))
def AEo (fuel:Nat) (a3:LiI) (a5:Int):Option LiI:=
  ((iter (fun s=>AKi fuel a3 a5 s.1 s.2) fuel ([],0)).bind (fun (Ac:LiI)=>(some Ac)))
theorem AKj {fuel:Nat} {h:ABu} {Aj:Value} {a3:LiI} {a5:Int} {r:LiI} (H2:AEq (cI .i64) h Aj a3) (hp:AEo fuel a3 a5=some r):ACn Tryz.prog 103 #[Aj,(.int .i64 a5)] h (fun x h'=>Ext h h'/\ ∃ (x0:Value) (F0:List Nat) (A3:List LnA) (A4:List Value),x=x0/\AFf (cI .i64) 35 2 h' F0 A3 A4 x0 r/\Sp h' h.size [F0]):=by
 unfold AEo at hp;refine cwf (l:=[_,_]) Tryz.func103 rfl rfl (ABp (AC1 (ABv (ABr (ABp (Wo (ADa ACi rfl H2 (Wo (ABt (ABw ?_))))))))));have K7:=Kst.anil2 (cI .i64) 35 2 (Kst.k0 h);obtain ⟨Au,A5,A6⟩:=ABq hp;obtain ⟨A7,A8,A9⟩:=ACe A5;refine ACq 34359731616 (fun x:(LiI) × (Value) × LnA × LnN × LvA × (Int)=>[(5,x.2.1),(13,(.int .i64 x.2.2.2.2.2))]) (fun k x h'=>iter A7 k (x.1,x.2.2.2.2.2)=some Au/\Kst h h' (K7.L.set 0 (aO2 (cI .i64) 35 2 x.2.2.1 x.2.2.2.1 x.2.2.2.2.1 x.2.1 x.1))) (by kernel_rfl) fuel (([],(.slice none 0 0),[],[],[],0):(LiI) × (Value) × LnA × LnN × LvA × (Int)) ?_ ⟨rfl,rfl,trivial⟩ ?_
 ·exact ⟨A9,K7⟩
 rintro Cm ⟨Ba,Cn,Co,Bb,Bc,Be⟩ Cp Cq ⟨Bf,Ab⟩;obtain ⟨Bg,Cr,rfl,Ac,Ae⟩:=AB7 Bf;rw [A8] at Ac;dsimp only at Ac;unfold AKi at Ac;refine ABp (ACu rfl rfl (ABt (ABr (⟨_,rfl,fun Af=>?_,fun Af=>?_⟩))))
 ·refine ABy (q_t (ABr (ABw (ABp ?_))));obtain ⟨Ct,Bh,Bi⟩:=ABq (AC8 Ac Af);refine AFg ACi rfl H2 rfl Bh fun Cu Cv Cw Bj Av=>AB6 AC3 rfl (AB1 Bj Ab.x) (AC1 (ABv (ABr (ABp (Wo (ADh ACs rfl Av (Wo (ABt (ABw ?_)))))))));have Aw:=Kst.anil (cI .i64) 2 Ab;obtain ⟨Ax,Bl,Bm⟩:=ABq Bi;obtain ⟨Bn,Bo,Bp⟩:=ACe Bl;refine ACq 1073218816 (fun x:(LiA) × (Value) × LnA × (Int)=>[(8,x.2.1),(19,(.int .i64 x.2.2.2))]) (fun k x h'=>iter Bn k (x.1,x.2.2.2)=some Ax/\Kst h h' (Aw.L.set 0 (aO (cI .i64) 2 x.2.2.1 x.2.1 x.1))) (by kernel_rfl) fuel (([],(.slice none 0 0),[],0):(LiA) × (Value) × LnA × (Int)) ?_ ⟨rfl,rfl,trivial⟩ ?_
  ·exact ⟨Bp,Aw⟩
  rintro Cx ⟨Ay,Bq,Br,Bt⟩ Cy Cz ⟨Bu,Aa⟩;obtain ⟨Bv,C0,rfl,Ad,Ag⟩:=AB7 Bu;rw [Bo] at Ad;dsimp only at Ad;unfold AIa at Ad;refine ABp (ACu rfl rfl (ABt (ABr (⟨_,rfl,fun Ah=>?_,fun Ah=>?_⟩))))
  ·refine ABy (q_t (ABr (ABw (ABp ?_))));obtain ⟨C1,Bw,Bx⟩:=ABq (AC8 Ad Ah);refine AHe (c:=(cI .i64)) ACs rfl Av rfl Bw fun C2 C3 C4 By Bz=>?_;obtain rfl:=By;refine AB6 ACx rfl (AB1 (Bz 0 _ rfl) Aa.x) (ABv (AB5 (Wo (Wo (Wo ?_)))));obtain ⟨Ai,B1,B3⟩:=ABq Bx;refine ADb rfl (AT6 B1) fun C5 C6 B4 B5=>?_;subst B5;have Az:=Aa.e B4;obtain ⟨B6,B7⟩:=ifN B3;refine AM2 ACs AMw rfl rfl trivial tt2 (fun _=>rfl) rfl (show ((cI .i64)).rep _ Ai [(.int .i64 Ai)] from rfl) (Az.o p0) (by decide) B6 fun C7 B8 B9 C8 Ca Cb Cd=>ACk (ACr (q_b (q_t (AB5 (ACz rfl rfl (Wo (ABt ?_)))))));obtain rfl:=ABo B7;exact ⟨Bv,(((Ay ++ [Ai]),B9,B8,(w64 (Bt + 1))):(LiA) × (Value) × LnA × (Int)),Nat.lt_succ_self _,⟨Ag,(Az.uo p0 Cb Ca Cd)⟩,rfl,rfl,trivial⟩
  ·obtain rfl:=ABo (AC9 Ad Ah);change _=Ax at Ag;subst Ag;refine ACh (ACj (ACj (ADo (q_t (AB5 (Wo (Wo ?_)))))));obtain ⟨Ce,Cf⟩:=ifN Bm;refine AY3 ACi AN2 rfl rfl trivial tt2 (fun _=>rfl) rfl (Aa.o p0) (Aa.o2 p1) (Aa.dj p0 p1 (by decide)) (by decide) Ce fun C9 Cg Ch Da Ci Cj Ck=>ACk (ACr (q_b (q_t (AB5 (ACz rfl rfl (Wo (ABt ?_)))))));obtain rfl:=ABo Cf;exact ⟨Bg,(((Ba ++ [Ay]),Ch,Cg,(Bb ++ [Br]),(Bc ++ [Bq]),(w64 (Be + 1))):(LiI) × (Value) × LnA × LnN × LvA × (Int)),Nat.lt_succ_self _,⟨Ae,(Aa.m2 p0 p1 (by decide) Cj Ci Ck).sel [1] (by decide)⟩,rfl,rfl,trivial⟩
 ·obtain rfl:=ABo (AC9 Ac Af);change _=Au at Ae;subst Ae;refine ACh (ACj (ACj (ADo (q_t (ABp (Wo (ABv (ABx ?_))))))));obtain rfl:=ABo A6;exact ⟨_,ABz,Ab.x,_,_,_,_,rfl,(Ab.o2 p0),Ab.s.sel [0] (by decide)⟩
def AIu (fuel:Nat) (a3 a7:LiI) (Ab:Int) (Ae:LiA) (Aa:Int):Option ((Int) ⊕ ((Bool) ⊕ (Unit))):=
  (if Aa < (Ae.length:Int) then ((gI a3 Ab).bind fun Af=>((gI Af Aa).bind fun Ag=>((gI a7 Ab).bind fun Ah=>((gI Ah Aa).bind fun Ai=>(if ¬ Ag=Ai then (some (Sum.inr<| Sum.inl <| false)) else (some (Sum.inl (w64 (Aa + 1))))))))) else (some (Sum.inr<| Sum.inr <| ())))
def AIv (fuel:Nat) (a3 a7:LiI) (Aa:Int):Option ((Int) ⊕ ((Bool) ⊕ (Unit))):=
  (if Aa < (a3.length:Int) then ((gI a3 Aa).bind fun Ad=>((gI a7 Aa).bind fun Ae=>(if ¬ (Ad.length:Int)=(Ae.length:Int) then (some (Sum.inr<| Sum.inl <| false)) else ((iter (fun s=>AIu fuel a3 a7 Aa Ad s) fuel 0).bind (fun ex=>match ex with | Sum.inl Af=>(some (Sum.inr<| Sum.inl <| Af)) | Sum.inr (_)=>(some (Sum.inl (w64 (Aa + 1))))))))) else (some (Sum.inr<| Sum.inr <| ())))
def AIr (fuel:Nat) (a3 a7:LiI):Option Bool:=
  (if ¬ (a3.length:Int)=(a7.length:Int) then (some false) else ((iter (fun s=>AIv fuel a3 a7 s) fuel 0).bind (fun ex=>match ex with | Sum.inl Ac=>(some Ac) | Sum.inr (_)=>(some true))))
theorem ATc {fuel:Nat} {h:ABu} {Av:Value} {a3:LiI} {Ax:Value} {a7:LiI} {r:Bool} (H2:AEq (cI .i64) h Av a3) (H6:AEq (cI .i64) h Ax a7) (hp:AIr fuel a3 a7=some r):ACn Tryz.prog 60 #[Av,Ax] h (fun x h'=>Ext h h'/\x= .bool r):=by
 unfold AIr at hp;refine cwf (l:=[_,_]) Tryz.func60 rfl rfl (ABp (ABv (ABr (ABp (Wo (ADa ACi rfl H2 (Wo (ADa ACi rfl H6 (AEn rfl rfl (ABt ?_))))))))));have K0:=Kst.k0 h;refine ⟨_,rfl,fun Ak=>?_,fun Ak=>?_⟩
 ·refine ABp (ABv (ABx (AB4 ?_)));obtain rfl:=ABo (AC8 hp Ak);exact ⟨_,ABz,K0.x,rfl⟩
 ·refine ABy (q_t (ABr (ABp (Wo (ADa ACi rfl H2 (Wo (ABt (ABw ?_))))))));obtain ⟨Ah,A6,Am⟩:=ABq (AC9 hp Ak);obtain ⟨A7,A8,A9⟩:=ACe A6;refine ACq 9007199254724720 (fun x:(Int)=>[(14,(.int .i64 x))]) (fun k x h'=>iter A7 k x=some Ah/\Kst h h' (K0.L)) (by kernel_rfl) fuel (0:(Int)) ?_ ⟨rfl,trivial⟩ ?_
  ·exact ⟨A9,K0⟩
  rintro Cd Ba Ce Cf ⟨Bb,Aa⟩;obtain ⟨Bc,Cg,rfl,Ae,Ab⟩:=AB7 Bb;rw [A8] at Ae;dsimp only at Ae;unfold AIv at Ae;refine ABp (ACu rfl rfl (ABt (ABr (⟨_,rfl,fun Ao=>?_,fun Ao=>?_⟩))))
  ·refine ABy (q_t (ABr (ABw (ABp (Wo (ABv (ABr (ABr (AKm (Wo (Wo ?_)))))))))));obtain ⟨Ch,Az,Be⟩:=ABq (AC8 Ae Ao);refine AFg ACi rfl H2 rfl Az fun Ci Cj Ck Bf Bg=>AB6 AC3 rfl (AB1 Bf Aa.x) (ADh ACs rfl Bg (Wo (Wo ?_)));obtain ⟨Cm,Bh,A3⟩:=ABq Be;refine AFg ACi rfl H6 rfl Bh fun Cn Co Cp Bi Bj=>AB6 AC3 rfl (AB1 Bi Aa.x) (ADh ACs rfl Bj (AEn rfl rfl (ABt (⟨_,rfl,fun Ap=>?_,fun Ap=>?_⟩))))
   ·refine ABp (ABv ?_);obtain rfl:=ABo (AC8 A3 Ap);change _=Ah at Ab;subst Ab;refine ABx (AB4 (ADe (AB4 (AB4 (ADe (AB4 ?_))))));obtain rfl:=ABo Am;exact ⟨_,ABz,Aa.x,rfl⟩
   ·refine ABy (q_t (ABp (Wo (Wo (AFg ACi rfl H2 rfl Az fun Cq Cr Ct Bl Bm=>AB6 AC3 rfl (AB1 Bl Aa.x) (ADh ACs rfl Bm (Wo (ABt (ABw ?_)))))))));obtain ⟨Aq,Bn,A4⟩:=ABq (AC9 A3 Ap);obtain ⟨Bo,Bp,Bq⟩:=ACe Bn;refine ACq 4503591037435984 (fun x:(Int)=>[(33,(.int .i64 x))]) (fun k x h'=>iter Bo k x=some Aq/\Kst h h' (Aa.L)) (by kernel_rfl) fuel (0:(Int)) ?_ ⟨rfl,trivial⟩ ?_
    ·exact ⟨Bq,Aa⟩
    rintro Cu Br Cv Cw ⟨Bt,Ac⟩;obtain ⟨Bu,Cx,rfl,Af,Ag⟩:=AB7 Bt;rw [Bp] at Af;dsimp only at Af;unfold AIu at Af;refine ABp (ACu rfl rfl (ABt (ABr (⟨_,rfl,fun Ar=>?_,fun Ar=>?_⟩))))
    ·refine ABy (q_t (ABr (ABw (ABp (Wo (ABv (ABr (AKm (Wo (Wo ?_))))))))));obtain ⟨Cy,Bv,Bw⟩:=ABq (AC8 Af Ar);refine AFg ACi rfl H2 rfl Bv fun Cz C0 C1 Bx By=>AB6 AC3 rfl (AB1 Bx Ac.x) (Wo ?_);obtain ⟨C2,Bz,B1⟩:=ABq Bw;refine AHe (c:=(cI .i64)) ACs rfl By rfl Bz fun C3 C4 C5 B3 B4=>?_;obtain rfl:=B3;refine AB6 ACx rfl (AB1 (B4 0 _ rfl) Ac.x) (Wo (Wo ?_));obtain ⟨C6,B5,B6⟩:=ABq B1;refine AFg ACi rfl H6 rfl B5 fun C7 C8 C9 B7 B8=>AB6 AC3 rfl (AB1 B7 Ac.x) (Wo ?_);obtain ⟨Da,B9,A5⟩:=ABq B6;refine AHe (c:=(cI .i64)) ACs rfl B8 rfl B9 fun Db Dc Dd Ca Cb=>?_;obtain rfl:=Ca;refine AB6 ACx rfl (AB1 (Cb 0 _ rfl) Ac.x) (AEn rfl rfl (ABt (⟨_,rfl,fun Au=>?_,fun Au=>?_⟩)))
     ·refine ABp (ABv ?_);obtain rfl:=ABo (AC8 A5 Au);change _=Aq at Ag;subst Ag;obtain rfl:=ABo A4;change _=Ah at Ab;subst Ab;refine ABx (ADe (AB4 (AB4 (ADe (ADe (AB4 (AB4 (ADe (AB4 ?_)))))))));obtain rfl:=ABo Am;exact ⟨_,ABz,Ac.x,rfl⟩
     ·refine ABy (q_b (q_t (AB5 (ACz rfl rfl (Wo (ABt ?_))))));obtain rfl:=ABo (AC9 A5 Au);exact ⟨Bu,((w64 (Br + 1)):(Int)),Nat.lt_succ_self _,⟨Ag,Ac⟩,rfl,trivial⟩
    ·obtain rfl:=ABo (AC9 Af Ar);change _=Aq at Ag;subst Ag;refine ACh (ACj (ACj (ADo (q_b (q_t (AB5 (ACz rfl rfl (Wo (ABt ?_)))))))));obtain rfl:=ABo A4;exact ⟨Bc,((w64 (Ba + 1)):(Int)),Nat.lt_succ_self _,⟨Ab,Ac⟩,rfl,trivial⟩
  ·obtain rfl:=ABo (AC9 Ae Ao);change _=Ah at Ab;subst Ab;refine ACh (ACj (ACj (ADo (q_t (ABp (ABv (ABx ?_)))))));obtain rfl:=ABo Am;exact ⟨_,ABz,Aa.x,rfl⟩
def AHw (fuel:Nat) (a9:Int) (Af Ae:LiI) (Ag Ac Ab:Int) (Ad:LiA):Option ((Int × LiA) ⊕ ((LiA))):=
  (if Ab < (Ae.length:Int) then ((gI Ad Ac).bind fun Ah=>((gI Af Ag).bind fun Ai=>((gI Ai Ab).bind fun Aj=>((gI Ae Ab).bind fun Ak=>((gI Ak Ac).bind fun Am=>(if a9≠0 then (if a9≠0 then (some (Sum.inl ((w64 (Ab + 1)),(sI Ad Ac (Int.tmod (w64 (Ah + (Int.tmod (w64 (Aj * Am)) a9))) a9))))) else none) else none)))))) else (some (Sum.inr<| Ad)))
def AHx (fuel:Nat) (a9:Int) (Ad Ae:LiI) (Af:Int) (Ag:LiA) (Aa:Int) (Ab:LiA):Option ((Int × LiA) ⊕ ((LiA))):=
  (if Aa < ((List.replicate (Int.toNat (Ag.length:Int)) (0:Int)).length:Int) then ((iter (fun s=>AHw fuel a9 Ad Ae Af Aa s.1 s.2) fuel (0,Ab)).bind (fun (Ah:LiA)=>(some (Sum.inl ((w64 (Aa + 1)),Ah))))) else (some (Sum.inr<| Ab)))
def AHy (fuel:Nat) (a9:Int) (Ad Ae Ab:LiI) (Ac:Int):Option ((LiI × Int) ⊕ ((LiI))):=
  (if Ac < (Ad.length:Int) then ((gI Ae 0).bind fun Aa=>(if 0<=(Aa.length:Int)/\(Aa.length:Int)<=100000000 then ((iter (fun s=>AHx fuel a9 Ad Ae Ac Aa s.1 s.2) fuel (0,(List.replicate (Int.toNat (Aa.length:Int)) (0:Int)))).bind (fun (Ag:LiA)=>(if Ab.length<=100000000 then (some (Sum.inl ((Ab ++ [Ag]),(w64 (Ac + 1))))) else none))) else none)) else (some (Sum.inr<| Ab)))
def AFx (fuel:Nat) (a3 a7:LiI) (a9:Int):Option LiI:=
  ((AEo fuel a3 a9).bind fun Ad=>((AEo fuel a7 a9).bind fun Ae=>((iter (fun s=>AHy fuel a9 Ad Ae s.1 s.2) fuel ([],0)).bind (fun (Af:LiI)=>(some Af)))))
theorem ANl {fuel:Nat} {h:ABu} {Aw:Value} {a3:LiI} {Ay:Value} {a7:LiI} {a9:Int} {r:LiI} (H2:AEq (cI .i64) h Aw a3) (H6:AEq (cI .i64) h Ay a7) (hp:AFx fuel a3 a7 a9=some r):ACn Tryz.prog 105 #[Aw,Ay,(.int .i64 a9)] h (fun x h'=>Ext h h'/\ ∃ (x0:Value) (F0:List Nat) (Bu:List LnA) (Bv:List Value),x=x0/\AFf (cI .i64) 35 2 h' F0 Bu Bv x0 r/\Sp h' h.size [F0]):=by
 unfold AFx at hp;refine cwf (l:=[_,_,_]) Tryz.func105 rfl rfl (ABp (AC1 (Wo (Wo ?_))));have K0:=Kst.k0 h;obtain ⟨D9,Bw,Bx⟩:=ABq hp;refine ADb rfl (AKj (H2.ext K0.x) Bw) fun Ea Eb By Bz=>?_;obtain ⟨Ec,Ed,Ee,Ef,rfl,B1,B3⟩:=Bz;refine Wo (Wo ?_);have A6:=K0.no2 By B3 B1;obtain ⟨Eg,B4,B5⟩:=ABq Bx;refine ADb rfl (AKj (H6.ext A6.x) B4) fun Eh Ei B6 B7=>?_;obtain ⟨Ej,Ek,El,Em,rfl,B8,B9⟩:=B7;refine ACk (AC1 (ABv (ABr (ABp (Wo ?_)))));have A7:=A6.no2 B6 B9 B8;refine ADa ACi rfl (A7.o2 p1).rd (Wo (ABt (ABw ?_)));have A8:=Kst.anil2 (cI .i64) 35 2 A7;obtain ⟨A9,Ca,Cb⟩:=ABq B5;obtain ⟨Cd,Ce,Cf⟩:=ACe Ca;refine ACq 4722366482869644169088 (fun x:(LiI) × (Value) × LnA × LnN × LvA × (Int)=>[(7,x.2.1),(20,(.int .i64 x.2.2.2.2.2))]) (fun k x h'=>iter Cd k (x.1,x.2.2.2.2.2)=some A9/\Kst h h' (A8.L.set 0 (aO2 (cI .i64) 35 2 x.2.2.1 x.2.2.2.1 x.2.2.2.2.1 x.2.1 x.1))) (by kernel_rfl) fuel (([],(.slice none 0 0),[],[],[],0):(LiI) × (Value) × LnA × LnN × LvA × (Int)) ?_ ⟨rfl,rfl,trivial⟩ ?_
 ·exact ⟨Cf,A8⟩
 rintro En ⟨Cg,Eo,Ep,Ch,Ci,Ba⟩ Er Es ⟨Cj,Ad⟩;obtain ⟨Ck,Et,rfl,Ae,Ai⟩:=AB7 Cj;rw [Ce] at Ae;dsimp only at Ae;unfold AHy at Ae;refine ABp (ACu rfl rfl (ABt (ABr (⟨_,rfl,fun Aj=>?_,fun Aj=>?_⟩))))
 ·refine ABy (q_t (ABr (ABw (ABp (Wo (AC1 (Wo ?_)))))));obtain ⟨Cm,Bb,Cn⟩:=ABq (AC8 Ae Aj);refine ADl ACi rfl (Ad.o2 p1) rfl Bb fun Eu Ev Ew Co Cp=>AB6 AC3 rfl Cp (ADh ACs rfl ((Ad.o2 p1).rowI Co Bb) ?_);obtain ⟨Cq,Cr⟩:=ifN Cn;refine ARb (c:=(cI .i64)) (a:=0) ACs AMw rfl rfl (fun _=>rfl) rfl trivial tt2 rfl rfl (by decide) Cq fun Ct Ak Ey Cu Cv Cw Cx=>ABv (ABr (ABp (Wo ?_)));have Am:=Ad.no Cv (AIj Cw Cx) Cu;refine ADh ACs rfl (Am.o p0).rd (Wo (ABt (ABw ?_)));obtain ⟨Bc,Cy,Cz⟩:=ABq Cr;obtain ⟨C0,C1,C2⟩:=ACe Cy;refine ACq 147573952588602674176 (fun x:(Int) × (LiA) × LnA=>[(30,(.int .i64 x.1))]) (fun k x h'=>iter C0 k (x.1,x.2.1)=some Bc/\Kst h h' (Am.L.set 0 (aO (cI .i64) 2 x.2.2 Ak x.2.1))) (by kernel_rfl) fuel ((0,(List.replicate (Int.toNat (Cm.length:Int)) (0:Int)),[Ct]):(Int) × (LiA) × LnA) ?_ ⟨rfl,trivial⟩ ?_
  ·exact ⟨C2,Am⟩
  rintro Ez ⟨Be,Bf,Bg⟩ Fa Fb ⟨C3,Ab⟩;obtain ⟨C4,Fc,rfl,Af,Ao⟩:=AB7 C3;rw [C1] at Af;dsimp only at Af;unfold AHx at Af;refine ABp (ACu rfl rfl (ABt (ABr (⟨_,rfl,fun Ap=>?_,fun Ap=>?_⟩))))
  ·refine ABy (q_t (ABr (ABw (ABp (Wo (AC1 (Wo (ADa ACi rfl (Ab.o2 p2).rd (Wo (ABt (ABw ?_)))))))))));obtain ⟨Bh,C5,C6⟩:=ABq (AC8 Af Ap);obtain ⟨C7,C8,C9⟩:=ACe C5;refine ACq 73786976260478470144 (fun x:(Int) × (LiA) × LnA=>[(35,(.int .i64 x.1))]) (fun k x h'=>iter C7 k (x.1,x.2.1)=some Bh/\Kst h h' (Ab.L.set 0 (aO (cI .i64) 2 x.2.2 Ak x.2.1))) (by kernel_rfl) fuel ((0,Bf,Bg):(Int) × (LiA) × LnA) ?_ ⟨rfl,trivial⟩ ?_
   ·exact ⟨C9,Ab⟩
   rintro Fd ⟨Bi,Bj,Bl⟩ Fe Ff ⟨Da,Aa⟩;obtain ⟨Db,Fg,rfl,Ag,Aq⟩:=AB7 Da;rw [C8] at Ag;dsimp only at Ag;unfold AHw at Ag;refine ABp (ACu rfl rfl (ABt (ABr (⟨_,rfl,fun Ar=>?_,fun Ar=>?_⟩))))
   ·refine ABy (q_t (ABr (ABw (ABp (Wo (ABv (AKm (Wo (Wo (Wo (Wo ?_)))))))))));obtain ⟨Bm,Ah,Dc⟩:=ABq (AC8 Ag Ar);refine AYl ACs rfl (Aa.o p0) rfl Ah fun Fh Dd=>?_;obtain ⟨Fi,De,Df⟩:=(Aa.o p0).cells Dd Ah;obtain rfl:=De;refine AB6 ACx rfl (Df 0 _ rfl) (Wo (Wo ?_));obtain ⟨Fj,Au,Dg⟩:=ABq Dc;refine ADl ACi rfl (Aa.o2 p3) rfl Au fun Fk Fl Fm Dh Di=>AB6 AC3 rfl Di (Wo ?_);obtain ⟨Bn,Bo,Dj⟩:=ABq Dg;refine AD2 (m:=Ba) ACs rfl (Aa.o2 p3) Dh Au rfl Bo fun Fo Dk=>?_;obtain ⟨Fp,Dl,Dn⟩:=(Aa.o2 p3).cells Dk Au Bo;obtain rfl:=Dl;refine AB6 ACx rfl (Dn 0 _ rfl) (Wo (Wo ?_));obtain ⟨Fq,Av,Do⟩:=ABq Dj;refine ADl ACi rfl (Aa.o2 p2) rfl Av fun Fr Ft Fu Dp Dq=>AB6 AC3 rfl Dq (Wo ?_);obtain ⟨Bp,Bq,Dr⟩:=ABq Do;refine AD2 (m:=Bi) ACs rfl (Aa.o2 p2) Dp Av rfl Bq fun Fv Ds=>?_;obtain ⟨Fw,Dt,Du⟩:=(Aa.o2 p2).cells Ds Av Bq;obtain rfl:=Dt;refine AB6 ACx rfl (Du 0 _ rfl) (AQ3 rfl rfl (Wo ?_));obtain ⟨Dv,Dw⟩:=ifN Dr;refine AHh rfl rfl Dv (ACz rfl rfl (Wo ?_));obtain ⟨Dx,Dy⟩:=ifN Dw;refine AHh rfl rfl Dx (AYl ACs rfl (Aa.o p0) rfl Ah fun Fx Dz=>Auf (AG8 ACx rfl rfl rfl) (Aa.o p0) Dz Ah (show ((cI .i64)).rep _ (Int.tmod (w64 (Bm + (Int.tmod (w64 (Bn * Bp)) a9))) a9) _ from rfl) fun Fy D0 D1=>ACr (q_b (q_t (AB5 (ACz rfl rfl (Wo (ABt ?_)))))));obtain rfl:=ABo Dy;exact ⟨Db,(((w64 (Bi + 1)),(sI Bj Be (Int.tmod (w64 (Bm + (Int.tmod (w64 (Bn * Bp)) a9))) a9)),Bl):(Int) × (LiA) × LnA),Nat.lt_succ_self _,⟨Aq,(Aa.uO p0 D1 D0)⟩,rfl,trivial⟩
   ·obtain rfl:=ABo (AC9 Ag Ar);change _=Bh at Aq;subst Aq;refine ACh (ACj (ACj (ADo (q_b (q_t (AB5 (ACz rfl rfl (Wo (ABt ?_)))))))));obtain rfl:=ABo C6;exact ⟨C4,(((w64 (Be + 1)),Bj,Bl):(Int) × (LiA) × LnA),Nat.lt_succ_self _,⟨Ao,Aa⟩,rfl,trivial⟩
  ·obtain rfl:=ABo (AC9 Af Ap);change _=Bc at Ao;subst Ao;refine ACh (ACj (ACj (ADo (q_t (AB5 (Wo (Wo ?_)))))));obtain ⟨D2,D3⟩:=ifN Cz;refine AY3 ACi AN2 rfl rfl trivial tt2 (fun _=>rfl) rfl (Ab.o p0) (Ab.o2 p1) (Ab.dj p0 p1 (by decide)) (by decide) D2 fun Fz D4 D5 F4 D6 D7 D8=>ACk (ACr (q_b (q_t (AB5 (ACz rfl rfl (Wo (ABt ?_)))))));obtain rfl:=ABo D3;exact ⟨Ck,(((Cg ++ [Bf]),D5,D4,(Ch ++ [Bg]),(Ci ++ [Ak]),(w64 (Ba + 1))):(LiI) × (Value) × LnA × LnN × LvA × (Int)),Nat.lt_succ_self _,⟨Ai,(Ab.m2 p0 p1 (by decide) D7 D6 D8).sel [1,2,3] (by decide)⟩,rfl,rfl,trivial⟩
 ·obtain rfl:=ABo (AC9 Ae Aj);change _=A9 at Ai;subst Ai;refine ACh (ACj (ACj (ADo (q_t (ABp (Wo (ABv (ABx ?_))))))));obtain rfl:=ABo Cb;exact ⟨_,ABz,Ad.x,_,_,_,_,rfl,(Ad.o2 p0),Ad.s.sel [0] (by decide)⟩
def AHb (fuel:Nat) (a3:LiI) (Ad:Int) (Aa:LiA) (Ab:Int):Option ((LiA × Int) ⊕ ((LiA))):=
  (if Ab < (a3.length:Int) then ((gI a3 Ab).bind fun Ae=>((gI Ae Ad).bind fun Af=>(if Aa.length<=100000000 then (some (Sum.inl ((Aa ++ [Af]),(w64 (Ab + 1))))) else none))) else (some (Sum.inr<| Aa)))
def AHc (fuel:Nat) (a3:LiI) (x5:LiA) (Aa:LiI) (Ab:Int):Option ((LiI × Int) ⊕ ((LiI))):=
  (if Ab < (x5.length:Int) then ((iter (fun s=>AHb fuel a3 Ab s.1 s.2) fuel ([],0)).bind (fun (Ae:LiA)=>(if Aa.length<=100000000 then (some (Sum.inl ((Aa ++ [Ae]),(w64 (Ab + 1))))) else none))) else (some (Sum.inr<| Aa)))
def AGl (fuel:Nat) (a3:LiI):Option LiI:=
  ((gI a3 0).bind fun x5=>((iter (fun s=>AHc fuel a3 x5 s.1 s.2) fuel ([],0)).bind (fun (Ac:LiI)=>(some Ac))))
theorem AQm {fuel:Nat} {h:ABu} {Ak:Value} {a3 r:LiI} (H2:AEq (cI .i64) h Ak a3) (hp:AGl fuel a3=some r):ACn Tryz.prog 106 #[Ak] h (fun x h'=>Ext h h'/\ ∃ (x0:Value) (F0:List Nat) (Ay:List LnA) (Az:List Value),x=x0/\AFf (cI .i64) 35 2 h' F0 Ay Az x0 r/\Sp h' h.size [F0]):=by
 unfold AGl at hp;refine cwf (l:=[_]) Tryz.func106 rfl rfl (ABp (AC1 (ABv (ABr (ABp (Wo ?_))))));have K0:=Kst.k0 h;obtain ⟨x5,A3,A4⟩:=ABq hp;refine AFg ACi rfl H2 rfl A3 fun b8 o9 Co A5 A6=>AB6 AC3 rfl (AB1 A5 K0.x) (ADh ACs rfl A6 (Wo (ABt (ABw ?_))));have Ar:=Kst.anil2 (cI .i64) 35 2 K0;obtain ⟨Au,A7,A8⟩:=ABq A4;obtain ⟨A9,Ba,Bb⟩:=ACe A7;refine ACq 34359736440 (fun x:(LiI) × (Value) × LnA × LnN × LvA × (Int)=>[(3,x.2.1),(11,(.int .i64 x.2.2.2.2.2))]) (fun k x h'=>iter A9 k (x.1,x.2.2.2.2.2)=some Au/\Kst h h' (Ar.L.set 0 (aO2 (cI .i64) 35 2 x.2.2.1 x.2.2.2.1 x.2.2.2.2.1 x.2.1 x.1))) (by kernel_rfl) fuel (([],(.slice none 0 0),[],[],[],0):(LiI) × (Value) × LnA × LnN × LvA × (Int)) ?_ ⟨rfl,rfl,trivial⟩ ?_
 ·exact ⟨Bb,Ar⟩
 rintro Cp ⟨Bc,Cq,Cr,Be,Bf,Bg⟩ Ct Cu ⟨Bh,Ad⟩;obtain ⟨Bi,Cv,rfl,Ab,Af⟩:=AB7 Bh;rw [Ba] at Ab;dsimp only at Ab;unfold AHc at Ab;refine ABp (ACu rfl rfl (ABt (ABr (⟨_,rfl,fun Ag=>?_,fun Ag=>?_⟩))))
 ·refine ABy (q_t (ABr (ABw (ABp (Wo (AC1 (ABv (ABr (ABp (Wo ?_))))))))));refine ADa ACi rfl H2 (Wo (ABt (ABw ?_)));have Av:=Kst.anil (cI .i64) 2 Ad;obtain ⟨Aw,Bj,Bl⟩:=ABq (AC8 Ab Ag);obtain ⟨Bm,Bn,Bo⟩:=ACe Bj;refine ACq 1073676384 (fun x:(LiA) × (Value) × LnA × (Int)=>[(5,x.2.1),(16,(.int .i64 x.2.2.2))]) (fun k x h'=>iter Bm k (x.1,x.2.2.2)=some Aw/\Kst h h' (Av.L.set 0 (aO (cI .i64) 2 x.2.2.1 x.2.1 x.1))) (by kernel_rfl) fuel (([],(.slice none 0 0),[],0):(LiA) × (Value) × LnA × (Int)) ?_ ⟨rfl,rfl,trivial⟩ ?_
  ·exact ⟨Bo,Av⟩
  rintro Cw ⟨Ax,Bp,Bq,Br⟩ Cx Cy ⟨Bt,Aa⟩;obtain ⟨Bu,Cz,rfl,Ac,Ah⟩:=AB7 Bt;rw [Bn] at Ac;dsimp only at Ac;unfold AHb at Ac;refine ABp (ACu rfl rfl (ABt (ABr (⟨_,rfl,fun Ai=>?_,fun Ai=>?_⟩))))
  ·refine ABy (q_t (ABr (ABw (ABp (Wo (ABv (AB5 (Wo (Wo (Wo ?_))))))))));obtain ⟨C0,Bv,Bw⟩:=ABq (AC8 Ac Ai);refine AFg ACi rfl H2 rfl Bv fun C1 C2 C3 Bx By=>AB6 AC3 rfl (AB1 Bx Aa.x) (Wo ?_);obtain ⟨Aj,Bz,B1⟩:=ABq Bw;refine AHe (c:=(cI .i64)) ACs rfl By rfl Bz fun C4 C5 C6 B3 B4=>?_;obtain rfl:=B3;refine AB6 ACx rfl (AB1 (B4 0 _ rfl) Aa.x) ?_;obtain ⟨B5,B6⟩:=ifN B1;refine AM2 ACs AMw rfl rfl trivial tt2 (fun _=>rfl) rfl (show ((cI .i64)).rep _ Aj [(.int .i64 Aj)] from rfl) (Aa.o p0) (by decide) B5 fun C7 B7 B8 C8 B9 Ca Cb=>ACk (ACr (q_b (q_t (AB5 (ACz rfl rfl (Wo (ABt ?_)))))));obtain rfl:=ABo B6;exact ⟨Bu,(((Ax ++ [Aj]),B8,B7,(w64 (Br + 1))):(LiA) × (Value) × LnA × (Int)),Nat.lt_succ_self _,⟨Ah,(Aa.uo p0 Ca B9 Cb)⟩,rfl,rfl,trivial⟩
  ·obtain rfl:=ABo (AC9 Ac Ai);change _=Aw at Ah;subst Ah;refine ACh (ACj (ACj (ADo (q_t (AB5 (Wo (Wo ?_)))))));obtain ⟨Cd,Ce⟩:=ifN Bl;refine AY3 ACi AN2 rfl rfl trivial tt2 (fun _=>rfl) rfl (Aa.o p0) (Aa.o2 p1) (Aa.dj p0 p1 (by decide)) (by decide) Cd fun C9 Cf Cg Da Ch Ci Cj=>ACk (ACr (q_b (q_t (AB5 (ACz rfl rfl (Wo (ABt ?_)))))));obtain rfl:=ABo Ce;exact ⟨Bi,(((Bc ++ [Ax]),Cg,Cf,(Be ++ [Bq]),(Bf ++ [Bp]),(w64 (Bg + 1))):(LiI) × (Value) × LnA × LnN × LvA × (Int)),Nat.lt_succ_self _,⟨Af,(Aa.m2 p0 p1 (by decide) Ci Ch Cj).sel [1] (by decide)⟩,rfl,rfl,trivial⟩
 ·obtain rfl:=ABo (AC9 Ab Ag);change _=Au at Af;subst Af;refine ACh (ACj (ACj (ADo (q_t (ABp (Wo (ABv (ABx ?_))))))));obtain rfl:=ABo A8;exact ⟨_,ABz,Ad.x,_,_,_,_,rfl,(Ad.o2 p0),Ad.s.sel [0] (by decide)⟩
def AF4 (fuel:Nat) (a3 a7:LiI) (a9:Int):Option (LiI × Int):=
  ((((AEx fuel a3).bind fun Ad=>(if (!Ad)=true then (some (Sum.inl <| ([],3))) else ((AEx fuel a7).bind fun Ae=>(if (!Ae)=true then (some (Sum.inl <| ([],3))) else ((gI a3 0).bind fun Af=>(if ¬ (a3.length:Int)=(Af.length:Int) then (some (Sum.inl <| ([],3))) else (if ¬ (a7.length:Int)=(a3.length:Int) then (some (Sum.inl <| ([],3))) else (some (Sum.inr <| ()))))))))):Option (((LiI × Int)) ⊕ (Unit))).bind (fun ex=>match ex with | Sum.inl Ag=>(some Ag) | Sum.inr (_)=>((AFw fuel a9).bind fun Ah=>(if (!Ah)=true then (some ([],1)) else ((AGl fuel a7).bind fun Ai=>((AFx fuel a3 a7 a9).bind fun Aj=>((AFx fuel Ai Aj a9).bind fun Ak=>(some (Ak,0)))))))))
theorem AP5 {fuel:Nat} {h:ABu} {Ax:Value} {a3:LiI} {Ay:Value} {a7:LiI} {a9:Int} {r:(LiI × Int)} (H2:AEq (cI .i64) h Ax a3) (H6:AEq (cI .i64) h Ay a7) (hp:AF4 fuel a3 a7 a9=some r):ACn Tryz.prog 59 #[Ax,Ay,(.int .i64 a9)] h (fun x h'=>Ext h h'/\ ∃ (x0:Value) (F0:List Nat) (Be:List LnA) (Bf:List Value),x= .tuple #[x0,.int .i64 r.2]/\AFf (cI .i64) 35 2 h' F0 Be Bf x0 r.1/\Sp h' h.size [F0]):=by
 unfold AF4 at hp;refine cwf (l:=[_,_,_]) Tryz.func59 rfl rfl (ABp (ACk (ABv ?_)));have K0:=Kst.k0 h;obtain ⟨Bg,Bh,Ab⟩:=ABq hp;refine ALi 4294967232 (fun x:Unit=>[]) (fun x h'=>(Sum.inr <| ())=Bg/\Kst h h' (K0.L)) ?_ ?_
 ·refine ABp (Wo ?_);obtain ⟨Bi,Bj,A6⟩:=ABq Bh;refine ADb rfl (ALa (H2.ext K0.x) Bj) fun Cn Co Bl Bm=>?_;subst Bm;refine AE1 rfl (Wo ?_);have Ah:=K0.e Bl;cases A7:(!Bi)
  ·refine AB3 11 false (Wo (AB3 11 false ?_));obtain ⟨Bn,Bo,A8⟩:=ABq (AH8 A6 A7);refine ADb rfl (ALa (H6.ext Ah.x) Bo) fun Cp Cq Bp Bq=>?_;subst Bq;refine AB3 11 false (AE1 rfl (AB0 rfl (Wo ?_)));have Ac:=Ah.e Bp;cases A9:(!Bn)
   ·refine AB3 16 false (Wo (AB3 16 false (ADa ACi rfl H2 (AB3 16 false (Wo (AB3 16 false ?_))))));obtain ⟨Br,Bt,Ba⟩:=ABq (AH8 A8 A9);refine AFg ACi rfl H2 rfl Bt fun Cr Ct Cu Bu Bv=>AB3 16 false (AB6 AC3 rfl (AB1 Bu Ac.x) (AB3 16 false (ADh ACs rfl Bv (AB3 16 false (AEn rfl rfl (AB0 rfl (Wo ?_)))))));by_cases Ae: ¬ (a3.length:Int)=(Br.length:Int)
    ·rw [decide_eq_true Ae];refine AFe 25 true (AB2 rfl (ABt (ACd rfl (ABp (ACk (ABv ?_))))));obtain rfl:=ABo (ifT Ba Ae);refine ABx (AB4 ?_);have Ai:=Kst.anil2 (cI .i64) 35 2 Ac;obtain rfl:=ABo Ab;exact ⟨_,ADj,Ai.x,_,_,_,_,rfl,(Ai.o2 p0),Ai.s.sel [0] (by decide)⟩
    ·have Bb:=ifF Ba Ae;rw [decide_eq_false Ae];refine AB3 25 false (Wo (AB3 25 false (ADa ACi rfl H6 (AB3 25 false (Wo (AB3 25 false (ADa ACi rfl H2 (AB3 25 false (AEn rfl rfl (AB0 rfl (ABt (⟨_,rfl,fun Aj=>?_,fun Aj=>?_⟩))))))))))))
     ·refine ABp (ACk (ABv ?_));obtain rfl:=ABo (AC8 Bb Aj);refine ABx (AB4 ?_);have Ak:=Kst.anil2 (cI .i64) 35 2 Ac;obtain rfl:=ABo Ab;exact ⟨_,ADj,Ak.x,_,_,_,_,rfl,(Ak.o2 p0),Ak.s.sel [0] (by decide)⟩
     ·refine ABy (q_t ?_);exact ⟨(():Unit),⟨ABo (AC9 Bb Aj),Ac⟩,trivial⟩
   ·refine AFe 16 true (AIg 16 true (AB2 rfl (Wo (AFe 25 true (AB2 rfl (ABt (ACd rfl (ABp (ACk (ABv ?_))))))))));obtain rfl:=ABo (ifT A8 A9);refine ABx (AB4 ?_);have Am:=Kst.anil2 (cI .i64) 35 2 Ac;obtain rfl:=ABo Ab;exact ⟨_,ADj,Am.x,_,_,_,_,rfl,(Am.o2 p0),Am.s.sel [0] (by decide)⟩
  ·refine AE2 11 true (AB2 rfl (Wo (AFe 16 true (AIg 16 true (AB2 rfl (Wo (AFe 25 true (AB2 rfl (ABt (ACd rfl (ABp (ACk (ABv ?_)))))))))))));obtain rfl:=ABo (ifT A6 A7);refine ABx (AB4 ?_);have Ao:=Kst.anil2 (cI .i64) 35 2 Ah;obtain rfl:=ABo Ab;exact ⟨_,ADj,Ao.x,_,_,_,_,rfl,(Ao.o2 p0),Ao.s.sel [0] (by decide)⟩
 rintro ⟨⟩ Cv Cw ⟨Bw,Bx⟩;subst Bw;refine ABr (ABp (Wo ?_));obtain ⟨Cx,By,Bc⟩:=ABq Ab;refine ADb rfl (ANk By) fun Cy Cz Bz B1=>?_;subst B1;refine AE1 rfl (ABt ?_);have Ap:=Bx.e Bz;refine ⟨_,rfl,fun Aq=>?_,fun Aq=>?_⟩
 ·refine ABp (ACk (ABv (ABx (AB4 ?_))));have Ar:=Kst.anil2 (cI .i64) 35 2 Ap;obtain rfl:=ABo (ifT Bc Aq);exact ⟨_,ADj,Ar.x,_,_,_,_,rfl,(Ar.o2 p0),Ar.s.sel [0] (by decide)⟩
 ·refine ABy (q_t (ABp (Wo ?_)));obtain ⟨C0,B3,B4⟩:=ABq (AH8 Bc Aq);refine ADb rfl (AQm (H6.ext Ap.x) B3) fun C1 C2 B5 B6=>?_;obtain ⟨C3,C4,C5,C6,rfl,B7,B8⟩:=B6;refine Wo (Wo (Wo ?_));have Au:=Ap.no2 B5 B8 B7;obtain ⟨C7,B9,Ca⟩:=ABq B4;refine ADb rfl (ANl (H2.ext Au.x) (H6.ext Au.x) B9) fun C8 C9 Cb Cd=>?_;obtain ⟨Da,Db,Dc,Dd,rfl,Ce,Cf⟩:=Cd;refine Wo ?_;have Av:=Au.no2 Cb Cf Ce;obtain ⟨De,Cg,Ch⟩:=ABq Ca;refine ADb rfl (ANl (Av.o2 p1).rd (Av.o2 p0).rd Cg) fun Df Dg Ci Cj=>?_;obtain ⟨Dh,Di,Dj,Dk,rfl,Ck,Cm⟩:=Cj;refine ACk (ABv (ABx ?_));have Aw:=Av.no2 Ci Cm Ck;obtain rfl:=ABo Ch;exact ⟨_,ADj,Aw.x,_,_,_,_,rfl,(Aw.o2 p0),Aw.s.sel [0] (by decide)⟩
def AHz (fuel:Nat) (a3:LiI):Option Bool:=
  ((AEx fuel a3).bind fun x5=>(if x5=true then ((gI a3 0).bind fun Ac=>(if (a3.length:Int)=(Ac.length:Int) then (some (decide ((a3.length:Int)<=8))) else (some false))) else (some false)))
theorem AR2 {fuel:Nat} {h:ABu} {Ae:Value} {a3:LiI} {r:Bool} (H2:AEq (cI .i64) h Ae a3) (hp:AHz fuel a3=some r):ACn Tryz.prog 99 #[Ae] h (fun x h'=>Ext h h'/\x= .bool r):=by
 unfold AHz at hp;refine cwf (l:=[_]) Tryz.func99 rfl rfl (ABp (AC1 (Wo ?_)));have K0:=Kst.k0 h;obtain ⟨x5,Ak,Ag⟩:=ABq hp;refine ADb rfl (ALa (H2.ext K0.x) Ak) fun Av h9 E8 Ao=>?_;subst Ao;refine Wo ?_;have Ab:=K0.e E8;cases Ah:x5
 ·refine AFe 5 false (AIg 5 false (AB0 rfl (Wo (AE2 14 false (AB0 rfl (ABv (ABx ?_)))))));obtain rfl:=ABo (AH8 Ag Ah);exact ⟨_,ABz,Ab.x,rfl⟩
 ·refine AB3 5 true (Wo (AB3 5 true (ADa ACi rfl H2 (AB3 5 true (Wo (AB3 5 true ?_))))));obtain ⟨Ap,Aq,Ai⟩:=ABq (ifT Ag Ah);refine AFg ACi rfl H2 rfl Aq fun Ax Ay Az Ar Au=>AB3 5 true (AB6 AC3 rfl (AB1 Ar Ab.x) (AB3 5 true (ADh ACs rfl Au (AB3 5 true (AD8 rfl rfl (AB2 rfl (Wo ?_)))))));by_cases Ac:(a3.length:Int)=(Ap.length:Int)
  ·rw [decide_eq_true Ac];refine AB3 14 true (Wo (AB3 14 true (ADa ACi rfl H2 (AB3 14 true (AWd rfl rfl (AB2 rfl (ABv (ABx ?_))))))));obtain rfl:=ABo (ifT Ai Ac);exact ⟨_,ABz,Ab.x,rfl⟩
  ·rw [decide_eq_false Ac];refine AE2 14 false (AB0 rfl (ABv (ABx ?_)));obtain rfl:=ABo (ifF Ai Ac);exact ⟨_,ABz,Ab.x,rfl⟩
def AFv (fuel:Nat) (a3:LiI):Option Int:=
  ((AE9 fuel a3).bind fun Ab=>((AC6 fuel Ab).bind fun Ac=>(some Ac)))
theorem APo {fuel:Nat} {h:ABu} {Ac:Value} {a3:LiI} {r:Int} (H2:AEq (cI .i64) h Ac a3) (hp:AFv fuel a3=some r):ACn Tryz.prog 102 #[Ac] h (fun x h'=>Ext h h'/\ ∃ (x0:Value),x=x0/\ZZ h' x0 r):=by
 unfold AFv at hp;refine cwf (l:=[_]) Tryz.func102 rfl rfl (ABp (ADi [.bool false,.slice none 0 0] AGk rfl trivial tt2 fun b5 h6 V7 E8 S9=>AK0 (Wo ?_)));have Af:=(Kst.k0 h).nb E8 S9 V7;obtain ⟨Ba,Am,Ao⟩:=ABq hp;refine ADb rfl (AJ3 (H2.ext Af.x) Am) fun Bb Bc Ap Aq=>?_;obtain ⟨Be,Bf,Bg,Bh,rfl,Ar,Au⟩:=Aq;have Ag:=Af.no2 Ap Au Ar;obtain ⟨Bi,Av,Aw⟩:=ABq Ao;refine ADb rfl (AEi (Ag.o2 p0).rd Av) fun Bj Ax Ay Az=>?_;obtain ⟨Bl,rfl,A3⟩:=Az;obtain ⟨A4,rfl,A5⟩:=A3.cs;have Aa:=(Ag.e Ay).az A5;refine AC7 A4 ACf (cZ.klen (Aa.z p0)) (cZ.klen (AB9 Ax)) rfl rfl (cZ.one (Aa.z p0)) (Aa.b p2) fun Bm A6 A7=>ABt (ABx ?_);have Ab:=Aa.sb p2 A7 A6 rfl;obtain rfl:=ABo Aw;exact ⟨_,AEe ACf (cZ.klen (Ab.z p0)) rfl (Ab.b p2),Ab.x,_,rfl,(Ab.z p0).2⟩
def AH5 (fuel:Nat) (a3:LiI) (a5:Int):Option (Int × Int):=
  ((AHz fuel a3).bind fun x6=>(if (!x6)=true then (some (0,3)) else ((AFw fuel a5).bind fun Ad=>(if (!Ad)=true then (some (0,1)) else ((AEo fuel a3 a5).bind fun Ae=>((AFv fuel Ae).bind fun Af=>((AHo fuel Af a5).bind fun Ag=>(some (Ag,0)))))))))
theorem AT7 {fuel:Nat} {h:ABu} {Ad:Value} {a3:LiI} {a5:Int} {r:(Int × Int)} (H2:AEq (cI .i64) h Ad a3) (hp:AH5 fuel a3 a5=some r):ACn Tryz.prog 58 #[Ad,(.int .i64 a5)] h (fun x h'=>Ext h h'/\x= .tuple #[.int .i64 r.1,.int .i64 r.2]):=by
 unfold AH5 at hp;refine cwf (l:=[_,_]) Tryz.func58 rfl rfl (ABp (ACk (ABv (ABr (ABp (Wo ?_))))));have K0:=Kst.k0 h;obtain ⟨x6,Ap,Ai⟩:=ABq hp;refine ADb rfl (AR2 (H2.ext K0.x) Ap) fun Bi Bj E9 Ar=>?_;subst Ar;refine AE1 rfl (ABt ?_);have Aj:=K0.e E9;refine ⟨_,rfl,fun Aa=>?_,fun Aa=>?_⟩
 ·refine ABp (ACk (ABv (ABx (AB4 ?_))));obtain rfl:=ABo (ifT Ai Aa);exact ⟨_,ADj,Aj.x,rfl⟩
 ·refine ABy (q_t (ABr (ABp (Wo ?_))));obtain ⟨Bl,Au,Ak⟩:=ABq (AH8 Ai Aa);refine ADb rfl (ANk Au) fun Bm Bn Av Aw=>?_;subst Aw;refine AE1 rfl (ABt ?_);have Ab:=Aj.e Av;refine ⟨_,rfl,fun Ac=>?_,fun Ac=>?_⟩
  ·refine ABp (ACk (ABv (ABx (AB4 ?_))));obtain rfl:=ABo (ifT Ak Ac);exact ⟨_,ADj,Ab.x,rfl⟩
  ·refine ABy (q_t (ABp (Wo (Wo ?_))));obtain ⟨Bo,Ax,Ay⟩:=ABq (AH8 Ak Ac);refine ADb rfl (AKj (H2.ext Ab.x) Ax) fun Bp Bq Az A3=>?_;obtain ⟨Br,Bt,Bu,Bv,rfl,A4,A5⟩:=A3;have Am:=Ab.no2 Az A5 A4;obtain ⟨Bw,A6,A7⟩:=ABq Ay;refine ADb rfl (APo (Am.o2 p0).rd A6) fun Bx By A8 A9=>?_;obtain ⟨Bz,rfl,Ba⟩:=A9;obtain ⟨B1,rfl,Bb⟩:=Ba.cs;refine Wo ?_;have Ao:=(Am.e A8).az Bb;obtain ⟨B3,Bc,Be⟩:=ABq A7;refine ADb rfl (ARq (Ao.z p0).2 Bc) fun B4 B5 Bf Bg=>?_;subst Bg;refine ACk (ABv (ABx ?_));obtain rfl:=ABo Be;exact ⟨_,ADj,(Ao.e Bf).x,rfl⟩
end Go.Proofs.YtdnbklmefmoofaaGreatDoor
namespace Go.QF
theorem AZd:∀ {n:Nat} {m:Int} {F G:Nat->Nat->Int},(∀ i j,i < n->j < n->Eqm m (F i j) (G i j))->Eqm m (det n F) (det n G):=by
 intro n m
 induction n with
 | zero=>intro _ _ _;rfl
 | succ n ih=>
   intro F G h
   refine Eqm.psum fun i hi=>?_
   exact ((Eqm.refl _ _).mul (h i 0 hi (by omega))).mul (ih (F:=AGp i F) (G:=AGp i G) fun a b ha hb=>h _ _ (Amz ha) (by omega))
theorem Aj3 {n c i:Nat} {q m:Int} {F:Nat->Nat->Int} (hc:c < n) (hi:i < n) (hne:c≠i):Eqm m (det n (ASz F c i q m)) (-det n F):=by
  rw [<- ANe (F:=F) hc hi hne (-q),<- ARn (F:=ADz F c fun x=>F c x + -q * F i x) hc hi hne];refine AZd fun a b ha hb=>?_;unfold ASz;rw [ALt,ALt];simp only [ADf]
  have key:Eqm m ((F c b + (m - q) * F i b) % m) (F c b + -q * F i b):=by
    refine (Eqm.mod _ _).trans ?_;unfold Eqm;rw [show F c b + (m - q) * F i b=F c b + -q * F i b + m * F i b by grind,Int.add_mul_emod_self_left]
  split
  · split <;> first | exact key | rfl
  · split
    · split <;> first | exact key | rfl
    · first | rfl | exact key
theorem Anm {F:Nat->Nat->Int} {m s:Int}:∀ n,Eqm m (ATn F m s n) (s * AH7 (fun i=>F i i) n):=by
 intro n
 induction n with
 | zero=>unfold ATn AH7 Eqm;rw [Int.add_emod_right,Int.mul_one]
 | succ n ih=>
   unfold ATn AH7
   refine (Eqm.mod _ _).trans ?_
   rw [<- Int.mul_assoc]
   exact ((Eqm.mod _ _).trans ih).mul (Eqm.refl _ _)
def As0 (M:List (List Int)) (m:Int):Int:=if AOz M && AYu m then det M.length (ent M) % m else 0
def As1 (M:List (List Int)) (m:Int):Int:=if AOz M then (if AYu m then 0 else 1) else 3
end Go.QF
namespace Go.Proofs.YtdnbklmefmoofaaGreatDoor
open Go Go.QF
end Go.Proofs.YtdnbklmefmoofaaGreatDoor
namespace Go.Proofs.YtdnbklmefmoofaaGreatDoor
open Go Go.QF
theorem As2 {fuel:Nat} {a m:Int} (hm:0 < m) (Ae:m<=2147483647):AJa fuel a m=some (a % m):=by
 unfold AJa;rw [if_pos (by omega)];have h1:=Int.tmod_lt_of_pos a hm
 have h2: -m < Int.tmod a m:=by
   have:=Int.tmod_lt_of_pos (-a) hm
   rw [Int.neg_tmod] at this;omega
 have h3:Int.tmod a m=a % m∨Int.tmod a m=a % m - m:=by
   rcases Int.lt_or_le a 0 with h | h
   · have e1:Int.tmod a m= -((-a) % m):=by rw [show a= -(-a) by omega,Int.neg_tmod,Int.tmod_eq_emod_of_nonneg (by omega)];simp
     rcases Int.lt_or_eq_of_le (Int.emod_nonneg (-a) (by omega:m≠0)) with h4 | h4
     · right
       rw [e1]
       have:=Int.emod_add_mul_ediv (-a) m
       have h5:a % m=m - (-a) % m:=by
         have h6:=Int.emod_lt_of_pos (-a) hm
         have e:a=(m - (-a) % m) + m * (-(-a / m) - 1):=by
           have e0:m * (-(-a / m) - 1)= -(m * (-a / m)) - m:=by rw [Int.mul_sub,Int.mul_neg,Int.mul_one]
           omega
         conv=>lhs;rw [e]
         rw [Int.add_mul_emod_self_left,Int.emod_eq_of_lt (by omega) (by omega)]
       omega
     · left
       rw [e1,<- h4]
       have:m ∣ -a:=Int.dvd_of_emod_eq_zero h4.symm
       have:m ∣ a:=(Int.dvd_neg).1 this
       rw [Int.emod_eq_zero_of_dvd this];rfl
   · left;exact Int.tmod_eq_emod_of_nonneg h
 have h4:=Int.emod_nonneg a (by omega:m≠0);have h5:=Int.emod_lt_of_pos a hm;rcases h3 with h3 | h3
 ·rw [if_neg (by omega),h3]
 ·rw [if_pos (by omega),wk (by omega)];congr 1;omega
theorem Aii {fuel:Nat} {A:List (List Int)} (hf:21 < fuel):AEx fuel A=some (AQb A):=by
 apply ok_eq;unfold AEx;have hbad:∀ h: ¬ Valid A,AQb A=false:=fun h=>(Ak6 h).symm;refine ABs (Q:=fun ex=>match ex with | .inl e=>e=false/\AQb A=false | .inr _=>1<=A.length/\A.length<=16) (AB8 (fun h=>ABn ⟨rfl,hbad fun hv=>by have:=hv.1;omega⟩) fun h=>AB8 (fun h2=>ABn ⟨rfl,hbad fun hv=>by have:=hv.2.1;omega⟩) fun h2=>ABn ⟨by omega,by omega⟩) fun ex hex=>?_
 cases ex with
 | inl e=>exact ABn (hex.1.trans hex.2.symm)
 | inr u=>
   dsimp only at hex ⊢
   obtain ⟨z0,Aa⟩:∃ z,A[0]? =some z:=⟨A[0]'(by omega),List.getElem?_eq_getElem _⟩
   have hc:=AQ0 Aa
   refine ABs (AC4 (fun i (s:Int)=>s=(i:Int)/\ ∀ z∈A.take i,1<=z.length/\z.length<=16/\z.length=ANr A) A.length (Q:=fun ex=>match ex with | .inl e=>e=false/\AQb A=false | .inr _=>AQb A=true) ⟨rfl,by simp⟩ (by omega) fun i s hi hI=>?_) fun ex Ac=>?_
   · obtain ⟨rfl,hI⟩:=hI
     unfold AK9
     refine AB8 (fun h=>?_) (fun h=>ABn ?_)
     · have hi':i < A.length:=by omega
       obtain ⟨row,hrow⟩:∃ row,A[i]? =some row:=⟨A[i],List.getElem?_eq_getElem hi'⟩
       have bad: ¬ (1<=row.length/\row.length<=16/\row.length=ANr A)->AQb A=false:=fun hb=>hbad fun hv=>hb (by have:=hv.2.2.2.2 row (List.mem_of_getElem? hrow);have:=hv.2.2.1;have:=hv.2.2.2.1;omega)
       refine ACg hrow rfl (ACg Aa rfl (AB8 (fun h1=>ABn ⟨rfl,bad (by omega)⟩) fun h1=>AB8 (fun h2=>ABn ⟨rfl,bad (by omega)⟩) fun h2=>AB8 (fun h3=>ABn ⟨rfl,bad (by omega)⟩) fun h3=>ABn ⟨hi',wk (by omega),?_⟩))
       rw [List.take_add_one,hrow]
       intro z hz
       rcases List.mem_append.1 hz with hz | hz
       · exact hI z hz
       · rw [show z=row by simpa using hz];omega
     · obtain rfl:i=A.length:=by omega
       rw [List.take_length] at hI
       refine (Ak7 ⟨hex.1,hex.2,?_,?_,fun z hz=>(hI z hz).2.2⟩).symm
       · have:=hI z0 (List.mem_of_getElem? Aa);omega
       · have:=hI z0 (List.mem_of_getElem? Aa);omega
   · cases ex with
     | inl e=>exact ABn (Ac.1.trans Ac.2.symm)
     | inr u=>exact ABn Ac.symm
theorem Aj4 {fuel:Nat} {row:List Int} {m:Int} (hm:0 < m) (Aa:m<=2147483647) (hl:row.length<=100000000) (hf:row.length < fuel):iter (fun s=>AIa fuel m row s.1 s.2) fuel ([],0)=some (row.map (· % m)):=by
 apply ok_eq;refine AC4 (fun i s=>s=((row.take i).map (· % m),(i:Int))) row.length (by simp) hf fun i s hi hI=>?_;subst hI;unfold AIa;dsimp only;refine AB8 (fun h=>?_) (fun h=>ABn ?_)
 ·obtain ⟨x,hx⟩:∃ x,row[i]? =some x:=⟨row[i]'(by omega),List.getElem?_eq_getElem _⟩;refine ACg hx rfl (ABs (AC2 (As2 hm Aa)) fun y hy=>AEa (by simp;omega) (ABn ⟨by omega,?_⟩));subst hy;rw [wk (by omega),List.take_add_one,hx];simp
 ·obtain rfl:i=row.length:=by omega
  rw [List.take_length]
theorem Ae6 {fuel:Nat} {A:List (List Int)} {m:Int} (hm:0 < m) (Aa:m<=2147483647) (hl:A.length<=100000000) (hf:A.length < fuel) (hr:∀ z∈A,z.length<=100000000/\z.length < fuel):AEo fuel A m=some (AP0 A m):=by
 apply ok_eq;unfold AEo;refine ABs (AC4 (fun i s=>s=(AP0 (A.take i) m,(i:Int))) A.length (Q:=(· =AP0 A m)) (by simp [AP0]) hf fun i s hi hI=>?_) fun x hx=>ABn hx;subst hI;unfold AKi;dsimp only;refine AB8 (fun h=>?_) (fun h=>ABn ?_)
 ·have hi':i < A.length:=by omega
  obtain ⟨row,hrow⟩:∃ row,A[i]? =some row:=⟨A[i],List.getElem?_eq_getElem hi'⟩;have:=hr row (List.mem_of_getElem? hrow);refine ACg hrow rfl (ABs (AC2 (Aj4 hm Aa this.1 this.2)) fun y hy=>AEa (by simp [AP0];omega) (ABn ⟨hi',?_⟩));subst hy;rw [wk (by omega),List.take_add_one,hrow];simp [AP0]
 ·obtain rfl:i=A.length:=by omega
  rw [List.take_length]
theorem Ab8 {fuel:Nat} {m:Int}:AFw fuel m=some (AYu m):=by
 unfold AFw AYu;split
 ·congr 1;simp;omega
 ·congr 1;symm;simp;omega
theorem Ann {fuel:Nat} {A:List (List Int)} (hf:21 < fuel):AHz fuel A=some (AOz A):=by
 apply ok_eq;unfold AHz;refine ABs (AC2 (Aii hf)) fun v hv=>?_;subst hv;refine AB8 (fun h=>?_) (fun h=>ABn ?_)
 ·have hv:Valid A:=by simpa [AQb] using h
  obtain ⟨z0,Ab⟩:∃ z,A[0]? =some z:=⟨A[0]'(by have:=hv.1;omega),List.getElem?_eq_getElem _⟩;have hc:=AQ0 Ab;refine ACg Ab rfl (AB8 (fun h2=>ABn ?_) (fun h2=>ABn ?_))
  ·unfold AOz;rw [Bool.eq_iff_iff];simp only [decide_eq_true_eq];constructor
   ·intro h3;exact ⟨hv,by omega,by omega⟩
   ·intro h3;have:=h3.2.2;omega
  ·symm;unfold AOz;rw [decide_eq_false_iff_not];intro h3;have:=h3.2.1;omega
 ·symm;unfold AOz;rw [decide_eq_false_iff_not];intro h3;exact h (by simpa [AQb] using h3.1)
theorem Aj5 {fuel:Nat} {d m:Int} (hm:0 < m) (Aa:m<=2147483647) (hd:d.natAbs < AE3):AHo fuel d m=some (d % m):=by
 have h4:=Int.emod_nonneg d (by omega:m≠0);have h5:=Int.emod_lt_of_pos d hm;have hb:m.natAbs < AE3:=Nat.lt_of_lt_of_le (show m.natAbs < 2147483648 by omega) (by decide);unfold AHo ALf;rw [if_pos (by omega)];show (AFn fuel d m).bind _=_;unfold AFn AS3;rw [if_pos ⟨hd,hb,by omega⟩];show (AVj fuel (d % m)).bind _=_;unfold AVj;rw [if_pos (by omega)];rfl
theorem AYr {A:List (List Int)} {m:Int} (hm:0 < m) (Aa:m<=2147483647) (i j:Nat):(ent (AP0 A m) i j).natAbs<=m63:=by
 rw [Ahl];have h4:=Int.emod_nonneg (ent A i j) (by omega:m≠0);have h5:=Int.emod_lt_of_pos (ent A i j) hm;unfold m63;omega
theorem Aap {A:List (List Int)} {m:Int} (h:AOz A=true):AP0 A m=tab A.length A.length (ent (AP0 A m))/\okM (AP0 A m)=true/\A.length<=8/\1<=A.length:=by
 have hs:AZt A:=by simpa [AOz] using h
 obtain ⟨hv,h1,h2⟩:=hs
 have hr:∀ z∈AP0 A m,z.length=A.length:=fun z hz=>by
   obtain ⟨y,hy,rfl⟩:=List.mem_map.1 hz
   rw [List.length_map,hv.2.2.2.2 y hy];omega
 refine ⟨?_,?_,h2,hv.1⟩
 ·have:=AX0 hr;rwa [Ahk] at this
 ·unfold okM;rw [decide_eq_true_eq,Ahk];refine ⟨hv.1,by omega,fun z hz=>?_⟩;rw [hr z hz,Alc];exact ⟨hv.1,by omega,h1⟩
theorem Ag1 {fuel:Nat} {A:List (List Int)} {m:Int} (hf:21 < fuel) (hs:AOz A=true) (hm:AYu m=true):AFv fuel (AP0 A m)=some (det A.length (ent (AP0 A m))):=by
 have hm':2<=m/\m<=2147483647:=by simpa [AYu] using hm
 obtain ⟨ht,hok,h8,h1⟩:=Aap (m:=m) hs;unfold AFv
 have hr:∀ z∈AP0 A m,∀ x∈z,-9223372036854775808<=x/\x<=9223372036854775807:=fun z hz x hx=>by
   obtain ⟨y,hy,rfl⟩:=List.mem_map.1 hz
   obtain ⟨w,hw,rfl⟩:=List.mem_map.1 hx
   have h4:=Int.emod_nonneg w (by omega:m≠0)
   have h5:=Int.emod_lt_of_pos w (by omega:0 < m)
   omega
 rw [Aro hr (by omega),hok];show (AC6 fuel (AP0 A m)).bind _=_;have:=Asu (fuel:=fuel) (n:=A.length) (F:=ent (AP0 A m)) (by omega) (fun i j=>AYr (by omega) (by omega) i j) (by omega);rw [<- ht] at this;rw [this];rfl
theorem Aqi {A:List (List Int)} {m:Int} {n:Nat} (hm:0 < m) (Aa:m<=2147483647) (hn:n<=16):(det n (ent (AP0 A m))).natAbs < AE3:=Anb (Nat.le_trans (AXb fun i j=>AYr hm Aa i j) (Anc hn).1)
theorem Ae7 {A:List (List Int)} {m:Int} {n:Nat}:det n (ent (AP0 A m)) % m=det n (ent A) % m:=AZd fun i j _ _=>by rw [Ahl];exact Eqm.mod _ _
theorem Ano {fuel:Nat} {A:List (List Int)} {m:Int} (hf:21 < fuel) (hl:A.length<=20/\ ∀ z∈A,z.length<=20):AH5 fuel A m=some (As0 A m,As1 A m):=by
 apply ok_eq;unfold AH5 As0 As1;refine ABs (AC2 (Ann hf)) fun v hv=>?_;subst hv
 cases hs:AOz A with
 | false=>exact ABn rfl
 | true=>
   refine AB8 (fun h=>by cases h) fun _=>ABs (AC2 Ab8) fun v hv=>?_
   subst hv
   cases hm:AYu m with
   | false=>exact ABn rfl
   | true=>
     have hm':2<=m/\m<=2147483647:=by simpa [AYu] using hm
     refine AB8 (fun h=>by cases h) fun _=>ABs (AC2 (Ae6 (by omega) (by omega) (by omega) (by omega) fun z hz=>by have:=hl.2 z hz;omega)) fun R hR=>?_
     subst hR
     refine ABs (AC2 (Ag1 hf hs hm)) fun d hd=>?_
     subst hd
     obtain ⟨ht,hok,h8,h1⟩:=Aap (m:=m) hs
     refine ABs (AC2 (Aj5 (by omega) (by omega) (Aqi (by omega) (by omega) (by omega)))) fun x hx=>ABn ?_
     subst hx
     rw [Ae7];rfl
end Go.Proofs.YtdnbklmefmoofaaGreatDoor
namespace Go.QF
def As3 (n:Nat) (F:Nat->Nat->Int) (i j:Nat):Int:=det n (ADz F i (dl j))
def Aaq (n:Nat) (F:Nat->Nat->Int) (i j:Nat):Int:=As3 n F j i
def tau (j c:Nat):Nat:=if c=j then j + 1 else if c=j + 1 then j else c
theorem Ae8 {n j:Nat} {F:Nat->Nat->Int} (hj:j + 1 < n):det n (fun r c=>F r (tau j c))= -det n F:=by
 rw [<- ARp (fun r c=>F r (tau j c)),<- ARp F,<- ARn (F:=trF F) (a:=j) (b:=j + 1) (by omega) hj (by omega)];refine AD5 fun c r hc hr=>?_;rw [ALt];show F r (tau j c)=if c=j + 1 then F r j else if c=j then F r (j + 1) else F r c;unfold tau;by_cases h1:c=j + 1
 ·subst h1;simp
 ·by_cases h2:c=j
  ·subst h2;simp
  ·simp [h1,h2]
theorem ATd {f:Nat->Int} {n a:Nat} (ha:a < n) (h:∀ i,i < n->i≠a->f i=0):psum f n=f a:=by
 rw [ADc (g:=fun i=>if i=a then f a else 0) (fun k hk=>?_),ALs ha (fun i hi=>if_neg hi),if_pos rfl];by_cases e:k=a
 ·subst e;rw [if_pos rfl]
 ·rw [if_neg e,h k hk e]
theorem Aqj {n:Nat} {F:Nat->Nat->Int} {i j:Nat} (hi:i < n) (hj:j < n):psum (fun k=>F i k * As3 n F j k) n=if i=j then det n F else 0:=by
 have h:=Aae (F:=F) hj (F i) dl n
 have e:det n (ADz F j fun q=>psum (fun k=>F i k * dl k q) n)=det n (ADz F j (F i)):=AD5 fun r c _ hc=>by
   rw [ADf,ADf]
   split
   · exact Am6 (F:=F) (i:=i) hc
   · rfl
 unfold As3;rw [<- h,e];split
 ·subst_vars
  refine AD5 fun r c _ _=>?_;rw [ADf];split
  ·subst_vars;rfl
  ·rfl
 ·rename_i hij;refine AOs hi hj hij ?_;funext c;rw [ADf,if_neg hij,ADf,if_pos rfl]
theorem Aj6 {n:Nat} {F:Nat->Nat->Int} {i j:Nat} (hi:i < n) (hj:j < n):psum (fun k=>F i k * Aaq n F k j) n=det n F * dl i j:=by
 unfold Aaq;rw [Aqj hi hj];unfold dl;split <;> simp
end Go.QF
namespace Go.Proofs.YtdnbklmefmoofaaGreatDoor
open Go Go.QF
theorem Ae9 {fuel n r c:Nat} {F:Nat->Nat->Int} {f g:Nat->Nat} (hr:r<=100) (hc:c<=100) (hf:100 < fuel) (hfn:∀ a,a < r->f a < n) (hgn:∀ a,a < c->g a < n):AF8 fuel (tab n n F) (AEj r fun a=>(f a:Int)) (AEj c fun a=>(g a:Int))=some (tab r c fun a b=>F (f a) (g b)):=by
 apply ok_eq;unfold AF8;refine ABs (AC4 (fun i s=>s=(AEj i fun a=>AEj c fun b=>F (f a) (g b),(i:Int))) r (Q:=(· =tab r c fun a b=>F (f a) (g b))) rfl (by omega) fun i s hi hI=>?_) fun y hy=>ABn hy;subst hI;unfold AKb;dsimp only;rw [ACw];refine AB8 (fun h=>?_) (fun h=>ABn ?_)
 ·have hi':i < r:=by omega
  refine ACg (ACp hi') rfl (ABs (AC4 (fun j s=>s=(AEj j fun b=>F (f i) (g b),(j:Int))) c (Q:=(· =AEj c fun b=>F (f i) (g b))) rfl (by omega) fun j s hj hJ=>?_) fun e he=>AEa (by rw [ACw];omega) (ABn ⟨hi',?_⟩))
  ·subst hJ;unfold AKa;dsimp only;rw [ACw,ACw];refine AB8 (fun h2=>?_) (fun h2=>ABn ?_)
   ·have hj':j < c:=by omega
    refine ACg (ACp hj') rfl (ACg (ACv (hfn i hi')) rfl (ACg (ACp (hgn j hj')) rfl (AEa (by omega) (ABn ⟨hj',?_⟩))));rw [wk (by omega),<- AOq];rfl
   ·obtain rfl:j=c:=by omega
    rfl
  ·subst he;rw [wk (by omega),<- AOq];rfl
 ·obtain rfl:i=r:=by omega
  rfl
theorem Ab9 {fuel n:Nat} {F:Nat->Nat->Int} (hn:1<=n) (Ad:n<=16) (hf:100 < fuel):AFa fuel (tab n n F)=some ((n:Int),true):=by
 apply ok_eq;unfold AFa;refine ABs (Q:=(· =((n:Int),(n:Int),true))) ?_ fun e he=>?_
 ·unfold AD0;rw [ACt];refine ABs (Q:=fun ex=>match ex with | .inl _=>False | .inr _=>True) (AB8 (fun h=>by omega) fun h=>AB8 (fun h2=>by omega) fun h2=>ABn trivial) fun ex hex=>?_
  cases ex with
  | inl e=>exact hex.elim
  | inr u=>
    dsimp only
    refine ABs (AC4 (fun i (s:Int)=>s=i) n (Q:=fun ex=>match ex with | .inl _=>False | .inr _=>True) rfl (by omega) fun i s hi hI=>?_) fun ex hex=>?_
    · subst hI
      unfold AG1
      rw [ACt]
      refine AB8 (fun h=>ACg (ACv (by omega)) rfl ?_) fun h=>ABn trivial
      rw [ACw]
      refine AB8 (fun h2=>by omega) fun h2=>AB8 (fun h3=>by omega) fun h3=>ACg (n:=0) (ACv (by omega)) rfl (AB8 (fun h4=>?_) fun h4=>ABn ⟨by omega,wk (by omega)⟩)
      rw [ACw] at h4;omega
    · cases ex with
      | inl e=>exact hex.elim
      | inr u=>exact ACg (n:=0) (ACv (by omega)) rfl (ABn (by rw [ACw]))
 ·subst he;dsimp only;exact AB8 (fun h=>by cases h) fun _=>AB8 (fun h=>absurd rfl h) fun _=>ABn rfl
end Go.Proofs.YtdnbklmefmoofaaGreatDoor
namespace Go.QF
def AMp (n:Nat) (A:Nat->Nat->Int):Prop:= ∀ i j,i < n->j < n->A i j=A j i
def AOb (n:Nat) (A:Nat->Nat->Int):Prop:= ∀ k,k<=n->0 < det k A
theorem AQn {k i r n:Nat} (hk:k<=n) (hi:i < n):bro k i r < n:=by unfold bro;split <;> omega
theorem Ag2 {n k:Nat} {A:Nat->Nat->Int} (hs:AMp n A) (hk:k<=n) {i j:Nat} (hi:i < n) (hj:j < n):Mn k A i j=Mn k A j i:=by
 unfold Mn;rw [<- ARp];refine AD5 fun r c _ _=>?_;exact hs _ _ (AQn hk hi) (AQn hk hj)
theorem Ag3 {k:Nat} (A:Nat->Nat->Int) {i:Nat} (j:Nat) (hi:i < k):Mn k A i j=0:=by
 unfold Mn;refine AOs (a:=i) (b:=k) (by omega) (by omega) (by omega) ?_;funext c;unfold bro;simp [hi]
def bil (n k:Nat) (A:Nat->Nat->Int) (x y:Nat->Int):Int:=psum (fun i=>psum (fun j=>Mn k A i j * x i * y j) n) n
def lin (n k:Nat) (A:Nat->Nat->Int) (x:Nat->Int):Int:=psum (fun j=>Mn k A k j * x j) n
theorem Aj7 (f g:Nat->Int) (n:Nat):psum (fun i=>psum (fun j=>f i * g j) n) n=psum f n * psum g n:=by
 rw [ADc (g:=fun i=>psum g n * f i) (fun i _=>by rw [AIh,Int.mul_comm]),AIh,Int.mul_comm]
theorem Au8 {n k:Nat} {A:Nat->Nat->Int} (hs:AMp n A) (hk:k < n) (h0:det k A≠0) (x y:Nat->Int):det (k + 1) A * bil n k A x y=lin n k A x * lin n k A y + det k A * bil n (k + 1) A x y:=by
 unfold bil;rw [<- AIh,<- AIh];have e1:lin n k A x * lin n k A y=psum (fun i=>psum (fun j=>Mn k A k i * x i * (Mn k A k j * y j)) n) n:=(Aj7 (fun i=>Mn k A k i * x i) (fun j=>Mn k A k j * y j) n).symm;rw [e1,<- AN9];refine ADc fun i hi=>?_;rw [<- AIh,<- AIh,<- AN9];refine ADc fun j hj=>?_;have h:=AVm (k:=k) (A:=A) h0 i j;rw [ALh,Ag2 hs (by omega) hi hk] at h;have h2:det (k + 1) A * Mn k A i j=Mn k A k i * Mn k A k j + det k A * Mn (k + 1) A i j:=by omega
 grind
theorem Aqk (n:Nat) (A:Nat->Nat->Int) (x y:Nat->Int):bil n n A x y=0:=by
 unfold bil;rw [ADc (g:=fun _=>0) fun i hi=>?_]
 ·exact AQy n
 ·rw [ADc (g:=fun _=>0) fun j _=>by rw [Ag3 A j hi];simp];exact AQy n
theorem ARr {n:Nat} {A:Nat->Nat->Int} (hs:AMp n A) (hp:AOb n A) (x:Nat->Int):∀ d k,k + d=n->0<=bil n k A x x:=by
 intro d
 induction d with
 | zero=>
     intro k hk;obtain rfl:k=n:=by omega
     rw [Aqk];exact Int.le_refl _
 | succ d ih=>
   intro k hk
   have h1:=ih (k + 1) (by omega)
   have h2:=hp k (by omega)
   have h3:=hp (k + 1) (by omega)
   have h4:=Au8 hs (show k < n by omega) (by omega) x x
   have h5:0<=lin n k A x * lin n k A x:=by
     rcases Int.le_total 0 (lin n k A x) with h | h
     · exact Int.mul_nonneg h h
     · exact Int.mul_nonneg_of_nonpos_of_nonpos h h
   have h6:=Int.mul_nonneg (Int.le_of_lt h2) h1
   exact Int.nonneg_of_mul_nonneg_right (by omega) h3
theorem Adh {n k:Nat} {A:Nat->Nat->Int} (a b:Int) (x y z:Nat->Int):bil n k A (fun i=>a * x i + b * y i) z=a * bil n k A x z + b * bil n k A y z:=by
 unfold bil;rw [<- AIh,<- AIh,<- AN9];refine ADc fun i _=>?_;rw [<- AIh,<- AIh,<- AN9];exact ADc fun j _=>by grind
theorem Adi {n k:Nat} {A:Nat->Nat->Int} (hs:AMp n A) (hk:k<=n) (x y:Nat->Int):bil n k A x y=bil n k A y x:=by
 unfold bil;rw [Abu];refine ADc fun j hj=>ADc fun i hi=>?_;rw [Ag2 hs hk hi hj];grind
theorem Anp {n k:Nat} {A:Nat->Nat->Int} (hs:AMp n A) (hp:AOb n A) (hk:k<=n) (x y:Nat->Int):bil n k A x y * bil n k A x y<=bil n k A x x * bil n k A y y:=by
  obtain ⟨p,hpq⟩:∃ p,bil n k A x y=p:=⟨_,rfl⟩;obtain ⟨q,hq⟩:∃ q,bil n k A x x=q:=⟨_,rfl⟩;obtain ⟨r,hr⟩:∃ r,bil n k A y y=r:=⟨_,rfl⟩;have hyx:bil n k A y x=p:=by rw [Adi hs hk];exact hpq
  have key:∀ a b:Int,0<=a * (a * q + b * p) + b * (a * p + b * r):=fun a b=>by
    have h:=ARr hs hp (fun i=>a * x i + b * y i) (n - k) k (by omega);rw [Adh,Adi hs hk x (fun i=>a * x i + b * y i),Adh,Adi hs hk y (fun i=>a * x i + b * y i),Adh,hpq,hq,hr,hyx] at h;exact h
  rw [hpq,hq,hr];have hq0:0<=q:=hq ▸ ARr hs hp x (n - k) k (by omega)
  rcases Int.lt_or_eq_of_le hq0 with h | h
  · have h1:=key p (-q);have e:p * (p * q + -q * p) + -q * (p * p + -q * r)=q * (q * r - p * p):=by grind
    rw [e] at h1;have:=Int.nonneg_of_mul_nonneg_right h1 h;omega
  · subst h;have h1:=key (-(r + 1)) p;have h2:=key 1 0;have e: -(r + 1) * (-(r + 1) * 0 + p * p) + p * (-(r + 1) * p + p * r)= -((r + 2) * (p * p)):=by grind
    rw [e] at h1;have hr0:0<=r:=hr ▸ ARr hs hp y (n - k) k (by omega)
    have hpp:0<=p * p:=by
      rcases Int.le_total 0 p with h | h
      · exact Int.mul_nonneg h h
      · exact Int.mul_nonneg_of_nonpos_of_nonpos h h
    have:0<=r * (p * p):=Int.mul_nonneg hr0 hpp;have e2:(r + 2) * (p * p)=r * (p * p) + 2 * (p * p):=by grind
    rw [Int.zero_mul];omega
theorem AXh {n k:Nat} {A:Nat->Nat->Int} {i j:Nat} (hi:i < n) (hj:j < n):bil n k A (dl i) (dl j)=Mn k A i j:=by
 unfold bil;rw [ATd hi (fun a ha hne=>?_),ATd hj (fun b hb hne=>?_)]
 ·simp [dl]
 ·unfold dl;rw [if_neg (fun h:j=b=>hne h.symm)];simp
 ·rw [ADc (g:=fun _=>0) fun b _=>by unfold dl;rw [if_neg (fun h:i=a=>hne h.symm)];simp];exact AQy n
theorem AYb {n k:Nat} {A:Nat->Nat->Int} (hs:AMp n A) (hp:AOb n A) (hk:k<=n) {i j:Nat} (hi:i < n) (hj:j < n):Mn k A i j * Mn k A i j<=Mn k A i i * Mn k A j j:=by
 have:=Anp hs hp hk (dl i) (dl j);rwa [AXh hi hj,AXh hi hi,AXh hj hj] at this
theorem AYc {n k:Nat} {A:Nat->Nat->Int} (hs:AMp n A) (hp:AOb n A) (hk:k<=n) {i:Nat} (hi:i < n):0<=Mn k A i i:=by
 have:=ARr hs hp (dl i) (n - k) k (by omega);rwa [AXh hi hi] at this
theorem Adj {n k:Nat} {A:Nat->Nat->Int} (hs:AMp n A) (hp:AOb n A) (hk:k < n) {i:Nat} (hi:i < n):det (k + 1) A * Mn k A i i=Mn k A i k * Mn k A i k + det k A * Mn (k + 1) A i i:=by
 have h:=AVm (k:=k) (A:=A) (by have:=hp k (by omega);omega) i i;rw [ALh,<- Ag2 hs (by omega) hi hk] at h;omega
theorem Anq {n:Nat} {A:Nat->Nat->Int} (hs:AMp n A) (hp:AOb n A) {i:Nat} (hi:i < n):∀ k,k<=n->Mn k A i i<=det k A * A i i:=by
 intro k
 induction k with
 | zero=>intro _;rw [AO9];simp [det]
 | succ k ih=>
   intro hk
   have h1:=ih (by omega)
   have h2:=Adj hs hp (show k < n by omega) hi
   have h3:0<=Mn k A i k * Mn k A i k:=by
     rcases Int.le_total 0 (Mn k A i k) with h | h
     · exact Int.mul_nonneg h h
     · exact Int.mul_nonneg_of_nonpos_of_nonpos h h
   have h4:=hp k (by omega)
   have h5:=hp (k + 1) (by omega)
   have h6:det (k + 1) A * Mn k A i i<=det (k + 1) A * (det k A * A i i):=Int.mul_le_mul_of_nonneg_left h1 (by omega)
   have h7:det k A * Mn (k + 1) A i i<=det k A * (det (k + 1) A * A i i):=by
     have e:det (k + 1) A * (det k A * A i i)=det k A * (det (k + 1) A * A i i):=by grind
     omega
   exact Int.le_of_mul_le_mul_left h7 h4
theorem Anr {n:Nat} {A:Nat->Nat->Int} (hs:AMp n A) (hp:AOb n A) {B:Int} (hB:1<=B) (hA:∀ i,i < n->A i i<=B):∀ k,k<=n->det k A<=B ^ k:=by
  intro k;induction k with
  | zero=>intro _;simp [det]
  | succ k ih=>
    intro hk;have h1:=ih (by omega);have h2:=Anq hs hp (show k < n by omega) k (by omega);rw [ALh] at h2;have h3:=hp k (by omega);have h4:det k A * A k k<=det k A * B:=Int.mul_le_mul_of_nonneg_left (hA k (by omega)) (by omega);have h5:det k A * B<=B ^ k * B:=Int.mul_le_mul_of_nonneg_right h1 (by omega);rw [Int.pow_succ];omega
theorem Aql {n:Nat} {A:Nat->Nat->Int} (hs:AMp n A) (hp:AOb n A) (x:Nat->Int) {k:Nat} (hk:k < n):x k * x k<=Aaq n A k k * bil n 0 A x x:=by
  have hd:=hp n (Nat.le_refl _)
  have hB:∀ y z:Nat->Int,bil n 0 A y z=psum (fun i=>y i * psum (fun j=>A i j * z j) n) n:=fun y z=>by
    unfold bil;refine ADc fun i _=>?_;rw [<- AIh];exact ADc fun j _=>by rw [AO9];grind
  have h1:∀ y:Nat->Int,bil n 0 A y (fun j=>Aaq n A j k)=det n A * y k:=fun y=>by
    rw [hB,ADc (g:=fun i=>y i * (det n A * dl i k)) (fun i hi=>by rw [Aj6 hi hk])];rw [ATd hk (fun i _ hne=>by unfold dl;rw [if_neg hne];simp)];simp [dl,Int.mul_comm]
  have h2:=Anp hs hp (Nat.zero_le n) x (fun j=>Aaq n A j k);rw [h1 x,h1 (fun j=>Aaq n A j k)] at h2;have e1:det n A * x k * (det n A * x k)=det n A * (det n A * (x k * x k)):=by grind
  have e2:bil n 0 A x x * (det n A * Aaq n A k k)=det n A * (Aaq n A k k * bil n 0 A x x):=by grind
  rw [e1,e2] at h2;have h3:=Int.le_of_mul_le_mul_left h2 hd
  have h4:0<=x k * x k:=by
    rcases Int.le_total 0 (x k) with h | h
    · exact Int.mul_nonneg h h
    · exact Int.mul_nonneg_of_nonpos_of_nonpos h h
  have h5:1 * (x k * x k)<=det n A * (x k * x k):=Int.mul_le_mul_of_nonneg_right (by omega) h4;omega
def AYd (A:Nat->Nat->Int) (i j:Nat) (c:Int):Nat->Nat->Int:=ADz A i fun s=>A i s + c * A j s
def Ans (A:Nat->Nat->Int) (i j:Nat) (c:Int):Nat->Nat->Int:=trF (AYd (trF A) i j c)
def AXi (A:Nat->Nat->Int) (i j:Nat) (c:Int):Nat->Nat->Int:=Ans (AYd A i j c) i j c
def swA (A:Nat->Nat->Int) (j:Nat):Nat->Nat->Int:=fun r s=>A (tau j r) (tau j s)
theorem Anu (l:Nat) (A:Nat->Nat->Int) (r s:Nat):Mn l (trF A) s r=Mn l A r s:=by
 unfold Mn;rw [<- ARp];rfl
theorem Afa {A:Nat->Nat->Int} {i j k:Nat} {c:Int} (hij:j < i):det k (AYd A i j c)=det k A:=by
 rcases Nat.lt_or_ge i k with h | h
 ·exact ANe h (by omega) (by omega) c
 ·refine AD5 fun r s hr _=>?_;unfold AYd;rw [ADf,if_neg (by omega)]
theorem Anv {A:Nat->Nat->Int} {i j k:Nat} {c:Int} (hij:j < i):det k (Ans A i j c)=det k A:=by
 unfold Ans;rw [ARp,Afa hij,ARp]
theorem APv {A:Nat->Nat->Int} {i j k:Nat} {c:Int} (hij:j < i):det k (AXi A i j c)=det k A:=by
 unfold AXi;rw [Anv hij,Afa hij]
theorem Adk {A:Nat->Nat->Int} {i j l r s:Nat} {c:Int} (hij:j < i) (hr:l<=r):Mn l (AYd A i j c) r s=Mn l A r s + if l<=i/\r=i then c * Mn l A j s else 0:=by
 rcases Nat.lt_or_ge i l with h | h
 ·rw [if_neg (by omega),Int.add_zero];unfold Mn;have e:=ANe (n:=l + 1) (F:=fun a b=>A (bro l r a) (bro l s b)) (a:=i) (b:=j) (by omega) (by omega) (by omega) c;rw [<- e];refine AD5 fun a b ha _=>?_;rw [ADf];unfold AYd;rw [ADf];have hbi:bro l r i=i:=by unfold bro;rw [if_pos h]
  have hbj:bro l r j=j:=by unfold bro;rw [if_pos (by omega)]
  by_cases ea:a=i
  ·subst ea;rw [hbi,if_pos rfl,if_pos rfl,hbj]
  ·rw [if_neg ea,if_neg];unfold bro;split <;> omega
 ·by_cases er:r=i
  ·subst er;rw [if_pos ⟨h,rfl⟩];unfold Mn;have e:=AT3 (n:=l + 1) (F:=fun a b=>A (bro l r a) (bro l s b)) (r:=l) (fun b=>A r (bro l s b)) (fun b=>A j (bro l s b)) 1 c (by omega)
   have e1:det (l + 1) (fun a b=>AYd A r j c (bro l r a) (bro l s b))=det (l + 1) (ADz (fun a b=>A (bro l r a) (bro l s b)) l fun q=>1 * A r (bro l s q) + c * A j (bro l s q)):=by
     refine AD5 fun a b ha _=>?_
     rw [ADf]
     unfold AYd
     rw [ADf]
     by_cases ea:a=l
     · subst ea
       rw [show bro a r a=r by unfold bro;rw [if_neg (by omega)],if_pos rfl,if_pos rfl,Int.one_mul]
     · rw [if_neg ea,if_neg]
       unfold bro;rw [if_pos (by omega)];omega
   have e2:det (l + 1) (ADz (fun a b=>A (bro l r a) (bro l s b)) l fun b=>A r (bro l s b))=det (l + 1) (fun a b=>A (bro l r a) (bro l s b)):=by
     refine AD5 fun a b ha _=>?_
     rw [ADf]
     by_cases ea:a=l
     · subst ea;rw [if_pos rfl,show bro a r a=r by unfold bro;rw [if_neg (by omega)]]
     · rw [if_neg ea]
   have e3:det (l + 1) (ADz (fun a b=>A (bro l r a) (bro l s b)) l fun b=>A j (bro l s b))=det (l + 1) (fun a b=>A (bro l j a) (bro l s b)):=by
     refine AD5 fun a b ha _=>?_
     rw [ADf]
     by_cases ea:a=l
     · subst ea;rw [if_pos rfl,show bro a j a=j by unfold bro;rw [if_neg (by omega)]]
     · rw [if_neg ea,show bro l r a=a by unfold bro;rw [if_pos (by omega)],show bro l j a=a by unfold bro;rw [if_pos (by omega)]]
   rw [e1,e,e2,e3,Int.one_mul]
  ·rw [if_neg (fun h=>er h.2),Int.add_zero];unfold Mn;refine AD5 fun a b ha _=>?_;unfold AYd;rw [ADf,if_neg];unfold bro;split <;> omega
theorem Aqm {A:Nat->Nat->Int} {i j l r s:Nat} {c:Int} (hij:j < i) (hs:l<=s):Mn l (Ans A i j c) r s=Mn l A r s + if l<=i/\s=i then c * Mn l A r j else 0:=by
 unfold Ans;rw [Anu,Adk hij hs,Anu,Anu]
theorem Anw {A:Nat->Nat->Int} {i j l r s:Nat} {c:Int} (hij:j < i) (hr:l<=r) (hs:l<=s):Mn l (AXi A i j c) r s=Mn l A r s + (if l<=i/\r=i then c * Mn l A j s else 0) + if l<=i/\s=i then c * (Mn l A r j + if l<=i/\r=i then c * Mn l A j j else 0) else 0:=by
  unfold AXi;rw [Aqm hij hs,Adk hij hr,Adk hij hr]
theorem AZe (A:Nat->Nat->Int) (i j:Nat) (c:Int) (r s:Nat):AXi A i j c r s=if s=i then (if r=i then A i i + c * A j i else A r i) + c * (if r=i then A i j + c * A j j else A r j) else if r=i then A i s + c * A j s else A r s:=by
 show ADz (trF (AYd A i j c)) i (fun q=>trF (AYd A i j c) i q + c * trF (AYd A i j c) j q) s r=_;rw [ADf];unfold trF AYd;by_cases h:s=i
 ·rw [if_pos h,if_pos h,ADf,ADf]
 ·rw [if_neg h,if_neg h,ADf]
theorem Aqn {n:Nat} {A:Nat->Nat->Int} {i j:Nat} {c:Int} (hi:i < n) (hj:j < n) (h:AMp n A):AMp n (AXi A i j c):=by
 intro r s hr hs;rw [AZe,AZe];by_cases h1:r=i
 ·by_cases h2:s=i
  ·rw [h1,h2]
  ·rw [if_neg h2,if_pos h1,if_pos h1,if_neg h2,if_neg h2,h i s hi hs,h j s hj hs]
 ·by_cases h2:s=i
  ·rw [if_pos h2,if_neg h1,if_neg h1,if_neg h1,if_pos h2,h r i hr hi,h r j hr hj]
  ·rw [if_neg h2,if_neg h1,if_neg h1,if_neg h2,h r s hr hs]
theorem Aij {A:Nat->Nat->Int} {j k:Nat} (hk:k≠j + 1):det k (swA A j)=det k A:=by
 rcases Nat.lt_or_ge (j + 1) k with h | h
 ·have e1:det k (swA A j)= -det k (fun r s=>A (tau j r) s):=Ae8 (F:=fun r s=>A (tau j r) s) h
  have e2:det k (fun r s=>A (tau j r) s)= -det k A:=by
    rw [<- ARp (fun r s=>A (tau j r) s),<- ARp A]
    exact Ae8 (F:=trF A) h
  rw [e1,e2];omega
 ·refine AD5 fun r s hr hs=>?_;unfold swA tau;rw [if_neg (by omega),if_neg (by omega),if_neg (by omega),if_neg (by omega)]
theorem Afb {A:Nat->Nat->Int} {j:Nat}:det (j + 1) (swA A j)=Mn j A (j + 1) (j + 1):=by
 unfold Mn;refine AD5 fun r s hr hs=>?_
 have e:∀ r,r < j + 1->tau j r=bro j (j + 1) r:=fun r hr=>by
   unfold tau bro
   by_cases h:r < j
   · rw [if_neg (by omega),if_neg (by omega),if_pos h]
   · rw [if_pos (by omega),if_neg h]
 unfold swA;rw [e r hr,e s hs]
theorem As5 {n j:Nat} {A:Nat->Nat->Int} (hj:j + 1 < n) (h:AMp n A):AMp n (swA A j):=fun r s hr hs=>by
  have e:∀ r,r < n->tau j r < n:=fun r hr=>by unfold tau;split <;> (try split) <;> omega
  exact h _ _ (e r hr) (e s hs)
theorem sq_nonneg (x:Int):0<=x * x:=by
 rcases Int.le_total 0 x with h | h
 ·exact Int.mul_nonneg h h
 ·exact Int.mul_nonneg_of_nonpos_of_nonpos h h
theorem Afc {x y:Int} (hy:0<=y) (h:x * x<=y * y): -y<=x/\x<=y:=by
 constructor
 ·rcases Int.lt_or_le x (-y) with h1 | h1
  ·have h2:0 < (-x - y) * (-x + y):=Int.mul_pos (by omega) (by omega);have e:(-x - y) * (-x + y)=x * x - y * y:=by grind
   omega
  ·exact h1
 ·rcases Int.lt_or_le y x with h1 | h1
  ·have h2:0 < (x - y) * (x + y):=Int.mul_pos (by omega) (by omega);have e:(x - y) * (x + y)=x * x - y * y:=by grind
   omega
  ·exact h1
theorem AU7 {x y:Int} (h1: -y<=x) (h2:x<=y):x * x<=y * y:=by
 have h3:0<=(y - x) * (y + x):=Int.mul_nonneg (by omega) (by omega);have e:(y - x) * (y + x)=y * y - x * x:=by grind
 omega
def SzF (A:Nat->Nat->Int) (i j:Nat):Prop:= -(det (j + 1) A)<=2 * Mn j A i j/\2 * Mn j A i j<=det (j + 1) A
def LvF (A:Nat->Nat->Int) (j:Nat):Prop:=3 * (det (j + 1) A * det (j + 1) A)<=4 * (det j A * det (j + 2) A + Mn j A (j + 1) j * Mn j A (j + 1) j)
def Ag4 (A:Nat->Nat->Int) (i:Nat) (K:Int):Prop:= ∀ l,l < i-> -(K * det (l + 1) A)<=Mn l A i l/\Mn l A i l<=K * det (l + 1) A
theorem Aca {n i:Nat} {A:Nat->Nat->Int} {Dm p q:Int} (hs:AMp n A) (hp:AOb n A) (hi:i < n) (hD:∀ k,k<=n->det k A<=Dm) (p0:0<=p) (q0:0<=q) (hl:∀ l,l < i->q * (Mn l A i l * Mn l A i l)<=p * (det (l + 1) A * det (l + 1) A)):∀ d l:Nat,l + d=i->q * Mn l A i i<=(q + d * p) * (Dm * det l A):=by
  have hD0:1<=Dm:=by
    have:=hD 0 (by omega);simpa [det] using this
  have hDl:∀ l k,l<=n->k<=n->det k A<=Dm * det l A:=fun l k h1 h2=>by
    have:=hp l h1;have h3:=hD k h2;have h4:Dm * 1<=Dm * det l A:=Int.mul_le_mul_of_nonneg_left (by omega) (by omega);omega
  intro d;induction d with
  | zero=>
    intro l h;obtain rfl:l=i:=by omega
    rw [ALh];have h1:=Int.mul_le_mul_of_nonneg_left (hDl l (l + 1) (by omega) (by omega)) q0;simpa using h1
  | succ d ih=>
    intro l h;have h1:=ih (l + 1) (by omega);have h2:=Adj hs hp (show l < n by omega) hi;have h3:=hl l (by omega);have h4:=hp l (by omega);have h5:=hp (l + 1) (by omega);have h6:=Int.mul_le_mul_of_nonneg_left h1 (Int.le_of_lt h4)
    have h7:det (l + 1) A * (q * Mn l A i i)=q * (Mn l A i l * Mn l A i l) + det l A * (q * Mn (l + 1) A i i):=by
      have e1:det (l + 1) A * (q * Mn l A i i)=q * (det (l + 1) A * Mn l A i i):=by grind
      rw [e1,h2];grind
    have h8:=Int.mul_le_mul_of_nonneg_left (hDl l (l + 1) (by omega) (by omega)) p0;have h9:=Int.mul_le_mul_of_nonneg_left h8 (Int.le_of_lt h5);have e2:det (l + 1) A * (p * det (l + 1) A)=p * (det (l + 1) A * det (l + 1) A):=by grind
    have h10:det (l + 1) A * (q * Mn l A i i)<=det (l + 1) A * ((q + ((d + 1:Nat):Int) * p) * (Dm * det l A)):=by
      have e3:det (l + 1) A * ((q + ((d + 1:Nat):Int) * p) * (Dm * det l A))=det (l + 1) A * (p * (Dm * det l A)) + det l A * ((q + (d:Int) * p) * (Dm * det (l + 1) A)):=by
        rw [Int.natCast_add,Int.natCast_one];grind
      rw [e3];omega
    exact Int.le_of_mul_le_mul_left h10 h5
theorem Afe {n i:Nat} {A:Nat->Nat->Int} {Dm:Int} (hn:n<=8) (hs:AMp n A) (hp:AOb n A) (hi:i < n) (hD:∀ k,k<=n->det k A<=Dm) (hz:∀ l,l < i->SzF A i l):A i i<=3 * Dm:=by
 have h:=Aca hs hp hi hD (p:=1) (q:=4) (by omega) (by omega) (fun l hl=>by
   have:=AU7 (hz l hl).1 (hz l hl).2
   have e:2 * Mn l A i l * (2 * Mn l A i l)=4 * (Mn l A i l * Mn l A i l):=by grind
   omega) i 0 (by omega)
 rw [AO9] at h
 have Aa:1<=Dm:=by
   have:=hD 0 (by omega);simpa [det] using this
 have h2:(4 + (i:Int) * 1) * (Dm * det 0 A)<=12 * Dm:=by
   have:(4 + (i:Int) * 1) * Dm<=12 * Dm:=Int.mul_le_mul_of_nonneg_right (by omega) (by omega)
   simpa [det] using this
 omega
theorem Aj8 {n i:Nat} {A:Nat->Nat->Int} {Dm:Int} (hs:AMp n A) (hp:AOb n A) (hi:i < n) (hD:∀ k,k<=n->det k A<=Dm) (hA:A i i<=3 * Dm):Ag4 A i (2 * Dm):=by
 intro l hl
 have Ad:1<=Dm:=by
   have:=hD 0 (by omega);simpa [det] using this
 have h1:=AYb hs hp (show l<=n by omega) hi (show l < n by omega);rw [ALh] at h1;have h2:=Anq hs hp hi l (by omega);have h3:=hp l (by omega);have h4:=hp (l + 1) (by omega)
 have h5:det l A * A i i<=Dm * (3 * Dm):=by
   have a1:=Int.mul_le_mul_of_nonneg_left hA (Int.le_of_lt h3)
   have a2:=Int.mul_le_mul_of_nonneg_right (hD l (by omega)) (show (0:Int)<=3 * Dm by omega)
   omega
 have h6:Mn l A i i * det (l + 1) A<=Dm * (3 * Dm) * det (l + 1) A:=Int.mul_le_mul_of_nonneg_right (by omega) (by omega);have h7:Dm * (3 * Dm) * (det (l + 1) A * 1)<=Dm * (3 * Dm) * (det (l + 1) A * det (l + 1) A):=Int.mul_le_mul_of_nonneg_left (Int.mul_le_mul_of_nonneg_left (by omega) (by omega)) (Int.mul_nonneg (by omega) (by omega));have h8:0<=Dm * Dm * (det (l + 1) A * det (l + 1) A):=Int.mul_nonneg (sq_nonneg _) (sq_nonneg _);have h9:2 * Dm * det (l + 1) A * (2 * Dm * det (l + 1) A)=Dm * (3 * Dm) * (det (l + 1) A * det (l + 1) A) + Dm * Dm * (det (l + 1) A * det (l + 1) A):=by grind
 rw [Int.mul_one] at h7;exact Afc (Int.mul_nonneg (by omega) (by omega)) (by omega)
theorem Aff {A:Nat->Nat->Int} {i:Nat} {K K':Int} (hp:∀ l,l<=i->0 < det l A) (hK:K<=K') (h:Ag4 A i K):Ag4 A i K':=fun l hl=>by
  have h1:=h l hl
  have h2:=hp (l + 1) (by omega)
  have h3:=Int.mul_le_mul_of_nonneg_right hK (Int.le_of_lt h2)
  omega
theorem Afg {a d:Int} (hd:0 < d): -d<=2 * (a + -((2 * a + d) / (2 * d)) * d)/\2 * (a + -((2 * a + d) / (2 * d)) * d)<=d:=by
  have h1:=Int.mul_ediv_add_emod (2 * a + d) (2 * d);have h2:=Int.emod_nonneg (2 * a + d) (show 2 * d≠0 by omega);have h3:=Int.emod_lt_of_pos (2 * a + d) (show 0 < 2 * d by omega);generalize (2 * a + d) / (2 * d)=q at *
  generalize (2 * a + d) % (2 * d)=r at *
  have e:2 * (a + -q * d)=2 * a - 2 * d * q:=by grind
  omega
theorem Aqo {a d K:Int} (hd:0 < d) (h1: -(K * d)<=a) (h2:a<=K * d): -K<= -((2 * a + d) / (2 * d))/\ -((2 * a + d) / (2 * d))<=K:=by
 have h:=Afg (a:=a) hd;generalize -((2 * a + d) / (2 * d))=c at *;constructor
 ·rcases Int.lt_or_le c (-K) with h3 | h3
  ·have h4:(c + K + 1) * d<=0:=by
     have:=Int.mul_nonneg (show 0<= -(c + K + 1) by omega) (Int.le_of_lt hd)
     have e: -(c + K + 1) * d= -((c + K + 1) * d):=by grind
     omega
   have e:(c + K + 1) * d=c * d + K * d + d:=by grind
   omega
  ·exact h3
 ·rcases Int.lt_or_le K c with h3 | h3
  ·have h4:=Int.mul_nonneg (show 0<=c - K - 1 by omega) (Int.le_of_lt hd);have e:(c - K - 1) * d=c * d - K * d - d:=by grind
   omega
  ·exact h3
theorem Aik {A:Nat->Nat->Int} {i j l:Nat} {c:Int} (hij:j < i) (hl:l < i):Mn l (AXi A i j c) i l=Mn l A i l + c * Mn l A j l:=by
 rw [Anw hij (by omega) (Nat.le_refl _),if_pos ⟨by omega,rfl⟩,if_neg (fun h:l<=i/\l=i=>by omega)];omega
theorem Acb {A:Nat->Nat->Int} {i j l r:Nat} {c:Int} (hij:j < i) (hr:r < i) (hl:l<=r):Mn l (AXi A i j c) r l=Mn l A r l:=by
 rw [Anw hij hl (Nat.le_refl _),if_neg (fun h:l<=i/\r=i=>by omega),if_neg (fun h:l<=i/\l=i=>by omega)];omega
theorem Anx {A:Nat->Nat->Int} {i j:Nat} {K c:Int} (hij:j < i) (hp:∀ l,l<=i->0 < det l A) (hK:0<=K) (h:Ag4 A i K) (hz:∀ l,l < j->SzF A j l) (Ab: -K<=c) (Ac:c<=K):Ag4 (AXi A i j c) i (2 * K):=by
 intro l hl;rw [APv hij,Aik hij hl];have h1:=h l hl;have h2:=hp (l + 1) (by omega)
 have hm: -(det (l + 1) A)<=Mn l A j l/\Mn l A j l<=det (l + 1) A:=by
   rcases Nat.lt_trichotomy l j with h3 | h3 | h3
   · have:=hz l h3;unfold SzF at this;omega
   · subst h3;rw [ALh];omega
   · rw [Ag3 A l h3];omega
 have h3: -(K * det (l + 1) A)<=c * Mn l A j l/\c * Mn l A j l<=K * det (l + 1) A:=by
   refine Afc (Int.mul_nonneg hK (Int.le_of_lt h2)) ?_
   have a1:=AU7 Ab Ac
   have a2:=AU7 hm.1 hm.2
   have a3:c * c * (Mn l A j l * Mn l A j l)<=K * K * (det (l + 1) A * det (l + 1) A):=Int.mul_le_mul a1 a2 (sq_nonneg _) (sq_nonneg _)
   have e1:c * Mn l A j l * (c * Mn l A j l)=c * c * (Mn l A j l * Mn l A j l):=by grind
   have e2:K * det (l + 1) A * (K * det (l + 1) A)=K * K * (det (l + 1) A * det (l + 1) A):=by grind
   omega
 have e:2 * K * det (l + 1) A=K * det (l + 1) A + K * det (l + 1) A:=by grind
 omega
theorem Anz {A:Nat->Nat->Int} {i j k:Nat} {c:Int} (hk:k≠i):AXi A i j c k k=A k k:=by
 rw [AZe,if_neg hk,if_neg hk]
structure Adl (n:Nat) (Dm:Int) (A:Nat->Nat->Int) (i t:Nat):Prop where
  sym:AMp n A
  pos:AOb n A
  dm:∀ k,k<=n->det k A<=Dm
  hi:i < n
  ht:t<=i
  rows:∀ k,k < n->k≠i->A k k<=3 * Dm
  row:t=0->A i i<=3 * Dm
  lamb:Ag4 A i (2 ^ t * (2 * Dm))
  pre:∀ r l,l < r->r < i->SzF A r l
  prei:∀ l,l < i->i<=l + t->SzF A i l
  lov:∀ r,r + 1 < i->LvF A r
theorem Aar {n:Nat} {Dm:Int} {A:Nat->Nat->Int} (hn:0 < n) (hs:AMp n A) (hp:AOb n A) (hD:∀ k,k<=n->det k A<=Dm) (hr:∀ k,k < n->A k k<=3 * Dm):Adl n Dm A 0 0:=
  ⟨hs,hp,hD,hn,Nat.le_refl _,fun k hk _=>hr k hk,fun _=>hr 0 hn,fun l hl=>by omega,fun r l h1 h2=>by omega,fun l hl=>by omega,fun r hr=>by omega⟩
theorem An0 {n i t:Nat} {Dm:Int} {A:Nat->Nat->Int} (h:Adl n Dm A i t):1<=Dm:=by
 have:=h.dm 0 (by omega);simpa [det] using this
theorem AVo {n i t:Nat} {Dm:Int} {A:Nat->Nat->Int} (hn:n<=8) (h:Adl n Dm A i t) (hz:∀ l,l < i->SzF A i l):∀ k,k < n->A k k<=3 * Dm:=fun k hk=>by
  by_cases e:k=i
  · subst e;exact Afe hn h.sym h.pos h.hi h.dm hz
  · exact h.rows k hk e
theorem AXj (t:Nat):(0:Int) < 2 ^ t:=Int.pow_pos (by omega)
theorem AXk {s t:Nat} (h:s<=t):(2:Int) ^ s<=2 ^ t:=by
 have:=Nat.pow_le_pow_right (show 0 < 2 by omega) h;have e:∀ k:Nat,(2:Int) ^ k=((2 ^ k:Nat):Int):=fun k=>by simp
 rw [e,e];omega
theorem Aj9 {n i t i' j:Nat} {Dm:Int} {A:Nat->Nat->Int} (hn:n<=8) (h:Adl n Dm A i t) (hi':i' < n) (hj:j < i') (hbad: ¬ SzF A i' j)
    (hz:∀ r l,l < r->r < i'->SzF A r l) (hzi:∀ l,l < i'->j < l->SzF A i' l) (hl:∀ r,r + 1 < i'->LvF A r):
    Adl n Dm (AXi A i' j (-((2 * Mn j A i' j + det (j + 1) A) / (2 * det (j + 1) A)))) i' (i' - j)/\i * 16 + t < i' * 16 + (i' - j):=by
  have hD1:=An0 h
  have hlt:i < i'∨i=i'/\t < i' - j:=by
    rcases Nat.lt_trichotomy i i' with h1 | h1 | h1
    · exact .inl h1
    · refine .inr ⟨h1,?_⟩
      rcases Nat.lt_or_ge t (i' - j) with h2 | h2
      · exact h2
      · subst h1;exact absurd (h.prei j hj (by omega)) hbad
    · exact absurd (h.pre i' j hj h1) hbad
  have hrows:∀ k,k < n->k≠i'->A k k<=3 * Dm:=fun k hk hne=>by
    rcases hlt with h1 | h1
    · exact AVo hn h (fun l hl=>hz i l hl h1) k hk
    · exact h.rows k hk (by omega)
  have hK0:0<=2 ^ (i' - j - 1) * (2 * Dm):=Int.mul_nonneg (Int.le_of_lt (AXj _)) (by omega);have hp':∀ l,l<=i'->0 < det l A:=fun l hl=>h.pos l (by omega)
  have hlam:Ag4 A i' (2 ^ (i' - j - 1) * (2 * Dm)):=by
    rcases hlt with h1 | h1
    · refine Aff hp' ?_ (Aj8 h.sym h.pos hi' h.dm (AVo hn h (fun l hl=>hz i l hl h1) i' hi'));have:=Int.mul_le_mul_of_nonneg_right (AXk (Nat.zero_le (i' - j - 1))) (show (0:Int)<=2 * Dm by omega);simpa using this
    · obtain ⟨rfl,h1⟩:=h1;exact Aff hp' (Int.mul_le_mul_of_nonneg_right (AXk (by omega)) (by omega)) h.lamb
  have hd:=hp' (j + 1) (by omega);obtain ⟨c1,c2⟩:=Aqo hd (hlam j hj).1 (hlam j hj).2;have hrem:=Afg (a:=Mn j A i' j) hd;generalize hc: -((2 * Mn j A i' j + det (j + 1) A) / (2 * det (j + 1) A))=c at *
  refine ⟨⟨Aqn hi' (by omega) h.sym,fun k hk=>by rw [APv hj];exact h.pos k hk,fun k hk=>by rw [APv hj];exact h.dm k hk,hi',by omega,fun k hk hne=>by rw [Anz hne];exact hrows k hk hne,fun h0=>by omega,?_,fun r l h1 h2=>?_,fun l h1 h2=>?_,fun r hr=>?_⟩,by have:=h.ht;have:=h.hi;omega⟩
  · have:=Anx hj hp' hK0 hlam (fun l hl=>hz j l hl hj) c1 c2
    have e:2 * (2 ^ (i' - j - 1) * (2 * Dm))=2 ^ (i' - j) * (2 * Dm):=by
      rw [show i' - j=i' - j - 1 + 1 by omega,Int.pow_succ];simp only [Nat.add_sub_cancel];grind
    rwa [e] at this
  · unfold SzF;rw [APv hj,Acb hj h2 (by omega)];exact hz r l h1 h2
  · unfold SzF;rw [APv hj,Aik hj h1]
    rcases Nat.lt_or_ge j l with h3 | h3
    · rw [Ag3 A l h3,Int.mul_zero,Int.add_zero];exact hzi l h1 h3
    · obtain rfl:l=j:=by omega
      rw [ALh];exact hrem
  · unfold LvF;rw [APv hj,APv hj,APv hj,Acb hj (by omega) (by omega)];exact hl r hr
def Afh (n:Nat) (A:Nat->Nat->Int):Int:=psum (fun k=>det k A) (n + 1)
theorem Aqp {f g:Nat->Int} {n k:Nat} (hk:k < n) (hne:∀ l,l≠k->f l=g l) (h:f k < g k):psum f n < psum g n:=by
 induction n with
 | zero=>omega
 | succ n ih=>
   simp only [psum]
   rcases Nat.lt_or_ge k n with h1 | h1
   · have:=ih h1;rw [hne n (by omega)];omega
   · obtain rfl:k=n:=by omega
     rw [ADc (g:=g) fun i hi=>hne i (by omega)];omega
theorem Aka {n i t j:Nat} {Dm:Int} {A:Nat->Nat->Int} (hn:n<=8) (h:Adl n Dm A i t) (hj:j + 1 < n) (hbad: ¬ LvF A j)
    (hz:∀ r l,l < r->r<=j + 1->SzF A r l) (hl:∀ r,r < j->LvF A r):
    Adl n Dm (swA A j) 0 0/\Afh n (swA A j) < Afh n A:=by
  have hij:i<=j + 1:=by
    rcases Nat.lt_or_ge (j + 1) i with h1 | h1
    · exact absurd (h.lov j h1) hbad
    · exact h1
  have hrest:=AVo hn h (fun l hl=>hz i l hl hij);have h1:=Adj h.sym h.pos (show j < n by omega) hj;have p0:=h.pos j (by omega);have p1:=h.pos (j + 1) (by omega);have p2:=h.pos (j + 2) (by omega);rw [show Mn (j + 1) A (j + 1) (j + 1)=det (j + 2) A from ALh _ _] at h1
  have hlt:Mn j A (j + 1) (j + 1) < det (j + 1) A:=by
    unfold LvF at hbad
    have h2:det (j + 1) A * (4 * Mn j A (j + 1) (j + 1)) < det (j + 1) A * (3 * det (j + 1) A):=by
      have e1:det (j + 1) A * (4 * Mn j A (j + 1) (j + 1))=4 * (det (j + 1) A * Mn j A (j + 1) (j + 1)):=by grind
      have e2:det (j + 1) A * (3 * det (j + 1) A)=3 * (det (j + 1) A * det (j + 1) A):=by grind
      omega
    have:=Int.lt_of_mul_lt_mul_left h2 (Int.le_of_lt p1);omega
  have hpos:0 < Mn j A (j + 1) (j + 1):=by
    have h3:=sq_nonneg (Mn j A (j + 1) j);have h4:=Int.mul_pos p0 p2;exact Int.pos_of_mul_pos_right (a:=det (j + 1) A) (by omega) p1
  have hdet:∀ k,det k (swA A j)=if k=j + 1 then Mn j A (j + 1) (j + 1) else det k A:=fun k=>by
    by_cases e:k=j + 1
    · subst e;rw [if_pos rfl,Afb]
    · rw [if_neg e,Aij e]
  refine ⟨Aar (by omega) (As5 hj h.sym) (fun k hk=>?_) (fun k hk=>?_) (fun k hk=>?_),?_⟩
  · rw [hdet];split
    · exact hpos
    · exact h.pos k hk
  · rw [hdet];split
    · have:=h.dm (j + 1) (by omega);omega
    · exact h.dm k hk
  · have e:tau j k < n:=by unfold tau;split <;> (try split) <;> omega
    exact hrest _ e
  · exact Aqp (k:=j + 1) (by omega) (fun l hl=>by rw [hdet,if_neg hl]) (by rw [hdet,if_pos rfl];exact hlt)
end Go.QF
namespace Go.Proofs.YtdnbklmefmoofaaGreatDoor
open Go Go.QF
theorem Adm (k m:Nat):AEj k (fun a=>((a:Nat):Int)) ++ [((m:Nat):Int)]=AEj (k + 1) fun a=>((bro k m a:Nat):Int):=by
 rw [<- AOq,ADk (g:=fun a=>((bro k m a:Nat):Int)) fun a ha=>by unfold bro;rw [if_pos ha]];unfold bro;rw [if_neg (by omega)]
theorem Ail {fuel k m:Nat} (hk:k<=100) (hf:100 < fuel):AGt fuel (k:Int) (m:Int)=some (AEj (k + 1) fun a=>((bro k m a:Nat):Int)):=by
 apply ok_eq;unfold AGt;refine ABs (AC4 (fun i s=>s=(AEj i (fun a=>((a:Nat):Int)),((i:Nat):Int))/\i<=k) k (Q:=(· =AEj k fun a=>((a:Nat):Int))) ⟨rfl,Nat.zero_le _⟩ (by omega) fun i s hi hI=>?_) fun e he=>?_
 ·obtain ⟨rfl,hik⟩:=hI;unfold AK5;dsimp only;refine AB8 (fun h=>AEa (by rw [ACw];omega) (ABn ⟨by omega,?_,by omega⟩)) (fun h=>ABn ?_)
  ·rw [wk (by omega),AOq i fun a=>((a:Nat):Int)];simp
  ·obtain rfl:i=k:=by omega
   rfl
 ·subst he;refine AEa (by rw [ACw];omega) (ABn ?_);exact Adm k m
theorem Aas {fuel n i j:Nat} {F:Nat->Nat->Int} (hn:n<=8) (hi:i < n) (hj:j < n) (hb:∀ i j,i < n->j < n->(F i j).natAbs<=AH6) (hf:100 < fuel):AFb fuel (tab n n F) (i:Int) (j:Int)=some (Mn j F i j):=by
 apply ok_eq;unfold AFb;refine ABs (AC4 (fun q s=>s=(AEj q (fun a=>((a:Nat):Int)),AEj q (fun a=>((a:Nat):Int)),((q:Nat):Int))/\q<=j) j (Q:=(· =(AEj j (fun a=>((a:Nat):Int)),AEj j fun a=>((a:Nat):Int)))) ⟨rfl,Nat.zero_le _⟩ (by omega) fun q s hq hI=>?_) fun e he=>?_
 ·obtain ⟨rfl,hqj⟩:=hI;unfold AKe;dsimp only;refine AB8 (fun h=>AEa (by rw [ACw];omega) (AEa (by rw [ACw];omega) (ABn ⟨by omega,?_,by omega⟩))) (fun h=>ABn ?_)
  ·rw [wk (by omega),AOq q fun a=>((a:Nat):Int)];simp
  ·obtain rfl:q=j:=by omega
   rfl
 ·subst he;dsimp only;refine AEa (by rw [ACw];omega) (AEa (by rw [ACw];omega) ?_);rw [Adm,Adm];refine ABs (AC2 (Ae9 (n:=n) (by omega) (by omega) hf (fun a ha=>AQn (by omega) hi) (fun a ha=>AQn (by omega) hj))) fun x hx=>?_;subst hx;refine ABs (AC2 (AXd (by omega) (fun a b ha Aa=>hb _ _ (AQn (by omega) hi) (AQn (by omega) hj)) (by omega))) fun y hy=>ABn hy
theorem AVp {fuel n k:Nat} {F:Nat->Nat->Int} (hk:k<=n) (hn:n<=8):AEb fuel (AEj n fun a=>det (a + 1) F) (k:Int)=some (det k F):=by
 apply ok_eq;unfold AEb;refine AB8 (fun h=>?_) (fun h=>?_)
 ·obtain rfl:k=0:=by omega
  exact ⟨1,rfl,by simp [det]⟩
 ·obtain ⟨q,rfl⟩:∃ q,k=q + 1:=⟨k - 1,by omega⟩;refine ACg (n:=q) (ACp (by omega)) (by rw [wk (by omega)];omega) (ABn rfl)
theorem AYe {fuel n:Nat} {F:Nat->Nat->Int} (Aa:1<=n) (hn:n<=8) (hb:∀ i j,i < n->j < n->(F i j).natAbs<=AH6) (hf:100 < fuel):AEz fuel (tab n n F)=some (AEj n fun a=>det (a + 1) F,true):=by
 apply ok_eq;unfold AEz;refine ABs (AC2 (Ab9 Aa (by omega) hf)) fun x hx=>?_;subst hx;dsimp only;refine AB8 (fun h=>absurd h (by decide)) (fun _=>ABs (AC4 (fun k s=>s=(AEj k (fun a=>det (a + 1) F),((k:Nat):Int))/\k<=n) n (Q:=(· =AEj n fun a=>det (a + 1) F)) ⟨rfl,Nat.zero_le _⟩ (by omega) fun k s hk hI=>?_) fun e he=>ABn (by rw [he]));obtain ⟨rfl,hkn⟩:=hI;unfold AJv;dsimp only;refine AB8 (fun h=>?_) (fun h=>ABn ?_)
 ·have hk':k < n:=by omega
  refine ABs (AC2 (Ail (by omega) hf)) fun r hr=>?_;subst hr;refine ABs (AC2 (Ail (by omega) hf)) fun c hc=>?_;subst hc;refine ABs (AC2 (Ae9 (n:=n) (by omega) (by omega) hf (fun a ha=>AQn (by omega) hk') (fun a ha=>AQn (by omega) hk'))) fun x hx=>?_;subst hx;refine ABs (AC2 (AXd (by omega) (fun a b ha Ab=>hb _ _ (AQn (by omega) hk') (AQn (by omega) hk')) (by omega))) fun y hy=>?_;subst hy;refine AEa (by rw [ACw];omega) (ABn ⟨by omega,?_,by omega⟩);rw [show (det (k + 1) fun a b=>F (bro k k a) (bro k k b))=det (k + 1) F from ALh k F,wk (by omega),AOq k fun a=>det (a + 1) F];simp
 ·obtain rfl:k=n:=by omega
  rfl
theorem Adn (a b:Int):AS4 a b<=0↔a<=b:=by unfold AS4;split <;> (try split) <;> omega
theorem Aat {n j i l:Nat} {F:Nat->Nat->Int} (hn:n<=8) (hi:i < n) (hl:l < n) (hj:j < n) (hb:∀ i j,i < n->j < n->(F i j).natAbs<=AH6):(Mn j F i l).natAbs<=dBd AH6 9:=by
 have e:Mn j F i l=Mn j (fun a b=>if a < n/\b < n then F a b else 0) i l:=by
   unfold Mn
   refine AD5 fun a b ha Aa=>?_
   dsimp only
   rw [if_pos ⟨AQn (by omega) hi,AQn (by omega) hl⟩]
 rw [e];refine Nat.le_trans (Agw (m:=AH6) (fun a b=>?_) i l) (APa (by decide) (by omega));split
 ·next h=>exact hb a b h.1 h.2
 ·exact Nat.zero_le _
theorem AU8 {n k:Nat} {F:Nat->Nat->Int} (hn:n<=8) (hk:k<=n) (hb:∀ i j,i < n->j < n->(F i j).natAbs<=AH6):(det k F).natAbs<=dBd AH6 9:=by
 rcases Nat.eq_zero_or_pos k with h | h
 ·subst h;simp only [det];decide
 ·obtain ⟨q,rfl⟩:∃ q,k=q + 1:=⟨k - 1,by omega⟩;rw [<- ALh q F];exact Aat hn (by omega) (by omega) (by omega) hb
theorem Aim {fuel n i j:Nat} {F:Nat->Nat->Int} (hn:n<=8) (hi:i < n) (hj:j < n) (hb:∀ i j,i < n->j < n->(F i j).natAbs<=AH6) (hf:100 < fuel):AGu fuel (tab n n F) (AEj n fun a=>det (a + 1) F) (i:Int) (j:Int)=some (decide (2 * ((Mn j F i j).natAbs:Int)<=det (j + 1) F)):=by
 apply ok_eq;unfold AGu;refine ABs (Q:=(· =2)) ⟨2,if_pos (by omega),rfl⟩ fun two h2=>?_;subst h2;refine ABs (AC2 (Aas hn hi hj hb hf)) fun x hx=>?_;subst hx;refine ABs (AC2 (a:=((Mn j F i j).natAbs:Int)) rfl) fun y hy=>?_;subst hy;refine ABs (AC2 (AX7 Aif (show (2:Int).natAbs<=dBd AH6 (8 + 1) by decide) (by rw [Int.natAbs_natCast];exact Aat hn hi hj hj hb))) fun w hw=>?_;subst hw;rw [wk (by omega)];refine ABs (AC2 (AVp (k:=j + 1) (by omega) hn)) fun m hm=>?_;subst hm;refine ABs (AC2 (a:=AS4 (2 * ((Mn j F i j).natAbs:Int)) (det (j + 1) F)) rfl) fun c hc=>ABn ?_;subst hc;exact decide_eq_decide.2 (Adn _ _)
theorem AZf {F:Nat->Nat->Int} {i j:Nat}:2 * ((Mn j F i j).natAbs:Int)<=det (j + 1) F↔SzF F i j:=by
 unfold SzF;omega
theorem psum_abs {f g:Nat->Int} {D:Nat}:∀ (n:Nat),(∀ a,a < n->(f a).natAbs<=D/\(g a).natAbs<=D)->(psum (fun a=>f a * g a) n).natAbs<=n * (D * D)
  | 0,_=>by simp [psum]
  | n + 1,h=>by
    have h1:=psum_abs n fun a ha=>h a (by omega)
    have h2:=Nat.mul_le_mul (h n (by omega)).1 (h n (by omega)).2
    rw [<- Int.natAbs_mul] at h2
    have e:(n + 1) * (D * D)=n * (D * D) + D * D:=by rw [Nat.add_mul,Nat.one_mul]
    simp only [psum]
    omega
theorem Aun {fuel n D:Nat} {f g:Nat->Int} (hn:n<=16) (hD:16 * (D * D) < AE3) (hb:∀ a,a < n->(f a).natAbs<=D/\(g a).natAbs<=D) (hf:100 < fuel):AI4 fuel (AEj n f) (AEj n g)=some (psum (fun a=>f a * g a) n):=by
 apply ok_eq;unfold AI4;refine ABs (AC4 (fun k s=>s=(((k:Nat):Int),psum (fun a=>f a * g a) k)/\k<=n) n (Q:=(· =psum (fun a=>f a * g a) n)) ⟨rfl,Nat.zero_le _⟩ (by omega) fun k s hk hI=>?_) fun e he=>ABn he;obtain ⟨rfl,hkn⟩:=hI;unfold AMa;dsimp only;rw [ACw];refine AB8 (fun h=>?_) (fun h=>ABn ?_)
 ·have hk':k < n:=by omega
  have h1:=psum_abs k fun a ha=>hb a (by omega);have h2:=Nat.mul_le_mul (hb k hk').1 (hb k hk').2;have h3:k * (D * D)<=16 * (D * D):=Nat.mul_le_mul_right _ (by omega);have h4:1 * (D * D)<=16 * (D * D):=Nat.mul_le_mul_right _ (by omega);refine ACg (ACp hk') rfl (ACg (ACp hk') rfl (ABs (Q:=(· =f k * g k)) ⟨_,if_pos (by omega),rfl⟩ fun x hx=>?_));subst hx;refine ABs (Q:=(· =psum (fun a=>f a * g a) k + f k * g k)) ⟨_,if_pos ⟨by omega,by rw [Int.natAbs_mul];omega⟩,rfl⟩ fun y hy=>ABn ⟨by omega,?_,by omega⟩;subst hy;rw [wk (by omega)];simp [psum]
 ·obtain rfl:k=n:=by omega
  rfl
theorem Aau {fuel n:Nat} {F:Nat->Nat->Int} (hn:1<=n) (Ad:n<=16) (hf:100 < fuel):AD0 fuel (tab n n F)=some ((n:Int),(n:Int),true):=by
 apply ok_eq;unfold AD0;rw [ACt];refine ABs (Q:=fun ex=>match ex with | .inl _=>False | .inr _=>True) (AB8 (fun h=>by omega) fun h=>AB8 (fun h2=>by omega) fun h2=>ABn trivial) fun ex hex=>?_
 cases ex with
 | inl e=>exact hex.elim
 | inr u=>
   dsimp only
   refine ABs (AC4 (fun i (s:Int)=>s=i) n (Q:=fun ex=>match ex with | .inl _=>False | .inr _=>True) rfl (by omega) fun i s hi hI=>?_) fun ex hex=>?_
   · subst hI
     unfold AG1
     rw [ACt]
     refine AB8 (fun h=>ACg (ACv (by omega)) rfl ?_) fun h=>ABn trivial
     rw [ACw]
     refine AB8 (fun h2=>by omega) fun h2=>AB8 (fun h3=>by omega) fun h3=>ACg (n:=0) (ACv (by omega)) rfl (AB8 (fun h4=>?_) fun h4=>ABn ⟨by omega,wk (by omega)⟩)
     rw [ACw] at h4;omega
   · cases ex with
     | inl e=>exact hex.elim
     | inr u=>exact ACg (n:=0) (ACv (by omega)) rfl (ABn (by rw [ACw]))
theorem APd {r c:Nat} {F G:Nat->Nat->Int} (h:∀ i j,i < r->j < c->F i j=G i j):tab r c F=tab r c G:=by
 rw [AP3,AP3];exact ADk fun i hi=>ADk fun j hj=>h i j hi hj
def trS (F:Nat->Nat->Int) (i j r c:Nat):Int:=if c < i∨c=i/\r < j then F c r else 0
theorem Ain {fuel n:Nat} {F:Nat->Nat->Int} (hn:1<=n) (Ad:n<=16) (hf:100 < fuel):AE5 fuel (tab n n F)=some (tab n n (trF F),true):=by
 apply ok_eq;unfold AE5;refine ABs (AC2 (Aau hn Ad hf)) fun x hx=>?_;subst hx;dsimp only;refine AB8 (fun h=>absurd h (by decide)) fun _=>ABs (AC2 (AY8 (by omega) (by omega) (by omega))) fun O hO=>?_;subst hO;refine ABs (AC4 (fun i s=>s=(((i:Nat):Int),tab n n (trS F i 0))/\i<=n) n (Q:=(· =tab n n (trF F))) ⟨?_,Nat.zero_le _⟩ (by omega) fun i s hi hI=>?_) fun e he=>ABn (by rw [he])
 ·rw [AG4 n (0:Int),AG4];refine congrArg (Prod.mk (0:Int)) ?_;rw [AP3];exact ADk fun r _=>ADk fun c _=>by unfold trS;rw [if_neg (by omega)]
 ·obtain ⟨rfl,hin⟩:=hI;unfold AIz;dsimp only;rw [ACt];refine AB8 (fun h=>?_) (fun h=>ABn ?_)
  ·have hi':i < n:=by omega
   refine ACg (ACv hi') rfl (ABs (AC4 (fun j s=>s=(((j:Nat):Int),tab n n (trS F i j))/\j<=n) n (Q:=(· =tab n n (trS F (i + 1) 0))) ⟨rfl,Nat.zero_le _⟩ (by omega) fun j s hj hJ=>?_) fun e he=>ABn ⟨by omega,by rw [wk (by omega),he];simp,by omega⟩);obtain ⟨rfl,hjn⟩:=hJ;unfold AIy;dsimp only;rw [ACw];refine AB8 (fun h2=>?_) (fun h2=>ABn ?_)
   ·have hj':j < n:=by omega
    refine ACg (ACv hj') rfl (ACg (ACv hi') rfl (ACg (ACp hj') rfl (ABs (AC2 (a:=F i j) rfl) fun y hy=>ACg (ACp hi') rfl (ABn ⟨by omega,?_,by omega⟩))));subst hy;rw [wk (by omega),AWf];refine Prod.ext (by dsimp only;omega) (APd fun r c hr hc=>?_);rw [ADf];unfold trS;by_cases h3:r=j
    ·rw [if_pos h3];by_cases h4:c=i
     ·rw [if_pos h4,if_pos (by omega),h3,h4]
     ·rw [if_neg h4];by_cases h5:c < i
      ·rw [if_pos (by omega),if_pos (by omega),h3]
      ·rw [if_neg (by omega),if_neg (by omega)]
    ·rw [if_neg h3];by_cases h5:c < i∨c=i/\r < j
     ·rw [if_pos h5,if_pos (by omega)]
     ·rw [if_neg h5,if_neg (by omega)]
   ·refine APd fun r c hr hc=>?_;unfold trS;by_cases h5:c < i + 1
    ·rw [if_pos (by omega),if_pos (by omega)]
    ·rw [if_neg (by omega),if_neg (by omega)]
  ·refine APd fun r c hr hc=>?_;unfold trS trF;rw [if_pos (by omega)]
def muS (H:Nat->Nat->Int) (i j r c:Nat):Int:=if r < i∨r=i/\c < j then H r c else 0
theorem An1 {fuel n D:Nat} {F G:Nat->Nat->Int} (hn:1<=n) (Ab:n<=16) (hD:16 * (D * D) < AE3) (hF:∀ i j,i < n->j < n->(F i j).natAbs<=D) (hG:∀ i j,i < n->j < n->(G i j).natAbs<=D) (hf:100 < fuel):AI5 fuel (tab n n F) (tab n n G)=some (tab n n (AF3 n F G),true):=by
 apply ok_eq;unfold AI5;refine ABs (AC2 (Aau hn Ab hf)) fun x hx=>?_;subst hx;dsimp only;refine ABs (AC2 (Ain hn Ab hf)) fun x hx=>?_;subst hx;dsimp only;rw [ACt,ACt];refine ABs (Q:=fun ex=>match ex with | .inl _=>False | .inr _=>True) (AB8 (fun h=>absurd h (by decide)) fun _=>AB8 (fun h=>absurd h (by decide)) fun _=>AB8 (fun h=>absurd rfl h) fun _=>ABn trivial) fun ex hex=>?_
 cases ex with
 | inl e=>exact hex.elim
 | inr u=>
   dsimp only
   rw [ACt]
   refine ABs (AC2 (AY8 (by omega) (by omega) (by omega))) fun O hO=>?_
   subst hO
   refine ABs (AC4 (fun i s=>s=(((i:Nat):Int),tab n n (muS (AF3 n F G) i 0))/\i<=n) n (Q:=(· =tab n n (AF3 n F G))) ⟨?_,Nat.zero_le _⟩ (by omega) fun i s hi hI=>?_) fun e he=>ABn (by rw [he])
   · rw [AG4 n (0:Int),AG4]
     refine congrArg (Prod.mk (0:Int)) ?_
     rw [AP3]
     exact ADk fun r _=>ADk fun c _=>by unfold muS;rw [if_neg (by omega)]
   · obtain ⟨rfl,hin⟩:=hI
     unfold AMc
     dsimp only
     rw [ACt]
     refine AB8 (fun h=>?_) (fun h=>ABn ?_)
     · have hi':i < n:=by omega
       refine ABs (AC4 (fun j s=>s=(((j:Nat):Int),tab n n (muS (AF3 n F G) i j))/\j<=n) n (Q:=(· =tab n n (muS (AF3 n F G) (i + 1) 0))) ⟨rfl,Nat.zero_le _⟩ (by omega) fun j s hj hJ=>?_) fun e he=>ABn ⟨by omega,by rw [wk (by omega),he];simp,by omega⟩
       obtain ⟨rfl,hjn⟩:=hJ
       unfold AMb
       dsimp only
       rw [ACt]
       refine AB8 (fun h2=>?_) (fun h2=>ABn ?_)
       · have hj':j < n:=by omega
         refine ACg (ACv hi') rfl (ACg (ACv hi') rfl (ACg (ACv hj') rfl (ABs (AC2 (Aun (D:=D) Ab hD (fun a ha=>⟨hF i a hi' ha,hG a j ha hj'⟩) hf)) fun y hy=>ACg (ACp hj') rfl (ABn ⟨by omega,?_,by omega⟩))))
         subst hy
         rw [wk (by omega),AWf]
         refine Prod.ext (by dsimp only;omega) (APd fun r c hr hc=>?_)
         rw [ADf]
         unfold muS
         by_cases h3:r=i
         · rw [if_pos h3]
           by_cases h4:c=j
           · rw [if_pos h4,if_pos (by omega),h3,h4];rfl
           · rw [if_neg h4]
             by_cases h5:c < j
             · rw [if_pos (by omega),if_pos (by omega),h3]
             · rw [if_neg (by omega),if_neg (by omega)]
         · rw [if_neg h3]
           by_cases h5:r < i
           · rw [if_pos (by omega),if_pos (by omega)]
           · rw [if_neg (by omega),if_neg (by omega)]
       · refine APd fun r c hr hc=>?_
         unfold muS
         by_cases h5:r < i + 1
         · rw [if_pos (by omega),if_pos (by omega)]
         · rw [if_neg (by omega),if_neg (by omega)]
     · refine APd fun r c hr hc=>?_
       unfold muS
       rw [if_pos (by omega)]
theorem Aio (a b:Int):AS4 a b=0↔a=b:=by unfold AS4;split <;> (try split) <;> omega
theorem Arr {fuel n:Nat} {F:Nat->Nat->Int} (Ae:n<=16) (hf:100 < fuel):Ok (AE6 fuel (tab n n F)) fun r=>r=true↔AMp n F:=by
 unfold AE6;refine ABs (AC4 (fun i s=>s=((i:Nat):Int)/\i<=n/\ ∀ a b,b < a->a < i->F a b=F b a) n (Q:=fun ex=>match ex with | .inl e=>e=false/\¬ AMp n F | .inr _=>AMp n F) ⟨rfl,Nat.zero_le _,fun a b h1 h2=>by omega⟩ (by omega) fun i s hi hI=>?_) fun ex hex=>?_
 ·obtain ⟨rfl,hin,hs⟩:=hI;unfold AI1;rw [ACt];refine AB8 (fun h=>?_) (fun h=>ABn ?_)
  ·have hi':i < n:=by omega
   refine ABs (AC4 (fun j s=>s=((j:Nat):Int)/\j<=i/\ ∀ b,b < j->F i b=F b i) i (Q:=fun ex=>match ex with | .inl e=>e=false/\¬ AMp n F | .inr _=> ∀ b,b < i->F i b=F b i) ⟨rfl,Nat.zero_le _,fun b h1=>by omega⟩ (by omega) fun j s hj hJ=>?_) fun ex hex=>?_
   ·obtain ⟨rfl,hji,hb⟩:=hJ;unfold AI0;refine AB8 (fun h2=>?_) (fun h2=>ABn ?_)
    ·have hj':j < i:=by omega
     refine ACg (ACv hi') rfl (ACg (ACp (by omega)) rfl (ACg (ACv (by omega)) rfl (ACg (ACp hi') rfl (ABs (AC2 (a:=AS4 (F i j) (F j i)) rfl) fun c hc=>?_))));subst hc;refine AB8 (fun h3=>ABn ⟨rfl,fun h4=>h3 ((Aio _ _).2 (h4 i j hi' (by omega)))⟩) (fun h3=>ABn ⟨by omega,by rw [wk (by omega)];simp,by omega,fun b Af=>?_⟩);rcases Nat.lt_or_ge b j with h4 | h4
     ·exact hb b h4
     ·obtain rfl:b=j:=by omega
      exact (Aio _ _).1 (Classical.not_not.1 h3)
    ·obtain rfl:j=i:=by omega
     exact hb
   ·cases ex with
    | inl e=>exact ABn hex
    | inr u=>exact ABn ⟨by omega,by rw [wk (by omega)];simp,by omega,fun a b h1 h2=>by
        rcases Nat.lt_or_ge a i with h4 | h4
        · exact hs a b h1 h4
        · obtain rfl:a=i:=by omega
          exact hex b h1⟩
  ·obtain rfl:i=n:=by omega
   intro a b ha hb;rcases Nat.lt_trichotomy a b with h1 | h1 | h1
   ·exact (hs b a h1 hb).symm
   ·rw [h1]
   ·exact hs a b h1 ha
 ·cases ex with
  | inl e=>obtain ⟨rfl,h⟩:=hex;exact ABn ⟨fun h1=>Bool.noConfusion h1,fun h1=>absurd h1 h⟩
  | inr u=>exact ABn ⟨fun _=>hex,fun _=>rfl⟩
theorem Aqq {fuel n D:Nat} {F G:Nat->Nat->Int} (hn:1<=n) (Aa:n<=16) (hD:16 * (D * D) < AE3) (hF:∀ i j,i < n->j < n->(F i j).natAbs<=D) (hG:∀ i j,i < n->j < n->(G i j).natAbs<=D) (hH:∀ i j,i < n->j < n->(AF3 n (trF G) F i j).natAbs<=D) (hf:100 < fuel):AE7 fuel (tab n n F) (tab n n G)=some (tab n n (AF3 n (AF3 n (trF G) F) G)):=by
 apply ok_eq;unfold AE7;refine ABs (AC2 (Ain hn Aa hf)) fun x hx=>?_;subst hx;dsimp only
 have pr:∀ {F G:Nat->Nat->Int},(∀ i j,i < n->j < n->(F i j).natAbs<=D)->(∀ i j,i < n->j < n->(G i j).natAbs<=D)->Ok (AD9 fuel (tab n n F) (tab n n G)) (· =tab n n (AF3 n F G)):=fun {F G} hF hG=>by
   unfold AD9
   refine ABs (AC2 (An1 hn Aa hD hF hG hf)) fun x hx=>?_
   subst hx
   exact ABn rfl
 refine ABs (pr (fun i j hi hj=>hG j i hj hi) hF) fun x hx=>?_;subst hx;refine ABs (pr hH hG) fun y hy=>ABn hy
theorem Aip (a:Int):AG9 a<=0↔a<=0:=by unfold AG9;split <;> (try split) <;> omega
theorem Auo {fuel n:Nat} {F:Nat->Nat->Int} (Ae:1<=n) (hn:n<=8) (hb:∀ i j,i < n->j < n->(F i j).natAbs<=AH6) (hf:100 < fuel):Ok (AG2 fuel (tab n n F)) fun r=>r=true↔AMp n F/\AOb n F:=by
 unfold AG2;refine ABs (AC2 (AYe Ae hn hb hf)) fun x hx=>?_;subst hx;dsimp only;refine ABs (Q:=fun ex=>match ex with | .inl e=>e=false/\¬ AMp n F | .inr _=>AMp n F) (AB8 (fun h=>absurd h (by decide)) fun _=>ABs (Arr (by omega) hf) fun r hr=>?_) fun ex hex=>?_
 ·refine AB8 (fun h=>ABn ⟨rfl,fun h1=>?_⟩) (fun h=>ABn (hr.1 ?_))
  ·rw [hr.2 h1] at h;exact absurd h (by decide)
  ·cases r
   ·exact absurd rfl h
   ·rfl
 ·cases ex with
  | inl e=>obtain ⟨rfl,h⟩:=hex;exact ABn ⟨fun h1=>Bool.noConfusion h1,fun h1=>absurd h1.1 h⟩
  | inr u=>
    dsimp only at hex ⊢
    have h0:∀ k,k<=0->0 < det k F:=fun k hk=>by
      obtain rfl:k=0:=by omega
      simp [det]
    refine ABs (AC4 (fun i s=>s=((i:Nat):Int)/\i<=n/\ ∀ k,k<=i->0 < det k F) n (Q:=fun ex=>match ex with | .inl e=>e=false/\¬ AOb n F | .inr _=>AOb n F) ⟨rfl,Nat.zero_le _,h0⟩ (by omega) fun i s hi hI=>?_) fun ex Ad=>?_
    · obtain ⟨rfl,hin,hp⟩:=hI
      unfold AJj
      rw [ACw]
      refine AB8 (fun h=>?_) (fun h=>ABn ?_)
      · have hi':i < n:=by omega
        refine ACg (ACp hi') rfl (ABs (AC2 (a:=AG9 (det (i + 1) F)) rfl) fun c hc=>?_)
        subst hc
        refine AB8 (fun h3=>ABn ⟨rfl,fun h4=>?_⟩) (fun h3=>ABn ⟨by omega,by rw [wk (by omega)];simp,by omega,fun k hk=>?_⟩)
        · have:=h4 (i + 1) (by omega);have:=(Aip _).1 h3;omega
        · rcases Nat.lt_or_ge k (i + 1) with h4 | h4
          · exact hp k (by omega)
          · obtain rfl:k=i + 1:=by omega
            rw [Aip] at h3;omega
      · obtain rfl:i=n:=by omega
        exact hp
    · cases ex with
      | inl e=>obtain ⟨rfl,h⟩:=Ad;exact ABn ⟨fun h1=>Bool.noConfusion h1,fun h1=>absurd h1.2 h⟩
      | inr u=>exact ABn ⟨fun _=>⟨hex,Ad⟩,fun _=>rfl⟩
theorem AWh {fuel n:Nat} {F:Nat->Nat->Int} (Ac:1<=n) (hn:n<=8) (hb:∀ i j,i < n->j < n->(F i j).natAbs<=AH6) (hf:100 < fuel):Ok (AEh fuel (tab n n F)) fun r=>r=0↔AMp n F/\AOb n F:=by
 unfold AEh;refine ABs (AC2 (Ab9 Ac (by omega) hf)) fun x hx=>?_;subst hx;dsimp only;refine AB8 (fun h=>absurd h (by decide)) fun _=>AB8 (fun h=>by omega) fun _=>ABs (Arr (by omega) hf) fun r hr=>AB8 (fun h=>ABn ⟨fun h1=>by omega,fun h1=>?_⟩) fun h=>ABs (Auo Ac hn hb hf) fun q hq=>AB8 (fun h2=>ABn ⟨fun h1=>by omega,fun h1=>?_⟩) fun h2=>ABn ⟨fun _=>hq.1 ?_,fun _=>rfl⟩
 ·rw [hr.2 h1.1] at h;exact absurd h (by decide)
 ·rw [hq.2 h1] at h2;exact absurd h2 (by decide)
 ·cases q
  ·exact absurd rfl h2
  ·rfl
theorem Aiq {fuel n:Nat} {F:Nat->Nat->Int} (hn:n<=8) (hb:∀ i j,i < n->j < n->(F i j).natAbs<=AH6) (hf:100 < fuel):AGv fuel (tab n n F)=some (decide (det n F<=10000)):=by
 apply ok_eq;unfold AGv;refine ABs (AC2 (AXd hn hb (by omega))) fun x hx=>?_;subst hx;refine ABs (Q:=(· =10000)) ⟨10000,if_pos (by omega),rfl⟩ fun y hy=>?_;subst hy;refine ABs (AC2 (a:=AS4 (det n F) 10000) rfl) fun c hc=>ABn ?_;subst hc;exact decide_eq_decide.2 (Adn _ _)
def idS (i r c:Nat):Int:=if r=c/\r < i then 1 else 0
theorem Air {fuel n:Nat} (hn:1<=n) (Ae:n<=16) (hf:100 < fuel):AFi fuel (n:Int)=some (tab n n dl,true):=by
 apply ok_eq;unfold AFi;refine ABs (Q:=fun ex=>match ex with | .inl _=>False | .inr _=>True) (AB8 (fun h=>by omega) fun _=>AB8 (fun h=>by omega) fun _=>ABn trivial) fun ex hex=>?_
 cases ex with
 | inl e=>exact hex.elim
 | inr u=>
   dsimp only
   refine ABs (AC2 (AY8 (by omega) (by omega) (by omega))) fun O hO=>?_
   have Ab:O=tab n n (idS 0):=by
     rw [hO,AG4 n (0:Int),AG4,AP3]
     exact ADk fun r _=>ADk fun c _=>by unfold idS;rw [if_neg (by omega)]
   have hlen:O.length=n:=by rw [Ab,ACt]
   refine ABs (AC4 (fun i s=>s=(((i:Nat):Int),tab n n (idS i))/\i<=n) n (Q:=(· =tab n n dl)) ⟨by rw [Ab];rfl,Nat.zero_le _⟩ (by omega) fun i s hi hI=>?_) fun e he=>ABn (by rw [he])
   obtain ⟨rfl,hin⟩:=hI
   unfold AJi
   dsimp only
   rw [hlen]
   refine AB8 (fun h=>?_) (fun h=>ABn ?_)
   · have hi':i < n:=by omega
     refine ACg (ACv hi') rfl (ABs (Q:=(· =1)) ⟨1,if_pos (by omega),rfl⟩ fun y hy=>ACg (ACp hi') rfl (ABn ⟨by omega,?_,by omega⟩))
     subst hy
     rw [wk (by omega),AWf]
     refine Prod.ext (by dsimp only;omega) (APd fun r c hr hc=>?_)
     rw [ADf]
     unfold idS
     by_cases h3:r=i
     · rw [if_pos h3]
       by_cases h4:c=i
       · rw [if_pos h4,if_pos (by omega)]
       · rw [if_neg h4,if_neg (by omega),if_neg (by omega)]
     · rw [if_neg h3]
       by_cases h5:r=c/\r < i
       · rw [if_pos h5,if_pos (by omega)]
       · rw [if_neg h5,if_neg (by omega)]
   · refine APd fun r c hr hc=>?_
     unfold idS dl
     by_cases h5:r=c
     · rw [if_pos (by omega),if_pos h5]
     · rw [if_neg (by omega),if_neg h5]
def toS (n:Nat) (F:Nat->Nat->Int) (i:Nat):List (List Int):=AEj n fun r=>if r < i then AEj n (F r) else []
def toR (n:Nat) (F:Nat->Nat->Int) (i j:Nat):List (List Int):=AEj n fun r=>if r < i then AEj n (F r) else if r=i then AEj n (fun c=>if c < j then F i c else 0) else []
theorem Auq {fuel n:Nat} {F:Nat->Nat->Int} (hn:1<=n) (Ae:n<=16) (hb:∀ i j,i < n->j < n->(F i j).natAbs < 9223372036854775808) (hf:100 < fuel):AHt fuel (tab n n F)=some (tab n n F,true):=by
 apply ok_eq;unfold AHt;refine ABs (AC2 (Aau hn Ae hf)) fun x hx=>?_;subst hx;dsimp only;refine AB8 (fun h=>absurd h (by decide)) fun _=>AEa (by omega) (ABs (AC4 (fun i s=>s=(((i:Nat):Int),toS n F i)/\i<=n) n (Q:=fun ex=>match ex with | .inl _=>False | .inr e=>e=tab n n F) ⟨?_,Nat.zero_le _⟩ (by omega) fun i s hi hI=>?_) fun ex hex=>?_)
 ·rw [Int.toNat_natCast,AG4];exact congrArg (Prod.mk (0:Int)) (ADk fun r _=>by rw [if_neg (by omega)])
 ·obtain ⟨rfl,hin⟩:=hI;unfold AKd;dsimp only;rw [List.length_replicate,Int.toNat_natCast];refine AB8 (fun h=>AEa (by omega) ?_) (fun h=>ABn ?_)
  ·have hi':i < n:=by omega
   have e0:sI (toS n F i) (i:Int) (List.replicate n (0:Int))=toR n F i 0:=by
     rw [ADu];unfold toS;rw [AFs]
     refine ADk fun r _=>?_
     by_cases h1:r=i
     · rw [if_pos h1,if_neg (by omega),if_pos h1,AG4];exact ADk fun c _=>by rw [if_neg (by omega)]
     · rw [if_neg h1]
       by_cases h2:r < i
       · rw [if_pos h2,if_pos h2]
       · rw [if_neg h2,if_neg h2,if_neg h1]
   refine ACg (n:=i) (ACp hi') rfl ?_;rw [e0];refine ACg (n:=i) (ACp hi') rfl ?_;rw [if_neg (by omega),if_pos rfl];refine ABs (AC4 (fun j s=>s=(((j:Nat):Int),toR n F i j)/\j<=n) n (Q:=fun ex=>match ex with | .inl _=>False | .inr e=>e=toS n F (i + 1)) ⟨rfl,Nat.zero_le _⟩ (by omega) fun j s hj hJ=>?_) fun ex hex=>?_
   ·obtain ⟨rfl,hjn⟩:=hJ;unfold AKc;dsimp only;rw [ACw];refine AB8 (fun h2=>?_) (fun h2=>ABn ?_)
    ·have hj':j < n:=by omega
     refine ACg (ACv hi') rfl (ACg (ACp hj') rfl (ABs (Q:=(· =(F i j,true))) ⟨_,if_pos (hb i j hi' hj'),rfl⟩ fun y hy=>?_));subst hy;dsimp only;refine AB8 (fun h=>absurd h (by decide)) fun _=>ACg (n:=i) (ACp hi') rfl ?_;rw [if_neg (by omega),if_pos rfl];refine ACg (ACp hj') rfl (ABn ⟨by omega,?_,by omega⟩);rw [wk (by omega),ADu,ADu];refine Prod.ext (by dsimp only;omega) ?_;dsimp only;unfold toR;rw [AFs,AFs];refine ADk fun r _=>?_;by_cases h1:r=i
     ·rw [if_pos h1,if_neg (by omega),if_pos h1];refine ADk fun c _=>?_;by_cases h3:c=j
      ·rw [if_pos h3,if_pos (by omega),h3]
      ·rw [if_neg h3];by_cases h4:c < j
       ·rw [if_pos h4,if_pos (by omega)]
       ·rw [if_neg h4,if_neg (by omega)]
     ·rw [if_neg h1,if_neg h1,if_neg h1]
    ·refine ADk fun r _=>?_;by_cases h1:r < i
     ·rw [if_pos h1,if_pos (by omega)]
     ·rw [if_neg h1];by_cases h3:r=i
      ·rw [if_pos h3,if_pos (by omega),h3];exact ADk fun c hc=>by rw [if_pos (by omega)]
      ·rw [if_neg h3,if_neg (by omega)]
   ·cases ex with
    | inl e=>exact hex.elim
    | inr e=>exact ABn ⟨by omega,by rw [wk (by omega),hex];simp,by omega⟩
  ·refine ADk fun r hr=>?_;rw [if_pos (by omega)];rfl
 ·cases ex with
  | inl e=>exact hex.elim
  | inr e=>exact ABn (by rw [hex])
theorem An2 {S E:Type} {body:S->Option (S ⊕ E)} {Q:E->Prop} (I:S->Prop) (μ:S->Nat) (hs:∀ s,I s->Ok (body s) fun r=>match r with | .inl s'=>I s'/\μ s' < μ s | .inr e=>Q e):∀ {fuel:Nat} {s0:S},I s0->μ s0 < fuel->Ok (iter body fuel s0) Q:=by
  intro fuel;induction fuel with
  | zero=>intro s0 _ h;omega
  | succ f ih=>
    intro s0 h0 hf;obtain ⟨r,hr,hq⟩:=hs s0 h0;cases r with
    | inl s'=>
      obtain ⟨e,he,hQ⟩:=ih hq.1 (by have:=hq.2;omega);exact ⟨e,by simp [iter,hr,he],hQ⟩
    | inr e=>exact ⟨e,by simp [iter,hr],hq⟩
theorem AQw (a:Int):AG9 a=0↔a=0:=by unfold AG9;split <;> (try split) <;> omega
theorem Ais (a:Int):AG9 a < 0↔a < 0:=by unfold AG9;split <;> (try split) <;> omega
theorem An3 {fuel:Nat} {a b:Int} (ha:a.natAbs < AE3) (hb:b.natAbs < AE3) (h0:b≠0):AEm fuel a b=some (a / b):=by
 apply ok_eq;unfold AEm;refine ABs (AC2 (a:=(a / b,a % b,true)) (if_pos ⟨ha,hb,h0⟩)) fun x hx=>?_;subst hx;exact ABn rfl
theorem Aur {fuel:Nat} {a b:Int} (ha:a.natAbs < AE3) (hb:b.natAbs < AE3) (h0:b≠0):AFn fuel a b=some (a % b):=by
 apply ok_eq;unfold AFn;refine ABs (AC2 (a:=(a / b,a % b,true)) (if_pos ⟨ha,hb,h0⟩)) fun x hx=>?_;subst hx;exact ABn rfl
theorem Aus {fuel:Nat} {a b:Int} (ha:a.natAbs < AE3) (hb:b.natAbs < AE3) (h0:b≠0) (hf:AE3 < fuel):Ok (AI7 fuel a b) fun g=>0 < g/\g ∣ a/\g ∣ b:=by
 unfold AI7;refine ABs (AC2 (a:=(a.natAbs:Int)) rfl) fun x hx=>ABs (AC2 (a:=(b.natAbs:Int)) rfl) fun y hy=>?_;subst hx;subst hy;refine ABs (An2 (fun s:Int × Int=>0<=s.1/\0<=s.2/\s.1.natAbs < AE3/\s.2.natAbs < AE3/\(0 < s.1∨0 < s.2)/\ ∀ d:Int,d ∣ s.1->d ∣ s.2->d ∣ a/\d ∣ b) (fun s=>s.2.natAbs) (Q:=fun g=>0 < g/\g ∣ a/\g ∣ b) (fun s hs=>?_) ⟨by omega,by omega,by omega,by omega,.inr (by omega),fun d h1 h2=>⟨Int.dvd_natAbs.1 h1,Int.dvd_natAbs.1 h2⟩⟩ (by dsimp only;omega)) fun g hg=>ABn hg;obtain ⟨u,v⟩:=s;obtain ⟨h1,h2,h3,h4,h5,h6⟩:=hs;unfold AMd;dsimp only at h1 h2 h3 h4 h5 h6 ⊢;refine ABs (AC2 (a:=AG9 v) rfl) fun s hs=>?_;subst hs;refine AB8 (fun hv=>?_) fun hv=>ABn ?_
 ·have Ab:v≠0:=fun h=>hv ((AQw v).2 h);refine ABs (AC2 (Aur h3 h4 Ab)) fun r hr=>ABn ?_;subst hr;have e1:=Int.emod_nonneg u Ab;have e2:=Int.emod_lt_of_pos u (show 0 < v by omega);refine ⟨⟨h2,e1,h4,by omega,.inl (by omega),fun d d1 d2=>h6 d ?_ d1⟩,by omega⟩;have:=Int.dvd_add d2 (Int.dvd_trans d1 ⟨u / v,rfl⟩);rwa [Int.emod_add_mul_ediv] at this
 ·have Ab:v=0:=by
    rcases Decidable.em (AG9 v=0) with h | h
    · exact (AQw v).1 h
    · exact absurd h hv
  subst Ab;exact ⟨by omega,h6 u (Int.dvd_refl u) ⟨0,by simp⟩⟩
def FrE (n d n' d':Int):Prop:=0 < d'/\n' * d=n * d'/\n'.natAbs<=n.natAbs/\d'.natAbs<=d.natAbs
theorem Ars {fuel:Nat} {a b:Int} (ha:a.natAbs < AE3) (hb:b.natAbs < AE3) (h0:b≠0) (hf:AE3 < fuel):Ok (AH4 fuel a b) fun r=>r.2=true/\FrE a b r.1.1 r.1.2:=by
 unfold AH4;refine ABs (AC2 (a:=AG9 b) rfl) fun s hs=>?_;subst hs;refine AB8 (fun h=>absurd ((AQw b).1 h) h0) fun _=>ABs (Q:=fun e:Int × Int=>0 < e.2/\e.1 * b=a * e.2/\e.1.natAbs=a.natAbs/\e.2.natAbs=b.natAbs) (ABs (AC2 (a:=AG9 b) rfl) fun s hs=>?_) fun e he=>?_
 ·subst hs;refine AB8 (fun h=>?_) fun h=>ABn ⟨?_,rfl,rfl,rfl⟩
  ·have:=(Ais b).1 h;refine ABs (AC2 (a:= -a) rfl) fun x hx=>ABs (AC2 (a:= -b) rfl) fun y hy=>ABn ?_;subst hx;subst hy;exact ⟨by dsimp only;omega,by dsimp only;grind,by dsimp only;omega,by dsimp only;omega⟩
  ·have: ¬ b < 0:=fun h2=>h ((Ais b).2 h2);dsimp only;omega
 ·obtain ⟨u,v⟩:=e;obtain ⟨h1,h2,h3,h4⟩:=he;dsimp only at h1 h2 h3 h4 ⊢;refine ABs (Aus (a:=u) (b:=v) (by omega) (by omega) (by omega) hf) fun g hg=>?_;obtain ⟨g1,⟨u',rfl⟩,⟨v',rfl⟩⟩:=hg;have gn:g≠0:=by omega
  have hv':0 < v':=Int.pos_of_mul_pos_right h1 g1;have e1:(g * u').natAbs=g.natAbs * u'.natAbs:=Int.natAbs_mul _ _;have e2:(g * v').natAbs=g.natAbs * v'.natAbs:=Int.natAbs_mul _ _;have g2:1<=g.natAbs:=by omega
  have m1:=Nat.mul_le_mul_right u'.natAbs g2;have m2:=Nat.mul_le_mul_right v'.natAbs g2;have m3:=Nat.mul_le_mul_left g.natAbs (show 1<=v'.natAbs by omega);refine ABs (AC2 (An3 (by omega) (by omega) gn)) fun x hx=>ABs (AC2 (An3 (by omega) (by omega) gn)) fun y hy=>ABn ⟨rfl,?_⟩;subst hx;subst hy;rw [Int.mul_ediv_cancel_left _ gn,Int.mul_ediv_cancel_left _ gn];refine ⟨hv',?_,by dsimp only;omega,by dsimp only;omega⟩;have:g * (u' * b)=g * (a * v'):=by grind
  exact Int.eq_of_mul_eq_mul_left gn this
theorem Ado {fuel:Nat} {a b:Int} (ha:a.natAbs < AE3) (hb:b.natAbs < AE3) (h0:b≠0) (hf:AE3 < fuel):Ok (AEc fuel a b) fun r=>FrE a b r.1 r.2:=by
 unfold AEc;refine ABs (Ars ha hb h0 hf) fun r hr=>?_;obtain ⟨⟨x,y⟩,c⟩:=r;obtain ⟨h1,h2⟩:=hr;dsimp only at h1 h2 ⊢;subst h1;exact AB8 (fun h=>absurd h (by decide)) fun _=>ABn h2
theorem As8 {fuel:Nat} {a b:Int} (ha:a.natAbs < AE3) (hb:b.natAbs < AE3) (h0:b≠0) (hf:AE3 < fuel):Ok (AG3 fuel a b) fun r=>FrE a b r.1 r.2:=by
 unfold AG3;exact ABs (Ado ha hb h0 hf) fun r hr=>ABn hr
theorem Afi {N D N' D':Int} (hD:0 < D) (hD':0 < D') (h:N * D'=N' * D):N / D=N' / D':=by
 rw [<- Int.mul_ediv_mul_of_pos_left N D hD',h,Int.mul_comm D D',Int.mul_ediv_mul_of_pos_left N' D' hD]
theorem As9 {fuel:Nat} {a b:Int} (hab:4 * (a.natAbs + b.natAbs) < AE3) (h0:0 < b) (hf:AE3 < fuel):Ok (AHm fuel a b) fun r=>r=(2 * a + b) / (2 * b):=by
 have Ag:(1:Int).natAbs < AE3:=by
   have:(1:Int).natAbs=1:=rfl
   omega
 have Ah:(2:Int).natAbs < AE3:=by
   have:(2:Int).natAbs=2:=rfl
   omega
 unfold AHm;refine ABs (Q:=(· =(1,2))) ?_ fun hh he=>?_
 ·unfold AKq;exact ABs (Q:=(· =1)) ⟨1,if_pos (by omega),rfl⟩ fun x hx=>ABs (Q:=(· =2)) ⟨2,if_pos (by omega),rfl⟩ fun y hy=>ABn (by rw [hx,hy])
 subst he;dsimp only;refine ABs (Q:=fun r=>0 < r.2/\r.1 * (2 * b)=(2 * a + b) * r.2/\r.1.natAbs < AE3/\r.2.natAbs < AE3) ?_ fun r hr=>?_
 ·unfold ALg;refine ABs (Ado (by omega) (by omega) (by omega) hf) fun x hx=>ABs (Ado (a:=1) (b:=2) Ag Ah (by omega) hf) fun y hy=>?_;obtain ⟨x1,x2⟩:=x;obtain ⟨y1,y2⟩:=y;obtain ⟨a1,a2,a3,a4⟩:=hx;obtain ⟨b1,b2,b3,b4⟩:=hy;dsimp only at *;obtain rfl:y2=2:=by omega
  obtain rfl:y1=1:=by omega
  refine ABs (AC2 (a:=x1 * 2) (if_pos (by have:(2:Int).natAbs=2:=rfl;rw [this];omega))) fun u hu=>ABs (AC2 (a:=1 * x2) (if_pos (by have:(1:Int).natAbs=1:=rfl;rw [this];omega))) fun v hv=>?_;subst hu;subst hv;refine ABs (AC2 (a:=x1 * 2 + 1 * x2) (if_pos ⟨by omega,by omega⟩)) fun w hw=>ABs (AC2 (a:=x2 * 2) (if_pos (by have:(2:Int).natAbs=2:=rfl;rw [this];omega))) fun z hz=>?_;subst hw;subst hz;refine ABs (Ars (by omega) (by omega) (by omega) hf) fun r hr=>ABn ?_;obtain ⟨⟨r1,r2⟩,c⟩:=r;obtain ⟨-,c1,c2,c3,c4⟩:=hr;dsimp only at *;refine ⟨c1,?_,by omega,by omega⟩;have h1:x2 * (r1 * (2 * b))=x2 * ((2 * a + b) * r2):=by grind
  exact Int.eq_of_mul_eq_mul_left (show x2≠0 by omega) h1
 ·obtain ⟨r1,r2⟩:=r;obtain ⟨h1,h2,h3,h4⟩:=hr;dsimp only at *;unfold AJ4;refine ABs (Q:=fun r=>r=(2 * a + b) / (2 * b)) (ABs (Ado h3 h4 (by omega) hf) fun x hx=>?_) fun z hz=>ABn hz;obtain ⟨x1,x2⟩:=x;obtain ⟨a1,a2,a3,a4⟩:=hx;dsimp only at *;refine ABs (AC2 (An3 (by omega) (by omega) (by omega))) fun q hq=>ABn ?_;subst hq;refine Afi a1 (by omega) ?_;have h5:r2 * (x1 * (2 * b))=r2 * ((2 * a + b) * x2):=by grind
  exact Int.eq_of_mul_eq_mul_left (show r2≠0 by omega) h5
end Go.Proofs.YtdnbklmefmoofaaGreatDoor
namespace Go.Proofs.YtdnbklmefmoofaaGreatDoor
open Go Go.QF
set_option maxRecDepth 100000
theorem Afj:64 * (dBd AH6 (8 + 1) * dBd AH6 (8 + 1)) < AE3:=by decide
theorem Afk {fuel n j:Nat} {F:Nat->Nat->Int} (hn:n<=8) (hj:j + 1 < n) (hb:∀ i j,i < n->j < n->(F i j).natAbs<=AH6) (hf:100 < fuel):Ok (AGd fuel (tab n n F) (AEj n fun a=>det (a + 1) F) ((j + 1:Nat):Int)) fun r=>r=true↔LvF F j:=by
 show Ok _ fun r:Bool=>r=true↔3 * (det (j + 1) F * det (j + 1) F)<=4 * (det j F * det (j + 2) F + Mn j F (j + 1) j * Mn j F (j + 1) j);unfold AGd;have w1:w64 (((j + 1:Nat):Int) - 1)=(j:Int):=by rw [wk (by omega)];omega
 have w2:w64 (((j + 1:Nat):Int) + 1)=((j + 2:Nat):Int):=by rw [wk (by omega)];omega
 rw [w1,w2];have hD:=Afj;have bl:(Mn j F (j + 1) j).natAbs<=dBd AH6 (8 + 1):=Aat hn (by omega) (by omega) (by omega) hb;have b0:(det j F).natAbs<=dBd AH6 (8 + 1):=AU8 hn (by omega) hb;have b1:(det (j + 1) F).natAbs<=dBd AH6 (8 + 1):=AU8 hn (by omega) hb;have b2:(det (j + 2) F).natAbs<=dBd AH6 (8 + 1):=AU8 hn (by omega) hb;have p1:=Nat.mul_le_mul b0 b2;have p2:=Nat.mul_le_mul bl bl;have p3:=Nat.mul_le_mul b1 b1;have e1:=Int.natAbs_mul (det j F) (det (j + 2) F);have e2:=Int.natAbs_mul (Mn j F (j + 1) j) (Mn j F (j + 1) j);have e3:=Int.natAbs_mul (det (j + 1) F) (det (j + 1) F);refine ABs (AC2 (Aas hn (by omega) (by omega) hb hf)) fun l hl=>?_;subst hl;refine ABs (Q:=(· =4)) ⟨4,if_pos (by omega),rfl⟩ fun x hx=>?_;subst hx;refine ABs (AC2 (AVp (by omega) hn)) fun x hx=>ABs (AC2 (AVp (by omega) hn)) fun y hy=>?_;subst hx;subst hy;refine ABs (AC2 (a:=det j F * det (j + 2) F) (if_pos (by omega))) fun x hx=>ABs (AC2 (a:=Mn j F (j + 1) j * Mn j F (j + 1) j) (if_pos (by omega))) fun y hy=>?_;subst hx;subst hy;generalize det j F * det (j + 2) F=P at *;generalize Mn j F (j + 1) j * Mn j F (j + 1) j=L at *;refine ABs (AC2 (a:=P + L) (if_pos (by omega))) fun x hx=>ABs (AC2 (a:=4 * x) (if_pos (by have:(4:Int).natAbs=4:=rfl;rw [this];omega))) fun y hy=>?_;subst hx;subst hy;refine ABs (Q:=(· =3)) ⟨3,if_pos (by omega),rfl⟩ fun x hx=>?_;subst hx;refine ABs (AC2 (AVp (by omega) hn)) fun x hx=>ABs (AC2 (AVp (by omega) hn)) fun y hy=>?_;subst hx;subst hy;refine ABs (AC2 (a:=det (j + 1) F * det (j + 1) F) (if_pos (by omega))) fun x hx=>?_;subst hx;generalize det (j + 1) F * det (j + 1) F=S at *;refine ABs (AC2 (a:=3 * S) (if_pos (by have:(3:Int).natAbs=3:=rfl;rw [this];omega))) fun x hx=>ABs (AC2 (a:=AS4 (4 * (P + L)) x) rfl) fun c hc=>ABn ?_;subst hx;subst hc;rw [decide_eq_true_iff];unfold AS4;split <;> (try split) <;> omega
def ATe (A:Nat->Nat->Int) (i j:Nat):Int:= -((2 * Mn j A i j + det (j + 1) A) / (2 * det (j + 1) A))
def AWi (A:Nat->Nat->Int) (i j:Nat):Nat->Nat->Int:=ADz dl j fun q=>if q=i then ATe A i j else dl j q
def ARs (A:Nat->Nat->Int) (i:Nat):Prop:= ∀ r l,l < r->r < i->SzF A r l
def ATf (A:Nat->Nat->Int) (i:Nat):Prop:= ∀ r,r + 1 < i->LvF A r
def An4 (n:Nat) (A:Nat->Nat->Int) (r:List (List Int) × Bool):Prop:=
  (r=([],false)/\ARs A n/\ATf A n)∨
  (∃ i j,j < i/\i < n/\¬ SzF A i j/\ARs A i/\(∀ l,l < i->j < l->SzF A i l)/\ATf A i/\r=(tab n n (AWi A i j),true))∨
  ∃ j,j + 1 < n/\¬ LvF A j/\ARs A (j + 2)/\ATf A (j + 1)/\r=(tab n n (AHi dl (j + 1) j),true)
theorem Ata {fuel n:Nat} {A:Nat->Nat->Int} (Ai:1<=n) (hn:n<=8) (hp:AOb n A) (hb:∀ i j,i < n->j < n->(A i j).natAbs<=AH6) (hf:AE3 < fuel):Ok (AIo fuel (tab n n A)) (An4 n A):=by
 have Ac:100 < fuel:=Nat.lt_of_le_of_lt (by decide) hf;have hD:=Afj;unfold AIo;refine ABs (AC2 (AYe Ai hn hb Ac)) fun x hx=>?_;subst hx;dsimp only;rw [ACt];refine ABs (AC2 (Air Ai (by omega) Ac)) fun x hx=>?_;subst hx;dsimp only;refine ABs (AC4 (fun i s=>s=(((i:Nat):Int),tab n n dl)/\i<=n/\ARs A i/\ATf A i) n (Q:=fun ex=>match ex with | .inl r=>An4 n A r | .inr _=>ARs A n/\ATf A n) ⟨rfl,Nat.zero_le _,fun r l h1 h2=>by omega,fun r h=>by omega⟩ (by omega) fun i s hi hI=>?_) fun ex hex=>?_
 ·obtain ⟨rfl,hin,hsz,hlv⟩:=hI;unfold ALr;dsimp only;rw [ACt];refine AB8 (fun h=>?_) (fun h=>ABn ?_)
  ·have hi':i < n:=by omega
   refine ABs (AC4 (fun k s=>s=((i:Int) - 1 - k,tab n n dl)/\k<=i/\ ∀ l,l < i->i<=l + k->SzF A i l) i (Q:=fun ex=>match ex with | .inl r=>An4 n A r | .inr e=>e=tab n n dl/\ ∀ l,l < i->SzF A i l) ⟨by rw [wk (by omega)];simp,Nat.zero_le _,fun l h1 h2=>by omega⟩ (by omega) fun k s hk hK=>?_) fun ex hex=>?_
   ·obtain ⟨rfl,hki,hz⟩:=hK;unfold ALq;dsimp only;refine AB8 (fun h2=>?_) (fun h2=>ABn ⟨rfl,fun l hl=>hz l hl (by omega)⟩);obtain ⟨j,hj⟩:∃ j:Nat,(i:Int) - 1 - k=j:=⟨i - 1 - k,by omega⟩;rw [hj];have hji:j < i:=by omega
    refine ABs (AC2 (Aim hn hi' (by omega) hb Ac)) fun b Ag=>?_;subst Ag;refine AB8 (fun h3=>?_) (fun h3=>ABn ⟨by omega,?_,by omega,fun l h4 h5=>?_⟩)
    ·have hbad: ¬ SzF A i j:=fun h=>by rw [<- AZf] at h;simp [h] at h3
     refine ACg (ACv (by omega)) rfl (ABs (AC2 (Aas hn hi' (by omega) hb Ac)) fun l hl=>?_);subst hl;rw [show w64 ((j:Int) + 1)=((j + 1:Nat):Int) by rw [wk (by omega)];omega];refine ABs (AC2 (AVp (by omega) hn)) fun d hd=>?_;subst hd;have bl:(Mn j A i j).natAbs<=dBd AH6 (8 + 1):=Aat hn hi' (by omega) (by omega) hb;have b1:(det (j + 1) A).natAbs<=dBd AH6 (8 + 1):=AU8 hn (by omega) hb;have hd:=hp (j + 1) (by omega);have hDD:dBd AH6 (8 + 1)<=dBd AH6 (8 + 1) * dBd AH6 (8 + 1):=Nat.le_mul_of_pos_left _ (by omega);refine ABs (As8 (by omega) (by omega) (by omega) hf) fun q hq=>?_;obtain ⟨x,y⟩:=q;obtain ⟨q1,q2,q3,q4⟩:=hq;dsimp only at q1 q2 q3 q4 ⊢;refine ABs (As9 (by omega) q1 hf) fun m hm=>ABs (AC2 (a:= -m) rfl) fun c hc=>?_
     have Ap:c=ATe A i j:=by
       rw [hc,hm]
       unfold ATe
       congr 1
       refine Afi (by omega) (by omega) ?_
       grind
     clear hm hc;refine ACg (ACp hi') rfl (ABn (.inr (.inl ⟨i,j,hji,hi',hbad,hsz,fun l h4 h5=>hz l h4 (by omega),hlv,?_⟩)));rw [ADu,ADu,AFs,Ap,show (AEj n fun q=>if q=i then ATe A i j else dl j q)=(List.range n).map fun q=>if q=i then ATe A i j else dl j q from rfl,ALl];rfl
    ·rw [wk (by omega)];refine congrArg (fun z=>(z,tab n n dl)) ?_;omega
    ·have hgood:SzF A i j:=by rw [<- AZf];simpa using h3
     rcases Nat.lt_or_ge (l + k) i with h6 | h6
     ·obtain rfl:l=j:=by omega
      exact hgood
     ·exact hz l h4 h6
   ·cases ex with
    | inl r=>exact ABn hex
    | inr e=>
      obtain ⟨rfl,hzi⟩:=hex
      have hsz':ARs A (i + 1):=fun r l h1 h2=>by
        rcases Nat.lt_or_ge r i with h3 | h3
        · exact hsz r l h1 h3
        · obtain rfl:r=i:=by omega
          exact hzi l h1
      dsimp only
      have nx:w64 ((i:Int) + 1)=((i + 1:Nat):Int):=by rw [wk (by omega)];omega
      refine AB8 (fun h4=>?_) (fun h4=>ABn ⟨by omega,by rw [nx],by omega,hsz',fun r hr=>by omega⟩)
      obtain ⟨j,rfl⟩:∃ j,i=j + 1:=⟨i - 1,by omega⟩
      refine ABs (Afk hn hi' hb Ac) fun b Ag=>?_
      refine AB8 (fun h5=>?_) (fun h5=>ABn ⟨by omega,by rw [nx],by omega,hsz',fun r hr=>?_⟩)
      · have hbad: ¬ LvF A j:=fun h=>by rw [Ag.2 h] at h5;cases h5
        rw [show w64 (((j + 1:Nat):Int) - 1)=(j:Int) by rw [wk (by omega)];omega]
        refine ACg (ACv (by omega)) rfl (ACg (ACv hi') rfl (ABn (.inr (.inr ⟨j,hi',hbad,hsz',hlv,?_⟩))))
        rw [ADu,ADu,show AEj n (dl j)=(List.range n).map (dl j) from rfl,show AEj n (dl (j + 1))=(List.range n).map (dl (j + 1)) from rfl,ALl,ALl]
        rfl
      · have hgood:LvF A j:=Ag.1 (by simpa using h5)
        rcases Nat.lt_or_ge r j with h6 | h6
        · exact hlv r (by omega)
        · obtain rfl:r=j:=by omega
          exact hgood
  ·obtain rfl:i=n:=by omega
   exact ⟨hsz,hlv⟩
 ·cases ex with
  | inl r=>exact ABn hex
  | inr u=>exact ABn (.inl ⟨rfl,hex⟩)
end Go.Proofs.YtdnbklmefmoofaaGreatDoor
namespace Go.QF
open Go
theorem Afl (c:Int) (f:Nat->Int) (n:Nat):c * psum f n=psum (fun i=>c * f i) n:=(AIh c f n).symm
theorem Ag5 (c:Int) (f:Nat->Int) (n:Nat):psum f n * c=psum (fun i=>f i * c) n:=by
 rw [Int.mul_comm,Afl];exact ADc fun k _=>Int.mul_comm _ _
section
variable {n K:Nat} {p:Int} {e f:Nat->Nat} {a b D D' S:Nat->Nat->Int}
theorem AT8 {A B C:Nat->Nat->Int} (i j:Nat):AF3 n (AF3 n A B) C i j=AF3 n A (AF3 n B C) i j:=by
 unfold AF3;rw [ADc (g:=fun k=>psum (fun l=>A i l * B l k * C k j) n) fun k _=>Ag5 _ _ _,Abu]
 exact ADc fun l _=>by
   rw [Afl]
   exact ADc fun k _=>by grind
end
end Go.QF
namespace Go.Proofs.YtdnbklmefmoofaaGreatDoor
open Go Go.QF
set_option maxRecDepth 100000
theorem An5 {S E:Type} {body:S->Option (S ⊕ E)} {Q:E->Prop} (I:Nat->S->Prop) (hs:∀ k s,I k s->Ok (body s) fun r=>match r with | .inl s'=> ∃ k',k' < k/\I k' s' | .inr e=>Q e):∀ {fuel k:Nat} {s0:S},I k s0->k < fuel->Ok (iter body fuel s0) Q:=by
  intro fuel;induction fuel with
  | zero=>intro k s0 _ h;omega
  | succ f ih=>
    intro k s0 h0 hf;obtain ⟨r,hr,hq⟩:=hs k s0 h0;cases r with
    | inl s'=>
      obtain ⟨k',h1,h2⟩:=hq;obtain ⟨e,he,hQ⟩:=ih h2 (by omega);exact ⟨e,by simp [iter,hr,he],hQ⟩
    | inr e=>exact ⟨e,by simp [iter,hr],hq⟩
theorem Afm {n i j s:Nat} {A:Nat->Nat->Int} (hj:j < i) (hi:i < n) (hs:s < n) (X:Nat->Int):psum (fun k=>X k * AWi A i j k s) n=X s + if s=i then ATe A i j * X j else 0:=by
 have h1:∀ k,X k * AWi A i j k s=X k * dl k s + (if k=j then (if s=i then ATe A i j * X j else 0) else 0):=fun k=>by
   unfold AWi
   rw [ADf]
   split
   · next h=>
     subst h
     split
     · next h2=>subst h2;unfold dl;rw [if_neg (by omega)];grind
     · simp
   · simp
 rw [ADc fun k _=>h1 k,AN9,Ac8 X hs,ATd (a:=j) (by omega) fun k _ hk=>if_neg hk,if_pos rfl]
theorem Afn {n i j r s:Nat} {A:Nat->Nat->Int} (hj:j < i) (hi:i < n) (hr:r < n) (hs:s < n):AF3 n (AF3 n (trF (AWi A i j)) A) (AWi A i j) r s=AXi A i j (ATe A i j) r s:=by
 have h2:∀ k,AF3 n (trF (AWi A i j)) A r k=A r k + if r=i then ATe A i j * A j k else 0:=fun k=>by
   show psum (fun l=>AWi A i j l r * A l k) n=_
   rw [ADc (g:=fun l=>A l k * AWi A i j l r) fun l _=>Int.mul_comm _ _]
   exact Afm hj hi hr fun l=>A l k
 show psum (fun k=>AF3 n (trF (AWi A i j)) A r k * AWi A i j k s) n=_;rw [Afm hj hi hs fun k=>AF3 n (trF (AWi A i j)) A r k];rw [h2,h2,AZe];split <;> split <;> first | (subst_vars;grind) | grind
theorem Adp (j k s:Nat):AHi dl (j + 1) j k s=dl (tau j k) s:=by
 rw [ALt];unfold tau;split
 ·next h=>subst h;rfl
 ·split <;> rfl
theorem Ait (j k:Nat):tau j (tau j k)=k:=by unfold tau;split <;> (try split) <;> (try split) <;> omega
theorem Atb {j k n:Nat} (hj:j + 1 < n) (hk:k < n):tau j k < n:=by unfold tau;split <;> (try split) <;> omega
theorem Aiu {n j s:Nat} (hj:j + 1 < n) (hs:s < n) (X:Nat->Int):psum (fun k=>X k * AHi dl (j + 1) j k s) n=X (tau j s):=by
 rw [ATd (a:=tau j s) (Atb hj hs) fun k hk hne=>?_]
 ·rw [Adp,Ait];unfold dl;rw [if_pos rfl];simp
 ·rw [Adp];unfold dl;rw [if_neg (fun h=>hne (by rw [<- h,Ait]))];simp
theorem Aiv {n j r s:Nat} {A:Nat->Nat->Int} (hj:j + 1 < n) (hr:r < n) (hs:s < n):AF3 n (AF3 n (trF (AHi dl (j + 1) j)) A) (AHi dl (j + 1) j) r s=swA A j r s:=by
 show psum (fun k=>AF3 n (trF (AHi dl (j + 1) j)) A r k * AHi dl (j + 1) j k s) n=_;rw [Aiu hj hs fun k=>AF3 n (trF (AHi dl (j + 1) j)) A r k];show psum (fun l=>AHi dl (j + 1) j l r * A l (tau j s)) n=_;rw [ADc (g:=fun l=>A l (tau j s) * AHi dl (j + 1) j l r) fun l _=>Int.mul_comm _ _];exact Aiu hj hr fun l=>A l (tau j s)
theorem AT9 {n:Nat} {A A' B B':Nat->Nat->Int} {i j:Nat} (hA:∀ k,k < n->A i k=A' i k) (hB:∀ k,k < n->B k j=B' k j):AF3 n A B i j=AF3 n A' B' i j:=ADc fun k hk=>by rw [hA k hk,hB k hk]
theorem Aqr {n:Nat} {T U:Nat->Nat->Int} (i j:Nat):trF (AF3 n T U) i j=AF3 n (trF U) (trF T) i j:=ADc fun k _=>Int.mul_comm _ _
def Ag6 (n:Nat) (A0 T A:Nat->Nat->Int):Prop:= ∀ i j,i < n->j < n->A i j=AF3 n (trF T) (AF3 n A0 T) i j
theorem Acd {n:Nat} {A0 T A U B:Nat->Nat->Int} (H:Ag6 n A0 T A) (K:∀ i j,i < n->j < n->AF3 n (AF3 n (trF U) A) U i j=B i j):Ag6 n A0 (AF3 n T U) B:=fun i j hi hj=>by
  rw [<- K i j hi hj,AT8]
  have h1:AF3 n (trF U) (AF3 n A U) i j=AF3 n (trF U) (AF3 n (trF T) (AF3 n A0 (AF3 n T U))) i j:=by
    refine AT9 (fun _ _=>rfl) fun k hk=>?_;rw [AT9 (A':=AF3 n (trF T) (AF3 n A0 T)) (fun l hl=>H k l hk hl) (fun _ _=>rfl),AT8];refine AT9 (fun _ _=>rfl) fun l hl=>?_;rw [AT8]
  rw [h1,<- AT8];exact AT9 (fun k _=>(Aqr i k).symm) fun _ _=>rfl
theorem Aqs {n:Nat} {A:Nat->Nat->Int}:Ag6 n A dl A:=fun i j hi hj=>by
  show _=psum (fun k=>dl k i * AF3 n A dl k j) n
  rw [ADc (g:=fun k=>AF3 n A dl k j * dl k i) fun k _=>Int.mul_comm _ _,Ac8 (fun k=>AF3 n A dl k j) hi]
  exact (Am6 hj).symm
def dm9:Int:=9 ^ 8
def Aqt:Int:=2 ^ 97
theorem Aqu {n i t:Nat} {A:Nat->Nat->Int} (hn:n<=8) (h:Adl n dm9 A i t):∀ k,k < n->A k k<=Aqt:=fun k hk=>by
  by_cases e:k=i
  · subst e
    have h1:=Aca (p:=(2 ^ 7 * (2 * dm9)) * (2 ^ 7 * (2 * dm9))) (q:=1) h.sym h.pos h.hi h.dm (by decide) (by decide) (fun l hl=>by
      have h2:=h.lamb l hl;have h3:(2:Int) ^ t * (2 * dm9)<=2 ^ 7 * (2 * dm9):=Int.mul_le_mul_of_nonneg_right (AXk (by have:=h.ht;omega)) (by decide);have h4:=h.pos (l + 1) (by have:=h.hi;omega);have h5:=Int.mul_le_mul_of_nonneg_right h3 (Int.le_of_lt h4);have h6:=AU7 (x:=Mn l A k l) (y:=2 ^ 7 * (2 * dm9) * det (l + 1) A) (by omega) (by omega);rw [Int.one_mul];refine Int.le_trans h6 (Int.le_of_eq ?_);grind) k 0 (by omega)
    rw [AO9,show det 0 A=1 from rfl,Int.one_mul] at h1
    have h7:(1 + (k:Int) * ((2 ^ 7 * (2 * dm9)) * (2 ^ 7 * (2 * dm9)))) * (dm9 * 1)<=(1 + 7 * ((2 ^ 7 * (2 * dm9)) * (2 ^ 7 * (2 * dm9)))) * (dm9 * 1):=by
      refine Int.mul_le_mul_of_nonneg_right ?_ (by decide);have:=Int.mul_le_mul_of_nonneg_right (show (k:Int)<=7 by omega) (show (0:Int)<=(2 ^ 7 * (2 * dm9)) * (2 ^ 7 * (2 * dm9)) by decide);omega
    exact Int.le_trans h1 (Int.le_trans h7 (by decide))
  · exact Int.le_trans (h.rows k hk e) (by decide)
theorem Afo {n:Nat} {A:Nat->Nat->Int} {B:Int} (hs:AMp n A) (hp:AOb n A) (hB:∀ k,k < n->A k k<=B) {i j:Nat} (hi:i < n) (hj:j < n): -B<=A i j/\A i j<=B:=by
 have h1:=AYb (k:=0) hs hp (Nat.zero_le _) hi hj;simp only [AO9] at h1;have p1:=AYc (k:=0) hs hp (Nat.zero_le _) hi;have p2:=AYc (k:=0) hs hp (Nat.zero_le _) hj;simp only [AO9] at p1 p2;have h2:=Int.mul_le_mul (hB i hi) (hB j hj) p2 (Int.le_trans p1 (hB i hi));exact Afc (Int.le_trans p1 (hB i hi)) (Int.le_trans h1 h2)
theorem Aiw {n:Nat} {A:Nat->Nat->Int} {B:Int} (hs:AMp n A) (hp:AOb n A) (hB:∀ k,k < n->A k k<=B) {i j:Nat} (hi:i < n) (hj:j < n):(A i j).natAbs<=B.natAbs:=by
 have:=Afo hs hp hB hi hj;omega
def Ace:Nat:=(2 ^ 240) ^ 5
theorem Afp:16 * (Ace * Ace) < AE3:=by decide
def Acf:Nat:=(2 ^ 220) ^ 5
theorem Aut {n:Nat} {A0 A T:Nat->Nat->Int} (hn:n<=8) (hE:∀ i j,(A0 i j).natAbs<=2 ^ 40) (hs:AMp n A0) (hp:AOb n A0) (H:Ag6 n A0 T A) (hB:∀ k,k < n->A k k<=Aqt) {k s:Nat} (hk:k < n) (hs2:s < n):(T k s).natAbs<=Acf:=by
  have h1:=Aql hs hp (fun r=>T r s) hk
  have h2:bil n 0 A0 (fun r=>T r s) (fun r=>T r s)=A s s:=by
    rw [H s s hs2 hs2];show _=psum (fun i=>T i s * psum (fun j=>A0 i j * T j s) n) n;unfold bil;refine ADc fun i _=>?_;rw [<- AIh];exact ADc fun j _=>by rw [AO9];grind
  rw [h2] at h1
  have h3:(Aaq n A0 k k).natAbs<=dBd (2 ^ 40) 9:=by
    refine Nat.le_trans (AXb (m:=2 ^ 40) fun i j=>?_) (APa (by decide) (by omega));rw [ADf]
    split
    · unfold dl;split <;> decide
    · exact hE i j
  have h4:Aaq n A0 k k * A s s<=(dBd (2 ^ 40) 9:Nat) * Aqt:=by
    have p0:0<=A s s:=by
      have:A s s=bil n 0 A0 (fun r=>T r s) (fun r=>T r s):=h2.symm;rw [this];exact ARr hs hp _ n 0 (by omega)
    have b1:Aaq n A0 k k<=(dBd (2 ^ 40) 9:Nat):=by omega
    have b2:=Int.mul_le_mul_of_nonneg_right b1 p0;have b3:=Int.mul_le_mul_of_nonneg_left (hB s hs2) (show (0:Int)<=(dBd (2 ^ 40) 9:Nat) by omega);omega
  have h5:((dBd (2 ^ 40) 9:Nat):Int) * Aqt<=(Acf:Int) * (Acf:Int):=by decide
  have h6:=Afc (x:=T k s) (y:=(Acf:Int)) (by omega) (Int.le_trans (Int.le_trans h1 h4) h5);omega
structure Aba (n:Nat) (A:Nat->Nat->Int):Prop where
  sym:AMp n A
  pos:AOb n A
  sz:ARs A n
  lv:ATf A n
  dt:det n A<=10000
structure RSt (n:Nat) (A0 A T:Nat->Nat->Int) (i t:Nat):Prop where
  inv:Adl n dm9 A i t
  car:Ag6 n A0 T A
  dt:det n A=det n A0
def Avb (n:Nat) (A0:Nat->Nat->Int) (k:Nat) (s:List (List Int) × List (List Int)):Prop:=
  ∃ A T i t,RSt n A0 A T i t/\s=(tab n n A,tab n n T)/\k=(Afh n A).toNat * 128 + (128 - (16 * i + t))
theorem Aix {n:Nat} {A:Nat->Nat->Int} (hp:AOb n A):0<=Afh n A:=by
 have:∀ m,m<=n + 1->0<=psum (fun k=>det k A) m:=fun m=>by
   induction m with
   | zero=>intro _;exact Int.le_refl _
   | succ m ih=>intro h;have h1:=ih (by omega);have h2:=hp m (by omega);simp only [psum];omega
 exact this _ (Nat.le_refl _)
theorem Aqv {n:Nat} {A:Nat->Nat->Int} (hd:∀ k,k<=n->det k A<=dm9):Afh n A<=(n + 1:Nat) * dm9:=by
 have:∀ m,m<=n + 1->psum (fun k=>det k A) m<=(m:Nat) * dm9:=fun m=>by
   induction m with
   | zero=>intro _;simp [psum]
   | succ m ih=>intro h;have h1:=ih (by omega);have h2:=hd m (by omega);simp only [psum];rw [Int.natCast_add,Int.add_mul];omega
 exact this _ (Nat.le_refl _)
theorem Akb {n i j:Nat} {A:Nat->Nat->Int} (hn:n<=8) (hj:j < i) (hi:i < n) (hp:AOb n A) (hb:∀ i j,i < n->j < n->(A i j).natAbs<=AH6):(ATe A i j).natAbs<=3 * dBd AH6 9:=by
 have b1:(Mn j A i j).natAbs<=dBd AH6 9:=Aat hn hi (by omega) (by omega) hb;have b2:(det (j + 1) A).natAbs<=dBd AH6 9:=AU8 hn (by omega) hb;have hd:=hp (j + 1) (by omega);unfold ATe;rw [Int.natAbs_neg];have:=Int.natAbs_ediv_le_natAbs (2 * Mn j A i j + det (j + 1) A) (2 * det (j + 1) A);omega
theorem Akc {fuel n:Nat} {A0:Nat->Nat->Int} (Ac:1<=n) (hn:n<=8) (hs:AMp n A0) (hp:AOb n A0) (hE:∀ i j,(A0 i j).natAbs<=2 ^ 40) (hD:∀ k,k<=n->det k A0<=dm9) (hr:∀ k,k < n->A0 k k<=3 * dm9) (hdt:det n A0<=10000) (hf:AE3 < fuel):
    Ok (AHu fuel (tab n n A0)) fun r=> ∃ A T,r=(tab n n A,tab n n T,0)/\Aba n A/\Ag6 n A0 T A/\det n A=det n A0/\ ∀ k,k < n->A k k<=3 * dm9:=by
 have Ad:100 < fuel:=Nat.lt_of_le_of_lt (by decide) hf;have Av:100000000 < fuel:=Nat.lt_of_le_of_lt (by decide) hf;have Ak:∀ i j,i < n->j < n->(A0 i j).natAbs<=AH6:=fun i j _ _=>Nat.le_trans (hE i j) (by decide);unfold AHu;refine ABs (AWh Ac hn Ak Ad) fun v hv=>?_;have Ap:=hv.2 ⟨hs,hp⟩;subst Ap;refine AB8 (fun h=>absurd rfl h) fun _=>ABs (AC2 (Aiq hn Ak Ad)) fun b hb=>?_;subst hb;refine AB8 (fun h=>by simp [hdt] at h) fun _=>?_;refine ABs (AC2 (Adb (A:=tab n n A0) (by rw [ACt];omega) (fun z hz=>by rw [AWu z hz];omega) (by rw [ACt];omega))) fun x hx=>?_;subst hx;rw [ACt];refine ABs (AC2 (Air Ac (by omega) Ad)) fun x hx=>?_;subst hx;dsimp only;refine ABs (An5 (Avb n A0) (Q:=fun r=> ∃ A T,r=(tab n n A,tab n n T,0)/\Aba n A/\Ag6 n A0 T A/\det n A=det n A0/\ ∀ k,k < n->A k k<=3 * dm9) (fun k s hI=>?_) (k:=(Afh n A0).toNat * 128 + 128) ⟨A0,dl,0,0,⟨Aar Ac hs hp hD hr,Aqs,rfl⟩,rfl,rfl⟩ ?_) fun r hr=>ABn hr
 ·obtain ⟨A,T,i,t,R,rfl,rfl⟩:=hI;have L:=R.inv;have hbd:=Aqu hn L;have hb:∀ i j,i < n->j < n->(A i j).natAbs<=AH6:=fun i j hi hj=>Nat.le_trans (Aiw L.sym L.pos hbd hi hj) (by decide);have hT:∀ k s,k < n->s < n->(T k s).natAbs<=Acf:=fun k s hk Ab=>Aut hn hE hs hp R.car hbd hk Ab;have hTD:Acf<=Ace:=by decide
  have hMD:AH6<=Ace:=by decide
  unfold AKg;refine ABs (Ata Ac hn L.pos hb hf) fun r hr=>?_
  have prod:∀ {U:Nat->Nat->Int},(∀ i j,i < n->j < n->(U i j).natAbs<=3 * dBd AH6 9)->(AE7 fuel (tab n n A) (tab n n U)=some (tab n n (AF3 n (AF3 n (trF U) A) U))/\AD9 fuel (tab n n T) (tab n n U)=some (tab n n (AF3 n T U))):=fun {U} hU=>by
    have Am:∀ i j,i < n->j < n->(U i j).natAbs<=Ace:=fun i j hi hj=>Nat.le_trans (hU i j hi hj) (by decide)
    refine ⟨Aqq Ac (by omega) Afp (fun i j hi hj=>Nat.le_trans (hb i j hi hj) hMD) Am (fun i j hi hj=>?_) Ad,?_⟩
    · have h1:=psum_abs (f:=fun l=>U l i) (g:=fun l=>A l j) (D:=3 * dBd AH6 9) n fun l hl=>⟨hU l i hl hi,Nat.le_trans (hb l j hl hj) (by decide)⟩
      have h2:n * ((3 * dBd AH6 9) * (3 * dBd AH6 9))<=8 * ((3 * dBd AH6 9) * (3 * dBd AH6 9)):=Nat.mul_le_mul_right _ hn
      have h3:(AF3 n (trF U) A i j).natAbs=(psum (fun l=>U l i * A l j) n).natAbs:=rfl
      have h4:∀ l,l < n->(U l i).natAbs<=3 * dBd AH6 9/\(A l j).natAbs<=AH6:=fun l hl=>⟨hU l i hl hi,hb l j hl hj⟩
      have h5:(psum (fun l=>U l i * A l j) n).natAbs<=n * (3 * dBd AH6 9 * AH6):=by
        refine QF.psum_abs fun l hl=>?_
        rw [Int.natAbs_mul]
        exact Nat.mul_le_mul (h4 l hl).1 (h4 l hl).2
      have h6:n * (3 * dBd AH6 9 * AH6)<=8 * (3 * dBd AH6 9 * AH6):=Nat.mul_le_mul_right _ hn
      have h7:8 * (3 * dBd AH6 9 * AH6)<=Ace:=by decide
      rw [h3]
      exact Nat.le_trans h5 (Nat.le_trans h6 h7)
    · unfold AD9
      rw [An1 Ac (by omega) Afp (fun i j hi hj=>Nat.le_trans (hT i j hi hj) hTD) Am Ad]
      rfl
  rcases hr with ⟨rfl,hsz,hlv⟩ | ⟨i',j,hji,hi',hbad,hsz,hzi,hlv,rfl⟩ | ⟨j,hj,hbad,hsz,hlv,rfl⟩
  ·dsimp only;refine AB8 (fun _=>?_) (fun h=>absurd rfl h);have hrest:=AVo hn L fun l hl=>hsz i l hl L.hi;refine ABs (AC2 (Auq Ac (by omega) (fun i j hi hj=>Nat.lt_of_le_of_lt (Aiw L.sym L.pos hrest hi hj) (by decide)) Ad)) fun x hx=>ABn ?_;subst hx;exact ⟨A,T,rfl,⟨L.sym,L.pos,hsz,hlv,by rw [R.dt];exact hdt⟩,R.car,R.dt,hrest⟩
  ·dsimp only;refine AB8 (fun h=>absurd h (by decide)) fun _=>?_
   have hU:∀ r s,r < n->s < n->(AWi A i' j r s).natAbs<=3 * dBd AH6 9:=fun r s hr Ab=>by
     have hdl:∀ a b,(dl a b).natAbs<=3 * dBd AH6 9:=fun a b=>by unfold dl;split <;> decide
     unfold AWi
     rw [ADf]
     split
     · split
       · exact Akb hn hji hi' L.pos hb
       · exact hdl _ _
     · exact hdl _ _
   obtain ⟨e1,e2⟩:=prod hU;refine ABs (AC2 e1) fun x hx=>ABs (AC2 e2) fun y hy=>ABn ?_;subst hx;subst hy;obtain ⟨L2,hm⟩:=Aj9 hn L hi' hji hbad hsz hzi hlv;have hsum:Afh n (AXi A i' j (ATe A i' j))=Afh n A:=ADc fun k _=>APv hji;refine ⟨_,?_,AXi A i' j (ATe A i' j),AF3 n T (AWi A i' j),i',i' - j,⟨L2,Acd R.car fun r s hr Ab=>Afn hji hi' hr Ab,by rw [APv hji];exact R.dt⟩,?_,rfl⟩
   ·rw [hsum];have:=L.hi;have:=L.ht;omega
   ·rw [APd fun r s hr Ab=>Afn hji hi' hr Ab]
  ·dsimp only;refine AB8 (fun h=>absurd h (by decide)) fun _=>?_
   have hU:∀ r s,r < n->s < n->(AHi dl (j + 1) j r s).natAbs<=3 * dBd AH6 9:=fun r s hr Ab=>by
     rw [Adp];unfold dl;split <;> decide
   obtain ⟨e1,e2⟩:=prod hU;refine ABs (AC2 e1) fun x hx=>ABs (AC2 e2) fun y hy=>ABn ?_;subst hx;subst hy;obtain ⟨L2,hm⟩:=Aka hn L hj hbad (fun r l h1 h2=>hsz r l h1 (by omega)) fun r hr=>hlv r (by omega);refine ⟨_,?_,swA A j,AF3 n T (AHi dl (j + 1) j),0,0,⟨L2,Acd R.car fun r s hr Ab=>Aiv hj hr Ab,by rw [Aij (by omega)];exact R.dt⟩,?_,rfl⟩
   ·have h1:=Aix L.pos;have h2:=Aix L2.pos;have:=L.hi;have:=L.ht;omega
   ·rw [APd fun r s hr Ab=>Aiv hj hr Ab]
 ·have h1:=Aqv hD;have h2:((n + 1:Nat):Int) * dm9<=9 * dm9:=Int.mul_le_mul_of_nonneg_right (by omega) (by decide);have h3:(9 * dm9)=387420489:=by decide
  have h4:387420489 * 128 + 128 < AE3:=by decide
  omega
def part (n i:Nat) (G:Nat->Nat->Int):List (List Int):=AEj n fun r=>if r < i then AEj n (G r) else []
theorem AKu {n i r:Nat} {G:Nat->Nat->Int} (hr:r < i) (hn:r < n):(part n i G)[r]? =some (AEj n (G r)):=by
 unfold part;rw [ACp hn,if_pos hr]
theorem APe {n i:Nat} {G:Nat->Nat->Int} (hn:i < n):(part n i G)[i]? =some []:=by
 unfold part;rw [ACp hn,if_neg (Nat.lt_irrefl i)]
theorem AMq {n i r:Nat} {G:Nat->Nat->Int} {g:Nat->Int} (hr:r < i):(part n i G).set r (AEj n g)=part n i (ADz G r g):=by
 unfold part;rw [AFs];refine ADk fun k _=>?_;by_cases h:k=r
 ·subst h;rw [if_pos rfl,if_pos hr,ADq]
 ·rw [if_neg h,AFq _ _ h]
theorem ANm {n i:Nat} {G:Nat->Nat->Int} {g:Nat->Int}:(part n i G).set i (AEj n g)=part n (i + 1) (ADz G i g):=by
 unfold part;rw [AFs];refine ADk fun k _=>?_;by_cases h:k=i
 ·subst h;rw [if_pos rfl,if_pos (by omega),ADq]
 ·rw [if_neg h,AFq _ _ h];by_cases h2:k < i
  ·rw [if_pos h2,if_pos (by omega)]
  ·rw [if_neg h2,if_neg (by omega)]
theorem AOt (n:Nat) (G:Nat->Nat->Int):part n n G=tab n n G:=by
 unfold part;rw [AP3];exact ADk fun k hk=>if_pos hk
theorem AOu (n:Nat) (G:Nat->Nat->Int):List.replicate n ([]:List Int)=part n 0 G:=by
 rw [AG4];exact ADk fun k _=>(if_neg (by omega)).symm
theorem AWj {L:List Int} {q:Nat} (hq:q < 4611686018427387904):Ok (if (L.length:Int)<=((q:Nat):Int) then (some ((0:Int),((q:Nat):Int))) else ((gI L (w64 ((w64 (((q:Nat):Int) + 1)) - 1))).bind fun x=>(some ((w64 x),(w64 (((q:Nat):Int) + 1)))))) fun e=> ∃ p:Nat,e.2=(p:Int)/\p<=q + 1:=by
  refine AB8 (fun h=>ABn ⟨q,rfl,by omega⟩) fun h=>?_;have hl:q < L.length:=by omega
  refine ACg (n:=q) (List.getElem?_eq_getElem hl) (by rw [AFr (x:=(q:Int) + 1) (by omega) (by omega),wk (by omega)];omega) (ABn ⟨q + 1,?_,by omega⟩);rw [AFr (x:=(q:Int) + 1) (by omega) (by omega)];omega
theorem AUe (x:Int) (m:Nat) (hm:0 < m):0<=Int.tmod (w64 (IntKind.wrap .u8 x)) (m:Int)/\Int.tmod (w64 (IntKind.wrap .u8 x)) (m:Int) < m:=by
 have h1:IntKind.wrap .u8 x=x % 256:=by rw [IntKind.wrap_u8]
 rw [h1];have a1:=Int.emod_nonneg x (show (256:Int)≠0 by decide);have a2:=Int.emod_lt_of_pos x (show (0:Int) < 256 by decide);rw [wk (by omega),Int.tmod_eq_emod_of_nonneg a1];exact ⟨Int.emod_nonneg _ (by omega),Int.emod_lt_of_pos _ (by omega)⟩
def dgF (f:Nat->Int) (r c:Nat):Int:=if c=r then f r else 0
theorem Auu {fuel N q0:Nat} {a1 Ac:Int} {L:List Int} (hN:w64 (1 + (Int.tmod (w64 a1) Ac))=(N:Int)) (Af:N<=8) (Ag:q0<=1000) (hf:100 < fuel):
    Ok (iter (fun s=>AGe fuel a1 L Ac s.1 s.2.1 s.2.2) fuel (0,(q0:Int),(List.replicate (Int.toNat (w64 (1 + (Int.tmod (w64 a1) Ac)))) ([]:List Int)))) fun e=> ∃ (q:Nat) (f:Nat->Int),e=((q:Int),tab N N (dgF f))/\q<=q0 + N/\ ∀ r,r < N->1<=f r/\f r<=6:=by
 refine AC4 (fun i s=> ∃ (q:Nat) (f:Nat->Int),s=(((i:Nat):Int),(q:Int),part N i (dgF f))/\i<=N/\q<=q0 + i/\ ∀ r,r < i->1<=f r/\f r<=6) N ⟨q0,fun _=>0,by rw [hN,Int.toNat_natCast,AOu N (dgF fun _=>0)];rfl,by omega,by omega,fun r hr=>by omega⟩ (by omega) fun i s hi hI=>?_;obtain ⟨q,f,rfl,hiN,hq,Ad⟩:=hI;unfold AGe;dsimp only;rw [List.length_replicate,hN,Int.toNat_natCast];refine AB8 (fun h=>AEa (by omega) ?_) (fun h=>ABn ?_)
 ·have hi':i < N:=by omega
  refine ACg (APe hi') rfl ?_;rw [ADu,AG4 N (0:Int),ANm];refine ACg (AKu (by omega) hi') rfl ?_;rw [ADq];refine ABs (Q:=fun e:Int × Int=>0<=e.1/\e.1 < 6/\ ∃ p:Nat,e.2=(p:Int)/\p<=q + 1) (ABs (AWj (L:=L) (q:=q) (by omega)) fun e he=>?_) fun e he=>ACg (ACp hi') rfl (ABn ⟨by omega,?_⟩)
  ·exact ABn ⟨(AUe _ 6 (by decide)).1,(AUe _ 6 (by decide)).2,he⟩
  ·obtain ⟨h1,h2,p,h3,h4⟩:=he;refine ⟨p,fun r=>if r=i then 1 + e.1 else f r,?_,by omega,by omega,fun r hr=>?_⟩
   ·rw [AFr (x:=(i:Int) + 1) (by omega) (by omega),AFr (x:=1 + e.1) (by omega) (by omega),h3,ADu,ADu,AFs,AMq (by omega)];refine congrArg (fun z=>(((i + 1:Nat):Int),(p:Int),z)) (ADk fun r hr=>?_);split
    ·refine ADk fun c hc=>?_;rw [ADf];unfold dgF;dsimp only;split
     ·next h=>subst h;rfl
     ·next h=>rw [ADf,if_neg h]
    ·rfl
   ·dsimp only;split
    ·omega
    ·exact Ad r (by omega)
 ·obtain rfl:i=N:=by omega
  exact ⟨q,f,by rw [AOt],by omega,Ad⟩
theorem Atc {fuel N q0:Nat} {a1 Ac:Int} {L:List Int} (hN:w64 (1 + (Int.tmod (w64 a1) Ac))=(N:Int)) (Af:N<=8) (Ag:q0<=1000) (hf:100 < fuel):
    Ok (iter (fun s=>AFy fuel a1 L Ac s.1 s.2.1 s.2.2) fuel (0,(q0:Int),(List.replicate (Int.toNat (w64 (1 + (Int.tmod (w64 a1) Ac)))) ([]:List Int)))) fun e=> ∃ (q:Nat) (f:Nat->Int),e=((q:Int),tab N N (dgF f))/\q<=q0 + N/\ ∀ r,r < N->1<=f r/\f r<=9:=by
 refine AC4 (fun i s=> ∃ (q:Nat) (f:Nat->Int),s=(((i:Nat):Int),(q:Int),part N i (dgF f))/\i<=N/\q<=q0 + i/\ ∀ r,r < i->1<=f r/\f r<=9) N ⟨q0,fun _=>0,by rw [hN,Int.toNat_natCast,AOu N (dgF fun _=>0)];rfl,by omega,by omega,fun r hr=>by omega⟩ (by omega) fun i s hi hI=>?_;obtain ⟨q,f,rfl,hiN,hq,Ad⟩:=hI;unfold AFy;dsimp only;rw [List.length_replicate,hN,Int.toNat_natCast];refine AB8 (fun h=>AEa (by omega) ?_) (fun h=>ABn ?_)
 ·have hi':i < N:=by omega
  refine ACg (APe hi') rfl ?_;rw [ADu,AG4 N (0:Int),ANm];refine ACg (AKu (by omega) hi') rfl ?_;rw [ADq];refine ABs (Q:=fun e:Int × Int=>0<=e.1/\e.1 < 9/\ ∃ p:Nat,e.2=(p:Int)/\p<=q + 1) (ABs (AWj (L:=L) (q:=q) (by omega)) fun e he=>?_) fun e he=>ACg (ACp hi') rfl (ABn ⟨by omega,?_⟩)
  ·exact ABn ⟨(AUe _ 9 (by decide)).1,(AUe _ 9 (by decide)).2,he⟩
  ·obtain ⟨h1,h2,p,h3,h4⟩:=he;refine ⟨p,fun r=>if r=i then 1 + e.1 else f r,?_,by omega,by omega,fun r hr=>?_⟩
   ·rw [AFr (x:=(i:Int) + 1) (by omega) (by omega),AFr (x:=1 + e.1) (by omega) (by omega),h3,ADu,ADu,AFs,AMq (by omega)];refine congrArg (fun z=>(((i + 1:Nat):Int),(p:Int),z)) (ADk fun r hr=>?_);split
    ·refine ADk fun c hc=>?_;rw [ADf];unfold dgF;dsimp only;split
     ·next h=>subst h;rfl
     ·next h=>rw [ADf,if_neg h]
    ·rfl
   ·dsimp only;split
    ·omega
    ·exact Ad r (by omega)
 ·obtain rfl:i=N:=by omega
  exact ⟨q,f,by rw [AOt],by omega,Ad⟩
theorem Atd {fuel N q0:Nat} {a1 Ac:Int} {L:List Int} (hN:w64 (1 + (Int.tmod (w64 a1) Ac))=(N:Int)) (Af:N<=8) (Ag:q0<=1000) (hf:100 < fuel):
    Ok (iter (fun s=>AFz fuel a1 L Ac s.1 s.2.1 s.2.2) fuel (0,(q0:Int),(List.replicate (Int.toNat (w64 (1 + (Int.tmod (w64 a1) Ac)))) ([]:List Int)))) fun e=> ∃ (q:Nat) (f:Nat->Int),e=((q:Int),tab N N (dgF f))/\q<=q0 + N/\ ∀ r,r < N->1<=f r/\f r<=1:=by
 refine AC4 (fun i s=> ∃ (q:Nat) (f:Nat->Int),s=(((i:Nat):Int),(q:Int),part N i (dgF f))/\i<=N/\q<=q0 + i/\ ∀ r,r < i->1<=f r/\f r<=1) N ⟨q0,fun _=>0,by rw [hN,Int.toNat_natCast,AOu N (dgF fun _=>0)];rfl,by omega,by omega,fun r hr=>by omega⟩ (by omega) fun i s hi hI=>?_;obtain ⟨q,f,rfl,hiN,hq,Ad⟩:=hI;unfold AFz;dsimp only;rw [List.length_replicate,hN,Int.toNat_natCast];refine AB8 (fun h=>AEa (by omega) ?_) (fun h=>ABn ?_)
 ·have hi':i < N:=by omega
  refine ACg (APe hi') rfl ?_;rw [ADu,AG4 N (0:Int),ANm];refine ACg (AKu (by omega) hi') rfl ?_;rw [ADq];refine ABs (Q:=fun e:Int × Int=>0<=e.1/\e.1 < 1/\ ∃ p:Nat,e.2=(p:Int)/\p<=q + 1) (ABs (AWj (L:=L) (q:=q) (by omega)) fun e he=>?_) fun e he=>ACg (ACp hi') rfl (ABn ⟨by omega,?_⟩)
  ·exact ABn ⟨(AUe _ 1 (by decide)).1,(AUe _ 1 (by decide)).2,he⟩
  ·obtain ⟨h1,h2,p,h3,h4⟩:=he;refine ⟨p,fun r=>if r=i then 1 + e.1 else f r,?_,by omega,by omega,fun r hr=>?_⟩
   ·rw [AFr (x:=(i:Int) + 1) (by omega) (by omega),AFr (x:=1 + e.1) (by omega) (by omega),h3,ADu,ADu,AFs,AMq (by omega)];refine congrArg (fun z=>(((i + 1:Nat):Int),(p:Int),z)) (ADk fun r hr=>?_);split
    ·refine ADk fun c hc=>?_;rw [ADf];unfold dgF;dsimp only;split
     ·next h=>subst h;rfl
     ·next h=>rw [ADf,if_neg h]
    ·rfl
   ·dsimp only;split
    ·omega
    ·exact Ad r (by omega)
 ·obtain rfl:i=N:=by omega
  exact ⟨q,f,by rw [AOt],by omega,Ad⟩
theorem Ate {fuel N q0:Nat} {a1 Ac:Int} {L:List Int} (hN:w64 (1 + (Int.tmod (w64 a1) Ac))=(N:Int)) (Af:N<=8) (Ag:q0<=1000) (hf:100 < fuel):
    Ok (iter (fun s=>AF0 fuel a1 L Ac s.1 s.2.1 s.2.2) fuel (0,(q0:Int),(List.replicate (Int.toNat (w64 (1 + (Int.tmod (w64 a1) Ac)))) ([]:List Int)))) fun e=> ∃ (q:Nat) (f:Nat->Int),e=((q:Int),tab N N (dgF f))/\q<=q0 + N/\ ∀ r,r < N->1<=f r/\f r<=2:=by
 refine AC4 (fun i s=> ∃ (q:Nat) (f:Nat->Int),s=(((i:Nat):Int),(q:Int),part N i (dgF f))/\i<=N/\q<=q0 + i/\ ∀ r,r < i->1<=f r/\f r<=2) N ⟨q0,fun _=>0,by rw [hN,Int.toNat_natCast,AOu N (dgF fun _=>0)];rfl,by omega,by omega,fun r hr=>by omega⟩ (by omega) fun i s hi hI=>?_;obtain ⟨q,f,rfl,hiN,hq,Ad⟩:=hI;unfold AF0;dsimp only;rw [List.length_replicate,hN,Int.toNat_natCast];refine AB8 (fun h=>AEa (by omega) ?_) (fun h=>ABn ?_)
 ·have hi':i < N:=by omega
  refine ACg (APe hi') rfl ?_;rw [ADu,AG4 N (0:Int),ANm];refine ACg (AKu (by omega) hi') rfl ?_;rw [ADq];refine ABs (Q:=fun e:Int × Int=>0<=e.1/\e.1 < 2/\ ∃ p:Nat,e.2=(p:Int)/\p<=q + 1) (ABs (AWj (L:=L) (q:=q) (by omega)) fun e he=>?_) fun e he=>ACg (ACp hi') rfl (ABn ⟨by omega,?_⟩)
  ·exact ABn ⟨(AUe _ 2 (by decide)).1,(AUe _ 2 (by decide)).2,he⟩
  ·obtain ⟨h1,h2,p,h3,h4⟩:=he;refine ⟨p,fun r=>if r=i then 1 + e.1 else f r,?_,by omega,by omega,fun r hr=>?_⟩
   ·rw [AFr (x:=(i:Int) + 1) (by omega) (by omega),AFr (x:=1 + e.1) (by omega) (by omega),h3,ADu,ADu,AFs,AMq (by omega)];refine congrArg (fun z=>(((i + 1:Nat):Int),(p:Int),z)) (ADk fun r hr=>?_);split
    ·refine ADk fun c hc=>?_;rw [ADf];unfold dgF;dsimp only;split
     ·next h=>subst h;rfl
     ·next h=>rw [ADf,if_neg h]
    ·rfl
   ·dsimp only;split
    ·omega
    ·exact Ad r (by omega)
 ·obtain rfl:i=N:=by omega
  exact ⟨q,f,by rw [AOt],by omega,Ad⟩
theorem Atf {fuel N q0:Nat} {L:List Int} {F0:Nat->Nat->Int} (Ag:N<=8) (Ah:q0<=1000) (Ad:∀ i j,i < N->j < N->(F0 i j).natAbs<=9) (hf:100 < fuel):
    Ok (iter (fun s=>AGf fuel L (tab N N F0) s.1 s.2.1 s.2.2) fuel (0,(q0:Int),tab N N F0)) fun e=> ∃ (q:Nat) (F:Nat->Nat->Int),e=((q:Int),tab N N F)/\q<=q0 + 8 * N/\ ∀ i j,i < N->j < N->(F i j).natAbs<=9:=by
 refine AC4 (fun i s=> ∃ (q:Nat) (F:Nat->Nat->Int),s=(((i:Nat):Int),(q:Int),tab N N F)/\i<=N/\q<=q0 + 8 * i/\ ∀ i j,i < N->j < N->(F i j).natAbs<=9) N ⟨q0,F0,rfl,by omega,by omega,Ad⟩ (by omega) fun i s hi hI=>?_;obtain ⟨q,F,rfl,hiN,hq,hF⟩:=hI;unfold AGf;dsimp only;rw [ACt];refine AB8 (fun h=>?_) (fun h=>ABn ⟨q,F,rfl,by omega,hF⟩);have hi':i < N:=by omega
 refine ABs (AC4 (fun j s=> ∃ (p:Nat) (F:Nat->Nat->Int),s=(((j:Nat):Int),(p:Int),tab N N F)/\j<=i/\p<=q + j/\ ∀ i j,i < N->j < N->(F i j).natAbs<=9) i (Q:=fun e=> ∃ (p:Nat) (F:Nat->Nat->Int),e=((p:Int),tab N N F)/\p<=q + i/\ ∀ i j,i < N->j < N->(F i j).natAbs<=9) ⟨q,F,rfl,by omega,by omega,hF⟩ (by omega) fun j s hj hJ=>?_) fun e he=>?_
 ·obtain ⟨p,F,rfl,hji,hp,hF⟩:=hJ;unfold AIk;dsimp only;refine AB8 (fun h=>?_) (fun h=>ABn ⟨p,F,rfl,by omega,hF⟩);have hj':j < i:=by omega
  refine ACg (ACv hi') rfl (ABs (AWj (L:=L) (q:=p) (by omega)) fun e he=>ACg (ACp (by omega)) rfl ?_);obtain ⟨p2,h3,h4⟩:=he;rw [ADu,ADu,AFs,show (AEj N fun c=>if c=j then Int.tmod e.1 3 else F i c)=(List.range N).map fun c=>if c=j then Int.tmod e.1 3 else F i c from rfl,ALl];refine ACg (ACv (by omega)) rfl (ACg (ACv hi') rfl (ACg (ACp (by omega)) rfl (ACg (ACp hi') rfl (ABn ⟨by omega,p2,?_⟩))));generalize Af:(ADz F i fun c=>if c=j then Int.tmod e.1 3 else F i c)=F1
  have hv:(Int.tmod e.1 3).natAbs<=9:=by
    have:=Int.natAbs_tmod e.1 3
    have h5:e.1.natAbs % (3:Int).natAbs < 3:=Nat.mod_lt _ (by decide)
    omega
  have hF1b:∀ i j,i < N->j < N->(F1 i j).natAbs<=9:=fun a b ha hb=>by
    subst Af
    rw [ADf]
    split
    · split
      · exact hv
      · exact hF i b hi' hb
    · exact hF a b ha hb
  refine ⟨ADz F1 j fun c=>if c=i then F1 i j else F1 j c,?_,by omega,by omega,fun a b ha hb=>?_⟩
  ·rw [wk (by omega),h3,ADu,ADu,AFs,show (AEj N fun c=>if c=i then F1 i j else F1 j c)=(List.range N).map fun c=>if c=i then F1 i j else F1 j c from rfl,ALl];rfl
  ·rw [ADf];split
   ·split
    ·exact hF1b i j hi' (by omega)
    ·exact hF1b j b (by omega) hb
   ·exact hF1b a b ha hb
 ·obtain ⟨p,F,rfl,hp,hF⟩:=he;exact ABn ⟨by omega,p,F,by rw [wk (by omega)];rfl,by omega,by omega,hF⟩
theorem Aiy {fuel N:Nat} {b:Bool} (Ag:1<=N) (Ah:N<=8) (hf:100 < fuel):Ok (AHl fuel (N:Int) b) fun e=> ∃ F,e=tab N N F/\ ∀ i j,i < N->j < N->(F i j).natAbs<=2:=by
 unfold AHl;refine AEa (by omega) ?_;rw [Int.toNat_natCast];refine ABs (AC4 (fun i s=> ∃ G:Nat->Nat->Int,s=(((i:Nat):Int),part N i G)/\i<=N/\ ∀ r c,(G r c).natAbs<=2) N (Q:=fun e=> ∃ F,e=tab N N F/\ ∀ i j,i < N->j < N->(F i j).natAbs<=2) ⟨fun _ _=>0,by rw [AOu N fun _ _=>0];rfl,by omega,fun _ _=>Nat.zero_le _⟩ (by omega) fun i s hi hI=>?_) fun e he=>ABn he;obtain ⟨G,rfl,hiN,hG⟩:=hI;unfold ALp;dsimp only;rw [List.length_replicate,Int.toNat_natCast];refine AB8 (fun h=>AEa (by omega) ?_) (fun h=>ABn ?_)
 ·have hi':i < N:=by omega
  refine ACg (APe hi') rfl ?_;rw [ADu,AG4 N (0:Int),ANm];refine ACg (AKu (by omega) hi') rfl ?_;rw [ADq];refine ACg (ACp hi') rfl ?_;rw [ADu,ADu,AFs,AMq (by omega)]
  have Ab:∀ r c,(ADz (ADz G i fun x=>0) i (fun c=>if c=i then 2 else 0) r c).natAbs<=2:=fun r c=>by
    rw [ADf]
    split
    · split <;> decide
    · rw [ADf]
      split
      · decide
      · exact hG r c
  generalize (ADz (ADz G i fun x=>0) i fun c=>if c=i then 2 else 0)=G1 at Ab;have wi:w64 ((i:Int) + 1)=((i + 1:Nat):Int):=by rw [wk (by omega)];omega
  refine ABs (Q:=fun k=>k=(i:Int) - 1∨k=(i:Int) - 2) ?_ fun k hk=>?_
  ·have w1:w64 ((i:Int) - 1)=(i:Int) - 1:=wk (by omega);have w2:w64 ((i:Int) - 2)=(i:Int) - 2:=wk (by omega);rw [w1,w2];exact AB8 (fun _=>AB8 (fun _=>AB8 (fun _=>ABn (.inr rfl)) fun _=>ABn (.inl rfl)) fun _=>ABn (.inl rfl)) fun _=>ABn (.inl rfl)
  ·refine AB8 (fun h=>?_) (fun h=>ABn ⟨by omega,G1,by rw [wi],by omega,Ab⟩);obtain ⟨k,rfl⟩:∃ q:Nat,k=q:=⟨k.toNat,by omega⟩;have hki:k < i:=by omega
   refine ACg (AKu (by omega) hi') rfl (ACg (AKu (by omega) (by omega)) rfl (ACg (ACp (by omega)) rfl ?_));rw [ADu,ADu,AFs,AMq (by omega)]
   have Ac:∀ r c,(ADz G1 i (fun c=>if c=k then -1 else G1 i c) r c).natAbs<=2:=fun r c=>by
     rw [ADf]
     split
     · split
       · decide
       · exact Ab i c
     · exact Ab r c
   generalize (ADz G1 i fun c=>if c=k then -1 else G1 i c)=G2 at Ac;refine ACg (AKu (by omega) (by omega)) rfl (ACg (ACp hi') rfl (ABn ⟨by omega,ADz G2 k fun c=>if c=i then -1 else G2 k c,?_,by omega,fun r c=>?_⟩))
   ·rw [wi,ADu,ADu,AFs,AMq (by omega)]
   ·rw [ADf];split
    ·split
     ·decide
     ·exact Ac k c
    ·exact Ac r c
 ·obtain rfl:i=N:=by omega
  exact ⟨G,AOt _ _,fun a b _ _=>hG a b⟩
theorem Afq {n B:Nat} {F:Nat->Nat->Int} (hB:B < 9223372036854775808) (h:∀ i j,i < n->j < n->(F i j).natAbs<=B):∀ z∈tab n n F,∀ x∈z,-9223372036854775808<=x/\x<=9223372036854775807:=fun z hz x hx=>by
  obtain ⟨i,hi⟩:=List.getElem?_of_mem hz
  have hin:i < n:=by have:=(List.getElem?_eq_some_iff.1 hi).1;rwa [ACt] at this
  rw [ACv hin] at hi
  cases hi
  obtain ⟨j,hj⟩:=List.getElem?_of_mem hx
  have hjn:j < n:=by have:=(List.getElem?_eq_some_iff.1 hj).1;rwa [ACw] at this
  rw [ACp hjn] at hj
  cases hj
  have:=h i j hin hjn
  omega
theorem Aqw {n:Nat} {F:Nat->Nat->Int} (hn:1<=n) (Aa:n<=16):okM (tab n n F)=true:=by
 have hc:ANr (tab n n F)=n:=Ak9 hn;unfold okM;rw [decide_eq_true_iff,ACt,hc];exact ⟨hn,Aa,fun z hz=>by rw [AWu z hz];exact ⟨hn,Aa,rfl⟩⟩
theorem Ag7 {fuel n:Nat} {F:Nat->Nat->Int} (hn:1<=n) (Aa:n<=16) (h:∀ i j,i < n->j < n->(F i j).natAbs<=9223372036854775807) (hf:17 < fuel):AE9 fuel (tab n n F)=some (tab n n F):=by
 rw [Aro (Afq (by decide) h) hf,if_pos (Aqw hn Aa)]
theorem Atg {fuel n:Nat} {F:Nat->Nat->Int} (Ab:1<=n) (hn:n<=8) (hb:∀ i j,i < n->j < n->(F i j).natAbs<=1000000) (hf:100 < fuel):Ok (AI6 fuel (tab n n F)) fun r=>r=true↔AMp n F/\AOb n F/\det n F<=10000:=by
 have Ac:∀ i j,i < n->j < n->(F i j).natAbs<=AH6:=fun i j hi hj=>Nat.le_trans (hb i j hi hj) (by decide);unfold AI6;refine ABs (AC2 (Ag7 Ab (by omega) (fun i j hi hj=>Nat.le_trans (hb i j hi hj) (by decide)) (by omega))) fun x hx=>?_;subst hx;refine ABs (AWh Ab hn Ac hf) fun v hv=>AB8 (fun h=>?_) fun h=>ABn (Iff.intro (fun h2=>nomatch h2) fun h2=>absurd (hv.2 ⟨h2.1,h2.2.1⟩) h);have h1:=hv.1 h;refine ABs (AC2 (AXd hn Ac (by omega))) fun d hd=>ABs (Q:=(· =10000)) ⟨10000,if_pos (by omega),rfl⟩ fun t ht=>ABs (AC2 (a:=AS4 d t) rfl) fun c hc=>ABn ?_;subst hd;subst ht;subst hc;rw [decide_eq_true_iff,Adn];exact ⟨fun h2=>⟨h1.1,h1.2,h2⟩,fun h2=>h2.2.2⟩
theorem Ath {n:Nat} {f:Nat->Int} (hn:n<=8) (h:∀ r,r < n->1<=f r/\f r<=2):AMp n (dgF f)/\AOb n (dgF f)/\det n (dgF f)<=10000:=by
 have hd:∀ k,k<=n->det k (dgF f)=AH7 f k:=fun k hk=>by
   rw [AS7 (F:=dgF f) (fun c i hc hci hi=>by unfold dgF;rw [if_neg (by omega)])]
   exact AYo fun i _=>by unfold dgF;rw [if_pos rfl]
 have hb:∀ k,k<=n->0 < AH7 f k/\AH7 f k<=2 ^ k:=fun k=>by
   induction k with
   | zero=>intro _;simp [AH7]
   | succ k ih=>
     intro hk
     have h1:=ih (by omega)
     have h2:=h k (by omega)
     simp only [AH7]
     refine ⟨Int.mul_pos h1.1 (by omega),?_⟩
     rw [Int.pow_succ]
     exact Int.mul_le_mul h1.2 h2.2 (by omega) (Int.le_of_lt (AXj k))
 refine ⟨fun i j hi hj=>?_,fun k hk=>by rw [hd k hk];exact (hb k hk).1,?_⟩
 ·unfold dgF;split
  ·next h=>subst h;rw [if_pos rfl]
  ·next h=>rw [if_neg (fun h2=>h h2.symm)]
 ·rw [hd n (Nat.le_refl n)];have:=(hb n (Nat.le_refl n)).2;have h2:=AXk hn;omega
structure Auv (n:Nat) (A:Nat->Nat->Int):Prop where
  n1:1<=n
  n8:n<=8
  sym:AMp n A
  pos:AOb n A
  bd:∀ i j,i < n->j < n->(A i j).natAbs<=9
  dt:det n A<=10000
theorem Aiz {n m:Nat} {f:Nat->Int} (h:∀ r,r < n->1<=f r/\f r<=(m:Int)):∀ i j,i < n->j < n->(dgF f i j).natAbs<=m:=fun i j hi hj=>by
  unfold dgF
  have:=h i hi
  split <;> omega
theorem Ati {fuel:Nat} {a1 a2 most:Int} {L L2:List Int} (h1:0<=a1/\a1 < 256) (hm:1<=most/\most<=8) (hf:100 < fuel):Ok (AFt fuel a1 a2 L L2 most) fun r=> ∃ n A,r=tab n n A/\Auv n A/\(n:Int)=1 + Int.tmod a1 most:=by
 have t1:=Int.emod_nonneg a1 (show most≠0 by omega);have t2:=Int.emod_lt_of_pos a1 (show 0 < most by omega);have t3:Int.tmod a1 most=a1 % most:=Int.tmod_eq_emod_of_nonneg h1.1
 have hN:w64 (1 + Int.tmod (w64 a1) most)=((1 + a1 % most).toNat:Int):=by
   rw [AFr (x:=a1) (by omega) (by omega),t3,wk (by omega)];omega
 generalize hNN:(1 + a1 % most).toNat=N at hN;have Ae:1<=N:=by omega
 have Ab:N<=8:=by omega
 unfold AFt;refine AEa (by omega) (ABs (Q:=fun e=> ∃ (q:Nat) (F:Nat->Nat->Int),e=(tab N N F,(q:Int))/\q<=200/\ ∀ i j,i < N->j < N->(F i j).natAbs<=9) (ABs (Q:=fun _=>True) ?_ fun k _=>AB8 (fun _=>?_) fun _=>AB8 (fun _=>?_) fun _=>AB8 (fun _=>?_) fun _=>AB8 (fun _=>?_) fun _=>?_) fun e he=>?_)
 ·exact AB8 (fun _=>ABn trivial) fun _=>AB8 (fun _=>ABn trivial) fun _=>AB8 (fun _=>ABn trivial) fun _=>ABn trivial
 ·refine ABs (Q:=fun e=> ∃ (q:Nat) (F:Nat->Nat->Int),e=(tab N N F,(q:Int))/\q<=200/\ ∀ i j,i < N->j < N->(F i j).natAbs<=9) (ABs (Q:=fun e=> ∃ (q:Nat) (f:Nat->Int),e=(tab N N (dgF f),(q:Int))/\q<=8/\ ∀ r,r < N->1<=f r/\f r<=6) (AEa (by rw [hN];omega) (ABs (Auu (q0:=0) (L:=L) hN Ab (by omega) hf) fun e he=>ABn ?_)) fun e he=>?_) fun e he=>ABn he
  ·obtain ⟨q,f,rfl,h2,h3⟩:=he;exact ⟨q,f,rfl,by omega,h3⟩
  ·obtain ⟨q,f,rfl,h2,h3⟩:=he;refine ABs (Atf (L:=L) (q0:=q) Ab (by omega) (fun i j hi hj=>Nat.le_trans (Aiz (m:=6) h3 i j hi hj) (by decide)) hf) fun e he=>ABn ?_;obtain ⟨q,F,rfl,h4,h5⟩:=he;exact ⟨q,F,rfl,by omega,h5⟩
 ·rw [hN];refine ABs (Aiy Ae Ab hf) fun F hF=>?_;obtain ⟨F,rfl,hF⟩:=hF;refine ACg (n:=0) (ACv (by omega)) rfl (ACg (n:=0) (ACp (by omega)) rfl (ABs (Q:=fun e:Int × Int=>0<=e.1/\e.1 < 3/\ ∃ p:Nat,e.2=(p:Int)/\p<=0 + 1) (ABs (AWj (L:=L) (q:=0) (by omega)) fun e he=>ABn ⟨(AUe _ 3 (by decide)).1,(AUe _ 3 (by decide)).2,he⟩) fun e he=>ABn ?_));obtain ⟨c1,c2,p,c3,c4⟩:=he;have c5:=hF 0 0 (by omega) (by omega);refine ⟨p,ADz F 0 fun c=>if c=0 then F 0 0 + e.1 else F 0 c,?_,by omega,fun i j hi hj=>?_⟩
  ·rw [c3,wk (by omega)];refine congrArg (fun z=>(z,(p:Int))) ?_;show (tab N N F).set 0 ((AEj N (F 0)).set 0 (F 0 0 + e.1))=_;rw [AFs];exact ALl
  ·rw [ADf];split
   ·split
    ·omega
    ·have:=hF 0 j (by omega) hj;omega
   ·have:=hF i j hi hj;omega
 ·rw [hN];refine ABs (Aiy Ae Ab hf) fun F hF=>?_;obtain ⟨F,rfl,hF⟩:=hF;have w1:w64 ((N:Int) - 1)=((N - 1:Nat):Int):=by rw [wk (by omega)];omega
  rw [w1];refine ACg (ACv (by omega)) rfl (ACg (ACp (by omega)) rfl (ABs (Q:=fun e:Int × Int=>0<=e.1/\e.1 < 2/\ ∃ p:Nat,e.2=(p:Int)/\p<=0 + 1) (ABs (AWj (L:=L) (q:=0) (by omega)) fun e he=>ABn ⟨(AUe _ 2 (by decide)).1,(AUe _ 2 (by decide)).2,he⟩) fun e he=>ABn ?_));obtain ⟨c1,c2,p,c3,c4⟩:=he;have c5:=hF (N - 1) (N - 1) (by omega) (by omega);refine ⟨p,ADz F (N - 1) fun c=>if c=N - 1 then F (N - 1) (N - 1) + e.1 else F (N - 1) c,?_,by omega,fun i j hi hj=>?_⟩
  ·rw [c3,wk (by omega),ADu,ADu];refine congrArg (fun z=>(z,(p:Int))) ?_;rw [AFs];exact ALl
  ·rw [ADf];split
   ·split
    ·omega
    ·have:=hF (N - 1) j (by omega) hj;omega
   ·have:=hF i j hi hj;omega
 ·refine ABs (Q:=fun e=> ∃ (q:Nat) (F:Nat->Nat->Int),e=(tab N N F,(q:Int))/\q<=200/\ ∀ i j,i < N->j < N->(F i j).natAbs<=9) (AEa (by rw [hN];omega) (ABs (Atc (q0:=0) (L:=L) hN Ab (by omega) hf) fun e he=>ABn ?_)) fun e he=>ABn he;obtain ⟨q,f,rfl,h2,h3⟩:=he;exact ⟨q,dgF f,rfl,by omega,fun i j hi hj=>Aiz (m:=9) h3 i j hi hj⟩
 ·refine ABs (Q:=fun e=> ∃ (q:Nat) (F:Nat->Nat->Int),e=(tab N N F,(q:Int))/\q<=200/\ ∀ i j,i < N->j < N->(F i j).natAbs<=9) (AEa (by rw [hN];omega) (ABs (Atd (q0:=0) (L:=L) hN Ab (by omega) hf) fun e he=>ABn ?_)) fun e he=>ABn he;obtain ⟨q,f,rfl,h2,h3⟩:=he;exact ⟨q,dgF f,rfl,by omega,fun i j hi hj=>Nat.le_trans (Aiz (m:=1) h3 i j hi hj) (by decide)⟩
 ·obtain ⟨q,F,rfl,h2,h3⟩:=he;dsimp only;refine ABs (Atg Ae Ab (fun i j hi hj=>Nat.le_trans (h3 i j hi hj) (by decide)) hf) fun b hb=>AB8 (fun hn=>?_) fun hn=>ABn ?_
  ·refine ABs (Q:=fun e=> ∃ f:Nat->Int,e.1=tab N N (dgF f)/\ ∀ r,r < N->1<=f r/\f r<=2) (AEa (by rw [hN];omega) (ABs (Ate (q0:=q) (L:=L) hN Ab (by omega) hf) fun e he=>ABn ?_)) fun e he=>ABn ?_
   ·obtain ⟨q,f,rfl,h4,h5⟩:=he;exact ⟨f,rfl,h5⟩
   ·obtain ⟨f,h4,h5⟩:=he;obtain ⟨d1,d2,d3⟩:=Ath Ab h5;exact ⟨N,dgF f,h4,⟨Ae,Ab,d1,d2,fun i j hi hj=>Nat.le_trans (Aiz (m:=2) h5 i j hi hj) (by decide),d3⟩,by rw [t3];omega⟩
  ·have hg:AMp N F/\AOb N F/\det N F<=10000:=hb.1 (by simpa using hn);exact ⟨N,F,rfl,⟨Ae,Ab,hg.1,hg.2.1,h3,hg.2.2⟩,by rw [t3];omega⟩
theorem Atj {fuel:Nat} {a1 a2 most:Int} {L L2:List Int} (h1:0<=a1/\a1 < 256) (hm:1<=most/\most<=8) (hf:AE3 < fuel):Ok (AFu fuel a1 a2 L L2 most) fun r=> ∃ n A,r=tab n n A/\1<=n/\(n:Int)<=most/\Aba n A/\ ∀ k,k < n->A k k<=3 * dm9:=by
  have hf2:100 < fuel:=Nat.lt_of_le_of_lt (by decide) hf;unfold AFu;refine ABs (Ati h1 hm hf2) fun g hg=>?_;obtain ⟨n,A,rfl,G,hn⟩:=hg;have t2:=Int.emod_lt_of_pos a1 (show 0 < most by omega);have t3:Int.tmod a1 most=a1 % most:=Int.tmod_eq_emod_of_nonneg h1.1
  let A0:Nat->Nat->Int:=fun i j=>if i < n/\j < n then A i j else 0
  have hA0:∀ i j,i < n->j < n->A0 i j=A i j:=fun i j hi hj=>if_pos ⟨hi,hj⟩;have e:tab n n A=tab n n A0:=APd fun i j hi hj=>(hA0 i j hi hj).symm;refine ABs (AC2 (Ag7 G.n1 (by have:=G.n8;omega) (fun i j hi hj=>Nat.le_trans (G.bd i j hi hj) (by decide)) (by omega))) fun x hx=>?_;subst hx;rw [e];have hp:AOb n A0:=fun k hk=>by rw [AD5 fun i j hi hj=>hA0 i j (by omega) (by omega)];exact G.pos k hk
  have hs:AMp n A0:=fun i j hi hj=>by rw [hA0 i j hi hj,hA0 j i hj hi];exact G.sym i j hi hj
  have hE:∀ i j,(A0 i j).natAbs<=9:=fun i j=>by
    show (if i < n/\j < n then A i j else 0).natAbs<=9
    split
    · next h=>exact G.bd i j h.1 h.2
    · decide
  have hh:=Anr hs hp (B:=9) (by decide) (fun i hi=>by have:=hE i i;omega)
  refine ABs (Akc G.n1 G.n8 hs hp (fun i j=>Nat.le_trans (hE i j) (by decide)) (fun k hk=>?_) (fun k hk=>?_) ?_ hf) fun r hr=>ABn ?_
  · have h2:=hh k hk
    have h3:(9:Int) ^ k<=9 ^ 8:=by
      have:=Nat.pow_le_pow_right (show 0 < 9 by omega) (show k<=8 by have:=G.n8;omega);have e2:∀ t:Nat,(9:Int) ^ t=((9 ^ t:Nat):Int):=fun t=>by simp
      rw [e2,e2];omega
    exact Int.le_trans h2 h3
  · have:=hE k k;have:(3 * dm9)=129140163:=by decide
    omega
  · rw [AD5 hA0];exact G.dt
  · obtain ⟨A',T,rfl,R,-,-,hd⟩:=hr;exact ⟨n,A',rfl,G.n1,by rw [hn,t3];omega,R,hd⟩
theorem An6 {A:Nat->Nat->Int} {k:Nat} (h1:LvF A k) (h2:SzF A (k + 1) k) (hp:0 < det (k + 1) A):det (k + 1) A * det (k + 1) A<=2 * (det k A * det (k + 2) A):=by
 unfold LvF at h1;unfold SzF at h2;have h3:(2 * Mn k A (k + 1) k) * (2 * Mn k A (k + 1) k)<=det (k + 1) A * det (k + 1) A:=AU7 (by omega) h2.2;have h4:(2 * Mn k A (k + 1) k) * (2 * Mn k A (k + 1) k)=4 * (Mn k A (k + 1) k * Mn k A (k + 1) k):=by grind
 omega
theorem AMg {x y:Int} (h0:0<=x) (h:x<=y):∀ k:Nat,x ^ k<=y ^ k
  | 0=>by simp
  | k + 1=>by
    rw [Int.pow_succ,Int.pow_succ]
    exact Int.mul_le_mul (AMg h0 h k) h h0 (Int.le_trans (Int.pow_nonneg h0) (AMg h0 h k))
def tri:Nat->Nat
  | 0=>0
  | k + 1=>tri k + (k + 1)
theorem Ag8 {n:Nat} {A:Nat->Nat->Int} (hp:AOb n A) (hs:ARs A n) (hl:ATf A n):∀ k,k + 1<=n->det k A ^ (k + 1)<=det (k + 1) A ^ k * 2 ^ tri k:=by
  intro k;induction k with
  | zero=>intro _;simp [det,tri]
  | succ k ih=>
    intro hk;have ih:=ih (by omega);have p0:=hp k (by omega);have p1:=hp (k + 1) (by omega);have p2:=hp (k + 2) (by omega);have h1:=An6 (hl k (by omega)) (hs (k + 1) k (by omega) (by omega)) p1;generalize det k A=a at *
    generalize det (k + 1) A=b at *
    generalize det (k + 2) A=c at *
    have h2:(b * b) ^ (k + 1)<=(2 * (a * c)) ^ (k + 1):=AMg (Int.le_of_lt (Int.mul_pos p1 p1)) h1 _;rw [Int.mul_pow,Int.mul_pow,Int.mul_pow] at h2;have h3:a ^ (k + 1) * c ^ (k + 1)<=b ^ k * 2 ^ tri k * c ^ (k + 1):=Int.mul_le_mul_of_nonneg_right ih (Int.le_of_lt (Int.pow_pos p2));have h4:2 ^ (k + 1) * (a ^ (k + 1) * c ^ (k + 1))<=2 ^ (k + 1) * (b ^ k * 2 ^ tri k * c ^ (k + 1)):=Int.mul_le_mul_of_nonneg_left h3 (Int.le_of_lt (AXj _));have h5:=Int.le_trans h2 h4;have e1:b ^ (k + 1) * b ^ (k + 1)=b ^ k * b ^ (k + 1 + 1):=by rw [Int.pow_succ b k,Int.pow_succ b (k + 1),Int.pow_succ b k];grind
    have e2:(2:Int) ^ (k + 1) * (b ^ k * 2 ^ tri k * c ^ (k + 1))=b ^ k * (c ^ (k + 1) * 2 ^ tri (k + 1)):=by
      have:(2:Int) ^ tri (k + 1)=2 ^ tri k * 2 ^ (k + 1):=by rw [<- Int.pow_add];rfl
      rw [this];grind
    rw [e1,e2] at h5;exact Int.le_of_mul_le_mul_left h5 (Int.pow_pos p1)
def dU:Nat->Int
  | 8=>10000
  | 7=>35777
  | 6=>64000
  | 5=>57243
  | 4=>25600
  | _=>10000
theorem Auw (k:Nat):dU k<=64000:=by unfold dU;split <;> omega
theorem Art (k:Nat):10000<=dU k:=by unfold dU;split <;> omega
theorem Aqx:∀ k,k < 8->dU (k + 1) ^ k * 2 ^ tri k < (dU k + 1) ^ (k + 1):=by decide
theorem Akd {n:Nat} {A:Nat->Nat->Int} (hn:n<=8) (hp:AOb n A) (hs:ARs A n) (hl:ATf A n) (hd:det n A<=10000):∀ m k,k + m=n->det k A<=dU k:=by
 intro m
 induction m with
 | zero=>
     intro k hk;obtain rfl:k=n:=by omega
     exact Int.le_trans hd (Art _)
 | succ m ih=>
   intro k hk
   have h1:=ih (k + 1) (by omega)
   have h2:=Ag8 hp hs hl k (by omega)
   have p0:=hp k (by omega)
   have p1:=hp (k + 1) (by omega)
   rcases Int.lt_or_le (dU k) (det k A) with h | h
   · exfalso
     have h3:(dU k + 1) ^ (k + 1)<=det k A ^ (k + 1):=AMg (by have:=Art k;omega) (by omega) _
     have h4:det (k + 1) A ^ k * 2 ^ tri k<=dU (k + 1) ^ k * 2 ^ tri k:=Int.mul_le_mul_of_nonneg_right (AMg (Int.le_of_lt p1) h1 k) (Int.le_of_lt (AXj _))
     have h5:=Aqx k (by omega)
     omega
   · exact h
theorem AXl {n:Nat} {A:Nat->Nat->Int} (hn:n<=8) (R:Aba n A) {k:Nat} (hk:k<=n):0 < det k A/\det k A<=64000:=
  ⟨R.pos k hk,Int.le_trans (Akd hn R.pos R.sz R.lv R.dt (n - k) k (by omega)) (Auw k)⟩
theorem AXm {n:Nat} {A:Nat->Nat->Int} (hn:n<=8) (R:Aba n A) {i j:Nat} (hi:i < n) (hj:j < n): -192000<=A i j/\A i j<=192000:=
  Afo R.sym R.pos (fun k hk=>Afe (Dm:=64000) hn R.sym R.pos hk (fun k hk=>(AXl hn R hk).2) fun l hl=>R.sz k l hl hk) hi hj
structure RB (n:Nat) (A:Nat->Nat->Int) (k:Nat):Prop where
  pos:∀ j,k < j->j<=n->0 < det j A
  lt:∀ j,k < j->j < n->det j A < 65536
  sz:∀ l i,k<=l->l < i->i < n->SzF A i l
  lv:∀ l,k<=l->l + 1 < n->LvF A l
  dt:det n A<=10000
theorem Atk {A F:Nat->Nat->Int} {m k:Nat} (h0:0 < det k A) (hF:∀ i j,i < m + 1->j < m + 1->F i j=Mn k A (k + i) (k + j)) {i j:Nat} (hi:i < m) (hj:j < m):AR0 F (det k A) i j=Mn (k + 1) A (k + 1 + i) (k + 1 + j):=by
 unfold AR0;rw [hF 0 0 (by omega) (by omega),hF (i + 1) (j + 1) (by omega) (by omega),hF (i + 1) 0 (by omega) (by omega),hF 0 (j + 1) (by omega) (by omega),Nat.add_zero,AVm (by omega),Int.mul_tdiv_cancel_left _ (by omega)];rw [show k + (i + 1)=k + 1 + i by omega,show k + (j + 1)=k + 1 + j by omega]
theorem Afr {n:Nat} {A:Nat->Nat->Int}:∀ (m k:Nat) (F:Nat->Nat->Int),k + m=n->1<=m->0 < det k A->(∀ i j,i < m->j < m->F i j=Mn k A (k + i) (k + j))->(AQl m F (det k A)=true↔RB n A k):=by
 intro m
 induction m with
 | zero=>intro k F _ h;omega
 | succ m ih=>
   intro k F hk _ h0 hF
   have Ad:F 0 0=det (k + 1) A:=by rw [hF 0 0 (by omega) (by omega)];exact ALh k A
   cases m with
   | zero=>
     obtain rfl:k + 1=n:=hk
     show decide (0 < F 0 0/\F 0 0<=10000)=true↔_
     rw [decide_eq_true_iff,Ad]
     exact ⟨fun h=>⟨fun j h1 h2=>by
       obtain rfl:j=k + 1:=by omega
       exact h.1,fun j h1 h2=>by omega,fun l i h1 h2 h3=>by omega,fun l h1 h2=>by omega,h.2⟩,fun h=>⟨h.pos (k + 1) (by omega) (Nat.le_refl _),h.dt⟩⟩
   | succ m=>
     have hN:∀ i j,i < m + 1->j < m + 1->AR0 F (det k A) i j=Mn (k + 1) A (k + 1 + i) (k + 1 + j):=fun i j hi hj=>Atk h0 hF hi hj
     have hS:AQk (m + 1 + 1) F↔(0 < det (k + 1) A/\det (k + 1) A < 65536)/\ ∀ i,k < i->i < n->SzF A i k:=by
       unfold AQk
       rw [Ad]
       refine and_congr_right fun _=>⟨fun h i h1 h2=>?_,fun h i h1 h2=>?_⟩
       · have h3:=h (i - k) (by omega) (by omega)
         rw [hF (i - k) 0 (by omega) (by omega),show k + (i - k)=i by omega] at h3
         unfold SzF
         simp only [Nat.add_zero] at h3
         omega
       · have h3:=h (k + i) (by omega) (by omega)
         unfold SzF at h3
         rw [hF i 0 h2 (by omega),Nat.add_zero]
         omega
     have hL:AVv F (det k A)↔LvF A k:=by
       unfold AVv LvF
       rw [Ad,hN 0 0 (by omega) (by omega),Nat.add_zero,ALh (k + 1) A,hF 1 0 (by omega) (by omega),Nat.add_zero]
       have e:3 * det (k + 1) A * det (k + 1) A=3 * (det (k + 1) A * det (k + 1) A):=by grind
       rw [e]
       exact Iff.rfl
     show (decide (AQk (m + 1 + 1) F) && (decide (AVv F (det k A)) && AQl (m + 1) (AR0 F (det k A)) (F 0 0)))=true↔_
     rw [Bool.and_eq_true,Bool.and_eq_true,decide_eq_true_iff,decide_eq_true_iff,hS,hL,Ad]
     constructor
     · rintro ⟨⟨⟨h1,h2⟩,h3⟩,h4,h5⟩
       have R:=(ih (k + 1) _ (by omega) (by omega) h1 hN).1 h5
       refine ⟨fun j a b=>?_,fun j a b=>?_,fun l i a b c=>?_,fun l a b=>?_,R.dt⟩
       · by_cases e:j=k + 1
         · subst e;exact h1
         · exact R.pos j (by omega) b
       · by_cases e:j=k + 1
         · subst e;exact h2
         · exact R.lt j (by omega) b
       · by_cases e:l=k
         · subst e;exact h3 i b c
         · exact R.sz l i (by omega) b c
       · by_cases e:l=k
         · subst e;exact h4
         · exact R.lv l (by omega) b
     · intro R
       have h1:=R.pos (k + 1) (by omega) (by omega)
       exact ⟨⟨⟨h1,R.lt (k + 1) (by omega) (by omega)⟩,fun i a b=>R.sz k i (Nat.le_refl k) a b⟩,R.lv k (Nat.le_refl k) (by omega),(ih (k + 1) _ (by omega) (by omega) h1 hN).2 ⟨fun j a b=>R.pos j (by omega) b,fun j a b=>R.lt j (by omega) b,fun l i a b c=>R.sz l i (by omega) b c,fun l a b=>R.lv l (by omega) b,R.dt⟩⟩
def Abb (M:List (List Int)):Prop:=(1<=M.length/\M.length<=8)/\(∀ z∈M,z.length=M.length)/\Aba M.length (ent M)
theorem AYg (M:List (List Int)):isRed M=true↔Abb M:=by
 unfold isRed;rw [Bool.and_eq_true];constructor
 ·rintro ⟨h1,h2⟩;have S:=Aam h1;have R:=(Afr (A:=ent M) (n:=M.length) M.length 0 (ent M) (by omega) S.1.1 (by simp [det]) fun i j _ _=>by rw [AO9,Nat.zero_add,Nat.zero_add]).1 (by simpa [det] using h2);refine ⟨S.1,S.2.1,fun i j hi hj=>(S.2.2 i j hi hj).1,fun k hk=>?_,fun r l h3 h4=>R.sz l r (Nat.zero_le _) h3 h4,fun l hl=>R.lv l (Nat.zero_le _) hl,R.dt⟩;rcases Nat.eq_zero_or_pos k with h | h
  ·subst h;simp [det]
  ·exact R.pos k h hk
 ·rintro ⟨h1,h2,R⟩;refine ⟨(AIl ⟨h1,h2,fun i j hi hj=>⟨R.sym i j hi hj,?_,?_⟩⟩).symm,?_⟩
  ·have:=AXm h1.2 R hi hj;omega
  ·have:=AXm h1.2 R hi hj;omega
  ·have h3:=(Afr (A:=ent M) (n:=M.length) M.length 0 (ent M) (by omega) h1.1 (by simp [det]) fun i j _ _=>by rw [AO9,Nat.zero_add,Nat.zero_add]).2 ⟨fun j _ hj=>R.pos j hj,fun j _ hj=>by have:=AXl h1.2 R (k:=j) (by omega);omega,fun l i _ a b=>R.sz i l a b,fun l _ hl=>R.lv l hl,R.dt⟩;simpa [det] using h3
theorem Ag9 {fuel r c:Nat} {F:Nat->Nat->Int} (hr:1<=r) (Ad:r<=16) (hc:1<=c) (Ae:c<=16) (hf:100 < fuel):AD0 fuel (tab r c F)=some ((r:Int),(c:Int),true):=by
 apply ok_eq;unfold AD0;rw [ACt];refine ABs (Q:=fun ex=>match ex with | .inl _=>False | .inr _=>True) (AB8 (fun h=>by omega) fun h=>AB8 (fun h2=>by omega) fun h2=>ABn trivial) fun ex hex=>?_
 cases ex with
 | inl e=>exact hex.elim
 | inr u=>
   dsimp only
   refine ABs (AC4 (fun i (s:Int)=>s=i) r (Q:=fun ex=>match ex with | .inl _=>False | .inr _=>True) rfl (by omega) fun i s hi hI=>?_) fun ex hex=>?_
   · subst hI
     unfold AG1
     rw [ACt]
     refine AB8 (fun h=>ACg (ACv (by omega)) rfl ?_) fun h=>ABn trivial
     rw [ACw]
     refine AB8 (fun h2=>by omega) fun h2=>AB8 (fun h3=>by omega) fun h3=>ACg (n:=0) (ACv (by omega)) rfl (AB8 (fun h4=>?_) fun h4=>ABn ⟨by omega,wk (by omega)⟩)
     rw [ACw] at h4;omega
   · cases ex with
     | inl e=>exact hex.elim
     | inr u=>exact ACg (n:=0) (ACv (by omega)) rfl (ABn (by rw [ACw]))
theorem Ake {fuel n:Nat} {F:Nat->Nat->Int} (Ah:1<=n) (hn:n<=8) (hb:∀ i j,i < n->j < n->(F i j).natAbs<=AH6) (hf:100 < fuel):Ok (AHn fuel (tab n n F)) fun r=>r=true↔ARs F n/\ATf F n:=by
 unfold AHn;refine ABs (AC2 (AYe Ah hn hb hf)) fun x hx=>?_;subst hx;dsimp only;refine ABs (AC4 (fun i s=>s=((i:Nat):Int)/\i<=n/\ARs F i/\ATf F i) n (Q:=fun ex=>match ex with | .inl e=>e=false/\¬ (ARs F n/\ATf F n) | .inr _=>ARs F n/\ATf F n) ⟨rfl,Nat.zero_le _,fun r l h1 h2=>by omega,fun r h=>by omega⟩ (by omega) fun i s hi hI=>?_) fun ex hex=>?_
 ·obtain ⟨rfl,hin,hsz,hlv⟩:=hI;unfold AJy;rw [ACt];refine AB8 (fun h=>?_) (fun h=>ABn ?_)
  ·have hi':i < n:=by omega
   refine ABs (AC4 (fun k s=>s=((k:Nat):Int)/\k<=i/\ ∀ l,l < k->SzF F i l) i (Q:=fun ex=>match ex with | .inl e=>e=false/\¬ (ARs F n/\ATf F n) | .inr _=> ∀ l,l < i->SzF F i l) ⟨rfl,Nat.zero_le _,fun l h1=>by omega⟩ (by omega) fun k s hk hK=>?_) fun ex hex=>?_
   ·obtain ⟨rfl,hki,hz⟩:=hK;unfold AJx;refine AB8 (fun h2=>?_) (fun h2=>ABn ?_)
    ·have hki':k < i:=by omega
     refine ABs (AC2 (Aim hn hi' (by omega) hb hf)) fun b Ad=>?_;subst Ad;refine AB8 (fun h3=>ABn ⟨rfl,fun h4=>?_⟩) (fun h3=>ABn ⟨by omega,by rw [wk (by omega)];omega,by omega,fun l hl=>?_⟩)
     ·have:=h4.1 i k hki' hi';rw [<- AZf] at this;simp [this] at h3
     ·have hgood:SzF F i k:=by rw [<- AZf];simpa using h3
      rcases Nat.lt_or_ge l k with h6 | h6
      ·exact hz l h6
      ·obtain rfl:l=k:=by omega
       exact hgood
    ·obtain rfl:k=i:=by omega
     exact hz
   ·cases ex with
    | inl r=>exact ABn hex
    | inr e=>
      have hsz':ARs F (i + 1):=fun r l h1 h2=>by
        rcases Nat.lt_or_ge r i with h3 | h3
        · exact hsz r l h1 h3
        · obtain rfl:r=i:=by omega
          exact hex l h1
      dsimp only
      have nx:w64 ((i:Int) + 1)=((i + 1:Nat):Int):=by rw [wk (by omega)];omega
      refine AB8 (fun h4=>?_) (fun h4=>ABn ⟨by omega,nx,by omega,hsz',fun r hr=>by omega⟩)
      obtain ⟨j,rfl⟩:∃ j,i=j + 1:=⟨i - 1,by omega⟩
      refine ABs (Afk hn hi' hb hf) fun b Ad=>?_
      refine AB8 (fun h5=>ABn ⟨rfl,fun h6=>?_⟩) (fun h5=>ABn ⟨by omega,nx,by omega,hsz',fun r hr=>?_⟩)
      · rw [Ad.2 (h6.2 j hi')] at h5;cases h5
      · have hgood:LvF F j:=Ad.1 (by simpa using h5)
        rcases Nat.lt_or_ge r j with h6 | h6
        · exact hlv r (by omega)
        · obtain rfl:r=j:=by omega
          exact hgood
  ·obtain rfl:i=n:=by omega
   exact ⟨hsz,hlv⟩
 ·cases ex with
  | inl r=>exact ABn (Iff.intro (fun h=>by rw [hex.1] at h;cases h) fun h=>absurd h hex.2)
  | inr u=>exact ABn ⟨fun _=>hex,fun _=>rfl⟩
def Afs (M:List (List Int)):Prop:= ∀ z∈M,∀ x∈z,-9223372036854775808<=x/\x<=9223372036854775807
theorem Aha {fuel:Nat} {M:List (List Int)} (hM:Afs M) (hf:100 < fuel):AE8 fuel M=some (isRed M):=by
 have key:Ok (AE8 fuel M) fun r=>r=true↔Abb M:=by
   unfold AE8
   refine ABs (AC2 (AYp hM (by omega))) fun x hx=>?_
   subst hx
   by_cases hk:okM M=true
   · rw [if_pos hk]
     dsimp only
     have Ag:=hk
     unfold okM at Ag
     rw [decide_eq_true_iff] at Ag
     obtain ⟨a1,a2,a3⟩:=Ag
     have hne:∃ z,M[0]? =some z:=⟨M[0],List.getElem?_eq_getElem (by omega)⟩
     obtain ⟨z,hz⟩:=hne
     have hc:ANr M=z.length:=AQ0 hz
     have Aj:=a3 z (List.mem_of_getElem? hz)
     have hT:M=tab M.length (ANr M) (ent M):=AX0 fun z hz=>(a3 z hz).2.2
     refine AB8 (fun _=>?_) fun h=>absurd rfl h
     by_cases hsq:ANr M=M.length/\M.length<=8
     · have Ai:M=tab M.length M.length (ent M):=by rw [hsq.1] at hT;exact hT
       have hb:∀ i j,i < M.length->j < M.length->(ent M i j).natAbs<=AH6:=fun i j hi hj=>by
         have hl:M[i].length=M.length:=by rw [(a3 _ (List.getElem_mem hi)).2.2];exact hsq.1
         rw [Ak8 hi (by omega)]
         have h1:=hM _ (List.getElem_mem hi) _ (List.getElem_mem (show j < M[i].length by omega))
         have h2:(9223372036854775808:Nat)<=AH6:=by decide
         omega
       have hR:Abb M↔Aba M.length (ent M):=⟨fun h=>h.2.2,fun h=>⟨⟨a1,hsq.2⟩,fun z hz=>by rw [(a3 z hz).2.2];exact hsq.1,h⟩⟩
       rw [hR]
       generalize hF:ent M=F at *
       generalize hL:M.length=n at *
       rw [Ai]
       refine ABs (AWh a1 hsq.2 hb hf) fun v hv=>AB8 (fun h=>?_) fun h=>ABn ⟨fun h2=>(nomatch h2),fun h2=>absurd (hv.2 ⟨h2.sym,h2.pos⟩) h⟩
       have h1:=hv.1 h
       refine ABs (AC2 (Aiq hsq.2 hb hf)) fun b Ad=>?_
       subst Ad
       refine AB8 (fun h2=>?_) fun h2=>ABn ⟨fun h3=>(nomatch h3),fun h3=>absurd (decide_eq_true h3.dt) h2⟩
       refine ABs (Ake a1 hsq.2 hb hf) fun b Ad=>ABn ⟨fun h3=>?_,fun h3=>Ad.2 ⟨h3.sz,h3.lv⟩⟩
       exact ⟨h1.1,h1.2,(Ad.1 h3).1,(Ad.1 h3).2,of_decide_eq_true h2⟩
     · have hnr: ¬ Abb M:=fun h=>hsq ⟨by rw [hc];exact h.2.1 z (List.mem_of_getElem? hz),h.1.2⟩
       refine ABs (Q:=fun v=>v=3) ?_ fun v hv=>AB8 (fun h=>by omega) fun _=>ABn ⟨fun h=>(nomatch h),fun h=>absurd h hnr⟩
       unfold AEh
       refine ABs (Q:=fun e=>e.2=false∨(8:Int) < e.1) ?_ fun e he=>?_
       · unfold AFa
         rw [hT]
         refine ABs (AC2 (Ag9 a1 a2 (by omega) (by omega) hf)) fun x hx=>?_
         subst hx
         dsimp only
         refine AB8 (fun h=>absurd h (by decide)) fun _=>AB8 (fun h=>ABn (.inl rfl)) fun h=>ABn (.inr ?_)
         have h2:M.length=ANr M:=by omega
         dsimp only
         by_cases h3:M.length<=8
         · exact absurd ⟨h2.symm,h3⟩ hsq
         · omega
       · obtain ⟨e1,e2⟩:=e
         dsimp only at he ⊢
         refine AB8 (fun h=>ABn rfl) fun h=>AB8 (fun _=>ABn rfl) fun h2=>?_
         rcases he with rfl | he
         · exact absurd rfl h
         · exact absurd he h2
   · rw [if_neg hk]
     refine AB8 (fun h=>(nomatch h)) fun _=>ABn ⟨fun h=>(nomatch h),fun h=>absurd ?_ hk⟩
     obtain ⟨h1,h2,_⟩:=h
     unfold okM
     rw [decide_eq_true_iff]
     have hc:ANr M=M.length:=by rw [AQ0 (List.getElem?_eq_getElem (show 0 < M.length by omega))];exact h2 _ (List.getElem_mem _)
     exact ⟨by omega,by omega,fun z hz=>by rw [h2 z hz,hc];exact ⟨by omega,by omega,rfl⟩⟩
 obtain ⟨r,h1,h2⟩:=key;rw [h1];congr 1;rw [<- AYg] at h2;cases r <;> cases h:isRed M <;> simp_all
end Go.Proofs.YtdnbklmefmoofaaGreatDoor
namespace Go.Proofs.YtdnbklmefmoofaaGreatDoor
open Go Go.QF
open Go.ChangeShapes Go.WideShapes Go.ChangeAt Go.RowKit
set_option maxRecDepth 100000
theorem Akf:Tryz.prog.cellsOf 25=4:=by kernel_rfl
theorem wf_i64 {z:Int} (h:(Lit.int .i64 z).wf=true): -9223372036854775808<=z/\z<=9223372036854775807:=by
 simp [Lit.wf,IntKind.min,IntKind.max,IntKind.bits,IntKind.signed] at h;omega
theorem An7 {H:Type} {enc:TypeId × Value->H} {W:World} {fuel:Nat} {v:Value} {x:DataW H × List MemPlace} (hf:DataW.trod enc Tryz.prog W 0 (fun _=>true) true fuel 22 [v]=some x):∃ M,AEq (cI .i64) W.heap v M/\Afs M:=by
  rcases Deep.open_int_rows Tryz.underlying22 Tryz.underlying35 Tryz.underlying2 Ajf AVa hf with ⟨hcs,_⟩ | ⟨a',len',cap',A,L,C,Z,hcs,_,hl,_,_,hrow⟩
  · simp at hcs;subst hcs;exact ⟨[],Amg _ _,fun z hz=>by cases hz⟩
  · simp at hcs;subst hcs
    have hM:Mat W.heap (.slice (some a') len' cap') ((List.range len').map fun r=>(Z r).take (L r)):=by
      refine ⟨(List.range len').map fun r=> .slice (A r) (L r) (C r),?_,by simp,fun i r z hr hz=>?_⟩
      · refine AUu (by simp) (fun h=>by cases h) fun a'' ha i x hx=>?_;injection ha with ha;subst ha;have hi:i < len':=by have:=(List.getElem?_eq_some_iff.1 hx).1;simpa using this
        simp [hi] at hx;subst hx;exact (hrow i (by omega)).1
      · have hi:i < len':=by have:=(List.getElem?_eq_some_iff.1 hr).1;simpa using this
        simp [hi] at hr hz;subst hr;subst hz;obtain ⟨_,hLC,_,hZ,_,hnone,hcell⟩:=hrow i (by omega);refine AUu (by simp;omega) (fun h=>by have:=hnone h;omega) fun a'' ha c x hx=>?_;have hc:c < L i:=by have:=(List.getElem?_eq_some_iff.1 hx).1;simp at this;omega
        have:=(hcell a'' ha).2 c (by omega);rw [this];rw [List.getElem?_map,List.getElem?_take,if_pos hc,List.getElem?_eq_getElem (by omega)] at hx;simp only [Option.map_some,Option.some.injEq] at hx;rw [<- hx,List.getD_eq_getElem?_getD,List.getElem?_eq_getElem (by omega)];rfl
    refine ⟨_,Aqg hM ⟨_,_,_,rfl,hl⟩,fun z hz x hx=>?_⟩;obtain ⟨r,hr,rfl⟩:=List.mem_map.1 hz;have hr':r < len':=List.mem_range.1 hr;exact wf_i64 ((hrow r (by omega)).2.2.2.2.1 x (List.mem_of_mem_take hx))
theorem An8 {H:Type} {enc:TypeId × Value->H} {W:World} {v:Value} {d:DataW H} {p:List MemPlace} (hv:∃ a len cap,v= .slice a len cap) (h:DataW.Trod enc Tryz.prog W 0 (fun _=>true) true 22 v d p):∃ M,AEq (cI .i64) W.heap v M/\Afs M:=by
 obtain ⟨fuel,hf⟩:=h;obtain ⟨a,len,cap,rfl⟩:=hv;exact An7 hf
theorem An9 {H:Type} {enc:TypeId × Value->H} {W:World} {r:Reach} {b0:Nat} {v:Value} {d:DataW H} {p:List MemPlace} (hv:Value.okWide Tryz.prog W r b0 25 v) (h:DataW.Trod enc Tryz.prog W 0 (fun _=>true) true 25 v d p):
    ∃ (g k:Int) (lv bv:Value) (Z Y:List Int),v= .agg #[.int .u8 g,.int .u8 k,lv,bv]/\SlC (cI .i8) W.heap lv Z/\SlC (cI .i8) W.heap bv Y/\(0<=g/\g < 256)/\(0<=k/\k < 256)/\(∀ z∈Z,-128<=z/\z<=127)/\ ∀ z∈Y,-128<=z/\z<=127:=by
  obtain ⟨cs,rfl,hsz⟩:=okWide_struct Tryz.underlying25 hv;rw [Akf] at hsz;obtain ⟨l⟩:=cs
  match l,hsz with
  | [c0,c1,c2,c3],_=>
    obtain ⟨fuel,hf⟩:=h;obtain ⟨y0,y1,y2,y3,n,_,_,h0,h1,h2,h3⟩:=Joins.trod_struct4 Tryz.underlying25 hf;simp [Value.cells,Alm,Aln] at h0 h1 h2 h3;obtain ⟨x0,e0,_,w0⟩:=DataW.trod_int Tryz.underlying5 h0;obtain ⟨x1,e1,_,w1⟩:=DataW.trod_int Tryz.underlying5 h1;simp at e0 e1;subst e0;subst e1;have b0:=wf_u8 w0;have b1:=wf_u8 w1;obtain ⟨Z,HZ,hZ⟩:=Alo h2;obtain ⟨Y,HY,hY⟩:=Alo h3;exact ⟨x0,x1,c2,c3,Z,Y,rfl,Agz HZ,Agz HY,by omega,by omega,hZ,hY⟩
end Go.Proofs.YtdnbklmefmoofaaGreatDoor
namespace Go.Proofs.YtdnbklmefmoofaaGreatDoor
open Go Go.QF
open Go.ChangeShapes Go.WideShapes Go.ChangeAt Go.RowKit
set_option maxRecDepth 100000
theorem Akg:Tryz.prog.cellsOf 3=1:=by kernel_rfl
theorem Akh:Tryz.prog.cellsOf 37=5:=by kernel_rfl
theorem Aoa:Tryz.prog.cellsOf 26=1:=by kernel_rfl
theorem Aob:Tryz.prog.cellsOf 22=1:=by kernel_rfl
theorem Aki:Tryz.prog.cellsOf 28=3:=by kernel_rfl
theorem Atl {α:Type} {f:α->List Value} {good:α->Prop} {W:World} {a:Addr} {len cap k:Nat} (hk:0 < k) (h:∀ i,i < len-> ∃ x,good x/\(f x).length=k/\W.cells? 0 (a.add (i * k)) k=some (f x)):
    ∃ Xs:List α,SlK W.heap k (.slice (some a) len cap) (Xs.map f)/\(∀ x∈Xs,good x)/\Xs.length=len:=by
  have key:∀ n,n<=len-> ∃ Xs:List α,Xs.length=n/\ ∀ (i:Nat) (x:α),Xs[i]? =some x->good x/\(f x).length=k/\W.cells? 0 (a.add (i * k)) k=some (f x):=by
    intro n;induction n with
    | zero=>intro _;exact ⟨[],rfl,fun i x hx=>by simp at hx⟩
    | succ n ih=>
      intro hn;obtain ⟨Xs,hl,hX⟩:=ih (by omega);obtain ⟨x,hx⟩:=h n (by omega);refine ⟨Xs ++ [x],by simp [hl],fun i y hy=>?_⟩
      rcases Nat.lt_or_ge i Xs.length with hi | hi
      · rw [List.getElem?_append_left hi] at hy;exact hX i y hy
      · have:=(List.getElem?_eq_some_iff.1 hy).1;simp at this;have hi2:i=Xs.length:=by omega
        subst hi2;simp at hy;subst hy;rw [hl];exact hx
  obtain ⟨Xs,hl,hX⟩:=key len (Nat.le_refl _)
  refine ⟨Xs,⟨some a,cap,by rw [List.length_map,hl],fun i row hrow=>?_⟩,fun x hx=>?_,hl⟩
  · rw [List.getElem?_map] at hrow;cases hxi:Xs[i]? with
    | none=>rw [hxi] at hrow;cases hrow
    | some x=>
      rw [hxi] at hrow;simp only [Option.map_some,Option.some.injEq] at hrow;subst hrow;obtain ⟨_,hfl,hc⟩:=hX i x hxi;obtain ⟨_,_,hcell⟩:=World.cells?_some hc;have hi:i < len:=by rw [<- hl];exact (List.getElem?_eq_some_iff.1 hxi).1
      have hsp:a.spot=none:=by
        obtain ⟨x0,_,hf0,hc0⟩:=h 0 (by omega);obtain ⟨_,_,hcell0⟩:=World.cells?_some hc0;have h0:=hcell0 0 hk;rw [List.getElem?_eq_getElem (by omega)] at h0;have ha:(a.add (0 * k)).add 0=a:=by simp [Addr.add]
        rw [ha] at h0;exact congrArg Addr.spot (Abj h0)
      obtain ⟨ab,ao,asp⟩:=a;simp only at hsp;subst hsp;refine ⟨ab,ao,rfl,fun j y hj=>?_⟩;have hjl:=(List.getElem?_eq_some_iff.1 hj).1;have:=hcell j (by omega);rw [AGy,AGy,hj] at this;exact this
  · obtain ⟨i,hi⟩:=List.getElem?_of_mem hx;exact (hX i x hi).1
section
variable {H:Type} {enc:TypeId × Value->H} {W:World}
theorem Aux {α:Type} {l:List α} (h:l.length=5):∃ a b c d e,l=[a,b,c,d,e]:=by
 match l,h with
 | [a,b,c,d,e],_=>exact ⟨a,b,c,d,e,rfl⟩
theorem Auy {fuel:Nat} {v:Value} {x:DataW H × List MemPlace} (hf:DataW.trod enc Tryz.prog W 0 (fun _=>true) true fuel 26 [v]=some x):∃ L:List AJr,SlC AQe W.heap v L/\ ∀ b∈L,(I64 b.1/\I64 b.2.1)/\I64 b.2.2.1/\I64 b.2.2.2.1/\I64 b.2.2.2.2:=by
 rcases Deep.open_slice Tryz.underlying26 hf with ⟨hcs,_⟩ | ⟨a,len,cap,m,n,D,Pl,hcs,_,hl,_,hm,_,hel⟩
 ·simp at hcs;subst hcs;exact ⟨[],Ahs _ _,fun z hz=>by cases hz⟩
 ·simp at hcs;subst hcs
  suffices hh:∃ Bs:List Blk,SlK W.heap 5 (.slice (some a) len cap) (Bs.map Auk)/\(∀ b∈Bs,b.I)/\Bs.length=len by
    obtain ⟨Bs,q1,q2,q3⟩:=hh
    refine ⟨Bs.map fun b=>(b.exp,b.size,b.a,b.b,b.c),⟨Bs.map Auk,q1,by simp,fun i cs x h1 h2=>?_⟩,fun x hx=>?_⟩
    · rw [List.getElem?_map] at h1 h2
      cases hb:Bs[i]? with
      | none=>rw [hb] at h1;cases h1
      | some b=>rw [hb] at h1 h2;cases h1;cases h2;rfl
    · obtain ⟨b,hb,rfl⟩:=List.mem_map.1 hx
      obtain ⟨g0,g1,g2,g3,g4⟩:=q2 b hb
      exact ⟨⟨g0,g1⟩,g2,g3,g4⟩
  refine Atl (by decide) fun i hi=>?_;obtain ⟨cs',h1,h2⟩:=hel i (by rw [hm];split <;> omega);rw [Akh] at h1;obtain ⟨_,hcl,_⟩:=World.cells?_some h1;obtain ⟨c0,c1,c2,c3,c4,rfl⟩:=Aux hcl;obtain ⟨xs,n',_,_,_,hlen,hfld⟩:=DataW.trod_struct Tryz.underlying37 h2
  have rd:∀ (t:TypeId) (c:Value),(∃ y,DataW.trod enc Tryz.prog W 0 (fun _=>true) true n' t [c]=some y)->Tryz.prog.underlying t=some (.int .i64)-> ∃ z:Int,c= .int .i64 z/\I64 z:=by
    intro t c hy ht
    obtain ⟨y,hy⟩:=hy
    obtain ⟨z,e0,_,w0⟩:=DataW.trod_int ht hy
    simp at e0
    refine ⟨z,e0,?_⟩
    simp [Lit.wf,IntKind.min,IntKind.max,IntKind.bits,IntKind.signed] at w0
    unfold I64
    omega
  match xs,hlen with
  | [y0,y1,y2,y3,y4],_=>
    have f0:=hfld 0 _ rfl
    have f1:=hfld 1 _ rfl
    have f2:=hfld 2 _ rfl
    have f3:=hfld 3 _ rfl
    have f4:=hfld 4 _ rfl
    simp [Akg,AVa] at f0 f1 f2 f3 f4
    obtain ⟨z0,rfl,i0⟩:=rd 3 c0 ⟨_,f0⟩ Tryz.underlying3
    obtain ⟨z1,rfl,i1⟩:=rd 3 c1 ⟨_,f1⟩ Tryz.underlying3
    obtain ⟨z2,rfl,i2⟩:=rd 2 c2 ⟨_,f2⟩ Tryz.underlying2
    obtain ⟨z3,rfl,i3⟩:=rd 2 c3 ⟨_,f3⟩ Tryz.underlying2
    obtain ⟨z4,rfl,i4⟩:=rd 2 c4 ⟨_,f4⟩ Tryz.underlying2
    exact ⟨⟨z0,z1,z2,z3,z4⟩,⟨i0,i1,i2,i3,i4⟩,rfl,h1⟩
theorem Akj {r:Reach} {b0:Nat} {v:Value} {d:DataW H} {p:List MemPlace} (hv:Value.okWide Tryz.prog W r b0 28 v) (h:DataW.Trod enc Tryz.prog W 0 (fun _=>true) true 28 v d p):
    ∃ (q:Int) (vT vB:Value) (T:List (List Int)) (L:List AJr),v= .agg #[.int .i64 q,vT,vB]/\AEq (cI .i64) W.heap vT T/\Afs T/\SlC AQe W.heap vB L/\I64 q/\ ∀ b∈L,(I64 b.1/\I64 b.2.1)/\I64 b.2.2.1/\I64 b.2.2.2.1/\I64 b.2.2.2.2:=by
 obtain ⟨cs,rfl,hsz⟩:=okWide_struct Tryz.underlying28 hv;rw [Aki] at hsz;obtain ⟨l⟩:=cs
 match l,hsz with
 | [c0,c1,c2],_=>
   obtain ⟨fuel,hf⟩:=h
   obtain ⟨y0,y1,y2,n,_,_,h0,h1,h2⟩:=Deep.trod_struct3 Tryz.underlying28 hf
   simp [Value.cells,AVa,Aob,Aoa] at h0 h1 h2
   obtain ⟨x0,e0,_,w0⟩:=DataW.trod_int Tryz.underlying2 h0
   simp at e0
   subst e0
   obtain ⟨L,HB,hB⟩:=Auy h2
   obtain ⟨T,HT,hT⟩:=An7 h1
   exact ⟨x0,c1,c2,T,L,rfl,HT,hT,HB,by have:=wf_i64 w0;unfold I64;omega,hB⟩
end
end Go.Proofs.YtdnbklmefmoofaaGreatDoor
namespace Go.Proofs.YtdnbklmefmoofaaGreatDoor
open Go Go.QF
set_option maxRecDepth 100000
theorem Ai0 {n k:Nat} {A:Nat->Nat->Int} (hn:n<=8) (R:Aba n A) (hk:k<=n) {i j:Nat} (hi:i < n) (hj:j < n):(Mn k A i j).natAbs<=12288000000:=by
 have h1:=AYb R.sym R.pos hk hi hj
 have b:∀ i,i < n->Mn k A i i<=12288000000:=fun i hi=>by
   have h2:=Anq R.sym R.pos hi k hk
   have h3:=AXl hn R hk
   have h4:=AXm hn R hi hi
   have h5:det k A * A i i<=det k A * 192000:=Int.mul_le_mul_of_nonneg_left h4.2 (by omega)
   omega
 have p:=fun i (hi:i < n)=>AYc R.sym R.pos hk hi;have h2:=Int.mul_le_mul (b i hi) (b j hj) (p j hj) (by omega);have:=Afc (x:=Mn k A i j) (y:=12288000000) (by omega) (Int.le_trans h1 h2);omega
theorem Atm {fuel n:Nat} {A:Nat->Nat->Int} (Ag:1<=n) (hn:n<=8) (R:Aba n A) (hf:100 < fuel):AIq fuel (tab n n A)=some (det n A):=by
 apply ok_eq;unfold AIq;rw [ACt];refine AEa (by omega) ?_;rw [Int.toNat_natCast];refine ABs (AC4 (fun i s=>s=(((i:Nat):Int),part n i A)/\i<=n) n (Q:=(· =tab n n A)) ⟨by rw [AOu n A];rfl,Nat.zero_le _⟩ (by omega) fun i s hi hI=>?_) fun e he=>?_
 ·obtain ⟨rfl,hin⟩:=hI;unfold ALz;dsimp only;rw [ACt];refine AB8 (fun h=>ACg (ACv (by omega)) rfl (AEa (by omega) (ACg (APe (by omega)) rfl ?_))) (fun h=>ABn ?_)
  ·have hi':i < n:=by omega
   rw [Int.toNat_natCast,ADu,AG4 n (0:Int),ANm];refine ACg (AKu (by omega) hi') rfl (AEa (by rw [ACw,ACw];exact ⟨rfl,Ag⟩) (ABn ⟨hi',?_,by omega⟩));rw [wk (by omega),ADu,AMq (by omega),ANs,AOr];refine congrArg (fun z=>(z,part n (i + 1) A)) ?_;omega
  ·obtain rfl:i=n:=by omega
   exact AOt _ _
 subst he;refine ABs (Q:=(· =1)) ⟨1,if_pos (by omega),rfl⟩ fun one h1=>?_;subst h1;refine ABs (AC4 (fun k s=> ∃ G,s=(false,((k:Int),tab n n G,det k A))/\k<=n/\ ∀ r c,k<=r->r < n->k<=c->c < n->G r c=Mn k A r c) n (Q:=fun ex=>match ex with | .inl e=>False | .inr (neg,last)=>neg=false/\last=det n A) ⟨A,rfl,Nat.zero_le _,fun r c _ _ _ _=>(AO9 A r c).symm⟩ (by omega) fun k s hk hI=>?_) fun ex hex=>?_
 ·obtain ⟨G,rfl,hkn,hG⟩:=hI;unfold ALy;dsimp only;rw [ACt];refine AB8 (fun h=>?_) (fun h=>ABn ⟨rfl,?_⟩)
  ·have hk':k < n:=by omega
   have hGk:G k k=det (k + 1) A:=by rw [hG k k (by omega) hk' (by omega) hk',ALh]
   have hpos:0 < det (k + 1) A:=R.pos (k + 1) (by omega);have hlast:=AXl hn R (k:=k) (by omega);refine ABs (Q:=(· =(k:Int))) (ABs (AC4 (fun _ s=>s=(k:Int)) 0 (Q:=(· =(k:Int))) rfl (by omega) fun i s hi hI=>?_) fun e he=>ABn he) fun e he=>?_
   ·subst hI;unfold ALv;rw [ACt];refine ABs (Q:=fun ex=>match ex with | .inl _=>False | .inr _=>True) (AB8 (fun h2=>ACg (ACv hk') rfl (ACg (ACp hk') rfl (ABs (AC2 (a:=AG9 (G k k)) rfl) fun sg hsg=>AB8 (fun h3=>?_) fun h3=>ABn trivial))) fun h2=>absurd h h2) fun ex hex=>?_
    ·exfalso;rw [hsg] at h3;have:=(AQw _).1 h3;omega
    ·cases ex with
     | inl u=>exact hex.elim
     | inr u=>exact ABn rfl
   ·subst he;refine AB8 (fun h2=>by omega) fun _=>ABs (Q:=(· =(false,tab n n G))) (AB8 (fun h2=>absurd rfl h2) fun _=>ABn rfl) fun r hr=>?_;subst hr;dsimp only;refine ACg (ACv hk') rfl (ACg (ACp hk') rfl ?_);rw [wk (by omega)]
    have hq:∀ r c,k < r->r < n->k < c->c < n->bQ k G (det k A) r c=Mn (k + 1) A r c:=fun r c h1 h2 h3 h4=>by
      unfold bQ
      rw [hGk,hG r c (by omega) h2 (by omega) h4,hG r k (by omega) h2 (by omega) hk',hG k c (by omega) hk' (by omega) h4,<- ALh k A,AVm (by omega),Int.mul_ediv_cancel_left _ (by omega)]
    have habs:∀ r c,k<=r->r < n->k<=c->c < n->(G r c).natAbs<=12288000000:=fun r c h1 h2 h3 h4=>by rw [hG r c h1 h2 h3 h4];exact Ai0 hn R (by omega) h2 h4
    refine ABs (AC4 (fun i s=>s=(((k + 1 + i:Nat):Int),tab n n (bF k G (det k A) (k + 1 + i) (k + 1)))/\k + 1 + i<=n) (n - (k + 1)) (Q:=(· =tab n n (bF k G (det k A) n (k + 1)))) ⟨by rw [Nat.add_zero,Aag];simp,by omega⟩ (by omega) fun i s hi hI=>?_) fun a3 Ah=>?_
    ·obtain ⟨rfl,hin⟩:=hI;unfold ALx;dsimp only;rw [ACt];obtain ⟨q,hqe⟩:∃ q,k + 1 + i=q:=⟨_,rfl⟩;rw [hqe] at hin ⊢;refine AB8 (fun h3=>?_) (fun h3=>ABn ?_)
     ·have hqn:q < n:=by omega
      rw [wk (by omega)];refine ABs (AC4 (fun j s=>s=(((k + 1 + j:Nat):Int),tab n n (bF k G (det k A) q (k + 1 + j)))/\k + 1 + j<=n) (n - (k + 1)) (Q:=(· =tab n n (bF k G (det k A) q n))) ⟨by simp,by omega⟩ (by omega) fun j s hj hJ=>?_) fun a4 Ai=>ABn ?_
      ·obtain ⟨rfl,hjn⟩:=hJ;unfold ALw;dsimp only;rw [ACt];obtain ⟨c,hc⟩:∃ c,k + 1 + j=c:=⟨_,rfl⟩;rw [hc] at hjn ⊢;refine AB8 (fun h4=>?_) (fun h4=>ABn ?_)
       ·have hcn:c < n:=by omega
        have a1:=habs k k (by omega) hk' (by omega) hk';have a2:=habs q c (by omega) hqn (by omega) hcn;have a3:=habs q k (by omega) hqn (by omega) hk';have a4:=habs k c (by omega) hk' (by omega) hcn;have m1:=Nat.mul_le_mul a1 a2;have m2:=Nat.mul_le_mul a3 a4;have hB:12288000000 * 12288000000 < AE3:=by decide
        refine ACg (ACv hqn) rfl (ACg (ACp hcn) rfl ?_);rw [Am9];refine ABs (AC2 (a:=G k k * G q c) (if_pos (by omega))) fun x1 Am=>ACg (ACp hk') rfl (ACg (ACv hk') rfl (ACg (ACp hcn) rfl ?_));subst Am;rw [Am8,Aah];refine ABs (AC2 (a:=G q k * G k c) (if_pos (by omega))) fun x2 Ao=>?_;subst Ao;refine ABs (AC2 (a:=G k k * G q c - G q k * G k c) (if_pos ⟨by rw [Int.natAbs_mul];omega,by rw [Int.natAbs_mul];omega⟩)) fun x3 Ap=>?_;subst Ap
        have hnum:G k k * G q c - G q k * G k c=det k A * Mn (k + 1) A q c:=by
          rw [hGk,hG q c (by omega) hqn (by omega) hcn,hG q k (by omega) hqn (by omega) hk',hG k c (by omega) hk' (by omega) hcn,<- ALh k A,AVm (by omega)]
        have m3:(det k A * Mn (k + 1) A q c).natAbs<=64000 * 12288000000:=by
          rw [Int.natAbs_mul]
          exact Nat.mul_le_mul (by omega) (Ai0 hn R (by omega) hqn hcn)
        refine ABs (Q:=fun x=>x.1=bQ k G (det k A) q c) ⟨_,if_pos ⟨by rw [hnum];omega,by omega,by omega⟩,rfl⟩ fun x4 Aq=>ABn ⟨by omega,?_,by omega⟩;rw [Aq,wk (by omega),AWf,Agv k G (det k A) (by omega) (by omega)];congr 1
        ·omega
        ·rw [<- Nat.add_assoc,hc]
       ·obtain rfl:c=n:=by omega
        rfl
      ·subst Ai;refine ⟨by omega,?_,by omega⟩;rw [wk (by omega)];congr 1
       ·omega
       ·refine AVb fun r c hr hc=>?_;rw [Agu k n G (det k A) q hc,<- Nat.add_assoc,hqe]
     ·obtain rfl:q=n:=by omega
      rfl
    ·subst Ah;refine ABn ⟨hk',bF k G (det k A) n (k + 1),?_,by omega,fun r c h1 h2 h3 h4=>?_⟩
     ·rw [hGk];rfl
     ·have:bF k G (det k A) n (k + 1) r c=bQ k G (det k A) r c:=by unfold bF;rw [if_pos (by omega)]
      rw [this];exact hq r c (by omega) h2 (by omega) h4
  ·obtain rfl:k=n:=by omega
   rfl
 ·match ex,hex with
  | .inl e,hex=>exact hex.elim
  | .inr (neg,last),hex=>
    obtain ⟨rfl,rfl⟩:=hex
    dsimp only
    exact AB8 (fun h=>nomatch h) fun _=>ABn rfl
theorem Aft {fuel n:Nat} {F:Nat->Nat->Int} (hn:1<=n) (Ab:n<=16) (hf:100 < fuel):AIp fuel (tab n n F)=some ((n:Int),(n:Int),true)/\AHv fuel (tab n n F)=some ((n:Int),(n:Int),true):=by
 constructor <;>
 ·apply ok_eq;first | unfold AIp | unfold AHv
  rw [ACt];refine ABs (Q:=fun ex=>match ex with | .inl _=>False | .inr _=>True) (AB8 (fun h=>by omega) fun h=>AB8 (fun h2=>by omega) fun h2=>ABn trivial) fun ex hex=>?_
  cases ex with
  | inl e=>exact hex.elim
  | inr u=>
    dsimp only
    refine ACg (n:=0) (ACv (by omega)) rfl ?_
    rw [ACw]
    refine ABs (Q:=fun ex=>match ex with | .inl _=>False | .inr _=>True) (AB8 (fun h=>by omega) fun h=>AB8 (fun h2=>by omega) fun h2=>ABn trivial) fun ex hex=>?_
    cases ex with
    | inl e=>exact hex.elim
    | inr u=>
      dsimp only
      refine ABs (AC4 (fun i (s:Int)=>s=i) n (Q:=fun ex=>match ex with | .inl _=>False | .inr _=>True) rfl (by omega) fun i s hi hI=>?_) fun ex hex=>?_
      · subst hI
        first | unfold ALu | unfold AKh
        rw [ACt]
        refine AB8 (fun h=>ACg (ACv (by omega)) rfl ?_) fun h=>ABn trivial
        rw [ACw,ACw]
        exact AB8 (fun h2=>absurd rfl h2) fun _=>ABn ⟨by omega,wk (by omega)⟩
      · cases ex with
        | inl e=>exact hex.elim
        | inr u=>exact ABn rfl
theorem Aqy {fuel n:Nat} {F:Nat->Nat->Int} (hn:1<=n) (Ac:n<=16) (hb:∀ i j,i < n->j < n->(F i j).natAbs<=9223372036854775807) (hf:100 < fuel):AKs fuel (tab n n F)=some (tab n n F,true):=by
 apply ok_eq;unfold AKs;refine ABs (AC2 (Aft hn Ac hf).1) fun x hx=>?_;subst hx;dsimp only;refine AB8 (fun h=>nomatch h) fun _=>ABs (Q:=(· =tab n n F)) (AEa (by omega) ?_) fun e he=>ABn (by rw [he]);rw [Int.toNat_natCast];refine ABs (AC4 (fun i s=>s=(((i:Nat):Int),part n i F)/\i<=n) n (Q:=(· =tab n n F)) ⟨by rw [AOu n F];rfl,Nat.zero_le _⟩ (by omega) fun i s hi hI=>?_) fun e he=>ABn he;obtain ⟨rfl,hin⟩:=hI;unfold ANg;dsimp only;rw [List.length_replicate,Int.toNat_natCast];refine AB8 (fun h=>AEa (by omega) (ACg (APe (by omega)) rfl ?_)) (fun h=>ABn ?_)
 ·have hi':i < n:=by omega
  rw [ADu,AG4 n (0:Int),ANm];refine ACg (AKu (by omega) hi') rfl ?_;rw [ADq];refine ABs (AC4 (fun j s=>s=(((j:Nat):Int),part n (i + 1) (ADz F i fun c=>if c < j then F i c else 0))/\j<=n) n (Q:=(· =part n (i + 1) F)) ⟨?_,Nat.zero_le _⟩ (by omega) fun j s hj hJ=>?_) fun e he=>ABn ⟨hi',?_,by omega⟩
  ·refine congrArg (fun z=>((0:Int),z)) ?_;unfold part;refine ADk fun r hr=>?_;split
   ·exact ADk fun c hc=>by rw [ADf,ADf];split <;> simp
   ·rfl
  ·obtain ⟨rfl,hjn⟩:=hJ;unfold ANf;dsimp only;rw [ACw];refine AB8 (fun h=>?_) (fun h=>ABn ?_)
   ·have hj':j < n:=by omega
    refine ACg (AKu (by omega) hi') rfl ?_;rw [ADq];have:=hb i j hi' hj';refine ABs (Q:=(· =F i j)) (ACg (ACv hi') rfl (ACg (ACp hj') rfl (ABs (Q:=(· =F i j)) ⟨_,if_pos (by omega),rfl⟩ fun x hx=>ABn hx))) fun x hx=>?_;subst hx;refine ACg (ACp hj') rfl (ABn ⟨by omega,?_,by omega⟩);rw [wk (by omega),ADu,ADu,AFs,AMq (by omega),ANs];refine congrArg (fun z=>(((j + 1:Nat):Int),z)) ?_;congr 1;unfold ADz;funext r;split
    ·funext c;by_cases h1:c=j
     ·subst h1;rw [if_pos rfl,if_pos (by omega)]
     ·rw [if_neg h1];by_cases h2:c < j
      ·rw [if_pos h2,if_pos (by omega)]
      ·rw [if_neg h2,if_neg (by omega)]
    ·rfl
   ·obtain rfl:j=n:=by omega
    unfold part;refine ADk fun r hr=>?_;split
    ·refine ADk fun c hc=>?_;rw [ADf];split
     ·next h=>subst h;first | rfl | rw [if_pos hc]
     ·rfl
    ·rfl
  ·rw [he,wk (by omega)];rfl
 ·obtain rfl:i=n:=by omega
  exact AOt _ _
def Adq (d p e:Int):Prop:= ∃ (k:Nat) (r:Int),e=k/\d=r * p ^ k/\¬ p ∣ r
theorem Adr {d p a b:Int} (hp:2<=p) (ha:Adq d p a) (hb:Adq d p b):a=b:=by
 have key:∀ (k l:Nat) (r s:Int),k < l->r * p ^ k=s * p ^ l->p ∣ r:=fun k l r s hkl h=>by
   obtain ⟨m,rfl⟩:∃ m,l=k + 1 + m:=⟨l - k - 1,by omega⟩
   rw [Int.pow_add,Int.pow_add,Int.pow_one] at h
   have h1:p ^ k * r=p ^ k * (p * (s * p ^ m)):=by grind
   exact ⟨_,Int.eq_of_mul_eq_mul_left (Int.pow_ne_zero (by omega)) h1⟩
 obtain ⟨k,r,rfl,h1,h2⟩:=ha;obtain ⟨l,s,rfl,h3,h4⟩:=hb;rcases Nat.lt_trichotomy k l with h | h | h
 ·exact absurd (key k l r s h (by rw [<- h1,<- h3])) h2
 ·rw [h]
 ·exact absurd (key l k s r h (by rw [<- h1,<- h3])) h4
theorem AVq {p r d:Int} {k:Nat} (hp:2<=p) (hr:0 < r) (hd:d<=10000) (h:d=r * p ^ k):k<=13:=by
 rcases Nat.lt_or_ge 13 k with h1 | h1
 ·exfalso;have h2:(2:Int) ^ 14<=2 ^ k:=AXk h1;have h3:(2:Int) ^ k<=p ^ k:=AMg (by omega) hp k;have h4:1 * p ^ k<=r * p ^ k:=Int.mul_le_mul_of_nonneg_right (by omega) (by omega);have h5:(2:Int) ^ 14=16384:=by decide
  omega
 ·exact h1
theorem Atn {fuel:Nat} {d p:Int} (Ac:1<=d) (hd:d<=10000) (hp:2<=p) (Ad:p<=9973) (hf:100 < fuel):Ok (AG6 fuel d p) (Adq d p):=by
 unfold AG6;refine ABs (AC4 (fun i s=> ∃ r:Int,s=(r,(i:Int))/\0 < r/\d=r * p ^ i) 14 (Q:=Adq d p) ⟨d,rfl,by omega,by simp⟩ (by omega) fun i s hi hI=>?_) fun e he=>ABn he;obtain ⟨r,rfl,hr,hdr⟩:=hI;have Ae:=AVq hp hr hd hdr
 have hrd:r<=d:=by
   have h1:r * 1<=r * p ^ i:=Int.mul_le_mul_of_nonneg_left (Int.pow_pos (by omega)) (by omega)
   omega
 unfold AJl;dsimp only;refine ABs (Q:=fun ex=>match ex with | .inl _=>p ∣ r | .inr _=> ¬ p ∣ r) (AB8 (fun h=>AEa (by omega) (AB8 (fun h2=>ABn ?_) fun h2=>ABn ?_)) fun h=>by omega) fun ex hex=>?_
 ·exact Int.dvd_of_tmod_eq_zero h2
 ·exact fun h3=>h2 (Int.tmod_eq_zero_of_dvd h3)
 ·cases ex with
  | inl u=>
    obtain ⟨q,rfl⟩:p ∣ r:=hex
    have hq:0 < q:=Int.pos_of_mul_pos_right hr (by omega)
    have hqr:1 * q<=p * q:=Int.mul_le_mul_of_nonneg_right (by omega) (by omega)
    refine AEa (by omega) (ABn ⟨by omega,q,?_,hq,by rw [hdr,Int.pow_succ];grind⟩)
    rw [Int.mul_tdiv_cancel_left _ (by omega),AFr (x:=q) (by omega) (by omega),wk (by omega)]
    rfl
  | inr u=>exact ABn ⟨i,r,rfl,hdr,hex⟩
def pwL (p:Int) (m:Nat):List Int:=AEj m fun i=>p ^ (2 ^ i)
theorem Aoc {fuel:Nat} {a b:Int} (ha:a.natAbs < 18446744073709551616) (hb:b.natAbs < 18446744073709551616) (h0:b≠0):AU2 fuel a b=some (a / b,a % b,true):=if_pos ⟨ha,hb,h0⟩
theorem Ato {fuel:Nat} {d p:Int} (Am:1<=d) (hd:d<=10000) (hp:Pr p) (Ag:p<=9973) (hf:100 < fuel):Ok (AKt fuel d p) fun r=>Adq d p r.1:=by
 have Ae:2<=p:=hp.1;have pw:∀ k:Nat,0 < p ^ k:=fun k=>Int.pow_pos (by omega);unfold AKt;refine ABs (AC2 (a:=ALj p) rfl) fun b hb=>?_;rw [<- AWt (by omega) hp] at hb;subst hb;refine AB8 (fun h=>nomatch h) fun _=>ABs (AC2 (a:=AG9 d) rfl) fun s hs=>?_;subst hs;refine AB8 (fun h=>absurd ((AQw d).1 h) (by omega)) fun _=>ABs (AC2 (a:=d) rfl) fun x hx=>ABs (Q:=(· =p)) ⟨p,if_pos (by omega),rfl⟩ fun y hy=>?_;subst hx;subst hy;refine ABs (AC4 (fun j s=> ∃ r:Int,s=(pwL y (j + 1),r,((2 ^ j - 1:Nat):Int))/\0 < r/\x=r * y ^ (2 ^ j - 1)) 5 (Q:=fun e=> ∃ (j:Nat) (r:Int),e=(pwL y (j + 1),r,((2 ^ j - 1:Nat):Int))/\0 < r/\x=r * y ^ (2 ^ j - 1)/\¬ y ^ (2 ^ j) ∣ r/\j<=4) ⟨x,?_,by omega,by simp⟩ (by omega) fun j s hj hI=>?_) fun e he=>?_
 ·refine congrArg (fun l=>(l,x,(0:Int))) ?_;show [y]=[y ^ 1];rw [Int.pow_one]
 ·obtain ⟨r,rfl,hr,hxr⟩:=hI;have Ao:=AVq Ae hr hd hxr
  have Af:j<=3:=by
    rcases Nat.lt_or_ge 3 j with h | h
    · exfalso
      have:=Nat.pow_le_pow_right (show 0 < 2 by omega) h
      omega
    · exact h
  have hrx:r<=x:=by
    have h1:r * 1<=r * y ^ (2 ^ j - 1):=Int.mul_le_mul_of_nonneg_left (pw _) (by omega)
    omega
  have hjp:1<=2 ^ j:=Nat.one_le_two_pow
  have Ap:2 ^ j<=8:=by
    have:=Nat.pow_le_pow_right (show 0 < 2 by omega) Af
    omega
  have hyb:y ^ (2 ^ j)<=10000 * 9973:=by
    have e1:y ^ (2 ^ j)=y ^ (2 ^ j - 1) * y:=by rw [<- Int.pow_succ];congr 1;omega
    have h2:1 * y ^ (2 ^ j - 1)<=r * y ^ (2 ^ j - 1):=Int.mul_le_mul_of_nonneg_right (by omega) (Int.le_of_lt (pw _))
    rw [e1]
    exact Int.mul_le_mul (by omega) Ag (by omega) (by omega)
  have Ad:=pw (2 ^ j);unfold ANi;dsimp only;have hl:(pwL y (j + 1)).length=j + 1:=ACw _ _;rw [hl,AFr (x:=((j + 1:Nat):Int) - 1) (by omega) (by omega)];refine ACg (n:=j) (ACp (by omega)) (by omega) (AEa (by omega) ?_);rw [show (((j + 1:Nat):Int) - 1).toNat=j by omega,show (1:Int) * 2 ^ j=((2 ^ j:Nat):Int) by simp,AFr (x:=((2 ^ j:Nat):Int)) (by omega) (by omega)];refine ABs (Q:=fun e:Bool × Int × Int=>if y ^ (2 ^ j) ∣ r then e=(true,r / y ^ (2 ^ j),((2 ^ (j + 1) - 1:Nat):Int)) else e=(false,r,((2 ^ j - 1:Nat):Int))) (ABs (AC2 (Aoc (fuel:=fuel) (a:=r) (b:=y ^ (2 ^ j)) (by omega) (by omega) (by omega))) fun q hq=>ABs (AC2 (a:=AG9 q.2.1) rfl) fun s hs=>?_) fun e he=>?_
  ·subst hq;subst hs;dsimp only;refine AB8 (fun h=>ABn ?_) fun h=>ABn ?_
   ·have hnd: ¬ y ^ (2 ^ j) ∣ r:=fun h2=>h ((AQw _).2 (Int.emod_eq_zero_of_dvd h2));rw [if_neg hnd]
   ·have hdv:y ^ (2 ^ j) ∣ r:=Int.dvd_of_emod_eq_zero ((AQw _).1 (Classical.not_not.1 h));rw [if_pos hdv,wk (by omega),Nat.pow_succ];refine congrArg (fun z=>(true,r / y ^ (2 ^ j),z)) ?_;omega
  ·by_cases hdv:y ^ (2 ^ j) ∣ r
   ·rw [if_pos hdv] at he;subst he;dsimp only;refine AB8 (fun _=>?_) fun h=>absurd rfl h;obtain ⟨q,rfl⟩:=hdv;have Ah:0 < q:=Int.pos_of_mul_pos_right hr Ad;have hqm:y ^ (2 ^ j) * 1<=y ^ (2 ^ j) * q:=Int.mul_le_mul_of_nonneg_left (by omega) (by omega);have hB:10000 * 10000 < AE3:=by decide
    have m1:(y ^ (2 ^ j)).natAbs * (y ^ (2 ^ j)).natAbs<=10000 * 10000:=Nat.mul_le_mul (by omega) (by omega);refine ABs (AC2 (a:=y ^ (2 ^ j) * y ^ (2 ^ j)) (if_pos (by omega))) fun z hz=>AEa (by omega) (ABn ⟨by omega,q,?_,Ah,?_⟩)
    ·subst hz;rw [Int.mul_ediv_cancel_left _ (by omega)];refine congrArg (fun l=>(l,q,((2 ^ (j + 1) - 1:Nat):Int))) ?_;have e1:y ^ (2 ^ j) * y ^ (2 ^ j)=y ^ (2 ^ (j + 1)):=by rw [<- Int.pow_add,Nat.pow_succ];congr 1;omega
     rw [e1];exact AOq (j + 1) fun i=>y ^ (2 ^ i)
    ·rw [hxr];have e1:y ^ (2 ^ (j + 1) - 1)=y ^ (2 ^ j) * y ^ (2 ^ j - 1):=by rw [<- Int.pow_add,Nat.pow_succ];congr 1;omega
     rw [e1];grind
   ·rw [if_neg hdv] at he;subst he;exact AB8 (fun h=>nomatch h) fun _=>ABn ⟨j,r,rfl,hr,hxr,hdv,by omega⟩
 ·obtain ⟨j,r,rfl,hr,hxr,hnd,Af⟩:=he;dsimp only
  have hY:∀ q,q < j->y ^ (2 ^ q)<=10000:=fun q hq=>by
    have h0:=Nat.pow_le_pow_right (show 0 < 2 by omega) (show q + 1<=j by omega)
    have h1:=Nat.one_le_two_pow (n:=q)
    rw [Nat.pow_succ] at h0
    have e1:y ^ (2 ^ j - 1)=y ^ (2 ^ q) * y ^ (2 ^ j - 1 - 2 ^ q):=by rw [<- Int.pow_add];congr 1;omega
    have h2:y ^ (2 ^ q) * 1<=y ^ (2 ^ q) * y ^ (2 ^ j - 1 - 2 ^ q):=Int.mul_le_mul_of_nonneg_left (pw _) (Int.le_of_lt (pw _))
    have h3:1 * y ^ (2 ^ j - 1)<=r * y ^ (2 ^ j - 1):=Int.mul_le_mul_of_nonneg_right (by omega) (Int.le_of_lt (pw _))
    omega
  have hl:(pwL y (j + 1)).length=j + 1:=ACw _ _;rw [hl,AFr (x:=((j + 1:Nat):Int) - 2) (by omega) (by omega)];refine ABs (AC4 (fun i s=> ∃ (r:Int) (k:Nat),s=((j:Int) - 1 - i,r,(k:Int))/\i<=j/\0 < r/\x=r * y ^ k/\¬ y ^ (2 ^ (j - i)) ∣ r) j (Q:=fun e=> ∃ (r:Int) (k:Nat),e=(r,(k:Int))/\x=r * y ^ k/\¬ y ∣ r) ⟨r,2 ^ j - 1,by refine congrArg (fun z=>(z,r,((2 ^ j - 1:Nat):Int))) ?_;omega,by omega,hr,hxr,by rw [Nat.sub_zero];exact hnd⟩ (by omega) fun i s hi hI=>?_) fun e he=>?_
  ·obtain ⟨r,k,rfl,hij,hr,hxr,hnd⟩:=hI;have Au:=AVq Ae hr hd hxr
   have hrx:r<=x:=by
     have h1:r * 1<=r * y ^ k:=Int.mul_le_mul_of_nonneg_left (pw _) (by omega)
     omega
   unfold ANh;dsimp only;refine AB8 (fun h=>?_) (fun h=>ABn ⟨r,k,rfl,hxr,?_⟩)
   ·obtain ⟨q,hq⟩:∃ q:Nat,(j:Int) - 1 - i=q:=⟨j - 1 - i,by omega⟩;rw [hq];have hqj:q < j + 1:=by omega
    have Aj:q<=3:=by omega
    have Av:1<=2 ^ q:=Nat.one_le_two_pow;have Aw:2 ^ q<=8:=by have:=Nat.pow_le_pow_right (show 0 < 2 by omega) Aj;omega
    have hyb:=hY q (by omega);have Ad:=pw (2 ^ q);have hsmall:y ^ (2 ^ q) ∣ r->y ^ (2 ^ q)<=r:=fun h=>Int.le_of_dvd hr h;refine ACg (n:=q) (ACp hqj) rfl (AEa (by omega) ?_);rw [Int.toNat_natCast,show (1:Int) * 2 ^ q=((2 ^ q:Nat):Int) by simp,AFr (x:=((2 ^ q:Nat):Int)) (by omega) (by omega)];refine ABs (Q:=fun e:Bool × Int × Int=>if y ^ (2 ^ q) ∣ r then e=(true,r / y ^ (2 ^ q),((k + 2 ^ q:Nat):Int)) else e=(false,r,(k:Int))) (ABs (AC2 (Aoc (fuel:=fuel) (a:=r) (b:=y ^ (2 ^ q)) (by omega) (by omega) (by omega))) fun t ht=>ABs (AC2 (a:=AG9 t.2.1) rfl) fun s hs=>?_) fun e he=>?_
    ·subst ht;subst hs;dsimp only;refine AB8 (fun h=>ABn ?_) fun h=>ABn ?_
     ·have hnd: ¬ y ^ (2 ^ q) ∣ r:=fun h2=>h ((AQw _).2 (Int.emod_eq_zero_of_dvd h2));rw [if_neg hnd]
     ·have hdv:y ^ (2 ^ q) ∣ r:=Int.dvd_of_emod_eq_zero ((AQw _).1 (Classical.not_not.1 h));rw [if_pos hdv,wk (by omega)];refine congrArg (fun z=>(true,r / y ^ (2 ^ q),z)) ?_;omega
    ·rw [AFr (x:=(q:Int) - 1) (by omega) (by omega)];by_cases hdv:y ^ (2 ^ q) ∣ r
     ·rw [if_pos hdv] at he;subst he;obtain ⟨w,rfl⟩:=hdv;have Ak:0 < w:=Int.pos_of_mul_pos_right hr Ad;refine ABn ⟨by omega,w,k + 2 ^ q,?_,by omega,Ak,?_,?_⟩
      ·rw [Int.mul_ediv_cancel_left _ (by omega)];refine congrArg (fun z=>(z,w,((k + 2 ^ q:Nat):Int))) ?_;omega
      ·rw [hxr,Int.pow_add];grind
      ·rw [show j - (i + 1)=q by omega];rintro ⟨u,rfl⟩;refine hnd ⟨u,?_⟩;rw [show j - i=q + 1 by omega,Nat.pow_succ,Nat.mul_two,Int.pow_add];grind
     ·rw [if_neg hdv] at he;subst he;refine ABn ⟨by omega,r,k,?_,by omega,hr,hxr,by rw [show j - (i + 1)=q by omega];exact hdv⟩;refine congrArg (fun z=>(z,r,(k:Int))) ?_;omega
   ·have:j - i=0:=by omega
    rw [this,Nat.pow_zero,Int.pow_one] at hnd;exact hnd
  ·obtain ⟨r,k,rfl,h1,h2⟩:=he;exact ABn ⟨k,r,rfl,h1,h2⟩
theorem Aav {M:List (List Int)} (R:Abb M):M=tab M.length M.length (ent M):=AX0 R.2.1
theorem Aod {n:Nat} {A:Nat->Nat->Int} (hn:n<=8) (R:Aba n A):Afs (tab n n A):=Afq (B:=192000) (by decide) fun i j hi hj=>by have:=AXm hn R hi hj;omega
theorem Aaw {M:List (List Int)} (R:Abb M):1<=det M.length (ent M)/\det M.length (ent M)<=10000:=⟨by have:=R.2.2.pos _ (Nat.le_refl _);omega,R.2.2.dt⟩
theorem Ai1 {M:List (List Int)} (R:Abb M) {i j:Nat} (hi:i < M.length) (hj:j < M.length):(ent M i j).natAbs<=192000:=by have:=AXm R.1.2 R.2.2 hi hj;omega
theorem Akk {fuel:Nat} {M:List (List Int)} (R:Abb M) (hf:100 < fuel):AI9 fuel M=some (det M.length (ent M)):=by
 apply ok_eq;obtain ⟨v1,v2⟩:=Aaw R;have hT:=Aav R;have h1:=R.1;unfold AI9;generalize hF:ent M=F at *;generalize hL:M.length=n at *;have hb:∀ i j,i < n->j < n->(F i j).natAbs<=192000:=fun i j hi hj=>by subst hF;subst hL;exact Ai1 R hi hj
 rw [hT];refine ABs (AC2 (Ag7 h1.1 (by omega) (fun i j hi hj=>Nat.le_trans (hb i j hi hj) (by decide)) (by omega))) fun x hx=>?_;subst hx;refine ABs (AC2 (AXd h1.2 (fun i j hi hj=>Nat.le_trans (hb i j hi hj) (by decide)) (by omega))) fun y hy=>?_;subst hy;refine ABs (AC2 (a:=(det n F,true)) (if_pos (by omega))) fun z hz=>ABn ?_;rw [hz]
theorem Atp {d p v:Int} (Ab:1<=d) (hd:d<=10000) (hp:2<=p) (h:Adq d p v):0<=v/\v<=13:=by
 obtain ⟨k,r,rfl,h1,h2⟩:=h
 have hr:0 < r:=by
   have hpk:0 < p ^ k:=Int.pow_pos (by omega)
   rcases Int.lt_or_le 0 r with h | h
   · exact h
   · have:=Int.mul_nonpos_of_nonpos_of_nonneg h (Int.le_of_lt hpk);omega
 have:=AVq hp hr hd h1;omega
theorem Acg {fuel:Nat} {M:List (List Int)} {p:Int} (R:Abb M) (hp:Pr p) (hp2:p<=9973) (hf:100 < fuel):∃ v,Adq (det M.length (ent M)) p v/\(0<=v/\v<=13)/\AHf fuel M p=some (if p=2 then v + 3 else v + 1)/\AGg fuel M p=some (if p=2 then v + 3 else v + 1):=by
  obtain ⟨v1,v2⟩:=Aaw R;obtain ⟨⟨v,r0,e0⟩,hv1,hv⟩:=Ato v1 v2 hp hp2 hf;dsimp only at hv;have hvb:=Atp v1 v2 hp.1 hv
  refine ⟨v,hv,hvb,?_,?_⟩
  · apply ok_eq;have hT:=Aav R;have h1:=R.1;have RF:=R.2.2;unfold AHf;generalize hF:ent M=F at *
    generalize hL:M.length=n at *
    have hb:∀ i j,i < n->j < n->(F i j).natAbs<=192000:=fun i j hi hj=>by subst hF;subst hL;exact Ai1 R hi hj
    rw [hT];refine ABs (AC2 (Aqy h1.1 (by omega) (fun i j hi hj=>Nat.le_trans (hb i j hi hj) (by decide)) hf)) fun x hx=>?_;subst hx;dsimp only
    refine ABs (Q:=(· =(det n F,true))) ?_ fun y hy=>?_
    · unfold AQu;refine ABs (AC2 (Aft h1.1 (by omega) hf).2) fun x hx=>?_;subst hx;dsimp only;exact AB8 (fun h=>nomatch h) fun _=>AB8 (fun h=>absurd rfl h) fun _=>ABs (AC2 (Atm h1.1 h1.2 RF hf)) fun z hz=>ABn (by rw [hz])
    · subst hy;dsimp only;refine ABs (AC2 hv1) fun z hz=>?_;subst hz;dsimp only
      refine AB8 (fun h=>ABn ?_) fun h=>ABn ?_
      · rw [if_pos h,wk (by omega)]
      · rw [if_neg h,wk (by omega)]
  · apply ok_eq;unfold AGg;refine ABs (AC2 (Akk R hf)) fun d hd=>?_;subst hd;refine ABs (Atn v1 v2 hp.1 hp2 hf) fun w hw=>?_;obtain rfl:=Adr hp.1 hv hw
    refine AB8 (fun h=>ABn ?_) fun h=>ABn ?_
    · rw [if_pos h,wk (by omega)]
    · rw [if_neg h,wk (by omega)]
theorem Ach {fuel:Nat} {M:List (List Int)} (hf:100 < fuel):Ok (AGw fuel M) fun r=>r=false->M.length<=12/\ ∀ z∈M,z.length<=12:=by
 unfold AGw;refine AB8 (fun _=>ABn fun h=>nomatch h) fun h=>ABs (AC4 (fun i s=>s=((i:Nat):Int)/\i<=M.length/\ ∀ j z,j < i->M[j]? =some z->z.length<=12) M.length (Q:=fun ex=>match ex with | .inl e=>e=true | .inr _=>M.length<=12/\ ∀ z∈M,z.length<=12) ⟨rfl,Nat.zero_le _,fun j z hj=>by omega⟩ (by omega) fun i s hi hI=>?_) fun ex hex=>?_
 ·obtain ⟨rfl,him,hz⟩:=hI;unfold AK8;refine AB8 (fun h2=>?_) fun h2=>ABn ⟨by omega,fun z hzm=>?_⟩
  ·have hi':i < M.length:=by omega
   refine ACg (List.getElem?_eq_getElem hi') rfl (AB8 (fun _=>ABn rfl) fun h3=>ABn ⟨hi',by rw [wk (by omega)];rfl,by omega,fun j z hj hjz=>?_⟩);rcases Nat.lt_or_ge j i with h4 | h4
   ·exact hz j z h4 hjz
   ·obtain rfl:j=i:=by omega
    rw [List.getElem?_eq_getElem hi'] at hjz;cases hjz;omega
  ·obtain ⟨j,hj⟩:=List.getElem?_of_mem hzm;have:=(List.getElem?_eq_some_iff.1 hj).1;exact hz j z (by omega) hj
 ·cases ex with
  | inl e=>exact ABn fun h=>by rw [hex] at h;cases h
  | inr u=>exact ABn fun _=>hex
end Go.Proofs.YtdnbklmefmoofaaGreatDoor
namespace Go.Proofs.YtdnbklmefmoofaaGreatDoor
open Go Go.QF
set_option maxRecDepth 100000
set_option maxHeartbeats 4000000
def AMh (fuel:Nat) (a3:LiI) (Ab:Int):Option ((Int) ⊕ ((Bool) ⊕ (Unit))):=
  (if Ab < (a3.length:Int) then ((gI a3 Ab).bind fun Ac=>((gI a3 0).bind fun Ad=>(if ¬ (Ac.length:Int)=(Ad.length:Int) then (some (Sum.inr<| Sum.inl <| false)) else (some (Sum.inl (w64 (Ab + 1))))))) else (some (Sum.inr<| Sum.inr <| ())))
def AI2 (fuel:Nat) (a3:LiI):Option Bool:=
  (((if (a3.length:Int) < 1 then (some (Sum.inl <| false)) else (if 16 < (a3.length:Int) then (some (Sum.inl <| false)) else ((gI a3 0).bind fun Ab=>(if (Ab.length:Int) < 1 then (some (Sum.inl <| false)) else (if 16 < (Ab.length:Int) then (some (Sum.inl <| false)) else (some (Sum.inr <| ()))))))):Option ((Bool) ⊕ (Unit))).bind (fun ex=>match ex with | Sum.inl Ac=>(some Ac) | Sum.inr (_)=>((iter (fun s=>AMh fuel a3 s) fuel 0).bind (fun ex=>match ex with | Sum.inl Ad=>(some Ad) | Sum.inr (_)=>(some true)))))
theorem AOi {fuel:Nat} {h:ABu} {Aq:Value} {a3:LiI} {r:Bool} (H2:AEq (cI .i64) h Aq a3) (hp:AI2 fuel a3=some r):ACn Tryz.prog 94 #[Aq] h (fun x h'=>Ext h h'/\x= .bool r):=by
 unfold AI2 at hp;refine cwf (l:=[_]) Tryz.func94 rfl rfl (ABp (ABv ?_));have K0:=Kst.k0 h;obtain ⟨A4,Ar,Ac⟩:=ABq hp;refine ALi 134217700 (fun x:Unit=>[]) (fun x h'=>(Sum.inr <| ())=A4/\Kst h h' (K0.L)) ?_ ?_
 ·refine ABp (Wo (ADa ACi rfl H2 (ACu rfl rfl (Wo ?_))));by_cases Ah:(a3.length:Int) < 1
  ·rw [decide_eq_true Ah];refine AE2 8 true (AB2 rfl (Wo (AFe 13 true (AB2 rfl (Wo (AFe 20 true (AB2 rfl (ABt (ACd rfl (ABp (ABv ?_)))))))))));obtain rfl:=ABo (ifT Ar Ah);refine ABx (AB4 ?_);obtain rfl:=ABo Ac;exact ⟨_,ABz,K0.x,rfl⟩
  ·have Au:=ifF Ar Ah;rw [decide_eq_false Ah];refine AB3 8 false (Wo (AB3 8 false (ADa ACi rfl H2 (AB3 8 false (AGz rfl rfl (AB0 rfl (Wo ?_)))))));by_cases Ai:16 < (a3.length:Int)
   ·rw [decide_eq_true Ai];refine AFe 13 true (AB2 rfl (Wo (AFe 20 true (AB2 rfl (ABt (ACd rfl (ABp (ABv ?_))))))));obtain rfl:=ABo (ifT Au Ai);refine ABx (AB4 ?_);obtain rfl:=ABo Ac;exact ⟨_,ABz,K0.x,rfl⟩
   ·rw [decide_eq_false Ai];refine AB3 13 false (Wo (AB3 13 false ?_));obtain ⟨A5,Av,Aw⟩:=ABq (ifF Au Ai);refine AFg ACi rfl H2 rfl Av fun Br Bt Bu A6 A7=>AB3 13 false (AB6 AC3 rfl (AB1 A6 K0.x) (AB3 13 false (ADh ACs rfl A7 (AB3 13 false (ACu rfl rfl (AB0 rfl (Wo ?_)))))));by_cases Aj:(A5.length:Int) < 1
    ·rw [decide_eq_true Aj];refine AFe 20 true (AB2 rfl (ABt (ACd rfl (ABp (ABv ?_)))));obtain rfl:=ABo (ifT Aw Aj);refine ABx (AB4 ?_);obtain rfl:=ABo Ac;exact ⟨_,ABz,K0.x,rfl⟩
    ·have Ax:=ifF Aw Aj;rw [decide_eq_false Aj];refine AB3 20 false (Wo (AB3 20 false (AFg ACi rfl H2 rfl Av fun Bv Bw Bx A8 A9=>AB3 20 false (AB6 AC3 rfl (AB1 A8 K0.x) (AB3 20 false (ADh ACs rfl A9 (AB3 20 false (AGz rfl rfl (AB0 rfl (ABt (⟨_,rfl,fun Ak=>?_,fun Ak=>?_⟩)))))))))))
     ·refine ABp (ABv ?_);obtain rfl:=ABo (AC8 Ax Ak);refine ABx (AB4 ?_);obtain rfl:=ABo Ac;exact ⟨_,ABz,K0.x,rfl⟩
     ·refine ABy (q_t ?_);exact ⟨(():Unit),⟨ABo (AC9 Ax Ak),K0⟩,trivial⟩
 rintro ⟨⟩ By Bz ⟨Ba,Ay⟩;subst Ba;refine ABr (ABp (Wo (ADa ACi rfl H2 (Wo (ABt (ABw ?_))))));obtain ⟨Am,Bb,Az⟩:=ABq Ac;obtain ⟨Bc,Be,Bf⟩:=ACe Bb;refine ACq 2198486384660 (fun x:(Int)=>[(29,(.int .i64 x))]) (fun k x h'=>iter Bc k x=some Am/\Kst h h' (Ay.L)) (by kernel_rfl) fuel (0:(Int)) ?_ ⟨rfl,trivial⟩ ?_
 ·exact ⟨Bf,Ay⟩
 rintro B1 Bg B3 B4 ⟨Bh,Ad⟩;obtain ⟨Bi,B5,rfl,Ae,Af⟩:=AB7 Bh;rw [Be] at Ae;dsimp only at Ae;unfold AMh at Ae;refine ABp (ACu rfl rfl (ABt (ABr (⟨_,rfl,fun Ao=>?_,fun Ao=>?_⟩))))
 ·refine ABy (q_t (ABr (ABw (ABp ?_))));obtain ⟨B6,Bj,Bl⟩:=ABq (AC8 Ae Ao);refine AFg ACi rfl H2 rfl Bj fun B7 B8 B9 Bm Bn=>AB6 AC3 rfl (AB1 Bm Ad.x) (AC1 (Wo (ADh ACs rfl Bn (Wo ?_))));obtain ⟨Ca,Bo,A3⟩:=ABq Bl;refine AFg ACi rfl H2 rfl Bo fun Cb Cd Ce Bp Bq=>AB6 AC3 rfl (AB1 Bp Ad.x) (ADh ACs rfl Bq (AEn rfl rfl (ABt (⟨_,rfl,fun Ap=>?_,fun Ap=>?_⟩))))
  ·refine ABp (ABv ?_);obtain rfl:=ABo (AC8 A3 Ap);change _=Am at Af;subst Af;refine ABx (ADe (AB4 (AB4 (ADe (AB4 ?_)))));obtain rfl:=ABo Az;exact ⟨_,ABz,Ad.x,rfl⟩
  ·refine ABy (q_b (q_t (AB5 (ACz rfl rfl (Wo (ABt ?_))))));obtain rfl:=ABo (AC9 A3 Ap);exact ⟨Bi,((w64 (Bg + 1)):(Int)),Nat.lt_succ_self _,⟨Af,Ad⟩,rfl,trivial⟩
 ·obtain rfl:=ABo (AC9 Ae Ao);change _=Am at Af;subst Af;refine ACh (ACj (ACj (ADo (q_t (ABp (ABv (ABx ?_)))))));obtain rfl:=ABo Az;exact ⟨_,ABz,Ad.x,rfl⟩
def AMr (fuel:Nat) (a3:LiI):Option Bool:=
  ((AI2 fuel a3).bind fun x5=>(if x5=true then ((gI a3 0).bind fun Ac=>(if (a3.length:Int)=(Ac.length:Int) then (some (decide ((a3.length:Int)<=8))) else (some false))) else (some false)))
theorem AWl {fuel:Nat} {h:ABu} {Ae:Value} {a3:LiI} {r:Bool} (H2:AEq (cI .i64) h Ae a3) (hp:AMr fuel a3=some r):ACn Tryz.prog 90 #[Ae] h (fun x h'=>Ext h h'/\x= .bool r):=by
 unfold AMr at hp;refine cwf (l:=[_]) Tryz.func90 rfl rfl (ABp (AC1 (Wo ?_)));have K0:=Kst.k0 h;obtain ⟨x5,Ak,Ag⟩:=ABq hp;refine ADb rfl (AOi (H2.ext K0.x) Ak) fun Av h9 E8 Ao=>?_;subst Ao;refine Wo ?_;have Ab:=K0.e E8;cases Ah:x5
 ·refine AFe 5 false (AIg 5 false (AB0 rfl (Wo (AE2 14 false (AB0 rfl (ABv (ABx ?_)))))));obtain rfl:=ABo (AH8 Ag Ah);exact ⟨_,ABz,Ab.x,rfl⟩
 ·refine AB3 5 true (Wo (AB3 5 true (ADa ACi rfl H2 (AB3 5 true (Wo (AB3 5 true ?_))))));obtain ⟨Ap,Aq,Ai⟩:=ABq (ifT Ag Ah);refine AFg ACi rfl H2 rfl Aq fun Ax Ay Az Ar Au=>AB3 5 true (AB6 AC3 rfl (AB1 Ar Ab.x) (AB3 5 true (ADh ACs rfl Au (AB3 5 true (AD8 rfl rfl (AB2 rfl (Wo ?_)))))));by_cases Ac:(a3.length:Int)=(Ap.length:Int)
  ·rw [decide_eq_true Ac];refine AB3 14 true (Wo (AB3 14 true (ADa ACi rfl H2 (AB3 14 true (AWd rfl rfl (AB2 rfl (ABv (ABx ?_))))))));obtain rfl:=ABo (ifT Ai Ac);exact ⟨_,ABz,Ab.x,rfl⟩
  ·rw [decide_eq_false Ac];refine AE2 14 false (AB0 rfl (ABv (ABx ?_)));obtain rfl:=ABo (ifF Ai Ac);exact ⟨_,ABz,Ab.x,rfl⟩
def AEp (fuel:Nat) (a1:Int):Option Int:=
  (if a1 < 2 then (some 1) else (if 2147483647 < a1 then (some 1) else (some 0)))
theorem AN0 {fuel:Nat} {h:ABu} {a1 r:Int} (hp:AEp fuel a1=some r):ACn Tryz.prog 91 #[(.int .i64 a1)] h (fun x h'=>Ext h h'/\x= .int .i64 r):=by
 unfold AEp at hp;refine cwf (l:=[_]) Tryz.func91 rfl rfl (ABp (ABv (ABr (ABp (Wo (ACu rfl rfl (Wo ?_)))))));have K0:=Kst.k0 h;by_cases Aa:a1 < 2
 ·rw [decide_eq_true Aa];refine AIg 5 true (AB2 rfl (ABt (ACd rfl (ABp (ABv (ABx (AB4 ?_)))))));obtain rfl:=ABo (ifT hp Aa);exact ⟨_,ABz,K0.x,rfl⟩
 ·have Ae:=ifF hp Aa;rw [decide_eq_false Aa];refine AB3 5 false (Wo (AB3 5 false (AGz rfl rfl (AB0 rfl (ABt (⟨_,rfl,fun Ad=>?_,fun Ad=>?_⟩))))))
  ·refine ABp (ABv (ABx (AB4 ?_)));obtain rfl:=ABo (AC8 Ae Ad);exact ⟨_,ABz,K0.x,rfl⟩
  ·refine ABy (q_t (ABp (ABv (ABx ?_))));obtain rfl:=ABo (AC9 Ae Ad);exact ⟨_,ABz,K0.x,rfl⟩
def AJ5 (fuel:Nat) (a5 Ad:Int) (Ae:LiA) (Ab:Int) (Ac:LiI):Option ((Int × LiI) ⊕ ((LiI))):=
  (if Ab < (Ae.length:Int) then ((gI Ae Ab).bind fun Ag=>((gI Ac Ad).bind fun Af=>(if a5≠0 then (if a5≠0 then ((gI Af Ab).bind fun Ah=>(some (Sum.inl ((w64 (Ab + 1)),(sI Ac Ad (sI Af Ab (Int.tmod (w64 ((Int.tmod Ag a5) + a5)) a5))))))) else none) else none))) else (some (Sum.inr<| Ac)))
def AJ6 (fuel:Nat) (a3:LiI) (a5 Aa:Int) (Ac:LiI):Option ((Int × LiI) ⊕ ((LiI))):=
  (if Aa < (a3.length:Int) then ((gI a3 Aa).bind fun Ab=>(if 0<=(Ab.length:Int)/\(Ab.length:Int)<=100000000 then ((gI Ac Aa).bind fun Ag=>((iter (fun s=>AJ5 fuel a5 Aa Ab s.1 s.2) fuel (0,(sI Ac Aa (List.replicate (Int.toNat (Ab.length:Int)) (0:Int))))).bind (fun (Af:LiI)=>(some (Sum.inl ((w64 (Aa + 1)),Af)))))) else none)) else (some (Sum.inr<| Ac)))
def AHg (fuel:Nat) (a3:LiI) (a5:Int):Option LiI:=
  (if 0<=(a3.length:Int)/\(a3.length:Int)<=100000000 then ((iter (fun s=>AJ6 fuel a3 a5 s.1 s.2) fuel (0,(List.replicate (Int.toNat (a3.length:Int)) ([]:List Int)))).bind (fun (Ac:LiI)=>(some Ac))) else none)
theorem AM1 {fuel:Nat} {h:ABu} {Au:Value} {a3:LiI} {a5:Int} {r:LiI} (H2:AEq (cI .i64) h Au a3) (hp:AHg fuel a3 a5=some r):ACn Tryz.prog 92 #[Au,(.int .i64 a5)] h (fun x h'=>Ext h h'/\ ∃ (x0:Value) (F0:List Nat) (Bf:List LnA) (Bg:List Value),x=x0/\AFf (cI .i64) 35 2 h' F0 Bf Bg x0 r/\Sp h' h.size [F0]):=by
 unfold AHg at hp;refine cwf (l:=[_,_]) Tryz.func92 rfl rfl (ABp (AC1 (Wo (ADa ACi rfl H2 ?_))));obtain ⟨Bh,Bi⟩:=ifN hp;refine ASb (cI .i64) 2 ACi AN2 rfl trivial tt2 rfl rfl (by decide) Bh fun Bj Bl Bm Ax C9 Bn E8 S9=>ABv (ABr (ABp (Wo (ADa ACi rfl H2 (Wo (ABt (ABw ?_)))))));have Ay:=(Kst.k0 h).no2 E8 S9 Bn;obtain ⟨Az,Bq,Br⟩:=ABq Bi;obtain ⟨Bt,Bu,Bv⟩:=ACe Bq;refine ACq 281474976678848 (fun x:(Int) × (LiI) × LnA × LnN × LvA=>[(15,(.int .i64 x.1))]) (fun k x h'=>iter Bt k (x.1,x.2.1)=some Az/\Kst h h' (Ay.L.set 0 (aO2 (cI .i64) 35 2 x.2.2.1 x.2.2.2.1 x.2.2.2.2 Ax x.2.1))) (by kernel_rfl) fuel ((0,(List.replicate (Int.toNat (a3.length:Int)) ([]:List Int)),Bj,Bl,Bm):(Int) × (LiI) × LnA × LnN × LvA) ?_ ⟨rfl,trivial⟩ ?_
 ·exact ⟨Bv,Ay⟩
 rintro Da ⟨Ab,Bw,Db,A3,Bx⟩ Dc Dd ⟨By,Ad⟩;obtain ⟨Bz,De,rfl,Ae,Aj⟩:=AB7 By;rw [Bu] at Ae;dsimp only at Ae;unfold AJ6 at Ae;refine ABp (ACu rfl rfl (ABt (ABr (⟨_,rfl,fun Ak=>?_,fun Ak=>?_⟩))))
 ·refine ABy (q_t (ABr (ABw (ABp (Wo ?_)))));obtain ⟨B1,B3,B4⟩:=ABq (AC8 Ae Ak);refine AFg ACi rfl H2 rfl B3 fun Df Dg Dh B5 Am=>AB6 AC3 rfl (AB1 B5 Ad.x) (ACk (AC1 (Wo (Wo (Wo (ADh ACs rfl Am ?_))))));obtain ⟨B6,B7⟩:=ifN B4;refine ARb (c:=(cI .i64)) (a:=0) ACs AMw rfl rfl (fun _=>rfl) rfl trivial tt2 rfl rfl (by decide) B6 fun A4 B8 Di B9 Ca Cb Cd=>?_;have Af:=Ad.no Ca (AIj Cb Cd) B9;obtain ⟨Dj,A5,Ce⟩:=ABq B7;refine ADl ACi rfl (Af.o2 p1) rfl A5 fun Cf Dk Cg Dl Dn=>AS0 AC3 (Af.o2 p1) A5 Cg rfl rfl (Af.o p0) (Af.dj p0 p1 (by decide)) fun Do Ch Ci Cj=>AK0 (Wo (ADh ACs rfl Am (Wo (ABt (ABw ?_)))));obtain ⟨A6,Ck,Cm⟩:=ABq Ce;obtain ⟨Cn,Co,Cp⟩:=ACe Ck;have Ao:=(Af.m2 p0 p1 (by decide) Ci Ch (fun z hz=> .inl (Cj z hz))).sel [1] (by decide);dsimp only [AI3,AMm] at Ao;refine ACq 140737219920640 (fun x:(Int) × (LiI) × LnA × LnN × LvA=>[(28,(.int .i64 x.1))]) (fun k x h'=>iter Cn k (x.1,x.2.1)=some A6/\Kst h h' (Ao.L.set 0 (aO2 (cI .i64) 35 2 x.2.2.1 x.2.2.2.1 x.2.2.2.2 Ax x.2.1))) (by kernel_rfl) fuel ((0,(sI Bw Ab (List.replicate (Int.toNat (B1.length:Int)) (0:Int))),(Cf :: (A3.set (Int.toNat Ab) [A4]).flatten),(A3.set (Int.toNat Ab) [A4]),(Bx.set (Int.toNat Ab) B8)):(Int) × (LiI) × LnA × LnN × LvA) ?_ ⟨rfl,trivial⟩ ?_
  ·exact ⟨Cp,Ao⟩
  rintro Dp ⟨A7,A8,A9,Ba,Bb⟩ Dq Dr ⟨Cq,Ac⟩;obtain ⟨Cr,Ds,rfl,Ag,Ap⟩:=AB7 Cq;rw [Co] at Ag;dsimp only at Ag;unfold AJ5 at Ag;refine ABp (ACu rfl rfl (ABt (ABr (⟨_,rfl,fun Aq=>?_,fun Aq=>?_⟩))))
  ·refine ABy (q_t (ABr (ABw (ABp (Wo ?_)))));obtain ⟨Bc,Ct,Cu⟩:=ABq (AC8 Ag Aq);refine AHe (c:=(cI .i64)) ACs rfl Am rfl Ct fun Dt Du Dv Cv Cw=>?_;obtain rfl:=Cv;refine AB6 ACx rfl (AB1 (Cw 0 _ rfl) Ac.x) (ACk (ABv (AKm (Wo (Wo ?_)))));obtain ⟨Cx,Ar,Cy⟩:=ABq Cu;refine ADl ACi rfl (Ac.o2 p0) rfl Ar fun Dw Dx Dy Cz C0=>AB6 AC3 rfl C0 (Wo (Wo (Wo ?_)));obtain ⟨C1,C2⟩:=ifN Cy;refine AHh rfl rfl C1 (Wo (ACz rfl rfl (Wo ?_)));obtain ⟨C3,C4⟩:=ifN C2;refine AHh rfl rfl C3 ?_;obtain ⟨Dz,Be,C5⟩:=ABq C4;refine AD2 (m:=Ab) ACs rfl (Ac.o2 p0) Cz Ar rfl Be fun D0 C6=>AH9 (m:=Ab) (AG8 ACx rfl rfl rfl) (Ac.o2 p0) C6 Ar Be (show ((cI .i64)).rep _ (Int.tmod (w64 ((Int.tmod Bc a5) + a5)) a5) _ from rfl) fun D1 C7 C8=>ACr (q_b (q_t (AB5 (ACz rfl rfl (Wo (ABt ?_))))));obtain rfl:=ABo C5;exact ⟨Cr,(((w64 (A7 + 1)),(sI A8 Ab (sI Cx A7 (Int.tmod (w64 ((Int.tmod Bc a5) + a5)) a5))),A9,Ba,Bb):(Int) × (LiI) × LnA × LnN × LvA),Nat.lt_succ_self _,⟨Ap,(Ac.uO2 p0 C8 C7)⟩,rfl,trivial⟩
  ·obtain rfl:=ABo (AC9 Ag Aq);change _=A6 at Ap;subst Ap;refine ACh (ACj (ACj (ADo (q_b (q_t (AB5 (ACz rfl rfl (Wo (ABt ?_)))))))));obtain rfl:=ABo Cm;exact ⟨Bz,(((w64 (Ab + 1)),A8,A9,Ba,Bb):(Int) × (LiI) × LnA × LnN × LvA),Nat.lt_succ_self _,⟨Aj,Ac⟩,rfl,trivial⟩
 ·obtain rfl:=ABo (AC9 Ae Ak);change _=Az at Aj;subst Aj;refine ACh (ACj (ACj (ADo (q_t (ABp (Wo (ABv (ABx ?_))))))));obtain rfl:=ABo Br;exact ⟨_,ABz,Ad.x,_,_,_,_,rfl,(Ad.o2 p0),Ad.s.sel [0] (by decide)⟩
def AJm (fuel:Nat) (a3:LiI) (Ab Aa:Int) (Ac:LiI):Option ((Int × LiI) ⊕ ((LiI))):=
  (if Aa < (a3.length:Int) then ((gI a3 Aa).bind fun Af=>((gI Ac Ab).bind fun Ae=>((gI Af Ab).bind fun Ag=>((gI Ae Aa).bind fun Ah=>(some (Sum.inl ((w64 (Aa + 1)),(sI Ac Ab (sI Ae Aa Ag))))))))) else (some (Sum.inr<| Ac)))
def AJn (fuel:Nat) (a3:LiI) (x5:LiA) (Aa:Int) (Ac:LiI):Option ((Int × LiI) ⊕ ((LiI))):=
  (if Aa < ((List.replicate (Int.toNat (x5.length:Int)) ([]:List Int)).length:Int) then (if 0<=(a3.length:Int)/\(a3.length:Int)<=100000000 then ((gI Ac Aa).bind fun Af=>((iter (fun s=>AJm fuel a3 Aa s.1 s.2) fuel (0,(sI Ac Aa (List.replicate (Int.toNat (a3.length:Int)) (0:Int))))).bind (fun (Ae:LiI)=>(some (Sum.inl ((w64 (Aa + 1)),Ae)))))) else none) else (some (Sum.inr<| Ac)))
def AJb (fuel:Nat) (a3:LiI):Option LiI:=
  ((gI a3 0).bind fun x5=>(if 0<=(x5.length:Int)/\(x5.length:Int)<=100000000 then ((iter (fun s=>AJn fuel a3 x5 s.1 s.2) fuel (0,(List.replicate (Int.toNat (x5.length:Int)) ([]:List Int)))).bind (fun (Ac:LiI)=>(some Ac))) else none))
theorem AUa {fuel:Nat} {h:ABu} {Ar:Value} {a3 r:LiI} (H2:AEq (cI .i64) h Ar a3) (hp:AJb fuel a3=some r):ACn Tryz.prog 96 #[Ar] h (fun x h'=>Ext h h'/\ ∃ (x0:Value) (F0:List Nat) (Bc:List LnA) (Be:List Value),x=x0/\AFf (cI .i64) 35 2 h' F0 Bc Be x0 r/\Sp h' h.size [F0]):=by
 unfold AJb at hp;refine cwf (l:=[_]) Tryz.func96 rfl rfl (ABp (AC1 (Wo ?_)));have K0:=Kst.k0 h;obtain ⟨x5,Bg,Bh⟩:=ABq hp;refine AFg ACi rfl H2 rfl Bg fun b8 o9 Da Bi Bj=>AB6 AC3 rfl (AB1 Bi K0.x) (ADh ACs rfl Bj ?_);obtain ⟨Bl,Bm⟩:=ifN Bh;refine ASb (cI .i64) 2 ACi AN2 rfl trivial tt2 rfl rfl (by decide) Bl fun Bn Bo Bp v20 Db Bq Br Bt=>ABv (ABr (ABp (Wo ?_)));have Ai:=K0.no2 Br Bt Bq;refine ADa ACi rfl (Ai.o2 p0).rd (Wo (ABt (ABw ?_)));obtain ⟨Ax,Bu,Bv⟩:=ABq Bm;obtain ⟨Bw,Bx,By⟩:=ACe Bu;refine ACq 4398046494832 (fun x:(Int) × (LiI) × LnA × LnN × LvA=>[(14,(.int .i64 x.1))]) (fun k x h'=>iter Bw k (x.1,x.2.1)=some Ax/\Kst h h' (Ai.L.set 0 (aO2 (cI .i64) 35 2 x.2.2.1 x.2.2.2.1 x.2.2.2.2 v20 x.2.1))) (by kernel_rfl) fuel ((0,(List.replicate (Int.toNat (x5.length:Int)) ([]:List Int)),Bn,Bo,Bp):(Int) × (LiI) × LnA × LnN × LvA) ?_ ⟨rfl,trivial⟩ ?_
 ·exact ⟨By,Ai⟩
 rintro Dc ⟨Aa,Bz,Dd,Ay,B1⟩ De Df ⟨B3,Ag⟩;obtain ⟨B4,Dg,rfl,Ac,Aj⟩:=AB7 B3;rw [Bx] at Ac;dsimp only at Ac;unfold AJn at Ac;refine ABp (ACu rfl rfl (ABt (ABr (⟨_,rfl,fun Ak=>?_,fun Ak=>?_⟩))))
 ·refine ABy (q_t (ABr (ABw (ABp (Wo (AC1 (Wo (Wo (Wo (ADa ACi rfl H2 ?_))))))))));obtain ⟨B5,B6⟩:=ifN (AC8 Ac Ak);refine ARb (c:=(cI .i64)) (a:=0) ACs AMw rfl rfl (fun _=>rfl) rfl trivial tt2 rfl rfl (by decide) B5 fun Az B7 Dh B8 B9 Ca Cb=>?_;have Ad:=Ag.no B9 (AIj Ca Cb) B8;obtain ⟨Di,A3,Cd⟩:=ABq B6;refine ADl ACi rfl (Ad.o2 p1) rfl A3 fun Ce Dj Cf Dk Dl=>AS0 AC3 (Ad.o2 p1) A3 Cf rfl rfl (Ad.o p0) (Ad.dj p0 p1 (by decide)) fun Dn Cg Ch Ci=>AK0 (Wo (ADa ACi rfl H2 (Wo (ABt (ABw ?_)))));obtain ⟨A4,Cj,Ck⟩:=ABq Cd;obtain ⟨Cm,Cn,Co⟩:=ACe Cj;have Am:=(Ad.m2 p0 p1 (by decide) Ch Cg (fun z hz=> .inl (Ci z hz))).sel [1] (by decide);dsimp only [AI3,AMm] at Am;refine ACq 2198989701216 (fun x:(Int) × (LiI) × LnA × LnN × LvA=>[(25,(.int .i64 x.1))]) (fun k x h'=>iter Cm k (x.1,x.2.1)=some A4/\Kst h h' (Am.L.set 0 (aO2 (cI .i64) 35 2 x.2.2.1 x.2.2.2.1 x.2.2.2.2 v20 x.2.1))) (by kernel_rfl) fuel ((0,(sI Bz Aa (List.replicate (Int.toNat (a3.length:Int)) (0:Int))),(Ce :: (Ay.set (Int.toNat Aa) [Az]).flatten),(Ay.set (Int.toNat Aa) [Az]),(B1.set (Int.toNat Aa) B7)):(Int) × (LiI) × LnA × LnN × LvA) ?_ ⟨rfl,trivial⟩ ?_
  ·exact ⟨Co,Am⟩
  rintro Do ⟨A5,A6,A7,A8,A9⟩ Dp Dq ⟨Cp,Ab⟩;obtain ⟨Cq,Dr,rfl,Ae,Ao⟩:=AB7 Cp;rw [Cn] at Ae;dsimp only at Ae;unfold AJm at Ae;refine ABp (ACu rfl rfl (ABt (ABr (⟨_,rfl,fun Ap=>?_,fun Ap=>?_⟩))))
  ·refine ABy (q_t (ABr (ABw (ABp (Wo ?_)))));obtain ⟨Ds,Cr,Ct⟩:=ABq (AC8 Ae Ap);refine AFg ACi rfl H2 rfl Cr fun Dt Du Dv Cu Cv=>AB6 AC3 rfl (AB1 Cu Ab.x) (ACk (ABv (AKm (Wo (Wo ?_)))));obtain ⟨Cw,Aq,Cx⟩:=ABq Ct;refine ADl ACi rfl (Ab.o2 p0) rfl Aq fun Dw Dx Dy Cy Cz=>AB6 AC3 rfl Cz (Wo (Wo (Wo ?_)));obtain ⟨Ba,C0,C1⟩:=ABq Cx;refine AHe (c:=(cI .i64)) ACs rfl Cv rfl C0 fun Dz D0 D1 C2 C3=>?_;obtain rfl:=C2;refine AB6 ACx rfl (AB1 (C3 0 _ rfl) Ab.x) ?_;obtain ⟨D2,Bb,C4⟩:=ABq C1;refine AD2 (m:=Aa) ACs rfl (Ab.o2 p0) Cy Aq rfl Bb fun D3 C5=>AH9 (m:=Aa) (AG8 ACx rfl rfl rfl) (Ab.o2 p0) C5 Aq Bb (show ((cI .i64)).rep _ Ba _ from rfl) fun D4 C6 C7=>ACr (q_b (q_t (AB5 (ACz rfl rfl (Wo (ABt ?_))))));obtain rfl:=ABo C4;exact ⟨Cq,(((w64 (A5 + 1)),(sI A6 Aa (sI Cw A5 Ba)),A7,A8,A9):(Int) × (LiI) × LnA × LnN × LvA),Nat.lt_succ_self _,⟨Ao,(Ab.uO2 p0 C7 C6)⟩,rfl,trivial⟩
  ·obtain rfl:=ABo (AC9 Ae Ap);change _=A4 at Ao;subst Ao;refine ACh (ACj (ACj (ADo (q_b (q_t (AB5 (ACz rfl rfl (Wo (ABt ?_)))))))));obtain rfl:=ABo Ck;exact ⟨B4,(((w64 (Aa + 1)),A6,A7,A8,A9):(Int) × (LiI) × LnA × LnN × LvA),Nat.lt_succ_self _,⟨Aj,Ab⟩,rfl,trivial⟩
 ·obtain rfl:=ABo (AC9 Ac Ak);change _=Ax at Aj;subst Aj;refine ACh (ACj (ACj (ADo (q_t (ABp (Wo (ABv (ABx ?_))))))));obtain rfl:=ABo Bv;exact ⟨_,ABz,Ag.x,_,_,_,_,rfl,(Ag.o2 p0),Ag.s.sel [0] (by decide)⟩
def AKv (fuel:Nat) (a9 Ad Ag:Int) (Ae:LiA) (Aa:Int) (Ab:LiI):Option ((Int × LiI) ⊕ ((LiI))):=
  (if Aa < (Ae.length:Int) then ((gI Ae Aa).bind fun Ah=>((gI Ab Ad).bind fun Af=>((gI Af Aa).bind fun Ai=>(if a9≠0 then (some (Sum.inl ((w64 (Aa + 1)),(sI Ab Ad (sI Af Aa (Int.tmod (w64 (Ai + (w64 (Ag * Ah)))) a9)))))) else none)))) else (some (Sum.inr<| Ab)))
def AKw (fuel:Nat) (a7:LiI) (a9 Af:Int) (Ab:LiA) (Aa:Int) (Ac:LiI):Option ((Int × LiI) ⊕ ((LiI))):=
  (if Aa < (Ab.length:Int) then ((gI Ab Aa).bind fun Ag=>((gI a7 Aa).bind fun Ah=>((iter (fun s=>AKv fuel a9 Af Ag Ah s.1 s.2) fuel (0,Ac)).bind (fun (Ai:LiI)=>(some (Sum.inl ((w64 (Aa + 1)),Ai))))))) else (some (Sum.inr<| Ac)))
def AKx (fuel:Nat) (a3 a7:LiI) (a9 Aa:Int) (Ab:LiI):Option ((Int × LiI) ⊕ ((LiI))):=
  (if Aa < (a3.length:Int) then ((gI a3 Aa).bind fun Ag=>((gI a7 0).bind fun Ac=>(if 0<=(Ac.length:Int)/\(Ac.length:Int)<=100000000 then ((gI Ab Aa).bind fun Ai=>((iter (fun s=>AKw fuel a7 a9 Aa Ag s.1 s.2) fuel (0,(sI Ab Aa (List.replicate (Int.toNat (Ac.length:Int)) (0:Int))))).bind (fun (Ah:LiI)=>(some (Sum.inl ((w64 (Aa + 1)),Ah)))))) else none))) else (some (Sum.inr<| Ab)))
def AIw (fuel:Nat) (a3 a7:LiI) (a9:Int):Option LiI:=
  (if 0<=(a3.length:Int)/\(a3.length:Int)<=100000000 then ((iter (fun s=>AKx fuel a3 a7 a9 s.1 s.2) fuel (0,(List.replicate (Int.toNat (a3.length:Int)) ([]:List Int)))).bind (fun (Ad:LiI)=>(some Ad))) else none)
theorem AP6 {fuel:Nat} {h:ABu} {Az:Value} {a3:LiI} {A3:Value} {a7:LiI} {a9:Int} {r:LiI} (H2:AEq (cI .i64) h Az a3) (H6:AEq (cI .i64) h A3 a7) (hp:AIw fuel a3 a7 a9=some r):ACn Tryz.prog 95 #[Az,A3,(.int .i64 a9)] h (fun x h'=>Ext h h'/\ ∃ (x0:Value) (F0:List Nat) (Bw:List LnA) (Bx:List Value),x=x0/\AFf (cI .i64) 35 2 h' F0 Bw Bx x0 r/\Sp h' h.size [F0]):=by
 unfold AIw at hp;refine cwf (l:=[_,_,_]) Tryz.func95 rfl rfl (ABp (AC1 (Wo (ADa ACi rfl H2 ?_))));obtain ⟨By,Bz⟩:=ifN hp;refine ASb (cI .i64) 2 ACi AN2 rfl trivial tt2 rfl rfl (by decide) By fun B1 B3 B4 Ap Eb B5 B6 B7=>ABv (ABr (ABp (Wo (ADa ACi rfl H2 (Wo (ABt (ABw ?_)))))));have A8:=(Kst.k0 h).no2 B6 B7 B5;obtain ⟨A9,B8,B9⟩:=ABq Bz;obtain ⟨Ca,Cb,Cd⟩:=ACe B8;refine ACq 2361183241434822098688 (fun x:(Int) × (LiI) × LnA × LnN × LvA=>[(19,(.int .i64 x.1))]) (fun k x h'=>iter Ca k (x.1,x.2.1)=some A9/\Kst h h' (A8.L.set 0 (aO2 (cI .i64) 35 2 x.2.2.1 x.2.2.2.1 x.2.2.2.2 Ap x.2.1))) (by kernel_rfl) fuel ((0,(List.replicate (Int.toNat (a3.length:Int)) ([]:List Int)),B1,B3,B4):(Int) × (LiI) × LnA × LnN × LvA) ?_ ⟨rfl,trivial⟩ ?_
 ·exact ⟨Cd,A8⟩
 rintro Ec ⟨Aa,Ce,Ed,Ba,Cf⟩ Ee Ef ⟨Cg,Ac⟩;obtain ⟨Ch,Eg,rfl,Ae,Aq⟩:=AB7 Cg;rw [Cb] at Ae;dsimp only at Ae;unfold AKx at Ae;refine ABp (ACu rfl rfl (ABt (ABr (⟨_,rfl,fun Ar=>?_,fun Ar=>?_⟩))))
 ·refine ABy (q_t (ABr (ABw (ABp (Wo ?_)))));obtain ⟨Eh,Ci,Cj⟩:=ABq (AC8 Ae Ar);refine AFg ACi rfl H2 rfl Ci fun Ei Ej Ek Ck Bb=>AB6 AC3 rfl (AB1 Ck Ac.x) (ACk (AC1 (Wo (Wo (Wo ?_)))));obtain ⟨Cm,Cn,Co⟩:=ABq Cj;refine AFg ACi rfl H6 rfl Cn fun El Em En Cp Cq=>AB6 AC3 rfl (AB1 Cp Ac.x) (ADh ACs rfl Cq ?_);obtain ⟨Cr,Ct⟩:=ifN Co;refine ARb (c:=(cI .i64)) (a:=0) ACs AMw rfl rfl (fun _=>rfl) rfl trivial tt2 rfl rfl (by decide) Cr fun Bc Cu Eo Cv Cw Cx Cy=>?_;have Af:=Ac.no Cw (AIj Cx Cy) Cv;obtain ⟨Ep,Be,Cz⟩:=ABq Ct;refine ADl ACi rfl (Af.o2 p1) rfl Be fun C0 Er C1 Es Et=>AS0 AC3 (Af.o2 p1) Be C1 rfl rfl (Af.o p0) (Af.dj p0 p1 (by decide)) fun Eu C2 C3 C4=>AK0 (Wo (ADh ACs rfl Bb (Wo (ABt (ABw ?_)))));obtain ⟨Bf,C5,C6⟩:=ABq Cz;obtain ⟨C7,C8,C9⟩:=ACe C5;have Au:=(Af.m2 p0 p1 (by decide) C3 C2 (fun z hz=> .inl (C4 z hz))).sel [1] (by decide);dsimp only [AI3,AMm] at Au;refine ACq 1180591620700231449600 (fun x:(Int) × (LiI) × LnA × LnN × LvA=>[(34,(.int .i64 x.1))]) (fun k x h'=>iter C7 k (x.1,x.2.1)=some Bf/\Kst h h' (Au.L.set 0 (aO2 (cI .i64) 35 2 x.2.2.1 x.2.2.2.1 x.2.2.2.2 Ap x.2.1))) (by kernel_rfl) fuel ((0,(sI Ce Aa (List.replicate (Int.toNat (Cm.length:Int)) (0:Int))),(C0 :: (Ba.set (Int.toNat Aa) [Bc]).flatten),(Ba.set (Int.toNat Aa) [Bc]),(Cf.set (Int.toNat Aa) Cu)):(Int) × (LiI) × LnA × LnN × LvA) ?_ ⟨rfl,trivial⟩ ?_
  ·exact ⟨C9,Au⟩
  rintro Ev ⟨Da,Bg,Bh,Bi,Bj⟩ Ew Ey ⟨Db,Ag⟩;obtain ⟨Dc,Ez,rfl,Ah,Av⟩:=AB7 Db;rw [C8] at Ah;dsimp only at Ah;unfold AKw at Ah;refine ABp (ACu rfl rfl (ABt (ABr (⟨_,rfl,fun Aw=>?_,fun Aw=>?_⟩))))
  ·refine ABy (q_t (ABr (ABw (ABp (Wo ?_)))));obtain ⟨Bl,Dd,De⟩:=ABq (AC8 Ah Aw);refine AHe (c:=(cI .i64)) ACs rfl Bb rfl Dd fun Fa Fb Fc Df Dg=>?_;obtain rfl:=Df;refine AB6 ACx rfl (AB1 (Dg 0 _ rfl) Ag.x) (ACk (AC1 (Wo (Wo ?_))));obtain ⟨Fd,Dh,Di⟩:=ABq De;refine AFg ACi rfl H6 rfl Dh fun Fe Ff Fg Dj Bm=>AB6 AC3 rfl (AB1 Dj Ag.x) (ADh ACs rfl Bm (Wo (ABt (ABw ?_))));obtain ⟨Bn,Dk,Dl⟩:=ABq Di;obtain ⟨Dn,Do,Dp⟩:=ACe Dk;refine ACq 590295792766519619584 (fun x:(Int) × (LiI) × LnA × LnN × LvA=>[(44,(.int .i64 x.1))]) (fun k x h'=>iter Dn k (x.1,x.2.1)=some Bn/\Kst h h' (Ag.L.set 0 (aO2 (cI .i64) 35 2 x.2.2.1 x.2.2.2.1 x.2.2.2.2 Ap x.2.1))) (by kernel_rfl) fuel ((0,Bg,Bh,Bi,Bj):(Int) × (LiI) × LnA × LnN × LvA) ?_ ⟨rfl,trivial⟩ ?_
   ·exact ⟨Dp,Ag⟩
   rintro Fh ⟨Bo,Bp,Bq,Br,Bt⟩ Fi Fj ⟨Dq,Ab⟩;obtain ⟨Dr,Fk,rfl,Ai,Ax⟩:=AB7 Dq;rw [Do] at Ai;dsimp only at Ai;unfold AKv at Ai;refine ABp (ACu rfl rfl (ABt (ABr (⟨_,rfl,fun Ay=>?_,fun Ay=>?_⟩))))
   ·refine ABy (q_t (ABr (ABw (ABp (Wo ?_)))));obtain ⟨Bu,Ds,Dt⟩:=ABq (AC8 Ai Ay);refine AHe (c:=(cI .i64)) ACs rfl Bm rfl Ds fun Fl Fm Fo Du Dv=>?_;obtain rfl:=Du;refine AB6 ACx rfl (AB1 (Dv 0 _ rfl) Ab.x) (ACk (ABv (AKm (Wo (Wo ?_)))));obtain ⟨Dw,Ad,Dx⟩:=ABq Dt;refine ADl ACi rfl (Ab.o2 p0) rfl Ad fun Fp Fq Fr Dy Dz=>AB6 AC3 rfl Dz (Wo (Wo (Wo (ADl ACi rfl (Ab.o2 p0) rfl Ad fun Ft Fu Fv D0 D1=>AB6 AC3 rfl D1 (Wo ?_)))));obtain ⟨Bv,Ak,D2⟩:=ABq Dx;refine AD2 (m:=Aa) ACs rfl (Ab.o2 p0) D0 Ad rfl Ak fun Fw D3=>?_;obtain ⟨Fx,D4,D5⟩:=(Ab.o2 p0).cells D3 Ad Ak;obtain rfl:=D4;refine AB6 ACx rfl (D5 0 _ rfl) (Wo (Wo (AQ3 rfl rfl (ACz rfl rfl (Wo ?_)))));obtain ⟨D6,D7⟩:=ifN D2;refine AHh rfl rfl D6 (AD2 (m:=Aa) ACs rfl (Ab.o2 p0) Dy Ad rfl Ak fun Fy D8=>AH9 (m:=Aa) (AG8 ACx rfl rfl rfl) (Ab.o2 p0) D8 Ad Ak (show ((cI .i64)).rep _ (Int.tmod (w64 (Bv + (w64 (Bl * Bu)))) a9) _ from rfl) fun Fz D9 Ea=>ACr (q_b (q_t (AB5 (ACz rfl rfl (Wo (ABt ?_)))))));obtain rfl:=ABo D7;exact ⟨Dr,(((w64 (Bo + 1)),(sI Bp Aa (sI Dw Bo (Int.tmod (w64 (Bv + (w64 (Bl * Bu)))) a9))),Bq,Br,Bt):(Int) × (LiI) × LnA × LnN × LvA),Nat.lt_succ_self _,⟨Ax,(Ab.uO2 p0 Ea D9)⟩,rfl,trivial⟩
   ·obtain rfl:=ABo (AC9 Ai Ay);change _=Bn at Ax;subst Ax;refine ACh (ACj (ACj (ADo (q_b (q_t (AB5 (ACz rfl rfl (Wo (ABt ?_)))))))));obtain rfl:=ABo Dl;exact ⟨Dc,(((w64 (Da + 1)),Bp,Bq,Br,Bt):(Int) × (LiI) × LnA × LnN × LvA),Nat.lt_succ_self _,⟨Av,Ab⟩,rfl,trivial⟩
  ·obtain rfl:=ABo (AC9 Ah Aw);change _=Bf at Av;subst Av;refine ACh (ACj (ACj (ADo (q_b (q_t (AB5 (ACz rfl rfl (Wo (ABt ?_)))))))));obtain rfl:=ABo C6;exact ⟨Ch,(((w64 (Aa + 1)),Bg,Bh,Bi,Bj):(Int) × (LiI) × LnA × LnN × LvA),Nat.lt_succ_self _,⟨Aq,Ag⟩,rfl,trivial⟩
 ·obtain rfl:=ABo (AC9 Ae Ar);change _=A9 at Aq;subst Aq;refine ACh (ACj (ACj (ADo (q_t (ABp (Wo (ABv (ABx ?_))))))));obtain rfl:=ABo B9;exact ⟨_,ABz,Ac.x,_,_,_,_,rfl,(Ac.o2 p0),Ac.s.sel [0] (by decide)⟩
def AIs (fuel:Nat) (a3 a7:LiI) (a9:Int):Option (LiI × Int):=
  ((((AI2 fuel a3).bind fun Af=>(if (!Af)=true then (some (Sum.inl <| ([],3))) else ((AI2 fuel a7).bind fun Ag=>(if (!Ag)=true then (some (Sum.inl <| ([],3))) else ((gI a3 0).bind fun Ah=>(if ¬ (a3.length:Int)=(Ah.length:Int) then (some (Sum.inl <| ([],3))) else (if ¬ (a7.length:Int)=(a3.length:Int) then (some (Sum.inl <| ([],3))) else (some (Sum.inr <| ()))))))))):Option (((LiI × Int)) ⊕ (Unit))).bind (fun ex=>match ex with | Sum.inl Ai=>(some Ai) | Sum.inr (_)=>((AEp fuel a9).bind fun Ad=>(if ¬ Ad=0 then (some ([],Ad)) else ((AHg fuel a7 a9).bind fun Ae=>((AJb fuel Ae).bind fun Aj=>((AHg fuel a3 a9).bind fun Ak=>((AIw fuel Ak Ae a9).bind fun Am=>((AIw fuel Aj Am a9).bind fun Ao=>(some (Ao,0)))))))))))
theorem ATg {fuel:Nat} {h:ABu} {Ax:Value} {a3:LiI} {Ay:Value} {a7:LiI} {a9:Int} {r:(LiI × Int)} (H2:AEq (cI .i64) h Ax a3) (H6:AEq (cI .i64) h Ay a7) (hp:AIs fuel a3 a7 a9=some r):ACn Tryz.prog 53 #[Ax,Ay,(.int .i64 a9)] h (fun x h'=>Ext h h'/\ ∃ (x0:Value) (F0:List Nat) (Bg:List LnA) (Bh:List Value),x= .tuple #[x0,.int .i64 r.2]/\AFf (cI .i64) 35 2 h' F0 Bg Bh x0 r.1/\Sp h' h.size [F0]):=by
 unfold AIs at hp;refine cwf (l:=[_,_,_]) Tryz.func53 rfl rfl (ABp (ACk (ABv ?_)));have K0:=Kst.k0 h;obtain ⟨Bi,Bj,Ab⟩:=ABq hp;refine ALi 17179868352 (fun x:Unit=>[]) (fun x h'=>(Sum.inr <| ())=Bi/\Kst h h' (K0.L)) ?_ ?_
 ·refine ABp (Wo ?_);obtain ⟨Bl,Bm,A6⟩:=ABq Bj;refine ADb rfl (AOi (H2.ext K0.x) Bm) fun C2 C3 Bn Bo=>?_;subst Bo;refine AE1 rfl (Wo ?_);have Ah:=K0.e Bn;cases A7:(!Bl)
  ·refine AB3 13 false (Wo (AB3 13 false ?_));obtain ⟨Bp,Bq,A8⟩:=ABq (AH8 A6 A7);refine ADb rfl (AOi (H6.ext Ah.x) Bq) fun C4 C5 Br Bt=>?_;subst Bt;refine AB3 13 false (AE1 rfl (AB0 rfl (Wo ?_)));have Ac:=Ah.e Br;cases A9:(!Bp)
   ·refine AB3 18 false (Wo (AB3 18 false (ADa ACi rfl H2 (AB3 18 false (Wo (AB3 18 false ?_))))));obtain ⟨Bu,Bv,Ba⟩:=ABq (AH8 A8 A9);refine AFg ACi rfl H2 rfl Bv fun C6 C7 C8 Bw Bx=>AB3 18 false (AB6 AC3 rfl (AB1 Bw Ac.x) (AB3 18 false (ADh ACs rfl Bx (AB3 18 false (AEn rfl rfl (AB0 rfl (Wo ?_)))))));by_cases Ad: ¬ (a3.length:Int)=(Bu.length:Int)
    ·rw [decide_eq_true Ad];refine AFe 27 true (AB2 rfl (ABt (ACd rfl (ABp (ACk (ABv ?_))))));obtain rfl:=ABo (ifT Ba Ad);refine ABx (AB4 ?_);have Ai:=Kst.anil2 (cI .i64) 35 2 Ac;obtain rfl:=ABo Ab;exact ⟨_,ADj,Ai.x,_,_,_,_,rfl,(Ai.o2 p0),Ai.s.sel [0] (by decide)⟩
    ·have Bb:=ifF Ba Ad;rw [decide_eq_false Ad];refine AB3 27 false (Wo (AB3 27 false (ADa ACi rfl H6 (AB3 27 false (Wo (AB3 27 false (ADa ACi rfl H2 (AB3 27 false (AEn rfl rfl (AB0 rfl (ABt (⟨_,rfl,fun Aj=>?_,fun Aj=>?_⟩))))))))))))
     ·refine ABp (ACk (ABv ?_));obtain rfl:=ABo (AC8 Bb Aj);refine ABx (AB4 ?_);have Ak:=Kst.anil2 (cI .i64) 35 2 Ac;obtain rfl:=ABo Ab;exact ⟨_,ADj,Ak.x,_,_,_,_,rfl,(Ak.o2 p0),Ak.s.sel [0] (by decide)⟩
     ·refine ABy (q_t ?_);exact ⟨(():Unit),⟨ABo (AC9 Bb Aj),Ac⟩,trivial⟩
   ·refine AFe 18 true (AIg 18 true (AB2 rfl (Wo (AFe 27 true (AB2 rfl (ABt (ACd rfl (ABp (ACk (ABv ?_))))))))));obtain rfl:=ABo (ifT A8 A9);refine ABx (AB4 ?_);have Am:=Kst.anil2 (cI .i64) 35 2 Ac;obtain rfl:=ABo Ab;exact ⟨_,ADj,Am.x,_,_,_,_,rfl,(Am.o2 p0),Am.s.sel [0] (by decide)⟩
  ·refine AE2 13 true (AB2 rfl (Wo (AFe 18 true (AIg 18 true (AB2 rfl (Wo (AFe 27 true (AB2 rfl (ABt (ACd rfl (ABp (ACk (ABv ?_)))))))))))));obtain rfl:=ABo (ifT A6 A7);refine ABx (AB4 ?_);have Ao:=Kst.anil2 (cI .i64) 35 2 Ah;obtain rfl:=ABo Ab;exact ⟨_,ADj,Ao.x,_,_,_,_,rfl,(Ao.o2 p0),Ao.s.sel [0] (by decide)⟩
 rintro ⟨⟩ C9 Da ⟨By,Bz⟩;subst By;refine ABr (ABp (Wo ?_));obtain ⟨Db,B1,Bc⟩:=ABq Ab;refine ADb rfl (AN0 B1) fun Dc Dd B3 B4=>?_;subst B4;refine AC1 (Wo (AEn rfl rfl (ABt ?_)));have Ap:=Bz.e B3;refine ⟨_,rfl,fun Aq=>?_,fun Aq=>?_⟩
 ·refine ABp (Wo (ACk (ABv (ABx (AB4 ?_)))));have Ar:=Kst.anil2 (cI .i64) 35 2 Ap;obtain rfl:=ABo (AC8 Bc Aq);exact ⟨_,ADj,Ar.x,_,_,_,_,rfl,(Ar.o2 p0),Ar.s.sel [0] (by decide)⟩
 ·refine ABy (q_t (ABp (Wo (Wo ?_))));obtain ⟨De,B5,B6⟩:=ABq (AC9 Bc Aq);refine ADb rfl (AM1 (H6.ext Ap.x) B5) fun Df Dg B7 B8=>?_;obtain ⟨Dh,Di,Dj,Dk,rfl,B9,Ca⟩:=B8;refine AC1 (Wo ?_);have Be:=Ap.no2 B7 Ca B9;obtain ⟨Dl,Cb,Cd⟩:=ABq B6;refine ADb rfl (AUa (Be.o2 p0).rd Cb) fun Dn Do Ce Cf=>?_;obtain ⟨Dp,Dq,Dr,Ds,rfl,Cg,Ch⟩:=Cf;refine Wo (Wo ?_);have Bf:=Be.no2 Ce Ch Cg;obtain ⟨Dt,Ci,Cj⟩:=ABq Cd;refine ADb rfl (AM1 (H2.ext Bf.x) Ci) fun Du Dv Ck Cm=>?_;obtain ⟨Dw,Dx,Dy,Dz,rfl,Cn,Co⟩:=Cm;refine Wo (Wo ?_);have Au:=Bf.no2 Ck Co Cn;obtain ⟨D0,Cp,Cq⟩:=ABq Cj;refine ADb rfl (AP6 (Au.o2 p0).rd (Au.o2 p2).rd Cp) fun D1 D2 Cr Ct=>?_;obtain ⟨D3,D4,D5,D6,rfl,Cu,Cv⟩:=Ct;refine Wo ?_;have Av:=Au.no2 Cr Cv Cu;obtain ⟨D7,Cw,Cx⟩:=ABq Cq;refine ADb rfl (AP6 (Av.o2 p2).rd (Av.o2 p0).rd Cw) fun D8 D9 Cy Cz=>?_;obtain ⟨Ea,Eb,Ec,Ed,rfl,C0,C1⟩:=Cz;refine ACk (ABv (ABx ?_));have Aw:=Av.no2 Cy C1 C0;obtain rfl:=ABo Cx;exact ⟨_,ADj,Aw.x,_,_,_,_,rfl,(Aw.o2 p0),Aw.s.sel [0] (by decide)⟩
end Go.Proofs.YtdnbklmefmoofaaGreatDoor
namespace Go.Proofs.YtdnbklmefmoofaaGreatDoor
open Go Go.QF
set_option maxRecDepth 100000
theorem AGq {α β:Type} {L:List α} {n:Nat} {x:α} {f:α->Option β} (hx:L[n]? =some x):(gI L (n:Int)).bind f=f x:=by
 unfold gI;rw [if_pos (by omega),Int.toNat_natCast,hx];rfl
theorem AXn {α β:Type} {L:List α} {x:α} {f:α->Option β} (hx:L[0]? =some x):(gI L 0).bind f=f x:=AGq (n:=0) hx
theorem ADy {i:Nat} (h:i<=1000000000):w64 ((i:Int) + 1)=((i + 1:Nat):Int):=by rw [wk (by omega)];omega
theorem Aax {n i r:Nat} {G:Nat->Nat->Int} {g g':Nat->Int} (h:∀ c,c < n->g c=g' c):part n i (ADz G r g)=part n i (ADz G r g'):=by
 unfold part;refine ADk fun k _=>?_;split
 ·refine ADk fun c hc=>?_;by_cases hk:k=r
  ·subst hk;rw [ADq,ADq,h c hc]
  ·rw [AFq _ _ hk,AFq _ _ hk]
 ·rfl
theorem AXo {n i:Nat} {F:Nat->Nat->Int} {g:Nat->Int} (h:∀ c,c < n->g c=F i c):part n (i + 1) (ADz F i g)=part n (i + 1) F:=by
 rw [Aax h,AOr]
theorem Ads {body:Int × List (List Int)->Option ((Int × List (List Int)) ⊕ List (List Int))} {fuel n i:Nat} {G:Nat->Nat->Int} (v:Nat->Int) (hf:n < fuel)
    (hs:∀ (j:Nat) (g:Nat->Int),j < n->g j=G i j->body ((j:Int),part n (i + 1) (ADz G i g))=some (.inl (((j + 1:Nat):Int),part n (i + 1) (ADz G i fun c=>if c=j then v j else g c))))
    (he:∀ X,body ((n:Int),X)=some (.inr X)):iter body fuel (0,part n (i + 1) G)=some (part n (i + 1) (ADz G i v)):=by
  apply ok_eq
  refine AC4 (fun j s=>s=((j:Int),part n (i + 1) (ADz G i fun c=>if c < j then v c else G i c))) n ?_ hf fun j s hj hI=>?_
  · have:(fun c=>if c < 0 then v c else G i c)=G i:=funext fun c=>if_neg (by omega);rw [this,AOr];rfl
  · subst hI
    by_cases h:j < n
    · rw [hs j _ h (if_neg (by omega))];refine ABn ⟨h,?_⟩;refine congrArg (fun z=>(((j + 1:Nat):Int),part n (i + 1) (ADz G i z))) (funext fun c=>?_)
      by_cases h1:c=j
      · rw [if_pos h1,if_pos (by omega),h1]
      · rw [if_neg h1]
        by_cases h2:c < j
        · rw [if_pos h2,if_pos (by omega)]
        · rw [if_neg h2,if_neg (by omega)]
    · obtain rfl:j=n:=by omega
      rw [he];exact ABn (Aax fun c hc=>if_pos hc)
theorem AXp {body:Int × List (List Int)->Option ((Int × List (List Int)) ⊕ List (List Int))} {fuel n:Nat} (F:Nat->Nat->Int) (hf:n < fuel)
    (hs:∀ i:Nat,i < n->body ((i:Int),part n i F)=some (.inl (((i + 1:Nat):Int),part n (i + 1) F))) (he:∀ X,body ((n:Int),X)=some (.inr X)):iter body fuel (0,List.replicate n ([]:List Int))=some (tab n n F):=by
  apply ok_eq;refine AC4 (fun i s=>s=((i:Int),part n i F)) n (by rw [AOu n F];rfl) hf fun i s hi hI=>?_;subst hI
  by_cases h:i < n
  · rw [hs i h];exact ABn ⟨h,rfl⟩
  · obtain rfl:i=n:=by omega
    rw [he];exact ABn (AOt _ _)
theorem Akl {x m:Int} (hm:2<=m) (Ab:m<=2147483647):Int.tmod (w64 (Int.tmod x m + m)) m=x % m:=by
 have h1:=Int.tmod_lt_of_pos x (show 0 < m by omega);have h2:=Int.tmod_lt_of_pos (-x) (show 0 < m by omega);rw [Int.neg_tmod] at h2;rw [wk (by omega),Int.tmod_eq_emod_of_nonneg (by omega),Int.add_emod_right,Int.tmod_def,Int.sub_mul_emod_self_left]
theorem Ahb {fuel n:Nat} {F:Nat->Nat->Int} {m:Int} (hn:n<=8) (hm:2<=m) (Aa:m<=2147483647) (hf:100 < fuel):AHg fuel (tab n n F) m=some (tab n n fun i j=>F i j % m):=by
 unfold AHg;rw [ACt,if_pos (by omega),Int.toNat_natCast,AXp (n:=n) (fun i j=>F i j % m) (by omega) (fun i hi=>?_) fun X=>?_]
 ·rfl
 ·unfold AJ6;dsimp only;rw [ACt,if_pos (by omega),AGq (ACv hi),ACw,if_pos (by omega),AGq (APe hi),ADu,Int.toNat_natCast,AG4 n (0:Int),ANm,Ads (n:=n) (fun j=>F i j % m) (by omega) (fun j g hj hg=>?_) fun X=>?_]
  ·dsimp only [Option.bind_some];rw [ANs,AXo fun c _=>rfl,ADy (by omega)]
  ·unfold AJ5;dsimp only;rw [ACw,if_pos (by omega),AGq (ACp hj),AGq (AKu (by omega) hi),if_pos (by omega),if_pos (by omega),ADq,AGq (ACp hj),Akl hm Aa,ADu,ADu,AFs,AMq (by omega),ANs,ADy (by omega)]
  ·unfold AJ5;dsimp only;rw [ACw,if_neg (by omega)]
 ·unfold AJ6;dsimp only;rw [ACt,if_neg (by omega)]
theorem Aoe {fuel n:Nat} {F:Nat->Nat->Int} (Aa:1<=n) (hn:n<=8) (hf:100 < fuel):AJb fuel (tab n n F)=some (tab n n fun i j=>F j i):=by
 unfold AJb;rw [AXn (ACv (by omega)),ACw,if_pos (by omega),Int.toNat_natCast,AXp (n:=n) (fun i j=>F j i) (by omega) (fun i hi=>?_) fun X=>?_]
 ·rfl
 ·unfold AJn;dsimp only;rw [ACw,Int.toNat_natCast,List.length_replicate,if_pos (by omega),ACt,if_pos (by omega),AGq (APe hi),ADu,Int.toNat_natCast,AG4 n (0:Int),ANm,Ads (n:=n) (fun j=>F j i) (by omega) (fun j g hj hg=>?_) fun X=>?_]
  ·dsimp only [Option.bind_some];rw [ANs,AXo fun c _=>rfl,ADy (by omega)]
  ·unfold AJm;dsimp only;rw [ACt,if_pos (by omega),AGq (ACv hj),AGq (AKu (by omega) hi),AGq (ACp hi),ADq,AGq (ACp hj),ADu,ADu,AFs,AMq (by omega),ANs,ADy (by omega)]
  ·unfold AJm;dsimp only;rw [ACt,if_neg (by omega)]
 ·unfold AJn;dsimp only;rw [ACw,Int.toNat_natCast,List.length_replicate,if_neg (by omega)]
def Atq (n:Nat) (m:Int) (F:Nat->Nat->Int):Prop:= ∀ i j,i < n->j < n->0<=F i j/\F i j < m
theorem Ahc {m:Int} {f:Nat->Int} {k:Nat} {x y:Int} (hm:2<=m) (Aa:m<=2147483647) (hx:0<=x/\x < m) (hy:0<=y/\y < m) (hf:f k=x * y):Int.tmod (w64 (psum f k % m + (w64 (x * y)))) m=psum f (k + 1) % m:=by
 have h0:=Int.mul_nonneg hx.1 hy.1;have h1:x * y<=2147483646 * 2147483646:=Int.mul_le_mul (by omega) (by omega) hy.1 (by omega);have h2:=Int.emod_nonneg (psum f k) (show m≠0 by omega);have h3:=Int.emod_lt_of_pos (psum f k) (show 0 < m by omega);rw [AFr (x:=x * y) (by omega) (by omega),wk (by omega),Int.tmod_eq_emod_of_nonneg (by omega),<- hf,Ajg]
theorem Ai2 {fuel n:Nat} {F G:Nat->Nat->Int} {m:Int} (Ab:1<=n) (hn:n<=8) (hm:2<=m) (Aa:m<=2147483647) (hF:Atq n m F) (hG:Atq n m G) (hf:100 < fuel):AIw fuel (tab n n F) (tab n n G) m=some (tab n n fun i j=>psum (fun k=>F i k * G k j) n % m):=by
 unfold AIw;rw [ACt,if_pos (by omega),Int.toNat_natCast,AXp (n:=n) (fun i j=>psum (fun k=>F i k * G k j) n % m) (by omega) (fun i hi=>?_) fun X=>?_]
 ·rfl
 ·unfold AKx;dsimp only;rw [ACt,if_pos (by omega),AGq (ACv hi),AXn (ACv (by omega)),ACw,if_pos (by omega),AGq (APe hi),ADu,Int.toNat_natCast,AG4 n (0:Int),ANm]
  have key:∀ X,iter (fun s=>AKw fuel (tab n n G) m i (AEj n (F i)) s.1 s.2) fuel (0,part n (i + 1) (ADz X i fun _=>0))=some (part n (i + 1) (ADz X i fun j=>psum (fun k=>F i k * G k j) n % m)):=fun X=>by
    apply ok_eq
    refine AC4 (fun k s=>s=((k:Int),part n (i + 1) (ADz X i fun j=>psum (fun k=>F i k * G k j) k % m))) n ?_ (by omega) fun k s hk hI=>?_
    · refine congrArg (fun z=>((0:Int),part n (i + 1) (ADz X i z))) (funext fun c=>?_)
      show 0=0 % m
      rw [Int.zero_emod]
    · subst hI
      unfold AKw
      dsimp only
      rw [ACw]
      by_cases h:k < n
      · rw [if_pos (by omega),AGq (ACp h),AGq (ACv h),Ads (n:=n) (fun j=>psum (fun k=>F i k * G k j) (k + 1) % m) (by omega) (fun j g hj hg=>?_) fun X=>?_]
        · dsimp only [Option.bind_some]
          rw [ANs,ADy (by omega)]
          exact ABn ⟨h,rfl⟩
        · unfold AKv
          dsimp only
          rw [ACw,if_pos (by omega),AGq (ACp hj),AGq (AKu (by omega) hi),ADq,AGq (ACp hj),if_pos (by omega),hg,ADq,Ahc (f:=fun k=>F i k * G k j) hm Aa (hF i k hi h) (hG k j h hj) rfl,ADu,ADu,AFs,AMq (by omega),ANs,ADy (by omega)]
        · unfold AKv
          dsimp only
          rw [ACw,if_neg (by omega)]
      · obtain rfl:k=n:=by omega
        rw [if_neg (by omega)]
        exact ABn rfl
  rw [key];dsimp only [Option.bind_some];rw [AXo fun c _=>rfl,ADy (by omega)]
 ·unfold AKx;dsimp only;rw [ACt,if_neg (by omega)]
end Go.Proofs.YtdnbklmefmoofaaGreatDoor
namespace Go.Proofs.YtdnbklmefmoofaaGreatDoor
open Go Go.QF
set_option maxRecDepth 100000
set_option maxHeartbeats 4000000
def ANt (fuel:Nat) (Ac Ad Af:Int) (Ag:LiA) (Ah Ai Aa:Int) (Ab:LiI):Option ((Int × LiI) ⊕ ((LiI))):=
  (if Aa < (Ag.length:Int) then ((gI Ab Af).bind fun Aj=>((gI Aj Aa).bind fun Ak=>((gI Ab Ad).bind fun Ae=>((gI Ae Aa).bind fun Am=>(if Ac≠0 then (some (Sum.inl ((w64 (Aa + 1)),(sI Ab Ad (sI Ae Aa (Int.tmod (w64 (Am + (w64 ((w64 (Ac - (w64 (Int.tdiv Ai Ah)))) * Ak)))) Ac)))))) else none))))) else (some (Sum.inr<| Ab)))
def ANu (fuel:Nat) (Ah Aa Ab Af:Int) (Ac:LiI):Option ((Int × LiI) ⊕ ((Int × LiI))):=
  ((gI Ac Ab).bind fun Ag=>((gI Ag Aa).bind fun Ad=>(if ¬ Ad=0 then ((gI Ac Aa).bind fun Ai=>((gI Ai Aa).bind fun Aj=>(if Ad≠0 then ((((iter (fun s=>ANt fuel Ah Aa Ab Ag Ad Aj s.1 s.2) fuel (0,Ac)).bind (fun (Ak:LiI)=>(some ( Ak)))):Option (LiI)).bind fun Ae=>((gI Ae Ab).bind fun Am=>((gI Ae Aa).bind fun Ao=>(some (Sum.inl ((w64 (0 - Af)),(sI (sI Ae Aa Am) Ab Ao))))))) else none))) else (some (Sum.inr<| (Af,Ac))))))
def APp (fuel:Nat) (Ad Ae Ac Aa:Int) (Ab:LiI):Option ((Int × Int × LiI) ⊕ ((Int × LiI))):=
  (if Aa < (Ab.length:Int) then ((iter (fun s=>ANu fuel Ad Ae Aa s.1 s.2) fuel (Ac,Ab)).bind (fun ((Af,Ag):Int × LiI)=>(some (Sum.inl (Af,(w64 (Aa + 1)),Ag))))) else (some (Sum.inr<| (Ac,Ab))))
def APq (fuel:Nat) (Ad:LiI) (Ae Ab Aa:Int) (Ac:LiI):Option ((Int × Int × LiI) ⊕ ((Int × LiI))):=
  (if Aa < (Ad.length:Int) then ((iter (fun s=>APp fuel Ae Aa s.1 s.2.1 s.2.2) fuel (Ab,(w64 (Aa + 1)),Ac)).bind (fun ((Af,Ag):Int × LiI)=>(some (Sum.inl (Af,(w64 (Aa + 1)),Ag))))) else (some (Sum.inr<| (Ab,Ac))))
def APr (fuel:Nat) (a5:Int) (Ac:LiI) (Ad Ab:Int):Option ((Int × Int) ⊕ ((Int))):=
  (if Ab < (Ac.length:Int) then ((gI Ac Ab).bind fun Ae=>(if a5≠0 then ((gI Ae Ab).bind fun Af=>(if a5≠0 then (some (Sum.inl ((Int.tmod (w64 ((Int.tmod Ad a5) * Af)) a5),(w64 (Ab + 1))))) else none)) else none)) else (some (Sum.inr<| Ad)))
def AOc (fuel:Nat) (a3:LiI) (a5:Int):Option (Int × Int):=
  ((AMr fuel a3).bind fun x6=>(if (!x6)=true then (some (0,3)) else ((AEp fuel a5).bind fun Ac=>(if ¬ Ac=0 then (some (0,Ac)) else ((AHg fuel a3 a5).bind fun Ad=>(((((some ( a5)):Option (Int)).bind fun Af=>((iter (fun s=>APq fuel Ad Af s.1 s.2.1 s.2.2) fuel (1,0,Ad)).bind (fun ((Ag,Ah):Int × LiI)=>(some ( (Ag,Ah)))))):Option (Int × LiI)).bind fun (Ai,Aj)=>((iter (fun s=>APr fuel a5 Aj s.1 s.2) fuel ((w64 (Ai + a5)),0)).bind (fun (Ak:Int)=>(some (Ak,0))))))))))
theorem AYh {fuel:Nat} {h:ABu} {Bq:Value} {a3:LiI} {a5:Int} {r:(Int × Int)} (H2:AEq (cI .i64) h Bq a3) (hp:AOc fuel a3 a5=some r):ACn Tryz.prog 51 #[Bq,(.int .i64 a5)] h (fun x h'=>Ext h h'/\x= .tuple #[.int .i64 r.1,.int .i64 r.2]):=by
 unfold AOc at hp;refine cwf (l:=[_,_]) Tryz.func51 rfl rfl (ABp (ACk (ABv (ABr (ABp (Wo ?_))))));have K0:=Kst.k0 h;obtain ⟨x6,Cy,Bv⟩:=ABq hp;refine ADb rfl (AWl (H2.ext K0.x) Cy) fun Hl Hm E9 C0=>?_;subst C0;refine AE1 rfl (ABt ?_);have Bw:=K0.e E9;refine ⟨_,rfl,fun Ay=>?_,fun Ay=>?_⟩
 ·refine ABp (ACk (ABv (ABx (AB4 ?_))));obtain rfl:=ABo (ifT Bv Ay);exact ⟨_,ADj,Bw.x,rfl⟩
 ·refine ABy (q_t (ABr (ABp (Wo ?_))));obtain ⟨Hn,C1,Bx⟩:=ABq (AH8 Bv Ay);refine ADb rfl (AN0 C1) fun Ho Hq C2 C3=>?_;subst C3;refine AC1 (Wo (AEn rfl rfl (ABt ?_)));have Az:=Bw.e C2;refine ⟨_,rfl,fun A3=>?_,fun A3=>?_⟩
  ·refine ABp (Wo (ACk (ABv (ABx (AB4 ?_)))));obtain rfl:=ABo (AC8 Bx A3);exact ⟨_,ADj,Az.x,rfl⟩
  ·refine ABy (q_t (ABp (Wo (Wo ?_))));obtain ⟨C4,C5,C6⟩:=ABq (AC9 Bx A3);refine ADb rfl (AM1 (H2.ext Az.x) C5) fun Af Hr C7 C8=>?_;obtain ⟨Hs,C9,Da,Db,rfl,Dc,Dd⟩:=C8;refine AC1 (Wo (Wo ?_));have A4:=Az.no2 C7 Dd Dc;obtain ⟨De,Df,Dg⟩:=ABq C6;refine ACl (K':=(fun xr h'=> ∃ x:(Int) × (LiI) × LnA × LnN × LvA,(x.1,x.2.1)=De/\xr=(.int .i64 x.1)/\Kst h h' (A4.L.set 0 (aO2 (cI .i64) 35 2 x.2.2.1 x.2.2.2.1 x.2.2.2.2 Af x.2.1)))) trivial rfl ?_ fun Ht Hu Dh=>?_
   ·refine cwf (l:=[_,_]) Tryz.func93 rfl rfl (ABp (AC1 (Wo ?_)));obtain ⟨Di,Dj,Dk⟩:=ABq Df;refine ACl (K':=(fun xr h'=> ∃ x:(Nat) × (Int),x.2=Di/\xr=(.func (.func 158) #[] #[(.pointer (some ⟨x.1,0,none⟩))])/\Kst h h' (aB 2 x.1 [(.int .i64 x.2)] :: A4.L))) trivial rfl ?_ fun Hv Hw Dl=>?_
    ·refine cwf (l:=[_]) Tryz.func140 rfl rfl (ABp (AGo [(.int .i64 a5)] trivial tt2 rfl rfl fun Dn Hx Do Dp Dq=>AC1 (Ar0 rfl (ABv (ABx (⟨_,ABz,((Dn,a5):(Nat) × (Int)),?_,rfl,?_⟩))))))
     ·exact ABo Dj
     ·exact (A4.nb Dp Dq Do)
    obtain ⟨⟨Dr,Ao⟩,Ds,rfl,A5⟩:=Dl;refine ⟨trivial,?_⟩;subst Ds;refine AC1 (ABv (ABr (ABp (Wo (ADa ACi rfl (A5.o2 p1).rd (Wo (ABt (ABw ?_))))))));obtain ⟨By,Dt,Du⟩:=ABq Dk;obtain ⟨Dv,Dw,Dx⟩:=ACe Dt;refine ACq 18889465931478580847040 (fun x:(Int) × (Int) × (LiI) × LnA × LnN × LvA=>[(6,(.int .i64 x.1)),(13,(.int .i64 x.2.1))]) (fun k x h'=>iter Dv k (x.1,x.2.1,x.2.2.1)=some By/\Kst h h' (A5.L.set 1 (aO2 (cI .i64) 35 2 x.2.2.2.1 x.2.2.2.2.1 x.2.2.2.2.2 Af x.2.2.1))) (by kernel_rfl) fuel ((1,0,C4,C9,Da,Db):(Int) × (Int) × (LiI) × LnA × LnN × LvA) ?_ ⟨rfl,rfl,trivial⟩ ?_
    ·exact ⟨Dx,A5⟩
    rintro Hy ⟨Bz,Ac,B1,B3,B4,B5⟩ Hz H5 ⟨Dy,A6⟩;obtain ⟨Dz,H9,rfl,Ag,A7⟩:=AB7 Dy;rw [Dw] at Ag;dsimp only at Ag;unfold APq at Ag;refine ABp (ACu rfl rfl (ABt (ABr (⟨_,rfl,fun A8=>?_,fun A8=>?_⟩))))
    ·refine ABy (q_t (ABr (ABw (ABp (Wo (AC1 (Wo (ACz rfl rfl (ABv (ABw ?_))))))))));obtain ⟨B6,D0,D1⟩:=ABq (AC8 Ag A8);obtain ⟨D2,D3,D4⟩:=ACe D0;refine ACq 9444732965739290165568 (fun x:(Int) × (Int) × (LiI) × LnA × LnN × LvA=>[(6,(.int .i64 x.1)),(8,(.int .i64 x.2.1))]) (fun k x h'=>iter D2 k (x.1,x.2.1,x.2.2.1)=some B6/\Kst h h' (A6.L.set 1 (aO2 (cI .i64) 35 2 x.2.2.2.1 x.2.2.2.2.1 x.2.2.2.2.2 Af x.2.2.1))) (by kernel_rfl) fuel ((Bz,(w64 (Ac + 1)),B1,B3,B4,B5):(Int) × (Int) × (LiI) × LnA × LnN × LvA) ?_ ⟨rfl,rfl,trivial⟩ ?_
     ·exact ⟨D4,A6⟩
     rintro Ia ⟨B7,Ah,B8,B9,Ca,Cb⟩ Ib Ic ⟨D5,Ap⟩;obtain ⟨D6,Id,rfl,Ai,A9⟩:=AB7 D5;rw [D3] at Ai;dsimp only at Ai;unfold APp at Ai;refine ABr (ABp (Wo (Wo (ADa ACi rfl (Ap.o2 p1).rd (ACu rfl rfl (ABt (⟨_,rfl,fun Ba=>?_,fun Ba=>?_⟩)))))))
     ·refine ABy (q_t (ABr (ABw (ABw ?_))));obtain ⟨Cd,D7,D8⟩:=ABq (AC8 Ai Ba);obtain ⟨D9,Ea,Eb⟩:=ACe D7;refine ACq 9444732965739273650240 (fun x:(Int) × (LiI) × LnA × LnN × LvA=>[(6,(.int .i64 x.1))]) (fun k x h'=>iter D9 k (x.1,x.2.1)=some Cd/\Kst h h' (Ap.L.set 1 (aO2 (cI .i64) 35 2 x.2.2.1 x.2.2.2.1 x.2.2.2.2 Af x.2.1))) (by kernel_rfl) fuel ((B7,B8,B9,Ca,Cb):(Int) × (LiI) × LnA × LnN × LvA) ?_ ⟨rfl,trivial⟩ ?_
      ·exact ⟨Eb,Ap⟩
      rintro Ie ⟨Ce,Cf,Bb,Bc,Be⟩ If Ih ⟨Ec,Aa⟩;obtain ⟨Ed,Ii,rfl,Aq,Bf⟩:=AB7 Ec;rw [Ea] at Aq;dsimp only at Aq;unfold ANu at Aq;refine ABr (ABp (Wo (Wo ?_)));obtain ⟨Ij,Ad,Ee⟩:=ABq Aq;refine ADl ACi rfl (Aa.o2 p1) rfl Ad fun Ik Il Im Ef Eg=>AB6 AC3 rfl Eg (Wo ?_);obtain ⟨Bg,Ar,Cg⟩:=ABq Ee;refine AD2 (m:=Ah) ACs rfl (Aa.o2 p1) Ef Ad rfl Ar fun Io Eh=>?_;obtain ⟨Ip,Ei,Ej⟩:=(Aa.o2 p1).cells Eh Ad Ar;obtain rfl:=Ei;refine AB6 ACx rfl (Ej 0 _ rfl) (AEn rfl rfl (ABt (⟨_,rfl,fun Bh=>?_,fun Bh=>?_⟩)))
      ·refine ABy (q_t (ABw (ABr (AKm (Wo (Wo (Wo ?_)))))));obtain ⟨Iq,Au,Ek⟩:=ABq (AC8 Cg Bh);refine ADl ACi rfl (Aa.o2 p1) rfl Au fun Ir El Is Ch Em=>AB6 AC3 rfl Em (Wo (Wo (ADl ACi rfl (Aa.o2 p1) rfl Ad fun It En Iu Ci Eo=>AB6 AC3 rfl Eo (Wo (Wo (ADl ACi rfl (Aa.o2 p1) rfl Au fun Iv Iw Ix Ep Er=>AB6 AC3 rfl Er (Wo ?_)))))));obtain ⟨Bi,Cj,Es⟩:=ABq Ek;refine AD2 (m:=Ac) ACs rfl (Aa.o2 p1) Ep Au rfl Cj fun Iy Et=>?_;obtain ⟨Iz,Eu,Ev⟩:=(Aa.o2 p1).cells Et Au Cj;obtain rfl:=Eu;refine AB6 ACx rfl (Ev 0 _ rfl) (Wo (Wo (ADl ACi rfl (Aa.o2 p1) rfl Ad fun I0 I1 I2 Ew Ey=>AB6 AC3 rfl Ey (Wo (AD2 (m:=Ah) ACs rfl (Aa.o2 p1) Ew Ad rfl Ar fun I3 Ez=>?_)))));obtain ⟨I5,Fa,Fb⟩:=(Aa.o2 p1).cells Ez Ad Ar;obtain rfl:=Fa;refine AB6 ACx rfl (Fb 0 _ rfl) ?_;obtain ⟨Fc,Fd⟩:=ifN Es;refine AWq rfl rfl Fc ?_;obtain ⟨Fe,Ff,Fg⟩:=ABq Fd;refine AY0 (l:=[El,En,(.int .i64 (w64 (Int.tdiv Bi Bg)))]) (cl:=[(.pointer (some ⟨Dr,0,none⟩))]) (K':=(fun xr h'=> ∃ x:(LiI),x=Fe/\xr= .tuple #[]/\Kst h h' (Aa.L.set 1 (aO2 (cI .i64) 35 2 Bb Bc Be Af x)))) trivial rfl rfl ?_ fun I6 I7 Fh=>?_
       ·refine cwf (l:=[_,_,_,_]) Tryz.func158 rfl rfl (ABp (Wo (ADh ACs rfl ((Aa.o2 p1).rowI Ci Ad) (Wo (ABt (ABw ?_))))));obtain ⟨Ck,Fi,Fj⟩:=ABq Ff;obtain ⟨Fk,Fl,Fm⟩:=ACe Fi;refine ACq 4294965632 (fun x:(Int) × (LiI)=>[(11,(.int .i64 x.1))]) (fun k x h'=>iter Fk k (x.1,x.2)=some Ck/\Kst h h' (Aa.L.set 1 (aO2 (cI .i64) 35 2 Bb Bc Be Af x.2))) (by kernel_rfl) fuel ((0,Cf):(Int) × (LiI)) ?_ ⟨rfl,trivial⟩ ?_
        ·exact ⟨Fm,Aa⟩
        rintro I9 ⟨Cm,Cn⟩ Ja Jc ⟨Fo,Ab⟩;obtain ⟨Fp,Je,rfl,Aj,Bj⟩:=AB7 Fo;rw [Fl] at Aj;dsimp only at Aj;unfold ANt at Aj;refine ABp (ACu rfl rfl (ABt (ABr (⟨_,rfl,fun Bl=>?_,fun Bl=>?_⟩))))
        ·refine ABy (q_t (ABr (ABw (ABp (Wo ?_)))));obtain ⟨Jf,Co,Fq⟩:=ABq (AC8 Aj Bl);obtain ⟨Cp,Cq,Fr⟩:=ABq Fq;refine AD2 (m:=Ah) ACs rfl (Ab.o2 p1) Ci Co rfl Cq fun Jg Ft=>?_;obtain ⟨Jh,Fu,Fv⟩:=(Ab.o2 p1).cells Ft Co Cq;obtain rfl:=Fu;refine AB6 ACx rfl (Fv 0 _ rfl) (ACk (ABv (AKm (Wo (Wo (Wo (Wo ?_)))))));obtain ⟨Fw,Av,Fx⟩:=ABq Fr;obtain ⟨Cr,Aw,Fy⟩:=ABq Fx;refine AD2 (m:=Ac) ACs rfl (Ab.o2 p1) Ch Av rfl Aw fun Ji Fz=>?_;obtain ⟨Jj,F4,F5⟩:=(Ab.o2 p1).cells Fz Av Aw;obtain rfl:=F4;refine AB6 ACx rfl (F5 0 _ rfl) (AB6 ACx rfl ((Ab.b p0).cell (i:=0) rfl) (Wo (AIf rfl rfl (Wo (AQ3 rfl rfl (ACz rfl rfl (AB6 ACx rfl ((Ab.b p0).cell (i:=0) rfl) ?_)))))));obtain ⟨F6,F7⟩:=ifN Fy;refine AHh rfl rfl F6 (AD2 (m:=Ac) ACs rfl (Ab.o2 p1) Ch Av rfl Aw fun Jk F8=>AH9 (m:=Ac) (AG8 ACx rfl rfl rfl) (Ab.o2 p1) F8 Av Aw (show ((cI .i64)).rep _ (Int.tmod (w64 (Cr + (w64 ((w64 (Ao - (w64 (Int.tdiv Bi Bg)))) * Cp)))) Ao) _ from rfl) fun Jl F9 Ga=>ACr (q_b (q_t (AB5 (ACz rfl rfl (Wo (ABt ?_)))))));obtain rfl:=ABo F7;exact ⟨Fp,(((w64 (Cm + 1)),(sI Cn Ac (sI Fw Cm (Int.tmod (w64 (Cr + (w64 ((w64 (Ao - (w64 (Int.tdiv Bi Bg)))) * Cp)))) Ao)))):(Int) × (LiI)),Nat.lt_succ_self _,⟨Bj,(Ab.uO2 p1 Ga F9)⟩,rfl,trivial⟩
        ·obtain rfl:=ABo (AC9 Aj Bl);change _=Ck at Bj;subst Bj;refine ACh (ACj (ACj (ADo (⟨_,Ai7,(Cn:(LiI)),?_,rfl,?_⟩))))
         ·exact ABo Fj
         ·exact Ab
       obtain ⟨Gb,Gc,rfl,Ax⟩:=Fh;refine ⟨trivial,?_⟩;subst Gc;refine ABt (ABr (AKm (Wo (Wo (Wo (Wo (Wo (Wo ?_))))))));obtain ⟨Gd,Ct,Ge⟩:=ABq Fg;refine ADl ACi rfl (Ax.o2 p1) rfl Ct fun Jm Jn Jo Gf Gg=>AB6 AC3 rfl Gg (Wo (Wo ?_));obtain ⟨Gh,Cu,Gi⟩:=ABq Ge;refine ADl ACi rfl (Ax.o2 p1) rfl Cu fun Jp Jq Jr Gj Gk=>AB6 AC3 rfl Gk (ATw ACi AC3 (Ax.o2 p1) Gj Gf Cu Ct rfl rfl (fun _=>rfl) (fun _=>rfl) (fun _=>rfl) (fun _ _=>rfl) fun Js Jt Gl Gm Gn Ju Gp Gq Gr=>ABt (AB5 (Wo (AVw rfl (ACk (ACr (q_b (q_t ?_))))))));obtain rfl:=ABo Gi;exact ⟨Ed,(((w64 (0 - Ce)),(sI (sI Gb Ac Gd) Ah Gh),Gl,Gm,Gn):(Int) × (LiI) × LnA × LnN × LvA),Nat.lt_succ_self _,⟨Bf,(Ax.uo2 p1 Gq Gp Gr)⟩,rfl,trivial⟩
      ·obtain rfl:=ABo (AC9 Cg Bh);change _=Cd at Bf;subst Bf;refine ACh (ACj (ACj (ADo (q_b (q_t (AB5 (Wo (ACz rfl rfl (ABv ?_)))))))));obtain rfl:=ABo D8;exact ⟨D6,((Ce,(w64 (Ah + 1)),Cf,Bb,Bc,Be):(Int) × (Int) × (LiI) × LnA × LnN × LvA),Nat.lt_succ_self _,⟨A9,Aa⟩,rfl,rfl,trivial⟩
     ·obtain rfl:=ABo (AC9 Ai Ba);change _=B6 at A9;subst A9;refine ACh (ACj (ACj (ADo (q_b (q_t (AB5 (ACz rfl rfl (Wo (ABt ?_)))))))));obtain rfl:=ABo D1;exact ⟨Dz,((B7,(w64 (Ac + 1)),B8,B9,Ca,Cb):(Int) × (Int) × (LiI) × LnA × LnN × LvA),Nat.lt_succ_self _,⟨A7,Ap⟩,rfl,rfl,trivial⟩
    ·obtain rfl:=ABo (AC9 Ag A8);change _=By at A7;subst A7;refine ACh (ACj (ACj (ADo (q_t (ABp (Wo (ABv (ABx (⟨_,ABz,((Bz,B1,B3,B4,B5):(Int) × (LiI) × LnA × LnN × LvA),?_,rfl,?_⟩)))))))))
     ·exact ABo Du
     ·exact A6.sel [1] (by decide)
   obtain ⟨⟨Gt,Jv,Jw,Jx,Jy⟩,Gu,rfl,Bm⟩:=Dh;refine ⟨trivial,?_⟩;subst Gu;refine Wo (ACz rfl rfl (ABv (ABr (ABp (Wo (ADa ACi rfl (Bm.o2 p0).rd (Wo (ABt (ABw ?_)))))))));obtain ⟨Cv,Gv,Gw⟩:=ABq Dg;obtain ⟨Gx,Gy,Gz⟩:=ACe Gv;refine ACq 35183835219712 (fun x:(Int) × (Int)=>[(8,(.int .i64 x.1)),(29,(.int .i64 x.2))]) (fun k x h'=>iter Gx k (x.1,x.2)=some Cv/\Kst h h' (Bm.L)) (by kernel_rfl) fuel (((w64 (Gt + a5)),0):(Int) × (Int)) ?_ ⟨rfl,rfl,trivial⟩ ?_
   ·exact ⟨Gz,Bm⟩
   rintro Jz ⟨G3,Cw⟩ J0 J1 ⟨G4,Ak⟩;obtain ⟨G5,J2,rfl,Am,Bn⟩:=AB7 G4;rw [Gy] at Am;dsimp only at Am;unfold APr at Am;refine ABp (ACu rfl rfl (ABt (ABr (⟨_,rfl,fun Bo=>?_,fun Bo=>?_⟩))))
   ·refine ABy (q_t (ABr (ABw (ABp (Wo ?_)))));obtain ⟨J3,Bp,G6⟩:=ABq (AC8 Am Bo);refine ADl ACi rfl (Ak.o2 p0) rfl Bp fun J4 J5 J6 G7 G8=>AB6 AC3 rfl G8 (ACk (ABv (AKm (Wo (Wo ?_)))));obtain ⟨G9,Hb⟩:=ifN G6;refine AHh rfl rfl G9 (Wo (Wo ?_));obtain ⟨Hc,Cx,Hd⟩:=ABq Hb;refine AD2 (m:=Cw) ACs rfl (Ak.o2 p0) G7 Bp rfl Cx fun J7 He=>?_;obtain ⟨J8,Hf,Hg⟩:=(Ak.o2 p0).cells He Bp Cx;obtain rfl:=Hf;refine AB6 ACx rfl (Hg 0 _ rfl) (AQ3 rfl rfl (Wo ?_));obtain ⟨Hh,Hj⟩:=ifN Hd;refine AHh rfl rfl Hh (ACk (ACr (q_b (q_t (AB5 (ACz rfl rfl (Wo (ABt ?_))))))));obtain rfl:=ABo Hj;exact ⟨G5,(((Int.tmod (w64 ((Int.tmod G3 a5) * Hc)) a5),(w64 (Cw + 1))):(Int) × (Int)),Nat.lt_succ_self _,⟨Bn,Ak⟩,rfl,rfl,trivial⟩
   ·obtain rfl:=ABo (AC9 Am Bo);change _=Cv at Bn;subst Bn;refine ACh (ACj (ACj (ADo (q_t (ABp (Wo (ACk (ABv (ABx ?_)))))))));obtain rfl:=ABo Gw;exact ⟨_,ADj,Ak.x,rfl⟩
end Go.Proofs.YtdnbklmefmoofaaGreatDoor
namespace Go.Proofs.YtdnbklmefmoofaaGreatDoor
open Go Go.QF
set_option maxRecDepth 100000
theorem Aof {E:Type} {body:Int->Option (Int ⊕ E)} {fuel n:Nat} {e:E} (hf:n < fuel) (hs:∀ i:Nat,i < n->body (i:Int)=some (.inl ((i + 1:Nat):Int))) (he:body (n:Int)=some (.inr e)):iter body fuel 0=some e:=by
 apply ok_eq;refine AC4 (fun i s=>s=(i:Int)) n rfl hf fun i s hi hI=>?_;subst hI;by_cases h:i < n
 ·rw [hs i h];exact ABn ⟨h,rfl⟩
 ·obtain rfl:i=n:=by omega
  rw [he];exact ABn rfl
theorem Aay {fuel n:Nat} {F:Nat->Nat->Int} (Aa:1<=n) (hn:n<=8) (hf:100 < fuel):AI2 fuel (tab n n F)=some true:=by
 unfold AI2;rw [ACt,if_neg (by omega),if_neg (by omega),AXn (ACv (by omega)),ACw,if_neg (by omega),if_neg (by omega)];simp only [Option.bind_some];rw [Aof (n:=n) (e:= .inr ()) (by omega) (fun i hi=>?_) ?_]
 ·rfl
 ·unfold AMh;rw [ACt,if_neg (by omega)]
 ·unfold AMh;rw [ACt,if_pos (by omega),AGq (ACv hi),AXn (ACv (by omega)),ACw,ACw,if_neg (fun h=>h rfl),ADy (by omega)]
theorem Aqz {n j:Nat} {g:Nat->Int} {x:Int}:sI (AEj n g) (j:Int) x=AEj n fun c=>if c=j then x else g c:=by rw [ADu,AFs]
theorem AL3 {n i:Nat} {F:Nat->Nat->Int} {g:Nat->Int}:sI (tab n n F) (i:Int) (AEj n g)=tab n n (ADz F i g):=by
 rw [ADu];exact ALl
theorem Aog {n r:Nat} {F:Nat->Nat->Int} {g g':Nat->Int} (h:∀ c,c < n->g c=g' c):tab n n (ADz F r g)=tab n n (ADz F r g'):=AVb fun i j _ hj=>by
  rw [ADf,ADf,h j hj]
structure Abc (n:Nat) (m:Int) (A F:Nat->Nat->Int) (s:Int) (c:Nat):Prop where
  sg:s=1∨s= -1
  bd:Bd n n m F
  z:Zc n F c
  d:Eqm m (det n F) (s * det n A)
theorem Aq0 {m a b x y:Int} (hm:2<=m) (Ab:m<=2147483647) (ha:0<=a/\a < m) (hb:0 < b/\b < m) (hx:0<=x/\x < m) (hy:0<=y/\y < m):Int.tmod (w64 (x + (w64 ((w64 (m - (w64 (Int.tdiv a b)))) * y)))) m=(x + (m - a / b) * y) % m:=by
 have hq:=Ar6 ha.1 ha.2 hb.1;have h1:Int.tdiv a b=a / b:=Int.tdiv_eq_ediv_of_nonneg ha.1;have h0:0<=(m - a / b) * y:=Int.mul_nonneg (by omega) hy.1;have h2:(m - a / b) * y<=2147483647 * 2147483647:=Int.mul_le_mul (by omega) (by omega) hy.1 (by omega);rw [h1,AFr (x:=a / b) (by omega) (by omega),AFr (x:=m - a / b) (by omega) (by omega),AFr (x:=(m - a / b) * y) (by omega) (by omega),wk (by omega),Int.tmod_eq_emod_of_nonneg (by omega)]
theorem Aq1 {fuel n c i:Nat} {m:Int} {F:Nat->Nat->Int} (hn:n<=8) (hm:2<=m) (Ac:m<=2147483647) (hc:c < n) (hi:i < n) (hne:c≠i) (hB:Bd n n m F) (h0:F i c≠0) (hf:100 < fuel):
    iter (fun s=>ANt fuel m c i (AEj n (F i)) (F i c) (F c c) s.1 s.2) fuel (0,tab n n F)=some (tab n n (ADz F c fun x=>(F c x + (m - F c c / F i c) * F i x) % m)):=by
 apply ok_eq;refine AC4 (fun j s=>s=((j:Int),tab n n (ADz F c fun x=>if x < j then (F c x + (m - F c c / F i c) * F i x) % m else F c x))) n ?_ (by omega) fun j s hj hI=>?_
 ·have:(fun x=>if x < 0 then (F c x + (m - F c c / F i c) * F i x) % m else F c x)=F c:=funext fun x=>if_neg (by omega);rw [this,AOr];rfl
 ·subst hI;unfold ANt;dsimp only;rw [ACw];by_cases h:j < n
  ·have b1:=hB c c hc hc;have b2:=hB i c hi hc;rw [if_pos (by omega),AGq (ACv hi),AFq _ _ (Ne.symm hne),AGq (ACp h),AGq (ACv hc),ADq,AGq (ACp h),if_pos (by omega),if_neg (by omega),Aq0 hm Ac (hB c c hc hc) ⟨by omega,b2.2⟩ (hB c j hc h) (hB i j hi h),Aqz,AL3,ANs,ADy (by omega)];refine ABn ⟨h,congrArg (fun z=>(((j + 1:Nat):Int),tab n n (ADz F c z))) (funext fun x=>?_)⟩;by_cases h1:x=j
   ·rw [if_pos h1,if_pos (by omega),h1]
   ·rw [if_neg h1];by_cases h2:x < j
    ·rw [if_pos h2,if_pos (by omega)]
    ·rw [if_neg h2,if_neg (by omega)]
  ·obtain rfl:j=n:=by omega
   rw [if_neg (by omega)];exact ABn (Aog fun x hx=>if_pos hx)
theorem Akm {n c i:Nat} {m s:Int} {A F:Nat->Nat->Int} (hm:2<=m) (hc:c < n) (hi:i < n) (hci:c < i) (H:Abc n m A F s c) (q:Int):Abc n m A (ASz F c i q m) (-s) c:=by
 have h1:=(Eqm.refl m 0).sub H.d;rw [Int.zero_sub,Int.zero_sub] at h1;refine ⟨by rcases H.sg with h | h <;> rw [h] <;> simp,Ao3 (by omega) H.bd hc hi,Ao4 H.z hci hi,(Aj3 hc hi (by omega)).trans ?_⟩;rw [Int.neg_mul];exact h1
theorem Ahd {fuel n c i:Nat} {m s:Int} {A F:Nat->Nat->Int} (hn:n<=8) (hm:2<=m) (Ab:m<=2147483647) (hc:c < n) (hi:i < n) (hci:c < i) (H:Abc n m A F s c) (hZ:Zi F c i) (hf:2147483648 < fuel):
    Ok (iter (fun s=>ANu fuel m c i s.1 s.2) fuel (s,tab n n F)) fun e=> ∃ s' F',e=(s',tab n n F')/\Abc n m A F' s' c/\Zi F' c i/\F' i c=0:=by
 refine AC4 (fun k st=> ∃ s' F',st=(s',tab n n F')/\Abc n m A F' s' c/\Zi F' c i/\F' i c + k<=m) m.toNat ⟨s,F,rfl,H,hZ,by have:=H.bd i c hi hc;omega⟩ (by omega) fun k st hk hI=>?_;obtain ⟨s',F',rfl,H',hZ',hk'⟩:=hI;have hB:=H'.bd;have b2:=hB i c hi hc;unfold ANu;dsimp only;rw [AGq (ACv hi),AGq (ACp hc)];refine AB8 (fun h=>?_) fun h=>ABn ⟨s',F',rfl,H',hZ',Decidable.not_not.1 h⟩;rw [AGq (ACv hc),AGq (ACp hc),if_pos h,Aq1 hn hm Ab hc hi (by omega) hB h (by omega)];simp only [Option.bind_some]
 have e1:∀ g,sI (sI (tab n n (ADz F' c g)) (c:Int) (AEj n (F' i))) (i:Int) (AEj n g)=tab n n (AHi (ADz F' c g) c i):=fun g=>by
   rw [AL3,AL3]
   unfold AHi
   rw [ADq,AFq _ _ (show i≠c by omega)]
 have b1:=hB c c hc hc;rw [AGq (ACv hi),AFq _ _ (show i≠c by omega),AGq (ACv hc),ADq,e1,AFr (by rcases H'.sg with h | h <;> omega) (by rcases H'.sg with h | h <;> omega),Int.zero_sub];refine ABn ⟨by omega,-s',_,rfl,Akm hm hc hi hci H' _,Ao5 hZ',?_⟩;show ASz F' c i (F' c c / F' i c) m i c + ((k + 1:Nat):Int)<=m;rw [Ahm];dsimp only;rw [Ao6 b1.1 b1.2 (by omega) b2.2];have:=Int.emod_lt_of_pos (F' c c) (show 0 < F' i c by omega);omega
theorem Atr {fuel n:Nat} {T:Nat->Nat->Int} {m:Int} (Af:1<=n) (hn:n<=8) (hm:2<=m) (Ad:m<=2147483647) (hf:2147483648 < fuel):AOc fuel (tab n n T) m=some (det n T % m,0):=by
 unfold AOc
 have h0:AMr fuel (tab n n T)=some true:=by
   unfold AMr
   rw [Aay Af hn (by omega)]
   simp only [Option.bind_some,reduceIte]
   rw [AXn (ACv (by omega)),ACw,ACt,if_pos rfl,decide_eq_true (by omega)]
 have h1:AEp fuel m=some 0:=by unfold AEp;rw [if_neg (by omega),if_neg (by omega)]
 rw [h0];simp only [Option.bind_some];rw [if_neg (by decide),h1];simp only [Option.bind_some];rw [if_neg (by decide),Ahb hn hm Ad (by omega)];simp only [Option.bind_some];apply ok_eq;generalize hA:(fun i j=>T i j % m)=A;have hAd:Eqm m (det n A) (det n T):=by subst hA;exact AZd fun i j _ _=>Eqm.mod _ _
 have hAb:Bd n n m A:=by subst hA;exact fun i j _ _=>⟨Int.emod_nonneg _ (by omega),Int.emod_lt_of_pos _ (by omega)⟩
 refine ABs (Q:=fun e:Int × List (List Int)=> ∃ F,e.2=tab n n F/\Abc n m A F e.1 n) (ABs (AC4 (fun c st=> ∃ s F,st=(s,(c:Int),tab n n F)/\c<=n/\Abc n m A F s c) n (Q:=fun e:Int × List (List Int)=> ∃ F,e.2=tab n n F/\Abc n m A F e.1 n) ⟨1,A,rfl,Nat.zero_le _,.inl rfl,hAb,fun c' i h=>absurd h (Nat.not_lt_zero _),by rw [Int.one_mul];exact Eqm.refl _ _⟩ (by omega) fun c st hc hI=>?_) fun e he=>ABn he) fun e he=>?_
 ·obtain ⟨s,F,rfl,hcn,H⟩:=hI;unfold APq;dsimp only;rw [ACt];refine AB8 (fun h=>?_) fun h=>ABn ⟨F,rfl,(show c=n by omega) ▸ H⟩;have hc':c < n:=by omega
  rw [ADy (by omega)];refine ABs (AC4 (fun k st=> ∃ s F,st=(s,((c + 1 + k:Nat):Int),tab n n F)/\c + 1 + k<=n/\Abc n m A F s c/\Zi F c (c + 1 + k)) (n - (c + 1)) (Q:=fun e:Int × List (List Int)=> ∃ F,e.2=tab n n F/\Abc n m A F e.1 (c + 1)) ⟨s,F,rfl,by omega,H,fun k h1 h2=>by omega⟩ (by omega) fun k st hk hI=>?_) fun e he=>?_
  ·obtain ⟨s',F',rfl,hkn,H',hZ'⟩:=hI;unfold APp;dsimp only;rw [ACt];refine AB8 (fun h2=>ABs (Ahd hn hm Ad hc' (by omega) (by omega) H' hZ' hf) fun e he=>?_) fun h2=>ABn ⟨F',rfl,H'.sg,H'.bd,Aho H'.z ((show c + 1 + k=n by omega) ▸ hZ'),H'.d⟩;obtain ⟨s2,F2,rfl,H2,Aj,h3⟩:=he;exact ABn ⟨by omega,s2,F2,by rw [ADy (by omega)];rfl,by omega,H2,Ahn Aj h3⟩
  ·obtain ⟨e1,e2⟩:=e;obtain ⟨F',h2,H'⟩:=he;dsimp only at h2 H';subst h2;exact ABn ⟨by omega,e1,F',rfl,by omega,H'⟩
 ·obtain ⟨s,M⟩:=e;obtain ⟨F,h2,H⟩:=he;dsimp only at h2 H;subst h2;dsimp only;rw [AFr (by rcases H.sg with h | h <;> omega) (by rcases H.sg with h | h <;> omega)];refine ABs (AC4 (fun k st=>st=(ATn F m s k,(k:Int))/\k<=n) n (Q:=(· =ATn F m s n)) ⟨rfl,Nat.zero_le _⟩ (by omega) fun k st hk hI=>?_) fun e he=>ABn ?_
  ·obtain ⟨rfl,hkn⟩:=hI;unfold APr;dsimp only;rw [ACt];by_cases h:k < n
   ·have hd:=Ao7 (F:=F) (m:=m) (s:=s) hm H.sg k;have hb:=H.bd k k h h;have h3:=Int.emod_nonneg (ATn F m s k) (show m≠0 by omega);have h4:=Int.emod_lt_of_pos (ATn F m s k) (show 0 < m by omega);have h5:=Int.mul_nonneg h3 hb.1;have h6:ATn F m s k % m * F k k<=2147483647 * 2147483647:=Int.mul_le_mul (by omega) (by omega) hb.1 (by omega);rw [if_pos (by omega),AGq (ACv h),if_pos (by omega),AGq (ACp h),if_pos (by omega),Int.tmod_eq_emod_of_nonneg hd.1,AFr (x:=ATn F m s k % m * F k k) (by omega) (by omega),Int.tmod_eq_emod_of_nonneg h5,ADy (by omega)];exact ABn ⟨h,rfl,by omega⟩
   ·obtain rfl:k=n:=by omega
    rw [if_neg (by omega)];exact ABn rfl
  ·subst he
   have h3:Eqm m (ATn F m s n) (det n T):=by
     refine (Anm _).trans ?_
     rw [<- AS7 H.z]
     refine ((Eqm.refl m s).mul H.d).trans (Eqm.trans (Eqm.of_eq ?_) hAd)
     rcases H.sg with h | h <;> rw [h] <;> grind
   have h4:0<=ATn F m s n/\ATn F m s n < m:=by
     obtain ⟨k,rfl⟩:∃ k,n=k + 1:=⟨n - 1,by omega⟩
     unfold ATn
     exact ⟨Int.emod_nonneg _ (by omega),Int.emod_lt_of_pos _ (by omega)⟩
   unfold Eqm at h3;rw [<- h3,Int.emod_eq_of_lt h4.1 h4.2]
end Go.Proofs.YtdnbklmefmoofaaGreatDoor
