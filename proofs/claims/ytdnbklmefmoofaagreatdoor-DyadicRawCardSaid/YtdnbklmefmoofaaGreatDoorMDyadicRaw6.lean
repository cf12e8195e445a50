/-
  Texts of a proof, joined. Conditions stand in each statement.
-/
import Derived.Test.YtdnbklmefmoofaaGreatDoorMDyadicRaw5
set_option linter.unusedVariables false
set_option linter.unusedSimpArgs false
namespace Go.Proofs.YtdnbklmefmoofaaGreatDoor
open Go Go.QF
set_option maxRecDepth 100000
set_option maxHeartbeats 4000000
def Aau (fuel:Nat) (a1 a2 a3 a4 a5 a6:Int):Option Bool:=
  (((if a1 < 0 then (some (Sum.inl <| false)) else (if 60 < a1 then (some (Sum.inl <| false)) else (some (Sum.inr <| ())))):Option ((Bool) ⊕ (Unit))).bind (fun ex=>match ex with | Sum.inl Ag=>(some Ag) | Sum.inr (_)=>(if a2=1 then (if a6≠0 then (if ¬ (Int.tmod a3 a6)=0 then (if a4=0 then (some (decide (a5=0))) else (some false)) else (some false)) else none) else (if a6=2 then (if a2=2 then (if (Int.tmod a3 2)=0 then (if ¬ (Int.tmod a4 2)=0 then (some (decide ((Int.tmod a5 2)=0))) else (some false)) else (some false)) else (some false)) else (some false)))))
def AHy (fuel:Nat) (a1 a2 a3 a4 a5 a6 a7:Int):Option Bool:=
  (((if a6=2 then (some ( (w64 (a7 - 3)))) else (some ( (w64 (a7 - 1))))):Option ((Int))).bind (fun (Ai:Int)=>(((if a1 < 0 then (some (Sum.inl <| false)) else (if Ai < a1 then (some (Sum.inl <| false)) else (some (Sum.inr <| ())))):Option ((Bool) ⊕ (Unit))).bind (fun ex=>match ex with | Sum.inl Aj=>(some Aj) | Sum.inr (_)=>((AFr fuel a6 (w64 (a7 - a1))).bind fun Ae=>(if a2=1 then (if 0 < a3 then (if a3 < Ae then (if a6≠0 then (if ¬ (Int.tmod a3 a6)=0 then (if a4=0 then (some (decide (a5=0))) else (some false)) else (some false)) else none) else (some false)) else (some false)) else (if 0<=a3 then (if a3 < Ae then (if 0<=a4 then (if a4 < Ae then (if 0<=a5 then (if a5 < Ae then (if (Int.tmod a3 2)=0 then (if (Int.tmod a4 2)=1 then (some (decide ((Int.tmod a5 2)=0))) else (some false)) else (some false)) else (some false)) else (some false)) else (some false)) else (some false)) else (some false)) else (some false))))))))
theorem AR3 {fuel:Nat} {h:ABu} {a1 a2 a3 a4 a5 a6 a7:Int} {r:Bool} (hp:AHy fuel a1 a2 a3 a4 a5 a6 a7=some r):ACo Tryz.prog 57 #[(.agg #[(.int .i64 a1),(.int .i64 a2),(.int .i64 a3),(.int .i64 a4),(.int .i64 a5)]),(.int .i64 a6),(.int .i64 a7)] h (fun x h'=>Ext h h'/\x= .bool r):=by
 unfold AHy at hp;refine cwf (l:=[_,_,_]) Tryz.func57 rfl rfl (ABp (AFk [(.int .i64 a1),(.int .i64 a2),(.int .i64 a3),(.int .i64 a4),(.int .i64 a5)] trivial tt2 rfl rfl fun b8 h9 Bt Bu Bv=>AC4 (Wo (AHm rfl rfl (ABv ?_)))));have A4:=(Kst.k0 h).nb Bu Bv Bt;obtain ⟨Bw,A9,Bx⟩:=ABq hp;refine AL7 30848 (fun x:(Int)=>[(7,(.int .i64 x))]) (fun x h'=>( x)=Bw/\Kst h h' (A4.L)) ?_ ?_
 ·refine ABp (Wo (AEf rfl rfl (ABt (⟨_,rfl,fun A5=>?_,fun A5=>?_⟩))))
  ·refine AB6 (Wo (AHm rfl rfl (ABv ?_)));exact ⟨((w64 (a7 - 3)):(Int)),⟨ABo (AC8 A9 A5),A4⟩,rfl,trivial⟩
  ·refine ABy (q_t ?_);exact ⟨((w64 (a7 - 1)):(Int)),⟨ABo (AC9 A9 A5),A4⟩,rfl,trivial⟩
 rintro B9 Ca Cb ⟨By,Ad⟩;subst By;obtain ⟨Bz,Ba,A6⟩:=ABq Bx;refine AL7 16744512 (fun x:Unit=>[]) (fun x h'=>(Sum.inr <| ())=Bz/\Kst h h' (Ad.L)) ?_ ?_
 ·refine ABp (ADh AH9 rfl (AB3 ADe rfl ((Ad.b p0).cell (i:=0) rfl) (ACu rfl rfl (Wo ?_))));by_cases Ah:a1 < 0
  ·rw [decide_eq_true Ah];refine AFf 18 true (AB5 rfl (ABt (ACh rfl (ABp (ABv ?_)))));obtain rfl:=ABo (ifT Ba Ah);refine ABx (AB2 ?_);obtain rfl:=ABo A6;exact ⟨_,ABz,Ad.x,rfl⟩
  ·have Bb:=ifF Ba Ah;rw [decide_eq_false Ah];refine AB4 18 false (ADh AH9 rfl (AB4 18 false (AB3 ADe rfl ((Ad.b p0).cell (i:=0) rfl) (AB4 18 false (Wo (AB4 18 false (AGq rfl rfl (AB0 rfl (ABt (⟨_,rfl,fun A7=>?_,fun A7=>?_⟩))))))))))
   ·refine ABp (ABv ?_);obtain rfl:=ABo (AC8 Bb A7);refine ABx (AB2 ?_);obtain rfl:=ABo A6;exact ⟨_,ABz,Ad.x,rfl⟩
   ·refine ABy (q_t ?_);exact ⟨(():Unit),⟨ABo (AC9 Bb A7),Ad⟩,trivial⟩
 rintro ⟨⟩ Cd Ce ⟨B1,Bc⟩;subst B1;refine ABp (Wo (Wo (ADh AH9 rfl (AB3 ADe rfl ((Bc.b p0).cell (i:=0) rfl) (AHm rfl rfl ?_)))));obtain ⟨Ai,B3,Be⟩:=ABq A6;refine ADc rfl (ALb B3) fun Cf Cg B4 B5=>?_;subst B5;refine ABv (ABr (ABp (ADh AMf rfl ?_)));have Aa:=Bc.e B4;refine AB3 ADe rfl ((Aa.b p0).cell (i:=1) rfl) (AEf rfl rfl (ABt (⟨_,rfl,fun A8=>?_,fun A8=>?_⟩)))
 ·refine ABp (ADh ANa rfl (AB3 ACw rfl ((Aa.b p0).cell (i:=2) rfl) (AGq rfl rfl (Wo ?_))));have Bf:=AC8 Be A8;by_cases Aj:0 < a3
  ·have Bg:=ifT Bf Aj;rw [decide_eq_true Aj];refine AB4 36 true (ADh ANa rfl (AB4 36 true (AB3 ACw rfl ((Aa.b p0).cell (i:=2) rfl) (AB4 36 true (Wo (AB4 36 true (ACu rfl rfl (AB5 rfl (Wo ?_)))))))));by_cases Ak:a3 < Ai
   ·rw [decide_eq_true Ak];refine AB4 42 true (ADh ANa rfl (AB4 42 true (AB3 ACw rfl ((Aa.b p0).cell (i:=2) rfl) (AB4 42 true (Wo (AB4 42 true ?_))))));obtain ⟨B6,Bh⟩:=ifN (ifT Bg Ak);refine ALf rfl rfl B6 (AB4 42 true (AEt rfl rfl (AB5 rfl (Wo ?_))));by_cases Am: ¬ (Int.tmod a3 a6)=0
    ·have Bi:=ifT Bh Am;rw [decide_eq_true Am];refine AB4 49 true (ADh AN1 rfl (AB4 49 true (AB3 ACw rfl ((Aa.b p0).cell (i:=3) rfl) (AB4 49 true (AEf rfl rfl (AB5 rfl (Wo ?_)))))));by_cases Ao:a4=0
     ·rw [decide_eq_true Ao];refine AB4 54 true (ADh AP0 rfl (AB4 54 true (AB3 ACw rfl ((Aa.b p0).cell (i:=4) rfl) (AB4 54 true (AEf rfl rfl (AB5 rfl (ABv (ABx (AB2 ?_)))))))));obtain rfl:=ABo (ifT Bi Ao);exact ⟨_,ABz,Aa.x,rfl⟩
     ·rw [decide_eq_false Ao];refine AE3 54 false (AB0 rfl (ABv (ABx (AB2 ?_))));obtain rfl:=ABo (ifF Bi Ao);exact ⟨_,ABz,Aa.x,rfl⟩
    ·rw [decide_eq_false Am];refine AE3 49 false (AB0 rfl (Wo (AE3 54 false (AB0 rfl (ABv (ABx (AB2 ?_)))))));obtain rfl:=ABo (ifF Bh Am);exact ⟨_,ABz,Aa.x,rfl⟩
   ·rw [decide_eq_false Ak];refine AHn 42 false (AB0 rfl (Wo (AE3 49 false (AB0 rfl (Wo (AE3 54 false (AB0 rfl (ABv (ABx (AB2 ?_))))))))));obtain rfl:=ABo (ifF Bg Ak);exact ⟨_,ABz,Aa.x,rfl⟩
  ·rw [decide_eq_false Aj];refine AFf 36 false (AB0 rfl (Wo (AHn 42 false (AB0 rfl (Wo (AE3 49 false (AB0 rfl (Wo (AE3 54 false (AB0 rfl (ABv (ABx (AB2 ?_)))))))))))));obtain rfl:=ABo (ifF Bf Aj);exact ⟨_,ABz,Aa.x,rfl⟩
 ·refine ABy (q_t (ABp (ADh ANa rfl (AB3 ACw rfl ((Aa.b p0).cell (i:=2) rfl) (AM5 rfl rfl (Wo ?_))))));have Bj:=AC9 Be A8;by_cases Ap:0<=a3
  ·have Bl:=ifT Bj Ap;rw [decide_eq_true Ap];refine AB4 62 true (ADh ANa rfl (AB4 62 true (AB3 ACw rfl ((Aa.b p0).cell (i:=2) rfl) (AB4 62 true (Wo (AB4 62 true (ACu rfl rfl (AB5 rfl (Wo ?_)))))))));by_cases Aq:a3 < Ai
   ·have Bm:=ifT Bl Aq;rw [decide_eq_true Aq];refine AB4 68 true (ADh AN1 rfl (AB4 68 true (AB3 ACw rfl ((Aa.b p0).cell (i:=3) rfl) (AB4 68 true (AM5 rfl rfl (AB5 rfl (Wo ?_)))))));by_cases Ar:0<=a4
    ·have Bn:=ifT Bm Ar;rw [decide_eq_true Ar];refine AB4 73 true (ADh AN1 rfl (AB4 73 true (AB3 ACw rfl ((Aa.b p0).cell (i:=3) rfl) (AB4 73 true (Wo (AB4 73 true (ACu rfl rfl (AB5 rfl (Wo ?_)))))))));by_cases Au:a4 < Ai
     ·have Bo:=ifT Bn Au;rw [decide_eq_true Au];refine AB4 79 true (ADh AP0 rfl (AB4 79 true (AB3 ACw rfl ((Aa.b p0).cell (i:=4) rfl) (AB4 79 true (AM5 rfl rfl (AB5 rfl (Wo ?_)))))));by_cases Av:0<=a5
      ·have Bp:=ifT Bo Av;rw [decide_eq_true Av];refine AB4 84 true (ADh AP0 rfl (AB4 84 true (AB3 ACw rfl ((Aa.b p0).cell (i:=4) rfl) (AB4 84 true (Wo (AB4 84 true (ACu rfl rfl (AB5 rfl (Wo ?_)))))))));by_cases Aw:a5 < Ai
       ·have Bq:=ifT Bp Aw;rw [decide_eq_true Aw];refine AB4 90 true (ADh ANa rfl (AB4 90 true (AB3 ACw rfl ((Aa.b p0).cell (i:=2) rfl) (AB4 90 true (ALf rfl rfl (by decide) (AB4 90 true (AEf rfl rfl (AB5 rfl (Wo ?_)))))))));by_cases Ax:(Int.tmod a3 2)=0
        ·have Br:=ifT Bq Ax;rw [decide_eq_true Ax];refine AB4 96 true (ADh AN1 rfl (AB4 96 true (AB3 ACw rfl ((Aa.b p0).cell (i:=3) rfl) (AB4 96 true (ALf rfl rfl (by decide) (AB4 96 true (AEf rfl rfl (AB5 rfl (Wo ?_)))))))));by_cases Ay:(Int.tmod a4 2)=1
         ·rw [decide_eq_true Ay];refine AB4 102 true (ADh AP0 rfl (AB4 102 true (AB3 ACw rfl ((Aa.b p0).cell (i:=4) rfl) (AB4 102 true (ALf rfl rfl (by decide) (AB4 102 true (AEf rfl rfl (AB5 rfl (ABv (ABx ?_))))))))));obtain rfl:=ABo (ifT Br Ay);exact ⟨_,ABz,Aa.x,rfl⟩
         ·rw [decide_eq_false Ay];refine AFf 102 false (AB0 rfl (ABv (ABx ?_)));obtain rfl:=ABo (ifF Br Ay);exact ⟨_,ABz,Aa.x,rfl⟩
        ·rw [decide_eq_false Ax];refine AFf 96 false (AB0 rfl (Wo (AFf 102 false (AB0 rfl (ABv (ABx ?_))))));obtain rfl:=ABo (ifF Bq Ax);exact ⟨_,ABz,Aa.x,rfl⟩
       ·rw [decide_eq_false Aw];refine AFf 90 false (AB0 rfl (Wo (AFf 96 false (AB0 rfl (Wo (AFf 102 false (AB0 rfl (ABv (ABx ?_)))))))));obtain rfl:=ABo (ifF Bp Aw);exact ⟨_,ABz,Aa.x,rfl⟩
      ·rw [decide_eq_false Av];refine AFf 84 false (AB0 rfl (Wo (AFf 90 false (AB0 rfl (Wo (AFf 96 false (AB0 rfl (Wo (AFf 102 false (AB0 rfl (ABv (ABx ?_))))))))))));obtain rfl:=ABo (ifF Bo Av);exact ⟨_,ABz,Aa.x,rfl⟩
     ·rw [decide_eq_false Au];refine AE3 79 false (AB0 rfl (Wo (AFf 84 false (AB0 rfl (Wo (AFf 90 false (AB0 rfl (Wo (AFf 96 false (AB0 rfl (Wo (AFf 102 false (AB0 rfl (ABv (ABx ?_)))))))))))))));obtain rfl:=ABo (ifF Bn Au);exact ⟨_,ABz,Aa.x,rfl⟩
    ·rw [decide_eq_false Ar];refine AFf 73 false (AB0 rfl (Wo (AE3 79 false (AB0 rfl (Wo (AFf 84 false (AB0 rfl (Wo (AFf 90 false (AB0 rfl (Wo (AFf 96 false (AB0 rfl (Wo (AFf 102 false (AB0 rfl (ABv (ABx ?_))))))))))))))))));obtain rfl:=ABo (ifF Bm Ar);exact ⟨_,ABz,Aa.x,rfl⟩
   ·rw [decide_eq_false Aq];refine AE3 68 false (AB0 rfl (Wo (AFf 73 false (AB0 rfl (Wo (AE3 79 false (AB0 rfl (Wo (AFf 84 false (AB0 rfl (Wo (AFf 90 false (AB0 rfl (Wo (AFf 96 false (AB0 rfl (Wo (AFf 102 false (AB0 rfl (ABv (ABx ?_)))))))))))))))))))));obtain rfl:=ABo (ifF Bl Aq);exact ⟨_,ABz,Aa.x,rfl⟩
  ·rw [decide_eq_false Ap];refine AFf 62 false (AB0 rfl (Wo (AE3 68 false (AB0 rfl (Wo (AFf 73 false (AB0 rfl (Wo (AE3 79 false (AB0 rfl (Wo (AFf 84 false (AB0 rfl (Wo (AFf 90 false (AB0 rfl (Wo (AFf 96 false (AB0 rfl (Wo (AFf 102 false (AB0 rfl (ABv (ABx ?_))))))))))))))))))))))));obtain rfl:=ABo (ifF Bj Ap);exact ⟨_,ABz,Aa.x,rfl⟩
def AKn (fuel:Nat) (a3:(List AIp)) (a6 a7 Aa Ah:Int) (Ae:LiI):Option ((Int × Int × LiI) ⊕ ((LiI))):=
  (if Ah < (a3.length:Int) then ((gI a3 Ah).bind fun Ac=>((AFr fuel a6 Ac.1).bind fun Ad=>((gI Ae Aa).bind fun Af=>(if a7≠0 then ((gI Af Aa).bind fun Ap=>(((if Ac.2.1=2 then ((gI (sI Ae Aa (sI Af Aa (Int.tmod (w64 (Ad * Ac.2.2.1)) a7))) Aa).bind fun Ag=>(if a7≠0 then ((gI Ag (w64 (Aa + 1))).bind fun Aq=>((gI (sI (sI Ae Aa (sI Af Aa (Int.tmod (w64 (Ad * Ac.2.2.1)) a7))) Aa (sI Ag (w64 (Aa + 1)) (Int.tmod (w64 (Ad * Ac.2.2.2.1)) a7))) (w64 (Aa + 1))).bind fun Ai=>(if a7≠0 then ((gI Ai Aa).bind fun Ar=>((gI (sI (sI (sI Ae Aa (sI Af Aa (Int.tmod (w64 (Ad * Ac.2.2.1)) a7))) Aa (sI Ag (w64 (Aa + 1)) (Int.tmod (w64 (Ad * Ac.2.2.2.1)) a7))) (w64 (Aa + 1)) (sI Ai Aa (Int.tmod (w64 (Ad * Ac.2.2.2.1)) a7))) (w64 (Aa + 1))).bind fun Ak=>(if a7≠0 then ((gI Ak (w64 (Aa + 1))).bind fun Au=>(some ( (sI (sI (sI (sI Ae Aa (sI Af Aa (Int.tmod (w64 (Ad * Ac.2.2.1)) a7))) Aa (sI Ag (w64 (Aa + 1)) (Int.tmod (w64 (Ad * Ac.2.2.2.1)) a7))) (w64 (Aa + 1)) (sI Ai Aa (Int.tmod (w64 (Ad * Ac.2.2.2.1)) a7))) (w64 (Aa + 1)) (sI Ak (w64 (Aa + 1)) (Int.tmod (w64 (Ad * Ac.2.2.2.2)) a7)))))) else none))) else none))) else none)) else (some ( (sI Ae Aa (sI Af Aa (Int.tmod (w64 (Ad * Ac.2.2.1)) a7)))))):Option ((LiI))).bind (fun (Ao:LiI)=>(some (Sum.inl ((w64 (Aa + Ac.2.1)),(w64 (Ah + 1)),Ao)))))) else none)))) else (some (Sum.inr<| Ae)))
def AIb (fuel:Nat) (a5 Ab:Int) (Ac:LiI):Option ((Int × LiI) ⊕ ((LiI))):=
  (if Ab < ((List.replicate (Int.toNat a5) ([]:List Int)).length:Int) then (if 0<=a5/\a5<=100000000 then ((gI Ac Ab).bind fun Ad=>(some (Sum.inl ((w64 (Ab + 1)),(sI Ac Ab (List.replicate (Int.toNat a5) (0:Int))))))) else none) else (some (Sum.inr<| Ac)))
def AHz (fuel:Nat) (a3:(List AIp)) (a5 a6 a7:Int):Option LiI:=
  (if 0<=a5/\a5<=100000000 then ((iter (fun s=>AIb fuel a5 s.1 s.2) fuel (0,(List.replicate (Int.toNat a5) ([]:List Int)))).bind (fun (Ae:LiI)=>((iter (fun s=>AKn fuel a3 a6 a7 s.1 s.2.1 s.2.2) fuel (0,0,Ae)).bind (fun (Af:LiI)=>(some Af))))) else none)
theorem AR4 {fuel:Nat} {h:ABu} {A7:Value} {a3:(List AIp)} {a5 a6 a7:Int} {r:LiI} (H2:SlC APo h A7 a3) (hp:AHz fuel a3 a5 a6 a7=some r):ACo Tryz.prog 61 #[A7,(.int .i64 a5),(.int .i64 a6),(.int .i64 a7)] h (fun x h'=>Ext h h'/\ ∃ (x0:Value) (F0:List Nat) (Bz:List LnA) (B1:List Value),x=x0/\AFi (cI .i64) 35 2 h' F0 Bz B1 x0 r/\Sp h' h.size [F0]):=by
 unfold AHz at hp;refine cwf (l:=[_,_,_,_]) Tryz.func61 rfl rfl (ABp (AC4 (Wo ?_)));obtain ⟨B3,B4⟩:=ifN hp;refine ARf (cI .i64) 2 ACd ANi rfl trivial tt2 rfl rfl (by decide) B3 fun B5 B6 B7 Ap Ew B8 B9 Ca=>ABv (ABr (ABp (Wo ?_)));have Aq:=(Kst.k0 h).no2 B9 Ca B8;refine ADa ACd rfl (Aq.o2 p0).rd (Wo (ABt (ABw ?_)));obtain ⟨Be,Cb,Cd⟩:=ABq B4;obtain ⟨Ce,Cf,Cg⟩:=ACe Cb;refine ACq 267912192 (fun x:(Int) × (LiI) × LnA × LnN × LvA=>[(19,(.int .i64 x.1))]) (fun k x h'=>iter Ce k (x.1,x.2.1)=some Be/\Kst h h' (Aq.L.set 0 (aO2 (cI .i64) 35 2 x.2.2.1 x.2.2.2.1 x.2.2.2.2 Ap x.2.1))) (by kernel_rfl) fuel ((0,(List.replicate (Int.toNat a5) ([]:List Int)),B5,B6,B7):(Int) × (LiI) × LnA × LnN × LvA) ?_ ⟨rfl,trivial⟩ ?_
 ·exact ⟨Cg,Aq⟩
 rintro Ey ⟨u32,Bf,Ch,Ar,Bg⟩ Ez Fa ⟨Ci,Au⟩;obtain ⟨Cj,Fb,rfl,Af,Av⟩:=AB8 Ci;rw [Cf] at Af;dsimp only at Af;unfold AIb at Af;refine ABp (ACu rfl rfl (ABt (ABr (⟨_,rfl,fun Aw=>?_,fun Aw=>?_⟩))))
 ·refine ABy (q_t (ABr (ABw (ABp (Wo (ABv (AB6 (Wo (Wo (Wo ?_))))))))));obtain ⟨Ck,Cm⟩:=ifN (AC8 Af Aw);refine AQj (c:=(cI .i64)) (a:=0) ACp AL9 rfl rfl (fun _=>rfl) rfl trivial tt2 rfl rfl (by decide) Ck fun Bh Cn Fc Co Cp Cq Cr=>?_;have Ag:=Au.no Cp (AH8 Cq Cr) Co;obtain ⟨Fd,Bi,Ct⟩:=ABq Cm;refine ADf ACd rfl (Ag.o2 p1) rfl Bi fun Cu Fe Cv Ff Fg=>ASe AC0 (Ag.o2 p1) Bi Cv rfl rfl (Ag.o p0) (Ag.dj p0 p1 (by decide)) fun Fh Cw Cx Cy=>ACs (q_b (q_t (AB6 (ACx rfl rfl (Wo (ABt ?_))))));obtain rfl:=ABo Ct;exact ⟨Cj,(((w64 (u32 + 1)),(sI Bf u32 (List.replicate (Int.toNat a5) (0:Int))),(Cu :: (Ar.set (Int.toNat u32) [Bh]).flatten),(Ar.set (Int.toNat u32) [Bh]),(Bg.set (Int.toNat u32) Cn)):(Int) × (LiI) × LnA × LnN × LvA),Nat.lt_succ_self _,⟨Av,(Ag.m2 p0 p1 (by decide) Cx Cw (fun z hz=> .inl (Cy z hz))).sel [1] (by decide)⟩,rfl,trivial⟩
 ·obtain rfl:=ABo (AC9 Af Aw);change _=Be at Av;subst Av;refine ACg (ACi (ACi (ADp (q_t (ABp (ABv (ABr (ABp (Wo (ADi APd rfl H2 (Wo (ABt (ABw ?_)))))))))))));obtain ⟨Bj,Cz,C0⟩:=ABq Cd;obtain ⟨C1,C2,C3⟩:=ACe Cz;refine ACq 316912650057057350373102086144 (fun x:(Int) × (Int) × (LiI) × LnA × LnN × LvA=>[(11,(.int .i64 x.1)),(30,(.int .i64 x.2.1))]) (fun k x h'=>iter C1 k (x.1,x.2.1,x.2.2.1)=some Bj/\Kst h h' (Au.L.set 0 (aO2 (cI .i64) 35 2 x.2.2.2.1 x.2.2.2.2.1 x.2.2.2.2.2 Ap x.2.2.1))) (by kernel_rfl) fuel ((0,0,Bf,Ch,Ar,Bg):(Int) × (Int) × (LiI) × LnA × LnN × LvA) ?_ ⟨rfl,rfl,trivial⟩ ?_
  ·exact ⟨C3,Au⟩
  rintro Fi ⟨Aa,C4,Bl,Bm,Bn,Bo⟩ Fj Fk ⟨C5,Ah⟩;obtain ⟨C6,Fl,rfl,Ai,Ax⟩:=AB8 C5;rw [C2] at Ai;dsimp only at Ai;unfold AKn at Ai;refine ABp (ACu rfl rfl (ABt (ABr (⟨_,rfl,fun Ay=>?_,fun Ay=>?_⟩))))
  ·refine ABy (q_t (ABr (ABw (ABp ?_))));obtain ⟨Ab,C7,C8⟩:=ABq (AC8 Ai Ay);refine AHg (c:=APo) APd rfl H2 rfl C7 fun Fm Fo Fp C9 Da=>?_;obtain rfl:=C9;refine ANm (c:=APo) ANn rfl rfl (fun j u hu=>(AB1 (Da j u hu) Ah.x)) (ADj [(.int .i64 0),(.int .i64 0),(.int .i64 0),(.int .i64 0),(.int .i64 0)] AWd rfl trivial tt2 fun Fq Fr Db Dc Dd=>?_);have Bp:=Ah.nb Dc Dd Db;refine AC6 [(.int .i64 Ab.1),(.int .i64 Ab.2.1),(.int .i64 Ab.2.2.1),(.int .i64 Ab.2.2.2.1),(.int .i64 Ab.2.2.2.2)] ANn rfl rfl rfl rfl (by simp [isOne]) (Bp.b p0) fun Ft De Df=>AK4 (Wo (ADh AH9 rfl ?_));have Bq:=Bp.sb p0 Df De rfl;refine AB3 ADe rfl ((Bq.b p0).cell (i:=0) rfl) ?_;obtain ⟨Ad,Dg,Dh⟩:=ABq C8;refine ADc rfl (ALb Dg) fun Fu Fv Di Dj=>?_;subst Dj;refine ABv (ABr (AI7 (Wo (Wo ?_))));have Aj:=Bq.e Di;obtain ⟨Br,Az,Dk⟩:=ABq Dh;refine ADf ACd rfl (Aj.o2 p1) rfl Az fun Fw Fx Fy Dl Dn=>AB3 AC0 rfl Dn (Wo (Wo (ADh ANa rfl (AB3 ACw rfl ((Aj.b p0).cell (i:=2) rfl) (AR7 rfl rfl (Wo ?_))))));obtain ⟨Do,Dp⟩:=ifN Dk;refine ALf rfl rfl Do ?_;obtain ⟨Fz,Bt,Dq⟩:=ABq Dp;refine AD0 (m:=Aa) ACp rfl (Aj.o2 p1) Dl Az rfl Bt fun F4 Dr=>AGz (m:=Aa) (AFv ACw rfl rfl rfl) (Aj.o2 p1) Dr Az Bt (show ((cI .i64)).rep _ (Int.tmod (w64 (Ad * Ab.2.2.1)) a7) _ from rfl) fun F5 Ds Dt=>ABt ?_;have Ae:=Aj.uO2 p1 Dt Ds;obtain ⟨Du,Bu,Dv⟩:=ABq Dq;refine AL7 9903520314281916299286151168 (fun x:(LiI) × LnA × LnN × LvA=>[]) (fun x h'=>( x.1)=Du/\Kst h h' (Ae.L.set 1 (aO2 (cI .i64) 35 2 x.2.1 x.2.2.1 x.2.2.2 Ap x.1))) ?_ ?_
   ·refine ABp (ADh AMf rfl (AB3 ADe rfl ((Ae.b p0).cell (i:=1) rfl) (AEf rfl rfl (ABt (⟨_,rfl,fun A3=>?_,fun A3=>?_⟩)))))
    ·refine ABr (AI7 (Wo (Wo ?_)));obtain ⟨Dw,A4,Dx⟩:=ABq (AC8 Bu A3);refine ADf ACd rfl (Ae.o2 p1) rfl A4 fun F6 F7 F8 Dy Dz=>AB3 AC0 rfl Dz (Wo (ACx rfl rfl (Wo (ADh AN1 rfl (AB3 ACw rfl ((Ae.b p0).cell (i:=3) rfl) (AR7 rfl rfl (Wo ?_)))))));obtain ⟨D0,D1⟩:=ifN Dx;refine ALf rfl rfl D0 ?_;obtain ⟨F9,Bv,D2⟩:=ABq D1;refine AD0 (m:=Aa) ACp rfl (Ae.o2 p1) Dy A4 rfl Bv fun Ga D3=>AGz (m:=Aa) (AFv ACw rfl rfl rfl) (Ae.o2 p1) D3 A4 Bv (show ((cI .i64)).rep _ (Int.tmod (w64 (Ad * Ab.2.2.2.1)) a7) _ from rfl) fun Gb D4 D5=>ABt (ABr (AI7 (Wo (Wo (ACx rfl rfl ?_)))));have Ak:=Ae.uO2 p1 D5 D4;obtain ⟨D6,A5,D7⟩:=ABq D2;refine ADf ACd rfl (Ak.o2 p1) rfl A5 fun Gc Gd Ge D8 D9=>AB3 AC0 rfl D9 (Wo (Wo (ADh AN1 rfl (AB3 ACw rfl ((Ak.b p0).cell (i:=3) rfl) (AR7 rfl rfl (Wo ?_))))));obtain ⟨Ea,Eb⟩:=ifN D7;refine ALf rfl rfl Ea ?_;obtain ⟨Gf,Bw,Ec⟩:=ABq Eb;refine AD0 (m:=(w64 (Aa + 1))) ACp rfl (Ak.o2 p1) D8 A5 rfl Bw fun Gg Ed=>AGz (m:=(w64 (Aa + 1))) (AFv ACw rfl rfl rfl) (Ak.o2 p1) Ed A5 Bw (show ((cI .i64)).rep _ (Int.tmod (w64 (Ad * Ab.2.2.2.1)) a7) _ from rfl) fun Gh Ee Ef=>ABt (AI7 (Wo (Wo (ACx rfl rfl ?_))));have Am:=Ak.uO2 p1 Ef Ee;obtain ⟨Eg,A6,Eh⟩:=ABq Ec;refine ADf ACd rfl (Am.o2 p1) rfl A6 fun Gi Gj Gk Ei Ej=>AB3 AC0 rfl Ej (Wo (ACx rfl rfl (Wo (ADh AP0 rfl (AB3 ACw rfl ((Am.b p0).cell (i:=4) rfl) (AR7 rfl rfl (Wo ?_)))))));obtain ⟨Ek,El⟩:=ifN Eh;refine ALf rfl rfl Ek ?_;obtain ⟨Gl,Bx,Em⟩:=ABq El;refine AD0 (m:=(w64 (Aa + 1))) ACp rfl (Am.o2 p1) Ei A6 rfl Bx fun Gm En=>AGz (m:=(w64 (Aa + 1))) (AFv ACw rfl rfl rfl) (Am.o2 p1) En A6 Bx (show ((cI .i64)).rep _ (Int.tmod (w64 (Ad * Ab.2.2.2.2)) a7) _ from rfl) fun Gn Eo Ep=>ABt ?_;exact ⟨(((sI (sI (sI (sI Bl Aa (sI Br Aa (Int.tmod (w64 (Ad * Ab.2.2.1)) a7))) Aa (sI Dw (w64 (Aa + 1)) (Int.tmod (w64 (Ad * Ab.2.2.2.1)) a7))) (w64 (Aa + 1)) (sI D6 Aa (Int.tmod (w64 (Ad * Ab.2.2.2.1)) a7))) (w64 (Aa + 1)) (sI Eg (w64 (Aa + 1)) (Int.tmod (w64 (Ad * Ab.2.2.2.2)) a7))),Bm,Bn,Bo):(LiI) × LnA × LnN × LvA),⟨ABo Em,(Am.uO2 p1 Ep Eo)⟩,trivial⟩
    ·refine ABy (q_t ?_);exact ⟨(((sI Bl Aa (sI Br Aa (Int.tmod (w64 (Ad * Ab.2.2.1)) a7))),Bm,Bn,Bo):(LiI) × LnA × LnN × LvA),⟨ABo (AC9 Bu A3),Ae⟩,trivial⟩
   rintro ⟨Er,Es,Et,Eu⟩ Gp Gq ⟨Ev,By⟩;subst Ev;refine AB6 (Wo (ADh AMf rfl (AB3 ADe rfl ((By.b p0).cell (i:=1) rfl) (ACx rfl rfl (ACr (ACs (q_b (q_t (AB6 (ACx rfl rfl (Wo (ABt ?_))))))))))));obtain rfl:=ABo Dv;exact ⟨C6,(((w64 (Aa + Ab.2.1)),(w64 (C4 + 1)),Er,Es,Et,Eu):(Int) × (Int) × (LiI) × LnA × LnN × LvA),Nat.lt_succ_self _,⟨Ax,By.sel [1] (by decide)⟩,rfl,rfl,trivial⟩
  ·obtain rfl:=ABo (AC9 Ai Ay);change _=Bj at Ax;subst Ax;refine ACg (ACi (ACi (ADp (q_t (ABp (Wo (ABv (ABx ?_))))))));obtain rfl:=ABo C0;exact ⟨_,ABz,Ah.x,_,_,_,_,rfl,(Ah.o2 p0),Ah.s.sel [0] (by decide)⟩
def AKo (fuel:Nat) (a8:(List AIp)) (Ad Aa:Int):Option ((Int × Int) ⊕ ((Bool) ⊕ (Int))):=
  (if Aa < (a8.length:Int) then ((gI a8 Aa).bind fun Ab=>(((if ¬ Ab.2.1=1 then (if ¬ Ab.2.1=2 then (some (Sum.inl <| false)) else (some (Sum.inr <| ()))) else (some (Sum.inr <| ()))):Option ((Bool) ⊕ (Unit))).bind (fun ex=>match ex with | Sum.inl Ae=>(some (Sum.inr<| Sum.inl <| Ae)) | Sum.inr (_)=>(some (Sum.inl ((w64 (Ad - Ab.2.1)),(w64 (Aa + 1)))))))) else (some (Sum.inr<| Sum.inr <| Ad)))
def AIc (fuel:Nat) (a4:LiI) (Ac Aa:Int):Option ((Int) ⊕ ((Bool) ⊕ (Unit))):=
  (if Aa < (a4.length:Int) then ((gI a4 Aa).bind fun Ad=>(if ¬ (Ad.length:Int)=Ac then (some (Sum.inr<| Sum.inl <| false)) else (some (Sum.inl (w64 (Aa + 1)))))) else (some (Sum.inr<| Sum.inr <| ())))
def AH0 (fuel:Nat) (a1:Int) (a4:LiI) (a8:(List AIp)) (Aa:Int):Option Bool:=
  (((if ¬ (a4.length:Int)=Aa then (some (Sum.inl <| false)) else (if Aa < (a8.length:Int) then (some (Sum.inl <| false)) else (some (Sum.inr <| ())))):Option ((Bool) ⊕ (Unit))).bind (fun ex=>match ex with | Sum.inl Ad=>(some Ad) | Sum.inr (_)=>((iter (fun s=>AIc fuel a4 Aa s) fuel 0).bind (fun ex=>match ex with | Sum.inl Ae=>(some Ae) | Sum.inr (_)=>((iter (fun s=>AKo fuel a8 s.1 s.2) fuel (Aa,0)).bind (fun ex=>match ex with | Sum.inl Af=>(some Af) | Sum.inr (Ag)=>(some (decide (Ag=0)))))))))
theorem AR5 {fuel:Nat} {h:ABu} {a1:Int} {Ao:Value} {a4:LiI} {Aq:Value} {a8:(List AIp)} {Ai:Int} {r:Bool} (H3:AEq (cI .i64) h Ao a4) (H7:SlC APo h Aq a8) (hp:AH0 fuel a1 a4 a8 Ai=some r):ACo Tryz.prog 24 #[(.agg #[(.int .i64 a1),Ao,Aq]),(.int .i64 Ai)] h (fun x h'=>Ext h h'/\x= .bool r):=by
 unfold AH0 at hp;refine cwf (l:=[_,_]) Tryz.func24 rfl rfl (ABp (AFk [(.int .i64 a1),Ao,Aq] trivial tt2 rfl rfl fun Cp Cq Bm Bn Bo=>ABv ?_));have Ab:=(Kst.k0 h).nb Bn Bo Bm;obtain ⟨Bp,Ba,Av⟩:=ABq hp;refine AL7 2096656 (fun x:Unit=>[]) (fun x h'=>(Sum.inr <| ())=Bp/\Kst h h' (Ab.L)) ?_ ?_
 ·refine ABp (ADh APe rfl (AB3 AS2 rfl ((Ab.b p0).cell (i:=1) rfl) (ADa ACd rfl H3 (Wo (AEt rfl rfl (Wo ?_))))));by_cases Aj: ¬ (a4.length:Int)=Ai
  ·rw [decide_eq_true Aj];refine AHn 14 true (AB5 rfl (ABt (ACh rfl (ABp (ABv ?_)))));obtain rfl:=ABo (ifT Ba Aj);refine ABx (AB2 ?_);obtain rfl:=ABo Av;exact ⟨_,ABz,Ab.x,rfl⟩
  ·have Bb:=ifF Ba Aj;rw [decide_eq_false Aj];refine AB4 14 false (ADh AOn rfl (AB4 14 false (AB3 AUe rfl ((Ab.b p0).cell (i:=2) rfl) (AB4 14 false (ADi APd rfl H7 (AB4 14 false (Wo (AB4 14 false (AGq rfl rfl (AB0 rfl (ABt (⟨_,rfl,fun Aw=>?_,fun Aw=>?_⟩))))))))))))
   ·refine ABp (ABv ?_);obtain rfl:=ABo (AC8 Bb Aw);refine ABx (AB2 ?_);obtain rfl:=ABo Av;exact ⟨_,ABz,Ab.x,rfl⟩
   ·refine ABy (q_t ?_);exact ⟨(():Unit),⟨ABo (AC9 Bb Aw),Ab⟩,trivial⟩
 rintro ⟨⟩ Cr Ct ⟨Bq,Ax⟩;subst Bq;refine ABr (ABp (ADh APe rfl (AB3 AS2 rfl ((Ax.b p0).cell (i:=1) rfl) (ADa ACd rfl H3 (Wo (ABt (ABw ?_)))))));obtain ⟨Ay,Br,Bc⟩:=ABq Av;obtain ⟨Bt,Bu,Bv⟩:=ACe Br;refine ACq 8573157456 (fun x:(Int)=>[(24,(.int .i64 x))]) (fun k x h'=>iter Bt k x=some Ay/\Kst h h' (Ax.L)) (by kernel_rfl) fuel (0:(Int)) ?_ ⟨rfl,trivial⟩ ?_
 ·exact ⟨Bv,Ax⟩
 rintro Cu Bw Cv Cw ⟨Bx,Ad⟩;obtain ⟨By,Cx,rfl,Ae,Af⟩:=AB8 Bx;rw [Bu] at Ae;dsimp only at Ae;unfold AIc at Ae;refine ABp (ACu rfl rfl (ABt (ABr (⟨_,rfl,fun Az=>?_,fun Az=>?_⟩))))
 ·refine ABy (q_t (ABr (ABw (ABp ?_))));obtain ⟨Cy,Bz,Be⟩:=ABq (AC8 Ae Az);refine AFj ACd rfl H3 rfl Bz fun Cz C0 C1 B1 B3=>AB3 AC0 rfl (AB1 B1 Ad.x) (AC4 (Wo (ADi ACp rfl B3 (Wo (AEt rfl rfl (ABt (⟨_,rfl,fun A3=>?_,fun A3=>?_⟩)))))))
  ·refine ABp (ABv ?_);obtain rfl:=ABo (AC8 Be A3);change _=Ay at Af;subst Af;refine ABx (ADb (AB2 (AB2 (ADb (AB2 ?_)))));obtain rfl:=ABo Bc;exact ⟨_,ABz,Ad.x,rfl⟩
  ·refine ABy (q_b (q_t (AB6 (ACx rfl rfl (Wo (ABt ?_))))));obtain rfl:=ABo (AC9 Be A3);exact ⟨By,((w64 (Bw + 1)):(Int)),Nat.lt_succ_self _,⟨Af,Ad⟩,rfl,trivial⟩
 ·obtain rfl:=ABo (AC9 Ae Az);change _=Ay at Af;subst Af;refine ACg (ACi (ACi (ADp (q_t (ABr (ABp (ADh AOn rfl (AB3 AUe rfl ((Ad.b p0).cell (i:=2) rfl) (ADi APd rfl H7 (Wo (ABt (ABw ?_))))))))))));obtain ⟨A4,B4,Bf⟩:=ABq Bc;obtain ⟨B5,B6,B7⟩:=ACe B4;have A5:=Ad.sel [] (by decide);dsimp only [AIq,ALo] at A5;refine ACq 9007130535264530 (fun x:(Int) × (Int)=>[(1,(.int .i64 x.1)),(36,(.int .i64 x.2))]) (fun k x h'=>iter B5 k (x.1,x.2)=some A4/\Kst h h' (A5.L)) (by kernel_rfl) fuel ((Ai,0):(Int) × (Int)) ?_ ⟨rfl,rfl,trivial⟩ ?_
  ·exact ⟨B7,A5⟩
  rintro C2 ⟨B8,B9⟩ C3 C4 ⟨Ca,A6⟩;obtain ⟨Cb,C5,rfl,Ag,Ah⟩:=AB8 Ca;rw [B6] at Ag;dsimp only at Ag;unfold AKo at Ag;refine ABp (ACu rfl rfl (ABt (ABr (⟨_,rfl,fun A7=>?_,fun A7=>?_⟩))))
  ·refine ABy (q_t (ABr (ABw (ABp ?_))));obtain ⟨Aa,Cd,Ce⟩:=ABq (AC8 Ag A7);refine AHg (c:=APo) APd rfl H7 rfl Cd fun C6 C7 C8 Cf Cg=>?_;obtain rfl:=Cf;refine ANm (c:=APo) ANn rfl rfl (fun j u hu=>(AB1 (Cg j u hu) A6.x)) (ADj [(.int .i64 0),(.int .i64 0),(.int .i64 0),(.int .i64 0),(.int .i64 0)] AWd rfl trivial tt2 fun C9 Da Ch Ci Cj=>?_);have Bg:=A6.nb Ci Cj Ch;refine AC6 [(.int .i64 Aa.1),(.int .i64 Aa.2.1),(.int .i64 Aa.2.2.1),(.int .i64 Aa.2.2.2.1),(.int .i64 Aa.2.2.2.2)] ANn rfl rfl rfl rfl (by simp [isOne]) (Bg.b p0) fun Db Ck Cm=>ABt ?_;have Ac:=Bg.sb p0 Cm Ck rfl;obtain ⟨Cn,Bh,Bi⟩:=ABq Ce;refine AL7 280375465082896 (fun x:Unit=>[]) (fun x h'=>(Sum.inr <| ())=Cn/\Kst h h' (Ac.L)) ?_ ?_
   ·refine ABp (ADh AMf rfl (AB3 ADe rfl ((Ac.b p0).cell (i:=1) rfl) (AEt rfl rfl (Wo ?_))));by_cases Ak: ¬ Aa.2.1=1
    ·have Bj:=ifT Bh Ak;rw [decide_eq_true Ak];refine AB4 43 true (ADh AMf rfl (AB4 43 true (AB3 ADe rfl ((Ac.b p0).cell (i:=1) rfl) (AB4 43 true (AEt rfl rfl (AB5 rfl (ABt (⟨_,rfl,fun A8=>?_,fun A8=>?_⟩))))))))
     ·refine ABp (ABv ?_);obtain rfl:=ABo (AC8 Bj A8);obtain rfl:=ABo Bi;change _=A4 at Ah;subst Ah;refine ABx (AB2 (ADb (AB2 (AB2 (ADb (AB2 ?_))))));obtain rfl:=ABo Bf;exact ⟨_,ABz,Ac.x,rfl⟩
     ·refine ABy (q_t ?_);exact ⟨(():Unit),⟨ABo (AC9 Bj A8),Ac⟩,trivial⟩
    ·rw [decide_eq_false Ak];refine AE3 43 false (AB0 rfl (ABt (ACn rfl (ABy (q_t ?_)))));exact ⟨(():Unit),⟨ABo (ifF Bh Ak),Ac⟩,trivial⟩
   rintro ⟨⟩ Dc Dd ⟨Co,Bl⟩;subst Co;refine AB6 (Wo (ADh AMf rfl (AB3 ADe rfl ((Bl.b p0).cell (i:=1) rfl) (AHm rfl rfl (ACr (ACs (q_b (q_t (AB6 (ACx rfl rfl (Wo (ABt ?_))))))))))));obtain rfl:=ABo Bi;exact ⟨Cb,(((w64 (B8 - Aa.2.1)),(w64 (B9 + 1))):(Int) × (Int)),Nat.lt_succ_self _,⟨Ah,Bl.sel [] (by decide)⟩,rfl,rfl,trivial⟩
  ·obtain rfl:=ABo (AC9 Ag A7);change _=A4 at Ah;subst Ah;refine ACg (ACi (ACi (ADp (q_t (ABp (Wo (AEf rfl rfl (ABv (ABx ?_)))))))));obtain rfl:=ABo Bf;exact ⟨_,ABz,A6.x,rfl⟩
def AId (fuel:Nat) (Ad:Int) (Ab:LiA) (Aa:Int):Option ((Int) ⊕ ((Bool) ⊕ (Unit))):=
  (if Aa < (Ab.length:Int) then ((gI Ab Aa).bind fun Ac=>(if Ac < 0 then (some (Sum.inr<| Sum.inl <| false)) else (if Ad<=Ac then (some (Sum.inr<| Sum.inl <| false)) else (some (Sum.inl (w64 (Aa + 1))))))) else (some (Sum.inr<| Sum.inr <| ())))
def AGp (fuel:Nat) (a8:LiI) (Ac Aa:Int):Option ((Int) ⊕ ((Bool) ⊕ (Unit))):=
  (if Aa < (a8.length:Int) then ((gI a8 Aa).bind fun Ad=>((iter (fun s=>AId fuel Ac Ad s) fuel 0).bind (fun ex=>match ex with | Sum.inl Ae=>(some (Sum.inr<| Sum.inl <| Ae)) | Sum.inr (_)=>(some (Sum.inl (w64 (Aa + 1))))))) else (some (Sum.inr<| Sum.inr <| ())))
def AIe (fuel:Nat) (a5:Int) (Ac:(List AIp)) (Ae Aa:Int):Option ((Int) ⊕ ((Bool) ⊕ (Unit))):=
  (if Aa < (Ac.length:Int) then ((gI Ac Aa).bind fun Ab=>((AHy fuel Ab.1 Ab.2.1 Ab.2.2.1 Ab.2.2.2.1 Ab.2.2.2.2 a5 Ae).bind fun Af=>(if (!Af)=true then (some (Sum.inr<| Sum.inl <| false)) else (if 0 < Aa then ((gI Ac (w64 (Aa - 1))).bind fun Ag=>(if Ab.1 < Ag.1 then (some (Sum.inr<| Sum.inl <| false)) else (some (Sum.inl (w64 (Aa + 1)))))) else (some (Sum.inl (w64 (Aa + 1)))))))) else (some (Sum.inr<| Sum.inr <| ())))
def AH1 (fuel:Nat) (a3:LiI) (a5:Int) (a8:LiI) (Ae:(List AIp)):Option Bool:=
  ((AGj fuel a3 a5).bind fun Af=>((AFr fuel a5 Af).bind fun Ad=>((iter (fun s=>AIe fuel a5 Ae Af s) fuel 0).bind (fun ex=>match ex with | Sum.inl Ag=>(some Ag) | Sum.inr (_)=>((iter (fun s=>AGp fuel a8 Ad s) fuel 0).bind (fun ex=>match ex with | Sum.inl Ah=>(some Ah) | Sum.inr (_)=>((AH4 fuel a8 a5).bind fun (Ai,Ao)=>((AF9 fuel a3 a8 Ad).bind fun (Aj,Ap)=>(if ¬ Ai=0 then ((AHz fuel Ae (a3.length:Int) a5 Ad).bind fun Ak=>((AIu fuel Aj Ak).bind fun Am=>(some Am))) else (some false))))))))))
theorem AR6 {fuel:Nat} {h:ABu} {Bm:Value} {a3:LiI} {a5:Int} {A3:Value} {a8:LiI} {A4:Value} {Bp:(List AIp)} {r:Bool} (H2:AEq (cI .i64) h Bm a3) (H7:AEq (cI .i64) h A3 a8) (Ap:SlC APo h A4 Bp) (hp:AH1 fuel a3 a5 a8 Bp=some r):ACo Tryz.prog 25 #[Bm,(.agg #[(.int .i64 a5),A3,A4])] h (fun x h'=>Ext h h'/\x= .bool r):=by
 unfold AH1 at hp;refine cwf (l:=[_,_]) Tryz.func25 rfl rfl (ABp (AFk [(.int .i64 a5),A3,A4] trivial tt2 rfl rfl fun D8 D9 B4 B5 B6=>AC4 (Wo (ADh AQv rfl ?_))));have A6:=(Kst.k0 h).nb B5 B6 B4;refine AB3 ACw rfl ((A6.b p0).cell (i:=0) rfl) ?_;obtain ⟨Ea,B7,B8⟩:=ABq hp;refine ADc rfl (AR1 (H2.ext A6.x) B7) fun Eb Ec B9 Ca=>?_;subst Ca;refine AC4 (ADh AQv rfl ?_);have Bq:=A6.e B9;refine AB3 ACw rfl ((Bq.b p0).cell (i:=0) rfl) (Wo ?_);obtain ⟨Ed,Cb,Cd⟩:=ABq B8;refine ADc rfl (ALb Cb) fun Ee Ef Ce Cf=>?_;subst Cf;refine ABv (ABr (ABp (ADh AOn rfl ?_)));have A7:=Bq.e Ce;refine AB3 AUe rfl ((A7.b p0).cell (i:=2) rfl) (ADi APd rfl Ap (Wo (ABt (ABw ?_))));obtain ⟨Aq,Cg,A8⟩:=ABq Cd;obtain ⟨Ch,Ci,Cj⟩:=ACe Cg;refine ACq 72057593769492880 (fun x:(Int)=>[(28,(.int .i64 x))]) (fun k x h'=>iter Ch k x=some Aq/\Kst h h' (A7.L)) (by kernel_rfl) fuel (0:(Int)) ?_ ⟨rfl,trivial⟩ ?_
 ·exact ⟨Cj,A7⟩
 rintro Eg A9 Eh Ei ⟨Ck,Ag⟩;obtain ⟨Br,Ej,rfl,Ah,Ab⟩:=AB8 Ck;rw [Ci] at Ah;dsimp only at Ah;unfold AIe at Ah;refine ABp (ACu rfl rfl (ABt (ABr (⟨_,rfl,fun Ba=>?_,fun Ba=>?_⟩))))
 ·refine ABy (q_t (ABr (ABw (ABp (Wo ?_)))));obtain ⟨Aa,Cm,Cn⟩:=ABq (AC8 Ah Ba);refine AHg (c:=APo) APd rfl Ap rfl Cm fun Ek El Em Co Cp=>?_;obtain rfl:=Co;refine ANm (c:=APo) ANn rfl rfl (fun j u hu=>(AB1 (Cp j u hu) Ag.x)) (ADj [(.int .i64 0),(.int .i64 0),(.int .i64 0),(.int .i64 0),(.int .i64 0)] AWd rfl trivial tt2 fun En Eo Cq Cr Ct=>ACr ?_);have Bt:=Ag.nb Cr Ct Cq;refine AC6 [(.int .i64 Aa.1),(.int .i64 Aa.2.1),(.int .i64 Aa.2.2.1),(.int .i64 Aa.2.2.2.1),(.int .i64 Aa.2.2.2.2)] ANn rfl rfl rfl rfl (by simp [isOne]) (Bt.b p0) fun Ep Cu Cv=>ABt (ABr (AI7 ?_));have Bb:=Bt.sb p0 Cv Cu rfl;refine AEk [(.int .i64 Aa.1),(.int .i64 Aa.2.1),(.int .i64 Aa.2.2.1),(.int .i64 Aa.2.2.2.1),(.int .i64 Aa.2.2.2.2)] ANn rfl rfl (Bb.b p0).agg (ADh AQv rfl (AB3 ACw rfl ((Bb.b p1).cell (i:=0) rfl) (Wo ?_)));obtain ⟨Cw,Cx,Bu⟩:=ABq Cn;refine ADc rfl (AR3 Cx) fun Er Es Cy Cz=>?_;subst Cz;refine AEy rfl (Wo ?_);have Ac:=Bb.e Cy;cases Bv:(!Cw)
  ·refine AB4 39 false (Wo (AB4 39 false (AGq rfl rfl (AB4 39 false (Wo ?_)))));have Bw:=AHo Bu Bv;by_cases Ar:0 < A9
   ·rw [decide_eq_true Ar];refine AB4 42 true (ADh AH9 rfl (AB4 42 true (AB3 ADe rfl ((Ac.b p0).cell (i:=0) rfl) (AB4 42 true (ADh AOn rfl (AB4 42 true (AB3 AUe rfl ((Ac.b p1).cell (i:=2) rfl) (AB4 42 true (Wo (AB4 42 true (AHm rfl rfl (AB4 42 true ?_))))))))))));obtain ⟨Et,C0,Bx⟩:=ABq (ifT Bw Ar);refine AHg (c:=APo) APd rfl Ap rfl C0 fun Eu Ev Ew C1 C2=>?_;obtain rfl:=C1;refine AB4 42 true (ADh AH9 rfl (AB4 42 true (AB3 ADe rfl (AB1 (C2 0 _ rfl) Ac.x) (AB4 42 true (ACu rfl rfl (AB4 39 false (AB5 rfl (AB0 rfl (ABt (⟨_,rfl,fun Bc=>?_,fun Bc=>?_⟩))))))))))
    ·refine ABp (ABv ?_);obtain rfl:=ABo (AC8 Bx Bc);change _=Aq at Ab;subst Ab;refine ABx (ADb (AB2 (AB2 (ADb (AB2 ?_)))));obtain rfl:=ABo A8;exact ⟨_,ABz,Ac.x,rfl⟩
    ·refine ABy (q_b (q_t (AB6 (ACx rfl rfl (Wo (ABt ?_))))));obtain rfl:=ABo (AC9 Bx Bc);exact ⟨Br,((w64 (A9 + 1)):(Int)),Nat.lt_succ_self _,⟨Ab,Ac.sel [1] (by decide)⟩,rfl,trivial⟩
   ·rw [decide_eq_false Ar];refine AHn 42 false (AHn 42 false (AB4 39 false (AB0 rfl (AB0 rfl (ABt (ACn rfl (ABy (q_b (q_t (AB6 (ACx rfl rfl (Wo (ABt ?_)))))))))))));obtain rfl:=ABo (ifF Bw Ar);exact ⟨Br,((w64 (A9 + 1)):(Int)),Nat.lt_succ_self _,⟨Ab,Ac.sel [1] (by decide)⟩,rfl,trivial⟩
  ·refine AE3 39 true (AEc 42 (by kernel_rfl) rfl (AEc 42 (by kernel_rfl) rfl (AEc 42 (by kernel_rfl) rfl (AEc 42 (by kernel_rfl) rfl (AEc 42 (by kernel_rfl) rfl (AEc 42 (by kernel_rfl) rfl (AEc 42 (by kernel_rfl) rfl (AEc 42 (by kernel_rfl) rfl (AEc 42 (by kernel_rfl) rfl (AEc 42 (by kernel_rfl) rfl (Abf 39 true (AB5 rfl (ABt (ACh rfl (ABp (ABv ?_))))))))))))))));obtain rfl:=ABo (ifT Bu Bv);change _=Aq at Ab;subst Ab;refine ABx (ADb (AB2 (AB2 (ADb (AB2 ?_)))));obtain rfl:=ABo A8;exact ⟨_,ABz,Ac.x,rfl⟩
 ·obtain rfl:=ABo (AC9 Ah Ba);change _=Aq at Ab;subst Ab;refine ACg (ACi (ACi (ADp (q_t (ABr (ABp (ADh APe rfl (AB3 AS2 rfl ((Ag.b p0).cell (i:=1) rfl) (ADa ACd rfl H7 (Wo (ABt (ABw ?_))))))))))));obtain ⟨Au,C3,Be⟩:=ABq A8;obtain ⟨C4,C5,C6⟩:=ACe C3;refine ACq 302230878442904990258192 (fun x:(Int)=>[(59,(.int .i64 x))]) (fun k x h'=>iter C4 k x=some Au/\Kst h h' (Ag.L)) (by kernel_rfl) fuel (0:(Int)) ?_ ⟨rfl,trivial⟩ ?_
  ·exact ⟨C6,Ag⟩
  rintro Ey C7 Ez Fa ⟨C8,Ad⟩;obtain ⟨C9,Fb,rfl,Ai,Ae⟩:=AB8 C8;rw [C5] at Ai;dsimp only at Ai;unfold AGp at Ai;refine ABp (ACu rfl rfl (ABt (ABr (⟨_,rfl,fun Bf=>?_,fun Bf=>?_⟩))))
  ·refine ABy (q_t (ABr (ABw (ABp ?_))));obtain ⟨Fc,Da,Db⟩:=ABq (AC8 Ai Bf);refine AFj ACd rfl H7 rfl Da fun Fd Fe Ff Dc By=>AB3 AC0 rfl (AB1 Dc Ad.x) (AC4 (Wo (ADi ACp rfl By (Wo (ABt (ABw ?_))))));obtain ⟨Av,Dd,Bg⟩:=ABq Db;obtain ⟨De,Df,Dg⟩:=ACe Dd;refine ACq 151078833963681227739152 (fun x:(Int)=>[(65,(.int .i64 x))]) (fun k x h'=>iter De k x=some Av/\Kst h h' (Ad.L)) (by kernel_rfl) fuel (0:(Int)) ?_ ⟨rfl,trivial⟩ ?_
   ·exact ⟨Dg,Ad⟩
   rintro Fg Dh Fh Fi ⟨Di,Aj⟩;obtain ⟨Dj,Fj,rfl,Ak,Af⟩:=AB8 Di;rw [Df] at Ak;dsimp only at Ak;unfold AId at Ak;refine ABp (ACu rfl rfl (ABt (ABr (⟨_,rfl,fun Bh=>?_,fun Bh=>?_⟩))))
   ·refine ABy (q_t (ABr (ABw (ABp ?_))));obtain ⟨Dk,Dl,Bz⟩:=ABq (AC8 Ak Bh);refine AHg (c:=(cI .i64)) ACp rfl By rfl Dl fun Fk Fl Fm Dn Do=>?_;obtain rfl:=Dn;refine AB3 ACw rfl (AB1 (Do 0 _ rfl) Aj.x) (AC4 (Wo (ACu rfl rfl (Wo ?_))));by_cases Aw:Dk < 0
    ·rw [decide_eq_true Aw];refine AE3 71 true (AB5 rfl (ABt (ACh rfl (ABp (ABv ?_)))));obtain rfl:=ABo (ifT Bz Aw);change _=Av at Af;subst Af;obtain rfl:=ABo Bg;change _=Au at Ae;subst Ae;refine ABx (ADb (AB2 (AB2 (ADb (ADb (AB2 (AB2 (ADb (AB2 ?_)))))))));obtain rfl:=ABo Be;exact ⟨_,ABz,Aj.x,rfl⟩
    ·have B1:=ifF Bz Aw;rw [decide_eq_false Aw];refine AB4 71 false (Wo (AB4 71 false (Wo (AB4 71 false (AM5 rfl rfl (AB0 rfl (ABt (⟨_,rfl,fun Bi=>?_,fun Bi=>?_⟩))))))))
     ·refine ABp (ABv ?_);obtain rfl:=ABo (AC8 B1 Bi);change _=Av at Af;subst Af;obtain rfl:=ABo Bg;change _=Au at Ae;subst Ae;refine ABx (ADb (AB2 (AB2 (ADb (ADb (AB2 (AB2 (ADb (AB2 ?_)))))))));obtain rfl:=ABo Be;exact ⟨_,ABz,Aj.x,rfl⟩
     ·refine ABy (q_b (q_t (AB6 (ACx rfl rfl (Wo (ABt ?_))))));obtain rfl:=ABo (AC9 B1 Bi);exact ⟨Dj,((w64 (Dh + 1)):(Int)),Nat.lt_succ_self _,⟨Af,Aj⟩,rfl,trivial⟩
   ·obtain rfl:=ABo (AC9 Ak Bh);change _=Av at Af;subst Af;refine ACg (ACi (ACi (ADp (q_b (q_t (AB6 (ACx rfl rfl (Wo (ABt ?_)))))))));obtain rfl:=ABo Bg;exact ⟨C9,((w64 (C7 + 1)):(Int)),Nat.lt_succ_self _,⟨Ae,Aj⟩,rfl,trivial⟩
  ·obtain rfl:=ABo (AC9 Ai Bf);change _=Au at Ae;subst Ae;refine ACg (ACi (ACi (ADp (q_t (ABp (ADh APe rfl (AB3 AS2 rfl ((Ad.b p0).cell (i:=1) rfl) (ADh AQv rfl (AB3 ACw rfl ((Ad.b p0).cell (i:=0) rfl) ?_)))))))));obtain ⟨⟨Dp,Fo⟩,Dq,B3⟩:=ABq Be;dsimp only at B3;refine ADc rfl (AT7 (H7.ext Ad.x) Dq) fun Fp Fq Dr Ds=>?_;subst Ds;refine Wo (ADn rfl rfl (ADn rfl rfl (ACr (AC4 (Wo (ADh APe rfl ?_))))));have Ax:=Ad.e Dr;refine AB3 AS2 rfl ((Ax.b p0).cell (i:=1) rfl) (Wo ?_);obtain ⟨⟨Fr,Ft⟩,Dt,Bj⟩:=ABq B3;dsimp only at Bj;refine ADc rfl (AQc (H2.ext Ax.x) (H7.ext Ax.x) Dt) fun Fu Fv Du Dv=>?_;obtain ⟨Fw,Fx,Fy,Fz,rfl,Dw,Dx⟩:=Dv;refine Wo (ADn rfl rfl (ADn rfl rfl (ACr (AC4 (Wo (AEt rfl rfl (Wo ?_)))))));have Am:=Ax.no2 Du Dx Dw;by_cases Ay: ¬ Dp=0
   ·rw [decide_eq_true Ay];refine AB4 96 true (Wo (AB4 96 true (ADh AOn rfl (AB4 96 true (AB3 AUe rfl ((Am.b p1).cell (i:=2) rfl) (AB4 96 true (Wo (AB4 96 true (ADa ACd rfl H2 (AB4 96 true (ADh AQv rfl (AB4 96 true (AB3 ACw rfl ((Am.b p1).cell (i:=0) rfl) (AB4 96 true (Wo (AB4 96 true ?_))))))))))))))));obtain ⟨F4,Dy,Dz⟩:=ABq (ifT Bj Ay);refine ADc rfl (AR4 (Ap.ext Am.x) Dy) fun F5 F6 D0 D1=>?_;obtain ⟨F7,F8,F9,Ga,rfl,D2,D3⟩:=D1;refine AB4 96 true ?_;have Bl:=Am.no2 D0 D3 D2;obtain ⟨Gb,D4,D5⟩:=ABq Dz;refine ADc rfl (ATc (Bl.o2 p1).rd (Bl.o2 p0).rd D4) fun Gc Gd D6 D7=>?_;subst D7;refine AB5 rfl (ABv (ABx ?_));obtain rfl:=ABo D5;exact ⟨_,ABz,(Bl.e D6).x,rfl⟩
   ·rw [decide_eq_false Ay];refine AHn 96 false (AHn 96 false (AB0 rfl (ABv (ABx ?_))));obtain rfl:=ABo (ifF Bj Ay);exact ⟨_,ABz,Am.x,rfl⟩
def AE1 (fuel:Nat) (a3:LiI) (a5:Int) (a8:LiI) (Ad:(List AIp)):Option Int:=
  ((AE9 fuel a3).bind fun Ae=>(if (!Ae)=true then (some 6) else (if ¬ a5=2 then (some 20) else ((AH0 fuel a5 a8 Ad (a3.length:Int)).bind fun Af=>(if (!Af)=true then (some 3) else ((AH1 fuel a3 a5 a8 Ad).bind fun Ag=>(if (!Ag)=true then (some 10) else (some 0))))))))
theorem ANw {fuel:Nat} {h:ABu} {Ak:Value} {a3:LiI} {a5:Int} {Ad:Value} {a8:LiI} {Ae:Value} {Ap:(List AIp)} {r:Int} (H2:AEq (cI .i64) h Ak a3) (H7:AEq (cI .i64) h Ad a8) (Ar:SlC APo h Ae Ap) (hp:AE1 fuel a3 a5 a8 Ap=some r):ACo Tryz.prog 9 #[Ak,(.agg #[(.int .i64 a5),Ad,Ae])] h (fun x h'=>Ext h h'/\x= .int .i64 r):=by
 unfold AE1 at hp;refine cwf (l:=[_,_]) Tryz.func9 rfl rfl (ABp (AFk [(.int .i64 a5),Ad,Ae] trivial tt2 rfl rfl fun Bg Bh A3 A4 A5=>ABv (ABr (ABp (Wo ?_)))));have Au:=(Kst.k0 h).nb A4 A5 A3;obtain ⟨Bi,A6,Av⟩:=ABq hp;refine ADc rfl (AQo (H2.ext Au.x) A6) fun Bj Bl A7 A8=>?_;subst A8;refine AEy rfl (ABt ?_);have Aa:=Au.e A7;refine ⟨_,rfl,fun Ag=>?_,fun Ag=>?_⟩
 ·refine ABp (ABv (ABx (AB2 ?_)));obtain rfl:=ABo (ifT Av Ag);exact ⟨_,ABz,Aa.x,rfl⟩
 ·refine ABy (q_t (ABr (ABp (ADh AQv rfl (AB3 ACw rfl ((Aa.b p0).cell (i:=0) rfl) (AEt rfl rfl (ABt ?_)))))));have Aw:=AHo Av Ag;refine ⟨_,rfl,fun Ah=>?_,fun Ah=>?_⟩
  ·refine ABp (ABv (ABx (AB2 ?_)));obtain rfl:=ABo (AC8 Aw Ah);exact ⟨_,ABz,Aa.x,rfl⟩
  ·refine ABy (q_t (ABr (ABp (AEk [(.int .i64 a5),Ad,Ae] AQk rfl rfl (Aa.b p0).agg (Wo (ADa ACd rfl H2 ?_))))));obtain ⟨Bm,A9,Ax⟩:=ABq (AC9 Aw Ah);refine ADc rfl (AR5 (H7.ext Aa.x) (Ar.ext Aa.x) A9) fun Bn Bo Ba Bb=>?_;subst Bb;refine AEy rfl (ABt ?_);have Ab:=Aa.e Ba;refine ⟨_,rfl,fun Ai=>?_,fun Ai=>?_⟩
   ·refine ABp (ABv (ABx (AB2 ?_)));obtain rfl:=ABo (ifT Ax Ai);exact ⟨_,ABz,Ab.x,rfl⟩
   ·refine ABy (q_t (ABr (ABp (Wo (AEk [(.int .i64 a5),Ad,Ae] AQk rfl rfl (Ab.b p0).agg ?_)))));obtain ⟨Bp,Bc,Ay⟩:=ABq (AHo Ax Ai);refine ADc rfl (AR6 (H2.ext Ab.x) (H7.ext Ab.x) (Ar.ext Ab.x) Bc) fun Bq Br Be Bf=>?_;subst Bf;refine AEy rfl (ABt ?_);have Az:=Ab.e Be;refine ⟨_,rfl,fun Aj=>?_,fun Aj=>?_⟩
    ·refine ABp (ABv (ABx (AB2 ?_)));obtain rfl:=ABo (ifT Ay Aj);exact ⟨_,ABz,Az.x,rfl⟩
    ·refine ABy (q_t (ABp (ABv (ABx ?_))));obtain rfl:=ABo (AHo Ay Aj);exact ⟨_,ABz,Az.x,rfl⟩
def ANf (fuel:Nat) (a3 a7:(List AMd)) (Ac:Int):Option ((Int) ⊕ ((Bool) ⊕ (Unit))):=
  (if Ac < (a3.length:Int) then ((gI a3 Ac).bind fun Aa=>((gI a7 Ac).bind fun Ab=>(if (!(decide ((Aa.1,Aa.2.1,Aa.2.2.1,Aa.2.2.2.1,Aa.2.2.2.2)=(Ab.1,Ab.2.1,Ab.2.2.1,Ab.2.2.2.1,Ab.2.2.2.2))))=true then (some (Sum.inr<| Sum.inl <| false)) else (some (Sum.inl (w64 (Ac + 1))))))) else (some (Sum.inr<| Sum.inr <| ())))
def ALe (fuel:Nat) (a3 a7:(List AMd)):Option Bool:=
  (if ¬ (a3.length:Int)=(a7.length:Int) then (some false) else ((iter (fun s=>ANf fuel a3 a7 s) fuel 0).bind (fun ex=>match ex with | Sum.inl Ac=>(some Ac) | Sum.inr (_)=>(some true))))
theorem AQ2 {fuel:Nat} {h:ABu} {Aj:Value} {a3:(List AMd)} {Am:Value} {a7:(List AMd)} {r:Bool} (H2:SlC APb h Aj a3) (H6:SlC APb h Am a7) (hp:ALe fuel a3 a7=some r):ACo Tryz.prog 16 #[Aj,Am] h (fun x h'=>Ext h h'/\x= .bool r):=by
 unfold ALe at hp;refine cwf (l:=[_,_]) Tryz.func16 rfl rfl (ABp (ABv (ABr (ABp (Wo (ADi AUd rfl H2 (Wo (ADi AUd rfl H6 (AEt rfl rfl (ABt ?_))))))))));have K0:=Kst.k0 h;refine ⟨_,rfl,fun Af=>?_,fun Af=>?_⟩
 ·refine ABp (ABv (ABx (AB2 ?_)));obtain rfl:=ABo (AC8 hp Af);exact ⟨_,ABz,K0.x,rfl⟩
 ·refine ABy (q_t (ABr (ABp (Wo (ADi AUd rfl H2 (Wo (ABt (ABw ?_))))))));obtain ⟨Ag,Au,Aq⟩:=ABq (AC9 hp Af);obtain ⟨Av,Aw,Ax⟩:=ACe Au;refine ACq 67100720 (fun x:(Int)=>[(13,(.int .i64 x))]) (fun k x h'=>iter Av k x=some Ag/\Kst h h' (K0.L)) (by kernel_rfl) fuel (0:(Int)) ?_ ⟨rfl,trivial⟩ ?_
  ·exact ⟨Ax,K0⟩
  rintro Bb Ay Bc Be ⟨Az,Aa⟩;obtain ⟨A3,Bf,rfl,Ab,Ac⟩:=AB8 Az;rw [Aw] at Ab;dsimp only at Ab;unfold ANf at Ab;refine ABp (ACu rfl rfl (ABt (ABr (⟨_,rfl,fun Ah=>?_,fun Ah=>?_⟩))))
  ·refine ABy (q_t (ABr (ABw (ABp (Wo (ABv (ABr (AI7 (Wo (Wo ?_))))))))));obtain ⟨Bg,A4,A5⟩:=ABq (AC8 Ab Ah);refine AHg (c:=APb) AUd rfl H2 rfl A4 fun Bh Bi Bj A6 A7=>?_;obtain rfl:=A6;refine ANm (c:=APb) Acq rfl rfl (fun j u hu=>(AB1 (A7 j u hu) Aa.x)) (Wo (Wo ?_));obtain ⟨Bl,A8,Ar⟩:=ABq A5;refine AHg (c:=APb) AUd rfl H6 rfl A8 fun Bm Bn Bo A9 Ba=>?_;obtain rfl:=A9;refine ANm (c:=APb) Acq rfl rfl (fun j u hu=>(AB1 (Ba j u hu) Aa.x)) (At5 (by kernel_rfl) rfl rfl (Auj _ _ _ _ _ _ _ _ _ _) (ABt (⟨_,rfl,fun Ai=>?_,fun Ai=>?_⟩)))
   ·refine ABp (ABv ?_);obtain rfl:=ABo (ifT Ar Ai);change _=Ag at Ac;subst Ac;refine ABx (ADb (AB2 (AB2 (ADb (AB2 ?_)))));obtain rfl:=ABo Aq;exact ⟨_,ABz,Aa.x,rfl⟩
   ·refine ABy (q_b (q_t (AB6 (ACx rfl rfl (Wo (ABt ?_))))));obtain rfl:=ABo (AHo Ar Ai);exact ⟨A3,((w64 (Ay + 1)):(Int)),Nat.lt_succ_self _,⟨Ac,Aa⟩,rfl,trivial⟩
  ·obtain rfl:=ABo (AC9 Ab Ah);change _=Ag at Ac;subst Ac;refine ACg (ACi (ACi (ADp (q_t (ABp (ABv (ABx ?_)))))));obtain rfl:=ABo Aq;exact ⟨_,ABz,Aa.x,rfl⟩
end Go.Proofs.YtdnbklmefmoofaaGreatDoor
namespace Go.Proofs.YtdnbklmefmoofaaGreatDoor
open Go Go.QF
set_option maxRecDepth 100000
theorem APy {E:Type} {body:Int->Option (Int ⊕ (E ⊕ Unit))} {fuel n:Nat} (good:Nat->Prop) (bad:E) (hf:n < fuel) (hs:∀ i:Nat,i < n->Ok (body (i:Int)) fun r=>(r= .inl ((i + 1:Nat):Int)/\good i)∨(r= .inr (.inl bad)/\¬ good i)) (he:body (n:Int)=some (.inr (.inr ()))):
    Ok (iter body fuel 0) fun ex=>(ex= .inr ()/\ ∀ i,i < n->good i)∨(ex= .inl bad/\¬ ∀ i,i < n->good i):=by
  refine AC3 (fun i s=>s=(i:Int)/\ ∀ j,j < i->good j) n ⟨rfl,fun j hj=>absurd hj (Nat.not_lt_zero j)⟩ hf fun i s hi hI=>?_;obtain ⟨rfl,hI⟩:=hI
  by_cases h:i < n
  · refine Ap0 (hs i h) fun r hr=>?_
    rcases hr with ⟨rfl,hg⟩ | ⟨rfl,hg⟩
    · exact ⟨h,rfl,fun j hj=>(Nat.lt_succ_iff_lt_or_eq.1 hj).elim (hI j) fun e=>e ▸ hg⟩
    · exact .inr ⟨rfl,fun hall=>hg (hall i h)⟩
  · obtain rfl:i=n:=by omega
    rw [he];exact ABn (.inl ⟨rfl,hI⟩)
theorem Adp {α:Type} {body:List α × Int->Option ((List α × Int) ⊕ List α)} {fuel n:Nat} (f:Nat->α) (hf:n < fuel) (hs:∀ i:Nat,i < n->body (AEl i f,(i:Int))=some (.inl (AEl i f ++ [f i],((i + 1:Nat):Int)))) (he:∀ X,body (X,(n:Int))=some (.inr X)):iter body fuel ([],0)=some (AEl n f):=by
  apply ok_eq;refine AC3 (fun i s=>s=(AEl i f,(i:Int))) n rfl hf fun i s hi hI=>?_;subst hI
  by_cases h:i < n
  · rw [hs i h,AOy];exact ABn ⟨h,rfl⟩
  · obtain rfl:i=n:=by omega
    rw [he];exact ABn rfl
theorem Aog {body:Int × List Int->Option ((Int × List Int) ⊕ List Int)} {fuel n:Nat} {g0:Nat->Int} (v:Nat->Int) (hf:n < fuel)
    (hs:∀ (j:Nat) (g:Nat->Int),j < n->g j=g0 j->body ((j:Int),AEl n g)=some (.inl (((j + 1:Nat):Int),AEl n fun c=>if c=j then v j else g c)))
    (he:∀ X,body ((n:Int),X)=some (.inr X)):iter body fuel (0,AEl n g0)=some (AEl n v):=by
  apply ok_eq
  refine AC3 (fun j s=>s=((j:Int),AEl n fun c=>if c < j then v c else g0 c)) n ?_ hf fun j s hj hI=>?_
  · exact congrArg (fun z=>((0:Int),AEl n z)) (funext fun c=>(if_neg (by omega)).symm)
  · subst hI
    by_cases h:j < n
    · rw [hs j _ h (if_neg (by omega))];refine ABn ⟨h,?_⟩;refine congrArg (fun z=>(((j + 1:Nat):Int),AEl n z)) (funext fun c=>?_)
      by_cases h1:c=j
      · rw [if_pos h1,if_pos (by omega),h1]
      · rw [if_neg h1]
        by_cases h2:c < j
        · rw [if_pos h2,if_pos (by omega)]
        · rw [if_neg h2,if_neg (by omega)]
    · obtain rfl:j=n:=by omega
      rw [he];exact ABn (ADl fun c hc=>if_pos hc)
def Aoh (n:Nat) (q:Int) (A T:Nat->Nat->Int):Nat->Nat->Int:=fun i j=>psum (fun k=>T k i % q * (psum (fun l=>A k l % q * (T l j % q)) n % q)) n % q
theorem ATh (n:Nat) {q:Int} (hq:2<=q) (F:Nat->Nat->Int):Atn n q fun i j=>F i j % q:=fun i j _ _=>⟨Int.emod_nonneg _ (by omega),Int.emod_lt_of_pos _ (by omega)⟩
theorem Aq2 {fuel n:Nat} {A T:Nat->Nat->Int} {q:Int} (Aa:1<=n) (hn:n<=8) (hq:2<=q) (Ab:q<=2147483647) (hf:100 < fuel):AIv fuel (tab n n A) (tab n n T) q=some (tab n n (Aoh n q A T),0):=by
 unfold AIv;have h1:AEs fuel q=some 0:=by unfold AEs;rw [if_neg (by omega),if_neg (by omega)]
 rw [Aat Aa hn hf,Aat Aa hn hf];simp only [Option.bind_some];rw [if_neg (by decide),AXk (ACv (by omega)),ACy,ACt,ACt,if_neg (by decide),if_neg (fun h=>h rfl),if_neg (fun h=>h rfl)];simp only [Option.bind_some];rw [h1];simp only [Option.bind_some];rw [if_neg (by decide),Ahb hn hq Ab hf];simp only [Option.bind_some];rw [Aod Aa hn hf];simp only [Option.bind_some];rw [Ahb hn hq Ab hf];simp only [Option.bind_some];rw [Ai2 Aa hn hq Ab (ATh n hq A) (ATh n hq T) hf];simp only [Option.bind_some];rw [Ai2 Aa hn hq Ab (fun i j hi hj=>ATh n hq T j i hj hi) (ATh n hq _) hf];rfl
theorem Akp {r c:Nat} {F:Nat->Nat->Int} {m:Int}:AP7 (tab r c F) m=tab r c fun i j=>F i j % m:=by
 simp [AP7,tab,Function.comp_def]
theorem Aoi {fuel n:Nat} {F:Nat->Nat->Int} {m:Int} (hn:n<=8) (hm:2<=m) (Ab:m<=2147483647) (hf:100 < fuel):AEr fuel (tab n n F) m=some (tab n n fun i j=>F i j % m):=by
 rw [Ae6 (by omega) Ab (by rw [ACt];omega) (by rw [ACt];omega) (fun z hz=>by
   obtain ⟨i,hi⟩:=List.getElem?_of_mem hz
   have h1:=(List.getElem?_eq_some_iff.1 hi).1
   rw [ACt] at h1
   rw [ACv h1] at hi
   cases hi
   rw [ACy];omega),Akp]
theorem Ai3 {fuel n:Nat} {F G:Nat->Nat->Int} {m:Int} (Ae:1<=n) (hn:n<=8) (hm:2<=m) (Ab:m<=2147483647) (hf:100 < fuel):AF2 fuel (tab n n F) (tab n n G) m=some (tab n n fun i j=>psum (fun k=>F i k % m * (G k j % m)) n % m):=by
 unfold AF2;rw [Aoi hn hm Ab hf];simp only [Option.bind_some];rw [Aoi hn hm Ab hf];simp only [Option.bind_some];rw [Adp (n:=n) (fun i=>AEl n fun j=>psum (fun k=>F i k % m * (G k j % m)) n % m) (by omega) (fun i hi=>?_) fun X=>?_]
 ·rfl
 ·unfold AHw;dsimp only;rw [ACt,if_pos (by omega),AXk (ACv (by omega)),ACy,if_pos (by omega),Int.toNat_natCast,AGn n (0:Int),Aog (n:=n) (fun j=>psum (fun k=>F i k % m * (G k j % m)) n % m) (by omega) (fun j g hj hg=>?_) fun X=>?_]
  ·simp only [Option.bind_some];rw [ACy,if_pos (by omega),ADr (by omega)]
  ·unfold AHv;dsimp only;rw [ACy,Int.toNat_natCast,List.length_replicate,if_pos (by omega)]
   have key:iter (fun s=>AHu fuel m (tab n n fun i j=>F i j % m) (tab n n fun i j=>G i j % m) i j s.1 s.2) fuel (0,AEl n g)=some (AEl n fun c=>if c=j then psum (fun k=>F i k % m * (G k j % m)) n % m else g c):=by
     apply ok_eq
     refine AC3 (fun k s=>s=((k:Int),AEl n fun c=>if c=j then psum (fun k=>F i k % m * (G k j % m)) k % m else g c)) n ?_ (by omega) fun k s hk hI=>?_
     · refine congrArg (fun z=>((0:Int),AEl n z)) (funext fun c=>?_)
       split
       · next h=>subst h;rw [hg];show 0=0 % m;rw [Int.zero_emod]
       · rfl
     · subst hI
       unfold AHu
       dsimp only
       rw [ACt]
       by_cases h:k < n
       · have b1:=ATh n hm F i k hi h
         have b2:=ATh n hm G k j h hj
         dsimp only at b1 b2
         have b0:=Int.mul_nonneg b1.1 b2.1
         have b3:F i k % m * (G k j % m)<=2147483646 * 2147483646:=Int.mul_le_mul (by omega) (by omega) b2.1 (by omega)
         have b4:=Int.emod_nonneg (F i k % m * (G k j % m)) (show m≠0 by omega)
         have b5:=Int.emod_lt_of_pos (F i k % m * (G k j % m)) (show 0 < m by omega)
         have b6:=Int.emod_nonneg (psum (fun k=>F i k % m * (G k j % m)) k) (show m≠0 by omega)
         have b7:=Int.emod_lt_of_pos (psum (fun k=>F i k % m * (G k j % m)) k) (show 0 < m by omega)
         rw [if_pos (by omega),AE5 (ACk hj),AE5 (ACv hi),AE5 (ACk h),AE5 (ACv h),AE5 (ACk hj),if_pos (by omega),if_pos (by omega),if_pos rfl,AFe (x:=F i k % m * (G k j % m)) (by omega) (by omega),Int.tmod_eq_emod_of_nonneg b0,AFe (x:=psum (fun k=>F i k % m * (G k j % m)) k % m + F i k % m * (G k j % m) % m) (by omega) (by omega),Int.tmod_eq_emod_of_nonneg (by omega),Af4 (f:=fun k=>F i k % m * (G k j % m)),ADw,AFw,ADr (by omega)]
         refine ABn ⟨h,congrArg (fun z=>(((k + 1:Nat):Int),AEl n z)) (funext fun c=>?_)⟩
         by_cases hc:c=j
         · rw [if_pos hc,if_pos hc]
         · rw [if_neg hc,if_neg hc,if_neg hc]
       · obtain rfl:k=n:=by omega
         rw [if_neg (by omega)];exact ABn rfl
   rw [key];simp only [Option.bind_some];rw [ADr (by omega)]
  ·unfold AHv;dsimp only;rw [ACy,Int.toNat_natCast,List.length_replicate,if_neg (by omega)]
 ·unfold AHw;dsimp only;rw [ACt,if_neg (by omega)]
theorem Aoj {fuel n:Nat} {F:Nat->Nat->Int} (Aa:1<=n) (hn:n<=8) (hf:100 < fuel):AGo fuel (tab n n F)=some (tab n n fun i j=>F j i):=by
 unfold AGo;rw [AXk (ACv (by omega)),Adp (n:=n) (fun i=>AEl n fun j=>F j i) (by omega) (fun i hi=>?_) fun X=>?_]
 ·rfl
 ·unfold AHb;dsimp only;rw [ACy,if_pos (by omega),Adp (n:=n) (fun j=>F j i) (by omega) (fun j hj=>?_) fun X=>?_]
  ·simp only [Option.bind_some];rw [ACy,if_pos (by omega),ADr (by omega)]
  ·unfold AHa;dsimp only;rw [ACt,if_pos (by omega),AE5 (ACv hj),AE5 (ACk hi),ACy,if_pos (by omega),ADr (by omega)]
  ·unfold AHa;dsimp only;rw [ACt,if_neg (by omega)]
 ·unfold AHb;dsimp only;rw [ACy,if_neg (by omega)]
theorem Aav {n:Nat} {F:Nat->Nat->Int} (Ab:1<=n) (hn:n<=8):AZm (tab n n F):=by
 have hc:AN0 (tab n n F)=n:=by rw [AQ5 (ACv (show 0 < n by omega)),ACy]
 refine ⟨⟨by rw [ACt];omega,by rw [ACt];omega,by omega,by omega,fun z hz=>?_⟩,by rw [ACt,hc],by rw [ACt];omega⟩;obtain ⟨i,hi⟩:=List.getElem?_of_mem hz;have h1:=(List.getElem?_eq_some_iff.1 hi).1;rw [ACt] at h1;rw [ACv h1] at hi;cases hi;rw [ACy,hc]
theorem Aq3 {fuel n:Nat} {A T:Nat->Nat->Int} {q:Int} (Aa:1<=n) (hn:n<=8) (hq:2<=q) (Ab:q<=2147483647) (hf:100 < fuel):AF9 fuel (tab n n A) (tab n n T) q=some (tab n n (Aoh n q A T),0):=by
 unfold AF9
 have hv:∀ F,AEx fuel (tab n n F)=some true:=fun F=>by
   rw [Aih (by omega)]
   exact congrArg some (decide_eq_true (Aav Aa hn).1)
 have h1:AYn q=true:=by unfold AYn;rw [decide_eq_true_eq];exact ⟨hq,Ab⟩
 rw [hv,hv];simp only [Option.bind_some];rw [if_neg (by decide),AXk (ACv (by omega)),ACy,ACt,ACt,if_neg (by decide),if_neg (fun h=>h rfl),if_neg (fun h=>h rfl)];simp only [Option.bind_some];rw [Ab5,h1];simp only [Option.bind_some];rw [if_neg (by decide),Aoj Aa hn hf];simp only [Option.bind_some];rw [Ai3 Aa hn hq Ab hf];simp only [Option.bind_some];rw [Ai3 Aa hn hq Ab hf];simp only [Option.bind_some,Int.emod_emod];rfl
theorem Atp {fuel n:Nat} {T:Nat->Nat->Int} {p:Int} (Ab:1<=n) (hn:n<=8) (hp:2<=p) (Ac:p<=2147483647) (hf:100 < fuel):AH4 fuel (tab n n T) p=some (det n T % p,0):=by
 have hs:=Aav (F:=T) Ab hn;rw [Ann (by omega) ⟨by rw [ACt];omega,fun z hz=>by have h2:=hs.1.2.2.2.2 z hz;have:=hs.1.2.2.2.1;omega⟩];have h1:AO7 (tab n n T)=true:=decide_eq_true hs;have h2:AYn p=true:=by unfold AYn;rw [decide_eq_true_eq];exact ⟨hp,Ac⟩
 unfold Asx Asy;rw [h1,h2,ACt];refine congrArg (fun z=>some (z,(0:Int))) ?_;exact AY7 fun i j hi hj=>by rw [Aoz hi hj];rfl
theorem Aq4 {fuel n:Nat} {F G:Nat->Nat->Int} (hn:n<=8) (hf:100 < fuel):Ok (AIu fuel (tab n n F) (tab n n G)) fun b=>b=true↔ ∀ i,i < n-> ∀ j,j < n->F i j=G i j:=by
 unfold AIu;rw [ACt,ACt,if_neg (fun h=>h rfl)];refine ABs (APy (n:=n) (fun i=> ∀ j,j < n->F i j=G i j) false (by omega) (fun i hi=>?_) ?_) fun ex hex=>?_
 ·unfold AIy;rw [ACt,if_pos (by omega),AE5 (ACv hi),AE5 (ACv hi),ACy,ACy,if_neg (fun h=>h rfl)];refine ABs (APy (n:=n) (fun j=>F i j=G i j) false (by omega) (fun j hj=>?_) ?_) fun ex hex=>?_
  ·unfold AIx;rw [ACy,if_pos (by omega),AE5 (ACv hi),AE5 (ACk hj),AE5 (ACv hi),AE5 (ACk hj)];exact AB7 (fun h=>ABn (.inr ⟨rfl,h⟩)) fun h=>ABn (.inl ⟨by rw [ADr (by omega)],Decidable.not_not.1 h⟩)
  ·unfold AIx;rw [ACy,if_neg (by omega)]
  ·rcases hex with ⟨rfl,h⟩ | ⟨rfl,h⟩
   ·exact ABn (.inl ⟨by rw [ADr (by omega)],h⟩)
   ·exact ABn (.inr ⟨rfl,h⟩)
 ·unfold AIy;rw [ACt,if_neg (by omega)]
 ·rcases hex with ⟨rfl,h⟩ | ⟨rfl,h⟩
  ·exact ABn ⟨fun _=>h,fun _=>rfl⟩
  ·exact ABn ⟨fun e=>(nomatch e),fun e=>absurd e h⟩
def Rng (n:Nat) (q:Int) (T:Nat->Nat->Int):Prop:= ∀ i,i < n-> ∀ j,j < n->0<=T i j/\T i j < q
theorem Atq {fuel n:Nat} {T:Nat->Nat->Int} {q:Int} (hn:n<=8) (hf:100 < fuel):Ok (iter (fun s=>AGp fuel (tab n n T) q s) fuel 0) fun ex=>(ex= .inr ()/\Rng n q T)∨(ex= .inl false/\¬ Rng n q T):=by
 refine APy (n:=n) (fun i=> ∀ j,j < n->0<=T i j/\T i j < q) false (by omega) (fun i hi=>?_) ?_
 ·unfold AGp;rw [ACt,if_pos (by omega),AE5 (ACv hi)];refine ABs (APy (n:=n) (fun j=>0<=T i j/\T i j < q) false (by omega) (fun j hj=>?_) ?_) fun ex hex=>?_
  ·unfold AId;rw [ACy,if_pos (by omega),AE5 (ACk hj)];exact AB7 (fun h=>ABn (.inr ⟨rfl,by omega⟩)) fun h=>AB7 (fun h2=>ABn (.inr ⟨rfl,by omega⟩)) fun h2=>ABn (.inl ⟨by rw [ADr (by omega)],by omega⟩)
  ·unfold AId;rw [ACy,if_neg (by omega)]
  ·rcases hex with ⟨rfl,h⟩ | ⟨rfl,h⟩
   ·exact ABn (.inl ⟨by rw [ADr (by omega)],h⟩)
   ·exact ABn (.inr ⟨rfl,h⟩)
 ·unfold AGp;rw [ACt,if_neg (by omega)]
theorem AJt {p:Int} (hp:1<=p) {a b:Nat} (h:a<=b):p ^ a<=p ^ b:=by
 obtain ⟨c,rfl⟩:∃ c,b=a + c:=⟨b - a,by omega⟩;rw [Int.pow_add];have h1:0 < p ^ a:=Int.pow_pos (by omega);have h2:0 < p ^ c:=Int.pow_pos (by omega);have:=Int.mul_le_mul_of_nonneg_left (show 1<=p ^ c by omega) (Int.le_of_lt h1);omega
theorem Aaw {p:Int} {k:Nat} (hp:2<=p) (h:p ^ k<=2147483647):k<=30:=by
 rcases Nat.lt_or_ge 30 k with h1 | h1
 ·exfalso;have h2:=AJt (p:=p) (by omega) (show 31<=k by omega);have h3:(2:Int) ^ 31<=p ^ 31:=AMn (by omega) hp 31;have h5:(2:Int) ^ 31=2147483648:=by decide
  omega
 ·exact h1
theorem Ahe {fuel:Nat} {p:Int} {k:Nat} (hp:2<=p) (h:p ^ k<=2147483647) (hf:100 < fuel):AFr fuel p k=some (p ^ k):=by
 have hk:=Aaw hp h;apply ok_eq;unfold AFr;refine ABs (AC3 (fun i s=>s=(p ^ i,(i:Int))/\i<=k) k (Q:=(· =p ^ k)) ⟨by simp,by omega⟩ (by omega) fun i s hi hI=>?_) fun e he=>ABn he;obtain ⟨rfl,hik⟩:=hI;unfold ALa;dsimp only;refine AB7 (fun h2=>ABn ⟨by omega,?_,by omega⟩) fun h2=>ABn ?_
 ·have h3:=AJt (p:=p) (by omega) (show i + 1<=k by omega);have h4:0 < p ^ (i + 1):=Int.pow_pos (by omega);rw [show p ^ i * p=p ^ (i + 1) from (Int.pow_succ p i).symm,wk (by omega),ADr (by omega)]
 ·obtain rfl:i=k:=by omega
  rfl
def Akq (F:Nat->Nat->Int) (r c:Nat) (x:Int):Nat->Nat->Int:=ADz F r fun q=>if q=c then x else F r q
theorem ASh {n r c:Nat} {F:Nat->Nat->Int} {x:Int}:sI (tab n n F) (r:Int) (sI (AEl n (F r)) (c:Int) x)=tab n n (Akq F r c x):=AWh
def Avc (F:Nat->Nat->Int) (r:Nat) (a b c:Int):Nat->Nat->Int:=Akq (Akq (Akq (Akq F r r a) r (r + 1) b) (r + 1) r b) (r + 1) (r + 1) c
def AYs (p:Int):List AIp->Nat->(Nat->Nat->Int)->(Nat->Nat->Int)
  | [],_,F=>F
  | b :: l,r,F=>if b.2.1=2 then AYs p l (r + 2) (Avc F r (p ^ b.1.toNat * b.2.2.1) (p ^ b.1.toNat * b.2.2.2.1) (p ^ b.1.toNat * b.2.2.2.2)) else AYs p l (r + 1) (Akq F r r (p ^ b.1.toNat * b.2.2.1))
def AOs:List AIp->Nat
  | []=>0
  | b :: l=>b.2.1.toNat + AOs l
def BOk (p:Int) (k:Nat) (b:AIp):Prop:= ∃ e:Nat,b.1=e/\e<=k/\(0<=b.2.2.1/\b.2.2.1 < p ^ (k - e))/\(b.2.1=1∨b.2.1=2/\(0<=b.2.2.2.1/\b.2.2.2.1 < p ^ (k - e))/\0<=b.2.2.2.2/\b.2.2.2.2 < p ^ (k - e))
theorem AZa {p a:Int} {e k:Nat} (hp:2<=p) (hek:e<=k) (hq:p ^ k<=2147483647) (h:0<=a/\a < p ^ (k - e)):Int.tmod (w64 (p ^ e * a)) (p ^ k)=p ^ e * a/\0<=p ^ e * a/\p ^ e * a < p ^ k:=by
 have h1:0 < p ^ e:=Int.pow_pos (by omega);have h2:p ^ e * a < p ^ e * p ^ (k - e):=Int.mul_lt_mul_of_pos_left h.2 h1;rw [<- Int.pow_add,show e + (k - e)=k by omega] at h2;have h3:=Int.mul_nonneg (Int.le_of_lt h1) h.1;rw [wk (by omega),Int.tmod_eq_emod_of_nonneg h3,Int.emod_eq_of_lt h3 h2];exact ⟨rfl,h3,h2⟩
theorem Atr {fuel n k:Nat} {p:Int} {L:List AIp} (hn:n<=8) (hp:2<=p) (hq:p ^ k<=2147483647) (hL:∀ b∈L,BOk p k b) (hs:AOs L=n) (hll:L.length<=n) (hf:100 < fuel):AHz fuel L n p (p ^ k)=some (tab n n (AYs p L 0 fun _ _=>0)):=by
 have Af:0 < p ^ k:=Int.pow_pos (by omega);unfold AHz;rw [if_pos (by omega),Int.toNat_natCast,AVd (n:=n) (fun _ _=>0) (by omega) (fun i hi=>?_) fun X=>?_]
 ·simp only [Option.bind_some];apply ok_eq;refine ABs (AC3 (fun i s=> ∃ (r:Nat) (F:Nat->Nat->Int),s=((r:Int),(i:Int),tab n n F)/\r + AOs (L.drop i)=n/\AYs p (L.drop i) r F=AYs p L 0 fun _ _=>0) L.length (Q:=(· =tab n n (AYs p L 0 fun _ _=>0))) ⟨0,fun _ _=>0,rfl,by simpa using hs,rfl⟩ (by omega) fun i s hi hI=>?_) fun e he=>ABn he;obtain ⟨r,F,rfl,hr,hb⟩:=hI;unfold AKn;dsimp only;by_cases h:i < L.length
  ·obtain ⟨b,hbi⟩:∃ b,L[i]? =some b:=⟨L[i],List.getElem?_eq_getElem h⟩
   have hdr:L.drop i=b :: L.drop (i + 1):=by
     rw [List.drop_eq_getElem_cons h]
     congr 1
     rw [List.getElem?_eq_getElem h] at hbi
     exact Option.some.inj hbi
   rw [hdr] at hr hb;obtain ⟨e,he,hek,hA,hsz⟩:=hL b (List.mem_of_getElem? hbi);have hpe:p ^ e<=2147483647:=Int.le_trans (AJt (by omega) hek) hq;have heN:b.1.toNat=e:=by omega
   have e1:=AZa hp hek hq hA;unfold AOs at hr;rw [AYs] at hb;rw [heN] at hb;rw [if_pos (by omega),AE5 hbi,he,Ahe hp hpe hf];simp only [Option.bind_some];have Aa:r < n:=by omega
   rw [AE5 (ACv Aa),if_pos (by omega),AE5 (ACk Aa),e1.1,ASh];rcases hsz with hz | ⟨hz,hB,hC⟩
   ·rw [if_neg (by omega)];simp only [Option.bind_some];rw [if_neg (by omega)] at hb;refine ABn ⟨h,r + 1,_,?_,by omega,hb⟩;rw [hz,ADr (by omega),ADr (by omega)]
   ·have Ab:r + 1 < n:=by omega
    have e2:=AZa hp hek hq hB;have e3:=AZa hp hek hq hC;rw [if_pos hz,AE5 (ACv Aa),if_pos (by omega),ADr (by omega),AE5 (ACk Ab),e2.1,ASh,AE5 (ACv Ab),if_pos (by omega),AE5 (ACk Aa),ASh,AE5 (ACv Ab),if_pos (by omega),AE5 (ACk Ab),e3.1,ASh];simp only [Option.bind_some];rw [if_pos hz] at hb;refine ABn ⟨h,r + 2,_,?_,by omega,hb⟩;rw [hz,AFe (x:=(r:Int) + 2) (by omega) (by omega),ADr (by omega)];rfl
  ·obtain rfl:i=L.length:=by omega
   rw [if_neg (by omega)];rw [List.drop_length] at hb;exact ABn (by rw [<- hb];rfl)
 ·unfold AIb;dsimp only;rw [Int.toNat_natCast,List.length_replicate,if_pos (by omega),if_pos (by omega),AE5 (AOp hi),ADw,AGn n (0:Int),AMz,AVc fun c _=>rfl,ADr (by omega)]
 ·unfold AIb;dsimp only;rw [Int.toNat_natCast,List.length_replicate,if_neg (by omega)]
def AX9 (p:Int) (k:Nat) (b:AIp):Prop:=(0<=b.1/\b.1<=if p=2 then (k:Int) - 3 else (k:Int) - 1)/\
  if b.2.1=1 then (0 < b.2.2.1/\b.2.2.1 < p ^ (k - b.1.toNat))/\¬ p ∣ b.2.2.1/\b.2.2.2.1=0/\b.2.2.2.2=0
  else ((0<=b.2.2.1/\b.2.2.1 < p ^ (k - b.1.toNat))/\(0<=b.2.2.2.1/\b.2.2.2.1 < p ^ (k - b.1.toNat))/\0<=b.2.2.2.2/\b.2.2.2.2 < p ^ (k - b.1.toNat))/\b.2.2.1 % 2=0/\b.2.2.2.1 % 2=1/\b.2.2.2.2 % 2=0
theorem tm2 {x:Int} (h:0<=x):Int.tmod x 2=x % 2:=Int.tmod_eq_emod_of_nonneg h
theorem Aok {fuel k:Nat} {p:Int} {b:AIp} (hp:2<=p) (hq:p ^ k<=2147483647) (hk:1<=k) (Aj:p=2->3<=k) (hf:100 < fuel):Ok (AHy fuel b.1 b.2.1 b.2.2.1 b.2.2.2.1 b.2.2.2.2 p k) fun r=>r=true↔AX9 p k b:=by
 have Ak:=Aaw hp hq;obtain ⟨e,s,x,y,z⟩:=b;unfold AHy AX9;dsimp only;refine ABs (Q:=(· =if p=2 then (k:Int) - 3 else (k:Int) - 1)) (AB7 (fun h=>ABn ?_) fun h=>ABn ?_) fun top ht=>?_
 ·rw [if_pos h,wk (by omega)]
 ·rw [if_neg h,wk (by omega)]
 subst ht;have htop:(if p=2 then (k:Int) - 3 else (k:Int) - 1)<=k - 1:=by split <;> omega
 refine ABs (Q:=fun ex=>(ex= .inr ()/\0<=e/\e<=if p=2 then (k:Int) - 3 else (k:Int) - 1)∨(ex= .inl false/\¬ (0<=e/\e<=if p=2 then (k:Int) - 3 else (k:Int) - 1))) (AB7 (fun h=>ABn (.inr ⟨rfl,by omega⟩)) fun h=>AB7 (fun h2=>ABn (.inr ⟨rfl,by omega⟩)) fun h2=>ABn (.inl ⟨rfl,by omega,by omega⟩)) fun ex hex=>?_;rcases hex with ⟨rfl,h1,h2⟩ | ⟨rfl,h⟩
 ·obtain ⟨e,rfl⟩:∃ e':Nat,e=e':=⟨e.toNat,by omega⟩;have hek:e<=k:=by omega
  have hpk:p ^ (k - e)<=2147483647:=Int.le_trans (AJt (by omega) (by omega)) hq;dsimp only;rw [wk (by omega),show (k:Int) - (e:Int)=((k - e:Nat):Int) by omega,Int.toNat_natCast];refine ABs (AC1 (Ahe hp hpk hf)) fun m hm=>?_;subst hm;refine AB7 (fun h3=>?_) fun h3=>?_
  ·rw [if_pos h3];refine AB7 (fun h4=>AB7 (fun h5=>AD8 (by omega) (AB7 (fun h6=>AB7 (fun h7=>ABn ?_) fun h7=>ABn ?_) fun h6=>ABn ?_)) fun h5=>ABn ?_) fun h4=>ABn ?_
   ·rw [decide_eq_true_eq];exact ⟨fun h8=>⟨⟨h1,h2⟩,⟨h4,h5⟩,fun h9=>h6 (Int.tmod_eq_zero_of_dvd h9),h7,h8⟩,fun h8=>h8.2.2.2.2⟩
   ·exact ⟨fun h=>(nomatch h),fun h=>absurd h.2.2.2.1 h7⟩
   ·exact ⟨fun h=>(nomatch h),fun h=>absurd (Int.dvd_of_tmod_eq_zero (Decidable.not_not.1 h6)) h.2.2.1⟩
   ·exact ⟨fun h=>(nomatch h),fun h=>absurd h.2.1.2 h5⟩
   ·exact ⟨fun h=>(nomatch h),fun h=>absurd h.2.1.1 h4⟩
  ·rw [if_neg h3];refine AB7 (fun h4=>AB7 (fun h5=>AB7 (fun h6=>AB7 (fun h7=>AB7 (fun h8=>AB7 (fun h9=>?_) fun h9=>ABn ?_) fun h8=>ABn ?_) fun h7=>ABn ?_) fun h6=>ABn ?_) fun h5=>ABn ?_) fun h4=>ABn ?_
   ·rw [tm2 h4,tm2 h6,tm2 h8];refine AB7 (fun ha=>AB7 (fun hb=>ABn ?_) fun hb=>ABn ?_) fun ha=>ABn ?_
    ·rw [decide_eq_true_eq];exact ⟨fun hc=>⟨⟨h1,h2⟩,⟨⟨h4,h5⟩,⟨h6,h7⟩,h8,h9⟩,ha,hb,hc⟩,fun h=>h.2.2.2.2⟩
    ·exact ⟨fun h=>(nomatch h),fun h=>absurd h.2.2.2.1 hb⟩
    ·exact ⟨fun h=>(nomatch h),fun h=>absurd h.2.2.1 ha⟩
   ·exact ⟨fun h=>(nomatch h),fun h=>absurd h.2.1.2.2.2 h9⟩
   ·exact ⟨fun h=>(nomatch h),fun h=>absurd h.2.1.2.2.1 h8⟩
   ·exact ⟨fun h=>(nomatch h),fun h=>absurd h.2.1.2.1.2 h7⟩
   ·exact ⟨fun h=>(nomatch h),fun h=>absurd h.2.1.2.1.1 h6⟩
   ·exact ⟨fun h=>(nomatch h),fun h=>absurd h.2.1.1.2 h5⟩
   ·exact ⟨fun h=>(nomatch h),fun h=>absurd h.2.1.1.1 h4⟩
 ·exact ABn ⟨fun h=>(nomatch h),fun h2=>absurd h2.1 h⟩
theorem AYa {p:Int} {k:Nat} {b:AIp} (hk:1<=k) (hs:b.2.1=1∨b.2.1=2) (h:AX9 p k b):BOk p k b:=by
 obtain ⟨e,s,x,y,z⟩:=b;obtain ⟨⟨h1,h2⟩,h3⟩:=h;dsimp only at h1 h2 h3 hs;obtain ⟨e,rfl⟩:∃ e':Nat,e=e':=⟨e.toNat,by omega⟩;rw [Int.toNat_natCast] at h3;refine ⟨e,rfl,?_,?_⟩
 ·split at h2 <;> omega
 ·by_cases Ab:s=1
  ·rw [if_pos Ab] at h3;exact ⟨⟨Int.le_of_lt h3.1.1,h3.1.2⟩,.inl Ab⟩
  ·rw [if_neg Ab] at h3;exact ⟨h3.1.1,.inr ⟨hs.resolve_left Ab,h3.1.2.1,h3.1.2.2⟩⟩
def Asc (L:List AIp) (i:Nat):Prop:=0 < i-> ∀ b c,L[i]? =some b->L[i - 1]? =some c->c.1<=b.1
def RG (p:Int) (k:Nat) (L:List AIp) (i:Nat):Prop:=(∀ b,L[i]? =some b->AX9 p k b)/\Asc L i
def RC (n k:Nat) (p:Int) (A T:Nat->Nat->Int) (L:List AIp):Prop:=(∀ i,i < L.length->RG p k L i)/\Rng n (p ^ k) T/\det n T % p≠0/\ ∀ i,i < n-> ∀ j,j < n->Aoh n (p ^ k) A T i j=AYs p L 0 (fun _ _=>0) i j
theorem Akr {fuel n k:Nat} {p:Int} {A T:Nat->Nat->Int} {L:List AIp} (Ab:1<=n) (hn:n<=8) (hdig:AGj fuel (tab n n A) p=some (k:Int)) (hp:2<=p) (hq:p ^ k<=2147483647) (hk:1<=k) (Ac:p=2->3<=k) (hsz:∀ b∈L,b.2.1=1∨b.2.1=2) (hs:AOs L=n) (hl:L.length<=n) (Ad:p<=2147483647) (hf:100 < fuel):
    Ok (AH1 fuel (tab n n A) p (tab n n T) L) fun b=>b=true↔RC n k p A T L:=by
 have Ae:2<=p ^ k:=by
   have:=AJt (p:=p) (by omega) hk
   rw [Int.pow_one] at this;omega
 unfold AH1 RC;refine ABs (AC1 hdig) fun x hx=>?_;subst hx;refine ABs (AC1 (Ahe hp hq hf)) fun q hqq=>?_;subst hqq;refine ABs (APy (n:=L.length) (RG p k L) false (by omega) (fun i hi=>?_) ?_) fun ex hex=>?_
 ·obtain ⟨b,hb⟩:∃ b,L[i]? =some b:=⟨L[i],List.getElem?_eq_getElem hi⟩;unfold AIe;rw [if_pos (by omega),AE5 hb];refine ABs (Aok (b:=b) hp hq hk Ac hf) fun r hr=>AB7 (fun h=>ABn (.inr ⟨rfl,fun hg=>?_⟩)) fun h=>?_
  ·have:=hr.2 (hg.1 b hb);rw [this] at h;cases h
  ·have hpb:AX9 p k b:=hr.1 (by cases r with | true=>rfl | false=>exact absurd rfl h);have hP:∀ c,L[i]? =some c->AX9 p k c:=fun c hc=>by rw [hb] at hc;cases hc;exact hpb
   refine AB7 (fun h0=>?_) fun h0=>ABn (.inl ⟨by rw [ADr (by omega)],hP,fun h1=>by omega⟩);have Ag:i - 1 < L.length:=by omega
   obtain ⟨c,hc⟩:∃ c,L[i - 1]? =some c:=⟨L[i - 1],List.getElem?_eq_getElem Ag⟩;refine ACj hc (by rw [wk (by omega)];omega) (AB7 (fun h2=>ABn (.inr ⟨rfl,fun hg=>?_⟩)) fun h2=>ABn (.inl ⟨by rw [ADr (by omega)],hP,fun h3 b' c' hb' hc'=>?_⟩))
   ·have:=hg.2 (by omega) b c hb hc;omega
   ·rw [hb] at hb';rw [hc] at hc';cases hb';cases hc';omega
 ·unfold AIe;rw [if_neg (by omega)]
 rcases hex with ⟨rfl,hG⟩ | ⟨rfl,hG⟩
 ·refine ABs (Atq hn hf) fun ex hex=>?_;rcases hex with ⟨rfl,hR⟩ | ⟨rfl,hR⟩
  ·refine ABs (AC1 (Atp Ab hn hp Ad hf)) fun d hd=>?_;subst hd;refine ABs (AC1 (Aq3 Ab hn Ae hq hf)) fun g hg=>?_;subst hg;dsimp only;refine AB7 (fun h=>?_) fun h=>ABn ⟨fun h2=>(nomatch h2),fun h2=>absurd h2.2.2.1 h⟩;rw [ACt];refine ABs (AC1 (Atr hn hp hq (fun b hb=>?_) hs hl hf)) fun g hg=>?_
   ·obtain ⟨i,hi⟩:=List.getElem?_of_mem hb;exact AYa hk (hsz b hb) ((hG i (List.getElem?_eq_some_iff.1 hi).1).1 b hi)
   ·subst hg;exact ABs (Aq4 hn hf) fun r hr=>ABn ⟨fun h2=>⟨hG,hR,h,hr.1 h2⟩,fun h2=>hr.2 h2.2.2.2⟩
  ·exact ABn ⟨fun h=>(nomatch h),fun h=>absurd h.2.1 hR⟩
 ·exact ABn ⟨fun h=>(nomatch h),fun h=>absurd h.1 hG⟩
theorem Ats {T:List (List Int)} {n:Nat} (h1:T.length=n) (h2:∀ z∈T,z.length=n):T=tab n n (ent T):=by
 have:=AXs h2;rwa [h1] at this
theorem Aol {T:List (List Int)} {n:Nat} (h:∀ i,i < T.length-> ∀ z,T[i]? =some z->z.length=n):∀ z∈T,z.length=n:=fun z hz=>by
  obtain ⟨i,hi⟩:=List.getElem?_of_mem hz
  exact h i (List.getElem?_eq_some_iff.1 hi).1 z hi
theorem Aom {M:List (List Int)} {p v:Int} (R:Aa5 M) (hp:2<=p) (hp2:p<=9973) (h:Afu (det M.length (ent M)) p v):∃ k:Nat,((if p=2 then v + 3 else v + 1)=(k:Int))/\p ^ k<=2147483647/\1<=k/\(p=2->3<=k):=by
  obtain ⟨v1,v2⟩:=Aar R;obtain ⟨e,r,rfl,h1,h2⟩:=h;have hpe:0 < p ^ e:=Int.pow_pos (by omega)
  have hr:0 < r:=by
    rcases Int.lt_or_le 0 r with h | h
    · exact h
    · have:=Int.mul_nonpos_of_nonpos_of_nonneg h (Int.le_of_lt hpe);omega
  have hle:1 * p ^ e<=r * p ^ e:=Int.mul_le_mul_of_nonneg_right (by omega) (by omega)
  by_cases h:p=2
  · subst h;refine ⟨e + 3,by rw [if_pos rfl];rfl,?_,by omega,fun _=>by omega⟩;rw [Int.pow_add];have:(2:Int) ^ 3=8:=by decide
    omega
  · refine ⟨e + 1,by rw [if_neg h];rfl,?_,by omega,fun h2=>absurd h2 h⟩;rw [Int.pow_succ];have:=Int.mul_le_mul (show p ^ e<=10000 by omega) hp2 (by omega) (by omega);omega
end Go.Proofs.YtdnbklmefmoofaaGreatDoor
namespace Go.QF
open Go
theorem Adq:∀ u∈([]:List Value),isOne u=true:=fun u h=>by cases h
theorem ARw {v:Value} {l:List Value} (h:isOne v=true) (H:∀ u∈l,isOne u=true):∀ u∈v :: l,isOne u=true:=fun u hu=>(List.mem_cons.1 hu).elim (fun e=>e ▸ h) (H u)
theorem Ai4 {α:Type} {c:Cod α}:∀ h,Al c h ([]:List α) []:=fun h=>Aga c h
theorem Ai5 {α:Type} {c:Cod α} {a:α} {cs:List Value} {L:List α} {Ls:List (List Value)} (h1:∀ h,c.rep h a cs) (H:∀ h,Al c h L Ls):∀ h,Al c h (a :: L) (cs :: Ls):=fun h=>⟨by simp [(H h).1],fun i x y hx hy=>by
  cases i with
  | zero=>simp at hx hy;subst hx;subst hy;exact h1 h
  | succ i=>exact (H h).2 i x y (by simpa using hx) (by simpa using hy)⟩
section
variable {P:Program} {B:ABu->Prop} {st:Bool} {ops:Array Oper} {rest:List Oper} {e:Env} {h:ABu} {K:Env->ABu->Prop} {d:Nat} {ty:TypeId} {pos:String} {af:Array Edge}
theorem Aon {α:Type} (c:Cod α) (L:List α) (Ls:List (List Value)) (vs:List (Nat × Value)) {t el bytes n:Nat} {z:Value} {parts:List (Nat × Operand)} (hT:SlT P t el c.k) (hz:ZeT P el z bytes) (hel:Nat.beq el 157=false) (hb:B h) (hBE:∀ h',Ext h h'->B h') (Ac:Nat.ble (n * c.k) 1000=true) (hpos:Nat.ble 1 (n * c.k)=true) (hp:(parts.map fun (i,x)=>(i,e.ev x))=vs) (hf:Instr.fill (fun j=>some (j * c.k,c.k)) ((Array.range (n * c.k)).map (z.cells[· % z.cells.size]!)) vs=some Ls.flatten.toArray) (hl:Ls.length=n) (ha:∀ h,Al c h L Ls) (H:∀ b v h',OwC c el h' [b] v L->Ext h h'->h.size<=b->b < h'.size->RL P B st ops rest (e.set d v) h' K):RL P B st ops (⟨some d,.buildSlice t n parts.toArray,ty,pos,af,none⟩ :: rest) e h K:=by
 have Ac:=Nat.le_of_ble_eq_true Ac;have hpos:=Nat.le_of_ble_eq_true hpos
 have hk:∀ r∈Ls,r.length=c.k:=fun r hr=>by
   obtain ⟨i,hi⟩:=List.getElem?_of_mem hr
   have h1:=(List.getElem?_eq_some_iff.1 hi).1
   exact c.klen ((ha h).2 i r (L[i]'(by have:=(ha h).1;omega)) hi (List.getElem?_eq_getElem _))
 have E:Ext h (h.push (.cells Ls.flatten.toArray el (0,0))):=AFh _ _;refine AP6 rfl rfl hb fun w hw=>?_;subst hw;obtain ⟨hu,i0,Aa,Ab⟩:=hT;obtain ⟨i,hi,hzz,hsz,hby⟩:=hz;rw [hi] at Aa;injection Aa with Aa;subst Aa;have h3: ¬ (n * i.size > 2 ^ 24):=by rw [Ab];omega
 have h4: ¬ (n * i.size=0):=by rw [Ab];omega
 have:(execOp e.ev ⟨some d,.buildSlice t n parts.toArray,ty,pos,af,none⟩).run P w= .ok (.value (.slice (some ⟨w.heap.size,0,none⟩) n n)) (w.alloc (.cells Ls.flatten.toArray el)):=by
   simp only [execOp,List.map_toArray]
   rw [hp]
   simp only [Instr.buildSlice,Sem.run_bind,AOb hu,Result.andThen,AP5 hi,if_neg h3,if_neg h4,Ady hi hzz]
   have Af:Sem.run P (pure z.cells:Sem (Array Value)) w= .ok z.cells w:=rfl
   simp only [Af,Ab]
   rw [hf]
   simp [newRow]
 rw [this];have hfl:Ls.flatten.length=n * c.k:=by rw [ANj hk,hl]
 exact ⟨⟨rfl,rfl,rfl⟩,hBE _ E,H w.heap.size _ _ (.inr ⟨w.heap.size,Ls,rfl,⟨n,Ls.flatten.toArray,by rw [hl],by
   show (w.heap.push (.cells Ls.flatten.toArray el (0,0)))[w.heap.size]? =_
   simp,by omega,by
   have:=c.pos;have:=Nat.le_mul_of_pos_right n c.pos;unfold maxLen;omega,by simpa using hfl,hk,by rw [List.take_of_length_le (by rw [hl];show Ls.flatten.length<=_;omega)]⟩,ha _,hel⟩) E (Nat.le_refl _) (by simp)⟩
end
end Go.QF
namespace Go.QF
open Go
theorem Aoo (l:List Value):(l.map fun r=>[r]).flatten=l:=by
 induction l with
 | nil=>rfl
 | cons a L ih=>simp [ih]
def AYk {α:Type} (c:Cod α) (el:Nat) (h:ABu):List (List Nat)->List Value->List (List α)->Prop
  | [],[],[]=>True
  | G :: Gs,r :: rs,L :: M=>OwC c el h G r L/\AYk c el h Gs rs M
  | _,_,_=>False
theorem AYk.len {α:Type} {c:Cod α} {el:Nat} {h:ABu}:∀ {Gs:List (List Nat)} {rs:List Value} {M:List (List α)},AYk c el h Gs rs M->rs.length=M.length/\Gs.length=M.length
  | [],[],[],_=>⟨rfl,rfl⟩
  | G :: Gs,r :: rs,L :: M,H=>by have:=AYk.len H.2;simp [this.1,this.2]
theorem AYk.get {α:Type} {c:Cod α} {el:Nat} {h:ABu}:∀ {Gs:List (List Nat)} {rs:List Value} {M:List (List α)},AYk c el h Gs rs M-> ∀ (i:Nat) (G:List Nat) (r:Value) (L:List α),Gs[i]? =some G->rs[i]? =some r->M[i]? =some L->OwC c el h G r L
  | [],[],[],_,i,G,r,L,h1,_,_=>by simp at h1
  | G0 :: Gs,r0 :: rs,L0 :: M,H,0,G,r,L,h1,h2,h3=>by simp at h1 h2 h3;subst h1;subst h2;subst h3;exact H.1
  | G0 :: Gs,r0 :: rs,L0 :: M,H,i + 1,G,r,L,h1,h2,h3=>AYk.get H.2 i G r L (by simpa using h1) (by simpa using h2) (by simpa using h3)
section
variable {P:Program} {B:ABu->Prop} {st:Bool} {ops:Array Oper} {rest:List Oper} {e:Env} {h:ABu} {K:Env->ABu->Prop} {d:Nat} {ty:TypeId} {pos:String} {af:Array Edge}
theorem Ace {α:Type} {c:Cod α} (Gs:List (List Nat)) (rs:List Value) (M:List (List α)) {t er el bytes n:Nat} {z:Value} {parts:List (Nat × Operand)} (hT:SlT P t er 1) (hz:ZeT P er z bytes) (h1:isOne z=true) (hel:Nat.beq er 157=false) (hb:B h) (hBE:∀ h',Ext h h'->B h') (hn:rs.length=n) (Aa:Nat.ble n 16777216=true) (hpos:Nat.ble 1 n=true) (hp:(parts.map fun (i,x)=>(i,e.ev x))=partsOf 0 rs) (hone:∀ u∈rs,isOne u=true) (hr:AYk c el h Gs rs M) (hnd:Gs.flatten.Nodup) (H:∀ b v h',AFi c er el h' (b :: Gs.flatten) Gs rs v M->Ext h h'->(∀ z∈b :: Gs.flatten,z∈Gs.flatten∨h.size<=z)->RL P B st ops rest (e.set d v) h' K):RL P B st ops (⟨some d,.buildSlice t n parts.toArray,ty,pos,af,none⟩ :: rest) e h K:=by
 have Aa:=Nat.le_of_ble_eq_true Aa;have E:Ext h (h.push (.cells rs.toArray er (0,0))):=AFh _ _;have HO:AKq (h.push (.cells rs.toArray er (0,0))) er 1 h.size (.slice (some ⟨h.size,0,none⟩) n n) (rs.map fun r=>[r]):=⟨n,rs.toArray,by rw [List.length_map,hn],by simp,by simp [hn],by unfold maxLen;omega,by simp [hn],fun r hr=>by obtain ⟨a,_,rfl⟩:=List.mem_map.1 hr;rfl,by rw [Aoo];simp⟩
 have hlt:∀ z∈Gs.flatten,z < h.size:=fun z hz=>by
   obtain ⟨G,hG,hzG⟩:=List.mem_flatten.1 hz
   obtain ⟨i,hi⟩:=List.getElem?_of_mem hG
   have hi':=(List.getElem?_eq_some_iff.1 hi).1
   have hl:=hr.len
   exact (hr.get i G (rs[i]'(by omega)) (M[i]'(by omega)) hi (List.getElem?_eq_getElem _) (List.getElem?_eq_getElem _)).lt z hzG
 refine Aox rs hT hz h1 hb hn Aa (Nat.le_of_ble_eq_true hpos) hp hone ⟨hBE _ E,H h.size _ _ (.inr ⟨h.size,rfl,?_,HO,hel,hr.len.1,hr.len.2,fun i G r L a1 a2 a3=>(hr.get i G r L a1 a2 a3).ext E⟩) E fun z hz=>?_⟩
 ·exact List.nodup_cons.2 ⟨fun hm=>by have:=hlt _ hm;omega,hnd⟩
 ·rcases List.mem_cons.1 hz with rfl | h2
  ·exact .inr (Nat.le_refl _)
  ·exact .inl h2
end
end Go.QF
namespace Go.Proofs.YtdnbklmefmoofaaGreatDoor
open Go Go.QF
def aT (F:List Nat):Asr:=⟨F,fun h=> ∀ b∈F,ASn h b,fun {G h h'} U d H b hb=>by
  obtain ⟨cur,el,off,h1,h2⟩:=H b hb;exact ⟨cur,el,off,(U.1.2 b (Array.getElem?_eq_some_iff.1 h1).1 (d b hb)).trans h1,h2⟩⟩
theorem Aux {a b c n x:Int} (h:gI [a,b,c] n=some x) (w:World):(Instr.index 122 (.agg #[.int .i64 a,.int .i64 b,.int .i64 c]) (.int .i64 n)).run Tryz.prog w= .ok (.int .i64 x) w:=by
 obtain ⟨i,rfl,hi⟩:=AJi h;have:=(List.getElem?_eq_some_iff.1 hi).1;rcases (show i=0∨i=1∨i=2 by simp at this;omega) with rfl | rfl | rfl <;> (cases hi;show _=_;kernel_rfl)
namespace Kst
variable {h0 h h':ABu} {l l':List Asr}
theorem a0 (k:Kst h0 h l):Kst h0 h (aT [] :: l):=k.n (Ext.refl h) [aT []] (by exact ⟨by simp [fps,aT],fun b hb=>by simp [fps,aT] at hb⟩) ⟨fun b hb=>by simp at hb,trivial⟩
theorem grab {α:Type} {c:Cod α} {F R:List Nat} {j el:Nat} {w:Value} {y:List α} (k:Kst h0 h (aT F :: l)) (e:Rep j l (aO c el R w y) (aC True) l'):Kst h0 h (aT (F ++ R) :: l'):=by
 obtain ⟨e,rfl⟩:=e;have HR:OwC c el h R w y:=ARn k.p.2 e;have e1:(fps (aT F :: l))[j + 1]? =some R:=(AOo e:(fps l)[j]? =some R);have e0:(fps (aT F :: l))[0]? =some F:=rfl;have hd:=k.s.dj 0 (j + 1) e0 e1 (by omega);have hF:F.Nodup:=(List.nodup_append.1 k.s.1).1;have:=k.s.put2 0 (j + 1) (F':=F ++ R) e0 e1 (by omega) (List.nodup_append.2 ⟨hF,HR.nodup,fun a ha b hb hab=>hd a ha (hab ▸ hb)⟩) (Nat.le_refl _) k.x.1 (fun x hx=>(List.mem_append.1 hx).elim (fun h=>(k.s.lo 0 e0 x h).2) fun h=>HR.lt x h) (fun x hx=>(List.mem_append.1 hx).elim .inl fun h=> .inr (.inl h));refine ⟨k.x,?_,fun b hb=>(List.mem_append.1 hb).elim (k.p.1 b) (HR.notD b),Abo k.p.2 j⟩
 have e2:fps (aT (F ++ R) :: l.set j (aC True))=((fps (aT F :: l)).set (j + 1) []).set 0 (F ++ R):=by
   show (F ++ R) :: fps (l.set j (aC True))=_
   rw [AW7];rfl
 rw [e2];exact this
theorem ndT {F:List Nat} (k:Kst h0 h (aT F :: l)):F.Nodup:=(List.nodup_append.1 k.s.1).1
theorem lit {α:Type} {c:Cod α} {er el:Nat} {F F':List Nat} {Gs:List (List Nat)} {rs:List Value} {v:Value} {x:List (List α)} (k:Kst h0 h (aT F :: l)) (E:Ext h h') (V:AFi c er el h' F' Gs rs v x) (hs:∀ z∈F',z∈F∨h.size<=z):Kst h0 h' (aO2 c er el F' Gs rs v x :: l):=
  k.u p0 (E.upT.mono (fun x hx=>by simp at hx) fun x hx _=>k.p.1 x hx) V V.nodup V.lt hs
end Kst
end Go.Proofs.YtdnbklmefmoofaaGreatDoor
namespace Go.Proofs.YtdnbklmefmoofaaGreatDoor
open Go Go.QF
set_option maxRecDepth 100000
set_option maxHeartbeats 4000000
def AH5 (fuel:Nat) (a1 a2 a3 a4 a5:Int):Option Bool:=
  (if a2=1 then (if (ATw .and .i64 a3 1)=1 then (if a4=0 then (some (decide (a5=0))) else (some false)) else (some false)) else (if a2=2 then (if (ATw .and .i64 a3 1)=0 then (if (ATw .and .i64 a4 1)=1 then (some (decide ((ATw .and .i64 a5 1)=0))) else (some false)) else (some false)) else (some false)))
theorem APl {fuel:Nat} {h:ABu} {a1 a2 a3 a4 a5:Int} {r:Bool} (hp:AH5 fuel a1 a2 a3 a4 a5=some r):ACo Tryz.prog 33 #[(.agg #[(.int .i64 a1),(.int .i64 a2),(.int .i64 a3),(.int .i64 a4),(.int .i64 a5)])] h (fun x h'=>Ext h h'/\x= .bool r):=by
 unfold AH5 at hp;refine cwf (l:=[_]) Tryz.func33 rfl rfl (ABp (AFk [(.int .i64 a1),(.int .i64 a2),(.int .i64 a3),(.int .i64 a4),(.int .i64 a5)] trivial tt2 rfl rfl fun b6 h7 V8 E9 Ax=>ABv (ABr (ABp (ADh AMf rfl ?_)))));have Aa:=(Kst.k0 h).nb E9 Ax V8;refine AB3 ADe rfl ((Aa.b p0).cell (i:=1) rfl) (ABt (ABw (ABp (AEf rfl rfl (ABv (⟨_,rfl,fun Ak=>?_,fun Ak=>?_⟩))))))
 ·refine ABp (ADh ANa rfl (AB3 ACw rfl ((Aa.b p0).cell (i:=2) rfl) (AWf rfl rfl (by decide) (AEf rfl rfl (Wo ?_)))));have Ao:=AC8 hp Ak;by_cases Ad:(ATw .and .i64 a3 1)=1
  ·have Ap:=ifT Ao Ad;rw [decide_eq_true Ad];refine AB4 11 true (ADh AN1 rfl (AB4 11 true (AB3 ACw rfl ((Aa.b p0).cell (i:=3) rfl) (AB4 11 true (AEf rfl rfl (AB5 rfl (Wo ?_)))))));by_cases Ae:a4=0
   ·rw [decide_eq_true Ae];refine AB4 16 true (ADh AP0 rfl (AB4 16 true (AB3 ACw rfl ((Aa.b p0).cell (i:=4) rfl) (AB4 16 true (AEf rfl rfl (AB5 rfl (ABv (ABx (ADb (AB2 ?_))))))))));obtain rfl:=ABo (ifT Ap Ae);exact ⟨_,ABz,Aa.x,rfl⟩
   ·rw [decide_eq_false Ae];refine AE3 16 false (AB0 rfl (ABv (ABx (ADb (AB2 ?_)))));obtain rfl:=ABo (ifF Ap Ae);exact ⟨_,ABz,Aa.x,rfl⟩
  ·rw [decide_eq_false Ad];refine AE3 11 false (AB0 rfl (Wo (AE3 16 false (AB0 rfl (ABv (ABx (ADb (AB2 ?_))))))));obtain rfl:=ABo (ifF Ao Ad);exact ⟨_,ABz,Aa.x,rfl⟩
 ·refine ABp (AEf rfl rfl (ABv ?_));have Aq:=AC9 hp Ak;refine ⟨_,rfl,fun Am=>?_,fun Am=>?_⟩
  ·refine ABp (ADh ANa rfl (AB3 ACw rfl ((Aa.b p0).cell (i:=2) rfl) (AWf rfl rfl (by decide) (AEf rfl rfl (Wo ?_)))));have Ar:=AC8 Aq Am;by_cases Af:(ATw .and .i64 a3 1)=0
   ·have Au:=ifT Ar Af;rw [decide_eq_true Af];refine AB4 27 true (ADh AN1 rfl (AB4 27 true (AB3 ACw rfl ((Aa.b p0).cell (i:=3) rfl) (AB4 27 true (AWf rfl rfl (by decide) (AB4 27 true (AEf rfl rfl (AB5 rfl (Wo ?_)))))))));by_cases Ag:(ATw .and .i64 a4 1)=1
    ·rw [decide_eq_true Ag];refine AB4 33 true (ADh AP0 rfl (AB4 33 true (AB3 ACw rfl ((Aa.b p0).cell (i:=4) rfl) (AB4 33 true (AWf rfl rfl (by decide) (AB4 33 true (AEf rfl rfl (AB5 rfl (ABv (ABx (ADb (AB2 ?_))))))))))));obtain rfl:=ABo (ifT Au Ag);exact ⟨_,ABz,Aa.x,rfl⟩
    ·rw [decide_eq_false Ag];refine AFf 33 false (AB0 rfl (ABv (ABx (ADb (AB2 ?_)))));obtain rfl:=ABo (ifF Au Ag);exact ⟨_,ABz,Aa.x,rfl⟩
   ·rw [decide_eq_false Af];refine AFf 27 false (AB0 rfl (Wo (AFf 33 false (AB0 rfl (ABv (ABx (ADb (AB2 ?_))))))));obtain rfl:=ABo (ifF Ar Af);exact ⟨_,ABz,Aa.x,rfl⟩
  ·refine ABy (q_b (q_t (ABp (ABv (ABx ?_)))));obtain rfl:=ABo (AC9 Aq Am);exact ⟨_,ABz,Aa.x,rfl⟩
def AOk (fuel:Nat) (a8:(List AIp)) (Ae:(List AMd)) (Am Ad:Int):Option (((List AMd) × Int × Int) ⊕ ((((List AMd) × Bool)) ⊕ ((List AMd)))):=
  (if Ad < (a8.length:Int) then ((gI a8 Ad).bind fun Aa=>(((if Aa.1 < 0 then (some (Sum.inl <| ([],false))) else (if 60 < Aa.1 then (some (Sum.inl <| ([],false))) else ((AH5 fuel Aa.1 Aa.2.1 Aa.2.2.1 Aa.2.2.2.1 Aa.2.2.2.2).bind fun Aq=>(if (!Aq)=true then (some (Sum.inl <| ([],false))) else (if 0 < Ad then ((gI a8 (w64 (Ad - 1))).bind fun Ar=>(if Aa.1 < Ar.1 then (some (Sum.inl <| ([],false))) else (some (Sum.inr <| ())))) else (some (Sum.inr <| ()))))))):Option ((((List AMd) × Bool)) ⊕ (Unit))).bind (fun ex=>match ex with | Sum.inl Au=>(some (Sum.inr<| Sum.inl <| Au)) | Sum.inr (_)=>(if 8 < (w64 (Am + Aa.2.1)) then (some (Sum.inr<| Sum.inl <| ([],false))) else (((if Ad=0 then (if Ae.length<=100000000 then (some ( (Ae ++ [(Aa.1,0,1,false,0)]))) else none) else ((gI a8 (w64 (Ad - 1))).bind fun Av=>(if Av.1 < Aa.1 then (if Ae.length<=100000000 then (some ( (Ae ++ [(Aa.1,0,1,false,0)]))) else none) else (some ( Ae))))):Option (((List AMd)))).bind (fun (Ab:(List AMd))=>((gI Ab (w64 ((Ab.length:Int) - 1))).bind fun Ax=>(((((if Aa.2.1=1 then ((gI Ab (w64 ((Ab.length:Int) - 1))).bind fun Ac=>((gI (sI Ab (w64 ((Ab.length:Int) - 1)) (Ac.1,Ac.2.1,Ac.2.2.1,true,Ac.2.2.2.2)) (w64 ((Ab.length:Int) - 1))).bind fun Af=>(some ( (Aa.2.2.1,(sI (sI Ab (w64 ((Ab.length:Int) - 1)) (Ac.1,Ac.2.1,Ac.2.2.1,true,Ac.2.2.2.2)) (w64 ((Ab.length:Int) - 1)) (Af.1,Af.2.1,Af.2.2.1,Af.2.2.2.1,(ATw .and .i64 (w64 (Af.2.2.2.2 + (ATw .and .i64 Aa.2.2.1 7))) 7)))))))) else (some ( ((w64 ((w64 (Aa.2.2.1 * Aa.2.2.2.2)) - (w64 (Aa.2.2.2.1 * Aa.2.2.2.1)))),Ab)))):Option ((Int × (List AMd)))).bind (fun ((Ao,Ag):Int × (List AMd))=>(((if (ATw .and .i64 Ao 7)=3 then ((gI Ag (w64 ((Ab.length:Int) - 1))).bind fun Ah=>(some ( (sI Ag (w64 ((Ab.length:Int) - 1)) (Ah.1,Ah.2.1,(w64 (0 - Ah.2.2.1)),Ah.2.2.2.1,Ah.2.2.2.2))))) else (if (ATw .and .i64 Ao 7)=5 then ((gI Ag (w64 ((Ab.length:Int) - 1))).bind fun Ai=>(some ( (sI Ag (w64 ((Ab.length:Int) - 1)) (Ai.1,Ai.2.1,(w64 (0 - Ai.2.2.1)),Ai.2.2.2.1,Ai.2.2.2.2))))) else (some ( Ag)))):Option (((List AMd)))).bind (fun (Ap:(List AMd))=>((gI Ap (w64 ((Ab.length:Int) - 1))).bind fun Aj=>(some ( (sI Ap (w64 ((Ab.length:Int) - 1)) (Aj.1,(w64 (Aj.2.1 + Aa.2.1)),Aj.2.2.1,Aj.2.2.2.1,Aj.2.2.2.2))))))))):Option ((List AMd))).bind fun Aw=>(some (Sum.inl (Aw,(w64 (Am + Aa.2.1)),(w64 (Ad + 1))))))))))))) else (some (Sum.inr<| Sum.inr <| Ae)))
def AKa (fuel:Nat) (a1:Int) (a4:LiI) (a8:(List AIp)):Option ((List AMd) × Bool):=
  (((if ¬ a1=2 then (some (Sum.inl <| ([],false))) else (if (a8.length:Int) < 1 then (some (Sum.inl <| ([],false))) else (some (Sum.inr <| ())))):Option ((((List AMd) × Bool)) ⊕ (Unit))).bind (fun ex=>match ex with | Sum.inl Ac=>(some Ac) | Sum.inr (_)=>((iter (fun s=>AOk fuel a8 s.1 s.2.1 s.2.2) fuel ([],0,0)).bind (fun ex=>match ex with | Sum.inl Ad=>(some Ad) | Sum.inr (Ae)=>(some (Ae,true))))))
theorem AOl {fuel:Nat} {h:ABu} {a1:Int} {Bf:Value} {a4:LiI} {Bg:Value} {a8:(List AIp)} {r:((List AMd) × Bool)} (H3:AEq (cI .i64) h Bf a4) (H7:SlC APo h Bg a8) (hp:AKa fuel a1 a4 a8=some r):ACo Tryz.prog 14 #[(.agg #[(.int .i64 a1),Bf,Bg])] h (fun x h'=>Ext h h'/\ ∃ (x0:Value) (F0:List Nat),x= .tuple #[x0,.bool r.2]/\OwC APb 44 h' F0 x0 r.1/\Sp h' h.size [F0]):=by
 unfold AKa at hp;refine cwf (l:=[_]) Tryz.func14 rfl rfl (ABp (AFk [(.int .i64 a1),Bf,Bg] trivial tt2 rfl rfl fun Fy Fz Cu Cv Cw=>ACr (ABv ?_)));have Ar:=(Kst.k0 h).nb Cv Cw Cu;obtain ⟨Cx,B7,Bh⟩:=ABq hp;refine AL7 130828 (fun x:Unit=>[]) (fun x h'=>(Sum.inr <| ())=Cx/\Kst h h' (Ar.L)) ?_ ?_
 ·refine ABp (ADh AQv rfl (AB3 ACw rfl ((Ar.b p0).cell (i:=0) rfl) (AEt rfl rfl (Wo ?_))));by_cases A4: ¬ a1=2
  ·rw [decide_eq_true A4];refine AFf 11 true (AB5 rfl (ABt (ACh rfl (ABp (ACr (ABv ?_))))));obtain rfl:=ABo (ifT B7 A4);refine ABx (AB2 ?_);have Bi:=Kst.anil APb 44 Ar;obtain rfl:=ABo Bh;exact ⟨_,ADt,Bi.x,_,_,rfl,(Bi.o p0),Bi.s.sel [0] (by decide)⟩
  ·have B8:=ifF B7 A4;rw [decide_eq_false A4];refine AB4 11 false (ADh AOn rfl (AB4 11 false (AB3 AUe rfl ((Ar.b p0).cell (i:=2) rfl) (AB4 11 false (ADi APd rfl H7 (AB4 11 false (ACu rfl rfl (AB0 rfl (ABt (⟨_,rfl,fun Bj=>?_,fun Bj=>?_⟩))))))))))
   ·refine ABp (ACr (ABv ?_));obtain rfl:=ABo (AC8 B8 Bj);refine ABx (AB2 ?_);have Bl:=Kst.anil APb 44 Ar;obtain rfl:=ABo Bh;exact ⟨_,ADt,Bl.x,_,_,rfl,(Bl.o p0),Bl.s.sel [0] (by decide)⟩
   ·refine ABy (q_t ?_);exact ⟨(():Unit),⟨ABo (AC9 B8 Bj),Ar⟩,trivial⟩
 rintro ⟨⟩ F4 F5 ⟨Cy,B9⟩;subst Cy;refine ABp (AC4 (ABv (ABr (ABp (ADh AOn rfl (AB3 AUe rfl ((B9.b p0).cell (i:=2) rfl) (ADi APd rfl H7 (Wo (ABt (ABw ?_))))))))));have Ca:=Kst.anil APb 44 B9;obtain ⟨Am,Cz,Au⟩:=ABq Bh;obtain ⟨C0,C1,C2⟩:=ACe Cz;refine ACq 309485009821345068723732732 (fun x:((List AMd)) × (Value) × LnA × (Int) × (Int)=>[(4,x.2.1),(5,(.int .i64 x.2.2.2.1)),(20,(.int .i64 x.2.2.2.2))]) (fun k x h'=>iter C0 k (x.1,x.2.2.2.1,x.2.2.2.2)=some Am/\Kst h h' (Ca.L.set 0 (aO APb 44 x.2.2.1 x.2.1 x.1))) (by kernel_rfl) fuel (([],(.slice none 0 0),[],0,0):((List AMd)) × (Value) × LnA × (Int) × (Int)) ?_ ⟨rfl,rfl,rfl,trivial⟩ ?_
 ·exact ⟨C2,Ca⟩
 rintro F6 ⟨Bm,C3,C4,C5,Bn⟩ F7 F8 ⟨C6,Ax⟩;obtain ⟨C7,F9,rfl,Ay,Ab⟩:=AB8 C6;rw [C1] at Ay;dsimp only at Ay;unfold AOk at Ay;refine ABp (ACu rfl rfl (ABt (ABr (⟨_,rfl,fun Bo=>?_,fun Bo=>?_⟩))))
 ·refine ABy (q_t (ABr (ABw (ABp (Wo ?_)))));obtain ⟨Aa,C8,C9⟩:=ABq (AC8 Ay Bo);refine AHg (c:=APo) APd rfl H7 rfl C8 fun Ga Gb Gc Da Db=>?_;obtain rfl:=Da;refine ANm (c:=APo) ANn rfl rfl (fun j u hu=>(AB1 (Db j u hu) Ax.x)) (ADj [(.int .i64 0),(.int .i64 0),(.int .i64 0),(.int .i64 0),(.int .i64 0)] AWd rfl trivial tt2 fun Gd Ge Dc Dd De=>ACr ?_);have Cb:=Ax.nb Dd De Dc;refine AC6 [(.int .i64 Aa.1),(.int .i64 Aa.2.1),(.int .i64 Aa.2.2.1),(.int .i64 Aa.2.2.2.1),(.int .i64 Aa.2.2.2.2)] ANn rfl rfl rfl rfl (by simp [isOne]) (Cb.b p0) fun Gf Df Dg=>ABt ?_;have Ao:=Cb.sb p0 Dg Df rfl;obtain ⟨Dh,Cd,Av⟩:=ABq C9;refine AL7 18014398475927564 (fun x:Unit=>[]) (fun x h'=>(Sum.inr <| ())=Dh/\Kst h h' (Ao.L)) ?_ ?_
  ·refine ABr (AI7 (ADh AH9 rfl (AB3 ADe rfl ((Ao.b p0).cell (i:=0) rfl) (ACu rfl rfl (Wo ?_)))));by_cases A5:Aa.1 < 0
   ·rw [decide_eq_true A5];refine AE3 28 true (AB5 rfl (Wo (AE3 33 true (AB5 rfl (Wo (AE3 38 true (AEc 41 (by kernel_rfl) rfl (AEc 41 (by kernel_rfl) rfl (AEc 41 (by kernel_rfl) rfl (AEc 41 (by kernel_rfl) rfl (AEc 41 (by kernel_rfl) rfl (AEc 41 (by kernel_rfl) rfl (AEc 41 (by kernel_rfl) rfl (AEc 41 (by kernel_rfl) rfl (AEc 41 (by kernel_rfl) rfl (AEc 41 (by kernel_rfl) rfl (Abf 38 true (AB5 rfl (ABt (ACh rfl (ABp (ACr (ABv ?_)))))))))))))))))))))));obtain rfl:=ABo (ifT Cd A5);obtain rfl:=ABo Av;change _=Am at Ab;subst Ab;refine ABx (AB2 (ADb (AB2 (AB2 (ADb (AB2 ?_))))));have Bp:=Kst.anil APb 44 Ao;obtain rfl:=ABo Au;exact ⟨_,ADt,Bp.x,_,_,rfl,(Bp.o p0),Bp.s.sel [0] (by decide)⟩
   ·have Ce:=ifF Cd A5;rw [decide_eq_false A5];refine AB4 28 false (ADh AH9 rfl (AB4 28 false (AB3 ADe rfl ((Ao.b p0).cell (i:=0) rfl) (AB4 28 false (AGq rfl rfl (AB0 rfl (Wo ?_)))))));by_cases A6:60 < Aa.1
    ·rw [decide_eq_true A6];refine AE3 33 true (AB5 rfl (Wo (AE3 38 true (AEc 41 (by kernel_rfl) rfl (AEc 41 (by kernel_rfl) rfl (AEc 41 (by kernel_rfl) rfl (AEc 41 (by kernel_rfl) rfl (AEc 41 (by kernel_rfl) rfl (AEc 41 (by kernel_rfl) rfl (AEc 41 (by kernel_rfl) rfl (AEc 41 (by kernel_rfl) rfl (AEc 41 (by kernel_rfl) rfl (AEc 41 (by kernel_rfl) rfl (Abf 38 true (AB5 rfl (ABt (ACh rfl (ABp (ACr (ABv ?_))))))))))))))))))));obtain rfl:=ABo (ifT Ce A6);obtain rfl:=ABo Av;change _=Am at Ab;subst Ab;refine ABx (AB2 (ADb (AB2 (AB2 (ADb (AB2 ?_))))));have Bq:=Kst.anil APb 44 Ao;obtain rfl:=ABo Au;exact ⟨_,ADt,Bq.x,_,_,rfl,(Bq.o p0),Bq.s.sel [0] (by decide)⟩
    ·rw [decide_eq_false A6];refine AB4 33 false (AEk [(.int .i64 Aa.1),(.int .i64 Aa.2.1),(.int .i64 Aa.2.2.1),(.int .i64 Aa.2.2.2.1),(.int .i64 Aa.2.2.2.2)] ANn rfl rfl (Ao.b p0).agg (AB4 33 false ?_));obtain ⟨Di,Dj,Cf⟩:=ABq (ifF Ce A6);refine ADc rfl (APl Dj) fun Gg Gh Dk Dl=>?_;subst Dl;refine AB4 33 false (AEy rfl (AB0 rfl (Wo ?_)));have Ap:=Ao.e Dk;cases Cg:(!Di)
     ·refine AB4 38 false (Wo (AB4 38 false (AGq rfl rfl (AB4 38 false (Wo ?_)))));have Ch:=AHo Cf Cg;by_cases A7:0 < Bn
      ·rw [decide_eq_true A7];refine AB4 41 true (ADh AH9 rfl (AB4 41 true (AB3 ADe rfl ((Ap.b p0).cell (i:=0) rfl) (AB4 41 true (ADh AOn rfl (AB4 41 true (AB3 AUe rfl ((Ap.b p2).cell (i:=2) rfl) (AB4 41 true (Wo (AB4 41 true (AHm rfl rfl (AB4 41 true ?_))))))))))));obtain ⟨Gi,Dn,Ci⟩:=ABq (ifT Ch A7);refine AHg (c:=APo) APd rfl H7 rfl Dn fun Gj Gk Gl Do Dp=>?_;obtain rfl:=Do;refine AB4 41 true (ADh AH9 rfl (AB4 41 true (AB3 ADe rfl (AB1 (Dp 0 _ rfl) Ap.x) (AB4 41 true (ACu rfl rfl (AB4 38 false (AB5 rfl (AB0 rfl (ABt (⟨_,rfl,fun Br=>?_,fun Br=>?_⟩))))))))))
       ·refine ABp (ACr (ABv ?_));obtain rfl:=ABo (AC8 Ci Br);obtain rfl:=ABo Av;change _=Am at Ab;subst Ab;refine ABx (AB2 (ADb (AB2 (AB2 (ADb (AB2 ?_))))));have Bt:=Kst.anil APb 44 Ap;obtain rfl:=ABo Au;exact ⟨_,ADt,Bt.x,_,_,rfl,(Bt.o p0),Bt.s.sel [0] (by decide)⟩
       ·refine ABy (q_t ?_);exact ⟨(():Unit),⟨ABo (AC9 Ci Br),Ap⟩,trivial⟩
      ·rw [decide_eq_false A7];refine AHn 41 false (AHn 41 false (AB4 38 false (AB0 rfl (AB0 rfl (ABt (ACn rfl (ABy (q_t ?_))))))));exact ⟨(():Unit),⟨ABo (ifF Ch A7),Ap⟩,trivial⟩
     ·refine AE3 38 true (AEc 41 (by kernel_rfl) rfl (AEc 41 (by kernel_rfl) rfl (AEc 41 (by kernel_rfl) rfl (AEc 41 (by kernel_rfl) rfl (AEc 41 (by kernel_rfl) rfl (AEc 41 (by kernel_rfl) rfl (AEc 41 (by kernel_rfl) rfl (AEc 41 (by kernel_rfl) rfl (AEc 41 (by kernel_rfl) rfl (AEc 41 (by kernel_rfl) rfl (Abf 38 true (AB5 rfl (ABt (ACh rfl (ABp (ACr (ABv ?_)))))))))))))))));obtain rfl:=ABo (ifT Cf Cg);obtain rfl:=ABo Av;change _=Am at Ab;subst Ab;refine ABx (AB2 (ADb (AB2 (AB2 (ADb (AB2 ?_))))));have Bu:=Kst.anil APb 44 Ap;obtain rfl:=ABo Au;exact ⟨_,ADt,Bu.x,_,_,rfl,(Bu.o p0),Bu.s.sel [0] (by decide)⟩
  rintro ⟨⟩ Gm Gn ⟨Dq,Ac⟩;subst Dq;refine ABp (Wo (ADh AMf rfl (AB3 ADe rfl ((Ac.b p0).cell (i:=1) rfl) (ACx rfl rfl (ABv (ABr (ABp (Wo (AGq rfl rfl (ABt (⟨_,rfl,fun Bv=>?_,fun Bv=>?_⟩)))))))))))
  ·refine ABp (ACr (ABv ?_));obtain rfl:=ABo (AC8 Av Bv);change _=Am at Ab;subst Ab;refine ABx (AB2 (ADb (AB2 (AB2 (ADb (AB2 ?_))))));have Bw:=Kst.anil APb 44 Ac;obtain rfl:=ABo Au;exact ⟨_,ADt,Bw.x,_,_,rfl,(Bw.o p0),Bw.s.sel [0] (by decide)⟩
  ·refine ABy (q_t ?_);obtain ⟨Dr,Cj,Ds⟩:=ABq (AC9 Av Bv);refine AL7 1208924666693124567859216 (fun x:((List AMd)) × (Value) × LnA=>[(4,x.2.1)]) (fun x h'=>( x.1)=Dr/\Kst h h' (Ac.L.set 1 (aO APb 44 x.2.2 x.2.1 x.1))) ?_ ?_
   ·refine ABr (AI7 (Wo (AEf rfl rfl (Wo ?_))));by_cases A8:Bn=0
    ·rw [decide_eq_true A8];refine AHn 62 true (AHn 62 true (AB5 rfl (ABt (ACh rfl (AB6 (Wo (ADh AH9 rfl (AB3 ADe rfl ((Ac.b p0).cell (i:=0) rfl) (AG7 (v:=(.agg #[(.int .i64 Aa.1),(.int .i64 0),(.int .i64 1),(.bool false),(.int .i64 0)])) (fun _=>by kernel_rfl) ?_)))))))));obtain ⟨Dt,Du⟩:=ifN (ifT Cj A8);refine AM9 AUd Acr rfl rfl trivial tt2 (fun _=>rfl) rfl (show (APb).rep _ (Aa.1,0,1,false,0) [(.int .i64 Aa.1),(.int .i64 0),(.int .i64 1),(.bool false),(.int .i64 0)] from rfl) (Ac.o p1) (by decide) Dt fun Gp Dv Dw Gq Dx Dy Dz=>ABv ?_;exact ⟨(((Bm ++ [(Aa.1,0,1,false,0)]),Dw,Dv):((List AMd)) × (Value) × LnA),⟨ABo Du,(Ac.uo p1 Dy Dx Dz)⟩,rfl,trivial⟩
    ·rw [decide_eq_false A8];refine AB4 62 false (ADh AH9 rfl (AB4 62 false (AB3 ADe rfl ((Ac.b p0).cell (i:=0) rfl) (AB4 62 false (ADh AOn rfl (AB4 62 false (AB3 AUe rfl ((Ac.b p2).cell (i:=2) rfl) (AB4 62 false (Wo (AB4 62 false (AHm rfl rfl (AB4 62 false ?_))))))))))));obtain ⟨Gr,D0,Ck⟩:=ABq (ifF Cj A8);refine AHg (c:=APo) APd rfl H7 rfl D0 fun Gt Gu Gv D1 D2=>?_;obtain rfl:=D1;refine AB4 62 false (ADh AH9 rfl (AB4 62 false (AB3 ADe rfl (AB1 (D2 0 _ rfl) Ac.x) (AB4 62 false (AGq rfl rfl (AB0 rfl (ABt (⟨_,rfl,fun Bx=>?_,fun Bx=>?_⟩))))))))
     ·refine AB6 (Wo (ADh AH9 rfl (AB3 ADe rfl ((Ac.b p0).cell (i:=0) rfl) (AG7 (v:=(.agg #[(.int .i64 Aa.1),(.int .i64 0),(.int .i64 1),(.bool false),(.int .i64 0)])) (fun _=>by kernel_rfl) ?_))));obtain ⟨D3,D4⟩:=ifN (AC8 Ck Bx);refine AM9 AUd Acr rfl rfl trivial tt2 (fun _=>rfl) rfl (show (APb).rep _ (Aa.1,0,1,false,0) [(.int .i64 Aa.1),(.int .i64 0),(.int .i64 1),(.bool false),(.int .i64 0)] from rfl) (Ac.o p1) (by decide) D3 fun Gw D5 D6 Gx D7 D8 D9=>ABv ?_;exact ⟨(((Bm ++ [(Aa.1,0,1,false,0)]),D6,D5):((List AMd)) × (Value) × LnA),⟨ABo D4,(Ac.uo p1 D8 D7 D9)⟩,rfl,trivial⟩
     ·refine ABy (q_t ?_);exact ⟨((Bm,C3,C4):((List AMd)) × (Value) × LnA),⟨ABo (AC9 Ck Bx),Ac⟩,rfl,trivial⟩
   rintro ⟨Aq,A9,Ba⟩ Gy Gz ⟨Ea,Az⟩;subst Ea;refine AI7 (Wo (Wo (ADi AUd rfl (Az.o p1).rd (AHm rfl rfl ?_))));obtain ⟨G3,Eb,Ec⟩:=ABq Ds;refine AW0 AUd rfl (Az.o p1) rfl Eb fun G4 Ai=>AEk [(.int .i64 Aa.1),(.int .i64 Aa.2.1),(.int .i64 Aa.2.2.1),(.int .i64 Aa.2.2.2.1),(.int .i64 Aa.2.2.2.2)] ANn rfl rfl (Az.b p0).agg ?_;obtain ⟨Ed,Ee,Ef⟩:=ABq Ec;refine ACl (K':=(fun xr h'=> ∃ x:((List AMd)),x=Ed/\xr= .tuple #[]/\Kst h h' (Az.L.set 1 (aO APb 44 Ba A9 x)))) trivial rfl ?_ fun G5 G6 Eg=>?_
   ·refine cwf (l:=[_,_]) Tryz.func34 rfl rfl (ABp (AFk [(.int .i64 Aa.1),(.int .i64 Aa.2.1),(.int .i64 Aa.2.2.1),(.int .i64 Aa.2.2.2.1),(.int .i64 Aa.2.2.2.2)] trivial tt2 rfl rfl fun G7 G8 Eh Ei Ej=>AK4 (ADh ANa rfl ?_)));have Ad:=Az.nb Ei Ej Eh;refine AB3 ACw rfl ((Ad.b p0).cell (i:=2) rfl) (ABv ?_);obtain ⟨Ek,Cm,El⟩:=ABq Ee;refine AL7 137438953232 (fun x:(Int) × ((List AMd))=>[(4,(.int .i64 x.1))]) (fun x h'=>( (x.1,x.2))=Ek/\Kst h h' (Ad.L.set 2 (aO APb 44 Ba A9 x.2))) ?_ ?_
    ·refine ABp (ADh AMf rfl (AB3 ADe rfl ((Ad.b p0).cell (i:=1) rfl) (AEf rfl rfl (ABt (⟨_,rfl,fun By=>?_,fun By=>?_⟩)))))
     ·refine ABp (Wo (AI0 rfl (ADh Ahv rfl ?_)));obtain ⟨Aj,Em,En⟩:=ABq (AC8 Cm By);refine AZ3 (c:=APb) (a':=(Aj.1,Aj.2.1,Aj.2.2.1,true,Aj.2.2.2.2)) AFt rfl rfl rfl (by decide) (Ad.o p2) Ai Em (fun _ q=>by cases q;rfl) fun G9 Eo Ep=>ABt (AI7 (Wo (Wo (AI0 rfl (ADh Ahw rfl ?_)))));have Bb:=Ad.uO p2 Ep Eo;obtain ⟨Ae,Cn,Er⟩:=ABq En;obtain ⟨Hb,Es,Et⟩:=(Bb.o p2).cells Ai Cn;obtain rfl:=Es;refine AB3 ADe rfl (Et 4 _ rfl) (ADh ANa rfl (AB3 ACw rfl ((Bb.b p0).cell (i:=2) rfl) (AWf rfl rfl (by decide) (ACx rfl rfl (AWf rfl rfl (by decide) (AI0 rfl (ADh Ahw rfl (AZ3 (c:=APb) (a':=(Ae.1,Ae.2.1,Ae.2.2.1,Ae.2.2.2.1,(ATw .and .i64 (w64 (Ae.2.2.2.2 + (ATw .and .i64 Aa.2.2.1 7))) 7))) ADe rfl rfl rfl (by decide) (Bb.o p2) Ai Cn (fun _ q=>by cases q;rfl) fun Hc Eu Ev=>ABt ?_))))))));exact ⟨((Aa.2.2.1,(sI (sI Aq (w64 ((Aq.length:Int) - 1)) (Aj.1,Aj.2.1,Aj.2.2.1,true,Aj.2.2.2.2)) (w64 ((Aq.length:Int) - 1)) (Ae.1,Ae.2.1,Ae.2.2.1,Ae.2.2.2.1,(ATw .and .i64 (w64 (Ae.2.2.2.2 + (ATw .and .i64 Aa.2.2.1 7))) 7)))):(Int) × ((List AMd))),⟨ABo Er,(Bb.uO p2 Ev Eu)⟩,rfl,trivial⟩
     ·refine AB6 (ADh ANa rfl (AB3 ACw rfl ((Ad.b p0).cell (i:=2) rfl) (ADh AP0 rfl (AB3 ACw rfl ((Ad.b p0).cell (i:=4) rfl) (AR7 rfl rfl (ADh AN1 rfl (AB3 ACw rfl ((Ad.b p0).cell (i:=3) rfl) (ADh AN1 rfl (AB3 ACw rfl ((Ad.b p0).cell (i:=3) rfl) (AR7 rfl rfl (AHm rfl rfl (ABv ?_))))))))))));exact ⟨(((w64 ((w64 (Aa.2.2.1 * Aa.2.2.2.2)) - (w64 (Aa.2.2.2.1 * Aa.2.2.2.1)))),Aq):(Int) × ((List AMd))),⟨ABo (AC9 Cm By),Ad⟩,rfl,trivial⟩
    rintro ⟨Ew,Bz⟩ Hd He ⟨Ey,Ak⟩;subst Ey;obtain ⟨Ez,Co,Fa⟩:=ABq El;refine AL7 9007061815787552 (fun x:((List AMd))=>[]) (fun x h'=>( x)=Ez/\Kst h h' (Ak.L.set 2 (aO APb 44 Ba A9 x))) ?_ ?_
    ·refine ABp (Wo (AWf rfl rfl (by decide) (AC4 (Wo (AEf rfl rfl (Wo ?_))))));by_cases Bc:(ATw .and .i64 Ew 7)=3
     ·rw [decide_eq_true Bc];refine AKb 41 true (AB5 rfl (ABt (ACh rfl (AB6 (Wo (Wo (AI0 rfl (ADh AYx rfl ?_))))))));obtain ⟨Af,Cp,Fb⟩:=ABq (ifT Co Bc);obtain ⟨Hf,Fc,Fd⟩:=(Ak.o p2).cells Ai Cp;obtain rfl:=Fc;refine AB3 ADe rfl (Fd 2 _ rfl) (Abb rfl (AI0 rfl (ADh AYx rfl (AZ3 (c:=APb) (a':=(Af.1,Af.2.1,(w64 (0 - Af.2.2.1)),Af.2.2.2.1,Af.2.2.2.2)) ADe rfl rfl rfl (by decide) (Ak.o p2) Ai Cp (fun _ q=>by cases q;rfl) fun Hg Fe Ff=>ABt ?_))));exact ⟨((sI Bz (w64 ((Aq.length:Int) - 1)) (Af.1,Af.2.1,(w64 (0 - Af.2.2.1)),Af.2.2.2.1,Af.2.2.2.2)):((List AMd))),⟨ABo Fb,(Ak.uO p2 Ff Fe)⟩,trivial⟩
     ·have Cq:=ifF Co Bc;rw [decide_eq_false Bc];refine AB4 41 false (Wo (AB4 41 false (AEf rfl rfl (AB0 rfl (ABt (⟨_,rfl,fun B1=>?_,fun B1=>?_⟩))))))
      ·refine AB6 (Wo (Wo (AI0 rfl (ADh AYx rfl ?_))));obtain ⟨Ag,Cr,Fg⟩:=ABq (AC8 Cq B1);obtain ⟨Hh,Fh,Fi⟩:=(Ak.o p2).cells Ai Cr;obtain rfl:=Fh;refine AB3 ADe rfl (Fi 2 _ rfl) (Abb rfl (AI0 rfl (ADh AYx rfl (AZ3 (c:=APb) (a':=(Ag.1,Ag.2.1,(w64 (0 - Ag.2.2.1)),Ag.2.2.2.1,Ag.2.2.2.2)) ADe rfl rfl rfl (by decide) (Ak.o p2) Ai Cr (fun _ q=>by cases q;rfl) fun Hj Fj Fk=>ABt ?_))));exact ⟨((sI Bz (w64 ((Aq.length:Int) - 1)) (Ag.1,Ag.2.1,(w64 (0 - Ag.2.2.1)),Ag.2.2.2.1,Ag.2.2.2.2)):((List AMd))),⟨ABo Fg,(Ak.uO p2 Fk Fj)⟩,trivial⟩
      ·refine ABy (q_t ?_);exact ⟨(Bz:((List AMd))),⟨ABo (AC9 Cq B1),Ak⟩,trivial⟩
    rintro Fl Hk Hl ⟨Fm,Be⟩;subst Fm;refine AI7 (Wo (AI0 rfl (ADh Ahu rfl ?_)));obtain ⟨Ah,Ct,Fo⟩:=ABq Fa;obtain ⟨Hm,Fp,Fq⟩:=(Be.o p2).cells Ai Ct;obtain rfl:=Fp;refine AB3 ADe rfl (Fq 1 _ rfl) (ADh AMf rfl (AB3 ADe rfl ((Be.b p0).cell (i:=1) rfl) (ACx rfl rfl (AI0 rfl (ADh Ahu rfl (AZ3 (c:=APb) (a':=(Ah.1,(w64 (Ah.2.1 + Aa.2.1)),Ah.2.2.1,Ah.2.2.2.1,Ah.2.2.2.2)) ADe rfl rfl rfl (by decide) (Be.o p2) Ai Ct (fun _ q=>by cases q;rfl) fun Hn Fr Ft=>ACs (⟨_,Aa9,((sI Fl (w64 ((Aq.length:Int) - 1)) (Ah.1,(w64 (Ah.2.1 + Aa.2.1)),Ah.2.2.1,Ah.2.2.2.1,Ah.2.2.2.2)):((List AMd))),?_,rfl,?_⟩)))))))
    ·exact ABo Fo
    ·exact (Be.uO p2 Ft Fr).sel [1,2,3] (by decide)
   obtain ⟨Fu,Fv,rfl,Fw⟩:=Eg;refine ⟨trivial,?_⟩;subst Fv;refine ACs (q_b (q_t (AB6 (ACx rfl rfl (Wo (ABt ?_))))));obtain rfl:=ABo Ef;exact ⟨C7,((Fu,A9,Ba,(w64 (C5 + Aa.2.1)),(w64 (Bn + 1))):((List AMd)) × (Value) × LnA × (Int) × (Int)),Nat.lt_succ_self _,⟨Ab,Fw.sel [1,2] (by decide)⟩,rfl,rfl,rfl,trivial⟩
 ·obtain rfl:=ABo (AC9 Ay Bo);change _=Am at Ab;subst Ab;refine ACg (ACi (ACi (ADp (q_t (ABp (Wo (ACr (ABv (ABx ?_)))))))));obtain rfl:=ABo Au;exact ⟨_,ADt,Ax.x,_,_,rfl,(Ax.o p0),Ax.s.sel [0] (by decide)⟩
def ATi (fuel:Nat) (Ab:(List AMd)) (Aa:Int):Option ((Int) ⊕ ((Bool) ⊕ (Unit))):=
  (if Aa < (Ab.length:Int) then ((gI Ab Aa).bind fun Ac=>(if Ac.1=0 then (if Ac.2.2.2.1=true then (some (Sum.inr<| Sum.inl <| false)) else (some (Sum.inl (w64 (Aa + 1))))) else (some (Sum.inl (w64 (Aa + 1)))))) else (some (Sum.inr<| Sum.inr <| ())))
def ASu (fuel:Nat) (a1:Int) (a4:LiI) (a8:(List AIp)):Option Bool:=
  ((AKa fuel a1 a4 a8).bind fun (Ad,Ae)=>(if (!Ae)=true then (some false) else ((iter (fun s=>ATi fuel Ad s) fuel 0).bind (fun ex=>match ex with | Sum.inl Af=>(some Af) | Sum.inr (_)=>(some true)))))
theorem AYb {fuel:Nat} {h:ABu} {a1:Int} {Af:Value} {a4:LiI} {Ag:Value} {a8:(List AIp)} {r:Bool} (H3:AEq (cI .i64) h Af a4) (H7:SlC APo h Ag a8) (hp:ASu fuel a1 a4 a8=some r):ACo Tryz.prog 15 #[(.agg #[(.int .i64 a1),Af,Ag])] h (fun x h'=>Ext h h'/\x= .bool r):=by
 unfold ASu at hp;refine cwf (l:=[_]) Tryz.func15 rfl rfl (ABp (AFk [(.int .i64 a1),Af,Ag] trivial tt2 rfl rfl fun Bx By A9 Ba Bb=>AC4 ?_));have Ah:=(Kst.k0 h).nb Ba Bb A9;refine AEk [(.int .i64 a1),Af,Ag] AQk rfl rfl (Ah.b p0).agg ?_;obtain ⟨⟨Bz,B1⟩,Bc,Ak⟩:=ABq hp;dsimp only at Ak;refine ADc rfl (AOl (H3.ext Ah.x) (H7.ext Ah.x) Bc) fun B3 B4 Be Bf=>?_;obtain ⟨B5,B6,rfl,Bg,Bh⟩:=Bf;refine Wo (ADn rfl rfl (ADn rfl rfl (ACr (ABv (ABr (ABp (Wo (AEy rfl (ABt ?_)))))))));have Am:=Ah.no Be Bh Bg;refine ⟨_,rfl,fun Ao=>?_,fun Ao=>?_⟩
 ·refine ABp (ABv (ABx (AB2 ?_)));obtain rfl:=ABo (ifT Ak Ao);exact ⟨_,ABz,Am.x,rfl⟩
 ·refine ABy (q_t (ABr (ABp (Wo (ADi AUd rfl (Am.o p0).rd (Wo (ABt (ABw ?_))))))));obtain ⟨Ap,Bi,Ax⟩:=ABq (AHo Ak Ao);obtain ⟨Bj,Bl,Bm⟩:=ACe Bi;have Aq:=Am.sel [0] (by decide);dsimp only [AIq,ALo] at Aq;refine ACq 268369988 (fun x:(Int)=>[(16,(.int .i64 x))]) (fun k x h'=>iter Bj k x=some Ap/\Kst h h' (Aq.L)) (by kernel_rfl) fuel (0:(Int)) ?_ ⟨rfl,trivial⟩ ?_
  ·exact ⟨Bm,Aq⟩
  rintro B7 Ay B8 B9 ⟨Bn,Ai⟩;obtain ⟨Az,Ca,rfl,Ac,Aa⟩:=AB8 Bn;rw [Bl] at Ac;dsimp only at Ac;unfold ATi at Ac;refine ABp (ACu rfl rfl (ABt (ABr (⟨_,rfl,fun Ar=>?_,fun Ar=>?_⟩))))
  ·refine ABy (q_t (ABr (ABw (ABp ?_))));obtain ⟨Ab,A3,A4⟩:=ABq (AC8 Ac Ar);refine AW0 AUd rfl (Ai.o p0) rfl A3 fun Cb Bo=>?_;obtain ⟨Cd,Bp,Bq⟩:=(Ai.o p0).cells Bo A3;obtain rfl:=Bp;refine ANm (c:=APb) Acq rfl rfl (fun j u hu=>(Bq j u hu)) (ADj [(.int .i64 0),(.int .i64 0),(.int .i64 0),(.bool false),(.int .i64 0)] Acr rfl trivial tt2 fun Ce Cf Br Bt Bu=>?_);have A5:=Ai.nb Bt Bu Br;refine AC6 [(.int .i64 Ab.1),(.int .i64 Ab.2.1),(.int .i64 Ab.2.2.1),(.bool Ab.2.2.2.1),(.int .i64 Ab.2.2.2.2)] Acq rfl rfl rfl rfl (by simp [isOne]) (A5.b p0) fun Cg Bv Bw=>AK4 (ADh Ape rfl ?_);have Ad:=A5.sb p0 Bw Bv rfl;refine AB3 ADe rfl ((Ad.b p0).cell (i:=0) rfl) (AEf rfl rfl (Wo ?_));by_cases Aj:Ab.1=0
   ·have A6:=ifT A4 Aj;rw [decide_eq_true Aj];refine AB4 23 true (ADh Ahv rfl (AB4 23 true (AB3 AFt rfl ((Ad.b p0).cell (i:=3) rfl) (AB5 rfl (ABt (⟨_,rfl,fun Au=>?_,fun Au=>?_⟩))))))
    ·refine ABp (ABv ?_);obtain rfl:=ABo (ifT A6 Au);change _=Ap at Aa;subst Aa;refine ABx (ADb (AB2 (AB2 (ADb (AB2 ?_)))));obtain rfl:=ABo Ax;exact ⟨_,ABz,Ad.x,rfl⟩
    ·refine ABy (q_b (q_t (AB6 (ACx rfl rfl (Wo (ABt ?_))))));obtain rfl:=ABo (AHo A6 Au);exact ⟨Az,((w64 (Ay + 1)):(Int)),Nat.lt_succ_self _,⟨Aa,Ad.sel [1] (by decide)⟩,rfl,trivial⟩
   ·rw [decide_eq_false Aj];refine AKb 23 false (AB0 rfl (ABt (ACn rfl (ABy (q_b (q_t (AB6 (ACx rfl rfl (Wo (ABt ?_))))))))));obtain rfl:=ABo (ifF A4 Aj);exact ⟨Az,((w64 (Ay + 1)):(Int)),Nat.lt_succ_self _,⟨Aa,Ad.sel [1] (by decide)⟩,rfl,trivial⟩
  ·obtain rfl:=ABo (AC9 Ac Ar);change _=Ap at Aa;subst Aa;refine ACg (ACi (ACi (ADp (q_t (ABp (ABv (ABx ?_)))))));obtain rfl:=ABo Ax;exact ⟨_,ABz,Ai.x,rfl⟩
def ALl (fuel:Nat) (a1 a3 a4 a5 a6 Ac:Int):Option ((Int) ⊕ ((Bool) ⊕ (Unit))):=
  (if Ac < 3 then ((gI ([a3,a4,a5]:List Int) Ac).bind fun Ad=>(if Ad < 0 then (some (Sum.inr<| Sum.inl <| false)) else (if 0<=(w64 (a6 - a1))/\(w64 (a6 - a1))<=64 then (if (w64 (1 * 2 ^ Int.toNat (w64 (a6 - a1))))<=Ad then (some (Sum.inr<| Sum.inl <| false)) else (some (Sum.inl (w64 (Ac + 1))))) else none))) else (some (Sum.inr<| Sum.inr <| ())))
def AL4 (fuel:Nat) (a1 a2 a3 a4 a5 a6:Int):Option Bool:=
  ((iter (fun s=>ALl fuel a1 a3 a4 a5 a6 s) fuel 0).bind (fun ex=>match ex with | Sum.inl Af=>(some Af) | Sum.inr (_)=>(some true)))
theorem AVy {fuel:Nat} {h:ABu} {a1 a2 a3 a4 a5 a6:Int} {r:Bool} (hp:AL4 fuel a1 a2 a3 a4 a5 a6=some r):ACo Tryz.prog 52 #[(.agg #[(.int .i64 a1),(.int .i64 a2),(.int .i64 a3),(.int .i64 a4),(.int .i64 a5)]),(.int .i64 a6)] h (fun x h'=>Ext h h'/\x= .bool r):=by
 unfold AL4 at hp;refine cwf (l:=[_,_]) Tryz.func52 rfl rfl (ABp (AFk [(.int .i64 a1),(.int .i64 a2),(.int .i64 a3),(.int .i64 a4),(.int .i64 a5)] trivial tt2 rfl rfl fun b7 h8 V9 Aw Ax=>ABv (ABr (ABp (ADh ANa rfl ?_)))));have Ab:=(Kst.k0 h).nb Aw Ax V9;refine AB3 ACw rfl ((Ab.b p0).cell (i:=2) rfl) (ADh AN1 rfl (AB3 ACw rfl ((Ab.b p0).cell (i:=3) rfl) (ADh AP0 rfl (AB3 ACw rfl ((Ab.b p0).cell (i:=4) rfl) (AG7 (v:=(.agg #[(.int .i64 a3),(.int .i64 a4),(.int .i64 a5)])) (fun _=>by kernel_rfl) (Wo (ABt (ABw ?_))))))));obtain ⟨Ah,Ay,Am⟩:=ABq hp;obtain ⟨Az,A3,A4⟩:=ACe Ay;refine ACq 536854608 (fun x:(Int)=>[(14,(.int .i64 x))]) (fun k x h'=>iter Az k x=some Ah/\Kst h h' (Ab.L)) (by kernel_rfl) fuel (0:(Int)) ?_ ⟨rfl,trivial⟩ ?_
 ·exact ⟨A4,Ab⟩
 rintro Be A5 Bf Bg ⟨A6,Ac⟩;obtain ⟨A7,Bh,rfl,Ad,Aa⟩:=AB8 A6;rw [A3] at Ad;dsimp only at Ad;unfold ALl at Ad;refine ABp (ACu rfl rfl (ABt (ABr (⟨_,rfl,fun Ao=>?_,fun Ao=>?_⟩))))
 ·refine ABy (q_t (ABr (ABw (ABp ?_))));obtain ⟨A8,A9,Ar⟩:=ABq (AC8 Ad Ao);refine Ak4 (cs:= #[]) (v:=undef) (Aux A9) (AC4 (Wo (ACu rfl rfl (Wo ?_))));by_cases Ai:A8 < 0
  ·rw [decide_eq_true Ai];refine AHn 19 true (AKb 19 true (AB5 rfl (ABt (ACh rfl (ABp (ABv ?_))))));obtain rfl:=ABo (ifT Ar Ai);change _=Ah at Aa;subst Aa;refine ABx (ADb (AB2 (AB2 (ADb (AB2 ?_)))));obtain rfl:=ABo Am;exact ⟨_,ABz,Ac.x,rfl⟩
  ·rw [decide_eq_false Ai];refine AB4 19 false (Wo (AB4 19 false (Wo (AB4 19 false (ADh AH9 rfl (AB4 19 false (AB3 ADe rfl ((Ac.b p0).cell (i:=0) rfl) (AB4 19 false (AHm rfl rfl (AB4 19 false ?_))))))))));obtain ⟨Ba,Au⟩:=ifN (ifF Ar Ai);refine ATx rfl rfl Ba (AB4 19 false (AM5 rfl rfl (AB0 rfl (ABt (⟨_,rfl,fun Ap=>?_,fun Ap=>?_⟩)))))
   ·refine ABp (ABv ?_);obtain rfl:=ABo (AC8 Au Ap);change _=Ah at Aa;subst Aa;refine ABx (ADb (AB2 (AB2 (ADb (AB2 ?_)))));obtain rfl:=ABo Am;exact ⟨_,ABz,Ac.x,rfl⟩
   ·refine ABy (q_b (q_t (AB6 (ACx rfl rfl (Wo (ABt ?_))))));obtain rfl:=ABo (AC9 Au Ap);exact ⟨A7,((w64 (A5 + 1)):(Int)),Nat.lt_succ_self _,⟨Aa,Ac⟩,rfl,trivial⟩
 ·obtain rfl:=ABo (AC9 Ad Ao);change _=Ah at Aa;subst Aa;refine ACg (ACi (ACi (ADp (q_t (ABp (ABv (ABx ?_)))))));obtain rfl:=ABo Am;exact ⟨_,ABz,Ac.x,rfl⟩
def AMp (fuel:Nat) (Aa:Int) (Ac:LiA) (Ab:Int):Option ((Int) ⊕ ((Bool) ⊕ (Unit))):=
  (if Ab < (Ac.length:Int) then ((gI Ac Ab).bind fun Ad=>(if Ad < 0 then (some (Sum.inr<| Sum.inl <| false)) else (if 0<=Aa/\Aa<=64 then (if (w64 (1 * 2 ^ Int.toNat Aa))<=Ad then (some (Sum.inr<| Sum.inl <| false)) else (some (Sum.inl (w64 (Ab + 1))))) else none))) else (some (Sum.inr<| Sum.inr <| ())))
def AMq (fuel:Nat) (Ac Ad:LiI) (Ab:Int) (Ae:LiA) (Aa:Int):Option ((Int) ⊕ ((Bool) ⊕ (Unit))):=
  (if Aa < (Ae.length:Int) then ((gI Ad Ab).bind fun Af=>((gI Af Aa).bind fun Ag=>((gI Ac Ab).bind fun Ah=>((gI Ah Aa).bind fun Ai=>(if ¬ Ag=Ai then (some (Sum.inr<| Sum.inl <| false)) else (some (Sum.inl (w64 (Aa + 1))))))))) else (some (Sum.inr<| Sum.inr <| ())))
def AJ3 (fuel:Nat) (Ac Ab:LiI) (Aa:Int):Option ((Int) ⊕ ((Bool) ⊕ (Unit))):=
  (if Aa < (Ab.length:Int) then ((gI Ab Aa).bind fun Ad=>((iter (fun s=>AMq fuel Ac Ab Aa Ad s) fuel 0).bind (fun ex=>match ex with | Sum.inl Ae=>(some (Sum.inr<| Sum.inl <| Ae)) | Sum.inr (_)=>(some (Sum.inl (w64 (Aa + 1))))))) else (some (Sum.inr<| Sum.inr <| ())))
def AMr (fuel:Nat) (Ah:(List AIp)) (Ai Ab Ak Af:Int) (Ac:LiI):Option ((Int × Int × Int × LiI) ⊕ ((Bool) ⊕ (LiI))):=
  (if Af < (Ah.length:Int) then ((gI Ah Af).bind fun Aa=>(((if Aa.1 < Ak then (some (Sum.inl <| false)) else (if (w64 (Ai - 3)) < Aa.1 then (some (Sum.inl <| false)) else ((AL4 fuel Aa.1 Aa.2.1 Aa.2.2.1 Aa.2.2.2.1 Aa.2.2.2.2 Ai).bind fun Am=>(if (!Am)=true then (some (Sum.inl <| false)) else ((AH5 fuel Aa.1 Aa.2.1 Aa.2.2.1 Aa.2.2.2.1 Aa.2.2.2.2).bind fun Ao=>(if (!Ao)=true then (some (Sum.inl <| false)) else (some (Sum.inr <| ())))))))):Option ((Bool) ⊕ (Unit))).bind (fun ex=>match ex with | Sum.inl Ap=>(some (Sum.inr<| Sum.inl <| Ap)) | Sum.inr (_)=>((gI Ac Ab).bind fun Ad=>(if 0<=Aa.1/\Aa.1<=64 then ((gI Ad Ab).bind fun Ar=>(((if Aa.2.1=2 then ((gI (sI Ac Ab (sI Ad Ab (w64 (Aa.2.2.1 * 2 ^ Int.toNat Aa.1)))) Ab).bind fun Ae=>(if 0<=Aa.1/\Aa.1<=64 then ((gI Ae (w64 (Ab + 1))).bind fun Au=>((gI (sI (sI Ac Ab (sI Ad Ab (w64 (Aa.2.2.1 * 2 ^ Int.toNat Aa.1)))) Ab (sI Ae (w64 (Ab + 1)) (w64 (Aa.2.2.2.1 * 2 ^ Int.toNat Aa.1)))) (w64 (Ab + 1))).bind fun Ag=>(if 0<=Aa.1/\Aa.1<=64 then ((gI Ag Ab).bind fun Av=>((gI (sI (sI (sI Ac Ab (sI Ad Ab (w64 (Aa.2.2.1 * 2 ^ Int.toNat Aa.1)))) Ab (sI Ae (w64 (Ab + 1)) (w64 (Aa.2.2.2.1 * 2 ^ Int.toNat Aa.1)))) (w64 (Ab + 1)) (sI Ag Ab (w64 (Aa.2.2.2.1 * 2 ^ Int.toNat Aa.1)))) (w64 (Ab + 1))).bind fun Aj=>(if 0<=Aa.1/\Aa.1<=64 then ((gI Aj (w64 (Ab + 1))).bind fun Aw=>(some ( (sI (sI (sI (sI Ac Ab (sI Ad Ab (w64 (Aa.2.2.1 * 2 ^ Int.toNat Aa.1)))) Ab (sI Ae (w64 (Ab + 1)) (w64 (Aa.2.2.2.1 * 2 ^ Int.toNat Aa.1)))) (w64 (Ab + 1)) (sI Ag Ab (w64 (Aa.2.2.2.1 * 2 ^ Int.toNat Aa.1)))) (w64 (Ab + 1)) (sI Aj (w64 (Ab + 1)) (w64 (Aa.2.2.2.2 * 2 ^ Int.toNat Aa.1))))))) else none))) else none))) else none)) else (some ( (sI Ac Ab (sI Ad Ab (w64 (Aa.2.2.1 * 2 ^ Int.toNat Aa.1))))))):Option ((LiI))).bind (fun (Aq:LiI)=>(some (Sum.inl ((w64 (Ab + Aa.2.1)),Aa.1,(w64 (Af + 1)),Aq)))))) else none))))) else (some (Sum.inr<| Sum.inr <| Ac)))
def AMs (fuel:Nat) (a3:LiI) (Ab:Int) (Ac:LiI):Option ((Int × LiI) ⊕ ((LiI))):=
  (if Ab < ((List.replicate (Int.toNat (a3.length:Int)) ([]:List Int)).length:Int) then (if 0<=(a3.length:Int)/\(a3.length:Int)<=100000000 then ((gI Ac Ab).bind fun Ad=>(some (Sum.inl ((w64 (Ab + 1)),(sI Ac Ab (List.replicate (Int.toNat (a3.length:Int)) (0:Int))))))) else none) else (some (Sum.inr<| Ac)))
def AJ4 (fuel:Nat) (a8:LiI) (Ac Aa:Int):Option ((Int) ⊕ ((Bool) ⊕ (Unit))):=
  (if Aa < (a8.length:Int) then ((gI a8 Aa).bind fun Ad=>((iter (fun s=>AMp fuel Ac Ad s) fuel 0).bind (fun ex=>match ex with | Sum.inl Ae=>(some (Sum.inr<| Sum.inl <| Ae)) | Sum.inr (_)=>(some (Sum.inl (w64 (Aa + 1))))))) else (some (Sum.inr<| Sum.inr <| ())))
def AM1 (fuel:Nat) (a3:LiI) (a5:Int) (a8:LiI) (Ad:(List AIp)) (Ab:Int):Option Bool:=
  ((iter (fun s=>AJ4 fuel a8 Ab s) fuel 0).bind (fun ex=>match ex with | Sum.inl Ae=>(some Ae) | Sum.inr (_)=>((AOj fuel a8 2).bind fun (Af,Ao)=>(if Af=0 then (some false) else (if 0<=(a3.length:Int)/\(a3.length:Int)<=100000000 then ((iter (fun s=>AMs fuel a3 s.1 s.2) fuel (0,(List.replicate (Int.toNat (a3.length:Int)) ([]:List Int)))).bind (fun (Ag:LiI)=>((iter (fun s=>AMr fuel Ad Ab s.1 s.2.1 s.2.2.1 s.2.2.2) fuel (0,0,0,Ag)).bind (fun ex=>match ex with | Sum.inl Ah=>(some Ah) | Sum.inr (Ai)=>(if 0<=Ab/\Ab<=64 then ((AIv fuel a3 a8 (w64 (1 * 2 ^ Int.toNat Ab))).bind fun (Aj,Ap)=>((iter (fun s=>AJ3 fuel Ai Aj s) fuel 0).bind (fun ex=>match ex with | Sum.inl Ak=>(some Ak) | Sum.inr (_)=>(some true)))) else none))))) else none)))))
theorem AWn {fuel:Nat} {h:ABu} {Cn:Value} {a3:LiI} {a5:Int} {Bj:Value} {a8:LiI} {Bl:Value} {Cp:(List AIp)} {Bm:Int} {r:Bool} (H2:AEq (cI .i64) h Cn a3) (H7:AEq (cI .i64) h Bj a8) (Cq:SlC APo h Bl Cp) (hp:AM1 fuel a3 a5 a8 Cp Bm=some r):ACo Tryz.prog 22 #[Cn,(.agg #[(.int .i64 a5),Bj,Bl]),(.int .i64 Bm)] h (fun x h'=>Ext h h'/\x= .bool r):=by
 unfold AM1 at hp;refine cwf (l:=[_,_,_]) Tryz.func22 rfl rfl (ABp (AFk [(.int .i64 a5),Bj,Bl] trivial tt2 rfl rfl fun Jf Jg Dt Du Dv=>ABv (ABr (ABp (ADh APe rfl ?_)))));have Bo:=(Kst.k0 h).nb Du Dv Dt;refine AB3 AS2 rfl ((Bo.b p0).cell (i:=1) rfl) (ADa ACd rfl H7 (Wo (ABt (ABw ?_))));obtain ⟨Bb,Dw,Bp⟩:=ABq hp;obtain ⟨Dx,Dy,Dz⟩:=ACe Dw;refine ACq 281474708276544 (fun x:(Int)=>[(28,(.int .i64 x))]) (fun k x h'=>iter Dx k x=some Bb/\Kst h h' (Bo.L)) (by kernel_rfl) fuel (0:(Int)) ?_ ⟨rfl,trivial⟩ ?_
 ·exact ⟨Dz,Bo⟩
 rintro Jh D0 Ji Jj ⟨D1,Ai⟩;obtain ⟨D2,Jk,rfl,Aq,Af⟩:=AB8 D1;rw [Dy] at Aq;dsimp only at Aq;unfold AJ4 at Aq;refine ABp (ACu rfl rfl (ABt (ABr (⟨_,rfl,fun Bq=>?_,fun Bq=>?_⟩))))
 ·refine ABy (q_t (ABr (ABw (ABp ?_))));obtain ⟨Jl,D3,D4⟩:=ABq (AC8 Aq Bq);refine AFj ACd rfl H7 rfl D3 fun Jm Jn Jo D5 Cr=>AB3 AC0 rfl (AB1 D5 Ai.x) (AC4 (Wo (ADi ACp rfl Cr (Wo (ABt (ABw ?_))))));obtain ⟨Bc,D6,Br⟩:=ABq D4;obtain ⟨D7,D8,D9⟩:=ACe D6;refine ACq 140720308487232 (fun x:(Int)=>[(34,(.int .i64 x))]) (fun k x h'=>iter D7 k x=some Bc/\Kst h h' (Ai.L)) (by kernel_rfl) fuel (0:(Int)) ?_ ⟨rfl,trivial⟩ ?_
  ·exact ⟨D9,Ai⟩
  rintro Jp Ea Jq Jr ⟨Eb,Ar⟩;obtain ⟨Ec,Js,rfl,Au,Ag⟩:=AB8 Eb;rw [D8] at Au;dsimp only at Au;unfold AMp at Au;refine ABp (ACu rfl rfl (ABt (ABr (⟨_,rfl,fun Bt=>?_,fun Bt=>?_⟩))))
  ·refine ABy (q_t (ABr (ABw (ABp ?_))));obtain ⟨Ed,Ee,Ct⟩:=ABq (AC8 Au Bt);refine AHg (c:=(cI .i64)) ACp rfl Cr rfl Ee fun Jt Ju Jv Ef Eg=>?_;obtain rfl:=Ef;refine AB3 ACw rfl (AB1 (Eg 0 _ rfl) Ar.x) (AC4 (Wo (ACu rfl rfl (Wo ?_))));by_cases Be:Ed < 0
   ·rw [decide_eq_true Be];refine AFf 40 true (AB5 rfl (ABt (ACh rfl (ABp (ABv ?_)))));obtain rfl:=ABo (ifT Ct Be);change _=Bc at Ag;subst Ag;obtain rfl:=ABo Br;change _=Bb at Af;subst Af;refine ABx (ADb (AB2 (AB2 (ADb (ADb (AB2 (AB2 (ADb (AB2 ?_)))))))));obtain rfl:=ABo Bp;exact ⟨_,ABz,Ar.x,rfl⟩
   ·rw [decide_eq_false Be];refine AB4 40 false (Wo (AB4 40 false (Wo (AB4 40 false ?_))));obtain ⟨Eh,Cu⟩:=ifN (ifF Ct Be);refine ATx rfl rfl Eh (AB4 40 false (AM5 rfl rfl (AB0 rfl (ABt (⟨_,rfl,fun Bu=>?_,fun Bu=>?_⟩)))))
    ·refine ABp (ABv ?_);obtain rfl:=ABo (AC8 Cu Bu);change _=Bc at Ag;subst Ag;obtain rfl:=ABo Br;change _=Bb at Af;subst Af;refine ABx (ADb (AB2 (AB2 (ADb (ADb (AB2 (AB2 (ADb (AB2 ?_)))))))));obtain rfl:=ABo Bp;exact ⟨_,ABz,Ar.x,rfl⟩
    ·refine ABy (q_b (q_t (AB6 (ACx rfl rfl (Wo (ABt ?_))))));obtain rfl:=ABo (AC9 Cu Bu);exact ⟨Ec,((w64 (Ea + 1)):(Int)),Nat.lt_succ_self _,⟨Ag,Ar⟩,rfl,trivial⟩
  ·obtain rfl:=ABo (AC9 Au Bt);change _=Bc at Ag;subst Ag;refine ACg (ACi (ACi (ADp (q_b (q_t (AB6 (ACx rfl rfl (Wo (ABt ?_)))))))));obtain rfl:=ABo Br;exact ⟨D2,((w64 (D0 + 1)):(Int)),Nat.lt_succ_self _,⟨Af,Ar⟩,rfl,trivial⟩
 ·obtain rfl:=ABo (AC9 Aq Bq);change _=Bb at Af;subst Af;refine ACg (ACi (ACi (ADp (q_t (ABr (ABp (ADh APe rfl (AB3 AS2 rfl ((Ai.b p0).cell (i:=1) rfl) ?_))))))));obtain ⟨⟨Jw,Jx⟩,Ei,Bv⟩:=ABq Bp;dsimp only at Bv;refine ADc rfl (AX8 (H7.ext Ai.x) Ei) fun Jy Jz Ej Ek=>?_;subst Ek;refine Wo (ADn rfl rfl (ADn rfl rfl (ACr (AC4 (Wo (AEf rfl rfl (ABt ?_)))))));have Cv:=Ai.e Ej;refine ⟨_,rfl,fun Bw=>?_,fun Bw=>?_⟩
  ·refine ABp (ABv (ABx (AB2 ?_)));obtain rfl:=ABo (AC8 Bv Bw);exact ⟨_,ABz,Cv.x,rfl⟩
  ·refine ABy (q_t (ABp (Wo (ADa ACd rfl H2 ?_))));obtain ⟨El,Em⟩:=ifN (AC9 Bv Bw);refine ARf (cI .i64) 2 ACd ANi rfl trivial tt2 rfl rfl (by decide) El fun En Eo Ep Bx J0 Er Es Et=>ABv (ABr (ABp (Wo ?_)));have By:=Cv.no2 Es Et Er;refine ADa ACd rfl (By.o2 p0).rd (Wo (ABt (ABw ?_)));obtain ⟨Cw,Eu,Ev⟩:=ABq Em;obtain ⟨Ew,Ey,Ez⟩:=ACe Eu;refine ACq 2358877398425608929280 (fun x:(Int) × (LiI) × LnA × LnN × LvA=>[(61,(.int .i64 x.1))]) (fun k x h'=>iter Ew k (x.1,x.2.1)=some Cw/\Kst h h' (By.L.set 0 (aO2 (cI .i64) 35 2 x.2.2.1 x.2.2.2.1 x.2.2.2.2 Bx x.2.1))) (by kernel_rfl) fuel ((0,(List.replicate (Int.toNat (a3.length:Int)) ([]:List Int)),En,Eo,Ep):(Int) × (LiI) × LnA × LnN × LvA) ?_ ⟨rfl,trivial⟩ ?_
   ·exact ⟨Ez,By⟩
   rintro J1 ⟨Av,Cx,Fa,Bz,Cy⟩ J2 J3 ⟨Fb,Bf⟩;obtain ⟨Fc,J4,rfl,Aw,B1⟩:=AB8 Fb;rw [Ey] at Aw;dsimp only at Aw;unfold AMs at Aw;refine ABp (ACu rfl rfl (ABt (ABr (⟨_,rfl,fun B3=>?_,fun B3=>?_⟩))))
   ·refine ABy (q_t (ABr (ABw (ABp (Wo (ABv (AB6 (Wo (Wo (Wo (ADa ACd rfl H2 ?_)))))))))));obtain ⟨Fd,Fe⟩:=ifN (AC8 Aw B3);refine AQj (c:=(cI .i64)) (a:=0) ACp AL9 rfl rfl (fun _=>rfl) rfl trivial tt2 rfl rfl (by decide) Fd fun Cz Ff J5 Fg Fh Fi Fj=>?_;have Ax:=Bf.no Fh (AH8 Fi Fj) Fg;obtain ⟨J6,C0,Fk⟩:=ABq Fe;refine ADf ACd rfl (Ax.o2 p1) rfl C0 fun Fl J7 Fm J8 J9=>ASe AC0 (Ax.o2 p1) C0 Fm rfl rfl (Ax.o p0) (Ax.dj p0 p1 (by decide)) fun Ka Fo Fp Fq=>ACs (q_b (q_t (AB6 (ACx rfl rfl (Wo (ABt ?_))))));obtain rfl:=ABo Fk;exact ⟨Fc,(((w64 (Av + 1)),(sI Cx Av (List.replicate (Int.toNat (a3.length:Int)) (0:Int))),(Fl :: (Bz.set (Int.toNat Av) [Cz]).flatten),(Bz.set (Int.toNat Av) [Cz]),(Cy.set (Int.toNat Av) Ff)):(Int) × (LiI) × LnA × LnN × LvA),Nat.lt_succ_self _,⟨B1,(Ax.m2 p0 p1 (by decide) Fp Fo (fun z hz=> .inl (Fq z hz))).sel [1,2] (by decide)⟩,rfl,trivial⟩
   ·obtain rfl:=ABo (AC9 Aw B3);change _=Cw at B1;subst B1;refine ACg (ACi (ACi (ADp (q_t (ABp (ACr (ABv (ABr (ABp (ADh AOn rfl (AB3 AUe rfl ((Bf.b p1).cell (i:=2) rfl) (ADi APd rfl Cq (Wo (ABt (ABw ?_)))))))))))))));obtain ⟨Aj,Fr,Ay⟩:=ABq Ev;obtain ⟨Ft,Fu,Fv⟩:=ACe Fr;refine ACq 365375409332725729550921189289604823435402641472 (fun x:(Int) × (Int) × (Int) × (LiI) × LnA × LnN × LvA=>[(15,(.int .i64 x.1)),(16,(.int .i64 x.2.1)),(74,(.int .i64 x.2.2.1))]) (fun k x h'=>iter Ft k (x.1,x.2.1,x.2.2.1,x.2.2.2.1)=some Aj/\Kst h h' (Bf.L.set 0 (aO2 (cI .i64) 35 2 x.2.2.2.2.1 x.2.2.2.2.2.1 x.2.2.2.2.2.2 Bx x.2.2.2.1))) (by kernel_rfl) fuel ((0,0,0,Cx,Fa,Bz,Cy):(Int) × (Int) × (Int) × (LiI) × LnA × LnN × LvA) ?_ ⟨rfl,rfl,rfl,trivial⟩ ?_
    ·exact ⟨Fv,Bf⟩
    rintro Kb ⟨Ab,Fw,Fx,C1,C2,C3,C4⟩ Kc Kd ⟨Fy,Ak⟩;obtain ⟨Fz,Ke,rfl,Az,Ac⟩:=AB8 Fy;rw [Fu] at Az;dsimp only at Az;unfold AMr at Az;refine ABp (ACu rfl rfl (ABt (ABr (⟨_,rfl,fun B4=>?_,fun B4=>?_⟩))))
    ·refine ABy (q_t (ABr (ABw (ABp ?_))));obtain ⟨Aa,F4,F5⟩:=ABq (AC8 Az B4);refine AHg (c:=APo) APd rfl Cq rfl F4 fun Kf Kg Kh F6 F7=>?_;obtain rfl:=F6;refine ANm (c:=APo) ANn rfl rfl (fun j u hu=>(AB1 (F7 j u hu) Ak.x)) (ADj [(.int .i64 0),(.int .i64 0),(.int .i64 0),(.int .i64 0),(.int .i64 0)] AWd rfl trivial tt2 fun Ki Kj F8 F9 Ga=>?_);have C5:=Ak.nb F9 Ga F8;refine AC6 [(.int .i64 Aa.1),(.int .i64 Aa.2.1),(.int .i64 Aa.2.2.1),(.int .i64 Aa.2.2.2.1),(.int .i64 Aa.2.2.2.2)] ANn rfl rfl rfl rfl (by simp [isOne]) (C5.b p0) fun Kk Gb Gc=>ABt ?_;have Ah:=C5.sb p0 Gc Gb rfl;obtain ⟨Gd,C6,A3⟩:=ABq F5;refine AL7 1267650297996774497839409528896 (fun x:Unit=>[]) (fun x h'=>(Sum.inr <| ())=Gd/\Kst h h' (Ah.L)) ?_ ?_
     ·refine ABp (ADh AH9 rfl (AB3 ADe rfl ((Ah.b p0).cell (i:=0) rfl) (Wo (ACu rfl rfl (Wo ?_)))));by_cases Bg:Aa.1 < Fw
      ·rw [decide_eq_true Bg];refine AHn 82 true (AB5 rfl (Wo (AFf 89 true (AB5 rfl (Wo (AE3 95 true (AB5 rfl (ABt (ACh rfl (ABp (ABv ?_)))))))))));obtain rfl:=ABo (ifT C6 Bg);obtain rfl:=ABo A3;change _=Aj at Ac;subst Ac;refine ABx (AB2 (ADb (AB2 (AB2 (ADb (AB2 ?_))))));obtain rfl:=ABo Ay;exact ⟨_,ABz,Ah.x,rfl⟩
      ·have C7:=ifF C6 Bg;rw [decide_eq_false Bg];refine AB4 82 false (ADh AH9 rfl (AB4 82 false (AB3 ADe rfl ((Ah.b p0).cell (i:=0) rfl) (AB4 82 false (Wo (AB4 82 false (AHm rfl rfl (AB4 82 false (AGq rfl rfl (AB0 rfl (Wo ?_)))))))))));by_cases Bh:(w64 (Bm - 3)) < Aa.1
       ·rw [decide_eq_true Bh];refine AFf 89 true (AB5 rfl (Wo (AE3 95 true (AB5 rfl (ABt (ACh rfl (ABp (ABv ?_))))))));obtain rfl:=ABo (ifT C7 Bh);obtain rfl:=ABo A3;change _=Aj at Ac;subst Ac;refine ABx (AB2 (ADb (AB2 (AB2 (ADb (AB2 ?_))))));obtain rfl:=ABo Ay;exact ⟨_,ABz,Ah.x,rfl⟩
       ·rw [decide_eq_false Bh];refine AB4 89 false (AEk [(.int .i64 Aa.1),(.int .i64 Aa.2.1),(.int .i64 Aa.2.2.1),(.int .i64 Aa.2.2.2.1),(.int .i64 Aa.2.2.2.2)] ANn rfl rfl (Ah.b p0).agg (AB4 89 false (Wo (AB4 89 false ?_))));obtain ⟨Ge,Gf,C8⟩:=ABq (ifF C7 Bh);refine ADc rfl (AVy Gf) fun Kl Km Gg Gh=>?_;subst Gh;refine AB4 89 false (AEy rfl (AB0 rfl (Wo ?_)));have B5:=Ah.e Gg;cases C9:(!Ge)
        ·refine AB4 95 false (AEk [(.int .i64 Aa.1),(.int .i64 Aa.2.1),(.int .i64 Aa.2.2.1),(.int .i64 Aa.2.2.2.1),(.int .i64 Aa.2.2.2.2)] ANn rfl rfl (B5.b p0).agg (AB4 95 false ?_));obtain ⟨Kn,Gi,Da⟩:=ABq (AHo C8 C9);refine ADc rfl (APl Gi) fun Ko Kp Gj Gk=>?_;subst Gk;refine AB4 95 false (AEy rfl (AB0 rfl (ABt ?_)));have Db:=B5.e Gj;refine ⟨_,rfl,fun B6=>?_,fun B6=>?_⟩
         ·refine ABp (ABv ?_);obtain rfl:=ABo (ifT Da B6);obtain rfl:=ABo A3;change _=Aj at Ac;subst Ac;refine ABx (AB2 (ADb (AB2 (AB2 (ADb (AB2 ?_))))));obtain rfl:=ABo Ay;exact ⟨_,ABz,Db.x,rfl⟩
         ·refine ABy (q_t ?_);exact ⟨(():Unit),⟨ABo (AHo Da B6),Db⟩,trivial⟩
        ·refine AE3 95 true (AB5 rfl (ABt (ACh rfl (ABp (ABv ?_)))));obtain rfl:=ABo (ifT C8 C9);obtain rfl:=ABo A3;change _=Aj at Ac;subst Ac;refine ABx (AB2 (ADb (AB2 (AB2 (ADb (AB2 ?_))))));obtain rfl:=ABo Ay;exact ⟨_,ABz,B5.x,rfl⟩
     rintro ⟨⟩ Kr Kt ⟨Gl,Am⟩;subst Gl;refine ABr (AI7 (Wo (Wo ?_)));obtain ⟨Dc,B7,Gm⟩:=ABq A3;refine ADf ACd rfl (Am.o2 p1) rfl B7 fun Ku Kv Kw Gn Gp=>AB3 AC0 rfl Gp (Wo (ADh ANa rfl (AB3 ACw rfl ((Am.b p0).cell (i:=2) rfl) (ADh AH9 rfl (AB3 ADe rfl ((Am.b p0).cell (i:=0) rfl) ?_)))));obtain ⟨Gq,Gr⟩:=ifN Gm;refine ATx rfl rfl Gq ?_;obtain ⟨Kx,Dd,Gt⟩:=ABq Gr;refine AD0 (m:=Ab) ACp rfl (Am.o2 p1) Gn B7 rfl Dd fun Ky Gu=>AGz (m:=Ab) (AFv ACw rfl rfl rfl) (Am.o2 p1) Gu B7 Dd (show ((cI .i64)).rep _ (w64 (Aa.2.2.1 * 2 ^ Int.toNat Aa.1)) _ from rfl) fun Kz Gv Gw=>ABt ?_;have Ad:=Am.uO2 p1 Gw Gv;obtain ⟨Gx,De,Gy⟩:=ABq Gt;refine AL7 2854495385409323613687304525084725024600883200 (fun x:(LiI) × LnA × LnN × LvA=>[]) (fun x h'=>( x.1)=Gx/\Kst h h' (Ad.L.set 1 (aO2 (cI .i64) 35 2 x.2.1 x.2.2.1 x.2.2.2 Bx x.1))) ?_ ?_
     ·refine ABp (ADh AMf rfl (AB3 ADe rfl ((Ad.b p0).cell (i:=1) rfl) (AEf rfl rfl (ABt (⟨_,rfl,fun B8=>?_,fun B8=>?_⟩)))))
      ·refine ABr (AI7 (Wo (Wo ?_)));obtain ⟨Gz,B9,G3⟩:=ABq (AC8 De B8);refine ADf ACd rfl (Ad.o2 p1) rfl B9 fun K3 K5 K6 G4 G5=>AB3 AC0 rfl G5 (Wo (ACx rfl rfl (ADh AN1 rfl (AB3 ACw rfl ((Ad.b p0).cell (i:=3) rfl) (ADh AH9 rfl (AB3 ADe rfl ((Ad.b p0).cell (i:=0) rfl) ?_))))));obtain ⟨G6,G7⟩:=ifN G3;refine ATx rfl rfl G6 ?_;obtain ⟨La,Df,G8⟩:=ABq G7;refine AD0 (m:=Ab) ACp rfl (Ad.o2 p1) G4 B9 rfl Df fun Lb G9=>AGz (m:=Ab) (AFv ACw rfl rfl rfl) (Ad.o2 p1) G9 B9 Df (show ((cI .i64)).rep _ (w64 (Aa.2.2.2.1 * 2 ^ Int.toNat Aa.1)) _ from rfl) fun Lc Hb Hc=>ABt (ABr (AI7 (Wo (Wo (ACx rfl rfl ?_)))));have Ao:=Ad.uO2 p1 Hc Hb;obtain ⟨Hd,Ca,He⟩:=ABq G8;refine ADf ACd rfl (Ao.o2 p1) rfl Ca fun Ld Le Lf Hf Hg=>AB3 AC0 rfl Hg (Wo (ADh AN1 rfl (AB3 ACw rfl ((Ao.b p0).cell (i:=3) rfl) (ADh AH9 rfl (AB3 ADe rfl ((Ao.b p0).cell (i:=0) rfl) ?_)))));obtain ⟨Hh,Hj⟩:=ifN He;refine ATx rfl rfl Hh ?_;obtain ⟨Lg,Dg,Hk⟩:=ABq Hj;refine AD0 (m:=(w64 (Ab + 1))) ACp rfl (Ao.o2 p1) Hf Ca rfl Dg fun Lh Hl=>AGz (m:=(w64 (Ab + 1))) (AFv ACw rfl rfl rfl) (Ao.o2 p1) Hl Ca Dg (show ((cI .i64)).rep _ (w64 (Aa.2.2.2.1 * 2 ^ Int.toNat Aa.1)) _ from rfl) fun Li Hm Hn=>ABt (AI7 (Wo (Wo (ACx rfl rfl ?_))));have Ap:=Ao.uO2 p1 Hn Hm;obtain ⟨Ho,Cb,Hq⟩:=ABq Hk;refine ADf ACd rfl (Ap.o2 p1) rfl Cb fun Lj Lk Ll Hr Hs=>AB3 AC0 rfl Hs (Wo (ACx rfl rfl (ADh AP0 rfl (AB3 ACw rfl ((Ap.b p0).cell (i:=4) rfl) (ADh AH9 rfl (AB3 ADe rfl ((Ap.b p0).cell (i:=0) rfl) ?_))))));obtain ⟨Ht,Hu⟩:=ifN Hq;refine ATx rfl rfl Ht ?_;obtain ⟨Lm,Dh,Hv⟩:=ABq Hu;refine AD0 (m:=(w64 (Ab + 1))) ACp rfl (Ap.o2 p1) Hr Cb rfl Dh fun Ln Hw=>AGz (m:=(w64 (Ab + 1))) (AFv ACw rfl rfl rfl) (Ap.o2 p1) Hw Cb Dh (show ((cI .i64)).rep _ (w64 (Aa.2.2.2.2 * 2 ^ Int.toNat Aa.1)) _ from rfl) fun Lo Hx Hy=>ABt ?_;exact ⟨(((sI (sI (sI (sI C1 Ab (sI Dc Ab (w64 (Aa.2.2.1 * 2 ^ Int.toNat Aa.1)))) Ab (sI Gz (w64 (Ab + 1)) (w64 (Aa.2.2.2.1 * 2 ^ Int.toNat Aa.1)))) (w64 (Ab + 1)) (sI Hd Ab (w64 (Aa.2.2.2.1 * 2 ^ Int.toNat Aa.1)))) (w64 (Ab + 1)) (sI Ho (w64 (Ab + 1)) (w64 (Aa.2.2.2.2 * 2 ^ Int.toNat Aa.1)))),C2,C3,C4):(LiI) × LnA × LnN × LvA),⟨ABo Hv,(Ap.uO2 p1 Hy Hx)⟩,trivial⟩
      ·refine ABy (q_t ?_);exact ⟨(((sI C1 Ab (sI Dc Ab (w64 (Aa.2.2.1 * 2 ^ Int.toNat Aa.1)))),C2,C3,C4):(LiI) × LnA × LnN × LvA),⟨ABo (AC9 De B8),Ad⟩,trivial⟩
     rintro ⟨Hz,H5,H9,Ia⟩ Lq Lr ⟨Ib,Cd⟩;subst Ib;refine ABp (Wo (ADh AMf rfl (AB3 ADe rfl ((Cd.b p0).cell (i:=1) rfl) (ACx rfl rfl (ABv (AB6 (ADh AH9 rfl (AB3 ADe rfl ((Cd.b p0).cell (i:=0) rfl) (ACr (ACs (q_b (q_t (AB6 (ACx rfl rfl (Wo (ABt ?_))))))))))))))));obtain rfl:=ABo Gy;exact ⟨Fz,(((w64 (Ab + Aa.2.1)),Aa.1,(w64 (Fx + 1)),Hz,H5,H9,Ia):(Int) × (Int) × (Int) × (LiI) × LnA × LnN × LvA),Nat.lt_succ_self _,⟨Ac,Cd.sel [1,2] (by decide)⟩,rfl,rfl,rfl,trivial⟩
    ·obtain rfl:=ABo (AC9 Az B4);change _=Aj at Ac;subst Ac;refine ACg (ACi (ACi (ADp (q_t (ABr (AI7 (Wo (ADh APe rfl (AB3 AS2 rfl ((Ak.b p1).cell (i:=1) rfl) (Wo ?_))))))))));obtain ⟨Ic,Id⟩:=ifN Ay;refine ATx rfl rfl Ic ?_;obtain ⟨⟨Lv,Lw⟩,Ie,Di⟩:=ABq Id;dsimp only at Di;refine ADc rfl (ATg (H2.ext Ak.x) (H7.ext Ak.x) Ie) fun Lx Ly If Ih=>?_;obtain ⟨Lz,Ma,Mb,Mc,rfl,Ii,Ij⟩:=Ih;refine Wo (ADn rfl rfl (ADn rfl rfl (ACr (ABv (ABr (ABp (Wo ?_)))))));have Dj:=Ak.no2 If Ij Ii;refine ADa ACd rfl (Dj.o2 p0).rd (Wo (ABt (ABw ?_)));obtain ⟨Ce,Ik,Dk⟩:=ABq Di;obtain ⟨Il,Im,Io⟩:=ACe Ik;have Cf:=Dj.sel [0,1] (by decide);dsimp only [AIq,ALo] at Cf;refine ACq 6277100987097842450413495302921032065365449380626603966528 (fun x:(Int)=>[(169,(.int .i64 x))]) (fun k x h'=>iter Il k x=some Ce/\Kst h h' (Cf.L)) (by kernel_rfl) fuel (0:(Int)) ?_ ⟨rfl,trivial⟩ ?_
     ·exact ⟨Io,Cf⟩
     rintro Md Cg Me Mf ⟨Ip,A4⟩;obtain ⟨Iq,Mg,rfl,A5,A6⟩:=AB8 Ip;rw [Im] at A5;dsimp only at A5;unfold AJ3 at A5;refine ABp (ACu rfl rfl (ABt (ABr (⟨_,rfl,fun Ch=>?_,fun Ch=>?_⟩))))
     ·refine ABy (q_t (ABr (ABw (ABp (Wo ?_)))));obtain ⟨Mh,Dl,Ir⟩:=ABq (AC8 A5 Ch);refine ADf ACd rfl (A4.o2 p0) rfl Dl fun Mi Mj Mk Dn Is=>AB3 AC0 rfl Is (ACr (AC4 (Wo (ADi ACp rfl ((A4.o2 p0).rowI Dn Dl) (Wo (ABt (ABw ?_)))))));obtain ⟨Ci,It,Do⟩:=ABq Ir;obtain ⟨Iu,Iv,Iw⟩:=ACe It;refine ACq 3138455086722036263864247314914636313727201551036905947200 (fun x:(Int)=>[(176,(.int .i64 x))]) (fun k x h'=>iter Iu k x=some Ci/\Kst h h' (A4.L)) (by kernel_rfl) fuel (0:(Int)) ?_ ⟨rfl,trivial⟩ ?_
      ·exact ⟨Iw,A4⟩
      rintro Ml Ix Mm Mo ⟨Iy,Ae⟩;obtain ⟨Iz,Mq,rfl,A7,A8⟩:=AB8 Iy;rw [Iv] at A7;dsimp only at A7;unfold AMq at A7;refine ABp (ACu rfl rfl (ABt (ABr (⟨_,rfl,fun Cj=>?_,fun Cj=>?_⟩))))
      ·refine ABy (q_t (ABr (ABw (ABp (Wo ?_)))));obtain ⟨Mr,Dp,I0⟩:=ABq (AC8 A7 Cj);obtain ⟨Ms,Dq,I1⟩:=ABq I0;refine AD0 (m:=Cg) ACp rfl (Ae.o2 p0) Dn Dp rfl Dq fun Mt I2=>?_;obtain ⟨Mu,I3,I5⟩:=(Ae.o2 p0).cells I2 Dp Dq;obtain rfl:=I3;refine AB3 ACw rfl (I5 0 _ rfl) (ACr (AC4 (Wo (Wo (Wo ?_)))));obtain ⟨Mv,Ck,I6⟩:=ABq I1;refine ADf ACd rfl (Ae.o2 p1) rfl Ck fun Mw Mx My I7 I9=>AB3 AC0 rfl I9 (Wo ?_);obtain ⟨Mz,Dr,Ds⟩:=ABq I6;refine AD0 (m:=Cg) ACp rfl (Ae.o2 p1) I7 Ck rfl Dr fun M1 Ja=>?_;obtain ⟨M2,Jc,Je⟩:=(Ae.o2 p1).cells Ja Ck Dr;obtain rfl:=Jc;refine AB3 ACw rfl (Je 0 _ rfl) (AEt rfl rfl (ABt (⟨_,rfl,fun Cm=>?_,fun Cm=>?_⟩)))
       ·refine ABp (ABv ?_);obtain rfl:=ABo (AC8 Ds Cm);change _=Ci at A8;subst A8;obtain rfl:=ABo Do;change _=Ce at A6;subst A6;refine ABx (ADb (AB2 (AB2 (ADb (ADb (AB2 (AB2 (ADb (AB2 ?_)))))))));obtain rfl:=ABo Dk;exact ⟨_,ABz,Ae.x,rfl⟩
       ·refine ABy (q_b (q_t (AB6 (ACx rfl rfl (Wo (ABt ?_))))));obtain rfl:=ABo (AC9 Ds Cm);exact ⟨Iz,((w64 (Ix + 1)):(Int)),Nat.lt_succ_self _,⟨A8,Ae⟩,rfl,trivial⟩
      ·obtain rfl:=ABo (AC9 A7 Cj);change _=Ci at A8;subst A8;refine ACg (ACi (ACi (ADp (q_b (q_t (AB6 (ACx rfl rfl (Wo (ABt ?_)))))))));obtain rfl:=ABo Do;exact ⟨Iq,((w64 (Cg + 1)):(Int)),Nat.lt_succ_self _,⟨A6,Ae⟩,rfl,trivial⟩
     ·obtain rfl:=ABo (AC9 A5 Ch);change _=Ce at A6;subst A6;refine ACg (ACi (ACi (ADp (q_t (ABp (ABv (ABx ?_)))))));obtain rfl:=ABo Dk;exact ⟨_,ABz,A4.x,rfl⟩
noncomputable def AMt (fuel:Nat) (a3:LiI) (Ae:(List AIp)) (Aa Ab:Int):Option ((Int × Int) ⊕ ((Int) ⊕ (Int))):=
  (if Ab < (Ae.length:Int) then ((gI Ae Ab).bind fun Ac=>(((if ¬ Ac.2.1=1 then (if ¬ Ac.2.1=2 then (some (Sum.inl <| 3)) else (if (a3.length:Int) < Aa then (some (Sum.inl <| 3)) else (some (Sum.inr <| ())))) else (if (a3.length:Int) < Aa then (some (Sum.inl <| 3)) else (some (Sum.inr <| ())))):Option ((Int) ⊕ (Unit))).bind (fun ex=>match ex with | Sum.inl Af=>(some (Sum.inr<| Sum.inl <| Af)) | Sum.inr (_)=>(some (Sum.inl ((w64 (Aa + Ac.2.1)),(w64 (Ab + 1)))))))) else (some (Sum.inr<| Sum.inr <| Aa)))
noncomputable def AJ5 (fuel:Nat) (a3 a8:LiI) (Aa:Int):Option ((Int) ⊕ ((Int) ⊕ (Unit))):=
  (if Aa < (a8.length:Int) then ((gI a8 Aa).bind fun Ad=>(if ¬ (Ad.length:Int)=(a3.length:Int) then (some (Sum.inr<| Sum.inl <| 3)) else (some (Sum.inl (w64 (Aa + 1)))))) else (some (Sum.inr<| Sum.inr <| ())))
noncomputable def AHc (fuel:Nat) (a3:LiI) (a5:Int) (a8:LiI) (Ad:(List AIp)):Option Int:=
  ((AQ6 fuel a3).bind fun Ae=>(if (!Ae)=true then (some 6) else (if ¬ a5=2 then (some 20) else (if ¬ (a8.length:Int)=(a3.length:Int) then (some 3) else ((iter (fun s=>AJ5 fuel a3 a8 s) fuel 0).bind (fun ex=>match ex with | Sum.inl Af=>(some Af) | Sum.inr (_)=>((iter (fun s=>AMt fuel a3 Ad s.1 s.2) fuel (0,0)).bind (fun ex=>match ex with | Sum.inl Ag=>(some Ag) | Sum.inr (Ah)=>(if ¬ Ah=(a3.length:Int) then (some 3) else ((AIl fuel a3 2).bind fun (Ai,Ak)=>((AM1 fuel a3 a5 a8 Ad Ai).bind fun Aj=>(if (!Aj)=true then (some 10) else (some 0)))))))))))))
theorem AOt {fuel:Nat} {h:ABu} {Be:Value} {a3:LiI} {a5:Int} {Ap:Value} {a8:LiI} {Aq:Value} {Bh:(List AIp)} {r:Int} (H2:AEq (cI .i64) h Be a3) (H7:AEq (cI .i64) h Ap a8) (Ay:SlC APo h Aq Bh) (HO:AWb h) (hp:AHc fuel a3 a5 a8 Bh=some r):ACo Tryz.prog 8 #[Be,(.agg #[(.int .i64 a5),Ap,Aq])] h (fun x h'=>Ext h h'/\x= .int .i64 r):=by
 unfold AHc at hp;refine cwf (l:=[_,_]) Tryz.func8 rfl rfl (ABp (AFk [(.int .i64 a5),Ap,Aq] trivial tt2 rfl rfl fun C9 Da Bz B1 B3=>ABv (ABr (ABp (Wo ?_)))));have Bi:=(Kst.k0 h).nb B1 B3 Bz;obtain ⟨Db,B4,Bj⟩:=ABq hp;refine ADc rfl (Aai (H2.ext Bi.x) B4) fun Dc Dd B5 B6=>?_;subst B6;refine AEy rfl (ABt ?_);have Ab:=Bi.e B5;refine ⟨_,rfl,fun Az=>?_,fun Az=>?_⟩
 ·refine ABp (ABv (ABx (AB2 ?_)));obtain rfl:=ABo (ifT Bj Az);exact ⟨_,ABz,Ab.x,rfl⟩
 ·refine ABy (q_t (ABr (ABp (ADh AQv rfl (AB3 ACw rfl ((Ab.b p0).cell (i:=0) rfl) (AEt rfl rfl (ABt ?_)))))));have Bl:=AHo Bj Az;refine ⟨_,rfl,fun A3=>?_,fun A3=>?_⟩
  ·refine ABp (ABv (ABx (AB2 ?_)));obtain rfl:=ABo (AC8 Bl A3);exact ⟨_,ABz,Ab.x,rfl⟩
  ·refine ABy (q_t (ABp (Wo (ADa ACd rfl H2 (ABv (ABr (ABp (ADh APe rfl (AB3 AS2 rfl ((Ab.b p0).cell (i:=1) rfl) (ADa ACd rfl H7 (Wo (AEt rfl rfl (ABt ?_)))))))))))));have Bm:=AC9 Bl A3;refine ⟨_,rfl,fun A4=>?_,fun A4=>?_⟩
   ·refine ABp (ABv (ABx (AB2 ?_)));obtain rfl:=ABo (AC8 Bm A4);exact ⟨_,ABz,Ab.x,rfl⟩
   ·refine ABy (q_t (ABr (ABp (ADh APe rfl (AB3 AS2 rfl ((Ab.b p0).cell (i:=1) rfl) (ADa ACd rfl H7 (Wo (ABt (ABw ?_)))))))));obtain ⟨A5,B7,Bn⟩:=ABq (AC9 Bm A4);obtain ⟨B8,B9,Ca⟩:=ACe B7;refine ACq 274341036176 (fun x:(Int)=>[(29,(.int .i64 x))]) (fun k x h'=>iter B8 k x=some A5/\Kst h h' (Ab.L)) (by kernel_rfl) fuel (0:(Int)) ?_ ⟨rfl,trivial⟩ ?_
    ·exact ⟨Ca,Ab⟩
    rintro De Cb Df Dg ⟨Cd,Ae⟩;obtain ⟨Ce,Dh,rfl,Ag,Ah⟩:=AB8 Cd;rw [B9] at Ag;dsimp only at Ag;unfold AJ5 at Ag;refine ABp (ACu rfl rfl (ABt (ABr (⟨_,rfl,fun A6=>?_,fun A6=>?_⟩))))
    ·refine ABy (q_t (ABr (ABw (ABp ?_))));obtain ⟨Di,Cf,Bo⟩:=ABq (AC8 Ag A6);refine AFj ACd rfl H7 rfl Cf fun Dj Dk Dl Cg Ch=>AB3 AC0 rfl (AB1 Cg Ae.x) (AC4 (Wo (ADi ACp rfl Ch (Wo (AEt rfl rfl (ABt (⟨_,rfl,fun A7=>?_,fun A7=>?_⟩)))))))
     ·refine ABp (ABv ?_);obtain rfl:=ABo (AC8 Bo A7);change _=A5 at Ah;subst Ah;refine ABx (ADb (AB2 (AB2 (ADb (AB2 ?_)))));obtain rfl:=ABo Bn;exact ⟨_,ABz,Ae.x,rfl⟩
     ·refine ABy (q_b (q_t (AB6 (ACx rfl rfl (Wo (ABt ?_))))));obtain rfl:=ABo (AC9 Bo A7);exact ⟨Ce,((w64 (Cb + 1)):(Int)),Nat.lt_succ_self _,⟨Ah,Ae⟩,rfl,trivial⟩
    ·obtain rfl:=ABo (AC9 Ag A6);change _=A5 at Ah;subst Ah;refine ACg (ACi (ACi (ADp (q_t (ABp (ABv (ABr (ABp (ADh AOn rfl (AB3 AUe rfl ((Ae.b p0).cell (i:=2) rfl) (ADi APd rfl Ay (Wo (ABt (ABw ?_))))))))))))));obtain ⟨Ai,Ci,Aj⟩:=ABq Bn;obtain ⟨Cj,Ck,Cm⟩:=ACe Ci;refine ACq 9223369837831521552 (fun x:(Int) × (Int)=>[(8,(.int .i64 x.1)),(41,(.int .i64 x.2))]) (fun k x h'=>iter Cj k (x.1,x.2)=some Ai/\Kst h h' (Ae.L)) (by kernel_rfl) fuel ((0,0):(Int) × (Int)) ?_ ⟨rfl,rfl,trivial⟩ ?_
     ·exact ⟨Cm,Ae⟩
     rintro Dn ⟨Cn,Co⟩ Do Dp ⟨Cp,Af⟩;obtain ⟨Cq,Dq,rfl,Ak,Aa⟩:=AB8 Cp;rw [Ck] at Ak;dsimp only at Ak;unfold AMt at Ak;refine ABp (ACu rfl rfl (ABt (ABr (⟨_,rfl,fun A8=>?_,fun A8=>?_⟩))))
     ·refine ABy (q_t (ABr (ABw (ABp ?_))));obtain ⟨Ac,Cr,Ct⟩:=ABq (AC8 Ak A8);refine AHg (c:=APo) APd rfl Ay rfl Cr fun Dr Ds Dt Cu Cv=>?_;obtain rfl:=Cu;refine ANm (c:=APo) ANn rfl rfl (fun j u hu=>(AB1 (Cv j u hu) Af.x)) (ADj [(.int .i64 0),(.int .i64 0),(.int .i64 0),(.int .i64 0),(.int .i64 0)] AWd rfl trivial tt2 fun Du Dv Cw Cx Cy=>?_);have Bp:=Af.nb Cx Cy Cw;refine AC6 [(.int .i64 Ac.1),(.int .i64 Ac.2.1),(.int .i64 Ac.2.2.1),(.int .i64 Ac.2.2.2.1),(.int .i64 Ac.2.2.2.2)] ANn rfl rfl rfl rfl (by simp [isOne]) (Bp.b p0) fun Dw Cz C0=>ABt ?_;have Ad:=Bp.sb p0 C0 Cz rfl;obtain ⟨C1,Bq,Av⟩:=ABq Ct;refine AL7 288195191779622928 (fun x:Unit=>[]) (fun x h'=>(Sum.inr <| ())=C1/\Kst h h' (Ad.L)) ?_ ?_
      ·refine ABp (ADh AMf rfl (AB3 ADe rfl ((Ad.b p0).cell (i:=1) rfl) (AEt rfl rfl (Wo ?_))));by_cases Aw: ¬ Ac.2.1=1
       ·have Br:=ifT Bq Aw;rw [decide_eq_true Aw];refine AB4 48 true (ADh AMf rfl (AB4 48 true (AB3 ADe rfl ((Ad.b p0).cell (i:=1) rfl) (AB4 48 true (AEt rfl rfl (AB5 rfl (Wo ?_)))))));by_cases Ax: ¬ Ac.2.1=2
        ·rw [decide_eq_true Ax];refine AE3 53 true (AB5 rfl (ABt (ACh rfl (ABp (ABv ?_)))));obtain rfl:=ABo (ifT Br Ax);obtain rfl:=ABo Av;change _=Ai at Aa;subst Aa;refine ABx (AB2 (ADb (AB2 (AB2 (ADb (AB2 ?_))))));obtain rfl:=ABo Aj;exact ⟨_,ABz,Ad.x,rfl⟩
        ·have Bt:=ifF Br Ax;rw [decide_eq_false Ax];refine AB4 53 false (Wo (AB4 53 false (Wo (AB4 53 false (AGq rfl rfl (AB0 rfl (ABt (⟨_,rfl,fun A9=>?_,fun A9=>?_⟩))))))))
         ·refine ABp (ABv ?_);obtain rfl:=ABo (AC8 Bt A9);obtain rfl:=ABo Av;change _=Ai at Aa;subst Aa;refine ABx (AB2 (ADb (AB2 (AB2 (ADb (AB2 ?_))))));obtain rfl:=ABo Aj;exact ⟨_,ABz,Ad.x,rfl⟩
         ·refine ABy (q_t ?_);exact ⟨(():Unit),⟨ABo (AC9 Bt A9),Ad⟩,trivial⟩
       ·have Bu:=ifF Bq Aw;rw [decide_eq_false Aw];refine AE3 48 false (AB0 rfl (Wo (AB4 53 false (Wo (AB4 53 false (Wo (AB4 53 false (AGq rfl rfl (AB0 rfl (ABt (⟨_,rfl,fun Ba=>?_,fun Ba=>?_⟩)))))))))))
        ·refine ABp (ABv ?_);obtain rfl:=ABo (AC8 Bu Ba);obtain rfl:=ABo Av;change _=Ai at Aa;subst Aa;refine ABx (AB2 (ADb (AB2 (AB2 (ADb (AB2 ?_))))));obtain rfl:=ABo Aj;exact ⟨_,ABz,Ad.x,rfl⟩
        ·refine ABy (q_t ?_);exact ⟨(():Unit),⟨ABo (AC9 Bu Ba),Ad⟩,trivial⟩
      rintro ⟨⟩ Dx Dy ⟨C2,Bv⟩;subst C2;refine AB6 (Wo (ADh AMf rfl (AB3 ADe rfl ((Bv.b p0).cell (i:=1) rfl) (ACx rfl rfl (ACr (ACs (q_b (q_t (AB6 (ACx rfl rfl (Wo (ABt ?_))))))))))));obtain rfl:=ABo Av;exact ⟨Cq,(((w64 (Cn + Ac.2.1)),(w64 (Co + 1))):(Int) × (Int)),Nat.lt_succ_self _,⟨Aa,Bv.sel [1] (by decide)⟩,rfl,rfl,trivial⟩
     ·obtain rfl:=ABo (AC9 Ak A8);change _=Ai at Aa;subst Aa;refine ACg (ACi (ACi (ADp (q_t (ABr (ABp (Wo (Wo (AEt rfl rfl (ABt (⟨_,rfl,fun Bb=>?_,fun Bb=>?_⟩)))))))))))
      ·refine ABp (ABv (ABx (AB2 ?_)));obtain rfl:=ABo (AC8 Aj Bb);exact ⟨_,ABz,Af.x,rfl⟩
      ·refine ABy (q_t (ABp (Wo ?_)));obtain ⟨⟨Dz,D0⟩,C3,Bw⟩:=ABq (AC9 Aj Bb);dsimp only at Bw;refine ADc rfl (AUi (H2.ext Af.x) (HO.ext Af.x) C3) fun D1 D2 C4 C5=>?_;subst C5;refine Wo (ADn rfl rfl (ADn rfl rfl (ACr (ABv (ABr (ABp (Wo ?_)))))));have Am:=Af.e C4;refine AEk [(.int .i64 a5),Ap,Aq] AQk rfl rfl (Am.b p0).agg (Wo ?_);obtain ⟨D3,C6,Bx⟩:=ABq Bw;refine ADc rfl (AWn (H2.ext Am.x) (H7.ext Am.x) (Ay.ext Am.x) C6) fun D4 D5 C7 C8=>?_;subst C8;refine AEy rfl (ABt ?_);have By:=Am.e C7;refine ⟨_,rfl,fun Bc=>?_,fun Bc=>?_⟩
       ·refine ABp (ABv (ABx (AB2 ?_)));obtain rfl:=ABo (ifT Bx Bc);exact ⟨_,ABz,By.x,rfl⟩
       ·refine ABy (q_t (ABp (ABv (ABx ?_))));obtain rfl:=ABo (AHo Bx Bc);exact ⟨_,ABz,By.x,rfl⟩
noncomputable def AD2 (fuel:Nat):Option Bool:=
  ((AKa fuel 2 ([([1,0]:List Int),([0,1]:List Int)]:List LiA) ([(0,2,2,1,2)]:List AIp)).bind fun (Aa,Ab)=>(if Ab=true then ((AHc fuel ([([2,1]:List Int),([1,2]:List Int)]:List LiA) 2 ([([1,0]:List Int),([0,1]:List Int)]:List LiA) ([(0,2,2,1,2)]:List AIp)).bind fun Ac=>(if Ac=0 then ((ASu fuel 2 ([([1,0]:List Int),([0,1]:List Int)]:List LiA) ([(0,2,2,1,2)]:List AIp)).bind fun Ad=>(if Ad=true then ((ALe fuel Aa ([(0,2,(-1),false,0)]:List AMd)).bind fun Ae=>(some Ae)) else (some false))) else (some false))) else (some false)))
theorem AG5 {fuel:Nat} {h:ABu} {r:Bool} (HO:AWb h) (hp:AD2 fuel=some r):ACo Tryz.prog 6 #[] h (fun x h'=>Ext h h'/\x= .bool r):=by
 unfold AD2 at hp;refine cwf (l:=[]) Tryz.func6 rfl rfl (ABp (AC4 (Ac1 (κ:= .i64) [2,1] ACp AL9 rfl rfl trivial tt2 rfl rfl rfl rfl fun b1 v2 h3 I4 E5 A3 A4=>Ac1 (κ:= .i64) [1,2] ACp AL9 rfl rfl trivial tt2 rfl rfl rfl rfl fun A5 A6 Cz A7 A8 A9 Ba=>?_)));have Ab:=((Kst.k0 h).no E5 (AH8 A3 A4) I4).no A8 (AH8 A9 Ba) A7;have Ao:=(((Ab.a0).grab p1).grab p0);refine Ace (c:=(cI .i64)) (el:=2) [[b1],[A5]] [v2,A6] [([2,1]:List Int),([1,2]:List Int)] ACd ANi rfl rfl trivial tt2 rfl rfl rfl rfl (ARw (Ab.o p1).isOne (ARw (Ab.o p0).isOne Adq)) ⟨(Ab.o p1),(Ab.o p0),trivial⟩ (by simpa using Ao.ndT) fun C0 C1 C2 Bb Bc Be=>AC4 (Ac1 (κ:= .i64) [1,0] ACp AL9 rfl rfl trivial tt2 rfl rfl rfl rfl fun Bf Bg C3 Bh Bi Bj Bl=>Ac1 (κ:= .i64) [0,1] ACp AL9 rfl rfl trivial tt2 rfl rfl rfl rfl fun Bm Bn C4 Bo Bp Bq Br=>?_);have Ac:=((Ao.lit Bc Bb (by simpa using Be)).no Bi (AH8 Bj Bl) Bh).no Bp (AH8 Bq Br) Bo;have Ap:=(((Ac.a0).grab p1).grab p0);refine Ace (c:=(cI .i64)) (el:=2) [[Bf],[Bm]] [Bg,Bn] [([1,0]:List Int),([0,1]:List Int)] ACd ANi rfl rfl trivial tt2 rfl rfl rfl rfl (ARw (Ac.o p1).isOne (ARw (Ac.o p0).isOne Adq)) ⟨(Ac.o p1),(Ac.o p0),trivial⟩ (by simpa using Ap.ndT) fun C5 Ad C6 Bt Bu Bv=>AG7 (v:=(.agg #[(.int .i64 0),(.int .i64 2),(.int .i64 2),(.int .i64 1),(.int .i64 2)])) (fun _=>by kernel_rfl) (Aon APo ([(0,2,2,1,2)]:List AIp) [[(.int .i64 0),(.int .i64 2),(.int .i64 2),(.int .i64 1),(.int .i64 2)]] [(0,(.agg #[(.int .i64 0),(.int .i64 2),(.int .i64 2),(.int .i64 1),(.int .i64 2)]))] APd AWd rfl trivial tt2 rfl rfl rfl (by kernel_rfl) rfl (Ai5 (fun _=>rfl) Ai4) fun C7 Ae C8 Bw Bx By Bz=>?_);have Aj:=(Ap.lit Bu Bt (by simpa using Bv)).no Bx (AH8 By Bz) Bw;obtain ⟨_,_,_,B1⟩:=(Aj.o2 p1).rd.shape;obtain ⟨_,_,_,B3⟩:=(Aj.o p0).rd.shape;refine AG7 (v:=(.agg #[(.int .i64 2),Ad,Ae])) (fun _=>by subst B1;subst B3;kernel_rfl) (ADj [(.int .i64 0),(.slice none 0 0),(.slice none 0 0)] Asb rfl trivial tt2 fun C9 Da B4 B5 B6=>?_);have Ag:=Aj.nb B5 B6 B4;refine AC6 [(.int .i64 2),Ad,Ae] AQk rfl rfl rfl rfl (ARw rfl (ARw (Ag.o2 p2).isOne (ARw (Ag.o p1).isOne Adq))) (Ag.b p0) fun Db B7 B8=>AK4 ?_;have Ah:=Ag.sb p0 B8 B7 rfl;refine AEk [(.int .i64 2),Ad,Ae] AQk rfl rfl (Ah.b p0).agg ?_;obtain ⟨⟨Dc,B9⟩,Ca,Ak⟩:=ABq hp;dsimp only at Ak;refine ADc rfl (AOl (Ah.o2 p2).rd (Ah.o p1).rd Ca) fun Dd De Cb Cd=>?_;obtain ⟨Df,Dg,rfl,Ce,Cf⟩:=Cd;refine Wo (ADn rfl rfl (ADn rfl rfl (ACr (AC4 (Wo (Wo ?_))))));have Aa:=Ah.no Cb Cf Ce;cases Aq:B9
 ·refine AFf 20 false (AB0 rfl (Wo (AKb 26 false (AB0 rfl (Wo (AFf 30 false (AB0 rfl (ABv (ABx ?_)))))))));obtain rfl:=ABo (AHo Ak Aq);exact ⟨_,ABz,Aa.x,rfl⟩
 ·refine AB4 20 true (Wo (AB4 20 true (AEk [(.int .i64 2),Ad,Ae] AQk rfl rfl (Aa.b p1).agg (AB4 20 true ?_))));obtain ⟨Cg,Ch,Ar⟩:=ABq (ifT Ak Aq);refine ADc rfl (AOt (Aa.o2 p6).rd (Aa.o2 p3).rd (Aa.o p2).rd (HO.ext Aa.x) Ch) fun Dh Di Ci Cj=>?_;subst Cj;refine AB4 20 true (AEf rfl rfl (AB5 rfl (Wo ?_)));have Af:=Aa.e Ci;by_cases Ai:Cg=0
  ·rw [decide_eq_true Ai];refine AB4 26 true (AEk [(.int .i64 2),Ad,Ae] AQk rfl rfl (Af.b p1).agg (AB4 26 true ?_));obtain ⟨Ck,Cm,Au⟩:=ABq (ifT Ar Ai);refine ADc rfl (AYb (Af.o2 p3).rd (Af.o p2).rd Cm) fun Dj Dk Cn Co=>?_;subst Co;refine AB5 rfl (Wo ?_);have Av:=Af.e Cn;cases Aw:Ck
   ·refine AFf 30 false (AB0 rfl (ABv (ABx ?_)));obtain rfl:=ABo (AHo Au Aw);exact ⟨_,ABz,Av.x,rfl⟩
   ·refine AB4 30 true (Wo (AB4 30 true (AG7 (v:=(.agg #[(.int .i64 0),(.int .i64 2),(.int .i64 (-1)),(.bool false),(.int .i64 0)])) (fun _=>by kernel_rfl) (AB4 30 true (Aon APb ([(0,2,(-1),false,0)]:List AMd) [[(.int .i64 0),(.int .i64 2),(.int .i64 (-1)),(.bool false),(.int .i64 0)]] [(0,(.agg #[(.int .i64 0),(.int .i64 2),(.int .i64 (-1)),(.bool false),(.int .i64 0)]))] AUd Acr rfl trivial tt2 rfl rfl rfl (by kernel_rfl) rfl (Ai5 (fun _=>rfl) Ai4) fun Dl Dn Do Cp Cq Cr Ct=>AB4 30 true ?_)))));have Am:=Av.no Cq (AH8 Cr Ct) Cp;obtain ⟨Dp,Cu,Cv⟩:=ABq (ifT Au Aw);refine ADc rfl (AQ2 (Am.o p1).rd (Am.o p0).rd Cu) fun Dq Dr Cw Cx=>?_;subst Cx;refine AB5 rfl (ABv (ABx ?_));obtain rfl:=ABo Cv;exact ⟨_,ABz,(Am.e Cw).x,rfl⟩
  ·rw [decide_eq_false Ai];refine AKb 26 false (AB0 rfl (Wo (AFf 30 false (AB0 rfl (ABv (ABx ?_))))));obtain rfl:=ABo (ifF Ar Ai);exact ⟨_,ABz,Af.x,rfl⟩
end Go.Proofs.YtdnbklmefmoofaaGreatDoor
namespace Go.Proofs.YtdnbklmefmoofaaGreatDoor
open Go Go.QF
set_option maxRecDepth 100000
theorem Att (a:Int):ATw .and .i64 a 1=a % 2:=by
 show w64 (((BitVec.ofInt 64 a &&& BitVec.ofInt 64 1).toNat:Nat):Int)=_;rw [BitVec.toNat_and,BitVec.toNat_ofInt,BitVec.toNat_ofInt,show ((1:Int) % ((2 ^ 64:Nat):Int)).toNat=1 by decide,Nat.and_one_is_mod,wk (by omega)];omega
theorem Adr {k:Nat} (hk:k<=30):w64 (1 * 2 ^ Int.toNat (k:Int))=(2:Int) ^ k:=by
 have h1:(2:Int) ^ k<=2 ^ 30:=AJt (by decide) hk;have h2:0 < (2:Int) ^ k:=Int.pow_pos (by decide);have h3:(2:Int) ^ 30=1073741824:=by decide
 rw [Int.toNat_natCast,Int.one_mul,wk (by omega)]
theorem Atu {fuel n k:Nat} {T:Nat->Nat->Int} (hn:n<=8) (hk:k<=30) (hf:100 < fuel):Ok (iter (fun s=>AJ4 fuel (tab n n T) k s) fuel 0) fun ex=>(ex= .inr ()/\Rng n (2 ^ k) T)∨(ex= .inl false/\¬ Rng n (2 ^ k) T):=by
 refine APy (n:=n) (fun i=> ∀ j,j < n->0<=T i j/\T i j < 2 ^ k) false (by omega) (fun i hi=>?_) ?_
 ·unfold AJ4;rw [ACt,if_pos (by omega),AE5 (ACv hi)];refine ABs (APy (n:=n) (fun j=>0<=T i j/\T i j < 2 ^ k) false (by omega) (fun j hj=>?_) ?_) fun ex hex=>?_
  ·unfold AMp;rw [ACy,if_pos (by omega),AE5 (ACk hj),Adr hk];exact AB7 (fun h=>ABn (.inr ⟨rfl,by omega⟩)) fun h=>AD8 (by omega) (AB7 (fun h2=>ABn (.inr ⟨rfl,by omega⟩)) fun h2=>ABn (.inl ⟨by rw [ADr (by omega)],by omega⟩))
  ·unfold AMp;rw [ACy,if_neg (by omega)]
  ·rcases hex with ⟨rfl,h⟩ | ⟨rfl,h⟩
   ·exact ABn (.inl ⟨by rw [ADr (by omega)],h⟩)
   ·exact ABn (.inr ⟨rfl,h⟩)
 ·unfold AJ4;rw [ACt,if_neg (by omega)]
theorem Atv {fuel k e:Nat} {s a b c:Int} (hek:e<=k) (hk:k<=30) (hf:100 < fuel):Ok (AL4 fuel e s a b c k) fun r=>r=true↔(0<=a/\a < 2 ^ (k - e))/\(0<=b/\b < 2 ^ (k - e))/\0<=c/\c < 2 ^ (k - e):=by
 have e1:w64 ((k:Int) - (e:Int))=((k - e:Nat):Int):=by rw [wk (by omega)];omega
 unfold AL4;refine ABs (APy (n:=3) (fun i=> ∀ x,[a,b,c][i]? =some x->0<=x/\x < 2 ^ (k - e)) false (by omega) (fun i hi=>?_) ?_) fun ex hex=>?_
 ·obtain ⟨x,hx⟩:∃ x,[a,b,c][i]? =some x:=⟨[a,b,c][i]'(by simpa using hi),List.getElem?_eq_getElem _⟩;unfold ALl;rw [if_pos (by omega),AE5 hx,e1,Adr (by omega)];exact AB7 (fun h=>ABn (.inr ⟨rfl,fun h2=>by have:=h2 x hx;omega⟩)) fun h=>AD8 (by omega) (AB7 (fun h2=>ABn (.inr ⟨rfl,fun h3=>by have:=h3 x hx;omega⟩)) fun h2=>ABn (.inl ⟨by rw [ADr (by omega)],fun y hy=>by rw [hx] at hy;cases hy;omega⟩))
 ·unfold ALl;rw [if_neg (by omega)]
 ·rcases hex with ⟨rfl,h⟩ | ⟨rfl,h⟩
  ·exact ABn ⟨fun _=>⟨h 0 (by omega) a rfl,h 1 (by omega) b rfl,h 2 (by omega) c rfl⟩,fun _=>rfl⟩
  ·refine ABn ⟨fun e=>(nomatch e),fun h2=>absurd (fun i hi x hx=>?_) h⟩;rcases (show i=0∨i=1∨i=2 by omega) with rfl | rfl | rfl
   ·cases hx;exact h2.1
   ·cases hx;exact h2.2.1
   ·cases hx;exact h2.2.2
theorem Auy {fuel:Nat} {e s a b c:Int}:Ok (AH5 fuel e s a b c) fun r=>r=true↔if s=1 then a % 2=1/\b=0/\c=0 else s=2/\a % 2=0/\b % 2=1/\c % 2=0:=by
 unfold AH5;rw [Att,Att,Att];refine AB7 (fun h=>?_) fun h=>?_
 ·rw [if_pos h];refine AB7 (fun h1=>AB7 (fun h2=>ABn ?_) fun h2=>ABn ?_) fun h1=>ABn ?_
  ·rw [decide_eq_true_eq];exact ⟨fun h3=>⟨h1,h2,h3⟩,fun h3=>h3.2.2⟩
  ·exact ⟨fun e=>(nomatch e),fun h3=>absurd h3.2.1 h2⟩
  ·exact ⟨fun e=>(nomatch e),fun h3=>absurd h3.1 h1⟩
 ·rw [if_neg h];refine AB7 (fun h0=>AB7 (fun h1=>AB7 (fun h2=>ABn ?_) fun h2=>ABn ?_) fun h1=>ABn ?_) fun h0=>ABn ?_
  ·rw [decide_eq_true_eq];exact ⟨fun h3=>⟨h0,h1,h2,h3⟩,fun h3=>h3.2.2.2⟩
  ·exact ⟨fun e=>(nomatch e),fun h3=>absurd h3.2.2.1 h2⟩
  ·exact ⟨fun e=>(nomatch e),fun h3=>absurd h3.2.1 h1⟩
  ·exact ⟨fun e=>(nomatch e),fun h3=>absurd h3.1 h0⟩
theorem Ads {a:Int} {e k:Nat} (hek:e<=k) (hk:k<=30) (h:0<=a/\a < 2 ^ (k - e)):w64 (a * 2 ^ Int.toNat (e:Int))=2 ^ e * a:=by
 have h1:(2:Int) ^ k<=2 ^ 30:=AJt (by decide) hk;have h3:(2:Int) ^ 30=1073741824:=by decide
 have:=AZa (p:=2) (by decide) hek (by omega) h;rw [Int.toNat_natCast,Int.mul_comm,wk (by omega)]
theorem Atw {fuel n k:Nat} {L:List AIp} (hn:n<=8) (hk:k<=30) (hk3:3<=k) (hsz:∀ b∈L,b.2.1=1∨b.2.1=2) (hs:AOs L=n) (hl:L.length<=n) (hf:100 < fuel):
    Ok (iter (fun s=>AMr fuel L k s.1 s.2.1 s.2.2.1 s.2.2.2) fuel (0,0,0,tab n n fun _ _=>0)) fun ex=>(ex= .inr (tab n n (AYs 2 L 0 fun _ _=>0))/\ ∀ i,i < L.length->RG 2 k L i)∨(ex= .inl false/\¬ ∀ i,i < L.length->RG 2 k L i):=by
  refine AC3 (fun i s=> ∃ (r:Nat) (F:Nat->Nat->Int) (last:Int),s=((r:Int),last,(i:Int),tab n n F)/\r + AOs (L.drop i)=n/\AYs 2 (L.drop i) r F=AYs 2 L 0 (fun _ _=>0)/\(∀ j,j < i->RG 2 k L j)/\(if i=0 then last=0 else ∀ b,L[i - 1]? =some b->last=b.1)) L.length ⟨0,fun _ _=>0,0,rfl,by simpa using hs,rfl,fun j hj=>absurd hj (Nat.not_lt_zero j),by rw [if_pos rfl]⟩ (by omega) fun i s hi hI=>?_;obtain ⟨r,F,last,rfl,hr,hb,hG,hlast⟩:=hI;unfold AMr;dsimp only
  by_cases h:i < L.length
  · obtain ⟨b,hbi⟩:∃ b,L[i]? =some b:=⟨L[i],List.getElem?_eq_getElem h⟩
    have hdr:L.drop i=b :: L.drop (i + 1):=by
      rw [List.drop_eq_getElem_cons h];congr 1;rw [List.getElem?_eq_getElem h] at hbi;exact Option.some.inj hbi
    rw [hdr] at hr hb;have hszb:=hsz b (List.mem_of_getElem? hbi);rw [if_pos (by omega),AE5 hbi];have hge0:RG 2 k L i->0<=b.1:=fun hg=>(hg.1 b hbi).1.1
    have hasc:Asc L i/\0<=b.1->last<=b.1:=fun ⟨ha,h0⟩=>by
      by_cases h1:i=0
      · rw [if_pos h1] at hlast;omega
      · rw [if_neg h1] at hlast;obtain ⟨c,hc⟩:∃ c,L[i - 1]? =some c:=⟨L[i - 1],List.getElem?_eq_getElem _⟩;rw [hlast c hc];exact ha (by omega) b c hbi hc
    have hlast0:0<=last:=by
      by_cases h1:i=0
      · rw [if_pos h1] at hlast;omega
      · rw [if_neg h1] at hlast;obtain ⟨c,hc⟩:∃ c,L[i - 1]? =some c:=⟨L[i - 1],List.getElem?_eq_getElem _⟩;rw [hlast c hc];exact ((hG (i - 1) (by omega)).1 c hc).1.1
    refine ABs (Q:=fun ex=>(ex= .inr ()/\RG 2 k L i)∨(ex= .inl false/\¬ RG 2 k L i)) ?_ fun ex hex=>?_
    · refine AB7 (fun h1=>ABn (.inr ⟨rfl,fun hg=>by have:=hasc ⟨hg.2,hge0 hg⟩;omega⟩)) fun h1=>?_;rw [wk (by omega)];refine AB7 (fun h2=>ABn (.inr ⟨rfl,fun hg=>by have:=(hg.1 b hbi).1.2;rw [if_pos rfl] at this;omega⟩)) fun h2=>?_;obtain ⟨e,he⟩:∃ e:Nat,b.1=e:=⟨b.1.toNat,by omega⟩;rw [he]
      refine ABs (Atv (by omega) hk hf) fun rr hrr=>AB7 (fun h3=>ABn (.inr ⟨rfl,fun hg=>?_⟩)) fun h3=>?_
      · have hp:=AYa (by omega) hszb (hg.1 b hbi);obtain ⟨e',he',_,hA,hz⟩:=hp;obtain rfl:e=e':=by omega
        have hpp:=(hg.1 b hbi).2
        have:rr=true:=hrr.2 (by
          rcases hz with hz | ⟨hz,hB,hC⟩
          · rw [if_pos hz] at hpp;have h0:(0:Int) < 2 ^ (k - e):=Int.pow_pos (by decide);rw [hpp.2.2.1,hpp.2.2.2];exact ⟨hA,⟨Int.le_refl _,h0⟩,Int.le_refl _,h0⟩
          · exact ⟨hA,hB,hC⟩)
        rw [this] at h3;cases h3
      · have hrr':=hrr.1 (by cases rr with | true=>rfl | false=>exact absurd rfl h3)
        refine ABs Auy fun w hw=>AB7 (fun h4=>ABn (.inr ⟨rfl,fun hg=>?_⟩)) fun h4=>ABn (.inl ⟨rfl,fun c hc=>?_,fun h5 c' d hc' hd=>?_⟩)
        · have hpp:=(hg.1 b hbi).2
          have:w=true:=hw.2 (by
            by_cases hz:b.2.1=1
            · rw [if_pos hz] at hpp ⊢;exact ⟨by have:=hpp.2.1;omega,hpp.2.2⟩
            · rw [if_neg hz] at hpp ⊢;exact ⟨hszb.resolve_left hz,hpp.2⟩)
          rw [this] at h4;cases h4
        · rw [hbi] at hc;cases hc;have hw':=hw.1 (by cases w with | true=>rfl | false=>exact absurd rfl h4);refine ⟨⟨by omega,by rw [if_pos rfl];omega⟩,?_⟩;rw [he,Int.toNat_natCast]
          by_cases hz:b.2.1=1
          · rw [if_pos hz] at hw' ⊢;exact ⟨⟨by have:=hrr'.1.1;omega,hrr'.1.2⟩,by omega,hw'.2⟩
          · rw [if_neg hz] at hw' ⊢;exact ⟨hrr',hw'.2⟩
        · rw [hbi] at hc';cases hc';rw [if_neg (by omega)] at hlast;have:=hlast d hd;omega
    · rcases hex with ⟨rfl,hg⟩ | ⟨rfl,hg⟩
      · obtain ⟨e,he,hek,hA,hsz2⟩:=AYa (by omega) hszb (hg.1 b hbi);have heN:b.1.toNat=e:=by omega
        unfold AOs at hr;rw [AYs] at hb;rw [heN] at hb;have hr1:r < n:=by omega
        have hG2:∀ j,j < i + 1->RG 2 k L j:=fun j hj=>(Nat.lt_succ_iff_lt_or_eq.1 hj).elim (hG j) fun q=>q ▸ hg
        have hl2:(if i + 1=0 then (e:Int)=0 else ∀ c,L[i + 1 - 1]? =some c->(e:Int)=c.1):=by
          rw [if_neg (by omega),Nat.add_sub_cancel];intro c hc;rw [hbi] at hc;cases hc;exact he.symm
        dsimp only;rw [he,AE5 (ACv hr1),if_pos (by omega),AE5 (ACk hr1),Ads hek hk hA,ASh]
        rcases hsz2 with hz | ⟨hz,hB,hC⟩
        · rw [if_neg (by omega)];simp only [Option.bind_some];rw [if_neg (by omega)] at hb;refine ABn ⟨h,r + 1,_,e,?_,by omega,hb,hG2,hl2⟩;rw [hz,ADr (by omega),ADr (by omega)]
        · have hr2:r + 1 < n:=by omega
          rw [if_pos hz,AE5 (ACv hr1),if_pos (by omega),ADr (by omega),AE5 (ACk hr2),Ads hek hk hB,ASh,AE5 (ACv hr2),if_pos (by omega),AE5 (ACk hr1),ASh,AE5 (ACv hr2),if_pos (by omega),AE5 (ACk hr2),Ads hek hk hC,ASh];simp only [Option.bind_some];rw [if_pos hz] at hb;refine ABn ⟨h,r + 2,_,e,?_,by omega,hb,hG2,hl2⟩;rw [hz,AFe (x:=(r:Int) + 2) (by omega) (by omega),ADr (by omega)];rfl
      · exact ABn (.inr ⟨rfl,fun hall=>hg (hall i h)⟩)
  · obtain rfl:i=L.length:=by omega
    rw [if_neg (by omega)];rw [List.drop_length] at hb;exact ABn (.inl ⟨by rw [<- hb];rfl,hG⟩)
theorem Aq5 {fuel n:Nat} {F G:Nat->Nat->Int} (hn:n<=8) (hf:100 < fuel):Ok (iter (fun s=>AJ3 fuel (tab n n F) (tab n n G) s) fuel 0) fun ex=>(ex= .inr ()/\ ∀ i,i < n-> ∀ j,j < n->G i j=F i j)∨(ex= .inl false/\¬ ∀ i,i < n-> ∀ j,j < n->G i j=F i j):=by
 refine APy (n:=n) (fun i=> ∀ j,j < n->G i j=F i j) false (by omega) (fun i hi=>?_) ?_
 ·unfold AJ3;rw [ACt,if_pos (by omega),AE5 (ACv hi)];refine ABs (APy (n:=n) (fun j=>G i j=F i j) false (by omega) (fun j hj=>?_) ?_) fun ex hex=>?_
  ·unfold AMq;rw [ACy,if_pos (by omega),AE5 (ACv hi),AE5 (ACk hj),AE5 (ACv hi),AE5 (ACk hj)];exact AB7 (fun h=>ABn (.inr ⟨rfl,h⟩)) fun h=>ABn (.inl ⟨by rw [ADr (by omega)],Decidable.not_not.1 h⟩)
  ·unfold AMq;rw [ACy,if_neg (by omega)]
  ·rcases hex with ⟨rfl,h⟩ | ⟨rfl,h⟩
   ·exact ABn (.inl ⟨by rw [ADr (by omega)],h⟩)
   ·exact ABn (.inr ⟨rfl,h⟩)
 ·unfold AJ3;rw [ACt,if_neg (by omega)]
theorem Aks {fuel n k:Nat} {A T:Nat->Nat->Int} {L:List AIp} (Ab:1<=n) (hn:n<=8) (hk:k<=30) (Ac:3<=k) (hsz:∀ b∈L,b.2.1=1∨b.2.1=2) (hs:AOs L=n) (hl:L.length<=n) (hg:2147483648 < fuel):
    Ok (AM1 fuel (tab n n A) 2 (tab n n T) L k) fun b=>b=true↔RC n k 2 A T L:=by
 have hf:100 < fuel:=by omega
 have h1:(2:Int) ^ k<=2 ^ 30:=AJt (by decide) hk;have h3:(2:Int) ^ 30=1073741824:=by decide
 have h4:(2:Int) ^ 1<=2 ^ k:=AJt (by decide) (by omega);rw [Int.pow_one] at h4;unfold AM1 RC;refine ABs (Atu hn hk hf) fun ex hex=>?_;rcases hex with ⟨rfl,hR⟩ | ⟨rfl,hR⟩
 ·refine ABs (AC1 (Ato Ab hn (by decide) (by decide) hg)) fun d hd=>?_;subst hd;dsimp only;refine AB7 (fun h=>ABn ⟨fun h2=>(nomatch h2),fun h2=>absurd h h2.2.2.1⟩) fun h=>?_;rw [ACt,if_pos (by omega),Int.toNat_natCast,AVd (n:=n) (fun _ _=>0) (by omega) (fun i hi=>?_) fun X=>?_]
  ·simp only [Option.bind_some];refine ABs (Atw hn hk Ac hsz hs hl hf) fun ex hex=>?_;rcases hex with ⟨rfl,hG⟩ | ⟨rfl,hG⟩
   ·dsimp only;rw [if_pos (by omega),Adr hk];refine ABs (AC1 (Aq2 Ab hn (by omega) (by omega) hf)) fun g hgg=>?_;subst hgg;dsimp only;refine ABs (Aq5 hn hf) fun ex hex=>?_;rcases hex with ⟨rfl,hS⟩ | ⟨rfl,hS⟩
    ·exact ABn ⟨fun _=>⟨hG,hR,h,hS⟩,fun _=>rfl⟩
    ·exact ABn ⟨fun h2=>(nomatch h2),fun h2=>absurd h2.2.2.2 hS⟩
   ·exact ABn ⟨fun h2=>(nomatch h2),fun h2=>absurd h2.1 hG⟩
  ·unfold AMs;dsimp only;rw [ACt,Int.toNat_natCast,List.length_replicate,if_pos (by omega),if_pos (by omega),AE5 (AOp hi),ADw,AGn n (0:Int),AMz,AVc fun c _=>rfl,ADr (by omega)]
  ·unfold AMs;dsimp only;rw [ACt,Int.toNat_natCast,List.length_replicate,if_neg (by omega)]
 ·exact ABn ⟨fun h=>(nomatch h),fun h=>absurd h.2.1 hR⟩
end Go.Proofs.YtdnbklmefmoofaaGreatDoor
namespace Go.Proofs.YtdnbklmefmoofaaGreatDoor
open Go Go.QF
set_option maxRecDepth 100000
set_option maxHeartbeats 4000000
def AIo (fuel:Nat) (a3:LiI) (Aa:Int):Option ((Int) ⊕ ((Bool) ⊕ (Unit))):=
  (if Aa < (a3.length:Int) then ((gI a3 Aa).bind fun Ac=>(if 12 < (Ac.length:Int) then (some (Sum.inr<| Sum.inl <| true)) else (some (Sum.inl (w64 (Aa + 1)))))) else (some (Sum.inr<| Sum.inr <| ())))
def AGw (fuel:Nat) (a3:LiI):Option Bool:=
  (if 12 < (a3.length:Int) then (some true) else ((iter (fun s=>AIo fuel a3 s) fuel 0).bind (fun ex=>match ex with | Sum.inl Ab=>(some Ab) | Sum.inr (_)=>(some false))))
theorem AOm {fuel:Nat} {h:ABu} {Aj:Value} {a3:LiI} {r:Bool} (H2:AEq (cI .i64) h Aj a3) (hp:AGw fuel a3=some r):ACo Tryz.prog 5 #[Aj] h (fun x h'=>Ext h h'/\x= .bool r):=by
 unfold AGw at hp;refine cwf (l:=[_]) Tryz.func5 rfl rfl (ABp (ABv (ABr (ABp (Wo (ADa ACd rfl H2 (AGq rfl rfl (ABt ?_))))))));have K0:=Kst.k0 h;refine ⟨_,rfl,fun Af=>?_,fun Af=>?_⟩
 ·refine ABp (ABv (ABx (AB2 ?_)));obtain rfl:=ABo (AC8 hp Af);exact ⟨_,ABz,K0.x,rfl⟩
 ·refine ABy (q_t (ABr (ABp (Wo (ADa ACd rfl H2 (Wo (ABt (ABw ?_))))))));obtain ⟨Ag,Ap,Am⟩:=ABq (AC9 hp Af);obtain ⟨Aq,Ar,Au⟩:=ACe Ap;refine ACq 261140 (fun x:(Int)=>[(10,(.int .i64 x))]) (fun k x h'=>iter Aq k x=some Ag/\Kst h h' (K0.L)) (by kernel_rfl) fuel (0:(Int)) ?_ ⟨rfl,trivial⟩ ?_
  ·exact ⟨Au,K0⟩
  rintro A4 Av A5 A6 ⟨Aw,Ac⟩;obtain ⟨Ax,A7,rfl,Aa,Ab⟩:=AB8 Aw;rw [Ar] at Aa;dsimp only at Aa;unfold AIo at Aa;refine ABp (ACu rfl rfl (ABt (ABr (⟨_,rfl,fun Ah=>?_,fun Ah=>?_⟩))))
  ·refine ABy (q_t (ABr (ABw (ABp ?_))));obtain ⟨A8,Ay,Ao⟩:=ABq (AC8 Aa Ah);refine AFj ACd rfl H2 rfl Ay fun A9 Ba Bb Az A3=>AB3 AC0 rfl (AB1 Az Ac.x) (AC4 (Wo (ADi ACp rfl A3 (AGq rfl rfl (ABt (⟨_,rfl,fun Ai=>?_,fun Ai=>?_⟩))))))
   ·refine ABp (ABv ?_);obtain rfl:=ABo (AC8 Ao Ai);change _=Ag at Ab;subst Ab;refine ABx (ADb (AB2 (AB2 (ADb (AB2 ?_)))));obtain rfl:=ABo Am;exact ⟨_,ABz,Ac.x,rfl⟩
   ·refine ABy (q_b (q_t (AB6 (ACx rfl rfl (Wo (ABt ?_))))));obtain rfl:=ABo (AC9 Ao Ai);exact ⟨Ax,((w64 (Av + 1)):(Int)),Nat.lt_succ_self _,⟨Ab,Ac⟩,rfl,trivial⟩
  ·obtain rfl:=ABo (AC9 Aa Ah);change _=Ag at Ab;subst Ab;refine ACg (ACi (ACi (ADp (q_t (ABp (ABv (ABx ?_)))))));obtain rfl:=ABo Am;exact ⟨_,ABz,Ac.x,rfl⟩
noncomputable def AIf (fuel:Nat) (a3:LiI) (a5 a6:Int) (a9 Ai:LiA) (Ad:Int) (Aa:LiI) (Ab:(List AIp)) (Aj:Bool):Option Bool:=
  ((((AGw fuel a3).bind fun Ak=>(if Ak=true then ((AD2 fuel).bind fun Am=>(some (Sum.inl <| Am))) else ((AGw fuel Aa).bind fun Ao=>(if Ao=true then ((AD2 fuel).bind fun Ap=>(some (Sum.inl <| Ap))) else (if 20 < (Ab.length:Int) then ((AD2 fuel).bind fun Aq=>(some (Sum.inl <| Aq))) else (some (Sum.inr <| ()))))))):Option ((Bool) ⊕ (Unit))).bind (fun ex=>match ex with | Sum.inl Ar=>(some Ar) | Sum.inr (_)=>(if Aj=true then ((AFy fuel a5 a6 a9 Ai 3).bind fun Ae=>((AHc fuel Ae 2 Aa Ab).bind fun Au=>((AE1 fuel Ae 2 Aa Ab).bind fun Av=>(if Au=Av then ((AD2 fuel).bind fun Aw=>(some Aw)) else (some false))))) else ((AHc fuel a3 Ad Aa Ab).bind fun Ax=>((AE1 fuel a3 Ad Aa Ab).bind fun Ay=>(if Ax=Ay then ((AD2 fuel).bind fun Az=>(some Az)) else (some false)))))))
theorem AQt {fuel:Nat} {h:ABu} {Bb:Value} {a3:LiI} {a5 a6:Int} {Ao:Value} {a9:LiA} {Ap:Value} {Bf:LiA} {Af:Int} {Ab:Value} {Bg:LiI} {Ac:Value} {Bh:(List AIp)} {Bi r:Bool} (H2:AEq (cI .i64) h Bb a3) (H8:SlC (cI .i8) h Ao a9) (B1:SlC (cI .i8) h Ap Bf) (Ag:AEq (cI .i64) h Ab Bg) (Ah:SlC APo h Ac Bh) (HO:AWb h) (hp:AIf fuel a3 a5 a6 a9 Bf Af Bg Bh Bi=some r):ACo Tryz.prog 3 #[Bb,(.agg #[(.int .u8 a5),(.int .u8 a6),Ao,Ap]),(.agg #[(.int .i64 Af),Ab,Ac]),(.bool Bi)] h (fun x h'=>Ext h h'/\x= .bool r):=by
 unfold AIf at hp;refine cwf (l:=[_,_,_,_]) Tryz.func3 rfl rfl (ABp (AFk [(.int .u8 a5),(.int .u8 a6),Ao,Ap] trivial tt2 rfl rfl fun Du Dv B3 B4 B5=>AFk [(.int .i64 Af),Ab,Ac] trivial tt2 rfl rfl fun Dw Dx B6 B7 B8=>ABv ?_));have A4:=((Kst.k0 h).nb B4 B5 B3).nb B7 B8 B6;obtain ⟨B9,Ca,Ai⟩:=ABq hp;refine AL7 8388352 (fun x:Unit=>[]) (fun x h'=>(Sum.inr <| ())=B9/\Kst h h' (A4.L)) ?_ ?_
 ·refine ABp (Wo ?_);obtain ⟨Cb,Cd,Bj⟩:=ABq Ca;refine ADc rfl (AOm (H2.ext A4.x) Cd) fun Dy Dz Ce Cf=>?_;subst Cf;refine Wo ?_;have Aj:=A4.e Ce;cases Bl:Cb
  ·refine AB4 11 false (ADh APe rfl (AB4 11 false (AB3 AS2 rfl ((Aj.b p0).cell (i:=1) rfl) (AB4 11 false ?_))));obtain ⟨Cg,Ch,Bm⟩:=ABq (AHo Bj Bl);refine ADc rfl (AOm (Ag.ext Aj.x) Ch) fun D0 D1 Ci Cj=>?_;subst Cj;refine AB0 rfl (Wo ?_);have Ae:=Aj.e Ci;cases Bn:Cg
   ·refine AB4 16 false (ADh AOn rfl (AB4 16 false (AB3 AUe rfl ((Ae.b p0).cell (i:=2) rfl) (AB4 16 false (ADi APd rfl Ah (AB4 16 false (AGq rfl rfl (AB0 rfl (ABt ?_)))))))));have Bo:=AHo Bm Bn;refine ⟨_,rfl,fun A5=>?_,fun A5=>?_⟩
    ·refine ABp ?_;obtain ⟨D2,Ck,Cm⟩:=ABq (AC8 Bo A5);refine ADc rfl (AG5 (HO.ext Ae.x) Ck) fun D3 D4 Cn Co=>?_;subst Co;refine ABv ?_;obtain rfl:=ABo Cm;refine ABx (AB2 ?_);obtain rfl:=ABo Ai;exact ⟨_,ABz,(Ae.e Cn).x,rfl⟩
    ·refine ABy (q_t ?_);exact ⟨(():Unit),⟨ABo (AC9 Bo A5),Ae⟩,trivial⟩
   ·refine AFf 16 true (AB5 rfl (ABt (ACh rfl (ABp ?_))));obtain ⟨D5,Cp,Cq⟩:=ABq (ifT Bm Bn);refine ADc rfl (AG5 (HO.ext Ae.x) Cp) fun D6 D7 Cr Ct=>?_;subst Ct;refine ABv ?_;obtain rfl:=ABo Cq;refine ABx (AB2 ?_);obtain rfl:=ABo Ai;exact ⟨_,ABz,(Ae.e Cr).x,rfl⟩
  ·refine AE3 11 true (AB5 rfl (Wo (AFf 16 true (AB5 rfl (ABt (ACh rfl (ABp ?_)))))));obtain ⟨D8,Cu,Cv⟩:=ABq (ifT Bj Bl);refine ADc rfl (AG5 (HO.ext Aj.x) Cu) fun D9 Ea Cw Cx=>?_;subst Cx;refine ABv ?_;obtain rfl:=ABo Cv;refine ABx (AB2 ?_);obtain rfl:=ABo Ai;exact ⟨_,ABz,(Aj.e Cw).x,rfl⟩
 rintro ⟨⟩ Eb A6 ⟨Cy,Aa⟩;subst Cy;refine ABr (ABp (Wo (ABt (⟨_,rfl,fun A7=>?_,fun A7=>?_⟩))))
 ·refine ABp (AEk [(.int .u8 a5),(.int .u8 a6),Ao,Ap] Anf rfl rfl (Aa.b p1).agg ?_);obtain ⟨Ec,Cz,C0⟩:=ABq (ifT Ai A7);refine ADc rfl (APs (H8.ext Aa.x) (B1.ext Aa.x) Cz) fun Ed Ee C1 C2=>?_;obtain ⟨Ef,Eg,Eh,Ei,rfl,C3,C4⟩:=C2;refine ABv (AB6 (ADh AQv rfl ?_));have Bp:=Aa.no2 C1 C4 C3;refine AUx [(.int .i64 2),Ab,Ac] ACw rfl rfl rfl (Bp.b p1) (Nat.le_of_ble_eq_true rfl) rfl fun A8 C5 C6=>ABt (ABr (AEj (fun h'=>UpT [] A8 h') (by kernel_rfl) ?_));have Ad:=Bp.sb p1 C6 C5 rfl;have Aq:UpT [] A8 A8:=UpT.start all_nil;refine Wo (AEn [(.int .i64 2),Ab,Ac] AQk rfl rfl Aq (fun h' hb=>((Ad.b p1).ext hb.ext).agg) ?_);obtain ⟨C7,C8,C9⟩:=ABq C0;refine ADm Aq (fun _ E=>Aq.thenE E) rfl (AOt (Ad.o2 p0).rd (Ag.ext Ad.x) (Ah.ext Ad.x) (HO.ext Ad.x) C8) fun Ej Ek Bq Da=>?_;subst Da;refine Wo ?_;have Ar:=Aq.thenE Bq;refine AEn [(.int .i64 2),Ab,Ac] AQk rfl rfl Ar (fun h' hb=>((Ad.b p1).ext hb.ext).agg) ?_;have Au:=Ad.e Bq;obtain ⟨Db,Dc,Br⟩:=ABq C9;refine ADm Ar (fun _ E=>Ar.thenE E) rfl (ANw (Au.o2 p0).rd (Ag.ext Au.x) (Ah.ext Au.x) Dc) fun El Em Bt Dd=>?_;subst Dd;refine AEf rfl rfl (Wo ?_);have Bu:=Ar.thenE Bt;have A9:=Au.e Bt;by_cases Av:C7=Db
  ·rw [decide_eq_true Av];refine AB4 34 true ?_;obtain ⟨En,De,Df⟩:=ABq (ifT Br Av);refine ADm Bu (fun _ E=>Bu.thenE E) rfl (AG5 (HO.ext A9.x) De) fun Eo Ep Dg Dh=>?_;subst Dh;refine AB5 rfl (ABv (ABx ?_));obtain rfl:=ABo Df;exact ⟨_,ABz,(A9.e Dg).x,rfl⟩
  ·rw [decide_eq_false Av];refine Abf 34 false (AB0 rfl (ABv (ABx ?_)));obtain rfl:=ABo (ifF Br Av);exact ⟨_,ABz,A9.x,rfl⟩
 ·refine ABy (q_t (ABr (AEj (fun h'=>UpT [] A6 h') (by kernel_rfl) ?_)));have Aw:UpT [] A6 A6:=UpT.start all_nil;refine Wo (AEn [(.int .i64 Af),Ab,Ac] AQk rfl rfl Aw (fun h' hb=>((Aa.b p0).ext hb.ext).agg) ?_);obtain ⟨Di,Dj,Dk⟩:=ABq (AHo Ai A7);refine ADm Aw (fun _ E=>Aw.thenE E) rfl (AOt (H2.ext Aa.x) (Ag.ext Aa.x) (Ah.ext Aa.x) (HO.ext Aa.x) Dj) fun Er Es Bv Dl=>?_;subst Dl;refine Wo ?_;have Ax:=Aw.thenE Bv;refine AEn [(.int .i64 Af),Ab,Ac] AQk rfl rfl Ax (fun h' hb=>((Aa.b p0).ext hb.ext).agg) ?_;have Ay:=Aa.e Bv;obtain ⟨Dn,Do,Bw⟩:=ABq Dk;refine ADm Ax (fun _ E=>Ax.thenE E) rfl (ANw (H2.ext Ay.x) (Ag.ext Ay.x) (Ah.ext Ay.x) Do) fun Et Eu Bx Dp=>?_;subst Dp;refine AEf rfl rfl (Wo ?_);have By:=Ax.thenE Bx;have Ba:=Ay.e Bx;by_cases Az:Di=Dn
  ·rw [decide_eq_true Az];refine AB4 34 true ?_;obtain ⟨Ev,Dq,Dr⟩:=ABq (ifT Bw Az);refine ADm By (fun _ E=>By.thenE E) rfl (AG5 (HO.ext Ba.x) Dq) fun Ew Ey Ds Dt=>?_;subst Dt;refine AB5 rfl (ABv (ABx ?_));obtain rfl:=ABo Dr;exact ⟨_,ABz,(Ba.e Ds).x,rfl⟩
  ·rw [decide_eq_false Az];refine Abf 34 false (AB0 rfl (ABv (ABx ?_)));obtain rfl:=ABo (ifF Bw Az);exact ⟨_,ABz,Ba.x,rfl⟩
end Go.Proofs.YtdnbklmefmoofaaGreatDoor
namespace Go.Proofs.YtdnbklmefmoofaaGreatDoor
open Go Go.QF
set_option maxRecDepth 100000
def Szs (L:List AIp):Prop:= ∀ i,i < L.length-> ∀ b,L[i]? =some b->b.2.1=1∨b.2.1=2
theorem Ai6 {L:List AIp} (h:Szs L):L.length<=AOs L/\AOs L<=2 * L.length:=by
 induction L with
 | nil=>exact ⟨Nat.le_refl _,Nat.le_refl _⟩
 | cons b l ih=>
   have hb:=h 0 (by simp) b rfl
   have:=ih fun i hi c hc=>h (i + 1) (by simpa using hi) c (by simpa using hc)
   unfold AOs
   rw [List.length_cons]
   omega
theorem Aq6 {L:List AIp} (h:Szs L):∀ b∈L,b.2.1=1∨b.2.1=2:=fun b hb=>by
  obtain ⟨i,hi⟩:=List.getElem?_of_mem hb
  exact h i (List.getElem?_eq_some_iff.1 hi).1 b hi
theorem Afv {L:List AIp} {i:Nat} {b:AIp} (h:L[i]? =some b):L.drop i=b :: L.drop (i + 1):=by
 have hi:=(List.getElem?_eq_some_iff.1 h).1;rw [List.drop_eq_getElem_cons hi];congr 1;rw [List.getElem?_eq_getElem hi] at h;exact Option.some.inj h
theorem Auz {fuel n:Nat} {M:List (List Int)} {L:List AIp} (hM:M.length=n) (hn:n<=8) (hl:L.length<=20) (hf:100 < fuel):Ok (iter (fun s=>AMt fuel M L s.1 s.2) fuel (0,0)) fun ex=>(ex= .inr ((AOs L:Nat):Int)/\Szs L)∨(ex= .inl 3/\¬ (Szs L/\AOs L=n)):=by
 refine AC3 (fun i s=> ∃ r:Nat,s=((r:Int),(i:Int))/\r<=2 * i/\(∀ j,j < i-> ∀ b,L[j]? =some b->b.2.1=1∨b.2.1=2)/\r + AOs (L.drop i)=AOs L) L.length ⟨0,rfl,Nat.le_refl _,fun j hj=>absurd hj (Nat.not_lt_zero j),by simp⟩ (by omega) fun i s hi hI=>?_;obtain ⟨r,rfl,Ae,hz,hr⟩:=hI;unfold AMt;dsimp only;by_cases h:i < L.length
 ·obtain ⟨b,hbi⟩:∃ b,L[i]? =some b:=⟨L[i],List.getElem?_eq_getElem h⟩;rw [Afv hbi] at hr;rw [AOs] at hr;rw [if_pos (by omega),AE5 hbi]
  have hbad:n < r->¬ (Szs L/\AOs L=n):=fun h1 h2=>by
    have:AOs L=b.2.1.toNat + AOs (L.drop (i + 1)) + r:=by rw [Nat.add_comm];exact hr.symm
    omega
  have hok:b.2.1=1∨b.2.1=2-> ∀ j,j < i + 1-> ∀ c,L[j]? =some c->c.2.1=1∨c.2.1=2:=fun h1 j hj c hc=>by
    rcases Nat.lt_succ_iff_lt_or_eq.1 hj with h2 | h2
    · exact hz j h2 c hc
    · subst h2;rw [hbi] at hc;cases hc;exact h1
  refine ABs (Q:=fun ex=>(ex= .inr ()/\(b.2.1=1∨b.2.1=2))∨(ex= .inl 3/\¬ (Szs L/\AOs L=n))) (AB7 (fun h1=>AB7 (fun h2=>ABn (.inr ⟨rfl,fun h3=>?_⟩)) fun h2=>AB7 (fun h3=>ABn (.inr ⟨rfl,hbad (by omega)⟩)) fun h3=>ABn (.inl ⟨rfl,.inr (by omega)⟩)) fun h1=>AB7 (fun h3=>ABn (.inr ⟨rfl,hbad (by omega)⟩)) fun h3=>ABn (.inl ⟨rfl,.inl (by omega)⟩)) fun ex hex=>?_
  ·rcases h3.1 i h b hbi with h4 | h4
   ·exact h1 h4
   ·exact h2 h4
  ·rcases hex with ⟨rfl,h1⟩ | ⟨rfl,h1⟩
   ·refine ABn ⟨h,r + b.2.1.toNat,?_,by omega,hok h1,by omega⟩;rw [AFe (x:=(r:Int) + b.2.1) (by omega) (by omega),ADr (by omega)];refine congrArg (fun z=>(z,((i + 1:Nat):Int))) ?_;omega
   ·exact ABn (.inr ⟨rfl,h1⟩)
 ·obtain rfl:i=L.length:=by omega
  rw [if_neg (by omega)];rw [List.drop_length] at hr;have:r=AOs L:=hr;subst this;exact ABn (.inl ⟨rfl,hz⟩)
theorem Aq7 {fuel n:Nat} {M T:List (List Int)} (hM:M.length=n) (hT:T.length<=8) (hf:100 < fuel):Ok (iter (fun s=>AJ5 fuel M T s) fuel 0) fun ex=>(ex= .inr ()/\ ∀ i,i < T.length-> ∀ z,T[i]? =some z->z.length=n)∨(ex= .inl 3/\¬ ∀ i,i < T.length-> ∀ z,T[i]? =some z->z.length=n):=by
 refine APy (n:=T.length) (fun i=> ∀ z,T[i]? =some z->z.length=n) 3 (by omega) (fun i hi=>?_) ?_
 ·obtain ⟨z,hz⟩:∃ z,T[i]? =some z:=⟨T[i],List.getElem?_eq_getElem hi⟩;unfold AJ5;rw [if_pos (by omega),AE5 hz];exact AB7 (fun h=>ABn (.inr ⟨rfl,fun h2=>h (by have:=h2 z hz;omega)⟩)) fun h=>ABn (.inl ⟨by rw [ADr (by omega)],fun y hy=>by rw [hz] at hy;cases hy;omega⟩)
 ·unfold AJ5;rw [if_neg (by omega)]
theorem Aop {fuel n:Nat} {p:Int} {T:List (List Int)} {L:List AIp} (hn:n<=8) (hl:L.length<=20) (hf:100 < fuel):Ok (AH0 fuel p T L n) fun b=>b=true↔T.length=n/\(∀ i,i < T.length-> ∀ z,T[i]? =some z->z.length=n)/\Szs L/\AOs L=n:=by
  unfold AH0;refine ABs (Q:=fun ex=>(ex= .inr ()/\T.length=n/\L.length<=n)∨(ex= .inl false/\¬ (T.length=n/\L.length<=n))) (AB7 (fun h=>ABn (.inr ⟨rfl,by omega⟩)) fun h=>AB7 (fun h2=>ABn (.inr ⟨rfl,by omega⟩)) fun h2=>ABn (.inl ⟨rfl,by omega,by omega⟩)) fun ex hex=>?_
  rcases hex with ⟨rfl,hT,hL⟩ | ⟨rfl,h⟩
  · refine ABs (APy (n:=T.length) (fun i=> ∀ z,T[i]? =some z->z.length=n) false (by omega) (fun i hi=>?_) ?_) fun ex hex=>?_
    · obtain ⟨z,hz⟩:∃ z,T[i]? =some z:=⟨T[i],List.getElem?_eq_getElem hi⟩;unfold AIc;rw [if_pos (by omega),AE5 hz];exact AB7 (fun h=>ABn (.inr ⟨rfl,fun h2=>h (by have:=h2 z hz;omega)⟩)) fun h=>ABn (.inl ⟨by rw [ADr (by omega)],fun y hy=>by rw [hz] at hy;cases hy;omega⟩)
    · unfold AIc;rw [if_neg (by omega)]
    · rcases hex with ⟨rfl,hrow⟩ | ⟨rfl,hrow⟩
      · refine ABs (Q:=fun ex=>(ex= .inr ((n:Int) - (AOs L:Nat))/\Szs L)∨(ex= .inl false/\¬ Szs L)) (AC3 (fun i s=> ∃ r:Nat,s=((n:Int) - r,(i:Int))/\r<=2 * i/\(∀ j,j < i-> ∀ b,L[j]? =some b->b.2.1=1∨b.2.1=2)/\r + AOs (L.drop i)=AOs L) L.length ⟨0,by simp,Nat.le_refl _,fun j hj=>absurd hj (Nat.not_lt_zero j),by simp⟩ (by omega) fun i s hi hI=>?_) fun ex hex=>?_
        · obtain ⟨r,rfl,hr2,hz,hr⟩:=hI;unfold AKo;dsimp only
          by_cases h:i < L.length
          · obtain ⟨b,hbi⟩:∃ b,L[i]? =some b:=⟨L[i],List.getElem?_eq_getElem h⟩;rw [Afv hbi] at hr;rw [AOs] at hr;rw [if_pos (by omega),AE5 hbi]
            have hok:b.2.1=1∨b.2.1=2-> ∀ j,j < i + 1-> ∀ c,L[j]? =some c->c.2.1=1∨c.2.1=2:=fun h1 j hj c hc=>by
              rcases Nat.lt_succ_iff_lt_or_eq.1 hj with h2 | h2
              · exact hz j h2 c hc
              · subst h2;rw [hbi] at hc;cases hc;exact h1
            refine ABs (Q:=fun ex=>(ex= .inr ()/\(b.2.1=1∨b.2.1=2))∨(ex= .inl false/\¬ Szs L)) (AB7 (fun h1=>AB7 (fun h2=>ABn (.inr ⟨rfl,fun h3=>?_⟩)) fun h2=>ABn (.inl ⟨rfl,.inr (by omega)⟩)) fun h1=>ABn (.inl ⟨rfl,.inl (by omega)⟩)) fun ex hex=>?_
            · rcases h3 i h b hbi with h4 | h4
              · exact h1 h4
              · exact h2 h4
            · rcases hex with ⟨rfl,h1⟩ | ⟨rfl,h1⟩
              · refine ABn ⟨h,r + b.2.1.toNat,?_,by omega,hok h1,by omega⟩;rw [AFe (x:=(n:Int) - r - b.2.1) (by omega) (by omega),ADr (by omega)];refine congrArg (fun z=>(z,((i + 1:Nat):Int))) ?_;omega
              · exact ABn (.inr ⟨rfl,h1⟩)
          · obtain rfl:i=L.length:=by omega
            rw [if_neg (by omega)];rw [List.drop_length] at hr;have:r=AOs L:=hr;subst this;exact ABn (.inl ⟨rfl,hz⟩)
        · rcases hex with ⟨rfl,hz⟩ | ⟨rfl,hz⟩
          · refine ABn ?_;rw [decide_eq_true_eq];exact ⟨fun h=>⟨hT,hrow,hz,by omega⟩,fun h=>by have:=h.2.2.2;omega⟩
          · exact ABn ⟨fun h=>(nomatch h),fun h=>absurd h.2.2.1 hz⟩
      · exact ABn ⟨fun h=>(nomatch h),fun h=>absurd h.2.1 hrow⟩
  · exact ABn ⟨fun h=>(nomatch h),fun h2=>absurd ⟨h2.1,by have:=Ai6 h2.2.2.1;omega⟩ h⟩
theorem pr2:Pr 2:=⟨by omega,fun d h1 h2=>by omega⟩
theorem Akt {fuel:Nat} {M T:List (List Int)} {p:Int} {L:List AIp} (hM:Afs M) (hl:L.length<=20) (hg:2147483648 < fuel):∃ r,AHc fuel M p T L=some r/\AE1 fuel M p T L=some r:=by
 have hf:100 < fuel:=by omega
 have e0:=Aha hM hf;unfold AHc AE1;rw [e0];simp only [AQ6,Option.bind_some]
 cases hr:isRed M with
 | false=>exact ⟨6,rfl,rfl⟩
 | true=>
   have R:=(AX7 M).1 hr
   simp only [Bool.not_true,Bool.false_eq_true,reduceIte]
   by_cases hp:p=2
   · subst hp
     have hn:=R.1
     obtain ⟨n,hMn⟩:∃ n,M.length=n:=⟨_,rfl⟩
     rw [hMn] at hn
     rw [if_neg (show ¬ ¬ (2:Int)=2 from fun h=>h rfl),if_neg (show ¬ ¬ (2:Int)=2 from fun h=>h rfl),hMn]
     obtain ⟨s,Af,Ac⟩:=Aop (fuel:=fuel) (p:=2) (T:=T) (L:=L) hn.2 hl hf
     rw [Af]
     simp only [Option.bind_some]
     by_cases hT:T.length=n
     · obtain ⟨ex,h1,h2⟩:=Aq7 (fuel:=fuel) (T:=T) hMn (by omega) hf
       rw [if_neg (show ¬ ¬ (T.length:Int)=(n:Int) from fun h=>h (by omega)),h1]
       simp only [Option.bind_some]
       rcases h2 with ⟨rfl,h2⟩ | ⟨rfl,h2⟩
       · obtain ⟨ex,h3,h4⟩:=Auz (fuel:=fuel) (L:=L) hMn hn.2 hl hf
         simp only []
         rw [h3]
         simp only [Option.bind_some]
         rcases h4 with ⟨rfl,h4⟩ | ⟨rfl,h4⟩
         · by_cases hb:AOs L=n
           · obtain rfl:s=true:=Ac.2 ⟨hT,h2,h4,hb⟩
             have hTt:=Ats hT (Aol (T:=T) (n:=n) h2)
             have hMt:=Aaq R
             obtain ⟨v,hv,Aq,hj,hd⟩:=Acd (fuel:=fuel) R pr2 (by decide) hf
             obtain ⟨k,hk,hq,Ai,Ad⟩:=Aom R (by decide) (by decide) hv
             rw [hk] at hj hd
             have Aj:=Aaw (p:=2) (by decide) hq
             have hP:AIl fuel M 2=some ((k:Int),0):=by
               unfold AIl AQ6
               rw [hr]
               simp only [Option.bind_some,Bool.not_true,Bool.false_eq_true,reduceIte,not_true_eq_false]
               rw [hj]
               rfl
             simp only [Bool.not_true,Bool.false_eq_true,reduceIte]
             rw [if_neg (show ¬ ¬ ((AOs L:Nat):Int)=(n:Int) from fun h=>h (by omega)),hP]
             simp only [Option.bind_some]
             rw [hMn] at hMt
             rw [hMt] at hd
             rw [hMt,hTt]
             have hsm:=Aq6 h4
             have hll:=Ai6 h4
             obtain ⟨c,h5,h6⟩:=Aks (fuel:=fuel) (A:=ent M) (T:=ent T) (L:=L) hn.1 hn.2 Aj (Ad rfl) hsm hb (by omega) hg
             obtain ⟨d,h9,Ap⟩:=Akr (fuel:=fuel) (A:=ent M) (T:=ent T) (L:=L) hn.1 hn.2 hd (show (2:Int)<=2 by decide) hq Ai Ad hsm hb (by omega) (by decide) hf
             rw [h5,h9]
             simp only [Option.bind_some]
             have:c=d:=by rw [Bool.eq_iff_iff,h6,Ap]
             subst this
             cases c
             · exact ⟨10,rfl,rfl⟩
             · exact ⟨0,rfl,rfl⟩
           · have: ¬ s=true:=fun h=>hb (Ac.1 h).2.2.2
             rw [if_pos (show (!s)=true by simpa using this)]
             simp only []
             rw [if_pos (show ¬ ((AOs L:Nat):Int)=(n:Int) by omega)]
             exact ⟨3,rfl,rfl⟩
         · have: ¬ s=true:=fun h=>h4 (Ac.1 h).2.2
           rw [if_pos (show (!s)=true by simpa using this)]
           exact ⟨3,rfl,rfl⟩
       · have: ¬ s=true:=fun h=>h2 (Ac.1 h).2.1
         rw [if_pos (show (!s)=true by simpa using this)]
         exact ⟨3,rfl,rfl⟩
     · have: ¬ s=true:=fun h=>hT (Ac.1 h).1
       rw [if_pos (show (!s)=true by simpa using this),if_pos (show ¬ (T.length:Int)=(n:Int) by omega)]
       exact ⟨3,rfl,rfl⟩
   · rw [if_pos hp,if_pos hp];exact ⟨20,rfl,rfl⟩
theorem Aoq:isRed [[2,1],[1,2]]=true:=by
 unfold isRed
 rw [<- AIj (M:=[[2,1],[1,2]]) ⟨by decide,by decide,fun i j hi hj=>by
   have hi:i < 2:=hi
   have hj:j < 2:=hj
   rcases (by omega:i=0∨i=1) with rfl | rfl <;> rcases (by omega:j=0∨j=1) with rfl | rfl <;> decide⟩]
 decide +kernel
theorem Adt:AD2 (AFa + 1)=some true:=by
 have Ab:100 < AFa + 1:=Nat.lt_of_le_of_lt (by decide) (Nat.lt_succ_self AFa);have R:=(AX7 _).1 Aoq;have hd:det 2 (ent [[2,1],[1,2]])=3:=by decide +kernel
 obtain ⟨v,h1,h2,h3,h4⟩:=Acd (fuel:=AFa + 1) R (p:=2) pr2 (by omega) Ab;obtain rfl:v=0:=Ai0 (p:=2) (d:=3) (by omega) (by simpa [hd] using h1) ⟨0,3,rfl,by decide,by decide⟩;rw [if_pos rfl] at h3;unfold AD2 AHc AIl AQ6;simp only [Aoq,h3,Option.bind_some,Bool.not_true,Bool.false_eq_true,reduceIte];decide +kernel
theorem Acf {fuel:Nat} {M:List (List Int)} (hf:100 < fuel):Ok (AGw fuel M) fun _=>True:=by
 unfold AGw;refine AB7 (fun _=>ABn trivial) fun h=>ABs (APy (n:=M.length) (fun i=> ∀ z,M[i]? =some z->¬ 12 < z.length) true (by omega) (fun i hi=>?_) ?_) fun ex hex=>?_
 ·obtain ⟨z,hz⟩:∃ z,M[i]? =some z:=⟨M[i],List.getElem?_eq_getElem hi⟩;unfold AIo;rw [if_pos (by omega),AE5 hz];exact AB7 (fun h=>ABn (.inr ⟨rfl,fun h2=>h2 z hz (by omega)⟩)) fun h=>ABn (.inl ⟨by rw [ADr (by omega)],fun y hy=>by rw [hz] at hy;cases hy;omega⟩)
 ·unfold AIo;rw [if_neg (by omega)]
 ·rcases hex with ⟨rfl,_⟩ | ⟨rfl,_⟩
  ·exact ABn trivial
  ·exact ABn trivial
theorem Aax {g kd p:Int} {Z Y:List Int} {M T:List (List Int)} {L:List AIp} {made:Bool} (hg:0<=g/\g < 256) (hM:Afs M):AIf (AFa + 1) M g kd Z Y p T L made=some true:=by
 have hf:AFa < AFa + 1:=Nat.lt_succ_self _;have Aa:100 < AFa + 1:=Nat.lt_of_le_of_lt (by decide) hf;have Ad:2147483648 < AFa + 1:=Nat.lt_of_le_of_lt (by decide) hf;apply ok_eq;unfold AIf;have aw:Ok (AD2 (AFa + 1)) (· =true):=⟨true,Adt,rfl⟩;refine ABs (Q:=fun ex=>ex= .inl true∨(ex= .inr ()/\L.length<=20)) ?_ fun ex hex=>?_
 ·refine ABs (Acf Aa) fun l _=>AB7 (fun _=>ABs aw fun x hx=>ABn (.inl (by rw [hx]))) fun _=>ABs (Acf Aa) fun l _=>AB7 (fun _=>ABs aw fun x hx=>ABn (.inl (by rw [hx]))) fun _=>AB7 (fun _=>ABs aw fun x hx=>ABn (.inl (by rw [hx]))) fun h=>ABn (.inr ⟨rfl,by omega⟩)
 rcases hex with rfl | ⟨rfl,hl⟩
 ·exact ABn rfl
 have key:∀ (M:List (List Int)) (p:Int),Afs M->Ok ((AHc (AFa + 1) M p T L).bind fun Ae=>((AE1 (AFa + 1) M p T L).bind fun Af=>(if Ae=Af then ((AD2 (AFa + 1)).bind fun Ag=>(some Ag)) else (some false)))) (· =true):=fun M p hM=>by
   obtain ⟨r,h1,h2⟩:=Akt (p:=p) (T:=T) (L:=L) hM hl Ad
   rw [h1,h2]
   exact AB7 (fun _=>ABs aw fun x hx=>ABn hx) fun h=>absurd rfl h
 refine AB7 (fun _=>ABs (Atg hg (by decide) hf) fun h hh=>?_) fun _=>key M p hM;obtain ⟨n,A,rfl,h1,h2,R,-⟩:=hh;exact key _ 2 (Aoc (by omega) R)
end Go.Proofs.YtdnbklmefmoofaaGreatDoor
