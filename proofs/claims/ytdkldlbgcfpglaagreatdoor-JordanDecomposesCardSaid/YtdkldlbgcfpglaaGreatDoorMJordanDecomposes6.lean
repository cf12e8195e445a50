/-
  Texts of a proof, joined. Conditions stand in each statement.
-/
import Derived.Test.YtdkldlbgcfpglaaGreatDoorMJordanDecomposes5
set_option linter.unusedVariables false
set_option linter.unusedSimpArgs false
namespace Go.Proofs.YtdkldlbgcfpglaaGreatDoor
open Go Go.QF
set_option maxRecDepth 100000
set_option maxHeartbeats 4000000
def ANx (fuel:Nat) (a1 a2:Int):Option Int:=
  (if a2≠0 then (if a2≠0 then (some (Int.tmod (w64 ((Int.tmod a1 a2) + a2)) a2)) else none) else none)
theorem ARo {fuel:Nat} {h:Zu} {a1 a2 r:Int} (hp:ANx fuel a1 a2=some r):AAv Tryz.prog 102 #[(.int .i64 a1),(.int .i64 a2)] h (fun x h'=>Ext h h'/\x= .int .i64 r):=by
 unfold ANx at hp;refine cwf (l:=[_,_]) Tryz.func102 rfl rfl (Zn (AA4 (Zj (Zj ?_))));obtain ⟨Ac,Ad⟩:=ifN hp;refine ADc rfl rfl Ac (Zj (AA0 rfl rfl (Zj ?_)));obtain ⟨Ae,Af⟩:=ifN Ad;refine ADc rfl rfl Ae (Zt (Zw ?_));obtain rfl:=Zl Af;exact ⟨_,Zy,(Kst.k0 h).x,rfl⟩
def ASe (fuel:Nat) (Ac Aa Ab:Int):Option ((Int × Int) ⊕ ((Int × Int))):=
  (if (Int.tmod Aa 2)=0 then (if (Int.tmod Ac 8)=3 then (some (Sum.inl ((w64 (Int.tdiv Aa 2)),(w64 (0 - Ab))))) else (if (Int.tmod Ac 8)=5 then (some (Sum.inl ((w64 (Int.tdiv Aa 2)),(w64 (0 - Ab))))) else (some (Sum.inl ((w64 (Int.tdiv Aa 2)),Ab))))) else (some (Sum.inr<| (Aa,Ab))))
def ASf (fuel:Nat) (Ad Aa Ae:Int):Option ((Int × Int × Int) ⊕ ((Int × Int))):=
  (if ¬ Ad=0 then ((iter (fun s=>ASe fuel Aa s.1 s.2) fuel (Ad,Ae)).bind (fun ((Ab,Ac):Int × Int)=>(((if (Int.tmod Ab 4)=3 then (if (Int.tmod Aa 4)=3 then (some ( (w64 (0 - Ac)))) else (some ( Ac))) else (some ( Ac))):Option ((Int))).bind (fun (Af:Int)=>(if Ab≠0 then (some (Sum.inl ((Int.tmod Aa Ab),Ab,Af))) else none))))) else (some (Sum.inr<| (Aa,Ae))))
def ARp (fuel:Nat) (a1 a2:Int):Option Int:=
  ((iter (fun s=>ASf fuel s.1 s.2.1 s.2.2) fuel (a1,a2,1)).bind (fun ((Ac,Ad):Int × Int)=>(if ¬ Ac=1 then (some 0) else (some Ad))))
theorem AX5 {fuel:Nat} {h:Zu} {a1 a2 r:Int} (hp:ARp fuel a1 a2=some r):AAv Tryz.prog 103 #[(.int .i64 a1),(.int .i64 a2)] h (fun x h'=>Ext h h'/\x= .int .i64 r):=by
 unfold ARp at hp;refine cwf (l:=[_,_]) Tryz.func103 rfl rfl (Zn (AA4 (Zt (Zo (Zs ?_)))));have K0:=Kst.k0 h;refine AG4 137438953443 hp (fun x=>[(0,(.int .i64 x.1)),(1,(.int .i64 x.2.1)),(5,(.int .i64 x.2.2))]) (fun x=>K0.L) K0 ⟨rfl,rfl,rfl,trivial⟩ ?_;rintro ⟨u9,Ay,Bc⟩ Be h6 y5 K8 Ae Az;unfold ASf at Ae;refine Zo (Zn (Zj (ACk rfl rfl (Zr (⟨_,rfl,fun Af=>?_,fun Af=>?_⟩)))))
 ·refine Zv (q_t (Zs (Zo (Zs (AG4 8388385 (AA5 Ae Af) (fun x=>[(0,(.int .i64 x.1)),(5,(.int .i64 x.2))]) (fun x=>K8.L) K8 ⟨rfl,rfl,trivial⟩ ?_)))));rintro ⟨A3,Ag⟩ Bh Bi Bj Aa Ah A4;unfold ASe at Ah;refine Zo (Zn (Zj (ADc rfl rfl Zk (AB2 rfl rfl (Zr (⟨_,rfl,fun Ai=>?_,fun Ai=>?_⟩))))))
  ·refine Zv (q_t (Zs (Zn (Zj (AUx rfl rfl Zk (AA4 (Zj (ADc rfl rfl Zk (AB2 rfl rfl (Zj ?_))))))))));have Ar:=AA5 Ah Ai;by_cases Ac:(Int.tmod Ay 8)=3
   ·rw [decide_eq_true Ac];refine ADe 16 true (Z4 rfl (Zr (AAr rfl (AAa (Zj (AV9 rfl (AAl (AAn (q_b (q_t ?_))))))))));exact ⟨_,(Zl (ifT Ar Ac)).symm,Aa,rfl,rfl,trivial⟩
   ·have Au:=ifF Ar Ac;rw [decide_eq_false Ac];refine AAb 16 false (Zj (AAb 16 false (ADc rfl rfl Zk (AAb 16 false (AB2 rfl rfl (Zz rfl (Zr (⟨_,rfl,fun Aj=>?_,fun Aj=>?_⟩))))))))
    ·refine AAa (Zj (AV9 rfl (AAl (AAn (q_b (q_t ?_))))));exact ⟨_,(Zl (AA5 Au Aj)).symm,Aa,rfl,rfl,trivial⟩
    ·refine Zv (q_b (q_t ?_));exact ⟨_,(Zl (AA6 Au Aj)).symm,Aa,rfl,rfl,trivial⟩
  ·refine AAh (AAi (AAi (ABj (q_t ?_))));obtain ⟨A5,Av,A6⟩:=Zp (A4 _ (Zl (AA6 Ah Ai)).symm);refine AKb 8581546016 (fun x:(Int)=>[(5,(.int .i64 x))]) (fun x h'=>( x)=A5/\Kst h h' (Aa.L)) ?_ ?_
   ·refine Zn (Zj (ADc rfl rfl Zk (AB2 rfl rfl (Zj ?_))));by_cases Ad:(Int.tmod A3 4)=3
    ·have Aw:=ifT Av Ad;rw [decide_eq_true Ad];refine AAb 26 true (Zj (AAb 26 true (ADc rfl rfl Zk (AAb 26 true (AB2 rfl rfl (Z4 rfl (Zr (⟨_,rfl,fun Ak=>?_,fun Ak=>?_⟩))))))))
     ·refine AAa (Zj (AV9 rfl (Zt ?_)));exact ⟨((w64 (0 - Ag)):(Int)),⟨Zl (AA5 Aw Ak),Aa⟩,rfl,trivial⟩
     ·refine Zv (q_t ?_);exact ⟨(Ag:(Int)),⟨Zl (AA6 Aw Ak),Aa⟩,rfl,trivial⟩
    ·rw [decide_eq_false Ad];refine ADe 26 false (Zz rfl (Zr (AAw rfl (Zv (q_t ?_)))));exact ⟨(Ag:(Int)),⟨Zl (ifF Av Ad),Aa⟩,rfl,trivial⟩
   rintro Bl Bm Bn ⟨A7,A8⟩;subst A7;refine AAa (Zj (Zj ?_));obtain ⟨A9,Ba⟩:=ifN A6;refine ADc rfl rfl A9 (Zj (AAl (AAl (AAn (q_b (q_t ?_))))));exact ⟨_,(Zl Ba).symm,A8,rfl,rfl,rfl,trivial⟩
 ·refine AAh (AAi (AAi (ABj (q_t (Zo (Zn (Zj (ACk rfl rfl (Zr ?_)))))))));have Ax:=Az _ (Zl (AA6 Ae Af)).symm;refine ⟨_,rfl,fun Am=>?_,fun Am=>?_⟩
  ·refine Zn (Zt (Zw (AAc ?_)));obtain rfl:=Zl (AA5 Ax Am);exact ⟨_,Zy,K8.x,rfl⟩
  ·refine Zv (q_t (Zn (Zj (Zt (Zw ?_)))));obtain rfl:=Zl (AA6 Ax Am);exact ⟨_,Zy,K8.x,rfl⟩
def AP1 (fuel:Nat) (a1 Ab Aa:Int):Option ((Int × Int) ⊕ (((Int × Int)) ⊕ (Int × Int))):=
  (if (Int.tmod Ab 2)=0 then (if (Int.tmod a1 2)=0 then (some (Sum.inr<| Sum.inl <| (0,0))) else ((((ANx fuel a1 8).bind fun Ad=>(if Ad=3 then (some ( (w64 (0 - Aa)))) else (if Ad=5 then (some ( (w64 (0 - Aa)))) else (some ( Aa))))):Option ((Int))).bind (fun (Ae:Int)=>(some (Sum.inl ((w64 (Int.tdiv Ab 2)),Ae)))))) else (some (Sum.inr<| Sum.inr <| (Ab,Aa))))
def AO9 (fuel:Nat) (a1 a2:Int):Option (Int × Int):=
  (((if a1 < (-2147483647) then (some (Sum.inl <| (0,1))) else (if 2147483647 < a1 then (some (Sum.inl <| (0,1))) else (if a2 < (-2147483647) then (some (Sum.inl <| (0,1))) else (if 2147483647 < a2 then (some (Sum.inl <| (0,1))) else (some (Sum.inr <| ())))))):Option (((Int × Int)) ⊕ (Unit))).bind (fun ex=>match ex with | Sum.inl Ad=>(some Ad) | Sum.inr (_)=>(if a2=0 then (if a1=1 then (some (1,0)) else (if a1=(-1) then (some (1,0)) else (some (0,0)))) else (((if a2 < 0 then (if a1 < 0 then (some ( ((w64 (0 - a2)),(-1)))) else (some ( ((w64 (0 - a2)),1)))) else (some ( (a2,1)))):Option ((Int × Int))).bind (fun ((Ae,Af):Int × Int)=>((iter (fun s=>AP1 fuel a1 s.1 s.2) fuel (Ae,Af)).bind (fun ex=>match ex with | Sum.inl Ag=>(some Ag) | Sum.inr ((Ac,Ah))=>((ANx fuel a1 Ac).bind fun Ai=>((ARp fuel Ai Ac).bind fun Aj=>(some ((w64 (Ah * Aj)),0)))))))))))
theorem AVl {fuel:Nat} {h:Zu} {a1 a2:Int} {r:(Int × Int)} (hp:AO9 fuel a1 a2=some r):AAv Tryz.prog 53 #[(.int .i64 a1),(.int .i64 a2)] h (fun x h'=>Ext h h'/\x= .tuple #[.int .i64 r.1,.int .i64 r.2]):=by
 unfold AO9 at hp;refine cwf (l:=[_,_]) Tryz.func53 rfl rfl (Zn (AAl (Zt ?_)));have K0:=Kst.k0 h;obtain ⟨Bh,A3,Ad⟩:=Zp hp;refine AKb 4194096 (fun x:Unit=>[]) (fun x h'=>(Sum.inr <| ())=Bh/\Kst h h' (K0.L)) ?_ ?_
 ·refine Zn (Zj (AAu rfl rfl (Zj ?_)));by_cases Af:a1 < (-2147483647)
  ·rw [decide_eq_true Af];refine AGz 10 true (Z4 rfl (Zj (AGz 14 true (Z4 rfl (Zj (AGz 18 true (Z4 rfl (Zr (AAr rfl (Zn (AAl (Zt ?_))))))))))));obtain rfl:=Zl (ifT A3 Af);refine Zw (AAc ?_);obtain rfl:=Zl Ad;exact ⟨_,ABf,K0.x,rfl⟩
  ·have A4:=ifF A3 Af;rw [decide_eq_false Af];refine AAb 10 false (Zj (AAb 10 false (AGb rfl rfl (Zz rfl (Zj ?_)))));by_cases Ag:2147483647 < a1
   ·rw [decide_eq_true Ag];refine AGz 14 true (Z4 rfl (Zj (AGz 18 true (Z4 rfl (Zr (AAr rfl (Zn (AAl (Zt ?_)))))))));obtain rfl:=Zl (ifT A4 Ag);refine Zw (AAc ?_);obtain rfl:=Zl Ad;exact ⟨_,ABf,K0.x,rfl⟩
   ·have A5:=ifF A4 Ag;rw [decide_eq_false Ag];refine AAb 14 false (Zj (AAb 14 false (AAu rfl rfl (Zz rfl (Zj ?_)))));by_cases Ah:a2 < (-2147483647)
    ·rw [decide_eq_true Ah];refine AGz 18 true (Z4 rfl (Zr (AAr rfl (Zn (AAl (Zt ?_))))));obtain rfl:=Zl (ifT A5 Ah);refine Zw (AAc ?_);obtain rfl:=Zl Ad;exact ⟨_,ABf,K0.x,rfl⟩
    ·have A6:=ifF A5 Ah;rw [decide_eq_false Ah];refine AAb 18 false (Zj (AAb 18 false (AGb rfl rfl (Zz rfl (Zr (⟨_,rfl,fun Am=>?_,fun Am=>?_⟩))))))
     ·refine Zn (AAl (Zt ?_));obtain rfl:=Zl (AA5 A6 Am);refine Zw (AAc ?_);obtain rfl:=Zl Ad;exact ⟨_,ABf,K0.x,rfl⟩
     ·refine Zv (q_t ?_);exact ⟨(():Unit),⟨Zl (AA6 A6 Am),K0⟩,trivial⟩
 rintro ⟨⟩ B3 B4 ⟨Bi,Aa⟩;subst Bi;refine Zo (Zn (Zj (AB2 rfl rfl (Zr (⟨_,rfl,fun Ao=>?_,fun Ao=>?_⟩)))))
 ·refine Zo (Zn (Zj (AB2 rfl rfl (Zj ?_))));have A7:=AA5 Ad Ao;by_cases Ai:a1=1
  ·rw [decide_eq_true Ai];refine AGz 26 true (Z4 rfl (Zr (AAr rfl (Zn (AAl (Zt (Zw (AAc (AAc ?_)))))))));obtain rfl:=Zl (ifT A7 Ai);exact ⟨_,ABf,Aa.x,rfl⟩
  ·have A8:=ifF A7 Ai;rw [decide_eq_false Ai];refine AAb 26 false (Zj (AAb 26 false (AB2 rfl rfl (Zz rfl (Zr (⟨_,rfl,fun Ap=>?_,fun Ap=>?_⟩))))))
   ·refine Zn (AAl (Zt (Zw (AAc (AAc ?_)))));obtain rfl:=Zl (AA5 A8 Ap);exact ⟨_,ABf,Aa.x,rfl⟩
   ·refine Zv (q_t (Zn (AAl (Zt (Zw (AAc ?_))))));obtain rfl:=Zl (AA6 A8 Ap);exact ⟨_,ABf,Aa.x,rfl⟩
 ·refine Zv (q_t (Zn (Zt ?_)));obtain ⟨Bj,A9,Bl⟩:=Zp (AA6 Ad Ao);refine AKb 67645734978 (fun x:(Int) × (Int)=>[(1,(.int .i64 x.1)),(6,(.int .i64 x.2))]) (fun x h'=>( (x.1,x.2))=Bj/\Kst h h' (Aa.L)) ?_ ?_
  ·refine Zn (Zj (AAu rfl rfl (Zr (⟨_,rfl,fun Aq=>?_,fun Aq=>?_⟩))))
   ·refine Zn (Zj (AV9 rfl (AA4 (Zj (AAu rfl rfl (Zr ?_))))));have Ba:=AA5 A9 Aq;refine ⟨_,rfl,fun Ar=>?_,fun Ar=>?_⟩
    ·refine AAa (Zt ?_);exact ⟨(((w64 (0 - a2)),(-1)):(Int) × (Int)),⟨Zl (AA5 Ba Ar),Aa⟩,rfl,rfl,trivial⟩
    ·refine Zv (q_t ?_);exact ⟨(((w64 (0 - a2)),1):(Int) × (Int)),⟨Zl (AA6 Ba Ar),Aa⟩,rfl,rfl,trivial⟩
   ·refine Zv (q_t ?_);exact ⟨((a2,1):(Int) × (Int)),⟨Zl (AA6 A9 Aq),Aa⟩,rfl,rfl,trivial⟩
  rintro ⟨u64,B5⟩ B6 B7 ⟨Bm,Bb⟩;subst Bm;refine Zo (Zs (AG4 18014329790005490 Bl (fun x=>[(1,(.int .i64 x.1)),(6,(.int .i64 x.2))]) (fun x=>Bb.L) Bb ⟨rfl,rfl,trivial⟩ ?_));rintro ⟨B8,Au⟩ B9 Ca Cb Aj Av Bc;unfold AP1 at Av;refine Zo (Zn (Zj (ADc rfl rfl Zk (AB2 rfl rfl (Zr (⟨_,rfl,fun Aw=>?_,fun Aw=>?_⟩))))))
  ·refine Zv (q_t (Zs (Zo (Zn (Zj (ADc rfl rfl Zk (AB2 rfl rfl (Zr ?_))))))));have Be:=AA5 Av Aw;refine ⟨_,rfl,fun Ax=>?_,fun Ax=>?_⟩
   ·refine Zn (AAl (Zt (Zw (AAc (ABi (AAc (ABi (AAc ?_))))))));obtain rfl:=Zl (Bc _ (Zl (AA5 Be Ax)).symm);exact ⟨_,ABf,Aj.x,rfl⟩
   ·refine Zv (q_t ?_);obtain ⟨Bn,Bo,Bp⟩:=Zp (AA6 Be Ax);refine AKb 4499201580859584 (fun x:(Int)=>[(6,(.int .i64 x))]) (fun x h'=>( x)=Bn/\Kst h h' (Aj.L)) ?_ ?_
    ·refine Zn (Zj ?_);obtain ⟨Bq,Br,Bf⟩:=Zp Bo;refine ACl Aj (ARo Br) fun Cd Ce Ay=>AA4 (Zj (AB2 rfl rfl (Zj ?_)));by_cases Ak:Bq=3
     ·rw [decide_eq_true Ak];refine AGz 46 true (Z4 rfl (Zr (AAr rfl (AAa (Zj (AV9 rfl (Zt ?_)))))));exact ⟨((w64 (0 - Au)):(Int)),⟨Zl (ifT Bf Ak),Ay⟩,rfl,trivial⟩
     ·have Bg:=ifF Bf Ak;rw [decide_eq_false Ak];refine AAb 46 false (Zj (AAb 46 false (AB2 rfl rfl (Zz rfl (Zr (⟨_,rfl,fun Az=>?_,fun Az=>?_⟩))))))
      ·refine AAa (Zj (AV9 rfl (Zt ?_)));exact ⟨((w64 (0 - Au)):(Int)),⟨Zl (AA5 Bg Az),Ay⟩,rfl,trivial⟩
      ·refine Zv (q_t ?_);exact ⟨(Au:(Int)),⟨Zl (AA6 Bg Az),Ay⟩,rfl,trivial⟩
    rintro Cf Cg Ch ⟨Bt,Bu⟩;subst Bt;refine AAa (Zj (AUx rfl rfl Zk (AAl (AAn (q_b (q_t ?_))))));exact ⟨_,(Zl Bp).symm,Bu,rfl,rfl,trivial⟩
  ·refine AAh (AAi (AAi (ABj (q_t (Zn (Zj (Zj (Zj ?_))))))));obtain ⟨Ci,Bv,Bw⟩:=Zp (Bc _ (Zl (AA6 Av Aw)).symm);refine ACl Aj (ARo Bv) fun Cj Ck Bx=>Zj ?_;obtain ⟨Cm,By,Bz⟩:=Zp Bw;refine ACl Bx (AX5 By) fun Cn Co B1=>AL3 rfl rfl (AAl (Zt (Zw ?_)));obtain rfl:=Zl Bz;exact ⟨_,ABf,B1.x,rfl⟩
noncomputable def ANu (fuel:Nat) (a1:Int) (a8:(List AF5)) (Ae:(List AQn)) (Ad:Int):Option (((List AQn) × Int) ⊕ ((((List AQn) × Bool)) ⊕ ((List AQn)))):=
  (if Ad < (a8.length:Int) then ((gI a8 Ad).bind fun Aa=>(((if ¬ Aa.2.1=1 then (some (Sum.inl <| ([],false))) else (if Aa.1 < 0 then (some (Sum.inl <| ([],false))) else (if 60 < Aa.1 then (some (Sum.inl <| ([],false))) else (if ¬ Aa.2.2.2.1=0 then (some (Sum.inl <| ([],false))) else (if ¬ Aa.2.2.2.2=0 then (some (Sum.inl <| ([],false))) else (if a1≠0 then (if (Int.tmod Aa.2.2.1 a1)=0 then (some (Sum.inl <| ([],false))) else (some (Sum.inr <| ()))) else none)))))):Option ((((List AQn) × Bool)) ⊕ (Unit))).bind (fun ex=>match ex with | Sum.inl Ai=>(some (Sum.inr<| Sum.inl <| Ai)) | Sum.inr (_)=>(((if 0 < Ad then ((gI a8 (w64 (Ad - 1))).bind fun Aj=>(if Aa.1 < Aj.1 then (some (Sum.inl <| ([],false))) else (some (Sum.inr <| ())))) else (some (Sum.inr <| ()))):Option ((((List AQn) × Bool)) ⊕ (Unit))).bind (fun ex=>match ex with | Sum.inl Ak=>(some (Sum.inr<| Sum.inl <| Ak)) | Sum.inr (_)=>(((if Ad=0 then (if Ae.length<=100000000 then (some ( (Ae ++ [(Aa.1,0,1,false,0)]))) else none) else ((gI a8 (w64 (Ad - 1))).bind fun Am=>(if Am.1 < Aa.1 then (if Ae.length<=100000000 then (some ( (Ae ++ [(Aa.1,0,1,false,0)]))) else none) else (some ( Ae))))):Option (((List AQn)))).bind (fun (Ac:(List AQn))=>(if a1≠0 then ((AO9 fuel (Int.tmod Aa.2.2.1 a1) a1).bind fun (Ao,Ap)=>((gI Ac (w64 ((Ac.length:Int) - 1))).bind fun Ab=>((gI (sI Ac (w64 ((Ac.length:Int) - 1)) (Ab.1,(w64 (Ab.2.1 + 1)),Ab.2.2.1,Ab.2.2.2.1,Ab.2.2.2.2)) (w64 ((Ac.length:Int) - 1))).bind fun Ag=>(some (Sum.inl ((sI (sI Ac (w64 ((Ac.length:Int) - 1)) (Ab.1,(w64 (Ab.2.1 + 1)),Ab.2.2.1,Ab.2.2.2.1,Ab.2.2.2.2)) (w64 ((Ac.length:Int) - 1)) (Ag.1,Ag.2.1,(w64 (Ag.2.2.1 * Ao)),Ag.2.2.2.1,Ag.2.2.2.2)),(w64 (Ad + 1)))))))) else none)))))))) else (some (Sum.inr<| Sum.inr <| Ae)))
noncomputable def AJd (fuel:Nat) (a1:Int) (a4:LiI) (a8:(List AF5)):Option ((List AQn) × Bool):=
  ((((ALv fuel a1).bind fun Ac=>(if (!Ac)=true then (some (Sum.inl <| ([],false))) else (if (a8.length:Int) < 1 then (some (Sum.inl <| ([],false))) else (if 8 < (a8.length:Int) then (some (Sum.inl <| ([],false))) else (some (Sum.inr <| ())))))):Option ((((List AQn) × Bool)) ⊕ (Unit))).bind (fun ex=>match ex with | Sum.inl Ad=>(some Ad) | Sum.inr (_)=>((iter (fun s=>ANu fuel a1 a8 s.1 s.2) fuel ([],0)).bind (fun ex=>match ex with | Sum.inl Ae=>(some Ae) | Sum.inr (Af)=>(some (Af,true))))))
theorem ASr {fuel:Nat} {h:Zu} {a1:Int} {A6:Value} {a4:LiI} {A7:Value} {a8:(List AF5)} {r:((List AQn) × Bool)} (H3:AC5 (cI .i64) h A6 a4) (H7:SlC AOr h A7 a8) (HO:AU3 h) (hp:AJd fuel a1 a4 a8=some r):AAv Tryz.prog 19 #[(.agg #[(.int .i64 a1),A6,A7])] h (fun x h'=>Ext h h'/\ ∃ (x0:Value) (F0:List Nat),x= .tuple #[x0,.bool r.2]/\OwC AP5 48 h' F0 x0 r.1/\Sp h' h.size [F0]):=by
 unfold AJd at hp;refine cwf (l:=[_]) Tryz.func19 rfl rfl (Zn (AG8 (Kst.k0 h) [(.int .i64 a1),A6,A7] fun Ea Eb Ec Ao=>AAl (Zt ?_)));obtain ⟨Cn,Co,Ap⟩:=Zp hp;refine AKb 67107852 (fun x:Unit=>[]) (fun x h'=>(Sum.inr <| ())=Cn/\Kst h h' (Ao.L)) ?_ ?_
 ·refine Zn (ADa AKq AAk (Ao.b p0) 0 rfl ?_);obtain ⟨Cp,Cq,By⟩:=Zp Co;refine ACl Ao (ASa (HO.ext Ao.x) Cq) fun Ed Ee Ah=>ACt rfl (Zj ?_);cases Bz:(!Cp)
  ·refine AAb 14 false (ACh AKr rfl (AAb 14 false (AA7 AQj rfl ((Ah.b p0).cell (i:=2) rfl) (AAb 14 false (ABm AN5 rfl H7 (AAb 14 false (AAu rfl rfl (Zz rfl (Zj ?_)))))))));have B1:=AF9 By Bz;by_cases Aq:(a8.length:Int) < 1
   ·rw [decide_eq_true Aq];refine ADb 20 true (Z4 rfl (Zr (AAr rfl (Zn (AAl (Zt ?_))))));obtain rfl:=Zl (ifT B1 Aq);refine Zw (AAc ?_);have A9:=Kst.anil AP5 48 Ah;obtain rfl:=Zl Ap;exact ⟨_,ABf,A9.x,_,_,rfl,(A9.o p0),A9.s.sel [0] Zk⟩
   ·have B3:=ifF B1 Aq;rw [decide_eq_false Aq];refine AAb 20 false (ACh AKr rfl (AAb 20 false (AA7 AQj rfl ((Ah.b p0).cell (i:=2) rfl) (AAb 20 false (ABm AN5 rfl H7 (AAb 20 false (AGb rfl rfl (Zz rfl (Zr (⟨_,rfl,fun Ba=>?_,fun Ba=>?_⟩))))))))))
    ·refine Zn (AAl (Zt ?_));obtain rfl:=Zl (AA5 B3 Ba);refine Zw (AAc ?_);have Bb:=Kst.anil AP5 48 Ah;obtain rfl:=Zl Ap;exact ⟨_,ABf,Bb.x,_,_,rfl,(Bb.o p0),Bb.s.sel [0] Zk⟩
    ·refine Zv (q_t ?_);exact ⟨(():Unit),⟨Zl (AA6 B3 Ba),Ah⟩,trivial⟩
  ·refine ADb 14 true (Z4 rfl (Zj (ADb 20 true (Z4 rfl (Zr (AAr rfl (Zn (AAl (Zt ?_)))))))));obtain rfl:=Zl (ifT By Bz);refine Zw (AAc ?_);have Bc:=Kst.anil AP5 48 Ah;obtain rfl:=Zl Ap;exact ⟨_,ABf,Bc.x,_,_,rfl,(Bc.o p0),Bc.s.sel [0] Zk⟩
 rintro ⟨⟩ Ef Eg ⟨Cr,B4⟩;subst Cr;refine Zn (Zt (Zo (Zn (ADa AKr AQj (B4.b p0) 2 rfl (ABm AN5 rfl H7 (Zj (Zr (Zs ?_))))))));have B5:=Kst.anil AP5 48 B4;refine AFj 2722258935367507707706996859453608821756 (fun x:((List AQn)) × (Value) × LnA × (Int)=>(x.1,x.2.2.2)) (([],(.slice none 0 0),[],0):((List AQn)) × (Value) × LnA × (Int)) Ap (fun x=>[(4,x.2.1),(29,(.int .i64 x.2.2.2))]) (fun x=>B5.L.set 0 (aO AP5 48 x.2.2.1 x.2.1 x.1)) B5 ⟨rfl,rfl,trivial⟩ ?_;rintro ⟨Be,Ct,Cu,B6⟩ Eh Ei Ej Ai Bf Ad;unfold ANu at Bf;refine Zn (AAu rfl rfl (Zr (Zo (⟨_,rfl,fun Bg=>?_,fun Bg=>?_⟩))))
 ·refine Zv (q_t (Zo (Zs (Zn (Zj ?_)))));obtain ⟨Aa,Cv,Cw⟩:=Zp (AA5 Bf Bg);refine AIw (c:=AOr) AN5 rfl H7 rfl Cv fun Ek El Em Cx Cy=>?_;obtain rfl:=Cx;refine AN4 (c:=AOr) AKz rfl rfl (fun j u hu=>(AAx (Cy j u hu) Ai.x)) (AC1 Ai [(.int .i64 0),(.int .i64 0),(.int .i64 0),(.int .i64 0),(.int .i64 0)] AQ8 fun En Eo Ep B7=>AAl (AB8 [(.int .i64 Aa.1),(.int .i64 Aa.2.1),(.int .i64 Aa.2.2.1),(.int .i64 Aa.2.2.2.1),(.int .i64 Aa.2.2.2.2)] AKz rfl rfl rfl rfl (by simp [isOne]) (B7.b p0) fun Er Cz C0=>Zr ?_));have Ab:=B7.sb p0 C0 Cz rfl;obtain ⟨C1,B8,Ae⟩:=Zp Cw;refine AKb 36893488130239234060 (fun x:Unit=>[]) (fun x h'=>(Sum.inr <| ())=C1/\Kst h h' (Ab.L)) ?_ ?_
  ·refine Zn (ADa AXf ABt (Ab.b p0) 1 rfl (ACk rfl rfl (Zj ?_)));by_cases Ar: ¬ Aa.2.1=1
   ·rw [decide_eq_true Ar];refine ADe 37 true (Z4 rfl (Zj (ADe 42 true (Z4 rfl (Zj (ADe 47 true (Z4 rfl (Zj (ADe 52 true (Z4 rfl (Zj (ADq 57 true (AU2 57 true (Z4 rfl (Zr (AAr rfl (Zn (AAl (Zt ?_)))))))))))))))))));obtain rfl:=Zl (ifT B8 Ar);refine Zw (AAc (ABi (AAc (AAc (ABi (AAc ?_))))));have Bh:=Kst.anil AP5 48 Ab;obtain rfl:=Zl (Ad _ (Zl Ae).symm);exact ⟨_,ABf,Bh.x,_,_,rfl,(Bh.o p0),Bh.s.sel [0] Zk⟩
   ·have B9:=ifF B8 Ar;rw [decide_eq_false Ar];refine AAb 37 false (ACh AHl rfl (AAb 37 false (AA7 ABt rfl ((Ab.b p0).cell (i:=0) rfl) (AAb 37 false (AAu rfl rfl (Zz rfl (Zj ?_)))))));by_cases Au:Aa.1 < 0
    ·rw [decide_eq_true Au];refine ADe 42 true (Z4 rfl (Zj (ADe 47 true (Z4 rfl (Zj (ADe 52 true (Z4 rfl (Zj (ADq 57 true (AU2 57 true (Z4 rfl (Zr (AAr rfl (Zn (AAl (Zt ?_))))))))))))))));obtain rfl:=Zl (ifT B9 Au);refine Zw (AAc (ABi (AAc (AAc (ABi (AAc ?_))))));have Bi:=Kst.anil AP5 48 Ab;obtain rfl:=Zl (Ad _ (Zl Ae).symm);exact ⟨_,ABf,Bi.x,_,_,rfl,(Bi.o p0),Bi.s.sel [0] Zk⟩
    ·have Ca:=ifF B9 Au;rw [decide_eq_false Au];refine AAb 42 false (ACh AHl rfl (AAb 42 false (AA7 ABt rfl ((Ab.b p0).cell (i:=0) rfl) (AAb 42 false (AGb rfl rfl (Zz rfl (Zj ?_)))))));by_cases Av:60 < Aa.1
     ·rw [decide_eq_true Av];refine ADe 47 true (Z4 rfl (Zj (ADe 52 true (Z4 rfl (Zj (ADq 57 true (AU2 57 true (Z4 rfl (Zr (AAr rfl (Zn (AAl (Zt ?_)))))))))))));obtain rfl:=Zl (ifT Ca Av);refine Zw (AAc (ABi (AAc (AAc (ABi (AAc ?_))))));have Bj:=Kst.anil AP5 48 Ab;obtain rfl:=Zl (Ad _ (Zl Ae).symm);exact ⟨_,ABf,Bj.x,_,_,rfl,(Bj.o p0),Bj.s.sel [0] Zk⟩
     ·have Cb:=ifF Ca Av;rw [decide_eq_false Av];refine AAb 47 false (ACh ATt rfl (AAb 47 false (AA7 AAk rfl ((Ab.b p0).cell (i:=3) rfl) (AAb 47 false (ACk rfl rfl (Zz rfl (Zj ?_)))))));by_cases Aw: ¬ Aa.2.2.2.1=0
      ·rw [decide_eq_true Aw];refine ADe 52 true (Z4 rfl (Zj (ADq 57 true (AU2 57 true (Z4 rfl (Zr (AAr rfl (Zn (AAl (Zt ?_))))))))));obtain rfl:=Zl (ifT Cb Aw);refine Zw (AAc (ABi (AAc (AAc (ABi (AAc ?_))))));have Bl:=Kst.anil AP5 48 Ab;obtain rfl:=Zl (Ad _ (Zl Ae).symm);exact ⟨_,ABf,Bl.x,_,_,rfl,(Bl.o p0),Bl.s.sel [0] Zk⟩
      ·have Cd:=ifF Cb Aw;rw [decide_eq_false Aw];refine AAb 52 false (ACh AVr rfl (AAb 52 false (AA7 AAk rfl ((Ab.b p0).cell (i:=4) rfl) (AAb 52 false (ACk rfl rfl (Zz rfl (Zj ?_)))))));by_cases Ax: ¬ Aa.2.2.2.2=0
       ·rw [decide_eq_true Ax];refine ADq 57 true (AU2 57 true (Z4 rfl (Zr (AAr rfl (Zn (AAl (Zt ?_)))))));obtain rfl:=Zl (ifT Cd Ax);refine Zw (AAc (ABi (AAc (AAc (ABi (AAc ?_))))));have Bm:=Kst.anil AP5 48 Ab;obtain rfl:=Zl (Ad _ (Zl Ae).symm);exact ⟨_,ABf,Bm.x,_,_,rfl,(Bm.o p0),Bm.s.sel [0] Zk⟩
       ·rw [decide_eq_false Ax];refine AAb 57 false (ACh AM9 rfl (AAb 57 false (AA7 AAk rfl ((Ab.b p0).cell (i:=2) rfl) (AAb 57 false (ACh AKq rfl (AAb 57 false (AA7 AAk rfl ((Ab.b p2).cell (i:=0) rfl) (AAb 57 false ?_))))))));obtain ⟨C2,Ce⟩:=ifN (ifF Cd Ax);refine ADc rfl rfl C2 (AAb 57 false (AB2 rfl rfl (Zz rfl (Zr (⟨_,rfl,fun Bn=>?_,fun Bn=>?_⟩)))))
        ·refine Zn (AAl (Zt ?_));obtain rfl:=Zl (AA5 Ce Bn);refine Zw (AAc (ABi (AAc (AAc (ABi (AAc ?_))))));have Bo:=Kst.anil AP5 48 Ab;obtain rfl:=Zl (Ad _ (Zl Ae).symm);exact ⟨_,ABf,Bo.x,_,_,rfl,(Bo.o p0),Bo.s.sel [0] Zk⟩
        ·refine Zv (q_t ?_);exact ⟨(():Unit),⟨Zl (AA6 Ce Bn),Ab⟩,trivial⟩
  rintro ⟨⟩ Es Et ⟨C3,Af⟩;subst C3;obtain ⟨C4,Cf,Cg⟩:=Zp Ae;refine AKb 604426016319167168249868 (fun x:Unit=>[]) (fun x h'=>(Sum.inr <| ())=C4/\Kst h h' (Af.L)) ?_ ?_
  ·refine Zo (AF8 (Zj (AGb rfl rfl (Zj ?_))));by_cases Ay:0 < B6
   ·rw [decide_eq_true Ay];refine AAb 67 true (ACh AHl rfl (AAb 67 true (AA7 ABt rfl ((Af.b p0).cell (i:=0) rfl) (AAb 67 true (ACh AKr rfl (AAb 67 true (AA7 AQj rfl ((Af.b p2).cell (i:=2) rfl) (AAb 67 true (Zj (AAb 67 true (AFg rfl rfl (AAb 67 true ?_))))))))))));obtain ⟨Eu,C5,Ch⟩:=Zp (ifT Cf Ay);refine AIw (c:=AOr) AN5 rfl H7 rfl C5 fun Ev Ew Ey C6 C7=>?_;obtain rfl:=C6;refine AAb 67 true (ACh AHl rfl (AAb 67 true (AA7 ABt rfl (AAx (C7 0 _ rfl) Af.x) (AAb 67 true (AAu rfl rfl (Z4 rfl (Zr (⟨_,rfl,fun Bp=>?_,fun Bp=>?_⟩))))))))
    ·refine Zn (AAl (Zt ?_));obtain rfl:=Zl (AA5 Ch Bp);refine Zw (AAc (ABi (AAc (AAc (ABi (AAc ?_))))));have Bq:=Kst.anil AP5 48 Af;obtain rfl:=Zl (Ad _ (Zl Cg).symm);exact ⟨_,ABf,Bq.x,_,_,rfl,(Bq.o p0),Bq.s.sel [0] Zk⟩
    ·refine Zv (q_t ?_);exact ⟨(():Unit),⟨Zl (AA6 Ch Bp),Af⟩,trivial⟩
   ·rw [decide_eq_false Ay];refine ADq 67 false (ADq 67 false (Zz rfl (Zr (AAw rfl (Zv (q_t ?_))))));exact ⟨(():Unit),⟨Zl (ifF Cf Ay),Af⟩,trivial⟩
  rintro ⟨⟩ Ez Fa ⟨C8,Ac⟩;subst C8;obtain ⟨C9,Ci,Da⟩:=Zp Cg;refine AKb 633824695651204893433764249616 (fun x:((List AQn)) × (Value) × LnA=>[(4,x.2.1)]) (fun x h'=>( x.1)=C9/\Kst h h' (Ac.L.set 1 (aO AP5 48 x.2.2 x.2.1 x.1))) ?_ ?_
  ·refine Zo (AF8 (Zj (AB2 rfl rfl (Zj ?_))));by_cases Az:B6=0
   ·rw [decide_eq_true Az];refine ADq 81 true (ADq 81 true (Z4 rfl (Zr (AAr rfl (AAa (Zj (ADa AHl ABt (Ac.b p0) 0 rfl (ADl (v:=(.agg #[(.int .i64 Aa.1),(.int .i64 0),(.int .i64 1),(.bool false),(.int .i64 0)])) (fun _=>by kernel_rfl) ?_))))))));obtain ⟨Db,Dc⟩:=ifN (ifT Ci Az);refine ALo AWc Ag2 rfl rfl trivial tt2 (fun _=>rfl) rfl (show (AP5).rep _ (Aa.1,0,1,false,0) [(.int .i64 Aa.1),(.int .i64 0),(.int .i64 1),(.bool false),(.int .i64 0)] from rfl) (Ac.o p1) Zk Db fun Fb Dd De Fc Df Dg Dh=>Zt ?_;exact ⟨(((Be ++ [(Aa.1,0,1,false,0)]),De,Dd):((List AQn)) × (Value) × LnA),⟨Zl Dc,(Ac.uo p1 Dg Df Dh)⟩,rfl,trivial⟩
   ·rw [decide_eq_false Az];refine AAb 81 false (ACh AHl rfl (AAb 81 false (AA7 ABt rfl ((Ac.b p0).cell (i:=0) rfl) (AAb 81 false (ACh AKr rfl (AAb 81 false (AA7 AQj rfl ((Ac.b p2).cell (i:=2) rfl) (AAb 81 false (Zj (AAb 81 false (AFg rfl rfl (AAb 81 false ?_))))))))))));obtain ⟨Fd,Di,Cj⟩:=Zp (ifF Ci Az);refine AIw (c:=AOr) AN5 rfl H7 rfl Di fun Fe Ff Fg Dj Dk=>?_;obtain rfl:=Dj;refine AAb 81 false (ACh AHl rfl (AAb 81 false (AA7 ABt rfl (AAx (Dk 0 _ rfl) Ac.x) (AAb 81 false (AGb rfl rfl (Zz rfl (Zr (⟨_,rfl,fun Br=>?_,fun Br=>?_⟩))))))))
    ·refine AAa (Zj (ADa AHl ABt (Ac.b p0) 0 rfl (ADl (v:=(.agg #[(.int .i64 Aa.1),(.int .i64 0),(.int .i64 1),(.bool false),(.int .i64 0)])) (fun _=>by kernel_rfl) ?_)));obtain ⟨Dl,Do⟩:=ifN (AA5 Cj Br);refine ALo AWc Ag2 rfl rfl trivial tt2 (fun _=>rfl) rfl (show (AP5).rep _ (Aa.1,0,1,false,0) [(.int .i64 Aa.1),(.int .i64 0),(.int .i64 1),(.bool false),(.int .i64 0)] from rfl) (Ac.o p1) Zk Dl fun Fh Dp Dq Fi Dr Ds Dt=>Zt ?_;exact ⟨(((Be ++ [(Aa.1,0,1,false,0)]),Dq,Dp):((List AQn)) × (Value) × LnA),⟨Zl Do,(Ac.uo p1 Ds Dr Dt)⟩,rfl,trivial⟩
    ·refine Zv (q_t ?_);exact ⟨((Be,Ct,Cu):((List AQn)) × (Value) × LnA),⟨Zl (AA6 Cj Br),Ac⟩,rfl,trivial⟩
  rintro ⟨Fj,Fk,Fl⟩ Fm Fo ⟨Du,A3⟩;subst Du;refine Zo (AF8 (ADa AM9 AAk (A3.b p0) 2 rfl (ADa AKq AAk (A3.b p2) 0 rfl ?_)));obtain ⟨Dv,Dw⟩:=ifN Da;refine ADc rfl rfl Dv (ADa AKq AAk (A3.b p2) 0 rfl ?_);obtain ⟨⟨Dx,Fp⟩,Dy,Ck⟩:=Zp Dw;dsimp only at Ck;refine ACl A3 (AVl Dy) fun Fq Fr Aj=>Zj (ABl rfl rfl (ABl rfl rfl (AAl (AA4 (Zj (Zj (ABm AWc rfl (Aj.o p1).rd (AFg rfl rfl ?_))))))));obtain ⟨Ak,Bt,Dz⟩:=Zp Ck;refine AXd AWc rfl (Aj.o p1) rfl Bt fun Ft A4=>AA4 (Zj (ACy rfl (ACh Air rfl ?_)));obtain ⟨Fu,D0,D1⟩:=(Aj.o p1).cells A4 Bt;obtain rfl:=D0;refine AA7 ABt rfl (D1 1 _ rfl) (AA0 rfl rfl (ACy rfl (ACh Air rfl (Anh (c:=AP5) (a':=(Ak.1,(w64 (Ak.2.1 + 1)),Ak.2.2.1,Ak.2.2.2.1,Ak.2.2.2.2)) ABt rfl rfl rfl Zk (Aj.o p1) A4 Bt (fun _ q=>by cases q;rfl) fun Fv D2 D3=>Zr (AAa (Zj (ACy rfl (ACh Ais rfl ?_))))))));have Bu:=Aj.uO p1 D3 D2;obtain ⟨Am,Cm,D4⟩:=Zp Dz;obtain ⟨Fw,D5,D6⟩:=(Bu.o p1).cells A4 Cm;obtain rfl:=D5;refine AA7 ABt rfl (D6 2 _ rfl) (Zj (AL3 rfl rfl (ACy rfl (ACh Ais rfl (Anh (c:=AP5) (a':=(Am.1,Am.2.1,(w64 (Am.2.2.1 * Dx)),Am.2.2.2.1,Am.2.2.2.2)) ABt rfl rfl rfl Zk (Bu.o p1) A4 Cm (fun _ q=>by cases q;rfl) fun Fx D7 D8=>AAn (q_b (q_t (AAa (AA0 rfl rfl (Zj (Zr ?_)))))))))));exact ⟨(_,_,_,_),(Zl D4).symm,(Bu.uO p1 D8 D7).sel [1,2] Zk,rfl,rfl,trivial⟩
 ·refine AAh (AAi (AAi (ABj (q_t (Zn (Zj (AAl (Zt (Zw ?_)))))))));obtain rfl:=Zl (Ad _ (Zl (AA6 Bf Bg)).symm);exact ⟨_,ABf,Ai.x,_,_,rfl,(Ai.o p0),Ai.s.sel [0] Zk⟩
noncomputable def AG2 (fuel:Nat):Option Bool:=
  ((AJd fuel 3 ([([1,4]:List Int),([0,1]:List Int)]:List LiA) ([(0,1,2,0,0),(1,1,2,0,0)]:List AF5)).bind fun (Aa,Ab)=>((ALw fuel ([([2,1]:List Int),([1,2]:List Int)]:List LiA) 3).bind fun (Ac,Ad)=>(if Ab=true then (if Ac=2 then (if Ad=0 then ((AEf fuel ([([2,1]:List Int),([1,2]:List Int)]:List LiA) 3 ([([1,4]:List Int),([0,1]:List Int)]:List LiA) ([(0,1,2,0,0),(1,1,2,0,0)]:List AF5)).bind fun Ae=>(if Ae=0 then ((AKl fuel Aa ([(0,1,(-1),false,0),(1,1,(-1),false,0)]:List AQn)).bind fun Af=>(some Af)) else (some false))) else (some false)) else (some false)) else (some false))))
theorem ASs {fuel:Nat} {h:Zu} {r:Bool} (HO:AU3 h) (hp:AG2 fuel=some r):AAv Tryz.prog 13 #[] h (fun x h'=>Ext h h'/\x= .bool r):=by
 unfold AG2 at hp;refine cwf (l:=[]) Tryz.func13 rfl rfl (Zn (AA4 (AYj (κ:= .i64) [2,1] AAg AIu rfl rfl trivial tt2 rfl rfl rfl rfl fun b1 v2 h3 I4 E5 A6 A7=>AYj (κ:= .i64) [1,2] AAg AIu rfl rfl trivial tt2 rfl rfl rfl rfl fun A8 A9 Cv Ba Bb Bc Be=>?_)));have Ab:=((Kst.k0 h).no E5 (AE5 A6 A7) I4).no Bb (AE5 Bc Be) Ba;have Aq:=(((Ab.a0).grab p1).grab p0);refine AYm (c:=(cI .i64)) (el:=2) [[b1],[A8]] [v2,A9] [([2,1]:List Int),([1,2]:List Int)] AAf AMd rfl rfl trivial tt2 rfl rfl rfl rfl (AJz (Ab.o p1).isOne (AJz (Ab.o p0).isOne AVv)) ⟨(Ab.o p1),(Ab.o p0),trivial⟩ (by simpa using Aq.ndT) fun Cw Cx Cy Bf Bg Bh=>AA4 (AYj (κ:= .i64) [1,4] AAg AIu rfl rfl trivial tt2 rfl rfl rfl rfl fun Bi Bj Cz Bl Bm Bn Bo=>AYj (κ:= .i64) [0,1] AAg AIu rfl rfl trivial tt2 rfl rfl rfl rfl fun Bp Bq C0 Br Bt Bu Bv=>?_);have Ac:=((Aq.lit Bg Bf (by simpa using Bh)).no Bm (AE5 Bn Bo) Bl).no Bt (AE5 Bu Bv) Br;have Ar:=(((Ac.a0).grab p1).grab p0);refine AYm (c:=(cI .i64)) (el:=2) [[Bi],[Bp]] [Bj,Bq] [([1,4]:List Int),([0,1]:List Int)] AAf AMd rfl rfl trivial tt2 rfl rfl rfl rfl (AJz (Ac.o p1).isOne (AJz (Ac.o p0).isOne AVv)) ⟨(Ac.o p1),(Ac.o p0),trivial⟩ (by simpa using Ar.ndT) fun C1 Ae C2 Bw Bx By=>ADl (v:=(.agg #[(.int .i64 0),(.int .i64 1),(.int .i64 2),(.int .i64 0),(.int .i64 0)])) (fun _=>by kernel_rfl) (ADl (v:=(.agg #[(.int .i64 1),(.int .i64 1),(.int .i64 2),(.int .i64 0),(.int .i64 0)])) (fun _=>by kernel_rfl) (Ans AOr ([(0,1,2,0,0),(1,1,2,0,0)]:List AF5) [[(.int .i64 0),(.int .i64 1),(.int .i64 2),(.int .i64 0),(.int .i64 0)],[(.int .i64 1),(.int .i64 1),(.int .i64 2),(.int .i64 0),(.int .i64 0)]] [(0,(.agg #[(.int .i64 0),(.int .i64 1),(.int .i64 2),(.int .i64 0),(.int .i64 0)])),(1,(.agg #[(.int .i64 1),(.int .i64 1),(.int .i64 2),(.int .i64 0),(.int .i64 0)]))] AN5 AQ8 rfl trivial tt2 rfl rfl rfl Zx rfl (AZq (fun _=>rfl) (AZq (fun _=>rfl) Ai2)) fun C3 Af C4 Bz B1 B3 B4=>?_));have Ak:=(Ar.lit Bx Bw (by simpa using By)).no B1 (AE5 B3 B4) Bz;obtain ⟨_,_,_,B5⟩:=(Ak.o2 p1).rd.shape;obtain ⟨_,_,_,B6⟩:=(Ak.o p0).rd.shape;refine ADl (v:=(.agg #[(.int .i64 3),Ae,Af])) (fun _=>by subst B5;subst B6;kernel_rfl) (AC1 Ak [(.int .i64 0),(.slice none 0 0),(.slice none 0 0)] Ade fun C5 C6 C7 Ag=>AB8 [(.int .i64 3),Ae,Af] ANl rfl rfl rfl rfl (AJz rfl (AJz (Ag.o2 p2).isOne (AJz (Ag.o p1).isOne AVv))) (Ag.b p0) fun C8 B7 B8=>AH7 ?_);have Ad:=Ag.sb p0 B8 B7 rfl;refine ANd [(.int .i64 3),Ae,Af] ANl rfl rfl (Ad.b p0).agg ?_;obtain ⟨⟨C9,B9⟩,Ca,Au⟩:=Zp hp;dsimp only at Au;refine ANz rfl (ASr (Ad.o2 p2).rd (Ad.o p1).rd (HO.ext Ad.x) Ca) fun Da Db Cb Cd=>?_;obtain ⟨Dc,Dd,rfl,Ce,Cf⟩:=Cd;refine Zj (ABl rfl rfl (ABl rfl rfl (AAl (AA4 (Zj ?_)))));have Am:=Ad.no Cb Cf Ce;obtain ⟨⟨Cg,Ch⟩,Ci,Ao⟩:=Zp Au;dsimp only at Ao;refine ACl Am (AUn (Am.o2 p6).rd (HO.ext Am.x) Ci) fun De Df Aa=>Zj (ABl rfl rfl (ABl rfl rfl (AAl (AA4 (Zj (Zj ?_))))));cases Av:B9
 ·refine AGz 28 false (Zz rfl (Zj (AGz 32 false (Zz rfl (Zj (ADb 36 false (Zz rfl (Zj (ADq 42 false (Zz rfl (Zt (Zw ?_))))))))))));obtain rfl:=Zl (AF9 Ao Av);exact ⟨_,Zy,Aa.x,rfl⟩
 ·refine AAb 28 true (Zj (AAb 28 true (AB2 rfl rfl (Z4 rfl (Zj ?_)))));have Aw:=ifT Ao Av;by_cases Ah:Cg=2
  ·have Ax:=ifT Aw Ah;rw [decide_eq_true Ah];refine AAb 32 true (Zj (AAb 32 true (AB2 rfl rfl (Z4 rfl (Zj ?_)))));by_cases Ai:Ch=0
   ·rw [decide_eq_true Ai];refine AAb 36 true (Zj (AAb 36 true (ANd [(.int .i64 3),Ae,Af] ANl rfl rfl (Aa.b p1).agg (AAb 36 true ?_))));obtain ⟨Cj,Ck,Ay⟩:=Zp (ifT Ax Ai);refine ACl Aa (ARm (Aa.o2 p6).rd (Aa.o2 p3).rd (Aa.o p2).rd (HO.ext Aa.x) Ck) fun Dg Dh Az=>AAb 36 true (AB2 rfl rfl (Z4 rfl (Zj ?_)));by_cases Aj:Cj=0
    ·rw [decide_eq_true Aj];refine AAb 42 true (Zj (AAb 42 true (ADl (v:=(.agg #[(.int .i64 0),(.int .i64 1),(.int .i64 (-1)),(.bool false),(.int .i64 0)])) (fun _=>by kernel_rfl) (AAb 42 true (ADl (v:=(.agg #[(.int .i64 1),(.int .i64 1),(.int .i64 (-1)),(.bool false),(.int .i64 0)])) (fun _=>by kernel_rfl) (AAb 42 true (Ans AP5 ([(0,1,(-1),false,0),(1,1,(-1),false,0)]:List AQn) [[(.int .i64 0),(.int .i64 1),(.int .i64 (-1)),(.bool false),(.int .i64 0)],[(.int .i64 1),(.int .i64 1),(.int .i64 (-1)),(.bool false),(.int .i64 0)]] [(0,(.agg #[(.int .i64 0),(.int .i64 1),(.int .i64 (-1)),(.bool false),(.int .i64 0)])),(1,(.agg #[(.int .i64 1),(.int .i64 1),(.int .i64 (-1)),(.bool false),(.int .i64 0)]))] AWc Ag2 rfl trivial tt2 rfl rfl rfl Zx rfl (AZq (fun _=>rfl) (AZq (fun _=>rfl) Ai2)) fun Di Dj Dk Cm Cn Co Cp=>AAb 42 true ?_)))))));have Ap:=Az.no Cn (AE5 Co Cp) Cm;obtain ⟨Dl,Cq,Cr⟩:=Zp (ifT Ay Aj);refine ACl Ap (AQu (Ap.o p1).rd (Ap.o p0).rd Cq) fun Do Dp Ct=>Z4 rfl (Zt (Zw ?_));obtain rfl:=Zl Cr;exact ⟨_,Zy,Ct.x,rfl⟩
    ·rw [decide_eq_false Aj];refine ADq 42 false (Zz rfl (Zt (Zw ?_)));obtain rfl:=Zl (ifF Ay Aj);exact ⟨_,Zy,Az.x,rfl⟩
   ·rw [decide_eq_false Ai];refine ADb 36 false (Zz rfl (Zj (ADq 42 false (Zz rfl (Zt (Zw ?_))))));obtain rfl:=Zl (ifF Ax Ai);exact ⟨_,Zy,Aa.x,rfl⟩
  ·rw [decide_eq_false Ah];refine AGz 32 false (Zz rfl (Zj (ADb 36 false (Zz rfl (Zj (ADq 42 false (Zz rfl (Zt (Zw ?_)))))))));obtain rfl:=Zl (ifF Aw Ah);exact ⟨_,Zy,Aa.x,rfl⟩
noncomputable def AJe (fuel:Nat) (a5 Ao:Int) (Ag:LiI) (Ac Ad Ae Ab Aa:Int):Option ((Int × Int × Int × Int) ⊕ ((Int × Int) ⊕ (Int × Int × Int))):=
  (if (w64 (Aa + Ac)) < (Ag.length:Int) then ((((gI Ag Aa).bind fun Ap=>((gI Ap (w64 (Aa + Ac))).bind fun Ah=>(if Ah=0 then (some (Sum.inl <| (Ad,Ae,Ab))) else ((((AI5 fuel Ah a5).bind fun Af=>(if Ab < 0 then (some ( (Aa,(w64 (Aa + Ac)),Af.1))) else (if Af.1 < Ab then (some ( (Aa,(w64 (Aa + Ac)),Af.1))) else (some ( (Ad,Ae,Ab)))))):Option ((Int × Int × Int))).bind (fun ((Ai,Aj,Ak):Int × Int × Int)=>(if Ak=Ao then (some (Sum.inr <| (Ai,Aj))) else (some (Sum.inl <| (Ai,Aj,Ak))))))))):Option ((Int × Int × Int) ⊕ (Int × Int))).bind (fun ex=>match ex with | Sum.inl (Aq,Ar,Au)=>(some (Sum.inl (Aq,Ar,Au,(w64 (Aa + 1))))) | Sum.inr ((Av,Aw))=>(some (Sum.inr<| Sum.inl <| (Av,Aw))))) else (some (Sum.inr<| Sum.inr <| (Ad,Ae,Ab))))
noncomputable def AJf (fuel:Nat) (a5 Ag Ab:Int) (Ac:LiI) (Ad Ae Ah Aa:Int):Option ((Int × Int × Int × Int) ⊕ ((Int × Int))):=
  (if Aa < (w64 ((Ac.length:Int) - Ab)) then ((iter (fun s=>AJe fuel a5 Ag Ac Aa s.1 s.2.1 s.2.2.1 s.2.2.2) fuel (Ad,Ae,Ah,Ab)).bind (fun ex=>match ex with | Sum.inl (Ai,Aj)=>(some (Sum.inr<| (Ai,Aj))) | Sum.inr ((Ak,Am,Ao))=>(some (Sum.inl (Ak,Am,Ao,(w64 (Aa + 1))))))) else (some (Sum.inr<| (Ad,Ae))))
noncomputable def AIj (fuel:Nat) (Ad Ae Af:Int) (Ag:LiI) (Aa:Int) (Ab:LiI):Option ((Int × LiI) ⊕ ((LiI))):=
  (if Aa < (Ag.length:Int) then ((gI Ab Aa).bind fun Ac=>((gI Ac Ae).bind fun Ah=>((gI Ac Af).bind fun Ai=>(if Ad≠0 then (some (Sum.inl ((w64 (Aa + 1)),(sI Ab Aa (sI Ac Ae (Int.tmod (w64 (Ah + (w64 (1 * Ai)))) Ad)))))) else none)))) else (some (Sum.inr<| Ab)))
noncomputable def AIk (fuel:Nat) (Ad Ae Af:Int) (Ag:LiI) (Aa:Int) (Ab:LiI):Option ((Int × LiI) ⊕ ((LiI))):=
  (if Aa < (Ag.length:Int) then ((gI Ab Aa).bind fun Ac=>((gI Ac Ae).bind fun Ah=>((gI Ac Af).bind fun Ai=>(if Ad≠0 then (some (Sum.inl ((w64 (Aa + 1)),(sI Ab Aa (sI Ac Ae (Int.tmod (w64 (Ah + (w64 (1 * Ai)))) Ad)))))) else none)))) else (some (Sum.inr<| Ab)))
noncomputable def AEw (fuel:Nat) (Ac Ad Af:Int) (Ag:LiA) (Aa:Int) (Ab:LiI):Option ((Int × LiI) ⊕ ((LiI))):=
  (if Aa < (Ag.length:Int) then ((gI Ab Af).bind fun Ah=>((gI Ah Aa).bind fun Ai=>((gI Ab Ad).bind fun Ae=>((gI Ae Aa).bind fun Aj=>(if Ac≠0 then (some (Sum.inl ((w64 (Aa + 1)),(sI Ab Ad (sI Ae Aa (Int.tmod (w64 (Aj + (w64 (1 * Ai)))) Ac)))))) else none))))) else (some (Sum.inr<| Ab)))
noncomputable def ADp (fuel:Nat) (Ad Ae Af Aa:Int) (Ab Ac:LiI):Option ((Int × LiI × LiI) ⊕ ((LiI × LiI))):=
  (if Aa < 2 then (if Aa=0 then ((iter (fun s=>AIj fuel Ad Ae Af Ab s.1 s.2) fuel (0,Ab)).bind (fun (Ag:LiI)=>(some (Sum.inl ((w64 (Aa + 1)),Ag,Ac))))) else (if Aa=1 then ((iter (fun s=>AIk fuel Ad Ae Af Ac s.1 s.2) fuel (0,Ac)).bind (fun (Ah:LiI)=>(some (Sum.inl ((w64 (Aa + 1)),Ab,Ah))))) else none)) else (some (Sum.inr<| (Ab,Ac))))
noncomputable def AIl (fuel:Nat) (Ad Ae:Int) (Ah:LiI) (Aa:Int) (Ab:LiI):Option ((Int × LiI) ⊕ ((LiI))):=
  (if Aa < (Ah.length:Int) then ((gI Ab Aa).bind fun Ac=>((gI Ac Ae).bind fun Af=>((gI Ac Ad).bind fun Ai=>((gI (sI Ab Aa (sI Ac Ad Af)) Aa).bind fun Ag=>((gI Ag Ae).bind fun Aj=>(some (Sum.inl ((w64 (Aa + 1)),(sI (sI Ab Aa (sI Ac Ad Af)) Aa (sI Ag Ae Ai)))))))))) else (some (Sum.inr<| Ab)))
noncomputable def AIm (fuel:Nat) (Ad Ae:Int) (Ah:LiI) (Aa:Int) (Ab:LiI):Option ((Int × LiI) ⊕ ((LiI))):=
  (if Aa < (Ah.length:Int) then ((gI Ab Aa).bind fun Ac=>((gI Ac Ae).bind fun Af=>((gI Ac Ad).bind fun Ai=>((gI (sI Ab Aa (sI Ac Ad Af)) Aa).bind fun Ag=>((gI Ag Ae).bind fun Aj=>(some (Sum.inl ((w64 (Aa + 1)),(sI (sI Ab Aa (sI Ac Ad Af)) Aa (sI Ag Ae Ai)))))))))) else (some (Sum.inr<| Ab)))
noncomputable def AEx (fuel:Nat) (Ad Ae Aa:Int) (Ab Ac:LiI):Option ((Int × LiI × LiI) ⊕ ((LiI × LiI))):=
  (if Aa < 2 then (if Aa=0 then ((iter (fun s=>AIl fuel Ad Ae Ab s.1 s.2) fuel (0,Ab)).bind (fun (Af:LiI)=>(some (Sum.inl ((w64 (Aa + 1)),Af,Ac))))) else (if Aa=1 then ((iter (fun s=>AIm fuel Ad Ae Ac s.1 s.2) fuel (0,Ac)).bind (fun (Ag:LiI)=>(some (Sum.inl ((w64 (Aa + 1)),Ab,Ag))))) else none)) else (some (Sum.inr<| (Ab,Ac))))
noncomputable def AIn (fuel:Nat) (Aa Af Ag Ae Ah Ai:Int) (Aj:LiI) (Ab:Int) (Ac:LiI):Option ((Int × LiI) ⊕ ((LiI))):=
  (if Ab < (Aj.length:Int) then ((gI Ac Ab).bind fun Ad=>((gI Ad Ae).bind fun Ak=>((gI Ad Af).bind fun Am=>(if Aa≠0 then (some (Sum.inl ((w64 (Ab + 1)),(sI Ac Ab (sI Ad Ae (Int.tmod (w64 (Ak + (w64 ((Int.tmod (w64 (Aa - (Int.tmod (w64 ((w64 (Int.tdiv Ah Ag)) * Ai)) Aa))) Aa) * Am)))) Aa)))))) else none)))) else (some (Sum.inr<| Ac)))
noncomputable def AIo (fuel:Nat) (Aa Af Ag Ae Ah Ai:Int) (Aj:LiI) (Ab:Int) (Ac:LiI):Option ((Int × LiI) ⊕ ((LiI))):=
  (if Ab < (Aj.length:Int) then ((gI Ac Ab).bind fun Ad=>((gI Ad Ae).bind fun Ak=>((gI Ad Af).bind fun Am=>(if Aa≠0 then (some (Sum.inl ((w64 (Ab + 1)),(sI Ac Ab (sI Ad Ae (Int.tmod (w64 (Ak + (w64 ((Int.tmod (w64 (Aa - (Int.tmod (w64 ((w64 (Int.tdiv Ah Ag)) * Ai)) Aa))) Aa) * Am)))) Aa)))))) else none)))) else (some (Sum.inr<| Ac)))
noncomputable def AGo (fuel:Nat) (Aa Af Ag Ad Ah Ai:Int) (Aj:LiA) (Ab:Int) (Ac:LiI):Option ((Int × LiI) ⊕ ((LiI))):=
  (if Ab < (Aj.length:Int) then ((gI Ac Af).bind fun Ak=>((gI Ak Ab).bind fun Am=>((gI Ac Ad).bind fun Ae=>((gI Ae Ab).bind fun Ao=>(if Aa≠0 then (some (Sum.inl ((w64 (Ab + 1)),(sI Ac Ad (sI Ae Ab (Int.tmod (w64 (Ao + (w64 ((Int.tmod (w64 (Aa - (Int.tmod (w64 ((w64 (Int.tdiv Ah Ag)) * Ai)) Aa))) Aa) * Am)))) Aa)))))) else none))))) else (some (Sum.inr<| Ac)))
noncomputable def AEy (fuel:Nat) (Ad Ae Af Ag Ah Ai Aa:Int) (Ab Ac:LiI):Option ((Int × LiI × LiI) ⊕ ((LiI × LiI))):=
  (if Aa < 2 then (if Aa=0 then ((iter (fun s=>AIn fuel Ad Ae Af Ag Ah Ai Ab s.1 s.2) fuel (0,Ab)).bind (fun (Aj:LiI)=>(some (Sum.inl ((w64 (Aa + 1)),Aj,Ac))))) else (if Aa=1 then ((iter (fun s=>AIo fuel Ad Ae Af Ag Ah Ai Ac s.1 s.2) fuel (0,Ac)).bind (fun (Ak:LiI)=>(some (Sum.inl ((w64 (Aa + 1)),Ab,Ak))))) else none)) else (some (Sum.inr<| (Ab,Ac))))
noncomputable def AIp (fuel:Nat) (Ab Ac Ae:Int) (Aj:LiI) (Aa:Int) (Ad Af:LiI):Option ((Int × LiI × LiI) ⊕ ((LiI × LiI))):=
  (if Aa < (Ad.length:Int) then ((gI Ad Ac).bind fun Ak=>((gI Ak Aa).bind fun Ag=>(if Ae≠0 then ((gI Aj 0).bind fun Am=>((gI Am 0).bind fun Ah=>(if Ab≠0 then (if Ab≠0 then ((((iter (fun s=>AEy fuel Ab Ac Ae Aa Ag Ah s.1 s.2.1 s.2.2) fuel (0,Ad,Af)).bind (fun ((Ai,Ao):LiI × LiI)=>((gI Ai Ac).bind fun Ap=>((iter (fun s=>AGo fuel Ab Ac Ae Aa Ag Ah Ap s.1 s.2) fuel (0,Ai)).bind (fun (Aq:LiI)=>(some ( (Aq,Ao)))))))):Option (LiI × LiI)).bind fun (Ar,Au)=>(some (Sum.inl ((w64 (Aa + 1)),Ar,Au)))) else none) else none))) else none))) else (some (Sum.inr<| (Ad,Af))))
noncomputable def AFd (fuel:Nat) (a3:LiI) (a5 Ad Aq Aa:Int) (Ae Ah:LiI) (Ai:(List AF5)):Option ((Int × Int × LiI × LiI × (List AF5)) ⊕ ((LiI × LiI × (List AF5)))):=
  (if Aa < (a3.length:Int) then ((((((iter (fun s=>AJf fuel a5 Aq Aa Ae s.1 s.2.1 s.2.2.1 s.2.2.2) fuel (Aa,Aa,(-1),0)).bind (fun ((Ar,Au):Int × Int)=>(some ( (Ar,Au))))):Option (Int × Int)).bind fun (Ac,Af)=>(((if ¬ Ac=Af then ((((iter (fun s=>ADp fuel Ad Ac Af s.1 s.2.1 s.2.2) fuel (0,Ae,Ah)).bind (fun ((Ak,Av):LiI × LiI)=>((gI Ak Af).bind fun Aw=>((iter (fun s=>AEw fuel Ad Ac Af Aw s.1 s.2) fuel (0,Ak)).bind (fun (Ax:LiI)=>(some ( (Ax,Av)))))))):Option (LiI × LiI)).bind fun (Ay,Az)=>(some ( (Ay,Az)))) else (some ( (Ae,Ah)))):Option ((LiI × LiI))).bind (fun ((Aj,A3):LiI × LiI)=>((((gI Aj Ac).bind fun A4=>((gI Aj Aa).bind fun A5=>((iter (fun s=>AEx fuel Aa Ac s.1 s.2.1 s.2.2) fuel (0,(sI (sI Aj Aa A4) Ac A5),A3)).bind (fun ((A6,A7):LiI × LiI)=>(some ( (A6,A7))))))):Option (LiI × LiI)).bind fun (Am,A8)=>((gI Am Aa).bind fun A9=>((gI A9 Aa).bind fun Ba=>((AI5 fuel Ba a5).bind fun Ab=>((AI3 fuel a5 Ab.1).bind fun Bb=>((AJ8 fuel ([([Ab.2.2.1]:List Int)]:List LiA) Ad).bind fun (Bc,Bn)=>((iter (fun s=>AIp fuel Ad Aa Bb Bc s.1 s.2.1 s.2.2) fuel ((w64 (Aa + 1)),Am,A8)).bind (fun ((Be,Bf):LiI × LiI)=>(some ( (Ab.1,Ab.2.1,Ab.2.2.1,Ab.2.2.2.1,Ab.2.2.2.2,Be,Bf)))))))))))))):Option (Int × Int × Int × Int × Int × LiI × LiI)).bind fun (Ao,Bg,Bh,Bi,Bj,Bl,Bm)=>(if Ai.length<=100000000 then (some (Sum.inl (Ao,(w64 (Aa + 1)),Bl,Bm,(Ai ++ [(Ao,Bg,Bh,Bi,Bj)])))) else none)) else (some (Sum.inr<| (Ae,Ah,Ai))))
noncomputable def AJg (fuel:Nat) (a3:LiI) (Aa:Int) (Ac:LiI):Option ((Int × LiI) ⊕ ((LiI))):=
  (if Aa < (a3.length:Int) then (if 0<=(a3.length:Int)/\(a3.length:Int)<=100000000 then (if Ac.length<=100000000 then ((gI (Ac ++ [(List.replicate (Int.toNat (a3.length:Int)) (0:Int))]) Aa).bind fun Ad=>((gI Ad Aa).bind fun Ae=>(some (Sum.inl ((w64 (Aa + 1)),(sI (Ac ++ [(List.replicate (Int.toNat (a3.length:Int)) (0:Int))]) Aa (sI Ad Aa 1))))))) else none) else none) else (some (Sum.inr<| Ac)))
noncomputable def AG7 (fuel:Nat) (a3:LiI) (a5:Int):Option ((Int × LiI × (List AF5)) × Int):=
  ((AOd fuel a3).bind fun Ad=>(if (!Ad)=true then (some ((0,[],[]),6)) else ((ALv fuel a5).bind fun Ae=>(if (!Ae)=true then (some ((0,[],[]),20)) else ((ACw fuel a3 a5).bind fun Af=>((AI3 fuel a5 Af).bind fun Ac=>((AI4 fuel a3 Ac).bind fun (Ag,Ak)=>((iter (fun s=>AJg fuel a3 s.1 s.2) fuel (0,[])).bind (fun (Ah:LiI)=>((iter (fun s=>AFd fuel a3 a5 Ac s.1 s.2.1 s.2.2.1 s.2.2.2.1 s.2.2.2.2) fuel (0,0,Ag,Ah,[])).bind (fun ((Am,Ai,Aj):LiI × LiI × (List AF5))=>(some ((a5,Ai,Aj),0)))))))))))))
theorem AUp {fuel:Nat} {h:Zu} {Er:Value} {a3:LiI} {a5:Int} {r:((Int × LiI × (List AF5)) × Int)} (H2:AC5 (cI .i64) h Er a3) (HO:AU3 h) (hp:AG7 fuel a3 a5=some r):AAv Tryz.prog 14 #[Er,(.int .i64 a5)] h (fun x h'=>Ext h h'/\ ∃ (Et:Value) (Eu:Value) (Ev:List Nat) (He:List LnA) (Hf:List Value) (Ew:List Nat),x= .tuple #[.agg #[.int .i64 r.1.1,Et,Eu],.int .i64 r.2]/\ACs (cI .i64) 60 2 h' Ev He Hf Et r.1.2.1/\OwC AOr 59 h' Ew Eu r.1.2.2/\Sp h' h.size [Ev,Ew]):=by
 unfold AG7 at hp;refine cwf (l:=[_,_]) Tryz.func14 rfl rfl (Zn (AC1 (Kst.k0 h) [(.int .i64 0),(.slice none 0 0),(.slice none 0 0)] Ade fun b6 h7 E9 Ey=>Zt (Zo (Zn (Zj ?_)))));obtain ⟨Qm,Hg,Ez⟩:=Zp hp;refine ACl Ey (AWs (H2.ext Ey.x) Hg) fun Qn Qo Bp=>ACt rfl (Zr (⟨_,rfl,fun Cg=>?_,fun Cg=>?_⟩))
 ·refine Zn (ADl (v:=(.agg #[(.int .i64 0),(.slice none 0 0),(.slice none 0 0)])) (fun _=>by kernel_rfl) (AB8 [(.int .i64 0),(.slice none 0 0),(.slice none 0 0)] ANl rfl rfl rfl rfl (by simp [isOne]) (Bp.b p0) fun Qp Hh Hj=>Zt (Zw (AAc ?_))));have A7:=Kst.anil AOr 59 (Kst.anil2 (cI .i64) 60 2 (Bp.sb p0 Hj Hh rfl));obtain rfl:=Zl (ifT Ez Cg);exact ⟨_,AR2 ANl rfl rfl (A7.b p2),A7.x,_,_,_,_,_,_,rfl,(A7.o2 p1),(A7.o p0),A7.s.sel [1,0] Zk⟩
 ·refine Zv (q_t (Zo (Zn (Zj ?_))));obtain ⟨Qq,Hk,Fa⟩:=Zp (AF9 Ez Cg);refine ACl Bp (ASa (HO.ext Bp.x) Hk) fun Qr Qs A8=>ACt rfl (Zr (⟨_,rfl,fun Ch=>?_,fun Ch=>?_⟩))
  ·refine Zn (ADl (v:=(.agg #[(.int .i64 0),(.slice none 0 0),(.slice none 0 0)])) (fun _=>by kernel_rfl) (AB8 [(.int .i64 0),(.slice none 0 0),(.slice none 0 0)] ANl rfl rfl rfl rfl (by simp [isOne]) (A8.b p0) fun Qt Hl Hm=>Zt (Zw (AAc ?_))));have A9:=Kst.anil AOr 59 (Kst.anil2 (cI .i64) 60 2 (A8.sb p0 Hm Hl rfl));obtain rfl:=Zl (ifT Fa Ch);exact ⟨_,AR2 ANl rfl rfl (A9.b p2),A9.x,_,_,_,_,_,_,rfl,(A9.o2 p1),(A9.o p0),A9.s.sel [1,0] Zk⟩
  ·refine Zv (q_t (Zn (Zj (AA8 AAf rfl H2 (AA4 (Zj (Zj (Zj (Zj ?_)))))))));obtain ⟨Qu,Hn,Ho⟩:=Zp (AF9 Fa Ch);refine ACl A8 (AJa (H2.ext A8.x) (HO.ext A8.x) Hn) fun Qv Qw Hq=>?_;obtain ⟨Ba,Hr,Hs⟩:=Zp Ho;refine ACl Hq (AO2 Hr) fun Qx Qy Ht=>ADl (v:=(.agg #[(.int .i64 a5),(.int .i64 Ba),(.slice none 0 0),(.slice none 0 0)])) (fun _=>by kernel_rfl) (AG8 Ht [(.int .i64 a5),(.int .i64 Ba),(.slice none 0 0),(.slice none 0 0)] fun Hu Qz Q0 Ci=>AA4 (Zj (Zj (Zj (ACy rfl (ADa AO8 AAk (Ci.b p0) 1 rfl ?_))))));obtain ⟨⟨Hv,Q1⟩,Hw,Fb⟩:=Zp Hs;dsimp only at Fb;refine ANz rfl (AUo (H2.ext Ci.x) Hw) fun Q2 Q3 Hx Hy=>?_;obtain ⟨Ac,Hz,H5,Ia,rfl,Ib,Ic⟩:=Hy;refine Zj (ABl rfl rfl (ABl rfl rfl (ACy rfl (ACh AIi rfl ?_))));have Cj:=Ci.no2 Hx Ic Ib;refine AQh [(.int .i64 a5),(.int .i64 Ba),Ac,(.slice none 0 0)] AEz rfl rfl (Cj.o2 p0).isOne (Cj.b p1) (Nat.le_of_ble_eq_true rfl) rfl fun Q4 Id Ie=>Zr (Zo (Zn (Zj (Zj (Zr (Zs ?_))))));have Fc:=Kst.anil2 (cI .i64) 60 2 (Cj.sb p1 Ie Id rfl);refine AFj 295147887587166781696 (fun x:(Int) × (LiI) × (Value) × LnA × LnN × LvA=>(x.1,x.2.1)) ((0,[],(.slice none 0 0),[],[],[]):(Int) × (LiI) × (Value) × LnA × LnN × LvA) Fb (fun x=>[(44,(.int .i64 x.1))]) (fun x=>(Fc.L.set 0 (aO2 (cI .i64) 60 2 x.2.2.2.1 x.2.2.2.2.1 x.2.2.2.2.2 x.2.2.1 x.2.1)).set 2 (aB 80 Hu [(.int .i64 a5),(.int .i64 Ba),Ac,x.2.2.1])) Fc ⟨rfl,trivial⟩ ?_;rintro ⟨If,Ih,Ad,Ae,Ag,Ah⟩ Q6 Ck Q7 Bb Cm Ii;unfold AJg at Cm;refine Zn (AAu rfl rfl (Zr (Zo (⟨_,rfl,fun Cn=>?_,fun Cn=>?_⟩))))
   ·refine Zv (q_t (Zo (Zs (Zn (Zj (Zt (Zo (ACd (fun h'=>UpT (Ae ++ []) Ck h') Zx ?_))))))));have Bq:UpT (Ae ++ []) Ck Ck:=UpT.start (ACu (Bb.o2 p0).notD all_nil);refine Zj (Zj (ACy rfl (ACh AUe rfl (ACf AEz rfl Bq (fun h' hb=>((Bb.b p2).upT hb (Am5 (Bb.dj p2 p0 Zk) Am6)).cell (i:=3) rfl) (Zj ?_)))));obtain ⟨Ij,Ik⟩:=ifN (AA5 Cm Cn);refine AP6 (c:=(cI .i64)) (a:=0) AAg AIu rfl rfl (fun _=>rfl) rfl Bq (fun _ E=>Bq.thenE E) rfl rfl Zk Ij fun Q8 Q9 Rc Il Fd Im Io=>?_;have Fe:=Bq.thenE Fd;have Br:=Bb.no Fd (AE5 Im Io) Il;obtain ⟨Ip,Iq⟩:=ifN Ik;refine AXe AAf AMd rfl rfl Fe (fun _ U=>Fe.then U (ANf rfl)) (fun _=>rfl) rfl (Br.o p0) (Br.o2 p1) (Br.dj p0 p1 Zk) Zk Ip fun Rd Re Ir Rf Is It Iu=>ACy rfl (ACh AUe rfl ?_);have Co:=Br.m2 p0 p1 Zk It Is Iu;refine AQh [(.int .i64 a5),(.int .i64 Ba),Ac,Ir] AEz rfl rfl (Co.o2 p1).isOne (Co.b p3) (Nat.le_of_ble_eq_true rfl) rfl fun Rg Iv Iw=>Zr (AAa ?_);have Cp:=Co.sb p3 Iw Iv rfl;refine Zj (ACy rfl (ADa AUe AEz (Cp.b p3) 3 rfl (Zj ?_)));obtain ⟨Rh,Ff,Ix⟩:=Zp Iq;refine ABy AAf AA2 (Cp.o2 p1) Ff fun _ Ri Iy=>Zj ?_;obtain ⟨Rj,Iz,I0⟩:=Zp Ix;refine ALj (m:=If) Cp p1 AAg AAk Iy Ff Iz (fun _=>rfl) fun _ Rm I1=>AAn (q_b (q_t (AAa (AA0 rfl rfl (Zj (Zr ?_))))));exact ⟨(_,_,_,_,_,_),(Zl I0).symm,I1.sel [1,2,3,4] Zk,rfl,trivial⟩
   ·refine AAh (AAi (AAi (ABj (q_t (Zn (Zj (ADl (v:=(.agg #[(.int .i64 a5),(.slice none 0 0),(.slice none 0 0)])) (fun _=>by kernel_rfl) (AC1 Bb [(.int .i64 0),(.slice none 0 0),(.slice none 0 0)] Ade fun I2 Rn Ro Fg=>AB8 [(.int .i64 a5),(.slice none 0 0),(.slice none 0 0)] ANl rfl rfl rfl rfl (by simp [isOne]) (Fg.b p0) fun Rq I3 I6=>AH7 (Zt (Zo (Zo ?_)))))))))));refine AAa (Zj (Zj (Zr (Zs ?_))));have Fh:=Kst.anil AOr 59 (Fg.sb p0 I6 I3 rfl);refine AFj 154740143727431099539790848 (fun x:(Int) × (Int) × (LiI) × LnA × LnN × LvA × (LiI) × ((List AF5)) × (Value) × LnA=>(x.1,x.2.1,x.2.2.1,x.2.2.2.2.2.2.1,x.2.2.2.2.2.2.2.1)) ((0,0,Hv,Hz,H5,Ia,Ih,[],(.slice none 0 0),[]):(Int) × (Int) × (LiI) × LnA × LnN × LvA × (LiI) × ((List AF5)) × (Value) × LnA) (Ii _ (Zl (AA6 Cm Cn)).symm) (fun x=>[(10,(.int .i64 x.1)),(71,(.int .i64 x.2.1))]) (fun x=>(((Fh.L.set 3 (aO2 (cI .i64) 60 2 x.2.2.2.1 x.2.2.2.2.1 x.2.2.2.2.2.1 Ac x.2.2.1)).set 2 (aO2 (cI .i64) 60 2 Ae Ag Ah Ad x.2.2.2.2.2.2.1)).set 0 (aO AOr 59 x.2.2.2.2.2.2.2.2.2 x.2.2.2.2.2.2.2.2.1 x.2.2.2.2.2.2.2.1)).set 1 (aB 29 I2 [(.int .i64 a5),(.slice none 0 0),x.2.2.2.2.2.2.2.2.1])) Fh ⟨rfl,rfl,trivial⟩ ?_;rintro ⟨Rr,Cq,I7,Bc,Be,Bf,I9,Rs,Cr,Rt⟩ Ru Rv Rw Av Ct Ja;unfold AFd at Ct;refine Zn (AAu rfl rfl (Zr (Zo (⟨_,rfl,fun Cu=>?_,fun Cu=>?_⟩))))
    ·refine Zv (q_t (Zo (Zs (Zn (Zj (AA4 (Zj (Zj (Zj ?_)))))))));obtain ⟨Jc,Je,Jf⟩:=Zp (AA5 Ct Cu);refine AAy (K':=(fun xr h'=> ∃ x:(Int) × (Int) × (Int) × (Int) × (Int) × (LiI) × LnA × LnN × LvA × (LiI),(x.1,x.2.1,x.2.2.1,x.2.2.2.1,x.2.2.2.2.1,x.2.2.2.2.2.1,x.2.2.2.2.2.2.2.2.2)=Jc/\xr=(.agg #[(.int .i64 x.1),(.int .i64 x.2.1),(.int .i64 x.2.2.1),(.int .i64 x.2.2.2.1),(.int .i64 x.2.2.2.2.1)])/\Kst h h' ((Av.L.set 3 (aO2 (cI .i64) 60 2 x.2.2.2.2.2.2.1 x.2.2.2.2.2.2.2.1 x.2.2.2.2.2.2.2.2.1 Ac x.2.2.2.2.2.1)).set 2 (aO2 (cI .i64) 60 2 Ae Ag Ah Ad x.2.2.2.2.2.2.2.2.2)))) trivial rfl ?_ fun Rx Ry Jg=>?_
     ·refine cwf (l:=[_,_,_]) Tryz.func46 rfl rfl (Zn (AC1 Av [(.int .i64 0),(.int .i64 0),(.int .i64 0),(.int .i64 0),(.int .i64 0)] AQ8 fun Rz R3 R4 Bg=>AH7 (Zj (Zj (Zj ?_)))));obtain ⟨Jh,Ji,Jj⟩:=Zp Je;refine AAy (K':=(fun xr h'=> ∃ x:(Int) × (Int),(x.1,x.2)=Jh/\xr= .tuple #[(.int .i64 x.1),(.int .i64 x.2)]/\Kst h h' (Bg.L))) trivial rfl ?_ fun R5 R6 Jk=>?_
      ·refine cwf (l:=[_,_,_]) Tryz.func88 rfl rfl (Zn (AAl (Zt (Ah9 (Zn (Zj (ACy rfl (ADa AIi AEz (Bg.b p5) 2 rfl (AA8 AAf rfl (Bg.o2 p4).rd (AA4 (Zj (Zj (AAl (AAl (Zt (Zo ?_))))))))))))))));refine Aia (q_t (Zo (Zn (Zj (Zj (AFg rfl rfl (Zj (Zr (Zs (AG4 18889465931478513810944 Ji (fun x=>[(9,(.int .i64 x.1)),(10,(.int .i64 x.2.1)),(11,(.int .i64 x.2.2.1)),(26,(.int .i64 x.2.2.2))]) (fun x=>Bg.L) Bg ⟨rfl,rfl,rfl,rfl,trivial⟩ ?_))))))))));rintro ⟨Jl,Jm,R7,Fi⟩ R8 R9 Sa Cv Cw Fj;unfold AJf at Cw;refine Zn (AAu rfl rfl (Zr (Zo (⟨_,rfl,fun Cx=>?_,fun Cx=>?_⟩))))
       ·refine Zv (q_t (Zo (Zs (Zn (Zj (AA4 (Zj (Zt (Zs (AG4 9444732965738216746496 (AA5 Cw Cx) (fun x=>[(9,(.int .i64 x.1)),(10,(.int .i64 x.2.1)),(11,(.int .i64 x.2.2.1)),(13,(.int .i64 x.2.2.2))]) (fun x=>Cv.L) Cv ⟨rfl,rfl,rfl,rfl,trivial⟩ ?_))))))))));rintro ⟨Fk,Fl,Cy,Bh⟩ Sb Sc Sd Ak Cz Fm;unfold AJe at Cz;refine Zo (Zn (Zj (Zj (AA0 rfl rfl (Zj (AAu rfl rfl (Zr (⟨_,rfl,fun C0=>?_,fun C0=>?_⟩))))))))
        ·refine Zv (q_t ?_);obtain ⟨Jn,Jo,Fo⟩:=Zp (AA5 Cz C0);refine AKb 9444732965601851526656 (fun x:(Int) × (Int) × (Int)=>[(9,(.int .i64 x.1)),(10,(.int .i64 x.2.1)),(11,(.int .i64 x.2.2))]) (fun x h'=>(Sum.inl <| (x.1,x.2.1,x.2.2))=Jn/\Kst h h' (Ak.L)) ?_ ?_
         ·refine Zs (Zn (Zj (ACy rfl (ADa AIi AEz (Ak.b p5) 2 rfl (Zj ?_)))));obtain ⟨Se,Fp,Jp⟩:=Zp Jo;refine ABy AAf AA2 (Ak.o2 p4) Fp fun _ Sf Jq=>Zj (Zj (AA0 rfl rfl ?_));obtain ⟨Sg,Jr,Fq⟩:=Zp Jp;refine AIs (m:=Bh) AAg AAk (Ak.o2 p4) Jq Fp Jr fun _=>(Zt (Zo (Zn (Zj (AB2 rfl rfl (Zr (⟨_,rfl,fun C1=>?_,fun C1=>?_⟩)))))))
          ·refine AAh (AAi (ABj (q_t ?_)));exact ⟨((Fk,Fl,Cy):(Int) × (Int) × (Int)),⟨Zl (AA5 Fq C1),Ak⟩,rfl,rfl,rfl,trivial⟩
          ·refine Zv (q_t ?_);obtain ⟨Js,Jt,Fr⟩:=Zp (AA6 Fq C1);refine AKb 1180589368917597654528 (fun x:(Int) × (Int) × (Int)=>[(9,(.int .i64 x.1)),(10,(.int .i64 x.2.1)),(11,(.int .i64 x.2.2))]) (fun x h'=>( (x.1,x.2.1,x.2.2))=Js/\Kst h h' (Ak.L)) ?_ ?_
           ·refine Zn (Zj (Zj (ACy rfl (ADa Aeh AAk (Ak.b p5) 0 rfl ?_))));obtain ⟨C2,Ju,Ft⟩:=Zp Jt;refine ACl Ak (AO7 Ju) fun Sh Si C3=>Ata (u:=(.int .i64 C2.1)) (fun _=>by kernel_rfl) (AA4 (Zj (AAu rfl rfl (Zj ?_))));by_cases Bt:Cy < 0
            ·rw [decide_eq_true Bt];refine ADe 60 true (Z4 rfl (Zr (AAr rfl (AAa (Zj (Zj (Zj (AA0 rfl rfl (Zj (AAl (AAl (Zt ?_))))))))))));exact ⟨((Bh,(w64 (Bh + Fi)),C2.1):(Int) × (Int) × (Int)),⟨Zl (ifT Ft Bt),C3⟩,rfl,rfl,rfl,trivial⟩
            ·have Fu:=ifF Ft Bt;rw [decide_eq_false Bt];refine AAb 60 false (Zj (AAb 60 false (Zj (AAb 60 false (AAu rfl rfl (Zz rfl (Zr (⟨_,rfl,fun C4=>?_,fun C4=>?_⟩))))))))
             ·refine AAa (Zj (Zj (Zj (AA0 rfl rfl (Zj (AAl (AAl (Zt ?_))))))));exact ⟨((Bh,(w64 (Bh + Fi)),C2.1):(Int) × (Int) × (Int)),⟨Zl (AA5 Fu C4),C3⟩,rfl,rfl,rfl,trivial⟩
             ·refine Zv (q_t ?_);exact ⟨((Fk,Fl,Cy):(Int) × (Int) × (Int)),⟨Zl (AA6 Fu C4),C3⟩,rfl,rfl,rfl,trivial⟩
           rintro ⟨Fv,Fw,Jv⟩ Sj Sk ⟨Jw,Fx⟩;subst Jw;refine Zn (Zj (Zj (AB2 rfl rfl (Zr (⟨_,rfl,fun C5=>?_,fun C5=>?_⟩)))))
           ·obtain rfl:=Zl (AA5 Fr C5);refine AAh (AZd Zk (AAi (AAi (AZd Zk (AZd Zk (AAi (AAi (ABj (q_t (Zn (Zj (Zj (AAl (Zt (Zw (Alz (⟨_,ABf,((Fv,Fw):(Int) × (Int)),?_,rfl,?_⟩)))))))))))))))))
            ·exact Zl (Fj _ (Zl (Fm _ (Zl Fo).symm)).symm)
            ·exact Fx
           ·refine Zv (q_b (q_t ?_));exact ⟨((Fv,Fw,Jv):(Int) × (Int) × (Int)),⟨Zl (AA6 Fr C5),Fx⟩,rfl,rfl,rfl,trivial⟩
         rintro ⟨Sm,Sn,So⟩ Sq Sr ⟨Jx,Jy⟩;subst Jx;refine AAa (Zj (AA0 rfl rfl (Zt ?_)));exact ⟨_,(Zl Fo).symm,Jy,rfl,rfl,rfl,rfl,trivial⟩
        ·refine AAh (AAi (AAi (ABj (q_b (q_t (AAa (AA0 rfl rfl (Zj (Zr ?_)))))))));exact ⟨_,(Zl (Fm _ (Zl (AA6 Cz C0)).symm)).symm,Ak,rfl,rfl,rfl,rfl,trivial⟩
       ·refine AAh (AAi (AAi (ABj (q_t (Zn (Zj (Zj (AAl (Zt (Zw (Alz (⟨_,ABf,((Jl,Jm):(Int) × (Int)),?_,rfl,?_⟩))))))))))))
        ·exact Zl (Fj _ (Zl (AA6 Cw Cx)).symm)
        ·exact Cv
      obtain ⟨⟨Fy,Jz⟩,J0,rfl,Ar⟩:=Jk;refine ⟨trivial,?_⟩;subst J0;refine Zj (ABl rfl rfl (ABl rfl rfl (AAl (Zt ?_))));obtain ⟨J1,Fz,J2⟩:=Zp Jj;refine AKb 532676608 (fun x:(LiI) × (LiI)=>[]) (fun x h'=>( (x.1,x.2))=J1/\Kst h h' ((Ar.L.set 4 (aO2 (cI .i64) 60 2 Bc Be Bf Ac x.1)).set 3 (aO2 (cI .i64) 60 2 Ae Ag Ah Ad x.2))) ?_ ?_
      ·refine Zn (Zj (Zj (ACk rfl rfl (Zr (⟨_,rfl,fun C6=>?_,fun C6=>?_⟩)))))
       ·refine AAa (Zj (Zj (Zj ?_)));obtain ⟨J3,J4,J5⟩:=Zp (AA5 Fz C6);refine AAy (K':=(fun xr h'=> ∃ x:(LiI) × (LiI),(x.1,x.2)=J3/\xr= .tuple #[]/\Kst h h' ((Ar.L.set 4 (aO2 (cI .i64) 60 2 Bc Be Bf Ac x.1)).set 3 (aO2 (cI .i64) 60 2 Ae Ag Ah Ad x.2)))) trivial rfl ?_ fun Ss St J6=>?_
        ·refine cwf (l:=[_,_,_,_]) Tryz.func89 rfl rfl (Zo (Zo (AF8 (Zj (ACy rfl (ADa AIi AEz (Ar.b p5) 2 rfl (Zj (ACy rfl (ADa AUe AEz (Ar.b p5) 3 rfl (Ahd AQg Apk rfl trivial tt2 rfl (Ar.o2 p4).isOne (Ar.o2 p3).isOne fun Su Sv J7 J8 J9=>AY3 AQg rfl (Zj (Zr (Zs ?_)))))))))))));have F4:=Ar.nb J8 J9 J7;refine AG4 36028797002189312 J4 (fun x=>[(24,(.int .i64 x.1))]) (fun x=>(F4.L.set 5 (aO2 (cI .i64) 60 2 Bc Be Bf Ac x.2.1)).set 4 (aO2 (cI .i64) 60 2 Ae Ag Ah Ad x.2.2)) F4 ⟨rfl,trivial⟩ ?_;rintro ⟨F5,Sw,Ka⟩ Sx Sy Sz Ai C7 Kb;unfold ADp at C7;refine Zn (AAu rfl rfl (Zr (Zo (⟨_,rfl,fun C8=>?_,fun C8=>?_⟩))))
         ·refine Zv (q_t (Zo (Zs (Zn ?_))));have F6:=AA5 C7 C8;by_cases C9:F5=0
          ·refine Acb 0 AQg rfl rfl C9 Zk (AA7 AEz rfl ((Ai.b p0).cell (i:=0) rfl) (AA4 (Zj (AA8 AAf rfl (Ai.o2 p5).rd (Zj (Zr (Zs (AG4 18014397435742208 (ifT F6 C9) (fun x=>[(30,(.int .i64 x.1))]) (fun x=>Ai.L.set 5 (aO2 (cI .i64) 60 2 Bc Be Bf Ac x.2)) Ai ⟨rfl,trivial⟩ ?_))))))));rintro ⟨Da,S5⟩ S7 Ta Tb Aw Db Kc;unfold AIj at Db;refine Zn (AAu rfl rfl (Zr (Zo (⟨_,rfl,fun Dc=>?_,fun Dc=>?_⟩))))
           ·refine Zv (q_t (Zo (Zs (Zn ?_))));obtain ⟨Tc,Bu,Kd⟩:=Zp (AA5 Db Dc);refine ABy AAf AA2 (Aw.o2 p5) Bu fun _ Td Dd=>Zt (AF8 (Zj (Zj (Zj (Zj ?_)))));obtain ⟨Te,F7,Ke⟩:=Zp Kd;refine AIs (m:=Da) AAg AAk (Aw.o2 p5) Dd Bu F7 fun _=>(Zj (Zj (Zj ?_)));obtain ⟨Tf,Kf,Kg⟩:=Zp Ke;refine AIs (m:=Da) AAg AAk (Aw.o2 p5) Dd Bu Kf fun _=>(AL3 rfl rfl (AA0 rfl rfl (Zj (ACy rfl (ADa AO8 AAk (Aw.b p6) 1 rfl ?_)))));obtain ⟨Kh,Ki⟩:=ifN Kg;refine ADc rfl rfl Kh (ALj (m:=Da) Aw p5 AAg AAk Dd Bu F7 (fun _=>rfl) fun _ Tg Kj=>AAn (q_b (q_t (AAa (AA0 rfl rfl (Zj (Zr ?_)))))));exact ⟨_,(Zl Ki).symm,Kj,rfl,trivial⟩
           ·refine AAh (AAi (AAi (ABj (q_b (q_t (AAa (AA0 rfl rfl (Zj (Zr ?_)))))))));exact ⟨_,(Zl (Kc _ (Zl (AA6 Db Dc)).symm)).symm,Aw,rfl,trivial⟩
          ·have F8:=ifF F6 C9;by_cases De:F5=1
           ·refine Acb 1 AQg rfl rfl De Zk (AA7 AEz rfl ((Ai.b p0).cell (i:=1) rfl) (AA4 (Zj (AA8 AAf rfl (Ai.o2 p4).rd (Zj (Zr (Zs (AG4 18014397435742208 (ifT F8 De) (fun x=>[(30,(.int .i64 x.1))]) (fun x=>Ai.L.set 4 (aO2 (cI .i64) 60 2 Ae Ag Ah Ad x.2)) Ai ⟨rfl,trivial⟩ ?_))))))));rintro ⟨Df,Th⟩ Ti Tj Tk Ax Dg Kk;unfold AIk at Dg;refine Zn (AAu rfl rfl (Zr (Zo (⟨_,rfl,fun Dh=>?_,fun Dh=>?_⟩))))
            ·refine Zv (q_t (Zo (Zs (Zn ?_))));obtain ⟨Tl,Bv,Kl⟩:=Zp (AA5 Dg Dh);refine ABy AAf AA2 (Ax.o2 p4) Bv fun _ Tm Di=>Zt (AF8 (Zj (Zj (Zj (Zj ?_)))));obtain ⟨Tn,F9,Km⟩:=Zp Kl;refine AIs (m:=Df) AAg AAk (Ax.o2 p4) Di Bv F9 fun _=>(Zj (Zj (Zj ?_)));obtain ⟨To,Kn,Ko⟩:=Zp Km;refine AIs (m:=Df) AAg AAk (Ax.o2 p4) Di Bv Kn fun _=>(AL3 rfl rfl (AA0 rfl rfl (Zj (ACy rfl (ADa AO8 AAk (Ax.b p6) 1 rfl ?_)))));obtain ⟨Kp,Kr⟩:=ifN Ko;refine ADc rfl rfl Kp (ALj (m:=Df) Ax p4 AAg AAk Di Bv F9 (fun _=>rfl) fun _ Tp Kt=>AAn (q_b (q_t (AAa (AA0 rfl rfl (Zj (Zr ?_)))))));exact ⟨_,(Zl Kr).symm,Kt,rfl,trivial⟩
            ·refine AAh (AAi (AAi (ABj (q_b (q_t (AAa (AA0 rfl rfl (Zj (Zr ?_)))))))));exact ⟨_,(Zl (Kk _ (Zl (AA6 Dg Dh)).symm)).symm,Ax,rfl,trivial⟩
           ·have Ku:=ifF F8 De;cases Ku
         ·refine AAh (AAi (AAi (ABj (q_t (Zn (Zj (ACy rfl (ADa AIi AEz (Ai.b p6) 2 rfl (Zj ?_)))))))));obtain ⟨Tq,Ga,Kv⟩:=Zp (Kb _ (Zl (AA6 C7 C8)).symm);refine ABy AAf AA2 (Ai.o2 p5) Ga fun _ Tr Gb=>ABm AAg rfl ((Ai.o2 p5).rowI Gb Ga) (Zj (Zr (Zs ?_)));have Dj:=Ai.sel [1,2,3,4,5,6,7] Zk;dsimp only [AHa,AKo] at Dj;refine AG4 158456325019305303150233137152 Kv (fun x=>[(63,(.int .i64 x.1))]) (fun x=>Dj.L.set 4 (aO2 (cI .i64) 60 2 Bc Be Bf Ac x.2)) Dj ⟨rfl,trivial⟩ ?_;rintro ⟨Ts,Kw⟩ Tt Tu Tv Am Dk Kx;unfold AEw at Dk;refine Zn (AAu rfl rfl (Zr (Zo (⟨_,rfl,fun Dl=>?_,fun Dl=>?_⟩))))
          ·refine Zv (q_t (Zo (Zs (Zn (Zj ?_)))));obtain ⟨Tw,Ky,Kz⟩:=Zp (AA5 Dk Dl);obtain ⟨Tx,La,Lb⟩:=Zp Kz;refine AIs (m:=Jz) AAg AAk (Am.o2 p4) Gb Ky La fun _=>(AAl (Zt (AF8 (Zj (ACy rfl (ADa AIi AEz (Am.b p5) 2 rfl (Zj ?_)))))));obtain ⟨Ty,Bw,Lc⟩:=Zp Lb;refine ABy AAf AA2 (Am.o2 p4) Bw fun _ Tz Ld=>Zj (Zj (ACy rfl (ADa AIi AEz (Am.b p5) 2 rfl (Zj (ABy AAf AA2 (Am.o2 p4) Bw fun _ T0 Le=>Zj ?_)))));obtain ⟨T3,Gc,Lf⟩:=Zp Lc;refine AIs (m:=Fy) AAg AAk (Am.o2 p4) Le Bw Gc fun _=>(Zj (Zj (AL3 rfl rfl (AA0 rfl rfl (Zj (ACy rfl (ADa AO8 AAk (Am.b p5) 1 rfl ?_)))))));obtain ⟨Lg,Lh⟩:=ifN Lf;refine ADc rfl rfl Lg (ALj (m:=Fy) Am p4 AAg AAk Ld Bw Gc (fun _=>rfl) fun _ T4 Li=>AAn (q_b (q_t (AAa (AA0 rfl rfl (Zj (Zr ?_)))))));exact ⟨_,(Zl Lh).symm,Li,rfl,trivial⟩
          ·refine AAh (AAi (AAi (ABj (⟨_,ASt,((Kw,Ka):(LiI) × (LiI)),?_,rfl,?_⟩))))
           ·exact Zl (Kx _ (Zl (AA6 Dk Dl)).symm)
           ·exact Am
        obtain ⟨⟨Lj,Lk⟩,Ll,rfl,Lm⟩:=J6;refine ⟨trivial,?_⟩;subst Ll;refine Zr ?_;exact ⟨((Lj,Lk):(LiI) × (LiI)),⟨Zl J5,Lm⟩,trivial⟩
       ·refine Zv (q_t ?_);exact ⟨((I7,I9):(LiI) × (LiI)),⟨Zl (AA6 Fz C6),Ar⟩,trivial⟩
      rintro ⟨T5,T6⟩ T7 T8 ⟨Lo,Ao⟩;subst Lo;refine Zn (Zj (Zj (Zj ?_)));obtain ⟨Lq,Lr,Lv⟩:=Zp J2;refine AAy (K':=(fun xr h'=> ∃ x:(LiI) × LnA × LnN × LvA × (LiI),(x.1,x.2.2.2.2)=Lq/\xr= .tuple #[]/\Kst h h' ((Ao.L.set 4 (aO2 (cI .i64) 60 2 x.2.1 x.2.2.1 x.2.2.2.1 Ac x.1)).set 3 (aO2 (cI .i64) 60 2 Ae Ag Ah Ad x.2.2.2.2)))) trivial rfl ?_ fun T9 Do Lw=>?_
      ·refine cwf (l:=[_,_,_]) Tryz.func90 rfl rfl (Zo (AF8 (Zj (ACy rfl (ADa AIi AEz (Ao.b p5) 2 rfl (Zj (Zj (ACy rfl (ADa AIi AEz (Ao.b p5) 2 rfl (Zj (Zj (ACy rfl (ADa AIi AEz (Ao.b p5) 2 rfl (Zj ?_))))))))))))));obtain ⟨Ua,Gd,Lx⟩:=Zp Lr;refine ABy AAf AA2 (Ao.o2 p4) Gd fun _ Ub Ly=>Zj (ACy rfl (ADa AIi AEz (Ao.b p5) 2 rfl (Zj ?_)));obtain ⟨Uc,Ge,Lz⟩:=Zp Lx;refine ABy AAf AA2 (Ao.o2 p4) Ge fun _ Ud L9=>ARd AAf AA2 (Ao.o2 p4) L9 Ly Ge Gd rfl rfl (fun _=>rfl) (fun _=>rfl) (fun _=>rfl) (fun _ _=>rfl) fun Ue Uf Dp Dq Dr Ug Ma Mb Mc=>Zr (Zo (AF8 ?_));have Bi:=Ao.uo2 p4 Mb Ma Mc;refine Zj (ACy rfl (ADa AIi AEz (Bi.b p5) 2 rfl (Zj (ACy rfl (ADa AUe AEz (Bi.b p5) 3 rfl (Ahd AQg Apk rfl trivial tt2 rfl (Bi.o2 p4).isOne (Bi.o2 p3).isOne fun Uh Ui Md Me Mf=>AY3 AQg rfl (Zj (Zr (Zs ?_)))))))));have Gf:=Bi.nb Me Mf Md;refine AG4 4722366412500901036672 Lz (fun x=>[(46,(.int .i64 x.1))]) (fun x=>(Gf.L.set 5 (aO2 (cI .i64) 60 2 Dp Dq Dr Ac x.2.1)).set 4 (aO2 (cI .i64) 60 2 Ae Ag Ah Ad x.2.2)) Gf ⟨rfl,trivial⟩ ?_;rintro ⟨Gg,Mg,Mh⟩ Uj Uk Ul Ap Ds Mi;unfold AEx at Ds;refine Zn (AAu rfl rfl (Zr (Zo (⟨_,rfl,fun Dt=>?_,fun Dt=>?_⟩))))
       ·refine Zv (q_t (Zo (Zs (Zn ?_))));have Gh:=AA5 Ds Dt;by_cases Du:Gg=0
        ·refine Acb 0 AQg rfl rfl Du Zk (AA7 AEz rfl ((Ap.b p0).cell (i:=0) rfl) (AA4 (Zj (AA8 AAf rfl (Ap.o2 p5).rd (Zj (Zr (Zs (AG4 2361178737835195236864 (ifT Gh Du) (fun x=>[(52,(.int .i64 x.1))]) (fun x=>Ap.L.set 5 (aO2 (cI .i64) 60 2 Dp Dq Dr Ac x.2)) Ap ⟨rfl,trivial⟩ ?_))))))));rintro ⟨Bx,Um⟩ Un Uo Up Bj Dv Mj;unfold AIl at Dv;refine Zn (AAu rfl rfl (Zr (Zo (⟨_,rfl,fun Dw=>?_,fun Dw=>?_⟩))))
         ·refine Zv (q_t (Zo (Zs (Zn ?_))));obtain ⟨Uq,By,Mk⟩:=Zp (AA5 Dv Dw);refine ABy AAf AA2 (Bj.o2 p5) By fun _ Ur Bz=>Zt (AF8 (Zj (Zj (Zj (Zj (Zj (Zj ?_)))))));obtain ⟨Us,Ml,Mm⟩:=Zp Mk;refine AIs (m:=Bx) AAg AAk (Bj.o2 p5) Bz By Ml fun _=>(Zj (Zj ?_));obtain ⟨Ut,Gi,Mo⟩:=Zp Mm;refine AIs (m:=Bx) AAg AAk (Bj.o2 p5) Bz By Gi fun _=>ALj (m:=Bx) Bj p5 AAg AAk Bz By Gi (fun _=>rfl) fun _ Uu Mq=>?_;obtain ⟨Uv,Mr,Ms⟩:=Zp Mo;obtain ⟨Uw,Mt,Mu⟩:=Zp Ms;refine ALj (m:=Bx) Mq p5 AAg AAk Bz Mr Mt (fun _=>rfl) fun _ Ux Mv=>AAn (q_b (q_t (AAa (AA0 rfl rfl (Zj (Zr ?_))))));exact ⟨_,(Zl Mu).symm,Mv,rfl,trivial⟩
         ·refine AAh (AAi (AAi (ABj (q_b (q_t (AAa (AA0 rfl rfl (Zj (Zr ?_)))))))));exact ⟨_,(Zl (Mj _ (Zl (AA6 Dv Dw)).symm)).symm,Bj,rfl,trivial⟩
        ·have Gj:=ifF Gh Du;by_cases Dx:Gg=1
         ·refine Acb 1 AQg rfl rfl Dx Zk (AA7 AEz rfl ((Ap.b p0).cell (i:=1) rfl) (AA4 (Zj (AA8 AAf rfl (Ap.o2 p4).rd (Zj (Zr (Zs (AG4 2361178737835195236864 (ifT Gj Dx) (fun x=>[(52,(.int .i64 x.1))]) (fun x=>Ap.L.set 4 (aO2 (cI .i64) 60 2 Ae Ag Ah Ad x.2)) Ap ⟨rfl,trivial⟩ ?_))))))));rintro ⟨B1,Uy⟩ Uz U0 U3 Bl Dy Mw;unfold AIm at Dy;refine Zn (AAu rfl rfl (Zr (Zo (⟨_,rfl,fun Dz=>?_,fun Dz=>?_⟩))))
          ·refine Zv (q_t (Zo (Zs (Zn ?_))));obtain ⟨U8,B3,Mx⟩:=Zp (AA5 Dy Dz);refine ABy AAf AA2 (Bl.o2 p4) B3 fun _ Va B4=>Zt (AF8 (Zj (Zj (Zj (Zj (Zj (Zj ?_)))))));obtain ⟨Vb,My,Mz⟩:=Zp Mx;refine AIs (m:=B1) AAg AAk (Bl.o2 p4) B4 B3 My fun _=>(Zj (Zj ?_));obtain ⟨Vc,Gk,M0⟩:=Zp Mz;refine AIs (m:=B1) AAg AAk (Bl.o2 p4) B4 B3 Gk fun _=>ALj (m:=B1) Bl p4 AAg AAk B4 B3 Gk (fun _=>rfl) fun _ Vd M1=>?_;obtain ⟨Ve,M2,M3⟩:=Zp M0;obtain ⟨Vf,M4,M5⟩:=Zp M3;refine ALj (m:=B1) M1 p4 AAg AAk B4 M2 M4 (fun _=>rfl) fun _ Vg M6=>AAn (q_b (q_t (AAa (AA0 rfl rfl (Zj (Zr ?_))))));exact ⟨_,(Zl M5).symm,M6,rfl,trivial⟩
          ·refine AAh (AAi (AAi (ABj (q_b (q_t (AAa (AA0 rfl rfl (Zj (Zr ?_)))))))));exact ⟨_,(Zl (Mw _ (Zl (AA6 Dy Dz)).symm)).symm,Bl,rfl,trivial⟩
         ·have M7:=ifF Gj Dx;cases M7
       ·refine AAh (AAi (AAi (ABj (⟨_,ASt,((Mg,Dp,Dq,Dr,Mh):(LiI) × LnA × LnN × LvA × (LiI)),?_,rfl,?_⟩))))
        ·exact Zl (Mi _ (Zl (AA6 Ds Dt)).symm)
        ·exact Ap.sel [1,2,3,4,5,6,7] Zk
      obtain ⟨⟨Vh,Ay,Az,A3,Vi⟩,M8,rfl,Au⟩:=Lw;refine ⟨trivial,?_⟩;subst M8;refine Zr (Zo ?_);have A4:UpT [] Do Do:=UpT.start all_nil;refine ATz (B:=fun h'=>UpT [] Do h') 15 [⟨9,59,[.int .i64 0,.int .i64 0,.int .i64 0,.int .i64 0,.int .i64 0]⟩] (fun _ _ U E=>U.thenE E) Zx A4 (Adm rfl AQ8 rfl (fun _ _ U E=>U.thenE E)) (h_l rfl (Zj (AAn (h_l rfl (ACy rfl (AAn (h_l rfl (ACh AIi rfl (AAn (h_l rfl (ACf AEz rfl A4 (fun h' hb=>((Au.b p5).ext hb.ext).cell (i:=2) rfl) (AAn (h_l rfl (Zj (AAn (h_l rfl ?_))))))))))))))));obtain ⟨Vj,D0,M9⟩:=Zp Lv;refine AC2 AAf rfl (Au.o2 p4) rfl D0 fun Vk Vl Vm Na Nb=>AAn (h_l rfl (ACf AA2 rfl A4 (fun h' hb=>AAx Nb hb.ext) (AAn (h_l rfl (Zj (AAn (h_l rfl ?_)))))));obtain ⟨Vn,Gl,Nc⟩:=Zp M9;refine AE6 (m:=Cq) AAg rfl (Au.o2 p4) Na D0 rfl Gl fun Vo Nd=>AAn (h_l rfl ?_);obtain ⟨Vp,Nf,Ng⟩:=(Au.o2 p4).cells Nd D0 Gl;obtain rfl:=Nf;refine ACf AAk rfl A4 (fun h' hb=>AAx (Ng 0 _ rfl) hb.ext) (AAn (h_l rfl (Zj (AAn (h_l rfl (ACy rfl (AAn (h_l rfl (ACh Aeh rfl (AAn (h_l rfl (ACf AAk rfl A4 (fun h' hb=>((Au.b p5).ext hb.ext).cell (i:=0) rfl) (AAn (h_e rfl fun Vs Gm=>?_))))))))))))));obtain ⟨Aa,Nh,Ni⟩:=Zp Nc;refine Aaw (Au.e Gm) (A4.thenE Gm) (AO7 Nh) fun Vt Nj Vu Nk=>AAn ⟨Nj,?_⟩;refine Aav fun Vv Nl=>Aqp fun Vw Gn Nm Vx=>?_;have Gp:=Au.nb (Nk.thenE Nl).ext (AE5 Nm Gn.lt) Gn;refine AB8 [(.int .i64 Aa.1),(.int .i64 Aa.2.1),(.int .i64 Aa.2.2.1),(.int .i64 Aa.2.2.2.1),(.int .i64 Aa.2.2.2.2)] AKz rfl rfl rfl rfl (by simp [isOne]) (Gp.b p0) fun Vy Nn Np=>Zr (Zo (AF8 ?_));have D1:=Gp.sb p0 Np Nn rfl;refine Zj (ACy rfl (ADa Aeh AAk (D1.b p6) 0 rfl (ADa AHl ABt (D1.b p0) 0 rfl ?_)));obtain ⟨Vz,Nq,Nr⟩:=Zp Ni;refine ACl D1 (AO2 Nq) fun D2 V1 D3=>Zt (Zo (ACd (fun h'=>UpT [] D2 h') Zx ?_));have B5:UpT [] D2 D2:=UpT.start all_nil;refine ACh AM9 rfl (ACf AAk rfl B5 (fun h' hb=>((D3.b p0).ext hb.ext).cell (i:=2) rfl) (AYj (κ:= .i64) [Aa.2.2.1] AAg AIu rfl rfl B5 (fun _ E=>B5.thenE E) rfl rfl rfl rfl fun Ns Nt V4 Nu Gq Nv Nw=>?_));have D4:=B5.thenE Gq;have D5:=D3.no Gq (AE5 Nv Nw) Nu;refine AYm (c:=(cI .i64)) (el:=2) [[Ns]] [Nt] [([Aa.2.2.1]:List Int)] AAf AMd rfl rfl D4 (fun _ E=>D4.thenE E) rfl rfl rfl rfl (AJz (D5.o p0).isOne AVv) ⟨(D5.o p0),trivial⟩ AA3 fun V5 V6 V8 Ny Gr Nz=>Zj (ACy rfl (ACh AO8 rfl ?_));have D6:=D4.thenE Gr;refine ACf AAk rfl D6 (fun h' hb=>((D3.b p6).ext hb.ext).cell (i:=1) rfl) ?_;have Gt:=(((D5.a0).grab p0)).lit Gr Ny (by simpa using Nz);obtain ⟨⟨V9,Wa⟩,N0,Gu⟩:=Zp Nr;dsimp only at Gu;refine AEj D6 (fun _ E=>D6.thenE E) rfl (AVk (Gt.o2 p0).rd N0) fun Wb Wc N3 N4=>?_;obtain ⟨Wd,We,Wf,Wg,rfl,N5,N6⟩:=N4;refine Zj (ABl rfl rfl (ABl rfl rfl (AAl (Zt (Zo (Zn (Zj (AA0 rfl rfl (Zt (Zs ?_))))))))));have D7:=(Gt.no2 N3 N6 N5).sel [0,3,4,5,6,7,8,9,10] Zk;dsimp only [AHa,AKo] at D7;refine AG4 83076749736556651760677582561894400 Gu (fun x=>[(13,(.int .i64 x.1))]) (fun x=>(D7.L.set 6 (aO2 (cI .i64) 60 2 Ay Az A3 Ac x.2.1)).set 5 (aO2 (cI .i64) 60 2 Ae Ag Ah Ad x.2.2)) D7 ⟨rfl,trivial⟩ ?_;rintro ⟨Gv,N7,N8⟩ Wh Wi Wj Ab D8 N9;unfold AIp at D8;refine Zo (Zn (Zj (Zj (ACy rfl (ADa AIi AEz (Ab.b p7) 2 rfl (AA8 AAf rfl (Ab.o2 p6).rd (AAu rfl rfl (Zr (⟨_,rfl,fun D9=>?_,fun D9=>?_⟩)))))))))
      ·refine Zv (q_t (Zo (Zs (Zo (AF8 (Zj (ACy rfl (ADa AIi AEz (Ab.b p7) 2 rfl (Zj ?_)))))))));obtain ⟨Wk,Gw,Oa⟩:=Zp (AA5 D8 D9);refine ABy AAf AA2 (Ab.o2 p6) Gw fun _ Wl Ob=>Zj ?_;obtain ⟨Wm,Oc,Od⟩:=Zp Oa;refine AIs (m:=Cq) AAg AAk (Ab.o2 p6) Ob Gw Oc fun _=>(Zj ?_);obtain ⟨Oe,Og⟩:=ifN Od;refine AUx rfl rfl Oe (Zj ?_);obtain ⟨Wn,Gx,Oh⟩:=Zp Og;refine ABy AAf AA2 (Ab.o2 p0) Gx fun _ Wo Oi=>?_;obtain ⟨Wp,Oj,Ol⟩:=Zp Oh;refine AIs (m:=0) AAg AAk (Ab.o2 p0) Oi Gx Oj fun _=>(AL3 rfl rfl (Zj (ACy rfl (ADa AO8 AAk (Ab.b p7) 1 rfl ?_))));obtain ⟨Om,On⟩:=ifN Ol;refine ADc rfl rfl Om (Zt (AF8 (Zj (Zj (Zj (Zj (ACy rfl (ADa AO8 AAk (Ab.b p7) 1 rfl (Zj (AFg rfl rfl (Zj (ACy rfl (ADa AO8 AAk (Ab.b p7) 1 rfl ?_)))))))))))));obtain ⟨Oo,Oq⟩:=ifN On;refine ADc rfl rfl Oo ?_;obtain ⟨Ot,Ou,Ov⟩:=Zp Oq;refine AAy (K':=(fun xr h'=> ∃ x:(LiI) × (LiI),(x.1,x.2)=Ot/\xr= .tuple #[]/\Kst h h' ((Ab.L.set 6 (aO2 (cI .i64) 60 2 Ay Az A3 Ac x.1)).set 5 (aO2 (cI .i64) 60 2 Ae Ag Ah Ad x.2)))) trivial rfl ?_ fun Wq Wr Ow=>?_
       ·refine cwf (l:=[_,_,_,_]) Tryz.func89 rfl rfl (Zo (Zo (AF8 (Zj (ACy rfl (ADa AIi AEz (Ab.b p7) 2 rfl (Zj (ACy rfl (ADa AUe AEz (Ab.b p7) 3 rfl (Ahd AQg Apk rfl trivial tt2 rfl (Ab.o2 p6).isOne (Ab.o2 p5).isOne fun Ws Wt Ox Oy Oz=>AY3 AQg rfl (Zj (Zr (Zs ?_)))))))))))));have Gy:=Ab.nb Oy Oz Ox;refine AG4 36028797002189312 Ou (fun x=>[(24,(.int .i64 x.1))]) (fun x=>(Gy.L.set 7 (aO2 (cI .i64) 60 2 Ay Az A3 Ac x.2.1)).set 6 (aO2 (cI .i64) 60 2 Ae Ag Ah Ad x.2.2)) Gy ⟨rfl,trivial⟩ ?_;rintro ⟨Gz,Wu,O0⟩ Wv Ww Wx Aj Ea O1;unfold AEy at Ea;refine Zn (AAu rfl rfl (Zr (Zo (⟨_,rfl,fun Eb=>?_,fun Eb=>?_⟩))))
        ·refine Zv (q_t (Zo (Zs (Zn ?_))));have G3:=AA5 Ea Eb;by_cases Ec:Gz=0
         ·refine Acb 0 AQg rfl rfl Ec Zk (AA7 AEz rfl ((Aj.b p0).cell (i:=0) rfl) (AA4 (Zj (AA8 AAf rfl (Aj.o2 p7).rd (Zj (Zr (Zs (AG4 18014397435742208 (ifT G3 Ec) (fun x=>[(30,(.int .i64 x.1))]) (fun x=>Aj.L.set 7 (aO2 (cI .i64) 60 2 Ay Az A3 Ac x.2)) Aj ⟨rfl,trivial⟩ ?_))))))));rintro ⟨Ed,Wy⟩ Wz W0 W1 A5 Ee O2;unfold AIn at Ee;refine Zn (AAu rfl rfl (Zr (Zo (⟨_,rfl,fun Ef=>?_,fun Ef=>?_⟩))))
          ·refine Zv (q_t (Zo (Zs (Zn ?_))));obtain ⟨W3,B6,O3⟩:=Zp (AA5 Ee Ef);refine ABy AAf AA2 (A5.o2 p7) B6 fun _ W4 Eg=>Zt (AF8 (Zj (Zj (Zj (Zj ?_)))));obtain ⟨W5,G4,O4⟩:=Zp O3;refine AIs (m:=Ed) AAg AAk (A5.o2 p7) Eg B6 G4 fun _=>(Zj (Zj (Zj ?_)));obtain ⟨W6,O5,O6⟩:=Zp O4;refine AIs (m:=Ed) AAg AAk (A5.o2 p7) Eg B6 O5 fun _=>(AL3 rfl rfl (AA0 rfl rfl (Zj (ACy rfl (ADa AO8 AAk (A5.b p8) 1 rfl ?_)))));obtain ⟨O7,O8⟩:=ifN O6;refine ADc rfl rfl O7 (ALj (m:=Ed) A5 p7 AAg AAk Eg B6 G4 (fun _=>rfl) fun _ W7 O9=>AAn (q_b (q_t (AAa (AA0 rfl rfl (Zj (Zr ?_)))))));exact ⟨_,(Zl O8).symm,O9,rfl,trivial⟩
          ·refine AAh (AAi (AAi (ABj (q_b (q_t (AAa (AA0 rfl rfl (Zj (Zr ?_)))))))));exact ⟨_,(Zl (O2 _ (Zl (AA6 Ee Ef)).symm)).symm,A5,rfl,trivial⟩
         ·have G5:=ifF G3 Ec;by_cases Eh:Gz=1
          ·refine Acb 1 AQg rfl rfl Eh Zk (AA7 AEz rfl ((Aj.b p0).cell (i:=1) rfl) (AA4 (Zj (AA8 AAf rfl (Aj.o2 p6).rd (Zj (Zr (Zs (AG4 18014397435742208 (ifT G5 Eh) (fun x=>[(30,(.int .i64 x.1))]) (fun x=>Aj.L.set 6 (aO2 (cI .i64) 60 2 Ae Ag Ah Ad x.2)) Aj ⟨rfl,trivial⟩ ?_))))))));rintro ⟨Ei,W8⟩ Xa Xb Xc A6 Ej Pa;unfold AIo at Ej;refine Zn (AAu rfl rfl (Zr (Zo (⟨_,rfl,fun Ek=>?_,fun Ek=>?_⟩))))
           ·refine Zv (q_t (Zo (Zs (Zn ?_))));obtain ⟨Xd,B7,Pb⟩:=Zp (AA5 Ej Ek);refine ABy AAf AA2 (A6.o2 p6) B7 fun _ Xe El=>Zt (AF8 (Zj (Zj (Zj (Zj ?_)))));obtain ⟨Xf,G6,Pc⟩:=Zp Pb;refine AIs (m:=Ei) AAg AAk (A6.o2 p6) El B7 G6 fun _=>(Zj (Zj (Zj ?_)));obtain ⟨Xg,Pd,Pe⟩:=Zp Pc;refine AIs (m:=Ei) AAg AAk (A6.o2 p6) El B7 Pd fun _=>(AL3 rfl rfl (AA0 rfl rfl (Zj (ACy rfl (ADa AO8 AAk (A6.b p8) 1 rfl ?_)))));obtain ⟨Pf,Pg⟩:=ifN Pe;refine ADc rfl rfl Pf (ALj (m:=Ei) A6 p6 AAg AAk El B7 G6 (fun _=>rfl) fun _ Xh Ph=>AAn (q_b (q_t (AAa (AA0 rfl rfl (Zj (Zr ?_)))))));exact ⟨_,(Zl Pg).symm,Ph,rfl,trivial⟩
           ·refine AAh (AAi (AAi (ABj (q_b (q_t (AAa (AA0 rfl rfl (Zj (Zr ?_)))))))));exact ⟨_,(Zl (Pa _ (Zl (AA6 Ej Ek)).symm)).symm,A6,rfl,trivial⟩
          ·have Pj:=ifF G5 Eh;cases Pj
        ·refine AAh (AAi (AAi (ABj (q_t (Zn (Zj (ACy rfl (ADa AIi AEz (Aj.b p8) 2 rfl (Zj ?_)))))))));obtain ⟨Xi,G7,Pk⟩:=Zp (O1 _ (Zl (AA6 Ea Eb)).symm);refine ABy AAf AA2 (Aj.o2 p7) G7 fun _ Xj G8=>ABm AAg rfl ((Aj.o2 p7).rowI G8 G7) (Zj (Zr (Zs ?_)));have Em:=Aj.sel [1,2,3,4,5,6,7,8,9] Zk;dsimp only [AHa,AKo] at Em;refine AG4 158456325019305303150233137152 Pk (fun x=>[(63,(.int .i64 x.1))]) (fun x=>Em.L.set 6 (aO2 (cI .i64) 60 2 Ay Az A3 Ac x.2)) Em ⟨rfl,trivial⟩ ?_;rintro ⟨Xk,Pl⟩ Xl Xm Xn Aq En Pm;unfold AGo at En;refine Zn (AAu rfl rfl (Zr (Zo (⟨_,rfl,fun Eo=>?_,fun Eo=>?_⟩))))
         ·refine Zv (q_t (Zo (Zs (Zn (Zj ?_)))));obtain ⟨Xo,Pn,Po⟩:=Zp (AA5 En Eo);obtain ⟨Xp,Pp,Pq⟩:=Zp Po;refine AIs (m:=Cq) AAg AAk (Aq.o2 p6) G8 Pn Pp fun _=>(AAl (Zt (AF8 (Zj (ACy rfl (ADa AIi AEz (Aq.b p7) 2 rfl (Zj ?_)))))));obtain ⟨Xq,B8,Ps⟩:=Zp Pq;refine ABy AAf AA2 (Aq.o2 p6) B8 fun _ Xr Pt=>Zj (Zj (ACy rfl (ADa AIi AEz (Aq.b p7) 2 rfl (Zj (ABy AAf AA2 (Aq.o2 p6) B8 fun _ Xt Pu=>Zj ?_)))));obtain ⟨Xu,G9,Pv⟩:=Zp Ps;refine AIs (m:=Gv) AAg AAk (Aq.o2 p6) Pu B8 G9 fun _=>(Zj (Zj (AL3 rfl rfl (AA0 rfl rfl (Zj (ACy rfl (ADa AO8 AAk (Aq.b p7) 1 rfl ?_)))))));obtain ⟨Pw,Px⟩:=ifN Pv;refine ADc rfl rfl Pw (ALj (m:=Gv) Aq p6 AAg AAk Pt B8 G9 (fun _=>rfl) fun _ Xv Py=>AAn (q_b (q_t (AAa (AA0 rfl rfl (Zj (Zr ?_)))))));exact ⟨_,(Zl Px).symm,Py,rfl,trivial⟩
         ·refine AAh (AAi (AAi (ABj (⟨_,ASt,((Pl,O0):(LiI) × (LiI)),?_,rfl,?_⟩))))
          ·exact Zl (Pm _ (Zl (AA6 En Eo)).symm)
          ·exact Aq
       obtain ⟨⟨Xw,Xx⟩,Pz,rfl,P0⟩:=Ow;refine ⟨trivial,?_⟩;subst Pz;refine AAn (q_b (q_t (AAa (Zj (AA0 rfl rfl (Zt ?_))))));exact ⟨_,(Zl Ov).symm,P0,rfl,trivial⟩
      ·refine AAh (AAi (AAi (ABj (q_t (Zn (ANd [(.int .i64 Aa.1),(.int .i64 Aa.2.1),(.int .i64 Aa.2.2.1),(.int .i64 Aa.2.2.2.1),(.int .i64 Aa.2.2.2.2)] AKz rfl rfl (Ab.b p1).agg (AB8 [(.int .i64 Aa.1),(.int .i64 Aa.2.1),(.int .i64 Aa.2.2.1),(.int .i64 Aa.2.2.2.1),(.int .i64 Aa.2.2.2.2)] AKz rfl rfl rfl rfl (by simp [isOne]) (Ab.b p2) fun Xy P1 P2=>Zr (Zw ?_))))))));have Hb:=Ab.sb p2 P2 P1 rfl;refine ⟨_,ACb AKz rfl rfl (Hb.b p2),((Aa.1,Aa.2.1,Aa.2.2.1,Aa.2.2.2.1,Aa.2.2.2.2,N7,Ay,Az,A3,N8):(Int) × (Int) × (Int) × (Int) × (Int) × (LiI) × LnA × LnN × LvA × (LiI)),?_,rfl,?_⟩
       ·exact Zl (N9 _ (Zl (AA6 D8 D9)).symm)
       ·exact Hb.sel [3,4,5,6,7,8] Zk
     obtain ⟨⟨B9,Ca,Cb,Cd,Ce,Xz,X0,X3,X4,X5⟩,P3,rfl,P4⟩:=Jg;refine ⟨trivial,?_⟩;subst P3;refine AC1 P4 [(.int .i64 0),(.int .i64 0),(.int .i64 0),(.int .i64 0),(.int .i64 0)] AQ8 fun X6 X8 Ya Hc=>AB8 [(.int .i64 B9),(.int .i64 Ca),(.int .i64 Cb),(.int .i64 Cd),(.int .i64 Ce)] AKz rfl rfl rfl rfl (by simp [isOne]) (Hc.b p0) fun Yb P5 P6=>AH7 ?_;have Cf:=Hc.sb p0 P6 P5 rfl;refine ADa AKr AQj (Cf.b p2) 2 rfl (ANd [(.int .i64 B9),(.int .i64 Ca),(.int .i64 Cb),(.int .i64 Cd),(.int .i64 Ce)] AKz rfl rfl (Cf.b p0).agg ?_);obtain ⟨P7,P8⟩:=ifN Jf;refine ALo AN5 AQ8 rfl rfl trivial tt2 (fun _=>rfl) rfl (show (AOr).rep _ (B9,Ca,Cb,Cd,Ce) [(.int .i64 B9),(.int .i64 Ca),(.int .i64 Cb),(.int .i64 Cd),(.int .i64 Ce)] from rfl) (Cf.o p1) Zk P7 fun Yc Yd P9 Ye Qa Qb Qc=>ACh AKr rfl ?_;have Ep:=Cf.uo p1 Qb Qa Qc;refine AQh [(.int .i64 a5),(.slice none 0 0),P9] AQj rfl rfl (Ep.o p1).isOne (Ep.b p2) (Nat.le_of_ble_eq_true rfl) rfl fun Yf Qd Qe=>Zr (AAa ?_);have Hd:=Ep.sb p2 Qe Qd rfl;refine ADa AHl ABt (Hd.b p0) 0 rfl (AAl (AAn (q_b (q_t (AAa (AA0 rfl rfl (Zj (Zr ?_))))))));exact ⟨(_,_,_,_,_,_,_,_,_,_),(Zl P8).symm,Hd.sel [1,2,3,4,5,6] Zk,rfl,rfl,trivial⟩
    ·refine AAh (AAi (AAi (ABj (q_t (Zn (Zj (ACy rfl (ADa AUe AEz (Av.b p4) 3 rfl (ACh AOt rfl (AQh [(.int .i64 a5),Ad,Cr] AEz rfl rfl (Av.o2 p2).isOne (Av.b p1) (Nat.le_of_ble_eq_true rfl) rfl fun Yg Qf Qg=>AH7 ?_))))))))));have Bm:=Av.sb p1 Qg Qf rfl;refine ANd [(.int .i64 a5),Ad,Cr] ANl rfl rfl (Bm.b p1).agg (AB8 [(.int .i64 a5),Ad,Cr] ANl rfl rfl rfl rfl (AJz rfl (AJz (Bm.o2 p2).isOne (AJz (Bm.o p0).isOne AVv))) (Bm.b p5) fun Yh Qh Qi=>Zt (Zw ?_));have Bn:=Bm.sb p5 Qi Qh rfl;obtain rfl:=Zl (Ja _ (Zl (AA6 Ct Cu)).symm);exact ⟨_,AR2 ANl rfl rfl (Bn.b p5),Bn.x,_,_,_,_,_,_,rfl,(Bn.o2 p2),(Bn.o p0),Bn.s.sel [2,0] Zk⟩
end Go.Proofs.YtdkldlbgcfpglaaGreatDoor
namespace Go.Proofs.YtdkldlbgcfpglaaGreatDoor
open Go Go.QF
set_option maxRecDepth 100000
theorem Ajz {q x y c:Int} (hq:0 < q) (Aa:q<=2147483647) (hx:0<=x/\x < q) (hy:0<=y/\y < q) (hc:0<=c/\c<=2147483647):Int.tmod (w64 (x + w64 (c * y))) q=(x + c * y) % q:=by
 have h1:0<=c * y:=Int.mul_nonneg hc.1 hy.1;have h2:c * y<=2147483647 * 2147483647:=Int.mul_le_mul hc.2 Zh hy.1 Zk;rw [ACe (x:=c * y) Zh Zh,ACe (x:=x + c * y) Zh Zh,Int.tmod_eq_emod_of_nonneg Zh]
theorem AV4 {body:Int × List (List Int)->Option ((Int × List (List Int)) ⊕ List (List Int))} {fuel n:Nat} {G G':Z1} (hf:n < fuel)
    (hs:∀ (r:Nat) (M:Z1),r < n->(∀ b,M r b=G r b)->body ((r:Int),tab n n M)=some (.inl (((r + 1:Nat):Int),tab n n (ABv M r (G' r))))) (he:∀ X,body ((n:Int),X)=some (.inr X)):iter body fuel (0,tab n n G)=some (tab n n G'):=by
  apply ok_eq;refine AA9 (fun r st=> ∃ M,st=((r:Int),tab n n M)/\r<=n/\ ∀ a b,M a b=if a < r then G' a b else G a b) n ⟨G,rfl,Nat.zero_le _,fun a b=>by rw [if_neg (Nat.not_lt_zero a)]⟩ hf fun r st hr hI=>?_;obtain ⟨M,rfl,hrn,hM⟩:=hI
  rcases Nat.lt_or_ge r n with h | h
  · rw [hs r M h fun b=>by rw [hM,if_neg (Nat.lt_irrefl r)]];refine Zm ⟨h,_,rfl,h,fun a b=>?_⟩;rw [ABc]
    by_cases h1:a=r
    · subst h1;rw [if_pos rfl,if_pos (Nat.lt_succ_self a)]
    · rw [if_neg h1,hM]
      by_cases h2:a < r
      · rw [if_pos h2,if_pos Zh]
      · rw [if_neg h2,if_neg Zh]
  · obtain rfl:r=n:=by omega
    rw [he];exact Zm (AM7 fun a b ha hb=>by rw [hM,if_pos ha])
theorem Aj0 {body:Int × List (List Int)->Option ((Int × List (List Int)) ⊕ List (List Int))} {fuel n j:Nat} {G:Z1} {g:Nat->Int} (hf:n < fuel)
    (hs:∀ (s:Nat) (M:Z1),s < n->(∀ a b,a≠j->M a b=G a b)->M j s=G j s->body ((s:Int),tab n n M)=some (.inl (((s + 1:Nat):Int),tab n n (ABv M j fun b=>if b=s then g s else M j b)))) (he:∀ X,body ((n:Int),X)=some (.inr X)):iter body fuel (0,tab n n G)=some (tab n n (ABv G j g)):=by
  apply ok_eq;refine AA9 (fun s st=> ∃ M,st=((s:Int),tab n n M)/\s<=n/\ ∀ a b,M a b=if a=j/\b < s then g b else G a b) n ⟨G,rfl,Nat.zero_le _,fun a b=>by rw [if_neg Zh]⟩ hf fun s st hr hI=>?_;obtain ⟨M,rfl,hrn,hM⟩:=hI
  rcases Nat.lt_or_ge s n with h | h
  · rw [hs s M h (fun a b ha=>by rw [hM,if_neg Zh]) (by rw [hM,if_neg Zh])];refine Zm ⟨h,_,rfl,h,fun a b=>?_⟩;rw [ABc]
    by_cases h1:a=j
    · subst h1;rw [if_pos rfl]
      by_cases h2:b=s
      · subst h2;rw [if_pos rfl,if_pos ⟨rfl,Nat.lt_succ_self b⟩]
      · rw [if_neg h2,hM]
        by_cases h3:b < s
        · rw [if_pos ⟨rfl,h3⟩,if_pos ⟨rfl,Zh⟩]
        · rw [if_neg (fun h=>h3 h.2),if_neg Zh]
    · rw [if_neg h1,hM,if_neg (fun h=>h1 h.1),if_neg (fun h=>h1 h.1)]
  · obtain rfl:s=n:=by omega
    rw [he];refine Zm (AM7 fun a b ha hb=>?_);rw [hM,ABc]
    by_cases h1:a=j
    · rw [if_pos ⟨h1,hb⟩,if_pos h1]
    · rw [if_neg (fun h=>h1 h.1),if_neg h1]
theorem Aj1 {n j l:Nat} {q c:Int} {G:Z1}:tab n n (ABv G j fun b=>(G j b + c * G l b) % q)=tab n n (Api q j l c G):=AM7 fun a b _ _=>by
  unfold Api;rw [ABc]
theorem AX6 {n j l r:Nat} {q c:Int} {M G:Z1} (h:∀ b,M r b=G r b):tab n n (ABv M r fun b=>if b=j then (M r j + c * M r l) % q else M r b)=tab n n (ABv M r (AQv q j l c G r)):=AX0 fun b _=>by
  unfold AQv;rw [h,h,h]
theorem AX7 {n i j r:Nat} {q c:Int} {M:Z1} (hq:0 < q) (Aa:q<=2147483647) (hc:0<=c/\c<=2147483647) (hi:i < n) (hj:j < n) (hr:r < n) (hn:n<=8) (hM:ATh n q fun _ b=>M r b):
    ((gI (tab n n M) (r:Int)).bind fun x=>(gI x (i:Int)).bind fun y=>(gI x (j:Int)).bind fun z=>if q≠0 then some (Sum.inl (β:=List (List Int)) (w64 ((r:Int) + 1),sI (tab n n M) (r:Int) (sI x (i:Int) (Int.tmod (w64 (y + w64 (c * z))) q)))) else none)=some (.inl (((r + 1:Nat):Int),tab n n (ABv M r fun b=>if b=i then (M r i + c * M r j) % q else M r b))):=by
 rw [ACr (AAz hr),ACr (AAq hi),ACr (AAq hj),if_pos Zh,Ajz hq Aa (hM 0 i Zh hi) (hM 0 j Zh hj) hc,AV2,AG9,ABp Zh]
theorem Agi {n j l s:Nat} {q c:Int} {M:Z1} (hq:0 < q) (Aa:q<=2147483647) (hc:0<=c/\c<=2147483647) (hj:j < n) (hl:l < n) (hs:s < n) (hn:n<=8) (h1:0<=M j s/\M j s < q) (h2:0<=M l s/\M l s < q):
    ((gI (tab n n M) (l:Int)).bind fun x=>(gI x (s:Int)).bind fun y=>(gI (tab n n M) (j:Int)).bind fun z=>(gI z (s:Int)).bind fun w=>if q≠0 then some (Sum.inl (β:=List (List Int)) (w64 ((s:Int) + 1),sI (tab n n M) (j:Int) (sI z (s:Int) (Int.tmod (w64 (w + w64 (c * y))) q)))) else none)=some (.inl (((s + 1:Nat):Int),tab n n (ABv M j fun b=>if b=s then (M j s + c * M l s) % q else M j b))):=by
 rw [ACr (AAz hl),ACr (AAq hs),ACr (AAz hj),ACr (AAq hs),if_pos Zh,Ajz hq Aa h1 h2 hc,AV2,AG9,ABp Zh]
theorem Agj {n i k r:Nat} {M:Z1} (hi:i < n) (hk:k < n) (hr:r < n) (hn:n<=8):
    ((gI (tab n n M) (r:Int)).bind fun x=>(gI x (i:Int)).bind fun y=>(gI x (k:Int)).bind fun z=>(gI (sI (tab n n M) (r:Int) (sI x (k:Int) y)) (r:Int)).bind fun u=>(gI u (i:Int)).bind fun w=>some (Sum.inl (β:=List (List Int)) (w64 ((r:Int) + 1),sI (sI (tab n n M) (r:Int) (sI x (k:Int) y)) (r:Int) (sI u (i:Int) z))))=some (.inl (((r + 1:Nat):Int),tab n n (ABv M r fun b=>M r (sw2 k i b)))):=by
 rw [ACr (AAz hr),ACr (AAq hi),ACr (AAq hk),AV2,AG9,ACr (AAz hr),ABr,ACr (AAq hi),AV2,AG9,ABp Zh];congr 3;refine AM7 fun a b ha hb=>?_;rw [ABc,ABc,ABc];by_cases h:a=r
 ·rw [if_pos h,if_pos h];unfold sw2;by_cases h1:b=i
  ·rw [if_pos h1,if_pos h1]
  ·rw [if_neg h1,if_neg h1];by_cases h2:b=k
   ·rw [if_pos h2,if_pos h2]
   ·rw [if_neg h2,if_neg h2]
 ·rw [if_neg h,if_neg h,if_neg h]
theorem Ah6 {body:Int × List (List Int) × List (List Int)->Option ((Int × List (List Int) × List (List Int)) ⊕ (List (List Int) × List (List Int)))} {fuel:Nat} {g t g' t':List (List Int)} (hf:3 < fuel) (h0:body (0,g,t)=some (.inl (1,g',t))) (h1:body (1,g',t)=some (.inl (2,g',t'))) (h2:body (2,g',t')=some (.inr (g',t'))):iter body fuel (0,g,t)=some (g',t'):=by
  obtain ⟨f,rfl⟩:∃ f,fuel=f + 3:=⟨fuel - 3,Zh⟩;rw [ASd h0,ASd h1,AP0 h2]
section
variable {fuel n i j k:Nat} {q c:Int} {G T:Z1}
theorem AX8 {n r:Nat} {q:Int} {M G:Z1} (hG:ATh n q G) (hr:r < n) (h:∀ b,M r b=G r b):ATh n q fun _ b=>M r b:=fun a b _ hb=>by
  show 0<=M r b/\M r b < q
  rw [h];exact hG r b hr hb
theorem Au9 (hq:1 < q) (hq2:q<=2147483647) (hn:n<=8) (hi:i < n) (hj:j < n) (hne:j≠i) (hG:ATh n q G) (hT:ATh n q T) (hf:100 < fuel):
    iter (fun s=>ADp fuel q (i:Int) (j:Int) s.1 s.2.1 s.2.2) fuel (0,tab n n G,tab n n T)=some (tab n n (AQv q i j 1 G),tab n n (AQv q i j 1 T))/\
    iter (fun s=>AEw fuel q (i:Int) (j:Int) (AB3 n (AQv q i j 1 G j)) s.1 s.2) fuel (0,tab n n (AQv q i j 1 G))=some (tab n n (AW2 q i j 1 G)):=by
  constructor
  · refine Ah6 Zh ?_ ?_ ?_
    · unfold ADp;dsimp only
      rw [if_pos Zk,if_pos rfl,AV4 (G:=G) (G':=AQv q i j 1 G) Zh (fun r M hr hM=>?_) fun X=>?_]
      · rfl
      · unfold AIj;dsimp only;rw [AAp,if_pos Zh,AX7 Zh hq2 Zh hi hj hr hn (AX8 hG hr hM),AX6 hM]
      · unfold AIj;dsimp only;rw [AAp,if_neg Zh]
    · unfold ADp;dsimp only
      rw [if_pos Zk,if_neg Zk,if_pos rfl,AV4 (G:=T) (G':=AQv q i j 1 T) Zh (fun r M hr hM=>?_) fun X=>?_]
      · rfl
      · unfold AIk;dsimp only;rw [AAp,if_pos Zh,AX7 Zh hq2 Zh hi hj hr hn (AX8 hT hr hM),AX6 hM]
      · unfold AIk;dsimp only;rw [AAp,if_neg Zh]
    · unfold ADp;dsimp only;rw [if_neg Zk]
  · have hG1:=AV3 (j:=i) (l:=j) (c:=1) Zh hG;unfold AW2
    rw [Aj0 (j:=i) (g:=fun b=>(AQv q i j 1 G i b + 1 * AQv q i j 1 G j b) % q) Zh (fun s M hs hM hMs=>?_) fun X=>?_,Aj1]
    · unfold AEw;dsimp only;rw [AA1,if_pos Zh,Agi Zh hq2 Zh hi hj hs hn (by rw [hMs];exact hG1 i s hi hs) (by rw [hM j s hne];exact hG1 j s hj hs),hMs,hM j s hne]
    · unfold AEw;dsimp only;rw [AA1,if_neg Zh]
theorem Ava (hn:n<=8) (hi:i < n) (hk:k < n) (hf:100 < fuel):
    iter (fun s=>AEx fuel (k:Int) (i:Int) s.1 s.2.1 s.2.2) fuel (0,sI (sI (tab n n G) (k:Int) (AB3 n (G i))) (i:Int) (AB3 n (G k)),tab n n T)=some (tab n n (swG k i G),tab n n (swC k i T)):=by
  have e0:sI (sI (tab n n G) (k:Int) (AB3 n (G i))) (i:Int) (AB3 n (G k))=tab n n fun a b=>G (sw2 k i a) b:=by
    rw [AG9,AG9];refine AM7 fun a b _ _=>?_;rw [ABc,ABc];unfold sw2
    by_cases h1:a=i
    · rw [if_pos h1,if_pos h1]
    · rw [if_neg h1,if_neg h1];by_cases h2:a=k
      · rw [if_pos h2,if_pos h2]
      · rw [if_neg h2,if_neg h2]
  rw [e0]
  refine Ah6 Zh ?_ ?_ ?_
  · unfold AEx;dsimp only
    rw [if_pos Zk,if_pos rfl,AV4 (G:=fun a b=>G (sw2 k i a) b) (G':=swG k i G) Zh (fun r M hr hM=>?_) fun X=>?_]
    · rfl
    · unfold AIl;dsimp only;rw [AAp,if_pos Zh,Agj hi hk hr hn];congr 3;exact AX0 fun b _=>by rw [hM];rfl
    · unfold AIl;dsimp only;rw [AAp,if_neg Zh]
  · unfold AEx;dsimp only
    rw [if_pos Zk,if_neg Zk,if_pos rfl,AV4 (G:=T) (G':=swC k i T) Zh (fun r M hr hM=>?_) fun X=>?_]
    · rfl
    · unfold AIm;dsimp only;rw [AAp,if_pos Zh,Agj hi hk hr hn];congr 3;exact AX0 fun b _=>by rw [hM];rfl
    · unfold AIm;dsimp only;rw [AAp,if_neg Zh]
  · unfold AEx;dsimp only;rw [if_neg Zk]
theorem Avb {S x v:Int} (hq:1 < q) (hq2:q<=2147483647) (hn:n<=8) (hi:i < n) (hj:j < n) (hne:j≠i) (hG:ATh n q G) (hT:ATh n q T) (hf:100 < fuel) (hc:Int.tmod (w64 (q - (Int.tmod (w64 ((w64 (Int.tdiv x S)) * v)) q))) q=c) (hc2:0<=c/\c < q):
    iter (fun s=>AEy fuel q (j:Int) S (i:Int) x v s.1 s.2.1 s.2.2) fuel (0,tab n n G,tab n n T)=some (tab n n (AQv q i j c G),tab n n (AQv q i j c T))/\
    iter (fun s=>AGo fuel q (j:Int) S (i:Int) x v (AB3 n (AQv q i j c G j)) s.1 s.2) fuel (0,tab n n (AQv q i j c G))=some (tab n n (AW2 q i j c G)):=by
  constructor
  · refine Ah6 Zh ?_ ?_ ?_
    · unfold AEy;dsimp only
      rw [if_pos Zk,if_pos rfl,AV4 (G:=G) (G':=AQv q i j c G) Zh (fun r M hr hM=>?_) fun X=>?_]
      · rfl
      · unfold AIn;dsimp only;simp only [hc];rw [AAp,if_pos Zh,AX7 Zh hq2 Zh hi hj hr hn (AX8 hG hr hM),AX6 hM]
      · unfold AIn;dsimp only;rw [AAp,if_neg Zh]
    · unfold AEy;dsimp only
      rw [if_pos Zk,if_neg Zk,if_pos rfl,AV4 (G:=T) (G':=AQv q i j c T) Zh (fun r M hr hM=>?_) fun X=>?_]
      · rfl
      · unfold AIo;dsimp only;simp only [hc];rw [AAp,if_pos Zh,AX7 Zh hq2 Zh hi hj hr hn (AX8 hT hr hM),AX6 hM]
      · unfold AIo;dsimp only;rw [AAp,if_neg Zh]
    · unfold AEy;dsimp only;rw [if_neg Zk]
  · have hG1:=AV3 (j:=i) (l:=j) (c:=c) Zh hG;unfold AW2
    rw [Aj0 (j:=i) (g:=fun b=>(AQv q i j c G i b + c * AQv q i j c G j b) % q) Zh (fun s M hs hM hMs=>?_) fun X=>?_,Aj1]
    · unfold AGo;dsimp only;simp only [hc];rw [AA1,if_pos Zh,Agi Zh hq2 Zh hi hj hs hn (by rw [hMs];exact hG1 i s hi hs) (by rw [hM j s hne];exact hG1 j s hj hs),hMs,hM j s hne]
    · unfold AGo;dsimp only;rw [AA1,if_neg Zh]
end
end Go.Proofs.YtdkldlbgcfpglaaGreatDoor
namespace Go.Proofs.YtdkldlbgcfpglaaGreatDoor
open Go Go.QF
set_option maxRecDepth 100000
structure PV (n k:Nat) (p:Int) (G:Z1) (r c E:Nat):Prop where
  hr:k<=r
  hrc:r<=c
  hc:c < n
  u:∃ u,G r c=u * p ^ E/\¬ p ∣ u
  dg:r≠c-> ∀ a,k<=a->a < n->p ^ (E + 1) ∣ G a a
def Dn (n k d i a e:Nat):Prop:=k<=a/\a + e < n/\(e < d∨e=d/\a < i)
def PSt (n k:Nat) (p:Int) (G:Z1) (d i r c:Nat) (l:Int):Prop:=
  (l= -1/\r=k/\c=k/\ ∀ a e,Dn n k d i a e->G a (a + e)=0)∨ ∃ E:Nat,l=E/\PV n k p G r c E/\ ∀ a e,Dn n k d i a e->p ^ E ∣ G a (a + e)
def PQ (n k:Nat) (p:Int) (G:Z1) (r c:Nat):Prop:= ∃ E,PV n k p G r c E/\ ∀ a e,k<=a->a + e < n->p ^ E ∣ G a (a + e)
theorem PSt.zero {n k d i r c:Nat} {p l:Int} {G:Z1} (H:PSt n k p G d i r c l) (hx:G i (i + d)=0):PSt n k p G d (i + 1) r c l:=by
 have key:∀ a e,Dn n k d (i + 1) a e->Dn n k d i a e∨(a=i/\e=d):=fun a e h=>by unfold Dn at *;omega
 rcases H with ⟨h1,h2,h3,h4⟩ | ⟨E,h1,h2,h3⟩
 ·refine .inl ⟨h1,h2,h3,fun a e h=>?_⟩;rcases key a e h with h | ⟨rfl,rfl⟩
  ·exact h4 a e h
  ·exact hx
 ·refine .inr ⟨E,h1,h2,fun a e h=>?_⟩;rcases key a e h with h | ⟨rfl,rfl⟩
  ·exact h3 a e h
  ·rw [hx];exact ⟨0,AA3⟩
theorem PSt.new {n k d i r c e:Nat} {p l u:Int} {G:Z1} (H:PSt n k p G d i r c l) (hi:k<=i) (hin:i + d < n) (hx:G i (i + d)=u * p ^ e) (hu: ¬ p ∣ u) (hl:l < 0∨(e:Int) < l):PSt n k p G d (i + 1) i (i + d) e:=by
  have key:∀ a e',Dn n k d (i + 1) a e'->Dn n k d i a e'∨(a=i/\e'=d):=fun a e h=>by unfold Dn at *;omega
  have all:∀ a e',Dn n k d i a e'->p ^ (e + 1) ∣ G a (a + e'):=fun a e' h=>by
    rcases H with ⟨h1,_,_,h4⟩ | ⟨E,rfl,_,h3⟩
    · rw [h4 a e' h];exact ⟨0,AA3⟩
    · exact Int.dvd_trans (AIt Zh) (h3 a e' h)
  refine .inr ⟨e,rfl,⟨hi,Zh,hin,⟨u,hx,hu⟩,fun hne a h1 h2=>?_⟩,fun a e' h=>?_⟩
  · exact all a 0 (by unfold Dn;omega)
  · rcases key a e' h with h | ⟨rfl,rfl⟩
    · exact Int.dvd_trans (AIt Zh) (all a e' h)
    · rw [hx];exact ⟨u,Int.mul_comm _ _⟩
theorem PSt.old {n k d i r c e:Nat} {p l u:Int} {G:Z1} (H:PSt n k p G d i r c l) (hx:G i (i + d)=u * p ^ e) (hl: ¬ l < 0) (Ac: ¬ (e:Int) < l):PSt n k p G d (i + 1) r c l:=by
 have key:∀ a e',Dn n k d (i + 1) a e'->Dn n k d i a e'∨(a=i/\e'=d):=fun a e h=>by unfold Dn at *;omega
 rcases H with ⟨rfl,_⟩ | ⟨E,rfl,h2,h3⟩
 ·exact absurd Zk hl
 ·refine .inr ⟨E,rfl,h2,fun a e' h=>?_⟩;rcases key a e' h with h | ⟨rfl,rfl⟩
  ·exact h3 a e' h
  ·rw [hx];exact Int.dvd_trans (AIt Zh) ⟨u,Int.mul_comm _ _⟩
theorem PSt.quit {n k d i r c f:Nat} {p:Int} {G:Z1} (H:PSt n k p G d i r c f) (hf:∀ a e,k<=a->a + e < n->p ^ f ∣ G a (a + e)):PQ n k p G r c:=by
 rcases H with ⟨h1,_⟩ | ⟨E,h1,h2,h3⟩
 ·omega
 ·obtain rfl:f=E:=by omega
  exact ⟨f,h2,hf⟩
theorem PSt.row {n k d r c:Nat} {p l:Int} {G:Z1} {i:Nat} (H:PSt n k p G d i r c l) (hi: ¬ i + d < n):PSt n k p G (d + 1) k r c l:=by
 have key:∀ a e,Dn n k (d + 1) k a e->Dn n k d i a e:=fun a e h=>by unfold Dn at *;omega
 rcases H with ⟨h1,h2,h3,h4⟩ | ⟨E,h1,h2,h3⟩
 ·exact .inl ⟨h1,h2,h3,fun a e h=>h4 a e (key a e h)⟩
 ·exact .inr ⟨E,h1,h2,fun a e h=>h3 a e (key a e h)⟩
section
variable {fuel n k f:Nat} {p q:Int} {G:Z1}
theorem Asa {d r c:Nat} {l:Int} (hp:2<=p) (hp2:p<=9973) (hq2:q<=2147483647) (hn:n<=8) (hG:ATh n q G) (hfl:∀ a e,k<=a->a + e < n->p ^ f ∣ G a (a + e)) (hd:d<=n) (hk:k < n) (hS:PSt n k p G d k r c l) (hlf:l≠f) (hf:100 < fuel):
    Ok (iter (fun s=>AJe fuel p (f:Int) (tab n n G) (d:Int) s.1 s.2.1 s.2.2.1 s.2.2.2) fuel ((r:Int),(c:Int),l,(k:Int))) fun ex=>(∃ r c:Nat,ex= .inl ((r:Int),(c:Int))/\PQ n k p G r c)∨ ∃ (r c:Nat) (l:Int),ex= .inr ((r:Int),(c:Int),l)/\PSt n k p G (d + 1) k r c l/\l≠f:=by
  refine AA9 (fun j s=> ∃ (r c:Nat) (l:Int),s=((r:Int),(c:Int),l,((k + j:Nat):Int))/\k + j<=n/\PSt n k p G d (k + j) r c l/\l≠f) (n - k) ⟨r,c,l,rfl,Zh,hS,hlf⟩ Zh fun j s hj hI=>?_;obtain ⟨r,c,l,rfl,hjn,hS,hlf⟩:=hI;unfold AJe;dsimp only;have e1:w64 (((k + j:Nat):Int) + (d:Int))=((k + j + d:Nat):Int):=by rw [wk Zh];omega
  rw [e1,AAp];refine AAj (fun h=>?_) fun h=>Zm (.inr ⟨r,c,l,rfl,hS.row Zh,hlf⟩);have hij:k + j + d < n:=by omega
  have hi:k + j < n:=by omega
  rw [ACr (AAz hi),ACr (AAq hij)];have hr:=hG (k + j) (k + j + d) hi hij
  have fin:∀ (F:(Int × Int × Int) ⊕ (Int × Int)->Option ((Int × Int × Int × Int) ⊕ ((Int × Int) ⊕ (Int × Int × Int)))) (R:(Int × Int × Int × Int) ⊕ ((Int × Int) ⊕ (Int × Int × Int))->Prop) (r c:Nat) (l:Int),(∀ a b e,F (.inl (a,b,e))=some (.inl (a,b,e,w64 (((k + j:Nat):Int) + 1))))->(∀ a b,F (.inr (a,b))=some (.inr (.inl (a,b))))->
      (∀ (r c:Nat) (l:Int),PSt n k p G d (k + (j + 1)) r c l->l≠f->R (.inl ((r:Int),(c:Int),l,((k + (j + 1):Nat):Int))))->(∀ r c:Nat,PQ n k p G r c->R (.inr (.inl ((r:Int),(c:Int)))))->PSt n k p G d (k + j + 1) r c l->Ok ((if l=f then some (Sum.inr ((r:Int),(c:Int))) else some (Sum.inl ((r:Int),(c:Int),l)):Option ((Int × Int × Int) ⊕ (Int × Int))).bind F) R:=by
    intro F R r c l h1 h2 h3 h4 hS
    by_cases hl:l=f
    · rw [if_pos hl];simp only [Option.bind_some];rw [h2];exact Zm (h4 r c ((hl ▸ hS).quit hfl))
    · rw [if_neg hl];simp only [Option.bind_some];rw [h1,ABp Zh];exact Zm (h3 r c l hS hl)
  by_cases h0:G (k + j) (k + j + d)=0
  · rw [if_pos h0];refine Zm ⟨Zh,r,c,l,?_,Zh,hS.zero h0,hlf⟩;show ((r:Int),(c:Int),l,w64 (((k + j:Nat):Int) + 1))=_;rw [ABp Zh];rfl
  · rw [if_neg h0];obtain ⟨b,hb,e,u,rfl,hx,hu⟩:=Abk hp hp2 (show 0 < G (k + j) (k + j + d) by omega) Zh hf;rw [hb];simp only [Option.bind_some]
    by_cases hl:l < 0
    · rw [if_pos hl];simp only [Option.bind_some];exact fin _ _ (k + j) (k + j + d) e (fun _ _ _=>rfl) (fun _ _=>rfl) (fun r c l hS hl=>⟨Zh,r,c,l,rfl,Zh,hS,hl⟩) (fun r c hQ=> .inl ⟨r,c,rfl,hQ⟩) (hS.new Zh hij hx hu (.inl hl))
    · rw [if_neg hl]
      by_cases hl2:(e:Int) < l
      · rw [if_pos hl2];simp only [Option.bind_some];exact fin _ _ (k + j) (k + j + d) e (fun _ _ _=>rfl) (fun _ _=>rfl) (fun r c l hS hl=>⟨Zh,r,c,l,rfl,Zh,hS,hl⟩) (fun r c hQ=> .inl ⟨r,c,rfl,hQ⟩) (hS.new Zh hij hx hu (.inr hl2))
      · rw [if_neg hl2];simp only [Option.bind_some];exact fin _ _ r c l (fun _ _ _=>rfl) (fun _ _=>rfl) (fun r c l hS hl=>⟨Zh,r,c,l,rfl,Zh,hS,hl⟩) (fun r c hQ=> .inl ⟨r,c,rfl,hQ⟩) (hS.old hx hl hl2)
theorem Asb (hp:2<=p) (hp2:p<=9973) (hq2:q<=2147483647) (hn:n<=8) (hG:ATh n q G) (hfl:∀ a e,k<=a->a + e < n->p ^ f ∣ G a (a + e)) (hk:k < n) (hne:∃ e,k + e < n/\G k (k + e)≠0) (hf:100 < fuel):
    Ok (iter (fun s=>AJf fuel p (f:Int) (k:Int) (tab n n G) s.1 s.2.1 s.2.2.1 s.2.2.2) fuel ((k:Int),(k:Int),(-1:Int),(0:Int))) fun ex=> ∃ r c:Nat,ex=((r:Int),(c:Int))/\PQ n k p G r c:=by
  refine AA9 (fun d s=> ∃ (r c:Nat) (l:Int),s=((r:Int),(c:Int),l,(d:Int))/\d<=n - k/\PSt n k p G d k r c l/\l≠f) (n - k) ⟨k,k,-1,rfl,Nat.zero_le _,.inl ⟨rfl,rfl,rfl,fun a e h=>by unfold Dn at h;omega⟩,Zh⟩ Zh fun d s hd hI=>?_;obtain ⟨r,c,l,rfl,hdn,hS,hlf⟩:=hI;unfold AJf;dsimp only;rw [AAp,ACe (x:=(n:Int) - (k:Int)) Zh Zh]
  refine AAj (fun h=>?_) fun h=>Zm ⟨r,c,rfl,?_⟩
  · refine Zq (Asa hp hp2 hq2 hn hG hfl Zh hk hS hlf hf) fun ex hex=>?_
    rcases hex with ⟨r,c,rfl,hQ⟩ | ⟨r,c,l,rfl,hS,hlf⟩
    · exact Zm ⟨r,c,rfl,hQ⟩
    · refine Zm ⟨Zh,r,c,l,?_,Zh,hS,hlf⟩;rw [ABp Zh]
  · obtain rfl:d=n - k:=by omega
    rcases hS with ⟨_,_,_,h4⟩ | ⟨E,_,h2,h3⟩
    · obtain ⟨e,he,hx⟩:=hne;exact absurd (h4 k e (by unfold Dn;omega)) hx
    · exact ⟨E,h2,fun a e h1 h5=>h3 a e (by unfold Dn;omega)⟩
end
end Go.Proofs.YtdkldlbgcfpglaaGreatDoor
namespace Go.Proofs.YtdkldlbgcfpglaaGreatDoor
open Go Go.QF
set_option maxRecDepth 100000
theorem Avc {T:List (List Int)} {n:Nat} (h1:T.length=n) (h2:∀ z∈T,z.length=n):T=tab n n (ent T):=by
 have:=AYe h2;rwa [h1] at this
theorem Apm {T:List (List Int)} {n:Nat} (h:∀ i,i < T.length-> ∀ z,T[i]? =some z->z.length=n):∀ z∈T,z.length=n:=fun z hz=>by
  obtain ⟨i,hi⟩:=List.getElem?_of_mem hz
  exact h i (List.getElem?_eq_some_iff.1 hi).1 z hi
theorem Aj2 {fuel n:Nat} {M T:List (List Int)} (hM:M.length=n) (hT:T.length<=8) (hf:100 < fuel):Ok (iter (fun s=>AI7 fuel M T s) fuel 0) fun ex=>(ex= .inr ()/\ ∀ i,i < T.length-> ∀ z,T[i]? =some z->z.length=n)∨(ex= .inl 3/\¬ ∀ i,i < T.length-> ∀ z,T[i]? =some z->z.length=n):=by
 refine AQf (n:=T.length) (fun i=> ∀ z,T[i]? =some z->z.length=n) 3 Zh (fun i hi=>?_) ?_
 ·obtain ⟨z,hz⟩:∃ z,T[i]? =some z:=⟨T[i],List.getElem?_eq_getElem hi⟩;unfold AI7;rw [if_pos Zh,ACr hz];exact AAj (fun h=>Zm (.inr ⟨rfl,fun h2=>h (by have:=h2 z hz;omega)⟩)) fun h=>Zm (.inl ⟨by rw [ABp Zh],fun y hy=>by rw [hz] at hy;cases hy;omega⟩)
 ·unfold AI7;rw [if_neg Zh]
theorem Asd {fuel:Nat} {T:List (List Int)} (hT:T.length<=8) (hf:100 < fuel):Ok (AF3 fuel T) fun b=>b=true↔ ∀ i,i < T.length-> ∀ z,T[i]? =some z->z.length=T.length:=by
 unfold AF3;refine Zq (AQf (n:=T.length) (fun i=> ∀ z,T[i]? =some z->z.length=T.length) false Zh (fun i hi=>?_) ?_) fun ex hex=>?_
 ·obtain ⟨z,hz⟩:∃ z,T[i]? =some z:=⟨T[i],List.getElem?_eq_getElem hi⟩;unfold AGm;rw [if_pos Zh,ACr hz];exact AAj (fun h=>Zm (.inr ⟨rfl,fun h2=>h (by have:=h2 z hz;omega)⟩)) fun h=>Zm (.inl ⟨by rw [ABp Zh],fun y hy=>by rw [hz] at hy;cases hy;omega⟩)
 ·unfold AGm;rw [if_neg Zh]
 ·rcases hex with ⟨rfl,h⟩ | ⟨rfl,h⟩
  ·exact Zm ⟨fun _=>h,fun _=>rfl⟩
  ·exact Zm ⟨fun h=>(nomatch h),fun h2=>absurd h2 h⟩
theorem Apn {L:List AF5} (h:∀ b∈L,b.2.1=1):Ah3 L=L.length:=by
 induction L with
 | nil=>rfl
 | cons b l ih=>
   have hb:=h b AA3
   unfold Ah3
   rw [ih fun c hc=>h c (by simp [hc]),List.length_cons];omega
theorem Agk {M:List (List Int)} {p v:Int} (R:AWz M) (hp:2<=p) (hp2:p<=9973) (h:Abu (det M.length (ent M)) p v):∃ k:Nat,((if p=2 then v + 3 else v + 1)=(k:Int))/\p ^ k<=2147483647/\1<=k/\(p=2->3<=k):=by
  obtain ⟨v1,v2⟩:=Abf R;obtain ⟨e,r,rfl,h1,h2⟩:=h;have hpe:0 < p ^ e:=Int.pow_pos Zh
  have hr:0 < r:=by
    rcases Int.lt_or_le 0 r with h | h
    · exact h
    · have:=Int.mul_nonpos_of_nonpos_of_nonneg h (Int.le_of_lt hpe);omega
  have hle:1 * p ^ e<=r * p ^ e:=Int.mul_le_mul_of_nonneg_right Zh Zh
  by_cases h:p=2
  · subst h;refine ⟨e + 3,by rw [if_pos rfl];rfl,?_,Zh,fun _=>by omega⟩;rw [Int.pow_add];have:(2:Int) ^ 3=8:=by decide
    omega
  · refine ⟨e + 1,by rw [if_neg h];rfl,?_,Zh,fun h2=>absurd h2 h⟩;rw [Int.pow_succ];have:=Int.mul_le_mul (show p ^ e<=10000 by omega) hp2 Zh Zh;omega
theorem Alo {fuel:Nat} {M T:List (List Int)} {p:Int} {L:List AF5} (hM:Arz M) (hg:2147483648 < fuel):∃ r,AEf fuel M p T L=some r/\AEu fuel M p T L=some r:=by
 have hf:100 < fuel:=by omega
 have e0:=Ahy hM hf;unfold AEf AEu;rw [e0];simp only [AOd,ALv,Ady,Option.bind_some]
 cases hr:isRed M with
 | false=>exact ⟨6,rfl,rfl⟩
 | true=>
   cases ho:AXq p with
   | false=>exact ⟨20,rfl,rfl⟩
   | true=>
     have R:=(ATf M).1 hr
     have ho':2 < p/\p<=9973/\Pr p:=by simpa [AXq] using ho
     simp only [Bool.not_true,Bool.false_eq_true,reduceIte]
     by_cases hT:(T.length:Int)=M.length
     · by_cases hL:(L.length:Int)=M.length
       · have hn:=R.1
         obtain ⟨n,hMn⟩:∃ n,M.length=n:=⟨_,rfl⟩
         rw [if_neg (show ¬ ¬ (T.length:Int)=M.length from fun h=>h hT),if_neg (show ¬ ¬ (L.length:Int)=M.length from fun h=>h hL),if_neg (show ¬ ¬ (T.length:Int)=M.length from fun h=>h hT),if_neg (show ¬ ¬ (L.length:Int)=M.length from fun h=>h hL)]
         simp only [Option.bind_some]
         obtain ⟨ex,h1,h2⟩:=Aj2 (fuel:=fuel) (T:=T) hMn Zh hf
         obtain ⟨b,h3,h4⟩:=Asd (fuel:=fuel) (T:=T) Zh hf
         rw [h1,h3]
         simp only [Option.bind_some]
         have hTn:T.length=n:=by omega
         rw [hTn] at h4 h2
         rcases h2 with ⟨rfl,h2⟩ | ⟨rfl,h2⟩
         · obtain rfl:b=true:=h4.2 h2
           rw [if_neg Zk]
           simp only [Option.bind_some]
           have hTt:=Avc hTn (Apm (T:=T) (n:=n) (by rw [hTn];exact h2))
           have hMt:=AVi R
           obtain ⟨v,hv,Ap,hj,hd⟩:=AYz (fuel:=fuel) R ho'.2.2 ho'.2.1 hf
           obtain ⟨k,hk,hq,Ad,Ai⟩:=Agk R Zh ho'.2.1 hv
           rw [hk] at hj hd
           rw [hj]
           simp only [Option.bind_some]
           rw [Abj Zh hq hf]
           simp only [Option.bind_some]
           rw [hMn] at hMt hn
           rw [hMt] at hd
           rw [hMt,hTt]
           obtain ⟨c,h5,h6⟩:=Ac1 (fuel:=fuel) (A:=ent M) (T:=ent T) (L:=L) hn.1 hn.2 (show 2<=p by omega) ho'.2.1 hq Ad (show L.length=n by omega) hg
           rw [h5]
           simp only [Option.bind_some]
           have hall:Ok (iter (fun s=>AE4 fuel L s) fuel 0) fun ex=>(ex= .inr ()/\ ∀ i,i < L.length-> ∀ b,L[i]? =some b->b.2.1=1)∨(ex= .inl 10/\¬ ∀ i,i < L.length-> ∀ b,L[i]? =some b->b.2.1=1):=by
             refine AQf (n:=L.length) (fun i=> ∀ b,L[i]? =some b->b.2.1=1) 10 Zh (fun i hi=>?_) ?_
             · obtain ⟨z,hz⟩:∃ z,L[i]? =some z:=⟨L[i],List.getElem?_eq_getElem hi⟩
               unfold AE4
               rw [if_pos Zh,ACr hz]
               exact AAj (fun h=>Zm (.inr ⟨rfl,fun h2=>h (h2 z hz)⟩)) fun h=>Zm (.inl ⟨by rw [ABp Zh],fun y hy=>by rw [hz] at hy;cases hy;omega⟩)
             · unfold AE4
               rw [if_neg Zh]
           obtain ⟨ex,h7,h8⟩:=hall
           rw [h7]
           simp only [Option.bind_some]
           rcases h8 with ⟨rfl,h8⟩ | ⟨rfl,h8⟩
           · have hsz:∀ b∈L,b.2.1=1:=fun b hb=>by
               obtain ⟨i,hi⟩:=List.getElem?_of_mem hb
               exact h8 i (List.getElem?_eq_some_iff.1 hi).1 b hi
             obtain ⟨d,h9,Ao⟩:=Alk (fuel:=fuel) (A:=ent M) (T:=ent T) (L:=L) hn.1 hn.2 hd (show 2<=p by omega) hq Ad Ai (fun b hb=> .inl (hsz b hb)) (by rw [Apn hsz];omega) (show L.length<=n by omega) Zh hf
             simp only []
             rw [h9]
             simp only [Option.bind_some]
             have:c=d:=by
               rw [Bool.eq_iff_iff,h6,Ao]
               exact Alm Zh hq Ad hsz Zh
             subst this
             cases c
             · exact ⟨10,rfl,rfl⟩
             · exact ⟨0,rfl,rfl⟩
           · have: ¬ c=true:=fun hc=>h8 fun i hi b hb=>by
               obtain ⟨e,u,rfl,-,-⟩:=((h6.1 hc).2.2 i Zh).1.2 b hb
               rfl
             exact ⟨10,by rw [if_pos (by simpa using this)],rfl⟩
         · have hb: ¬ b=true:=fun hb=>h2 (h4.1 hb)
           rw [if_pos (by simpa using hb)]
           exact ⟨3,rfl,rfl⟩
       · rw [if_neg (show ¬ ¬ (T.length:Int)=M.length from fun h=>h hT),if_pos (show ¬ (L.length:Int)=M.length from hL),if_neg (show ¬ ¬ (T.length:Int)=M.length from fun h=>h hT),if_pos (show ¬ (L.length:Int)=M.length from hL)];exact ⟨3,rfl,rfl⟩
     · rw [if_pos hT,if_pos hT];exact ⟨3,rfl,rfl⟩
theorem Apo {p:Int} (hp:Pr p):PrI p:=⟨hp.1,fun x y h=>by
  have h2:=hp.1
  refine Classical.byContradiction fun hn=>?_
  have hx:x % p≠0:=fun h=>hn (.inl (Int.dvd_of_emod_eq_zero h))
  have hy:y % p≠0:=fun h=>hn (.inr (Int.dvd_of_emod_eq_zero h))
  have h3:=Int.emod_nonneg x (show p≠0 by omega)
  have h4:=Int.emod_lt_of_pos x (show 0 < p by omega)
  have h5:=Int.emod_nonneg y (show p≠0 by omega)
  have h6:=Int.emod_lt_of_pos y (show 0 < p by omega)
  refine Atg hp (a:=x % p) (x:=y % p) Zh Zh Zh Zh ?_
  rw [<- Int.mul_emod]
  exact Int.emod_eq_zero_of_dvd h⟩
theorem Agl {p a:Int} (hp:Pr p) (ha: ¬ p ∣ a):∀ K:Nat,∃ y,p ^ (K + 1) ∣ y * a - 1
  | 0=>by
    have h2:=hp.1;have hx:a % p≠0:=fun h=>ha (Int.dvd_of_emod_eq_zero h);have h3:=Int.emod_nonneg a (show p≠0 by omega);have h4:=Int.emod_lt_of_pos a (show 0 < p by omega);obtain ⟨y,hy⟩:=Aad hp _ (a % p) (Nat.le_refl _) Zh h4;refine ⟨y,?_⟩;rw [Int.pow_succ,Int.pow_zero,Int.one_mul];refine ASb (m:=p) ?_;show y * a % p=1 % p;rw [Int.emod_eq_of_lt (a:=1) Zk Zh,<- hy];exact ((Eqm.refl p y).mul (Eqm.mod p a)).symm
  | K + 1=>by
    obtain ⟨y,z,hz⟩:=Agl hp ha K;refine ⟨y * (2 - y * a),?_⟩;have e:y * (2 - y * a) * a - 1= -((y * a - 1) * (y * a - 1)):=by grind
    rw [e,hz];refine Int.dvd_neg.2 (Int.dvd_trans (AIt (b:=K + 1 + (K + 1)) Zh) ?_);rw [Int.pow_add];exact ⟨z * z,by grind⟩
theorem Alp {p a:Int} {K:Nat} (hp:Pr p) (ha: ¬ p ∣ a) (hK:1<=K):∃ y,AZ8 (p ^ K) (a % p ^ K) y:=by
 obtain ⟨y,hy⟩:=Agl hp ha (K - 1);rw [show K - 1 + 1=K by omega] at hy;have hq:0 < p ^ K:=Int.pow_pos (by have:=hp.1;omega);refine ⟨y % p ^ K,Int.emod_nonneg _ Zh,Int.emod_lt_of_pos _ hq,?_⟩;exact ((Eqm.mod _ y).mul (Eqm.mod _ a)).trans (AWw hy)
theorem Apq {p u x:Int} {f E:Nat} (hp:PrI p) (hx:x=u * p ^ E) (hu: ¬ p ∣ u) (hf:p ^ f ∣ x):f<=E:=by
 rcases Nat.lt_or_ge E f with h | h
 ·exfalso;have h1:p ^ (E + 1) ∣ u * p ^ E:=hx ▸ Int.dvd_trans (AIt h) hf;obtain ⟨w,hw⟩:=h1;refine hu ⟨w,Int.eq_of_mul_eq_mul_left (AZy hp E) ?_⟩;rw [Int.pow_succ] at hw;grind
 ·exact h
theorem Avd {p u x:Int} {E K:Nat} (hp:PrI p) (hx:x=u * p ^ E) (hu: ¬ p ∣ u) (h0:0<=x/\x < p ^ K):E < K:=by
 rcases Nat.lt_or_ge E K with h | h
 ·exact h
 ·exfalso;have hpp:=hp.1;have h1:p ^ K ∣ x:=by rw [hx];exact Int.dvd_trans (AIt h) ⟨u,Int.mul_comm _ _⟩
  have h2:x=0:=by
    rcases Int.lt_or_le 0 x with h3 | h3
    · have:=Int.le_of_dvd h3 h1;omega
    · omega
  rw [h2] at hx;have hpE:p ^ E≠0:=AZy hp E;rcases Int.mul_eq_zero.1 hx.symm with h3 | h3
  ·exact hu (h3 ▸ ⟨0,AA3⟩)
  ·exact hpE h3
section
variable {fuel n K k:Nat} {p:Int} {H T G:Z1}
theorem JS.low {E:Nat} (S:JS n K p H T G k E) (hs:∀ i j,i < n->j < n->H i j=H j i) {E':Nat} (h:∀ a e,k<=a->a + e < n->p ^ E' ∣ G a (a + e)):JS n K p H T G k E':=⟨S.rt,S.rg,S.e,S.z,fun i j hi hin hj hjn=>by
  rcases Nat.lt_or_ge j i with hl | hl
  · rw [S.e.sym hs S.rg hin hjn]
    have:=h j (i - j) hj Zh
    rwa [show j + (i - j)=i by omega] at this
  · have:=h i (j - i) hi Zh
    rwa [show i + (j - i)=j by omega] at this⟩
theorem Ac3 {q:Int} {j l:Nat} {c:Int} {G:Z1} {a:Nat} (h:a≠j):AW2 q j l c G a a=G a a:=by
 rw [ATj,if_neg h,if_neg h]
theorem Apr {i j a:Nat} {G:Z1} (hi:a≠i) (hj:a≠j):swG i j G a a=G a a:=by
 unfold swG;rw [Aeg hi hj]
theorem Ase {E:Nat} {A v:Int} (S:JS n K p H T G k E) (hp:2<=p) (hq1:1 < p ^ K) (hq2:p ^ K<=2147483647) (hE:E<=K) (hn:n<=8) (hk:k < n) (hD:G k k=A * p ^ E) (hv:Eqm (p ^ K) (v * A) 1) (hv0:0<=v/\v < p ^ K) (hf:100 < fuel):
    Ok (iter (fun s=>AIp fuel (p ^ K) (k:Int) (p ^ E) [[v]] s.1 s.2.1 s.2.2) fuel (((k + 1:Nat):Int),tab n n G,tab n n T)) fun ex=> ∃ T' G',ex=(tab n n G',tab n n T')/\JS n K p H T' G' k E/\(∀ a,a<=k->G' a a=G a a)/\ ∀ j,k < j->j < n->G' k j=0:=by
  refine AA9 (fun i s=> ∃ T' G',s=(((k + 1 + i:Nat):Int),tab n n G',tab n n T')/\k + 1 + i<=n/\JS n K p H T' G' k E/\(∀ a,a<=k->G' a a=G a a)/\ ∀ j,k < j->j < k + 1 + i->G' k j=0) (n - (k + 1)) ⟨T,G,rfl,Zh,S,fun _ _=>rfl,fun j h1 h2=>by omega⟩ Zh fun i s hi hI=>?_;obtain ⟨T',G',rfl,hin,S',hd,hz⟩:=hI;unfold AIp;dsimp only;rw [AAp];refine AAj (fun h=>?_) fun h=>Zm ⟨T',G',rfl,S',hd,fun j h1 h2=>hz j h1 Zh⟩;obtain ⟨j,hj⟩:∃ j,j=k + 1 + i:=⟨_,rfl⟩;rw [<- hj] at h hin hz ⊢;have hjn:j < n:=by omega
  have hpE:0 < p ^ E:=Int.pow_pos Zh;rw [ACr (AAz hk),ACr (AAq hjn),if_pos Zh,AUk (x:=[v]) rfl,AUk (x:=v) rfl,if_pos Zh,if_pos Zh];have hx:=S'.rg k j hk hjn;obtain ⟨x,hxe⟩:∃ x,x=G' k j:=⟨_,rfl⟩;rw [<- hxe] at hx ⊢;have hdiv:0<=x / p ^ E/\x / p ^ E<=x:=⟨Int.ediv_nonneg hx.1 (Int.le_of_lt hpE),Int.ediv_le_self _ hx.1⟩;have hm0:0<=x / p ^ E * v:=Int.mul_nonneg hdiv.1 hv0.1;have hm1:x / p ^ E * v<=2147483647 * 2147483647:=Int.mul_le_mul Zh Zh hv0.1 Zk;have hc0:=AX4 (q:=p ^ K) Zh (x / p ^ E * v)
  have hc:Int.tmod (w64 (p ^ K - (Int.tmod (w64 ((w64 (Int.tdiv x (p ^ E))) * v)) (p ^ K)))) (p ^ K)=(p ^ K - (x / p ^ E * v) % p ^ K) % p ^ K:=by
    rw [Int.tdiv_eq_ediv_of_nonneg hx.1,ACe (x:=x / p ^ E) Zh Zh,ACe (x:=x / p ^ E * v) Zh Zh,Int.tmod_eq_emod_of_nonneg hm0,wk Zh,Int.tmod_eq_emod_of_nonneg Zh]
  obtain ⟨c,hce⟩:∃ c,c=(p ^ K - (x / p ^ E * v) % p ^ K) % p ^ K:=⟨_,rfl⟩;rw [<- hce] at hc;have hc2:0<=c/\c < p ^ K:=by rw [hce];exact AX4 Zh _
  obtain ⟨a1,a2⟩:=Avb (fuel:=fuel) (G:=G') (T:=T') hq1 hq2 hn hjn hk Zh S'.rg S'.rt hf hc hc2;rw [a1];simp only [Option.bind_some];rw [ACr (AAz hk),a2];simp only [Option.bind_some];have S2:=S'.add (c:=c) Zh hE (show k<=j by omega) hjn (Nat.le_refl k) hk Zh
  refine Zm ⟨Zh,_,_,?_,Zh,S2,fun a ha=>by rw [Ac3 Zh,hd a ha],fun j' h1 h2=>?_⟩
  · rw [hj,ABp Zh];rfl
  · rw [ATj,if_neg Zh]
    by_cases h3:j'=j
    · rw [if_pos h3,<- hxe,hd k (Nat.le_refl k),hce];exact Ah5 Zh Zh hx.1 (hxe ▸ S'.fl k j (Nat.le_refl k) hk Zh hjn) hD hv
    · rw [if_neg h3];exact hz j' h1 Zh
theorem Asf {f:Nat} {L:List AF5} {M:List (List Int)} (hM:M.length=n) (S:JS n K p H T G k f) (B:JL n p G L k f) (hs:∀ i j,i < n->j < n->H i j=H j i) (hd: ¬ p ^ K ∣ det n H) (hp:Pr p) (hp2:2 < p) (hp3:p<=9973) (hq2:p ^ K<=2147483647) (hK:1<=K) (hn:n<=8) (hk:k < n) (hf:2147483648 < fuel):
    ∃ T' G' L' E,AFd fuel M p (p ^ K) (f:Int) (k:Int) (tab n n G) (tab n n T) L=some (.inl ((E:Nat),((k + 1:Nat):Int),tab n n G',tab n n T',L'))/\JS n K p H T' G' (k + 1) E/\JL n p G' L' (k + 1) E:=by
  have hI:=Apo hp;have hf2:100 < fuel:=by omega
  have hq1:1 < p ^ K:=by
    have h1:p ^ 1<=p ^ K:=AEv Zh hK;rw [Int.pow_succ,Int.pow_zero,Int.one_mul] at h1;omega
  obtain ⟨j,hj1,hj2,hj3⟩:=S.e.some hd hk fun j hj=>by rw [S.e.sym hs S.rg hk Zh];exact S.z j k hj hk Zh
  obtain ⟨ex,hpv,r,c,rfl,E,P,hall⟩:=Asb (fuel:=fuel) (n:=n) (k:=k) (f:=f) (p:=p) (G:=G) Zh hp3 hq2 hn S.rg (fun a e h1 h2=>S.fl a (a + e) h1 Zh Zh h2) hk ⟨j - k,Zh,by rwa [show k + (j - k)=j by omega]⟩ hf2;have S1:=S.low hs hall;obtain ⟨u,hu,hpu⟩:=P.u;have hrn:r < n:=by have:=P.hrc;have:=P.hc;omega
  have hEK:=Avd hI hu hpu (S.rg r c hrn P.hc);have hfE:=Apq hI hu hpu (S.fl r c P.hr hrn (by have:=P.hr;have:=P.hrc;omega) P.hc)
  have key:∃ T1 G1,(((if ¬ (r:Int)=(c:Int) then ((((iter (fun s=>ADp fuel (p ^ K) (r:Int) (c:Int) s.1 s.2.1 s.2.2) fuel (0,tab n n G,tab n n T)).bind (fun ((e1,e2):(List (List Int)) × (List (List Int)))=>((gI e1 (c:Int)).bind fun x=>((iter (fun s=>AEw fuel (p ^ K) (r:Int) (c:Int) x s.1 s.2) fuel (0,e1)).bind (fun (e:(List (List Int)))=>(some ( (e,e2)))))))):Option ((List (List Int)) × (List (List Int)))).bind fun (e1,e2)=>(some ( (e1,e2)))) else (some ( (tab n n G,tab n n T)))):Option (((List (List Int)) × (List (List Int))))))=some (tab n n G1,tab n n T1)/\JS n K p H T1 G1 k E/\(∃ u,G1 r r=u * p ^ E/\¬ p ∣ u)/\ ∀ a,a < k->G1 a a=G a a:=by
    by_cases hrc:r=c
    · subst hrc;exact ⟨T,G,by rw [if_neg AA3],S1,⟨u,hu,hpu⟩,fun _ _=>rfl⟩
    · obtain ⟨a1,a2⟩:=Au9 (fuel:=fuel) (G:=G) (T:=T) hq1 hq2 hn hrn P.hc (fun h=>hrc h.symm) S.rg S.rt hf2;refine ⟨_,_,?_,S1.add (c:=1) Zh Zh P.hr hrn (by have:=P.hr;have:=P.hrc;omega) P.hc (fun h=>hrc h.symm),S1.pivot hs hI (fun h=>by have:=Int.le_of_dvd Zk h;omega) hEK P.hr hrn (by have:=P.hr;have:=P.hrc;omega) P.hc (fun h=>hrc h.symm) hu hpu (P.dg hrc r P.hr hrn) (P.dg hrc c (by have:=P.hr;have:=P.hrc;omega) P.hc),fun a ha=>Ac3 (by have:=P.hr;omega)⟩;rw [if_pos Zh,a1];simp only [Option.bind_some];rw [ACr (AAz P.hc),a2];rfl
  obtain ⟨T1,G1,e1,S2,⟨u1,hu1,hpu1⟩,hd1⟩:=key;have S3:=S2.swap (Nat.le_refl k) hk P.hr hrn
  have hdk:swG k r G1 k k=u1 * p ^ E:=by
    have:swG k r G1 k k=G1 r r:=by
      unfold swG sw2
      by_cases h:k=r
      · rw [if_pos h,h]
      · rw [if_neg h,if_pos rfl]
    rw [this,hu1]
  have hkk:=S3.rg k k hk hk
  have hpos:0 < swG k r G1 k k:=by
    rcases Int.lt_or_le 0 (swG k r G1 k k) with h | h
    · exact h
    · exfalso;have h0:swG k r G1 k k=0:=by omega
      rw [h0] at hdk
      rcases Int.mul_eq_zero.1 hdk.symm with h3 | h3
      · exact hpu1 (h3 ▸ ⟨0,AA3⟩)
      · exact AZy hI E h3
  obtain ⟨b,hb,hbi⟩:=Abk (fuel:=fuel) (show 2<=p by omega) hp3 hpos Zh hf2;obtain rfl:=Apd (show 2<=p by omega) hbi (⟨E,u1,rfl,hdk,hpu1⟩:IsB p _ _);obtain ⟨v,hv,hvi⟩:=Au8 (f:=fuel) (x:=u1) (m:=p ^ K) Zh hq2 (Alp hp hpu1 hK) hf;have hvq:Eqm (p ^ K) (v * u1) 1:=((Eqm.refl _ v).mul (Eqm.mod _ u1)).symm.trans hvi.2.2;obtain ⟨ex,hcl,T2,G2,rfl,S4,hd2,hz2⟩:=Ase (fuel:=fuel) S3 Zh hq1 hq2 Zh hn hk hdk hvq ⟨hvi.1,hvi.2.1⟩ hf2;have hLk:=B.len
  refine ⟨T2,G2,L ++ [((E:Int),1,u1,0,0)],E,?_,S4.next hs hk hz2,(B.keep fun a ha=>?_).push ?_ ?_ rfl hfE⟩
  · unfold AFd;rw [hM,if_pos Zh,hpv];simp only [Option.bind_some];rw [e1];simp only [Option.bind_some];rw [ACr (AAz hrn),ACr (AAz hk),Ava hn hrn hk hf2];simp only [Option.bind_some];rw [ACr (AAz hk),ACr (AAq hk),hb];simp only [Option.bind_some];rw [Abj Zh (Int.le_trans (AEv Zh (Nat.le_of_lt hEK)) hq2) hf2];simp only [Option.bind_some];rw [hv];simp only [Option.bind_some];rw [ABp Zh,hcl];simp only [Option.bind_some];rw [if_pos Zh]
  · rw [hd2 a Zh,Apr Zh (by have:=P.hr;omega),hd1 a ha]
  · rw [hd2 k (Nat.le_refl k)];omega
  · rw [hd2 k (Nat.le_refl k)];exact ⟨E,u1,rfl,hdk,hpu1⟩
end
theorem Aps {fuel n:Nat} {M:List (List Int)} (hM:M.length=n) (hn:n<=8) (hf:100 < fuel):iter (fun s=>AJg fuel M s.1 s.2) fuel (0,[])=some (tab n n dl):=by
  apply ok_eq;refine AA9 (fun i s=>s=((i:Int),AB3 i fun a=>AB3 n (dl a))/\i<=n) n ⟨rfl,Nat.zero_le _⟩ Zh fun i s hi hI=>?_;obtain ⟨rfl,hin⟩:=hI;unfold AJg;dsimp only;rw [hM]
  refine AAj (fun h=>?_) fun h=>?_
  · have hi:i < n:=by omega
    rw [if_pos Zh,AA1,if_pos Zh,Int.toNat_natCast,AE1 n (0:Int)]
    have hget:(AB3 i (fun a=>AB3 n (dl a)) ++ [AB3 n fun _=>(0:Int)])[i]? =some (AB3 n fun _=>(0:Int)):=by
      rw [List.getElem?_append_right (by rw [AA1];exact Nat.le_refl _),AA1,Nat.sub_self];rfl
    rw [ACr hget,ACr (AAq hi),AV2,ABp Zh];refine Zm ⟨hi,?_,hi⟩;congr 1;rw [ABx,List.set_append,if_neg (by rw [AA1];omega),AA1,Nat.sub_self];show AB3 i (fun a=>AB3 n (dl a)) ++ [AB3 n fun c=>if c=i then 1 else 0]=_
    have:AB3 n (fun c=>if c=i then (1:Int) else 0)=AB3 n (dl i):=ABn fun c _=>by
      unfold dl
      by_cases h:c=i
      · rw [if_pos h,if_pos h.symm]
      · rw [if_neg h,if_neg (fun e=>h e.symm)]
    rw [this];unfold AB3;rw [List.range_succ,List.map_append];rfl
  · obtain rfl:i=n:=by omega
    exact Zm rfl
theorem Ave {fuel:Nat} {M:List (List Int)} {m:Int} (R:AWz M) (hm:2<=m) (Aa:m<=2147483647) (hf:100 < fuel):AI4 fuel M m=some (tab M.length M.length fun i j=>ent M i j % m,0):=by
 have hM:=AVi R;unfold AI4 ABs;have h1:AFt fuel M=some true:=by rw [hM];exact AVj R.1.1 R.1.2 hf
 have h2:ACo fuel M m=some (tab M.length M.length fun i j=>ent M i j % m):=by
   conv=>lhs;rw [hM]
   exact Abh R.1.2 hm Aa hf
 rw [h1];simp only [Option.bind_some];rw [if_neg Zk,if_neg Zh,if_neg Zh];simp only [Option.bind_some];rw [if_neg Zk,h2];rfl
theorem Avf {fuel:Nat} {M:List (List Int)} {p:Int} (R:AWz M) (hp:Pr p) (hp2:2 < p) (hp3:p<=9973) (hf:2147483648 < fuel):
    ∃ (K E:Nat) (T G:Z1) (L:List AF5),AG7 fuel M p=some ((p,tab M.length M.length T,L),0)/\ACw fuel M p=some (K:Int)/\1<=K/\p ^ K<=2147483647/\Abu (det M.length (ent M)) p ((K:Int) - 1)/\JS M.length K p (ent M) T G M.length E/\JL M.length p G L M.length E:=by
  have hf2:100 < fuel:=by omega
  obtain ⟨v,hv,hv2,hj,-⟩:=AYz (fuel:=fuel) R hp hp3 hf2;obtain ⟨K,hk,hq,hk1,-⟩:=Agk R Zh hp3 hv;rw [hk] at hj;rw [if_neg Zh] at hk
  have hq1:2<=p ^ K:=by
    have h1:p ^ 1<=p ^ K:=AEv Zh hk1;rw [Int.pow_succ,Int.pow_zero,Int.one_mul] at h1;omega
  have hI:=Apo hp;have hn:=R.1.2;have hs:∀ i j,i < M.length->j < M.length->ent M i j=ent M j i:=fun i j hi hj=>R.2.2.sym i j hi hj
  have hd: ¬ p ^ K ∣ det M.length (ent M):=fun h=>by
    obtain ⟨e,r,he,h1,h2⟩:=hv;have:=Apq (f:=K) hI h1 h2 h;omega
  unfold AG7;have hrd:isRed M=true:=(ATf M).2 R;have hod:AXq p=true:=(AT9 ⟨hp2,hp3,hp⟩).symm;simp only [AOd,ALv,Option.bind_some,hrd,hod];rw [if_neg Zk,if_neg Zk,hj];simp only [Option.bind_some];rw [Abj Zh hq hf2];simp only [Option.bind_some];rw [Ave R hq1 hq hf2];simp only [Option.bind_some];rw [Aps rfl hn hf2];simp only [Option.bind_some]
  have S0:JS M.length K p (ent M) dl (fun i j=>ent M i j % p ^ K) 0 0:=⟨fun i j _ _=>by
    unfold dl;split <;> omega,fun i j _ _=>AX4 Zh _,Au6 fun i j _ _=>Eqm.mod _ _,fun i j h=>absurd h (Nat.not_lt_zero i),fun i j _ _ _ _=>⟨ent M i j % p ^ K,by rw [Int.pow_zero,Int.one_mul]⟩⟩
  have B0:JL M.length p (fun i j=>ent M i j % p ^ K) [] 0 0:=⟨rfl,fun i b h=>by simp at h,fun i hi b c h=>by simp at h⟩
  have main:Ok (iter (fun s=>AFd fuel M p (p ^ K) s.1 s.2.1 s.2.2.1 s.2.2.2.1 s.2.2.2.2) fuel (0,0,tab M.length M.length (fun i j=>ent M i j % p ^ K),tab M.length M.length dl,[])) fun ex=> ∃ (E:Nat) (T G:Z1) (L:List AF5),ex=(tab M.length M.length G,tab M.length M.length T,L)/\JS M.length K p (ent M) T G M.length E/\JL M.length p G L M.length E:=by
    refine AA9 (fun i s=> ∃ (E:Nat) (T G:Z1) (L:List AF5),s=((E:Int),(i:Int),tab M.length M.length G,tab M.length M.length T,L)/\i<=M.length/\JS M.length K p (ent M) T G i E/\JL M.length p G L i E) M.length ⟨0,_,_,_,rfl,Nat.zero_le _,S0,B0⟩ Zh fun i s hi hI=>?_;obtain ⟨E,T,G,L,rfl,hin,S,B⟩:=hI;dsimp only
    rcases Nat.lt_or_ge i M.length with h | h
    · obtain ⟨T',G',L',E',h1,h2,h3⟩:=Asf (fuel:=fuel) (M:=M) rfl S B hs hd hp hp2 hp3 hq hk1 hn h hf;rw [h1];exact Zm ⟨h,E',T',G',L',rfl,h,h2,h3⟩
    · obtain rfl:i=M.length:=by omega
      unfold AFd;rw [if_neg Zh];exact Zm ⟨E,T,G,L,rfl,S,B⟩
  obtain ⟨ex,h1,E,T,G,L,rfl,S,B⟩:=main;rw [h1];exact ⟨K,E,T,G,L,rfl,rfl,hk1,hq,by rwa [show (K:Int) - 1=v by omega],S,B⟩
end Go.Proofs.YtdkldlbgcfpglaaGreatDoor
namespace Go.Proofs.YtdkldlbgcfpglaaGreatDoor
open Go Go.QF
set_option maxRecDepth 100000
theorem pr3:Pr 3:=⟨Zh,fun d h1 h2=>by
  obtain rfl:d=2:=by omega
  decide⟩
theorem Awu:AXq 3=true:=by simp [AXq,pr3]
theorem As5:isRed [[2,1],[1,2]]=true:=by
 unfold isRed
 rw [<- AG6 (M:=[[2,1],[1,2]]) ⟨Zk,Zk,fun i j hi hj=>by
   have hi:i < 2:=hi
   have hj:j < 2:=hj
   rcases (by omega:i=0∨i=1) with rfl | rfl <;> rcases (by omega:j=0∨j=1) with rfl | rfl <;> decide⟩]
 decide +kernel
theorem Awv:Abu 3 3 1:=⟨1,1,rfl,Zk,Zk⟩
theorem Aej:AG2 (ADr + 1)=some true:=by
 have Aa:100 < ADr + 1:=Nat.lt_of_le_of_lt Zk (Nat.lt_succ_self ADr);have R:=(ATf _).1 As5;have hd:det 2 (ent [[2,1],[1,2]])=3:=by decide +kernel
 obtain ⟨v,h1,h2,h3,h4⟩:=AYz (fuel:=ADr + 1) R (p:=3) pr3 Zh Aa;obtain rfl:v=1:=Ad9 Zh (by simpa [hd] using h1) Awv;rw [if_neg Zk] at h3;have h5:=Abj (fuel:=ADr + 1) (p:=3) (k:=2) Zh Zk Aa;unfold AG2 AJd ALw AEf ALv AOd;simp only [Awu,As5,h3,Option.bind_some,Bool.not_true,Bool.false_eq_true,reduceIte];decide +kernel
end Go.Proofs.YtdkldlbgcfpglaaGreatDoor
namespace Go.Proofs.YtdkldlbgcfpglaaGreatDoor
open Go Go.QF
set_option maxRecDepth 100000
set_option maxHeartbeats 4000000
noncomputable def AD3 (fuel:Nat) (a1 a2:Int) (a5 a9:LiA) (Ah:Int):Option Bool:=
  ((AD1 fuel a1 a2 a5 a9 7).bind fun Ab=>((AFp fuel Ah).bind fun Ac=>((AG7 fuel Ab Ac).bind fun (Aa,Ai)=>(if Ai=0 then (if Aa.1=Ac then ((AEu fuel Ab Aa.1 Aa.2.1 Aa.2.2).bind fun Aj=>(if Aj=0 then ((AEf fuel Ab Aa.1 Aa.2.1 Aa.2.2).bind fun Ak=>(if Ak=0 then ((AG2 fuel).bind fun Am=>(some Am)) else (some false))) else (some false))) else (some false)) else (some false)))))
theorem ANv {fuel:Nat} {h:Zu} {a1 a2:Int} {Af:Value} {a5:LiA} {Ag:Value} {a9:LiA} {Ay:Int} {r:Bool} (H4:SlC (cI .i8) h Af a5) (H8:SlC (cI .i8) h Ag a9) (HO:AU3 h) (hp:AD3 fuel a1 a2 a5 a9 Ay=some r):AAv Tryz.prog 4 #[(.agg #[(.int .u8 a1),(.int .u8 a2),Af,Ag]),(.int .u8 Ay)] h (fun x h'=>Ext h h'/\x= .bool r):=by
 unfold AD3 at hp;refine cwf (l:=[_,_]) Tryz.func4 rfl rfl (Zn (AG8 (Kst.k0 h) [(.int .u8 a1),(.int .u8 a2),Af,Ag] fun B3 B4 B5 Ah=>AA4 (ANd [(.int .u8 a1),(.int .u8 a2),Af,Ag] Aoe rfl rfl (Ah.b p0).agg ?_)));obtain ⟨B6,A8,A9⟩:=Zp hp;refine AMv Ah (APg (H4.ext Ah.x) (H8.ext Ah.x) A8) fun B7 B8 B9 Ca Cb Cd Ba=>Zj ?_;obtain ⟨Bb,Bc,Be⟩:=Zp A9;refine ACl Ba (AQs Bc) fun Ce Cf Ar=>AAl (AA4 (Zj (Zj ?_)));obtain ⟨⟨Ac,Bf⟩,Bg,Au⟩:=Zp Be;dsimp only at Au;refine ANz rfl (AUp (Ar.o2 p0).rd (HO.ext Ar.x) Bg) fun Cg Ch Bh Bi=>?_;obtain ⟨Ai,Aj,Bj,Bl,Bm,Bn,rfl,Bo,Bp,Bq⟩:=Bi;have Az:=Ar.n Bh [aO2 (cI .i64) 60 2 Bj Bl Bm Ai Ac.2.1,aO AOr 59 Bn Aj Ac.2.2] Bq ⟨Bo,Bp,trivial⟩;simp only [List.cons_append,List.nil_append] at Az;refine Zj (ABl rfl rfl (ABl rfl rfl (AC1 Az [(.int .i64 0),(.slice none 0 0),(.slice none 0 0)] Ade fun Ci Cj Ck Ak=>AB8 [(.int .i64 Ac.1),Ai,Aj] ANl rfl rfl rfl rfl (AJz rfl (AJz (Ak.o2 p1).isOne (AJz (Ak.o p2).isOne AVv))) (Ak.b p0) fun Cm Br Bt=>AA4 (Zj (AB2 rfl rfl (Zj ?_))))));have Aa:=Ak.sb p0 Bt Br rfl;by_cases Am:Bf=0
 ·have A3:=ifT Au Am;rw [decide_eq_true Am];refine AAb 21 true (ACh AKq rfl (AAb 21 true (AA7 AAk rfl ((Aa.b p0).cell (i:=0) rfl) (AAb 21 true (Zj (AAb 21 true (AB2 rfl rfl (Z4 rfl (Zj ?_)))))))));by_cases Ao:Ac.1=Bb
  ·rw [decide_eq_true Ao];refine AAb 27 true (Zj (AAb 27 true (ANd [(.int .i64 Ac.1),Ai,Aj] ANl rfl rfl (Aa.b p0).agg (AAb 27 true ?_))));obtain ⟨Bu,Bv,A4⟩:=Zp (ifT A3 Ao);refine ACl Aa (ARz (Aa.o2 p3).rd (Aa.o2 p1).rd (Aa.o p2).rd Bv) fun Cn Co Ab=>AAb 27 true (AB2 rfl rfl (Z4 rfl (Zj ?_)));by_cases Ap:Bu=0
   ·rw [decide_eq_true Ap];refine AAb 33 true (Zj (AAb 33 true (ANd [(.int .i64 Ac.1),Ai,Aj] ANl rfl rfl (Ab.b p0).agg (AAb 33 true ?_))));obtain ⟨Bw,Bx,A5⟩:=Zp (ifT A4 Ap);refine ACl Ab (ARm (Ab.o2 p3).rd (Ab.o2 p1).rd (Ab.o p2).rd (HO.ext Ab.x) Bx) fun Cp Cq Av=>AAb 33 true (AB2 rfl rfl (Z4 rfl (Zj ?_)));by_cases Aq:Bw=0
    ·rw [decide_eq_true Aq];refine AAb 39 true ?_;obtain ⟨Cr,By,Bz⟩:=Zp (ifT A5 Aq);refine ACl Av (ASs (HO.ext Av.x) By) fun Ct Cu B1=>Z4 rfl (Zt (Zw ?_));obtain rfl:=Zl Bz;exact ⟨_,Zy,B1.x,rfl⟩
    ·rw [decide_eq_false Aq];refine AU2 39 false (Zz rfl (Zt (Zw ?_)));obtain rfl:=Zl (ifF A5 Aq);exact ⟨_,Zy,Av.x,rfl⟩
   ·rw [decide_eq_false Ap];refine ADb 33 false (Zz rfl (Zj (AU2 39 false (Zz rfl (Zt (Zw ?_))))));obtain rfl:=Zl (ifF A4 Ap);exact ⟨_,Zy,Ab.x,rfl⟩
  ·rw [decide_eq_false Ao];refine ADb 27 false (Zz rfl (Zj (ADb 33 false (Zz rfl (Zj (AU2 39 false (Zz rfl (Zt (Zw ?_)))))))));obtain rfl:=Zl (ifF A3 Ao);exact ⟨_,Zy,Aa.x,rfl⟩
 ·rw [decide_eq_false Am];refine ADb 21 false (Zz rfl (Zj (ADb 27 false (Zz rfl (Zj (ADb 33 false (Zz rfl (Zj (AU2 39 false (Zz rfl (Zt (Zw ?_))))))))))));obtain rfl:=Zl (ifF Au Am);exact ⟨_,Zy,Aa.x,rfl⟩
end Go.Proofs.YtdkldlbgcfpglaaGreatDoor
namespace Go.Proofs.YtdkldlbgcfpglaaGreatDoor
open Go Go.QF
set_option maxRecDepth 100000
theorem Asg {fuel K:Nat} {M:List (List Int)} {p:Int} {T:Z1} {L:List AF5} (R:AWz M) (hp:Pr p) (Ad:2 < p) (Ab:p<=9973) (hj:ACw fuel M p=some (K:Int)) (hq:p ^ K<=2147483647) (Ae:1<=K) (hl:L.length=M.length) (hJ:JC M.length K p (ent M) T L) (hg:2147483648 < fuel):AEf fuel M p (tab M.length M.length T) L=some 0:=by
 have hf:100 < fuel:=by omega
 unfold AEf;have hr:isRed M=true:=(ATf M).2 R;have ho:AXq p=true:=(AT9 ⟨Ad,Ab,hp⟩).symm;simp only [AOd,ALv,Option.bind_some,hr,ho];rw [if_neg Zk,if_neg Zk,AAp,if_neg (fun h=>h rfl),if_neg (by rw [hl];exact fun h=>h rfl)];simp only [Option.bind_some];obtain ⟨ex,h1,h2⟩:=Aj2 (fuel:=fuel) (M:=M) (T:=tab M.length M.length T) (n:=M.length) rfl (by rw [AAp];exact R.1.2) hf;rw [h1];simp only [Option.bind_some];rcases h2 with ⟨rfl,h2⟩ | ⟨rfl,h2⟩
 ·simp only [];rw [hj];simp only [Option.bind_some];rw [Abj Zh hq hf];simp only [Option.bind_some];obtain ⟨c,h5,h6⟩:=Ac1 (fuel:=fuel) (A:=ent M) (T:=T) (L:=L) R.1.1 R.1.2 (show 2<=p by omega) Ab hq Ae hl hg;rw [<- AVi R] at h5;rw [h5];simp only [Option.bind_some];rw [h6.2 hJ];rfl
 ·exact absurd (fun i hi z hz=>by
    rw [AAp] at hi
    rw [AAz hi] at hz
    cases hz
    exact AA1 _ _) h2
theorem Avg (n:Nat) (h2:2<=n) (h:((List.range n).all fun d=>decide (d < 2) || decide (n % d≠0))=true):Pr (n:Int):=⟨Zh,fun d h3 h4=>by
  have h5:=List.all_eq_true.1 h d.toNat (List.mem_range.2 Zh)
  rw [Bool.or_eq_true,decide_eq_true_eq,decide_eq_true_eq] at h5
  rcases h5 with h5 | h5
  · omega
  · intro h6
    apply h5
    have:((n % d.toNat:Nat):Int)=0:=by rw [Int.natCast_emod,Int.toNat_of_nonneg Zh,h6]
    omega⟩
theorem pr8 (n:Nat) (h2:2<=n) (h:((List.range n).all fun d=>decide (d < 2) || decide (n % d≠0))=true) (h3:2 < n) (h4:n<=23):Pr (n:Int)/\2 < (n:Int)/\(n:Int)<=23:=⟨Avg n h2 h,Zh,Zh⟩
theorem Ah7 {fuel:Nat} {k:Int} (hk:0<=k/\k < 256):Ok (AFp fuel k) fun p=>Pr p/\2 < p/\p<=23:=by
 unfold AFp;obtain ⟨q,h1,h2⟩:=Aid k 8 hk.1 Zk;refine AAs (n:=q) (List.getElem?_eq_getElem (by exact h2)) h1 (Zm ?_);rcases (by omega:q=0∨q=1∨q=2∨q=3∨q=4∨q=5∨q=6∨q=7) with rfl | rfl | rfl | rfl | rfl | rfl | rfl | rfl
 ·exact pr8 3 Zk (by decide +kernel) Zk Zk
 ·exact pr8 5 Zk (by decide +kernel) Zk Zk
 ·exact pr8 7 Zk (by decide +kernel) Zk Zk
 ·exact pr8 11 Zk (by decide +kernel) Zk Zk
 ·exact pr8 13 Zk (by decide +kernel) Zk Zk
 ·exact pr8 17 Zk (by decide +kernel) Zk Zk
 ·exact pr8 19 Zk (by decide +kernel) Zk Zk
 ·exact pr8 23 Zk (by decide +kernel) Zk Zk
theorem Apt {fuel:Nat} {M:List (List Int)} {p:Int} (hM:Arz M) (R:AWz M) (hp:Pr p) (hp2:2 < p) (hp3:p<=9973) (hf:2147483648 < fuel):∃ T L,AG7 fuel M p=some ((p,T,L),0)/\AEf fuel M p T L=some 0/\AEu fuel M p T L=some 0:=by
  obtain ⟨K,E,T,G,L,h1,h2,h3,h4,h5,S,B⟩:=Avf R hp hp2 hp3 hf;have hv:=Asg R hp hp2 hp3 h2 h4 h3 B.len (Awf S B Zh h3) hf;obtain ⟨r,h6,h7⟩:=Alo (p:=p) (T:=tab M.length M.length T) (L:=L) hM hf;rw [hv] at h6;cases h6;exact ⟨_,L,h1,hv,h7⟩
theorem AUq {g kd k:Int} {Z Y:List Int} (hg:0<=g/\g < 256) (hk:0<=k/\k < 256):AD3 (ADr + 1) g kd Z Y k=some true:=by
 have hf:ADr < ADr + 1:=Nat.lt_succ_self _;have Aa:2147483648 < ADr + 1:=Nat.lt_of_le_of_lt Zk hf;apply ok_eq;unfold AD3;refine Zq (Auv hg Zk hf) fun M hM=>Zq (Ah7 hk) fun p hp=>?_;obtain ⟨n,A,rfl,h1,h2,RF,-⟩:=hM;obtain ⟨T,L,e1,e2,e3⟩:=Apt (Ao7 Zh RF) (Ar1 h1 Zh RF) hp.1 hp.2.1 Zh Aa;rw [e1];simp only [Option.bind_some];rw [if_pos trivial,if_pos trivial,e3];simp only [Option.bind_some];rw [if_pos trivial,e2];simp only [Option.bind_some];rw [if_pos trivial,Aej];exact Zm rfl
end Go.Proofs.YtdkldlbgcfpglaaGreatDoor
