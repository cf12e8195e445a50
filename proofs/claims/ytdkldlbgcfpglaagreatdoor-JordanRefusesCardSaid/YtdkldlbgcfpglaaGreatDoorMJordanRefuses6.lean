/-
  Texts of a proof, joined. Conditions stand in each statement.
-/
import Derived.Test.YtdkldlbgcfpglaaGreatDoorMJordanRefuses5
set_option linter.unusedVariables false
set_option linter.unusedSimpArgs false
namespace Go.Proofs.YtdkldlbgcfpglaaGreatDoor
open Go Go.QF
set_option maxRecDepth 100000
set_option maxHeartbeats 4000000
def AN9 (fuel:Nat) (a1 a2:Int):Option Int:=
  (if a2≠0 then (if a2≠0 then (some (Int.tmod (w64 ((Int.tmod a1 a2) + a2)) a2)) else none) else none)
theorem ARy {fuel:Nat} {h:Zv} {a1 a2 r:Int} (hp:AN9 fuel a1 a2=some r):AAw Tryz.prog 102 #[(.int .i64 a1),(.int .i64 a2)] h (fun x h'=>Ext h h'/\x= .int .i64 r):=by
 unfold AN9 at hp;refine cwf (l:=[_,_]) Tryz.func102 rfl rfl (Zo (AA5 (Zk (Zk ?_))));obtain ⟨Ac,Ad⟩:=ifN hp;refine ADk rfl rfl Ac (Zk (AAx rfl rfl (Zk ?_)));obtain ⟨Ae,Af⟩:=ifN Ad;refine ADk rfl rfl Ae (Zu (Zx ?_));obtain rfl:=Zm Af;exact ⟨_,Zz,(Kst.k0 h).x,rfl⟩
def ASp (fuel:Nat) (Ac Aa Ab:Int):Option ((Int × Int) ⊕ ((Int × Int))):=
  (if (Int.tmod Aa 2)=0 then (if (Int.tmod Ac 8)=3 then (some (Sum.inl ((w64 (Int.tdiv Aa 2)),(w64 (0 - Ab))))) else (if (Int.tmod Ac 8)=5 then (some (Sum.inl ((w64 (Int.tdiv Aa 2)),(w64 (0 - Ab))))) else (some (Sum.inl ((w64 (Int.tdiv Aa 2)),Ab))))) else (some (Sum.inr<| (Aa,Ab))))
def ASq (fuel:Nat) (Ad Aa Ae:Int):Option ((Int × Int × Int) ⊕ ((Int × Int))):=
  (if ¬ Ad=0 then ((iter (fun s=>ASp fuel Aa s.1 s.2) fuel (Ad,Ae)).bind (fun ((Ab,Ac):Int × Int)=>(((if (Int.tmod Ab 4)=3 then (if (Int.tmod Aa 4)=3 then (some ( (w64 (0 - Ac)))) else (some ( Ac))) else (some ( Ac))):Option ((Int))).bind (fun (Af:Int)=>(if Ab≠0 then (some (Sum.inl ((Int.tmod Aa Ab),Ab,Af))) else none))))) else (some (Sum.inr<| (Aa,Ae))))
def ARz (fuel:Nat) (a1 a2:Int):Option Int:=
  ((iter (fun s=>ASq fuel s.1 s.2.1 s.2.2) fuel (a1,a2,1)).bind (fun ((Ac,Ad):Int × Int)=>(if ¬ Ac=1 then (some 0) else (some Ad))))
theorem AYf {fuel:Nat} {h:Zv} {a1 a2 r:Int} (hp:ARz fuel a1 a2=some r):AAw Tryz.prog 103 #[(.int .i64 a1),(.int .i64 a2)] h (fun x h'=>Ext h h'/\x= .int .i64 r):=by
 unfold ARz at hp;refine cwf (l:=[_,_]) Tryz.func103 rfl rfl (Zo (AA5 (Zu (Zp (Zt ?_)))));have K0:=Kst.k0 h;refine AG5 137438953443 hp (fun x=>[(0,(.int .i64 x.1)),(1,(.int .i64 x.2.1)),(5,(.int .i64 x.2.2))]) (fun x=>K0.L) K0 ⟨rfl,rfl,rfl,trivial⟩ ?_;rintro ⟨u9,Ay,Bc⟩ Be h6 y5 K8 Ae Az;unfold ASq at Ae;refine Zp (Zo (Zk (ACp rfl rfl (Zs (⟨_,rfl,fun Af=>?_,fun Af=>?_⟩)))))
 ·refine Zw (q_t (Zt (Zp (Zt (AG5 8388385 (AA8 Ae Af) (fun x=>[(0,(.int .i64 x.1)),(5,(.int .i64 x.2))]) (fun x=>K8.L) K8 ⟨rfl,rfl,trivial⟩ ?_)))));rintro ⟨A3,Ag⟩ Bh Bi Bj Aa Ah A4;unfold ASp at Ah;refine Zp (Zo (Zk (ADk rfl rfl Zl (ABx rfl rfl (Zs (⟨_,rfl,fun Ai=>?_,fun Ai=>?_⟩))))))
  ·refine Zw (q_t (Zt (Zo (Zk (AU5 rfl rfl Zl (AA5 (Zk (ADk rfl rfl Zl (ABx rfl rfl (Zk ?_))))))))));have Ar:=AA8 Ah Ai;by_cases Ac:(Int.tmod Ay 8)=3
   ·rw [decide_eq_true Ac];refine AC8 16 true (AAa rfl (Zs (AAr rfl (AAc (Zk (AWh rfl (AAn (AAo (q_b (q_t ?_))))))))));exact ⟨_,(Zm (ifT Ar Ac)).symm,Aa,rfl,rfl,trivial⟩
   ·have Au:=ifF Ar Ac;rw [decide_eq_false Ac];refine Z4 16 false (Zk (Z4 16 false (ADk rfl rfl Zl (Z4 16 false (ABx rfl rfl (Z1 rfl (Zs (⟨_,rfl,fun Aj=>?_,fun Aj=>?_⟩))))))))
    ·refine AAc (Zk (AWh rfl (AAn (AAo (q_b (q_t ?_))))));exact ⟨_,(Zm (AA8 Au Aj)).symm,Aa,rfl,rfl,trivial⟩
    ·refine Zw (q_b (q_t ?_));exact ⟨_,(Zm (AA9 Au Aj)).symm,Aa,rfl,rfl,trivial⟩
  ·refine AAj (AAk (AAk (ABm (q_t ?_))));obtain ⟨A5,Av,A6⟩:=Zq (A4 _ (Zm (AA9 Ah Ai)).symm);refine AKi 8581546016 (fun x:(Int)=>[(5,(.int .i64 x))]) (fun x h'=>( x)=A5/\Kst h h' (Aa.L)) ?_ ?_
   ·refine Zo (Zk (ADk rfl rfl Zl (ABx rfl rfl (Zk ?_))));by_cases Ad:(Int.tmod A3 4)=3
    ·have Aw:=ifT Av Ad;rw [decide_eq_true Ad];refine Z4 26 true (Zk (Z4 26 true (ADk rfl rfl Zl (Z4 26 true (ABx rfl rfl (AAa rfl (Zs (⟨_,rfl,fun Ak=>?_,fun Ak=>?_⟩))))))))
     ·refine AAc (Zk (AWh rfl (Zu ?_)));exact ⟨((w64 (0 - Ag)):(Int)),⟨Zm (AA8 Aw Ak),Aa⟩,rfl,trivial⟩
     ·refine Zw (q_t ?_);exact ⟨(Ag:(Int)),⟨Zm (AA9 Aw Ak),Aa⟩,rfl,trivial⟩
    ·rw [decide_eq_false Ad];refine AC8 26 false (Z1 rfl (Zs (AAy rfl (Zw (q_t ?_)))));exact ⟨(Ag:(Int)),⟨Zm (ifF Av Ad),Aa⟩,rfl,trivial⟩
   rintro Bl Bm Bn ⟨A7,A8⟩;subst A7;refine AAc (Zk (Zk ?_));obtain ⟨A9,Ba⟩:=ifN A6;refine ADk rfl rfl A9 (Zk (AAn (AAn (AAo (q_b (q_t ?_))))));exact ⟨_,(Zm Ba).symm,A8,rfl,rfl,rfl,trivial⟩
 ·refine AAj (AAk (AAk (ABm (q_t (Zp (Zo (Zk (ACp rfl rfl (Zs ?_)))))))));have Ax:=Az _ (Zm (AA9 Ae Af)).symm;refine ⟨_,rfl,fun Am=>?_,fun Am=>?_⟩
  ·refine Zo (Zu (Zx (AAd ?_)));obtain rfl:=Zm (AA8 Ax Am);exact ⟨_,Zz,K8.x,rfl⟩
  ·refine Zw (q_t (Zo (Zk (Zu (Zx ?_)))));obtain rfl:=Zm (AA9 Ax Am);exact ⟨_,Zz,K8.x,rfl⟩
def AQb (fuel:Nat) (a1 Ab Aa:Int):Option ((Int × Int) ⊕ (((Int × Int)) ⊕ (Int × Int))):=
  (if (Int.tmod Ab 2)=0 then (if (Int.tmod a1 2)=0 then (some (Sum.inr<| Sum.inl <| (0,0))) else ((((AN9 fuel a1 8).bind fun Ad=>(if Ad=3 then (some ( (w64 (0 - Aa)))) else (if Ad=5 then (some ( (w64 (0 - Aa)))) else (some ( Aa))))):Option ((Int))).bind (fun (Ae:Int)=>(some (Sum.inl ((w64 (Int.tdiv Ab 2)),Ae)))))) else (some (Sum.inr<| Sum.inr <| (Ab,Aa))))
def APh (fuel:Nat) (a1 a2:Int):Option (Int × Int):=
  (((if a1 < (-2147483647) then (some (Sum.inl <| (0,1))) else (if 2147483647 < a1 then (some (Sum.inl <| (0,1))) else (if a2 < (-2147483647) then (some (Sum.inl <| (0,1))) else (if 2147483647 < a2 then (some (Sum.inl <| (0,1))) else (some (Sum.inr <| ())))))):Option (((Int × Int)) ⊕ (Unit))).bind (fun ex=>match ex with | Sum.inl Ad=>(some Ad) | Sum.inr (_)=>(if a2=0 then (if a1=1 then (some (1,0)) else (if a1=(-1) then (some (1,0)) else (some (0,0)))) else (((if a2 < 0 then (if a1 < 0 then (some ( ((w64 (0 - a2)),(-1)))) else (some ( ((w64 (0 - a2)),1)))) else (some ( (a2,1)))):Option ((Int × Int))).bind (fun ((Ae,Af):Int × Int)=>((iter (fun s=>AQb fuel a1 s.1 s.2) fuel (Ae,Af)).bind (fun ex=>match ex with | Sum.inl Ag=>(some Ag) | Sum.inr ((Ac,Ah))=>((AN9 fuel a1 Ac).bind fun Ai=>((ARz fuel Ai Ac).bind fun Aj=>(some ((w64 (Ah * Aj)),0)))))))))))
theorem AVt {fuel:Nat} {h:Zv} {a1 a2:Int} {r:(Int × Int)} (hp:APh fuel a1 a2=some r):AAw Tryz.prog 53 #[(.int .i64 a1),(.int .i64 a2)] h (fun x h'=>Ext h h'/\x= .tuple #[.int .i64 r.1,.int .i64 r.2]):=by
 unfold APh at hp;refine cwf (l:=[_,_]) Tryz.func53 rfl rfl (Zo (AAn (Zu ?_)));have K0:=Kst.k0 h;obtain ⟨Bh,A3,Ad⟩:=Zq hp;refine AKi 4194096 (fun x:Unit=>[]) (fun x h'=>(Sum.inr <| ())=Bh/\Kst h h' (K0.L)) ?_ ?_
 ·refine Zo (Zk (AAv rfl rfl (Zk ?_)));by_cases Af:a1 < (-2147483647)
  ·rw [decide_eq_true Af];refine AG3 10 true (AAa rfl (Zk (AG3 14 true (AAa rfl (Zk (AG3 18 true (AAa rfl (Zs (AAr rfl (Zo (AAn (Zu ?_))))))))))));obtain rfl:=Zm (ifT A3 Af);refine Zx (AAd ?_);obtain rfl:=Zm Ad;exact ⟨_,ABi,K0.x,rfl⟩
  ·have A4:=ifF A3 Af;rw [decide_eq_false Af];refine Z4 10 false (Zk (Z4 10 false (AF1 rfl rfl (Z1 rfl (Zk ?_)))));by_cases Ag:2147483647 < a1
   ·rw [decide_eq_true Ag];refine AG3 14 true (AAa rfl (Zk (AG3 18 true (AAa rfl (Zs (AAr rfl (Zo (AAn (Zu ?_)))))))));obtain rfl:=Zm (ifT A4 Ag);refine Zx (AAd ?_);obtain rfl:=Zm Ad;exact ⟨_,ABi,K0.x,rfl⟩
   ·have A5:=ifF A4 Ag;rw [decide_eq_false Ag];refine Z4 14 false (Zk (Z4 14 false (AAv rfl rfl (Z1 rfl (Zk ?_)))));by_cases Ah:a2 < (-2147483647)
    ·rw [decide_eq_true Ah];refine AG3 18 true (AAa rfl (Zs (AAr rfl (Zo (AAn (Zu ?_))))));obtain rfl:=Zm (ifT A5 Ah);refine Zx (AAd ?_);obtain rfl:=Zm Ad;exact ⟨_,ABi,K0.x,rfl⟩
    ·have A6:=ifF A5 Ah;rw [decide_eq_false Ah];refine Z4 18 false (Zk (Z4 18 false (AF1 rfl rfl (Z1 rfl (Zs (⟨_,rfl,fun Am=>?_,fun Am=>?_⟩))))))
     ·refine Zo (AAn (Zu ?_));obtain rfl:=Zm (AA8 A6 Am);refine Zx (AAd ?_);obtain rfl:=Zm Ad;exact ⟨_,ABi,K0.x,rfl⟩
     ·refine Zw (q_t ?_);exact ⟨(():Unit),⟨Zm (AA9 A6 Am),K0⟩,trivial⟩
 rintro ⟨⟩ B3 B4 ⟨Bi,Aa⟩;subst Bi;refine Zp (Zo (Zk (ABx rfl rfl (Zs (⟨_,rfl,fun Ao=>?_,fun Ao=>?_⟩)))))
 ·refine Zp (Zo (Zk (ABx rfl rfl (Zk ?_))));have A7:=AA8 Ad Ao;by_cases Ai:a1=1
  ·rw [decide_eq_true Ai];refine AG3 26 true (AAa rfl (Zs (AAr rfl (Zo (AAn (Zu (Zx (AAd (AAd ?_)))))))));obtain rfl:=Zm (ifT A7 Ai);exact ⟨_,ABi,Aa.x,rfl⟩
  ·have A8:=ifF A7 Ai;rw [decide_eq_false Ai];refine Z4 26 false (Zk (Z4 26 false (ABx rfl rfl (Z1 rfl (Zs (⟨_,rfl,fun Ap=>?_,fun Ap=>?_⟩))))))
   ·refine Zo (AAn (Zu (Zx (AAd (AAd ?_)))));obtain rfl:=Zm (AA8 A8 Ap);exact ⟨_,ABi,Aa.x,rfl⟩
   ·refine Zw (q_t (Zo (AAn (Zu (Zx (AAd ?_))))));obtain rfl:=Zm (AA9 A8 Ap);exact ⟨_,ABi,Aa.x,rfl⟩
 ·refine Zw (q_t (Zo (Zu ?_)));obtain ⟨Bj,A9,Bl⟩:=Zq (AA9 Ad Ao);refine AKi 67645734978 (fun x:(Int) × (Int)=>[(1,(.int .i64 x.1)),(6,(.int .i64 x.2))]) (fun x h'=>( (x.1,x.2))=Bj/\Kst h h' (Aa.L)) ?_ ?_
  ·refine Zo (Zk (AAv rfl rfl (Zs (⟨_,rfl,fun Aq=>?_,fun Aq=>?_⟩))))
   ·refine Zo (Zk (AWh rfl (AA5 (Zk (AAv rfl rfl (Zs ?_))))));have Ba:=AA8 A9 Aq;refine ⟨_,rfl,fun Ar=>?_,fun Ar=>?_⟩
    ·refine AAc (Zu ?_);exact ⟨(((w64 (0 - a2)),(-1)):(Int) × (Int)),⟨Zm (AA8 Ba Ar),Aa⟩,rfl,rfl,trivial⟩
    ·refine Zw (q_t ?_);exact ⟨(((w64 (0 - a2)),1):(Int) × (Int)),⟨Zm (AA9 Ba Ar),Aa⟩,rfl,rfl,trivial⟩
   ·refine Zw (q_t ?_);exact ⟨((a2,1):(Int) × (Int)),⟨Zm (AA9 A9 Aq),Aa⟩,rfl,rfl,trivial⟩
  rintro ⟨u64,B5⟩ B6 B7 ⟨Bm,Bb⟩;subst Bm;refine Zp (Zt (AG5 18014329790005490 Bl (fun x=>[(1,(.int .i64 x.1)),(6,(.int .i64 x.2))]) (fun x=>Bb.L) Bb ⟨rfl,rfl,trivial⟩ ?_));rintro ⟨B8,Au⟩ B9 Ca Cb Aj Av Bc;unfold AQb at Av;refine Zp (Zo (Zk (ADk rfl rfl Zl (ABx rfl rfl (Zs (⟨_,rfl,fun Aw=>?_,fun Aw=>?_⟩))))))
  ·refine Zw (q_t (Zt (Zp (Zo (Zk (ADk rfl rfl Zl (ABx rfl rfl (Zs ?_))))))));have Be:=AA8 Av Aw;refine ⟨_,rfl,fun Ax=>?_,fun Ax=>?_⟩
   ·refine Zo (AAn (Zu (Zx (AAd (ABg (AAd (ABg (AAd ?_))))))));obtain rfl:=Zm (Bc _ (Zm (AA8 Be Ax)).symm);exact ⟨_,ABi,Aj.x,rfl⟩
   ·refine Zw (q_t ?_);obtain ⟨Bn,Bo,Bp⟩:=Zq (AA9 Be Ax);refine AKi 4499201580859584 (fun x:(Int)=>[(6,(.int .i64 x))]) (fun x h'=>( x)=Bn/\Kst h h' (Aj.L)) ?_ ?_
    ·refine Zo (Zk ?_);obtain ⟨Bq,Br,Bf⟩:=Zq Bo;refine ACa Aj (ARy Br) fun Cd Ce Ay=>AA5 (Zk (ABx rfl rfl (Zk ?_)));by_cases Ak:Bq=3
     ·rw [decide_eq_true Ak];refine AG3 46 true (AAa rfl (Zs (AAr rfl (AAc (Zk (AWh rfl (Zu ?_)))))));exact ⟨((w64 (0 - Au)):(Int)),⟨Zm (ifT Bf Ak),Ay⟩,rfl,trivial⟩
     ·have Bg:=ifF Bf Ak;rw [decide_eq_false Ak];refine Z4 46 false (Zk (Z4 46 false (ABx rfl rfl (Z1 rfl (Zs (⟨_,rfl,fun Az=>?_,fun Az=>?_⟩))))))
      ·refine AAc (Zk (AWh rfl (Zu ?_)));exact ⟨((w64 (0 - Au)):(Int)),⟨Zm (AA8 Bg Az),Ay⟩,rfl,trivial⟩
      ·refine Zw (q_t ?_);exact ⟨(Au:(Int)),⟨Zm (AA9 Bg Az),Ay⟩,rfl,trivial⟩
    rintro Cf Cg Ch ⟨Bt,Bu⟩;subst Bt;refine AAc (Zk (AU5 rfl rfl Zl (AAn (AAo (q_b (q_t ?_))))));exact ⟨_,(Zm Bp).symm,Bu,rfl,rfl,trivial⟩
  ·refine AAj (AAk (AAk (ABm (q_t (Zo (Zk (Zk (Zk ?_))))))));obtain ⟨Ci,Bv,Bw⟩:=Zq (Bc _ (Zm (AA9 Av Aw)).symm);refine ACa Aj (ARy Bv) fun Cj Ck Bx=>Zk ?_;obtain ⟨Cm,By,Bz⟩:=Zq Bw;refine ACa Bx (AYf By) fun Cn Co B1=>AL9 rfl rfl (AAn (Zu (Zx ?_)));obtain rfl:=Zm Bz;exact ⟨_,ABi,B1.x,rfl⟩
noncomputable def AN7 (fuel:Nat) (a1:Int) (a8:(List AGb)) (Ae:(List AQx)) (Ad:Int):Option (((List AQx) × Int) ⊕ ((((List AQx) × Bool)) ⊕ ((List AQx)))):=
  (if Ad < (a8.length:Int) then ((gI a8 Ad).bind fun Aa=>(((if ¬ Aa.2.1=1 then (some (Sum.inl <| ([],false))) else (if Aa.1 < 0 then (some (Sum.inl <| ([],false))) else (if 60 < Aa.1 then (some (Sum.inl <| ([],false))) else (if ¬ Aa.2.2.2.1=0 then (some (Sum.inl <| ([],false))) else (if ¬ Aa.2.2.2.2=0 then (some (Sum.inl <| ([],false))) else (if a1≠0 then (if (Int.tmod Aa.2.2.1 a1)=0 then (some (Sum.inl <| ([],false))) else (some (Sum.inr <| ()))) else none)))))):Option ((((List AQx) × Bool)) ⊕ (Unit))).bind (fun ex=>match ex with | Sum.inl Ai=>(some (Sum.inr<| Sum.inl <| Ai)) | Sum.inr (_)=>(((if 0 < Ad then ((gI a8 (w64 (Ad - 1))).bind fun Aj=>(if Aa.1 < Aj.1 then (some (Sum.inl <| ([],false))) else (some (Sum.inr <| ())))) else (some (Sum.inr <| ()))):Option ((((List AQx) × Bool)) ⊕ (Unit))).bind (fun ex=>match ex with | Sum.inl Ak=>(some (Sum.inr<| Sum.inl <| Ak)) | Sum.inr (_)=>(((if Ad=0 then (if Ae.length<=100000000 then (some ( (Ae ++ [(Aa.1,0,1,false,0)]))) else none) else ((gI a8 (w64 (Ad - 1))).bind fun Am=>(if Am.1 < Aa.1 then (if Ae.length<=100000000 then (some ( (Ae ++ [(Aa.1,0,1,false,0)]))) else none) else (some ( Ae))))):Option (((List AQx)))).bind (fun (Ac:(List AQx))=>(if a1≠0 then ((APh fuel (Int.tmod Aa.2.2.1 a1) a1).bind fun (Ao,Ap)=>((gI Ac (w64 ((Ac.length:Int) - 1))).bind fun Ab=>((gI (sI Ac (w64 ((Ac.length:Int) - 1)) (Ab.1,(w64 (Ab.2.1 + 1)),Ab.2.2.1,Ab.2.2.2.1,Ab.2.2.2.2)) (w64 ((Ac.length:Int) - 1))).bind fun Ag=>(some (Sum.inl ((sI (sI Ac (w64 ((Ac.length:Int) - 1)) (Ab.1,(w64 (Ab.2.1 + 1)),Ab.2.2.1,Ab.2.2.2.1,Ab.2.2.2.2)) (w64 ((Ac.length:Int) - 1)) (Ag.1,Ag.2.1,(w64 (Ag.2.2.1 * Ao)),Ag.2.2.2.1,Ag.2.2.2.2)),(w64 (Ad + 1)))))))) else none)))))))) else (some (Sum.inr<| Sum.inr <| Ae)))
noncomputable def AJk (fuel:Nat) (a1:Int) (a4:LiI) (a8:(List AGb)):Option ((List AQx) × Bool):=
  ((((AKo fuel a1).bind fun Ac=>(if (!Ac)=true then (some (Sum.inl <| ([],false))) else (if (a8.length:Int) < 1 then (some (Sum.inl <| ([],false))) else (if 8 < (a8.length:Int) then (some (Sum.inl <| ([],false))) else (some (Sum.inr <| ())))))):Option ((((List AQx) × Bool)) ⊕ (Unit))).bind (fun ex=>match ex with | Sum.inl Ad=>(some Ad) | Sum.inr (_)=>((iter (fun s=>AN7 fuel a1 a8 s.1 s.2) fuel ([],0)).bind (fun ex=>match ex with | Sum.inl Ae=>(some Ae) | Sum.inr (Af)=>(some (Af,true))))))
theorem AS3 {fuel:Nat} {h:Zv} {a1:Int} {A6:Value} {a4:LiI} {A7:Value} {a8:(List AGb)} {r:((List AQx) × Bool)} (H3:ACx (cI .i64) h A6 a4) (H7:SlC AOp h A7 a8) (HO:AVa h) (hp:AJk fuel a1 a4 a8=some r):AAw Tryz.prog 19 #[(.agg #[(.int .i64 a1),A6,A7])] h (fun x h'=>Ext h h'/\ ∃ (x0:Value) (F0:List Nat),x= .tuple #[x0,.bool r.2]/\OwC AQg 48 h' F0 x0 r.1/\Sp h' h.size [F0]):=by
 unfold AJk at hp;refine cwf (l:=[_]) Tryz.func19 rfl rfl (Zo (AHb (Kst.k0 h) [(.int .i64 a1),A6,A7] fun Ea Eb Ec Ao=>AAn (Zu ?_)));obtain ⟨Cn,Co,Ap⟩:=Zq hp;refine AKi 67107852 (fun x:Unit=>[]) (fun x h'=>(Sum.inr <| ())=Cn/\Kst h h' (Ao.L)) ?_ ?_
 ·refine Zo (ADj ALu AAl (Ao.b p0) 0 rfl ?_);obtain ⟨Cp,Cq,By⟩:=Zq Co;refine ACa Ao (ASk (HO.ext Ao.x) Cq) fun Ed Ee Ah=>ACr rfl (Zk ?_);cases Bz:(!Cp)
  ·refine Z4 14 false (ACd AHq rfl (Z4 14 false (AA7 AOf rfl ((Ah.b p0).cell (i:=2) rfl) (Z4 14 false (ABj AMs rfl H7 (Z4 14 false (AAv rfl rfl (Z1 rfl (Zk ?_)))))))));have B1:=AFe By Bz;by_cases Aq:(a8.length:Int) < 1
   ·rw [decide_eq_true Aq];refine AD0 20 true (AAa rfl (Zs (AAr rfl (Zo (AAn (Zu ?_))))));obtain rfl:=Zm (ifT B1 Aq);refine Zx (AAd ?_);have A9:=Kst.anil AQg 48 Ah;obtain rfl:=Zm Ap;exact ⟨_,ABi,A9.x,_,_,rfl,(A9.o p0),A9.s.sel [0] Zl⟩
   ·have B3:=ifF B1 Aq;rw [decide_eq_false Aq];refine Z4 20 false (ACd AHq rfl (Z4 20 false (AA7 AOf rfl ((Ah.b p0).cell (i:=2) rfl) (Z4 20 false (ABj AMs rfl H7 (Z4 20 false (AF1 rfl rfl (Z1 rfl (Zs (⟨_,rfl,fun Ba=>?_,fun Ba=>?_⟩))))))))))
    ·refine Zo (AAn (Zu ?_));obtain rfl:=Zm (AA8 B3 Ba);refine Zx (AAd ?_);have Bb:=Kst.anil AQg 48 Ah;obtain rfl:=Zm Ap;exact ⟨_,ABi,Bb.x,_,_,rfl,(Bb.o p0),Bb.s.sel [0] Zl⟩
    ·refine Zw (q_t ?_);exact ⟨(():Unit),⟨Zm (AA9 B3 Ba),Ah⟩,trivial⟩
  ·refine AD0 14 true (AAa rfl (Zk (AD0 20 true (AAa rfl (Zs (AAr rfl (Zo (AAn (Zu ?_)))))))));obtain rfl:=Zm (ifT By Bz);refine Zx (AAd ?_);have Bc:=Kst.anil AQg 48 Ah;obtain rfl:=Zm Ap;exact ⟨_,ABi,Bc.x,_,_,rfl,(Bc.o p0),Bc.s.sel [0] Zl⟩
 rintro ⟨⟩ Ef Eg ⟨Cr,B4⟩;subst Cr;refine Zo (Zu (Zp (Zo (ADj AHq AOf (B4.b p0) 2 rfl (ABj AMs rfl H7 (Zk (Zs (Zt ?_))))))));have B5:=Kst.anil AQg 48 B4;refine AFo 2722258935367507707706996859453608821756 (fun x:((List AQx)) × (Value) × LnA × (Int)=>(x.1,x.2.2.2)) (([],(.slice none 0 0),[],0):((List AQx)) × (Value) × LnA × (Int)) Ap (fun x=>[(4,x.2.1),(29,(.int .i64 x.2.2.2))]) (fun x=>B5.L.set 0 (aO AQg 48 x.2.2.1 x.2.1 x.1)) B5 ⟨rfl,rfl,trivial⟩ ?_;rintro ⟨Be,Ct,Cu,B6⟩ Eh Ei Ej Ai Bf Ad;unfold AN7 at Bf;refine Zo (AAv rfl rfl (Zs (Zp (⟨_,rfl,fun Bg=>?_,fun Bg=>?_⟩))))
 ·refine Zw (q_t (Zp (Zt (Zo (Zk ?_)))));obtain ⟨Aa,Cv,Cw⟩:=Zq (AA8 Bf Bg);refine AI2 (c:=AOp) AMs rfl H7 rfl Cv fun Ek El Em Cx Cy=>?_;obtain rfl:=Cx;refine AOe (c:=AOp) AK5 rfl rfl (fun j u hu=>(AAz (Cy j u hu) Ai.x)) (AC4 Ai [(.int .i64 0),(.int .i64 0),(.int .i64 0),(.int .i64 0),(.int .i64 0)] ARj fun En Eo Ep B7=>AAn (AB9 [(.int .i64 Aa.1),(.int .i64 Aa.2.1),(.int .i64 Aa.2.2.1),(.int .i64 Aa.2.2.2.1),(.int .i64 Aa.2.2.2.2)] AK5 rfl rfl rfl rfl (by simp [isOne]) (B7.b p0) fun Er Cz C0=>Zs ?_));have Ab:=B7.sb p0 C0 Cz rfl;obtain ⟨C1,B8,Ae⟩:=Zq Cw;refine AKi 36893488130239234060 (fun x:Unit=>[]) (fun x h'=>(Sum.inr <| ())=C1/\Kst h h' (Ab.L)) ?_ ?_
  ·refine Zo (ADj AXp ABv (Ab.b p0) 1 rfl (ACp rfl rfl (Zk ?_)));by_cases Ar: ¬ Aa.2.1=1
   ·rw [decide_eq_true Ar];refine AC8 37 true (AAa rfl (Zk (AC8 42 true (AAa rfl (Zk (AC8 47 true (AAa rfl (Zk (AC8 52 true (AAa rfl (Zk (ADf 57 true (AOx 57 true (AAa rfl (Zs (AAr rfl (Zo (AAn (Zu ?_)))))))))))))))))));obtain rfl:=Zm (ifT B8 Ar);refine Zx (AAd (ABg (AAd (AAd (ABg (AAd ?_))))));have Bh:=Kst.anil AQg 48 Ab;obtain rfl:=Zm (Ad _ (Zm Ae).symm);exact ⟨_,ABi,Bh.x,_,_,rfl,(Bh.o p0),Bh.s.sel [0] Zl⟩
   ·have B9:=ifF B8 Ar;rw [decide_eq_false Ar];refine Z4 37 false (ACd AHr rfl (Z4 37 false (AA7 ABv rfl ((Ab.b p0).cell (i:=0) rfl) (Z4 37 false (AAv rfl rfl (Z1 rfl (Zk ?_)))))));by_cases Au:Aa.1 < 0
    ·rw [decide_eq_true Au];refine AC8 42 true (AAa rfl (Zk (AC8 47 true (AAa rfl (Zk (AC8 52 true (AAa rfl (Zk (ADf 57 true (AOx 57 true (AAa rfl (Zs (AAr rfl (Zo (AAn (Zu ?_))))))))))))))));obtain rfl:=Zm (ifT B9 Au);refine Zx (AAd (ABg (AAd (AAd (ABg (AAd ?_))))));have Bi:=Kst.anil AQg 48 Ab;obtain rfl:=Zm (Ad _ (Zm Ae).symm);exact ⟨_,ABi,Bi.x,_,_,rfl,(Bi.o p0),Bi.s.sel [0] Zl⟩
    ·have Ca:=ifF B9 Au;rw [decide_eq_false Au];refine Z4 42 false (ACd AHr rfl (Z4 42 false (AA7 ABv rfl ((Ab.b p0).cell (i:=0) rfl) (Z4 42 false (AF1 rfl rfl (Z1 rfl (Zk ?_)))))));by_cases Av:60 < Aa.1
     ·rw [decide_eq_true Av];refine AC8 47 true (AAa rfl (Zk (AC8 52 true (AAa rfl (Zk (ADf 57 true (AOx 57 true (AAa rfl (Zs (AAr rfl (Zo (AAn (Zu ?_)))))))))))));obtain rfl:=Zm (ifT Ca Av);refine Zx (AAd (ABg (AAd (AAd (ABg (AAd ?_))))));have Bj:=Kst.anil AQg 48 Ab;obtain rfl:=Zm (Ad _ (Zm Ae).symm);exact ⟨_,ABi,Bj.x,_,_,rfl,(Bj.o p0),Bj.s.sel [0] Zl⟩
     ·have Cb:=ifF Ca Av;rw [decide_eq_false Av];refine Z4 47 false (ACd AT2 rfl (Z4 47 false (AA7 AAl rfl ((Ab.b p0).cell (i:=3) rfl) (Z4 47 false (ACp rfl rfl (Z1 rfl (Zk ?_)))))));by_cases Aw: ¬ Aa.2.2.2.1=0
      ·rw [decide_eq_true Aw];refine AC8 52 true (AAa rfl (Zk (ADf 57 true (AOx 57 true (AAa rfl (Zs (AAr rfl (Zo (AAn (Zu ?_))))))))));obtain rfl:=Zm (ifT Cb Aw);refine Zx (AAd (ABg (AAd (AAd (ABg (AAd ?_))))));have Bl:=Kst.anil AQg 48 Ab;obtain rfl:=Zm (Ad _ (Zm Ae).symm);exact ⟨_,ABi,Bl.x,_,_,rfl,(Bl.o p0),Bl.s.sel [0] Zl⟩
      ·have Cd:=ifF Cb Aw;rw [decide_eq_false Aw];refine Z4 52 false (ACd AV0 rfl (Z4 52 false (AA7 AAl rfl ((Ab.b p0).cell (i:=4) rfl) (Z4 52 false (ACp rfl rfl (Z1 rfl (Zk ?_)))))));by_cases Ax: ¬ Aa.2.2.2.2=0
       ·rw [decide_eq_true Ax];refine ADf 57 true (AOx 57 true (AAa rfl (Zs (AAr rfl (Zo (AAn (Zu ?_)))))));obtain rfl:=Zm (ifT Cd Ax);refine Zx (AAd (ABg (AAd (AAd (ABg (AAd ?_))))));have Bm:=Kst.anil AQg 48 Ab;obtain rfl:=Zm (Ad _ (Zm Ae).symm);exact ⟨_,ABi,Bm.x,_,_,rfl,(Bm.o p0),Bm.s.sel [0] Zl⟩
       ·rw [decide_eq_false Ax];refine Z4 57 false (ACd ANj rfl (Z4 57 false (AA7 AAl rfl ((Ab.b p0).cell (i:=2) rfl) (Z4 57 false (ACd ALu rfl (Z4 57 false (AA7 AAl rfl ((Ab.b p2).cell (i:=0) rfl) (Z4 57 false ?_))))))));obtain ⟨C2,Ce⟩:=ifN (ifF Cd Ax);refine ADk rfl rfl C2 (Z4 57 false (ABx rfl rfl (Z1 rfl (Zs (⟨_,rfl,fun Bn=>?_,fun Bn=>?_⟩)))))
        ·refine Zo (AAn (Zu ?_));obtain rfl:=Zm (AA8 Ce Bn);refine Zx (AAd (ABg (AAd (AAd (ABg (AAd ?_))))));have Bo:=Kst.anil AQg 48 Ab;obtain rfl:=Zm (Ad _ (Zm Ae).symm);exact ⟨_,ABi,Bo.x,_,_,rfl,(Bo.o p0),Bo.s.sel [0] Zl⟩
        ·refine Zw (q_t ?_);exact ⟨(():Unit),⟨Zm (AA9 Ce Bn),Ab⟩,trivial⟩
  rintro ⟨⟩ Es Et ⟨C3,Af⟩;subst C3;obtain ⟨C4,Cf,Cg⟩:=Zq Ae;refine AKi 604426016319167168249868 (fun x:Unit=>[]) (fun x h'=>(Sum.inr <| ())=C4/\Kst h h' (Af.L)) ?_ ?_
  ·refine Zp (AGe (Zk (AF1 rfl rfl (Zk ?_))));by_cases Ay:0 < B6
   ·rw [decide_eq_true Ay];refine Z4 67 true (ACd AHr rfl (Z4 67 true (AA7 ABv rfl ((Af.b p0).cell (i:=0) rfl) (Z4 67 true (ACd AHq rfl (Z4 67 true (AA7 AOf rfl ((Af.b p2).cell (i:=2) rfl) (Z4 67 true (Zk (Z4 67 true (AFl rfl rfl (Z4 67 true ?_))))))))))));obtain ⟨Eu,C5,Ch⟩:=Zq (ifT Cf Ay);refine AI2 (c:=AOp) AMs rfl H7 rfl C5 fun Ev Ew Ey C6 C7=>?_;obtain rfl:=C6;refine Z4 67 true (ACd AHr rfl (Z4 67 true (AA7 ABv rfl (AAz (C7 0 _ rfl) Af.x) (Z4 67 true (AAv rfl rfl (AAa rfl (Zs (⟨_,rfl,fun Bp=>?_,fun Bp=>?_⟩))))))))
    ·refine Zo (AAn (Zu ?_));obtain rfl:=Zm (AA8 Ch Bp);refine Zx (AAd (ABg (AAd (AAd (ABg (AAd ?_))))));have Bq:=Kst.anil AQg 48 Af;obtain rfl:=Zm (Ad _ (Zm Cg).symm);exact ⟨_,ABi,Bq.x,_,_,rfl,(Bq.o p0),Bq.s.sel [0] Zl⟩
    ·refine Zw (q_t ?_);exact ⟨(():Unit),⟨Zm (AA9 Ch Bp),Af⟩,trivial⟩
   ·rw [decide_eq_false Ay];refine ADf 67 false (ADf 67 false (Z1 rfl (Zs (AAy rfl (Zw (q_t ?_))))));exact ⟨(():Unit),⟨Zm (ifF Cf Ay),Af⟩,trivial⟩
  rintro ⟨⟩ Ez Fa ⟨C8,Ac⟩;subst C8;obtain ⟨C9,Ci,Da⟩:=Zq Cg;refine AKi 633824695651204893433764249616 (fun x:((List AQx)) × (Value) × LnA=>[(4,x.2.1)]) (fun x h'=>( x.1)=C9/\Kst h h' (Ac.L.set 1 (aO AQg 48 x.2.2 x.2.1 x.1))) ?_ ?_
  ·refine Zp (AGe (Zk (ABx rfl rfl (Zk ?_))));by_cases Az:B6=0
   ·rw [decide_eq_true Az];refine ADf 81 true (ADf 81 true (AAa rfl (Zs (AAr rfl (AAc (Zk (ADj AHr ABv (Ac.b p0) 0 rfl (ADr (v:=(.agg #[(.int .i64 Aa.1),(.int .i64 0),(.int .i64 1),(.bool false),(.int .i64 0)])) (fun _=>by kernel_rfl) ?_))))))));obtain ⟨Db,Dc⟩:=ifN (ifT Ci Az);refine ALt AWk Ahf rfl rfl trivial tt2 (fun _=>rfl) rfl (show (AQg).rep _ (Aa.1,0,1,false,0) [(.int .i64 Aa.1),(.int .i64 0),(.int .i64 1),(.bool false),(.int .i64 0)] from rfl) (Ac.o p1) Zl Db fun Fb Dd De Fc Df Dg Dh=>Zu ?_;exact ⟨(((Be ++ [(Aa.1,0,1,false,0)]),De,Dd):((List AQx)) × (Value) × LnA),⟨Zm Dc,(Ac.uo p1 Dg Df Dh)⟩,rfl,trivial⟩
   ·rw [decide_eq_false Az];refine Z4 81 false (ACd AHr rfl (Z4 81 false (AA7 ABv rfl ((Ac.b p0).cell (i:=0) rfl) (Z4 81 false (ACd AHq rfl (Z4 81 false (AA7 AOf rfl ((Ac.b p2).cell (i:=2) rfl) (Z4 81 false (Zk (Z4 81 false (AFl rfl rfl (Z4 81 false ?_))))))))))));obtain ⟨Fd,Di,Cj⟩:=Zq (ifF Ci Az);refine AI2 (c:=AOp) AMs rfl H7 rfl Di fun Fe Ff Fg Dj Dk=>?_;obtain rfl:=Dj;refine Z4 81 false (ACd AHr rfl (Z4 81 false (AA7 ABv rfl (AAz (Dk 0 _ rfl) Ac.x) (Z4 81 false (AF1 rfl rfl (Z1 rfl (Zs (⟨_,rfl,fun Br=>?_,fun Br=>?_⟩))))))))
    ·refine AAc (Zk (ADj AHr ABv (Ac.b p0) 0 rfl (ADr (v:=(.agg #[(.int .i64 Aa.1),(.int .i64 0),(.int .i64 1),(.bool false),(.int .i64 0)])) (fun _=>by kernel_rfl) ?_)));obtain ⟨Dl,Do⟩:=ifN (AA8 Cj Br);refine ALt AWk Ahf rfl rfl trivial tt2 (fun _=>rfl) rfl (show (AQg).rep _ (Aa.1,0,1,false,0) [(.int .i64 Aa.1),(.int .i64 0),(.int .i64 1),(.bool false),(.int .i64 0)] from rfl) (Ac.o p1) Zl Dl fun Fh Dp Dq Fi Dr Ds Dt=>Zu ?_;exact ⟨(((Be ++ [(Aa.1,0,1,false,0)]),Dq,Dp):((List AQx)) × (Value) × LnA),⟨Zm Do,(Ac.uo p1 Ds Dr Dt)⟩,rfl,trivial⟩
    ·refine Zw (q_t ?_);exact ⟨((Be,Ct,Cu):((List AQx)) × (Value) × LnA),⟨Zm (AA9 Cj Br),Ac⟩,rfl,trivial⟩
  rintro ⟨Fj,Fk,Fl⟩ Fm Fo ⟨Du,A3⟩;subst Du;refine Zp (AGe (ADj ANj AAl (A3.b p0) 2 rfl (ADj ALu AAl (A3.b p2) 0 rfl ?_)));obtain ⟨Dv,Dw⟩:=ifN Da;refine ADk rfl rfl Dv (ADj ALu AAl (A3.b p2) 0 rfl ?_);obtain ⟨⟨Dx,Fp⟩,Dy,Ck⟩:=Zq Dw;dsimp only at Ck;refine ACa A3 (AVt Dy) fun Fq Fr Aj=>Zk (ABl rfl rfl (ABl rfl rfl (AAn (AA5 (Zk (Zk (ABj AWk rfl (Aj.o p1).rd (AFl rfl rfl ?_))))))));obtain ⟨Ak,Bt,Dz⟩:=Zq Ck;refine AXn AWk rfl (Aj.o p1) rfl Bt fun Ft A4=>AA5 (Zk (AC7 rfl (ACd Ai1 rfl ?_)));obtain ⟨Fu,D0,D1⟩:=(Aj.o p1).cells A4 Bt;obtain rfl:=D0;refine AA7 ABv rfl (D1 1 _ rfl) (AAx rfl rfl (AC7 rfl (ACd Ai1 rfl (Ant (c:=AQg) (a':=(Ak.1,(w64 (Ak.2.1 + 1)),Ak.2.2.1,Ak.2.2.2.1,Ak.2.2.2.2)) ABv rfl rfl rfl Zl (Aj.o p1) A4 Bt (fun _ q=>by cases q;rfl) fun Fv D2 D3=>Zs (AAc (Zk (AC7 rfl (ACd Ai2 rfl ?_))))))));have Bu:=Aj.uO p1 D3 D2;obtain ⟨Am,Cm,D4⟩:=Zq Dz;obtain ⟨Fw,D5,D6⟩:=(Bu.o p1).cells A4 Cm;obtain rfl:=D5;refine AA7 ABv rfl (D6 2 _ rfl) (Zk (AL9 rfl rfl (AC7 rfl (ACd Ai2 rfl (Ant (c:=AQg) (a':=(Am.1,Am.2.1,(w64 (Am.2.2.1 * Dx)),Am.2.2.2.1,Am.2.2.2.2)) ABv rfl rfl rfl Zl (Bu.o p1) A4 Cm (fun _ q=>by cases q;rfl) fun Fx D7 D8=>AAo (q_b (q_t (AAc (AAx rfl rfl (Zk (Zs ?_)))))))))));exact ⟨(_,_,_,_),(Zm D4).symm,(Bu.uO p1 D8 D7).sel [1,2] Zl,rfl,rfl,trivial⟩
 ·refine AAj (AAk (AAk (ABm (q_t (Zo (Zk (AAn (Zu (Zx ?_)))))))));obtain rfl:=Zm (Ad _ (Zm (AA9 Bf Bg)).symm);exact ⟨_,ABi,Ai.x,_,_,rfl,(Ai.o p0),Ai.s.sel [0] Zl⟩
noncomputable def ABq (fuel:Nat):Option Bool:=
  ((AJk fuel 3 ([([1,4]:List Int),([0,1]:List Int)]:List LiA) ([(0,1,2,0,0),(1,1,2,0,0)]:List AGb)).bind fun (Aa,Ab)=>((AL2 fuel ([([2,1]:List Int),([1,2]:List Int)]:List LiA) 3).bind fun (Ac,Ad)=>(if Ab=true then (if Ac=2 then (if Ad=0 then ((AFz fuel ([([2,1]:List Int),([1,2]:List Int)]:List LiA) 3 ([([1,4]:List Int),([0,1]:List Int)]:List LiA) ([(0,1,2,0,0),(1,1,2,0,0)]:List AGb)).bind fun Ae=>(if Ae=0 then ((AKu fuel Aa ([(0,1,(-1),false,0),(1,1,(-1),false,0)]:List AQx)).bind fun Af=>(some Af)) else (some false))) else (some false)) else (some false)) else (some false))))
theorem AC6 {fuel:Nat} {h:Zv} {r:Bool} (HO:AVa h) (hp:ABq fuel=some r):AAw Tryz.prog 13 #[] h (fun x h'=>Ext h h'/\x= .bool r):=by
 unfold ABq at hp;refine cwf (l:=[]) Tryz.func13 rfl rfl (Zo (AA5 (AYt (κ:= .i64) [2,1] AAi AI0 rfl rfl trivial tt2 rfl rfl rfl rfl fun b1 v2 h3 I4 E5 A6 A7=>AYt (κ:= .i64) [1,2] AAi AI0 rfl rfl trivial tt2 rfl rfl rfl rfl fun A8 A9 Cv Ba Bb Bc Be=>?_)));have Ab:=((Kst.k0 h).no E5 (AE8 A6 A7) I4).no Bb (AE8 Bc Be) Ba;have Aq:=(((Ab.a0).grab p1).grab p0);refine AYw (c:=(cI .i64)) (el:=2) [[b1],[A8]] [v2,A9] [([2,1]:List Int),([1,2]:List Int)] AAg AMl rfl rfl trivial tt2 rfl rfl rfl rfl (AHf (Ab.o p1).isOne (AHf (Ab.o p0).isOne AT9)) ⟨(Ab.o p1),(Ab.o p0),trivial⟩ (by simpa using Aq.ndT) fun Cw Cx Cy Bf Bg Bh=>AA5 (AYt (κ:= .i64) [1,4] AAi AI0 rfl rfl trivial tt2 rfl rfl rfl rfl fun Bi Bj Cz Bl Bm Bn Bo=>AYt (κ:= .i64) [0,1] AAi AI0 rfl rfl trivial tt2 rfl rfl rfl rfl fun Bp Bq C0 Br Bt Bu Bv=>?_);have Ac:=((Aq.lit Bg Bf (by simpa using Bh)).no Bm (AE8 Bn Bo) Bl).no Bt (AE8 Bu Bv) Br;have Ar:=(((Ac.a0).grab p1).grab p0);refine AYw (c:=(cI .i64)) (el:=2) [[Bi],[Bp]] [Bj,Bq] [([1,4]:List Int),([0,1]:List Int)] AAg AMl rfl rfl trivial tt2 rfl rfl rfl rfl (AHf (Ac.o p1).isOne (AHf (Ac.o p0).isOne AT9)) ⟨(Ac.o p1),(Ac.o p0),trivial⟩ (by simpa using Ar.ndT) fun C1 Ae C2 Bw Bx By=>ADr (v:=(.agg #[(.int .i64 0),(.int .i64 1),(.int .i64 2),(.int .i64 0),(.int .i64 0)])) (fun _=>by kernel_rfl) (ADr (v:=(.agg #[(.int .i64 1),(.int .i64 1),(.int .i64 2),(.int .i64 0),(.int .i64 0)])) (fun _=>by kernel_rfl) (An5 AOp ([(0,1,2,0,0),(1,1,2,0,0)]:List AGb) [[(.int .i64 0),(.int .i64 1),(.int .i64 2),(.int .i64 0),(.int .i64 0)],[(.int .i64 1),(.int .i64 1),(.int .i64 2),(.int .i64 0),(.int .i64 0)]] [(0,(.agg #[(.int .i64 0),(.int .i64 1),(.int .i64 2),(.int .i64 0),(.int .i64 0)])),(1,(.agg #[(.int .i64 1),(.int .i64 1),(.int .i64 2),(.int .i64 0),(.int .i64 0)]))] AMs ARj rfl trivial tt2 rfl rfl rfl Zy rfl (AZz (fun _=>rfl) (AZz (fun _=>rfl) Ajc)) fun C3 Af C4 Bz B1 B3 B4=>?_));have Ak:=(Ar.lit Bx Bw (by simpa using By)).no B1 (AE8 B3 B4) Bz;obtain ⟨_,_,_,B5⟩:=(Ak.o2 p1).rd.shape;obtain ⟨_,_,_,B6⟩:=(Ak.o p0).rd.shape;refine ADr (v:=(.agg #[(.int .i64 3),Ae,Af])) (fun _=>by subst B5;subst B6;kernel_rfl) (AC4 Ak [(.int .i64 0),(.slice none 0 0),(.slice none 0 0)] Aau fun C5 C6 C7 Ag=>AB9 [(.int .i64 3),Ae,Af] AM3 rfl rfl rfl rfl (AHf rfl (AHf (Ag.o2 p2).isOne (AHf (Ag.o p1).isOne AT9))) (Ag.b p0) fun C8 B7 B8=>AId ?_);have Ad:=Ag.sb p0 B8 B7 rfl;refine ANn [(.int .i64 3),Ae,Af] AM3 rfl rfl (Ad.b p0).agg ?_;obtain ⟨⟨C9,B9⟩,Ca,Au⟩:=Zq hp;dsimp only at Au;refine ANz rfl (AS3 (Ad.o2 p2).rd (Ad.o p1).rd (HO.ext Ad.x) Ca) fun Da Db Cb Cd=>?_;obtain ⟨Dc,Dd,rfl,Ce,Cf⟩:=Cd;refine Zk (ABl rfl rfl (ABl rfl rfl (AAn (AA5 (Zk ?_)))));have Am:=Ad.no Cb Cf Ce;obtain ⟨⟨Cg,Ch⟩,Ci,Ao⟩:=Zq Au;dsimp only at Ao;refine ACa Am (AUx (Am.o2 p6).rd (HO.ext Am.x) Ci) fun De Df Aa=>Zk (ABl rfl rfl (ABl rfl rfl (AAn (AA5 (Zk (Zk ?_))))));cases Av:B9
 ·refine AG3 28 false (Z1 rfl (Zk (AG3 32 false (Z1 rfl (Zk (AD0 36 false (Z1 rfl (Zk (ADf 42 false (Z1 rfl (Zu (Zx ?_))))))))))));obtain rfl:=Zm (AFe Ao Av);exact ⟨_,Zz,Aa.x,rfl⟩
 ·refine Z4 28 true (Zk (Z4 28 true (ABx rfl rfl (AAa rfl (Zk ?_)))));have Aw:=ifT Ao Av;by_cases Ah:Cg=2
  ·have Ax:=ifT Aw Ah;rw [decide_eq_true Ah];refine Z4 32 true (Zk (Z4 32 true (ABx rfl rfl (AAa rfl (Zk ?_)))));by_cases Ai:Ch=0
   ·rw [decide_eq_true Ai];refine Z4 36 true (Zk (Z4 36 true (ANn [(.int .i64 3),Ae,Af] AM3 rfl rfl (Aa.b p1).agg (Z4 36 true ?_))));obtain ⟨Cj,Ck,Ay⟩:=Zq (ifT Ax Ai);refine ACa Aa (AW7 (Aa.o2 p6).rd (Aa.o2 p3).rd (Aa.o p2).rd (HO.ext Aa.x) Ck) fun Dg Dh Az=>Z4 36 true (ABx rfl rfl (AAa rfl (Zk ?_)));by_cases Aj:Cj=0
    ·rw [decide_eq_true Aj];refine Z4 42 true (Zk (Z4 42 true (ADr (v:=(.agg #[(.int .i64 0),(.int .i64 1),(.int .i64 (-1)),(.bool false),(.int .i64 0)])) (fun _=>by kernel_rfl) (Z4 42 true (ADr (v:=(.agg #[(.int .i64 1),(.int .i64 1),(.int .i64 (-1)),(.bool false),(.int .i64 0)])) (fun _=>by kernel_rfl) (Z4 42 true (An5 AQg ([(0,1,(-1),false,0),(1,1,(-1),false,0)]:List AQx) [[(.int .i64 0),(.int .i64 1),(.int .i64 (-1)),(.bool false),(.int .i64 0)],[(.int .i64 1),(.int .i64 1),(.int .i64 (-1)),(.bool false),(.int .i64 0)]] [(0,(.agg #[(.int .i64 0),(.int .i64 1),(.int .i64 (-1)),(.bool false),(.int .i64 0)])),(1,(.agg #[(.int .i64 1),(.int .i64 1),(.int .i64 (-1)),(.bool false),(.int .i64 0)]))] AWk Ahf rfl trivial tt2 rfl rfl rfl Zy rfl (AZz (fun _=>rfl) (AZz (fun _=>rfl) Ajc)) fun Di Dj Dk Cm Cn Co Cp=>Z4 42 true ?_)))))));have Ap:=Az.no Cn (AE8 Co Cp) Cm;obtain ⟨Dl,Cq,Cr⟩:=Zq (ifT Ay Aj);refine ACa Ap (AQ3 (Ap.o p1).rd (Ap.o p0).rd Cq) fun Do Dp Ct=>AAa rfl (Zu (Zx ?_));obtain rfl:=Zm Cr;exact ⟨_,Zz,Ct.x,rfl⟩
    ·rw [decide_eq_false Aj];refine ADf 42 false (Z1 rfl (Zu (Zx ?_)));obtain rfl:=Zm (ifF Ay Aj);exact ⟨_,Zz,Az.x,rfl⟩
   ·rw [decide_eq_false Ai];refine AD0 36 false (Z1 rfl (Zk (ADf 42 false (Z1 rfl (Zu (Zx ?_))))));obtain rfl:=Zm (ifF Ax Ai);exact ⟨_,Zz,Aa.x,rfl⟩
  ·rw [decide_eq_false Ah];refine AG3 32 false (Z1 rfl (Zk (AD0 36 false (Z1 rfl (Zk (ADf 42 false (Z1 rfl (Zu (Zx ?_)))))))));obtain rfl:=Zm (ifF Aw Ah);exact ⟨_,Zz,Aa.x,rfl⟩
noncomputable def AJl (fuel:Nat) (a5 Ao:Int) (Ag:LiI) (Ac Ad Ae Ab Aa:Int):Option ((Int × Int × Int × Int) ⊕ ((Int × Int) ⊕ (Int × Int × Int))):=
  (if (w64 (Aa + Ac)) < (Ag.length:Int) then ((((gI Ag Aa).bind fun Ap=>((gI Ap (w64 (Aa + Ac))).bind fun Ah=>(if Ah=0 then (some (Sum.inl <| (Ad,Ae,Ab))) else ((((AJb fuel Ah a5).bind fun Af=>(if Ab < 0 then (some ( (Aa,(w64 (Aa + Ac)),Af.1))) else (if Af.1 < Ab then (some ( (Aa,(w64 (Aa + Ac)),Af.1))) else (some ( (Ad,Ae,Ab)))))):Option ((Int × Int × Int))).bind (fun ((Ai,Aj,Ak):Int × Int × Int)=>(if Ak=Ao then (some (Sum.inr <| (Ai,Aj))) else (some (Sum.inl <| (Ai,Aj,Ak))))))))):Option ((Int × Int × Int) ⊕ (Int × Int))).bind (fun ex=>match ex with | Sum.inl (Aq,Ar,Au)=>(some (Sum.inl (Aq,Ar,Au,(w64 (Aa + 1))))) | Sum.inr ((Av,Aw))=>(some (Sum.inr<| Sum.inl <| (Av,Aw))))) else (some (Sum.inr<| Sum.inr <| (Ad,Ae,Ab))))
noncomputable def AJm (fuel:Nat) (a5 Ag Ab:Int) (Ac:LiI) (Ad Ae Ah Aa:Int):Option ((Int × Int × Int × Int) ⊕ ((Int × Int))):=
  (if Aa < (w64 ((Ac.length:Int) - Ab)) then ((iter (fun s=>AJl fuel a5 Ag Ac Aa s.1 s.2.1 s.2.2.1 s.2.2.2) fuel (Ad,Ae,Ah,Ab)).bind (fun ex=>match ex with | Sum.inl (Ai,Aj)=>(some (Sum.inr<| (Ai,Aj))) | Sum.inr ((Ak,Am,Ao))=>(some (Sum.inl (Ak,Am,Ao,(w64 (Aa + 1))))))) else (some (Sum.inr<| (Ad,Ae))))
noncomputable def AIp (fuel:Nat) (Ad Ae Af:Int) (Ag:LiI) (Aa:Int) (Ab:LiI):Option ((Int × LiI) ⊕ ((LiI))):=
  (if Aa < (Ag.length:Int) then ((gI Ab Aa).bind fun Ac=>((gI Ac Ae).bind fun Ah=>((gI Ac Af).bind fun Ai=>(if Ad≠0 then (some (Sum.inl ((w64 (Aa + 1)),(sI Ab Aa (sI Ac Ae (Int.tmod (w64 (Ah + (w64 (1 * Ai)))) Ad)))))) else none)))) else (some (Sum.inr<| Ab)))
noncomputable def AIq (fuel:Nat) (Ad Ae Af:Int) (Ag:LiI) (Aa:Int) (Ab:LiI):Option ((Int × LiI) ⊕ ((LiI))):=
  (if Aa < (Ag.length:Int) then ((gI Ab Aa).bind fun Ac=>((gI Ac Ae).bind fun Ah=>((gI Ac Af).bind fun Ai=>(if Ad≠0 then (some (Sum.inl ((w64 (Aa + 1)),(sI Ab Aa (sI Ac Ae (Int.tmod (w64 (Ah + (w64 (1 * Ai)))) Ad)))))) else none)))) else (some (Sum.inr<| Ab)))
noncomputable def AE0 (fuel:Nat) (Ac Ad Af:Int) (Ag:LiA) (Aa:Int) (Ab:LiI):Option ((Int × LiI) ⊕ ((LiI))):=
  (if Aa < (Ag.length:Int) then ((gI Ab Af).bind fun Ah=>((gI Ah Aa).bind fun Ai=>((gI Ab Ad).bind fun Ae=>((gI Ae Aa).bind fun Aj=>(if Ac≠0 then (some (Sum.inl ((w64 (Aa + 1)),(sI Ab Ad (sI Ae Aa (Int.tmod (w64 (Aj + (w64 (1 * Ai)))) Ac)))))) else none))))) else (some (Sum.inr<| Ab)))
noncomputable def ADw (fuel:Nat) (Ad Ae Af Aa:Int) (Ab Ac:LiI):Option ((Int × LiI × LiI) ⊕ ((LiI × LiI))):=
  (if Aa < 2 then (if Aa=0 then ((iter (fun s=>AIp fuel Ad Ae Af Ab s.1 s.2) fuel (0,Ab)).bind (fun (Ag:LiI)=>(some (Sum.inl ((w64 (Aa + 1)),Ag,Ac))))) else (if Aa=1 then ((iter (fun s=>AIq fuel Ad Ae Af Ac s.1 s.2) fuel (0,Ac)).bind (fun (Ah:LiI)=>(some (Sum.inl ((w64 (Aa + 1)),Ab,Ah))))) else none)) else (some (Sum.inr<| (Ab,Ac))))
noncomputable def AIr (fuel:Nat) (Ad Ae:Int) (Ah:LiI) (Aa:Int) (Ab:LiI):Option ((Int × LiI) ⊕ ((LiI))):=
  (if Aa < (Ah.length:Int) then ((gI Ab Aa).bind fun Ac=>((gI Ac Ae).bind fun Af=>((gI Ac Ad).bind fun Ai=>((gI (sI Ab Aa (sI Ac Ad Af)) Aa).bind fun Ag=>((gI Ag Ae).bind fun Aj=>(some (Sum.inl ((w64 (Aa + 1)),(sI (sI Ab Aa (sI Ac Ad Af)) Aa (sI Ag Ae Ai)))))))))) else (some (Sum.inr<| Ab)))
noncomputable def AIs (fuel:Nat) (Ad Ae:Int) (Ah:LiI) (Aa:Int) (Ab:LiI):Option ((Int × LiI) ⊕ ((LiI))):=
  (if Aa < (Ah.length:Int) then ((gI Ab Aa).bind fun Ac=>((gI Ac Ae).bind fun Af=>((gI Ac Ad).bind fun Ai=>((gI (sI Ab Aa (sI Ac Ad Af)) Aa).bind fun Ag=>((gI Ag Ae).bind fun Aj=>(some (Sum.inl ((w64 (Aa + 1)),(sI (sI Ab Aa (sI Ac Ad Af)) Aa (sI Ag Ae Ai)))))))))) else (some (Sum.inr<| Ab)))
noncomputable def AE1 (fuel:Nat) (Ad Ae Aa:Int) (Ab Ac:LiI):Option ((Int × LiI × LiI) ⊕ ((LiI × LiI))):=
  (if Aa < 2 then (if Aa=0 then ((iter (fun s=>AIr fuel Ad Ae Ab s.1 s.2) fuel (0,Ab)).bind (fun (Af:LiI)=>(some (Sum.inl ((w64 (Aa + 1)),Af,Ac))))) else (if Aa=1 then ((iter (fun s=>AIs fuel Ad Ae Ac s.1 s.2) fuel (0,Ac)).bind (fun (Ag:LiI)=>(some (Sum.inl ((w64 (Aa + 1)),Ab,Ag))))) else none)) else (some (Sum.inr<| (Ab,Ac))))
noncomputable def AIt (fuel:Nat) (Aa Af Ag Ae Ah Ai:Int) (Aj:LiI) (Ab:Int) (Ac:LiI):Option ((Int × LiI) ⊕ ((LiI))):=
  (if Ab < (Aj.length:Int) then ((gI Ac Ab).bind fun Ad=>((gI Ad Ae).bind fun Ak=>((gI Ad Af).bind fun Am=>(if Aa≠0 then (some (Sum.inl ((w64 (Ab + 1)),(sI Ac Ab (sI Ad Ae (Int.tmod (w64 (Ak + (w64 ((Int.tmod (w64 (Aa - (Int.tmod (w64 ((w64 (Int.tdiv Ah Ag)) * Ai)) Aa))) Aa) * Am)))) Aa)))))) else none)))) else (some (Sum.inr<| Ac)))
noncomputable def AIu (fuel:Nat) (Aa Af Ag Ae Ah Ai:Int) (Aj:LiI) (Ab:Int) (Ac:LiI):Option ((Int × LiI) ⊕ ((LiI))):=
  (if Ab < (Aj.length:Int) then ((gI Ac Ab).bind fun Ad=>((gI Ad Ae).bind fun Ak=>((gI Ad Af).bind fun Am=>(if Aa≠0 then (some (Sum.inl ((w64 (Ab + 1)),(sI Ac Ab (sI Ad Ae (Int.tmod (w64 (Ak + (w64 ((Int.tmod (w64 (Aa - (Int.tmod (w64 ((w64 (Int.tdiv Ah Ag)) * Ai)) Aa))) Aa) * Am)))) Aa)))))) else none)))) else (some (Sum.inr<| Ac)))
noncomputable def AGt (fuel:Nat) (Aa Af Ag Ad Ah Ai:Int) (Aj:LiA) (Ab:Int) (Ac:LiI):Option ((Int × LiI) ⊕ ((LiI))):=
  (if Ab < (Aj.length:Int) then ((gI Ac Af).bind fun Ak=>((gI Ak Ab).bind fun Am=>((gI Ac Ad).bind fun Ae=>((gI Ae Ab).bind fun Ao=>(if Aa≠0 then (some (Sum.inl ((w64 (Ab + 1)),(sI Ac Ad (sI Ae Ab (Int.tmod (w64 (Ao + (w64 ((Int.tmod (w64 (Aa - (Int.tmod (w64 ((w64 (Int.tdiv Ah Ag)) * Ai)) Aa))) Aa) * Am)))) Aa)))))) else none))))) else (some (Sum.inr<| Ac)))
noncomputable def AE2 (fuel:Nat) (Ad Ae Af Ag Ah Ai Aa:Int) (Ab Ac:LiI):Option ((Int × LiI × LiI) ⊕ ((LiI × LiI))):=
  (if Aa < 2 then (if Aa=0 then ((iter (fun s=>AIt fuel Ad Ae Af Ag Ah Ai Ab s.1 s.2) fuel (0,Ab)).bind (fun (Aj:LiI)=>(some (Sum.inl ((w64 (Aa + 1)),Aj,Ac))))) else (if Aa=1 then ((iter (fun s=>AIu fuel Ad Ae Af Ag Ah Ai Ac s.1 s.2) fuel (0,Ac)).bind (fun (Ak:LiI)=>(some (Sum.inl ((w64 (Aa + 1)),Ab,Ak))))) else none)) else (some (Sum.inr<| (Ab,Ac))))
noncomputable def AIv (fuel:Nat) (Ab Ac Ae:Int) (Aj:LiI) (Aa:Int) (Ad Af:LiI):Option ((Int × LiI × LiI) ⊕ ((LiI × LiI))):=
  (if Aa < (Ad.length:Int) then ((gI Ad Ac).bind fun Ak=>((gI Ak Aa).bind fun Ag=>(if Ae≠0 then ((gI Aj 0).bind fun Am=>((gI Am 0).bind fun Ah=>(if Ab≠0 then (if Ab≠0 then ((((iter (fun s=>AE2 fuel Ab Ac Ae Aa Ag Ah s.1 s.2.1 s.2.2) fuel (0,Ad,Af)).bind (fun ((Ai,Ao):LiI × LiI)=>((gI Ai Ac).bind fun Ap=>((iter (fun s=>AGt fuel Ab Ac Ae Aa Ag Ah Ap s.1 s.2) fuel (0,Ai)).bind (fun (Aq:LiI)=>(some ( (Aq,Ao)))))))):Option (LiI × LiI)).bind fun (Ar,Au)=>(some (Sum.inl ((w64 (Aa + 1)),Ar,Au)))) else none) else none))) else none))) else (some (Sum.inr<| (Ad,Af))))
noncomputable def AFi (fuel:Nat) (a3:LiI) (a5 Ad Aq Aa:Int) (Ae Ah:LiI) (Ai:(List AGb)):Option ((Int × Int × LiI × LiI × (List AGb)) ⊕ ((LiI × LiI × (List AGb)))):=
  (if Aa < (a3.length:Int) then ((((((iter (fun s=>AJm fuel a5 Aq Aa Ae s.1 s.2.1 s.2.2.1 s.2.2.2) fuel (Aa,Aa,(-1),0)).bind (fun ((Ar,Au):Int × Int)=>(some ( (Ar,Au))))):Option (Int × Int)).bind fun (Ac,Af)=>(((if ¬ Ac=Af then ((((iter (fun s=>ADw fuel Ad Ac Af s.1 s.2.1 s.2.2) fuel (0,Ae,Ah)).bind (fun ((Ak,Av):LiI × LiI)=>((gI Ak Af).bind fun Aw=>((iter (fun s=>AE0 fuel Ad Ac Af Aw s.1 s.2) fuel (0,Ak)).bind (fun (Ax:LiI)=>(some ( (Ax,Av)))))))):Option (LiI × LiI)).bind fun (Ay,Az)=>(some ( (Ay,Az)))) else (some ( (Ae,Ah)))):Option ((LiI × LiI))).bind (fun ((Aj,A3):LiI × LiI)=>((((gI Aj Ac).bind fun A4=>((gI Aj Aa).bind fun A5=>((iter (fun s=>AE1 fuel Aa Ac s.1 s.2.1 s.2.2) fuel (0,(sI (sI Aj Aa A4) Ac A5),A3)).bind (fun ((A6,A7):LiI × LiI)=>(some ( (A6,A7))))))):Option (LiI × LiI)).bind fun (Am,A8)=>((gI Am Aa).bind fun A9=>((gI A9 Aa).bind fun Ba=>((AJb fuel Ba a5).bind fun Ab=>((AI9 fuel a5 Ab.1).bind fun Bb=>((AKf fuel ([([Ab.2.2.1]:List Int)]:List LiA) Ad).bind fun (Bc,Bn)=>((iter (fun s=>AIv fuel Ad Aa Bb Bc s.1 s.2.1 s.2.2) fuel ((w64 (Aa + 1)),Am,A8)).bind (fun ((Be,Bf):LiI × LiI)=>(some ( (Ab.1,Ab.2.1,Ab.2.2.1,Ab.2.2.2.1,Ab.2.2.2.2,Be,Bf)))))))))))))):Option (Int × Int × Int × Int × Int × LiI × LiI)).bind fun (Ao,Bg,Bh,Bi,Bj,Bl,Bm)=>(if Ai.length<=100000000 then (some (Sum.inl (Ao,(w64 (Aa + 1)),Bl,Bm,(Ai ++ [(Ao,Bg,Bh,Bi,Bj)])))) else none)) else (some (Sum.inr<| (Ae,Ah,Ai))))
noncomputable def AJn (fuel:Nat) (a3:LiI) (Aa:Int) (Ac:LiI):Option ((Int × LiI) ⊕ ((LiI))):=
  (if Aa < (a3.length:Int) then (if 0<=(a3.length:Int)/\(a3.length:Int)<=100000000 then (if Ac.length<=100000000 then ((gI (Ac ++ [(List.replicate (Int.toNat (a3.length:Int)) (0:Int))]) Aa).bind fun Ad=>((gI Ad Aa).bind fun Ae=>(some (Sum.inl ((w64 (Aa + 1)),(sI (Ac ++ [(List.replicate (Int.toNat (a3.length:Int)) (0:Int))]) Aa (sI Ad Aa 1))))))) else none) else none) else (some (Sum.inr<| Ac)))
noncomputable def ACh (fuel:Nat) (a3:LiI) (a5:Int):Option ((Int × LiI × (List AGb)) × Int):=
  ((AMk fuel a3).bind fun Ad=>(if (!Ad)=true then (some ((0,[],[]),6)) else ((AKo fuel a5).bind fun Ae=>(if (!Ae)=true then (some ((0,[],[]),20)) else ((AC5 fuel a3 a5).bind fun Af=>((AI9 fuel a5 Af).bind fun Ac=>((AJa fuel a3 Ac).bind fun (Ag,Ak)=>((iter (fun s=>AJn fuel a3 s.1 s.2) fuel (0,[])).bind (fun (Ah:LiI)=>((iter (fun s=>AFi fuel a3 a5 Ac s.1 s.2.1 s.2.2.1 s.2.2.2.1 s.2.2.2.2) fuel (0,0,Ag,Ah,[])).bind (fun ((Am,Ai,Aj):LiI × LiI × (List AGb))=>(some ((a5,Ai,Aj),0)))))))))))))
theorem APk {fuel:Nat} {h:Zv} {Er:Value} {a3:LiI} {a5:Int} {r:((Int × LiI × (List AGb)) × Int)} (H2:ACx (cI .i64) h Er a3) (HO:AVa h) (hp:ACh fuel a3 a5=some r):AAw Tryz.prog 14 #[Er,(.int .i64 a5)] h (fun x h'=>Ext h h'/\ ∃ (Et:Value) (Eu:Value) (Ev:List Nat) (He:List LnA) (Hf:List Value) (Ew:List Nat),x= .tuple #[.agg #[.int .i64 r.1.1,Et,Eu],.int .i64 r.2]/\ACy (cI .i64) 60 2 h' Ev He Hf Et r.1.2.1/\OwC AOp 59 h' Ew Eu r.1.2.2/\Sp h' h.size [Ev,Ew]):=by
 unfold ACh at hp;refine cwf (l:=[_,_]) Tryz.func14 rfl rfl (Zo (AC4 (Kst.k0 h) [(.int .i64 0),(.slice none 0 0),(.slice none 0 0)] Aau fun b6 h7 E9 Ey=>Zu (Zp (Zo (Zk ?_)))));obtain ⟨Qn,Hg,Ez⟩:=Zq hp;refine ACa Ey (AW0 (H2.ext Ey.x) Hg) fun Qo Qp Bp=>ACr rfl (Zs (⟨_,rfl,fun Cg=>?_,fun Cg=>?_⟩))
 ·refine Zo (ADr (v:=(.agg #[(.int .i64 0),(.slice none 0 0),(.slice none 0 0)])) (fun _=>by kernel_rfl) (AB9 [(.int .i64 0),(.slice none 0 0),(.slice none 0 0)] AM3 rfl rfl rfl rfl (by simp [isOne]) (Bp.b p0) fun Qq Hh Hj=>Zu (Zx (AAd ?_))));have A7:=Kst.anil AOp 59 (Kst.anil2 (cI .i64) 60 2 (Bp.sb p0 Hj Hh rfl));obtain rfl:=Zm (ifT Ez Cg);exact ⟨_,ASc AM3 rfl rfl (A7.b p2),A7.x,_,_,_,_,_,_,rfl,(A7.o2 p1),(A7.o p0),A7.s.sel [1,0] Zl⟩
 ·refine Zw (q_t (Zp (Zo (Zk ?_))));obtain ⟨Qr,Hk,Fa⟩:=Zq (AFe Ez Cg);refine ACa Bp (ASk (HO.ext Bp.x) Hk) fun Qs Qt A8=>ACr rfl (Zs (⟨_,rfl,fun Ch=>?_,fun Ch=>?_⟩))
  ·refine Zo (ADr (v:=(.agg #[(.int .i64 0),(.slice none 0 0),(.slice none 0 0)])) (fun _=>by kernel_rfl) (AB9 [(.int .i64 0),(.slice none 0 0),(.slice none 0 0)] AM3 rfl rfl rfl rfl (by simp [isOne]) (A8.b p0) fun Qu Hl Hm=>Zu (Zx (AAd ?_))));have A9:=Kst.anil AOp 59 (Kst.anil2 (cI .i64) 60 2 (A8.sb p0 Hm Hl rfl));obtain rfl:=Zm (ifT Fa Ch);exact ⟨_,ASc AM3 rfl rfl (A9.b p2),A9.x,_,_,_,_,_,_,rfl,(A9.o2 p1),(A9.o p0),A9.s.sel [1,0] Zl⟩
  ·refine Zw (q_t (Zo (Zk (AA6 AAg rfl H2 (AA5 (Zk (Zk (Zk (Zk ?_)))))))));obtain ⟨Qv,Hn,Ho⟩:=Zq (AFe Fa Ch);refine ACa A8 (AJg (H2.ext A8.x) (HO.ext A8.x) Hn) fun Qw Qx Hq=>?_;obtain ⟨Ba,Hr,Hs⟩:=Zq Ho;refine ACa Hq (APb Hr) fun Qy Qz Ht=>ADr (v:=(.agg #[(.int .i64 a5),(.int .i64 Ba),(.slice none 0 0),(.slice none 0 0)])) (fun _=>by kernel_rfl) (AHb Ht [(.int .i64 a5),(.int .i64 Ba),(.slice none 0 0),(.slice none 0 0)] fun Hu Q0 Q1 Ci=>AA5 (Zk (Zk (Zk (AC7 rfl (ADj APg AAl (Ci.b p0) 1 rfl ?_))))));obtain ⟨⟨Hv,Q2⟩,Hw,Fb⟩:=Zq Hs;dsimp only at Fb;refine ANz rfl (AUy (H2.ext Ci.x) Hw) fun Q3 Q4 Hx Hy=>?_;obtain ⟨Ac,Hz,H5,Ia,rfl,Ib,Ic⟩:=Hy;refine Zk (ABl rfl rfl (ABl rfl rfl (AC7 rfl (ACd AIo rfl ?_))));have Cj:=Ci.no2 Hx Ic Ib;refine AQs [(.int .i64 a5),(.int .i64 Ba),Ac,(.slice none 0 0)] AD6 rfl rfl (Cj.o2 p0).isOne (Cj.b p1) (Nat.le_of_ble_eq_true rfl) rfl fun Q6 Id Ie=>Zs (Zp (Zo (Zk (Zk (Zs (Zt ?_))))));have Fc:=Kst.anil2 (cI .i64) 60 2 (Cj.sb p1 Ie Id rfl);refine AFo 295147887587166781696 (fun x:(Int) × (LiI) × (Value) × LnA × LnN × LvA=>(x.1,x.2.1)) ((0,[],(.slice none 0 0),[],[],[]):(Int) × (LiI) × (Value) × LnA × LnN × LvA) Fb (fun x=>[(44,(.int .i64 x.1))]) (fun x=>(Fc.L.set 0 (aO2 (cI .i64) 60 2 x.2.2.2.1 x.2.2.2.2.1 x.2.2.2.2.2 x.2.2.1 x.2.1)).set 2 (aB 80 Hu [(.int .i64 a5),(.int .i64 Ba),Ac,x.2.2.1])) Fc ⟨rfl,trivial⟩ ?_;rintro ⟨If,Ih,Ad,Ae,Ag,Ah⟩ Q7 Ck Q8 Bb Cm Ii;unfold AJn at Cm;refine Zo (AAv rfl rfl (Zs (Zp (⟨_,rfl,fun Cn=>?_,fun Cn=>?_⟩))))
   ·refine Zw (q_t (Zp (Zt (Zo (Zk (Zu (Zp (ACj (fun h'=>UpT (Ae ++ []) Ck h') Zy ?_))))))));have Bq:UpT (Ae ++ []) Ck Ck:=UpT.start (ACz (Bb.o2 p0).notD all_nil);refine Zk (Zk (AC7 rfl (ACd AUo rfl (ACl AD6 rfl Bq (fun h' hb=>((Bb.b p2).upT hb (Anh (Bb.dj p2 p0 Zl) Ani)).cell (i:=3) rfl) (Zk ?_)))));obtain ⟨Ij,Ik⟩:=ifN (AA8 Cm Cn);refine AQh (c:=(cI .i64)) (a:=0) AAi AI0 rfl rfl (fun _=>rfl) rfl Bq (fun _ E=>Bq.thenE E) rfl rfl Zl Ij fun Q9 Rc Rd Il Fd Im Io=>?_;have Fe:=Bq.thenE Fd;have Br:=Bb.no Fd (AE8 Im Io) Il;obtain ⟨Ip,Iq⟩:=ifN Ik;refine AXo AAg AMl rfl rfl Fe (fun _ U=>Fe.then U (ANp rfl)) (fun _=>rfl) rfl (Br.o p0) (Br.o2 p1) (Br.dj p0 p1 Zl) Zl Ip fun Re Rf Ir Rg Is It Iu=>AC7 rfl (ACd AUo rfl ?_);have Co:=Br.m2 p0 p1 Zl It Is Iu;refine AQs [(.int .i64 a5),(.int .i64 Ba),Ac,Ir] AD6 rfl rfl (Co.o2 p1).isOne (Co.b p3) (Nat.le_of_ble_eq_true rfl) rfl fun Rh Iv Iw=>Zs (AAc ?_);have Cp:=Co.sb p3 Iw Iv rfl;refine Zk (AC7 rfl (ADj AUo AD6 (Cp.b p3) 3 rfl (Zk ?_)));obtain ⟨Ri,Ff,Ix⟩:=Zq Iq;refine AB1 AAg AA3 (Cp.o2 p1) Ff fun _ Rj Iy=>Zk ?_;obtain ⟨Rm,Iz,I0⟩:=Zq Ix;refine ALo (m:=If) Cp p1 AAi AAl Iy Ff Iz (fun _=>rfl) fun _ Rn I1=>AAo (q_b (q_t (AAc (AAx rfl rfl (Zk (Zs ?_))))));exact ⟨(_,_,_,_,_,_),(Zm I0).symm,I1.sel [1,2,3,4] Zl,rfl,trivial⟩
   ·refine AAj (AAk (AAk (ABm (q_t (Zo (Zk (ADr (v:=(.agg #[(.int .i64 a5),(.slice none 0 0),(.slice none 0 0)])) (fun _=>by kernel_rfl) (AC4 Bb [(.int .i64 0),(.slice none 0 0),(.slice none 0 0)] Aau fun I2 Ro Rq Fg=>AB9 [(.int .i64 a5),(.slice none 0 0),(.slice none 0 0)] AM3 rfl rfl rfl rfl (by simp [isOne]) (Fg.b p0) fun Rr I3 I6=>AId (Zu (Zp (Zp ?_)))))))))));refine AAc (Zk (Zk (Zs (Zt ?_))));have Fh:=Kst.anil AOp 59 (Fg.sb p0 I6 I3 rfl);refine AFo 154740143727431099539790848 (fun x:(Int) × (Int) × (LiI) × LnA × LnN × LvA × (LiI) × ((List AGb)) × (Value) × LnA=>(x.1,x.2.1,x.2.2.1,x.2.2.2.2.2.2.1,x.2.2.2.2.2.2.2.1)) ((0,0,Hv,Hz,H5,Ia,Ih,[],(.slice none 0 0),[]):(Int) × (Int) × (LiI) × LnA × LnN × LvA × (LiI) × ((List AGb)) × (Value) × LnA) (Ii _ (Zm (AA9 Cm Cn)).symm) (fun x=>[(10,(.int .i64 x.1)),(71,(.int .i64 x.2.1))]) (fun x=>(((Fh.L.set 3 (aO2 (cI .i64) 60 2 x.2.2.2.1 x.2.2.2.2.1 x.2.2.2.2.2.1 Ac x.2.2.1)).set 2 (aO2 (cI .i64) 60 2 Ae Ag Ah Ad x.2.2.2.2.2.2.1)).set 0 (aO AOp 59 x.2.2.2.2.2.2.2.2.2 x.2.2.2.2.2.2.2.2.1 x.2.2.2.2.2.2.2.1)).set 1 (aB 29 I2 [(.int .i64 a5),(.slice none 0 0),x.2.2.2.2.2.2.2.2.1])) Fh ⟨rfl,rfl,trivial⟩ ?_;rintro ⟨Rs,Cq,I7,Bc,Be,Bf,I9,Rt,Cr,Ru⟩ Rv Rw Rx Av Ct Ja;unfold AFi at Ct;refine Zo (AAv rfl rfl (Zs (Zp (⟨_,rfl,fun Cu=>?_,fun Cu=>?_⟩))))
    ·refine Zw (q_t (Zp (Zt (Zo (Zk (AA5 (Zk (Zk (Zk ?_)))))))));obtain ⟨Jc,Je,Jf⟩:=Zq (AA8 Ct Cu);refine AA0 (K':=(fun xr h'=> ∃ x:(Int) × (Int) × (Int) × (Int) × (Int) × (LiI) × LnA × LnN × LvA × (LiI),(x.1,x.2.1,x.2.2.1,x.2.2.2.1,x.2.2.2.2.1,x.2.2.2.2.2.1,x.2.2.2.2.2.2.2.2.2)=Jc/\xr=(.agg #[(.int .i64 x.1),(.int .i64 x.2.1),(.int .i64 x.2.2.1),(.int .i64 x.2.2.2.1),(.int .i64 x.2.2.2.2.1)])/\Kst h h' ((Av.L.set 3 (aO2 (cI .i64) 60 2 x.2.2.2.2.2.2.1 x.2.2.2.2.2.2.2.1 x.2.2.2.2.2.2.2.2.1 Ac x.2.2.2.2.2.1)).set 2 (aO2 (cI .i64) 60 2 Ae Ag Ah Ad x.2.2.2.2.2.2.2.2.2)))) trivial rfl ?_ fun Ry Rz Jg=>?_
     ·refine cwf (l:=[_,_,_]) Tryz.func46 rfl rfl (Zo (AC4 Av [(.int .i64 0),(.int .i64 0),(.int .i64 0),(.int .i64 0),(.int .i64 0)] ARj fun R3 R4 R5 Bg=>AId (Zk (Zk (Zk ?_)))));obtain ⟨Jh,Ji,Jj⟩:=Zq Je;refine AA0 (K':=(fun xr h'=> ∃ x:(Int) × (Int),(x.1,x.2)=Jh/\xr= .tuple #[(.int .i64 x.1),(.int .i64 x.2)]/\Kst h h' (Bg.L))) trivial rfl ?_ fun R6 R7 Jk=>?_
      ·refine cwf (l:=[_,_,_]) Tryz.func88 rfl rfl (Zo (AAn (Zu (Ail (Zo (Zk (AC7 rfl (ADj AIo AD6 (Bg.b p5) 2 rfl (AA6 AAg rfl (Bg.o2 p4).rd (AA5 (Zk (Zk (AAn (AAn (Zu (Zp ?_))))))))))))))));refine Aim (q_t (Zp (Zo (Zk (Zk (AFl rfl rfl (Zk (Zs (Zt (AG5 18889465931478513810944 Ji (fun x=>[(9,(.int .i64 x.1)),(10,(.int .i64 x.2.1)),(11,(.int .i64 x.2.2.1)),(26,(.int .i64 x.2.2.2))]) (fun x=>Bg.L) Bg ⟨rfl,rfl,rfl,rfl,trivial⟩ ?_))))))))));rintro ⟨Jl,Jm,R8,Fi⟩ R9 Sa Sb Cv Cw Fj;unfold AJm at Cw;refine Zo (AAv rfl rfl (Zs (Zp (⟨_,rfl,fun Cx=>?_,fun Cx=>?_⟩))))
       ·refine Zw (q_t (Zp (Zt (Zo (Zk (AA5 (Zk (Zu (Zt (AG5 9444732965738216746496 (AA8 Cw Cx) (fun x=>[(9,(.int .i64 x.1)),(10,(.int .i64 x.2.1)),(11,(.int .i64 x.2.2.1)),(13,(.int .i64 x.2.2.2))]) (fun x=>Cv.L) Cv ⟨rfl,rfl,rfl,rfl,trivial⟩ ?_))))))))));rintro ⟨Fk,Fl,Cy,Bh⟩ Sc Sd Se Ak Cz Fm;unfold AJl at Cz;refine Zp (Zo (Zk (Zk (AAx rfl rfl (Zk (AAv rfl rfl (Zs (⟨_,rfl,fun C0=>?_,fun C0=>?_⟩))))))))
        ·refine Zw (q_t ?_);obtain ⟨Jn,Jo,Fo⟩:=Zq (AA8 Cz C0);refine AKi 9444732965601851526656 (fun x:(Int) × (Int) × (Int)=>[(9,(.int .i64 x.1)),(10,(.int .i64 x.2.1)),(11,(.int .i64 x.2.2))]) (fun x h'=>(Sum.inl <| (x.1,x.2.1,x.2.2))=Jn/\Kst h h' (Ak.L)) ?_ ?_
         ·refine Zt (Zo (Zk (AC7 rfl (ADj AIo AD6 (Ak.b p5) 2 rfl (Zk ?_)))));obtain ⟨Sf,Fp,Jp⟩:=Zq Jo;refine AB1 AAg AA3 (Ak.o2 p4) Fp fun _ Sg Jq=>Zk (Zk (AAx rfl rfl ?_));obtain ⟨Sh,Jr,Fq⟩:=Zq Jp;refine AIy (m:=Bh) AAi AAl (Ak.o2 p4) Jq Fp Jr fun _=>(Zu (Zp (Zo (Zk (ABx rfl rfl (Zs (⟨_,rfl,fun C1=>?_,fun C1=>?_⟩)))))))
          ·refine AAj (AAk (ABm (q_t ?_)));exact ⟨((Fk,Fl,Cy):(Int) × (Int) × (Int)),⟨Zm (AA8 Fq C1),Ak⟩,rfl,rfl,rfl,trivial⟩
          ·refine Zw (q_t ?_);obtain ⟨Js,Jt,Fr⟩:=Zq (AA9 Fq C1);refine AKi 1180589368917597654528 (fun x:(Int) × (Int) × (Int)=>[(9,(.int .i64 x.1)),(10,(.int .i64 x.2.1)),(11,(.int .i64 x.2.2))]) (fun x h'=>( (x.1,x.2.1,x.2.2))=Js/\Kst h h' (Ak.L)) ?_ ?_
           ·refine Zo (Zk (Zk (AC7 rfl (ADj Aeu AAl (Ak.b p5) 0 rfl ?_))));obtain ⟨C2,Ju,Ft⟩:=Zq Jt;refine ACa Ak (APf Ju) fun Si Sj C3=>Atl (u:=(.int .i64 C2.1)) (fun _=>by kernel_rfl) (AA5 (Zk (AAv rfl rfl (Zk ?_))));by_cases Bt:Cy < 0
            ·rw [decide_eq_true Bt];refine AC8 60 true (AAa rfl (Zs (AAr rfl (AAc (Zk (Zk (Zk (AAx rfl rfl (Zk (AAn (AAn (Zu ?_))))))))))));exact ⟨((Bh,(w64 (Bh + Fi)),C2.1):(Int) × (Int) × (Int)),⟨Zm (ifT Ft Bt),C3⟩,rfl,rfl,rfl,trivial⟩
            ·have Fu:=ifF Ft Bt;rw [decide_eq_false Bt];refine Z4 60 false (Zk (Z4 60 false (Zk (Z4 60 false (AAv rfl rfl (Z1 rfl (Zs (⟨_,rfl,fun C4=>?_,fun C4=>?_⟩))))))))
             ·refine AAc (Zk (Zk (Zk (AAx rfl rfl (Zk (AAn (AAn (Zu ?_))))))));exact ⟨((Bh,(w64 (Bh + Fi)),C2.1):(Int) × (Int) × (Int)),⟨Zm (AA8 Fu C4),C3⟩,rfl,rfl,rfl,trivial⟩
             ·refine Zw (q_t ?_);exact ⟨((Fk,Fl,Cy):(Int) × (Int) × (Int)),⟨Zm (AA9 Fu C4),C3⟩,rfl,rfl,rfl,trivial⟩
           rintro ⟨Fv,Fw,Jv⟩ Sk Sm ⟨Jw,Fx⟩;subst Jw;refine Zo (Zk (Zk (ABx rfl rfl (Zs (⟨_,rfl,fun C5=>?_,fun C5=>?_⟩)))))
           ·obtain rfl:=Zm (AA8 Fr C5);refine AAj (AZn Zl (AAk (AAk (AZn Zl (AZn Zl (AAk (AAk (ABm (q_t (Zo (Zk (Zk (AAn (Zu (Zx (Ama (⟨_,ABi,((Fv,Fw):(Int) × (Int)),?_,rfl,?_⟩)))))))))))))))))
            ·exact Zm (Fj _ (Zm (Fm _ (Zm Fo).symm)).symm)
            ·exact Fx
           ·refine Zw (q_b (q_t ?_));exact ⟨((Fv,Fw,Jv):(Int) × (Int) × (Int)),⟨Zm (AA9 Fr C5),Fx⟩,rfl,rfl,rfl,trivial⟩
         rintro ⟨Sn,So,Sq⟩ Sr Ss ⟨Jx,Jy⟩;subst Jx;refine AAc (Zk (AAx rfl rfl (Zu ?_)));exact ⟨_,(Zm Fo).symm,Jy,rfl,rfl,rfl,rfl,trivial⟩
        ·refine AAj (AAk (AAk (ABm (q_b (q_t (AAc (AAx rfl rfl (Zk (Zs ?_)))))))));exact ⟨_,(Zm (Fm _ (Zm (AA9 Cz C0)).symm)).symm,Ak,rfl,rfl,rfl,rfl,trivial⟩
       ·refine AAj (AAk (AAk (ABm (q_t (Zo (Zk (Zk (AAn (Zu (Zx (Ama (⟨_,ABi,((Jl,Jm):(Int) × (Int)),?_,rfl,?_⟩))))))))))))
        ·exact Zm (Fj _ (Zm (AA9 Cw Cx)).symm)
        ·exact Cv
      obtain ⟨⟨Fy,Jz⟩,J0,rfl,Ar⟩:=Jk;refine ⟨trivial,?_⟩;subst J0;refine Zk (ABl rfl rfl (ABl rfl rfl (AAn (Zu ?_))));obtain ⟨J1,Fz,J2⟩:=Zq Jj;refine AKi 532676608 (fun x:(LiI) × (LiI)=>[]) (fun x h'=>( (x.1,x.2))=J1/\Kst h h' ((Ar.L.set 4 (aO2 (cI .i64) 60 2 Bc Be Bf Ac x.1)).set 3 (aO2 (cI .i64) 60 2 Ae Ag Ah Ad x.2))) ?_ ?_
      ·refine Zo (Zk (Zk (ACp rfl rfl (Zs (⟨_,rfl,fun C6=>?_,fun C6=>?_⟩)))))
       ·refine AAc (Zk (Zk (Zk ?_)));obtain ⟨J3,J4,J5⟩:=Zq (AA8 Fz C6);refine AA0 (K':=(fun xr h'=> ∃ x:(LiI) × (LiI),(x.1,x.2)=J3/\xr= .tuple #[]/\Kst h h' ((Ar.L.set 4 (aO2 (cI .i64) 60 2 Bc Be Bf Ac x.1)).set 3 (aO2 (cI .i64) 60 2 Ae Ag Ah Ad x.2)))) trivial rfl ?_ fun St Su J6=>?_
        ·refine cwf (l:=[_,_,_,_]) Tryz.func89 rfl rfl (Zp (Zp (AGe (Zk (AC7 rfl (ADj AIo AD6 (Ar.b p5) 2 rfl (Zk (AC7 rfl (ADj AUo AD6 (Ar.b p5) 3 rfl (Ahq AQr Apw rfl trivial tt2 rfl (Ar.o2 p4).isOne (Ar.o2 p3).isOne fun Sv Sw J7 J8 J9=>AZd AQr rfl (Zk (Zs (Zt ?_)))))))))))));have F4:=Ar.nb J8 J9 J7;refine AG5 36028797002189312 J4 (fun x=>[(24,(.int .i64 x.1))]) (fun x=>(F4.L.set 5 (aO2 (cI .i64) 60 2 Bc Be Bf Ac x.2.1)).set 4 (aO2 (cI .i64) 60 2 Ae Ag Ah Ad x.2.2)) F4 ⟨rfl,trivial⟩ ?_;rintro ⟨F5,Sx,Ka⟩ Sy Sz S5 Ai C7 Kb;unfold ADw at C7;refine Zo (AAv rfl rfl (Zs (Zp (⟨_,rfl,fun C8=>?_,fun C8=>?_⟩))))
         ·refine Zw (q_t (Zp (Zt (Zo ?_))));have F6:=AA8 C7 C8;by_cases C9:F5=0
          ·refine Acp 0 AQr rfl rfl C9 Zl (AA7 AD6 rfl ((Ai.b p0).cell (i:=0) rfl) (AA5 (Zk (AA6 AAg rfl (Ai.o2 p5).rd (Zk (Zs (Zt (AG5 18014397435742208 (ifT F6 C9) (fun x=>[(30,(.int .i64 x.1))]) (fun x=>Ai.L.set 5 (aO2 (cI .i64) 60 2 Bc Be Bf Ac x.2)) Ai ⟨rfl,trivial⟩ ?_))))))));rintro ⟨Da,S7⟩ Ta Tb Tc Aw Db Kc;unfold AIp at Db;refine Zo (AAv rfl rfl (Zs (Zp (⟨_,rfl,fun Dc=>?_,fun Dc=>?_⟩))))
           ·refine Zw (q_t (Zp (Zt (Zo ?_))));obtain ⟨Td,Bu,Kd⟩:=Zq (AA8 Db Dc);refine AB1 AAg AA3 (Aw.o2 p5) Bu fun _ Te Dd=>Zu (AGe (Zk (Zk (Zk (Zk ?_)))));obtain ⟨Tf,F7,Ke⟩:=Zq Kd;refine AIy (m:=Da) AAi AAl (Aw.o2 p5) Dd Bu F7 fun _=>(Zk (Zk (Zk ?_)));obtain ⟨Tg,Kf,Kg⟩:=Zq Ke;refine AIy (m:=Da) AAi AAl (Aw.o2 p5) Dd Bu Kf fun _=>(AL9 rfl rfl (AAx rfl rfl (Zk (AC7 rfl (ADj APg AAl (Aw.b p6) 1 rfl ?_)))));obtain ⟨Kh,Ki⟩:=ifN Kg;refine ADk rfl rfl Kh (ALo (m:=Da) Aw p5 AAi AAl Dd Bu F7 (fun _=>rfl) fun _ Th Kj=>AAo (q_b (q_t (AAc (AAx rfl rfl (Zk (Zs ?_)))))));exact ⟨_,(Zm Ki).symm,Kj,rfl,trivial⟩
           ·refine AAj (AAk (AAk (ABm (q_b (q_t (AAc (AAx rfl rfl (Zk (Zs ?_)))))))));exact ⟨_,(Zm (Kc _ (Zm (AA9 Db Dc)).symm)).symm,Aw,rfl,trivial⟩
          ·have F8:=ifF F6 C9;by_cases De:F5=1
           ·refine Acp 1 AQr rfl rfl De Zl (AA7 AD6 rfl ((Ai.b p0).cell (i:=1) rfl) (AA5 (Zk (AA6 AAg rfl (Ai.o2 p4).rd (Zk (Zs (Zt (AG5 18014397435742208 (ifT F8 De) (fun x=>[(30,(.int .i64 x.1))]) (fun x=>Ai.L.set 4 (aO2 (cI .i64) 60 2 Ae Ag Ah Ad x.2)) Ai ⟨rfl,trivial⟩ ?_))))))));rintro ⟨Df,Ti⟩ Tj Tk Tl Ax Dg Kk;unfold AIq at Dg;refine Zo (AAv rfl rfl (Zs (Zp (⟨_,rfl,fun Dh=>?_,fun Dh=>?_⟩))))
            ·refine Zw (q_t (Zp (Zt (Zo ?_))));obtain ⟨Tm,Bv,Kl⟩:=Zq (AA8 Dg Dh);refine AB1 AAg AA3 (Ax.o2 p4) Bv fun _ Tn Di=>Zu (AGe (Zk (Zk (Zk (Zk ?_)))));obtain ⟨To,F9,Km⟩:=Zq Kl;refine AIy (m:=Df) AAi AAl (Ax.o2 p4) Di Bv F9 fun _=>(Zk (Zk (Zk ?_)));obtain ⟨Tp,Kn,Ko⟩:=Zq Km;refine AIy (m:=Df) AAi AAl (Ax.o2 p4) Di Bv Kn fun _=>(AL9 rfl rfl (AAx rfl rfl (Zk (AC7 rfl (ADj APg AAl (Ax.b p6) 1 rfl ?_)))));obtain ⟨Kp,Kr⟩:=ifN Ko;refine ADk rfl rfl Kp (ALo (m:=Df) Ax p4 AAi AAl Di Bv F9 (fun _=>rfl) fun _ Tq Kt=>AAo (q_b (q_t (AAc (AAx rfl rfl (Zk (Zs ?_)))))));exact ⟨_,(Zm Kr).symm,Kt,rfl,trivial⟩
            ·refine AAj (AAk (AAk (ABm (q_b (q_t (AAc (AAx rfl rfl (Zk (Zs ?_)))))))));exact ⟨_,(Zm (Kk _ (Zm (AA9 Dg Dh)).symm)).symm,Ax,rfl,trivial⟩
           ·have Ku:=ifF F8 De;cases Ku
         ·refine AAj (AAk (AAk (ABm (q_t (Zo (Zk (AC7 rfl (ADj AIo AD6 (Ai.b p6) 2 rfl (Zk ?_)))))))));obtain ⟨Tr,Ga,Kv⟩:=Zq (Kb _ (Zm (AA9 C7 C8)).symm);refine AB1 AAg AA3 (Ai.o2 p5) Ga fun _ Ts Gb=>ABj AAi rfl ((Ai.o2 p5).rowI Gb Ga) (Zk (Zs (Zt ?_)));have Dj:=Ai.sel [1,2,3,4,5,6,7] Zl;dsimp only [AHd,AKw] at Dj;refine AG5 158456325019305303150233137152 Kv (fun x=>[(63,(.int .i64 x.1))]) (fun x=>Dj.L.set 4 (aO2 (cI .i64) 60 2 Bc Be Bf Ac x.2)) Dj ⟨rfl,trivial⟩ ?_;rintro ⟨Tt,Kw⟩ Tu Tv Tw Am Dk Kx;unfold AE0 at Dk;refine Zo (AAv rfl rfl (Zs (Zp (⟨_,rfl,fun Dl=>?_,fun Dl=>?_⟩))))
          ·refine Zw (q_t (Zp (Zt (Zo (Zk ?_)))));obtain ⟨Tx,Ky,Kz⟩:=Zq (AA8 Dk Dl);obtain ⟨Ty,La,Lb⟩:=Zq Kz;refine AIy (m:=Jz) AAi AAl (Am.o2 p4) Gb Ky La fun _=>(AAn (Zu (AGe (Zk (AC7 rfl (ADj AIo AD6 (Am.b p5) 2 rfl (Zk ?_)))))));obtain ⟨Tz,Bw,Lc⟩:=Zq Lb;refine AB1 AAg AA3 (Am.o2 p4) Bw fun _ T0 Ld=>Zk (Zk (AC7 rfl (ADj AIo AD6 (Am.b p5) 2 rfl (Zk (AB1 AAg AA3 (Am.o2 p4) Bw fun _ T3 Le=>Zk ?_)))));obtain ⟨T4,Gc,Lf⟩:=Zq Lc;refine AIy (m:=Fy) AAi AAl (Am.o2 p4) Le Bw Gc fun _=>(Zk (Zk (AL9 rfl rfl (AAx rfl rfl (Zk (AC7 rfl (ADj APg AAl (Am.b p5) 1 rfl ?_)))))));obtain ⟨Lg,Lh⟩:=ifN Lf;refine ADk rfl rfl Lg (ALo (m:=Fy) Am p4 AAi AAl Ld Bw Gc (fun _=>rfl) fun _ T5 Li=>AAo (q_b (q_t (AAc (AAx rfl rfl (Zk (Zs ?_)))))));exact ⟨_,(Zm Lh).symm,Li,rfl,trivial⟩
          ·refine AAj (AAk (AAk (ABm (⟨_,AS4,((Kw,Ka):(LiI) × (LiI)),?_,rfl,?_⟩))))
           ·exact Zm (Kx _ (Zm (AA9 Dk Dl)).symm)
           ·exact Am
        obtain ⟨⟨Lj,Lk⟩,Ll,rfl,Lm⟩:=J6;refine ⟨trivial,?_⟩;subst Ll;refine Zs ?_;exact ⟨((Lj,Lk):(LiI) × (LiI)),⟨Zm J5,Lm⟩,trivial⟩
       ·refine Zw (q_t ?_);exact ⟨((I7,I9):(LiI) × (LiI)),⟨Zm (AA9 Fz C6),Ar⟩,trivial⟩
      rintro ⟨T6,T7⟩ T8 T9 ⟨Lo,Ao⟩;subst Lo;refine Zo (Zk (Zk (Zk ?_)));obtain ⟨Lq,Lr,Lv⟩:=Zq J2;refine AA0 (K':=(fun xr h'=> ∃ x:(LiI) × LnA × LnN × LvA × (LiI),(x.1,x.2.2.2.2)=Lq/\xr= .tuple #[]/\Kst h h' ((Ao.L.set 4 (aO2 (cI .i64) 60 2 x.2.1 x.2.2.1 x.2.2.2.1 Ac x.1)).set 3 (aO2 (cI .i64) 60 2 Ae Ag Ah Ad x.2.2.2.2)))) trivial rfl ?_ fun Ua Do Lw=>?_
      ·refine cwf (l:=[_,_,_]) Tryz.func90 rfl rfl (Zp (AGe (Zk (AC7 rfl (ADj AIo AD6 (Ao.b p5) 2 rfl (Zk (Zk (AC7 rfl (ADj AIo AD6 (Ao.b p5) 2 rfl (Zk (Zk (AC7 rfl (ADj AIo AD6 (Ao.b p5) 2 rfl (Zk ?_))))))))))))));obtain ⟨Ub,Gd,Lx⟩:=Zq Lr;refine AB1 AAg AA3 (Ao.o2 p4) Gd fun _ Uc Ly=>Zk (AC7 rfl (ADj AIo AD6 (Ao.b p5) 2 rfl (Zk ?_)));obtain ⟨Ud,Ge,Lz⟩:=Zq Lx;refine AB1 AAg AA3 (Ao.o2 p4) Ge fun _ Ue L9=>ARo AAg AA3 (Ao.o2 p4) L9 Ly Ge Gd rfl rfl (fun _=>rfl) (fun _=>rfl) (fun _=>rfl) (fun _ _=>rfl) fun Uf Ug Dp Dq Dr Uh Ma Mb Mc=>Zs (Zp (AGe ?_));have Bi:=Ao.uo2 p4 Mb Ma Mc;refine Zk (AC7 rfl (ADj AIo AD6 (Bi.b p5) 2 rfl (Zk (AC7 rfl (ADj AUo AD6 (Bi.b p5) 3 rfl (Ahq AQr Apw rfl trivial tt2 rfl (Bi.o2 p4).isOne (Bi.o2 p3).isOne fun Ui Uj Md Me Mf=>AZd AQr rfl (Zk (Zs (Zt ?_)))))))));have Gf:=Bi.nb Me Mf Md;refine AG5 4722366412500901036672 Lz (fun x=>[(46,(.int .i64 x.1))]) (fun x=>(Gf.L.set 5 (aO2 (cI .i64) 60 2 Dp Dq Dr Ac x.2.1)).set 4 (aO2 (cI .i64) 60 2 Ae Ag Ah Ad x.2.2)) Gf ⟨rfl,trivial⟩ ?_;rintro ⟨Gg,Mg,Mh⟩ Uk Ul Um Ap Ds Mi;unfold AE1 at Ds;refine Zo (AAv rfl rfl (Zs (Zp (⟨_,rfl,fun Dt=>?_,fun Dt=>?_⟩))))
       ·refine Zw (q_t (Zp (Zt (Zo ?_))));have Gh:=AA8 Ds Dt;by_cases Du:Gg=0
        ·refine Acp 0 AQr rfl rfl Du Zl (AA7 AD6 rfl ((Ap.b p0).cell (i:=0) rfl) (AA5 (Zk (AA6 AAg rfl (Ap.o2 p5).rd (Zk (Zs (Zt (AG5 2361178737835195236864 (ifT Gh Du) (fun x=>[(52,(.int .i64 x.1))]) (fun x=>Ap.L.set 5 (aO2 (cI .i64) 60 2 Dp Dq Dr Ac x.2)) Ap ⟨rfl,trivial⟩ ?_))))))));rintro ⟨Bx,Un⟩ Uo Up Uq Bj Dv Mj;unfold AIr at Dv;refine Zo (AAv rfl rfl (Zs (Zp (⟨_,rfl,fun Dw=>?_,fun Dw=>?_⟩))))
         ·refine Zw (q_t (Zp (Zt (Zo ?_))));obtain ⟨Ur,By,Mk⟩:=Zq (AA8 Dv Dw);refine AB1 AAg AA3 (Bj.o2 p5) By fun _ Us Bz=>Zu (AGe (Zk (Zk (Zk (Zk (Zk (Zk ?_)))))));obtain ⟨Ut,Ml,Mm⟩:=Zq Mk;refine AIy (m:=Bx) AAi AAl (Bj.o2 p5) Bz By Ml fun _=>(Zk (Zk ?_));obtain ⟨Uu,Gi,Mo⟩:=Zq Mm;refine AIy (m:=Bx) AAi AAl (Bj.o2 p5) Bz By Gi fun _=>ALo (m:=Bx) Bj p5 AAi AAl Bz By Gi (fun _=>rfl) fun _ Uv Mq=>?_;obtain ⟨Uw,Mr,Ms⟩:=Zq Mo;obtain ⟨Ux,Mt,Mu⟩:=Zq Ms;refine ALo (m:=Bx) Mq p5 AAi AAl Bz Mr Mt (fun _=>rfl) fun _ Uy Mv=>AAo (q_b (q_t (AAc (AAx rfl rfl (Zk (Zs ?_))))));exact ⟨_,(Zm Mu).symm,Mv,rfl,trivial⟩
         ·refine AAj (AAk (AAk (ABm (q_b (q_t (AAc (AAx rfl rfl (Zk (Zs ?_)))))))));exact ⟨_,(Zm (Mj _ (Zm (AA9 Dv Dw)).symm)).symm,Bj,rfl,trivial⟩
        ·have Gj:=ifF Gh Du;by_cases Dx:Gg=1
         ·refine Acp 1 AQr rfl rfl Dx Zl (AA7 AD6 rfl ((Ap.b p0).cell (i:=1) rfl) (AA5 (Zk (AA6 AAg rfl (Ap.o2 p4).rd (Zk (Zs (Zt (AG5 2361178737835195236864 (ifT Gj Dx) (fun x=>[(52,(.int .i64 x.1))]) (fun x=>Ap.L.set 4 (aO2 (cI .i64) 60 2 Ae Ag Ah Ad x.2)) Ap ⟨rfl,trivial⟩ ?_))))))));rintro ⟨B1,Uz⟩ U0 U3 U8 Bl Dy Mw;unfold AIs at Dy;refine Zo (AAv rfl rfl (Zs (Zp (⟨_,rfl,fun Dz=>?_,fun Dz=>?_⟩))))
          ·refine Zw (q_t (Zp (Zt (Zo ?_))));obtain ⟨Va,B3,Mx⟩:=Zq (AA8 Dy Dz);refine AB1 AAg AA3 (Bl.o2 p4) B3 fun _ Vb B4=>Zu (AGe (Zk (Zk (Zk (Zk (Zk (Zk ?_)))))));obtain ⟨Vc,My,Mz⟩:=Zq Mx;refine AIy (m:=B1) AAi AAl (Bl.o2 p4) B4 B3 My fun _=>(Zk (Zk ?_));obtain ⟨Vd,Gk,M0⟩:=Zq Mz;refine AIy (m:=B1) AAi AAl (Bl.o2 p4) B4 B3 Gk fun _=>ALo (m:=B1) Bl p4 AAi AAl B4 B3 Gk (fun _=>rfl) fun _ Ve M2=>?_;obtain ⟨Vf,M3,M4⟩:=Zq M0;obtain ⟨Vg,M5,M6⟩:=Zq M4;refine ALo (m:=B1) M2 p4 AAi AAl B4 M3 M5 (fun _=>rfl) fun _ Vh M7=>AAo (q_b (q_t (AAc (AAx rfl rfl (Zk (Zs ?_))))));exact ⟨_,(Zm M6).symm,M7,rfl,trivial⟩
          ·refine AAj (AAk (AAk (ABm (q_b (q_t (AAc (AAx rfl rfl (Zk (Zs ?_)))))))));exact ⟨_,(Zm (Mw _ (Zm (AA9 Dy Dz)).symm)).symm,Bl,rfl,trivial⟩
         ·have M8:=ifF Gj Dx;cases M8
       ·refine AAj (AAk (AAk (ABm (⟨_,AS4,((Mg,Dp,Dq,Dr,Mh):(LiI) × LnA × LnN × LvA × (LiI)),?_,rfl,?_⟩))))
        ·exact Zm (Mi _ (Zm (AA9 Ds Dt)).symm)
        ·exact Ap.sel [1,2,3,4,5,6,7] Zl
      obtain ⟨⟨Vi,Ay,Az,A3,Vj⟩,M9,rfl,Au⟩:=Lw;refine ⟨trivial,?_⟩;subst M9;refine Zs (Zp ?_);have A4:UpT [] Do Do:=UpT.start all_nil;refine AT8 (B:=fun h'=>UpT [] Do h') 15 [⟨9,59,[.int .i64 0,.int .i64 0,.int .i64 0,.int .i64 0,.int .i64 0]⟩] (fun _ _ U E=>U.thenE E) Zy A4 (Ad0 rfl ARj rfl (fun _ _ U E=>U.thenE E)) (h_l rfl (Zk (AAo (h_l rfl (AC7 rfl (AAo (h_l rfl (ACd AIo rfl (AAo (h_l rfl (ACl AD6 rfl A4 (fun h' hb=>((Au.b p5).ext hb.ext).cell (i:=2) rfl) (AAo (h_l rfl (Zk (AAo (h_l rfl ?_))))))))))))))));obtain ⟨Vk,D0,Na⟩:=Zq Lv;refine ADb AAg rfl (Au.o2 p4) rfl D0 fun Vl Vm Vn Nb Nc=>AAo (h_l rfl (ACl AA3 rfl A4 (fun h' hb=>AAz Nc hb.ext) (AAo (h_l rfl (Zk (AAo (h_l rfl ?_)))))));obtain ⟨Vo,Gl,Nd⟩:=Zq Na;refine AE9 (m:=Cq) AAi rfl (Au.o2 p4) Nb D0 rfl Gl fun Vp Nf=>AAo (h_l rfl ?_);obtain ⟨Vs,Ng,Nh⟩:=(Au.o2 p4).cells Nf D0 Gl;obtain rfl:=Ng;refine ACl AAl rfl A4 (fun h' hb=>AAz (Nh 0 _ rfl) hb.ext) (AAo (h_l rfl (Zk (AAo (h_l rfl (AC7 rfl (AAo (h_l rfl (ACd Aeu rfl (AAo (h_l rfl (ACl AAl rfl A4 (fun h' hb=>((Au.b p5).ext hb.ext).cell (i:=0) rfl) (AAo (h_e rfl fun Vt Gm=>?_))))))))))))));obtain ⟨Aa,Ni,Nj⟩:=Zq Nd;refine Aa6 (Au.e Gm) (A4.thenE Gm) (APf Ni) fun Vu Nk Vv Nl=>AAo ⟨Nk,?_⟩;refine Aa5 fun Vw Nm=>Aq1 fun Vx Gn Nn Vy=>?_;have Gp:=Au.nb (Nl.thenE Nm).ext (AE8 Nn Gn.lt) Gn;refine AB9 [(.int .i64 Aa.1),(.int .i64 Aa.2.1),(.int .i64 Aa.2.2.1),(.int .i64 Aa.2.2.2.1),(.int .i64 Aa.2.2.2.2)] AK5 rfl rfl rfl rfl (by simp [isOne]) (Gp.b p0) fun Vz Np Nq=>Zs (Zp (AGe ?_));have D1:=Gp.sb p0 Nq Np rfl;refine Zk (AC7 rfl (ADj Aeu AAl (D1.b p6) 0 rfl (ADj AHr ABv (D1.b p0) 0 rfl ?_)));obtain ⟨V1,Nr,Ns⟩:=Zq Nj;refine ACa D1 (APb Nr) fun D2 V4 D3=>Zu (Zp (ACj (fun h'=>UpT [] D2 h') Zy ?_));have B5:UpT [] D2 D2:=UpT.start all_nil;refine ACd ANj rfl (ACl AAl rfl B5 (fun h' hb=>((D3.b p0).ext hb.ext).cell (i:=2) rfl) (AYt (κ:= .i64) [Aa.2.2.1] AAi AI0 rfl rfl B5 (fun _ E=>B5.thenE E) rfl rfl rfl rfl fun Nt Nu V5 Nv Gq Nw Ny=>?_));have D4:=B5.thenE Gq;have D5:=D3.no Gq (AE8 Nw Ny) Nv;refine AYw (c:=(cI .i64)) (el:=2) [[Nt]] [Nu] [([Aa.2.2.1]:List Int)] AAg AMl rfl rfl D4 (fun _ E=>D4.thenE E) rfl rfl rfl rfl (AHf (D5.o p0).isOne AT9) ⟨(D5.o p0),trivial⟩ AA4 fun V6 V8 V9 Nz Gr N0=>Zk (AC7 rfl (ACd APg rfl ?_));have D6:=D4.thenE Gr;refine ACl AAl rfl D6 (fun h' hb=>((D3.b p6).ext hb.ext).cell (i:=1) rfl) ?_;have Gt:=(((D5.a0).grab p0)).lit Gr Nz (by simpa using N0);obtain ⟨⟨Wa,Wb⟩,N3,Gu⟩:=Zq Ns;dsimp only at Gu;refine AEo D6 (fun _ E=>D6.thenE E) rfl (AVs (Gt.o2 p0).rd N3) fun Wc Wd N4 N5=>?_;obtain ⟨We,Wf,Wg,Wh,rfl,N6,N7⟩:=N5;refine Zk (ABl rfl rfl (ABl rfl rfl (AAn (Zu (Zp (Zo (Zk (AAx rfl rfl (Zu (Zt ?_))))))))));have D7:=(Gt.no2 N4 N7 N6).sel [0,3,4,5,6,7,8,9,10] Zl;dsimp only [AHd,AKw] at D7;refine AG5 83076749736556651760677582561894400 Gu (fun x=>[(13,(.int .i64 x.1))]) (fun x=>(D7.L.set 6 (aO2 (cI .i64) 60 2 Ay Az A3 Ac x.2.1)).set 5 (aO2 (cI .i64) 60 2 Ae Ag Ah Ad x.2.2)) D7 ⟨rfl,trivial⟩ ?_;rintro ⟨Gv,N8,N9⟩ Wi Wj Wk Ab D8 Oa;unfold AIv at D8;refine Zp (Zo (Zk (Zk (AC7 rfl (ADj AIo AD6 (Ab.b p7) 2 rfl (AA6 AAg rfl (Ab.o2 p6).rd (AAv rfl rfl (Zs (⟨_,rfl,fun D9=>?_,fun D9=>?_⟩)))))))))
      ·refine Zw (q_t (Zp (Zt (Zp (AGe (Zk (AC7 rfl (ADj AIo AD6 (Ab.b p7) 2 rfl (Zk ?_)))))))));obtain ⟨Wl,Gw,Ob⟩:=Zq (AA8 D8 D9);refine AB1 AAg AA3 (Ab.o2 p6) Gw fun _ Wm Oc=>Zk ?_;obtain ⟨Wn,Od,Oe⟩:=Zq Ob;refine AIy (m:=Cq) AAi AAl (Ab.o2 p6) Oc Gw Od fun _=>(Zk ?_);obtain ⟨Og,Oh⟩:=ifN Oe;refine AU5 rfl rfl Og (Zk ?_);obtain ⟨Wo,Gx,Oi⟩:=Zq Oh;refine AB1 AAg AA3 (Ab.o2 p0) Gx fun _ Wp Oj=>?_;obtain ⟨Wq,Ol,Om⟩:=Zq Oi;refine AIy (m:=0) AAi AAl (Ab.o2 p0) Oj Gx Ol fun _=>(AL9 rfl rfl (Zk (AC7 rfl (ADj APg AAl (Ab.b p7) 1 rfl ?_))));obtain ⟨On,Oo⟩:=ifN Om;refine ADk rfl rfl On (Zu (AGe (Zk (Zk (Zk (Zk (AC7 rfl (ADj APg AAl (Ab.b p7) 1 rfl (Zk (AFl rfl rfl (Zk (AC7 rfl (ADj APg AAl (Ab.b p7) 1 rfl ?_)))))))))))));obtain ⟨Oq,Ot⟩:=ifN Oo;refine ADk rfl rfl Oq ?_;obtain ⟨Ou,Ov,Ow⟩:=Zq Ot;refine AA0 (K':=(fun xr h'=> ∃ x:(LiI) × (LiI),(x.1,x.2)=Ou/\xr= .tuple #[]/\Kst h h' ((Ab.L.set 6 (aO2 (cI .i64) 60 2 Ay Az A3 Ac x.1)).set 5 (aO2 (cI .i64) 60 2 Ae Ag Ah Ad x.2)))) trivial rfl ?_ fun Wr Ws Ox=>?_
       ·refine cwf (l:=[_,_,_,_]) Tryz.func89 rfl rfl (Zp (Zp (AGe (Zk (AC7 rfl (ADj AIo AD6 (Ab.b p7) 2 rfl (Zk (AC7 rfl (ADj AUo AD6 (Ab.b p7) 3 rfl (Ahq AQr Apw rfl trivial tt2 rfl (Ab.o2 p6).isOne (Ab.o2 p5).isOne fun Wt Wu Oy Oz O0=>AZd AQr rfl (Zk (Zs (Zt ?_)))))))))))));have Gy:=Ab.nb Oz O0 Oy;refine AG5 36028797002189312 Ov (fun x=>[(24,(.int .i64 x.1))]) (fun x=>(Gy.L.set 7 (aO2 (cI .i64) 60 2 Ay Az A3 Ac x.2.1)).set 6 (aO2 (cI .i64) 60 2 Ae Ag Ah Ad x.2.2)) Gy ⟨rfl,trivial⟩ ?_;rintro ⟨Gz,Wv,O1⟩ Ww Wx Wy Aj Ea O2;unfold AE2 at Ea;refine Zo (AAv rfl rfl (Zs (Zp (⟨_,rfl,fun Eb=>?_,fun Eb=>?_⟩))))
        ·refine Zw (q_t (Zp (Zt (Zo ?_))));have G3:=AA8 Ea Eb;by_cases Ec:Gz=0
         ·refine Acp 0 AQr rfl rfl Ec Zl (AA7 AD6 rfl ((Aj.b p0).cell (i:=0) rfl) (AA5 (Zk (AA6 AAg rfl (Aj.o2 p7).rd (Zk (Zs (Zt (AG5 18014397435742208 (ifT G3 Ec) (fun x=>[(30,(.int .i64 x.1))]) (fun x=>Aj.L.set 7 (aO2 (cI .i64) 60 2 Ay Az A3 Ac x.2)) Aj ⟨rfl,trivial⟩ ?_))))))));rintro ⟨Ed,Wz⟩ W0 W1 W3 A5 Ee O3;unfold AIt at Ee;refine Zo (AAv rfl rfl (Zs (Zp (⟨_,rfl,fun Ef=>?_,fun Ef=>?_⟩))))
          ·refine Zw (q_t (Zp (Zt (Zo ?_))));obtain ⟨W4,B6,O4⟩:=Zq (AA8 Ee Ef);refine AB1 AAg AA3 (A5.o2 p7) B6 fun _ W5 Eg=>Zu (AGe (Zk (Zk (Zk (Zk ?_)))));obtain ⟨W6,G4,O5⟩:=Zq O4;refine AIy (m:=Ed) AAi AAl (A5.o2 p7) Eg B6 G4 fun _=>(Zk (Zk (Zk ?_)));obtain ⟨W7,O6,O7⟩:=Zq O5;refine AIy (m:=Ed) AAi AAl (A5.o2 p7) Eg B6 O6 fun _=>(AL9 rfl rfl (AAx rfl rfl (Zk (AC7 rfl (ADj APg AAl (A5.b p8) 1 rfl ?_)))));obtain ⟨O8,O9⟩:=ifN O7;refine ADk rfl rfl O8 (ALo (m:=Ed) A5 p7 AAi AAl Eg B6 G4 (fun _=>rfl) fun _ W8 Pa=>AAo (q_b (q_t (AAc (AAx rfl rfl (Zk (Zs ?_)))))));exact ⟨_,(Zm O9).symm,Pa,rfl,trivial⟩
          ·refine AAj (AAk (AAk (ABm (q_b (q_t (AAc (AAx rfl rfl (Zk (Zs ?_)))))))));exact ⟨_,(Zm (O3 _ (Zm (AA9 Ee Ef)).symm)).symm,A5,rfl,trivial⟩
         ·have G5:=ifF G3 Ec;by_cases Eh:Gz=1
          ·refine Acp 1 AQr rfl rfl Eh Zl (AA7 AD6 rfl ((Aj.b p0).cell (i:=1) rfl) (AA5 (Zk (AA6 AAg rfl (Aj.o2 p6).rd (Zk (Zs (Zt (AG5 18014397435742208 (ifT G5 Eh) (fun x=>[(30,(.int .i64 x.1))]) (fun x=>Aj.L.set 6 (aO2 (cI .i64) 60 2 Ae Ag Ah Ad x.2)) Aj ⟨rfl,trivial⟩ ?_))))))));rintro ⟨Ei,Xa⟩ Xb Xc Xd A6 Ej Pb;unfold AIu at Ej;refine Zo (AAv rfl rfl (Zs (Zp (⟨_,rfl,fun Ek=>?_,fun Ek=>?_⟩))))
           ·refine Zw (q_t (Zp (Zt (Zo ?_))));obtain ⟨Xe,B7,Pc⟩:=Zq (AA8 Ej Ek);refine AB1 AAg AA3 (A6.o2 p6) B7 fun _ Xf El=>Zu (AGe (Zk (Zk (Zk (Zk ?_)))));obtain ⟨Xg,G6,Pd⟩:=Zq Pc;refine AIy (m:=Ei) AAi AAl (A6.o2 p6) El B7 G6 fun _=>(Zk (Zk (Zk ?_)));obtain ⟨Xh,Pe,Pf⟩:=Zq Pd;refine AIy (m:=Ei) AAi AAl (A6.o2 p6) El B7 Pe fun _=>(AL9 rfl rfl (AAx rfl rfl (Zk (AC7 rfl (ADj APg AAl (A6.b p8) 1 rfl ?_)))));obtain ⟨Pg,Ph⟩:=ifN Pf;refine ADk rfl rfl Pg (ALo (m:=Ei) A6 p6 AAi AAl El B7 G6 (fun _=>rfl) fun _ Xi Pj=>AAo (q_b (q_t (AAc (AAx rfl rfl (Zk (Zs ?_)))))));exact ⟨_,(Zm Ph).symm,Pj,rfl,trivial⟩
           ·refine AAj (AAk (AAk (ABm (q_b (q_t (AAc (AAx rfl rfl (Zk (Zs ?_)))))))));exact ⟨_,(Zm (Pb _ (Zm (AA9 Ej Ek)).symm)).symm,A6,rfl,trivial⟩
          ·have Pk:=ifF G5 Eh;cases Pk
        ·refine AAj (AAk (AAk (ABm (q_t (Zo (Zk (AC7 rfl (ADj AIo AD6 (Aj.b p8) 2 rfl (Zk ?_)))))))));obtain ⟨Xj,G7,Pl⟩:=Zq (O2 _ (Zm (AA9 Ea Eb)).symm);refine AB1 AAg AA3 (Aj.o2 p7) G7 fun _ Xk G8=>ABj AAi rfl ((Aj.o2 p7).rowI G8 G7) (Zk (Zs (Zt ?_)));have Em:=Aj.sel [1,2,3,4,5,6,7,8,9] Zl;dsimp only [AHd,AKw] at Em;refine AG5 158456325019305303150233137152 Pl (fun x=>[(63,(.int .i64 x.1))]) (fun x=>Em.L.set 6 (aO2 (cI .i64) 60 2 Ay Az A3 Ac x.2)) Em ⟨rfl,trivial⟩ ?_;rintro ⟨Xl,Pm⟩ Xm Xn Xo Aq En Pn;unfold AGt at En;refine Zo (AAv rfl rfl (Zs (Zp (⟨_,rfl,fun Eo=>?_,fun Eo=>?_⟩))))
         ·refine Zw (q_t (Zp (Zt (Zo (Zk ?_)))));obtain ⟨Xp,Po,Pp⟩:=Zq (AA8 En Eo);obtain ⟨Xq,Pq,Ps⟩:=Zq Pp;refine AIy (m:=Cq) AAi AAl (Aq.o2 p6) G8 Po Pq fun _=>(AAn (Zu (AGe (Zk (AC7 rfl (ADj AIo AD6 (Aq.b p7) 2 rfl (Zk ?_)))))));obtain ⟨Xr,B8,Pt⟩:=Zq Ps;refine AB1 AAg AA3 (Aq.o2 p6) B8 fun _ Xt Pu=>Zk (Zk (AC7 rfl (ADj AIo AD6 (Aq.b p7) 2 rfl (Zk (AB1 AAg AA3 (Aq.o2 p6) B8 fun _ Xu Pv=>Zk ?_)))));obtain ⟨Xv,G9,Pw⟩:=Zq Pt;refine AIy (m:=Gv) AAi AAl (Aq.o2 p6) Pv B8 G9 fun _=>(Zk (Zk (AL9 rfl rfl (AAx rfl rfl (Zk (AC7 rfl (ADj APg AAl (Aq.b p7) 1 rfl ?_)))))));obtain ⟨Px,Py⟩:=ifN Pw;refine ADk rfl rfl Px (ALo (m:=Gv) Aq p6 AAi AAl Pu B8 G9 (fun _=>rfl) fun _ Xw Pz=>AAo (q_b (q_t (AAc (AAx rfl rfl (Zk (Zs ?_)))))));exact ⟨_,(Zm Py).symm,Pz,rfl,trivial⟩
         ·refine AAj (AAk (AAk (ABm (⟨_,AS4,((Pm,O1):(LiI) × (LiI)),?_,rfl,?_⟩))))
          ·exact Zm (Pn _ (Zm (AA9 En Eo)).symm)
          ·exact Aq
       obtain ⟨⟨Xx,Xy⟩,P0,rfl,P1⟩:=Ox;refine ⟨trivial,?_⟩;subst P0;refine AAo (q_b (q_t (AAc (Zk (AAx rfl rfl (Zu ?_))))));exact ⟨_,(Zm Ow).symm,P1,rfl,trivial⟩
      ·refine AAj (AAk (AAk (ABm (q_t (Zo (ANn [(.int .i64 Aa.1),(.int .i64 Aa.2.1),(.int .i64 Aa.2.2.1),(.int .i64 Aa.2.2.2.1),(.int .i64 Aa.2.2.2.2)] AK5 rfl rfl (Ab.b p1).agg (AB9 [(.int .i64 Aa.1),(.int .i64 Aa.2.1),(.int .i64 Aa.2.2.1),(.int .i64 Aa.2.2.2.1),(.int .i64 Aa.2.2.2.2)] AK5 rfl rfl rfl rfl (by simp [isOne]) (Ab.b p2) fun Xz P2 P3=>Zs (Zx ?_))))))));have Hb:=Ab.sb p2 P3 P2 rfl;refine ⟨_,ACg AK5 rfl rfl (Hb.b p2),((Aa.1,Aa.2.1,Aa.2.2.1,Aa.2.2.2.1,Aa.2.2.2.2,N8,Ay,Az,A3,N9):(Int) × (Int) × (Int) × (Int) × (Int) × (LiI) × LnA × LnN × LvA × (LiI)),?_,rfl,?_⟩
       ·exact Zm (Oa _ (Zm (AA9 D8 D9)).symm)
       ·exact Hb.sel [3,4,5,6,7,8] Zl
     obtain ⟨⟨B9,Ca,Cb,Cd,Ce,X0,X3,X4,X5,X6⟩,P4,rfl,P5⟩:=Jg;refine ⟨trivial,?_⟩;subst P4;refine AC4 P5 [(.int .i64 0),(.int .i64 0),(.int .i64 0),(.int .i64 0),(.int .i64 0)] ARj fun X8 Ya Yb Hc=>AB9 [(.int .i64 B9),(.int .i64 Ca),(.int .i64 Cb),(.int .i64 Cd),(.int .i64 Ce)] AK5 rfl rfl rfl rfl (by simp [isOne]) (Hc.b p0) fun Yc P6 P7=>AId ?_;have Cf:=Hc.sb p0 P7 P6 rfl;refine ADj AHq AOf (Cf.b p2) 2 rfl (ANn [(.int .i64 B9),(.int .i64 Ca),(.int .i64 Cb),(.int .i64 Cd),(.int .i64 Ce)] AK5 rfl rfl (Cf.b p0).agg ?_);obtain ⟨P8,P9⟩:=ifN Jf;refine ALt AMs ARj rfl rfl trivial tt2 (fun _=>rfl) rfl (show (AOp).rep _ (B9,Ca,Cb,Cd,Ce) [(.int .i64 B9),(.int .i64 Ca),(.int .i64 Cb),(.int .i64 Cd),(.int .i64 Ce)] from rfl) (Cf.o p1) Zl P8 fun Yd Ye Qa Yf Qb Qc Qd=>ACd AHq rfl ?_;have Ep:=Cf.uo p1 Qc Qb Qd;refine AQs [(.int .i64 a5),(.slice none 0 0),Qa] AOf rfl rfl (Ep.o p1).isOne (Ep.b p2) (Nat.le_of_ble_eq_true rfl) rfl fun Yg Qe Qf=>Zs (AAc ?_);have Hd:=Ep.sb p2 Qf Qe rfl;refine ADj AHr ABv (Hd.b p0) 0 rfl (AAn (AAo (q_b (q_t (AAc (AAx rfl rfl (Zk (Zs ?_))))))));exact ⟨(_,_,_,_,_,_,_,_,_,_),(Zm P9).symm,Hd.sel [1,2,3,4,5,6] Zl,rfl,rfl,trivial⟩
    ·refine AAj (AAk (AAk (ABm (q_t (Zo (Zk (AC7 rfl (ADj AUo AD6 (Av.b p4) 3 rfl (ACd ALv rfl (AQs [(.int .i64 a5),Ad,Cr] AD6 rfl rfl (Av.o2 p2).isOne (Av.b p1) (Nat.le_of_ble_eq_true rfl) rfl fun Yh Qg Qh=>AId ?_))))))))));have Bm:=Av.sb p1 Qh Qg rfl;refine ANn [(.int .i64 a5),Ad,Cr] AM3 rfl rfl (Bm.b p1).agg (AB9 [(.int .i64 a5),Ad,Cr] AM3 rfl rfl rfl rfl (AHf rfl (AHf (Bm.o2 p2).isOne (AHf (Bm.o p0).isOne AT9))) (Bm.b p5) fun Yi Qi Qj=>Zu (Zx ?_));have Bn:=Bm.sb p5 Qj Qi rfl;obtain rfl:=Zm (Ja _ (Zm (AA9 Ct Cu)).symm);exact ⟨_,ASc AM3 rfl rfl (Bn.b p5),Bn.x,_,_,_,_,_,_,rfl,(Bn.o2 p2),(Bn.o p0),Bn.s.sel [2,0] Zl⟩
end Go.Proofs.YtdkldlbgcfpglaaGreatDoor
namespace Go.Proofs.YtdkldlbgcfpglaaGreatDoor
open Go Go.QF
set_option maxRecDepth 100000
theorem Aj9 {q x y c:Int} (hq:0 < q) (Aa:q<=2147483647) (hx:0<=x/\x < q) (hy:0<=y/\y < q) (hc:0<=c/\c<=2147483647):Int.tmod (w64 (x + w64 (c * y))) q=(x + c * y) % q:=by
 have h1:0<=c * y:=Int.mul_nonneg hc.1 hy.1;have h2:c * y<=2147483647 * 2147483647:=Int.mul_le_mul hc.2 Zj hy.1 Zl;rw [ACk (x:=c * y) Zj Zj,ACk (x:=x + c * y) Zj Zj,Int.tmod_eq_emod_of_nonneg Zj]
theorem AWc {body:Int × List (List Int)->Option ((Int × List (List Int)) ⊕ List (List Int))} {fuel n:Nat} {G G':AAb} (hf:n < fuel)
    (hs:∀ (r:Nat) (M:AAb),r < n->(∀ b,M r b=G r b)->body ((r:Int),tab n n M)=some (.inl (((r + 1:Nat):Int),tab n n (ABy M r (G' r))))) (he:∀ X,body ((n:Int),X)=some (.inr X)):iter body fuel (0,tab n n G)=some (tab n n G'):=by
  apply ok_eq;refine ABa (fun r st=> ∃ M,st=((r:Int),tab n n M)/\r<=n/\ ∀ a b,M a b=if a < r then G' a b else G a b) n ⟨G,rfl,Nat.zero_le _,fun a b=>by rw [if_neg (Nat.not_lt_zero a)]⟩ hf fun r st hr hI=>?_;obtain ⟨M,rfl,hrn,hM⟩:=hI
  rcases Nat.lt_or_ge r n with h | h
  · rw [hs r M h fun b=>by rw [hM,if_neg (Nat.lt_irrefl r)]];refine Zn ⟨h,_,rfl,h,fun a b=>?_⟩;rw [ABd]
    by_cases h1:a=r
    · subst h1;rw [if_pos rfl,if_pos (Nat.lt_succ_self a)]
    · rw [if_neg h1,hM]
      by_cases h2:a < r
      · rw [if_pos h2,if_pos Zj]
      · rw [if_neg h2,if_neg Zj]
  · obtain rfl:r=n:=by omega
    rw [he];exact Zn (ANh fun a b ha hb=>by rw [hM,if_pos ha])
theorem Aka {body:Int × List (List Int)->Option ((Int × List (List Int)) ⊕ List (List Int))} {fuel n j:Nat} {G:AAb} {g:Nat->Int} (hf:n < fuel)
    (hs:∀ (s:Nat) (M:AAb),s < n->(∀ a b,a≠j->M a b=G a b)->M j s=G j s->body ((s:Int),tab n n M)=some (.inl (((s + 1:Nat):Int),tab n n (ABy M j fun b=>if b=s then g s else M j b)))) (he:∀ X,body ((n:Int),X)=some (.inr X)):iter body fuel (0,tab n n G)=some (tab n n (ABy G j g)):=by
  apply ok_eq;refine ABa (fun s st=> ∃ M,st=((s:Int),tab n n M)/\s<=n/\ ∀ a b,M a b=if a=j/\b < s then g b else G a b) n ⟨G,rfl,Nat.zero_le _,fun a b=>by rw [if_neg Zj]⟩ hf fun s st hr hI=>?_;obtain ⟨M,rfl,hrn,hM⟩:=hI
  rcases Nat.lt_or_ge s n with h | h
  · rw [hs s M h (fun a b ha=>by rw [hM,if_neg Zj]) (by rw [hM,if_neg Zj])];refine Zn ⟨h,_,rfl,h,fun a b=>?_⟩;rw [ABd]
    by_cases h1:a=j
    · subst h1;rw [if_pos rfl]
      by_cases h2:b=s
      · subst h2;rw [if_pos rfl,if_pos ⟨rfl,Nat.lt_succ_self b⟩]
      · rw [if_neg h2,hM]
        by_cases h3:b < s
        · rw [if_pos ⟨rfl,h3⟩,if_pos ⟨rfl,Zj⟩]
        · rw [if_neg (fun h=>h3 h.2),if_neg Zj]
    · rw [if_neg h1,hM,if_neg (fun h=>h1 h.1),if_neg (fun h=>h1 h.1)]
  · obtain rfl:s=n:=by omega
    rw [he];refine Zn (ANh fun a b ha hb=>?_);rw [hM,ABd]
    by_cases h1:a=j
    · rw [if_pos ⟨h1,hb⟩,if_pos h1]
    · rw [if_neg (fun h=>h1 h.1),if_neg h1]
theorem Akb {n j l:Nat} {q c:Int} {G:AAb}:tab n n (ABy G j fun b=>(G j b + c * G l b) % q)=tab n n (Apu q j l c G):=ANh fun a b _ _=>by
  unfold Apu;rw [ABd]
theorem AYg {n j l r:Nat} {q c:Int} {M G:AAb} (h:∀ b,M r b=G r b):tab n n (ABy M r fun b=>if b=j then (M r j + c * M r l) % q else M r b)=tab n n (ABy M r (AQ4 q j l c G r)):=AYa fun b _=>by
  unfold AQ4;rw [h,h,h]
theorem AYh {n i j r:Nat} {q c:Int} {M:AAb} (hq:0 < q) (Aa:q<=2147483647) (hc:0<=c/\c<=2147483647) (hi:i < n) (hj:j < n) (hr:r < n) (hn:n<=8) (hM:ATq n q fun _ b=>M r b):
    ((gI (tab n n M) (r:Int)).bind fun x=>(gI x (i:Int)).bind fun y=>(gI x (j:Int)).bind fun z=>if q≠0 then some (Sum.inl (β:=List (List Int)) (w64 ((r:Int) + 1),sI (tab n n M) (r:Int) (sI x (i:Int) (Int.tmod (w64 (y + w64 (c * z))) q)))) else none)=some (.inl (((r + 1:Nat):Int),tab n n (ABy M r fun b=>if b=i then (M r i + c * M r j) % q else M r b))):=by
 rw [ACw (AA1 hr),ACw (AAq hi),ACw (AAq hj),if_pos Zj,Aj9 hq Aa (hM 0 i Zj hi) (hM 0 j Zj hj) hc,AWa,AHc,ABr Zj]
theorem Agv {n j l s:Nat} {q c:Int} {M:AAb} (hq:0 < q) (Aa:q<=2147483647) (hc:0<=c/\c<=2147483647) (hj:j < n) (hl:l < n) (hs:s < n) (hn:n<=8) (h1:0<=M j s/\M j s < q) (h2:0<=M l s/\M l s < q):
    ((gI (tab n n M) (l:Int)).bind fun x=>(gI x (s:Int)).bind fun y=>(gI (tab n n M) (j:Int)).bind fun z=>(gI z (s:Int)).bind fun w=>if q≠0 then some (Sum.inl (β:=List (List Int)) (w64 ((s:Int) + 1),sI (tab n n M) (j:Int) (sI z (s:Int) (Int.tmod (w64 (w + w64 (c * y))) q)))) else none)=some (.inl (((s + 1:Nat):Int),tab n n (ABy M j fun b=>if b=s then (M j s + c * M l s) % q else M j b))):=by
 rw [ACw (AA1 hl),ACw (AAq hs),ACw (AA1 hj),ACw (AAq hs),if_pos Zj,Aj9 hq Aa h1 h2 hc,AWa,AHc,ABr Zj]
theorem Agw {n i k r:Nat} {M:AAb} (hi:i < n) (hk:k < n) (hr:r < n) (hn:n<=8):
    ((gI (tab n n M) (r:Int)).bind fun x=>(gI x (i:Int)).bind fun y=>(gI x (k:Int)).bind fun z=>(gI (sI (tab n n M) (r:Int) (sI x (k:Int) y)) (r:Int)).bind fun u=>(gI u (i:Int)).bind fun w=>some (Sum.inl (β:=List (List Int)) (w64 ((r:Int) + 1),sI (sI (tab n n M) (r:Int) (sI x (k:Int) y)) (r:Int) (sI u (i:Int) z))))=some (.inl (((r + 1:Nat):Int),tab n n (ABy M r fun b=>M r (sw2 k i b)))):=by
 rw [ACw (AA1 hr),ACw (AAq hi),ACw (AAq hk),AWa,AHc,ACw (AA1 hr),ABt,ACw (AAq hi),AWa,AHc,ABr Zj];congr 3;refine ANh fun a b ha hb=>?_;rw [ABd,ABd,ABd];by_cases h:a=r
 ·rw [if_pos h,if_pos h];unfold sw2;by_cases h1:b=i
  ·rw [if_pos h1,if_pos h1]
  ·rw [if_neg h1,if_neg h1];by_cases h2:b=k
   ·rw [if_pos h2,if_pos h2]
   ·rw [if_neg h2,if_neg h2]
 ·rw [if_neg h,if_neg h,if_neg h]
theorem Aij {body:Int × List (List Int) × List (List Int)->Option ((Int × List (List Int) × List (List Int)) ⊕ (List (List Int) × List (List Int)))} {fuel:Nat} {g t g' t':List (List Int)} (hf:3 < fuel) (h0:body (0,g,t)=some (.inl (1,g',t))) (h1:body (1,g',t)=some (.inl (2,g',t'))) (h2:body (2,g',t')=some (.inr (g',t'))):iter body fuel (0,g,t)=some (g',t'):=by
  obtain ⟨f,rfl⟩:∃ f,fuel=f + 3:=⟨fuel - 3,Zj⟩;rw [ASo h0,ASo h1,AQa h2]
section
variable {fuel n i j k:Nat} {q c:Int} {G T:AAb}
theorem AYi {n r:Nat} {q:Int} {M G:AAb} (hG:ATq n q G) (hr:r < n) (h:∀ b,M r b=G r b):ATq n q fun _ b=>M r b:=fun a b _ hb=>by
  show 0<=M r b/\M r b < q
  rw [h];exact hG r b hr hb
theorem Avl (hq:1 < q) (hq2:q<=2147483647) (hn:n<=8) (hi:i < n) (hj:j < n) (hne:j≠i) (hG:ATq n q G) (hT:ATq n q T) (hf:100 < fuel):
    iter (fun s=>ADw fuel q (i:Int) (j:Int) s.1 s.2.1 s.2.2) fuel (0,tab n n G,tab n n T)=some (tab n n (AQ4 q i j 1 G),tab n n (AQ4 q i j 1 T))/\
    iter (fun s=>AE0 fuel q (i:Int) (j:Int) (AB6 n (AQ4 q i j 1 G j)) s.1 s.2) fuel (0,tab n n (AQ4 q i j 1 G))=some (tab n n (AW9 q i j 1 G)):=by
  constructor
  · refine Aij Zj ?_ ?_ ?_
    · unfold ADw;dsimp only
      rw [if_pos Zl,if_pos rfl,AWc (G:=G) (G':=AQ4 q i j 1 G) Zj (fun r M hr hM=>?_) fun X=>?_]
      · rfl
      · unfold AIp;dsimp only;rw [AAt,if_pos Zj,AYh Zj hq2 Zj hi hj hr hn (AYi hG hr hM),AYg hM]
      · unfold AIp;dsimp only;rw [AAt,if_neg Zj]
    · unfold ADw;dsimp only
      rw [if_pos Zl,if_neg Zl,if_pos rfl,AWc (G:=T) (G':=AQ4 q i j 1 T) Zj (fun r M hr hM=>?_) fun X=>?_]
      · rfl
      · unfold AIq;dsimp only;rw [AAt,if_pos Zj,AYh Zj hq2 Zj hi hj hr hn (AYi hT hr hM),AYg hM]
      · unfold AIq;dsimp only;rw [AAt,if_neg Zj]
    · unfold ADw;dsimp only;rw [if_neg Zl]
  · have hG1:=AWb (j:=i) (l:=j) (c:=1) Zj hG;unfold AW9
    rw [Aka (j:=i) (g:=fun b=>(AQ4 q i j 1 G i b + 1 * AQ4 q i j 1 G j b) % q) Zj (fun s M hs hM hMs=>?_) fun X=>?_,Akb]
    · unfold AE0;dsimp only;rw [AA2,if_pos Zj,Agv Zj hq2 Zj hi hj hs hn (by rw [hMs];exact hG1 i s hi hs) (by rw [hM j s hne];exact hG1 j s hj hs),hMs,hM j s hne]
    · unfold AE0;dsimp only;rw [AA2,if_neg Zj]
theorem Avm (hn:n<=8) (hi:i < n) (hk:k < n) (hf:100 < fuel):
    iter (fun s=>AE1 fuel (k:Int) (i:Int) s.1 s.2.1 s.2.2) fuel (0,sI (sI (tab n n G) (k:Int) (AB6 n (G i))) (i:Int) (AB6 n (G k)),tab n n T)=some (tab n n (swG k i G),tab n n (swC k i T)):=by
  have e0:sI (sI (tab n n G) (k:Int) (AB6 n (G i))) (i:Int) (AB6 n (G k))=tab n n fun a b=>G (sw2 k i a) b:=by
    rw [AHc,AHc];refine ANh fun a b _ _=>?_;rw [ABd,ABd];unfold sw2
    by_cases h1:a=i
    · rw [if_pos h1,if_pos h1]
    · rw [if_neg h1,if_neg h1];by_cases h2:a=k
      · rw [if_pos h2,if_pos h2]
      · rw [if_neg h2,if_neg h2]
  rw [e0]
  refine Aij Zj ?_ ?_ ?_
  · unfold AE1;dsimp only
    rw [if_pos Zl,if_pos rfl,AWc (G:=fun a b=>G (sw2 k i a) b) (G':=swG k i G) Zj (fun r M hr hM=>?_) fun X=>?_]
    · rfl
    · unfold AIr;dsimp only;rw [AAt,if_pos Zj,Agw hi hk hr hn];congr 3;exact AYa fun b _=>by rw [hM];rfl
    · unfold AIr;dsimp only;rw [AAt,if_neg Zj]
  · unfold AE1;dsimp only
    rw [if_pos Zl,if_neg Zl,if_pos rfl,AWc (G:=T) (G':=swC k i T) Zj (fun r M hr hM=>?_) fun X=>?_]
    · rfl
    · unfold AIs;dsimp only;rw [AAt,if_pos Zj,Agw hi hk hr hn];congr 3;exact AYa fun b _=>by rw [hM];rfl
    · unfold AIs;dsimp only;rw [AAt,if_neg Zj]
  · unfold AE1;dsimp only;rw [if_neg Zl]
theorem Avn {S x v:Int} (hq:1 < q) (hq2:q<=2147483647) (hn:n<=8) (hi:i < n) (hj:j < n) (hne:j≠i) (hG:ATq n q G) (hT:ATq n q T) (hf:100 < fuel) (hc:Int.tmod (w64 (q - (Int.tmod (w64 ((w64 (Int.tdiv x S)) * v)) q))) q=c) (hc2:0<=c/\c < q):
    iter (fun s=>AE2 fuel q (j:Int) S (i:Int) x v s.1 s.2.1 s.2.2) fuel (0,tab n n G,tab n n T)=some (tab n n (AQ4 q i j c G),tab n n (AQ4 q i j c T))/\
    iter (fun s=>AGt fuel q (j:Int) S (i:Int) x v (AB6 n (AQ4 q i j c G j)) s.1 s.2) fuel (0,tab n n (AQ4 q i j c G))=some (tab n n (AW9 q i j c G)):=by
  constructor
  · refine Aij Zj ?_ ?_ ?_
    · unfold AE2;dsimp only
      rw [if_pos Zl,if_pos rfl,AWc (G:=G) (G':=AQ4 q i j c G) Zj (fun r M hr hM=>?_) fun X=>?_]
      · rfl
      · unfold AIt;dsimp only;simp only [hc];rw [AAt,if_pos Zj,AYh Zj hq2 Zj hi hj hr hn (AYi hG hr hM),AYg hM]
      · unfold AIt;dsimp only;rw [AAt,if_neg Zj]
    · unfold AE2;dsimp only
      rw [if_pos Zl,if_neg Zl,if_pos rfl,AWc (G:=T) (G':=AQ4 q i j c T) Zj (fun r M hr hM=>?_) fun X=>?_]
      · rfl
      · unfold AIu;dsimp only;simp only [hc];rw [AAt,if_pos Zj,AYh Zj hq2 Zj hi hj hr hn (AYi hT hr hM),AYg hM]
      · unfold AIu;dsimp only;rw [AAt,if_neg Zj]
    · unfold AE2;dsimp only;rw [if_neg Zl]
  · have hG1:=AWb (j:=i) (l:=j) (c:=c) Zj hG;unfold AW9
    rw [Aka (j:=i) (g:=fun b=>(AQ4 q i j c G i b + c * AQ4 q i j c G j b) % q) Zj (fun s M hs hM hMs=>?_) fun X=>?_,Akb]
    · unfold AGt;dsimp only;simp only [hc];rw [AA2,if_pos Zj,Agv Zj hq2 Zj hi hj hs hn (by rw [hMs];exact hG1 i s hi hs) (by rw [hM j s hne];exact hG1 j s hj hs),hMs,hM j s hne]
    · unfold AGt;dsimp only;rw [AA2,if_neg Zj]
end
end Go.Proofs.YtdkldlbgcfpglaaGreatDoor
namespace Go.Proofs.YtdkldlbgcfpglaaGreatDoor
open Go Go.QF
set_option maxRecDepth 100000
structure PV (n k:Nat) (p:Int) (G:AAb) (r c E:Nat):Prop where
  hr:k<=r
  hrc:r<=c
  hc:c < n
  u:∃ u,G r c=u * p ^ E/\¬ p ∣ u
  dg:r≠c-> ∀ a,k<=a->a < n->p ^ (E + 1) ∣ G a a
def Dn (n k d i a e:Nat):Prop:=k<=a/\a + e < n/\(e < d∨e=d/\a < i)
def PSt (n k:Nat) (p:Int) (G:AAb) (d i r c:Nat) (l:Int):Prop:=
  (l= -1/\r=k/\c=k/\ ∀ a e,Dn n k d i a e->G a (a + e)=0)∨ ∃ E:Nat,l=E/\PV n k p G r c E/\ ∀ a e,Dn n k d i a e->p ^ E ∣ G a (a + e)
def PQ (n k:Nat) (p:Int) (G:AAb) (r c:Nat):Prop:= ∃ E,PV n k p G r c E/\ ∀ a e,k<=a->a + e < n->p ^ E ∣ G a (a + e)
theorem PSt.zero {n k d i r c:Nat} {p l:Int} {G:AAb} (H:PSt n k p G d i r c l) (hx:G i (i + d)=0):PSt n k p G d (i + 1) r c l:=by
 have key:∀ a e,Dn n k d (i + 1) a e->Dn n k d i a e∨(a=i/\e=d):=fun a e h=>by unfold Dn at *;omega
 rcases H with ⟨h1,h2,h3,h4⟩ | ⟨E,h1,h2,h3⟩
 ·refine .inl ⟨h1,h2,h3,fun a e h=>?_⟩;rcases key a e h with h | ⟨rfl,rfl⟩
  ·exact h4 a e h
  ·exact hx
 ·refine .inr ⟨E,h1,h2,fun a e h=>?_⟩;rcases key a e h with h | ⟨rfl,rfl⟩
  ·exact h3 a e h
  ·rw [hx];exact ⟨0,AA4⟩
theorem PSt.new {n k d i r c e:Nat} {p l u:Int} {G:AAb} (H:PSt n k p G d i r c l) (hi:k<=i) (hin:i + d < n) (hx:G i (i + d)=u * p ^ e) (hu: ¬ p ∣ u) (hl:l < 0∨(e:Int) < l):PSt n k p G d (i + 1) i (i + d) e:=by
  have key:∀ a e',Dn n k d (i + 1) a e'->Dn n k d i a e'∨(a=i/\e'=d):=fun a e h=>by unfold Dn at *;omega
  have all:∀ a e',Dn n k d i a e'->p ^ (e + 1) ∣ G a (a + e'):=fun a e' h=>by
    rcases H with ⟨h1,_,_,h4⟩ | ⟨E,rfl,_,h3⟩
    · rw [h4 a e' h];exact ⟨0,AA4⟩
    · exact Int.dvd_trans (AIz Zj) (h3 a e' h)
  refine .inr ⟨e,rfl,⟨hi,Zj,hin,⟨u,hx,hu⟩,fun hne a h1 h2=>?_⟩,fun a e' h=>?_⟩
  · exact all a 0 (by unfold Dn;omega)
  · rcases key a e' h with h | ⟨rfl,rfl⟩
    · exact Int.dvd_trans (AIz Zj) (all a e' h)
    · rw [hx];exact ⟨u,Int.mul_comm _ _⟩
theorem PSt.old {n k d i r c e:Nat} {p l u:Int} {G:AAb} (H:PSt n k p G d i r c l) (hx:G i (i + d)=u * p ^ e) (hl: ¬ l < 0) (Ac: ¬ (e:Int) < l):PSt n k p G d (i + 1) r c l:=by
 have key:∀ a e',Dn n k d (i + 1) a e'->Dn n k d i a e'∨(a=i/\e'=d):=fun a e h=>by unfold Dn at *;omega
 rcases H with ⟨rfl,_⟩ | ⟨E,rfl,h2,h3⟩
 ·exact absurd Zl hl
 ·refine .inr ⟨E,rfl,h2,fun a e' h=>?_⟩;rcases key a e' h with h | ⟨rfl,rfl⟩
  ·exact h3 a e' h
  ·rw [hx];exact Int.dvd_trans (AIz Zj) ⟨u,Int.mul_comm _ _⟩
theorem PSt.quit {n k d i r c f:Nat} {p:Int} {G:AAb} (H:PSt n k p G d i r c f) (hf:∀ a e,k<=a->a + e < n->p ^ f ∣ G a (a + e)):PQ n k p G r c:=by
 rcases H with ⟨h1,_⟩ | ⟨E,h1,h2,h3⟩
 ·omega
 ·obtain rfl:f=E:=by omega
  exact ⟨f,h2,hf⟩
theorem PSt.row {n k d r c:Nat} {p l:Int} {G:AAb} {i:Nat} (H:PSt n k p G d i r c l) (hi: ¬ i + d < n):PSt n k p G (d + 1) k r c l:=by
 have key:∀ a e,Dn n k (d + 1) k a e->Dn n k d i a e:=fun a e h=>by unfold Dn at *;omega
 rcases H with ⟨h1,h2,h3,h4⟩ | ⟨E,h1,h2,h3⟩
 ·exact .inl ⟨h1,h2,h3,fun a e h=>h4 a e (key a e h)⟩
 ·exact .inr ⟨E,h1,h2,fun a e h=>h3 a e (key a e h)⟩
section
variable {fuel n k f:Nat} {p q:Int} {G:AAb}
theorem Aso {d r c:Nat} {l:Int} (hp:2<=p) (hp2:p<=9973) (hq2:q<=2147483647) (hn:n<=8) (hG:ATq n q G) (hfl:∀ a e,k<=a->a + e < n->p ^ f ∣ G a (a + e)) (hd:d<=n) (hk:k < n) (hS:PSt n k p G d k r c l) (hlf:l≠f) (hf:100 < fuel):
    Ok (iter (fun s=>AJl fuel p (f:Int) (tab n n G) (d:Int) s.1 s.2.1 s.2.2.1 s.2.2.2) fuel ((r:Int),(c:Int),l,(k:Int))) fun ex=>(∃ r c:Nat,ex= .inl ((r:Int),(c:Int))/\PQ n k p G r c)∨ ∃ (r c:Nat) (l:Int),ex= .inr ((r:Int),(c:Int),l)/\PSt n k p G (d + 1) k r c l/\l≠f:=by
  refine ABa (fun j s=> ∃ (r c:Nat) (l:Int),s=((r:Int),(c:Int),l,((k + j:Nat):Int))/\k + j<=n/\PSt n k p G d (k + j) r c l/\l≠f) (n - k) ⟨r,c,l,rfl,Zj,hS,hlf⟩ Zj fun j s hj hI=>?_;obtain ⟨r,c,l,rfl,hjn,hS,hlf⟩:=hI;unfold AJl;dsimp only;have e1:w64 (((k + j:Nat):Int) + (d:Int))=((k + j + d:Nat):Int):=by rw [wk Zj];omega
  rw [e1,AAt];refine AAh (fun h=>?_) fun h=>Zn (.inr ⟨r,c,l,rfl,hS.row Zj,hlf⟩);have hij:k + j + d < n:=by omega
  have hi:k + j < n:=by omega
  rw [ACw (AA1 hi),ACw (AAq hij)];have hr:=hG (k + j) (k + j + d) hi hij
  have fin:∀ (F:(Int × Int × Int) ⊕ (Int × Int)->Option ((Int × Int × Int × Int) ⊕ ((Int × Int) ⊕ (Int × Int × Int)))) (R:(Int × Int × Int × Int) ⊕ ((Int × Int) ⊕ (Int × Int × Int))->Prop) (r c:Nat) (l:Int),(∀ a b e,F (.inl (a,b,e))=some (.inl (a,b,e,w64 (((k + j:Nat):Int) + 1))))->(∀ a b,F (.inr (a,b))=some (.inr (.inl (a,b))))->
      (∀ (r c:Nat) (l:Int),PSt n k p G d (k + (j + 1)) r c l->l≠f->R (.inl ((r:Int),(c:Int),l,((k + (j + 1):Nat):Int))))->(∀ r c:Nat,PQ n k p G r c->R (.inr (.inl ((r:Int),(c:Int)))))->PSt n k p G d (k + j + 1) r c l->Ok ((if l=f then some (Sum.inr ((r:Int),(c:Int))) else some (Sum.inl ((r:Int),(c:Int),l)):Option ((Int × Int × Int) ⊕ (Int × Int))).bind F) R:=by
    intro F R r c l h1 h2 h3 h4 hS
    by_cases hl:l=f
    · rw [if_pos hl];simp only [Option.bind_some];rw [h2];exact Zn (h4 r c ((hl ▸ hS).quit hfl))
    · rw [if_neg hl];simp only [Option.bind_some];rw [h1,ABr Zj];exact Zn (h3 r c l hS hl)
  by_cases h0:G (k + j) (k + j + d)=0
  · rw [if_pos h0];refine Zn ⟨Zj,r,c,l,?_,Zj,hS.zero h0,hlf⟩;show ((r:Int),(c:Int),l,w64 (((k + j:Nat):Int) + 1))=_;rw [ABr Zj];rfl
  · rw [if_neg h0];obtain ⟨b,hb,e,u,rfl,hx,hu⟩:=Abw hp hp2 (show 0 < G (k + j) (k + j + d) by omega) Zj hf;rw [hb];simp only [Option.bind_some]
    by_cases hl:l < 0
    · rw [if_pos hl];simp only [Option.bind_some];exact fin _ _ (k + j) (k + j + d) e (fun _ _ _=>rfl) (fun _ _=>rfl) (fun r c l hS hl=>⟨Zj,r,c,l,rfl,Zj,hS,hl⟩) (fun r c hQ=> .inl ⟨r,c,rfl,hQ⟩) (hS.new Zj hij hx hu (.inl hl))
    · rw [if_neg hl]
      by_cases hl2:(e:Int) < l
      · rw [if_pos hl2];simp only [Option.bind_some];exact fin _ _ (k + j) (k + j + d) e (fun _ _ _=>rfl) (fun _ _=>rfl) (fun r c l hS hl=>⟨Zj,r,c,l,rfl,Zj,hS,hl⟩) (fun r c hQ=> .inl ⟨r,c,rfl,hQ⟩) (hS.new Zj hij hx hu (.inr hl2))
      · rw [if_neg hl2];simp only [Option.bind_some];exact fin _ _ r c l (fun _ _ _=>rfl) (fun _ _=>rfl) (fun r c l hS hl=>⟨Zj,r,c,l,rfl,Zj,hS,hl⟩) (fun r c hQ=> .inl ⟨r,c,rfl,hQ⟩) (hS.old hx hl hl2)
theorem Asp (hp:2<=p) (hp2:p<=9973) (hq2:q<=2147483647) (hn:n<=8) (hG:ATq n q G) (hfl:∀ a e,k<=a->a + e < n->p ^ f ∣ G a (a + e)) (hk:k < n) (hne:∃ e,k + e < n/\G k (k + e)≠0) (hf:100 < fuel):
    Ok (iter (fun s=>AJm fuel p (f:Int) (k:Int) (tab n n G) s.1 s.2.1 s.2.2.1 s.2.2.2) fuel ((k:Int),(k:Int),(-1:Int),(0:Int))) fun ex=> ∃ r c:Nat,ex=((r:Int),(c:Int))/\PQ n k p G r c:=by
  refine ABa (fun d s=> ∃ (r c:Nat) (l:Int),s=((r:Int),(c:Int),l,(d:Int))/\d<=n - k/\PSt n k p G d k r c l/\l≠f) (n - k) ⟨k,k,-1,rfl,Nat.zero_le _,.inl ⟨rfl,rfl,rfl,fun a e h=>by unfold Dn at h;omega⟩,Zj⟩ Zj fun d s hd hI=>?_;obtain ⟨r,c,l,rfl,hdn,hS,hlf⟩:=hI;unfold AJm;dsimp only;rw [AAt,ACk (x:=(n:Int) - (k:Int)) Zj Zj]
  refine AAh (fun h=>?_) fun h=>Zn ⟨r,c,rfl,?_⟩
  · refine Zr (Aso hp hp2 hq2 hn hG hfl Zj hk hS hlf hf) fun ex hex=>?_
    rcases hex with ⟨r,c,rfl,hQ⟩ | ⟨r,c,l,rfl,hS,hlf⟩
    · exact Zn ⟨r,c,rfl,hQ⟩
    · refine Zn ⟨Zj,r,c,l,?_,Zj,hS,hlf⟩;rw [ABr Zj]
  · obtain rfl:d=n - k:=by omega
    rcases hS with ⟨_,_,_,h4⟩ | ⟨E,_,h2,h3⟩
    · obtain ⟨e,he,hx⟩:=hne;exact absurd (h4 k e (by unfold Dn;omega)) hx
    · exact ⟨E,h2,fun a e h1 h5=>h3 a e (by unfold Dn;omega)⟩
end
end Go.Proofs.YtdkldlbgcfpglaaGreatDoor
namespace Go.Proofs.YtdkldlbgcfpglaaGreatDoor
open Go Go.QF
set_option maxRecDepth 100000
theorem Avo {T:List (List Int)} {n:Nat} (h1:T.length=n) (h2:∀ z∈T,z.length=n):T=tab n n (ent T):=by
 have:=AYp h2;rwa [h1] at this
theorem Apy {T:List (List Int)} {n:Nat} (h:∀ i,i < T.length-> ∀ z,T[i]? =some z->z.length=n):∀ z∈T,z.length=n:=fun z hz=>by
  obtain ⟨i,hi⟩:=List.getElem?_of_mem hz
  exact h i (List.getElem?_eq_some_iff.1 hi).1 z hi
theorem Akc {fuel n:Nat} {M T:List (List Int)} (hM:M.length=n) (hT:T.length<=8) (hf:100 < fuel):Ok (iter (fun s=>AJd fuel M T s) fuel 0) fun ex=>(ex= .inr ()/\ ∀ i,i < T.length-> ∀ z,T[i]? =some z->z.length=n)∨(ex= .inl 3/\¬ ∀ i,i < T.length-> ∀ z,T[i]? =some z->z.length=n):=by
 refine AQq (n:=T.length) (fun i=> ∀ z,T[i]? =some z->z.length=n) 3 Zj (fun i hi=>?_) ?_
 ·obtain ⟨z,hz⟩:∃ z,T[i]? =some z:=⟨T[i],List.getElem?_eq_getElem hi⟩;unfold AJd;rw [if_pos Zj,ACw hz];exact AAh (fun h=>Zn (.inr ⟨rfl,fun h2=>h (by have:=h2 z hz;omega)⟩)) fun h=>Zn (.inl ⟨by rw [ABr Zj],fun y hy=>by rw [hz] at hy;cases hy;omega⟩)
 ·unfold AJd;rw [if_neg Zj]
theorem Asq {fuel:Nat} {T:List (List Int)} (hT:T.length<=8) (hf:100 < fuel):Ok (AGa fuel T) fun b=>b=true↔ ∀ i,i < T.length-> ∀ z,T[i]? =some z->z.length=T.length:=by
 unfold AGa;refine Zr (AQq (n:=T.length) (fun i=> ∀ z,T[i]? =some z->z.length=T.length) false Zj (fun i hi=>?_) ?_) fun ex hex=>?_
 ·obtain ⟨z,hz⟩:∃ z,T[i]? =some z:=⟨T[i],List.getElem?_eq_getElem hi⟩;unfold AGr;rw [if_pos Zj,ACw hz];exact AAh (fun h=>Zn (.inr ⟨rfl,fun h2=>h (by have:=h2 z hz;omega)⟩)) fun h=>Zn (.inl ⟨by rw [ABr Zj],fun y hy=>by rw [hz] at hy;cases hy;omega⟩)
 ·unfold AGr;rw [if_neg Zj]
 ·rcases hex with ⟨rfl,h⟩ | ⟨rfl,h⟩
  ·exact Zn ⟨fun _=>h,fun _=>rfl⟩
  ·exact Zn ⟨fun h=>(nomatch h),fun h2=>absurd h2 h⟩
theorem Apz {L:List AGb} (h:∀ b∈L,b.2.1=1):Aig L=L.length:=by
 induction L with
 | nil=>rfl
 | cons b l ih=>
   have hb:=h b AA4
   unfold Aig
   rw [ih fun c hc=>h c (by simp [hc]),List.length_cons];omega
theorem Agx {M:List (List Int)} {p v:Int} (R:AX7 M) (hp:2<=p) (hp2:p<=9973) (h:Ab6 (det M.length (ent M)) p v):∃ k:Nat,((if p=2 then v + 3 else v + 1)=(k:Int))/\p ^ k<=2147483647/\1<=k/\(p=2->3<=k):=by
  obtain ⟨v1,v2⟩:=Abq R;obtain ⟨e,r,rfl,h1,h2⟩:=h;have hpe:0 < p ^ e:=Int.pow_pos Zj
  have hr:0 < r:=by
    rcases Int.lt_or_le 0 r with h | h
    · exact h
    · have:=Int.mul_nonpos_of_nonpos_of_nonneg h (Int.le_of_lt hpe);omega
  have hle:1 * p ^ e<=r * p ^ e:=Int.mul_le_mul_of_nonneg_right Zj Zj
  by_cases h:p=2
  · subst h;refine ⟨e + 3,by rw [if_pos rfl];rfl,?_,Zj,fun _=>by omega⟩;rw [Int.pow_add];have:(2:Int) ^ 3=8:=by decide
    omega
  · refine ⟨e + 1,by rw [if_neg h];rfl,?_,Zj,fun h2=>absurd h2 h⟩;rw [Int.pow_succ];have:=Int.mul_le_mul (show p ^ e<=10000 by omega) hp2 Zj Zj;omega
theorem Al1 {fuel:Nat} {M T:List (List Int)} {p:Int} {L:List AGb} (hM:Ags M) (hg:2147483648 < fuel):∃ r,AFz fuel M p T L=some r/\AC1 fuel M p T L=some r:=by
 have hf:100 < fuel:=by omega
 have e0:=Abp hM hf;unfold AFz AC1;rw [e0];simp only [AMk,AKo,ASl,Option.bind_some]
 cases hr:isRed M with
 | false=>exact ⟨6,rfl,rfl⟩
 | true=>
   cases ho:AVm p with
   | false=>exact ⟨20,rfl,rfl⟩
   | true=>
     have R:=(AQ8 M).1 hr
     have ho':2 < p/\p<=9973/\Pr p:=by simpa [AVm] using ho
     simp only [Bool.not_true,Bool.false_eq_true,reduceIte]
     by_cases hT:(T.length:Int)=M.length
     · by_cases hL:(L.length:Int)=M.length
       · have hn:=R.1
         obtain ⟨n,hMn⟩:∃ n,M.length=n:=⟨_,rfl⟩
         rw [if_neg (show ¬ ¬ (T.length:Int)=M.length from fun h=>h hT),if_neg (show ¬ ¬ (L.length:Int)=M.length from fun h=>h hL),if_neg (show ¬ ¬ (T.length:Int)=M.length from fun h=>h hT),if_neg (show ¬ ¬ (L.length:Int)=M.length from fun h=>h hL)]
         simp only [Option.bind_some]
         obtain ⟨ex,h1,h2⟩:=Akc (fuel:=fuel) (T:=T) hMn Zj hf
         obtain ⟨b,h3,h4⟩:=Asq (fuel:=fuel) (T:=T) Zj hf
         rw [h1,h3]
         simp only [Option.bind_some]
         have hTn:T.length=n:=by omega
         rw [hTn] at h4 h2
         rcases h2 with ⟨rfl,h2⟩ | ⟨rfl,h2⟩
         · obtain rfl:b=true:=h4.2 h2
           rw [if_neg Zl]
           simp only [Option.bind_some]
           have hTt:=Avo hTn (Apy (T:=T) (n:=n) (by rw [hTn];exact h2))
           have hMt:=AVq R
           obtain ⟨v,hv,Ap,hj,hd⟩:=AY9 (fuel:=fuel) R ho'.2.2 ho'.2.1 hf
           obtain ⟨k,hk,hq,Ad,Ai⟩:=Agx R Zj ho'.2.1 hv
           rw [hk] at hj hd
           rw [hj]
           simp only [Option.bind_some]
           rw [Abv Zj hq hf]
           simp only [Option.bind_some]
           rw [hMn] at hMt hn
           rw [hMt] at hd
           rw [hMt,hTt]
           obtain ⟨c,h5,h6⟩:=Adg (fuel:=fuel) (A:=ent M) (T:=ent T) (L:=L) hn.1 hn.2 (show 2<=p by omega) ho'.2.1 hq Ad (show L.length=n by omega) hg
           rw [h5]
           simp only [Option.bind_some]
           have hall:Ok (iter (fun s=>AE7 fuel L s) fuel 0) fun ex=>(ex= .inr ()/\ ∀ i,i < L.length-> ∀ b,L[i]? =some b->b.2.1=1)∨(ex= .inl 10/\¬ ∀ i,i < L.length-> ∀ b,L[i]? =some b->b.2.1=1):=by
             refine AQq (n:=L.length) (fun i=> ∀ b,L[i]? =some b->b.2.1=1) 10 Zj (fun i hi=>?_) ?_
             · obtain ⟨z,hz⟩:∃ z,L[i]? =some z:=⟨L[i],List.getElem?_eq_getElem hi⟩
               unfold AE7
               rw [if_pos Zj,ACw hz]
               exact AAh (fun h=>Zn (.inr ⟨rfl,fun h2=>h (h2 z hz)⟩)) fun h=>Zn (.inl ⟨by rw [ABr Zj],fun y hy=>by rw [hz] at hy;cases hy;omega⟩)
             · unfold AE7
               rw [if_neg Zj]
           obtain ⟨ex,h7,h8⟩:=hall
           rw [h7]
           simp only [Option.bind_some]
           rcases h8 with ⟨rfl,h8⟩ | ⟨rfl,h8⟩
           · have hsz:∀ b∈L,b.2.1=1:=fun b hb=>by
               obtain ⟨i,hi⟩:=List.getElem?_of_mem hb
               exact h8 i (List.getElem?_eq_some_iff.1 hi).1 b hi
             obtain ⟨d,h9,Ao⟩:=Aly (fuel:=fuel) (A:=ent M) (T:=ent T) (L:=L) hn.1 hn.2 hd (show 2<=p by omega) hq Ad Ai (fun b hb=> .inl (hsz b hb)) (by rw [Apz hsz];omega) (show L.length<=n by omega) Zj hf
             simp only []
             rw [h9]
             simp only [Option.bind_some]
             have:c=d:=by
               rw [Bool.eq_iff_iff,h6,Ao]
               exact Alz Zj hq Ad hsz Zj
             subst this
             cases c
             · exact ⟨10,rfl,rfl⟩
             · exact ⟨0,rfl,rfl⟩
           · have: ¬ c=true:=fun hc=>h8 fun i hi b hb=>by
               obtain ⟨e,u,rfl,-,-⟩:=((h6.1 hc).2.2 i Zj).1.2 b hb
               rfl
             exact ⟨10,by rw [if_pos (by simpa using this)],rfl⟩
         · have hb: ¬ b=true:=fun hb=>h2 (h4.1 hb)
           rw [if_pos (by simpa using hb)]
           exact ⟨3,rfl,rfl⟩
       · rw [if_neg (show ¬ ¬ (T.length:Int)=M.length from fun h=>h hT),if_pos (show ¬ (L.length:Int)=M.length from hL),if_neg (show ¬ ¬ (T.length:Int)=M.length from fun h=>h hT),if_pos (show ¬ (L.length:Int)=M.length from hL)];exact ⟨3,rfl,rfl⟩
     · rw [if_pos hT,if_pos hT];exact ⟨3,rfl,rfl⟩
theorem Ap0 {p:Int} (hp:Pr p):PrI p:=⟨hp.1,fun x y h=>by
  have h2:=hp.1
  refine Classical.byContradiction fun hn=>?_
  have hx:x % p≠0:=fun h=>hn (.inl (Int.dvd_of_emod_eq_zero h))
  have hy:y % p≠0:=fun h=>hn (.inr (Int.dvd_of_emod_eq_zero h))
  have h3:=Int.emod_nonneg x (show p≠0 by omega)
  have h4:=Int.emod_lt_of_pos x (show 0 < p by omega)
  have h5:=Int.emod_nonneg y (show p≠0 by omega)
  have h6:=Int.emod_lt_of_pos y (show 0 < p by omega)
  refine Atr hp (a:=x % p) (x:=y % p) Zj Zj Zj Zj ?_
  rw [<- Int.mul_emod]
  exact Int.emod_eq_zero_of_dvd h⟩
theorem Agy {p a:Int} (hp:Pr p) (ha: ¬ p ∣ a):∀ K:Nat,∃ y,p ^ (K + 1) ∣ y * a - 1
  | 0=>by
    have h2:=hp.1;have hx:a % p≠0:=fun h=>ha (Int.dvd_of_emod_eq_zero h);have h3:=Int.emod_nonneg a (show p≠0 by omega);have h4:=Int.emod_lt_of_pos a (show 0 < p by omega);obtain ⟨y,hy⟩:=Aam hp _ (a % p) (Nat.le_refl _) Zj h4;refine ⟨y,?_⟩;rw [Int.pow_succ,Int.pow_zero,Int.one_mul];refine ASm (m:=p) ?_;show y * a % p=1 % p;rw [Int.emod_eq_of_lt (a:=1) Zl Zj,<- hy];exact ((Eqm.refl p y).mul (Eqm.mod p a)).symm
  | K + 1=>by
    obtain ⟨y,z,hz⟩:=Agy hp ha K;refine ⟨y * (2 - y * a),?_⟩;have e:y * (2 - y * a) * a - 1= -((y * a - 1) * (y * a - 1)):=by grind
    rw [e,hz];refine Int.dvd_neg.2 (Int.dvd_trans (AIz (b:=K + 1 + (K + 1)) Zj) ?_);rw [Int.pow_add];exact ⟨z * z,by grind⟩
theorem Al2 {p a:Int} {K:Nat} (hp:Pr p) (ha: ¬ p ∣ a) (hK:1<=K):∃ y,Aah (p ^ K) (a % p ^ K) y:=by
 obtain ⟨y,hy⟩:=Agy hp ha (K - 1);rw [show K - 1 + 1=K by omega] at hy;have hq:0 < p ^ K:=Int.pow_pos (by have:=hp.1;omega);refine ⟨y % p ^ K,Int.emod_nonneg _ Zj,Int.emod_lt_of_pos _ hq,?_⟩;exact ((Eqm.mod _ y).mul (Eqm.mod _ a)).trans (AW3 hy)
theorem Ap1 {p u x:Int} {f E:Nat} (hp:PrI p) (hx:x=u * p ^ E) (hu: ¬ p ∣ u) (hf:p ^ f ∣ x):f<=E:=by
 rcases Nat.lt_or_ge E f with h | h
 ·exfalso;have h1:p ^ (E + 1) ∣ u * p ^ E:=hx ▸ Int.dvd_trans (AIz h) hf;obtain ⟨w,hw⟩:=h1;refine hu ⟨w,Int.eq_of_mul_eq_mul_left (AZ7 hp E) ?_⟩;rw [Int.pow_succ] at hw;grind
 ·exact h
theorem Avp {p u x:Int} {E K:Nat} (hp:PrI p) (hx:x=u * p ^ E) (hu: ¬ p ∣ u) (h0:0<=x/\x < p ^ K):E < K:=by
 rcases Nat.lt_or_ge E K with h | h
 ·exact h
 ·exfalso;have hpp:=hp.1;have h1:p ^ K ∣ x:=by rw [hx];exact Int.dvd_trans (AIz h) ⟨u,Int.mul_comm _ _⟩
  have h2:x=0:=by
    rcases Int.lt_or_le 0 x with h3 | h3
    · have:=Int.le_of_dvd h3 h1;omega
    · omega
  rw [h2] at hx;have hpE:p ^ E≠0:=AZ7 hp E;rcases Int.mul_eq_zero.1 hx.symm with h3 | h3
  ·exact hu (h3 ▸ ⟨0,AA4⟩)
  ·exact hpE h3
section
variable {fuel n K k:Nat} {p:Int} {H T G:AAb}
theorem JS.low {E:Nat} (S:JS n K p H T G k E) (hs:∀ i j,i < n->j < n->H i j=H j i) {E':Nat} (h:∀ a e,k<=a->a + e < n->p ^ E' ∣ G a (a + e)):JS n K p H T G k E':=⟨S.rt,S.rg,S.e,S.z,fun i j hi hin hj hjn=>by
  rcases Nat.lt_or_ge j i with hl | hl
  · rw [S.e.sym hs S.rg hin hjn]
    have:=h j (i - j) hj Zj
    rwa [show j + (i - j)=i by omega] at this
  · have:=h i (j - i) hi Zj
    rwa [show i + (j - i)=j by omega] at this⟩
theorem Adi {q:Int} {j l:Nat} {c:Int} {G:AAb} {a:Nat} (h:a≠j):AW9 q j l c G a a=G a a:=by
 rw [ATs,if_neg h,if_neg h]
theorem Ap2 {i j a:Nat} {G:AAb} (hi:a≠i) (hj:a≠j):swG i j G a a=G a a:=by
 unfold swG;rw [Aet hi hj]
theorem Ass {E:Nat} {A v:Int} (S:JS n K p H T G k E) (hp:2<=p) (hq1:1 < p ^ K) (hq2:p ^ K<=2147483647) (hE:E<=K) (hn:n<=8) (hk:k < n) (hD:G k k=A * p ^ E) (hv:Eqm (p ^ K) (v * A) 1) (hv0:0<=v/\v < p ^ K) (hf:100 < fuel):
    Ok (iter (fun s=>AIv fuel (p ^ K) (k:Int) (p ^ E) [[v]] s.1 s.2.1 s.2.2) fuel (((k + 1:Nat):Int),tab n n G,tab n n T)) fun ex=> ∃ T' G',ex=(tab n n G',tab n n T')/\JS n K p H T' G' k E/\(∀ a,a<=k->G' a a=G a a)/\ ∀ j,k < j->j < n->G' k j=0:=by
  refine ABa (fun i s=> ∃ T' G',s=(((k + 1 + i:Nat):Int),tab n n G',tab n n T')/\k + 1 + i<=n/\JS n K p H T' G' k E/\(∀ a,a<=k->G' a a=G a a)/\ ∀ j,k < j->j < k + 1 + i->G' k j=0) (n - (k + 1)) ⟨T,G,rfl,Zj,S,fun _ _=>rfl,fun j h1 h2=>by omega⟩ Zj fun i s hi hI=>?_;obtain ⟨T',G',rfl,hin,S',hd,hz⟩:=hI;unfold AIv;dsimp only;rw [AAt];refine AAh (fun h=>?_) fun h=>Zn ⟨T',G',rfl,S',hd,fun j h1 h2=>hz j h1 Zj⟩;obtain ⟨j,hj⟩:∃ j,j=k + 1 + i:=⟨_,rfl⟩;rw [<- hj] at h hin hz ⊢;have hjn:j < n:=by omega
  have hpE:0 < p ^ E:=Int.pow_pos Zj;rw [ACw (AA1 hk),ACw (AAq hjn),if_pos Zj,AUu (x:=[v]) rfl,AUu (x:=v) rfl,if_pos Zj,if_pos Zj];have hx:=S'.rg k j hk hjn;obtain ⟨x,hxe⟩:∃ x,x=G' k j:=⟨_,rfl⟩;rw [<- hxe] at hx ⊢;have hdiv:0<=x / p ^ E/\x / p ^ E<=x:=⟨Int.ediv_nonneg hx.1 (Int.le_of_lt hpE),Int.ediv_le_self _ hx.1⟩;have hm0:0<=x / p ^ E * v:=Int.mul_nonneg hdiv.1 hv0.1;have hm1:x / p ^ E * v<=2147483647 * 2147483647:=Int.mul_le_mul Zj Zj hv0.1 Zl;have hc0:=AYe (q:=p ^ K) Zj (x / p ^ E * v)
  have hc:Int.tmod (w64 (p ^ K - (Int.tmod (w64 ((w64 (Int.tdiv x (p ^ E))) * v)) (p ^ K)))) (p ^ K)=(p ^ K - (x / p ^ E * v) % p ^ K) % p ^ K:=by
    rw [Int.tdiv_eq_ediv_of_nonneg hx.1,ACk (x:=x / p ^ E) Zj Zj,ACk (x:=x / p ^ E * v) Zj Zj,Int.tmod_eq_emod_of_nonneg hm0,wk Zj,Int.tmod_eq_emod_of_nonneg Zj]
  obtain ⟨c,hce⟩:∃ c,c=(p ^ K - (x / p ^ E * v) % p ^ K) % p ^ K:=⟨_,rfl⟩;rw [<- hce] at hc;have hc2:0<=c/\c < p ^ K:=by rw [hce];exact AYe Zj _
  obtain ⟨a1,a2⟩:=Avn (fuel:=fuel) (G:=G') (T:=T') hq1 hq2 hn hjn hk Zj S'.rg S'.rt hf hc hc2;rw [a1];simp only [Option.bind_some];rw [ACw (AA1 hk),a2];simp only [Option.bind_some];have S2:=S'.add (c:=c) Zj hE (show k<=j by omega) hjn (Nat.le_refl k) hk Zj
  refine Zn ⟨Zj,_,_,?_,Zj,S2,fun a ha=>by rw [Adi Zj,hd a ha],fun j' h1 h2=>?_⟩
  · rw [hj,ABr Zj];rfl
  · rw [ATs,if_neg Zj]
    by_cases h3:j'=j
    · rw [if_pos h3,<- hxe,hd k (Nat.le_refl k),hce];exact Aii Zj Zj hx.1 (hxe ▸ S'.fl k j (Nat.le_refl k) hk Zj hjn) hD hv
    · rw [if_neg h3];exact hz j' h1 Zj
theorem Ast {f:Nat} {L:List AGb} {M:List (List Int)} (hM:M.length=n) (S:JS n K p H T G k f) (B:JL n p G L k f) (hs:∀ i j,i < n->j < n->H i j=H j i) (hd: ¬ p ^ K ∣ det n H) (hp:Pr p) (hp2:2 < p) (hp3:p<=9973) (hq2:p ^ K<=2147483647) (hK:1<=K) (hn:n<=8) (hk:k < n) (hf:2147483648 < fuel):
    ∃ T' G' L' E,AFi fuel M p (p ^ K) (f:Int) (k:Int) (tab n n G) (tab n n T) L=some (.inl ((E:Nat),((k + 1:Nat):Int),tab n n G',tab n n T',L'))/\JS n K p H T' G' (k + 1) E/\JL n p G' L' (k + 1) E:=by
  have hI:=Ap0 hp;have hf2:100 < fuel:=by omega
  have hq1:1 < p ^ K:=by
    have h1:p ^ 1<=p ^ K:=AEz Zj hK;rw [Int.pow_succ,Int.pow_zero,Int.one_mul] at h1;omega
  obtain ⟨j,hj1,hj2,hj3⟩:=S.e.some hd hk fun j hj=>by rw [S.e.sym hs S.rg hk Zj];exact S.z j k hj hk Zj
  obtain ⟨ex,hpv,r,c,rfl,E,P,hall⟩:=Asp (fuel:=fuel) (n:=n) (k:=k) (f:=f) (p:=p) (G:=G) Zj hp3 hq2 hn S.rg (fun a e h1 h2=>S.fl a (a + e) h1 Zj Zj h2) hk ⟨j - k,Zj,by rwa [show k + (j - k)=j by omega]⟩ hf2;have S1:=S.low hs hall;obtain ⟨u,hu,hpu⟩:=P.u;have hrn:r < n:=by have:=P.hrc;have:=P.hc;omega
  have hEK:=Avp hI hu hpu (S.rg r c hrn P.hc);have hfE:=Ap1 hI hu hpu (S.fl r c P.hr hrn (by have:=P.hr;have:=P.hrc;omega) P.hc)
  have key:∃ T1 G1,(((if ¬ (r:Int)=(c:Int) then ((((iter (fun s=>ADw fuel (p ^ K) (r:Int) (c:Int) s.1 s.2.1 s.2.2) fuel (0,tab n n G,tab n n T)).bind (fun ((e1,e2):(List (List Int)) × (List (List Int)))=>((gI e1 (c:Int)).bind fun x=>((iter (fun s=>AE0 fuel (p ^ K) (r:Int) (c:Int) x s.1 s.2) fuel (0,e1)).bind (fun (e:(List (List Int)))=>(some ( (e,e2)))))))):Option ((List (List Int)) × (List (List Int)))).bind fun (e1,e2)=>(some ( (e1,e2)))) else (some ( (tab n n G,tab n n T)))):Option (((List (List Int)) × (List (List Int))))))=some (tab n n G1,tab n n T1)/\JS n K p H T1 G1 k E/\(∃ u,G1 r r=u * p ^ E/\¬ p ∣ u)/\ ∀ a,a < k->G1 a a=G a a:=by
    by_cases hrc:r=c
    · subst hrc;exact ⟨T,G,by rw [if_neg AA4],S1,⟨u,hu,hpu⟩,fun _ _=>rfl⟩
    · obtain ⟨a1,a2⟩:=Avl (fuel:=fuel) (G:=G) (T:=T) hq1 hq2 hn hrn P.hc (fun h=>hrc h.symm) S.rg S.rt hf2;refine ⟨_,_,?_,S1.add (c:=1) Zj Zj P.hr hrn (by have:=P.hr;have:=P.hrc;omega) P.hc (fun h=>hrc h.symm),S1.pivot hs hI (fun h=>by have:=Int.le_of_dvd Zl h;omega) hEK P.hr hrn (by have:=P.hr;have:=P.hrc;omega) P.hc (fun h=>hrc h.symm) hu hpu (P.dg hrc r P.hr hrn) (P.dg hrc c (by have:=P.hr;have:=P.hrc;omega) P.hc),fun a ha=>Adi (by have:=P.hr;omega)⟩;rw [if_pos Zj,a1];simp only [Option.bind_some];rw [ACw (AA1 P.hc),a2];rfl
  obtain ⟨T1,G1,e1,S2,⟨u1,hu1,hpu1⟩,hd1⟩:=key;have S3:=S2.swap (Nat.le_refl k) hk P.hr hrn
  have hdk:swG k r G1 k k=u1 * p ^ E:=by
    have:swG k r G1 k k=G1 r r:=by
      unfold swG sw2
      by_cases h:k=r
      · rw [if_pos h,h]
      · rw [if_neg h,if_pos rfl]
    rw [this,hu1]
  have hkk:=S3.rg k k hk hk
  have hpos:0 < swG k r G1 k k:=by
    rcases Int.lt_or_le 0 (swG k r G1 k k) with h | h
    · exact h
    · exfalso;have h0:swG k r G1 k k=0:=by omega
      rw [h0] at hdk
      rcases Int.mul_eq_zero.1 hdk.symm with h3 | h3
      · exact hpu1 (h3 ▸ ⟨0,AA4⟩)
      · exact AZ7 hI E h3
  obtain ⟨b,hb,hbi⟩:=Abw (fuel:=fuel) (show 2<=p by omega) hp3 hpos Zj hf2;obtain rfl:=Apo (show 2<=p by omega) hbi (⟨E,u1,rfl,hdk,hpu1⟩:IsB p _ _);obtain ⟨v,hv,hvi⟩:=Avk (f:=fuel) (x:=u1) (m:=p ^ K) Zj hq2 (Al2 hp hpu1 hK) hf;have hvq:Eqm (p ^ K) (v * u1) 1:=((Eqm.refl _ v).mul (Eqm.mod _ u1)).symm.trans hvi.2.2;obtain ⟨ex,hcl,T2,G2,rfl,S4,hd2,hz2⟩:=Ass (fuel:=fuel) S3 Zj hq1 hq2 Zj hn hk hdk hvq ⟨hvi.1,hvi.2.1⟩ hf2;have hLk:=B.len
  refine ⟨T2,G2,L ++ [((E:Int),1,u1,0,0)],E,?_,S4.next hs hk hz2,(B.keep fun a ha=>?_).push ?_ ?_ rfl hfE⟩
  · unfold AFi;rw [hM,if_pos Zj,hpv];simp only [Option.bind_some];rw [e1];simp only [Option.bind_some];rw [ACw (AA1 hrn),ACw (AA1 hk),Avm hn hrn hk hf2];simp only [Option.bind_some];rw [ACw (AA1 hk),ACw (AAq hk),hb];simp only [Option.bind_some];rw [Abv Zj (Int.le_trans (AEz Zj (Nat.le_of_lt hEK)) hq2) hf2];simp only [Option.bind_some];rw [hv];simp only [Option.bind_some];rw [ABr Zj,hcl];simp only [Option.bind_some];rw [if_pos Zj]
  · rw [hd2 a Zj,Ap2 Zj (by have:=P.hr;omega),hd1 a ha]
  · rw [hd2 k (Nat.le_refl k)];omega
  · rw [hd2 k (Nat.le_refl k)];exact ⟨E,u1,rfl,hdk,hpu1⟩
end
theorem Ap3 {fuel n:Nat} {M:List (List Int)} (hM:M.length=n) (hn:n<=8) (hf:100 < fuel):iter (fun s=>AJn fuel M s.1 s.2) fuel (0,[])=some (tab n n dl):=by
  apply ok_eq;refine ABa (fun i s=>s=((i:Int),AB6 i fun a=>AB6 n (dl a))/\i<=n) n ⟨rfl,Nat.zero_le _⟩ Zj fun i s hi hI=>?_;obtain ⟨rfl,hin⟩:=hI;unfold AJn;dsimp only;rw [hM]
  refine AAh (fun h=>?_) fun h=>?_
  · have hi:i < n:=by omega
    rw [if_pos Zj,AA2,if_pos Zj,Int.toNat_natCast,AE4 n (0:Int)]
    have hget:(AB6 i (fun a=>AB6 n (dl a)) ++ [AB6 n fun _=>(0:Int)])[i]? =some (AB6 n fun _=>(0:Int)):=by
      rw [List.getElem?_append_right (by rw [AA2];exact Nat.le_refl _),AA2,Nat.sub_self];rfl
    rw [ACw hget,ACw (AAq hi),AWa,ABr Zj];refine Zn ⟨hi,?_,hi⟩;congr 1;rw [AB0,List.set_append,if_neg (by rw [AA2];omega),AA2,Nat.sub_self];show AB6 i (fun a=>AB6 n (dl a)) ++ [AB6 n fun c=>if c=i then 1 else 0]=_
    have:AB6 n (fun c=>if c=i then (1:Int) else 0)=AB6 n (dl i):=ABo fun c _=>by
      unfold dl
      by_cases h:c=i
      · rw [if_pos h,if_pos h.symm]
      · rw [if_neg h,if_neg (fun e=>h e.symm)]
    rw [this];unfold AB6;rw [List.range_succ,List.map_append];rfl
  · obtain rfl:i=n:=by omega
    exact Zn rfl
theorem Avq {fuel:Nat} {M:List (List Int)} {m:Int} (R:AX7 M) (hm:2<=m) (Aa:m<=2147483647) (hf:100 < fuel):AJa fuel M m=some (tab M.length M.length fun i j=>ent M i j % m,0):=by
 have hM:=AVq R;unfold AJa ABu;have h1:AFx fuel M=some true:=by rw [hM];exact AVr R.1.1 R.1.2 hf
 have h2:ACt fuel M m=some (tab M.length M.length fun i j=>ent M i j % m):=by
   conv=>lhs;rw [hM]
   exact Abt R.1.2 hm Aa hf
 rw [h1];simp only [Option.bind_some];rw [if_neg Zl,if_neg Zj,if_neg Zj];simp only [Option.bind_some];rw [if_neg Zl,h2];rfl
theorem Avr {fuel:Nat} {M:List (List Int)} {p:Int} (R:AX7 M) (hp:Pr p) (hp2:2 < p) (hp3:p<=9973) (hf:2147483648 < fuel):
    ∃ (K E:Nat) (T G:AAb) (L:List AGb),ACh fuel M p=some ((p,tab M.length M.length T,L),0)/\AC5 fuel M p=some (K:Int)/\1<=K/\p ^ K<=2147483647/\Ab6 (det M.length (ent M)) p ((K:Int) - 1)/\JS M.length K p (ent M) T G M.length E/\JL M.length p G L M.length E:=by
  have hf2:100 < fuel:=by omega
  obtain ⟨v,hv,hv2,hj,-⟩:=AY9 (fuel:=fuel) R hp hp3 hf2;obtain ⟨K,hk,hq,hk1,-⟩:=Agx R Zj hp3 hv;rw [hk] at hj;rw [if_neg Zj] at hk
  have hq1:2<=p ^ K:=by
    have h1:p ^ 1<=p ^ K:=AEz Zj hk1;rw [Int.pow_succ,Int.pow_zero,Int.one_mul] at h1;omega
  have hI:=Ap0 hp;have hn:=R.1.2;have hs:∀ i j,i < M.length->j < M.length->ent M i j=ent M j i:=fun i j hi hj=>R.2.2.sym i j hi hj
  have hd: ¬ p ^ K ∣ det M.length (ent M):=fun h=>by
    obtain ⟨e,r,he,h1,h2⟩:=hv;have:=Ap1 (f:=K) hI h1 h2 h;omega
  unfold ACh;have hrd:isRed M=true:=(AQ8 M).2 R;have hod:AVm p=true:=(AUj ⟨hp2,hp3,hp⟩).symm;simp only [AMk,AKo,Option.bind_some,hrd,hod];rw [if_neg Zl,if_neg Zl,hj];simp only [Option.bind_some];rw [Abv Zj hq hf2];simp only [Option.bind_some];rw [Avq R hq1 hq hf2];simp only [Option.bind_some];rw [Ap3 rfl hn hf2];simp only [Option.bind_some]
  have S0:JS M.length K p (ent M) dl (fun i j=>ent M i j % p ^ K) 0 0:=⟨fun i j _ _=>by
    unfold dl;split <;> omega,fun i j _ _=>AYe Zj _,Avi fun i j _ _=>Eqm.mod _ _,fun i j h=>absurd h (Nat.not_lt_zero i),fun i j _ _ _ _=>⟨ent M i j % p ^ K,by rw [Int.pow_zero,Int.one_mul]⟩⟩
  have B0:JL M.length p (fun i j=>ent M i j % p ^ K) [] 0 0:=⟨rfl,fun i b h=>by simp at h,fun i hi b c h=>by simp at h⟩
  have main:Ok (iter (fun s=>AFi fuel M p (p ^ K) s.1 s.2.1 s.2.2.1 s.2.2.2.1 s.2.2.2.2) fuel (0,0,tab M.length M.length (fun i j=>ent M i j % p ^ K),tab M.length M.length dl,[])) fun ex=> ∃ (E:Nat) (T G:AAb) (L:List AGb),ex=(tab M.length M.length G,tab M.length M.length T,L)/\JS M.length K p (ent M) T G M.length E/\JL M.length p G L M.length E:=by
    refine ABa (fun i s=> ∃ (E:Nat) (T G:AAb) (L:List AGb),s=((E:Int),(i:Int),tab M.length M.length G,tab M.length M.length T,L)/\i<=M.length/\JS M.length K p (ent M) T G i E/\JL M.length p G L i E) M.length ⟨0,_,_,_,rfl,Nat.zero_le _,S0,B0⟩ Zj fun i s hi hI=>?_;obtain ⟨E,T,G,L,rfl,hin,S,B⟩:=hI;dsimp only
    rcases Nat.lt_or_ge i M.length with h | h
    · obtain ⟨T',G',L',E',h1,h2,h3⟩:=Ast (fuel:=fuel) (M:=M) rfl S B hs hd hp hp2 hp3 hq hk1 hn h hf;rw [h1];exact Zn ⟨h,E',T',G',L',rfl,h,h2,h3⟩
    · obtain rfl:i=M.length:=by omega
      unfold AFi;rw [if_neg Zj];exact Zn ⟨E,T,G,L,rfl,S,B⟩
  obtain ⟨ex,h1,E,T,G,L,rfl,S,B⟩:=main;rw [h1];exact ⟨K,E,T,G,L,rfl,rfl,hk1,hq,by rwa [show (K:Int) - 1=v by omega],S,B⟩
end Go.Proofs.YtdkldlbgcfpglaaGreatDoor
namespace Go.Proofs.YtdkldlbgcfpglaaGreatDoor
open Go Go.QF
set_option maxRecDepth 100000
theorem pr3:Pr 3:=⟨Zj,fun d h1 h2=>by
  obtain rfl:d=2:=by omega
  decide⟩
theorem Aw5:AVm 3=true:=by simp [AVm,pr3]
theorem Ath:isRed [[2,1],[1,2]]=true:=by
 unfold isRed
 rw [<- AHa (M:=[[2,1],[1,2]]) ⟨Zl,Zl,fun i j hi hj=>by
   have hi:i < 2:=hi
   have hj:j < 2:=hj
   rcases (by omega:i=0∨i=1) with rfl | rfl <;> rcases (by omega:j=0∨j=1) with rfl | rfl <;> decide⟩]
 decide +kernel
theorem Aw6:Ab6 3 3 1:=⟨1,1,rfl,Zl,Zl⟩
theorem Aew:ABq (AC3 + 1)=some true:=by
 have Aa:100 < AC3 + 1:=Nat.lt_of_le_of_lt Zl (Nat.lt_succ_self AC3);have R:=(AQ8 _).1 Ath;have hd:det 2 (ent [[2,1],[1,2]])=3:=by decide +kernel
 obtain ⟨v,h1,h2,h3,h4⟩:=AY9 (fuel:=AC3 + 1) R (p:=3) pr3 Zj Aa;obtain rfl:v=1:=Aem Zj (by simpa [hd] using h1) Aw6;rw [if_neg Zl] at h3;have h5:=Abv (fuel:=AC3 + 1) (p:=3) (k:=2) Zj Zl Aa;unfold ABq AJk AL2 AFz AKo AMk;simp only [Aw5,Ath,h3,Option.bind_some,Bool.not_true,Bool.false_eq_true,reduceIte];decide +kernel
end Go.Proofs.YtdkldlbgcfpglaaGreatDoor
namespace Go.Proofs.YtdkldlbgcfpglaaGreatDoor
open Go Go.QF
set_option maxRecDepth 100000
set_option maxHeartbeats 4000000
noncomputable def AFd (fuel:Nat) (a1 a2:Int) (a5 a9:LiA) (Ac:LiI) (Ag Ah:Int) (Ai Ar:Bool):Option Bool:=
  ((AG6 fuel Ac).bind fun Au=>(if Au=true then ((ABq fuel).bind fun Av=>(some Av)) else (if Ar=true then ((AD9 fuel a1 a2 a5 a9 4).bind fun Ad=>((AD4 fuel Ag Ah Ai).bind fun Aj=>((ACh fuel Ad Aj).bind fun (Aa,Ae)=>((AB4 fuel Ad).bind fun Aw=>(if (!Aw)=true then (if Ae=6 then (if (w64 ((Aa.2.1.length:Int) + (Aa.2.2.length:Int)))=0 then ((ABq fuel).bind fun Ax=>(some Ax)) else (some false)) else (some false)) else ((ASl fuel Aj).bind fun Ay=>(if (!Ay)=true then (if Ae=20 then (if (w64 ((Aa.2.1.length:Int) + (Aa.2.2.length:Int)))=0 then ((ABq fuel).bind fun Az=>(some Az)) else (some false)) else (some false)) else (if Ae=0 then ((AC1 fuel Ad Aa.1 Aa.2.1 Aa.2.2).bind fun A3=>(if A3=0 then ((ABq fuel).bind fun A4=>(some A4)) else (some false))) else (some false))))))))) else ((AD4 fuel Ag Ah Ai).bind fun Ak=>((ACh fuel Ac Ak).bind fun (Ab,Af)=>((AB4 fuel Ac).bind fun A5=>(if (!A5)=true then (if Af=6 then (if (w64 ((Ab.2.1.length:Int) + (Ab.2.2.length:Int)))=0 then ((ABq fuel).bind fun A6=>(some A6)) else (some false)) else (some false)) else ((ASl fuel Ak).bind fun A7=>(if (!A7)=true then (if Af=20 then (if (w64 ((Ab.2.1.length:Int) + (Ab.2.2.length:Int)))=0 then ((ABq fuel).bind fun A8=>(some A8)) else (some false)) else (some false)) else (if Af=0 then ((AC1 fuel Ac Ab.1 Ab.2.1 Ab.2.2).bind fun A9=>(if A9=0 then ((ABq fuel).bind fun Ba=>(some Ba)) else (some false))) else (some false)))))))))))
theorem APi {fuel:Nat} {h:Zv} {a1 a2:Int} {Aj:Value} {a5:LiA} {Ak:Value} {a9:LiA} {Br:Value} {Bt:LiI} {Bu Bv:Int} {Bw Bx r:Bool} (H4:SlC (cI .i8) h Aj a5) (H8:SlC (cI .i8) h Ak a9) (Am:ACx (cI .i64) h Br Bt) (HO:AVa h) (hp:AFd fuel a1 a2 a5 a9 Bt Bu Bv Bw Bx=some r):AAw Tryz.prog 5 #[(.agg #[(.int .u8 a1),(.int .u8 a2),Aj,Ak]),Br,(.int .u8 Bu),(.int .i64 Bv),(.bool Bw),(.bool Bx)] h (fun x h'=>Ext h h'/\x= .bool r):=by
 unfold AFd at hp;refine cwf (l:=[_,_,_,_,_,_]) Tryz.func5 rfl rfl (Zo (AHb (Kst.k0 h) [(.int .u8 a1),(.int .u8 a2),Aj,Ak] fun El Em En By=>Zu (Zp (Zo (Zk ?_)))));obtain ⟨Eo,Cu,Bz⟩:=Zq hp;refine ACa By (AS1 (Am.ext By.x) Cu) fun Ep Er Ag=>Zs (⟨_,rfl,fun A7=>?_,fun A7=>?_⟩)
 ·refine Zo ?_;obtain ⟨Es,Cv,Cw⟩:=Zq (ifT Bz A7);refine ACa Ag (AC6 (HO.ext Ag.x) Cv) fun Et Eu Cx=>Zu (Zx (AAd ?_));obtain rfl:=Zm Cw;exact ⟨_,Zz,Cx.x,rfl⟩
 ·refine Zw (q_t (Zp (Zo (Zk (Zs ?_)))));have B1:=AFe Bz A7;refine ⟨_,rfl,fun A8=>?_,fun A8=>?_⟩
  ·refine AAc (ANn [(.int .u8 a1),(.int .u8 a2),Aj,Ak] Aoq rfl rfl (Ag.b p0).agg ?_);obtain ⟨Ev,Cy,Cz⟩:=Zq (ifT B1 A8);refine AM5 Ag (APq (H4.ext Ag.x) (H8.ext Ag.x) Cy) fun Ew Ey Ez Fa Fb Fc C0=>AA5 (Zk (Zk (Zk ?_)));obtain ⟨Fd,C1,C2⟩:=Zq Cz;refine ACa C0 (AN4 C1) fun Fe Ff A9=>AA5 (Zk (Zk ?_));obtain ⟨⟨Ae,Ba⟩,C3,B3⟩:=Zq C2;dsimp only at B3;refine ANz rfl (APk (A9.o2 p0).rd (HO.ext A9.x) C3) fun Fg Fh C4 C5=>?_;obtain ⟨Bb,Bc,C6,C7,C8,C9,rfl,Da,Db,Dc⟩:=C5;have B4:=A9.n C4 [aO2 (cI .i64) 60 2 C6 C7 C8 Bb Ae.2.1,aO AOp 59 C9 Bc Ae.2.2] Dc ⟨Da,Db,trivial⟩;simp only [List.cons_append,List.nil_append] at B4;refine Zk (ABl rfl rfl (ABl rfl rfl (AC4 B4 [(.int .i64 0),(.slice none 0 0),(.slice none 0 0)] Aau fun Fi Fj Fk Ao=>AB9 [(.int .i64 Ae.1),Bb,Bc] AM3 rfl rfl rfl rfl (AHf rfl (AHf (Ao.o2 p1).isOne (AHf (Ao.o p2).isOne AT9))) (Ao.b p0) fun Fl Dd De=>Zu (Zp (Zt (Zo (Zk ?_)))))));have B5:=Ao.sb p0 De Dd rfl;obtain ⟨Fm,Df,B6⟩:=Zq B3;refine ACa B5 (AH2 (B5.o2 p3).rd Df) fun Fo Fp Ac=>ACr rfl (Zu (⟨_,rfl,fun Be=>?_,fun Be=>?_⟩))
   ·refine Zo (Zk (ABx rfl rfl (Zk ?_)));have B7:=ifT B6 Be;by_cases Ap:Ba=6
    ·have B8:=ifT B7 Ap;rw [decide_eq_true Ap];refine Z4 38 true (ACd ALv rfl (Z4 38 true (AA7 AD6 rfl ((Ac.b p0).cell (i:=1) rfl) (Z4 38 true (AA6 AAg rfl (Ac.o2 p1).rd (Z4 38 true (ACd AHq rfl (Z4 38 true (AA7 AOf rfl ((Ac.b p0).cell (i:=2) rfl) (Z4 38 true (ABj AMs rfl (Ac.o p2).rd (Z4 38 true (AAx rfl rfl (Z4 38 true (ABx rfl rfl (AAa rfl (Zk ?_)))))))))))))))));by_cases Aq:(w64 ((Ae.2.1.length:Int) + (Ae.2.2.length:Int)))=0
     ·rw [decide_eq_true Aq];refine Z4 48 true ?_;obtain ⟨Fq,Dg,Dh⟩:=Zq (ifT B8 Aq);refine ACa Ac (AC6 (HO.ext Ac.x) Dg) fun Fr Ft Di=>AAa rfl (Zu (Zx (ABg (AAd ?_))));obtain rfl:=Zm Dh;exact ⟨_,Zz,Di.x,rfl⟩
     ·rw [decide_eq_false Aq];refine AOx 48 false (Z1 rfl (Zu (Zx (ABg (AAd ?_)))));obtain rfl:=Zm (ifF B8 Aq);exact ⟨_,Zz,Ac.x,rfl⟩
    ·rw [decide_eq_false Ap];refine ADf 38 false (AC8 38 false (Z1 rfl (Zk (AOx 48 false (Z1 rfl (Zu (Zx (ABg (AAd ?_)))))))));obtain rfl:=Zm (ifF B7 Ap);exact ⟨_,Zz,Ac.x,rfl⟩
   ·refine Zo (Zk ?_);obtain ⟨Fu,Dj,B9⟩:=Zq (AFe B6 Be);refine ACa Ac (Abi Dj) fun Fv Fw Aa=>ACr rfl (Zu (⟨_,rfl,fun Bf=>?_,fun Bf=>?_⟩))
    ·refine Zo (Zk (ABx rfl rfl (Zk ?_)));have Ca:=ifT B9 Bf;by_cases Ar:Ba=20
     ·have Cb:=ifT Ca Ar;rw [decide_eq_true Ar];refine Z4 57 true (ACd ALv rfl (Z4 57 true (AA7 AD6 rfl ((Aa.b p0).cell (i:=1) rfl) (Z4 57 true (AA6 AAg rfl (Aa.o2 p1).rd (Z4 57 true (ACd AHq rfl (Z4 57 true (AA7 AOf rfl ((Aa.b p0).cell (i:=2) rfl) (Z4 57 true (ABj AMs rfl (Aa.o p2).rd (Z4 57 true (AAx rfl rfl (Z4 57 true (ABx rfl rfl (AAa rfl (Zk ?_)))))))))))))))));by_cases Au:(w64 ((Ae.2.1.length:Int) + (Ae.2.2.length:Int)))=0
      ·rw [decide_eq_true Au];refine Z4 67 true ?_;obtain ⟨Fx,Dk,Dl⟩:=Zq (ifT Cb Au);refine ACa Aa (AC6 (HO.ext Aa.x) Dk) fun Fy Fz Do=>AAa rfl (Zu (Zx (ABg (AAd ?_))));obtain rfl:=Zm Dl;exact ⟨_,Zz,Do.x,rfl⟩
      ·rw [decide_eq_false Au];refine AOx 67 false (Z1 rfl (Zu (Zx (ABg (AAd ?_)))));obtain rfl:=Zm (ifF Cb Au);exact ⟨_,Zz,Aa.x,rfl⟩
     ·rw [decide_eq_false Ar];refine ADf 57 false (AC8 57 false (Z1 rfl (Zk (AOx 67 false (Z1 rfl (Zu (Zx (ABg (AAd ?_)))))))));obtain rfl:=Zm (ifF Ca Ar);exact ⟨_,Zz,Aa.x,rfl⟩
    ·refine Zw (q_b (q_t (Zo (Zk (ABx rfl rfl (Zk ?_))))));have Cd:=AFe B9 Bf;by_cases Av:Ba=0
     ·rw [decide_eq_true Av];refine Z4 72 true (Zk (Z4 72 true (ANn [(.int .i64 Ae.1),Bb,Bc] AM3 rfl rfl (Aa.b p0).agg (Z4 72 true ?_))));obtain ⟨Dp,Dq,Ce⟩:=Zq (ifT Cd Av);refine ACa Aa (ANt (Aa.o2 p3).rd (Aa.o2 p1).rd (Aa.o p2).rd Dq) fun F4 F5 Bg=>Z4 72 true (ABx rfl rfl (AAa rfl (Zk ?_)));by_cases Aw:Dp=0
      ·rw [decide_eq_true Aw];refine Z4 78 true ?_;obtain ⟨F6,Dr,Ds⟩:=Zq (ifT Ce Aw);refine ACa Bg (AC6 (HO.ext Bg.x) Dr) fun F7 F8 Dt=>AAa rfl (Zu (Zx ?_));obtain rfl:=Zm Ds;exact ⟨_,Zz,Dt.x,rfl⟩
      ·rw [decide_eq_false Aw];refine AOx 78 false (Z1 rfl (Zu (Zx ?_)));obtain rfl:=Zm (ifF Ce Aw);exact ⟨_,Zz,Bg.x,rfl⟩
     ·rw [decide_eq_false Av];refine AD0 72 false (Z1 rfl (Zk (AOx 78 false (Z1 rfl (Zu (Zx ?_))))));obtain rfl:=Zm (ifF Cd Av);exact ⟨_,Zz,Aa.x,rfl⟩
  ·refine Zw (q_t (Zo (Zk (Zk (Zk ?_)))));obtain ⟨F9,Du,Dv⟩:=Zq (AFe B1 A8);refine ACa Ag (AN4 Du) fun Ga Gb Bh=>AA5 (Zk (Zk ?_));obtain ⟨⟨Af,Bi⟩,Dw,Cf⟩:=Zq Dv;dsimp only at Cf;refine ANz rfl (APk (Am.ext Bh.x) (HO.ext Bh.x) Dw) fun Gc Gd Dx Dy=>?_;obtain ⟨Bj,Bl,Dz,D0,D1,D2,rfl,D3,D4,D5⟩:=Dy;have Cg:=Bh.n Dx [aO2 (cI .i64) 60 2 Dz D0 D1 Bj Af.2.1,aO AOp 59 D2 Bl Af.2.2] D5 ⟨D3,D4,trivial⟩;simp only [List.cons_append,List.nil_append] at Cg;refine Zk (ABl rfl rfl (ABl rfl rfl (AC4 Cg [(.int .i64 0),(.slice none 0 0),(.slice none 0 0)] Aau fun Ge Gf Gg Ax=>AB9 [(.int .i64 Af.1),Bj,Bl] AM3 rfl rfl rfl rfl (AHf rfl (AHf (Ax.o2 p1).isOne (AHf (Ax.o p2).isOne AT9))) (Ax.b p0) fun Gh D6 D7=>Zu (Zp (Zt (Zo (Zk ?_)))))));have Ch:=Ax.sb p0 D7 D6 rfl;obtain ⟨Gi,D8,Ci⟩:=Zq Cf;refine ACa Ch (AH2 (Am.ext Ch.x) D8) fun Gj Gk Ad=>ACr rfl (Zu (⟨_,rfl,fun Bm=>?_,fun Bm=>?_⟩))
   ·refine Zo (Zk (ABx rfl rfl (Zk ?_)));have Cj:=ifT Ci Bm;by_cases Ay:Bi=6
    ·have Ck:=ifT Cj Ay;rw [decide_eq_true Ay];refine Z4 38 true (ACd ALv rfl (Z4 38 true (AA7 AD6 rfl ((Ad.b p0).cell (i:=1) rfl) (Z4 38 true (AA6 AAg rfl (Ad.o2 p1).rd (Z4 38 true (ACd AHq rfl (Z4 38 true (AA7 AOf rfl ((Ad.b p0).cell (i:=2) rfl) (Z4 38 true (ABj AMs rfl (Ad.o p2).rd (Z4 38 true (AAx rfl rfl (Z4 38 true (ABx rfl rfl (AAa rfl (Zk ?_)))))))))))))))));by_cases Az:(w64 ((Af.2.1.length:Int) + (Af.2.2.length:Int)))=0
     ·rw [decide_eq_true Az];refine Z4 48 true ?_;obtain ⟨Gl,D9,Ea⟩:=Zq (ifT Ck Az);refine ACa Ad (AC6 (HO.ext Ad.x) D9) fun Gm Gn Eb=>AAa rfl (Zu (Zx (ABg (AAd ?_))));obtain rfl:=Zm Ea;exact ⟨_,Zz,Eb.x,rfl⟩
     ·rw [decide_eq_false Az];refine AOx 48 false (Z1 rfl (Zu (Zx (ABg (AAd ?_)))));obtain rfl:=Zm (ifF Ck Az);exact ⟨_,Zz,Ad.x,rfl⟩
    ·rw [decide_eq_false Ay];refine ADf 38 false (AC8 38 false (Z1 rfl (Zk (AOx 48 false (Z1 rfl (Zu (Zx (ABg (AAd ?_)))))))));obtain rfl:=Zm (ifF Cj Ay);exact ⟨_,Zz,Ad.x,rfl⟩
   ·refine Zo (Zk ?_);obtain ⟨Gp,Ec,Cm⟩:=Zq (AFe Ci Bm);refine ACa Ad (Abi Ec) fun Gq Gr Ab=>ACr rfl (Zu (⟨_,rfl,fun Bn=>?_,fun Bn=>?_⟩))
    ·refine Zo (Zk (ABx rfl rfl (Zk ?_)));have Cn:=ifT Cm Bn;by_cases A3:Bi=20
     ·have Co:=ifT Cn A3;rw [decide_eq_true A3];refine Z4 57 true (ACd ALv rfl (Z4 57 true (AA7 AD6 rfl ((Ab.b p0).cell (i:=1) rfl) (Z4 57 true (AA6 AAg rfl (Ab.o2 p1).rd (Z4 57 true (ACd AHq rfl (Z4 57 true (AA7 AOf rfl ((Ab.b p0).cell (i:=2) rfl) (Z4 57 true (ABj AMs rfl (Ab.o p2).rd (Z4 57 true (AAx rfl rfl (Z4 57 true (ABx rfl rfl (AAa rfl (Zk ?_)))))))))))))))));by_cases A4:(w64 ((Af.2.1.length:Int) + (Af.2.2.length:Int)))=0
      ·rw [decide_eq_true A4];refine Z4 67 true ?_;obtain ⟨Gt,Ed,Ee⟩:=Zq (ifT Co A4);refine ACa Ab (AC6 (HO.ext Ab.x) Ed) fun Gu Gv Ef=>AAa rfl (Zu (Zx (ABg (AAd ?_))));obtain rfl:=Zm Ee;exact ⟨_,Zz,Ef.x,rfl⟩
      ·rw [decide_eq_false A4];refine AOx 67 false (Z1 rfl (Zu (Zx (ABg (AAd ?_)))));obtain rfl:=Zm (ifF Co A4);exact ⟨_,Zz,Ab.x,rfl⟩
     ·rw [decide_eq_false A3];refine ADf 57 false (AC8 57 false (Z1 rfl (Zk (AOx 67 false (Z1 rfl (Zu (Zx (ABg (AAd ?_)))))))));obtain rfl:=Zm (ifF Cn A3);exact ⟨_,Zz,Ab.x,rfl⟩
    ·refine Zw (q_b (q_t (Zo (Zk (ABx rfl rfl (Zk ?_))))));have Cp:=AFe Cm Bn;by_cases A5:Bi=0
     ·rw [decide_eq_true A5];refine Z4 72 true (Zk (Z4 72 true (ANn [(.int .i64 Af.1),Bj,Bl] AM3 rfl rfl (Ab.b p0).agg (Z4 72 true ?_))));obtain ⟨Eg,Eh,Cq⟩:=Zq (ifT Cp A5);refine ACa Ab (ANt (Am.ext Ab.x) (Ab.o2 p1).rd (Ab.o p2).rd Eh) fun Gw Gx Bo=>Z4 72 true (ABx rfl rfl (AAa rfl (Zk ?_)));by_cases A6:Eg=0
      ·rw [decide_eq_true A6];refine Z4 78 true ?_;obtain ⟨Gy,Ei,Ej⟩:=Zq (ifT Cq A6);refine ACa Bo (AC6 (HO.ext Bo.x) Ei) fun Gz G3 Ek=>AAa rfl (Zu (Zx ?_));obtain rfl:=Zm Ej;exact ⟨_,Zz,Ek.x,rfl⟩
      ·rw [decide_eq_false A6];refine AOx 78 false (Z1 rfl (Zu (Zx ?_)));obtain rfl:=Zm (ifF Cq A6);exact ⟨_,Zz,Bo.x,rfl⟩
     ·rw [decide_eq_false A5];refine AD0 72 false (Z1 rfl (Zk (AOx 78 false (Z1 rfl (Zu (Zx ?_))))));obtain rfl:=Zm (ifF Cp A5);exact ⟨_,Zz,Ab.x,rfl⟩
end Go.Proofs.YtdkldlbgcfpglaaGreatDoor
namespace Go.Proofs.YtdkldlbgcfpglaaGreatDoor
open Go Go.QF
set_option maxRecDepth 100000
theorem Asu {fuel K:Nat} {M:List (List Int)} {p:Int} {T:AAb} {L:List AGb} (R:AX7 M) (hp:Pr p) (Ad:2 < p) (Ab:p<=9973) (hj:AC5 fuel M p=some (K:Int)) (hq:p ^ K<=2147483647) (Ae:1<=K) (hl:L.length=M.length) (hJ:JC M.length K p (ent M) T L) (hg:2147483648 < fuel):AFz fuel M p (tab M.length M.length T) L=some 0:=by
 have hf:100 < fuel:=by omega
 unfold AFz;have hr:isRed M=true:=(AQ8 M).2 R;have ho:AVm p=true:=(AUj ⟨Ad,Ab,hp⟩).symm;simp only [AMk,AKo,Option.bind_some,hr,ho];rw [if_neg Zl,if_neg Zl,AAt,if_neg (fun h=>h rfl),if_neg (by rw [hl];exact fun h=>h rfl)];simp only [Option.bind_some];obtain ⟨ex,h1,h2⟩:=Akc (fuel:=fuel) (M:=M) (T:=tab M.length M.length T) (n:=M.length) rfl (by rw [AAt];exact R.1.2) hf;rw [h1];simp only [Option.bind_some];rcases h2 with ⟨rfl,h2⟩ | ⟨rfl,h2⟩
 ·simp only [];rw [hj];simp only [Option.bind_some];rw [Abv Zj hq hf];simp only [Option.bind_some];obtain ⟨c,h5,h6⟩:=Adg (fuel:=fuel) (A:=ent M) (T:=T) (L:=L) R.1.1 R.1.2 (show 2<=p by omega) Ab hq Ae hl hg;rw [<- AVq R] at h5;rw [h5];simp only [Option.bind_some];rw [h6.2 hJ];rfl
 ·exact absurd (fun i hi z hz=>by
    rw [AAt] at hi
    rw [AA1 hi] at hz
    cases hz
    exact AA2 _ _) h2
theorem AQc {c:Prop} [Decidable c] {α:Type} {a b:Option α} {R:α->Prop} (hc:c) (h:Ok a R):Ok (if c then a else b) R:=by rw [if_pos hc];exact h
theorem Ap4 {fuel:Nat} {M:List (List Int)} {p:Int} (hM:Ags M) (R:AX7 M) (hp:Pr p) (hp2:2 < p) (hp3:p<=9973) (hf:2147483648 < fuel):∃ T L,ACh fuel M p=some ((p,T,L),0)/\AFz fuel M p T L=some 0/\AC1 fuel M p T L=some 0:=by
  obtain ⟨K,E,T,G,L,h1,h2,h3,h4,h5,S,B⟩:=Avr R hp hp2 hp3 hf;have hv:=Asu R hp hp2 hp3 h2 h4 h3 B.len (Awq S B Zj h3) hf;obtain ⟨r,h6,h7⟩:=Al1 (p:=p) (T:=tab M.length M.length T) (L:=L) hM hf;rw [hv] at h6;cases h6;exact ⟨_,L,h1,hv,h7⟩
theorem AXa {g kd k raw:Int} {Z Y:List Int} {M:List (List Int)} {wild made:Bool} (hg:0<=g/\g < 256) (hk:0<=k/\k < 256) (hM:Ags M):AFd (AC3 + 1) g kd Z Y M k raw wild made=some true:=by
 have hf:AC3 < AC3 + 1:=Nat.lt_succ_self _;have Ad:100 < AC3 + 1:=Nat.lt_of_le_of_lt Zl hf;have Ah:2147483648 < AC3 + 1:=Nat.lt_of_le_of_lt Zl hf;apply ok_eq;unfold AFd;have aw:Ok (ABq (AC3 + 1)) (· =true):=⟨true,Aew,rfl⟩;refine Zr (Alr Ad) fun l hl=>AAh (fun _=>Zr aw fun x hx=>Zn hx) fun _=>?_
 have key:∀ M:List (List Int),Ags M->Ok ((AD4 (AC3 + 1) k raw wild).bind fun Ae=>((ACh (AC3 + 1) M Ae).bind fun (Aa,Ac)=>((AB4 (AC3 + 1) M).bind fun Ai=>(if (!Ai)=true then (if Ac=6 then (if (w64 ((Aa.2.1.length:Int) + (Aa.2.2.length:Int)))=0 then ((ABq (AC3 + 1)).bind fun Aj=>(some Aj)) else (some false)) else (some false)) else ((ASl (AC3 + 1) Ae).bind fun Ak=>(if (!Ak)=true then (if Ac=20 then (if (w64 ((Aa.2.1.length:Int) + (Aa.2.2.length:Int)))=0 then ((ABq (AC3 + 1)).bind fun Am=>(some Am)) else (some false)) else (some false)) else (if Ac=0 then ((AC1 (AC3 + 1) M Aa.1 Aa.2.1 Aa.2.2).bind fun Ao=>(if Ao=0 then ((ABq (AC3 + 1)).bind fun Ap=>(some Ap)) else (some false))) else (some false)))))))) (· =true):=fun M hM=>by
   refine Zr (Als hk) fun p _=>?_
   rw [Abp hM Ad]
   cases hr:isRed M with
   | false=>
     have e1:ACh (AC3 + 1) M p=some ((0,[],[]),6):=by unfold ACh AMk;rw [hr];rfl
     rw [e1]
     simp only [Option.bind_some]
     exact AQc (by first | exact trivial | rfl) (AQc (by first | exact trivial | rfl) (AQc (by first | exact trivial | rfl) (Zr aw fun x hx=>Zn hx)))
   | true=>
     cases ho:AVm p with
     | false=>
       have e1:ACh (AC3 + 1) M p=some ((0,[],[]),20):=by unfold ACh AMk AKo;rw [hr,ho];rfl
       rw [e1]
       simp only [Option.bind_some,ASl,ho]
       exact AAh (fun h=>absurd h Zl) fun _=>AQc (by first | exact trivial | rfl) (AQc (by first | exact trivial | rfl) (AQc (by first | exact trivial | rfl) (Zr aw fun x hx=>Zn hx)))
     | true=>
       obtain ⟨h1,h2,h3⟩:=Arw ho
       obtain ⟨T,L,e1,e2,e3⟩:=Ap4 hM ((AQ8 M).1 hr) h3 h1 h2 Ah
       rw [e1]
       simp only [Option.bind_some,ASl,ho]
       refine AAh (fun h=>absurd h Zl) fun _=>AAh (fun h=>absurd h Zl) fun _=>AQc (by first | exact trivial | rfl) ?_
       rw [e3]
       simp only [Option.bind_some]
       exact AQc (by first | exact trivial | rfl) (Zr aw fun x hx=>Zn hx)
 refine AAh (fun _=>Zr (Au6 hg Zl hf) fun h hh=>?_) fun _=>key M hM;obtain ⟨n,A,rfl,h1,h2,R,-⟩:=hh;exact key _ (Api Zj R)
end Go.Proofs.YtdkldlbgcfpglaaGreatDoor
