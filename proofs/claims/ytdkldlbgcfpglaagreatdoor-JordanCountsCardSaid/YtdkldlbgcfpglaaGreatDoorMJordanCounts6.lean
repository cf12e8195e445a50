/-
  Texts of a proof, joined. Conditions stand in each statement.
-/
import Derived.Test.YtdkldlbgcfpglaaGreatDoorMJordanCounts5
set_option linter.unusedVariables false
set_option linter.unusedSimpArgs false
namespace Go.Proofs.YtdkldlbgcfpglaaGreatDoor
open Go Go.QF
set_option maxRecDepth 100000
theorem AZn {c:Prop} [Decidable c] {α:Type} {a b:Option α} {R:α->Prop} (hc:c) (h:Ok a R):Ok (if c then a else b) R:=by rw [if_pos hc];exact h
theorem As1 (n:Nat) (h2:2<=n) (h:((List.range n).all fun d=>decide (d < 2) || decide (n % d≠0))=true):Pr (n:Int):=⟨Zj,fun d h3 h4=>by
  have h5:=List.all_eq_true.1 h d.toNat (List.mem_range.2 Zj)
  rw [Bool.or_eq_true,decide_eq_true_eq,decide_eq_true_eq] at h5
  rcases h5 with h5 | h5
  · omega
  · intro h6
    apply h5
    have:((n % d.toNat:Nat):Int)=0:=by rw [Int.natCast_emod,Int.toNat_of_nonneg Zj,h6]
    omega⟩
theorem pr8 (n:Nat) (h2:2<=n) (h:((List.range n).all fun d=>decide (d < 2) || decide (n % d≠0))=true) (h3:2 < n) (h4:n<=23):Pr (n:Int)/\2 < (n:Int)/\(n:Int)<=23:=⟨As1 n h2 h,Zj,Zj⟩
theorem Af9 {fuel:Nat} {k:Int} (hk:0<=k/\k < 256):Ok (AEn fuel k) fun p=>Pr p/\2 < p/\p<=23:=by
 unfold AEn;obtain ⟨q,h1,h2⟩:=Agg k 8 hk.1 Zl;refine AAv (n:=q) (List.getElem?_eq_getElem (by exact h2)) h1 (Zq ?_);rcases (by omega:q=0∨q=1∨q=2∨q=3∨q=4∨q=5∨q=6∨q=7) with rfl | rfl | rfl | rfl | rfl | rfl | rfl | rfl
 ·exact pr8 3 Zl (by decide +kernel) Zl Zl
 ·exact pr8 5 Zl (by decide +kernel) Zl Zl
 ·exact pr8 7 Zl (by decide +kernel) Zl Zl
 ·exact pr8 11 Zl (by decide +kernel) Zl Zl
 ·exact pr8 13 Zl (by decide +kernel) Zl Zl
 ·exact pr8 17 Zl (by decide +kernel) Zl Zl
 ·exact pr8 19 Zl (by decide +kernel) Zl Zl
 ·exact pr8 23 Zl (by decide +kernel) Zl Zl
end Go.Proofs.YtdkldlbgcfpglaaGreatDoor
namespace Go.Proofs.YtdkldlbgcfpglaaGreatDoor
open Go Go.QF
set_option maxRecDepth 100000
set_option maxHeartbeats 4000000
def AIi (fuel:Nat) (a3 Ab Ac Ad:Int):Option ((Int × Int × Int) ⊕ ((Int))):=
  (if 0 < Ac then (((((if (Int.tmod Ac 2)=1 then (if a3≠0 then (some ( (Int.tmod (w64 (Ad * Ab)) a3))) else none) else (some ( Ad))):Option ((Int))).bind (fun (Ae:Int)=>(if a3≠0 then (some ( ((Int.tmod (w64 (Ab * Ab)) a3),Ae))) else none))):Option ((Int × Int))).bind (fun ((Af,Ag):Int × Int)=>(some (Sum.inl (Af,(w64 (Int.tdiv Ac 2)),Ag))))) else (some (Sum.inr<| Ad)))
def AFj (fuel:Nat) (a1 a2 a3:Int):Option Int:=
  (if a3≠0 then ((AFn fuel a1 a3).bind fun x4=>((iter (fun s=>AIi fuel a3 s.1 s.2.1 s.2.2) fuel (x4,a2,(Int.tmod 1 a3))).bind (fun (Ae:Int)=>(some Ae)))) else none)
theorem AP8 {fuel:Nat} {h:Zs} {a1 a2 a3 r:Int} (hp:AFj fuel a1 a2 a3=some r):AAs Tryz.prog 56 #[(.int .i64 a1),(.int .i64 a2),(.int .i64 a3)] h (fun x h'=>Ext h h'/\x= .int .i64 r):=by
 unfold AFj at hp;refine cwf (l:=[_,_,_]) Tryz.func56 rfl rfl (Zn (AA3 (Zk ?_)));obtain ⟨Am,Ao⟩:=ifN hp;refine ADo rfl rfl Am (Zv (Zo (Zn (Zk (Zk ?_)))));obtain ⟨x6,Ap,Aq⟩:=Zp Ao;refine ADk (Kst.k0 h) (ASj Ap) fun Bc E9 Ai=>Zv (Zt (AHm 1073733763 Aq (fun x=>[(0,(.int .i64 x.1)),(1,(.int .i64 x.2.1)),(7,(.int .i64 x.2.2))]) (fun x=>Ai.L) Ai ⟨rfl,rfl,rfl,trivial⟩ ?_));rintro ⟨Ac,Bf,Aj⟩ Bg Bh Bi Aa Ad Ar;unfold AIi at Ad;refine Zo (Zn (Zk (AGz rfl rfl (Zr (⟨_,rfl,fun Ae=>?_,fun Ae=>?_⟩)))))
 ·refine Zx (q_t ?_);obtain ⟨Au,Av,Aw⟩:=Zp (AA7 Ad Ae);refine AI8 1073610881 (fun x:(Int) × (Int)=>[(0,(.int .i64 x.1)),(7,(.int .i64 x.2))]) (fun x h'=>( (x.1,x.2))=Au/\Kst h h' (Aa.L)) ?_ ?_
  ·refine Zt ?_;obtain ⟨Ax,Ak,Ay⟩:=Zp Av;refine AI8 33423488 (fun x:(Int)=>[(7,(.int .i64 x))]) (fun x h'=>( x)=Ax/\Kst h h' (Aa.L)) ?_ ?_
   ·refine Zn (Zk (ADo rfl rfl Zl (ACc rfl rfl (Zr (⟨_,rfl,fun Af=>?_,fun Af=>?_⟩)))))
    ·refine Z1 (Zk (Zk (AK2 rfl rfl (Zk ?_))));obtain ⟨Az,A3⟩:=ifN (AA7 Ak Af);refine ADo rfl rfl Az (Zv ?_);exact ⟨((Int.tmod (w64 (Aj * Ac)) a3):(Int)),⟨Zm A3,Aa⟩,rfl,trivial⟩
    ·refine Zx (q_t ?_);exact ⟨(Aj:(Int)),⟨Zm (AA8 Ak Af),Aa⟩,rfl,trivial⟩
   rintro A4 Bj Bl ⟨A5,A6⟩;subst A5;refine Z1 (Zk (Zk (AK2 rfl rfl (Zk ?_))));obtain ⟨A7,A8⟩:=ifN Ay;refine ADo rfl rfl A7 (AAi (AAh (q_b (q_t ?_))));exact ⟨(((Int.tmod (w64 (Ac * Ac)) a3),A4):(Int) × (Int)),⟨Zm A8,A6⟩,rfl,rfl,trivial⟩
  rintro ⟨Bm,Bn⟩ Bo Bp ⟨A9,Ba⟩;subst A9;refine Z1 (Zk (AP9 rfl rfl Zl (Zv ?_)));exact ⟨_,(Zm Aw).symm,Ba,rfl,rfl,rfl,trivial⟩
 ·refine AAe (AAf (AAf (ABk (q_t (Zn (Zk (Zv (Zy ?_))))))));obtain rfl:=Zm (Ar _ (Zm (AA8 Ad Ae)).symm);exact ⟨_,Zz,Aa.x,rfl⟩
def AEp (fuel:Nat) (a1 a2:Int):Option Int:=
  ((AFj fuel a1 (w64 (Int.tdiv (w64 (a2 - 1)) 2)) a2).bind fun x3=>(if x3=0 then (some 0) else (if x3=1 then (some 1) else (some (-1)))))
theorem AO4 {fuel:Nat} {h:Zs} {a1 a2 r:Int} (hp:AEp fuel a1 a2=some r):AAs Tryz.prog 22 #[(.int .i64 a1),(.int .i64 a2)] h (fun x h'=>Ext h h'/\x= .int .i64 r):=by
 unfold AEp at hp;refine cwf (l:=[_,_]) Tryz.func22 rfl rfl (Zn (Zv (Zo (Zn (Zk (Zk (AE4 rfl rfl (AP9 rfl rfl Zl (Zk ?_)))))))));obtain ⟨x3,Ah,Af⟩:=Zp hp;refine ADk (Kst.k0 h) (AP8 Ah) fun h7 E6 Aa=>Zr (Zt (Zn (ACc rfl rfl (Zv (⟨_,rfl,fun Ab=>?_,fun Ab=>?_⟩)))))
 ·refine Zn (Zv (Zy (ABp (AAc ?_))));obtain rfl:=Zm (AA7 Af Ab);exact ⟨_,Zz,Aa.x,rfl⟩
 ·refine Zn (ACc rfl rfl (Zv ?_));have Ag:=AA8 Af Ab;refine ⟨_,rfl,fun Ac=>?_,fun Ac=>?_⟩
  ·refine Zn (Zv (Zy (ABp (AAc ?_))));obtain rfl:=Zm (AA7 Ag Ac);exact ⟨_,Zz,Aa.x,rfl⟩
  ·refine Zx (q_b (q_t (Zn (Zv (Zy ?_)))));obtain rfl:=Zm (AA8 Ag Ac);exact ⟨_,Zz,Aa.x,rfl⟩
def AJt (fuel:Nat) (a2 Ab:Int):Option ((Int) ⊕ ((Int))):=
  (((if ¬ Ab=0 then (if a2≠0 then (if (Int.tmod Ab a2)=0 then (some (Sum.inl <| ())) else (some (Sum.inr <| ()))) else none) else (some (Sum.inr <| ()))):Option ((Unit) ⊕ (Unit))).bind (fun ex=>match ex with | Sum.inl _=>(if a2≠0 then (some (Sum.inl (w64 (Int.tdiv Ab a2)))) else none) | Sum.inr (_)=>(some (Sum.inr<| Ab))))
def AGe (fuel:Nat) (a1 a2:Int):Option Int:=
  ((iter (fun s=>AJt fuel a2 s) fuel a1).bind (fun (Ac:Int)=>(some Ac)))
theorem ARt {fuel:Nat} {h:Zs} {a1 a2 r:Int} (hp:AGe fuel a1 a2=some r):AAs Tryz.prog 23 #[(.int .i64 a1),(.int .i64 a2)] h (fun x h'=>Ext h h'/\x= .int .i64 r):=by
 unfold AGe at hp;refine cwf (l:=[_,_]) Tryz.func23 rfl rfl (Zn (Zv (Zo (Zt ?_))));have K0:=Kst.k0 h;refine AHm 65505 hp (fun x=>[(0,(.int .i64 x))]) (fun x=>K0.L) K0 ⟨rfl,trivial⟩ ?_;rintro u9 Aw h6 y5 K8 Ah Ai;unfold AJt at Ah;obtain ⟨Ao,Aj,Ac⟩:=Zp Ah;refine AI8 8160 (fun x:Unit=>[]) (fun x h'=>(Sum.inl <| ())=Ao/\Kst h h' (K8.L)) ?_ ?_
 ·refine Zn (Zk (ADc rfl rfl (Zk ?_)));by_cases Ab: ¬ u9=0
  ·rw [decide_eq_true Ab];refine AAk 7 true (Zk (AAk 7 true (Zk (AAk 7 true ?_))));obtain ⟨Ap,Ak⟩:=ifN (ifT Aj Ab);refine ADo rfl rfl Ap (AAk 7 true (ACc rfl rfl (AAd rfl (Zr (⟨_,rfl,fun Ad=>?_,fun Ad=>?_⟩)))))
   ·refine Zx (q_t ?_);exact ⟨(():Unit),⟨Zm (AA7 Ak Ad),K8⟩,trivial⟩
   ·obtain rfl:=Zm (AA8 Ak Ad);refine AAe (AAf (AAf (ABk (q_t (Zn (Zk (Zv (Zy ?_))))))));obtain rfl:=Zm (Ai _ (Zm Ac).symm);exact ⟨_,Zz,K8.x,rfl⟩
  ·rw [decide_eq_false Ab];refine APd 7 false (AAo rfl (Zr (AAq rfl ?_)));obtain rfl:=Zm (ifF Aj Ab);refine AAe (AAf (AAf (ABk (q_t (Zn (Zk (Zv (Zy ?_))))))));obtain rfl:=Zm (Ai _ (Zm Ac).symm);exact ⟨_,Zz,K8.x,rfl⟩
 rintro ⟨⟩ Az A3 ⟨Aq,Ar⟩;subst Aq;refine Zt (Z1 (Zk (Zk ?_)));obtain ⟨Au,Av⟩:=ifN Ac;refine AP9 rfl rfl Au (AAi (AAh (q_b (q_t ?_))));exact ⟨_,(Zm Av).symm,Ar,rfl,trivial⟩
noncomputable def ADu (fuel:Nat) (Ac:(List AH8)) (Ad Ae Af Ab:Int):Option ((Int × Int × Int × Int) ⊕ ((Int × Int × Int))):=
  (if Ab < (Ac.length:Int) then ((gI Ac Ab).bind fun Aa=>(some (Sum.inl ((w64 (Ad + Aa.2.1)),(w64 (Ae + (w64 (Aa.2.1 * Aa.1)))),(w64 (Af * Aa.2.2.1)),(w64 (Ab + 1)))))) else (some (Sum.inr<| (Ad,Ae,Af))))
noncomputable def AEt (fuel:Nat) (a1 a2:Int) (a5 a9:LiA) (Ai:Int):Option Bool:=
  ((ADn fuel a1 a2 a5 a9 8).bind fun Ab=>((AEn fuel Ai).bind fun Aa=>((AHt fuel Ab Aa).bind fun (Ac,Aj)=>((ADl fuel Ac.1 Ac.2.1 Ac.2.2).bind fun (Ak,Am)=>(((if ¬ Aj=0 then (some (Sum.inl <| false)) else (if (!Am)=true then (some (Sum.inl <| false)) else (some (Sum.inr <| ())))):Option ((Bool) ⊕ (Unit))).bind (fun ex=>match ex with | Sum.inl Ao=>(some Ao) | Sum.inr (_)=>((iter (fun s=>ADu fuel Ak s.1 s.2.1 s.2.2.1 s.2.2.2) fuel (0,0,1,0)).bind (fun ((Ap,Aq,Ar):Int × Int × Int)=>((AFm fuel Ab).bind fun Ad=>(if Ap=(Ab.length:Int) then ((ADh fuel Ad Aa).bind fun Au=>(if Aq=Au then ((AGe fuel Ad Aa).bind fun Av=>((AEp fuel Av Aa).bind fun Aw=>(if Ar=Aw then ((AFw fuel).bind fun Ax=>(some Ax)) else (some false)))) else (some false))) else (some false)))))))))))
theorem ANf {fuel:Nat} {h:Zs} {a1 a2:Int} {Ag:Value} {a5:LiA} {Ah:Value} {a9:LiA} {A9:Int} {r:Bool} (H4:SlC (cI .i8) h Ag a5) (H8:SlC (cI .i8) h Ah a9) (HO:AS8 h) (hp:AEt fuel a1 a2 a5 a9 A9=some r):AAs Tryz.prog 6 #[(.agg #[(.int .u8 a1),(.int .u8 a2),Ag,Ah]),(.int .u8 A9)] h (fun x h'=>Ext h h'/\x= .bool r):=by
 unfold AEt at hp;refine cwf (l:=[_,_]) Tryz.func6 rfl rfl (Zn (AHg (Kst.k0 h) [(.int .u8 a1),(.int .u8 a2),Ag,Ah] fun C6 C7 C8 Ai=>AA3 (AMo [(.int .u8 a1),(.int .u8 a2),Ag,Ah] Al4 rfl rfl (Ai.b p0).agg ?_)));obtain ⟨Bp,Bq,Br⟩:=Zp hp;refine ANo Ai (ANt (H4.ext Ai.x) (H8.ext Ai.x) Bq) fun C9 Da Db Dc Dd De Bt=>Zk ?_;obtain ⟨Df,Bu,Bv⟩:=Zp Br;refine ADk Bt (AOz Bu) fun Dg Dh Au=>AAi (AA3 (Zk (Zk ?_)));obtain ⟨⟨Aj,Bw⟩,Bx,Ba⟩:=Zp Bv;dsimp only at Ba;refine AMx rfl (ASx (Au.o2 p0).rd (HO.ext Au.x) Bx) fun Di Dj By Bz=>?_;obtain ⟨Av,Aw,B1,B3,B4,B5,rfl,B6,B7,B8⟩:=Bz;have Bb:=Au.n By [aO2 (cI .i64) 60 2 B1 B3 B4 Av Aj.2.1,aO AR1 59 B5 Aw Aj.2.2] B8 ⟨B6,B7,trivial⟩;simp only [List.cons_append,List.nil_append] at Bb;refine Zk (ABj rfl rfl (ABj rfl rfl (ACx Bb [(.int .i64 0),(.slice none 0 0),(.slice none 0 0)] Abd fun Dk Dl Do Ak=>AB3 [(.int .i64 Aj.1),Av,Aw] AMu rfl rfl rfl rfl (AIm rfl (AIm (Ak.o2 p1).isOne (AIm (Ak.o p2).isOne AT3))) (Ak.b p0) fun Dp B9 Ca=>AA3 ?_)));have Aa:=Ak.sb p0 Ca B9 rfl;refine AMo [(.int .i64 Aj.1),Av,Aw] AMu rfl rfl (Aa.b p0).agg ?_;obtain ⟨⟨Dq,Dr⟩,Cb,Bc⟩:=Zp Ba;dsimp only at Bc;refine AMx rfl (AL1 (Aa.o2 p1).rd (Aa.o p2).rd (HO.ext Aa.x) Cb) fun Ds Dt Cd Ce=>?_;obtain ⟨Du,Dv,rfl,Cf,Cg⟩:=Ce;refine Zk (ABj rfl rfl (ABj rfl rfl (AAi (Zv ?_))));have Am:=Aa.no Cd Cg Cf;obtain ⟨Ch,Be,Ax⟩:=Zp Bc;refine AI8 270582939664 (fun x:Unit=>[]) (fun x h'=>(Sum.inr <| ())=Ch/\Kst h h' (AFy Am.L [0,4])) ?_ ?_
 ·refine Zn (Zk (ADc rfl rfl (Zk ?_)));by_cases Ao: ¬ Bw=0
  ·rw [decide_eq_true Ao];refine AHi 34 true (AAd rfl (Zr (AAl rfl (Zn (Zv ?_)))));obtain rfl:=Zm (ifT Be Ao);refine Zy (AAc ?_);obtain rfl:=Zm Ax;exact ⟨_,Zz,Am.x,rfl⟩
  ·have Bf:=ifF Be Ao;rw [decide_eq_false Ao];refine AAk 34 false (Zk (AAk 34 false (ADp rfl (AAo rfl (Zr (⟨_,rfl,fun Ay=>?_,fun Ay=>?_⟩))))))
   ·refine Zn (Zv ?_);obtain rfl:=Zm (ifT Bf Ay);refine Zy (AAc ?_);obtain rfl:=Zm Ax;exact ⟨_,Zz,Am.x,rfl⟩
   ·refine Zx (q_t ?_);exact ⟨(():Unit),⟨Zm (AH9 Bf Ay),Am.sel [0,4] Zl⟩,trivial⟩
 rintro ⟨⟩ Dw Dx ⟨Ci,Az⟩;subst Ci;refine Zn (AAi (AAi (Zv (Zo (Zn (Zk (ABr ASr rfl (Az.o p0).rd (Zk (Zr (Zt (AHm 1152920405095266304 Ax (fun x=>[(11,(.int .i64 x.1)),(12,(.int .i64 x.2.1)),(13,(.int .i64 x.2.2.1)),(40,(.int .i64 x.2.2.2))]) (fun x=>Az.L) Az ⟨rfl,rfl,rfl,rfl,trivial⟩ ?_)))))))))));rintro ⟨Cj,Ck,Cm,Dy⟩ Dz D0 D1 Ab A3 Cn;unfold ADu at A3;refine Zn (AAy rfl rfl (Zr (Zo (⟨_,rfl,fun A4=>?_,fun A4=>?_⟩))))
 ·refine Zx (q_t (Zo (Zt (Zn ?_))));obtain ⟨Ac,Bg,Co⟩:=Zp (AA7 A3 A4);refine AW8 ASr rfl (Ab.o p0) rfl Bg fun D2 Cp=>?_;obtain ⟨D3,Cq,Cr⟩:=(Ab.o p0).cells Cp Bg;obtain rfl:=Cq;refine ANh (c:=AN1) Abc rfl rfl (fun j u hu=>(Cr j u hu)) (ACx Ab [(.int .i64 0),(.int .i64 0),(.int .i64 0),(.bool false),(.int .i64 0)] Abe fun D4 D5 D6 Bh=>AB3 [(.int .i64 Ac.1),(.int .i64 Ac.2.1),(.int .i64 Ac.2.2.1),(.bool Ac.2.2.2.1),(.int .i64 Ac.2.2.2.2)] Abc rfl rfl rfl rfl (by simp [isOne]) (Bh.b p0) fun D7 Ct Cu=>AHj ?_);have Ad:=Bh.sb p0 Cu Ct rfl;refine Zk (AEy AXq ABt (Ad.b p0) 1 rfl (AAz rfl rfl (AA3 (Zk (AEy AXq ABt (Ad.b p0) 1 rfl (AEy An5 ABt (Ad.b p0) 0 rfl (AK2 rfl rfl (AAz rfl rfl (Zv (Z1 (Zk (AEy Abf ABt (Ad.b p0) 2 rfl (AK2 rfl rfl (AAi (AAh (q_b (q_t (Z1 (AAz rfl rfl (Zk (Zr ?_)))))))))))))))))))));exact ⟨_,(Zm Co).symm,Ad.sel [1,2] Zl,rfl,rfl,rfl,rfl,trivial⟩
 ·refine AAe (AAf (AAf (ABk (q_t (Zn (Zk ?_))))));obtain ⟨D8,Cv,Bi⟩:=Zp (Cn _ (Zm (AA8 A3 A4)).symm);refine ADk Ab (ASi (Ab.o2 p1).rd Cv) fun D9 Ea A5=>AA3 (Zk (Zk (ABe AAn rfl (A5.o2 p1).rd (ACc rfl rfl (Zk ?_)))));by_cases Ap:Cj=(Bp.length:Int)
  ·rw [decide_eq_true Ap];refine AAk 66 true (Zk (AAk 66 true (Zk (AAk 66 true (Zk (AAk 66 true ?_))))));obtain ⟨Cw,Cx,Bj⟩:=Zp (ifT Bi Ap);refine ADk A5 (AOy Cx) fun Eb Ec Bl=>AAk 66 true (ACc rfl rfl (AAd rfl (Zk ?_)));by_cases Aq:Ck=Cw
   ·rw [decide_eq_true Aq];refine AAk 73 true (Zk (AAk 73 true (Zk (AAk 73 true (Zk (AAk 73 true ?_))))));obtain ⟨Ed,Cy,Cz⟩:=Zp (ifT Bj Aq);refine ADk Bl (ARt Cy) fun Ee Ef C0=>AAk 73 true (Zk (AAk 73 true ?_));obtain ⟨C1,C2,Bm⟩:=Zp Cz;refine ADk C0 (AO4 C2) fun Eg Eh A6=>AAk 73 true (ACc rfl rfl (AAd rfl (Zk ?_)));by_cases Ar:Cm=C1
    ·rw [decide_eq_true Ar];refine AAk 82 true ?_;obtain ⟨Ei,C3,C4⟩:=Zp (ifT Bm Ar);refine ADk A6 (AQ2 (HO.ext A6.x) C3) fun Ej Ek C5=>AAd rfl (Zv (Zy ?_));obtain rfl:=Zm C4;exact ⟨_,Zz,C5.x,rfl⟩
    ·rw [decide_eq_false Ar];refine AW7 82 false (AAo rfl (Zv (Zy ?_)));obtain rfl:=Zm (ifF Bm Ar);exact ⟨_,Zz,A6.x,rfl⟩
   ·rw [decide_eq_false Aq];refine AE5 73 false (AHi 73 false (AAo rfl (Zk (AW7 82 false (AAo rfl (Zv (Zy ?_)))))));obtain rfl:=Zm (ifF Bj Aq);exact ⟨_,Zz,Bl.x,rfl⟩
  ·rw [decide_eq_false Ap];refine AE5 66 false (AAo rfl (Zk (AE5 73 false (AHi 73 false (AAo rfl (Zk (AW7 82 false (AAo rfl (Zv (Zy ?_))))))))));obtain rfl:=Zm (ifF Bi Ap);exact ⟨_,Zz,A5.x,rfl⟩
end Go.Proofs.YtdkldlbgcfpglaaGreatDoor
namespace Go.Proofs.YtdkldlbgcfpglaaGreatDoor
open Go Go.QF
set_option maxRecDepth 100000
theorem As2 {fuel:Nat} {a m:Int} (hm:0 < m) (Aa:m<=2147483647):AFn fuel a m=some (a % m):=Ar3 hm Aa
theorem Anh {p b:Int} (k:Nat):b ^ k=(b * b) ^ (k / 2) * b ^ (k % 2):=by
 have e:b * b=b ^ 2:=by rw [Int.pow_succ,Int.pow_succ,Int.pow_zero,Int.one_mul]
 rw [e,<- Int.pow_mul,<- Int.pow_add];congr 1;omega
theorem Ani {fuel:Nat} {a p:Int} {k:Nat} (hp:2<=p) (Af:p<=9973) (hk:k<=10000) (hf:100000 < fuel):AFj fuel a (k:Int) p=some (a ^ k % p):=by
 apply ok_eq;unfold AFj;refine ABs Zj ?_;rw [As2 Zj Zj];simp only [Option.bind_some];refine Zu (ATs (fun s:Int × Int × Int=> ∃ (b c:Int) (j:Nat),s=(b,(j:Int),c)/\(0<=b/\b < p)/\(0<=c/\c < p)/\j<=10000/\Eqm p (c * b ^ j) (a ^ k)) (fun s=>s.2.1.toNat) (Q:=fun e:Int=>e=a ^ k % p) (fun s hI=>?_) ⟨a % p,Int.tmod 1 p,k,rfl,AO3 Zj a,?_,hk,?_⟩ (by show (k:Int).toNat < fuel;omega)) fun e he=>Zq he
 ·obtain ⟨b,c,j,rfl,hb,hc,hj,hI⟩:=hI;unfold AIi;dsimp only;have hbb:0<=b * b/\b * b<=9973 * 9973:=⟨Int.mul_nonneg hb.1 hb.1,Int.mul_le_mul Zj Zj hb.1 Zl⟩;have hcb:0<=c * b/\c * b<=9973 * 9973:=⟨Int.mul_nonneg hc.1 hb.1,Int.mul_le_mul Zj Zj hb.1 Zl⟩;have Ad:Int.tmod (j:Int) 2=((j % 2:Nat):Int):=by rw [Int.tmod_eq_emod_of_nonneg Zj];omega
  have Ae:w64 (Int.tdiv (j:Int) 2)=((j / 2:Nat):Int):=by rw [Int.tdiv_eq_ediv_of_nonneg Zj,wk Zj];omega
  refine AAw (fun h=>?_) fun h=>Zq ?_
  ·rw [Ad,Ae,ACf (x:=c * b) Zj Zj,ACf (x:=b * b) Zj Zj,Int.tmod_eq_emod_of_nonneg (a:=c * b) Zj,Int.tmod_eq_emod_of_nonneg (a:=b * b) Zj];have hh:=Anh (p:=p) (b:=b) j;refine Zu (Q:=fun r:Int × Int=>r.1=b * b % p/\(0<=r.2/\r.2 < p)/\Eqm p (r.2 * (b * b) ^ (j / 2)) (c * b ^ j)) (Zu (Q:=fun c':Int=>(0<=c'/\c' < p)/\Eqm p (c' * (b * b) ^ (j / 2)) (c * b ^ j)) (AAw (fun h1=>ABs Zj (Zq ⟨AO3 Zj _,?_⟩)) fun h1=>Zq ⟨hc,?_⟩) fun c' hc'=>ABs Zj (Zq ⟨rfl,hc'⟩)) fun r hr=>?_
   ·refine ((Eqm.mod p (c * b)).mul (Eqm.refl _ _)).trans (Eqm.of_eq ?_);rw [hh,show j % 2=1 by omega,Int.pow_succ,Int.pow_zero,Int.one_mul];grind
   ·refine Eqm.of_eq ?_;rw [hh,show j % 2=0 by omega,Int.pow_zero,Int.mul_one]
   ·obtain ⟨b',c'⟩:=r;obtain ⟨h1,h2,h3⟩:=hr;dsimp only at h1 h2 h3 ⊢;refine Zq ⟨⟨b',c',j / 2,rfl,h1 ▸ AO3 Zj _,h2,Zj,?_⟩,?_⟩
    ·refine Eqm.trans ((Eqm.refl p c').mul ?_) (h3.trans hI);rw [h1]
     have:∀ m:Nat,Eqm p ((b * b % p) ^ m) ((b * b) ^ m):=fun m=>by
       induction m with
       | zero=>exact Eqm.of_eq (by rw [Int.pow_zero,Int.pow_zero])
       | succ m ih=>rw [Int.pow_succ,Int.pow_succ];exact ih.mul (Eqm.mod _ _)
     exact this _
    ·show (((j / 2:Nat):Int)).toNat < ((j:Int)).toNat;omega
  ·obtain rfl:j=0:=by omega
   rw [Int.pow_zero,Int.mul_one] at hI;rw [<- hI,Int.emod_eq_of_lt hc.1 hc.2]
 ·rw [Int.tmod_eq_emod_of_nonneg Zl];exact AO3 Zj _
 ·rw [Int.tmod_eq_emod_of_nonneg Zl]
  have:∀ m:Nat,Eqm p ((a % p) ^ m) (a ^ m):=fun m=>by
    induction m with
    | zero=>exact Eqm.of_eq (by rw [Int.pow_zero,Int.pow_zero])
    | succ m ih=>rw [Int.pow_succ,Int.pow_succ];exact ih.mul (Eqm.mod _ _)
  refine ((Eqm.mod p 1).mul (this k)).trans (Eqm.of_eq (Int.one_mul _))
theorem Aga {fuel:Nat} {a p:Int} (hp:OPr p) (Aa:p<=9973) (hf:100000 < fuel):AEp fuel a p=some (lg p a):=by
 have h3:=hp.three;have h2:=hp.2;unfold AEp
 have e:w64 (Int.tdiv (w64 (p - 1)) 2)=(((p - 1) / 2).toNat:Int):=by
   rw [ACf (x:=p - 1) Zj Zj,Int.tdiv_eq_ediv_of_nonneg Zj,wk Zj];omega
 rw [e,Ani Zj Aa Zj hf];simp only [Option.bind_some];unfold lg;split
 ·rfl
 ·split <;> rfl
theorem As3 {fuel:Nat} {d p r:Int} {e:Nat} (hp:2<=p) (hd:d=r * p ^ e) (hr: ¬ p ∣ r) (Aa:0 < r) (Ag:d<=10000) (hf:100 < fuel):AGe fuel d p=some r:=by
 apply ok_eq;have hpe:∀ k:Nat,0 < p ^ k:=fun k=>Int.pow_pos Zj
 have he:e<=30:=AV1 (p:=p) hp (by
   have:1 * p ^ e<=r * p ^ e:=Int.mul_le_mul_of_nonneg_right Zj (Int.le_of_lt (hpe e))
   omega)
 unfold AGe;refine Zu (ABd (fun i s=>i<=e/\s=r * p ^ (e - i)) e (Q:=fun x:Int=>x=r) ⟨Nat.zero_le _,by rw [hd,Nat.sub_zero]⟩ Zj fun i s hi hI=>?_) fun x hx=>Zq hx;obtain ⟨hie,rfl⟩:=hI;have h0:0 < r * p ^ (e - i):=Int.mul_pos Aa (hpe _)
 have hle:r * p ^ (e - i)<=10000:=by
   have h1:p ^ (e - i)<=p ^ e:=ALn Zj Zj
   have:=Int.mul_le_mul_of_nonneg_left h1 (Int.le_of_lt Aa)
   omega
 unfold AJt;rcases Nat.lt_or_ge i e with h | h
 ·have e1:r * p ^ (e - i)=p * (r * p ^ (e - (i + 1))):=by
    rw [show e - i=e - (i + 1) + 1 by omega,Int.pow_succ];grind
  have hm:Int.tmod (r * p ^ (e - i)) p=0:=by rw [e1];exact Int.mul_tmod_right _ _
  rw [if_pos Zj,if_pos Zj,if_pos hm];simp only [Option.bind_some];refine ABs Zj (Zq ⟨h,h,?_⟩);rw [e1,Int.mul_tdiv_cancel_left _ Zj,ACf ?_ ?_]
  ·have:=Int.mul_pos Aa (hpe (e - (i + 1)));omega
  ·have h2:=Int.mul_pos Aa (hpe (e - (i + 1)));have h3:1 * (r * p ^ (e - (i + 1)))<=p * (r * p ^ (e - (i + 1))):=Int.mul_le_mul_of_nonneg_right Zj Zj;omega
 ·have h5:r * p ^ (e - i)=r:=by rw [show e - i=0 by omega,Int.pow_zero,Int.mul_one]
  rw [h5] at h0 ⊢;rw [if_pos Zj,if_pos Zj,if_neg fun h6=>hr (Int.dvd_of_tmod_eq_zero h6)];exact Zq rfl
theorem Ah1 {s:Int} (h:s=1∨s= -1):w64 (0 - s)= -s/\(-s=1∨ -s= -1):=by rcases h with rfl | rfl <;> decide
theorem Anj {fuel:Nat} {a n T:Int} (hT:AZd T 1 a n) (ha:0<=a) (Am:a<=2147483647) (Ao:n<=2147483647) (hf:2147483648 < fuel):ALk fuel a n=some T:=by
 apply ok_eq;unfold ALk;have Az:=Ad2 hT;refine Zu (Q:=fun e:Int × Int=>T=if e.1=1 then e.2 else 0) (ATs (fun s:Int × Int × Int=>AZd T s.2.2 s.1 s.2.1/\0<=s.1/\s.1<=2147483647/\s.2.1<=2147483647/\(s.2.2=1∨s.2.2= -1)) (fun s=>s.1.toNat) (fun s hI=>?_) ⟨hT,ha,Am,Ao,.inl rfl⟩ (by show a.toNat < fuel;omega)) fun e he=>?_
 ·obtain ⟨a,n,s⟩:=s;obtain ⟨h1,h2,h3,h4,h5⟩:=hI;have hn:=Ad2 h1;unfold ANd;dsimp only at h1 h2 h3 h4 h5 hn ⊢;refine AAw (fun h0=>?_) fun h0=>Zq ?_
  ·refine Zu (Q:=fun e:Int × Int=>AZd T e.2 e.1 n/\0 < e.1/\e.1<=a/\e.1 % 2=1/\(e.2=1∨e.2= -1)) (ATs (fun s:Int × Int=>AZd T s.2 s.1 n/\0 < s.1/\s.1<=a/\(s.2=1∨s.2= -1)) (fun s=>s.1.toNat) (fun s hI=>?_) ⟨h1,Zj,Int.le_refl _,h5⟩ (by show a.toNat < fuel;omega)) fun e he=>?_
   ·obtain ⟨b,t⟩:=s;obtain ⟨g1,g2,g3,g4⟩:=hI;dsimp only at g1 g2 g3 g4;unfold ANc;have Au:Int.tmod b 2=b % 2:=Int.tmod_eq_emod_of_nonneg Zj;have Av:Int.tmod n 8=n % 8:=Int.tmod_eq_emod_of_nonneg Zj;have Aw:w64 (Int.tdiv b 2)=b / 2:=by rw [Int.tdiv_eq_ediv_of_nonneg Zj,wk Zj]
    obtain ⟨hw,hpm⟩:=Ah1 g4;rw [Au,Av,Aw,hw];refine AAw (fun q1=>?_) fun q1=>Zq ⟨g1,g2,g3,by dsimp only;omega,g4⟩;have hh:=Ai8 g1 q1;refine AAw (fun q2=>Zq ?_) fun q2=>AAw (fun q3=>Zq ?_) fun q3=>Zq ?_
    ·rw [if_pos (.inl q2)] at hh;exact ⟨⟨hh,by dsimp only;omega,by dsimp only;omega,hpm⟩,by dsimp only;omega⟩
    ·rw [if_pos (.inr q3)] at hh;exact ⟨⟨hh,by dsimp only;omega,by dsimp only;omega,hpm⟩,by dsimp only;omega⟩
    ·rw [if_neg Zj] at hh;exact ⟨⟨hh,by dsimp only;omega,by dsimp only;omega,g4⟩,by dsimp only;omega⟩
   ·obtain ⟨b,t⟩:=e;obtain ⟨g1,g2,g3,g4,g5⟩:=he;dsimp only at g1 g2 g3 g4 g5 ⊢;have Ax:Int.tmod b 4=b % 4:=Int.tmod_eq_emod_of_nonneg Zj;have Ay:Int.tmod n 4=n % 4:=Int.tmod_eq_emod_of_nonneg Zj;have hnb:Int.tmod n b=n % b:=Int.tmod_eq_emod_of_nonneg Zj;obtain ⟨hw,hpm⟩:=Ah1 g5;rw [Ax,Ay,hnb,hw];have hs:=Ai9 g1 g2 g4;refine Zu (Q:=fun e=>e=if b % 4=3/\n % 4=3 then -t else t) (AAw (fun q1=>AAw (fun q2=>Zq (by rw [if_pos ⟨q1,q2⟩])) fun q2=>Zq (by rw [if_neg (fun hh=>q2 hh.2)])) fun q1=>Zq (by rw [if_neg (fun hh=>q1 hh.1)])) fun e he=>?_;rw [<- he] at hs;have hr:=Int.emod_nonneg n (show b≠0 by omega);have A3:=Int.emod_lt_of_pos n g2;refine ABs Zj (Zq ⟨⟨hs,hr,by dsimp only;omega,by dsimp only;omega,?_⟩,by dsimp only;omega⟩);dsimp only;rw [he];split
    ·exact hpm
    ·exact g5
  ·have h0:a=0:=by omega
   subst h0;exact Amf h1
 ·obtain ⟨n,s⟩:=e;dsimp only at he ⊢;refine AAw (fun h=>Zq ?_) fun h=>Zq ?_
  ·rw [he,if_neg h]
  ·rw [he,if_pos Zj]
theorem As4 {fuel:Nat} {a p:Int} (hp:OPr p) (Aa:p<=2147483647) (ha: -2147483647<=a) (Ab:a<=2147483647) (hf:2147483648 < fuel):AFh fuel a p=some (lg p a,0):=by
 have h3:=hp.three;have h2:=hp.2;unfold AFh;rw [if_neg Zj,if_neg Zj,if_neg Zj,if_neg Zj];simp only [Option.bind_some];rw [if_neg (show ¬ p=0 by omega),if_neg (show ¬ p < 0 by omega)];simp only [Option.bind_some]
 have hit:iter (fun s:Int × Int=>AIs fuel a s.1 s.2) fuel (p,1)=some (Sum.inr (p,1)):=by
   apply ok_eq
   refine ABd (fun i s=>s=(p,1)/\i=0) 0 ⟨rfl,rfl⟩ Zj fun i s hi hI=>?_
   obtain ⟨rfl,rfl⟩:=hI
   unfold AIs
   rw [Int.tmod_eq_emod_of_nonneg (a:=p) Zj]
   exact AAw (fun h=>by have h:p % 2=0:=h;omega) fun h=>Zq rfl
 rw [hit];simp only [Option.bind_some]
 have hres:AIj fuel a p=some (a % p):=by
   unfold AIj
   rw [if_pos Zj,if_pos Zj]
   rw [AW3 Zj Zj]
 rw [hres];simp only [Option.bind_some];have hr:=Int.emod_nonneg a (show p≠0 by omega);have Ae:=Int.emod_lt_of_pos a (show 0 < p by omega);rw [Anj (Afw hp) hr Zj Aa hf,Aru hp];simp only [Option.bind_some];congr 2;unfold lg;split
 ·decide
 ·split <;> decide
def cN:List AH8->Int
  | []=>0
  | c :: l=>c.2.1 + cN l
def cV:List AH8->Int
  | []=>0
  | c :: l=>c.2.1 * c.1 + cV l
def cS:List AH8->Int
  | []=>1
  | c :: l=>c.2.2.1 * cS l
theorem Ack (l:List AH8) (c:AH8):cN (l ++ [c])=cN l + c.2.1:=by
 induction l with
 | nil=>simp [cN]
 | cons a l ih=>simp only [List.cons_append,cN,ih];omega
theorem Acl (l:List AH8) (c:AH8):cV (l ++ [c])=cV l + c.2.1 * c.1:=by
 induction l with
 | nil=>simp [cV]
 | cons a l ih=>simp only [List.cons_append,cV,ih];omega
theorem Acm (l:List AH8) (c:AH8):cS (l ++ [c])=cS l * c.2.2.1:=by
 induction l with
 | nil=>simp [cS]
 | cons a l ih=>simp only [List.cons_append,cS,ih];grind
def At6 (c:AH8):Prop:=(0<=c.2.1/\c.2.1<=8)/\(0<=c.1/\c.1<=60)/\(c.2.2.1=1∨c.2.2.1= -1)
theorem Acn {a b:Int} (ha:a=1∨a= -1) (hb:b=1∨b= -1):(a * b=1∨a * b= -1)/\w64 (a * b)=a * b:=by
 rcases ha with rfl | rfl <;> rcases hb with rfl | rfl <;> decide
theorem As5 {fuel:Nat} {C:List AH8} (hC:∀ c∈C,At6 c) (hl:C.length<=8) (hf:100 < fuel):iter (fun s=>ADu fuel C s.1 s.2.1 s.2.2.1 s.2.2.2) fuel (0,0,1,0)=some (cN C,cV C,cS C):=by
 apply ok_eq;refine ABd (fun i s=>s=(cN (C.take i),cV (C.take i),cS (C.take i),(i:Int))/\i<=C.length/\(0<=cN (C.take i)/\cN (C.take i)<=8 * i)/\(0<=cV (C.take i)/\cV (C.take i)<=480 * i)/\(cS (C.take i)=1∨cS (C.take i)= -1)) C.length ⟨rfl,Nat.zero_le _,by simp [cN],by simp [cV],by simp [cS]⟩ Zj fun i s hi hI=>?_;obtain ⟨rfl,hin,hN,hV,hS⟩:=hI;unfold ADu;dsimp only;refine AAw (fun h=>?_) fun h=>?_
 ·have hi:i < C.length:=by omega
  have hg:=List.getElem?_eq_getElem hi;obtain ⟨c,hc⟩:∃ c,c=C[i]:=⟨_,rfl⟩;rw [<- hc] at hg;have hcm:=hC c (hc ▸ List.getElem_mem hi);obtain ⟨h1,h2,h3⟩:=hcm;have h4:0<=c.2.1 * c.1/\c.2.1 * c.1<=8 * 60:=⟨Int.mul_nonneg h1.1 h2.1,Int.mul_le_mul h1.2 h2.2 h2.1 Zl⟩;have ht:C.take (i + 1)=C.take i ++ [c]:=by rw [List.take_add_one,hg];rfl
  rw [AKo hg,ACf (x:=cN (C.take i) + c.2.1) Zj Zj,ACf (x:=c.2.1 * c.1) Zj Zj,ACf (x:=cV (C.take i) + c.2.1 * c.1) Zj Zj,(Acn hS h3).2,AGw Zj];refine Zq ⟨hi,?_,hi,?_,?_,?_⟩
  ·rw [ht,Ack,Acl,Acm]
  ·rw [ht,Ack];omega
  ·rw [ht,Acl];omega
  ·rw [ht,Acm];exact (Acn hS h3).1
 ·obtain rfl:i=C.length:=by omega
  rw [List.take_length];exact Zq rfl
def AZo (g:Nat->Nat):Nat->Nat
  | 0=>0
  | n + 1=>AZo g n + g n
structure BL (p:Int) (L:List AK7) (e:Nat->Nat) (u:Nat->Int):Prop where
  at':∀ i,i < L.length->L[i]? =some ((e i:Int),1,u i,0,0)
  un:∀ i,i < L.length->¬ p ∣ u i
  bd:∀ i,i < L.length->e i<=60/\(u i).natAbs<=2147483647
  asc:∀ i,0 < i->i < L.length->e (i - 1)<=e i
def CSt (p:Int) (e:Nat->Nat) (u:Nat->Int) (i:Nat) (C:List AH8):Prop:=
  (i=0/\C=[]∨ ∃ l c,C=l ++ [c]/\0 < i/\c.1=((e (i - 1):Nat):Int))/\C.length<=i/\(∀ c∈C,(0<=c.2.1/\c.2.1<=(i:Int))/\(0<=c.1/\c.1<=60)/\(c.2.2.1=1∨c.2.2.1= -1))/\cN C=i/\cV C=AZo e i/\cS C=AC9 (fun j=>lg p (u j)) i
theorem At7 {fuel:Nat} {p:Int} {T:List (List Int)} {L:List AK7} {e:Nat->Nat} {u:Nat->Int} (B:BL p L e u) (hp:OPr p) (Ar:p<=9973) (Av:1<=L.length) (hl:L.length<=8) (hf:2147483648 < fuel):Ok (ADl fuel p T L) fun r=>r.2=true/\CSt p e u L.length r.1:=by
 have h3:=hp.three;have ho:AZy p=true:=(AWy ⟨Zj,Ar,hp.1⟩).symm;unfold ADl;simp only [ALe,Option.bind_some,ho];rw [if_neg Zl,if_neg Zj,if_neg Zj];simp only [Option.bind_some];refine Zu (Q:=fun ex=> ∃ C,ex= .inr C/\CSt p e u L.length C) (ABd (fun i s=> ∃ C,s=(C,(i:Int))/\i<=L.length/\CSt p e u i C) L.length ⟨[],rfl,Nat.zero_le _,.inl ⟨rfl,rfl⟩,Nat.le_refl _,fun c hc=>by simp at hc,rfl,rfl,rfl⟩ Zj fun i s hi hI=>?_) fun ex hex=>?_
 ·obtain ⟨C,rfl,hin,H⟩:=hI;unfold AI0;dsimp only;refine AAw (fun h=>?_) fun h=>Zq ⟨C,rfl,by rwa [show L.length=i by omega]⟩;have hi:i < L.length:=by omega
  have hu:=B.un i hi;obtain ⟨Aw,Ax⟩:=B.bd i hi;rw [AKo (B.at' i hi)];have htm: ¬ Int.tmod (u i) p=0:=fun h=>hu (Int.dvd_of_tmod_eq_zero h);rw [if_neg AAx,if_neg Zj,if_neg Zj,if_neg AAx,if_neg AAx,if_pos Zj,if_neg htm];simp only [Option.bind_some]
  have hkr:AFh fuel (Int.tmod (u i) p) p=some (lg p (u i),0):=by
    have h4:=Int.tmod_lt_of_pos (u i) (show 0 < p by omega)
    have h5:=Int.tmod_lt_of_pos (-u i) (show 0 < p by omega)
    rw [Int.neg_tmod] at h5
    rw [As4 hp Zj Zj Zj hf]
    congr 2
    refine AVq hp ?_
    rw [Int.tmod_def,Int.sub_mul_emod_self_left]
  have hlg:=Atu hp (a:=u i) fun h=>hu (Int.dvd_of_emod_eq_zero h);obtain ⟨H1,H2,H3,H4,H5,H6⟩:=H
  have key:Ok ((if (i:Int)=0 then (if C.length<=100000000 then (some ( (C ++ [((e i:Int),0,1,false,0)]))) else none) else ((gI L (w64 ((i:Int) - 1))).bind fun x=>(if x.1 < (e i:Int) then (if C.length<=100000000 then (some ( (C ++ [((e i:Int),0,1,false,0)]))) else none) else (some ( C))))):Option (List AH8)) fun D=> ∃ l c,D=l ++ [c]/\c.1=((e i:Nat):Int)/\D.length<=i + 1/\(∀ c∈D,(0<=c.2.1/\c.2.1<=(i:Int))/\(0<=c.1/\c.1<=60)/\(c.2.2.1=1∨c.2.2.1= -1))/\cN D=(i:Int)/\cV D=(AZo e i:Int)/\cS D=AC9 (fun j=>lg p (u j)) i:=by
    have hnew:∃ l c,C ++ [((e i:Int),0,1,false,0)]=l ++ [c]/\c.1=((e i:Nat):Int)/\(C ++ [((e i:Int),0,1,false,0)]).length<=i + 1/\(∀ c∈C ++ [((e i:Int),0,1,false,0)],(0<=c.2.1/\c.2.1<=(i:Int))/\(0<=c.1/\c.1<=60)/\(c.2.2.1=1∨c.2.2.1= -1))/\cN (C ++ [((e i:Int),0,1,false,0)])=i/\cV (C ++ [((e i:Int),0,1,false,0)])=AZo e i/\cS (C ++ [((e i:Int),0,1,false,0)])=AC9 (fun j=>lg p (u j)) i:=by
      refine ⟨C,_,rfl,rfl,by simp;omega,fun c hc=>?_,by rw [Ack,H4];simp,by rw [Acl,H5];simp,by rw [Acm,H6];simp⟩
      rcases List.mem_append.1 hc with h | h
      · exact H3 c h
      · rw [List.mem_singleton.1 h];exact ⟨⟨AAx,AAx⟩,⟨AAx,by simp;omega⟩,.inl rfl⟩
    refine AAw (fun h0=>ABs Zj (Zq hnew)) fun h0=>?_
    rw [show w64 ((i:Int) - 1)=((i - 1:Nat):Int) by rw [wk Zj];omega,AKo (B.at' (i - 1) Zj)]
    refine AAw (fun h1=>ABs Zj (Zq hnew)) fun h1=>Zq ?_
    have h2:=B.asc i Zj hi
    rcases H1 with ⟨h,_⟩ | ⟨l,c,rfl,h4,h5⟩
    · omega
    · exact ⟨l,c,rfl,by dsimp only at h1;omega,Zj,H3,H4,H5,H6⟩
  have fin:∀ D:List AH8,(∃ l c,D=l ++ [c]/\c.1=((e i:Nat):Int)/\D.length<=i + 1/\(∀ c∈D,(0<=c.2.1/\c.2.1<=(i:Int))/\(0<=c.1/\c.1<=60)/\(c.2.2.1=1∨c.2.2.1= -1))/\cN D=(i:Int)/\cV D=(AZo e i:Int)/\cS D=AC9 (fun j=>lg p (u j)) i)->
      Ok ((AFh fuel (Int.tmod (u i) p) p).bind fun (Au,Az)=>((gI D (w64 ((D.length:Int) - 1))).bind fun Aa=>((gI (sI D (w64 ((D.length:Int) - 1)) (Aa.1,(w64 (Aa.2.1 + 1)),Aa.2.2.1,Aa.2.2.2.1,Aa.2.2.2.2)) (w64 ((D.length:Int) - 1))).bind fun Ac=>(some (Sum.inl (β:=((List AH8 × Bool) ⊕ List AH8)) ((sI (sI D (w64 ((D.length:Int) - 1)) (Aa.1,(w64 (Aa.2.1 + 1)),Aa.2.2.1,Aa.2.2.2.1,Aa.2.2.2.2)) (w64 ((D.length:Int) - 1)) (Ac.1,Ac.2.1,(w64 (Ac.2.2.1 * Au)),Ac.2.2.2.1,Ac.2.2.2.2)),(w64 ((i:Int) + 1)))))))) fun r=> ∃ C',r= .inl (C',((i + 1:Nat):Int))/\CSt p e u (i + 1) C':=by
    intro D hD
    obtain ⟨l,c,rfl,h1,h2,h3,h4,h5,h6⟩:=hD
    have hc:=h3 c AAx
    have hll:l.length<=i:=by simp at h2;omega
    rw [hkr]
    simp only [Option.bind_some]
    have ew:w64 (((l ++ [c]).length:Int) - 1)=(l.length:Int):=by rw [List.length_append,List.length_singleton,wk Zj];omega
    rw [ew]
    have g1:∀ c:AH8,(l ++ [c])[l.length]? =some c:=fun c=>by simp
    have g2:∀ c d:AH8,sI (l ++ [c]) (l.length:Int) d=l ++ [d]:=fun c d=>by rw [AB4];simp
    rw [AKo (g1 c),g2,AKo (g1 _),g2,AGw Zj,ACf (x:=c.2.1 + 1) Zj Zj,(Acn hc.2.2 hlg).2]
    refine Zq ⟨_,rfl,.inr ⟨l,_,rfl,Zj,by rw [h1];rfl⟩,by simp at h2 ⊢;omega,fun d hd=>?_,?_,?_,?_⟩
    · rcases List.mem_append.1 hd with h | h
      · have:=h3 d (by simp [h])
        exact ⟨Zj,this.2⟩
      · rw [List.mem_singleton.1 h];exact ⟨by dsimp only;omega,hc.2.1,(Acn hc.2.2 hlg).1⟩
    · rw [Ack] at h4 ⊢;dsimp only;omega
    · rw [Acl] at h5 ⊢
      show cV l + (c.2.1 + 1) * c.1=((AZo e i + e i:Nat):Int)
      rw [Int.add_mul,Int.one_mul];omega
    · rw [Acm] at h6 ⊢
      show cS l * (c.2.2.1 * lg p (u i))=AC9 (fun j=>lg p (u j)) i * lg p (u i)
      rw [<- h6];grind
  have hprev:Ok ((if (0:Int) < (i:Int) then ((gI L (w64 ((i:Int) - 1))).bind fun x=>(if (e i:Int) < x.1 then (some (Sum.inl <| (([],false):List AH8 × Bool))) else (some (Sum.inr <| ())))) else (some (Sum.inr <| ()))):Option ((List AH8 × Bool) ⊕ Unit)) fun x=>x= .inr ():=by
    refine AAw (fun h0=>?_) fun h0=>Zq rfl
    rw [show w64 ((i:Int) - 1)=((i - 1:Nat):Int) by rw [wk Zj];omega,AKo (B.at' (i - 1) Zj)]
    have h2:=B.asc i Zj hi
    exact AAw (fun h1=>by dsimp only at h1;omega) fun h1=>Zq rfl
  rw [ok_eq hprev];simp only [Option.bind_some];refine Zu key fun D hD=>ABs Zj (Aos (fin D hD) fun r hr=>?_);obtain ⟨C',rfl,hC'⟩:=hr;exact ⟨hi,C',rfl,hi,hC'⟩
 ·obtain ⟨C,rfl,hC⟩:=hex;exact Zq ⟨rfl,hC⟩
theorem Aa2 {p:Int} (f:Nat->Int) (g:Nat->Nat):∀ n,AC9 (fun i=>f i * p ^ g i) n=AC9 f n * p ^ AZo g n
  | 0=>by simp [AC9,AZo]
  | n + 1=>by simp only [AC9,AZo,Aa2 f g n,Int.pow_add];grind
theorem AZp {p:Int} (hp:PrI p) {f:Nat->Int}:∀ {n:Nat},(∀ i,i < n->¬ p ∣ f i)->¬ p ∣ AC9 f n
  | 0,_=>fun h=>by
    have h1:=Int.le_of_dvd (show (0:Int) < 1 by decide) h
    have:=hp.1
    omega
  | n + 1,h=>by simp only [AC9];exact hp.ndvd_mul (AZp hp fun i hi=>h i Zj) (h n Zj)
theorem Aeu {p:Int} (hp:OPr p) (f:Nat->Int):∀ n,lg p (AC9 f n)=AC9 (fun i=>lg p (f i)) n
  | 0=>by
    have h3:=hp.three
    have:(1:Int) % p=1:=Int.emod_eq_of_lt Zl Zj
    simp [AC9,lg,Int.one_pow,this]
  | n + 1=>by simp only [AC9,Afv hp,Aeu hp f n]
theorem Ank {p u r:Int} {S K:Nat} (hp:PrI p) (hu: ¬ p ∣ u) (hr: ¬ p ∣ r) (h:Eqm (p ^ (K + 1)) (u * p ^ S) (r * p ^ K)):S=K/\Eqm p u r:=by
  have h1:=AN4 h
  have hS:S=K:=by
    rcases Nat.lt_trichotomy S K with h2 | h2 | h2
    · exfalso
      have h3:p ^ (S + 1) ∣ u * p ^ S:=by
        have:=Int.dvd_add (Int.dvd_trans (AEo (p:=p) (show S + 1<=K + 1 by omega)) h1) (Int.dvd_trans (AEo (p:=p) (show S + 1<=K by omega)) ⟨r,Int.mul_comm r _⟩);rwa [Int.sub_add_cancel] at this
      have:=Aci hp rfl hu h3;omega
    · exact h2
    · exfalso
      have h3:p ^ (K + 1) ∣ r * p ^ K:=by
        have:=Int.dvd_sub (Int.dvd_trans (AEo (p:=p) (show K + 1<=S by omega)) ⟨u,Int.mul_comm u _⟩) h1;rwa [Int.sub_sub_self] at this
      have:=Aci hp rfl hr h3;omega
  subst hS;refine ⟨rfl,ASk ?_⟩;obtain ⟨z,hz⟩:=h1;refine ⟨z,Int.eq_of_mul_eq_mul_left (AVx hp S) ?_⟩;rw [Int.pow_succ] at hz;grind
theorem AV8 {g kd k:Int} {Z Y:List Int} (hg:0<=g/\g < 256) (hk:0<=k/\k < 256):AEt (ADz + 1) g kd Z Y k=some true:=by
 have hf:ADz < ADz + 1:=Nat.lt_succ_self _;have Aa:100 < ADz + 1:=Nat.lt_of_le_of_lt Zl hf;have Ak:100000 < ADz + 1:=Nat.lt_of_le_of_lt Zl hf;have Ad:2147483648 < ADz + 1:=Nat.lt_of_le_of_lt Zl hf;apply ok_eq;unfold AEt;refine Zu (Asm hg Zl hf) fun M hM=>Zu (Af9 hk) fun p hp=>?_;obtain ⟨n,A,rfl,Am,Ay,RF,-⟩:=hM;have R:=Apu Am Zj RF;obtain ⟨Ab,Ae,Az⟩:=hp;have hI:=Af8 Ab;have hO:=Ar1 ⟨Ae,Ab⟩;generalize tab n n A=M at R;obtain ⟨K,E,T,G,L,e1,e2,hK,hq,hv,S,B⟩:=As0 R Ab Ae Zj Ad;obtain ⟨v,r,hvk,hdr,hpr⟩:=hv;obtain ⟨d1,d2⟩:=AVz R;have Aq:0 < p ^ v:=Int.pow_pos Zj
 have Ar:0 < r:=by
   rcases Int.lt_or_le 0 r with h | h
   · exact h
   · have:=Int.mul_nonpos_of_nonpos_of_nonneg h (Int.le_of_lt Aq);omega
 have hLn:=B.len;have A4:=R.1
 have hb:∀ i,i < L.length-> ∃ (e:Nat) (u:Int),L[i]? =some ((e:Int),1,u,0,0)/\G i i=u * p ^ e/\¬ p ∣ u/\e<=60/\u.natAbs<=2147483647:=fun i hi=>by
   obtain ⟨h1,⟨e,u,h2,h3,h4⟩,h5⟩:=B.bl i _ (List.getElem?_eq_getElem hi)
   have hgi:=S.rg i i Zj Zj
   have hek:=Ane hI h3 h4 hgi
   have A7:=AV1 Zj hq
   have hpe:0 < p ^ e:=Int.pow_pos Zj
   have Av:0<=u:=by
     rcases Int.lt_or_le u 0 with h | h
     · have:=Int.mul_neg_of_neg_of_pos h hpe;omega
     · exact h
   have A8:u * 1<=u * p ^ e:=Int.mul_le_mul_of_nonneg_left Zj Av
   exact ⟨e,u,by rw [List.getElem?_eq_getElem hi,h2],h3,h4,Zj,Zj⟩
 have hbe:∀ i,∃ eu:Nat × Int,i < L.length->L[i]? =some ((eu.1:Int),1,eu.2,0,0)/\G i i=eu.2 * p ^ eu.1/\¬ p ∣ eu.2/\eu.1<=60/\eu.2.natAbs<=2147483647:=fun i=>by
   by_cases hi:i < L.length
   · obtain ⟨e,u,h⟩:=hb i hi;exact ⟨(e,u),fun _=>h⟩
   · exact ⟨(0,0),fun h=>absurd h hi⟩
 obtain ⟨eu,heu⟩:=Classical.axiomOfChoice hbe
 have BLk:BL p L (fun i=>(eu i).1) (fun i=>(eu i).2):=⟨fun i hi=>(heu i hi).1,fun i hi=>(heu i hi).2.2.1,fun i hi=>(heu i hi).2.2.2,fun i h0 hi=>by
   have:=B.asc i h0 _ _ (heu i hi).1 (heu (i - 1) Zj).1
   dsimp only at this ⊢
   omega⟩
 have hdG:det M.length G=AC9 (fun i=>(eu i).2) M.length * p ^ AZo (fun i=>(eu i).1) M.length:=by
   rw [AWp fun i j hij hj=>S.z i j Zj hj Zj,<- Aa2]
   exact ATj fun i hi=>(heu i Zj).2.1
 have hvb:=Ank (p:=p) (u:=AC9 (fun i=>(eu i).2) M.length) (r:=r) (S:=AZo (fun i=>(eu i).1) M.length) (K:=v) hI (AZp hI fun i hi=>(heu i Zj).2.2.1) hpr (by
   have:=S.e.det
   rw [hdG,hdr,show K=v + 1 by omega] at this
   exact this)
 rw [e1];simp only [Option.bind_some];refine Zu (At7 (T:=tab M.length M.length T) BLk hO Zj Zj Zj Ad) fun c hc=>?_;obtain ⟨C,ok⟩:=c;obtain ⟨rfl,H⟩:=hc;dsimp only at H ⊢;obtain ⟨-,H2,H3,H4,H5,H6⟩:=H;rw [if_neg AAx,if_neg Zl];simp only [Option.bind_some];rw [As5 (fun c hc=>⟨⟨(H3 c hc).1.1,by have:=(H3 c hc).1.2;omega⟩,(H3 c hc).2⟩) Zj Aa];simp only [Option.bind_some];rw [Aay R Aa];simp only [Option.bind_some];refine AZn (by rw [H4];omega) ?_;refine Zu (Am0 d1 d2 Zj Zj Aa) fun x hx=>?_;have hxv:=AX4 Zj hx ⟨v,r,rfl,hdr,hpr⟩;rw [hLn] at H5 H6;refine AZn (by rw [H5,hvb.1,hxv]) ?_;rw [As3 Zj hdr hpr Ar d2 Aa];simp only [Option.bind_some];rw [Aga hO Zj Ak];simp only [Option.bind_some];refine AZn (by rw [H6,<- Aeu hO,AVq hO hvb.2]) ?_;rw [Acj];exact Zq rfl
end Go.Proofs.YtdkldlbgcfpglaaGreatDoor
