/-
  Texts of a proof, joined. Conditions stand in each statement.
-/
import Derived.Test.YtmmckalinicpaaaGreatDoorMJordanPrecision5
set_option linter.unusedVariables false
set_option linter.unusedSimpArgs false
namespace Go.Proofs.YtmmckalinicpaaaGreatDoor
open Go Go.QF
set_option maxRecDepth 100000
set_option maxHeartbeats 4000000
def APt (fuel:Nat) (a3:LiI) (Ac:LiA) (Aa:Int):Option ((Int) ⊕ (((Int × Int × Bool)) ⊕ (Unit))):=
  (if Aa < (a3.length:Int) then ((gI a3 Aa).bind fun Ad=>(if ¬ (Ad.length:Int)=(Ac.length:Int) then (some (Sum.inr<| Sum.inl <| (0,0,false))) else (some (Sum.inl (w64 (Aa + 1)))))) else (some (Sum.inr<| Sum.inr <| ())))
def ANf (fuel:Nat) (a3:LiI):Option (Int × Int × Bool):=
  (((if (a3.length:Int) < 1 then (some (Sum.inl <| (0,0,false))) else (if 16 < (a3.length:Int) then (some (Sum.inl <| (0,0,false))) else (some (Sum.inr <| ())))):Option (((Int × Int × Bool)) ⊕ (Unit))).bind (fun ex=>match ex with | Sum.inl Ac=>(some Ac) | Sum.inr (_)=>((gI a3 0).bind fun Ab=>(((if (Ab.length:Int) < 1 then (some (Sum.inl <| (0,0,false))) else (if 16 < (Ab.length:Int) then (some (Sum.inl <| (0,0,false))) else (some (Sum.inr <| ())))):Option (((Int × Int × Bool)) ⊕ (Unit))).bind (fun ex=>match ex with | Sum.inl Ad=>(some Ad) | Sum.inr (_)=>((iter (fun s=>APt fuel a3 Ab s) fuel 0).bind (fun ex=>match ex with | Sum.inl Ae=>(some Ae) | Sum.inr (_)=>(some ((a3.length:Int),(Ab.length:Int),true)))))))))
theorem AV2 {fuel:Nat} {h:AHr} {Ay:Value} {a3:LiI} {r:(Int × Int × Bool)} (H2:AM9 (cI .i64) h Ay a3) (hp:ANf fuel a3=some r):AIj Tryz.prog 169 #[Ay] h (fun x h'=>Ext h h'/\x= .tuple #[.int .i64 r.1,.int .i64 r.2.1,.bool r.2.2]):=by
 unfold ANf at hp;refine AHx (l:=[_]) mx Tryz.func169 rfl rfl rfl rfl rfl (by kernel_rfl) (ACu (ACv (AHq (AHq (AHq (ACt (q_t ?_)))))));obtain ⟨Bn,Az,Ah⟩:=AHv hp;refine AMu 65308 (fun x:Unit=>[]) (fun (x:Unit) (h':AHr)=>(Sum.inr <| ())=Bn/\UpT [] h h'/\Sp h' h.size []) (by kernel_rfl) ?_ ?_
 ·refine ACu (ACv (AHo (AKc AJg rfl H2 (AIp rfl rfl (AI6 _ _) (AHo ?_)))));rcases Decidable.em ((a3.length:Int) < 1) with Ac | Ac
  ·rw [show decide ((a3.length:Int) < 1)=true from decide_eq_true Ac];refine AH0 11 true (by kernel_rfl) rfl rfl (AH0 11 true (by kernel_rfl) rfl rfl (AH0 11 true (by kernel_rfl) rfl rfl (AIt rfl (ACt (q_t (AIh rfl (ACu (ACv (AHq (AHq (AHq (ACt (q_t ?_)))))))))))));obtain rfl:=AHw (ifT Az Ac);have A3:=Ah;(try dsimp only at A3);refine AH1 (AIi ?_);obtain rfl:=AHw A3;exact ⟨_,AO3,(Ext.refl _),rfl⟩
  ·have A4:=ifF Az Ac;rw [show decide ((a3.length:Int) < 1)=false from decide_eq_false Ac];refine AH3 11 false (by kernel_rfl) rfl rfl (AHo (AH3 11 false (by kernel_rfl) rfl rfl (AKc AJg rfl H2 (AH3 11 false (by kernel_rfl) rfl rfl (AIp rfl rfl (APf _ _) (AIv rfl (ACt (q_t (⟨_,rfl,fun Ai=>?_,fun Ai=>?_⟩)))))))))
   ·refine ACu (ACv (AHq (AHq (AHq (ACt (q_t ?_))))));obtain rfl:=AHw (AJ2 A4 Ai);have A5:=Ah;(try dsimp only at A5);refine AH1 (AIi ?_);obtain rfl:=AHw A5;exact ⟨_,AO3,(Ext.refl _),rfl⟩
   ·refine AH2 (q_t ?_);have Bo:UpT [] h h:=UpT.start all_nil;exact ⟨(():Unit),⟨AHw (AJ3 A4 Ai),Bo,(AJ8 h h.size)⟩,trivial⟩
 rintro ⟨⟩ Bp Ad ⟨Bq,Br,Aj⟩;replace Aj:Sp Ad h.size []:=Aj;refine (show W _ _ _ (setL [] (mix _ Bp _)) Ad from ?_);have Ag:=(Ext.refl _).thenT Br all_nil;subst Bq;have A6:=Ah;(try dsimp only at A6);refine ACu (ACv (AHo ?_));obtain ⟨Ak,Bt,Bu⟩:=AHv A6;refine AQz AJg rfl H2 rfl Bt fun Cf Cg Ch Bv Bw=>AIr AKg rfl (AIc Bv Ag) (ALe AJp rfl Bw (AHq (ACt (q_t ?_))));obtain ⟨Bx,A7,Am⟩:=AHv Bu;refine AMu 66060316 (fun x:Unit=>[]) (fun (x:Unit) (h':AHr)=>(Sum.inr <| ())=Bx/\UpT [] Ad h'/\Sp h' h.size []) (by kernel_rfl) ?_ ?_
 ·refine ACu (ACv (AHo (AIp rfl rfl (AI6 _ _) (AHo ?_))));rcases Decidable.em ((Ak.length:Int) < 1) with Ae | Ae
  ·rw [show decide ((Ak.length:Int) < 1)=true from decide_eq_true Ae];refine AH0 22 true (by kernel_rfl) rfl rfl (AH0 22 true (by kernel_rfl) rfl rfl (AIt rfl (ACt (q_t (AIh rfl (ACu (ACv (AHq (AHq (AHq (ACt (q_t ?_))))))))))));obtain rfl:=AHw (ifT A7 Ae);have A8:=Am;(try dsimp only at A8);refine AH1 (AIi ?_);obtain rfl:=AHw A8;exact ⟨_,AO3,Ag,rfl⟩
  ·have A9:=ifF A7 Ae;rw [show decide ((Ak.length:Int) < 1)=false from decide_eq_false Ae];refine AH3 22 false (by kernel_rfl) rfl rfl (AHo (AH3 22 false (by kernel_rfl) rfl rfl (AIp rfl rfl (APf _ _) (AIv rfl (ACt (q_t (⟨_,rfl,fun Ao=>?_,fun Ao=>?_⟩)))))))
   ·refine ACu (ACv (AHq (AHq (AHq (ACt (q_t ?_))))));obtain rfl:=AHw (AJ2 A9 Ao);have Ba:=Am;(try dsimp only at Ba);refine AH1 (AIi ?_);obtain rfl:=AHw Ba;exact ⟨_,AO3,Ag,rfl⟩
   ·refine AH2 (q_t ?_);have By:UpT [] Ad Ad:=UpT.start all_nil;exact ⟨(():Unit),⟨AHw (AJ3 A9 Ao),By,Aj⟩,trivial⟩
 rintro ⟨⟩ Bz Ap ⟨B1,B3,S64⟩;replace S64:Sp Ap h.size []:=S64;refine (show W _ _ _ (setL [] (mix _ Bz _)) Ap from ?_);subst B1;have Bb:=Am;(try dsimp only at Bb);refine ACu (ACu (ACv (AHo (AKc AJg rfl H2 (AHo (ACt (q_t (AHz ?_))))))));obtain ⟨Aq,B4,Bc⟩:=AHv Bb;obtain ⟨B5,B6,B7⟩:=AI0 B4;refine AIy 137170518172 (fun x:(Int)=>[(28,(.int .i64 x))]) (fun (k:Nat) (x:(Int)) (h':AHr)=>iter B5 k x=some Aq/\UpT [] Ap h'/\Sp h' h.size []) (by kernel_rfl) fuel (0:(Int)) ?_ ⟨rfl,trivial⟩ ?_
 ·exact ⟨B7,UpT.start all_nil,S64⟩
 rintro Ci Be B8 Bf ⟨B9,Bg,Ar⟩;replace Ar:Sp Bf h.size []:=Ar;refine (show W _ _ _ (setL [(28,(.int .i64 Be))] (mix _ B8 _)) Bf from ?_);have Au:=(Ag.thenT B3 all_nil).thenT Bg all_nil;obtain ⟨Ca,Cj,rfl,Af,Av⟩:=AIs B9;rw [B6] at Af;dsimp only at Af;unfold APt at Af;refine ACu (ACv (AIp rfl rfl (AI6 _ _) (ACt (q_t (ACu (⟨_,rfl,fun Aw=>?_,fun Aw=>?_⟩))))))
 ·refine AH2 (q_t (ACu (AHz (ACu (ACv ?_)))));obtain ⟨Ck,Cb,Bh⟩:=AHv (AJ2 Af Aw);refine AQz AJg rfl H2 rfl Cb fun Cm Cn Co Cd Ce=>AIr AKg rfl (AIc Cd Au) (AHq (ACt (q_t (ACu (ACv (AHo (ALe AJp rfl Ce (AHo (AIp rfl rfl (AP7 _ _) (ACt (q_t (⟨_,rfl,fun Ax=>?_,fun Ax=>?_⟩))))))))))))
  ·refine ACu (ACv (AHq (AHq (AHq (ACt (q_t ?_))))));obtain rfl:=AHw (AJ2 Bh Ax);have Bi:=Av;change _=Aq at Bi;subst Bi;have Bj:=Bc;(try dsimp only at Bj);refine AH1 (AJ0 (AIi (AIi (AJ0 (AIi ?_)))));obtain rfl:=AHw Bj;exact ⟨_,AO3,Au,rfl⟩
  ·refine AH2 (q_b (q_t (ACv (AJd rfl rfl (AHo (ACt (q_t ?_)))))));obtain rfl:=AHw (AJ3 Bh Ax);exact ⟨Ca,((w64 (Be + 1)):(Int)),Nat.lt_succ_self _,⟨Av,Bg,Ar⟩,rfl,trivial⟩
 ·obtain rfl:=AHw (AJ3 Af Aw);have Bl:=Av;change _=Aq at Bl;subst Bl;have Bm:=Bc;(try dsimp only at Bm);refine AIo (AIq (AIq (AJ5 (q_t (ACu (ACv (AHo (AKc AJg rfl H2 (AHo (AHq (AHq (AHq (ACt (q_t (AH1 ?_)))))))))))))));obtain rfl:=AHw Bm;exact ⟨_,AO3,Au,rfl⟩
def AOt (fuel:Nat) (a3:LiI) (Ac:LiA) (Aa:Int):Option ((Int) ⊕ (((Int × Int × Bool)) ⊕ (Unit))):=
  (if Aa < (a3.length:Int) then ((gI a3 Aa).bind fun Ad=>(if ¬ (Ad.length:Int)=(Ac.length:Int) then (some (Sum.inr<| Sum.inl <| (0,0,false))) else (some (Sum.inl (w64 (Aa + 1)))))) else (some (Sum.inr<| Sum.inr <| ())))
def AMp (fuel:Nat) (a3:LiI):Option (Int × Int × Bool):=
  (((if (a3.length:Int) < 1 then (some (Sum.inl <| (0,0,false))) else (if 16 < (a3.length:Int) then (some (Sum.inl <| (0,0,false))) else (some (Sum.inr <| ())))):Option (((Int × Int × Bool)) ⊕ (Unit))).bind (fun ex=>match ex with | Sum.inl Ac=>(some Ac) | Sum.inr (_)=>((gI a3 0).bind fun Ab=>(((if (Ab.length:Int) < 1 then (some (Sum.inl <| (0,0,false))) else (if 16 < (Ab.length:Int) then (some (Sum.inl <| (0,0,false))) else (some (Sum.inr <| ())))):Option (((Int × Int × Bool)) ⊕ (Unit))).bind (fun ex=>match ex with | Sum.inl Ad=>(some Ad) | Sum.inr (_)=>((iter (fun s=>AOt fuel a3 Ab s) fuel 0).bind (fun ex=>match ex with | Sum.inl Ae=>(some Ae) | Sum.inr (_)=>(some ((a3.length:Int),(Ab.length:Int),true)))))))))
theorem AUo {fuel:Nat} {h:AHr} {Ay:Value} {a3:LiI} {r:(Int × Int × Bool)} (H2:AM9 cZ h Ay a3) (hp:AMp fuel a3=some r):AIj Tryz.prog 173 #[Ay] h (fun x h'=>Ext h h'/\x= .tuple #[.int .i64 r.1,.int .i64 r.2.1,.bool r.2.2]):=by
 unfold AMp at hp;refine AHx (l:=[_]) mx Tryz.func173 rfl rfl rfl rfl rfl (by kernel_rfl) (ACu (ACv (AHq (AHq (AHq (ACt (q_t ?_)))))));obtain ⟨Bn,Az,Ah⟩:=AHv hp;refine AMu 65308 (fun x:Unit=>[]) (fun (x:Unit) (h':AHr)=>(Sum.inr <| ())=Bn/\UpT [] h h'/\Sp h' h.size []) (by kernel_rfl) ?_ ?_
 ·refine ACu (ACv (AHo (AKc AJe rfl H2 (AIp rfl rfl (AI6 _ _) (AHo ?_)))));rcases Decidable.em ((a3.length:Int) < 1) with Ac | Ac
  ·rw [show decide ((a3.length:Int) < 1)=true from decide_eq_true Ac];refine AH0 11 true (by kernel_rfl) rfl rfl (AH0 11 true (by kernel_rfl) rfl rfl (AH0 11 true (by kernel_rfl) rfl rfl (AIt rfl (ACt (q_t (AIh rfl (ACu (ACv (AHq (AHq (AHq (ACt (q_t ?_)))))))))))));obtain rfl:=AHw (ifT Az Ac);have A3:=Ah;(try dsimp only at A3);refine AH1 (AIi ?_);obtain rfl:=AHw A3;exact ⟨_,AO3,(Ext.refl _),rfl⟩
  ·have A4:=ifF Az Ac;rw [show decide ((a3.length:Int) < 1)=false from decide_eq_false Ac];refine AH3 11 false (by kernel_rfl) rfl rfl (AHo (AH3 11 false (by kernel_rfl) rfl rfl (AKc AJe rfl H2 (AH3 11 false (by kernel_rfl) rfl rfl (AIp rfl rfl (APf _ _) (AIv rfl (ACt (q_t (⟨_,rfl,fun Ai=>?_,fun Ai=>?_⟩)))))))))
   ·refine ACu (ACv (AHq (AHq (AHq (ACt (q_t ?_))))));obtain rfl:=AHw (AJ2 A4 Ai);have A5:=Ah;(try dsimp only at A5);refine AH1 (AIi ?_);obtain rfl:=AHw A5;exact ⟨_,AO3,(Ext.refl _),rfl⟩
   ·refine AH2 (q_t ?_);have Bo:UpT [] h h:=UpT.start all_nil;exact ⟨(():Unit),⟨AHw (AJ3 A4 Ai),Bo,(AJ8 h h.size)⟩,trivial⟩
 rintro ⟨⟩ Bp Ad ⟨Bq,Br,Aj⟩;replace Aj:Sp Ad h.size []:=Aj;refine (show W _ _ _ (setL [] (mix _ Bp _)) Ad from ?_);have Ag:=(Ext.refl _).thenT Br all_nil;subst Bq;have A6:=Ah;(try dsimp only at A6);refine ACu (ACv (AHo ?_));obtain ⟨Ak,Bt,Bu⟩:=AHv A6;refine AQz AJe rfl H2 rfl Bt fun Cf Cg Ch Bv Bw=>AIr AK8 rfl (AIc Bv Ag) (ALe AKh rfl Bw (AHq (ACt (q_t ?_))));obtain ⟨Bx,A7,Am⟩:=AHv Bu;refine AMu 66060316 (fun x:Unit=>[]) (fun (x:Unit) (h':AHr)=>(Sum.inr <| ())=Bx/\UpT [] Ad h'/\Sp h' h.size []) (by kernel_rfl) ?_ ?_
 ·refine ACu (ACv (AHo (AIp rfl rfl (AI6 _ _) (AHo ?_))));rcases Decidable.em ((Ak.length:Int) < 1) with Ae | Ae
  ·rw [show decide ((Ak.length:Int) < 1)=true from decide_eq_true Ae];refine AH0 22 true (by kernel_rfl) rfl rfl (AH0 22 true (by kernel_rfl) rfl rfl (AIt rfl (ACt (q_t (AIh rfl (ACu (ACv (AHq (AHq (AHq (ACt (q_t ?_))))))))))));obtain rfl:=AHw (ifT A7 Ae);have A8:=Am;(try dsimp only at A8);refine AH1 (AIi ?_);obtain rfl:=AHw A8;exact ⟨_,AO3,Ag,rfl⟩
  ·have A9:=ifF A7 Ae;rw [show decide ((Ak.length:Int) < 1)=false from decide_eq_false Ae];refine AH3 22 false (by kernel_rfl) rfl rfl (AHo (AH3 22 false (by kernel_rfl) rfl rfl (AIp rfl rfl (APf _ _) (AIv rfl (ACt (q_t (⟨_,rfl,fun Ao=>?_,fun Ao=>?_⟩)))))))
   ·refine ACu (ACv (AHq (AHq (AHq (ACt (q_t ?_))))));obtain rfl:=AHw (AJ2 A9 Ao);have Ba:=Am;(try dsimp only at Ba);refine AH1 (AIi ?_);obtain rfl:=AHw Ba;exact ⟨_,AO3,Ag,rfl⟩
   ·refine AH2 (q_t ?_);have By:UpT [] Ad Ad:=UpT.start all_nil;exact ⟨(():Unit),⟨AHw (AJ3 A9 Ao),By,Aj⟩,trivial⟩
 rintro ⟨⟩ Bz Ap ⟨B1,B3,S64⟩;replace S64:Sp Ap h.size []:=S64;refine (show W _ _ _ (setL [] (mix _ Bz _)) Ap from ?_);subst B1;have Bb:=Am;(try dsimp only at Bb);refine ACu (ACu (ACv (AHo (AKc AJe rfl H2 (AHo (ACt (q_t (AHz ?_))))))));obtain ⟨Aq,B4,Bc⟩:=AHv Bb;obtain ⟨B5,B6,B7⟩:=AI0 B4;refine AIy 137170518172 (fun x:(Int)=>[(28,(.int .i64 x))]) (fun (k:Nat) (x:(Int)) (h':AHr)=>iter B5 k x=some Aq/\UpT [] Ap h'/\Sp h' h.size []) (by kernel_rfl) fuel (0:(Int)) ?_ ⟨rfl,trivial⟩ ?_
 ·exact ⟨B7,UpT.start all_nil,S64⟩
 rintro Ci Be B8 Bf ⟨B9,Bg,Ar⟩;replace Ar:Sp Bf h.size []:=Ar;refine (show W _ _ _ (setL [(28,(.int .i64 Be))] (mix _ B8 _)) Bf from ?_);have Au:=(Ag.thenT B3 all_nil).thenT Bg all_nil;obtain ⟨Ca,Cj,rfl,Af,Av⟩:=AIs B9;rw [B6] at Af;dsimp only at Af;unfold AOt at Af;refine ACu (ACv (AIp rfl rfl (AI6 _ _) (ACt (q_t (ACu (⟨_,rfl,fun Aw=>?_,fun Aw=>?_⟩))))))
 ·refine AH2 (q_t (ACu (AHz (ACu (ACv ?_)))));obtain ⟨Ck,Cb,Bh⟩:=AHv (AJ2 Af Aw);refine AQz AJe rfl H2 rfl Cb fun Cm Cn Co Cd Ce=>AIr AK8 rfl (AIc Cd Au) (AHq (ACt (q_t (ACu (ACv (AHo (ALe AKh rfl Ce (AHo (AIp rfl rfl (AP7 _ _) (ACt (q_t (⟨_,rfl,fun Ax=>?_,fun Ax=>?_⟩))))))))))))
  ·refine ACu (ACv (AHq (AHq (AHq (ACt (q_t ?_))))));obtain rfl:=AHw (AJ2 Bh Ax);have Bi:=Av;change _=Aq at Bi;subst Bi;have Bj:=Bc;(try dsimp only at Bj);refine AH1 (AJ0 (AIi (AIi (AJ0 (AIi ?_)))));obtain rfl:=AHw Bj;exact ⟨_,AO3,Au,rfl⟩
  ·refine AH2 (q_b (q_t (ACv (AJd rfl rfl (AHo (ACt (q_t ?_)))))));obtain rfl:=AHw (AJ3 Bh Ax);exact ⟨Ca,((w64 (Be + 1)):(Int)),Nat.lt_succ_self _,⟨Av,Bg,Ar⟩,rfl,trivial⟩
 ·obtain rfl:=AHw (AJ3 Af Aw);have Bl:=Av;change _=Aq at Bl;subst Bl;have Bm:=Bc;(try dsimp only at Bm);refine AIo (AIq (AIq (AJ5 (q_t (ACu (ACv (AHo (AKc AJe rfl H2 (AHo (AHq (AHq (AHq (ACt (q_t (AH1 ?_)))))))))))))));obtain rfl:=AHw Bm;exact ⟨_,AO3,Au,rfl⟩
def AQ4 (fuel:Nat) (a3:LiI) (Ab:Int) (Af:LiA) (Aa:Int) (Ac:LiI):Option ((Int × LiI) ⊕ ((LiI))):=
  (if Aa < (Af.length:Int) then ((gI Ac Ab).bind fun Ad=>((((gI a3 Ab).bind fun Ag=>((gI Ag Aa).bind fun Ah=>((Ab8 fuel Ah).bind fun Ai=>(some ( Ai))))):Option (Int)).bind fun Aj=>((gI Ad Aa).bind fun Ak=>(some (Sum.inl ((w64 (Aa + 1)),(sI Ac Ab (sI Ad Aa Aj)))))))) else (some (Sum.inr<| Ac)))
def AQ5 (fuel:Nat) (a3:LiI) (Ae:Int) (Ab:Int) (Aa:Int) (Ac:LiI):Option ((Int × LiI) ⊕ ((LiI))):=
  (if Aa < ((List.replicate (Int.toNat Ae) ([]:List Int)).length:Int) then (if 0<=Ab/\Ab<=100000000 then ((gI Ac Aa).bind fun Ah=>((gI (sI Ac Aa (List.replicate (Int.toNat Ab) (0:Int))) Aa).bind fun Af=>((iter (fun s=>AQ4 fuel a3 Aa Af s.1 s.2) fuel (0,(sI Ac Aa (List.replicate (Int.toNat Ab) (0:Int))))).bind (fun (Ag:LiI)=>(some (Sum.inl ((w64 (Aa + 1)),Ag))))))) else none) else (some (Sum.inr<| Ac)))
def AO0 (fuel:Nat) (a3:LiI):Option (LiI × Bool):=
  ((ANf fuel a3).bind fun (Aa,Ac,Ad)=>(if (!Ad)=true then (some ([],false)) else (((if 0<=Aa/\Aa<=100000000 then ((iter (fun s=>AQ5 fuel a3 Aa Ac s.1 s.2) fuel (0,(List.replicate (Int.toNat Aa) ([]:List Int)))).bind (fun (Ae:LiI)=>(some ( Ae)))) else none):Option (LiI)).bind fun Af=>(some (Af,true)))))
theorem AXp {fuel:Nat} {h:AHr} {Bi:Value} {a3:LiI} {r:(LiI × Bool)} (H2:AM9 (cI .i64) h Bi a3) (hp:AO0 fuel a3=some r):AIj Tryz.prog 110 #[Bi] h (fun x h'=>Ext h h'/\ ∃ (x0:Value) (F0:List Nat) (Dg:List LnA) (Dh:List Value),x= .tuple #[x0,.bool r.2]/\AI4 cZ 149 104 h' F0 Dg Dh x0 r.1/\Sp h' h.size [F0]):=by
 unfold AO0 at hp;refine AHx (l:=[_]) mx Tryz.func110 rfl rfl rfl rfl rfl (by kernel_rfl) (ACu (ACv (AN2 [Bi] trivial tt2 rfl (Ah9 (H2).isOne) fun b5 h6 V7 E8 S9=>AHq (AHq (ACt (q_t (ACu (ACv (AIr Auj rfl (V7.cell (i:=0) rfl) ?_)))))))));have F7:=E8.1;obtain ⟨⟨Dj,Dk,F8⟩,Dl,Bl⟩:=AHv hp;dsimp only at Bl;refine AHy trivial tt2 rfl (AV2 (H2.ext E8) Dl) fun F9 Ag A6 Dn=>?_;subst Dn;refine AHo (AI7 rfl rfl (AI7 rfl rfl (AI7 rfl rfl (AHq (AHq (AHq (ACt (q_t (ACu (ACu (ACv (AHo (AMj rfl (ACt (q_t ?_)))))))))))))));have Ga:=A6.1;have A7:=E8.trans A6;have Cg:=((AJ8 h h.size).app S9 E8.1 (Nat.le_refl _)).keep A6.1;refine ⟨_,rfl,fun Bm=>?_,fun Bm=>?_⟩
 ·refine ACu (ACv (AHq (AHq (ACt (q_t (AH1 (AIi ?_)))))));obtain rfl:=AHw (ifT Bl Bm);exact ⟨_,AKj,A7,_,_,_,_,rfl,(AMc cZ 149 104 Ag),Cg.addnil.sel [1] (by decide)⟩
 ·refine AH2 (q_t (ACu (ACv (AHo (AHo (Au4 rfl ?_))))));obtain ⟨Do,Dp,Dq⟩:=AHv (AQm Bl Bm);refine AIa (K':=(fun xr h'=> ∃ x:(LiI) × (Value) × LnA × LnN × LvA,x.1=Do/\xr=x.2.1/\UpT [] Ag h'/\Sp h' h.size [[b5],x.2.2.1]/\AI4 cZ 149 104 h' x.2.2.1 x.2.2.2.1 x.2.2.2.2 x.2.1 x.1/\(∀ z∈x.2.2.1,z∈[]∨Array.size Ag<=z))) trivial rfl ?_ fun Ch Ci Dr=>?_
  ·refine AHx (l:=[_,_,_]) mx Tryz.func170 rfl rfl rfl rfl rfl (by kernel_rfl) (ACu (ACv (AHq (ACt (q_t (ACu (ACv (AHo ?_))))))));obtain ⟨Ds,Dt⟩:=ifN Dp;refine AYe cZ 104 AJe Ag5 rfl trivial tt2 rfl rfl (by decide) Ds fun A8 Du Dv Ap Bn Bo Aq Cj=>AHq (ACt (q_t (ACu (ACu (ACv (AHo (AKc AJe rfl Bo.rd (AHo (ACt (q_t (AHz ?_)))))))))));have Gb:=Aq.1;have Bp:=Cg.app Cj Aq.1 A7.1;have Ck:=Cj.loAll 0 rfl;obtain ⟨Cm,Dw,Dx⟩:=AHv Dt;obtain ⟨Dy,Dz,D0⟩:=AI0 Dw;refine AIy 4398046495488 (fun x:(Int) × (LiI) × LnA × LnN × LvA=>[(14,(.int .i64 x.1))]) (fun (k:Nat) (x:(Int) × (LiI) × LnA × LnN × LvA) (h':AHr)=>iter Dy k (x.1,x.2.1)=some Cm/\UpT (A8 ++ []) Bn h'/\Sp h' h.size [[b5],x.2.2.1]/\AI4 cZ 149 104 h' x.2.2.1 x.2.2.2.1 x.2.2.2.2 Ap x.2.1/\(∀ z∈x.2.2.1,z∈(A8 ++ [])∨Array.size Bn<=z)) (by kernel_rfl) fuel ((0,(List.replicate (Int.toNat Dj) ([]:List Int)),A8,Du,Dv):(Int) × (LiI) × LnA × LnN × LvA) ?_ ⟨rfl,trivial⟩ ?_
   ·exact ⟨D0,UpT.start (AHp Bo.notD all_nil),Bp,Bo,(AH4 rfl)⟩
   rintro Gc ⟨Aa,Bq,Ar,Ad,Br⟩ D1 Bt ⟨D2,Au,A9,Ba,Ah⟩;replace Ba:AI4 cZ 149 104 Bt Ar Ad Br Ap Bq:=Ba;replace Ah:∀ z∈Ar,z∈(A8 ++ [])∨Array.size Bn<=z:=Ah;replace A9:Sp Bt h.size [[b5],Ar]:=A9;refine (show W _ _ _ (setL [(14,(.int .i64 Aa))] (mix _ D1 _)) Bt from ?_);have Gd:=Au.size;have Cn:=(A7.trans Aq).thenT Au (AHp (Bp.loAll 1 rfl) all_nil);obtain ⟨D3,Ge,rfl,Av,Co⟩:=AIs D2;rw [Dz] at Av;dsimp only at Av;unfold AQ5 at Av;refine ACu (ACv (AIp rfl rfl (AI6 _ _) (ACt (q_t (ACu (⟨_,rfl,fun Bu=>?_,fun Bu=>?_⟩))))))
   ·refine AH2 (q_t (ACu (AHz (ACu (ACv (AHo (AHq (ACt (q_t (ACu (ACv (AHo (AHo (AHo ?_))))))))))))));obtain ⟨D4,D5⟩:=ifN (AJ2 Av Bu);refine Ai0 AKh ALz rfl trivial tt2 rfl rfl (by decide) D4 fun Ae D6 D7 D8 Ai D9 Ea=>?_;have Cp:=ARl D9 Ea;have Gf:=Ai.1;have Cq:=Cn.trans Ai;have Bb:=A9.app Cp Ai.1 Cn.1;have Cr:=Cp.loAll 0 rfl;obtain ⟨Gg,Ct,Eb⟩:=AHv D5;have Cu:=Ba.ext Ai;refine AJs AJe rfl Cu rfl Ct fun Aj Gh Ec Gi Gj=>AZg AK8 Cu Ct Ec rfl rfl D8 (Bb.dj 2 1 rfl rfl (by decide)) fun Bc Ak Aw Ed=>?_;have Bv:∀ z∈(Aj :: (Ad.set (Int.toNat Aa) [Ae]).flatten),z∈Ar ++ [Ae]∨Array.size D7<=z:=(fun z hz=> .inl (Ed z hz));have Gk:=Aw.size;have Bw:Sp Bc h.size [(Aj :: (Ad.set (Int.toNat Aa) [Ae]).flatten),[b5]]:=(((Bb.sel [1,2,0] (by decide))).mrg).put 0 rfl Ak.nodup Aw.size Cq.1 Ak.lt Bv;refine ACt (q_t (ACu (ACv (AHo (AHo ?_)))));obtain ⟨Gl,Cv,Ee⟩:=AHv Eb;refine AJs AJe rfl Ak rfl Cv fun Gm Gn Gp Ef Eg=>AIr AK8 rfl Eg (ALe AKh rfl (Ak.rowI Ef Cv) (AHo (ACt (q_t (AHz ?_)))));obtain ⟨Cw,Eh,Ei⟩:=AHv Ee;obtain ⟨Ej,Ek,El⟩:=AI0 Eh;refine AIy 2198889038336 (fun x:(Int) × (LiI) × LnA × LnN × LvA=>[(27,(.int .i64 x.1))]) (fun (k:Nat) (x:(Int) × (LiI) × LnA × LnN × LvA) (h':AHr)=>iter Ej k (x.1,x.2.1)=some Cw/\UpT ((Aj :: (Ad.set (Int.toNat Aa) [Ae]).flatten) ++ []) Bc h'/\Sp h' h.size [x.2.2.1,[b5]]/\AI4 cZ 149 104 h' x.2.2.1 x.2.2.2.1 x.2.2.2.2 Ap x.2.1/\(∀ z∈x.2.2.1,z∈((Aj :: (Ad.set (Int.toNat Aa) [Ae]).flatten) ++ [])∨Array.size Bc<=z)) (by kernel_rfl) fuel ((0,(sI Bq Aa (List.replicate (Int.toNat Dk) (0:Int))),(Aj :: (Ad.set (Int.toNat Aa) [Ae]).flatten),(Ad.set (Int.toNat Aa) [Ae]),(Br.set (Int.toNat Aa) D6)):(Int) × (LiI) × LnA × LnN × LvA) ?_ ⟨rfl,trivial⟩ ?_
    ·exact ⟨El,UpT.start (AHp Ak.notD all_nil),Bw,Ak,(AH4 rfl)⟩
    rintro Gq ⟨Be,Bx,Af,By,Bz⟩ Em Ac ⟨En,Ax,Bf,Am,Ay⟩;replace Am:AI4 cZ 149 104 Ac Af By Bz Ap Bx:=Am;replace Ay:∀ z∈Af,z∈((Aj :: (Ad.set (Int.toNat Aa) [Ae]).flatten) ++ [])∨Array.size Bc<=z:=Ay;replace Bf:Sp Ac h.size [Af,[b5]]:=Bf;refine (show W _ _ _ (setL [(27,(.int .i64 Be))] (mix _ Em _)) Ac from ?_);have Gr:=Ax.size;have Cx:=(Cq.thenT Aw (Bb.loAll 1 rfl)).thenT Ax (AHp (Bw.loAll 0 rfl) all_nil);obtain ⟨Eo,Gt,rfl,Az,Cy⟩:=AIs En;rw [Ek] at Az;dsimp only at Az;unfold AQ4 at Az;refine ACu (ACv (AIp rfl rfl (AI6 _ _) (ACt (q_t (ACu (⟨_,rfl,fun B1=>?_,fun B1=>?_⟩))))))
    ·refine AH2 (q_t (ACu (AHz (ACu (ACv (AHo (AHq (ACt (q_t (AKf (fun h'=>UpT [] Ac h') (by kernel_rfl) ?_))))))))));have B3:UpT [] Ac Ac:=UpT.start all_nil;refine AHo (AHo ?_);obtain ⟨Ep,B4,Er⟩:=AHv (AJ2 Az B1);refine AJs AJe rfl Am rfl B4 fun Gu Gv Gw Es Et=>AK1 AK8 rfl B3 (fun h' hb=>AIc Et hb.ext) (AHo (AHo (AHo (AHo ?_))));obtain ⟨Eu,Ev,Ew⟩:=AHv Er;refine Abp (l:=[(.int .i64 Aa),(.int .i64 Be)]) (cl:=[(.pointer (some ⟨b5,0,none⟩))]) (K':=(fun xr h'=> ∃ x:(Int) × LvA,x.1=Eu/\xr=(.agg (x.2).toArray)/\UpT [] Ac h'/\Sp h' h.size [Af,[b5]]/\cZ.rep h' x.1 x.2)) B3 rfl rfl ?_ fun Gx Cz Ey=>?_
     ·refine AHx (l:=[_,_,_]) mx Tryz.func171 rfl rfl rfl rfl rfl (by kernel_rfl) (ACu (ACv (AI9 [.bool false,.slice none 0 0] ALz rfl trivial tt2 fun Gy Gz Ez Ao C0=>ACt (q_t (ACu (ACv (AIr Auj rfl ((((((((V7.ext A6).ext Aq).upT Au (AJc (Bp.dj 0 1 rfl rfl (by decide)) AI3)).ext Ai).upT Aw (Bb.dj 0 1 rfl rfl (by decide))).upT Ax (AJc (Bw.dj 1 0 rfl rfl (by decide)) AI3)).ext Ao).cell (i:=0) rfl) (AHo ?_))))))));have G0:=Ao.1;have C1:=Cx.trans Ao;have Fa:=C0.loAll 0 rfl;obtain ⟨G3,Fb,Fc⟩:=AHv Ev;refine AQz AJg rfl H2 rfl Fb fun G4 G5 G6 Fd Fe=>AIr AKg rfl (AIc Fd C1) (AHo ?_);obtain ⟨G7,Ff,Fg⟩:=AHv Fc;refine AR4 (c:=(cI .i64)) AJp rfl Fe rfl Ff fun G8 G9 Ha Fh Fi=>?_;obtain rfl:=Fh;refine AIr ALy rfl (AIc (Fi 0 _ rfl) C1) ?_;obtain ⟨Fj,Fk,Fl⟩:=AHv Fg;refine AHy trivial tt2 rfl (Ado Fk) fun Hb Hc A3 Fm=>?_;obtain ⟨Hd,rfl,Fo⟩:=Fm;have He:=A3.1;obtain ⟨C2,rfl,B5⟩:=Fo.cs;have C3:=Ez.ext A3;refine AIw C2 AH9 (cZ.klen B5) (cZ.klen (cZ.upT (cZ.upT (AIk Ac) Ao.upT) A3.upT)) rfl rfl (cZ.one B5) C3 fun Hf C4 Fp=>ACt (q_t (AH1 ?_));have Bg:=C4.stA Fp (AH8 C3 rfl) rfl;have Hg:=Bg.size;have C5:=cZ.upT B5 Bg;have Fq:UpT [] Ac Ac:=UpT.start all_nil;refine ⟨_,AJ7 AH9 (cZ.klen C5) rfl C4,((Fj,C2):(Int) × LvA),?_,rfl,?_,?_,?_⟩
      ·exact AHw Fl
      ·exact (((Fq.thenE Ao).thenE A3).then Bg (AJw Fa (by omega)))
      ·exact ((((Bf.app C0 Ao.1 Cx.1).keep A3.1).keep Bg.size).sel [0,1] (by decide))
      ·exact C5
     obtain ⟨⟨C6,Fr⟩,Ft,rfl,Bh,B6,A4⟩:=Ey;replace A4:cZ.rep Cz C6 Fr:=A4;replace B6:Sp Cz h.size [Af,[b5]]:=B6;have Hh:=Bh.size;refine ⟨(B3.then Bh all_nil),?_⟩;subst Ft;have C7:=Ew;(try dsimp only at C7);obtain ⟨Hj,C8,Fu⟩:=AHv C7;refine ALr (m:=Aa) AKh rfl Am Es B4 rfl C8 fun Hk Fv=>APj (m:=Aa) (AUw AH9 (cZ.klen A4) rfl rfl (cZ.one A4)) (Am.upT Bh AI3) Fv B4 C8 A4 fun Hl Fw B7=>ACt (q_b (q_t (ACv (AJd rfl rfl (AHo (ACt (q_t ?_)))))));have Hm:=B7.size;obtain rfl:=AHw Fu;exact ⟨Eo,(((w64 (Be + 1)),(sI Bx Aa (sI Ep Be C6)),Af,By,Bz):(Int) × (LiI) × LnA × LnN × LvA),Nat.lt_succ_self _,⟨Cy,((Ax.then Bh all_nil).then B7 (AH6 Ay (AHp (AH4 rfl) all_nil) (by omega))),(B6.keep B7.size),Fw,(AH6 Ay (AHp (AH4 rfl) all_nil) (by omega))⟩,rfl,trivial⟩
    ·obtain rfl:=AHw (AJ3 Az B1);have C9:=Cy;change _=Cw at C9;subst C9;have Da:=Ei;(try dsimp only at Da);refine AIo (AIq (AIq (AJ5 (q_b (q_t (ACv (AJd rfl rfl (AHo (ACt (q_t ?_))))))))));obtain rfl:=AHw Da;exact ⟨D3,(((w64 (Aa + 1)),Bx,Af,By,Bz):(Int) × (LiI) × LnA × LnN × LvA),Nat.lt_succ_self _,⟨Co,(((Au.thenE Ai).then Aw (AH6 Ah (AHp (AH4 rfl) all_nil) (by omega))).then Ax (AHp (AH6 Bv (AHp (AH6 Ah (AHp (AH4 rfl) all_nil) (by omega)) (AJw Cr (by omega))) (by omega)) all_nil)),(Bf.sel [1,0] (by decide)),Am,(AH6 Ay (AHp (AH6 Bv (AHp (AH6 Ah (AHp (AH4 rfl) all_nil) (by omega)) (AJw Cr (by omega))) (by omega)) all_nil) (by omega))⟩,rfl,trivial⟩
   ·obtain rfl:=AHw (AJ3 Av Bu);have Db:=Co;change _=Cm at Db;subst Db;have Dc:=Dx;(try dsimp only at Dc);refine AIo (AIq (AIq (AJ5 (q_t (ACu (ACv (AHo (AHq (ACt (q_t (AH1 ?_)))))))))));have Fx:UpT [] Ag Ag:=UpT.start all_nil;refine ⟨_,AH5,((Bq,Ap,Ar,Ad,Br):(LiI) × (Value) × LnA × LnN × LvA),?_,rfl,?_,?_,?_,?_⟩
    ·exact AHw Dc
    ·exact ((Fx.thenE Aq).then Au (AHp (AJw Ck (by omega)) all_nil))
    ·exact A9
    ·exact Ba
    ·exact (AH6 Ah (AHp (AJw Ck (by omega)) all_nil) (by omega))
  obtain ⟨⟨Fy,Ch,B8,Fz,F4⟩,F5,rfl,Dd,B9,Ca,De⟩:=Dr;replace Ca:AI4 cZ 149 104 Ci B8 Fz F4 Ch Fy:=Ca;replace De:∀ z∈B8,z∈[]∨Array.size Ag<=z:=De;replace B9:Sp Ci h.size [[b5],B8]:=B9;have Hn:=Dd.size;refine ⟨trivial,?_⟩;subst F5;have Df:=Dq;(try dsimp only at Df);refine AHq (AHq (ACt (q_t (AH1 ?_))));obtain rfl:=AHw Df;exact ⟨_,AKj,(A7.thenT Dd all_nil),_,_,_,_,rfl,Ca,B9.sel [1] (by decide)⟩
def APu (fuel:Nat) (a3:LiI) (Ac:Int) (Ad:LiI) (Aa:Int):Option ((Int) ⊕ ((Int))):=
  (((if Aa < (a3.length:Int) then ((gI Ad Aa).bind fun Ae=>((gI Ae Ac).bind fun Af=>((Adn fuel Af).bind fun Ag=>(if Ag=0 then (some (Sum.inl <| ())) else (some (Sum.inr <| ())))))) else (some (Sum.inr <| ()))):Option ((Unit) ⊕ (Unit))).bind (fun ex=>match ex with | Sum.inl _=>(some (Sum.inl (w64 (Aa + 1)))) | Sum.inr (_)=>(some (Sum.inr<| Aa))))
def APv (fuel:Nat) (a3:LiI) (Ad:Int) (Ag:Int) (Ah:Int) (Ae:Int) (Aa:Int) (Ab:LiI):Option ((Int × LiI) ⊕ ((LiI))):=
  (if Aa < (a3.length:Int) then ((gI Ab Ae).bind fun Ac=>((gI Ac Aa).bind fun Ai=>((Alz fuel Ah Ai).bind fun Aj=>((gI Ac Ad).bind fun Ak=>((gI Ab Ad).bind fun Am=>((gI Am Aa).bind fun Ao=>((Alz fuel Ak Ao).bind fun Ap=>((Auw fuel Aj Ap).bind fun Aq=>((AXn fuel Aq Ag).bind fun (Ar,Au,Av)=>(some (Sum.inl ((w64 (Aa + 1)),(sI Ab Ae (sI Ac Aa Ar)))))))))))))) else (some (Sum.inr<| Ab)))
def APw (fuel:Nat) (a3:LiI) (Ac:Int) (Ae:Int) (Af:Int) (Aa:Int) (Ad:LiI):Option ((Int × LiI) ⊕ ((LiI))):=
  (if Aa < (a3.length:Int) then ((iter (fun s=>APv fuel a3 Ac Ae Af Aa s.1 s.2) fuel ((w64 (Ac + 1)),Ad)).bind (fun (Ag:LiI)=>(some (Sum.inl ((w64 (Aa + 1)),Ag))))) else (some (Sum.inr<| Ad)))
def APx (fuel:Nat) (a3:LiI) (Ae:Bool) (Aa:Int) (Ab:LiI) (Af:Int):Option ((Bool × Int × LiI × Int) ⊕ ((Int) ⊕ (Bool × Int))):=
  (if Aa < (a3.length:Int) then ((((iter (fun s=>APu fuel a3 Aa Ab s) fuel Aa).bind (fun (Ai:Int)=>(some ( Ai)))):Option ((Int))).bind (fun (Ad:Int)=>(if Ad=(a3.length:Int) then (some (Sum.inr<| Sum.inl <| 0)) else (((if ¬ Ad=Aa then ((gI Ab Ad).bind fun Aj=>((gI Ab Aa).bind fun Ak=>(some ( ((!Ae),(sI (sI Ab Aa Aj) Ad Ak)))))) else (some ( (Ae,Ab)))):Option ((Bool × LiI))).bind (fun ((Am,Ag):Bool × LiI)=>((gI Ag Aa).bind fun Ao=>((gI Ao Aa).bind fun Ah=>((iter (fun s=>APw fuel a3 Aa Af Ah s.1 s.2) fuel ((w64 (Aa + 1)),Ag)).bind (fun (Ap:LiI)=>(some (Sum.inl (Am,(w64 (Aa + 1)),Ap,Ah)))))))))))) else (some (Sum.inr<| Sum.inr <| (Ae,Af))))
def APy (fuel:Nat) (a3:LiI) (Aa:Int) (Ac:LiI):Option ((Int × LiI) ⊕ ((LiI))):=
  (if Aa < (a3.length:Int) then ((gI a3 Aa).bind fun Ad=>(if 0<=(a3.length:Int)/\(a3.length:Int)<=100000000 then ((gI Ac Aa).bind fun Af=>((gI (sI Ac Aa (List.replicate (Int.toNat (a3.length:Int)) (0:Int))) Aa).bind fun Ae=>(if Ad.length=Ae.length/\0 < Ae.length then (some (Sum.inl ((w64 (Aa + 1)),(sI (sI Ac Aa (List.replicate (Int.toNat (a3.length:Int)) (0:Int))) Aa Ad)))) else none))) else none)) else (some (Sum.inr<| Ac)))
def ANg (fuel:Nat) (a3:LiI):Option Int:=
  (if 0<=(a3.length:Int)/\(a3.length:Int)<=100000000 then ((iter (fun s=>APy fuel a3 s.1 s.2) fuel (0,(List.replicate (Int.toNat (a3.length:Int)) ([]:List Int)))).bind (fun (Ac:LiI)=>((Ab8 fuel 1).bind fun Ad=>((iter (fun s=>APx fuel a3 s.1 s.2.1 s.2.2.1 s.2.2.2) fuel (false,0,Ac,Ad)).bind (fun ex=>match ex with | Sum.inl Ae=>(some Ae) | Sum.inr ((Af,Ab))=>(if Af=true then ((Aux fuel Ab).bind fun Ag=>(some Ag)) else ((AXo fuel Ab).bind fun Ah=>(some Ah)))))))) else none)
theorem AV3 {fuel:Nat} {h:AHr} {Fh:Value} {a3:LiI} {r:Int} (H2:AM9 cZ h Fh a3) (hp:ANg fuel a3=some r):AIj Tryz.prog 174 #[Fh] h (fun x h'=>Ext h h'/\ ∃ (x0:Value),x=x0/\ZZ h' x0 r):=by
 unfold ANg at hp;refine AHx (l:=[_]) mx Tryz.func174 rfl rfl rfl rfl rfl (by kernel_rfl) (ACu (ACv (AI9 [.bool false,.slice none 0 0] ALz rfl trivial tt2 fun b5 h6 V7 E8 S9=>ACt (q_t (ACu (ACv (AHo (AKc AJe rfl H2 (AHq (ACt (q_t (ACu (ACv (AHo ?_))))))))))))));have Dd:=AIk h;have Om:=E8.1;obtain ⟨If,Ih⟩:=ifN hp;refine AYe cZ 104 AJe Ag5 rfl trivial tt2 rfl rfl (by decide) If fun Cr Ii Ij Am De Fj Au Ik=>AHq (ACt (q_t (ACu (ACu (ACv (AHo (AKc AJe rfl H2 (AHo (ACt (q_t (AHz ?_)))))))))));have On:=Au.1;have By:=((AJ8 h h.size).app S9 E8.1 (Nat.le_refl _)).app Ik Au.1 E8.1;obtain ⟨Fk,Il,Im⟩:=AHv Ih;obtain ⟨Io,Ip,Iq⟩:=AI0 Il;refine AIy 274875809888 (fun x:(Int) × (LiI) × LnA × LnN × LvA=>[(21,(.int .i64 x.1))]) (fun (k:Nat) (x:(Int) × (LiI) × LnA × LnN × LvA) (h':AHr)=>iter Io k (x.1,x.2.1)=some Fk/\UpT (Cr ++ []) De h'/\Sp h' h.size [[b5],x.2.2.1]/\AI4 cZ 149 104 h' x.2.2.1 x.2.2.2.1 x.2.2.2.2 Am x.2.1/\(∀ z∈x.2.2.1,z∈(Cr ++ [])∨Array.size De<=z)) (by kernel_rfl) fuel ((0,(List.replicate (Int.toNat (a3.length:Int)) ([]:List Int)),Cr,Ii,Ij):(Int) × (LiI) × LnA × LnN × LvA) ?_ ⟨rfl,trivial⟩ ?_
 ·exact ⟨Iq,UpT.start (AHp Fj.notD all_nil),By,Fj,(AH4 rfl)⟩
 rintro Oo ⟨Ag,Df,A4,Bh,Dg⟩ Ir Dh ⟨Is,Av,Ct,Cu,Bz⟩;replace Cu:AI4 cZ 149 104 Dh A4 Bh Dg Am Df:=Cu;replace Bz:∀ z∈A4,z∈(Cr ++ [])∨Array.size De<=z:=Bz;replace Ct:Sp Dh h.size [[b5],A4]:=Ct;refine (show W _ _ _ (setL [(21,(.int .i64 Ag))] (mix _ Ir _)) Dh from ?_);have Oq:=Av.size;have Cv:=(E8.trans Au).thenT Av (AHp (By.loAll 1 rfl) all_nil);obtain ⟨It,Ot,rfl,B1,Fl⟩:=AIs Is;rw [Ip] at B1;dsimp only at B1;unfold APy at B1;refine ACu (ACv (AIp rfl rfl (AI6 _ _) (ACt (q_t (ACu (⟨_,rfl,fun Di=>?_,fun Di=>?_⟩))))))
 ·refine AH2 (q_t (ACu (AHz (ACu (ACv (AHo ?_))))));obtain ⟨Iu,Iv,Iw⟩:=AHv (AJ2 B1 Di);refine AQz AJe rfl H2 rfl Iv fun Ou Ov Ow Ix Iy=>AIr AK8 rfl (AIc Ix Cv) (AHq (AHq (ACt (q_t (ACu (ACv (AHo (AHo (AHo ?_)))))))));obtain ⟨Iz,I0⟩:=ifN Iw;refine Ai0 AKh ALz rfl trivial tt2 rfl rfl (by decide) Iz fun Bp I1 I2 I3 B3 I6 I9=>?_;have Fm:=ARl I6 I9;have Ox:=B3.1;have Fo:=Cv.trans B3;have Dj:=Ct.app Fm B3.1 Cv.1;have Fp:=Fm.loAll 0 rfl;obtain ⟨Oy,Fq,Ja⟩:=AHv I0;have Fr:=Cu.ext B3;refine AJs AJe rfl Fr rfl Fq fun Cw Oz Jc O0 O1=>AZg AK8 Fr Fq Jc rfl rfl I3 (Dj.dj 2 1 rfl rfl (by decide)) fun Je Cx Cy Jf=>?_;have Dk:∀ z∈(Cw :: (Bh.set (Int.toNat Ag) [Bp]).flatten),z∈A4 ++ [Bp]∨Array.size I2<=z:=(fun z hz=> .inl (Jf z hz));have O2:=Cy.size;have Jg:Sp Je h.size [(Cw :: (Bh.set (Int.toNat Ag) [Bp]).flatten),[b5]]:=(((Dj.sel [1,2,0] (by decide))).mrg).put 0 rfl Cx.nodup Cy.size Fo.1 Cx.lt Dk;refine ACt (q_t (ACv (AHo (AHo ?_))));obtain ⟨O3,Ft,Jh⟩:=AHv Ja;refine AJs AJe rfl Cx rfl Ft fun O4 O5 O6 Ji Jj=>AIr AK8 rfl Jj (AHo ?_);obtain ⟨Jk,Jl⟩:=ifN Jh;refine Arf (m:=Ag) AKh trivial rfl rfl Cx Ji Ft (Iy.ext (Fo.thenT Cy (Dj.loAll 1 rfl))) Jk fun Jm Jn Dl=>⟨trivial,?_⟩;have O7:=Dl.size;have Jo:Sp Jm h.size [(Cw :: (Bh.set (Int.toNat Ag) [Bp]).flatten),[b5]]:=Jg.keep Dl.size;refine ACt (q_b (q_t (ACv (AJd rfl rfl (AHo (ACt (q_t ?_)))))));obtain rfl:=AHw Jl;exact ⟨It,(((w64 (Ag + 1)),(sI (sI Df Ag (List.replicate (Int.toNat (a3.length:Int)) (0:Int))) Ag Iu),(Cw :: (Bh.set (Int.toNat Ag) [Bp]).flatten),(Bh.set (Int.toNat Ag) [Bp]),(Dg.set (Int.toNat Ag) I1)):(Int) × (LiI) × LnA × LnN × LvA),Nat.lt_succ_self _,⟨Fl,(((Av.thenE B3).then Cy (AH6 Bz (AHp (AH4 rfl) all_nil) (by omega))).then Dl (AH6 Dk (AHp (AH6 Bz (AHp (AH4 rfl) all_nil) (by omega)) (AJw Fp (by omega))) (by omega))),(Jo.sel [1,0] (by decide)),Jn,(AH6 Dk (AHp (AH6 Bz (AHp (AH4 rfl) all_nil) (by omega)) (AJw Fp (by omega))) (by omega))⟩,rfl,trivial⟩
 ·obtain rfl:=AHw (AJ3 B1 Di);have Fu:=Fl;change _=Fk at Fu;subst Fu;have Fv:=Im;(try dsimp only at Fv);refine AIo (AIq (AIq (AJ5 (q_t (ACu (ACv (AHq (ACt (q_t (ACu (ACv ?_)))))))))));obtain ⟨Jp,Jq,Jr⟩:=AHv Fv;refine AHy trivial tt2 rfl (Ado Jq) fun O8 Js Ao Jt=>?_;obtain ⟨O9,rfl,Ju⟩:=Jt;have Pa:=Ao.1;have Fw:=Cv.trans Ao;obtain ⟨Fx,rfl,Jv⟩:=Ju.cs;refine AI9 [.bool false,.slice none 0 0] ALz rfl trivial tt2 fun Aa Pb Fy Ae Jw=>?_;have Pc:=Ae.1;have Bq:=(Ct.keep Ao.1).app Jw Ae.1 Fw.1;have Dn:=cZ.upT Jv Ae.upT;refine AIw Fx AH9 (cZ.klen Dn) (cZ.klen (cZ.upT (AIk Js) Ae.upT)) rfl rfl (cZ.one Dn) Fy fun Do Dp Jx=>ACt (q_t (ACu (ACu (ACv (AHo (AHo (ACt (q_t (AHz ?_)))))))));have Ah:=Dp.stA Jx (AH8 Fy rfl) rfl;have Pd:=Ah.size;have Aw:=Bq.keep Ah.size;obtain ⟨Dq,Jy,Fz⟩:=AHv Jr;obtain ⟨Jz,J0,J1⟩:=AI0 Jy;have F4:=((Cu.ext Ao).ext Ae).upT Ah (Bq.dj 1 2 rfl rfl (by decide));refine AIy 22300745198530623141535718272647261994385024 (fun x:(Bool) × (Int) × (LiI) × LnA × LnN × LvA × (Int) × LvA=>[(7,(.bool x.1)),(40,(.int .i64 x.2.1))]) (fun (k:Nat) (x:(Bool) × (Int) × (LiI) × LnA × LnN × LvA × (Int) × LvA) (h':AHr)=>iter Jz k (x.1,x.2.1,x.2.2.1,x.2.2.2.2.2.2.1)=some Dq/\UpT (A4 ++ ([Aa] ++ [])) Do h'/\Sp h' h.size [[b5],x.2.2.2.1,[Aa]]/\AI4 cZ 149 104 h' x.2.2.2.1 x.2.2.2.2.1 x.2.2.2.2.2.1 Am x.2.2.1/\(∀ z∈x.2.2.2.1,z∈(A4 ++ ([Aa] ++ []))∨Array.size Do<=z)/\cZ.rep h' x.2.2.2.2.2.2.1 x.2.2.2.2.2.2.2/\AI1 104 h' Aa x.2.2.2.2.2.2.2) (by kernel_rfl) fuel ((false,0,Df,A4,Bh,Dg,Jp,Fx):(Bool) × (Int) × (LiI) × LnA × LnN × LvA × (Int) × LvA) ?_ ⟨rfl,rfl,trivial⟩ ?_
  ·exact ⟨J1,UpT.start (AHp F4.notD (AHp (AH8 Dp rfl) all_nil)),Aw,F4,(AH4 rfl),(cZ.upT Dn Ah),Dp⟩
  rintro Pe ⟨Dr,A5,Ds,Ac,F5,F6,J2,B4⟩ J3 Ai ⟨J4,Ax,B5,Cz,B6,A6,Br⟩;replace Cz:AI4 cZ 149 104 Ai Ac F5 F6 Am Ds:=Cz;replace B6:∀ z∈Ac,z∈(A4 ++ ([Aa] ++ []))∨Array.size Do<=z:=B6;replace A6:cZ.rep Ai J2 B4:=A6;replace Br:AI1 104 Ai Aa B4:=Br;replace B5:Sp Ai h.size [[b5],Ac,[Aa]]:=B5;refine (show W _ _ _ (setL [(7,(.bool Dr)),(40,(.int .i64 A5))] (mix _ J3 _)) Ai from ?_);have Pf:=Ax.size;have Dt:=((Fw.trans Ae).thenT Ah (Bq.loAll 2 rfl)).thenT Ax (AHp (Aw.loAll 1 rfl) (AHp (Aw.loAll 2 rfl) all_nil));obtain ⟨J5,Pg,rfl,B7,Du⟩:=AIs J4;rw [J0] at B7;dsimp only at B7;unfold APx at B7;refine ACu (ACv (AIp rfl rfl (AI6 _ _) (ACt (q_t (ACu (⟨_,rfl,fun Dv=>?_,fun Dv=>?_⟩))))))
  ·refine AH2 (q_t (ACu (AHz (ACu (ACv (AHo (AHq (ACt (q_t (ACu (ACv (AHo (AHq (ACt (q_t ?_)))))))))))))));obtain ⟨J6,J7,J8⟩:=AHv (AJ2 B7 Dv);refine AMu 1152903912420803584 (fun x:(Int)=>[(10,(.int .i64 x))]) (fun (x:(Int)) (h':AHr)=>( x)=J6/\UpT [] Ai h'/\Sp h' h.size [[b5],Ac,[Aa]]) (by kernel_rfl) ?_ ?_
   ·refine AHz ?_;obtain ⟨Dw,J9,F7⟩:=AHv J7;obtain ⟨Ka,Kb,Kc⟩:=AI0 J9;refine AIy 1152903912420803584 (fun x:(Int)=>[(10,(.int .i64 x))]) (fun (k:Nat) (x:(Int)) (h':AHr)=>iter Ka k x=some Dw/\UpT [] Ai h'/\Sp h' h.size [[b5],Ac,[Aa]]) (by kernel_rfl) fuel (A5:(Int)) ?_ ⟨rfl,trivial⟩ ?_
    ·exact ⟨Kc,UpT.start all_nil,B5⟩
    rintro Ph A7 Kd B8 ⟨Ke,B9,C0⟩;replace C0:Sp B8 h.size [[b5],Ac,[Aa]]:=C0;refine (show W _ _ _ (setL [(10,(.int .i64 A7))] (mix _ Kd _)) B8 from ?_);have Pj:=B9.size;obtain ⟨Kf,Pk,rfl,C1,Dx⟩:=AIs Ke;rw [Kb] at C1;dsimp only at C1;unfold APu at C1;obtain ⟨Kg,F8,Dy⟩:=AHv C1;refine AMu 288212783965667328 (fun x:Unit=>[]) (fun (x:Unit) (h':AHr)=>(Sum.inl <| ())=Kg/\UpT [] B8 h'/\Sp h' h.size [[b5],Ac,[Aa]]) (by kernel_rfl) ?_ ?_
    ·refine ACu (ACv (AHo (AHo (AIp rfl rfl (AI6 _ _) (AHo ?_)))));rcases Decidable.em (A7 < (a3.length:Int)) with Ca | Ca
     ·rw [show decide (A7 < (a3.length:Int))=true from decide_eq_true Ca];refine AH3 47 true (by kernel_rfl) rfl rfl (AHo (AH3 47 true (by kernel_rfl) rfl rfl (AHo (AH3 47 true (by kernel_rfl) rfl rfl ?_))));obtain ⟨Pl,Dz,Kh⟩:=AHv (ifT F8 Ca);have D0:=Cz.upT B9 AI3;refine AJs AJe rfl D0 rfl Dz fun Pm Pn Po Ki Kj=>AH3 47 true (by kernel_rfl) rfl rfl (AIr AK8 rfl Kj (AH3 47 true (by kernel_rfl) rfl rfl (AHo (AH3 47 true (by kernel_rfl) rfl rfl ?_))));obtain ⟨Pp,F9,Kk⟩:=AHv Kh;refine ALr (m:=A7) AKh rfl D0 Ki Dz rfl F9 fun Pq Kl=>AH3 47 true (by kernel_rfl) rfl rfl ?_;obtain ⟨Ps,Km,Kn⟩:=D0.cells Kl Dz F9;have Ga:=Km;refine AUv (c:=cZ) AH9 rfl Ga (fun j u hu=>(Kn j u hu)) (AH3 47 true (by kernel_rfl) rfl rfl ?_);obtain ⟨Pt,Ko,Gb⟩:=AHv Kk;refine AHy trivial tt2 rfl (Ab9 Ga.2 Ko) fun Pu Pv C2 Kp=>?_;subst Kp;refine AH3 47 true (by kernel_rfl) rfl rfl (AIp rfl rfl (AMi _ _) (AIt rfl (ACt (q_t ?_))));have Pw:=C2.1;have Gc:=C0.keep C2.1;refine ⟨_,rfl,fun D1=>?_,fun D1=>?_⟩
      ·refine AH2 (q_t ?_);have Kr:UpT [] B8 B8:=UpT.start all_nil;exact ⟨(():Unit),⟨AHw (AJ2 Gb D1),(Kr.thenE C2),Gc⟩,trivial⟩
      ·obtain rfl:=AHw (AJ3 Gb D1);have Gd:=Dy;(try dsimp only at Gd);obtain rfl:=AHw Gd;have Ge:=Dx;change _=Dw at Ge;subst Ge;have Gf:=F7;(try dsimp only at Gf);refine AIo (AIq (AIq (AJ5 (q_t ?_))));have Kt:UpT [] Ai Ai:=UpT.start all_nil;exact ⟨(A7:(Int)),⟨AHw Gf,((Kt.then B9 all_nil).thenE C2),Gc⟩,rfl,trivial⟩
     ·rw [show decide (A7 < (a3.length:Int))=false from decide_eq_false Ca];refine AH0 47 false (by kernel_rfl) rfl rfl (AH0 47 false (by kernel_rfl) rfl rfl (AH0 47 false (by kernel_rfl) rfl rfl (AH0 47 false (by kernel_rfl) rfl rfl (AH0 47 false (by kernel_rfl) rfl rfl (AH0 47 false (by kernel_rfl) rfl rfl (AH0 47 false (by kernel_rfl) rfl rfl (AH0 47 false (by kernel_rfl) rfl rfl (AH0 47 false (by kernel_rfl) rfl rfl (AIv rfl (ACt (q_t (AId rfl ?_))))))))))));obtain rfl:=AHw (ifF F8 Ca);have Gg:=Dy;(try dsimp only at Gg);obtain rfl:=AHw Gg;have Gh:=Dx;change _=Dw at Gh;subst Gh;have Gi:=F7;(try dsimp only at Gi);refine AIo (AIq (AIq (AJ5 (q_t ?_))));have Ku:UpT [] Ai Ai:=UpT.start all_nil;exact ⟨(A7:(Int)),⟨AHw Gi,(Ku.then B9 all_nil),C0⟩,rfl,trivial⟩
    rintro ⟨⟩ Kv Gj ⟨Kw,Gk,D2⟩;replace D2:Sp Gj h.size [[b5],Ac,[Aa]]:=D2;refine (show W _ _ _ (setL [] (mix _ Kv _)) Gj from ?_);have Px:=Gk.size;subst Kw;have Gl:=Dy;(try dsimp only at Gl);refine AHz (ACv (AHo (AJd rfl rfl (AHq (ACt (q_b (q_t ?_)))))));obtain rfl:=AHw Gl;exact ⟨Kf,((w64 (A7 + 1)):(Int)),Nat.lt_succ_self _,⟨Dx,(B9.then Gk all_nil),D2⟩,rfl,trivial⟩
   rintro Gm Kx Ap ⟨Ky,Aq,A8⟩;replace A8:Sp Ap h.size [[b5],Ac,[Aa]]:=A8;refine (show W _ _ _ (setL [(10,(.int .i64 Gm))] (mix _ Kx _)) Ap from ?_);have Py:=Aq.size;have D3:=Dt.thenT Aq all_nil;subst Ky;have D4:=J8;(try dsimp only at D4);refine ACu (ACu (ACv (AHo (AHo (AIp rfl rfl (AMi _ _) (ACt (q_t (⟨_,rfl,fun D5=>?_,fun D5=>?_⟩))))))))
   ·refine ACu (ACv (AM7 (ASi ) ?_));have D6:=AIk Ap;have Gn:=((((((V7.ext Au).upT Av (AJc (By.dj 0 1 rfl rfl (by decide)) AI3)).ext Ao).ext Ae).upT Ah (Bq.dj 0 2 rfl rfl (by decide))).upT Ax (AJc (Aw.dj 0 1 rfl rfl (by decide)) (AJc (Aw.dj 0 2 rfl rfl (by decide)) AI3))).upT Aq AI3;refine AIw [Value.bool false,Value.slice none 0 0] AH9 (cZ.klen D6) (cZ.klen (cZ.upT (cZ.upT (cZ.upT (cZ.upT (cZ.upT (cZ.upT (cZ.upT (cZ.upT Dd E8.upT) Au.upT) Av) Ao.upT) Ae.upT) Ah) Ax) Aq)) rfl rfl (cZ.one D6) Gn fun Pz Gp Kz=>ACt (q_t ?_);have D7:=Gp.stA Kz (AH8 Gn rfl) rfl;have P0:=D7.size;obtain rfl:=AHw (AJ2 D4 D5);have Gq:=Du;change _=Dq at Gq;subst Gq;have Gr:=Fz;(try dsimp only at Gr);refine AH1 (AIi (AJ0 (AIi (AIi (AJ0 (AIi ?_))))));obtain rfl:=AHw Gr;have Gt:=cZ.upT D6 D7;exact ⟨_,AJ7 AH9 (cZ.klen Gt) rfl Gp,(D3.thenT D7 (A8.loAll 0 rfl)),_,rfl,Gt.2⟩
   ·refine AH2 (q_t ?_);obtain ⟨K0,Gu,K3⟩:=AHv (AJ3 D4 D5);have Bt:=Cz.upT Aq AI3;refine AMu 9671388110172959688097920 (fun x:(Bool) × (LiI) × LnA × LnN × LvA=>[(7,(.bool x.1))]) (fun (x:(Bool) × (LiI) × LnA × LnN × LvA) (h':AHr)=>( (x.1,x.2.1))=K0/\UpT (Ac ++ []) Ap h'/\Sp h' h.size [[b5],x.2.2.1,[Aa]]/\AI4 cZ 149 104 h' x.2.2.1 x.2.2.2.1 x.2.2.2.2 Am x.2.1/\(∀ z∈x.2.2.1,z∈(Ac ++ [])∨Array.size Ap<=z)) (by kernel_rfl) ?_ ?_
    ·refine ACu (ACv (AHo (AHo (AIp rfl rfl (AP7 _ _) (ACt (q_t (⟨_,rfl,fun D8=>?_,fun D8=>?_⟩)))))))
     ·refine ACu (ALp (by kernel_rfl) (AHo (AHo (AHo (AHo (AHo (AHo ?_)))))));obtain ⟨K4,Gv,K5⟩:=AHv (AJ2 Gu D8);refine AJs AJe rfl Bt rfl Gv fun P1 P2 P3 K6 K7=>AIr AK8 rfl K7 (AHo (AHo ?_));obtain ⟨K8,Gw,K9⟩:=AHv K5;refine AJs AJe rfl Bt rfl Gw fun P4 P5 P6 La Lb=>AIr AK8 rfl Lb (AYw AJe AK8 Bt La K6 Gw Gv rfl rfl (fun _=>rfl) (fun _=>rfl) (fun _=>rfl) (fun _ _=>rfl) fun P7 P8 Lc Ld Le P9 D9 Ea Gx=>ACt (q_t (ACv (AHo (AMj rfl (AHq (ACt (q_t ?_))))))));have Qa:=Ea.size;have Lf:UpT (Ac ++ []) Ap Ap:=UpT.start (AHp Bt.notD all_nil);exact ⟨(((!Dr),(sI (sI Ds A5 K4) Gm K8),Lc,Ld,Le):(Bool) × (LiI) × LnA × LnN × LvA),⟨AHw K9,(Lf.then Ea (AH4 rfl)),(A8.put 1 rfl D9.nodup Ea.size D3.1 D9.lt Gx),D9,(AH6 Gx (AH4 rfl) (by omega))⟩,rfl,trivial⟩
     ·refine AH2 (q_t ?_);have Lg:UpT (Ac ++ []) Ap Ap:=UpT.start (AHp Bt.notD all_nil);exact ⟨((Dr,Ds,Ac,F5,F6):(Bool) × (LiI) × LnA × LnN × LvA),⟨AHw (AJ3 Gu D8),Lg,A8,Bt,(AH4 rfl)⟩,rfl,trivial⟩
    rintro ⟨Gy,Gz,Bi,G0,G3⟩ Lh C3 ⟨Li,Bj,Eb,Bu,C4⟩;replace Bu:AI4 cZ 149 104 C3 Bi G0 G3 Am Gz:=Bu;replace C4:∀ z∈Bi,z∈(Ac ++ [])∨Array.size Ap<=z:=C4;replace Eb:Sp C3 h.size [[b5],Bi,[Aa]]:=Eb;refine (show W _ _ _ (setL [(7,(.bool Gy))] (mix _ Lh _)) C3 from ?_);have Qb:=Bj.size;have G4:=D3.thenT Bj (AHp (A8.loAll 1 rfl) all_nil);subst Li;have G5:=K3;(try dsimp only at G5);refine ACu (ACv (AHo (AHo ?_)));obtain ⟨Qc,Ec,Lj⟩:=AHv G5;refine AJs AJe rfl Bu rfl Ec fun Qd Qe Qf Lk Ll=>AIr AK8 rfl Ll (AHo ?_);obtain ⟨Lm,G6,Ln⟩:=AHv Lj;refine ALr (m:=A5) AKh rfl Bu Lk Ec rfl G6 fun Qg Lo=>?_;obtain ⟨Cb,Lq,Lr⟩:=Bu.cells Lo Ec G6;have G7:=Lq;refine AUv (c:=cZ) AH9 rfl G7 (fun j u hu=>(Lr j u hu)) (AI9 [.bool false,.slice none 0 0] ALz rfl trivial tt2 fun C5 Qh G8 Aj G9=>?_);have Qi:=Aj.1;have Cd:=Eb.app G9 Aj.1 G4.1;have Lv:=G9.loAll 0 rfl;have C6:=cZ.upT G7 Aj.upT;refine AIw Cb AH9 (cZ.klen C6) (cZ.klen (cZ.upT (AIk C3) Aj.upT)) rfl rfl (cZ.one C6) G8 fun Ed Ee Lw=>ACt (q_t (ACu (ACu (ACv (AHo (AJd rfl rfl (AHq (ACt (q_t (AHz ?_))))))))));have Ak:=Ee.stA Lw (AH8 G8 rfl) rfl;have Qj:=Ak.size;have Bv:=Cd.keep Ak.size;obtain ⟨Ha,Lx,Ly⟩:=AHv Ln;obtain ⟨Lz,L0,Ma⟩:=AI0 Lx;have Hb:=(Bu.ext Aj).upT Ak (Cd.dj 1 3 rfl rfl (by decide));refine AIy 5575186299632650833623772426640990780026880 (fun x:(Int) × (LiI) × LnA × LnN × LvA=>[(12,(.int .i64 x.1))]) (fun (k:Nat) (x:(Int) × (LiI) × LnA × LnN × LvA) (h':AHr)=>iter Lz k (x.1,x.2.1)=some Ha/\UpT (Bi ++ []) Ed h'/\Sp h' h.size [[b5],x.2.2.1,[Aa],[C5]]/\AI4 cZ 149 104 h' x.2.2.1 x.2.2.2.1 x.2.2.2.2 Am x.2.1/\(∀ z∈x.2.2.1,z∈(Bi ++ [])∨Array.size Ed<=z)) (by kernel_rfl) fuel (((w64 (A5 + 1)),Gz,Bi,G0,G3):(Int) × (LiI) × LnA × LnN × LvA) ?_ ⟨rfl,trivial⟩ ?_
    ·exact ⟨Ma,UpT.start (AHp Hb.notD all_nil),Bv,Hb,(AH4 rfl)⟩
    rintro Qk ⟨Bl,Ef,A9,Eg,Eh⟩ Mb Bw ⟨Mc,Af,Ba,Ce,Cf⟩;replace Ce:AI4 cZ 149 104 Bw A9 Eg Eh Am Ef:=Ce;replace Cf:∀ z∈A9,z∈(Bi ++ [])∨Array.size Ed<=z:=Cf;replace Ba:Sp Bw h.size [[b5],A9,[Aa],[C5]]:=Ba;refine (show W _ _ _ (setL [(12,(.int .i64 Bl))] (mix _ Mb _)) Bw from ?_);have Ql:=Af.size;obtain ⟨Md,Qm,rfl,Cg,Hc⟩:=AIs Mc;rw [L0] at Cg;dsimp only at Cg;unfold APw at Cg;refine ACu (ACu (ACv (AHo (AHo (AIp rfl rfl (AI6 _ _) (ACt (q_t (⟨_,rfl,fun Ei=>?_,fun Ei=>?_⟩))))))))
    ·refine AH2 (q_t (ACu (AHz (ACu (ACv (AHo (AJd rfl rfl (AHq (ACt (q_t (AHz ?_)))))))))));obtain ⟨Hd,Me,Mf⟩:=AHv (AJ2 Cg Ei);obtain ⟨Mg,Mh,Mi⟩:=AI0 Me;refine AIy 5575186299632021960083815453461342024916992 (fun x:(Int) × (LiI) × LnA × LnN × LvA=>[(13,(.int .i64 x.1))]) (fun (k:Nat) (x:(Int) × (LiI) × LnA × LnN × LvA) (h':AHr)=>iter Mg k (x.1,x.2.1)=some Hd/\UpT (A9 ++ []) Bw h'/\Sp h' h.size [[b5],x.2.2.1,[Aa],[C5]]/\AI4 cZ 149 104 h' x.2.2.1 x.2.2.2.1 x.2.2.2.2 Am x.2.1/\(∀ z∈x.2.2.1,z∈(A9 ++ [])∨Array.size Bw<=z)) (by kernel_rfl) fuel (((w64 (A5 + 1)),Ef,A9,Eg,Eh):(Int) × (LiI) × LnA × LnN × LvA) ?_ ⟨rfl,trivial⟩ ?_
     ·exact ⟨Mi,UpT.start (AHp Ce.notD all_nil),Ba,Ce,(AH4 rfl)⟩
     rintro Qn ⟨Ej,Ek,Ch,El,Em⟩ Mj Bx ⟨Mk,Bb,C7,Ad,Ci⟩;replace Ad:AI4 cZ 149 104 Bx Ch El Em Am Ek:=Ad;replace Ci:∀ z∈Ch,z∈(A9 ++ [])∨Array.size Bw<=z:=Ci;replace C7:Sp Bx h.size [[b5],Ch,[Aa],[C5]]:=C7;refine (show W _ _ _ (setL [(13,(.int .i64 Ej))] (mix _ Mj _)) Bx from ?_);have Qo:=Bb.size;obtain ⟨Ml,Qp,rfl,Cj,He⟩:=AIs Mk;rw [Mh] at Cj;dsimp only at Cj;unfold APv at Cj;refine ACu (ACu (ACv (AHo (AHo (AIp rfl rfl (AI6 _ _) (ACt (q_t (⟨_,rfl,fun En=>?_,fun En=>?_⟩))))))))
     ·refine AH2 (q_t (ACu (AHz (ACu ?_))));have Ck:UpT [] Bx Bx:=UpT.start all_nil;refine AZv (B:=fun h'=>UpT [] Bx h') 25 [⟨14,104,[.bool false,.slice none 0 0]⟩] (fun _ _ U E=>U.thenE E) (by kernel_rfl) Ck (Ajn rfl ALz rfl (fun _ _ U E=>U.thenE E)) (h_l rfl ?_);have Hf:=cZ.upT (cZ.upT (cZ.upT C6 Ak) Af) Bb;refine AKk Cb AH9 (cZ.klen Hf) rfl Ck (fun h' hb=>(((Ee.upT Af (AJc (Bv.dj 3 1 rfl rfl (by decide)) AI3)).upT Bb (AJc (Ba.dj 3 1 rfl rfl (by decide)) AI3)).ext hb.ext).agg) (ACt (h_l rfl (AHo (ACt (h_l rfl (AHo (ACt (h_l rfl ?_))))))));obtain ⟨Mm,Ay,Mo⟩:=AHv (AJ2 Cj En);refine AJs AJe rfl Ad rfl Ay fun Qq Qr Qs Mq Mr=>ACt (h_l rfl (AK1 AK8 rfl Ck (fun h' hb=>AIc Mr hb.ext) (ACt (h_l rfl (AHo (ACt (h_l rfl ?_)))))));obtain ⟨Qt,C8,Ms⟩:=AHv Mo;refine ALr (m:=Bl) AKh rfl Ad Mq Ay rfl C8 fun Qu Mt=>ACt (h_l rfl ?_);obtain ⟨Qv,Hg,Mu⟩:=Ad.cells Mt Ay C8;refine AU8 (c:=cZ) AH9 rfl Hg Ck (fun h' hb j u hu=>AIc (Mu j u hu) hb.ext) (ACt (h_e rfl fun Qw Ar=>?_));have Qx:=Ar.1;have Eo:=Ck.thenE Ar;obtain ⟨Qy,Mv,Mw⟩:=AHv Ms;refine AHy Eo (fun _ E=>Eo.thenE E) rfl (Aj4 (cZ.upT Hf Ar.upT).2 (cZ.upT Hg Ar.upT).2 Mv) fun Qz Q0 Az Mx=>?_;obtain ⟨Q1,rfl,My⟩:=Mx;have Q2:=Az.1;have Cm:=Eo.thenE Az;obtain ⟨Q3,rfl,Mz⟩:=My.cs;refine ACt ⟨Az,?_⟩;refine h_l rfl (AHo (ACt (h_l rfl (AHo (ACt (h_l rfl (AJs AJe rfl Ad rfl Ay fun Q4 Q6 Q7 M0 M2=>ACt (h_l rfl (AK1 AK8 rfl Cm (fun h' hb=>AIc M2 hb.ext) (ACt (h_l rfl (AHo (ACt (h_l rfl ?_))))))))))))));obtain ⟨Q8,Hh,M3⟩:=AHv Mw;refine ALr (m:=Bl) AKh rfl Ad M0 Ay rfl Hh fun Q9 M4=>ACt (h_l rfl ?_);obtain ⟨Rc,Hj,M5⟩:=Ad.cells M4 Ay Hh;refine AU8 (c:=cZ) AH9 rfl Hj Cm (fun h' hb j u hu=>AIc (M5 j u hu) hb.ext) (ACt (h_l rfl (AHo (ACt (h_l rfl (AHo (ACt (h_l rfl ?_))))))));obtain ⟨Rd,Ep,M6⟩:=AHv M3;refine AJs AJe rfl Ad rfl Ep fun Re Rf Rg M7 M8=>ACt (h_l rfl (AK1 AK8 rfl Cm (fun h' hb=>AIc M8 hb.ext) (ACt (h_l rfl (AHo (ACt (h_l rfl ?_)))))));obtain ⟨Rh,Hk,M9⟩:=AHv M6;refine ALr (m:=A5) AKh rfl Ad M7 Ep rfl Hk fun Ri Na=>ACt (h_l rfl ?_);obtain ⟨Rj,Hl,Nb⟩:=Ad.cells Na Ep Hk;refine AU8 (c:=cZ) AH9 rfl Hl Cm (fun h' hb j u hu=>AIc (Nb j u hu) hb.ext) (ACt (h_e rfl fun Rm A3=>?_));have Rn:=A3.1;have Er:=Cm.thenE A3;obtain ⟨Ro,Nc,Nd⟩:=AHv M9;refine AHy Er (fun _ E=>Er.thenE E) rfl (Aj4 (cZ.upT (cZ.upT (cZ.upT Hj Ar.upT) Az.upT) A3.upT).2 (cZ.upT (cZ.upT (cZ.upT Hl Ar.upT) Az.upT) A3.upT).2 Nc) fun Rq Rr Bc Nf=>?_;obtain ⟨Rs,rfl,Ng⟩:=Nf;have Rt:=Bc.1;have Nh:=Er.thenE Bc;obtain ⟨Ru,rfl,Ni⟩:=Ng.cs;refine ACt ⟨Bc,?_⟩;refine h_e rfl fun Rv Be=>?_;have Rw:=Be.1;have Es:=Nh.thenE Be;obtain ⟨Rx,Nj,Nk⟩:=AHv Nd;refine AHy Es (fun _ E=>Es.thenE E) rfl (Awm (cZ.upT (cZ.upT (cZ.upT Mz A3.upT) Bc.upT) Be.upT).2 (cZ.upT Ni Be.upT).2 Nj) fun Ry Rz Bm Nl=>?_;obtain ⟨R3,rfl,Nm⟩:=Nl;have R4:=Bm.1;have Nn:=Es.thenE Bm;obtain ⟨Hm,rfl,Np⟩:=Nm.cs;refine ACt ⟨Bm,?_⟩;refine Ahb fun Nq Bn=>Avu fun R5 Et Nr R6=>?_;have R7:=Bn.1;have Hn:=ARl Nr Et.lt;have Eu:=C7.app Hn (Nn.thenE Bn).size ((((G4.trans Aj).thenT Ak (Cd.loAll 3 rfl)).thenT Af (AHp (Bv.loAll 1 rfl) all_nil)).thenT Bb (AHp (Ba.loAll 1 rfl) all_nil)).1;have Ns:=Hn.loAll 0 rfl;have Ev:=cZ.upT Np Bn.upT;refine AIw Hm AH9 (cZ.klen Ev) (cZ.klen (AIk Nq)) rfl rfl (cZ.one Ev) Et fun Ew Ho Nt=>ACt (q_t (AKf (fun h'=>UpT [] Ew h') (by kernel_rfl) ?_));have Bo:=Ho.stA Nt (AH8 Et rfl) rfl;have R8:=Bo.size;have Cn:UpT [] Ew Ew:=UpT.start all_nil;have Ey:=(((((((Ad.ext Ar).ext Az).ext A3).ext Bc).ext Be).ext Bm).ext Bn).upT Bo (Eu.dj 1 4 rfl rfl (by decide));refine AHo (AHo (AJs AJe rfl Ey rfl Ay fun R9 Sa Sb Nu Nv=>AK1 AK8 rfl Cn (fun h' hb=>AIc Nv hb.ext) (AHo ?_)));have Hq:=cZ.upT Ev Bo;refine AKk Hm AH9 (cZ.klen Hq) rfl Cn (fun h' hb=>(Ho.ext hb.ext).agg) ?_;have Hr:=cZ.upT (cZ.upT (cZ.upT (cZ.upT (cZ.upT (cZ.upT (cZ.upT (cZ.upT (cZ.upT (cZ.upT (cZ.upT (cZ.upT (cZ.upT (cZ.upT A6 Aq) Bj) Aj.upT) Ak) Af) Bb) Ar.upT) Az.upT) A3.upT) Bc.upT) Be.upT) Bm.upT) Bn.upT) Bo;refine AKk B4 AH9 (cZ.klen Hr) rfl Cn (fun h' hb=>(((((((((((((((Br.upT Aq AI3).upT Bj (AJc (A8.dj 2 1 rfl rfl (by decide)) AI3)).ext Aj).upT Ak (Cd.dj 2 3 rfl rfl (by decide))).upT Af (AJc (Bv.dj 2 1 rfl rfl (by decide)) AI3)).upT Bb (AJc (Ba.dj 2 1 rfl rfl (by decide)) AI3)).ext Ar).ext Az).ext A3).ext Bc).ext Be).ext Bm).ext Bn).upT Bo (Eu.dj 2 4 rfl rfl (by decide))).ext hb.ext).agg) ?_;obtain ⟨⟨Nw,Sc,Sd⟩,Ny,Hs⟩:=AHv Nk;dsimp only at Hs;refine AHy Cn (fun _ E=>Cn.thenE E) rfl (Aa4 Hq.2 Hr.2 Ny) fun Se Sf C9 Nz=>?_;obtain ⟨Sg,Sh,rfl,N0,N3⟩:=Nz;have Si:=C9.1;obtain ⟨Sj,rfl,Ez⟩:=N0.cs;obtain ⟨Sk,rfl,Sm⟩:=N3.cs;refine AHo (AI7 rfl rfl (AI7 rfl rfl (AI7 rfl rfl (ALr (m:=Bl) AKh rfl Ey Nu Ay rfl C8 fun Sn N4=>APj (m:=Bl) (AUw AH9 (cZ.klen Ez) rfl rfl (cZ.one Ez)) (Ey.ext C9) N4 Ay C8 Ez fun So N5 Fa=>ACt (q_b (q_t (ACv (AHo (AJd rfl rfl (AHq (ACt (q_t ?_))))))))))));have Sq:=Fa.size;obtain rfl:=AHw Hs;exact ⟨Ml,(((w64 (Ej + 1)),(sI Ek Bl (sI Mm Ej Nw)),Ch,El,Em):(Int) × (LiI) × LnA × LnN × LvA),Nat.lt_succ_self _,⟨He,((((((((((Bb.thenE Ar).thenE Az).thenE A3).thenE Bc).thenE Be).thenE Bm).thenE Bn).then Bo (AJw Ns (by omega))).thenE C9).then Fa (AH6 Ci (AHp (AH4 rfl) all_nil) (by omega))),((((Eu.keep Bo.size).keep C9.1).keep Fa.size).sel [0,1,2,3] (by decide)),N5,(AH6 Ci (AHp (AH4 rfl) all_nil) (by omega))⟩,rfl,trivial⟩
     ·obtain rfl:=AHw (AJ3 Cj En);have Ht:=He;change _=Hd at Ht;subst Ht;have Hu:=Mf;(try dsimp only at Hu);refine AIo (AIq (AIq (AJ5 (q_b (q_t (ACv (AHo (AJd rfl rfl (AHq (ACt (q_t ?_)))))))))));obtain rfl:=AHw Hu;exact ⟨Md,(((w64 (Bl + 1)),Ek,Ch,El,Em):(Int) × (LiI) × LnA × LnN × LvA),Nat.lt_succ_self _,⟨Hc,(Af.then Bb (AHp (AH6 Cf (AHp (AH4 rfl) all_nil) (by omega)) all_nil)),C7,Ad,(AH6 Ci (AHp (AH6 Cf (AHp (AH4 rfl) all_nil) (by omega)) all_nil) (by omega))⟩,rfl,trivial⟩
    ·obtain rfl:=AHw (AJ3 Cg Ei);have Hv:=Hc;change _=Ha at Hv;subst Hv;have Hw:=Ly;(try dsimp only at Hw);refine AIo (AIq (AIq (AJ5 (q_t (ACv ?_)))));have Da:=cZ.upT (cZ.upT C6 Ak) Af;refine AKr Cb AH9 (cZ.klen Da) rfl (Ee.upT Af (AJc (Bv.dj 3 1 rfl rfl (by decide)) AI3)).agg ?_;have Hx:=((((Br.upT Aq AI3).upT Bj (AJc (A8.dj 2 1 rfl rfl (by decide)) AI3)).ext Aj).upT Ak (Cd.dj 2 3 rfl rfl (by decide))).upT Af (AJc (Bv.dj 2 1 rfl rfl (by decide)) AI3);refine AIw Cb AH9 (cZ.klen Da) (cZ.klen (cZ.upT (cZ.upT (cZ.upT (cZ.upT (cZ.upT A6 Aq) Bj) Aj.upT) Ak) Af)) rfl rfl (cZ.one Da) Hx fun Sr Hy N6=>ACt (q_b (q_t (ACv (AJd rfl rfl (AHo (ACt (q_t ?_)))))));have Co:=Hy.stA N6 (AH8 Hx rfl) rfl;have Ss:=Co.size;obtain rfl:=AHw Hw;exact ⟨J5,((Gy,(w64 (A5 + 1)),Ef,A9,Eg,Eh,Lm,Cb):(Bool) × (Int) × (LiI) × LnA × LnN × LvA × (Int) × LvA),Nat.lt_succ_self _,⟨Du,((((((Ax.then Aq all_nil).then Bj (AHp (AH6 B6 (AHp (AH4 rfl) (AHp (ALf (AH4 rfl)) all_nil)) (by omega)) all_nil)).thenE Aj).then Ak (AJw Lv (by omega))).then Af (AHp (AH6 C4 (AHp (AH6 B6 (AHp (AH4 rfl) (AHp (ALf (AH4 rfl)) all_nil)) (by omega)) all_nil) (by omega)) all_nil)).then Co (ALf (AH4 rfl))),((Ba.keep Co.size).sel [0,1,2] (by decide)),(Ce.upT Co (Ba.dj 1 2 rfl rfl (by decide))),(AH6 Cf (AHp (AH6 C4 (AHp (AH6 B6 (AHp (AH4 rfl) (AHp (ALf (AH4 rfl)) all_nil)) (by omega)) all_nil) (by omega)) all_nil) (by omega)),(cZ.upT Da Co),Hy⟩,rfl,rfl,trivial⟩
  ·obtain rfl:=AHw (AJ3 B7 Dv);have Hz:=Du;change _=Dq at Hz;subst Hz;have Fb:=Fz;(try dsimp only at Fb);refine AIo (AIq (AIq (AJ5 (q_t (ACu (ACu (ACv (AHo (ACt (q_t (⟨_,rfl,fun Fc=>?_,fun Fc=>?_⟩)))))))))))
   ·refine ACu (ACv (AKr B4 AH9 (cZ.klen A6) rfl Br.agg ?_));obtain ⟨St,N7,N8⟩:=AHv (ifT Fb Fc);refine AHy trivial tt2 rfl (Awn A6.2 N7) fun Su Sv Cp N9=>?_;obtain ⟨Sw,rfl,Oa⟩:=N9;have Sx:=Cp.1;obtain ⟨Ob,rfl,Fd⟩:=Oa.cs;have H5:=((((((V7.ext Au).upT Av (AJc (By.dj 0 1 rfl rfl (by decide)) AI3)).ext Ao).ext Ae).upT Ah (Bq.dj 0 2 rfl rfl (by decide))).upT Ax (AJc (Aw.dj 0 1 rfl rfl (by decide)) (AJc (Aw.dj 0 2 rfl rfl (by decide)) AI3))).ext Cp;refine AIw Ob AH9 (cZ.klen Fd) (cZ.klen (cZ.upT (cZ.upT (cZ.upT (cZ.upT (cZ.upT (cZ.upT (cZ.upT (cZ.upT Dd E8.upT) Au.upT) Av) Ao.upT) Ae.upT) Ah) Ax) Cp.upT)) rfl rfl (cZ.one Fd) H5 fun Sy H9 Oc=>ACt (q_t (AH1 (AIi ?_)));have Fe:=H9.stA Oc (AH8 H5 rfl) rfl;have Sz:=Fe.size;obtain rfl:=AHw N8;have Ia:=cZ.upT Fd Fe;exact ⟨_,AJ7 AH9 (cZ.klen Ia) rfl H9,((Dt.trans Cp).thenT Fe ((B5.keep Cp.1).loAll 0 rfl)),_,rfl,Ia.2⟩
   ·refine AH2 (q_t (ACu (ACv (AKr B4 AH9 (cZ.klen A6) rfl Br.agg ?_))));obtain ⟨S1,Od,Oe⟩:=AHv (AQm Fb Fc);refine AHy trivial tt2 rfl (AZ5 A6.2 Od) fun S2 S3 Cq Og=>?_;obtain ⟨S4,rfl,Oh⟩:=Og;have S7:=Cq.1;obtain ⟨Oi,rfl,Ff⟩:=Oh.cs;have Ib:=((((((V7.ext Au).upT Av (AJc (By.dj 0 1 rfl rfl (by decide)) AI3)).ext Ao).ext Ae).upT Ah (Bq.dj 0 2 rfl rfl (by decide))).upT Ax (AJc (Aw.dj 0 1 rfl rfl (by decide)) (AJc (Aw.dj 0 2 rfl rfl (by decide)) AI3))).ext Cq;refine AIw Oi AH9 (cZ.klen Ff) (cZ.klen (cZ.upT (cZ.upT (cZ.upT (cZ.upT (cZ.upT (cZ.upT (cZ.upT (cZ.upT Dd E8.upT) Au.upT) Av) Ao.upT) Ae.upT) Ah) Ax) Cq.upT)) rfl rfl (cZ.one Ff) Ib fun Ta Ic Oj=>ACt (q_t (AH1 ?_));have Fg:=Ic.stA Oj (AH8 Ib rfl) rfl;have Tb:=Fg.size;obtain rfl:=AHw Oe;have Id:=cZ.upT Ff Fg;exact ⟨_,AJ7 AH9 (cZ.klen Id) rfl Ic,((Dt.trans Cq).thenT Fg ((B5.keep Cq.1).loAll 0 rfl)),_,rfl,Id.2⟩
def ATp (fuel:Nat) (a3:LiI):Option (Int × Bool):=
  ((AMp fuel a3).bind fun (Ab,Ac,Ad)=>(if (!Ad)=true then (some (0,false)) else (if ¬ Ab=Ac then (some (0,false)) else ((ANg fuel a3).bind fun Ae=>(some (Ae,true))))))
theorem Abo {fuel:Nat} {h:AHr} {Ao:Value} {a3:LiI} {r:(Int × Bool)} (H2:AM9 cZ h Ao a3) (hp:ATp fuel a3=some r):AIj Tryz.prog 111 #[Ao] h (fun x h'=>Ext h h'/\ ∃ (x0:Value),x= .tuple #[x0,.bool r.2]/\ZZ h' x0 r.1):=by
 unfold ATp at hp;refine AHx (l:=[_]) mx Tryz.func111 rfl rfl rfl rfl rfl (by kernel_rfl) (ACu (ACv (AI9 [.bool false,.slice none 0 0] ALz rfl trivial tt2 fun b5 h6 V7 E8 S9=>AHq (ACt (q_t (ACu (ACv (AHo ?_))))))));have Af:=AIk h;obtain ⟨⟨Bt,Bu,Be⟩,Bf,Ag⟩:=AHv hp;dsimp only at Ag;refine AHy trivial tt2 rfl (AUo (H2.ext E8) Bf) fun Bv Au Aa Bg=>?_;subst Bg;refine AHo (AI7 rfl rfl (AI7 rfl rfl (AI7 rfl rfl (AHq (AHq (AHq (ACt (q_t (ACu (ACu (ACv (AHo (AMj rfl (AHo ?_))))))))))))));have Ac:=E8.trans Aa;have Ah:=((AJ8 h h.size).app S9 E8.1 (Nat.le_refl _)).keep Aa.1;cases Av:(!Be)
 ·refine AH3 15 false (by kernel_rfl) rfl rfl (AHo (AH3 15 false (by kernel_rfl) rfl rfl (AHo (AH3 15 false (by kernel_rfl) rfl rfl (AIp rfl rfl (AP7 _ _) (AIv rfl (ACt (q_t ?_))))))));have Aw:=AQm Ag Av;refine ⟨_,rfl,fun Ai=>?_,fun Ai=>?_⟩
  ·refine ACu (ACv (AM7 (ASi ) ?_));have Aj:=AIk Au;have Ax:=V7.ext Aa;refine AIw [Value.bool false,Value.slice none 0 0] AH9 (cZ.klen Aj) (cZ.klen (cZ.upT (cZ.upT Af E8.upT) Aa.upT)) rfl rfl (cZ.one Aj) Ax fun Bw Ay Bh=>AHq (ACt (q_t (AH1 (AIi ?_))));have Az:=Ay.stA Bh (AH8 Ax rfl) rfl;obtain rfl:=AHw (AJ2 Aw Ai);have A3:=cZ.upT Aj Az;exact ⟨_,AZc AH9 (cZ.klen A3) rfl Ay,(Ac.thenT Az (Ah.loAll 0 rfl)),_,rfl,A3.2⟩
  ·refine AH2 (q_t (ACu (ACv (AHo ?_))));obtain ⟨Bx,Bi,Bj⟩:=AHv (AJ3 Aw Ai);refine AHy trivial tt2 rfl (AV3 (H2.ext Ac) Bi) fun By Bz Ad Bl=>?_;obtain ⟨B1,rfl,Bm⟩:=Bl;obtain ⟨Bn,rfl,Ak⟩:=Bm.cs;have A4:=(V7.ext Aa).ext Ad;refine AIw Bn AH9 (cZ.klen Ak) (cZ.klen (cZ.upT (cZ.upT (cZ.upT Af E8.upT) Aa.upT) Ad.upT)) rfl rfl (cZ.one Ak) A4 fun B3 A5 Bo=>AHq (ACt (q_t (AH1 ?_)));have A6:=A5.stA Bo (AH8 A4 rfl) rfl;obtain rfl:=AHw Bj;have A7:=cZ.upT Ak A6;exact ⟨_,AZc AH9 (cZ.klen A7) rfl A5,((Ac.trans Ad).thenT A6 ((Ah.keep Ad.1).loAll 0 rfl)),_,rfl,A7.2⟩
 ·refine AH0 15 true (by kernel_rfl) rfl rfl (AH0 15 true (by kernel_rfl) rfl rfl (AH0 15 true (by kernel_rfl) rfl rfl (AIt rfl (ACt (q_t (AIh rfl (ACu (ACv (AM7 (ASi ) ?_)))))))));have Am:=AIk Au;have A8:=V7.ext Aa;refine AIw [Value.bool false,Value.slice none 0 0] AH9 (cZ.klen Am) (cZ.klen (cZ.upT (cZ.upT Af E8.upT) Aa.upT)) rfl rfl (cZ.one Am) A8 fun B4 A9 Bp=>AHq (ACt (q_t (AH1 (AIi ?_))));have Ba:=A9.stA Bp (AH8 A8 rfl) rfl;obtain rfl:=AHw (ifT Ag Av);have Bb:=cZ.upT Am Ba;exact ⟨_,AZc AH9 (cZ.klen Bb) rfl A9,(Ac.thenT Ba (Ah.loAll 0 rfl)),_,rfl,Bb.2⟩
end Go.Proofs.YtmmckalinicpaaaGreatDoor
namespace Go.Proofs.YtmmckalinicpaaaGreatDoor
open Go Go.QF
set_option maxRecDepth 100000
theorem Aj5 {h:AHr} {v:Value} {M:List (List Int)} (HM:Mat h v M):AIj Tryz.prog 99 #[v] h fun x h'=>h'=h/\x= .bool (AQc M):=by
 refine AHx (l:=[_]) mx Tryz.func99 rfl rfl rfl rfl rfl (by kernel_rfl) (ACu (ACv (AHq (ACt (q_t (ACu (ACv (AHo (Aab AJg rfl HM (AHq (ACt (q_t (ACu (ACu (ACv (AHo (ALo rfl rfl (fun Ab=>?_) (fun Ab=>?_))))))))))))))))))
 ·refine AHo (AH0 14 true (by kernel_rfl) rfl rfl (AH0 14 true (by kernel_rfl) rfl rfl (AIt rfl (ACt (q_t (AIh rfl (ACu (ACv (AHq (ACt (q_t (AH1 (AIi (⟨_,AH5,?_⟩))))))))))))))
  first
    | exact ⟨rfl,congrArg Value.bool (AK7 fun hh=>by have:=hh.1;omega)⟩
    | exact ⟨rfl,congrArg Value.bool (AK7 fun hh=>by have:=hh.2.1 M[i] (List.getElem_mem _);omega)⟩
    | exact ⟨rfl,congrArg Value.bool (AK7 fun hh=>by have:=hh.2.2 a b (by omega) (by omega);omega)⟩
    | exact ⟨rfl,congrArg Value.bool (ANi ⟨⟨by omega,by omega⟩,hrows,fun x y hx hy=>hall x y (by omega) hy⟩)⟩
 ·refine AHo (AH3 14 false (by kernel_rfl) rfl rfl (AHo (AH3 14 false (by kernel_rfl) rfl rfl (ATv rfl rfl (fun Ac=>?_) (fun Ac=>?_)))))
  ·refine AIv rfl (ACt (q_t (AIh rfl (ACu (ACv (AHq (ACt (q_t (AH1 (AIi (⟨_,AH5,?_⟩)))))))))))
   first
     | exact ⟨rfl,congrArg Value.bool (AK7 fun hh=>by have:=hh.1;omega)⟩
     | exact ⟨rfl,congrArg Value.bool (AK7 fun hh=>by have:=hh.2.1 M[i] (List.getElem_mem _);omega)⟩
     | exact ⟨rfl,congrArg Value.bool (AK7 fun hh=>by have:=hh.2.2 a b (by omega) (by omega);omega)⟩
     | exact ⟨rfl,congrArg Value.bool (ANi ⟨⟨by omega,by omega⟩,hrows,fun x y hx hy=>hall x y (by omega) hy⟩)⟩
  ·refine AIv rfl (ACt (q_t (AId rfl (AH2 (q_t (ACu (ACu (ACv (AHo (Aab AJg rfl HM (AHo (ACt (q_t (AHz (AIy 535822372 (fun i:Nat=>[(20,.int .i64 (i:Int))]) (fun k i h'=>h'=h/\k=M.length - i/\i<=M.length/\ ∀ j (hj:j < M.length),j < i->M[j].length=M.length) (by kernel_rfl) M.length 0 ?_ ⟨rfl,trivial⟩ ?_)))))))))))))))
   ·exact ⟨rfl,rfl,Nat.zero_le _,fun j _ hj=>by omega⟩
   rintro k i s1 h ⟨rfl,rfl,hi,hrow⟩;refine ACu (ACv (ALo rfl rfl (fun Ad=>?_) (fun Ad=>?_)))
   ·refine ACt (q_t (ACu (AIh rfl (AH2 (q_t (ACu (AHz (ACu (ACv (AW5 AJg rfl HM rfl (List.getElem?_eq_getElem (by omega)) fun aR rR haR hrR=>?_))))))))));refine AIr AKg rfl haR (AHq (ACt (q_t (ACu (ACv (AHo (An6 AJp rfl hrR (AHo (Agm rfl rfl (fun Ae=>?_) (fun Ae=>?_))))))))))
    ·refine ACt (q_t (AIh rfl (ACu (ACv (AHq (ACt (q_t (AH1 (AJ0 (AIi (AIi (AJ0 (AIi (⟨_,AH5,?_⟩))))))))))))))
     first
       | exact ⟨rfl,congrArg Value.bool (AK7 fun hh=>by have:=hh.1;omega)⟩
       | exact ⟨rfl,congrArg Value.bool (AK7 fun hh=>by have:=hh.2.1 M[i] (List.getElem_mem _);omega)⟩
       | exact ⟨rfl,congrArg Value.bool (AK7 fun hh=>by have:=hh.2.2 a b (by omega) (by omega);omega)⟩
       | exact ⟨rfl,congrArg Value.bool (ANi ⟨⟨by omega,by omega⟩,hrows,fun x y hx hy=>hall x y (by omega) hy⟩)⟩
    ·refine ACt (q_t (AId rfl (AH2 (q_b (q_t (ACv (AOw rfl (by omega) (AHo (ACt (q_t ?_))))))))));exact ⟨M.length - (i + 1),i + 1,by omega,⟨rfl,rfl,by omega,fun j hj Af=>by rcases Nat.lt_succ_iff_lt_or_eq.1 Af with q | rfl;exact hrow j hj q;omega⟩,rfl,trivial⟩
   ·refine ACt (q_t (ACu (AId rfl (AIo (AIq (AIq (AJ5 (q_t (ACu (ACu ?_))))))))));have hrows:∀ z∈M,z.length=M.length:=fun z hz=>by obtain ⟨j,hj,rfl⟩:=List.getElem_of_mem hz;exact hrow j hj (by omega)
    have Aa:Mat h v (tab M.length M.length (ent M)):=(Afb hrows) ▸ HM;refine ACv (AHo (Aab AJg rfl Aa ?_));rw [AJk];refine AHo (ACt (q_t (AHz (AIy 4611686016279905220 (fun a:Nat=>[(31,.int .i64 (a:Int))]) (fun k a h'=>h'=h/\k=M.length - a/\a<=M.length/\ ∀ x y,x < a->y < M.length->ent M x y=ent M y x/\ -262144 < ent M x y/\ent M x y < 262144) (by kernel_rfl) M.length 0 ?_ ⟨rfl,trivial⟩ ?_))))
    ·exact ⟨rfl,rfl,Nat.zero_le _,fun x y hx=>by omega⟩
    rintro k a s2 h ⟨rfl,rfl,ha,hall⟩;refine ACu (ACv (ALo rfl rfl (fun Ag=>?_) (fun Ag=>?_)))
    ·refine ACt (q_t (ACu (AIh rfl (AH2 (q_t (ACu (AHz (ACu (ACv (AHo (AW5 AJg rfl Aa rfl (ASf (by omega)) fun aS rS haS hrS=>AIr AKg rfl haS (AHq (AHq (ACt (q_t (ACu (ACv (AHo (An6 AJp rfl hrS ?_)))))))))))))))))));rw [List.length_map,List.length_range];refine AHo (ACt (q_t (AHz (AIy 2305842734335787780 (fun b:Nat=>[(38,.int .i64 (b:Int))]) (fun k b h'=>h'=h/\k=M.length - b/\b<=M.length/\ ∀ y,y < b->ent M a y=ent M y a/\ -262144 < ent M a y/\ent M a y < 262144) (by kernel_rfl) M.length 0 ?_ ⟨rfl,trivial⟩ ?_))))
     ·exact ⟨rfl,rfl,Nat.zero_le _,fun y hy=>by omega⟩
     rintro k b s3 h ⟨rfl,rfl,hb,hrw⟩;refine ACu (ACv (ALo rfl rfl (fun Ah=>?_) (fun Ah=>?_)))
     ·refine ACt (q_t (ACu (AIh rfl (AH2 (q_t (ACu (AHz (ACu (ACv (AHo (AVn AJp rfl hrS rfl (APs (by omega)) fun Aq Ai=>AIr ALy rfl Ai (AHq (AHq (ACt (q_t (ACu (ACv (AHo (AHo (AHo (AW5 AJg rfl Aa rfl (ASf (by omega)) fun aT rT haT hrT=>?_)))))))))))))))))))));refine AIr AKg rfl haT (AHo (AVn AJp rfl hrT rfl (APs (by omega)) fun Ar Aj=>AIr ALy rfl Aj (Agm rfl rfl (fun Ak=>?_) (fun Ak=>?_))))
      ·refine AHo (AH0 52 true (by kernel_rfl) rfl rfl (AH0 52 true (by kernel_rfl) rfl rfl (AIt rfl (AHo (AH0 56 true (by kernel_rfl) rfl rfl (AH0 56 true (by kernel_rfl) rfl rfl (AIt rfl (ACt (q_t (AIh rfl (ACu (ACv (AHq (ACt (q_t (AH1 (AJ0 (AIi (AIi (AJ0 (AJ0 (AIi (AIi (AJ0 (AIi (⟨_,AH5,?_⟩))))))))))))))))))))))))))
       first
         | exact ⟨rfl,congrArg Value.bool (AK7 fun hh=>by have:=hh.1;omega)⟩
         | exact ⟨rfl,congrArg Value.bool (AK7 fun hh=>by have:=hh.2.1 M[i] (List.getElem_mem _);omega)⟩
         | exact ⟨rfl,congrArg Value.bool (AK7 fun hh=>by have:=hh.2.2 a b (by omega) (by omega);omega)⟩
         | exact ⟨rfl,congrArg Value.bool (ANi ⟨⟨by omega,by omega⟩,hrows,fun x y hx hy=>hall x y (by omega) hy⟩)⟩
      ·refine AHo (AH3 52 false (by kernel_rfl) rfl rfl (AHo (AH3 52 false (by kernel_rfl) rfl rfl (AVl rfl rfl (fun Am=>?_) (fun Am=>?_)))))
       ·refine AIv rfl (AHo (AH0 56 true (by kernel_rfl) rfl rfl (AH0 56 true (by kernel_rfl) rfl rfl (AIt rfl (ACt (q_t (AIh rfl (ACu (ACv (AHq (ACt (q_t (AH1 (AJ0 (AIi (AIi (AJ0 (AJ0 (AIi (AIi (AJ0 (AIi (⟨_,AH5,?_⟩)))))))))))))))))))))))
        first
          | exact ⟨rfl,congrArg Value.bool (AK7 fun hh=>by have:=hh.1;omega)⟩
          | exact ⟨rfl,congrArg Value.bool (AK7 fun hh=>by have:=hh.2.1 M[i] (List.getElem_mem _);omega)⟩
          | exact ⟨rfl,congrArg Value.bool (AK7 fun hh=>by have:=hh.2.2 a b (by omega) (by omega);omega)⟩
          | exact ⟨rfl,congrArg Value.bool (ANi ⟨⟨by omega,by omega⟩,hrows,fun x y hx hy=>hall x y (by omega) hy⟩)⟩
       ·refine AIv rfl (AHo (AH3 56 false (by kernel_rfl) rfl rfl (AHo (AH3 56 false (by kernel_rfl) rfl rfl (AW4 rfl rfl (fun Ao=>?_) (fun Ao=>?_))))))
        ·refine AIv rfl (ACt (q_t (AIh rfl (ACu (ACv (AHq (ACt (q_t (AH1 (AJ0 (AIi (AIi (AJ0 (AJ0 (AIi (AIi (AJ0 (AIi (⟨_,AH5,?_⟩)))))))))))))))))))
         first
           | exact ⟨rfl,congrArg Value.bool (AK7 fun hh=>by have:=hh.1;omega)⟩
           | exact ⟨rfl,congrArg Value.bool (AK7 fun hh=>by have:=hh.2.1 M[i] (List.getElem_mem _);omega)⟩
           | exact ⟨rfl,congrArg Value.bool (AK7 fun hh=>by have:=hh.2.2 a b (by omega) (by omega);omega)⟩
           | exact ⟨rfl,congrArg Value.bool (ANi ⟨⟨by omega,by omega⟩,hrows,fun x y hx hy=>hall x y (by omega) hy⟩)⟩
        ·refine AIv rfl (ACt (q_t (AId rfl (AH2 (q_b (q_t (ACv (AOw rfl (by omega) (AHo (ACt (q_t ?_)))))))))));exact ⟨M.length - (b + 1),b + 1,by omega,⟨rfl,rfl,by omega,fun y hy=>by rcases Nat.lt_succ_iff_lt_or_eq.1 hy with q | rfl;exact hrw y q;exact ⟨by omega,by omega,by omega⟩⟩,rfl,trivial⟩
     ·refine ACt (q_t (ACu (AId rfl (AIo (AIq (AIq (AJ5 (q_b (q_t (ACv (AOw rfl (by omega) (AHo (ACt (q_t ?_))))))))))))));exact ⟨M.length - (a + 1),a + 1,by omega,⟨rfl,rfl,by omega,fun x y hx hy=>by rcases Nat.lt_succ_iff_lt_or_eq.1 hx with q | rfl;exact hall x y q hy;exact hrw y (by omega)⟩,rfl,trivial⟩
    ·refine ACt (q_t (ACu (AId rfl (AIo (AIq (AIq (AJ5 (q_t (ACu (ACv (AHq (ACt (q_t (AH1 (⟨_,AH5,?_⟩)))))))))))))))
     first
       | exact ⟨rfl,congrArg Value.bool (AK7 fun hh=>by have:=hh.1;omega)⟩
       | exact ⟨rfl,congrArg Value.bool (AK7 fun hh=>by have:=hh.2.1 M[i] (List.getElem_mem _);omega)⟩
       | exact ⟨rfl,congrArg Value.bool (AK7 fun hh=>by have:=hh.2.2 a b (by omega) (by omega);omega)⟩
       | exact ⟨rfl,congrArg Value.bool (ANi ⟨⟨by omega,by omega⟩,hrows,fun x y hx hy=>hall x y (by omega) hy⟩)⟩
theorem Arh {m:Nat} {F:Nat->Nat->Int}:(tab m m F).drop 1=tab (m - 1) m fun i j=>F (i + 1) j:=by
 refine List.ext_getElem (by simp [tab]) fun i h1 h2=>?_;simp [tab,Nat.add_comm]
theorem Adq {h:AHr} {v:Value} {m:Nat} {F:Nat->Nat->Int} (HM:Mat h v (tab m m F)) (hcap:AS6 v) (hm:1<=m) (Au:m<=8) (hfit:∀ i,i < m->Abs (F i 0) 34359738368):AIj Tryz.prog 100 #[v] h fun x h'=>h'=h/\x= .bool (decide (ATg m F)):=by
 refine AHx (l:=[_]) mx Tryz.func100 rfl rfl rfl rfl rfl (by kernel_rfl) (ACu (ACv (AHq (ACt (q_t (ACu (ACv (AHo (AW5 (n:=0) AJg rfl HM rfl (ASf (by omega)) fun Av Aw Ad Ae=>AIr AKg rfl Ad (AVn (n:=0) AJp rfl Ae rfl (APs (by omega)) fun Ax Af=>AIr ALy rfl Af (AHq (ACt (q_t (ACu (ACu (ACv (AHo (AVl rfl rfl (fun Ag=>?_) (fun Ag=>?_)))))))))))))))))))
 ·refine AHo (AH0 13 true (by kernel_rfl) rfl rfl (AH0 13 true (by kernel_rfl) rfl rfl (AIt rfl (ACt (q_t (AIh rfl (ACu (ACv (AHq (ACt (q_t (AH1 (AIi (⟨_,AH5,?_⟩))))))))))))))
  first
    | exact ⟨rfl,congrArg Value.bool (decide_eq_false (fun hh=>by have:=hh.1;omega)).symm⟩
    | exact ⟨rfl,congrArg Value.bool (decide_eq_false (fun hh=>by have:=hh.2 (i + 1) (by omega) (by omega);omega)).symm⟩
    | exact ⟨rfl,congrArg Value.bool (decide_eq_true ⟨⟨by omega,by omega⟩,fun j h1 h2=>hall j h1 (by omega)⟩).symm⟩
 ·refine AHo (AH3 13 false (by kernel_rfl) rfl rfl (AHo (AH3 13 false (by kernel_rfl) rfl rfl (AW4 rfl rfl (fun Ah=>?_) (fun Ah=>?_)))))
  ·refine AIv rfl (ACt (q_t (AIh rfl (ACu (ACv (AHq (ACt (q_t (AH1 (AIi (⟨_,AH5,?_⟩)))))))))))
   first
     | exact ⟨rfl,congrArg Value.bool (decide_eq_false (fun hh=>by have:=hh.1;omega)).symm⟩
     | exact ⟨rfl,congrArg Value.bool (decide_eq_false (fun hh=>by have:=hh.2 (i + 1) (by omega) (by omega);omega)).symm⟩
     | exact ⟨rfl,congrArg Value.bool (decide_eq_true ⟨⟨by omega,by omega⟩,fun j h1 h2=>hall j h1 (by omega)⟩).symm⟩
  ·refine AIv rfl (ACt (q_t (AId rfl (AH2 (q_t (ACu (ACu (ACv (AHo (Amk (k:=1) AJg rfl HM hcap rfl (by rw [AJk];omega) fun v1 Ai Ay=>?_))))))))));have HD:Mat h v1 (tab (m - 1) m fun i j=>F (i + 1) j):=Arh (m:=m) ▸ Ai;refine Aab AJg rfl HD ?_;rw [AJk];refine AHo (ACt (q_t (AHz (AIy 549754765348 (fun i:Nat=>[(20,.int .i64 (i:Int))]) (fun k i h'=>h'=h/\k=m - 1 - i/\i<=m - 1/\ ∀ j,1<=j->j < i + 1->2 * F j 0<=F 0 0/\ -2 * F j 0<=F 0 0) (by kernel_rfl) (m - 1) 0 ?_ ⟨rfl,trivial⟩ ?_))))
   ·exact ⟨rfl,rfl,Nat.zero_le _,fun j h1 h2=>by omega⟩
   rintro k i s1 h ⟨rfl,rfl,hi,hall⟩;refine ACu (ACv (ALo rfl rfl (fun Aj=>?_) (fun Aj=>?_)))
   ·refine ACt (q_t (ACu (AIh rfl (AH2 (q_t (ACu (AHz (ACu (ACv (AW5 AJg rfl HD rfl (ASf (by omega)) fun Az A3 Ak Ac=>AIr AKg rfl Ak (AHq (ACt (q_t (ACu ?_))))))))))))));have Am:=hfit (i + 1) (by omega);unfold Abs at Am;refine ACv (AHo (AVn (n:=0) AJp rfl Ac rfl (APs (by omega)) fun A4 Ao=>AIr ALy rfl Ao (AR0 rfl rfl (by omega) (by omega) (AHo (ATv rfl rfl (fun Ap=>?_) (fun Ap=>?_))))))
    ·refine AHo (AH0 30 true (by kernel_rfl) rfl rfl (AH0 30 true (by kernel_rfl) rfl rfl (AH0 30 true (by kernel_rfl) rfl rfl (AH0 30 true (by kernel_rfl) rfl rfl (AH0 30 true (by kernel_rfl) rfl rfl (AH0 30 true (by kernel_rfl) rfl rfl (AIt rfl (ACt (q_t (AIh rfl (ACu (ACv (AHq (ACt (q_t (AH1 (AJ0 (AIi (AIi (AJ0 (AIi (⟨_,AH5,?_⟩))))))))))))))))))))))
     first
       | exact ⟨rfl,congrArg Value.bool (decide_eq_false (fun hh=>by have:=hh.1;omega)).symm⟩
       | exact ⟨rfl,congrArg Value.bool (decide_eq_false (fun hh=>by have:=hh.2 (i + 1) (by omega) (by omega);omega)).symm⟩
       | exact ⟨rfl,congrArg Value.bool (decide_eq_true ⟨⟨by omega,by omega⟩,fun j h1 h2=>hall j h1 (by omega)⟩).symm⟩
    ·refine AHo (AH3 30 false (by kernel_rfl) rfl rfl (AHo (AH3 30 false (by kernel_rfl) rfl rfl (AVn (n:=0) AJp rfl Ac rfl (APs (by omega)) fun A5 Aq=>AH3 30 false (by kernel_rfl) rfl rfl (AIr ALy rfl Aq (AH3 30 false (by kernel_rfl) rfl rfl (AR0 rfl rfl (by omega) (by omega) (AH3 30 false (by kernel_rfl) rfl rfl (AHo (AH3 30 false (by kernel_rfl) rfl rfl (ATv rfl rfl (fun Ar=>?_) (fun Ar=>?_))))))))))))
     ·refine AIv rfl (ACt (q_t (AIh rfl (ACu (ACv (AHq (ACt (q_t (AH1 (AJ0 (AIi (AIi (AJ0 (AIi (⟨_,AH5,?_⟩)))))))))))))))
      first
        | exact ⟨rfl,congrArg Value.bool (decide_eq_false (fun hh=>by have:=hh.1;omega)).symm⟩
        | exact ⟨rfl,congrArg Value.bool (decide_eq_false (fun hh=>by have:=hh.2 (i + 1) (by omega) (by omega);omega)).symm⟩
        | exact ⟨rfl,congrArg Value.bool (decide_eq_true ⟨⟨by omega,by omega⟩,fun j h1 h2=>hall j h1 (by omega)⟩).symm⟩
     ·refine AIv rfl (ACt (q_t (AId rfl (AH2 (q_b (q_t (ACv (AOw rfl (by omega) (AHo (ACt (q_t ?_)))))))))));exact ⟨m - 1 - (i + 1),i + 1,by omega,⟨rfl,rfl,by omega,fun j h1 h2=>by rcases Nat.lt_succ_iff_lt_or_eq.1 h2 with q | rfl;exact hall j h1 q;exact ⟨by omega,by omega⟩⟩,rfl,trivial⟩
   ·refine ACt (q_t (ACu (AId rfl (AIo (AIq (AIq (AJ5 (q_t (ACu (ACv (AHq (ACt (q_t (AH1 (⟨_,AH5,?_⟩)))))))))))))))
    first
      | exact ⟨rfl,congrArg Value.bool (decide_eq_false (fun hh=>by have:=hh.1;omega)).symm⟩
      | exact ⟨rfl,congrArg Value.bool (decide_eq_false (fun hh=>by have:=hh.2 (i + 1) (by omega) (by omega);omega)).symm⟩
      | exact ⟨rfl,congrArg Value.bool (decide_eq_true ⟨⟨by omega,by omega⟩,fun j h1 h2=>hall j h1 (by omega)⟩).symm⟩
theorem Age {h:AHr} {v:Value} {M:List (List Int)} (HM:Mat h v M) (hcap:AS6 v):AIj Tryz.prog 57 #[v] h fun x h'=>Ext h h'/\x= .bool (isRed M):=by
 refine AHx (l:=[_]) mx Tryz.func57 rfl rfl rfl rfl rfl (by kernel_rfl) (ACu (ACv (AHq (ACt (q_t (ACu (ACu (ACv (AHo (AIa trivial rfl (Aj5 HM) fun x1 h hk=>?_))))))))));obtain ⟨rfl,rfl⟩:=hk;refine ⟨trivial,?_⟩;cases Au:AQc M
 ·refine AMj rfl (ACt (q_t (AIh rfl (ACu (ACv (AHq (ACt (q_t (AH1 (AIi (⟨_,AH5,?_⟩)))))))))))
  first
    | exact ⟨(Ext.refl _),congrArg Value.bool (show false=isRed M by unfold isRed;rw [show AQc M=false by assumption];rfl)⟩
    | exact ⟨(Ext.refl _),congrArg Value.bool (show false=isRed M by unfold isRed;rw [hred,AS1 (by omega) (of_decide_eq_false (by assumption)),Bool.and_false])⟩
    | exact ⟨(Ext.refl _),congrArg Value.bool (show false=isRed M by unfold isRed;rw [hred,AV1 (by omega) (by unfold AYa;omega),Bool.and_false])⟩
    | (obtain rfl:m=1:=by omega
       first
       | exact ⟨(Ext.refl _),congrArg Value.bool (show true=isRed M by unfold isRed;rw [hred,<- ANi hsm,ATh,decide_eq_true ⟨by omega,by omega⟩];rfl)⟩
       | exact ⟨(Ext.refl _),congrArg Value.bool (show false=isRed M by unfold isRed;rw [hred,ATh,decide_eq_false (by omega),Bool.and_false])⟩)
 ·refine AMj rfl (ACt (q_t (AId rfl (AH2 (q_t (ACu (ACv (AHo (AHq (ACt (q_t (ACu (ACv (AHq (ACt (q_t (ACu (AHz ?_))))))))))))))))));have hsm:=Adm Au;have Av:=Ane hsm;have Aw:Mat h v (tab M.length M.length (ent M)):=(Afb hsm.2.1) ▸ HM;refine AIy 20282409603651670423947251255292 (fun y:Nat × Value × Int × (Nat->Nat->Int)=>[(3,y.2.1),(4,.int .i64 y.2.2.1)]) (fun k y h'=>y.1=k/\Ext h h'/\1<=y.1/\y.1<=M.length/\Mat h' y.2.1 (tab y.1 y.1 y.2.2.2)/\AS6 y.2.1/\Stg y.1 y.2.2.2 y.2.2.1 (262144 + 16384 * (M.length - y.1))/\ATh M.length (ent M) 1=ATh y.1 y.2.2.2 y.2.2.1) (by kernel_rfl) M.length (M.length,v,1,ent M) ?_ ⟨rfl,rfl,trivial⟩ ?_
  ·exact ⟨rfl,Ext.refl _,hsm.1.1,Nat.le_refl _,Aw,hcap,by have e0:(262144 + 16384 * ((M.length:Int) - (M.length:Int)))=262144:=(by omega);rw [e0];exact Av,rfl⟩
  rintro k ⟨m,vs,last,F⟩ s1 hq ⟨rfl,XQ,Ay,hmn,HS,Aj,hstg,hred⟩;dsimp only at Ay hmn HS Aj hstg hred ⊢;have h8:=hsm.1.2;have B7:=hstg.l1;have B8:=hstg.l2;have szq:=XQ.1;refine ACu (ACu (ACv (AHo (Aab AJg rfl HS ?_))));rw [AJk];refine ATv rfl rfl (fun Az=>?_) (fun Az=>?_)
  ·refine ACt (q_t (AIh rfl (AH2 (q_t (AHz (ACu (ACv (AHo (AW5 (n:=0) AJg rfl HS rfl (ASf (by omega)) fun B9 Ca A3 A4=>AIr AKg rfl A3 (AVn (n:=0) AJp rfl A4 rfl (APs (by omega)) fun Cb A5=>AIr ALy rfl A5 (AHq (ACt (q_t (ACu (ACu (ACv (AHo (AIa trivial rfl (Adq HS Aj (by omega) (by omega) (fun i hi=>Ab6 hstg (by omega) (by omega) hi (by omega))) fun x4 hq hk=>?_))))))))))))))))));obtain ⟨rfl,rfl⟩:=hk;refine ⟨trivial,?_⟩;cases Ce:decide (ATg m F)
   ·refine AMj rfl (ACt (q_t (AIh rfl (ACu (ACv (AHq (ACt (q_t (AH1 (AIi (AJ0 (AIi (AJ0 (AIi (⟨_,AH5,?_⟩)))))))))))))))
    first
      | exact ⟨XQ,congrArg Value.bool (show false=isRed M by unfold isRed;rw [show AQc M=false by assumption];rfl)⟩
      | exact ⟨XQ,congrArg Value.bool (show false=isRed M by unfold isRed;rw [hred,AS1 (by omega) (of_decide_eq_false (by assumption)),Bool.and_false])⟩
      | exact ⟨XQ,congrArg Value.bool (show false=isRed M by unfold isRed;rw [hred,AV1 (by omega) (by unfold AYa;omega),Bool.and_false])⟩
      | (obtain rfl:m=1:=by omega
         first
         | exact ⟨XQ,congrArg Value.bool (show true=isRed M by unfold isRed;rw [hred,<- ANi hsm,ATh,decide_eq_true ⟨by omega,by omega⟩];rfl)⟩
         | exact ⟨XQ,congrArg Value.bool (show false=isRed M by unfold isRed;rw [hred,ATh,decide_eq_false (by omega),Bool.and_false])⟩)
   ·refine AMj rfl (ACt (q_t (AId rfl (AH2 (q_t (ACu (ACv (AHo (Aab AJg rfl HS ?_)))))))));rw [AJk];have hsh:ATg m F:=of_decide_eq_true (by assumption);refine AQx rfl rfl (by omega) (by omega) ?_;rw [show ((m:Nat):Int) - 1=((m - 1:Nat):Int) by omega];refine Axk (ei:=tI) AJg AYr (fun _=>trivial) rfl rfl (by decide) (by omega) fun b2 v2 h2 Ak E2 Cg hl2b=>?_;have Ch:=E2.1;have Z6:=(Ext.refl hq).trans E2;have X7:=XQ.trans E2;have HS_8:=HS.ext E2;refine AHq (ACt (q_t (ACu (ACu (ACv (AHo (Aix AJg rfl Ak.1 (AHo (ACt (q_t (AHz (AIy 1208925819614624879739776 (fun i:Nat=>[(32,.int .i64 (i:Int))]) (fun k i h'=>k=m - 1 - i/\i<=m - 1/\Ext hq h'/\ ∃ gs,AS7 h' tR tI (Array.size hq) b2 gs v2 (m - 1) ((List.range i).map (fun i=>(List.range (m - 1)).map fun j=>AUn F last i j))) (by kernel_rfl) (m - 1) 0 ?_ ⟨rfl,trivial⟩ ?_))))))))))))
    ·exact ⟨rfl,Nat.zero_le _,E2,[],Ak⟩
    rintro k i s2 h3 ⟨rfl,hi,E3,gs,HP⟩;have X9:=XQ.trans E3;have Ck:=E3.1;have HS_11:=HS.ext E3;refine ACu (ACv (ALo rfl rfl (fun A7=>?_) (fun A7=>?_)))
    ·refine ACt (q_t (ACu (AIh rfl (AH2 (q_t (ACu (AHz (ACu (ACv (AHo (AHq (ACt (q_t (ACu (ACv (AHo (AHo (AOw rfl (by omega) (Au8 AJg rfl HS E3 rfl (ASf (by omega)) fun aR rR haR hrR=>AIr AKg rfl haR (AHq (ACt (q_t ?_))))))))))))))))))))));refine ACu (ACv (AHo (AHo (AHo (Aix AJg rfl HP.1 (Axl AJp AW7 (fun _=>trivial) rfl rfl (by decide) (by omega) fun g4 v4 h4 A8 E4 Cn Co=>?_))))));have Cp:=E4.1;have A9:=E3.trans E4;have Ba:=X9.trans E4;have HS_15:=HS_11.ext E4;have HP_16:=HP.ext E4;refine Ar5 AJg rfl HP_16 rfl (by omega) ?_;have hglt:=HP.1.lt;have hblo:=HP.2 b2 (List.mem_cons_self ..);refine Ar6 AKg rfl rfl HP_16 (by simp) (by omega) A8 (fun hc=>by have:=hglt _ hc;omega) (by omega) fun h4b HPb U4=>?_;have Cq:=U4.1;have Cr:=Ba.thenUpd U4 (fun k hk=>by have Ah:k=b2:=hk;omega);have Ao:=A9.thenUpd U4 (fun k hk=>by have Ah:k=b2:=hk;omega);have HS_20:=HS.ext Ao;refine ACt (q_t (ACu (ACv (AHo (Aix AJg rfl HPb.1 (AHo (ACt (q_t (AHz (AIy 604462909525839610642944 (fun j:Nat=>[(48,.int .i64 (j:Int))]) (fun k j h'=>k=m - 1 - j/\j<=m - 1/\Ext hq h'/\AS7 h' tR tI (Array.size hq) b2 (gs ++ [g4]) v2 (m - 1) ((List.range i).map (fun i=>(List.range (m - 1)).map fun j=>AUn F last i j) ++ [Abj (m - 1) (AUn F last i) (fun _=>0) j])) (by kernel_rfl) (m - 1) 0 ?_ ⟨rfl,trivial⟩ ?_))))))))))
     ·exact ⟨rfl,Nat.zero_le _,Ao,by rw [Amg,Amh];exact HPb⟩
     rintro k j s3 h5 ⟨rfl,hj,E5,HQ⟩;have Bb:=XQ.trans E5;have Cv:=E5.1;have HS_23:=HS.ext E5;refine ACu (ACv (ALo rfl rfl (fun Bc=>?_) (fun Bc=>?_)))
     ·refine ACt (q_t (ACu (AIh rfl (AH2 (q_t (ACu (AHz (ACu (ACv (AHo (AHq (ACt (q_t ?_)))))))))))));have hd:=hsh.1;have hfit:=fun i j hi hj=>Ab6 hstg (by omega) (by omega) (i:=i) (j:=j) hi hj;have q1:=AX6 (a:=65535) (b:=34359738368) (x:=F 0 0) (y:=F (i + 1) (j + 1)) ⟨by omega,by omega⟩ (hfit _ _ (by omega) (by omega));have q2:=hsh.2 (i + 1) (by omega) (by omega);have q3:=hsh.2 (j + 1) (by omega) (by omega);rw [<- hstg.sym 0 (j + 1) (by omega) (by omega)] at q3;have q4:=AX6 (a:=32768) (b:=32768) (x:=F (i + 1) 0) (y:=F 0 (j + 1)) ⟨by omega,by omega⟩ ⟨by omega,by omega⟩;unfold Abs at q1 q4;refine ALp (by kernel_rfl) (AHo (AHo (Axm AJg rfl HQ rfl (Agp (by simp)) fun aQ rQ gQ haQ hgQ hrQ=>?_)));refine AIr AKg rfl haQ (AHo (AHo (AHo (AHo (AOw rfl (by omega) (AVn AJp rfl (hrR.ext E5) rfl (APs (by omega)) fun Cw Bi=>AIr ALy rfl Bi (AR0 rfl rfl (by omega) (by omega) (AHo (AVn (n:=0) AJp rfl (hrR.ext E5) rfl (APs (by omega)) fun Cx Bj=>AIr ALy rfl Bj (AHo (AW5 (n:=0) AJg rfl HS_23 rfl (ASf (by omega)) fun aZ rZ haZ hrZ=>AIr AKg rfl haZ (AHo (AOw rfl (by omega) (AVn AJp rfl hrZ rfl (APs (by omega)) fun Cy Bl=>AIr ALy rfl Bl (AR0 rfl rfl (by omega) (by omega) (AQx rfl rfl (by omega) (by omega) (AHo (Ad4 rfl rfl (by omega) ?_))))))))))))))))));have hnf:=Ab6 (Ah7 (m:=m - 1) (by rw [show m - 1 + 1=m by omega];exact hstg) (by omega) (by rw [show m - 1 + 1=m by omega];exact hsh)) (by omega) (by omega) (i:=i) (j:=j) (by omega) (by omega);unfold Abs at hnf;rw [show IntKind.i64.wrap ((F 0 0 * F (i + 1) (j + 1) - F (i + 1) 0 * F 0 (j + 1)).tdiv last)=AUn F last i j from Go.QF.wrap_small (by have:(F 0 0 * F (i + 1) (j + 1) - F (i + 1) 0 * F 0 (j + 1)).tdiv last=AUn F last i j:=rfl;omega) (by have:(F 0 0 * F (i + 1) (j + 1) - F (i + 1) 0 * F 0 (j + 1)).tdiv last=AUn F last i j:=rfl;omega)];refine AVk AJp rfl hrQ rfl (by rw [List.length_map,AW9];omega) ?_;refine Ar7 (Abj (m - 1) (AUn F last i) (fun _=>0) (j + 1)) ALy rfl rfl HQ hgQ (Agp (by simp)) hrQ (by rw [AW9];omega) (Aoh (by omega) rfl) fun h6 Bm U6 C0=>?_;have C1:=U6.1;have C2:=Bb.thenUpd U6 (fun k hk=>by have Ah:k=gQ:=hk;omega);have Ap:=E5.thenUpd U6 (fun k hk=>by have Ah:k=gQ:=hk;omega);have HS_30:=HS.ext Ap;have Aq:=Bm;rw [Aom (by simp)] at Aq;refine ACt (q_b (q_t (ACv (AOw rfl (by omega) (AHo (ACt (q_t ?_)))))));exact ⟨m - 1 - (j + 1),j + 1,by omega,⟨rfl,by omega,Ap,Aq⟩,rfl,trivial⟩
     ·refine ACt (q_t (ACu (AId rfl (AIo (AIq (AIq (AJ5 (q_b (q_t (ACv (AOw rfl (by omega) (AHo (ACt (q_t ?_))))))))))))));exact ⟨m - 1 - (i + 1),i + 1,by omega,⟨rfl,by omega,E5,gs ++ [g4],by rw [Aog _ _ (by omega)] at HQ;rw [<- Aiw];exact HQ⟩,rfl,trivial⟩
    ·refine ACt (q_t (ACu (AId rfl (AIo (AIq (AIq (AJ5 (q_t (ACu ?_)))))))));obtain rfl:i=m - 1:=by omega
     have Ar:AS7 h3 tR tI (Array.size hq) b2 gs v2 (tab (m - 1) (m - 1) (AUn F last)).length (tab (m - 1) (m - 1) (AUn F last)):=by rw [AJk];exact HP
     have HN:=Ar.mat;have hcapn:=Ar.cap;have Bn:=Ah7 (m:=m - 1) (by rw [show m - 1 + 1=m by omega];exact hstg) (by omega) (by rw [show m - 1 + 1=m by omega];exact hsh);have hnx:Stg (m - 1) (AUn F last) (F 0 0) (262144 + 16384 * (M.length - ((m - 1:Nat):Int))):=by rw [show (262144 + 16384 * ((M.length:Int) - ((m - 1:Nat):Int)))=262144 + 16384 * ((M.length:Int) - (m:Int)) + 16384 by omega];exact Bn
     refine ACv (AHo (AW5 (n:=1) AJg rfl HS_11 rfl (ASf (by omega)) fun C3 C4 Bo Bp=>AIr AKg rfl Bo (AVn (n:=0) AJp rfl Bp rfl (APs (by omega)) fun C5 Bq=>AIr ALy rfl Bq (AHq (ACt (q_t (ACu (ACu ?_))))))));have hd:=hsh.1;have hnf:=Ab6 hnx (by omega) (by omega) (i:=0) (j:=0) (by omega) (by omega);have q5:=AX6 (a:=65535) (b:=34359738368) (x:=last) (y:=AUn F last 0 0) ⟨by omega,by omega⟩ hnf;have q2:=hsh.2 1 (by omega) (by omega);have q6:=AX6 (a:=32768) (b:=32768) (x:=F 1 0) (y:=F 1 0) ⟨by omega,by omega⟩ ⟨by omega,by omega⟩;have q7:=AYp (a:=3 * F 0 0) (b:=F 0 0) (A:=196605) (B:=65535) (by omega) (by omega) (by omega) (by omega);unfold Abs at q5 q6;refine ACv (AHo (AHo (AW5 (n:=0) AJg rfl HN rfl (ASf (by omega)) fun aN rN haN hrN=>AIr AKg rfl haN (AVn (n:=0) AJp rfl hrN rfl (APs (by omega)) fun aO haO=>AIr ALy rfl haO (AR0 rfl rfl (by omega) (by omega) (AHo (AHo (AR0 rfl rfl (by omega) (by omega) (Acj rfl rfl (by omega) (by omega) (AR0 rfl rfl (by omega) (by omega) (AHo (AR0 rfl rfl (by omega) (by omega) (AHo (AR0 rfl rfl (by omega) (by omega) (ALo rfl rfl (fun Bu=>?_) (fun Bu=>?_))))))))))))))))
     ·refine ACt (q_t (AIh rfl (ACu (ACv (AHq (ACt (q_t (AH1 (AIi (AJ0 (AIi (AJ0 (AIi (⟨_,AH5,?_⟩))))))))))))))
      first
        | exact ⟨X9,congrArg Value.bool (show false=isRed M by unfold isRed;rw [show AQc M=false by assumption];rfl)⟩
        | exact ⟨X9,congrArg Value.bool (show false=isRed M by unfold isRed;rw [hred,AS1 (by omega) (of_decide_eq_false (by assumption)),Bool.and_false])⟩
        | exact ⟨X9,congrArg Value.bool (show false=isRed M by unfold isRed;rw [hred,AV1 (by omega) (by unfold AYa;omega),Bool.and_false])⟩
        | (obtain rfl:m=1:=by omega
           first
           | exact ⟨X9,congrArg Value.bool (show true=isRed M by unfold isRed;rw [hred,<- ANi hsm,ATh,decide_eq_true ⟨by omega,by omega⟩];rfl)⟩
           | exact ⟨X9,congrArg Value.bool (show false=isRed M by unfold isRed;rw [hred,ATh,decide_eq_false (by omega),Bool.and_false])⟩)
     ·refine ACt (q_t (AId rfl (AH2 (q_t ?_))));have hlov:AYa F last:=by unfold AYa;omega
      have hredn:=Anf (last:=last) (by omega) hsh hlov;refine ACv (AHo (AHo (AHq (AHq (ACt (q_b (q_t ?_)))))));exact ⟨m - 1,(m - 1,v2,F 0 0,AUn F last),by first | omega | (dsimp only;omega),⟨rfl,X9,by first | omega | (dsimp only;omega),by first | omega | (dsimp only;omega),HN,hcapn,hnx,by rw [hred,hredn]⟩,rfl,rfl,trivial⟩
  ·refine ACt (q_t (AId rfl (AIo (AIq (AIq (AJ5 (q_t (ACu (ACv (AHo (AW5 (n:=0) AJg rfl HS rfl (ASf (by omega)) fun C7 C8 Bv Bw=>AIr AKg rfl Bv (AVn (n:=0) AJp rfl Bw rfl (APs (by omega)) fun C9 Bx=>AIr ALy rfl Bx (ATv rfl rfl (fun By=>?_) (fun By=>?_))))))))))))))
   ·refine AHo (AH3 110 true (by kernel_rfl) rfl rfl (AHo (AH3 110 true (by kernel_rfl) rfl rfl (AW5 (n:=0) AJg rfl HS rfl (ASf (by omega)) fun Da Db Bz B1=>AH3 110 true (by kernel_rfl) rfl rfl (AIr AKg rfl Bz (AH3 110 true (by kernel_rfl) rfl rfl (AVn (n:=0) AJp rfl B1 rfl (APs (by omega)) fun Dc B3=>AH3 110 true (by kernel_rfl) rfl rfl (AIr ALy rfl B3 (AH3 110 true (by kernel_rfl) rfl rfl (AVl rfl rfl (fun B4=>?_) (fun B4=>?_)))))))))))
    ·refine AIt rfl (AHq (ACt (q_t (AH1 (⟨_,AH5,?_⟩)))))
     first
       | exact ⟨XQ,congrArg Value.bool (show false=isRed M by unfold isRed;rw [show AQc M=false by assumption];rfl)⟩
       | exact ⟨XQ,congrArg Value.bool (show false=isRed M by unfold isRed;rw [hred,AS1 (by omega) (of_decide_eq_false (by assumption)),Bool.and_false])⟩
       | exact ⟨XQ,congrArg Value.bool (show false=isRed M by unfold isRed;rw [hred,AV1 (by omega) (by unfold AYa;omega),Bool.and_false])⟩
       | (obtain rfl:m=1:=by omega
          first
          | exact ⟨XQ,congrArg Value.bool (show true=isRed M by unfold isRed;rw [hred,<- ANi hsm,ATh,decide_eq_true ⟨by omega,by omega⟩];rfl)⟩
          | exact ⟨XQ,congrArg Value.bool (show false=isRed M by unfold isRed;rw [hred,ATh,decide_eq_false (by omega),Bool.and_false])⟩)
    ·refine AIt rfl (AHq (ACt (q_t (AH1 (⟨_,AH5,?_⟩)))))
     first
       | exact ⟨XQ,congrArg Value.bool (show false=isRed M by unfold isRed;rw [show AQc M=false by assumption];rfl)⟩
       | exact ⟨XQ,congrArg Value.bool (show false=isRed M by unfold isRed;rw [hred,AS1 (by omega) (of_decide_eq_false (by assumption)),Bool.and_false])⟩
       | exact ⟨XQ,congrArg Value.bool (show false=isRed M by unfold isRed;rw [hred,AV1 (by omega) (by unfold AYa;omega),Bool.and_false])⟩
       | (obtain rfl:m=1:=by omega
          first
          | exact ⟨XQ,congrArg Value.bool (show true=isRed M by unfold isRed;rw [hred,<- ANi hsm,ATh,decide_eq_true ⟨by omega,by omega⟩];rfl)⟩
          | exact ⟨XQ,congrArg Value.bool (show false=isRed M by unfold isRed;rw [hred,ATh,decide_eq_false (by omega),Bool.and_false])⟩)
   ·refine AHo (AH0 110 false (by kernel_rfl) rfl rfl (AH0 110 false (by kernel_rfl) rfl rfl (AH0 110 false (by kernel_rfl) rfl rfl (AH0 110 false (by kernel_rfl) rfl rfl (AH0 110 false (by kernel_rfl) rfl rfl (AH0 110 false (by kernel_rfl) rfl rfl (AIv rfl (AHq (ACt (q_t (AH1 (⟨_,AH5,?_⟩))))))))))))
    first
      | exact ⟨XQ,congrArg Value.bool (show false=isRed M by unfold isRed;rw [show AQc M=false by assumption];rfl)⟩
      | exact ⟨XQ,congrArg Value.bool (show false=isRed M by unfold isRed;rw [hred,AS1 (by omega) (of_decide_eq_false (by assumption)),Bool.and_false])⟩
      | exact ⟨XQ,congrArg Value.bool (show false=isRed M by unfold isRed;rw [hred,AV1 (by omega) (by unfold AYa;omega),Bool.and_false])⟩
      | (obtain rfl:m=1:=by omega
         first
         | exact ⟨XQ,congrArg Value.bool (show true=isRed M by unfold isRed;rw [hred,<- ANi hsm,ATh,decide_eq_true ⟨by omega,by omega⟩];rfl)⟩
         | exact ⟨XQ,congrArg Value.bool (show false=isRed M by unfold isRed;rw [hred,ATh,decide_eq_false (by omega),Bool.and_false])⟩)
end Go.Proofs.YtmmckalinicpaaaGreatDoor
namespace Go.QF
section
variable {p:Int} {m:Nat}
def gs (p:Int) (m:Nat) (a k:Int):Int:=if a * k % p<=m then 1 else -1
end
end Go.QF
namespace Go.QF
def e4 (x y:Int):Int:=if x % 4=3/\y % 4=3 then -1 else 1
end Go.QF
namespace Go.Proofs.YtmmckalinicpaaaGreatDoor
open Go Go.QF
set_option maxRecDepth 100000
open Classical in
noncomputable def Aa5 (p:Int):Bool:=decide (2 < p/\p<=9973/\Pr p)
theorem Agf {p:Int} (h:2 < p/\p<=9973/\Pr p):true=Aa5 p:=by simp [Aa5,h]
theorem AXq {p:Int} (h: ¬ (2 < p/\p<=9973/\Pr p)):false=Aa5 p:=by simp [Aa5,h]
theorem prB {p:Int} {b:Bool} (h:AOc p=b) (hp:p<=9973):b=true↔Pr p:=by
 subst h;constructor
 ·intro h;exact (Amc h).2
 ·intro h;exact (AY9 (by omega) h).symm
theorem Atz (p:Int) {h:AHr} (HO:AX8 h):AIj Tryz.prog 62 #[.int .i64 p] h fun v h'=>h'=h/\v= .bool (Aa5 p):=by
 refine AHx (l:=[_]) mx Tryz.func62 rfl rfl rfl rfl rfl (by kernel_rfl) (ACu (ACv (AHq (ACt (q_t (ACu (ACv (AHo (ATv rfl rfl (fun Aa=>?_) (fun Aa=>?_))))))))))
 ·refine AHo (AH3 5 true (by kernel_rfl) rfl rfl (AHo (AH3 5 true (by kernel_rfl) rfl rfl (AVl rfl rfl (fun Ab=>?_) (fun Ab=>?_)))))
  ·refine AIt rfl (AHo (AH3 9 true (by kernel_rfl) rfl rfl (AHo (AH3 9 true (by kernel_rfl) rfl rfl (AIa trivial rfl (Auf p HO) fun x1 h hk=>?_)))));obtain ⟨rfl,rfl⟩:=hk;refine ⟨trivial,?_⟩;cases Ad:AOc p
   ·refine AIt rfl (AHq (ACt (q_t (AH1 (⟨_,AH5,?_⟩)))))
    first
    | exact ⟨rfl,congrArg Value.bool (AXq (fun hh=>by have:=hh.1;have:=hh.2.1;omega))⟩
    | (have hq:=(prB (by assumption:AOc p=_) (by omega));first | exact ⟨rfl,congrArg Value.bool (Agf ⟨by first | omega | (have:=(hq.1 rfl).1;omega),by omega,hq.1 rfl⟩)⟩ | exact ⟨rfl,congrArg Value.bool (AXq (fun hh=>by have:=hq.2 hh.2.2;cases this))⟩)
   ·refine AIt rfl (AHq (ACt (q_t (AH1 (⟨_,AH5,?_⟩)))))
    first
    | exact ⟨rfl,congrArg Value.bool (AXq (fun hh=>by have:=hh.1;have:=hh.2.1;omega))⟩
    | (have hq:=(prB (by assumption:AOc p=_) (by omega));first | exact ⟨rfl,congrArg Value.bool (Agf ⟨by first | omega | (have:=(hq.1 rfl).1;omega),by omega,hq.1 rfl⟩)⟩ | exact ⟨rfl,congrArg Value.bool (AXq (fun hh=>by have:=hq.2 hh.2.2;cases this))⟩)
  ·refine AIt rfl (AHo (AH0 9 false (by kernel_rfl) rfl rfl (AH0 9 false (by kernel_rfl) rfl rfl (AIv rfl (AHq (ACt (q_t (AH1 (⟨_,AH5,?_⟩)))))))))
   first
   | exact ⟨rfl,congrArg Value.bool (AXq (fun hh=>by have:=hh.1;have:=hh.2.1;omega))⟩
   | (have hq:=(prB (by assumption:AOc p=_) (by omega));first | exact ⟨rfl,congrArg Value.bool (Agf ⟨by first | omega | (have:=(hq.1 rfl).1;omega),by omega,hq.1 rfl⟩)⟩ | exact ⟨rfl,congrArg Value.bool (AXq (fun hh=>by have:=hq.2 hh.2.2;cases this))⟩)
 ·refine AHo (AH0 5 false (by kernel_rfl) rfl rfl (AH0 5 false (by kernel_rfl) rfl rfl (AIv rfl (AHo (AH0 9 false (by kernel_rfl) rfl rfl (AH0 9 false (by kernel_rfl) rfl rfl (AIv rfl (AHq (ACt (q_t (AH1 (⟨_,AH5,?_⟩))))))))))))
  first
  | exact ⟨rfl,congrArg Value.bool (AXq (fun hh=>by have:=hh.1;have:=hh.2.1;omega))⟩
  | (have hq:=(prB (by assumption:AOc p=_) (by omega));first | exact ⟨rfl,congrArg Value.bool (Agf ⟨by first | omega | (have:=(hq.1 rfl).1;omega),by omega,hq.1 rfl⟩)⟩ | exact ⟨rfl,congrArg Value.bool (AXq (fun hh=>by have:=hq.2 hh.2.2;cases this))⟩)
open Classical in
noncomputable def AMv (p:Int):Bool:=decide (p<=9973/\Pr p)
theorem Small_ok (p:Int) (h:AHr):AIj Tryz.prog 64 #[.int .i64 p] h fun v h'=>h'=h/\v= .bool (AMv p):=by
 refine AHx (l:=[_]) mx Tryz.func64 rfl rfl rfl rfl rfl (by kernel_rfl) (ACu (ACv (AHq (ACt (q_t (ACu (ACv (AHo (AVl rfl rfl (fun Aa=>?_) (fun Aa=>?_))))))))))
 ·refine AHo (AH3 5 true (by kernel_rfl) rfl rfl (AHo (AH3 5 true (by kernel_rfl) rfl rfl (AIa trivial rfl (Aoi p _) fun x1 h hk=>?_))));obtain ⟨rfl,rfl⟩:=hk;refine ⟨trivial,?_⟩;cases Ac:AOc p
  ·refine AIt rfl (AHq (ACt (q_t (AH1 (⟨_,AH5,?_⟩)))))
   first
   | exact ⟨rfl,congrArg Value.bool (show false=AMv p by simp [AMv];intro hh;omega)⟩
   | (have hq:=(prB (by assumption:AOc p=_) (by omega));first | exact ⟨rfl,congrArg Value.bool (show true=AMv p by simp [AMv];exact ⟨by omega,hq.1 rfl⟩)⟩ | exact ⟨rfl,congrArg Value.bool (show false=AMv p by simp [AMv];intro _ hh;have:=hq.2 hh;cases this)⟩)
  ·refine AIt rfl (AHq (ACt (q_t (AH1 (⟨_,AH5,?_⟩)))))
   first
   | exact ⟨rfl,congrArg Value.bool (show false=AMv p by simp [AMv];intro hh;omega)⟩
   | (have hq:=(prB (by assumption:AOc p=_) (by omega));first | exact ⟨rfl,congrArg Value.bool (show true=AMv p by simp [AMv];exact ⟨by omega,hq.1 rfl⟩)⟩ | exact ⟨rfl,congrArg Value.bool (show false=AMv p by simp [AMv];intro _ hh;have:=hq.2 hh;cases this)⟩)
 ·refine AHo (AH0 5 false (by kernel_rfl) rfl rfl (AH0 5 false (by kernel_rfl) rfl rfl (AIv rfl (AHq (ACt (q_t (AH1 (⟨_,AH5,?_⟩))))))))
  first
  | exact ⟨rfl,congrArg Value.bool (show false=AMv p by simp [AMv];intro hh;omega)⟩
  | (have hq:=(prB (by assumption:AOc p=_) (by omega));first | exact ⟨rfl,congrArg Value.bool (show true=AMv p by simp [AMv];exact ⟨by omega,hq.1 rfl⟩)⟩ | exact ⟨rfl,congrArg Value.bool (show false=AMv p by simp [AMv];intro _ hh;have:=hq.2 hh;cases this)⟩)
end Go.Proofs.YtmmckalinicpaaaGreatDoor
namespace Go.QF
open Go
def agA (l l':ALg):ALg->Bool
  | []=>true
  | (t,_) :: ks=>veq (ATa l t) (ATa l' t) && agA l l' ks
def Al0 (l l':ALg):Bool:=agA l l' l && agA l l' l'
def Aj6:Hp->Hp->Bool
  | [],[]=>true
  | none :: bs,none :: bs'=>Aj6 bs bs'
  | some b :: bs,some b' :: bs'=>Afm b.c b'.c && (b.ro == b'.ro) && Nat.beq b.sz b'.sz && Aj6 bs bs'
  | _,_=>false
def Aa6 (P:Program) (Q:EqT) (C:ASk) (G:List (Nat × Nat)) (ops:Array Oper) (L:Cl) (k d:Nat) (z:List V) (rest:List Oper) (l:ALg) (bs:Hp):Option (ALg × Hp):=
  bif ANl bs L && ANl (bs.set k (some ⟨z,false,0⟩)) L then Ai9 P Q C G ops L rest (AXf l d (.p k 0)) (bs.set k (some ⟨z,false,0⟩)) else none
def Aj7 (o:Op):Bool:=match kindOf o with | .pure=>true | .read=>true | _=>false
def Aia (a b:Option (ALg × Hp)):Option (ALg × Hp):=match a,b with
  | some (l1,b1),some (l2,b2)=>bif Al0 l1 l2 && Aj6 b1 b2 then some (l1,b1) else none
  | _,_=>none
def Adr (P:Program) (Q:EqT) (C:ASk) (G:List (Nat × Nat)) (ops:Array Oper) (L:Cl) (k d:Nat) (z:List V) (T:List Oper):List Oper->ALg->Hp->Option (ALg × Hp)
  | [],l,bs=>Aa6 P Q C G ops L k d z T l bs
  | o :: R,l,bs=>match AZo ops l o.guard with
    | some true=>(match Abc P Q C G l bs o with
      | some (l',bs')=>bif (match kindOf o.op with | .read=>ANl bs L && Amp P L G l l' o | .eff=>ANl bs L && ANl bs' L | _=>true) then
          (bif Aj7 o.op then Adr P Q C G ops L k d z T R l' bs' else Aia (Adr P Q C G ops L k d z T R l' bs') (Aa6 P Q C G ops L k d z (o :: (R ++ T)) l bs))
          else none
      | none=>none)
    | some false=>bif Aj7 o.op then Adr P Q C G ops L k d z T R (Afl l o.dst .u) bs else Aia (Adr P Q C G ops L k d z T R (Afl l o.dst .u) bs) (Aa6 P Q C G ops L k d z (o :: (R ++ T)) l bs)
    | none=>none
def findF:List Oper->Nat->Option (Nat × Nat × TypeId)
  | [],_=>none
  | o :: r,j=>match o with
    | ⟨some d,.alloc t,_,_,_,none⟩=>some (j,d,t)
    | _=>findF r (j + 1)
def Ari (P:Program) (Q:EqT) (G:List (Nat × Nat)) (ops:Array Oper) (bs:Hp):List Oper->ALg->ALg
  | [],l=>l
  | o :: r,l=>bif Aj7 o.op then (match AZo ops l o.guard with
      | some true=>(match Abc P Q (fun _ _ _=>none) G l bs o with | some (l',_)=>Ari P Q G ops bs r l' | none=>Ari P Q G ops bs r (Afl l o.dst .u))
      | _=>Ari P Q G ops bs r (Afl l o.dst .u)) else Ari P Q G ops bs r (Afl l o.dst .u)
def AZ6 (P:Program) (Q:EqT) (G:List (Nat × Nat)) (ops:Array Oper) (l:ALg) (bs:Hp):Cl:=Afn G ops (Ari P Q G ops bs ops.toList l) ops.toList
def Awr (P:Program) (Q:EqT) (C:ASk) (G:List (Nat × Nat)) (n:Nat) (ops:Array Oper) (draw:Bool) (l:ALg) (bs:Hp):Option (ALg × Hp):=
  bif Aa8 n ops draw then
      (bif APz ops draw then (bif ANl bs (AZ6 P Q G ops l bs) then Ai9 P Q C G ops (AZ6 P Q G ops l bs) ops.toList l bs else none) else Apg P Q C G ops ops.toList l bs)
    else (bif draw && APz ops true then (match findF ops.toList 0 with
      | some (f,d,t)=>(match zeE P t with
        | some (_,z)=>bif AZr n ops f && ANl bs (AZ6 P Q G ops l bs) then Adr P Q C G ops (AZ6 P Q G ops l bs) bs.length d z (ops.toList.drop (f + 1)) (ops.toList.take f) l (bs ++ [none]) else none
        | none=>none)
      | none=>none) else none)
def ARj (P:Program) (Q:EqT) (C:ASk) (G:List (Nat × Nat)) (nt:Nat):Nat->Code->ALg->Hp->Option (Exit × ALg × Hp)
  | 0,_,_,_=>none
  | n + 1,.skip,l,bs=>some (.normal,l,bs)
  | n + 1,.region _ ops draw,l,bs=>match Awr P Q C G nt ops draw l bs with | some (l',bs')=>some (.normal,l',bs') | none=>none
  | n + 1,.seq a b,l,bs=>match ARj P Q C G nt n a l bs with | some (.normal,l',bs')=>ARj P Q C G nt n b l' bs' | r=>r
  | n + 1,.cond c x y,l,bs=>match evE G l c with | some (.b true)=>ARj P Q C G nt n x l bs | some (.b false)=>ARj P Q C G nt n y l bs | _=>none
  | n + 1,.block id c,l,bs=>match ARj P Q C G nt n c l bs with | some (.exit id',l',bs')=>bif Nat.beq id' id then some (.normal,l',bs') else some (.exit id',l',bs') | r=>r
  | n + 1,.loop c,l,bs=>match ARj P Q C G nt n c l bs with | some (.normal,l',bs')=>ARj P Q C G nt n (.loop c) l' bs' | r=>r
  | n + 1,.exit id,l,bs=>some (.exit id,l,bs)
  | n + 1,.ret,l,bs=>some (.ret,l,bs)
  | n + 1,.scope c,l,bs=>match ARj P Q C G nt n c l bs with | some (.goto _,_,_)=>none | r=>r
  | n + 1,.label _,l,bs=>some (.normal,l,bs)
  | _ + 1,_,_,_=>none
def Aws (P:Program) (l:ALg) (bs:Hp):ResultVar->Option V
  | .tmp t=>some (ATa l t)
  | .cell t ty=>match ATa l t,tyE P ty with
    | .p b o,some (false,1)=>Ac2 bs b o
    | .p b o,some (true,n)=>match ASj bs b o n with | some vs=>some (.a vs) | none=>none
    | _,_=>none
def Al1 (P:Program) (l:ALg) (bs:Hp):List ResultVar->Option (List V)
  | []=>some []
  | r :: rs=>match Aws P l bs r,Al1 P l bs rs with | some v,some vs=>some (v :: vs) | _,_=>none
def At0 (P:Program) (l:ALg) (bs:Hp) (rs:List ResultVar):Option V:=match Al1 P l bs rs with
  | some [v]=>some v
  | some vs=>some (.t vs)
  | none=>none
def Ads:Nat->List V->ALg
  | _,[]=>[]
  | k,v :: vs=>(k,v) :: Ads (k + 1) vs
def Arj:List Nat->Nat->Bool
  | [],_=>false
  | x :: l,y=>bif Nat.beq x y then true else Arj l y
def Al2 (P:Program) (Q:EqT) (L:List FuncId) (G:List (Nat × Nat)) (fuel:Nat):Nat->ASk
  | 0,_,_,_=>none
  | d + 1,f,vs,bs=>bif Arj L f then (match P.funcs[f]? with
    | some fn=>(match fn.body with
      | some c=>bif Nat.ble vs.length fn.ntmps then (match ARj P Q (Al2 P Q L G fuel d) G fn.ntmps fuel c (Ads 0 vs) bs with
        | some (.normal,l,bs')=>(match At0 P l bs' fn.results.toList with | some v=>some (v,bs') | none=>none)
        | some (.ret,l,bs')=>(match At0 P l bs' fn.results.toList with | some v=>some (v,bs') | none=>none)
        | _=>none) else none
      | none=>none)
    | none=>none) else none
theorem Ae5:∀ {l:ALg} {t:Nat},(∀ v,(t,v) ∉ l)->ATa l t= .u:=by
 intro l
 induction l with
 | nil=>intro t _;rfl
 | cons q l ih=>
   obtain ⟨d,v⟩:=q
   intro t h
   have hne:t≠d:=fun he=>h v (by rw [he];exact List.mem_cons_self ..)
   simp only [ATa,AWb hne,cond_false]
   exact ih fun w hw=>h w (List.mem_cons_of_mem _ hw)
theorem Ark {l l':ALg}:∀ {ks:ALg},agA l l' ks=true-> ∀ t v,(t,v)∈ks->ATa l t=ATa l' t:=by
 intro ks
 induction ks with
 | nil=>intro _ t v h;cases h
 | cons q ks ih=>
   obtain ⟨d,w⟩:=q
   intro h t v hm
   simp only [agA,Bool.and_eq_true] at h
   rcases List.mem_cons.1 hm with he | hm
   · cases he;exact Aps _ _ h.1
   · exact ih h.2 t v hm
theorem Arl {l l':ALg} (h:Al0 l l'=true) (t:Nat):ATa l t=ATa l' t:=by
 simp only [Al0,Bool.and_eq_true] at h;by_cases h1:∃ v,(t,v)∈l
 ·obtain ⟨v,hv⟩:=h1;exact Ark h.1 t v hv
 ·by_cases h2:∃ v,(t,v)∈l'
  ·obtain ⟨v,hv⟩:=h2;exact Ark h.2 t v hv
  ·rw [Ae5 fun v hv=>h1 ⟨v,hv⟩,Ae5 fun v hv=>h2 ⟨v,hv⟩]
theorem At1:∀ {bs bs':Hp},Aj6 bs bs'=true->bs=bs':=by
 intro bs
 induction bs with
 | nil=>intro bs' h;cases bs' with | nil=>rfl | cons=>cases h
 | cons x bs ih=>
   intro bs' h
   cases bs' with
   | nil=>cases x <;> cases h
   | cons y bs'=>
     cases x with
     | none=>
       cases y with
       | none=>simp only [Aj6] at h;rw [ih h]
       | some=>cases h
     | some b=>
       cases y with
       | none=>cases h
       | some b'=>
         simp only [Aj6,Bool.and_eq_true,beq_iff_eq] at h
         obtain ⟨⟨⟨h1,h2⟩,h3⟩,h4⟩:=h
         rw [ih h4]
         obtain ⟨c,r,s⟩:=b
         obtain ⟨c',r',s'⟩:=b'
         simp only at h1 h2 h3
         rw [AWd _ _ h1,h2,Nat.eq_of_beq_eq_true h3]
section
variable {P:Program} {h:AHr} {G:List (Nat × Nat)} {Q:EqT} {C:ASk} {ops:Array Oper} {K:Env->AHr->Prop}
theorem Arm (HQ:Aal P Q) (HC:ASl P h G C) {Aa ms m:Mp} {H0 H:AHr} {L:Cl} (B0:BL Aa L H0) (hm:Wle Aa m) (hpre:∃ t,m=ms ++ none :: t) {l l':ALg} {bs bs':Hp} {e:Env} (R:Rl h G m l bs e H) {d:Nat} {t:TypeId} {ty:TypeId} {pos:String} {af:Array Edge} {z:List V} {zn:Nat} (hz:zeE P t=some (zn,z)) {rest:List Oper}
    (hv:Aa6 P Q C G ops L ms.length d z rest l bs=some (l',bs')) (HK:∀ m' e' H',Mle ms m'->Rl h G m' l' bs' e' H'->K e' H'):RL P (BL Aa L) true ops (⟨some d,.alloc t,ty,pos,af,none⟩ :: rest) e H K:=by
 unfold Aa6 at hv
 cases hb:(ANl bs L && ANl (bs.set ms.length (some ⟨z,false,0⟩)) L) with
 | false=>rw [hb] at hv;cases hv
 | true=>
   rw [hb] at hv
   simp only [cond_true] at hv
   simp only [Bool.and_eq_true] at hb
   obtain ⟨t',rfl⟩:=hpre
   obtain ⟨i,zv,hi,hzz,hsi,hn,hby,hzr,hzs⟩:=Aak hz
   have hk:(ms ++ none :: t')[ms.length]? =some none:=by simp
   have hlr:LR (ms ++ none :: t') z zv.cells.toList:=by have:=Aaj (ws:=[]) (hzr (ms ++ none :: t'));rwa [List.append_nil] at this
   have hres:=R.heap.resv hk (t:=t) hlr
   have hW:=Agy hk (H.size,0)
   have hgk:mg ((ms ++ none :: t').set ms.length (some (H.size,0))) ms.length=some (H.size,0):=by
     unfold mg;rw [List.getElem?_set_self (by simp)]
   refine Abq ⟨i,hi,hzz,by rw [hsi,hzs],rfl⟩ (B0.later hm R.heap hb.1) ⟨B0.later (hm.trans hW) hres hb.2,?_⟩
   refine Ak0 HQ HC B0 rest _ _ _ _ _ (hm.trans hW) ⟨(R.env.mono hW).put (v:= .p ms.length 0) ⟨(H.size,0),hgk,rfl⟩ d,hres⟩ hv fun m' e' H' hm' R'=>HK m' e' H' ?_ R'
   obtain ⟨u,rfl⟩:=hm'.pre
   exact ⟨⟨some (H.size,0) :: (t' ++ u),by simp [List.set_append_right]⟩⟩
theorem At2 {o:Op} (h:Aj7 o=true):kindOf o= .pure∨kindOf o= .read:=by
 unfold Aj7 at h;cases hk:kindOf o <;> rw [hk] at h <;> first | exact .inl rfl | exact .inr rfl | cases h
theorem Arn {a b:Option (ALg × Hp)} {l:ALg} {bs:Hp} (h:Aia a b=some (l,bs)):a=some (l,bs)/\ ∃ l2,b=some (l2,bs)/\ ∀ t,ATa l2 t=ATa l t:=by
 unfold Aia at h;split at h
 ·rename_i l1 b1 l2 b2
  cases hb:(Al0 l1 l2 && Aj6 b1 b2) with
  | false=>rw [hb] at h;cases h
  | true=>
    rw [hb] at h;cases h
    simp only [Bool.and_eq_true] at hb
    exact ⟨rfl,l2,by rw [At1 hb.2],fun t=>(Arl hb.1 t).symm⟩
 ·cases h
theorem At3 (HQ:Aal P Q) (HC:ASl P h G C) {n f d:Nat} {t ty:TypeId} {pos:String} {af:Array Edge} (hof:ops[f]? =some ⟨some d,.alloc t,ty,pos,af,none⟩) (S:Ajf n ops f ⟨some d,.alloc t,ty,pos,af,none⟩) (hst:APz ops true=true) {Ae ms:Mp} {H0:AHr} {L:Cl} (B0:BL Ae L H0) {z:List V} {zn:Nat} (hz:zeE P t=some (zn,z))
    {T:List Oper} {IT:List Nat} (hT:IT.map (fun i=>ops[i]?)=T.map some):∀ (R:List Oper) (IR:List Nat),IR.map (fun i=>ops[i]?)=R.map some->(∀ i∈IR,i < f)-> ∀ (m:Mp) (l:ALg) (bs:Hp) (e:Env) (H:AHr) (l':ALg) (bs':Hp),(∃ t,m=ms ++ none :: t)->Wle Ae m->Rl h G m l bs e H->
      Adr P Q C G ops L ms.length d z T R l bs=some (l',bs')->(∀ m' e' H',Mle ms m'->Rl h G m' l' bs' e' H'->K e' H')->LF P (BL Ae L) true ops f IT IR e H K:=by
 have hsf:=(S.fs.spec hof).2.1;intro R
 induction R with
 | nil=>
   intro IR hIR hlt m l bs e H l' bs' hpre hm RR hv HK
   have:IR=[]:=by cases IR with | nil=>rfl | cons=>cases hIR
   subst this
   refine Ag2 (f :: IT) (⟨some d,.alloc t,ty,pos,af,none⟩ :: T) (by simp [hof,hT]) e H (Arm HQ HC B0 hm hpre RR hz hv HK)
 | cons o R ih=>
   intro IR hIR hlt m l bs e H l' bs' hpre hm RR hv HK
   cases IR with
   | nil=>cases hIR
   | cons i IR=>
     simp only [List.map_cons,List.cons.injEq] at hIR
     obtain ⟨hoi,hIR⟩:=hIR
     have hif:i < f:=hlt i (List.mem_cons_self ..)
     have hlt':∀ j∈IR,j < f:=fun j hj=>hlt j (List.mem_cons_of_mem _ hj)
     have hso:=(S.fs.spec hoi).2.1
     have close:∀ (l2:ALg) (Ab:Hp),(∀ l3 Ad,Adr P Q C G ops L ms.length d z T R l2 Ab=some (l3,Ad)->(∀ m' e' H',Mle ms m'->Rl h G m' l3 Ad e' H'->K e' H')->RL P (BL Ae L) true ops [o] e H (fun e' h'=>LF P (BL Ae L) true ops f IT IR e' h' K))->
         (bif Aj7 o.op then Adr P Q C G ops L ms.length d z T R l2 Ab else Aia (Adr P Q C G ops L ms.length d z T R l2 Ab) (Aa6 P Q C G ops L ms.length d z (o :: (R ++ T)) l bs))=some (l',bs')->LF P (BL Ae L) true ops f IT (i :: IR) e H K:=by
       intro l2 Ab hstep hv
       cases hrd:Aj7 o.op with
       | true=>
         rw [hrd] at hv
         simp only [cond_true] at hv
         have hg:=hstep l' bs' hv HK
         exact LF.lift hof hsf hoi hso (AWe (by have:=S.dn i o hoi hif (At2 hrd);rw [hst] at this;exact this)) hg
       | false=>
         rw [hrd] at hv
         simp only [cond_false] at hv
         obtain ⟨h1,l3,h2,h3⟩:=Arn hv
         have hg:=hstep l' bs' h1 HK
         refine ⟨?_,by simp only [hoi];exact hg⟩
         refine Ag2 (f :: i :: (IR ++ IT)) (⟨some d,.alloc t,ty,pos,af,none⟩ :: o :: (R ++ T)) (by simp [hof,hoi,hT,hIR]) e H (Arm HQ HC B0 hm hpre RR hz h2 fun m' e' H' hm' R'=>HK m' e' H' hm' ⟨fun t=>?_,R'.heap⟩)
         rw [<- h3 t];exact R'.env t
     have nx:∀ (l2:ALg) (Ab:Hp) l3 Ad,Adr P Q C G ops L ms.length d z T R l2 Ab=some (l3,Ad)->(∀ m' e' H',Mle ms m'->Rl h G m' l3 Ad e' H'->K e' H')->Nx P (BL Ae L) true ops [] (fun e' h'=>LF P (BL Ae L) true ops f IT IR e' h' K) h G m l2 Ab:=by
       intro l2 Ab l3 Ad hf hK m' e' H' hm' R'
       refine ih IR hIR hlt' m' l2 Ab e' H' l3 Ad ?_ (hm.trans hm'.w) R' hf hK
       obtain ⟨t',rfl⟩:=hpre
       obtain ⟨u,rfl⟩:=hm'.pre
       exact ⟨t' ++ u,by simp⟩
     obtain ⟨dst,op,ty',pos',af',g⟩:=o
     unfold Adr at hv
     split at hv
     · rename_i hw
       split at hv
       · rename_i l2 Ab hs
         simp only at hv
         cases hk:kindOf op with
         | pure=>
           simp only [hk,cond_true] at hv
           exact close l2 Ab (fun l3 Ad hf hK=>AVs RR hw (AT9 HQ HC RR hs (fun hh=>by rw [hk] at hh;cases hh) (fun hh=>by rw [hk] at hh;cases hh) (nx l2 Ab l3 Ad hf hK))) hv
         | wr=>
           simp only [hk,cond_true] at hv
           exact close l2 Ab (fun l3 Ad hf hK=>AVs RR hw (AT9 HQ HC RR hs (fun hh=>by rw [hk] at hh;cases hh) (fun hh=>by rw [hk] at hh;cases hh) (nx l2 Ab l3 Ad hf hK))) hv
         | read=>
           simp only [hk] at hv
           cases hb:(ANl bs L && Amp P L G l l2 ⟨dst,op,ty',pos',af',g⟩) with
           | false=>rw [hb] at hv;cases hv
           | true=>
             rw [hb] at hv
             simp only [cond_true] at hv
             simp only [Bool.and_eq_true] at hb
             exact close l2 Ab (fun l3 Ad hf hK=>AVs RR hw (Aul HQ HC B0 hm RR hk hs hb.1 hb.2 (nx l2 Ab l3 Ad hf hK))) hv
         | eff=>
           simp only [hk] at hv
           cases hb:(ANl bs L && ANl Ab L) with
           | false=>rw [hb] at hv;cases hv
           | true=>
             rw [hb] at hv
             simp only [cond_true] at hv
             simp only [Bool.and_eq_true] at hb
             exact close l2 Ab (fun l3 Ad hf hK=>AVs RR hw (AT9 HQ HC RR hs (fun hh=>by rw [hk] at hh;cases hh) (fun _=>⟨B0.later hm RR.heap hb.1,fun m' H' hm' hR=>B0.later (hm.trans hm'.w) hR hb.2⟩) (nx l2 Ab l3 Ad hf hK))) hv
       · cases hv
     · rename_i hw
       exact close _ bs (fun l3 Ad hf hK=>Ac7 RR hw (nx _ bs l3 Ad hf hK)) hv
     · cases hv
theorem Aro:∀ {r:List Oper} {j f d:Nat} {t:TypeId},findF r j=some (f,d,t)->j<=f/\ ∃ ty pos af,r[f - j]? =some ⟨some d,.alloc t,ty,pos,af,none⟩:=by
 intro r
 induction r with
 | nil=>intro j f d t h;cases h
 | cons o r ih=>
   intro j f d t h
   unfold findF at h
   split at h
   · rename_i d' t' ty pos af;cases h;exact ⟨Nat.le_refl _,ty,pos,af,by simp⟩
   · obtain ⟨h1,ty,pos,af,h2⟩:=ih h
     exact ⟨by omega,ty,pos,af,by rw [show f - j=f - (j + 1) + 1 by omega,List.getElem?_cons_succ];exact h2⟩
def SW (P:Program) (n:Nat) (c:Code) (K:Exit->Env->AHr->Prop) (e:Env) (H:AHr):Prop:=
  ∀ (a:Act) (w:World) (K':Exit->Act->World->Prop),Rep n e a->w.heap=H->(∀ x e' a' w',Rep n e' a'->Same w w'->K x e' w'.heap->K' x a' w')->c.wp P K' a w
theorem At4 (hmx:P.follows .mixedOrders=true) (HQ:Aal P Q) (HC:ASl P h G C) {n id:Nat} {draw:Bool} {l l':ALg} {bs bs':Hp} (hv:Awr P Q C G n ops draw l bs=some (l',bs')) {m:Mp} {e:Env} {H:AHr} (R:Rl h G m l bs e H) {K:Exit->Env->AHr->Prop} (HK:∀ m' e' H',Mle m m'->Rl h G m' l' bs' e' H'->K .normal e' H'):SW P n (.region id ops draw) K e H:=by
 unfold Awr at hv
 ·cases hok:Aa8 n ops draw with
  | true=>
    rw [hok] at hv
    simp only [cond_true] at hv
    have fin:(∃ B,RL P B (APz ops draw) ops ops.toList e H (K .normal))->SW P n (.region id ops draw) K e H:=by
      rintro ⟨B,hB⟩ a w K' r hw hK'
      subst hw
      exact AWr hmx hok r hB (fun e' a' w' r' s k=>hK' _ _ _ _ r' s k)
    cases hst:APz ops draw with
    | false=>
      rw [hst] at hv
      exact fin ⟨fun _=>True,by rw [hst];exact Asw HQ HC ops.toList m l bs e H R hv HK⟩
    | true=>
      rw [hst] at hv
      simp only [cond_true] at hv
      cases hh:ANl bs (AZ6 P Q G ops l bs) with
      | false=>rw [hh] at hv;cases hv
      | true=>
        rw [hh] at hv
        simp only [cond_true] at hv
        exact fin ⟨BL m (AZ6 P Q G ops l bs),by rw [hst];exact Ak0 HQ HC (H0:=H) (Aaq R.heap hh) ops.toList m l bs e H (.refl m) R hv HK⟩
  | false=>
    rw [hok] at hv
    simp only [cond_false] at hv
    cases hd:(draw && APz ops true) with
    | false=>rw [hd] at hv;cases hv
    | true=>
      rw [hd] at hv
      simp only [cond_true] at hv
      simp only [Bool.and_eq_true] at hd
      obtain ⟨rfl,hst⟩:=hd
      split at hv
      · rename_i f d t hf
        split at hv
        · rename_i zn z hz
          cases hb:(AZr n ops f && ANl bs (AZ6 P Q G ops l bs)) with
          | false=>rw [hb] at hv;cases hv
          | true=>
            rw [hb] at hv
            simp only [cond_true] at hv
            simp only [Bool.and_eq_true] at hb
            obtain ⟨_,ty,pos,af,hof'⟩:=Aro hf
            have hof:ops[f]? =some ⟨some d,.alloc t,ty,pos,af,none⟩:=by rw [Nat.sub_zero] at hof';simpa using hof'
            obtain ⟨of,Aa,S⟩:=AZs hb.1
            rw [hof] at Aa;cases Aa
            have hfl:f < ops.size:=(Array.getElem?_eq_some_iff.1 hof).1
            intro a w K' r hw hK'
            subst hw
            have R0:Rl h G (m ++ [none]) l (bs ++ [none]) e w.heap:=⟨R.env.mono (Mle.mk ⟨_,rfl⟩).w,R.heap.foretell⟩
            have Ac:BL m (AZ6 P Q G ops l bs) w.heap:=Aaq R.heap hb.2
            have hlen:bs.length=m.length:=R.heap.len.symm
            rw [hlen] at hv
            refine Abl (B:=BL m (AZ6 P Q G ops l bs)) (K:=K .normal) hmx hb.1 r ?_ (fun e' a' w' r' s k=>hK' _ _ _ _ r' s k)
            rw [hst]
            refine At3 HQ HC hof S hst Ac hz (T:=ops.toList.drop (f + 1)) ?_ (ops.toList.take f) (List.range f) ?_ (fun i hi=>List.mem_range.1 hi) (m ++ [none]) l (bs ++ [none]) e w.heap l' bs' ⟨[],rfl⟩ (Mle.mk ⟨_,rfl⟩).w R0 hv HK
            · apply List.ext_getElem?
              intro j
              simp only [List.getElem?_map,List.getElem?_drop,Array.getElem?_toList]
              rcases Nat.lt_or_ge j (ops.size - f - 1) with hj | hj
              · rw [List.getElem?_range' hj]
                have:f + 1 + j < ops.size:=by omega
                simp [this]
              · rw [List.getElem?_eq_none (by simpa using hj)]
                have:ops[f + 1 + j]? =none:=Array.getElem?_eq_none (by omega)
                simp [this]
            · apply List.ext_getElem?
              intro j
              simp only [List.getElem?_map,List.getElem?_take,Array.getElem?_toList]
              rcases Nat.lt_or_ge j f with hj | hj
              · rw [List.getElem?_range hj,if_pos hj]
                have:j < ops.size:=by omega
                simp [this]
              · rw [List.getElem?_eq_none (by simpa using hj),if_neg (by omega)]
                rfl
        · cases hv
      · cases hv
theorem Aib (hmx:P.follows .mixedOrders=true) (HQ:Aal P Q) (HC:ASl P h G C) {nt:Nat}:∀ (n:Nat) (c:Code) (l:ALg) (bs:Hp) (x:Exit) (l':ALg) (bs':Hp),ARj P Q C G nt n c l bs=some (x,l',bs')-> ∀ m e H,Rl h G m l bs e H-> ∀ K:Exit->Env->AHr->Prop,(∀ m' e' H',Mle m m'->Rl h G m' l' bs' e' H'->K x e' H')->SW P nt c K e H:=by
 intro n
 induction n using Nat.strongRecOn with
 | ind n ihs=>
   intro c l bs x l' bs' hv m e H R K HK a w K' r hw hK'
   cases n with
   | zero=>cases hv
   | succ n=>
   have ih:=ihs n (Nat.lt_succ_self n)
   cases c
   case skip=>simp only [ARj] at hv;cases hv;exact wp_skip (hK' _ _ _ _ r (.refl w) (by rw [hw];exact HK m e H (.refl m) R))
   case exit=>simp only [ARj] at hv;cases hv;exact wp_exit (hK' _ _ _ _ r (.refl w) (by rw [hw];exact HK m e H (.refl m) R))
   case ret=>simp only [ARj] at hv;cases hv;exact wp_ret (hK' _ _ _ _ r (.refl w) (by rw [hw];exact HK m e H (.refl m) R))
   case label=>simp only [ARj] at hv;cases hv;exact wp_label (hK' _ _ _ _ r (.refl w) (by rw [hw];exact HK m e H (.refl m) R))
   case region id ops draw=>
     simp only [ARj] at hv
     split at hv
     · rename_i l2 Ab h2;cases hv;exact At4 hmx HQ HC h2 R HK a w K' r hw hK'
     · cases hv
   case seq c1 c2=>
     simp only [ARj] at hv
     split at hv
     · rename_i l2 Ab h2
       refine wp_seq (ih c1 l bs _ l2 Ab h2 m e H R (fun x e' H'=>x= .normal/\ ∃ m',Mle m m'/\Rl h G m' l2 Ab e' H') (fun m' e' H' hm R'=>⟨rfl,m',hm,R'⟩) a w _ r hw fun ex e' a' w' r' s k=>?_)
       obtain ⟨rfl,m',hm,R'⟩:=k
       exact ih c2 l2 Ab x l' bs' hv m' e' w'.heap R' K (fun m2 e2 H2 Au R2=>HK m2 e2 H2 (hm.trans Au) R2) a' w' _ r' rfl fun x2 e2 a2 w2 r2 s2 k2=>hK' _ _ _ _ r2 (s.trans s2) k2
     · rename_i rr hne
       refine wp_seq (ih c1 l bs x l' bs' hv m e H R (fun x' e' H'=>x'=x/\K x e' H') (fun m' e' H' hm R'=>⟨rfl,HK m' e' H' hm R'⟩) a w _ r hw fun ex e' a' w' r' s k=>?_)
       obtain ⟨rfl,k⟩:=k
       cases ex <;> first | exact hK' _ _ _ _ r' s k | exact absurd hv (hne _ _)
   case cond c x1 y1=>
     simp only [ARj] at hv
     split at hv
     · rename_i h2
       exact wp_cond_split (t:=true) (by rw [r.eval];exact AKq R h2) (fun _=>ih x1 l bs x l' bs' hv m e H R K HK a w K' r hw hK') (fun hh=>by cases hh)
     · rename_i h2
       exact wp_cond_split (t:=false) (by rw [r.eval];exact AKq R h2) (fun hh=>by cases hh) (fun _=>ih y1 l bs x l' bs' hv m e H R K HK a w K' r hw hK')
     · cases hv
   case block id c=>
     simp only [ARj] at hv
     split at hv
     · rename_i id' l2 Ab h2
       refine wp_block (ih c l bs _ l2 Ab h2 m e H R (fun x' e' H'=>x'= .exit id'/\K x e' H') (fun m' e' H' hm R'=>?_) a w _ r hw fun ex e' a' w' r' s k=>?_)
       · refine ⟨rfl,?_⟩
         cases hb:Nat.beq id' id
         · rw [hb] at hv;cases hv;exact HK m' e' H' hm R'
         · rw [hb] at hv;cases hv;exact HK m' e' H' hm R'
       · obtain ⟨rfl,k⟩:=k
         cases hb:Nat.beq id' id
         · rw [hb] at hv;cases hv
           have hne:id'≠id:=fun he=>by rw [he,Nat.beq_refl] at hb;cases hb
           simp only [Exit.inBlock,hne,if_false];exact hK' _ _ _ _ r' s k
         · rw [hb] at hv;cases hv
           cases Nat.eq_of_beq_eq_true hb
           simp only [Exit.inBlock,if_true];exact hK' _ _ _ _ r' s k
     · rename_i rr hne
       refine wp_block (ih c l bs x l' bs' hv m e H R (fun x' e' H'=>x'=x/\K x e' H') (fun m' e' H' hm R'=>⟨rfl,HK m' e' H' hm R'⟩) a w _ r hw fun ex e' a' w' r' s k=>?_)
       obtain ⟨rfl,k⟩:=k
       cases ex <;> first | exact hK' _ _ _ _ r' s k | exact absurd hv (hne _ _ _)
   case loop c=>
     refine wp_loop_ghost (fun k a' w'=> ∃ m' l2 Ab e',Mle m m'/\Rl h G m' l2 Ab e' w'.heap/\ARj P Q C G nt k (.loop c) l2 Ab=some (x,l',bs')/\k<=n + 1/\Rep nt e' a'/\Same w w') (n + 1) ⟨m,l,bs,e,.refl m,by rw [hw];exact R,hv,Nat.le_refl _,r,.refl w⟩ ?_
     rintro k1 a1 w1 ⟨m1,l1,Aj,e1,Am,R1,Ad,A7,r1,s1⟩
     cases k1 with
     | zero=>cases Ad
     | succ k=>
       simp only [ARj] at Ad
       have ihk:=ihs k (by omega)
       split at Ad
       · rename_i l2 Ab h2
         refine ihk c l1 Aj _ l2 Ab h2 m1 e1 w1.heap R1 (fun x' e' H'=>x'= .normal/\ ∃ m',Mle m1 m'/\Rl h G m' l2 Ab e' H') (fun m' e' H' hm R'=>⟨rfl,m',hm,R'⟩) a1 w1 _ r1 rfl fun ex e' a' w' r' s k'=>?_
         obtain ⟨rfl,m',hm,R'⟩:=k'
         exact ⟨k,Nat.lt_succ_self k,m',l2,Ab,e',Am.trans hm,R',Ad,by omega,r',s1.trans s⟩
       · rename_i rr hne
         refine ihk c l1 Aj x l' bs' Ad m1 e1 w1.heap R1 (fun x' e' H'=>x'=x/\K x e' H') (fun m' e' H' hm R'=>⟨rfl,HK m' e' H' (Am.trans hm) R'⟩) a1 w1 _ r1 rfl fun ex e' a' w' r' s k'=>?_
         obtain ⟨rfl,k'⟩:=k'
         cases ex <;> first | exact hK' _ _ _ _ r' (s1.trans s) k' | exact absurd Ad (hne _ _)
   case scope c=>
     simp only [ARj] at hv
     split at hv
     · cases hv
     · rename_i rr hne
       refine wp_scope_straight (ih c l bs x l' bs' hv m e H R (fun x' e' H'=>x'=x/\K x e' H') (fun m' e' H' hm R'=>⟨rfl,HK m' e' H' hm R'⟩) a w _ r hw fun ex e' a' w' r' s k=>?_)
       obtain ⟨rfl,k⟩:=k
       cases ex <;> first | exact hK' _ _ _ _ r' s k | exact absurd hv (hne _ _ _)
   all_goals (simp only [ARj] at hv;cases hv)
theorem Agg {t:TypeId} (ht:NaT P t) {a:Addr} {v:Value} (w:World) (hc:AKe w.heap a=some v):(loadVar t a).run P w= .ok v w:=by
 obtain ⟨⟨d,hd,hna⟩,_⟩:=ht;have hc':w.cell? a=some v:=hc;have h2:=Agk (P:=P) hd w;rw [hna] at h2;simp [loadVar,h2,hc']
theorem Aic {m:Mp} {l:ALg} {bs:Hp} {e:Env} {H:AHr} (R:Rl h G m l bs e H):∀ {rs:List ResultVar} {vs:List V},Al1 P l bs rs=some vs-> ∃ us,ANs m vs us/\ ∀ (tmps:Array Value) (w:World),(∀ t,tmps.getD t undef=e t)->w.heap=H->
    (rs.mapM (fun r:ResultVar=>match r with | .tmp t=>(pure (tmps.getD t undef):Sem Value) | .cell a t=>do loadVar t (<- asAddr (tmps.getD a undef)))).run P w= .ok us w:=by
 intro rs
 induction rs with
 | nil=>intro vs hv;cases hv;exact ⟨[],rfl,fun tmps w _ _=>by simp⟩
 | cons r rs ih=>
   intro vs hv
   unfold Al1 at hv
   split at hv
   · rename_i v ws h1 h2
     cases hv
     obtain ⟨us,q1,q2⟩:=ih h2
     have key:∃ u,rel m v u/\ ∀ (tmps:Array Value) (w:World),(∀ t,tmps.getD t undef=e t)->w.heap=H->((fun r:ResultVar=>match r with | .tmp t=>(pure (tmps.getD t undef):Sem Value) | .cell a t=>do loadVar t (<- asAddr (tmps.getD a undef))) r).run P w= .ok u w:=by
       cases r with
       | tmp t=>
         simp only [Aws] at h1
         cases h1
         exact ⟨e t,R.env t,fun tmps w hg _=>by simp only [hg t];rfl⟩
       | cell t ty=>
         simp only [Aws] at h1
         split at h1
         · rename_i b o hx ht
           obtain ⟨r,u,hr,hu,hrel⟩:=R.heap.cell h1
           have hp:=R.env t
           rw [hx] at hp
           obtain ⟨r',hr',hp⟩:=hp
           rw [hr] at hr';cases hr'
           refine ⟨u,hrel,fun tmps w hg hw=>?_⟩
           have h3:=Agg (P:=P) (Afp ht) w (a:=⟨r.1,o,none⟩) (by rw [hw];exact hu)
           have h4:tmps.getD t undef= .pointer (some ⟨r.1,o,none⟩):=(hg t).trans hp
           simp only [h4]
           simp [asAddr,h3]
         · rename_i b o n hx ht
           split at h1
           · rename_i ws' hc
             cases h1
             have hp:=R.env t
             rw [hx] at hp
             obtain ⟨r,hr,hp⟩:=hp
             obtain ⟨us',c1,c2,c3⟩:=R.heap.cells hr hc
             refine ⟨.agg us'.toArray,⟨us',c1,rfl⟩,fun tmps w hg hw=>?_⟩
             have h3:=AQ8 (P:=P) (Aja ht) c2 w (a:=⟨r.1,o,none⟩) (fun i u hu=>by rw [ARb,hw];exact c3 i u hu)
             have h4:tmps.getD t undef= .pointer (some ⟨r.1,o,none⟩):=(hg t).trans hp
             simp only [h4]
             simp [asAddr,h3]
           · cases h1
         · cases h1
     obtain ⟨u,hu,hrun⟩:=key
     refine ⟨u :: us,⟨u,us,rfl,hu,q1⟩,fun tmps w hg hw=>?_⟩
     have h5:=hrun tmps w hg hw
     have h6:=q2 tmps w hg hw
     rw [List.mapM_cons]
     simp only [Sem.run_bind,h5,Result.andThen,h6]
     rfl
   · cases hv
theorem Al3 {m:Mp} {l:ALg} {bs:Hp} {e:Env} {H:AHr} (R:Rl h G m l bs e H) {rs:List ResultVar} {v:V} (hv:At0 P l bs rs=some v):∃ u,rel m v u/\Adx P rs e H u:=by
 unfold At0 at hv
 have run:∀ {vs:List V} {us:List Value},ANs m vs us->(∀ (tmps:Array Value) (w:World),(∀ t,tmps.getD t undef=e t)->w.heap=H->
   (rs.mapM (fun r:ResultVar=>match r with | .tmp t=>(pure (tmps.getD t undef):Sem Value) | .cell a t=>do loadVar t (<- asAddr (tmps.getD a undef)))).run P w= .ok us w)->Adx P rs e H (if h:us.toArray.size=1 then us.toArray[0] else .tuple us.toArray):=by
   intro vs us _ hrun fn tmps w hr hg hw
   have:=hrun tmps w hg hw
   simp only [results,hr]
   rw [List.mapM_toArray]
   simp only [Sem.run_bind,map_eq_pure_bind,Result.andThen]
   erw [this]
   rfl
 split at hv
 ·rename_i v' h1;cases hv;obtain ⟨us,q1,q2⟩:=Aic R h1;have:=run q1 q2;obtain ⟨y,ys,rfl,h2,h3⟩:=q1;cases h3;exact ⟨y,h2,this⟩
 ·rename_i vs hne h1;cases hv;obtain ⟨us,q1,q2⟩:=Aic R h1;have:=run q1 q2;have hl:=ARs q1
  have Af: ¬ us.toArray.size=1:=by
    intro h1'
    simp only [List.size_toArray] at h1'
    rw [h1'] at hl
    obtain ⟨a,ha⟩:=List.length_eq_one_iff.1 hl
    subst ha
    exact hne a rfl
  rw [dif_neg Af] at this;exact ⟨_,⟨us,q1,rfl⟩,this⟩
 ·cases hv
def Awt (P:Program) (f:FuncId):Bool:=match P.funcs[f]? with
  | some fn=> !(fn.name == "runtime.NumGoroutine")
  | none=>false
def Aid (P:Program):List FuncId->Bool
  | []=>true
  | f :: L=>Awt P f && Aid P L
theorem Ank {L:List FuncId} (hL:Aid P L=true) {f:FuncId} (hf:Arj L f=true):Awt P f=true:=by
 induction L with
 | nil=>cases hf
 | cons g L ih=>
   simp only [Aid,Bool.and_eq_true] at hL
   unfold Arj at hf
   cases hb:Nat.beq g f with
   | true=>cases Nat.eq_of_beq_eq_true hb;exact hL.1
   | false=>rw [hb] at hf;exact ih hL.2 hf
theorem Arp:∀ (vs:List V) (k t:Nat),ATa (Ads k vs) t=if k<=t then (vs[t - k]?).getD .u else .u:=by
 intro vs
 induction vs with
 | nil=>intro k t;simp [Ads,ATa]
 | cons v vs ih=>
   intro k t
   simp only [Ads,ATa]
   cases hb:Nat.beq t k with
   | true=>cases Nat.eq_of_beq_eq_true hb;simp
   | false=>
     have hne:t≠k:=fun he=>by rw [he,Nat.beq_refl] at hb;cases hb
     simp only [cond_false,ih]
     by_cases hk:k<=t
     · rw [if_pos hk,if_pos (by omega),show t - k=t - (k + 1) + 1 by omega,List.getElem?_cons_succ]
     · rw [if_neg hk,if_neg (by omega)]
theorem At5 {m:Mp} {vs:List V} {args:List Value} (hr:ANs m vs args):ER m (Ads 0 vs) (Adw args):=by
 intro t;rw [Arp,AY7,if_pos (Nat.zero_le t),Nat.sub_zero];obtain ⟨hl,h2⟩:=AQ1.1 hr
 cases hx:vs[t]? with
 | none=>
   have:args[t]? =none:=by rw [List.getElem?_eq_none_iff] at hx ⊢;omega
   rw [this];rfl
 | some x=>
   obtain ⟨u,hu,hru⟩:=h2 t x hx
   rw [hu];exact hru
theorem Aie {f:FuncId} {fn:Func} {c:Code} {l:List Value} {H:AHr} {K:Value->AHr->Prop}
    (hf:P.funcs[f]? =some fn) (hn:(fn.name == "runtime.NumGoroutine")=false) (hb:fn.body=some c) (hl:Nat.ble l.length fn.ntmps=true)
    (HW:SW P fn.ntmps c (Au1 P fn.results.toList K) (Adw l) H):AIj P f l.toArray H K:=by
 refine ⟨⟨fn,hf,hn,by simp [hb]⟩,fun w hw=>?_⟩;subst hw;have hl:=Nat.le_of_ble_eq_true hl;refine calls_of_wp hf hb (HW _ w _ ⟨?_,rfl,fun t=>?_⟩ rfl fun x e' a' w' r s k=>?_)
 ·simp;omega
 ·rw [AY7];simp only [Array.getD_eq_getD_getElem?];rw [Array.getElem?_append];split
  ·simp
  ·rename_i hge;simp at hge;simp only [List.size_toArray];rw [List.getElem?_eq_none hge];rw [Array.getElem?_replicate];split <;> rfl
 ·cases x with
  | normal=>obtain ⟨v,hv,hk⟩:=k;exact ⟨r.defers,v,hv fn _ w' (by simp) r.get rfl,v,rfl,s,hk⟩
  | ret=>obtain ⟨v,hv,hk⟩:=k;exact ⟨r.defers,v,hv fn _ w' (by simp) r.get rfl,v,rfl,s,hk⟩
  | exit id=>exact k.elim
  | goto l=>exact k.elim
  | panic ch=>exact k.elim
  | outgrown=>exact k.elim
theorem Anl (hmx:P.follows .mixedOrders=true) (HQ:Aal P Q) {L:List FuncId} (hL:Aid P L=true) (h:AHr) (fuel:Nat):∀ d,ASl P h G (Al2 P Q L G fuel d):=by
 intro d
 induction d with
 | zero=>intro f vs bs v bs' hv;cases hv
 | succ d ih=>
   intro f vs bs v bs' hv m H args hR hrel
   unfold Al2 at hv
   cases hm:Arj L f with
   | false=>rw [hm] at hv;cases hv
   | true=>
     rw [hm] at hv
     simp only [cond_true] at hv
     have hok:=Ank hL hm
     unfold Awt at hok
     split at hv
     · rename_i fn hfn
       rw [hfn] at hok
       simp only [Bool.not_eq_true'] at hok
       split at hv
       · rename_i c hc
         cases hb:Nat.ble vs.length fn.ntmps with
         | false=>rw [hb] at hv;cases hv
         | true=>
           rw [hb] at hv
           simp only [cond_true] at hv
           have hl:=ARs hrel
           refine Aie (fn:=fn) (c:=c) hfn hok hc (by rw [<- hl];exact hb) ?_
           have R:Rl h G m (Ads 0 vs) bs (Adw args) H:=⟨At5 hrel,hR⟩
           split at hv
           · rename_i l Ab h2
             split at hv
             · rename_i v2 hr
               cases hv
               refine Aib hmx HQ ih fuel c _ bs _ l bs' h2 m _ H R _ fun m' e' H' hm' R'=>?_
               obtain ⟨u,hu,hret⟩:=Al3 (P:=P) R' hr
               exact ⟨u,hret,m',hm',R'.heap,hu⟩
             · cases hv
           · rename_i l Ab h2
             split at hv
             · rename_i v2 hr
               cases hv
               refine Aib hmx HQ ih fuel c _ bs _ l bs' h2 m _ H R _ fun m' e' H' hm' R'=>?_
               obtain ⟨u,hu,hret⟩:=Al3 (P:=P) R' hr
               exact ⟨u,hret,m',hm',R'.heap,hu⟩
             · cases hv
           · cases hv
       · cases hv
     · cases hv
end
end Go.QF
namespace Go.QF
open Go
structure Blk where
  exp:Int
  size:Int
  a:Int
  b:Int
  c:Int
deriving DecidableEq
structure Con where
  exp:Int
  dim:Int
  sign:Int
  odd:Bool
  oddity:Int
deriving DecidableEq
def At6 (b:Blk):List Value:=[.int .i64 b.exp,.int .i64 b.size,.int .i64 b.a,.int .i64 b.b,.int .i64 b.c]
def At7 (c:Con):List Value:=[.int .i64 c.exp,.int .i64 c.dim,.int .i64 c.sign,.bool c.odd,.int .i64 c.oddity]
def I64 (x:Int):Prop:= -9223372036854775808<=x/\x<=9223372036854775807
def Wf2 (b:Blk):Prop:=(b.size=1/\b.a % 2=1/\b.b=0/\b.c=0)∨(b.size=2/\b.a % 2=0/\b.b % 2=1/\b.c % 2=0)
instance (b:Blk):Decidable (Wf2 b):=by unfold Wf2;infer_instance
def Ex (b:Blk):Prop:=0<=b.exp/\b.exp<=60
instance (b:Blk):Decidable (Ex b):=by unfold Ex;infer_instance
def Ax9 (b:Blk):Int:=(if b.size=1 then b.a else b.a * b.c - b.b * b.b) % 8
def Ayx (c:Con) (b:Blk):Con:=⟨c.exp,c.dim + b.size,if Ax9 b=3∨Ax9 b=5 then -c.sign else c.sign,c.odd || decide (b.size=1),if b.size=1 then (c.oddity + b.a) % 8 else c.oddity⟩
def Awu:List Blk->Int
  | []=>0
  | b :: l=>b.size + Awu l
def Ayy (inc:Con->Blk->Con) (out:List Con) (b:Blk):List Con:=
  match out.getLast? with
  | some c=>if c.exp=b.exp then out.dropLast ++ [inc c b] else out ++ [inc ⟨b.exp,0,1,false,0⟩ b]
  | none=>[inc ⟨b.exp,0,1,false,0⟩ b]
def Aj9 (inc:Con->Blk->Con) (Bs:List Blk):Nat->List Con
  | 0=>[]
  | i + 1=>match Bs[i]? with
    | some b=>Ayy inc (Aj9 inc Bs i) b
    | none=>Aj9 inc Bs i
def Asc (Bs:List Blk) (n:Nat):Prop:= ∀ i x y,i + 1 < n->Bs[i]? =some x->Bs[i + 1]? =some y->x.exp<=y.exp
def Ay0 (Bs:List Blk):Prop:=(∀ b∈Bs,Ex b/\Wf2 b)/\Asc Bs Bs.length/\1<=Bs.length/\Awu Bs<=8
open Classical in
noncomputable def Arq (p:Int) (Bs:List Blk):Bool:=decide (p=2/\Ay0 Bs)
noncomputable def Aya (p:Int) (Bs:List Blk):List Con:=if Arq p Bs then Aj9 Ayx Bs Bs.length else []
end Go.QF
namespace Go.QF
open Go
def WfR (p:Int) (b:Blk):Prop:=Ex b/\((b.size=1/\b.a % p≠0/\b.b=0/\b.c=0)∨(b.size=2/\p=2/\b.a % 2=0/\b.b % 2≠0/\b.c % 2=0))
def Ay2 (p:Int) (Bs:List Blk):Prop:=(∀ b∈Bs,WfR p b)/\Asc Bs Bs.length/\1<=Bs.length/\Awu Bs<=8
open Classical in
noncomputable def Azi (p:Int) (Bs:List Blk):Bool:=decide (Ay2 p Bs)
open Classical in
noncomputable def wfB (p:Int) (b:Blk):Bool:=decide (WfR p b)
def evn (c:Con):Bool:= !(decide (c.exp=0) && c.odd)
noncomputable def Ay7 (p:Int) (Bs:List Blk):Bool:=Arq p Bs && (Aya p Bs).all evn
noncomputable def Ay8 (p:Int) (Bs:List Blk):Bool:=Arq p Bs && match Aya p Bs with | c :: _=>decide (0 < c.exp) || !c.odd | []=>false
structure Made (p:Int) (n:Nat) (Bs:List Blk):Prop where
  wf:∀ b∈Bs,WfR p b
  asc:Asc Bs Bs.length
  len:Bs.length<=n
  sm:∀ b∈Bs,0<=b.a/\b.a<=600/\b.exp<=3 + n
end Go.QF
namespace Go.QF
open Go
structure Q5 where
  a:Nat
  b:Nat
  c:Nat
  d:Nat
  e:Nat
end Go.QF
namespace Go.Proofs.YtmmckalinicpaaaGreatDoor
open Go Go.QF
set_option maxRecDepth 100000
theorem Awv (c d:Con) (w:World):(Op.equal 53 (.agg (At7 c).toArray) (.agg (At7 d).toArray)).run Tryz.prog w= .ok (decide (c=d)) w:=by
 show (Op.equalIn (9998 + 1 + 1) _ _ _).run _ w=_;rw [Op.equalIn];obtain ⟨c1,c2,c3,c4,c5⟩:=c;obtain ⟨d1,d2,d3,d4,d5⟩:=d;simp [AOb Tryz.underlying53,At7,AXa AK3,AXa ALq,Aae AU2,Aiz AXy];by_cases h1:c1=d1 <;> by_cases h2:c2=d2 <;> by_cases h3:c3=d3 <;> by_cases h4:c4=d4 <;> by_cases h5:c5=d5 <;> simp [h1,h2,h3,h4,h5]
def Al4:List V->Option Con
  | [.i .i64 a,.i .i64 b,.i .i64 c,.b d,.i .i64 e]=>some ⟨a,b,c,d,e⟩
  | _=>none
theorem Aif {m:Mp} {xs:List V} {c:Con} {us:List Value} (h:Al4 xs=some c) (hr:ANs m xs us):us=At7 c:=by
 unfold Al4 at h;split at h
 ·cases h;obtain ⟨_,_,rfl,h1,_,_,rfl,h2,_,_,rfl,h3,_,_,rfl,h4,_,_,rfl,h5,h6⟩:=hr;cases h1;cases h2;cases h3;cases h4;cases h5;cases h6;rfl
 ·cases h
def eqQ:EqT:=fun t xs ys=>bif Nat.beq t 53 then (match Al4 xs,Al4 ys with | some c,some d=>some (decide (c=d)) | _,_=>none) else none
theorem Aww:Aal Tryz.prog eqQ:=by
 intro t xs ys r h;unfold eqQ at h
 cases hb:Nat.beq t 53 with
 | false=>rw [hb] at h;cases h
 | true=>
   rw [hb] at h
   simp only [cond_true] at h
   cases Nat.eq_of_beq_eq_true hb
   split at h
   · rename_i c d hc hd
     cases h
     refine ⟨by kernel_rfl,fun m us ws h1 h2 w=>?_⟩
     rw [Aif hc h1,Aif hd h2]
     exact Awv c d w
   · cases h
def isT:Option (V × Hp)->Bool
  | some (.b true,_)=>true
  | _=>false
theorem Awx {o:Option (V × Hp)} (h:isT o=true):∃ bs,o=some (.b true,bs):=by
 unfold isT at h;split at h
 ·exact ⟨_,rfl⟩
 ·cases h
theorem Awy (c d:Blk) (w:World):(Op.equal 69 (.agg (At6 c).toArray) (.agg (At6 d).toArray)).run Tryz.prog w= .ok (decide (c=d)) w:=by
 show (Op.equalIn (9998 + 1 + 1) _ _ _).run _ w=_;rw [Op.equalIn];obtain ⟨c1,c2,c3,c4,c5⟩:=c;obtain ⟨d1,d2,d3,d4,d5⟩:=d;simp [AOb Tryz.underlying69,At6,AXa AK3,AXa ALy,Aae AU2,Aae APi];by_cases h1:c1=d1 <;> by_cases h2:c2=d2 <;> by_cases h3:c3=d3 <;> by_cases h4:c4=d4 <;> by_cases h5:c5=d5 <;> simp [h1,h2,h3,h4,h5]
def Al5:List V->Option Blk
  | [.i .i64 a,.i .i64 b,.i .i64 c,.i .i64 d,.i .i64 e]=>some ⟨a,b,c,d,e⟩
  | _=>none
theorem Aig {m:Mp} {xs:List V} {c:Blk} {us:List Value} (h:Al5 xs=some c) (hr:ANs m xs us):us=At6 c:=by
 unfold Al5 at h;split at h
 ·cases h;obtain ⟨_,_,rfl,h1,_,_,rfl,h2,_,_,rfl,h3,_,_,rfl,h4,_,_,rfl,h5,h6⟩:=hr;cases h1;cases h2;cases h3;cases h4;cases h5;cases h6;rfl
 ·cases h
def eqR:EqT:=fun t xs ys=>bif Nat.beq t 69 then (match Al5 xs,Al5 ys with | some c,some d=>some (decide (c=d)) | _,_=>none) else eqQ t xs ys
theorem Awz:Aal Tryz.prog eqR:=by
 intro t xs ys r h;unfold eqR at h
 cases hb:Nat.beq t 69 with
 | false=>rw [hb] at h;exact Aww t xs ys r h
 | true=>
   rw [hb] at h
   simp only [cond_true] at h
   cases Nat.eq_of_beq_eq_true hb
   split at h
   · rename_i c d hc hd
     cases h
     refine ⟨by kernel_rfl,fun m us ws h1 h2 w=>?_⟩
     rw [Aig hc h1,Aig hd h2]
     exact Awy c d w
   · cases h
def Aw0:List (Nat × Nat):=[(0,0)]
def At8:Hp:=[some ⟨[.i .i64 7,.i .i64 11,.i .i64 13,.i .i64 17,.i .i64 19,.i .i64 23,.i .i64 29,.i .i64 31],true,0⟩]
theorem Aw1 {h:AHr} (HO:AX8 h):HR h Aw0 [some (0,0)] At8 h:=by
 have hlt:0 < h.size:=Acg (HO 0 _ rfl);refine ⟨Ext.refl h,rfl,fun g k hg=>?_,fun k b hb=>?_,fun k k' b b' r r' h1 h2 _ _ _=>?_⟩
 ·unfold Aw0 Akw at hg
  cases hb:Nat.beq g 0 with
  | false=>rw [hb] at hg;cases hg
  | true=>rw [hb] at hg;cases hg;cases Nat.eq_of_beq_eq_true hb;exact ⟨0,rfl⟩
 ·cases k with
  | zero=>
    cases hb
    refine ⟨(0,0),rfl,hlt,fun o x hx=>?_,fun hro=>(by cases hro)⟩
    have ho:o < 8:=(List.getElem?_eq_some_iff.1 hx).1
    have hu:∃ n:Int,x= .i .i64 n/\(Aiu.map (Value.int .i64))[o]? =some (.int .i64 n):=by
      rcases (by omega:o=0∨o=1∨o=2∨o=3∨o=4∨o=5∨o=6∨o=7) with rfl | rfl | rfl | rfl | rfl | rfl | rfl | rfl <;> (cases hx;exact ⟨_,rfl,rfl⟩)
    obtain ⟨n,rfl,hn⟩:=hu
    exact ⟨_,HO o _ hn,rfl⟩
  | succ k=>simp [At8] at hb
 ·have l1:=(List.getElem?_eq_some_iff.1 h1).1;have l2:=(List.getElem?_eq_some_iff.1 h2).1;simp [At8] at l1 l2;omega
def Auy:List FuncId:=[36,23,34,101,75,25,28,62,157,116,117,158,132,133,57,63,65,66,109,115,180,99,100,103,110,111,112,114,168,211,159,160,169,170,171,172,173,174,175,176,177,178,179,201,202,203,204,205,206,207,208,209,210,217,218,219,220,221,222,223,224,228]
theorem Arr:Aid Tryz.prog Auy=true:=by kernel_rfl
theorem Ayb:isT (Al2 Tryz.prog eqR Auy Aw0 1000 30 23 [] At8)=true:=by kernel_rfl
theorem Aka {h:AHr} (HO:AX8 h):AIj Tryz.prog 23 #[] h fun x h'=>Ext h h'/\x= .bool true:=by
 obtain ⟨bs,hb⟩:=Awx Ayb;refine (Anl mx Awz Arr h 1000 30 _ _ _ _ _ hb _ h [] (Aw1 HO) rfl).mono fun v h' hk=>?_;obtain ⟨m',_,hR,hv⟩:=hk;exact ⟨hR.ext,hv⟩
end Go.Proofs.YtmmckalinicpaaaGreatDoor
namespace Go.Proofs.YtmmckalinicpaaaGreatDoor
open Go Go.QF
noncomputable def Ae6 (fuel:Nat) (M:List (List Int)):Option Bool:=some (isRed M)
theorem Akb {fuel:Nat} {h:AHr} {v:Value} {M:List (List Int)} {r:Bool} (H:AM9 (cI .i64) h v M) (hp:Ae6 fuel M=some r):AIj Tryz.prog 57 #[v] h (fun x h'=>Ext h h'/\x= .bool r):=by
 cases hp;exact Age (Awj H) H.1
noncomputable def Aih (fuel:Nat) (n:Int):Option Bool:=some (AOc n)
theorem Anm {fuel:Nat} {h:AHr} {n:Int} {r:Bool} (HO:AX8 h) (hp:Aih fuel n=some r):AIj Tryz.prog 109 #[.int .i64 n] h (fun x h'=>Ext h h'/\x= .bool r):=by
 cases hp;exact (Auf n HO).mono fun x h' ⟨he,hx⟩=>⟨he ▸ Ext.refl _,hx⟩
noncomputable def Ay6 (fuel:Nat) (n:Int):Option Bool:=some (AOc n)
noncomputable def Adt (fuel:Nat) (n:Int):Option Bool:=some (Aa5 n)
theorem Aii {fuel:Nat} {h:AHr} {n:Int} {r:Bool} (HO:AX8 h) (hp:Adt fuel n=some r):AIj Tryz.prog 62 #[.int .i64 n] h (fun x h'=>Ext h h'/\x= .bool r):=by
 cases hp;exact (Atz n HO).mono fun x h' ⟨he,hx⟩=>⟨he ▸ Ext.refl _,hx⟩
noncomputable def Ae7 (fuel:Nat) (n:Int):Option Bool:=some (AMv n)
theorem Akc {fuel:Nat} {h:AHr} {n:Int} {r:Bool} (hp:Ae7 fuel n=some r):AIj Tryz.prog 64 #[.int .i64 n] h (fun x h'=>Ext h h'/\x= .bool r):=by
 cases hp;exact (Small_ok n h).mono fun x h' ⟨he,hx⟩=>⟨he ▸ Ext.refl _,hx⟩
noncomputable def Ayf (fuel:Nat) (n:Int):Option Bool:=some (Aa5 n)
def AXr (fuel:Nat):Option Bool:=some true
theorem Aa7 {fuel:Nat} {h:AHr} {r:Bool} (HO:AX8 h) (hp:AXr fuel=some r):AIj Tryz.prog 23 #[] h (fun x h'=>Ext h h'/\x= .bool r):=by
 cases hp;exact Aka HO
end Go.Proofs.YtmmckalinicpaaaGreatDoor
namespace Go.Proofs.YtmmckalinicpaaaGreatDoor
open Go Go.QF
set_option maxRecDepth 100000
set_option maxHeartbeats 4000000
noncomputable def AQ6 (fuel:Nat) (e646:(List Int)) (s940:Int) (s941:Int) (s943:Int):Option ((Int × Int × Int) ⊕ ((Int × Int))):=
  (if 0<=s940 then ((gI e646 s940).bind fun x947=>(if 0<=s940/\s940<=64 then ((((AXn fuel s941 x947).bind fun (x1022,x1023,x1024)=>((Adn fuel x1023).bind fun x1061=>(if ¬ x1061=0 then (some ( (false,s941,s943))) else (some ( (true,x1022,(w64 (s943 + (w64 (1 * 2 ^ Int.toNat s940)))))))))):Option (Bool × Int × Int)).bind fun (e1079,e1080,e1082)=>(some (Sum.inl ((w64 (s940 - 1)),e1080,e1082)))) else none)) else (some (Sum.inr<| (s941,s943))))
noncomputable def AQ7 (fuel:Nat) (s463:(List Int)) (s466:Int) (s468:Int):Option (((List Int) × Int × Int) ⊕ (((List Int) × Int × Int))):=
  ((gI s463 (w64 ((s463.length:Int) - 1))).bind fun x471=>(if 0<=(w64 ((s463.length:Int) - 1))/\(w64 ((s463.length:Int) - 1))<=64 then ((((AXn fuel s466 x471).bind fun (x546,x547,x548)=>((Adn fuel x547).bind fun x585=>(if ¬ x585=0 then (some ( (false,s466,s468))) else (some ( (true,x546,(w64 (s468 + (w64 (1 * 2 ^ Int.toNat (w64 ((s463.length:Int) - 1)))))))))))):Option (Bool × Int × Int)).bind fun (e603,e604,e606)=>(if e603=true then ((Alz fuel x471 x471).bind fun x626=>(if s463.length<=100000000 then (some (Sum.inl ((s463 ++ [x626]),e604,e606))) else none)) else (some (Sum.inr<| (s463,e604,e606))))) else none))
noncomputable def AO1 (fuel:Nat) (a1:Int) (a5:Int):Option (Int × Int × Int):=
  ((Aih fuel a5).bind fun x19=>(if (!x19)=true then (some (0,0,20)) else ((Adn fuel a1).bind fun x34=>(if x34=0 then (some (0,0,1)) else ((AXo fuel a1).bind fun x49=>((Ab8 fuel a5).bind fun x81=>((iter (fun s=>AQ7 fuel s.1 s.2.1 s.2.2) fuel ([x81],x49,0)).bind (fun ((e646,e649,e651):(List Int) × Int × Int)=>((iter (fun s=>AQ6 fuel e646 s.1 s.2.1 s.2.2) fuel ((w64 ((e646.length:Int) - 2)),e649,e651)).bind (fun ((e1085,e1087):Int × Int)=>(some (e1087,e1085,0))))))))))))
theorem AXs {fuel:Nat} {h:AHr} {Ec:Value} {a1:Int} {a5:Int} {r:(Int × Int × Int)} (H3:ZZ h Ec a1) (HO:AX8 h) (hp:AO1 fuel a1 a5=some r):AIj Tryz.prog 112 #[Ec,(.int .i64 a5)] h (fun x h'=>Ext h h'/\ ∃ (x1:Value),x= .tuple #[.int .i64 r.1,x1,.int .i64 r.2.2]/\ZZ h' x1 r.2.1):=by
 unfold AO1 at hp;obtain ⟨C0,rfl,Hl⟩:=H3.cs;refine AHx (l:=[_,_]) mx Tryz.func112 rfl rfl rfl rfl rfl (by kernel_rfl) (ACu (ACv (AN2 C0 trivial tt2 rfl rfl fun b6 h7 V8 E9 Ho=>AHq (AI9 [.bool false,.slice none 0 0] ALz rfl trivial tt2 fun A6 Lw C1 A7 Hq=>AHq (ACt (q_t (ACu (ACu (ACv (AHo ?_))))))))));have Lx:=E9.1;have C2:=AIk h7;have Ly:=A7.1;have Eg:=E9.trans A7;obtain ⟨Lz,Hr,Eh⟩:=AHv hp;refine AHy trivial tt2 rfl (Anm (HO.ext Eg) Hr) fun L0 Hs Ao Ht=>?_;subst Ht;refine AMj rfl (ACt (q_t ?_));have Ma:=Ao.1;have Ei:=Eg.trans Ao;have Ej:=(((AJ8 h h.size).app Ho E9.1 (Nat.le_refl _)).app Hq A7.1 E9.1).keep Ao.1;refine ⟨_,rfl,fun C3=>?_,fun C3=>?_⟩
 ·refine ACu (ACv (AM7 (ASi ) (AHq ?_)));have C4:=AIk Hs;have Ek:=C1.ext Ao;refine AIw [Value.bool false,Value.slice none 0 0] AH9 (cZ.klen C4) (cZ.klen (cZ.upT (cZ.upT C2 A7.upT) Ao.upT)) rfl rfl (cZ.one C4) Ek fun Mb El Hu=>AHq (ACt (q_t (AH1 (AIi ?_))));have C5:=El.stA Hu (AH8 Ek rfl) rfl;have Mc:=C5.size;obtain rfl:=AHw (ifT Eh C3);have Em:=cZ.upT C4 C5;exact ⟨_,Adp AH9 (cZ.klen Em) rfl El,(Ei.thenT C5 (Ej.loAll 1 rfl)),_,rfl,Em.2⟩
 ·refine AH2 (q_t (ACu (ACu (ACv ?_))));have En:=(V8.ext A7).ext Ao;have C6:=cZ.upT (cZ.upT (cZ.upT Hl E9.upT) A7.upT) Ao.upT;refine AKr C0 AH9 (cZ.klen C6) rfl En.agg ?_;obtain ⟨Md,Hv,Eo⟩:=AHv (AQm Eh C3);refine AHy trivial tt2 rfl (Ab9 C6.2 Hv) fun Me Hw A3 Hx=>?_;subst Hx;refine AIp rfl rfl (AMi _ _) (ACt (q_t ?_));have Mf:=A3.1;have Ep:=Ei.trans A3;have Er:=Ej.keep A3.1;refine ⟨_,rfl,fun C7=>?_,fun C7=>?_⟩
  ·refine ACu (ACv (AM7 (ASi ) (AHq ?_)));have C8:=AIk Hw;have Es:=(C1.ext Ao).ext A3;refine AIw [Value.bool false,Value.slice none 0 0] AH9 (cZ.klen C8) (cZ.klen (cZ.upT (cZ.upT (cZ.upT C2 A7.upT) Ao.upT) A3.upT)) rfl rfl (cZ.one C8) Es fun Mg Et Hy=>AHq (ACt (q_t (AH1 (AIi ?_))));have C9:=Et.stA Hy (AH8 Es rfl) rfl;have Mh:=C9.size;obtain rfl:=AHw (AJ2 Eo C7);have Eu:=cZ.upT C8 C9;exact ⟨_,Adp AH9 (cZ.klen Eu) rfl Et,(Ep.thenT C9 (Er.loAll 1 rfl)),_,rfl,Eu.2⟩
  ·refine AH2 (q_t (ACu (ACv ?_)));have Ev:=cZ.upT C6 A3.upT;refine AKr C0 AH9 (cZ.klen Ev) rfl (En.ext A3).agg ?_;obtain ⟨Hz,H5,H9⟩:=AHv (AJ3 Eo C7);refine AHy trivial tt2 rfl (AZ5 Ev.2 H5) fun Mi Ia Bz Ib=>?_;obtain ⟨Mj,rfl,Ic⟩:=Ib;have Mk:=Bz.1;have Ew:=Ep.trans Bz;obtain ⟨Ey,rfl,Id⟩:=Ic.cs;refine AI9 [.bool false,.slice none 0 0] ALz rfl trivial tt2 fun Aa Ml Ez Bc Ie=>?_;have Mm:=Bc.1;have Da:=(Er.keep Bz.1).app Ie Bc.1 Ew.1;have Db:=cZ.upT Id Bc.upT;refine AIw Ey AH9 (cZ.klen Db) (cZ.klen (cZ.upT (AIk Ia) Bc.upT)) rfl rfl (cZ.one Db) Ez fun Mo Fa If=>ACt (q_t (ACu (ACv (AI9 [(.int .i64 0)] AYs rfl trivial tt2 fun Ab Mq Fb Be Ih=>AYd [(.int .i64 0)] AK3 rfl rfl rfl Fb (Nat.le_of_ble_eq_true rfl) rfl fun Mr Fc Ii=>ACt (q_t (ACu (ACv (Au4 rfl (AHq (ACt (q_t (ACu (ACv (AHo ?_))))))))))))));have Bl:=Fa.stA If (AH8 Ez rfl) rfl;have Ms:=Bl.size;have Fd:=(Ew.trans Bc).thenT Bl (Da.loAll 2 rfl);have Mt:=Be.1;have Ce:=(Da.keep Bl.size).app Ih Be.1 Fd.1;have Bf:=Fc.stA Ii (AH8 Fb rfl) rfl;have Mu:=Bf.size;obtain ⟨Ij,Ik,Il⟩:=AHv H9;refine AHy trivial tt2 rfl (Ado Ik) fun Mv Mw A8 Im=>?_;obtain ⟨Mx,rfl,Io⟩:=Im;have My:=A8.1;have Fe:=((Fd.trans Be).thenT Bf (Ce.loAll 3 rfl)).trans A8;obtain ⟨Mz,rfl,Ip⟩:=Io.cs;refine Awo AKh ALz rfl trivial tt2 Ip rfl fun Cf Iq Dc Ff A9 Ir Is=>AHq (ACt (q_t (ACu (AHz ?_))));have M0:=A9.1;obtain ⟨Fg,It,Iu⟩:=AHv Il;obtain ⟨Iv,Iw,Ix⟩:=AI0 It;have Bg:=(((Ce.keep Bf.size).keep A8.1).app (ARl Ir Is) A9.1 Fe.1).sel [1,2,3,4] (by decide);have Fh:=(((Fa.ext Be).upT Bf (Ce.dj 2 3 rfl rfl (by decide))).ext A8).ext A9;have Fi:=(Fc.ext A8).ext A9;refine AIy 2251799679470592 (fun x:(LiA) × (Value) × LnA × (Int) × LvA × (Int)=>[(10,x.2.1)]) (fun (k:Nat) (x:(LiA) × (Value) × LnA × (Int) × LvA × (Int)) (h':AHr)=>iter Iv k (x.1,x.2.2.2.1,x.2.2.2.2.2)=some Fg/\UpT ([Cf] ++ ([Aa] ++ ([Ab] ++ []))) Dc h'/\Sp h' h.size [[A6],[Aa],[Ab],x.2.2.1]/\OwC cZ 104 h' x.2.2.1 x.2.1 x.1/\(∀ z∈x.2.2.1,z∈([Cf] ++ ([Aa] ++ ([Ab] ++ [])))∨Array.size Dc<=z)/\cZ.rep h' x.2.2.2.1 x.2.2.2.2.1/\AI1 104 h' Aa x.2.2.2.2.1/\AI1 3 h' Ab [(.int .i64 x.2.2.2.2.2)]) (by kernel_rfl) fuel (([Ij],Iq,[Cf],Hz,Ey,0):(LiA) × (Value) × LnA × (Int) × LvA × (Int)) ?_ ⟨rfl,trivial⟩ ?_
   ·exact ⟨Ix,UpT.start (AHp Ff.notD (AHp (AH8 Fh rfl) (AHp (AH8 Fi rfl) all_nil))),Bg,Ff,(AH4 rfl),(cZ.upT (cZ.upT (cZ.upT (cZ.upT (cZ.upT Db Bl) Be.upT) Bf) A8.upT) A9.upT),Fh,Fi⟩
   rintro M2 ⟨Bm,Fj,A4,Fk,Cg,Ch⟩ Iy Ap ⟨Iz,B1,Aq,Ba,Ci,Dd,B3,Bn⟩;replace Ba:OwC cZ 104 Ap A4 Fj Bm:=Ba;replace Ci:∀ z∈A4,z∈([Cf] ++ ([Aa] ++ ([Ab] ++ [])))∨Array.size Dc<=z:=Ci;replace Dd:cZ.rep Ap Fk Cg:=Dd;replace B3:AI1 104 Ap Aa Cg:=B3;replace Bn:AI1 3 Ap Ab [(.int .i64 Ch)]:=Bn;replace Aq:Sp Ap h.size [[A6],[Aa],[Ab],A4]:=Aq;refine (show W _ _ _ (setL [(10,Fj)] (mix _ Iy _)) Ap from ?_);have M3:=B1.size;have De:=(Fe.trans A9).thenT B1 (AHp (Bg.loAll 3 rfl) (AHp (Bg.loAll 1 rfl) (AHp (Bg.loAll 2 rfl) all_nil)));obtain ⟨I0,M4,rfl,Cj,Fl⟩:=AIs Iz;rw [Iw] at Cj;dsimp only at Cj;unfold AQ7 at Cj;refine ACu (ACu (ALp (by kernel_rfl) (AHo (AHo (AHo (ALe AKh rfl Ba.rd (AOv rfl rfl ?_)))))));obtain ⟨M5,Ck,I1⟩:=AHv Cj;refine Aeb AKh rfl Ba rfl Ck fun M6 I2=>?_;obtain ⟨Df,I3,I6⟩:=Ba.cells I2 Ck;have Fm:=I3;refine AUv (c:=cZ) AH9 rfl Fm (fun j u hu=>(I6 j u hu)) (AHo (ALe AKh rfl Ba.rd (AOv rfl rfl ?_)));obtain ⟨I9,Ja⟩:=ifN I1;refine Are rfl rfl I9 ?_;obtain ⟨Jc,Je,Jf⟩:=AHv Ja;refine Abp (l:=[(.agg (Df).toArray),(.int .i64 (w64 (1 * 2 ^ Int.toNat (w64 ((Bm.length:Int) - 1)))))]) (cl:=[(.pointer (some ⟨Aa,0,none⟩)),(.pointer (some ⟨Ab,0,none⟩))]) (K':=(fun xr h'=> ∃ x:(Bool) × (Int) × LvA × (Int),(x.1,x.2.1,x.2.2.2)=Jc/\xr=(.bool x.1)/\UpT ([Aa] ++ ([Ab] ++ [])) Ap h'/\Sp h' h.size [[A6],[Aa],[Ab],A4]/\cZ.rep h' x.2.1 x.2.2.1/\AI1 104 h' Aa x.2.2.1/\AI1 3 h' Ab [(.int .i64 x.2.2.2)])) trivial rfl rfl ?_ fun M7 Bo Jg=>?_
   ·refine AHx (l:=[_,_,_,_]) mx Tryz.func177 rfl rfl rfl rfl rfl (by kernel_rfl) (ACu (ACv (AN2 Df trivial tt2 rfl rfl fun M8 M9 Jh Av Ji=>AHq (ACt (q_t (ACu (ACv ?_)))))));have Na:=Av.1;have Dg:=B3.ext Av;have Cm:=cZ.upT Dd Av.upT;refine AKr Cg AH9 (cZ.klen Cm) rfl Dg.agg ?_;have Fo:=cZ.upT Fm Av.upT;refine AKr Df AH9 (cZ.klen Fo) rfl Jh.agg ?_;obtain ⟨⟨Jj,Nb,Nc⟩,Jk,Fp⟩:=AHv Je;dsimp only at Fp;refine AHy trivial tt2 rfl (Aa4 Cm.2 Fo.2 Jk) fun Nd Jl Ar Jm=>?_;obtain ⟨Nf,Ng,rfl,Jn,Jo⟩:=Jm;have Nh:=Ar.1;have Fq:=(De.trans Av).trans Ar;obtain ⟨Cn,rfl,Jp⟩:=Jn.cs;obtain ⟨Fr,rfl,Jq⟩:=Jo.cs;refine AHo (AI7 rfl rfl (AI7 rfl rfl (AI7 rfl rfl (AI9 [.bool false,.slice none 0 0] ALz rfl trivial tt2 fun Ni Jr Js Ae Ft=>AI9 [.bool false,.slice none 0 0] ALz rfl trivial tt2 fun Nj Nk Jt Ac Fu=>?_))));have Nl:=Ae.1;have Fv:=Ft.loAll 0 rfl;have Nm:=Ac.1;have Bp:=(((Aq.app Ji Av.1 De.1).keep Ar.1).app Ft Ae.1 Fq.1).app Fu Ac.1 (Fq.trans Ae).1;have Fw:=Fu.loAll 0 rfl;have Fx:=Js.ext Ac;have Dh:=cZ.upT (cZ.upT Jp Ae.upT) Ac.upT;refine AIw Cn AH9 (cZ.klen Dh) (cZ.klen (cZ.upT (cZ.upT (AIk Jl) Ae.upT) Ac.upT)) rfl rfl (cZ.one Dh) Fx fun Nn Fy Ju=>?_;have Af:=Fy.stA Ju (AH8 Fx rfl) rfl;have Np:=Af.size;have Bq:=Bp.keep Af.size;have Fz:=Jt.upT Af (Bp.dj 6 5 rfl rfl (by decide));have Di:=cZ.upT (cZ.upT (cZ.upT Jq Ae.upT) Ac.upT) Af;refine AIw Fr AH9 (cZ.klen Di) (cZ.klen (cZ.upT (cZ.upT (AIk Jr) Ac.upT) Af)) rfl rfl (cZ.one Di) Fz fun Nq F4 Jv=>AHq (ACt (q_t (ACu (ACu (ACv ?_)))));have Ai:=F4.stA Jv (AH8 Fz rfl) rfl;have Nr:=Ai.size;have F5:=cZ.upT Di Ai;refine AKr Fr AH9 (cZ.klen F5) rfl F4.agg ?_;obtain ⟨Ns,Jw,F6⟩:=AHv Fp;refine AHy trivial tt2 rfl (Ab9 F5.2 Jw) fun Nt Nu Ak Jx=>?_;subst Jx;refine AIp rfl rfl (AP7 _ _) (ACt (q_t ?_));have Nv:=Ak.1;have Dj:=(Bq.keep Ai.size).keep Ak.1;refine ⟨_,rfl,fun Dk=>?_,fun Dk=>?_⟩
    ·refine ACu (ACv (AHq (ACt (q_t (AH1 (AIi ?_))))));have Jy:UpT ([Aa] ++ ([Ab] ++ [])) Ap Ap:=UpT.start (AHp (AH8 B3 rfl) (AHp (AH8 Bn rfl) all_nil));refine ⟨_,AH5,((false,Fk,Cg,Ch):(Bool) × (Int) × LvA × (Int)),?_,rfl,?_,?_,?_,?_,?_⟩
     ·exact AHw (AJ2 F6 Dk)
     ·exact (((((((Jy.thenE Av).thenE Ar).thenE Ae).thenE Ac).then Af (AJw Fv (by omega))).then Ai (AJw Fw (by omega))).thenE Ak)
     ·exact (Dj.sel [0,1,2,3] (by decide))
     ·exact (cZ.upT (cZ.upT (cZ.upT (cZ.upT (cZ.upT (cZ.upT Cm Ar.upT) Ae.upT) Ac.upT) Af) Ai) Ak.upT)
     ·exact ((((((Dg.ext Ar).ext Ae).ext Ac).upT Af (Bp.dj 1 5 rfl rfl (by decide))).upT Ai (Bq.dj 1 6 rfl rfl (by decide))).ext Ak)
     ·exact (((((((Bn.ext Av).ext Ar).ext Ae).ext Ac).upT Af (Bp.dj 2 5 rfl rfl (by decide))).upT Ai (Bq.dj 2 6 rfl rfl (by decide))).ext Ak)
    ·refine AH2 (q_t (ACu (ACv ?_)));have Co:=cZ.upT (cZ.upT (cZ.upT Dh Af) Ai) Ak.upT;refine AKr Cn AH9 (cZ.klen Co) rfl ((Fy.upT Ai (Bq.dj 5 6 rfl rfl (by decide))).ext Ak).agg ?_;have F7:=(((((Dg.ext Ar).ext Ae).ext Ac).upT Af (Bp.dj 1 5 rfl rfl (by decide))).upT Ai (Bq.dj 1 6 rfl rfl (by decide))).ext Ak;refine AIw Cn AH9 (cZ.klen Co) (cZ.klen (cZ.upT (cZ.upT (cZ.upT (cZ.upT (cZ.upT (cZ.upT Cm Ar.upT) Ae.upT) Ac.upT) Af) Ai) Ak.upT)) rfl rfl (cZ.one Co) F7 fun Nw F8 Jz=>ACt (q_t (ACu (ACv ?_)));have B4:=F8.stA Jz (AH8 F7 rfl) rfl;have Ny:=B4.size;have F9:=Dj.keep B4.size;have Dl:=(((((((Bn.ext Av).ext Ar).ext Ae).ext Ac).upT Af (Bp.dj 2 5 rfl rfl (by decide))).upT Ai (Bq.dj 2 6 rfl rfl (by decide))).ext Ak).upT B4 (Dj.dj 2 1 rfl rfl (by decide));refine AIr AK3 rfl (Dl.cell (i:=0) rfl) (AHo (AJd rfl rfl (AYd [(.int .i64 (w64 (Ch + (w64 (1 * 2 ^ Int.toNat (w64 ((Bm.length:Int) - 1)))))))] AK3 rfl rfl rfl Dl (Nat.le_of_ble_eq_true rfl) rfl fun Nz Ga J0=>ACt (q_t (ACu (ACv (AHq (ACt (q_t (AH1 ?_))))))))));have B5:=Ga.stA J0 (AH8 Dl rfl) rfl;have N0:=B5.size;have J1:UpT ([Aa] ++ ([Ab] ++ [])) Ap Ap:=UpT.start (AHp (AH8 B3 rfl) (AHp (AH8 Bn rfl) all_nil));refine ⟨_,AH5,((true,Jj,Cn,(w64 (Ch + (w64 (1 * 2 ^ Int.toNat (w64 ((Bm.length:Int) - 1))))))):(Bool) × (Int) × LvA × (Int)),?_,rfl,?_,?_,?_,?_,?_⟩
     ·exact AHw (AJ3 F6 Dk)
     ·exact (((((((((J1.thenE Av).thenE Ar).thenE Ae).thenE Ac).then Af (AJw Fv (by omega))).then Ai (AJw Fw (by omega))).thenE Ak).then B4 (AH4 rfl)).then B5 (ALf (AH4 rfl)))
     ·exact ((F9.keep B5.size).sel [0,1,2,3] (by decide))
     ·exact (cZ.upT (cZ.upT Co B4) B5)
     ·exact (F8.upT B5 (F9.dj 1 2 rfl rfl (by decide)))
     ·exact Ga
   obtain ⟨⟨N3,Dn,Cp,Do⟩,J2,rfl,Bh,Aw,Cq,B6,B7⟩:=Jg;replace Cq:cZ.rep Bo Dn Cp:=Cq;replace B6:AI1 104 Bo Aa Cp:=B6;replace B7:AI1 3 Bo Ab [(.int .i64 Do)]:=B7;replace Aw:Sp Bo h.size [[A6],[Aa],[Ab],A4]:=Aw;have N4:=Bh.size;have Dp:=De.thenT Bh (AHp (Aq.loAll 1 rfl) (AHp (Aq.loAll 2 rfl) all_nil));refine ⟨trivial,?_⟩;subst J2;have Dq:=Jf;(try dsimp only at Dq);refine ACt (q_t (⟨_,rfl,fun Dr=>?_,fun Dr=>?_⟩))
   ·refine AH2 (q_t (AHz (ACu (ACv (AHo (AHo ?_))))));have Cr:=Ba.upT Bh (AJc (Aq.dj 3 1 rfl rfl (by decide)) (AJc (Aq.dj 3 2 rfl rfl (by decide)) AI3));refine ALe AKh rfl Cr.rd (AOv rfl rfl (Aeb AKh rfl Cr rfl Ck fun N5 J3=>?_));obtain ⟨Ds,J4,J5⟩:=Cr.cells J3 Ck;have Gb:=J4;refine AUv (c:=cZ) AH9 rfl Gb (fun j u hu=>(J5 j u hu)) (AI9 [.bool false,.slice none 0 0] ALz rfl trivial tt2 fun N6 N7 Gc Ax Gd=>?_);have N8:=Ax.1;have B8:=Aw.app Gd Ax.1 Dp.1;have J6:=Gd.loAll 0 rfl;have Dt:=cZ.upT Gb Ax.upT;refine AIw Ds AH9 (cZ.klen Dt) (cZ.klen (cZ.upT (AIk Bo) Ax.upT)) rfl rfl (cZ.one Dt) Gc fun N9 Du J7=>ACt (q_t (ACv (AHo ?_)));have A5:=Du.stA J7 (AH8 Gc rfl) rfl;have Oa:=A5.size;have Ct:=cZ.upT Dt A5;refine AKr Ds AH9 (cZ.klen Ct) rfl Du.agg (AKr Ds AH9 (cZ.klen Ct) rfl Du.agg ?_);obtain ⟨J8,J9,Ka⟩:=AHv (ifT Dq Dr);refine AHy trivial tt2 rfl (Aj4 Ct.2 Ct.2 J9) fun Ob Oc Bb Kb=>?_;obtain ⟨Od,rfl,Kc⟩:=Kb;have Oe:=Bb.1;obtain ⟨Og,rfl,Kd⟩:=Kc.cs;have Dv:=(B8.keep A5.size).keep Bb.1;obtain ⟨Ke,Kf⟩:=ifN Ka;refine AS2 AKh ALz rfl rfl trivial tt2 (fun _=>rfl) rfl Kd (((Cr.ext Ax).upT A5 (B8.dj 3 4 rfl rfl (by decide))).ext Bb) (by decide) Ke fun Oh Kg Kh Oi Dw Br Ge=>AHq (ACt (q_b (q_t ?_)));have Oj:=Br.size;obtain rfl:=AHw Kf;exact ⟨I0,(((Bm ++ [J8]),Kh,Kg,Dn,Cp,Do):(LiA) × (Value) × LnA × (Int) × LvA × (Int)),Nat.lt_succ_self _,⟨Fl,(((((B1.then Bh (AHp (ALf (AH4 rfl)) (AHp (ALf (ALf (AH4 rfl))) all_nil))).thenE Ax).then A5 (AJw J6 (by omega))).thenE Bb).then Br (AH6 Ci (AHp (AH4 rfl) (AHp (ALf (AH4 rfl)) (AHp (ALf (ALf (AH4 rfl))) all_nil))) (by omega))),((Dv.put 3 rfl Dw.nodup Br.size (((Dp.trans Ax).thenT A5 (B8.loAll 4 rfl)).trans Bb).1 Dw.lt Ge).sel [0,1,2,3] (by decide)),Dw,(AH6 Ge (AH6 Ci (AHp (AH4 rfl) (AHp (ALf (AH4 rfl)) (AHp (ALf (ALf (AH4 rfl))) all_nil))) (by omega)) (by omega)),(cZ.upT (cZ.upT (cZ.upT (cZ.upT Cq Ax.upT) A5) Bb.upT) Br),((((B6.ext Ax).upT A5 (B8.dj 1 4 rfl rfl (by decide))).ext Bb).upT Br (Dv.dj 1 3 rfl rfl (by decide))),((((B7.ext Ax).upT A5 (B8.dj 2 4 rfl rfl (by decide))).ext Bb).upT Br (Dv.dj 2 3 rfl rfl (by decide)))⟩,rfl,trivial⟩
   ·obtain rfl:=AHw (AQm Dq Dr);have Gf:=Fl;change _=Fg at Gf;subst Gf;have Gg:=Iu;(try dsimp only at Gg);refine AIo (AIq (AIq (AJ5 (q_t (ACu (ACu (ACv (AHo ?_))))))));have Gh:=Ba.upT Bh (AJc (Aq.dj 3 1 rfl rfl (by decide)) (AJc (Aq.dj 3 2 rfl rfl (by decide)) AI3));refine ALe AKh rfl Gh.rd (AOv rfl rfl (AHq (ACt (q_t (AHz ?_)))));obtain ⟨Gi,Ki,Kj⟩:=AHv Gg;obtain ⟨Kk,Kl,Km⟩:=AI0 Ki;refine AIy 73768961896328728576 (fun x:(Int) × (Int) × LvA × (Int)=>[(12,(.int .i64 x.1))]) (fun (k:Nat) (x:(Int) × (Int) × LvA × (Int)) (h':AHr)=>iter Kk k (x.1,x.2.1,x.2.2.2)=some Gi/\UpT ([Aa] ++ ([Ab] ++ [])) Bo h'/\Sp h' h.size [[A6],[Aa],[Ab],A4]/\cZ.rep h' x.2.1 x.2.2.1/\AI1 104 h' Aa x.2.2.1/\AI1 3 h' Ab [(.int .i64 x.2.2.2)]) (by kernel_rfl) fuel (((w64 ((Bm.length:Int) - 2)),Dn,Cp,Do):(Int) × (Int) × LvA × (Int)) ?_ ⟨rfl,trivial⟩ ?_
    ·exact ⟨Km,UpT.start (AHp (AH8 B6 rfl) (AHp (AH8 B7 rfl) all_nil)),Aw,Cq,B6,B7⟩
    rintro Ol ⟨B9,Gj,Bt,Cu⟩ Kn Ay ⟨Ko,Bu,Cv,Bi,Bv,Bj⟩;replace Bi:cZ.rep Ay Gj Bt:=Bi;replace Bv:AI1 104 Ay Aa Bt:=Bv;replace Bj:AI1 3 Ay Ab [(.int .i64 Cu)]:=Bj;replace Cv:Sp Ay h.size [[A6],[Aa],[Ab],A4]:=Cv;refine (show W _ _ _ (setL [(12,(.int .i64 B9))] (mix _ Kn _)) Ay from ?_);have Om:=Bu.size;have Dx:=Dp.thenT Bu (AHp (Aw.loAll 1 rfl) (AHp (Aw.loAll 2 rfl) all_nil));obtain ⟨Kp,On,rfl,Ca,Gk⟩:=AIs Ko;rw [Kl] at Ca;dsimp only at Ca;unfold AQ6 at Ca;refine ACu (ACu (ACv (AHo (AIp rfl rfl (ASm _ _) (ACt (q_t (⟨_,rfl,fun Dy=>?_,fun Dy=>?_⟩)))))))
    ·refine AH2 (q_t (ACu (AHz (ALp (by kernel_rfl) (AHo (AHo (AHo ?_)))))));obtain ⟨Oo,Gl,Kr⟩:=AHv (AJ2 Ca Dy);have Gm:=Gh.upT Bu (AJc (Aw.dj 3 1 rfl rfl (by decide)) (AJc (Aw.dj 3 2 rfl rfl (by decide)) AI3));refine Aeb AKh rfl Gm rfl Gl fun Oq Kt=>?_;obtain ⟨Dz,Ku,Kv⟩:=Gm.cells Kt Gl;have Gn:=Ku;refine AUv (c:=cZ) AH9 rfl Gn (fun j u hu=>(Kv j u hu)) (AHo ?_);obtain ⟨Kw,Kx⟩:=ifN Kr;refine Are rfl rfl Kw ?_;obtain ⟨Ky,Kz,K0⟩:=AHv Kx;refine Abp (l:=[(.agg (Dz).toArray),(.int .i64 (w64 (1 * 2 ^ Int.toNat B9)))]) (cl:=[(.pointer (some ⟨Aa,0,none⟩)),(.pointer (some ⟨Ab,0,none⟩))]) (K':=(fun xr h'=> ∃ x:(Bool) × (Int) × LvA × (Int),(x.1,x.2.1,x.2.2.2)=Ky/\xr=(.bool x.1)/\UpT ([Aa] ++ ([Ab] ++ [])) Ay h'/\Sp h' h.size [[A6],[Aa],[Ab],A4]/\cZ.rep h' x.2.1 x.2.2.1/\AI1 104 h' Aa x.2.2.1/\AI1 3 h' Ab [(.int .i64 x.2.2.2)])) trivial rfl rfl ?_ fun Ot Cw K3=>?_
     ·refine AHx (l:=[_,_,_,_]) mx Tryz.func177 rfl rfl rfl rfl rfl (by kernel_rfl) (ACu (ACv (AN2 Dz trivial tt2 rfl rfl fun Ou Ov K4 Az K5=>AHq (ACt (q_t (ACu (ACv ?_)))))));have Ow:=Az.1;have D0:=Bv.ext Az;have Cx:=cZ.upT Bi Az.upT;refine AKr Bt AH9 (cZ.klen Cx) rfl D0.agg ?_;have Gp:=cZ.upT Gn Az.upT;refine AKr Dz AH9 (cZ.klen Gp) rfl K4.agg ?_;obtain ⟨⟨K6,Ox,Oy⟩,K7,Gq⟩:=AHv Kz;dsimp only at Gq;refine AHy trivial tt2 rfl (Aa4 Cx.2 Gp.2 K7) fun Oz K8 Au K9=>?_;obtain ⟨O0,O1,rfl,La,Lb⟩:=K9;have O2:=Au.1;have Gr:=(Dx.trans Az).trans Au;obtain ⟨Cy,rfl,Lc⟩:=La.cs;obtain ⟨Gt,rfl,Ld⟩:=Lb.cs;refine AHo (AI7 rfl rfl (AI7 rfl rfl (AI7 rfl rfl (AI9 [.bool false,.slice none 0 0] ALz rfl trivial tt2 fun O3 Le Lf Ag Gu=>AI9 [.bool false,.slice none 0 0] ALz rfl trivial tt2 fun O4 O5 Lg Ad Gv=>?_))));have O6:=Ag.1;have Gw:=Gu.loAll 0 rfl;have O7:=Ad.1;have Bw:=(((Cv.app K5 Az.1 Dx.1).keep Au.1).app Gu Ag.1 Gr.1).app Gv Ad.1 (Gr.trans Ag).1;have Gx:=Gv.loAll 0 rfl;have Gy:=Lf.ext Ad;have D1:=cZ.upT (cZ.upT Lc Ag.upT) Ad.upT;refine AIw Cy AH9 (cZ.klen D1) (cZ.klen (cZ.upT (cZ.upT (AIk K8) Ag.upT) Ad.upT)) rfl rfl (cZ.one D1) Gy fun O8 Gz Lh=>?_;have Ah:=Gz.stA Lh (AH8 Gy rfl) rfl;have O9:=Ah.size;have Bx:=Bw.keep Ah.size;have G0:=Lg.upT Ah (Bw.dj 6 5 rfl rfl (by decide));have D2:=cZ.upT (cZ.upT (cZ.upT Ld Ag.upT) Ad.upT) Ah;refine AIw Gt AH9 (cZ.klen D2) (cZ.klen (cZ.upT (cZ.upT (AIk Le) Ad.upT) Ah)) rfl rfl (cZ.one D2) G0 fun Pa G3 Li=>AHq (ACt (q_t (ACu (ACu (ACv ?_)))));have Aj:=G3.stA Li (AH8 G0 rfl) rfl;have Pb:=Aj.size;have G4:=cZ.upT D2 Aj;refine AKr Gt AH9 (cZ.klen G4) rfl G3.agg ?_;obtain ⟨Pc,Lj,G5⟩:=AHv Gq;refine AHy trivial tt2 rfl (Ab9 G4.2 Lj) fun Pd Pe Am Lk=>?_;subst Lk;refine AIp rfl rfl (AP7 _ _) (ACt (q_t ?_));have Pf:=Am.1;have D3:=(Bx.keep Aj.size).keep Am.1;refine ⟨_,rfl,fun D4=>?_,fun D4=>?_⟩
      ·refine ACu (ACv (AHq (ACt (q_t (AH1 (AIi ?_))))));have Ll:UpT ([Aa] ++ ([Ab] ++ [])) Ay Ay:=UpT.start (AHp (AH8 Bv rfl) (AHp (AH8 Bj rfl) all_nil));refine ⟨_,AH5,((false,Gj,Bt,Cu):(Bool) × (Int) × LvA × (Int)),?_,rfl,?_,?_,?_,?_,?_⟩
       ·exact AHw (AJ2 G5 D4)
       ·exact (((((((Ll.thenE Az).thenE Au).thenE Ag).thenE Ad).then Ah (AJw Gw (by omega))).then Aj (AJw Gx (by omega))).thenE Am)
       ·exact (D3.sel [0,1,2,3] (by decide))
       ·exact (cZ.upT (cZ.upT (cZ.upT (cZ.upT (cZ.upT (cZ.upT Cx Au.upT) Ag.upT) Ad.upT) Ah) Aj) Am.upT)
       ·exact ((((((D0.ext Au).ext Ag).ext Ad).upT Ah (Bw.dj 1 5 rfl rfl (by decide))).upT Aj (Bx.dj 1 6 rfl rfl (by decide))).ext Am)
       ·exact (((((((Bj.ext Az).ext Au).ext Ag).ext Ad).upT Ah (Bw.dj 2 5 rfl rfl (by decide))).upT Aj (Bx.dj 2 6 rfl rfl (by decide))).ext Am)
      ·refine AH2 (q_t (ACu (ACv ?_)));have Cz:=cZ.upT (cZ.upT (cZ.upT D1 Ah) Aj) Am.upT;refine AKr Cy AH9 (cZ.klen Cz) rfl ((Gz.upT Aj (Bx.dj 5 6 rfl rfl (by decide))).ext Am).agg ?_;have G6:=(((((D0.ext Au).ext Ag).ext Ad).upT Ah (Bw.dj 1 5 rfl rfl (by decide))).upT Aj (Bx.dj 1 6 rfl rfl (by decide))).ext Am;refine AIw Cy AH9 (cZ.klen Cz) (cZ.klen (cZ.upT (cZ.upT (cZ.upT (cZ.upT (cZ.upT (cZ.upT Cx Au.upT) Ag.upT) Ad.upT) Ah) Aj) Am.upT)) rfl rfl (cZ.one Cz) G6 fun Pg G7 Lm=>ACt (q_t (ACu (ACv ?_)));have Cb:=G7.stA Lm (AH8 G6 rfl) rfl;have Ph:=Cb.size;have G8:=D3.keep Cb.size;have D5:=(((((((Bj.ext Az).ext Au).ext Ag).ext Ad).upT Ah (Bw.dj 2 5 rfl rfl (by decide))).upT Aj (Bx.dj 2 6 rfl rfl (by decide))).ext Am).upT Cb (D3.dj 2 1 rfl rfl (by decide));refine AIr AK3 rfl (D5.cell (i:=0) rfl) (AHo (AJd rfl rfl (AYd [(.int .i64 (w64 (Cu + (w64 (1 * 2 ^ Int.toNat B9)))))] AK3 rfl rfl rfl D5 (Nat.le_of_ble_eq_true rfl) rfl fun Pj G9 Ln=>ACt (q_t (ACu (ACv (AHq (ACt (q_t (AH1 ?_))))))))));have Cd:=G9.stA Ln (AH8 D5 rfl) rfl;have Pk:=Cd.size;have Lo:UpT ([Aa] ++ ([Ab] ++ [])) Ay Ay:=UpT.start (AHp (AH8 Bv rfl) (AHp (AH8 Bj rfl) all_nil));refine ⟨_,AH5,((true,K6,Cy,(w64 (Cu + (w64 (1 * 2 ^ Int.toNat B9))))):(Bool) × (Int) × LvA × (Int)),?_,rfl,?_,?_,?_,?_,?_⟩
       ·exact AHw (AJ3 G5 D4)
       ·exact (((((((((Lo.thenE Az).thenE Au).thenE Ag).thenE Ad).then Ah (AJw Gw (by omega))).then Aj (AJw Gx (by omega))).thenE Am).then Cb (AH4 rfl)).then Cd (ALf (AH4 rfl)))
       ·exact ((G8.keep Cd.size).sel [0,1,2,3] (by decide))
       ·exact (cZ.upT (cZ.upT Cz Cb) Cd)
       ·exact (G7.upT Cd (G8.dj 1 2 rfl rfl (by decide)))
       ·exact G9
     obtain ⟨⟨Pl,Ha,D6,Hb⟩,Lq,rfl,Hc,D7,D8,D9,Ea⟩:=K3;replace D8:cZ.rep Cw Ha D6:=D8;replace D9:AI1 104 Cw Aa D6:=D9;replace Ea:AI1 3 Cw Ab [(.int .i64 Hb)]:=Ea;replace D7:Sp Cw h.size [[A6],[Aa],[Ab],A4]:=D7;have Pm:=Hc.size;refine ⟨trivial,?_⟩;subst Lq;have Hd:=K0;(try dsimp only at Hd);refine ACt (q_b (q_t (ACv (AHo (AOv rfl rfl (AHq (ACt (q_t ?_))))))));obtain rfl:=AHw Hd;exact ⟨Kp,(((w64 (B9 - 1)),Ha,D6,Hb):(Int) × (Int) × LvA × (Int)),Nat.lt_succ_self _,⟨Gk,(Bu.then Hc (AHp (AH4 rfl) (AHp (ALf (AH4 rfl)) all_nil))),D7,D8,D9,Ea⟩,rfl,trivial⟩
    ·obtain rfl:=AHw (AJ3 Ca Dy);have He:=Gk;change _=Gi at He;subst He;have Hf:=Kj;(try dsimp only at Hf);refine AIo (AIq (AIq (AJ5 (q_t (ACu (ALp (by kernel_rfl) (AIr AK3 rfl (Bj.cell (i:=0) rfl) (AKr Bt AH9 (cZ.klen Bi) rfl Bv.agg (AHq ?_)))))))));have Hg:=(((((((((((C1.ext Ao).ext A3).ext Bz).ext Bc).upT Bl (Da.dj 1 2 rfl rfl (by decide))).ext Be).upT Bf (Ce.dj 1 3 rfl rfl (by decide))).ext A8).ext A9).upT B1 (AJc (Bg.dj 0 3 rfl rfl (by decide)) (AJc (Bg.dj 0 1 rfl rfl (by decide)) (AJc (Bg.dj 0 2 rfl rfl (by decide)) AI3)))).upT Bh (AJc (Aq.dj 0 1 rfl rfl (by decide)) (AJc (Aq.dj 0 2 rfl rfl (by decide)) AI3))).upT Bu (AJc (Aw.dj 0 1 rfl rfl (by decide)) (AJc (Aw.dj 0 2 rfl rfl (by decide)) AI3));refine AIw Bt AH9 (cZ.klen Bi) (cZ.klen (cZ.upT (cZ.upT (cZ.upT (cZ.upT (cZ.upT (cZ.upT (cZ.upT (cZ.upT (cZ.upT (cZ.upT (cZ.upT (cZ.upT (cZ.upT C2 A7.upT) Ao.upT) A3.upT) Bz.upT) Bc.upT) Bl) Be.upT) Bf) A8.upT) A9.upT) B1) Bh) Bu)) rfl rfl (cZ.one Bi) Hg fun Pn Hh Lr=>AHq (ACt (q_t (AH1 ?_)));have Eb:=Hh.stA Lr (AH8 Hg rfl) rfl;have Po:=Eb.size;obtain rfl:=AHw Hf;have Hj:=cZ.upT Bi Eb;exact ⟨_,Adp AH9 (cZ.klen Hj) rfl Hh,(Dx.thenT Eb (Cv.loAll 0 rfl)),_,rfl,Hj.2⟩
noncomputable def AM5 (fuel:Nat) (a3:(List (List Int))) (a5:Int):Option Int:=
  ((AO0 fuel a3).bind fun (x6,x7)=>((ATp fuel x6).bind fun (x21,x22)=>((AO1 fuel x21 a5).bind fun (x44,x45,x46)=>(if a5=2 then (some (w64 (x44 + 3))) else (some (w64 (x44 + 1)))))))
theorem ASs {fuel:Nat} {h:AHr} {Ag:Value} {a3:LiI} {a5:Int} {r:Int} (H2:AM9 (cI .i64) h Ag a3) (HO:AX8 h) (hp:AM5 fuel a3 a5=some r):AIj Tryz.prog 63 #[Ag,(.int .i64 a5)] h (fun x h'=>Ext h h'/\x= .int .i64 r):=by
 unfold AM5 at hp;refine AHx (l:=[_,_]) mx Tryz.func63 rfl rfl rfl rfl rfl (by kernel_rfl) (ACu (ACv (AHq (ACt (q_t (ACu (ACv (AHo ?_))))))));obtain ⟨⟨x6,x7⟩,A7,Aj⟩:=AHv hp;dsimp only at Aj;refine AHy trivial tt2 rfl (AXp H2 A7) fun Bw Bx Ak A8=>?_;obtain ⟨By,Bz,B1,B3,rfl,A9,Ba⟩:=A8;refine AHo (AI7 rfl rfl (AI7 rfl rfl (AHq (AHq (ACt (q_t (ACu (ACv (AHo ?_)))))))));obtain ⟨⟨B4,B5⟩,Bb,Am⟩:=AHv Aj;dsimp only at Am;refine AHy trivial tt2 rfl (Abo A9.rd Bb) fun B6 Bc Ao Be=>?_;obtain ⟨B7,rfl,Bf⟩:=Be;have Ap:=Ak.trans Ao;obtain ⟨Aq,rfl,Bg⟩:=Bf.cs;refine AHo (AI7 rfl rfl (AI7 rfl rfl (AI9 [.bool false,.slice none 0 0] ALz rfl trivial tt2 fun B8 B9 Ar Aa Bh=>?_)));have Au:=(((AJ8 h h.size).app Ba Ak.1 (Nat.le_refl _)).keep Ao.1).app Bh Aa.1 Ap.1;have Ac:=cZ.upT Bg Aa.upT;refine AIw Aq AH9 (cZ.klen Ac) (cZ.klen (cZ.upT (AIk Bc) Aa.upT)) rfl rfl (cZ.one Ac) Ar fun Ca Av Bi=>AHq (ACt (q_t (ACu (ACv ?_))));have Ad:=Av.stA Bi (AH8 Ar rfl) rfl;have Aw:=(Ap.trans Aa).thenT Ad (Au.loAll 1 rfl);have Ax:=cZ.upT Ac Ad;refine AKr Aq AH9 (cZ.klen Ax) rfl Av.agg (AHo ?_);obtain ⟨⟨Cb,Cd,Ce⟩,Bj,Ae⟩:=AHv Am;dsimp only at Ae;refine AHy trivial tt2 rfl (AXs Ax.2 (HO.ext Aw) Bj) fun Cf Bl Ay Bm=>?_;obtain ⟨Cg,rfl,Bn⟩:=Bm;have Az:=Aw.trans Ay;obtain ⟨Bo,rfl,Bp⟩:=Bn.cs;refine AHo (AI7 rfl rfl (AI7 rfl rfl (AI7 rfl rfl (AI9 [.bool false,.slice none 0 0] ALz rfl trivial tt2 fun Ch Ci A3 Ab Bq=>AHq ?_))));have A4:=cZ.upT Bp Ab.upT;refine AIw Bo AH9 (cZ.klen A4) (cZ.klen (cZ.upT (AIk Bl) Ab.upT)) rfl rfl (cZ.one A4) A3 fun Cj Br Bt=>AHq (ACt (q_t (ACu (ACu (ACv (AHo (AIp rfl rfl (AMi _ _) (ACt (q_t ?_)))))))));have A5:=(Az.trans Ab).thenT (Br.stA Bt (AH8 A3 rfl) rfl) ((((Au.keep Ad.size).keep Ay.1).app Bq Ab.1 Az.1).loAll 2 rfl);refine ⟨_,rfl,fun Af=>?_,fun Af=>?_⟩
 ·refine ACu (ACv (AHo (AJd rfl rfl (AHq (ACt (q_t (AH1 (AIi ?_))))))));obtain rfl:=AHw (AJ2 Ae Af);exact ⟨_,AH5,A5,rfl⟩
 ·refine AH2 (q_t (ACu (ACv (AHo (AJd rfl rfl (AHq (ACt (q_t (AH1 ?_)))))))));obtain rfl:=AHw (AJ3 Ae Af);exact ⟨_,AH5,A5,rfl⟩
noncomputable def AM6 (fuel:Nat) (a3:(List (List Int))) (a5:Int):Option (Int × Int):=
  ((Ae6 fuel a3).bind fun x6=>(if (!x6)=true then (some (0,6)) else (if ¬ a5=2 then ((Adt fuel a5).bind fun x18=>(if (!x18)=true then (some (0,20)) else ((AM5 fuel a3 a5).bind fun x28=>(some (x28,0))))) else ((AM5 fuel a3 a5).bind fun x36=>(some (x36,0))))))
theorem ASt {fuel:Nat} {h:AHr} {Ah:Value} {a3:LiI} {a5:Int} {r:(Int × Int)} (H2:AM9 (cI .i64) h Ah a3) (HO:AX8 h) (hp:AM6 fuel a3 a5=some r):AIj Tryz.prog 25 #[Ah,(.int .i64 a5)] h (fun x h'=>Ext h h'/\x= .tuple #[.int .i64 r.1,.int .i64 r.2]):=by
 unfold AM6 at hp;refine AHx (l:=[_,_]) mx Tryz.func25 rfl rfl rfl rfl rfl (by kernel_rfl) (ACu (ACv (AHq (AHq (ACt (q_t (ACu (ACu (ACv (AHo ?_))))))))));obtain ⟨x6,Ao,Aj⟩:=AHv hp;refine AHy trivial tt2 rfl (Akb H2 Ao) fun A7 A8 E9 Ap=>?_;subst Ap;refine AMj rfl (ACt (q_t (⟨_,rfl,fun Af=>?_,fun Af=>?_⟩)))
 ·refine ACu (ACv (AHq (AHq (ACt (q_t (AH1 (AIi ?_)))))));obtain rfl:=AHw (ifT Aj Af);exact ⟨_,AKj,E9,rfl⟩
 ·refine AH2 (q_t (ACu (ACu (ACv (AHo (AIp rfl rfl (AP7 _ _) (AHo ?_)))))));have Ak:=AQm Aj Af;rcases Decidable.em (¬ a5=2) with Ac | Ac
  ·rw [show decide (¬ a5=2)=true from decide_eq_true Ac];refine AH3 11 true (by kernel_rfl) rfl rfl (AHo (AH3 11 true (by kernel_rfl) rfl rfl ?_));obtain ⟨A9,Aq,Am⟩:=AHv (ifT Ak Ac);refine AHy trivial tt2 rfl (Aii (HO.ext E9) Aq) fun Ba Bb Ar Au=>?_;subst Au;refine AH3 11 true (by kernel_rfl) rfl rfl (AMj rfl (AIt rfl (ACt (q_t ?_))));have Ad:=E9.trans Ar;refine ⟨_,rfl,fun Ag=>?_,fun Ag=>?_⟩
   ·refine ACu (ACv (AHq (AHq (ACt (q_t (AH1 (AIi ?_)))))));obtain rfl:=AHw (ifT Am Ag);exact ⟨_,AKj,Ad,rfl⟩
   ·refine AH2 (q_t (ACu (ACv (AHo (AHo ?_)))));obtain ⟨Bc,Av,Aw⟩:=AHv (AQm Am Ag);refine AHy trivial tt2 rfl (ASs (H2.ext Ad) (HO.ext Ad) Av) fun Be Bf Ax Ay=>?_;subst Ay;refine AHq (AHq (ACt (q_t (AH1 ?_))));obtain rfl:=AHw Aw;exact ⟨_,AKj,(Ad.trans Ax),rfl⟩
  ·rw [show decide (¬ a5=2)=false from decide_eq_false Ac];refine AH0 11 false (by kernel_rfl) rfl rfl (AH0 11 false (by kernel_rfl) rfl rfl (AH0 11 false (by kernel_rfl) rfl rfl (AIv rfl (ACt (q_t (AId rfl (AH2 (q_t (ACu (ACv (AHo (AHo ?_))))))))))));obtain ⟨Bg,Az,A3⟩:=AHv (ifF Ak Ac);refine AHy trivial tt2 rfl (ASs (H2.ext E9) (HO.ext E9) Az) fun Bh Bi A4 A5=>?_;subst A5;refine AHq (AHq (ACt (q_t (AH1 ?_))));obtain rfl:=AHw A3;exact ⟨_,AKj,(E9.trans A4),rfl⟩
def AOa (fuel:Nat) (a2:Int) (Ab:Int) (Ac:Int):Option ((Int × Int) ⊕ ((Int))):=
  (((if ¬ Ab=0 then (if a2≠0 then (if (Int.tmod Ab a2)=0 then (some (Sum.inl <| ())) else (some (Sum.inr <| ()))) else none) else (some (Sum.inr <| ()))):Option ((Unit) ⊕ (Unit))).bind (fun ex=>match ex with | Sum.inl _=>(if a2≠0 then (some (Sum.inl ((w64 (Int.tdiv Ab a2)),(w64 (Ac + 1))))) else none) | Sum.inr (_)=>(some (Sum.inr<| Ac))))
def AL8 (fuel:Nat) (a1:Int) (a2:Int):Option Int:=
  ((iter (fun s=>AOa fuel a2 s.1 s.2) fuel (a1,0)).bind (fun (Ac:Int)=>(some Ac)))
theorem ATq {fuel:Nat} {h:AHr} {a1:Int} {a2:Int} {r:Int} (hp:AL8 fuel a1 a2=some r):AIj Tryz.prog 38 #[(.int .i64 a1),(.int .i64 a2)] h (fun x h'=>Ext h h'/\x= .int .i64 r):=by
 unfold AL8 at hp;refine AHx (l:=[_,_]) mx Tryz.func38 rfl rfl rfl rfl rfl (by kernel_rfl) (ACu (ACv (AHq (ACt (q_t (ACu (ACv (AHq (ACt (q_t (ACu (AHz ?_))))))))))));obtain ⟨Ag,A6,Ao⟩:=AHv hp;obtain ⟨A7,A8,A9⟩:=AI0 A6;refine AIy 524257 (fun x:(Int) × (Int)=>[(0,(.int .i64 x.1)),(5,(.int .i64 x.2))]) (fun (k:Nat) (x:(Int) × (Int)) (h':AHr)=>iter A7 k (x.1,x.2)=some Ag/\UpT [] h h'/\Sp h' h.size []) (by kernel_rfl) fuel ((a1,0):(Int) × (Int)) ?_ ⟨rfl,rfl,trivial⟩ ?_
 ·exact ⟨A9,UpT.start all_nil,(AJ8 h h.size)⟩
 rintro k9 ⟨Aa,u16⟩ Ba Ab ⟨Bb,Ap,Ah⟩;replace Ah:Sp Ab h.size []:=Ah;refine (show W _ _ _ (setL [(0,(.int .i64 Aa)),(5,(.int .i64 u16))] (mix _ Ba _)) Ab from ?_);have Aq:=(Ext.refl _).thenT Ap all_nil;obtain ⟨Bc,Bo,rfl,Ad,Ai⟩:=AIs Bb;rw [A8] at Ad;dsimp only at Ad;unfold AOa at Ad;obtain ⟨Be,Ar,Aj⟩:=AHv Ad;refine AMu 16320 (fun x:Unit=>[]) (fun (x:Unit) (h':AHr)=>(Sum.inl <| ())=Be/\UpT [] Ab h'/\Sp h' h.size []) (by kernel_rfl) ?_ ?_
 ·refine ACu (ACv (AHo (AIp rfl rfl (AP7 _ _) (AHo ?_))));rcases Decidable.em (¬ Aa=0) with Ac | Ac
  ·rw [show decide (¬ Aa=0)=true from decide_eq_true Ac];refine AH3 8 true (by kernel_rfl) rfl rfl (AHo (AH3 8 true (by kernel_rfl) rfl rfl (AHo (AH3 8 true (by kernel_rfl) rfl rfl ?_))));obtain ⟨Bf,Au⟩:=ifN (ifT Ar Ac);refine AVj rfl rfl Bf (AH3 8 true (by kernel_rfl) rfl rfl (AIp rfl rfl (AMi _ _) (AIt rfl (ACt (q_t (⟨_,rfl,fun Ak=>?_,fun Ak=>?_⟩))))))
   ·refine AH2 (q_t ?_);have Bg:UpT [] Ab Ab:=UpT.start all_nil;exact ⟨(():Unit),⟨AHw (AJ2 Au Ak),Bg,Ah⟩,trivial⟩
   ·obtain rfl:=AHw (AJ3 Au Ak);have Av:=Aj;(try dsimp only at Av);obtain rfl:=AHw Av;have Aw:=Ai;change _=Ag at Aw;subst Aw;have Ax:=Ao;(try dsimp only at Ax);refine AIo (AIq (AIq (AJ5 (q_t (ACu (ACv (AHo (AHq (ACt (q_t (AH1 ?_)))))))))));obtain rfl:=AHw Ax;exact ⟨_,AH5,Aq,rfl⟩
  ·rw [show decide (¬ Aa=0)=false from decide_eq_false Ac];refine AH0 8 false (by kernel_rfl) rfl rfl (AH0 8 false (by kernel_rfl) rfl rfl (AH0 8 false (by kernel_rfl) rfl rfl (AH0 8 false (by kernel_rfl) rfl rfl (AIv rfl (ACt (q_t (AId rfl ?_)))))));obtain rfl:=AHw (ifF Ar Ac);have Ay:=Aj;(try dsimp only at Ay);obtain rfl:=AHw Ay;have Az:=Ai;change _=Ag at Az;subst Az;have A3:=Ao;(try dsimp only at A3);refine AIo (AIq (AIq (AJ5 (q_t (ACu (ACv (AHo (AHq (ACt (q_t (AH1 ?_)))))))))));obtain rfl:=AHw A3;exact ⟨_,AH5,Aq,rfl⟩
 rintro ⟨⟩ Bh A4 ⟨Bi,Bj,Am⟩;replace Am:Sp A4 h.size []:=Am;refine (show W _ _ _ (setL [] (mix _ Bh _)) A4 from ?_);subst Bi;have A5:=Aj;(try dsimp only at A5);refine AHz (ACu (ACv (AHo (AHo ?_))));obtain ⟨Bl,Bm⟩:=ifN A5;refine Ad4 rfl rfl Bl (AHq (ACt (q_t (ACv (AHo (AJd rfl rfl (AHq (ACt (q_b (q_t ?_))))))))));obtain rfl:=AHw Bm;exact ⟨Bc,(((w64 (Int.tdiv Aa a2)),(w64 (u16 + 1))):(Int) × (Int)),Nat.lt_succ_self _,⟨Ai,(Ap.then Bj all_nil),Am⟩,rfl,rfl,trivial⟩
def AN0 (fuel:Nat) (a3:LiI):Option Int:=
  ((ALm fuel a3).bind fun x5=>((AI8 fuel x5).bind fun Ac=>((Afv fuel Ac).bind fun (Ad,Ae)=>(some Ad))))
theorem AWq {fuel:Nat} {h:AHr} {Aa:Value} {a3:LiI} {r:Int} (H2:AM9 (cI .i64) h Aa a3) (hp:AN0 fuel a3=some r):AIj Tryz.prog 37 #[Aa] h (fun x h'=>Ext h h'/\x= .int .i64 r):=by
 unfold AN0 at hp;refine AHx (l:=[_]) mx Tryz.func37 rfl rfl rfl rfl rfl (by kernel_rfl) (ACu (ACv (AHq (ACt (q_t (ACu (ACv (AHo ?_))))))));obtain ⟨x5,Ae,Af⟩:=AHv hp;refine AHy trivial tt2 rfl (AQn H2 Ae) fun Ax h9 E8 Ah=>?_;obtain ⟨Az,A3,A4,A5,rfl,Ai,A6⟩:=Ah;obtain ⟨A7,Aj,Ak⟩:=AHv Af;refine AHy trivial tt2 rfl (AKn Ai.rd Aj) fun A8 A9 Am Ao=>?_;obtain ⟨Ba,rfl,Ap⟩:=Ao;obtain ⟨Bb,rfl,Aq⟩:=Ap.cs;obtain ⟨⟨Bc,Be⟩,Ar,Ac⟩:=AHv Ak;dsimp only at Ac;refine AHy trivial tt2 rfl (Ag8 Aq.2 Ar) fun Bf Bg Au Av=>?_;subst Av;refine AHo (AI7 rfl rfl (AI7 rfl rfl (AHq (AHq (ACt (q_t (ACu (ACv (AHo (AHq (ACt (q_t (AH1 ?_)))))))))))));obtain rfl:=AHw Ac;exact ⟨_,AH5,((E8.trans Am).trans Au),rfl⟩
def AMq (fuel:Nat) (a3:LiI) (a5:Int):Option Int:=
  ((AN0 fuel a3).bind fun x6=>((AL8 fuel x6 a5).bind fun Ab=>(if a5=2 then (some (w64 (Ab + 3))) else (some (w64 (Ab + 1))))))
theorem AUp {fuel:Nat} {h:AHr} {Ab:Value} {a3:LiI} {a5:Int} {r:Int} (H2:AM9 (cI .i64) h Ab a3) (hp:AMq fuel a3 a5=some r):AIj Tryz.prog 49 #[Ab,(.int .i64 a5)] h (fun x h'=>Ext h h'/\x= .int .i64 r):=by
 unfold AMq at hp;refine AHx (l:=[_,_]) mx Tryz.func49 rfl rfl rfl rfl rfl (by kernel_rfl) (ACu (ACv (AHq (ACt (q_t (ACu (ACv (AHo ?_))))))));obtain ⟨x6,Ah,Ai⟩:=AHv hp;refine AHy trivial tt2 rfl (AWq H2 Ah) fun Ar Au E9 Ak=>?_;subst Ak;refine AHo ?_;obtain ⟨Av,Am,Ae⟩:=AHv Ai;refine AHy trivial tt2 rfl (ATq Am) fun Aw Ax Ao Ap=>?_;subst Ap;refine AHq (ACt (q_t (ACu (ACu (ACv (AHo (AIp rfl rfl (AMi _ _) (ACt (q_t ?_)))))))));have Af:=E9.trans Ao;refine ⟨_,rfl,fun Aa=>?_,fun Aa=>?_⟩
 ·refine ACu (ACv (AHo (AJd rfl rfl (AHq (ACt (q_t (AH1 (AIi ?_))))))));obtain rfl:=AHw (AJ2 Ae Aa);exact ⟨_,AH5,Af,rfl⟩
 ·refine AH2 (q_t (ACu (ACv (AHo (AJd rfl rfl (AHq (ACt (q_t (AH1 ?_)))))))));obtain rfl:=AHw (AJ3 Ae Aa);exact ⟨_,AH5,Af,rfl⟩
noncomputable def AKy (fuel:Nat) (a3:(List (List Int))) (a5:Int):Option (Int × Int):=
  ((AKx fuel a3).bind fun x6=>(if (!x6)=true then (some (0,6)) else ((Ae7 fuel a5).bind fun x16=>(if (!x16)=true then (some (0,20)) else ((AMq fuel a3 a5).bind fun x26=>(some (x26,0)))))))
theorem AQh {fuel:Nat} {h:AHr} {Ad:Value} {a3:LiI} {a5:Int} {r:(Int × Int)} (H2:AM9 (cI .i64) h Ad a3) (hp:AKy fuel a3 a5=some r):AIj Tryz.prog 26 #[Ad,(.int .i64 a5)] h (fun x h'=>Ext h h'/\x= .tuple #[.int .i64 r.1,.int .i64 r.2]):=by
 unfold AKy at hp;refine AHx (l:=[_,_]) mx Tryz.func26 rfl rfl rfl rfl rfl (by kernel_rfl) (ACu (ACv (AHq (AHq (ACt (q_t (ACu (ACu (ACv (AHo ?_))))))))));obtain ⟨x6,Ak,Ah⟩:=AHv hp;refine AHy trivial tt2 rfl (ATe H2 Ak) fun Ay Az E9 Am=>?_;subst Am;refine AMj rfl (ACt (q_t (⟨_,rfl,fun Aa=>?_,fun Aa=>?_⟩)))
 ·refine ACu (ACv (AHq (AHq (ACt (q_t (AH1 (AIi ?_)))))));obtain rfl:=AHw (ifT Ah Aa);exact ⟨_,AKj,E9,rfl⟩
 ·refine AH2 (q_t (ACu (ACu (ACv (AHo ?_)))));obtain ⟨A3,Ao,Aj⟩:=AHv (AQm Ah Aa);refine AHy trivial tt2 rfl (Akc Ao) fun A4 A5 Ap Aq=>?_;subst Aq;refine AMj rfl (ACt (q_t ?_));have Ab:=E9.trans Ap;refine ⟨_,rfl,fun Ac=>?_,fun Ac=>?_⟩
  ·refine ACu (ACv (AHq (AHq (ACt (q_t (AH1 (AIi ?_)))))));obtain rfl:=AHw (ifT Aj Ac);exact ⟨_,AKj,Ab,rfl⟩
  ·refine AH2 (q_t (ACu (ACv (AHo (AHo ?_)))));obtain ⟨A6,Ar,Au⟩:=AHv (AQm Aj Ac);refine AHy trivial tt2 rfl (AUp (H2.ext Ab) Ar) fun A7 A8 Av Aw=>?_;subst Aw;refine AHq (AHq (ACt (q_t (AH1 ?_))));obtain rfl:=AHw Au;exact ⟨_,AKj,(Ab.trans Av),rfl⟩
def APb (fuel:Nat) (a3:LiI) (Aa:Int):Option ((Int) ⊕ ((Bool) ⊕ (Unit))):=
  (if Aa < (a3.length:Int) then ((gI a3 Aa).bind fun Ac=>(if 12 < (Ac.length:Int) then (some (Sum.inr<| Sum.inl <| true)) else (some (Sum.inl (w64 (Aa + 1)))))) else (some (Sum.inr<| Sum.inr <| ())))
def AMy (fuel:Nat) (a3:LiI):Option Bool:=
  (if 12 < (a3.length:Int) then (some true) else ((iter (fun s=>APb fuel a3 s) fuel 0).bind (fun ex=>match ex with | Sum.inl Ab=>(some Ab) | Sum.inr (_)=>(some false))))
theorem AVf {fuel:Nat} {h:AHr} {Aj:Value} {a3:LiI} {r:Bool} (H2:AM9 (cI .i64) h Aj a3) (hp:AMy fuel a3=some r):AIj Tryz.prog 22 #[Aj] h (fun x h'=>Ext h h'/\x= .bool r):=by
 unfold AMy at hp;refine AHx (l:=[_]) mx Tryz.func22 rfl rfl rfl rfl rfl (by kernel_rfl) (ACu (ACv (AHq (ACt (q_t (ACu (ACu (ACv (AHo (AKc AJg rfl H2 (AIp rfl rfl (APf _ _) (ACt (q_t (⟨_,rfl,fun Ac=>?_,fun Ac=>?_⟩))))))))))))))
 ·refine ACu (ACv (AHq (ACt (q_t (AH1 (AIi ?_))))));obtain rfl:=AHw (AJ2 hp Ac);exact ⟨_,AH5,(Ext.refl _),rfl⟩
 ·refine AH2 (q_t (ACu (ACu (ACv (AHo (AKc AJg rfl H2 (AHo (ACt (q_t (AHz ?_))))))))));obtain ⟨Ad,Ay,Am⟩:=AHv (AJ3 hp Ac);obtain ⟨Az,A3,A4⟩:=AI0 Ay;refine AIy 261140 (fun x:(Int)=>[(10,(.int .i64 x))]) (fun (k:Nat) (x:(Int)) (h':AHr)=>iter Az k x=some Ad/\UpT [] h h'/\Sp h' h.size []) (by kernel_rfl) fuel (0:(Int)) ?_ ⟨rfl,trivial⟩ ?_
  ·exact ⟨A4,UpT.start all_nil,(AJ8 h h.size)⟩
  rintro Bb Ao A5 Ap ⟨A6,Aq,Ae⟩;replace Ae:Sp Ap h.size []:=Ae;refine (show W _ _ _ (setL [(10,(.int .i64 Ao))] (mix _ A5 _)) Ap from ?_);have Af:=(Ext.refl _).thenT Aq all_nil;obtain ⟨A7,Bc,rfl,Aa,Ag⟩:=AIs A6;rw [A3] at Aa;dsimp only at Aa;unfold APb at Aa;refine ACu (ACv (AIp rfl rfl (AI6 _ _) (ACt (q_t (ACu (⟨_,rfl,fun Ah=>?_,fun Ah=>?_⟩))))))
  ·refine AH2 (q_t (ACu (AHz (ACu (ACv ?_)))));obtain ⟨Be,A8,Ar⟩:=AHv (AJ2 Aa Ah);refine AQz AJg rfl H2 rfl A8 fun Bf Bg Bh A9 Ba=>AIr AKg rfl (AIc A9 Af) (AHq (ACt (q_t (ACu (ACv (AHo (ALe AJp rfl Ba (AIp rfl rfl (APf _ _) (ACt (q_t (⟨_,rfl,fun Ai=>?_,fun Ai=>?_⟩)))))))))))
   ·refine ACu (ACv (AHq (ACt (q_t ?_))));obtain rfl:=AHw (AJ2 Ar Ai);have Au:=Ag;change _=Ad at Au;subst Au;have Av:=Am;(try dsimp only at Av);refine AH1 (AJ0 (AIi (AIi (AJ0 (AIi ?_)))));obtain rfl:=AHw Av;exact ⟨_,AH5,Af,rfl⟩
   ·refine AH2 (q_b (q_t (ACv (AJd rfl rfl (AHo (ACt (q_t ?_)))))));obtain rfl:=AHw (AJ3 Ar Ai);exact ⟨A7,((w64 (Ao + 1)):(Int)),Nat.lt_succ_self _,⟨Ag,Aq,Ae⟩,rfl,trivial⟩
  ·obtain rfl:=AHw (AJ3 Aa Ah);have Aw:=Ag;change _=Ad at Aw;subst Aw;have Ax:=Am;(try dsimp only at Ax);refine AIo (AIq (AIq (AJ5 (q_t (ACu (ACv (AHq (ACt (q_t (AH1 ?_))))))))));obtain rfl:=AHw Ax;exact ⟨_,AH5,Af,rfl⟩
def AOl (fuel:Nat) (a1:Int):Option Int:=
  (if (([2,3,5,7,2,3,5,11,13,17,19,23,3,2,9973,10007,1,4,9,(-3)]:List Int).length:Int)≠0 then ((gI ([2,3,5,7,2,3,5,11,13,17,19,23,3,2,9973,10007,1,4,9,(-3)]:List Int) (Int.tmod (w64 a1) (([2,3,5,7,2,3,5,11,13,17,19,23,3,2,9973,10007,1,4,9,(-3)]:List Int).length:Int))).bind fun Ab=>(some Ab)) else none)
theorem AVg {fuel:Nat} {h:AHr} {a1:Int} {r:Int} (hp:AOl fuel a1=some r):AIj Tryz.prog 61 #[(.int .u8 a1)] h (fun x h'=>Ext h h'/\x= .int .i64 r):=by
 unfold AOl at hp;refine AHx (l:=[_]) mx Tryz.func61 rfl rfl rfl rfl rfl (by kernel_rfl) (ACu (ACv (AHq (ACt (q_t (ACu (ACv (Awp (κ:= .i64) [2,3,5,7,2,3,5,11,13,17,19,23,3,2,9973,10007,1,4,9,(-3)] AJp AW7 rfl rfl trivial tt2 rfl rfl rfl rfl fun b2 v3 h4 I5 E6 Ap Aq=>AHq (ACt (q_t (ACu (ACv (AHo (AHo (AQk AUs AU2 rfl (AHo (ALe AJp rfl I5.rd ?_)))))))))))))))));obtain ⟨Ae,Af⟩:=ifN hp;refine AVj rfl rfl Ae ?_;obtain ⟨Ar,Ac,Ag⟩:=AHv Af;refine Aeb AJp rfl I5 rfl Ac fun Au Ah=>?_;obtain ⟨Av,Ai,Aj⟩:=I5.cells Ah Ac;obtain rfl:=Ai;refine AIr ALy rfl (Aj 0 _ rfl) (AHq (ACt (q_t (AH1 ?_))));obtain rfl:=AHw Ag;exact ⟨_,AH5,E6,rfl⟩
def AK9 (fuel:Nat) (a1:Int) (a2:Int) (a3:Bool):Option Int:=
  (if a3=true then (some a2) else ((AOl fuel a1).bind fun x7=>(some x7)))
theorem ARz {fuel:Nat} {h:AHr} {a1:Int} {a2:Int} {a3:Bool} {r:Int} (hp:AK9 fuel a1 a2 a3=some r):AIj Tryz.prog 24 #[(.int .u8 a1),(.int .i64 a2),(.bool a3)] h (fun x h'=>Ext h h'/\x= .int .i64 r):=by
 unfold AK9 at hp;refine AHx (l:=[_,_,_]) mx Tryz.func24 rfl rfl rfl rfl rfl (by kernel_rfl) (ACu (ACv (AHq (ACt (q_t (ACu (ACu (ACv (AHo (ACt (q_t (⟨_,rfl,fun Aa=>?_,fun Aa=>?_⟩))))))))))))
 ·refine ACu (ACv (AHo (AHq (ACt (q_t (AH1 (AIi ?_)))))));obtain rfl:=AHw (ifT hp Aa);exact ⟨_,AH5,(Ext.refl _),rfl⟩
 ·refine AH2 (q_t (ACu (ACv (AHo ?_))));obtain ⟨x8,Ae,Af⟩:=AHv (AQm hp Aa);refine AHy trivial tt2 rfl (AVg Ae) fun Aj Ak Ag Ah=>?_;subst Ah;refine AHq (ACt (q_t (AH1 ?_)));obtain rfl:=AHw Af;exact ⟨_,AH5,Ag,rfl⟩
noncomputable def ALk (fuel:Nat) (a1:Int) (a2:Int) (a5:(List Int)) (a9:(List Int)) (a13:(List (List Int))) (a15:Int) (a16:Int) (a17:Bool) (a18:Bool):Option Bool:=
  ((AMy fuel a13).bind fun x25=>(if x25=true then ((AXr fuel).bind fun x34=>(some x34)) else (if a18=true then ((ALc fuel a1 a2 a5 a9 8).bind fun x44=>((AK9 fuel a15 a16 a17).bind fun x58=>((AM6 fuel x44 x58).bind fun (x65,x66)=>((AKy fuel x44 x58).bind fun (x73,x74)=>(if x65=x73 then (if x66=x74 then ((AXr fuel).bind fun x85=>(some x85)) else (some false)) else (some false)))))) else ((AK9 fuel a15 a16 a17).bind fun x95=>((AM6 fuel a13 x95).bind fun (x102,x103)=>((AKy fuel a13 x95).bind fun (x110,x111)=>(if x102=x110 then (if x103=x111 then ((AXr fuel).bind fun x122=>(some x122)) else (some false)) else (some false))))))))
theorem AR2 {fuel:Nat} {h:AHr} {a1:Int} {a2:Int} {Ah:Value} {a5:LiA} {Ai:Value} {a9:LiA} {A8:Value} {A9:LiI} {Ba:Int} {Bb:Int} {Bc:Bool} {Be:Bool} {r:Bool} (H4:SlC (cI .i8) h Ah a5) (H8:SlC (cI .i8) h Ai a9) (Am:AM9 (cI .i64) h A8 A9) (HO:AX8 h) (hp:ALk fuel a1 a2 a5 a9 A9 Ba Bb Bc Be=some r):AIj Tryz.prog 5 #[(.agg #[(.int .u8 a1),(.int .u8 a2),Ah,Ai]),A8,(.int .u8 Ba),(.int .i64 Bb),(.bool Bc),(.bool Be)] h (fun x h'=>Ext h h'/\x= .bool r):=by
 unfold ALk at hp;refine AHx (l:=[_,_,_,_,_,_]) mx Tryz.func5 rfl rfl rfl rfl rfl (by kernel_rfl) (ACu (ACv (AN2 [(.int .u8 a1),(.int .u8 a2),Ah,Ai] trivial tt2 rfl rfl fun C3 C4 Bw Bf C5=>AHq (ACt (q_t (ACu (ACu (ACv (AHo ?_)))))))));obtain ⟨C6,Bx,Bg⟩:=AHv hp;refine AHy trivial tt2 rfl (AVf (Am.ext Bf) Bx) fun C7 C8 Bh By=>?_;subst By;refine ACt (q_t ?_);have Aa:=Bf.trans Bh;refine ⟨_,rfl,fun Ao=>?_,fun Ao=>?_⟩
 ·refine ACu (ACv ?_);obtain ⟨C9,Bz,B1⟩:=AHv (ifT Bg Ao);refine AHy trivial tt2 rfl (Aa7 (HO.ext Aa) Bz) fun Da Db B3 B4=>?_;subst B4;refine AHq (ACt (q_t (AH1 (AIi ?_))));obtain rfl:=AHw B1;exact ⟨_,AH5,(Aa.trans B3),rfl⟩
 ·refine AH2 (q_t (ACu (ACu (ACv (AHo (ACt (q_t ?_)))))));have Bi:=AQm Bg Ao;refine ⟨_,rfl,fun Ap=>?_,fun Ap=>?_⟩
  ·refine ACv (AKr [(.int .u8 a1),(.int .u8 a2),Ah,Ai] Aq6 rfl rfl (Bw.ext Bh).agg ?_);obtain ⟨Dc,B5,B6⟩:=AHv (ifT Bi Ap);refine AHy trivial tt2 rfl (ASy (H4.ext Aa) (H8.ext Aa) B5) fun Dd De B7 B8=>?_;obtain ⟨Df,Dg,Dh,Di,rfl,B9,Dj⟩:=B8;refine AHq (ACt (q_t (ACu (ACv (AHo (AHo (AHo ?_)))))));obtain ⟨Dk,Ca,Cb⟩:=AHv B6;refine AHy trivial tt2 rfl (ARz Ca) fun Dl Dn Bj Cd=>?_;subst Cd;refine AHq (ACt (q_t (ACu (ACv (AHo (AHo ?_))))));have Bl:=(Aa.trans B7).trans Bj;have Bm:=B9.ext Bj;obtain ⟨⟨Aq,Ar⟩,Ce,Bn⟩:=AHv Cb;dsimp only at Bn;refine AHy trivial tt2 rfl (ASt Bm.rd (HO.ext Bl) Ce) fun Do Dp Bo Cf=>?_;subst Cf;refine AHo (AI7 rfl rfl (AI7 rfl rfl (AHq (AHq (ACt (q_t (ACu (ACv (AHo (AHo ?_))))))))));obtain ⟨⟨Au,Av⟩,Cg,Aw⟩:=AHv Bn;dsimp only at Aw;refine AHy trivial tt2 rfl (AQh (Bm.ext Bo).rd Cg) fun Dq Dr Ch Ci=>?_;subst Ci;refine AHo (AI7 rfl rfl (AI7 rfl rfl (AHq (AHq (ACt (q_t (ACu (ACv (AHo (AHo (AIp rfl rfl (AMi _ _) (AHo ?_))))))))))));have Aj:=(Bl.trans Bo).trans Ch;rcases Decidable.em (Aq=Au) with Ab | Ab
   ·have Bp:=ifT Aw Ab;rw [show decide (Aq=Au)=true from decide_eq_true Ab];refine AH3 43 true (by kernel_rfl) rfl rfl (AHo (AH3 43 true (by kernel_rfl) rfl rfl (AHo (AH3 43 true (by kernel_rfl) rfl rfl (AIp rfl rfl (AMi _ _) (AIt rfl (AHo ?_)))))));rcases Decidable.em (Ar=Av) with Ac | Ac
    ·rw [show decide (Ar=Av)=true from decide_eq_true Ac];refine AH3 48 true (by kernel_rfl) rfl rfl ?_;obtain ⟨Ds,Cj,Ck⟩:=AHv (ifT Bp Ac);refine AHy trivial tt2 rfl (Aa7 (HO.ext Aj) Cj) fun Dt Du Cm Cn=>?_;subst Cn;refine AIt rfl (AHq (ACt (q_t (AH1 ?_))));obtain rfl:=AHw Ck;exact ⟨_,AH5,(Aj.trans Cm),rfl⟩
    ·rw [show decide (Ar=Av)=false from decide_eq_false Ac];refine AH0 48 false (by kernel_rfl) rfl rfl (AIv rfl (AHq (ACt (q_t (AH1 ?_)))));obtain rfl:=AHw (ifF Bp Ac);exact ⟨_,AH5,Aj,rfl⟩
   ·rw [show decide (Aq=Au)=false from decide_eq_false Ab];refine AH0 43 false (by kernel_rfl) rfl rfl (AH0 43 false (by kernel_rfl) rfl rfl (AH0 43 false (by kernel_rfl) rfl rfl (AIv rfl (AHo (AH0 48 false (by kernel_rfl) rfl rfl (AIv rfl (AHq (ACt (q_t (AH1 ?_))))))))));obtain rfl:=AHw (ifF Aw Ab);exact ⟨_,AH5,Aj,rfl⟩
  ·refine AH2 (q_t (ACu (ACv (AHo (AHo (AHo ?_))))));obtain ⟨Dv,Co,Cp⟩:=AHv (AQm Bi Ap);refine AHy trivial tt2 rfl (ARz Co) fun Dw Dx Cq Cr=>?_;subst Cr;refine AHq (ACt (q_t (ACu (ACv (AHo (AHo ?_))))));have Ax:=Aa.trans Cq;obtain ⟨⟨Ay,Az⟩,Ct,Bq⟩:=AHv Cp;dsimp only at Bq;refine AHy trivial tt2 rfl (ASt (Am.ext Ax) (HO.ext Ax) Ct) fun Dy Dz Cu Cv=>?_;subst Cv;refine AHo (AI7 rfl rfl (AI7 rfl rfl (AHq (AHq (ACt (q_t (ACu (ACv (AHo (AHo ?_))))))))));have Br:=Ax.trans Cu;obtain ⟨⟨A3,A4⟩,Cw,A5⟩:=AHv Bq;dsimp only at A5;refine AHy trivial tt2 rfl (AQh (Am.ext Br) Cw) fun D0 D1 Cx Cy=>?_;subst Cy;refine AHo (AI7 rfl rfl (AI7 rfl rfl (AHq (AHq (ACt (q_t (ACu (ACv (AHo (AHo (AIp rfl rfl (AMi _ _) (AHo ?_))))))))))));have Ak:=Br.trans Cx;rcases Decidable.em (Ay=A3) with Ad | Ad
   ·have Bt:=ifT A5 Ad;rw [show decide (Ay=A3)=true from decide_eq_true Ad];refine AH3 43 true (by kernel_rfl) rfl rfl (AHo (AH3 43 true (by kernel_rfl) rfl rfl (AHo (AH3 43 true (by kernel_rfl) rfl rfl (AIp rfl rfl (AMi _ _) (AIt rfl (AHo ?_)))))));rcases Decidable.em (Az=A4) with Ae | Ae
    ·rw [show decide (Az=A4)=true from decide_eq_true Ae];refine AH3 48 true (by kernel_rfl) rfl rfl ?_;obtain ⟨D2,Cz,C0⟩:=AHv (ifT Bt Ae);refine AHy trivial tt2 rfl (Aa7 (HO.ext Ak) Cz) fun D3 D4 C1 C2=>?_;subst C2;refine AIt rfl (AHq (ACt (q_t (AH1 ?_))));obtain rfl:=AHw C0;exact ⟨_,AH5,(Ak.trans C1),rfl⟩
    ·rw [show decide (Az=A4)=false from decide_eq_false Ae];refine AH0 48 false (by kernel_rfl) rfl rfl (AIv rfl (AHq (ACt (q_t (AH1 ?_)))));obtain rfl:=AHw (ifF Bt Ae);exact ⟨_,AH5,Ak,rfl⟩
   ·rw [show decide (Ay=A3)=false from decide_eq_false Ad];refine AH0 43 false (by kernel_rfl) rfl rfl (AH0 43 false (by kernel_rfl) rfl rfl (AH0 43 false (by kernel_rfl) rfl rfl (AIv rfl (AHo (AH0 48 false (by kernel_rfl) rfl rfl (AIv rfl (AHq (ACt (q_t (AH1 ?_))))))))));obtain rfl:=AHw (ifF A5 Ad);exact ⟨_,AH5,Ak,rfl⟩
end Go.Proofs.YtmmckalinicpaaaGreatDoor
namespace Go.Proofs.YtmmckalinicpaaaGreatDoor
open Go Go.QF
set_option maxRecDepth 100000
theorem Al6 {n k:Nat} {A:Nat->Nat->Int} (hn:n<=8) (R:Ad2 n A) (hk:k<=n) {i j:Nat} (hi:i < n) (hj:j < n):(Mn k A i j).natAbs<=12288000000:=by
 have h1:=Aax R.sym R.pos hk hi hj
 have b:∀ i,i < n->Mn k A i i<=12288000000:=fun i hi=>by
   have h2:=Aqr R.sym R.pos hi k hk
   have h3:=AZ3 hn R hk
   have h4:=AZ4 hn R hi hi
   have h5:det k A * A i i<=det k A * 192000:=Int.mul_le_mul_of_nonneg_left h4.2 (by omega)
   omega
 have p:=fun i (hi:i < n)=>Aay R.sym R.pos hk hi;have h2:=Int.mul_le_mul (b i hi) (b j hj) (p j hj) (by omega);have:=Ahs (x:=Mn k A i j) (y:=12288000000) (by omega) (Int.le_trans h1 h2);omega
theorem Aw2 {fuel n:Nat} {A:Nat->Nat->Int} (Ag:1<=n) (hn:n<=8) (R:Ad2 n A) (hf:100 < fuel):ANg fuel (tab n n A)=some (det n A):=by
 apply ok_eq;unfold ANg;rw [AJk];refine AJ9 (by omega) ?_;rw [Int.toNat_natCast];refine AHt (AJa (fun i s=>s=(((i:Nat):Int),part n i A)/\i<=n) n (Q:=(· =tab n n A)) ⟨by rw [AS0 n A];rfl,Nat.zero_le _⟩ (by omega) fun i s hi hI=>?_) fun e he=>?_
 ·obtain ⟨rfl,hin⟩:=hI;unfold APy;dsimp only;rw [AJk];refine AIb (fun h=>AIe (AJn (by omega)) rfl (AJ9 (by omega) (AIe (AWp (by omega)) rfl ?_))) (fun h=>AHu ?_)
  ·have hi':i < n:=by omega
   rw [Int.toNat_natCast,AKd,ANy n (0:Int),AUi];refine AIe (AQ3 (by omega) hi') rfl (AJ9 (by rw [AJj,AJj];exact ⟨rfl,Ag⟩) (AHu ⟨hi',?_,by omega⟩));rw [AIg (by omega) (by omega),AKd,ASq (by omega),Aem,AVw];refine congrArg (fun z=>(z,part n (i + 1) A)) ?_;omega
  ·obtain rfl:i=n:=by omega
   exact ASz _ _
 subst he;refine AHt (Q:=(· =1)) ⟨1,if_pos (by omega),rfl⟩ fun one h1=>?_;subst h1;refine AHt (AJa (fun k s=> ∃ G,s=(false,((k:Int),tab n n G,det k A))/\k<=n/\ ∀ r c,k<=r->r < n->k<=c->c < n->G r c=Mn k A r c) n (Q:=fun ex=>match ex with | .inl e=>False | .inr (neg,last)=>neg=false/\last=det n A) ⟨A,rfl,Nat.zero_le _,fun r c _ _ _ _=>(ASo A r c).symm⟩ (by omega) fun k s hk hI=>?_) fun ex hex=>?_
 ·obtain ⟨G,rfl,hkn,hG⟩:=hI;unfold APx;dsimp only;rw [AJk];refine AIb (fun h=>?_) (fun h=>AHu ⟨rfl,?_⟩)
  ·have hk':k < n:=by omega
   have hGk:G k k=det (k + 1) A:=by rw [hG k k (by omega) hk' (by omega) hk',APh]
   have hpos:0 < det (k + 1) A:=R.pos (k + 1) (by omega);have hlast:=AZ3 hn R (k:=k) (by omega);refine AHt (Q:=(· =(k:Int))) (AHt (AJa (fun _ s=>s=(k:Int)) 0 (Q:=(· =(k:Int))) rfl (by omega) fun i s hi hI=>?_) fun e he=>AHu he) fun e he=>?_
   ·subst hI;unfold APu;rw [AJk];refine AHt (Q:=fun ex=>match ex with | .inl _=>False | .inr _=>True) (AIb (fun h2=>AIe (AJn hk') rfl (AIe (AIz hk') rfl (AHt (AIx (a:=AMa (G k k)) rfl) fun sg hsg=>AIb (fun h3=>?_) fun h3=>AHu trivial))) fun h2=>absurd h h2) fun ex hex=>?_
    ·exfalso;rw [hsg] at h3;have:=(ATo _).1 h3;omega
    ·cases ex with
     | inl u=>exact hex.elim
     | inr u=>exact AHu rfl
   ·subst he;refine AIb (fun h2=>by omega) fun _=>AHt (Q:=(· =(false,tab n n G))) (AIb (fun h2=>absurd rfl h2) fun _=>AHu rfl) fun r hr=>?_;subst hr;dsimp only;refine AIe (AJn hk') rfl (AIe (AIz hk') rfl ?_);rw [AIg (by omega) (by omega)]
    have hq:∀ r c,k < r->r < n->k < c->c < n->bQ k G (det k A) r c=Mn (k + 1) A r c:=fun r c h1 h2 h3 h4=>by
      unfold bQ
      rw [hGk,hG r c (by omega) h2 (by omega) h4,hG r k (by omega) h2 (by omega) hk',hG k c (by omega) hk' (by omega) h4,<- APh k A,AX3 (by omega),Int.mul_ediv_cancel_left _ (by omega)]
    have habs:∀ r c,k<=r->r < n->k<=c->c < n->(G r c).natAbs<=12288000000:=fun r c h1 h2 h3 h4=>by rw [hG r c h1 h2 h3 h4];exact Al6 hn R (by omega) h2 h4
    refine AHt (AJa (fun i s=>s=(((k + 1 + i:Nat):Int),tab n n (bF k G (det k A) (k + 1 + i) (k + 1)))/\k + 1 + i<=n) (n - (k + 1)) (Q:=(· =tab n n (bF k G (det k A) n (k + 1)))) ⟨by rw [Nat.add_zero,Ahm];simp,by omega⟩ (by omega) fun i s hi hI=>?_) fun a3 Ah=>?_
    ·obtain ⟨rfl,hin⟩:=hI;unfold APw;dsimp only;rw [AJk];obtain ⟨q,hqe⟩:∃ q,k + 1 + i=q:=⟨_,rfl⟩;rw [hqe] at hin ⊢;refine AIb (fun h3=>?_) (fun h3=>AHu ?_)
     ·have hqn:q < n:=by omega
      rw [AIg (by omega) (by omega)];refine AHt (AJa (fun j s=>s=(((k + 1 + j:Nat):Int),tab n n (bF k G (det k A) q (k + 1 + j)))/\k + 1 + j<=n) (n - (k + 1)) (Q:=(· =tab n n (bF k G (det k A) q n))) ⟨by simp,by omega⟩ (by omega) fun j s hj hJ=>?_) fun a4 Ai=>AHu ?_
      ·obtain ⟨rfl,hjn⟩:=hJ;unfold APv;dsimp only;rw [AJk];obtain ⟨c,hc⟩:∃ c,k + 1 + j=c:=⟨_,rfl⟩;rw [hc] at hjn ⊢;refine AIb (fun h4=>?_) (fun h4=>AHu ?_)
       ·have hcn:c < n:=by omega
        have a1:=habs k k (by omega) hk' (by omega) hk';have a2:=habs q c (by omega) hqn (by omega) hcn;have a3:=habs q k (by omega) hqn (by omega) hk';have a4:=habs k c (by omega) hk' (by omega) hcn;have m1:=Nat.mul_le_mul a1 a2;have m2:=Nat.mul_le_mul a3 a4;have hB:12288000000 * 12288000000 < AL1:=by decide
        refine AIe (AJn hqn) rfl (AIe (AIz hcn) rfl ?_);rw [Aur];refine AHt (AIx (a:=G k k * G q c) (if_pos (by omega))) fun x1 Am=>AIe (AIz hk') rfl (AIe (AJn hk') rfl (AIe (AIz hcn) rfl ?_));subst Am;rw [Auq,Alb];refine AHt (AIx (a:=G q k * G k c) (if_pos (by omega))) fun x2 Ao=>?_;subst Ao;refine AHt (AIx (a:=G k k * G q c - G q k * G k c) (if_pos ⟨by rw [Int.natAbs_mul];omega,by rw [Int.natAbs_mul];omega⟩)) fun x3 Ap=>?_;subst Ap
        have hnum:G k k * G q c - G q k * G k c=det k A * Mn (k + 1) A q c:=by
          rw [hGk,hG q c (by omega) hqn (by omega) hcn,hG q k (by omega) hqn (by omega) hk',hG k c (by omega) hk' (by omega) hcn,<- APh k A,AX3 (by omega)]
        have m3:(det k A * Mn (k + 1) A q c).natAbs<=64000 * 12288000000:=by
          rw [Int.natAbs_mul]
          exact Nat.mul_le_mul (by omega) (Al6 hn R (by omega) hqn hcn)
        refine AHt (Q:=fun x=>x.1=bQ k G (det k A) q c) ⟨_,if_pos ⟨by rw [hnum];omega,by omega,by omega⟩,rfl⟩ fun x4 Aq=>AHu ⟨by omega,?_,by omega⟩;rw [Aq,AIg (by omega) (by omega),Adf,Aql k G (det k A) (by omega) (by omega)];congr 1
        ·omega
        ·rw [<- Nat.add_assoc,hc]
       ·obtain rfl:c=n:=by omega
        rfl
      ·subst Ai;refine ⟨by omega,?_,by omega⟩;rw [AIg (by omega) (by omega)];congr 1
       ·omega
       ·refine Ad8 fun r c hr hc=>?_;rw [Aqk k n G (det k A) q hc,<- Nat.add_assoc,hqe]
     ·obtain rfl:q=n:=by omega
      rfl
    ·subst Ah;refine AHu ⟨hk',bF k G (det k A) n (k + 1),?_,by omega,fun r c h1 h2 h3 h4=>?_⟩
     ·rw [hGk];rfl
     ·have:bF k G (det k A) n (k + 1) r c=bQ k G (det k A) r c:=by unfold bF;rw [if_pos (by omega)]
      rw [this];exact hq r c (by omega) h2 (by omega) h4
  ·obtain rfl:k=n:=by omega
   rfl
 ·match ex,hex with
  | .inl e,hex=>exact hex.elim
  | .inr (neg,last),hex=>
    obtain ⟨rfl,rfl⟩:=hex
    dsimp only
    exact AIb (fun h=>nomatch h) fun _=>AHu rfl
theorem Aij {fuel n:Nat} {F:Nat->Nat->Int} (hn:1<=n) (Ab:n<=16) (hf:100 < fuel):ANf fuel (tab n n F)=some ((n:Int),(n:Int),true)/\AMp fuel (tab n n F)=some ((n:Int),(n:Int),true):=by
 constructor <;>
 ·apply ok_eq;first | unfold ANf | unfold AMp
  rw [AJk];refine AHt (Q:=fun ex=>match ex with | .inl _=>False | .inr _=>True) (AIb (fun h=>by omega) fun h=>AIb (fun h2=>by omega) fun h2=>AHu trivial) fun ex hex=>?_
  cases ex with
  | inl e=>exact hex.elim
  | inr u=>
    dsimp only
    refine AIe (n:=0) (AJn (by omega)) rfl ?_
    rw [AJj]
    refine AHt (Q:=fun ex=>match ex with | .inl _=>False | .inr _=>True) (AIb (fun h=>by omega) fun h=>AIb (fun h2=>by omega) fun h2=>AHu trivial) fun ex hex=>?_
    cases ex with
    | inl e=>exact hex.elim
    | inr u=>
      dsimp only
      refine AHt (AJa (fun i (s:Int)=>s=i) n (Q:=fun ex=>match ex with | .inl _=>False | .inr _=>True) rfl (by omega) fun i s hi hI=>?_) fun ex hex=>?_
      · subst hI
        first | unfold APt | unfold AOt
        rw [AJk]
        refine AIb (fun h=>AIe (AJn (by omega)) rfl ?_) fun h=>AHu trivial
        rw [AJj,AJj]
        exact AIb (fun h2=>absurd rfl h2) fun _=>AHu ⟨by omega,AIg (by omega) (by omega)⟩
      · cases ex with
        | inl e=>exact hex.elim
        | inr u=>exact AHu rfl
theorem At9 {fuel n:Nat} {F:Nat->Nat->Int} (hn:1<=n) (Ac:n<=16) (hb:∀ i j,i < n->j < n->(F i j).natAbs<=9223372036854775807) (hf:100 < fuel):AO0 fuel (tab n n F)=some (tab n n F,true):=by
 apply ok_eq;unfold AO0;refine AHt (AIx (Aij hn Ac hf).1) fun x hx=>?_;subst hx;dsimp only;refine AIb (fun h=>nomatch h) fun _=>AHt (Q:=(· =tab n n F)) (AJ9 (by omega) ?_) fun e he=>AHu (by rw [he]);rw [Int.toNat_natCast];refine AHt (AJa (fun i s=>s=(((i:Nat):Int),part n i F)/\i<=n) n (Q:=(· =tab n n F)) ⟨by rw [AS0 n F];rfl,Nat.zero_le _⟩ (by omega) fun i s hi hI=>?_) fun e he=>AHu he;obtain ⟨rfl,hin⟩:=hI;unfold AQ5;dsimp only;rw [List.length_replicate,Int.toNat_natCast];refine AIb (fun h=>AJ9 (by omega) (AIe (AWp (by omega)) rfl ?_)) (fun h=>AHu ?_)
 ·have hi':i < n:=by omega
  rw [AKd,ANy n (0:Int),AUi];refine AIe (AQ3 (by omega) hi') rfl ?_;rw [AJ6];refine AHt (AJa (fun j s=>s=(((j:Nat):Int),part n (i + 1) (AKb F i fun c=>if c < j then F i c else 0))/\j<=n) n (Q:=(· =part n (i + 1) F)) ⟨?_,Nat.zero_le _⟩ (by omega) fun j s hj hJ=>?_) fun e he=>AHu ⟨hi',?_,by omega⟩
  ·refine congrArg (fun z=>((0:Int),z)) ?_;unfold part;refine AI5 fun r hr=>?_;split
   ·exact AI5 fun c hc=>by rw [AI2,AI2];split <;> simp
   ·rfl
  ·obtain ⟨rfl,hjn⟩:=hJ;unfold AQ4;dsimp only;rw [AJj];refine AIb (fun h=>?_) (fun h=>AHu ?_)
   ·have hj':j < n:=by omega
    refine AIe (AQ3 (by omega) hi') rfl ?_;rw [AJ6];have:=hb i j hi' hj';refine AHt (Q:=(· =F i j)) (AIe (AJn hi') rfl (AIe (AIz hj') rfl (AHt (Q:=(· =F i j)) ⟨_,if_pos (by omega),rfl⟩ fun x hx=>AHu hx))) fun x hx=>?_;subst hx;refine AIe (AIz hj') rfl (AHu ⟨by omega,?_,by omega⟩);rw [AIg (by omega) (by omega),AKd,AKd,AMo,ASq (by omega),Aem];refine congrArg (fun z=>(((j + 1:Nat):Int),z)) ?_;congr 1;unfold AKb;funext r;split
    ·funext c;by_cases h1:c=j
     ·subst h1;rw [if_pos rfl,if_pos (by omega)]
     ·rw [if_neg h1];by_cases h2:c < j
      ·rw [if_pos h2,if_pos (by omega)]
      ·rw [if_neg h2,if_neg (by omega)]
    ·rfl
   ·obtain rfl:j=n:=by omega
    unfold part;refine AI5 fun r hr=>?_;split
    ·refine AI5 fun c hc=>?_;rw [AI2];split
     ·next h=>subst h;first | rfl | rw [if_pos hc]
     ·rfl
    ·rfl
  ·rw [he,AIg (by omega) (by omega)];rfl
 ·obtain rfl:i=n:=by omega
  exact ASz _ _
def Akd (d p e:Int):Prop:= ∃ (k:Nat) (r:Int),e=k/\d=r * p ^ k/\¬ p ∣ r
theorem Aua {d p a b:Int} (hp:2<=p) (ha:Akd d p a) (hb:Akd d p b):a=b:=by
 have key:∀ (k l:Nat) (r s:Int),k < l->r * p ^ k=s * p ^ l->p ∣ r:=fun k l r s hkl h=>by
   obtain ⟨m,rfl⟩:∃ m,l=k + 1 + m:=⟨l - k - 1,by omega⟩
   rw [Int.pow_add,Int.pow_add,Int.pow_one] at h
   have h1:p ^ k * r=p ^ k * (p * (s * p ^ m)):=by grind
   exact ⟨_,Int.eq_of_mul_eq_mul_left (Int.pow_ne_zero (by omega)) h1⟩
 obtain ⟨k,r,rfl,h1,h2⟩:=ha;obtain ⟨l,s,rfl,h3,h4⟩:=hb;rcases Nat.lt_trichotomy k l with h | h | h
 ·exact absurd (key k l r s h (by rw [<- h1,<- h3])) h2
 ·rw [h]
 ·exact absurd (key l k s r h (by rw [<- h1,<- h3])) h4
theorem AX7 {p r d:Int} {k:Nat} (hp:2<=p) (hr:0 < r) (hd:d<=10000) (h:d=r * p ^ k):k<=13:=by
 rcases Nat.lt_or_ge 13 k with h1 | h1
 ·exfalso;have h2:(2:Int) ^ 14<=2 ^ k:=AZ2 h1;have h3:(2:Int) ^ k<=p ^ k:=ARe (by omega) hp k;have h4:1 * p ^ k<=r * p ^ k:=Int.mul_le_mul_of_nonneg_right (by omega) (by omega);have h5:(2:Int) ^ 14=16384:=by decide
  omega
 ·exact h1
theorem Aw3 {fuel:Nat} {d p:Int} (Ac:1<=d) (hd:d<=10000) (hp:2<=p) (Ad:p<=9973) (hf:100 < fuel):Ok (AL8 fuel d p) (Akd d p):=by
 unfold AL8;refine AHt (AJa (fun i s=> ∃ r:Int,s=(r,(i:Int))/\0 < r/\d=r * p ^ i) 14 (Q:=Akd d p) ⟨d,rfl,by omega,by simp⟩ (by omega) fun i s hi hI=>?_) fun e he=>AHu he;obtain ⟨r,rfl,hr,hdr⟩:=hI;have Ae:=AX7 hp hr hd hdr
 have hrd:r<=d:=by
   have h1:r * 1<=r * p ^ i:=Int.mul_le_mul_of_nonneg_left (Int.pow_pos (by omega)) (by omega)
   omega
 unfold AOa;dsimp only;refine AHt (Q:=fun ex=>match ex with | .inl _=>p ∣ r | .inr _=> ¬ p ∣ r) (AIb (fun h=>AJ9 (by omega) (AIb (fun h2=>AHu ?_) fun h2=>AHu ?_)) fun h=>by omega) fun ex hex=>?_
 ·exact Int.dvd_of_tmod_eq_zero h2
 ·exact fun h3=>h2 (Int.tmod_eq_zero_of_dvd h3)
 ·cases ex with
  | inl u=>
    obtain ⟨q,rfl⟩:p ∣ r:=hex
    have hq:0 < q:=Int.pos_of_mul_pos_right hr (by omega)
    have hqr:1 * q<=p * q:=Int.mul_le_mul_of_nonneg_right (by omega) (by omega)
    refine AJ9 (by omega) (AHu ⟨by omega,q,?_,hq,by rw [hdr,Int.pow_succ];grind⟩)
    rw [Int.mul_tdiv_cancel_left _ (by omega),AIg (x:=q) (by omega) (by omega),AIg (by omega) (by omega)]
    rfl
  | inr u=>exact AHu ⟨i,r,rfl,hdr,hex⟩
def pwL (p:Int) (m:Nat):List Int:=ALa m fun i=>p ^ (2 ^ i)
theorem Ars {fuel:Nat} {a b:Int} (ha:a.natAbs < 18446744073709551616) (hb:b.natAbs < 18446744073709551616) (h0:b≠0):AXn fuel a b=some (a / b,a % b,true):=if_pos ⟨ha,hb,h0⟩
theorem Aw4 {fuel:Nat} {d p:Int} (Am:1<=d) (hd:d<=10000) (hp:Pr p) (Ag:p<=9973) (hf:100 < fuel):Ok (AO1 fuel d p) fun r=>Akd d p r.1:=by
 have Ae:2<=p:=hp.1;have pw:∀ k:Nat,0 < p ^ k:=fun k=>Int.pow_pos (by omega);unfold AO1;refine AHt (AIx (a:=AOc p) rfl) fun b hb=>?_;rw [<- AY9 (by omega) hp] at hb;subst hb;refine AIb (fun h=>nomatch h) fun _=>AHt (AIx (a:=AMa d) rfl) fun s hs=>?_;subst hs;refine AIb (fun h=>absurd ((ATo d).1 h) (by omega)) fun _=>AHt (AIx (a:=d) rfl) fun x hx=>AHt (Q:=(· =p)) ⟨p,if_pos (by omega),rfl⟩ fun y hy=>?_;subst hx;subst hy;refine AHt (AJa (fun j s=> ∃ r:Int,s=(pwL y (j + 1),r,((2 ^ j - 1:Nat):Int))/\0 < r/\x=r * y ^ (2 ^ j - 1)) 5 (Q:=fun e=> ∃ (j:Nat) (r:Int),e=(pwL y (j + 1),r,((2 ^ j - 1:Nat):Int))/\0 < r/\x=r * y ^ (2 ^ j - 1)/\¬ y ^ (2 ^ j) ∣ r/\j<=4) ⟨x,?_,by omega,by simp⟩ (by omega) fun j s hj hI=>?_) fun e he=>?_
 ·refine congrArg (fun l=>(l,x,(0:Int))) ?_;show [y]=[y ^ 1];rw [Int.pow_one]
 ·obtain ⟨r,rfl,hr,hxr⟩:=hI;have Ao:=AX7 Ae hr hd hxr
  have Af:j<=3:=by
    rcases Nat.lt_or_ge 3 j with h | h
    · exfalso
      have:=Nat.pow_le_pow_right (show 0 < 2 by omega) h
      omega
    · exact h
  have hrx:r<=x:=by
    have h1:r * 1<=r * y ^ (2 ^ j - 1):=Int.mul_le_mul_of_nonneg_left (pw _) (by omega)
    omega
  have hjp:1<=2 ^ j:=Nat.one_le_two_pow
  have Ap:2 ^ j<=8:=by
    have:=Nat.pow_le_pow_right (show 0 < 2 by omega) Af
    omega
  have hyb:y ^ (2 ^ j)<=10000 * 9973:=by
    have e1:y ^ (2 ^ j)=y ^ (2 ^ j - 1) * y:=by rw [<- Int.pow_succ];congr 1;omega
    have h2:1 * y ^ (2 ^ j - 1)<=r * y ^ (2 ^ j - 1):=Int.mul_le_mul_of_nonneg_right (by omega) (Int.le_of_lt (pw _))
    rw [e1]
    exact Int.mul_le_mul (by omega) Ag (by omega) (by omega)
  have Ad:=pw (2 ^ j);unfold AQ7;dsimp only;have hl:(pwL y (j + 1)).length=j + 1:=AJj _ _;rw [hl,AIg (x:=((j + 1:Nat):Int) - 1) (by omega) (by omega)];refine AIe (n:=j) (AIz (by omega)) (by omega) (AJ9 (by omega) ?_);rw [show (((j + 1:Nat):Int) - 1).toNat=j by omega,show (1:Int) * 2 ^ j=((2 ^ j:Nat):Int) by simp,AIg (x:=((2 ^ j:Nat):Int)) (by omega) (by omega)];refine AHt (Q:=fun e:Bool × Int × Int=>if y ^ (2 ^ j) ∣ r then e=(true,r / y ^ (2 ^ j),((2 ^ (j + 1) - 1:Nat):Int)) else e=(false,r,((2 ^ j - 1:Nat):Int))) (AHt (AIx (Ars (fuel:=fuel) (a:=r) (b:=y ^ (2 ^ j)) (by omega) (by omega) (by omega))) fun q hq=>AHt (AIx (a:=AMa q.2.1) rfl) fun s hs=>?_) fun e he=>?_
  ·subst hq;subst hs;dsimp only;refine AIb (fun h=>AHu ?_) fun h=>AHu ?_
   ·have hnd: ¬ y ^ (2 ^ j) ∣ r:=fun h2=>h ((ATo _).2 (Int.emod_eq_zero_of_dvd h2));rw [if_neg hnd]
   ·have hdv:y ^ (2 ^ j) ∣ r:=Int.dvd_of_emod_eq_zero ((ATo _).1 (Classical.not_not.1 h));rw [if_pos hdv,AIg (by omega) (by omega),Nat.pow_succ];refine congrArg (fun z=>(true,r / y ^ (2 ^ j),z)) ?_;omega
  ·by_cases hdv:y ^ (2 ^ j) ∣ r
   ·rw [if_pos hdv] at he;subst he;dsimp only;refine AIb (fun _=>?_) fun h=>absurd rfl h;obtain ⟨q,rfl⟩:=hdv;have Ah:0 < q:=Int.pos_of_mul_pos_right hr Ad;have hqm:y ^ (2 ^ j) * 1<=y ^ (2 ^ j) * q:=Int.mul_le_mul_of_nonneg_left (by omega) (by omega);have hB:10000 * 10000 < AL1:=by decide
    have m1:(y ^ (2 ^ j)).natAbs * (y ^ (2 ^ j)).natAbs<=10000 * 10000:=Nat.mul_le_mul (by omega) (by omega);refine AHt (AIx (a:=y ^ (2 ^ j) * y ^ (2 ^ j)) (if_pos (by omega))) fun z hz=>AJ9 (by omega) (AHu ⟨by omega,q,?_,Ah,?_⟩)
    ·subst hz;rw [Int.mul_ediv_cancel_left _ (by omega)];refine congrArg (fun l=>(l,q,((2 ^ (j + 1) - 1:Nat):Int))) ?_;have e1:y ^ (2 ^ j) * y ^ (2 ^ j)=y ^ (2 ^ (j + 1)):=by rw [<- Int.pow_add,Nat.pow_succ];congr 1;omega
     rw [e1];exact ARd (j + 1) fun i=>y ^ (2 ^ i)
    ·rw [hxr];have e1:y ^ (2 ^ (j + 1) - 1)=y ^ (2 ^ j) * y ^ (2 ^ j - 1):=by rw [<- Int.pow_add,Nat.pow_succ];congr 1;omega
     rw [e1];grind
   ·rw [if_neg hdv] at he;subst he;exact AIb (fun h=>nomatch h) fun _=>AHu ⟨j,r,rfl,hr,hxr,hdv,by omega⟩
 ·obtain ⟨j,r,rfl,hr,hxr,hnd,Af⟩:=he;dsimp only
  have hY:∀ q,q < j->y ^ (2 ^ q)<=10000:=fun q hq=>by
    have h0:=Nat.pow_le_pow_right (show 0 < 2 by omega) (show q + 1<=j by omega)
    have h1:=Nat.one_le_two_pow (n:=q)
    rw [Nat.pow_succ] at h0
    have e1:y ^ (2 ^ j - 1)=y ^ (2 ^ q) * y ^ (2 ^ j - 1 - 2 ^ q):=by rw [<- Int.pow_add];congr 1;omega
    have h2:y ^ (2 ^ q) * 1<=y ^ (2 ^ q) * y ^ (2 ^ j - 1 - 2 ^ q):=Int.mul_le_mul_of_nonneg_left (pw _) (Int.le_of_lt (pw _))
    have h3:1 * y ^ (2 ^ j - 1)<=r * y ^ (2 ^ j - 1):=Int.mul_le_mul_of_nonneg_right (by omega) (Int.le_of_lt (pw _))
    omega
  have hl:(pwL y (j + 1)).length=j + 1:=AJj _ _;rw [hl,AIg (x:=((j + 1:Nat):Int) - 2) (by omega) (by omega)];refine AHt (AJa (fun i s=> ∃ (r:Int) (k:Nat),s=((j:Int) - 1 - i,r,(k:Int))/\i<=j/\0 < r/\x=r * y ^ k/\¬ y ^ (2 ^ (j - i)) ∣ r) j (Q:=fun e=> ∃ (r:Int) (k:Nat),e=(r,(k:Int))/\x=r * y ^ k/\¬ y ∣ r) ⟨r,2 ^ j - 1,by refine congrArg (fun z=>(z,r,((2 ^ j - 1:Nat):Int))) ?_;omega,by omega,hr,hxr,by rw [Nat.sub_zero];exact hnd⟩ (by omega) fun i s hi hI=>?_) fun e he=>?_
  ·obtain ⟨r,k,rfl,hij,hr,hxr,hnd⟩:=hI;have Au:=AX7 Ae hr hd hxr
   have hrx:r<=x:=by
     have h1:r * 1<=r * y ^ k:=Int.mul_le_mul_of_nonneg_left (pw _) (by omega)
     omega
   unfold AQ6;dsimp only;refine AIb (fun h=>?_) (fun h=>AHu ⟨r,k,rfl,hxr,?_⟩)
   ·obtain ⟨q,hq⟩:∃ q:Nat,(j:Int) - 1 - i=q:=⟨j - 1 - i,by omega⟩;rw [hq];have hqj:q < j + 1:=by omega
    have Aj:q<=3:=by omega
    have Av:1<=2 ^ q:=Nat.one_le_two_pow;have Aw:2 ^ q<=8:=by have:=Nat.pow_le_pow_right (show 0 < 2 by omega) Aj;omega
    have hyb:=hY q (by omega);have Ad:=pw (2 ^ q);have hsmall:y ^ (2 ^ q) ∣ r->y ^ (2 ^ q)<=r:=fun h=>Int.le_of_dvd hr h;refine AIe (n:=q) (AIz hqj) rfl (AJ9 (by omega) ?_);rw [Int.toNat_natCast,show (1:Int) * 2 ^ q=((2 ^ q:Nat):Int) by simp,AIg (x:=((2 ^ q:Nat):Int)) (by omega) (by omega)];refine AHt (Q:=fun e:Bool × Int × Int=>if y ^ (2 ^ q) ∣ r then e=(true,r / y ^ (2 ^ q),((k + 2 ^ q:Nat):Int)) else e=(false,r,(k:Int))) (AHt (AIx (Ars (fuel:=fuel) (a:=r) (b:=y ^ (2 ^ q)) (by omega) (by omega) (by omega))) fun t ht=>AHt (AIx (a:=AMa t.2.1) rfl) fun s hs=>?_) fun e he=>?_
    ·subst ht;subst hs;dsimp only;refine AIb (fun h=>AHu ?_) fun h=>AHu ?_
     ·have hnd: ¬ y ^ (2 ^ q) ∣ r:=fun h2=>h ((ATo _).2 (Int.emod_eq_zero_of_dvd h2));rw [if_neg hnd]
     ·have hdv:y ^ (2 ^ q) ∣ r:=Int.dvd_of_emod_eq_zero ((ATo _).1 (Classical.not_not.1 h));rw [if_pos hdv,AIg (by omega) (by omega)];refine congrArg (fun z=>(true,r / y ^ (2 ^ q),z)) ?_;omega
    ·rw [AIg (x:=(q:Int) - 1) (by omega) (by omega)];by_cases hdv:y ^ (2 ^ q) ∣ r
     ·rw [if_pos hdv] at he;subst he;obtain ⟨w,rfl⟩:=hdv;have Ak:0 < w:=Int.pos_of_mul_pos_right hr Ad;refine AHu ⟨by omega,w,k + 2 ^ q,?_,by omega,Ak,?_,?_⟩
      ·rw [Int.mul_ediv_cancel_left _ (by omega)];refine congrArg (fun z=>(z,w,((k + 2 ^ q:Nat):Int))) ?_;omega
      ·rw [hxr,Int.pow_add];grind
      ·rw [show j - (i + 1)=q by omega];rintro ⟨u,rfl⟩;refine hnd ⟨u,?_⟩;rw [show j - i=q + 1 by omega,Nat.pow_succ,Nat.mul_two,Int.pow_add];grind
     ·rw [if_neg hdv] at he;subst he;refine AHu ⟨by omega,r,k,?_,by omega,hr,hxr,by rw [show j - (i + 1)=q by omega];exact hdv⟩;refine congrArg (fun z=>(z,r,(k:Int))) ?_;omega
   ·have:j - i=0:=by omega
    rw [this,Nat.pow_zero,Int.pow_one] at hnd;exact hnd
  ·obtain ⟨r,k,rfl,h1,h2⟩:=he;exact AHu ⟨k,r,rfl,h1,h2⟩
theorem Aik {M:List (List Int)} (R:Agc M):M=tab M.length M.length (ent M):=Afb R.2.1
theorem Art {n:Nat} {A:Nat->Nat->Int} (hn:n<=8) (R:Ad2 n A):Aj1 (tab n n A):=Ah6 (B:=192000) (by decide) fun i j hi hj=>by have:=AZ4 hn R hi hj;omega
theorem Ail {M:List (List Int)} (R:Agc M):1<=det M.length (ent M)/\det M.length (ent M)<=10000:=⟨by have:=R.2.2.pos _ (Nat.le_refl _);omega,R.2.2.dt⟩
theorem Al7 {M:List (List Int)} (R:Agc M) {i j:Nat} (hi:i < M.length) (hj:j < M.length):(ent M i j).natAbs<=192000:=by have:=AZ4 R.1.2 R.2.2 hi hj;omega
theorem Ann {fuel:Nat} {M:List (List Int)} (R:Agc M) (hf:100 < fuel):AN0 fuel M=some (det M.length (ent M)):=by
 apply ok_eq;obtain ⟨v1,v2⟩:=Ail R;have hT:=Aik R;have h1:=R.1;unfold AN0;generalize hF:ent M=F at *;generalize hL:M.length=n at *;have hb:∀ i j,i < n->j < n->(F i j).natAbs<=192000:=fun i j hi hj=>by subst hF;subst hL;exact Al7 R hi hj
 rw [hT];refine AHt (AIx (Ajy h1.1 (by omega) (fun i j hi hj=>Nat.le_trans (hb i j hi hj) (by decide)) (by omega))) fun x hx=>?_;subst hx;refine AHt (AIx (AZx h1.2 (fun i j hi hj=>Nat.le_trans (hb i j hi hj) (by decide)) (by omega))) fun y hy=>?_;subst hy;refine AHt (AIx (a:=(det n F,true)) (if_pos (by omega))) fun z hz=>AHu ?_;rw [hz]
theorem Aw5 {d p v:Int} (Ab:1<=d) (hd:d<=10000) (hp:2<=p) (h:Akd d p v):0<=v/\v<=13:=by
 obtain ⟨k,r,rfl,h1,h2⟩:=h
 have hr:0 < r:=by
   have hpk:0 < p ^ k:=Int.pow_pos (by omega)
   rcases Int.lt_or_le 0 r with h | h
   · exact h
   · have:=Int.mul_nonpos_of_nonpos_of_nonneg h (Int.le_of_lt hpk);omega
 have:=AX7 hp hr hd h1;omega
theorem Ano {fuel:Nat} {M:List (List Int)} {p:Int} (R:Agc M) (hp:Pr p) (hp2:p<=9973) (hf:100 < fuel):∃ v,Akd (det M.length (ent M)) p v/\(0<=v/\v<=13)/\AM5 fuel M p=some (if p=2 then v + 3 else v + 1)/\AMq fuel M p=some (if p=2 then v + 3 else v + 1):=by
  obtain ⟨v1,v2⟩:=Ail R;obtain ⟨⟨v,r0,e0⟩,hv1,hv⟩:=Aw4 v1 v2 hp hp2 hf;dsimp only at hv;have hvb:=Aw5 v1 v2 hp.1 hv
  refine ⟨v,hv,hvb,?_,?_⟩
  · apply ok_eq;have hT:=Aik R;have h1:=R.1;have RF:=R.2.2;unfold AM5;generalize hF:ent M=F at *
    generalize hL:M.length=n at *
    have hb:∀ i j,i < n->j < n->(F i j).natAbs<=192000:=fun i j hi hj=>by subst hF;subst hL;exact Al7 R hi hj
    rw [hT];refine AHt (AIx (At9 h1.1 (by omega) (fun i j hi hj=>Nat.le_trans (hb i j hi hj) (by decide)) hf)) fun x hx=>?_;subst hx;dsimp only
    refine AHt (Q:=(· =(det n F,true))) ?_ fun y hy=>?_
    · unfold ATp;refine AHt (AIx (Aij h1.1 (by omega) hf).2) fun x hx=>?_;subst hx;dsimp only;exact AIb (fun h=>nomatch h) fun _=>AIb (fun h=>absurd rfl h) fun _=>AHt (AIx (Aw2 h1.1 h1.2 RF hf)) fun z hz=>AHu (by rw [hz])
    · subst hy;dsimp only;refine AHt (AIx hv1) fun z hz=>?_;subst hz;dsimp only
      refine AIb (fun h=>AHu ?_) fun h=>AHu ?_
      · rw [if_pos h,AIg (by omega) (by omega)]
      · rw [if_neg h,AIg (by omega) (by omega)]
  · apply ok_eq;unfold AMq;refine AHt (AIx (Ann R hf)) fun d hd=>?_;subst hd;refine AHt (Aw3 v1 v2 hp.1 hp2 hf) fun w hw=>?_;obtain rfl:=Aua hp.1 hv hw
    refine AIb (fun h=>AHu ?_) fun h=>AHu ?_
    · rw [if_pos h,AIg (by omega) (by omega)]
    · rw [if_neg h,AIg (by omega) (by omega)]
theorem Adu (p:Int):AMv p=true↔p=2∨Aa5 p=true:=by
 simp only [AMv,Aa5,decide_eq_true_iff];constructor
 ·rintro ⟨h1,h2⟩;have:=h2.1;by_cases e:p=2
  ·exact .inl e
  ·exact .inr ⟨by omega,h1,h2⟩
 ·rintro (rfl | ⟨h1,h2,h3⟩)
  ·exact ⟨by omega,⟨by omega,fun d h1 h2=>by omega⟩⟩
  ·exact ⟨h2,h3⟩
theorem Anp {fuel:Nat} {M:List (List Int)} {p:Int} (hM:Aj1 M) (hf:100 < fuel):∃ r,AM6 fuel M p=some r/\AKy fuel M p=some r:=by
  by_cases hR:isRed M=true
  · have R:=(Ae0 M).1 hR
    by_cases hp:AMv p=true
    · have hp':p<=9973/\Pr p:=by simpa [AMv] using hp
      obtain ⟨v,-,-,h1,h2⟩:=Ano R hp'.2 hp'.1 hf
      refine ⟨(if p=2 then v + 3 else v + 1,0),ok_eq (AHt (Q:=(· =true)) ⟨isRed M,rfl,hR⟩ fun b hb=>?_),ok_eq (AHt (Q:=(· =true)) ⟨isRed M,AY2 hM hf,hR⟩ fun b hb=>?_)⟩
      · subst hb;refine AIb (fun h=>nomatch h) fun _=>AIb (fun h=>AHt (Q:=(· =true)) ⟨Aa5 p,rfl,((Adu p).1 hp).resolve_left h⟩ fun b hb=>?_) fun h=>AHt (AIx h1) fun x hx=>AHu (by rw [hx]);subst hb;exact AIb (fun h=>nomatch h) fun _=>AHt (AIx h1) fun x hx=>AHu (by rw [hx])
      · subst hb;refine AIb (fun h=>nomatch h) fun _=>AHt (Q:=(· =true)) ⟨AMv p,rfl,hp⟩ fun b hb=>?_;subst hb;exact AIb (fun h=>nomatch h) fun _=>AHt (AIx h2) fun x hx=>AHu (by rw [hx])
    · have hn: ¬ p=2/\Aa5 p=false:=by
        have:=mt (Adu p).2 hp;exact ⟨fun h=>this (.inl h),by cases h:Aa5 p;rfl;exact absurd (.inr h) this⟩
      have hs:AMv p=false:=by cases h:AMv p;rfl;exact absurd h hp
      refine ⟨(0,20),ok_eq (AHt (Q:=(· =true)) ⟨isRed M,rfl,hR⟩ fun b hb=>?_),ok_eq (AHt (Q:=(· =true)) ⟨isRed M,AY2 hM hf,hR⟩ fun b hb=>?_)⟩
      · subst hb;refine AIb (fun h=>nomatch h) fun _=>AIb (fun h=>AHt (Q:=(· =false)) ⟨Aa5 p,rfl,hn.2⟩ fun b hb=>?_) fun h=>absurd hn.1 h;subst hb;exact AIb (fun _=>AHu rfl) fun h=>absurd rfl h
      · subst hb;refine AIb (fun h=>nomatch h) fun _=>AHt (Q:=(· =false)) ⟨AMv p,rfl,hs⟩ fun b hb=>?_;subst hb;exact AIb (fun _=>AHu rfl) fun h=>absurd rfl h
  · have hR':isRed M=false:=by cases h:isRed M;rfl;exact absurd h hR
    refine ⟨(0,6),ok_eq (AHt (Q:=(· =false)) ⟨isRed M,rfl,hR'⟩ fun b hb=>?_),ok_eq (AHt (Q:=(· =false)) ⟨isRed M,AY2 hM hf,hR'⟩ fun b hb=>?_)⟩ <;>
    · subst hb;exact AIb (fun _=>AHu rfl) fun h=>absurd rfl h
theorem Anq {fuel:Nat} {M:List (List Int)} (hf:100 < fuel):Ok (AMy fuel M) fun r=>r=false->M.length<=12/\ ∀ z∈M,z.length<=12:=by
 unfold AMy;refine AIb (fun _=>AHu fun h=>nomatch h) fun h=>AHt (AJa (fun i s=>s=((i:Nat):Int)/\i<=M.length/\ ∀ j z,j < i->M[j]? =some z->z.length<=12) M.length (Q:=fun ex=>match ex with | .inl e=>e=true | .inr _=>M.length<=12/\ ∀ z∈M,z.length<=12) ⟨rfl,Nat.zero_le _,fun j z hj=>by omega⟩ (by omega) fun i s hi hI=>?_) fun ex hex=>?_
 ·obtain ⟨rfl,him,hz⟩:=hI;unfold APb;refine AIb (fun h2=>?_) fun h2=>AHu ⟨by omega,fun z hzm=>?_⟩
  ·have hi':i < M.length:=by omega
   refine AIe (List.getElem?_eq_getElem hi') rfl (AIb (fun _=>AHu rfl) fun h3=>AHu ⟨hi',by rw [AIg (by omega) (by omega)];rfl,by omega,fun j z hj hjz=>?_⟩);rcases Nat.lt_or_ge j i with h4 | h4
   ·exact hz j z h4 hjz
   ·obtain rfl:j=i:=by omega
    rw [List.getElem?_eq_getElem hi'] at hjz;cases hjz;omega
  ·obtain ⟨j,hj⟩:=List.getElem?_of_mem hzm;have:=(List.getElem?_eq_some_iff.1 hj).1;exact hz j z (by omega) hj
 ·cases ex with
  | inl e=>exact AHu fun h=>by rw [hex] at h;cases h
  | inr u=>exact AHu fun _=>hex
theorem Akh (a:Int) (m:Nat) (ha:0<=a) (hm:0 < m):∃ q:Nat,Int.tmod a (m:Int)=q/\q < m:=by
 rw [Int.tmod_eq_emod_of_nonneg ha];have h1:=Int.emod_nonneg a (show (m:Int)≠0 by omega);have h2:=Int.emod_lt_of_pos a (show (0:Int) < m by omega);exact ⟨(a % m).toNat,by omega,by omega⟩
theorem Anr {fuel:Nat} {k raw:Int} {wild:Bool} (hk:0<=k/\k < 256):Ok (AK9 fuel k raw wild) fun _=>True:=by
 unfold AK9;refine AIb (fun _=>AHu trivial) fun _=>AHt (Q:=fun _=>True) ?_ fun _ _=>AHu trivial;unfold AOl;refine AJ9 (by decide) ?_;obtain ⟨q,h1,h2⟩:=Akh (w64 k) 20 (by rw [AIg (by omega) (by omega)];exact hk.1) (by decide);exact AIe (n:=q) (List.getElem?_eq_getElem (by exact h2)) h1 (AHu trivial)
theorem AXt {g kd k raw:Int} {Z Y:List Int} {M:List (List Int)} {wild made:Bool} (hg:0<=g/\g < 256) (hk:0<=k/\k < 256) (hM:Aj1 M):ALk (AL1 + 1) g kd Z Y M k raw wild made=some true:=by
 have hf:AL1 < AL1 + 1:=Nat.lt_succ_self _;have Aa:100 < AL1 + 1:=Nat.lt_of_le_of_lt (by decide) hf;apply ok_eq;unfold ALk;refine AHt (Anq Aa) fun l hl=>AIb (fun _=>AHt (AIx (a:=true) rfl) fun x hx=>AHu hx) fun _=>?_
 have key:∀ M:List (List Int),Aj1 M->Ok ((AK9 (AL1 + 1) k raw wild).bind fun Ab=>((AM6 (AL1 + 1) M Ab).bind fun (Ae,Af)=>((AKy (AL1 + 1) M Ab).bind fun (Ag,Ah)=>(if Ae=Ag then (if Af=Ah then ((AXr (AL1 + 1)).bind fun Ai=>(some Ai)) else (some false)) else (some false))))) (· =true):=fun M hM=>by
   refine AHt (Anr hk) fun p _=>?_
   obtain ⟨⟨a,b⟩,h1,h2⟩:=Anp (p:=p) hM Aa
   refine AHt (AIx h1) fun x hx=>?_
   subst hx
   dsimp only
   refine AHt (AIx h2) fun x hx=>?_
   subst hx
   dsimp only
   exact AIb (fun _=>AIb (fun _=>AHt (AIx (a:=true) rfl) fun x hx=>AHu hx) fun h=>absurd rfl h) fun h=>absurd rfl h
 refine AIb (fun _=>AHt (Awh hg (by decide) hf) fun h hh=>?_) fun _=>key M hM;obtain ⟨n,A,rfl,h1,h2,R,-⟩:=hh;exact key _ (Art (by omega) R)
end Go.Proofs.YtmmckalinicpaaaGreatDoor
