/-
  Texts of a proof, joined. Conditions stand in each statement.
-/
import Derived.Test.YtkakafabeobahaaGreatDoorMDyadicVerifies5
set_option linter.unusedVariables false
set_option linter.unusedSimpArgs false
open Go
variable {a8:(List Go.QF.Ak8)} {r:Bool} {h h0:Go.QF.AO2} {a1 a2 a5 a p:Int} {M T:List (List Int)} {Gs:List (List Nat)} {F:List Nat} {rs:List Value} {fuel k i t er el:Nat} {α:Type} {v:Value}
namespace Go.Proofs.YtkakafabeobahaaGreatDoor
open Go Go.QF
set_option maxRecDepth 100000
set_option maxHeartbeats 40000000
def Aoi (fuel:Nat) (a1 a2 a3 a4 a5:Int):Option Bool:=
 if a2=1 then if A0z .and .i64 a3 1=1 then if a4=0 then some (decide (a5=0)) else some false else some false else if a2=2 then if A0z .and .i64 a3 1=0 then if A0z .and .i64 a4 1=1 then some (decide (A0z .and .i64 a5 1=0)) else some false else some false else some false
theorem Awr {a3 a4:Int} (hp:Aoi fuel a1 a2 a3 a4 a5=some r):Ahs Tryz.prog 64 #[(.agg #[(.int .i64 a1),(.int .i64 a2),(.int .i64 a3),(.int .i64 a4),(.int .i64 a5)])] h (λx h'=>Ext h h'/\x= .bool r):=by
 unfold Aoi at hp;refine cwf (l:=[_]) Tryz.func64 rfl rfl (AOv<|Ano (Kst.k0 h) [(.int .i64 a1),(.int .i64 a2),(.int .i64 a3),(.int .i64 a4),(.int .i64 a5)] λb6 h7 E9 Aa=>AO1<|AOx<|AOv<|Ai6 Ar7 Aii (Aa.b p0) 1 rfl (AOz<|AO0<|AOv<|Ai0 rfl rfl (AO1 ?_)));refine ⟨_,rfl,λAk=>?_,λAk=>?_⟩
 ·refine AOv<|Ai6 Ar8 AO9 (Aa.b p0) 2 rfl (A3s rfl rfl AOs (Ai0 rfl rfl (AOr ?_)));have Ao:=Ahy hp Ak;by_cases Ad:(A0z .and .i64 a3 1)=1
  ·have Ap:=ifT Ao Ad;rw [decide_eq_true Ad];refine Ahb 11 true<|Ah2 Ate rfl (Ahb 11 true<|Ahu AO9 rfl ((Aa.b p0).cell (i:=3) rfl) (Ahb 11 true<|Ai0 rfl rfl (Ahc rfl (AOr ?_))));by_cases Ae:a4=0
   ·rw [decide_eq_true Ae];refine Ahb 16 true<|Ah2 Avn rfl (Ahb 16 true<|Ahu AO9 rfl ((Aa.b p0).cell (i:=4) rfl) (Ahb 16 true<|Ai0 rfl rfl (Ahc rfl (AO1<|AO6<|Ail<|Ag7 ?_))));obtain rfl:=AOu<|ifT Ap Ae;exact ⟨_,AO7,Aa.x,rfl⟩
   ·rw [decide_eq_false Ae];refine Aki 16 false<|APd rfl (AO1<|AO6<|Ail<|Ag7 ?_);obtain rfl:=AOu<|ifF Ap Ae;exact ⟨_,AO7,Aa.x,rfl⟩
  ·rw [decide_eq_false Ad];refine Aki 11 false<|APd rfl (AOr<|Aki 16 false<|APd rfl (AO1<|AO6<|Ail<|Ag7 ?_));obtain rfl:=AOu<|ifF Ao Ad;exact ⟨_,AO7,Aa.x,rfl⟩
 ·refine AOv<|Ai0 rfl rfl (AO1 ?_);have Aq:=Ahz hp Ak;refine ⟨_,rfl,λAm=>?_,λAm=>?_⟩
  ·refine AOv<|Ai6 Ar8 AO9 (Aa.b p0) 2 rfl (A3s rfl rfl AOs (Ai0 rfl rfl (AOr ?_)));have Ar:=Ahy Aq Am;by_cases Af:(A0z .and .i64 a3 1)=0
   ·have Au:=ifT Ar Af;rw [decide_eq_true Af];refine Ahb 27 true<|Ah2 Ate rfl (Ahb 27 true<|Ahu AO9 rfl ((Aa.b p0).cell (i:=3) rfl) (Ahb 27 true<|A3s rfl rfl AOs (Ahb 27 true<|Ai0 rfl rfl (Ahc rfl (AOr ?_)))));by_cases Ag:(A0z .and .i64 a4 1)=1
    ·rw [decide_eq_true Ag];refine Ahb 33 true<|Ah2 Avn rfl (Ahb 33 true<|Ahu AO9 rfl ((Aa.b p0).cell (i:=4) rfl) (Ahb 33 true<|A3s rfl rfl AOs (Ahb 33 true<|Ai0 rfl rfl (Ahc rfl (AO1<|AO6<|Ail<|Ag7 ?_)))));obtain rfl:=AOu<|ifT Au Ag;exact ⟨_,AO7,Aa.x,rfl⟩
    ·rw [decide_eq_false Ag];refine Alf 33 false<|APd rfl (AO1<|AO6<|Ail<|Ag7 ?_);obtain rfl:=AOu<|ifF Au Ag;exact ⟨_,AO7,Aa.x,rfl⟩
   ·rw [decide_eq_false Af];refine Alf 27 false<|APd rfl (AOr<|Alf 33 false<|APd rfl (AO1<|AO6<|Ail<|Ag7 ?_));obtain rfl:=AOu<|ifF Ar Af;exact ⟨_,AO7,Aa.x,rfl⟩
  ·refine AO5<|q_b<|q_t<|AOv<|AO1<|AO6 ?_;obtain rfl:=AOu<|Ahz Aq Am;exact ⟨_,AO7,Aa.x,rfl⟩
def Avl (fuel:Nat) (a8:List Ak8) (Ae:List Att) (Am Ad:Int):Option ((List Att × Int × Int) ⊕ ((List Att × Bool) ⊕ List Att)):=
 if Ad < (a8.length:Int) then (gI a8 Ad).bind λAa=>((if Aa.1 < 0 then some (.inl ([],false)) else if 60 < Aa.1 then some (.inl ([],false)) else (Aoi fuel Aa.1 Aa.2.1 Aa.2.2.1 Aa.2.2.2.1 Aa.2.2.2.2).bind λAq=>if (!Aq)=true then some (.inl ([],false)) else if 0 < Ad then (gI a8<|w64<|Ad - 1).bind λAr=>if Aa.1 < Ar.1 then some (.inl ([],false)) else some (.inr ()) else some<|.inr ()):Option ((List Att × Bool) ⊕ Unit)).bind (λex=>match ex with | .inl Au=>(some<|.inr<|.inl Au) | .inr _=>if 8 < w64 (Am + Aa.2.1) then some (.inr<|.inl ([],false)) else ((if Ad=0 then if Ae.length<=100000000 then some (Ae ++ [(Aa.1,0,1,false,0)]) else none else (gI a8<|w64<|Ad - 1).bind λAv=>if Av.1 < Aa.1 then if Ae.length<=100000000 then some (Ae ++ [(Aa.1,0,1,false,0)]) else none else some Ae):Option (List Att)).bind (λ(Ab:(List Att))=>(gI Ab<|w64<|(Ab.length:Int) - 1).bind λAx=>((((if Aa.2.1=1 then (gI Ab<|w64<|(Ab.length:Int) - 1).bind λAc=>(gI (sI Ab (w64<|(Ab.length:Int) - 1) (Ac.1,Ac.2.1,Ac.2.2.1,true,Ac.2.2.2.2))<|w64<|(Ab.length:Int) - 1).bind λAf=>some (Aa.2.2.1,sI (sI Ab (w64<|(Ab.length:Int) - 1) (Ac.1,Ac.2.1,Ac.2.2.1,true,Ac.2.2.2.2)) (w64<|(Ab.length:Int) - 1) (Af.1,Af.2.1,Af.2.2.1,Af.2.2.2.1,A0z .and .i64 (w64<|Af.2.2.2.2 + A0z .and .i64 Aa.2.2.1 7) 7)) else some (w64<|w64 (Aa.2.2.1 * Aa.2.2.2.2) - w64 (Aa.2.2.2.1 * Aa.2.2.2.1),Ab)):Option (Int × List Att)).bind (λ((Ao,Ag):Int × List Att)=>((if A0z .and .i64 Ao 7=3 then (gI Ag<|w64<|(Ab.length:Int) - 1).bind λAh=>some (sI Ag (w64<|(Ab.length:Int) - 1) (Ah.1,Ah.2.1,w64<|0 - Ah.2.2.1,Ah.2.2.2.1,Ah.2.2.2.2)) else if A0z .and .i64 Ao 7=5 then (gI Ag<|w64<|(Ab.length:Int) - 1).bind λAi=>some (sI Ag (w64<|(Ab.length:Int) - 1) (Ai.1,Ai.2.1,w64<|0 - Ai.2.2.1,Ai.2.2.2.1,Ai.2.2.2.2)) else some Ag):Option (List Att)).bind (λ(Ap:(List Att))=>(gI Ap<|w64<|(Ab.length:Int) - 1).bind λAj=>some<|sI Ap (w64<|(Ab.length:Int) - 1) (Aj.1,w64<|Aj.2.1 + Aa.2.1,Aj.2.2.1,Aj.2.2.2.1,Aj.2.2.2.2)))):Option (List Att)).bind λAw=>some<|.inl (Aw,w64<|Am + Aa.2.1,w64<|Ad + 1))) else some<|.inr<|.inr Ae
def Aqr (fuel:Nat) (a1:Int) (a4:LiI) (a8:List Ak8):Option ((List Att) × Bool):=
 ((if ¬ a1=2 then some (.inl ([],false)) else if (a8.length:Int) < 1 then some (.inl ([],false)) else some<|.inr ()):Option ((List Att × Bool) ⊕ Unit)).bind (λex=>match ex with | .inl Ac=>(some Ac) | .inr _=>(iter (λs=>Avl fuel a8 s.1 s.2.1 s.2.2) fuel ([],0,0)).bind (λex=>match ex with | .inl Ad=>(some Ad) | .inr Ae=>some (Ae,true)))
theorem Avm {A9:Value} {a4:LiI} {Ba:Value} {r:((List Att) × Bool)} (H3:Ajw (cI .i64) h A9 a4) (H7:SlC Arc h Ba a8) (hp:Aqr fuel a1 a4 a8=some r):Ahs Tryz.prog 27 #[(.agg #[(.int .i64 a1),A9,Ba])] h (λx h'=>Ext h h'/\ ∃ (x0:Value) (F0:List Nat),x= .tuple #[x0,.bool r.2]/\OwC Awh 49 h' F0 x0 r.1/\Sp h' h.size [F0]):=by
 unfold Aqr at hp;refine cwf (l:=[_]) Tryz.func27 rfl rfl (AOv<|Ano (Kst.k0 h) [(.int .i64 a1),A9,Ba] λFc Fd Fe Ap=>Aho<|AO1 ?_);obtain ⟨Cr,B4,Bb⟩:=AOw hp;refine Arb 130828 (λx:Unit=>[]) (λx h'=>(Sum.inr <| ())=Cr/\Kst h h' (Ap.L)) ?_ ?_
 ·refine AOv<|Ai6 Awj AO9 (Ap.b p0) 0 rfl (Ajs rfl rfl (AOr ?_));by_cases Ay: ¬ a1=2
  ·rw [decide_eq_true Ay];refine Alf 11 true<|Ahc rfl (AOz<|Ahp rfl (AOv<|Aho<|AO1 ?_));obtain rfl:=AOu<|ifT B4 Ay;refine AO6<|Ag7 ?_;have Bc:=Kst.anil Awh 49 Ap;obtain rfl:=AOu Bb;exact ⟨_,Aiz,Bc.x,_,_,rfl,(Bc.o p0),Bc.s.sel [0] AOs⟩
  ·have B5:=ifF B4 Ay;rw [decide_eq_false Ay];refine Ahb 11 false<|Ah2 Ao4 rfl (Ahb 11 false<|Ahu Avc rfl ((Ap.b p0).cell (i:=2) rfl) (Ahb 11 false<|Aim Atu rfl H7 (Ahb 11 false<|Ahn rfl rfl (APd rfl (AOz<|⟨_,rfl,λBe=>?_,λBe=>?_⟩)))))
   ·refine AOv<|Aho<|AO1 ?_;obtain rfl:=AOu<|Ahy B5 Be;refine AO6<|Ag7 ?_;have Bf:=Kst.anil Awh 49 Ap;obtain rfl:=AOu Bb;exact ⟨_,Aiz,Bf.x,_,_,rfl,(Bf.o p0),Bf.s.sel [0] AOs⟩
   ·refine AO5<|q_t ?_;exact ⟨(():Unit),⟨AOu<|Ahz B5 Be,Ap⟩,trivial⟩
 rintro ⟨⟩ Ff Fg ⟨Ct,B6⟩;subst Ct;refine AOv<|Ah7<|AO1<|AOx<|AOv<|Ai6 Ao4 Avc (B6.b p0) 2 rfl (Aim Atu rfl H7 (AOr<|AOz<|AO0 ?_));have B7:=Kst.anil Awh 49 B6;refine Amy 309485009821345068723732732 (λx:((List Att)) × (Value) × LnA × (Int) × (Int)=>(x.1,x.2.2.2.1,x.2.2.2.2)) (([],(.slice none 0 0),[],0,0):((List Att)) × (Value) × LnA × (Int) × (Int)) Bb (λx=>[(4,x.2.1),(5,(.int .i64 x.2.2.2.1)),(20,(.int .i64 x.2.2.2.2))]) (λx=>B7.L.set 0<|aO Awh 49 x.2.2.1 x.2.1 x.1) B7 ⟨rfl,rfl,rfl,trivial⟩ ?_;rintro ⟨Bg,Cu,Cv,Fh,B8⟩ Fi Fj Fk Av Bh Aq;unfold Avl at Bh;refine AOv<|Ahn rfl rfl (AOz<|AOx<|⟨_,rfl,λBi=>?_,λBi=>?_⟩)
 ·refine AO5<|q_t<|AOx<|AO0<|AOv<|AOr ?_;obtain ⟨Aa,Cw,Cx⟩:=AOw<|Ahy Bh Bi;refine Aqu (c:=Arc) Atu rfl H7 rfl Cw λFl Fm Fo Cy Cz=>?_;obtain rfl:=Cy;refine Aum (c:=Arc) Art rfl rfl (λj u hu=>(AO8 (Cz j u hu) Av.x)) (Aj4 Av [(.int .i64 0),(.int .i64 0),(.int .i64 0),(.int .i64 0),(.int .i64 0)] Axp λFp Fq Fr B9=>Aho<|Ai5 [(.int .i64 Aa.1),(.int .i64 Aa.2.1),(.int .i64 Aa.2.2.1),(.int .i64 Aa.2.2.2.1),(.int .i64 Aa.2.2.2.2)] Art rfl rfl rfl rfl (by simp [isOne]) (B9.b p0) λFt C0 C1=>AOz ?_);have Ak:=B9.sb p0 C1 C0 rfl;obtain ⟨C2,Ca,Ar⟩:=AOw Cx;refine Arb 18014398475927564 (λx:Unit=>[]) (λx h'=>(Sum.inr <| ())=C2/\Kst h h' (Ak.L)) ?_ ?_
  ·refine AOx<|Ame<|Ai6 Anv Aii (Ak.b p0) 0 rfl (Ahn rfl rfl (AOr ?_));by_cases Az:Aa.1 < 0
   ·rw [decide_eq_true Az];refine Aki 28 true<|Ahc rfl (AOr<|Aki 33 true<|Ahc rfl (AOr<|Aki 38 true<|Ajn 41 AO4 rfl (Ajn 41 AO4 rfl (Ajn 41 AO4 rfl (Ajn 41 AO4 rfl (Ajn 41 AO4 rfl (Ajn 41 AO4 rfl (Ajn 41 AO4 rfl (Ajn 41 AO4 rfl (Ajn 41 AO4 rfl (Ajn 41 AO4 rfl (BA1 38 true<|Ahc rfl (AOz<|Ahp rfl (AOv<|Aho<|AO1 ?_))))))))))))));obtain rfl:=AOu<|ifT Ca Az;refine AO6<|Ag7<|Ail<|Ag7<|Ag7<|Ail<|Ag7 ?_;have Bj:=Kst.anil Awh 49 Ak;obtain rfl:=AOu<|Aq _ (AOu Ar).symm;exact ⟨_,Aiz,Bj.x,_,_,rfl,(Bj.o p0),Bj.s.sel [0] AOs⟩
   ·have Cb:=ifF Ca Az;rw [decide_eq_false Az];refine Ahb 28 false<|Ah2 Anv rfl (Ahb 28 false<|Ahu Aii rfl ((Ak.b p0).cell (i:=0) rfl) (Ahb 28 false<|Anj rfl rfl (APd rfl (AOr ?_))));by_cases A3:60 < Aa.1
    ·rw [decide_eq_true A3];refine Aki 33 true<|Ahc rfl (AOr<|Aki 38 true<|Ajn 41 AO4 rfl (Ajn 41 AO4 rfl (Ajn 41 AO4 rfl (Ajn 41 AO4 rfl (Ajn 41 AO4 rfl (Ajn 41 AO4 rfl (Ajn 41 AO4 rfl (Ajn 41 AO4 rfl (Ajn 41 AO4 rfl (Ajn 41 AO4 rfl (BA1 38 true<|Ahc rfl (AOz<|Ahp rfl (AOv<|Aho<|AO1 ?_)))))))))))));obtain rfl:=AOu<|ifT Cb A3;refine AO6<|Ag7<|Ail<|Ag7<|Ag7<|Ail<|Ag7 ?_;have Bl:=Kst.anil Awh 49 Ak;obtain rfl:=AOu<|Aq _ (AOu Ar).symm;exact ⟨_,Aiz,Bl.x,_,_,rfl,(Bl.o p0),Bl.s.sel [0] AOs⟩
    ·rw [decide_eq_false A3];refine Ahb 33 false<|Anm [(.int .i64 Aa.1),(.int .i64 Aa.2.1),(.int .i64 Aa.2.2.1),(.int .i64 Aa.2.2.2.1),(.int .i64 Aa.2.2.2.2)] Art rfl rfl (Ak.b p0).agg (Ahb 33 false ?_);obtain ⟨C3,C4,Cd⟩:=AOw<|ifF Cb A3;refine Akb Ak (Awr C4) λFu Fv Am=>Ahb 33 false<|Akc rfl (APd rfl (AOr ?_));cases Ce:(!C3)
     ·refine Ahb 38 false<|AOr<|Ahb 38 false<|Anj rfl rfl (Ahb 38 false<|AOr ?_);have Cf:=Aok Cd Ce;by_cases A4:0 < B8
      ·rw [decide_eq_true A4];refine Ahb 41 true<|Ah2 Anv rfl (Ahb 41 true<|Ahu Aii rfl ((Am.b p0).cell (i:=0) rfl) (Ahb 41 true<|Ah2 Ao4 rfl (Ahb 41 true<|Ahu Avc rfl ((Am.b p2).cell (i:=2) rfl) (Ahb 41 true<|AOr<|Ahb 41 true<|Amr rfl rfl (Ahb 41 true ?_)))));obtain ⟨Fw,C5,Cg⟩:=AOw<|ifT Cf A4;refine Aqu (c:=Arc) Atu rfl H7 rfl C5 λFx Fy Fz C6 C7=>?_;obtain rfl:=C6;refine Ahb 41 true<|Ah2 Anv rfl (Ahb 41 true<|Ahu Aii rfl (AO8 (C7 0 _ rfl) Am.x) (Ahb 41 true<|Ahn rfl rfl (Ahb 38 false<|Ahc rfl (APd rfl (AOz<|⟨_,rfl,λBm=>?_,λBm=>?_⟩)))))
       ·refine AOv<|Aho<|AO1 ?_;obtain rfl:=AOu<|Ahy Cg Bm;refine AO6<|Ag7<|Ail<|Ag7<|Ag7<|Ail<|Ag7 ?_;have Bn:=Kst.anil Awh 49 Am;obtain rfl:=AOu<|Aq _ (AOu Ar).symm;exact ⟨_,Aiz,Bn.x,_,_,rfl,(Bn.o p0),Bn.s.sel [0] AOs⟩
       ·refine AO5<|q_t ?_;exact ⟨(():Unit),⟨AOu<|Ahz Cg Bm,Am⟩,trivial⟩
      ·rw [decide_eq_false A4];refine An1 41 false<|An1 41 false<|Ahb 38 false<|APd rfl (APd rfl (AOz<|Aht rfl (AO5<|q_t ?_)));exact ⟨(():Unit),⟨AOu<|ifF Cf A4,Am⟩,trivial⟩
     ·refine Aki 38 true<|Ajn 41 AO4 rfl (Ajn 41 AO4 rfl (Ajn 41 AO4 rfl (Ajn 41 AO4 rfl (Ajn 41 AO4 rfl (Ajn 41 AO4 rfl (Ajn 41 AO4 rfl (Ajn 41 AO4 rfl (Ajn 41 AO4 rfl (Ajn 41 AO4 rfl (BA1 38 true<|Ahc rfl (AOz<|Ahp rfl (AOv<|Aho<|AO1 ?_))))))))))));obtain rfl:=AOu<|ifT Cd Ce;refine AO6<|Ag7<|Ail<|Ag7<|Ag7<|Ail<|Ag7 ?_;have Bo:=Kst.anil Awh 49 Am;obtain rfl:=AOu<|Aq _ (AOu Ar).symm;exact ⟨_,Aiz,Bo.x,_,_,rfl,(Bo.o p0),Bo.s.sel [0] AOs⟩
  rintro ⟨⟩ F4 F5 ⟨C8,Ab⟩;subst C8;refine AOv<|AOr<|Ai6 Ar7 Aii (Ab.b p0) 1 rfl (Ahk rfl rfl (AO1<|AOx<|AOv<|AOr<|Anj rfl rfl (AOz<|⟨_,rfl,λBp=>?_,λBp=>?_⟩)))
  ·refine AOv<|Aho<|AO1<|AO6<|Ag7<|Ail<|Ag7<|Ag7<|Ail<|Ag7 ?_;have Bq:=Kst.anil Awh 49 Ab;obtain rfl:=AOu<|Aq _ (AOu<|Ahy Ar Bp).symm;exact ⟨_,Aiz,Bq.x,_,_,rfl,(Bq.o p0),Bq.s.sel [0] AOs⟩
  ·refine AO5<|q_t ?_;obtain ⟨C9,Ch,Da⟩:=AOw<|Ahz Ar Bp;refine Arb 1208924666693124567859216 (λx:((List Att)) × (Value) × LnA=>[(4,x.2.1)]) (λx h'=>( x.1)=C9/\Kst h h' (Ab.L.set 1<|aO Awh 49 x.2.2 x.2.1 x.1)) ?_ ?_
   ·refine AOx<|Ame<|AOr<|Ai0 rfl rfl (AOr ?_);by_cases A5:B8=0
    ·rw [decide_eq_true A5];refine An1 62 true<|An1 62 true<|Ahc rfl (AOz<|Ahp rfl (Ag6<|AOr<|Ai6 Anv Aii (Ab.b p0) 0 rfl (Alh (v:=(.agg #[(.int .i64 Aa.1),(.int .i64 0),(.int .i64 1),(.bool false),(.int .i64 0)])) (λ_=>by kernel_rfl) ?_)));obtain ⟨Db,Dc⟩:=ifN<|ifT Ch A5;refine Ar6 A1k A9p rfl rfl trivial tt2 (λ_=>rfl) rfl (show (Awh).rep _ (Aa.1,0,1,false,0) [(.int .i64 Aa.1),(.int .i64 0),(.int .i64 1),(.bool false),(.int .i64 0)] from rfl) (Ab.o p1) AOs Db λF6 Dd De F7 Df Dg Dh=>AO1 ?_;exact ⟨(((Bg ++ [(Aa.1,0,1,false,0)]),De,Dd):((List Att)) × (Value) × LnA),⟨AOu Dc,(Ab.uo p1 Dg Df Dh)⟩,rfl,trivial⟩
    ·rw [decide_eq_false A5];refine Ahb 62 false<|Ah2 Anv rfl (Ahb 62 false<|Ahu Aii rfl ((Ab.b p0).cell (i:=0) rfl) (Ahb 62 false<|Ah2 Ao4 rfl (Ahb 62 false<|Ahu Avc rfl ((Ab.b p2).cell (i:=2) rfl) (Ahb 62 false<|AOr<|Ahb 62 false<|Amr rfl rfl (Ahb 62 false ?_)))));obtain ⟨F8,Di,Ci⟩:=AOw<|ifF Ch A5;refine Aqu (c:=Arc) Atu rfl H7 rfl Di λF9 Ga Gb Dj Dk=>?_;obtain rfl:=Dj;refine Ahb 62 false<|Ah2 Anv rfl (Ahb 62 false<|Ahu Aii rfl (AO8 (Dk 0 _ rfl) Ab.x) (Ahb 62 false<|Anj rfl rfl (APd rfl (AOz<|⟨_,rfl,λBr=>?_,λBr=>?_⟩))))
     ·refine Ag6<|AOr<|Ai6 Anv Aii (Ab.b p0) 0 rfl (Alh (v:=(.agg #[(.int .i64 Aa.1),(.int .i64 0),(.int .i64 1),(.bool false),(.int .i64 0)])) (λ_=>by kernel_rfl) ?_);obtain ⟨Dl,Do⟩:=ifN<|Ahy Ci Br;refine Ar6 A1k A9p rfl rfl trivial tt2 (λ_=>rfl) rfl (show (Awh).rep _ (Aa.1,0,1,false,0) [(.int .i64 Aa.1),(.int .i64 0),(.int .i64 1),(.bool false),(.int .i64 0)] from rfl) (Ab.o p1) AOs Dl λGc Dp Dq Gd Dr Ds Dt=>AO1 ?_;exact ⟨(((Bg ++ [(Aa.1,0,1,false,0)]),Dq,Dp):((List Att)) × (Value) × LnA),⟨AOu Do,(Ab.uo p1 Ds Dr Dt)⟩,rfl,trivial⟩
     ·refine AO5<|q_t ?_;exact ⟨((Bg,Cu,Cv):((List Att)) × (Value) × LnA),⟨AOu<|Ahz Ci Br,Ab⟩,rfl,trivial⟩
   rintro ⟨Ao,Bt,Bu⟩ Ge Gf ⟨Du,Aw⟩;subst Du;refine Ame<|AOr<|AOr<|Aim A1k rfl (Aw.o p1).rd (Amr rfl rfl ?_);obtain ⟨Gg,Dv,Dw⟩:=AOw Da;refine A18 A1k rfl (Aw.o p1) rfl Dv λGh Ah=>Anm [(.int .i64 Aa.1),(.int .i64 Aa.2.1),(.int .i64 Aa.2.2.1),(.int .i64 Aa.2.2.2.1),(.int .i64 Aa.2.2.2.2)] Art rfl rfl (Aw.b p0).agg ?_;obtain ⟨Dx,Dy,Dz⟩:=AOw Dw;refine Ahq (K':=(λxr h'=> ∃ x:((List Att)),x=Dx/\xr= .tuple #[]/\Kst h h' (Aw.L.set 1<|aO Awh 49 Bu Bt x))) trivial rfl ?_ λGi Gj D0=>?_
   ·refine cwf (l:=[_,_]) Tryz.func65 rfl rfl (AOv<|Ano Aw [(.int .i64 Aa.1),(.int .i64 Aa.2.1),(.int .i64 Aa.2.2.1),(.int .i64 Aa.2.2.2.1),(.int .i64 Aa.2.2.2.2)] λGk Gl Gm Ac=>Apt<|Ai6 Ar8 AO9 (Ac.b p0) 2 rfl (AO1 ?_));obtain ⟨D1,Cj,D2⟩:=AOw Dy;refine Arb 137438953232 (λx:(Int) × ((List Att))=>[(4,(.int .i64 x.1))]) (λx h'=>( (x.1,x.2))=D1/\Kst h h' (Ac.L.set 2<|aO Awh 49 Bu Bt x.2)) ?_ ?_
    ·refine AOv<|Ai6 Ar7 Aii (Ac.b p0) 1 rfl (Ai0 rfl rfl (AOz<|⟨_,rfl,λBv=>?_,λBv=>?_⟩))
     ·refine AOv<|AOr<|Ah3 rfl (Ah2 BEs rfl ?_);obtain ⟨Ai,D3,D4⟩:=AOw<|Ahy Cj Bv;refine Azs (c:=Awh) (a':=(Ai.1,Ai.2.1,Ai.2.2.1,true,Ai.2.2.2.2)) Als rfl rfl rfl AOs (Ac.o p2) Ah D3 (λ_ q=>by cases q;rfl) λGn D5 D6=>AOz<|Ame<|AOr<|AOr<|Ah3 rfl (Ah2 BEt rfl ?_);have A6:=Ac.uO p2 D6 D5;obtain ⟨Ad,Ck,D7⟩:=AOw D4;obtain ⟨Gp,D8,D9⟩:=(A6.o p2).cells Ah Ck;obtain rfl:=D8;refine Ahu Aii rfl (D9 4 _ rfl) (Ai6 Ar8 AO9 (A6.b p0) 2 rfl (A3s rfl rfl AOs (Ahk rfl rfl (A3s rfl rfl AOs (Ah3 rfl (Ah2 BEt rfl (Azs (c:=Awh) (a':=(Ad.1,Ad.2.1,Ad.2.2.1,Ad.2.2.2.1,(A0z .and .i64 (w64<|Ad.2.2.2.2 + (A0z .and .i64 Aa.2.2.1 7)) 7))) Aii rfl rfl rfl AOs (A6.o p2) Ah Ck (λ_ q=>by cases q;rfl) λGq Ea Eb=>AOz ?_)))))));exact ⟨((Aa.2.2.1,(sI (sI Ao (w64<|(Ao.length:Int) - 1) (Ai.1,Ai.2.1,Ai.2.2.1,true,Ai.2.2.2.2)) (w64<|(Ao.length:Int) - 1) (Ad.1,Ad.2.1,Ad.2.2.1,Ad.2.2.2.1,(A0z .and .i64 (w64<|Ad.2.2.2.2 + (A0z .and .i64 Aa.2.2.1 7)) 7)))):(Int) × ((List Att))),⟨AOu D7,(A6.uO p2 Eb Ea)⟩,rfl,trivial⟩
     ·refine Ag6<|Ai6 Ar8 AO9 (Ac.b p0) 2 rfl (Ai6 Avn AO9 (Ac.b p0) 4 rfl (Aou rfl rfl (Ai6 Ate AO9 (Ac.b p0) 3 rfl (Ai6 Ate AO9 (Ac.b p0) 3 rfl (Aou rfl rfl (Amr rfl rfl (AO1 ?_)))))));exact ⟨(((w64<|(w64<|Aa.2.2.1 * Aa.2.2.2.2) - (w64<|Aa.2.2.2.1 * Aa.2.2.2.1)),Ao):(Int) × ((List Att))),⟨AOu<|Ahz Cj Bv,Ac⟩,rfl,trivial⟩
    rintro ⟨Ec,Bw⟩ Gr Gt ⟨Ed,Aj⟩;subst Ed;obtain ⟨Ee,Cm,Ef⟩:=AOw D2;refine Arb 9007061815787552 (λx:((List Att))=>[]) (λx h'=>( x)=Ee/\Kst h h' (Aj.L.set 2<|aO Awh 49 Bu Bt x)) ?_ ?_
    ·refine AOv<|AOr<|A3s rfl rfl AOs (Ah7<|AOr<|Ai0 rfl rfl (AOr ?_));by_cases A7:(A0z .and .i64 Ec 7)=3
     ·rw [decide_eq_true A7];refine Aqc 41 true<|Ahc rfl (AOz<|Ahp rfl (Ag6<|AOr<|AOr<|Ah3 rfl (Ah2 A59 rfl ?_)));obtain ⟨Ae,Cn,Eg⟩:=AOw<|ifT Cm A7;obtain ⟨Gu,Eh,Ei⟩:=(Aj.o p2).cells Ah Cn;obtain rfl:=Eh;refine Ahu Aii rfl (Ei 2 _ rfl) (A36 rfl (Ah3 rfl (Ah2 A59 rfl (Azs (c:=Awh) (a':=(Ae.1,Ae.2.1,(w64<|0 - Ae.2.2.1),Ae.2.2.2.1,Ae.2.2.2.2)) Aii rfl rfl rfl AOs (Aj.o p2) Ah Cn (λ_ q=>by cases q;rfl) λGv Ej Ek=>AOz ?_))));exact ⟨((sI Bw (w64<|(Ao.length:Int) - 1) (Ae.1,Ae.2.1,(w64<|0 - Ae.2.2.1),Ae.2.2.2.1,Ae.2.2.2.2)):((List Att))),⟨AOu Eg,(Aj.uO p2 Ek Ej)⟩,trivial⟩
     ·have Co:=ifF Cm A7;rw [decide_eq_false A7];refine Ahb 41 false<|AOr<|Ahb 41 false<|Ai0 rfl rfl (APd rfl (AOz<|⟨_,rfl,λBx=>?_,λBx=>?_⟩))
      ·refine Ag6<|AOr<|AOr<|Ah3 rfl (Ah2 A59 rfl ?_);obtain ⟨Af,Cp,El⟩:=AOw<|Ahy Co Bx;obtain ⟨Gw,Em,En⟩:=(Aj.o p2).cells Ah Cp;obtain rfl:=Em;refine Ahu Aii rfl (En 2 _ rfl) (A36 rfl (Ah3 rfl (Ah2 A59 rfl (Azs (c:=Awh) (a':=(Af.1,Af.2.1,(w64<|0 - Af.2.2.1),Af.2.2.2.1,Af.2.2.2.2)) Aii rfl rfl rfl AOs (Aj.o p2) Ah Cp (λ_ q=>by cases q;rfl) λGx Eo Ep=>AOz ?_))));exact ⟨((sI Bw (w64<|(Ao.length:Int) - 1) (Af.1,Af.2.1,(w64<|0 - Af.2.2.1),Af.2.2.2.1,Af.2.2.2.2)):((List Att))),⟨AOu El,(Aj.uO p2 Ep Eo)⟩,trivial⟩
      ·refine AO5<|q_t ?_;exact ⟨(Bw:((List Att))),⟨AOu<|Ahz Co Bx,Aj⟩,trivial⟩
    rintro Er Gy Gz ⟨Es,A8⟩;subst Es;refine Ame<|AOr<|Ah3 rfl (Ah2 BEr rfl ?_);obtain ⟨Ag,Cq,Et⟩:=AOw Ef;obtain ⟨G3,Eu,Ev⟩:=(A8.o p2).cells Ah Cq;obtain rfl:=Eu;refine Ahu Aii rfl (Ev 1 _ rfl) (Ai6 Ar7 Aii (A8.b p0) 1 rfl (Ahk rfl rfl (Ah3 rfl (Ah2 BEr rfl (Azs (c:=Awh) (a':=(Ag.1,(w64<|Ag.2.1 + Aa.2.1),Ag.2.2.1,Ag.2.2.2.1,Ag.2.2.2.2)) Aii rfl rfl rfl AOs (A8.o p2) Ah Cq (λ_ q=>by cases q;rfl) λG4 Ew Ey=>Ahh<|⟨_,Auv,((sI Er (w64<|(Ao.length:Int) - 1) (Ag.1,(w64<|Ag.2.1 + Aa.2.1),Ag.2.2.1,Ag.2.2.2.1,Ag.2.2.2.2)):((List Att))),?_,rfl,?_⟩)))))
    ·exact AOu Et
    ·exact (A8.uO p2 Ey Ew).sel [1,2,3] AOs
   obtain ⟨G5,Ez,rfl,Fa⟩:=D0;refine ⟨trivial,?_⟩;subst Ez;refine Ahh<|q_b<|q_t<|Ag6<|Ahk rfl rfl (AOr<|AOz ?_);exact ⟨(_,_,_,_,_),(AOu Dz).symm,Fa.sel [1,2] AOs,rfl,rfl,rfl,trivial⟩
 ·refine Ahf<|Ahg<|Ahg<|Aio<|q_t<|AOv<|AOr<|Aho<|AO1<|AO6 ?_;obtain rfl:=AOu<|Aq _ (AOu<|Ahz Bh Bi).symm;exact ⟨_,Aiz,Av.x,_,_,rfl,(Av.o p0),Av.s.sel [0] AOs⟩
def A0l (fuel:Nat) (Ab:List Att) (Aa:Int):Option (Int ⊕ (Bool ⊕ Unit)):=
 if Aa < (Ab.length:Int) then (gI Ab Aa).bind λAc=>if Ac.1=0 then if Ac.2.2.2.1=true then some (.inr<|.inl false) else some (.inl<|w64<|Aa + 1) else some (.inl<|w64<|Aa + 1) else some<|.inr<|.inr ()
def Azw (fuel:Nat) (a1:Int) (a4:LiI) (a8:List Ak8):Option Bool:=
 (Aqr fuel a1 a4 a8).bind λ(Ad,Ae)=>if (!Ae)=true then some false else (iter (λs=>A0l fuel Ad s) fuel 0).bind (λex=>match ex with | .inl Af=>(some Af) | .inr _=>some true)
theorem A5p {Ad:Value} {a4:LiI} {Ae:Value} (H3:Ajw (cI .i64) h Ad a4) (H7:SlC Arc h Ae a8) (hp:Azw fuel a1 a4 a8=some r):Ahs Tryz.prog 46 #[(.agg #[(.int .i64 a1),Ad,Ae])] h (λx h'=>Ext h h'/\x= .bool r):=by
 unfold Azw at hp;refine cwf (l:=[_]) Tryz.func46 rfl rfl (AOv<|Ano (Kst.k0 h) [(.int .i64 a1),Ad,Ae] λBg Bh Bi Af=>Ah7<|Anm [(.int .i64 a1),Ad,Ae] Ai7 rfl rfl (Af.b p0).agg ?_);obtain ⟨⟨Bj,Bl⟩,A5,Ai⟩:=AOw hp;dsimp only at Ai;refine Aqs rfl (Avm (H3.ext Af.x) (H7.ext Af.x) A5) λBm Bn A6 A7=>?_;obtain ⟨Bo,Bp,rfl,A8,A9⟩:=A7;refine AOr<|Ait rfl rfl (Ait rfl rfl (Aho<|AO1<|AOx<|AOv<|AOr<|Akc rfl (AOz ?_)));have Aj:=Af.no A6 A9 A8;refine ⟨_,rfl,λAk=>?_,λAk=>?_⟩
 ·refine AOv<|AO1<|AO6<|Ag7 ?_;obtain rfl:=AOu<|ifT Ai Ak;exact ⟨_,AO7,Aj.x,rfl⟩
 ·refine AO5<|q_t<|AOx<|AOv<|AOr<|Aim A1k rfl (Aj.o p0).rd (AOr<|AOz<|AO0 ?_);have Am:=Aj.sel [0] AOs;dsimp only [Aoz,Ar4] at Am;refine Arf 268369988 (Aok Ai Ak) (λx=>[(16,(.int .i64 x))]) (λx=>Am.L) Am ⟨rfl,trivial⟩ ?_;rintro Bq Br Bt Bu Ag Ao Av;unfold A0l at Ao;refine AOv<|Ahn rfl rfl (AOz<|AOx<|⟨_,rfl,λAp=>?_,λAp=>?_⟩)
  ·refine AO5<|q_t<|AOx<|AO0<|AOv ?_;obtain ⟨Aa,Aw,Ax⟩:=AOw<|Ahy Ao Ap;refine A18 A1k rfl (Ag.o p0) rfl Aw λBv Ba=>?_;obtain ⟨Bw,Bb,Bc⟩:=(Ag.o p0).cells Ba Aw;obtain rfl:=Bb;refine Aum (c:=Awh) A9o rfl rfl (λj u hu=>(Bc j u hu)) (Aj4 Ag [(.int .i64 0),(.int .i64 0),(.int .i64 0),(.bool false),(.int .i64 0)] A9p λBx By Bz Ay=>Ai5 [(.int .i64 Aa.1),(.int .i64 Aa.2.1),(.int .i64 Aa.2.2.1),(.bool Aa.2.2.2.1),(.int .i64 Aa.2.2.2.2)] A9o rfl rfl rfl rfl (by simp [isOne]) (Ay.b p0) λB1 Be Bf=>Apt ?_);have Ab:=Ay.sb p0 Bf Be rfl;refine Ai6 BL2 Aii (Ab.b p0) 0 rfl (Ai0 rfl rfl (AOr ?_));by_cases Ah:Aa.1=0
   ·have Az:=ifT Ax Ah;rw [decide_eq_true Ah];refine Ahb 23 true<|Ah2 BEs rfl (Ahb 23 true<|Ahu Als rfl ((Ab.b p0).cell (i:=3) rfl) (Ahc rfl (AOz<|⟨_,rfl,λAq=>?_,λAq=>?_⟩)))
    ·refine AOv<|AO1<|AO6<|Ail<|Ag7<|Ag7<|Ail<|Ag7 ?_;obtain rfl:=AOu<|Av _ (AOu<|ifT Az Aq).symm;exact ⟨_,AO7,Ab.x,rfl⟩
    ·refine AO5<|q_b<|q_t<|Ag6<|Ahk rfl rfl (AOr<|AOz ?_);exact ⟨_,(AOu<|Aok Az Aq).symm,Ab.sel [1] AOs,rfl,trivial⟩
   ·rw [decide_eq_false Ah];refine Aqc 23 false<|APd rfl (AOz<|Aht rfl (AO5<|q_b<|q_t<|Ag6<|Ahk rfl rfl (AOr<|AOz ?_)));exact ⟨_,(AOu<|ifF Ax Ah).symm,Ab.sel [1] AOs,rfl,trivial⟩
  ·refine Ahf<|Ahg<|Ahg<|Aio<|q_t<|AOv<|AO1<|AO6 ?_;obtain rfl:=AOu<|Av _ (AOu<|Ahz Ao Ap).symm;exact ⟨_,AO7,Ag.x,rfl⟩
def Ase (fuel:Nat) (a1 a3 a4 a5 a6 Ac:Int):Option (Int ⊕ (Bool ⊕ Unit)):=
 if Ac < 3 then (gI ([a3,a4,a5]:List Int) Ac).bind λAd=>if Ad < 0 then some (.inr<|.inl false) else if 0<=w64 (a6 - a1)/\w64 (a6 - a1)<=64 then if w64 (1 * 2 ^ Int.toNat (w64<|a6 - a1))<=Ad then some (.inr<|.inl false) else some (.inl<|w64<|Ac + 1) else none else some<|.inr<|.inr ()
def As1 (fuel:Nat) (a1 a2 a3 a4 a5 a6:Int):Option Bool:=
 (iter (λs=>Ase fuel a1 a3 a4 a5 a6 s) fuel 0).bind (λex=>match ex with | .inl Af=>(some Af) | .inr _=>some true)
theorem A29 {a3 a4 a6:Int} (hp:As1 fuel a1 a2 a3 a4 a5 a6=some r):Ahs Tryz.prog 85 #[(.agg #[(.int .i64 a1),(.int .i64 a2),(.int .i64 a3),(.int .i64 a4),(.int .i64 a5)]),(.int .i64 a6)] h (λx h'=>Ext h h'/\x= .bool r):=by
 unfold As1 at hp;refine cwf (l:=[_,_]) Tryz.func85 rfl rfl (AOv<|Ano (Kst.k0 h) [(.int .i64 a1),(.int .i64 a2),(.int .i64 a3),(.int .i64 a4),(.int .i64 a5)] λb7 h8 Ay Aa=>AO1<|AOx<|AOv<|Ai6 Ar8 AO9 (Aa.b p0) 2 rfl (Ai6 Ate AO9 (Aa.b p0) 3 rfl (Ai6 Avn AO9 (Aa.b p0) 4 rfl (Alh (v:=(.agg #[(.int .i64 a3),(.int .i64 a4),(.int .i64 a5)])) (λ_=>by kernel_rfl)<|AOr<|AOz<|AO0<|Arf 536854608 hp (λx=>[(14,(.int .i64 x))]) (λx=>Aa.L) Aa ⟨rfl,trivial⟩ ?_))));rintro Az A3 A4 A5 Ab Ai Aj;unfold Ase at Ai;refine AOv<|Ahn rfl rfl (AOz<|AOx<|⟨_,rfl,λAk=>?_,λAk=>?_⟩)
 ·refine AO5<|q_t<|AOx<|AO0<|AOv ?_;obtain ⟨Ar,Au,Ap⟩:=AOw<|Ahy Ai Ak;refine BH2 (cs:= #[]) (v:=undef) (BRw Au)<|Ah7<|AOr<|Ahn rfl rfl (AOr ?_);by_cases Af:Ar < 0
  ·rw [decide_eq_true Af];refine An1 19 true<|Aqc 19 true<|Ahc rfl (AOz<|Ahp rfl (AOv<|AO1<|AO6<|Ail<|Ag7<|Ag7<|Ail<|Ag7 ?_));obtain rfl:=AOu<|Aj _ (AOu<|ifT Ap Af).symm;exact ⟨_,AO7,Ab.x,rfl⟩
  ·rw [decide_eq_false Af];refine Ahb 19 false<|AOr<|Ahb 19 false<|AOr<|Ahb 19 false<|Ah2 Anv rfl (Ahb 19 false<|Ahu Aii rfl ((Ab.b p0).cell (i:=0) rfl) (Ahb 19 false<|Amr rfl rfl (Ahb 19 false ?_)));obtain ⟨Av,Aq⟩:=ifN<|ifF Ap Af;refine A00 rfl rfl Av (Ahb 19 false<|At7 rfl rfl (APd rfl (AOz<|⟨_,rfl,λAm=>?_,λAm=>?_⟩)))
   ·refine AOv<|AO1<|AO6<|Ail<|Ag7<|Ag7<|Ail<|Ag7 ?_;obtain rfl:=AOu<|Aj _ (AOu<|Ahy Aq Am).symm;exact ⟨_,AO7,Ab.x,rfl⟩
   ·refine AO5<|q_b<|q_t<|Ag6<|Ahk rfl rfl (AOr<|AOz ?_);exact ⟨_,(AOu<|Ahz Aq Am).symm,Ab,rfl,trivial⟩
 ·refine Ahf<|Ahg<|Ahg<|Aio<|q_t<|AOv<|AO1<|AO6 ?_;obtain rfl:=AOu<|Aj _ (AOu<|Ahz Ai Ak).symm;exact ⟨_,AO7,Ab.x,rfl⟩
def Ato (fuel:Nat) (Aa:Int) (Ac:LiA) (Ab:Int):Option (Int ⊕ (Bool ⊕ Unit)):=
 if Ab < (Ac.length:Int) then (gI Ac Ab).bind λAd=>if Ad < 0 then some (.inr<|.inl false) else if 0<=Aa/\Aa<=64 then if w64 (1 * 2 ^ Int.toNat Aa)<=Ad then some (.inr<|.inl false) else some (.inl<|w64<|Ab + 1) else none else some<|.inr<|.inr ()
def Atp (fuel:Nat) (Ac Ad:LiI) (Ab:Int) (Ae:LiA) (Aa:Int):Option (Int ⊕ (Bool ⊕ Unit)):=
 if Aa < (Ae.length:Int) then (gI Ad Ab).bind λAf=>(gI Af Aa).bind λAg=>(gI Ac Ab).bind λAh=>(gI Ah Aa).bind λAi=>if ¬ Ag=Ai then some (.inr<|.inl false) else some (.inl<|w64<|Aa + 1) else some<|.inr<|.inr ()
def Aqk (fuel:Nat) (Ac Ab:LiI) (Aa:Int):Option (Int ⊕ (Bool ⊕ Unit)):=
 if Aa < (Ab.length:Int) then (gI Ab Aa).bind λAd=>(iter (λs=>Atp fuel Ac Ab Aa Ad s) fuel 0).bind (λex=>match ex with | .inl Ae=>(some<|.inr<|.inl Ae) | .inr _=>some<|.inl<|w64<|Aa + 1) else some<|.inr<|.inr ()
def Atq (fuel:Nat) (Ah:List Ak8) (Ai Ab Ak Af:Int) (Ac:LiI):Option ((Int × Int × Int × LiI) ⊕ (Bool ⊕ LiI)):=
 if Af < (Ah.length:Int) then (gI Ah Af).bind λAa=>((if Aa.1 < Ak then some (.inl false) else if w64 (Ai - 3) < Aa.1 then some (.inl false) else (As1 fuel Aa.1 Aa.2.1 Aa.2.2.1 Aa.2.2.2.1 Aa.2.2.2.2 Ai).bind λAm=>if (!Am)=true then some (.inl false) else (Aoi fuel Aa.1 Aa.2.1 Aa.2.2.1 Aa.2.2.2.1 Aa.2.2.2.2).bind λAo=>if (!Ao)=true then some (.inl false) else some<|.inr ()):Option (Bool ⊕ Unit)).bind (λex=>match ex with | .inl Ap=>(some<|.inr<|.inl Ap) | .inr _=>(gI Ac Ab).bind λAd=>if 0<=Aa.1/\Aa.1<=64 then (gI Ad Ab).bind λAr=>((if Aa.2.1=2 then (gI (sI Ac Ab<|sI Ad Ab<|w64<|Aa.2.2.1 * 2 ^ Int.toNat Aa.1) Ab).bind λAe=>if 0<=Aa.1/\Aa.1<=64 then (gI Ae<|w64<|Ab + 1).bind λAu=>(gI (sI (sI Ac Ab<|sI Ad Ab<|w64<|Aa.2.2.1 * 2 ^ Int.toNat Aa.1) Ab<|sI Ae (w64<|Ab + 1)<|w64<|Aa.2.2.2.1 * 2 ^ Int.toNat Aa.1)<|w64<|Ab + 1).bind λAg=>if 0<=Aa.1/\Aa.1<=64 then (gI Ag Ab).bind λAv=>(gI (sI (sI (sI Ac Ab<|sI Ad Ab<|w64<|Aa.2.2.1 * 2 ^ Int.toNat Aa.1) Ab<|sI Ae (w64<|Ab + 1)<|w64<|Aa.2.2.2.1 * 2 ^ Int.toNat Aa.1) (w64<|Ab + 1)<|sI Ag Ab<|w64<|Aa.2.2.2.1 * 2 ^ Int.toNat Aa.1)<|w64<|Ab + 1).bind λAj=>if 0<=Aa.1/\Aa.1<=64 then (gI Aj<|w64<|Ab + 1).bind λAw=>some (sI (sI (sI (sI Ac Ab<|sI Ad Ab<|w64<|Aa.2.2.1 * 2 ^ Int.toNat Aa.1) Ab<|sI Ae (w64<|Ab + 1)<|w64<|Aa.2.2.2.1 * 2 ^ Int.toNat Aa.1) (w64<|Ab + 1)<|sI Ag Ab<|w64<|Aa.2.2.2.1 * 2 ^ Int.toNat Aa.1) (w64<|Ab + 1)<|sI Aj (w64<|Ab + 1)<|w64<|Aa.2.2.2.2 * 2 ^ Int.toNat Aa.1) else none else none else none else some<|sI Ac Ab<|sI Ad Ab<|w64<|Aa.2.2.1 * 2 ^ Int.toNat Aa.1):Option LiI).bind (λ(Aq:LiI)=>some<|.inl (w64<|Ab + Aa.2.1,Aa.1,w64<|Af + 1,Aq)) else none) else some<|.inr<|.inr Ac
def Atr (fuel:Nat) (a3:LiI) (Ab:Int) (Ac:LiI):Option ((Int × LiI) ⊕ LiI):=
 if Ab < ((List.replicate (Int.toNat (a3.length:Int)) ([]:List Int)).length:Int) then if 0<=(a3.length:Int)/\(a3.length:Int)<=100000000 then (gI Ac Ab).bind λAd=>some (.inl (w64<|Ab + 1,sI Ac Ab<|List.replicate (Int.toNat (a3.length:Int)) (0:Int))) else none else some<|.inr Ac
def Aql (fuel:Nat) (a8:LiI) (Ac Aa:Int):Option (Int ⊕ (Bool ⊕ Unit)):=
 if Aa < (a8.length:Int) then (gI a8 Aa).bind λAd=>(iter (λs=>Ato fuel Ac Ad s) fuel 0).bind (λex=>match ex with | .inl Ae=>(some<|.inr<|.inl Ae) | .inr _=>some<|.inl<|w64<|Aa + 1) else some<|.inr<|.inr ()
def At3 (fuel:Nat) (a3:LiI) (a5:Int) (a8:LiI) (Ad:List Ak8) (Ab:Int):Option Bool:=
 (iter (λs=>Aql fuel a8 Ab s) fuel 0).bind (λex=>match ex with | .inl Ae=>(some Ae) | .inr _=>(Avk fuel a8 2).bind λ(Af,Ao)=>if Af=0 then some false else if 0<=(a3.length:Int)/\(a3.length:Int)<=100000000 then (iter (λs=>Atr fuel a3 s.1 s.2) fuel (0,List.replicate (Int.toNat (a3.length:Int)) ([]:List Int))).bind (λ(Ag:LiI)=>(iter (λs=>Atq fuel Ad Ab s.1 s.2.1 s.2.2.1 s.2.2.2) fuel (0,0,0,Ag)).bind (λex=>match ex with | .inl Ah=>(some Ah) | .inr Ai=>if 0<=Ab/\Ab<=64 then (Apa fuel a3 a8<|w64<|1 * 2 ^ Int.toNat Ab).bind λ(Aj,Ap)=>(iter (λs=>Aqk fuel Ai Aj s) fuel 0).bind (λex=>match ex with | .inl Ak=>(some Ak) | .inr _=>some true) else none)) else none)
theorem A32 {B1:Value} {a3:LiI} {A3:Value} {a8:LiI} {A4:Value} {B4:(List Ak8)} {A5:Int} (H2:Ajw (cI .i64) h B1 a3) (H7:Ajw (cI .i64) h A3 a8) (B5:SlC Arc h A4 B4) (hp:At3 fuel a3 a5 a8 B4 A5=some r):Ahs Tryz.prog 43 #[B1,(.agg #[(.int .i64 a5),A3,A4]),(.int .i64 A5)] h (λx h'=>Ext h h'/\x= .bool r):=by
 unfold At3 at hp;refine cwf (l:=[_,_,_]) Tryz.func43 rfl rfl (AOv<|Ano (Kst.k0 h) [(.int .i64 a5),A3,A4] λF4 F5 F6 A7=>AO1<|AOx<|AOv<|Ai6 Apd Aia (A7.b p0) 1 rfl (Ahx APa rfl H7 (AOr<|AOz<|AO0<|Arf 281474708276544 hp (λx=>[(28,(.int .i64 x))]) (λx=>A7.L) A7 ⟨rfl,trivial⟩ ?_)));rintro F7 F8 F9 Ga Ae A8 A9;unfold Aql at A8;refine AOv<|Ahn rfl rfl (AOz<|AOx<|⟨_,rfl,λBa=>?_,λBa=>?_⟩)
 ·refine AO5<|q_t<|AOx<|AO0<|AOv ?_;obtain ⟨Gb,C4,C5⟩:=AOw<|Ahy A8 Ba;refine An3 APa Aha H7 Ae.x C4 λ_ Gc B6=>Ah7<|AOr<|Aim APe rfl B6 (AOr<|AOz<|AO0<|Arf 140720308487232 C5 (λx=>[(34,(.int .i64 x))]) (λx=>Ae.L) Ae ⟨rfl,trivial⟩ ?_);rintro Gd Ge Gf Gg Ah Bb Bc;unfold Ato at Bb;refine AOv<|Ahn rfl rfl (AOz<|AOx<|⟨_,rfl,λBe=>?_,λBe=>?_⟩)
  ·refine AO5<|q_t<|AOx<|AO0<|AOv ?_;obtain ⟨C6,C7,B7⟩:=AOw<|Ahy Bb Be;refine A1l APe AO9 B6 Ah.x C7 λ_=>(Ah7<|AOr<|Ahn rfl rfl (AOr ?_));by_cases Ap:C6 < 0
   ·rw [decide_eq_true Ap];refine Alf 40 true<|Ahc rfl (AOz<|Ahp rfl (AOv<|AO1<|AO6<|Ail<|Ag7<|Ag7<|Ail<|Ail<|Ag7<|Ag7<|Ail<|Ag7 ?_));obtain rfl:=AOu<|A9 _ (AOu<|Bc _ (AOu<|ifT B7 Ap).symm).symm;exact ⟨_,AO7,Ah.x,rfl⟩
   ·rw [decide_eq_false Ap];refine Ahb 40 false<|AOr<|Ahb 40 false<|AOr<|Ahb 40 false ?_;obtain ⟨C8,B8⟩:=ifN<|ifF B7 Ap;refine A00 rfl rfl C8 (Ahb 40 false<|At7 rfl rfl (APd rfl (AOz<|⟨_,rfl,λBf=>?_,λBf=>?_⟩)))
    ·refine AOv<|AO1<|AO6<|Ail<|Ag7<|Ag7<|Ail<|Ail<|Ag7<|Ag7<|Ail<|Ag7 ?_;obtain rfl:=AOu<|A9 _ (AOu<|Bc _ (AOu<|Ahy B8 Bf).symm).symm;exact ⟨_,AO7,Ah.x,rfl⟩
    ·refine AO5<|q_b<|q_t<|Ag6<|Ahk rfl rfl (AOr<|AOz ?_);exact ⟨_,(AOu<|Ahz B8 Bf).symm,Ah,rfl,trivial⟩
  ·refine Ahf<|Ahg<|Ahg<|Aio<|q_b<|q_t<|Ag6<|Ahk rfl rfl (AOr<|AOz ?_);exact ⟨_,(AOu<|Bc _ (AOu<|Ahz Bb Be).symm).symm,Ah,rfl,trivial⟩
 ·refine Ahf<|Ahg<|Ahg<|Aio<|q_t<|AOx<|AOv<|Ai6 Apd Aia (Ae.b p0) 1 rfl ?_;obtain ⟨⟨Gh,Gi⟩,C9,Bg⟩:=AOw<|A9 _ (AOu<|Ahz A8 Ba).symm;dsimp only at Bg;refine Akb Ae (A5l (H7.ext Ae.x) C9) λGj Gk B9=>AOr<|Ait rfl rfl (Ait rfl rfl (Aho<|Ah7<|AOr<|Ai0 rfl rfl (AOz<|⟨_,rfl,λBh=>?_,λBh=>?_⟩)))
  ·refine AOv<|AO1<|AO6<|Ag7 ?_;obtain rfl:=AOu<|Ahy Bg Bh;exact ⟨_,AO7,B9.x,rfl⟩
  ·refine AO5<|q_t<|AOv<|AOr<|Ahx APa rfl H2 ?_;obtain ⟨Da,Db⟩:=ifN<|Ahz Bg Bh;refine Ayj (cI .i64) 2 APa As9 rfl trivial tt2 rfl rfl AOs Da λDc Dd De Bi Gl Df Dg Dh=>AO1<|AOx<|AOv<|AOr ?_;have Bj:=B9.no2 Dg Dh Df;refine Ahx APa rfl (Bj.o2 p0).rd (AOr<|AOz<|AO0<|Amy 2358877398425608929280 (λx:(Int) × (LiI) × LnA × LnN × LvA=>(x.1,x.2.1)) ((0,(List.replicate (Int.toNat (a3.length:Int)) ([]:List Int)),Dc,Dd,De):(Int) × (LiI) × LnA × LnN × LvA) Db (λx=>[(61,(.int .i64 x.1))]) (λx=>Bj.L.set 0<|aO2 (cI .i64) 61 2 x.2.2.1 x.2.2.2.1 x.2.2.2.2 Bi x.2.1) Bj ⟨rfl,trivial⟩ ?_);rintro ⟨Gm,Di,Dj,Dk,Dl⟩ Gn Gp Gq Aq Bl Do;unfold Atr at Bl;refine AOv<|Ahn rfl rfl (AOz<|AOx<|⟨_,rfl,λBm=>?_,λBm=>?_⟩)
   ·refine AO5<|q_t<|AOx<|AO0<|AOv<|AOr<|AO1<|Ag6<|AOr<|AOr<|AOr<|Ahx APa rfl H2 ?_;obtain ⟨Dp,Dq⟩:=ifN<|Ahy Bl Bm;refine Awz (c:=(cI .i64)) (a:=0) APe Ars rfl rfl (λ_=>rfl) rfl trivial tt2 rfl rfl AOs Dp λGr Gt Gu Dr Ds Dt Du=>?_;have Ai:=Aq.no Ds (Anw Dt Du) Dr;obtain ⟨Gv,Ca,Dv⟩:=AOw Dq;refine Aij APa rfl (Ai.o2 p1) rfl Ca λGw Gx Dw Gy Gz=>Azf Aha (Ai.o2 p1) Ca Dw rfl rfl (Ai.o p0) (Ai.dj p0 p1 AOs) λG3 Dx Dy Dz=>Ahh<|q_b<|q_t<|Ag6<|Ahk rfl rfl (AOr<|AOz ?_);exact ⟨(_,_,_,_,_),(AOu Dv).symm,(Ai.m2 p0 p1 AOs Dy Dx λz hz=> .inl<|Dz z hz).sel [1,2] AOs,rfl,trivial⟩
   ·refine Ahf<|Ahg<|Ahg<|Aio<|q_t<|AOv<|Aho<|AO1<|AOx<|AOv<|Ai6 Ao4 Avc (Aq.b p1) 2 rfl (Aim Atu rfl B5 (AOr<|AOz<|AO0<|Amy 365375409332725729550921189289604823435402641472 (λx:(Int) × (Int) × (Int) × (LiI) × LnA × LnN × LvA=>(x.1,x.2.1,x.2.2.1,x.2.2.2.1)) ((0,0,0,Di,Dj,Dk,Dl):(Int) × (Int) × (Int) × (LiI) × LnA × LnN × LvA) (Do _ (AOu<|Ahz Bl Bm).symm) (λx=>[(15,(.int .i64 x.1)),(16,(.int .i64 x.2.1)),(74,(.int .i64 x.2.2.1))]) (λx=>Aq.L.set 0<|aO2 (cI .i64) 61 2 x.2.2.2.2.1 x.2.2.2.2.2.1 x.2.2.2.2.2.2 Bi x.2.2.2.1) Aq ⟨rfl,rfl,rfl,trivial⟩ ?_));rintro ⟨Ab,D0,G4,Cb,Cd,Ce,Cf⟩ G5 G6 G7 Af Bn Aj;unfold Atq at Bn;refine AOv<|Ahn rfl rfl (AOz<|AOx<|⟨_,rfl,λBo=>?_,λBo=>?_⟩)
    ·refine AO5<|q_t<|AOx<|AO0<|AOv ?_;obtain ⟨Aa,D1,D2⟩:=AOw<|Ahy Bn Bo;refine Aqu (c:=Arc) Atu rfl B5 rfl D1 λG8 G9 Hb D3 D4=>?_;obtain rfl:=D3;refine Aum (c:=Arc) Art rfl rfl (λj u hu=>(AO8 (D4 j u hu) Af.x)) (Aj4 Af [(.int .i64 0),(.int .i64 0),(.int .i64 0),(.int .i64 0),(.int .i64 0)] Axp λHc Hd He Cg=>Ai5 [(.int .i64 Aa.1),(.int .i64 Aa.2.1),(.int .i64 Aa.2.2.1),(.int .i64 Aa.2.2.2.1),(.int .i64 Aa.2.2.2.2)] Art rfl rfl rfl rfl (by simp [isOne]) (Cg.b p0) λHf D5 D6=>AOz ?_);have Ac:=Cg.sb p0 D6 D5 rfl;obtain ⟨D7,Ch,Ak⟩:=AOw D2;refine Arb 1267650297996774497839409528896 (λx:Unit=>[]) (λx h'=>(Sum.inr <| ())=D7/\Kst h h' (Ac.L)) ?_ ?_
     ·refine AOv<|Ai6 Anv Aii (Ac.b p0) 0 rfl (AOr<|Ahn rfl rfl (AOr ?_));by_cases Ar:Aa.1 < D0
      ·rw [decide_eq_true Ar];refine An1 82 true<|Ahc rfl (AOr<|Alf 89 true<|Ahc rfl (AOr<|Aki 95 true<|Ahc rfl (AOz<|Ahp rfl (AOv<|AO1 ?_))));obtain rfl:=AOu<|ifT Ch Ar;refine AO6<|Ag7<|Ail<|Ag7<|Ag7<|Ail<|Ag7 ?_;obtain rfl:=AOu<|Aj _ (AOu Ak).symm;exact ⟨_,AO7,Ac.x,rfl⟩
      ·have Ci:=ifF Ch Ar;rw [decide_eq_false Ar];refine Ahb 82 false<|Ah2 Anv rfl (Ahb 82 false<|Ahu Aii rfl ((Ac.b p0).cell (i:=0) rfl) (Ahb 82 false<|AOr<|Ahb 82 false<|Amr rfl rfl (Ahb 82 false<|Anj rfl rfl (APd rfl (AOr ?_)))));by_cases Au:(w64<|A5 - 3) < Aa.1
       ·rw [decide_eq_true Au];refine Alf 89 true<|Ahc rfl (AOr<|Aki 95 true<|Ahc rfl (AOz<|Ahp rfl (AOv<|AO1 ?_)));obtain rfl:=AOu<|ifT Ci Au;refine AO6<|Ag7<|Ail<|Ag7<|Ag7<|Ail<|Ag7 ?_;obtain rfl:=AOu<|Aj _ (AOu Ak).symm;exact ⟨_,AO7,Ac.x,rfl⟩
       ·rw [decide_eq_false Au];refine Ahb 89 false<|Anm [(.int .i64 Aa.1),(.int .i64 Aa.2.1),(.int .i64 Aa.2.2.1),(.int .i64 Aa.2.2.2.1),(.int .i64 Aa.2.2.2.2)] Art rfl rfl (Ac.b p0).agg (Ahb 89 false<|AOr<|Ahb 89 false ?_);obtain ⟨D8,D9,Cj⟩:=AOw<|ifF Ci Au;refine Akb Ac (A29 D9) λHg Hh Bp=>Ahb 89 false<|Akc rfl (APd rfl (AOr ?_));cases Ck:(!D8)
        ·refine Ahb 95 false<|Anm [(.int .i64 Aa.1),(.int .i64 Aa.2.1),(.int .i64 Aa.2.2.1),(.int .i64 Aa.2.2.2.1),(.int .i64 Aa.2.2.2.2)] Art rfl rfl (Bp.b p0).agg (Ahb 95 false ?_);obtain ⟨Hj,Ea,Cm⟩:=AOw<|Aok Cj Ck;refine Akb Bp (Awr Ea) λHk Hl Cn=>Ahb 95 false<|Akc rfl (APd rfl (AOz<|⟨_,rfl,λBq=>?_,λBq=>?_⟩))
         ·refine AOv<|AO1 ?_;obtain rfl:=AOu<|ifT Cm Bq;refine AO6<|Ag7<|Ail<|Ag7<|Ag7<|Ail<|Ag7 ?_;obtain rfl:=AOu<|Aj _ (AOu Ak).symm;exact ⟨_,AO7,Cn.x,rfl⟩
         ·refine AO5<|q_t ?_;exact ⟨(():Unit),⟨AOu<|Aok Cm Bq,Cn⟩,trivial⟩
        ·refine Aki 95 true<|Ahc rfl (AOz<|Ahp rfl (AOv<|AO1 ?_));obtain rfl:=AOu<|ifT Cj Ck;refine AO6<|Ag7<|Ail<|Ag7<|Ag7<|Ail<|Ag7 ?_;obtain rfl:=AOu<|Aj _ (AOu Ak).symm;exact ⟨_,AO7,Bp.x,rfl⟩
     rintro ⟨⟩ Hm Hn ⟨Eb,Av⟩;subst Eb;refine AOx<|Ame<|AOr<|AOr ?_;obtain ⟨Co,Cp,Ec⟩:=AOw Ak;refine Aiw APa Aha (Av.o2 p1) Cp λ_ Ho Ed=>AOr<|Ai6 Ar8 AO9 (Av.b p0) 2 rfl (Ai6 Anv Aii (Av.b p0) 0 rfl ?_);obtain ⟨Ee,Ef⟩:=ifN Ec;refine A00 rfl rfl Ee ?_;obtain ⟨Hq,Eg,Eh⟩:=AOw Ef;refine Aqv (m:=Ab) Av p1 APe AO9 Ed Cp Eg (λ_=>rfl) λ_ Hr Ad=>AOz ?_;obtain ⟨Ei,Cq,Ej⟩:=AOw Eh;refine Arb 2854495385409323613687304525084725024600883200 (λx:(LiI) × LnA × LnN × LvA=>[]) (λx h'=>( x.1)=Ei/\Kst h h' (Ad.L.set 1<|aO2 (cI .i64) 61 2 x.2.1 x.2.2.1 x.2.2.2 Bi x.1)) ?_ ?_
     ·refine AOv<|Ai6 Ar7 Aii (Ad.b p0) 1 rfl (Ai0 rfl rfl (AOz<|⟨_,rfl,λBr=>?_,λBr=>?_⟩))
      ·refine AOx<|Ame<|AOr<|AOr ?_;obtain ⟨Ek,Cr,El⟩:=AOw<|Ahy Cq Br;refine Aiw APa Aha (Ad.o2 p1) Cr λ_ Hs Em=>AOr<|Ahk rfl rfl (Ai6 Ate AO9 (Ad.b p0) 3 rfl (Ai6 Anv Aii (Ad.b p0) 0 rfl ?_));obtain ⟨En,Eo⟩:=ifN El;refine A00 rfl rfl En ?_;obtain ⟨Ht,Ep,Er⟩:=AOw Eo;refine Aqv (m:=Ab) Ad p1 APe AO9 Em Cr Ep (λ_=>rfl) λ_ Hu Aw=>AOz<|AOx<|Ame<|AOr<|AOr<|Ahk rfl rfl ?_;obtain ⟨Es,Ct,Et⟩:=AOw Er;refine Aiw APa Aha (Aw.o2 p1) Ct λ_ Hv Eu=>AOr<|Ai6 Ate AO9 (Aw.b p0) 3 rfl (Ai6 Anv Aii (Aw.b p0) 0 rfl ?_);obtain ⟨Ev,Ew⟩:=ifN Et;refine A00 rfl rfl Ev ?_;obtain ⟨Hw,Ey,Ez⟩:=AOw Ew;refine Aqv (m:=(w64<|Ab + 1)) Aw p1 APe AO9 Eu Ct Ey (λ_=>rfl) λ_ Hx Ax=>AOz<|Ame<|AOr<|AOr<|Ahk rfl rfl ?_;obtain ⟨Fa,Cu,Fb⟩:=AOw Ez;refine Aiw APa Aha (Ax.o2 p1) Cu λ_ Hy Fc=>AOr<|Ahk rfl rfl (Ai6 Avn AO9 (Ax.b p0) 4 rfl (Ai6 Anv Aii (Ax.b p0) 0 rfl ?_));obtain ⟨Fd,Fe⟩:=ifN Fb;refine A00 rfl rfl Fd ?_;obtain ⟨Hz,Ff,Fg⟩:=AOw Fe;refine Aqv (m:=(w64<|Ab + 1)) Ax p1 APe AO9 Fc Cu Ff (λ_=>rfl) λ_ H5 Fh=>AOz ?_;exact ⟨(((sI (sI (sI (sI Cb Ab<|sI Co Ab<|w64<|Aa.2.2.1 * 2 ^ Int.toNat Aa.1) Ab<|sI Ek (w64<|Ab + 1)<|w64<|Aa.2.2.2.1 * 2 ^ Int.toNat Aa.1) (w64<|Ab + 1)<|sI Es Ab<|w64<|Aa.2.2.2.1 * 2 ^ Int.toNat Aa.1) (w64<|Ab + 1)<|sI Fa (w64<|Ab + 1)<|w64<|Aa.2.2.2.2 * 2 ^ Int.toNat Aa.1),Cd,Ce,Cf):(LiI) × LnA × LnN × LvA),⟨AOu Fg,Fh⟩,trivial⟩
      ·refine AO5<|q_t ?_;exact ⟨(((sI Cb Ab<|sI Co Ab<|w64<|Aa.2.2.1 * 2 ^ Int.toNat Aa.1),Cd,Ce,Cf):(LiI) × LnA × LnN × LvA),⟨AOu<|Ahz Cq Br,Ad⟩,trivial⟩
     rintro ⟨Ia,Ib,Ic,Id⟩ Ie If ⟨Fi,Bt⟩;subst Fi;refine AOv<|AOr<|Ai6 Ar7 Aii (Bt.b p0) 1 rfl (Ahk rfl rfl (AO1<|Ag6<|Ai6 Anv Aii (Bt.b p0) 0 rfl (Aho<|Ahh<|q_b<|q_t<|Ag6<|Ahk rfl rfl (AOr<|AOz ?_))));exact ⟨(_,_,_,_,_,_,_),(AOu Ej).symm,Bt.sel [1,2] AOs,rfl,rfl,rfl,trivial⟩
    ·refine Ahf<|Ahg<|Ahg<|Aio<|q_t<|AOx<|Ame<|AOr<|Ai6 Apd Aia (Af.b p1) 1 rfl (AOr ?_);obtain ⟨Fj,Fk⟩:=ifN<|Aj _ (AOu<|Ahz Bn Bo).symm;refine A00 rfl rfl Fj ?_;obtain ⟨⟨Ih,Ii⟩,Fl,Cv⟩:=AOw Fk;dsimp only at Cv;refine Aqs rfl (A0j (H2.ext Af.x) (H7.ext Af.x) Fl) λIj Ik Fm Fo=>?_;obtain ⟨Il,Im,Io,Ip,rfl,Fp,Fq⟩:=Fo;refine AOr<|Ait rfl rfl (Ait rfl rfl (Aho<|AO1<|AOx<|AOv<|AOr ?_));have Cw:=Af.no2 Fm Fq Fp;refine Ahx APa rfl (Cw.o2 p0).rd (AOr<|AOz<|AO0 ?_);have Bu:=Cw.sel [0,1] AOs;dsimp only [Aoz,Ar4] at Bu;refine Arf 6277100987097842450413495302921032065365449380626603966528 Cv (λx=>[(169,(.int .i64 x))]) (λx=>Bu.L) Bu ⟨rfl,trivial⟩ ?_;rintro Cx Iq Ir Is Am Bv Cy;unfold Aqk at Bv;refine AOv<|Ahn rfl rfl (AOz<|AOx<|⟨_,rfl,λBw=>?_,λBw=>?_⟩)
     ·refine AO5<|q_t<|AOx<|AO0<|AOv<|AOr ?_;obtain ⟨It,Cz,Fr⟩:=AOw<|Ahy Bv Bw;refine Aiw APa Aha (Am.o2 p0) Cz λ_ Iu C0=>Aho<|Ah7<|AOr<|Aim APe rfl ((Am.o2 p0).rowI C0 Cz) (AOr<|AOz<|AO0<|Arf 3138455086722036263864247314914636313727201551036905947200 Fr (λx=>[(176,(.int .i64 x))]) (λx=>Am.L) Am ⟨rfl,trivial⟩ ?_);rintro Iv Iw Ix Iy Ag Bx C1;unfold Atp at Bx;refine AOv<|Ahn rfl rfl (AOz<|AOx<|⟨_,rfl,λBy=>?_,λBy=>?_⟩)
      ·refine AO5<|q_t<|AOx<|AO0<|AOv<|AOr ?_;obtain ⟨Iz,Ft,Fu⟩:=AOw<|Ahy Bx By;obtain ⟨I0,Fv,Fw⟩:=AOw Fu;refine Atw (m:=Cx) APe AO9 (Ag.o2 p0) C0 Ft Fv λ_=>(Aho<|Ah7<|AOr<|AOr<|AOr ?_);obtain ⟨I1,C2,Fx⟩:=AOw Fw;refine Aiw APa Aha (Ag.o2 p1) C2 λ_ I2 Fy=>AOr ?_;obtain ⟨I3,Fz,C3⟩:=AOw Fx;refine Atw (m:=Cx) APe AO9 (Ag.o2 p1) Fy C2 Fz λ_=>(Ajs rfl rfl (AOz<|⟨_,rfl,λBz=>?_,λBz=>?_⟩))
       ·refine AOv<|AO1<|AO6<|Ail<|Ag7<|Ag7<|Ail<|Ail<|Ag7<|Ag7<|Ail<|Ag7 ?_;obtain rfl:=AOu<|Cy _ (AOu<|C1 _ (AOu<|Ahy C3 Bz).symm).symm;exact ⟨_,AO7,Ag.x,rfl⟩
       ·refine AO5<|q_b<|q_t<|Ag6<|Ahk rfl rfl (AOr<|AOz ?_);exact ⟨_,(AOu<|Ahz C3 Bz).symm,Ag,rfl,trivial⟩
      ·refine Ahf<|Ahg<|Ahg<|Aio<|q_b<|q_t<|Ag6<|Ahk rfl rfl (AOr<|AOz ?_);exact ⟨_,(AOu<|C1 _ (AOu<|Ahz Bx By).symm).symm,Ag,rfl,trivial⟩
     ·refine Ahf<|Ahg<|Ahg<|Aio<|q_t<|AOv<|AO1<|AO6 ?_;obtain rfl:=AOu<|Cy _ (AOu<|Ahz Bv Bw).symm;exact ⟨_,AO7,Am.x,rfl⟩
noncomputable def Ats (fuel:Nat) (a3:LiI) (Ae:List Ak8) (Aa Ab:Int):Option ((Int × Int) ⊕ (Int ⊕ Int)):=
 if Ab < (Ae.length:Int) then (gI Ae Ab).bind λAc=>((if ¬ Ac.2.1=1 then if ¬ Ac.2.1=2 then some (.inl 3) else if (a3.length:Int) < Aa then some (.inl 3) else some (.inr ()) else if (a3.length:Int) < Aa then some (.inl 3) else some<|.inr ()):Option (Int ⊕ Unit)).bind (λex=>match ex with | .inl Af=>(some<|.inr<|.inl Af) | .inr _=>some<|.inl (w64<|Aa + Ac.2.1,w64<|Ab + 1)) else some<|.inr<|.inr Aa
noncomputable def Aqm (fuel:Nat) (a3 a8:LiI) (Aa:Int):Option (Int ⊕ (Int ⊕ Unit)):=
 if Aa < (a8.length:Int) then (gI a8 Aa).bind λAd=>if ¬ (Ad.length:Int)=(a3.length:Int) then some (.inr<|.inl 3) else some (.inl<|w64<|Aa + 1) else some<|.inr<|.inr ()
noncomputable def Aps (fuel:Nat) (a3:LiI) (a5:Int) (a8:LiI) (Ad:List Ak8):Option Int:=
 (Ayb fuel a3).bind λAe=>if (!Ae)=true then some 6 else if ¬ a5=2 then some 20 else if ¬ (a8.length:Int)=(a3.length:Int) then some 3 else (iter (λs=>Aqm fuel a3 a8 s) fuel 0).bind (λex=>match ex with | .inl Af=>(some Af) | .inr _=>(iter (λs=>Ats fuel a3 Ad s.1 s.2) fuel (0,0)).bind (λex=>match ex with | .inl Ag=>(some Ag) | .inr Ah=>if ¬ Ah=(a3.length:Int) then some 3 else (Ao3 fuel a3 2).bind λ(Ai,Ak)=>(At3 fuel a3 a5 a8 Ad Ai).bind λAj=>if (!Aj)=true then some 10 else some 0))
theorem Ayz {A9:Value} {a3:LiI} {Ah:Value} {a8:LiI} {Ai:Value} {Bc:(List Ak8)} {r:Int} (H2:Ajw (cI .i64) h A9 a3) (H7:Ajw (cI .i64) h Ah a8) (Ar:SlC Arc h Ai Bc) (HO:A3p h) (hp:Aps fuel a3 a5 a8 Bc=some r):Ahs Tryz.prog 12 #[A9,(.agg #[(.int .i64 a5),Ah,Ai])] h (λx h'=>Ext h h'/\x= .int .i64 r):=by
 unfold Aps at hp;refine cwf (l:=[_,_]) Tryz.func12 rfl rfl (AOv<|Ano (Kst.k0 h) [(.int .i64 a5),Ah,Ai] λCb Cd Ce Be=>AO1<|AOx<|AOv<|AOr ?_);obtain ⟨Cf,Bw,Bf⟩:=AOw hp;refine Akb Be (A7t (H2.ext Be.x) Bw) λCg Ch Aa=>Akc rfl (AOz<|⟨_,rfl,λAu=>?_,λAu=>?_⟩)
 ·refine AOv<|AO1<|AO6<|Ag7 ?_;obtain rfl:=AOu<|ifT Bf Au;exact ⟨_,AO7,Aa.x,rfl⟩
 ·refine AO5<|q_t<|AOx<|AOv<|Ai6 Awj AO9 (Aa.b p0) 0 rfl (Ajs rfl rfl (AOz ?_));have Bg:=Aok Bf Au;refine ⟨_,rfl,λAv=>?_,λAv=>?_⟩
  ·refine AOv<|AO1<|AO6<|Ag7 ?_;obtain rfl:=AOu<|Ahy Bg Av;exact ⟨_,AO7,Aa.x,rfl⟩
  ·refine AO5<|q_t<|AOv<|AOr<|Ahx APa rfl H2 (AO1<|AOx<|AOv<|Ai6 Apd Aia (Aa.b p0) 1 rfl (Ahx APa rfl H7 (AOr<|Ajs rfl rfl (AOz ?_))));have Bh:=Ahz Bg Av;refine ⟨_,rfl,λAw=>?_,λAw=>?_⟩
   ·refine AOv<|AO1<|AO6<|Ag7 ?_;obtain rfl:=AOu<|Ahy Bh Aw;exact ⟨_,AO7,Aa.x,rfl⟩
   ·refine AO5<|q_t<|AOx<|AOv<|Ai6 Apd Aia (Aa.b p0) 1 rfl (Ahx APa rfl H7 (AOr<|AOz<|AO0<|Arf 274341036176 (Ahz Bh Aw) (λx=>[(29,(.int .i64 x))]) (λx=>Aa.L) Aa ⟨rfl,trivial⟩ ?_));rintro Ci Cj Ck Cm Ad Ax Bi;unfold Aqm at Ax;refine AOv<|Ahn rfl rfl (AOz<|AOx<|⟨_,rfl,λAy=>?_,λAy=>?_⟩)
    ·refine AO5<|q_t<|AOx<|AO0<|AOv ?_;obtain ⟨Cn,Bx,Bj⟩:=AOw<|Ahy Ax Ay;refine An3 APa Aha H7 Ad.x Bx λ_ Co By=>Ah7<|AOr<|Aim APe rfl By (AOr<|Ajs rfl rfl (AOz<|⟨_,rfl,λAz=>?_,λAz=>?_⟩))
     ·refine AOv<|AO1<|AO6<|Ail<|Ag7<|Ag7<|Ail<|Ag7 ?_;obtain rfl:=AOu<|Bi _ (AOu<|Ahy Bj Az).symm;exact ⟨_,AO7,Ad.x,rfl⟩
     ·refine AO5<|q_b<|q_t<|Ag6<|Ahk rfl rfl (AOr<|AOz ?_);exact ⟨_,(AOu<|Ahz Bj Az).symm,Ad,rfl,trivial⟩
    ·refine Ahf<|Ahg<|Ahg<|Aio<|q_t<|AOv<|AO1<|AOx<|AOv<|Ai6 Ao4 Avc (Ad.b p0) 2 rfl (Aim Atu rfl Ar (AOr<|AOz<|AO0<|Arf 9223369837831521552 (Bi _ (AOu<|Ahz Ax Ay).symm) (λx=>[(8,(.int .i64 x.1)),(41,(.int .i64 x.2))]) (λx=>Ad.L) Ad ⟨rfl,rfl,trivial⟩ ?_));rintro ⟨Cp,Cq⟩ Cr Ct Cu Ae A3 Am;unfold Ats at A3;refine AOv<|Ahn rfl rfl (AOz<|AOx<|⟨_,rfl,λA4=>?_,λA4=>?_⟩)
     ·refine AO5<|q_t<|AOx<|AO0<|AOv ?_;obtain ⟨Ac,Bz,B1⟩:=AOw<|Ahy A3 A4;refine Aqu (c:=Arc) Atu rfl Ar rfl Bz λCv Cw Cx B3 B4=>?_;obtain rfl:=B3;refine Aum (c:=Arc) Art rfl rfl (λj u hu=>(AO8 (B4 j u hu) Ae.x)) (Aj4 Ae [(.int .i64 0),(.int .i64 0),(.int .i64 0),(.int .i64 0),(.int .i64 0)] Axp λCy Cz C0 Bl=>Ai5 [(.int .i64 Ac.1),(.int .i64 Ac.2.1),(.int .i64 Ac.2.2.1),(.int .i64 Ac.2.2.2.1),(.int .i64 Ac.2.2.2.2)] Art rfl rfl rfl rfl (by simp [isOne]) (Bl.b p0) λC1 B5 B6=>AOz ?_);have Ab:=Bl.sb p0 B6 B5 rfl;obtain ⟨B7,Bm,Ao⟩:=AOw B1;refine Arb 288195191779622928 (λx:Unit=>[]) (λx h'=>(Sum.inr <| ())=B7/\Kst h h' (Ab.L)) ?_ ?_
      ·refine AOv<|Ai6 Ar7 Aii (Ab.b p0) 1 rfl (Ajs rfl rfl (AOr ?_));by_cases Ap: ¬ Ac.2.1=1
       ·have Bn:=ifT Bm Ap;rw [decide_eq_true Ap];refine Ahb 48 true<|Ah2 Ar7 rfl (Ahb 48 true<|Ahu Aii rfl ((Ab.b p0).cell (i:=1) rfl) (Ahb 48 true<|Ajs rfl rfl (Ahc rfl (AOr ?_))));by_cases Aq: ¬ Ac.2.1=2
        ·rw [decide_eq_true Aq];refine Aki 53 true<|Ahc rfl (AOz<|Ahp rfl (AOv<|AO1 ?_));obtain rfl:=AOu<|ifT Bn Aq;refine AO6<|Ag7<|Ail<|Ag7<|Ag7<|Ail<|Ag7 ?_;obtain rfl:=AOu<|Am _ (AOu Ao).symm;exact ⟨_,AO7,Ab.x,rfl⟩
        ·have Bo:=ifF Bn Aq;rw [decide_eq_false Aq];refine Ahb 53 false<|AOr<|Ahb 53 false<|AOr<|Ahb 53 false<|Anj rfl rfl (APd rfl (AOz<|⟨_,rfl,λA5=>?_,λA5=>?_⟩))
         ·refine AOv<|AO1 ?_;obtain rfl:=AOu<|Ahy Bo A5;refine AO6<|Ag7<|Ail<|Ag7<|Ag7<|Ail<|Ag7 ?_;obtain rfl:=AOu<|Am _ (AOu Ao).symm;exact ⟨_,AO7,Ab.x,rfl⟩
         ·refine AO5<|q_t ?_;exact ⟨(():Unit),⟨AOu<|Ahz Bo A5,Ab⟩,trivial⟩
       ·have Bp:=ifF Bm Ap;rw [decide_eq_false Ap];refine Aki 48 false<|APd rfl (AOr<|Ahb 53 false<|AOr<|Ahb 53 false<|AOr<|Ahb 53 false<|Anj rfl rfl (APd rfl (AOz<|⟨_,rfl,λA6=>?_,λA6=>?_⟩)))
        ·refine AOv<|AO1 ?_;obtain rfl:=AOu<|Ahy Bp A6;refine AO6<|Ag7<|Ail<|Ag7<|Ag7<|Ail<|Ag7 ?_;obtain rfl:=AOu<|Am _ (AOu Ao).symm;exact ⟨_,AO7,Ab.x,rfl⟩
        ·refine AO5<|q_t ?_;exact ⟨(():Unit),⟨AOu<|Ahz Bp A6,Ab⟩,trivial⟩
      rintro ⟨⟩ C2 C3 ⟨B8,Bq⟩;subst B8;refine Ag6<|AOr<|Ai6 Ar7 Aii (Bq.b p0) 1 rfl (Ahk rfl rfl (Aho<|Ahh<|q_b<|q_t<|Ag6<|Ahk rfl rfl (AOr<|AOz ?_)));exact ⟨_,(AOu Ao).symm,Bq.sel [1] AOs,rfl,rfl,trivial⟩
     ·refine Ahf<|Ahg<|Ahg<|Aio<|q_t<|AOx<|AOv<|AOr<|AOr<|Ajs rfl rfl (AOz ?_);have Br:=Am _ (AOu<|Ahz A3 A4).symm;refine ⟨_,rfl,λA7=>?_,λA7=>?_⟩
      ·refine AOv<|AO1<|AO6<|Ag7 ?_;obtain rfl:=AOu<|Ahy Br A7;exact ⟨_,AO7,Ae.x,rfl⟩
      ·refine AO5<|q_t<|AOv<|AOr ?_;obtain ⟨⟨C4,C5⟩,B9,Bt⟩:=AOw<|Ahz Br A7;dsimp only at Bt;refine Akb Ae (A1q (H2.ext Ae.x) (HO.ext Ae.x) B9) λC6 C7 Af=>AOr<|Ait rfl rfl (Ait rfl rfl (Aho<|AO1<|AOx<|AOv<|AOr<|Anm [(.int .i64 a5),Ah,Ai] Ai7 rfl rfl (Af.b p0).agg (AOr ?_)));obtain ⟨C8,Ca,Bu⟩:=AOw Bt;refine Akb Af (A32 (H2.ext Af.x) (H7.ext Af.x) (Ar.ext Af.x) Ca) λC9 Da Bv=>Akc rfl (AOz<|⟨_,rfl,λA8=>?_,λA8=>?_⟩)
       ·refine AOv<|AO1<|AO6<|Ag7 ?_;obtain rfl:=AOu<|ifT Bu A8;exact ⟨_,AO7,Bv.x,rfl⟩
       ·refine AO5<|q_t<|AOv<|AO1<|AO6 ?_;obtain rfl:=AOu<|Aok Bu A8;exact ⟨_,AO7,Bv.x,rfl⟩
noncomputable def Aox (fuel:Nat):Option Bool:=
 (Aqr fuel 2 ([([1,0]:List Int),([0,1]:List Int)]:List LiA) ([(0,2,2,1,2)]:List Ak8)).bind λ(Aa,Ab)=>if Ab=true then (Aps fuel ([([2,1]:List Int),([1,2]:List Int)]:List LiA) 2 ([([1,0]:List Int),([0,1]:List Int)]:List LiA) ([(0,2,2,1,2)]:List Ak8)).bind λAc=>if Ac=0 then (Azw fuel 2 ([([1,0]:List Int),([0,1]:List Int)]:List LiA) ([(0,2,2,1,2)]:List Ak8)).bind λAd=>if Ad=true then (Ar2 fuel Aa ([(0,2,-1,false,0)]:List Att)).bind λAe=>some Ae else some false else some false else some false
theorem Azx (HO:A3p h) (hp:Aox fuel=some r):Ahs Tryz.prog 14 #[] h (λx h'=>Ext h h'/\x= .bool r):=by
 unfold Aox at hp;refine cwf (l:=[]) Tryz.func14 rfl rfl (AOv<|Ah7<|A9w (κ:= .i64) [2,1] APe Ars rfl rfl trivial tt2 rfl rfl rfl rfl λb1 v2 h3 I4 E5 A3 A4=>A9w (κ:= .i64) [1,2] APe Ars rfl rfl trivial tt2 rfl rfl rfl rfl λA5 A6 Cq A7 A8 A9 Ba=>?_);have Ab:=((Kst.k0 h).no E5 (Anw A3 A4) I4).no A8 (Anw A9 Ba) A7;have Ao:=(((Ab.a0).grab p1).grab p0);refine A8q (c:=(cI .i64)) (el:=2) [[b1],[A5]] [v2,A6] [([2,1]:List Int),([1,2]:List Int)] APa As9 rfl rfl trivial tt2 rfl rfl rfl rfl (Aic (Ab.o p1).isOne<|Aic (Ab.o p0).isOne Aon) ⟨(Ab.o p1),(Ab.o p0),trivial⟩ (by simpa using Ao.ndT) λCr Ct Cu Bb Bc Be=>Ah7<|A9w (κ:= .i64) [1,0] APe Ars rfl rfl trivial tt2 rfl rfl rfl rfl λBf Bg Cv Bh Bi Bj Bl=>A9w (κ:= .i64) [0,1] APe Ars rfl rfl trivial tt2 rfl rfl rfl rfl λBm Bn Cw Bo Bp Bq Br=>?_;have Ac:=((Ao.lit Bc Bb<|by simpa using Be).no Bi (Anw Bj Bl) Bh).no Bp (Anw Bq Br) Bo;have Ap:=(((Ac.a0).grab p1).grab p0);refine A8q (c:=(cI .i64)) (el:=2) [[Bf],[Bm]] [Bg,Bn] [([1,0]:List Int),([0,1]:List Int)] APa As9 rfl rfl trivial tt2 rfl rfl rfl rfl (Aic (Ac.o p1).isOne<|Aic (Ac.o p0).isOne Aon) ⟨(Ac.o p1),(Ac.o p0),trivial⟩ (by simpa using Ap.ndT) λCx Ad Cy Bt Bu Bv=>Alh (v:=(.agg #[(.int .i64 0),(.int .i64 2),(.int .i64 2),(.int .i64 1),(.int .i64 2)])) (λ_=>by kernel_rfl)<|BJj Arc ([(0,2,2,1,2)]:List Ak8) [[(.int .i64 0),(.int .i64 2),(.int .i64 2),(.int .i64 1),(.int .i64 2)]] [(0,(.agg #[(.int .i64 0),(.int .i64 2),(.int .i64 2),(.int .i64 1),(.int .i64 2)]))] Atu Axp rfl trivial tt2 rfl rfl rfl AO4 rfl (BE4 (λ_=>rfl) BE3) λCz Ae C0 Bw Bx By Bz=>?_;have Aj:=(Ap.lit Bu Bt<|by simpa using Bv).no Bx (Anw By Bz) Bw;obtain ⟨_,_,_,B1⟩:=(Aj.o2 p1).rd.shape;obtain ⟨_,_,_,B3⟩:=(Aj.o p0).rd.shape;refine Alh (v:=(.agg #[(.int .i64 2),Ad,Ae])) (λ_=>by subst B1;subst B3;kernel_rfl)<|Aj4 Aj [(.int .i64 0),(.slice none 0 0),(.slice none 0 0)] A2b λC1 C2 C3 Ag=>Ai5 [(.int .i64 2),Ad,Ae] Ai7 rfl rfl rfl rfl (Aic rfl (Aic (Ag.o2 p2).isOne<|Aic (Ag.o p1).isOne Aon)) (Ag.b p0) λC4 B4 B5=>Apt ?_;have Ah:=Ag.sb p0 B5 B4 rfl;refine Anm [(.int .i64 2),Ad,Ae] Ai7 rfl rfl (Ah.b p0).agg ?_;obtain ⟨⟨C5,B6⟩,B7,Ak⟩:=AOw hp;dsimp only at Ak;refine Aqs rfl (Avm (Ah.o2 p2).rd (Ah.o p1).rd B7) λC6 C7 B8 B9=>?_;obtain ⟨C8,C9,rfl,Ca,Cb⟩:=B9;refine AOr<|Ait rfl rfl (Ait rfl rfl (Aho<|Ah7<|AOr<|AOr ?_));have Aa:=Ah.no B8 Cb Ca;cases Aq:B6
 ·refine Alf 20 false<|APd rfl (AOr<|Aqc 26 false<|APd rfl (AOr<|Alf 30 false<|APd rfl (AO1<|AO6 ?_)));obtain rfl:=AOu<|Aok Ak Aq;exact ⟨_,AO7,Aa.x,rfl⟩
 ·refine Ahb 20 true<|AOr<|Ahb 20 true<|Anm [(.int .i64 2),Ad,Ae] Ai7 rfl rfl (Aa.b p1).agg (Ahb 20 true ?_);obtain ⟨Cd,Ce,Ar⟩:=AOw<|ifT Ak Aq;refine Akb Aa (Ayz (Aa.o2 p6).rd (Aa.o2 p3).rd (Aa.o p2).rd (HO.ext Aa.x) Ce) λDa Db Af=>Ahb 20 true<|Ai0 rfl rfl (Ahc rfl (AOr ?_));by_cases Ai:Cd=0
  ·rw [decide_eq_true Ai];refine Ahb 26 true<|Anm [(.int .i64 2),Ad,Ae] Ai7 rfl rfl (Af.b p1).agg (Ahb 26 true ?_);obtain ⟨Cf,Cg,Au⟩:=AOw<|ifT Ar Ai;refine Akb Af (A5p (Af.o2 p3).rd (Af.o p2).rd Cg) λDc Dd Av=>Ahc rfl (AOr ?_);cases Aw:Cf
   ·refine Alf 30 false<|APd rfl (AO1<|AO6 ?_);obtain rfl:=AOu<|Aok Au Aw;exact ⟨_,AO7,Av.x,rfl⟩
   ·refine Ahb 30 true<|AOr<|Ahb 30 true<|Alh (v:=(.agg #[(.int .i64 0),(.int .i64 2),(.int .i64<|-1),(.bool false),(.int .i64 0)])) (λ_=>by kernel_rfl)<|Ahb 30 true<|BJj Awh ([(0,2,(-1),false,0)]:List Att) [[(.int .i64 0),(.int .i64 2),(.int .i64<|-1),(.bool false),(.int .i64 0)]] [(0,(.agg #[(.int .i64 0),(.int .i64 2),(.int .i64<|-1),(.bool false),(.int .i64 0)]))] A1k A9p rfl trivial tt2 rfl rfl rfl AO4 rfl (BE4 (λ_=>rfl) BE3) λDe Df Dg Ch Ci Cj Ck=>Ahb 30 true ?_;have Am:=Av.no Ci (Anw Cj Ck) Ch;obtain ⟨Dh,Cm,Cn⟩:=AOw<|ifT Au Aw;refine Akb Am (Ax7 (Am.o p1).rd (Am.o p0).rd Cm) λDi Dj Co=>Ahc rfl (AO1<|AO6 ?_);obtain rfl:=AOu Cn;exact ⟨_,AO7,Co.x,rfl⟩
  ·rw [decide_eq_false Ai];refine Aqc 26 false<|APd rfl (AOr<|Alf 30 false<|APd rfl (AO1<|AO6 ?_));obtain rfl:=AOu<|ifF Ar Ai;exact ⟨_,AO7,Af.x,rfl⟩
end Go.Proofs.YtkakafabeobahaaGreatDoor
namespace Go.Proofs.YtkakafabeobahaaGreatDoor
open Go Go.QF
set_option maxRecDepth 100000
theorem BQ3 (a:Int):A0z .and .i64 a 1=a % 2:=by
 show w64 (((BitVec.ofInt 64 a &&& BitVec.ofInt 64 1).toNat:Nat):Int)=_;rw [BitVec.toNat_and,BitVec.toNat_ofInt,BitVec.toNat_ofInt,show ((1:Int) % ((2 ^ 64:Nat):Int)).toNat=1 by decide,Nat.and_one_is_mod,wk AOq];omega
theorem BAm (hk:k<=30):w64 (1 * 2 ^ Int.toNat (k:Int))=(2:Int) ^ k:=by
 have h1:(2:Int) ^ k<=2 ^ 30:=Al1 AOs hk;have h2:0 < (2:Int) ^ k:=Int.pow_pos AOs;have h3:(2:Int) ^ 30=1073741824:=by decide
 rw [Int.toNat_natCast,Int.one_mul,wk AOq]
theorem BQ4 {n:Nat} {T:Ahe} (hn:n<=8) (hk:k<=30) (hf:100 < fuel):Ok (iter (λs=>Aql fuel (tab n n T) k s) fuel 0) λex=>(ex= .inr ()/\Rng n (2 ^ k) T)∨(ex= .inl false/\¬ Rng n (2 ^ k) T):=by
 refine Axx (n:=n) (λi=> ∀ j,j < n->0<=T i j/\T i j < 2 ^ k) false AOq (λi hi=>?_) ?_
 ·unfold Aql;rw [Ahv,if_pos AOq,Akk<|Ahw hi];refine AOy (Axx (n:=n) (λj=>0<=T i j/\T i j < 2 ^ k) false AOq (λj hj=>?_) ?_) λex hex=>?_
  ·unfold Ato;rw [Ah0,if_pos AOq,Akk<|Ahr hj,BAm hk];exact Ag9 (λh=>AOt<|.inr ⟨rfl,AOq⟩) λh=>Ah8 AOq<|Ag9 (λh2=>AOt<|.inr ⟨rfl,AOq⟩) λh2=>AOt<|.inl ⟨by rw [Ah1 AOq],AOq⟩
  ·unfold Ato;rw [Ah0,if_neg AOq]
  ·rcases hex with ⟨rfl,h⟩ | ⟨rfl,h⟩
   ·exact AOt<|.inl ⟨by rw [Ah1 AOq],h⟩
   ·exact AOt<|.inr ⟨rfl,h⟩
 ·unfold Aql;rw [Ahv,if_neg AOq]
theorem BQ5 {e:Nat} {s b c:Int} (hek:e<=k) (hk:k<=30) (hf:100 < fuel):Ok (As1 fuel e s a b c k) λr=>r=true↔(0<=a/\a < 2 ^ (k - e))/\(0<=b/\b < 2 ^ (k - e))/\0<=c/\c < 2 ^ (k - e):=by
 have e1:w64 ((k:Int) - (e:Int))=((k - e:Nat):Int):=by rw [wk AOq];omega
 unfold As1;refine AOy (Axx (n:=3) (λi=> ∀ x,[a,b,c][i]? =some x->0<=x/\x < 2 ^ (k - e)) false AOq (λi hi=>?_) ?_) λex hex=>?_
 ·obtain ⟨x,hx⟩:∃ x,[a,b,c][i]? =some x:=⟨[a,b,c][i]'(by simpa using hi),List.getElem?_eq_getElem _⟩;unfold Ase;rw [if_pos AOq,Akk hx,e1,BAm AOq];exact Ag9 (λh=>AOt<|.inr ⟨rfl,λh2=>by grind⟩) λh=>Ah8 AOq<|Ag9 (λh2=>AOt<|.inr ⟨rfl,λh3=>by grind⟩) λh2=>AOt<|.inl ⟨by rw [Ah1 AOq],λy hy=>by grind⟩
 ·unfold Ase;grind
 ·rcases hex with ⟨rfl,h⟩ | ⟨rfl,h⟩
  ·exact AOt ⟨λ_=>⟨h 0 AOq a rfl,h 1 AOq b rfl,h 2 AOq c rfl⟩,λ_=>rfl⟩
  ·refine AOt ⟨λe=>(nomatch e),λh2=>absurd (λi hi x hx=>?_) h⟩;rcases (show i=0∨i=1∨i=2 by omega) with rfl | rfl | rfl
   ·grind
   ·grind
   grind
theorem BSe {e s b c:Int}:Ok (Aoi fuel e s a b c) λr=>r=true↔if s=1 then a % 2=1/\b=0/\c=0 else s=2/\a % 2=0/\b % 2=1/\c % 2=0:=by
 unfold Aoi;rw [BQ3,BQ3,BQ3];refine Ag9 (λh=>?_) λh=>?_
 ·rw [if_pos h];refine Ag9 (λh1=>Ag9 (λh2=>AOt ?_) λh2=>AOt ?_) λh1=>AOt ?_
  ·grind
  ·grind
  grind
 ·rw [if_neg h];refine Ag9 (λh0=>Ag9 (λh1=>Ag9 (λh2=>AOt ?_) λh2=>AOt ?_) λh1=>AOt ?_) λh0=>AOt ?_
  ·grind
  ·grind
  ·grind
  grind
theorem BAn {e:Nat} (hek:e<=k) (hk:k<=30) (h:0<=a/\a < 2 ^ (k - e)):w64 (a * 2 ^ Int.toNat (e:Int))=2 ^ e * a:=by
 have h1:(2:Int) ^ k<=2 ^ 30:=Al1 AOs hk;have h3:(2:Int) ^ 30=1073741824:=by decide
 have:=A6n (p:=2) AOs hek AOq h;rw [Int.toNat_natCast,Int.mul_comm,wk AOq]
theorem BQ6 {n:Nat} {L:List Ak8} (hn:n<=8) (hk:k<=30) (hk3:3<=k) (hsz:∀ b∈L,b.2.1=1∨b.2.1=2) (hs:Aws L=n) (hl:L.length<=n) (hf:100 < fuel):
 Ok (iter (λs=>Atq fuel L k s.1 s.2.1 s.2.2.1 s.2.2.2) fuel (0,0,0,tab n n λ_ _=>0)) λex=>(ex= .inr (tab n n<|A55 2 L 0 λ_ _=>0)/\ ∀ i,i < L.length->RG 2 k L i)∨(ex= .inl false/\¬ ∀ i,i < L.length->RG 2 k L i):=by
 refine Ah4 (λi s=> ∃ (r:Nat) (F:Ahe) (last:Int),s=((r:Int),last,(i:Int),tab n n F)/\r + Aws (L.drop i)=n/\A55 2 (L.drop i) r F=A55 2 L 0 (λ_ _=>0)/\(∀ j,j < i->RG 2 k L j)/\(if i=0 then last=0 else ∀ b,L[i - 1]? =some b->last=b.1)) L.length ⟨0,λ_ _=>0,0,rfl,by simpa using hs,rfl,λj hj=>absurd hj<|Nat.not_lt_zero j,by rw [if_pos rfl]⟩ AOq λi s hi hI=>?_;obtain ⟨r,F,last,rfl,hr,hb,hG,hlast⟩:=hI;unfold Atq;dsimp only
 by_cases h:i < L.length
 ·obtain ⟨b,hbi⟩:∃ b,L[i]? =some b:=⟨L[i],List.getElem?_eq_getElem h⟩
  have hdr:L.drop i=b :: L.drop (i + 1):=by
   rw [List.drop_eq_getElem_cons h];grind
  rw [hdr] at hr hb;have hszb:=hsz b<|List.mem_of_getElem? hbi;rw [if_pos AOq,Akk hbi];have hge0:RG 2 k L i->0<=b.1:=λhg=>(hg.1 b hbi).1.1
  have hasc:Asc L i/\0<=b.1->last<=b.1:=λ⟨ha,h0⟩=>by
   by_cases h1:i=0
   ·grind
   ·rw [if_neg h1] at hlast;obtain ⟨c,hc⟩:∃ c,L[i - 1]? =some c:=⟨L[i - 1],List.getElem?_eq_getElem _⟩;rw [hlast c hc];exact ha AOq b c hbi hc
  have hlast0:0<=last:=by
   by_cases h1:i=0
   ·grind
   ·rw [if_neg h1] at hlast;obtain ⟨c,hc⟩:∃ c,L[i - 1]? =some c:=⟨L[i - 1],List.getElem?_eq_getElem _⟩;rw [hlast c hc];exact ((hG (i - 1) AOq).1 c hc).1.1
  refine AOy (Q:=λex=>(ex= .inr ()/\RG 2 k L i)∨(ex= .inl false/\¬ RG 2 k L i)) ?_ λex hex=>?_
  ·refine Ag9 (λh1=>AOt<|.inr ⟨rfl,λhg=>by have:=hasc ⟨hg.2,hge0 hg⟩;omega⟩) λh1=>?_;rw [wk AOq];refine Ag9 (λh2=>AOt<|.inr ⟨rfl,λhg=>by have:=(hg.1 b hbi).1.2;omega⟩) λh2=>?_;obtain ⟨e,he⟩:∃ e:Nat,b.1=e:=⟨b.1.toNat,AOq⟩;rw [he]
   refine AOy (BQ5 AOq hk hf) λrr hrr=>Ag9 (λh3=>AOt<|.inr ⟨rfl,λhg=>?_⟩) λh3=>?_
   ·have hp:=A5o AOq hszb<|hg.1 b hbi;obtain ⟨e',he',_,hA,hz⟩:=hp;obtain rfl:e=e':=by omega
    have hpp:=(hg.1 b hbi).2;grind
   ·have hrr':=hrr.1 (by grind)
    refine AOy BSe λw hw=>Ag9 (λh4=>AOt<|.inr ⟨rfl,λhg=>?_⟩) λh4=>AOt<|.inl ⟨rfl,λc hc=>?_,λh5 c' d hc' hd=>?_⟩
    ·have hpp:=(hg.1 b hbi).2;grind
    ·rw [hbi] at hc;cases hc;have hw':=hw.1 (by grind);refine ⟨⟨AOq,AOq⟩,?_⟩;rw [he,Int.toNat_natCast];grind
    grind
  ·rcases hex with ⟨rfl,hg⟩ | ⟨rfl,hg⟩
   ·obtain ⟨e,he,hek,hA,hsz2⟩:=A5o AOq hszb<|hg.1 b hbi;have heN:b.1.toNat=e:=by omega
    unfold Aws at hr;rw [A55] at hb;rw [heN] at hb;have hr1:r < n:=by omega
    have hG2:∀ j,j < i + 1->RG 2 k L j:=λj hj=>(Nat.lt_succ_iff_lt_or_eq.1 hj).elim (hG j) λq=>q ▸ hg
    have hl2:(if i + 1=0 then (e:Int)=0 else ∀ c,L[i + 1 - 1]? =some c->(e:Int)=c.1):=by
     grind
    dsimp only;rw [he,Akk<|Ahw hr1,if_pos AOq,Akk<|Ahr hr1,BAn hek hk hA,Azi]
    rcases hsz2 with hz | ⟨hz,hB,hC⟩
    ·rw [if_neg AOq];simp only [Option.bind_some];rw [if_neg AOq] at hb;refine AOt ⟨h,r + 1,_,e,?_,AOq,hb,hG2,hl2⟩;rw [hz,Ah1 AOq,Ah1 AOq]
    ·have hr2:r + 1 < n:=by omega
     rw [if_pos hz,Akk<|Ahw hr1,if_pos AOq,Ah1 AOq,Akk<|Ahr hr2,BAn hek hk hB,Azi,Akk<|Ahw hr2,if_pos AOq,Akk<|Ahr hr1,Azi,Akk<|Ahw hr2,if_pos AOq,Akk<|Ahr hr2,BAn hek hk hC,Azi];simp only [Option.bind_some];rw [if_pos hz] at hb;refine AOt ⟨h,r + 2,_,e,?_,AOq,hb,hG2,hl2⟩;rw [hz,Ajz (x:=(r:Int) + 2) AOq AOq,Ah1 AOq];rfl
   ·exact AOt<|.inr ⟨rfl,λhall=>hg<|hall i h⟩
 ·obtain rfl:i=L.length:=by omega
  rw [if_neg AOq];rw [List.drop_length] at hb;exact AOt<|.inl ⟨by rw [<- hb];rfl,hG⟩
theorem BOd {n:Nat} {F G:Ahe} (hn:n<=8) (hf:100 < fuel):Ok (iter (λs=>Aqk fuel (tab n n F) (tab n n G) s) fuel 0) λex=>(ex= .inr ()/\ ∀ i,i < n-> ∀ j,j < n->G i j=F i j)∨(ex= .inl false/\¬ ∀ i,i < n-> ∀ j,j < n->G i j=F i j):=by
 refine Axx (n:=n) (λi=> ∀ j,j < n->G i j=F i j) false AOq (λi hi=>?_) ?_
 ·unfold Aqk;rw [Ahv,if_pos AOq,Akk<|Ahw hi];refine AOy (Axx (n:=n) (λj=>G i j=F i j) false AOq (λj hj=>?_) ?_) λex hex=>?_
  ·unfold Atp;rw [Ah0,if_pos AOq,Akk<|Ahw hi,Akk<|Ahr hj,Akk<|Ahw hi,Akk<|Ahr hj];exact Ag9 (λh=>AOt<|.inr ⟨rfl,h⟩) λh=>AOt<|.inl ⟨by rw [Ah1 AOq],Decidable.not_not.1 h⟩
  ·unfold Atp;rw [Ah0,if_neg AOq]
  ·rcases hex with ⟨rfl,h⟩ | ⟨rfl,h⟩
   ·exact AOt<|.inl ⟨by rw [Ah1 AOq],h⟩
   ·exact AOt<|.inr ⟨rfl,h⟩
 ·unfold Aqk;rw [Ahv,if_neg AOq]
theorem BHn {n:Nat} {A T:Ahe} {L:List Ak8} (Ab:1<=n) (hn:n<=8) (hk:k<=30) (Ac:3<=k) (hsz:∀ b∈L,b.2.1=1∨b.2.1=2) (hs:Aws L=n) (hl:L.length<=n) (hg:2147483648 < fuel):
 Ok (At3 fuel (tab n n A) 2 (tab n n T) L k) λb=>b=true↔RC n k 2 A T L:=by
 have hf:100 < fuel:=by omega
 have h1:(2:Int) ^ k<=2 ^ 30:=Al1 AOs hk;have h3:(2:Int) ^ 30=1073741824:=by decide
 have h4:(2:Int) ^ 1<=2 ^ k:=Al1 AOs AOq;rw [Int.pow_one] at h4;unfold At3 RC;refine AOy (BQ4 hn hk hf) λex hex=>?_;rcases hex with ⟨rfl,hR⟩ | ⟨rfl,hR⟩
 ·refine AOy (Aid<|BQu Ab hn AOs AOs hg) λd hd=>?_;subst hd;dsimp only;refine Ag9 (λh=>AOt ⟨λh2=>(nomatch h2),λh2=>absurd h h2.2.2.1⟩) λh=>?_;rw [Ahv,if_pos AOq,Int.toNat_natCast,A2n (n:=n) (λ_ _=>0) AOq (λi hi=>?_) λX=>?_]
  ·simp only [Option.bind_some];refine AOy (BQ6 hn hk Ac hsz hs hl hf) λex hex=>?_;rcases hex with ⟨rfl,hG⟩ | ⟨rfl,hG⟩
   ·dsimp only;rw [if_pos AOq,BAm hk];refine AOy (Aid<|BNs Ab hn AOq AOq hf) λg hgg=>?_;subst hgg;dsimp only;refine AOy (BOd hn hf) λex hex=>?_;rcases hex with ⟨rfl,hS⟩ | ⟨rfl,hS⟩
    ·exact AOt ⟨λ_=>⟨hG,hR,h,hS⟩,λ_=>rfl⟩
    ·exact AOt ⟨λh2=>(nomatch h2),λh2=>absurd h2.2.2.2 hS⟩
   ·exact AOt ⟨λh2=>(nomatch h2),λh2=>absurd h2.1 hG⟩
  ·unfold Atr;dsimp only;rw [Ahv,Int.toNat_natCast,List.length_replicate,if_pos AOq,if_pos AOq,Akk<|Avp hi,Aja,Ama n (0:Int),At1,A2m λc _=>rfl,Ah1 AOq]
  ·unfold Atr;dsimp only;rw [Ahv,Int.toNat_natCast,List.length_replicate,if_neg AOq]
 ·exact AOt ⟨λh=>(nomatch h),λh=>absurd h.2.1 hR⟩
end Go.Proofs.YtkakafabeobahaaGreatDoor
namespace Go.Proofs.YtkakafabeobahaaGreatDoor
open Go Go.QF
set_option maxRecDepth 100000
def Szs (L:List Ak8):Prop:= ∀ i,i < L.length-> ∀ b,L[i]? =some b->b.2.1=1∨b.2.1=2
theorem BF0 {L:List Ak8} (h:Szs L):L.length<=Aws L/\Aws L<=2 * L.length:=by
 induction L with
 | nil=>exact ⟨Nat.le_refl _,Nat.le_refl _⟩
 | cons b l ih=>
   have hb:=h 0 Ah6 b rfl
   have:=ih λi hi c hc=>h (i + 1) (by simpa using hi) c (by simpa using hc)
   unfold Aws
   grind
theorem BOe {L:List Ak8} (h:Szs L):∀ b∈L,b.2.1=1∨b.2.1=2:=λb hb=>by
 obtain ⟨i,hi⟩:=List.getElem?_of_mem hb
 exact h i (List.getElem?_eq_some_iff.1 hi).1 b hi
theorem BCt {L:List Ak8} {b:Ak8} (h:L[i]? =some b):L.drop i=b :: L.drop (i + 1):=by
 have hi:=(List.getElem?_eq_some_iff.1 h).1;rw [List.drop_eq_getElem_cons hi];grind
theorem BSf {n:Nat} {L:List Ak8} (hM:M.length=n) (hn:n<=8) (hl:L.length<=20) (hf:100 < fuel):Ok (iter (λs=>Ats fuel M L s.1 s.2) fuel (0,0)) λex=>(ex= .inr ((Aws L:Nat):Int)/\Szs L)∨(ex= .inl 3/\¬ (Szs L/\Aws L=n)):=by
 refine Ah4 (λi s=> ∃ r:Nat,s=((r:Int),(i:Int))/\r<=2 * i/\(∀ j,j < i-> ∀ b,L[j]? =some b->b.2.1=1∨b.2.1=2)/\r + Aws (L.drop i)=Aws L) L.length ⟨0,rfl,Nat.le_refl _,λj hj=>absurd hj<|Nat.not_lt_zero j,Ah6⟩ AOq λi s hi hI=>?_;obtain ⟨r,rfl,Ae,hz,hr⟩:=hI;unfold Ats;dsimp only;by_cases h:i < L.length
 ·obtain ⟨b,hbi⟩:∃ b,L[i]? =some b:=⟨L[i],List.getElem?_eq_getElem h⟩;rw [BCt hbi] at hr;rw [Aws] at hr;rw [if_pos AOq,Akk hbi]
  have hbad:n < r->¬ (Szs L/\Aws L=n):=λh1 h2=>by
   omega
  have hok:b.2.1=1∨b.2.1=2-> ∀ j,j < i + 1-> ∀ c,L[j]? =some c->c.2.1=1∨c.2.1=2:=λh1 j hj c hc=>by
   grind
  refine AOy (Q:=λex=>(ex= .inr ()/\(b.2.1=1∨b.2.1=2))∨(ex= .inl 3/\¬ (Szs L/\Aws L=n))) (Ag9 (λh1=>Ag9 (λh2=>AOt<|.inr ⟨rfl,λh3=>?_⟩) λh2=>Ag9 (λh3=>AOt<|.inr ⟨rfl,hbad AOq⟩) λh3=>AOt<|.inl ⟨rfl,.inr AOq⟩) λh1=>Ag9 (λh3=>AOt<|.inr ⟨rfl,hbad AOq⟩) λh3=>AOt<|.inl ⟨rfl,.inl AOq⟩) λex hex=>?_
  ·rcases h3.1 i h b hbi with h4 | h4
   ·exact h1 h4
   ·exact h2 h4
  ·rcases hex with ⟨rfl,h1⟩ | ⟨rfl,h1⟩
   ·refine AOt ⟨h,r + b.2.1.toNat,?_,AOq,hok h1,AOq⟩;rw [Ajz (x:=(r:Int) + b.2.1) AOq AOq,Ah1 AOq];grind
   ·exact AOt<|.inr ⟨rfl,h1⟩
 ·obtain rfl:i=L.length:=by omega
  rw [if_neg AOq];rw [List.drop_length] at hr;have:r=Aws L:=hr;subst this;exact AOt<|.inl ⟨rfl,hz⟩
theorem BOf {n:Nat} (hM:M.length=n) (hT:T.length<=8) (hf:100 < fuel):Ok (iter (λs=>Aqm fuel M T s) fuel 0) λex=>(ex= .inr ()/\ ∀ i,i < T.length-> ∀ z,T[i]? =some z->z.length=n)∨(ex= .inl 3/\¬ ∀ i,i < T.length-> ∀ z,T[i]? =some z->z.length=n):=by
 refine Axx (n:=T.length) (λi=> ∀ z,T[i]? =some z->z.length=n) 3 AOq (λi hi=>?_) ?_
 ·obtain ⟨z,hz⟩:∃ z,T[i]? =some z:=⟨T[i],List.getElem?_eq_getElem hi⟩;unfold Aqm;rw [if_pos AOq,Akk hz];exact Ag9 (λh=>AOt<|.inr ⟨rfl,λh2=>h<|by grind⟩) λh=>AOt<|.inl ⟨by rw [Ah1 AOq],λy hy=>by grind⟩
 ·unfold Aqm;grind
theorem BLb {n:Nat} {L:List Ak8} (hn:n<=8) (hl:L.length<=20) (hf:100 < fuel):Ok (Aoe fuel p T L n) λb=>b=true↔T.length=n/\(∀ i,i < T.length-> ∀ z,T[i]? =some z->z.length=n)/\Szs L/\Aws L=n:=by
 unfold Aoe;refine AOy (Q:=λex=>(ex= .inr ()/\T.length=n/\L.length<=n)∨(ex= .inl false/\¬ (T.length=n/\L.length<=n))) (Ag9 (λh=>AOt<|.inr ⟨rfl,AOq⟩) λh=>Ag9 (λh2=>AOt<|.inr ⟨rfl,AOq⟩) λh2=>AOt<|.inl ⟨rfl,AOq,AOq⟩) λex hex=>?_
 rcases hex with ⟨rfl,hT,hL⟩ | ⟨rfl,h⟩
 ·refine AOy (Axx (n:=T.length) (λi=> ∀ z,T[i]? =some z->z.length=n) false AOq (λi hi=>?_) ?_) λex hex=>?_
  ·obtain ⟨z,hz⟩:∃ z,T[i]? =some z:=⟨T[i],List.getElem?_eq_getElem hi⟩;unfold Aot;rw [if_pos AOq,Akk hz];exact Ag9 (λh=>AOt<|.inr ⟨rfl,λh2=>h<|by grind⟩) λh=>AOt<|.inl ⟨by rw [Ah1 AOq],λy hy=>by grind⟩
  ·unfold Aot;grind
  ·rcases hex with ⟨rfl,hrow⟩ | ⟨rfl,hrow⟩
   ·refine AOy (Q:=λex=>(ex= .inr ((n:Int) - (Aws L:Nat))/\Szs L)∨(ex= .inl false/\¬ Szs L)) (Ah4 (λi s=> ∃ r:Nat,s=((n:Int) - r,(i:Int))/\r<=2 * i/\(∀ j,j < i-> ∀ b,L[j]? =some b->b.2.1=1∨b.2.1=2)/\r + Aws (L.drop i)=Aws L) L.length ⟨0,Ah6,Nat.le_refl _,λj hj=>absurd hj<|Nat.not_lt_zero j,Ah6⟩ AOq λi s hi hI=>?_) λex hex=>?_
    ·obtain ⟨r,rfl,hr2,hz,hr⟩:=hI;unfold Aq8;dsimp only
     by_cases h:i < L.length
     ·obtain ⟨b,hbi⟩:∃ b,L[i]? =some b:=⟨L[i],List.getElem?_eq_getElem h⟩;rw [BCt hbi] at hr;rw [Aws] at hr;rw [if_pos AOq,Akk hbi]
      have hok:b.2.1=1∨b.2.1=2-> ∀ j,j < i + 1-> ∀ c,L[j]? =some c->c.2.1=1∨c.2.1=2:=λh1 j hj c hc=>by
       grind
      refine AOy (Q:=λex=>(ex= .inr ()/\(b.2.1=1∨b.2.1=2))∨(ex= .inl false/\¬ Szs L)) (Ag9 (λh1=>Ag9 (λh2=>AOt<|.inr ⟨rfl,λh3=>?_⟩) λh2=>AOt<|.inl ⟨rfl,.inr AOq⟩) λh1=>AOt<|.inl ⟨rfl,.inl AOq⟩) λex hex=>?_
      ·rcases h3 i h b hbi with h4 | h4
       ·exact h1 h4
       ·exact h2 h4
      ·rcases hex with ⟨rfl,h1⟩ | ⟨rfl,h1⟩
       ·refine AOt ⟨h,r + b.2.1.toNat,?_,AOq,hok h1,AOq⟩;rw [Ajz (x:=(n:Int) - r - b.2.1) AOq AOq,Ah1 AOq];grind
       ·exact AOt<|.inr ⟨rfl,h1⟩
     ·obtain rfl:i=L.length:=by omega
      rw [if_neg AOq];rw [List.drop_length] at hr;have:r=Aws L:=hr;subst this;exact AOt<|.inl ⟨rfl,hz⟩
    ·rcases hex with ⟨rfl,hz⟩ | ⟨rfl,hz⟩
     ·refine AOt ?_;grind
     ·exact AOt ⟨λh=>(nomatch h),λh=>absurd h.2.2.1 hz⟩
   ·exact AOt ⟨λh=>(nomatch h),λh=>absurd h.2.1 hrow⟩
 ·exact AOt ⟨λh=>(nomatch h),λh2=>absurd ⟨h2.1,by have:=BF0 h2.2.2.1;omega⟩ h⟩
theorem pr2:Pr 2:=⟨AOq,λd h1 h2=>by omega⟩
theorem BHo {L:List Ak8} (hM:BQo M) (hl:L.length<=20) (hg:2147483648 < fuel):∃ r,Aps fuel M p T L=some r/\Anu fuel M p T L=some r:=by
 have hf:100 < fuel:=by omega
 have e0:=BD3 hM hf;unfold Aps Anu;rw [e0];simp only [Ayb,Option.bind_some]
 cases hr:isRed M with
 | false=>simp_all
 | true=>
   have R:=(A5j M).1 hr
   simp only [Bool.not_true,Bool.false_eq_true,reduceIte]
   by_cases hp:p=2
   ·subst hp
    have hn:=R.1
    obtain ⟨n,hMn⟩:∃ n,M.length=n:=⟨_,rfl⟩
    rw [hMn] at hn
    rw [if_neg (show ¬ ¬ (2:Int)=2 from λh=>h rfl),if_neg (show ¬ ¬ (2:Int)=2 from λh=>h rfl),hMn]
    obtain ⟨s,Af,Ac⟩:=BLb (fuel:=fuel) (p:=2) (T:=T) (L:=L) hn.2 hl hf
    rw [Af]
    simp only [Option.bind_some]
    by_cases hT:T.length=n
    ·obtain ⟨ex,h1,h2⟩:=BOf (fuel:=fuel) (T:=T) hMn AOq hf
     rw [if_neg (show ¬ ¬ (T.length:Int)=(n:Int) from λh=>h AOq),h1]
     simp only [Option.bind_some]
     rcases h2 with ⟨rfl,h2⟩ | ⟨rfl,h2⟩
     ·obtain ⟨ex,h3,h4⟩:=BSf (fuel:=fuel) (L:=L) hMn hn.2 hl hf
      simp only []
      rw [h3]
      simp only [Option.bind_some]
      rcases h4 with ⟨rfl,h4⟩ | ⟨rfl,h4⟩
      ·by_cases hb:Aws L=n
       ·obtain rfl:s=true:=Ac.2 ⟨hT,h2,h4,hb⟩
        have hTt:=BQy hT<|BLa (T:=T) (n:=n) h2
        have hMt:=A4v R
        obtain ⟨v,hv,Ak,hj,hd⟩:=A5k (fuel:=fuel) R pr2 AOs hf
        obtain ⟨k,hk,hq,Ai,Ad⟩:=BCr R AOs AOs hv
        rw [hk] at hj hd
        have Aj:=A77 (p:=2) AOs hq
        have hP:Ao3 fuel M 2=some ((k:Int),0):=by
         unfold Ao3 Ayb
         grind
        simp only [Bool.not_true,Bool.false_eq_true,reduceIte]
        rw [if_neg (show ¬ ¬ ((Aws L:Nat):Int)=(n:Int) from λh=>h AOq),hP]
        simp only [Option.bind_some]
        rw [hMn] at hMt
        rw [hMt] at hd
        rw [hMt,hTt]
        have hsm:=BOe h4
        have hll:=BF0 h4
        obtain ⟨c,h5,h6⟩:=BHn (fuel:=fuel) (A:=ent M) (T:=ent T) (L:=L) hn.1 hn.2 Aj (Ad rfl) hsm hb AOq hg
        obtain ⟨d,h9,Aq⟩:=BHm (fuel:=fuel) (A:=ent M) (T:=ent T) (L:=L) hn.1 hn.2 hd (show (2:Int)<=2 by decide) hq Ai Ad hsm hb AOq AOs hf
        grind
       ·have: ¬ s=true:=λh=>hb (Ac.1 h).2.2.2
        rw [if_pos<|show (!s)=true by simpa using this]
        grind
      grind
     grind
    ·have: ¬ s=true:=λh=>hT (Ac.1 h).1
     rw [if_pos (show (!s)=true by simpa using this),if_pos<|show ¬ (T.length:Int)=(n:Int) by omega]
     grind
   simp_all
theorem BLc:isRed [[2,1],[1,2]]=true:=by
 unfold isRed
 rw [<- Ao1 (M:=[[2,1],[1,2]]) ⟨AOs,AOs,λi j hi hj=>by
  have hi:i < 2:=hi
  have hj:j < 2:=hj
  rcases (by omega:i=0∨i=1) with rfl | rfl <;> rcases (by omega:j=0∨j=1) with rfl | rfl <;> decide⟩]
 decide +kernel
theorem BAo:Aox (Alj + 1)=some true:=by
 have Ab:100 < Alj + 1:=Nat.lt_of_le_of_lt AOs<|Nat.lt_succ_self Alj;have R:=(A5j _).1 BLc;have hd:det 2 (ent [[2,1],[1,2]])=3:=by decide +kernel
 obtain ⟨v,h1,h2,h3,h4⟩:=A5k (fuel:=Alj + 1) R (p:=2) pr2 AOq Ab;obtain rfl:v=0:=BFv (p:=2) (d:=3) AOq (by grind) ⟨0,3,rfl,AOs,AOs⟩;rw [if_pos rfl] at h3;unfold Aox Aps Ao3 Ayb;simp only [BLc,h3,Option.bind_some,Bool.not_true,Bool.false_eq_true,reduceIte];decide +kernel
end Go.Proofs.YtkakafabeobahaaGreatDoor
namespace Go.Proofs.YtkakafabeobahaaGreatDoor
open Go Go.QF
theorem BQ7 {h1 h2:AO2} {b:Nat} (S:Sp h2 h1.size [F]) (hb:Off h1.size h2.size b):b ∉ F:=λhx=>by
 have:=S.2 b (by simpa using hx)
 rcases hb with h | h <;> omega
theorem BQ8 {lo b:Nat} {Fs:List (List Nat)} (S:Sp h lo Fs) (hb:h.size<=b):b ∉ Fs.flatten:=λhx=>by
 have:=S.2 b hx
 omega
theorem Kst.nb1 {a:Asr} {l:List Asr} (k:Kst h0 h (a :: l)) {b:Nat} {c:List Value} (V:Akd t h b c) (hb:h0.size<=b) (ha:b ∉ a.F) (hl:b ∉ (fps l).flatten):Kst h0 h (a :: aB t b c :: l):=by
 have h1:fps (a :: l)=a.F :: fps l:=rfl;have h2:fps (a :: aB t b c :: l)=a.F :: [b] :: fps l:=rfl;have hs:=k.s;rw [h1] at hs;refine ⟨k.x,?_,k.p.1,V,k.p.2⟩;rw [h2];refine ⟨?_,λx hx=>?_⟩
 ·have:=hs.1;simp only [List.flatten_cons,List.nodup_append,List.mem_append] at this ⊢;obtain ⟨n1,n2,n3⟩:=this;refine ⟨n1,⟨Ah6,n2,λx hx y hy=>?_⟩,λx hx y hy=>?_⟩
  ·rw [List.mem_singleton.1 hx];exact λe=>hl<|e ▸ hy
  ·rcases hy with hy | hy
   ·rw [List.mem_singleton.1 hy];exact λe=>ha<|e ▸ hx
   ·exact n3 x hx y hy
 ·simp only [List.flatten_cons,List.mem_append,List.mem_singleton] at hx;rcases hx with hx | hx | hx
  ·exact hs.2 x (by simp [hx])
  ·rw [hx];exact ⟨hb,V.lt⟩
  ·exact hs.2 x (by simp only [List.flatten_cons,List.mem_append];exact .inr hx)
theorem A9d {G:List Nat} {h1:AO2} {x:Nat} (U:UpT G h h1) (hx:x < h.size) (H:Ax2 h1 x):Ax2 h x:=by
 by_cases hg:x∈G
 ·exact (U.2 x hg hx).1
 ·obtain ⟨o,h2,h3⟩:=H;exact ⟨o,by rw [<- U.1.2 x hx hg];exact h2,h3⟩
def aS2 {α:Type} (c:Cod α) (F:List Nat) (v:Value) (M:List (List α)):Asr:=⟨F,λh=> ∀ (G:List Nat) (h':AO2),UpT G h h'->(∀ b∈F,b ∉ G)->Ajw c h' v M,λ{G h h'} U d H G' h2 U' d'=>H (G ++ G') h2 (U.trans U' λx hx hl=>A9d U hl (U'.2 x hx<|Nat.lt_of_lt_of_le hl U.size).1) λb hb hg=>(List.mem_append.1 hg).elim (d b hb) (d' b hb)⟩
theorem Kst.s2 {c:Cod α} {l l':List Asr} (k:Kst h0 h l) {M:List (List α)} (e:Rep i l (aS2 c F v M) (aS2 c F v M) l'):Ajw c h v M:=(show (aS2 c F v M).P h from Asi k.p e.1) [] h (UpT.refl h) λ_ _=>by simp
theorem Kst.s2P {c:Cod α} {l l':List Asr} (k:Kst h0 h l) {M:List (List α)} (e:Rep i l (aS2 c F v M) (aS2 c F v M) l'):(aS2 c F v M).P h:=Asi k.p e.1
theorem A1n {c:Cod α} {M:List (List α)} (H:Aj1 c er el h F Gs rs v M):(aS2 c F v M).P h:=λ_ _ U d=>(H.upT U d).rd
theorem BSg {c:Cod α} {v':Value} {M M':List (List α)} (H:Aj1 c er el h F Gs rs v M) (hv:∀ {h1},Ajw c h1 v M->Ajw c h1 v' M'):(aS2 c F v' M').P h:=λ_ _ U d=>hv (H.upT U d).rd
def aS1 {α:Type} (c:Cod α) (F:List Nat) (v:Value) (M:List α):Asr:=⟨F,λh=> ∀ (G:List Nat) (h':AO2),UpT G h h'->(∀ b∈F,b ∉ G)->SlC c h' v M,λ{G h h'} U d H G' h2 U' d'=>H (G ++ G') h2 (U.trans U' λx hx hl=>A9d U hl (U'.2 x hx<|Nat.lt_of_lt_of_le hl U.size).1) λb hb hg=>(List.mem_append.1 hg).elim (d b hb) (d' b hb)⟩
theorem Kst.s1 {c:Cod α} {l l':List Asr} (k:Kst h0 h l) {M:List α} (e:Rep i l (aS1 c F v M) (aS1 c F v M) l'):SlC c h v M:=(show (aS1 c F v M).P h from Asi k.p e.1) [] h (UpT.refl h) λ_ _=>by simp
theorem A0m {c:Cod α} {M:List α} (H:OwC c el h F v M):(aS1 c F v M).P h:=λ_ _ U d=>(H.upT U d).rd
theorem BSh {c:Cod α} {v':Value} {M M':List α} (H:OwC c el h F v M) (hv:∀ {h1},SlC c h1 v M->SlC c h1 v' M'):(aS1 c F v' M').P h:=λ_ _ U d=>hv (H.upT U d).rd
theorem Kst.us2 {c:Cod α} {h':AO2} {l l':List Asr} (k:Kst h0 h l) {x x':List (List α)} (e:Rep i l (aO2 c er el F Gs rs v x) (aS2 c F v x') l') (U:UpT F h h') (V:(aS2 c F v x').P h'):Kst h0 h' l':=by
 have HO:Aj1 c er el h F Gs rs v x:=Asi k.p e.1;exact k.u e U V HO.nodup (λb hb=>Nat.lt_of_lt_of_le (HO.lt b hb) U.size) λ_ hb=> .inl hb
theorem BHq {c:Cod α} {a:Option Addr} {n cap:Nat} {M:List (List α)} (H:Ajw c h (.slice a n cap) M) (hk:k<=n) (hc:n<=cap):Ajw c h (.slice (if cap=k then a else a.map (·.add<|k * 1)) (n - k)<|cap - k) (M.drop k):=by
 obtain ⟨hcp,rs,⟨a',cap',hv,hcell⟩,hl,hr⟩:=H;injection hv with h1 h2 h3;subst h1;subst h2;subst h3;refine ⟨⟨_,_,_,rfl,AOq⟩,rs.drop k,⟨_,_,by rw [List.length_map,List.length_map,List.length_drop],λi r hir=>?_⟩,by simp [hl],λi r L h1 h2=>?_⟩
 ·rw [List.map_drop,List.getElem?_drop] at hir;have hil:=(List.getElem?_eq_some_iff.1 hir).1;obtain ⟨b,o,rfl,h2⟩:=hcell _ r hir;refine ⟨b,o + k * 1,?_,λj x hx=>?_⟩
  ·rw [if_neg (by simp at hil;simp at hc;omega)];simp [Addr.add]
  ·have:=h2 j x hx;rwa [show o + k * 1 + i * 1 + j=o + (k + i) * 1 + j by omega]
 ·rw [List.getElem?_drop] at h1 h2;exact hr _ r L h1 h2
section
variable {P:Program} {B:AO2->Prop} {st:Bool} {ops:Array Oper} {rest:List Oper} {e:Env} {h:AO2} {K:Env->AO2->Prop} {d d' d2:Nat} {ty ty2 ty3:TypeId} {pos pos2 pos3:String} {af af2 af3:Array Edge}
theorem BD8 {c:Cod α} {x y:Operand} {M:List (List α)} {κ:IntKind} {k:Int} (hT:SlT P t el 1) (hx:e.ev x=v) (HS:Ajw c h0 v M) (hy:e.ev y= .int κ k) (hk:0<=k/\k<=M.length) (H:∀ v',(∀ {h1},Ajw c h1 v M->Ajw c h1 v' (M.drop k.toNat))->Auj v'->RL P B st ops rest (e.set d v') h K):RL P B st ops (⟨some d,.slice t x (some y) none none,ty,pos,af,none⟩ :: rest) e h K:=by
 obtain ⟨m,rfl⟩:∃ m:Nat,k=m:=⟨k.toNat,AOq⟩;obtain ⟨hc,rs,⟨a',c',hv,_⟩,hl,_⟩:=HS;obtain ⟨a,n,cp,rfl,hnc⟩:=hc;injection hv with _ hn _;rw [List.length_map] at hn;exact A6u hT hx hy AOq hnc<|H _ (λH1=>BHq H1 AOq hnc) ⟨_,_,_,rfl,AOq⟩
theorem BSi {c:Cod α} {x y:Operand} {r1 r':Value} {M:List (List α)} {n m:Int} {L L1 L':List α} (ht:NaT P t) (HO:Aj1 c er el h F Gs rs v M) (hL:gI M n=some L) {b:Nat} (hF:F=b :: Gs.flatten) (hx:e.ev x= .pointer (some ⟨b,n.toNat,none⟩)) (hy:e.ev y=r') (hr:rs[m.toNat]? =some r1) (hm:gI M m=some L1) (hv:∀ {h1},SlC c h1 r1 L1->SlC c h1 r' L') (ho:isOne r'=true)
 (H:∀ h',(aS2 c F v<|sI M n L').P h'->UpT F h h'->RL P B st ops rest e h' K):RL P B st ops (⟨none,.store t x y,ty,pos,af,none⟩ :: rest) e h K:=by
 obtain ⟨i,rfl,hm0⟩:=Aom hL;obtain ⟨q,rfl,hq0⟩:=Aom hm;clear hL hm;have hL:=hm0;simp only [Int.toNat_natCast,sI] at hx hr H ⊢;have hnd:=HO.notD;have hi:=(List.getElem?_eq_some_iff.1 hL).1
 rcases HO with ⟨rfl,_⟩ | ⟨b',hF',hn,h2,h3,h4,h5,h6⟩
 ·simp at hL
 rw [hF] at hF';injection hF' with hF';subst hF';rw [hF] at hn;have hnf:=List.nodup_cons.1 hn;refine (Amg (n:=i) (el:=er) (g:=b) ht (by grind) hy ho) v _ h2 (by grind) λh' hS hU=>?_;have h2':=hS v _ h2 (by grind);have U:UpT F h h':=Awg hU (by simp [hF]) (λb hb _=>hnd b hb)<|h2'.notD h3;have U1:UpT [b] h h':=Awg hU Ah6 (λx hx _=>hnd x<|by grind)<|h2'.notD h3;have h2s:Aqw h' er 1 b v ((rs.set i r').map λr=>[r]):=by simp_all
 have hq:=(List.getElem?_eq_some_iff.1 hq0).1;refine H h' (λG h3' U' d'=>?_) U
 have rows:∀ (j:Nat) (r:Value) (L:List α),rs[j]? =some r->M[j]? =some L->SlC c h3' r L:=λj r L hj hjL=>by
  have hjl:=(List.getElem?_eq_some_iff.1 hjL).1;have hG:=List.getElem?_eq_getElem (show j < Gs.length by omega);refine (((h6 j _ r L hG hj hjL).upT U1 λz hz hzb=>?_).upT U' λz hz=>d' z (by rw [hF];exact List.mem_cons_of_mem _<|Alg hG hz)).rd;rw [List.mem_singleton.1 hzb] at hz;exact hnf.1<|Alg hG hz
 have hk:=h2s.upd (S:=(· ∈G)) U'.1<|d' b (by simp [hF]);refine ⟨let ⟨_,_,hv,_,hl,_⟩:=hk;⟨_,_,_,hv,hl⟩,rs.set i r',hk.sl,by simp [h4],λj r L hj hjL=>?_⟩
 by_cases hji:j=i
 ·subst hji;rw [List.getElem?_set_self AOq] at hj hjL;injection hj with hj;injection hjL with hjL;subst hj;subst hjL;exact hv<|rows q r1 L1 hr hq0
 ·rw [List.getElem?_set_ne λhe=>hji he.symm] at hj hjL;exact rows j r L hj hjL
end
end Go.Proofs.YtkakafabeobahaaGreatDoor
namespace Go.Proofs.YtkakafabeobahaaGreatDoor
open Go Go.QF
set_option maxRecDepth 100000
set_option maxHeartbeats 40000000
def As2 (fuel:Nat) (a4:LiI) (Aa:Int) (Ab:LiI):Option ((Int × LiI) ⊕ LiI):=
 if Aa < (a4.length:Int) then (gI a4 Aa).bind λAd=>if Ad.length<=100000000 then if Ab.length<=100000000 then some (.inl (w64<|Aa + 1,Ab ++ [Ad])) else none else none else some<|.inr Ab
def Apc (fuel:Nat) (a1:Int) (a4:LiI) (a8:List Ak8):Option (Int × LiI × (List Ak8)):=
 if a8.length<=100000000 then (iter (λs=>As2 fuel a4 s.1 s.2) fuel (0,[])).bind (λ(Ad:LiI)=>some (a1,Ad,a8)) else none
theorem A0n {Ai:Value} {a4:LiI} {Aj:Value} {r:(Int × LiI × (List Ak8))} (H3:Ajw (cI .i64) h Ai a4) (H7:SlC Arc h Aj a8) (hp:Apc fuel a1 a4 a8=some r):Ahs Tryz.prog 32 #[(.agg #[(.int .i64 a1),Ai,Aj])] h (λx h'=>Ext h h'/\ ∃ (Ay:Value) (Az:Value) (A3:List Nat) (Bj:List LnA) (Bl:List Value) (A4:List Nat),x= .agg #[.int .i64 r.1,Ay,Az]/\Aj1 (cI .i64) 61 2 h' A3 Bj Bl Ay r.2.1/\OwC Arc 60 h' A4 Az r.2.2/\Sp h' h.size [A3,A4]):=by
 unfold Apc at hp;refine cwf (l:=[_]) Tryz.func32 rfl rfl (AOv<|Ano (Kst.k0 h) [(.int .i64 a1),Ai,Aj] λCj Ck Cm Bm=>Aj4 Bm [(.int .i64 0),(.slice none 0 0),(.slice none 0 0)] A2b λCn Ak Co Ad=>AOz<|AOx ?_);have Af:UpT [] Ak Ak:=UpT.start all_nil;refine A02 (B:=λh'=>UpT [] Ak h') 6 [⟨3,29,[.int .i64 0,.slice none 0 0,.slice none 0 0]⟩] (λ_ _ U E=>U.thenE E) AO4 Af (A9y rfl A2b rfl (λ_ _ U E=>U.thenE E))<|h_l rfl (Ah2 Awj rfl (Ahh<|h_l rfl (Ahm AO9 rfl Af (λh' hb=>((Ad.b p1).ext hb.ext).cell (i:=0) rfl) (Ahh<|h_l rfl (Ah2 Ao4 rfl (Ahh<|h_l rfl (Ahm Avc rfl Af (λh' hb=>((Ad.b p1).ext hb.ext).cell (i:=2) rfl) (Ahh<|h_e rfl λCp A5=>?_))))))));have A6:=Af.thenE A5;have A7:=Ad.e A5;obtain ⟨Bn,Bo⟩:=ifN hp;refine BBh Atu Axp rfl rfl A6 (λ_ E=>A6.thenE E) rfl rfl (H7.ext A7.x) AOs Bn λCq Ac Cr Bp A8 A9=>?_;have Ba:=A7.no A8 A9 Bp;refine Ahh ⟨A8,?_⟩;refine h_l rfl ?_;obtain ⟨_,_,_,Bq⟩:=(Ba.o p0).rd.shape;refine Alh (v:=(.agg #[(.int .i64 a1),(.slice none 0 0),Ac])) (λ_=>by subst Bq;kernel_rfl)<|Ahh<|A7h λCt Br=>BMf λBt Bu Bb Bv=>?_;have Am:=(Ba.e Br).nb1 Bu (Nat.le_trans Ad.x.1 Bb) (BQ7 A9 Bv.2) (BQ8 Ad.s Bb);refine Ai5 [(.int .i64 a1),(.slice none 0 0),Ac] Ai7 rfl rfl rfl rfl (Aic rfl (Aic rfl (Aic (Am.o p0).isOne Aon))) (Am.b p1) λCu Bw Bx=>AOz<|AOx<|AOv ?_;have Bc:=Am.sb p1 Bx Bw rfl;refine Ai6 Apd Aia (Bc.b p3) 1 rfl (Ahx APa rfl H3 (AOr<|AOz<|AO0 ?_));have Ao:=(Kst.anil2 (cI .i64) 61 2 Bc).sel [0,1,2,3] AOs;dsimp only [Aoz,Ar4] at Ao;refine Amy 134184992 (λx:(Int) × (LiI) × (Value) × LnA × LnN × LvA=>(x.1,x.2.1)) ((0,[],(.slice none 0 0),[],[],[]):(Int) × (LiI) × (Value) × LnA × LnN × LvA) Bo (λx=>[(15,(.int .i64 x.1))]) (λx=>(Ao.L.set 0<|aO2 (cI .i64) 61 2 x.2.2.2.1 x.2.2.2.2.1 x.2.2.2.2.2 x.2.2.1 x.2.1).set 2 (aB 29 Bt [(.int .i64 a1),x.2.2.1,Ac])) Ao ⟨rfl,trivial⟩ ?_;rintro ⟨Cv,Cw,Be,Bf,Cx,Cy⟩ Cz Ap C0 Aa Aq By;unfold As2 at Aq;refine AOv<|Ahn rfl rfl (AOz<|AOx<|⟨_,rfl,λAr=>?_,λAr=>?_⟩)
 ·refine AO5<|q_t<|AOx<|AO0<|AOv ?_;obtain ⟨C1,Bz,B1⟩:=AOw<|Ahy Aq Ar;refine An3 APa Aha H3 Aa.x Bz λ_ C2 B3=>AO1<|Ai1 (λh'=>UpT (Bf ++ []) Ap h') AO4 ?_;have Ag:UpT (Bf ++ []) Ap Ap:=UpT.start<|Aiv (Aa.o2 p0).notD all_nil;refine Ah2 Apd rfl (Ahm Aia rfl Ag (λh' hb=>((Aa.b p2).upT hb (A17 (Aa.dj p2 p0 AOs) A9n)).cell (i:=1) rfl) (AOr ?_));obtain ⟨B4,B5⟩:=ifN B1;refine BBh APe Ars rfl rfl Ag (λ_ E=>Ag.thenE E) rfl rfl (B3.ext Aa.x) AOs B4 λC3 C4 C5 B6 Bg B7=>?_;have Bh:=Ag.thenE Bg;have Ah:=Aa.no Bg B7 B6;obtain ⟨B8,B9⟩:=ifN B5;refine A2s APa As9 rfl rfl Bh (λ_ U=>Bh.then U<|Am3 rfl) (λ_=>rfl) rfl (Ah.o p0) (Ah.o2 p1) (Ah.dj p0 p1 AOs) AOs B8 λC6 C7 Ca C8 Cb Cd Ce=>Ah2 Apd rfl ?_;have Au:=Ah.m2 p0 p1 AOs Cd Cb Ce;refine Awc [(.int .i64 a1),Ca,Ac] Aia rfl rfl (Au.o2 p1).isOne (Au.b p3) (Nat.le_of_ble_eq_true rfl) rfl λC9 Cf Cg=>Ahh<|q_b<|q_t<|Ag6<|Ahk rfl rfl (AOr<|AOz ?_);exact ⟨(_,_,_,_,_,_),(AOu B9).symm,(Au.sb p3 Cg Cf rfl).sel [1,2,3,4] AOs,rfl,trivial⟩
 ·refine Ahf<|Ahg<|Ahg<|Aio<|q_t<|AOv<|Anm [(.int .i64 a1),Be,Ac] Ai7 rfl rfl (Aa.b p2).agg (Ai5 [(.int .i64 a1),Be,Ac] Ai7 rfl rfl rfl rfl (Aic rfl (Aic (Aa.o2 p0).isOne<|Aic (Aa.o p1).isOne Aon)) (Aa.b p3) λDa Ch Ci=>AOz<|AO6 ?_);have Ae:=Aa.sb p3 Ci Ch rfl;obtain rfl:=AOu<|By _ (AOu<|Ahz Aq Ar).symm;exact ⟨_,Ai3 Ai7 rfl rfl (Ae.b p3),Ae.x,_,_,_,_,_,_,rfl,(Ae.o2 p0),(Ae.o p1),Ae.s.sel [0,1] AOs⟩
def Amd (fuel:Nat) (a1:Int) (a4:LiI) (a8:List Ak8) (Ab Ac Ae:Int):Option (Int × LiI × (List Ak8)):=
 (Apc fuel a1 a4 a8).bind λAa=>((if (Aa.2.1.length:Int)=0 then some (.inl (Aa.1,Aa.2.1,Aa.2.2)) else if (Aa.2.2.length:Int)=0 then some (.inl (Aa.1,Aa.2.1,Aa.2.2)) else some<|.inr (0,[],[])):Option ((Int × LiI × List Ak8) ⊕ (Int × LiI × List Ak8))).bind (λex=>match ex with | .inl Aq=>(some Aq) | .inr (Av,Aw,Ax)=>if (Aa.2.2.length:Int)≠0 then (gI Aa.2.2<|Int.tmod (w64 Ab) (Aa.2.2.length:Int)).bind λAy=>if (Aa.2.1.length:Int)≠0 then (gI Aa.2.1<|Int.tmod (w64 Ab) (Aa.2.1.length:Int)).bind λAd=>((if Int.tmod Ac 12=0 then some (decide (Int.tmod Ac 12=0)) else some<|decide (Int.tmod Ac 12=1)):Option Bool).bind (λ(Ar:Bool)=>if Ar=true then if 0 < (Ad.length:Int) then if (Ad.length:Int)≠0 then (gI Aa.2.1<|Int.tmod (w64 Ab) (Aa.2.1.length:Int)).bind λAk=>(gI Ak<|Int.tmod (w64<|IntKind.wrap .u8<|Int.tdiv Ab 8) (Ad.length:Int)).bind λAu=>some (Aa.1,sI Aa.2.1 (Int.tmod (w64 Ab) (Aa.2.1.length:Int))<|sI Ak (Int.tmod (w64<|IntKind.wrap .u8<|Int.tdiv Ab 8) (Ad.length:Int))<|w64<|Au + Ae,Aa.2.2) else none else some (Aa.1,Aa.2.1,Aa.2.2) else if Int.tmod Ac 12=2 then (gI Aa.2.2<|Int.tmod (w64 Ab) (Aa.2.2.length:Int)).bind λAf=>some (Aa.1,Aa.2.1,sI Aa.2.2 (Int.tmod (w64 Ab) (Aa.2.2.length:Int)) (Af.1,Af.2.1,w64<|Af.2.2.1 + Ae,Af.2.2.2.1,Af.2.2.2.2)) else if Int.tmod Ac 12=3 then (gI Aa.2.2<|Int.tmod (w64 Ab) (Aa.2.2.length:Int)).bind λAg=>some (Aa.1,Aa.2.1,sI Aa.2.2 (Int.tmod (w64 Ab) (Aa.2.2.length:Int)) (Ag.1,Ag.2.1,Ag.2.2.1,w64<|Ag.2.2.2.1 + Ae,Ag.2.2.2.2)) else if Int.tmod Ac 12=4 then (gI Aa.2.2<|Int.tmod (w64 Ab) (Aa.2.2.length:Int)).bind λAh=>some (Aa.1,Aa.2.1,sI Aa.2.2 (Int.tmod (w64 Ab) (Aa.2.2.length:Int)) (Ah.1,Ah.2.1,Ah.2.2.1,Ah.2.2.2.1,w64<|Ah.2.2.2.2 + Ae)) else if Int.tmod Ac 12=5 then (gI Aa.2.2<|Int.tmod (w64 Ab) (Aa.2.2.length:Int)).bind λAi=>some (Aa.1,Aa.2.1,sI Aa.2.2 (Int.tmod (w64 Ab) (Aa.2.2.length:Int)) (w64<|Ai.1 + Int.tmod Ae 3,Ai.2.1,Ai.2.2.1,Ai.2.2.2.1,Ai.2.2.2.2)) else if Int.tmod Ac 12=6 then (gI Aa.2.2<|Int.tmod (w64 Ab) (Aa.2.2.length:Int)).bind λAj=>some (Aa.1,Aa.2.1,sI Aa.2.2 (Int.tmod (w64 Ab) (Aa.2.2.length:Int)) (Aj.1,w64<|1 + w64 (Int.tmod (IntKind.wrap .u64 Ae) 3),Aj.2.2.1,Aj.2.2.2.1,Aj.2.2.2.2)) else if Int.tmod Ac 12=7 then if (0:Int)<=1/\1<=(Aa.2.2.length:Int) then some (Aa.1,Aa.2.1,List.drop (Int.toNat 1) Aa.2.2) else none else if Int.tmod Ac 12=8 then if (0:Int)<=1/\1<=(Aa.2.1.length:Int) then some (Aa.1,List.drop (Int.toNat 1) Aa.2.1,Aa.2.2) else none else if Int.tmod Ac 12=9 then if 0<=w64 (Int.tdiv (Ad.length:Int) 2)/\w64 (Int.tdiv (Ad.length:Int) 2)<=(Ad.length:Int) then (gI Aa.2.1 0).bind λAz=>some (Aa.1,sI Aa.2.1 0<|List.take (Int.toNat<|w64<|Int.tdiv (Ad.length:Int) 2) Ad,Aa.2.2) else none else if Int.tmod Ac 12=10 then some (w64<|Aa.1 + Int.tmod Ae 4,Aa.2.1,Aa.2.2) else some (Aa.1,Aa.2.1,Aa.2.2)) else none else none)
theorem Axj {Bl:Value} {a4:LiI} {Bm:Value} {Ak Bn Ag:Int} {r:(Int × LiI × (List Ak8))} (H3:Ajw (cI .i64) h Bl a4) (H7:SlC Arc h Bm a8) (hp:Amd fuel a1 a4 a8 Ak Bn Ag=some r):Ahs Tryz.prog 10 #[(.agg #[(.int .i64 a1),Bl,Bm]),(.int .u8 Ak),(.int .u8 Bn),(.int .i64 Ag)] h (λx h'=>Ext h h'/\ ∃ (Cg:Value) (Ch:Value) (Ci:List Nat) (Cj:List Nat),x= .agg #[.int .i64 r.1,Cg,Ch]/\(aS2 (cI .i64) Ci Cg r.2.1).P h'/\(aS1 Arc Cj Ch r.2.2).P h'/\Sp h' h.size [Ci,Cj]):=by
 unfold Amd at hp;refine cwf (l:=[_,_,_,_]) Tryz.func10 rfl rfl (AOv<|Ano (Kst.k0 h) [(.int .i64 a1),Bl,Bm] λGr Gt Gu Dc=>Aj4 Dc [(.int .i64 0),(.slice none 0 0),(.slice none 0 0)] A2b λDd Gv Gw Bo=>Apt<|Anm [(.int .i64 a1),Bl,Bm] Ai7 rfl rfl (Bo.b p1).agg ?_);obtain ⟨Ab,De,Df⟩:=AOw hp;refine Aqs rfl (A0n (H3.ext Bo.x) (H7.ext Bo.x) De) λGx Gy Dg Dh=>?_;obtain ⟨Ac,Ad,Di,Dj,Dk,Dl,rfl,Do,Dp,Dq⟩:=Dh;have Ck:=Bo.n Dg [aO2 (cI .i64) 61 2 Di Dj Dk Ac Ab.2.1,aO Arc 60 Dl Ad Ab.2.2] Dq ⟨Do,Dp,trivial⟩;simp only [List.cons_append,List.nil_append] at Ck;refine Aj4 Ck [(.int .i64 0),(.slice none 0 0),(.slice none 0 0)] A2b λGz G3 G4 Bp=>Ai5 [(.int .i64 Ab.1),Ac,Ad] Ai7 rfl rfl rfl rfl (Aic rfl (Aic (Bp.o2 p1).isOne<|Aic (Bp.o p2).isOne Aon)) (Bp.b p0) λG5 Dr Ds=>AOz ?_;have Ae:=Bp.sb p0 Ds Dr rfl;obtain ⟨Dt,Cm,Bv⟩:=AOw Df;refine Arb 33538048 (λx:(Int) × (LiI) × (Value) × LnA × LnN × LvA × ((List Ak8)) × (Value) × LnA=>[]) (λx h'=>(Sum.inr <| (x.1,x.2.1,x.2.2.2.2.2.2.1))=Dt/\Kst h h' (aO2 (cI .i64) 61 2 x.2.2.2.1 x.2.2.2.2.1 x.2.2.2.2.2.1 x.2.2.1 x.2.1 :: aO Arc 60 x.2.2.2.2.2.2.2.2 x.2.2.2.2.2.2.2.1 x.2.2.2.2.2.2.1 :: ((Aoz Ae.L [0,1,2,3]).set 3 (aB 29 Dd [(.int .i64 x.1),x.2.2.1,x.2.2.2.2.2.2.2.1])))) ?_ ?_
 ·refine AOv<|Ai6 Apd Aia (Ae.b p0) 1 rfl (Ahx APa rfl (Ae.o2 p1).rd (Ai0 rfl rfl (AOr ?_)));by_cases Bq:(Ab.2.1.length:Int)=0
  ·rw [decide_eq_true Bq];refine Alf 18 true<|Ahc rfl (AOz<|Ahp rfl (AOv<|Anm [(.int .i64 Ab.1),Ac,Ad] Ai7 rfl rfl (Ae.b p0).agg (Ai5 [(.int .i64 Ab.1),Ac,Ad] Ai7 rfl rfl rfl rfl (Aic rfl (Aic (Ae.o2 p1).isOne<|Aic (Ae.o p2).isOne Aon)) (Ae.b p3) λG6 Du Dv=>AOz ?_)));have Am:=Ae.sb p3 Dv Du rfl;obtain rfl:=AOu<|ifT Cm Bq;refine AO6<|Ag7 ?_;obtain rfl:=AOu Bv;exact ⟨_,Ai3 Ai7 rfl rfl (Am.b p3),Am.x,_,_,_,_,rfl,(A1n<|Am.o2 p1),(A0m<|Am.o p2),Am.s.sel [1,2] AOs⟩
  ·have Cn:=ifF Cm Bq;rw [decide_eq_false Bq];refine Ahb 18 false<|Ah2 Ao4 rfl (Ahb 18 false<|Ahu Avc rfl ((Ae.b p0).cell (i:=2) rfl) (Ahb 18 false<|Aim Atu rfl (Ae.o p2).rd (Ahb 18 false<|Ai0 rfl rfl (APd rfl (AOz<|⟨_,rfl,λBw=>?_,λBw=>?_⟩)))))
   ·refine AOv<|Anm [(.int .i64 Ab.1),Ac,Ad] Ai7 rfl rfl (Ae.b p0).agg (Ai5 [(.int .i64 Ab.1),Ac,Ad] Ai7 rfl rfl rfl rfl (Aic rfl (Aic (Ae.o2 p1).isOne<|Aic (Ae.o p2).isOne Aon)) (Ae.b p3) λG7 Dw Dx=>AOz ?_);have Ao:=Ae.sb p3 Dx Dw rfl;obtain rfl:=AOu<|Ahy Cn Bw;refine AO6<|Ag7 ?_;obtain rfl:=AOu Bv;exact ⟨_,Ai3 Ai7 rfl rfl (Ao.b p3),Ao.x,_,_,_,_,rfl,(A1n<|Ao.o2 p1),(A0m<|Ao.o p2),Ao.s.sel [1,2] AOs⟩
   ·refine AO5<|q_t ?_;exact ⟨((0,[],(.slice none 0 0),[],[],[],[],(.slice none 0 0),[]):(Int) × (LiI) × (Value) × LnA × LnN × LvA × ((List Ak8)) × (Value) × LnA),⟨AOu<|Ahz Cn Bw,(Kst.anil Arc 60<|Kst.anil2 (cI .i64) 61 2 Ae).sel [1,0,2,3,4,5] AOs⟩,trivial⟩
 rintro ⟨G8,G9,Hb,Hc,Hd,He,Hf,Hg,Hh⟩ Hj Hk ⟨Dy,Af⟩;subst Dy;refine AOx<|Ame<|Ai6 Ao4 Avc (Af.b p2) 2 rfl (AOr<|As3 Axz Axn rfl (Ai6 Ao4 Avc (Af.b p2) 2 rfl (Aim Atu rfl (Af.o p4).rd ?_)));obtain ⟨Dz,D0⟩:=ifN Bv;refine Aj6 rfl rfl Dz ?_;obtain ⟨Hl,D1,D2⟩:=AOw D0;refine A18 Atu rfl (Af.o p4) rfl D1 λHm Ah=>AO1<|AOx<|Ame<|Ai6 Apd Aia (Af.b p2) 1 rfl (AOr<|As3 Axz Axn rfl (Ai6 Apd Aia (Af.b p2) 1 rfl (Ahx APa rfl (Af.o2 p3).rd ?_)));obtain ⟨D3,D4⟩:=ifN D2;refine Aj6 rfl rfl D3 ?_;obtain ⟨Hn,Aj,D5⟩:=AOw D4;refine Aiw APa Aha (Af.o2 p3) Aj λ_ Ho Ai=>AO1<|AOx<|AOv<|AOr<|Aj6 rfl rfl AOs (AOz<|AO0 ?_);obtain ⟨D6,Co,Cp⟩:=AOw D5;refine Arb 492581209243648 (λx:(Bool)=>[(46,(.bool x))]) (λx h'=>( x)=D6/\Kst h h' (Af.L)) ?_ ?_
 ·refine AOv<|Ai0 rfl rfl (AO1<|⟨_,rfl,λBx=>?_,λBx=>?_⟩)
  ·refine AO5<|q_t ?_;exact ⟨((decide ((Int.tmod Bn 12)=0)):(Bool)),⟨AOu<|Ahy Co Bx,Af⟩,rfl,trivial⟩
  ·refine Ag6<|Ai0 rfl rfl (AO1 ?_);exact ⟨((decide ((Int.tmod Bn 12)=1)):(Bool)),⟨AOu<|Ahz Co Bx,Af⟩,rfl,trivial⟩
 rintro Hq Hr Hs ⟨D7,Aa⟩;subst D7;refine ⟨_,rfl,λBy=>?_,λBy=>?_⟩
 ·refine AOv<|AOr<|Aim APe rfl ((Aa.o2 p3).rowI Ai Aj) (Anj rfl rfl (AOz ?_));have Cq:=ifT Cp By;refine ⟨_,rfl,λBz=>?_,λBz=>?_⟩
  ·refine Ag6<|AOr<|AOr<|Avu rfl rfl AOs (As3 Axz Axn rfl (AOr<|Aim APe rfl ((Aa.o2 p3).rowI Ai Aj) ?_));obtain ⟨D8,D9⟩:=ifN<|Ahy Cq Bz;refine Aj6 rfl rfl D8 ?_;obtain ⟨Ht,Cr,Ea⟩:=AOw D9;obtain ⟨Hu,Ct,Eb⟩:=AOw Ea;refine Atw (m:=(Int.tmod (w64 Ak) (Ab.2.1.length:Int))) APe AO9 (Aa.o2 p3) Ai Cr Ct λ_=>(AOr<|Ahk rfl rfl (Aqv (m:=(Int.tmod (w64 Ak) (Ab.2.1.length:Int))) Aa p3 APe AO9 Ai Cr Ct (λ_=>rfl) λ_ Hv Ap=>Ahh<|q_b<|q_t<|AOv<|Anm [(.int .i64 Ab.1),Ac,Ad] Ai7 rfl rfl (Ap.b p2).agg (Ai5 [(.int .i64 Ab.1),Ac,Ad] Ai7 rfl rfl rfl rfl (Aic rfl (Aic (Ap.o2 p3).isOne<|Aic (Ap.o p4).isOne Aon)) (Ap.b p5) λHw Ec Ed=>AOz<|AO6 ?_)));have Aq:=Ap.sb p5 Ed Ec rfl;obtain rfl:=AOu Eb;exact ⟨_,Ai3 Ai7 rfl rfl (Aq.b p5),Aq.x,_,_,_,_,rfl,(A1n<|Aq.o2 p3),(A0m<|Aq.o p4),Aq.s.sel [3,4] AOs⟩
  ·refine AO5<|q_b<|q_t<|AOv<|Anm [(.int .i64 Ab.1),Ac,Ad] Ai7 rfl rfl (Aa.b p2).agg (Ai5 [(.int .i64 Ab.1),Ac,Ad] Ai7 rfl rfl rfl rfl (Aic rfl (Aic (Aa.o2 p3).isOne<|Aic (Aa.o p4).isOne Aon)) (Aa.b p5) λHx Ee Ef=>AOz<|AO6 ?_);have Ar:=Aa.sb p5 Ef Ee rfl;obtain rfl:=AOu<|Ahz Cq Bz;exact ⟨_,Ai3 Ai7 rfl rfl (Ar.b p5),Ar.x,_,_,_,_,rfl,(A1n<|Ar.o2 p3),(A0m<|Ar.o p4),Ar.s.sel [3,4] AOs⟩
 ·refine AOv<|Ai0 rfl rfl (AO1 ?_);have Cu:=Aok Cp By;refine ⟨_,rfl,λB1=>?_,λB1=>?_⟩
  ·refine Ag6<|AOr<|Ah3 rfl (Ah2 Ar8 rfl ?_);obtain ⟨Au,Cv,Eg⟩:=AOw<|Ahy Cu B1;obtain ⟨Hy,Eh,Ei⟩:=(Aa.o p4).cells Ah Cv;obtain rfl:=Eh;refine Ahu AO9 rfl (Ei 2 _ rfl) (AOr<|Ahk rfl rfl (Ah3 rfl (Ah2 Ar8 rfl (Azs (c:=Arc) (a':=(Au.1,Au.2.1,(w64<|Au.2.2.1 + Ag),Au.2.2.2.1,Au.2.2.2.2)) AO9 rfl rfl rfl AOs (Aa.o p4) Ah Cv (λ_ q=>by cases q;rfl) λHz Ej Ek=>Ahh<|q_b<|q_t<|AOv ?_))));have Av:=Aa.uO p4 Ek Ej;refine Anm [(.int .i64 Ab.1),Ac,Ad] Ai7 rfl rfl (Av.b p2).agg (Ai5 [(.int .i64 Ab.1),Ac,Ad] Ai7 rfl rfl rfl rfl (Aic rfl (Aic (Av.o2 p3).isOne<|Aic (Av.o p4).isOne Aon)) (Av.b p5) λH5 El Em=>AOz<|AO6 ?_);have Aw:=Av.sb p5 Em El rfl;obtain rfl:=AOu Eg;exact ⟨_,Ai3 Ai7 rfl rfl (Aw.b p5),Aw.x,_,_,_,_,rfl,(A1n<|Aw.o2 p3),(A0m<|Aw.o p4),Aw.s.sel [3,4] AOs⟩
  ·refine AOv<|Ai0 rfl rfl (AO1 ?_);have Cw:=Ahz Cu B1;refine ⟨_,rfl,λB3=>?_,λB3=>?_⟩
   ·refine Ag6<|AOr<|Ah3 rfl (Ah2 Ate rfl ?_);obtain ⟨Ax,Cx,En⟩:=AOw<|Ahy Cw B3;obtain ⟨Ia,Eo,Ep⟩:=(Aa.o p4).cells Ah Cx;obtain rfl:=Eo;refine Ahu AO9 rfl (Ep 3 _ rfl) (AOr<|Ahk rfl rfl (Ah3 rfl (Ah2 Ate rfl (Azs (c:=Arc) (a':=(Ax.1,Ax.2.1,Ax.2.2.1,(w64<|Ax.2.2.2.1 + Ag),Ax.2.2.2.2)) AO9 rfl rfl rfl AOs (Aa.o p4) Ah Cx (λ_ q=>by cases q;rfl) λIb Er Es=>Ahh<|q_b<|q_t<|AOv ?_))));have Ay:=Aa.uO p4 Es Er;refine Anm [(.int .i64 Ab.1),Ac,Ad] Ai7 rfl rfl (Ay.b p2).agg (Ai5 [(.int .i64 Ab.1),Ac,Ad] Ai7 rfl rfl rfl rfl (Aic rfl (Aic (Ay.o2 p3).isOne<|Aic (Ay.o p4).isOne Aon)) (Ay.b p5) λIc Et Eu=>AOz<|AO6 ?_);have Az:=Ay.sb p5 Eu Et rfl;obtain rfl:=AOu En;exact ⟨_,Ai3 Ai7 rfl rfl (Az.b p5),Az.x,_,_,_,_,rfl,(A1n<|Az.o2 p3),(A0m<|Az.o p4),Az.s.sel [3,4] AOs⟩
   ·refine AOv<|Ai0 rfl rfl (AO1 ?_);have Cy:=Ahz Cw B3;refine ⟨_,rfl,λB4=>?_,λB4=>?_⟩
    ·refine Ag6<|AOr<|Ah3 rfl (Ah2 Avn rfl ?_);obtain ⟨A3,Cz,Ev⟩:=AOw<|Ahy Cy B4;obtain ⟨Id,Ew,Ey⟩:=(Aa.o p4).cells Ah Cz;obtain rfl:=Ew;refine Ahu AO9 rfl (Ey 4 _ rfl) (AOr<|Ahk rfl rfl (Ah3 rfl (Ah2 Avn rfl (Azs (c:=Arc) (a':=(A3.1,A3.2.1,A3.2.2.1,A3.2.2.2.1,(w64<|A3.2.2.2.2 + Ag))) AO9 rfl rfl rfl AOs (Aa.o p4) Ah Cz (λ_ q=>by cases q;rfl) λIe Ez Fa=>Ahh<|q_b<|q_t<|AOv ?_))));have A4:=Aa.uO p4 Fa Ez;refine Anm [(.int .i64 Ab.1),Ac,Ad] Ai7 rfl rfl (A4.b p2).agg (Ai5 [(.int .i64 Ab.1),Ac,Ad] Ai7 rfl rfl rfl rfl (Aic rfl (Aic (A4.o2 p3).isOne<|Aic (A4.o p4).isOne Aon)) (A4.b p5) λIf Fb Fc=>AOz<|AO6 ?_);have A5:=A4.sb p5 Fc Fb rfl;obtain rfl:=AOu Ev;exact ⟨_,Ai3 Ai7 rfl rfl (A5.b p5),A5.x,_,_,_,_,rfl,(A1n<|A5.o2 p3),(A0m<|A5.o p4),A5.s.sel [3,4] AOs⟩
    ·refine AOv<|Ai0 rfl rfl (AO1 ?_);have C0:=Ahz Cy B4;refine ⟨_,rfl,λB5=>?_,λB5=>?_⟩
     ·refine Ag6<|AOr<|Ah3 rfl (Ah2 Anv rfl ?_);obtain ⟨A6,C1,Fd⟩:=AOw<|Ahy C0 B5;obtain ⟨Ih,Fe,Ff⟩:=(Aa.o p4).cells Ah C1;obtain rfl:=Fe;refine Ahu Aii rfl (Ff 0 _ rfl) (AOr<|Aj6 rfl rfl AOs (Ahk rfl rfl (Ah3 rfl (Ah2 Anv rfl (Azs (c:=Arc) (a':=((w64<|A6.1 + (Int.tmod Ag 3)),A6.2.1,A6.2.2.1,A6.2.2.2.1,A6.2.2.2.2)) Aii rfl rfl rfl AOs (Aa.o p4) Ah C1 (λ_ q=>by cases q;rfl) λIi Fg Fh=>Ahh<|q_b<|q_t<|AOv ?_)))));have A7:=Aa.uO p4 Fh Fg;refine Anm [(.int .i64 Ab.1),Ac,Ad] Ai7 rfl rfl (A7.b p2).agg (Ai5 [(.int .i64 Ab.1),Ac,Ad] Ai7 rfl rfl rfl rfl (Aic rfl (Aic (A7.o2 p3).isOne<|Aic (A7.o p4).isOne Aon)) (A7.b p5) λIj Fi Fj=>AOz<|AO6 ?_);have A8:=A7.sb p5 Fj Fi rfl;obtain rfl:=AOu Fd;exact ⟨_,Ai3 Ai7 rfl rfl (A8.b p5),A8.x,_,_,_,_,rfl,(A1n<|A8.o2 p3),(A0m<|A8.o p4),A8.s.sel [3,4] AOs⟩
     ·refine AOv<|Ai0 rfl rfl (AO1 ?_);have C2:=Ahz C0 B5;refine ⟨_,rfl,λB6=>?_,λB6=>?_⟩
      ·refine Ag6<|AOr<|AOr<|As3 Asg Ajp rfl (Aj6 rfl rfl AOs (As3 Ajp Axn rfl (Ahk rfl rfl (Ah3 rfl (Ah2 Ar7 rfl ?_)))));obtain ⟨Br,Fk,Fl⟩:=AOw<|Ahy C2 B6;refine Azs (c:=Arc) (a':=(Br.1,(w64<|1 + (w64<|Int.tmod (IntKind.wrap .u64 Ag) 3)),Br.2.2.1,Br.2.2.2.1,Br.2.2.2.2)) Aii rfl rfl rfl AOs (Aa.o p4) Ah Fk (λ_ q=>by cases q;rfl) λIk Fm Fo=>Ahh<|q_b<|q_t<|AOv ?_;have A9:=Aa.uO p4 Fo Fm;refine Anm [(.int .i64 Ab.1),Ac,Ad] Ai7 rfl rfl (A9.b p2).agg (Ai5 [(.int .i64 Ab.1),Ac,Ad] Ai7 rfl rfl rfl rfl (Aic rfl (Aic (A9.o2 p3).isOne<|Aic (A9.o p4).isOne Aon)) (A9.b p5) λIl Fp Fq=>AOz<|AO6 ?_);have Ba:=A9.sb p5 Fq Fp rfl;obtain rfl:=AOu Fl;exact ⟨_,Ai3 Ai7 rfl rfl (Ba.b p5),Ba.x,_,_,_,_,rfl,(A1n<|Ba.o2 p3),(A0m<|Ba.o p4),Ba.s.sel [3,4] AOs⟩
      ·refine AOv<|Ai0 rfl rfl (AO1 ?_);have C3:=Ahz C2 B6;refine ⟨_,rfl,λB7=>?_,λB7=>?_⟩
       ·refine Ag6<|Ai6 Ao4 Avc (Aa.b p2) 2 rfl ?_;obtain ⟨Fr,Ft⟩:=ifN<|Ahy C3 B7;refine BGv Atu rfl (Aa.o p4).rd (Aa.o p4).cap rfl Fr λB8 Fu C4=>Ah2 Ao4 rfl (Awc [(.int .i64 Ab.1),Ac,B8] Avc rfl rfl C4.one (Aa.b p2) (Nat.le_of_ble_eq_true rfl) rfl λIm Fv Fw=>Ahh<|q_b<|q_t<|AOv ?_);have Bt:=Aa.sb p2 Fw Fv rfl;refine Anm [(.int .i64 Ab.1),Ac,B8] Ai7 rfl rfl (Bt.b p2).agg (Ai5 [(.int .i64 Ab.1),Ac,B8] Ai7 rfl rfl rfl rfl (Aic rfl (Aic (Bt.o2 p3).isOne<|Aic C4.one Aon)) (Bt.b p5) λIo Fx Fy=>AOz<|AO6 ?_);have Bb:=Bt.sb p5 Fy Fx rfl;obtain rfl:=AOu Ft;exact ⟨_,Ai3 Ai7 rfl rfl (Bb.b p5),Bb.x,_,_,_,_,rfl,(A1n<|Bb.o2 p3),(BSh (Bb.o p4) Fu),Bb.s.sel [3,4] AOs⟩
       ·refine AOv<|Ai0 rfl rfl (AO1 ?_);have C5:=Ahz C3 B7;refine ⟨_,rfl,λB9=>?_,λB9=>?_⟩
        ·refine Ag6<|Ai6 Apd Aia (Aa.b p2) 1 rfl ?_;obtain ⟨Fz,F4⟩:=ifN<|Ahy C5 B9;refine BD8 APa rfl (Aa.o2 p3).rd rfl Fz λCa F5 C6=>Ah2 Apd rfl (Awc [(.int .i64 Ab.1),Ca,Ad] Aia rfl rfl C6.one (Aa.b p2) (Nat.le_of_ble_eq_true rfl) rfl λIp F6 F7=>Ahh<|q_b<|q_t<|AOv ?_);have Bu:=Aa.sb p2 F7 F6 rfl;refine Anm [(.int .i64 Ab.1),Ca,Ad] Ai7 rfl rfl (Bu.b p2).agg (Ai5 [(.int .i64 Ab.1),Ca,Ad] Ai7 rfl rfl rfl rfl (Aic rfl (Aic C6.one<|Aic (Bu.o p4).isOne Aon)) (Bu.b p5) λIq F8 F9=>AOz<|AO6 ?_);have Bc:=Bu.sb p5 F9 F8 rfl;obtain rfl:=AOu F4;exact ⟨_,Ai3 Ai7 rfl rfl (Bc.b p5),Bc.x,_,_,_,_,rfl,(BSg (Bc.o2 p3) F5),(A0m<|Bc.o p4),Bc.s.sel [3,4] AOs⟩
        ·refine AOv<|Ai0 rfl rfl (AO1 ?_);have C7:=Ahz C5 B9;refine ⟨_,rfl,λCb=>?_,λCb=>?_⟩
         ·refine Ame<|Ai6 Apd Aia (Aa.b p2) 1 rfl (AOr<|AOr<|Aim APe rfl ((Aa.o2 p3).rowI Ai Aj) (Avu rfl rfl AOs ?_));obtain ⟨Ga,Gb⟩:=ifN<|Ahy C7 Cb;refine BMj APe rfl ((Aa.o2 p3).rowI Ai Aj) ((Aa.o2 p3).rowCap Ai Aj) rfl Ga λIr Gc Gd=>?_;obtain ⟨Is,C8,Ge⟩:=AOw Gb;refine Aij APa rfl (Aa.o2 p3) rfl C8 λIt Iu Gf Iv Iw=>BSi (m:=(Int.tmod (w64 Ak) (Ab.2.1.length:Int))) Aha (Aa.o2 p3) C8 Gf rfl rfl Ai Aj Gc Gd.one λIx Gg Gh=>Ahh<|q_b<|q_t<|AOv ?_;have Be:=Aa.us2 p3 Gh Gg;refine Anm [(.int .i64 Ab.1),Ac,Ad] Ai7 rfl rfl (Be.b p2).agg (Ai5 [(.int .i64 Ab.1),Ac,Ad] Ai7 rfl rfl rfl rfl (Aic rfl (Aic ((Be.s2 p3)).isOne<|Aic (Be.o p4).isOne Aon)) (Be.b p5) λIy Gi Gj=>AOz<|AO6 ?_);have Bf:=Be.sb p5 Gj Gi rfl;obtain rfl:=AOu Ge;exact ⟨_,Ai3 Ai7 rfl rfl (Bf.b p5),Bf.x,_,_,_,_,rfl,(Bf.s2P p3),(A0m<|Bf.o p4),Bf.s.sel [3,4] AOs⟩
         ·refine AOv<|Ai0 rfl rfl (AO1 ?_);have C9:=Ahz C7 Cb;refine ⟨_,rfl,λCd=>?_,λCd=>?_⟩
          ·refine Ag6<|Ai6 Awj AO9 (Aa.b p2) 0 rfl (AOr<|Aj6 rfl rfl AOs (Ahk rfl rfl (Ah2 Awj rfl (Awc [(.int .i64<|w64<|Ab.1 + (Int.tmod Ag 4)),Ac,Ad] AO9 rfl rfl rfl (Aa.b p2) (Nat.le_of_ble_eq_true rfl) rfl λIz Gk Gl=>Ahh<|q_b<|q_t<|AOv ?_))));have Bg:=Aa.sb p2 Gl Gk rfl;refine Anm [(.int .i64<|w64<|Ab.1 + (Int.tmod Ag 4)),Ac,Ad] Ai7 rfl rfl (Bg.b p2).agg (Ai5 [(.int .i64<|w64<|Ab.1 + (Int.tmod Ag 4)),Ac,Ad] Ai7 rfl rfl rfl rfl (Aic rfl (Aic (Bg.o2 p3).isOne<|Aic (Bg.o p4).isOne Aon)) (Bg.b p5) λI0 Gm Gn=>AOz<|AO6 ?_);have Bh:=Bg.sb p5 Gn Gm rfl;obtain rfl:=AOu<|Ahy C9 Cd;exact ⟨_,Ai3 Ai7 rfl rfl (Bh.b p5),Bh.x,_,_,_,_,rfl,(A1n<|Bh.o2 p3),(A0m<|Bh.o p4),Bh.s.sel [3,4] AOs⟩
          ·refine AO5<|q_b<|q_t<|AOv<|Anm [(.int .i64 Ab.1),Ac,Ad] Ai7 rfl rfl (Aa.b p2).agg (Ai5 [(.int .i64 Ab.1),Ac,Ad] Ai7 rfl rfl rfl rfl (Aic rfl (Aic (Aa.o2 p3).isOne<|Aic (Aa.o p4).isOne Aon)) (Aa.b p5) λI1 Gp Gq=>AOz<|AO6 ?_);have Bi:=Aa.sb p5 Gq Gp rfl;obtain rfl:=AOu<|Ahz C9 Cd;exact ⟨_,Ai3 Ai7 rfl rfl (Bi.b p5),Bi.x,_,_,_,_,rfl,(A1n<|Bi.o2 p3),(A0m<|Bi.o p4),Bi.s.sel [3,4] AOs⟩
end Go.Proofs.YtkakafabeobahaaGreatDoor
namespace Go.Proofs.YtkakafabeobahaaGreatDoor
open Go Go.QF
set_option maxRecDepth 100000
set_option maxHeartbeats 40000000
noncomputable def Amp (fuel:Nat) (a1 a2:Int) (a5 a9:LiA) (Ah Ai Aj:Int):Option Bool:=
 (Aly fuel a1 a2 a5 a9 5).bind λAb=>(Ak7 fuel Ab 2).bind λAc=>(Amd fuel Ac.1 Ac.2.1 Ac.2.2 Ah Ai<|Int.tmod Aj 100).bind λAa=>(Aps fuel Ab Aa.1 Aa.2.1 Aa.2.2).bind λAk=>(Anu fuel Ab Aa.1 Aa.2.1 Aa.2.2).bind λAm=>if Ak=Am then (Aox fuel).bind λAo=>some Ao else some false
theorem Av5 {Ae:Value} {a5:LiA} {Af:Value} {a9:LiA} {Av Aw Ax:Int} (H4:SlC (cI .i8) h Ae a5) (H8:SlC (cI .i8) h Af a9) (HO:A3p h) (hp:Amp fuel a1 a2 a5 a9 Av Aw Ax=some r):Ahs Tryz.prog 3 #[(.agg #[(.int .u8 a1),(.int .u8 a2),Ae,Af]),(.int .u8 Av),(.int .u8 Aw),(.int .i64 Ax)] h (λx h'=>Ext h h'/\x= .bool r):=by
 unfold Amp at hp;refine cwf (l:=[_,_,_,_]) Tryz.func3 rfl rfl (AOv<|Ano (Kst.k0 h) [(.int .u8 a1),(.int .u8 a2),Ae,Af] λCd Ce Cf Ag=>Ah7<|Anm [(.int .u8 a1),(.int .u8 a2),Ae,Af] BJ9 rfl rfl (Ag.b p0).agg ?_);obtain ⟨Cg,A9,Ba⟩:=AOw hp;refine Aux Ag (Aw3 (H4.ext Ag.x) (H8.ext Ag.x) A9) λCh Ci Cj Ck Cm Cn Ay=>Ah7<|AOr ?_;obtain ⟨Az,Bb,Bc⟩:=AOw Ba;refine Aqs rfl (Axy (Ay.o2 p0).rd Bb) λCo Cp Be Bf=>?_;obtain ⟨Bg,Bh,Bi,Bj,Bl,Bm,rfl,Bn,Bo,Bp⟩:=Bf;have Ah:=Ay.n Be [aO2 (cI .i64) 61 2 Bi Bj Bl Bg Az.2.1,aO Arc 60 Bm Bh Az.2.2] Bp ⟨Bn,Bo,trivial⟩;simp only [List.cons_append,List.nil_append] at Ah;refine AOr<|AOr<|AOr<|Aj6 rfl rfl AOs ?_;obtain ⟨Ab,Bq,Br⟩:=AOw Bc;refine Aqs rfl (Axj (Ah.o2 p0).rd (Ah.o p1).rd Bq) λCq Cr Bt Bu=>?_;obtain ⟨Ai,Aj,Bv,Bw,rfl,I64,Bx,By⟩:=Bu;have A3:=Ah.n Bt [aS2 (cI .i64) Bv Ai Ab.2.1,aS1 Arc Bw Aj Ab.2.2] By ⟨I64,Bx,trivial⟩;simp only [List.cons_append,List.nil_append] at A3;refine Aj4 A3 [(.int .i64 0),(.slice none 0 0),(.slice none 0 0)] A2b λCt Cu Cv Ak=>Ai5 [(.int .i64 Ab.1),Ai,Aj] Ai7 rfl rfl rfl rfl (Aic rfl (Aic ((Ak.s2 p1)).isOne<|Aic ((Ak.s1 p2)).isOne Aon)) (Ak.b p0) λAp Bz B1=>AOz<|AOx<|Ai1 (λh'=>UpT [] Ap h') AO4 ?_;have Aa:=Ak.sb p0 B1 Bz rfl;have A4:UpT [] Ap Ap:=UpT.start all_nil;refine AOr<|Api [(.int .i64 Ab.1),Ai,Aj] Ai7 rfl rfl A4 (λh' hb=>((Aa.b p0).ext hb.ext).agg) ?_;obtain ⟨B3,B4,B5⟩:=AOw Br;refine A5s Aa A4 (Ayz (Aa.o2 p5).rd (Aa.s2 p1) (Aa.s1 p2) (HO.ext Aa.x) B4) λCw Cx Am A5=>AOr<|Api [(.int .i64 Ab.1),Ai,Aj] Ai7 rfl rfl A5 (λh' hb=>((Aa.b p0).ext hb.ext).agg) ?_;obtain ⟨B6,B7,A6⟩:=AOw B5;refine A5s Am A5 (Ayy (Am.o2 p5).rd (Am.s2 p1) (Am.s1 p2) B7) λCy Cz Aq B8=>Ai0 rfl rfl (AOr ?_);by_cases Ao:B3=B6
 ·rw [decide_eq_true Ao];refine Ahb 27 true ?_;obtain ⟨C0,B9,Ca⟩:=AOw<|ifT A6 Ao;refine A5s Aq B8 (Azx (HO.ext Aq.x) B9) λC1 C2 Cb C3=>Ahc rfl (AO1<|AO6 ?_);obtain rfl:=AOu Ca;exact ⟨_,AO7,Cb.x,rfl⟩
 ·rw [decide_eq_false Ao];refine BA1 27 false<|APd rfl (AO1<|AO6 ?_);obtain rfl:=AOu<|ifF A6 Ao;exact ⟨_,AO7,Aq.x,rfl⟩
end Go.Proofs.YtkakafabeobahaaGreatDoor
namespace Go.Proofs.YtkakafabeobahaaGreatDoor
open Go Go.QF
set_option maxRecDepth 100000
theorem BOg {L:List Ak8} (hT:T.length<=8) (hr:∀ z∈T,z.length<=8) (hL:L.length<=8) (hf:100 < fuel):Apc fuel p T L=some (p,T,L):=by
 apply ok_eq;unfold Apc;refine Ah8 AOq<|AOy (Q:=(· =T)) (Ah4 (λi s=>s=((i:Int),T.take i)/\i<=T.length) T.length ⟨rfl,Nat.zero_le _⟩ AOq λi s hi hI=>?_) λe he=>AOt (by rw [he]);obtain ⟨rfl,hin⟩:=hI;unfold As2;dsimp only;refine Ag9 (λh=>?_) λh=>AOt (by rw [show i=T.length by omega,List.take_length]);have hi:i < T.length:=by omega
 have hg:=List.getElem?_eq_getElem hi;have:=hr _<|List.getElem_mem hi;rw [Akk hg,if_pos AOq,if_pos (by rw [List.length_take];omega),Ah1 AOq];exact AOt ⟨hi,by rw [List.take_add_one,hg];rfl,hi⟩
theorem BRa (l:List α) (i:Int) (x:α):(sI l i x).length=l.length:=by unfold sI;rw [List.length_set]
theorem BRb {fl n:Int} {L:List Ak8} (hT:T.length<=8) (hr:∀ z∈T,z.length<=8) (hL:L.length<=8) (ha:0<=a/\a < 256) (hf:100 < fuel):Ok (Amd fuel p T L a fl n) λr=>r.2.2.length<=8:=by
 unfold Amd;rw [BOg hT hr hL hf];simp only [Option.bind_some];refine AOy (Q:=λex=>ex= .inl (p,T,L)∨(∃ e,ex= .inr e)/\0 < T.length/\0 < L.length) (Ag9 (λ_=>AOt<|.inl rfl) λh=>Ag9 (λ_=>AOt<|.inl rfl) λh2=>AOt<|.inr ⟨⟨_,rfl⟩,AOq,AOq⟩) λex hex=>?_;rcases hex with rfl | ⟨⟨⟨x,y,z⟩,rfl⟩,h1,h2⟩
 ·exact AOt hL
 dsimp only
 have ix:∀ (b:Int) (m:Nat),0<=b->0 < m-> ∃ k:Nat,Int.tmod b (m:Int)=k/\k < m:=λb m h0 hm=>by
  have h3:=Int.emod_nonneg b (show (m:Int)≠0 by omega)
  have h4:=Int.emod_lt_of_pos b (show (0:Int) < m by omega)
  rw [Int.tmod_eq_emod_of_nonneg h0]
  exact ⟨(b % m).toNat,AOq,AOq⟩
 have hw:w64 a=a:=wk AOq;rw [hw];obtain ⟨k,hk,hkl⟩:=ix a L.length ha.1 h2;obtain ⟨q,hq,hql⟩:=ix a T.length ha.1 h1;have gL:=List.getElem?_eq_getElem hkl;have gT:=List.getElem?_eq_getElem hql;have hrow:=hr _<|List.getElem_mem hql;have len:∀ {b:Ak8},(sI L (Int.tmod a L.length) b).length<=8:=λ{b} =>by rw [BRa];exact hL
 refine Ah8 AOq<|Ahj gL hk<|Ah8 AOq<|Ahj gT hq<|AOy (Q:=λ_=>True) (Ag9 (λ_=>AOt trivial) λ_=>AOt trivial) λe _=>Ag9 (λ_=>Ag9 (λh3=>?_) λ_=>AOt hL) λ_=>Ag9 (λ_=>Ahj gL hk<|AOt len) λ_=>Ag9 (λ_=>Ahj gL hk<|AOt len) λ_=>Ag9 (λ_=>Ahj gL hk<|AOt len) λ_=>Ag9 (λ_=>Ahj gL hk<|AOt len) λ_=>Ag9 (λ_=>Ahj gL hk<|AOt len) λ_=>Ag9 (λ_=>Ah8 AOq<|AOt (by dsimp only;rw [List.length_drop];omega)) λ_=>Ag9 (λ_=>Ah8 AOq<|AOt hL) λ_=>Ag9 (λ_=>?_) λ_=>Ag9 (λ_=>AOt hL) λ_=>AOt hL
 ·have h5:0<=w64 (IntKind.wrap .u8<|Int.tdiv a 8):=by
   have h6:IntKind.wrap .u8 (Int.tdiv a 8)=Int.tdiv a 8 % 256:=IntKind.wrap_u8 _
   have h7:=Int.emod_nonneg (Int.tdiv a 8) (show (256:Int)≠0 by decide)
   have h8:=Int.emod_lt_of_pos (Int.tdiv a 8) (show (0:Int) < 256 by decide)
   rw [h6,wk AOq];omega
  obtain ⟨s,hs,hsl⟩:=ix _ T[q].length h5 AOq;exact Ah8 AOq<|Ahj gT hq<|Ahj (List.getElem?_eq_getElem hsl) hs<|AOt hL
 ·have h5:Int.tdiv (T[q].length:Int) 2=((T[q].length / 2:Nat):Int):=by rw [Int.tdiv_eq_ediv_of_nonneg AOq];omega
  rw [h5,wk AOq];exact Ah8 AOq<|Ahj (n:=0) (List.getElem?_eq_getElem h1) rfl (AOt hL)
theorem BRc (R:A5i M) (hp:Pr p) (Aa:p<=9973) (hf:2147483648 < fuel):Ok (Ak7 fuel M p) λr=>r.2.1.length<=8/\(∀ z∈r.2.1,z.length<=8)/\r.2.2.length<=8:=by
 have h8:=R.1.2;refine A6d (BQ2 R hp Aa hf) λr hr=>?_;obtain ⟨-,⟨m,-,h1,h2⟩,h3⟩:=hr;exact ⟨AOq,λz hz=>by have:=(h2 z hz).1;omega,AOq⟩
theorem A3a {g kd fl n:Int} {Z Y:List Int} (hg:0<=g/\g < 256) (ha:0<=a/\a < 256):Amp (Alj + 1) g kd Z Y a fl n=some true:=by
 have hf:Alj < Alj + 1:=Nat.lt_succ_self _;have Ac:100 < Alj + 1:=Nat.lt_of_le_of_lt AOs hf;have Aa:2147483648 < Alj + 1:=Nat.lt_of_le_of_lt AOs hf;apply ok_eq;unfold Amp;refine AOy (BQm hg AOs hf) λM hM=>?_;obtain ⟨m,A,rfl,h1,h2,RF,-⟩:=hM;have R:=BNo h1 AOq RF;have hfit:=BK2 (by omega:m<=8) RF;refine AOy (BRc R ⟨AOq,λd h1 h2=>by omega⟩ AOs Aa) λj hj=>AOy (BRb hj.1 hj.2.1 hj.2.2 ha Ac) λb hb=>?_;obtain ⟨r,e1,e2⟩:=BHo (fuel:=Alj + 1) (M:=tab m m A) (p:=b.1) (T:=b.2.1) (L:=b.2.2) hfit AOq Aa;rw [e1];simp only [Option.bind_some];rw [e2];simp only [Option.bind_some];rw [if_pos trivial,BAo];exact AOt rfl
end Go.Proofs.YtkakafabeobahaaGreatDoor
