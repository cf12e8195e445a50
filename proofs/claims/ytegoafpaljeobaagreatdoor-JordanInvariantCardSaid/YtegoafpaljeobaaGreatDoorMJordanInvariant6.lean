/-
  Texts of a proof, joined. Conditions stand in each statement.
-/
import Derived.Test.YtegoafpaljeobaaGreatDoorMJordanInvariant5
set_option linter.unusedVariables false
set_option linter.unusedSimpArgs false
set_option maxRecDepth 100000
set_option maxHeartbeats 40000000
open Go Go.QF
variable {h:Go.QF.AH8} {G A B T U:Go.QF.AIe} {od:Go.QF.AJ0->Prop} {q x l p a1 a2 D most:Int} {M:List (List Int)} {C:List Go.QF.AMi} {fuel j r i s k d f a K E t:Nat}
namespace Go.Proofs.YtegoafpaljeobaaGreatDoor
noncomputable def ARt (fuel:Nat) (a5 Ao:Int) (Ag:LiI) (Ac Ad Ae Ab Aa:Int):Option ((Int × Int × Int × Int) ⊕ ((Int × Int) ⊕ (Int × Int × Int))):=
 if w64 (Aa + Ac) < (Ag.length:Int) then (((gI Ag Aa).bind λAp=>(gI Ap<|w64<|Aa + Ac).bind λAh=>if Ah=0 then some (.inl (Ad,Ae,Ab)) else (((ARl fuel Ah a5).bind λAf=>if Ab < 0 then some (Aa,w64<|Aa + Ac,Af.1) else if Af.1 < Ab then some (Aa,w64<|Aa + Ac,Af.1) else some (Ad,Ae,Ab)):Option (Int × Int × Int)).bind (λ((Ai,Aj,Ak):Int × Int × Int)=>if Ak=Ao then some (.inr (Ai,Aj)) else some<|.inl (Ai,Aj,Ak))):Option ((Int × Int × Int) ⊕ (Int × Int))).bind (λex=>match ex with | .inl (Aq,Ar,Au)=>(some<|.inl (Aq,Ar,Au,w64<|Aa + 1)) | .inr (Av,Aw)=>some<|.inr<|.inl (Av,Aw)) else some<|.inr<|.inr (Ad,Ae,Ab)
noncomputable def ARu (fuel:Nat) (a5 Ag Ab:Int) (Ac:LiI) (Ad Ae Ah Aa:Int):Option ((Int × Int × Int × Int) ⊕ (Int × Int)):=
 if Aa < w64 ((Ac.length:Int) - Ab) then (iter (λs=>ARt fuel a5 Ag Ac Aa s.1 s.2.1 s.2.2.1 s.2.2.2) fuel (Ad,Ae,Ah,Ab)).bind (λex=>match ex with | .inl (Ai,Aj)=>(some<|.inr (Ai,Aj)) | .inr (Ak,Am,Ao)=>some<|.inl (Ak,Am,Ao,w64<|Aa + 1)) else some<|.inr (Ad,Ae)
noncomputable def AQ2 (fuel:Nat) (Ad Ae Af:Int) (Ag:LiI) (Aa:Int) (Ab:LiI):Option ((Int × LiI) ⊕ LiI):=
 if Aa < (Ag.length:Int) then (gI Ab Aa).bind λAc=>(gI Ac Ae).bind λAh=>(gI Ac Af).bind λAi=>if Ad≠0 then some (.inl (w64<|Aa + 1,sI Ab Aa<|sI Ac Ae<|Int.tmod (w64<|Ah + w64 (1 * Ai)) Ad)) else none else some<|.inr Ab
noncomputable def AQ3 (fuel:Nat) (Ad Ae Af:Int) (Ag:LiI) (Aa:Int) (Ab:LiI):Option ((Int × LiI) ⊕ LiI):=
 if Aa < (Ag.length:Int) then (gI Ab Aa).bind λAc=>(gI Ac Ae).bind λAh=>(gI Ac Af).bind λAi=>if Ad≠0 then some (.inl (w64<|Aa + 1,sI Ab Aa<|sI Ac Ae<|Int.tmod (w64<|Ah + w64 (1 * Ai)) Ad)) else none else some<|.inr Ab
noncomputable def ANm (fuel:Nat) (Ac Ad Af:Int) (Ag:LiA) (Aa:Int) (Ab:LiI):Option ((Int × LiI) ⊕ LiI):=
 if Aa < (Ag.length:Int) then (gI Ab Af).bind λAh=>(gI Ah Aa).bind λAi=>(gI Ab Ad).bind λAe=>(gI Ae Aa).bind λAj=>if Ac≠0 then some (.inl (w64<|Aa + 1,sI Ab Ad<|sI Ae Aa<|Int.tmod (w64<|Aj + w64 (1 * Ai)) Ac)) else none else some<|.inr Ab
noncomputable def AMh (fuel:Nat) (Ad Ae Af Aa:Int) (Ab Ac:LiI):Option ((Int × LiI × LiI) ⊕ (LiI × LiI)):=
 if Aa < 2 then if Aa=0 then (iter (λs=>AQ2 fuel Ad Ae Af Ab s.1 s.2) fuel (0,Ab)).bind (λ(Ag:LiI)=>some<|.inl (w64<|Aa + 1,Ag,Ac)) else if Aa=1 then (iter (λs=>AQ3 fuel Ad Ae Af Ac s.1 s.2) fuel (0,Ac)).bind (λ(Ah:LiI)=>some<|.inl (w64<|Aa + 1,Ab,Ah)) else none else some<|.inr (Ab,Ac)
noncomputable def AQ4 (fuel:Nat) (Ad Ae:Int) (Ah:LiI) (Aa:Int) (Ab:LiI):Option ((Int × LiI) ⊕ LiI):=
 if Aa < (Ah.length:Int) then (gI Ab Aa).bind λAc=>(gI Ac Ae).bind λAf=>(gI Ac Ad).bind λAi=>(gI (sI Ab Aa<|sI Ac Ad Af) Aa).bind λAg=>(gI Ag Ae).bind λAj=>some (.inl (w64<|Aa + 1,sI (sI Ab Aa<|sI Ac Ad Af) Aa<|sI Ag Ae Ai)) else some<|.inr Ab
noncomputable def AQ5 (fuel:Nat) (Ad Ae:Int) (Ah:LiI) (Aa:Int) (Ab:LiI):Option ((Int × LiI) ⊕ LiI):=
 if Aa < (Ah.length:Int) then (gI Ab Aa).bind λAc=>(gI Ac Ae).bind λAf=>(gI Ac Ad).bind λAi=>(gI (sI Ab Aa<|sI Ac Ad Af) Aa).bind λAg=>(gI Ag Ae).bind λAj=>some (.inl (w64<|Aa + 1,sI (sI Ab Aa<|sI Ac Ad Af) Aa<|sI Ag Ae Ai)) else some<|.inr Ab
noncomputable def ANn (fuel:Nat) (Ad Ae Aa:Int) (Ab Ac:LiI):Option ((Int × LiI × LiI) ⊕ (LiI × LiI)):=
 if Aa < 2 then if Aa=0 then (iter (λs=>AQ4 fuel Ad Ae Ab s.1 s.2) fuel (0,Ab)).bind (λ(Af:LiI)=>some<|.inl (w64<|Aa + 1,Af,Ac)) else if Aa=1 then (iter (λs=>AQ5 fuel Ad Ae Ac s.1 s.2) fuel (0,Ac)).bind (λ(Ag:LiI)=>some<|.inl (w64<|Aa + 1,Ab,Ag)) else none else some<|.inr (Ab,Ac)
noncomputable def AQ6 (fuel:Nat) (Aa Af Ag Ae Ah Ai:Int) (Aj:LiI) (Ab:Int) (Ac:LiI):Option ((Int × LiI) ⊕ LiI):=
 if Ab < (Aj.length:Int) then (gI Ac Ab).bind λAd=>(gI Ad Ae).bind λAk=>(gI Ad Af).bind λAm=>if Aa≠0 then some (.inl (w64<|Ab + 1,sI Ac Ab<|sI Ad Ae<|Int.tmod (w64<|Ak + w64 (Int.tmod (w64<|Aa - Int.tmod (w64<|w64 (Int.tdiv Ah Ag) * Ai) Aa) Aa * Am)) Aa)) else none else some<|.inr Ac
noncomputable def AQ7 (fuel:Nat) (Aa Af Ag Ae Ah Ai:Int) (Aj:LiI) (Ab:Int) (Ac:LiI):Option ((Int × LiI) ⊕ LiI):=
 if Ab < (Aj.length:Int) then (gI Ac Ab).bind λAd=>(gI Ad Ae).bind λAk=>(gI Ad Af).bind λAm=>if Aa≠0 then some (.inl (w64<|Ab + 1,sI Ac Ab<|sI Ad Ae<|Int.tmod (w64<|Ak + w64 (Int.tmod (w64<|Aa - Int.tmod (w64<|w64 (Int.tdiv Ah Ag) * Ai) Aa) Aa * Am)) Aa)) else none else some<|.inr Ac
noncomputable def AO2 (fuel:Nat) (Aa Af Ag Ad Ah Ai:Int) (Aj:LiA) (Ab:Int) (Ac:LiI):Option ((Int × LiI) ⊕ LiI):=
 if Ab < (Aj.length:Int) then (gI Ac Af).bind λAk=>(gI Ak Ab).bind λAm=>(gI Ac Ad).bind λAe=>(gI Ae Ab).bind λAo=>if Aa≠0 then some (.inl (w64<|Ab + 1,sI Ac Ad<|sI Ae Ab<|Int.tmod (w64<|Ao + w64 (Int.tmod (w64<|Aa - Int.tmod (w64<|w64 (Int.tdiv Ah Ag) * Ai) Aa) Aa * Am)) Aa)) else none else some<|.inr Ac
noncomputable def ANo (fuel:Nat) (Ad Ae Af Ag Ah Ai Aa:Int) (Ab Ac:LiI):Option ((Int × LiI × LiI) ⊕ (LiI × LiI)):=
 if Aa < 2 then if Aa=0 then (iter (λs=>AQ6 fuel Ad Ae Af Ag Ah Ai Ab s.1 s.2) fuel (0,Ab)).bind (λ(Aj:LiI)=>some<|.inl (w64<|Aa + 1,Aj,Ac)) else if Aa=1 then (iter (λs=>AQ7 fuel Ad Ae Af Ag Ah Ai Ac s.1 s.2) fuel (0,Ac)).bind (λ(Ak:LiI)=>some<|.inl (w64<|Aa + 1,Ab,Ak)) else none else some<|.inr (Ab,Ac)
noncomputable def AQ8 (fuel:Nat) (Ab Ac Ae:Int) (Aj:LiI) (Aa:Int) (Ad Af:LiI):Option ((Int × LiI × LiI) ⊕ (LiI × LiI)):=
 if Aa < (Ad.length:Int) then (gI Ad Ac).bind λAk=>(gI Ak Aa).bind λAg=>if Ae≠0 then (gI Aj 0).bind λAm=>(gI Am 0).bind λAh=>if Ab≠0 then if Ab≠0 then (((iter (λs=>ANo fuel Ab Ac Ae Aa Ag Ah s.1 s.2.1 s.2.2) fuel (0,Ad,Af)).bind (λ((Ai,Ao):LiI × LiI)=>(gI Ai Ac).bind λAp=>(iter (λs=>AO2 fuel Ab Ac Ae Aa Ag Ah Ap s.1 s.2) fuel (0,Ai)).bind (λ(Aq:LiI)=>some (Aq,Ao)))):Option (LiI × LiI)).bind λ(Ar,Au)=>some (.inl (w64<|Aa + 1,Ar,Au)) else none else none else none else some<|.inr (Ad,Af)
noncomputable def ANy (fuel:Nat) (a3:LiI) (a5 Ad Aq Aa:Int) (Ae Ah:LiI) (Ai:List AJ0):Option ((Int × Int × LiI × LiI × List AJ0) ⊕ (LiI × LiI × List AJ0)):=
 if Aa < (a3.length:Int) then (((((iter (λs=>ARu fuel a5 Aq Aa Ae s.1 s.2.1 s.2.2.1 s.2.2.2) fuel (Aa,Aa,-1,0)).bind (λ((Ar,Au):Int × Int)=>some (Ar,Au))):Option (Int × Int)).bind λ(Ac,Af)=>((if ¬ Ac=Af then (((iter (λs=>AMh fuel Ad Ac Af s.1 s.2.1 s.2.2) fuel (0,Ae,Ah)).bind (λ((Ak,Av):LiI × LiI)=>(gI Ak Af).bind λAw=>(iter (λs=>ANm fuel Ad Ac Af Aw s.1 s.2) fuel (0,Ak)).bind (λ(Ax:LiI)=>some (Ax,Av)))):Option (LiI × LiI)).bind λ(Ay,Az)=>some (Ay,Az) else some (Ae,Ah)):Option (LiI × LiI)).bind (λ((Aj,A3):LiI × LiI)=>(((gI Aj Ac).bind λA4=>(gI Aj Aa).bind λA5=>(iter (λs=>ANn fuel Aa Ac s.1 s.2.1 s.2.2) fuel (0,sI (sI Aj Aa A4) Ac A5,A3)).bind (λ((A6,A7):LiI × LiI)=>some (A6,A7))):Option (LiI × LiI)).bind λ(Am,A8)=>(gI Am Aa).bind λA9=>(gI A9 Aa).bind λBa=>(ARl fuel Ba a5).bind λAb=>(ARi fuel a5 Ab.1).bind λBb=>(ASm fuel ([([Ab.2.2.1]:List Int)]:List LiA) Ad).bind λ(Bc,Bn)=>(iter (λs=>AQ8 fuel Ad Aa Bb Bc s.1 s.2.1 s.2.2) fuel (w64<|Aa + 1,Am,A8)).bind (λ((Be,Bf):LiI × LiI)=>some (Ab.1,Ab.2.1,Ab.2.2.1,Ab.2.2.2.1,Ab.2.2.2.2,Be,Bf)))):Option (Int × Int × Int × Int × Int × LiI × LiI)).bind λ(Ao,Bg,Bh,Bi,Bj,Bl,Bm)=>if Ai.length<=100000000 then some (.inl (Ao,w64<|Aa + 1,Bl,Bm,Ai ++ [(Ao,Bg,Bh,Bi,Bj)])) else none else some<|.inr (Ae,Ah,Ai)
noncomputable def ARv (fuel:Nat) (a3:LiI) (Aa:Int) (Ac:LiI):Option ((Int × LiI) ⊕ LiI):=
 if Aa < (a3.length:Int) then if 0<=(a3.length:Int)/\(a3.length:Int)<=100000000 then if Ac.length<=100000000 then (gI (Ac ++ [List.replicate (Int.toNat (a3.length:Int)) (0:Int)]) Aa).bind λAd=>(gI Ad Aa).bind λAe=>some (.inl (w64<|Aa + 1,sI (Ac ++ [List.replicate (Int.toNat (a3.length:Int)) (0:Int)]) Aa<|sI Ad Aa 1)) else none else none else some<|.inr Ac
noncomputable def AOf (fuel:Nat) (a3:LiI) (a5:Int):Option ((Int × LiI × List AJ0) × Int):=
 (AZq fuel a3).bind λAd=>if (!Ad)=true then some ((0,[],[]),6) else (AVi fuel a5).bind λAe=>if (!Ae)=true then some ((0,[],[]),20) else (AMf fuel a3 a5).bind λAf=>(ARi fuel a5 Af).bind λAc=>(ARk fuel a3 Ac).bind λ(Ag,Ak)=>(iter (λs=>ARv fuel a3 s.1 s.2) fuel (0,[])).bind (λ(Ah:LiI)=>(iter (λs=>ANy fuel a3 a5 Ac s.1 s.2.1 s.2.2.1 s.2.2.2.1 s.2.2.2.2) fuel (0,0,Ag,Ah,[])).bind (λ((Am,Ai,Aj):LiI × LiI × List AJ0)=>some ((a5,Ai,Aj),0)))
theorem AXw {Eu:Value} {a3:LiI} {a5:Int} {r:((Int × LiI × (List AJ0)) × Int)} (H2:ANp (cI .i64) h Eu a3) (HO:Ad2 h) (hp:AOf fuel a3 a5=some r):AI7 Tryz.prog 5 #[Eu,(.int .i64 a5)] h (λx h'=>Ext h h'/\ ∃ (Ew:Value) (Ey:Value) (Ez:List Nat) (Hj:List LnA) (Hk:List Value) (Fa:List Nat),x= .tuple #[.agg #[.int .i64 r.1.1,Ew,Ey],.int .i64 r.2]/\ALl (cI .i64) 41 2 h' Ez Hj Hk Ew r.1.2.1/\OwC AV9 52 h' Fa Ey r.1.2.2/\Sp h' h.size [Ez,Fa]):=by
 unfold AOf at hp;refine cwf (l:=[_,_]) Tryz.func5 rfl rfl (AH1<|ALm (Kst.k0 h) [(.int .i64 0),(.slice none 0 0),(.slice none 0 0)] Af0 λb6 h7 E9 Fb=>AH7<|AH3<|AH1<|AHy ?_);obtain ⟨Qs,Hl,Fc⟩:=AH2 hp;refine ALx Fb (Af1 (H2.ext Fb.x) Hl) λQt Qu Bp=>AMp rfl (AH5<|⟨_,rfl,λCg=>?_,λCg=>?_⟩)
 ·refine AH1<|ALe (v:=(.agg #[(.int .i64 0),(.slice none 0 0),(.slice none 0 0)])) (λ_=>by kernel_rfl)<|AKo [(.int .i64 0),(.slice none 0 0),(.slice none 0 0)] AS9 rfl rfl rfl rfl (by simp [isOne]) (Bp.b p0) λQv Hm Hn=>AH7<|AIc<|AIt ?_;have A7:=Kst.anil AV9 52<|Kst.anil2 (cI .i64) 41 2<|Bp.sb p0 Hn Hm rfl;obtain rfl:=AH0<|ifT Fc Cg;exact ⟨_,Aat AS9 rfl rfl (A7.b p2),A7.x,_,_,_,_,_,_,rfl,(A7.o2 p1),(A7.o p0),A7.s.sel [1,0] AHz⟩
 ·refine AIa<|q_t<|AH3<|AH1<|AHy ?_;obtain ⟨Qw,Ho,Fd⟩:=AH2<|AQa Fc Cg;refine ALx Bp (Aa7 (HO.ext Bp.x) Ho) λQx Qy A8=>AMp rfl (AH5<|⟨_,rfl,λCh=>?_,λCh=>?_⟩)
  ·refine AH1<|ALe (v:=(.agg #[(.int .i64 0),(.slice none 0 0),(.slice none 0 0)])) (λ_=>by kernel_rfl)<|AKo [(.int .i64 0),(.slice none 0 0),(.slice none 0 0)] AS9 rfl rfl rfl rfl (by simp [isOne]) (A8.b p0) λQz Hq Hr=>AH7<|AIc<|AIt ?_;have A9:=Kst.anil AV9 52<|Kst.anil2 (cI .i64) 41 2<|A8.sb p0 Hr Hq rfl;obtain rfl:=AH0<|ifT Fd Ch;exact ⟨_,Aat AS9 rfl rfl (A9.b p2),A9.x,_,_,_,_,_,_,rfl,(A9.o2 p1),(A9.o p0),A9.s.sel [1,0] AHz⟩
  ·refine AIa<|q_t<|AH1<|AHy<|AJh AIk rfl H2 (AJd<|AHy<|AHy<|AHy<|AHy ?_);obtain ⟨Q0,Hs,Ht⟩:=AH2<|AQa Fd Ch;refine ALx A8 (ARq (H2.ext A8.x) (HO.ext A8.x) Hs) λQ1 Q2 Hu=>?_;obtain ⟨Ba,Hv,Hw⟩:=AH2 Ht;refine ALx Hu (AXd Hv) λQ3 Q4 Hx=>ALe (v:=(.agg #[(.int .i64 a5),(.int .i64 Ba),(.slice none 0 0),(.slice none 0 0)])) (λ_=>by kernel_rfl)<|AP5 Hx [(.int .i64 a5),(.int .i64 Ba),(.slice none 0 0),(.slice none 0 0)] λHy Q6 Q7 Ci=>AJd<|AHy<|AHy<|AHy<|AJj rfl (ALt AXo AIg (Ci.b p0) 1 rfl ?_);obtain ⟨⟨Hz,Q8⟩,Ia,Fe⟩:=AH2 Hw;dsimp only at Fe;refine ASt rfl (Adr (H2.ext Ci.x) Ia) λQ9 Rc Ib Ic=>?_;obtain ⟨Ac,Id,Ie,If,rfl,Ih,Ii⟩:=Ic;refine AHy<|AJs rfl rfl (AJs rfl rfl (AJj rfl (AJp AQ1 rfl ?_)));have Cj:=Ci.no2 Ib Ii Ih;refine AVa [(.int .i64 a5),(.int .i64 Ba),Ac,(.slice none 0 0)] AJ9 rfl rfl (Cj.o2 p0).isOne (Cj.b p1) (Nat.le_of_ble_eq_true rfl) rfl λRd Ij Ik=>AH5<|AH3<|AH1<|AHy<|AHy<|AH5<|AH6 ?_;have Ff:=Kst.anil2 (cI .i64) 41 2<|Cj.sb p1 Ik Ij rfl;refine AOq 295147887587166781696 (λx:(Int) × (LiI) × (Value) × LnA × LnN × LvA=>(x.1,x.2.1)) ((0,[],(.slice none 0 0),[],[],[]):(Int) × (LiI) × (Value) × LnA × LnN × LvA) Fe (λx=>[(44,(.int .i64 x.1))]) (λx=>(Ff.L.set 0<|aO2 (cI .i64) 41 2 x.2.2.2.1 x.2.2.2.2.1 x.2.2.2.2.2 x.2.2.1 x.2.1).set 2 (aB 48 Hy [(.int .i64 a5),(.int .i64 Ba),Ac,x.2.2.1])) Ff ⟨rfl,trivial⟩ ?_;rintro ⟨Il,Im,Ad,Ae,Ag,Ah⟩ Re Ck Rf Bb Cm Io;unfold ARv at Cm;refine AH1<|AI3 rfl rfl (AH5<|AH3<|⟨_,rfl,λCn=>?_,λCn=>?_⟩)
   ·refine AIa<|q_t<|AH3<|AH6<|AH1<|AHy<|AH7<|AH3<|AKg (λh'=>UpT (Ae ++ []) Ck h') AIb ?_;have Bq:UpT (Ae ++ []) Ck Ck:=UpT.start<|AKm (Bb.o2 p0).notD all_nil;refine AHy<|AHy<|AJj rfl (AJp Adc rfl (AJe AJ9 rfl Bq (λh' hb=>((Bb.b p2).upT hb (Aj2 (Bb.dj p2 p0 AHz) Aq8)).cell (i:=3) rfl) (AHy ?_)));obtain ⟨Ip,Iq⟩:=ifN<|AJb Cm Cn;refine AYw (c:=(cI .i64)) (a:=0) AIi ARy rfl rfl (λ_=>rfl) rfl Bq (λ_ E=>Bq.thenE E) rfl rfl AHz Ip λRg Rh Ri Ir Fg Is It=>?_;have Fh:=Bq.thenE Fg;have Br:=Bb.no Fg (ANs Is It) Ir;obtain ⟨Iu,Iv⟩:=ifN Iq;refine Ai0 AIk AU9 rfl rfl Fh (λ_ U=>Fh.then U<|ARx rfl) (λ_=>rfl) rfl (Br.o p0) (Br.o2 p1) (Br.dj p0 p1 AHz) AHz Iu λRj Rm Iw Rn Ix Iy Iz=>AJj rfl (AJp Adc rfl ?_);have Co:=Br.m2 p0 p1 AHz Iy Ix Iz;refine AVa [(.int .i64 a5),(.int .i64 Ba),Ac,Iw] AJ9 rfl rfl (Co.o2 p1).isOne (Co.b p3) (Nat.le_of_ble_eq_true rfl) rfl λRo I0 I1=>AH5<|AIf ?_;have Cp:=Co.sb p3 I1 I0 rfl;refine AHy<|AJj rfl (ALt Adc AJ9 (Cp.b p3) 3 rfl (AHy ?_));obtain ⟨Rq,Fi,I2⟩:=AH2 Iv;refine AKe AIk AIv (Cp.o2 p1) Fi λ_ Rr I3=>AHy ?_;obtain ⟨Rs,I6,I7⟩:=AH2 I2;refine AT0 (m:=Il) Cp p1 AIi AIg I3 Fi I6 (λ_=>rfl) λ_ Rt I9=>AIu<|q_b<|q_t<|AIf<|AI0 rfl rfl (AHy<|AH5 ?_);exact ⟨(_,_,_,_,_,_),(AH0 I7).symm,I9.sel [1,2,3,4] AHz,rfl,trivial⟩
   ·refine AIq<|AIr<|AIr<|AJt<|q_t<|AH1<|AHy<|ALe (v:=(.agg #[(.int .i64 a5),(.slice none 0 0),(.slice none 0 0)])) (λ_=>by kernel_rfl)<|ALm Bb [(.int .i64 0),(.slice none 0 0),(.slice none 0 0)] Af0 λJa Ru Rv Fj=>AKo [(.int .i64 a5),(.slice none 0 0),(.slice none 0 0)] AS9 rfl rfl rfl rfl (by simp [isOne]) (Fj.b p0) λRw Jc Je=>AQs<|AH7<|AH3<|AH3 ?_;refine AIf<|AHy<|AHy<|AH5<|AH6 ?_;have Fk:=Kst.anil AV9 52<|Fj.sb p0 Je Jc rfl;refine AOq 154740143727431099539790848 (λx:(Int) × (Int) × (LiI) × LnA × LnN × LvA × (LiI) × ((List AJ0)) × (Value) × LnA=>(x.1,x.2.1,x.2.2.1,x.2.2.2.2.2.2.1,x.2.2.2.2.2.2.2.1)) ((0,0,Hz,Id,Ie,If,Im,[],(.slice none 0 0),[]):(Int) × (Int) × (LiI) × LnA × LnN × LvA × (LiI) × ((List AJ0)) × (Value) × LnA) (Io _ (AH0<|AJc Cm Cn).symm) (λx=>[(10,(.int .i64 x.1)),(71,(.int .i64 x.2.1))]) (λx=>(((Fk.L.set 3<|aO2 (cI .i64) 41 2 x.2.2.2.1 x.2.2.2.2.1 x.2.2.2.2.2.1 Ac x.2.2.1).set 2 (aO2 (cI .i64) 41 2 Ae Ag Ah Ad x.2.2.2.2.2.2.1)).set 0 (aO AV9 52 x.2.2.2.2.2.2.2.2.2 x.2.2.2.2.2.2.2.2.1 x.2.2.2.2.2.2.2.1)).set 1 (aB 29 Ja [(.int .i64 a5),(.slice none 0 0),x.2.2.2.2.2.2.2.2.1])) Fk ⟨rfl,rfl,trivial⟩ ?_;rintro ⟨Rx,Cq,Jf,Bc,Be,Bf,Jg,Ry,Cr,Rz⟩ R3 R4 R5 Av Ct Jh;unfold ANy at Ct;refine AH1<|AI3 rfl rfl (AH5<|AH3<|⟨_,rfl,λCu=>?_,λCu=>?_⟩)
    ·refine AIa<|q_t<|AH3<|AH6<|AH1<|AHy<|AJd<|AHy<|AHy<|AHy ?_;obtain ⟨Ji,Jj,Jk⟩:=AH2<|AJb Ct Cu;refine AIz (K':=(λxr h'=> ∃ x:(Int) × (Int) × (Int) × (Int) × (Int) × (LiI) × LnA × LnN × LvA × (LiI),(x.1,x.2.1,x.2.2.1,x.2.2.2.1,x.2.2.2.2.1,x.2.2.2.2.2.1,x.2.2.2.2.2.2.2.2.2)=Ji/\xr=(.agg #[(.int .i64 x.1),(.int .i64 x.2.1),(.int .i64 x.2.2.1),(.int .i64 x.2.2.2.1),(.int .i64 x.2.2.2.2.1)])/\Kst h h' ((Av.L.set 3<|aO2 (cI .i64) 41 2 x.2.2.2.2.2.2.1 x.2.2.2.2.2.2.2.1 x.2.2.2.2.2.2.2.2.1 Ac x.2.2.2.2.2.1).set 2 (aO2 (cI .i64) 41 2 Ae Ag Ah Ad x.2.2.2.2.2.2.2.2.2)))) trivial rfl ?_ λR6 R7 Jl=>?_
     ·refine cwf (l:=[_,_,_]) Tryz.func18 rfl rfl (AH1<|ALm Av [(.int .i64 0),(.int .i64 0),(.int .i64 0),(.int .i64 0),(.int .i64 0)] AYx λR8 R9 Sa Bg=>AQs<|AHy<|AHy<|AHy ?_);obtain ⟨Jm,Jn,Jo⟩:=AH2 Jj;refine AIz (K':=(λxr h'=> ∃ x:(Int) × (Int),(x.1,x.2)=Jm/\xr= .tuple #[(.int .i64 x.1),(.int .i64 x.2)]/\Kst h h' (Bg.L))) trivial rfl ?_ λSb Sc Jp=>?_
      ·refine cwf (l:=[_,_,_]) Tryz.func46 rfl rfl (AH1<|AIw<|AH7<|Asn<|AH1<|AHy<|AJj rfl (ALt AQ1 AJ9 (Bg.b p5) 2 rfl (AJh AIk rfl (Bg.o2 p4).rd (AJd<|AHy<|AHy<|AIw<|AIw<|AH7<|AH3 ?_))));refine Aso<|q_t<|AH3<|AH1<|AHy<|AHy<|AMy rfl rfl (AHy<|AH5<|AH6<|APb 18889465931478513810944 Jn (λx=>[(9,(.int .i64 x.1)),(10,(.int .i64 x.2.1)),(11,(.int .i64 x.2.2.1)),(26,(.int .i64 x.2.2.2))]) (λx=>Bg.L) Bg ⟨rfl,rfl,rfl,rfl,trivial⟩ ?_);rintro ⟨Jq,Jr,Sd,Fl⟩ Se Sf Sg Cv Cw Fm;unfold ARu at Cw;refine AH1<|AI3 rfl rfl (AH5<|AH3<|⟨_,rfl,λCx=>?_,λCx=>?_⟩)
       ·refine AIa<|q_t<|AH3<|AH6<|AH1<|AHy<|AJd<|AHy<|AH7<|AH6<|APb 9444732965738216746496 (AJb Cw Cx) (λx=>[(9,(.int .i64 x.1)),(10,(.int .i64 x.2.1)),(11,(.int .i64 x.2.2.1)),(13,(.int .i64 x.2.2.2))]) (λx=>Cv.L) Cv ⟨rfl,rfl,rfl,rfl,trivial⟩ ?_;rintro ⟨Fo,Fp,Cy,Bh⟩ Sh Si Sj Ak Cz Fq;unfold ARt at Cz;refine AH3<|AH1<|AHy<|AHy<|AI0 rfl rfl (AHy<|AI3 rfl rfl (AH5<|⟨_,rfl,λC0=>?_,λC0=>?_⟩))
        ·refine AIa<|q_t ?_;obtain ⟨Js,Jt,Ft⟩:=AH2<|AJb Cz C0;refine ARb 9444732965601851526656 (λx:(Int) × (Int) × (Int)=>[(9,(.int .i64 x.1)),(10,(.int .i64 x.2.1)),(11,(.int .i64 x.2.2))]) (λx h'=>(Sum.inl <| (x.1,x.2.1,x.2.2))=Js/\Kst h h' (Ak.L)) ?_ ?_
         ·refine AH6<|AH1<|AHy<|AJj rfl (ALt AQ1 AJ9 (Ak.b p5) 2 rfl (AHy ?_));obtain ⟨Sk,Fu,Ju⟩:=AH2 Jt;refine AKe AIk AIv (Ak.o2 p4) Fu λ_ Sm Jv=>AHy<|AHy<|AI0 rfl rfl ?_;obtain ⟨Sn,Jw,Fv⟩:=AH2 Ju;refine AP4 (m:=Bh) AIi AIg (Ak.o2 p4) Jv Fu Jw λ_=>(AH7<|AH3<|AH1<|AHy<|AKd rfl rfl (AH5<|⟨_,rfl,λC1=>?_,λC1=>?_⟩))
          ·refine AIq<|AIr<|AJt<|q_t ?_;exact ⟨((Fo,Fp,Cy):(Int) × (Int) × (Int)),⟨AH0<|AJb Fv C1,Ak⟩,rfl,rfl,rfl,trivial⟩
          ·refine AIa<|q_t ?_;obtain ⟨Jx,Jy,Fw⟩:=AH2<|AJc Fv C1;refine ARb 1180589368917597654528 (λx:(Int) × (Int) × (Int)=>[(9,(.int .i64 x.1)),(10,(.int .i64 x.2.1)),(11,(.int .i64 x.2.2))]) (λx h'=>( (x.1,x.2.1,x.2.2))=Jx/\Kst h h' (Ak.L)) ?_ ?_
           ·refine AH1<|AHy<|AHy<|AJj rfl (ALt Anw AIg (Ak.b p5) 0 rfl ?_);obtain ⟨C3,Jz,Fx⟩:=AH2 Jy;refine ALx Ak (AXl Jz) λSo Sq C4=>A4b (u:=(.int .i64 C3.1)) (λ_=>by kernel_rfl)<|AJd<|AHy<|AI3 rfl rfl (AHy ?_);by_cases Bt:Cy < 0
            ·rw [decide_eq_true Bt];refine ANe 60 true<|AIm rfl (AH5<|AI2 rfl (AIf<|AHy<|AHy<|AHy<|AI0 rfl rfl (AHy<|AIw<|AIw<|AH7 ?_)));exact ⟨((Bh,(w64<|Bh + Fl),C3.1):(Int) × (Int) × (Int)),⟨AH0<|ifT Fx Bt,C4⟩,rfl,rfl,rfl,trivial⟩
            ·have Fy:=ifF Fx Bt;rw [decide_eq_false Bt];refine AIs 60 false<|AHy<|AIs 60 false<|AHy<|AIs 60 false<|AI3 rfl rfl (AIn rfl (AH5<|⟨_,rfl,λC5=>?_,λC5=>?_⟩))
             ·refine AIf<|AHy<|AHy<|AHy<|AI0 rfl rfl (AHy<|AIw<|AIw<|AH7 ?_);exact ⟨((Bh,(w64<|Bh + Fl),C3.1):(Int) × (Int) × (Int)),⟨AH0<|AJb Fy C5,C4⟩,rfl,rfl,rfl,trivial⟩
             ·refine AIa<|q_t ?_;exact ⟨((Fo,Fp,Cy):(Int) × (Int) × (Int)),⟨AH0<|AJc Fy C5,C4⟩,rfl,rfl,rfl,trivial⟩
           rintro ⟨Fz,F4,J0⟩ Sr Ss ⟨J1,F5⟩;subst J1;refine AH1<|AHy<|AHy<|AKd rfl rfl (AH5<|⟨_,rfl,λC6=>?_,λC6=>?_⟩)
           ·obtain rfl:=AH0<|AJb Fw C6;refine AIq<|Aip AHz<|AIr<|AIr<|Aip AHz<|Aip AHz<|AIr<|AIr<|AJt<|q_t<|AH1<|AHy<|AHy<|AIw<|AH7<|AIc<|Awf<|⟨_,AJu,((Fz,F4):(Int) × (Int)),?_,rfl,?_⟩
            ·exact AH0<|Fm _ (AH0<|Fq _ (AH0 Ft).symm).symm
            ·exact F5
           ·refine AIa<|q_b<|q_t ?_;exact ⟨((Fz,F4,J0):(Int) × (Int) × (Int)),⟨AH0<|AJc Fw C6,F5⟩,rfl,rfl,rfl,trivial⟩
         rintro ⟨St,Su,Sv⟩ Sw Sx ⟨J2,J3⟩;subst J2;refine AIf<|AHy<|AI0 rfl rfl (AH7 ?_);exact ⟨_,(AH0 Ft).symm,J3,rfl,rfl,rfl,rfl,trivial⟩
        ·refine AIq<|AIr<|AIr<|AJt<|q_b<|q_t<|AIf<|AI0 rfl rfl (AHy<|AH5 ?_);exact ⟨_,(AH0<|Fq _ (AH0<|AJc Cz C0).symm).symm,Ak,rfl,rfl,rfl,rfl,trivial⟩
       ·refine AIq<|AIr<|AIr<|AJt<|q_t<|AH1<|AHy<|AHy<|AIw<|AH7<|AIc<|Awf<|⟨_,AJu,((Jq,Jr):(Int) × (Int)),?_,rfl,?_⟩
        ·exact AH0<|Fm _ (AH0<|AJc Cw Cx).symm
        ·exact Cv
      obtain ⟨⟨F6,J4⟩,J5,rfl,Ar⟩:=Jp;refine ⟨trivial,?_⟩;subst J5;refine AHy<|AJs rfl rfl (AJs rfl rfl (AIw<|AH7 ?_));obtain ⟨J6,F7,J7⟩:=AH2 Jo;refine ARb 532676608 (λx:(LiI) × (LiI)=>[]) (λx h'=>( (x.1,x.2))=J6/\Kst h h' ((Ar.L.set 4<|aO2 (cI .i64) 41 2 Bc Be Bf Ac x.1).set 3 (aO2 (cI .i64) 41 2 Ae Ag Ah Ad x.2))) ?_ ?_
      ·refine AH1<|AHy<|AHy<|AK0 rfl rfl (AH5<|⟨_,rfl,λC7=>?_,λC7=>?_⟩)
       ·refine AIf<|AHy<|AHy<|AHy ?_;obtain ⟨J8,J9,Ka⟩:=AH2<|AJb F7 C7;refine AIz (K':=(λxr h'=> ∃ x:(LiI) × (LiI),(x.1,x.2)=J8/\xr= .tuple #[]/\Kst h h' ((Ar.L.set 4<|aO2 (cI .i64) 41 2 Bc Be Bf Ac x.1).set 3 (aO2 (cI .i64) 41 2 Ae Ag Ah Ad x.2)))) trivial rfl ?_ λSy Sz Kb=>?_
        ·refine cwf (l:=[_,_,_,_]) Tryz.func47 rfl rfl (AH3<|AH3<|AMw<|AHy<|AJj rfl (ALt AQ1 AJ9 (Ar.b p5) 2 rfl (AHy<|AJj rfl (ALt Adc AJ9 (Ar.b p5) 3 rfl (Arl AY6 Azu rfl trivial tt2 rfl (Ar.o2 p4).isOne (Ar.o2 p3).isOne λS5 S7 Kc Kd Ke=>Aif AY6 rfl (AHy<|AH5<|AH6 ?_))))));have F8:=Ar.nb Kd Ke Kc;refine APb 36028797002189312 J9 (λx=>[(24,(.int .i64 x.1))]) (λx=>(F8.L.set 5<|aO2 (cI .i64) 41 2 Bc Be Bf Ac x.2.1).set 4 (aO2 (cI .i64) 41 2 Ae Ag Ah Ad x.2.2)) F8 ⟨rfl,trivial⟩ ?_;rintro ⟨F9,Ta,Kf⟩ Tb Tc Td Ai C8 Kg;unfold AMh at C8;refine AH1<|AI3 rfl rfl (AH5<|AH3<|⟨_,rfl,λC9=>?_,λC9=>?_⟩)
         ·refine AIa<|q_t<|AH3<|AH6<|AH1 ?_;have Ga:=AJb C8 C9;by_cases Da:F9=0
          ·refine Alz 0 AY6 rfl rfl Da AHz (AI1 AJ9 rfl ((Ai.b p0).cell (i:=0) rfl) (AJd<|AHy<|AJh AIk rfl (Ai.o2 p5).rd (AHy<|AH5<|AH6<|APb 18014397435742208 (ifT Ga Da) (λx=>[(30,(.int .i64 x.1))]) (λx=>Ai.L.set 5<|aO2 (cI .i64) 41 2 Bc Be Bf Ac x.2) Ai ⟨rfl,trivial⟩ ?_)));rintro ⟨Db,Te⟩ Tf Tg Th Aw Dc Kh;unfold AQ2 at Dc;refine AH1<|AI3 rfl rfl (AH5<|AH3<|⟨_,rfl,λDd=>?_,λDd=>?_⟩)
           ·refine AIa<|q_t<|AH3<|AH6<|AH1 ?_;obtain ⟨Ti,Bu,Ki⟩:=AH2<|AJb Dc Dd;refine AKe AIk AIv (Aw.o2 p5) Bu λ_ Tj De=>AH7<|AMw<|AHy<|AHy<|AHy<|AHy ?_;obtain ⟨Tk,Gb,Kj⟩:=AH2 Ki;refine AP4 (m:=Db) AIi AIg (Aw.o2 p5) De Bu Gb λ_=>(AHy<|AHy<|AHy ?_);obtain ⟨Tl,Kk,Kl⟩:=AH2 Kj;refine AP4 (m:=Db) AIi AIg (Aw.o2 p5) De Bu Kk λ_=>(APo rfl rfl (AI0 rfl rfl (AHy<|AJj rfl (ALt AXo AIg (Aw.b p6) 1 rfl ?_))));obtain ⟨Km,Kn⟩:=ifN Kl;refine ALg rfl rfl Km (AT0 (m:=Db) Aw p5 AIi AIg De Bu Gb (λ_=>rfl) λ_ Tm Ko=>AIu<|q_b<|q_t<|AIf<|AI0 rfl rfl (AHy<|AH5 ?_));exact ⟨_,(AH0 Kn).symm,Ko,rfl,trivial⟩
           ·refine AIq<|AIr<|AIr<|AJt<|q_b<|q_t<|AIf<|AI0 rfl rfl (AHy<|AH5 ?_);exact ⟨_,(AH0<|Kh _ (AH0<|AJc Dc Dd).symm).symm,Aw,rfl,trivial⟩
          ·have Gc:=ifF Ga Da;by_cases Df:F9=1
           ·refine Alz 1 AY6 rfl rfl Df AHz (AI1 AJ9 rfl ((Ai.b p0).cell (i:=1) rfl) (AJd<|AHy<|AJh AIk rfl (Ai.o2 p4).rd (AHy<|AH5<|AH6<|APb 18014397435742208 (ifT Gc Df) (λx=>[(30,(.int .i64 x.1))]) (λx=>Ai.L.set 4<|aO2 (cI .i64) 41 2 Ae Ag Ah Ad x.2) Ai ⟨rfl,trivial⟩ ?_)));rintro ⟨Dg,Tn⟩ To Tp Tq Ax Dh Kp;unfold AQ3 at Dh;refine AH1<|AI3 rfl rfl (AH5<|AH3<|⟨_,rfl,λDi=>?_,λDi=>?_⟩)
            ·refine AIa<|q_t<|AH3<|AH6<|AH1 ?_;obtain ⟨Tr,Bv,Kr⟩:=AH2<|AJb Dh Di;refine AKe AIk AIv (Ax.o2 p4) Bv λ_ Ts Dj=>AH7<|AMw<|AHy<|AHy<|AHy<|AHy ?_;obtain ⟨Tt,Gd,Kt⟩:=AH2 Kr;refine AP4 (m:=Dg) AIi AIg (Ax.o2 p4) Dj Bv Gd λ_=>(AHy<|AHy<|AHy ?_);obtain ⟨Tu,Ku,Kv⟩:=AH2 Kt;refine AP4 (m:=Dg) AIi AIg (Ax.o2 p4) Dj Bv Ku λ_=>(APo rfl rfl (AI0 rfl rfl (AHy<|AJj rfl (ALt AXo AIg (Ax.b p6) 1 rfl ?_))));obtain ⟨Kw,Kx⟩:=ifN Kv;refine ALg rfl rfl Kw (AT0 (m:=Dg) Ax p4 AIi AIg Dj Bv Gd (λ_=>rfl) λ_ Tv Ky=>AIu<|q_b<|q_t<|AIf<|AI0 rfl rfl (AHy<|AH5 ?_));exact ⟨_,(AH0 Kx).symm,Ky,rfl,trivial⟩
            ·refine AIq<|AIr<|AIr<|AJt<|q_b<|q_t<|AIf<|AI0 rfl rfl (AHy<|AH5 ?_);exact ⟨_,(AH0<|Kp _ (AH0<|AJc Dh Di).symm).symm,Ax,rfl,trivial⟩
           ·have Kz:=ifF Gc Df;cases Kz
         ·refine AIq<|AIr<|AIr<|AJt<|q_t<|AH1<|AHy<|AJj rfl (ALt AQ1 AJ9 (Ai.b p6) 2 rfl (AHy ?_));obtain ⟨Tw,Ge,La⟩:=AH2<|Kg _ (AH0<|AJc C8 C9).symm;refine AKe AIk AIv (Ai.o2 p5) Ge λ_ Tx Gf=>AJ8 AIi rfl ((Ai.o2 p5).rowI Gf Ge) (AHy<|AH5<|AH6 ?_);have Dk:=Ai.sel [1,2,3,4,5,6,7] AHz;dsimp only [APr,AS0] at Dk;refine APb 158456325019305303150233137152 La (λx=>[(63,(.int .i64 x.1))]) (λx=>Dk.L.set 4<|aO2 (cI .i64) 41 2 Bc Be Bf Ac x.2) Dk ⟨rfl,trivial⟩ ?_;rintro ⟨Ty,Lb⟩ Tz T0 T3 Am Dl Lc;unfold ANm at Dl;refine AH1<|AI3 rfl rfl (AH5<|AH3<|⟨_,rfl,λDo=>?_,λDo=>?_⟩)
          ·refine AIa<|q_t<|AH3<|AH6<|AH1<|AHy ?_;obtain ⟨T4,Ld,Le⟩:=AH2<|AJb Dl Do;obtain ⟨T5,Lf,Lg⟩:=AH2 Le;refine AP4 (m:=J4) AIi AIg (Am.o2 p4) Gf Ld Lf λ_=>(AIw<|AH7<|AMw<|AHy<|AJj rfl (ALt AQ1 AJ9 (Am.b p5) 2 rfl (AHy ?_)));obtain ⟨T6,Bw,Lh⟩:=AH2 Lg;refine AKe AIk AIv (Am.o2 p4) Bw λ_ T7 Li=>AHy<|AHy<|AJj rfl (ALt AQ1 AJ9 (Am.b p5) 2 rfl (AHy<|AKe AIk AIv (Am.o2 p4) Bw λ_ T8 Lj=>AHy ?_));obtain ⟨T9,Gg,Lk⟩:=AH2 Lh;refine AP4 (m:=F6) AIi AIg (Am.o2 p4) Lj Bw Gg λ_=>(AHy<|AHy<|APo rfl rfl (AI0 rfl rfl (AHy<|AJj rfl (ALt AXo AIg (Am.b p5) 1 rfl ?_))));obtain ⟨Ll,Lm⟩:=ifN Lk;refine ALg rfl rfl Ll (AT0 (m:=F6) Am p4 AIi AIg Li Bw Gg (λ_=>rfl) λ_ Ua Lo=>AIu<|q_b<|q_t<|AIf<|AI0 rfl rfl (AHy<|AH5 ?_));exact ⟨_,(AH0 Lm).symm,Lo,rfl,trivial⟩
          ·refine AIq<|AIr<|AIr<|AJt<|⟨_,AWk,((Lb,Kf):(LiI) × (LiI)),?_,rfl,?_⟩
           ·exact AH0<|Lc _ (AH0<|AJc Dl Do).symm
           ·exact Am
        obtain ⟨⟨Lq,Lr⟩,Lv,rfl,Lw⟩:=Kb;refine ⟨trivial,?_⟩;subst Lv;refine AH5 ?_;exact ⟨((Lq,Lr):(LiI) × (LiI)),⟨AH0 Ka,Lw⟩,trivial⟩
       ·refine AIa<|q_t ?_;exact ⟨((Jf,Jg):(LiI) × (LiI)),⟨AH0<|AJc F7 C7,Ar⟩,trivial⟩
      rintro ⟨Ub,Uc⟩ Ud Ue ⟨Lx,Ao⟩;subst Lx;refine AH1<|AHy<|AHy<|AHy ?_;obtain ⟨Ly,Lz,L9⟩:=AH2 J7;refine AIz (K':=(λxr h'=> ∃ x:(LiI) × LnA × LnN × LvA × (LiI),(x.1,x.2.2.2.2)=Ly/\xr= .tuple #[]/\Kst h h' ((Ao.L.set 4<|aO2 (cI .i64) 41 2 x.2.1 x.2.2.1 x.2.2.2.1 Ac x.1).set 3 (aO2 (cI .i64) 41 2 Ae Ag Ah Ad x.2.2.2.2)))) trivial rfl ?_ λUf Dp Ma=>?_
      ·refine cwf (l:=[_,_,_]) Tryz.func48 rfl rfl (AH3<|AMw<|AHy<|AJj rfl (ALt AQ1 AJ9 (Ao.b p5) 2 rfl (AHy<|AHy<|AJj rfl (ALt AQ1 AJ9 (Ao.b p5) 2 rfl (AHy<|AHy<|AJj rfl (ALt AQ1 AJ9 (Ao.b p5) 2 rfl (AHy ?_)))))));obtain ⟨Ug,Gh,Mb⟩:=AH2 Lz;refine AKe AIk AIv (Ao.o2 p4) Gh λ_ Uh Mc=>AHy<|AJj rfl (ALt AQ1 AJ9 (Ao.b p5) 2 rfl (AHy ?_));obtain ⟨Ui,Gi,Md⟩:=AH2 Mb;refine AKe AIk AIv (Ao.o2 p4) Gi λ_ Uj Me=>AX2 AIk AIv (Ao.o2 p4) Me Mc Gi Gh rfl rfl (λ_=>rfl) (λ_=>rfl) (λ_=>rfl) (λ_ _=>rfl) λUk Ul Dq Dr Ds Um Mf Mg Mh=>AH5<|AH3<|AMw ?_;have Bi:=Ao.uo2 p4 Mg Mf Mh;refine AHy<|AJj rfl (ALt AQ1 AJ9 (Bi.b p5) 2 rfl (AHy<|AJj rfl (ALt Adc AJ9 (Bi.b p5) 3 rfl (Arl AY6 Azu rfl trivial tt2 rfl (Bi.o2 p4).isOne (Bi.o2 p3).isOne λUn Uo Mi Mj Mk=>Aif AY6 rfl (AHy<|AH5<|AH6 ?_)))));have Gj:=Bi.nb Mj Mk Mi;refine APb 4722366412500901036672 Md (λx=>[(46,(.int .i64 x.1))]) (λx=>(Gj.L.set 5<|aO2 (cI .i64) 41 2 Dq Dr Ds Ac x.2.1).set 4 (aO2 (cI .i64) 41 2 Ae Ag Ah Ad x.2.2)) Gj ⟨rfl,trivial⟩ ?_;rintro ⟨Gk,Ml,Mm⟩ Up Uq Ur Ap Dt Mo;unfold ANn at Dt;refine AH1<|AI3 rfl rfl (AH5<|AH3<|⟨_,rfl,λDu=>?_,λDu=>?_⟩)
       ·refine AIa<|q_t<|AH3<|AH6<|AH1 ?_;have Gl:=AJb Dt Du;by_cases Dv:Gk=0
        ·refine Alz 0 AY6 rfl rfl Dv AHz (AI1 AJ9 rfl ((Ap.b p0).cell (i:=0) rfl) (AJd<|AHy<|AJh AIk rfl (Ap.o2 p5).rd (AHy<|AH5<|AH6<|APb 2361178737835195236864 (ifT Gl Dv) (λx=>[(52,(.int .i64 x.1))]) (λx=>Ap.L.set 5<|aO2 (cI .i64) 41 2 Dq Dr Ds Ac x.2) Ap ⟨rfl,trivial⟩ ?_)));rintro ⟨Bx,Us⟩ Ut Uu Uv Bj Dw Mq;unfold AQ4 at Dw;refine AH1<|AI3 rfl rfl (AH5<|AH3<|⟨_,rfl,λDx=>?_,λDx=>?_⟩)
         ·refine AIa<|q_t<|AH3<|AH6<|AH1 ?_;obtain ⟨Uw,By,Mr⟩:=AH2<|AJb Dw Dx;refine AKe AIk AIv (Bj.o2 p5) By λ_ Ux Bz=>AH7<|AMw<|AHy<|AHy<|AHy<|AHy<|AHy<|AHy ?_;obtain ⟨Uy,Ms,Mt⟩:=AH2 Mr;refine AP4 (m:=Bx) AIi AIg (Bj.o2 p5) Bz By Ms λ_=>(AHy<|AHy ?_);obtain ⟨Uz,Gm,Mu⟩:=AH2 Mt;refine AP4 (m:=Bx) AIi AIg (Bj.o2 p5) Bz By Gm λ_=>AT0 (m:=Bx) Bj p5 AIi AIg Bz By Gm (λ_=>rfl) λ_ U0 Mv=>?_;obtain ⟨U3,Mw,Mx⟩:=AH2 Mu;obtain ⟨U8,My,Mz⟩:=AH2 Mx;refine AT0 (m:=Bx) Mv p5 AIi AIg Bz Mw My (λ_=>rfl) λ_ Va M0=>AIu<|q_b<|q_t<|AIf<|AI0 rfl rfl (AHy<|AH5 ?_);exact ⟨_,(AH0 Mz).symm,M0,rfl,trivial⟩
         ·refine AIq<|AIr<|AIr<|AJt<|q_b<|q_t<|AIf<|AI0 rfl rfl (AHy<|AH5 ?_);exact ⟨_,(AH0<|Mq _ (AH0<|AJc Dw Dx).symm).symm,Bj,rfl,trivial⟩
        ·have Gn:=ifF Gl Dv;by_cases Dy:Gk=1
         ·refine Alz 1 AY6 rfl rfl Dy AHz (AI1 AJ9 rfl ((Ap.b p0).cell (i:=1) rfl) (AJd<|AHy<|AJh AIk rfl (Ap.o2 p4).rd (AHy<|AH5<|AH6<|APb 2361178737835195236864 (ifT Gn Dy) (λx=>[(52,(.int .i64 x.1))]) (λx=>Ap.L.set 4<|aO2 (cI .i64) 41 2 Ae Ag Ah Ad x.2) Ap ⟨rfl,trivial⟩ ?_)));rintro ⟨B2,Vb⟩ Vc Vd Ve Bl Dz M1;unfold AQ5 at Dz;refine AH1<|AI3 rfl rfl (AH5<|AH3<|⟨_,rfl,λD0=>?_,λD0=>?_⟩)
          ·refine AIa<|q_t<|AH3<|AH6<|AH1 ?_;obtain ⟨Vf,B3,M2⟩:=AH2<|AJb Dz D0;refine AKe AIk AIv (Bl.o2 p4) B3 λ_ Vg B4=>AH7<|AMw<|AHy<|AHy<|AHy<|AHy<|AHy<|AHy ?_;obtain ⟨Vh,M3,M4⟩:=AH2 M2;refine AP4 (m:=B2) AIi AIg (Bl.o2 p4) B4 B3 M3 λ_=>(AHy<|AHy ?_);obtain ⟨Vi,Gp,M5⟩:=AH2 M4;refine AP4 (m:=B2) AIi AIg (Bl.o2 p4) B4 B3 Gp λ_=>AT0 (m:=B2) Bl p4 AIi AIg B4 B3 Gp (λ_=>rfl) λ_ Vj M6=>?_;obtain ⟨Vk,M7,M8⟩:=AH2 M5;obtain ⟨Vl,M9,Na⟩:=AH2 M8;refine AT0 (m:=B2) M6 p4 AIi AIg B4 M7 M9 (λ_=>rfl) λ_ Vm Nb=>AIu<|q_b<|q_t<|AIf<|AI0 rfl rfl (AHy<|AH5 ?_);exact ⟨_,(AH0 Na).symm,Nb,rfl,trivial⟩
          ·refine AIq<|AIr<|AIr<|AJt<|q_b<|q_t<|AIf<|AI0 rfl rfl (AHy<|AH5 ?_);exact ⟨_,(AH0<|M1 _ (AH0<|AJc Dz D0).symm).symm,Bl,rfl,trivial⟩
         ·have Nc:=ifF Gn Dy;cases Nc
       ·refine AIq<|AIr<|AIr<|AJt<|⟨_,AWk,((Ml,Dq,Dr,Ds,Mm):(LiI) × LnA × LnN × LvA × (LiI)),?_,rfl,?_⟩
        ·exact AH0<|Mo _ (AH0<|AJc Dt Du).symm
        ·exact Ap.sel [1,2,3,4,5,6,7] AHz
      obtain ⟨⟨Vn,Ay,Az,A3,Vo⟩,Nd,rfl,Au⟩:=Ma;refine ⟨trivial,?_⟩;subst Nd;refine AH5<|AH3 ?_;have A4:UpT [] Dp Dp:=UpT.start all_nil;refine Acx (B:=λh'=>UpT [] Dp h') 15 [⟨9,52,[.int .i64 0,.int .i64 0,.int .i64 0,.int .i64 0,.int .i64 0]⟩] (λ_ _ U E=>U.thenE E) AIb A4 (Am8 rfl AYx rfl (λ_ _ U E=>U.thenE E))<|h_l rfl (AHy<|AIu<|h_l rfl (AJj rfl (AIu<|h_l rfl (AJp AQ1 rfl (AIu<|h_l rfl (AJe AJ9 rfl A4 (λh' hb=>((Au.b p5).ext hb.ext).cell (i:=2) rfl) (AIu<|h_l rfl (AHy<|AIu<|h_l rfl ?_))))))));obtain ⟨Vp,D3,Nf⟩:=AH2 L9;refine AJr AIk rfl (Au.o2 p4) rfl D3 λVs Vt Vu Ng Nh=>AIu<|h_l rfl (AJe AIv rfl A4 (λh' hb=>AIj Nh hb.ext) (AIu<|h_l rfl (AHy<|AIu<|h_l rfl ?_)));obtain ⟨Vv,Gq,Ni⟩:=AH2 Nf;refine AJy (m:=Cq) AIi rfl (Au.o2 p4) Ng D3 rfl Gq λVw Nj=>AIu<|h_l rfl ?_;obtain ⟨Vx,Nk,Nl⟩:=(Au.o2 p4).cells Nj D3 Gq;obtain rfl:=Nk;refine AJe AIg rfl A4 (λh' hb=>AIj (Nl 0 _ rfl) hb.ext) (AIu<|h_l rfl (AHy<|AIu<|h_l rfl (AJj rfl (AIu<|h_l rfl (AJp Anw rfl (AIu<|h_l rfl (AJe AIg rfl A4 (λh' hb=>((Au.b p5).ext hb.ext).cell (i:=0) rfl) (AIu<|h_e rfl λVy Gr=>?_))))))));obtain ⟨Aa,Nm,Nn⟩:=AH2 Ni;refine Afo (Au.e Gr) (A4.thenE Gr) (AXl Nm) λVz Np V1 Nq=>AIu ⟨Np,?_⟩;refine Akd λV4 Nr=>A1l λV6 Gt Ns V8=>?_;have Gu:=Au.nb (Nq.thenE Nr).ext (ANs Ns Gt.lt) Gt;refine AKo [(.int .i64 Aa.1),(.int .i64 Aa.2.1),(.int .i64 Aa.2.2.1),(.int .i64 Aa.2.2.2.1),(.int .i64 Aa.2.2.2.2)] ATa rfl rfl rfl rfl (by simp [isOne]) (Gu.b p0) λWa Nt Nu=>AH5<|AH3<|AMw ?_;have D4:=Gu.sb p0 Nu Nt rfl;refine AHy<|AJj rfl (ALt Anw AIg (D4.b p6) 0 rfl (ALt APq AJq (D4.b p0) 0 rfl ?_));obtain ⟨Wb,Nv,Nw⟩:=AH2 Nn;refine ALx D4 (AXd Nv) λD5 Wc D6=>AH7<|AH3<|AKg (λh'=>UpT [] D5 h') AIb ?_;have B5:UpT [] D5 D5:=UpT.start all_nil;refine AJp AZb rfl (AJe AIg rfl B5 (λh' hb=>((D6.b p0).ext hb.ext).cell (i:=2) rfl) (Ahp (κ:= .i64) [Aa.2.2.1] AIi ARy rfl rfl B5 (λ_ E=>B5.thenE E) rfl rfl rfl rfl λNy Nz Wd N0 Gv N3 N4=>?_));have D7:=B5.thenE Gv;have D8:=D6.no Gv (ANs N3 N4) N0;refine Ahs (c:=(cI .i64)) (el:=2) [[Ny]] [Nz] [([Aa.2.2.1]:List Int)] AIk AU9 rfl rfl D7 (λ_ E=>D7.thenE E) rfl rfl rfl rfl (AOh (D8.o p0).isOne Aa2) ⟨(D8.o p0),trivial⟩ AI9 λWe Wf Wg N5 Gw N6=>AHy<|AJj rfl (AJp AXo rfl ?_);have D9:=D7.thenE Gw;refine AJe AIg rfl D9 (λh' hb=>((D6.b p6).ext hb.ext).cell (i:=1) rfl) ?_;have Gx:=(((D8.a0).grab p0)).lit Gw N5 (by simpa using N6);obtain ⟨⟨Wh,Wi⟩,N7,Gy⟩:=AH2 Nw;dsimp only at Gy;refine ALp D9 (λ_ E=>D9.thenE E) rfl (Ael (Gx.o2 p0).rd N7) λWj Wk N8 N9=>?_;obtain ⟨Wl,Wm,Wn,Wo,rfl,Oa,Ob⟩:=N9;refine AHy<|AJs rfl rfl (AJs rfl rfl (AIw<|AH7<|AH3<|AH1<|AHy<|AI0 rfl rfl (AH7<|AH6 ?_)));have Ea:=(Gx.no2 N8 Ob Oa).sel [0,3,4,5,6,7,8,9,10] AHz;dsimp only [APr,AS0] at Ea;refine APb 83076749736556651760677582561894400 Gy (λx=>[(13,(.int .i64 x.1))]) (λx=>(Ea.L.set 6<|aO2 (cI .i64) 41 2 Ay Az A3 Ac x.2.1).set 5 (aO2 (cI .i64) 41 2 Ae Ag Ah Ad x.2.2)) Ea ⟨rfl,trivial⟩ ?_;rintro ⟨Gz,Oc,Od⟩ Wp Wq Wr Ab Eb Oe;unfold AQ8 at Eb;refine AH3<|AH1<|AHy<|AHy<|AJj rfl (ALt AQ1 AJ9 (Ab.b p7) 2 rfl (AJh AIk rfl (Ab.o2 p6).rd (AI3 rfl rfl (AH5<|⟨_,rfl,λEc=>?_,λEc=>?_⟩))))
      ·refine AIa<|q_t<|AH3<|AH6<|AH3<|AMw<|AHy<|AJj rfl (ALt AQ1 AJ9 (Ab.b p7) 2 rfl (AHy ?_));obtain ⟨Ws,G3,Og⟩:=AH2<|AJb Eb Ec;refine AKe AIk AIv (Ab.o2 p6) G3 λ_ Wt Oh=>AHy ?_;obtain ⟨Wu,Oi,Oj⟩:=AH2 Og;refine AP4 (m:=Cq) AIi AIg (Ab.o2 p6) Oh G3 Oi λ_=>(AHy ?_);obtain ⟨Ol,Om⟩:=ifN Oj;refine AWz rfl rfl Ol (AHy ?_);obtain ⟨Wv,G4,On⟩:=AH2 Om;refine AKe AIk AIv (Ab.o2 p0) G4 λ_ Ww Oo=>?_;obtain ⟨Wx,Oq,Ot⟩:=AH2 On;refine AP4 (m:=0) AIi AIg (Ab.o2 p0) Oo G4 Oq λ_=>(APo rfl rfl (AHy<|AJj rfl (ALt AXo AIg (Ab.b p7) 1 rfl ?_)));obtain ⟨Ou,Ov⟩:=ifN Ot;refine ALg rfl rfl Ou (AH7<|AMw<|AHy<|AHy<|AHy<|AHy<|AJj rfl (ALt AXo AIg (Ab.b p7) 1 rfl (AHy<|AMy rfl rfl (AHy<|AJj rfl (ALt AXo AIg (Ab.b p7) 1 rfl ?_)))));obtain ⟨Ow,Ox⟩:=ifN Ov;refine ALg rfl rfl Ow ?_;obtain ⟨Oy,Oz,O0⟩:=AH2 Ox;refine AIz (K':=(λxr h'=> ∃ x:(LiI) × (LiI),(x.1,x.2)=Oy/\xr= .tuple #[]/\Kst h h' ((Ab.L.set 6<|aO2 (cI .i64) 41 2 Ay Az A3 Ac x.1).set 5 (aO2 (cI .i64) 41 2 Ae Ag Ah Ad x.2)))) trivial rfl ?_ λWy Wz O1=>?_
       ·refine cwf (l:=[_,_,_,_]) Tryz.func47 rfl rfl (AH3<|AH3<|AMw<|AHy<|AJj rfl (ALt AQ1 AJ9 (Ab.b p7) 2 rfl (AHy<|AJj rfl (ALt Adc AJ9 (Ab.b p7) 3 rfl (Arl AY6 Azu rfl trivial tt2 rfl (Ab.o2 p6).isOne (Ab.o2 p5).isOne λW0 W1 O2 O3 O4=>Aif AY6 rfl (AHy<|AH5<|AH6 ?_))))));have G5:=Ab.nb O3 O4 O2;refine APb 36028797002189312 Oz (λx=>[(24,(.int .i64 x.1))]) (λx=>(G5.L.set 7<|aO2 (cI .i64) 41 2 Ay Az A3 Ac x.2.1).set 6 (aO2 (cI .i64) 41 2 Ae Ag Ah Ad x.2.2)) G5 ⟨rfl,trivial⟩ ?_;rintro ⟨G6,W3,O5⟩ W4 W5 W6 Aj Ed O6;unfold ANo at Ed;refine AH1<|AI3 rfl rfl (AH5<|AH3<|⟨_,rfl,λEe=>?_,λEe=>?_⟩)
        ·refine AIa<|q_t<|AH3<|AH6<|AH1 ?_;have G7:=AJb Ed Ee;by_cases Ef:G6=0
         ·refine Alz 0 AY6 rfl rfl Ef AHz (AI1 AJ9 rfl ((Aj.b p0).cell (i:=0) rfl) (AJd<|AHy<|AJh AIk rfl (Aj.o2 p7).rd (AHy<|AH5<|AH6<|APb 18014397435742208 (ifT G7 Ef) (λx=>[(30,(.int .i64 x.1))]) (λx=>Aj.L.set 7<|aO2 (cI .i64) 41 2 Ay Az A3 Ac x.2) Aj ⟨rfl,trivial⟩ ?_)));rintro ⟨Eg,W7⟩ W8 Xa Xb A5 Eh O7;unfold AQ6 at Eh;refine AH1<|AI3 rfl rfl (AH5<|AH3<|⟨_,rfl,λEi=>?_,λEi=>?_⟩)
          ·refine AIa<|q_t<|AH3<|AH6<|AH1 ?_;obtain ⟨Xc,B6,O8⟩:=AH2<|AJb Eh Ei;refine AKe AIk AIv (A5.o2 p7) B6 λ_ Xd Ej=>AH7<|AMw<|AHy<|AHy<|AHy<|AHy ?_;obtain ⟨Xe,G8,O9⟩:=AH2 O8;refine AP4 (m:=Eg) AIi AIg (A5.o2 p7) Ej B6 G8 λ_=>(AHy<|AHy<|AHy ?_);obtain ⟨Xf,Pa,Pb⟩:=AH2 O9;refine AP4 (m:=Eg) AIi AIg (A5.o2 p7) Ej B6 Pa λ_=>(APo rfl rfl (AI0 rfl rfl (AHy<|AJj rfl (ALt AXo AIg (A5.b p8) 1 rfl ?_))));obtain ⟨Pc,Pd⟩:=ifN Pb;refine ALg rfl rfl Pc (AT0 (m:=Eg) A5 p7 AIi AIg Ej B6 G8 (λ_=>rfl) λ_ Xg Pe=>AIu<|q_b<|q_t<|AIf<|AI0 rfl rfl (AHy<|AH5 ?_));exact ⟨_,(AH0 Pd).symm,Pe,rfl,trivial⟩
          ·refine AIq<|AIr<|AIr<|AJt<|q_b<|q_t<|AIf<|AI0 rfl rfl (AHy<|AH5 ?_);exact ⟨_,(AH0<|O7 _ (AH0<|AJc Eh Ei).symm).symm,A5,rfl,trivial⟩
         ·have G9:=ifF G7 Ef;by_cases Ek:G6=1
          ·refine Alz 1 AY6 rfl rfl Ek AHz (AI1 AJ9 rfl ((Aj.b p0).cell (i:=1) rfl) (AJd<|AHy<|AJh AIk rfl (Aj.o2 p6).rd (AHy<|AH5<|AH6<|APb 18014397435742208 (ifT G9 Ek) (λx=>[(30,(.int .i64 x.1))]) (λx=>Aj.L.set 6<|aO2 (cI .i64) 41 2 Ae Ag Ah Ad x.2) Aj ⟨rfl,trivial⟩ ?_)));rintro ⟨El,Xh⟩ Xi Xj Xk A6 Em Pf;unfold AQ7 at Em;refine AH1<|AI3 rfl rfl (AH5<|AH3<|⟨_,rfl,λEn=>?_,λEn=>?_⟩)
           ·refine AIa<|q_t<|AH3<|AH6<|AH1 ?_;obtain ⟨Xl,B7,Pg⟩:=AH2<|AJb Em En;refine AKe AIk AIv (A6.o2 p6) B7 λ_ Xm Eo=>AH7<|AMw<|AHy<|AHy<|AHy<|AHy ?_;obtain ⟨Xn,Hb,Ph⟩:=AH2 Pg;refine AP4 (m:=El) AIi AIg (A6.o2 p6) Eo B7 Hb λ_=>(AHy<|AHy<|AHy ?_);obtain ⟨Xo,Pj,Pk⟩:=AH2 Ph;refine AP4 (m:=El) AIi AIg (A6.o2 p6) Eo B7 Pj λ_=>(APo rfl rfl (AI0 rfl rfl (AHy<|AJj rfl (ALt AXo AIg (A6.b p8) 1 rfl ?_))));obtain ⟨Pl,Pm⟩:=ifN Pk;refine ALg rfl rfl Pl (AT0 (m:=El) A6 p6 AIi AIg Eo B7 Hb (λ_=>rfl) λ_ Xp Pn=>AIu<|q_b<|q_t<|AIf<|AI0 rfl rfl (AHy<|AH5 ?_));exact ⟨_,(AH0 Pm).symm,Pn,rfl,trivial⟩
           ·refine AIq<|AIr<|AIr<|AJt<|q_b<|q_t<|AIf<|AI0 rfl rfl (AHy<|AH5 ?_);exact ⟨_,(AH0<|Pf _ (AH0<|AJc Em En).symm).symm,A6,rfl,trivial⟩
          ·have Po:=ifF G9 Ek;cases Po
        ·refine AIq<|AIr<|AIr<|AJt<|q_t<|AH1<|AHy<|AJj rfl (ALt AQ1 AJ9 (Aj.b p8) 2 rfl (AHy ?_));obtain ⟨Xq,Hc,Pp⟩:=AH2<|O6 _ (AH0<|AJc Ed Ee).symm;refine AKe AIk AIv (Aj.o2 p7) Hc λ_ Xr Hd=>AJ8 AIi rfl ((Aj.o2 p7).rowI Hd Hc) (AHy<|AH5<|AH6 ?_);have Ep:=Aj.sel [1,2,3,4,5,6,7,8,9] AHz;dsimp only [APr,AS0] at Ep;refine APb 158456325019305303150233137152 Pp (λx=>[(63,(.int .i64 x.1))]) (λx=>Ep.L.set 6<|aO2 (cI .i64) 41 2 Ay Az A3 Ac x.2) Ep ⟨rfl,trivial⟩ ?_;rintro ⟨Xt,Pq⟩ Xu Xv Xw Aq Er Ps;unfold AO2 at Er;refine AH1<|AI3 rfl rfl (AH5<|AH3<|⟨_,rfl,λEs=>?_,λEs=>?_⟩)
         ·refine AIa<|q_t<|AH3<|AH6<|AH1<|AHy ?_;obtain ⟨Xx,Pt,Pu⟩:=AH2<|AJb Er Es;obtain ⟨Xy,Pw,Px⟩:=AH2 Pu;refine AP4 (m:=Cq) AIi AIg (Aq.o2 p6) Hd Pt Pw λ_=>(AIw<|AH7<|AMw<|AHy<|AJj rfl (ALt AQ1 AJ9 (Aq.b p7) 2 rfl (AHy ?_)));obtain ⟨Xz,B8,Py⟩:=AH2 Px;refine AKe AIk AIv (Aq.o2 p6) B8 λ_ X0 Pz=>AHy<|AHy<|AJj rfl (ALt AQ1 AJ9 (Aq.b p7) 2 rfl (AHy<|AKe AIk AIv (Aq.o2 p6) B8 λ_ X3 P0=>AHy ?_));obtain ⟨X4,He,P1⟩:=AH2 Py;refine AP4 (m:=Gz) AIi AIg (Aq.o2 p6) P0 B8 He λ_=>(AHy<|AHy<|APo rfl rfl (AI0 rfl rfl (AHy<|AJj rfl (ALt AXo AIg (Aq.b p7) 1 rfl ?_))));obtain ⟨P2,P3⟩:=ifN P1;refine ALg rfl rfl P2 (AT0 (m:=Gz) Aq p6 AIi AIg Pz B8 He (λ_=>rfl) λ_ X5 P4=>AIu<|q_b<|q_t<|AIf<|AI0 rfl rfl (AHy<|AH5 ?_));exact ⟨_,(AH0 P3).symm,P4,rfl,trivial⟩
         ·refine AIq<|AIr<|AIr<|AJt<|⟨_,AWk,((Pq,O5):(LiI) × (LiI)),?_,rfl,?_⟩
          ·exact AH0<|Ps _ (AH0<|AJc Er Es).symm
          ·exact Aq
       obtain ⟨⟨X6,X8⟩,P5,rfl,P6⟩:=O1;refine ⟨trivial,?_⟩;subst P5;refine AIu<|q_b<|q_t<|AIf<|AHy<|AI0 rfl rfl (AH7 ?_);exact ⟨_,(AH0 O0).symm,P6,rfl,trivial⟩
      ·refine AIq<|AIr<|AIr<|AJt<|q_t<|AH1<|ATy [(.int .i64 Aa.1),(.int .i64 Aa.2.1),(.int .i64 Aa.2.2.1),(.int .i64 Aa.2.2.2.1),(.int .i64 Aa.2.2.2.2)] ATa rfl rfl (Ab.b p1).agg (AKo [(.int .i64 Aa.1),(.int .i64 Aa.2.1),(.int .i64 Aa.2.2.1),(.int .i64 Aa.2.2.2.1),(.int .i64 Aa.2.2.2.2)] ATa rfl rfl rfl rfl (by simp [isOne]) (Ab.b p2) λYa P7 P8=>AH5<|AIc ?_);have Hf:=Ab.sb p2 P8 P7 rfl;refine ⟨_,AKs ATa rfl rfl (Hf.b p2),((Aa.1,Aa.2.1,Aa.2.2.1,Aa.2.2.2.1,Aa.2.2.2.2,Oc,Ay,Az,A3,Od):(Int) × (Int) × (Int) × (Int) × (Int) × (LiI) × LnA × LnN × LvA × (LiI)),?_,rfl,?_⟩
       ·exact AH0<|Oe _ (AH0<|AJc Eb Ec).symm
       ·exact Hf.sel [3,4,5,6,7,8] AHz
     obtain ⟨⟨B9,Ca,Cb,Cd,Ce,Yb,Yc,Yd,Ye,Yf⟩,P9,rfl,Qa⟩:=Jl;refine ⟨trivial,?_⟩;subst P9;refine ALm Qa [(.int .i64 0),(.int .i64 0),(.int .i64 0),(.int .i64 0),(.int .i64 0)] AYx λYg Yh Yi Hg=>AKo [(.int .i64 B9),(.int .i64 Ca),(.int .i64 Cb),(.int .i64 Cd),(.int .i64 Ce)] ATa rfl rfl rfl rfl (by simp [isOne]) (Hg.b p0) λYj Qb Qc=>AQs ?_;have Cf:=Hg.sb p0 Qc Qb rfl;refine ALt AT4 AZ1 (Cf.b p2) 2 rfl (ATy [(.int .i64 B9),(.int .i64 Ca),(.int .i64 Cb),(.int .i64 Cd),(.int .i64 Ce)] ATa rfl rfl (Cf.b p0).agg ?_);obtain ⟨Qd,Qe⟩:=ifN Jk;refine ASg AXv AYx rfl rfl trivial tt2 (λ_=>rfl) rfl (show (AV9).rep _ (B9,Ca,Cb,Cd,Ce) [(.int .i64 B9),(.int .i64 Ca),(.int .i64 Cb),(.int .i64 Cd),(.int .i64 Ce)] from rfl) (Cf.o p1) AHz Qd λYk Yl Qf Ym Qg Qh Qi=>AJp AT4 rfl ?_;have Et:=Cf.uo p1 Qh Qg Qi;refine AVa [(.int .i64 a5),(.slice none 0 0),Qf] AZ1 rfl rfl (Et.o p1).isOne (Et.b p2) (Nat.le_of_ble_eq_true rfl) rfl λYn Qj Qk=>AH5<|AIf ?_;have Hh:=Et.sb p2 Qk Qj rfl;refine ALt APq AJq (Hh.b p0) 0 rfl (AIw<|AIu<|q_b<|q_t<|AIf<|AI0 rfl rfl (AHy<|AH5 ?_));exact ⟨(_,_,_,_,_,_,_,_,_,_),(AH0 Qe).symm,Hh.sel [1,2,3,4,5,6] AHz,rfl,rfl,trivial⟩
    ·refine AIq<|AIr<|AIr<|AJt<|q_t<|AH1<|AHy<|AJj rfl (ALt Adc AJ9 (Av.b p4) 3 rfl (AJp Acq rfl (AVa [(.int .i64 a5),Ad,Cr] AJ9 rfl rfl (Av.o2 p2).isOne (Av.b p1) (Nat.le_of_ble_eq_true rfl) rfl λYo Ql Qm=>AQs ?_)));have Bm:=Av.sb p1 Qm Ql rfl;refine ATy [(.int .i64 a5),Ad,Cr] AS9 rfl rfl (Bm.b p1).agg (AKo [(.int .i64 a5),Ad,Cr] AS9 rfl rfl rfl rfl (AOh rfl (AOh (Bm.o2 p2).isOne<|AOh (Bm.o p0).isOne Aa2)) (Bm.b p5) λYp Qn Qo=>AH7<|AIc ?_);have Bn:=Bm.sb p5 Qo Qn rfl;obtain rfl:=AH0<|Jh _ (AH0<|AJc Ct Cu).symm;exact ⟨_,Aat AS9 rfl rfl (Bn.b p5),Bn.x,_,_,_,_,_,_,rfl,(Bn.o2 p2),(Bn.o p0),Bn.s.sel [2,0] AHz⟩
theorem Aue {y c:Int} (hq:0 < q) (Aa:q<=2147483647) (hx:0<=x/\x < q) (hy:0<=y/\y < q) (hc:0<=c/\c<=2147483647):Int.tmod (w64<|x + w64 (c * y)) q=(x + c * y) % q:=by
 have h1:0<=c * y:=Int.mul_nonneg hc.1 hy.1;have h2:c * y<=2147483647 * 2147483647:=Int.mul_le_mul hc.2 AHx hy.1 AHz;rw [AKn (x:=c * y) AHx AHx,AKn (x:=x + c * y) AHx AHx,Int.tmod_eq_emod_of_nonneg AHx]
theorem Adf {body:Int × List (List Int)->Option ((Int × List (List Int)) ⊕ List (List Int))} {n:Nat} {G':AIe} (hf:n < fuel)
 (hs:∀ (r:Nat) (M:AIe),r < n->(∀ b,M r b=G r b)->body ((r:Int),tab n n M)=some (.inl (((r + 1:Nat):Int),tab n n<|AKi M r<|G' r))) (he:∀ X,body ((n:Int),X)=some (.inr X)):iter body fuel (0,tab n n G)=some (tab n n G'):=by
 apply ok_eq;refine AJg (λr st=> ∃ M,st=((r:Int),tab n n M)/\r<=n/\ ∀ a b,M a b=if a < r then G' a b else G a b) n ⟨G,rfl,Nat.zero_le _,λa b=>by omega⟩ hf λr st hr hI=>?_;obtain ⟨M,rfl,hrn,hM⟩:=hI
 rcases Nat.lt_or_ge r n with h | h
 ·rw [hs r M h λb=>by grind];refine AH4 ⟨h,_,rfl,h,λa b=>?_⟩;rw [AJa];grind
 ·obtain rfl:r=n:=by omega
  rw [he];exact AH4 (ARc λa b ha hb=>by grind)
theorem An3 {body:Int × List (List Int)->Option ((Int × List (List Int)) ⊕ List (List Int))} {n:Nat} {g:Nat->Int} (hf:n < fuel)
 (hs:∀ (s:Nat) (M:AIe),s < n->(∀ a b,a≠j->M a b=G a b)->M j s=G j s->body ((s:Int),tab n n M)=some (.inl (((s + 1:Nat):Int),tab n n<|AKi M j λb=>if b=s then g s else M j b))) (he:∀ X,body ((n:Int),X)=some (.inr X)):iter body fuel (0,tab n n G)=some (tab n n<|AKi G j g):=by
 apply ok_eq;refine AJg (λs st=> ∃ M,st=((s:Int),tab n n M)/\s<=n/\ ∀ a b,M a b=if a=j/\b < s then g b else G a b) n ⟨G,rfl,Nat.zero_le _,λa b=>by omega⟩ hf λs st hr hI=>?_;obtain ⟨M,rfl,hrn,hM⟩:=hI
 rcases Nat.lt_or_ge s n with h | h
 ·rw [hs s M h (λa b ha=>by grind)<|by grind];refine AH4 ⟨h,_,rfl,h,λa b=>?_⟩;rw [AJa]
  by_cases h1:a=j
  ·subst h1;rw [if_pos rfl]
   by_cases h2:b=s
   ·grind
   ·rw [if_neg h2,hM];omega
  grind
 ·obtain rfl:s=n:=by omega
  rw [he];refine AH4<|ARc λa b ha hb=>?_;rw [hM,AJa];omega
theorem An4 {n l:Nat} {c:Int}:tab n n (AKi G j λb=>(G j b + c * G l b) % q)=tab n n (Azy q j l c G):=ARc λa b _ _=>by
 unfold Azy;rw [AJa]
theorem Aem {n l:Nat} {c:Int} {M:AIe} (h:∀ b,M r b=G r b):tab n n (AKi M r λb=>if b=j then (M r j + c * M r l) % q else M r b)=tab n n (AKi M r<|AWt q j l c G r):=Ak4 λb _=>by
 unfold AWt;rw [h,h,h]
theorem Ag7 {n:Nat} {c:Int} {M:AIe} (hq:0 < q) (Aa:q<=2147483647) (hc:0<=c/\c<=2147483647) (hi:i < n) (hj:j < n) (hr:r < n) (hn:n<=8) (hM:AY4 n q λ_ b=>M r b):
 ((gI (tab n n M) (r:Int)).bind λx=>(gI x (i:Int)).bind λy=>(gI x (j:Int)).bind λz=>if q≠0 then some (Sum.inl (β:=List<|List Int) (w64<|(r:Int) + 1,sI (tab n n M) (r:Int)<|sI x (i:Int)<|Int.tmod (w64<|y + w64 (c * z)) q)) else none)=some (.inl (((r + 1:Nat):Int),tab n n<|AKi M r λb=>if b=i then (M r i + c * M r j) % q else M r b)):=by
 rw [AMv<|AJo hr,AMv<|AI5 hi,AMv<|AI5 hj,if_pos AHx,Aue hq Aa (hM 0 i AHx hi) (hM 0 j AHx hj) hc,AXj,AN9,AKq AHx]
theorem Aqg {n l:Nat} {c:Int} {M:AIe} (hq:0 < q) (Aa:q<=2147483647) (hc:0<=c/\c<=2147483647) (hj:j < n) (hl:l < n) (hs:s < n) (hn:n<=8) (h1:0<=M j s/\M j s < q) (h2:0<=M l s/\M l s < q):
 ((gI (tab n n M) (l:Int)).bind λx=>(gI x (s:Int)).bind λy=>(gI (tab n n M) (j:Int)).bind λz=>(gI z (s:Int)).bind λw=>if q≠0 then some (Sum.inl (β:=List<|List Int) (w64<|(s:Int) + 1,sI (tab n n M) (j:Int)<|sI z (s:Int)<|Int.tmod (w64<|w + w64 (c * y)) q)) else none)=some (.inl (((s + 1:Nat):Int),tab n n<|AKi M j λb=>if b=s then (M j s + c * M l s) % q else M j b)):=by
 rw [AMv<|AJo hl,AMv<|AI5 hs,AMv<|AJo hj,AMv<|AI5 hs,if_pos AHx,Aue hq Aa h1 h2 hc,AXj,AN9,AKq AHx]
theorem Aqh {n:Nat} {M:AIe} (hi:i < n) (hk:k < n) (hr:r < n) (hn:n<=8):
 ((gI (tab n n M) (r:Int)).bind λx=>(gI x (i:Int)).bind λy=>(gI x (k:Int)).bind λz=>(gI (sI (tab n n M) (r:Int)<|sI x (k:Int) y) (r:Int)).bind λu=>(gI u (i:Int)).bind λw=>some<|Sum.inl (β:=List<|List Int) (w64<|(r:Int) + 1,sI (sI (tab n n M) (r:Int)<|sI x (k:Int) y) (r:Int)<|sI u (i:Int) z))=some (.inl (((r + 1:Nat):Int),tab n n<|AKi M r λb=>M r<|sw2 k i b)):=by
 rw [AMv<|AJo hr,AMv<|AI5 hi,AMv<|AI5 hk,AXj,AN9,AMv<|AJo hr,AKk,AMv<|AI5 hi,AXj,AN9,AKq AHx];congr 3;refine ARc λa b ha hb=>?_;rw [AJa,AJa,AJa];by_cases h:a=r
 ·rw [if_pos h,if_pos h];unfold sw2;grind
 omega
theorem Ar7 {body:Int × List (List Int) × List (List Int)->Option ((Int × List (List Int) × List (List Int)) ⊕ (List (List Int) × List (List Int)))} {g t g' t':List (List Int)} (hf:3 < fuel) (h0:body (0,g,t)=some (.inl (1,g',t))) (h1:body (1,g',t)=some (.inl (2,g',t'))) (h2:body (2,g',t')=some (.inr (g',t'))):iter body fuel (0,g,t)=some (g',t'):=by
 obtain ⟨f,rfl⟩:∃ f,fuel=f + 3:=⟨fuel - 3,AHx⟩;rw [AZk h0,AZk h1,AYs h2]
section
variable {fuel n i j k:Nat} {q c:Int} {G T:AIe}
theorem Aen {n:Nat} {q:Int} {M G:AIe} (hG:AY4 n q G) (hr:r < n) (h:∀ b,M r b=G r b):AY4 n q λ_ b=>M r b:=λa b _ hb=>by
 show 0<=M r b/\M r b < q
 rw [h];exact hG r b hr hb
theorem A6a (hq:1 < q) (hq2:q<=2147483647) (hn:n<=8) (hi:i < n) (hj:j < n) (hne:j≠i) (hG:AY4 n q G) (hT:AY4 n q T) (hf:100 < fuel):
 iter (λs=>AMh fuel q (i:Int) (j:Int) s.1 s.2.1 s.2.2) fuel (0,tab n n G,tab n n T)=some (tab n n<|AWt q i j 1 G,tab n n<|AWt q i j 1 T)/\
 iter (λs=>ANm fuel q (i:Int) (j:Int) (AK7 n<|AWt q i j 1 G j) s.1 s.2) fuel (0,tab n n<|AWt q i j 1 G)=some (tab n n<|Afh q i j 1 G):=by
 constructor
 ·refine Ar7 AHx ?_ ?_ ?_
  ·unfold AMh;dsimp only
   rw [if_pos AHz,if_pos rfl,Adf (G:=G) (G':=AWt q i j 1 G) AHx (λr M hr hM=>?_) λX=>?_]
   ·rfl
   ·unfold AQ2;dsimp only;rw [AJf,if_pos AHx,Ag7 AHx hq2 AHx hi hj hr hn<|Aen hG hr hM,Aem hM]
   ·unfold AQ2;dsimp only;rw [AJf,if_neg AHx]
  ·unfold AMh;dsimp only
   rw [if_pos AHz,if_neg AHz,if_pos rfl,Adf (G:=T) (G':=AWt q i j 1 T) AHx (λr M hr hM=>?_) λX=>?_]
   ·rfl
   ·unfold AQ3;dsimp only;rw [AJf,if_pos AHx,Ag7 AHx hq2 AHx hi hj hr hn<|Aen hT hr hM,Aem hM]
   ·unfold AQ3;dsimp only;rw [AJf,if_neg AHx]
  ·unfold AMh;grind
 ·have hG1:=Ace (j:=i) (l:=j) (c:=1) AHx hG;unfold Afh
  rw [An3 (j:=i) (g:=λb=>(AWt q i j 1 G i b + 1 * AWt q i j 1 G j b) % q) AHx (λs M hs hM hMs=>?_) λX=>?_,An4]
  ·unfold ANm;dsimp only;rw [AJ5,if_pos AHx,Aqg AHx hq2 AHx hi hj hs hn (by rw [hMs];exact hG1 i s hi hs) (by rw [hM j s hne];exact hG1 j s hj hs),hMs,hM j s hne]
  ·unfold ANm;dsimp only;rw [AJ5,if_neg AHx]
theorem A6b (hn:n<=8) (hi:i < n) (hk:k < n) (hf:100 < fuel):
 iter (λs=>ANn fuel (k:Int) (i:Int) s.1 s.2.1 s.2.2) fuel (0,sI (sI (tab n n G) (k:Int)<|AK7 n<|G i) (i:Int)<|AK7 n<|G k,tab n n T)=some (tab n n<|swG k i G,tab n n<|swC k i T):=by
 have e0:sI (sI (tab n n G) (k:Int)<|AK7 n<|G i) (i:Int) (AK7 n<|G k)=tab n n λa b=>G (sw2 k i a) b:=by
  rw [AN9,AN9];refine ARc λa b _ _=>?_;rw [AJa,AJa];unfold sw2;grind
 rw [e0]
 refine Ar7 AHx ?_ ?_ ?_
 ·unfold ANn;dsimp only
  rw [if_pos AHz,if_pos rfl,Adf (G:=λa b=>G (sw2 k i a) b) (G':=swG k i G) AHx (λr M hr hM=>?_) λX=>?_]
  ·rfl
  ·unfold AQ4;dsimp only;rw [AJf,if_pos AHx,Aqh hi hk hr hn];congr 3;exact Ak4 λb _=>by rw [hM];rfl
  ·unfold AQ4;dsimp only;rw [AJf,if_neg AHx]
 ·unfold ANn;dsimp only
  rw [if_pos AHz,if_neg AHz,if_pos rfl,Adf (G:=T) (G':=swC k i T) AHx (λr M hr hM=>?_) λX=>?_]
  ·rfl
  ·unfold AQ5;dsimp only;rw [AJf,if_pos AHx,Aqh hi hk hr hn];congr 3;exact Ak4 λb _=>by rw [hM];rfl
  ·unfold AQ5;dsimp only;rw [AJf,if_neg AHx]
 ·unfold ANn;grind
theorem A6c {S v:Int} (hq:1 < q) (hq2:q<=2147483647) (hn:n<=8) (hi:i < n) (hj:j < n) (hne:j≠i) (hG:AY4 n q G) (hT:AY4 n q T) (hf:100 < fuel) (hc:Int.tmod (w64<|q - (Int.tmod (w64<|(w64<|Int.tdiv x S) * v) q)) q=c) (hc2:0<=c/\c < q):
 iter (λs=>ANo fuel q (j:Int) S (i:Int) x v s.1 s.2.1 s.2.2) fuel (0,tab n n G,tab n n T)=some (tab n n<|AWt q i j c G,tab n n<|AWt q i j c T)/\
 iter (λs=>AO2 fuel q (j:Int) S (i:Int) x v (AK7 n<|AWt q i j c G j) s.1 s.2) fuel (0,tab n n<|AWt q i j c G)=some (tab n n<|Afh q i j c G):=by
 constructor
 ·refine Ar7 AHx ?_ ?_ ?_
  ·unfold ANo;dsimp only
   rw [if_pos AHz,if_pos rfl,Adf (G:=G) (G':=AWt q i j c G) AHx (λr M hr hM=>?_) λX=>?_]
   ·rfl
   ·unfold AQ6;dsimp only;simp only [hc];rw [AJf,if_pos AHx,Ag7 AHx hq2 AHx hi hj hr hn<|Aen hG hr hM,Aem hM]
   ·unfold AQ6;dsimp only;rw [AJf,if_neg AHx]
  ·unfold ANo;dsimp only
   rw [if_pos AHz,if_neg AHz,if_pos rfl,Adf (G:=T) (G':=AWt q i j c T) AHx (λr M hr hM=>?_) λX=>?_]
   ·rfl
   ·unfold AQ7;dsimp only;simp only [hc];rw [AJf,if_pos AHx,Ag7 AHx hq2 AHx hi hj hr hn<|Aen hT hr hM,Aem hM]
   ·unfold AQ7;dsimp only;rw [AJf,if_neg AHx]
  ·unfold ANo;grind
 ·have hG1:=Ace (j:=i) (l:=j) (c:=c) AHx hG;unfold Afh
  rw [An3 (j:=i) (g:=λb=>(AWt q i j c G i b + c * AWt q i j c G j b) % q) AHx (λs M hs hM hMs=>?_) λX=>?_,An4]
  ·unfold AO2;dsimp only;simp only [hc];rw [AJ5,if_pos AHx,Aqg AHx hq2 AHx hi hj hs hn (by rw [hMs];exact hG1 i s hi hs) (by rw [hM j s hne];exact hG1 j s hj hs),hMs,hM j s hne]
  ·unfold AO2;dsimp only;rw [AJ5,if_neg AHx]
end
structure PV (n k:Nat) (p:Int) (G:AIe) (r c E:Nat):Prop where
 hr:k<=r
 hrc:r<=c
 hc:c < n
 u:∃ u,G r c=u * p ^ E/\¬ p ∣ u
 dg:r≠c-> ∀ a,k<=a->a < n->p ^ (E + 1) ∣ G a a
def Dn (n k d i a e:Nat):Prop:=k<=a/\a + e < n/\(e < d∨e=d/\a < i)
def PSt (n k:Nat) (p:Int) (G:AIe) (d i r c:Nat) (l:Int):Prop:=
 (l= -1/\r=k/\c=k/\ ∀ a e,Dn n k d i a e->G a (a + e)=0)∨ ∃ E:Nat,l=E/\PV n k p G r c E/\ ∀ a e,Dn n k d i a e->p ^ E ∣ G a (a + e)
def PQ (n k:Nat) (p:Int) (G:AIe) (r c:Nat):Prop:= ∃ E,PV n k p G r c E/\ ∀ a e,k<=a->a + e < n->p ^ E ∣ G a (a + e)
theorem PSt.zero {n c:Nat} (H:PSt n k p G d i r c l) (hx:G i (i + d)=0):PSt n k p G d (i + 1) r c l:=by
 have key:∀ a e,Dn n k d (i + 1) a e->Dn n k d i a e∨(a=i/\e=d):=λa e h=>by unfold Dn at *;omega
 rcases H with ⟨h1,h2,h3,h4⟩ | ⟨E,h1,h2,h3⟩
 ·refine .inl ⟨h1,h2,h3,λa e h=>?_⟩;rcases key a e h with h | ⟨rfl,rfl⟩
  ·exact h4 a e h
  ·exact hx
 ·refine .inr ⟨E,h1,h2,λa e h=>?_⟩;rcases key a e h with h | ⟨rfl,rfl⟩
  ·exact h3 a e h
  ·rw [hx];exact ⟨0,AI9⟩
theorem PSt.new {n c e:Nat} {u:Int} (H:PSt n k p G d i r c l) (hi:k<=i) (hin:i + d < n) (hx:G i (i + d)=u * p ^ e) (hu: ¬ p ∣ u) (hl:l < 0∨(e:Int) < l):PSt n k p G d (i + 1) i (i + d) e:=by
 have key:∀ a e',Dn n k d (i + 1) a e'->Dn n k d i a e'∨(a=i/\e'=d):=λa e h=>by unfold Dn at *;omega
 have all:∀ a e',Dn n k d i a e'->p ^ (e + 1) ∣ G a (a + e'):=λa e' h=>by
  rcases H with ⟨h1,_,_,h4⟩ | ⟨E,rfl,_,h3⟩
  ·rw [h4 a e' h];exact ⟨0,AI9⟩
  ·exact Int.dvd_trans (AKv AHx)<|h3 a e' h
 refine .inr ⟨e,rfl,⟨hi,AHx,hin,⟨u,hx,hu⟩,λhne a h1 h2=>?_⟩,λa e' h=>?_⟩
 ·exact all a 0 (by unfold Dn;omega)
 ·rcases key a e' h with h | ⟨rfl,rfl⟩
  ·exact Int.dvd_trans (AKv AHx)<|all a e' h
  ·rw [hx];exact ⟨u,Int.mul_comm _ _⟩
theorem PSt.old {n c e:Nat} {u:Int} (H:PSt n k p G d i r c l) (hx:G i (i + d)=u * p ^ e) (hl: ¬ l < 0) (Ac: ¬ (e:Int) < l):PSt n k p G d (i + 1) r c l:=by
 have key:∀ a e',Dn n k d (i + 1) a e'->Dn n k d i a e'∨(a=i/\e'=d):=λa e h=>by unfold Dn at *;omega
 rcases H with ⟨rfl,_⟩ | ⟨E,rfl,h2,h3⟩
 ·exact absurd AHz hl
 ·refine .inr ⟨E,rfl,h2,λa e' h=>?_⟩;rcases key a e' h with h | ⟨rfl,rfl⟩
  ·exact h3 a e' h
  ·rw [hx];exact Int.dvd_trans (AKv AHx) ⟨u,Int.mul_comm _ _⟩
theorem PSt.quit {n c:Nat} (H:PSt n k p G d i r c f) (hf:∀ a e,k<=a->a + e < n->p ^ f ∣ G a (a + e)):PQ n k p G r c:=by
 rcases H with ⟨h1,_⟩ | ⟨E,h1,h2,h3⟩
 ·omega
 ·obtain rfl:f=E:=by omega
  exact ⟨f,h2,hf⟩
theorem PSt.row {n c:Nat} (H:PSt n k p G d i r c l) (hi: ¬ i + d < n):PSt n k p G (d + 1) k r c l:=by
 have key:∀ a e,Dn n k (d + 1) k a e->Dn n k d i a e:=λa e h=>by unfold Dn at *;omega
 rcases H with ⟨h1,h2,h3,h4⟩ | ⟨E,h1,h2,h3⟩
 ·exact .inl ⟨h1,h2,h3,λa e h=>h4 a e<|key a e h⟩
 ·exact .inr ⟨E,h1,h2,λa e h=>h3 a e<|key a e h⟩
section
variable {fuel n k f:Nat} {p q:Int} {G:AIe}
theorem A2x {c:Nat} (hp:2<=p) (hp2:p<=9973) (hq2:q<=2147483647) (hn:n<=8) (hG:AY4 n q G) (hfl:∀ a e,k<=a->a + e < n->p ^ f ∣ G a (a + e)) (hd:d<=n) (hk:k < n) (hS:PSt n k p G d k r c l) (hlf:l≠f) (hf:100 < fuel):
 Ok (iter (λs=>ARt fuel p (f:Int) (tab n n G) (d:Int) s.1 s.2.1 s.2.2.1 s.2.2.2) fuel ((r:Int),(c:Int),l,(k:Int))) λex=>(∃ r c:Nat,ex= .inl ((r:Int),(c:Int))/\PQ n k p G r c)∨ ∃ (r c:Nat) (l:Int),ex= .inr ((r:Int),(c:Int),l)/\PSt n k p G (d + 1) k r c l/\l≠f:=by
 refine AJg (λj s=> ∃ (r c:Nat) (l:Int),s=((r:Int),(c:Int),l,((k + j:Nat):Int))/\k + j<=n/\PSt n k p G d (k + j) r c l/\l≠f) (n - k) ⟨r,c,l,rfl,AHx,hS,hlf⟩ AHx λj s hj hI=>?_;obtain ⟨r,c,l,rfl,hjn,hS,hlf⟩:=hI;unfold ARt;dsimp only;have e1:w64 (((k + j:Nat):Int) + (d:Int))=((k + j + d:Nat):Int):=by rw [wk AHx];omega
 rw [e1,AJf];refine AI4 (λh=>?_) λh=>AH4<|.inr ⟨r,c,l,rfl,hS.row AHx,hlf⟩;have hij:k + j + d < n:=by omega
 have hi:k + j < n:=by omega
 rw [AMv<|AJo hi,AMv<|AI5 hij];have hr:=hG (k + j) (k + j + d) hi hij
 have fin:∀ (F:(Int × Int × Int) ⊕ (Int × Int)->Option ((Int × Int × Int × Int) ⊕ ((Int × Int) ⊕ (Int × Int × Int)))) (R:(Int × Int × Int × Int) ⊕ ((Int × Int) ⊕ (Int × Int × Int))->Prop) (r c:Nat) (l:Int),(∀ a b e,F (.inl (a,b,e))=some (.inl (a,b,e,w64<|((k + j:Nat):Int) + 1)))->(∀ a b,F (.inr (a,b))=some (.inr<|.inl (a,b)))->
  (∀ (r c:Nat) (l:Int),PSt n k p G d (k + (j + 1)) r c l->l≠f->R (.inl ((r:Int),(c:Int),l,((k + (j + 1):Nat):Int))))->(∀ r c:Nat,PQ n k p G r c->R (.inr<|.inl ((r:Int),(c:Int))))->PSt n k p G d (k + j + 1) r c l->Ok ((if l=f then some (Sum.inr ((r:Int),(c:Int))) else some (Sum.inl ((r:Int),(c:Int),l)):Option ((Int × Int × Int) ⊕ (Int × Int))).bind F) R:=by
  intro F R r c l h1 h2 h3 h4 hS
  by_cases hl:l=f
  ·rw [if_pos hl];simp only [Option.bind_some];rw [h2];exact AH4<|h4 r c<|(hl ▸ hS).quit hfl
  ·rw [if_neg hl];simp only [Option.bind_some];rw [h1,AKq AHx];exact AH4<|h3 r c l hS hl
 by_cases h0:G (k + j) (k + j + d)=0
 ·rw [if_pos h0];refine AH4 ⟨AHx,r,c,l,?_,AHx,hS.zero h0,hlf⟩;show ((r:Int),(c:Int),l,w64<|((k + j:Nat):Int) + 1)=_;rw [AKq AHx];rfl
 ·rw [if_neg h0];obtain ⟨b,hb,e,u,rfl,hx,hu⟩:=Aqe hp hp2 (show 0 < G (k + j) (k + j + d) by omega) AHx hf;rw [hb];simp only [Option.bind_some]
  by_cases hl:l < 0
  ·rw [if_pos hl];simp only [Option.bind_some];exact fin _ _ (k + j) (k + j + d) e (λ_ _ _=>rfl) (λ_ _=>rfl) (λr c l hS hl=>⟨AHx,r,c,l,rfl,AHx,hS,hl⟩) (λr c hQ=> .inl ⟨r,c,rfl,hQ⟩)<|hS.new AHx hij hx hu<|.inl hl
  ·rw [if_neg hl]
   by_cases hl2:(e:Int) < l
   ·rw [if_pos hl2];simp only [Option.bind_some];exact fin _ _ (k + j) (k + j + d) e (λ_ _ _=>rfl) (λ_ _=>rfl) (λr c l hS hl=>⟨AHx,r,c,l,rfl,AHx,hS,hl⟩) (λr c hQ=> .inl ⟨r,c,rfl,hQ⟩)<|hS.new AHx hij hx hu<|.inr hl2
   ·rw [if_neg hl2];simp only [Option.bind_some];exact fin _ _ r c l (λ_ _ _=>rfl) (λ_ _=>rfl) (λr c l hS hl=>⟨AHx,r,c,l,rfl,AHx,hS,hl⟩) (λr c hQ=> .inl ⟨r,c,rfl,hQ⟩)<|hS.old hx hl hl2
theorem A2y (hp:2<=p) (hp2:p<=9973) (hq2:q<=2147483647) (hn:n<=8) (hG:AY4 n q G) (hfl:∀ a e,k<=a->a + e < n->p ^ f ∣ G a (a + e)) (hk:k < n) (hne:∃ e,k + e < n/\G k (k + e)≠0) (hf:100 < fuel):
 Ok (iter (λs=>ARu fuel p (f:Int) (k:Int) (tab n n G) s.1 s.2.1 s.2.2.1 s.2.2.2) fuel ((k:Int),(k:Int),(-1:Int),(0:Int))) λex=> ∃ r c:Nat,ex=((r:Int),(c:Int))/\PQ n k p G r c:=by
 refine AJg (λd s=> ∃ (r c:Nat) (l:Int),s=((r:Int),(c:Int),l,(d:Int))/\d<=n - k/\PSt n k p G d k r c l/\l≠f) (n - k) ⟨k,k,-1,rfl,Nat.zero_le _,.inl ⟨rfl,rfl,rfl,λa e h=>by unfold Dn at h;omega⟩,AHx⟩ AHx λd s hd hI=>?_;obtain ⟨r,c,l,rfl,hdn,hS,hlf⟩:=hI;unfold ARu;dsimp only;rw [AJf,AKn (x:=(n:Int) - (k:Int)) AHx AHx]
 refine AI4 (λh=>?_) λh=>AH4 ⟨r,c,rfl,?_⟩
 ·refine AH9 (A2x hp hp2 hq2 hn hG hfl AHx hk hS hlf hf) λex hex=>?_
  rcases hex with ⟨r,c,rfl,hQ⟩ | ⟨r,c,l,rfl,hS,hlf⟩
  ·exact AH4 ⟨r,c,rfl,hQ⟩
  ·refine AH4 ⟨AHx,r,c,l,?_,AHx,hS,hlf⟩;rw [AKq AHx]
 ·obtain rfl:d=n - k:=by omega
  rcases hS with ⟨_,_,_,h4⟩ | ⟨E,_,h2,h3⟩
  ·obtain ⟨e,he,hx⟩:=hne;exact absurd (h4 k e (by unfold Dn;omega)) hx
  ·exact ⟨E,h2,λa e h1 h5=>h3 a e (by unfold Dn;omega)⟩
end
theorem Aga (hp:Pr p):PrI p:=⟨hp.1,λx y h=>by
 have h2:=hp.1
 refine Classical.byContradiction λhn=>?_
 have hx:x % p≠0:=λh=>hn<|.inl<|Int.dvd_of_emod_eq_zero h
 have hy:y % p≠0:=λh=>hn<|.inr<|Int.dvd_of_emod_eq_zero h
 have h3:=Int.emod_nonneg x (show p≠0 by omega)
 have h4:=Int.emod_lt_of_pos x (show 0 < p by omega)
 have h5:=Int.emod_nonneg y (show p≠0 by omega)
 have h6:=Int.emod_lt_of_pos y (show 0 < p by omega)
 refine Awy hp (a:=x % p) (x:=y % p) AHx AHx AHx AHx ?_
 rw [<- Int.mul_emod]
 omega⟩
theorem Aqi {p a:Int} (hp:Pr p) (ha: ¬ p ∣ a):∀ K:Nat,∃ y,p ^ (K + 1) ∣ y * a - 1
 | 0=>by
   have h2:=hp.1;have hx:a % p≠0:=λh=>ha<|Int.dvd_of_emod_eq_zero h;have h3:=Int.emod_nonneg a (show p≠0 by omega);have h4:=Int.emod_lt_of_pos a (show 0 < p by omega);obtain ⟨y,hy⟩:=Aju hp _ (a % p) (Nat.le_refl _) AHx h4;refine ⟨y,?_⟩;rw [Int.pow_succ,Int.pow_zero,Int.one_mul];refine AVm (m:=p) ?_;show y * a % p=1 % p;rw [Int.emod_eq_of_lt (a:=1) AHz AHx,<- hy];exact ((Eqm.refl p y).mul (Eqm.mod p a)).symm
 | K + 1=>by
   obtain ⟨y,z,hz⟩:=Aqi hp ha K;refine ⟨y * (2 - y * a),?_⟩;have e:y * (2 - y * a) * a - 1= -((y * a - 1) * (y * a - 1)):=by grind
   rw [e,hz];refine Int.dvd_neg.2<|Int.dvd_trans (AKv (b:=K + 1 + (K + 1)) AHx) ?_;rw [Int.pow_add];exact ⟨z * z,by grind⟩
theorem Ami {a:Int} (hp:Pr p) (ha: ¬ p ∣ a) (hK:1<=K):∃ y,Afj (p ^ K) (a % p ^ K) y:=by
 obtain ⟨y,hy⟩:=Aqi hp ha<|K - 1;rw [show K - 1 + 1=K by omega] at hy;have hq:0 < p ^ K:=Int.pow_pos (by have:=hp.1;omega);refine ⟨y % p ^ K,Int.emod_nonneg _ AHx,Int.emod_lt_of_pos _ hq,?_⟩;exact ((Eqm.mod _ y).mul (Eqm.mod _ a)).trans (Ac8 hy)
theorem Aib {u:Int} (hp:PrI p) (hx:x=u * p ^ E) (hu: ¬ p ∣ u) (hf:p ^ f ∣ x):f<=E:=by
 rcases Nat.lt_or_ge E f with h | h
 ·exfalso;have h1:p ^ (E + 1) ∣ u * p ^ E:=hx ▸ Int.dvd_trans (AKv h) hf;obtain ⟨w,hw⟩:=h1;refine hu ⟨w,Int.eq_of_mul_eq_mul_left (Aa8 hp E) ?_⟩;grind
 ·exact h
theorem Ar8 {u:Int} (hp:PrI p) (hx:x=u * p ^ E) (hu: ¬ p ∣ u) (h0:0<=x/\x < p ^ K):E < K:=by
 rcases Nat.lt_or_ge E K with h | h
 ·exact h
 ·exfalso;have hpp:=hp.1;have h1:p ^ K ∣ x:=by rw [hx];exact Int.dvd_trans (AKv h) ⟨u,Int.mul_comm _ _⟩
  have h2:x=0:=by
   rcases Int.lt_or_le 0 x with h3 | h3
   ·have:=Int.le_of_dvd h3 h1;omega
   ·omega
  rw [h2] at hx;have hpE:p ^ E≠0:=Aa8 hp E;rcases Int.mul_eq_zero.1 hx.symm with h3 | h3
  ·simp_all
  ·exact hpE h3
section
variable {fuel n K k:Nat} {p:Int} {H T G:AIe}
theorem JS.low (S:JS n K p H T G k E) (hs:∀ i j,i < n->j < n->H i j=H j i) {E':Nat} (h:∀ a e,k<=a->a + e < n->p ^ E' ∣ G a (a + e)):JS n K p H T G k E':=⟨S.rt,S.rg,S.e,S.z,λi j hi hin hj hjn=>by
 rcases Nat.lt_or_ge j i with hl | hl
 ·rw [S.e.sym hs S.rg hin hjn]
  have:=h j (i - j) hj AHx
  grind
 ·have:=h i (j - i) hi AHx
  grind⟩
theorem Afc {l:Nat} {c:Int} {G:AIe} (h:a≠j):Afh q j l c G a a=G a a:=by
 rw [Aai,if_neg h,if_neg h]
theorem Aqj {G:AIe} (hi:a≠i) (hj:a≠j):swG i j G a a=G a a:=by
 unfold swG;rw [An1 hi hj]
theorem A2z {A v:Int} (S:JS n K p H T G k E) (hp:2<=p) (hq1:1 < p ^ K) (hq2:p ^ K<=2147483647) (hE:E<=K) (hn:n<=8) (hk:k < n) (hD:G k k=A * p ^ E) (hv:Eqm (p ^ K) (v * A) 1) (hv0:0<=v/\v < p ^ K) (hf:100 < fuel):
 Ok (iter (λs=>AQ8 fuel (p ^ K) (k:Int) (p ^ E) [[v]] s.1 s.2.1 s.2.2) fuel (((k + 1:Nat):Int),tab n n G,tab n n T)) λex=> ∃ T' G',ex=(tab n n G',tab n n T')/\JS n K p H T' G' k E/\(∀ a,a<=k->G' a a=G a a)/\ ∀ j,k < j->j < n->G' k j=0:=by
 refine AJg (λi s=> ∃ T' G',s=(((k + 1 + i:Nat):Int),tab n n G',tab n n T')/\k + 1 + i<=n/\JS n K p H T' G' k E/\(∀ a,a<=k->G' a a=G a a)/\ ∀ j,k < j->j < k + 1 + i->G' k j=0) (n - (k + 1)) ⟨T,G,rfl,AHx,S,λ_ _=>rfl,λj h1 h2=>by omega⟩ AHx λi s hi hI=>?_;obtain ⟨T',G',rfl,hin,S',hd,hz⟩:=hI;unfold AQ8;dsimp only;rw [AJf];refine AI4 (λh=>?_) λh=>AH4 ⟨T',G',rfl,S',hd,λj h1 h2=>hz j h1 AHx⟩;obtain ⟨j,hj⟩:∃ j,j=k + 1 + i:=⟨_,rfl⟩;rw [<- hj] at h hin hz ⊢;have hjn:j < n:=by omega
 have hpE:0 < p ^ E:=Int.pow_pos AHx;rw [AMv<|AJo hk,AMv<|AI5 hjn,if_pos AHx,Aqc (x:=[v]) rfl,Aqc (x:=v) rfl,if_pos AHx,if_pos AHx];have hx:=S'.rg k j hk hjn;obtain ⟨x,hxe⟩:∃ x,x=G' k j:=⟨_,rfl⟩;rw [<- hxe] at hx ⊢;have hdiv:0<=x / p ^ E/\x / p ^ E<=x:=⟨Int.ediv_nonneg hx.1<|Int.le_of_lt hpE,Int.ediv_le_self _ hx.1⟩;have hm0:0<=x / p ^ E * v:=Int.mul_nonneg hdiv.1 hv0.1;have hm1:x / p ^ E * v<=2147483647 * 2147483647:=Int.mul_le_mul AHx AHx hv0.1 AHz;have hc0:=AXp (q:=p ^ K) AHx<|x / p ^ E * v
 have hc:Int.tmod (w64<|p ^ K - (Int.tmod (w64<|(w64<|Int.tdiv x<|p ^ E) * v)<|p ^ K)) (p ^ K)=(p ^ K - (x / p ^ E * v) % p ^ K) % p ^ K:=by
  rw [Int.tdiv_eq_ediv_of_nonneg hx.1,AKn (x:=x / p ^ E) AHx AHx,AKn (x:=x / p ^ E * v) AHx AHx,Int.tmod_eq_emod_of_nonneg hm0,wk AHx,Int.tmod_eq_emod_of_nonneg AHx]
 obtain ⟨c,hce⟩:∃ c,c=(p ^ K - (x / p ^ E * v) % p ^ K) % p ^ K:=⟨_,rfl⟩;rw [<- hce] at hc;have hc2:0<=c/\c < p ^ K:=by rw [hce];exact AXp AHx _
 obtain ⟨a1,a2⟩:=A6c (fuel:=fuel) (G:=G') (T:=T') hq1 hq2 hn hjn hk AHx S'.rg S'.rt hf hc hc2;rw [a1];simp only [Option.bind_some];rw [AMv<|AJo hk,a2];simp only [Option.bind_some];have S2:=S'.add (c:=c) AHx hE (show k<=j by omega) hjn (Nat.le_refl k) hk AHx
 refine AH4 ⟨AHx,_,_,?_,AHx,S2,λa ha=>by rw [Afc AHx,hd a ha],λj' h1 h2=>?_⟩
 ·rw [hj,AKq AHx];rfl
 ·rw [Aai,if_neg AHx]
  by_cases h3:j'=j
  ·rw [if_pos h3,<- hxe,hd k<|Nat.le_refl k,hce];exact Ar6 AHx AHx hx.1 (hxe ▸ S'.fl k j (Nat.le_refl k) hk AHx hjn) hD hv
  grind
theorem A20 {L:List AJ0} (hM:M.length=n) (S:JS n K p H T G k f) (B:JL n p G L k f) (hs:∀ i j,i < n->j < n->H i j=H j i) (hd: ¬ p ^ K ∣ det n H) (hp:Pr p) (hp2:2 < p) (hp3:p<=9973) (hq2:p ^ K<=2147483647) (hK:1<=K) (hn:n<=8) (hk:k < n) (hf:2147483648 < fuel):
 ∃ T' G' L' E,ANy fuel M p (p ^ K) (f:Int) (k:Int) (tab n n G) (tab n n T) L=some (.inl ((E:Nat),((k + 1:Nat):Int),tab n n G',tab n n T',L'))/\JS n K p H T' G' (k + 1) E/\JL n p G' L' (k + 1) E:=by
 have hI:=Aga hp;have hf2:100 < fuel:=by omega
 have hq1:1 < p ^ K:=by
  have h1:p ^ 1<=p ^ K:=AO1 AHx hK;grind
 obtain ⟨j,hj1,hj2,hj3⟩:=S.e.some hd hk λj hj=>by rw [S.e.sym hs S.rg hk AHx];exact S.z j k hj hk AHx
 obtain ⟨ex,hpv,r,c,rfl,E,P,hall⟩:=A2y (fuel:=fuel) (n:=n) (k:=k) (f:=f) (p:=p) (G:=G) AHx hp3 hq2 hn S.rg (λa e h1 h2=>S.fl a (a + e) h1 AHx AHx h2) hk ⟨j - k,AHx,by grind⟩ hf2;have S1:=S.low hs hall;obtain ⟨u,hu,hpu⟩:=P.u;have hrn:r < n:=by have:=P.hrc;have:=P.hc;omega
 have hEK:=Ar8 hI hu hpu<|S.rg r c hrn P.hc;have hfE:=Aib hI hu hpu<|S.fl r c P.hr hrn (by have:=P.hr;have:=P.hrc;omega) P.hc
 have key:∃ T1 G1,(((if ¬ (r:Int)=(c:Int) then ((((iter (λs=>AMh fuel (p ^ K) (r:Int) (c:Int) s.1 s.2.1 s.2.2) fuel (0,tab n n G,tab n n T)).bind (λ((e1,e2):(List<|List Int) × (List<|List Int))=>((gI e1 (c:Int)).bind λx=>((iter (λs=>ANm fuel (p ^ K) (r:Int) (c:Int) x s.1 s.2) fuel (0,e1)).bind (λ(e:(List<|List Int))=>(some<| (e,e2))))))):Option ((List<|List Int) × (List<|List Int))).bind λ(e1,e2)=>(some<| (e1,e2))) else (some<| (tab n n G,tab n n T))):Option (((List<|List Int) × (List<|List Int)))))=some (tab n n G1,tab n n T1)/\JS n K p H T1 G1 k E/\(∃ u,G1 r r=u * p ^ E/\¬ p ∣ u)/\ ∀ a,a < k->G1 a a=G a a:=by
  by_cases hrc:r=c
  ·subst hrc;exact ⟨T,G,by grind,S1,⟨u,hu,hpu⟩,λ_ _=>rfl⟩
  ·obtain ⟨a1,a2⟩:=A6a (fuel:=fuel) (G:=G) (T:=T) hq1 hq2 hn hrn P.hc (λh=>hrc h.symm) S.rg S.rt hf2;refine ⟨_,_,?_,S1.add (c:=1) AHx AHx P.hr hrn (by have:=P.hr;have:=P.hrc;omega) P.hc λh=>hrc h.symm,S1.pivot hs hI (λh=>by have:=Int.le_of_dvd AHz h;omega) hEK P.hr hrn (by have:=P.hr;have:=P.hrc;omega) P.hc (λh=>hrc h.symm) hu hpu (P.dg hrc r P.hr hrn)<|P.dg hrc c (by have:=P.hr;have:=P.hrc;omega) P.hc,λa ha=>Afc (by have:=P.hr;omega)⟩;rw [if_pos AHx,a1];simp only [Option.bind_some];rw [AMv<|AJo P.hc,a2];rfl
 obtain ⟨T1,G1,e1,S2,⟨u1,hu1,hpu1⟩,hd1⟩:=key;have S3:=S2.swap (Nat.le_refl k) hk P.hr hrn
 have hdk:swG k r G1 k k=u1 * p ^ E:=by
  have:swG k r G1 k k=G1 r r:=by
   unfold swG sw2
   by_cases h:k=r
   ·rw [if_pos h,h]
   ·rw [if_neg h,if_pos rfl]
  rw [this,hu1]
 have hkk:=S3.rg k k hk hk
 have hpos:0 < swG k r G1 k k:=by
  rcases Int.lt_or_le 0 (swG k r G1 k k) with h | h
  ·exact h
  ·exfalso;have h0:swG k r G1 k k=0:=by omega
   rw [h0] at hdk
   rcases Int.mul_eq_zero.1 hdk.symm with h3 | h3
   ·exact hpu1<|h3 ▸ ⟨0,AI9⟩
   ·exact Aa8 hI E h3
 obtain ⟨b,hb,hbi⟩:=Aqe (fuel:=fuel) (show 2<=p by omega) hp3 hpos AHx hf2;obtain rfl:=A55 (show 2<=p by omega) hbi (⟨E,u1,rfl,hdk,hpu1⟩:IsB p _ _);obtain ⟨v,hv,hvi⟩:=A59 (f:=fuel) (x:=u1) (m:=p ^ K) AHx hq2 (Ami hp hpu1 hK) hf;have hvq:Eqm (p ^ K) (v * u1) 1:=((Eqm.refl _ v).mul (Eqm.mod _ u1)).symm.trans hvi.2.2;obtain ⟨ex,hcl,T2,G2,rfl,S4,hd2,hz2⟩:=A2z (fuel:=fuel) S3 AHx hq1 hq2 AHx hn hk hdk hvq ⟨hvi.1,hvi.2.1⟩ hf2;have hLk:=B.len
 refine ⟨T2,G2,L ++ [((E:Int),1,u1,0,0)],E,?_,S4.next hs hk hz2,(B.keep λa ha=>?_).push ?_ ?_ rfl hfE⟩
 ·unfold ANy;rw [hM,if_pos AHx,hpv];simp only [Option.bind_some];rw [e1];simp only [Option.bind_some];rw [AMv<|AJo hrn,AMv<|AJo hk,A6b hn hrn hk hf2];simp only [Option.bind_some];rw [AMv<|AJo hk,AMv<|AI5 hk,hb];simp only [Option.bind_some];rw [Ar4 AHx (Int.le_trans (AO1 AHx<|Nat.le_of_lt hEK) hq2) hf2];simp only [Option.bind_some];rw [hv];simp only [Option.bind_some];rw [AKq AHx,hcl];simp only [Option.bind_some];rw [if_pos AHx]
 ·rw [hd2 a AHx,Aqj AHx (by have:=P.hr;omega),hd1 a ha]
 ·rw [hd2 k<|Nat.le_refl k];omega
 ·rw [hd2 k<|Nat.le_refl k];exact ⟨E,u1,rfl,hdk,hpu1⟩
end
theorem Az1 {n:Nat} (hM:M.length=n) (hn:n<=8) (hf:100 < fuel):iter (λs=>ARv fuel M s.1 s.2) fuel (0,[])=some (tab n n dl):=by
 apply ok_eq;refine AJg (λi s=>s=((i:Int),AK7 i λa=>AK7 n<|dl a)/\i<=n) n ⟨rfl,Nat.zero_le _⟩ AHx λi s hi hI=>?_;obtain ⟨rfl,hin⟩:=hI;unfold ARv;dsimp only;rw [hM]
 refine AI4 (λh=>?_) λh=>?_
 ·have hi:i < n:=by omega
  rw [if_pos AHx,AJ5,if_pos AHx,Int.toNat_natCast,AOm n (0:Int)]
  have hget:(AK7 i (λa=>AK7 n<|dl a) ++ [AK7 n λ_=>(0:Int)])[i]? =some (AK7 n λ_=>(0:Int)):=by
   rw [List.getElem?_append_right (by rw [AJ5];exact Nat.le_refl _),AJ5,Nat.sub_self];rfl
  rw [AMv hget,AMv<|AI5 hi,AXj,AKq AHx];refine AH4 ⟨hi,?_,hi⟩;congr 1;rw [AKf,List.set_append,if_neg (by rw [AJ5];omega),AJ5,Nat.sub_self];show AK7 i (λa=>AK7 n<|dl a) ++ [AK7 n λc=>if c=i then 1 else 0]=_
  have:AK7 n (λc=>if c=i then (1:Int) else 0)=AK7 n (dl i):=AJ3 λc _=>by
   unfold dl
   by_cases h:c=i
   ·rw [if_pos h,if_pos h.symm]
   ·rw [if_neg h,if_neg λe=>h e.symm]
  rw [this];unfold AK7;rw [List.range_succ,List.map_append];rfl
 ·obtain rfl:i=n:=by omega
  exact AH4 rfl
theorem A6d {m:Int} (R:Ah8 M) (hm:2<=m) (Aa:m<=2147483647) (hf:100 < fuel):ARk fuel M m=some (tab M.length M.length λi j=>ent M i j % m,0):=by
 have hM:=Ag3 R;unfold ARk AK5;have h1:AOd fuel M=some true:=by rw [hM];exact Aqd R.1.1 R.1.2 hf
 have h2:ALd fuel M m=some (tab M.length M.length λi j=>ent M i j % m):=by
  conv=>lhs;rw [hM]
  exact Azr R.1.2 hm Aa hf
 rw [h1];simp only [Option.bind_some];rw [if_neg AHz,if_neg AHx,if_neg AHx];simp only [Option.bind_some];rw [if_neg AHz,h2];rfl
theorem A6e (R:Ah8 M) (hp:Pr p) (hp2:2 < p) (hp3:p<=9973) (hf:2147483648 < fuel):
 ∃ (K E:Nat) (T G:AIe) (L:List AJ0),AOf fuel M p=some ((p,tab M.length M.length T,L),0)/\AMf fuel M p=some (K:Int)/\1<=K/\p ^ K<=2147483647/\Ak1 (det M.length<|ent M) p ((K:Int) - 1)/\JS M.length K p (ent M) T G M.length E/\JL M.length p G L M.length E:=by
 have hf2:100 < fuel:=by omega
 obtain ⟨v,hv,hv2,hj,-⟩:=Ae9 (fuel:=fuel) R hp hp3 hf2;obtain ⟨K,hk,hq,hk1,-⟩:=Aqf R AHx hp3 hv;rw [hk] at hj;rw [if_neg AHx] at hk
 have hq1:2<=p ^ K:=by
  have h1:p ^ 1<=p ^ K:=AO1 AHx hk1;rw [Int.pow_succ,Int.pow_zero,Int.one_mul] at h1;omega
 have hI:=Aga hp;have hn:=R.1.2;have hs:∀ i j,i < M.length->j < M.length->ent M i j=ent M j i:=λi j hi hj=>R.2.2.sym i j hi hj
 have hd: ¬ p ^ K ∣ det M.length (ent M):=λh=>by
  obtain ⟨e,r,he,h1,h2⟩:=hv;have:=Aib (f:=K) hI h1 h2 h;omega
 unfold AOf;have hrd:isRed M=true:=(Amg M).2 R;have hod:Ah1 p=true:=(Abm ⟨hp2,hp3,hp⟩).symm;simp only [AZq,AVi,Option.bind_some,hrd,hod];rw [if_neg AHz,if_neg AHz,hj];simp only [Option.bind_some];rw [Ar4 AHx hq hf2];simp only [Option.bind_some];rw [A6d R hq1 hq hf2];simp only [Option.bind_some];rw [Az1 rfl hn hf2];simp only [Option.bind_some]
 have S0:JS M.length K p (ent M) dl (λi j=>ent M i j % p ^ K) 0 0:=⟨λi j _ _=>by
  unfold dl;split <;> omega,λi j _ _=>AXp AHx _,Azv λi j _ _=>Eqm.mod _ _,λi j h=>absurd h<|Nat.not_lt_zero i,λi j _ _ _ _=>⟨ent M i j % p ^ K,by rw [Int.pow_zero,Int.one_mul]⟩⟩
 have B0:JL M.length p (λi j=>ent M i j % p ^ K) [] 0 0:=⟨rfl,λi b h=>by simp at h,λi hi b c h=>by simp at h⟩
 have main:Ok (iter (λs=>ANy fuel M p (p ^ K) s.1 s.2.1 s.2.2.1 s.2.2.2.1 s.2.2.2.2) fuel (0,0,tab M.length M.length λi j=>ent M i j % p ^ K,tab M.length M.length dl,[])) λex=> ∃ (E:Nat) (T G:AIe) (L:List AJ0),ex=(tab M.length M.length G,tab M.length M.length T,L)/\JS M.length K p (ent M) T G M.length E/\JL M.length p G L M.length E:=by
  refine AJg (λi s=> ∃ (E:Nat) (T G:AIe) (L:List AJ0),s=((E:Int),(i:Int),tab M.length M.length G,tab M.length M.length T,L)/\i<=M.length/\JS M.length K p (ent M) T G i E/\JL M.length p G L i E) M.length ⟨0,_,_,_,rfl,Nat.zero_le _,S0,B0⟩ AHx λi s hi hI=>?_;obtain ⟨E,T,G,L,rfl,hin,S,B⟩:=hI;dsimp only
  rcases Nat.lt_or_ge i M.length with h | h
  ·obtain ⟨T',G',L',E',h1,h2,h3⟩:=A20 (fuel:=fuel) (M:=M) rfl S B hs hd hp hp2 hp3 hq hk1 hn h hf;rw [h1];exact AH4 ⟨h,E',T',G',L',rfl,h,h2,h3⟩
  ·obtain rfl:i=M.length:=by omega
   unfold ANy;rw [if_neg AHx];exact AH4 ⟨E,T,G,L,rfl,S,B⟩
 obtain ⟨ex,h1,E,T,G,L,rfl,S,B⟩:=main;rw [h1];exact ⟨K,E,T,G,L,rfl,rfl,hk1,hq,by rwa [show (K:Int) - 1=v by omega],S,B⟩
def VV (p:Int) (K:Nat) (x:Int) (e:Nat):Prop:=(x=0/\e=K)∨ ∃ u,x=u * p ^ e/\¬ p ∣ u
theorem VV.dvd {e:Nat} (h:VV p K x e):p ^ e ∣ x:=by
 rcases h with ⟨rfl,_⟩ | ⟨u,rfl,_⟩
 ·exact ⟨0,AI9⟩
 ·exact ⟨u,Int.mul_comm _ _⟩
theorem VV.uniq {e:Nat} (hp:PrI p) (h:VV p K x e) (k:VV p K x f):e=f:=by
 have no:∀ {u:Int} {e:Nat},u * p ^ e=0->¬ p ∣ u->False:=λ{u e} h0 hu=>by
  rcases Int.mul_eq_zero.1 h0 with h | h
  ·exact hu<|h ▸ ⟨0,AI9⟩
  ·exact Aa8 hp e h
 rcases h with ⟨h1,h2⟩ | ⟨u,h1,h2⟩ <;> rcases k with ⟨k1,k2⟩ | ⟨w,k1,k2⟩
 ·rw [h2,k2]
 ·exact (no (k1.symm.trans h1) k2).elim
 ·exact (no (h1.symm.trans k1) h2).elim
 ·have a:=Aib hp h1 h2 (f:=f) ⟨w,by rw [k1,Int.mul_comm]⟩;have b:=Aib hp k1 k2 (f:=e) ⟨u,by rw [h1,Int.mul_comm]⟩;omega
theorem A7z (hx:1<=x) (Ac:x<=2147483647) (hp:2<=p) (hf:100 < fuel):Ok (AJk fuel x p) λe=> ∃ (E:Nat) (u:Int),e=E/\x=u * p ^ E/\¬ p ∣ u:=by
 unfold AJk;refine AH9 (AJg (λi s=> ∃ r:Int,s=(r,(i:Int))/\0 < r/\x=r * p ^ i) 31 (Q:=λe:Int=> ∃ (E:Nat) (u:Int),e=(E:Int)/\x=u * p ^ E/\¬ p ∣ u) ⟨x,rfl,AHx,AI9⟩ AHx λi s hi hI=>?_) λe he=>AH4 he;obtain ⟨r,rfl,hr,hdr⟩:=hI;have hpi:0 < p ^ i:=Int.pow_pos AHx;have hpx:1 * p ^ i<=r * p ^ i:=Int.mul_le_mul_of_nonneg_right AHx AHx;have Ad:=Aej (k:=i) hp AHx;have hrd:r * 1<=r * p ^ i:=Int.mul_le_mul_of_nonneg_left AHx AHx;unfold AOo;dsimp only;refine AH9 (Q:=λex=>match ex with | .inl _=>p ∣ r | .inr _=> ¬ p ∣ r) (AI4 (λh=>AJ4 AHx<|AI4 (λh2=>AH4 ?_) λh2=>AH4 ?_) λh=>by omega) λex hex=>?_
 ·exact Int.dvd_of_tmod_eq_zero h2
 ·exact λh3=>h2<|Int.tmod_eq_zero_of_dvd h3
 ·cases ex with
  | inl u=>
    obtain ⟨q,rfl⟩:p ∣ r:=hex
    have hq:0 < q:=Int.pos_of_mul_pos_right hr AHx
    have hqr:1 * q<=p * q:=Int.mul_le_mul_of_nonneg_right AHx AHx
    refine AJ4 AHx<|AH4 ⟨AHx,q,?_,hq,by grind⟩
    rw [Int.mul_tdiv_cancel_left _ AHx,AKn (x:=q) AHx AHx,AKq AHx]
  | inr u=>exact AH4 ⟨i,r,rfl,hdr,hex⟩
theorem A21 (hx:0<=x) (Aa:x<=2147483647) (hp:2<=p) (hf:100 < fuel):Ok (if x=0 then (some<|(K:Int)) else ((AJk fuel x p).bind λy=>(some y))) λe=> ∃ E:Nat,e=E/\VV p K x E:=by
 refine AI4 (λh=>AH4 ⟨K,rfl,.inl ⟨h,rfl⟩⟩) λh=>AH9 (A7z AHx Aa hp hf) λe he=>AH4 ?_;obtain ⟨E,u,rfl,h1,h2⟩:=he;exact ⟨E,rfl,.inr ⟨u,h1,h2⟩⟩
section
variable {fuel n K r:Nat} {p:Int} {G:AIe}
theorem A70 {b:Nat} (hI:PrI p) (hG:AY4 n (p ^ K) G) (Ai:p ^ K<=2147483647) (hi:i < n) (hj:j < n) (ha:a < n) (hb:b < n) (hE:VV p K (G a b) E) (hf:100 < fuel):Ok (((gI (tab n n G) (i:Int)).bind λz=>((gI z (j:Int)).bind λx=>(((if x=0 then (some<| (K:Int)) else ((AJk fuel x p).bind λy=>(some<| y))):Option (Int)).bind λe1=>((gI (tab n n G) (a:Int)).bind λz2=>((gI z2 (b:Int)).bind λx2=>(((if x2=0 then (some<| (K:Int)) else ((AJk fuel x2 p).bind λy=>(some<| y))):Option (Int)).bind λe2=>(if e1 < e2 then (some<| ((i:Int),(j:Int))) else (some<| ((a:Int),(b:Int))))))))))) λe=> ∃ F,VV p K (G i j) F/\(F < E/\e=((i:Int),(j:Int))∨E<=F/\e=((a:Int),(b:Int))):=by
 have hp:=hI.1;have h1:=hG i j hi hj;have h2:=hG a b ha hb;rw [AMv<|AJo hi,AMv<|AI5 hj];refine AH9 (A21 (K:=K) h1.1 AHx hp hf) λe1 Ag=>?_;rw [AMv<|AJo ha,AMv<|AI5 hb];refine AH9 (A21 (K:=K) h2.1 AHx hp hf) λe2 Ah=>?_;obtain ⟨F,rfl,hF⟩:=Ag;obtain ⟨E',rfl,hE'⟩:=Ah;obtain rfl:=VV.uniq hI hE hE';exact AI4 (λh=>AH4 ⟨F,hF,.inl ⟨AHx,rfl⟩⟩) λh=>AH4 ⟨F,hF,.inr ⟨AHx,rfl⟩⟩
structure LS (n r K:Nat) (p:Int) (G:AIe) (i j a b E:Nat):Prop where
 hr:r<=a
 hab:a<=b
 hb:b < n
 v:VV p K (G a b) E
 d:∀ x,r<=x->x < n->p ^ E ∣ G x x
 o:a≠b-> ∀ x,r<=x->x < n->p ^ (E + 1) ∣ G x x
 s:∀ x y,r<=x->x < y->y < n->(x < i∨x=i/\y < j)->p ^ E ∣ G x y
theorem LS.new {b F:Nat} (H:LS n r K p G i j a b E) (hi:r<=i) (hij:i < j) (hj:j < n) (hF:VV p K (G i j) F) (h:F < E):LS n r K p G i (j + 1) i j F:=
 ⟨hi,AHx,hj,hF,λx h1 h2=>Int.dvd_trans (AKv AHx)<|H.d x h1 h2,λ_ x h1 h2=>Int.dvd_trans (AKv AHx)<|H.d x h1 h2,λx y h1 h2 h3 h4=>by
  by_cases e:x=i/\y=j
  ·rw [e.1,e.2];exact hF.dvd
  ·exact Int.dvd_trans (AKv AHx)<|H.s x y h1 h2 h3 AHx⟩
theorem LS.old {b F:Nat} (H:LS n r K p G i j a b E) (hF:VV p K (G i j) F) (h:E<=F):LS n r K p G i (j + 1) a b E:=
 ⟨H.hr,H.hab,H.hb,H.v,H.d,H.o,λx y h1 h2 h3 h4=>by
  by_cases e:x=i/\y=j
  ·rw [e.1,e.2];exact Int.dvd_trans (AKv h) hF.dvd
  ·exact H.s x y h1 h2 h3 AHx⟩
theorem A6f (hI:PrI p) (hG:AY4 n (p ^ K) G) (Ag:p ^ K<=2147483647) (hn:n<=8) (hr:r < n) (hf:100 < fuel):Ok (iter (λs=>AL9 fuel p (K:Int) (tab n n G) s.1 s.2.1 s.2.2) fuel ((r:Int),(r:Int),(r:Int))) λe=> ∃ a E:Nat,e=((a:Int),(a:Int))/\LS n r K p G r (r + 1) a a E:=by
 have h0:=hG r r hr hr;obtain ⟨_,-,E0,-,Aj⟩:=A21 (fuel:=fuel) (K:=K) h0.1 AHx hI.1 hf;refine AJg (λi s=> ∃ a E:Nat,s=((a:Int),(a:Int),((r + i:Nat):Int))/\r<=a/\a < n/\r + i<=n/\VV p K (G a a) E/\ ∀ x,r<=x->x < r + i->p ^ E ∣ G x x) (n - r) ⟨r,E0,rfl,Nat.le_refl _,hr,AHx,Aj,λx h1 h2=>by omega⟩ AHx λi s hi hJ=>?_;obtain ⟨a,E,rfl,h1,h2,h3,h4,h5⟩:=hJ;unfold AL9;dsimp only;rw [AJf];refine AI4 (λh=>?_) λh=>AH4 ⟨a,E,rfl,h1,Nat.le_refl _,h2,h4,λx h6 h7=>h5 x h6 AHx,λh=>absurd rfl h,λx y _ _ _ h=>by omega⟩;refine AH9 (A70 hI hG Ag AHx AHx h2 h2 h4 hf) λe he=>?_;obtain ⟨F,hF,⟨h6,rfl⟩ | ⟨h6,rfl⟩⟩:=he
 ·refine AH4 ⟨AHx,r + i,F,by dsimp only;rw [AKq AHx];rfl,AHx,AHx,AHx,hF,λx h7 h8=>?_⟩;by_cases e:x=r + i
  ·rw [e];exact hF.dvd
  ·exact Int.dvd_trans (AKv AHx)<|h5 x h7 AHx
 ·refine AH4 ⟨AHx,a,E,by dsimp only;rw [AKq AHx];rfl,h1,h2,AHx,h4,λx h7 h8=>?_⟩;by_cases e:x=r + i
  ·rw [e];exact Int.dvd_trans (AKv h6) hF.dvd
  ·exact h5 x h7 AHx
theorem A6g (hI:PrI p) (hG:AY4 n (p ^ K) G) (Ag:p ^ K<=2147483647) (hn:n<=8) (hr:r < n) (H:LS n r K p G r (r + 1) a a E) (hf:100 < fuel):Ok (iter (λs=>AL8 fuel p (K:Int) (tab n n G) s.1 s.2.1 s.2.2) fuel ((a:Int),(a:Int),(r:Int))) λe=> ∃ a b E:Nat,e=((a:Int),(b:Int))/\LS n r K p G n n a b E:=by
 refine AJg (λi s=> ∃ a b E:Nat,s=((a:Int),(b:Int),((r + i:Nat):Int))/\r + i<=n/\LS n r K p G (r + i) (r + i + 1) a b E) (n - r) ⟨a,a,E,rfl,AHx,H⟩ AHx λi s hi hJ=>?_;obtain ⟨a,b,E,rfl,h1,h2⟩:=hJ;unfold AL8;dsimp only;rw [AJf];refine AI4 (λh=>?_) λh=>AH4 ⟨a,b,E,rfl,?_⟩;rotate_left
 ·rw [show r + i=n by omega] at h2;exact ⟨h2.hr,h2.hab,h2.hb,h2.v,h2.d,h2.o,λx y h3 h4 h5 h6=>h2.s x y h3 h4 h5 AHx⟩
 refine AH9 (Q:=λe=> ∃ a b E:Nat,e=((a:Int),(b:Int))/\LS n r K p G (r + i) n a b E) ?_ λe he=>?_
 ·rw [AKq AHx];refine AJg (λj s=> ∃ a b E:Nat,s=((a:Int),(b:Int),((r + i + 1 + j:Nat):Int))/\r + i + 1 + j<=n/\LS n r K p G (r + i) (r + i + 1 + j) a b E) n ⟨a,b,E,rfl,AHx,h2⟩ AHx λj s hj hK=>?_;obtain ⟨a,b,E,rfl,g1,g2⟩:=hK;unfold APy;dsimp only;rw [AJf];refine AI4 (λh=>?_) λh=>AH4 ⟨a,b,E,rfl,by rwa [show r + i + 1 + j=n by omega] at g2⟩;refine AH9 (A70 hI hG Ag AHx AHx (by have:=g2.hab;have:=g2.hb;omega) g2.hb g2.v hf) λe he=>?_;obtain ⟨F,hF,⟨h6,rfl⟩ | ⟨h6,rfl⟩⟩:=he
  ·exact AH4 ⟨AHx,r + i,r + i + 1 + j,F,by dsimp only;rw [AKq AHx];rfl,AHx,g2.new AHx AHx AHx hF h6⟩
  ·exact AH4 ⟨AHx,a,b,E,by dsimp only;rw [AKq AHx];rfl,AHx,g2.old hF h6⟩
 ·obtain ⟨a,b,E,rfl,g⟩:=he;refine AH4 ⟨AHx,a,b,E,by dsimp only;rw [AKq AHx];rfl,AHx,⟨g.hr,g.hab,g.hb,g.v,g.d,g.o,λx y h3 h4 h5 h6=>g.s x y h3 h4 h5 AHx⟩⟩
theorem A22 (hI:PrI p) (hG:AY4 n (p ^ K) G) (hq2:p ^ K<=2147483647) (hn:n<=8) (hr:r < n) (hnz:∃ e,r + e < n/\G r (r + e)≠0) (hf:100 < fuel):Ok (((iter (λs=>AL9 fuel p (K:Int) (tab n n G) s.1 s.2.1 s.2.2) fuel ((r:Int),(r:Int),(r:Int))).bind (λ((e1,e2):Int × Int)=>((iter (λs=>AL8 fuel p (K:Int) (tab n n G) s.1 s.2.1 s.2.2) fuel (e1,e2,(r:Int))).bind (λ((e3,e4):Int × Int)=>(some<| (e3,e4)))))):Option (Int × Int)) λe=> ∃ a b E:Nat,e=((a:Int),(b:Int))/\PV n r p G a b E/\ ∀ x d,r<=x->x + d < n->p ^ E ∣ G x (x + d):=by
 refine AH9 (A6f hI hG hq2 hn hr hf) λe he=>?_;obtain ⟨a,E,rfl,H⟩:=he;refine AH9 (A6g hI hG hq2 hn hr H hf) λe he=>AH4 ?_;obtain ⟨a,b,E,rfl,H⟩:=he
 have all:∀ x d,r<=x->x + d < n->p ^ E ∣ G x (x + d):=λx d h1 h2=>by
  rcases Nat.eq_zero_or_pos d with h | h
  ·rw [h];exact H.d x h1 AHx
  ·exact H.s x (x + d) h1 AHx h2 AHx
 refine ⟨a,b,E,rfl,⟨H.hr,H.hab,H.hb,?_,H.o⟩,all⟩
 rcases H.v with ⟨h0,hEK⟩ | h
 ·exfalso;obtain ⟨e,h1,h2⟩:=hnz;have h3:=hG r (r + e) hr h1;have h4:=Int.le_of_dvd AHx<|all r e (Nat.le_refl r) h1;rw [hEK] at h4;omega
 ·exact h
end
theorem Aqk {y c:Int} (hq:0 < q) (Aa:q<=2147483647) (hx:0<=x/\x < q) (hy:0<=y/\y < q) (hc: -2147483647<=c/\c<=2147483647):AJl fuel (w64<|x + Int.tmod (w64<|c * y) q) q=some ((x + c * y) % q):=by
 have h1:(c * y).natAbs<=2147483647 * 2147483647:=by
  rw [Int.natAbs_mul]
  exact Nat.mul_le_mul AHx AHx
 have h2:=Int.tmod_lt_of_pos (c * y) hq;have h3:=Int.lt_tmod_of_pos (c * y) hq;rw [A7y hq Aa,AKn (x:=c * y) AHx AHx,wk AHx]
 have h4:Eqm q (Int.tmod (c * y) q) (c * y):=by
  show _ % q=_ % q
  rw [Int.tmod_def,Int.sub_emod,Int.mul_emod_right,Int.sub_zero,Int.emod_emod]
 exact congrArg some<|(Eqm.refl q x).add h4
section
variable {fuel n i j k:Nat} {q c:Int} {G T:AIe}
theorem Az2 {RG RT:Int->List (List Int)->Option ((Int × List (List Int)) ⊕ List (List Int))} {RE:List (List Int)->Int->List (List Int)->Option ((Int × List (List Int)) ⊕ List (List Int))} (hq:0 < q) (Aa:q<=2147483647) (hn:n<=8) (hi:i < n) (hj:j < n) (hne:j≠i) (hc: -2147483647<=c/\c<=2147483647) (hG:AY4 n q G) (hT:AY4 n q T) (hf:100 < fuel) (rg:∀ (r:Int) M,RG r M=if r < (n:Int) then (gI M r).bind λx=>(gI x (i:Int)).bind λy=>(gI x (j:Int)).bind λz=>(if q≠0 then (AJl fuel (w64<|y + Int.tmod (w64<|c * z) q) q).bind λw=>some (Sum.inl (w64<|r + 1,sI M r<|sI x (i:Int) w)) else none) else some<|.inr M) (rt:∀ (r:Int) M,RT r M=if r < (n:Int) then (gI M r).bind λx=>(gI x (i:Int)).bind λy=>(gI x (j:Int)).bind λz=>(if q≠0 then (AJl fuel (w64<|y + Int.tmod (w64<|c * z) q) q).bind λw=>some (Sum.inl (w64<|r + 1,sI M r<|sI x (i:Int) w)) else none) else some<|.inr M) (re:∀ (X:AIe) (s:Int) M,RE (tab n n X) s M=if s < (n:Int) then (gI M (i:Int)).bind λx=>(gI x s).bind λy=>(gI M (j:Int)).bind λz=>(gI z s).bind λu=>(if q≠0 then (AJl fuel (w64<|y + Int.tmod (w64<|c * u) q) q).bind λw=>some (Sum.inl (w64<|s + 1,sI M (i:Int)<|sI x s w)) else none) else some<|.inr M):
 ((iter (λs=>RG s.1 s.2) fuel (0,tab n n G)).bind λe1=>(iter (λs=>RE e1 s.1 s.2) fuel (0,e1)).bind λe2=>(iter (λs=>RT s.1 s.2) fuel (0,tab n n T)).bind λe3=>some (e2,e3))=some (tab n n<|Afh q i j c G,tab n n<|AWt q i j c T):=by
 have AYd:∀ (B:Int->List (List Int)->Option ((Int × List (List Int)) ⊕ List (List Int))) (G:AIe),AY4 n q G->(∀ (r:Int) M,B r M=if r < (n:Int) then (gI M r).bind λx=>(gI x (i:Int)).bind λy=>(gI x (j:Int)).bind λz=>(if q≠0 then (AJl fuel (w64<|y + Int.tmod (w64<|c * z) q) q).bind λw=>some (Sum.inl (w64<|r + 1,sI M r<|sI x (i:Int) w)) else none) else some<|.inr M)->iter (λs=>B s.1 s.2) fuel (0,tab n n G)=some (tab n n<|AWt q i j c G):=λB G hG hB=>Adf (G':=AWt q i j c G) AHx (λr M hr hM=>by
  have hR:=Aen hG hr hM
  dsimp only
  rw [hB,if_pos AHx,AMv<|AJo hr,AMv<|AI5 hi,AMv<|AI5 hj,if_pos AHx,Aqk hq Aa (hR 0 i AHx hi) (hR 0 j AHx hj) hc]
  simp only [Option.bind_some]
  rw [AXj,AN9,AKq AHx,Aem hM]) λX=>by dsimp only;rw [hB,if_neg AHx]
 rw [AYd RG G hG rg];simp only [Option.bind_some];have Ac:=Ace (j:=i) (l:=j) (c:=c) hq hG;rw [An3 (body:=λs=>RE (tab n n<|AWt q i j c G) s.1 s.2) (j:=i) (g:=λb=>(AWt q i j c G i b + c * AWt q i j c G j b) % q) AHx (λs M hs hM hMs=>?_) λX=>?_,An4,AYd RT T hT rt]
 ·rfl
 ·dsimp only;have b1:0<=M i s/\M i s < q:=by rw [hMs];exact Ac i s hi hs
  have b2:0<=M j s/\M j s < q:=by rw [hM j s hne];exact Ac j s hj hs
  rw [re,if_pos AHx,AMv<|AJo hi,AMv<|AI5 hs,AMv<|AJo hj,AMv<|AI5 hs,if_pos AHx,Aqk hq Aa b1 b2 hc];simp only [Option.bind_some];rw [AXj,AN9,AKq AHx,hMs,hM j s hne]
 ·dsimp only;rw [re,if_neg AHx]
theorem Az3 {n i k:Nat} {M:AIe} (hi:i < n) (hk:k < n) (hr:r < n):sI (tab n n<|AKi M r λb=>if b=k then M r i else M r b) (r:Int) (sI (AK7 n λb=>if b=k then M r i else M r b) (i:Int)<|M r k)=tab n n (AKi M r λb=>M r<|sw2 k i b):=by
 rw [AXj,AN9];refine ARc λa b ha hb=>?_;rw [AJa,AJa,AJa];by_cases h:a=r
 ·rw [if_pos h,if_pos h];unfold sw2;grind
 ·rw [if_neg h,if_neg h,if_neg h]
theorem A23 (hn:n<=8) (hi:i < n) (hk:k < n) (hf:100 < fuel):
 ((iter (λs=>AL0 fuel (i:Int) (k:Int) (tab n n G) s.1 s.2.1 s.2.2) fuel (0,tab n n G,tab n n T)).bind (λ((e1,e2):(List<|List Int) × (List<|List Int))=>((gI e1 (i:Int)).bind λx=>((gI e1 (k:Int)).bind λy=>(some<| ((sI (sI e1 (k:Int) x) (i:Int) y),e2))))))=some (tab n n<|swG k i G,tab n n<|swC k i T):=by
 let V:(AIe)->Nat->AIe:=λG r a b=>if a < r then G a (sw2 k i b) else G a b
 have hVr:∀ G r,V G r r=G r:=λG r=>by funext b;exact if_neg<|Nat.lt_irrefl r
 have put:∀ G r,r < n->tab n n (AKi (V G r) r λb=>V G r r<|sw2 k i b)=tab n n (V G<|r + 1):=λG r hr=>ARc λa b ha hb=>by
  rw [AJa,hVr];show _=if a < r + 1 then _ else _
  by_cases h:a=r
  ·rw [if_pos h,if_pos AHx,h]
  ·rw [if_neg h];show (if a < r then _ else _)=_;grind
 have h1:iter (λs=>AL0 fuel (i:Int) (k:Int) (tab n n G) s.1 s.2.1 s.2.2) fuel (0,tab n n G,tab n n T)=some (tab n n λa b=>G a<|sw2 k i b,tab n n<|swC k i T):=by
  apply ok_eq;refine AJg (λr s=>s=((r:Int),tab n n<|V G r,tab n n<|V T r)/\r<=n) n ⟨rfl,Nat.zero_le _⟩ AHx λr s hr hI=>?_;obtain ⟨rfl,hrn⟩:=hI;unfold AL0;dsimp only;rw [AJf]
  refine AI4 (λh=>?_) λh=>?_
  ·have hr:r < n:=by omega
   rw [AMv<|AJo hr,AMv<|AI5 hi,AMv<|AI5 hk,AXj,AN9,AMv<|AJo hr,AKk,AMv<|AI5 hi,AMv<|AJo hr,AMv<|AI5 hi,AMv<|AI5 hk,AXj,AN9,AMv<|AJo hr,AKk,AMv<|AI5 hi,Az3 hi hk hr,Az3 hi hk hr,put G r hr,put T r hr,AKq AHx];exact AH4 ⟨hr,rfl,hr⟩
  ·obtain rfl:r=n:=by omega
   refine AH4 ?_;rw [ARc (f:=V G r) (g:=λa b=>G a<|sw2 k i b) λa b ha hb=>if_pos ha,ARc (f:=V T r) (g:=swC k i T) λa b ha hb=>if_pos ha]
 rw [h1];simp only [Option.bind_some];rw [AMv<|AJo hi,AMv<|AJo hk,AN9,AN9];refine congrArg some<|Prod.ext (ARc λa b ha hb=>?_) rfl;rw [AJa,AJa];unfold swG sw2;grind
end
theorem A8j {m:Int} (hx:0<=x) (hxm:x < m) (hm:2<=m) (Ag:m<=2147483647) (hg:∃ y,Afj m x y) (hf:2147483648 < f):∃ u,ANa f x m=some (u,true)/\Afj m x u:=by
 obtain ⟨f,rfl⟩:∃ g,f=g + 1:=⟨f - 1,AHx⟩
 have gcd:AQq (f + 1) x m=some 1:=by
  apply ok_eq
  unfold AQq
  refine AH9 (Aaa (λs:Int × Int=>0<=s.1/\0<=s.2/\ ∀ g,g ∣ s.1->g ∣ s.2->g ∣ x/\g ∣ m) (λs=>s.2.toNat) (Q:=(· =1)) (λs hI=>?_) ⟨hx,AHx,λg h1 h2=>⟨h1,h2⟩⟩ (by show m.toNat < f + 1;omega)) λe he=>AH4 he
  obtain ⟨y,z⟩:=s
  obtain ⟨h1,h2,h3⟩:=hI
  unfold AUh
  dsimp only at h1 h2 h3 ⊢
  refine AI4 (λh=>AJ4 AHx<|AH4 ?_) λh=>AH4 ?_
  ·rw [Int.tmod_eq_emod_of_nonneg h1]
   have g1:=Int.emod_nonneg y (show z≠0 by omega)
   have g2:=Int.emod_lt_of_pos y (show 0 < z by omega)
   exact ⟨⟨h2,g1,λg a b=>h3 g (by rw [<- Int.emod_add_mul_ediv y z];exact Int.dvd_add b<|Int.dvd_trans a ⟨_,rfl⟩) a⟩,by dsimp only;omega⟩
  ·have hz:z=0:=by omega
   obtain ⟨a,b⟩:=h3 y (Int.dvd_refl y)<|hz ▸ ⟨0,AI9⟩
   obtain ⟨w,hw⟩:=hg
   have h5:m ∣ w * x - 1:=AVm hw.2.2
   have h6:y ∣ 1:=by
    have h7:=Int.dvd_sub (Int.dvd_trans a (⟨w,Int.mul_comm _ _⟩:x ∣ w * x))<|Int.dvd_trans b h5
    rwa [show w * x - (w * x - 1)=1 by omega] at h7
   have h7:=Int.le_of_dvd AHz h6
   rcases (show y=0∨y=1 by omega) with h8 | h8
   ·rw [h8] at h6;exact absurd (Int.zero_dvd.1 h6) AHz
   ·exact h8
 have go:Ok (iter (λs=>ALh (f + 1) s.1 s.2.1 s.2.2.1 s.2.2.2) (f + 1) (x,m,1,0)) λe=>Afj m x (e % m):=by
  have h1:ALh (f + 1) x m 1 0=some (.inl (m,x,0,1)):=by
   unfold ALh
   rw [if_pos AHx,if_pos AHx,Int.tdiv_eq_ediv_of_nonneg hx,Int.ediv_eq_zero_of_lt hx hxm]
   rw [show w64 0=0 from rfl,Int.zero_mul,Int.zero_mul,show w64 0=0 from rfl,Int.sub_zero,AKn (x:=x) AHx AHx]
   rfl
  rw [AZk (s':=(m,x,0,1)) h1]
  refine Aaa (λs:Int × Int × Int × Int=>EI m x s.1 s.2.1 s.2.2.1 s.2.2.2) (λs=>s.2.1.toNat) (λs hE=>?_) (EI.start hx hxm) (by show x.toNat < f;omega)
  obtain ⟨a,b,u,v⟩:=s
  dsimp only at hE ⊢
  have Am:0<=b:=hE.1
  have Aj:0<=a:=hE.2.1
  have ham:a<=m:=hE.2.2.1
  unfold ALh
  refine AI4 (λh=>AJ4 h ?_) λh=>AH4 ?_
  ·have hbd:=hE.bounds AHx
   rw [Int.tdiv_eq_ediv_of_nonneg Aj,AKn (x:=a / b) AHx AHx,AKn (x:=a / b * b) AHx AHx,AKn (x:=a - a / b * b) AHx AHx,AKn (x:=a / b * v) AHx AHx,AKn (x:=u - a / b * v) AHx AHx]
   have hs:=hE.step AHx
   refine AH4 ⟨hs,?_⟩
   have h2:=Int.emod_lt_of_pos a (b:=b) AHx
   rw [Int.emod_def,Int.mul_comm] at h2
   grind
  ·obtain rfl:b=0:=by omega
   have hd:=EI.done hm hE
   refine hd.2.1<|Classical.byContradiction λhne=>hd.2.2 hne hg
 obtain ⟨e,he,hi⟩:=go;refine ⟨e % m,?_,hi⟩;unfold ANa;rw [gcd];simp only [Option.bind_some];rw [if_neg AHz,he];simp only [Option.bind_some];rw [A7y AHx Ag];rfl
theorem Aql {d A u:Int} (hp:0 < p) (hE:E<=K) (hxd:p ^ E ∣ x) (hd:d=A * p ^ E) (hu:Eqm (p ^ (K - E)) (u * A) 1):(x + -((x / p ^ E * u) % p ^ (K - E)) * d) % p ^ K=0:=by
 have hpE:0 < p ^ E:=Int.pow_pos hp;obtain ⟨y,rfl⟩:=hxd;rw [Int.mul_ediv_cancel_left _ AHx,hd];have h1:Eqm (p ^ (K - E)) ((y * u) % p ^ (K - E) * A) y:=((Eqm.mod _ _).mul (Eqm.refl _ A)).trans ((Eqm.of_eq<|by rw [Int.mul_assoc]).trans (((Eqm.refl _ y).mul hu).trans (Eqm.of_eq<|Int.mul_one y)));obtain ⟨w,hw⟩:=AVm h1;refine Int.emod_eq_zero_of_dvd ⟨-w,?_⟩;rw [Af5 p hE,show p ^ E * y + -(y * u % p ^ (K - E)) * (A * p ^ E)=p ^ E * -((y * u) % p ^ (K - E) * A - y) by grind,hw];grind
section
variable {fuel n K k:Nat} {p:Int} {H T G:AIe}
theorem Az4 {A u:Int} (S:JS n K p H T G k E) (hp:2<=p) (Ab:p ^ K<=2147483647) (hE:E<=K) (hn:n<=8) (hk:k < n) (hD:G k k=A * p ^ E) (hu:Eqm (p ^ (K - E)) (u * A) 1) (Ac:0<=u/\u < p ^ (K - E)) (hf:100 < fuel):
 Ok (iter (λs=>ANl fuel (p ^ K) (k:Int) (p ^ E) u s.1 s.2.1 s.2.2) fuel (((k + 1:Nat):Int),tab n n G,tab n n T)) λex=> ∃ T' G',ex=(tab n n G',tab n n T')/\JS n K p H T' G' k E/\(∀ a,a<=k->G' a a=G a a)/\ ∀ j,k < j->j < n->G' k j=0:=by
 obtain ⟨s1,s2,s3,s4,s5⟩:=AXy (p:=p) (k:=K) (E:=E) rfl AHx hE Ab;refine AJg (λi s=> ∃ T' G',s=(((k + 1 + i:Nat):Int),tab n n G',tab n n T')/\k + 1 + i<=n/\JS n K p H T' G' k E/\(∀ a,a<=k->G' a a=G a a)/\ ∀ j,k < j->j < k + 1 + i->G' k j=0) (n - (k + 1)) ⟨T,G,rfl,AHx,S,λ_ _=>rfl,λj h1 h2=>by omega⟩ AHx λi s hi hI=>?_;obtain ⟨T',G',rfl,hin,S',hd,hz⟩:=hI;unfold ANl;dsimp only;rw [AJf];refine AI4 (λh=>?_) λh=>AH4 ⟨T',G',rfl,S',hd,λj h1 h2=>hz j h1 AHx⟩;obtain ⟨j,hj⟩:∃ j,j=k + 1 + i:=⟨_,rfl⟩;rw [<- hj] at h hin hz ⊢;have hjn:j < n:=by omega
 rw [AMv<|AJo hk,AMv<|AI5 hjn,if_pos AHx,if_pos AHx,if_pos (by rw [s1];omega)];have hx:=S'.rg k j hk hjn;obtain ⟨x,hxe⟩:∃ x,x=G' k j:=⟨_,rfl⟩;rw [<- hxe] at hx ⊢;have hdiv:0<=x / p ^ E/\x / p ^ E<=x:=⟨Int.ediv_nonneg hx.1 AHx,Int.ediv_le_self _ hx.1⟩;have Ae:0<=x / p ^ E * u:=Int.mul_nonneg hdiv.1 Ac.1;have Ak:x / p ^ E * u<=2147483647 * 2147483647:=Int.mul_le_mul AHx AHx Ac.1 AHz;have Am:=AXp (q:=p ^ (K - E)) AHx<|x / p ^ E * u
 have hc:w64 (0 - Int.tmod (w64<|w64 (Int.tdiv x<|p ^ E) * u) (w64<|Int.tdiv (p ^ K)<|p ^ E))= -((x / p ^ E * u) % p ^ (K - E)):=by
  rw [s1,Int.tdiv_eq_ediv_of_nonneg hx.1,AKn (x:=x / p ^ E) AHx AHx,AKn (x:=x / p ^ E * u) AHx AHx,Int.tmod_eq_emod_of_nonneg Ae,wk AHx]
  omega
 have key:=Az2 (fuel:=fuel) (n:=n) (i:=j) (j:=k) (q:=p ^ K) (c:=w64<|0 - Int.tmod (w64<|w64 (Int.tdiv x<|p ^ E) * u) (w64<|Int.tdiv (p ^ K)<|p ^ E)) (G:=G') (T:=T') (RG:=λr M=>AL3 fuel (p ^ K) (k:Int) (p ^ E) u (j:Int) (tab n n G') x r M) (RE:=λe r M=>AL2 fuel (p ^ K) (k:Int) (p ^ E) u (j:Int) x e r M) (RT:=λr M=>AL1 fuel (p ^ K) (k:Int) (p ^ E) u (j:Int) (tab n n T') x r M) AHx Ab hn hjn hk AHx (by rw [hc];omega) S'.rg S'.rt hf (λr M=>by show AL3 _ _ _ _ _ _ _ _ _ _=_;unfold AL3;rw [AJf]) (λr M=>by show AL1 _ _ _ _ _ _ _ _ _ _=_;unfold AL1;rw [AJf]) (λX r M=>by show AL2 _ _ _ _ _ _ _ _ _ _=_;unfold AL2;rw [AJf]);rw [key,hc];simp only [Option.bind_some];obtain ⟨c,hce⟩:∃ c,c= -((x / p ^ E * u) % p ^ (K - E)):=⟨_,rfl⟩;rw [<- hce];have S2:=S'.add (c:=c) AHx hE (show k<=j by omega) hjn (Nat.le_refl k) hk AHx;refine AH4 ⟨AHx,_,_,?_,AHx,S2,λa ha=>by rw [Afc AHx,hd a ha],λj' h1 h2=>?_⟩
 ·rw [hj,AKq AHx];rfl
 ·rw [Aai,if_neg AHx];by_cases h3:j'=j
  ·rw [if_pos h3,<- hxe,hd k<|Nat.le_refl k,hce];exact Aql AHx hE (hxe ▸ S'.fl k j (Nat.le_refl k) hk AHx hjn) hD hu
  grind
theorem A24 {L:List AJ0} (hM:M.length=n) (S:JS n K p H T G k f) (B:JL n p G L k f) (hs:∀ i j,i < n->j < n->H i j=H j i) (hd: ¬ p ^ K ∣ det n H) (hp:Pr p) (hp2:2 < p) (hq2:p ^ K<=2147483647) (hK:1<=K) (hn:n<=8) (hk:k < n) (hf:2147483648 < fuel):
 ∃ T' G' L' E,ALi fuel M p (K:Int) (p ^ K) (k:Int) (tab n n G) (tab n n T) L=some (.inl (((k + 1:Nat):Int),tab n n G',tab n n T',L'))/\JS n K p H T' G' (k + 1) E/\JL n p G' L' (k + 1) E:=by
 have hI:=Aga hp;have hf2:100 < fuel:=by omega
 have hq1:1 < p ^ K:=by
  have h1:p ^ 1<=p ^ K:=AO1 AHx hK;grind
 obtain ⟨j,hj1,hj2,hj3⟩:=S.e.some hd hk λj hj=>by rw [S.e.sym hs S.rg hk AHx];exact S.z j k hj hk AHx
 obtain ⟨ex,hpv,r,c,E,rfl,P,hall⟩:=A22 (fuel:=fuel) (n:=n) (r:=k) (p:=p) (K:=K) (G:=G) hI S.rg hq2 hn hk ⟨j - k,AHx,by grind⟩ hf2;have S1:=S.low hs hall;obtain ⟨u,hu,hpu⟩:=P.u;have hrn:r < n:=by have:=P.hrc;have:=P.hc;omega
 have hEK:=Ar8 hI hu hpu<|S.rg r c hrn P.hc;have hfE:=Aib hI hu hpu<|S.fl r c P.hr hrn (by have:=P.hr;have:=P.hrc;omega) P.hc
 have key:∃ T1 G1,(((if ¬ (r:Int)=(c:Int) then ((((iter (λs=>ALa fuel (p ^ K) (tab n n G) (r:Int) (c:Int) s.1 s.2) fuel (0,tab n n G)).bind (λ(e1:(List<|List Int))=>((iter (λs=>AK9 fuel (p ^ K) (r:Int) (c:Int) e1 s.1 s.2) fuel (0,e1)).bind (λ(e2:(List<|List Int))=>((iter (λs=>AK8 fuel (p ^ K) (tab n n T) (r:Int) (c:Int) s.1 s.2) fuel (0,tab n n T)).bind (λ(e3:(List<|List Int))=>(some<| (e2,e3)))))))):Option ((List<|List Int) × (List<|List Int))).bind λ(e1,e2)=>(some<| (e1,e2))) else (some<| (tab n n G,tab n n T))):Option (((List<|List Int) × (List<|List Int)))))=some (tab n n G1,tab n n T1)/\JS n K p H T1 G1 k E/\(∃ u,G1 r r=u * p ^ E/\¬ p ∣ u)/\ ∀ a,a < k->G1 a a=G a a:=by
  by_cases hrc:r=c
  ·subst hrc;exact ⟨T,G,by rw [if_neg<|not_not_intro rfl],S1,⟨u,hu,hpu⟩,λ_ _=>rfl⟩
  ·have a1:=Az2 (fuel:=fuel) (n:=n) (i:=r) (j:=c) (q:=p ^ K) (c:=1) (G:=G) (T:=T) (RG:=λs M=>ALa fuel (p ^ K) (tab n n G) (r:Int) (c:Int) s M) (RE:=λe s M=>AK9 fuel (p ^ K) (r:Int) (c:Int) e s M) (RT:=λs M=>AK8 fuel (p ^ K) (tab n n T) (r:Int) (c:Int) s M) AHx hq2 hn hrn P.hc (λh=>hrc h.symm) AHz S.rg S.rt hf2 (λr M=>by show ALa _ _ _ _ _ _ _=_;unfold ALa;rw [AJf]) (λr M=>by show AK8 _ _ _ _ _ _ _=_;unfold AK8;rw [AJf]) (λX r M=>by show AK9 _ _ _ _ _ _ _=_;unfold AK9;rw [AJf]);refine ⟨_,_,?_,S1.add (c:=1) AHx AHx P.hr hrn (by have:=P.hr;have:=P.hrc;omega) P.hc λh=>hrc h.symm,S1.pivot hs hI (λh=>by have:=Int.le_of_dvd AHz h;omega) hEK P.hr hrn (by have:=P.hr;have:=P.hrc;omega) P.hc (λh=>hrc h.symm) hu hpu (P.dg hrc r P.hr hrn)<|P.dg hrc c (by have:=P.hr;have:=P.hrc;omega) P.hc,λa ha=>Afc (by have:=P.hr;omega)⟩;rw [if_pos AHx,a1];rfl
 obtain ⟨T1,G1,e1,S2,⟨u1,hu1,hpu1⟩,hd1⟩:=key;have S3:=S2.swap (Nat.le_refl k) hk P.hr hrn
 have hdk:swG k r G1 k k=u1 * p ^ E:=by
  have:swG k r G1 k k=G1 r r:=by
   unfold swG sw2
   by_cases h:k=r
   ·rw [if_pos h,h]
   ·rw [if_neg h,if_pos rfl]
  rw [this,hu1]
 have hkk:=S3.rg k k hk hk;obtain ⟨s1,s2,s3,s4,s5⟩:=AXy (p:=p) (k:=K) (E:=E) rfl AHx AHx hq2
 have hpos:0 < swG k r G1 k k:=by
  rcases Int.lt_or_le 0 (swG k r G1 k k) with h | h
  ·exact h
  ·exfalso;have h0:swG k r G1 k k=0:=by omega
   rw [h0] at hdk
   rcases Int.mul_eq_zero.1 hdk.symm with h3 | h3
   ·exact hpu1<|h3 ▸ ⟨0,AI9⟩
   ·exact Aa8 hI E h3
 have hu10:0 < u1:=by
  rw [hdk] at hpos;exact Int.pos_of_mul_pos_left hpos AHx
 have hu11:u1 < p ^ (K - E):=by
  have h1:u1 * p ^ E < p ^ (K - E) * p ^ E:=by rw [<- hdk,Int.mul_comm,<- Af5 p (by omega:E<=K)];exact hkk.2
  exact Int.lt_of_mul_lt_mul_right h1 AHx
 have hval:(if swG k r G1 k k=0 then (some<| (K:Int)) else ((AJk fuel (swG k r G1 k k) p).bind λy=>(some<| y)))=some (E:Int):=by
  obtain ⟨e,he,F,rfl,hF⟩:=A21 (fuel:=fuel) (K:=K) (p:=p) hkk.1 AHx AHx hf2;rw [he,VV.uniq hI hF<|.inr ⟨u1,hdk,hpu1⟩]
 have hu1m:u1 % p ^ (K - E)=u1:=Int.emod_eq_of_lt AHx hu11
 have hpK:2<=p ^ (K - E):=by
  have h1:p ^ 1<=p ^ (K - E):=AO1 AHx AHx;rw [Int.pow_succ,Int.pow_zero,Int.one_mul] at h1;omega
 obtain ⟨v,hv,hvi⟩:=A8j (f:=fuel) (x:=u1) (m:=p ^ (K - E)) AHx hu11 hpK AHx (hu1m ▸ Ami hp hpu1 AHx) hf;obtain ⟨ex,hcl,T2,G2,rfl,S4,hd2,hz2⟩:=Az4 (fuel:=fuel) S3 AHx hq2 AHx hn hk hdk hvi.2.2 ⟨hvi.1,hvi.2.1⟩ hf2;have hLk:=B.len;have hdiv:w64 (Int.tdiv (u1 * p ^ E)<|p ^ E)=u1:=by rw [Int.mul_tdiv_cancel _ AHx,wk AHx]
 refine ⟨T2,G2,L ++ [((E:Int),1,u1,0,0)],E,?_,S4.next hs hk hz2,(B.keep λa ha=>?_).push ?_ ?_ rfl hfE⟩
 ·unfold ALi;rw [hM,if_pos AHx,hpv];simp only [Option.bind_some];rw [if_neg (show ¬ p=2 by omega),ite_self];simp only [Option.bind_some];rw [e1];simp only [Option.bind_some];rw [A23 hn hrn hk hf2];simp only [Option.bind_some];rw [AMv<|AJo hk,AMv<|AI5 hk,hval];simp only [Option.bind_some];rw [Azt AHx AHx hf2];simp only [Option.bind_some];rw [if_pos AHx,if_pos AHx,s1,hdk,hdiv,hv];simp only [Option.bind_some];rw [AKq AHx,hcl];simp only [Option.bind_some];rw [AMv<|AJo hk,AMv<|AI5 hk,if_pos AHx,hd2 k<|Nat.le_refl k,hdk,hdiv];simp only [Option.bind_some];rw [if_pos AHx]
 ·rw [hd2 a AHx,Aqj AHx (by have:=P.hr;omega),hd1 a ha]
 ·rw [hd2 k<|Nat.le_refl k];omega
 ·rw [hd2 k<|Nat.le_refl k];exact ⟨E,u1,rfl,hdk,hpu1⟩
end
theorem Az5 {n:Nat} (hM:M.length=n) (hn:n<=8) (hf:100 < fuel):iter (λs=>ANv fuel M s.1 s.2) fuel (0,[])=some (tab n n dl):=by
 apply ok_eq;refine AJg (λi s=>s=((i:Int),AK7 i λa=>AK7 n<|dl a)/\i<=n) n ⟨rfl,Nat.zero_le _⟩ AHx λi s hi hI=>?_;obtain ⟨rfl,hin⟩:=hI;unfold ANv;dsimp only;rw [hM]
 refine AI4 (λh=>?_) λh=>?_
 ·have hi:i < n:=by omega
  rw [if_pos AHx,Int.toNat_natCast,AOm n (0:Int),AMv<|AI5 hi,AJ5,if_pos AHx,AXj,AKq AHx];refine AH4 ⟨hi,?_,hi⟩;congr 1
  have:AK7 n (λc=>if c=i then (1:Int) else 0)=AK7 n (dl i):=AJ3 λc _=>by
   unfold dl
   by_cases h:c=i
   ·rw [if_pos h,if_pos h.symm]
   ·rw [if_neg h,if_neg λe=>h e.symm]
  rw [this];unfold AK7;rw [List.range_succ,List.map_append];rfl
 ·obtain rfl:i=n:=by omega
  exact AH4 rfl
theorem A6h (R:Ah8 M) (hp:Pr p) (hp2:2 < p) (hp3:p<=9973) (hf:2147483648 < fuel):
 ∃ (K E:Nat) (T G:AIe) (L:List AJ0),AL4 fuel M p=some (p,tab M.length M.length T,L)/\1<=K/\p ^ K<=2147483647/\Ak1 (det M.length<|ent M) p ((K:Int) - 1)/\JS M.length K p (ent M) T G M.length E/\JL M.length p G L M.length E:=by
 have hf2:100 < fuel:=by omega
 obtain ⟨v,hv,hv2,-,hj⟩:=Ae9 (fuel:=fuel) R hp hp3 hf2;obtain ⟨K,hk,hq,hk1,-⟩:=Aqf R AHx hp3 hv;rw [hk] at hj;rw [if_neg AHx] at hk
 have hq1:2<=p ^ K:=by
  have h1:p ^ 1<=p ^ K:=AO1 AHx hk1;rw [Int.pow_succ,Int.pow_zero,Int.one_mul] at h1;omega
 have hI:=Aga hp;have hn:=R.1.2;have hs:∀ i j,i < M.length->j < M.length->ent M i j=ent M j i:=λi j hi hj=>R.2.2.sym i j hi hj
 have hd: ¬ p ^ K ∣ det M.length (ent M):=λh=>by
  obtain ⟨e,r,he,h1,h2⟩:=hv;have:=Aib (f:=K) hI h1 h2 h;omega
 unfold AL4;rw [hj];simp only [Option.bind_some];rw [Azt AHx hq hf2];simp only [Option.bind_some]
 have hred:AMg fuel M (p ^ K)=some (tab M.length M.length λi j=>ent M i j % p ^ K):=by
  conv=>lhs;rw [Ag3 R]
  exact A54 hn AHx hq hf2
 rw [hred];simp only [Option.bind_some];rw [Az5 rfl hn hf2];simp only [Option.bind_some]
 have S0:JS M.length K p (ent M) dl (λi j=>ent M i j % p ^ K) 0 0:=⟨λi j _ _=>by
  unfold dl;split <;> omega,λi j _ _=>AXp AHx _,Azv λi j _ _=>Eqm.mod _ _,λi j h=>absurd h<|Nat.not_lt_zero i,λi j _ _ _ _=>⟨ent M i j % p ^ K,by rw [Int.pow_zero,Int.one_mul]⟩⟩
 have B0:JL M.length p (λi j=>ent M i j % p ^ K) [] 0 0:=⟨rfl,λi b h=>by simp at h,λi hi b c h=>by simp at h⟩
 have main:Ok (iter (λs=>ALi fuel M p (K:Int) (p ^ K) s.1 s.2.1 s.2.2.1 s.2.2.2) fuel (0,tab M.length M.length λi j=>ent M i j % p ^ K,tab M.length M.length dl,[])) λex=> ∃ (E:Nat) (T G:AIe) (L:List AJ0),ex=(tab M.length M.length G,tab M.length M.length T,L)/\JS M.length K p (ent M) T G M.length E/\JL M.length p G L M.length E:=by
  refine AJg (λi s=> ∃ (E:Nat) (T G:AIe) (L:List AJ0),s=((i:Int),tab M.length M.length G,tab M.length M.length T,L)/\i<=M.length/\JS M.length K p (ent M) T G i E/\JL M.length p G L i E) M.length ⟨0,_,_,_,rfl,Nat.zero_le _,S0,B0⟩ AHx λi s hi hI=>?_;obtain ⟨E,T,G,L,rfl,hin,S,B⟩:=hI;dsimp only
  rcases Nat.lt_or_ge i M.length with h | h
  ·obtain ⟨T',G',L',E',h1,h2,h3⟩:=A24 (fuel:=fuel) (M:=M) rfl S B hs hd hp hp2 hq hk1 hn h hf;rw [h1];exact AH4 ⟨h,E',T',G',L',rfl,h,h2,h3⟩
  ·obtain rfl:i=M.length:=by omega
   unfold ALi;rw [if_neg AHx];exact AH4 ⟨E,T,G,L,rfl,S,B⟩
 obtain ⟨ex,h1,E,T,G,L,rfl,S,B⟩:=main;rw [h1];exact ⟨K,E,T,G,L,rfl,hk1,hq,by rwa [show (K:Int) - 1=v by omega],S,B⟩
theorem pr3:Pr 3:=⟨AHx,λd h1 h2=>by
 obtain rfl:d=2:=by omega
 decide⟩
theorem A8k:Ah1 3=true:=by simp [Ah1,pr3]
theorem A31:isRed [[2,1],[1,2]]=true:=by
 unfold isRed
 rw [<- APn (M:=[[2,1],[1,2]]) ⟨AHz,AHz,λi j hi hj=>by
  have hi:i < 2:=hi
  have hj:j < 2:=hj
  rcases (by omega:i=0∨i=1) with rfl | rfl <;> rcases (by omega:j=0∨j=1) with rfl | rfl <;> decide⟩]
 decide +kernel
theorem A8l:Ak1 3 3 1:=⟨1,1,rfl,AHz,AHz⟩
theorem An5:APg (AM1 + 1)=some true:=by
 have Aa:100 < AM1 + 1:=Nat.lt_of_le_of_lt AHz<|Nat.lt_succ_self AM1;have R:=(Amg _).1 A31;have hd:det 2 (ent [[2,1],[1,2]])=3:=by decide +kernel
 obtain ⟨v,h1,h2,h3,h4⟩:=Ae9 (fuel:=AM1 + 1) R (p:=3) pr3 AHx Aa;obtain rfl:v=1:=Ag2 AHx (by simpa [hd] using h1) A8l;rw [if_neg AHz] at h3;have h5:=Ar4 (fuel:=AM1 + 1) (p:=3) (k:=2) AHx AHz Aa;unfold APg AKw AUb AWg AVi AZq;simp only [A8k,A31,h3,Option.bind_some,Bool.not_true,Bool.false_eq_true,reduceIte];decide +kernel
theorem A6i (n:Nat) (h2:2<=n) (h:((List.range n).all λd=>decide (d < 2) || decide (n % d≠0))=true):Pr (n:Int):=⟨AHx,λd h3 h4=>by
 have h5:=List.all_eq_true.1 h d.toNat<|List.mem_range.2 AHx
 rw [Bool.or_eq_true,decide_eq_true_eq,decide_eq_true_eq] at h5
 rcases h5 with h5 | h5
 ·omega
 ·intro h6
  apply h5
  have:((n % d.toNat:Nat):Int)=0:=by rw [Int.natCast_emod,Int.toNat_of_nonneg AHx,h6]
  omega⟩
theorem pr8 (n:Nat) (h2:2<=n) (h:((List.range n).all λd=>decide (d < 2) || decide (n % d≠0))=true) (h3:2 < n) (h4:n<=23):Pr (n:Int)/\2 < (n:Int)/\(n:Int)<=23:=⟨A6i n h2 h,AHx,AHx⟩
theorem Ar9 {k:Int} (hk:0<=k/\k < 256):Ok (AN7 fuel k) λp=>Pr p/\2 < p/\p<=23:=by
 unfold AN7;obtain ⟨q,h1,h2⟩:=Ass k 8 hk.1 AHz;refine AI8 (n:=q) (List.getElem?_eq_getElem<|by exact h2) h1<|AH4 ?_;rcases (by omega:q=0∨q=1∨q=2∨q=3∨q=4∨q=5∨q=6∨q=7) with rfl | rfl | rfl | rfl | rfl | rfl | rfl | rfl
 ·exact pr8 3 AHz (by decide +kernel) AHz AHz
 ·exact pr8 5 AHz (by decide +kernel) AHz AHz
 ·exact pr8 7 AHz (by decide +kernel) AHz AHz
 ·exact pr8 11 AHz (by decide +kernel) AHz AHz
 ·exact pr8 13 AHz (by decide +kernel) AHz AHz
 ·exact pr8 17 AHz (by decide +kernel) AHz AHz
 ·exact pr8 19 AHz (by decide +kernel) AHz AHz
 ·exact pr8 23 AHz (by decide +kernel) AHz AHz
def ASa (fuel:Nat) (a3 Ab Ac Ad:Int):Option ((Int × Int × Int) ⊕ Int):=
 if 0 < Ac then ((((if Int.tmod Ac 2=1 then if a3≠0 then some (Int.tmod (w64<|Ad * Ab) a3) else none else some Ad):Option Int).bind (λ(Ae:Int)=>if a3≠0 then some (Int.tmod (w64<|Ab * Ab) a3,Ae) else none)):Option (Int × Int)).bind (λ((Af,Ag):Int × Int)=>some<|.inl (Af,w64<|Int.tdiv Ac 2,Ag)) else some<|.inr Ad
def AO3 (fuel:Nat) (a1 a2 a3:Int):Option Int:=
 if a3≠0 then (AJl fuel a1 a3).bind λx4=>(iter (λs=>ASa fuel a3 s.1 s.2.1 s.2.2) fuel (x4,a2,Int.tmod 1 a3)).bind (λ(Ae:Int)=>some Ae) else none
theorem Aaq {a3 r:Int} (hp:AO3 fuel a1 a2 a3=some r):AI7 Tryz.prog 70 #[(.int .i64 a1),(.int .i64 a2),(.int .i64 a3)] h (λx h'=>Ext h h'/\x= .int .i64 r):=by
 unfold AO3 at hp;refine cwf (l:=[_,_,_]) Tryz.func70 rfl rfl (AH1<|AJd<|AHy ?_);obtain ⟨Am,Ao⟩:=ifN hp;refine ALg rfl rfl Am (AH7<|AH3<|AH1<|AHy<|AHy ?_);obtain ⟨x6,Ap,Aq⟩:=AH2 Ao;refine ALx (Kst.k0 h) (AK4 Ap) λBc E9 Ai=>AH7<|AH6<|APb 1073733763 Aq (λx=>[(0,(.int .i64 x.1)),(1,(.int .i64 x.2.1)),(7,(.int .i64 x.2.2))]) (λx=>Ai.L) Ai ⟨rfl,rfl,rfl,trivial⟩ ?_;rintro ⟨Ac,Bf,Aj⟩ Bg Bh Bi Aa Ad Ar;unfold ASa at Ad;refine AH3<|AH1<|AHy<|APu rfl rfl (AH5<|⟨_,rfl,λAe=>?_,λAe=>?_⟩)
 ·refine AIa<|q_t ?_;obtain ⟨Au,Av,Aw⟩:=AH2<|AJb Ad Ae;refine ARb 1073610881 (λx:(Int) × (Int)=>[(0,(.int .i64 x.1)),(7,(.int .i64 x.2))]) (λx h'=>( (x.1,x.2))=Au/\Kst h h' (Aa.L)) ?_ ?_
  ·refine AH6 ?_;obtain ⟨Ax,Ak,Ay⟩:=AH2 Av;refine ARb 33423488 (λx:(Int)=>[(7,(.int .i64 x))]) (λx h'=>( x)=Ax/\Kst h h' (Aa.L)) ?_ ?_
   ·refine AH1<|AHy<|ALg rfl rfl AHz (AKd rfl rfl (AH5<|⟨_,rfl,λAf=>?_,λAf=>?_⟩))
    ·refine AIf<|AHy<|AHy<|APo rfl rfl (AHy ?_);obtain ⟨Az,A3⟩:=ifN<|AJb Ak Af;refine ALg rfl rfl Az (AH7 ?_);exact ⟨((Int.tmod (w64<|Aj * Ac) a3):(Int)),⟨AH0 A3,Aa⟩,rfl,trivial⟩
    ·refine AIa<|q_t ?_;exact ⟨(Aj:(Int)),⟨AH0<|AJc Ak Af,Aa⟩,rfl,trivial⟩
   rintro A4 Bj Bl ⟨A5,A6⟩;subst A5;refine AIf<|AHy<|AHy<|APo rfl rfl (AHy ?_);obtain ⟨A7,A8⟩:=ifN Ay;refine ALg rfl rfl A7 (AIw<|AIu<|q_b<|q_t ?_);exact ⟨(((Int.tmod (w64<|Ac * Ac) a3),A4):(Int) × (Int)),⟨AH0 A8,A6⟩,rfl,rfl,trivial⟩
  rintro ⟨Bm,Bn⟩ Bo Bp ⟨A9,Ba⟩;subst A9;refine AIf<|AHy<|AWz rfl rfl AHz (AH7 ?_);exact ⟨_,(AH0 Aw).symm,Ba,rfl,rfl,rfl,trivial⟩
 ·refine AIq<|AIr<|AIr<|AJt<|q_t<|AH1<|AHy<|AH7<|AIc ?_;obtain rfl:=AH0<|Ar _ (AH0<|AJc Ad Ae).symm;exact ⟨_,AId,Aa.x,rfl⟩
def AN8 (fuel:Nat) (a1 a2:Int):Option Int:=
 (AO3 fuel a1 (w64<|Int.tdiv (w64<|a2 - 1) 2) a2).bind λx3=>if x3=0 then some 0 else if x3=1 then some 1 else some<|-1
theorem AZl {r:Int} (hp:AN8 fuel a1 a2=some r):AI7 Tryz.prog 26 #[(.int .i64 a1),(.int .i64 a2)] h (λx h'=>Ext h h'/\x= .int .i64 r):=by
 unfold AN8 at hp;refine cwf (l:=[_,_]) Tryz.func26 rfl rfl (AH1<|AH7<|AH3<|AH1<|AHy<|AHy<|AMy rfl rfl (AWz rfl rfl AHz (AHy ?_)));obtain ⟨x3,Ah,Af⟩:=AH2 hp;refine ALx (Kst.k0 h) (Aaq Ah) λh7 E6 Aa=>AH5<|AH6<|AH1<|AKd rfl rfl (AH7<|⟨_,rfl,λAb=>?_,λAb=>?_⟩)
 ·refine AH1<|AH7<|AIc<|AKa<|AIt ?_;obtain rfl:=AH0<|AJb Af Ab;exact ⟨_,AId,Aa.x,rfl⟩
 ·refine AH1<|AKd rfl rfl (AH7 ?_);have Ag:=AJc Af Ab;refine ⟨_,rfl,λAc=>?_,λAc=>?_⟩
  ·refine AH1<|AH7<|AIc<|AKa<|AIt ?_;obtain rfl:=AH0<|AJb Ag Ac;exact ⟨_,AId,Aa.x,rfl⟩
  ·refine AIa<|q_b<|q_t<|AH1<|AH7<|AIc ?_;obtain rfl:=AH0<|AJc Ag Ac;exact ⟨_,AId,Aa.x,rfl⟩
theorem A6j {a m:Int} (hm:0 < m) (Aa:m<=2147483647):AJl fuel a m=some (a % m):=Ay0 hm Aa
theorem Az6 {p b:Int} (k:Nat):b ^ k=(b * b) ^ (k / 2) * b ^ (k % 2):=by
 have e:b * b=b ^ 2:=by rw [Int.pow_succ,Int.pow_succ,Int.pow_zero,Int.one_mul]
 rw [e,<- Int.pow_mul,<- Int.pow_add];congr 1;omega
theorem Az7 {a:Int} (hp:2<=p) (Af:p<=9973) (hk:k<=10000) (hf:100000 < fuel):AO3 fuel a (k:Int) p=some (a ^ k % p):=by
 apply ok_eq;unfold AO3;refine AJ4 AHx ?_;rw [A6j AHx AHx];simp only [Option.bind_some];refine AH9 (Aaa (λs:Int × Int × Int=> ∃ (b c:Int) (j:Nat),s=(b,(j:Int),c)/\(0<=b/\b < p)/\(0<=c/\c < p)/\j<=10000/\Eqm p (c * b ^ j) (a ^ k)) (λs=>s.2.1.toNat) (Q:=λe:Int=>e=a ^ k % p) (λs hI=>?_) ⟨a % p,Int.tmod 1 p,k,rfl,AXp AHx a,?_,hk,?_⟩ (by show (k:Int).toNat < fuel;omega)) λe he=>AH4 he
 ·obtain ⟨b,c,j,rfl,hb,hc,hj,hI⟩:=hI;unfold ASa;dsimp only;have hbb:0<=b * b/\b * b<=9973 * 9973:=⟨Int.mul_nonneg hb.1 hb.1,Int.mul_le_mul AHx AHx hb.1 AHz⟩;have hcb:0<=c * b/\c * b<=9973 * 9973:=⟨Int.mul_nonneg hc.1 hb.1,Int.mul_le_mul AHx AHx hb.1 AHz⟩;have Ad:Int.tmod (j:Int) 2=((j % 2:Nat):Int):=by rw [Int.tmod_eq_emod_of_nonneg AHx];omega
  have Ae:w64 (Int.tdiv (j:Int) 2)=((j / 2:Nat):Int):=by rw [Int.tdiv_eq_ediv_of_nonneg AHx,wk AHx];omega
  refine AI4 (λh=>?_) λh=>AH4 ?_
  ·rw [Ad,Ae,AKn (x:=c * b) AHx AHx,AKn (x:=b * b) AHx AHx,Int.tmod_eq_emod_of_nonneg (a:=c * b) AHx,Int.tmod_eq_emod_of_nonneg (a:=b * b) AHx];have hh:=Az6 (p:=p) (b:=b) j;refine AH9 (Q:=λr:Int × Int=>r.1=b * b % p/\(0<=r.2/\r.2 < p)/\Eqm p (r.2 * (b * b) ^ (j / 2)) (c * b ^ j)) (AH9 (Q:=λc':Int=>(0<=c'/\c' < p)/\Eqm p (c' * (b * b) ^ (j / 2)) (c * b ^ j)) (AI4 (λh1=>AJ4 AHx<|AH4 ⟨AXp AHx _,?_⟩) λh1=>AH4 ⟨hc,?_⟩) λc' hc'=>AJ4 AHx<|AH4 ⟨rfl,hc'⟩) λr hr=>?_
   ·refine ((Eqm.mod p<|c * b).mul (Eqm.refl _ _)).trans (Eqm.of_eq ?_);rw [hh,show j % 2=1 by omega,Int.pow_succ,Int.pow_zero,Int.one_mul];grind
   ·refine Eqm.of_eq ?_;rw [hh,show j % 2=0 by omega,Int.pow_zero,Int.mul_one]
   ·obtain ⟨b',c'⟩:=r;obtain ⟨h1,h2,h3⟩:=hr;dsimp only at h1 h2 h3 ⊢;refine AH4 ⟨⟨b',c',j / 2,rfl,h1 ▸ AXp AHx _,h2,AHx,?_⟩,?_⟩
    ·refine Eqm.trans ((Eqm.refl p c').mul ?_)<|h3.trans hI;rw [h1]
     have:∀ m:Nat,Eqm p ((b * b % p) ^ m) ((b * b) ^ m):=λm=>by
      induction m with
      | zero=>exact Eqm.of_eq (by rw [Int.pow_zero,Int.pow_zero])
      | succ m ih=>rw [Int.pow_succ,Int.pow_succ];exact ih.mul<|Eqm.mod _ _
     exact this _
    ·show (((j / 2:Nat):Int)).toNat < ((j:Int)).toNat;omega
  ·obtain rfl:j=0:=by omega
   rw [Int.pow_zero,Int.mul_one] at hI;rw [<- hI,Int.emod_eq_of_lt hc.1 hc.2]
 ·rw [Int.tmod_eq_emod_of_nonneg AHz];exact AXp AHx _
 ·rw [Int.tmod_eq_emod_of_nonneg AHz]
  have:∀ m:Nat,Eqm p ((a % p) ^ m) (a ^ m):=λm=>by
   induction m with
   | zero=>exact Eqm.of_eq (by rw [Int.pow_zero,Int.pow_zero])
   | succ m ih=>rw [Int.pow_succ,Int.pow_succ];exact ih.mul<|Eqm.mod _ _
  refine ((Eqm.mod p 1).mul (this k)).trans (Eqm.of_eq<|Int.one_mul _)
theorem Asa {a:Int} (hp:OPr p) (Aa:p<=9973) (hf:100000 < fuel):AN8 fuel a p=some (lg p a):=by
 have h3:=hp.three;have h2:=hp.2;unfold AN8
 have e:w64 (Int.tdiv (w64<|p - 1) 2)=(((p - 1) / 2).toNat:Int):=by
  rw [AKn (x:=p - 1) AHx AHx,Int.tdiv_eq_ediv_of_nonneg AHx,wk AHx];omega
 rw [e,Az7 AHx Aa AHx hf];simp only [Option.bind_some];unfold lg;split
 ·rfl
 ·split <;> rfl
theorem Auf {s:Int} (h:s=1∨s= -1):w64 (0 - s)= -s/\(-s=1∨ -s= -1):=by rcases h with rfl | rfl <;> decide
theorem Az8 {a n T:Int} (hT:Akr T 1 a n) (ha:0<=a) (Am:a<=2147483647) (Ao:n<=2147483647) (hf:2147483648 < fuel):AVq fuel a n=some T:=by
 apply ok_eq;unfold AVq;have Az:=Apo hT;refine AH9 (Q:=λe:Int × Int=>T=if e.1=1 then e.2 else 0) (Aaa (λs:Int × Int × Int=>Akr T s.2.2 s.1 s.2.1/\0<=s.1/\s.1<=2147483647/\s.2.1<=2147483647/\(s.2.2=1∨s.2.2= -1)) (λs=>s.1.toNat) (λs hI=>?_) ⟨hT,ha,Am,Ao,.inl rfl⟩ (by show a.toNat < fuel;omega)) λe he=>?_
 ·obtain ⟨a,n,s⟩:=s;obtain ⟨h1,h2,h3,h4,h5⟩:=hI;have hn:=Apo h1;unfold AXn;dsimp only at h1 h2 h3 h4 h5 hn ⊢;refine AI4 (λh0=>?_) λh0=>AH4 ?_
  ·refine AH9 (Q:=λe:Int × Int=>Akr T e.2 e.1 n/\0 < e.1/\e.1<=a/\e.1 % 2=1/\(e.2=1∨e.2= -1)) (Aaa (λs:Int × Int=>Akr T s.2 s.1 n/\0 < s.1/\s.1<=a/\(s.2=1∨s.2= -1)) (λs=>s.1.toNat) (λs hI=>?_) ⟨h1,AHx,Int.le_refl _,h5⟩ (by show a.toNat < fuel;omega)) λe he=>?_
   ·obtain ⟨b,t⟩:=s;obtain ⟨g1,g2,g3,g4⟩:=hI;dsimp only at g1 g2 g3 g4;unfold AXm;have Au:Int.tmod b 2=b % 2:=Int.tmod_eq_emod_of_nonneg AHx;have Av:Int.tmod n 8=n % 8:=Int.tmod_eq_emod_of_nonneg AHx;have Aw:w64 (Int.tdiv b 2)=b / 2:=by rw [Int.tdiv_eq_ediv_of_nonneg AHx,wk AHx]
    obtain ⟨hw,hpm⟩:=Auf g4;rw [Au,Av,Aw,hw];refine AI4 (λq1=>?_) λq1=>AH4 ⟨g1,g2,g3,by dsimp only;omega,g4⟩;have hh:=Avq g1 q1;refine AI4 (λq2=>AH4 ?_) λq2=>AI4 (λq3=>AH4 ?_) λq3=>AH4 ?_
    ·rw [if_pos<|.inl q2] at hh;exact ⟨⟨hh,by dsimp only;omega,by dsimp only;omega,hpm⟩,by dsimp only;omega⟩
    ·rw [if_pos<|.inr q3] at hh;exact ⟨⟨hh,by dsimp only;omega,by dsimp only;omega,hpm⟩,by dsimp only;omega⟩
    ·rw [if_neg AHx] at hh;exact ⟨⟨hh,by dsimp only;omega,by dsimp only;omega,g4⟩,by dsimp only;omega⟩
   ·obtain ⟨b,t⟩:=e;obtain ⟨g1,g2,g3,g4,g5⟩:=he;dsimp only at g1 g2 g3 g4 g5 ⊢;have Ax:Int.tmod b 4=b % 4:=Int.tmod_eq_emod_of_nonneg AHx;have Ay:Int.tmod n 4=n % 4:=Int.tmod_eq_emod_of_nonneg AHx;have hnb:Int.tmod n b=n % b:=Int.tmod_eq_emod_of_nonneg AHx;obtain ⟨hw,hpm⟩:=Auf g5;rw [Ax,Ay,hnb,hw];have hs:=Avr g1 g2 g4;refine AH9 (Q:=λe=>e=if b % 4=3/\n % 4=3 then -t else t) (AI4 (λq1=>AI4 (λq2=>AH4<|by rw [if_pos ⟨q1,q2⟩]) λq2=>AH4<|by rw [if_neg λhh=>q2 hh.2]) λq1=>AH4<|by rw [if_neg λhh=>q1 hh.1]) λe he=>?_;rw [<- he] at hs;have hr:=Int.emod_nonneg n (show b≠0 by omega);have A3:=Int.emod_lt_of_pos n g2;refine AJ4 AHx<|AH4 ⟨⟨hs,hr,by dsimp only;omega,by dsimp only;omega,?_⟩,by dsimp only;omega⟩;dsimp only;rw [he];split
    ·exact hpm
    ·exact g5
  ·have h0:a=0:=by omega
   subst h0;exact Ayy h1
 ·obtain ⟨n,s⟩:=e;dsimp only at he ⊢;refine AI4 (λh=>AH4 ?_) λh=>AH4 ?_
  ·rw [he,if_neg h]
  ·rw [he,if_pos AHx]
theorem A6k {a:Int} (hp:OPr p) (Aa:p<=2147483647) (ha: -2147483647<=a) (Ab:a<=2147483647) (hf:2147483648 < fuel):AP7 fuel a p=some (lg p a,0):=by
 have h3:=hp.three;have h2:=hp.2;unfold AP7;rw [if_neg AHx,if_neg AHx,if_neg AHx,if_neg AHx];simp only [Option.bind_some];rw [if_neg (show ¬ p=0 by omega),if_neg<|show ¬ p < 0 by omega];simp only [Option.bind_some]
 have hit:iter (λs:Int × Int=>ASl fuel a s.1 s.2) fuel (p,1)=some (Sum.inr (p,1)):=by
  apply ok_eq
  refine AJg (λi s=>s=(p,1)/\i=0) 0 ⟨rfl,rfl⟩ AHx λi s hi hI=>?_
  obtain ⟨rfl,rfl⟩:=hI
  unfold ASl
  rw [Int.tmod_eq_emod_of_nonneg (a:=p) AHx]
  exact AI4 (λh=>by have h:p % 2=0:=h;omega) λh=>AH4 rfl
 rw [hit];simp only [Option.bind_some]
 have hres:ASd fuel a p=some (a % p):=by
  unfold ASd
  rw [if_pos AHx,if_pos AHx]
  rw [Ah9 AHx AHx]
 rw [hres];simp only [Option.bind_some];have hr:=Int.emod_nonneg a (show p≠0 by omega);have Ae:=Int.emod_lt_of_pos a (show 0 < p by omega);rw [Az8 (Arw hp) hr AHx Aa hf,A46 hp];simp only [Option.bind_some];congr 2;unfold lg;split
 ·decide
 ·split <;> decide
def cS:List AMi->Int
 | []=>1
 | c :: l=>c.2.2.1 * cS l
theorem Asb {a b:Int} (ha:a=1∨a= -1) (hb:b=1∨b= -1):(a * b=1∨a * b= -1)/\w64 (a * b)=a * b:=by
 rcases ha with rfl | rfl <;> rcases hb with rfl | rfl <;> decide
theorem Aqm {p:Int} (hp:OPr p) (f:Nat->Int):∀ n,lg p (ANq f n)=ANq (λi=>lg p<|f i) n
 | 0=>by
   have h3:=hp.three
   have:(1:Int) % p=1:=Int.emod_eq_of_lt AHz AHx
   simp [ANq,lg,Int.one_pow,this]
 | n + 1=>by simp only [ANq,Akq hp,Aqm hp f n]
end Go.Proofs.YtegoafpaljeobaaGreatDoor
namespace Go.QF
theorem Adg (f:Nat->Int) (a b:Nat):psum f (a + b)=psum f a + psum (λi=>f<|a + i) b:=by
 induction b with
 | zero=>simp [psum]
 | succ b ih=>rw [<- Nat.add_assoc];simp only [psum];rw [ih];omega
end Go.QF
namespace Go.Proofs.YtegoafpaljeobaaGreatDoor
def Aeo (L:List AJ0):Prop:= ∀ b∈L,b.2.1=1∨b.2.1=2
theorem ASe (c:AJ0) (L:List AJ0):AXr (c :: L)=c.2.1.toNat + AXr L:=rfl
theorem Acg (p:Int) (c:AJ0) (L:List AJ0) (r:Nat) (F:AIe):Aiw p (c :: L) r F=if c.2.1=2 then Aiw p L (r + 2) (Av6 F r (p ^ c.1.toNat * c.2.2.1) (p ^ c.1.toNat * c.2.2.2.1)<|p ^ c.1.toNat * c.2.2.2.2) else Aiw p L (r + 1) (Anv F r r<|p ^ c.1.toNat * c.2.2.1):=rfl
theorem AUn (F:AIe) (r:Nat) (a b c:Int) (i j:Nat):Av6 F r a b c i j=if i=r/\j=r then a else if i=r/\j=r + 1 then b else if i=r + 1/\j=r then b else if i=r + 1/\j=r + 1 then c else F i j:=by
 unfold Av6;rw [AVp,AVp,AVp,AVp];grind
abbrev bm (L:List AJ0):AIe:=Aiw 2 L 0 λ_ _=>0
structure DS (n K:Nat) (H T G:AIe) (L:List AJ0) (k E:Nat):Prop where
 rt:AY4 n (2 ^ K) T
 rg:AY4 n (2 ^ K) G
 e:Eli n K 2 H T G
 z:∀ i j,i < k->k<=j->j < n->G i j=0
 w:∀ i j,i < k->j < k->G i j=bm L i j
 fl:∀ i j,k<=i->i < n->k<=j->j < n->(2:Int) ^ E ∣ G i j
section
variable {n K k E:Nat} {H T G:AIe} {L:List AJ0}
end
def dB (b:AJ0):Int:=if b.2.1=2 then b.2.2.1 * b.2.2.2.2 - b.2.2.2.1 * b.2.2.2.1 else b.2.2.1
theorem Aaj {p:Int} {i j:Nat}:∀ {L:List AJ0} {r:Nat} {F:AIe},(i < r∨j < r)->Aiw p L r F i j=F i j
 | [],_,_,_=>rfl
 | c :: L,r,F,h=>by
   rw [Acg]
   split
   ·rw [Aaj AHx,AUn,if_neg AHx,if_neg AHx,if_neg AHx,if_neg AHx]
   ·rw [Aaj AHx,AVp,if_neg AHx]
theorem Adh {p:Int} {s i j:Nat}:∀ {L:List AJ0} {r:Nat} {F G:AIe},(∀ i j,F (s + i) (s + j)=G i j)->Aiw p L (s + r) F (s + i) (s + j)=Aiw p L r G i j
 | [],_,_,_,h=>h i j
 | c :: L,r,F,G,h=>by
   rw [Acg,Acg]
   split
   ·rw [Nat.add_assoc]
    refine Adh λi j=>?_
    rw [AUn,AUn,h];grind
   ·rw [Nat.add_assoc]
    refine Adh λi j=>?_
    rw [AVp,AVp,h];grind
structure Fr (n s:Nat) (D B D1:AIe):Prop where
 hd:∀ i j,i < s->j < s->D i j=B i j
 ur:∀ i j,i < s->D i (s + j)=0
 lo:∀ i j,i < s->D (s + j) i=0
 tl:∀ i j,D (s + i) (s + j)=D1 i j
def Ach:List AJ0->Int->Int
 | [],_=>0
 | b :: l,e=>(if b.1=e then b.2.1 else 0) + Ach l e
def sgE (sg:AJ0->Int):List AJ0->Int->Int
 | [],_=>1
 | b :: l,e=>(if b.1=e then sg b else 1) * sgE sg l e
def odE (od:AJ0->Prop) (L:List AJ0) (e:Int):Prop:= ∃ b∈L,b.1=e/\od b
theorem Ak5 (b:AJ0) (e:Int):∀ L:List AJ0,Ach (L ++ [b]) e=Ach L e + if b.1=e then b.2.1 else 0
 | []=>by show _ + 0=0 + _;omega
 | c :: L=>by show _ + Ach (L ++ [b]) e=_ + Ach L e + _;rw [Ak5 b e L];omega
theorem An6 (sg:AJ0->Int) (b:AJ0) (e:Int):∀ L:List AJ0,sgE sg (L ++ [b]) e=sgE sg L e * if b.1=e then sg b else 1
 | []=>by show _ * 1=1 * _;omega
 | c :: L=>by show _ * sgE sg (L ++ [b]) e=_ * sgE sg L e * _;rw [An6 sg b e L,Int.mul_assoc]
theorem A25 (od:AJ0->Prop) (b:AJ0) (e:Int) (L:List AJ0):odE od (L ++ [b]) e↔odE od L e∨b.1=e/\od b:=by
 unfold odE;simp only [List.mem_append,List.mem_singleton];grind
theorem Amj {e:Int}:∀ {L:List AJ0},(∀ b∈L,b.1≠e)->Ach L e=0
 | [],_=>rfl
 | c :: L,h=>by show (if c.1=e then _ else _) + Ach L e=0;rw [if_neg<|h c AI9,Amj λb hb=>h b<|by simp [hb]];rfl
theorem Ag8 {sg:AJ0->Int} {e:Int}:∀ {L:List AJ0},(∀ b∈L,b.1≠e)->sgE sg L e=1
 | [],_=>rfl
 | c :: L,h=>by show (if c.1=e then _ else _) * sgE sg L e=1;rw [if_neg<|h c AI9,Ag8 λb hb=>h b<|by simp [hb]];rfl
theorem Ag9 {e:Int}:∀ {L:List AJ0},Aeo L->((∃ b∈L,b.1=e)↔0 < Ach L e)/\0<=Ach L e
 | [],_=>⟨⟨λ⟨_,h,_⟩=>(nomatch h),λh=>absurd h<|Int.lt_irrefl 0⟩,Int.le_refl 0⟩
 | c :: L,h=>by
   have h1:=h c AI9
   obtain ⟨h2,h3⟩:=Ag9 (e:=e) (L:=L) λb hb=>h b (by simp [hb])
   show (_↔0 < (if c.1=e then _ else _) + Ach L e)/\0<=(if c.1=e then _ else _) + Ach L e
   split
   ·next hc=>exact ⟨⟨λ_=>by omega,λ_=>⟨c,AI9,hc⟩⟩,AHx⟩
   ·next hc=>rw [Int.zero_add,<- h2];exact ⟨by simp [hc],h3⟩
structure CSp (sg:AJ0->Int) (od:AJ0->Prop) (L:List AJ0) (C:List AMi):Prop where
 asc:C.Pairwise λa b=>a.1 < b.1
 mem:∀ e,(∃ c∈C,c.1=e)↔ ∃ b∈L,b.1=e
 dim:∀ c∈C,c.2.1=Ach L c.1
 sgn:∀ c∈C,c.2.2.1=sgE sg L c.1
 odd:∀ c∈C,(c.2.2.2.1=true↔odE od L c.1)
theorem CSp.nil {sg:AJ0->Int} {od:AJ0->Prop}:CSp sg od [] []:=⟨List.Pairwise.nil,λe=>by simp,λc h=>(nomatch h),λc h=>(nomatch h),λc h=>(nomatch h)⟩
structure CRp (sg:AJ0->Int) (od:AJ0->Prop) (L:List AJ0) (e:Int) (l:List AMi) (c:AMi):Prop where
 asc:(l ++ [c]).Pairwise λa b=>a.1 < b.1
 exp:c.1=e
 mem:∀ x,(∃ c∈l,c.1=x)∨x=e↔(∃ b∈L,b.1=x)∨x=e
 dim:∀ d∈l ++ [c],d.2.1=Ach L d.1
 sgn:∀ d∈l ++ [c],d.2.2.1=sgE sg L d.1
 odd:∀ d∈l ++ [c],(d.2.2.2.1=true↔odE od L d.1)
theorem CSp.old {sg:AJ0->Int} {L:List AJ0} {l:List AMi} {c:AMi} (H:CSp sg od L (l ++ [c])):CRp sg od L c.1 l c:=
 ⟨H.asc,rfl,λx=>by have:=H.mem x;simp only [List.mem_append,List.mem_singleton] at this;grind,H.dim,H.sgn,H.odd⟩
theorem CSp.new {sg:AJ0->Int} {L:List AJ0} {l:List AMi} {e:Int} (H:CSp sg od L l) (h:∀ b∈L,b.1 < e):CRp sg od L e l (e,0,1,false,0):=by
 have h1:∀ b∈L,b.1≠e:=λb hb=>by have:=h b hb;omega
 have h2:∀ d∈l,d.1 < e:=λd hd=>by
  obtain ⟨b,hb,he⟩:=(H.mem d.1).1 ⟨d,hd,rfl⟩
  rw [<- he];exact h b hb
 refine ⟨?_,rfl,λx=>by rw [H.mem],λd hd=>?_,λd hd=>?_,λd hd=>?_⟩
 ·rw [List.pairwise_append];exact ⟨H.asc,AI9,λa ha b hb=>by rw [List.mem_singleton.1 hb];exact h2 a ha⟩
 ·rcases List.mem_append.1 hd with h3 | h3
  ·exact H.dim d h3
  ·rw [List.mem_singleton.1 h3];exact (Amj h1).symm
 ·rcases List.mem_append.1 hd with h3 | h3
  ·exact H.sgn d h3
  ·rw [List.mem_singleton.1 h3];exact (Ag8 h1).symm
 ·rcases List.mem_append.1 hd with h3 | h3
  ·exact H.odd d h3
  ·rw [List.mem_singleton.1 h3];exact ⟨λh=>(nomatch h),λ⟨b,hb,he,_⟩=>absurd he<|h1 b hb⟩
theorem CRp.put {sg:AJ0->Int} {L:List AJ0} {l:List AMi} {c c':AMi} {b:AJ0} (H:CRp sg od L b.1 l c) (h1:c'.1=c.1) (h2:c'.2.1=c.2.1 + b.2.1) (h3:c'.2.2.1=c.2.2.1 * sg b) (h4:c'.2.2.2.1=true↔c.2.2.2.1=true∨od b):CSp sg od (L ++ [b]) (l ++ [c']):=by
 have he:=H.exp;obtain ⟨a1,a2,a3⟩:=List.pairwise_append.1 H.asc;have hl:∀ d∈l,d.1≠b.1:=λd hd=>by have:=a3 d hd c AI9;omega
 refine ⟨?_,λx=>?_,λd hd=>?_,λd hd=>?_,λd hd=>?_⟩
 ·rw [List.pairwise_append];exact ⟨a1,AI9,λa ha d hd=>by rw [List.mem_singleton.1 hd,h1];exact a3 a ha c AI9⟩
 ·have:=H.mem x;simp only [List.mem_append,List.mem_singleton];grind
 ·rcases List.mem_append.1 hd with h | h
  ·rw [Ak5,if_neg λh5=>hl d h h5.symm,H.dim d<|by simp [h]];omega
  ·rw [List.mem_singleton.1 h,h1,he,Ak5,if_pos rfl,h2,H.dim c AI9,he]
 ·rcases List.mem_append.1 hd with h | h
  ·rw [An6,if_neg λh5=>hl d h h5.symm,H.sgn d<|by simp [h]];omega
  ·rw [List.mem_singleton.1 h,h1,he,An6,if_pos rfl,h3,H.sgn c AI9,he]
 ·rw [A25];rcases List.mem_append.1 hd with h | h
  ·rw [H.odd d<|by simp [h]];exact ⟨.inl,λh5=>h5.resolve_right λh6=>hl d h h6.1.symm⟩
  ·rw [List.mem_singleton.1 h,h1,he,h4,H.odd c AI9,he];simp
theorem Aug:∀ {C D:List AMi},(C.Pairwise λa b=>a.1 < b.1)->(D.Pairwise λa b=>a.1 < b.1)->(∀ e,(∃ c∈C,c.1=e)↔ ∃ c∈D,c.1=e)->C.map (·.1)=D.map (·.1)
 | [],[],_,_,_=>rfl
 | [],d :: D,_,_,h=>by obtain ⟨_,h1,_⟩:=(h d.1).2 ⟨d,AI9,rfl⟩;exact nomatch h1
 | c :: C,[],_,_,h=>by obtain ⟨_,h1,_⟩:=(h c.1).1 ⟨c,AI9,rfl⟩;exact nomatch h1
 | c :: C,d :: D,h1,h2,h=>by
   rw [List.pairwise_cons] at h1 h2
   have e1:c.1=d.1:=by
    obtain ⟨x,hx,hxe⟩:=(h c.1).1 ⟨c,AI9,rfl⟩;obtain ⟨y,hy,hye⟩:=(h d.1).2 ⟨d,AI9,rfl⟩
    rcases List.mem_cons.1 hx with rfl | hx
    ·exact hxe.symm
    ·rcases List.mem_cons.1 hy with rfl | hy
     ·exact hye
     ·have:=h2.1 x hx;have:=h1.1 y hy;omega
   rw [List.map_cons,List.map_cons,e1,Aug h1.2 h2.2 λe=>?_];have hh:=h e
   constructor
   ·rintro ⟨x,hx,rfl⟩;obtain ⟨y,hy,hye⟩:=hh.1 ⟨x,by simp [hx],rfl⟩
    rcases List.mem_cons.1 hy with rfl | hy
    ·have:=h1.1 x hx;omega
    ·exact ⟨y,hy,hye⟩
   ·rintro ⟨x,hx,rfl⟩;obtain ⟨y,hy,hye⟩:=hh.2 ⟨x,by simp [hx],rfl⟩
    rcases List.mem_cons.1 hy with rfl | hy
    ·have:=h2.1 x hx;omega
    ·exact ⟨y,hy,hye⟩
theorem Az9 {sg sg':AJ0->Int} {od':AJ0->Prop} {L M:List AJ0} {D:List AMi} (H:CSp sg od L C) (G:CSp sg' od' M D) (hL:Aeo L) (hM:Aeo M) (hd:∀ e,Ach L e=Ach M e):C.length=D.length/\ ∀ (i:Nat) (c d:AMi),C[i]? =some c->D[i]? =some d->c.1=d.1/\c.2.1=d.2.1/\c.2.1=Ach L c.1/\0 < Ach L c.1/\c.2.2.1=sgE sg L c.1/\d.2.2.1=sgE sg' M c.1/\(c.2.2.2.1=true↔odE od L c.1)/\(d.2.2.2.1=true↔odE od' M c.1):=by
 have h:=Aug H.asc G.asc λe=>by rw [H.mem,G.mem,(Ag9 hL).1,(Ag9 hM).1,hd]
 refine ⟨by have:=congrArg List.length h;simpa using this,λi c d hc hd2=>?_⟩
 have h1:c.1=d.1:=by
  have:=congrArg (λl:List Int=>l[i]?) h;simpa [List.getElem?_map,hc,hd2] using this
 have mc:=List.mem_of_getElem? hc;have md:=List.mem_of_getElem? hd2;refine ⟨h1,by rw [H.dim c mc,G.dim d md,h1,hd],H.dim c mc,(Ag9 hL).1.1 ((H.mem c.1).1 ⟨c,mc,rfl⟩),H.sgn c mc,by rw [G.sgn d md,h1],H.odd c mc,by rw [G.odd d md,h1]⟩
abbrev bmp (p:Int) (L:List AJ0):AIe:=Aiw p L 0 λ_ _=>0
theorem Aqn {c:AJ0} {L:List AJ0} (h: ¬ c.2.1=2):Fr (AXr L) 1 (bmp p (c :: L)) (λ_ _=>p ^ c.1.toNat * c.2.2.1) (bmp p L):=by
 have e:bmp p (c :: L)=Aiw p L (1 + 0) (Anv (λ_ _=>0) 0 0<|p ^ c.1.toNat * c.2.2.1):=by unfold bmp;rw [Acg,if_neg h]
 rw [e];refine ⟨λi j hi hj=>?_,λi j hi=>?_,λi j hi=>?_,λi j=>Adh λi j=>?_⟩
 ·rw [Aaj AHx,AVp,if_pos AHx]
 ·rw [Aaj AHx,AVp,if_neg AHx]
 ·rw [Aaj AHx,AVp,if_neg AHx]
 ·rw [AVp,if_neg AHx]
theorem Auh {c:AJ0} {L:List AJ0} (h:c.2.1=2):Fr (AXr L) 2 (bmp p (c :: L)) (Av6 (λ_ _=>0) 0 (p ^ c.1.toNat * c.2.2.1) (p ^ c.1.toNat * c.2.2.2.1)<|p ^ c.1.toNat * c.2.2.2.2) (bmp p L):=by
 have e:bmp p (c :: L)=Aiw p L (2 + 0) (Av6 (λ_ _=>0) 0 (p ^ c.1.toNat * c.2.2.1) (p ^ c.1.toNat * c.2.2.2.1)<|p ^ c.1.toNat * c.2.2.2.2):=by unfold bmp;rw [Acg,if_pos h]
 rw [e];refine ⟨λi j hi hj=>?_,λi j hi=>?_,λi j hi=>?_,λi j=>Adh λi j=>?_⟩
 ·rw [Aaj AHx]
 all_goals (try rw [Aaj AHx]);rw [AUn,if_neg AHx,if_neg AHx,if_neg AHx,if_neg AHx]
def atL {α:Type} (z:α) (f:AJ0->α):List AJ0->Nat->α
 | [],_=>z
 | b :: L,i=>if i < b.2.1.toNat then f b else atL z f L<|i - b.2.1.toNat
def eL (L:List AJ0) (i:Nat):Nat:=atL 0 (λb=>b.1.toNat) L i
def z0 (b:AJ0):AJ0:=(0,b.2)
def iv (b:AJ0):AJ0:=if b.2.1=2 then (0,2,b.2.2.2.2,-b.2.2.2.1,b.2.2.1) else (0,1,1,0,0)
theorem AWi {α:Type} {z:α} {f:AJ0->α} {b:AJ0} {L:List AJ0} (h:i < b.2.1.toNat):atL z f (b :: L) i=f b:=if_pos h
theorem AV5 {α:Type} {z:α} {f:AJ0->α} {b:AJ0} {L:List AJ0} (h:b.2.1.toNat=s):atL z f (b :: L) (s + i)=atL z f L i:=by
 show (if _ then _ else _)=_;rw [if_neg AHx,h,show s + i - s=i by omega]
theorem Ajl {α:Type} {z:α} {f:AJ0->α} {P:α->Prop}:∀ {L:List AJ0} {i:Nat},Aeo L->(∀ b∈L,P<|f b)->i < AXr L->P (atL z f L i)
 | [],_,_,_,h=>absurd h (Nat.not_lt_zero _)
 | b :: L,i,hs,hP,h=>by
   rw [ASe] at h
   rcases Nat.lt_or_ge i b.2.1.toNat with h1 | h1
   ·rw [AWi h1];exact hP b AI9
   ·obtain ⟨j,rfl⟩:∃ j,i=b.2.1.toNat + j:=⟨i - b.2.1.toNat,AHx⟩
    rw [AV5 rfl];exact Ajl (λb hb=>hs b<|by simp [hb]) (λb hb=>hP b<|by simp [hb]) AHx
theorem Asf {p:Int} {Q:List AJ0->Prop} (h0:Q []) (h1:∀ c L,c.2.1=1->Aeo L->Q L->Q (c :: L)) (h2:∀ c L,c.2.1=2->Aeo L->Q L->Q (c :: L)):∀ L,Aeo L->Q L
 | [],_=>h0
 | c :: L,h=>by
   have hL:Aeo L:=λb hb=>h b (by simp [hb]);have ih:=Asf (p:=p) h0 h1 h2 L hL
   rcases h c AI9 with h3 | h3
   ·exact h1 c L h3 hL ih
   ·exact h2 c L h3 hL ih
theorem AVt {n:Nat} (h:i < s + n):i < s∨ ∃ j,i=s + j/\j < n:=by
 rcases Nat.lt_or_ge i s with h1 | h1
 ·exact .inl h1
 ·exact .inr ⟨i - s,AHx,AHx⟩
theorem A6m:∀ L:List AJ0,Aeo L-> ∀ i j,i < AXr L->j < AXr L->bmp p L i j=p ^ eL L i * bmp p (L.map z0) i j:=by
 refine Asf (p:=p) (λi j h=>absurd h<|Nat.not_lt_zero i) (λc L h hL ih i j hi hj=>?_) λc L h hL ih i j hi hj=>?_
 ·have f1:=Aqn (p:=p) (c:=c) (L:=L) AHx;have f2:=Aqn (p:=p) (c:=z0 c) (L:=L.map z0) (show ¬ c.2.1=2 by omega);have hs:c.2.1.toNat=1:=by omega
  rw [ASe,hs] at hi hj;rw [List.map_cons];unfold eL at ih ⊢
  rcases AVt hi with hi | ⟨i,rfl,ki⟩ <;> rcases AVt hj with hj | ⟨j,rfl,kj⟩
  ·rw [f1.hd i j hi hj,f2.hd i j hi hj,AWi AHx];show _=_ * (p ^ 0 * c.2.2.1);rw [Int.pow_zero,Int.one_mul]
  ·rw [f1.ur i j hi,f2.ur i j hi,Int.mul_zero]
  ·rw [f1.lo j i hj,f2.lo j i hj,Int.mul_zero]
  ·rw [f1.tl,f2.tl,AV5 hs];exact ih i j ki kj
 ·have f1:=Auh (p:=p) (c:=c) (L:=L) h;have f2:=Auh (p:=p) (c:=z0 c) (L:=L.map z0) h;have hs:c.2.1.toNat=2:=by omega
  rw [ASe,hs] at hi hj;rw [List.map_cons];unfold eL at ih ⊢
  rcases AVt hi with hi | ⟨i,rfl,ki⟩ <;> rcases AVt hj with hj | ⟨j,rfl,kj⟩
  ·rw [f1.hd i j hi hj,f2.hd i j hi hj,AWi AHx,AUn,AUn];show _=_ * (if _ then p ^ 0 * c.2.2.1 else if _ then p ^ 0 * c.2.2.2.1 else if _ then p ^ 0 * c.2.2.2.1 else if _ then p ^ 0 * c.2.2.2.2 else 0);rw [Int.pow_zero];grind
  ·rw [f1.ur i j hi,f2.ur i j hi,Int.mul_zero]
  ·rw [f1.lo j i hj,f2.lo j i hj,Int.mul_zero]
  ·rw [f1.tl,f2.tl,AV5 hs];exact ih i j ki kj
theorem A0a (L:List AJ0):AXr (L.map z0)=AXr L:=by
 induction L with
 | nil=>rfl
 | cons c L ih=>rw [List.map_cons,ASe,ASe,ih];rfl
theorem An7:∀ L:List AJ0,Aeo L-> ∀ i j,i < AXr L->j < AXr L->(eL L i≠eL L j->bmp p (L.map z0) i j=0/\bmp p (L.map iv) i j=0)/\bmp p (L.map z0) i j=bmp p (L.map z0) j i/\psum (λk=>bmp p (L.map iv) i k * bmp p (L.map z0) k j) (AXr L)=atL 1 dB L i * dl i j:=by
 refine Asf (p:=p) (λi j h=>absurd h<|Nat.not_lt_zero i) (λc L h hL ih i j hi hj=>?_) λc L h hL ih i j hi hj=>?_
 ·have f1:=Aqn (p:=p) (c:=iv c) (L:=L.map iv) (by unfold iv;rw [if_neg AHx];exact (by decide: ¬ (1:Int)=2));have f2:=Aqn (p:=p) (c:=z0 c) (L:=L.map z0) (show ¬ c.2.1=2 by omega);have hs:c.2.1.toNat=1:=by omega
  have hd:dB c=c.2.2.1:=by unfold dB;rw [if_neg AHx]
  have hv:(iv c).2.2.1=1/\(iv c).1=0:=by unfold iv;rw [if_neg AHx];exact ⟨rfl,rfl⟩
  rw [ASe,hs] at hi hj ⊢;rw [List.map_cons,List.map_cons];unfold eL at ih ⊢;rw [Adg]
  rcases AVt hi with hi | ⟨i,rfl,ki⟩ <;> rcases AVt hj with hj | ⟨j,rfl,kj⟩
  ·obtain rfl:i=0:=by omega
   obtain rfl:j=0:=by omega
   refine ⟨λhne=>absurd rfl hne,rfl,?_⟩;rw [AIl (f:=λk=>bmp p (iv c :: L.map iv) 0 (1 + k) * _) (g:=λ_=>0) λk _=>by rw [f1.ur 0 k AHx,Int.zero_mul],AM0,AWi AHx,hd];show 0 + bmp p (iv c :: L.map iv) 0 0 * bmp p (z0 c :: L.map z0) 0 0 + 0=_ * 1;rw [f1.hd 0 0 AHx AHx,f2.hd 0 0 AHx AHx,hv.1,hv.2];show 0 + p ^ 0 * 1 * (p ^ 0 * c.2.2.1) + 0=_;rw [Int.pow_zero];omega
  ·refine ⟨λ_=>⟨f2.ur i j hi,f1.ur i j hi⟩,by rw [f2.ur i j hi,f2.lo i j hi],?_⟩;rw [AIl (g:=λ_=>0) (n:=1) λk hk=>by rw [f2.ur k j hk,Int.mul_zero],AM0,AIl (g:=λ_=>0) λk _=>by rw [f1.ur i k hi,Int.zero_mul],AM0];unfold dl;rw [if_neg AHx];simp
  ·refine ⟨λ_=>⟨f2.lo j i hj,f1.lo j i hj⟩,by rw [f2.lo j i hj,f2.ur j i hj],?_⟩;rw [AIl (g:=λ_=>0) (n:=1) λk hk=>by rw [f1.lo k i hk,Int.zero_mul],AM0,AIl (g:=λ_=>0) λk _=>by rw [f2.lo j k hj,Int.mul_zero],AM0];unfold dl;rw [if_neg AHx];simp
  ·obtain ⟨h1,h2,h3⟩:=ih i j ki kj;rw [AV5 hs,AV5 hs,f2.tl,f1.tl,f2.tl,AV5 hs];refine ⟨h1,h2,?_⟩;rw [AIl (g:=λ_=>0) (n:=1) λk hk=>by rw [f1.lo k i hk,Int.zero_mul],AM0,AIl (g:=λk=>bmp p (L.map iv) i k * bmp p (L.map z0) k j) λk _=>by rw [f1.tl,f2.tl],h3];unfold dl;simp
 ·have hv:iv c=(0,2,c.2.2.2.2,-c.2.2.2.1,c.2.2.1):=by unfold iv;rw [if_pos h]
  have f1:=Auh (p:=p) (c:=iv c) (L:=L.map iv) (by rw [hv]);have f2:=Auh (p:=p) (c:=z0 c) (L:=L.map z0) h;have hs:c.2.1.toNat=2:=by omega
  have hd:dB c=c.2.2.1 * c.2.2.2.2 - c.2.2.2.1 * c.2.2.2.1:=by unfold dB;rw [if_pos h]
  rw [ASe,hs] at hi hj ⊢;rw [List.map_cons,List.map_cons];unfold eL at ih ⊢;rw [Adg];rw [hv] at f1 ⊢
  rcases AVt hi with hi | ⟨i,rfl,ki⟩ <;> rcases AVt hj with hj | ⟨j,rfl,kj⟩
  ·refine ⟨λhne=>absurd (by rw [AWi AHx,AWi AHx]) hne,?_,?_⟩
   ·rw [f2.hd i j hi hj,f2.hd j i hj hi,AUn,AUn];grind
   ·rw [AIl (f:=λk=>bmp p _ i (2 + k) * _) (g:=λ_=>0) λk _=>by rw [f1.ur i k hi,Int.zero_mul],AM0,AWi AHx,hd];show 0 + bmp p _ i 0 * bmp p _ 0 j + bmp p _ i 1 * bmp p _ 1 j + 0=_;rw [f1.hd i 0 hi AHx,f1.hd i 1 hi AHx,f2.hd 0 j AHx hj,f2.hd 1 j AHx hj,AUn,AUn,AUn,AUn];dsimp only [z0];rw [show (0:Int).toNat=0 from rfl,Int.pow_zero];unfold dl;rcases (show i=0∨i=1 by omega) with rfl | rfl <;> rcases (show j=0∨j=1 by omega) with rfl | rfl <;> simp <;> grind
  ·refine ⟨λ_=>⟨f2.ur i j hi,f1.ur i j hi⟩,by rw [f2.ur i j hi,f2.lo i j hi],?_⟩;rw [AIl (g:=λ_=>0) (n:=2) λk hk=>by rw [f2.ur k j hk,Int.mul_zero],AM0,AIl (g:=λ_=>0) λk _=>by rw [f1.ur i k hi,Int.zero_mul],AM0];unfold dl;rw [if_neg AHx];simp
  ·refine ⟨λ_=>⟨f2.lo j i hj,f1.lo j i hj⟩,by rw [f2.lo j i hj,f2.ur j i hj],?_⟩;rw [AIl (g:=λ_=>0) (n:=2) λk hk=>by rw [f1.lo k i hk,Int.zero_mul],AM0,AIl (g:=λ_=>0) λk _=>by rw [f2.lo j k hj,Int.mul_zero],AM0];unfold dl;rw [if_neg AHx];simp
  ·obtain ⟨h1,h2,h3⟩:=ih i j ki kj;rw [AV5 hs,AV5 hs,f2.tl,f1.tl,f2.tl,AV5 hs];refine ⟨h1,h2,?_⟩;rw [AIl (g:=λ_=>0) (n:=2) λk hk=>by rw [f1.lo k i hk,Int.zero_mul],AM0,AIl (g:=λk=>bmp p (L.map iv) i k * bmp p (L.map z0) k j) λk _=>by rw [f1.tl,f2.tl],h3];unfold dl;simp
theorem Aqo:∀ {L:List AJ0},(∀ i,i < L.length->Asc L i)->L.Pairwise λa b=>a.1<=b.1
 | [],_=>List.Pairwise.nil
 | [_],_=>by simp
 | a :: b :: L,h=>by
   have ih:=Aqo (L:=b :: L) λi hi h0 x y hx hy=>h (i + 1) (by simp at hi ⊢;omega) AHx x y (by simpa using hx) (by rw [show i + 1 - 1=i - 1 + 1 by omega];simpa using hy)
   have hab:a.1<=b.1:=h 1 AI9 AHx b a rfl rfl
   refine List.pairwise_cons.2 ⟨λc hc=>?_,ih⟩
   rcases List.mem_cons.1 hc with rfl | hc
   ·exact hab
   ·exact Int.le_trans hab<|(List.pairwise_cons.1 ih).1 c hc
theorem A0b:∀ {L:List AJ0},Aeo L->(L.Pairwise λa b=>a.1<=b.1)-> ∀ i j,i<=j->j < AXr L->eL L i<=eL L j
 | [],_,_,_,_,_,h=>absurd h (Nat.not_lt_zero _)
 | c :: L,hs,hp,i,j,hij,hj=>by
   have hL:Aeo L:=λb hb=>hs b (by simp [hb])
   rw [List.pairwise_cons] at hp
   rw [ASe] at hj
   unfold eL
   rcases AVt hj with h1 | ⟨j,rfl,kj⟩
   ·rw [AWi AHx,AWi h1];exact Nat.le_refl _
   ·rw [AV5 rfl]
    rcases Nat.lt_or_ge i c.2.1.toNat with h2 | h2
    ·rw [AWi h2]
     exact Ajl (P:=λe=>c.1.toNat<=e) hL (λb hb=>by have:=hp.1 b hb;omega) kj
    ·obtain ⟨i,rfl⟩:∃ k,i=c.2.1.toNat + k:=⟨i - c.2.1.toNat,AHx⟩
     rw [AV5 rfl]
     exact A0b hL hp.2 i j AHx kj
theorem A72 {n:Nat} {L:List AJ0} {D:AIe} (hL:Aeo L) (hn:AXr L=n) (ha:L.Pairwise λa b=>a.1<=b.1) (he:∀ b∈L,b.1.toNat < K) (hu:∀ b∈L,¬ p ∣ dB b) (hD:∀ i j,i < n->j < n->Eqm (p ^ K) (D i j) (bmp p L i j)):Jd n K p (eL L) (bmp p<|L.map z0) D:=by
 subst hn;exact ⟨λi j hij hj=>A0b hL ha i j hij hj,λi hi=>Ajl (P:=(· < K)) hL he hi,λi j hi hj=>by rw [<- A6m L hL i j hi hj];exact hD i j hi hj,λi j hi hj h=>((An7 L hL i j hi hj).1 h).1,λi j hi hj=>(An7 L hL i j hi hj).2.1,bmp p<|L.map iv,atL 1 dB L,λi k hi hk h=>((An7 L hL i k hi hk).1 h).2,λi hi=>Ajl (P:=λd=> ¬ p ∣ d) hL hu hi,λi j hi hj=>(An7 L hL i j hi hj).2.2⟩
theorem Aqp {n:Nat} {C S R:AIe} (h1:Car n K p A S B) (h2:Car n K p B R C):Car n K p A (AJv n S R) C:=λi j hi hj=>by
 refine Eqm.trans (Eqm.of_eq ?_)<|(Acd (λ_ _=>Eqm.refl _ _) λk hk=>Acd (λl hl=>h1 k l hk hl) λ_ _=>Eqm.refl _ _).trans (h2 i j hi hj)
 rw [AO0 (λk hk=>Ac9 i k) λk hk=>rfl,AMs]
 refine AO0 (λ_ _=>rfl) λk hk=>?_
 rw [AMs]
 refine AO0 (λ_ _=>rfl) λl hl=>?_
 rw [AMs]
theorem Amk {n:Nat} {d:Int} {S:AIe} (h:Car n K p A S B):Car n K p (λi j=>d * A i j) S λi j=>d * B i j:=λi j hi hj=>by
 refine Eqm.trans (Eqm.of_eq ?_)<|(Eqm.refl _ d).mul (h i j hi hj)
 unfold AJv
 rw [AWc]
 exact AIl λk _=>by rw [show psum (λl=>d * A k l * S l j) n=d * psum (λl=>A k l * S l j) n by rw [AWc];exact AIl λl _=>Int.mul_assoc _ _ _];grind
theorem A0c {n:Nat} (h:AY3 n A T B):Car n K p A T B:=λi j hi hj=>Eqm.of_eq (h i j hi hj).symm
theorem A0d {n:Nat} {H:AIe} (S:Eli n K p H T G) (hp:PrI p) (hK:1<=K): ¬ p ∣ det n T:=λh=>by
 have h1:p ∣ det n T * det n T:=Int.dvd_trans h ⟨det n T,rfl⟩
 have h2:p ∣ 1:=Ajg (S.d.down ⟨p ^ (K - 1),by rw [<- Int.pow_succ',show K - 1 + 1=K by omega]⟩).symm (Int.dvd_refl p) h1
 have:=hp.1
 have:=Int.le_of_dvd AHx h2
 omega
theorem A26 {n:Nat} {H H' T' G':AIe} (hp:PrI p) (hK:1<=K) (S:Eli n K p H T G) (S':Eli n K p H' T' G') (hU:AY3 n H U H') (hd:det n U * det n U=1):∃ R,¬ p ∣ det n R/\Car n K p G R G':=by
 have hu: ¬ p ∣ det n U:=λh=>by
  have:=Int.le_of_dvd AHx (hd ▸ Int.dvd_trans h ⟨det n U,rfl⟩:p ∣ 1);have:=hp.1;omega
 have h1:=Aqp (Aqp (Ap5 S.c)<|Amk (d:=det n T * det n T)<|A0c (K:=K) (p:=p) hU)<|Amk (d:=det n T * det n T) S'.c;refine ⟨_,?_,λi j hi hj=>(h1 i j hi hj).trans (((S.d.mul<|Eqm.refl _ _)).trans (Eqm.of_eq<|Int.one_mul _))⟩;rw [ARo,ARo];exact hp.ndvd_mul (hp.ndvd_mul (Ap4 hp<|A0d S hp hK) hu)<|A0d S' hp hK
theorem Aic (x:Int):∀ {L:List AJ0},Aeo L->(∀ b∈L,0<=b.1)->Ach L x=psum (λi=>if (eL L i:Int)=x then 1 else 0) (AXr L)
 | [],_,_=>rfl
 | c :: L,h,h0=>by
   have hc:=h0 c AI9;have hs:=h c AI9;rw [ASe,Adg];unfold eL;rw [AIl (n:=AXr L) (g:=λi=>if (eL L i:Int)=x then 1 else 0) λi _=>by rw [AV5 rfl];rfl,<- Aic x (λb hb=>h b<|by simp [hb]) λb hb=>h0 b<|by simp [hb]];rw [AIl (n:=c.2.1.toNat) (g:=λi=>if c.1=x then 1 else 0) λi hi=>by rw [AWi hi,show ((c.1.toNat:Nat):Int)=c.1 by omega]];show (if c.1=x then c.2.1 else 0) + _=_;congr 1
   rcases hs with h | h
   ·rw [h];show _=psum _ 1;simp [psum]
   ·rw [h];show _=psum _ 2;simp only [psum];split <;> rfl
theorem Asg {e:Nat->Nat} (x:Nat):∀ n,(∀ i j,i<=j->j < n->e i<=e j)-> ∃ k,k<=n/\(∀ i,i < k->e i < x)/\ ∀ i,k<=i->i < n->x<=e i
 | 0,_=>⟨0,Nat.le_refl 0,λi h=>absurd h<|Nat.not_lt_zero i,λi _ h=>absurd h<|Nat.not_lt_zero i⟩
 | n + 1,h=>by
   obtain ⟨k,h1,h2,h3⟩:=Asg x n λi j hij hj=>h i j hij AHx
   rcases Nat.lt_or_ge (e n) x with h4 | h4
   ·exact ⟨n + 1,Nat.le_refl _,λi hi=>Nat.lt_of_le_of_lt (h i n AHx AHx) h4,λi h5 h6=>by omega⟩
   ·refine ⟨k,AHx,h2,λi h5 h6=>?_⟩
    rcases Nat.lt_or_ge i n with h7 | h7
    ·exact h3 i h5 h7
    ·rw [show i=n by omega];exact h4
theorem A6n {e:Nat->Nat} {n:Nat} (x:Nat) (h:∀ i j,i<=j->j < n->e i<=e j):∃ k m,Cut n e k/\Cut n e (k + m)/\(∀ i,k<=i->i < k + m->e i=x)/\ ∀ i,i < n->e i=x->k<=i/\i < k + m:=by
 obtain ⟨k,h1,h2,h3⟩:=Asg x n h;obtain ⟨l,h4,h5,h6⟩:=Asg (x + 1) n h
 have hkl:k<=l:=by
  rcases Nat.lt_or_ge l k with h7 | h7
  ·have:=h2 l h7;have:=h6 l (Nat.le_refl l) AHx;omega
  ·exact h7
 refine ⟨k,l - k,⟨h1,λr c hr hc hcn=>?_⟩,?_,λi h7 h8=>?_,λi hi he=>⟨?_,?_⟩⟩
 ·have:=h2 r hr;have:=h3 c hc hcn;omega
 ·rw [show k + (l - k)=l by omega];exact ⟨h4,λr c hr hc hcn=>by have:=h5 r hr;have:=h6 c hc hcn;omega⟩
 ·have:=h3 i h7 AHx;have:=h5 i AHx;omega
 ·rcases Nat.lt_or_ge i k with h7 | h7
  ·have:=h2 i h7;omega
  ·exact h7
 ·rcases Nat.lt_or_ge i l with h7 | h7
  ·omega
  ·have:=h6 i h7 hi;omega
def ASb (fuel:Nat) (a3:List AJ0) (a5 Ad Ab:Int):Option ((Int × Int) ⊕ (Bool ⊕ Int)):=
 if Ab < (a3.length:Int) then (gI a3 Ab).bind λAa=>((if 8<=Ab then some (.inl false) else (AM9 fuel Aa.1 Aa.2.1 Aa.2.2.1 Aa.2.2.2.1 Aa.2.2.2.2 a5).bind λAf=>if (!Af)=true then some (.inl false) else if 0 < Ab then (gI a3<|w64<|Ab - 1).bind λAg=>if Aa.1 < Ag.1 then some (.inl false) else some (.inr ()) else some<|.inr ()):Option (Bool ⊕ Unit)).bind (λex=>match ex with | .inl Ah=>(some<|.inr<|.inl Ah) | .inr _=>some<|.inl (w64<|Ad + Aa.2.1,w64<|Ab + 1)) else some<|.inr<|.inr Ad
def AO4 (fuel:Nat) (a3:List AJ0) (a5:Int):Option Bool:=
 (iter (λs=>ASb fuel a3 a5 s.1 s.2) fuel (0,0)).bind (λex=>match ex with | .inl Ad=>(some Ad) | .inr Aa=>if 1<=Aa then some (decide (Aa<=8)) else some false)
theorem Aar {Ap:Value} {a3:(List AJ0)} {a5:Int} {r:Bool} (H2:SlC AV9 h Ap a3) (hp:AO4 fuel a3 a5=some r):AI7 Tryz.prog 25 #[Ap,(.int .i64 a5)] h (λx h'=>Ext h h'/\x= .bool r):=by
 unfold AO4 at hp;refine cwf (l:=[_,_]) Tryz.func25 rfl rfl (AH1<|AJd<|AH7<|AH3<|AH1<|AHy<|AJ8 AXv rfl H2 (AHy<|AH5<|AH6 ?_));have K0:=Kst.k0 h;refine APb 8796093021424 hp (λx=>[(5,(.int .i64 x.1)),(10,(.int .i64 x.2))]) (λx=>K0.L) K0 ⟨rfl,rfl,trivial⟩ ?_;rintro ⟨A7,Av⟩ Bn h9 y8 Ac Ak Ad;unfold ASb at Ak;refine AH1<|AI3 rfl rfl (AH5<|AH3<|⟨_,rfl,λAm=>?_,λAm=>?_⟩)
 ·refine AIa<|q_t<|AH3<|AH6<|AH1<|AHy ?_;obtain ⟨Aa,A8,A9⟩:=AH2<|AJb Ak Am;refine AQi (c:=AV9) AXv rfl H2 rfl A8 λBq Br Bt Ba Bb=>?_;obtain rfl:=Ba;refine AW5 (c:=AV9) ATa rfl rfl (λj u hu=>(AIj (Bb j u hu) Ac.x)) (ALm Ac [(.int .i64 0),(.int .i64 0),(.int .i64 0),(.int .i64 0),(.int .i64 0)] AYx λBu Bv Bw Aw=>AIw<|AKo [(.int .i64 Aa.1),(.int .i64 Aa.2.1),(.int .i64 Aa.2.2.1),(.int .i64 Aa.2.2.2.1),(.int .i64 Aa.2.2.2.2)] ATa rfl rfl rfl rfl (by simp [isOne]) (Aw.b p0) λBx Bc Be=>AH5 ?_);have Ae:=Aw.sb p0 Be Bc rfl;obtain ⟨Bf,Ax,Af⟩:=AH2 A9;refine ARb 274877874192 (λx:Unit=>[]) (λx h'=>(Sum.inr <| ())=Bf/\Kst h h' (Ae.L)) ?_ ?_
  ·refine AH3<|AMw<|AHy<|AUr rfl rfl (AHy ?_);by_cases Ag:8<=Av
   ·rw [decide_eq_true Ag];refine AUi 17 true<|AIm rfl (AHy<|ANe 23 true<|ARm 26 AIb rfl (ARm 26 AIb rfl (ARm 26 AIb rfl (ARm 26 AIb rfl (ARm 26 AIb rfl (ARm 26 AIb rfl (ARm 26 AIb rfl (ARm 26 AIb rfl (ARm 26 AIb rfl (AW0 23 true<|AIm rfl (AH5<|AI2 rfl (AH1<|AH7 ?_))))))))))));obtain rfl:=AH0<|ifT Ax Ag;refine AIc<|AIt<|AKa<|AIt<|AIt<|AKa<|AIt ?_;obtain rfl:=AH0<|Ad _ (AH0 Af).symm;exact ⟨_,AId,Ae.x,rfl⟩
   ·rw [decide_eq_false Ag];refine AIs 17 false<|ATy [(.int .i64 Aa.1),(.int .i64 Aa.2.1),(.int .i64 Aa.2.2.1),(.int .i64 Aa.2.2.2.1),(.int .i64 Aa.2.2.2.2)] ATa rfl rfl (Ae.b p0).agg (AIs 17 false<|AHy<|AIs 17 false ?_);obtain ⟨Bg,Bh,Ay⟩:=AH2<|ifF Ax Ag;refine ALx Ae (AYp Bh) λBy Bz Ab=>AIs 17 false<|AMp rfl (AIn rfl (AHy ?_));cases Az:(!Bg)
    ·refine AIs 23 false<|AHy<|AIs 23 false<|APu rfl rfl (AIs 23 false<|AHy ?_);have A3:=AQa Ay Az;by_cases Ah:0 < Av
     ·rw [decide_eq_true Ah];refine AIs 26 true<|AJp APq rfl (AIs 26 true<|AI1 AJq rfl ((Ab.b p0).cell (i:=0) rfl) (AIs 26 true<|AHy<|AIs 26 true<|AHy<|AIs 26 true<|AMy rfl rfl (AIs 26 true ?_)));obtain ⟨B2,Bi,A4⟩:=AH2<|ifT A3 Ah;refine AQi (c:=AV9) AXv rfl H2 rfl Bi λB3 B4 B5 Bj Bl=>?_;obtain rfl:=Bj;refine AIs 26 true<|AJp APq rfl (AIs 26 true<|AI1 AJq rfl (AIj (Bl 0 _ rfl) Ab.x) (AIs 26 true<|AI3 rfl rfl (AIs 23 false<|AIm rfl (AIn rfl (AH5<|⟨_,rfl,λAo=>?_,λAo=>?_⟩)))))
      ·refine AH1<|AH7 ?_;obtain rfl:=AH0<|AJb A4 Ao;refine AIc<|AIt<|AKa<|AIt<|AIt<|AKa<|AIt ?_;obtain rfl:=AH0<|Ad _ (AH0 Af).symm;exact ⟨_,AId,Ab.x,rfl⟩
      ·refine AIa<|q_t ?_;exact ⟨(():Unit),⟨AH0<|AJc A4 Ao,Ab⟩,trivial⟩
     ·rw [decide_eq_false Ah];refine AN1 26 false<|AUi 26 false<|AIs 23 false<|AIn rfl (AIn rfl (AH5<|AI6 rfl (AIa<|q_t ?_)));exact ⟨(():Unit),⟨AH0<|ifF A3 Ah,Ab⟩,trivial⟩
    ·refine ANe 23 true<|ARm 26 AIb rfl (ARm 26 AIb rfl (ARm 26 AIb rfl (ARm 26 AIb rfl (ARm 26 AIb rfl (ARm 26 AIb rfl (ARm 26 AIb rfl (ARm 26 AIb rfl (ARm 26 AIb rfl (AW0 23 true<|AIm rfl (AH5<|AI2 rfl (AH1<|AH7 ?_)))))))))));obtain rfl:=AH0<|ifT Ay Az;refine AIc<|AIt<|AKa<|AIt<|AIt<|AKa<|AIt ?_;obtain rfl:=AH0<|Ad _ (AH0 Af).symm;exact ⟨_,AId,Ab.x,rfl⟩
  rintro ⟨⟩ B6 B7 ⟨Bm,A5⟩;subst Bm;refine AIf<|AHy<|ALt Ai1 AJq (A5.b p0) 1 rfl (AI0 rfl rfl (AIw<|AIu<|q_b<|q_t<|AIf<|AI0 rfl rfl (AHy<|AH5 ?_)));exact ⟨_,(AH0 Af).symm,A5.sel [] AHz,rfl,rfl,trivial⟩
 ·refine AIq<|AIr<|AIr<|AJt<|q_t<|AH1<|AHy<|AUr rfl rfl (AHy ?_);have A6:=Ad _ (AH0<|AJc Ak Am).symm;by_cases Ai:1<=A7
  ·rw [decide_eq_true Ai];refine AIs 45 true<|AHy<|AIs 45 true<|Aho rfl rfl (AIm rfl (AH7<|AIc ?_));obtain rfl:=AH0<|ifT A6 Ai;exact ⟨_,AId,Ac.x,rfl⟩
  ·rw [decide_eq_false Ai];refine AP2 45 false<|AIn rfl (AH7<|AIc ?_);obtain rfl:=AH0<|ifF A6 Ai;exact ⟨_,AId,Ac.x,rfl⟩
noncomputable def AO7 (fuel:Nat) (a1:Int) (a8:List AJ0) (Ab:List AMi) (Af:Int):Option ((List AMi × Int) ⊕ (List AMi)):=
 if Af < (a8.length:Int) then (gI a8 Af).bind λAe=>((if (Ab.length:Int)=0 then if Ab.length<=100000000 then some (Ab ++ [(Ae.1,0,1,false,0)]) else none else (gI Ab<|w64<|(Ab.length:Int) - 1).bind λAi=>if ¬ Ai.1=Ae.1 then if Ab.length<=100000000 then some (Ab ++ [(Ae.1,0,1,false,0)]) else none else some Ab):Option (List AMi)).bind (λ(Ac:(List AMi))=>(gI Ac<|w64<|(Ac.length:Int) - 1).bind λAa=>(gI (sI Ac (w64<|(Ac.length:Int) - 1) (Aa.1,w64<|Aa.2.1 + 1,Aa.2.2.1,Aa.2.2.2.1,Aa.2.2.2.2))<|w64<|(Ac.length:Int) - 1).bind λAd=>(AN8 fuel Ae.2.2.1 a1).bind λAj=>some<|.inl (sI (sI Ac (w64<|(Ac.length:Int) - 1) (Aa.1,w64<|Aa.2.1 + 1,Aa.2.2.1,Aa.2.2.2.1,Aa.2.2.2.2)) (w64<|(Ac.length:Int) - 1) (Ad.1,Ad.2.1,w64<|Ad.2.2.1 * Aj,Ad.2.2.2.1,Ad.2.2.2.2),w64<|Af + 1)) else some<|.inr Ab
noncomputable def AKx (fuel:Nat) (a1:Int) (a4:LiI) (a8:List AJ0):Option ((List AMi) × Bool):=
 (((Ani fuel a1).bind λAc=>if (!Ac)=true then some (.inl ([],false)) else (AO4 fuel a8 a1).bind λAd=>if (!Ad)=true then some (.inl ([],false)) else some<|.inr ()):Option ((List AMi × Bool) ⊕ Unit)).bind (λex=>match ex with | .inl Ae=>(some Ae) | .inr _=>(iter (λs=>AO7 fuel a1 a8 s.1 s.2) fuel ([],0)).bind (λ(Af:(List AMi))=>some (Af,true)))
theorem AXs {Ap:Value} {a4:LiI} {Aq:Value} {a8:(List AJ0)} {r:((List AMi) × Bool)} (H3:ANp (cI .i64) h Ap a4) (H7:SlC AV9 h Aq a8) (hp:AKx fuel a1 a4 a8=some r):AI7 Tryz.prog 9 #[(.agg #[(.int .i64 a1),Ap,Aq])] h (λx h'=>Ext h h'/\ ∃ (x0:Value) (F0:List Nat),x= .tuple #[x0,.bool r.2]/\OwC AVc 60 h' F0 x0 r.1/\Sp h' h.size [F0]):=by
 unfold AKx at hp;refine cwf (l:=[_]) Tryz.func9 rfl rfl (AH1<|AP5 (Kst.k0 h) [(.int .i64 a1),Ap,Aq] λC9 Da Db Au=>AIw<|AH7 ?_);obtain ⟨Bp,Bq,Av⟩:=AH2 hp;refine ARb 1048332 (λx:Unit=>[]) (λx h'=>(Sum.inr <| ())=Bp/\Kst h h' (Au.L)) ?_ ?_
 ·refine AH1<|ALt AWd AIg (Au.b p0) 0 rfl ?_;obtain ⟨Br,Bt,Bb⟩:=AH2 Bq;refine ALx Au (Ayz Bt) λDc Dd Ac=>AMp rfl (AHy ?_);cases Bc:(!Br)
  ·refine AIs 12 false<|AJp AT4 rfl (AIs 12 false<|AI1 AZ1 rfl ((Ac.b p0).cell (i:=2) rfl) (AIs 12 false<|AJp AWd rfl (AIs 12 false<|AI1 AIg rfl ((Ac.b p0).cell (i:=0) rfl) (AIs 12 false ?_))));obtain ⟨De,Bu,Be⟩:=AH2<|AQa Bb Bc;refine ALx Ac (Aar (H7.ext Ac.x) Bu) λDf Dg Bf=>AIs 12 false<|AMp rfl (AIn rfl (AH5<|⟨_,rfl,λAw=>?_,λAw=>?_⟩))
   ·refine AH1<|AIw<|AH7 ?_;obtain rfl:=AH0<|ifT Be Aw;refine AIc<|AIt ?_;have Ax:=Kst.anil AVc 60 Bf;obtain rfl:=AH0 Av;exact ⟨_,AJu,Ax.x,_,_,rfl,(Ax.o p0),Ax.s.sel [0] AHz⟩
   ·refine AIa<|q_t ?_;exact ⟨(():Unit),⟨AH0<|AQa Be Aw,Bf⟩,trivial⟩
  ·refine AN1 12 true<|AW0 12 true<|AIm rfl (AH5<|AI2 rfl (AH1<|AIw<|AH7 ?_));obtain rfl:=AH0<|ifT Bb Bc;refine AIc<|AIt ?_;have Ay:=Kst.anil AVc 60 Ac;obtain rfl:=AH0 Av;exact ⟨_,AJu,Ay.x,_,_,rfl,(Ay.o p0),Ay.s.sel [0] AHz⟩
 rintro ⟨⟩ Dh Di ⟨Bv,Bg⟩;subst Bv;refine AH1<|AH7<|AH3<|AH1<|ALt AT4 AZ1 (Bg.b p0) 2 rfl (AJ8 AXv rfl H7 (AHy<|AH5<|AH6 ?_));have Bh:=Kst.anil AVc 60 Bg;refine AOq 9444732965739282038992 (λx:((List AMi)) × (Value) × LnA × (Int)=>(x.1,x.2.2.2)) (([],(.slice none 0 0),[],0):((List AMi)) × (Value) × LnA × (Int)) Av (λx=>[(4,x.2.1),(23,(.int .i64 x.2.2.2))]) (λx=>Bh.L.set 0<|aO AVc 60 x.2.2.1 x.2.1 x.1) Bh ⟨rfl,rfl,trivial⟩ ?_;rintro ⟨Ah,Bw,Bx,Dj⟩ Dk Dl Do Ad Az By;unfold AO7 at Az;refine AH1<|AI3 rfl rfl (AH5<|AH3<|⟨_,rfl,λA3=>?_,λA3=>?_⟩)
 ·refine AIa<|q_t<|AH3<|AH6<|AH1 ?_;obtain ⟨Aa,Bz,B2⟩:=AH2<|AJb Az A3;refine AQi (c:=AV9) AXv rfl H7 rfl Bz λDp Dq Dr B3 B4=>?_;obtain rfl:=B3;refine AW5 (c:=AV9) ATa rfl rfl (λj u hu=>(AIj (B4 j u hu) Ad.x)) (ALm Ad [(.int .i64 0),(.int .i64 0),(.int .i64 0),(.int .i64 0),(.int .i64 0)] AYx λDs Dt Du Bi=>AKo [(.int .i64 Aa.1),(.int .i64 Aa.2.1),(.int .i64 Aa.2.2.1),(.int .i64 Aa.2.2.2.1),(.int .i64 Aa.2.2.2.2)] ATa rfl rfl rfl rfl (by simp [isOne]) (Bi.b p0) λDv B5 B6=>AH5 ?_);have Ab:=Bi.sb p0 B6 B5 rfl;obtain ⟨B7,Bj,B8⟩:=AH2 B2;refine ARb 281474842492944 (λx:((List AMi)) × (Value) × LnA=>[(4,x.2.1)]) (λx h'=>( x.1)=B7/\Kst h h' (Ab.L.set 1<|aO AVc 60 x.2.2 x.2.1 x.1)) ?_ ?_
  ·refine AH3<|AMw<|AHy<|AJ8 AYf rfl (Ab.o p1).rd (AKd rfl rfl (AHy ?_));by_cases Ai:(Ah.length:Int)=0
   ·rw [decide_eq_true Ai];refine AN1 30 true<|AN1 30 true<|AIm rfl (AH5<|AI2 rfl (AIf<|AHy<|ALt APq AJq (Ab.b p0) 0 rfl (ALe (v:=(.agg #[(.int .i64 Aa.1),(.int .i64 0),(.int .i64 1),(.bool false),(.int .i64 0)])) (λ_=>by kernel_rfl) ?_)));obtain ⟨B9,Ca⟩:=ifN<|ifT Bj Ai;refine ASg AYf Aj3 rfl rfl trivial tt2 (λ_=>rfl) rfl (show (AVc).rep _ (Aa.1,0,1,false,0) [(.int .i64 Aa.1),(.int .i64 0),(.int .i64 1),(.bool false),(.int .i64 0)] from rfl) (Ab.o p1) AHz B9 λDw Cb Cd Dx Ce Cf Cg=>AH7 ?_;exact ⟨(((Ah ++ [(Aa.1,0,1,false,0)]),Cd,Cb):((List AMi)) × (Value) × LnA),⟨AH0 Ca,(Ab.uo p1 Cf Ce Cg)⟩,rfl,trivial⟩
   ·rw [decide_eq_false Ai];refine AIs 30 false<|AHy<|AIs 30 false<|AHy<|AIs 30 false<|AJ8 AYf rfl (Ab.o p1).rd (AIs 30 false<|AMy rfl rfl (AIs 30 false ?_));obtain ⟨Dy,Bl,Bm⟩:=AH2<|ifF Bj Ai;refine Afn AYf rfl (Ab.o p1) rfl Bl λDz Ch=>AIs 30 false<|AJp A09 rfl (AIs 30 false ?_);obtain ⟨D0,Ci,Cj⟩:=(Ab.o p1).cells Ch Bl;obtain rfl:=Ci;refine AI1 AJq rfl (Cj 0 _ rfl) (AIs 30 false<|AJp APq rfl (AIs 30 false<|AI1 AJq rfl ((Ab.b p0).cell (i:=0) rfl) (AIs 30 false<|AK0 rfl rfl (AIn rfl (AH5<|⟨_,rfl,λA4=>?_,λA4=>?_⟩)))))
    ·refine AIf<|AHy<|ALt APq AJq (Ab.b p0) 0 rfl (ALe (v:=(.agg #[(.int .i64 Aa.1),(.int .i64 0),(.int .i64 1),(.bool false),(.int .i64 0)])) (λ_=>by kernel_rfl) ?_);obtain ⟨Ck,Cm⟩:=ifN<|AJb Bm A4;refine ASg AYf Aj3 rfl rfl trivial tt2 (λ_=>rfl) rfl (show (AVc).rep _ (Aa.1,0,1,false,0) [(.int .i64 Aa.1),(.int .i64 0),(.int .i64 1),(.bool false),(.int .i64 0)] from rfl) (Ab.o p1) AHz Ck λD3 Cn Co D4 Cp Cq Cr=>AH7 ?_;exact ⟨(((Ah ++ [(Aa.1,0,1,false,0)]),Co,Cn):((List AMi)) × (Value) × LnA),⟨AH0 Cm,(Ab.uo p1 Cq Cp Cr)⟩,rfl,trivial⟩
    ·refine AIa<|q_t ?_;exact ⟨((Ah,Bw,Bx):((List AMi)) × (Value) × LnA),⟨AH0<|AJc Bm A4,Ab⟩,rfl,trivial⟩
  rintro ⟨D5,D6,D7⟩ D8 D9 ⟨Ct,Ae⟩;subst Ct;refine AH1<|AHy<|AHy<|AJ8 AYf rfl (Ae.o p1).rd (AMy rfl rfl ?_);obtain ⟨Af,A5,Cu⟩:=AH2 B8;refine Afn AYf rfl (Ae.o p1) rfl A5 λEa Aj=>AJd<|AHy<|AJj rfl (AJp Ai2 rfl ?_);obtain ⟨Eb,Cv,Cw⟩:=(Ae.o p1).cells Aj A5;obtain rfl:=Cv;refine AI1 AJq rfl (Cw 1 _ rfl) (AI0 rfl rfl (AJj rfl (AJp Ai2 rfl (Am5 (c:=AVc) (a':=(Af.1,(w64<|Af.2.1 + 1),Af.2.2.1,Af.2.2.2.1,Af.2.2.2.2)) AJq rfl rfl rfl AHz (Ae.o p1) Aj A5 (λ_ q=>by cases q;rfl) λA6 Cx Cy=>AH5<|AKg (λh'=>UpT [] A6 h') AIb ?_))));have Ak:=Ae.uO p1 Cy Cx;have Am:UpT [] A6 A6:=UpT.start all_nil;refine AHy<|AJj rfl (AJp Ai3 rfl ?_);obtain ⟨Ag,Bn,Cz⟩:=AH2 Cu;obtain ⟨Ec,C0,C1⟩:=(Ak.o p1).cells Aj Bn;obtain rfl:=C0;refine AJe AJq rfl Am (λh' hb=>AIj (C1 2 _ rfl) hb.ext) (AJp AZb rfl (AJe AIg rfl Am (λh' hb=>((Ak.b p0).ext hb.ext).cell (i:=2) rfl) (AJp AWd rfl (AJe AIg rfl Am (λh' hb=>((Ak.b p2).ext hb.ext).cell (i:=0) rfl) ?_))));obtain ⟨C3,C4,C5⟩:=AH2 Cz;refine Afo Ak Am (AZl C4) λEd Ee Bo Ef=>APo rfl rfl (AJj rfl (AJp Ai3 rfl (Am5 (c:=AVc) (a':=(Ag.1,Ag.2.1,(w64<|Ag.2.2.1 * C3),Ag.2.2.2.1,Ag.2.2.2.2)) AJq rfl rfl rfl AHz (Bo.o p1) Aj Bn (λ_ q=>by cases q;rfl) λEg C6 C7=>AIu<|q_b<|q_t<|AIf<|AI0 rfl rfl (AHy<|AH5 ?_))));exact ⟨(_,_,_,_),(AH0 C5).symm,(Bo.uO p1 C7 C6).sel [1,2] AHz,rfl,rfl,trivial⟩
 ·refine AIq<|AIr<|AIr<|AJt<|q_t<|AH1<|AHy<|AIw<|AH7<|AIc ?_;obtain rfl:=AH0<|By _ (AH0<|AJc Az A3).symm;exact ⟨_,AJu,Ad.x,_,_,rfl,(Ad.o p0),Ad.s.sel [0] AHz⟩
noncomputable def AM5 (fuel:Nat) (a1 a2:Int) (a5 a9:LiA) (Aj:Int):Option Bool:=
 (AN7 fuel Aj).bind λAe=>(ALq fuel a1 a2 a5 a9 6).bind λAk=>(AOf fuel Ak Ae).bind λ(Af,Am)=>(AMj fuel a1 a2 a5 a9 6).bind λAo=>(AOf fuel Ao Ae).bind λ(Ag,Ap)=>(AKw fuel Af.1 Af.2.1 Af.2.2).bind λ(Ai,Aq)=>(AKw fuel Ag.1 Ag.2.1 Ag.2.2).bind λ(Ar,Au)=>(ALq fuel a1 a2 a5 a9 6).bind λAv=>(AL4 fuel Av Ae).bind λAh=>(AKx fuel Ah.1 Ah.2.1 Ah.2.2).bind λ(Aw,A3)=>if Am=0 then if Ap=0 then if Aq=true then if Au=true then (ALo fuel Ai Ar).bind λAx=>if Ax=true then (ALo fuel Ai Aw).bind λAy=>if Ay=true then (APg fuel).bind λAz=>some Az else some false else some false else some false else some false else some false else some false
theorem AWj {Ad:Value} {a5:LiA} {Ae:Value} {a9:LiA} {Bb:Int} {r:Bool} (H4:SlC (cI .i8) h Ad a5) (H8:SlC (cI .i8) h Ae a9) (HO:Ad2 h) (hp:AM5 fuel a1 a2 a5 a9 Bb=some r):AI7 Tryz.prog 3 #[(.agg #[(.int .u8 a1),(.int .u8 a2),Ad,Ae]),(.int .u8 Bb)] h (λx h'=>Ext h h'/\x= .bool r):=by
 unfold AM5 at hp;refine cwf (l:=[_,_]) Tryz.func3 rfl rfl (AH1<|AP5 (Kst.k0 h) [(.int .u8 a1),(.int .u8 a2),Ad,Ae] λD6 D7 D8 Bw=>AJd<|AHy ?_);obtain ⟨D9,Bx,By⟩:=AH2 hp;refine ALx Bw (AZh Bx) λEa Eb Ah=>AJd<|ATy [(.int .u8 a1),(.int .u8 a2),Ad,Ae] Ahw rfl rfl (Ah.b p0).agg ?_;obtain ⟨Ec,Bz,B2⟩:=AH2 By;refine AWs Ah (ATn (H4.ext Ah.x) (H8.ext Ah.x) Bz) λEd Ee Ef Eg Eh Ei Ay=>AHy ?_;obtain ⟨⟨Ai,B3⟩,B4,Bc⟩:=AH2 B2;dsimp only at Bc;refine ASt rfl (AXw (Ay.o2 p0).rd (HO.ext Ay.x) B4) λEj Ek B5 B6=>?_;obtain ⟨Az,A3,B7,B8,B9,Ca,rfl,Cb,Cd,Ce⟩:=B6;have Be:=Ay.n B5 [aO2 (cI .i64) 41 2 B7 B8 B9 Az Ai.2.1,aO AV9 52 Ca A3 Ai.2.2] Ce ⟨Cb,Cd,trivial⟩;simp only [List.cons_append,List.nil_append] at Be;refine AHy<|AJs rfl rfl (AJs rfl rfl (ALm Be [(.int .i64 0),(.slice none 0 0),(.slice none 0 0)] Af0 λEl Em En Aj=>AKo [(.int .i64 Ai.1),Az,A3] AS9 rfl rfl rfl rfl (AOh rfl (AOh (Aj.o2 p1).isOne<|AOh (Aj.o p2).isOne Aa2)) (Aj.b p0) λEo Cf Cg=>AJd ?_));have Ak:=Aj.sb p0 Cg Cf rfl;refine ATy [(.int .u8 a1),(.int .u8 a2),Ad,Ae] Ahw rfl rfl (Ak.b p4).agg ?_;obtain ⟨Ep,Ch,Ci⟩:=AH2 Bc;refine AWs Ak (AXq (H4.ext Ak.x) (H8.ext Ak.x) Ch) λEr Es Et Eu Ev Ew A4=>AHy ?_;obtain ⟨⟨Am,Cj⟩,Ck,Bf⟩:=AH2 Ci;dsimp only at Bf;refine ASt rfl (AXw (A4.o2 p0).rd (HO.ext A4.x) Ck) λEy Ez Cm Cn=>?_;obtain ⟨A5,A6,Co,Cp,Cq,Cr,rfl,Ct,Cu,Cv⟩:=Cn;have Bg:=A4.n Cm [aO2 (cI .i64) 41 2 Co Cp Cq A5 Am.2.1,aO AV9 52 Cr A6 Am.2.2] Cv ⟨Ct,Cu,trivial⟩;simp only [List.cons_append,List.nil_append] at Bg;refine AHy<|AJs rfl rfl (AJs rfl rfl (ALm Bg [(.int .i64 0),(.slice none 0 0),(.slice none 0 0)] Af0 λFa Fb Fc Ao=>AKo [(.int .i64 Am.1),A5,A6] AS9 rfl rfl rfl rfl (AOh rfl (AOh (Ao.o2 p1).isOne<|AOh (Ao.o p2).isOne Aa2)) (Ao.b p0) λFd Cw Cx=>AJd ?_));have Af:=Ao.sb p0 Cx Cw rfl;refine ATy [(.int .i64 Ai.1),Az,A3] AS9 rfl rfl (Af.b p4).agg ?_;obtain ⟨⟨Fe,Cy⟩,Cz,Bh⟩:=AH2 Bf;dsimp only at Bh;refine ASt rfl (ASx (Af.o2 p5).rd (Af.o p6).rd (HO.ext Af.x) Cz) λFf Fg C0 C1=>?_;obtain ⟨Fh,Fi,rfl,C3,C4⟩:=C1;refine AHy<|AJs rfl rfl (AJs rfl rfl (AIw<|AJd ?_));have Ag:=Af.no C0 C4 C3;refine ATy [(.int .i64 Am.1),A5,A6] AS9 rfl rfl (Ag.b p1).agg ?_;obtain ⟨⟨Fj,C5⟩,C6,Bi⟩:=AH2 Bh;dsimp only at Bi;refine ASt rfl (ASx (Ag.o2 p2).rd (Ag.o p3).rd (HO.ext Ag.x) C6) λFk Fl C7 C8=>?_;obtain ⟨Fm,Fo,rfl,C9,Da⟩:=C8;refine AHy<|AJs rfl rfl (AJs rfl rfl (AIw<|AJd ?_));have Ap:=Ag.no C7 Da C9;refine ATy [(.int .u8 a1),(.int .u8 a2),Ad,Ae] Ahw rfl rfl (Ap.b p10).agg ?_;obtain ⟨Fp,Db,Dc⟩:=AH2 Bi;refine AWs Ap (ATn (H4.ext Ap.x) (H8.ext Ap.x) Db) λFq Ft Fu Fv Fw Fx Bj=>AHy ?_;obtain ⟨Bl,Dd,De⟩:=AH2 Dc;refine ASt rfl (AYr (Bj.o2 p0).rd Dd) λFy Fz Df Dg=>?_;obtain ⟨Dh,Di,Dj,Dk,Dl,Do,rfl,Dp,Dq,Dr⟩:=Dg;have Aq:=Bj.n Df [aO2 (cI .i64) 41 2 Dj Dk Dl Dh Bl.2.1,aO AV9 52 Do Di Bl.2.2] Dr ⟨Dp,Dq,trivial⟩;simp only [List.cons_append,List.nil_append] at Aq;obtain ⟨⟨F4,F5⟩,Ds,A7⟩:=AH2 De;dsimp only at A7;refine ASt rfl (AXs (Aq.o2 p0).rd (Aq.o p1).rd Ds) λF6 F7 Dt Du=>?_;obtain ⟨F8,F9,rfl,Dv,Dw⟩:=Du;refine AHy<|AJs rfl rfl (AJs rfl rfl (AIw<|AJd<|AHy<|AKd rfl rfl (AHy ?_)));have Aa:=Aq.no Dt Dw Dv;by_cases Ar:B3=0
 ·have Bm:=ifT A7 Ar;rw [decide_eq_true Ar];refine AIs 52 true<|AHy<|AIs 52 true<|AKd rfl rfl (AIm rfl (AHy ?_));by_cases Au:Cj=0
  ·have Bn:=ifT Bm Au;rw [decide_eq_true Au];refine AIs 56 true<|AHy<|AIm rfl (AHy ?_);cases Bo:Cy
   ·refine AW0 59 false<|AIn rfl (AHy<|ANe 62 false<|AIn rfl (AHy<|ANe 67 false<|AIn rfl (AHy<|AW0 72 false<|AIn rfl (AH7<|AIc ?_))));obtain rfl:=AH0<|AQa Bn Bo;exact ⟨_,AId,Aa.x,rfl⟩
   ·refine AIs 59 true<|AHy<|AIm rfl (AHy ?_);have Bp:=ifT Bn Bo;cases Bq:C5
    ·refine ANe 62 false<|AIn rfl (AHy<|ANe 67 false<|AIn rfl (AHy<|AW0 72 false<|AIn rfl (AH7<|AIc ?_)));obtain rfl:=AH0<|AQa Bp Bq;exact ⟨_,AId,Aa.x,rfl⟩
    ·refine AIs 62 true<|AHy<|AIs 62 true<|AHy<|AIs 62 true ?_;obtain ⟨Dx,Dy,Br⟩:=AH2<|ifT Bp Bq;refine ALx Aa (AQ0 (Aa.o p5).rd (Aa.o p4).rd Dy) λGa Gb Av=>AIm rfl (AHy ?_);cases Bt:Dx
     ·refine ANe 67 false<|AIn rfl (AHy<|AW0 72 false<|AIn rfl (AH7<|AIc ?_));obtain rfl:=AH0<|AQa Br Bt;exact ⟨_,AId,Av.x,rfl⟩
     ·refine AIs 67 true<|AHy<|AIs 67 true<|AHy<|AIs 67 true ?_;obtain ⟨Dz,D0,Bu⟩:=AH2<|ifT Br Bt;refine ALx Av (AQ0 (Av.o p5).rd (Av.o p0).rd D0) λGc Gd A8=>AIm rfl (AHy ?_);cases Bv:Dz
      ·refine AW0 72 false<|AIn rfl (AH7<|AIc ?_);obtain rfl:=AH0<|AQa Bu Bv;exact ⟨_,AId,A8.x,rfl⟩
      ·refine AIs 72 true ?_;obtain ⟨Ge,D3,D4⟩:=AH2<|ifT Bu Bv;refine ALx A8 (Abo (HO.ext A8.x) D3) λGf Gg D5=>AIm rfl (AH7<|AIc ?_);obtain rfl:=AH0 D4;exact ⟨_,AId,D5.x,rfl⟩
  ·rw [decide_eq_false Au];refine AW0 56 false<|AIn rfl (AHy<|AW0 59 false<|AIn rfl (AHy<|ANe 62 false<|AIn rfl (AHy<|ANe 67 false<|AIn rfl (AHy<|AW0 72 false<|AIn rfl (AH7<|AIc ?_)))));obtain rfl:=AH0<|ifF Bm Au;exact ⟨_,AId,Aa.x,rfl⟩
 ·rw [decide_eq_false Ar];refine AP2 52 false<|AIn rfl (AHy<|AW0 56 false<|AIn rfl (AHy<|AW0 59 false<|AIn rfl (AHy<|ANe 62 false<|AIn rfl (AHy<|ANe 67 false<|AIn rfl (AHy<|AW0 72 false<|AIn rfl (AH7<|AIc ?_))))));obtain rfl:=AH0<|ifF A7 Ar;exact ⟨_,AId,Aa.x,rfl⟩
def OB (p:Int) (K:Nat) (b:AJ0):Prop:= ∃ (e:Nat) (u:Int),b=((e:Int),1,u,0,0)/\¬ p ∣ u/\e < K/\e<=60/\u.natAbs<=2147483647
abbrev sO (p:Int) (b:AJ0):Int:=lg p b.2.2.1
abbrev oO (b:AJ0):Prop:=False
abbrev okO (i:Nat) (c:AMi):Prop:=(0<=c.2.1/\c.2.1<=(i:Int))/\(0<=c.1/\c.1<=60)/\(c.2.2.1=1∨c.2.2.1= -1)/\c.2.2.2=(false,0)
structure CO (p:Int) (L:List AJ0) (i:Nat) (C:List AMi):Prop where
 last:i=0/\C=[]∨ ∃ l c b,C=l ++ [c]/\0 < i/\L[i - 1]? =some b/\c.1=b.1
 len:C.length<=i
 ok:∀ c∈C,okO i c
 sp:CSp (sO p) oO (L.take i) C
structure CQ (p:Int) (L:List AJ0) (i:Nat) (e:Int) (l:List AMi) (c:AMi):Prop where
 len:l.length<=i
 ok:∀ d∈l ++ [c],okO i d
 sp:CRp (sO p) oO (L.take i) e l c
theorem CO.nil {p:Int} {L:List AJ0}:CO p L 0 []:=⟨.inl ⟨rfl,rfl⟩,Nat.le_refl _,λc hc=>(nomatch hc),CSp.nil⟩
theorem CO.new {p:Int} {L:List AJ0} {i e:Nat} {C:List AMi} (H:CO p L i C) (he:e<=60) (h:∀ b∈L.take i,b.1 < (e:Int)):CQ p L i e C ((e:Int),0,1,false,0):=by
 refine ⟨H.len,λd hd=>?_,H.sp.new h⟩;rcases List.mem_append.1 hd with h1 | h1
 ·exact H.ok d h1
 ·rw [List.mem_singleton.1 h1];exact ⟨⟨Int.le_refl 0,by dsimp only;omega⟩,⟨by dsimp only;omega,by dsimp only;omega⟩,.inl rfl,rfl⟩
theorem CO.old {p:Int} {L:List AJ0} {i:Nat} {l:List AMi} {c:AMi} (H:CO p L i (l ++ [c])):CQ p L i c.1 l c:=⟨by have:=H.len;simp at this;omega,H.ok,H.sp.old⟩
theorem A33 {sg:AJ0->Int} {L:List AJ0} {l:List AMi} {c:AMi} (H:CSp sg od L (l ++ [c])):∀ b∈L,b.1<=c.1:=λb hb=>by
 obtain ⟨d,hd,he⟩:=(H.mem b.1).2 ⟨b,hb,rfl⟩
 rcases List.mem_append.1 hd with h | h
 ·have:=(List.pairwise_append.1 H.asc).2.2 d h c AI9;omega
 ·rw [List.mem_singleton.1 h] at he;omega
theorem CQ.put {p u:Int} {L:List AJ0} {i e:Nat} {l:List AMi} {c:AMi} (H:CQ p L i e l c) (hb:L[i]? =some ((e:Int),1,u,0,0)) (hlg:lg p u=1∨lg p u= -1):CO p L (i + 1) (l ++ [(c.1,c.2.1 + 1,c.2.2.1 * lg p u,c.2.2.2.1,c.2.2.2.2)]):=by
 have htk:L.take (i + 1)=L.take i ++ [((e:Int),1,u,0,0)]:=by rw [List.take_add_one,hb];rfl
 have hc:=H.ok c AI9;refine ⟨.inr ⟨l,_,_,rfl,AHx,by rw [Nat.add_sub_cancel];exact hb,H.sp.exp⟩,by have:=H.len;simp;omega,λd hd=>?_,?_⟩
 ·rcases List.mem_append.1 hd with h | h
  ·have:=H.ok d (by simp [h]);exact ⟨AHx,this.2⟩
  ·rw [List.mem_singleton.1 h];exact ⟨by dsimp only;omega,hc.2.1,(Asb hc.2.2.1 hlg).1,hc.2.2.2⟩
 ·rw [htk];exact H.sp.put (b:=((e:Int),1,u,0,0)) rfl rfl rfl ⟨.inl,λh=>h.resolve_right λh=>h⟩
section
variable {fuel K:Nat} {p:Int} {T:List (List Int)} {L:List AJ0}
theorem Ash {l:List AMi} {c:AMi} (h:l.length<=8):w64 (((l ++ [c]).length:Int) - 1)=(l.length:Int):=by rw [List.length_append,List.length_singleton,wk AHx];omega
theorem Aep (l:List AMi) (c:AMi):(l ++ [c])[l.length]? =some c:=by simp
theorem Aha (l:List AMi) (c d:AMi):sI (l ++ [c]) (l.length:Int) d=l ++ [d]:=by rw [AKf];simp
theorem A6o (hB:∀ b∈L,OB p K b) (ha:∀ i,Asc L i) (hp:OPr p) (hp2:p<=9973) (hl1:1<=L.length) (hl:L.length<=8) (hf:2147483648 < fuel):∃ C,AKw fuel p T L=some (C,true)/\CO p L L.length C:=by
 have h3:=hp.three;have ho:Ah1 p=true:=(Abm ⟨AHx,hp2,hp.1⟩).symm
 have main:Ok (AKw fuel p T L) λr=>r.2=true/\CO p L L.length r.1:=by
  unfold AKw;simp only [AVi,Option.bind_some,ho];rw [if_neg AHz,if_neg AHx,if_neg AHx];simp only [Option.bind_some]
  refine AH9 (Q:=λex=> ∃ C,ex= .inr C/\CO p L L.length C) (AJg (λi s=> ∃ C,s=(C,(i:Int))/\i<=L.length/\CO p L i C) L.length ⟨[],rfl,Nat.zero_le _,CO.nil⟩ AHx λi s hi hI=>?_) λex hex=>?_
  ·obtain ⟨C,rfl,hin,H⟩:=hI;unfold ASw;dsimp only;refine AI4 (λh=>?_) λh=>AH4 ⟨C,rfl,by rwa [show L.length=i by omega]⟩;have hi:i < L.length:=by omega
   have hbi:=List.getElem?_eq_getElem hi;obtain ⟨e,u,hbe,hu,-,he,hub⟩:=hB _<|List.getElem_mem hi;rw [hbe] at hbi;rw [AMv hbi];have htm: ¬ Int.tmod u p=0:=λh=>hu<|Int.dvd_of_tmod_eq_zero h;rw [if_neg AI9,if_neg AHx,if_neg AHx,if_neg AI9,if_neg AI9,if_pos AHx,if_neg htm];simp only [Option.bind_some]
   have hkr:AP7 fuel (Int.tmod u p) p=some (lg p u,0):=by
    have h4:=Int.tmod_lt_of_pos u (show 0 < p by omega);have h5:=Int.lt_tmod_of_pos u (show 0 < p by omega);rw [A6k hp AHx AHx AHx hf];congr 2;refine Agw hp ?_;rw [Int.tmod_def,Int.sub_mul_emod_self_left]
   have hlg:=Ayu hp (a:=u) λh=>hu<|Int.dvd_of_emod_eq_zero h;have hCl:=H.len;obtain ⟨b',hb'⟩:∃ b',0 < i->L[i - 1]? =some b':=⟨L[i - 1],λ_=>List.getElem?_eq_getElem _⟩;have hprev:0 < i->b'.1<=(e:Int):=λh0=>ha i h0 _ _ hbi<|hb' h0
   have key:Ok ((if (i:Int)=0 then (if C.length<=100000000 then (some<| (C ++ [((e:Int),0,1,false,0)])) else none) else ((gI L<|w64<|(i:Int) - 1).bind λx=>(if x.1 < (e:Int) then (if C.length<=100000000 then (some<| (C ++ [((e:Int),0,1,false,0)])) else none) else (some<| C)))):Option (List AMi)) λD=> ∃ l c,D=l ++ [c]/\CQ p L i e l c:=by
    refine AI4 (λh0=>AJ4 AHx<|AH4 ⟨C,_,rfl,H.new he λb hb=>?_⟩) λh0=>?_
    ·rw [show i=0 by omega] at hb;exact nomatch hb
    have h00:0 < i:=by omega
    have h2:=hprev h00;rw [show w64 ((i:Int) - 1)=((i - 1:Nat):Int) by rw [wk AHx];omega,AMv<|hb' h00];obtain ⟨l,d,b2,q3,_,q4,q5⟩:=H.last.resolve_left λh=>by omega
    rw [hb' h00] at q4;cases q4;subst q3
    refine AI4 (λh1=>AJ4 AHx<|AH4 ⟨_,_,rfl,H.new he λb hb=>?_⟩) λh1=>AH4 ⟨l,d,rfl,?_⟩
    ·have:=A33 H.sp b hb;omega
    ·have:=H.old;rwa [show d.1=(e:Int) by omega] at this
   have hpr:Ok ((if (0:Int) < (i:Int) then ((gI L<|w64<|(i:Int) - 1).bind λx=>(if (e:Int) < x.1 then (some<|Sum.inl <| (([],false):List AMi × Bool)) else (some<|Sum.inr <| ()))) else (some<|Sum.inr <| ())):Option ((List AMi × Bool) ⊕ Unit)) λx=>x= .inr ():=by
    refine AI4 (λh0=>?_) λh0=>AH4 rfl;have h2:=hprev AHx;rw [show w64 ((i:Int) - 1)=((i - 1:Nat):Int) by rw [wk AHx];omega,AMv<|hb' AHx];exact AI4 (λh1=>by omega) λh1=>AH4 rfl
   rw [ok_eq hpr];simp only [Option.bind_some];refine AH9 key λD hD=>AJ4 AHx ?_;obtain ⟨l,c,rfl,Q⟩:=hD;have hll:=Q.len;have hc:=Q.ok c AI9;rw [hkr];simp only [Option.bind_some];rw [Ash AHx,AMv<|Aep l c,Aha,AMv<|Aep l _,Aha,AKq AHx,AKn (x:=c.2.1 + 1) AHx AHx,(Asb hc.2.2.1 hlg).2];exact AH4 ⟨hi,_,rfl,hi,Q.put hbi hlg⟩
  ·obtain ⟨C,rfl,hC⟩:=hex;exact AH4 ⟨rfl,hC⟩
 obtain ⟨⟨C,ok⟩,h1,h2,h4⟩:=main;dsimp only at h2;subst h2;exact ⟨C,h1,h4⟩
theorem A0e (hB:∀ b∈L,OB p K b) (ha:∀ i,Asc L i) (Ab:p<=9973) (Ac:2 < p) (Ad:1<=L.length) (hl:L.length<=8) (hf:100 < fuel):AO4 fuel L p=some true:=by
 apply ok_eq;unfold AO4;refine AH9 (Q:=λex=>ex= .inr (L.length:Int)) (AJg (λi s=>s=((i:Int),(i:Int))/\i<=L.length) L.length ⟨rfl,Nat.zero_le _⟩ AHx λi s hi hI=>?_) λex hex=>?_
 ·obtain ⟨rfl,hin⟩:=hI;unfold ASb;dsimp only;refine AI4 (λh=>?_) λh=>AH4 (by rw [show i=L.length by omega]);have hi:i < L.length:=by omega
  have hbi:=List.getElem?_eq_getElem hi;obtain ⟨e,u,hbe,hu,-,he,hub⟩:=hB _<|List.getElem_mem hi;rw [hbe] at hbi;rw [AMv hbi];have htm: ¬ Int.tmod u p=0:=λh=>hu<|Int.dvd_of_tmod_eq_zero h
  have hwf:AM9 fuel (e:Int) 1 u 0 0 p=some true:=by
   unfold AM9
   rw [if_neg AHx,if_neg AHx]
   simp only [Option.bind_some]
   simp only [if_true,decide_true]
   rw [if_pos AHx,if_pos htm]
  rw [if_neg AHx,hwf];simp only [Option.bind_some];rw [if_neg AHz];refine AH9 (Q:=λex=>ex= .inr ()) (AI4 (λh0=>?_) λ_=>AH4 rfl) λex hex=>?_
  ·have hb':=List.getElem?_eq_getElem (show i - 1 < L.length by omega);have h2:=ha i AHx _ _ hbi hb';rw [show w64 ((i:Int) - 1)=((i - 1:Nat):Int) by rw [wk AHx];omega,AMv hb'];exact AI4 (λh1=>by omega) λh1=>AH4 rfl
  ·subst hex;exact AH4 ⟨hi,by rw [AKq AHx],hi⟩
 ·subst hex;dsimp only;rw [if_pos AHx];exact AH4<|decide_eq_true AHx
theorem A6p (hB:∀ b∈L,OB p K b) (ha:∀ i,Asc L i) (hp:OPr p) (hp2:p<=9973) (hl1:1<=L.length) (hl:L.length<=8) (hf:100000 < fuel):∃ C,AKx fuel p T L=some (C,true)/\CO p L L.length C:=by
 have h3:=hp.three;have ho:Ah1 p=true:=(Abm ⟨AHx,hp2,hp.1⟩).symm
 have main:Ok (AKx fuel p T L) λr=>r.2=true/\CO p L L.length r.1:=by
  unfold AKx;simp only [Ani,Option.bind_some,ho];rw [if_neg AHz,A0e hB ha hp2 AHx hl1 hl AHx];simp only [Option.bind_some];rw [if_neg AHz];simp only [Option.bind_some];refine AH9 (Q:=CO p L L.length) (AJg (λi s=> ∃ C,s=(C,(i:Int))/\i<=L.length/\CO p L i C) L.length ⟨[],rfl,Nat.zero_le _,CO.nil⟩ AHx λi s hi hI=>?_) λC hC=>AH4 ⟨rfl,hC⟩;obtain ⟨C,rfl,hin,H⟩:=hI;unfold AO7;dsimp only;refine AI4 (λh=>?_) λh=>AH4 (by rwa [show L.length=i by omega]);have hi:i < L.length:=by omega
  have hbi:=List.getElem?_eq_getElem hi;obtain ⟨e,u,hbe,hu,-,he,hub⟩:=hB _<|List.getElem_mem hi;rw [hbe] at hbi;rw [AMv hbi];have hlg:=Ayu hp (a:=u) λh=>hu<|Int.dvd_of_emod_eq_zero h;have hCl:=H.len
  have key:Ok ((if (C.length:Int)=0 then (if C.length<=100000000 then (some<| (C ++ [((e:Int),0,1,false,0)])) else none) else ((gI C<|w64<|(C.length:Int) - 1).bind λx=>(if ¬ x.1=(e:Int) then (if C.length<=100000000 then (some<| (C ++ [((e:Int),0,1,false,0)])) else none) else (some<| C)))):Option (List AMi)) λD=> ∃ l c,D=l ++ [c]/\CQ p L i e l c:=by
   rcases H.last with ⟨h0,hC0⟩ | ⟨l,d,b2,q3,q0,q4,q5⟩
   ·subst hC0;refine AI4 (λ_=>AJ4 AI9<|AH4 ⟨[],_,rfl,H.new he λb hb=>?_⟩) λh=>absurd rfl h;rw [h0] at hb;exact nomatch hb
   ·have h2:=ha i q0 _ _ hbi q4;dsimp only at h2;subst q3;have hll:l.length<=8:=by simp at hCl;omega
    refine AI4 (λh=>by simp at h;omega) λ_=>?_;rw [Ash hll,AMv<|Aep l d]
    refine AI4 (λh1=>AJ4 AHx<|AH4 ⟨_,_,rfl,H.new he λb hb=>?_⟩) λh1=>AH4 ⟨l,d,rfl,?_⟩
    ·have:=A33 H.sp b hb;omega
    ·have:=H.old;rwa [show d.1=(e:Int) by omega] at this
  refine AH9 key λD hD=>?_;obtain ⟨l,c,rfl,Q⟩:=hD;have hll:=Q.len;have hc:=Q.ok c AI9;rw [Ash AHx,AMv<|Aep l c,Aha,AMv<|Aep l _,Asa hp hp2 hf];simp only [Option.bind_some];rw [Aha,AKq AHx,AKn (x:=c.2.1 + 1) AHx AHx,(Asb hc.2.2.1 hlg).2];exact AH4 ⟨hi,_,rfl,hi,Q.put hbi hlg⟩
 obtain ⟨⟨C,ok⟩,h1,h2,h4⟩:=main;dsimp only at h2;subst h2;exact ⟨C,h1,h4⟩
end
theorem A6q (hl:C.length<=8) (hf:100 < fuel):ALo fuel C C=some true:=by
 apply ok_eq;unfold ALo;rw [if_neg<|not_not_intro rfl];refine AH9 (Q:=λex=>ex= .inr ()) (AJg (λi s=>s=(i:Int)/\i<=C.length) C.length ⟨rfl,Nat.zero_le _⟩ AHx λi s hi hI=>?_) λex hex=>by subst hex;exact AH4 rfl
 obtain ⟨rfl,hin⟩:=hI;unfold AQz;refine AI4 (λh=>?_) λ_=>AH4 rfl;have hi:i < C.length:=by omega
 have hg:=List.getElem?_eq_getElem hi;rw [AMv hg,AMv hg,decide_eq_true rfl,if_neg AHz];exact AH4 ⟨hi,AKq AHx,hi⟩
theorem A73 {L M:List AJ0} {D:List AMi} (H:CO p L L.length C) (G:CO p M M.length D) (hL:Aeo L) (hM:Aeo M) (hd:∀ e,Ach L e=Ach M e) (hs:∀ e,sgE (sO p) L e=sgE (sO p) M e):C=D:=by
 have p1:=H.sp;have p2:=G.sp;rw [List.take_length] at p1 p2;obtain ⟨h1,h2⟩:=Az9 p1 p2 hL hM hd;refine List.ext_getElem? λi=>?_
 rcases Nat.lt_or_ge i C.length with h | h
 ·have g1:=List.getElem?_eq_getElem h;have g2:=List.getElem?_eq_getElem (show i < D.length by omega);obtain ⟨a1,a2,-,-,a3,a4,-,-⟩:=h2 i _ _ g1 g2;have b1:=(H.ok _<|List.getElem_mem h).2.2.2;have b2:=(G.ok _<|List.getElem_mem<|show i < D.length by omega).2.2.2;rw [g1,g2];exact congrArg some<|Prod.ext a1<|Prod.ext a2<|Prod.ext (by rw [a3,a4,hs]) (by rw [b1,b2])
 ·rw [List.getElem?_eq_none h,List.getElem?_eq_none AHx]
def qF (n:Nat) (A:AIe) (x:Nat->Int):Int:=psum (λi=>x i * psum (λj=>A i j * x j) n) n
def PdF (n:Nat) (A:AIe):Prop:= ∀ x:Nat->Int,(∃ k,k < n/\x k≠0)->0 < qF n A x
theorem A0f {a b c:Int} (h:a < b) (e:b=c):a < c:=e ▸ h
theorem sq_pos (h:x≠0):0 < x * x:=by
 rcases Int.lt_or_gt_of_ne h with h | h
 ·have:=Int.mul_pos (show 0 < -x by omega) (show 0 < -x by omega);grind
 ·exact Int.mul_pos h h
theorem A34 {n:Nat} (hs:AS2 n A) (hp:AVl n A):PdF n A:=λx ⟨k,hk,hx⟩=>by
 have h1:=Atq hs hp x hk
 have h2:bil n 0 A x x=qF n A x:=by
  unfold bil qF;refine AIl λi _=>?_;rw [<- ALz];exact AIl λj _=>by rw [AU1];grind
 have h3:=AX6 hs hp x n 0 AHx;have h4:=sq_pos hx;rw [h2] at h1 h3
 rcases Int.lt_or_eq_of_le h3 with h | h
 ·exact h
 ·rw [<- h,Int.mul_zero] at h1;omega
theorem A0g (k:Nat) (B:AIe):ARj (k + 1) B k k=det k B:=by
 show det (k + 1) (AKi B k<|dl k)=_;rw [AZo (k:=k) (m:=1) λi j h1 h2 h3=>by rw [show i=k by omega,AJa,if_pos rfl];unfold dl;rw [if_neg AHx],AJm (G:=B) λi j hi hj=>by rw [AJa,if_neg AHx]]
 have:det 1 (shF k<|AKi B k<|dl k)=1:=by
  rw [show (1:Nat)=0 + 1 from rfl,<- ARp,AU1]
  show AKi B k (dl k) k k=1
  rw [AJa,if_pos rfl];exact if_pos rfl
 rw [this,Int.mul_one]
theorem Ak6 {f:Nat->Int} {n m:Nat} (h:m<=n) (hz:∀ i,m<=i->i < n->f i=0):psum f n=psum f m:=Apa h hz
theorem Asi {m:Nat} (h:PdF m B):AVl m B:=λk=>by
 induction k with
 | zero=>intro _;simp [det]
 | succ k ih=>
   intro hk;have h1:=ih AHx
   let y:Nat->Int:=λi=>if i < k + 1 then ARj (k + 1) B i k else 0
   have hy:y k=det k B:=by show (if k < k + 1 then _ else _)=_;rw [if_pos AHx,A0g]
   have h2:=h y ⟨k,AHx,by rw [hy];omega⟩
   have h3:∀ i,i < k + 1->psum (λj=>B i j * y j) m=det (k + 1) B * dl i k:=λi hi=>by
    rw [Ak6 hk λj h4 _=>by show _ * (if j < k + 1 then _ else _)=0;rw [if_neg AHx,Int.mul_zero],<- Ab3 hi AHx];exact AIl λj hj=>by show _ * (if j < k + 1 then _ else _)=_;rw [if_pos hj]
   have h4:qF m B y=det k B * det (k + 1) B:=by
    unfold qF;rw [Ak6 hk λj h4 _=>by show (if j < k + 1 then _ else _) * _=0;rw [if_neg AHx,Int.zero_mul]];rw [AIl (g:=λi=>det (k + 1) B * y i * dl i k) λi hi=>by rw [h3 i hi];grind,AWf (λi=>det (k + 1) B * y i) AHx,hy];grind
   rw [h4] at h2;exact Int.pos_of_mul_pos_right (a:=det k B) h2 h1
theorem Asj {n:Nat} (h:PdF n A) {s:Nat->Nat} (hs:∀ a,a < k->s a < n) (hi:∀ a b,a < k->b < k->s a=s b->a=b):PdF k λa b=>A (s a) (s b):=λy ⟨a0,ha0,hy⟩=>by
 let x:Nat->Int:=λi=>psum (λa=>y a * dl i (s a)) k
 have sel:∀ g:Nat->Int,psum (λi=>x i * g i) n=psum (λa=>y a * g (s a)) k:=λg=>by
  show psum (λi=>psum (λa=>y a * dl i (s a)) k * g i) n=_;rw [AIl (g:=λi=>psum (λa=>y a * g i * dl i (s a)) k) λi _=>by rw [Af4];exact AIl λa _=>by grind,AZm];exact AIl λa ha=>AWf (λi=>y a * g i)<|hs a ha
 have hx:x (s a0)=y a0:=by
  show psum (λa=>y a * dl (s a0) (s a)) k=_;rw [ASc ha0 λa ha hne=>by unfold dl;rw [if_neg λe=>hne<|hi a a0 ha ha0 e.symm];exact Int.mul_zero _];unfold dl;rw [if_pos rfl,Int.mul_one]
 have h1:=h x ⟨s a0,hs a0 ha0,by rw [hx];exact hy⟩;unfold qF at h1 ⊢;rw [sel] at h1;refine A0f h1<|AIl λa ha=>?_;congr 1;rw [AIl (g:=λj=>x j * A (s a) j) λj _=>Int.mul_comm _ _,sel];exact AIl λb _=>Int.mul_comm _ _
theorem A0h {n:Nat} (H:AY3 n A T B) (hT:∀ x:Nat->Int,(∃ k,k < n/\x k≠0)-> ∃ k,k < n/\psum (λl=>T k l * x l) n≠0) (hA:PdF n A):PdF n B:=λx hx=>by
 have h0:0 < n:=by obtain ⟨k,hk,_⟩:=hx;omega
 have h1:AY3 n A (AJv n T λi _=>x i) λ_ _=>qF n B x:=AZr H λi j hi hj=>by rw [AMs];rfl
 exact A0f (hA _<|hT x hx) (h1 0 0 h0 h0).symm
def aE (i j:Nat) (c:Int):AIe:=λk s=>dl k s + if s=i then c * dl k j else 0
def cgA (i j:Nat) (c:Int) (B:AIe):AIe:=λr s=>B r s + (if r=i then c * B j s else 0) + if s=i then c * (B r j + if r=i then c * B j j else 0) else 0
theorem Aid {n:Nat} {c:Int} (hj:j < n) (hs:s < n) (X:Nat->Int):psum (λk=>X k * aE i j c k s) n=X s + if s=i then c * X j else 0:=by
 unfold aE;rw [AIl (g:=λk=>X k * dl k s + (if s=i then c else 0) * (X k * dl k j)) λk _=>by grind,ATk,AWf X hs,ALz,AWf X hj];grind
theorem A0i {n:Nat} {c:Int} (hj:j < n) (hr:r < n) (hs:s < n):AJv n (AJv n (trF<|aE i j c) B) (aE i j c) r s=cgA i j c B r s:=by
 have h2:∀ k,AJv n (trF<|aE i j c) B r k=B r k + if r=i then c * B j k else 0:=λk=>by
  show psum (λl=>aE i j c l r * B l k) n=_
  rw [AIl (g:=λl=>B l k * aE i j c l r) λl _=>Int.mul_comm _ _]
  exact Aid hj hr λl=>B l k
 show psum (λk=>AJv n (trF<|aE i j c) B r k * aE i j c k s) n=_;rw [Aid hj hs λk=>AJv n (trF<|aE i j c) B r k,h2,h2];rfl
theorem A0j {n:Nat} {c:Int} (hi:i < n) (hj:j < n) (hc:i=j->1 + c≠0) (x:Nat->Int):(∃ k,k < n/\x k≠0)-> ∃ k,k < n/\psum (λl=>aE i j c k l * x l) n≠0:=λ⟨k,hk,hx⟩=>by
 have h1:∀ k,k < n->psum (λl=>aE i j c k l * x l) n=x k + if k=j then c * x i else 0:=λk hk=>by
  unfold aE
  rw [AIl (g:=λl=>x l * dl l k + c * dl k j * (x l * dl l i)) λl _=>by unfold dl;grind,ATk,AWf x hk,ALz,AWf x hi]
  unfold dl;grind
 by_cases h0:x i=0
 ·exact ⟨k,hk,by rw [h1 k hk,h0];simpa using hx⟩
 ·refine ⟨i,hi,?_⟩
  rw [h1 i hi]
  by_cases e:i=j
  ·rw [if_pos e]
   have:=Int.mul_ne_zero (hc e) h0
   intro h;apply this;grind
  ·rw [if_neg e];simpa using h0
theorem A6r {n:Nat} {c d:Int} (hj:j < n) (hs:s < n) (h:c + d + (if i=j then c * d else 0)=0):AJv n (aE i j c) (aE i j d) r s=dl r s:=by
 show psum (λk=>aE i j c r k * aE i j d k s) n=_;rw [Aid hj hs λk=>aE i j c r k];unfold aE;by_cases e:i=j
 ·subst e;rw [if_pos rfl] at h;unfold dl;grind
 ·rw [if_neg e] at h;unfold dl;grind
def sx (i j s:Nat):Nat:=if s=i then j else if s=j then i else s
def sxE (i j:Nat):AIe:=λk s=>dl k<|sx i j s
theorem Aui {n:Nat} (hi:i < n) (hj:j < n) (hs:s < n):sx i j s < n:=by unfold sx;grind
theorem A0k (i j s:Nat):sx i j (sx i j s)=s:=by unfold sx;grind
theorem Ahb {n:Nat} (hi:i < n) (hj:j < n) (hs:s < n) (X:Nat->Int):psum (λk=>X k * sxE i j k s) n=X (sx i j s):=AWf X<|Aui hi hj hs
theorem A27 {n:Nat} (hi:i < n) (hj:j < n) (hr:r < n) (hs:s < n):AJv n (AJv n (trF<|sxE i j) B) (sxE i j) r s=B (sx i j r) (sx i j s):=by
 show psum (λk=>AJv n (trF<|sxE i j) B r k * sxE i j k s) n=_;rw [Ahb hi hj hs λk=>AJv n (trF<|sxE i j) B r k];show psum (λl=>sxE i j l r * B l (sx i j s)) n=_;rw [AIl (g:=λl=>B l (sx i j s) * sxE i j l r) λl _=>Int.mul_comm _ _];exact Ahb hi hj hr λl=>B l<|sx i j s
theorem A28 {n:Nat} (hi:i < n) (hj:j < n) (hs:s < n):AJv n (sxE i j) (sxE i j) r s=dl r s:=by
 show psum (λk=>sxE i j r k * sxE i j k s) n=_;rw [Ahb hi hj hs λk=>sxE i j r k];unfold sxE;rw [A0k]
theorem Aeq {n:Nat} {E F:AIe} (h:∀ r s,r < n->s < n->AJv n E F r s=dl r s):det n E * det n E=1:=by
 have h1:det n E * det n F=1:=by rw [<- ARo,AJm h,Ac5]
 have h2:=Int.le_of_dvd AHz (⟨_,h1.symm⟩:det n E ∣ 1);have h3:=Int.le_of_dvd AHz (⟨-det n F,by rw [Int.neg_mul_neg,h1]⟩: -det n E ∣ 1);rcases (show det n E=1∨det n E= -1∨det n E=0 by omega) with h | h | h
 ·rw [h];rfl
 ·rw [h];rfl
 ·rw [h,Int.zero_mul] at h1;exact absurd h1 AHz
def PmB (n:Nat) (D:Int) (A:AIe):Prop:= ∀ (k:Nat) (s:Nat->Nat),k<=n->(∀ a,a < k->s a < n)->det k (λa b=>A (s a)<|s b)<=D
theorem Aqr {c:Int} (p q:Nat->Int) (r:AIe) (ha:a < k):det k (λx y=>if x=a then p y + c * q y else r x y)=det k (λx y=>if x=a then p y else r x y) + c * det k (λx y=>if x=a then q y else r x y):=by
 have e:∀ g:Nat->Int,det k (λx y=>if x=a then g y else r x y)=det k (AKi r a g):=λg=>AJm λx y _ _=>by rw [AJa]
 rw [e p,e q,e λy=>p y + c * q y,show (λy=>p y + c * q y)=λy=>1 * p y + c * q y by funext y;omega,Aa3 p q 1 c ha,Int.one_mul]
theorem A0l {c:Int} (p q:Nat->Int) (r:AIe) (ha:a < k):det k (λx y=>if y=a then p x + c * q x else r x y)=det k (λx y=>if y=a then p x else r x y) + c * det k (λx y=>if y=a then q x else r x y):=by
 rw [<- ARh,<- ARh (λx y=>if y=a then p x else r x y),<- ARh (λx y=>if y=a then q x else r x y)];exact Aqr p q (trF r) ha
def upS (s:Nat->Nat) (a u:Nat):Nat->Nat:=λx=>if x=a then u else s x
theorem Aml {c:Int} {s:Nat->Nat} (ha:a < k) (hsa:s a=i) (hi:∀ x,x < k->x≠a->s x≠i):det k (λx y=>cgA i j c B (s x)<|s y)=det k (λx y=>B (s x)<|s y) + c * det k (λx y=>B (s x)<|upS s a j y) + c * (det k (λx y=>B (upS s a j x)<|s y) + c * det k λx y=>B (upS s a j x)<|upS s a j y):=by
 have h1:∀ t:Nat->Nat,det k (λx y=>B (t x) (s y) + if y=a then c * B (t x) j else 0)=det k (λx y=>B (t x)<|s y) + c * det k λx y=>B (t x) (upS s a j y):=λt=>by
  have:=A0l (c:=c) (λx=>B (t x) i) (λx=>B (t x) j) (λx y=>B (t x)<|s y) ha
  rw [AJm (G:=λx y=>if y=a then B (t x) i + c * B (t x) j else B (t x)<|s y) λx y _ _=>by split <;> grind,this]
  congr 1
  ·exact AJm λx y _ _=>by split <;> grind
  ·congr 1
   exact AJm λx y _ _=>by unfold upS;grind
 have h2:=Aqr (c:=c) (λy=>B i (s y) + if y=a then c * B i j else 0) (λy=>B j (s y) + if y=a then c * B j j else 0) (λx y=>B (s x) (s y) + if y=a then c * B (s x) j else 0) ha;rw [AJm (G:=λx y=>if x=a then (B i (s y) + if y=a then c * B i j else 0) + c * (B j (s y) + if y=a then c * B j j else 0) else B (s x) (s y) + if y=a then c * B (s x) j else 0) λx y hx hy=>?_,h2,<- h1 s,<- h1 (upS s a j)]
 ·congr 1
  ·exact AJm λx y _ _=>by grind
  ·congr 1;exact AJm λx y _ _=>by unfold upS;grind
 ·have e1:=hi x hx;have e2:=hi y hy;unfold cgA;grind
theorem Av8 {n:Nat} (h:PdF n A) {s:Nat->Nat} (hs:∀ a,a < k->s a < n):0<=det k λa b=>A (s a) (s b):=by
 by_cases hi:∀ a b,a < k->b < k->s a=s b->a=b
 ·exact Int.le_of_lt<|Asi (Asj h hs hi) k<|Nat.le_refl k
 ·have:∃ a b,a < k/\b < k/\s a=s b/\a≠b:=by
   false_or_by_contra;rename_i hc;exact hi λa b h1 h2 h3=>by false_or_by_contra;rename_i h4;exact hc ⟨a,b,h1,h2,h3,h4⟩
  obtain ⟨a,b,h1,h2,h3,h4⟩:=this;rw [Aa4 h1 h2 h4 λi=>by rw [h3]];exact Int.le_refl 0
theorem A6s {n:Nat} {c:Int} (hi:i < n) (hj:j < n) (hD:0<=D) (hc: -2<=c/\c<=2) (hp:PdF n (cgA i j (-c) B)) (H:PmB n D B):PmB n (10 * D) (cgA i j c B):=λk s hk hs=>by
 by_cases hin:∀ a b,a < k->b < k->s a=s b->a=b
 ·by_cases hx:∃ a,a < k/\s a=i
  ·obtain ⟨a,ha,hsa⟩:=hx;have h0:∀ x,x < k->x≠a->s x≠i:=λx hx hne e=>hne<|hin x a hx ha (by rw [e,hsa]);have h1:=Aml (j:=j) (c:=c) (B:=B) ha hsa h0;have h2:=Aml (j:=j) (c:= -c) (B:=B) ha hsa h0;have h3:=Av8 hp hs;have h4:=H k s hk hs;have h5:=H k (upS s a j) hk λx hx=>(by unfold upS;split <;> first | exact hj | exact hs x hx)
   have h6:c * c<=4:=by
    have:0<=(2 - c) * (2 + c):=Int.mul_nonneg AHx AHx;grind
   have h7:=Int.mul_le_mul_of_nonneg_left h5<|sq_nonneg c;have h8:=Int.mul_le_mul_of_nonneg_right h6 hD;rw [h2] at h3;rw [h1];grind
  ·rw [AJm (G:=λa b=>B (s a)<|s b) λa b ha hb=>by
    have e1:s a≠i:=λe=>hx ⟨a,ha,e⟩;have e2:s b≠i:=λe=>hx ⟨b,hb,e⟩;unfold cgA;rw [if_neg e1,if_neg e2];omega]
   have:=H k s hk hs;omega
 ·have:∃ a b,a < k/\b < k/\s a=s b/\a≠b:=by
   false_or_by_contra;rename_i hc;exact hin λa b h1 h2 h3=>by false_or_by_contra;rename_i h4;exact hc ⟨a,b,h1,h2,h3,h4⟩
  obtain ⟨a,b,h1,h2,h3,h4⟩:=this;rw [Aa4 h1 h2 h4 λi=>by rw [h3]];omega
theorem A74 {n:Nat} (hi:i < n) (hj:j < n) (H:PmB n D B):PmB n D λr s=>B (sx i j r) (sx i j s):=λk s hk hs=>H k (λa=>sx i j<|s a) hk λa ha=>Aui hi hj<|hs a ha
theorem A0m {n:Nat} (hs:AS2 n A) (hp:AVl n A) (hn:n<=6) (hb:∀ i,i < n->A i i<=9):PmB n 531441 A:=λk s hk hk2=>by
 by_cases hin:∀ a b,a < k->b < k->s a=s b->a=b
 ·have h1:=Apt (n:=k) (A:=λa b=>A (s a)<|s b) (λa b ha hb=>hs _ _ (hk2 a ha)<|hk2 b hb) (Asi<|Asj (A34 hs hp) hk2 hin) (B:=9) AHz (λa ha=>hb _<|hk2 a ha) k<|Nat.le_refl k
  have h3:(9:Int) ^ k<=9 ^ 6:=by
   have:=Nat.pow_le_pow_right (show 0 < 9 by omega) (show k<=6 by omega);grind
  exact Int.le_trans h1 h3
 ·have:∃ a b,a < k/\b < k/\s a=s b/\a≠b:=by
   false_or_by_contra;rename_i hc;exact hin λa b h1 h2 h3=>by false_or_by_contra;rename_i h4;exact hc ⟨a,b,h1,h2,h3,h4⟩
  obtain ⟨a,b,h1,h2,h3,h4⟩:=this;rw [Aa4 h1 h2 h4 λi=>by rw [h3]];decide
theorem A6t {n:Nat} (hn:n<=8) (hf:100 < fuel):Ok (iter (λs=>AOc fuel (n:Int) s.1 s.2) fuel (0,(List.replicate (Int.toNat (n:Int)) ([]:List Int)))) (· =tab n n dl):=by
 refine AJg (λi s=>s=(((i:Nat):Int),part n i dl)/\i<=n) n ⟨by rw [Int.toNat_natCast,AVw n dl];rfl,Nat.zero_le _⟩ AHx λi s hi hI=>?_;obtain ⟨rfl,hin⟩:=hI;unfold AOc;dsimp only;rw [List.length_replicate,Int.toNat_natCast];refine AI4 (λh=>AJ4 AHx ?_) λh=>AH4 (by rw [show i=n by omega,AVv]);have hi':i < n:=by omega
 refine AI8 (AZj hi') rfl ?_;rw [AKf,AOm n (0:Int),AXg];refine AI8 (ATv AHx hi') rfl ?_;rw [AKk];refine AI8 (AI5 hi') rfl (AH4 ⟨AHx,?_,AHx⟩);rw [AKq AHx,AKf,AKf,AL7,AVn AHx];refine congrArg (λz=>(((i + 1:Nat):Int),z))<|AJ3 λr hr=>?_;split
 ·refine AJ3 λc hc=>?_;rw [AJa,AJa];unfold dl;grind
 ·rfl
def nr (i j:Nat) (c:Int) (f:Nat->Int):Nat->Int:=λs=>if i=j then (if c < 0 then (if s=i then -f i else f s) else f s) else if c=0 then f (sx i j s) else if s=i then f i + c * f j else f s
theorem A6u {n:Nat} {e:Int} (hn:n<=8) (hi:i < n) (hj:j < n) (hU:∀ r s,r < n->s < n->(U r s).natAbs<=1000000) (hf:100 < fuel):
 iter (λs=>AOb fuel (tab n n U) (i:Int) (j:Int) e s.1 s.2) fuel (0,tab n n U)=some (tab n n λr=>nr i j (Int.tmod e 3)<|U r):=by
 apply ok_eq;let V:Nat->AIe:=λr x=>if x < r then nr i j (Int.tmod e 3) (U x) else U x
 refine AJg (λr s=>s=(((r:Nat):Int),tab n n<|V r)/\r<=n) n ⟨rfl,Nat.zero_le _⟩ AHx λr s hr hI=>?_;obtain ⟨rfl,hrn⟩:=hI;unfold AOb;dsimp only;rw [AJf];refine AI4 (λh=>?_) λh=>AH4 (AS5 λx y hx hy=>by show (if x < r then _ else _:Nat->Int) y=_;rw [if_pos AHx]);have hr':r < n:=by omega
 have hVr:V r r=U r:=if_neg<|Nat.lt_irrefl r;have row:(tab n n<|V r)[r]? =some (AK7 n<|U r):=by rw [<- hVr];exact AJo hr'
 have nx:w64 ((r:Int) + 1)=((r + 1:Nat):Int):=AKq AHx
 have put:∀ g:Nat->Int,(∀ s,s < n->g s=nr i j (Int.tmod e 3) (U r) s)->(tab n n<|V r).set r (AK7 n g)=tab n n (V<|r + 1):=λg hg=>by
  rw [show AK7 n g=(List.range n).map g from rfl,AS8]
  refine AS5 λx y hx hy=>?_
  rw [AJa]
  show _=(if x < r + 1 then _ else _:Nat->Int) y
  split
  ·next h=>subst h;rw [if_pos AHx];exact hg y hy
  ·show (if x < r then _ else _:Nat->Int) y=_;grind
 have bi:=hU r i hr' hi;have bj:=hU r j hr' hj;by_cases hij:i=j
 ·subst hij;rw [if_pos rfl,if_neg<|not_not_intro rfl,if_neg<|not_not_intro rfl];refine AI4 (λhc=>AI8 row rfl (AI8 (AI5 hi) rfl (AH4 ⟨AHx,?_,AHx⟩))) λhc=>AH4 ⟨AHx,?_,AHx⟩
  ·rw [nx,AKf,AKf,AL7,put _ λs hs=>?_];unfold nr;rw [if_pos rfl,if_pos hc,wk AHx];split <;> omega
  ·rw [nx,<- put (U r) λs hs=>by unfold nr;rw [if_pos rfl,if_neg hc],show AK7 n (U r)=(List.range n).map (U r) from rfl,AS8];refine congrArg (λz=>(((r + 1:Nat):Int),z))<|AS5 λx y hx hy=>?_;rw [AJa];split
   ·next h=>subst h;rw [hVr]
   ·rfl
 ·rw [if_neg (show ¬ (i:Int)=j by omega),if_pos (show ¬ (i:Int)=j by omega),if_pos<|show ¬ (i:Int)=j by omega];refine AI4 (λhc=>?_) λhc=>?_
  ·refine AI8 row rfl (AI8 (AI5 hj) rfl (AI8 (AI5 hi) rfl ?_));rw [AKf,AKf,AL7];refine AI8 (x:=AK7 n λc=>if c=i then U r j else U r c) (by rw [List.getElem?_set,if_pos rfl,AJf,if_pos hr']) rfl (AI8 (AI5 hj) rfl (AH4 ⟨AHx,?_,AHx⟩));rw [nx,AKf,AKf,AL7,List.set_set,put _ λs hs=>?_];unfold nr sx;rw [if_neg hij,if_pos hc];grind
  ·refine AI8 row rfl (AI8 (AI5 hi) rfl (AI8 (AI5 hj) rfl (AH4 ⟨AHx,?_,AHx⟩)));have Aa:=Int.tmod_lt_of_pos e (show (0:Int) < 3 by decide);have Ab:=Int.lt_tmod_of_pos e (show (0:Int) < 3 by decide)
   have hm:((Int.tmod e 3) * U r j).natAbs<=2000000:=by
    rw [Int.natAbs_mul]
    exact Nat.mul_le_mul (show (Int.tmod e 3).natAbs<=2 by omega) bj
   rw [nx,AKf,AKf,AL7,put _ λs hs=>?_];unfold nr;rw [if_neg hij,if_neg hc,AKn (x:=Int.tmod e 3 * U r j) AHx AHx,wk AHx]
theorem A0n {n:Nat} (H:AY3 n A T B) (hs:AS2 n A):AS2 n B:=λi j hi hj=>by
 rw [H i j hi hj,H j i hj hi]
 show _=trF (AJv n (trF T)<|AJv n A T) i j
 rw [Ac9,<- AMs]
 show _=AJv n (trF<|AJv n A T) T i j
 refine AO0 (λk hk=>?_) λ_ _=>rfl
 rw [Ac9]
 exact AO0 (λ_ _=>rfl) λl hl=>hs l k hl hk
structure UIn (n:Nat) (A U B:AIe) (t:Nat):Prop where
 c:AY3 n A U B
 d:det n U * det n U=1
 pd:PdF n B
 pm:PmB n (10 ^ t * 531441) B
 bd:∀ r s,r < n->s < n->(U r s).natAbs<=3 ^ t
theorem UIn.grow {n:Nat} (H:UIn n A U B t):UIn n A U B (t + 1):=
 ⟨H.c,H.d,H.pd,λk s h1 h2=>by have:=H.pm k s h1 h2;have h3:(0:Int) < 10 ^ t:=Int.pow_pos AHz;rw [Int.pow_succ];omega,λr s hr hs=>by have:=H.bd r s hr hs;rw [Nat.pow_succ];omega⟩
theorem UIn.next {n:Nat} {E B':AIe} (H:UIn n A U B t) (hE:∀ r s,r < n->s < n->AJv n (AJv n (trF E) B) E r s=B' r s) (hd:det n E * det n E=1) (hp:PdF n B') (hm:PmB n (10 ^ (t + 1) * 531441) B') (hb:∀ r s,r < n->s < n->(AJv n U E r s).natAbs<=3 ^ (t + 1)):UIn n A (AJv n U E) B' (t + 1):=
 ⟨AZr H.c hE,by rw [ARo];have:=H.d;grind,hp,hm,hb⟩
theorem UIn.step {n:Nat} {c:Int} (H:UIn n A U B t) (hi:i < n) (hj:j < n) (hc: -2<=c/\c<=2):∃ U' B',UIn n A U' B' (t + 1)/\ ∀ r s,r < n->s < n->nr i j c (U r) s=U' r s:=by
 have Ae:(0:Int)<=10 ^ t * 531441:=Int.mul_nonneg (Int.le_of_lt<|Int.pow_pos AHz) AHz
 have add:∀ c' d:Int,-2<=c'/\c'<=2->c' + d + (if i=j then c' * d else 0)=0->(i=j->1 + c'≠0)->(i=j->1 + -c'≠0)->(∀ r,r < n->(U r i + c' * U r j).natAbs<=3 ^ (t + 1))->UIn n A (AJv n U<|aE i j c') (cgA i j c' B) (t + 1):=λc' d h1 h2 h3 h4 h5=>by
  have hcar:∀ c,AY3 n B (aE i j c) (cgA i j c B):=λc r s hr hs=>by rw [<- A0i hj hr hs,AMs]
  refine H.next (λr s hr hs=>A0i hj hr hs) (Aeq λr s hr hs=>A6r hj hs h2) (A0h (hcar c') (A0j hi hj h3) H.pd) (λk s hk hs=>?_) λr s hr hs=>?_
  ·have:=A6s hi hj Ae h1 (A0h (hcar<|-c') (A0j hi hj h4) H.pd) H.pm k s hk hs
   rw [Int.pow_succ];omega
  ·show (psum (λk=>U r k * aE i j c' k s) n).natAbs<=_
   rw [Aid hj hs λk=>U r k]
   have hb:=H.bd r s hr hs
   by_cases e:s=i
   ·rw [if_pos e,e];exact h5 r hr
   ·rw [if_neg e,Nat.pow_succ];omega
 by_cases hij:i=j
 ·subst hij;by_cases h0:c < 0
  ·refine ⟨_,_,add (-2) (-2) AHz (by rw [if_pos rfl];decide) (λ_=>by decide) (λ_=>by decide) λr hr=>?_,λr s hr hs=>?_⟩
   ·have:=H.bd r i hr hi;rw [Nat.pow_succ];omega
   ·show _=psum (λk=>U r k * aE i i (-2) k s) n;rw [Aid hj hs λk=>U r k];unfold nr;rw [if_pos rfl,if_pos h0];grind
  ·exact ⟨U,B,H.grow,λr s hr hs=>by unfold nr;rw [if_pos rfl,if_neg h0]⟩
 ·by_cases h0:c=0
  ·refine ⟨AJv n U<|sxE i j,λr s=>B (sx i j r)<|sx i j s,H.next (λr s hr hs=>A27 hi hj hr hs) (Aeq λr s hr hs=>A28 hi hj hs) (Asj H.pd (λa ha=>Aui hi hj ha) λa b _ _ e=>by rw [<- A0k i j a,e,A0k]) (λk s hk hs=>?_) λr s hr hs=>?_,λr s hr hs=>?_⟩
   ·have:det k (λa b=>B (sx i j<|s a)<|sx i j<|s b)<=10 ^ t * 531441:=A74 hi hj H.pm k s hk hs;rw [Int.pow_succ];omega
   ·show (psum (λk=>U r k * sxE i j k s) n).natAbs<=_;rw [Ahb hi hj hs λk=>U r k];have:=H.bd r _ hr<|Aui hi hj hs;rw [Nat.pow_succ];omega
   ·show _=psum (λk=>U r k * sxE i j k s) n;rw [Ahb hi hj hs λk=>U r k];unfold nr;rw [if_neg hij,if_pos h0]
  ·refine ⟨_,_,add c (-c) hc (by rw [if_neg hij];omega) (λe=>absurd e hij) (λe=>absurd e hij) λr hr=>?_,λr s hr hs=>?_⟩
   ·have h1:=H.bd r i hr hi;have h2:=H.bd r j hr hj
    have h3:(c * U r j).natAbs<=2 * 3 ^ t:=by
     rw [Int.natAbs_mul]
     exact Nat.mul_le_mul (show c.natAbs<=2 by omega) h2
    rw [Nat.pow_succ];omega
   ·show _=psum (λk=>U r k * aE i j c k s) n;rw [Aid hj hs λk=>U r k];unfold nr;rw [if_neg hij,if_neg h0];grind
theorem Auj {n:Nat} {L:List Int} {q:Nat} (hn:0 < n) (hq:q < 4611686018427387904):Ok ((((if (L.length:Int)<=((q:Nat):Int) then (some ((0:Int),((q:Nat):Int))) else ((gI L<|w64<|(w64<|((q:Nat):Int) + 1) - 1).bind λx=>(some ((w64 x),(w64<|((q:Nat):Int) + 1))))):Option (Int × Int)).bind λ(x,y)=>(if (n:Int)≠0 then (some ((Int.tmod (w64<|IntKind.wrap .u8 x) (n:Int)),y)) else none)):Option (Int × Int)) λe=> ∃ i p:Nat,e=((i:Int),(p:Int))/\i < n/\p<=q + 1:=by
 refine AH9 (Ada hq) λe he=>?_;obtain ⟨x,y⟩:=e;obtain ⟨p,rfl,hp⟩:=he;have h:=Ab5 x n hn;refine AJ4 AHx<|AH4 ⟨(Int.tmod (w64<|IntKind.wrap .u8 x) (n:Int)).toNat,p,?_,AHx,hp⟩;rw [Int.toNat_of_nonneg h.1]
theorem A75 {n:Nat} {L:List Int} (Ac:1<=n) (hn:n<=6) (hs:AS2 n A) (hp:AVl n A) (hb:∀ i,i < n->A i i<=9) (hf:100 < fuel):Ok (ANr fuel L (n:Int)) λr=> ∃ U B,r=tab n n U/\UIn n A U B 12:=by
 unfold ANr;refine AJ4 AHx<|AH9 (A6t AHx hf) λe he=>AH9 (Q:=λr=> ∃ U B,r=tab n n U/\UIn n A U B 12) (AJg (λt s=> ∃ (U B:AIe) (q:Nat),s=(((t:Nat):Int),tab n n U,(q:Int))/\t<=12/\q<=3 * t/\UIn n A U B t) 12 ⟨dl,A,0,by rw [he];rfl,AHx,AHx,⟨Ajj,by rw [Ac5];rfl,A34 hs hp,λk s hk Aa=>by have:=A0m hs hp hn hb k s hk Aa;simpa using this,λr s _ _=>by unfold dl;split <;> decide⟩⟩ AHx λt s ht hI=>?_) λr hr=>AH4 hr;obtain ⟨U,B,q,rfl,Ad,hq,H⟩:=hI
 have fin:UIn n A U B 12:=by
  have:∀ d t,t + d=12->UIn n A U B t->UIn n A U B 12:=λd=>by
   induction d with
   | zero=>intro t h H;rw [<- h];exact H
   | succ d ih=>intro t h H;exact ih (t + 1) AHx H.grow
  exact this (12 - t) t AHx H
 unfold AQg;dsimp only;refine AH9 (Q:=λex=>ex= .inl ()->t < 12) (AI4 (λh=>AI4 (λ_=>AH4 λ_=>by omega) λ_=>AH4 λh=>(nomatch h)) λ_=>AH4 λh=>(nomatch h)) λex hex=>?_
 cases ex with
 | inr u=>exact AH4 ⟨U,B,rfl,fin⟩
 | inl u=>
   have ht:=hex rfl
   dsimp only
   refine AH9 (Auj AHx AHx) λe he=>?_
   obtain ⟨i,p,rfl,hi,Ae⟩:=he
   refine AH9 (Auj AHx AHx) λe he=>?_
   obtain ⟨j,p2,rfl,hj,Af⟩:=he
   refine AH9 (Ada AHx) λe he=>?_
   obtain ⟨x,y⟩:=e
   obtain ⟨p3,rfl,Ag⟩:=he
   have h3:3 ^ t<=3 ^ 12:=Nat.pow_le_pow_right AHz AHx
   dsimp only
   refine AH9 (AJ2<|A6u AHx hi hj (λr s hr Aa=>Nat.le_trans (H.bd r s hr Aa)<|Nat.le_trans h3 AHz) hf) λe he=>?_
   subst he
   have Ah:=Int.tmod_lt_of_pos x (show (0:Int) < 3 by decide)
   have Ai:=Int.lt_tmod_of_pos x (show (0:Int) < 3 by decide)
   obtain ⟨U',B',H',hU'⟩:=H.step (c:=Int.tmod x 3) hi hj AHx
   refine AH4 ⟨AHx,U',B',p3,?_,AHx,AHx,H'⟩
   rw [AKq AHx,AS5 hU']
theorem A29 {L L2:List Int} (h1:0<=a1/\a1 < 256) (hm:1<=most/\most<=8) (hf:100 < fuel):∃ n A,AK3 fuel a1 a2 L L2 most=some (tab n n A)/\A3z n A/\(n:Int)<=most/\ ∀ i j,(A i j).natAbs<=9:=by
 obtain ⟨r,e,n,A,rfl,G,hn⟩:=A5y (L:=L) (L2:=L2) (a2:=a2) h1 hm hf;have t2:=Int.emod_lt_of_pos a1 (show 0 < most by omega);have t3:Int.tmod a1 most=a1 % most:=Int.tmod_eq_emod_of_nonneg h1.1;let A0:AIe:=λi j=>if i < n/\j < n then A i j else 0
 have Ab:∀ i j,i < n->j < n->A i j=A0 i j:=λi j hi hj=>(if_pos ⟨hi,hj⟩).symm;refine ⟨n,A0,by rw [e,AS5 Ab],⟨G.n1,G.n8,λi j hi hj=>by rw [<- Ab i j hi hj,<- Ab j i hj hi];exact G.sym i j hi hj,λk hk=>by rw [<- AJm λi j hi hj=>Ab i j AHx AHx];exact G.pos k hk,λi j hi hj=>by rw [<- Ab i j hi hj];exact G.bd i j hi hj,by rw [<- AJm Ab];exact G.dt⟩,AHx,λi j=>?_⟩;show (if i < n/\j < n then A i j else 0).natAbs<=9;split
 ·next h=>exact G.bd i j h.1 h.2
 ·decide
theorem A3a {n:Nat} (H:PmB n D B) (hi:i < n):B i i<=D:=by
 have:=H 1 (λ_=>i) AHx λ_ _=>hi;rwa [show (1:Nat)=0 + 1 from rfl,<- ARp,AU1] at this
structure A76 (n:Nat) (A B T:AIe):Prop where
 a:Alh n A
 b:Alh n B
 c:AY3 n A T B
 d:det n T * det n T=1
theorem A0o {n:Nat} (H:AY3 n A T B) (hd:det n T * det n T=1):∃ R,AY3 n B R A/\det n R * det n R=1:=by
 have h1:∀ i j,i < n->j < n->AJv n T (λr c=>det n T * ARj n T r c) i j=dl i j:=λi j hi hj=>by
  show psum (λk=>T i k * (det n T * ARj n T k j)) n=_
  rw [AIl (g:=λk=>det n T * (T i k * ARj n T k j)) λk _=>by grind,ALz,Ab3 hi hj,<- Int.mul_assoc,hd,Int.one_mul]
 have h2:∀ i j,i < n->j < n->AJv n (λr c=>det n T * ARj n T r c) T i j=dl i j:=λi j hi hj=>by
  show psum (λk=>det n T * ARj n T i k * T k j) n=_
  rw [AIl (g:=λk=>det n T * (ARj n T i k * T k j)) λk _=>by grind,ALz,Apr hi hj,<- Int.mul_assoc,hd,Int.one_mul]
 refine ⟨λr c=>det n T * ARj n T r c,λi j hi hj=>?_,Aeq h2⟩;have h3:=AZr H (U:=λr c=>det n T * ARj n T r c) (B:=λi j=>AJv n (trF λr c=>det n T * ARj n T r c) (AJv n B λr c=>det n T * ARj n T r c) i j) λi j hi hj=>AMs i j;refine Eq.trans ?_ (h3 i j hi hj).symm;show _=psum (λk=>AJv n T (λr c=>det n T * ARj n T r c) k i * psum (λl=>A k l * AJv n T (λr c=>det n T * ARj n T r c) l j) n) n;rw [AIl (g:=λk=>A k j * dl k i) λk hk=>by rw [h1 k i hk hi,AIl (g:=λl=>A k l * dl l j) λl hl=>by rw [h1 l j hl hj],AWf (A k) hj];exact Int.mul_comm _ _];exact (AWf (λk=>A k j) hi).symm
theorem A6v {L L2:List Int} (h1:0<=a1/\a1 < 256) (hm:1<=most/\most<=6) (hf:AM1 < fuel):∃ n A B T,ALq fuel a1 a2 L L2 most=some (tab n n A)/\AMj fuel a1 a2 L L2 most=some (tab n n B)/\1<=n/\(n:Int)<=most/\A76 n A B T:=by
 have Ag:100 < fuel:=Nat.lt_of_le_of_lt AHz hf;obtain ⟨n,G,e,R,hn,hb⟩:=A29 (L:=L) (L2:=L2) (a2:=a2) h1 (show 1<=most/\most<=8 by omega) Ag;have n1:=R.n1;have n6:n<=6:=by omega
 have hdm:dmN n=2 ^ 59:=if_pos n6;have hof:=Anu (F:=G) n1 AHx (λi j hi hj=>Nat.le_trans (R.bd i j hi hj) AHz) (show 17 < fuel by omega);have hh:=Apt R.sym R.pos (B:=9) AHz (λi hi=>by have:=R.bd i i hi hi;omega)
 obtain ⟨r,er,A,T1,rfl,RA,cA,dA,-⟩:=Amf n1 R.n8 R.sym R.pos (λi j=>Nat.le_trans (hb i j) AHz) (λk hk=>Int.le_trans (hh k hk) (by
  have h3:(9:Int) ^ k<=9 ^ 8:=by
   have:=Nat.pow_le_pow_right (show 0 < 9 by omega) (show k<=8 by omega)
   grind
  exact Int.le_trans h3 (Ah7 n).1)) (λk hk=>by have:=hb k k;have:=Ah7 n;omega) R.dt hf
 obtain ⟨u,eu,U,B0,rfl,HU⟩:=A75 (L:=L2) n1 n6 R.sym R.pos (λi hi=>by have:=R.bd i i hi hi;omega) Ag;have sB:=A0n HU.c R.sym;have pB:=Asi HU.pd;have hpm:(10:Int) ^ 12 * 531441<=2 ^ 59:=by decide
 have bB:∀ i,i < n->B0 i i<=2 ^ 59:=λi hi=>Int.le_trans (A3a HU.pm hi) hpm;have aB:∀ i j,i < n->j < n->(B0 i j).natAbs<=2 ^ 59:=λi j hi hj=>Nat.le_trans (Ant sB pB bB hi hj) AHz;let B1:AIe:=λi j=>if i < n/\j < n then B0 i j else 0
 have Aa:∀ i j,i < n->j < n->B1 i j=B0 i j:=λi j hi hj=>if_pos ⟨hi,hj⟩
 have raw:AM8 fuel a1 a2 L L2 most=some (tab n n B1):=by
  apply ok_eq
  unfold AM8
  rw [e]
  simp only [Option.bind_some]
  rw [hof,AJf]
  simp only [Option.bind_some]
  rw [eu]
  simp only [Option.bind_some]
  have h3:(3:Nat) ^ 12<=2 ^ 100:=by decide
  rw [Anu n1 AHx (λi j hi hj=>Nat.le_trans (HU.bd i j hi hj) AHz) AHx]
  simp only [Option.bind_some]
  rw [Atx (D:=2 ^ 100) n1 AHx AHz (λi j hi hj=>Nat.le_trans (hb i j) AHz) (λi j hi hj=>Nat.le_trans (HU.bd i j hi hj) h3) (λi j hi hj=>?_) Ag]
  ·refine AH4<|AS5 λi j hi hj=>?_
   rw [Aa i j hi hj,HU.c i j hi hj,AMs]
  ·have h5:(psum (λl=>U l i * G l j) n).natAbs<=n * (3 ^ 12 * 9):=by
    refine QF.psum_abs λl hl=>?_
    rw [Int.natAbs_mul]
    exact Nat.mul_le_mul (HU.bd l i hl hi)<|hb l j
   have h6:(AJv n (trF U) G i j).natAbs<=n * (3 ^ 12 * 9):=h5
   have h7:n * (3 ^ 12 * 9)<=6 * (3 ^ 12 * 9):=Nat.mul_le_mul_right _ n6
   have h8:6 * (3 ^ 12 * 9)<=2 ^ 100:=by decide
   omega
 have dB:det n B1=det n G:=by rw [AJm Aa,Akz HU.c,HU.d,Int.one_mul]
 obtain ⟨r,eo,B,T2,rfl,RB,cB,Am,-⟩:=Amf (A0:=B1) n1 R.n8 (λi j hi hj=>by rw [Aa i j hi hj,Aa j i hj hi];exact sB i j hi hj) (λk hk=>by rw [AJm λi j hi hj=>Aa i j AHx AHx];exact pB k hk) (λi j=>by
  show (if i < n/\j < n then B0 i j else 0).natAbs<=2 ^ 60
  split
  ·next h=>exact Nat.le_trans (aB i j h.1 h.2) AHz
  ·exact Nat.zero_le _) (λk hk=>by rw [hdm,AJm λi j hi hj=>Aa i j AHx AHx];exact Int.le_trans (HU.pm k id hk λa ha=>by show a < n;omega) hpm) (λk hk=>by rw [hdm,Aa k k hk hk];have:=bB k hk;omega) (by rw [dB];exact R.dt) hf
 have posd:∀ {C T:AIe} {X:AIe},AY3 n X T C->det n C=det n X->0 < det n X->det n T * det n T=1:=λ{C T X} h e0 hx=>by
  have h3:=Akz h
  rw [e0] at h3
  have h4:(det n T * det n T - 1) * det n X=0:=by rw [Int.sub_mul,<- h3];omega
  rcases Int.mul_eq_zero.1 h4 with h5 | h5 <;> omega
 have d1:=posd cA dA<|R.pos n<|Nat.le_refl n;have d2:=posd cB Am (by rw [dB];exact R.pos n<|Nat.le_refl n);obtain ⟨S,cS,dS⟩:=A0o cA d1;have comp:∀ {X T C V D:AIe},AY3 n X T C->AY3 n C V D->AY3 n X (AJv n T V) D:=λh h'=>AZr h λi j hi hj=>by rw [AMs];exact (h' i j hi hj).symm
 have cU:AY3 n G U B1:=λi j hi hj=>by rw [Aa i j hi hj];exact HU.c i j hi hj
 refine ⟨n,A,B,AJv n (AJv n S U) T2,?_,?_,n1,hn,⟨RA,RB,comp (comp cS cU) cB,?_⟩⟩
 ·unfold ALq;rw [e];simp only [Option.bind_some];rw [hof];simp only [Option.bind_some];rw [er];rfl
 ·unfold AMj;rw [raw];simp only [Option.bind_some];rw [eo];rfl
 ·rw [ARo,ARo];have:=HU.d;grind
theorem Aie {α:Type} {z:α} {f:AJ0->α}:∀ {L:List AJ0} {i:Nat} {b:AJ0},(∀ b∈L,b.2.1=1)->L[i]? =some b->atL z f L i=f b
 | [],_,_,_,h=>by simp at h
 | c :: L,0,b,hs,h=>by
   have h1:=hs c AI9
   rw [AWi AHx]
   simp at h
   rw [h]
 | c :: L,i + 1,b,hs,h=>by
   have h1:=hs c AI9
   rw [Nat.add_comm i 1,AV5 AHx]
   exact Aie (λb hb=>hs b<|by simp [hb]) (by simpa using h)
theorem An8:∀ {L:List AJ0},(∀ b∈L,b.2.1=1)->AXr L=L.length
 | [],_=>rfl
 | c :: L,h=>by
   have:=h c AI9
   rw [ASe,An8 λb hb=>h b (by simp [hb]),List.length_cons];omega
theorem An9 {p:Int}:∀ {L:List AJ0},(∀ b∈L,b.2.1=1)-> ∀ i j,i < AXr L->j < AXr L->bmp p L i j=if i=j then atL 0 (λb=>p ^ b.1.toNat * b.2.2.1) L i else 0
 | [],_,i,_,h,_=>absurd h (Nat.not_lt_zero i)
 | c :: L,h,i,j,hi,hj=>by
   have hc:=h c AI9
   have ih:=An9 (p:=p) (L:=L) λb hb=>h b (by simp [hb])
   have f:=Aqn (p:=p) (c:=c) (L:=L) AHx
   have hs:c.2.1.toNat=1:=by omega
   rw [ASe,hs] at hi hj
   rcases AVt hi with hi | ⟨i,rfl,ki⟩ <;> rcases AVt hj with hj | ⟨j,rfl,kj⟩
   ·rw [f.hd i j hi hj,AWi AHx,if_pos AHx]
   ·rw [f.ur i j hi,if_neg AHx]
   ·rw [f.lo j i hj,if_neg AHx]
   ·rw [f.tl,ih i j ki kj,AV5 hs]
    by_cases e:i=j
    ·rw [if_pos e,if_pos AHx]
    ·rw [if_neg e,if_neg AHx]
theorem Amm {sg:AJ0->Int} (x:Int):∀ {L:List AJ0},(∀ b∈L,b.2.1=1)->(∀ b∈L,0<=b.1)->sgE sg L x=ANq (λi=>if (eL L i:Int)=x then atL 1 sg L i else 1) (AXr L)
 | [],_,_=>rfl
 | c :: L,h,h0=>by
   have hc:=h0 c AI9
   have hs:=h c AI9
   rw [ASe,Aa5]
   unfold eL
   rw [AYh (n:=AXr L) (g:=λi=>if (eL L i:Int)=x then atL 1 sg L i else 1) λi _=>by rw [AV5 rfl,AV5 rfl];rfl,<- Amm x (λb hb=>h b<|by simp [hb]) λb hb=>h0 b<|by simp [hb]]
   show (if c.1=x then sg c else 1) * _=_
   congr 1
   rw [hs]
   show _=1 * (if ((atL 0 (λb:AJ0=>b.1.toNat) (c :: L) 0:Nat):Int)=x then atL 1 sg (c :: L) 0 else 1)
   rw [AWi AHx,AWi AHx,show ((c.1.toNat:Nat):Int)=c.1 by omega,Int.one_mul]
theorem Aoa {f:Nat->Int} {n m:Nat} (h:k + m<=n) (hz:∀ i,i < n->(i < k∨k + m<=i)->f i=1):ANq f n=ANq (λr=>f<|k + r) m:=by
 rw [show n=k + (m + (n - k - m)) by omega,Aa5,Aa5,Aez (f:=f) λi hi=>hz i AHx<|.inl hi,Aez (n:=n - k - m) λi hi=>hz _ AHx<|.inr AHx,Int.one_mul,Int.mul_one]
structure Asl (M:List (List Int)) (p:Int) (K:Nat) (T G:AIe) (L:List AJ0) (C:List AMi):Prop where
 e:Eli M.length K p (ent M) T G
 w:∀ i j,i < M.length->j < M.length->G i j=bmp p L i j
 ob:∀ b∈L,OB p K b
 asc:∀ i,Asc L i
 sum:AXr L=M.length
 c:CO p L L.length C
theorem Aob {L:List AJ0} (h:∀ b∈L,OB p K b):(∀ b∈L,b.2.1=1)/\(∀ b∈L,0<=b.1)/\ ∀ b∈L,b.1.toNat < K/\¬ p ∣ b.2.2.1:=by
 refine ⟨λb hb=>?_,λb hb=>?_,λb hb=>?_⟩ <;> (obtain ⟨e,u,rfl,h1,h2,-,-⟩:=h b hb)
 ·rfl
 ·exact Int.natCast_nonneg e
 ·exact ⟨by dsimp only;omega,h1⟩
theorem A37 {n:Nat} {H:AIe} {L:List AJ0} (S:JS n K p H T G n E) (B:JL n p G L n E) (hI:PrI p) (hq:p ^ K<=2147483647):(∀ b∈L,OB p K b)/\AXr L=n/\ ∀ i j,i < n->j < n->G i j=bmp p L i j:=by
 have hp:=hI.1;have hLn:=B.len
 have hb:∀ i b,L[i]? =some b->OB p K b/\G i i=p ^ b.1.toNat * b.2.2.1:=λi b hi=>by
  have Ae:=(List.getElem?_eq_some_iff.1 hi).1
  obtain ⟨h1,⟨e,u,rfl,h3,h4⟩,h5⟩:=B.bl i b hi
  have hgi:=S.rg i i AHx AHx
  have hek:=Ar8 hI h3 h4 hgi
  have Ah:=Aej AHx hq
  have hpe:0 < p ^ e:=Int.pow_pos AHx
  have Ac:0<=u:=by
   rcases Int.lt_or_le u 0 with h | h
   ·have:=Int.mul_neg_of_neg_of_pos h hpe;omega
   ·exact h
  have Ai:u * 1<=u * p ^ e:=Int.mul_le_mul_of_nonneg_left AHx Ac
  exact ⟨⟨e,u,rfl,h4,hek,AHx,AHx⟩,by rw [h3];exact Int.mul_comm _ _⟩
 have ob:∀ b∈L,OB p K b:=λb Ad=>by
  obtain ⟨i,hi⟩:=List.getElem?_of_mem Ad
  exact (hb i b hi).1
 have one:=(Aob ob).1;have hs:=An8 one;refine ⟨ob,AHx,λi j hi hj=>?_⟩;rw [An9 one i j AHx AHx];by_cases e:i=j
 ·subst e;have hg:=List.getElem?_eq_getElem (show i < L.length by omega);rw [if_pos rfl,Aie one hg,(hb i _ hg).2]
 ·rw [if_neg e,S.z i j hi hj λh=>e h.symm]
theorem A38 {v:Nat} {r:Int} (R:Ah8 M) (hp:Pr p) (Aa:2 < p) (Ab:p<=9973) (hd:det M.length (ent M)=r * p ^ v) (hr: ¬ p ∣ r) (hf:2147483648 < fuel):∃ T G L C,AOf fuel M p=some ((p,tab M.length M.length T,L),0)/\AKw fuel p (tab M.length M.length T) L=some (C,true)/\Asl M p (v + 1) T G L C/\C.length<=8:=by
 have hI:=Aga hp;obtain ⟨K,E,T,G,L,e1,e2,hK,hq,hv,S,B⟩:=A6e R hp Aa Ab hf;have hKv:=Ag2 AHx hv ⟨v,r,rfl,hd,hr⟩;obtain rfl:K=v + 1:=by omega
 obtain ⟨ob,h1,h2⟩:=A37 S B hI hq;have hLn:=B.len;have Ah:=R.1;obtain ⟨C,e3,H⟩:=A6o (fuel:=fuel) (T:=tab M.length M.length T) ob B.asc (Arx ⟨Aa,hp⟩) Ab AHx AHx hf;exact ⟨T,G,L,C,e1,e3,⟨S.e,h2,ob,B.asc,h1,H⟩,by have:=H.len;omega⟩
theorem A77 {v:Nat} {r:Int} (R:Ah8 M) (hp:Pr p) (Aa:2 < p) (Ab:p<=9973) (hd:det M.length (ent M)=r * p ^ v) (hr: ¬ p ∣ r) (hf:2147483648 < fuel):∃ T G L C,AL4 fuel M p=some (p,tab M.length M.length T,L)/\AKx fuel p (tab M.length M.length T) L=some (C,true)/\Asl M p (v + 1) T G L C:=by
 have hI:=Aga hp;obtain ⟨K,E,T,G,L,e1,hK,hq,hv,S,B⟩:=A6h R hp Aa Ab hf;have hKv:=Ag2 AHx hv ⟨v,r,rfl,hd,hr⟩;obtain rfl:K=v + 1:=by omega
 obtain ⟨ob,h1,h2⟩:=A37 S B hI hq;have hLn:=B.len;have Ag:=R.1;obtain ⟨C,e3,H⟩:=A6p (fuel:=fuel) (T:=tab M.length M.length T) ob B.asc (Arx ⟨Aa,hp⟩) Ab AHx AHx AHx;exact ⟨T,G,L,C,e1,e3,⟨S.e,h2,ob,B.asc,h1,H⟩⟩
theorem Ak7 {L:List AJ0} (h:∀ b∈L,b.2.1=1):Aeo L:=λb hb=> .inl<|h b hb
theorem Asl.jd {L:List AJ0} (D:Asl M p K T G L C):Jd M.length K p (eL L) (bmp p<|L.map z0) G:=by
 obtain ⟨h1,h2,h3⟩:=Aob D.ob;exact A72 (Ak7 h1) D.sum (Aqo λi _=>D.asc i) (λb hb=>(h3 b hb).1) (λb hb=>by unfold dB;rw [if_neg (by have:=h1 b hb;omega)];exact (h3 b hb).2) λi j hi hj=>Eqm.of_eq<|D.w i j hi hj
def uA (L:List AJ0) (i:Nat):Int:=atL 0 (λb=>b.2.2.1) L i
theorem A0p {L:List AJ0} (h:∀ b∈L,b.2.1=1) (hi:i < AXr L) (hj:j < AXr L):bmp p (L.map z0) i j=if i=j then uA L i else 0:=by
 have h1:∀ b∈L.map z0,b.2.1=1:=λb hb=>by
  obtain ⟨c,hc,rfl⟩:=List.mem_map.1 hb
  exact h c hc
 rw [An9 h1 i j (by rw [A0a];exact hi) (by rw [A0a];exact hj)];by_cases e:i=j
 ·rw [if_pos e,if_pos e];have hiL:i < L.length:=by rw [<- An8 h];exact hi
  have hg:=List.getElem?_eq_getElem hiL;rw [Aie h1 (b:=z0 L[i]) (by rw [List.getElem?_map,hg];rfl)];unfold uA;rw [Aie h hg];show p ^ 0 * L[i].2.2.1=_;rw [Int.pow_zero,Int.one_mul]
 ·rw [if_neg e,if_neg e]
theorem A0q {L:List AJ0} {y m:Nat} (hp:OPr p) (h:∀ b∈L,b.2.1=1) (h0:∀ b∈L,0<=b.1) (hk:k + m<=AXr L) (w1:∀ i,k<=i->i < k + m->eL L i=y) (w2:∀ i,i < AXr L->eL L i=y->k<=i/\i < k + m):sgE (sO p) L y=lg p (det m<|shF k<|bmp p<|L.map z0):=by
 rw [Amm _ h h0,Aoa hk λi hi hw=>by rw [if_neg λe=>by have:=w2 i hi AHx;omega]];rw [Aht (F:=shF k<|bmp p<|L.map z0) λi j hij hj=>by show bmp p (L.map z0) (k + i) (k + j)=0;rw [A0p h AHx AHx,if_neg AHx],Aqm hp];refine AYh λr hr=>?_;show _=lg p (bmp p (L.map z0) (k + r)<|k + r);rw [A0p h AHx AHx,if_pos rfl,w1 (k + r) AHx AHx,if_pos rfl];have hg:=List.getElem?_eq_getElem (show k + r < L.length by rw [<- An8 h];omega);unfold uA;rw [Aie h hg,Aie h hg]
theorem Asl.same {M':List (List Int)} {T' G':AIe} {L L':List AJ0} {C':List AMi} (D:Asl M p K T G L C) (D':Asl M' p K T' G' L' C') (hp:OPr p) (hI:PrI p) (hK:1<=K) (hn:M'.length=M.length) (hU:AY3 M.length (ent M) U (ent M')) (hu:det M.length U * det M.length U=1):C=C':=by
 have e':=D'.e;have J:=D.jd;have J':=D'.jd;have s1:=D.sum;have s2:=D'.sum;rw [hn] at e' J' s2;obtain ⟨a1,a2,a3⟩:=Aob D.ob;obtain ⟨b1,b2,b3⟩:=Aob D'.ob;obtain ⟨R,hR,hc⟩:=A26 hI hK D.e e' hU hu;have he:∀ i,i < M.length->eL L i=eL L' i:=λi hi=>Aji hI hR J J' hc hi;refine A73 D.c D'.c (Ak7 a1) (Ak7 b1) (λx=>?_) λx=>?_
 ·rw [Aic x (Ak7 a1) a2,Aic x (Ak7 b1) b2,s1,s2];exact AIl λi hi=>by rw [he i hi]
 ·rcases Int.lt_or_le x 0 with h | h
  ·rw [Ag8 λb hb=>by have:=a2 b hb;omega,Ag8 λb hb=>by have:=b2 b hb;omega]
  obtain ⟨y,rfl⟩:∃ y:Nat,x=y:=⟨x.toNat,AHx⟩;obtain ⟨k,m,c1,c2,w1,w2⟩:=A6n y J.asc;have hkm:k + m<=M.length:=c2.1;rw [A0q hp a1 a2 AHx w1 λi hi=>w2 i AHx,A0q hp b1 b2 (k:=k) (m:=m) AHx (λi h1 h2=>by rw [<- he i AHx];exact w1 i h1 h2) λi hi h=>w2 i AHx (by rw [he i AHx];exact h)];obtain ⟨s,hs,hdet⟩:=Av0 hI hR J J' hc c1 c2 λi h1 h2=>by rw [w1 i h1 h2,w1 k (Nat.le_refl k) AHx]
  have hls:=Ayu hp (a:=s) λh=>hs<|Int.dvd_of_emod_eq_zero h;rw [Agw hp hdet,Akq hp,Akq hp];rcases hls with h | h <;> rw [h] <;> simp
theorem Aer {g kd k:Int} {Z Y:List Int} (hg:0<=g/\g < 256) (hk:0<=k/\k < 256):AM5 (AM1 + 1) g kd Z Y k=some true:=by
 have hf:AM1 < AM1 + 1:=Nat.lt_succ_self _;have Ae:100 < AM1 + 1:=Nat.lt_of_le_of_lt AHz hf;have Ac:2147483648 < AM1 + 1:=Nat.lt_of_le_of_lt AHz hf;apply ok_eq;unfold AM5;refine AH9 (Ar9 hk) λp hp=>?_;obtain ⟨Aa,Ab,Ak⟩:=hp;have hI:=Aga Aa;have hO:=Arx ⟨Ab,Aa⟩;obtain ⟨n,A,B,S,eF,eO,n1,n6,P⟩:=A6v (L:=Z) (L2:=Y) (a2:=kd) hg (show (1:Int)<=6/\(6:Int)<=6 by decide) hf;have RA:=Aub n1 AHx P.a;have RB:=Aub n1 AHx P.b;have hl:∀ A,(tab n n A).length=n:=λA=>AJf _ _ _;obtain ⟨v0,hv,-⟩:=Ae9 (fuel:=101) RA Aa AHx AHz;obtain ⟨v,r,-,hd,hr⟩:=hv
 have hc:AY3 (tab n n A).length (ent<|tab n n A) S (ent<|tab n n B):=by
  rw [hl]
  intro i j hi hj
  rw [Amq hi hj,P.c i j hi hj]
  exact AO0 (λ_ _=>rfl) λk hk=>AO0 (λl hl=>(Amq hk hl).symm) λ_ _=>rfl
 have hS:det (tab n n A).length S * det (tab n n A).length S=1:=by rw [hl];exact P.d
 have hlen:(tab n n B).length=(tab n n A).length:=by rw [hl,hl]
 have hd':det (tab n n B).length (ent<|tab n n B)=r * p ^ v:=by rw [hlen,Akz hc,hS,Int.one_mul,hd]
 obtain ⟨T,G,L,C,e1,e2,D,Ah⟩:=A38 (fuel:=AM1 + 1) RA Aa Ab AHx hd hr Ac;obtain ⟨T',G',L',C',e1',e2',D',-⟩:=A38 (fuel:=AM1 + 1) RB Aa Ab AHx hd' hr Ac;obtain ⟨T2,G2,L2,C2,e3,e4,D2⟩:=A77 (fuel:=AM1 + 1) RA Aa Ab AHx hd hr Ac;obtain rfl:=D.same D' hO hI AHx hlen hc hS;obtain rfl:=D.same D2 hO hI AHx rfl Ajj (by rw [Ac5];rfl);have hsame:=A6q (fuel:=AM1 + 1) Ah Ae;rw [eF];simp only [Option.bind_some];rw [e1];simp only [Option.bind_some];rw [eO];simp only [Option.bind_some];rw [e1'];simp only [Option.bind_some];rw [e2];simp only [Option.bind_some];rw [e2'];simp only [Option.bind_some];rw [e3];simp only [Option.bind_some];rw [e4];simp only [Option.bind_some];rw [hsame];simp only [Option.bind_some,if_true];rw [An5];exact AH4 rfl
end Go.Proofs.YtegoafpaljeobaaGreatDoor
