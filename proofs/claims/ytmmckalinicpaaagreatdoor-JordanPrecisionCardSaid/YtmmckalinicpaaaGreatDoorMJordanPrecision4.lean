/-
  Texts of a proof, joined. Conditions stand in each statement.
-/
import Derived.Test.YtmmckalinicpaaaGreatDoorMJordanPrecision3
set_option linter.unusedVariables false
set_option linter.unusedSimpArgs false
namespace Go.Proofs.YtmmckalinicpaaaGreatDoor
open Go Go.QF
set_option maxRecDepth 100000
set_option maxHeartbeats 4000000
def AQb (fuel:Nat) (Ab:Int) (Aa:Int):Option ((Int × Int) ⊕ ((Int))):=
  ((Aar fuel Aa).bind fun Ac=>(if ¬ Ac=0 then ((ANt fuel Ab Aa).bind fun Ad=>(some (Sum.inl (Aa,Ad)))) else (some (Sum.inr<| Ab))))
def ANx (fuel:Nat) (a1:Int) (a5:Int):Option Int:=
  ((Ak5 fuel a1).bind fun Ac=>((Ak5 fuel a5).bind fun Ad=>((iter (fun s=>AQb fuel s.1 s.2) fuel (Ac,Ad)).bind (fun (Ae:Int)=>(some Ae)))))
theorem AWk {fuel:Nat} {h:AHr} {Bu:Value} {a1:Int} {Bw:Value} {a5:Int} {r:Int} (H3:ZZ h Bu a1) (H7:ZZ h Bw a5) (hp:ANx fuel a1 a5=some r):AIj Tryz.prog 226 #[Bu,Bw] h (fun x h'=>Ext h h'/\ ∃ (x0:Value),x=x0/\ZZ h' x0 r):=by
 unfold ANx at hp;obtain ⟨Bz,rfl,C4⟩:=H3.cs;obtain ⟨B1,rfl,C5⟩:=H7.cs;refine AHx (l:=[_,_]) mx Tryz.func226 rfl rfl rfl rfl rfl (by kernel_rfl) (ACu (ACv (AN2 Bz trivial tt2 rfl rfl fun b9 Ei C6 Ap C7=>AN2 B1 trivial tt2 rfl rfl fun Ej C8 C9 Aq Da=>AI9 [.bool false,.slice none 0 0] ALz rfl trivial tt2 fun B3 Bc Db Ac Dc=>ACt (q_t (ACu ?_)))));have B4:=Ap.trans Aq;have B5:=B4.trans Ac;have Be:UpT [] Bc Bc:=UpT.start all_nil;refine AZv (B:=fun h'=>UpT [] Bc h') 4 [⟨5,104,[.bool false,.slice none 0 0]⟩,⟨6,104,[.bool false,.slice none 0 0]⟩] (fun _ _ U E=>U.thenE E) (by kernel_rfl) Be (Ap7 rfl rfl ALz rfl ALz rfl (fun _ _ U E=>U.thenE E)) (h_l rfl ?_);have B6:=cZ.upT (cZ.upT (cZ.upT C4 Ap.upT) Aq.upT) Ac.upT;refine AKk Bz AH9 (cZ.klen B6) rfl Be (fun h' hb=>(((C6.ext Aq).ext Ac).ext hb.ext).agg) (ACt (h_e rfl fun Ek Ag=>?_));have Bf:=Be.thenE Ag;obtain ⟨Dd,De,Df⟩:=AHv hp;refine AHy Bf (fun _ E=>Bf.thenE E) rfl (Ajk (cZ.upT B6 Ag.upT).2 De) fun El Em Ah Dg=>?_;obtain ⟨En,rfl,Dh⟩:=Dg;have B7:=Bf.thenE Ah;obtain ⟨B8,rfl,Di⟩:=Dh.cs;refine ACt ⟨Ah,?_⟩;refine h_l rfl ?_;have B9:=cZ.upT (cZ.upT (cZ.upT (cZ.upT (cZ.upT C5 Ap.upT) Aq.upT) Ac.upT) Ag.upT) Ah.upT;refine AKk B1 AH9 (cZ.klen B9) rfl B7 (fun h' hb=>((C9.ext Ac).ext hb.ext).agg) (ACt (h_e rfl fun Eo Ai=>?_));have Bg:=B7.thenE Ai;obtain ⟨Dj,Dk,Dl⟩:=AHv Df;refine AHy Bg (fun _ E=>Bg.thenE E) rfl (Ajk (cZ.upT B9 Ai.upT).2 Dk) fun Ep Er Aj Dn=>?_;obtain ⟨Es,rfl,Do⟩:=Dn;have Dp:=Bg.thenE Aj;obtain ⟨Ca,rfl,Dq⟩:=Do.cs;refine ACt ⟨Aj,?_⟩;refine Ahb fun Cb Ak=>Axu fun Ar Au Bh Cd Dr Ds Dt Et Eu=>?_;have A4:=((((AJ8 h h.size).app C7 Ap.1 (Nat.le_refl _)).app Da Aq.1 Ap.1).app Dc Ac.1 B4.1).app (Ap8 Ds Dt Bh.lt Cd.lt Dr) (Dp.thenE Ak).size B5.1;have Bi:=cZ.upT (cZ.upT (cZ.upT Di Ai.upT) Aj.upT) Ak.upT;refine AIw B8 AH9 (cZ.klen Bi) (cZ.klen (AIk Cb)) rfl rfl (cZ.one Bi) Bh fun Ev Ce Du=>?_;have Ab:=Ce.stA Du (AH8 Bh rfl) rfl;have A5:=A4.keep Ab.size;have Cf:=Cd.upT Ab (A4.dj 4 3 rfl rfl (by decide));have Bj:=cZ.upT (cZ.upT Dq Ak.upT) Ab;refine AIw Ca AH9 (cZ.klen Bj) (cZ.klen (cZ.upT (AIk Cb) Ab)) rfl rfl (cZ.one Bj) Cf fun Dv Bl Dw=>ACt (q_t (ACu (AHz ?_)));have Ad:=Bl.stA Dw (AH8 Cf rfl) rfl;obtain ⟨Cg,Dx,Dy⟩:=AHv Dl;obtain ⟨Dz,D0,D1⟩:=AI0 Dx;have Av:=(A5.keep Ad.size).sel [2,3,4] (by decide);have Ch:=Ce.upT Ad (A5.dj 3 4 rfl rfl (by decide));refine AIy 260096 (fun x:(Int) × LvA × (Int) × LvA=>[]) (fun (k:Nat) (x:(Int) × LvA × (Int) × LvA) (h':AHr)=>iter Dz k (x.1,x.2.2.1)=some Cg/\UpT ([Ar] ++ ([Au] ++ [])) Dv h'/\Sp h' h.size [[B3],[Ar],[Au]]/\cZ.rep h' x.1 x.2.1/\cZ.rep h' x.2.2.1 x.2.2.2/\AI1 104 h' Ar x.2.1/\AI1 104 h' Au x.2.2.2) (by kernel_rfl) fuel ((Dd,B8,Dj,Ca):(Int) × LvA × (Int) × LvA) ?_ trivial ?_
 ·exact ⟨D1,UpT.start (AHp (AH8 Ch rfl) (AHp (AH8 Bl rfl) all_nil)),Av,(cZ.upT (cZ.upT Bi Ab) Ad),(cZ.upT Bj Ad),Ch,Bl⟩
 rintro Ew ⟨D2,Aw,Ci,Ae⟩ D3 Am ⟨D4,A6,Bm,A7,Ax,A8,A9⟩;replace A7:cZ.rep Am D2 Aw:=A7;replace Ax:cZ.rep Am Ci Ae:=Ax;replace A8:AI1 104 Am Ar Aw:=A8;replace A9:AI1 104 Am Au Ae:=A9;replace Bm:Sp Am h.size [[B3],[Ar],[Au]]:=Bm;refine (show W _ _ _ (setL [] (mix _ D3 _)) Am from ?_);obtain ⟨D5,Ey,rfl,Ba,Cj⟩:=AIs D4;rw [D0] at Ba;dsimp only at Ba;unfold AQb at Ba;refine ACu (ACu (ACv (AKr Ae AH9 (cZ.klen Ax) rfl A9.agg ?_)));obtain ⟨Ez,D6,Ck⟩:=AHv Ba;refine AHy trivial tt2 rfl (AZt Ax.2 D6) fun Fa Bn Aa D7=>?_;subst D7;refine AIp rfl rfl (AP7 _ _) (ACt (q_t ?_));have Cm:=Bm.keep Aa.1;refine ⟨_,rfl,fun Bo=>?_,fun Bo=>?_⟩
 ·refine AH2 (q_t (AHz (AKf (fun h'=>UpT [] Bn h') (by kernel_rfl) ?_)));have Ay:UpT [] Bn Bn:=UpT.start all_nil;have Bp:=A9.ext Aa;have Az:=cZ.upT Ax Aa.upT;refine AKk Ae AH9 (cZ.klen Az) rfl Ay (fun h' hb=>(Bp.ext hb.ext).agg) ?_;have Cn:=A8.ext Aa;have Bq:=cZ.upT A7 Aa.upT;refine AKk Aw AH9 (cZ.klen Bq) rfl Ay (fun h' hb=>(Cn.ext hb.ext).agg) (AKk Ae AH9 (cZ.klen Az) rfl Ay (fun h' hb=>(Bp.ext hb.ext).agg) ?_);obtain ⟨D8,D9,Ea⟩:=AHv (AJ2 Ck Bo);refine AHy Ay (fun _ E=>Ay.thenE E) rfl (AWg Bq.2 Az.2 D9) fun Fb Fc Af Eb=>?_;obtain ⟨Fd,rfl,Ec⟩:=Eb;obtain ⟨Co,rfl,Ed⟩:=Ec.cs;have Cp:=Cm.keep Af.1;have Cq:=Cn.ext Af;have Br:=cZ.upT Az Af.upT;refine AIw Ae AH9 (cZ.klen Br) (cZ.klen (cZ.upT Bq Af.upT)) rfl rfl (cZ.one Br) Cq fun Fe Cr Ee=>?_;have Ao:=Cr.stA Ee (AH8 Cq rfl) rfl;have Ct:=Cp.keep Ao.size;have Cu:=(Bp.ext Af).upT Ao (Cp.dj 2 1 rfl rfl (by decide));have Bt:=cZ.upT Ed Ao;refine AIw Co AH9 (cZ.klen Bt) (cZ.klen (cZ.upT (cZ.upT Az Af.upT) Ao)) rfl rfl (cZ.one Bt) Cu fun Ff Cv Ef=>ACt (q_b (q_t ?_));have A3:=Cv.stA Ef (AH8 Cu rfl) rfl;obtain rfl:=AHw Ea;exact ⟨D5,((Ci,Ae,D8,Co):(Int) × LvA × (Int) × LvA),Nat.lt_succ_self _,⟨Cj,((((A6.thenE Aa).thenE Af).then Ao (AH4 rfl)).then A3 (ALf (AH4 rfl))),(Ct.keep A3.size),(cZ.upT (cZ.upT Br Ao) A3),(cZ.upT Bt A3),(Cr.upT A3 (Ct.dj 1 2 rfl rfl (by decide))),Cv⟩,trivial⟩
 ·obtain rfl:=AHw (AJ3 Ck Bo);have Cw:=Cj;change _=Cg at Cw;subst Cw;have Cx:=Dy;(try dsimp only at Cx);refine AIo (AIq (AIq (AJ5 (q_t (ACu (ACv ?_))))));have Bb:=cZ.upT A7 Aa.upT;refine AKr Aw AH9 (cZ.klen Bb) rfl (A8.ext Aa).agg ?_;have Cy:=((((((((Db.ext Ag).ext Ah).ext Ai).ext Aj).ext Ak).upT Ab (A4.dj 2 3 rfl rfl (by decide))).upT Ad (A5.dj 2 4 rfl rfl (by decide))).upT A6 (AJc (Av.dj 0 1 rfl rfl (by decide)) (AJc (Av.dj 0 2 rfl rfl (by decide)) AI3))).ext Aa;refine AIw Aw AH9 (cZ.klen Bb) (cZ.klen (cZ.upT (cZ.upT (cZ.upT (cZ.upT (cZ.upT (cZ.upT (cZ.upT (cZ.upT (cZ.upT (cZ.upT (AIk C8) Ac.upT) Ag.upT) Ah.upT) Ai.upT) Aj.upT) Ak.upT) Ab) Ad) A6) Aa.upT)) rfl rfl (cZ.one Bb) Cy fun Fg Cz Eg=>ACt (q_t (AH1 ?_));have C0:=Cz.stA Eg (AH8 Cy rfl) rfl;obtain rfl:=AHw Cx;have C1:=cZ.upT Bb C0;exact ⟨_,AJ7 AH9 (cZ.klen C1) rfl Cz,((((((((((B5.trans Ag).trans Ah).trans Ai).trans Aj).trans Ak).thenT Ab (A4.loAll 3 rfl)).thenT Ad (A5.loAll 4 rfl)).thenT A6 (AHp (Av.loAll 1 rfl) (AHp (Av.loAll 2 rfl) all_nil))).trans Aa).thenT C0 (Cm.loAll 0 rfl)),_,rfl,C1.2⟩
def AMr (fuel:Nat) (a1:Int) (a5:Int):Option ((Int × Int) × Bool):=
  ((Aar fuel a5).bind fun Af=>(if Af=0 then (some ((0,0),false)) else ((((Aar fuel a5).bind fun Ag=>(if Ag < 0 then ((Ag7 fuel a1).bind fun Ah=>((Ag7 fuel a5).bind fun Ai=>(some ( (Ah,Ai))))) else (some ( (a1,a5))))):Option ((Int × Int))).bind (fun ((Ac,Ad):Int × Int)=>((ANx fuel Ac Ad).bind fun Ae=>((AKl fuel Ac Ae).bind fun Aj=>((AKl fuel Ad Ae).bind fun Ak=>(some ((Aj,Ak),true)))))))))
theorem ASn {fuel:Nat} {h:AHr} {B8:Value} {a1:Int} {B9:Value} {a5:Int} {r:((Int × Int) × Bool)} (H3:ZZ h B8 a1) (H7:ZZ h B9 a5) (hp:AMr fuel a1 a5=some r):AIj Tryz.prog 215 #[B8,B9] h (fun x h'=>Ext h h'/\ ∃ (x0:Value),x= .tuple #[x0,.bool r.2]/\Abm h' x0 r.1.1 r.1.2):=by
 unfold AMr at hp;obtain ⟨Bl,rfl,Cb⟩:=H3.cs;obtain ⟨Aw,rfl,Dg⟩:=H7.cs;refine AHx (l:=[_,_]) mx Tryz.func215 rfl rfl rfl rfl rfl (by kernel_rfl) (ACu (ACv (AN2 Bl trivial tt2 rfl rfl fun b9 Fb Dh Ao Di=>AN2 Aw trivial tt2 rfl rfl fun Ai Cd Dj Ap Dk=>AI9 [.bool false,.slice none 0 0,.bool false,.slice none 0 0] ATd rfl trivial tt2 fun Ce Fc Cf Ab Dl=>AHq (ACt (q_t (ACu (ACu (ACv ?_))))))));have Cg:=Ao.trans Ap;have Ch:=AIk Cd;have Ci:=AIk Cd;have Cj:=Dj.ext Ab;have Bm:=cZ.upT (cZ.upT (cZ.upT Dg Ao.upT) Ap.upT) Ab.upT;refine AKr Aw AH9 (cZ.klen Bm) rfl Cj.agg ?_;obtain ⟨Fd,Dn,Ck⟩:=AHv hp;refine AHy trivial tt2 rfl (AZt Bm.2 Dn) fun Fe Aj Aa Do=>?_;subst Do;refine AIp rfl rfl (AMi _ _) (ACt (q_t ?_));have Cm:=(Cg.trans Ab).trans Aa;have Aq:=((((AJ8 h h.size).app Di Ao.1 (Nat.le_refl _)).app Dk Ap.1 Ao.1).app Dl Ab.1 Cg.1).keep Aa.1;refine ⟨_,rfl,fun Bn=>?_,fun Bn=>?_⟩
 ·refine ACu (ACv (AM7 (Ajo ) ?_));have Bo:=AIk Aj;have Bp:=AIk Aj;have Cn:=Cf.ext Aa;refine AIw ([Value.bool false,Value.slice none 0 0] ++ [Value.bool false,Value.slice none 0 0]) AMm (AJm Bo Bp) (AJm (cZ.upT (cZ.upT Ch Ab.upT) Aa.upT) (cZ.upT (cZ.upT Ci Ab.upT) Aa.upT)) rfl rfl (AQt Bo Bp) Cn fun Ff Co Dp=>AHq (ACt (q_t (AH1 (AIi ?_))));have Bq:=Co.stA Dp (AH8 Cn rfl) rfl;obtain rfl:=AHw (AJ2 Ck Bn);have Cp:=cZ.upT Bo Bq;have Cq:=cZ.upT Bp Bq;exact ⟨_,AZc AMm (AJm Cp Cq) rfl Co,(Cm.thenT Bq (Aq.loAll 2 rfl)),_,rfl,⟨_,_,rfl,Cp,Cq⟩⟩
 ·refine AH2 (q_t ?_);obtain ⟨Dq,Dr,Ds⟩:=AHv (AJ3 Ck Bn);have A6:=((Dh.ext Ap).ext Ab).ext Aa;have Ax:=Cj.ext Aa;refine AMu 260096 (fun x:(Int) × LvA × (Int) × LvA=>[]) (fun (x:(Int) × LvA × (Int) × LvA) (h':AHr)=>( (x.1,x.2.2.1))=Dq/\UpT ([b9] ++ ([Ai] ++ [])) Aj h'/\Sp h' h.size [[b9],[Ai],[Ce]]/\cZ.rep h' x.1 x.2.1/\cZ.rep h' x.2.2.1 x.2.2.2/\AI1 104 h' b9 x.2.1/\AI1 104 h' Ai x.2.2.2) (by kernel_rfl) ?_ ?_
  ·refine ACu (ACv ?_);have A7:=cZ.upT Bm Aa.upT;refine AKr Aw AH9 (cZ.klen A7) rfl Ax.agg ?_;obtain ⟨Fg,Dt,Cr⟩:=AHv Dr;refine AHy trivial tt2 rfl (AZt A7.2 Dt) fun Fh Br Ac Du=>?_;subst Du;refine AIp rfl rfl (AI6 _ _) (ACt (q_t ?_));have Ct:=Aq.keep Ac.1;refine ⟨_,rfl,fun Bt=>?_,fun Bt=>?_⟩
   ·refine AKf (fun h'=>UpT [] Br h') (by kernel_rfl) ?_;have A8:UpT [] Br Br:=UpT.start all_nil;have Cu:=A6.ext Ac;have Bu:=cZ.upT (cZ.upT (cZ.upT (cZ.upT (cZ.upT Cb Ao.upT) Ap.upT) Ab.upT) Aa.upT) Ac.upT;refine AKk Bl AH9 (cZ.klen Bu) rfl A8 (fun h' hb=>(Cu.ext hb.ext).agg) ?_;obtain ⟨Dv,Dw,Dx⟩:=AHv (AJ2 Cr Bt);refine AHy A8 (fun _ E=>A8.thenE E) rfl (Afw Bu.2 Dw) fun Fi Fj Ak Dy=>?_;obtain ⟨Fk,rfl,Dz⟩:=Dy;have Bv:=A8.thenE Ak;obtain ⟨Cv,rfl,D0⟩:=Dz.cs;have Cw:=Ax.ext Ac;have Bw:=cZ.upT (cZ.upT A7 Ac.upT) Ak.upT;refine AKk Aw AH9 (cZ.klen Bw) rfl Bv (fun h' hb=>(Cw.ext hb.ext).agg) ?_;obtain ⟨D1,D2,D3⟩:=AHv Dx;refine AHy Bv (fun _ E=>Bv.thenE E) rfl (Afw Bw.2 D2) fun Fl Fm Am D4=>?_;obtain ⟨Fo,rfl,D5⟩:=D4;obtain ⟨Cx,rfl,D6⟩:=D5.cs;have Cy:=(Ct.keep Ak.1).keep Am.1;have Cz:=(Cu.ext Ak).ext Am;have Bx:=cZ.upT D0 Am.upT;refine AIw Cv AH9 (cZ.klen Bx) (cZ.klen (cZ.upT (cZ.upT Bu Ak.upT) Am.upT)) rfl rfl (cZ.one Bx) Cz fun Fp C0 D7=>?_;have Ar:=C0.stA D7 (AH8 Cz rfl) rfl;have C1:=Cy.keep Ar.size;have C2:=((Cw.ext Ak).ext Am).upT Ar (Cy.dj 1 0 rfl rfl (by decide));have By:=cZ.upT D6 Ar;refine AIw Cx AH9 (cZ.klen By) (cZ.klen (cZ.upT (cZ.upT Bw Am.upT) Ar)) rfl rfl (cZ.one By) C2 fun Fq C3 D8=>ACt (q_t ?_);have Ay:=C3.stA D8 (AH8 C2 rfl) rfl;have D9:UpT ([b9] ++ ([Ai] ++ [])) Aj Aj:=UpT.start (AHp (AH8 A6 rfl) (AHp (AH8 Ax rfl) all_nil));exact ⟨((Dv,Cv,D1,Cx):(Int) × LvA × (Int) × LvA),⟨AHw D3,(((((D9.thenE Ac).thenE Ak).thenE Am).then Ar (AH4 rfl)).then Ay (ALf (AH4 rfl))),(C1.keep Ay.size),(cZ.upT (cZ.upT Bx Ar) Ay),(cZ.upT By Ay),(C0.upT Ay (C1.dj 0 1 rfl rfl (by decide))),C3⟩,trivial⟩
   ·refine AH2 (q_t ?_);have Ea:UpT ([b9] ++ ([Ai] ++ [])) Aj Aj:=UpT.start (AHp (AH8 A6 rfl) (AHp (AH8 Ax rfl) all_nil));exact ⟨((a1,Bl,a5,Aw):(Int) × LvA × (Int) × LvA),⟨AHw (AJ3 Cr Bt),(Ea.thenE Ac),Ct,(cZ.upT (cZ.upT (cZ.upT (cZ.upT (cZ.upT Cb Ao.upT) Ap.upT) Ab.upT) Aa.upT) Ac.upT),(cZ.upT A7 Ac.upT),(A6.ext Ac),(Ax.ext Ac)⟩,trivial⟩
  rintro ⟨Eb,A9,Ec,Ba⟩ Ed Au ⟨Ee,Bb,Bz,Az,A3,Bc,Be⟩;replace Az:cZ.rep Au Eb A9:=Az;replace A3:cZ.rep Au Ec Ba:=A3;replace Bc:AI1 104 Au b9 A9:=Bc;replace Be:AI1 104 Au Ai Ba:=Be;replace Bz:Sp Au h.size [[b9],[Ai],[Ce]]:=Bz;refine (show W _ _ _ (setL [] (mix _ Ed _)) Au from ?_);subst Ee;have C4:=Ds;(try dsimp only at C4);refine ACu (ACv (AKr A9 AH9 (cZ.klen Az) rfl Bc.agg (AKr Ba AH9 (cZ.klen A3) rfl Be.agg ?_)));obtain ⟨Fr,Ef,Eg⟩:=AHv C4;refine AHy trivial tt2 rfl (AWk Az.2 A3.2 Ef) fun Ft Eh Af Ei=>?_;obtain ⟨Fu,rfl,Ej⟩:=Ei;have C5:=(Cm.thenT Bb (AHp (Aq.loAll 0 rfl) (AHp (Aq.loAll 1 rfl) all_nil))).trans Af;obtain ⟨B1,rfl,Ek⟩:=Ej.cs;refine AI9 [.bool false,.slice none 0 0] ALz rfl trivial tt2 fun Fv Fw C6 Ad El=>?_;have A4:=(Bz.keep Af.1).app El Ad.1 C5.1;have B3:=cZ.upT Ek Ad.upT;refine AIw B1 AH9 (cZ.klen B3) (cZ.klen (cZ.upT (AIk Eh) Ad.upT)) rfl rfl (cZ.one B3) C6 fun B4 B5 Em=>ACt (q_t (ACu (AKf (fun h'=>UpT [] B4 h') (by kernel_rfl) ?_)));have Ae:=B5.stA Em (AH8 C6 rfl) rfl;have A5:UpT [] B4 B4:=UpT.start all_nil;have C7:=cZ.upT (cZ.upT (cZ.upT Az Af.upT) Ad.upT) Ae;refine AKk A9 AH9 (cZ.klen C7) rfl A5 (fun h' hb=>((((Bc.ext Af).ext Ad).upT Ae (A4.dj 0 3 rfl rfl (by decide))).ext hb.ext).agg) ?_;have B6:=cZ.upT B3 Ae;refine AKk B1 AH9 (cZ.klen B6) rfl A5 (fun h' hb=>(B5.ext hb.ext).agg) ?_;obtain ⟨Fx,En,Eo⟩:=AHv Eg;refine AHy A5 (fun _ E=>A5.thenE E) rfl (AN3 C7.2 B6.2 En) fun Fy Fz Ag Ep=>?_;obtain ⟨F4,rfl,Er⟩:=Ep;have Bf:=A5.thenE Ag;obtain ⟨Es,rfl,Et⟩:=Er.cs;have C8:=cZ.upT (cZ.upT (cZ.upT (cZ.upT A3 Af.upT) Ad.upT) Ae) Ag.upT;refine AKk Ba AH9 (cZ.klen C8) rfl Bf (fun h' hb=>((((Be.ext Af).ext Ad).upT Ae (A4.dj 1 3 rfl rfl (by decide))).ext hb.ext).agg) ?_;have C9:=cZ.upT B6 Ag.upT;refine AKk B1 AH9 (cZ.klen C9) rfl Bf (fun h' hb=>(B5.ext hb.ext).agg) ?_;obtain ⟨F5,Eu,Ev⟩:=AHv Eo;refine AHy Bf (fun _ E=>Bf.thenE E) rfl (AN3 C8.2 C9.2 Eu) fun F6 F7 Av Ew=>?_;obtain ⟨F8,rfl,Ey⟩:=Ew;obtain ⟨Ez,rfl,Bg⟩:=Ey.cs;have Bh:=cZ.upT Et Av.upT;refine AM7 (AX1 Bh Bg) ?_;have Da:=((((((Cf.ext Aa).upT Bb (AJc (Aq.dj 2 0 rfl rfl (by decide)) (AJc (Aq.dj 2 1 rfl rfl (by decide)) AI3))).ext Af).ext Ad).upT Ae (A4.dj 2 3 rfl rfl (by decide))).ext Ag).ext Av;refine AIw (Es ++ Ez) AMm (AJm Bh Bg) (AJm (cZ.upT (cZ.upT (cZ.upT (cZ.upT (cZ.upT (cZ.upT (cZ.upT (cZ.upT Ch Ab.upT) Aa.upT) Bb) Af.upT) Ad.upT) Ae) Ag.upT) Av.upT) (cZ.upT (cZ.upT (cZ.upT (cZ.upT (cZ.upT (cZ.upT (cZ.upT (cZ.upT Ci Ab.upT) Aa.upT) Bb) Af.upT) Ad.upT) Ae) Ag.upT) Av.upT)) rfl rfl (AQt Bh Bg) Da fun F9 Db Fa=>AHq (ACt (q_t (AH1 ?_)));have B7:=Db.stA Fa (AH8 Da rfl) rfl;obtain rfl:=AHw Ev;have Dc:=cZ.upT Bh B7;have Dd:=cZ.upT Bg B7;exact ⟨_,AZc AMm (AJm Dc Dd) rfl Db,(((((C5.trans Ad).thenT Ae (A4.loAll 3 rfl)).trans Ag).trans Av).thenT B7 ((((A4.keep Ae.size).keep Ag.1).keep Av.1).loAll 2 rfl)),_,rfl,⟨_,_,rfl,Dc,Dd⟩⟩
def AQo (fuel:Nat) (a1:Int):Option (Int × Int):=
  ((AUz fuel a1).bind fun Ab=>((AQq fuel 1).bind fun Ac=>(some (Ab,Ac))))
theorem AVc {fuel:Nat} {h:AHr} {Ah:Value} {a1:Int} {r:(Int × Int)} (H3:ZZ h Ah a1) (hp:AQo fuel a1=some r):AIj Tryz.prog 227 #[Ah] h (fun x h'=>Ext h h'/\ ∃ (x0:Value),x=x0/\Abm h' x0 r.1 r.2):=by
 unfold AQo at hp;obtain ⟨Ak,rfl,Aw⟩:=H3.cs;refine AHx (l:=[_]) mx Tryz.func227 rfl rfl rfl rfl rfl (by kernel_rfl) (ACu (ACv (AN2 Ak trivial tt2 rfl rfl fun b5 h6 V7 E8 S9=>AI9 [.bool false,.slice none 0 0,.bool false,.slice none 0 0] ATd rfl trivial tt2 fun Bi Bj Az Aa A3=>ACt (q_t (ACu (ACv ?_))))));have Ao:=cZ.upT (cZ.upT Aw E8.upT) Aa.upT;refine AKr Ak AH9 (cZ.klen Ao) rfl (V7.ext Aa).agg ?_;obtain ⟨Bl,A4,A5⟩:=AHv hp;refine AHy trivial tt2 rfl (AWf Ao.2 A4) fun Bm Bn Ac A6=>?_;obtain ⟨Bo,rfl,A7⟩:=A6;obtain ⟨A8,rfl,A9⟩:=A7.cs;obtain ⟨Bp,Ba,Bb⟩:=AHv A5;refine AHy trivial tt2 rfl (APk Ba) fun Bq Br Ab Bc=>?_;obtain ⟨Bt,rfl,Be⟩:=Bc;obtain ⟨Bf,rfl,Ae⟩:=Be.cs;have Af:=cZ.upT A9 Ab.upT;refine AM7 (AX1 Af Ae) ?_;have Ap:=(Az.ext Ac).ext Ab;refine AIw (A8 ++ Bf) AMm (AJm Af Ae) (AJm (cZ.upT (cZ.upT (cZ.upT (AIk h6) Aa.upT) Ac.upT) Ab.upT) (cZ.upT (cZ.upT (cZ.upT (AIk h6) Aa.upT) Ac.upT) Ab.upT)) rfl rfl (AQt Af Ae) Ap fun Bu Aq Bg=>ACt (q_t (AH1 ?_));have Ag:=Aq.stA Bg (AH8 Ap rfl) rfl;obtain rfl:=AHw Bb;have Ar:=cZ.upT Af Ag;have Au:=cZ.upT Ae Ag;exact ⟨_,AJ7 AMm (AJm Ar Au) rfl Aq,((((E8.trans Aa).trans Ac).trans Ab).thenT Ag ((((((AJ8 h h.size).app S9 E8.1 (Nat.le_refl _)).app A3 Aa.1 E8.1).keep Ac.1).keep Ab.1).loAll 1 rfl)),_,rfl,⟨_,_,rfl,Ar,Au⟩⟩
def AQp (fuel:Nat) (a1:Int):Option (Int × Int):=
  ((AQq fuel a1).bind fun Ac=>((AQo fuel Ac).bind fun Aa=>(some (Aa.1,Aa.2))))
theorem AVd {fuel:Nat} {h:AHr} {a1:Int} {r:(Int × Int)} (hp:AQp fuel a1=some r):AIj Tryz.prog 216 #[(.int .i64 a1)] h (fun x h'=>Ext h h'/\ ∃ (x0:Value),x=x0/\Abm h' x0 r.1 r.2):=by
 unfold AQp at hp;refine AHx (l:=[_]) mx Tryz.func216 rfl rfl rfl rfl rfl (by kernel_rfl) (ACu (ACv (AI9 [.bool false,.slice none 0 0,.bool false,.slice none 0 0] ATd rfl trivial tt2 fun b2 h3 V4 E5 S6=>ACt (q_t (ACu (ACv (AHo ?_)))))));obtain ⟨A9,Aq,Ar⟩:=AHv hp;refine AHy trivial tt2 rfl (APk Aq) fun Ba Bb Aa Au=>?_;obtain ⟨Bc,rfl,Av⟩:=Au;obtain ⟨Be,rfl,Aw⟩:=Av.cs;obtain ⟨Bf,Ax,Ay⟩:=AHv Ar;refine AHy trivial tt2 rfl (AVc Aw.2 Ax) fun Bg Bh Ab Az=>?_;obtain ⟨Bi,rfl,A3⟩:=Az;obtain ⟨A4,A5,rfl,Ad,Ae⟩:=A3;have Ai:=(V4.ext Aa).ext Ab;refine AIw (A4 ++ A5) AMm (AJm Ad Ae) (AJm (cZ.upT (cZ.upT (cZ.upT (AIk h) E5.upT) Aa.upT) Ab.upT) (cZ.upT (cZ.upT (cZ.upT (AIk h) E5.upT) Aa.upT) Ab.upT)) rfl rfl (AQt Ad Ae) Ai fun Bj Aj A6=>ACt (q_t (AH1 ?_));have Af:=Aj.stA A6 (AH8 Ai rfl) rfl;obtain rfl:=AHw Ay;have Ak:=cZ.upT Ad Af;have Am:=cZ.upT Ae Af;exact ⟨_,AJ7 AMm (AJm Ak Am) rfl Aj,(((E5.trans Aa).trans Ab).thenT Af (((((AJ8 h h.size).app S6 E5.1 (Nat.le_refl _)).keep Aa.1).keep Ab.1).loAll 0 rfl)),_,rfl,⟨_,_,rfl,Ak,Am⟩⟩
def AJy (fuel:Nat) (a3:Int) (a5:Int):Option (Int × Int):=
  ((AMr fuel a3 a5).bind fun (Aa,Ae)=>(if (!Ae)=true then ((AQp fuel 0).bind fun Ab=>(some (Ab.1,Ab.2))) else (some (Aa.1,Aa.2))))
theorem AL9 {fuel:Nat} {h:AHr} {Ay:Value} {a3 a5:Int} {r:(Int × Int)} (H2:Abm h Ay a3 a5) (hp:AJy fuel a3 a5=some r):AIj Tryz.prog 198 #[Ay] h (fun x h'=>Ext h h'/\ ∃ (x0:Value),x=x0/\Abm h' x0 r.1 r.2):=by
 unfold AJy at hp;obtain ⟨A5,A6,rfl,H2z0,H2z1⟩:=H2;refine AHx (l:=[_]) mx Tryz.func198 rfl rfl rfl rfl rfl (by kernel_rfl) (ACu (ACv (AN2 (A5 ++ A6) trivial tt2 rfl rfl fun b7 h8 V9 Ae Bv=>AI9 [.bool false,.slice none 0 0,.bool false,.slice none 0 0] ATd rfl trivial tt2 fun Cg Ch A8 Ac Bw=>ACt (q_t (ACu (ACv (AJq (fs:=2) Ab0 (by kernel_rfl) (by decide) rfl ?_)))))));have A9:=AIk h8;have Ba:=AIk h8;have Bb:=V9.ext Ac;have Aj:=cZ.upT (cZ.upT H2z0 Ae.upT) Ac.upT;refine AKr A5 AH9 (cZ.klen Aj) rfl (Bb.aggL) (AJq (fs:=2) AX0 (by kernel_rfl) (by decide) rfl ?_);have Bc:=cZ.upT (cZ.upT H2z1 Ae.upT) Ac.upT;refine AKr A6 AH9 (cZ.klen Bc) rfl (Bb.aggR (cZ.klen Aj)) ?_;obtain ⟨⟨Ci,Cj⟩,Bx,Ak⟩:=AHv hp;dsimp only at Ak;refine AHy trivial tt2 rfl (ASn Aj.2 Bc.2 Bx) fun Ck Be Ad By=>?_;obtain ⟨Cm,rfl,Bz⟩:=By;have Bf:=(Ae.trans Ac).trans Ad;obtain ⟨Am,Ao,rfl,B1,B3⟩:=Bz;refine AHo (AI7 rfl rfl (AI7 rfl rfl (AI9 [.bool false,.slice none 0 0,.bool false,.slice none 0 0] ATd rfl trivial tt2 fun Cn Co Bg Aa B4=>?_)));have Ag:=((((AJ8 h h.size).app Bv Ae.1 (Nat.le_refl _)).app Bw Ac.1 Ae.1).keep Ad.1).app B4 Aa.1 Bf.1;have Ap:=cZ.upT B1 Aa.upT;have Aq:=cZ.upT B3 Aa.upT;refine AIw (Am ++ Ao) AMm (AJm Ap Aq) (AJm (cZ.upT (AIk Be) Aa.upT) (cZ.upT (AIk Be) Aa.upT)) rfl rfl (AQt Ap Aq) Bg fun Cp I64 B5=>AHq (ACt (q_t (ACu (ACu (ACv (AHo (AMj rfl (ACt (q_t ?_)))))))));have Ab:=I64.stA B5 (AH8 Bg rfl) rfl;have Bh:=(Bf.trans Aa).thenT Ab (Ag.loAll 2 rfl);have Bi:=Ag.keep Ab.size;refine ⟨_,rfl,fun Ar=>?_,fun Ar=>?_⟩
 ·refine ACu (ACv ?_);obtain ⟨Cq,B6,B7⟩:=AHv (ifT Ak Ar);refine AHy trivial tt2 rfl (AVd B6) fun Cr Ct Af B8=>?_;obtain ⟨Cu,rfl,B9⟩:=B8;obtain ⟨Ca,Cb,rfl,Au,Av⟩:=B9;have Bj:=(((A8.ext Ad).ext Aa).upT Ab (Ag.dj 1 2 rfl rfl (by decide))).ext Af;refine AIw (Ca ++ Cb) AMm (AJm Au Av) (AJm (cZ.upT (cZ.upT (cZ.upT (cZ.upT (cZ.upT A9 Ac.upT) Ad.upT) Aa.upT) Ab) Af.upT) (cZ.upT (cZ.upT (cZ.upT (cZ.upT (cZ.upT Ba Ac.upT) Ad.upT) Aa.upT) Ab) Af.upT)) rfl rfl (AQt Au Av) Bj fun Cv Bl Cd=>ACt (q_t (AH1 (AIi ?_)));have Aw:=Bl.stA Cd (AH8 Bj rfl) rfl;obtain rfl:=AHw B7;have Bm:=cZ.upT Au Aw;have Bn:=cZ.upT Av Aw;exact ⟨_,AJ7 AMm (AJm Bm Bn) rfl Bl,((Bh.trans Af).thenT Aw ((Bi.keep Af.1).loAll 1 rfl)),_,rfl,⟨_,_,rfl,Bm,Bn⟩⟩
 ·refine AH2 (q_t (ACu (ACv ?_)));have Ah:=cZ.upT Ap Ab;have Ai:=cZ.upT Aq Ab;refine AKr (Am ++ Ao) AMm (AJm Ah Ai) rfl (I64.agg) ?_;have Bo:=((A8.ext Ad).ext Aa).upT Ab (Ag.dj 1 2 rfl rfl (by decide));refine AIw (Am ++ Ao) AMm (AJm Ah Ai) (AJm (cZ.upT (cZ.upT (cZ.upT (cZ.upT A9 Ac.upT) Ad.upT) Aa.upT) Ab) (cZ.upT (cZ.upT (cZ.upT (cZ.upT Ba Ac.upT) Ad.upT) Aa.upT) Ab)) rfl rfl (AQt Ah Ai) Bo fun Cw Bp Ce=>ACt (q_t (AH1 ?_));have Ax:=Bp.stA Ce (AH8 Bo rfl) rfl;obtain rfl:=AHw (AQm Ak Ar);have Bq:=cZ.upT Ah Ax;have Br:=cZ.upT Ai Ax;exact ⟨_,AJ7 AMm (AJm Bq Br) rfl Bp,(Bh.thenT Ax (Bi.loAll 1 rfl)),_,rfl,⟨_,_,rfl,Bq,Br⟩⟩
def AL7 (fuel:Nat) (a1:Int) (a5:Int):Option (Int × Int):=
  ((AJy fuel a1 a5).bind fun Aa=>(some (Aa.1,Aa.2)))
theorem ATn {fuel:Nat} {h:AHr} {Aj:Value} {a1:Int} {Am:Value} {a5:Int} {r:(Int × Int)} (H3:ZZ h Aj a1) (H7:ZZ h Am a5) (hp:AL7 fuel a1 a5=some r):AIj Tryz.prog 149 #[Aj,Am] h (fun x h'=>Ext h h'/\ ∃ (x0:Value),x=x0/\Abm h' x0 r.1 r.2):=by
 unfold AL7 at hp;obtain ⟨Aq,rfl,A5⟩:=H3.cs;obtain ⟨Ar,rfl,A6⟩:=H7.cs;refine AHx (l:=[_,_]) mx Tryz.func149 rfl rfl rfl rfl rfl (by kernel_rfl) (ACu (ACv (AN2 Aq trivial tt2 rfl rfl fun b9 Bn A7 Ab A8=>AN2 Ar trivial tt2 rfl rfl fun Bo Au A9 Ac Ba=>AI9 [.bool false,.slice none 0 0,.bool false,.slice none 0 0] ATd rfl trivial tt2 fun Bp Bq Bb Aa Bc=>ACt (q_t (ACu (ACv ?_))))));have Av:=Ab.trans Ac;have Ae:=cZ.upT (cZ.upT (cZ.upT A5 Ab.upT) Ac.upT) Aa.upT;refine AKr Aq AH9 (cZ.klen Ae) rfl ((A7.ext Ac).ext Aa).agg ?_;have Af:=cZ.upT (cZ.upT (cZ.upT A6 Ab.upT) Ac.upT) Aa.upT;refine AKr Ar AH9 (cZ.klen Af) rfl (A9.ext Aa).agg (AM7 (AX1 Ae Af) ?_);obtain ⟨Br,Be,Bf⟩:=AHv hp;refine AHy trivial tt2 rfl (AL9 ⟨_,_,rfl,Ae,Af⟩ Be) fun Bt Bu Ad Bg=>?_;obtain ⟨Bv,rfl,Bh⟩:=Bg;obtain ⟨Bi,Bj,rfl,Ag,Ah⟩:=Bh;have Aw:=Bb.ext Ad;refine AIw (Bi ++ Bj) AMm (AJm Ag Ah) (AJm (cZ.upT (cZ.upT (AIk Au) Aa.upT) Ad.upT) (cZ.upT (cZ.upT (AIk Au) Aa.upT) Ad.upT)) rfl rfl (AQt Ag Ah) Aw fun Bw Ax Bl=>ACt (q_t (AH1 ?_));have Ai:=Ax.stA Bl (AH8 Aw rfl) rfl;obtain rfl:=AHw Bf;have Ay:=cZ.upT Ag Ai;have Az:=cZ.upT Ah Ai;exact ⟨_,AJ7 AMm (AJm Ay Az) rfl Ax,(((Av.trans Aa).trans Ad).thenT Ai ((((((AJ8 h h.size).app A8 Ab.1 (Nat.le_refl _)).app Ba Ac.1 Ab.1).app Bc Aa.1 Av.1).keep Ad.1).loAll 2 rfl)),_,rfl,⟨_,_,rfl,Ay,Az⟩⟩
def AOy (fuel:Nat):Option (Int × Int):=
  ((AQq fuel 1).bind fun x9=>((AQq fuel 2).bind fun Ab=>(some (x9,Ab))))
theorem AVu {fuel:Nat} {h:AHr} {r:(Int × Int)} (hp:AOy fuel=some r):AIj Tryz.prog 197 #[] h (fun x h'=>Ext h h'/\ ∃ (x0:Value),x=x0/\Abm h' x0 r.1 r.2):=by
 unfold AOy at hp;refine AHx (l:=[]) mx Tryz.func197 rfl rfl rfl rfl rfl (by kernel_rfl) (ACu (ACv (AI9 [.bool false,.slice none 0 0,.bool false,.slice none 0 0] ATd rfl trivial tt2 fun b1 h2 V3 E4 S5=>ACt (q_t (ACu (ACv ?_))))));obtain ⟨A8,Ap,Aq⟩:=AHv hp;refine AHy trivial tt2 rfl (APk Ap) fun A9 Ba Ab Ar=>?_;obtain ⟨Bb,rfl,Au⟩:=Ar;obtain ⟨Av,rfl,Aw⟩:=Au.cs;obtain ⟨Bc,Ax,Ay⟩:=AHv Aq;refine AHy trivial tt2 rfl (APk Ax) fun Be Bf Aa Az=>?_;obtain ⟨Bg,rfl,A3⟩:=Az;obtain ⟨A4,rfl,Ad⟩:=A3.cs;have Ae:=cZ.upT Aw Aa.upT;refine AM7 (AX1 Ae Ad) ?_;have Ah:=(V3.ext Ab).ext Aa;refine AIw (Av ++ A4) AMm (AJm Ae Ad) (AJm (cZ.upT (cZ.upT (cZ.upT (AIk h) E4.upT) Ab.upT) Aa.upT) (cZ.upT (cZ.upT (cZ.upT (AIk h) E4.upT) Ab.upT) Aa.upT)) rfl rfl (AQt Ae Ad) Ah fun Bh Ai A5=>ACt (q_t (AH1 ?_));have Af:=Ai.stA A5 (AH8 Ah rfl) rfl;obtain rfl:=AHw Ay;have Aj:=cZ.upT Ae Af;have Ak:=cZ.upT Ad Af;exact ⟨_,AJ7 AMm (AJm Aj Ak) rfl Ai,(((E4.trans Ab).trans Aa).thenT Af (((((AJ8 h h.size).app S5 E4.1 (Nat.le_refl _)).keep Ab.1).keep Aa.1).loAll 0 rfl)),_,rfl,⟨_,_,rfl,Aj,Ak⟩⟩
def APg (fuel:Nat) (a3:Int) (a5:Int) (a9:Int) (Ag:Int):Option (Int × Int):=
  ((AJy fuel a3 a5).bind fun Aa=>((AJy fuel a9 Ag).bind fun Ab=>((AUy fuel Aa.1 Ab.2).bind fun Ah=>((AUy fuel Ab.1 Aa.2).bind fun Ai=>((Ak4 fuel Ah Ai).bind fun Aj=>((AUy fuel Aa.2 Ab.2).bind fun Ak=>((AMr fuel Aj Ak).bind fun (Ac,Am)=>(some (Ac.1,Ac.2)))))))))
theorem AWl {fuel:Nat} {h:AHr} {Ca:Value} {a3 a5:Int} {Ce:Value} {a9 Cg:Int} {r:(Int × Int)} (H2:Abm h Ca a3 a5) (H8:Abm h Ce a9 Cg) (hp:APg fuel a3 a5 a9 Cg=some r):AIj Tryz.prog 196 #[Ca,Ce] h (fun x h'=>Ext h h'/\ ∃ (x0:Value),x=x0/\Abm h' x0 r.1 r.2):=by
 unfold APg at hp;obtain ⟨Ci,Cj,rfl,H2z0,H2z1⟩:=H2;obtain ⟨Ck,Cm,rfl,H8z0,H8z1⟩:=H8;refine AHx (l:=[_,_]) mx Tryz.func196 rfl rfl rfl rfl rfl (by kernel_rfl) (ACu (ACv (AN2 (Ci ++ Cj) trivial tt2 rfl rfl fun Fb Fc Df Ar Dg=>AN2 (Ck ++ Cm) trivial tt2 rfl rfl fun Fd Cn Dh Au Di=>AI9 [.bool false,.slice none 0 0,.bool false,.slice none 0 0] ATd rfl trivial tt2 fun Fe Ba Dj Af Dk=>ACt (q_t (ACu ?_)))));have Co:=Ar.trans Au;have Cp:=Co.trans Af;have Bb:UpT [] Ba Ba:=UpT.start all_nil;refine AZv (B:=fun h'=>UpT [] Ba h') 4 [⟨5,170,[.bool false,.slice none 0 0,.bool false,.slice none 0 0]⟩,⟨6,170,[.bool false,.slice none 0 0,.bool false,.slice none 0 0]⟩] (fun _ _ U E=>U.thenE E) (by kernel_rfl) Bb (Ap7 rfl rfl ATd rfl ATd rfl (fun _ _ U E=>U.thenE E)) (h_l rfl ?_);have Cq:=cZ.upT (cZ.upT (cZ.upT H2z0 Ar.upT) Au.upT) Af.upT;have Cr:=cZ.upT (cZ.upT (cZ.upT H2z1 Ar.upT) Au.upT) Af.upT;refine AKk (Ci ++ Cj) AMm (AJm Cq Cr) rfl Bb (fun h' hb=>(((Df.ext Au).ext Af).ext hb.ext).agg) (ACt (h_e rfl fun Ff Aj=>?_));have Bc:=Bb.thenE Aj;obtain ⟨Fg,Dl,Dn⟩:=AHv hp;refine AHy Bc (fun _ E=>Bc.thenE E) rfl (AL9 ⟨_,_,rfl,(cZ.upT Cq Aj.upT),(cZ.upT Cr Aj.upT)⟩ Dl) fun Fh Fi Ao Do=>?_;obtain ⟨Fj,rfl,Dp⟩:=Do;have Ct:=Bc.thenE Ao;obtain ⟨Cu,Be,rfl,Dq,Dr⟩:=Dp;refine ACt ⟨Ao,?_⟩;refine h_l rfl ?_;have Cv:=cZ.upT (cZ.upT (cZ.upT (cZ.upT (cZ.upT H8z0 Ar.upT) Au.upT) Af.upT) Aj.upT) Ao.upT;have Cw:=cZ.upT (cZ.upT (cZ.upT (cZ.upT (cZ.upT H8z1 Ar.upT) Au.upT) Af.upT) Aj.upT) Ao.upT;refine AKk (Ck ++ Cm) AMm (AJm Cv Cw) rfl Ct (fun h' hb=>((Dh.ext Af).ext hb.ext).agg) (ACt (h_e rfl fun Fk Ak=>?_));have Bf:=Ct.thenE Ak;obtain ⟨Fl,Ds,Dt⟩:=AHv Dn;refine AHy Bf (fun _ E=>Bf.thenE E) rfl (AL9 ⟨_,_,rfl,(cZ.upT Cv Ak.upT),(cZ.upT Cw Ak.upT)⟩ Ds) fun Fm Fo Ap Du=>?_;obtain ⟨Fp,rfl,Dv⟩:=Du;have Dw:=Bf.thenE Ap;obtain ⟨Cx,Bg,rfl,Dx,Dy⟩:=Dv;refine ACt ⟨Ap,?_⟩;refine Ahb fun A3 Am=>Axu fun Fq Fr Bh Cy Dz D0 D1 Ft Fu=>?_;have A4:=((((AJ8 h h.size).app Dg Ar.1 (Nat.le_refl _)).app Di Au.1 Ar.1).app Dk Af.1 Co.1).app (Ap8 D0 D1 Bh.lt Cy.lt Dz) (Dw.thenE Am).size Cp.1;have Bi:=cZ.upT (cZ.upT (cZ.upT Dq Ak.upT) Ap.upT) Am.upT;have Bj:=cZ.upT (cZ.upT (cZ.upT Dr Ak.upT) Ap.upT) Am.upT;refine AIw (Cu ++ Be) AMm (AJm Bi Bj) (AJm (AIk A3) (AIk A3)) rfl rfl (AQt Bi Bj) Bh fun Fv Cz D2=>?_;have Aa:=Cz.stA D2 (AH8 Bh rfl) rfl;have A5:=A4.keep Aa.size;have C0:=Cy.upT Aa (A4.dj 4 3 rfl rfl (by decide));have Bl:=cZ.upT (cZ.upT Dx Am.upT) Aa;have Bm:=cZ.upT (cZ.upT Dy Am.upT) Aa;refine AIw (Cx ++ Bg) AMm (AJm Bl Bm) (AJm (cZ.upT (AIk A3) Aa) (cZ.upT (AIk A3) Aa)) rfl rfl (AQt Bl Bm) C0 fun Bn A6 D3=>ACt (q_t (ACu ?_));have Ag:=A6.stA D3 (AH8 C0 rfl) rfl;have C1:=((((((Cp.trans Aj).trans Ao).trans Ak).trans Ap).trans Am).thenT Aa (A4.loAll 3 rfl)).thenT Ag (A5.loAll 4 rfl);have A7:UpT [] Bn Bn:=UpT.start all_nil;refine AZv (B:=fun h'=>UpT [] Bn h') 20 [⟨7,170,[.bool false,.slice none 0 0,.bool false,.slice none 0 0]⟩] (fun _ _ U E=>U.thenE E) (by kernel_rfl) A7 (Ajn rfl ATd rfl (fun _ _ U E=>U.thenE E)) (h_l rfl (AJq (fs:=2) Ab0 (by kernel_rfl) (by decide) rfl (ACt (h_l rfl ?_))));have Bo:=Cz.upT Ag (A5.dj 3 4 rfl rfl (by decide));have Bp:=cZ.upT (cZ.upT Bi Aa) Ag;refine AKk Cu AH9 (cZ.klen Bp) rfl A7 (fun h' hb=>(Bo.ext hb.ext).aggL) (ACt (h_l rfl (AJq (fs:=2) AX0 (by kernel_rfl) (by decide) rfl (ACt (h_l rfl ?_)))));have C2:=cZ.upT Bl Ag;have Bq:=cZ.upT Bm Ag;refine AKk Bg AH9 (cZ.klen Bq) rfl A7 (fun h' hb=>(A6.ext hb.ext).aggR (cZ.klen C2)) (ACt (h_e rfl fun Fw Ac=>?_));have Br:=A7.thenE Ac;obtain ⟨Fx,D4,D5⟩:=AHv Dt;refine AHy Br (fun _ E=>Br.thenE E) rfl (ATb (cZ.upT Bp Ac.upT).2 (cZ.upT Bq Ac.upT).2 D4) fun Fy Fz Ah D6=>?_;obtain ⟨F4,rfl,D7⟩:=D6;have Bt:=Br.thenE Ah;obtain ⟨F5,rfl,D8⟩:=D7.cs;refine ACt ⟨Ah,?_⟩;refine h_l rfl (AJq (fs:=2) Ab0 (by kernel_rfl) (by decide) rfl (ACt (h_l rfl ?_)));have Bu:=cZ.upT (cZ.upT C2 Ac.upT) Ah.upT;refine AKk Cx AH9 (cZ.klen Bu) rfl Bt (fun h' hb=>(A6.ext hb.ext).aggL) (ACt (h_l rfl (AJq (fs:=2) AX0 (by kernel_rfl) (by decide) rfl (ACt (h_l rfl ?_)))));have C3:=cZ.upT (cZ.upT Bp Ac.upT) Ah.upT;have Bv:=cZ.upT (cZ.upT (cZ.upT (cZ.upT Bj Aa) Ag) Ac.upT) Ah.upT;refine AKk Be AH9 (cZ.klen Bv) rfl Bt (fun h' hb=>(Bo.ext hb.ext).aggR (cZ.klen C3)) (ACt (h_e rfl fun F6 Ab=>?_));have Bw:=Bt.thenE Ab;obtain ⟨F7,D9,Ea⟩:=AHv D5;refine AHy Bw (fun _ E=>Bw.thenE E) rfl (ATb (cZ.upT Bu Ab.upT).2 (cZ.upT Bv Ab.upT).2 D9) fun F8 F9 Ad Eb=>?_;obtain ⟨Ga,rfl,Ec⟩:=Eb;have Ed:=Bw.thenE Ad;obtain ⟨Gb,rfl,Ee⟩:=Ec.cs;refine ACt ⟨Ad,?_⟩;refine h_e rfl fun Gc Ae=>?_;have Bx:=Ed.thenE Ae;obtain ⟨Gd,Ef,Eg⟩:=AHv Ea;refine AHy Bx (fun _ E=>Bx.thenE E) rfl (Ajh (cZ.upT (cZ.upT (cZ.upT D8 Ab.upT) Ad.upT) Ae.upT).2 (cZ.upT Ee Ae.upT).2 Ef) fun Ge Gf Ai Eh=>?_;obtain ⟨Gg,rfl,Ei⟩:=Eh;have By:=Bx.thenE Ai;obtain ⟨Gh,rfl,Ej⟩:=Ei.cs;refine ACt ⟨Ai,?_⟩;refine h_l rfl (AJq (fs:=2) AX0 (by kernel_rfl) (by decide) rfl (ACt (h_l rfl ?_)));have C4:=cZ.upT (cZ.upT (cZ.upT (cZ.upT Bv Ab.upT) Ad.upT) Ae.upT) Ai.upT;refine AKk Be AH9 (cZ.klen C4) rfl By (fun h' hb=>(Bo.ext hb.ext).aggR (cZ.klen (cZ.upT (cZ.upT (cZ.upT (cZ.upT C3 Ab.upT) Ad.upT) Ae.upT) Ai.upT))) (ACt (h_l rfl (AJq (fs:=2) AX0 (by kernel_rfl) (by decide) rfl (ACt (h_l rfl ?_)))));have C5:=cZ.upT (cZ.upT (cZ.upT (cZ.upT (cZ.upT (cZ.upT Bq Ac.upT) Ah.upT) Ab.upT) Ad.upT) Ae.upT) Ai.upT;refine AKk Bg AH9 (cZ.klen C5) rfl By (fun h' hb=>(A6.ext hb.ext).aggR (cZ.klen (cZ.upT (cZ.upT (cZ.upT (cZ.upT Bu Ab.upT) Ad.upT) Ae.upT) Ai.upT))) (ACt (h_e rfl fun Gi Aq=>?_));have Bz:=By.thenE Aq;obtain ⟨Gj,Ek,El⟩:=AHv Eg;refine AHy Bz (fun _ E=>Bz.thenE E) rfl (ATb (cZ.upT C4 Aq.upT).2 (cZ.upT C5 Aq.upT).2 Ek) fun Gk Gl Av Em=>?_;obtain ⟨Gm,rfl,En⟩:=Em;have Eo:=Bz.thenE Av;obtain ⟨Gn,rfl,Ep⟩:=En.cs;refine ACt ⟨Av,?_⟩;refine h_e rfl fun Gp Aw=>?_;have B1:=Eo.thenE Aw;obtain ⟨⟨Gq,Gr⟩,Er,C6⟩:=AHv El;dsimp only at C6;refine AHy B1 (fun _ E=>B1.thenE E) rfl (ASn (cZ.upT (cZ.upT (cZ.upT Ej Aq.upT) Av.upT) Aw.upT).2 (cZ.upT Ep Aw.upT).2 Er) fun Gt Gu Az Es=>?_;obtain ⟨Gv,rfl,Et⟩:=Es;have Eu:=B1.thenE Az;obtain ⟨B3,B4,rfl,Ev,Ew⟩:=Et;refine ACt ⟨Az,?_⟩;refine h_l rfl (AHo (ACt (h_l rfl (AI7 rfl rfl (ACt (h_l rfl (AI7 rfl rfl (ACt (Ahb fun C7 Ax=>Avu fun Gw B5 Ey Gx=>?_)))))))));have B6:=(A5.keep Ag.size).app (ARl Ey B5.lt) (Eu.thenE Ax).size C1.1;have B7:=cZ.upT Ev Ax.upT;have B8:=cZ.upT Ew Ax.upT;refine AIw (B3 ++ B4) AMm (AJm B7 B8) (AJm (AIk C7) (AIk C7)) rfl rfl (AQt B7 B8) B5 fun Gy C8 Ez=>AHq (ACt (q_t (ACu (ACv ?_))));have Ay:=C8.stA Ez (AH8 B5 rfl) rfl;have A8:=cZ.upT B7 Ay;have A9:=cZ.upT B8 Ay;refine AKr (B3 ++ B4) AMm (AJm A8 A9) rfl (C8.agg) ?_;have C9:=((((((((((((((((((Dj.ext Aj).ext Ao).ext Ak).ext Ap).ext Am).upT Aa (A4.dj 2 3 rfl rfl (by decide))).upT Ag (A5.dj 2 4 rfl rfl (by decide))).ext Ac).ext Ah).ext Ab).ext Ad).ext Ae).ext Ai).ext Aq).ext Av).ext Aw).ext Az).ext Ax).upT Ay (B6.dj 2 5 rfl rfl (by decide));refine AIw (B3 ++ B4) AMm (AJm A8 A9) (AJm (cZ.upT (cZ.upT (cZ.upT (cZ.upT (cZ.upT (cZ.upT (cZ.upT (cZ.upT (cZ.upT (cZ.upT (cZ.upT (cZ.upT (cZ.upT (cZ.upT (cZ.upT (cZ.upT (cZ.upT (cZ.upT (cZ.upT (cZ.upT (AIk Cn) Af.upT) Aj.upT) Ao.upT) Ak.upT) Ap.upT) Am.upT) Aa) Ag) Ac.upT) Ah.upT) Ab.upT) Ad.upT) Ae.upT) Ai.upT) Aq.upT) Av.upT) Aw.upT) Az.upT) Ax.upT) Ay) (cZ.upT (cZ.upT (cZ.upT (cZ.upT (cZ.upT (cZ.upT (cZ.upT (cZ.upT (cZ.upT (cZ.upT (cZ.upT (cZ.upT (cZ.upT (cZ.upT (cZ.upT (cZ.upT (cZ.upT (cZ.upT (cZ.upT (cZ.upT (AIk Cn) Af.upT) Aj.upT) Ao.upT) Ak.upT) Ap.upT) Am.upT) Aa) Ag) Ac.upT) Ah.upT) Ab.upT) Ad.upT) Ae.upT) Ai.upT) Aq.upT) Av.upT) Aw.upT) Az.upT) Ax.upT) Ay)) rfl rfl (AQt A8 A9) C9 fun Gz Da Fa=>ACt (q_t (AH1 ?_));have B9:=Da.stA Fa (AH8 C9 rfl) rfl;obtain rfl:=AHw C6;have Db:=cZ.upT A8 B9;have Dc:=cZ.upT A9 B9;exact ⟨_,AJ7 AMm (AJm Db Dc) rfl Da,(((((((((((((C1.trans Ac).trans Ah).trans Ab).trans Ad).trans Ae).trans Ai).trans Aq).trans Av).trans Aw).trans Az).trans Ax).thenT Ay (B6.loAll 5 rfl)).thenT B9 ((B6.keep Ay.size).loAll 2 rfl)),_,rfl,⟨_,_,rfl,Db,Dc⟩⟩
def AOk (fuel:Nat) (a3:Int) (a5:Int):Option Int:=
  ((AJy fuel a3 a5).bind fun Aa=>((AKl fuel Aa.1 Aa.2).bind fun Ad=>(some Ad)))
theorem AVe {fuel:Nat} {h:AHr} {Ao:Value} {a3 a5:Int} {r:Int} (H2:Abm h Ao a3 a5) (hp:AOk fuel a3 a5=some r):AIj Tryz.prog 195 #[Ao] h (fun x h'=>Ext h h'/\ ∃ (x0:Value),x=x0/\ZZ h' x0 r):=by
 unfold AOk at hp;obtain ⟨Au,Av,rfl,H2z0,H2z1⟩:=H2;refine AHx (l:=[_]) mx Tryz.func195 rfl rfl rfl rfl rfl (by kernel_rfl) (ACu (ACv (AN2 (Au ++ Av) trivial tt2 rfl rfl fun b7 h8 V9 Ad Bf=>AI9 [.bool false,.slice none 0 0] ALz rfl trivial tt2 fun Bz B1 Bg Ab Bh=>ACt (q_t (ACu (ACv ?_))))));have Aw:=cZ.upT (cZ.upT H2z0 Ad.upT) Ab.upT;have Ax:=cZ.upT (cZ.upT H2z1 Ad.upT) Ab.upT;refine AKr (Au ++ Av) AMm (AJm Aw Ax) rfl ((V9.ext Ab).agg) ?_;obtain ⟨B3,Bi,Bj⟩:=AHv hp;refine AHy trivial tt2 rfl (AL9 ⟨_,_,rfl,Aw,Ax⟩ Bi) fun B4 Ay Ae Bl=>?_;obtain ⟨B5,rfl,Bm⟩:=Bl;have Az:=(Ad.trans Ab).trans Ae;obtain ⟨A3,A4,rfl,Bn,Bo⟩:=Bm;refine AI9 [.bool false,.slice none 0 0,.bool false,.slice none 0 0] ATd rfl trivial tt2 fun B6 B7 A5 Aa Bp=>?_;have Ag:=((((AJ8 h h.size).app Bf Ad.1 (Nat.le_refl _)).app Bh Ab.1 Ad.1).keep Ae.1).app Bp Aa.1 Az.1;have Ah:=cZ.upT Bn Aa.upT;have Ai:=cZ.upT Bo Aa.upT;refine AIw (A3 ++ A4) AMm (AJm Ah Ai) (AJm (cZ.upT (AIk Ay) Aa.upT) (cZ.upT (AIk Ay) Aa.upT)) rfl rfl (AQt Ah Ai) A5 fun B8 Aj Bq=>ACt (q_t (ACu (ACv (AJq (fs:=2) Ab0 (by kernel_rfl) (by decide) rfl ?_))));have Ac:=Aj.stA Bq (AH8 A5 rfl) rfl;have Ak:=cZ.upT Ah Ac;refine AKr A3 AH9 (cZ.klen Ak) rfl (Aj.aggL) (AJq (fs:=2) AX0 (by kernel_rfl) (by decide) rfl ?_);have A6:=cZ.upT Ai Ac;refine AKr A4 AH9 (cZ.klen A6) rfl (Aj.aggR (cZ.klen Ak)) ?_;obtain ⟨B9,Br,Bt⟩:=AHv Bj;refine AHy trivial tt2 rfl (AN3 Ak.2 A6.2 Br) fun Ca Cb Af Bu=>?_;obtain ⟨Cd,rfl,Bv⟩:=Bu;obtain ⟨Bw,rfl,Am⟩:=Bv.cs;have A7:=(((Bg.ext Ae).ext Aa).upT Ac (Ag.dj 1 2 rfl rfl (by decide))).ext Af;refine AIw Bw AH9 (cZ.klen Am) (cZ.klen (cZ.upT (cZ.upT (cZ.upT (cZ.upT (cZ.upT (AIk h8) Ab.upT) Ae.upT) Aa.upT) Ac) Af.upT)) rfl rfl (cZ.one Am) A7 fun Ce A8 Bx=>ACt (q_t (AH1 ?_));have A9:=A8.stA Bx (AH8 A7 rfl) rfl;obtain rfl:=AHw Bt;have Ba:=cZ.upT Am A9;exact ⟨_,AJ7 AH9 (cZ.klen Ba) rfl A8,((((Az.trans Aa).thenT Ac (Ag.loAll 2 rfl)).trans Af).thenT A9 (((Ag.keep Ac.size).keep Af.1).loAll 1 rfl)),_,rfl,Ba.2⟩
def AMg (fuel:Nat) (a3:Int) (a5:Int):Option Int:=
  ((AOy fuel).bind fun Aa=>((APg fuel a3 a5 Aa.1 Aa.2).bind fun Ab=>((AOk fuel Ab.1 Ab.2).bind fun Ae=>(some Ae))))
theorem AUb {fuel:Nat} {h:AHr} {Aj:Value} {a3 a5:Int} {r:Int} (H2:Abm h Aj a3 a5) (hp:AMg fuel a3 a5=some r):AIj Tryz.prog 148 #[Aj] h (fun x h'=>Ext h h'/\ ∃ (x0:Value),x=x0/\ZZ h' x0 r):=by
 unfold AMg at hp;obtain ⟨Ap,Aq,rfl,H2z0,H2z1⟩:=H2;refine AHx (l:=[_]) mx Tryz.func148 rfl rfl rfl rfl rfl (by kernel_rfl) (ACu (ACv (AN2 (Ap ++ Aq) trivial tt2 rfl rfl fun b7 h8 V9 Ac A6=>AI9 [.bool false,.slice none 0 0] ALz rfl trivial tt2 fun Bv Ag A7 Ab A8=>ACt (q_t (ACu (AKf (fun h'=>UpT [] Ag h') (by kernel_rfl) ?_))))));have Ae:UpT [] Ag Ag:=UpT.start all_nil;have Ar:=cZ.upT (cZ.upT H2z0 Ac.upT) Ab.upT;have Au:=cZ.upT (cZ.upT H2z1 Ac.upT) Ab.upT;refine AKk (Ap ++ Aq) AMm (AJm Ar Au) rfl Ae (fun h' hb=>((V9.ext Ab).ext hb.ext).agg) ?_;obtain ⟨Bw,A9,Ba⟩:=AHv hp;refine AHy Ae (fun _ E=>Ae.thenE E) rfl (AVu A9) fun Bx By Aa Bb=>?_;obtain ⟨Bz,rfl,Bc⟩:=Bb;have Ah:=Ae.thenE Aa;obtain ⟨B1,B3,rfl,Be,Bf⟩:=Bc;obtain ⟨B4,Bg,Bh⟩:=AHv Ba;refine AHy Ah (fun _ E=>Ah.thenE E) rfl (AWl ⟨_,_,rfl,(cZ.upT Ar Aa.upT),(cZ.upT Au Aa.upT)⟩ ⟨_,_,rfl,Be,Bf⟩ Bg) fun B5 B6 Ad Bi=>?_;obtain ⟨B7,rfl,Bj⟩:=Bi;have Av:=Ah.thenE Ad;obtain ⟨B8,B9,rfl,Bl,Bm⟩:=Bj;obtain ⟨Ca,Bn,Bo⟩:=AHv Bh;refine AHy Av (fun _ E=>Av.thenE E) rfl (AVe ⟨_,_,rfl,Bl,Bm⟩ Bn) fun Cb Cd Af Bp=>?_;obtain ⟨Ce,rfl,Bq⟩:=Bp;obtain ⟨Br,rfl,Ai⟩:=Bq.cs;have Aw:=((A7.ext Aa).ext Ad).ext Af;refine AIw Br AH9 (cZ.klen Ai) (cZ.klen (cZ.upT (cZ.upT (cZ.upT (cZ.upT (AIk h8) Ab.upT) Aa.upT) Ad.upT) Af.upT)) rfl rfl (cZ.one Ai) Aw fun Cf Ax Bt=>ACt (q_t (AH1 ?_));have Ay:=Ax.stA Bt (AH8 Aw rfl) rfl;obtain rfl:=AHw Bo;have Az:=cZ.upT Ai Ay;exact ⟨_,AJ7 AH9 (cZ.klen Az) rfl Ax,(((((Ac.trans Ab).trans Aa).trans Ad).trans Af).thenT Ay (((((((AJ8 h h.size).app A6 Ac.1 (Nat.le_refl _)).app A8 Ab.1 Ac.1).keep Aa.1).keep Ad.1).keep Af.1).loAll 1 rfl)),_,rfl,Az.2⟩
def ALt (fuel:Nat) (a3:LiI) (a7:LiA) (a9:Int):Option Bool:=
  ((AK0 fuel a3 a9 (w64 (a9 - 1))).bind fun Ac=>((AQq fuel 4).bind fun Ae=>((AJv fuel a7 (w64 (a9 - 1))).bind fun Af=>((AJv fuel a7 (w64 (a9 + 1))).bind fun Ag=>((AUy fuel Af Ag).bind fun Ah=>((AUy fuel Ac Ac).bind fun Ai=>((Ak4 fuel Ah Ai).bind fun Aj=>((AUy fuel Ae Aj).bind fun Ak=>((AQq fuel 3).bind fun Am=>((AJv fuel a7 a9).bind fun Ao=>((AJv fuel a7 a9).bind fun Ap=>((AUy fuel Ao Ap).bind fun Aq=>((AUy fuel Am Aq).bind fun Ar=>((Aek fuel Ak Ar).bind fun Au=>(some (decide (0<=Au)))))))))))))))))
theorem ARi {fuel:Nat} {h:AHr} {Bt:Value} {a3:LiI} {Bv:Value} {a7:LiA} {a9:Int} {r:Bool} (H2:AM9 cZ h Bt a3) (H6:SlC cZ h Bv a7) (hp:ALt fuel a3 a7 a9=some r):AIj Tryz.prog 130 #[Bt,Bv,(.int .i64 a9)] h (fun x h'=>Ext h h'/\x= .bool r):=by
 unfold ALt at hp;refine AHx (l:=[_,_,_]) mx Tryz.func130 rfl rfl rfl rfl rfl (by kernel_rfl) (ACu (ACv (AHq (ACt (q_t (ACu (ACv (AHo (AHo (AHo (AOv rfl rfl ?_)))))))))));obtain ⟨Es,Cf,Cg⟩:=AHv hp;refine AHy trivial tt2 rfl (AOr H2 Cf) fun Et Ch Ax Ci=>?_;obtain ⟨Eu,rfl,Cj⟩:=Ci;obtain ⟨Ay,rfl,Ck⟩:=Cj.cs;refine AI9 [.bool false,.slice none 0 0] ALz rfl trivial tt2 fun Ev Ew By Ak Cm=>?_;have Bz:=((AJ8 h h.size).keep Ax.1).app Cm Ak.1 Ax.1;have Az:=cZ.upT Ck Ak.upT;refine AIw Ay AH9 (cZ.klen Az) (cZ.klen (cZ.upT (AIk Ch) Ak.upT)) rfl rfl (cZ.one Az) By fun A3 A4 Cn=>ACt (q_t (ACu ?_));have A5:=A4.stA Cn (AH8 By rfl) rfl;have B1:=(Ax.trans Ak).thenT A5 (Bz.loAll 0 rfl);have B3:UpT [] A3 A3:=UpT.start all_nil;refine AZv (B:=fun h'=>UpT [] A3 h') 15 [⟨8,104,[.bool false,.slice none 0 0]⟩] (fun _ _ U E=>U.thenE E) (by kernel_rfl) B3 (Ajn rfl ALz rfl (fun _ _ U E=>U.thenE E)) (h_e rfl fun Ey A6=>?_);have A7:=B3.thenE A6;obtain ⟨Ez,Co,Cp⟩:=AHv Cg;refine AHy A7 (fun _ E=>A7.thenE E) rfl (APk Co) fun Fa Fb Am Cq=>?_;obtain ⟨Fc,rfl,Cr⟩:=Cq;have Ct:=A7.thenE Am;obtain ⟨Fd,rfl,Cu⟩:=Cr.cs;refine ACt ⟨Am,?_⟩;refine h_l rfl (AHo (ACt (h_l rfl (AHo (ACt (h_l rfl (AOv rfl rfl (ACt (h_e rfl fun Fe Ao=>?_)))))))));have B4:=((B1.trans A6).trans Am).trans Ao;have A8:=Ct.thenE Ao;obtain ⟨Ff,Cv,Cw⟩:=AHv Cp;refine AHy A8 (fun _ E=>A8.thenE E) rfl (AK6 (H6.ext B4) Cv) fun Fg Fh Ad Cx=>?_;obtain ⟨Fi,rfl,Cy⟩:=Cx;have Cz:=A8.thenE Ad;obtain ⟨Fj,rfl,C0⟩:=Cy.cs;refine ACt ⟨Ad,?_⟩;refine h_l rfl (AHo (ACt (h_l rfl (AHo (ACt (h_l rfl (AJd rfl rfl (ACt (h_e rfl fun Fk Ae=>?_)))))))));have B5:=(B4.trans Ad).trans Ae;have A9:=Cz.thenE Ae;obtain ⟨Fl,C1,C2⟩:=AHv Cw;refine AHy A9 (fun _ E=>A9.thenE E) rfl (AK6 (H6.ext B5) C1) fun Fm Fo Aa C3=>?_;obtain ⟨Fp,rfl,C4⟩:=C3;have C5:=A9.thenE Aa;obtain ⟨Fq,rfl,C6⟩:=C4.cs;refine ACt ⟨Aa,?_⟩;refine h_e rfl fun Fr Ab=>?_;have Ba:=C5.thenE Ab;obtain ⟨Ft,C7,C8⟩:=AHv C2;refine AHy Ba (fun _ E=>Ba.thenE E) rfl (ATb (cZ.upT (cZ.upT (cZ.upT C0 Ae.upT) Aa.upT) Ab.upT).2 (cZ.upT C6 Ab.upT).2 C7) fun Fu Fv Af C9=>?_;obtain ⟨Fw,rfl,Da⟩:=C9;have Bb:=Ba.thenE Af;obtain ⟨Fx,rfl,Db⟩:=Da.cs;refine ACt ⟨Af,?_⟩;refine h_l rfl ?_;have Ap:=cZ.upT (cZ.upT (cZ.upT (cZ.upT (cZ.upT (cZ.upT (cZ.upT (cZ.upT (cZ.upT Az A5) A6.upT) Am.upT) Ao.upT) Ad.upT) Ae.upT) Aa.upT) Ab.upT) Af.upT;refine AKk Ay AH9 (cZ.klen Ap) rfl Bb (fun h' hb=>(A4.ext hb.ext).agg) (ACt (h_l rfl (AKk Ay AH9 (cZ.klen Ap) rfl Bb (fun h' hb=>(A4.ext hb.ext).agg) (ACt (h_e rfl fun Fy Ac=>?_)))));have Bc:=Bb.thenE Ac;obtain ⟨Fz,Dc,Dd⟩:=AHv C8;refine AHy Bc (fun _ E=>Bc.thenE E) rfl (ATb (cZ.upT Ap Ac.upT).2 (cZ.upT Ap Ac.upT).2 Dc) fun F4 F5 Ag De=>?_;obtain ⟨F6,rfl,Df⟩:=De;have Dg:=Bc.thenE Ag;obtain ⟨F7,rfl,Dh⟩:=Df.cs;refine ACt ⟨Ag,?_⟩;refine h_e rfl fun F8 Ah=>?_;have Be:=Dg.thenE Ah;obtain ⟨F9,Di,Dj⟩:=AHv Dd;refine AHy Be (fun _ E=>Be.thenE E) rfl (Ajh (cZ.upT (cZ.upT (cZ.upT Db Ac.upT) Ag.upT) Ah.upT).2 (cZ.upT Dh Ah.upT).2 Di) fun Ga Gb Aq Dk=>?_;obtain ⟨Gc,rfl,Dl⟩:=Dk;have Dn:=Be.thenE Aq;obtain ⟨Gd,rfl,Do⟩:=Dl.cs;refine ACt ⟨Aq,?_⟩;refine h_e rfl fun Ge Ar=>?_;have Bf:=Dn.thenE Ar;obtain ⟨Gf,Dp,Dq⟩:=AHv Dj;refine AHy Bf (fun _ E=>Bf.thenE E) rfl (ATb (cZ.upT (cZ.upT (cZ.upT (cZ.upT (cZ.upT (cZ.upT (cZ.upT (cZ.upT (cZ.upT (cZ.upT (cZ.upT Cu Ao.upT) Ad.upT) Ae.upT) Aa.upT) Ab.upT) Af.upT) Ac.upT) Ag.upT) Ah.upT) Aq.upT) Ar.upT).2 (cZ.upT Do Ar.upT).2 Dp) fun Gg Gh Bg Dr=>?_;obtain ⟨Gi,rfl,Ds⟩:=Dr;have Dt:=Bf.thenE Bg;obtain ⟨B6,rfl,Du⟩:=Ds.cs;refine ACt ⟨Bg,?_⟩;refine Ahb fun Dv Bh=>Avu fun Gj Bi Dw Gk=>?_;have Bj:=cZ.upT Du Bh.upT;refine AIw B6 AH9 (cZ.klen Bj) (cZ.klen (AIk Dv)) rfl rfl (cZ.one Bj) Bi fun Bl B7 Dx=>ACt (q_t (ACu (AKf (fun h'=>UpT [] Bl h') (by kernel_rfl) ?_)));have B8:=B7.stA Dx (AH8 Bi rfl) rfl;have Au:UpT [] Bl Bl:=UpT.start all_nil;have B9:=cZ.upT Bj B8;refine AKk B6 AH9 (cZ.klen B9) rfl Au (fun h' hb=>(B7.ext hb.ext).agg) ?_;obtain ⟨Gl,Dy,Dz⟩:=AHv Dq;refine AHy Au (fun _ E=>Au.thenE E) rfl (APk Dy) fun Gm Gn Bm D0=>?_;obtain ⟨Gp,rfl,D1⟩:=D0;have Ca:=(((((((((((B5.trans Aa).trans Ab).trans Af).trans Ac).trans Ag).trans Ah).trans Aq).trans Ar).trans Bg).trans Bh).thenT B8 (((Bz.keep A5.size).app (ARl Dw Bi.lt) (Dt.thenE Bh).size B1.1).loAll 1 rfl)).trans Bm;have Bn:=Au.thenE Bm;obtain ⟨Gq,rfl,D2⟩:=D1.cs;refine AHo (AHo ?_);obtain ⟨Gr,D3,D4⟩:=AHv Dz;refine AHy Bn (fun _ E=>Bn.thenE E) rfl (AK6 (H6.ext Ca) D3) fun Gt Gu Av D5=>?_;obtain ⟨Gv,rfl,D6⟩:=D5;have Cb:=Ca.trans Av;have Bo:=Bn.thenE Av;obtain ⟨Gw,rfl,D7⟩:=D6.cs;refine AHo (AHo ?_);obtain ⟨Gx,D8,D9⟩:=AHv D4;refine AHy Bo (fun _ E=>Bo.thenE E) rfl (AK6 (H6.ext Cb) D8) fun Gy Gz Ai Ea=>?_;obtain ⟨G0,rfl,Eb⟩:=Ea;have Bp:=Bo.thenE Ai;obtain ⟨G3,rfl,Ec⟩:=Eb.cs;obtain ⟨G4,Ed,Ee⟩:=AHv D9;refine AHy Bp (fun _ E=>Bp.thenE E) rfl (ATb (cZ.upT D7 Ai.upT).2 Ec.2 Ed) fun G5 G6 Aw Ef=>?_;obtain ⟨G7,rfl,Eg⟩:=Ef;have Bq:=Bp.thenE Aw;obtain ⟨G8,rfl,Eh⟩:=Eg.cs;obtain ⟨G9,Ei,Ej⟩:=AHv Ee;refine AHy Bq (fun _ E=>Bq.thenE E) rfl (ATb (cZ.upT (cZ.upT (cZ.upT D2 Av.upT) Ai.upT) Aw.upT).2 Eh.2 Ei) fun Ha Hb Br Ek=>?_;obtain ⟨Hc,rfl,El⟩:=Ek;have Cd:=Bq.thenE Br;obtain ⟨Hd,rfl,Em⟩:=El.cs;obtain ⟨He,En,Eo⟩:=AHv Ej;refine AHy Cd (fun _ E=>Cd.thenE E) rfl (Ada (cZ.upT (cZ.upT (cZ.upT (cZ.upT (cZ.upT B9 Bm.upT) Av.upT) Ai.upT) Aw.upT) Br.upT).2 Em.2 En) fun Hf Hg Ep Er=>?_;subst Er;refine AIp rfl rfl (ASm _ _) (AHq (ACt (q_t (AH1 ?_))));obtain rfl:=AHw Eo;exact ⟨_,AH5,((((Cb.trans Ai).trans Aw).trans Br).trans Ep),rfl⟩
def APp (fuel:Nat) (a3:LiI) (x5:LiA) (Ab:Int) (Aa:Int) (Ac:LiI):Option ((Int × LiI) ⊕ (((LiI × Bool)) ⊕ (LiI))):=
  (if 0<=Aa then ((AL3 fuel a3 x5 Ab Aa).bind fun Ah=>(if (!Ah)=true then ((gI Ac Aa).bind fun Af=>((AK0 fuel a3 Ab Aa).bind fun Ai=>((AJv fuel x5 (w64 (Aa + 1))).bind fun Aj=>((AL7 fuel Ai Aj).bind fun Ag=>((AMg fuel Ag.1 Ag.2).bind fun Ak=>((Ag7 fuel Ak).bind fun Am=>((gI Af Ab).bind fun Ao=>(some (Sum.inr<| Sum.inl <| ((sI Ac Aa (sI Af Ab Am)),true)))))))))) else (some (Sum.inl ((w64 (Aa - 1)),Ac))))) else (some (Sum.inr<| Sum.inr <| Ac)))
def APq (fuel:Nat) (a3:LiI) (x5:LiA) (Aa:Int) (Ae:LiI):Option ((Int × LiI) ⊕ (((LiI × Bool)) ⊕ (Unit))):=
  (if Aa < (a3.length:Int) then ((iter (fun s=>APp fuel a3 x5 Aa s.1 s.2) fuel ((w64 (Aa - 1)),Ae)).bind (fun ex=>match ex with | Sum.inl Af=>(some (Sum.inr<| Sum.inl <| Af)) | Sum.inr (Ab)=>(if 0 < Aa then ((ALt fuel a3 x5 Aa).bind fun Ag=>(if (!Ag)=true then ((gI Ab (w64 (Aa - 1))).bind fun Ah=>((gI Ab Aa).bind fun Ai=>(some (Sum.inr<| Sum.inl <| ((sI (sI Ab Aa Ah) (w64 (Aa - 1)) Ai),true))))) else (some (Sum.inl ((w64 (Aa + 1)),Ab))))) else (some (Sum.inl ((w64 (Aa + 1)),Ab)))))) else (some (Sum.inr<| Sum.inr <| ())))
def ANd (fuel:Nat) (a3:LiI):Option (LiI × Bool):=
  ((AKo fuel a3).bind fun (x5,x6)=>((AK5 fuel (a3.length:Int)).bind fun (Ac,Af)=>((iter (fun s=>APq fuel a3 x5 s.1 s.2) fuel (0,Ac)).bind (fun ex=>match ex with | Sum.inl Ad=>(some Ad) | Sum.inr (_)=>(some ([],false))))))
theorem AVv {fuel:Nat} {h:AHr} {B9:Value} {a3:LiI} {r:(LiI × Bool)} (H2:AM9 cZ h B9 a3) (hp:ANd fuel a3=some r):AIj Tryz.prog 87 #[B9] h (fun x h'=>Ext h h'/\ ∃ (x0:Value) (F0:List Nat) (Da:List LnA) (Db:List Value),x= .tuple #[x0,.bool r.2]/\AI4 cZ 149 104 h' F0 Da Db x0 r.1/\Sp h' h.size [F0]):=by
 unfold ANd at hp;refine AHx (l:=[_]) mx Tryz.func87 rfl rfl rfl rfl rfl (by kernel_rfl) (ACu (ACv (AHq (AHq (ACt (q_t (ACu (ACv (AHo ?_)))))))));obtain ⟨⟨x5,x6⟩,Dc,Ce⟩:=AHv hp;dsimp only at Ce;refine AHy trivial tt2 rfl (AOh H2 Dc) fun Fj Fk E9 Dd=>?_;obtain ⟨Fl,A5,rfl,Cf,De⟩:=Dd;refine AHo (AI7 rfl rfl (AI7 rfl rfl (AHq (AHq (ACt (q_t (ACu (ACv (AHo (AKc AJe rfl H2 ?_))))))))));have Fm:=E9.1;obtain ⟨⟨Df,Fo⟩,Dg,Cg⟩:=AHv Ce;dsimp only at Cg;refine AHy trivial tt2 rfl (AQs Dg) fun Fp Bj Aq Dh=>?_;obtain ⟨A6,A7,Di,Dj,rfl,Ch,Dk⟩:=Dh;refine AHo (AI7 rfl rfl (AI7 rfl rfl (AHq (AHq (ACt (q_t (ACu (ACu (ACv (AHo (AKc AJe rfl H2 (AHo (ACt (q_t (AHz ?_)))))))))))))));have Fq:=Aq.1;have A8:=((AJ8 h h.size).app De E9.1 (Nat.le_refl _)).app Dk Aq.1 E9.1;obtain ⟨A9,Dl,Bl⟩:=AHv Cg;obtain ⟨Dn,Do,Dp⟩:=AI0 Dl;refine AIy 9671406556917033389261580 (fun x:(Int) × (LiI) × LnA × LnN × LvA=>[(23,(.int .i64 x.1))]) (fun (k:Nat) (x:(Int) × (LiI) × LnA × LnN × LvA) (h':AHr)=>iter Dn k (x.1,x.2.1)=some A9/\UpT (A7 ++ []) Bj h'/\Sp h' h.size [A5,x.2.2.1]/\AI4 cZ 149 104 h' x.2.2.1 x.2.2.2.1 x.2.2.2.2 A6 x.2.1/\(∀ z∈x.2.2.1,z∈(A7 ++ [])∨Array.size Bj<=z)) (by kernel_rfl) fuel ((0,Df,A7,Di,Dj):(Int) × (LiI) × LnA × LnN × LvA) ?_ ⟨rfl,trivial⟩ ?_
 ·exact ⟨Dp,UpT.start (AHp Ch.notD all_nil),A8,Ch,(AH4 rfl)⟩
 rintro Fr ⟨Aa,Ci,Ab,Cj,Ck⟩ Dq Ac ⟨Dr,Ai,Ad,Ba,Aj⟩;replace Ba:AI4 cZ 149 104 Ac Ab Cj Ck A6 Ci:=Ba;replace Aj:∀ z∈Ab,z∈(A7 ++ [])∨Array.size Bj<=z:=Aj;replace Ad:Sp Ac h.size [A5,Ab]:=Ad;refine (show W _ _ _ (setL [(23,(.int .i64 Aa))] (mix _ Dq _)) Ac from ?_);have Ft:=Ai.size;have Cm:=(E9.trans Aq).thenT Ai (AHp (A8.loAll 1 rfl) all_nil);obtain ⟨Cn,Fu,rfl,Ar,Au⟩:=AIs Dr;rw [Do] at Ar;dsimp only at Ar;unfold APq at Ar;refine ACu (ACv (AIp rfl rfl (AI6 _ _) (ACt (q_t (ACu (⟨_,rfl,fun Bm=>?_,fun Bm=>?_⟩))))))
 ·refine AH2 (q_t (ACu (AHz (ACu (ACv (AHo (AHq (ACt (q_t (ACu (ACu (ACv (AHo (AOv rfl rfl (AHq (ACt (q_t (AHz ?_))))))))))))))))));obtain ⟨Bn,Ds,Co⟩:=AHv (AJ2 Ar Bm);obtain ⟨Dt,Du,Dv⟩:=AI0 Ds;refine AIy 72057593769493004 (fun x:(Int) × (LiI) × LnA × LnN × LvA=>[(9,(.int .i64 x.1))]) (fun (k:Nat) (x:(Int) × (LiI) × LnA × LnN × LvA) (h':AHr)=>iter Dt k (x.1,x.2.1)=some Bn/\UpT (Ab ++ []) Ac h'/\Sp h' h.size [A5,x.2.2.1]/\AI4 cZ 149 104 h' x.2.2.1 x.2.2.2.1 x.2.2.2.2 A6 x.2.1/\(∀ z∈x.2.2.1,z∈(Ab ++ [])∨Array.size Ac<=z)) (by kernel_rfl) fuel (((w64 (Aa - 1)),Ci,Ab,Cj,Ck):(Int) × (LiI) × LnA × LnN × LvA) ?_ ⟨rfl,trivial⟩ ?_
  ·exact ⟨Dv,UpT.start (AHp Ba.notD all_nil),Ad,Ba,(AH4 rfl)⟩
  rintro Fv ⟨Bb,Bc,Ak,Be,Bf⟩ Dw Bo ⟨Dx,Ae,Av,Af,Aw⟩;replace Af:AI4 cZ 149 104 Bo Ak Be Bf A6 Bc:=Af;replace Aw:∀ z∈Ak,z∈(Ab ++ [])∨Array.size Ac<=z:=Aw;replace Av:Sp Bo h.size [A5,Ak]:=Av;refine (show W _ _ _ (setL [(9,(.int .i64 Bb))] (mix _ Dw _)) Bo from ?_);have Fw:=Ae.size;have Bg:=Cm.thenT Ae (AHp (Ad.loAll 1 rfl) all_nil);obtain ⟨Dy,Fx,rfl,Ax,Bp⟩:=AIs Dx;rw [Du] at Ax;dsimp only at Ax;unfold APp at Ax;refine ACu (ACu (ACv (AHo (AIp rfl rfl (ASm _ _) (ACt (q_t (⟨_,rfl,fun Bq=>?_,fun Bq=>?_⟩)))))))
  ·refine AH2 (q_t (ACu (AHz (ACu (ACv (AHo (AHo (AHo (AHo ?_)))))))));have Cp:=((Cf.ext Aq).upT Ai (AJc (A8.dj 0 1 rfl rfl (by decide)) AI3)).upT Ae (AJc (Ad.dj 0 1 rfl rfl (by decide)) AI3);obtain ⟨Fy,Dz,Cq⟩:=AHv (AJ2 Ax Bq);refine AHy trivial tt2 rfl (ARv (H2.ext Bg) Cp.rd Dz) fun Fz Br Ag D0=>?_;subst D0;refine AMj rfl (ACt (q_t ?_));have F4:=Ag.1;have Cr:=Bg.trans Ag;have Ct:=Av.keep Ag.1;refine ⟨_,rfl,fun Bt=>?_,fun Bt=>?_⟩
   ·refine ACu (AKf (fun h'=>UpT [] Br h') (by kernel_rfl) ?_);have Bh:UpT [] Br Br:=UpT.start all_nil;refine AHo (AHo ?_);obtain ⟨F5,Bu,D1⟩:=AHv (ifT Cq Bt);have Bv:=Af.ext Ag;refine AJs AJe rfl Bv rfl Bu fun F6 F7 F8 D2 D3=>AK1 AK8 rfl Bh (fun h' hb=>AIc D3 hb.ext) (AHo (AHo (AHo (AHo ?_))));obtain ⟨F9,D4,D5⟩:=AHv D1;refine AHy Bh (fun _ E=>Bh.thenE E) rfl (AOr (H2.ext Cr) D4) fun Ga Gb Am D6=>?_;obtain ⟨Gc,rfl,D7⟩:=D6;have Gd:=Am.1;have Bw:=Bh.thenE Am;obtain ⟨Ge,rfl,D8⟩:=D7.cs;refine AHo (AHo (AJd rfl rfl ?_));obtain ⟨Gf,D9,Ea⟩:=AHv D5;refine AHy Bw (fun _ E=>Bw.thenE E) rfl (AK6 ((Cp.ext Ag).ext Am).rd D9) fun Gg Gh Ao Eb=>?_;obtain ⟨Gi,rfl,Ec⟩:=Eb;have Gj:=Ao.1;have Bx:=Bw.thenE Ao;obtain ⟨Gk,rfl,Ed⟩:=Ec.cs;obtain ⟨Gl,Ee,Ef⟩:=AHv Ea;refine AHy Bx (fun _ E=>Bx.thenE E) rfl (ATn (cZ.upT D8 Ao.upT).2 Ed.2 Ee) fun Gm Gn Ay Eg=>?_;obtain ⟨Gp,rfl,Eh⟩:=Eg;have Gq:=Ay.1;have By:=Bx.thenE Ay;obtain ⟨Gr,Gt,rfl,Ei,Ej⟩:=Eh;obtain ⟨Gu,Ek,El⟩:=AHv Ef;refine AHy By (fun _ E=>By.thenE E) rfl (AUb ⟨_,_,rfl,Ei,Ej⟩ Ek) fun Gv Gw Az Em=>?_;obtain ⟨Gx,rfl,En⟩:=Em;have Gy:=Az.1;have Cu:=By.thenE Az;obtain ⟨Gz,rfl,Eo⟩:=En.cs;obtain ⟨G0,Ep,Er⟩:=AHv El;refine AHy Cu (fun _ E=>Cu.thenE E) rfl (Afw Eo.2 Ep) fun G3 G4 Bi Es=>?_;obtain ⟨G5,rfl,Et⟩:=Es;have G6:=Bi.1;obtain ⟨G7,rfl,Bz⟩:=Et.cs;have Cv:=((((Ct.keep Am.1).keep Ao.1).keep Ay.1).keep Az.1).keep Bi.1;obtain ⟨G8,Cw,Eu⟩:=AHv Er;refine ALr (m:=Bb) AKh rfl Bv D2 Bu rfl Cw fun G9 Ev=>APj (m:=Bb) (AUw AH9 (cZ.klen Bz) rfl rfl (cZ.one Bz)) (((((Bv.ext Am).ext Ao).ext Ay).ext Az).ext Bi) Ev Bu Cw Bz fun Ha Ew B1=>ACt (q_t (ACu (ACv (AHo (AHq (AHq (ACt (q_t ?_))))))));have Hb:=B1.size;obtain rfl:=AHw Eu;have Cx:=Bp;change _=Bn at Cx;subst Cx;have Cy:=Co;(try dsimp only at Cy);obtain rfl:=AHw Cy;have Cz:=Au;change _=A9 at Cz;subst Cz;have C0:=Bl;(try dsimp only at C0);refine AH1 (AJ0 (AIi (AIi (AJ0 (AIi (AJ0 (AIi (AIi (AJ0 (AIi ?_))))))))));obtain rfl:=AHw C0;exact ⟨_,AKj,((((((Cr.trans Am).trans Ao).trans Ay).trans Az).trans Bi).thenT B1 (Cv.loAll 1 rfl)),_,_,_,_,rfl,Ew,(Cv.keep B1.size).sel [1] (by decide)⟩
   ·refine AH2 (q_b (q_t (ACv (AHo (AOv rfl rfl (AHq (ACt (q_t ?_))))))));obtain rfl:=AHw (AQm Cq Bt);exact ⟨Dy,(((w64 (Bb - 1)),Bc,Ak,Be,Bf):(Int) × (LiI) × LnA × LnN × LvA),Nat.lt_succ_self _,⟨Bp,(Ae.thenE Ag),Ct,(Af.ext Ag),(AH6 Aw (AHp (AH4 rfl) all_nil) (by omega))⟩,rfl,trivial⟩
  ·obtain rfl:=AHw (AJ3 Ax Bq);have C1:=Bp;change _=Bn at C1;subst C1;have B3:=Co;(try dsimp only at B3);refine AIo (AIq (AIq (AJ5 (q_t (ACu (ACv (AHo (AIp rfl rfl (APf _ _) (AHo ?_)))))))));rcases Decidable.em (0 < Aa) with A3 | A3
   ·rw [show decide (0 < Aa)=true from decide_eq_true A3];refine AH3 58 true (by kernel_rfl) rfl rfl (AHo (AH3 58 true (by kernel_rfl) rfl rfl (AHo (AH3 58 true (by kernel_rfl) rfl rfl (AHo (AH3 58 true (by kernel_rfl) rfl rfl ?_))))));obtain ⟨Hc,Ey,C2⟩:=AHv (ifT B3 A3);refine AHy trivial tt2 rfl (ARi (H2.ext Bg) (((Cf.ext Aq).upT Ai (AJc (A8.dj 0 1 rfl rfl (by decide)) AI3)).upT Ae (AJc (Ad.dj 0 1 rfl rfl (by decide)) AI3)).rd Ey) fun Hd He Ap Ez=>?_;subst Ez;refine AH3 58 true (by kernel_rfl) rfl rfl (AMj rfl (AIt rfl (ACt (q_t ?_))));have Hf:=Ap.1;have C3:=Bg.trans Ap;have B4:=Av.keep Ap.1;refine ⟨_,rfl,fun B5=>?_,fun B5=>?_⟩
    ·refine ACu (ALp (by kernel_rfl) (AHo (AHo (AHo (AHo (AOv rfl rfl (AHo (AHo (AOv rfl rfl ?_)))))))));obtain ⟨Hg,C4,Fa⟩:=AHv (ifT C2 B5);have B6:=Af.ext Ap;refine AJs AJe rfl B6 rfl C4 fun Hh Hj Hk Fb Fc=>AIr AK8 rfl Fc (AHo (AHo ?_));obtain ⟨Hl,C5,Fd⟩:=AHv Fa;refine AJs AJe rfl B6 rfl C5 fun Hm Hn Ho Fe Ff=>AIr AK8 rfl Ff (AYw AJe AK8 B6 Fe Fb C5 C4 rfl rfl (fun _=>rfl) (fun _=>rfl) (fun _=>rfl) (fun _ _=>rfl) fun Hq Hr Hs Ht Hu Hv B7 B8 Fg=>ACt (q_t (ACu (ACv (AHo (AHq (AHq (ACt (q_t ?_)))))))));have Hw:=B8.size;obtain rfl:=AHw Fd;have C6:=Au;change _=A9 at C6;subst C6;have C7:=Bl;(try dsimp only at C7);refine AH1 (AJ0 (AIi (AIi (AJ0 (AIi ?_)))));obtain rfl:=AHw C7;exact ⟨_,AKj,(C3.thenT B8 (B4.loAll 1 rfl)),_,_,_,_,rfl,B7,(B4.put 1 rfl B7.nodup B8.size C3.1 B7.lt Fg).sel [1] (by decide)⟩
    ·refine AH2 (q_b (q_t (ACv (AJd rfl rfl (AHo (ACt (q_t ?_)))))));obtain rfl:=AHw (AQm C2 B5);exact ⟨Cn,(((w64 (Aa + 1)),Bc,Ak,Be,Bf):(Int) × (LiI) × LnA × LnN × LvA),Nat.lt_succ_self _,⟨Au,((Ai.then Ae (AHp (AH6 Aj (AHp (AH4 rfl) all_nil) (by omega)) all_nil)).thenE Ap),B4,(Af.ext Ap),(AH6 Aw (AHp (AH6 Aj (AHp (AH4 rfl) all_nil) (by omega)) all_nil) (by omega))⟩,rfl,trivial⟩
   ·rw [show decide (0 < Aa)=false from decide_eq_false A3];refine AH0 58 false (by kernel_rfl) rfl rfl (AH0 58 false (by kernel_rfl) rfl rfl (AH0 58 false (by kernel_rfl) rfl rfl (AH0 58 false (by kernel_rfl) rfl rfl (AH0 58 false (by kernel_rfl) rfl rfl (AIv rfl (ACt (q_t (AId rfl (AH2 (q_b (q_t (ACv (AJd rfl rfl (AHo (ACt (q_t ?_))))))))))))))));obtain rfl:=AHw (ifF B3 A3);exact ⟨Cn,(((w64 (Aa + 1)),Bc,Ak,Be,Bf):(Int) × (LiI) × LnA × LnN × LvA),Nat.lt_succ_self _,⟨Au,(Ai.then Ae (AHp (AH6 Aj (AHp (AH4 rfl) all_nil) (by omega)) all_nil)),Av,Af,(AH6 Aw (AHp (AH6 Aj (AHp (AH4 rfl) all_nil) (by omega)) all_nil) (by omega))⟩,rfl,trivial⟩
 ·obtain rfl:=AHw (AJ3 Ar Bm);have C8:=Au;change _=A9 at C8;subst C8;have C9:=Bl;(try dsimp only at C9);refine AIo (AIq (AIq (AJ5 (q_t (ACu (ACv (AHq (AHq (ACt (q_t (AH1 ?_)))))))))));obtain rfl:=AHw C9;exact ⟨_,AKj,Cm,_,_,_,_,rfl,(AMc cZ 149 104 Ac),Ad.addnil.sel [2] (by decide)⟩
def AOs (fuel:Nat) (Aa:LiI) (Ab:LiI):Option ((LiI × LiI) ⊕ (((LiI × LiI × Int)))):=
  ((ANd fuel Aa).bind fun (Ac,Ad)=>(if (!Ad)=true then ((AMl fuel Aa).bind fun (Ae,Ah)=>(some (Sum.inr<| (Ae,Ab,0)))) else ((AKw fuel Aa Ac).bind fun Af=>((AJu fuel Ab Ac).bind fun Ag=>(some (Sum.inl (Af,Ag)))))))
def AMn (fuel:Nat) (a3:LiI):Option (LiI × LiI × Int):=
  ((AJ4 fuel a3).bind fun x5=>(if ¬ x5=0 then (some ([],[],x5)) else ((AL4 fuel a3).bind fun Ac=>(if (!Ac)=true then (some ([],[],7)) else ((AMe fuel a3).bind fun Ad=>((AK5 fuel (a3.length:Int)).bind fun (Ae,Ag)=>((iter (fun s=>AOs fuel s.1 s.2) fuel (Ad,Ae)).bind (fun (Af:(LiI × LiI × Int))=>(some Af)))))))))
theorem AUm {fuel:Nat} {h:AHr} {A8:Value} {a3:LiI} {r:(LiI × LiI × Int)} (H2:AM9 cZ h A8 a3) (hp:AMn fuel a3=some r):AIj Tryz.prog 45 #[A8] h (fun x h'=>Ext h h'/\ ∃ (x0:Value) (F0:List Nat) (B7:List LnA) (B8:List Value) (x1:Value) (F1:List Nat) (B9:List LnA) (Ca:List Value),x= .tuple #[x0,x1,.int .i64 r.2.2]/\AI4 (cI .i64) 60 2 h' F0 B7 B8 x0 r.1/\AI4 cZ 149 104 h' F1 B9 Ca x1 r.2.1/\Sp h' h.size [F0,F1]):=by
 unfold AMn at hp;refine AHx (l:=[_]) mx Tryz.func45 rfl rfl rfl rfl rfl (by kernel_rfl) (ACu (ACv (AHq (AHq (AHq (ACt (q_t (ACu (ACu (ACv (AHo ?_)))))))))));obtain ⟨x5,Cb,Bf⟩:=AHv hp;refine AHy trivial tt2 rfl (AN9 H2 Cb) fun D5 h9 E8 Cd=>?_;subst Cd;refine AHq (ACt (q_t (ACu (ACv (AHo (AIp rfl rfl (AP7 _ _) (ACt (q_t ?_))))))));have D6:=E8.1;have Bh:=(AJ8 h h.size).keep E8.1;refine ⟨_,rfl,fun Au=>?_,fun Au=>?_⟩
 ·refine ACu (ACv (AHo (AHq (AHq (AHq (ACt (q_t (AH1 (AIi ?_)))))))));obtain rfl:=AHw (AJ2 Bf Au);exact ⟨_,AO3,E8,_,_,_,_,_,_,_,_,rfl,(AMc (cI .i64) 60 2 h9),(AMc cZ 149 104 h9),Bh.addnil.addnil⟩
 ·refine AH2 (q_t (ACu (ACu (ACv (AHo ?_)))));obtain ⟨D7,Ce,Bi⟩:=AHv (AJ3 Bf Au);refine AHy trivial tt2 rfl (ARw (H2.ext E8) Ce) fun D8 Bj Av Cf=>?_;subst Cf;refine AMj rfl (ACt (q_t ?_));have D9:=Av.1;have Ai:=E8.trans Av;have Bl:=Bh.keep Av.1;refine ⟨_,rfl,fun Aw=>?_,fun Aw=>?_⟩
  ·refine ACu (ACv (AHq (AHq (AHq (ACt (q_t (AH1 (AIi ?_))))))));obtain rfl:=AHw (ifT Bi Aw);exact ⟨_,AO3,Ai,_,_,_,_,_,_,_,_,rfl,(AMc (cI .i64) 60 2 Bj),(AMc cZ 149 104 Bj),Bl.addnil.addnil⟩
  ·refine AH2 (q_t (ACu (ACv (AHo ?_))));obtain ⟨Cg,Ch,Ci⟩:=AHv (AQm Bi Aw);refine AHy trivial tt2 rfl (AR5 (H2.ext Ai) Ch) fun Cj Ea Ax Ck=>?_;obtain ⟨Eb,Ab,Cm,Cn,rfl,Co,Cp⟩:=Ck;refine AHq (ACt (q_t (ACu (ACv (AHo (AKc AJe rfl H2 ?_))))));have Ec:=Ax.1;have Bm:=Ai.trans Ax;obtain ⟨⟨Cq,Ed⟩,Cr,Bn⟩:=AHv Ci;dsimp only at Bn;refine AHy trivial tt2 rfl (AQs Cr) fun Ee Af Aj Ct=>?_;obtain ⟨Cu,Ac,Cv,Cw,rfl,Bo,Cx⟩:=Ct;refine AHo (AI7 rfl rfl (AI7 rfl rfl (AHq (AHq (ACt (q_t (AHz ?_)))))));have Ef:=Aj.1;have Ay:=(Bl.app Cp Ax.1 Ai.1).app Cx Aj.1 Bm.1;obtain ⟨Bp,Cy,Cz⟩:=AHv Bn;obtain ⟨C0,C1,C2⟩:=AI0 Cy;have Bq:=Co.ext Aj;refine AIy 562949416558300 (fun x:(LiI) × (Value) × LnA × LnN × LvA × (LiI) × (Value) × LnA × LnN × LvA=>[(6,x.2.1),(7,x.2.2.2.2.2.2.1)]) (fun (k:Nat) (x:(LiI) × (Value) × LnA × LnN × LvA × (LiI) × (Value) × LnA × LnN × LvA) (h':AHr)=>iter C0 k (x.1,x.2.2.2.2.2.1)=some Bp/\UpT (Ab ++ (Ac ++ [])) Af h'/\Sp h' h.size [x.2.2.1,x.2.2.2.2.2.2.2.1]/\AI4 cZ 149 104 h' x.2.2.1 x.2.2.2.1 x.2.2.2.2.1 x.2.1 x.1/\(∀ z∈x.2.2.1,z∈(Ab ++ (Ac ++ []))∨Array.size Af<=z)/\AI4 cZ 149 104 h' x.2.2.2.2.2.2.2.1 x.2.2.2.2.2.2.2.2.1 x.2.2.2.2.2.2.2.2.2 x.2.2.2.2.2.2.1 x.2.2.2.2.2.1/\(∀ z∈x.2.2.2.2.2.2.2.1,z∈(Ab ++ (Ac ++ []))∨Array.size Af<=z)) (by kernel_rfl) fuel ((Cg,Cj,Ab,Cm,Cn,Cq,Cu,Ac,Cv,Cw):(LiI) × (Value) × LnA × LnN × LvA × (LiI) × (Value) × LnA × LnN × LvA) ?_ ⟨rfl,rfl,trivial⟩ ?_
   ·exact ⟨C2,UpT.start (AHp Bq.notD (AHp Bo.notD all_nil)),Ay,Bq,(AH4 rfl),Bo,(ALf (AH4 rfl))⟩
   rintro Eg ⟨C3,Br,Az,C4,C5,C6,Bt,A3,C7,C8⟩ C9 Ak ⟨Da,A4,A5,Ag,Bu,Am,Bv⟩;replace Ag:AI4 cZ 149 104 Ak Az C4 C5 Br C3:=Ag;replace Bu:∀ z∈Az,z∈(Ab ++ (Ac ++ []))∨Array.size Af<=z:=Bu;replace Am:AI4 cZ 149 104 Ak A3 C7 C8 Bt C6:=Am;replace Bv:∀ z∈A3,z∈(Ab ++ (Ac ++ []))∨Array.size Af<=z:=Bv;replace A5:Sp Ak h.size [Az,A3]:=A5;refine (show W _ _ _ (setL [(6,Br),(7,Bt)] (mix _ C9 _)) Ak from ?_);have Eh:=A4.size;have Bw:=(Bm.trans Aj).thenT A4 (AHp (Ay.loAll 0 rfl) (AHp (Ay.loAll 1 rfl) all_nil));obtain ⟨Db,Ei,rfl,Ao,Bx⟩:=AIs Da;rw [C1] at Ao;dsimp only at Ao;unfold AOs at Ao;refine AHz (ACu (ACv (AHo ?_)));obtain ⟨⟨Ej,Ek⟩,Dc,A6⟩:=AHv Ao;dsimp only at A6;refine AHy trivial tt2 rfl (AVv Ag.rd Dc) fun El Em Aa Dd=>?_;obtain ⟨En,Eo,Ep,Er,rfl,By,De⟩:=Dd;refine AHo (AI7 rfl rfl (AI7 rfl rfl (AHq (AHq (ACt (q_t (ACu (ACu (ACv (AHo (AMj rfl (ACt (q_t ?_)))))))))))));have Es:=Aa.1;have Ap:=Bw.trans Aa;have Bz:=A5.app De Aa.1 Bw.1;refine ⟨_,rfl,fun A7=>?_,fun A7=>?_⟩
   ·refine ACu (ACv (AHo ?_));obtain ⟨⟨Et,Eu⟩,Df,B1⟩:=AHv (ifT A6 A7);dsimp only at B1;refine AHy trivial tt2 rfl (AUl (Ag.ext Aa).rd Df) fun Ev Ew Aq Dg=>?_;obtain ⟨Ey,Ez,Fa,Fb,rfl,Dh,Di⟩:=Dg;refine AHo (AI7 rfl rfl (AI7 rfl rfl (AHq (AHq (ACt (q_t (ACu (ACv (AHo (AHo (AHq (AHq (AHq (ACt (q_t ?_)))))))))))))));have Fc:=Aq.1;obtain rfl:=AHw B1;have B3:=Bx;change _=Bp at B3;subst B3;have B4:=Cz;(try dsimp only at B4);refine AH1 (AIi (AJ0 (AIi (AJ0 ?_))));obtain rfl:=AHw B4;exact ⟨_,AO3,(Ap.trans Aq),_,_,_,_,_,_,_,_,rfl,Dh,((Am.ext Aa).ext Aq),(Bz.app Di Aq.1 Ap.1).sel [3,1] (by decide)⟩
   ·refine AH2 (q_t (ACv (AHo (AHo ?_))));obtain ⟨Dj,Dk,Dl⟩:=AHv (AQm A6 A7);refine AHy trivial tt2 rfl (ATc (Ag.ext Aa).rd By.rd Dk) fun Dn Fd Ad Do=>?_;obtain ⟨Fe,Dp,Dq,Dr,rfl,Ds,B5⟩:=Do;refine AHo (AHo ?_);have Ff:=Ad.1;have Dt:=B5.loAll 0 rfl;obtain ⟨Du,Dv,Dw⟩:=AHv Dl;refine AHy trivial tt2 rfl (AOf ((Am.ext Aa).ext Ad).rd (By.ext Ad).rd Dv) fun Dx Fg Ar Dy=>?_;obtain ⟨Fh,Dz,D0,D1,rfl,D2,B6⟩:=Dy;refine AHq (AHq (ACt (q_b (q_t ?_))));have Fi:=Ar.1;have D3:=B6.loAll 0 rfl;obtain rfl:=AHw Dw;exact ⟨Db,((Dj,Dn,Dp,Dq,Dr,Du,Dx,Dz,D0,D1):(LiI) × (Value) × LnA × LnN × LvA × (LiI) × (Value) × LnA × LnN × LvA),Nat.lt_succ_self _,⟨Bx,(((A4.thenE Aa).thenE Ad).thenE Ar),(((Bz.app B5 Ad.1 Ap.1).app B6 Ar.1 (Ap.trans Ad).1).sel [3,4] (by decide)),(Ds.ext Ar),(AJw Dt (by omega)),D2,(AJw D3 (by omega))⟩,rfl,rfl,trivial⟩
def AOi (fuel:Nat) (a3:LiI) (x5:LiA) (Ab:Int) (Aa:Int):Option ((Int) ⊕ ((Bool) ⊕ (Unit))):=
  (if Aa < Ab then ((AL3 fuel a3 x5 Ab Aa).bind fun Ae=>(if (!Ae)=true then (some (Sum.inr<| Sum.inl <| false)) else (some (Sum.inl (w64 (Aa + 1)))))) else (some (Sum.inr<| Sum.inr <| ())))
def AOj (fuel:Nat) (a3:LiI) (x5:LiA) (Aa:Int):Option ((Int) ⊕ ((Bool) ⊕ (Unit))):=
  (if Aa < (a3.length:Int) then ((iter (fun s=>AOi fuel a3 x5 Aa s) fuel 0).bind (fun ex=>match ex with | Sum.inl Ad=>(some (Sum.inr<| Sum.inl <| Ad)) | Sum.inr (_)=>(if 0 < Aa then ((ALt fuel a3 x5 Aa).bind fun Ae=>(if (!Ae)=true then (some (Sum.inr<| Sum.inl <| false)) else (some (Sum.inl (w64 (Aa + 1)))))) else (some (Sum.inl (w64 (Aa + 1))))))) else (some (Sum.inr<| Sum.inr <| ())))
def AMh (fuel:Nat) (a3:LiI):Option Bool:=
  ((AKo fuel a3).bind fun (x5,x6)=>((iter (fun s=>AOj fuel a3 x5 s) fuel 0).bind (fun ex=>match ex with | Sum.inl Ac=>(some Ac) | Sum.inr (_)=>(some true))))
theorem AUc {fuel:Nat} {h:AHr} {A5:Value} {a3:LiI} {r:Bool} (H2:AM9 cZ h A5 a3) (hp:AMh fuel a3=some r):AIj Tryz.prog 73 #[A5] h (fun x h'=>Ext h h'/\x= .bool r):=by
 unfold AMh at hp;refine AHx (l:=[_]) mx Tryz.func73 rfl rfl rfl rfl rfl (by kernel_rfl) (ACu (ACv (AHq (ACt (q_t (ACu (ACv (AHo ?_))))))));obtain ⟨⟨x5,x6⟩,Bt,A7⟩:=AHv hp;dsimp only at A7;refine AHy trivial tt2 rfl (AOh H2 Bt) fun Cj Bu E9 Bv=>?_;obtain ⟨Ck,Aj,rfl,A9,Bw⟩:=Bv;refine AHo (AI7 rfl rfl (AI7 rfl rfl (AHq (AHq (ACt (q_t (ACu (ACu (ACv (AHo (AKc AJe rfl H2 (AHo (ACt (q_t (AHz ?_)))))))))))))));obtain ⟨Ak,Bx,Ao⟩:=AHv A7;obtain ⟨By,Bz,B1⟩:=AI0 Bx;refine AIy 274877890660 (fun x:(Int)=>[(14,(.int .i64 x))]) (fun (k:Nat) (x:(Int)) (h':AHr)=>iter By k x=some Ak/\UpT [] Bu h'/\Sp h' h.size [Aj]) (by kernel_rfl) fuel (0:(Int)) ?_ ⟨rfl,trivial⟩ ?_
 ·exact ⟨B1,UpT.start all_nil,((AJ8 h h.size).app Bw E9.1 (Nat.le_refl _))⟩
 rintro Cm Aa B3 Ap ⟨B4,Ac,Aq⟩;replace Aq:Sp Ap h.size [Aj]:=Aq;refine (show W _ _ _ (setL [(14,(.int .i64 Aa))] (mix _ B3 _)) Ap from ?_);have Ba:=E9.thenT Ac all_nil;obtain ⟨Bb,Cn,rfl,Ad,Ae⟩:=AIs B4;rw [Bz] at Ad;dsimp only at Ad;unfold AOj at Ad;refine ACu (ACv (AIp rfl rfl (AI6 _ _) (ACt (q_t (ACu (⟨_,rfl,fun Ar=>?_,fun Ar=>?_⟩))))))
 ·refine AH2 (q_t (ACu (AHz (ACu (ACv (AHo (AHq (ACt (q_t (ACu (ACu (ACv (AHq (ACt (q_t (AHz ?_))))))))))))))));obtain ⟨Au,B5,Bc⟩:=AHv (AJ2 Ad Ar);obtain ⟨B6,B7,B8⟩:=AI0 B5;refine AIy 268304452 (fun x:(Int)=>[(6,(.int .i64 x))]) (fun (k:Nat) (x:(Int)) (h':AHr)=>iter B6 k x=some Au/\UpT [] Ap h'/\Sp h' h.size [Aj]) (by kernel_rfl) fuel (0:(Int)) ?_ ⟨rfl,trivial⟩ ?_
  ·exact ⟨B8,UpT.start all_nil,Aq⟩
  rintro Co Be B9 Bf ⟨Ca,Ab,Af⟩;replace Af:Sp Bf h.size [Aj]:=Af;refine (show W _ _ _ (setL [(6,(.int .i64 Be))] (mix _ B9 _)) Bf from ?_);have Am:=Ba.thenT Ab all_nil;obtain ⟨Cb,Cp,rfl,Ag,Av⟩:=AIs Ca;rw [B7] at Ag;dsimp only at Ag;unfold AOi at Ag;refine ACu (ACu (ACv (AHo (AHo (AIp rfl rfl (AI6 _ _) (ACt (q_t (⟨_,rfl,fun Aw=>?_,fun Aw=>?_⟩))))))))
  ·refine AH2 (q_t (ACu (AHz (ACu (ACv (AHo (AHo (AHo (AHo ?_)))))))));obtain ⟨Cq,Cd,Bg⟩:=AHv (AJ2 Ag Aw);refine AHy trivial tt2 rfl (ARv (H2.ext Am) ((A9.upT Ac AI3).upT Ab AI3).rd Cd) fun Cr Ct Ax Ce=>?_;subst Ce;refine AMj rfl (ACt (q_t (⟨_,rfl,fun Ay=>?_,fun Ay=>?_⟩)))
   ·refine ACu (ACv (AHq (ACt (q_t ?_))));obtain rfl:=AHw (ifT Bg Ay);have Bh:=Av;change _=Au at Bh;subst Bh;have Bi:=Bc;(try dsimp only at Bi);obtain rfl:=AHw Bi;have Bj:=Ae;change _=Ak at Bj;subst Bj;have Bl:=Ao;(try dsimp only at Bl);refine AH1 (AJ0 (AIi (AIi (AJ0 (AIi (AJ0 (AIi (AIi (AJ0 (AIi ?_))))))))));obtain rfl:=AHw Bl;exact ⟨_,AH5,(Am.trans Ax),rfl⟩
   ·refine AH2 (q_b (q_t (ACv (AHo (AJd rfl rfl (AHq (ACt (q_t ?_))))))));obtain rfl:=AHw (AQm Bg Ay);exact ⟨Cb,((w64 (Be + 1)):(Int)),Nat.lt_succ_self _,⟨Av,(Ab.thenE Ax),(Af.keep Ax.1)⟩,rfl,trivial⟩
  ·obtain rfl:=AHw (AJ3 Ag Aw);have Bm:=Av;change _=Au at Bm;subst Bm;have Az:=Bc;(try dsimp only at Az);refine AIo (AIq (AIq (AJ5 (q_t (ACu (ACv (AHo (AIp rfl rfl (APf _ _) (AHo ?_)))))))));rcases Decidable.em (0 < Aa) with Ah | Ah
   ·rw [show decide (0 < Aa)=true from decide_eq_true Ah];refine AH3 30 true (by kernel_rfl) rfl rfl (AHo (AH3 30 true (by kernel_rfl) rfl rfl (AHo (AH3 30 true (by kernel_rfl) rfl rfl (AHo (AH3 30 true (by kernel_rfl) rfl rfl ?_))))));obtain ⟨Cu,Cf,Bn⟩:=AHv (ifT Az Ah);refine AHy trivial tt2 rfl (ARi (H2.ext Am) ((A9.upT Ac AI3).upT Ab AI3).rd Cf) fun Cv Cw A3 Cg=>?_;subst Cg;refine AH3 30 true (by kernel_rfl) rfl rfl (AMj rfl (AIt rfl (ACt (q_t (⟨_,rfl,fun A4=>?_,fun A4=>?_⟩)))))
    ·refine ACu (ACv (AHq (ACt (q_t ?_))));obtain rfl:=AHw (ifT Bn A4);have Bo:=Ae;change _=Ak at Bo;subst Bo;have Bp:=Ao;(try dsimp only at Bp);refine AH1 (AJ0 (AIi (AIi (AJ0 (AIi ?_)))));obtain rfl:=AHw Bp;exact ⟨_,AH5,(Am.trans A3),rfl⟩
    ·refine AH2 (q_b (q_t (ACv (AJd rfl rfl (AHo (ACt (q_t ?_)))))));obtain rfl:=AHw (AQm Bn A4);exact ⟨Bb,((w64 (Aa + 1)):(Int)),Nat.lt_succ_self _,⟨Ae,((Ac.then Ab all_nil).thenE A3),(Af.keep A3.1)⟩,rfl,trivial⟩
   ·rw [show decide (0 < Aa)=false from decide_eq_false Ah];refine AH0 30 false (by kernel_rfl) rfl rfl (AH0 30 false (by kernel_rfl) rfl rfl (AH0 30 false (by kernel_rfl) rfl rfl (AH0 30 false (by kernel_rfl) rfl rfl (AH0 30 false (by kernel_rfl) rfl rfl (AIv rfl (ACt (q_t (AId rfl (AH2 (q_b (q_t (ACv (AJd rfl rfl (AHo (ACt (q_t ?_))))))))))))))));obtain rfl:=AHw (ifF Az Ah);exact ⟨Bb,((w64 (Aa + 1)):(Int)),Nat.lt_succ_self _,⟨Ae,(Ac.then Ab all_nil),Af⟩,rfl,trivial⟩
 ·obtain rfl:=AHw (AJ3 Ad Ar);have Bq:=Ae;change _=Ak at Bq;subst Bq;have Br:=Ao;(try dsimp only at Br);refine AIo (AIq (AIq (AJ5 (q_t (ACu (ACv (AHq (ACt (q_t (AH1 ?_))))))))));obtain rfl:=AHw Br;exact ⟨_,AH5,Ba,rfl⟩
def AKx (fuel:Nat) (a3:LiI):Option Bool:=
  ((AJl fuel a3).bind fun (x5,x6)=>(if x6=true then ((AJ4 fuel x5).bind fun Ad=>(if Ad=0 then ((AL4 fuel x5).bind fun Ae=>(if Ae=true then ((AMh fuel x5).bind fun Af=>(some Af)) else (some false))) else (some false))) else (some false)))
theorem ATe {fuel:Nat} {h:AHr} {Ad:Value} {a3:LiI} {r:Bool} (H2:AM9 (cI .i64) h Ad a3) (hp:AKx fuel a3=some r):AIj Tryz.prog 31 #[Ad] h (fun x h'=>Ext h h'/\x= .bool r):=by
 unfold AKx at hp;refine AHx (l:=[_]) mx Tryz.func31 rfl rfl rfl rfl rfl (by kernel_rfl) (ACu (ACv (AHq (ACt (q_t (ACu (ACv (AHo ?_))))))));obtain ⟨⟨x5,x6⟩,Aw,Ab⟩:=AHv hp;dsimp only at Ab;refine AHy trivial tt2 rfl (AQr H2 Aw) fun Bb Bc E9 Ax=>?_;obtain ⟨Be,Bf,Bg,Bh,rfl,Ag,Bi⟩:=Ax;refine AHo (AI7 rfl rfl (AI7 rfl rfl (AHq (AHq (ACt (q_t (ACu (ACv (AHo (AHo ?_))))))))));cases Ah:x6
 ·refine AH0 11 false (by kernel_rfl) rfl rfl (AH0 11 false (by kernel_rfl) rfl rfl (AH0 11 false (by kernel_rfl) rfl rfl (AIv rfl (AHo (AH0 16 false (by kernel_rfl) rfl rfl (AH0 16 false (by kernel_rfl) rfl rfl (AIv rfl (AHo (AH0 20 false (by kernel_rfl) rfl rfl (AH0 20 false (by kernel_rfl) rfl rfl (AIv rfl (AHq (ACt (q_t (AH1 ?_)))))))))))))));obtain rfl:=AHw (AQm Ab Ah);exact ⟨_,AH5,E9,rfl⟩
 ·refine AH3 11 true (by kernel_rfl) rfl rfl (AHo (AH3 11 true (by kernel_rfl) rfl rfl ?_));obtain ⟨Ac,Ay,Ai⟩:=AHv (ifT Ab Ah);refine AHy trivial tt2 rfl (AN9 Ag.rd Ay) fun Bj Bl Aj Az=>?_;subst Az;refine AH3 11 true (by kernel_rfl) rfl rfl (AIp rfl rfl (AMi _ _) (AIt rfl (AHo ?_)));have Ak:=E9.trans Aj;rcases Decidable.em (Ac=0) with Aa | Aa
  ·rw [show decide (Ac=0)=true from decide_eq_true Aa];refine AH3 16 true (by kernel_rfl) rfl rfl (AHo (AH3 16 true (by kernel_rfl) rfl rfl ?_));have Am:=Ag.ext Aj;obtain ⟨A3,A4,Ao⟩:=AHv (ifT Ai Aa);refine AHy trivial tt2 rfl (ARw Am.rd A4) fun Bm Bn Ap A5=>?_;subst A5;refine AIt rfl (AHo ?_);have Aq:=Ak.trans Ap;cases Ar:A3
   ·refine AH0 20 false (by kernel_rfl) rfl rfl (AH0 20 false (by kernel_rfl) rfl rfl (AIv rfl (AHq (ACt (q_t (AH1 ?_))))));obtain rfl:=AHw (AQm Ao Ar);exact ⟨_,AH5,Aq,rfl⟩
   ·refine AH3 20 true (by kernel_rfl) rfl rfl (AHo (AH3 20 true (by kernel_rfl) rfl rfl ?_));obtain ⟨Bo,A6,A7⟩:=AHv (ifT Ao Ar);refine AHy trivial tt2 rfl (AUc (Am.ext Ap).rd A6) fun Bp Bq A8 A9=>?_;subst A9;refine AIt rfl (AHq (ACt (q_t (AH1 ?_))));obtain rfl:=AHw A7;exact ⟨_,AH5,(Aq.trans A8),rfl⟩
  ·rw [show decide (Ac=0)=false from decide_eq_false Aa];refine AH0 16 false (by kernel_rfl) rfl rfl (AH0 16 false (by kernel_rfl) rfl rfl (AIv rfl (AHo (AH0 20 false (by kernel_rfl) rfl rfl (AH0 20 false (by kernel_rfl) rfl rfl (AIv rfl (AHq (ACt (q_t (AH1 ?_))))))))));obtain rfl:=AHw (ifF Ai Aa);exact ⟨_,AH5,Ak,rfl⟩
end Go.Proofs.YtmmckalinicpaaaGreatDoor
namespace Go.QF
open Go
def Ok {α:Type} (o:Option α) (Q:α->Prop):Prop:= ∃ r,o=some r/\Q r
theorem AHu {α:Type} {a:α} {Q:α->Prop} (h:Q a):Ok (some a) Q:=⟨a,rfl,h⟩
theorem AHt {α β:Type} {o:Option α} {f:α->Option β} {Q:α->Prop} {R:β->Prop} (h:Ok o Q) (k:∀ x,Q x->Ok (f x) R):Ok (o.bind f) R:=by
 obtain ⟨x,rfl,hx⟩:=h;exact k x hx
theorem AIb {c:Prop} [Decidable c] {α:Type} {a b:Option α} {R:α->Prop} (ht:c->Ok a R) (hf: ¬ c->Ok b R):Ok (if c then a else b) R:=by
 by_cases h:c
 ·rw [if_pos h];exact ht h
 ·rw [if_neg h];exact hf h
theorem AJ9 {c:Prop} [Decidable c] {α:Type} {a:Option α} {R:α->Prop} (hc:c) (h:Ok a R):Ok (if c then a else none) R:=by rw [if_pos hc];exact h
theorem ok_eq {α:Type} {o:Option α} {a:α} (h:Ok o (· =a)):o=some a:=by obtain ⟨x,h1,rfl⟩:=h;exact h1
theorem AIx {α:Type} {o:Option α} {a:α} (h:o=some a):Ok o (· =a):=⟨a,h,rfl⟩
theorem AIe {α β:Type} {L:List α} {i:Int} {n:Nat} {x:α} {f:α->Option β} {R:β->Prop} (hx:L[n]? =some x) (hi:i=n) (k:Ok (f x) R):Ok ((gI L i).bind f) R:=by
 subst hi;unfold gI;rw [if_pos (by omega),Int.toNat_natCast,hx];exact k
theorem AJa {S E:Type} {body:S->Option (S ⊕ E)} {fuel:Nat} {s0:S} (I:Nat->S->Prop) (n:Nat) {Q:E->Prop} (h0:I 0 s0) (hf:n < fuel) (hs:∀ i s,i<=n->I i s->Ok (body s) fun r=>match r with | .inl s'=>i < n/\I (i + 1) s' | .inr e=>Q e):Ok (iter body fuel s0) Q:=by
  have key:∀ k fuel i s,n - i=k->k < fuel->i<=n->I i s->Ok (iter body fuel s) Q:=by
    intro k;induction k with
    | zero=>
      intro fuel i s hk hf hi hI;obtain ⟨r,hr,hq⟩:=hs i s hi hI;cases fuel with
      | zero=>omega
      | succ f=>
        cases r with
        | inl s'=>simp at hq;omega
        | inr e=>exact ⟨e,by simp [iter,hr],hq⟩
    | succ k ih=>
      intro fuel i s hk hf hi hI;obtain ⟨r,hr,hq⟩:=hs i s hi hI;cases fuel with
      | zero=>omega
      | succ f=>
        cases r with
        | inl s'=>
          obtain ⟨e,he,hQ⟩:=ih f (i + 1) s' (by omega) (by omega) (by omega) hq.2;exact ⟨e,by simp [iter,hr,he],hQ⟩
        | inr e=>exact ⟨e,by simp [iter,hr],hq⟩
  exact key n fuel 0 s0 (by omega) hf (by omega) h0
theorem AIg {x:Int} (h1: -9223372036854775808<=x) (h2:x<=9223372036854775807):w64 x=x:=by
 show IntKind.i64.wrap x=x;rw [IntKind.wrap_i64];omega
def ALa {α:Type} (m:Nat) (f:Nat->α):List α:=(List.range m).map f
theorem AJj {α:Type} (m:Nat) (f:Nat->α):(ALa m f).length=m:=by simp [ALa]
theorem AIz {α:Type} {m:Nat} {f:Nat->α} {j:Nat} (h:j < m):(ALa m f)[j]? =some (f j):=by simp [ALa,h]
theorem AI5 {α:Type} {m:Nat} {f g:Nat->α} (h:∀ j,j < m->f j=g j):ALa m f=ALa m g:=by
 unfold ALa;exact List.map_congr_left fun j hj=>h j (List.mem_range.1 hj)
theorem AMo {α:Type} {m j:Nat} {f:Nat->α} {x:α}:(ALa m f).set j x=ALa m fun c=>if c=j then x else f c:=by
 apply List.ext_getElem?;intro i;rw [List.getElem?_set];by_cases h:j=i
 ·subst h;simp only [if_true,AJj];by_cases hj:j < m
  ·simp [hj,AIz hj]
  ·simp [hj,ALa]
 ·rw [if_neg h];by_cases hi:i < m
  ·rw [AIz hi,AIz hi,if_neg (fun he=>h he.symm)]
  ·simp [ALa,hi]
theorem ARd {α:Type} (m:Nat) (f:Nat->α):ALa m f ++ [f m]=ALa (m + 1) f:=by simp [ALa,List.range_succ]
theorem ANy {α:Type} (m:Nat) (a:α):List.replicate m a=ALa m fun _=>a:=by
 apply List.ext_getElem?;intro i;by_cases h:i < m
 ·rw [AIz h];simp [h]
 ·simp [ALa,h]
theorem AS8 (r c:Nat) (F:Nat->Nat->Int):tab r c F=ALa r fun i=>ALa c (F i):=rfl
theorem AJn {r c:Nat} {F:Nat->Nat->Int} {i:Nat} (h:i < r):(tab r c F)[i]? =some (ALa c (F i)):=AIz (f:=fun i=>ALa c (F i)) h
theorem Ap9 {r c i j:Nat} {F:Nat->Nat->Int} {x:Int}:(tab r c F).set i (ALa c fun q=>if q=j then x else F i q)=tab r c (AKb F i fun q=>if q=j then x else F i q):=ARn
theorem AKd {α:Type} (L:List α) (n:Nat) (x:α):sI L (n:Int) x=L.set n x:=by simp [sI]
end Go.QF
namespace Go.QF
theorem Aem (F:Nat->Nat->Int) (i:Nat) (f g:Nat->Int):AKb (AKb F i f) i g=AKb F i g:=by
 funext k;by_cases h:k=i
 ·subst h;rw [AJ6,AJ6]
 ·rw [AM8 _ _ h,AM8 _ _ h,AM8 _ _ h]
theorem AVw (F:Nat->Nat->Int) (i:Nat):AKb F i (F i)=F:=by
 funext k;by_cases h:k=i
 ·subst h;rw [AJ6]
 ·rw [AM8 _ _ h]
theorem ARx (f g:Nat->Int) (n:Nat):AJr (fun i=>f i + g i) n=AJr f n + AJr g n:=by
 induction n with
 | zero=>rfl
 | succ n ih=>simp only [AJr];rw [ih];omega
theorem AMx (c:Int) (f:Nat->Int) (n:Nat):AJr (fun i=>c * f i) n=c * AJr f n:=by
 induction n with
 | zero=>simp [AJr]
 | succ n ih=>simp only [AJr];rw [ih,Int.mul_add]
theorem ATs (n:Nat):AJr (fun _=>0) n=0:=by
 induction n with
 | zero=>rfl
 | succ n ih=>simp only [AJr];rw [ih];rfl
theorem Aen (f:Nat->Nat->Int) (n m:Nat):AJr (fun i=>AJr (fun j=>f i j) m) n=AJr (fun j=>AJr (fun i=>f i j) n) m:=by
 induction n with
 | zero=>simp only [AJr];exact (ATs m).symm
 | succ n ih=>
   simp only [AJr]
   rw [ih,<- ARx]
theorem Aqa {f g:Nat->Int} {n a:Nat} (ha:a < n) (h:∀ i,i≠a->g i=f i):AJr g n=AJr f n + (g a - f a):=by
  induction n with
  | zero=>omega
  | succ n ih=>
    simp only [AJr]
    by_cases hn:a=n
    · subst hn;rw [AIu (f:=g) (g:=f) (fun k hk=>h k (by omega))];omega
    · rw [ih (by omega),h n (fun he=>hn he.symm)];omega
theorem APr {f:Nat->Int} {n a:Nat} (ha:a < n) (h:∀ i,i≠a->f i=0):AJr f n=f a:=by
 rw [Aqa (f:=fun _=>0) ha h,ATs];omega
def Eqm (m a b:Int):Prop:=a % m=b % m
structure Azg (r j:Nat) (F:Nat->Nat->Int) (piv:List Nat):Prop where
  asc:piv.Pairwise (· < ·)
  lt:∀ x∈piv,x < j
  len:piv.length<=r
  unit:∀ a (ha:a < piv.length) i,i < r->F i piv[a]=if i=a then 1 else 0
  low:∀ i q,piv.length<=i->i < r->q < j->F i q=0
  lead:∀ a (ha:a < piv.length) q,q < piv[a]->F a q=0
theorem Aqb {f:Nat->Int} {k r:Nat} (hk:k<=r) (h:∀ i,k<=i->i < r->f i=0):AJr f r=AJr f k:=by
 induction r with
 | zero=>rw [Nat.le_zero.1 hk]
 | succ r ih=>
   rcases Nat.lt_or_ge k (r + 1) with h1 | h1
   · simp only [AJr]
     rw [ih (by omega) (fun i h2 h3=>h i h2 (by omega)),h r (by omega) (by omega)];omega
   · obtain rfl:k=r + 1:=by omega
     rfl
def dl (a b:Nat):Int:=if a=b then 1 else 0
def skp (i a:Nat):Nat:=if a < i then a else a + 1
def usk (i r:Nat):Nat:=if r < i then r else r - 1
def sg (i:Nat):Int:=if i % 2=0 then 1 else -1
theorem As5 (i:Nat):sg (i + 1)= -sg i:=by unfold sg;split <;> split <;> first | omega | rfl
theorem Avw (i a:Nat):skp i a≠i:=by unfold skp;split <;> omega
theorem Avx {i a n:Nat} (ha:a < n):skp i a < n + 1:=by unfold skp;split <;> omega
theorem As6 {i r:Nat} (h:r≠i):skp i (usk i r)=r:=by
 unfold usk;split <;> (unfold skp;split <;> omega)
theorem As7 {i a r:Nat} (h:skp i a=r):a=usk i r:=by unfold skp at h;unfold usk;split at h <;> split <;> omega
theorem Avy {i r n:Nat} (h:r≠i) (hi:i < n + 1) (hr:r < n + 1):usk i r < n:=by unfold usk;split <;> omega
theorem AI2 (F:Nat->Nat->Int) (a:Nat) (g:Nat->Int) (i j:Nat):AKb F a g i j=if i=a then g j else F i j:=by
 unfold AKb;split <;> rfl
theorem AR9 (F:Nat->Nat->Int) (a b i j:Nat):AMw F a b i j=if i=b then F a j else if i=a then F b j else F i j:=by
 unfold AMw;rw [AI2,AI2]
def AMb (i:Nat) (F:Nat->Nat->Int):Nat->Nat->Int:=fun a b=>F (skp i a) (b + 1)
def det:Nat->(Nat->Nat->Int)->Int
  | 0,_=>1
  | n + 1,F=>AJr (fun i=>sg i * F i 0 * det n (AMb i F)) (n + 1)
theorem AJo:∀ {n:Nat} {F G:Nat->Nat->Int},(∀ i j,i < n->j < n->F i j=G i j)->det n F=det n G:=by
 intro n
 induction n with
 | zero=>intro _ _ _;rfl
 | succ n ih=>
   intro F G h
   refine AIu fun i hi=>?_
   rw [h i 0 hi (by omega),ih (F:=AMb i F) (G:=AMb i G) fun a b ha hb=>h _ _ (Avx ha) (by omega)]
theorem AYx {i r:Nat} {F:Nat->Nat->Int} {g:Nat->Int} (h:r≠i):AMb i (AKb F r g)=AKb (AMb i F) (usk i r) (fun b=>g (b + 1)):=by
 funext a b;unfold AMb AKb;by_cases ha:skp i a=r
 ·rw [if_pos ha,if_pos (As7 ha)]
 ·rw [if_neg ha,if_neg (fun he=>ha (by rw [he,As6 h]))]
theorem Abn {i:Nat} {F:Nat->Nat->Int} {g:Nat->Int}:AMb i (AKb F i g)=AMb i F:=by
 funext a b;unfold AMb;rw [AM8 _ _ (Avw i a)]
theorem AWm:∀ {n:Nat} {F:Nat->Nat->Int} {r:Nat} (u v:Nat->Int) (c d:Int),r < n->det n (AKb F r fun q=>c * u q + d * v q)=c * det n (AKb F r u) + d * det n (AKb F r v):=by
 intro n
 induction n with
 | zero=>intro _ _ _ _ _ _ h;omega
 | succ n ih=>
   intro F r u v c d hr
   simp only [det]
   rw [<- AMx,<- AMx,<- ARx]
   refine AIu fun i hi=>?_
   by_cases h:r=i
   · subst h
     simp only [Abn,AJ6]
     grind
   · rw [AYx h,AYx h,AYx h,AM8 _ _ (Ne.symm h),AM8 _ _ (Ne.symm h),AM8 _ _ (Ne.symm h),ih (fun b=>u (b + 1)) (fun b=>v (b + 1)) c d (Avy h hi hr)]
     grind
theorem Aqc {f:Nat->Int} {n r s:Nat} (hr:r < n) (hs:s < n) (hrs:r≠s) (h:∀ i,i < n->i≠r->i≠s->f i=0):AJr f n=f r + f s:=by
 have h1:AJr f n=AJr (fun i=>(if i=r then f r else 0) + (if i=s then f s else 0)) n:=AIu fun i hi=>by
   by_cases h1:i=r
   · subst h1;rw [if_pos rfl,if_neg hrs];omega
   · rw [if_neg h1]
     by_cases h2:i=s
     · subst h2;rw [if_pos rfl];omega
     · rw [if_neg h2,h i hi h1 h2];rfl
 rw [h1,ARx,APr (f:=fun i=>if i=r then f r else 0) hr (fun i hi=>if_neg hi),APr (f:=fun i=>if i=s then f s else 0) hs (fun i hi=>if_neg hi),if_pos rfl,if_pos rfl]
theorem Ak7:∀ {n:Nat} {F:Nat->Nat->Int} {r:Nat},r + 1 < n->(∀ q,q < n->F r q=F (r + 1) q)->det n F=0:=by
 intro n
 induction n with
 | zero=>intro _ _ h;omega
 | succ n ih=>
   intro F r hr h
   simp only [det]
   rw [Aqc (r:=r) (s:=r + 1) (by omega) (by omega) (by omega)]
   · have:det n (AMb r F)=det n (AMb (r + 1) F):=AJo fun a b ha hb=>by
       unfold AMb skp
       by_cases h1:a < r
       · rw [if_pos h1,if_pos (by omega)]
       · rw [if_neg h1]
         by_cases h2:a < r + 1
         · rw [if_pos h2]
           obtain rfl:a=r:=by omega
           exact (h (b + 1) (by omega)).symm
         · rw [if_neg h2]
     rw [this,As5,h 0 (by omega)]
     grind
   · intro i hi h1 h2
     rcases Nat.lt_or_ge i r with hlt | hge
     · rw [ih (F:=AMb i F) (r:=r - 1) (by omega)]
       · simp
       · intro q hq
         unfold AMb skp
         rw [if_neg (by omega),if_neg (by omega),show r - 1 + 1=r by omega]
         exact h (q + 1) (by omega)
     · rw [ih (F:=AMb i F) (r:=r) (by omega)]
       · simp
       · intro q hq
         unfold AMb skp
         rw [if_pos (by omega),if_pos (by omega)]
         exact h (q + 1) (by omega)
theorem ATt {F:Nat->Nat->Int} {a b:Nat} (h:a≠b) (u v:Nat->Int):AKb (AKb F a u) b v=AKb (AKb F b v) a u:=by
 funext k;unfold AKb;by_cases h1:k=a <;> by_cases h2:k=b
 ·omega
 ·simp [h1,h]
 ·simp [h2,Ne.symm h]
 ·simp [h1,h2]
theorem Ahd {n:Nat} {F:Nat->Nat->Int} {a b:Nat} (ha:a < n) (hb:b < n) (hab:a≠b) (h0:∀ G:Nat->Nat->Int,G a=G b->det n G=0):det n (AMw F a b)= -det n F:=by
  have key:∀ u v:Nat->Int,det n (AKb (AKb F a u) b v)= -det n (AKb (AKb F a v) b u):=by
    intro u v;have h1:=h0 (AKb (AKb F a fun q=>1 * u q + 1 * v q) b fun q=>1 * u q + 1 * v q) (by rw [AJ6,AM8 _ _ hab,AJ6]);rw [AWm u v 1 1 hb,ATt hab,ATt hab,AWm u v 1 1 ha,AWm u v 1 1 ha,ATt (Ne.symm hab),ATt (Ne.symm hab),ATt (Ne.symm hab),ATt (Ne.symm hab)] at h1;have h2:=h0 (AKb (AKb F a u) b u) (by rw [AJ6,AM8 _ _ hab,AJ6]);have h3:=h0 (AKb (AKb F a v) b v) (by rw [AJ6,AM8 _ _ hab,AJ6]);omega
  unfold AMw;rw [key (F b) (F a),AVw];rw [show AKb F b (F b)=F from AVw F b]
theorem Ak8:∀ {d n:Nat} {F:Nat->Nat->Int} {a:Nat},a + d + 1 < n->F a=F (a + d + 1)->det n F=0:=by
 intro d
 induction d with
 | zero=>intro n F a hn h;exact Ak7 hn fun q _=>by rw [h]
 | succ d ih=>
   intro n F a hn h
   have h1:=Ahd (n:=n) (F:=F) (a:=a + d + 1) (b:=a + d + 1 + 1) (by omega) (by omega) (by omega) fun G hG=>Ak7 (r:=a + d + 1) (by omega) fun q _=>congrFun hG q
   have h2:=ih (n:=n) (F:=AMw F (a + d + 1) (a + d + 1 + 1)) (a:=a) (by omega) (by rw [Aad,Acq _ (by omega) (by omega),h];rfl)
   omega
theorem ASa {n:Nat} {F:Nat->Nat->Int} {a b:Nat} (ha:a < n) (hb:b < n) (hab:a≠b) (h:F a=F b):det n F=0:=by
 rcases Nat.lt_or_ge a b with hlt | hge
 ·exact Ak8 (d:=b - a - 1) (a:=a) (by omega) (by rw [h];congr 1;omega)
 ·exact Ak8 (d:=a - b - 1) (a:=b) (by omega) (by rw [<- h];congr 1;omega)
theorem AVx {n:Nat} {F:Nat->Nat->Int} {a b:Nat} (ha:a < n) (hb:b < n) (hab:a≠b):det n (AMw F a b)= -det n F:=
  Ahd ha hb hab fun _ h=>ASa ha hb hab h
theorem Am0 {n:Nat} {F:Nat->Nat->Int} {r:Nat} (u:Nat->Int) (c:Int) (hr:r < n):det n (AKb F r fun q=>c * u q)=c * det n (AKb F r u):=by
 have:=AWm (F:=F) u (fun _=>0) c 0 hr;rw [show (fun q=>c * u q + 0 * (fun _:Nat=>(0:Int)) q)=fun q=>c * u q from by funext q;omega] at this;rw [this];omega
theorem AZw {n:Nat} {F:Nat->Nat->Int} {r:Nat} (hr:r < n) (h:∀ q,q < n->F r q=0):det n F=0:=by
 have:=Am0 (F:=F) (F r) 0 hr;rw [Int.zero_mul] at this;rw [<- this]
 exact AJo fun i j hi hj=>by
   unfold AKb
   split
   · rename_i he;subst he;rw [h j hj];simp
   · rfl
theorem ASb {n:Nat} {F:Nat->Nat->Int} {a b:Nat} (ha:a < n) (hb:b < n) (hab:a≠b) (q:Int):det n (AKb F a fun x=>F a x + q * F b x)=det n F:=by
 have:=AWm (F:=F) (F a) (F b) 1 q ha;rw [AVw,ASa (F:=AKb F a (F b)) ha hb hab (by rw [AJ6,AM8 _ _ (Ne.symm hab)])] at this;rw [show (fun x=>F a x + q * F b x)=fun x=>1 * F a x + q * F b x from by funext x;omega,this];omega
theorem Ade {n:Nat} {F:Nat->Nat->Int} {r:Nat} (hr:r < n) (y:Nat->Int) (u:Nat->Nat->Int):∀ t,det n (AKb F r fun q=>AJr (fun k=>y k * u k q) t)=AJr (fun k=>y k * det n (AKb F r (u k))) t:=by
 intro t
 induction t with
 | zero=>exact AZw hr fun q _=>by rw [AJ6];rfl
 | succ t ih=>
   have:=AWm (F:=F) (fun q=>AJr (fun k=>y k * u k q) t) (u t) 1 (y t) hr
   simp only [AJr]
   rw [<- ih,show (fun q=>AJr (fun k=>y k * u k q) t + y t * u t q)=fun q=>1 * AJr (fun k=>y k * u k q) t + y t * u t q from by funext q;omega,this];omega
theorem Aqd {n:Nat} {F:Nat->Nat->Int} {r:Nat} (hr:r < n) (y:Nat->Int):det n (AKb F r fun q=>AJr (fun k=>y k * F k q) n)=y r * det n F:=by
  rw [Ade hr y F n,AIu (g:=fun k=>if k=r then y r * det n F else 0),APr hr (fun i hi=>if_neg hi),if_pos rfl];intro k hk
  by_cases h:k=r
  · subst h;rw [if_pos rfl,AVw]
  · rw [if_neg h,ASa (F:=AKb F r (F k)) hr hk (Ne.symm h) (by rw [AJ6,AM8 _ _ h])];simp
def ANe (f:Nat->Int):Nat->Int
  | 0=>1
  | n + 1=>ANe f n * f n
theorem Abd (f:Nat->Int) (n:Nat):ANe f (n + 1)=f 0 * ANe (fun i=>f (i + 1)) n:=by
 induction n with
 | zero=>simp [ANe]
 | succ n ih=>rw [ANe,ih,ANe];grind
theorem Abe {f g:Nat->Int} {n:Nat} (h:∀ i,i < n->f i=g i):ANe f n=ANe g n:=by
 induction n with
 | zero=>rfl
 | succ n ih=>rw [ANe,ANe,ih (fun i hi=>h i (by omega)),h n (by omega)]
theorem AX2:∀ {n:Nat} {F:Nat->Nat->Int},Zc n F n->det n F=ANe (fun i=>F i i) n:=by
 intro n
 induction n with
 | zero=>intro _ _;rfl
 | succ n ih=>
   intro F h
   rw [Abd,det,AIu (g:=fun i=>if i=0 then F 0 0 * det n (AMb 0 F) else 0),APr (a:=0) (by omega) (fun i hi=>if_neg hi),if_pos rfl]
   · rw [ih (F:=AMb 0 F) (fun c' i h1 h2 h3=>by unfold AMb skp;rw [if_neg (by omega)];exact h (c' + 1) (i + 1) (by omega) (by omega) (by omega))]
     rfl
   · intro i hi
     by_cases h0:i=0
     · subst h0;simp [sg]
     · rw [if_neg h0,h 0 i (by omega) (by omega) hi];simp
theorem Aeo:∀ {n:Nat} {F:Nat->Nat->Int},(∀ i j,i < j->j < n->F i j=0)->det n F=ANe (fun i=>F i i) n:=by
 intro n
 induction n with
 | zero=>intro _ _;rfl
 | succ n ih=>
   intro F h
   rw [Abd,det,AIu (g:=fun i=>if i=0 then F 0 0 * det n (AMb 0 F) else 0),APr (a:=0) (by omega) (fun i hi=>if_neg hi),if_pos rfl]
   · rw [ih (F:=AMb 0 F) (fun i j h1 h2=>by unfold AMb skp;rw [if_neg (by omega)];exact h (i + 1) (j + 1) (by omega) (by omega))]
     rfl
   · intro i hi
     by_cases h0:i=0
     · subst h0;simp [sg]
     · rw [if_neg h0,AZw (F:=AMb i F) (r:=0) (by omega) (fun q hq=>by unfold AMb skp;rw [if_pos (by omega)];exact h 0 (q + 1) (by omega) (by omega))];simp
def AYg (F:Nat->Nat->Int) (c i:Nat) (q:Int):Nat->Nat->Int:=AMw (AKb F c fun x=>F c x + -q * F i x) c i
theorem Ak9 (F:Nat->Nat->Int) {c i:Nat} (q:Int):AYg F c i q i=fun x=>F c x + -q * F i x:=by
 unfold AYg;rw [Agq,AJ6]
theorem As8 (F:Nat->Nat->Int) {c i:Nat} (h:c≠i) (q:Int):AYg F c i q c=F i:=by
 unfold AYg;rw [Aad,AM8 _ _ (Ne.symm h)]
theorem Ahe (F:Nat->Nat->Int) {c i k:Nat} (hc:k≠c) (hi:k≠i) (q:Int):AYg F c i q k=F k:=by
 unfold AYg;rw [Acq _ hc hi,AM8 _ _ hc]
theorem Aqe {n:Nat} {F:Nat->Nat->Int} {c i:Nat} {q:Int} (H:Zc n F c) (hci:c < i) (hi:i < n):Zc n (AYg F c i q) c:=by
 intro c' k h1 h2 h3;by_cases hk:k=i
 ·subst hk;rw [Ak9];simp [H c' c h1 h1 (by omega),H c' k h1 h2 h3]
 ·by_cases Ad:k=c
  ·subst Ad;rw [As8 F hk];exact H c' i h1 (by omega) hi
  ·rw [Ahe F Ad hk];exact H c' k h1 h2 h3
theorem Aqf {F:Nat->Nat->Int} {c i:Nat} {q:Int} (H:Zi F c i):Zi (AYg F c i q) c i:=by
 intro k h1 h2;rw [Ahe F (by omega) (by omega)];exact H k h1 h2
theorem Ala {n:Nat} {P:(Nat->Nat->Int)->Prop} (hadd:∀ F a b q,a < n->b < n->a≠b->P (AKb F a fun x=>F a x + q * F b x)->P F) (hswap:∀ F a b,a < n->b < n->a≠b->P (AMw F a b)->P F) (htri:∀ F,Zc n F n->P F):∀ F,P F:=by
  have key:∀ d c,c + d=n-> ∀ F,Zc n F c->P F:=by
    intro d;induction d with
    | zero=>
        intro c hc F hF;obtain rfl:c=n:=by omega
        exact htri F hF
    | succ d ih=>
      intro c hc
      have inner:∀ e i,i + e=n->c < i-> ∀ F,Zc n F c->Zi F c i->P F:=by
        intro e;induction e with
        | zero=>
            intro i hi hci F hF hz;obtain rfl:i=n:=by omega
            exact ih (c + 1) (by omega) F (Ar3 hF hz)
        | succ e ihe=>
          intro i hi hci
          have strong:∀ k F,(F i c).natAbs=k->Zc n F c->Zi F c i->P F:=by
            intro k;induction k using Nat.strongRecOn with
            | _ k ihk=>
              intro F hk hF hz
              by_cases h0:F i c=0
              · exact ihe (i + 1) (by omega) (by omega) F hF (Ar2 hz h0)
              · refine hadd F c i (-(F c c / F i c)) (by omega) (by omega) (by omega) (hswap _ c i (by omega) (by omega) (by omega) ?_);refine ihk ((AYg F c i (F c c / F i c)) i c).natAbs ?_ (AYg F c i (F c c / F i c)) rfl (Aqe hF hci (by omega)) (Aqf hz);rw [Ak9,<- hk];show (F c c + -(F c c / F i c) * F i c).natAbs < _;have h1:=Int.mul_ediv_add_emod (F c c) (F i c);have h2:F c c + -(F c c / F i c) * F i c=F c c % F i c:=by grind
                rw [h2];have h3:=Int.emod_nonneg (F c c) h0;have h4:=Int.emod_lt (F c c) h0;omega
          exact fun F=>strong _ F rfl
      exact fun F hF=>inner (n - (c + 1)) (c + 1) (by omega) (by omega) F hF fun k h1 h2=>by omega
  exact fun F=>key n 0 (by omega) F fun c' i h=>by omega
def ALn (n:Nat) (A B:Nat->Nat->Int):Nat->Nat->Int:=fun i j=>AJr (fun k=>A i k * B k j) n
theorem Aqg {n:Nat} {A B:Nat->Nat->Int} {a b:Nat} {q:Int}:ALn n (AKb A a fun x=>A a x + q * A b x) B=AKb (ALn n A B) a fun x=>ALn n A B a x + q * ALn n A B b x:=by
 funext i j;unfold ALn AKb;by_cases h:i=a
 ·simp only [if_pos h];rw [<- AMx,<- ARx];exact AIu fun k _=>by grind
 ·simp only [if_neg h]
theorem Ahf {n:Nat} {A B:Nat->Nat->Int} {a:Nat} {u:Nat->Int}:ALn n (AKb A a u) B=AKb (ALn n A B) a fun x=>AJr (fun k=>u k * B k x) n:=by
 funext i j;unfold ALn AKb;by_cases h:i=a
 ·simp only [if_pos h]
 ·simp only [if_neg h]
theorem Am1 {n:Nat} {A B:Nat->Nat->Int} {a b:Nat}:ALn n (AMw A a b) B=AMw (ALn n A B) a b:=by
 unfold AMw;rw [Ahf,Ahf];rfl
theorem Ab1 {n:Nat} (A B:Nat->Nat->Int):det n (ALn n A B)=det n A * det n B:=by
 refine Ala (n:=n) (P:=fun A=>det n (ALn n A B)=det n A * det n B) (fun F a b q ha hb hab h=>?_) (fun F a b ha hb hab h=>?_) (fun F hF=>?_) A
 ·rw [Aqg,ASb ha hb hab,ASb ha hb hab] at h;exact h
 ·rw [Am1,AVx ha hb hab,AVx ha hb hab] at h;rw [Int.neg_mul] at h;omega
 ·rw [AX2 hF]
  have key:∀ j,j<=n->det n (fun i=>if i < j then ALn n F B i else B i)=ANe (fun i=>F i i) j * det n B:=by
    intro j
    induction j with
    | zero=>intro _;simp [ANe]
    | succ j ih=>
      intro hj
      rw [ANe,Int.mul_assoc,Int.mul_comm (F j j),<- Int.mul_assoc,<- ih (by omega),Int.mul_comm]
      rw [<- Aqd (F:=fun i=>if i < j then ALn n F B i else B i) (r:=j) (by omega) (F j)]
      refine AJo fun i q hi hq=>?_
      unfold AKb
      by_cases h:i=j
      · subst h
        simp only [if_pos (Nat.lt_succ_self i),if_pos]
        unfold ALn
        refine AIu fun k hk=>?_
        by_cases hlt:k < i
        · rw [hF k i (by omega) hlt hi];simp
        · rw [if_neg hlt]
      · simp only [if_neg h]
        by_cases hlt:i < j
        · rw [if_pos hlt,if_pos (by omega)]
        · rw [if_neg hlt,if_neg (by omega)]
  rw [<- key n (Nat.le_refl _)];exact AJo fun i j hi hj=>by rw [if_pos hi]
def trF (F:Nat->Nat->Int):Nat->Nat->Int:=fun i j=>F j i
theorem Aqh (n:Nat):det n dl=1:=by
 rw [AX2 (fun c' i h1 h2 h3=>by unfold dl;rw [if_neg (by omega)])]
 have:∀ k,ANe (fun i=>dl i i) k=1:=by
   intro k
   induction k with
   | zero=>rfl
   | succ k ih=>rw [ANe,ih];simp [dl]
 exact this n
theorem Aqi {n:Nat} {F:Nat->Nat->Int} {i j:Nat} (hj:j < n):AJr (fun k=>F i k * dl k j) n=F i j:=by
 rw [APr hj (fun k hk=>by unfold dl;rw [if_neg hk];simp)];simp [dl]
theorem Ajq {n:Nat} {F:Nat->Nat->Int} {a:Nat} (y:Nat->Int) (ha:a < n):det n (trF (AKb F a fun x=>AJr (fun k=>y k * F k x) n))=det n (trF F) * det n (trF (AKb dl a y)):=by
  rw [<- Ab1];refine AJo fun i j hi hj=>?_;unfold ALn trF AKb
  by_cases h:j=a
  · simp only [if_pos h];exact AIu fun k _=>by grind
  · simp only [if_neg h];rw [APr hj (fun k hk=>by unfold dl;rw [if_neg (Ne.symm hk)];simp)];simp [dl]
theorem AUe {n:Nat} (F:Nat->Nat->Int):det n (trF F)=det n F:=by
 refine Ala (n:=n) (P:=fun F=>det n (trF F)=det n F) (fun F a b q ha hb hab h=>?_) (fun F a b ha hb hab h=>?_) (fun F hF=>?_) F
 ·rw [ASb ha hb hab] at h;rw [<- h];have h1:=Ajq (n:=n) (F:=F) (a:=a) (fun k=>dl k a + q * dl k b) ha
  have h2:det n (trF (AKb dl a fun k=>dl k a + q * dl k b))=1:=by
    rw [<- Aqh n,<- ASb (F:=dl) hb ha (Ne.symm hab) q]
    refine AJo fun i j hi hj=>?_
    clear h1 h
    simp only [trF,AI2,dl]
    grind
  rw [h2,Int.mul_one] at h1;rw [<- h1];refine AJo fun i j hi hj=>?_;unfold trF AKb;by_cases hja:j=a
  ·simp only [if_pos hja];rw [AIu (g:=fun k=>F k i * dl k a + q * (F k i * dl k b)) (fun k _=>by grind),ARx,AMx];rw [APr (a:=a) ha (fun k hk=>by unfold dl;rw [if_neg hk];simp),APr (a:=b) hb (fun k hk=>by unfold dl;rw [if_neg hk];simp)];simp [dl]
  ·simp only [if_neg hja]
 ·rw [AVx ha hb hab] at h
  have h1:det n (trF (AMw F a b))=det n (trF F) * det n (AMw dl a b):=by
    rw [<- Ab1]
    refine AJo fun i j hi hj=>?_
    unfold ALn trF
    have hsym:∀ k,AMw dl a b k j=if j=a then dl k b else if j=b then dl k a else dl k j:=by
      intro k
      simp only [AR9,dl]
      grind
    rw [AIu (g:=fun k=>F k i * dl k (if j=a then b else if j=b then a else j)) (fun k _=>by rw [hsym];grind)]
    rw [APr (a:=if j=a then b else if j=b then a else j) (by grind) (fun k hk=>by unfold dl;rw [if_neg hk];simp)]
    simp only [dl,if_pos,Int.mul_one]
    by_cases h3:j=a
    · subst h3;rw [Aad,if_pos rfl]
    · rw [if_neg h3]
      by_cases h4:j=b
      · subst h4;rw [Agq,if_pos rfl]
      · rw [Acq _ h3 h4,if_neg h4]
  rw [AVx ha hb hab,Aqh] at h1;omega
 ·rw [AX2 hF,Aeo (F:=trF F) (fun i j h1 h2=>hF i j (by omega) h1 h2)];rfl
def shF (k:Nat) (F:Nat->Nat->Int):Nat->Nat->Int:=fun i j=>F (k + i) (k + j)
theorem Aep {i k a:Nat} (h:i < k + 1):skp i (k + a)=k + 1 + a:=by unfold skp;rw [if_neg (by omega)];omega
theorem Aat:∀ {k m:Nat} {T:Nat->Nat->Int},(∀ i j,k<=i->i < k + m->j < k->T i j=0)->det (k + m) T=det k T * det m (shF k T):=by
  intro k;induction k with
  | zero=>
    intro m T _;have e:shF 0 T=T:=by funext i j;simp [shF]
    rw [e,Nat.zero_add];simp [det]
  | succ k ih=>
    intro m T h;rw [show k + 1 + m=(k + m) + 1 by omega];simp only [det];rw [Aqb (k:=k + 1) (by omega) (fun i h1 h2=>by rw [h i 0 h1 (by omega) (by omega)];simp)];rw [Int.mul_comm,<- AMx];refine AIu fun i hi=>?_
    rw [ih (T:=AMb i T) (m:=m) (fun a b ha ha2 hb=>by
      obtain ⟨c,rfl⟩:∃ c,a=k + c:=⟨a - k,by omega⟩;unfold AMb;rw [Aep hi];exact h _ _ (by omega) (by omega) (by omega))]
    have e:shF k (AMb i T)=shF (k + 1) T:=by
      funext a b;unfold shF AMb;rw [Aep hi,show k + b + 1=k + 1 + b by omega]
    rw [e];grind
theorem Afz {n:Nat} {F:Nat->Nat->Int} (h:∀ i,i < n + 1->F i 0=0):det (n + 1) F=0:=by
 simp only [det];rw [AIu (g:=fun _=>0) fun i hi=>by rw [h i hi];simp];exact ATs _
theorem Ahg {n:Nat} {F:Nat->Nat->Int} {a b:Nat} (ha:a < n) (hb:b < n) (hab:a≠b) (h:∀ i,F i a=F i b):det n F=0:=by
 rw [<- AUe];exact ASa ha hb hab (by funext i;exact h i)
theorem As9 (F:Nat->Nat->Int):det 2 F=F 0 0 * F 1 1 - F 1 0 * F 0 1:=by
 simp [det,AJr,AMb,skp,sg];grind
def bro (k i r:Nat):Nat:=if r < k then r else i
def Mn (k:Nat) (A:Nat->Nat->Int) (i j:Nat):Int:=det (k + 1) fun r c=>A (bro k i r) (bro k j c)
theorem ASo (A:Nat->Nat->Int) (i j:Nat):Mn 0 A i j=A i j:=by
 simp [Mn,det,AJr,bro,sg]
theorem APh (k:Nat) (A:Nat->Nat->Int):Mn k A k k=det (k + 1) A:=by
 refine AJo fun r c hr hc=>?_;have e:∀ r,r < k + 1->bro k k r=r:=fun r hr=>by unfold bro;split <;> omega
 rw [e r hr,e c hc]
theorem Aup {k:Nat} (A:Nat->Nat->Int) (i:Nat) {j:Nat} (hj:j < k):Mn k A i j=0:=by
 refine Ahg (a:=j) (b:=k) (by omega) (by omega) (by omega) fun r=>?_;unfold bro;simp [hj]
def cof (k:Nat) (A:Nat->Nat->Int) (i s:Nat):Int:=det (k + 1) (AKb (fun c r=>A (bro k i r) c) k (dl s))
theorem Af0 {n:Nat} (f:Nat->Int) {q:Nat} (hq:q < n):AJr (fun s=>f s * dl s q) n=f q:=by
 rw [APr hq (fun i hi=>by unfold dl;rw [if_neg hi,Int.mul_zero])];simp [dl]
theorem Avz (k:Nat) (A:Nat->Nat->Int) (i j:Nat):Mn k A i j=AJr (fun s=>cof k A i s * A s j) k + det k A * A i j:=by
 have h1:Mn k A i j=det (k + 1) (AKb (fun c r=>A (bro k i r) c) k fun q=>AJr (fun s=>A (bro k i s) j * dl s q) (k + 1)):=by
   unfold Mn
   rw [<- AUe]
   refine AJo fun c r hc hr=>?_
   rw [AI2,Af0 _ hr]
   unfold trF
   split
   · subst_vars;simp [bro]
   · have:c < k:=by omega
     simp [bro,this]
 rw [h1,Ade (by omega)]
 have hk:det (k + 1) (AKb (fun c r=>A (bro k i r) c) k (dl k))=det k A:=by
   rw [Aat (k:=k) (m:=1) (T:=AKb (fun c r=>A (bro k i r) c) k (dl k)) (fun a b h1 h2 h3=>by
     obtain rfl:a=k:=by omega
     rw [AI2,if_pos rfl];unfold dl;rw [if_neg (by omega)])]
   have e1:det k (AKb (fun c r=>A (bro k i r) c) k (dl k))=det k A:=by
     rw [<- AUe]
     refine AJo fun r c hr hc=>?_
     unfold trF
     rw [AI2,if_neg (by omega)]
     simp [bro,hr]
   have e2:det 1 (shF k (AKb (fun c r=>A (bro k i r) c) k (dl k)))=1:=by
     simp [det,AJr,shF,sg,AI2,dl]
   rw [e1,e2,Int.mul_one]
 show AJr (fun s=>A (bro k i s) j * det (k + 1) (AKb (fun c r=>A (bro k i r) c) k (dl s))) k + A (bro k i k) j * det (k + 1) (AKb (fun c r=>A (bro k i r) c) k (dl k))=_;rw [hk];congr 1
 ·refine AIu fun s hs=>?_;show _=cof k A i s * A s j;unfold cof;rw [Int.mul_comm];simp [bro,hs]
 ·simp [bro,Int.mul_comm]
theorem Ahh (f:Nat->Int) (k m:Nat):ANe f (k + m)=ANe f k * ANe (fun i=>f (k + i)) m:=by
 induction m with
 | zero=>simp [ANe]
 | succ m ih=>rw [<- Nat.add_assoc];simp only [ANe];rw [ih];grind
theorem Aeq {f:Nat->Int}:∀ {n:Nat},(∀ i,i < n->f i=1)->ANe f n=1
  | 0,_=>rfl
  | n + 1,h=>by rw [ANe,Aeq fun i hi=>h i (by omega),h n (by omega)];rfl
theorem Ahi {f:Nat->Int}:∀ {n:Nat},(∀ i,i < n->f i≠0)->ANe f n≠0
  | 0,_=>by simp [ANe]
  | n + 1,h=>by rw [ANe];exact Int.mul_ne_zero (Ahi fun i hi=>h i (by omega)) (h n (by omega))
def AWy (k:Nat) (A:Nat->Nat->Int) (ρ:Nat->Nat):Nat->Nat->Int:=fun r s=>if r < k then dl r s else if s < k then cof k A (ρ r) s else if s=r then det k A else 0
theorem Ahj {k n:Nat} {A B:Nat->Nat->Int} {ρ γ:Nat->Nat} (hkn:k<=n) (hρ:∀ r,r < k->ρ r=r) (hB:∀ r c,B r c=A (ρ r) (γ c)) {r c:Nat} (hr:r < n):ALn n (AWy k A ρ) B r c=if r < k then B r c else Mn k A (ρ r) (γ c):=by
 unfold ALn;by_cases h:r < k
 ·rw [if_pos h,APr hr (fun i hi=>by unfold AWy;rw [if_pos h];unfold dl;rw [if_neg (fun e=>hi e.symm),Int.zero_mul])];unfold AWy;rw [if_pos h];simp [dl]
 ·rw [if_neg h,Avz];obtain ⟨m,rfl⟩:∃ m,n=k + m:=⟨n - k,by omega⟩
  have hs:∀ t,AJr (fun s=>AWy k A ρ r s * B s c) (k + t)=AJr (fun s=>cof k A (ρ r) s * A s (γ c)) k + (if r < k + t then det k A * A (ρ r) (γ c) else 0):=by
    intro t
    induction t with
    | zero=>
      rw [if_neg (by omega),Int.add_zero,Nat.add_zero]
      refine AIu fun s hs=>?_
      unfold AWy
      rw [if_neg h,if_pos hs,hB,hρ s hs]
    | succ t ih=>
      show AJr (fun s=>AWy k A ρ r s * B s c) (k + t) + AWy k A ρ r (k + t) * B (k + t) c=_
      rw [ih]
      have e:AWy k A ρ r (k + t)=if k + t=r then det k A else 0:=by unfold AWy;rw [if_neg h,if_neg (by omega)]
      rw [e,hB]
      rcases Nat.lt_trichotomy r (k + t) with h1 | h1 | h1
      · rw [if_pos h1,if_neg (by omega),if_pos (by omega)];simp
      · subst h1;rw [if_neg (by omega),if_pos rfl,if_pos (by omega)];omega
      · rw [if_neg (by omega),if_neg (by omega),if_neg (by omega)];simp
  rw [hs,if_pos hr]
theorem Ahk {k m:Nat} {A:Nat->Nat->Int} {ρ:Nat->Nat}:det (k + m) (AWy k A ρ)=ANe (fun _=>det k A) m:=by
 rw [Aeo (fun i j hij hj=>by
   unfold AWy
   split
   · unfold dl;rw [if_neg (by omega)]
   · rw [if_neg (by omega),if_neg (by omega)]),Ahh,Aeq,Int.one_mul]
 ·refine Abe fun i hi=>?_;unfold AWy;rw [if_neg (by omega),if_neg (by omega),if_pos rfl]
 ·intro i hi;unfold AWy;rw [if_pos hi];simp [dl]
theorem AX3 {k:Nat} {A:Nat->Nat->Int} (h0:det k A≠0) (i j:Nat):Mn k A k k * Mn k A i j - Mn k A i k * Mn k A k j=det k A * Mn (k + 1) A i j:=by
  have h1:=Ab1 (n:=k + 2) (AWy k A (bro (k + 1) i)) fun r c=>A (bro (k + 1) i r) (bro (k + 1) j c)
  have hm:∀ r c,r < k + 2->ALn (k + 2) (AWy k A (bro (k + 1) i)) (fun r c=>A (bro (k + 1) i r) (bro (k + 1) j c)) r c=if r < k then A (bro (k + 1) i r) (bro (k + 1) j c) else Mn k A (bro (k + 1) i r) (bro (k + 1) j c):=fun r c hr=>
    Ahj (k:=k) (n:=k + 2) (A:=A) (B:=fun r c=>A (bro (k + 1) i r) (bro (k + 1) j c)) (ρ:=bro (k + 1) i) (γ:=bro (k + 1) j) (by omega) (fun r hr=>by unfold bro;rw [if_pos (by omega)]) (fun r c=>rfl) hr
  rw [Ahk,Aat (k:=k) (m:=2) (fun a b ha ha2 hb=>by
    rw [hm a b ha2,if_neg (by omega),show bro (k + 1) j b=b by unfold bro;rw [if_pos (by omega)]];exact Aup _ _ hb)] at h1
  have e1:det k (ALn (k + 2) (AWy k A (bro (k + 1) i)) fun r c=>A (bro (k + 1) i r) (bro (k + 1) j c))=det k A:=by
    refine AJo fun r c hr hc=>?_;rw [hm r c (by omega),if_pos hr];simp only [bro];rw [if_pos (by omega),if_pos (by omega)]
  have b0:∀ q,bro (k + 1) q (k + 0)=k:=fun q=>by unfold bro;rw [if_pos (by omega)];rfl
  have b1:∀ q,bro (k + 1) q (k + 1)=q:=fun q=>by unfold bro;rw [if_neg (by omega)]
  rw [e1,As9] at h1;simp only [shF] at h1;rw [hm _ _ (by omega),hm _ _ (by omega),hm _ _ (by omega),hm _ _ (by omega),if_neg (by omega),if_neg (by omega),if_neg (by omega),if_neg (by omega),b0,b0,b1,b1] at h1;have e2:ANe (fun _=>det k A) 2=det k A * det k A:=by simp [ANe]
  have e3:(det (k + 2) fun r c=>A (bro (k + 1) i r) (bro (k + 1) j c))=Mn (k + 1) A i j:=rfl;rw [e2,e3,Int.mul_assoc] at h1;exact Int.eq_of_mul_eq_mul_left h0 h1
theorem Ahl {k n:Nat} {A:Nat->Nat->Int} (h0:det k A≠0) (hk:k < n) (hz:∀ i,k<=i->i < n->Mn k A i k=0):det n A=0:=by
  obtain ⟨m,rfl⟩:∃ m,n=k + (m + 1):=⟨n - k - 1,by omega⟩;have h1:=Ab1 (n:=k + (m + 1)) (AWy k A id) A
  have hm:∀ r c,r < k + (m + 1)->ALn (k + (m + 1)) (AWy k A id) A r c=if r < k then A r c else Mn k A r c:=fun r c hr=>
    Ahj (k:=k) (n:=k + (m + 1)) (A:=A) (B:=A) (ρ:=id) (γ:=id) (by omega) (fun r hr=>rfl) (fun r c=>rfl) hr
  rw [Ahk,Aat (k:=k) (m:=m + 1) (fun a b ha ha2 hb=>by rw [hm a b ha2,if_neg (by omega)];exact Aup _ _ hb),Afz (F:=shF k _) (fun i hi=>by
    unfold shF;rw [hm _ _ (by omega),if_neg (by omega)];exact hz _ (by omega) (by omega)),Int.mul_zero] at h1
  rcases Int.mul_eq_zero.1 h1.symm with h2 | h2
  · exact absurd h2 (Ahi fun i hi=>h0)
  · exact h2
def dBd (m:Nat):Nat->Nat
  | 0=>1
  | n + 1=>(n + 1) * m * dBd m n
theorem psum_abs {f:Nat->Int} {B:Nat}:∀ {n:Nat},(∀ i,i < n->(f i).natAbs<=B)->(AJr f n).natAbs<=n * B
  | 0,_=>by simp [AJr]
  | n + 1,h=>by
    have h1:=psum_abs (n:=n) fun i hi=>h i (by omega)
    have h2:=h n (by omega)
    have h3:=Int.natAbs_add_le (AJr f n) (f n)
    show (AJr f n + f n).natAbs<=_
    rw [Nat.add_mul,Nat.one_mul]
    omega
theorem Ab2 {m:Nat}:∀ {n:Nat} {F:Nat->Nat->Int},(∀ i j,(F i j).natAbs<=m)->(det n F).natAbs<=dBd m n
  | 0,_,_=>by simp [det,dBd]
  | n + 1,F,h=>by
    have h1:=psum_abs (f:=fun i=>sg i * F i 0 * det n (AMb i F)) (B:=m * dBd m n) (n:=n + 1) fun i hi=>by
      have e:=Ab2 (n:=n) (F:=AMb i F) fun a b=>h _ _
      have es:(sg i).natAbs=1:=by unfold sg;split <;> rfl
      rw [Int.natAbs_mul,Int.natAbs_mul,es,Nat.one_mul]
      exact Nat.mul_le_mul (h i 0) e
    rw [dBd,Nat.mul_assoc]
    exact h1
theorem Ata {k n p:Nat} {A:Nat->Nat->Int} (hp:k < p) {i j:Nat} (hi:k<=i):Mn k (AMw A p k) i j=Mn k A (if i=k then p else if i=p then k else i) j:=by
 refine AJo fun r c hr hc=>?_;rw [AR9];unfold bro;by_cases h:r < k
 ·rw [if_pos h,if_pos h,if_neg (by omega),if_neg (by omega)]
 ·rw [if_neg h,if_neg h];split
  ·rfl
  ·split <;> rfl
theorem Af1 {k p:Nat} {A:Nat->Nat->Int} (hp:k < p):det k (AMw A p k)=det k A:=by
 refine AJo fun r c hr hc=>?_;rw [AR9,if_neg (by omega),if_neg (by omega)]
def sgB (neg:Bool):Int:=if neg then -1 else 1
def Aau (m:Nat) (A0:Nat->Nat->Int) (n k:Nat) (F:Nat->Nat->Int) (last:Int) (neg:Bool):Prop:=
  ∃ A:Nat->Nat->Int,det n A=sgB neg * det n A0/\(∀ i j,k<=i->i < n->k<=j->j < n->F i j=Mn k A i j)/\last=det k A/\last≠0/\ ∀ i j,(A i j).natAbs<=m
theorem Ajr {m n:Nat} {A0:Nat->Nat->Int} (h:∀ i j,(A0 i j).natAbs<=m):Aau m A0 n 0 A0 1 false:=
  ⟨A0,by simp [sgB],fun i j _ _ _ _=>(ASo A0 i j).symm,rfl,by decide,h⟩
theorem Am2 {m n k p:Nat} {A0 F:Nat->Nat->Int} {last:Int} {neg:Bool} (H:Aau m A0 n k F last neg) (hkp:k < p) (hp:p < n):Aau m A0 n k (AMw F p k) last (!neg):=by
 obtain ⟨A,h1,h2,h3,h4,h5⟩:=H;refine ⟨AMw A p k,?_,fun i j hi hin hj hjn=>?_,by rw [Af1 hkp];exact h3,h4,fun i j=>?_⟩
 ·rw [AVx hp (by omega) (by omega),h1];cases neg <;> simp [sgB]
 ·rw [Ata (n:=n) hkp hi,AR9];split
  ·rw [h2 p j (by omega) hp hj hjn]
  ·split
   ·rw [h2 k j (by omega) (by omega) hj hjn]
   ·rw [h2 i j hi hin hj hjn]
 ·rw [AR9];split
  ·exact h5 _ _
  ·split <;> exact h5 _ _
def bQ (k:Nat) (F:Nat->Nat->Int) (last:Int) (r c:Nat):Int:=(F k k * F r c - F r k * F k c) / last
def bF (k:Nat) (F:Nat->Nat->Int) (last:Int) (i j:Nat):Nat->Nat->Int:=fun r c=>if k < r/\k < c/\(r < i∨r=i/\c < j) then bQ k F last r c else F r c
theorem Ahm (k:Nat) (F:Nat->Nat->Int) (last:Int):bF k F last (k + 1) (k + 1)=F:=by
 funext r c;unfold bF;rw [if_neg (by omega)]
theorem Aqk (k n:Nat) (F:Nat->Nat->Int) (last:Int) (i:Nat) {r c:Nat} (hc:c < n):bF k F last i n r c=bF k F last (i + 1) (k + 1) r c:=by
 unfold bF;by_cases h:k < r/\k < c/\(r < i∨r=i/\c < n)
 ·rw [if_pos h,if_pos (by omega)]
 ·rw [if_neg h,if_neg (by omega)]
theorem Aql (k:Nat) (F:Nat->Nat->Int) (last:Int) {i j:Nat} (hi:k < i) (hj:k < j):(AKb (bF k F last i j) i fun c=>if c=j then bQ k F last i j else bF k F last i j i c)=bF k F last i (j + 1):=by
 funext r c;rw [AI2];split
 ·subst_vars
  split
  ·subst_vars;unfold bF;rw [if_pos (by omega)]
  ·unfold bF;by_cases h:k < r/\k < c/\(r < r∨r=r/\c < j)
   ·rw [if_pos h,if_pos (by omega)]
   ·rw [if_neg h,if_neg (by omega)]
 ·unfold bF;by_cases h:k < r/\k < c/\(r < i∨r=i/\c < j)
  ·rw [if_pos h,if_pos (by omega)]
  ·rw [if_neg h,if_neg (by omega)]
theorem Alb (k:Nat) (F:Nat->Nat->Int) (last:Int) (i j c:Nat):bF k F last i j k c=F k c:=by unfold bF;rw [if_neg (by omega)]
theorem Auq (k:Nat) (F:Nat->Nat->Int) (last:Int) (i j r:Nat):bF k F last i j r k=F r k:=by unfold bF;rw [if_neg (by omega)]
theorem Aur (k:Nat) (F:Nat->Nat->Int) (last:Int) (i j:Nat):bF k F last i j i j=F i j:=by unfold bF;rw [if_neg (by omega)]
theorem Aus {m n k:Nat} {A0 F:Nat->Nat->Int} {last:Int} {neg:Bool} (H:Aau m A0 n k F last neg) (hk:k < n):∃ A,(∀ i j,(A i j).natAbs<=m)/\det n A=sgB neg * det n A0/\F k k=det (k + 1) A/\ ∀ i j,k<=i->i < n->k<=j->j < n->F i j=Mn k A i j/\bQ k F last i j=Mn (k + 1) A i j:=by
 obtain ⟨A,h1,h2,h3,h4,h5⟩:=H;refine ⟨A,h5,h1,by rw [h2 k k (by omega) hk (by omega) hk,APh],fun i j hi hin hj hjn=>⟨h2 i j hi hin hj hjn,?_⟩⟩;unfold bQ;rw [h2 k k (by omega) hk (by omega) hk,h2 i j hi hin hj hjn,h2 i k hi hin (by omega) hk,h2 k j (by omega) hk hj hjn,AX3 (by rw [<- h3];exact h4),<- h3,Int.mul_ediv_cancel_left _ h4]
theorem Am3 {m n k:Nat} {A0 F:Nat->Nat->Int} {last:Int} {neg:Bool} (H:Aau m A0 n k F last neg) (hk:k < n) (h0:F k k≠0):Aau m A0 n (k + 1) (bF k F last n (k + 1)) (F k k) neg:=by
 obtain ⟨A,h5,h1,h6,h2⟩:=Aus H hk;refine ⟨A,h1,fun i j hi hin hj hjn=>?_,h6,h0,h5⟩;unfold bF;rw [if_pos (by omega)];exact (h2 i j (by omega) hin (by omega) hjn).2
theorem Am4 {m n k:Nat} {A0 F:Nat->Nat->Int} {last:Int} {neg:Bool} (H:Aau m A0 n k F last neg) (hk:k < n) (hz:∀ i,k<=i->i < n->F i k=0):det n A0=0:=by
 obtain ⟨A,h1,h2,h3,h4,h5⟩:=H;have h:=Ahl (A:=A) (by rw [<- h3];exact h4) hk fun i hi hin=>by rw [<- h2 i k hi hin (by omega) hk];exact hz i hi hin
 rw [h1] at h;rcases Int.mul_eq_zero.1 h with h6 | h6
 ·cases neg <;> simp [sgB] at h6
 ·exact h6
theorem Aqm {m n:Nat} {A0 F:Nat->Nat->Int} {last:Int} {neg:Bool} (H:Aau m A0 n n F last neg):det n A0=if neg then -last else last:=by
 obtain ⟨A,h1,h2,h3,h4,h5⟩:=H;rw [<- h3] at h1;rw [h1];cases neg
 ·simp [sgB]
 ·simp [sgB]
theorem Ajs {m k:Nat} {A:Nat->Nat->Int} (h:∀ i j,(A i j).natAbs<=m) (i j:Nat):(Mn k A i j).natAbs<=dBd m (k + 1):=Ab2 fun r c=>h _ _
theorem AUf {m:Nat} (hm:1<=m) {a b:Nat} (h:a<=b):dBd m a<=dBd m b:=by
 induction h with
 | refl=>exact Nat.le_refl _
 | step h ih=>
   refine Nat.le_trans ih ?_
   rw [dBd]
   exact Nat.le_mul_of_pos_left _ (Nat.mul_pos (by omega) (by omega))
theorem Aqn {m n k:Nat} {A0 F:Nat->Nat->Int} {last:Int} {neg:Bool} (hm:1<=m) (H:Aau m A0 n k F last neg) (hk:k < n) {i j:Nat} (hi:k<=i) (hin:i < n) (hj:k<=j) (hjn:j < n):(F i j).natAbs<=dBd m n/\(bQ k F last i j).natAbs<=dBd m (n + 1):=by
  obtain ⟨A,h5,h1,h6,h2⟩:=Aus H hk;obtain ⟨h7,h8⟩:=h2 i j hi hin hj hjn;rw [h7,h8];exact ⟨Nat.le_trans (Ajs h5 _ _) (AUf hm (by omega)),Nat.le_trans (Ajs h5 _ _) (AUf hm (by omega))⟩
theorem Am5 {m n k:Nat} {A0 F:Nat->Nat->Int} {last:Int} {neg:Bool} (hm:1<=m) (H:Aau m A0 n k F last neg) (hk:k<=n):last≠0/\last.natAbs<=dBd m n:=by
 obtain ⟨A,h1,h2,h3,h4,h5⟩:=H;exact ⟨h4,by rw [h3];exact Nat.le_trans (Ab2 h5) (AUf hm hk)⟩
end Go.QF
namespace Go.Proofs.YtmmckalinicpaaaGreatDoor
open Go Go.QF
theorem Atb {α:Type} {i n:Nat} {a b c:α} (h:i < n):(List.replicate i a ++ List.replicate (n - i) b).set i c=List.replicate i a ++ (c :: List.replicate (n - i - 1) b):=by
 rw [List.set_append_right _ _ (by simp),List.length_replicate,Nat.sub_self,show n - i=(n - i - 1) + 1 by omega,List.replicate_succ];rfl
theorem Ab3 {fuel n m:Nat} (hn:n<=100000000) (hm:m<=100000000) (hf:n < fuel):AKt fuel n m=some (List.replicate n (List.replicate m 0)):=by
 apply ok_eq;unfold AKt;refine AJ9 (by omega) (AHt (AJa (fun i s=>s=((i:Int),List.replicate i (List.replicate m 0) ++ List.replicate (n - i) [])) n (Q:=(· =List.replicate n (List.replicate m 0))) (by simp) hf fun i s hi hI=>?_) fun x hx=>AHu hx);subst hI;unfold APl;dsimp only;rw [List.length_replicate,Int.toNat_natCast];refine AIb (fun h=>AJ9 (by omega) (AIe (n:=i) (x:=[]) ?_ rfl (AHu ⟨by omega,?_⟩))) (fun h=>AHu ?_)
 ·rw [List.getElem?_append_right (by simp),List.length_replicate,Nat.sub_self,List.getElem?_replicate,if_pos (by omega)]
 ·rw [AIg (by omega) (by omega),AKd,Int.toNat_natCast,Atb (by omega)];congr 1;rw [show n - (i + 1)=n - i - 1 by omega,List.replicate_succ'];simp
 ·obtain rfl:i=n:=by omega
  simp
theorem Af2 {α:Type} {A:List (List α)} {i:Nat} {row:List α} (hi:i < A.length):(A.take i ++ row :: List.replicate (A.length - i - 1) []).set i=fun r=>A.take i ++ r :: List.replicate (A.length - i - 1) []:=by
 funext r;rw [List.set_append_right _ _ (by simp;omega),List.length_take,Nat.min_eq_left (by omega),Nat.sub_self];rfl
theorem Alc {fuel:Nat} {A:List (List Int)} (hn:A.length<=100000000) (hm:∀ z∈A,z.length<=100000000/\z.length < fuel) (hf:A.length < fuel):AMe fuel A=some A:=by
 apply ok_eq;unfold AMe;refine AJ9 (by omega) (AHt (AJa (fun i s=>s=((i:Int),A.take i ++ List.replicate (A.length - i) [])) A.length (Q:=(· =A)) (by simp) hf fun i s hi hI=>?_) fun x hx=>AHu hx);subst hI;unfold APn;dsimp only;refine AIb (fun h=>?_) (fun h=>AHu ?_)
 ·have hi':i < A.length:=by omega
  obtain ⟨row,hrow⟩:∃ row,A[i]? =some row:=⟨A[i],List.getElem?_eq_getElem hi'⟩;have hr:=hm row (List.mem_of_getElem? hrow);refine AIe hrow rfl (AHt (AJa (fun j s=>s=((j:Int),A.take i ++ row.take j :: List.replicate (A.length - i - 1) [])) row.length (Q:=(· =A.take i ++ row :: List.replicate (A.length - i - 1) [])) ?_ hr.2 fun j s hj hJ=>?_) fun x hx=>AHu ⟨hi',?_⟩)
  ·rw [show A.length - i=(A.length - i - 1) + 1 by omega,List.replicate_succ];simp
  ·subst hJ;unfold APm;dsimp only;refine AIb (fun h2=>?_) (fun h2=>AHu ?_)
   ·obtain ⟨x,hx⟩:∃ x,row[j]? =some x:=⟨row[j]'(by omega),List.getElem?_eq_getElem _⟩;refine AIe hx rfl (AIe (n:=i) (x:=row.take j) ?_ rfl (AHt (Q:=(· =x)) ⟨x,rfl,rfl⟩ fun y hy=>AJ9 ?_ (AHu ⟨by omega,?_⟩)))
    ·rw [List.getElem?_append_right (by simp;omega),List.length_take,Nat.min_eq_left (by omega),Nat.sub_self];rfl
    ·rw [List.length_take];omega
    ·subst hy;rw [AIg (by omega) (by omega),AKd,Af2 hi',List.take_add_one,hx];rfl
   ·obtain rfl:j=row.length:=by omega
    rw [List.take_length]
  ·subst hx;rw [AIg (by omega) (by omega),List.take_add_one,hrow,show A.length - (i + 1)=A.length - i - 1 by omega];simp
 ·obtain rfl:i=A.length:=by omega
  simp
def okM (A:List (List Int)):Bool:=decide (1<=A.length/\A.length<=16/\ ∀ z∈A,1<=z.length/\z.length<=16/\z.length=ARk A)
theorem Aav {A:List (List Int)} {z:List Int} (h:A[0]? =some z):ARk A=z.length:=by unfold ARk;rw [h];rfl
theorem Abf {fuel:Nat} {A:List (List Int)} (hr:∀ z∈A,∀ x∈z,-9223372036854775808<=x/\x<=9223372036854775807) (hf:17 < fuel):AJl fuel A=some (if okM A then (A,true) else ([],false)):=by
 apply ok_eq;unfold AJl
 have key:∀ R:List (List Int) × Bool->Prop,(okM A=false->R ([],false))->(okM A=true->R (A,true))->Ok (AJl fuel A) R:=by
   intro R hF hT
   unfold AJl
   refine AHt (Q:=fun ex=>match ex with | .inl e=>e=([],false)/\okM A=false | .inr _=>1<=A.length/\A.length<=16) (AIb (fun h=>AHu ⟨rfl,by unfold okM;rw [decide_eq_false_iff_not];omega⟩) fun h=>AIb (fun h2=>AHu ⟨rfl,by unfold okM;rw [decide_eq_false_iff_not];omega⟩) fun h2=>AHu ⟨by omega,by omega⟩) fun ex hex=>?_
   cases ex with
   | inl e=>obtain ⟨rfl,h⟩:=hex;exact AHu (hF h)
   | inr u=>
     dsimp only at hex ⊢
     obtain ⟨z0,Ab⟩:∃ z,A[0]? =some z:=⟨A[0]'(by omega),List.getElem?_eq_getElem _⟩
     have hc:=Aav Ab
     refine AHt (AJa (fun i (s:Int)=>s=(i:Int)/\ ∀ z∈A.take i,1<=z.length/\z.length<=16/\z.length=ARk A) A.length (Q:=fun ex=>match ex with | .inl e=>e=([],false)/\okM A=false | .inr _=>okM A=true) ⟨rfl,by simp⟩ (by omega) fun i s hi hI=>?_) fun ex Ac=>?_
     · obtain ⟨rfl,hI⟩:=hI
       unfold AN6
       refine AIb (fun h=>?_) (fun h=>AHu ?_)
       · have hi':i < A.length:=by omega
         obtain ⟨row,hrow⟩:∃ row,A[i]? =some row:=⟨A[i],List.getElem?_eq_getElem hi'⟩
         have bad: ¬ (1<=row.length/\row.length<=16/\row.length=ARk A)->okM A=false:=fun hb=>by
           unfold okM;rw [decide_eq_false_iff_not];exact fun h=>hb (h.2.2 row (List.mem_of_getElem? hrow))
         refine AIe hrow rfl (AIb (fun h1=>AHu ⟨rfl,bad (by omega)⟩) fun h1=>AIb (fun h2=>AHu ⟨rfl,bad (by omega)⟩) fun h2=>AIe Ab rfl (AIb (fun h3=>AHu ⟨rfl,bad (by omega)⟩) fun h3=>AHu ⟨hi',AIg (by omega) (by omega),?_⟩))
         rw [List.take_add_one,hrow]
         intro z hz
         rcases List.mem_append.1 hz with hz | hz
         · exact hI z hz
         · rw [show z=row by simpa using hz];omega
       · obtain rfl:i=A.length:=by omega
         rw [List.take_length] at hI
         unfold okM;rw [decide_eq_true_eq];exact ⟨hex.1,hex.2,hI⟩
     · cases ex with
       | inl e=>obtain ⟨rfl,h⟩:=Ac;exact AHu (hF h)
       | inr u=>
         dsimp only at Ac ⊢
         have hv:=Ac
         unfold okM at hv;rw [decide_eq_true_eq] at hv
         have hcA:∀ z∈A,z.length=ARk A:=fun z hz=>(hv.2.2 z hz).2.2
         have Ag:1<=ARk A/\ARk A<=16:=by have:=hv.2.2 z0 (List.mem_of_getElem? Ab);omega
         refine AIe Ab rfl (AHt (AIx (Ab3 (by omega) (by omega) (by omega))) fun O hO=>?_)
         subst hO
         rw [<- hc]
         refine AHt (AJa (fun i s=>s=((i:Int),A.take i ++ List.replicate (A.length - i) (List.replicate (ARk A) 0))) A.length (Q:=(· =A)) (by simp) (by omega) fun i s hi hI=>?_) fun x hx=>AHu (hx ▸ hT Ac)
         subst hI
         unfold AN5
         dsimp only
         refine AIb (fun h=>?_) (fun h=>AHu ?_)
         · have hi':i < A.length:=by omega
           obtain ⟨row,hrow⟩:∃ row,A[i]? =some row:=⟨A[i],List.getElem?_eq_getElem hi'⟩
           have hrl:=hcA row (List.mem_of_getElem? hrow)
           refine AIe hrow rfl (AHt (AJa (fun j s=>s=((j:Int),A.take i ++ (row.take j ++ List.replicate (ARk A - j) 0) :: List.replicate (A.length - i - 1) (List.replicate (ARk A) 0))) row.length (Q:=(· =A.take i ++ row :: List.replicate (A.length - i - 1) (List.replicate (ARk A) 0))) ?_ (by omega) fun j s hj hJ=>?_) fun x hx=>AHu ⟨hi',?_⟩)
           · rw [show A.length - i=(A.length - i - 1) + 1 by omega,List.replicate_succ];simp
           · subst hJ
             unfold AN4
             dsimp only
             refine AIb (fun h2=>?_) (fun h2=>AHu ?_)
             · obtain ⟨x,hx⟩:∃ x,row[j]? =some x:=⟨row[j]'(by omega),List.getElem?_eq_getElem _⟩
               have hxr:=hr row (List.mem_of_getElem? hrow) x (List.mem_of_getElem? hx)
               refine AIe (n:=i) (x:=row.take j ++ List.replicate (ARk A - j) 0) ?_ rfl (AIe hrow rfl (AIe hx rfl (AHt (Q:=(· =x)) ⟨x,if_pos hxr,rfl⟩ fun y hy=>AIe (n:=j) (x:=0) ?_ rfl (AHu ⟨by omega,?_⟩))))
               · rw [List.getElem?_append_right (by simp;omega),List.length_take,Nat.min_eq_left (by omega),Nat.sub_self];rfl
               · rw [List.getElem?_append_right (by simp;omega),List.length_take,Nat.min_eq_left (by omega),Nat.sub_self,List.getElem?_replicate,if_pos (by omega)]
               · subst hy
                 rw [AIg (by omega) (by omega),AKd,AKd]
                 congr 1
                 rw [List.set_append_right _ _ (by simp;omega),List.length_take,Nat.min_eq_left (by omega),Nat.sub_self,List.set_cons_zero]
                 congr 2
                 rw [List.set_append_right _ _ (by simp;omega),List.length_take,Nat.min_eq_left (by omega),Nat.sub_self,show ARk A - j=(ARk A - (j + 1)) + 1 by omega,List.replicate_succ,List.set_cons_zero,List.take_add_one,hx]
                 simp
             · obtain rfl:j=row.length:=by omega
               rw [List.take_length,show ARk A - row.length=0 by omega];simp
           · subst hx
             rw [AIg (by omega) (by omega),List.take_add_one,hrow,show A.length - (i + 1)=A.length - i - 1 by omega]
             simp
         · obtain rfl:i=A.length:=by omega
           simp
 have:=key (fun r=>r=if okM A then (A,true) else ([],false)) (fun h=>by rw [h];rfl) (fun h=>by rw [h];rfl);unfold AJl at this;exact this
theorem Axw {fuel:Nat} {A:List (List Int)} (hr:∀ z∈A,∀ x∈z,-9223372036854775808<=x/\x<=9223372036854775807) (hf:17 < fuel):ALm fuel A=some (if okM A then A else []):=by
 unfold ALm;rw [Abf hr hf];cases okM A <;> rfl
theorem Ahn {z:Int}:AMa z=0↔z=0:=by
 unfold AMa;split
 ·omega
 ·split <;> omega
theorem Adf {r c i j:Nat} {F:Nat->Nat->Int} {x:Int}:sI (tab r c F) (i:Int) (sI (ALa c (F i)) (j:Int) x)=tab r c (AKb F i fun q=>if q=j then x else F i q):=by
 rw [AKd,AKd,AMo];exact Ap9
theorem Abg {a b D:Nat} (hG:2 * (D * D) < AL1) (ha:a<=D) (hb:b<=D):a * b < AL1:=by
 have:=Nat.mul_le_mul ha hb;omega
theorem Atc {a D:Nat} (hG:2 * (D * D) < AL1) (ha:a<=D):a < AL1:=by
 rcases Nat.eq_zero_or_pos D with h | h
 ·subst h;have:0 < AL1:=by decide
  omega
 ·have h2:=Nat.mul_le_mul h (Nat.le_refl D);omega
theorem Aaw {fuel D:Nat} {a b:Int} (hG:2 * (D * D) < AL1) (ha:a.natAbs<=D) (hb:b.natAbs<=D):AUy fuel a b=some (a * b):=if_pos (Abg hG ha hb)
theorem Aes {D:Nat} {a b:Int} (hG:2 * (D * D) < AL1) (ha:a.natAbs<=D) (hb:b.natAbs<=D):(a * b).natAbs < AL1:=by rw [Int.natAbs_mul];exact Abg hG ha hb
theorem Aqo {D:Nat} {a b c d:Int} (hG:2 * (D * D) < AL1) (ha:a.natAbs<=D) (hb:b.natAbs<=D) (hc:c.natAbs<=D) (hd:d.natAbs<=D):(a * b - c * d).natAbs < AL1:=by
 have h1:=Nat.mul_le_mul ha hb;have h2:=Nat.mul_le_mul hc hd;rw [<- Int.natAbs_mul] at h1 h2;omega
theorem Atd {fuel n M N:Nat} {F:Nat->Nat->Int} (hM:1<=M) (hG:2 * (dBd M (N + 1) * dBd M (N + 1)) < AL1) (hnN:n<=N) (hn:n<=16) (hb:∀ i j,(F i j).natAbs<=M) (hf:17 < fuel):AI8 fuel (tab n n F)=some (det n F):=by
 apply ok_eq;unfold AI8;refine AHt (AIx (Alc (by rw [AJk];omega) (fun z hz=>by rw [Aco z hz];omega) (by rw [AJk];omega))) fun A hA=>?_;subst hA;refine AHt (Q:=(· =1)) ⟨1,if_pos (by omega),rfl⟩ fun one h1=>?_;subst h1;have hD:dBd M n<=dBd M (N + 1):=AUf hM (by omega);have Ap:dBd M (n + 1)<=dBd M (N + 1):=AUf hM (by omega);refine AHt (AJa (fun k s=> ∃ G last neg,s=(neg,((k:Int),tab n n G,last))/\Aau M F n k G last neg) n (Q:=fun ex=>match ex with | .inl e=>e=det n F | .inr (neg,last)=>det n F=if neg then -last else last) ⟨F,1,false,rfl,Ajr hb⟩ (by omega) fun k s hk hI=>?_) fun ex hex=>?_
 ·obtain ⟨G,last,neg,rfl,hB⟩:=hI;unfold AM3;dsimp only;rw [AJk];refine AIb (fun h=>?_) (fun h=>AHu ?_)
  ·have hk':k < n:=by omega
   refine AHt (Q:=fun ex=>match ex with | .inl e=>e=det n F | .inr (neg',a',last')=> ∃ G',a'=tab n n G'/\Aau M F n (k + 1) G' last' neg') ?_ fun ex hex=>?_
   ·refine AHt (Q:=fun (e:Int)=> ∃ p:Nat,e=p/\k<=p/\p<=n/\(∀ i,k<=i->i < p->G i k=0)/\(p < n->G p k≠0)) (AHt (AJa (fun j (s:Int)=>s=((k + j:Nat):Int)/\k + j<=n/\ ∀ i,k<=i->i < k + j->G i k=0) (n - k) (Q:=fun (e:Int)=> ∃ p:Nat,e=p/\k<=p/\p<=n/\(∀ i,k<=i->i < p->G i k=0)/\(p < n->G p k≠0)) ⟨rfl,by omega,fun i h1 h2=>by omega⟩ (by omega) fun j s hj hJ=>?_) fun e he=>AHu he) fun e he=>?_
    ·obtain ⟨rfl,hjn,hz⟩:=hJ;unfold AM0;rw [AJk];refine AHt (Q:=fun ex=>match ex with | .inl _=>k + j < n/\G (k + j) k=0 | .inr _=>k + j < n->G (k + j) k≠0) (AIb (fun h2=>AIe (AJn (by omega)) rfl (AIe (AIz (by omega)) rfl (AHt (AIx (a:=AMa (G (k + j) k)) rfl) fun sg hsg=>AIb (fun h3=>AHu ⟨by omega,?_⟩) fun h3=>AHu fun _=>?_))) fun h2=>AHu fun h3=>by omega) fun ex hex=>?_
     ·subst hsg;exact Ahn.1 h3
     ·subst hsg;exact fun h4=>h3 (Ahn.2 h4)
     ·cases ex with
      | inl u=>exact AHu ⟨by omega,by rw [AIg (by omega) (by omega)];omega,by omega,fun i h1 h2=>by
          rcases Nat.lt_or_ge i (k + j) with h3 | h3
          · exact hz i h1 h3
          · obtain rfl:i=k + j:=by omega
            exact hex.2⟩
      | inr u=>exact AHu ⟨k + j,rfl,by omega,hjn,hz,hex⟩
    ·obtain ⟨p,rfl,hkp,hpn,hz,hp⟩:=he;refine AIb (fun h2=>AHu ?_) (fun h2=>?_)
     ·obtain rfl:p=n:=by omega
      exact (Am4 hB hk' hz).symm
     ·have hp':p < n:=by omega
      refine AHt (Q:=fun (r:Bool × List (List Int))=> ∃ G',r.2=tab n n G'/\Aau M F n k G' last r.1/\G' k k≠0) (AIb (fun h3=>AIe (AJn (by omega)) rfl (AIe (AJn (by omega)) rfl (AHu ⟨AMw G p k,?_,Am2 hB (by omega) hp',?_⟩))) fun h3=>AHu ⟨G,rfl,hB,?_⟩) fun r hr=>?_
      ·dsimp only;rw [AKd,AKd];show ((tab n n G).set p (ALa n (G k))).set k (ALa n (G p))=_;rw [show ALa n (G k)=(List.range n).map (G k) from rfl,show ALa n (G p)=(List.range n).map (G p) from rfl,ARn,ARn];rfl
      ·rw [AR9,if_pos rfl];exact hp hp'
      ·obtain rfl:p=k:=by omega
       exact hp hp'
      ·obtain ⟨Aq,a2⟩:=r;obtain ⟨G2,Ag,Af,hne⟩:=hr;dsimp only at Ag Af ⊢;subst Ag;have hlast:=Am5 hM Af (by omega);have habs:∀ i j,k<=i->i < n->k<=j->j < n->(G2 i j).natAbs<=dBd M (N + 1):=fun i j h1 h2 h3 h4=>Nat.le_trans (Aqn hM Af hk' h1 h2 h3 h4).1 hD;have hl':last.natAbs<=dBd M (N + 1):=Nat.le_trans hlast.2 hD;rw [AIg (by omega) (by omega)];refine AHt (AJa (fun i s=>s=(((k + 1 + i:Nat):Int),tab n n (bF k G2 last (k + 1 + i) (k + 1)))/\k + 1 + i<=n) (n - (k + 1)) (Q:=(· =tab n n (bF k G2 last n (k + 1)))) ⟨by rw [Nat.add_zero,Ahm];simp,by omega⟩ (by omega) fun i s hi hI=>?_) fun a3 Ah=>?_
       ·obtain ⟨rfl,hin⟩:=hI;unfold AM2;dsimp only;rw [AJk];obtain ⟨q,hq⟩:∃ q,k + 1 + i=q:=⟨_,rfl⟩;rw [hq] at hin ⊢;refine AIb (fun h3=>?_) (fun h3=>AHu ?_)
        ·have hqn:q < n:=by omega
         rw [AIg (by omega) (by omega)];refine AHt (AJa (fun j s=>s=(((k + 1 + j:Nat):Int),tab n n (bF k G2 last q (k + 1 + j)))/\k + 1 + j<=n) (n - (k + 1)) (Q:=(· =tab n n (bF k G2 last q n))) ⟨by simp,by omega⟩ (by omega) fun j s hj hJ=>?_) fun a4 Ai=>AHu ?_
         ·obtain ⟨rfl,hjn⟩:=hJ;unfold AM1;dsimp only;rw [AJk];obtain ⟨c,hc⟩:∃ c,k + 1 + j=c:=⟨_,rfl⟩;rw [hc] at hjn ⊢;refine AIb (fun h4=>?_) (fun h4=>AHu ?_)
          ·have hcn:c < n:=by omega
           refine AIe (AJn hqn) rfl (AIe (AJn hk') rfl (AIe (AIz hk') rfl (AIe (AIz hcn) rfl ?_)));rw [Alb,Aur];refine AHt (AIx (Aaw hG (habs _ _ (by omega) (by omega) (by omega) (by omega)) (habs _ _ (by omega) (by omega) (by omega) (by omega)))) fun x1 Aj=>AIe (AIz hk') rfl (AIe (AIz hcn) rfl ?_);subst Aj;rw [Auq,Alb];refine AHt (AIx (Aaw hG (habs _ _ (by omega) (by omega) (by omega) (by omega)) (habs _ _ (by omega) (by omega) (by omega) (by omega)))) fun x2 Ak=>?_;subst Ak;refine AHt (Q:=(· =G2 k k * G2 q c - G2 q k * G2 k c)) ⟨_,if_pos ⟨Aes hG (habs _ _ (by omega) (by omega) (by omega) (by omega)) (habs _ _ (by omega) (by omega) (by omega) (by omega)),Aes hG (habs _ _ (by omega) (by omega) (by omega) (by omega)) (habs _ _ (by omega) (by omega) (by omega) (by omega))⟩,rfl⟩ fun x3 Am=>?_
           ·subst Am;refine AHt (Q:=(· =bQ k G2 last q c)) ?_ fun x4 Ao=>AHu ⟨by omega,?_,by omega⟩
            ·unfold AKl AZu;rw [if_pos ⟨Aqo hG (habs _ _ (by omega) (by omega) (by omega) (by omega)) (habs _ _ (by omega) (by omega) (by omega) (by omega)) (habs _ _ (by omega) (by omega) (by omega) (by omega)) (habs _ _ (by omega) (by omega) (by omega) (by omega)),Atc hG hl',hlast.1⟩];exact ⟨_,rfl,rfl⟩
            ·subst Ao;rw [AIg (by omega) (by omega),Adf,Aql k G2 last (by omega) (by omega)];congr 1
             ·omega
             ·rw [<- Nat.add_assoc,hc]
          ·obtain rfl:c=n:=by omega
           rfl
         ·subst Ai;refine ⟨by omega,?_,by omega⟩;rw [AIg (by omega) (by omega)];congr 1
          ·omega
          ·refine Ad8 fun r c hr hc=>?_;rw [Aqk k n G2 last q hc,<- Nat.add_assoc,hq]
        ·obtain rfl:q=n:=by omega
         rfl
       ·subst Ah;refine AIe (AJn hk') rfl (AIe (AIz hk') rfl (AHu ⟨_,rfl,?_⟩));rw [Alb];exact Am3 Af hk' hne
   ·match ex,hex with
    | .inl e,hex=>exact AHu hex
    | .inr (neg',a',last'),hex=>
      obtain ⟨G',rfl,hB'⟩:=hex
      exact AHu ⟨hk',G',last',neg',by rw [AIg (by omega) (by omega)];rfl,hB'⟩
  ·obtain rfl:k=n:=by omega
   exact Aqm hB
 ·match ex,hex with
  | .inl e,hex=>exact AHu hex
  | .inr (neg,last),hex=>
    dsimp only at hex ⊢
    rw [hex]
    refine AIb (fun h=>AHt (AIx (a:= -last) rfl) fun x hx=>AHu ?_) (fun h=>AHu ?_)
    · rw [hx,h];rfl
    · rw [if_neg h]
def AMs:Nat:=2 ^ 100
theorem Ald:2 * (dBd AMs (8 + 1) * dBd AMs (8 + 1)) < AL1:=by decide
theorem AZx {fuel n:Nat} {F:Nat->Nat->Int} (hn:n<=8) (hb:∀ i j,i < n->j < n->(F i j).natAbs<=AMs) (hf:17 < fuel):AI8 fuel (tab n n F)=some (det n F):=by
 have e1:tab n n F=tab n n fun i j=>if i < n/\j < n then F i j else 0:=by
   rw [AS8,AS8]
   exact AI5 fun i hi=>AI5 fun j hj=>by rw [if_pos ⟨hi,hj⟩]
 have e2:det n F=det n fun i j=>if i < n/\j < n then F i j else 0:=AJo fun i j hi hj=>by rw [if_pos ⟨hi,hj⟩]
 rw [e1,e2];refine Atd (by decide) Ald hn (by omega) (fun i j=>?_) hf;split
 ·next h=>exact hb i j h.1 h.2
 ·exact Nat.zero_le _
end Go.Proofs.YtmmckalinicpaaaGreatDoor
namespace Go.Proofs.YtmmckalinicpaaaGreatDoor
open Go Go.QF
set_option maxRecDepth 100000
set_option maxHeartbeats 4000000
end Go.Proofs.YtmmckalinicpaaaGreatDoor
namespace Go.Proofs.YtmmckalinicpaaaGreatDoor
open Go Go.QF
set_option maxRecDepth 100000
theorem APs {α:Type} {c:Nat} {g:Nat->α} {q:Nat} (hq:q < c):((List.range c).map g)[q]? =some (g q):=by simp [hq]
section
variable {P:Program} {B:AHr->Prop} {st:Bool} {ops:Array Oper} {rest:List Oper} {e:Env} {h:AHr} {K:Env->AHr->Prop}
variable {d:Nat} {ty:TypeId} {pos:String} {af:Array Edge}
end
end Go.Proofs.YtmmckalinicpaaaGreatDoor
namespace Go.Proofs.YtmmckalinicpaaaGreatDoor
open Go Go.QF
set_option maxRecDepth 100000
end Go.Proofs.YtmmckalinicpaaaGreatDoor
namespace Go.QF
end Go.QF
namespace Go.Proofs.YtmmckalinicpaaaGreatDoor
open Go Go.QF
end Go.Proofs.YtmmckalinicpaaaGreatDoor
namespace Go.Proofs.YtmmckalinicpaaaGreatDoor
open Go Go.QF
end Go.Proofs.YtmmckalinicpaaaGreatDoor
namespace Go.QF
def Av1 (n:Nat) (F:Nat->Nat->Int) (i j:Nat):Int:=det n (AKb F i (dl j))
def Adg (n:Nat) (F:Nat->Nat->Int) (i j:Nat):Int:=Av1 n F j i
def tau (j c:Nat):Nat:=if c=j then j + 1 else if c=j + 1 then j else c
theorem Aho {n j:Nat} {F:Nat->Nat->Int} (hj:j + 1 < n):det n (fun r c=>F r (tau j c))= -det n F:=by
 rw [<- AUe (fun r c=>F r (tau j c)),<- AUe F,<- AVx (F:=trF F) (a:=j) (b:=j + 1) (by omega) hj (by omega)];refine AJo fun c r hc hr=>?_;rw [AR9];show F r (tau j c)=if c=j + 1 then F r j else if c=j then F r (j + 1) else F r c;unfold tau;by_cases h1:c=j + 1
 ·subst h1;simp
 ·by_cases h2:c=j
  ·subst h2;simp
  ·simp [h1,h2]
theorem AVy {f:Nat->Int} {n a:Nat} (ha:a < n) (h:∀ i,i < n->i≠a->f i=0):AJr f n=f a:=by
 rw [AIu (g:=fun i=>if i=a then f a else 0) (fun k hk=>?_),APr ha (fun i hi=>if_neg hi),if_pos rfl];by_cases e:k=a
 ·subst e;rw [if_pos rfl]
 ·rw [if_neg e,h k hk e]
theorem Ate {n:Nat} {F:Nat->Nat->Int} {i j:Nat} (hi:i < n) (hj:j < n):AJr (fun k=>F i k * Av1 n F j k) n=if i=j then det n F else 0:=by
 have h:=Ade (F:=F) hj (F i) dl n
 have e:det n (AKb F j fun q=>AJr (fun k=>F i k * dl k q) n)=det n (AKb F j (F i)):=AJo fun r c _ hc=>by
   rw [AI2,AI2]
   split
   · exact Aqi (F:=F) (i:=i) hc
   · rfl
 unfold Av1;rw [<- h,e];split
 ·subst_vars
  refine AJo fun r c _ _=>?_;rw [AI2];split
  ·subst_vars;rfl
  ·rfl
 ·rename_i hij;refine ASa hi hj hij ?_;funext c;rw [AI2,if_neg hij,AI2,if_pos rfl]
theorem Am6 {n:Nat} {F:Nat->Nat->Int} {i j:Nat} (hi:i < n) (hj:j < n):AJr (fun k=>F i k * Adg n F k j) n=det n F * dl i j:=by
 unfold Adg;rw [Ate hi hj];unfold dl;split <;> simp
end Go.QF
namespace Go.Proofs.YtmmckalinicpaaaGreatDoor
open Go Go.QF
def woL (n x:Nat):List Int:=ALa (n - 1) fun a=>((skp x a:Nat):Int)
theorem Aqp {i x:Nat} (h:i≠x):(if x < i then woL i x else ALa i fun a=>(a:Int)) ++ [(i:Int)]=if x < i + 1 then woL (i + 1) x else ALa (i + 1) fun a=>(a:Int):=by
 rcases Nat.lt_or_ge x i with h1 | h1
 ·rw [if_pos h1,if_pos (by omega)];unfold woL;obtain ⟨k,rfl⟩:∃ k,i=k + 1:=⟨i - 1,by omega⟩;show ALa k _ ++ _=ALa (k + 1) _;rw [<- ARd];congr 2;unfold skp;rw [if_neg (by omega)]
 ·rw [if_neg (by omega),if_neg (by omega),<- ARd]
theorem Aw6 {fuel n x:Nat} (hn:n<=100) (hx:x < n) (hf:100 < fuel):AR6 fuel n x=some (woL n x):=by
 apply ok_eq;unfold AR6;refine AHt (AJa (fun i s=>s=(if x < i then woL i x else ALa i fun a=>(a:Int),(i:Int))) n (Q:=(· =woL n x)) (by simp [ALa]) (by omega) fun i s hi hI=>?_) fun y hy=>AHu hy;subst hI;unfold AQ2;dsimp only;refine AIb (fun h=>?_) (fun h=>AHu ?_)
 ·refine AHt (Q:=(· =if x < i + 1 then woL (i + 1) x else ALa (i + 1) fun a=>(a:Int))) (AIb (fun h2=>AJ9 ?_ (AHu (Aqp (by omega)))) fun h2=>AHu ?_) fun e he=>AHu ⟨by omega,?_⟩
  ·split
   ·unfold woL;rw [AJj];omega
   ·rw [AJj];omega
  ·obtain rfl:i=x:=by omega
   rw [if_neg (by omega),if_pos (by omega)];unfold woL;rw [show i + 1 - 1=i by omega];exact AI5 fun j hj=>by unfold skp;rw [if_pos hj]
  ·subst he;rw [AIg (by omega) (by omega)];rfl
 ·obtain rfl:i=n:=by omega
  rw [if_pos hx]
theorem Ahp {fuel n r c:Nat} {F:Nat->Nat->Int} {f g:Nat->Nat} (hr:r<=100) (hc:c<=100) (hf:100 < fuel) (hfn:∀ a,a < r->f a < n) (hgn:∀ a,a < c->g a < n):ALs fuel (tab n n F) (ALa r fun a=>(f a:Int)) (ALa c fun a=>(g a:Int))=some (tab r c fun a b=>F (f a) (g b)):=by
 apply ok_eq;unfold ALs;refine AHt (AJa (fun i s=>s=(ALa i fun a=>ALa c fun b=>F (f a) (g b),(i:Int))) r (Q:=(· =tab r c fun a b=>F (f a) (g b))) rfl (by omega) fun i s hi hI=>?_) fun y hy=>AHu hy;subst hI;unfold AOn;dsimp only;rw [AJj];refine AIb (fun h=>?_) (fun h=>AHu ?_)
 ·have hi':i < r:=by omega
  refine AIe (AIz hi') rfl (AHt (AJa (fun j s=>s=(ALa j fun b=>F (f i) (g b),(j:Int))) c (Q:=(· =ALa c fun b=>F (f i) (g b))) rfl (by omega) fun j s hj hJ=>?_) fun e he=>AJ9 (by rw [AJj];omega) (AHu ⟨hi',?_⟩))
  ·subst hJ;unfold AOm;dsimp only;rw [AJj,AJj];refine AIb (fun h2=>?_) (fun h2=>AHu ?_)
   ·have hj':j < c:=by omega
    refine AIe (AIz hj') rfl (AIe (AJn (hfn i hi')) rfl (AIe (AIz (hgn j hj')) rfl (AJ9 (by omega) (AHu ⟨hj',?_⟩))));rw [AIg (by omega) (by omega),<- ARd];rfl
   ·obtain rfl:j=c:=by omega
    rfl
  ·subst he;rw [AIg (by omega) (by omega),<- ARd];rfl
 ·obtain rfl:i=r:=by omega
  rfl
theorem Aet {fuel n:Nat} {F:Nat->Nat->Int} (hn:1<=n) (Ad:n<=16) (hf:100 < fuel):AKz fuel (tab n n F)=some ((n:Int),true):=by
 apply ok_eq;unfold AKz;refine AHt (Q:=(· =((n:Int),(n:Int),true))) ?_ fun e he=>?_
 ·unfold AJi;rw [AJk];refine AHt (Q:=fun ex=>match ex with | .inl _=>False | .inr _=>True) (AIb (fun h=>by omega) fun h=>AIb (fun h2=>by omega) fun h2=>AHu trivial) fun ex hex=>?_
  cases ex with
  | inl e=>exact hex.elim
  | inr u=>
    dsimp only
    refine AHt (AJa (fun i (s:Int)=>s=i) n (Q:=fun ex=>match ex with | .inl _=>False | .inr _=>True) rfl (by omega) fun i s hi hI=>?_) fun ex hex=>?_
    · subst hI
      unfold AL5
      rw [AJk]
      refine AIb (fun h=>AIe (AJn (by omega)) rfl ?_) fun h=>AHu trivial
      rw [AJj]
      refine AIb (fun h2=>by omega) fun h2=>AIb (fun h3=>by omega) fun h3=>AIe (n:=0) (AJn (by omega)) rfl (AIb (fun h4=>?_) fun h4=>AHu ⟨by omega,AIg (by omega) (by omega)⟩)
      rw [AJj] at h4;omega
    · cases ex with
      | inl e=>exact hex.elim
      | inr u=>exact AIe (n:=0) (AJn (by omega)) rfl (AHu (by rw [AJj]))
 ·subst he;dsimp only;exact AIb (fun h=>by cases h) fun _=>AIb (fun h=>absurd rfl h) fun _=>AHu rfl
end Go.Proofs.YtmmckalinicpaaaGreatDoor
namespace Go.QF
def AQg (n:Nat) (A:Nat->Nat->Int):Prop:= ∀ i j,i < n->j < n->A i j=A j i
def ARy (n:Nat) (A:Nat->Nat->Int):Prop:= ∀ k,k<=n->0 < det k A
theorem ATf {k i r n:Nat} (hk:k<=n) (hi:i < n):bro k i r < n:=by unfold bro;split <;> omega
theorem Ajt {n k:Nat} {A:Nat->Nat->Int} (hs:AQg n A) (hk:k<=n) {i j:Nat} (hi:i < n) (hj:j < n):Mn k A i j=Mn k A j i:=by
 unfold Mn;rw [<- AUe];refine AJo fun r c _ _=>?_;exact hs _ _ (ATf hk hi) (ATf hk hj)
theorem Aju {k:Nat} (A:Nat->Nat->Int) {i:Nat} (j:Nat) (hi:i < k):Mn k A i j=0:=by
 unfold Mn;refine ASa (a:=i) (b:=k) (by omega) (by omega) (by omega) ?_;funext c;unfold bro;simp [hi]
def bil (n k:Nat) (A:Nat->Nat->Int) (x y:Nat->Int):Int:=AJr (fun i=>AJr (fun j=>Mn k A i j * x i * y j) n) n
def lin (n k:Nat) (A:Nat->Nat->Int) (x:Nat->Int):Int:=AJr (fun j=>Mn k A k j * x j) n
theorem Am7 (f g:Nat->Int) (n:Nat):AJr (fun i=>AJr (fun j=>f i * g j) n) n=AJr f n * AJr g n:=by
 rw [AIu (g:=fun i=>AJr g n * f i) (fun i _=>by rw [AMx,Int.mul_comm]),AMx,Int.mul_comm]
theorem Ays {n k:Nat} {A:Nat->Nat->Int} (hs:AQg n A) (hk:k < n) (h0:det k A≠0) (x y:Nat->Int):det (k + 1) A * bil n k A x y=lin n k A x * lin n k A y + det k A * bil n (k + 1) A x y:=by
 unfold bil;rw [<- AMx,<- AMx];have e1:lin n k A x * lin n k A y=AJr (fun i=>AJr (fun j=>Mn k A k i * x i * (Mn k A k j * y j)) n) n:=(Am7 (fun i=>Mn k A k i * x i) (fun j=>Mn k A k j * y j) n).symm;rw [e1,<- ARx];refine AIu fun i hi=>?_;rw [<- AMx,<- AMx,<- ARx];refine AIu fun j hj=>?_;have h:=AX3 (k:=k) (A:=A) h0 i j;rw [APh,Ajt hs (by omega) hi hk] at h;have h2:det (k + 1) A * Mn k A i j=Mn k A k i * Mn k A k j + det k A * Mn (k + 1) A i j:=by omega
 grind
theorem Atg (n:Nat) (A:Nat->Nat->Int) (x y:Nat->Int):bil n n A x y=0:=by
 unfold bil;rw [AIu (g:=fun _=>0) fun i hi=>?_]
 ·exact ATs n
 ·rw [AIu (g:=fun _=>0) fun j _=>by rw [Aju A j hi];simp];exact ATs n
theorem AUg {n:Nat} {A:Nat->Nat->Int} (hs:AQg n A) (hp:ARy n A) (x:Nat->Int):∀ d k,k + d=n->0<=bil n k A x x:=by
 intro d
 induction d with
 | zero=>
     intro k hk;obtain rfl:k=n:=by omega
     rw [Atg];exact Int.le_refl _
 | succ d ih=>
   intro k hk
   have h1:=ih (k + 1) (by omega)
   have h2:=hp k (by omega)
   have h3:=hp (k + 1) (by omega)
   have h4:=Ays hs (show k < n by omega) (by omega) x x
   have h5:0<=lin n k A x * lin n k A x:=by
     rcases Int.le_total 0 (lin n k A x) with h | h
     · exact Int.mul_nonneg h h
     · exact Int.mul_nonneg_of_nonpos_of_nonpos h h
   have h6:=Int.mul_nonneg (Int.le_of_lt h2) h1
   exact Int.nonneg_of_mul_nonneg_right (by omega) h3
theorem Af3 {n k:Nat} {A:Nat->Nat->Int} (a b:Int) (x y z:Nat->Int):bil n k A (fun i=>a * x i + b * y i) z=a * bil n k A x z + b * bil n k A y z:=by
 unfold bil;rw [<- AMx,<- AMx,<- ARx];refine AIu fun i _=>?_;rw [<- AMx,<- AMx,<- ARx];exact AIu fun j _=>by grind
theorem Af4 {n k:Nat} {A:Nat->Nat->Int} (hs:AQg n A) (hk:k<=n) (x y:Nat->Int):bil n k A x y=bil n k A y x:=by
 unfold bil;rw [Aen];refine AIu fun j hj=>AIu fun i hi=>?_;rw [Ajt hs hk hi hj];grind
theorem Aqq {n k:Nat} {A:Nat->Nat->Int} (hs:AQg n A) (hp:ARy n A) (hk:k<=n) (x y:Nat->Int):bil n k A x y * bil n k A x y<=bil n k A x x * bil n k A y y:=by
  obtain ⟨p,hpq⟩:∃ p,bil n k A x y=p:=⟨_,rfl⟩;obtain ⟨q,hq⟩:∃ q,bil n k A x x=q:=⟨_,rfl⟩;obtain ⟨r,hr⟩:∃ r,bil n k A y y=r:=⟨_,rfl⟩;have hyx:bil n k A y x=p:=by rw [Af4 hs hk];exact hpq
  have key:∀ a b:Int,0<=a * (a * q + b * p) + b * (a * p + b * r):=fun a b=>by
    have h:=AUg hs hp (fun i=>a * x i + b * y i) (n - k) k (by omega);rw [Af3,Af4 hs hk x (fun i=>a * x i + b * y i),Af3,Af4 hs hk y (fun i=>a * x i + b * y i),Af3,hpq,hq,hr,hyx] at h;exact h
  rw [hpq,hq,hr];have hq0:0<=q:=hq ▸ AUg hs hp x (n - k) k (by omega)
  rcases Int.lt_or_eq_of_le hq0 with h | h
  · have h1:=key p (-q);have e:p * (p * q + -q * p) + -q * (p * p + -q * r)=q * (q * r - p * p):=by grind
    rw [e] at h1;have:=Int.nonneg_of_mul_nonneg_right h1 h;omega
  · subst h;have h1:=key (-(r + 1)) p;have h2:=key 1 0;have e: -(r + 1) * (-(r + 1) * 0 + p * p) + p * (-(r + 1) * p + p * r)= -((r + 2) * (p * p)):=by grind
    rw [e] at h1;have hr0:0<=r:=hr ▸ AUg hs hp y (n - k) k (by omega)
    have hpp:0<=p * p:=by
      rcases Int.le_total 0 p with h | h
      · exact Int.mul_nonneg h h
      · exact Int.mul_nonneg_of_nonpos_of_nonpos h h
    have:0<=r * (p * p):=Int.mul_nonneg hr0 hpp;have e2:(r + 2) * (p * p)=r * (p * p) + 2 * (p * p):=by grind
    rw [Int.zero_mul];omega
theorem AZz {n k:Nat} {A:Nat->Nat->Int} {i j:Nat} (hi:i < n) (hj:j < n):bil n k A (dl i) (dl j)=Mn k A i j:=by
 unfold bil;rw [AVy hi (fun a ha hne=>?_),AVy hj (fun b hb hne=>?_)]
 ·simp [dl]
 ·unfold dl;rw [if_neg (fun h:j=b=>hne h.symm)];simp
 ·rw [AIu (g:=fun _=>0) fun b _=>by unfold dl;rw [if_neg (fun h:i=a=>hne h.symm)];simp];exact ATs n
theorem Aax {n k:Nat} {A:Nat->Nat->Int} (hs:AQg n A) (hp:ARy n A) (hk:k<=n) {i j:Nat} (hi:i < n) (hj:j < n):Mn k A i j * Mn k A i j<=Mn k A i i * Mn k A j j:=by
 have:=Aqq hs hp hk (dl i) (dl j);rwa [AZz hi hj,AZz hi hi,AZz hj hj] at this
theorem Aay {n k:Nat} {A:Nat->Nat->Int} (hs:AQg n A) (hp:ARy n A) (hk:k<=n) {i:Nat} (hi:i < n):0<=Mn k A i i:=by
 have:=AUg hs hp (dl i) (n - k) k (by omega);rwa [AZz hi hi] at this
theorem Af5 {n k:Nat} {A:Nat->Nat->Int} (hs:AQg n A) (hp:ARy n A) (hk:k < n) {i:Nat} (hi:i < n):det (k + 1) A * Mn k A i i=Mn k A i k * Mn k A i k + det k A * Mn (k + 1) A i i:=by
 have h:=AX3 (k:=k) (A:=A) (by have:=hp k (by omega);omega) i i;rw [APh,<- Ajt hs (by omega) hi hk] at h;omega
theorem Aqr {n:Nat} {A:Nat->Nat->Int} (hs:AQg n A) (hp:ARy n A) {i:Nat} (hi:i < n):∀ k,k<=n->Mn k A i i<=det k A * A i i:=by
 intro k
 induction k with
 | zero=>intro _;rw [ASo];simp [det]
 | succ k ih=>
   intro hk
   have h1:=ih (by omega)
   have h2:=Af5 hs hp (show k < n by omega) hi
   have h3:0<=Mn k A i k * Mn k A i k:=by
     rcases Int.le_total 0 (Mn k A i k) with h | h
     · exact Int.mul_nonneg h h
     · exact Int.mul_nonneg_of_nonpos_of_nonpos h h
   have h4:=hp k (by omega)
   have h5:=hp (k + 1) (by omega)
   have h6:det (k + 1) A * Mn k A i i<=det (k + 1) A * (det k A * A i i):=Int.mul_le_mul_of_nonneg_left h1 (by omega)
   have h7:det k A * Mn (k + 1) A i i<=det k A * (det (k + 1) A * A i i):=by
     have e:det (k + 1) A * (det k A * A i i)=det k A * (det (k + 1) A * A i i):=by grind
     omega
   exact Int.le_of_mul_le_mul_left h7 h4
theorem Aqs {n:Nat} {A:Nat->Nat->Int} (hs:AQg n A) (hp:ARy n A) {B:Int} (hB:1<=B) (hA:∀ i,i < n->A i i<=B):∀ k,k<=n->det k A<=B ^ k:=by
  intro k;induction k with
  | zero=>intro _;simp [det]
  | succ k ih=>
    intro hk;have h1:=ih (by omega);have h2:=Aqr hs hp (show k < n by omega) k (by omega);rw [APh] at h2;have h3:=hp k (by omega);have h4:det k A * A k k<=det k A * B:=Int.mul_le_mul_of_nonneg_left (hA k (by omega)) (by omega);have h5:det k A * B<=B ^ k * B:=Int.mul_le_mul_of_nonneg_right h1 (by omega);rw [Int.pow_succ];omega
theorem Ath {n:Nat} {A:Nat->Nat->Int} (hs:AQg n A) (hp:ARy n A) (x:Nat->Int) {k:Nat} (hk:k < n):x k * x k<=Adg n A k k * bil n 0 A x x:=by
  have hd:=hp n (Nat.le_refl _)
  have hB:∀ y z:Nat->Int,bil n 0 A y z=AJr (fun i=>y i * AJr (fun j=>A i j * z j) n) n:=fun y z=>by
    unfold bil;refine AIu fun i _=>?_;rw [<- AMx];exact AIu fun j _=>by rw [ASo];grind
  have h1:∀ y:Nat->Int,bil n 0 A y (fun j=>Adg n A j k)=det n A * y k:=fun y=>by
    rw [hB,AIu (g:=fun i=>y i * (det n A * dl i k)) (fun i hi=>by rw [Am6 hi hk])];rw [AVy hk (fun i _ hne=>by unfold dl;rw [if_neg hne];simp)];simp [dl,Int.mul_comm]
  have h2:=Aqq hs hp (Nat.zero_le n) x (fun j=>Adg n A j k);rw [h1 x,h1 (fun j=>Adg n A j k)] at h2;have e1:det n A * x k * (det n A * x k)=det n A * (det n A * (x k * x k)):=by grind
  have e2:bil n 0 A x x * (det n A * Adg n A k k)=det n A * (Adg n A k k * bil n 0 A x x):=by grind
  rw [e1,e2] at h2;have h3:=Int.le_of_mul_le_mul_left h2 hd
  have h4:0<=x k * x k:=by
    rcases Int.le_total 0 (x k) with h | h
    · exact Int.mul_nonneg h h
    · exact Int.mul_nonneg_of_nonpos_of_nonpos h h
  have h5:1 * (x k * x k)<=det n A * (x k * x k):=Int.mul_le_mul_of_nonneg_right (by omega) h4;omega
def Aaz (A:Nat->Nat->Int) (i j:Nat) (c:Int):Nat->Nat->Int:=AKb A i fun s=>A i s + c * A j s
def Aqt (A:Nat->Nat->Int) (i j:Nat) (c:Int):Nat->Nat->Int:=trF (Aaz (trF A) i j c)
def AZ0 (A:Nat->Nat->Int) (i j:Nat) (c:Int):Nat->Nat->Int:=Aqt (Aaz A i j c) i j c
def swA (A:Nat->Nat->Int) (j:Nat):Nat->Nat->Int:=fun r s=>A (tau j r) (tau j s)
theorem Aqv (l:Nat) (A:Nat->Nat->Int) (r s:Nat):Mn l (trF A) s r=Mn l A r s:=by
 unfold Mn;rw [<- AUe];rfl
theorem Ahq {A:Nat->Nat->Int} {i j k:Nat} {c:Int} (hij:j < i):det k (Aaz A i j c)=det k A:=by
 rcases Nat.lt_or_ge i k with h | h
 ·exact ASb h (by omega) (by omega) c
 ·refine AJo fun r s hr _=>?_;unfold Aaz;rw [AI2,if_neg (by omega)]
theorem Aqw {A:Nat->Nat->Int} {i j k:Nat} {c:Int} (hij:j < i):det k (Aqt A i j c)=det k A:=by
 unfold Aqt;rw [AUe,Ahq hij,AUe]
theorem AS4 {A:Nat->Nat->Int} {i j k:Nat} {c:Int} (hij:j < i):det k (AZ0 A i j c)=det k A:=by
 unfold AZ0;rw [Aqw hij,Ahq hij]
theorem Af6 {A:Nat->Nat->Int} {i j l r s:Nat} {c:Int} (hij:j < i) (hr:l<=r):Mn l (Aaz A i j c) r s=Mn l A r s + if l<=i/\r=i then c * Mn l A j s else 0:=by
 rcases Nat.lt_or_ge i l with h | h
 ·rw [if_neg (by omega),Int.add_zero];unfold Mn;have e:=ASb (n:=l + 1) (F:=fun a b=>A (bro l r a) (bro l s b)) (a:=i) (b:=j) (by omega) (by omega) (by omega) c;rw [<- e];refine AJo fun a b ha _=>?_;rw [AI2];unfold Aaz;rw [AI2];have hbi:bro l r i=i:=by unfold bro;rw [if_pos h]
  have hbj:bro l r j=j:=by unfold bro;rw [if_pos (by omega)]
  by_cases ea:a=i
  ·subst ea;rw [hbi,if_pos rfl,if_pos rfl,hbj]
  ·rw [if_neg ea,if_neg];unfold bro;split <;> omega
 ·by_cases er:r=i
  ·subst er;rw [if_pos ⟨h,rfl⟩];unfold Mn;have e:=AWm (n:=l + 1) (F:=fun a b=>A (bro l r a) (bro l s b)) (r:=l) (fun b=>A r (bro l s b)) (fun b=>A j (bro l s b)) 1 c (by omega)
   have e1:det (l + 1) (fun a b=>Aaz A r j c (bro l r a) (bro l s b))=det (l + 1) (AKb (fun a b=>A (bro l r a) (bro l s b)) l fun q=>1 * A r (bro l s q) + c * A j (bro l s q)):=by
     refine AJo fun a b ha _=>?_
     rw [AI2]
     unfold Aaz
     rw [AI2]
     by_cases ea:a=l
     · subst ea
       rw [show bro a r a=r by unfold bro;rw [if_neg (by omega)],if_pos rfl,if_pos rfl,Int.one_mul]
     · rw [if_neg ea,if_neg]
       unfold bro;rw [if_pos (by omega)];omega
   have e2:det (l + 1) (AKb (fun a b=>A (bro l r a) (bro l s b)) l fun b=>A r (bro l s b))=det (l + 1) (fun a b=>A (bro l r a) (bro l s b)):=by
     refine AJo fun a b ha _=>?_
     rw [AI2]
     by_cases ea:a=l
     · subst ea;rw [if_pos rfl,show bro a r a=r by unfold bro;rw [if_neg (by omega)]]
     · rw [if_neg ea]
   have e3:det (l + 1) (AKb (fun a b=>A (bro l r a) (bro l s b)) l fun b=>A j (bro l s b))=det (l + 1) (fun a b=>A (bro l j a) (bro l s b)):=by
     refine AJo fun a b ha _=>?_
     rw [AI2]
     by_cases ea:a=l
     · subst ea;rw [if_pos rfl,show bro a j a=j by unfold bro;rw [if_neg (by omega)]]
     · rw [if_neg ea,show bro l r a=a by unfold bro;rw [if_pos (by omega)],show bro l j a=a by unfold bro;rw [if_pos (by omega)]]
   rw [e1,e,e2,e3,Int.one_mul]
  ·rw [if_neg (fun h=>er h.2),Int.add_zero];unfold Mn;refine AJo fun a b ha _=>?_;unfold Aaz;rw [AI2,if_neg];unfold bro;split <;> omega
theorem Ati {A:Nat->Nat->Int} {i j l r s:Nat} {c:Int} (hij:j < i) (hs:l<=s):Mn l (Aqt A i j c) r s=Mn l A r s + if l<=i/\s=i then c * Mn l A r j else 0:=by
 unfold Aqt;rw [Aqv,Af6 hij hs,Aqv,Aqv]
theorem Aqx {A:Nat->Nat->Int} {i j l r s:Nat} {c:Int} (hij:j < i) (hr:l<=r) (hs:l<=s):Mn l (AZ0 A i j c) r s=Mn l A r s + (if l<=i/\r=i then c * Mn l A j s else 0) + if l<=i/\s=i then c * (Mn l A r j + if l<=i/\r=i then c * Mn l A j j else 0) else 0:=by
  unfold AZ0;rw [Ati hij hs,Af6 hij hr,Af6 hij hr]
theorem Ab4 (A:Nat->Nat->Int) (i j:Nat) (c:Int) (r s:Nat):AZ0 A i j c r s=if s=i then (if r=i then A i i + c * A j i else A r i) + c * (if r=i then A i j + c * A j j else A r j) else if r=i then A i s + c * A j s else A r s:=by
 show AKb (trF (Aaz A i j c)) i (fun q=>trF (Aaz A i j c) i q + c * trF (Aaz A i j c) j q) s r=_;rw [AI2];unfold trF Aaz;by_cases h:s=i
 ·rw [if_pos h,if_pos h,AI2,AI2]
 ·rw [if_neg h,if_neg h,AI2]
theorem Atj {n:Nat} {A:Nat->Nat->Int} {i j:Nat} {c:Int} (hi:i < n) (hj:j < n) (h:AQg n A):AQg n (AZ0 A i j c):=by
 intro r s hr hs;rw [Ab4,Ab4];by_cases h1:r=i
 ·by_cases h2:s=i
  ·rw [h1,h2]
  ·rw [if_neg h2,if_pos h1,if_pos h1,if_neg h2,if_neg h2,h i s hi hs,h j s hj hs]
 ·by_cases h2:s=i
  ·rw [if_pos h2,if_neg h1,if_neg h1,if_neg h1,if_pos h2,h r i hr hi,h r j hr hj]
  ·rw [if_neg h2,if_neg h1,if_neg h1,if_neg h2,h r s hr hs]
theorem Ale {A:Nat->Nat->Int} {j k:Nat} (hk:k≠j + 1):det k (swA A j)=det k A:=by
 rcases Nat.lt_or_ge (j + 1) k with h | h
 ·have e1:det k (swA A j)= -det k (fun r s=>A (tau j r) s):=Aho (F:=fun r s=>A (tau j r) s) h
  have e2:det k (fun r s=>A (tau j r) s)= -det k A:=by
    rw [<- AUe (fun r s=>A (tau j r) s),<- AUe A]
    exact Aho (F:=trF A) h
  rw [e1,e2];omega
 ·refine AJo fun r s hr hs=>?_;unfold swA tau;rw [if_neg (by omega),if_neg (by omega),if_neg (by omega),if_neg (by omega)]
theorem Ahr {A:Nat->Nat->Int} {j:Nat}:det (j + 1) (swA A j)=Mn j A (j + 1) (j + 1):=by
 unfold Mn;refine AJo fun r s hr hs=>?_
 have e:∀ r,r < j + 1->tau j r=bro j (j + 1) r:=fun r hr=>by
   unfold tau bro
   by_cases h:r < j
   · rw [if_neg (by omega),if_neg (by omega),if_pos h]
   · rw [if_pos (by omega),if_neg h]
 unfold swA;rw [e r hr,e s hs]
theorem Av3 {n j:Nat} {A:Nat->Nat->Int} (hj:j + 1 < n) (h:AQg n A):AQg n (swA A j):=fun r s hr hs=>by
  have e:∀ r,r < n->tau j r < n:=fun r hr=>by unfold tau;split <;> (try split) <;> omega
  exact h _ _ (e r hr) (e s hs)
theorem sq_nonneg (x:Int):0<=x * x:=by
 rcases Int.le_total 0 x with h | h
 ·exact Int.mul_nonneg h h
 ·exact Int.mul_nonneg_of_nonpos_of_nonpos h h
theorem Ahs {x y:Int} (hy:0<=y) (h:x * x<=y * y): -y<=x/\x<=y:=by
 constructor
 ·rcases Int.lt_or_le x (-y) with h1 | h1
  ·have h2:0 < (-x - y) * (-x + y):=Int.mul_pos (by omega) (by omega);have e:(-x - y) * (-x + y)=x * x - y * y:=by grind
   omega
  ·exact h1
 ·rcases Int.lt_or_le y x with h1 | h1
  ·have h2:0 < (x - y) * (x + y):=Int.mul_pos (by omega) (by omega);have e:(x - y) * (x + y)=x * x - y * y:=by grind
   omega
  ·exact h1
theorem AXl {x y:Int} (h1: -y<=x) (h2:x<=y):x * x<=y * y:=by
 have h3:0<=(y - x) * (y + x):=Int.mul_nonneg (by omega) (by omega);have e:(y - x) * (y + x)=y * y - x * x:=by grind
 omega
def SzF (A:Nat->Nat->Int) (i j:Nat):Prop:= -(det (j + 1) A)<=2 * Mn j A i j/\2 * Mn j A i j<=det (j + 1) A
def LvF (A:Nat->Nat->Int) (j:Nat):Prop:=3 * (det (j + 1) A * det (j + 1) A)<=4 * (det j A * det (j + 2) A + Mn j A (j + 1) j * Mn j A (j + 1) j)
def Ajv (A:Nat->Nat->Int) (i:Nat) (K:Int):Prop:= ∀ l,l < i-> -(K * det (l + 1) A)<=Mn l A i l/\Mn l A i l<=K * det (l + 1) A
theorem Aeu {n i:Nat} {A:Nat->Nat->Int} {Dm p q:Int} (hs:AQg n A) (hp:ARy n A) (hi:i < n) (hD:∀ k,k<=n->det k A<=Dm) (p0:0<=p) (q0:0<=q) (hl:∀ l,l < i->q * (Mn l A i l * Mn l A i l)<=p * (det (l + 1) A * det (l + 1) A)):∀ d l:Nat,l + d=i->q * Mn l A i i<=(q + d * p) * (Dm * det l A):=by
  have hD0:1<=Dm:=by
    have:=hD 0 (by omega);simpa [det] using this
  have hDl:∀ l k,l<=n->k<=n->det k A<=Dm * det l A:=fun l k h1 h2=>by
    have:=hp l h1;have h3:=hD k h2;have h4:Dm * 1<=Dm * det l A:=Int.mul_le_mul_of_nonneg_left (by omega) (by omega);omega
  intro d;induction d with
  | zero=>
    intro l h;obtain rfl:l=i:=by omega
    rw [APh];have h1:=Int.mul_le_mul_of_nonneg_left (hDl l (l + 1) (by omega) (by omega)) q0;simpa using h1
  | succ d ih=>
    intro l h;have h1:=ih (l + 1) (by omega);have h2:=Af5 hs hp (show l < n by omega) hi;have h3:=hl l (by omega);have h4:=hp l (by omega);have h5:=hp (l + 1) (by omega);have h6:=Int.mul_le_mul_of_nonneg_left h1 (Int.le_of_lt h4)
    have h7:det (l + 1) A * (q * Mn l A i i)=q * (Mn l A i l * Mn l A i l) + det l A * (q * Mn (l + 1) A i i):=by
      have e1:det (l + 1) A * (q * Mn l A i i)=q * (det (l + 1) A * Mn l A i i):=by grind
      rw [e1,h2];grind
    have h8:=Int.mul_le_mul_of_nonneg_left (hDl l (l + 1) (by omega) (by omega)) p0;have h9:=Int.mul_le_mul_of_nonneg_left h8 (Int.le_of_lt h5);have e2:det (l + 1) A * (p * det (l + 1) A)=p * (det (l + 1) A * det (l + 1) A):=by grind
    have h10:det (l + 1) A * (q * Mn l A i i)<=det (l + 1) A * ((q + ((d + 1:Nat):Int) * p) * (Dm * det l A)):=by
      have e3:det (l + 1) A * ((q + ((d + 1:Nat):Int) * p) * (Dm * det l A))=det (l + 1) A * (p * (Dm * det l A)) + det l A * ((q + (d:Int) * p) * (Dm * det (l + 1) A)):=by
        rw [Int.natCast_add,Int.natCast_one];grind
      rw [e3];omega
    exact Int.le_of_mul_le_mul_left h10 h5
theorem Ahu {n i:Nat} {A:Nat->Nat->Int} {Dm:Int} (hn:n<=8) (hs:AQg n A) (hp:ARy n A) (hi:i < n) (hD:∀ k,k<=n->det k A<=Dm) (hz:∀ l,l < i->SzF A i l):A i i<=3 * Dm:=by
 have h:=Aeu hs hp hi hD (p:=1) (q:=4) (by omega) (by omega) (fun l hl=>by
   have:=AXl (hz l hl).1 (hz l hl).2
   have e:2 * Mn l A i l * (2 * Mn l A i l)=4 * (Mn l A i l * Mn l A i l):=by grind
   omega) i 0 (by omega)
 rw [ASo] at h
 have Aa:1<=Dm:=by
   have:=hD 0 (by omega);simpa [det] using this
 have h2:(4 + (i:Int) * 1) * (Dm * det 0 A)<=12 * Dm:=by
   have:(4 + (i:Int) * 1) * Dm<=12 * Dm:=Int.mul_le_mul_of_nonneg_right (by omega) (by omega)
   simpa [det] using this
 omega
theorem Am8 {n i:Nat} {A:Nat->Nat->Int} {Dm:Int} (hs:AQg n A) (hp:ARy n A) (hi:i < n) (hD:∀ k,k<=n->det k A<=Dm) (hA:A i i<=3 * Dm):Ajv A i (2 * Dm):=by
 intro l hl
 have Ad:1<=Dm:=by
   have:=hD 0 (by omega);simpa [det] using this
 have h1:=Aax hs hp (show l<=n by omega) hi (show l < n by omega);rw [APh] at h1;have h2:=Aqr hs hp hi l (by omega);have h3:=hp l (by omega);have h4:=hp (l + 1) (by omega)
 have h5:det l A * A i i<=Dm * (3 * Dm):=by
   have a1:=Int.mul_le_mul_of_nonneg_left hA (Int.le_of_lt h3)
   have a2:=Int.mul_le_mul_of_nonneg_right (hD l (by omega)) (show (0:Int)<=3 * Dm by omega)
   omega
 have h6:Mn l A i i * det (l + 1) A<=Dm * (3 * Dm) * det (l + 1) A:=Int.mul_le_mul_of_nonneg_right (by omega) (by omega);have h7:Dm * (3 * Dm) * (det (l + 1) A * 1)<=Dm * (3 * Dm) * (det (l + 1) A * det (l + 1) A):=Int.mul_le_mul_of_nonneg_left (Int.mul_le_mul_of_nonneg_left (by omega) (by omega)) (Int.mul_nonneg (by omega) (by omega));have h8:0<=Dm * Dm * (det (l + 1) A * det (l + 1) A):=Int.mul_nonneg (sq_nonneg _) (sq_nonneg _);have h9:2 * Dm * det (l + 1) A * (2 * Dm * det (l + 1) A)=Dm * (3 * Dm) * (det (l + 1) A * det (l + 1) A) + Dm * Dm * (det (l + 1) A * det (l + 1) A):=by grind
 rw [Int.mul_one] at h7;exact Ahs (Int.mul_nonneg (by omega) (by omega)) (by omega)
theorem Ahv {A:Nat->Nat->Int} {i:Nat} {K K':Int} (hp:∀ l,l<=i->0 < det l A) (hK:K<=K') (h:Ajv A i K):Ajv A i K':=fun l hl=>by
  have h1:=h l hl
  have h2:=hp (l + 1) (by omega)
  have h3:=Int.mul_le_mul_of_nonneg_right hK (Int.le_of_lt h2)
  omega
theorem Ahw {a d:Int} (hd:0 < d): -d<=2 * (a + -((2 * a + d) / (2 * d)) * d)/\2 * (a + -((2 * a + d) / (2 * d)) * d)<=d:=by
  have h1:=Int.mul_ediv_add_emod (2 * a + d) (2 * d);have h2:=Int.emod_nonneg (2 * a + d) (show 2 * d≠0 by omega);have h3:=Int.emod_lt_of_pos (2 * a + d) (show 0 < 2 * d by omega);generalize (2 * a + d) / (2 * d)=q at *
  generalize (2 * a + d) % (2 * d)=r at *
  have e:2 * (a + -q * d)=2 * a - 2 * d * q:=by grind
  omega
theorem Atk {a d K:Int} (hd:0 < d) (h1: -(K * d)<=a) (h2:a<=K * d): -K<= -((2 * a + d) / (2 * d))/\ -((2 * a + d) / (2 * d))<=K:=by
 have h:=Ahw (a:=a) hd;generalize -((2 * a + d) / (2 * d))=c at *;constructor
 ·rcases Int.lt_or_le c (-K) with h3 | h3
  ·have h4:(c + K + 1) * d<=0:=by
     have:=Int.mul_nonneg (show 0<= -(c + K + 1) by omega) (Int.le_of_lt hd)
     have e: -(c + K + 1) * d= -((c + K + 1) * d):=by grind
     omega
   have e:(c + K + 1) * d=c * d + K * d + d:=by grind
   omega
  ·exact h3
 ·rcases Int.lt_or_le K c with h3 | h3
  ·have h4:=Int.mul_nonneg (show 0<=c - K - 1 by omega) (Int.le_of_lt hd);have e:(c - K - 1) * d=c * d - K * d - d:=by grind
   omega
  ·exact h3
theorem Alf {A:Nat->Nat->Int} {i j l:Nat} {c:Int} (hij:j < i) (hl:l < i):Mn l (AZ0 A i j c) i l=Mn l A i l + c * Mn l A j l:=by
 rw [Aqx hij (by omega) (Nat.le_refl _),if_pos ⟨by omega,rfl⟩,if_neg (fun h:l<=i/\l=i=>by omega)];omega
theorem Aev {A:Nat->Nat->Int} {i j l r:Nat} {c:Int} (hij:j < i) (hr:r < i) (hl:l<=r):Mn l (AZ0 A i j c) r l=Mn l A r l:=by
 rw [Aqx hij hl (Nat.le_refl _),if_neg (fun h:l<=i/\r=i=>by omega),if_neg (fun h:l<=i/\l=i=>by omega)];omega
theorem Aqy {A:Nat->Nat->Int} {i j:Nat} {K c:Int} (hij:j < i) (hp:∀ l,l<=i->0 < det l A) (hK:0<=K) (h:Ajv A i K) (hz:∀ l,l < j->SzF A j l) (Ab: -K<=c) (Ac:c<=K):Ajv (AZ0 A i j c) i (2 * K):=by
 intro l hl;rw [AS4 hij,Alf hij hl];have h1:=h l hl;have h2:=hp (l + 1) (by omega)
 have hm: -(det (l + 1) A)<=Mn l A j l/\Mn l A j l<=det (l + 1) A:=by
   rcases Nat.lt_trichotomy l j with h3 | h3 | h3
   · have:=hz l h3;unfold SzF at this;omega
   · subst h3;rw [APh];omega
   · rw [Aju A l h3];omega
 have h3: -(K * det (l + 1) A)<=c * Mn l A j l/\c * Mn l A j l<=K * det (l + 1) A:=by
   refine Ahs (Int.mul_nonneg hK (Int.le_of_lt h2)) ?_
   have a1:=AXl Ab Ac
   have a2:=AXl hm.1 hm.2
   have a3:c * c * (Mn l A j l * Mn l A j l)<=K * K * (det (l + 1) A * det (l + 1) A):=Int.mul_le_mul a1 a2 (sq_nonneg _) (sq_nonneg _)
   have e1:c * Mn l A j l * (c * Mn l A j l)=c * c * (Mn l A j l * Mn l A j l):=by grind
   have e2:K * det (l + 1) A * (K * det (l + 1) A)=K * K * (det (l + 1) A * det (l + 1) A):=by grind
   omega
 have e:2 * K * det (l + 1) A=K * det (l + 1) A + K * det (l + 1) A:=by grind
 omega
theorem Aqz {A:Nat->Nat->Int} {i j k:Nat} {c:Int} (hk:k≠i):AZ0 A i j c k k=A k k:=by
 rw [Ab4,if_neg hk,if_neg hk]
structure Af7 (n:Nat) (Dm:Int) (A:Nat->Nat->Int) (i t:Nat):Prop where
  sym:AQg n A
  pos:ARy n A
  dm:∀ k,k<=n->det k A<=Dm
  hi:i < n
  ht:t<=i
  rows:∀ k,k < n->k≠i->A k k<=3 * Dm
  row:t=0->A i i<=3 * Dm
  lamb:Ajv A i (2 ^ t * (2 * Dm))
  pre:∀ r l,l < r->r < i->SzF A r l
  prei:∀ l,l < i->i<=l + t->SzF A i l
  lov:∀ r,r + 1 < i->LvF A r
theorem Adh {n:Nat} {Dm:Int} {A:Nat->Nat->Int} (hn:0 < n) (hs:AQg n A) (hp:ARy n A) (hD:∀ k,k<=n->det k A<=Dm) (hr:∀ k,k < n->A k k<=3 * Dm):Af7 n Dm A 0 0:=
  ⟨hs,hp,hD,hn,Nat.le_refl _,fun k hk _=>hr k hk,fun _=>hr 0 hn,fun l hl=>by omega,fun r l h1 h2=>by omega,fun l hl=>by omega,fun r hr=>by omega⟩
theorem Aq0 {n i t:Nat} {Dm:Int} {A:Nat->Nat->Int} (h:Af7 n Dm A i t):1<=Dm:=by
 have:=h.dm 0 (by omega);simpa [det] using this
theorem AX4 {n i t:Nat} {Dm:Int} {A:Nat->Nat->Int} (hn:n<=8) (h:Af7 n Dm A i t) (hz:∀ l,l < i->SzF A i l):∀ k,k < n->A k k<=3 * Dm:=fun k hk=>by
  by_cases e:k=i
  · subst e;exact Ahu hn h.sym h.pos h.hi h.dm hz
  · exact h.rows k hk e
theorem AZ1 (t:Nat):(0:Int) < 2 ^ t:=Int.pow_pos (by omega)
theorem AZ2 {s t:Nat} (h:s<=t):(2:Int) ^ s<=2 ^ t:=by
 have:=Nat.pow_le_pow_right (show 0 < 2 by omega) h;have e:∀ k:Nat,(2:Int) ^ k=((2 ^ k:Nat):Int):=fun k=>by simp
 rw [e,e];omega
theorem Am9 {n i t i' j:Nat} {Dm:Int} {A:Nat->Nat->Int} (hn:n<=8) (h:Af7 n Dm A i t) (hi':i' < n) (hj:j < i') (hbad: ¬ SzF A i' j)
    (hz:∀ r l,l < r->r < i'->SzF A r l) (hzi:∀ l,l < i'->j < l->SzF A i' l) (hl:∀ r,r + 1 < i'->LvF A r):
    Af7 n Dm (AZ0 A i' j (-((2 * Mn j A i' j + det (j + 1) A) / (2 * det (j + 1) A)))) i' (i' - j)/\i * 16 + t < i' * 16 + (i' - j):=by
  have hD1:=Aq0 h
  have hlt:i < i'∨i=i'/\t < i' - j:=by
    rcases Nat.lt_trichotomy i i' with h1 | h1 | h1
    · exact .inl h1
    · refine .inr ⟨h1,?_⟩
      rcases Nat.lt_or_ge t (i' - j) with h2 | h2
      · exact h2
      · subst h1;exact absurd (h.prei j hj (by omega)) hbad
    · exact absurd (h.pre i' j hj h1) hbad
  have hrows:∀ k,k < n->k≠i'->A k k<=3 * Dm:=fun k hk hne=>by
    rcases hlt with h1 | h1
    · exact AX4 hn h (fun l hl=>hz i l hl h1) k hk
    · exact h.rows k hk (by omega)
  have hK0:0<=2 ^ (i' - j - 1) * (2 * Dm):=Int.mul_nonneg (Int.le_of_lt (AZ1 _)) (by omega);have hp':∀ l,l<=i'->0 < det l A:=fun l hl=>h.pos l (by omega)
  have hlam:Ajv A i' (2 ^ (i' - j - 1) * (2 * Dm)):=by
    rcases hlt with h1 | h1
    · refine Ahv hp' ?_ (Am8 h.sym h.pos hi' h.dm (AX4 hn h (fun l hl=>hz i l hl h1) i' hi'));have:=Int.mul_le_mul_of_nonneg_right (AZ2 (Nat.zero_le (i' - j - 1))) (show (0:Int)<=2 * Dm by omega);simpa using this
    · obtain ⟨rfl,h1⟩:=h1;exact Ahv hp' (Int.mul_le_mul_of_nonneg_right (AZ2 (by omega)) (by omega)) h.lamb
  have hd:=hp' (j + 1) (by omega);obtain ⟨c1,c2⟩:=Atk hd (hlam j hj).1 (hlam j hj).2;have hrem:=Ahw (a:=Mn j A i' j) hd;generalize hc: -((2 * Mn j A i' j + det (j + 1) A) / (2 * det (j + 1) A))=c at *
  refine ⟨⟨Atj hi' (by omega) h.sym,fun k hk=>by rw [AS4 hj];exact h.pos k hk,fun k hk=>by rw [AS4 hj];exact h.dm k hk,hi',by omega,fun k hk hne=>by rw [Aqz hne];exact hrows k hk hne,fun h0=>by omega,?_,fun r l h1 h2=>?_,fun l h1 h2=>?_,fun r hr=>?_⟩,by have:=h.ht;have:=h.hi;omega⟩
  · have:=Aqy hj hp' hK0 hlam (fun l hl=>hz j l hl hj) c1 c2
    have e:2 * (2 ^ (i' - j - 1) * (2 * Dm))=2 ^ (i' - j) * (2 * Dm):=by
      rw [show i' - j=i' - j - 1 + 1 by omega,Int.pow_succ];simp only [Nat.add_sub_cancel];grind
    rwa [e] at this
  · unfold SzF;rw [AS4 hj,Aev hj h2 (by omega)];exact hz r l h1 h2
  · unfold SzF;rw [AS4 hj,Alf hj h1]
    rcases Nat.lt_or_ge j l with h3 | h3
    · rw [Aju A l h3,Int.mul_zero,Int.add_zero];exact hzi l h1 h3
    · obtain rfl:l=j:=by omega
      rw [APh];exact hrem
  · unfold LvF;rw [AS4 hj,AS4 hj,AS4 hj,Aev hj (by omega) (by omega)];exact hl r hr
def Ahx (n:Nat) (A:Nat->Nat->Int):Int:=AJr (fun k=>det k A) (n + 1)
theorem Atl {f g:Nat->Int} {n k:Nat} (hk:k < n) (hne:∀ l,l≠k->f l=g l) (h:f k < g k):AJr f n < AJr g n:=by
 induction n with
 | zero=>omega
 | succ n ih=>
   simp only [AJr]
   rcases Nat.lt_or_ge k n with h1 | h1
   · have:=ih h1;rw [hne n (by omega)];omega
   · obtain rfl:k=n:=by omega
     rw [AIu (g:=g) fun i hi=>hne i (by omega)];omega
theorem Ana {n i t j:Nat} {Dm:Int} {A:Nat->Nat->Int} (hn:n<=8) (h:Af7 n Dm A i t) (hj:j + 1 < n) (hbad: ¬ LvF A j)
    (hz:∀ r l,l < r->r<=j + 1->SzF A r l) (hl:∀ r,r < j->LvF A r):
    Af7 n Dm (swA A j) 0 0/\Ahx n (swA A j) < Ahx n A:=by
  have hij:i<=j + 1:=by
    rcases Nat.lt_or_ge (j + 1) i with h1 | h1
    · exact absurd (h.lov j h1) hbad
    · exact h1
  have hrest:=AX4 hn h (fun l hl=>hz i l hl hij);have h1:=Af5 h.sym h.pos (show j < n by omega) hj;have p0:=h.pos j (by omega);have p1:=h.pos (j + 1) (by omega);have p2:=h.pos (j + 2) (by omega);rw [show Mn (j + 1) A (j + 1) (j + 1)=det (j + 2) A from APh _ _] at h1
  have hlt:Mn j A (j + 1) (j + 1) < det (j + 1) A:=by
    unfold LvF at hbad
    have h2:det (j + 1) A * (4 * Mn j A (j + 1) (j + 1)) < det (j + 1) A * (3 * det (j + 1) A):=by
      have e1:det (j + 1) A * (4 * Mn j A (j + 1) (j + 1))=4 * (det (j + 1) A * Mn j A (j + 1) (j + 1)):=by grind
      have e2:det (j + 1) A * (3 * det (j + 1) A)=3 * (det (j + 1) A * det (j + 1) A):=by grind
      omega
    have:=Int.lt_of_mul_lt_mul_left h2 (Int.le_of_lt p1);omega
  have hpos:0 < Mn j A (j + 1) (j + 1):=by
    have h3:=sq_nonneg (Mn j A (j + 1) j);have h4:=Int.mul_pos p0 p2;exact Int.pos_of_mul_pos_right (a:=det (j + 1) A) (by omega) p1
  have hdet:∀ k,det k (swA A j)=if k=j + 1 then Mn j A (j + 1) (j + 1) else det k A:=fun k=>by
    by_cases e:k=j + 1
    · subst e;rw [if_pos rfl,Ahr]
    · rw [if_neg e,Ale e]
  refine ⟨Adh (by omega) (Av3 hj h.sym) (fun k hk=>?_) (fun k hk=>?_) (fun k hk=>?_),?_⟩
  · rw [hdet];split
    · exact hpos
    · exact h.pos k hk
  · rw [hdet];split
    · have:=h.dm (j + 1) (by omega);omega
    · exact h.dm k hk
  · have e:tau j k < n:=by unfold tau;split <;> (try split) <;> omega
    exact hrest _ e
  · exact Atl (k:=j + 1) (by omega) (fun l hl=>by rw [hdet,if_neg hl]) (by rw [hdet,if_pos rfl];exact hlt)
end Go.QF
namespace Go.Proofs.YtmmckalinicpaaaGreatDoor
open Go Go.QF
theorem Af8 (k m:Nat):ALa k (fun a=>((a:Nat):Int)) ++ [((m:Nat):Int)]=ALa (k + 1) fun a=>((bro k m a:Nat):Int):=by
 rw [<- ARd,AI5 (g:=fun a=>((bro k m a:Nat):Int)) fun a ha=>by unfold bro;rw [if_pos ha]];unfold bro;rw [if_neg (by omega)]
theorem Alg {fuel k m:Nat} (hk:k<=100) (hf:100 < fuel):AL2 fuel (k:Int) (m:Int)=some (ALa (k + 1) fun a=>((bro k m a:Nat):Int)):=by
 apply ok_eq;unfold AL2;refine AHt (AJa (fun i s=>s=(ALa i (fun a=>((a:Nat):Int)),((i:Nat):Int))/\i<=k) k (Q:=(· =ALa k fun a=>((a:Nat):Int))) ⟨rfl,Nat.zero_le _⟩ (by omega) fun i s hi hI=>?_) fun e he=>?_
 ·obtain ⟨rfl,hik⟩:=hI;unfold APa;dsimp only;refine AIb (fun h=>AJ9 (by rw [AJj];omega) (AHu ⟨by omega,?_,by omega⟩)) (fun h=>AHu ?_)
  ·rw [AIg (by omega) (by omega),ARd i fun a=>((a:Nat):Int)];simp
  ·obtain rfl:i=k:=by omega
   rfl
 ·subst he;refine AJ9 (by rw [AJj];omega) (AHu ?_);exact Af8 k m
theorem Adi {fuel n i j:Nat} {F:Nat->Nat->Int} (hn:n<=8) (hi:i < n) (hj:j < n) (hb:∀ i j,i < n->j < n->(F i j).natAbs<=AMs) (hf:100 < fuel):AK0 fuel (tab n n F) (i:Int) (j:Int)=some (Mn j F i j):=by
 apply ok_eq;unfold AK0;refine AHt (AJa (fun q s=>s=(ALa q (fun a=>((a:Nat):Int)),ALa q (fun a=>((a:Nat):Int)),((q:Nat):Int))/\q<=j) j (Q:=(· =(ALa j (fun a=>((a:Nat):Int)),ALa j fun a=>((a:Nat):Int)))) ⟨rfl,Nat.zero_le _⟩ (by omega) fun q s hq hI=>?_) fun e he=>?_
 ·obtain ⟨rfl,hqj⟩:=hI;unfold AOq;dsimp only;refine AIb (fun h=>AJ9 (by rw [AJj];omega) (AJ9 (by rw [AJj];omega) (AHu ⟨by omega,?_,by omega⟩))) (fun h=>AHu ?_)
  ·rw [AIg (by omega) (by omega),ARd q fun a=>((a:Nat):Int)];simp
  ·obtain rfl:q=j:=by omega
   rfl
 ·subst he;dsimp only;refine AJ9 (by rw [AJj];omega) (AJ9 (by rw [AJj];omega) ?_);rw [Af8,Af8];refine AHt (AIx (Ahp (n:=n) (by omega) (by omega) hf (fun a ha=>ATf (by omega) hi) (fun a ha=>ATf (by omega) hj))) fun x hx=>?_;subst hx;refine AHt (AIx (AZx (by omega) (fun a b ha Aa=>hb _ _ (ATf (by omega) hi) (ATf (by omega) hj)) (by omega))) fun y hy=>AHu hy
theorem AX5 {fuel n k:Nat} {F:Nat->Nat->Int} (hk:k<=n) (hn:n<=8):AJv fuel (ALa n fun a=>det (a + 1) F) (k:Int)=some (det k F):=by
 apply ok_eq;unfold AJv;refine AIb (fun h=>?_) (fun h=>?_)
 ·obtain rfl:k=0:=by omega
  exact ⟨1,rfl,by simp [det]⟩
 ·obtain ⟨q,rfl⟩:∃ q,k=q + 1:=⟨k - 1,by omega⟩;refine AIe (n:=q) (AIz (by omega)) (by rw [AIg (by omega) (by omega)];omega) (AHu rfl)
theorem Aa0 {fuel n:Nat} {F:Nat->Nat->Int} (Aa:1<=n) (hn:n<=8) (hb:∀ i j,i < n->j < n->(F i j).natAbs<=AMs) (hf:100 < fuel):AKo fuel (tab n n F)=some (ALa n fun a=>det (a + 1) F,true):=by
 apply ok_eq;unfold AKo;refine AHt (AIx (Aet Aa (by omega) hf)) fun x hx=>?_;subst hx;dsimp only;refine AIb (fun h=>absurd h (by decide)) (fun _=>AHt (AJa (fun k s=>s=(ALa k (fun a=>det (a + 1) F),((k:Nat):Int))/\k<=n) n (Q:=(· =ALa n fun a=>det (a + 1) F)) ⟨rfl,Nat.zero_le _⟩ (by omega) fun k s hk hI=>?_) fun e he=>AHu (by rw [he]));obtain ⟨rfl,hkn⟩:=hI;unfold AOg;dsimp only;refine AIb (fun h=>?_) (fun h=>AHu ?_)
 ·have hk':k < n:=by omega
  refine AHt (AIx (Alg (by omega) hf)) fun r hr=>?_;subst hr;refine AHt (AIx (Alg (by omega) hf)) fun c hc=>?_;subst hc;refine AHt (AIx (Ahp (n:=n) (by omega) (by omega) hf (fun a ha=>ATf (by omega) hk') (fun a ha=>ATf (by omega) hk'))) fun x hx=>?_;subst hx;refine AHt (AIx (AZx (by omega) (fun a b ha Ab=>hb _ _ (ATf (by omega) hk') (ATf (by omega) hk')) (by omega))) fun y hy=>?_;subst hy;refine AJ9 (by rw [AJj];omega) (AHu ⟨by omega,?_,by omega⟩);rw [show (det (k + 1) fun a b=>F (bro k k a) (bro k k b))=det (k + 1) F from APh k F,AIg (by omega) (by omega),ARd k fun a=>det (a + 1) F];simp
 ·obtain rfl:k=n:=by omega
  rfl
theorem Af9 (a b:Int):AVt a b<=0↔a<=b:=by unfold AVt;split <;> (try split) <;> omega
theorem Adj {n j i l:Nat} {F:Nat->Nat->Int} (hn:n<=8) (hi:i < n) (hl:l < n) (hj:j < n) (hb:∀ i j,i < n->j < n->(F i j).natAbs<=AMs):(Mn j F i l).natAbs<=dBd AMs 9:=by
 have e:Mn j F i l=Mn j (fun a b=>if a < n/\b < n then F a b else 0) i l:=by
   unfold Mn
   refine AJo fun a b ha Aa=>?_
   dsimp only
   rw [if_pos ⟨ATf (by omega) hi,ATf (by omega) hl⟩]
 rw [e];refine Nat.le_trans (Ajs (m:=AMs) (fun a b=>?_) i l) (AUf (by decide) (by omega));split
 ·next h=>exact hb a b h.1 h.2
 ·exact Nat.zero_le _
theorem AXm {n k:Nat} {F:Nat->Nat->Int} (hn:n<=8) (hk:k<=n) (hb:∀ i j,i < n->j < n->(F i j).natAbs<=AMs):(det k F).natAbs<=dBd AMs 9:=by
 rcases Nat.eq_zero_or_pos k with h | h
 ·subst h;simp only [det];decide
 ·obtain ⟨q,rfl⟩:∃ q,k=q + 1:=⟨k - 1,by omega⟩;rw [<- APh q F];exact Adj hn (by omega) (by omega) (by omega) hb
theorem Alh {fuel n i j:Nat} {F:Nat->Nat->Int} (hn:n<=8) (hi:i < n) (hj:j < n) (hb:∀ i j,i < n->j < n->(F i j).natAbs<=AMs) (hf:100 < fuel):AL3 fuel (tab n n F) (ALa n fun a=>det (a + 1) F) (i:Int) (j:Int)=some (decide (2 * ((Mn j F i j).natAbs:Int)<=det (j + 1) F)):=by
 apply ok_eq;unfold AL3;refine AHt (Q:=(· =2)) ⟨2,if_pos (by omega),rfl⟩ fun two h2=>?_;subst h2;refine AHt (AIx (Adi hn hi hj hb hf)) fun x hx=>?_;subst hx;refine AHt (AIx (a:=((Mn j F i j).natAbs:Int)) rfl) fun y hy=>?_;subst hy;refine AHt (AIx (Aaw Ald (show (2:Int).natAbs<=dBd AMs (8 + 1) by decide) (by rw [Int.natAbs_natCast];exact Adj hn hi hj hj hb))) fun w hw=>?_;subst hw;rw [AIg (by omega) (by omega)];refine AHt (AIx (AX5 (k:=j + 1) (by omega) hn)) fun m hm=>?_;subst hm;refine AHt (AIx (a:=AVt (2 * ((Mn j F i j).natAbs:Int)) (det (j + 1) F)) rfl) fun c hc=>AHu ?_;subst hc;exact decide_eq_decide.2 (Af9 _ _)
theorem Ab5 {F:Nat->Nat->Int} {i j:Nat}:2 * ((Mn j F i j).natAbs:Int)<=det (j + 1) F↔SzF F i j:=by
 unfold SzF;omega
theorem psum_abs {f g:Nat->Int} {D:Nat}:∀ (n:Nat),(∀ a,a < n->(f a).natAbs<=D/\(g a).natAbs<=D)->(AJr (fun a=>f a * g a) n).natAbs<=n * (D * D)
  | 0,_=>by simp [AJr]
  | n + 1,h=>by
    have h1:=psum_abs n fun a ha=>h a (by omega)
    have h2:=Nat.mul_le_mul (h n (by omega)).1 (h n (by omega)).2
    rw [<- Int.natAbs_mul] at h2
    have e:(n + 1) * (D * D)=n * (D * D) + D * D:=by rw [Nat.add_mul,Nat.one_mul]
    simp only [AJr]
    omega
theorem Axx {fuel n D:Nat} {f g:Nat->Int} (hn:n<=16) (hD:16 * (D * D) < AL1) (hb:∀ a,a < n->(f a).natAbs<=D/\(g a).natAbs<=D) (hf:100 < fuel):ANu fuel (ALa n f) (ALa n g)=some (AJr (fun a=>f a * g a) n):=by
 apply ok_eq;unfold ANu;refine AHt (AJa (fun k s=>s=(((k:Nat):Int),AJr (fun a=>f a * g a) k)/\k<=n) n (Q:=(· =AJr (fun a=>f a * g a) n)) ⟨rfl,Nat.zero_le _⟩ (by omega) fun k s hk hI=>?_) fun e he=>AHu he;obtain ⟨rfl,hkn⟩:=hI;unfold AP8;dsimp only;rw [AJj];refine AIb (fun h=>?_) (fun h=>AHu ?_)
 ·have hk':k < n:=by omega
  have h1:=psum_abs k fun a ha=>hb a (by omega);have h2:=Nat.mul_le_mul (hb k hk').1 (hb k hk').2;have h3:k * (D * D)<=16 * (D * D):=Nat.mul_le_mul_right _ (by omega);have h4:1 * (D * D)<=16 * (D * D):=Nat.mul_le_mul_right _ (by omega);refine AIe (AIz hk') rfl (AIe (AIz hk') rfl (AHt (Q:=(· =f k * g k)) ⟨_,if_pos (by omega),rfl⟩ fun x hx=>?_));subst hx;refine AHt (Q:=(· =AJr (fun a=>f a * g a) k + f k * g k)) ⟨_,if_pos ⟨by omega,by rw [Int.natAbs_mul];omega⟩,rfl⟩ fun y hy=>AHu ⟨by omega,?_,by omega⟩;subst hy;rw [AIg (by omega) (by omega)];simp [AJr]
 ·obtain rfl:k=n:=by omega
  rfl
theorem Adk {fuel n:Nat} {F:Nat->Nat->Int} (hn:1<=n) (Ad:n<=16) (hf:100 < fuel):AJi fuel (tab n n F)=some ((n:Int),(n:Int),true):=by
 apply ok_eq;unfold AJi;rw [AJk];refine AHt (Q:=fun ex=>match ex with | .inl _=>False | .inr _=>True) (AIb (fun h=>by omega) fun h=>AIb (fun h2=>by omega) fun h2=>AHu trivial) fun ex hex=>?_
 cases ex with
 | inl e=>exact hex.elim
 | inr u=>
   dsimp only
   refine AHt (AJa (fun i (s:Int)=>s=i) n (Q:=fun ex=>match ex with | .inl _=>False | .inr _=>True) rfl (by omega) fun i s hi hI=>?_) fun ex hex=>?_
   · subst hI
     unfold AL5
     rw [AJk]
     refine AIb (fun h=>AIe (AJn (by omega)) rfl ?_) fun h=>AHu trivial
     rw [AJj]
     refine AIb (fun h2=>by omega) fun h2=>AIb (fun h3=>by omega) fun h3=>AIe (n:=0) (AJn (by omega)) rfl (AIb (fun h4=>?_) fun h4=>AHu ⟨by omega,AIg (by omega) (by omega)⟩)
     rw [AJj] at h4;omega
   · cases ex with
     | inl e=>exact hex.elim
     | inr u=>exact AIe (n:=0) (AJn (by omega)) rfl (AHu (by rw [AJj]))
theorem ASp {r c:Nat} {F G:Nat->Nat->Int} (h:∀ i j,i < r->j < c->F i j=G i j):tab r c F=tab r c G:=by
 rw [AS8,AS8];exact AI5 fun i hi=>AI5 fun j hj=>h i j hi hj
def trS (F:Nat->Nat->Int) (i j r c:Nat):Int:=if c < i∨c=i/\r < j then F c r else 0
theorem Ali {fuel n:Nat} {F:Nat->Nat->Int} (hn:1<=n) (Ad:n<=16) (hf:100 < fuel):AKu fuel (tab n n F)=some (tab n n (trF F),true):=by
 apply ok_eq;unfold AKu;refine AHt (AIx (Adk hn Ad hf)) fun x hx=>?_;subst hx;dsimp only;refine AIb (fun h=>absurd h (by decide)) fun _=>AHt (AIx (Ab3 (by omega) (by omega) (by omega))) fun O hO=>?_;subst hO;refine AHt (AJa (fun i s=>s=(((i:Nat):Int),tab n n (trS F i 0))/\i<=n) n (Q:=(· =tab n n (trF F))) ⟨?_,Nat.zero_le _⟩ (by omega) fun i s hi hI=>?_) fun e he=>AHu (by rw [he])
 ·rw [ANy n (0:Int),ANy];refine congrArg (Prod.mk (0:Int)) ?_;rw [AS8];exact AI5 fun r _=>AI5 fun c _=>by unfold trS;rw [if_neg (by omega)]
 ·obtain ⟨rfl,hin⟩:=hI;unfold ANn;dsimp only;rw [AJk];refine AIb (fun h=>?_) (fun h=>AHu ?_)
  ·have hi':i < n:=by omega
   refine AIe (AJn hi') rfl (AHt (AJa (fun j s=>s=(((j:Nat):Int),tab n n (trS F i j))/\j<=n) n (Q:=(· =tab n n (trS F (i + 1) 0))) ⟨rfl,Nat.zero_le _⟩ (by omega) fun j s hj hJ=>?_) fun e he=>AHu ⟨by omega,by rw [AIg (by omega) (by omega),he];simp,by omega⟩);obtain ⟨rfl,hjn⟩:=hJ;unfold ANm;dsimp only;rw [AJj];refine AIb (fun h2=>?_) (fun h2=>AHu ?_)
   ·have hj':j < n:=by omega
    refine AIe (AJn hj') rfl (AIe (AJn hi') rfl (AIe (AIz hj') rfl (AHt (AIx (a:=F i j) rfl) fun y hy=>AIe (AIz hi') rfl (AHu ⟨by omega,?_,by omega⟩))));subst hy;rw [AIg (by omega) (by omega),Adf];refine Prod.ext (by dsimp only;omega) (ASp fun r c hr hc=>?_);rw [AI2];unfold trS;by_cases h3:r=j
    ·rw [if_pos h3];by_cases h4:c=i
     ·rw [if_pos h4,if_pos (by omega),h3,h4]
     ·rw [if_neg h4];by_cases h5:c < i
      ·rw [if_pos (by omega),if_pos (by omega),h3]
      ·rw [if_neg (by omega),if_neg (by omega)]
    ·rw [if_neg h3];by_cases h5:c < i∨c=i/\r < j
     ·rw [if_pos h5,if_pos (by omega)]
     ·rw [if_neg h5,if_neg (by omega)]
   ·refine ASp fun r c hr hc=>?_;unfold trS;by_cases h5:c < i + 1
    ·rw [if_pos (by omega),if_pos (by omega)]
    ·rw [if_neg (by omega),if_neg (by omega)]
  ·refine ASp fun r c hr hc=>?_;unfold trS trF;rw [if_pos (by omega)]
def muS (H:Nat->Nat->Int) (i j r c:Nat):Int:=if r < i∨r=i/\c < j then H r c else 0
theorem Aq1 {fuel n D:Nat} {F G:Nat->Nat->Int} (hn:1<=n) (Ab:n<=16) (hD:16 * (D * D) < AL1) (hF:∀ i j,i < n->j < n->(F i j).natAbs<=D) (hG:∀ i j,i < n->j < n->(G i j).natAbs<=D) (hf:100 < fuel):ANv fuel (tab n n F) (tab n n G)=some (tab n n (ALn n F G),true):=by
 apply ok_eq;unfold ANv;refine AHt (AIx (Adk hn Ab hf)) fun x hx=>?_;subst hx;dsimp only;refine AHt (AIx (Ali hn Ab hf)) fun x hx=>?_;subst hx;dsimp only;rw [AJk,AJk];refine AHt (Q:=fun ex=>match ex with | .inl _=>False | .inr _=>True) (AIb (fun h=>absurd h (by decide)) fun _=>AIb (fun h=>absurd h (by decide)) fun _=>AIb (fun h=>absurd rfl h) fun _=>AHu trivial) fun ex hex=>?_
 cases ex with
 | inl e=>exact hex.elim
 | inr u=>
   dsimp only
   rw [AJk]
   refine AHt (AIx (Ab3 (by omega) (by omega) (by omega))) fun O hO=>?_
   subst hO
   refine AHt (AJa (fun i s=>s=(((i:Nat):Int),tab n n (muS (ALn n F G) i 0))/\i<=n) n (Q:=(· =tab n n (ALn n F G))) ⟨?_,Nat.zero_le _⟩ (by omega) fun i s hi hI=>?_) fun e he=>AHu (by rw [he])
   · rw [ANy n (0:Int),ANy]
     refine congrArg (Prod.mk (0:Int)) ?_
     rw [AS8]
     exact AI5 fun r _=>AI5 fun c _=>by unfold muS;rw [if_neg (by omega)]
   · obtain ⟨rfl,hin⟩:=hI
     unfold AQa
     dsimp only
     rw [AJk]
     refine AIb (fun h=>?_) (fun h=>AHu ?_)
     · have hi':i < n:=by omega
       refine AHt (AJa (fun j s=>s=(((j:Nat):Int),tab n n (muS (ALn n F G) i j))/\j<=n) n (Q:=(· =tab n n (muS (ALn n F G) (i + 1) 0))) ⟨rfl,Nat.zero_le _⟩ (by omega) fun j s hj hJ=>?_) fun e he=>AHu ⟨by omega,by rw [AIg (by omega) (by omega),he];simp,by omega⟩
       obtain ⟨rfl,hjn⟩:=hJ
       unfold AP9
       dsimp only
       rw [AJk]
       refine AIb (fun h2=>?_) (fun h2=>AHu ?_)
       · have hj':j < n:=by omega
         refine AIe (AJn hi') rfl (AIe (AJn hi') rfl (AIe (AJn hj') rfl (AHt (AIx (Axx (D:=D) Ab hD (fun a ha=>⟨hF i a hi' ha,hG a j ha hj'⟩) hf)) fun y hy=>AIe (AIz hj') rfl (AHu ⟨by omega,?_,by omega⟩))))
         subst hy
         rw [AIg (by omega) (by omega),Adf]
         refine Prod.ext (by dsimp only;omega) (ASp fun r c hr hc=>?_)
         rw [AI2]
         unfold muS
         by_cases h3:r=i
         · rw [if_pos h3]
           by_cases h4:c=j
           · rw [if_pos h4,if_pos (by omega),h3,h4];rfl
           · rw [if_neg h4]
             by_cases h5:c < j
             · rw [if_pos (by omega),if_pos (by omega),h3]
             · rw [if_neg (by omega),if_neg (by omega)]
         · rw [if_neg h3]
           by_cases h5:r < i
           · rw [if_pos (by omega),if_pos (by omega)]
           · rw [if_neg (by omega),if_neg (by omega)]
       · refine ASp fun r c hr hc=>?_
         unfold muS
         by_cases h5:r < i + 1
         · rw [if_pos (by omega),if_pos (by omega)]
         · rw [if_neg (by omega),if_neg (by omega)]
     · refine ASp fun r c hr hc=>?_
       unfold muS
       rw [if_pos (by omega)]
theorem Alj (a b:Int):AVt a b=0↔a=b:=by unfold AVt;split <;> (try split) <;> omega
theorem Aut {fuel n:Nat} {F:Nat->Nat->Int} (Ae:n<=16) (hf:100 < fuel):Ok (AKv fuel (tab n n F)) fun r=>r=true↔AQg n F:=by
 unfold AKv;refine AHt (AJa (fun i s=>s=((i:Nat):Int)/\i<=n/\ ∀ a b,b < a->a < i->F a b=F b a) n (Q:=fun ex=>match ex with | .inl e=>e=false/\¬ AQg n F | .inr _=>AQg n F) ⟨rfl,Nat.zero_le _,fun a b h1 h2=>by omega⟩ (by omega) fun i s hi hI=>?_) fun ex hex=>?_
 ·obtain ⟨rfl,hin,hs⟩:=hI;unfold ANp;rw [AJk];refine AIb (fun h=>?_) (fun h=>AHu ?_)
  ·have hi':i < n:=by omega
   refine AHt (AJa (fun j s=>s=((j:Nat):Int)/\j<=i/\ ∀ b,b < j->F i b=F b i) i (Q:=fun ex=>match ex with | .inl e=>e=false/\¬ AQg n F | .inr _=> ∀ b,b < i->F i b=F b i) ⟨rfl,Nat.zero_le _,fun b h1=>by omega⟩ (by omega) fun j s hj hJ=>?_) fun ex hex=>?_
   ·obtain ⟨rfl,hji,hb⟩:=hJ;unfold ANo;refine AIb (fun h2=>?_) (fun h2=>AHu ?_)
    ·have hj':j < i:=by omega
     refine AIe (AJn hi') rfl (AIe (AIz (by omega)) rfl (AIe (AJn (by omega)) rfl (AIe (AIz hi') rfl (AHt (AIx (a:=AVt (F i j) (F j i)) rfl) fun c hc=>?_))));subst hc;refine AIb (fun h3=>AHu ⟨rfl,fun h4=>h3 ((Alj _ _).2 (h4 i j hi' (by omega)))⟩) (fun h3=>AHu ⟨by omega,by rw [AIg (by omega) (by omega)];simp,by omega,fun b Af=>?_⟩);rcases Nat.lt_or_ge b j with h4 | h4
     ·exact hb b h4
     ·obtain rfl:b=j:=by omega
      exact (Alj _ _).1 (Classical.not_not.1 h3)
    ·obtain rfl:j=i:=by omega
     exact hb
   ·cases ex with
    | inl e=>exact AHu hex
    | inr u=>exact AHu ⟨by omega,by rw [AIg (by omega) (by omega)];simp,by omega,fun a b h1 h2=>by
        rcases Nat.lt_or_ge a i with h4 | h4
        · exact hs a b h1 h4
        · obtain rfl:a=i:=by omega
          exact hex b h1⟩
  ·obtain rfl:i=n:=by omega
   intro a b ha hb;rcases Nat.lt_trichotomy a b with h1 | h1 | h1
   ·exact (hs b a h1 hb).symm
   ·rw [h1]
   ·exact hs a b h1 ha
 ·cases ex with
  | inl e=>obtain ⟨rfl,h⟩:=hex;exact AHu ⟨fun h1=>Bool.noConfusion h1,fun h1=>absurd h1 h⟩
  | inr u=>exact AHu ⟨fun _=>hex,fun _=>rfl⟩
theorem Atm {fuel n D:Nat} {F G:Nat->Nat->Int} (hn:1<=n) (Aa:n<=16) (hD:16 * (D * D) < AL1) (hF:∀ i j,i < n->j < n->(F i j).natAbs<=D) (hG:∀ i j,i < n->j < n->(G i j).natAbs<=D) (hH:∀ i j,i < n->j < n->(ALn n (trF G) F i j).natAbs<=D) (hf:100 < fuel):AKw fuel (tab n n F) (tab n n G)=some (tab n n (ALn n (ALn n (trF G) F) G)):=by
 apply ok_eq;unfold AKw;refine AHt (AIx (Ali hn Aa hf)) fun x hx=>?_;subst hx;dsimp only
 have pr:∀ {F G:Nat->Nat->Int},(∀ i j,i < n->j < n->(F i j).natAbs<=D)->(∀ i j,i < n->j < n->(G i j).natAbs<=D)->Ok (AJu fuel (tab n n F) (tab n n G)) (· =tab n n (ALn n F G)):=fun {F G} hF hG=>by
   unfold AJu
   refine AHt (AIx (Aq1 hn Aa hD hF hG hf)) fun x hx=>?_
   subst hx
   exact AHu rfl
 refine AHt (pr (fun i j hi hj=>hG j i hj hi) hF) fun x hx=>?_;subst hx;refine AHt (pr hH hG) fun y hy=>AHu hy
theorem Alk (a:Int):AMa a<=0↔a<=0:=by unfold AMa;split <;> (try split) <;> omega
theorem Axy {fuel n:Nat} {F:Nat->Nat->Int} (Ae:1<=n) (hn:n<=8) (hb:∀ i j,i < n->j < n->(F i j).natAbs<=AMs) (hf:100 < fuel):Ok (AL6 fuel (tab n n F)) fun r=>r=true↔AQg n F/\ARy n F:=by
 unfold AL6;refine AHt (AIx (Aa0 Ae hn hb hf)) fun x hx=>?_;subst hx;dsimp only;refine AHt (Q:=fun ex=>match ex with | .inl e=>e=false/\¬ AQg n F | .inr _=>AQg n F) (AIb (fun h=>absurd h (by decide)) fun _=>AHt (Aut (by omega) hf) fun r hr=>?_) fun ex hex=>?_
 ·refine AIb (fun h=>AHu ⟨rfl,fun h1=>?_⟩) (fun h=>AHu (hr.1 ?_))
  ·rw [hr.2 h1] at h;exact absurd h (by decide)
  ·cases r
   ·exact absurd rfl h
   ·rfl
 ·cases ex with
  | inl e=>obtain ⟨rfl,h⟩:=hex;exact AHu ⟨fun h1=>Bool.noConfusion h1,fun h1=>absurd h1.1 h⟩
  | inr u=>
    dsimp only at hex ⊢
    have h0:∀ k,k<=0->0 < det k F:=fun k hk=>by
      obtain rfl:k=0:=by omega
      simp [det]
    refine AHt (AJa (fun i s=>s=((i:Nat):Int)/\i<=n/\ ∀ k,k<=i->0 < det k F) n (Q:=fun ex=>match ex with | .inl e=>e=false/\¬ ARy n F | .inr _=>ARy n F) ⟨rfl,Nat.zero_le _,h0⟩ (by omega) fun i s hi hI=>?_) fun ex Ad=>?_
    · obtain ⟨rfl,hin,hp⟩:=hI
      unfold AN8
      rw [AJj]
      refine AIb (fun h=>?_) (fun h=>AHu ?_)
      · have hi':i < n:=by omega
        refine AIe (AIz hi') rfl (AHt (AIx (a:=AMa (det (i + 1) F)) rfl) fun c hc=>?_)
        subst hc
        refine AIb (fun h3=>AHu ⟨rfl,fun h4=>?_⟩) (fun h3=>AHu ⟨by omega,by rw [AIg (by omega) (by omega)];simp,by omega,fun k hk=>?_⟩)
        · have:=h4 (i + 1) (by omega);have:=(Alk _).1 h3;omega
        · rcases Nat.lt_or_ge k (i + 1) with h4 | h4
          · exact hp k (by omega)
          · obtain rfl:k=i + 1:=by omega
            rw [Alk] at h3;omega
      · obtain rfl:i=n:=by omega
        exact hp
    · cases ex with
      | inl e=>obtain ⟨rfl,h⟩:=Ad;exact AHu ⟨fun h1=>Bool.noConfusion h1,fun h1=>absurd h1.2 h⟩
      | inr u=>exact AHu ⟨fun _=>⟨hex,Ad⟩,fun _=>rfl⟩
theorem AYy {fuel n:Nat} {F:Nat->Nat->Int} (Ac:1<=n) (hn:n<=8) (hb:∀ i j,i < n->j < n->(F i j).natAbs<=AMs) (hf:100 < fuel):Ok (AJ4 fuel (tab n n F)) fun r=>r=0↔AQg n F/\ARy n F:=by
 unfold AJ4;refine AHt (AIx (Aet Ac (by omega) hf)) fun x hx=>?_;subst hx;dsimp only;refine AIb (fun h=>absurd h (by decide)) fun _=>AIb (fun h=>by omega) fun _=>AHt (Aut (by omega) hf) fun r hr=>AIb (fun h=>AHu ⟨fun h1=>by omega,fun h1=>?_⟩) fun h=>AHt (Axy Ac hn hb hf) fun q hq=>AIb (fun h2=>AHu ⟨fun h1=>by omega,fun h1=>?_⟩) fun h2=>AHu ⟨fun _=>hq.1 ?_,fun _=>rfl⟩
 ·rw [hr.2 h1.1] at h;exact absurd h (by decide)
 ·rw [hq.2 h1] at h2;exact absurd h2 (by decide)
 ·cases q
  ·exact absurd rfl h2
  ·rfl
theorem Alm {fuel n:Nat} {F:Nat->Nat->Int} (hn:n<=8) (hb:∀ i j,i < n->j < n->(F i j).natAbs<=AMs) (hf:100 < fuel):AL4 fuel (tab n n F)=some (decide (det n F<=10000)):=by
 apply ok_eq;unfold AL4;refine AHt (AIx (AZx hn hb (by omega))) fun x hx=>?_;subst hx;refine AHt (Q:=(· =10000)) ⟨10000,if_pos (by omega),rfl⟩ fun y hy=>?_;subst hy;refine AHt (AIx (a:=AVt (det n F) 10000) rfl) fun c hc=>AHu ?_;subst hc;exact decide_eq_decide.2 (Af9 _ _)
def idS (i r c:Nat):Int:=if r=c/\r < i then 1 else 0
theorem Aln {fuel n:Nat} (hn:1<=n) (Ae:n<=16) (hf:100 < fuel):AK5 fuel (n:Int)=some (tab n n dl,true):=by
 apply ok_eq;unfold AK5;refine AHt (Q:=fun ex=>match ex with | .inl _=>False | .inr _=>True) (AIb (fun h=>by omega) fun _=>AIb (fun h=>by omega) fun _=>AHu trivial) fun ex hex=>?_
 cases ex with
 | inl e=>exact hex.elim
 | inr u=>
   dsimp only
   refine AHt (AIx (Ab3 (by omega) (by omega) (by omega))) fun O hO=>?_
   have Ab:O=tab n n (idS 0):=by
     rw [hO,ANy n (0:Int),ANy,AS8]
     exact AI5 fun r _=>AI5 fun c _=>by unfold idS;rw [if_neg (by omega)]
   have hlen:O.length=n:=by rw [Ab,AJk]
   refine AHt (AJa (fun i s=>s=(((i:Nat):Int),tab n n (idS i))/\i<=n) n (Q:=(· =tab n n dl)) ⟨by rw [Ab];rfl,Nat.zero_le _⟩ (by omega) fun i s hi hI=>?_) fun e he=>AHu (by rw [he])
   obtain ⟨rfl,hin⟩:=hI
   unfold AN7
   dsimp only
   rw [hlen]
   refine AIb (fun h=>?_) (fun h=>AHu ?_)
   · have hi':i < n:=by omega
     refine AIe (AJn hi') rfl (AHt (Q:=(· =1)) ⟨1,if_pos (by omega),rfl⟩ fun y hy=>AIe (AIz hi') rfl (AHu ⟨by omega,?_,by omega⟩))
     subst hy
     rw [AIg (by omega) (by omega),Adf]
     refine Prod.ext (by dsimp only;omega) (ASp fun r c hr hc=>?_)
     rw [AI2]
     unfold idS
     by_cases h3:r=i
     · rw [if_pos h3]
       by_cases h4:c=i
       · rw [if_pos h4,if_pos (by omega)]
       · rw [if_neg h4,if_neg (by omega),if_neg (by omega)]
     · rw [if_neg h3]
       by_cases h5:r=c/\r < i
       · rw [if_pos h5,if_pos (by omega)]
       · rw [if_neg h5,if_neg (by omega)]
   · refine ASp fun r c hr hc=>?_
     unfold idS dl
     by_cases h5:r=c
     · rw [if_pos (by omega),if_pos h5]
     · rw [if_neg (by omega),if_neg h5]
def toS (n:Nat) (F:Nat->Nat->Int) (i:Nat):List (List Int):=ALa n fun r=>if r < i then ALa n (F r) else []
def toR (n:Nat) (F:Nat->Nat->Int) (i j:Nat):List (List Int):=ALa n fun r=>if r < i then ALa n (F r) else if r=i then ALa n (fun c=>if c < j then F i c else 0) else []
theorem Ax0 {fuel n:Nat} {F:Nat->Nat->Int} (hn:1<=n) (Ae:n<=16) (hb:∀ i j,i < n->j < n->(F i j).natAbs < 9223372036854775808) (hf:100 < fuel):AMl fuel (tab n n F)=some (tab n n F,true):=by
 apply ok_eq;unfold AMl;refine AHt (AIx (Adk hn Ae hf)) fun x hx=>?_;subst hx;dsimp only;refine AIb (fun h=>absurd h (by decide)) fun _=>AJ9 (by omega) (AHt (AJa (fun i s=>s=(((i:Nat):Int),toS n F i)/\i<=n) n (Q:=fun ex=>match ex with | .inl _=>False | .inr e=>e=tab n n F) ⟨?_,Nat.zero_le _⟩ (by omega) fun i s hi hI=>?_) fun ex hex=>?_)
 ·rw [Int.toNat_natCast,ANy];exact congrArg (Prod.mk (0:Int)) (AI5 fun r _=>by rw [if_neg (by omega)])
 ·obtain ⟨rfl,hin⟩:=hI;unfold AOp;dsimp only;rw [List.length_replicate,Int.toNat_natCast];refine AIb (fun h=>AJ9 (by omega) ?_) (fun h=>AHu ?_)
  ·have hi':i < n:=by omega
   have e0:sI (toS n F i) (i:Int) (List.replicate n (0:Int))=toR n F i 0:=by
     rw [AKd];unfold toS;rw [AMo]
     refine AI5 fun r _=>?_
     by_cases h1:r=i
     · rw [if_pos h1,if_neg (by omega),if_pos h1,ANy];exact AI5 fun c _=>by rw [if_neg (by omega)]
     · rw [if_neg h1]
       by_cases h2:r < i
       · rw [if_pos h2,if_pos h2]
       · rw [if_neg h2,if_neg h2,if_neg h1]
   refine AIe (n:=i) (AIz hi') rfl ?_;rw [e0];refine AIe (n:=i) (AIz hi') rfl ?_;rw [if_neg (by omega),if_pos rfl];refine AHt (AJa (fun j s=>s=(((j:Nat):Int),toR n F i j)/\j<=n) n (Q:=fun ex=>match ex with | .inl _=>False | .inr e=>e=toS n F (i + 1)) ⟨rfl,Nat.zero_le _⟩ (by omega) fun j s hj hJ=>?_) fun ex hex=>?_
   ·obtain ⟨rfl,hjn⟩:=hJ;unfold AOo;dsimp only;rw [AJj];refine AIb (fun h2=>?_) (fun h2=>AHu ?_)
    ·have hj':j < n:=by omega
     refine AIe (AJn hi') rfl (AIe (AIz hj') rfl (AHt (Q:=(· =(F i j,true))) ⟨_,if_pos (hb i j hi' hj'),rfl⟩ fun y hy=>?_));subst hy;dsimp only;refine AIb (fun h=>absurd h (by decide)) fun _=>AIe (n:=i) (AIz hi') rfl ?_;rw [if_neg (by omega),if_pos rfl];refine AIe (AIz hj') rfl (AHu ⟨by omega,?_,by omega⟩);rw [AIg (by omega) (by omega),AKd,AKd];refine Prod.ext (by dsimp only;omega) ?_;dsimp only;unfold toR;rw [AMo,AMo];refine AI5 fun r _=>?_;by_cases h1:r=i
     ·rw [if_pos h1,if_neg (by omega),if_pos h1];refine AI5 fun c _=>?_;by_cases h3:c=j
      ·rw [if_pos h3,if_pos (by omega),h3]
      ·rw [if_neg h3];by_cases h4:c < j
       ·rw [if_pos h4,if_pos (by omega)]
       ·rw [if_neg h4,if_neg (by omega)]
     ·rw [if_neg h1,if_neg h1,if_neg h1]
    ·refine AI5 fun r _=>?_;by_cases h1:r < i
     ·rw [if_pos h1,if_pos (by omega)]
     ·rw [if_neg h1];by_cases h3:r=i
      ·rw [if_pos h3,if_pos (by omega),h3];exact AI5 fun c hc=>by rw [if_pos (by omega)]
      ·rw [if_neg h3,if_neg (by omega)]
   ·cases ex with
    | inl e=>exact hex.elim
    | inr e=>exact AHu ⟨by omega,by rw [AIg (by omega) (by omega),hex];simp,by omega⟩
  ·refine AI5 fun r hr=>?_;rw [if_pos (by omega)];rfl
 ·cases ex with
  | inl e=>exact hex.elim
  | inr e=>exact AHu (by rw [hex])
theorem Aq2 {S E:Type} {body:S->Option (S ⊕ E)} {Q:E->Prop} (I:S->Prop) (μ:S->Nat) (hs:∀ s,I s->Ok (body s) fun r=>match r with | .inl s'=>I s'/\μ s' < μ s | .inr e=>Q e):∀ {fuel:Nat} {s0:S},I s0->μ s0 < fuel->Ok (iter body fuel s0) Q:=by
  intro fuel;induction fuel with
  | zero=>intro s0 _ h;omega
  | succ f ih=>
    intro s0 h0 hf;obtain ⟨r,hr,hq⟩:=hs s0 h0;cases r with
    | inl s'=>
      obtain ⟨e,he,hQ⟩:=ih hq.1 (by have:=hq.2;omega);exact ⟨e,by simp [iter,hr,he],hQ⟩
    | inr e=>exact ⟨e,by simp [iter,hr],hq⟩
theorem ATo (a:Int):AMa a=0↔a=0:=by unfold AMa;split <;> (try split) <;> omega
theorem Alo (a:Int):AMa a < 0↔a < 0:=by unfold AMa;split <;> (try split) <;> omega
theorem Aq3 {fuel:Nat} {a b:Int} (ha:a.natAbs < AL1) (hb:b.natAbs < AL1) (h0:b≠0):AKl fuel a b=some (a / b):=by
 apply ok_eq;unfold AKl;refine AHt (AIx (a:=(a / b,a % b,true)) (if_pos ⟨ha,hb,h0⟩)) fun x hx=>?_;subst hx;exact AHu rfl
theorem Ax1 {fuel:Nat} {a b:Int} (ha:a.natAbs < AL1) (hb:b.natAbs < AL1) (h0:b≠0):ANt fuel a b=some (a % b):=by
 apply ok_eq;unfold ANt;refine AHt (AIx (a:=(a / b,a % b,true)) (if_pos ⟨ha,hb,h0⟩)) fun x hx=>?_;subst hx;exact AHu rfl
theorem Ax2 {fuel:Nat} {a b:Int} (ha:a.natAbs < AL1) (hb:b.natAbs < AL1) (h0:b≠0) (hf:AL1 < fuel):Ok (ANx fuel a b) fun g=>0 < g/\g ∣ a/\g ∣ b:=by
 unfold ANx;refine AHt (AIx (a:=(a.natAbs:Int)) rfl) fun x hx=>AHt (AIx (a:=(b.natAbs:Int)) rfl) fun y hy=>?_;subst hx;subst hy;refine AHt (Aq2 (fun s:Int × Int=>0<=s.1/\0<=s.2/\s.1.natAbs < AL1/\s.2.natAbs < AL1/\(0 < s.1∨0 < s.2)/\ ∀ d:Int,d ∣ s.1->d ∣ s.2->d ∣ a/\d ∣ b) (fun s=>s.2.natAbs) (Q:=fun g=>0 < g/\g ∣ a/\g ∣ b) (fun s hs=>?_) ⟨by omega,by omega,by omega,by omega,.inr (by omega),fun d h1 h2=>⟨Int.dvd_natAbs.1 h1,Int.dvd_natAbs.1 h2⟩⟩ (by dsimp only;omega)) fun g hg=>AHu hg;obtain ⟨u,v⟩:=s;obtain ⟨h1,h2,h3,h4,h5,h6⟩:=hs;unfold AQb;dsimp only at h1 h2 h3 h4 h5 h6 ⊢;refine AHt (AIx (a:=AMa v) rfl) fun s hs=>?_;subst hs;refine AIb (fun hv=>?_) fun hv=>AHu ?_
 ·have Ab:v≠0:=fun h=>hv ((ATo v).2 h);refine AHt (AIx (Ax1 h3 h4 Ab)) fun r hr=>AHu ?_;subst hr;have e1:=Int.emod_nonneg u Ab;have e2:=Int.emod_lt_of_pos u (show 0 < v by omega);refine ⟨⟨h2,e1,h4,by omega,.inl (by omega),fun d d1 d2=>h6 d ?_ d1⟩,by omega⟩;have:=Int.dvd_add d2 (Int.dvd_trans d1 ⟨u / v,rfl⟩);rwa [Int.emod_add_mul_ediv] at this
 ·have Ab:v=0:=by
    rcases Decidable.em (AMa v=0) with h | h
    · exact (ATo v).1 h
    · exact absurd h hv
  subst Ab;exact ⟨by omega,h6 u (Int.dvd_refl u) ⟨0,by simp⟩⟩
def FrE (n d n' d':Int):Prop:=0 < d'/\n' * d=n * d'/\n'.natAbs<=n.natAbs/\d'.natAbs<=d.natAbs
theorem Auu {fuel:Nat} {a b:Int} (ha:a.natAbs < AL1) (hb:b.natAbs < AL1) (h0:b≠0) (hf:AL1 < fuel):Ok (AMr fuel a b) fun r=>r.2=true/\FrE a b r.1.1 r.1.2:=by
 unfold AMr;refine AHt (AIx (a:=AMa b) rfl) fun s hs=>?_;subst hs;refine AIb (fun h=>absurd ((ATo b).1 h) h0) fun _=>AHt (Q:=fun e:Int × Int=>0 < e.2/\e.1 * b=a * e.2/\e.1.natAbs=a.natAbs/\e.2.natAbs=b.natAbs) (AHt (AIx (a:=AMa b) rfl) fun s hs=>?_) fun e he=>?_
 ·subst hs;refine AIb (fun h=>?_) fun h=>AHu ⟨?_,rfl,rfl,rfl⟩
  ·have:=(Alo b).1 h;refine AHt (AIx (a:= -a) rfl) fun x hx=>AHt (AIx (a:= -b) rfl) fun y hy=>AHu ?_;subst hx;subst hy;exact ⟨by dsimp only;omega,by dsimp only;grind,by dsimp only;omega,by dsimp only;omega⟩
  ·have: ¬ b < 0:=fun h2=>h ((Alo b).2 h2);dsimp only;omega
 ·obtain ⟨u,v⟩:=e;obtain ⟨h1,h2,h3,h4⟩:=he;dsimp only at h1 h2 h3 h4 ⊢;refine AHt (Ax2 (a:=u) (b:=v) (by omega) (by omega) (by omega) hf) fun g hg=>?_;obtain ⟨g1,⟨u',rfl⟩,⟨v',rfl⟩⟩:=hg;have gn:g≠0:=by omega
  have hv':0 < v':=Int.pos_of_mul_pos_right h1 g1;have e1:(g * u').natAbs=g.natAbs * u'.natAbs:=Int.natAbs_mul _ _;have e2:(g * v').natAbs=g.natAbs * v'.natAbs:=Int.natAbs_mul _ _;have g2:1<=g.natAbs:=by omega
  have m1:=Nat.mul_le_mul_right u'.natAbs g2;have m2:=Nat.mul_le_mul_right v'.natAbs g2;have m3:=Nat.mul_le_mul_left g.natAbs (show 1<=v'.natAbs by omega);refine AHt (AIx (Aq3 (by omega) (by omega) gn)) fun x hx=>AHt (AIx (Aq3 (by omega) (by omega) gn)) fun y hy=>AHu ⟨rfl,?_⟩;subst hx;subst hy;rw [Int.mul_ediv_cancel_left _ gn,Int.mul_ediv_cancel_left _ gn];refine ⟨hv',?_,by dsimp only;omega,by dsimp only;omega⟩;have:g * (u' * b)=g * (a * v'):=by grind
  exact Int.eq_of_mul_eq_mul_left gn this
theorem Aga {fuel:Nat} {a b:Int} (ha:a.natAbs < AL1) (hb:b.natAbs < AL1) (h0:b≠0) (hf:AL1 < fuel):Ok (AJy fuel a b) fun r=>FrE a b r.1 r.2:=by
 unfold AJy;refine AHt (Auu ha hb h0 hf) fun r hr=>?_;obtain ⟨⟨x,y⟩,c⟩:=r;obtain ⟨h1,h2⟩:=hr;dsimp only at h1 h2 ⊢;subst h1;exact AIb (fun h=>absurd h (by decide)) fun _=>AHu h2
theorem Av6 {fuel:Nat} {a b:Int} (ha:a.natAbs < AL1) (hb:b.natAbs < AL1) (h0:b≠0) (hf:AL1 < fuel):Ok (AL7 fuel a b) fun r=>FrE a b r.1 r.2:=by
 unfold AL7;exact AHt (Aga ha hb h0 hf) fun r hr=>AHu hr
theorem Ahy {N D N' D':Int} (hD:0 < D) (hD':0 < D') (h:N * D'=N' * D):N / D=N' / D':=by
 rw [<- Int.mul_ediv_mul_of_pos_left N D hD',h,Int.mul_comm D D',Int.mul_ediv_mul_of_pos_left N' D' hD]
theorem Av7 {fuel:Nat} {a b:Int} (hab:4 * (a.natAbs + b.natAbs) < AL1) (h0:0 < b) (hf:AL1 < fuel):Ok (AMg fuel a b) fun r=>r=(2 * a + b) / (2 * b):=by
 have Ag:(1:Int).natAbs < AL1:=by
   have:(1:Int).natAbs=1:=rfl
   omega
 have Ah:(2:Int).natAbs < AL1:=by
   have:(2:Int).natAbs=2:=rfl
   omega
 unfold AMg;refine AHt (Q:=(· =(1,2))) ?_ fun hh he=>?_
 ·unfold AOy;exact AHt (Q:=(· =1)) ⟨1,if_pos (by omega),rfl⟩ fun x hx=>AHt (Q:=(· =2)) ⟨2,if_pos (by omega),rfl⟩ fun y hy=>AHu (by rw [hx,hy])
 subst he;dsimp only;refine AHt (Q:=fun r=>0 < r.2/\r.1 * (2 * b)=(2 * a + b) * r.2/\r.1.natAbs < AL1/\r.2.natAbs < AL1) ?_ fun r hr=>?_
 ·unfold APg;refine AHt (Aga (by omega) (by omega) (by omega) hf) fun x hx=>AHt (Aga (a:=1) (b:=2) Ag Ah (by omega) hf) fun y hy=>?_;obtain ⟨x1,x2⟩:=x;obtain ⟨y1,y2⟩:=y;obtain ⟨a1,a2,a3,a4⟩:=hx;obtain ⟨b1,b2,b3,b4⟩:=hy;dsimp only at *;obtain rfl:y2=2:=by omega
  obtain rfl:y1=1:=by omega
  refine AHt (AIx (a:=x1 * 2) (if_pos (by have:(2:Int).natAbs=2:=rfl;rw [this];omega))) fun u hu=>AHt (AIx (a:=1 * x2) (if_pos (by have:(1:Int).natAbs=1:=rfl;rw [this];omega))) fun v hv=>?_;subst hu;subst hv;refine AHt (AIx (a:=x1 * 2 + 1 * x2) (if_pos ⟨by omega,by omega⟩)) fun w hw=>AHt (AIx (a:=x2 * 2) (if_pos (by have:(2:Int).natAbs=2:=rfl;rw [this];omega))) fun z hz=>?_;subst hw;subst hz;refine AHt (Auu (by omega) (by omega) (by omega) hf) fun r hr=>AHu ?_;obtain ⟨⟨r1,r2⟩,c⟩:=r;obtain ⟨-,c1,c2,c3,c4⟩:=hr;dsimp only at *;refine ⟨c1,?_,by omega,by omega⟩;have h1:x2 * (r1 * (2 * b))=x2 * ((2 * a + b) * r2):=by grind
  exact Int.eq_of_mul_eq_mul_left (show x2≠0 by omega) h1
 ·obtain ⟨r1,r2⟩:=r;obtain ⟨h1,h2,h3,h4⟩:=hr;dsimp only at *;unfold AOk;refine AHt (Q:=fun r=>r=(2 * a + b) / (2 * b)) (AHt (Aga h3 h4 (by omega) hf) fun x hx=>?_) fun z hz=>AHu hz;obtain ⟨x1,x2⟩:=x;obtain ⟨a1,a2,a3,a4⟩:=hx;dsimp only at *;refine AHt (AIx (Aq3 (by omega) (by omega) (by omega))) fun q hq=>AHu ?_;subst hq;refine Ahy a1 (by omega) ?_;have h5:r2 * (x1 * (2 * b))=r2 * ((2 * a + b) * x2):=by grind
  exact Int.eq_of_mul_eq_mul_left (show r2≠0 by omega) h5
end Go.Proofs.YtmmckalinicpaaaGreatDoor
namespace Go.Proofs.YtmmckalinicpaaaGreatDoor
open Go Go.QF
set_option maxRecDepth 100000
theorem Ahz:64 * (dBd AMs (8 + 1) * dBd AMs (8 + 1)) < AL1:=by decide
theorem Ah0 {fuel n j:Nat} {F:Nat->Nat->Int} (hn:n<=8) (hj:j + 1 < n) (hb:∀ i j,i < n->j < n->(F i j).natAbs<=AMs) (hf:100 < fuel):Ok (ALt fuel (tab n n F) (ALa n fun a=>det (a + 1) F) ((j + 1:Nat):Int)) fun r=>r=true↔LvF F j:=by
 show Ok _ fun r:Bool=>r=true↔3 * (det (j + 1) F * det (j + 1) F)<=4 * (det j F * det (j + 2) F + Mn j F (j + 1) j * Mn j F (j + 1) j);unfold ALt;have w1:w64 (((j + 1:Nat):Int) - 1)=(j:Int):=by rw [AIg (by omega) (by omega)];omega
 have w2:w64 (((j + 1:Nat):Int) + 1)=((j + 2:Nat):Int):=by rw [AIg (by omega) (by omega)];omega
 rw [w1,w2];have hD:=Ahz;have bl:(Mn j F (j + 1) j).natAbs<=dBd AMs (8 + 1):=Adj hn (by omega) (by omega) (by omega) hb;have b0:(det j F).natAbs<=dBd AMs (8 + 1):=AXm hn (by omega) hb;have b1:(det (j + 1) F).natAbs<=dBd AMs (8 + 1):=AXm hn (by omega) hb;have b2:(det (j + 2) F).natAbs<=dBd AMs (8 + 1):=AXm hn (by omega) hb;have p1:=Nat.mul_le_mul b0 b2;have p2:=Nat.mul_le_mul bl bl;have p3:=Nat.mul_le_mul b1 b1;have e1:=Int.natAbs_mul (det j F) (det (j + 2) F);have e2:=Int.natAbs_mul (Mn j F (j + 1) j) (Mn j F (j + 1) j);have e3:=Int.natAbs_mul (det (j + 1) F) (det (j + 1) F);refine AHt (AIx (Adi hn (by omega) (by omega) hb hf)) fun l hl=>?_;subst hl;refine AHt (Q:=(· =4)) ⟨4,if_pos (by omega),rfl⟩ fun x hx=>?_;subst hx;refine AHt (AIx (AX5 (by omega) hn)) fun x hx=>AHt (AIx (AX5 (by omega) hn)) fun y hy=>?_;subst hx;subst hy;refine AHt (AIx (a:=det j F * det (j + 2) F) (if_pos (by omega))) fun x hx=>AHt (AIx (a:=Mn j F (j + 1) j * Mn j F (j + 1) j) (if_pos (by omega))) fun y hy=>?_;subst hx;subst hy;generalize det j F * det (j + 2) F=P at *;generalize Mn j F (j + 1) j * Mn j F (j + 1) j=L at *;refine AHt (AIx (a:=P + L) (if_pos (by omega))) fun x hx=>AHt (AIx (a:=4 * x) (if_pos (by have:(4:Int).natAbs=4:=rfl;rw [this];omega))) fun y hy=>?_;subst hx;subst hy;refine AHt (Q:=(· =3)) ⟨3,if_pos (by omega),rfl⟩ fun x hx=>?_;subst hx;refine AHt (AIx (AX5 (by omega) hn)) fun x hx=>AHt (AIx (AX5 (by omega) hn)) fun y hy=>?_;subst hx;subst hy;refine AHt (AIx (a:=det (j + 1) F * det (j + 1) F) (if_pos (by omega))) fun x hx=>?_;subst hx;generalize det (j + 1) F * det (j + 1) F=S at *;refine AHt (AIx (a:=3 * S) (if_pos (by have:(3:Int).natAbs=3:=rfl;rw [this];omega))) fun x hx=>AHt (AIx (a:=AVt (4 * (P + L)) x) rfl) fun c hc=>AHu ?_;subst hx;subst hc;rw [decide_eq_true_iff];unfold AVt;split <;> (try split) <;> omega
def AVz (A:Nat->Nat->Int) (i j:Nat):Int:= -((2 * Mn j A i j + det (j + 1) A) / (2 * det (j + 1) A))
def AYz (A:Nat->Nat->Int) (i j:Nat):Nat->Nat->Int:=AKb dl j fun q=>if q=i then AVz A i j else dl j q
def AUh (A:Nat->Nat->Int) (i:Nat):Prop:= ∀ r l,l < r->r < i->SzF A r l
def AV0 (A:Nat->Nat->Int) (i:Nat):Prop:= ∀ r,r + 1 < i->LvF A r
def Aq4 (n:Nat) (A:Nat->Nat->Int) (r:List (List Int) × Bool):Prop:=
  (r=([],false)/\AUh A n/\AV0 A n)∨
  (∃ i j,j < i/\i < n/\¬ SzF A i j/\AUh A i/\(∀ l,l < i->j < l->SzF A i l)/\AV0 A i/\r=(tab n n (AYz A i j),true))∨
  ∃ j,j + 1 < n/\¬ LvF A j/\AUh A (j + 2)/\AV0 A (j + 1)/\r=(tab n n (AMw dl (j + 1) j),true)
theorem Av8 {fuel n:Nat} {A:Nat->Nat->Int} (Ai:1<=n) (hn:n<=8) (hp:ARy n A) (hb:∀ i j,i < n->j < n->(A i j).natAbs<=AMs) (hf:AL1 < fuel):Ok (ANd fuel (tab n n A)) (Aq4 n A):=by
 have Ac:100 < fuel:=Nat.lt_of_le_of_lt (by decide) hf;have hD:=Ahz;unfold ANd;refine AHt (AIx (Aa0 Ai hn hb Ac)) fun x hx=>?_;subst hx;dsimp only;rw [AJk];refine AHt (AIx (Aln Ai (by omega) Ac)) fun x hx=>?_;subst hx;dsimp only;refine AHt (AJa (fun i s=>s=(((i:Nat):Int),tab n n dl)/\i<=n/\AUh A i/\AV0 A i) n (Q:=fun ex=>match ex with | .inl r=>Aq4 n A r | .inr _=>AUh A n/\AV0 A n) ⟨rfl,Nat.zero_le _,fun r l h1 h2=>by omega,fun r h=>by omega⟩ (by omega) fun i s hi hI=>?_) fun ex hex=>?_
 ·obtain ⟨rfl,hin,hsz,hlv⟩:=hI;unfold APq;dsimp only;rw [AJk];refine AIb (fun h=>?_) (fun h=>AHu ?_)
  ·have hi':i < n:=by omega
   refine AHt (AJa (fun k s=>s=((i:Int) - 1 - k,tab n n dl)/\k<=i/\ ∀ l,l < i->i<=l + k->SzF A i l) i (Q:=fun ex=>match ex with | .inl r=>Aq4 n A r | .inr e=>e=tab n n dl/\ ∀ l,l < i->SzF A i l) ⟨by rw [AIg (by omega) (by omega)];simp,Nat.zero_le _,fun l h1 h2=>by omega⟩ (by omega) fun k s hk hK=>?_) fun ex hex=>?_
   ·obtain ⟨rfl,hki,hz⟩:=hK;unfold APp;dsimp only;refine AIb (fun h2=>?_) (fun h2=>AHu ⟨rfl,fun l hl=>hz l hl (by omega)⟩);obtain ⟨j,hj⟩:∃ j:Nat,(i:Int) - 1 - k=j:=⟨i - 1 - k,by omega⟩;rw [hj];have hji:j < i:=by omega
    refine AHt (AIx (Alh hn hi' (by omega) hb Ac)) fun b Ag=>?_;subst Ag;refine AIb (fun h3=>?_) (fun h3=>AHu ⟨by omega,?_,by omega,fun l h4 h5=>?_⟩)
    ·have hbad: ¬ SzF A i j:=fun h=>by rw [<- Ab5] at h;simp [h] at h3
     refine AIe (AJn (by omega)) rfl (AHt (AIx (Adi hn hi' (by omega) hb Ac)) fun l hl=>?_);subst hl;rw [show w64 ((j:Int) + 1)=((j + 1:Nat):Int) by rw [AIg (by omega) (by omega)];omega];refine AHt (AIx (AX5 (by omega) hn)) fun d hd=>?_;subst hd;have bl:(Mn j A i j).natAbs<=dBd AMs (8 + 1):=Adj hn hi' (by omega) (by omega) hb;have b1:(det (j + 1) A).natAbs<=dBd AMs (8 + 1):=AXm hn (by omega) hb;have hd:=hp (j + 1) (by omega);have hDD:dBd AMs (8 + 1)<=dBd AMs (8 + 1) * dBd AMs (8 + 1):=Nat.le_mul_of_pos_left _ (by omega);refine AHt (Av6 (by omega) (by omega) (by omega) hf) fun q hq=>?_;obtain ⟨x,y⟩:=q;obtain ⟨q1,q2,q3,q4⟩:=hq;dsimp only at q1 q2 q3 q4 ⊢;refine AHt (Av7 (by omega) q1 hf) fun m hm=>AHt (AIx (a:= -m) rfl) fun c hc=>?_
     have Ap:c=AVz A i j:=by
       rw [hc,hm]
       unfold AVz
       congr 1
       refine Ahy (by omega) (by omega) ?_
       grind
     clear hm hc;refine AIe (AIz hi') rfl (AHu (.inr (.inl ⟨i,j,hji,hi',hbad,hsz,fun l h4 h5=>hz l h4 (by omega),hlv,?_⟩)));rw [AKd,AKd,AMo,Ap,show (ALa n fun q=>if q=i then AVz A i j else dl j q)=(List.range n).map fun q=>if q=i then AVz A i j else dl j q from rfl,ARn];rfl
    ·rw [AIg (by omega) (by omega)];refine congrArg (fun z=>(z,tab n n dl)) ?_;omega
    ·have hgood:SzF A i j:=by rw [<- Ab5];simpa using h3
     rcases Nat.lt_or_ge (l + k) i with h6 | h6
     ·obtain rfl:l=j:=by omega
      exact hgood
     ·exact hz l h4 h6
   ·cases ex with
    | inl r=>exact AHu hex
    | inr e=>
      obtain ⟨rfl,hzi⟩:=hex
      have hsz':AUh A (i + 1):=fun r l h1 h2=>by
        rcases Nat.lt_or_ge r i with h3 | h3
        · exact hsz r l h1 h3
        · obtain rfl:r=i:=by omega
          exact hzi l h1
      dsimp only
      have nx:w64 ((i:Int) + 1)=((i + 1:Nat):Int):=by rw [AIg (by omega) (by omega)];omega
      refine AIb (fun h4=>?_) (fun h4=>AHu ⟨by omega,by rw [nx],by omega,hsz',fun r hr=>by omega⟩)
      obtain ⟨j,rfl⟩:∃ j,i=j + 1:=⟨i - 1,by omega⟩
      refine AHt (Ah0 hn hi' hb Ac) fun b Ag=>?_
      refine AIb (fun h5=>?_) (fun h5=>AHu ⟨by omega,by rw [nx],by omega,hsz',fun r hr=>?_⟩)
      · have hbad: ¬ LvF A j:=fun h=>by rw [Ag.2 h] at h5;cases h5
        rw [show w64 (((j + 1:Nat):Int) - 1)=(j:Int) by rw [AIg (by omega) (by omega)];omega]
        refine AIe (AJn (by omega)) rfl (AIe (AJn hi') rfl (AHu (.inr (.inr ⟨j,hi',hbad,hsz',hlv,?_⟩))))
        rw [AKd,AKd,show ALa n (dl j)=(List.range n).map (dl j) from rfl,show ALa n (dl (j + 1))=(List.range n).map (dl (j + 1)) from rfl,ARn,ARn]
        rfl
      · have hgood:LvF A j:=Ag.1 (by simpa using h5)
        rcases Nat.lt_or_ge r j with h6 | h6
        · exact hlv r (by omega)
        · obtain rfl:r=j:=by omega
          exact hgood
  ·obtain rfl:i=n:=by omega
   exact ⟨hsz,hlv⟩
 ·cases ex with
  | inl r=>exact AHu hex
  | inr u=>exact AHu (.inl ⟨rfl,hex⟩)
end Go.Proofs.YtmmckalinicpaaaGreatDoor
namespace Go.QF
open Go
structure Jd (n K:Nat) (p:Int) (e:Nat->Nat) (a D:Nat->Nat->Int):Prop where
  asc:∀ i j,i<=j->j < n->e i<=e j
  lt:∀ i,i < n->e i < K
  ent:∀ i j,i < n->j < n->Eqm (p ^ K) (D i j) (p ^ e i * a i j)
  blk:∀ i j,i < n->j < n->e i≠e j->a i j=0
  sym:∀ i j,i < n->j < n->a i j=a j i
  inv:∃ (c:Nat->Nat->Int) (u:Nat->Int),(∀ i k,i < n->k < n->e i≠e k->c i k=0)/\(∀ i,i < n->¬ p ∣ u i)/\ ∀ i j,i < n->j < n->AJr (fun k=>c i k * a k j) n=u i * dl i j
theorem Ah1 (c:Int) (f:Nat->Int) (n:Nat):c * AJr f n=AJr (fun i=>c * f i) n:=(AMx c f n).symm
theorem Ajw (c:Int) (f:Nat->Int) (n:Nat):AJr f n * c=AJr (fun i=>f i * c) n:=by
 rw [Int.mul_comm,Ah1];exact AIu fun k _=>Int.mul_comm _ _
section
variable {n K:Nat} {p:Int} {e f:Nat->Nat} {a b D D' S:Nat->Nat->Int}
theorem AWn {A B C:Nat->Nat->Int} (i j:Nat):ALn n (ALn n A B) C i j=ALn n A (ALn n B C) i j:=by
 unfold ALn;rw [AIu (g:=fun k=>AJr (fun l=>A i l * B l k * C k j) n) fun k _=>Ajw _ _ _,Aen]
 exact AIu fun l _=>by
   rw [Ah1]
   exact AIu fun k _=>by grind
end
end Go.QF
namespace Go.Proofs.YtmmckalinicpaaaGreatDoor
open Go Go.QF
set_option maxRecDepth 100000
theorem Aq5 {S E:Type} {body:S->Option (S ⊕ E)} {Q:E->Prop} (I:Nat->S->Prop) (hs:∀ k s,I k s->Ok (body s) fun r=>match r with | .inl s'=> ∃ k',k' < k/\I k' s' | .inr e=>Q e):∀ {fuel k:Nat} {s0:S},I k s0->k < fuel->Ok (iter body fuel s0) Q:=by
  intro fuel;induction fuel with
  | zero=>intro k s0 _ h;omega
  | succ f ih=>
    intro k s0 h0 hf;obtain ⟨r,hr,hq⟩:=hs k s0 h0;cases r with
    | inl s'=>
      obtain ⟨k',h1,h2⟩:=hq;obtain ⟨e,he,hQ⟩:=ih h2 (by omega);exact ⟨e,by simp [iter,hr,he],hQ⟩
    | inr e=>exact ⟨e,by simp [iter,hr],hq⟩
theorem Ah2 {n i j s:Nat} {A:Nat->Nat->Int} (hj:j < i) (hi:i < n) (hs:s < n) (X:Nat->Int):AJr (fun k=>X k * AYz A i j k s) n=X s + if s=i then AVz A i j * X j else 0:=by
 have h1:∀ k,X k * AYz A i j k s=X k * dl k s + (if k=j then (if s=i then AVz A i j * X j else 0) else 0):=fun k=>by
   unfold AYz
   rw [AI2]
   split
   · next h=>
     subst h
     split
     · next h2=>subst h2;unfold dl;rw [if_neg (by omega)];grind
     · simp
   · simp
 rw [AIu fun k _=>h1 k,ARx,Af0 X hs,AVy (a:=j) (by omega) fun k _ hk=>if_neg hk,if_pos rfl]
theorem Ah3 {n i j r s:Nat} {A:Nat->Nat->Int} (hj:j < i) (hi:i < n) (hr:r < n) (hs:s < n):ALn n (ALn n (trF (AYz A i j)) A) (AYz A i j) r s=AZ0 A i j (AVz A i j) r s:=by
 have h2:∀ k,ALn n (trF (AYz A i j)) A r k=A r k + if r=i then AVz A i j * A j k else 0:=fun k=>by
   show AJr (fun l=>AYz A i j l r * A l k) n=_
   rw [AIu (g:=fun l=>A l k * AYz A i j l r) fun l _=>Int.mul_comm _ _]
   exact Ah2 hj hi hr fun l=>A l k
 show AJr (fun k=>ALn n (trF (AYz A i j)) A r k * AYz A i j k s) n=_;rw [Ah2 hj hi hs fun k=>ALn n (trF (AYz A i j)) A r k];rw [h2,h2,Ab4];split <;> split <;> first | (subst_vars;grind) | grind
theorem Agb (j k s:Nat):AMw dl (j + 1) j k s=dl (tau j k) s:=by
 rw [AR9];unfold tau;split
 ·next h=>subst h;rfl
 ·split <;> rfl
theorem Alp (j k:Nat):tau j (tau j k)=k:=by unfold tau;split <;> (try split) <;> (try split) <;> omega
theorem Av9 {j k n:Nat} (hj:j + 1 < n) (hk:k < n):tau j k < n:=by unfold tau;split <;> (try split) <;> omega
theorem Alq {n j s:Nat} (hj:j + 1 < n) (hs:s < n) (X:Nat->Int):AJr (fun k=>X k * AMw dl (j + 1) j k s) n=X (tau j s):=by
 rw [AVy (a:=tau j s) (Av9 hj hs) fun k hk hne=>?_]
 ·rw [Agb,Alp];unfold dl;rw [if_pos rfl];simp
 ·rw [Agb];unfold dl;rw [if_neg (fun h=>hne (by rw [<- h,Alp]))];simp
theorem Alr {n j r s:Nat} {A:Nat->Nat->Int} (hj:j + 1 < n) (hr:r < n) (hs:s < n):ALn n (ALn n (trF (AMw dl (j + 1) j)) A) (AMw dl (j + 1) j) r s=swA A j r s:=by
 show AJr (fun k=>ALn n (trF (AMw dl (j + 1) j)) A r k * AMw dl (j + 1) j k s) n=_;rw [Alq hj hs fun k=>ALn n (trF (AMw dl (j + 1) j)) A r k];show AJr (fun l=>AMw dl (j + 1) j l r * A l (tau j s)) n=_;rw [AIu (g:=fun l=>A l (tau j s) * AMw dl (j + 1) j l r) fun l _=>Int.mul_comm _ _];exact Alq hj hr fun l=>A l (tau j s)
theorem AWo {n:Nat} {A A' B B':Nat->Nat->Int} {i j:Nat} (hA:∀ k,k < n->A i k=A' i k) (hB:∀ k,k < n->B k j=B' k j):ALn n A B i j=ALn n A' B' i j:=AIu fun k hk=>by rw [hA k hk,hB k hk]
theorem Atn {n:Nat} {T U:Nat->Nat->Int} (i j:Nat):trF (ALn n T U) i j=ALn n (trF U) (trF T) i j:=AIu fun k _=>Int.mul_comm _ _
def Ajx (n:Nat) (A0 T A:Nat->Nat->Int):Prop:= ∀ i j,i < n->j < n->A i j=ALn n (trF T) (ALn n A0 T) i j
theorem Aew {n:Nat} {A0 T A U B:Nat->Nat->Int} (H:Ajx n A0 T A) (K:∀ i j,i < n->j < n->ALn n (ALn n (trF U) A) U i j=B i j):Ajx n A0 (ALn n T U) B:=fun i j hi hj=>by
  rw [<- K i j hi hj,AWn]
  have h1:ALn n (trF U) (ALn n A U) i j=ALn n (trF U) (ALn n (trF T) (ALn n A0 (ALn n T U))) i j:=by
    refine AWo (fun _ _=>rfl) fun k hk=>?_;rw [AWo (A':=ALn n (trF T) (ALn n A0 T)) (fun l hl=>H k l hk hl) (fun _ _=>rfl),AWn];refine AWo (fun _ _=>rfl) fun l hl=>?_;rw [AWn]
  rw [h1,<- AWn];exact AWo (fun k _=>(Atn i k).symm) fun _ _=>rfl
theorem Ato {n:Nat} {A:Nat->Nat->Int}:Ajx n A dl A:=fun i j hi hj=>by
  show _=AJr (fun k=>dl k i * ALn n A dl k j) n
  rw [AIu (g:=fun k=>ALn n A dl k j * dl k i) fun k _=>Int.mul_comm _ _,Af0 (fun k=>ALn n A dl k j) hi]
  exact (Aqi hj).symm
def dm9:Int:=9 ^ 8
def Atp:Int:=2 ^ 97
theorem Atq {n i t:Nat} {A:Nat->Nat->Int} (hn:n<=8) (h:Af7 n dm9 A i t):∀ k,k < n->A k k<=Atp:=fun k hk=>by
  by_cases e:k=i
  · subst e
    have h1:=Aeu (p:=(2 ^ 7 * (2 * dm9)) * (2 ^ 7 * (2 * dm9))) (q:=1) h.sym h.pos h.hi h.dm (by decide) (by decide) (fun l hl=>by
      have h2:=h.lamb l hl;have h3:(2:Int) ^ t * (2 * dm9)<=2 ^ 7 * (2 * dm9):=Int.mul_le_mul_of_nonneg_right (AZ2 (by have:=h.ht;omega)) (by decide);have h4:=h.pos (l + 1) (by have:=h.hi;omega);have h5:=Int.mul_le_mul_of_nonneg_right h3 (Int.le_of_lt h4);have h6:=AXl (x:=Mn l A k l) (y:=2 ^ 7 * (2 * dm9) * det (l + 1) A) (by omega) (by omega);rw [Int.one_mul];refine Int.le_trans h6 (Int.le_of_eq ?_);grind) k 0 (by omega)
    rw [ASo,show det 0 A=1 from rfl,Int.one_mul] at h1
    have h7:(1 + (k:Int) * ((2 ^ 7 * (2 * dm9)) * (2 ^ 7 * (2 * dm9)))) * (dm9 * 1)<=(1 + 7 * ((2 ^ 7 * (2 * dm9)) * (2 ^ 7 * (2 * dm9)))) * (dm9 * 1):=by
      refine Int.mul_le_mul_of_nonneg_right ?_ (by decide);have:=Int.mul_le_mul_of_nonneg_right (show (k:Int)<=7 by omega) (show (0:Int)<=(2 ^ 7 * (2 * dm9)) * (2 ^ 7 * (2 * dm9)) by decide);omega
    exact Int.le_trans h1 (Int.le_trans h7 (by decide))
  · exact Int.le_trans (h.rows k hk e) (by decide)
theorem Ah4 {n:Nat} {A:Nat->Nat->Int} {B:Int} (hs:AQg n A) (hp:ARy n A) (hB:∀ k,k < n->A k k<=B) {i j:Nat} (hi:i < n) (hj:j < n): -B<=A i j/\A i j<=B:=by
 have h1:=Aax (k:=0) hs hp (Nat.zero_le _) hi hj;simp only [ASo] at h1;have p1:=Aay (k:=0) hs hp (Nat.zero_le _) hi;have p2:=Aay (k:=0) hs hp (Nat.zero_le _) hj;simp only [ASo] at p1 p2;have h2:=Int.mul_le_mul (hB i hi) (hB j hj) p2 (Int.le_trans p1 (hB i hi));exact Ahs (Int.le_trans p1 (hB i hi)) (Int.le_trans h1 h2)
theorem Als {n:Nat} {A:Nat->Nat->Int} {B:Int} (hs:AQg n A) (hp:ARy n A) (hB:∀ k,k < n->A k k<=B) {i j:Nat} (hi:i < n) (hj:j < n):(A i j).natAbs<=B.natAbs:=by
 have:=Ah4 hs hp hB hi hj;omega
def Aex:Nat:=(2 ^ 240) ^ 5
theorem Ah5:16 * (Aex * Aex) < AL1:=by decide
def Aey:Nat:=(2 ^ 220) ^ 5
theorem Ax3 {n:Nat} {A0 A T:Nat->Nat->Int} (hn:n<=8) (hE:∀ i j,(A0 i j).natAbs<=2 ^ 40) (hs:AQg n A0) (hp:ARy n A0) (H:Ajx n A0 T A) (hB:∀ k,k < n->A k k<=Atp) {k s:Nat} (hk:k < n) (hs2:s < n):(T k s).natAbs<=Aey:=by
  have h1:=Ath hs hp (fun r=>T r s) hk
  have h2:bil n 0 A0 (fun r=>T r s) (fun r=>T r s)=A s s:=by
    rw [H s s hs2 hs2];show _=AJr (fun i=>T i s * AJr (fun j=>A0 i j * T j s) n) n;unfold bil;refine AIu fun i _=>?_;rw [<- AMx];exact AIu fun j _=>by rw [ASo];grind
  rw [h2] at h1
  have h3:(Adg n A0 k k).natAbs<=dBd (2 ^ 40) 9:=by
    refine Nat.le_trans (Ab2 (m:=2 ^ 40) fun i j=>?_) (AUf (by decide) (by omega));rw [AI2]
    split
    · unfold dl;split <;> decide
    · exact hE i j
  have h4:Adg n A0 k k * A s s<=(dBd (2 ^ 40) 9:Nat) * Atp:=by
    have p0:0<=A s s:=by
      have:A s s=bil n 0 A0 (fun r=>T r s) (fun r=>T r s):=h2.symm;rw [this];exact AUg hs hp _ n 0 (by omega)
    have b1:Adg n A0 k k<=(dBd (2 ^ 40) 9:Nat):=by omega
    have b2:=Int.mul_le_mul_of_nonneg_right b1 p0;have b3:=Int.mul_le_mul_of_nonneg_left (hB s hs2) (show (0:Int)<=(dBd (2 ^ 40) 9:Nat) by omega);omega
  have h5:((dBd (2 ^ 40) 9:Nat):Int) * Atp<=(Aey:Int) * (Aey:Int):=by decide
  have h6:=Ahs (x:=T k s) (y:=(Aey:Int)) (by omega) (Int.le_trans (Int.le_trans h1 h4) h5);omega
structure Ad2 (n:Nat) (A:Nat->Nat->Int):Prop where
  sym:AQg n A
  pos:ARy n A
  sz:AUh A n
  lv:AV0 A n
  dt:det n A<=10000
structure RSt (n:Nat) (A0 A T:Nat->Nat->Int) (i t:Nat):Prop where
  inv:Af7 n dm9 A i t
  car:Ajx n A0 T A
  dt:det n A=det n A0
def Ayv (n:Nat) (A0:Nat->Nat->Int) (k:Nat) (s:List (List Int) × List (List Int)):Prop:=
  ∃ A T i t,RSt n A0 A T i t/\s=(tab n n A,tab n n T)/\k=(Ahx n A).toNat * 128 + (128 - (16 * i + t))
theorem Alu {n:Nat} {A:Nat->Nat->Int} (hp:ARy n A):0<=Ahx n A:=by
 have:∀ m,m<=n + 1->0<=AJr (fun k=>det k A) m:=fun m=>by
   induction m with
   | zero=>intro _;exact Int.le_refl _
   | succ m ih=>intro h;have h1:=ih (by omega);have h2:=hp m (by omega);simp only [AJr];omega
 exact this _ (Nat.le_refl _)
theorem Atr {n:Nat} {A:Nat->Nat->Int} (hd:∀ k,k<=n->det k A<=dm9):Ahx n A<=(n + 1:Nat) * dm9:=by
 have:∀ m,m<=n + 1->AJr (fun k=>det k A) m<=(m:Nat) * dm9:=fun m=>by
   induction m with
   | zero=>intro _;simp [AJr]
   | succ m ih=>intro h;have h1:=ih (by omega);have h2:=hd m (by omega);simp only [AJr];rw [Int.natCast_add,Int.add_mul];omega
 exact this _ (Nat.le_refl _)
theorem Anb {n i j:Nat} {A:Nat->Nat->Int} (hn:n<=8) (hj:j < i) (hi:i < n) (hp:ARy n A) (hb:∀ i j,i < n->j < n->(A i j).natAbs<=AMs):(AVz A i j).natAbs<=3 * dBd AMs 9:=by
 have b1:(Mn j A i j).natAbs<=dBd AMs 9:=Adj hn hi (by omega) (by omega) hb;have b2:(det (j + 1) A).natAbs<=dBd AMs 9:=AXm hn (by omega) hb;have hd:=hp (j + 1) (by omega);unfold AVz;rw [Int.natAbs_neg];have:=Int.natAbs_ediv_le_natAbs (2 * Mn j A i j + det (j + 1) A) (2 * det (j + 1) A);omega
theorem Anc {fuel n:Nat} {A0:Nat->Nat->Int} (Ac:1<=n) (hn:n<=8) (hs:AQg n A0) (hp:ARy n A0) (hE:∀ i j,(A0 i j).natAbs<=2 ^ 40) (hD:∀ k,k<=n->det k A0<=dm9) (hr:∀ k,k < n->A0 k k<=3 * dm9) (hdt:det n A0<=10000) (hf:AL1 < fuel):
    Ok (AMn fuel (tab n n A0)) fun r=> ∃ A T,r=(tab n n A,tab n n T,0)/\Ad2 n A/\Ajx n A0 T A/\det n A=det n A0/\ ∀ k,k < n->A k k<=3 * dm9:=by
 have Ad:100 < fuel:=Nat.lt_of_le_of_lt (by decide) hf;have Av:100000000 < fuel:=Nat.lt_of_le_of_lt (by decide) hf;have Ak:∀ i j,i < n->j < n->(A0 i j).natAbs<=AMs:=fun i j _ _=>Nat.le_trans (hE i j) (by decide);unfold AMn;refine AHt (AYy Ac hn Ak Ad) fun v hv=>?_;have Ap:=hv.2 ⟨hs,hp⟩;subst Ap;refine AIb (fun h=>absurd rfl h) fun _=>AHt (AIx (Alm hn Ak Ad)) fun b hb=>?_;subst hb;refine AIb (fun h=>by simp [hdt] at h) fun _=>?_;refine AHt (AIx (Alc (A:=tab n n A0) (by rw [AJk];omega) (fun z hz=>by rw [Aco z hz];omega) (by rw [AJk];omega))) fun x hx=>?_;subst hx;rw [AJk];refine AHt (AIx (Aln Ac (by omega) Ad)) fun x hx=>?_;subst hx;dsimp only;refine AHt (Aq5 (Ayv n A0) (Q:=fun r=> ∃ A T,r=(tab n n A,tab n n T,0)/\Ad2 n A/\Ajx n A0 T A/\det n A=det n A0/\ ∀ k,k < n->A k k<=3 * dm9) (fun k s hI=>?_) (k:=(Ahx n A0).toNat * 128 + 128) ⟨A0,dl,0,0,⟨Adh Ac hs hp hD hr,Ato,rfl⟩,rfl,rfl⟩ ?_) fun r hr=>AHu hr
 ·obtain ⟨A,T,i,t,R,rfl,rfl⟩:=hI;have L:=R.inv;have hbd:=Atq hn L;have hb:∀ i j,i < n->j < n->(A i j).natAbs<=AMs:=fun i j hi hj=>Nat.le_trans (Als L.sym L.pos hbd hi hj) (by decide);have hT:∀ k s,k < n->s < n->(T k s).natAbs<=Aey:=fun k s hk Ab=>Ax3 hn hE hs hp R.car hbd hk Ab;have hTD:Aey<=Aex:=by decide
  have hMD:AMs<=Aex:=by decide
  unfold AOs;refine AHt (Av8 Ac hn L.pos hb hf) fun r hr=>?_
  have prod:∀ {U:Nat->Nat->Int},(∀ i j,i < n->j < n->(U i j).natAbs<=3 * dBd AMs 9)->(AKw fuel (tab n n A) (tab n n U)=some (tab n n (ALn n (ALn n (trF U) A) U))/\AJu fuel (tab n n T) (tab n n U)=some (tab n n (ALn n T U))):=fun {U} hU=>by
    have Am:∀ i j,i < n->j < n->(U i j).natAbs<=Aex:=fun i j hi hj=>Nat.le_trans (hU i j hi hj) (by decide)
    refine ⟨Atm Ac (by omega) Ah5 (fun i j hi hj=>Nat.le_trans (hb i j hi hj) hMD) Am (fun i j hi hj=>?_) Ad,?_⟩
    · have h1:=psum_abs (f:=fun l=>U l i) (g:=fun l=>A l j) (D:=3 * dBd AMs 9) n fun l hl=>⟨hU l i hl hi,Nat.le_trans (hb l j hl hj) (by decide)⟩
      have h2:n * ((3 * dBd AMs 9) * (3 * dBd AMs 9))<=8 * ((3 * dBd AMs 9) * (3 * dBd AMs 9)):=Nat.mul_le_mul_right _ hn
      have h3:(ALn n (trF U) A i j).natAbs=(AJr (fun l=>U l i * A l j) n).natAbs:=rfl
      have h4:∀ l,l < n->(U l i).natAbs<=3 * dBd AMs 9/\(A l j).natAbs<=AMs:=fun l hl=>⟨hU l i hl hi,hb l j hl hj⟩
      have h5:(AJr (fun l=>U l i * A l j) n).natAbs<=n * (3 * dBd AMs 9 * AMs):=by
        refine QF.psum_abs fun l hl=>?_
        rw [Int.natAbs_mul]
        exact Nat.mul_le_mul (h4 l hl).1 (h4 l hl).2
      have h6:n * (3 * dBd AMs 9 * AMs)<=8 * (3 * dBd AMs 9 * AMs):=Nat.mul_le_mul_right _ hn
      have h7:8 * (3 * dBd AMs 9 * AMs)<=Aex:=by decide
      rw [h3]
      exact Nat.le_trans h5 (Nat.le_trans h6 h7)
    · unfold AJu
      rw [Aq1 Ac (by omega) Ah5 (fun i j hi hj=>Nat.le_trans (hT i j hi hj) hTD) Am Ad]
      rfl
  rcases hr with ⟨rfl,hsz,hlv⟩ | ⟨i',j,hji,hi',hbad,hsz,hzi,hlv,rfl⟩ | ⟨j,hj,hbad,hsz,hlv,rfl⟩
  ·dsimp only;refine AIb (fun _=>?_) (fun h=>absurd rfl h);have hrest:=AX4 hn L fun l hl=>hsz i l hl L.hi;refine AHt (AIx (Ax0 Ac (by omega) (fun i j hi hj=>Nat.lt_of_le_of_lt (Als L.sym L.pos hrest hi hj) (by decide)) Ad)) fun x hx=>AHu ?_;subst hx;exact ⟨A,T,rfl,⟨L.sym,L.pos,hsz,hlv,by rw [R.dt];exact hdt⟩,R.car,R.dt,hrest⟩
  ·dsimp only;refine AIb (fun h=>absurd h (by decide)) fun _=>?_
   have hU:∀ r s,r < n->s < n->(AYz A i' j r s).natAbs<=3 * dBd AMs 9:=fun r s hr Ab=>by
     have hdl:∀ a b,(dl a b).natAbs<=3 * dBd AMs 9:=fun a b=>by unfold dl;split <;> decide
     unfold AYz
     rw [AI2]
     split
     · split
       · exact Anb hn hji hi' L.pos hb
       · exact hdl _ _
     · exact hdl _ _
   obtain ⟨e1,e2⟩:=prod hU;refine AHt (AIx e1) fun x hx=>AHt (AIx e2) fun y hy=>AHu ?_;subst hx;subst hy;obtain ⟨L2,hm⟩:=Am9 hn L hi' hji hbad hsz hzi hlv;have hsum:Ahx n (AZ0 A i' j (AVz A i' j))=Ahx n A:=AIu fun k _=>AS4 hji;refine ⟨_,?_,AZ0 A i' j (AVz A i' j),ALn n T (AYz A i' j),i',i' - j,⟨L2,Aew R.car fun r s hr Ab=>Ah3 hji hi' hr Ab,by rw [AS4 hji];exact R.dt⟩,?_,rfl⟩
   ·rw [hsum];have:=L.hi;have:=L.ht;omega
   ·rw [ASp fun r s hr Ab=>Ah3 hji hi' hr Ab]
  ·dsimp only;refine AIb (fun h=>absurd h (by decide)) fun _=>?_
   have hU:∀ r s,r < n->s < n->(AMw dl (j + 1) j r s).natAbs<=3 * dBd AMs 9:=fun r s hr Ab=>by
     rw [Agb];unfold dl;split <;> decide
   obtain ⟨e1,e2⟩:=prod hU;refine AHt (AIx e1) fun x hx=>AHt (AIx e2) fun y hy=>AHu ?_;subst hx;subst hy;obtain ⟨L2,hm⟩:=Ana hn L hj hbad (fun r l h1 h2=>hsz r l h1 (by omega)) fun r hr=>hlv r (by omega);refine ⟨_,?_,swA A j,ALn n T (AMw dl (j + 1) j),0,0,⟨L2,Aew R.car fun r s hr Ab=>Alr hj hr Ab,by rw [Ale (by omega)];exact R.dt⟩,?_,rfl⟩
   ·have h1:=Alu L.pos;have h2:=Alu L2.pos;have:=L.hi;have:=L.ht;omega
   ·rw [ASp fun r s hr Ab=>Alr hj hr Ab]
 ·have h1:=Atr hD;have h2:((n + 1:Nat):Int) * dm9<=9 * dm9:=Int.mul_le_mul_of_nonneg_right (by omega) (by decide);have h3:(9 * dm9)=387420489:=by decide
  have h4:387420489 * 128 + 128 < AL1:=by decide
  omega
end Go.Proofs.YtmmckalinicpaaaGreatDoor
namespace Go.Proofs.YtmmckalinicpaaaGreatDoor
open Go Go.QF
theorem Ats:FdT Tryz.prog 24 0 0 5:=⟨_,_,Tryz.underlying24,rfl,rfl,rfl⟩
theorem Att:FdT Tryz.prog 24 1 1 5:=⟨_,_,Tryz.underlying24,rfl,rfl,rfl⟩
theorem Atu:FdT Tryz.prog 24 2 2 22:=⟨_,_,Tryz.underlying24,rfl,rfl,rfl⟩
theorem Aq6:AgT Tryz.prog 24 4:=Afa Tryz.underlying24 rfl (by kernel_rfl)
end Go.Proofs.YtmmckalinicpaaaGreatDoor
