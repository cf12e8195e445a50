/-
  Texts of a proof, joined. Conditions stand in each statement.
-/
import Derived.Test.YtiegjkmfpcgjjaaGreatDoorMLineSorted5
set_option linter.unusedVariables false
set_option linter.unusedSimpArgs false
namespace Go.Proofs.YtiegjkmfpcgjjaaGreatDoor
open Go Go.QF
set_option maxRecDepth 100000
set_option maxHeartbeats 4000000
noncomputable def AG4 (fuel:Nat) (Ab:LiI) (Ac:Int) (Ae:LiA) (Aa:Int):Option ((Int) ⊕ ((Int))):=
  (((if Aa < (Ae.length:Int) then ((gI Ab (w64 (Ac - 1))).bind fun Ad=>(if Aa < (Ad.length:Int) then ((gI Ab Ac).bind fun Af=>((gI Af Aa).bind fun Ag=>((gI Ad Aa).bind fun Ah=>(if Ag=Ah then (some (Sum.inl <| ())) else (some (Sum.inr <| ())))))) else (some (Sum.inr <| ())))) else (some (Sum.inr <| ()))):Option ((Unit) ⊕ (Unit))).bind (fun ex=>match ex with | Sum.inl _=>(some (Sum.inl (w64 (Aa + 1)))) | Sum.inr (_)=>(some (Sum.inr<| Aa))))
noncomputable def AG5 (fuel:Nat) (Af:LiI) (Ag:Int) (Ab:LiI) (Aa:Int):Option ((Int) ⊕ ((Bool) ⊕ (Unit))):=
  (if Aa < (Ab.length:Int) then ((gI Ab Aa).bind fun Ad=>((((AQv fuel Af Ag Ad).bind fun (Ah,Ai)=>(if (!Ah)=true then (some (Sum.inl <| false)) else (if ¬ Ai=0 then (some (Sum.inl <| false)) else (some (Sum.inr <| ()))))):Option ((Bool) ⊕ (Unit))).bind (fun ex=>match ex with | Sum.inl Aj=>(some (Sum.inr<| Sum.inl <| Aj)) | Sum.inr (_)=>(if Aa=0 then (some (Sum.inl (w64 (Aa + 1)))) else ((((iter (fun s=>AG4 fuel Ab Aa Ad s) fuel 0).bind (fun (Ak:Int)=>(some ( Ak)))):Option ((Int))).bind (fun (Ac:Int)=>(if (Ad.length:Int)<=Ac then (some (Sum.inr<| Sum.inl <| false)) else ((gI Ab (w64 (Aa - 1))).bind fun Ae=>(if (Ae.length:Int)<=Ac then (some (Sum.inr<| Sum.inl <| false)) else ((gI Ae Ac).bind fun Am=>((gI Ab Aa).bind fun Ao=>((gI Ao Ac).bind fun Ap=>(if Ap<=Am then (some (Sum.inr<| Sum.inl <| false)) else (some (Sum.inl (w64 (Aa + 1))))))))))))))))) else (some (Sum.inr<| Sum.inr <| ())))
noncomputable def AF4 (fuel:Nat) (a1 a2:Int) (a5 a9:LiA) (Ah:Int):Option Bool:=
  ((AEz fuel a1 a2 a5 a9 5).bind fun Aa=>((AFg fuel Aa Ah).bind fun Ab=>((AHv fuel Aa Ab).bind fun Ai=>(if (!Ai)=true then ((AEx fuel).bind fun Aj=>(some Aj)) else ((AI5 fuel Aa Ab).bind fun (Ac,Ak)=>((AG2 fuel Aa Ab).bind fun (Am,Ao)=>((iter (fun s=>AG5 fuel Aa Ab Ac s) fuel 0).bind (fun ex=>match ex with | Sum.inl Ap=>(some Ap) | Sum.inr (_)=>(if Ak=0 then (if Ao=0 then (if (Ac.length:Int)=Am then ((AEx fuel).bind fun Aq=>(some Aq)) else (some false)) else (some false)) else (some false))))))))))
theorem ANr {fuel:Nat} {h:ABh} {a1 a2:Int} {Au:Value} {a5:LiA} {Av:Value} {a9:LiA} {Bt:Int} {r:Bool} (H4:SlC (cI .i8) h Au a5) (H8:SlC (cI .i8) h Av a9) (HO:AT2 h) (hp:AF4 fuel a1 a2 a5 a9 Bt=some r):ACd Tryz.prog 8 #[(.agg #[(.int .u8 a1),(.int .u8 a2),Au,Av]),(.int .u8 Bt)] h (fun x h'=>Ext h h'/\x= .bool r):=by
 unfold AF4 at hp;refine cwf (l:=[_,_]) Tryz.func8 rfl rfl (ABj (AHz [(.int .u8 a1),(.int .u8 a2),Au,Av] trivial tt2 rfl rfl fun Fi Fj Co Cp Cq=>ACu ?_));have Aw:=(Kst.k0 h).nb Cp Cq Co;refine AGz [(.int .u8 a1),(.int .u8 a2),Au,Av] An7 rfl rfl (Aw.b p0).agg ?_;obtain ⟨Fk,Cr,Ct⟩:=ABl hp;refine AC4 rfl (AM7 (H4.ext Aw.x) (H8.ext Aw.x) Cr) fun Fl Fm Cu Cv=>?_;obtain ⟨Fo,Fp,Fq,Fr,rfl,Cw,Cx⟩:=Cv;refine ACu (Wk (Wk ?_));have Bu:=Aw.no2 Cu Cx Cw;obtain ⟨Ft,Cy,Cz⟩:=ABl Ct;refine AC4 rfl (AN9 (Bu.o2 p0).rd Cy) fun Fu Fv C0 C1=>?_;subst C1;refine ABp (ABm (ABj (Wk (Wk ?_))));have Bv:=Bu.e C0;obtain ⟨Fw,C2,Bw⟩:=ABl Cz;refine AC4 rfl (ARv (Bv.o2 p0).rd C2) fun Fx Fy C3 C4=>?_;subst C4;refine AGr rfl (ABo ?_);have Aj:=Bv.e C3;refine ⟨_,rfl,fun Be=>?_,fun Be=>?_⟩
 ·refine ABj ?_;obtain ⟨Fz,C5,C6⟩:=ABl (ifT Bw Be);refine AC4 rfl (ALr (HO.ext Aj.x) C5) fun F4 F5 C7 C8=>?_;subst C8;refine ABp (ABs (AB1 ?_));obtain rfl:=ABk C6;exact ⟨_,ABu,(Aj.e C7).x,rfl⟩
 ·refine ABr (q_t (ABj (Wk (Wk ?_))));obtain ⟨⟨C9,Da⟩,Db,Bx⟩:=ABl (ALo Bw Be);dsimp only at Bx;refine AC4 rfl (AR2 (Aj.o2 p0).rd (HO.ext Aj.x) Db) fun F6 F7 Dc Dd=>?_;obtain ⟨F8,F9,Ga,Gb,rfl,De,Df⟩:=Dd;refine Wk (ADc rfl rfl (ADc rfl rfl (ACg (ACu (Wk (Wk ?_))))));have Bf:=Aj.no2 Dc Df De;obtain ⟨⟨Dg,Dh⟩,Di,By⟩:=ABl Bx;dsimp only at By;refine AC4 rfl (APw (Bf.o2 p1).rd (HO.ext Bf.x) Di) fun Gc Gd Dj Dk=>?_;subst Dk;refine Wk (ADc rfl rfl (ADc rfl rfl (ACg (ABp (ABm (ABj (Wk ?_)))))));have Bz:=Bf.e Dj;refine ADn AB2 rfl (Bz.o2 p0).rd (Wk (ABo (ABq ?_)));obtain ⟨Ae,Dl,Af⟩:=ABl By;obtain ⟨Dn,Do,Dp⟩:=ACl Dl;have Bg:=Bz.sel [0,1] (by decide);dsimp only [AIi,ALa] at Bg;refine ACk 2658455991569831745807613021049124880 (fun x:(Int)=>[(40,(.int .i64 x))]) (fun k x h'=>iter Dn k x=some Ae/\Kst h h' (Bg.L)) (by kernel_rfl) fuel (0:(Int)) ?_ ⟨rfl,trivial⟩ ?_
  ·exact ⟨Dp,Bg⟩
  rintro Ge Ah Gf Gg ⟨Dq,Ac⟩;obtain ⟨B1,Gh,rfl,Ak,Aa⟩:=AB7 Dq;rw [Do] at Ak;dsimp only at Ak;unfold AG5 at Ak;refine ABj (AC1 rfl rfl (ABo (ABm (⟨_,rfl,fun Bh=>?_,fun Bh=>?_⟩))))
  ·refine ABr (q_t (ABm (ABq (ABj (Wk ?_)))));obtain ⟨B2,Ax,Dr⟩:=ABl (AC7 Ak Bh);refine ADi AB2 rfl (Ac.o2 p0) rfl Ax fun Gi Gj Gk Am Ds=>AB4 ACm rfl Ds (ACg (ABp ?_));obtain ⟨Dt,Du,Ay⟩:=ABl Dr;refine ANi 288195191779647504 (fun x:Unit=>[]) (fun x h'=>(Sum.inr <| ())=Dt/\Kst h h' (Ac.L)) ?_ ?_
   ·refine ABj (Wk (Wk (Wk ?_)));obtain ⟨⟨Dv,Gl⟩,Dw,Bi⟩:=ABl Du;dsimp only at Bi;refine AC4 rfl (Acz (Ac.o2 p1).rd ((Ac.o2 p0).rowI Am Ax) (HO.ext Ac.x) Dw) fun Gm Gn Dx Dy=>?_;subst Dy;refine Wk (ADc rfl rfl (ADc rfl rfl (ACg (ACu (Wk (AGr rfl (Wk ?_)))))));have Bj:=Ac.e Dx;cases B3:(!Dv)
    ·refine ACe 54 false (Wk (ACe 54 false (AHe rfl rfl (ABv rfl (ABo ?_)))));have B4:=ALo Bi B3;refine ⟨_,rfl,fun Bl=>?_,fun Bl=>?_⟩
     ·refine ABj (ABp ?_);obtain rfl:=ABk (AC7 B4 Bl);obtain rfl:=ABk Ay;change _=Ae at Aa;subst Aa;refine ABs (AB1 (ADs (AB1 (AB1 (ADs (AB1 ?_))))));obtain rfl:=ABk Af;exact ⟨_,ABu,Bj.x,rfl⟩
     ·refine ABr (q_t ?_);exact ⟨(():Unit),⟨ABk (AC8 B4 Bl),Bj⟩,trivial⟩
    ·refine AGs 54 true (AB0 rfl (ABo (AB6 rfl (ABj (ABp ?_)))));obtain rfl:=ABk (ifT Bi B3);obtain rfl:=ABk Ay;change _=Ae at Aa;subst Aa;refine ABs (AB1 (ADs (AB1 (AB1 (ADs (AB1 ?_))))));obtain rfl:=ABk Af;exact ⟨_,ABu,Bj.x,rfl⟩
   rintro ⟨⟩ Gp Gq ⟨Dz,Az⟩;subst Dz;refine ABm (ABj (Wk (ADt rfl rfl (ABo (⟨_,rfl,fun Bm=>?_,fun Bm=>?_⟩)))))
   ·refine ACc (ACa (ADm (q_t (ABw (AC2 rfl rfl (Wk (ABo ?_)))))));obtain rfl:=ABk (AC7 Ay Bm);exact ⟨B1,((w64 (Ah + 1)):(Int)),Nat.lt_succ_self _,⟨Aa,Az⟩,rfl,trivial⟩
   ·refine ABr (q_t (ABj (ABp ?_)));obtain ⟨D0,D1,B5⟩:=ABl (AC8 Ay Bm);refine ANi 2475880077417839045191434240 (fun x:(Int)=>[(15,(.int .i64 x))]) (fun x h'=>( x)=D0/\Kst h h' (Az.L)) ?_ ?_
    ·refine ABq ?_;obtain ⟨A3,D2,Bn⟩:=ABl D1;obtain ⟨D3,D4,D5⟩:=ACl D2;refine ACk 2475880077417839045191434240 (fun x:(Int)=>[(15,(.int .i64 x))]) (fun k x h'=>iter D3 k x=some A3/\Kst h h' (Az.L)) (by kernel_rfl) fuel (0:(Int)) ?_ ⟨rfl,trivial⟩ ?_
     ·exact ⟨D5,Az⟩
     rintro Gr Ai Gt Gu ⟨D6,Ab⟩;obtain ⟨D7,Gv,rfl,A4,Ag⟩:=AB7 D6;rw [D4] at A4;dsimp only at A4;unfold AG4 at A4;obtain ⟨D8,B6,A5⟩:=ABl A4;refine ANi 618970018489768632842715136 (fun x:Unit=>[]) (fun x h'=>(Sum.inl <| ())=D8/\Kst h h' (Ab.L)) ?_ ?_
     ·refine ABm (AMd (Wk (Wk (AD1 ABx rfl ((Ab.o2 p0).rowI Am Ax) (AC1 rfl rfl (Wk ?_))))));by_cases A6:Ai < (B2.length:Int)
      ·rw [decide_eq_true A6];refine ACe 64 true (Wk (ACe 64 true (Wk (ACe 64 true (Wk (ACe 64 true (AF8 rfl rfl (ACe 64 true ?_))))))));obtain ⟨D9,Ao,B7⟩:=ABl (ifT B6 A6);refine ADi AB2 rfl (Ab.o2 p0) rfl Ao fun Gw Gx Gy Ea Eb=>ACe 64 true (AB4 ACm rfl Eb (ACe 64 true (AD1 ABx rfl ((Ab.o2 p0).rowI Ea Ao) (ACe 64 true (AC1 rfl rfl (AB0 rfl (Wk ?_)))))));by_cases A7:Ai < (D9.length:Int)
       ·rw [decide_eq_true A7];refine ACe 74 true (Wk (ACe 74 true (Wk (ACe 74 true ?_))));obtain ⟨Gz,B8,Ec⟩:=ABl (ifT B7 A7);obtain ⟨G3,B9,Ed⟩:=ABl Ec;refine AEi (m:=Ah) ABx rfl (Ab.o2 p0) Am B8 rfl B9 fun G4 Ee=>ACe 74 true ?_;obtain ⟨G5,Ef,Eg⟩:=(Ab.o2 p0).cells Ee B8 B9;obtain rfl:=Ef;refine AB4 ACr rfl (Eg 0 _ rfl) (ACe 74 true (Wk (ACe 74 true (Wk (ACe 74 true (AF8 rfl rfl (ACe 74 true (ADi AB2 rfl (Ab.o2 p0) rfl Ao fun G6 G7 G8 Eh Ei=>ACe 74 true (AB4 ACm rfl Ei (ACe 74 true (Wk (ACe 74 true ?_))))))))))));obtain ⟨G9,Ca,Cb⟩:=ABl Ed;refine AEi (m:=(w64 (Ah - 1))) ABx rfl (Ab.o2 p0) Eh Ao rfl Ca fun Hb Ej=>ACe 74 true ?_;obtain ⟨Hc,Ek,El⟩:=(Ab.o2 p0).cells Ej Ao Ca;obtain rfl:=Ek;refine AB4 ACr rfl (El 0 _ rfl) (ACe 74 true (ADt rfl rfl (AB0 rfl (ABo (⟨_,rfl,fun Bo=>?_,fun Bo=>?_⟩)))))
        ·refine ABr (q_t ?_);exact ⟨(():Unit),⟨ABk (AC7 Cb Bo),Ab⟩,trivial⟩
        ·obtain rfl:=ABk (AC8 Cb Bo);obtain rfl:=ABk A5;change _=A3 at Ag;subst Ag;refine ACc (ACa (ACa (ADm (q_t ?_))));exact ⟨(Ai:(Int)),⟨ABk Bn,Ab⟩,rfl,trivial⟩
       ·rw [decide_eq_false A7];refine AIx 74 false (AIx 74 false (AJ8 74 false (ABv rfl (ABo (AB9 rfl ?_)))));obtain rfl:=ABk (ifF B7 A7);obtain rfl:=ABk A5;change _=A3 at Ag;subst Ag;refine ACc (ACa (ACa (ADm (q_t ?_))));exact ⟨(Ai:(Int)),⟨ABk Bn,Ab⟩,rfl,trivial⟩
      ·rw [decide_eq_false A6];refine AIx 64 false (AJ8 64 false (ABv rfl (Wk (AIx 74 false (AIx 74 false (AJ8 74 false (ABv rfl (ABo (AB9 rfl ?_)))))))));obtain rfl:=ABk (ifF B6 A6);obtain rfl:=ABk A5;change _=A3 at Ag;subst Ag;refine ACc (ACa (ACa (ADm (q_t ?_))));exact ⟨(Ai:(Int)),⟨ABk Bn,Ab⟩,rfl,trivial⟩
     rintro ⟨⟩ Hd He ⟨Em,En⟩;subst Em;refine ABq (ABw (Wk (AC2 rfl rfl (ACg (ACj (q_b (q_t ?_)))))));obtain rfl:=ABk A5;exact ⟨D7,((w64 (Ai + 1)):(Int)),Nat.lt_succ_self _,⟨Ag,En⟩,rfl,trivial⟩
    rintro Cd Hf Hg ⟨Eo,Ad⟩;subst Eo;refine ABm (AMd (Wk (Wk (AD1 ABx rfl ((Ad.o2 p0).rowI Am Ax) (AL0 rfl rfl (Wk ?_))))));by_cases A8:(B2.length:Int)<=Cd
    ·rw [decide_eq_true A8];refine AIx 95 true (AJ8 95 true (AB0 rfl (Wk (AIx 105 true (AIx 105 true (AJ8 105 true (AB0 rfl (ABo (AB6 rfl (ABj (ABp ?_)))))))))));obtain rfl:=ABk (ifT B5 A8);change _=Ae at Aa;subst Aa;refine ABs (ADs (AB1 (AB1 (ADs (AB1 ?_)))));obtain rfl:=ABk Af;exact ⟨_,ABu,Ad.x,rfl⟩
    ·rw [decide_eq_false A8];refine ACe 95 false (Wk (ACe 95 false (Wk (ACe 95 false (Wk (ACe 95 false (AF8 rfl rfl (ACe 95 false ?_))))))));obtain ⟨Ep,Ap,Ce⟩:=ABl (ifF B5 A8);refine ADi AB2 rfl (Ad.o2 p0) rfl Ap fun Hh Hj Hk Er Es=>ACe 95 false (AB4 ACm rfl Es (ACe 95 false (AD1 ABx rfl ((Ad.o2 p0).rowI Er Ap) (ACe 95 false (AL0 rfl rfl (ABv rfl (Wk ?_)))))));by_cases A9:(Ep.length:Int)<=Cd
     ·rw [decide_eq_true A9];refine AIx 105 true (AIx 105 true (AJ8 105 true (AB0 rfl (ABo (AB6 rfl (ABj (ABp ?_)))))));obtain rfl:=ABk (ifT Ce A9);change _=Ae at Aa;subst Aa;refine ABs (ADs (AB1 (AB1 (ADs (AB1 ?_)))));obtain rfl:=ABk Af;exact ⟨_,ABu,Ad.x,rfl⟩
     ·rw [decide_eq_false A9];refine ACe 105 false (Wk (ACe 105 false (Wk (ACe 105 false (AF8 rfl rfl (ACe 105 false (ADi AB2 rfl (Ad.o2 p0) rfl Ap fun Hl Hm Hn Et Eu=>ACe 105 false (AB4 ACm rfl Eu (ACe 105 false (Wk (ACe 105 false ?_)))))))))));obtain ⟨Ho,Cf,Ev⟩:=ABl (ifF Ce A9);refine AEi (m:=(w64 (Ah - 1))) ABx rfl (Ad.o2 p0) Et Ap rfl Cf fun Hq Ew=>ACe 105 false ?_;obtain ⟨Hr,Ey,Ez⟩:=(Ad.o2 p0).cells Ew Ap Cf;obtain rfl:=Ey;refine AB4 ACr rfl (Ez 0 _ rfl) (ACe 105 false (Wk (ACe 105 false (Wk (ACe 105 false ?_)))));obtain ⟨Hs,Cg,Fa⟩:=ABl Ev;obtain ⟨Ht,Ch,Ci⟩:=ABl Fa;refine AEi (m:=Ah) ABx rfl (Ad.o2 p0) Am Cg rfl Ch fun Hu Fb=>ACe 105 false ?_;obtain ⟨Hv,Fc,Fd⟩:=(Ad.o2 p0).cells Fb Cg Ch;obtain rfl:=Fc;refine AB4 ACr rfl (Fd 0 _ rfl) (ACe 105 false (AL0 rfl rfl (ABv rfl (ABo (⟨_,rfl,fun Bp=>?_,fun Bp=>?_⟩)))))
      ·refine ABj (ABp ?_);obtain rfl:=ABk (AC7 Ci Bp);change _=Ae at Aa;subst Aa;refine ABs (ADs (AB1 (AB1 (ADs (AB1 ?_)))));obtain rfl:=ABk Af;exact ⟨_,ABu,Ad.x,rfl⟩
      ·refine ABr (q_b (q_t (ABw (AC2 rfl rfl (Wk (ABo ?_))))));obtain rfl:=ABk (AC8 Ci Bp);exact ⟨B1,((w64 (Ah + 1)):(Int)),Nat.lt_succ_self _,⟨Aa,Ad⟩,rfl,trivial⟩
  ·obtain rfl:=ABk (AC8 Ak Bh);change _=Ae at Aa;subst Aa;refine ACc (ACa (ACa (ADm (q_t (ABj (Wk (ADt rfl rfl (Wk ?_))))))));by_cases Ba:Da=0
   ·have Cj:=ifT Af Ba;rw [decide_eq_true Ba];refine ACe 123 true (Wk (ACe 123 true (ADt rfl rfl (AB0 rfl (Wk ?_)))));by_cases Bb:Dh=0
    ·have Ck:=ifT Cj Bb;rw [decide_eq_true Bb];refine ACe 127 true (Wk (ACe 127 true (ADn AB2 rfl (Ac.o2 p0).rd (ACe 127 true (Wk (ACe 127 true (ADt rfl rfl (AB0 rfl (Wk ?_)))))))));by_cases Bc:(C9.length:Int)=Dg
     ·rw [decide_eq_true Bc];refine ACe 133 true ?_;obtain ⟨Hw,Fe,Ff⟩:=ABl (ifT Ck Bc);refine AC4 rfl (ALr (HO.ext Ac.x) Fe) fun Hx Hy Fg Fh=>?_;subst Fh;refine AB0 rfl (ABp (ABs ?_));obtain rfl:=ABk Ff;exact ⟨_,ABu,(Ac.e Fg).x,rfl⟩
     ·rw [decide_eq_false Bc];refine Al8 133 false (ABv rfl (ABp (ABs ?_)));obtain rfl:=ABk (ifF Ck Bc);exact ⟨_,ABu,Ac.x,rfl⟩
    ·rw [decide_eq_false Bb];refine AMx 127 false (ABv rfl (Wk (Al8 133 false (ABv rfl (ABp (ABs ?_))))));obtain rfl:=ABk (ifF Cj Bb);exact ⟨_,ABu,Ac.x,rfl⟩
   ·rw [decide_eq_false Ba];refine AGs 123 false (ABv rfl (Wk (AMx 127 false (ABv rfl (Wk (Al8 133 false (ABv rfl (ABp (ABs ?_)))))))));obtain rfl:=ABk (ifF Af Ba);exact ⟨_,ABu,Ac.x,rfl⟩
end Go.Proofs.YtiegjkmfpcgjjaaGreatDoor
namespace Go.Proofs.YtiegjkmfpcgjjaaGreatDoor
open Go Go.QF
set_option maxRecDepth 100000
theorem Avx {M:List (List Int)} {p:Int} (R:AWa M) (ho:AOn p=true) (hd:det M.length (ent M) % p≠0):AR8 M p false=0:=by
 unfold AR8;rw [if_pos ((AQr M).2 R),if_pos ⟨ho,hd⟩,if_neg (fun h=>absurd h.1 (by decide))]
theorem Aft {fuel P:Nat} {M:List (List Int)} (h1:1<=P) (hP:P<=17) (hl:M.length<=8) (hf:100 < fuel):Ok (AHv fuel M (P:Int)) fun b=>b=true->P ^ M.length<=65536:=by
 unfold AHv;have hb:∀ k,k<=8->(P:Int) ^ k<=17 ^ 8:=fun k hk=>Int.le_trans (ARu (p:=(P:Int)) (by omega) hk) (ALc (by omega) (by omega) 8);have Ab:(17:Int) ^ 8=6975757441:=by decide
 refine ABn (Q:=fun e=>e=(P:Int) ^ M.length) (ACz (fun i s=>s=((P:Int) ^ i,(i:Int))/\i<=M.length) M.length ⟨by simp,Nat.zero_le _⟩ (by omega) fun i s hi hI=>?_) fun e he=>ABi fun h=>?_
 ·obtain ⟨rfl,h2⟩:=hI;unfold AJ4;dsimp only;refine ACf (fun h=>?_) fun h=>ABi (by rw [show i=M.length by omega]);rw [if_pos (by omega),if_pos (by omega)];have hs:(P:Int) ^ i * P=(P:Int) ^ (i + 1):=(Int.pow_succ (P:Int) i).symm;have hpos:0 < (P:Int) ^ (i + 1):=Int.pow_pos (by omega);have:=hb (i + 1) (by omega);exact ABi ⟨by omega,by rw [AId (by omega),hs,wk (by omega)],by omega⟩
 ·have h:=of_decide_eq_true h;rw [he] at h;have:((P ^ M.length:Nat):Int) < 20000:=by rw [Int.natCast_pow];exact h
  omega
def Als:List Int->List Int->Prop
  | x :: U,y :: V=>x < y∨(x=y/\Als U V)
  | _,_=>False
theorem Aj2:∀ {U V:List Int},Als U V-> ∃ t:Nat,(∀ c,c < t-> ∃ a,U[c]? =some a/\V[c]? =some a)/\ ∃ a b,U[t]? =some a/\V[t]? =some b/\a < b
  | [],_,h=>by cases h
  | _ :: _,[],h=>by cases h
  | x :: U,y :: V,h=>by
    rcases h with h | ⟨rfl,h⟩
    · exact ⟨0,fun c hc=>absurd hc (Nat.not_lt_zero _),x,y,rfl,rfl,h⟩
    · obtain ⟨t,h1,a,b,h2,h3,h4⟩:=Aj2 h
      refine ⟨t + 1,fun c hc=>?_,a,b,h2,h3,h4⟩
      cases c with
      | zero=>exact ⟨x,rfl,rfl⟩
      | succ c=>exact h1 c (by omega)
theorem Afu {P:Nat} (hP:2<=P):∀ {n k l:Nat},k < l->l < P ^ n->Als (AJs n P k) (AJs n P l)
  | 0,k,l,h,h2=>by simp at h2;omega
  | n + 1,k,l,h,h2=>by
    have hpos:0 < P ^ n:=Nat.pow_pos (by omega)
    have e5:P ^ n * P=P ^ (n + 1):=rfl
    have hcons:∀ k,k < P ^ (n + 1)->AJs (n + 1) P k=((k / P ^ n:Nat):Int) :: AJs n P (k % P ^ n):=fun k hk=>by
      have Ad:k=k / P ^ n * P ^ n + k % P ^ n:=by rw [Nat.mul_comm];exact (Nat.div_add_mod k (P ^ n)).symm
      conv=>lhs;rw [Ad]
      exact AOt hP (Nat.div_lt_of_lt_mul (by rw [e5];exact hk)) (Nat.mod_lt k hpos)
    rw [hcons k (Nat.lt_trans h h2),hcons l h2]
    have hd:k / P ^ n<=l / P ^ n:=Nat.div_le_div_right (Nat.le_of_lt h)
    rcases Nat.lt_or_ge (k / P ^ n) (l / P ^ n) with h3 | h3
    · exact .inl (by omega)
    · have h4:k / P ^ n=l / P ^ n:=by omega
      refine .inr ⟨by rw [h4],Afu hP ?_ (Nat.mod_lt l hpos)⟩
      have g1:=Nat.div_add_mod k (P ^ n)
      have g2:=Nat.div_add_mod l (P ^ n)
      rw [h4] at g1
      omega
theorem Alu {M:List (List Int)} {P i:Nat} (hP:2<=P) {U V:List Int} (hU:(APd M P)[i]? =some U) (hV:(APd M P)[i + 1]? =some V):Als U V:=by
 have h1:(List.range (P ^ M.length)).Pairwise fun a b=>Als (AJs M.length P a) (AJs M.length P b):=
   List.Pairwise.imp_of_mem (fun {a b} ha hb hab=>Afu hP hab (List.mem_range.1 hb)) List.pairwise_lt_range
 have h2:(APd M P).Pairwise Als:=(List.pairwise_map.2 h1).filter _;obtain ⟨q1,rfl⟩:=List.getElem?_eq_some_iff.1 hU;obtain ⟨q2,rfl⟩:=List.getElem?_eq_some_iff.1 hV;exact List.pairwise_iff_getElem.1 h2 i (i + 1) q1 q2 (by omega)
theorem AW4 {g kd k:Int} {Z Y:List Int} (hg:0<=g/\g < 256) (hk:0<=k/\k < 256):AF4 (AEo + 1) g kd Z Y k=some true:=by
 have hf:AEo < AEo + 1:=Nat.lt_succ_self _;have Ae:100 < AEo + 1:=Nat.lt_of_le_of_lt (by decide) hf;have Ab:2147483648 < AEo + 1:=Nat.lt_of_le_of_lt (by decide) hf;apply ok_eq;unfold AF4;have aw:Ok (AEx (AEo + 1)) (· =true):=⟨true,Ac0,rfl⟩;refine ABn (Avk hg (by decide) hf) fun h hh=>?_;obtain ⟨n,A,rfl,h1,h2,R,-⟩:=hh;have RM:=Asp h1 (by omega) R;generalize hMM:tab n n A=M at RM;refine ABn (Afp RM hk.1 hk.2 Ab) fun q hq=>?_;obtain ⟨P,rfl,h3,Ah,ho,hd⟩:=hq;have h8:=RM.1.2;refine ABn (Aft (by omega) Ah h8 Ae) fun b hb=>ACf (fun _=>ABn aw fun x hx=>ABi hx) fun Aj=>?_;have hq:P ^ M.length<=65536:=hb (by cases b with | true=>rfl | false=>exact absurd rfl Aj);have hc:=Avx RM ho hd;have hlen:=Alp (M:=M) (P:=P) (by omega)
 have hF:AG2 (AEo + 1) M (P:Int)=some (((APd M P).length:Int),0):=by
   have hqi: ¬ 65536 < (P:Int) ^ M.length:=by
     have:((P ^ M.length:Nat):Int)<=65536:=by omega
     rw [Int.natCast_pow] at this;omega
   have hck:AR8 M (P:Int) true=0:=by
     unfold AR8
     rw [if_pos ((AQr M).2 RM),if_pos ⟨ho,hd⟩,if_neg (fun hh=>hqi hh.2)]
   rw [Ahs,AXm Ab,hck]
   simp only [Option.bind_some]
   rw [if_neg (by decide),As5 RM ho hd hq Ab,hlen]
 rw [As6 RM ho hd hq Ab,hF];simp only [Option.bind_some];have hll:=Abc M P (P ^ M.length);have hll:(APd M P).length<=65536:=Nat.le_trans hll hq;refine ABn (Q:=fun ex=>ex= .inr ()) (ACz (fun i s=>s=(i:Int)/\i<=(APd M P).length) (APd M P).length ⟨rfl,Nat.zero_le _⟩ (by omega) fun i s hi hI=>?_) fun ex hex=>?_
 ·obtain ⟨rfl,h4⟩:=hI;unfold AG5;refine ACf (fun h=>?_) fun h=>ABi rfl;have Ac:i < (APd M P).length:=by omega
  obtain ⟨V,hV⟩:∃ V,(APd M P)[i]? =some V:=⟨_,List.getElem?_eq_getElem Ac⟩;have hmem:=List.mem_of_getElem? hV;have hrep:=Ajr (List.mem_filter.1 hmem).2;refine AB5 hV rfl ?_
  have hIs:AQv (AEo + 1) M (P:Int) V=some (true,0):=by
    unfold AQv
    rw [AZk Ab,hc]
    simp only [Option.bind_some]
    rw [if_neg (by decide),Apt RM (by omega) (by omega) Ae,<- Ac1 hrep]
    rfl
  rw [hIs];simp only [Option.bind_some];refine ABn (Q:=fun ex=>ex= .inr ()) (by rw [if_neg (by decide),if_neg (by decide)];exact ABi rfl) fun ex hex=>?_;subst hex;dsimp only;have hw:w64 ((i:Int) + 1)=((i + 1:Nat):Int):=AId (by omega);refine ACf (fun h0=>ABi ⟨Ac,hw,by omega⟩) fun h0=>?_;have Ar:i≠0:=fun hh=>h0 (by rw [hh];rfl);obtain ⟨U,hU⟩:∃ U,(APd M P)[i - 1]? =some U:=⟨_,List.getElem?_eq_getElem (by omega)⟩;have hlex:=Alu (M:=M) (P:=P) (i:=i - 1) (by omega) hU (by rw [show i - 1 + 1=i by omega];exact hV);obtain ⟨t,heq,a,b,ha,Ad,hab⟩:=Aj2 hlex;have htU:=(List.getElem?_eq_some_iff.1 ha).1;have htV:=(List.getElem?_eq_some_iff.1 Ad).1;have hVl:=hrep.1;have hwi:w64 ((i:Int) - 1)=((i - 1:Nat):Int):=by rw [wk (by omega)];omega
  refine ABn (Q:=fun e=>e=(t:Int)) (ABn (ACz (fun j s=>s=(j:Int)/\j<=t) t ⟨rfl,Nat.zero_le _⟩ (by omega) fun j s hj hJ=>?_) fun e he=>ABi he) fun e he=>?_
  ·obtain ⟨rfl,h5⟩:=hJ;unfold AG4;rw [hwi];refine ABn (Q:=fun ex=>(ex= .inl ()/\j < t)∨(ex= .inr ()/\j=t)) ?_ fun ex hex=>?_
   ·rw [if_pos (by omega)];refine AB5 hU rfl ?_;rw [if_pos (by omega)];refine AB5 hV rfl ?_;rcases Nat.lt_or_ge j t with h6 | h6
    ·obtain ⟨x,Ak,Am⟩:=heq j h6;refine AB5 Am rfl (AB5 Ak rfl ?_);rw [if_pos rfl];exact ABi (.inl ⟨rfl,h6⟩)
    ·obtain rfl:j=t:=by omega
     refine AB5 Ad rfl (AB5 ha rfl ?_);rw [if_neg (by omega)];exact ABi (.inr ⟨rfl,rfl⟩)
   ·rcases hex with ⟨rfl,h6⟩ | ⟨rfl,h6⟩
    ·exact ABi ⟨h6,AId (by omega),by omega⟩
    ·exact ABi (by rw [h6])
  ·subst he;rw [if_neg (by omega),hwi];refine AB5 hU rfl ?_;rw [if_neg (by omega)];refine AB5 ha rfl (AB5 hV rfl (AB5 Ad rfl ?_));rw [if_neg (by omega)];exact ABi ⟨Ac,hw,by omega⟩
 ·subst hex;dsimp only;rw [if_pos trivial,if_pos trivial,if_pos trivial];exact ABn aw fun x hx=>ABi hx
end Go.Proofs.YtiegjkmfpcgjjaaGreatDoor
