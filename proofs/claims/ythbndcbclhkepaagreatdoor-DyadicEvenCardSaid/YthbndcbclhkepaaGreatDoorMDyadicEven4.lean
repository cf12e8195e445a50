/-
  Texts of a proof, joined. Conditions stand in each statement.
-/
import Derived.Test.YthbndcbclhkepaaGreatDoorMDyadicEven3
set_option linter.unusedVariables false
set_option linter.unusedSimpArgs false
namespace Go.Proofs.YthbndcbclhkepaaGreatDoor.Ig
open Go Go.QF
set_option maxRecDepth 100000
structure A7h (h:AGs) (v:Value) (L:List Nat) (v':Value) (L':List Nat):Prop where
  sl:Sl h v' (L'.map Ae4)
  cap:Afl v'
  dig:Dig L'
  blk:v'.ownBlock=v.ownBlock
  val:nv L'=nv L
  len:L'.length<=L.length
  tg:∀ g,v.ownBlock=some g-> ∃ cur off,h[g]? =some (.cells cur 170 off)
theorem A7h.ds {h:AGs} {lo:Nat} {v v':Value} {L L':List Nat} (H:A7h h v L v' L') (hl:∀ g,v.ownBlock=some g->lo<=g):DS h lo v' L':=⟨H.sl,H.cap,H.dig,fun g hg=>hl g (H.blk ▸ hg),fun g hg=>H.tg g (H.blk ▸ hg)⟩
theorem A4i {L:List Nat} (h:L[L.length - 1]? =some 0):nv (L.take (L.length - 1))=nv L:=by
 have h1:L=L.take (L.length - 1) ++ [0]:=by
   have:=Asq h
   rw [this,List.take_of_length_le (by have:=(List.getElem?_eq_some_iff.1 h).1;omega)]
 conv=>rhs;rw [h1,Ac4]
 simp
theorem Ad5 {h:AGs} {v:Value} {L:List Nat} (H:DS h 0 v L) (hn:L.length<=1000000):ATt Tryz.prog 172 #[v] h fun x h'=>h'=h/\ ∃ L',A7h h v L x L'/\TL L':=by
 refine AT4 (l:=[_]) mx Tryz.func172 rfl rfl rfl rfl rfl AGv (AGl (AGw (AGn (AGo (AXt 1048569 (fun y:Value × List Nat=>[(0,y.1)]) (fun k y h'=>h'=h/\y.2.length=k/\A7h h v L y.1 y.2) AGv L.length (v,L) ?_ ⟨rfl,trivial⟩ ?_)))))
 ·exact ⟨rfl,rfl,H.sl,H.cap,H.dig,rfl,rfl,Nat.le_refl _,H.tg⟩
 rintro k ⟨u,Lu⟩ s1 h ⟨rfl,rfl,HT⟩;dsimp only at HT ⊢;refine AGn (AGl (AGi (Ani ATe rfl HT.sl ?_)));rw [List.length_map];have hLlen:=HT.len;refine Ai6 rfl rfl (fun Aa=>?_) (fun Aa=>?_)
 ·refine AGi (AUk 6 true AGv rfl rfl (AGi (AUk 6 true AGv rfl rfl (AGi (AUk 6 true AGv rfl rfl (Ani ATe rfl HT.sl ?_))))));rw [List.length_map];refine AUk 6 true AGv rfl rfl (Aeb rfl rfl AGh AGh ?_);rw [show ((Lu.length:Nat):Int) - 1=((Lu.length - 1:Nat):Int) by omega];obtain ⟨x,hx⟩:∃ x,Lu[Lu.length - 1]? =some x:=⟨_,List.getElem?_eq_getElem AGh⟩;refine AUk 6 true AGv rfl rfl (Aqq ATe rfl HT.sl rfl (Ai9 hx) fun a1 Ab=>AUk 6 true AGv rfl rfl (ATz AU7 rfl Ab (AUk 6 true AGv rfl rfl (Ale rfl rfl (fun Ac=>?_) (fun Ac=>?_)))))
  ·refine ATh rfl (AGq (ATn rfl (AGx (q_t (AGo (AS3 (AGi (AGi (Ani ATe rfl HT.sl ?_)))))))));rw [List.length_map];refine Aeb rfl rfl AGh AGh ?_;rw [show ((Lu.length:Nat):Int) - 1=((Lu.length - 1:Nat):Int) by omega];have Ad:Lu[Lu.length - 1]? =some 0:=by rw [hx];congr 1;omega
   refine Atv (v:=u) ATe rfl HT.sl HT.cap rfl (by rw [List.length_map];omega) fun v9 Af Ag Ah=>?_;refine ATi (ATf (q_b (q_t ?_)));exact ⟨Lu.length - 1,(v9,Lu.take (Lu.length - 1)),by first | omega | (dsimp only;omega),⟨rfl,ATw,⟨by dsimp only;rw [List.map_take];exact Af,Ag,An4 HT.dig _,Ah.trans HT.blk,by rw [A4i Ad];exact HT.val,by rw [List.length_take];have:=HT.len;omega,HT.tg⟩⟩,rfl,trivial⟩
  ·refine ATh rfl (AGq (ATp rfl (AS9 (ATa (ATa (AT9 (q_t (AGl (AGi (AGw (AGy (⟨_,AS1,?_⟩))))))))))));refine ⟨rfl,Lu,HT,fun y hy=>?_⟩
   first
   | (have:Lu=[]:=List.length_eq_zero_iff.1 AGh;rw [this] at hy;cases hy)
   | (rw [List.getLast?_eq_getElem?,hx] at hy;injection hy with hy;subst hy;omega)
 ·refine AGi (AUb 6 false AGv rfl rfl (AUb 6 false AGv rfl rfl (AUb 6 false AGv rfl rfl (AUb 6 false AGv rfl rfl (AUb 6 false AGv rfl rfl (AUb 6 false AGv rfl rfl (AUb 6 false AGv rfl rfl (ATq rfl (AGq (ATp rfl (AS9 (ATa (ATa (AT9 (q_t (AGl (AGi (AGw (AGy (⟨_,AS1,?_⟩))))))))))))))))))));refine ⟨rfl,Lu,HT,fun y hy=>?_⟩
  first
  | (have:Lu=[]:=List.length_eq_zero_iff.1 AGh;rw [this] at hy;cases hy)
  | (rw [List.getLast?_eq_getElem?,hx] at hy;injection hy with hy;subst hy;omega)
theorem Ahe (w:Nat) (hw:w < 18446744073709551616) (h:AGs):ATt Tryz.prog 169 #[.int .u64 (w:Int)] h fun x h'=>Ext h h'/\ ∃ L,DS h' (Array.size h) x L/\TL L/\nv L=w/\L.length<=2:=by
 refine AT4 (l:=[_]) mx Tryz.func169 rfl rfl rfl rfl rfl AGv (AGl (ATx (AGi (Aea AVf AVs rfl ?_))));rw [show IntKind.u32.wrap (w:Int)=((w % 4294967296:Nat):Int) by rw [wrap_u32];omega];refine AGi (Apn (n:=32) rfl rfl AGj (Aea AVf AVs rfl ?_));rw [show IntKind.u32.wrap ((w:Int) / 2 ^ 32)=((w / 4294967296:Nat):Int) by rw [wrap_u32];omega];have e1:IntKind.u32.wrap (w:Int)=((w % 4294967296:Nat):Int):=by rw [wrap_u32];omega
 have e2:IntKind.u32.wrap ((w:Int) / 2 ^ 32)=((w / 4294967296:Nat):Int):=by rw [wrap_u32];omega
 have hdg:Dig [w % 4294967296,w / 4294967296]:=by intro x hx;simp only [List.mem_cons,List.not_mem_nil,or_false] at hx;rcases hx with rfl | rfl <;> omega
 refine A22 ([w % 4294967296,w / 4294967296].map Ae4) ATe Ac9 rfl (fun _=>trivial) rfl AGh AGh rfl (by simp [Ae4,isOne]) fun g1 v1 h1 Ad E1 Ae Aj=>?_;have Ak:=E1.1;have Z2:=(Ext.refl h).trans E1;have Ab:=Ad.ds (lo:=Array.size h) hdg Ae;refine ATc trivial rfl (Ad5 (Ab.mono (Nat.zero_le _)) ATw) fun x3 h1 hk=>?_;obtain ⟨rfl,L2,HT,htl⟩:=hk;refine ⟨trivial,?_⟩;refine AGw (AGy (⟨_,AS1,?_⟩));exact ⟨E1,L2,HT.ds Ab.lo,htl,by rw [HT.val];simp only [nv];omega,by have:=HT.len;simpa using this⟩
theorem Aqc {h:AGs} {lo:Nat} {v:Value} {L:List Nat} (H:DS h lo v L) (hn:L.length<=2):ATt Tryz.prog 184 #[v] h fun x h'=>h'=h/\x= .int .u64 (nv L:Int):=by
 refine AT4 (l:=[_]) mx Tryz.func184 rfl rfl rfl rfl rfl AGv (AGl (ATx (AGw (AGn (AGl (AGi (Ani ATe rfl H.sl ?_)))))));rw [List.length_map];refine AGi (AGq (AGo (AXt 2096952 (fun y:Nat × Nat=>[(8,.int .i64 (y.1:Int)),(3,.int .u64 (y.2:Int))]) (fun k y h'=>h'=h/\k=L.length - y.1/\y.1<=L.length/\y.2=nv (L.take y.1)) AGv L.length (0,0) ?_ ⟨rfl,rfl,trivial⟩ ?_)))
 ·exact ⟨rfl,rfl,Nat.zero_le _,rfl⟩
 rintro k ⟨i,w⟩ s1 h ⟨rfl,rfl,hi,hw⟩;dsimp only at hi hw ⊢;subst hw;refine AGl (AW7 rfl rfl (fun Ab=>?_) (fun Ab=>?_))
 ·refine AGq (AGn (ATn rfl (AGx (q_t (AGn (AGo (AGn ?_)))))));obtain ⟨x,hx⟩:∃ x,L[i]? =some x:=⟨_,List.getElem?_eq_getElem AGh⟩;have hxb:=H.dig x (List.mem_of_getElem? hx);refine AS3 (AGi (Aqq ATe rfl H.sl rfl (Ai9 hx) fun Af Ac=>ATz AU7 rfl Ac (ATi (AGw (AS3 (AGi (AGi (A8k AVs AVf rfl (by rw [wrap_u64];omega) ?_))))))));refine AGi (Afy rfl rfl AGh AGh ?_);rw [show (32:Int) * (i:Int)=((32 * i:Nat):Int) by omega];refine Ast (n:=32 * i) rfl rfl (by show 32 * i<=64;omega) ?_;have Aa:i=0∨i=1:=by omega
  have hlt:=Aih H.dig hi
  have hsh:IntKind.u64.wrap ((x:Int) * 2 ^ (32 * i))=((2 ^ (32 * i) * x:Nat):Int):=by
    rw [wrap_u64]
    rcases Aa with rfl | rfl
    · simp;omega
    · simp;omega
  rw [hsh]
  have Ad:2 ^ (32 * i) * x < 18446744073709551616:=by
    rcases Aa with rfl | rfl
    · simp;omega
    · simp;omega
  have Ae:nv (L.take i) < 18446744073709551616:=by
    rcases Aa with rfl | rfl
    · simp at hlt ⊢;omega
    · simp at hlt ⊢;omega
  refine Al5 rfl rfl (.inr (.inl rfl)) (A24 Ae Ad) ?_;rw [A25 (by rw [<- Anm];exact hlt),<- Anm,<- AUr hx];refine ATi (ATf (q_b (q_t (AS3 (Abp rfl AGh (AGi (AGq ?_)))))));exact ⟨L.length - (i + 1),(i + 1,nv (L.take (i + 1))),by first | omega | (dsimp only;omega),⟨rfl,rfl,by first | omega | (dsimp only;omega),rfl⟩,rfl,rfl,trivial⟩
 ·refine AGq (AGn (ATp rfl (AS9 (ATa (ATa (AT9 (q_t (AGl (AGi (AGw (AGy (⟨_,AS1,?_⟩))))))))))));obtain rfl:i=L.length:=by omega
  exact ⟨rfl,by rw [List.take_length] at *;rfl⟩
theorem Af9 (w:World):(Instr.build 93 #[]).run Tryz.prog w= .ok (.agg #[.bool false,.slice none 0 0]) w:=by kernel_rfl
theorem An7 (b:Bool) (a:Option Addr) (n c:Nat) (w:World):(Instr.build 93 #[(0,.bool b),(1,.slice a n c)]).run Tryz.prog w= .ok (.agg #[.bool b,.slice a n c]) w:=by kernel_rfl
theorem Abu {h:AGs} {lo:Nat} {s:Value} {L:List Nat} (neg:Bool) (H:DS h lo s L) (htl:TL L) (hn:L.length<=100):ATt Tryz.prog 168 #[.bool neg,s] h fun x h'=>Ext h h'/\ZV h' lo x (sgn neg (nv L)):=by
 obtain ⟨a,n,c,rfl,hnc⟩:=H.cap;refine AT4 (l:=[_,_]) mx Tryz.func168 rfl rfl rfl rfl rfl AGv (AGl (AYm [.bool false,.slice none 0 0] AW9 rfl (fun _=>trivial) fun Aa h2 V3 E4 Ak Ar=>?_));have Au:Array.size h<=Aa:=Ak;have Av:=E4.1;have Z8:=(Ext.refl h).trans E4;refine AGq (AGn (AGl (AGi (Ani ATe rfl (H.sl.ext E4) ?_))));rw [List.length_map];refine Ale rfl rfl (fun Am=>?_) (fun Am=>?_)
 ·refine AGq (ATn rfl (AGl (AWe (v:= .agg #[.bool false,.slice none 0 0]) Af9 (AUz [.bool false,.slice none 0 0] AT6 rfl rfl rfl rfl (by simp [isOne]) V3 fun h9 Ao Ad=>?_))));have Af:=E4.thenUpd Ad (fun k hk=>by have Ac:k=Aa:=hk;omega);have Ax:=Ad.1;have Ay:=Z8.thenUpd Ad (fun k hk=>by have Ac:k=Aa:=hk;omega);have Az:=E4.thenUpd Ad (fun k hk=>by have Ac:k=Aa:=hk;omega);refine AGq (AGy (ATb (⟨_,AU6 AT6 rfl rfl Ao,?_⟩)))
  first
  | (have h0:L=[]:=List.length_eq_zero_iff.1 AGh
     subst h0
     exact ⟨Af,⟨false,_,[],rfl,Aig _ _,Ajo,ATw,by cases neg <;> rfl⟩⟩)
  | exact ⟨Af,⟨neg,_,L,rfl,H.ext Af,htl,hn,rfl⟩⟩
 ·refine AGq (ATp rfl (AGx (q_t (AGl (AGi (AGi (AWe (v:= .agg #[.bool neg,.slice a n c]) (An7 neg a n c) (AUz [.bool neg,.slice a n c] AT6 rfl rfl rfl rfl (by simp [isOne]) V3 fun A3 Ap Ae=>?_))))))));have Ah:=E4.thenUpd Ae (fun k hk=>by have Ac:k=Aa:=hk;omega);have A4:=Ae.1;have A5:=Z8.thenUpd Ae (fun k hk=>by have Ac:k=Aa:=hk;omega);have A6:=E4.thenUpd Ae (fun k hk=>by have Ac:k=Aa:=hk;omega);refine AGq (AGy (⟨_,AU6 AT6 rfl rfl Ap,?_⟩))
  first
  | (have h0:L=[]:=List.length_eq_zero_iff.1 AGh
     subst h0
     exact ⟨Ah,⟨false,_,[],rfl,Aig _ _,Ajo,ATw,by cases neg <;> rfl⟩⟩)
  | exact ⟨Ah,⟨neg,_,L,rfl,H.ext Ah,htl,hn,rfl⟩⟩
theorem Small_ok {n:Int} (hn: -9223372036854775808<=n/\n<=9223372036854775807) (h:AGs):ATt Tryz.prog 151 #[.int .i64 n] h fun x h'=>Ext h h'/\ZV h' (Array.size h) x n:=by
 refine AT4 (l:=[_]) mx Tryz.func151 rfl rfl rfl rfl rfl AGv (AGl (AYm [.bool false,.slice none 0 0] AW9 rfl (fun _=>trivial) fun Aa h2 V3 E4 Az By=>?_));have Bz:Array.size h<=Aa:=Az;have B1:=E4.1;have Z8:=(Ext.refl h).trans E4;refine AGq (AGn (AGl (AGi (AW7 rfl rfl (fun A3=>?_) (fun A3=>?_)))))
 ·refine AGq (ATn rfl (AGl (AGi (Aea Ac3 AVf rfl ?_))));rw [show IntKind.u64.wrap n=n + 18446744073709551616 by rw [wrap_u64];omega];refine Aqo rfl ?_;rw [show IntKind.u64.wrap (0 - (n + 18446744073709551616))=((n.natAbs:Nat):Int) by rw [wrap_u64];omega];refine ATc trivial rfl (Ahe n.natAbs AGh _) fun x9 B4 hk=>?_;obtain ⟨Ag,L1,Ah,Ao,Ap,A5⟩:=hk;refine ⟨trivial,?_⟩;have B5:=Ag.1;have A6:=Z8.trans Ag;have A7:=E4.trans Ag;have A8:=V3.ext Ag;have A9:=E4.trans Ag;refine ATc trivial rfl (Abu true Ah Ao AGh) fun B6 B7 hk=>?_;obtain ⟨Ac,Aq⟩:=hk;refine ⟨trivial,?_⟩;have B8:=Ac.1;have Ba:=A6.trans Ac;have Bb:=A7.trans Ac;have Bc:=A8.ext Ac;have Be:=A9.trans Ac;have Bf:=Ah.ext Ac;obtain ⟨Ai,s2,L2,rfl,Aj,Au,Av,Aw⟩:=Aq.out;refine AUz [.bool Ai,s2] AT6 rfl rfl rfl rfl (Abb Aj.cap) Bc fun B9 Bg Ad=>?_;have Bh:=Bb.thenUpd Ad (fun k hk=>by have Ak:k=Aa:=hk;omega);have Ca:=Ad.1;have Cb:=Ba.thenUpd Ad (fun k hk=>by have Ak:k=Aa:=hk;omega);have Cd:=Be.thenUpd Ad (fun k hk=>by have Ak:k=Aa:=hk;omega);have Ce:=Bf.updLo Ad AGh;have Bi:=Aj.updLo Ad AGh;refine AGq (AGy (ATb (⟨_,AU6 AT6 rfl rfl Bg,?_⟩)));exact ⟨Bh,⟨Ai,s2,L2,rfl,Bi.mono AGh,Au,Av,by rw [<- Aw,Ap];unfold sgn;first | (rw [if_pos rfl];omega) | (rw [if_neg AGj];omega)⟩⟩
 ·refine AGq (ATp rfl (AGx (q_t (AGl (AGi (Aea Ac3 AVf rfl ?_))))));rw [show IntKind.u64.wrap n=((n.natAbs:Nat):Int) by rw [wrap_u64];omega];refine ATc trivial rfl (Ahe n.natAbs AGh _) fun Cf Cg hk=>?_;obtain ⟨Am,L1,Ah,Ao,Ap,A5⟩:=hk;refine ⟨trivial,?_⟩;have Ch:=Am.1;have Bj:=Z8.trans Am;have Bl:=E4.trans Am;have Bm:=V3.ext Am;have Bn:=E4.trans Am;refine ATc trivial rfl (Abu false Ah Ao AGh) fun Ci Cj hk=>?_;obtain ⟨Ae,Aq⟩:=hk;refine ⟨trivial,?_⟩;have Ck:=Ae.1;have Bo:=Bj.trans Ae;have Bp:=Bl.trans Ae;have Bq:=Bm.ext Ae;have Br:=Bn.trans Ae;have Bt:=Ah.ext Ae;obtain ⟨Ai,s2,L2,rfl,Aj,Au,Av,Aw⟩:=Aq.out;refine AUz [.bool Ai,s2] AT6 rfl rfl rfl rfl (Abb Aj.cap) Bq fun Cm Bu Af=>?_;have Bv:=Bp.thenUpd Af (fun k hk=>by have Ak:k=Aa:=hk;omega);have Cn:=Af.1;have Co:=Bo.thenUpd Af (fun k hk=>by have Ak:k=Aa:=hk;omega);have Cp:=Br.thenUpd Af (fun k hk=>by have Ak:k=Aa:=hk;omega);have Cq:=Bt.updLo Af AGh;have Bw:=Aj.updLo Af AGh;refine AGq (AGy (⟨_,AU6 AT6 rfl rfl Bu,?_⟩));exact ⟨Bv,⟨Ai,s2,L2,rfl,Bw.mono AGh,Au,Av,by rw [<- Aw,Ap];unfold sgn;first | (rw [if_pos rfl];omega) | (rw [if_neg AGj];omega)⟩⟩
theorem Apb {h:AGs} {lo:Nat} {v:Value} {L:List Nat} (H:DS h lo v L) (hn:L.length<=1000000):ATt Tryz.prog 173 #[v] h fun x h'=>Ext h h'/\DS h' (Array.size h) x L:=by
 obtain ⟨a,n,c,rfl,hnc⟩:=H.cap;refine AT4 (l:=[_]) mx Tryz.func173 rfl rfl rfl rfl rfl AGv (AGl (AGw (AGn (AGl (AGi (A6f Tryz.underlying91 rfl ?_))))));cases Ad:a.isNone
 ·refine AGq (ATp rfl (AGx (q_t (AGn ?_))));obtain ⟨xa,rfl⟩:∃ q,a=some q:=Option.ne_none_iff_exists'.1 (fun he=>by rw [he] at Ad;cases Ad);refine AS3 (BBh ATe (fun _=>trivial) fun g1 v1 h1 Af E1 Ag Ap=>?_);have Aq:=E1.1;have Z2:=(Ext.refl h).trans E1;refine AGi ?_;by_cases hL:L=[]
  ·subst hL;obtain rfl:n=0:=A23 H;refine A9b ATe (fun _=>trivial) rfl Af rfl fun v2 h2 Ab U2=>AGw (AGy (⟨_,AS1,?_⟩));exact ⟨E1.thenUpd U2 (fun k hk=>by have Ai:k=g1:=hk;omega),Ab.ds H.dig Ag⟩
  refine A8g ATe Ac9 rfl trivial rfl Af rfl (H.sl.ext E1) (fun u hu=>by obtain ⟨y,_,rfl⟩:=List.mem_map.1 hu;rfl) (by simpa using hL) (by simp;omega) (by simp;omega) fun v2 g2 h2 Ab Ak U2=>?_;refine ⟨trivial,?_⟩;have XZ:=E1.thenUpd U2 (fun k hk=>by have Ai:k=g1:=hk;omega);have hg2l:Array.size h<=g2:=by rcases Ak with rfl | rfl;exact Ag;omega
  refine AGw (AGy (⟨_,AS1,?_⟩));exact ⟨XZ,Ab.ds H.dig hg2l⟩
 ·refine AGq (ATn rfl (AGn ?_));have h0:L=[]:=A6g (Option.isNone_iff_eq_none.1 (by assumption)) H;refine AS3 (AGw (AGy (ATb (⟨_,AS1,?_⟩))));subst h0;exact ⟨Ext.refl _,Aig _ _⟩
def AX5 (z:Int):Int:=if z < 0 then -1 else if z=0 then 0 else 1
theorem sign_zero {z:Int} (h:z=0):AX5 z=0:=by subst h;rfl
theorem sign_neg {z:Int} (h:z < 0):AX5 z= -1:=if_pos h
theorem Aij {z:Int} (h:0 < z):AX5 z=1:=by unfold AX5;rw [if_neg AGh,if_neg AGh]
theorem Sign_ok {h:AGs} {lo:Nat} {va:Value} {z:Int} (HA:ZV h lo va z):ATt Tryz.prog 154 #[va] h fun x h'=>Ext h h'/\x= .int .i64 (AX5 z):=by
 obtain ⟨na,sa,LA,rfl,HDa,htla,hla,hza⟩:=HA.out;have hna:LA.length<=1000000:=by omega
 refine AT4 (l:=[_]) mx Tryz.func154 rfl rfl rfl rfl rfl AGv (AGl (Abe [.bool na,sa] (fun _=>trivial) rfl rfl fun Aj h2 V3 E4 Ak Aq=>?_));have Ar:Array.size h<=Aj:=Ak;have Au:=E4.1;have Z8:=(Ext.refl h).trans E4;refine AGw (AGn (AGo (AGl (AXu (fs:=1) Adl AGv AGj rfl (ATz AZn rfl (V3.cell (i:=1) rfl) (ATc trivial rfl (Ad5 (DS.mono (HDa.ext E4) (Nat.zero_le _)) hna) fun x9 h2 hk=>?_))))));obtain ⟨rfl,L1,Af,Ag⟩:=hk;refine ⟨trivial,?_⟩;have Am:=Af.ds (lo:=lo) HDa.lo;refine AUl ATe rfl Am (Ale rfl rfl (fun Ao=>?_) (fun Ao=>?_))
 ·refine AGw (ATn rfl (AGl (AGw (AGy (AUf (ATb (⟨_,AS1,?_⟩)))))))
  first
  | (have h0:L1=[]:=List.length_eq_zero_iff.1 AGh
     have h1:nv LA=0:=by rw [<- Af.val,h0];rfl
     exact ⟨E4,congrArg (Value.int .i64) (sign_zero (hza.trans (by rw [h1];cases na <;> rfl))).symm⟩)
  | (have h1:nv LA≠0:=fun h0=>by rw [<- Af.val] at h0;have:=congrArg List.length (AYs Ag h0);rw [List.length_nil] at this;omega
     have h2:z=sgn na (nv LA):=hza
     have h3:na=true:=by assumption
     exact ⟨E4,congrArg (Value.int .i64) (sign_neg (by rw [h2,h3];unfold sgn;rw [if_pos rfl];omega)).symm⟩)
  | (have h1:nv LA≠0:=fun h0=>by rw [<- Af.val] at h0;have:=congrArg List.length (AYs Ag h0);rw [List.length_nil] at this;omega
     have h2:z=sgn na (nv LA):=hza
     have h3:na=false:=by assumption
     exact ⟨E4,congrArg (Value.int .i64) (Aij (by rw [h2,h3];unfold sgn;rw [if_neg AGj];omega)).symm⟩)
 ·refine AGw (ATp rfl (AGl (AXu (fs:=1) Ac1 AGv AGj rfl (ATz AWf rfl (V3.cell (i:=0) rfl) (AGw (⟨_,rfl,fun Ap=>?_,fun Ap=>?_⟩))))))
  ·refine AGl (AGw (AGy (AUf (ATb (⟨_,AS1,?_⟩)))))
   first
   | (have h0:L1=[]:=List.length_eq_zero_iff.1 AGh
      have h1:nv LA=0:=by rw [<- Af.val,h0];rfl
      exact ⟨E4,congrArg (Value.int .i64) (sign_zero (hza.trans (by rw [h1];cases na <;> rfl))).symm⟩)
   | (have h1:nv LA≠0:=fun h0=>by rw [<- Af.val] at h0;have:=congrArg List.length (AYs Ag h0);rw [List.length_nil] at this;omega
      have h2:z=sgn na (nv LA):=hza
      have h3:na=true:=by assumption
      exact ⟨E4,congrArg (Value.int .i64) (sign_neg (by rw [h2,h3];unfold sgn;rw [if_pos rfl];omega)).symm⟩)
   | (have h1:nv LA≠0:=fun h0=>by rw [<- Af.val] at h0;have:=congrArg List.length (AYs Ag h0);rw [List.length_nil] at this;omega
      have h2:z=sgn na (nv LA):=hza
      have h3:na=false:=by assumption
      exact ⟨E4,congrArg (Value.int .i64) (Aij (by rw [h2,h3];unfold sgn;rw [if_neg AGj];omega)).symm⟩)
  ·refine AGx (q_b (q_t (AGl (AGw (AGy (⟨_,AS1,?_⟩))))))
   first
   | (have h0:L1=[]:=List.length_eq_zero_iff.1 AGh
      have h1:nv LA=0:=by rw [<- Af.val,h0];rfl
      exact ⟨E4,congrArg (Value.int .i64) (sign_zero (hza.trans (by rw [h1];cases na <;> rfl))).symm⟩)
   | (have h1:nv LA≠0:=fun h0=>by rw [<- Af.val] at h0;have:=congrArg List.length (AYs Ag h0);rw [List.length_nil] at this;omega
      have h2:z=sgn na (nv LA):=hza
      have h3:na=true:=by assumption
      exact ⟨E4,congrArg (Value.int .i64) (sign_neg (by rw [h2,h3];unfold sgn;rw [if_pos rfl];omega)).symm⟩)
   | (have h1:nv LA≠0:=fun h0=>by rw [<- Af.val] at h0;have:=congrArg List.length (AYs Ag h0);rw [List.length_nil] at this;omega
      have h2:z=sgn na (nv LA):=hza
      have h3:na=false:=by assumption
      exact ⟨E4,congrArg (Value.int .i64) (Aij (by rw [h2,h3];unfold sgn;rw [if_neg AGj];omega)).symm⟩)
theorem Neg_ok {h:AGs} {lo:Nat} {va:Value} {z:Int} (HA:ZV h lo va z):ATt Tryz.prog 171 #[va] h fun x h'=>Ext h h'/\ZV h' (Array.size h) x (-z):=by
 obtain ⟨na,sa,LA,rfl,HDa,htla,hla,hza⟩:=HA.out;have hna:LA.length<=1000000:=by omega
 refine AT4 (l:=[_]) mx Tryz.func171 rfl rfl rfl rfl rfl AGv (AGl (Abe [.bool na,sa] (fun _=>trivial) rfl rfl fun Am h2 V3 E4 Az Bx=>?_));have By:Array.size h<=Am:=Az;have Bz:=E4.1;have Z8:=(Ext.refl h).trans E4;refine AYm [.bool false,.slice none 0 0] AW9 rfl (fun _=>trivial) fun Ad Ah A4 Ae A5 B1=>?_;have B3:Array.size h<=Ad:=Nat.le_trans E4.1 A5;have nebq1bq9:Am≠Ad:=by have:=V3.lt;omega
 have B4:=Ae.1;have A6:=Z8.trans Ae;have Ap:=E4.trans Ae;have Aq:=V3.ext Ae;have A7:=E4.trans Ae;refine AGq (AGn (AU8 (fun h'=>Ext Ah h') AGv ?_));have Af:=Ext.refl Ah;refine AXu (fs:=1) Ac1 AGv AGj rfl (AUy AWf rfl Af (fun h' hb=>(Aq.ext hb).cell (i:=0) rfl) (AWp rfl (AXu (fs:=1) Adl AGv AGj rfl (AUy AZn rfl Af (fun h' hb=>(Aq.ext hb).cell (i:=1) rfl) (ATc Af rfl (Ad5 (DS.mono (HDa.ext Ap) (Nat.zero_le _)) hna) fun B5 Ah hk=>?_)))));obtain ⟨rfl,L1,Ai,A8⟩:=hk;refine ⟨Af,?_⟩;have A9:=Ai.ds (lo:=lo) HDa.lo;have Ar:=Ai.val;have B7:=Ai.len;refine ATc Af rfl (Apb A9 AGh) fun B8 B9 hk=>?_;obtain ⟨Ab,Au⟩:=hk;have Aj:=Af.trans Ab;refine ⟨Aj,?_⟩;have Ca:=Ab.1;have Ba:=A6.trans Ab;have Bb:=Ap.trans Ab;have Bc:=A7.trans Ab;have Be:=A4.ext Ab;have Bf:=Ae.trans Ab;refine ATc Aj rfl (Abu (!na) Au A8 AGh) fun Cb Cd hk=>?_;obtain ⟨Aa,Bg⟩:=hk;have Bh:=Aj.trans Aa;refine ⟨Bh,?_⟩;have Ce:=Aa.1;have Bi:=Ba.trans Aa;have Bj:=Bb.trans Aa;have Bl:=Bc.trans Aa;have Bm:=Be.ext Aa;have Bn:=Bf.trans Aa;have Bo:=Au.ext Aa;obtain ⟨Av,s3,L3,rfl,Ax,Bq,Br,Ay⟩:=Bg.out;refine AUz [.bool Av,s3] AT6 rfl rfl rfl rfl (Abb Ax.cap) Bm fun Cf Bt Ac=>?_;have Bu:=Bj.thenUpd Ac (fun k hk=>by have Ak:k=Ad:=hk;omega);have Cg:=Ac.1;have Ch:=Bi.thenUpd Ac (fun k hk=>by have Ak:k=Ad:=hk;omega);have Ci:=Bn.thenUpd Ac (fun k hk=>by have Ak:k=Ad:=hk;omega);have Cj:=Bl.thenUpd Ac (fun k hk=>by have Ak:k=Ad:=hk;omega);have Ck:=Bo.updLo Ac AGh;have Bv:=Ax.updLo Ac AGh;refine AGq (AGy (⟨_,AU6 AT6 rfl rfl Bt,?_⟩));exact ⟨Bu,⟨Av,s3,L3,rfl,Bv.mono AGh,Bq,Br,by first | (rw [<- Ay,Ar,hza];done) | (rw [<- Ay,Ar,hza];cases na <;> simp [sgn])⟩⟩
theorem Normalize_ok {h:AGs} {lo:Nat} {va:Value} {z:Int} (HA:ZV h lo va z):ATt Tryz.prog 155 #[va] h fun x h'=>Ext h h'/\ZV h' (Array.size h) x (z):=by
 obtain ⟨na,sa,LA,rfl,HDa,htla,hla,hza⟩:=HA.out;have hna:LA.length<=1000000:=by omega
 refine AT4 (l:=[_]) mx Tryz.func155 rfl rfl rfl rfl rfl AGv (AGl (Abe [.bool na,sa] (fun _=>trivial) rfl rfl fun Am h2 V3 E4 Az Bx=>?_));have By:Array.size h<=Am:=Az;have Bz:=E4.1;have Z8:=(Ext.refl h).trans E4;refine AYm [.bool false,.slice none 0 0] AW9 rfl (fun _=>trivial) fun Ad Ah A4 Ae A5 B1=>?_;have B3:Array.size h<=Ad:=Nat.le_trans E4.1 A5;have nebq1bq9:Am≠Ad:=by have:=V3.lt;omega
 have B4:=Ae.1;have A6:=Z8.trans Ae;have Ap:=E4.trans Ae;have Aq:=V3.ext Ae;have A7:=E4.trans Ae;refine AGq (AGn (AU8 (fun h'=>Ext Ah h') AGv ?_));have Af:=Ext.refl Ah;refine AXu (fs:=1) Ac1 AGv AGj rfl (AUy AWf rfl Af (fun h' hb=>(Aq.ext hb).cell (i:=0) rfl) (AXu (fs:=1) Adl AGv AGj rfl (AUy AZn rfl Af (fun h' hb=>(Aq.ext hb).cell (i:=1) rfl) (ATc Af rfl (Ad5 (DS.mono (HDa.ext Ap) (Nat.zero_le _)) hna) fun B5 Ah hk=>?_))));obtain ⟨rfl,L1,Ai,A8⟩:=hk;refine ⟨Af,?_⟩;have A9:=Ai.ds (lo:=lo) HDa.lo;have Ar:=Ai.val;have B7:=Ai.len;refine ATc Af rfl (Apb A9 AGh) fun B8 B9 hk=>?_;obtain ⟨Ab,Au⟩:=hk;have Aj:=Af.trans Ab;refine ⟨Aj,?_⟩;have Ca:=Ab.1;have Ba:=A6.trans Ab;have Bb:=Ap.trans Ab;have Bc:=A7.trans Ab;have Be:=A4.ext Ab;have Bf:=Ae.trans Ab;refine ATc Aj rfl (Abu na Au A8 AGh) fun Cb Cd hk=>?_;obtain ⟨Aa,Bg⟩:=hk;have Bh:=Aj.trans Aa;refine ⟨Bh,?_⟩;have Ce:=Aa.1;have Bi:=Ba.trans Aa;have Bj:=Bb.trans Aa;have Bl:=Bc.trans Aa;have Bm:=Be.ext Aa;have Bn:=Bf.trans Aa;have Bo:=Au.ext Aa;obtain ⟨Av,s3,L3,rfl,Ax,Bq,Br,Ay⟩:=Bg.out;refine AUz [.bool Av,s3] AT6 rfl rfl rfl rfl (Abb Ax.cap) Bm fun Cf Bt Ac=>?_;have Bu:=Bj.thenUpd Ac (fun k hk=>by have Ak:k=Ad:=hk;omega);have Cg:=Ac.1;have Ch:=Bi.thenUpd Ac (fun k hk=>by have Ak:k=Ad:=hk;omega);have Ci:=Bn.thenUpd Ac (fun k hk=>by have Ak:k=Ad:=hk;omega);have Cj:=Bl.thenUpd Ac (fun k hk=>by have Ak:k=Ad:=hk;omega);have Ck:=Bo.updLo Ac AGh;have Bv:=Ax.updLo Ac AGh;refine AGq (AGy (⟨_,AU6 AT6 rfl rfl Bt,?_⟩));exact ⟨Bu,⟨Av,s3,L3,rfl,Bv.mono AGh,Bq,Br,by first | (rw [<- Ay,Ar,hza];done) | (rw [<- Ay,Ar,hza];cases na <;> simp [sgn])⟩⟩
def Ae0 (a b:Nat):Int:=if a < b then -1 else if a=b then 0 else 1
theorem Aby {a b:Nat} (h:a < b):Ae0 a b= -1:=if_pos h
theorem Abz {a b:Nat} (h:b < a):Ae0 a b=1:=by unfold Ae0;rw [if_neg AGh,if_neg AGh]
theorem Aik {a b:Nat} (h:a=b):Ae0 a b=0:=by unfold Ae0;rw [if_neg AGh,if_pos h]
theorem Ab0 {A B:List Nat} (ha:Dig A) (hb:TL B) (h:A.length < B.length):nv A < nv B:=by
 have h1:=Aet ha;have h2:=A21 hb (fun he=>by rw [he] at h;simp at h);have h3:4294967296 ^ A.length<=4294967296 ^ (B.length - 1):=Nat.pow_le_pow_right AGj AGh;omega
theorem Ab1 {A B:List Nat} (ha:Dig A) (hb:Dig B) {i x y:Nat} (hl:A.length=B.length) (hx:A[i]? =some x) (hy:B[i]? =some y) (hxy:x < y) (hs:∀ q,i < q->A[q]? =B[q]?):nv A < nv B:=by
 have hi:=(List.getElem?_eq_some_iff.1 hx).1;have hd:A.drop (i + 1)=B.drop (i + 1):=List.ext_getElem? fun q=>by rw [List.getElem?_drop,List.getElem?_drop];exact hs _ AGh
 have e:∀ L:List Nat,nv L=nv (L.take (i + 1)) + 4294967296 ^ (L.take (i + 1)).length * nv (L.drop (i + 1)):=fun L=>by rw [<- Amo,List.take_append_drop]
 rw [e A,e B,hd,AUr hx,AUr hy,List.length_take,List.length_take,hl];have h1:=Aih ha (i:=i) AGh;have h2:4294967296 ^ i * (x + 1)<=4294967296 ^ i * y:=Nat.mul_le_mul_left _ hxy;rw [Nat.mul_add,Nat.mul_one] at h2;omega
theorem Anc {h:AGs} {la lb:Nat} {va vb:Value} {LA LB:List Nat} (HA:DS h la va LA) (HB:DS h lb vb LB) (hta:TL LA) (htb:TL LB) (hna:LA.length<=1000000) (hnb:LB.length<=1000000):ATt Tryz.prog 183 #[va,vb] h fun x h'=>h'=h/\x= .int .i64 (Ae0 (nv LA) (nv LB)):=by
 refine AT4 (l:=[_,_]) mx Tryz.func183 rfl rfl rfl rfl rfl AGv (AGl (AGw (AGn (AGo (AGl (AGi (AUl ATe rfl HA (AGi (AUl ATe rfl HB (AW7 rfl rfl (fun Ac=>?_) (fun Ac=>?_)))))))))))
 ·refine AGw (ATn rfl (AGl (AGw (AGy (AUf (ATb (⟨_,AS1,?_⟩)))))))
  first
  | exact ⟨rfl,congrArg (Value.int .i64) (Aby (Ab0 HA.dig htb AGh)).symm⟩
  | exact ⟨rfl,congrArg (Value.int .i64) (Abz (Ab0 HB.dig hta AGh)).symm⟩
  | exact ⟨rfl,congrArg (Value.int .i64) (Aby (Ab1 HA.dig HB.dig AGh hx hy AGh (fun q hq=>hsame q AGh))).symm⟩
  | exact ⟨rfl,congrArg (Value.int .i64) (Abz (Ab1 HB.dig HA.dig AGh hy hx AGh (fun q hq=>(hsame q AGh).symm))).symm⟩
  | exact ⟨rfl,congrArg (Value.int .i64) (Aik (congrArg nv (List.ext_getElem? fun q=>hsame q AGh))).symm⟩
 ·refine AGw (ATp rfl (AGl (AGi (AUl ATe rfl HA (AGi (AUl ATe rfl HB (Ai6 rfl rfl (fun Ad=>?_) (fun Ad=>?_))))))))
  ·refine AGw (ATn rfl (AGl (AGw (AGy (AUf (ATb (⟨_,AS1,?_⟩)))))))
   first
   | exact ⟨rfl,congrArg (Value.int .i64) (Aby (Ab0 HA.dig htb AGh)).symm⟩
   | exact ⟨rfl,congrArg (Value.int .i64) (Abz (Ab0 HB.dig hta AGh)).symm⟩
   | exact ⟨rfl,congrArg (Value.int .i64) (Aby (Ab1 HA.dig HB.dig AGh hx hy AGh (fun q hq=>hsame q AGh))).symm⟩
   | exact ⟨rfl,congrArg (Value.int .i64) (Abz (Ab1 HB.dig HA.dig AGh hy hx AGh (fun q hq=>(hsame q AGh).symm))).symm⟩
   | exact ⟨rfl,congrArg (Value.int .i64) (Aik (congrArg nv (List.ext_getElem? fun q=>hsame q AGh))).symm⟩
  ·refine AGw (ATp rfl (AGx (q_b (q_t (AGn (AGl (AGi (AUl ATe rfl HA (Aeb rfl rfl AGh AGh (AGw (AGo (AXt 35184369991728 (fun i:Nat=>[(5,.int .i64 ((i:Int) - 1))]) (fun k i h'=>h'=h/\i=k/\i<=LA.length/\ ∀ q,i<=q->LA[q]? =LB[q]?) AGv LA.length LA.length ?_ ⟨rfl,trivial⟩ ?_))))))))))))
   ·exact ⟨rfl,rfl,Nat.le_refl _,fun q hq=>by rw [List.getElem?_eq_none hq,List.getElem?_eq_none AGh]⟩
   rintro k i s1 h ⟨rfl,rfl,hi,hsame⟩;refine AGn (AGl (AGi (Al1 rfl rfl (fun Ae=>?_) (fun Ae=>?_))))
   ·refine AGq (ATn rfl (AGx (q_t (AGn (AGo (AGo (AGn ?_)))))));obtain ⟨x,hx⟩:∃ x,LA[i - 1]? =some x:=⟨_,List.getElem?_eq_getElem AGh⟩;obtain ⟨y,hy⟩:∃ y,LB[i - 1]? =some y:=⟨_,List.getElem?_eq_getElem AGh⟩;have e1:((i:Int) - 1)=((i - 1:Nat):Int):=by omega
    refine Aic AGv (AGi (AGi (Aau (n:=i - 1) ATe rfl HA (show Value.int .i64 ((i:Int) - 1)=_ by rw [e1]) hx fun a1 Af=>?_)));refine ATz AU7 rfl Af (AGi (AGi (Aau (n:=i - 1) ATe rfl HB (show Value.int .i64 ((i:Int) - 1)=_ by rw [e1]) hy fun a2 Ag=>?_)));refine ATz AU7 rfl Ag (AW7 rfl rfl (fun Ah=>?_) (fun Ah=>?_))
    ·refine AGw (ATn rfl (AGl (AGw (AGy (AUf (AUf (ATb (ATb (AUf (ATb (⟨_,AS1,?_⟩)))))))))))
     first
     | exact ⟨rfl,congrArg (Value.int .i64) (Aby (Ab0 HA.dig htb AGh)).symm⟩
     | exact ⟨rfl,congrArg (Value.int .i64) (Abz (Ab0 HB.dig hta AGh)).symm⟩
     | exact ⟨rfl,congrArg (Value.int .i64) (Aby (Ab1 HA.dig HB.dig AGh hx hy AGh (fun q hq=>hsame q AGh))).symm⟩
     | exact ⟨rfl,congrArg (Value.int .i64) (Abz (Ab1 HB.dig HA.dig AGh hy hx AGh (fun q hq=>(hsame q AGh).symm))).symm⟩
     | exact ⟨rfl,congrArg (Value.int .i64) (Aik (congrArg nv (List.ext_getElem? fun q=>hsame q AGh))).symm⟩
    ·refine AGw (ATp rfl (AGn (Aic AGv (AGi (AGi (Aau (n:=i - 1) ATe rfl HA (show Value.int .i64 ((i:Int) - 1)=_ by rw [e1]) hx fun a3 Ai=>?_))))));refine ATz AU7 rfl Ai (AGi (AGi (Aau (n:=i - 1) ATe rfl HB (show Value.int .i64 ((i:Int) - 1)=_ by rw [e1]) hy fun a4 Aj=>?_)));refine ATz AU7 rfl Aj (Ai6 rfl rfl (fun Ak=>?_) (fun Ak=>?_))
     ·refine AGw (ATn rfl (AGl (AGw (AGy (AUf (AUf (ATb (ATb (AUf (ATb (⟨_,AS1,?_⟩)))))))))))
      first
      | exact ⟨rfl,congrArg (Value.int .i64) (Aby (Ab0 HA.dig htb AGh)).symm⟩
      | exact ⟨rfl,congrArg (Value.int .i64) (Abz (Ab0 HB.dig hta AGh)).symm⟩
      | exact ⟨rfl,congrArg (Value.int .i64) (Aby (Ab1 HA.dig HB.dig AGh hx hy AGh (fun q hq=>hsame q AGh))).symm⟩
      | exact ⟨rfl,congrArg (Value.int .i64) (Abz (Ab1 HB.dig HA.dig AGh hy hx AGh (fun q hq=>(hsame q AGh).symm))).symm⟩
      | exact ⟨rfl,congrArg (Value.int .i64) (Aik (congrArg nv (List.ext_getElem? fun q=>hsame q AGh))).symm⟩
     ·refine AGw (ATp rfl (AGx (q_b (q_b (q_t (AS3 (AGi (Aeb rfl rfl AGh AGh (AGw ?_)))))))));exact ⟨i - 1,i - 1,AGh,⟨rfl,rfl,AGh,fun q hq=>by rcases Nat.lt_or_ge q i with h2 | h2;obtain rfl:q=i - 1:=AGh;rw [hx,hy];congr 1;omega;exact hsame q h2⟩,by rw [show ((i - 1:Nat):Int) - 1=(i:Int) - 1 - 1 by omega];rfl,trivial⟩
   ·refine AGq (ATp rfl (AS9 (ATa (ATa (AT9 (q_t (AGl (AGw (AGy (⟨_,AS1,?_⟩))))))))))
    first
    | exact ⟨rfl,congrArg (Value.int .i64) (Aby (Ab0 HA.dig htb AGh)).symm⟩
    | exact ⟨rfl,congrArg (Value.int .i64) (Abz (Ab0 HB.dig hta AGh)).symm⟩
    | exact ⟨rfl,congrArg (Value.int .i64) (Aby (Ab1 HA.dig HB.dig AGh hx hy AGh (fun q hq=>hsame q AGh))).symm⟩
    | exact ⟨rfl,congrArg (Value.int .i64) (Abz (Ab1 HB.dig HA.dig AGh hy hx AGh (fun q hq=>(hsame q AGh).symm))).symm⟩
    | exact ⟨rfl,congrArg (Value.int .i64) (Aik (congrArg nv (List.ext_getElem? fun q=>hsame q AGh))).symm⟩
theorem As6 {h:AGs} {la lb:Nat} {va vb:Value} {LA LB:List Nat} (HA:DS h la va LA) (HB:DS h lb vb LB) (hna:LA.length<=1000) (hnb:LB.length<=1000):ATt Tryz.prog 175 #[va,vb] h fun x h'=>Ext h h'/\ ∃ L,DS h' (Array.size h) x L/\TL L/\nv L=nv LA + nv LB/\L.length<=1001:=by
 refine AT4 (l:=[_,_]) mx Tryz.func175 rfl rfl rfl rfl rfl AGv (AGl (AGw (Alx 65027 (fun y:Value × Value × List Nat × List Nat=>[(0,y.1),(1,y.2.1)]) (fun y h'=>h'=h/\DS h 0 y.1 y.2.2.1/\DS h 0 y.2.1 y.2.2.2/\y.2.2.2.length<=y.2.2.1.length/\y.2.2.1.length<=1000/\nv y.2.2.1 + nv y.2.2.2=nv LA + nv LB) AGv ?_ ?_)))
 ·refine AGl (AGi (AUl ATe rfl HA (AGi (AUl ATe rfl HB (AW7 rfl rfl (fun Ao=>?_) (fun Ao=>?_))))))
  ·refine AGq (ATn rfl (AS3 (AGi (AGi (ATi (AGw ?_))))));exact ⟨(_,_,LB,LA),⟨rfl,HB.mono (Nat.zero_le _),HA.mono (Nat.zero_le _),by first | omega | (dsimp only;omega),hnb,Nat.add_comm _ _⟩,rfl,rfl,trivial⟩
  ·refine AGq (ATp rfl (AGx (q_t ?_)));exact ⟨(_,_,LA,LB),⟨rfl,HA.mono (Nat.zero_le _),HB.mono (Nat.zero_le _),by first | omega | (dsimp only;omega),hna,rfl⟩,rfl,rfl,trivial⟩
 rintro ⟨A9,Ba,A,B⟩ s0 h ⟨rfl,HX,HY,hBA,Ap,hsum⟩;dsimp only at HX HY hBA Ap hsum ⊢;refine AGl (AGi (AUl ATe rfl HX (Agw (b:=1) rfl rfl AGh (Aq2 (n:=A.length + 1) ATe Ac9 (fun _=>trivial) rfl rfl AGj AGh fun g1 v1 h1 Aq E1 Ar Be=>?_))));have Bf:=E1.1;have Z2:=(Ext.refl h).trans E1;refine ATx (AGw (AGn (AGl (AGi (AUl ATe rfl (HY.ext E1) (AGi (AGq (AGo (AXt 70368739983552 (fun y:Nat × Nat=>[(22,.int .i64 (y.1:Int)),(6,.int .u64 (y.2:Int))]) (fun k y h'=>k=B.length - y.1/\y.1<=B.length/\Ext h h'/\y.2<=1/\ ∃ D,AV1 h' 170 g1 v1 ((D ++ List.replicate ((A.length + 1) - y.1) 0).map Ae4)/\D.length=y.1/\Dig D/\nv D + 4294967296 ^ y.1 * y.2=nv (A.take y.1) + nv (B.take y.1)) AGv B.length (0,0) ?_ ⟨rfl,rfl,trivial⟩ ?_)))))))))
 ·exact ⟨rfl,Nat.zero_le _,E1,by first | omega | (dsimp only;omega),[],by simpa using Aq,rfl,fun x hx=>(by simp at hx),rfl⟩
 rintro k ⟨i,c⟩ s1 h2 ⟨rfl,hi,E2,hc,D,Ag,hDl,hDd,hDv⟩;dsimp only at hi hc Ag hDl hDv ⊢;have Bi:=E2.1;refine AGl (AW7 rfl rfl (fun Au=>?_) (fun Au=>?_))
 ·refine AGq (AGn (ATn rfl (AGx (q_t (AGn (AGo (AGl (AGi (AGw (AGn ?_))))))))));obtain ⟨x,hx⟩:∃ x,A[i]? =some x:=⟨_,List.getElem?_eq_getElem AGh⟩;have hbx:=HX.dig x (List.mem_of_getElem? hx);obtain ⟨y,hy⟩:∃ x,B[i]? =some x:=⟨_,List.getElem?_eq_getElem AGh⟩;have hby:=HY.dig y (List.mem_of_getElem? hy);refine Aic AGv (AGi (AGi (AGi (Aau ATe rfl (HX.ext E2) rfl hx fun Bj Av=>ATz AU7 rfl Av (Ajp AVs AVf rfl hbx (AGi (AGi (Aau ATe rfl (HY.ext E2) rfl hy fun Bl Aw=>ATz AU7 rfl Aw (Ajp AVs AVf rfl hby (Af4 rfl rfl AGh (Af4 rfl rfl AGh (ATx (AGi (AGi (AGi (Alh AVf AVs rfl (Aj1 ATe rfl Ag rfl (by simp;omega) ?_)))))))))))))))));refine Alg (D ++ [(c + (x + y)) % 4294967296] ++ List.replicate (A.length + 1 - (i + 1)) 0) AU7 rfl rfl Ag (by simp;omega) (Ap4 hDl AGh) fun h4 Ax U4=>?_;have Bn:=U4.1;have X7:=E2.thenUpd U4 (fun k hk=>by have Ad:k=g1:=hk;omega);have Z8:=E2.thenUpd U4 (fun k hk=>by have Ad:k=g1:=hk;omega);refine AGq (AS3 (AGi (Akt rfl rfl (ATi (ATf (q_b (q_t (AS3 (Abp rfl AGh (AGi (AGq ?_)))))))))));exact ⟨B.length - (i + 1),(i + 1,(c + (x + y)) / 4294967296),by first | omega | (dsimp only;omega),⟨rfl,by first | omega | (dsimp only;omega),X7,by first | omega | (dsimp only;omega),_,Ax,by simp [hDl],Aed hDd (Nat.mod_lt _ AGj),by rw [Ac4,hDl,Aku hDv,AUr hx,AUr hy,Nat.mul_add];omega⟩,rfl,rfl,trivial⟩
 ·refine AGq (AGn (ATp rfl (AS9 (ATa (ATa (AT9 (q_t (AGn (AGl (AGi (AUl ATe rfl (HX.ext E2) (AGi (AUl ATe rfl (HY.ext E2) (Aeb rfl rfl AGh AGh ?_))))))))))))));rw [show ((A.length:Nat):Int) - ((B.length:Nat):Int)=((A.length - B.length:Nat):Int) by omega];refine AGi (AGq (AGo ?_));obtain rfl:i=B.length:=by omega
  rw [List.take_length] at hDv;refine AXt 37778929611157348024640 (fun y:Nat × Nat=>[(51,.int .i64 (y.1:Int)),(6,.int .u64 (y.2:Int))]) (fun k y h'=>k=A.length - B.length - y.1/\y.1<=A.length - B.length/\Ext h h'/\y.2<=1/\ ∃ D,AV1 h' 170 g1 v1 ((D ++ List.replicate ((A.length + 1) - (B.length + y.1)) 0).map Ae4)/\D.length=B.length + y.1/\Dig D/\nv D + 4294967296 ^ (B.length + y.1) * y.2=nv (A.take (B.length + y.1)) + nv B) AGv (A.length - B.length) (0,c) ?_ ⟨rfl,rfl,trivial⟩ ?_
  ·exact ⟨rfl,Nat.zero_le _,E2,hc,D,Ag,hDl,hDd,hDv⟩
  rintro k ⟨j,c⟩ s2 h3 ⟨rfl,hj,E3,hc,D,Ae,hDl,hDd,hDv⟩;dsimp only at hj hc Ae hDl hDv ⊢;have Bq:=E3.1;refine AGl (AW7 rfl rfl (fun Az=>?_) (fun Az=>?_))
  ·refine AGq (AGn (ATn rfl (AGx (q_t (AGn (AGo (AGl (AGi (AGw (AGn ?_))))))))));obtain ⟨x,hx⟩:∃ x,A[(B.length + j)]? =some x:=⟨_,List.getElem?_eq_getElem AGh⟩;have hbx:=HX.dig x (List.mem_of_getElem? hx);refine AS3 (AGi (AGi (AGi (AUl ATe rfl (HY.ext E3) (AGi (Agw rfl rfl AGh (Aau ATe rfl (HX.ext E3) rfl hx fun Br A3=>ATz AU7 rfl A3 (Ajp AVs AVf rfl hbx (Af4 rfl rfl AGh (ATx (AGi (AGi (AUl ATe rfl (HY.ext E3) (AGi (Agw rfl rfl AGh (AGi (Alh AVf AVs rfl (Aj1 ATe rfl Ae rfl (by simp;omega) ?_))))))))))))))))));refine Alg (D ++ [(c + x) % 4294967296] ++ List.replicate (A.length + 1 - (B.length + j + 1)) 0) AU7 rfl rfl Ae (by simp;omega) (Ap4 hDl AGh) fun h5 A4 U5=>?_;have Bu:=U5.1;have A5:=E3.thenUpd U5 (fun k hk=>by have Ad:k=g1:=hk;omega);have Bv:=E3.thenUpd U5 (fun k hk=>by have Ad:k=g1:=hk;omega);refine AGq (AS3 (AGi (Akt rfl rfl (ATi (ATf (q_b (q_t (AS3 (Abp rfl AGh (AGi (AGq ?_)))))))))));exact ⟨A.length - B.length - (j + 1),(j + 1,(c + x) / 4294967296),by first | omega | (dsimp only;omega),⟨rfl,by first | omega | (dsimp only;omega),A5,by first | omega | (dsimp only;omega),_,A4,by simp [hDl];omega,Aed hDd (Nat.mod_lt _ AGj),by rw [Ac4,hDl,<- Nat.add_assoc,Aku hDv,AUr hx];omega⟩,rfl,rfl,trivial⟩
  ·refine AGq (AGn (ATp rfl (AS9 (ATa (ATa (AT9 (q_t (AGn ?_))))))));obtain rfl:j=A.length - B.length:=by omega
   have hBj:B.length + (A.length - B.length)=A.length:=by omega
   rw [hBj,List.take_length] at hDv;rw [hBj] at hDl;refine AS3 (AGi (AGi (AUl ATe rfl (HX.ext E3) (AGi (Alh AVf AVs rfl (Aj1 ATe rfl Ae rfl (by simp;omega) ?_))))));refine Alg (D ++ [c % 4294967296] ++ List.replicate (A.length + 1 - (A.length + 1)) 0) AU7 rfl rfl Ae (by simp;omega) (by rw [hBj];exact Ap4 hDl AGh) fun h6 Ak U6=>?_;have Bw:=U6.1;have A7:=E3.thenUpd U6 (fun k hk=>by have Ad:k=g1:=hk;omega);have Bx:=E3.thenUpd U6 (fun k hk=>by have Ad:k=g1:=hk;omega);rw [Nat.sub_self,List.replicate_zero,List.append_nil,Nat.mod_eq_of_lt AGh] at Ak;have Am:=Ak.ds (lo:=Array.size h) (Aed hDd AGh) Ar;refine AZf (AGi (ATc trivial rfl (Ad5 (Am.mono (Nat.zero_le _)) (by simp;omega)) fun By h6 hk=>?_));obtain ⟨rfl,L2,HT,htl⟩:=hk;refine ⟨trivial,?_⟩;refine AGw (AGy (⟨_,AS1,?_⟩));exact ⟨A7,L2,HT.ds Am.lo,htl,by rw [HT.val,Ac4,hDl,hDv];exact hsum,by have:=HT.len;simp at this;omega⟩
theorem Apc {h:AGs} {la lb:Nat} {va vb:Value} {LA LB:List Nat} (HA:DS h la va LA) (HB:DS h lb vb LB) (htb:TL LB) (hle:nv LB<=nv LA) (hna:LA.length<=1000):ATt Tryz.prog 176 #[va,vb] h fun x h'=>Ext h h'/\ ∃ L,DS h' (Array.size h) x L/\TL L/\nv L=nv LA - nv LB/\L.length<=LA.length:=by
 refine AT4 (l:=[_,_]) mx Tryz.func176 rfl rfl rfl rfl rfl AGv (AGl (ATx (AGi (AUl ATe rfl HA (Aq2 (n:=LA.length) ATe Ac9 (fun _=>trivial) rfl rfl AGj AGh fun g1 v1 h1 Aj E1 Ak Az=>?_)))));have A3:=E1.1;have Z2:=(Ext.refl h).trans E1;refine ATx (AGw (AGn (AGl (AGi (AUl ATe rfl (HA.ext E1) (AGi (AGq (AGo (AXt 8796093006272 (fun y:Nat × Nat=>[(14,.int .i64 (y.1:Int)),(6,.int .u64 (y.2:Int))]) (fun k y h'=>k=LA.length - y.1/\y.1<=LA.length/\Ext h h'/\y.2<=1/\ ∃ D,AV1 h' 170 g1 v1 ((D ++ List.replicate (LA.length - y.1) 0).map Ae4)/\D.length=y.1/\Dig D/\nv D + nv (LB.take y.1)=nv (LA.take y.1) + 4294967296 ^ y.1 * y.2) AGv LA.length (0,0) ?_ ⟨rfl,rfl,trivial⟩ ?_)))))))))
 ·exact ⟨rfl,Nat.zero_le _,E1,by first | omega | (dsimp only;omega),[],by simpa using Aj,rfl,fun x hx=>(by simp at hx),rfl⟩
 rintro k ⟨i,c⟩ s1 h2 ⟨rfl,hi,E2,hc,D,Ab,hDl,hDd,hDv⟩;dsimp only at hi hc Ab hDl hDv ⊢;have A5:=E2.1;refine AGl (AW7 rfl rfl (fun Am=>?_) (fun Am=>?_))
 ·refine AGq (AGn (ATn rfl (AGx (q_t (AGn (AGo (AGl (AGi (AGw (AGn ?_))))))))));obtain ⟨x,hx⟩:∃ x,LA[i]? =some x:=⟨_,List.getElem?_eq_getElem AGh⟩;have hbx:=HA.dig x (List.mem_of_getElem? hx);refine AS3 (AGi (AGi (Aau ATe rfl (HA.ext E2) rfl hx fun A6 Ao=>ATz AU7 rfl Ao (Ajp AVs AVf rfl hbx (AGi (AVe rfl rfl ?_))))));rw [wrap_u64];refine AGw (Alx 34342961408 (fun s:Int=>[(8,.int .u64 (s % 18446744073709551616))]) (fun s h'=>h'=h2/\s=((x:Int) - (c:Int) - ((LB[i]?.getD 0:Nat):Int))) AGv ?_ ?_)
  ·refine AGl (AGi (AGi (AUl ATe rfl (HB.ext E2) (AW7 rfl rfl (fun Ap=>?_) (fun Ap=>?_)))))
   ·refine AGq (ATn rfl ?_);obtain ⟨y,Af⟩:∃ y,LB[i]? =some y:=⟨_,List.getElem?_eq_getElem AGh⟩;have hby:=HB.dig y (List.mem_of_getElem? Af);refine AS3 (AGi (AGi (AGi (Aau ATe rfl (HB.ext E2) rfl Af fun A7 Aq=>ATz AU7 rfl Aq (Ajp AVs AVf rfl hby (AVe rfl rfl (AGw ?_)))))));exact ⟨((x:Int) - (c:Int) - ((LB[i]?.getD 0:Nat):Int)),⟨rfl,rfl⟩,by rw [Af];show Value.int .u64 _=_;congr 1;rw [wrap_u64];simp only [Option.getD_some];omega,trivial⟩
   ·refine AGq (ATp rfl (AGx (q_t ?_)));exact ⟨((x:Int) - (c:Int) - ((LB[i]?.getD 0:Nat):Int)),⟨rfl,rfl⟩,by rw [List.getElem?_eq_none AGh];show Value.int .u64 _=_;congr 1;simp only [Option.getD_none];omega,trivial⟩
  rintro s s2 h2 ⟨rfl,hs⟩;obtain ⟨y,hy⟩:∃ y,LB[i]?.getD 0=y:=⟨_,rfl⟩;rw [hy] at hs;refine AGn ?_
  have hby:y < 4294967296:=by
    rw [<- hy]
    cases hq:LB[i]? with
    | none=>simp
    | some q=>exact HB.dig q (List.mem_of_getElem? hq)
  refine AS3 (AGi (AGi (AGi (Aea AVf AVs rfl ?_))));obtain ⟨dg,hdg⟩:∃ dg:Nat,(dg:Int)=s % 4294967296:=⟨(s % 4294967296).toNat,AGh⟩;rw [show IntKind.u32.wrap (s % 18446744073709551616)=(dg:Int) by rw [wrap_u32,hdg];omega];refine Aj1 ATe rfl Ab rfl (by simp;omega) ?_;refine Alg (D ++ [dg] ++ List.replicate (LA.length - (i + 1)) 0) AU7 rfl rfl Ab (by simp;omega) (Ap4 hDl AGh) fun h4 Ar U4=>?_;have A9:=U4.1;have X7:=E2.thenUpd U4 (fun k hk=>by have Av:k=g1:=hk;omega);have Z8:=E2.thenUpd U4 (fun k hk=>by have Av:k=g1:=hk;omega);refine AGq (AS3 (AGi (Apn (n:=63) rfl rfl AGj ?_)));rw [show s % 18446744073709551616 / 2 ^ 63=((if s < 0 then 1 else 0:Nat):Int) by split <;> omega];refine ATi (ATf (q_b (q_t (AS3 (Abp rfl AGh (AGi (AGq ?_)))))));exact ⟨LA.length - (i + 1),(i + 1,if s < 0 then 1 else 0),by first | omega | (dsimp only;omega),⟨rfl,by first | omega | (dsimp only;omega),X7,by dsimp only;split <;> omega,_,Ar,by simp [hDl],Aed hDd AGh,by rw [Ac4,hDl,Ac5 LB,hy,AUr hx];exact Al6 hDv (by split <;> omega)⟩,rfl,rfl,trivial⟩
 ·refine AGq (AGn (ATp rfl (AS9 (ATa (ATa (AT9 (q_t (AGn ?_))))))));obtain rfl:i=LA.length:=by omega
  rw [List.take_length,List.take_of_length_le (by have:=Adv htb (Nat.lt_of_le_of_lt hle (Aet HA.dig));omega)] at hDv;have hDlt:=Aet hDd;rw [hDl] at hDlt
  have Aw:c=0:=by
    rcases Nat.eq_zero_or_pos c with h0 | h0
    · exact h0
    · obtain rfl:c=1:=by omega
      rw [Nat.mul_one] at hDv;omega
  subst Aw;rw [Nat.mul_zero,Nat.add_zero] at hDv;rw [Nat.sub_self,List.replicate_zero,List.append_nil] at Ab;have Ai:=Ab.ds (lo:=Array.size h) hDd Ak;refine AS3 (AGi (ATc trivial rfl (Ad5 (Ai.mono (Nat.zero_le _)) AGh) fun x9 h2 hk=>?_));obtain ⟨rfl,L2,HT,htl⟩:=hk;refine ⟨trivial,?_⟩;refine AGw (AGy (⟨_,AS1,?_⟩));exact ⟨E2,L2,HT.ds Ai.lo,htl,by rw [HT.val];omega,by have:=HT.len;omega⟩
theorem A4j {L:List Nat} (h:Dig L) (hl:L.length<=1):nv L<=4294967295:=by
 have h1:=Aet h;have h2:4294967296 ^ L.length<=4294967296 ^ 1:=Nat.pow_le_pow_right AGj hl;omega
theorem A4k {A B:List Nat} (ha:Dig A) (hb:Dig B) (la:A.length<=1) (lb:B.length<=1):nv A * nv B < 18446744073709551616:=by
 have:=Nat.mul_le_mul (A4j ha la) (A4j hb lb);omega
theorem Agx {a b:Nat} (h:0<=Ae0 a b):b<=a:=by
 unfold Ae0 at h;split at h
 ·omega
 ·omega
theorem Aky {a b:Nat} (h:Ae0 a b < 0):a<=b:=by
 unfold Ae0 at h;split at h
 ·omega
 ·split at h <;> omega
theorem Aq7 {A B:List Nat} (ha:Dig A) (hb:Dig B) (la:A.length<=99) (lb:B.length<=99):nv A + nv B < 4294967296 ^ 100:=by
 have h1:=Aet ha;have h2:=Aet hb;have h3:4294967296 ^ A.length<=4294967296 ^ 99:=Nat.pow_le_pow_right AGj la;have h4:4294967296 ^ B.length<=4294967296 ^ 99:=Nat.pow_le_pow_right AGj lb;have h5:4294967296 ^ 100=4294967296 ^ 99 * 4294967296:=Nat.pow_succ 4294967296 99;rw [h5];have h6:0 < 4294967296 ^ 99:=Nat.pow_pos AGj;generalize 4294967296 ^ 99=t at *;omega
theorem Akz {a b:Bool} {x y:Nat} (h:a=b):sgn a x + sgn b y=sgn a (x + y):=by
 subst h;cases a <;> simp [sgn] <;> omega
theorem Ak0 {a b:Bool} {x y:Nat} (h:a≠b) (hl:y<=x):sgn a x + sgn b y=sgn a (x - y):=by
 cases a <;> cases b <;> simp [sgn] at h ⊢ <;> omega
theorem Ail {a b:Bool} {x y:Nat} (h:a≠b) (hl:x<=y):sgn a x + sgn b y=sgn b (y - x):=by
 cases a <;> cases b <;> simp [sgn] at h ⊢ <;> omega
theorem Aui {h:AGs} {la lb:Nat} {va vb:Value} {LA LB:List Nat} (na nb:Bool) (HA:DS h la va LA) (HB:DS h lb vb LB) (hta:TL LA) (htb:TL LB) (hna:LA.length<=99) (hnb:LB.length<=99):ATt Tryz.prog 182 #[.bool na,va,.bool nb,vb] h fun x h'=>Ext h h'/\ZV h' (Array.size h) x (sgn na (nv LA) + sgn nb (nv LB)):=by
 refine AT4 (l:=[_,_,_,_]) mx Tryz.func182 rfl rfl rfl rfl rfl AGv (AGl (AYm [.bool false,.slice none 0 0] AW9 rfl (fun _=>trivial) fun Ab h2 V3 E4 A8 Cg=>?_));have Ch:Array.size h<=Ab:=A8;have Ci:=E4.1;have Z8:=(Ext.refl h).trans E4;refine AGq (AGn (AGo (AGl (AGi (AGi (Aq0 Akw rfl rfl ?_))))));cases Cj:na == nb
 ·refine AGw (ATp rfl (AGl (AGi (AGi (ATc trivial rfl (Anc (HA.ext E4) (HB.ext E4) hta htb AGh AGh) fun x9 h2 hk=>?_)))));obtain ⟨rfl,rfl⟩:=hk;refine ⟨trivial,?_⟩;refine Al1 rfl rfl (fun A9=>?_) (fun A9=>?_)
  ·refine AGw (ATn rfl (AGl (AGi (AGi (AGi (ATc trivial rfl (Apc (HA.ext E4) (HB.ext E4) htb (Agx (by assumption)) AGh) fun Cm Cn hk=>?_))))));obtain ⟨Aq,L1,Ac,Ag,Ah,A6⟩:=hk;refine ⟨trivial,?_⟩;have Co:=Aq.1;have Ba:=Z8.trans Aq;have Bb:=E4.trans Aq;have Bc:=V3.ext Aq;have Be:=E4.trans Aq;refine ATc trivial rfl (Abu na Ac Ag AGh) fun Cp Cq hk=>?_;obtain ⟨Ai,Ar⟩:=hk;refine ⟨trivial,?_⟩;have Cr:=Ai.1;have Bf:=Ba.trans Ai;have Bg:=Bb.trans Ai;have Bh:=Bc.ext Ai;have Bi:=Be.trans Ai;have Bj:=Ac.ext Ai;obtain ⟨Ad,s2,L2,rfl,Ae,Av,Aw,Ax⟩:=Ar.out;refine AUz [.bool Ad,s2] AT6 rfl rfl rfl rfl (Abb Ae.cap) Bh fun Ct Bl Aj=>?_;have Bm:=Bg.thenUpd Aj (fun k hk=>by have Af:k=Ab:=hk;omega);have Cu:=Aj.1;have Cv:=Bf.thenUpd Aj (fun k hk=>by have Af:k=Ab:=hk;omega);have Cw:=Bi.thenUpd Aj (fun k hk=>by have Af:k=Ab:=hk;omega);have Cx:=Bj.updLo Aj AGh;have Bn:=Ae.updLo Aj AGh;refine AGq (AGy (AUf (ATb (⟨_,AU6 AT6 rfl rfl Bl,?_⟩))));exact ⟨Bm,⟨Ad,s2,L2,rfl,Bn.mono AGh,Av,Aw,by rw [<- Ax,Ah];first | exact Akz (eq_of_beq (by assumption)) | exact Ak0 (ne_of_beq_false (by assumption)) (Agx (by assumption)) | exact Ail (ne_of_beq_false (by assumption)) (Aky (by assumption))⟩⟩
  ·refine AGw (ATp rfl (AGx (q_b (q_t (AGl (AGi (AGi (AGi (ATc trivial rfl (Apc (HB.ext E4) (HA.ext E4) hta (Aky (by assumption)) AGh) fun Cy Cz hk=>?_)))))))));obtain ⟨Ay,L1,Ac,Ag,Ah,A6⟩:=hk;refine ⟨trivial,?_⟩;have C0:=Ay.1;have Bo:=Z8.trans Ay;have Bp:=E4.trans Ay;have Bq:=V3.ext Ay;have Br:=E4.trans Ay;refine ATc trivial rfl (Abu nb Ac Ag AGh) fun C1 C2 hk=>?_;obtain ⟨Ak,Ar⟩:=hk;refine ⟨trivial,?_⟩;have C3:=Ak.1;have Bt:=Bo.trans Ak;have Bu:=Bp.trans Ak;have Bv:=Bq.ext Ak;have Bw:=Br.trans Ak;have Bx:=Ac.ext Ak;obtain ⟨Ad,s2,L2,rfl,Ae,Av,Aw,Ax⟩:=Ar.out;refine AUz [.bool Ad,s2] AT6 rfl rfl rfl rfl (Abb Ae.cap) Bv fun C4 By Am=>?_;have Bz:=Bu.thenUpd Am (fun k hk=>by have Af:k=Ab:=hk;omega);have C5:=Am.1;have C6:=Bt.thenUpd Am (fun k hk=>by have Af:k=Ab:=hk;omega);have C7:=Bw.thenUpd Am (fun k hk=>by have Af:k=Ab:=hk;omega);have C8:=Bx.updLo Am AGh;have B1:=Ae.updLo Am AGh;refine AGq (AGy (⟨_,AU6 AT6 rfl rfl By,?_⟩));exact ⟨Bz,⟨Ad,s2,L2,rfl,B1.mono AGh,Av,Aw,by rw [<- Ax,Ah];first | exact Akz (eq_of_beq (by assumption)) | exact Ak0 (ne_of_beq_false (by assumption)) (Agx (by assumption)) | exact Ail (ne_of_beq_false (by assumption)) (Aky (by assumption))⟩⟩
 ·refine AGw (ATn rfl (AGl (AGi (AGi (AGi (ATc trivial rfl (As6 (HA.ext E4) (HB.ext E4) AGh AGh) fun C9 Da hk=>?_))))));obtain ⟨Az,L1,Ac,Ag,Ah,A6⟩:=hk;refine ⟨trivial,?_⟩;have Db:=Az.1;have B3:=Z8.trans Az;have B4:=E4.trans Az;have B5:=V3.ext Az;have B6:=E4.trans Az;refine ATc trivial rfl (Abu na Ac Ag (Adv Ag (by rw [Ah];exact Aq7 HA.dig HB.dig hna hnb))) fun Dc Dd hk=>?_;obtain ⟨Ao,Ar⟩:=hk;refine ⟨trivial,?_⟩;have De:=Ao.1;have B7:=B3.trans Ao;have B8:=B4.trans Ao;have B9:=B5.ext Ao;have Ca:=B6.trans Ao;have Cb:=Ac.ext Ao;obtain ⟨Ad,s2,L2,rfl,Ae,Av,Aw,Ax⟩:=Ar.out;refine AUz [.bool Ad,s2] AT6 rfl rfl rfl rfl (Abb Ae.cap) B9 fun Df Cd Ap=>?_;have Ce:=B8.thenUpd Ap (fun k hk=>by have Af:k=Ab:=hk;omega);have Dg:=Ap.1;have Dh:=B7.thenUpd Ap (fun k hk=>by have Af:k=Ab:=hk;omega);have Di:=Ca.thenUpd Ap (fun k hk=>by have Af:k=Ab:=hk;omega);have Dj:=Cb.updLo Ap AGh;have Cf:=Ae.updLo Ap AGh;refine AGq (AGy (AUf (ATb (⟨_,AU6 AT6 rfl rfl Cd,?_⟩))));exact ⟨Ce,⟨Ad,s2,L2,rfl,Cf.mono AGh,Av,Aw,by rw [<- Ax,Ah];first | exact Akz (eq_of_beq (by assumption)) | exact Ak0 (ne_of_beq_false (by assumption)) (Agx (by assumption)) | exact Ail (ne_of_beq_false (by assumption)) (Aky (by assumption))⟩⟩
theorem AXe {ng:Bool} {n:Nat} {z:Int} (h:z=sgn ng n):z.natAbs=n:=by
 subst h;cases ng <;> simp [sgn]
theorem Azb (ng:Bool) (n:Nat):sgn (!ng) n= -sgn ng n:=by cases ng <;> simp [sgn]
theorem Sub_ok {h:AGs} {la lb:Nat} {va vb:Value} {a b:Int} (HA:ZV h la va a) (HB:ZV h lb vb b) (hba:a.natAbs < 4294967296 ^ 99) (hbb:b.natAbs < 4294967296 ^ 99):ATt Tryz.prog 170 #[va,vb] h fun x h'=>Ext h h'/\ZV h' (Array.size h) x (a - b):=by
 obtain ⟨na,sa,LA,rfl,HDa,htla,hla,hza⟩:=HA.out;obtain ⟨nb,sb,LB,rfl,HDb,htlb,hlb,hzb⟩:=HB.out;refine AT4 (l:=[_,_]) mx Tryz.func170 rfl rfl rfl rfl rfl AGv (AGl (Abe [.bool na,sa] (fun _=>trivial) rfl rfl fun Aj h2 V3 E4 A8 B3=>?_));have B4:Array.size h<=Aj:=A8;have B5:=E4.1;have Z8:=(Ext.refl h).trans E4;refine Abe [.bool nb,sb] (fun _=>trivial) rfl rfl fun Ak B6 Ar Af Ba B7=>?_;have B8:Array.size h<=Ak:=Nat.le_trans E4.1 Ba;have nebq1bq9:Aj≠Ak:=by have:=V3.lt;omega
 have B9:=Af.1;have Au:=E4.trans Af;have Av:=V3.ext Af;refine AYm [.bool false,.slice none 0 0] AW9 rfl (fun _=>trivial) fun Ab Ah Bb Ac Bc Ca=>?_;have Cb:Array.size h<=Ab:=Nat.le_trans Au.1 Bc;have nebq1bq20:Aj≠Ab:=by have:=Av.lt;omega
 have nebq9bq20:Ak≠Ab:=by have:=Ar.lt;omega
 have Cd:=Ac.1;have Be:=(Z8.trans Af).trans Ac;have Am:=Au.trans Ac;have Aw:=Av.ext Ac;have Bf:=(E4.trans Af).trans Ac;have Ax:=Ar.ext Ac;have Bg:=Af.trans Ac;refine AGq (AGn (AU8 (fun h'=>Ext Ah h') AGv ?_));have Aa:=Ext.refl Ah;refine AXu (fs:=1) Ac1 AGv AGj rfl (AUy AWf rfl Aa (fun h' hb=>(Aw.ext hb).cell (i:=0) rfl) (AXu (fs:=1) Adl AGv AGj rfl (AUy AZn rfl Aa (fun h' hb=>(Aw.ext hb).cell (i:=1) rfl) (ATc Aa rfl (Ad5 (DS.mono (HDa.ext Am) (Nat.zero_le _)) AGh) fun Ce Ah hk=>?_))));obtain ⟨rfl,L1,Ao,Ay⟩:=hk;refine ⟨Aa,?_⟩;have Bh:=Ao.ds (lo:=la) HDa.lo;have Az:=Ao.val;have Cg:=Ao.len;refine AXu (fs:=1) Ac1 AGv AGj rfl (AUy AWf rfl Aa (fun h' hb=>(Ax.ext hb).cell (i:=0) rfl) (AWp rfl (AXu (fs:=1) Adl AGv AGj rfl (AUy AZn rfl Aa (fun h' hb=>(Ax.ext hb).cell (i:=1) rfl) (ATc Aa rfl (Ad5 (DS.mono (HDb.ext Am) (Nat.zero_le _)) AGh) fun Ch Ah hk=>?_)))));obtain ⟨rfl,L2,Ap,A3⟩:=hk;refine ⟨Aa,?_⟩;have Bi:=Ap.ds (lo:=lb) HDb.lo;have A4:=Ap.val;have Cj:=Ap.len;refine ATc Aa rfl (Aui na (!nb) Bh Bi Ay A3 (Adv Ay (by rw [Az,<- AXe hza];exact hba)) (Adv A3 (by rw [A4,<- AXe hzb];exact hbb))) fun Ck Cm hk=>?_;obtain ⟨Ad,Bj⟩:=hk;have Bl:=Aa.trans Ad;refine ⟨Bl,?_⟩;have Cn:=Ad.1;have Bm:=Be.trans Ad;have Bn:=Am.trans Ad;have Bo:=Bf.trans Ad;have Bp:=Bg.trans Ad;have Bq:=Bb.ext Ad;have Br:=Ac.trans Ad;obtain ⟨A5,s3,L3,rfl,A7,Bu,Bv,Bw⟩:=Bj.out;refine AUz [.bool A5,s3] AT6 rfl rfl rfl rfl (Abb A7.cap) Bq fun Co Bx Ae=>?_;have By:=Bn.thenUpd Ae (fun k hk=>by have Ai:k=Ab:=hk;omega);have Cp:=Ae.1;have Cq:=Bm.thenUpd Ae (fun k hk=>by have Ai:k=Ab:=hk;omega);have Cr:=Br.thenUpd Ae (fun k hk=>by have Ai:k=Ab:=hk;omega);have Ct:=Bo.thenUpd Ae (fun k hk=>by have Ai:k=Ab:=hk;omega);have Cu:=Bp.thenUpd Ae (fun k hk=>by have Ai:k=Ab:=hk;omega);have Bz:=A7.updLo Ae AGh;refine AGq (AGy (⟨_,AU6 AT6 rfl rfl Bx,?_⟩));exact ⟨By,⟨A5,s3,L3,rfl,Bz.mono AGh,Bu,Bv,by rw [<- Bw,Az,A4,hza,hzb,Azb];omega⟩⟩
theorem At4 (a b:Bool) (x y:Nat):sgn a x * sgn b y=sgn (!(a == b)) (x * y):=by
 cases a <;> cases b <;> simp [sgn,Int.neg_mul,Int.mul_neg]
theorem Axt {L:List Nat} (h:Dig L) (hl:L.length<=2):nv L < 18446744073709551616:=by
 have h1:=Aet h;have h2:4294967296 ^ L.length<=4294967296 ^ 2:=Nat.pow_le_pow_right AGj hl;omega
theorem Aoa {a b:Nat} (h:Ae0 a b < 0):a < b:=by
 unfold Ae0 at h;split at h
 ·assumption
 ·split at h <;> omega
theorem Aya {h:AGs} {la lb:Nat} {va vb:Value} {LA LB:List Nat} (HA:DS h la va LA) (HB:DS h lb vb LB) (hta:TL LA) (htb:TL LB) (Ar:nv LB≠0) (hna:LA.length<=2) (hnb:LB.length<=2):ATt Tryz.prog 174 #[va,vb] h fun x h'=>Ext h h'/\ ∃ q r,x= .tuple #[q,r]/\ ∃ LQ LR,DS h' (Array.size h) q LQ/\DS h' (Array.size h) r LR/\TL LQ/\TL LR/\nv LQ=nv LA / nv LB/\nv LR=nv LA % nv LB/\LQ.length<=2/\LR.length<=2:=by
 refine AT4 (l:=[_,_]) mx Tryz.func174 rfl rfl rfl rfl rfl AGv (AGl (ATi (AGw (AGn (AGo (AGl (AGi (AGi (ATc trivial rfl (Anc HA HB hta htb AGh AGh) fun x1 h hk=>?_)))))))));obtain ⟨rfl,rfl⟩:=hk;refine ⟨trivial,?_⟩;refine AW7 rfl rfl (fun Am=>?_) (fun Am=>?_)
 ·refine AGw (ATn rfl (AGl (AGi (ATc trivial rfl (Apb HA AGh) fun x2 h3 hk=>?_))));obtain ⟨E4,Aa⟩:=hk;refine ⟨trivial,?_⟩;have Ax:=E4.1;have Z6:=(Ext.refl h).trans E4;refine ATi (AGw (AGy (AUf (ATb (⟨_,AUm,?_⟩)))))
  first
  | (have hlt:=Aoa (by assumption:Ae0 (nv LA) (nv LB) < 0)
     exact ⟨E4,_,_,rfl,[],LA,Aig _ _,Aa,Ajo,hta,by rw [Nat.div_eq_of_lt hlt];rfl,by rw [Nat.mod_eq_of_lt hlt],ATw,AGh⟩)
  | exact ⟨E4,_,_,rfl,L1,L2,lacks_HD1.mono AGh,Aa.mono AGh,Ag,Ah,Ai,Aj,AGh,AGh⟩
 ·refine AGw (ATp rfl (AGl (AGi (AUl ATe rfl HA (Al0 rfl rfl (fun _=>?_) (fun hc=>absurd hc AGh))))));refine AGw (ATn rfl (AGl (AGi (ATc trivial rfl (Aqc HA AGh) fun x7 h hk=>?_))));obtain ⟨rfl,rfl⟩:=hk;refine ⟨trivial,?_⟩;refine AGi (ATc trivial rfl (Aqc HB AGh) fun x8 h hk=>?_);obtain ⟨rfl,rfl⟩:=hk;refine ⟨trivial,?_⟩;refine ATi (AGw (AGn ?_));have hlt:=Axt HA.dig hna;refine Aic AGv (AGi (AGi (Asl rfl rfl AGh ?_)));rw [show IntKind.u64.wrap (((nv LA:Nat):Int).tdiv ((nv LB:Nat):Int))=((nv LA / nv LB:Nat):Int) by rw [Int.tdiv_eq_ediv_of_nonneg AGh,<- Int.natCast_ediv,wrap_u64];have hq:=Nat.div_le_self (nv LA) (nv LB);generalize nv LA / nv LB=q at hq ⊢;omega];refine ATc trivial rfl (Ahe (nv LA / nv LB) (by have:=Nat.div_le_self (nv LA) (nv LB);omega) _) fun x9 A5 hk=>?_;obtain ⟨Ad,L1,Ao,Ag,Ai,A6⟩:=hk;refine ⟨trivial,?_⟩;have A7:=Ad.1;have Ap:=(Ext.refl h).trans Ad;refine AGi (AGi (A2t rfl rfl AGh (ATc trivial rfl (Ahe (nv LA % nv LB) (by have:=Nat.mod_le (nv LA) (nv LB);omega) _) fun A8 A9 hk=>?_)));obtain ⟨Ac,L2,Aa,Ah,Aj,Ba⟩:=hk;refine ⟨trivial,?_⟩;have Bb:=Ac.1;have Bc:=Ap.trans Ac;have Ak:=Ad.trans Ac;have Aq:=Ao.ext Ac;refine ATi (AGw (AGy (AUf (ATb (⟨_,AUm,?_⟩)))))
  first
  | (have hlt:=Aoa (by assumption:Ae0 (nv LA) (nv LB) < 0)
     exact ⟨Ak,_,_,rfl,[],LA,Aig _ _,Aa,Ajo,hta,by rw [Nat.div_eq_of_lt hlt];rfl,by rw [Nat.mod_eq_of_lt hlt],ATw,AGh⟩)
  | exact ⟨Ak,_,_,rfl,L1,L2,Aq.mono AGh,Aa.mono AGh,Ag,Ah,Ai,Aj,AGh,AGh⟩
theorem Adt {a b q r:Int} (hb:b≠0) (h:a=b * q + r) (h0:0<=r) (h1:r < b.natAbs):a / b=q/\a % b=r:=by
 have hr:r % b=r:=by
   rcases Alf 0 b with hp | hn
   · exact Int.emod_eq_of_lt h0 AGh
   · rw [<- Int.emod_neg];exact Int.emod_eq_of_lt h0 AGh
 have hm:a % b=r:=by rw [h,Int.add_comm,Int.add_mul_emod_self_left];exact hr
 refine ⟨?_,hm⟩;have h2:=Int.mul_ediv_add_emod a b;rw [hm] at h2;have h3:b * (a / b)=b * q:=by omega
 exact Int.eq_of_mul_eq_mul_left hb h3
theorem A9y {A B:Nat} (hA:A < 18446744073709551616) (hr:A % B≠0):A / B + 1 < 18446744073709551616:=by
 match B with
 | 0=>simp
 | 1=>omega
 | n + 2=>
   have:A / (n + 2)<=A / 2:=Nat.div_le_div_left (show 2<=n + 2 by omega) AGh
   omega
theorem A9z {nb:Bool} {A B:Nat} (hB:B≠0):sgn nb (A / B)=(A:Int) / sgn nb B/\sgn false (A % B)=(A:Int) % sgn nb B:=by
 have h:=Nat.div_add_mod A B;have hl:=Nat.mod_lt A (Nat.pos_of_ne_zero hB);have h2:(A:Int)=(B:Int) * ((A / B:Nat):Int) + ((A % B:Nat):Int):=by rw [<- Int.natCast_mul,<- Int.natCast_add,h]
 have:=Adt (a:=A) (b:=sgn nb B) (q:=sgn nb (A / B)) (r:=((A % B:Nat):Int)) (by cases nb <;> simp [sgn] <;> omega) (by cases nb <;> simp only [sgn] <;> simp [Int.neg_mul_neg] <;> (rw [<- Int.natCast_ediv,<- Int.natCast_emod];exact h2)) AGh (by cases nb <;> simp only [sgn] <;> simp <;> omega);exact ⟨this.1.symm,this.2.symm⟩
theorem A7i {nb:Bool} {A B:Nat} (hB:B≠0) (hr:A % B≠0):sgn (!nb) (A / B + 1)= -(A:Int) / sgn nb B/\sgn false (B - A % B)= -(A:Int) % sgn nb B:=by
 have h:=Nat.div_add_mod A B;have hl:=Nat.mod_lt A (Nat.pos_of_ne_zero hB);have h2:(A:Int)=(B:Int) * ((A / B:Nat):Int) + ((A % B:Nat):Int):=by rw [<- Int.natCast_mul,<- Int.natCast_add,h]
 obtain ⟨q,hq⟩:∃ q,A / B=q:=⟨_,rfl⟩;obtain ⟨r,hrr⟩:∃ r,A % B=r:=⟨_,rfl⟩;rw [hq,hrr] at h2;rw [hrr] at hl hr;rw [hq,hrr];have e:((B - r:Nat):Int)=(B:Int) - (r:Int):=by omega
 have:=Adt (a:= -(A:Int)) (b:=sgn nb B) (q:=sgn (!nb) (q + 1)) (r:=((B - r:Nat):Int)) (by cases nb <;> simp [sgn] <;> omega) (by rw [h2,e];cases nb <;> simp [sgn] <;> grind) AGh (by cases nb <;> simp only [sgn] <;> simp <;> omega);exact ⟨this.1.symm,this.2.symm⟩
theorem A7j {nb:Bool} {A B:Nat} (hB:B≠0) (hr:A % B=0):sgn (!nb) (A / B)= -(A:Int) / sgn nb B/\sgn false (A % B)= -(A:Int) % sgn nb B:=by
 have h:=Nat.div_add_mod A B;have h2:(A:Int)=(B:Int) * ((A / B:Nat):Int):=by rw [<- Int.natCast_mul];omega
 obtain ⟨q,hq⟩:∃ q,A / B=q:=⟨_,rfl⟩;rw [hq] at h2;rw [hq,hr];have:=Adt (a:= -(A:Int)) (b:=sgn nb B) (q:=sgn (!nb) q) (r:=0) (by cases nb <;> simp [sgn] <;> omega) (by rw [h2];cases nb <;> simp [sgn] <;> grind) AGh (by cases nb <;> simp only [sgn] <;> simp <;> omega);exact ⟨this.1.symm,this.2.symm⟩
theorem DivMod2_ok {h:AGs} {la lb:Nat} {va vb:Value} {a b:Int} (HA:ZV h la va a) (HB:ZV h lb vb b) (hba:a.natAbs < 18446744073709551616) (hbb:b.natAbs < 18446744073709551616) (C5:b≠0):ATt Tryz.prog 157 #[va,vb] h fun x h'=>Ext h h'/\ ∃ q r,x= .tuple #[q,r,.bool true]/\ZV h' (Array.size h) q (a / b)/\ZV h' (Array.size h) r (a % b):=by
 obtain ⟨na,sa,LA,rfl,HDa,htla,hla,hza⟩:=HA.out;obtain ⟨nb,sb,LB,rfl,HDb,htlb,hlb,hzb⟩:=HB.out;refine AT4 (l:=[_,_]) mx Tryz.func157 rfl rfl rfl rfl rfl AGv (AGl (Abe [.bool na,sa] (fun _=>trivial) rfl rfl fun A5 h2 V3 E4 C6 C7=>?_));have Hn:Array.size h<=A5:=C6;have Ho:=E4.1;have Z8:=(Ext.refl h).trans E4;refine Abe [.bool nb,sb] (fun _=>trivial) rfl rfl fun A6 Hq Bb A9 C9 Hr=>?_;have Hs:Array.size h<=A6:=Nat.le_trans E4.1 C9;have nebq1bq9:A5≠A6:=by have:=V3.lt;omega
 have Ht:=A9.1;have Cg:=E4.trans A9;have Bc:=V3.ext A9;refine AYm [.bool false,.slice none 0 0] AW9 rfl (fun _=>trivial) fun Ac Hu Ch Ay Da Hv=>?_;have Hw:Array.size h<=Ac:=Nat.le_trans Cg.1 Da;have nebq1bq20:A5≠Ac:=by have:=Bc.lt;omega
 have nebq9bq20:A6≠Ac:=by have:=Bb.lt;omega
 have Hx:=Ay.1;have Db:=(Z8.trans A9).trans Ay;have Ci:=Cg.trans Ay;have Cj:=Bc.ext Ay;have Dc:=(E4.trans A9).trans Ay;have Ck:=Bb.ext Ay;refine AYm [.bool false,.slice none 0 0] AW9 rfl (fun _=>trivial) fun Aa Cm Dd Ax De Hy=>?_;have Hz:Array.size h<=Aa:=Nat.le_trans Ci.1 De;have nebq1bq33:A5≠Aa:=by have:=Cj.lt;omega
 have nebq9bq33:A6≠Aa:=by have:=Ck.lt;omega
 have nebq20bq33:Ac≠Aa:=by have:=Ch.lt;omega
 have Ia:=Ax.1;have Df:=Db.trans Ax;have Bu:=Ci.trans Ax;have Cn:=Cj.ext Ax;have Dg:=Dc.trans Ax;have Co:=Ck.ext Ax;have Dh:=(A9.trans Ay).trans Ax;have Di:=Ch.ext Ax;have Dj:=Ay.trans Ax;refine ATx (AXu (fs:=1) Adl AGv AGj rfl (ATz AZn rfl (Co.cell (i:=1) rfl) (ATc trivial rfl (Ad5 (DS.mono (HDb.ext Bu) (Nat.zero_le _)) AGh) fun Ib Cm hk=>?_)));obtain ⟨rfl,L2,Bv,Bw⟩:=hk;refine ⟨trivial,?_⟩;have Bx:=Bv.ds (lo:=lb) HDb.lo;have A7:=Bv.val;have Ic:=Bv.len;refine AGw (AGn (AGl (AGi (AUl ATe rfl Bx ?_))));have Be:nv LB≠0:=fun h0=>C5 (by rw [hzb,h0];cases nb <;> rfl);have hLB:L2≠[]:=fun h0=>Be (by rw [<- A7,h0];rfl);have hLp:=List.length_pos_iff.2 hLB;refine Ale rfl rfl (fun hc=>absurd hc AGh) (fun _=>AGq (ATp rfl (AGx (q_t (AGl (AXu (fs:=1) Adl AGv AGj rfl (ATz AZn rfl (Cn.cell (i:=1) rfl) (ATc trivial rfl (Ad5 (DS.mono (HDa.ext Bu) (Nat.zero_le _)) AGh) fun Id Cm hk=>?_))))))));obtain ⟨rfl,L1,By,Cq⟩:=hk;refine ⟨trivial,?_⟩;have Cr:=By.ds (lo:=la) HDa.lo;have Ct:=By.val;have If:=By.len;refine AGi (ATc trivial rfl (Aya Cr Bx Cq Bw (by rw [A7];exact Be) (Adv Cq (by rw [Ct,<- AXe hza];omega)) (Adv Bw (by rw [A7,<- AXe hzb];omega))) fun Ih Ii hk=>?_);obtain ⟨Am,qv,rv,rfl,LQ,LR,HQ,HR,htq,htr,hvq,hvr,hlq,hlr⟩:=hk;refine ⟨trivial,?_⟩;have Ij:=Am.1;have Bz:=Df.trans Am;have B1:=Bu.trans Am;have B3:=Cn.ext Am;have B4:=Dg.trans Am;have Dk:=Co.ext Am;have B5:=Dh.trans Am;have B6:=Di.ext Am;have B7:=Dj.trans Am;have B8:=Dd.ext Am;have B9:=Bx.ext Am;have Ca:=Cr.ext Am;rw [Ct,A7] at hvq hvr;have Ik:L2.length<=2:=Adv Bw (by rw [A7,<- AXe hzb];omega);refine AGi (AUe rfl rfl (AUe rfl rfl (ATi (ATx (AXu (fs:=1) Ac1 AGv AGj rfl (ATz AWf rfl (Dk.cell (i:=0) rfl) (AGw (AGn (AGo (AGn (AGo (AGn (AGo (AGn (AGn (AGn ?_))))))))))))))));have hrl:LR.length=0↔nv LA % nv LB=0:=⟨fun h0=>by rw [<- hvr,List.length_eq_zero_iff.1 h0];rfl,fun h0=>by rw [AYs htr (hvr.trans h0)];rfl⟩;refine AS3 (AXu (fs:=1) Ac1 AGv AGj rfl (ATz AWf rfl (B3.cell (i:=0) rfl) ?_));cases Bf:na
 ·refine AGi (AUb 32 false AGv rfl rfl (AUb 32 false AGv rfl rfl (AUb 32 false AGv rfl rfl (ATq rfl (AGw (ATp rfl (AGx (q_t (AGl (AXu (fs:=1) Ac1 AGv AGj rfl (ATz AWf rfl (B3.cell (i:=0) rfl) ?_)))))))))));rw [Bf];refine AGw (ATp rfl (AGx (q_t (AS9 (Ar8 AGj (ATa (Ar8 AGj (ATa (AT9 (q_t (AGl (AGi (AGi (ATc trivial rfl (Abu nb HQ htq AGh) fun Il Im hk=>?_))))))))))))));obtain ⟨Ao,Bg⟩:=hk;refine ⟨trivial,?_⟩;have Io:=Ao.1;have Dl:=Bz.trans Ao;have Do:=B1.trans Ao;have Dp:=B4.trans Ao;have Dq:=B5.trans Ao;have Dr:=B6.ext Ao;have Ds:=B7.trans Ao;have Dt:=B8.ext Ao;have Ip:=B9.ext Ao;have Iq:=Ca.ext Ao;have HQ_82:=HQ.ext Ao;have HR_83:=HR.ext Ao;obtain ⟨Az,s7,L7,rfl,Bi,Bj,Bl,Bm⟩:=Bg.out;refine AGi (ATc trivial rfl (Abu false HR_83 htr AGh) fun Ir Is hk=>?_);obtain ⟨Ar,Bn⟩:=hk;refine ⟨trivial,?_⟩;have It:=Ar.1;have Du:=Dl.trans Ar;have Dv:=Do.trans Ar;have Dw:=Dp.trans Ar;have Dx:=Dq.trans Ar;have Dy:=Dr.ext Ar;have Dz:=Ds.trans Ar;have D0:=Dt.ext Ar;have HQ_98:=HQ_82.ext Ar;have HR_99:=HR_83.ext Ar;have Cu:=Bi.ext Ar;obtain ⟨A4,s8,L8,rfl,Bp,Bq,Br,Bt⟩:=Bn.out;refine AUz [.bool Az,s7] AT6 rfl rfl rfl rfl (Abb Cu.cap) Dy fun Iu D1 Au=>?_;have D2:=Dv.thenUpd Au (fun k hk=>by have Ab:k=Ac:=hk;omega);have Iv:=Au.1;have D3:=Du.thenUpd Au (fun k hk=>by have Ab:k=Ac:=hk;omega);have Cb:=Dz.thenUpd Au (fun k hk=>by have Ab:k=Ac:=hk;omega);have D4:=Dw.thenUpd Au (fun k hk=>by have Ab:k=Ac:=hk;omega);have D5:=Dx.thenUpd Au (fun k hk=>by have Ab:k=Ac:=hk;omega);have D6:=D0.upd Au (fun he=>(Ne.symm nebq20bq33) (he:Aa=Ac));have HQ_113:=HQ_98.updLo Au AGh;have HR_114:=HR_99.updLo Au AGh;have D7:=Cu.updLo Au AGh;have Cv:=Bp.updLo Au AGh;refine AUz [.bool A4,s8] AT6 rfl rfl rfl rfl (Abb Cv.cap) D6 fun Iw D8 Ag=>?_;have D9:=D2.thenUpd Ag (fun k hk=>by have Ab:k=Aa:=hk;omega);have Ix:=Ag.1;have Iy:=D3.thenUpd Ag (fun k hk=>by have Ab:k=Aa:=hk;omega);have Iz:=(Bc.ext Cb).upd Ag (fun he=>nebq1bq33 (he:A5=Aa));have I0:=D4.thenUpd Ag (fun k hk=>by have Ab:k=Aa:=hk;omega);have I1:=(Bb.ext Cb).upd Ag (fun he=>nebq9bq33 (he:A6=Aa));have I2:=D5.thenUpd Ag (fun k hk=>by have Ab:k=Aa:=hk;omega);have Ea:=D1.upd Ag (fun he=>nebq20bq33 (he:Ac=Aa));have I3:=Cb.thenUpd Ag (fun k hk=>by have Ab:k=Aa:=hk;omega);have HQ_129:=HQ_113.updLo Ag AGh;have HR_130:=HR_114.updLo Ag AGh;have Eb:=D7.updLo Ag AGh;have Ec:=Cv.updLo Ag AGh;refine AGw (AGy (⟨_,Af3 AT6 rfl rfl Ea AT6 rfl rfl D8,?_⟩));have hk:=A9z (nb:=nb) (A:=nv LA) Be;have ea:a=((nv LA:Nat):Int):=by rw [hza,Bf];rfl
  exact ⟨D9,_,_,rfl,⟨Az,s7,L7,rfl,Eb.mono AGh,Bj,Bl,by rw [<- Bm,hvq,ea,hzb];exact hk.1.symm⟩,⟨A4,s8,L8,rfl,Ec.mono AGh,Bq,Br,by rw [<- Bt,hvr,ea,hzb];exact hk.2.symm⟩⟩
 ·refine AGi (AUk 32 true AGv rfl rfl (AGi (AUk 32 true AGv rfl rfl (AUl ATe rfl HR (AUk 32 true AGv rfl rfl (Ai6 rfl rfl (fun Ed=>?_) (fun Ed=>?_)))))))
  ·refine ATh rfl (AGw (ATn rfl (AS9 (ATa (ATa (AT9 (q_t (AGl (AGi (A22 [Ae4 1] ATe Ac9 rfl (fun _=>trivial) rfl AGh AGh rfl (by simp [Ae4,isOne]) fun g8 v8 h8 Eg E8 I6 I7=>?_))))))))));have I9:=E8.1;have Eh:=Bz.trans E8;have Ei:=B1.trans E8;have Ej:=B4.trans E8;have Ek:=B5.trans E8;have El:=B6.ext E8;have Em:=B7.trans E8;have En:=B8.ext E8;have Eo:=B9.ext E8;have Ep:=Ca.ext E8;have HQ_146:=HQ.ext E8;have HR_147:=HR.ext E8;have HDu:DS h8 0 v8 [1]:=AV1.ds (L:=[1]) Eg (by intro x hx;rw [List.mem_singleton.1 hx];decide) (Nat.zero_le _);refine ATc trivial rfl (As6 HQ_146 HDu AGh ATw) fun Ja Jc hk=>?_;obtain ⟨Ah,L5,Es,Cw,Cx,Je⟩:=hk;refine ⟨trivial,?_⟩;have Jf:=Ah.1;have Et:=Eh.trans Ah;have Eu:=Ei.trans Ah;have Ev:=Ej.trans Ah;have Ew:=Ek.trans Ah;have Ey:=El.ext Ah;have Ez:=Em.trans Ah;have Fa:=En.ext Ah;have Cy:=Eo.ext Ah;have Fb:=Ep.ext Ah;have HQ_164:=HQ_146.ext Ah;have HR_165:=HR_147.ext Ah;have HDu_166:=HDu.ext Ah;refine AGw (AS3 (AGi (AGi (ATc trivial rfl (Apc Cy HR_165 htr (by rw [hvr,A7];exact Nat.le_of_lt (Nat.mod_lt _ AGh)) AGh) fun Jg Jh hk=>?_))));obtain ⟨Af,L6,Fc,Fd,Fe,C7⟩:=hk;refine ⟨trivial,?_⟩;have Jj:=Af.1;have Ff:=Et.trans Af;have Fg:=Eu.trans Af;have Fh:=Ev.trans Af;have Fi:=Ew.trans Af;have Fj:=Ey.ext Af;have Fk:=Ez.trans Af;have Fl:=Fa.ext Af;have Fm:=Cy.ext Af;have Fo:=Fb.ext Af;have HQ_183:=HQ_164.ext Af;have HR_184:=HR_165.ext Af;have HDu_185:=HDu_166.ext Af;have Cz:=Es.ext Af;refine ATi (ATf (q_b (q_t (AGl (AGi (AWp rfl (AGw (AS9 (AT9 (q_t (AGl (AGi (AGi (ATc trivial rfl (Abu (!nb) Cz Cw (by have h5:L5.length<=2:=Adv Cw (by rw [Cx,hvq];exact A9y (A:=nv LA) (B:=nv LB) (by rw [<- AXe hza];exact hba) AGh);omega)) fun Jl Jm hk=>?_))))))))))))));obtain ⟨Ad,Bg⟩:=hk;refine ⟨trivial,?_⟩;have Jn:=Ad.1;have Fp:=Ff.trans Ad;have Fq:=Fg.trans Ad;have Fr:=Fh.trans Ad;have Ft:=Fi.trans Ad;have Fu:=Fj.ext Ad;have Fv:=Fk.trans Ad;have Fw:=Fl.ext Ad;have Jo:=Fm.ext Ad;have Jp:=Fo.ext Ad;have HQ_203:=HQ_183.ext Ad;have HR_204:=HR_184.ext Ad;have HDu_205:=HDu_185.ext Ad;have Fx:=Cz.ext Ad;have C0:=Fc.ext Ad;obtain ⟨Az,s7,L7,rfl,Bi,Bj,Bl,Bm⟩:=Bg.out;refine AGi (ATc trivial rfl (Abu false C0 Fd AGh) fun Jq Jr hk=>?_);obtain ⟨Ai,Bn⟩:=hk;refine ⟨trivial,?_⟩;have Js:=Ai.1;have Fy:=Fp.trans Ai;have Fz:=Fq.trans Ai;have F4:=Fr.trans Ai;have F5:=Ft.trans Ai;have F6:=Fu.ext Ai;have F7:=Fv.trans Ai;have F8:=Fw.ext Ai;have HQ_222:=HQ_203.ext Ai;have HR_223:=HR_204.ext Ai;have F9:=Fx.ext Ai;have Ga:=C0.ext Ai;have C1:=Bi.ext Ai;obtain ⟨A4,s8,L8,rfl,Bp,Bq,Br,Bt⟩:=Bn.out;refine AUz [.bool Az,s7] AT6 rfl rfl rfl rfl (Abb C1.cap) F6 fun Jt Gb Aj=>?_;have Gc:=Fz.thenUpd Aj (fun k hk=>by have Ab:k=Ac:=hk;omega);have Ju:=Aj.1;have Gd:=Fy.thenUpd Aj (fun k hk=>by have Ab:k=Ac:=hk;omega);have Cd:=F7.thenUpd Aj (fun k hk=>by have Ab:k=Ac:=hk;omega);have Ge:=F4.thenUpd Aj (fun k hk=>by have Ab:k=Ac:=hk;omega);have Gf:=F5.thenUpd Aj (fun k hk=>by have Ab:k=Ac:=hk;omega);have Gg:=F8.upd Aj (fun he=>(Ne.symm nebq20bq33) (he:Aa=Ac));have HQ_239:=HQ_222.updLo Aj AGh;have HR_240:=HR_223.updLo Aj AGh;have Gh:=F9.updLo Aj AGh;have Gi:=Ga.updLo Aj AGh;have Gj:=C1.updLo Aj AGh;have C2:=Bp.updLo Aj AGh;refine AUz [.bool A4,s8] AT6 rfl rfl rfl rfl (Abb C2.cap) Gg fun Jv Gk Ae=>?_;have Gl:=Gc.thenUpd Ae (fun k hk=>by have Ab:k=Aa:=hk;omega);have Jw:=Ae.1;have Jx:=Gd.thenUpd Ae (fun k hk=>by have Ab:k=Aa:=hk;omega);have Jy:=(Bc.ext Cd).upd Ae (fun he=>nebq1bq33 (he:A5=Aa));have Jz:=Ge.thenUpd Ae (fun k hk=>by have Ab:k=Aa:=hk;omega);have J0:=(Bb.ext Cd).upd Ae (fun he=>nebq9bq33 (he:A6=Aa));have J1:=Gf.thenUpd Ae (fun k hk=>by have Ab:k=Aa:=hk;omega);have Gm:=Gb.upd Ae (fun he=>nebq20bq33 (he:Ac=Aa));have J2:=Cd.thenUpd Ae (fun k hk=>by have Ab:k=Aa:=hk;omega);have HQ_257:=HQ_239.updLo Ae AGh;have HR_258:=HR_240.updLo Ae AGh;have J3:=Gh.updLo Ae AGh;have J4:=Gi.updLo Ae AGh;have Gn:=Gj.updLo Ae AGh;have Gp:=C2.updLo Ae AGh;refine AGw (AGy (⟨_,Af3 AT6 rfl rfl Gm AT6 rfl rfl Gk,?_⟩));have hk:=A7i (nb:=nb) (A:=nv LA) Be AGh;have ea:a= -((nv LA:Nat):Int):=by rw [hza,Bf];rfl
   exact ⟨Gl,_,_,rfl,⟨Az,s7,L7,rfl,Gn.mono AGh,Bj,Bl,by rw [<- Bm,Cx,hvq,ea,hzb];exact hk.1.symm⟩,⟨A4,s8,L8,rfl,Gp.mono AGh,Bq,Br,by rw [<- Bt,Fe,A7,hvr,ea,hzb];exact hk.2.symm⟩⟩
  ·refine ATh rfl (AGw (ATp rfl (AGx (q_t (AGl (AXu (fs:=1) Ac1 AGv AGj rfl (ATz AWf rfl (B3.cell (i:=0) rfl) ?_)))))));rw [Bf];refine AGw (ATn rfl (AS9 (ATa (Ar8 AGj (ATa (AT9 (q_t (AGl (AGi (AWp rfl (AGw (AS9 (AT9 (q_t (AGl (AGi (AGi (ATc trivial rfl (Abu (!nb) HQ htq AGh) fun J5 J6 hk=>?_))))))))))))))))));obtain ⟨Aq,Bg⟩:=hk;refine ⟨trivial,?_⟩;have J7:=Aq.1;have Gq:=Bz.trans Aq;have Gr:=B1.trans Aq;have Gt:=B4.trans Aq;have Gu:=B5.trans Aq;have Gv:=B6.ext Aq;have Gw:=B7.trans Aq;have Gx:=B8.ext Aq;have J8:=B9.ext Aq;have J9:=Ca.ext Aq;have HQ_279:=HQ.ext Aq;have HR_280:=HR.ext Aq;obtain ⟨Az,s7,L7,rfl,Bi,Bj,Bl,Bm⟩:=Bg.out;refine AGi (ATc trivial rfl (Abu false HR_280 htr AGh) fun Ka Kb hk=>?_);obtain ⟨Av,Bn⟩:=hk;refine ⟨trivial,?_⟩;have Kc:=Av.1;have Gy:=Gq.trans Av;have Gz:=Gr.trans Av;have G3:=Gt.trans Av;have G4:=Gu.trans Av;have G5:=Gv.ext Av;have G6:=Gw.trans Av;have G7:=Gx.ext Av;have HQ_295:=HQ_279.ext Av;have HR_296:=HR_280.ext Av;have C3:=Bi.ext Av;obtain ⟨A4,s8,L8,rfl,Bp,Bq,Br,Bt⟩:=Bn.out;refine AUz [.bool Az,s7] AT6 rfl rfl rfl rfl (Abb C3.cap) G5 fun Kd G8 Aw=>?_;have G9:=Gz.thenUpd Aw (fun k hk=>by have Ab:k=Ac:=hk;omega);have Ke:=Aw.1;have Hb:=Gy.thenUpd Aw (fun k hk=>by have Ab:k=Ac:=hk;omega);have Ce:=G6.thenUpd Aw (fun k hk=>by have Ab:k=Ac:=hk;omega);have Hc:=G3.thenUpd Aw (fun k hk=>by have Ab:k=Ac:=hk;omega);have Hd:=G4.thenUpd Aw (fun k hk=>by have Ab:k=Ac:=hk;omega);have He:=G7.upd Aw (fun he=>(Ne.symm nebq20bq33) (he:Aa=Ac));have HQ_310:=HQ_295.updLo Aw AGh;have HR_311:=HR_296.updLo Aw AGh;have Hf:=C3.updLo Aw AGh;have C4:=Bp.updLo Aw AGh;refine AUz [.bool A4,s8] AT6 rfl rfl rfl rfl (Abb C4.cap) He fun Kf Hg Ak=>?_;have Hh:=G9.thenUpd Ak (fun k hk=>by have Ab:k=Aa:=hk;omega);have Kg:=Ak.1;have Kh:=Hb.thenUpd Ak (fun k hk=>by have Ab:k=Aa:=hk;omega);have Ki:=(Bc.ext Ce).upd Ak (fun he=>nebq1bq33 (he:A5=Aa));have Kj:=Hc.thenUpd Ak (fun k hk=>by have Ab:k=Aa:=hk;omega);have Kk:=(Bb.ext Ce).upd Ak (fun he=>nebq9bq33 (he:A6=Aa));have Kl:=Hd.thenUpd Ak (fun k hk=>by have Ab:k=Aa:=hk;omega);have Hj:=G8.upd Ak (fun he=>nebq20bq33 (he:Ac=Aa));have Km:=Ce.thenUpd Ak (fun k hk=>by have Ab:k=Aa:=hk;omega);have HQ_326:=HQ_310.updLo Ak AGh;have HR_327:=HR_311.updLo Ak AGh;have Hk:=Hf.updLo Ak AGh;have Hl:=C4.updLo Ak AGh;refine AGw (AGy (⟨_,Af3 AT6 rfl rfl Hj AT6 rfl rfl Hg,?_⟩));have hk:=A7j (nb:=nb) (A:=nv LA) Be AGh;have ea:a= -((nv LA:Nat):Int):=by rw [hza,Bf];rfl
   exact ⟨Hh,_,_,rfl,⟨Az,s7,L7,rfl,Hk.mono AGh,Bj,Bl,by rw [<- Bm,hvq,ea,hzb];exact hk.1.symm⟩,⟨A4,s8,L8,rfl,Hl.mono AGh,Bq,Br,by rw [<- Bt,hvr,ea,hzb];exact hk.2.symm⟩⟩
end Go.Proofs.YthbndcbclhkepaaGreatDoor.Ig
namespace Go.QF
open Go
section
variable {P:Program} {B:AGs->Prop} {st:Bool} {ops:Array Oper} {rest:List Oper} {e:Env} {h:AGs} {K:Env->AGs->Prop} {d:Nat} {ty:TypeId} {pos:String} {af:Array Edge}
theorem Azt {x y z:Operand} {t el er g lo hi:Nat} {v:Value} {l:List Value} {k1 k2:IntKind} (hT:SlT P t el 1) (hx:e.ev x=v) (HO:AV1 h er g v l) (hy:e.ev y= .int k1 (lo:Int)) (hz:e.ev z= .int k2 (hi:Int)) (hlt:lo < hi) (hle:hi<=l.length)
    (H:∀ c,RL P B st ops rest (e.set d (.slice (some ⟨g,lo,none⟩) (hi - lo) c)) h K):RL P B st ops (⟨some d,.slice t x (some y) (some z) none,ty,pos,af,none⟩ :: rest) e h K:=by
  obtain ⟨cap,cur,rfl,hg,h1,h2,h3,h4⟩:=HO;refine AXk (v:= .slice (some ⟨g,lo,none⟩) (hi - lo) (cap - lo)) rfl rfl (fun w=>?_) (H _);obtain ⟨hu,i,hi',hs⟩:=hT;have a4: ¬ cap=lo:=by omega
  simp [execOp,hx,hy,hz,Instr.sliceAt,Instr.slice,Acz hu,Instr.sliceBounds,Instr.sliceBound,asIntOf,a4,Agq hi',hs,Addr.add];rw [if_pos AGh,if_pos AGh]
  by_cases h0:lo=0
  · subst h0;simp
  · rw [if_neg h0]
theorem As7 {x i:Operand} {t el g o n c j:Nat} {k:IntKind} (hT:SlT P t el 1) (hx:e.ev x= .slice (some ⟨g,o,none⟩) n c) (hi:e.ev i= .int k (j:Int)) (hj:j < n)
    (H:RL P B st ops rest (e.set d (.pointer (some ⟨g,o + j,none⟩))) h K):RL P B st ops (⟨some d,.indexAddr t x i,ty,pos,af,none⟩ :: rest) e h K:=by
  refine Axf hT hx hi AGh AGh ?_;have he:(⟨g,o,none⟩:Addr).add ((j:Int).toNat * 1)=⟨g,o + j,none⟩:=by rw [AXl];simp
  rw [he];exact H
end
end Go.QF
namespace Go.Proofs.YthbndcbclhkepaaGreatDoor.Ig
open Go Go.QF
set_option maxRecDepth 100000
theorem A1j {h:AGs} {la lb:Nat} {va vb:Value} {LA LB:List Nat} (HA:DS h la va LA) (HB:DS h lb vb LB) (hna:LA.length<=1000) (hnb:LB.length<=1000):ATt Tryz.prog 177 #[va,vb] h fun x h'=>Ext h h'/\ ∃ L,DS h' (Array.size h) x L/\TL L/\nv L=nv LA * nv LB/\L.length<=LA.length + LB.length + 2:=by
 refine AT4 (l:=[_,_]) mx Tryz.func177 rfl rfl rfl rfl rfl AGv (AGl (AGw (AGn (AGl (AGi (AUl ATe rfl HA (Al0 rfl rfl (fun Aw=>?_) (fun Aw=>?_))))))))
 ·refine AGi (AUk 15 true AGv rfl rfl (AGi (AUk 15 true AGv rfl rfl (AUl ATe rfl HB (AUk 15 true AGv rfl rfl (Al0 rfl rfl (fun Ax=>?_) (fun Ax=>?_)))))))
  ·refine ATh rfl (AGq (ATn rfl (AGl (AGi (ATc trivial rfl (Aqc HA AGh) fun x1 h hk=>?_)))));obtain ⟨rfl,rfl⟩:=hk;refine ⟨trivial,?_⟩;refine AGi (ATc trivial rfl (Aqc HB AGh) fun x2 h hk=>?_);obtain ⟨rfl,rfl⟩:=hk;refine ⟨trivial,?_⟩;have hm:=A4k HA.dig HB.dig AGh AGh;refine Atw rfl rfl hm (ATc trivial rfl (Ahe (nv LA * nv LB) AGh _) fun x3 h4 hk=>?_);obtain ⟨E5,L1,Ay,Ak,Am,Av⟩:=hk;refine ⟨trivial,?_⟩;have Bo:=E5.1;have Z7:=(Ext.refl h).trans E5;refine AGw (AGy (ATb (⟨_,AS1,?_⟩)))
   first
   | exact ⟨E5,L1,Ay,Ak,Am,AGh⟩
   | exact ⟨E5,L2,HT.ds HDo.lo,htl,by rw [HT.val,hOv],by have:=HT.len;omega⟩
  ·refine ATh rfl (AGq (ATp rfl (AGx (q_t (AGl (AGi (AUl ATe rfl HA (AGi (AUl ATe rfl HB (Agw rfl rfl AGh (Aq2 (n:=LA.length + LB.length) ATe Ac9 (fun _=>trivial) rfl rfl AGj AGh fun g1 v1 h1 Ao E1 Az Av=>?_)))))))))));have Bq:=E1.1;have Z9:=(Ext.refl h).trans E1;refine AGw (AGn (AGl (AGi (AUl ATe rfl (HA.ext E1) (AGi (AGq (AGo (AXt 19342813113834049615433664 (fun y:Nat × List Nat=>[(34,.int .i64 (y.1:Int))]) (fun k y h'=>k=LA.length - y.1/\y.1<=LA.length/\Ext h h'/\g1 < Array.size h'/\AV1 h' 170 g1 v1 (y.2.map Ae4)/\y.2.length=LA.length + LB.length/\Dig y.2/\nv y.2=nv (LA.take y.1) * nv LB/\ ∀ q,y.1 + LB.length<=q->q < LA.length + LB.length->y.2[q]? =some 0) AGv LA.length (0,List.replicate (LA.length + LB.length) 0) ?_ ⟨rfl,trivial⟩ ?_))))))))
   ·exact ⟨rfl,Nat.zero_le _,E1,AGh,Ao,ATw,fun x hx=>by rw [(List.mem_replicate.1 hx).2];decide,by simp [nv,Aq8],fun q hq A3=>by dsimp only;rw [List.getElem?_replicate];simp;omega⟩
   rintro k ⟨i,O⟩ s1 hq ⟨rfl,hi,XQ,hgq,Aa,hOl,hOd,hOv,hOz⟩;dsimp only at hi Aa hOl hOd hOv hOz ⊢;refine AGl (AW7 rfl rfl (fun A4=>?_) (fun A4=>?_))
   ·refine AGq (AGn (ATn rfl (AGx (q_t (AGn (AGo (AGn ?_)))))));obtain ⟨x,hx⟩:∃ x,LA[i]? =some x:=⟨_,List.getElem?_eq_getElem AGh⟩;have hbx:=HA.dig x (List.mem_of_getElem? hx);refine AS3 (AGi (Aau ATe rfl (HA.ext XQ) rfl hx fun Bt A5=>ATz AU7 rfl A5 (ATi (AGw (AGn (AGl (AGi (Ale rfl rfl (fun A6=>?_) (fun A6=>?_)))))))))
    ·refine AGq (ATn rfl (AS9 (ATa (AT9 (q_t (AS3 (Abp rfl AGh (AGi (AGq ?_)))))))));exact ⟨LA.length - (i + 1),(i + 1,O),by first | omega | (dsimp only;omega),⟨rfl,by first | omega | (dsimp only;omega),XQ,AGh,Aa,hOl,hOd,by dsimp only;rw [hOv,AUr hx,show x=0 by omega];simp,fun q h1 h2=>hOz q (by dsimp only at h1;omega) h2⟩,rfl,trivial⟩
    ·refine AGq (ATp rfl (AGx (q_t (AGl (AGi (AGi (AGi (AGi (AUl ATe rfl (HB.ext XQ) (Agw rfl rfl AGh (Agw (b:=1) rfl rfl AGh (Azt (lo:=i) (hi:=i + LB.length + 1) ATe rfl Aa rfl rfl AGh (by rw [List.length_map];omega) fun cw=>?_))))))))))));refine ATx (AGw (AGn (AGl (AGi (AUl ATe rfl (HB.ext XQ) (AGi (AGq (AGo (AXt 151115725200028833156608 (fun y:Nat × Nat × List Nat=>[(51,.int .i64 (y.1:Int)),(9,.int .u64 (y.2.1:Int))]) (fun k y h'=>k=LB.length - y.1/\y.1<=LB.length/\Ext h h'/\g1 < Array.size h'/\AV1 h' 170 g1 v1 (y.2.2.map Ae4)/\y.2.2.length=LA.length + LB.length/\Dig y.2.2/\y.2.1 < 4294967296/\nv y.2.2 + 4294967296 ^ (i + y.1) * y.2.1=nv (LA.take i) * nv LB + 4294967296 ^ i * (x * nv (LB.take y.1))/\ ∀ q,i + LB.length<=q->q < LA.length + LB.length->y.2.2[q]? =some 0) AGv LB.length (0,0,O) ?_ ⟨rfl,rfl,trivial⟩ ?_)))))))))
     ·exact ⟨rfl,Nat.zero_le _,XQ,AGh,Aa,hOl,hOd,by dsimp only;omega,by simp [nv,hOv],hOz⟩
     rintro k ⟨j,c,O⟩ s2 hp ⟨rfl,hj,XQ,hgq,Aa,hOl,hOd,hc,hOv,hOz⟩;dsimp only at hj Aa hOl hOd hc hOv hOz ⊢;refine AGl (AW7 rfl rfl (fun A7=>?_) (fun A7=>?_))
     ·refine AGq (AGn (ATn rfl (AGx (q_t (AGn (AGo (AGn ?_)))))));obtain ⟨y,hy⟩:∃ x,LB[j]? =some x:=⟨_,List.getElem?_eq_getElem AGh⟩;have hby:=HB.dig y (List.mem_of_getElem? hy);obtain ⟨ov,hov⟩:∃ x,O[i + j]? =some x:=⟨_,List.getElem?_eq_getElem AGh⟩;have hbo:=hOd ov (List.mem_of_getElem? hov);have htb:=Atx hc hbx hby hbo;have hxy:x * y<=4294967295 * 4294967295:=Nat.mul_le_mul AGh AGh;refine AS3 (AGi (Aau ATe rfl (HB.ext XQ) rfl hy fun Bu A8=>ATz AU7 rfl A8 (ATi (ATx (AGi (AGi (Ajp AVs AVf rfl hbx (AGi (Ajp AVs AVf rfl hby (Atw rfl rfl AGh (AGi (AGi (As7 ATe rfl rfl AGh (ATz AU7 rfl (AV1.cell Aa (Ai9 hov)) (Ajp AVs AVf rfl hbo (Af4 rfl rfl AGh (Af4 rfl rfl AGh ?_)))))))))))))))));refine ATx (AGi (AGi (AGi (Alh AVf AVs rfl (As7 ATe rfl rfl AGh (Alg (O.set (i + j) ((c + (x * y + ov)) % 4294967296)) AU7 rfl rfl Aa AGh rfl fun h4 Ap U4=>?_))))));have Bv:=U4.1;have A9:=XQ.thenUpd U4 (fun k hk=>by have Aq:k=g1:=hk;omega);refine AGq (AS3 (AGi (Akt rfl rfl (ATi (ATf (q_b (q_t (AS3 (Abp rfl AGh (AGi (AGq ?_)))))))))));exact ⟨LB.length - (j + 1),(j + 1,(c + (x * y + ov)) / 4294967296,O.set (i + j) ((c + (x * y + ov)) % 4294967296)),by first | omega | (dsimp only;omega),⟨rfl,by first | omega | (dsimp only;omega),A9,AGh,Ap,by simp [hOl],Aja hOd (Nat.mod_lt _ AGj),by dsimp only;exact Nat.div_lt_of_lt_mul htb,by dsimp only;rw [AUr hy];exact Aq3 (Pi:=0) (Al7 _ hov) hOv (Nat.mod_add_div _ _),fun q h1 h2=>by dsimp only;rw [List.getElem?_set_ne AGh];exact hOz q h1 h2⟩,rfl,rfl,trivial⟩
     ·refine AGq (AGn (ATp rfl (AS9 (ATa (ATa (AT9 (q_t ?_)))))));obtain rfl:j=LB.length:=by omega
      refine AS3 (AGi (AGi (AUl ATe rfl (HB.ext XQ) (AGi (Alh AVf AVs rfl ?_)))));rw [Nat.mod_eq_of_lt hc];refine As7 ATe rfl rfl AGh (Alg (O.set (i + LB.length) (c)) AU7 rfl rfl Aa AGh rfl fun h5 Ar U5=>?_);have Bw:=U5.1;have Bb:=XQ.thenUpd U5 (fun k hk=>by have Aq:k=g1:=hk;omega);refine ATf (q_b (q_t (AS3 (Abp rfl AGh (AGi (AGq ?_))))));exact ⟨LA.length - (i + 1),(i + 1,O.set (i + LB.length) c),by first | omega | (dsimp only;omega),⟨rfl,by first | omega | (dsimp only;omega),Bb,AGh,Ar,by simp [hOl],Aja hOd hc,by dsimp only;have h1:=Al7 c (hOz (i + LB.length) (Nat.le_refl _) AGh);rw [Nat.mul_zero,Nat.add_zero] at h1;rw [h1,hOv,List.take_length,AUr hx,Nat.add_mul,Nat.mul_assoc],fun q h1 h2=>by dsimp only;rw [List.getElem?_set_ne AGh];exact hOz q AGh h2⟩,rfl,trivial⟩
   ·refine AGq (AGn (ATp rfl (AS9 (ATa (ATa (AT9 (q_t (AGn ?_))))))));obtain rfl:i=LA.length:=by omega
    rw [List.take_length] at hOv;have HDo:=Aa.ds (lo:=Array.size h) hOd AGh;refine AS3 (AGi (ATc trivial rfl (Ad5 (DS.mono HDo (Nat.zero_le _)) AGh) fun Bx hq hk=>?_));obtain ⟨rfl,L2,HT,htl⟩:=hk;refine ⟨trivial,?_⟩;refine AGw (AGy (⟨_,AS1,?_⟩))
    first
    | exact ⟨XQ,L1,lacks_HD1,Ak,Am,AGh⟩
    | exact ⟨XQ,L2,HT.ds HDo.lo,htl,by rw [HT.val,hOv],by have:=HT.len;omega⟩
 ·refine AGi (AUb 15 false AGv rfl rfl (AUb 15 false AGv rfl rfl (AUb 15 false AGv rfl rfl (ATq rfl (AGq (ATp rfl (AGx (q_t (AGl (AGi (AUl ATe rfl HA (AGi (AUl ATe rfl HB (Agw rfl rfl AGh (Aq2 (n:=LA.length + LB.length) ATe Ac9 (fun _=>trivial) rfl rfl AGj AGh fun g1 v1 h1 Ao E1 Az Av=>?_)))))))))))))));have By:=E1.1;have Bz:=(Ext.refl h).trans E1;refine AGw (AGn (AGl (AGi (AUl ATe rfl (HA.ext E1) (AGi (AGq (AGo (AXt 19342813113834049615433664 (fun y:Nat × List Nat=>[(34,.int .i64 (y.1:Int))]) (fun k y h'=>k=LA.length - y.1/\y.1<=LA.length/\Ext h h'/\g1 < Array.size h'/\AV1 h' 170 g1 v1 (y.2.map Ae4)/\y.2.length=LA.length + LB.length/\Dig y.2/\nv y.2=nv (LA.take y.1) * nv LB/\ ∀ q,y.1 + LB.length<=q->q < LA.length + LB.length->y.2[q]? =some 0) AGv LA.length (0,List.replicate (LA.length + LB.length) 0) ?_ ⟨rfl,trivial⟩ ?_))))))))
  ·exact ⟨rfl,Nat.zero_le _,E1,AGh,Ao,ATw,fun x hx=>by rw [(List.mem_replicate.1 hx).2];decide,by simp [nv,Aq8],fun q hq A3=>by dsimp only;rw [List.getElem?_replicate];simp;omega⟩
  rintro k ⟨i,O⟩ s1 hq ⟨rfl,hi,XQ,hgq,Aa,hOl,hOd,hOv,hOz⟩;dsimp only at hi Aa hOl hOd hOv hOz ⊢;refine AGl (AW7 rfl rfl (fun Bc=>?_) (fun Bc=>?_))
  ·refine AGq (AGn (ATn rfl (AGx (q_t (AGn (AGo (AGn ?_)))))));obtain ⟨x,hx⟩:∃ x,LA[i]? =some x:=⟨_,List.getElem?_eq_getElem AGh⟩;have hbx:=HA.dig x (List.mem_of_getElem? hx);refine AS3 (AGi (Aau ATe rfl (HA.ext XQ) rfl hx fun B1 Be=>ATz AU7 rfl Be (ATi (AGw (AGn (AGl (AGi (Ale rfl rfl (fun Bf=>?_) (fun Bf=>?_)))))))))
   ·refine AGq (ATn rfl (AS9 (ATa (AT9 (q_t (AS3 (Abp rfl AGh (AGi (AGq ?_)))))))));exact ⟨LA.length - (i + 1),(i + 1,O),by first | omega | (dsimp only;omega),⟨rfl,by first | omega | (dsimp only;omega),XQ,AGh,Aa,hOl,hOd,by dsimp only;rw [hOv,AUr hx,show x=0 by omega];simp,fun q h1 h2=>hOz q (by dsimp only at h1;omega) h2⟩,rfl,trivial⟩
   ·refine AGq (ATp rfl (AGx (q_t (AGl (AGi (AGi (AGi (AGi (AUl ATe rfl (HB.ext XQ) (Agw rfl rfl AGh (Agw (b:=1) rfl rfl AGh (Azt (lo:=i) (hi:=i + LB.length + 1) ATe rfl Aa rfl rfl AGh (by rw [List.length_map];omega) fun cw=>?_))))))))))));refine ATx (AGw (AGn (AGl (AGi (AUl ATe rfl (HB.ext XQ) (AGi (AGq (AGo (AXt 151115725200028833156608 (fun y:Nat × Nat × List Nat=>[(51,.int .i64 (y.1:Int)),(9,.int .u64 (y.2.1:Int))]) (fun k y h'=>k=LB.length - y.1/\y.1<=LB.length/\Ext h h'/\g1 < Array.size h'/\AV1 h' 170 g1 v1 (y.2.2.map Ae4)/\y.2.2.length=LA.length + LB.length/\Dig y.2.2/\y.2.1 < 4294967296/\nv y.2.2 + 4294967296 ^ (i + y.1) * y.2.1=nv (LA.take i) * nv LB + 4294967296 ^ i * (x * nv (LB.take y.1))/\ ∀ q,i + LB.length<=q->q < LA.length + LB.length->y.2.2[q]? =some 0) AGv LB.length (0,0,O) ?_ ⟨rfl,rfl,trivial⟩ ?_)))))))))
    ·exact ⟨rfl,Nat.zero_le _,XQ,AGh,Aa,hOl,hOd,by dsimp only;omega,by simp [nv,hOv],hOz⟩
    rintro k ⟨j,c,O⟩ s2 hp ⟨rfl,hj,XQ,hgq,Aa,hOl,hOd,hc,hOv,hOz⟩;dsimp only at hj Aa hOl hOd hc hOv hOz ⊢;refine AGl (AW7 rfl rfl (fun Bg=>?_) (fun Bg=>?_))
    ·refine AGq (AGn (ATn rfl (AGx (q_t (AGn (AGo (AGn ?_)))))));obtain ⟨y,hy⟩:∃ x,LB[j]? =some x:=⟨_,List.getElem?_eq_getElem AGh⟩;have hby:=HB.dig y (List.mem_of_getElem? hy);obtain ⟨ov,hov⟩:∃ x,O[i + j]? =some x:=⟨_,List.getElem?_eq_getElem AGh⟩;have hbo:=hOd ov (List.mem_of_getElem? hov);have htb:=Atx hc hbx hby hbo;have hxy:x * y<=4294967295 * 4294967295:=Nat.mul_le_mul AGh AGh;refine AS3 (AGi (Aau ATe rfl (HB.ext XQ) rfl hy fun B3 Bh=>ATz AU7 rfl Bh (ATi (ATx (AGi (AGi (Ajp AVs AVf rfl hbx (AGi (Ajp AVs AVf rfl hby (Atw rfl rfl AGh (AGi (AGi (As7 ATe rfl rfl AGh (ATz AU7 rfl (AV1.cell Aa (Ai9 hov)) (Ajp AVs AVf rfl hbo (Af4 rfl rfl AGh (Af4 rfl rfl AGh ?_)))))))))))))))));refine ATx (AGi (AGi (AGi (Alh AVf AVs rfl (As7 ATe rfl rfl AGh (Alg (O.set (i + j) ((c + (x * y + ov)) % 4294967296)) AU7 rfl rfl Aa AGh rfl fun h4 Ap U4=>?_))))));have B4:=U4.1;have Bi:=XQ.thenUpd U4 (fun k hk=>by have Aq:k=g1:=hk;omega);refine AGq (AS3 (AGi (Akt rfl rfl (ATi (ATf (q_b (q_t (AS3 (Abp rfl AGh (AGi (AGq ?_)))))))))));exact ⟨LB.length - (j + 1),(j + 1,(c + (x * y + ov)) / 4294967296,O.set (i + j) ((c + (x * y + ov)) % 4294967296)),by first | omega | (dsimp only;omega),⟨rfl,by first | omega | (dsimp only;omega),Bi,AGh,Ap,by simp [hOl],Aja hOd (Nat.mod_lt _ AGj),by dsimp only;exact Nat.div_lt_of_lt_mul htb,by dsimp only;rw [AUr hy];exact Aq3 (Pi:=0) (Al7 _ hov) hOv (Nat.mod_add_div _ _),fun q h1 h2=>by dsimp only;rw [List.getElem?_set_ne AGh];exact hOz q h1 h2⟩,rfl,rfl,trivial⟩
    ·refine AGq (AGn (ATp rfl (AS9 (ATa (ATa (AT9 (q_t ?_)))))));obtain rfl:j=LB.length:=by omega
     refine AS3 (AGi (AGi (AUl ATe rfl (HB.ext XQ) (AGi (Alh AVf AVs rfl ?_)))));rw [Nat.mod_eq_of_lt hc];refine As7 ATe rfl rfl AGh (Alg (O.set (i + LB.length) (c)) AU7 rfl rfl Aa AGh rfl fun h5 Ar U5=>?_);have B5:=U5.1;have Bj:=XQ.thenUpd U5 (fun k hk=>by have Aq:k=g1:=hk;omega);refine ATf (q_b (q_t (AS3 (Abp rfl AGh (AGi (AGq ?_))))));exact ⟨LA.length - (i + 1),(i + 1,O.set (i + LB.length) c),by first | omega | (dsimp only;omega),⟨rfl,by first | omega | (dsimp only;omega),Bj,AGh,Ar,by simp [hOl],Aja hOd hc,by dsimp only;have h1:=Al7 c (hOz (i + LB.length) (Nat.le_refl _) AGh);rw [Nat.mul_zero,Nat.add_zero] at h1;rw [h1,hOv,List.take_length,AUr hx,Nat.add_mul,Nat.mul_assoc],fun q h1 h2=>by dsimp only;rw [List.getElem?_set_ne AGh];exact hOz q AGh h2⟩,rfl,trivial⟩
  ·refine AGq (AGn (ATp rfl (AS9 (ATa (ATa (AT9 (q_t (AGn ?_))))))));obtain rfl:i=LA.length:=by omega
   rw [List.take_length] at hOv;have HDo:=Aa.ds (lo:=Array.size h) hOd AGh;refine AS3 (AGi (ATc trivial rfl (Ad5 (DS.mono HDo (Nat.zero_le _)) AGh) fun B6 hq hk=>?_));obtain ⟨rfl,L2,HT,htl⟩:=hk;refine ⟨trivial,?_⟩;refine AGw (AGy (⟨_,AS1,?_⟩))
   first
   | exact ⟨XQ,L1,lacks_HD1,Ak,Am,AGh⟩
   | exact ⟨XQ,L2,HT.ds HDo.lo,htl,by rw [HT.val,hOv],by have:=HT.len;omega⟩
theorem MulZ_ok {h:AGs} {la lb:Nat} {va vb:Value} {a b:Int} (HA:ZV h la va a) (HB:ZV h lb vb b) (hab:a.natAbs * b.natAbs < 4294967296 ^ 100):ATt Tryz.prog 158 #[va,vb] h fun x h'=>Ext h h'/\ZV h' (Array.size h) x (a * b):=by
 obtain ⟨na,sa,LA,rfl,HDa,htla,hla,hza⟩:=HA.out;obtain ⟨nb,sb,LB,rfl,HDb,htlb,hlb,hzb⟩:=HB.out;refine AT4 (l:=[_,_]) mx Tryz.func158 rfl rfl rfl rfl rfl AGv (AGl (Abe [.bool na,sa] (fun _=>trivial) rfl rfl fun Ak h2 V3 E4 Bb Ce=>?_));have Cf:Array.size h<=Ak:=Bb;have Cg:=E4.1;have Z8:=(Ext.refl h).trans E4;refine Abe [.bool nb,sb] (fun _=>trivial) rfl rfl fun Am Ch Av Ag Be Ci=>?_;have Cj:Array.size h<=Am:=Nat.le_trans E4.1 Be;have nebq1bq9:Ak≠Am:=by have:=V3.lt;omega
 have Ck:=Ag.1;have Aw:=E4.trans Ag;have Ax:=V3.ext Ag;refine AYm [.bool false,.slice none 0 0] AW9 rfl (fun _=>trivial) fun Ac Ai Bf Ad Bg Cm=>?_;have Cn:Array.size h<=Ac:=Nat.le_trans Aw.1 Bg;have nebq1bq20:Ak≠Ac:=by have:=Ax.lt;omega
 have nebq9bq20:Am≠Ac:=by have:=Av.lt;omega
 have Co:=Ad.1;have Bh:=(Z8.trans Ag).trans Ad;have Ao:=Aw.trans Ad;have Ay:=Ax.ext Ad;have Bi:=(E4.trans Ag).trans Ad;have Az:=Av.ext Ad;have Bj:=Ag.trans Ad;refine AGq (AGn (AU8 (fun h'=>Ext Ai h') AGv ?_));have Aa:=Ext.refl Ai;refine AXu (fs:=1) Ac1 AGv AGj rfl (AUy AWf rfl Aa (fun h' hb=>(Ay.ext hb).cell (i:=0) rfl) (AXu (fs:=1) Ac1 AGv AGj rfl (AUy AWf rfl Aa (fun h' hb=>(Az.ext hb).cell (i:=0) rfl) (Aq1 Akw rfl rfl (AXu (fs:=1) Adl AGv AGj rfl (AUy AZn rfl Aa (fun h' hb=>(Ay.ext hb).cell (i:=1) rfl) (ATc Aa rfl (Ad5 (DS.mono (HDa.ext Ao) (Nat.zero_le _)) AGh) fun Cp Ai hk=>?_)))))));obtain ⟨rfl,L1,Ap,Cr⟩:=hk;refine ⟨Aa,?_⟩;have Bl:=Ap.ds (lo:=la) HDa.lo;have A3:=Ap.val;have Ct:=Ap.len;refine AXu (fs:=1) Adl AGv AGj rfl (AUy AZn rfl Aa (fun h' hb=>(Az.ext hb).cell (i:=1) rfl) (ATc Aa rfl (Ad5 (DS.mono (HDb.ext Ao) (Nat.zero_le _)) AGh) fun Cu Ai hk=>?_));obtain ⟨rfl,L2,Aq,Cw⟩:=hk;refine ⟨Aa,?_⟩;have Bm:=Aq.ds (lo:=lb) HDb.lo;have A4:=Aq.val;have Cx:=Aq.len;refine ATc Aa rfl (A1j Bl Bm AGh AGh) fun Cy Cz hk=>?_;obtain ⟨Ae,L4,A5,A6,A7,C1⟩:=hk;have Ar:=Aa.trans Ae;refine ⟨Ar,?_⟩;have C2:=Ae.1;have Bn:=Bh.trans Ae;have Bo:=Ao.trans Ae;have Bp:=Bi.trans Ae;have Bq:=Bj.trans Ae;have Br:=Bf.ext Ae;have Bt:=Ad.trans Ae;refine ATc Ar rfl (Abu (!(na == nb)) A5 A6 (Adv A6 (by rw [A7,A3,A4,<- AXe hza,<- AXe hzb];exact hab))) fun C3 C4 hk=>?_;obtain ⟨Ab,Bu⟩:=hk;have Bv:=Ar.trans Ab;refine ⟨Bv,?_⟩;have C5:=Ab.1;have Bw:=Bn.trans Ab;have Bx:=Bo.trans Ab;have By:=Bp.trans Ab;have Bz:=Bq.trans Ab;have B1:=Br.ext Ab;have B3:=Bt.trans Ab;have B4:=A5.ext Ab;obtain ⟨A8,s3,L3,rfl,Ba,B6,B7,B8⟩:=Bu.out;refine AUz [.bool A8,s3] AT6 rfl rfl rfl rfl (Abb Ba.cap) B1 fun C6 B9 Af=>?_;have Ca:=Bx.thenUpd Af (fun k hk=>by have Aj:k=Ac:=hk;omega);have C7:=Af.1;have C8:=Bw.thenUpd Af (fun k hk=>by have Aj:k=Ac:=hk;omega);have C9:=B3.thenUpd Af (fun k hk=>by have Aj:k=Ac:=hk;omega);have Da:=By.thenUpd Af (fun k hk=>by have Aj:k=Ac:=hk;omega);have Db:=Bz.thenUpd Af (fun k hk=>by have Aj:k=Ac:=hk;omega);have Dc:=B4.updLo Af AGh;have Cb:=Ba.updLo Af AGh;refine AGq (AGy (⟨_,AU6 AT6 rfl rfl B9,?_⟩));exact ⟨Ca,⟨A8,s3,L3,rfl,Cb.mono AGh,B6,B7,by rw [<- B8,A7,A3,A4,hza,hzb,At4]⟩⟩
end Go.Proofs.YthbndcbclhkepaaGreatDoor.Ig
namespace Go.Proofs.YthbndcbclhkepaaGreatDoor
open Go Go.QF
def A8t (fuel:Nat) (a b:Int):Option Int:=if a.natAbs < AWv/\b.natAbs < AWv then some (a - b) else none
def Azu (fuel:Nat) (a b:Int):Option Int:=if a.natAbs * b.natAbs < AWv then some (a * b) else none
def Ame (fuel:Nat) (a b:Int):Option (Int × Int × Bool):=if a.natAbs < 18446744073709551616/\b.natAbs < 18446744073709551616/\b≠0 then some (a / b,a % b,true) else none
def A8u (fuel:Nat) (a:Int):Option Int:=some (-a)
def Amf (fuel:Nat) (a:Int):Option Int:=some a
def Aqd (fuel:Nat) (a:Int):Option Int:=if -9223372036854775808<=a/\a<=9223372036854775807 then some a else none
def Arm (fuel:Nat) (a:Int):Option Int:=some (AX5 a)
theorem A90 {fuel:Nat} {h:AGs} {u v:Value} {a b r:Int} (H1:ZZ h u a) (H2:ZZ h v b) (hp:A8t fuel a b=some r):ATt Tryz.prog 170 #[u,v] h (fun x h'=>Ext h h'/\ ∃ (x0:Value),x=x0/\ZZ h' x0 r):=by
 obtain ⟨⟨h1,h2⟩,hp⟩:=ifN hp;cases hp;exact (Ig.Sub_ok H1 H2 h1 h2).mono fun x h' hk=>⟨hk.1,x,rfl,hk.2.zz⟩
theorem Ayb {fuel:Nat} {h:AGs} {u v:Value} {a b r:Int} (H1:ZZ h u a) (H2:ZZ h v b) (hp:Azu fuel a b=some r):ATt Tryz.prog 158 #[u,v] h (fun x h'=>Ext h h'/\ ∃ (x0:Value),x=x0/\ZZ h' x0 r):=by
 obtain ⟨h1,hp⟩:=ifN hp;cases hp;exact (Ig.MulZ_ok H1 H2 (A3o h1)).mono fun x h' hk=>⟨hk.1,x,rfl,hk.2.zz⟩
theorem A91 {fuel:Nat} {h:AGs} {u:Value} {a r:Int} (H1:ZZ h u a) (hp:A8u fuel a=some r):ATt Tryz.prog 171 #[u] h (fun x h'=>Ext h h'/\ ∃ (x0:Value),x=x0/\ZZ h' x0 r):=by
 cases hp;exact (Ig.Neg_ok H1).mono fun x h' hk=>⟨hk.1,x,rfl,hk.2.zz⟩
theorem Aof {fuel:Nat} {h:AGs} {u:Value} {a r:Int} (H1:ZZ h u a) (hp:Amf fuel a=some r):ATt Tryz.prog 155 #[u] h (fun x h'=>Ext h h'/\ ∃ (x0:Value),x=x0/\ZZ h' x0 r):=by
 cases hp;exact (Ig.Normalize_ok H1).mono fun x h' hk=>⟨hk.1,x,rfl,hk.2.zz⟩
theorem Arn {fuel:Nat} {h:AGs} {a r:Int} (hp:Aqd fuel a=some r):ATt Tryz.prog 151 #[.int .i64 a] h (fun x h'=>Ext h h'/\ ∃ (x0:Value),x=x0/\ZZ h' x0 r):=by
 obtain ⟨h1,hp⟩:=ifN hp;cases hp;exact (Ig.Small_ok h1 h).mono fun x h' hk=>⟨hk.1,x,rfl,hk.2.zz⟩
theorem Aqe {fuel:Nat} {h:AGs} {u:Value} {a r:Int} (H1:ZZ h u a) (hp:Arm fuel a=some r):ATt Tryz.prog 154 #[u] h (fun x h'=>Ext h h'/\x= .int .i64 r):=by
 cases hp;exact Ig.Sign_ok H1
theorem Apd {fuel:Nat} {h:AGs} {u v:Value} {a b:Int} {r:Int × Int × Bool} (H1:ZZ h u a) (H2:ZZ h v b) (hp:Ame fuel a b=some r):ATt Tryz.prog 157 #[u,v] h (fun x h'=>Ext h h'/\ ∃ (x0:Value) (x1:Value),x= .tuple #[x0,x1,.bool r.2.2]/\ZZ h' x0 r.1/\ZZ h' x1 r.2.1):=by
 obtain ⟨⟨h1,h2,h3⟩,hp⟩:=ifN hp;cases hp;exact (Ig.DivMod2_ok H1 H2 h1 h2 h3).mono fun x h' ⟨E,q,r,hx,hq,hr⟩=>⟨E,q,r,hx,hq.zz,hr.zz⟩
end Go.Proofs.YthbndcbclhkepaaGreatDoor
namespace Go.Proofs.YthbndcbclhkepaaGreatDoor
open Go Go.QF
set_option maxRecDepth 100000
set_option maxHeartbeats 4000000
def Acp (fuel:Nat) (a3:LiI) (Ac:LiA) (Aa:Int):Option ((Int) ⊕ (((Int × Int × Bool)) ⊕ (Unit))):=
  (if Aa < (a3.length:Int) then ((gI a3 Aa).bind fun Ad=>(if ¬ (Ad.length:Int)=(Ac.length:Int) then (some (Sum.inr<| Sum.inl <| (0,0,false))) else (some (Sum.inl (w64 (Aa + 1)))))) else (some (Sum.inr<| Sum.inr <| ())))
def AZa (fuel:Nat) (a3:LiI):Option (Int × Int × Bool):=
  (((if (a3.length:Int) < 1 then (some (Sum.inl <| (0,0,false))) else (if 16 < (a3.length:Int) then (some (Sum.inl <| (0,0,false))) else (some (Sum.inr <| ())))):Option (((Int × Int × Bool)) ⊕ (Unit))).bind (fun ex=>match ex with | Sum.inl Ac=>(some Ac) | Sum.inr (_)=>((gI a3 0).bind fun Ab=>(((if (Ab.length:Int) < 1 then (some (Sum.inl <| (0,0,false))) else (if 16 < (Ab.length:Int) then (some (Sum.inl <| (0,0,false))) else (some (Sum.inr <| ())))):Option (((Int × Int × Bool)) ⊕ (Unit))).bind (fun ex=>match ex with | Sum.inl Ad=>(some Ad) | Sum.inr (_)=>((iter (fun s=>Acp fuel a3 Ab s) fuel 0).bind (fun ex=>match ex with | Sum.inl Ae=>(some Ae) | Sum.inr (_)=>(some ((a3.length:Int),(Ab.length:Int),true)))))))))
theorem Aj8 {fuel:Nat} {h:AGs} {Aq:Value} {a3:LiI} {r:(Int × Int × Bool)} (H2:AXq (cI .i64) h Aq a3) (hp:AZa fuel a3=some r):ATt Tryz.prog 148 #[Aq] h (fun x h'=>Ext h h'/\x= .tuple #[.int .i64 r.1,.int .i64 r.2.1,.bool r.2.2]):=by
 unfold AZa at hp;refine cwf (l:=[_]) Tryz.func148 rfl rfl (AGl (ATi (ATi (AGw ?_))));have K0:=Kst.k0 h;obtain ⟨A3,Ar,Ah⟩:=AGm hp;refine Aey 65308 (fun x:Unit=>[]) (fun x h'=>(Sum.inr <| ())=A3/\Kst h h' (K0.L)) ?_ ?_
 ·refine AGl (AGi (AT3 AS8 rfl H2 (ATm rfl rfl (AGi ?_))));by_cases Ad:(a3.length:Int) < 1
  ·rw [decide_eq_true Ad];refine Abq 11 true (ATh rfl (AGq (ATn rfl (AGl (ATi (ATi (AGw ?_)))))));obtain rfl:=AGk (ifT Ar Ad);refine AGy (ATb ?_);obtain rfl:=AGk Ah;exact ⟨_,Abc,K0.x,rfl⟩
  ·have Au:=ifF Ar Ad;rw [decide_eq_false Ad];refine ATo 11 false (AGi (ATo 11 false (AT3 AS8 rfl H2 (ATo 11 false (AY6 rfl rfl (ATq rfl (AGq (⟨_,rfl,fun Ai=>?_,fun Ai=>?_⟩))))))))
   ·refine AGl (ATi (ATi (AGw ?_)));obtain rfl:=AGk (AT0 Au Ai);refine AGy (ATb ?_);obtain rfl:=AGk Ah;exact ⟨_,Abc,K0.x,rfl⟩
   ·refine AGx (q_t ?_);exact ⟨(():Unit),⟨AGk (AT1 Au Ai),K0⟩,trivial⟩
 rintro ⟨⟩ Be Bf ⟨A4,Ab⟩;subst A4;refine AGl (AGi ?_);obtain ⟨A5,A6,A7⟩:=AGm Ah;refine Ac2 AS8 ATk H2 Ab.x A6 fun _ Bg A8=>AUn AS7 rfl A8 (AGw ?_);obtain ⟨A9,Av,Aj⟩:=AGm A7;refine Aey 66060316 (fun x:Unit=>[]) (fun x h'=>(Sum.inr <| ())=A9/\Kst h h' (Ab.L)) ?_ ?_
 ·refine AGl (AGi (ATm rfl rfl (AGi ?_)));by_cases Ae:(A5.length:Int) < 1
  ·rw [decide_eq_true Ae];refine Ae3 22 true (ATh rfl (AGq (ATn rfl (AGl (ATi (ATi (AGw ?_)))))));obtain rfl:=AGk (ifT Av Ae);refine AGy (ATb ?_);obtain rfl:=AGk Aj;exact ⟨_,Abc,Ab.x,rfl⟩
  ·have Aw:=ifF Av Ae;rw [decide_eq_false Ae];refine ATo 22 false (AGi (ATo 22 false (AY6 rfl rfl (ATq rfl (AGq (⟨_,rfl,fun Ak=>?_,fun Ak=>?_⟩))))))
   ·refine AGl (ATi (ATi (AGw ?_)));obtain rfl:=AGk (AT0 Aw Ak);refine AGy (ATb ?_);obtain rfl:=AGk Aj;exact ⟨_,Abc,Ab.x,rfl⟩
   ·refine AGx (q_t ?_);exact ⟨(():Unit),⟨AGk (AT1 Aw Ak),Ab⟩,trivial⟩
 rintro ⟨⟩ Bh Bi ⟨Ba,Ax⟩;subst Ba;refine AGn (AGl (AGi (AT3 AS8 rfl H2 (AGi (AGq (AGo (AY2 137170518172 Aj (fun x=>[(28,(.int .i64 x))]) (fun x=>Ax.L) Ax ⟨rfl,trivial⟩ ?_)))))));rintro Bj Bl Bm Bn Af Am Ay;unfold Acp at Am;refine AGl (ATm rfl rfl (AGq (AGn (⟨_,rfl,fun Ao=>?_,fun Ao=>?_⟩))))
 ·refine AGx (q_t (AGn (AGo (AGl ?_))));obtain ⟨Bo,Bb,Az⟩:=AGm (AT0 Am Ao);refine Ac2 AS8 ATk H2 Af.x Bb fun _ Bp Bc=>ATx (AGi (AUn AS7 rfl Bc (AGi (AXa rfl rfl (AGq (⟨_,rfl,fun Ap=>?_,fun Ap=>?_⟩))))))
  ·refine AGl (ATi (ATi (AGw (AGy (AUf (ATb (ATb (AUf (ATb ?_)))))))));obtain rfl:=AGk (Ay _ (AGk (AT0 Az Ap)).symm);exact ⟨_,Abc,Af.x,rfl⟩
  ·refine AGx (q_b (q_t (AS3 (ATj rfl rfl (AGi (AGq ?_))))));exact ⟨_,(AGk (AT1 Az Ap)).symm,Af,rfl,trivial⟩
 ·refine AS9 (ATa (ATa (AT9 (q_t (AGl (AGi (AT3 AS8 rfl H2 (AGi (ATi (ATi (AGw (AGy ?_))))))))))));obtain rfl:=AGk (Ay _ (AGk (AT1 Am Ao)).symm);exact ⟨_,Abc,Af.x,rfl⟩
def Abn (fuel:Nat) (a3:LiI) (Ac:LiA) (Aa:Int):Option ((Int) ⊕ (((Int × Int × Bool)) ⊕ (Unit))):=
  (if Aa < (a3.length:Int) then ((gI a3 Aa).bind fun Ad=>(if ¬ (Ad.length:Int)=(Ac.length:Int) then (some (Sum.inr<| Sum.inl <| (0,0,false))) else (some (Sum.inl (w64 (Aa + 1)))))) else (some (Sum.inr<| Sum.inr <| ())))
def AYe (fuel:Nat) (a3:LiI):Option (Int × Int × Bool):=
  (((if (a3.length:Int) < 1 then (some (Sum.inl <| (0,0,false))) else (if 16 < (a3.length:Int) then (some (Sum.inl <| (0,0,false))) else (some (Sum.inr <| ())))):Option (((Int × Int × Bool)) ⊕ (Unit))).bind (fun ex=>match ex with | Sum.inl Ac=>(some Ac) | Sum.inr (_)=>((gI a3 0).bind fun Ab=>(((if (Ab.length:Int) < 1 then (some (Sum.inl <| (0,0,false))) else (if 16 < (Ab.length:Int) then (some (Sum.inl <| (0,0,false))) else (some (Sum.inr <| ())))):Option (((Int × Int × Bool)) ⊕ (Unit))).bind (fun ex=>match ex with | Sum.inl Ad=>(some Ad) | Sum.inr (_)=>((iter (fun s=>Abn fuel a3 Ab s) fuel 0).bind (fun ex=>match ex with | Sum.inl Ae=>(some Ae) | Sum.inr (_)=>(some ((a3.length:Int),(Ab.length:Int),true)))))))))
theorem Ai4 {fuel:Nat} {h:AGs} {Aq:Value} {a3:LiI} {r:(Int × Int × Bool)} (H2:AXq cZ h Aq a3) (hp:AYe fuel a3=some r):ATt Tryz.prog 152 #[Aq] h (fun x h'=>Ext h h'/\x= .tuple #[.int .i64 r.1,.int .i64 r.2.1,.bool r.2.2]):=by
 unfold AYe at hp;refine cwf (l:=[_]) Tryz.func152 rfl rfl (AGl (ATi (ATi (AGw ?_))));have K0:=Kst.k0 h;obtain ⟨A3,Ar,Ah⟩:=AGm hp;refine Aey 65308 (fun x:Unit=>[]) (fun x h'=>(Sum.inr <| ())=A3/\Kst h h' (K0.L)) ?_ ?_
 ·refine AGl (AGi (AT3 AUo rfl H2 (ATm rfl rfl (AGi ?_))));by_cases Ad:(a3.length:Int) < 1
  ·rw [decide_eq_true Ad];refine Abq 11 true (ATh rfl (AGq (ATn rfl (AGl (ATi (ATi (AGw ?_)))))));obtain rfl:=AGk (ifT Ar Ad);refine AGy (ATb ?_);obtain rfl:=AGk Ah;exact ⟨_,Abc,K0.x,rfl⟩
  ·have Au:=ifF Ar Ad;rw [decide_eq_false Ad];refine ATo 11 false (AGi (ATo 11 false (AT3 AUo rfl H2 (ATo 11 false (AY6 rfl rfl (ATq rfl (AGq (⟨_,rfl,fun Ai=>?_,fun Ai=>?_⟩))))))))
   ·refine AGl (ATi (ATi (AGw ?_)));obtain rfl:=AGk (AT0 Au Ai);refine AGy (ATb ?_);obtain rfl:=AGk Ah;exact ⟨_,Abc,K0.x,rfl⟩
   ·refine AGx (q_t ?_);exact ⟨(():Unit),⟨AGk (AT1 Au Ai),K0⟩,trivial⟩
 rintro ⟨⟩ Be Bf ⟨A4,Ab⟩;subst A4;refine AGl (AGi ?_);obtain ⟨A5,A6,A7⟩:=AGm Ah;refine Ac2 AUo AWb H2 Ab.x A6 fun _ Bg A8=>AUn AVl rfl A8 (AGw ?_);obtain ⟨A9,Av,Aj⟩:=AGm A7;refine Aey 66060316 (fun x:Unit=>[]) (fun x h'=>(Sum.inr <| ())=A9/\Kst h h' (Ab.L)) ?_ ?_
 ·refine AGl (AGi (ATm rfl rfl (AGi ?_)));by_cases Ae:(A5.length:Int) < 1
  ·rw [decide_eq_true Ae];refine Ae3 22 true (ATh rfl (AGq (ATn rfl (AGl (ATi (ATi (AGw ?_)))))));obtain rfl:=AGk (ifT Av Ae);refine AGy (ATb ?_);obtain rfl:=AGk Aj;exact ⟨_,Abc,Ab.x,rfl⟩
  ·have Aw:=ifF Av Ae;rw [decide_eq_false Ae];refine ATo 22 false (AGi (ATo 22 false (AY6 rfl rfl (ATq rfl (AGq (⟨_,rfl,fun Ak=>?_,fun Ak=>?_⟩))))))
   ·refine AGl (ATi (ATi (AGw ?_)));obtain rfl:=AGk (AT0 Aw Ak);refine AGy (ATb ?_);obtain rfl:=AGk Aj;exact ⟨_,Abc,Ab.x,rfl⟩
   ·refine AGx (q_t ?_);exact ⟨(():Unit),⟨AGk (AT1 Aw Ak),Ab⟩,trivial⟩
 rintro ⟨⟩ Bh Bi ⟨Ba,Ax⟩;subst Ba;refine AGn (AGl (AGi (AT3 AUo rfl H2 (AGi (AGq (AGo (AY2 137170518172 Aj (fun x=>[(28,(.int .i64 x))]) (fun x=>Ax.L) Ax ⟨rfl,trivial⟩ ?_)))))));rintro Bj Bl Bm Bn Af Am Ay;unfold Abn at Am;refine AGl (ATm rfl rfl (AGq (AGn (⟨_,rfl,fun Ao=>?_,fun Ao=>?_⟩))))
 ·refine AGx (q_t (AGn (AGo (AGl ?_))));obtain ⟨Bo,Bb,Az⟩:=AGm (AT0 Am Ao);refine Ac2 AUo AWb H2 Af.x Bb fun _ Bp Bc=>ATx (AGi (AUn AVl rfl Bc (AGi (AXa rfl rfl (AGq (⟨_,rfl,fun Ap=>?_,fun Ap=>?_⟩))))))
  ·refine AGl (ATi (ATi (AGw (AGy (AUf (ATb (ATb (AUf (ATb ?_)))))))));obtain rfl:=AGk (Ay _ (AGk (AT0 Az Ap)).symm);exact ⟨_,Abc,Af.x,rfl⟩
  ·refine AGx (q_b (q_t (AS3 (ATj rfl rfl (AGi (AGq ?_))))));exact ⟨_,(AGk (AT1 Az Ap)).symm,Af,rfl,trivial⟩
 ·refine AS9 (ATa (ATa (AT9 (q_t (AGl (AGi (AT3 AUo rfl H2 (AGi (ATi (ATi (AGw (AGy ?_))))))))))));obtain rfl:=AGk (Ay _ (AGk (AT1 Am Ao)).symm);exact ⟨_,Abc,Af.x,rfl⟩
def Aeh (fuel:Nat) (a3:LiI) (Ab:Int) (Af:LiA) (Aa:Int) (Ac:LiI):Option ((Int × LiI) ⊕ ((LiI))):=
  (if Aa < (Af.length:Int) then ((gI Ac Ab).bind fun Ad=>((((gI a3 Ab).bind fun Ag=>((gI Ag Aa).bind fun Ah=>((Aqd fuel Ah).bind fun Ai=>(some ( Ai))))):Option (Int)).bind fun Aj=>((gI Ad Aa).bind fun Ak=>(some (Sum.inl ((w64 (Aa + 1)),(sI Ac Ab (sI Ad Aa Aj)))))))) else (some (Sum.inr<| Ac)))
def Aei (fuel:Nat) (a3:LiI) (Ae Ab Aa:Int) (Ac:LiI):Option ((Int × LiI) ⊕ ((LiI))):=
  (if Aa < ((List.replicate (Int.toNat Ae) ([]:List Int)).length:Int) then (if 0<=Ab/\Ab<=100000000 then ((gI Ac Aa).bind fun Ah=>((gI (sI Ac Aa (List.replicate (Int.toNat Ab) (0:Int))) Aa).bind fun Af=>((iter (fun s=>Aeh fuel a3 Aa Af s.1 s.2) fuel (0,(sI Ac Aa (List.replicate (Int.toNat Ab) (0:Int))))).bind (fun (Ag:LiI)=>(some (Sum.inl ((w64 (Aa + 1)),Ag))))))) else none) else (some (Sum.inr<| Ac)))
def Abv (fuel:Nat) (a3:LiI):Option (LiI × Bool):=
  ((AZa fuel a3).bind fun (Aa,Ac,Ad)=>(if (!Ad)=true then (some ([],false)) else (((if 0<=Aa/\Aa<=100000000 then ((iter (fun s=>Aei fuel a3 Aa Ac s.1 s.2) fuel (0,(List.replicate (Int.toNat Aa) ([]:List Int)))).bind (fun (Ae:LiI)=>(some ( Ae)))) else none):Option (LiI)).bind fun Af=>(some (Af,true)))))
theorem Amg {fuel:Nat} {h:AGs} {Ah:Value} {a3:LiI} {r:(LiI × Bool)} (H2:AXq (cI .i64) h Ah a3) (hp:Abv fuel a3=some r):ATt Tryz.prog 115 #[Ah] h (fun x h'=>Ext h h'/\ ∃ (x0:Value) (F0:List Nat) (Bu:List LnA) (Bv:List Value),x= .tuple #[x0,.bool r.2]/\AVo cZ 131 93 h' F0 Bu Bv x0 r.1/\Sp h' h.size [F0]):=by
 unfold Abv at hp;refine cwf (l:=[_]) Tryz.func115 rfl rfl (AGl ?_);have K0:=Kst.k0 h;refine A3f [Ah] trivial tt2 rfl (Avy ((H2.ext K0.x)).isOne) fun b5 h6 V7 E8 S9=>ATi (ATx ?_);have Aj:=K0.nb E8 S9 V7;refine ATz AU1 rfl ((Aj.b p0).cell (i:=0) rfl) ?_;obtain ⟨⟨B1,B3,D1⟩,B4,Ak⟩:=AGm hp;dsimp only at Ak;refine AXx Aj (Aj8 (H2.ext Aj.x) B4) fun D2 D3 Am=>AGi (AUe rfl rfl (AUe rfl rfl (AUe rfl rfl (ATi (ATi (AGw (AGn (AGl (AGi (AWp rfl (AGq (⟨_,rfl,fun Ao=>?_,fun Ao=>?_⟩))))))))))))
 ·refine AGl (ATi (AGw (AGy (ATb ?_))));have Ap:=Kst.anil2 cZ 131 93 Am;obtain rfl:=AGk (ifT Ak Ao);exact ⟨_,AUm,Ap.x,_,_,_,_,rfl,(Ap.o2 p0),Ap.s.sel [0] AGj⟩
 ·refine AGx (q_t (AGl (AGi (AGi (A2h rfl ?_)))));obtain ⟨B5,B6,B7⟩:=AGm (Aav Ak Ao);refine ATc (K':=(fun xr h'=> ∃ x:(LiI) × (Value) × LnA × LnN × LvA,x.1=B5/\xr=x.2.1/\Kst h h' (aO2 cZ 131 93 x.2.2.1 x.2.2.2.1 x.2.2.2.2 x.2.1 x.1 :: Am.L))) trivial rfl ?_ fun B8 D4 B9=>?_
  ·refine cwf (l:=[_,_,_]) Tryz.func149 rfl rfl (AGl (ATx (AGi ?_)));obtain ⟨Ca,Cb⟩:=ifN B6;refine Ajd cZ 93 AUo Avz rfl trivial tt2 rfl rfl AGj Ca fun Cd Ce Cf Aq D5 Cg Ch Ci=>AGw (AGn (AGl (AGi ?_)));have Ar:=Am.no2 Ch Ci Cg;refine AT3 AUo rfl (Ar.o2 p0).rd (AGi (AGq (AGo (AX3 4398046495488 (fun x:(Int) × (LiI) × LnA × LnN × LvA=>(x.1,x.2.1)) ((0,(List.replicate (Int.toNat B1) ([]:List Int)),Cd,Ce,Cf):(Int) × (LiI) × LnA × LnN × LvA) Cb (fun x=>[(14,(.int .i64 x.1))]) (fun x=>Ar.L.set 0 (aO2 cZ 131 93 x.2.2.1 x.2.2.2.1 x.2.2.2.2 Aq x.2.1)) Ar ⟨rfl,trivial⟩ ?_))));rintro ⟨Aa,Bg,Cj,Au,Bh⟩ D6 D7 D8 Bi Av Ck;unfold Aei at Av;refine AGl (ATm rfl rfl (AGq (AGn (⟨_,rfl,fun Aw=>?_,fun Aw=>?_⟩))))
   ·refine AGx (q_t (AGn (AGo (AGl (AGi (ATx (AGi (AGi (AGi ?_)))))))));obtain ⟨Cm,Cn⟩:=ifN (AT0 Av Aw);refine Axr AVl AW9 rfl trivial tt2 rfl rfl AGj Cm fun Bj Co D9 Cp Cq Cr Ct=>?_;have Ac:=Bi.no Cq (AXv Cr Ct) Cp;obtain ⟨Ea,Bl,Cu⟩:=AGm Cn;refine AVd AUo rfl (Ac.o2 p1) rfl Bl fun Cv Eb Cw Ec Ed=>Ajc AWb (Ac.o2 p1) Bl Cw rfl rfl (Ac.o p0) (Ac.dj p0 p1 AGj) fun Ee Cx Cy Cz=>AZf (AGi (AGi ?_));have Ax:=Ac.m2 p0 p1 AGj Cy Cx (fun z hz=> .inl (Cz z hz));obtain ⟨Ef,Bm,C0⟩:=AGm Cu;refine AUg AUo AWb (Ax.o2 p1) Bm fun _ Eg C1=>AUn AVl rfl ((Ax.o2 p1).rowI C1 Bm) (AGi (AGq (AGo ?_)));have Ay:=Ax.sel [1,2] AGj;dsimp only [AYk,Abf] at Ay;refine AX3 2198889038336 (fun x:(Int) × (LiI) × LnA × LnN × LvA=>(x.1,x.2.1)) ((0,(sI Bg Aa (List.replicate (Int.toNat B3) (0:Int))),(Cv :: (Au.set (Int.toNat Aa) [Bj]).flatten),(Au.set (Int.toNat Aa) [Bj]),(Bh.set (Int.toNat Aa) Co)):(Int) × (LiI) × LnA × LnN × LvA) C0 (fun x=>[(27,(.int .i64 x.1))]) (fun x=>Ay.L.set 0 (aO2 cZ 131 93 x.2.2.1 x.2.2.2.1 x.2.2.2.2 Aq x.2.1)) Ay ⟨rfl,trivial⟩ ?_;rintro ⟨C2,Eh,Ei,Ej,Ek⟩ El Ab Em Ad Az C3;unfold Aeh at Az;refine AGl (ATm rfl rfl (AGq (AGn (⟨_,rfl,fun A3=>?_,fun A3=>?_⟩))))
    ·refine AGx (q_t (AGn (AGo (AGl (AGi (AGw (AU8 (fun h'=>UpT [] Ab h') AGv ?_)))))));have A4:UpT [] Ab Ab:=UpT.start all_nil;refine AGi (AGi ?_);obtain ⟨En,A5,C4⟩:=AGm (AT0 Az A3);refine AVd AUo rfl (Ad.o2 p0) rfl A5 fun Eo Ep Er C5 C6=>AUy AWb rfl A4 (fun h' hb=>ATl C6 hb.ext) (AGi (AGi (AGi (AGi ?_))));obtain ⟨C7,C8,C9⟩:=AGm C4;have Da:UpT [] Ab Ab:=UpT.start all_nil;refine Ap3 (l:=[(.int .i64 Aa),(.int .i64 C2)]) (cl:=[(.pointer (some ⟨b5,0,none⟩))]) (K':=(fun xr h'=> ∃ x:(Int) × LvA,x.1=C7/\xr=(.agg (x.2).toArray)/\Kst h h' (aZ x.2 x.1 :: Ad.L)/\UpT [] Ab h')) A4 rfl rfl ?_ fun Es Et Db=>?_
     ·refine cwf (l:=[_,_,_]) Tryz.func150 rfl rfl (AGl (Aq5 [.bool false,.slice none 0 0] AW9 rfl trivial tt2 fun Eu Ev Dc A6 Bn=>AZf ?_));have Ew:=A6.1;have Ag:=Ad.nb A6 Bn Dc;refine ATz AU1 rfl ((Ag.b p2).cell (i:=0) rfl) (AGi ?_);have Dd:=Bn.loAll 0 rfl;obtain ⟨Ey,De,Df⟩:=AGm C8;refine Al8 AS8 rfl H2 rfl De fun Ez Fa Fb Dg Dh=>ATz ATk rfl (ATl Dg Ag.x) (AGi ?_);obtain ⟨Fc,Di,Dj⟩:=AGm Df;refine Ac0 (c:=(cI .i64)) AS7 rfl Dh rfl Di fun Fd Fe Ff Dk Dl=>?_;obtain rfl:=Dk;refine ATz ATd rfl (ATl (Dl 0 _ rfl) Ag.x) ?_;obtain ⟨Do,Dp,Dq⟩:=AGm Dj;refine Afg rfl (Arn Dp) fun Fg Dr A7 Ds=>?_;obtain ⟨Fh,rfl,Dt⟩:=Ds;have Fi:=A7.1;obtain ⟨Bo,rfl,Du⟩:=Dt.cs;have Ae:=(Ag.e A7).az Du;refine AUz Bo AT6 (cZ.klen (Ae.z p0)) (cZ.klen (AS6 Dr)) rfl rfl (cZ.one (Ae.z p0)) (Ae.b p1) fun Fj Bp A8=>AGq (AGy ?_);have Fk:=A8.1;have A9:=Ae.sb p1 A8 Bp rfl;refine ⟨_,AU6 AT6 (cZ.klen (A9.z p0)) rfl (A9.b p1),((Do,Bo):(Int) × LvA),?_,rfl,?_,?_⟩
      ·exact AGk Dq
      ·exact A9.sel [0,2,3] AGj
      ·exact (((Da.thenE A6).thenE A7).then (Bp.stA A8 (AX8 (Ae.b p1) rfl) rfl) (A9d Dd AGh))
     obtain ⟨⟨Fl,Fm⟩,Dv,rfl,Af,Bq⟩:=Db;have Fo:=Bq.size;refine ⟨(A4.then Bq all_nil),?_⟩;subst Dv;obtain ⟨Fp,Br,Dw⟩:=AGm C9;refine AWc (m:=Aa) AVl rfl (Ad.o2 p0) C5 A5 rfl Br fun Fq Dx=>Ac8 (m:=Aa) (Ajb AT6 (cZ.klen (Af.z p0)) rfl rfl (cZ.one (Af.z p0))) (Af.o2 p1) Dx A5 Br (Af.z p0) fun Fr Dy Bt=>ATf (q_b (q_t (AS3 (ATj rfl rfl (AGi (AGq ?_))))));have Ft:=Bt.size;exact ⟨(_,_,_,_,_),(AGk Dw).symm,(Af.uO2 p1 Bt Dy).sel [1,2] AGj,rfl,trivial⟩
    ·refine AS9 (ATa (ATa (AT9 (q_b (q_t (AS3 (ATj rfl rfl (AGi (AGq ?_)))))))));exact ⟨(_,_,_,_,_),(AGk (C3 _ (AGk (AT1 Az A3)).symm)).symm,Ad,rfl,trivial⟩
   ·refine AS9 (ATa (ATa (AT9 (q_t (AGl (AGi (AGw (AGy (⟨_,AS1,((Bg,Aq,Cj,Au,Bh):(LiI) × (Value) × LnA × LnN × LvA),?_,rfl,?_⟩)))))))))
    ·exact AGk (Ck _ (AGk (AT1 Av Aw)).symm)
    ·exact Bi
  obtain ⟨⟨Fu,B8,Fv,Fw,Fx⟩,Dz,rfl,Ba⟩:=B9;refine ⟨trivial,?_⟩;subst Dz;refine ATi (AGw (AGy ?_));obtain rfl:=AGk B7;exact ⟨_,AUm,Ba.x,_,_,_,_,rfl,(Ba.o2 p0),Ba.s.sel [0] AGj⟩
def Acq (fuel:Nat) (a3:LiI) (Ac:Int) (Ad:LiI) (Aa:Int):Option ((Int) ⊕ ((Int))):=
  (((if Aa < (a3.length:Int) then ((gI Ad Aa).bind fun Ae=>((gI Ae Ac).bind fun Af=>((Arm fuel Af).bind fun Ag=>(if Ag=0 then (some (Sum.inl <| ())) else (some (Sum.inr <| ())))))) else (some (Sum.inr <| ()))):Option ((Unit) ⊕ (Unit))).bind (fun ex=>match ex with | Sum.inl _=>(some (Sum.inl (w64 (Aa + 1)))) | Sum.inr (_)=>(some (Sum.inr<| Aa))))
def Acr (fuel:Nat) (a3:LiI) (Ad Ag Ah Ae Aa:Int) (Ab:LiI):Option ((Int × LiI) ⊕ ((LiI))):=
  (if Aa < (a3.length:Int) then ((gI Ab Ae).bind fun Ac=>((gI Ac Aa).bind fun Ai=>((Azu fuel Ah Ai).bind fun Aj=>((gI Ac Ad).bind fun Ak=>((gI Ab Ad).bind fun Am=>((gI Am Aa).bind fun Ao=>((Azu fuel Ak Ao).bind fun Ap=>((A8t fuel Aj Ap).bind fun Aq=>((Ame fuel Aq Ag).bind fun (Ar,Au,Av)=>(some (Sum.inl ((w64 (Aa + 1)),(sI Ab Ae (sI Ac Aa Ar)))))))))))))) else (some (Sum.inr<| Ab)))
def Acs (fuel:Nat) (a3:LiI) (Ac Ae Af Aa:Int) (Ad:LiI):Option ((Int × LiI) ⊕ ((LiI))):=
  (if Aa < (a3.length:Int) then ((iter (fun s=>Acr fuel a3 Ac Ae Af Aa s.1 s.2) fuel ((w64 (Ac + 1)),Ad)).bind (fun (Ag:LiI)=>(some (Sum.inl ((w64 (Aa + 1)),Ag))))) else (some (Sum.inr<| Ad)))
def Acu (fuel:Nat) (a3:LiI) (Ae:Bool) (Aa:Int) (Ab:LiI) (Af:Int):Option ((Bool × Int × LiI × Int) ⊕ ((Int) ⊕ (Bool × Int))):=
  (if Aa < (a3.length:Int) then ((((iter (fun s=>Acq fuel a3 Aa Ab s) fuel Aa).bind (fun (Ai:Int)=>(some ( Ai)))):Option ((Int))).bind (fun (Ad:Int)=>(if Ad=(a3.length:Int) then (some (Sum.inr<| Sum.inl <| 0)) else (((if ¬ Ad=Aa then ((gI Ab Ad).bind fun Aj=>((gI Ab Aa).bind fun Ak=>(some ( ((!Ae),(sI (sI Ab Aa Aj) Ad Ak)))))) else (some ( (Ae,Ab)))):Option ((Bool × LiI))).bind (fun ((Am,Ag):Bool × LiI)=>((gI Ag Aa).bind fun Ao=>((gI Ao Aa).bind fun Ah=>((iter (fun s=>Acs fuel a3 Aa Af Ah s.1 s.2) fuel ((w64 (Aa + 1)),Ag)).bind (fun (Ap:LiI)=>(some (Sum.inl (Am,(w64 (Aa + 1)),Ap,Ah)))))))))))) else (some (Sum.inr<| Sum.inr <| (Ae,Af))))
def Acv (fuel:Nat) (a3:LiI) (Aa:Int) (Ac:LiI):Option ((Int × LiI) ⊕ ((LiI))):=
  (if Aa < (a3.length:Int) then ((gI a3 Aa).bind fun Ad=>(if 0<=(a3.length:Int)/\(a3.length:Int)<=100000000 then ((gI Ac Aa).bind fun Af=>((gI (sI Ac Aa (List.replicate (Int.toNat (a3.length:Int)) (0:Int))) Aa).bind fun Ae=>(if Ad.length=Ae.length/\0 < Ae.length then (some (Sum.inl ((w64 (Aa + 1)),(sI (sI Ac Aa (List.replicate (Int.toNat (a3.length:Int)) (0:Int))) Aa Ad)))) else none))) else none)) else (some (Sum.inr<| Ac)))
def AZb (fuel:Nat) (a3:LiI):Option Int:=
  (if 0<=(a3.length:Int)/\(a3.length:Int)<=100000000 then ((iter (fun s=>Acv fuel a3 s.1 s.2) fuel (0,(List.replicate (Int.toNat (a3.length:Int)) ([]:List Int)))).bind (fun (Ac:LiI)=>((Aqd fuel 1).bind fun Ad=>((iter (fun s=>Acu fuel a3 s.1 s.2.1 s.2.2.1 s.2.2.2) fuel (false,0,Ac,Ad)).bind (fun ex=>match ex with | Sum.inl Ae=>(some Ae) | Sum.inr ((Af,Ab))=>(if Af=true then ((A8u fuel Ab).bind fun Ag=>(some Ag)) else ((Amf fuel Ab).bind fun Ah=>(some Ah)))))))) else none)
theorem Aj9 {fuel:Nat} {h:AGs} {Bx:Value} {a3:LiI} {r:Int} (H2:AXq cZ h Bx a3) (hp:AZb fuel a3=some r):ATt Tryz.prog 153 #[Bx] h (fun x h'=>Ext h h'/\ ∃ (x0:Value),x=x0/\ZZ h' x0 r):=by
 unfold AZb at hp;refine cwf (l:=[_]) Tryz.func153 rfl rfl (AGl (AVt (Kst.k0 h) [.bool false,.slice none 0 0] AW9 fun b5 h6 E8 C7=>AZf (AGi (AT3 AUo rfl H2 (ATx (AGi ?_))))));obtain ⟨C8,C9⟩:=ifN hp;refine Ajd cZ 93 AUo Avz rfl trivial tt2 rfl rfl AGj C8 fun Da Db Dc Ak Ie Dd De Df=>AGw (AGn (AGl (AGi (AT3 AUo rfl H2 (AGi (AGq (AGo ?_)))))));have Bz:=C7.no2 De Df Dd;refine AX3 274875809888 (fun x:(Int) × (LiI) × LnA × LnN × LvA=>(x.1,x.2.1)) ((0,(List.replicate (Int.toNat (a3.length:Int)) ([]:List Int)),Da,Db,Dc):(Int) × (LiI) × LnA × LnN × LvA) C9 (fun x=>[(21,(.int .i64 x.1))]) (fun x=>Bz.L.set 0 (aO2 cZ 131 93 x.2.2.1 x.2.2.2.1 x.2.2.2.2 Ak x.2.1)) Bz ⟨rfl,trivial⟩ ?_;rintro ⟨Dg,u32,Dh,Di,Dj⟩ If Ih Ii A7 A8 Dk;unfold Acv at A8;refine AGl (ATm rfl rfl (AGq (AGn (⟨_,rfl,fun A9=>?_,fun A9=>?_⟩))))
 ·refine AGx (q_t (AGn (AGo (AGl (AGi ?_)))));obtain ⟨Ij,Dl,Do⟩:=AGm (AT0 A8 A9);refine Ac2 AUo AWb H2 A7.x Dl fun _ Ik Dp=>ATi (ATx (AGi (AGi (AGi ?_))));obtain ⟨Dq,Dr⟩:=ifN Do;refine Axr AVl AW9 rfl trivial tt2 rfl rfl AGj Dq fun Il Im Io Ds Dt Du Dv=>?_;have Am:=A7.no Dt (AXv Du Dv) Ds;obtain ⟨Ip,B1,Dw⟩:=AGm Dr;refine AVd AUo rfl (Am.o2 p1) rfl B1 fun Iq Ir Dx Is It=>Ajc AWb (Am.o2 p1) B1 Dx rfl rfl (Am.o p0) (Am.dj p0 p1 AGj) fun Iu Dy Dz D0=>AGq (AS3 (AGi (AGi ?_)));have Au:=Am.m2 p0 p1 AGj Dz Dy (fun z hz=> .inl (D0 z hz));obtain ⟨Iv,B3,D1⟩:=AGm Dw;refine AUg AUo AWb (Au.o2 p1) B3 fun _ Iw D2=>AGi ?_;obtain ⟨D3,D4⟩:=ifN D1;refine A3n (m:=Dg) AVl trivial rfl rfl (Au.o2 p1) D2 B3 (Dp.ext Au.x) D3 fun Ix D5 D6=>⟨trivial,?_⟩;refine ATf (q_b (q_t (AS3 (ATj rfl rfl (AGi (AGq ?_))))));exact ⟨(_,_,_,_,_),(AGk D4).symm,(Au.uO2 p1 D6 D5).sel [1,2] AGj,rfl,trivial⟩
 ·refine AS9 (ATa (ATa (AT9 (q_t (AGl (ATx ?_))))));obtain ⟨D7,D8,D9⟩:=AGm (Dk _ (AGk (AT1 A8 A9)).symm);refine Agc A7 (Arn D8) fun Ea Iy Iz Eb=>AVt Eb [.bool false,.slice none 0 0] AW9 fun Ec Ed I0 B4=>AYa B4 p0 (AS6 Ed) (B4.z p1) fun I1 B5=>AGq (AGn (AGl (AGi (AGi (AGq (AGo (AX3 22300745198530623141535718272647261994385024 (fun x:(Bool) × (Int) × (LiI) × LnA × LnN × LvA × (Int) × LvA=>(x.1,x.2.1,x.2.2.1,x.2.2.2.2.2.2.1)) ((false,0,u32,Dh,Di,Dj,D7,Ea):(Bool) × (Int) × (LiI) × LnA × LnN × LvA × (Int) × LvA) D9 (fun x=>[(7,(.bool x.1)),(40,(.int .i64 x.2.1))]) (fun x=>((B5.L.set 2 (aO2 cZ 131 93 x.2.2.2.1 x.2.2.2.2.1 x.2.2.2.2.2.1 Ak x.2.2.1)).set 1 (aZ x.2.2.2.2.2.2.2 x.2.2.2.2.2.2.1)).set 0 (aB 93 Ec x.2.2.2.2.2.2.2)) B5 ⟨rfl,rfl,trivial⟩ ?_)))))));rintro ⟨B6,Ao,B7,Ee,Ef,Eg,I2,I3⟩ I5 I6 I7 Ab Ba B8;unfold Acu at Ba;refine AGl (ATm rfl rfl (AGq (AGn (⟨_,rfl,fun Bb=>?_,fun Bb=>?_⟩))))
  ·refine AGx (q_t (AGn (AGo (AGl (AGi (ATx (AGi (AGw ?_))))))));obtain ⟨Eh,Ei,B9⟩:=AGm (AT0 Ba Bb);refine Aey 1152903912420803584 (fun x:(Int)=>[(10,(.int .i64 x))]) (fun x h'=>( x)=Eh/\Kst h h' (Ab.L)) ?_ ?_
   ·refine AGo (AY2 1152903912420803584 Ei (fun x=>[(10,(.int .i64 x))]) (fun x=>Ab.L) Ab ⟨rfl,trivial⟩ ?_);rintro Av I9 Ja Jc Ah Ca Cb;unfold Acq at Ca;obtain ⟨Ej,Cd,Bc⟩:=AGm Ca;refine Aey 288212783965667328 (fun x:Unit=>[]) (fun x h'=>(Sum.inl <| ())=Ej/\Kst h h' (Ah.L)) ?_ ?_
    ·refine AGl (AGi (AGi (ATm rfl rfl (AGi ?_))));by_cases Aw:Av < (a3.length:Int)
     ·rw [decide_eq_true Aw];refine ATo 47 true (AGi (ATo 47 true (AGi (ATo 47 true ?_))));obtain ⟨Je,Be,Ek⟩:=AGm (ifT Cd Aw);refine AVd AUo rfl (Ah.o2 p2) rfl Be fun Jf Jg Jh El Em=>ATo 47 true (ATz AWb rfl Em (ATo 47 true (AGi (ATo 47 true ?_))));obtain ⟨Ji,Ce,En⟩:=AGm Ek;refine AWc (m:=Av) AVl rfl (Ah.o2 p2) El Be rfl Ce fun Jj Eo=>ATo 47 true ?_;obtain ⟨Jk,Ep,Er⟩:=(Ah.o2 p2).cells Eo Be Ce;have Bf:=Ah.az Ep;refine Afm (c:=cZ) AT6 rfl (Bf.z p0) (fun j u hu=>(Er j u hu)) (ATo 47 true ?_);obtain ⟨Jl,Es,Cf⟩:=AGm En;refine AXx Bf (Aqe (Bf.z p0).2 Es) fun Jm Jn Cg=>ATo 47 true (AV2 rfl rfl (ATh rfl (AGq (⟨_,rfl,fun Bg=>?_,fun Bg=>?_⟩))))
      ·refine AGx (q_t ?_);exact ⟨(():Unit),⟨AGk (AT0 Cf Bg),Cg.sel [1,2,3,4] AGj⟩,trivial⟩
      ·obtain rfl:=AGk (AT1 Cf Bg);refine AS9 (ATa (ATa (AT9 (q_t ?_))));exact ⟨(Av:(Int)),⟨AGk (Cb _ (AGk Bc).symm),Cg.sel [1,2,3,4] AGj⟩,rfl,trivial⟩
     ·rw [decide_eq_false Aw];refine Acd 47 false (Afz 47 false (ATq rfl (AGq (ATp rfl ?_))));obtain rfl:=AGk (ifF Cd Aw);refine AS9 (ATa (ATa (AT9 (q_t ?_))));exact ⟨(Av:(Int)),⟨AGk (Cb _ (AGk Bc).symm),Ah⟩,rfl,trivial⟩
    rintro ⟨⟩ Jo Jp ⟨Et,Eu⟩;subst Et;refine AGo (AS3 (AGi (ATj rfl rfl (ATi (ATf (q_b (q_t ?_)))))));exact ⟨_,(AGk Bc).symm,Eu,rfl,trivial⟩
   rintro Ev Jq Ch ⟨Ew,Ae⟩;subst Ew;refine AGn (AGl (AGi (AGi (AV2 rfl rfl (AGq (⟨_,rfl,fun Bh=>?_,fun Bh=>?_⟩))))))
   ·refine AGl (AWe (Af9 ) (AYa Ae p3 (AS6 Ch) (AS6 Ch) fun Ci Cj=>AGq (AGy (ATb (AUf (ATb (ATb (AUf (ATb ?_)))))))));obtain rfl:=AGk (B8 _ (AGk (AT0 B9 Bh)).symm);exact ⟨_,AU6 AT6 (cZ.klen (AS6 Ci)) rfl (Cj.b p3),Cj.x,_,rfl,(AS6 Ci).2⟩
   ·refine AGx (q_t ?_);obtain ⟨Ey,Ck,Ez⟩:=AGm (AT1 B9 Bh);refine Aey 9671388110172959688097920 (fun x:(Bool) × (LiI) × LnA × LnN × LvA=>[(7,(.bool x.1))]) (fun x h'=>( (x.1,x.2.1))=Ey/\Kst h h' (Ae.L.set 2 (aO2 cZ 131 93 x.2.2.1 x.2.2.2.1 x.2.2.2.2 Ak x.2.1))) ?_ ?_
    ·refine AGl (AGi (AGi (AXa rfl rfl (AGq (⟨_,rfl,fun Bi=>?_,fun Bi=>?_⟩)))))
     ·refine AGn (AXm (AGi (AGi (AGi (AGi (AGi (AGi ?_)))))));obtain ⟨Fa,Cm,Fb⟩:=AGm (AT0 Ck Bi);refine AUg AUo AWb (Ae.o2 p2) Cm fun _ Jr Fc=>AGi (AGi ?_);obtain ⟨Fd,Cn,Fe⟩:=AGm Fb;refine AUg AUo AWb (Ae.o2 p2) Cn fun _ Js Ff=>Aff AUo AWb (Ae.o2 p2) Ff Fc Cn Cm rfl rfl (fun _=>rfl) (fun _=>rfl) (fun _=>rfl) (fun _ _=>rfl) fun Jt Ju Fg Fh Fi Jv Fj Fk Fl=>AGq (AS3 (AGi (AWp rfl (AGw ?_))));exact ⟨(((!B6),(sI (sI B7 Ao Fa) Ev Fd),Fg,Fh,Fi):(Bool) × (LiI) × LnA × LnN × LvA),⟨AGk Fe,(Ae.uo2 p2 Fk Fj Fl)⟩,rfl,trivial⟩
     ·refine AGx (q_t ?_);exact ⟨((B6,B7,Ee,Ef,Eg):(Bool) × (LiI) × LnA × LnN × LvA),⟨AGk (AT1 Ck Bi),Ae⟩,rfl,trivial⟩
    rintro ⟨Jw,Fm,Fo,Fp,Fq⟩ Jx Jy ⟨Fr,Ax⟩;subst Fr;refine AGl (AGi (AGi ?_));obtain ⟨Jz,Bj,Ft⟩:=AGm Ez;refine AUg AUo AWb (Ax.o2 p2) Bj fun _ J0 Fu=>AGi ?_;obtain ⟨J1,Co,Fv⟩:=AGm Ft;refine AWc (m:=Ao) AVl rfl (Ax.o2 p2) Fu Bj rfl Co fun J2 Fw=>?_;obtain ⟨J3,Fx,Fy⟩:=(Ax.o2 p2).cells Fw Bj Co;have Cp:=Ax.az Fx;refine Afm (c:=cZ) AT6 rfl (Cp.z p0) (fun j u hu=>(Fy j u hu)) (AVt Cp [.bool false,.slice none 0 0] AW9 fun J4 Fz J5 Cq=>AYa Cq p0 (AS6 Fz) (Cq.z p1) fun J6 Cr=>AGq (AGn (AGl (AGi (ATj rfl rfl (AGw (AGo (AX3 5575186299632650833623772426640990780026880 (fun x:(Int) × (LiI) × LnA × LnN × LvA=>(x.1,x.2.1)) (((w64 (Ao + 1)),Fm,Fo,Fp,Fq):(Int) × (LiI) × LnA × LnN × LvA) Fv (fun x=>[(12,(.int .i64 x.1))]) (fun x=>Cr.L.set 4 (aO2 cZ 131 93 x.2.2.1 x.2.2.2.1 x.2.2.2.2 Ak x.2.1)) Cr ⟨rfl,trivial⟩ ?_))))))));rintro ⟨Ay,F4,F5,F6,F7⟩ J7 J8 J9 Af Bl F8;unfold Acs at Bl;refine AGn (AGl (AGi (AGi (ATm rfl rfl (AGq (⟨_,rfl,fun Bm=>?_,fun Bm=>?_⟩))))))
    ·refine AGx (q_t (AGn (AGo (AGl (AGi (ATj rfl rfl (AGw (AGo (AX3 5575186299632021960083815453461342024916992 (fun x:(Int) × (LiI) × LnA × LnN × LvA=>(x.1,x.2.1)) (((w64 (Ao + 1)),F4,F5,F6,F7):(Int) × (LiI) × LnA × LnN × LvA) (AT0 Bl Bm) (fun x=>[(13,(.int .i64 x.1))]) (fun x=>Af.L.set 4 (aO2 cZ 131 93 x.2.2.1 x.2.2.2.1 x.2.2.2.2 Ak x.2.1)) Af ⟨rfl,trivial⟩ ?_)))))))));rintro ⟨Ka,Kb,Kc,Kd,Ke⟩ Kf Bn Kg Aa Bo F9;unfold Acr at Bo;refine AGn (AGl (AGi (AGi (ATm rfl rfl (AGq (⟨_,rfl,fun Bp=>?_,fun Bp=>?_⟩))))))
     ·refine AGx (q_t (AGn (AGo (AGn ?_))));have Ai:UpT [] Bn Bn:=UpT.start all_nil;refine Ams (B:=fun h'=>UpT [] Bn h') 25 [⟨14,93,[.bool false,.slice none 0 0]⟩] (fun _ _ U E=>U.thenE E) AGv Ai (Axy rfl AW9 rfl (fun _ _ U E=>U.thenE E)) (h_l rfl (Agd (Aa.z p1) Ai (Aa.b p0) (ATf (h_l rfl (AGi (ATf (h_l rfl (AGi (ATf (h_l rfl ?_))))))))));obtain ⟨Kh,Ac,Ga⟩:=AGm (AT0 Bo Bp);refine AVd AUo rfl (Aa.o2 p4) rfl Ac fun Ki Kj Kk Gb Gc=>ATf (h_l rfl (AUy AWb rfl Ai (fun h' hb=>ATl Gc hb.ext) (ATf (h_l rfl (AGi (ATf (h_l rfl ?_)))))));obtain ⟨Kl,Az,Gd⟩:=AGm Ga;refine AWc (m:=Ay) AVl rfl (Aa.o2 p4) Gb Ac rfl Az fun Km Ge=>ATf (h_l rfl ?_);obtain ⟨Kn,Ct,Gf⟩:=(Aa.o2 p4).cells Ge Ac Az;refine Ajr (c:=cZ) AT6 rfl Ct Ai (fun h' hb j u hu=>ATl (Gf j u hu) hb.ext) (ATf (h_e rfl fun Ko Cu=>?_));have Bq:=(Aa.az (cZ.upT Ct Ai)).e Cu;obtain ⟨Kp,Gg,Gh⟩:=AGm Gd;refine AXy Bq (Ai.thenE Cu) (Ayb (Bq.z p2).2 (Bq.z p0).2 Gg) fun Kr Kt Gi Gj Ag=>ATf ⟨Gi,?_⟩;refine h_l rfl (AGi (ATf (h_l rfl (AGi (ATf (h_l rfl (AVd AUo rfl (Aa.o2 p4) rfl Ac fun Ku Kv Kw Gk Gl=>ATf (h_l rfl (AUy AWb rfl Ag (fun h' hb=>ATl Gl hb.ext) (ATf (h_l rfl (AGi (ATf (h_l rfl ?_))))))))))))));obtain ⟨Kx,Cv,Gm⟩:=AGm Gh;refine AWc (m:=Ay) AVl rfl (Aa.o2 p4) Gk Ac rfl Cv fun Ky Gn=>ATf (h_l rfl ?_);obtain ⟨Kz,Cw,Gp⟩:=(Aa.o2 p4).cells Gn Ac Cv;refine Ajr (c:=cZ) AT6 rfl Cw Ag (fun h' hb j u hu=>ATl (Gp j u hu) hb.ext) (ATf (h_l rfl (AGi (ATf (h_l rfl (AGi (ATf (h_l rfl ?_))))))));obtain ⟨K9,Br,Gq⟩:=AGm Gm;refine AVd AUo rfl (Aa.o2 p4) rfl Br fun La Lb Lc Gr Gt=>ATf (h_l rfl (AUy AWb rfl Ag (fun h' hb=>ATl Gt hb.ext) (ATf (h_l rfl (AGi (ATf (h_l rfl ?_)))))));obtain ⟨Ld,Cx,Gu⟩:=AGm Gq;refine AWc (m:=Ao) AVl rfl (Aa.o2 p4) Gr Br rfl Cx fun Le Gv=>ATf (h_l rfl ?_);obtain ⟨Lf,Cy,Gw⟩:=(Aa.o2 p4).cells Gv Br Cx;refine Ajr (c:=cZ) AT6 rfl Cy Ag (fun h' hb j u hu=>ATl (Gw j u hu) hb.ext) (ATf (h_e rfl fun Lg Cz=>?_));have Bt:=((Gj.az (cZ.upT Cw Ag)).az (cZ.upT Cy Ag)).e Cz;obtain ⟨Lh,Gx,Gy⟩:=AGm Gu;refine AXy Bt (Ag.thenE Cz) (Ayb (Bt.z p1).2 (Bt.z p0).2 Gx) fun Li Lj Gz G3 G4=>ATf ⟨Gz,?_⟩;refine h_e rfl fun Lk C0=>?_;have Bu:=G3.e C0;obtain ⟨Ll,G5,G6⟩:=AGm Gy;refine AXy Bu (G4.thenE C0) (A90 (Bu.z p3).2 (Bu.z p0).2 G5) fun G7 Lm G8 G9 Hb=>ATf ⟨G8,?_⟩;refine Asx fun Hc C1=>A9m fun Lo C2 Hd Lq=>?_;have Aj:=G9.e C1;have A3:=((((((Aa.nb (Hb.thenE C1).ext (AXv Hd C2.lt) C2).az (Aj.z p5)).az (Aj.z p4)).az (Aj.z p3)).az (Aj.z p2)).az (Aj.z p1)).az (Aj.z p0);refine AUz G7 AT6 (cZ.klen (A3.z p0)) (cZ.klen (AS6 Hc)) rfl rfl (cZ.one (A3.z p0)) (A3.b p6) fun Bv He Hf=>AGq (AU8 (fun h'=>UpT [] Bv h') AGv ?_);have Ad:=A3.sb p6 Hf He rfl;have Ap:UpT [] Bv Bv:=UpT.start all_nil;refine AGi (AGi (AVd AUo rfl (Ad.o2 p11) rfl Ac fun Lr Lv Lw Hg Hh=>AUy AWb rfl Ap (fun h' hb=>ATl Hh hb.ext) (AGi (Agd (Ad.z p0) Ap (Ad.b p6) (Agd (Ad.z p10) Ap (Ad.b p9) ?_)))));obtain ⟨⟨Lx,Ly,Lz⟩,Hj,C3⟩:=AGm G6;dsimp only at C3;refine AXd Ap (fun _ E=>Ap.thenE E) rfl (Apd (Ad.z p0).2 (Ad.z p10).2 Hj) fun L9 Ma Hk Hl=>?_;obtain ⟨Mb,Mc,rfl,Hm,Hn⟩:=Hl;obtain ⟨Md,rfl,Ho⟩:=Hm.cs;obtain ⟨Me,rfl,Hq⟩:=Hn.cs;refine AGi (AUe rfl rfl (AUe rfl rfl (AUe rfl rfl (AWc (m:=Ay) AVl rfl (Ad.o2 p11) Hg Ac rfl Az fun Mf Hr=>?_))));have Aq:=((Ad.e Hk).az Ho).az Hq;refine Ac8 (m:=Ay) (Ajb AT6 (cZ.klen (Aq.z p1)) rfl rfl (cZ.one (Aq.z p1))) (Aq.o2 p13) Hr Ac Az (Aq.z p1) fun Mg Hs Ht=>ATf (q_b (q_t (AS3 (AGi (ATj rfl rfl (AGw ?_))))));exact ⟨(_,_,_,_,_),(AGk C3).symm,(Aq.uO2 p13 Ht Hs).sel [9,10,11,12,13,14] AGj,rfl,trivial⟩
     ·refine AS9 (ATa (ATa (AT9 (q_b (q_t (AS3 (AGi (ATj rfl rfl (AGw ?_)))))))));exact ⟨(_,_,_,_,_),(AGk (F9 _ (AGk (AT1 Bo Bp)).symm)).symm,Aa,rfl,trivial⟩
    ·refine AS9 (ATa (ATa (AT9 (q_t (AS3 (Ach (Af.z p1) (Af.b p0) (AYa Af p2 (Af.z p3) (Af.z p1) fun Mh Hu=>ATf (q_b (q_t (AS3 (ATj rfl rfl (AGi (AGq ?_)))))))))))));exact ⟨(_,_,_,_,_,_,_,_),(AGk (F8 _ (AGk (AT1 Bl Bm)).symm)).symm,Hu.sel [2,1,4,5] AGj,rfl,rfl,trivial⟩
  ·refine AS9 (ATa (ATa (AT9 (q_t (AGn (AGl (AGi (AGq ?_))))))));have C4:=B8 _ (AGk (AT1 Ba Bb)).symm;refine ⟨_,rfl,fun Bw=>?_,fun Bw=>?_⟩
   ·refine AGl (Ach (Ab.z p1) (Ab.b p0) ?_);obtain ⟨Mi,Hv,Hw⟩:=AGm (ifT C4 Bw);refine Agc Ab (A91 (Ab.z p1).2 Hv) fun Mj Hx Mk C5=>AYa C5 p4 (AS6 Hx) (C5.z p0) fun Ml A4=>AGq (AGy (ATb ?_));obtain rfl:=AGk Hw;exact ⟨_,AU6 AT6 (cZ.klen (A4.z p0)) rfl (A4.b p4),A4.x,_,rfl,(A4.z p0).2⟩
   ·refine AGx (q_t (AGl (Ach (Ab.z p1) (Ab.b p0) ?_)));obtain ⟨Mm,Hy,Hz⟩:=AGm (Aav C4 Bw);refine Agc Ab (Aof (Ab.z p1).2 Hy) fun Mo Ia Mq C6=>AYa C6 p4 (AS6 Ia) (C6.z p0) fun Mr A5=>AGq (AGy ?_);obtain rfl:=AGk Hz;exact ⟨_,AU6 AT6 (cZ.klen (A5.z p0)) rfl (A5.b p4),A5.x,_,rfl,(A5.z p0).2⟩
def Ah5 (fuel:Nat) (a3:LiI):Option (Int × Bool):=
  ((AYe fuel a3).bind fun (Ab,Ac,Ad)=>(if (!Ad)=true then (some (0,false)) else (if ¬ Ab=Ac then (some (0,false)) else ((AZb fuel a3).bind fun Ae=>(some (Ae,true))))))
theorem Ap1 {fuel:Nat} {h:AGs} {Af:Value} {a3:LiI} {r:(Int × Bool)} (H2:AXq cZ h Af a3) (hp:Ah5 fuel a3=some r):ATt Tryz.prog 116 #[Af] h (fun x h'=>Ext h h'/\ ∃ (x0:Value),x= .tuple #[x0,.bool r.2]/\ZZ h' x0 r.1):=by
 unfold Ah5 at hp;refine cwf (l:=[_]) Tryz.func116 rfl rfl (AGl (AVt (Kst.k0 h) [.bool false,.slice none 0 0] AW9 fun b5 h6 E8 Aj=>ATx (AGi ?_)));obtain ⟨⟨A6,A7,Av⟩,Aw,Ad⟩:=AGm hp;dsimp only at Ad;refine AXx Aj (Ai4 (H2.ext Aj.x) Aw) fun Aa A8 Ab=>AGi (AUe rfl rfl (AUe rfl rfl (AUe rfl rfl (ATi (ATi (AGw (AGn (AGl (AGi (AWp rfl (AGi ?_)))))))))));cases Ak:(!Av)
 ·refine ATo 15 false (AGi (ATo 15 false (AGi (ATo 15 false (AXa rfl rfl (ATq rfl (AGq ?_)))))));have Am:=Aav Ad Ak;refine ⟨_,rfl,fun Ae=>?_,fun Ae=>?_⟩
  ·refine AGl (AWe (Af9 ) (AYa Ab p0 (AS6 Aa) (AS6 Aa) fun Ao Ap=>AGw (AGy (ATb ?_))));obtain rfl:=AGk (AT0 Am Ae);exact ⟨_,Aks AT6 (cZ.klen (AS6 Ao)) rfl (Ap.b p0),Ap.x,_,rfl,(AS6 Ao).2⟩
  ·refine AGx (q_t (AGl (AGi ?_)));obtain ⟨A9,Ax,Ay⟩:=AGm (AT1 Am Ae);refine Agc Ab (Aj9 (H2.ext Ab.x) Ax) fun Ba Az Bb Aq=>AYa Aq p1 (AS6 Az) (Aq.z p0) fun Bc Ac=>AGw (AGy ?_);obtain rfl:=AGk Ay;exact ⟨_,Aks AT6 (cZ.klen (Ac.z p0)) rfl (Ac.b p1),Ac.x,_,rfl,(Ac.z p0).2⟩
 ·refine Abq 15 true (ATh rfl (AGq (ATn rfl (AGl (AWe (Af9 ) (AYa Ab p0 (AS6 Aa) (AS6 Aa) fun Ar Au=>AGw (AGy (ATb ?_))))))));obtain rfl:=AGk (ifT Ad Ak);exact ⟨_,Aks AT6 (cZ.klen (AS6 Ar)) rfl (Au.b p0),Au.x,_,rfl,(AS6 Ar).2⟩
end Go.Proofs.YthbndcbclhkepaaGreatDoor
namespace Go.QF
open Go
theorem A1k {h:AGs} {v:Value} {l:List Value} (H:Sl h v l):SlK h 1 v (l.map fun x=>[x]):=by
 obtain ⟨a,cap,hv,hc⟩:=H;refine ⟨a,cap,by rw [List.length_map];exact hv,fun i row hr=>?_⟩;rw [List.getElem?_map] at hr;obtain ⟨x,hx,rfl⟩:=Option.map_eq_some_iff.1 hr;obtain ⟨b,o,ha,hb⟩:=hc i x hx;refine ⟨b,o,ha,fun j y hy=>?_⟩
 cases j with
 | zero=>injection hy with hy;subst hy;rw [Nat.mul_one,Nat.add_zero];exact hb
 | succ j=>simp at hy
theorem As8 {h:AGs} {v:Value} {l:List Value} (H:SlK h 1 v (l.map fun x=>[x])):Sl h v l:=by
 obtain ⟨a,cap,hv,hc⟩:=H;refine ⟨a,cap,by rw [List.length_map] at hv;exact hv,fun i x hx=>?_⟩;obtain ⟨b,o,ha,hb⟩:=hc i [x] (by simp [hx]);refine ⟨b,o,ha,?_⟩;have:=hb 0 x rfl;rwa [Nat.mul_one,Nat.add_zero] at this
theorem A4l {κ:IntKind} {h:AGs} {v:Value} {L:List Int} (H:Sl h v (L.map (.int κ))):SlC (cI κ) h v L:=by
 refine ⟨L.map fun a=>[.int κ a],?_,ATw,fun i cs a h1 h2=>?_⟩
 ·have:=A1k H;rwa [List.map_map] at this
 ·rw [List.getElem?_map,h2] at h1;injection h1 with h1;exact h1.symm
theorem BBt {κ:IntKind} {h:AGs} {v:Value} {L:List Int} (H:SlC (cI κ) h v L):Sl h v (L.map (.int κ)):=by
 obtain ⟨Ls,h1,h2,h3⟩:=H
 have:Ls=(L.map (Value.int κ)).map fun x=>[x]:=by
   apply List.ext_getElem?
   intro i
   by_cases hi:i < L.length
   · obtain ⟨a,ha⟩:∃ a,L[i]? =some a:=⟨L[i],List.getElem?_eq_getElem hi⟩
     obtain ⟨cs,hcs⟩:∃ cs,Ls[i]? =some cs:=⟨Ls[i]'AGh,List.getElem?_eq_getElem _⟩
     have:=h3 i cs a hcs ha
     rw [hcs,List.map_map,List.getElem?_map,ha]
     exact congrArg some this
   · rw [List.getElem?_eq_none AGh,List.getElem?_eq_none (by simp;omega)]
 subst this;exact As8 h1
theorem A92 {h:AGs} {v:Value} {M:List (List Int)} (H:AXq (cI .i64) h v M):Mat h v M:=by
 obtain ⟨_,rs,h1,h2,h3⟩:=H;exact ⟨rs,As8 h1,h2,fun i r z hr hz=>BBt (h3 i r z hr hz)⟩
end Go.QF
namespace Go.QF
def Abs (x b:Int):Prop:= -b<=x/\x<=b
theorem Am0 {x y a b:Int} (hx:Abs x a) (hy:Abs y b):Abs (x * y) (a * b):=by
 unfold Abs at *;have ha:0<=a:=by omega
 have hb:0<=b:=by omega
 have h1:0<=(a - x) * (b - y):=Int.mul_nonneg AGh AGh;have h2:0<=(a - x) * (b + y):=Int.mul_nonneg AGh AGh;have h3:0<=(a + x) * (b - y):=Int.mul_nonneg AGh AGh;have h4:0<=(a + x) * (b + y):=Int.mul_nonneg AGh AGh;constructor <;> grind
theorem A4m {x b y:Int} (hb:0 < b) (hx:Abs x (b * y)):Abs (x.tdiv b) y:=by
 unfold Abs at *;rcases Alf x 0 with h | h
 ·have h1:x.tdiv b= -((-x).tdiv b):=by rw [Int.neg_tdiv,Int.neg_neg]
  have h2:(-x).tdiv b=(-x) / b:=Int.tdiv_eq_ediv_of_nonneg AGh
  have h3:(-x) / b<=y:=by
    have:(-x) / b<=(b * y) / b:=Int.ediv_le_ediv hb AGh
    rwa [Int.mul_ediv_cancel_left _ AGh] at this
  have h4:0<=(-x) / b:=Int.ediv_nonneg AGh AGh;omega
 ·have h2:x.tdiv b=x / b:=Int.tdiv_eq_ediv_of_nonneg h
  have h3:x / b<=y:=by
    have:x / b<=(b * y) / b:=Int.ediv_le_ediv hb AGh
    rwa [Int.mul_ediv_cancel_left _ AGh] at this
  have h4:0<=x / b:=Int.ediv_nonneg h AGh;omega
def Aro (M:List (List Int)):Prop:=(1<=M.length/\M.length<=8)/\(∀ z∈M,z.length=M.length)/\ ∀ i j,i < M.length->j < M.length->ent M i j=ent M j i/\ -262144 < ent M i j/\ent M i j < 262144
open Classical in
noncomputable def Adf (M:List (List Int)):Bool:=decide (Aro M)
theorem AY0 {M:List (List Int)} (h:Aro M):true=Adf M:=by simp [Adf,h]
theorem AWa {M:List (List Int)} (h: ¬ Aro M):false=Adf M:=by simp [Adf,h]
theorem Arp {M:List (List Int)} (h:Adf M=true):Aro M:=by simpa [Adf] using h
def Ahv (m:Nat) (F:AS4):Prop:=(0 < F 0 0/\F 0 0 < 65536)/\ ∀ i,1<=i->i < m->2 * F i 0<=F 0 0/\ -2 * F i 0<=F 0 0
instance (m:Nat) (F:AS4):Decidable (Ahv m F):=by
  unfold Ahv
  have:Decidable (∀ i,1<=i->i < m->2 * F i 0<=F 0 0/\ -2 * F i 0<=F 0 0):=
    decidable_of_iff (∀ i,i < m->1<=i->2 * F i 0<=F 0 0/\ -2 * F i 0<=F 0 0) ⟨fun h i a b=>h i b a,fun h i a b=>h i b a⟩
  infer_instance
def Ai5 (F:AS4) (last:Int):AS4:=fun i j=>(F 0 0 * F (i + 1) (j + 1) - F (i + 1) 0 * F 0 (j + 1)).tdiv last
def Am7 (F:AS4) (last:Int):Prop:=3 * F 0 0 * F 0 0<=4 * (last * Ai5 F last 0 0 + F 1 0 * F 1 0)
instance (F:AS4) (last:Int):Decidable (Am7 F last):=by unfold Am7;infer_instance
def Ahw:Nat->(AS4)->Int->Bool
  | 0,_,_=>false
  | 1,F,_=>decide (0 < F 0 0/\F 0 0<=10000)
  | m + 2,F,last=>decide (Ahv (m + 2) F) && (decide (Am7 F last) && Ahw (m + 1) (Ai5 F last) (F 0 0))
noncomputable def isRed (M:List (List Int)):Bool:=Adf M && Ahw M.length (ent M) 1
structure Stg (m:Nat) (F:AS4) (last:Int) (K:Int):Prop where
  sym:∀ i j,i < m->j < m->F i j=F j i
  bd:∀ i j,i < m->j < m->Abs (F i j) (last * K)
  l1:1<=last
  l2:last<=65535
theorem Awi {m:Nat} {F:AS4} {last K:Int} (H:Stg (m + 1) F last K) (hK:0<=K) (hs:Ahv (m + 1) F):Stg m (Ai5 F last) (F 0 0) (K + 16384):=by
 have hd:=hs.1
 have hcol:∀ i,i < m->Abs (2 * F (i + 1) 0) (F 0 0):=fun i hi=>by
   have:=hs.2 (i + 1) AGh AGh
   exact ⟨AGh,AGh⟩
 refine ⟨fun i j hi hj=>?_,fun i j hi hj=>?_,AGh,AGh⟩
 ·unfold Ai5;rw [H.sym (i + 1) (j + 1) AGh AGh,H.sym (i + 1) 0 AGh AGh,H.sym 0 (j + 1) AGh AGh,Int.mul_comm (F 0 (i + 1))]
 ·unfold Ai5;refine A4m (by have:=H.l1;omega) ?_;have h1:Abs (F 0 0 * F (i + 1) (j + 1)) (F 0 0 * (last * K)):=Am0 ⟨AGh,AGh⟩ (H.bd _ _ AGh AGh)
  have h2:Abs (2 * F (i + 1) 0 * (2 * F 0 (j + 1))) (F 0 0 * F 0 0):=by
    refine Am0 (hcol i hi) ?_
    rw [H.sym 0 (j + 1) AGh AGh];exact hcol j hj
  have h3:0<=F 0 0 * (65536 - F 0 0):=Int.mul_nonneg AGh AGh;have h4:0<=F 0 0 * (last - 1):=Int.mul_nonneg AGh (by have:=H.l1;omega);unfold Abs at *;have e1:2 * F (i + 1) 0 * (2 * F 0 (j + 1))=4 * (F (i + 1) 0 * F 0 (j + 1)):=by grind
  rw [e1] at h2;have e2:last * (F 0 0 * (K + 16384))=F 0 0 * (last * K) + 16384 * (F 0 0 * last):=by grind
  rw [e2];have e3:F 0 0 * (65536 - F 0 0)=65536 * F 0 0 - F 0 0 * F 0 0:=by grind
  have e4:F 0 0 * (last - 1)=F 0 0 * last - F 0 0:=by grind
  rw [e3] at h3;rw [e4] at h4;omega
theorem A1l {M:List (List Int)} (h:Aro M):Stg M.length (ent M) 1 262144:=by
 refine ⟨fun i j hi hj=>(h.2.2 i j hi hj).1,fun i j hi hj=>?_,AGh,AGh⟩;have:=h.2.2 i j hi hj;unfold Abs;omega
theorem Ag3 {m:Nat} {F:AS4} {last:Int} (h:2<=m) (hs: ¬ Ahv m F):Ahw m F last=false:=by
 obtain ⟨n,rfl⟩:∃ n,m=n + 2:=⟨m - 2,AGh⟩;unfold Ahw;rw [decide_eq_false hs];rfl
theorem Aka {m:Nat} {F:AS4} {last:Int} (h:2<=m) (hs: ¬ Am7 F last):Ahw m F last=false:=by
 obtain ⟨n,rfl⟩:∃ n,m=n + 2:=⟨m - 2,AGh⟩;unfold Ahw;rw [decide_eq_false hs,Bool.false_and,Bool.and_false]
theorem A1m {m:Nat} {F:AS4} {last:Int} (h:2<=m) (hs:Ahv m F) (hl:Am7 F last):Ahw m F last=Ahw (m - 1) (Ai5 F last) (F 0 0):=by
 obtain ⟨n,rfl⟩:∃ n,m=n + 2:=⟨m - 2,AGh⟩;rw [Ahw,decide_eq_true hs,decide_eq_true hl];rfl
theorem Aqf {m:Nat} {F:AS4} {last K:Int} (H:Stg m F last K) (hK0:0<=K) (hK:K<=393216) {i j:Nat} (hi:i < m) (hj:j < m):Abs (F i j) 34359738368:=by
  have h1:=H.bd i j hi hj;have h2:=(Aox (a:=last) (b:=K) (A:=65535) (B:=393216) (by have:=H.l1;omega) H.l2 hK0 hK).2;unfold Abs at *;omega
end Go.QF
namespace Go.Proofs.YthbndcbclhkepaaGreatDoor
open Go Go.QF
set_option maxRecDepth 100000
theorem Acw {α:Type} {c:Nat} {g:Nat->α} {q:Nat} (hq:q < c):((List.range c).map g)[q]? =some (g q):=by simp [hq]
section
variable {P:Program} {B:AGs->Prop} {st:Bool} {ops:Array Oper} {rest:List Oper} {e:Env} {h:AGs} {K:Env->AGs->Prop}
variable {d:Nat} {ty:TypeId} {pos:String} {af:Array Edge}
end
end Go.Proofs.YthbndcbclhkepaaGreatDoor
namespace Go.Proofs.YthbndcbclhkepaaGreatDoor
open Go Go.QF
set_option maxRecDepth 100000
theorem Ayc {h:AGs} {v:Value} {M:List (List Int)} (HM:Mat h v M):ATt Tryz.prog 67 #[v] h fun x h'=>h'=h/\x= .bool (Adf M):=by
 refine AT4 (l:=[_]) mx Tryz.func67 rfl rfl rfl rfl rfl AGv (AGl (ATx (AGi (Aow AS8 rfl HM (AGw (AGn (AGl (AGi (AW7 rfl rfl (fun Ab=>?_) (fun Ab=>?_))))))))))
 ·refine AGi (AUb 14 true AGv rfl rfl (AUb 14 true AGv rfl rfl (ATh rfl (AGq (ATn rfl (AGl (AGw (AGy (ATb (⟨_,AS1,?_⟩))))))))))
  first
    | exact ⟨rfl,congrArg Value.bool (AWa fun hh=>by have:=hh.1;omega)⟩
    | exact ⟨rfl,congrArg Value.bool (AWa fun hh=>by have:=hh.2.1 M[i] (List.getElem_mem _);omega)⟩
    | exact ⟨rfl,congrArg Value.bool (AWa fun hh=>by have:=hh.2.2 a b AGh AGh;omega)⟩
    | exact ⟨rfl,congrArg Value.bool (AY0 ⟨⟨AGh,AGh⟩,hrows,fun x y hx hy=>hall x y AGh hy⟩)⟩
 ·refine AGi (AUk 14 false AGv rfl rfl (AGi (AUk 14 false AGv rfl rfl (Ai6 rfl rfl (fun Ac=>?_) (fun Ac=>?_)))))
  ·refine ATq rfl (AGq (ATn rfl (AGl (AGw (AGy (ATb (⟨_,AS1,?_⟩)))))))
   first
     | exact ⟨rfl,congrArg Value.bool (AWa fun hh=>by have:=hh.1;omega)⟩
     | exact ⟨rfl,congrArg Value.bool (AWa fun hh=>by have:=hh.2.1 M[i] (List.getElem_mem _);omega)⟩
     | exact ⟨rfl,congrArg Value.bool (AWa fun hh=>by have:=hh.2.2 a b AGh AGh;omega)⟩
     | exact ⟨rfl,congrArg Value.bool (AY0 ⟨⟨AGh,AGh⟩,hrows,fun x y hx hy=>hall x y AGh hy⟩)⟩
  ·refine ATq rfl (AGq (ATp rfl (AGx (q_t (AGn (AGl (AGi (Aow AS8 rfl HM (AGi (AGq (AGo (AXt 535822372 (fun i:Nat=>[(20,.int .i64 (i:Int))]) (fun k i h'=>h'=h/\k=M.length - i/\i<=M.length/\ ∀ j (hj:j < M.length),j < i->M[j].length=M.length) AGv M.length 0 ?_ ⟨rfl,trivial⟩ ?_))))))))))))
   ·exact ⟨rfl,rfl,Nat.zero_le _,fun j _ hj=>by omega⟩
   rintro k i s1 h ⟨rfl,rfl,hi,hrow⟩;refine AGl (AW7 rfl rfl (fun Ad=>?_) (fun Ad=>?_))
   ·refine AGq (AGn (ATn rfl (AGx (q_t (AGn (AGo (AGl (Al2 AS8 rfl HM rfl (List.getElem?_eq_getElem AGh) fun aR rR haR hrR=>?_))))))));refine ATz ATk rfl haR (ATx (AGi (A2e AS7 rfl hrR (AGi (Avi rfl rfl (fun Ae=>?_) (fun Ae=>?_))))))
    ·refine AGq (ATn rfl (AGl (AGw (AGy (AUf (ATb (ATb (AUf (ATb (⟨_,AS1,?_⟩))))))))))
     first
       | exact ⟨rfl,congrArg Value.bool (AWa fun hh=>by have:=hh.1;omega)⟩
       | exact ⟨rfl,congrArg Value.bool (AWa fun hh=>by have:=hh.2.1 M[i] (List.getElem_mem _);omega)⟩
       | exact ⟨rfl,congrArg Value.bool (AWa fun hh=>by have:=hh.2.2 a b AGh AGh;omega)⟩
       | exact ⟨rfl,congrArg Value.bool (AY0 ⟨⟨AGh,AGh⟩,hrows,fun x y hx hy=>hall x y AGh hy⟩)⟩
    ·refine AGq (ATp rfl (AGx (q_b (q_t (AS3 (Abp rfl AGh (AGi (AGq ?_))))))));exact ⟨M.length - (i + 1),i + 1,AGh,⟨rfl,rfl,AGh,fun j hj Af=>by rcases Nat.lt_succ_iff_lt_or_eq.1 Af with q | rfl;exact hrow j hj q;omega⟩,rfl,trivial⟩
   ·refine AGq (AGn (ATp rfl (AS9 (ATa (ATa (AT9 (q_t (AGn (AGn ?_)))))))));have hrows:∀ z∈M,z.length=M.length:=fun z hz=>by obtain ⟨j,hj,rfl⟩:=List.getElem_of_mem hz;exact hrow j hj AGh
    have Aa:Mat h v (tab M.length M.length (ent M)):=(Axl hrows) ▸ HM;refine AS3 (AGi (Aow AS8 rfl Aa ?_));rw [AT5];refine AGi (AGq (AGo (AXt 4611686016279905220 (fun a:Nat=>[(31,.int .i64 (a:Int))]) (fun k a h'=>h'=h/\k=M.length - a/\a<=M.length/\ ∀ x y,x < a->y < M.length->ent M x y=ent M y x/\ -262144 < ent M x y/\ent M x y < 262144) AGv M.length 0 ?_ ⟨rfl,trivial⟩ ?_)))
    ·exact ⟨rfl,rfl,Nat.zero_le _,fun x y hx=>by omega⟩
    rintro k a s2 h ⟨rfl,rfl,ha,hall⟩;refine AGl (AW7 rfl rfl (fun Ag=>?_) (fun Ag=>?_))
    ·refine AGq (AGn (ATn rfl (AGx (q_t (AGn (AGo (AGl (AGi (Al2 AS8 rfl Aa rfl (Aa3 AGh) fun aS rS haS hrS=>ATz ATk rfl haS (ATi (ATx (AGi (A2e AS7 rfl hrS ?_)))))))))))));rw [List.length_map,List.length_range];refine AGi (AGq (AGo (AXt 2305842734335787780 (fun b:Nat=>[(38,.int .i64 (b:Int))]) (fun k b h'=>h'=h/\k=M.length - b/\b<=M.length/\ ∀ y,y < b->ent M a y=ent M y a/\ -262144 < ent M a y/\ent M a y < 262144) AGv M.length 0 ?_ ⟨rfl,trivial⟩ ?_)))
     ·exact ⟨rfl,rfl,Nat.zero_le _,fun y hy=>by omega⟩
     rintro k b s3 h ⟨rfl,rfl,hb,hrw⟩;refine AGl (AW7 rfl rfl (fun Ah=>?_) (fun Ah=>?_))
     ·refine AGq (AGn (ATn rfl (AGx (q_t (AGn (AGo (AGl (AGi (Aj2 AS7 rfl hrS rfl (Acw AGh) fun Aq Ai=>ATz ATd rfl Ai (ATi (ATx (AGi (AGi (AGi (Al2 AS8 rfl Aa rfl (Aa3 AGh) fun aT rT haT hrT=>?_)))))))))))))));refine ATz ATk rfl haT (AGi (Aj2 AS7 rfl hrT rfl (Acw AGh) fun Ar Aj=>ATz ATd rfl Aj (Avi rfl rfl (fun Ak=>?_) (fun Ak=>?_))))
      ·refine AGi (AUb 52 true AGv rfl rfl (AUb 52 true AGv rfl rfl (ATh rfl (AGi (AUb 56 true AGv rfl rfl (AUb 56 true AGv rfl rfl (ATh rfl (AGq (ATn rfl (AGl (AGw (AGy (AUf (ATb (ATb (AUf (AUf (ATb (ATb (AUf (ATb (⟨_,AS1,?_⟩))))))))))))))))))))))
       first
         | exact ⟨rfl,congrArg Value.bool (AWa fun hh=>by have:=hh.1;omega)⟩
         | exact ⟨rfl,congrArg Value.bool (AWa fun hh=>by have:=hh.2.1 M[i] (List.getElem_mem _);omega)⟩
         | exact ⟨rfl,congrArg Value.bool (AWa fun hh=>by have:=hh.2.2 a b AGh AGh;omega)⟩
         | exact ⟨rfl,congrArg Value.bool (AY0 ⟨⟨AGh,AGh⟩,hrows,fun x y hx hy=>hall x y AGh hy⟩)⟩
      ·refine AGi (AUk 52 false AGv rfl rfl (AGi (AUk 52 false AGv rfl rfl (Al0 rfl rfl (fun Am=>?_) (fun Am=>?_)))))
       ·refine ATq rfl (AGi (AUb 56 true AGv rfl rfl (AUb 56 true AGv rfl rfl (ATh rfl (AGq (ATn rfl (AGl (AGw (AGy (AUf (ATb (ATb (AUf (AUf (ATb (ATb (AUf (ATb (⟨_,AS1,?_⟩)))))))))))))))))))
        first
          | exact ⟨rfl,congrArg Value.bool (AWa fun hh=>by have:=hh.1;omega)⟩
          | exact ⟨rfl,congrArg Value.bool (AWa fun hh=>by have:=hh.2.1 M[i] (List.getElem_mem _);omega)⟩
          | exact ⟨rfl,congrArg Value.bool (AWa fun hh=>by have:=hh.2.2 a b AGh AGh;omega)⟩
          | exact ⟨rfl,congrArg Value.bool (AY0 ⟨⟨AGh,AGh⟩,hrows,fun x y hx hy=>hall x y AGh hy⟩)⟩
       ·refine ATq rfl (AGi (AUk 56 false AGv rfl rfl (AGi (AUk 56 false AGv rfl rfl (Al1 rfl rfl (fun Ao=>?_) (fun Ao=>?_))))))
        ·refine ATq rfl (AGq (ATn rfl (AGl (AGw (AGy (AUf (ATb (ATb (AUf (AUf (ATb (ATb (AUf (ATb (⟨_,AS1,?_⟩)))))))))))))))
         first
           | exact ⟨rfl,congrArg Value.bool (AWa fun hh=>by have:=hh.1;omega)⟩
           | exact ⟨rfl,congrArg Value.bool (AWa fun hh=>by have:=hh.2.1 M[i] (List.getElem_mem _);omega)⟩
           | exact ⟨rfl,congrArg Value.bool (AWa fun hh=>by have:=hh.2.2 a b AGh AGh;omega)⟩
           | exact ⟨rfl,congrArg Value.bool (AY0 ⟨⟨AGh,AGh⟩,hrows,fun x y hx hy=>hall x y AGh hy⟩)⟩
        ·refine ATq rfl (AGq (ATp rfl (AGx (q_b (q_t (AS3 (Abp rfl AGh (AGi (AGq ?_)))))))));exact ⟨M.length - (b + 1),b + 1,AGh,⟨rfl,rfl,AGh,fun y hy=>by rcases Nat.lt_succ_iff_lt_or_eq.1 hy with q | rfl;exact hrw y q;exact ⟨AGh,AGh,AGh⟩⟩,rfl,trivial⟩
     ·refine AGq (AGn (ATp rfl (AS9 (ATa (ATa (AT9 (q_b (q_t (AS3 (Abp rfl AGh (AGi (AGq ?_))))))))))));exact ⟨M.length - (a + 1),a + 1,AGh,⟨rfl,rfl,AGh,fun x y hx hy=>by rcases Nat.lt_succ_iff_lt_or_eq.1 hx with q | rfl;exact hall x y q hy;exact hrw y AGh⟩,rfl,trivial⟩
    ·refine AGq (AGn (ATp rfl (AS9 (ATa (ATa (AT9 (q_t (AGl (AGw (AGy (⟨_,AS1,?_⟩)))))))))))
     first
       | exact ⟨rfl,congrArg Value.bool (AWa fun hh=>by have:=hh.1;omega)⟩
       | exact ⟨rfl,congrArg Value.bool (AWa fun hh=>by have:=hh.2.1 M[i] (List.getElem_mem _);omega)⟩
       | exact ⟨rfl,congrArg Value.bool (AWa fun hh=>by have:=hh.2.2 a b AGh AGh;omega)⟩
       | exact ⟨rfl,congrArg Value.bool (AY0 ⟨⟨AGh,AGh⟩,hrows,fun x y hx hy=>hall x y AGh hy⟩)⟩
theorem A4n {m:Nat} {F:AS4}:(tab m m F).drop 1=tab (m - 1) m fun i j=>F (i + 1) j:=by
 refine List.ext_getElem (by simp [tab]) fun i h1 h2=>?_;simp [tab,Nat.add_comm]
theorem Arq {h:AGs} {v:Value} {m:Nat} {F:AS4} (HM:Mat h v (tab m m F)) (hcap:Afl v) (hm:1<=m) (Au:m<=8) (hfit:∀ i,i < m->Abs (F i 0) 34359738368):ATt Tryz.prog 68 #[v] h fun x h'=>h'=h/\x= .bool (decide (Ahv m F)):=by
 refine AT4 (l:=[_]) mx Tryz.func68 rfl rfl rfl rfl rfl AGv (AGl (ATx (AGi (Al2 (n:=0) AS8 rfl HM rfl (Aa3 AGh) fun Av Aw Ad Ae=>ATz ATk rfl Ad (Aj2 (n:=0) AS7 rfl Ae rfl (Acw AGh) fun Ax Af=>ATz ATd rfl Af (AGw (AGn (AGl (AGi (Al0 rfl rfl (fun Ag=>?_) (fun Ag=>?_)))))))))))
 ·refine AGi (AUb 13 true AGv rfl rfl (AUb 13 true AGv rfl rfl (ATh rfl (AGq (ATn rfl (AGl (AGw (AGy (ATb (⟨_,AS1,?_⟩))))))))))
  first
    | exact ⟨rfl,congrArg Value.bool (decide_eq_false (fun hh=>by have:=hh.1;omega)).symm⟩
    | exact ⟨rfl,congrArg Value.bool (decide_eq_false (fun hh=>by have:=hh.2 (i + 1) AGh AGh;omega)).symm⟩
    | exact ⟨rfl,congrArg Value.bool (decide_eq_true ⟨⟨AGh,AGh⟩,fun j h1 h2=>hall j h1 AGh⟩).symm⟩
 ·refine AGi (AUk 13 false AGv rfl rfl (AGi (AUk 13 false AGv rfl rfl (Al1 rfl rfl (fun Ah=>?_) (fun Ah=>?_)))))
  ·refine ATq rfl (AGq (ATn rfl (AGl (AGw (AGy (ATb (⟨_,AS1,?_⟩)))))))
   first
     | exact ⟨rfl,congrArg Value.bool (decide_eq_false (fun hh=>by have:=hh.1;omega)).symm⟩
     | exact ⟨rfl,congrArg Value.bool (decide_eq_false (fun hh=>by have:=hh.2 (i + 1) AGh AGh;omega)).symm⟩
     | exact ⟨rfl,congrArg Value.bool (decide_eq_true ⟨⟨AGh,AGh⟩,fun j h1 h2=>hall j h1 AGh⟩).symm⟩
  ·refine ATq rfl (AGq (ATp rfl (AGx (q_t (AGn (AGl (AGi (A0y (k:=1) AS8 rfl HM hcap rfl (by rw [AT5];omega) fun v1 Ai Ay=>?_))))))));have HD:Mat h v1 (tab (m - 1) m fun i j=>F (i + 1) j):=A4n (m:=m) ▸ Ai;refine Aow AS8 rfl HD ?_;rw [AT5];refine AGi (AGq (AGo (AXt 549754765348 (fun i:Nat=>[(20,.int .i64 (i:Int))]) (fun k i h'=>h'=h/\k=m - 1 - i/\i<=m - 1/\ ∀ j,1<=j->j < i + 1->2 * F j 0<=F 0 0/\ -2 * F j 0<=F 0 0) AGv (m - 1) 0 ?_ ⟨rfl,trivial⟩ ?_)))
   ·exact ⟨rfl,rfl,Nat.zero_le _,fun j h1 h2=>by omega⟩
   rintro k i s1 h ⟨rfl,rfl,hi,hall⟩;refine AGl (AW7 rfl rfl (fun Aj=>?_) (fun Aj=>?_))
   ·refine AGq (AGn (ATn rfl (AGx (q_t (AGn (AGo (AGl (Al2 AS8 rfl HD rfl (Aa3 AGh) fun Az A3 Ak Ac=>ATz ATk rfl Ak (AGw (AGn ?_))))))))));have Am:=hfit (i + 1) AGh;unfold Abs at Am;refine AS3 (AGi (Aj2 (n:=0) AS7 rfl Ac rfl (Acw AGh) fun A4 Ao=>ATz ATd rfl Ao (Afy rfl rfl AGh AGh (AGi (Ai6 rfl rfl (fun Ap=>?_) (fun Ap=>?_))))))
    ·refine AGi (AUb 30 true AGv rfl rfl (AUb 30 true AGv rfl rfl (AUb 30 true AGv rfl rfl (AUb 30 true AGv rfl rfl (AUb 30 true AGv rfl rfl (AUb 30 true AGv rfl rfl (ATh rfl (AGq (ATn rfl (AGl (AGw (AGy (AUf (ATb (ATb (AUf (ATb (⟨_,AS1,?_⟩))))))))))))))))))
     first
       | exact ⟨rfl,congrArg Value.bool (decide_eq_false (fun hh=>by have:=hh.1;omega)).symm⟩
       | exact ⟨rfl,congrArg Value.bool (decide_eq_false (fun hh=>by have:=hh.2 (i + 1) AGh AGh;omega)).symm⟩
       | exact ⟨rfl,congrArg Value.bool (decide_eq_true ⟨⟨AGh,AGh⟩,fun j h1 h2=>hall j h1 AGh⟩).symm⟩
    ·refine AGi (AUk 30 false AGv rfl rfl (AGi (AUk 30 false AGv rfl rfl (Aj2 (n:=0) AS7 rfl Ac rfl (Acw AGh) fun A5 Aq=>AUk 30 false AGv rfl rfl (ATz ATd rfl Aq (AUk 30 false AGv rfl rfl (Afy rfl rfl AGh AGh (AUk 30 false AGv rfl rfl (AGi (AUk 30 false AGv rfl rfl (Ai6 rfl rfl (fun Ar=>?_) (fun Ar=>?_))))))))))))
     ·refine ATq rfl (AGq (ATn rfl (AGl (AGw (AGy (AUf (ATb (ATb (AUf (ATb (⟨_,AS1,?_⟩)))))))))))
      first
        | exact ⟨rfl,congrArg Value.bool (decide_eq_false (fun hh=>by have:=hh.1;omega)).symm⟩
        | exact ⟨rfl,congrArg Value.bool (decide_eq_false (fun hh=>by have:=hh.2 (i + 1) AGh AGh;omega)).symm⟩
        | exact ⟨rfl,congrArg Value.bool (decide_eq_true ⟨⟨AGh,AGh⟩,fun j h1 h2=>hall j h1 AGh⟩).symm⟩
     ·refine ATq rfl (AGq (ATp rfl (AGx (q_b (q_t (AS3 (Abp rfl AGh (AGi (AGq ?_)))))))));exact ⟨m - 1 - (i + 1),i + 1,AGh,⟨rfl,rfl,AGh,fun j h1 h2=>by rcases Nat.lt_succ_iff_lt_or_eq.1 h2 with q | rfl;exact hall j h1 q;exact ⟨AGh,AGh⟩⟩,rfl,trivial⟩
   ·refine AGq (AGn (ATp rfl (AS9 (ATa (ATa (AT9 (q_t (AGl (AGw (AGy (⟨_,AS1,?_⟩)))))))))))
    first
      | exact ⟨rfl,congrArg Value.bool (decide_eq_false (fun hh=>by have:=hh.1;omega)).symm⟩
      | exact ⟨rfl,congrArg Value.bool (decide_eq_false (fun hh=>by have:=hh.2 (i + 1) AGh AGh;omega)).symm⟩
      | exact ⟨rfl,congrArg Value.bool (decide_eq_true ⟨⟨AGh,AGh⟩,fun j h1 h2=>hall j h1 AGh⟩).symm⟩
theorem Auj {h:AGs} {v:Value} {M:List (List Int)} (HM:Mat h v M) (hcap:Afl v):ATt Tryz.prog 34 #[v] h fun x h'=>Ext h h'/\x= .bool (isRed M):=by
 refine AT4 (l:=[_]) mx Tryz.func34 rfl rfl rfl rfl rfl AGv (AGl (AGw (AGn (AGl (AGi (ATc trivial rfl (Ayc HM) fun x1 h hk=>?_))))));obtain ⟨rfl,rfl⟩:=hk;refine ⟨trivial,?_⟩;cases Au:Adf M
 ·refine AWp rfl (AGq (ATn rfl (AGl (AGw (AGy (ATb (⟨_,AS1,?_⟩)))))))
  first
    | exact ⟨(Ext.refl _),congrArg Value.bool (show false=isRed M by unfold isRed;rw [show Adf M=false by assumption];rfl)⟩
    | exact ⟨(Ext.refl _),congrArg Value.bool (show false=isRed M by unfold isRed;rw [hred,Ag3 AGh (of_decide_eq_false (by assumption)),Bool.and_false])⟩
    | exact ⟨(Ext.refl _),congrArg Value.bool (show false=isRed M by unfold isRed;rw [hred,Aka AGh (by unfold Am7;omega),Bool.and_false])⟩
    | (obtain rfl:m=1:=by omega
       first
       | exact ⟨(Ext.refl _),congrArg Value.bool (show true=isRed M by unfold isRed;rw [hred,<- AY0 hsm,Ahw,decide_eq_true ⟨AGh,AGh⟩];rfl)⟩
       | exact ⟨(Ext.refl _),congrArg Value.bool (show false=isRed M by unfold isRed;rw [hred,Ahw,decide_eq_false AGh,Bool.and_false])⟩)
 ·refine AWp rfl (AGq (ATp rfl (AGx (q_t (AGl (AGi (ATx (AGw (AGn (AGo ?_))))))))));have hsm:=Arp Au;have Av:=A1l hsm;have Aw:Mat h v (tab M.length M.length (ent M)):=(Axl hsm.2.1) ▸ HM;refine AXt 20282409603651670423947251255292 (fun y:Nat × Value × Int × (AS4)=>[(3,y.2.1),(4,.int .i64 y.2.2.1)]) (fun k y h'=>y.1=k/\Ext h h'/\1<=y.1/\y.1<=M.length/\Mat h' y.2.1 (tab y.1 y.1 y.2.2.2)/\Afl y.2.1/\Stg y.1 y.2.2.2 y.2.2.1 (262144 + 16384 * (M.length - y.1))/\Ahw M.length (ent M) 1=Ahw y.1 y.2.2.2 y.2.2.1) AGv M.length (M.length,v,1,ent M) ?_ ⟨rfl,rfl,trivial⟩ ?_
  ·exact ⟨rfl,Ext.refl _,hsm.1.1,Nat.le_refl _,Aw,hcap,by have e0:(262144 + 16384 * ((M.length:Int) - (M.length:Int)))=262144:=AGh;rw [e0];exact Av,rfl⟩
  rintro k ⟨m,vs,last,F⟩ s1 hq ⟨rfl,XQ,Ay,hmn,HS,Aj,hstg,hred⟩;dsimp only at Ay hmn HS Aj hstg hred ⊢;have h8:=hsm.1.2;have B7:=hstg.l1;have B8:=hstg.l2;have szq:=XQ.1;refine AGn (AGl (AGi (Aow AS8 rfl HS ?_)));rw [AT5];refine Ai6 rfl rfl (fun Az=>?_) (fun Az=>?_)
  ·refine AGq (ATn rfl (AGx (q_t (AGo (AGl (AGi (Al2 (n:=0) AS8 rfl HS rfl (Aa3 AGh) fun B9 Ca A3 A4=>ATz ATk rfl A3 (Aj2 (n:=0) AS7 rfl A4 rfl (Acw AGh) fun Cb A5=>ATz ATd rfl A5 (AGw (AGn (AGl (AGi (ATc trivial rfl (Arq HS Aj AGh AGh (fun i hi=>Aqf hstg AGh AGh hi AGh)) fun x4 hq hk=>?_)))))))))))));obtain ⟨rfl,rfl⟩:=hk;refine ⟨trivial,?_⟩;cases Ce:decide (Ahv m F)
   ·refine AWp rfl (AGq (ATn rfl (AGl (AGw (AGy (ATb (AUf (ATb (AUf (ATb (⟨_,AS1,?_⟩)))))))))))
    first
      | exact ⟨XQ,congrArg Value.bool (show false=isRed M by unfold isRed;rw [show Adf M=false by assumption];rfl)⟩
      | exact ⟨XQ,congrArg Value.bool (show false=isRed M by unfold isRed;rw [hred,Ag3 AGh (of_decide_eq_false (by assumption)),Bool.and_false])⟩
      | exact ⟨XQ,congrArg Value.bool (show false=isRed M by unfold isRed;rw [hred,Aka AGh (by unfold Am7;omega),Bool.and_false])⟩
      | (obtain rfl:m=1:=by omega
         first
         | exact ⟨XQ,congrArg Value.bool (show true=isRed M by unfold isRed;rw [hred,<- AY0 hsm,Ahw,decide_eq_true ⟨AGh,AGh⟩];rfl)⟩
         | exact ⟨XQ,congrArg Value.bool (show false=isRed M by unfold isRed;rw [hred,Ahw,decide_eq_false AGh,Bool.and_false])⟩)
   ·refine AWp rfl (AGq (ATp rfl (AGx (q_t (AGl (AGi (Aow AS8 rfl HS ?_)))))));rw [AT5];have hsh:Ahv m F:=of_decide_eq_true (by assumption);refine Aeb rfl rfl AGh AGh ?_;rw [show ((m:Nat):Int) - 1=((m - 1:Nat):Int) by omega];refine BBe (ei:=tI) AS8 Aez (fun _=>trivial) rfl rfl AGj AGh fun b2 v2 h2 Ak E2 Cg hl2b=>?_;have Ch:=E2.1;have Z6:=(Ext.refl hq).trans E2;have X7:=XQ.trans E2;have HS_8:=HS.ext E2;refine AGw (AGn (AGl (AGi (Axn AS8 rfl Ak.1 (AGi (AGq (AGo (AXt 1208925819614624879739776 (fun i:Nat=>[(32,.int .i64 (i:Int))]) (fun k i h'=>k=m - 1 - i/\i<=m - 1/\Ext hq h'/\ ∃ gs,Ahb h' tR tI (Array.size hq) b2 gs v2 (m - 1) ((List.range i).map (fun i=>(List.range (m - 1)).map fun j=>Ai5 F last i j))) AGv (m - 1) 0 ?_ ⟨rfl,trivial⟩ ?_))))))))
    ·exact ⟨rfl,Nat.zero_le _,E2,[],Ak⟩
    rintro k i s2 h3 ⟨rfl,hi,E3,gs,HP⟩;have X9:=XQ.trans E3;have Ck:=E3.1;have HS_11:=HS.ext E3;refine AGl (AW7 rfl rfl (fun A7=>?_) (fun A7=>?_))
    ·refine AGq (AGn (ATn rfl (AGx (q_t (AGn (AGo (AGl (AGi (ATx (AGi (AGi (Abp rfl AGh (A87 AS8 rfl HS E3 rfl (Aa3 AGh) fun aR rR haR hrR=>ATz ATk rfl haR (AGw ?_))))))))))))));refine AGl (AGi (AGi (AGi (Axn AS8 rfl HP.1 (BBf AS7 Ace (fun _=>trivial) rfl rfl AGj AGh fun g4 v4 h4 A8 E4 Cn Co=>?_)))));have Cp:=E4.1;have A9:=E3.trans E4;have Ba:=X9.trans E4;have HS_15:=HS_11.ext E4;have HP_16:=HP.ext E4;refine A6c AS8 rfl HP_16 rfl AGh ?_;have hglt:=HP.1.lt;have hblo:=HP.2 b2 (List.mem_cons_self ..);refine A6d ATk rfl rfl HP_16 ATw AGh A8 (fun hc=>by have:=hglt _ hc;omega) AGh fun h4b HPb U4=>?_;have Cq:=U4.1;have Cr:=Ba.thenUpd U4 (fun k hk=>by have Ah:k=b2:=hk;omega);have Ao:=A9.thenUpd U4 (fun k hk=>by have Ah:k=b2:=hk;omega);have HS_20:=HS.ext Ao;refine AZf (AGi (Axn AS8 rfl HPb.1 (AGi (AGq (AGo (AXt 604462909525839610642944 (fun j:Nat=>[(48,.int .i64 (j:Int))]) (fun k j h'=>k=m - 1 - j/\j<=m - 1/\Ext hq h'/\Ahb h' tR tI (Array.size hq) b2 (gs ++ [g4]) v2 (m - 1) ((List.range i).map (fun i=>(List.range (m - 1)).map fun j=>Ai5 F last i j) ++ [Apy (m - 1) (Ai5 F last i) (fun _=>0) j])) AGv (m - 1) 0 ?_ ⟨rfl,trivial⟩ ?_))))))
     ·exact ⟨rfl,Nat.zero_le _,Ao,by rw [A0t,A0u];exact HPb⟩
     rintro k j s3 h5 ⟨rfl,hj,E5,HQ⟩;have Bb:=XQ.trans E5;have Cv:=E5.1;have HS_23:=HS.ext E5;refine AGl (AW7 rfl rfl (fun Bc=>?_) (fun Bc=>?_))
     ·refine AGq (AGn (ATn rfl (AGx (q_t (AGn (AGo (AGl (AGi (AGw ?_)))))))));have hd:=hsh.1;have hfit:=fun i j hi hj=>Aqf hstg AGh AGh (i:=i) (j:=j) hi hj;have q1:=Am0 (a:=65535) (b:=34359738368) (x:=F 0 0) (y:=F (i + 1) (j + 1)) ⟨AGh,AGh⟩ (hfit _ _ AGh AGh);have q2:=hsh.2 (i + 1) AGh AGh;have q3:=hsh.2 (j + 1) AGh AGh;rw [<- hstg.sym 0 (j + 1) AGh AGh] at q3;have q4:=Am0 (a:=32768) (b:=32768) (x:=F (i + 1) 0) (y:=F 0 (j + 1)) ⟨AGh,AGh⟩ ⟨AGh,AGh⟩;unfold Abs at q1 q4;refine Aic AGv (AGi (AGi (BBg AS8 rfl HQ rfl (Avn ATw) fun aQ rQ gQ haQ hgQ hrQ=>?_)));refine ATz ATk rfl haQ (AGi (AGi (AGi (AGi (Abp rfl AGh (Aj2 AS7 rfl (hrR.ext E5) rfl (Acw AGh) fun Cw Bi=>ATz ATd rfl Bi (Afy rfl rfl AGh AGh (AGi (Aj2 (n:=0) AS7 rfl (hrR.ext E5) rfl (Acw AGh) fun Cx Bj=>ATz ATd rfl Bj (AGi (Al2 (n:=0) AS8 rfl HS_23 rfl (Aa3 AGh) fun aZ rZ haZ hrZ=>ATz ATk rfl haZ (AGi (Abp rfl AGh (Aj2 AS7 rfl hrZ rfl (Acw AGh) fun Cy Bl=>ATz ATd rfl Bl (Afy rfl rfl AGh AGh (Aeb rfl rfl AGh AGh (AGi (Asl rfl rfl AGh ?_))))))))))))))))));have hnf:=Aqf (Awi (m:=m - 1) (by rw [show m - 1 + 1=m by omega];exact hstg) AGh (by rw [show m - 1 + 1=m by omega];exact hsh)) AGh AGh (i:=i) (j:=j) AGh AGh;unfold Abs at hnf;rw [show IntKind.i64.wrap ((F 0 0 * F (i + 1) (j + 1) - F (i + 1) 0 * F 0 (j + 1)).tdiv last)=Ai5 F last i j from Go.QF.wrap_small (by have:(F 0 0 * F (i + 1) (j + 1) - F (i + 1) 0 * F 0 (j + 1)).tdiv last=Ai5 F last i j:=rfl;omega) (by have:(F 0 0 * F (i + 1) (j + 1) - F (i + 1) 0 * F 0 (j + 1)).tdiv last=Ai5 F last i j:=rfl;omega)];refine Aj1 AS7 rfl hrQ rfl (by rw [List.length_map,Al3];omega) ?_;refine A6e (Apy (m - 1) (Ai5 F last i) (fun _=>0) (j + 1)) ATd rfl rfl HQ hgQ (Avn ATw) hrQ (by rw [Al3];omega) (A2o AGh rfl) fun h6 Bm U6 C0=>?_;have C1:=U6.1;have C2:=Bb.thenUpd U6 (fun k hk=>by have Ah:k=gQ:=hk;omega);have Ap:=E5.thenUpd U6 (fun k hk=>by have Ah:k=gQ:=hk;omega);have HS_30:=HS.ext Ap;have Aq:=Bm;rw [A2s ATw] at Aq;refine ATf (q_b (q_t (AS3 (Abp rfl AGh (AGi (AGq ?_))))));exact ⟨m - 1 - (j + 1),j + 1,AGh,⟨rfl,AGh,Ap,Aq⟩,rfl,trivial⟩
     ·refine AGq (AGn (ATp rfl (AS9 (ATa (ATa (AT9 (q_b (q_t (AS3 (Abp rfl AGh (AGi (AGq ?_))))))))))));exact ⟨m - 1 - (i + 1),i + 1,AGh,⟨rfl,AGh,E5,gs ++ [g4],by rw [A2n _ _ AGh] at HQ;rw [<- Axm];exact HQ⟩,rfl,trivial⟩
    ·refine AGq (AGn (ATp rfl (AS9 (ATa (ATa (AT9 (q_t (AGn ?_))))))));obtain rfl:i=m - 1:=by omega
     have Ar:Ahb h3 tR tI (Array.size hq) b2 gs v2 (tab (m - 1) (m - 1) (Ai5 F last)).length (tab (m - 1) (m - 1) (Ai5 F last)):=by rw [AT5];exact HP
     have HN:=Ar.mat;have hcapn:=Ar.cap;have Bn:=Awi (m:=m - 1) (by rw [show m - 1 + 1=m by omega];exact hstg) AGh (by rw [show m - 1 + 1=m by omega];exact hsh);have hnx:Stg (m - 1) (Ai5 F last) (F 0 0) (262144 + 16384 * (M.length - ((m - 1:Nat):Int))):=by rw [show (262144 + 16384 * ((M.length:Int) - ((m - 1:Nat):Int)))=262144 + 16384 * ((M.length:Int) - (m:Int)) + 16384 by omega];exact Bn
     refine AS3 (AGi (Al2 (n:=1) AS8 rfl HS_11 rfl (Aa3 AGh) fun C3 C4 Bo Bp=>ATz ATk rfl Bo (Aj2 (n:=0) AS7 rfl Bp rfl (Acw AGh) fun C5 Bq=>ATz ATd rfl Bq (AGw (AGn (AGn ?_))))));have hd:=hsh.1;have hnf:=Aqf hnx AGh AGh (i:=0) (j:=0) AGh AGh;have q5:=Am0 (a:=65535) (b:=34359738368) (x:=last) (y:=Ai5 F last 0 0) ⟨AGh,AGh⟩ hnf;have q2:=hsh.2 1 AGh AGh;have q6:=Am0 (a:=32768) (b:=32768) (x:=F 1 0) (y:=F 1 0) ⟨AGh,AGh⟩ ⟨AGh,AGh⟩;have q7:=Aox (a:=3 * F 0 0) (b:=F 0 0) (A:=196605) (B:=65535) AGh AGh AGh AGh;unfold Abs at q5 q6;refine AS3 (AGi (AGi (Al2 (n:=0) AS8 rfl HN rfl (Aa3 AGh) fun aN rN haN hrN=>ATz ATk rfl haN (Aj2 (n:=0) AS7 rfl hrN rfl (Acw AGh) fun aO haO=>ATz ATd rfl haO (Afy rfl rfl AGh AGh (AGi (AGi (Afy rfl rfl AGh AGh (Ats rfl rfl AGh AGh (Afy rfl rfl AGh AGh (AGi (Afy rfl rfl AGh AGh (AGi (Afy rfl rfl AGh AGh (AW7 rfl rfl (fun Bu=>?_) (fun Bu=>?_))))))))))))))))
     ·refine AGq (ATn rfl (AGl (AGw (AGy (ATb (AUf (ATb (AUf (ATb (⟨_,AS1,?_⟩))))))))))
      first
        | exact ⟨X9,congrArg Value.bool (show false=isRed M by unfold isRed;rw [show Adf M=false by assumption];rfl)⟩
        | exact ⟨X9,congrArg Value.bool (show false=isRed M by unfold isRed;rw [hred,Ag3 AGh (of_decide_eq_false (by assumption)),Bool.and_false])⟩
        | exact ⟨X9,congrArg Value.bool (show false=isRed M by unfold isRed;rw [hred,Aka AGh (by unfold Am7;omega),Bool.and_false])⟩
        | (obtain rfl:m=1:=by omega
           first
           | exact ⟨X9,congrArg Value.bool (show true=isRed M by unfold isRed;rw [hred,<- AY0 hsm,Ahw,decide_eq_true ⟨AGh,AGh⟩];rfl)⟩
           | exact ⟨X9,congrArg Value.bool (show false=isRed M by unfold isRed;rw [hred,Ahw,decide_eq_false AGh,Bool.and_false])⟩)
     ·refine AGq (ATp rfl (AGx (q_t ?_)));have hlov:Am7 F last:=by unfold Am7;omega
      have hredn:=A1m (last:=last) AGh hsh hlov;refine AS3 (AGi (AGi (ATi (ATi (ATf (q_b (q_t ?_)))))));exact ⟨m - 1,(m - 1,v2,F 0 0,Ai5 F last),by first | omega | (dsimp only;omega),⟨rfl,X9,by first | omega | (dsimp only;omega),by first | omega | (dsimp only;omega),HN,hcapn,hnx,by rw [hred,hredn]⟩,rfl,rfl,trivial⟩
  ·refine AGq (ATp rfl (AS9 (ATa (ATa (AT9 (q_t (AGl (AGi (Al2 (n:=0) AS8 rfl HS rfl (Aa3 AGh) fun C7 C8 Bv Bw=>ATz ATk rfl Bv (Aj2 (n:=0) AS7 rfl Bw rfl (Acw AGh) fun C9 Bx=>ATz ATd rfl Bx (Ai6 rfl rfl (fun By=>?_) (fun By=>?_))))))))))))
   ·refine AGi (AUk 110 true AGv rfl rfl (AGi (AUk 110 true AGv rfl rfl (Al2 (n:=0) AS8 rfl HS rfl (Aa3 AGh) fun Da Db Bz B1=>AUk 110 true AGv rfl rfl (ATz ATk rfl Bz (AUk 110 true AGv rfl rfl (Aj2 (n:=0) AS7 rfl B1 rfl (Acw AGh) fun Dc B3=>AUk 110 true AGv rfl rfl (ATz ATd rfl B3 (AUk 110 true AGv rfl rfl (Al0 rfl rfl (fun B4=>?_) (fun B4=>?_)))))))))))
    ·refine ATh rfl (AGw (AGy (⟨_,AS1,?_⟩)))
     first
       | exact ⟨XQ,congrArg Value.bool (show false=isRed M by unfold isRed;rw [show Adf M=false by assumption];rfl)⟩
       | exact ⟨XQ,congrArg Value.bool (show false=isRed M by unfold isRed;rw [hred,Ag3 AGh (of_decide_eq_false (by assumption)),Bool.and_false])⟩
       | exact ⟨XQ,congrArg Value.bool (show false=isRed M by unfold isRed;rw [hred,Aka AGh (by unfold Am7;omega),Bool.and_false])⟩
       | (obtain rfl:m=1:=by omega
          first
          | exact ⟨XQ,congrArg Value.bool (show true=isRed M by unfold isRed;rw [hred,<- AY0 hsm,Ahw,decide_eq_true ⟨AGh,AGh⟩];rfl)⟩
          | exact ⟨XQ,congrArg Value.bool (show false=isRed M by unfold isRed;rw [hred,Ahw,decide_eq_false AGh,Bool.and_false])⟩)
    ·refine ATh rfl (AGw (AGy (⟨_,AS1,?_⟩)))
     first
       | exact ⟨XQ,congrArg Value.bool (show false=isRed M by unfold isRed;rw [show Adf M=false by assumption];rfl)⟩
       | exact ⟨XQ,congrArg Value.bool (show false=isRed M by unfold isRed;rw [hred,Ag3 AGh (of_decide_eq_false (by assumption)),Bool.and_false])⟩
       | exact ⟨XQ,congrArg Value.bool (show false=isRed M by unfold isRed;rw [hred,Aka AGh (by unfold Am7;omega),Bool.and_false])⟩
       | (obtain rfl:m=1:=by omega
          first
          | exact ⟨XQ,congrArg Value.bool (show true=isRed M by unfold isRed;rw [hred,<- AY0 hsm,Ahw,decide_eq_true ⟨AGh,AGh⟩];rfl)⟩
          | exact ⟨XQ,congrArg Value.bool (show false=isRed M by unfold isRed;rw [hred,Ahw,decide_eq_false AGh,Bool.and_false])⟩)
   ·refine AGi (AUb 110 false AGv rfl rfl (AUb 110 false AGv rfl rfl (AUb 110 false AGv rfl rfl (AUb 110 false AGv rfl rfl (AUb 110 false AGv rfl rfl (AUb 110 false AGv rfl rfl (ATq rfl (AGw (AGy (⟨_,AS1,?_⟩))))))))))
    first
      | exact ⟨XQ,congrArg Value.bool (show false=isRed M by unfold isRed;rw [show Adf M=false by assumption];rfl)⟩
      | exact ⟨XQ,congrArg Value.bool (show false=isRed M by unfold isRed;rw [hred,Ag3 AGh (of_decide_eq_false (by assumption)),Bool.and_false])⟩
      | exact ⟨XQ,congrArg Value.bool (show false=isRed M by unfold isRed;rw [hred,Aka AGh (by unfold Am7;omega),Bool.and_false])⟩
      | (obtain rfl:m=1:=by omega
         first
         | exact ⟨XQ,congrArg Value.bool (show true=isRed M by unfold isRed;rw [hred,<- AY0 hsm,Ahw,decide_eq_true ⟨AGh,AGh⟩];rfl)⟩
         | exact ⟨XQ,congrArg Value.bool (show false=isRed M by unfold isRed;rw [hred,Ahw,decide_eq_false AGh,Bool.and_false])⟩)
end Go.Proofs.YthbndcbclhkepaaGreatDoor
namespace Go.Proofs.YthbndcbclhkepaaGreatDoor
open Go Go.QF
set_option maxRecDepth 100000
open Classical in
noncomputable def A1n (p:Int):Bool:=decide (2 < p/\p<=9973/\Pr p)
theorem Auk {p:Int} (h:2 < p/\p<=9973/\Pr p):true=A1n p:=by simp [A1n,h]
theorem Amh {p:Int} (h: ¬ (2 < p/\p<=9973/\Pr p)):false=A1n p:=by simp [A1n,h]
theorem prB {p:Int} {b:Bool} (h:Afe p=b) (hp:p<=9973):b=true↔Pr p:=by
 subst h;constructor
 ·intro h;exact (A0o h).2
 ·intro h;exact (Aqr AGh h).symm
theorem A7k (p:Int) {h:AGs} (HO:Am5 h):ATt Tryz.prog 69 #[.int .i64 p] h fun v h'=>h'=h/\v= .bool (A1n p):=by
 refine AT4 (l:=[_]) mx Tryz.func69 rfl rfl rfl rfl rfl AGv (AGl (ATx (AGi (Ai6 rfl rfl (fun Aa=>?_) (fun Aa=>?_)))))
 ·refine AGi (AUk 5 true AGv rfl rfl (AGi (AUk 5 true AGv rfl rfl (Al0 rfl rfl (fun Ab=>?_) (fun Ab=>?_)))))
  ·refine ATh rfl (AGi (AUk 9 true AGv rfl rfl (AGi (AUk 9 true AGv rfl rfl (ATc trivial rfl (A8j p HO) fun x1 h hk=>?_)))));obtain ⟨rfl,rfl⟩:=hk;refine ⟨trivial,?_⟩;cases Ad:Afe p
   ·refine ATh rfl (AGw (AGy (⟨_,AS1,?_⟩)))
    first
    | exact ⟨rfl,congrArg Value.bool (Amh (fun hh=>by have:=hh.1;have:=hh.2.1;omega))⟩
    | (have hq:=(prB (by assumption:Afe p=_) AGh);first | exact ⟨rfl,congrArg Value.bool (Auk ⟨by first | omega | (have:=(hq.1 rfl).1;omega),AGh,hq.1 rfl⟩)⟩ | exact ⟨rfl,congrArg Value.bool (Amh (fun hh=>by have:=hq.2 hh.2.2;cases this))⟩)
   ·refine ATh rfl (AGw (AGy (⟨_,AS1,?_⟩)))
    first
    | exact ⟨rfl,congrArg Value.bool (Amh (fun hh=>by have:=hh.1;have:=hh.2.1;omega))⟩
    | (have hq:=(prB (by assumption:Afe p=_) AGh);first | exact ⟨rfl,congrArg Value.bool (Auk ⟨by first | omega | (have:=(hq.1 rfl).1;omega),AGh,hq.1 rfl⟩)⟩ | exact ⟨rfl,congrArg Value.bool (Amh (fun hh=>by have:=hq.2 hh.2.2;cases this))⟩)
  ·refine ATh rfl (AGi (AUb 9 false AGv rfl rfl (AUb 9 false AGv rfl rfl (ATq rfl (AGw (AGy (⟨_,AS1,?_⟩)))))))
   first
   | exact ⟨rfl,congrArg Value.bool (Amh (fun hh=>by have:=hh.1;have:=hh.2.1;omega))⟩
   | (have hq:=(prB (by assumption:Afe p=_) AGh);first | exact ⟨rfl,congrArg Value.bool (Auk ⟨by first | omega | (have:=(hq.1 rfl).1;omega),AGh,hq.1 rfl⟩)⟩ | exact ⟨rfl,congrArg Value.bool (Amh (fun hh=>by have:=hq.2 hh.2.2;cases this))⟩)
 ·refine AGi (AUb 5 false AGv rfl rfl (AUb 5 false AGv rfl rfl (ATq rfl (AGi (AUb 9 false AGv rfl rfl (AUb 9 false AGv rfl rfl (ATq rfl (AGw (AGy (⟨_,AS1,?_⟩))))))))))
  first
  | exact ⟨rfl,congrArg Value.bool (Amh (fun hh=>by have:=hh.1;have:=hh.2.1;omega))⟩
  | (have hq:=(prB (by assumption:Afe p=_) AGh);first | exact ⟨rfl,congrArg Value.bool (Auk ⟨by first | omega | (have:=(hq.1 rfl).1;omega),AGh,hq.1 rfl⟩)⟩ | exact ⟨rfl,congrArg Value.bool (Amh (fun hh=>by have:=hq.2 hh.2.2;cases this))⟩)
end Go.Proofs.YthbndcbclhkepaaGreatDoor
namespace Go.Proofs.YthbndcbclhkepaaGreatDoor
open Go Go.QF
noncomputable def Akb (fuel:Nat) (M:List (List Int)):Option Bool:=some (isRed M)
theorem Arr {fuel:Nat} {h:AGs} {v:Value} {M:List (List Int)} {r:Bool} (H:AXq (cI .i64) h v M) (hp:Akb fuel M=some r):ATt Tryz.prog 34 #[v] h (fun x h'=>Ext h h'/\x= .bool r):=by
 cases hp;exact Auj (A92 H) H.1
noncomputable def Awj (fuel:Nat) (n:Int):Option Bool:=some (Afe n)
theorem A1o {fuel:Nat} {h:AGs} {n:Int} {r:Bool} (HO:Am5 h) (hp:Awj fuel n=some r):ATt Tryz.prog 114 #[.int .i64 n] h (fun x h'=>Ext h h'/\x= .bool r):=by
 cases hp;exact (A8j n HO).mono fun x h' ⟨he,hx⟩=>⟨he ▸ Ext.refl _,hx⟩
noncomputable def Ars (fuel:Nat) (n:Int):Option Bool:=some (A1n n)
theorem Awk {fuel:Nat} {h:AGs} {n:Int} {r:Bool} (HO:Am5 h) (hp:Ars fuel n=some r):ATt Tryz.prog 69 #[.int .i64 n] h (fun x h'=>Ext h h'/\x= .bool r):=by
 cases hp;exact (A7k n HO).mono fun x h' ⟨he,hx⟩=>⟨he ▸ Ext.refl _,hx⟩
end Go.Proofs.YthbndcbclhkepaaGreatDoor
namespace Go.Proofs.YthbndcbclhkepaaGreatDoor
open Go Go.QF
set_option maxRecDepth 100000
set_option maxHeartbeats 4000000
noncomputable def Aej (fuel:Nat) (Ad:LiA) (Aa Ab Ac:Int):Option ((Int × Int × Int) ⊕ ((Int × Int))):=
  (if 0<=Aa then ((gI Ad Aa).bind fun Ae=>(if 0<=Aa/\Aa<=64 then ((((Ame fuel Ab Ae).bind fun (Af,Ag,Ak)=>((Arm fuel Ag).bind fun Ah=>(if ¬ Ah=0 then (some ( (false,Ab,Ac))) else (some ( (true,Af,(w64 (Ac + (w64 (1 * 2 ^ Int.toNat Aa)))))))))):Option (Bool × Int × Int)).bind fun (Am,Ai,Aj)=>(some (Sum.inl ((w64 (Aa - 1)),Ai,Aj)))) else none)) else (some (Sum.inr<| (Ab,Ac))))
noncomputable def Aek (fuel:Nat) (Aa:LiA) (Ac Ad:Int):Option ((LiA × Int × Int) ⊕ ((LiA × Int × Int))):=
  ((gI Aa (w64 ((Aa.length:Int) - 1))).bind fun Ab=>(if 0<=(w64 ((Aa.length:Int) - 1))/\(w64 ((Aa.length:Int) - 1))<=64 then ((((Ame fuel Ac Ab).bind fun (Ag,Ah,Am)=>((Arm fuel Ah).bind fun Ai=>(if ¬ Ai=0 then (some ( (false,Ac,Ad))) else (some ( (true,Ag,(w64 (Ad + (w64 (1 * 2 ^ Int.toNat (w64 ((Aa.length:Int) - 1)))))))))))):Option (Bool × Int × Int)).bind fun (Aj,Ae,Af)=>(if Aj=true then ((Azu fuel Ab Ab).bind fun Ak=>(if Aa.length<=100000000 then (some (Sum.inl ((Aa ++ [Ak]),Ae,Af))) else none)) else (some (Sum.inr<| (Aa,Ae,Af))))) else none))
noncomputable def Abw (fuel:Nat) (a1 a5:Int):Option (Int × Int × Int):=
  ((Awj fuel a5).bind fun Ad=>(if (!Ad)=true then (some (0,0,20)) else ((Arm fuel a1).bind fun Ae=>(if Ae=0 then (some (0,0,1)) else ((Amf fuel a1).bind fun Af=>((Aqd fuel a5).bind fun Ag=>((iter (fun s=>Aek fuel s.1 s.2.1 s.2.2) fuel ([Ag],Af,0)).bind (fun ((Ac,Ah,Ai):LiA × Int × Int)=>((iter (fun s=>Aej fuel Ac s.1 s.2.1 s.2.2) fuel ((w64 ((Ac.length:Int) - 2)),Ah,Ai)).bind (fun ((Aj,Ak):Int × Int)=>(some (Ak,Aj,0))))))))))))
theorem Ami {fuel:Nat} {h:AGs} {Bh:Value} {a1 a5:Int} {r:(Int × Int × Int)} (H3:ZZ h Bh a1) (HO:Am5 h) (hp:Abw fuel a1 a5=some r):ATt Tryz.prog 117 #[Bh,(.int .i64 a5)] h (fun x h'=>Ext h h'/\ ∃ (x1:Value),x= .tuple #[.int .i64 r.1,x1,.int .i64 r.2.2]/\ZZ h' x1 r.2.1):=by
 unfold Abw at hp;obtain ⟨Ci,rfl,Am⟩:=H3.cs;refine cwf (l:=[_,_]) Tryz.func117 rfl rfl (AGl (AYn (Kst.k0 h) Ci fun b6 h7 E9 Cj=>ATi (AVt Cj [.bool false,.slice none 0 0] AW9 fun Fp Fq Fr Bm=>AGw (AGn (AGl (AGi ?_))))));obtain ⟨Ft,Ck,Bn⟩:=AGm hp;refine AXx Bm (A1o (HO.ext Bm.x) Ck) fun Bo Fu Aj=>AWp rfl (AGq (⟨_,rfl,fun Ax=>?_,fun Ax=>?_⟩))
 ·refine AGl (AWe (Af9 ) (ATi (AYa Aj p0 (AS6 Bo) (AS6 Bo) fun Bp Bq=>AGw (AGy (ATb ?_)))));obtain rfl:=AGk (ifT Bn Ax);exact ⟨_,Are AT6 (cZ.klen (AS6 Bp)) rfl (Bq.b p0),Bq.x,_,rfl,(AS6 Bp).2⟩
 ·refine AGx (q_t (AGn (AGl (Ach (Aj.zx Am) (Aj.b p1) ?_))));obtain ⟨Fv,Cm,Br⟩:=AGm (Aav Bn Ax);refine AXx Aj (Aqe (Aj.zx Am).2 Cm) fun Bt Fw Ak=>AV2 rfl rfl (AGq (⟨_,rfl,fun Ay=>?_,fun Ay=>?_⟩))
  ·refine AGl (AWe (Af9 ) (ATi (AYa Ak p0 (AS6 Bt) (AS6 Bt) fun Bu Bv=>AGw (AGy (ATb ?_)))));obtain rfl:=AGk (AT0 Br Ay);exact ⟨_,Are AT6 (cZ.klen (AS6 Bu)) rfl (Bv.b p0),Bv.x,_,rfl,(AS6 Bu).2⟩
  ·refine AGx (q_t (AGl (Ach (Ak.zx Am) (Ak.b p1) ?_)));obtain ⟨Cn,Co,Cp⟩:=AGm (AT1 Br Ay);refine Agc Ak (Aof (Ak.zx Am).2 Co) fun Cq Fx Fy Cr=>AVt Cr [.bool false,.slice none 0 0] AW9 fun Ae Ct Fz Bw=>AYa Bw p0 (AS6 Ct) (Bw.z p1) fun F4 Cu=>AZf (AVt Cu [(.int .i64 0)] Anl fun Af F5 F6 Bx=>Agr [(.int .i64 0)] AT2 rfl rfl rfl (Bx.b p0) (Nat.le_of_ble_eq_true rfl) rfl fun F7 Cv Cw=>AZf (A2h rfl (AGw (AGn ?_))));refine AS3 (AGi ?_);obtain ⟨Cx,Cy,Cz⟩:=AGm Cp;refine Agc (Bx.sb p0 Cw Cv rfl) (Arn Cy) fun F8 F9 Ga By=>A9j AVl AW9 rfl trivial tt2 (By.z p0) rfl fun C0 C1 Gb C2 C3 C4 C5=>AGw (AGn (AGo ?_));have Az:=(By.no C3 (AXv C4 C5) C2).sel [0,2,3,4,5] AGj;dsimp only [AYk,Abf] at Az;refine AX3 2251799679470592 (fun x:(LiA) × (Value) × LnA × (Int) × LvA × (Int)=>(x.1,x.2.2.2.1,x.2.2.2.2.2)) (([Cx],C1,[C0],Cn,Cq,0):(LiA) × (Value) × LnA × (Int) × LvA × (Int)) Cz (fun x=>[(10,x.2.1)]) (fun x=>(((Az.L.set 0 (aO cZ 93 x.2.2.1 x.2.1 x.1)).set 3 (aZ x.2.2.2.2.1 x.2.2.2.1)).set 2 (aB 93 Ae x.2.2.2.2.1)).set 1 (aB 3 Af [(.int .i64 x.2.2.2.2.2)])) Az ⟨rfl,trivial⟩ ?_;rintro ⟨Ao,Gc,Gd,C6,C7,A3⟩ Ge Gf Gg Ap Bz C8;unfold Aek at Bz;refine AGn (AGn (AXm (AGi (AGi (AGi (AUn AVl rfl (Ap.o p0).rd (AVe rfl rfl ?_)))))));obtain ⟨Gh,Aq,C9⟩:=AGm Bz;refine Aq4 AVl rfl (Ap.o p0) rfl Aq fun Gi Da=>?_;obtain ⟨B1,Db,Dc⟩:=(Ap.o p0).cells Da Aq;have Ar:=Ap.az Db;refine Afm (c:=cZ) AT6 rfl (Ar.z p0) (fun j u hu=>(Dc j u hu)) (AGi (AUn AVl rfl (Ar.o p1).rd (AVe rfl rfl ?_)));obtain ⟨Dd,De⟩:=ifN C9;refine AYt rfl rfl Dd ?_;obtain ⟨Df,Dg,B3⟩:=AGm De;refine Ap3 (l:=[(.agg (B1).toArray),(.int .i64 (w64 (1 * 2 ^ Int.toNat (w64 ((Ao.length:Int) - 1)))))]) (cl:=[(.pointer (some ⟨Ae,0,none⟩)),(.pointer (some ⟨Af,0,none⟩))]) (K':=(fun xr h'=> ∃ x:(Bool) × (Int) × LvA × (Int),(x.1,x.2.1,x.2.2.2)=Df/\xr=(.bool x.1)/\Kst h h' (((Ar.L.set 4 (aZ x.2.2.1 x.2.1)).set 3 (aB 93 Ae x.2.2.1)).set 2 (aB 3 Af [(.int .i64 x.2.2.2)])))) trivial rfl rfl ?_ fun Gj Gk Dh=>?_
   ·refine cwf (l:=[_,_,_,_]) Tryz.func156 rfl rfl (AGl (AYn Ar B1 fun Gl Gm Gn Ab=>ATx (Ach (Ab.z p5) (Ab.b p4) (Ach (Ab.z p1) (Ab.b p0) ?_))));obtain ⟨⟨Di,Gp,Gq⟩,Dj,B4⟩:=AGm Dg;dsimp only at B4;refine Afg rfl (Apd (Ab.z p5).2 (Ab.z p1).2 Dj) fun Gr Gt Dk Dl=>?_;obtain ⟨Gu,Gv,rfl,Do,Dp⟩:=Dl;obtain ⟨Dq,rfl,Dr⟩:=Do.cs;obtain ⟨Gw,rfl,Ds⟩:=Dp.cs;refine AGi (AUe rfl rfl (AUe rfl rfl (AUe rfl rfl (AVt (((Ab.e Dk).az Dr).az Ds) [.bool false,.slice none 0 0] AW9 fun Gx Gy Gz Dt=>AVt Dt [.bool false,.slice none 0 0] AW9 fun G3 Du G4 B5=>AYa B5 p1 (AS6 Du) (B5.z p3) fun Dv B6=>AYa B6 p0 (AS6 Dv) (B6.z p2) fun G5 Au=>AGw (AGn (AGl (Ach (Au.z p2) (Au.b p0) ?_)))))));obtain ⟨G6,Dw,B7⟩:=AGm B4;refine AXx Au (Aqe (Au.z p2).2 Dw) fun G7 G8 Ag=>AXa rfl rfl (AGq (⟨_,rfl,fun A4=>?_,fun A4=>?_⟩))
    ·refine AGl (AGw (AGy (ATb (⟨_,AS1,((false,C6,C7,A3):(Bool) × (Int) × LvA × (Int)),?_,rfl,?_⟩))))
     ·exact AGk (AT0 B7 A4)
     ·exact Ag.sel [5,6,7,8,9,10] AGj
    ·refine AGx (q_t (AGl (Ach (Ag.z p3) (Ag.b p1) (AYa Ag p8 (Ag.z p9) (Ag.z p3) fun G9 A5=>AZf (ATz AT2 rfl ((A5.b p7).cell (i:=0) rfl) (AGi (ATj rfl rfl (Agr [(.int .i64 (w64 (A3 + (w64 (1 * 2 ^ Int.toNat (w64 ((Ao.length:Int) - 1)))))))] AT2 rfl rfl rfl (A5.b p7) (Nat.le_of_ble_eq_true rfl) rfl fun Hb Dx Dy=>AZf ?_))))))));refine AGw (AGy (⟨_,AS1,((true,Di,Dq,(w64 (A3 + (w64 (1 * 2 ^ Int.toNat (w64 ((Ao.length:Int) - 1))))))):(Bool) × (Int) × LvA × (Int)),?_,rfl,?_⟩))
     ·exact AGk (AT1 B7 A4)
     ·exact (A5.sb p7 Dy Dx rfl).sel [5,6,7,8,3,10] AGj
   obtain ⟨⟨Hc,Dz,D0,D1⟩,D2,rfl,Ah⟩:=Dh;refine ⟨trivial,?_⟩;subst D2;refine AGq (⟨_,rfl,fun A6=>?_,fun A6=>?_⟩)
   ·refine AGx (q_t (AGo (AGl (AGi (AGi (AUn AVl rfl (Ah.o p1).rd (AVe rfl rfl (Aq4 AVl rfl (Ah.o p1) rfl Aq fun Hd D3=>?_))))))));obtain ⟨He,D4,D5⟩:=(Ah.o p1).cells D3 Aq;have B8:=Ah.az D4;refine Afm (c:=cZ) AT6 rfl (B8.z p0) (fun j u hu=>(D5 j u hu)) (AVt B8 [.bool false,.slice none 0 0] AW9 fun Hf D6 Hg B9=>AYa B9 p0 (AS6 D6) (B9.z p1) fun Hh Ac=>AGq (AS3 (AGi (Ach (Ac.z p1) (Ac.b p0) (Ach (Ac.z p1) (Ac.b p0) ?_)))));obtain ⟨Hj,D7,D8⟩:=AGm (ifT B3 A6);refine Agc Ac (Ayb (Ac.z p1).2 (Ac.z p1).2 D7) fun Hk Hl Hm A7=>?_;obtain ⟨D9,Ea⟩:=ifN D8;refine Aep AVl AW9 rfl rfl trivial tt2 (fun _=>rfl) rfl (A7.z p0) (A7.o p4) AGj D9 fun Hn Ho Hq Hr Eb Ec Ed=>ATi (ATf (q_b (q_t ?_)));exact ⟨(_,_,_,_,_,_),(AGk Ea).symm,(A7.uo p4 Ec Eb Ed).sel [4,5,6,7,8] AGj,rfl,trivial⟩
   ·refine AS9 (ATa (ATa (AT9 (q_t (AGn (AGl (AGi (AUn AVl rfl (Ah.o p1).rd (AVe rfl rfl (AGw (AGo ?_)))))))))));have A8:=Ah.sel [1,2,3,4,5] AGj;dsimp only [AYk,Abf] at A8;refine AX3 73768961896328728576 (fun x:(Int) × (Int) × LvA × (Int)=>(x.1,x.2.1,x.2.2.2)) (((w64 ((Ao.length:Int) - 2)),Dz,D0,D1):(Int) × (Int) × LvA × (Int)) (C8 _ (AGk (Aav B3 A6)).symm) (fun x=>[(12,(.int .i64 x.1))]) (fun x=>((A8.L.set 3 (aZ x.2.2.1 x.2.1)).set 2 (aB 93 Ae x.2.2.1)).set 1 (aB 3 Af [(.int .i64 x.2.2.2)])) A8 ⟨rfl,trivial⟩ ?_;rintro ⟨A9,Ee,Ef,Ba⟩ Hs Eg Ht Aa Bb Eh;unfold Aej at Bb;refine AGn (AGl (AGi (Aga rfl rfl (AGq (⟨_,rfl,fun Bc=>?_,fun Bc=>?_⟩)))))
    ·refine AGx (q_t (AGn (AGo (AXm (AGi (AGi (AGi ?_)))))));obtain ⟨Hu,Ca,Ei⟩:=AGm (AT0 Bb Bc);refine Aq4 AVl rfl (Aa.o p0) rfl Ca fun Hv Ej=>?_;obtain ⟨Cb,Ek,El⟩:=(Aa.o p0).cells Ej Ca;have Be:=Aa.az Ek;refine Afm (c:=cZ) AT6 rfl (Be.z p0) (fun j u hu=>(El j u hu)) (AGi ?_);obtain ⟨Em,En⟩:=ifN Ei;refine AYt rfl rfl Em ?_;obtain ⟨Eo,Ep,Er⟩:=AGm En;refine Ap3 (l:=[(.agg (Cb).toArray),(.int .i64 (w64 (1 * 2 ^ Int.toNat A9)))]) (cl:=[(.pointer (some ⟨Ae,0,none⟩)),(.pointer (some ⟨Af,0,none⟩))]) (K':=(fun xr h'=> ∃ x:(Bool) × (Int) × LvA × (Int),(x.1,x.2.1,x.2.2.2)=Eo/\xr=(.bool x.1)/\Kst h h' (((Be.L.set 4 (aZ x.2.2.1 x.2.1)).set 3 (aB 93 Ae x.2.2.1)).set 2 (aB 3 Af [(.int .i64 x.2.2.2)])))) trivial rfl rfl ?_ fun Hw Hx Es=>?_
     ·refine cwf (l:=[_,_,_,_]) Tryz.func156 rfl rfl (AGl (AYn Be Cb fun Hy Hz Ia Ad=>ATx (Ach (Ad.z p5) (Ad.b p4) (Ach (Ad.z p1) (Ad.b p0) ?_))));obtain ⟨⟨Et,Ib,Ic⟩,Eu,Cd⟩:=AGm Ep;dsimp only at Cd;refine Afg rfl (Apd (Ad.z p5).2 (Ad.z p1).2 Eu) fun Id Ie Ev Ew=>?_;obtain ⟨If,Ih,rfl,Ey,Ez⟩:=Ew;obtain ⟨Fa,rfl,Fb⟩:=Ey.cs;obtain ⟨Ii,rfl,Fc⟩:=Ez.cs;refine AGi (AUe rfl rfl (AUe rfl rfl (AUe rfl rfl (AVt (((Ad.e Ev).az Fb).az Fc) [.bool false,.slice none 0 0] AW9 fun Ij Ik Il Fd=>AVt Fd [.bool false,.slice none 0 0] AW9 fun Im Fe Io Ce=>AYa Ce p1 (AS6 Fe) (Ce.z p3) fun Ff Cf=>AYa Cf p0 (AS6 Ff) (Cf.z p2) fun Ip Av=>AGw (AGn (AGl (Ach (Av.z p2) (Av.b p0) ?_)))))));obtain ⟨Iq,Fg,Cg⟩:=AGm Cd;refine AXx Av (Aqe (Av.z p2).2 Fg) fun Ir Is Ai=>AXa rfl rfl (AGq (⟨_,rfl,fun Bf=>?_,fun Bf=>?_⟩))
      ·refine AGl (AGw (AGy (ATb (⟨_,AS1,((false,Ee,Ef,Ba):(Bool) × (Int) × LvA × (Int)),?_,rfl,?_⟩))))
       ·exact AGk (AT0 Cg Bf)
       ·exact Ai.sel [5,6,7,8,9,10] AGj
      ·refine AGx (q_t (AGl (Ach (Ai.z p3) (Ai.b p1) (AYa Ai p8 (Ai.z p9) (Ai.z p3) fun It Bg=>AZf (ATz AT2 rfl ((Bg.b p7).cell (i:=0) rfl) (AGi (ATj rfl rfl (Agr [(.int .i64 (w64 (Ba + (w64 (1 * 2 ^ Int.toNat A9)))))] AT2 rfl rfl rfl (Bg.b p7) (Nat.le_of_ble_eq_true rfl) rfl fun Iu Fh Fi=>AZf ?_))))))));refine AGw (AGy (⟨_,AS1,((true,Et,Fa,(w64 (Ba + (w64 (1 * 2 ^ Int.toNat A9))))):(Bool) × (Int) × LvA × (Int)),?_,rfl,?_⟩))
       ·exact AGk (AT1 Cg Bf)
       ·exact (Bg.sb p7 Fi Fh rfl).sel [5,6,7,8,3,10] AGj
     obtain ⟨⟨Iv,Iw,Ix,Iy⟩,Fj,rfl,Fk⟩:=Es;refine ⟨trivial,?_⟩;subst Fj;refine ATf (q_b (q_t (AS3 (AGi (AVe rfl rfl (AGw ?_))))));exact ⟨(_,_,_,_),(AGk Er).symm,Fk.sel [1,2,3,4,5] AGj,rfl,trivial⟩
    ·refine AS9 (ATa (ATa (AT9 (q_t (AGn (AXm (ATz AT2 rfl ((Aa.b p1).cell (i:=0) rfl) (Ach (Aa.z p3) (Aa.b p2) (ATi (AYa Aa p4 (AS6 Eg) (Aa.z p3) fun Iz Aw=>AGw (AGy ?_)))))))))));obtain rfl:=AGk (Eh _ (AGk (AT1 Bb Bc)).symm);exact ⟨_,Are AT6 (cZ.klen (Aw.z p3)) rfl (Aw.b p4),Aw.x,_,rfl,(Aw.z p3).2⟩
noncomputable def AY1 (fuel:Nat) (a3:LiI) (a5:Int):Option Int:=
  ((Abv fuel a3).bind fun (x6,x7)=>((Ah5 fuel x6).bind fun (Ae,Ag)=>((Abw fuel Ae a5).bind fun (Ab,Ah,Ai)=>(if a5=2 then (some (w64 (Ab + 3))) else (some (w64 (Ab + 1)))))))
theorem Agu {fuel:Nat} {h:AGs} {Ad:Value} {a3:LiI} {a5 r:Int} (H2:AXq (cI .i64) h Ad a3) (HO:Am5 h) (hp:AY1 fuel a3 a5=some r):ATt Tryz.prog 70 #[Ad,(.int .i64 a5)] h (fun x h'=>Ext h h'/\x= .int .i64 r):=by
 unfold AY1 at hp;refine cwf (l:=[_,_]) Tryz.func70 rfl rfl (AGl (ATx (AGi ?_)));have K0:=Kst.k0 h;obtain ⟨⟨x6,x7⟩,Aq,Ah⟩:=AGm hp;dsimp only at Ah;refine Afg rfl (Amg (H2.ext K0.x) Aq) fun Bf Bg Ar Au=>?_;obtain ⟨Bh,Bi,Bj,Bl,rfl,Av,Aw⟩:=Au;refine AGi (AUe rfl rfl (AUe rfl rfl (ATi (ATx (AGi ?_)))));have Ai:=K0.no2 Ar Aw Av;obtain ⟨⟨Bm,Bn⟩,Ax,Aj⟩:=AGm Ah;dsimp only at Aj;refine Afg rfl (Ap1 (Ai.o2 p0).rd Ax) fun Bo Bp Ay Az=>?_;obtain ⟨Bq,rfl,A3⟩:=Az;obtain ⟨Br,rfl,A4⟩:=A3.cs;refine AGi (AUe rfl rfl (AUe rfl rfl (AVt ((Ai.e Ay).az A4) [.bool false,.slice none 0 0] AW9 fun Bt A5 Bu Ak=>AYa Ak p0 (AS6 A5) (Ak.z p1) fun Bv Aa=>ATx (Ach (Aa.z p1) (Aa.b p0) (AGi ?_)))));obtain ⟨⟨Bw,Bx,By⟩,A6,Ab⟩:=AGm Aj;dsimp only at Ab;refine Afg rfl (Ami (Aa.z p1).2 (HO.ext Aa.x) A6) fun Bz B1 A7 A8=>?_;obtain ⟨B3,rfl,A9⟩:=A8;obtain ⟨B4,rfl,Ba⟩:=A9.cs;refine AGi (AUe rfl rfl (AUe rfl rfl (AUe rfl rfl (AVt ((Aa.e A7).az Ba) [.bool false,.slice none 0 0] AW9 fun B5 Bb B6 Am=>ATi (AYa Am p0 (AS6 Bb) (Am.z p1) fun B7 Ao=>AGw (AGn (AGl (AGi (AV2 rfl rfl (AGq (⟨_,rfl,fun Ac=>?_,fun Ac=>?_⟩)))))))))))
 ·refine AGl (AGi (ATj rfl rfl (AGw (AGy (ATb ?_)))));obtain rfl:=AGk (AT0 Ab Ac);exact ⟨_,AS1,Ao.x,rfl⟩
 ·refine AGx (q_t (AGl (AGi (ATj rfl rfl (AGw (AGy ?_))))));obtain rfl:=AGk (AT1 Ab Ac);exact ⟨_,AS1,Ao.x,rfl⟩
noncomputable def AWs (fuel:Nat) (a3:LiI) (a5:Int):Option (Int × Int):=
  ((Akb fuel a3).bind fun x6=>(if (!x6)=true then (some (0,6)) else (if ¬ a5=2 then ((Ars fuel a5).bind fun Ad=>(if (!Ad)=true then (some (0,20)) else ((AY1 fuel a3 a5).bind fun Ae=>(some (Ae,0))))) else ((AY1 fuel a3 a5).bind fun Af=>(some (Af,0))))))
theorem Agv {fuel:Nat} {h:AGs} {Ah:Value} {a3:LiI} {a5:Int} {r:(Int × Int)} (H2:AXq (cI .i64) h Ah a3) (HO:Am5 h) (hp:AWs fuel a3 a5=some r):ATt Tryz.prog 35 #[Ah,(.int .i64 a5)] h (fun x h'=>Ext h h'/\x= .tuple #[.int .i64 r.1,.int .i64 r.2]):=by
 unfold AWs at hp;refine cwf (l:=[_,_]) Tryz.func35 rfl rfl (AGl (ATi (AGw (AGn (AGl (AGi ?_))))));have K0:=Kst.k0 h;obtain ⟨x6,Ap,Ak⟩:=AGm hp;refine AXx K0 (Arr (H2.ext K0.x) Ap) fun A3 E9 Aa=>AWp rfl (AGq (⟨_,rfl,fun Af=>?_,fun Af=>?_⟩))
 ·refine AGl (ATi (AGw (AGy (ATb ?_))));obtain rfl:=AGk (ifT Ak Af);exact ⟨_,AUm,Aa.x,rfl⟩
 ·refine AGx (q_t (AGn (AGl (AGi (AXa rfl rfl (AGi ?_))))));have Am:=Aav Ak Af;by_cases Ab: ¬ a5=2
  ·rw [decide_eq_true Ab];refine ATo 11 true (AGi (ATo 11 true ?_));obtain ⟨A5,Aq,Ao⟩:=AGm (ifT Am Ab);refine AXx Aa (Awk (HO.ext Aa.x) Aq) fun A6 A7 Ac=>ATo 11 true (AWp rfl (ATh rfl (AGq (⟨_,rfl,fun Ag=>?_,fun Ag=>?_⟩))))
   ·refine AGl (ATi (AGw (AGy (ATb ?_))));obtain rfl:=AGk (ifT Ao Ag);exact ⟨_,AUm,Ac.x,rfl⟩
   ·refine AGx (q_t (AGl (AGi (AGi ?_))));obtain ⟨A8,Ar,Au⟩:=AGm (Aav Ao Ag);refine AXx Ac (Agu (H2.ext Ac.x) (HO.ext Ac.x) Ar) fun A9 Ba Av=>ATi (AGw (AGy ?_));obtain rfl:=AGk Au;exact ⟨_,AUm,Av.x,rfl⟩
  ·rw [decide_eq_false Ab];refine Abq 11 false (ATq rfl (AGq (ATp rfl (AGx (q_t (AGl (AGi (AGi ?_))))))));obtain ⟨Bb,Aw,Ax⟩:=AGm (ifF Am Ab);refine AXx Aa (Agu (H2.ext Aa.x) (HO.ext Aa.x) Aw) fun Bc Be Ay=>ATi (AGw (AGy ?_));obtain rfl:=AGk Ax;exact ⟨_,AUm,Ay.x,rfl⟩
def Ad6 (fuel:Nat) (a2 Ab Ac:Int):Option ((Int × Int) ⊕ ((Int))):=
  (((if ¬ Ab=0 then (if a2≠0 then (if (Int.tmod Ab a2)=0 then (some (Sum.inl <| ())) else (some (Sum.inr <| ()))) else none) else (some (Sum.inr <| ()))):Option ((Unit) ⊕ (Unit))).bind (fun ex=>match ex with | Sum.inl _=>(if a2≠0 then (some (Sum.inl ((w64 (Int.tdiv Ab a2)),(w64 (Ac + 1))))) else none) | Sum.inr (_)=>(some (Sum.inr<| Ac))))
def Ab3 (fuel:Nat) (a1 a2:Int):Option Int:=
  ((iter (fun s=>Ad6 fuel a2 s.1 s.2) fuel (a1,0)).bind (fun (Ac:Int)=>(some Ac)))
def Ae1 (fuel:Nat) (a3:LiI):Option Int:=
  ((AWr fuel a3).bind fun x5=>((AUj fuel x5).bind fun Ac=>((At9 fuel Ac).bind fun (Ad,Ae)=>(some Ad))))
def Agg (fuel:Nat) (a3:LiI) (a5:Int):Option Int:=
  ((Ae1 fuel a3).bind fun x6=>((Ab3 fuel x6 a5).bind fun Ab=>(if a5=2 then (some (w64 (Ab + 3))) else (some (w64 (Ab + 1))))))
end Go.Proofs.YthbndcbclhkepaaGreatDoor
namespace Go.QF
theorem Azv:∀ {n:Nat} {m:Int} {F G:AS4},(∀ i j,i < n->j < n->Eqm m (F i j) (G i j))->Eqm m (det n F) (det n G):=by
 intro n m
 induction n with
 | zero=>intro _ _ _;rfl
 | succ n ih=>
   intro F G h
   refine Eqm.psum fun i hi=>?_
   exact ((Eqm.refl _ _).mul (h i 0 hi AGh)).mul (ih (F:=AXb i F) (G:=AXb i G) fun a b ha hb=>h _ _ (A35 ha) AGh)
end Go.QF
namespace Go.Proofs.YthbndcbclhkepaaGreatDoor
open Go Go.QF
end Go.Proofs.YthbndcbclhkepaaGreatDoor
namespace Go.QF
def A93 (n:Nat) (F:AS4) (i j:Nat):Int:=det n (AUu F i (dl j))
def Agp (n:Nat) (F:AS4) (i j:Nat):Int:=A93 n F j i
def tau (j c:Nat):Nat:=if c=j then j + 1 else if c=j + 1 then j else c
theorem Awl {n j:Nat} {F:AS4} (hj:j + 1 < n):det n (fun r c=>F r (tau j c))= -det n F:=by
 rw [<- Ahu (fun r c=>F r (tau j c)),<- Ahu F,<- Aip (F:=trF F) (a:=j) (b:=j + 1) AGh hj AGh];refine AUp fun c r hc hr=>?_;rw [Aeq];show F r (tau j c)=if c=j + 1 then F r j else if c=j then F r (j + 1) else F r c;unfold tau;by_cases h1:c=j + 1
 ·subst h1;simp
 ·by_cases h2:c=j
  ·subst h2;simp
  ·simp [h1,h2]
theorem Aer {f:Nat->Int} {n a:Nat} (ha:a < n) (h:∀ i,i < n->i≠a->f i=0):psum f n=f a:=by
 rw [ATu (g:=fun i=>if i=a then f a else 0) (fun k hk=>?_),Aco ha (fun i hi=>if_neg hi),if_pos rfl];by_cases e:k=a
 ·subst e;rw [if_pos rfl]
 ·rw [if_neg e,h k hk e]
theorem A7l {n:Nat} {F:AS4} {i j:Nat} (hi:i < n) (hj:j < n):psum (fun k=>F i k * A93 n F j k) n=if i=j then det n F else 0:=by
 have h:=Ark (F:=F) hj (F i) dl n
 have e:det n (AUu F j fun q=>psum (fun k=>F i k * dl k q) n)=det n (AUu F j (F i)):=AUp fun r c _ hc=>by
   rw [ATy,ATy]
   split
   · exact Ax6 (F:=F) (i:=i) hc
   · rfl
 unfold A93;rw [<- h,e];split
 ·subst_vars
  refine AUp fun r c _ _=>?_;rw [ATy];split
  ·subst_vars;rfl
  ·rfl
 ·rename_i hij;refine Afq hi hj hij ?_;funext c;rw [ATy,if_neg hij,ATy,if_pos rfl]
theorem Ape {n:Nat} {F:AS4} {i j:Nat} (hi:i < n) (hj:j < n):psum (fun k=>F i k * Agp n F k j) n=det n F * dl i j:=by
 unfold Agp;rw [A7l hi hj];unfold dl;split <;> simp
end Go.QF
namespace Go.Proofs.YthbndcbclhkepaaGreatDoor
open Go Go.QF
theorem Awm {fuel n r c:Nat} {F:AS4} {f g:Nat->Nat} (hr:r<=100) (hc:c<=100) (hf:100 < fuel) (hfn:∀ a,a < r->f a < n) (hgn:∀ a,a < c->g a < n):AWx fuel (tab n n F) (AVk r fun a=>(f a:Int)) (AVk c fun a=>(g a:Int))=some (tab r c fun a b=>F (f a) (g b)):=by
 apply ok_eq;unfold AWx;refine AGt (AUa (fun i s=>s=(AVk i fun a=>AVk c fun b=>F (f a) (g b),(i:Int))) r (Q:=(· =tab r c fun a b=>F (f a) (g b))) rfl AGh fun i s hi hI=>?_) fun y hy=>AGp hy;subst hI;unfold Abh;dsimp only;rw [AUh];refine ATr (fun h=>?_) (fun h=>AGp ?_)
 ·have hi':i < r:=by omega
  refine ATs (ATv hi') rfl (AGt (AUa (fun j s=>s=(AVk j fun b=>F (f i) (g b),(j:Int))) c (Q:=(· =AVk c fun b=>F (f i) (g b))) rfl AGh fun j s hj hJ=>?_) fun e he=>AU3 (by rw [AUh];omega) (AGp ⟨hi',?_⟩))
  ·subst hJ;unfold Abg;dsimp only;rw [AUh,AUh];refine ATr (fun h2=>?_) (fun h2=>AGp ?_)
   ·have hj':j < c:=by omega
    refine ATs (ATv hj') rfl (ATs (AT7 (hfn i hi')) rfl (ATs (ATv (hgn j hj')) rfl (AU3 AGh (AGp ⟨hj',?_⟩))));rw [wk AGh,<- Agz];rfl
   ·obtain rfl:j=c:=by omega
    rfl
  ·subst he;rw [wk AGh,<- Agz];rfl
 ·obtain rfl:i=r:=by omega
  rfl
theorem Ata {fuel n:Nat} {F:AS4} (hn:1<=n) (Ad:n<=16) (hf:100 < fuel):AWw fuel (tab n n F)=some ((n:Int),true):=by
 apply ok_eq;unfold AWw;refine AGt (Q:=(· =((n:Int),(n:Int),true))) ?_ fun e he=>?_
 ·unfold AVh;rw [AT5];refine AGt (Q:=fun ex=>match ex with | .inl _=>False | .inr _=>True) (ATr (fun h=>by omega) fun h=>ATr (fun h2=>by omega) fun h2=>AGp trivial) fun ex hex=>?_
  cases ex with
  | inl e=>exact hex.elim
  | inr u=>
    dsimp only
    refine AGt (AUa (fun i (s:Int)=>s=i) n (Q:=fun ex=>match ex with | .inl _=>False | .inr _=>True) rfl AGh fun i s hi hI=>?_) fun ex hex=>?_
    · subst hI
      unfold AY3
      rw [AT5]
      refine ATr (fun h=>ATs (AT7 AGh) rfl ?_) fun h=>AGp trivial
      rw [AUh]
      refine ATr (fun h2=>by omega) fun h2=>ATr (fun h3=>by omega) fun h3=>ATs (n:=0) (AT7 AGh) rfl (ATr (fun h4=>?_) fun h4=>AGp ⟨AGh,wk AGh⟩)
      rw [AUh] at h4;omega
    · cases ex with
      | inl e=>exact hex.elim
      | inr u=>exact ATs (n:=0) (AT7 AGh) rfl (AGp (by rw [AUh]))
 ·subst he;dsimp only;exact ATr (fun h=>by cases h) fun _=>ATr (fun h=>absurd rfl h) fun _=>AGp rfl
end Go.Proofs.YthbndcbclhkepaaGreatDoor
namespace Go.QF
def Adp (n:Nat) (A:AS4):Prop:= ∀ i j,i < n->j < n->A i j=A j i
def Ae6 (n:Nat) (A:AS4):Prop:= ∀ k,k<=n->0 < det k A
theorem Agh {k i r n:Nat} (hk:k<=n) (hi:i < n):bro k i r < n:=by unfold bro;split <;> omega
theorem Ayd {n k:Nat} {A:AS4} (hs:Adp n A) (hk:k<=n) {i j:Nat} (hi:i < n) (hj:j < n):Mn k A i j=Mn k A j i:=by
 unfold Mn;rw [<- Ahu];refine AUp fun r c _ _=>?_;exact hs _ _ (Agh hk hi) (Agh hk hj)
theorem Aye {k:Nat} (A:AS4) {i:Nat} (j:Nat) (hi:i < k):Mn k A i j=0:=by
 unfold Mn;refine Afq (a:=i) (b:=k) AGh AGh AGh ?_;funext c;unfold bro;simp [hi]
def bil (n k:Nat) (A:AS4) (x y:Nat->Int):Int:=psum (fun i=>psum (fun j=>Mn k A i j * x i * y j) n) n
def lin (n k:Nat) (A:AS4) (x:Nat->Int):Int:=psum (fun j=>Mn k A k j * x j) n
theorem A1p (f g:Nat->Int) (n:Nat):psum (fun i=>psum (fun j=>f i * g j) n) n=psum f n * psum g n:=by
 rw [ATu (g:=fun i=>psum g n * f i) (fun i _=>by rw [AX2,Int.mul_comm]),AX2,Int.mul_comm]
theorem BCg {n k:Nat} {A:AS4} (hs:Adp n A) (hk:k < n) (h0:det k A≠0) (x y:Nat->Int):det (k + 1) A * bil n k A x y=lin n k A x * lin n k A y + det k A * bil n (k + 1) A x y:=by
 unfold bil;rw [<- AX2,<- AX2];have e1:lin n k A x * lin n k A y=psum (fun i=>psum (fun j=>Mn k A k i * x i * (Mn k A k j * y j)) n) n:=(A1p (fun i=>Mn k A k i * x i) (fun j=>Mn k A k j * y j) n).symm;rw [e1,<- Ado];refine ATu fun i hi=>?_;rw [<- AX2,<- AX2,<- Ado];refine ATu fun j hj=>?_;have h:=Amz (k:=k) (A:=A) h0 i j;rw [Aca,Ayd hs AGh hi hk] at h;have h2:det (k + 1) A * Mn k A i j=Mn k A k i * Mn k A k j + det k A * Mn (k + 1) A i j:=by omega
 grind
theorem A7m (n:Nat) (A:AS4) (x y:Nat->Int):bil n n A x y=0:=by
 unfold bil;rw [ATu (g:=fun _=>0) fun i hi=>?_]
 ·exact Ah9 n
 ·rw [ATu (g:=fun _=>0) fun j _=>by rw [Aye A j hi];simp];exact Ah9 n
theorem Air {n:Nat} {A:AS4} (hs:Adp n A) (hp:Ae6 n A) (x:Nat->Int):∀ d k,k + d=n->0<=bil n k A x x:=by
 intro d
 induction d with
 | zero=>
     intro k hk;obtain rfl:k=n:=by omega
     rw [A7m];exact Int.le_refl _
 | succ d ih=>
   intro k hk
   have h1:=ih (k + 1) AGh
   have h2:=hp k AGh
   have h3:=hp (k + 1) AGh
   have h4:=BCg hs (show k < n by omega) AGh x x
   have h5:0<=lin n k A x * lin n k A x:=by
     rcases Int.le_total 0 (lin n k A x) with h | h
     · exact Int.mul_nonneg h h
     · exact Int.mul_nonneg_of_nonpos_of_nonpos h h
   have h6:=Int.mul_nonneg (Int.le_of_lt h2) h1
   exact Int.nonneg_of_mul_nonneg_right AGh h3
theorem Aul {n k:Nat} {A:AS4} (a b:Int) (x y z:Nat->Int):bil n k A (fun i=>a * x i + b * y i) z=a * bil n k A x z + b * bil n k A y z:=by
 unfold bil;rw [<- AX2,<- AX2,<- Ado];refine ATu fun i _=>?_;rw [<- AX2,<- AX2,<- Ado];exact ATu fun j _=>by grind
theorem Aum {n k:Nat} {A:AS4} (hs:Adp n A) (hk:k<=n) (x y:Nat->Int):bil n k A x y=bil n k A y x:=by
 unfold bil;rw [Amx];refine ATu fun j hj=>ATu fun i hi=>?_;rw [Ayd hs hk hi hj];grind
theorem A4o {n k:Nat} {A:AS4} (hs:Adp n A) (hp:Ae6 n A) (hk:k<=n) (x y:Nat->Int):bil n k A x y * bil n k A x y<=bil n k A x x * bil n k A y y:=by
  obtain ⟨p,hpq⟩:∃ p,bil n k A x y=p:=⟨_,rfl⟩;obtain ⟨q,hq⟩:∃ q,bil n k A x x=q:=⟨_,rfl⟩;obtain ⟨r,hr⟩:∃ r,bil n k A y y=r:=⟨_,rfl⟩;have hyx:bil n k A y x=p:=by rw [Aum hs hk];exact hpq
  have key:∀ a b:Int,0<=a * (a * q + b * p) + b * (a * p + b * r):=fun a b=>by
    have h:=Air hs hp (fun i=>a * x i + b * y i) (n - k) k AGh;rw [Aul,Aum hs hk x (fun i=>a * x i + b * y i),Aul,Aum hs hk y (fun i=>a * x i + b * y i),Aul,hpq,hq,hr,hyx] at h;exact h
  rw [hpq,hq,hr];have hq0:0<=q:=hq ▸ Air hs hp x (n - k) k AGh
  rcases Int.lt_or_eq_of_le hq0 with h | h
  · have h1:=key p (-q);have e:p * (p * q + -q * p) + -q * (p * p + -q * r)=q * (q * r - p * p):=by grind
    rw [e] at h1;have:=Int.nonneg_of_mul_nonneg_right h1 h;omega
  · subst h;have h1:=key (-(r + 1)) p;have h2:=key 1 0;have e: -(r + 1) * (-(r + 1) * 0 + p * p) + p * (-(r + 1) * p + p * r)= -((r + 2) * (p * p)):=by grind
    rw [e] at h1;have hr0:0<=r:=hr ▸ Air hs hp y (n - k) k AGh
    have hpp:0<=p * p:=by
      rcases Int.le_total 0 p with h | h
      · exact Int.mul_nonneg h h
      · exact Int.mul_nonneg_of_nonpos_of_nonpos h h
    have:0<=r * (p * p):=Int.mul_nonneg hr0 hpp;have e2:(r + 2) * (p * p)=r * (p * p) + 2 * (p * p):=by grind
    rw [Int.zero_mul];omega
theorem Aoh {n k:Nat} {A:AS4} {i j:Nat} (hi:i < n) (hj:j < n):bil n k A (dl i) (dl j)=Mn k A i j:=by
 unfold bil;rw [Aer hi (fun a ha hne=>?_),Aer hj (fun b hb hne=>?_)]
 ·simp [dl]
 ·unfold dl;rw [if_neg (fun h:j=b=>hne h.symm)];simp
 ·rw [ATu (g:=fun _=>0) fun b _=>by unfold dl;rw [if_neg (fun h:i=a=>hne h.symm)];simp];exact Ah9 n
theorem Apf {n k:Nat} {A:AS4} (hs:Adp n A) (hp:Ae6 n A) (hk:k<=n) {i j:Nat} (hi:i < n) (hj:j < n):Mn k A i j * Mn k A i j<=Mn k A i i * Mn k A j j:=by
 have:=A4o hs hp hk (dl i) (dl j);rwa [Aoh hi hj,Aoh hi hi,Aoh hj hj] at this
theorem Apg {n k:Nat} {A:AS4} (hs:Adp n A) (hp:Ae6 n A) (hk:k<=n) {i:Nat} (hi:i < n):0<=Mn k A i i:=by
 have:=Air hs hp (dl i) (n - k) k AGh;rwa [Aoh hi hi] at this
theorem Aun {n k:Nat} {A:AS4} (hs:Adp n A) (hp:Ae6 n A) (hk:k < n) {i:Nat} (hi:i < n):det (k + 1) A * Mn k A i i=Mn k A i k * Mn k A i k + det k A * Mn (k + 1) A i i:=by
 have h:=Amz (k:=k) (A:=A) (by have:=hp k AGh;omega) i i;rw [Aca,<- Ayd hs AGh hi hk] at h;omega
theorem A4p {n:Nat} {A:AS4} (hs:Adp n A) (hp:Ae6 n A) {i:Nat} (hi:i < n):∀ k,k<=n->Mn k A i i<=det k A * A i i:=by
 intro k
 induction k with
 | zero=>intro _;rw [Agf];simp [det]
 | succ k ih=>
   intro hk
   have h1:=ih AGh
   have h2:=Aun hs hp (show k < n by omega) hi
   have h3:0<=Mn k A i k * Mn k A i k:=by
     rcases Int.le_total 0 (Mn k A i k) with h | h
     · exact Int.mul_nonneg h h
     · exact Int.mul_nonneg_of_nonpos_of_nonpos h h
   have h4:=hp k AGh
   have h5:=hp (k + 1) AGh
   have h6:det (k + 1) A * Mn k A i i<=det (k + 1) A * (det k A * A i i):=Int.mul_le_mul_of_nonneg_left h1 AGh
   have h7:det k A * Mn (k + 1) A i i<=det k A * (det (k + 1) A * A i i):=by
     have e:det (k + 1) A * (det k A * A i i)=det k A * (det (k + 1) A * A i i):=by grind
     omega
   exact Int.le_of_mul_le_mul_left h7 h4
theorem A4q {n:Nat} {A:AS4} (hs:Adp n A) (hp:Ae6 n A) {B:Int} (hB:1<=B) (hA:∀ i,i < n->A i i<=B):∀ k,k<=n->det k A<=B ^ k:=by
  intro k;induction k with
  | zero=>intro _;simp [det]
  | succ k ih=>
    intro hk;have h1:=ih AGh;have h2:=A4p hs hp (show k < n by omega) k AGh;rw [Aca] at h2;have h3:=hp k AGh;have h4:det k A * A k k<=det k A * B:=Int.mul_le_mul_of_nonneg_left (hA k AGh) AGh;have h5:det k A * B<=B ^ k * B:=Int.mul_le_mul_of_nonneg_right h1 AGh;rw [Int.pow_succ];omega
theorem A7n {n:Nat} {A:AS4} (hs:Adp n A) (hp:Ae6 n A) (x:Nat->Int) {k:Nat} (hk:k < n):x k * x k<=Agp n A k k * bil n 0 A x x:=by
  have hd:=hp n (Nat.le_refl _)
  have hB:∀ y z:Nat->Int,bil n 0 A y z=psum (fun i=>y i * psum (fun j=>A i j * z j) n) n:=fun y z=>by
    unfold bil;refine ATu fun i _=>?_;rw [<- AX2];exact ATu fun j _=>by rw [Agf];grind
  have h1:∀ y:Nat->Int,bil n 0 A y (fun j=>Agp n A j k)=det n A * y k:=fun y=>by
    rw [hB,ATu (g:=fun i=>y i * (det n A * dl i k)) (fun i hi=>by rw [Ape hi hk])];rw [Aer hk (fun i _ hne=>by unfold dl;rw [if_neg hne];simp)];simp [dl,Int.mul_comm]
  have h2:=A4o hs hp (Nat.zero_le n) x (fun j=>Agp n A j k);rw [h1 x,h1 (fun j=>Agp n A j k)] at h2;have e1:det n A * x k * (det n A * x k)=det n A * (det n A * (x k * x k)):=by grind
  have e2:bil n 0 A x x * (det n A * Agp n A k k)=det n A * (Agp n A k k * bil n 0 A x x):=by grind
  rw [e1,e2] at h2;have h3:=Int.le_of_mul_le_mul_left h2 hd
  have h4:0<=x k * x k:=by
    rcases Int.le_total 0 (x k) with h | h
    · exact Int.mul_nonneg h h
    · exact Int.mul_nonneg_of_nonpos_of_nonpos h h
  have h5:1 * (x k * x k)<=det n A * (x k * x k):=Int.mul_le_mul_of_nonneg_right AGh h4;omega
def Aph (A:AS4) (i j:Nat) (c:Int):AS4:=AUu A i fun s=>A i s + c * A j s
def A4r (A:AS4) (i j:Nat) (c:Int):AS4:=trF (Aph (trF A) i j c)
def Aoi (A:AS4) (i j:Nat) (c:Int):AS4:=A4r (Aph A i j c) i j c
def swA (A:AS4) (j:Nat):AS4:=fun r s=>A (tau j r) (tau j s)
theorem A4t (l:Nat) (A:AS4) (r s:Nat):Mn l (trF A) s r=Mn l A r s:=by
 unfold Mn;rw [<- Ahu];rfl
theorem Awn {A:AS4} {i j k:Nat} {c:Int} (hij:j < i):det k (Aph A i j c)=det k A:=by
 rcases Nat.lt_or_ge i k with h | h
 ·exact Aeg h AGh AGh c
 ·refine AUp fun r s hr _=>?_;unfold Aph;rw [ATy,if_neg AGh]
theorem A4u {A:AS4} {i j k:Nat} {c:Int} (hij:j < i):det k (A4r A i j c)=det k A:=by
 unfold A4r;rw [Ahu,Awn hij,Ahu]
theorem Ag7 {A:AS4} {i j k:Nat} {c:Int} (hij:j < i):det k (Aoi A i j c)=det k A:=by
 unfold Aoi;rw [A4u hij,Awn hij]
theorem Auo {A:AS4} {i j l r s:Nat} {c:Int} (hij:j < i) (hr:l<=r):Mn l (Aph A i j c) r s=Mn l A r s + if l<=i/\r=i then c * Mn l A j s else 0:=by
 rcases Nat.lt_or_ge i l with h | h
 ·rw [if_neg AGh,Int.add_zero];unfold Mn;have e:=Aeg (n:=l + 1) (F:=fun a b=>A (bro l r a) (bro l s b)) (a:=i) (b:=j) AGh AGh AGh c;rw [<- e];refine AUp fun a b ha _=>?_;rw [ATy];unfold Aph;rw [ATy];have hbi:bro l r i=i:=by unfold bro;rw [if_pos h]
  have hbj:bro l r j=j:=by unfold bro;rw [if_pos AGh]
  by_cases ea:a=i
  ·subst ea;rw [hbi,if_pos rfl,if_pos rfl,hbj]
  ·rw [if_neg ea,if_neg];unfold bro;split <;> omega
 ·by_cases er:r=i
  ·subst er;rw [if_pos ⟨h,rfl⟩];unfold Mn;have e:=Ak9 (n:=l + 1) (F:=fun a b=>A (bro l r a) (bro l s b)) (r:=l) (fun b=>A r (bro l s b)) (fun b=>A j (bro l s b)) 1 c AGh
   have e1:det (l + 1) (fun a b=>Aph A r j c (bro l r a) (bro l s b))=det (l + 1) (AUu (fun a b=>A (bro l r a) (bro l s b)) l fun q=>1 * A r (bro l s q) + c * A j (bro l s q)):=by
     refine AUp fun a b ha _=>?_
     rw [ATy]
     unfold Aph
     rw [ATy]
     by_cases ea:a=l
     · subst ea
       rw [show bro a r a=r by unfold bro;rw [if_neg AGh],if_pos rfl,if_pos rfl,Int.one_mul]
     · rw [if_neg ea,if_neg]
       unfold bro;rw [if_pos AGh];omega
   have e2:det (l + 1) (AUu (fun a b=>A (bro l r a) (bro l s b)) l fun b=>A r (bro l s b))=det (l + 1) (fun a b=>A (bro l r a) (bro l s b)):=by
     refine AUp fun a b ha _=>?_
     rw [ATy]
     by_cases ea:a=l
     · subst ea;rw [if_pos rfl,show bro a r a=r by unfold bro;rw [if_neg AGh]]
     · rw [if_neg ea]
   have e3:det (l + 1) (AUu (fun a b=>A (bro l r a) (bro l s b)) l fun b=>A j (bro l s b))=det (l + 1) (fun a b=>A (bro l j a) (bro l s b)):=by
     refine AUp fun a b ha _=>?_
     rw [ATy]
     by_cases ea:a=l
     · subst ea;rw [if_pos rfl,show bro a j a=j by unfold bro;rw [if_neg AGh]]
     · rw [if_neg ea,show bro l r a=a by unfold bro;rw [if_pos AGh],show bro l j a=a by unfold bro;rw [if_pos AGh]]
   rw [e1,e,e2,e3,Int.one_mul]
  ·rw [if_neg (fun h=>er h.2),Int.add_zero];unfold Mn;refine AUp fun a b ha _=>?_;unfold Aph;rw [ATy,if_neg];unfold bro;split <;> omega
theorem A7o {A:AS4} {i j l r s:Nat} {c:Int} (hij:j < i) (hs:l<=s):Mn l (A4r A i j c) r s=Mn l A r s + if l<=i/\s=i then c * Mn l A r j else 0:=by
 unfold A4r;rw [A4t,Auo hij hs,A4t,A4t]
theorem A4v {A:AS4} {i j l r s:Nat} {c:Int} (hij:j < i) (hr:l<=r) (hs:l<=s):Mn l (Aoi A i j c) r s=Mn l A r s + (if l<=i/\r=i then c * Mn l A j s else 0) + if l<=i/\s=i then c * (Mn l A r j + if l<=i/\r=i then c * Mn l A j j else 0) else 0:=by
  unfold Aoi;rw [A7o hij hs,Auo hij hr,Auo hij hr]
theorem Aqg (A:AS4) (i j:Nat) (c:Int) (r s:Nat):Aoi A i j c r s=if s=i then (if r=i then A i i + c * A j i else A r i) + c * (if r=i then A i j + c * A j j else A r j) else if r=i then A i s + c * A j s else A r s:=by
 show AUu (trF (Aph A i j c)) i (fun q=>trF (Aph A i j c) i q + c * trF (Aph A i j c) j q) s r=_;rw [ATy];unfold trF Aph;by_cases h:s=i
 ·rw [if_pos h,if_pos h,ATy,ATy]
 ·rw [if_neg h,if_neg h,ATy]
theorem A7p {n:Nat} {A:AS4} {i j:Nat} {c:Int} (hi:i < n) (hj:j < n) (h:Adp n A):Adp n (Aoi A i j c):=by
 intro r s hr hs;rw [Aqg,Aqg];by_cases h1:r=i
 ·by_cases h2:s=i
  ·rw [h1,h2]
  ·rw [if_neg h2,if_pos h1,if_pos h1,if_neg h2,if_neg h2,h i s hi hs,h j s hj hs]
 ·by_cases h2:s=i
  ·rw [if_pos h2,if_neg h1,if_neg h1,if_neg h1,if_pos h2,h r i hr hi,h r j hr hj]
  ·rw [if_neg h2,if_neg h1,if_neg h1,if_neg h2,h r s hr hs]
theorem Azw {A:AS4} {j k:Nat} (hk:k≠j + 1):det k (swA A j)=det k A:=by
 rcases Nat.lt_or_ge (j + 1) k with h | h
 ·have e1:det k (swA A j)= -det k (fun r s=>A (tau j r) s):=Awl (F:=fun r s=>A (tau j r) s) h
  have e2:det k (fun r s=>A (tau j r) s)= -det k A:=by
    rw [<- Ahu (fun r s=>A (tau j r) s),<- Ahu A]
    exact Awl (F:=trF A) h
  rw [e1,e2];omega
 ·refine AUp fun r s hr hs=>?_;unfold swA tau;rw [if_neg AGh,if_neg AGh,if_neg AGh,if_neg AGh]
theorem Awo {A:AS4} {j:Nat}:det (j + 1) (swA A j)=Mn j A (j + 1) (j + 1):=by
 unfold Mn;refine AUp fun r s hr hs=>?_
 have e:∀ r,r < j + 1->tau j r=bro j (j + 1) r:=fun r hr=>by
   unfold tau bro
   by_cases h:r < j
   · rw [if_neg AGh,if_neg AGh,if_pos h]
   · rw [if_pos AGh,if_neg h]
 unfold swA;rw [e r hr,e s hs]
theorem A95 {n j:Nat} {A:AS4} (hj:j + 1 < n) (h:Adp n A):Adp n (swA A j):=fun r s hr hs=>by
  have e:∀ r,r < n->tau j r < n:=fun r hr=>by unfold tau;split <;> (try split) <;> omega
  exact h _ _ (e r hr) (e s hs)
theorem sq_nonneg (x:Int):0<=x * x:=by
 rcases Int.le_total 0 x with h | h
 ·exact Int.mul_nonneg h h
 ·exact Int.mul_nonneg_of_nonpos_of_nonpos h h
theorem Awp {x y:Int} (hy:0<=y) (h:x * x<=y * y): -y<=x/\x<=y:=by
 constructor
 ·rcases Int.lt_or_le x (-y) with h1 | h1
  ·have h2:0 < (-x - y) * (-x + y):=Int.mul_pos AGh AGh;have e:(-x - y) * (-x + y)=x * x - y * y:=by grind
   omega
  ·exact h1
 ·rcases Int.lt_or_le y x with h1 | h1
  ·have h2:0 < (x - y) * (x + y):=Int.mul_pos AGh AGh;have e:(x - y) * (x + y)=x * x - y * y:=by grind
   omega
  ·exact h1
theorem Amj {x y:Int} (h1: -y<=x) (h2:x<=y):x * x<=y * y:=by
 have h3:0<=(y - x) * (y + x):=Int.mul_nonneg AGh AGh;have e:(y - x) * (y + x)=y * y - x * x:=by grind
 omega
def SzF (A:AS4) (i j:Nat):Prop:= -(det (j + 1) A)<=2 * Mn j A i j/\2 * Mn j A i j<=det (j + 1) A
def LvF (A:AS4) (j:Nat):Prop:=3 * (det (j + 1) A * det (j + 1) A)<=4 * (det j A * det (j + 2) A + Mn j A (j + 1) j * Mn j A (j + 1) j)
def Ayf (A:AS4) (i:Nat) (K:Int):Prop:= ∀ l,l < i-> -(K * det (l + 1) A)<=Mn l A i l/\Mn l A i l<=K * det (l + 1) A
theorem Atb {n i:Nat} {A:AS4} {Dm p q:Int} (hs:Adp n A) (hp:Ae6 n A) (hi:i < n) (hD:∀ k,k<=n->det k A<=Dm) (p0:0<=p) (q0:0<=q) (hl:∀ l,l < i->q * (Mn l A i l * Mn l A i l)<=p * (det (l + 1) A * det (l + 1) A)):∀ d l:Nat,l + d=i->q * Mn l A i i<=(q + d * p) * (Dm * det l A):=by
  have hD0:1<=Dm:=by
    have:=hD 0 AGh;simpa [det] using this
  have hDl:∀ l k,l<=n->k<=n->det k A<=Dm * det l A:=fun l k h1 h2=>by
    have:=hp l h1;have h3:=hD k h2;have h4:Dm * 1<=Dm * det l A:=Int.mul_le_mul_of_nonneg_left AGh AGh;omega
  intro d;induction d with
  | zero=>
    intro l h;obtain rfl:l=i:=by omega
    rw [Aca];have h1:=Int.mul_le_mul_of_nonneg_left (hDl l (l + 1) AGh AGh) q0;simpa using h1
  | succ d ih=>
    intro l h;have h1:=ih (l + 1) AGh;have h2:=Aun hs hp (show l < n by omega) hi;have h3:=hl l AGh;have h4:=hp l AGh;have h5:=hp (l + 1) AGh;have h6:=Int.mul_le_mul_of_nonneg_left h1 (Int.le_of_lt h4)
    have h7:det (l + 1) A * (q * Mn l A i i)=q * (Mn l A i l * Mn l A i l) + det l A * (q * Mn (l + 1) A i i):=by
      have e1:det (l + 1) A * (q * Mn l A i i)=q * (det (l + 1) A * Mn l A i i):=by grind
      rw [e1,h2];grind
    have h8:=Int.mul_le_mul_of_nonneg_left (hDl l (l + 1) AGh AGh) p0;have h9:=Int.mul_le_mul_of_nonneg_left h8 (Int.le_of_lt h5);have e2:det (l + 1) A * (p * det (l + 1) A)=p * (det (l + 1) A * det (l + 1) A):=by grind
    have h10:det (l + 1) A * (q * Mn l A i i)<=det (l + 1) A * ((q + ((d + 1:Nat):Int) * p) * (Dm * det l A)):=by
      have e3:det (l + 1) A * ((q + ((d + 1:Nat):Int) * p) * (Dm * det l A))=det (l + 1) A * (p * (Dm * det l A)) + det l A * ((q + (d:Int) * p) * (Dm * det (l + 1) A)):=by
        rw [Int.natCast_add,Int.natCast_one];grind
      rw [e3];omega
    exact Int.le_of_mul_le_mul_left h10 h5
theorem Awr {n i:Nat} {A:AS4} {Dm:Int} (hn:n<=8) (hs:Adp n A) (hp:Ae6 n A) (hi:i < n) (hD:∀ k,k<=n->det k A<=Dm) (hz:∀ l,l < i->SzF A i l):A i i<=3 * Dm:=by
 have h:=Atb hs hp hi hD (p:=1) (q:=4) AGh AGh (fun l hl=>by
   have:=Amj (hz l hl).1 (hz l hl).2
   have e:2 * Mn l A i l * (2 * Mn l A i l)=4 * (Mn l A i l * Mn l A i l):=by grind
   omega) i 0 AGh
 rw [Agf] at h
 have Aa:1<=Dm:=by
   have:=hD 0 AGh;simpa [det] using this
 have h2:(4 + (i:Int) * 1) * (Dm * det 0 A)<=12 * Dm:=by
   have:(4 + (i:Int) * 1) * Dm<=12 * Dm:=Int.mul_le_mul_of_nonneg_right AGh AGh
   simpa [det] using this
 omega
theorem A1q {n i:Nat} {A:AS4} {Dm:Int} (hs:Adp n A) (hp:Ae6 n A) (hi:i < n) (hD:∀ k,k<=n->det k A<=Dm) (hA:A i i<=3 * Dm):Ayf A i (2 * Dm):=by
 intro l hl
 have Ad:1<=Dm:=by
   have:=hD 0 AGh;simpa [det] using this
 have h1:=Apf hs hp (show l<=n by omega) hi (show l < n by omega);rw [Aca] at h1;have h2:=A4p hs hp hi l AGh;have h3:=hp l AGh;have h4:=hp (l + 1) AGh
 have h5:det l A * A i i<=Dm * (3 * Dm):=by
   have a1:=Int.mul_le_mul_of_nonneg_left hA (Int.le_of_lt h3)
   have a2:=Int.mul_le_mul_of_nonneg_right (hD l AGh) (show (0:Int)<=3 * Dm by omega)
   omega
 have h6:Mn l A i i * det (l + 1) A<=Dm * (3 * Dm) * det (l + 1) A:=Int.mul_le_mul_of_nonneg_right AGh AGh;have h7:Dm * (3 * Dm) * (det (l + 1) A * 1)<=Dm * (3 * Dm) * (det (l + 1) A * det (l + 1) A):=Int.mul_le_mul_of_nonneg_left (Int.mul_le_mul_of_nonneg_left AGh AGh) (Int.mul_nonneg AGh AGh);have h8:0<=Dm * Dm * (det (l + 1) A * det (l + 1) A):=Int.mul_nonneg (sq_nonneg _) (sq_nonneg _);have h9:2 * Dm * det (l + 1) A * (2 * Dm * det (l + 1) A)=Dm * (3 * Dm) * (det (l + 1) A * det (l + 1) A) + Dm * Dm * (det (l + 1) A * det (l + 1) A):=by grind
 rw [Int.mul_one] at h7;exact Awp (Int.mul_nonneg AGh AGh) AGh
theorem Aws {A:AS4} {i:Nat} {K K':Int} (hp:∀ l,l<=i->0 < det l A) (hK:K<=K') (h:Ayf A i K):Ayf A i K':=fun l hl=>by
  have h1:=h l hl
  have h2:=hp (l + 1) AGh
  have h3:=Int.mul_le_mul_of_nonneg_right hK (Int.le_of_lt h2)
  omega
theorem Awt {a d:Int} (hd:0 < d): -d<=2 * (a + -((2 * a + d) / (2 * d)) * d)/\2 * (a + -((2 * a + d) / (2 * d)) * d)<=d:=by
  have h1:=Int.mul_ediv_add_emod (2 * a + d) (2 * d);have h2:=Int.emod_nonneg (2 * a + d) (show 2 * d≠0 by omega);have h3:=Int.emod_lt_of_pos (2 * a + d) (show 0 < 2 * d by omega);generalize (2 * a + d) / (2 * d)=q at *
  generalize (2 * a + d) % (2 * d)=r at *
  have e:2 * (a + -q * d)=2 * a - 2 * d * q:=by grind
  omega
theorem A7q {a d K:Int} (hd:0 < d) (h1: -(K * d)<=a) (h2:a<=K * d): -K<= -((2 * a + d) / (2 * d))/\ -((2 * a + d) / (2 * d))<=K:=by
 have h:=Awt (a:=a) hd;generalize -((2 * a + d) / (2 * d))=c at *;constructor
 ·rcases Int.lt_or_le c (-K) with h3 | h3
  ·have h4:(c + K + 1) * d<=0:=by
     have:=Int.mul_nonneg (show 0<= -(c + K + 1) by omega) (Int.le_of_lt hd)
     have e: -(c + K + 1) * d= -((c + K + 1) * d):=by grind
     omega
   have e:(c + K + 1) * d=c * d + K * d + d:=by grind
   omega
  ·exact h3
 ·rcases Int.lt_or_le K c with h3 | h3
  ·have h4:=Int.mul_nonneg (show 0<=c - K - 1 by omega) (Int.le_of_lt hd);have e:(c - K - 1) * d=c * d - K * d - d:=by grind
   omega
  ·exact h3
theorem Azx {A:AS4} {i j l:Nat} {c:Int} (hij:j < i) (hl:l < i):Mn l (Aoi A i j c) i l=Mn l A i l + c * Mn l A j l:=by
 rw [A4v hij AGh (Nat.le_refl _),if_pos ⟨AGh,rfl⟩,if_neg (fun h:l<=i/\l=i=>by omega)];omega
theorem Atc {A:AS4} {i j l r:Nat} {c:Int} (hij:j < i) (hr:r < i) (hl:l<=r):Mn l (Aoi A i j c) r l=Mn l A r l:=by
 rw [A4v hij hl (Nat.le_refl _),if_neg (fun h:l<=i/\r=i=>by omega),if_neg (fun h:l<=i/\l=i=>by omega)];omega
theorem A4w {A:AS4} {i j:Nat} {K c:Int} (hij:j < i) (hp:∀ l,l<=i->0 < det l A) (hK:0<=K) (h:Ayf A i K) (hz:∀ l,l < j->SzF A j l) (Ab: -K<=c) (Ac:c<=K):Ayf (Aoi A i j c) i (2 * K):=by
 intro l hl;rw [Ag7 hij,Azx hij hl];have h1:=h l hl;have h2:=hp (l + 1) AGh
 have hm: -(det (l + 1) A)<=Mn l A j l/\Mn l A j l<=det (l + 1) A:=by
   rcases Nat.lt_trichotomy l j with h3 | h3 | h3
   · have:=hz l h3;unfold SzF at this;omega
   · subst h3;rw [Aca];omega
   · rw [Aye A l h3];omega
 have h3: -(K * det (l + 1) A)<=c * Mn l A j l/\c * Mn l A j l<=K * det (l + 1) A:=by
   refine Awp (Int.mul_nonneg hK (Int.le_of_lt h2)) ?_
   have a1:=Amj Ab Ac
   have a2:=Amj hm.1 hm.2
   have a3:c * c * (Mn l A j l * Mn l A j l)<=K * K * (det (l + 1) A * det (l + 1) A):=Int.mul_le_mul a1 a2 (sq_nonneg _) (sq_nonneg _)
   have e1:c * Mn l A j l * (c * Mn l A j l)=c * c * (Mn l A j l * Mn l A j l):=by grind
   have e2:K * det (l + 1) A * (K * det (l + 1) A)=K * K * (det (l + 1) A * det (l + 1) A):=by grind
   omega
 have e:2 * K * det (l + 1) A=K * det (l + 1) A + K * det (l + 1) A:=by grind
 omega
theorem A4x {A:AS4} {i j k:Nat} {c:Int} (hk:k≠i):Aoi A i j c k k=A k k:=by
 rw [Aqg,if_neg hk,if_neg hk]
structure Aup (n:Nat) (Dm:Int) (A:AS4) (i t:Nat):Prop where
  sym:Adp n A
  pos:Ae6 n A
  dm:∀ k,k<=n->det k A<=Dm
  hi:i < n
  ht:t<=i
  rows:∀ k,k < n->k≠i->A k k<=3 * Dm
  row:t=0->A i i<=3 * Dm
  lamb:Ayf A i (2 ^ t * (2 * Dm))
  pre:∀ r l,l < r->r < i->SzF A r l
  prei:∀ l,l < i->i<=l + t->SzF A i l
  lov:∀ r,r + 1 < i->LvF A r
theorem Art {n:Nat} {Dm:Int} {A:AS4} (hn:0 < n) (hs:Adp n A) (hp:Ae6 n A) (hD:∀ k,k<=n->det k A<=Dm) (hr:∀ k,k < n->A k k<=3 * Dm):Aup n Dm A 0 0:=
  ⟨hs,hp,hD,hn,Nat.le_refl _,fun k hk _=>hr k hk,fun _=>hr 0 hn,fun l hl=>by omega,fun r l h1 h2=>by omega,fun l hl=>by omega,fun r hr=>by omega⟩
theorem A4y {n i t:Nat} {Dm:Int} {A:AS4} (h:Aup n Dm A i t):1<=Dm:=by
 have:=h.dm 0 AGh;simpa [det] using this
theorem Am1 {n i t:Nat} {Dm:Int} {A:AS4} (hn:n<=8) (h:Aup n Dm A i t) (hz:∀ l,l < i->SzF A i l):∀ k,k < n->A k k<=3 * Dm:=fun k hk=>by
  by_cases e:k=i
  · subst e;exact Awr hn h.sym h.pos h.hi h.dm hz
  · exact h.rows k hk e
theorem Aoj (t:Nat):(0:Int) < 2 ^ t:=Int.pow_pos AGh
theorem Aok {s t:Nat} (h:s<=t):(2:Int) ^ s<=2 ^ t:=by
 have:=Nat.pow_le_pow_right (show 0 < 2 by omega) h;have e:∀ k:Nat,(2:Int) ^ k=((2 ^ k:Nat):Int):=fun k=>by simp
 rw [e,e];omega
theorem A1r {n i t i' j:Nat} {Dm:Int} {A:AS4} (hn:n<=8) (h:Aup n Dm A i t) (hi':i' < n) (hj:j < i') (hbad: ¬ SzF A i' j)
    (hz:∀ r l,l < r->r < i'->SzF A r l) (hzi:∀ l,l < i'->j < l->SzF A i' l) (hl:∀ r,r + 1 < i'->LvF A r):
    Aup n Dm (Aoi A i' j (-((2 * Mn j A i' j + det (j + 1) A) / (2 * det (j + 1) A)))) i' (i' - j)/\i * 16 + t < i' * 16 + (i' - j):=by
  have hD1:=A4y h
  have hlt:i < i'∨i=i'/\t < i' - j:=by
    rcases Nat.lt_trichotomy i i' with h1 | h1 | h1
    · exact .inl h1
    · refine .inr ⟨h1,?_⟩
      rcases Nat.lt_or_ge t (i' - j) with h2 | h2
      · exact h2
      · subst h1;exact absurd (h.prei j hj AGh) hbad
    · exact absurd (h.pre i' j hj h1) hbad
  have hrows:∀ k,k < n->k≠i'->A k k<=3 * Dm:=fun k hk hne=>by
    rcases hlt with h1 | h1
    · exact Am1 hn h (fun l hl=>hz i l hl h1) k hk
    · exact h.rows k hk AGh
  have hK0:0<=2 ^ (i' - j - 1) * (2 * Dm):=Int.mul_nonneg (Int.le_of_lt (Aoj _)) AGh;have hp':∀ l,l<=i'->0 < det l A:=fun l hl=>h.pos l AGh
  have hlam:Ayf A i' (2 ^ (i' - j - 1) * (2 * Dm)):=by
    rcases hlt with h1 | h1
    · refine Aws hp' ?_ (A1q h.sym h.pos hi' h.dm (Am1 hn h (fun l hl=>hz i l hl h1) i' hi'));have:=Int.mul_le_mul_of_nonneg_right (Aok (Nat.zero_le (i' - j - 1))) (show (0:Int)<=2 * Dm by omega);simpa using this
    · obtain ⟨rfl,h1⟩:=h1;exact Aws hp' (Int.mul_le_mul_of_nonneg_right (Aok AGh) AGh) h.lamb
  have hd:=hp' (j + 1) AGh;obtain ⟨c1,c2⟩:=A7q hd (hlam j hj).1 (hlam j hj).2;have hrem:=Awt (a:=Mn j A i' j) hd;generalize hc: -((2 * Mn j A i' j + det (j + 1) A) / (2 * det (j + 1) A))=c at *
  refine ⟨⟨A7p hi' AGh h.sym,fun k hk=>by rw [Ag7 hj];exact h.pos k hk,fun k hk=>by rw [Ag7 hj];exact h.dm k hk,hi',AGh,fun k hk hne=>by rw [A4x hne];exact hrows k hk hne,fun h0=>by omega,?_,fun r l h1 h2=>?_,fun l h1 h2=>?_,fun r hr=>?_⟩,by have:=h.ht;have:=h.hi;omega⟩
  · have:=A4w hj hp' hK0 hlam (fun l hl=>hz j l hl hj) c1 c2
    have e:2 * (2 ^ (i' - j - 1) * (2 * Dm))=2 ^ (i' - j) * (2 * Dm):=by
      rw [show i' - j=i' - j - 1 + 1 by omega,Int.pow_succ];simp only [Nat.add_sub_cancel];grind
    rwa [e] at this
  · unfold SzF;rw [Ag7 hj,Atc hj h2 AGh];exact hz r l h1 h2
  · unfold SzF;rw [Ag7 hj,Azx hj h1]
    rcases Nat.lt_or_ge j l with h3 | h3
    · rw [Aye A l h3,Int.mul_zero,Int.add_zero];exact hzi l h1 h3
    · obtain rfl:l=j:=by omega
      rw [Aca];exact hrem
  · unfold LvF;rw [Ag7 hj,Ag7 hj,Ag7 hj,Atc hj AGh AGh];exact hl r hr
def Awu (n:Nat) (A:AS4):Int:=psum (fun k=>det k A) (n + 1)
theorem A7r {f g:Nat->Int} {n k:Nat} (hk:k < n) (hne:∀ l,l≠k->f l=g l) (h:f k < g k):psum f n < psum g n:=by
 induction n with
 | zero=>omega
 | succ n ih=>
   simp only [psum]
   rcases Nat.lt_or_ge k n with h1 | h1
   · have:=ih h1;rw [hne n AGh];omega
   · obtain rfl:k=n:=by omega
     rw [ATu (g:=g) fun i hi=>hne i AGh];omega
theorem A1s {n i t j:Nat} {Dm:Int} {A:AS4} (hn:n<=8) (h:Aup n Dm A i t) (hj:j + 1 < n) (hbad: ¬ LvF A j)
    (hz:∀ r l,l < r->r<=j + 1->SzF A r l) (hl:∀ r,r < j->LvF A r):
    Aup n Dm (swA A j) 0 0/\Awu n (swA A j) < Awu n A:=by
  have hij:i<=j + 1:=by
    rcases Nat.lt_or_ge (j + 1) i with h1 | h1
    · exact absurd (h.lov j h1) hbad
    · exact h1
  have hrest:=Am1 hn h (fun l hl=>hz i l hl hij);have h1:=Aun h.sym h.pos (show j < n by omega) hj;have p0:=h.pos j AGh;have p1:=h.pos (j + 1) AGh;have p2:=h.pos (j + 2) AGh;rw [show Mn (j + 1) A (j + 1) (j + 1)=det (j + 2) A from Aca _ _] at h1
  have hlt:Mn j A (j + 1) (j + 1) < det (j + 1) A:=by
    unfold LvF at hbad
    have h2:det (j + 1) A * (4 * Mn j A (j + 1) (j + 1)) < det (j + 1) A * (3 * det (j + 1) A):=by
      have e1:det (j + 1) A * (4 * Mn j A (j + 1) (j + 1))=4 * (det (j + 1) A * Mn j A (j + 1) (j + 1)):=by grind
      have e2:det (j + 1) A * (3 * det (j + 1) A)=3 * (det (j + 1) A * det (j + 1) A):=by grind
      omega
    have:=Int.lt_of_mul_lt_mul_left h2 (Int.le_of_lt p1);omega
  have hpos:0 < Mn j A (j + 1) (j + 1):=by
    have h3:=sq_nonneg (Mn j A (j + 1) j);have h4:=Int.mul_pos p0 p2;exact Int.pos_of_mul_pos_right (a:=det (j + 1) A) AGh p1
  have hdet:∀ k,det k (swA A j)=if k=j + 1 then Mn j A (j + 1) (j + 1) else det k A:=fun k=>by
    by_cases e:k=j + 1
    · subst e;rw [if_pos rfl,Awo]
    · rw [if_neg e,Azw e]
  refine ⟨Art AGh (A95 hj h.sym) (fun k hk=>?_) (fun k hk=>?_) (fun k hk=>?_),?_⟩
  · rw [hdet];split
    · exact hpos
    · exact h.pos k hk
  · rw [hdet];split
    · have:=h.dm (j + 1) AGh;omega
    · exact h.dm k hk
  · have e:tau j k < n:=by unfold tau;split <;> (try split) <;> omega
    exact hrest _ e
  · exact A7r (k:=j + 1) AGh (fun l hl=>by rw [hdet,if_neg hl]) (by rw [hdet,if_pos rfl];exact hlt)
end Go.QF
namespace Go.Proofs.YthbndcbclhkepaaGreatDoor
open Go Go.QF
theorem Auq (k m:Nat):AVk k (fun a=>((a:Nat):Int)) ++ [((m:Nat):Int)]=AVk (k + 1) fun a=>((bro k m a:Nat):Int):=by
 rw [<- Agz,AUd (g:=fun a=>((bro k m a:Nat):Int)) fun a ha=>by unfold bro;rw [if_pos ha]];unfold bro;rw [if_neg AGh]
theorem Azy {fuel k m:Nat} (hk:k<=100) (hf:100 < fuel):AXh fuel (k:Int) (m:Int)=some (AVk (k + 1) fun a=>((bro k m a:Nat):Int)):=by
 apply ok_eq;unfold AXh;refine AGt (AUa (fun i s=>s=(AVk i (fun a=>((a:Nat):Int)),((i:Nat):Int))/\i<=k) k (Q:=(· =AVk k fun a=>((a:Nat):Int))) ⟨rfl,Nat.zero_le _⟩ AGh fun i s hi hI=>?_) fun e he=>?_
 ·obtain ⟨rfl,hik⟩:=hI;unfold Ab2;dsimp only;refine ATr (fun h=>AU3 (by rw [AUh];omega) (AGp ⟨AGh,?_,AGh⟩)) (fun h=>AGp ?_)
  ·rw [wk AGh,Agz i fun a=>((a:Nat):Int)];simp
  ·obtain rfl:i=k:=by omega
   rfl
 ·subst he;refine AU3 (by rw [AUh];omega) (AGp ?_);exact Auq k m
theorem Aru {fuel n i j:Nat} {F:AS4} (hn:n<=8) (hi:i < n) (hj:j < n) (hb:∀ i j,i < n->j < n->(F i j).natAbs<=AYy) (hf:100 < fuel):AV3 fuel (tab n n F) (i:Int) (j:Int)=some (Mn j F i j):=by
 apply ok_eq;unfold AV3;refine AGt (AUa (fun q s=>s=(AVk q (fun a=>((a:Nat):Int)),AVk q (fun a=>((a:Nat):Int)),((q:Nat):Int))/\q<=j) j (Q:=(· =(AVk j (fun a=>((a:Nat):Int)),AVk j fun a=>((a:Nat):Int)))) ⟨rfl,Nat.zero_le _⟩ AGh fun q s hq hI=>?_) fun e he=>?_
 ·obtain ⟨rfl,hqj⟩:=hI;unfold Abk;dsimp only;refine ATr (fun h=>AU3 (by rw [AUh];omega) (AU3 (by rw [AUh];omega) (AGp ⟨AGh,?_,AGh⟩))) (fun h=>AGp ?_)
  ·rw [wk AGh,Agz q fun a=>((a:Nat):Int)];simp
  ·obtain rfl:q=j:=by omega
   rfl
 ·subst he;dsimp only;refine AU3 (by rw [AUh];omega) (AU3 (by rw [AUh];omega) ?_);rw [Auq,Auq];refine AGt (AUc (Awm (n:=n) AGh AGh hf (fun a ha=>Agh AGh hi) (fun a ha=>Agh AGh hj))) fun x hx=>?_;subst hx;refine AGt (AUc (Aoe AGh (fun a b ha Aa=>hb _ _ (Agh AGh hi) (Agh AGh hj)) AGh)) fun y hy=>AGp hy
theorem Am2 {fuel n k:Nat} {F:AS4} (hk:k<=n) (hn:n<=8):AU4 fuel (AVk n fun a=>det (a + 1) F) (k:Int)=some (det k F):=by
 apply ok_eq;unfold AU4;refine ATr (fun h=>?_) (fun h=>?_)
 ·obtain rfl:k=0:=by omega
  exact ⟨1,rfl,by simp [det]⟩
 ·obtain ⟨q,rfl⟩:∃ q,k=q + 1:=⟨k - 1,AGh⟩;refine ATs (n:=q) (ATv AGh) (by rw [wk AGh];omega) (AGp rfl)
theorem Atd {fuel n:Nat} {F:AS4} (Aa:1<=n) (hn:n<=8) (hb:∀ i j,i < n->j < n->(F i j).natAbs<=AYy) (hf:100 < fuel):AWj fuel (tab n n F)=some (AVk n fun a=>det (a + 1) F,true):=by
 apply ok_eq;unfold AWj;refine AGt (AUc (Ata Aa AGh hf)) fun x hx=>?_;subst hx;dsimp only;refine ATr (fun h=>absurd h AGj) (fun _=>AGt (AUa (fun k s=>s=(AVk k (fun a=>det (a + 1) F),((k:Nat):Int))/\k<=n) n (Q:=(· =AVk n fun a=>det (a + 1) F)) ⟨rfl,Nat.zero_le _⟩ AGh fun k s hk hI=>?_) fun e he=>AGp (by rw [he]));obtain ⟨rfl,hkn⟩:=hI;unfold Aa0;dsimp only;refine ATr (fun h=>?_) (fun h=>AGp ?_)
 ·have hk':k < n:=by omega
  refine AGt (AUc (Azy AGh hf)) fun r hr=>?_;subst hr;refine AGt (AUc (Azy AGh hf)) fun c hc=>?_;subst hc;refine AGt (AUc (Awm (n:=n) AGh AGh hf (fun a ha=>Agh AGh hk') (fun a ha=>Agh AGh hk'))) fun x hx=>?_;subst hx;refine AGt (AUc (Aoe AGh (fun a b ha Ab=>hb _ _ (Agh AGh hk') (Agh AGh hk')) AGh)) fun y hy=>?_;subst hy;refine AU3 (by rw [AUh];omega) (AGp ⟨AGh,?_,AGh⟩);rw [show (det (k + 1) fun a b=>F (bro k k a) (bro k k b))=det (k + 1) F from Aca k F,wk AGh,Agz k fun a=>det (a + 1) F];simp
 ·obtain rfl:k=n:=by omega
  rfl
theorem Aur (a b:Int):Aj5 a b<=0↔a<=b:=by unfold Aj5;split <;> (try split) <;> omega
theorem Arv {n j i l:Nat} {F:AS4} (hn:n<=8) (hi:i < n) (hl:l < n) (hj:j < n) (hb:∀ i j,i < n->j < n->(F i j).natAbs<=AYy):(Mn j F i l).natAbs<=dBd AYy 9:=by
 have e:Mn j F i l=Mn j (fun a b=>if a < n/\b < n then F a b else 0) i l:=by
   unfold Mn
   refine AUp fun a b ha Aa=>?_
   dsimp only
   rw [if_pos ⟨Agh AGh hi,Agh AGh hl⟩]
 rw [e];refine Nat.le_trans (Ax9 (m:=AYy) (fun a b=>?_) i l) (Aiq AGj AGh);split
 ·next h=>exact hb a b h.1 h.2
 ·exact Nat.zero_le _
theorem Amk {n k:Nat} {F:AS4} (hn:n<=8) (hk:k<=n) (hb:∀ i j,i < n->j < n->(F i j).natAbs<=AYy):(det k F).natAbs<=dBd AYy 9:=by
 rcases Nat.eq_zero_or_pos k with h | h
 ·subst h;simp only [det];decide
 ·obtain ⟨q,rfl⟩:∃ q,k=q + 1:=⟨k - 1,AGh⟩;rw [<- Aca q F];exact Arv hn AGh AGh AGh hb
theorem A7s {fuel n i j:Nat} {F:AS4} (hn:n<=8) (hi:i < n) (hj:j < n) (hb:∀ i j,i < n->j < n->(F i j).natAbs<=AYy) (hf:100 < fuel):AYo fuel (tab n n F) (AVk n fun a=>det (a + 1) F) (i:Int) (j:Int)=some (decide (2 * ((Mn j F i j).natAbs:Int)<=det (j + 1) F)):=by
 apply ok_eq;unfold AYo;refine AGt (Q:=(· =2)) ⟨2,if_pos AGh,rfl⟩ fun two h2=>?_;subst h2;refine AGt (AUc (Aru hn hi hj hb hf)) fun x hx=>?_;subst hx;refine AGt (AUc (a:=((Mn j F i j).natAbs:Int)) rfl) fun y hy=>?_;subst hy;refine AGt (AUc (Apa Azs (show (2:Int).natAbs<=dBd AYy (8 + 1) by decide) (by rw [Int.natAbs_natCast];exact Arv hn hi hj hj hb))) fun w hw=>?_;subst hw;rw [wk AGh];refine AGt (AUc (Am2 (k:=j + 1) AGh hn)) fun m hm=>?_;subst hm;refine AGt (AUc (a:=Aj5 (2 * ((Mn j F i j).natAbs:Int)) (det (j + 1) F)) rfl) fun c hc=>AGp ?_;subst hc;exact decide_eq_decide.2 (Aur _ _)
theorem Azz {F:AS4} {i j:Nat}:2 * ((Mn j F i j).natAbs:Int)<=det (j + 1) F↔SzF F i j:=by
 unfold SzF;omega
theorem psum_abs {f g:Nat->Int} {D:Nat}:∀ (n:Nat),(∀ a,a < n->(f a).natAbs<=D/\(g a).natAbs<=D)->(psum (fun a=>f a * g a) n).natAbs<=n * (D * D)
  | 0,_=>by simp [psum]
  | n + 1,h=>by
    have h1:=psum_abs n fun a ha=>h a AGh
    have h2:=Nat.mul_le_mul (h n AGh).1 (h n AGh).2
    rw [<- Int.natAbs_mul] at h2
    have e:(n + 1) * (D * D)=n * (D * D) + D * D:=by rw [Nat.add_mul,Nat.one_mul]
    simp only [psum]
    omega
theorem BBu {fuel n D:Nat} {f g:Nat->Int} (hn:n<=16) (hD:16 * (D * D) < AWv) (hb:∀ a,a < n->(f a).natAbs<=D/\(g a).natAbs<=D) (hf:100 < fuel):AZw fuel (AVk n f) (AVk n g)=some (psum (fun a=>f a * g a) n):=by
 apply ok_eq;unfold AZw;refine AGt (AUa (fun k s=>s=(((k:Nat):Int),psum (fun a=>f a * g a) k)/\k<=n) n (Q:=(· =psum (fun a=>f a * g a) n)) ⟨rfl,Nat.zero_le _⟩ AGh fun k s hk hI=>?_) fun e he=>AGp he;obtain ⟨rfl,hkn⟩:=hI;unfold Ada;dsimp only;rw [AUh];refine ATr (fun h=>?_) (fun h=>AGp ?_)
 ·have hk':k < n:=by omega
  have h1:=psum_abs k fun a ha=>hb a AGh;have h2:=Nat.mul_le_mul (hb k hk').1 (hb k hk').2;have h3:k * (D * D)<=16 * (D * D):=Nat.mul_le_mul_right _ AGh;have h4:1 * (D * D)<=16 * (D * D):=Nat.mul_le_mul_right _ AGh;refine ATs (ATv hk') rfl (ATs (ATv hk') rfl (AGt (Q:=(· =f k * g k)) ⟨_,if_pos AGh,rfl⟩ fun x hx=>?_));subst hx;refine AGt (Q:=(· =psum (fun a=>f a * g a) k + f k * g k)) ⟨_,if_pos ⟨AGh,by rw [Int.natAbs_mul];omega⟩,rfl⟩ fun y hy=>AGp ⟨AGh,?_,AGh⟩;subst hy;rw [wk AGh];simp [psum]
 ·obtain rfl:k=n:=by omega
  rfl
theorem Arw {fuel n:Nat} {F:AS4} (hn:1<=n) (Ad:n<=16) (hf:100 < fuel):AVh fuel (tab n n F)=some ((n:Int),(n:Int),true):=by
 apply ok_eq;unfold AVh;rw [AT5];refine AGt (Q:=fun ex=>match ex with | .inl _=>False | .inr _=>True) (ATr (fun h=>by omega) fun h=>ATr (fun h2=>by omega) fun h2=>AGp trivial) fun ex hex=>?_
 cases ex with
 | inl e=>exact hex.elim
 | inr u=>
   dsimp only
   refine AGt (AUa (fun i (s:Int)=>s=i) n (Q:=fun ex=>match ex with | .inl _=>False | .inr _=>True) rfl AGh fun i s hi hI=>?_) fun ex hex=>?_
   · subst hI
     unfold AY3
     rw [AT5]
     refine ATr (fun h=>ATs (AT7 AGh) rfl ?_) fun h=>AGp trivial
     rw [AUh]
     refine ATr (fun h2=>by omega) fun h2=>ATr (fun h3=>by omega) fun h3=>ATs (n:=0) (AT7 AGh) rfl (ATr (fun h4=>?_) fun h4=>AGp ⟨AGh,wk AGh⟩)
     rw [AUh] at h4;omega
   · cases ex with
     | inl e=>exact hex.elim
     | inr u=>exact ATs (n:=0) (AT7 AGh) rfl (AGp (by rw [AUh]))
theorem Agi {r c:Nat} {F G:AS4} (h:∀ i j,i < r->j < c->F i j=G i j):tab r c F=tab r c G:=by
 rw [Ahd,Ahd];exact AUd fun i hi=>AUd fun j hj=>h i j hi hj
def trS (F:AS4) (i j r c:Nat):Int:=if c < i∨c=i/\r < j then F c r else 0
theorem Az0 {fuel n:Nat} {F:AS4} (hn:1<=n) (Ad:n<=16) (hf:100 < fuel):AVy fuel (tab n n F)=some (tab n n (trF F),true):=by
 apply ok_eq;unfold AVy;refine AGt (AUc (Arw hn Ad hf)) fun x hx=>?_;subst hx;dsimp only;refine ATr (fun h=>absurd h AGj) fun _=>AGt (AUc (Aqb AGh AGh AGh)) fun O hO=>?_;subst hO;refine AGt (AUa (fun i s=>s=(((i:Nat):Int),tab n n (trS F i 0))/\i<=n) n (Q:=(· =tab n n (trF F))) ⟨?_,Nat.zero_le _⟩ AGh fun i s hi hI=>?_) fun e he=>AGp (by rw [he])
 ·rw [AYq n (0:Int),AYq];refine congrArg (Prod.mk (0:Int)) ?_;rw [Ahd];exact AUd fun r _=>AUd fun c _=>by unfold trS;rw [if_neg AGh]
 ·obtain ⟨rfl,hin⟩:=hI;unfold AZp;dsimp only;rw [AT5];refine ATr (fun h=>?_) (fun h=>AGp ?_)
  ·have hi':i < n:=by omega
   refine ATs (AT7 hi') rfl (AGt (AUa (fun j s=>s=(((j:Nat):Int),tab n n (trS F i j))/\j<=n) n (Q:=(· =tab n n (trS F (i + 1) 0))) ⟨rfl,Nat.zero_le _⟩ AGh fun j s hj hJ=>?_) fun e he=>AGp ⟨AGh,by rw [wk AGh,he];simp,AGh⟩);obtain ⟨rfl,hjn⟩:=hJ;unfold AZo;dsimp only;rw [AUh];refine ATr (fun h2=>?_) (fun h2=>AGp ?_)
   ·have hj':j < n:=by omega
    refine ATs (AT7 hj') rfl (ATs (AT7 hi') rfl (ATs (ATv hj') rfl (AGt (AUc (a:=F i j) rfl) fun y hy=>ATs (ATv hi') rfl (AGp ⟨AGh,?_,AGh⟩))));subst hy;rw [wk AGh,Arl];refine Prod.ext (by dsimp only;omega) (Agi fun r c hr hc=>?_);rw [ATy];unfold trS;by_cases h3:r=j
    ·rw [if_pos h3];by_cases h4:c=i
     ·rw [if_pos h4,if_pos AGh,h3,h4]
     ·rw [if_neg h4];by_cases h5:c < i
      ·rw [if_pos AGh,if_pos AGh,h3]
      ·rw [if_neg AGh,if_neg AGh]
    ·rw [if_neg h3];by_cases h5:c < i∨c=i/\r < j
     ·rw [if_pos h5,if_pos AGh]
     ·rw [if_neg h5,if_neg AGh]
   ·refine Agi fun r c hr hc=>?_;unfold trS;by_cases h5:c < i + 1
    ·rw [if_pos AGh,if_pos AGh]
    ·rw [if_neg AGh,if_neg AGh]
  ·refine Agi fun r c hr hc=>?_;unfold trS trF;rw [if_pos AGh]
def muS (H:AS4) (i j r c:Nat):Int:=if r < i∨r=i/\c < j then H r c else 0
theorem A4z {fuel n D:Nat} {F G:AS4} (hn:1<=n) (Ab:n<=16) (hD:16 * (D * D) < AWv) (hF:∀ i j,i < n->j < n->(F i j).natAbs<=D) (hG:∀ i j,i < n->j < n->(G i j).natAbs<=D) (hf:100 < fuel):AZx fuel (tab n n F) (tab n n G)=some (tab n n (AUt n F G),true):=by
 apply ok_eq;unfold AZx;refine AGt (AUc (Arw hn Ab hf)) fun x hx=>?_;subst hx;dsimp only;refine AGt (AUc (Az0 hn Ab hf)) fun x hx=>?_;subst hx;dsimp only;rw [AT5,AT5];refine AGt (Q:=fun ex=>match ex with | .inl _=>False | .inr _=>True) (ATr (fun h=>absurd h AGj) fun _=>ATr (fun h=>absurd h AGj) fun _=>ATr (fun h=>absurd rfl h) fun _=>AGp trivial) fun ex hex=>?_
 cases ex with
 | inl e=>exact hex.elim
 | inr u=>
   dsimp only
   rw [AT5]
   refine AGt (AUc (Aqb AGh AGh AGh)) fun O hO=>?_
   subst hO
   refine AGt (AUa (fun i s=>s=(((i:Nat):Int),tab n n (muS (AUt n F G) i 0))/\i<=n) n (Q:=(· =tab n n (AUt n F G))) ⟨?_,Nat.zero_le _⟩ AGh fun i s hi hI=>?_) fun e he=>AGp (by rw [he])
   · rw [AYq n (0:Int),AYq]
     refine congrArg (Prod.mk (0:Int)) ?_
     rw [Ahd]
     exact AUd fun r _=>AUd fun c _=>by unfold muS;rw [if_neg AGh]
   · obtain ⟨rfl,hin⟩:=hI
     unfold Adc
     dsimp only
     rw [AT5]
     refine ATr (fun h=>?_) (fun h=>AGp ?_)
     · have hi':i < n:=by omega
       refine AGt (AUa (fun j s=>s=(((j:Nat):Int),tab n n (muS (AUt n F G) i j))/\j<=n) n (Q:=(· =tab n n (muS (AUt n F G) (i + 1) 0))) ⟨rfl,Nat.zero_le _⟩ AGh fun j s hj hJ=>?_) fun e he=>AGp ⟨AGh,by rw [wk AGh,he];simp,AGh⟩
       obtain ⟨rfl,hjn⟩:=hJ
       unfold Adb
       dsimp only
       rw [AT5]
       refine ATr (fun h2=>?_) (fun h2=>AGp ?_)
       · have hj':j < n:=by omega
         refine ATs (AT7 hi') rfl (ATs (AT7 hi') rfl (ATs (AT7 hj') rfl (AGt (AUc (BBu (D:=D) Ab hD (fun a ha=>⟨hF i a hi' ha,hG a j ha hj'⟩) hf)) fun y hy=>ATs (ATv hj') rfl (AGp ⟨AGh,?_,AGh⟩))))
         subst hy
         rw [wk AGh,Arl]
         refine Prod.ext (by dsimp only;omega) (Agi fun r c hr hc=>?_)
         rw [ATy]
         unfold muS
         by_cases h3:r=i
         · rw [if_pos h3]
           by_cases h4:c=j
           · rw [if_pos h4,if_pos AGh,h3,h4];rfl
           · rw [if_neg h4]
             by_cases h5:c < j
             · rw [if_pos AGh,if_pos AGh,h3]
             · rw [if_neg AGh,if_neg AGh]
         · rw [if_neg h3]
           by_cases h5:r < i
           · rw [if_pos AGh,if_pos AGh]
           · rw [if_neg AGh,if_neg AGh]
       · refine Agi fun r c hr hc=>?_
         unfold muS
         by_cases h5:r < i + 1
         · rw [if_pos AGh,if_pos AGh]
         · rw [if_neg AGh,if_neg AGh]
     · refine Agi fun r c hr hc=>?_
       unfold muS
       rw [if_pos AGh]
theorem Az1 (a b:Int):Aj5 a b=0↔a=b:=by unfold Aj5;split <;> (try split) <;> omega
theorem A8v {fuel n:Nat} {F:AS4} (Ae:n<=16) (hf:100 < fuel):Ok (AVz fuel (tab n n F)) fun r=>r=true↔Adp n F:=by
 unfold AVz;refine AGt (AUa (fun i s=>s=((i:Nat):Int)/\i<=n/\ ∀ a b,b < a->a < i->F a b=F b a) n (Q:=fun ex=>match ex with | .inl e=>e=false/\¬ Adp n F | .inr _=>Adp n F) ⟨rfl,Nat.zero_le _,fun a b h1 h2=>by omega⟩ AGh fun i s hi hI=>?_) fun ex hex=>?_
 ·obtain ⟨rfl,hin,hs⟩:=hI;unfold AZr;rw [AT5];refine ATr (fun h=>?_) (fun h=>AGp ?_)
  ·have hi':i < n:=by omega
   refine AGt (AUa (fun j s=>s=((j:Nat):Int)/\j<=i/\ ∀ b,b < j->F i b=F b i) i (Q:=fun ex=>match ex with | .inl e=>e=false/\¬ Adp n F | .inr _=> ∀ b,b < i->F i b=F b i) ⟨rfl,Nat.zero_le _,fun b h1=>by omega⟩ AGh fun j s hj hJ=>?_) fun ex hex=>?_
   ·obtain ⟨rfl,hji,hb⟩:=hJ;unfold AZq;refine ATr (fun h2=>?_) (fun h2=>AGp ?_)
    ·have hj':j < i:=by omega
     refine ATs (AT7 hi') rfl (ATs (ATv AGh) rfl (ATs (AT7 AGh) rfl (ATs (ATv hi') rfl (AGt (AUc (a:=Aj5 (F i j) (F j i)) rfl) fun c hc=>?_))));subst hc;refine ATr (fun h3=>AGp ⟨rfl,fun h4=>h3 ((Az1 _ _).2 (h4 i j hi' AGh))⟩) (fun h3=>AGp ⟨AGh,by rw [wk AGh];simp,AGh,fun b Af=>?_⟩);rcases Nat.lt_or_ge b j with h4 | h4
     ·exact hb b h4
     ·obtain rfl:b=j:=by omega
      exact (Az1 _ _).1 (Classical.not_not.1 h3)
    ·obtain rfl:j=i:=by omega
     exact hb
   ·cases ex with
    | inl e=>exact AGp hex
    | inr u=>exact AGp ⟨AGh,by rw [wk AGh];simp,AGh,fun a b h1 h2=>by
        rcases Nat.lt_or_ge a i with h4 | h4
        · exact hs a b h1 h4
        · obtain rfl:a=i:=by omega
          exact hex b h1⟩
  ·obtain rfl:i=n:=by omega
   intro a b ha hb;rcases Nat.lt_trichotomy a b with h1 | h1 | h1
   ·exact (hs b a h1 hb).symm
   ·rw [h1]
   ·exact hs a b h1 ha
 ·cases ex with
  | inl e=>obtain ⟨rfl,h⟩:=hex;exact AGp ⟨fun h1=>Bool.noConfusion h1,fun h1=>absurd h1 h⟩
  | inr u=>exact AGp ⟨fun _=>hex,fun _=>rfl⟩
theorem A7t {fuel n D:Nat} {F G:AS4} (hn:1<=n) (Aa:n<=16) (hD:16 * (D * D) < AWv) (hF:∀ i j,i < n->j < n->(F i j).natAbs<=D) (hG:∀ i j,i < n->j < n->(G i j).natAbs<=D) (hH:∀ i j,i < n->j < n->(AUt n (trF G) F i j).natAbs<=D) (hf:100 < fuel):AV0 fuel (tab n n F) (tab n n G)=some (tab n n (AUt n (AUt n (trF G) F) G)):=by
 apply ok_eq;unfold AV0;refine AGt (AUc (Az0 hn Aa hf)) fun x hx=>?_;subst hx;dsimp only
 have pr:∀ {F G:AS4},(∀ i j,i < n->j < n->(F i j).natAbs<=D)->(∀ i j,i < n->j < n->(G i j).natAbs<=D)->Ok (AU2 fuel (tab n n F) (tab n n G)) (· =tab n n (AUt n F G)):=fun {F G} hF hG=>by
   unfold AU2
   refine AGt (AUc (A4z hn Aa hD hF hG hf)) fun x hx=>?_
   subst hx
   exact AGp rfl
 refine AGt (pr (fun i j hi hj=>hG j i hj hi) hF) fun x hx=>?_;subst hx;refine AGt (pr hH hG) fun y hy=>AGp hy
theorem Az2 (a:Int):AX5 a<=0↔a<=0:=by unfold AX5;split <;> (try split) <;> omega
theorem BBv {fuel n:Nat} {F:AS4} (Ae:1<=n) (hn:n<=8) (hb:∀ i j,i < n->j < n->(F i j).natAbs<=AYy) (hf:100 < fuel):Ok (AXn fuel (tab n n F)) fun r=>r=true↔Adp n F/\Ae6 n F:=by
 unfold AXn;refine AGt (AUc (Atd Ae hn hb hf)) fun x hx=>?_;subst hx;dsimp only;refine AGt (Q:=fun ex=>match ex with | .inl e=>e=false/\¬ Adp n F | .inr _=>Adp n F) (ATr (fun h=>absurd h AGj) fun _=>AGt (A8v AGh hf) fun r hr=>?_) fun ex hex=>?_
 ·refine ATr (fun h=>AGp ⟨rfl,fun h1=>?_⟩) (fun h=>AGp (hr.1 ?_))
  ·rw [hr.2 h1] at h;exact absurd h AGj
  ·cases r
   ·exact absurd rfl h
   ·rfl
 ·cases ex with
  | inl e=>obtain ⟨rfl,h⟩:=hex;exact AGp ⟨fun h1=>Bool.noConfusion h1,fun h1=>absurd h1.1 h⟩
  | inr u=>
    dsimp only at hex ⊢
    have h0:∀ k,k<=0->0 < det k F:=fun k hk=>by
      obtain rfl:k=0:=by omega
      simp [det]
    refine AGt (AUa (fun i s=>s=((i:Nat):Int)/\i<=n/\ ∀ k,k<=i->0 < det k F) n (Q:=fun ex=>match ex with | .inl e=>e=false/\¬ Ae6 n F | .inr _=>Ae6 n F) ⟨rfl,Nat.zero_le _,h0⟩ AGh fun i s hi hI=>?_) fun ex Ad=>?_
    · obtain ⟨rfl,hin,hp⟩:=hI
      unfold AZ6
      rw [AUh]
      refine ATr (fun h=>?_) (fun h=>AGp ?_)
      · have hi':i < n:=by omega
        refine ATs (ATv hi') rfl (AGt (AUc (a:=AX5 (det (i + 1) F)) rfl) fun c hc=>?_)
        subst hc
        refine ATr (fun h3=>AGp ⟨rfl,fun h4=>?_⟩) (fun h3=>AGp ⟨AGh,by rw [wk AGh];simp,AGh,fun k hk=>?_⟩)
        · have:=h4 (i + 1) AGh;have:=(Az2 _).1 h3;omega
        · rcases Nat.lt_or_ge k (i + 1) with h4 | h4
          · exact hp k AGh
          · obtain rfl:k=i + 1:=by omega
            rw [Az2] at h3;omega
      · obtain rfl:i=n:=by omega
        exact hp
    · cases ex with
      | inl e=>obtain ⟨rfl,h⟩:=Ad;exact AGp ⟨fun h1=>Bool.noConfusion h1,fun h1=>absurd h1.2 h⟩
      | inr u=>exact AGp ⟨fun _=>⟨hex,Ad⟩,fun _=>rfl⟩
theorem Arx {fuel n:Nat} {F:AS4} (Ac:1<=n) (hn:n<=8) (hb:∀ i j,i < n->j < n->(F i j).natAbs<=AYy) (hf:100 < fuel):Ok (AV8 fuel (tab n n F)) fun r=>r=0↔Adp n F/\Ae6 n F:=by
 unfold AV8;refine AGt (AUc (Ata Ac AGh hf)) fun x hx=>?_;subst hx;dsimp only;refine ATr (fun h=>absurd h AGj) fun _=>ATr (fun h=>by omega) fun _=>AGt (A8v AGh hf) fun r hr=>ATr (fun h=>AGp ⟨fun h1=>by omega,fun h1=>?_⟩) fun h=>AGt (BBv Ac hn hb hf) fun q hq=>ATr (fun h2=>AGp ⟨fun h1=>by omega,fun h1=>?_⟩) fun h2=>AGp ⟨fun _=>hq.1 ?_,fun _=>rfl⟩
 ·rw [hr.2 h1.1] at h;exact absurd h AGj
 ·rw [hq.2 h1] at h2;exact absurd h2 AGj
 ·cases q
  ·exact absurd rfl h2
  ·rfl
theorem A7u {fuel n:Nat} {F:AS4} (hn:n<=8) (hb:∀ i j,i < n->j < n->(F i j).natAbs<=AYy) (hf:100 < fuel):AYp fuel (tab n n F)=some (decide (det n F<=10000)):=by
 apply ok_eq;unfold AYp;refine AGt (AUc (Aoe hn hb AGh)) fun x hx=>?_;subst hx;refine AGt (Q:=(· =10000)) ⟨10000,if_pos AGh,rfl⟩ fun y hy=>?_;subst hy;refine AGt (AUc (a:=Aj5 (det n F) 10000) rfl) fun c hc=>AGp ?_;subst hc;exact decide_eq_decide.2 (Aur _ _)
def idS (i r c:Nat):Int:=if r=c/\r < i then 1 else 0
theorem Az3 {fuel n:Nat} (hn:1<=n) (Ae:n<=16) (hf:100 < fuel):AV7 fuel (n:Int)=some (tab n n dl,true):=by
 apply ok_eq;unfold AV7;refine AGt (Q:=fun ex=>match ex with | .inl _=>False | .inr _=>True) (ATr (fun h=>by omega) fun _=>ATr (fun h=>by omega) fun _=>AGp trivial) fun ex hex=>?_
 cases ex with
 | inl e=>exact hex.elim
 | inr u=>
   dsimp only
   refine AGt (AUc (Aqb AGh AGh AGh)) fun O hO=>?_
   have Ab:O=tab n n (idS 0):=by
     rw [hO,AYq n (0:Int),AYq,Ahd]
     exact AUd fun r _=>AUd fun c _=>by unfold idS;rw [if_neg AGh]
   have hlen:O.length=n:=by rw [Ab,AT5]
   refine AGt (AUa (fun i s=>s=(((i:Nat):Int),tab n n (idS i))/\i<=n) n (Q:=(· =tab n n dl)) ⟨by rw [Ab];rfl,Nat.zero_le _⟩ AGh fun i s hi hI=>?_) fun e he=>AGp (by rw [he])
   obtain ⟨rfl,hin⟩:=hI
   unfold AZ5
   dsimp only
   rw [hlen]
   refine ATr (fun h=>?_) (fun h=>AGp ?_)
   · have hi':i < n:=by omega
     refine ATs (AT7 hi') rfl (AGt (Q:=(· =1)) ⟨1,if_pos AGh,rfl⟩ fun y hy=>ATs (ATv hi') rfl (AGp ⟨AGh,?_,AGh⟩))
     subst hy
     rw [wk AGh,Arl]
     refine Prod.ext (by dsimp only;omega) (Agi fun r c hr hc=>?_)
     rw [ATy]
     unfold idS
     by_cases h3:r=i
     · rw [if_pos h3]
       by_cases h4:c=i
       · rw [if_pos h4,if_pos AGh]
       · rw [if_neg h4,if_neg AGh,if_neg AGh]
     · rw [if_neg h3]
       by_cases h5:r=c/\r < i
       · rw [if_pos h5,if_pos AGh]
       · rw [if_neg h5,if_neg AGh]
   · refine Agi fun r c hr hc=>?_
     unfold idS dl
     by_cases h5:r=c
     · rw [if_pos AGh,if_pos h5]
     · rw [if_neg AGh,if_neg h5]
def toS (n:Nat) (F:AS4) (i:Nat):List (List Int):=AVk n fun r=>if r < i then AVk n (F r) else []
def toR (n:Nat) (F:AS4) (i j:Nat):List (List Int):=AVk n fun r=>if r < i then AVk n (F r) else if r=i then AVk n (fun c=>if c < j then F i c else 0) else []
theorem BBx {fuel n:Nat} {F:AS4} (hn:1<=n) (Ae:n<=16) (hb:∀ i j,i < n->j < n->(F i j).natAbs < 9223372036854775808) (hf:100 < fuel):AYb fuel (tab n n F)=some (tab n n F,true):=by
 apply ok_eq;unfold AYb;refine AGt (AUc (Arw hn Ae hf)) fun x hx=>?_;subst hx;dsimp only;refine ATr (fun h=>absurd h AGj) fun _=>AU3 AGh (AGt (AUa (fun i s=>s=(((i:Nat):Int),toS n F i)/\i<=n) n (Q:=fun ex=>match ex with | .inl _=>False | .inr e=>e=tab n n F) ⟨?_,Nat.zero_le _⟩ AGh fun i s hi hI=>?_) fun ex hex=>?_)
 ·rw [Int.toNat_natCast,AYq];exact congrArg (Prod.mk (0:Int)) (AUd fun r _=>by rw [if_neg AGh])
 ·obtain ⟨rfl,hin⟩:=hI;unfold Abj;dsimp only;rw [List.length_replicate,Int.toNat_natCast];refine ATr (fun h=>AU3 AGh ?_) (fun h=>AGp ?_)
  ·have hi':i < n:=by omega
   have e0:sI (toS n F i) (i:Int) (List.replicate n (0:Int))=toR n F i 0:=by
     rw [AU0];unfold toS;rw [AXp]
     refine AUd fun r _=>?_
     by_cases h1:r=i
     · rw [if_pos h1,if_neg AGh,if_pos h1,AYq];exact AUd fun c _=>by rw [if_neg AGh]
     · rw [if_neg h1]
       by_cases h2:r < i
       · rw [if_pos h2,if_pos h2]
       · rw [if_neg h2,if_neg h2,if_neg h1]
   refine ATs (n:=i) (ATv hi') rfl ?_;rw [e0];refine ATs (n:=i) (ATv hi') rfl ?_;rw [if_neg AGh,if_pos rfl];refine AGt (AUa (fun j s=>s=(((j:Nat):Int),toR n F i j)/\j<=n) n (Q:=fun ex=>match ex with | .inl _=>False | .inr e=>e=toS n F (i + 1)) ⟨rfl,Nat.zero_le _⟩ AGh fun j s hj hJ=>?_) fun ex hex=>?_
   ·obtain ⟨rfl,hjn⟩:=hJ;unfold Abi;dsimp only;rw [AUh];refine ATr (fun h2=>?_) (fun h2=>AGp ?_)
    ·have hj':j < n:=by omega
     refine ATs (AT7 hi') rfl (ATs (ATv hj') rfl (AGt (Q:=(· =(F i j,true))) ⟨_,if_pos (hb i j hi' hj'),rfl⟩ fun y hy=>?_));subst hy;dsimp only;refine ATr (fun h=>absurd h AGj) fun _=>ATs (n:=i) (ATv hi') rfl ?_;rw [if_neg AGh,if_pos rfl];refine ATs (ATv hj') rfl (AGp ⟨AGh,?_,AGh⟩);rw [wk AGh,AU0,AU0];refine Prod.ext (by dsimp only;omega) ?_;dsimp only;unfold toR;rw [AXp,AXp];refine AUd fun r _=>?_;by_cases h1:r=i
     ·rw [if_pos h1,if_neg AGh,if_pos h1];refine AUd fun c _=>?_;by_cases h3:c=j
      ·rw [if_pos h3,if_pos AGh,h3]
      ·rw [if_neg h3];by_cases h4:c < j
       ·rw [if_pos h4,if_pos AGh]
       ·rw [if_neg h4,if_neg AGh]
     ·rw [if_neg h1,if_neg h1,if_neg h1]
    ·refine AUd fun r _=>?_;by_cases h1:r < i
     ·rw [if_pos h1,if_pos AGh]
     ·rw [if_neg h1];by_cases h3:r=i
      ·rw [if_pos h3,if_pos AGh,h3];exact AUd fun c hc=>by rw [if_pos AGh]
      ·rw [if_neg h3,if_neg AGh]
   ·cases ex with
    | inl e=>exact hex.elim
    | inr e=>exact AGp ⟨AGh,by rw [wk AGh,hex];simp,AGh⟩
  ·refine AUd fun r hr=>?_;rw [if_pos AGh];rfl
 ·cases ex with
  | inl e=>exact hex.elim
  | inr e=>exact AGp (by rw [hex])
theorem Ary {S E:Type} {body:S->Option (S ⊕ E)} {Q:E->Prop} (I:S->Prop) (μ:S->Nat) (hs:∀ s,I s->Ok (body s) fun r=>match r with | .inl s'=>I s'/\μ s' < μ s | .inr e=>Q e):∀ {fuel:Nat} {s0:S},I s0->μ s0 < fuel->Ok (iter body fuel s0) Q:=by
  intro fuel;induction fuel with
  | zero=>intro s0 _ h;omega
  | succ f ih=>
    intro s0 h0 hf;obtain ⟨r,hr,hq⟩:=hs s0 h0;cases r with
    | inl s'=>
      obtain ⟨e,he,hQ⟩:=ih hq.1 (by have:=hq.2;omega);exact ⟨e,by simp [iter,hr,he],hQ⟩
    | inr e=>exact ⟨e,by simp [iter,hr],hq⟩
theorem Ah6 (a:Int):AX5 a=0↔a=0:=by unfold AX5;split <;> (try split) <;> omega
theorem Az4 (a:Int):AX5 a < 0↔a < 0:=by unfold AX5;split <;> (try split) <;> omega
theorem A40 {fuel:Nat} {a b:Int} (ha:a.natAbs < AWv) (hb:b.natAbs < AWv) (h0:b≠0):AVr fuel a b=some (a / b):=by
 apply ok_eq;unfold AVr;refine AGt (AUc (a:=(a / b,a % b,true)) (if_pos ⟨ha,hb,h0⟩)) fun x hx=>?_;subst hx;exact AGp rfl
theorem BBy {fuel:Nat} {a b:Int} (ha:a.natAbs < AWv) (hb:b.natAbs < AWv) (h0:b≠0):AZv fuel a b=some (a % b):=by
 apply ok_eq;unfold AZv;refine AGt (AUc (a:=(a / b,a % b,true)) (if_pos ⟨ha,hb,h0⟩)) fun x hx=>?_;subst hx;exact AGp rfl
theorem BBz {fuel:Nat} {a b:Int} (ha:a.natAbs < AWv) (hb:b.natAbs < AWv) (h0:b≠0) (hf:AWv < fuel):Ok (AZz fuel a b) fun g=>0 < g/\g ∣ a/\g ∣ b:=by
 unfold AZz;refine AGt (AUc (a:=(a.natAbs:Int)) rfl) fun x hx=>AGt (AUc (a:=(b.natAbs:Int)) rfl) fun y hy=>?_;subst hx;subst hy;refine AGt (Ary (fun s:Int × Int=>0<=s.1/\0<=s.2/\s.1.natAbs < AWv/\s.2.natAbs < AWv/\(0 < s.1∨0 < s.2)/\ ∀ d:Int,d ∣ s.1->d ∣ s.2->d ∣ a/\d ∣ b) (fun s=>s.2.natAbs) (Q:=fun g=>0 < g/\g ∣ a/\g ∣ b) (fun s hs=>?_) ⟨AGh,AGh,AGh,AGh,.inr AGh,fun d h1 h2=>⟨Int.dvd_natAbs.1 h1,Int.dvd_natAbs.1 h2⟩⟩ (by dsimp only;omega)) fun g hg=>AGp hg;obtain ⟨u,v⟩:=s;obtain ⟨h1,h2,h3,h4,h5,h6⟩:=hs;unfold Ade;dsimp only at h1 h2 h3 h4 h5 h6 ⊢;refine AGt (AUc (a:=AX5 v) rfl) fun s hs=>?_;subst hs;refine ATr (fun hv=>?_) fun hv=>AGp ?_
 ·have Ab:v≠0:=fun h=>hv ((Ah6 v).2 h);refine AGt (AUc (BBy h3 h4 Ab)) fun r hr=>AGp ?_;subst hr;have e1:=Int.emod_nonneg u Ab;have e2:=Int.emod_lt_of_pos u (show 0 < v by omega);refine ⟨⟨h2,e1,h4,AGh,.inl AGh,fun d d1 d2=>h6 d ?_ d1⟩,AGh⟩;have:=Int.dvd_add d2 (Int.dvd_trans d1 ⟨u / v,rfl⟩);rwa [Int.emod_add_mul_ediv] at this
 ·have Ab:v=0:=by
    rcases Decidable.em (AX5 v=0) with h | h
    · exact (Ah6 v).1 h
    · exact absurd h hv
  subst Ab;exact ⟨AGh,h6 u (Int.dvd_refl u) ⟨0,ATw⟩⟩
def FrE (n d n' d':Int):Prop:=0 < d'/\n' * d=n * d'/\n'.natAbs<=n.natAbs/\d'.natAbs<=d.natAbs
theorem A8w {fuel:Nat} {a b:Int} (ha:a.natAbs < AWv) (hb:b.natAbs < AWv) (h0:b≠0) (hf:AWv < fuel):Ok (AYj fuel a b) fun r=>r.2=true/\FrE a b r.1.1 r.1.2:=by
 unfold AYj;refine AGt (AUc (a:=AX5 b) rfl) fun s hs=>?_;subst hs;refine ATr (fun h=>absurd ((Ah6 b).1 h) h0) fun _=>AGt (Q:=fun e:Int × Int=>0 < e.2/\e.1 * b=a * e.2/\e.1.natAbs=a.natAbs/\e.2.natAbs=b.natAbs) (AGt (AUc (a:=AX5 b) rfl) fun s hs=>?_) fun e he=>?_
 ·subst hs;refine ATr (fun h=>?_) fun h=>AGp ⟨?_,rfl,rfl,rfl⟩
  ·have:=(Az4 b).1 h;refine AGt (AUc (a:= -a) rfl) fun x hx=>AGt (AUc (a:= -b) rfl) fun y hy=>AGp ?_;subst hx;subst hy;exact ⟨by dsimp only;omega,by dsimp only;grind,by dsimp only;omega,by dsimp only;omega⟩
  ·have: ¬ b < 0:=fun h2=>h ((Az4 b).2 h2);dsimp only;omega
 ·obtain ⟨u,v⟩:=e;obtain ⟨h1,h2,h3,h4⟩:=he;dsimp only at h1 h2 h3 h4 ⊢;refine AGt (BBz (a:=u) (b:=v) AGh AGh AGh hf) fun g hg=>?_;obtain ⟨g1,⟨u',rfl⟩,⟨v',rfl⟩⟩:=hg;have gn:g≠0:=by omega
  have hv':0 < v':=Int.pos_of_mul_pos_right h1 g1;have e1:(g * u').natAbs=g.natAbs * u'.natAbs:=Int.natAbs_mul _ _;have e2:(g * v').natAbs=g.natAbs * v'.natAbs:=Int.natAbs_mul _ _;have g2:1<=g.natAbs:=by omega
  have m1:=Nat.mul_le_mul_right u'.natAbs g2;have m2:=Nat.mul_le_mul_right v'.natAbs g2;have m3:=Nat.mul_le_mul_left g.natAbs (show 1<=v'.natAbs by omega);refine AGt (AUc (A40 AGh AGh gn)) fun x hx=>AGt (AUc (A40 AGh AGh gn)) fun y hy=>AGp ⟨rfl,?_⟩;subst hx;subst hy;rw [Int.mul_ediv_cancel_left _ gn,Int.mul_ediv_cancel_left _ gn];refine ⟨hv',?_,by dsimp only;omega,by dsimp only;omega⟩;have:g * (u' * b)=g * (a * v'):=by grind
  exact Int.eq_of_mul_eq_mul_left gn this
theorem Aus {fuel:Nat} {a b:Int} (ha:a.natAbs < AWv) (hb:b.natAbs < AWv) (h0:b≠0) (hf:AWv < fuel):Ok (AU5 fuel a b) fun r=>FrE a b r.1 r.2:=by
 unfold AU5;refine AGt (A8w ha hb h0 hf) fun r hr=>?_;obtain ⟨⟨x,y⟩,c⟩:=r;obtain ⟨h1,h2⟩:=hr;dsimp only at h1 h2 ⊢;subst h1;exact ATr (fun h=>absurd h AGj) fun _=>AGp h2
theorem A98 {fuel:Nat} {a b:Int} (ha:a.natAbs < AWv) (hb:b.natAbs < AWv) (h0:b≠0) (hf:AWv < fuel):Ok (AXo fuel a b) fun r=>FrE a b r.1 r.2:=by
 unfold AXo;exact AGt (Aus ha hb h0 hf) fun r hr=>AGp hr
theorem Awv {N D N' D':Int} (hD:0 < D) (hD':0 < D') (h:N * D'=N' * D):N / D=N' / D':=by
 rw [<- Int.mul_ediv_mul_of_pos_left N D hD',h,Int.mul_comm D D',Int.mul_ediv_mul_of_pos_left N' D' hD]
theorem A99 {fuel:Nat} {a b:Int} (hab:4 * (a.natAbs + b.natAbs) < AWv) (h0:0 < b) (hf:AWv < fuel):Ok (AX1 fuel a b) fun r=>r=(2 * a + b) / (2 * b):=by
 have Ag:(1:Int).natAbs < AWv:=by
   have:(1:Int).natAbs=1:=rfl
   omega
 have Ah:(2:Int).natAbs < AWv:=by
   have:(2:Int).natAbs=2:=rfl
   omega
 unfold AX1;refine AGt (Q:=(· =(1,2))) ?_ fun hh he=>?_
 ·unfold Abt;exact AGt (Q:=(· =1)) ⟨1,if_pos AGh,rfl⟩ fun x hx=>AGt (Q:=(· =2)) ⟨2,if_pos AGh,rfl⟩ fun y hy=>AGp (by rw [hx,hy])
 subst he;dsimp only;refine AGt (Q:=fun r=>0 < r.2/\r.1 * (2 * b)=(2 * a + b) * r.2/\r.1.natAbs < AWv/\r.2.natAbs < AWv) ?_ fun r hr=>?_
 ·unfold Ab9;refine AGt (Aus AGh AGh AGh hf) fun x hx=>AGt (Aus (a:=1) (b:=2) Ag Ah AGh hf) fun y hy=>?_;obtain ⟨x1,x2⟩:=x;obtain ⟨y1,y2⟩:=y;obtain ⟨a1,a2,a3,a4⟩:=hx;obtain ⟨b1,b2,b3,b4⟩:=hy;dsimp only at *;obtain rfl:y2=2:=by omega
  obtain rfl:y1=1:=by omega
  refine AGt (AUc (a:=x1 * 2) (if_pos (by have:(2:Int).natAbs=2:=rfl;rw [this];omega))) fun u hu=>AGt (AUc (a:=1 * x2) (if_pos (by have:(1:Int).natAbs=1:=rfl;rw [this];omega))) fun v hv=>?_;subst hu;subst hv;refine AGt (AUc (a:=x1 * 2 + 1 * x2) (if_pos ⟨AGh,AGh⟩)) fun w hw=>AGt (AUc (a:=x2 * 2) (if_pos (by have:(2:Int).natAbs=2:=rfl;rw [this];omega))) fun z hz=>?_;subst hw;subst hz;refine AGt (A8w AGh AGh AGh hf) fun r hr=>AGp ?_;obtain ⟨⟨r1,r2⟩,c⟩:=r;obtain ⟨-,c1,c2,c3,c4⟩:=hr;dsimp only at *;refine ⟨c1,?_,AGh,AGh⟩;have h1:x2 * (r1 * (2 * b))=x2 * ((2 * a + b) * r2):=by grind
  exact Int.eq_of_mul_eq_mul_left (show x2≠0 by omega) h1
 ·obtain ⟨r1,r2⟩:=r;obtain ⟨h1,h2,h3,h4⟩:=hr;dsimp only at *;unfold Aa4;refine AGt (Q:=fun r=>r=(2 * a + b) / (2 * b)) (AGt (Aus h3 h4 AGh hf) fun x hx=>?_) fun z hz=>AGp hz;obtain ⟨x1,x2⟩:=x;obtain ⟨a1,a2,a3,a4⟩:=hx;dsimp only at *;refine AGt (AUc (A40 AGh AGh AGh)) fun q hq=>AGp ?_;subst hq;refine Awv a1 AGh ?_;have h5:r2 * (x1 * (2 * b))=r2 * ((2 * a + b) * x2):=by grind
  exact Int.eq_of_mul_eq_mul_left (show r2≠0 by omega) h5
end Go.Proofs.YthbndcbclhkepaaGreatDoor
namespace Go.Proofs.YthbndcbclhkepaaGreatDoor
open Go Go.QF
set_option maxRecDepth 100000
theorem Aww:64 * (dBd AYy (8 + 1) * dBd AYy (8 + 1)) < AWv:=by decide
theorem A41 {fuel n j:Nat} {F:AS4} (hn:n<=8) (hj:j + 1 < n) (hb:∀ i j,i < n->j < n->(F i j).natAbs<=AYy) (hf:100 < fuel):Ok (AYc fuel (tab n n F) (AVk n fun a=>det (a + 1) F) ((j + 1:Nat):Int)) fun r=>r=true↔LvF F j:=by
 show Ok _ fun r:Bool=>r=true↔3 * (det (j + 1) F * det (j + 1) F)<=4 * (det j F * det (j + 2) F + Mn j F (j + 1) j * Mn j F (j + 1) j);unfold AYc;have w1:w64 (((j + 1:Nat):Int) - 1)=(j:Int):=by rw [wk AGh];omega
 have w2:w64 (((j + 1:Nat):Int) + 1)=((j + 2:Nat):Int):=by rw [wk AGh];omega
 rw [w1,w2];have hD:=Aww;have bl:(Mn j F (j + 1) j).natAbs<=dBd AYy (8 + 1):=Arv hn AGh AGh AGh hb;have b0:(det j F).natAbs<=dBd AYy (8 + 1):=Amk hn AGh hb;have b1:(det (j + 1) F).natAbs<=dBd AYy (8 + 1):=Amk hn AGh hb;have b2:(det (j + 2) F).natAbs<=dBd AYy (8 + 1):=Amk hn AGh hb;have p1:=Nat.mul_le_mul b0 b2;have p2:=Nat.mul_le_mul bl bl;have p3:=Nat.mul_le_mul b1 b1;have e1:=Int.natAbs_mul (det j F) (det (j + 2) F);have e2:=Int.natAbs_mul (Mn j F (j + 1) j) (Mn j F (j + 1) j);have e3:=Int.natAbs_mul (det (j + 1) F) (det (j + 1) F);refine AGt (AUc (Aru hn AGh AGh hb hf)) fun l hl=>?_;subst hl;refine AGt (Q:=(· =4)) ⟨4,if_pos AGh,rfl⟩ fun x hx=>?_;subst hx;refine AGt (AUc (Am2 AGh hn)) fun x hx=>AGt (AUc (Am2 AGh hn)) fun y hy=>?_;subst hx;subst hy;refine AGt (AUc (a:=det j F * det (j + 2) F) (if_pos AGh)) fun x hx=>AGt (AUc (a:=Mn j F (j + 1) j * Mn j F (j + 1) j) (if_pos AGh)) fun y hy=>?_;subst hx;subst hy;generalize det j F * det (j + 2) F=P at *;generalize Mn j F (j + 1) j * Mn j F (j + 1) j=L at *;refine AGt (AUc (a:=P + L) (if_pos AGh)) fun x hx=>AGt (AUc (a:=4 * x) (if_pos (by have:(4:Int).natAbs=4:=rfl;rw [this];omega))) fun y hy=>?_;subst hx;subst hy;refine AGt (Q:=(· =3)) ⟨3,if_pos AGh,rfl⟩ fun x hx=>?_;subst hx;refine AGt (AUc (Am2 AGh hn)) fun x hx=>AGt (AUc (Am2 AGh hn)) fun y hy=>?_;subst hx;subst hy;refine AGt (AUc (a:=det (j + 1) F * det (j + 1) F) (if_pos AGh)) fun x hx=>?_;subst hx;generalize det (j + 1) F * det (j + 1) F=S at *;refine AGt (AUc (a:=3 * S) (if_pos (by have:(3:Int).natAbs=3:=rfl;rw [this];omega))) fun x hx=>AGt (AUc (a:=Aj5 (4 * (P + L)) x) rfl) fun c hc=>AGp ?_;subst hx;subst hc;rw [decide_eq_true_iff];unfold Aj5;split <;> (try split) <;> omega
def Akc (A:AS4) (i j:Nat):Int:= -((2 * Mn j A i j + det (j + 1) A) / (2 * det (j + 1) A))
def Anp (A:AS4) (i j:Nat):AS4:=AUu dl j fun q=>if q=i then Akc A i j else dl j q
def Aol (A:AS4) (i:Nat):Prop:= ∀ r l,l < r->r < i->SzF A r l
def Apu (A:AS4) (i:Nat):Prop:= ∀ r,r + 1 < i->LvF A r
def A42 (n:Nat) (A:AS4) (r:List (List Int) × Bool):Prop:=
  (r=([],false)/\Aol A n/\Apu A n)∨
  (∃ i j,j < i/\i < n/\¬ SzF A i j/\Aol A i/\(∀ l,l < i->j < l->SzF A i l)/\Apu A i/\r=(tab n n (Anp A i j),true))∨
  ∃ j,j + 1 < n/\¬ LvF A j/\Aol A (j + 2)/\Apu A (j + 1)/\r=(tab n n (AXw dl (j + 1) j),true)
theorem BAa {fuel n:Nat} {A:AS4} (Ai:1<=n) (hn:n<=8) (hp:Ae6 n A) (hb:∀ i j,i < n->j < n->(A i j).natAbs<=AYy) (hf:AWv < fuel):Ok (AY8 fuel (tab n n A)) (A42 n A):=by
 have Ac:100 < fuel:=Nat.lt_of_le_of_lt AGj hf;have hD:=Aww;unfold AY8;refine AGt (AUc (Atd Ai hn hb Ac)) fun x hx=>?_;subst hx;dsimp only;rw [AT5];refine AGt (AUc (Az3 Ai AGh Ac)) fun x hx=>?_;subst hx;dsimp only;refine AGt (AUa (fun i s=>s=(((i:Nat):Int),tab n n dl)/\i<=n/\Aol A i/\Apu A i) n (Q:=fun ex=>match ex with | .inl r=>A42 n A r | .inr _=>Aol A n/\Apu A n) ⟨rfl,Nat.zero_le _,fun r l h1 h2=>by omega,fun r h=>by omega⟩ AGh fun i s hi hI=>?_) fun ex hex=>?_
 ·obtain ⟨rfl,hin,hsz,hlv⟩:=hI;unfold Acn;dsimp only;rw [AT5];refine ATr (fun h=>?_) (fun h=>AGp ?_)
  ·have hi':i < n:=by omega
   refine AGt (AUa (fun k s=>s=((i:Int) - 1 - k,tab n n dl)/\k<=i/\ ∀ l,l < i->i<=l + k->SzF A i l) i (Q:=fun ex=>match ex with | .inl r=>A42 n A r | .inr e=>e=tab n n dl/\ ∀ l,l < i->SzF A i l) ⟨by rw [wk AGh];simp,Nat.zero_le _,fun l h1 h2=>by omega⟩ AGh fun k s hk hK=>?_) fun ex hex=>?_
   ·obtain ⟨rfl,hki,hz⟩:=hK;unfold Acm;dsimp only;refine ATr (fun h2=>?_) (fun h2=>AGp ⟨rfl,fun l hl=>hz l hl AGh⟩);obtain ⟨j,hj⟩:∃ j:Nat,(i:Int) - 1 - k=j:=⟨i - 1 - k,AGh⟩;rw [hj];have hji:j < i:=by omega
    refine AGt (AUc (A7s hn hi' AGh hb Ac)) fun b Ag=>?_;subst Ag;refine ATr (fun h3=>?_) (fun h3=>AGp ⟨AGh,?_,AGh,fun l h4 h5=>?_⟩)
    ·have hbad: ¬ SzF A i j:=fun h=>by rw [<- Azz] at h;simp [h] at h3
     refine ATs (AT7 AGh) rfl (AGt (AUc (Aru hn hi' AGh hb Ac)) fun l hl=>?_);subst hl;rw [show w64 ((j:Int) + 1)=((j + 1:Nat):Int) by rw [wk AGh];omega];refine AGt (AUc (Am2 AGh hn)) fun d hd=>?_;subst hd;have bl:(Mn j A i j).natAbs<=dBd AYy (8 + 1):=Arv hn hi' AGh AGh hb;have b1:(det (j + 1) A).natAbs<=dBd AYy (8 + 1):=Amk hn AGh hb;have hd:=hp (j + 1) AGh;have hDD:dBd AYy (8 + 1)<=dBd AYy (8 + 1) * dBd AYy (8 + 1):=Nat.le_mul_of_pos_left _ AGh;refine AGt (A98 AGh AGh AGh hf) fun q hq=>?_;obtain ⟨x,y⟩:=q;obtain ⟨q1,q2,q3,q4⟩:=hq;dsimp only at q1 q2 q3 q4 ⊢;refine AGt (A99 AGh q1 hf) fun m hm=>AGt (AUc (a:= -m) rfl) fun c hc=>?_
     have Ap:c=Akc A i j:=by
       rw [hc,hm]
       unfold Akc
       congr 1
       refine Awv AGh AGh ?_
       grind
     clear hm hc;refine ATs (ATv hi') rfl (AGp (.inr (.inl ⟨i,j,hji,hi',hbad,hsz,fun l h4 h5=>hz l h4 AGh,hlv,?_⟩)));rw [AU0,AU0,AXp,Ap,show (AVk n fun q=>if q=i then Akc A i j else dl j q)=(List.range n).map fun q=>if q=i then Akc A i j else dl j q from rfl,Aec];rfl
    ·rw [wk AGh];refine congrArg (fun z=>(z,tab n n dl)) ?_;omega
    ·have hgood:SzF A i j:=by rw [<- Azz];simpa using h3
     rcases Nat.lt_or_ge (l + k) i with h6 | h6
     ·obtain rfl:l=j:=by omega
      exact hgood
     ·exact hz l h4 h6
   ·cases ex with
    | inl r=>exact AGp hex
    | inr e=>
      obtain ⟨rfl,hzi⟩:=hex
      have hsz':Aol A (i + 1):=fun r l h1 h2=>by
        rcases Nat.lt_or_ge r i with h3 | h3
        · exact hsz r l h1 h3
        · obtain rfl:r=i:=by omega
          exact hzi l h1
      dsimp only
      have nx:w64 ((i:Int) + 1)=((i + 1:Nat):Int):=by rw [wk AGh];omega
      refine ATr (fun h4=>?_) (fun h4=>AGp ⟨AGh,by rw [nx],AGh,hsz',fun r hr=>by omega⟩)
      obtain ⟨j,rfl⟩:∃ j,i=j + 1:=⟨i - 1,AGh⟩
      refine AGt (A41 hn hi' hb Ac) fun b Ag=>?_
      refine ATr (fun h5=>?_) (fun h5=>AGp ⟨AGh,by rw [nx],AGh,hsz',fun r hr=>?_⟩)
      · have hbad: ¬ LvF A j:=fun h=>by rw [Ag.2 h] at h5;cases h5
        rw [show w64 (((j + 1:Nat):Int) - 1)=(j:Int) by rw [wk AGh];omega]
        refine ATs (AT7 AGh) rfl (ATs (AT7 hi') rfl (AGp (.inr (.inr ⟨j,hi',hbad,hsz',hlv,?_⟩))))
        rw [AU0,AU0,show AVk n (dl j)=(List.range n).map (dl j) from rfl,show AVk n (dl (j + 1))=(List.range n).map (dl (j + 1)) from rfl,Aec,Aec]
        rfl
      · have hgood:LvF A j:=Ag.1 (by simpa using h5)
        rcases Nat.lt_or_ge r j with h6 | h6
        · exact hlv r AGh
        · obtain rfl:r=j:=by omega
          exact hgood
  ·obtain rfl:i=n:=by omega
   exact ⟨hsz,hlv⟩
 ·cases ex with
  | inl r=>exact AGp hex
  | inr u=>exact AGp (.inl ⟨rfl,hex⟩)
end Go.Proofs.YthbndcbclhkepaaGreatDoor
namespace Go.QF
open Go
def PrI (p:Int):Prop:=2<=p/\ ∀ x y:Int,p ∣ x * y->p ∣ x∨p ∣ y
theorem PrI.ne {p:Int} (hp:PrI p):p≠0:=by have:=hp.1;omega
theorem PrI.ndvd_mul {p u v:Int} (hp:PrI p) (hu: ¬ p ∣ u) (hv: ¬ p ∣ v): ¬ p ∣ u * v:=fun h=>(hp.2 _ _ h).elim hu hv
theorem AX6 {p:Int} {a b:Nat} (h:a<=b):p ^ a ∣ p ^ b:=⟨p ^ (b - a),by rw [<- Int.pow_add];congr 1;omega⟩
theorem Aom {m x y d:Int} (h:Eqm m x y) (hd:d ∣ m) (hy:d ∣ y):d ∣ x:=by
 have h1:m ∣ x - y:=Int.dvd_of_emod_eq_zero (Int.emod_eq_emod_iff_emod_sub_eq_zero.1 h);have h2:=Int.dvd_add (Int.dvd_trans hd h1) hy;rwa [show x - y + y=x by omega] at h2
theorem Anq {m x y:Int} (h:m ∣ x - y):Eqm m x y:=Int.emod_eq_emod_iff_emod_sub_eq_zero.2 (Int.emod_eq_zero_of_dvd h)
theorem Aml {m x y:Int} (h:Eqm m x y):m ∣ x - y:=Int.dvd_of_emod_eq_zero (Int.emod_eq_emod_iff_emod_sub_eq_zero.1 h)
theorem Eqm.down {m d x y:Int} (h:Eqm m x y) (hd:d ∣ m):Eqm d x y:=Anq (Int.dvd_trans hd (Aml h))
theorem Aut {m x:Int}:Eqm m x 0↔m ∣ x:=⟨fun h=>by simpa using Aml h,fun h=>Anq (by simpa using h)⟩
def Car (n K:Nat) (p:Int) (D S D':AS4):Prop:= ∀ i j,i < n->j < n->Eqm (p ^ K) (AUt n (trF S) (AUt n D S) i j) (D' i j)
theorem Amm (c:Int) (f:Nat->Int) (n:Nat):c * psum f n=psum (fun i=>c * f i) n:=(AX2 c f n).symm
theorem Arz (c:Int) (f:Nat->Int) (n:Nat):psum f n * c=psum (fun i=>f i * c) n:=by
 rw [Int.mul_comm,Amm];exact ATu fun k _=>Int.mul_comm _ _
theorem A7v {n K:Nat} {p:Int} {D S D':AS4} (H:Car n K p D S D') {i j:Nat} (hi:i < n) (hj:j < n):Eqm (p ^ K) (det n S * AUt n D S i j) (psum (fun k=>Agp n S k i * D' k j) n):=by
  have h1:Eqm (p ^ K) (psum (fun k=>Agp n S k i * AUt n (trF S) (AUt n D S) k j) n) (psum (fun k=>Agp n S k i * D' k j) n):=Eqm.psum fun k hk=>(Eqm.refl _ _).mul (H k j hk hj);refine Eqm.trans (Eqm.of_eq ?_) h1
  have h2:psum (fun k=>Agp n S k i * AUt n (trF S) (AUt n D S) k j) n=psum (fun l=>psum (fun k=>S l k * Agp n S k i) n * AUt n D S l j) n:=by
    rw [ATu (f:=fun k=>Agp n S k i * AUt n (trF S) (AUt n D S) k j) (g:=fun k=>psum (fun l=>Agp n S k i * (S l k * AUt n D S l j)) n) fun k _=>Amm _ _ _,Amx]
    exact ATu fun l _=>by
      rw [Arz];exact ATu fun k _=>by grind
  rw [h2,ATu (g:=fun l=>AUt n D S l j * (det n S * dl i l)) fun l hl=>by rw [Ape hl hi,Int.mul_comm];unfold dl;grind];rw [Aer hi fun l hl hne=>by unfold dl;rw [if_neg (fun h=>hne h.symm)];simp];unfold dl;rw [if_pos rfl];grind
section
variable {n K:Nat} {p:Int} {e f:Nat->Nat} {a b D D' S:AS4}
theorem A7w (hp:PrI p) (m:Nat):p ^ m≠0:=Int.pow_ne_zero hp.ne
theorem Adg {A B C:AS4} (i j:Nat):AUt n (AUt n A B) C i j=AUt n A (AUt n B C) i j:=by
 unfold AUt;rw [ATu (g:=fun k=>psum (fun l=>A i l * B l k * C k j) n) fun k _=>Arz _ _ _,Amx]
 exact ATu fun l _=>by
   rw [Amm]
   exact ATu fun k _=>by grind
theorem A43 (H:Car n K p D S D'):Car n K p D' (Agp n S) fun i j=>det n S * det n S * D i j:=fun i j hi hj=>by
  have h1:Eqm (p ^ K) (AUt n (trF (Agp n S)) (AUt n D' (Agp n S)) i j) (AUt n (fun r c=>det n S * AUt n D S r c) (Agp n S) i j):=by
    rw [<- Adg];unfold AUt;exact Eqm.psum fun k hk=>((A7v H hi hk).symm).mul (Eqm.refl _ _)
  refine h1.trans (Eqm.of_eq ?_)
  have h2:AUt n (fun r c=>det n S * AUt n D S r c) (Agp n S) i j=det n S * AUt n (AUt n D S) (Agp n S) i j:=by
    unfold AUt;rw [Amm];exact ATu fun k _=>by grind
  rw [h2,Adg]
  have h3:AUt n D (AUt n S (Agp n S)) i j=det n S * D i j:=by
    show psum (fun k=>D i k * AUt n S (Agp n S) k j) n=_;rw [ATu (g:=fun k=>D i k * (det n S * dl k j)) fun k hk=>by rw [show AUt n S (Agp n S) k j=_ from Ape hk hj]];rw [Aer hj fun l hl hne=>by unfold dl;rw [if_neg hne];simp];unfold dl;rw [if_pos rfl];grind
  rw [h3];grind
theorem Ate {m:Nat} {A:AS4} {x:Nat->Int} (hs:∀ i j,i < m->j < m->A i j=A j i) (he:∀ i,i < m->(2:Int) ∣ A i i):(2:Int) ∣ psum (fun i=>x i * psum (fun j=>A i j * x j) m) m:=by
  have key:∀ t,t<=m->(2:Int) ∣ psum (fun i=>x i * psum (fun j=>A i j * x j) t) t:=by
    intro t;induction t with
    | zero=>intro _;exact ⟨0,rfl⟩
    | succ t ih=>
      intro ht;obtain ⟨z,hz⟩:=ih AGh;obtain ⟨w,hw⟩:=he t AGh
      have h1:psum (fun i=>x i * psum (fun j=>A i j * x j) (t + 1)) t=psum (fun i=>x i * psum (fun j=>A i j * x j) t) t + x t * psum (fun i=>A t i * x i) t:=by
        rw [Amm,<- Ado];exact ATu fun i hi=>by simp only [psum];rw [hs i t AGh AGh];grind
      have h2:psum (fun i=>x i * psum (fun j=>A i j * x j) (t + 1)) (t + 1)=psum (fun i=>x i * psum (fun j=>A i j * x j) (t + 1)) t + x t * psum (fun j=>A t j * x j) (t + 1):=rfl;have h3:psum (fun j=>A t j * x j) (t + 1)=psum (fun j=>A t j * x j) t + A t t * x t:=rfl;rw [h2,h1,h3,hz,hw];exact ⟨z + x t * psum (fun i=>A t i * x i) t + w * (x t * x t),by grind⟩
  exact key m (Nat.le_refl m)
end
end Go.QF
namespace Go.Proofs.YthbndcbclhkepaaGreatDoor
open Go Go.QF
set_option maxRecDepth 100000
theorem A44 {S E:Type} {body:S->Option (S ⊕ E)} {Q:E->Prop} (I:Nat->S->Prop) (hs:∀ k s,I k s->Ok (body s) fun r=>match r with | .inl s'=> ∃ k',k' < k/\I k' s' | .inr e=>Q e):∀ {fuel k:Nat} {s0:S},I k s0->k < fuel->Ok (iter body fuel s0) Q:=by
  intro fuel;induction fuel with
  | zero=>intro k s0 _ h;omega
  | succ f ih=>
    intro k s0 h0 hf;obtain ⟨r,hr,hq⟩:=hs k s0 h0;cases r with
    | inl s'=>
      obtain ⟨k',h1,h2⟩:=hq;obtain ⟨e,he,hQ⟩:=ih h2 AGh;exact ⟨e,by simp [iter,hr,he],hQ⟩
    | inr e=>exact ⟨e,by simp [iter,hr],hq⟩
theorem Awx {n i j s:Nat} {A:AS4} (hj:j < i) (hi:i < n) (hs:s < n) (X:Nat->Int):psum (fun k=>X k * Anp A i j k s) n=X s + if s=i then Akc A i j * X j else 0:=by
 have h1:∀ k,X k * Anp A i j k s=X k * dl k s + (if k=j then (if s=i then Akc A i j * X j else 0) else 0):=fun k=>by
   unfold Anp
   rw [ATy]
   split
   · next h=>
     subst h
     split
     · next h2=>subst h2;unfold dl;rw [if_neg AGh];grind
     · simp
   · simp
 rw [ATu fun k _=>h1 k,Ado,Auf X hs,Aer (a:=j) AGh fun k _ hk=>if_neg hk,if_pos rfl]
theorem Awy {n i j r s:Nat} {A:AS4} (hj:j < i) (hi:i < n) (hr:r < n) (hs:s < n):AUt n (AUt n (trF (Anp A i j)) A) (Anp A i j) r s=Aoi A i j (Akc A i j) r s:=by
 have h2:∀ k,AUt n (trF (Anp A i j)) A r k=A r k + if r=i then Akc A i j * A j k else 0:=fun k=>by
   show psum (fun l=>Anp A i j l r * A l k) n=_
   rw [ATu (g:=fun l=>A l k * Anp A i j l r) fun l _=>Int.mul_comm _ _]
   exact Awx hj hi hr fun l=>A l k
 show psum (fun k=>AUt n (trF (Anp A i j)) A r k * Anp A i j k s) n=_;rw [Awx hj hi hs fun k=>AUt n (trF (Anp A i j)) A r k];rw [h2,h2,Aqg];split <;> split <;> first | (subst_vars;grind) | grind
theorem Auu (j k s:Nat):AXw dl (j + 1) j k s=dl (tau j k) s:=by
 rw [Aeq];unfold tau;split
 ·next h=>subst h;rfl
 ·split <;> rfl
theorem Az5 (j k:Nat):tau j (tau j k)=k:=by unfold tau;split <;> (try split) <;> (try split) <;> omega
theorem BAb {j k n:Nat} (hj:j + 1 < n) (hk:k < n):tau j k < n:=by unfold tau;split <;> (try split) <;> omega
theorem Az6 {n j s:Nat} (hj:j + 1 < n) (hs:s < n) (X:Nat->Int):psum (fun k=>X k * AXw dl (j + 1) j k s) n=X (tau j s):=by
 rw [Aer (a:=tau j s) (BAb hj hs) fun k hk hne=>?_]
 ·rw [Auu,Az5];unfold dl;rw [if_pos rfl];simp
 ·rw [Auu];unfold dl;rw [if_neg (fun h=>hne (by rw [<- h,Az5]))];simp
theorem Az7 {n j r s:Nat} {A:AS4} (hj:j + 1 < n) (hr:r < n) (hs:s < n):AUt n (AUt n (trF (AXw dl (j + 1) j)) A) (AXw dl (j + 1) j) r s=swA A j r s:=by
 show psum (fun k=>AUt n (trF (AXw dl (j + 1) j)) A r k * AXw dl (j + 1) j k s) n=_;rw [Az6 hj hs fun k=>AUt n (trF (AXw dl (j + 1) j)) A r k];show psum (fun l=>AXw dl (j + 1) j l r * A l (tau j s)) n=_;rw [ATu (g:=fun l=>A l (tau j s) * AXw dl (j + 1) j l r) fun l _=>Int.mul_comm _ _];exact Az6 hj hr fun l=>A l (tau j s)
theorem Afi {n:Nat} {A A' B B':AS4} {i j:Nat} (hA:∀ k,k < n->A i k=A' i k) (hB:∀ k,k < n->B k j=B' k j):AUt n A B i j=AUt n A' B' i j:=ATu fun k hk=>by rw [hA k hk,hB k hk]
theorem Aqh {n:Nat} {T U:AS4} (i j:Nat):trF (AUt n T U) i j=AUt n (trF U) (trF T) i j:=ATu fun k _=>Int.mul_comm _ _
def Ayg (n:Nat) (A0 T A:AS4):Prop:= ∀ i j,i < n->j < n->A i j=AUt n (trF T) (AUt n A0 T) i j
theorem Atf {n:Nat} {A0 T A U B:AS4} (H:Ayg n A0 T A) (K:∀ i j,i < n->j < n->AUt n (AUt n (trF U) A) U i j=B i j):Ayg n A0 (AUt n T U) B:=fun i j hi hj=>by
  rw [<- K i j hi hj,Adg]
  have h1:AUt n (trF U) (AUt n A U) i j=AUt n (trF U) (AUt n (trF T) (AUt n A0 (AUt n T U))) i j:=by
    refine Afi (fun _ _=>rfl) fun k hk=>?_;rw [Afi (A':=AUt n (trF T) (AUt n A0 T)) (fun l hl=>H k l hk hl) (fun _ _=>rfl),Adg];refine Afi (fun _ _=>rfl) fun l hl=>?_;rw [Adg]
  rw [h1,<- Adg];exact Afi (fun k _=>(Aqh i k).symm) fun _ _=>rfl
theorem Az8 {n:Nat} {A:AS4}:Ayg n A dl A:=fun i j hi hj=>by
  show _=psum (fun k=>dl k i * AUt n A dl k j) n
  rw [ATu (g:=fun k=>AUt n A dl k j * dl k i) fun k _=>Int.mul_comm _ _,Auf (fun k=>AUt n A dl k j) hi]
  exact (Ax6 hj).symm
def dm9:Int:=9 ^ 8
def A7x:Int:=2 ^ 97
theorem A7y {n i t:Nat} {A:AS4} (hn:n<=8) (h:Aup n dm9 A i t):∀ k,k < n->A k k<=A7x:=fun k hk=>by
  by_cases e:k=i
  · subst e
    have h1:=Atb (p:=(2 ^ 7 * (2 * dm9)) * (2 ^ 7 * (2 * dm9))) (q:=1) h.sym h.pos h.hi h.dm AGj AGj (fun l hl=>by
      have h2:=h.lamb l hl;have h3:(2:Int) ^ t * (2 * dm9)<=2 ^ 7 * (2 * dm9):=Int.mul_le_mul_of_nonneg_right (Aok (by have:=h.ht;omega)) AGj;have h4:=h.pos (l + 1) (by have:=h.hi;omega);have h5:=Int.mul_le_mul_of_nonneg_right h3 (Int.le_of_lt h4);have h6:=Amj (x:=Mn l A k l) (y:=2 ^ 7 * (2 * dm9) * det (l + 1) A) AGh AGh;rw [Int.one_mul];refine Int.le_trans h6 (Int.le_of_eq ?_);grind) k 0 AGh
    rw [Agf,show det 0 A=1 from rfl,Int.one_mul] at h1
    have h7:(1 + (k:Int) * ((2 ^ 7 * (2 * dm9)) * (2 ^ 7 * (2 * dm9)))) * (dm9 * 1)<=(1 + 7 * ((2 ^ 7 * (2 * dm9)) * (2 ^ 7 * (2 * dm9)))) * (dm9 * 1):=by
      refine Int.mul_le_mul_of_nonneg_right ?_ AGj;have:=Int.mul_le_mul_of_nonneg_right (show (k:Int)<=7 by omega) (show (0:Int)<=(2 ^ 7 * (2 * dm9)) * (2 ^ 7 * (2 * dm9)) by decide);omega
    exact Int.le_trans h1 (Int.le_trans h7 AGj)
  · exact Int.le_trans (h.rows k hk e) AGj
theorem Awz {n:Nat} {A:AS4} {B:Int} (hs:Adp n A) (hp:Ae6 n A) (hB:∀ k,k < n->A k k<=B) {i j:Nat} (hi:i < n) (hj:j < n): -B<=A i j/\A i j<=B:=by
 have h1:=Apf (k:=0) hs hp (Nat.zero_le _) hi hj;simp only [Agf] at h1;have p1:=Apg (k:=0) hs hp (Nat.zero_le _) hi;have p2:=Apg (k:=0) hs hp (Nat.zero_le _) hj;simp only [Agf] at p1 p2;have h2:=Int.mul_le_mul (hB i hi) (hB j hj) p2 (Int.le_trans p1 (hB i hi));exact Awp (Int.le_trans p1 (hB i hi)) (Int.le_trans h1 h2)
theorem Az9 {n:Nat} {A:AS4} {B:Int} (hs:Adp n A) (hp:Ae6 n A) (hB:∀ k,k < n->A k k<=B) {i j:Nat} (hi:i < n) (hj:j < n):(A i j).natAbs<=B.natAbs:=by
 have:=Awz hs hp hB hi hj;omega
def Atg:Nat:=(2 ^ 240) ^ 5
theorem Aw0:16 * (Atg * Atg) < AWv:=by decide
def Ath:Nat:=(2 ^ 220) ^ 5
theorem BB0 {n:Nat} {A0 A T:AS4} (hn:n<=8) (hE:∀ i j,(A0 i j).natAbs<=2 ^ 40) (hs:Adp n A0) (hp:Ae6 n A0) (H:Ayg n A0 T A) (hB:∀ k,k < n->A k k<=A7x) {k s:Nat} (hk:k < n) (hs2:s < n):(T k s).natAbs<=Ath:=by
  have h1:=A7n hs hp (fun r=>T r s) hk
  have h2:bil n 0 A0 (fun r=>T r s) (fun r=>T r s)=A s s:=by
    rw [H s s hs2 hs2];show _=psum (fun i=>T i s * psum (fun j=>A0 i j * T j s) n) n;unfold bil;refine ATu fun i _=>?_;rw [<- AX2];exact ATu fun j _=>by rw [Agf];grind
  rw [h2] at h1
  have h3:(Agp n A0 k k).natAbs<=dBd (2 ^ 40) 9:=by
    refine Nat.le_trans (Aqa (m:=2 ^ 40) fun i j=>?_) (Aiq AGj AGh);rw [ATy]
    split
    · unfold dl;split <;> decide
    · exact hE i j
  have h4:Agp n A0 k k * A s s<=(dBd (2 ^ 40) 9:Nat) * A7x:=by
    have p0:0<=A s s:=by
      have:A s s=bil n 0 A0 (fun r=>T r s) (fun r=>T r s):=h2.symm;rw [this];exact Air hs hp _ n 0 AGh
    have b1:Agp n A0 k k<=(dBd (2 ^ 40) 9:Nat):=by omega
    have b2:=Int.mul_le_mul_of_nonneg_right b1 p0;have b3:=Int.mul_le_mul_of_nonneg_left (hB s hs2) (show (0:Int)<=(dBd (2 ^ 40) 9:Nat) by omega);omega
  have h5:((dBd (2 ^ 40) 9:Nat):Int) * A7x<=(Ath:Int) * (Ath:Int):=by decide
  have h6:=Awp (x:=T k s) (y:=(Ath:Int)) AGh (Int.le_trans (Int.le_trans h1 h4) h5);omega
structure Auv (n:Nat) (A:AS4):Prop where
  sym:Adp n A
  pos:Ae6 n A
  sz:Aol A n
  lv:Apu A n
  dt:det n A<=10000
structure RSt (n:Nat) (A0 A T:AS4) (i t:Nat):Prop where
  inv:Aup n dm9 A i t
  car:Ayg n A0 T A
  dt:det n A=det n A0
def BCj (n:Nat) (A0:AS4) (k:Nat) (s:List (List Int) × List (List Int)):Prop:=
  ∃ A T i t,RSt n A0 A T i t/\s=(tab n n A,tab n n T)/\k=(Awu n A).toNat * 128 + (128 - (16 * i + t))
theorem A0a {n:Nat} {A:AS4} (hp:Ae6 n A):0<=Awu n A:=by
 have:∀ m,m<=n + 1->0<=psum (fun k=>det k A) m:=fun m=>by
   induction m with
   | zero=>intro _;exact Int.le_refl _
   | succ m ih=>intro h;have h1:=ih AGh;have h2:=hp m AGh;simp only [psum];omega
 exact this _ (Nat.le_refl _)
theorem A7z {n:Nat} {A:AS4} (hd:∀ k,k<=n->det k A<=dm9):Awu n A<=(n + 1:Nat) * dm9:=by
 have:∀ m,m<=n + 1->psum (fun k=>det k A) m<=(m:Nat) * dm9:=fun m=>by
   induction m with
   | zero=>intro _;simp [psum]
   | succ m ih=>intro h;have h1:=ih AGh;have h2:=hd m AGh;simp only [psum];rw [Int.natCast_add,Int.add_mul];omega
 exact this _ (Nat.le_refl _)
theorem A1t {n i j:Nat} {A:AS4} (hn:n<=8) (hj:j < i) (hi:i < n) (hp:Ae6 n A) (hb:∀ i j,i < n->j < n->(A i j).natAbs<=AYy):(Akc A i j).natAbs<=3 * dBd AYy 9:=by
 have b1:(Mn j A i j).natAbs<=dBd AYy 9:=Arv hn hi AGh AGh hb;have b2:(det (j + 1) A).natAbs<=dBd AYy 9:=Amk hn AGh hb;have hd:=hp (j + 1) AGh;unfold Akc;rw [Int.natAbs_neg];have:=Int.natAbs_ediv_le_natAbs (2 * Mn j A i j + det (j + 1) A) (2 * det (j + 1) A);omega
theorem A1u {fuel n:Nat} {A0:AS4} (Ac:1<=n) (hn:n<=8) (hs:Adp n A0) (hp:Ae6 n A0) (hE:∀ i j,(A0 i j).natAbs<=2 ^ 40) (hD:∀ k,k<=n->det k A0<=dm9) (hr:∀ k,k < n->A0 k k<=3 * dm9) (hdt:det n A0<=10000) (hf:AWv < fuel):
    Ok (AYd fuel (tab n n A0)) fun r=> ∃ A T,r=(tab n n A,tab n n T,0)/\Auv n A/\Ayg n A0 T A/\det n A=det n A0/\ ∀ k,k < n->A k k<=3 * dm9:=by
 have Ad:100 < fuel:=Nat.lt_of_le_of_lt AGj hf;have Av:100000000 < fuel:=Nat.lt_of_le_of_lt AGj hf;have Ak:∀ i j,i < n->j < n->(A0 i j).natAbs<=AYy:=fun i j _ _=>Nat.le_trans (hE i j) AGj;unfold AYd;refine AGt (Arx Ac hn Ak Ad) fun v hv=>?_;have Ap:=hv.2 ⟨hs,hp⟩;subst Ap;refine ATr (fun h=>absurd rfl h) fun _=>AGt (AUc (A7u hn Ak Ad)) fun b hb=>?_;subst hb;refine ATr (fun h=>by simp [hdt] at h) fun _=>?_;refine AGt (AUc (Azr (A:=tab n n A0) (by rw [AT5];omega) (fun z hz=>by rw [An3 z hz];omega) (by rw [AT5];omega))) fun x hx=>?_;subst hx;rw [AT5];refine AGt (AUc (Az3 Ac AGh Ad)) fun x hx=>?_;subst hx;dsimp only;refine AGt (A44 (BCj n A0) (Q:=fun r=> ∃ A T,r=(tab n n A,tab n n T,0)/\Auv n A/\Ayg n A0 T A/\det n A=det n A0/\ ∀ k,k < n->A k k<=3 * dm9) (fun k s hI=>?_) (k:=(Awu n A0).toNat * 128 + 128) ⟨A0,dl,0,0,⟨Art Ac hs hp hD hr,Az8,rfl⟩,rfl,rfl⟩ ?_) fun r hr=>AGp hr
 ·obtain ⟨A,T,i,t,R,rfl,rfl⟩:=hI;have L:=R.inv;have hbd:=A7y hn L;have hb:∀ i j,i < n->j < n->(A i j).natAbs<=AYy:=fun i j hi hj=>Nat.le_trans (Az9 L.sym L.pos hbd hi hj) AGj;have hT:∀ k s,k < n->s < n->(T k s).natAbs<=Ath:=fun k s hk Ab=>BB0 hn hE hs hp R.car hbd hk Ab;have hTD:Ath<=Atg:=by decide
  have hMD:AYy<=Atg:=by decide
  unfold Abm;refine AGt (BAa Ac hn L.pos hb hf) fun r hr=>?_
  have prod:∀ {U:AS4},(∀ i j,i < n->j < n->(U i j).natAbs<=3 * dBd AYy 9)->(AV0 fuel (tab n n A) (tab n n U)=some (tab n n (AUt n (AUt n (trF U) A) U))/\AU2 fuel (tab n n T) (tab n n U)=some (tab n n (AUt n T U))):=fun {U} hU=>by
    have Am:∀ i j,i < n->j < n->(U i j).natAbs<=Atg:=fun i j hi hj=>Nat.le_trans (hU i j hi hj) AGj
    refine ⟨A7t Ac AGh Aw0 (fun i j hi hj=>Nat.le_trans (hb i j hi hj) hMD) Am (fun i j hi hj=>?_) Ad,?_⟩
    · have h1:=psum_abs (f:=fun l=>U l i) (g:=fun l=>A l j) (D:=3 * dBd AYy 9) n fun l hl=>⟨hU l i hl hi,Nat.le_trans (hb l j hl hj) AGj⟩
      have h2:n * ((3 * dBd AYy 9) * (3 * dBd AYy 9))<=8 * ((3 * dBd AYy 9) * (3 * dBd AYy 9)):=Nat.mul_le_mul_right _ hn
      have h3:(AUt n (trF U) A i j).natAbs=(psum (fun l=>U l i * A l j) n).natAbs:=rfl
      have h4:∀ l,l < n->(U l i).natAbs<=3 * dBd AYy 9/\(A l j).natAbs<=AYy:=fun l hl=>⟨hU l i hl hi,hb l j hl hj⟩
      have h5:(psum (fun l=>U l i * A l j) n).natAbs<=n * (3 * dBd AYy 9 * AYy):=by
        refine QF.psum_abs fun l hl=>?_
        rw [Int.natAbs_mul]
        exact Nat.mul_le_mul (h4 l hl).1 (h4 l hl).2
      have h6:n * (3 * dBd AYy 9 * AYy)<=8 * (3 * dBd AYy 9 * AYy):=Nat.mul_le_mul_right _ hn
      have h7:8 * (3 * dBd AYy 9 * AYy)<=Atg:=by decide
      rw [h3]
      exact Nat.le_trans h5 (Nat.le_trans h6 h7)
    · unfold AU2
      rw [A4z Ac AGh Aw0 (fun i j hi hj=>Nat.le_trans (hT i j hi hj) hTD) Am Ad]
      rfl
  rcases hr with ⟨rfl,hsz,hlv⟩ | ⟨i',j,hji,hi',hbad,hsz,hzi,hlv,rfl⟩ | ⟨j,hj,hbad,hsz,hlv,rfl⟩
  ·dsimp only;refine ATr (fun _=>?_) (fun h=>absurd rfl h);have hrest:=Am1 hn L fun l hl=>hsz i l hl L.hi;refine AGt (AUc (BBx Ac AGh (fun i j hi hj=>Nat.lt_of_le_of_lt (Az9 L.sym L.pos hrest hi hj) AGj) Ad)) fun x hx=>AGp ?_;subst hx;exact ⟨A,T,rfl,⟨L.sym,L.pos,hsz,hlv,by rw [R.dt];exact hdt⟩,R.car,R.dt,hrest⟩
  ·dsimp only;refine ATr (fun h=>absurd h AGj) fun _=>?_
   have hU:∀ r s,r < n->s < n->(Anp A i' j r s).natAbs<=3 * dBd AYy 9:=fun r s hr Ab=>by
     have hdl:∀ a b,(dl a b).natAbs<=3 * dBd AYy 9:=fun a b=>by unfold dl;split <;> decide
     unfold Anp
     rw [ATy]
     split
     · split
       · exact A1t hn hji hi' L.pos hb
       · exact hdl _ _
     · exact hdl _ _
   obtain ⟨e1,e2⟩:=prod hU;refine AGt (AUc e1) fun x hx=>AGt (AUc e2) fun y hy=>AGp ?_;subst hx;subst hy;obtain ⟨L2,hm⟩:=A1r hn L hi' hji hbad hsz hzi hlv;have hsum:Awu n (Aoi A i' j (Akc A i' j))=Awu n A:=ATu fun k _=>Ag7 hji;refine ⟨_,?_,Aoi A i' j (Akc A i' j),AUt n T (Anp A i' j),i',i' - j,⟨L2,Atf R.car fun r s hr Ab=>Awy hji hi' hr Ab,by rw [Ag7 hji];exact R.dt⟩,?_,rfl⟩
   ·rw [hsum];have:=L.hi;have:=L.ht;omega
   ·rw [Agi fun r s hr Ab=>Awy hji hi' hr Ab]
  ·dsimp only;refine ATr (fun h=>absurd h AGj) fun _=>?_
   have hU:∀ r s,r < n->s < n->(AXw dl (j + 1) j r s).natAbs<=3 * dBd AYy 9:=fun r s hr Ab=>by
     rw [Auu];unfold dl;split <;> decide
   obtain ⟨e1,e2⟩:=prod hU;refine AGt (AUc e1) fun x hx=>AGt (AUc e2) fun y hy=>AGp ?_;subst hx;subst hy;obtain ⟨L2,hm⟩:=A1s hn L hj hbad (fun r l h1 h2=>hsz r l h1 AGh) fun r hr=>hlv r AGh;refine ⟨_,?_,swA A j,AUt n T (AXw dl (j + 1) j),0,0,⟨L2,Atf R.car fun r s hr Ab=>Az7 hj hr Ab,by rw [Azw AGh];exact R.dt⟩,?_,rfl⟩
   ·have h1:=A0a L.pos;have h2:=A0a L2.pos;have:=L.hi;have:=L.ht;omega
   ·rw [Agi fun r s hr Ab=>Az7 hj hr Ab]
 ·have h1:=A7z hD;have h2:((n + 1:Nat):Int) * dm9<=9 * dm9:=Int.mul_le_mul_of_nonneg_right AGh AGj;have h3:(9 * dm9)=387420489:=by decide
  have h4:387420489 * 128 + 128 < AWv:=by decide
  omega
end Go.Proofs.YthbndcbclhkepaaGreatDoor
