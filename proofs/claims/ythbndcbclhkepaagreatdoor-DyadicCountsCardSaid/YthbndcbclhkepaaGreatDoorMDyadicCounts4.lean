/-
  Texts of a proof, joined. Conditions stand in each statement.
-/
import Derived.Test.YthbndcbclhkepaaGreatDoorMDyadicCounts3
set_option linter.unusedVariables false
set_option linter.unusedSimpArgs false
namespace Go.Proofs.YthbndcbclhkepaaGreatDoor.Ig
open Go Go.QF
set_option maxRecDepth 100000
structure A87 (h:AGt) (v:Value) (L:List Nat) (v':Value) (L':List Nat):Prop where
  sl:Sl h v' (L'.map Afk)
  cap:Af1 v'
  dig:Dig L'
  blk:v'.ownBlock=v.ownBlock
  val:nv L'=nv L
  len:L'.length<=L.length
  tg:∀ g,v.ownBlock=some g-> ∃ cur off,h[g]? =some (.cells cur 170 off)
theorem A87.ds {h:AGt} {lo:Nat} {v v':Value} {L L':List Nat} (H:A87 h v L v' L') (hl:∀ g,v.ownBlock=some g->lo<=g):DS h lo v' L':=⟨H.sl,H.cap,H.dig,fun g hg=>hl g (H.blk ▸ hg),fun g hg=>H.tg g (H.blk ▸ hg)⟩
theorem A56 {L:List Nat} (h:L[L.length - 1]? =some 0):nv (L.take (L.length - 1))=nv L:=by
 have h1:L=L.take (L.length - 1) ++ [0]:=by
   have:=At0 h
   rw [this,List.take_of_length_le (by have:=(List.getElem?_eq_some_iff.1 h).1;omega)]
 conv=>rhs;rw [h1,Adp]
 simp
theorem Aeo {h:AGt} {v:Value} {L:List Nat} (H:DS h 0 v L) (hn:L.length<=1000000):ATs Tryz.prog 172 #[v] h fun x h'=>h'=h/\ ∃ L',A87 h v L x L'/\TL L':=by
 refine AT5 (l:=[_]) mx Tryz.func172 rfl rfl rfl rfl rfl AGx (AGm (AGu (AGo (AGp (AX0 1048569 (fun y:Value × List Nat=>[(0,y.1)]) (fun k y h'=>h'=h/\y.2.length=k/\A87 h v L y.1 y.2) AGx L.length (v,L) ?_ ⟨rfl,trivial⟩ ?_)))))
 ·exact ⟨rfl,rfl,H.sl,H.cap,H.dig,rfl,rfl,Nat.le_refl _,H.tg⟩
 rintro k ⟨u,Lu⟩ s1 h ⟨rfl,rfl,HT⟩;dsimp only at HT ⊢;refine AGo (AGm (AGj (Aoh ATf rfl HT.sl ?_)));rw [List.length_map];have hLlen:=HT.len;refine Aju rfl rfl (fun Aa=>?_) (fun Aa=>?_)
 ·refine AGj (AUn 6 true AGx rfl rfl (AGj (AUn 6 true AGx rfl rfl (AGj (AUn 6 true AGx rfl rfl (Aoh ATf rfl HT.sl ?_))))));rw [List.length_map];refine AUn 6 true AGx rfl rfl (Aet rfl rfl AGi AGi ?_);rw [show ((Lu.length:Nat):Int) - 1=((Lu.length - 1:Nat):Int) by omega];obtain ⟨x,hx⟩:∃ x,Lu[Lu.length - 1]? =some x:=⟨_,List.getElem?_eq_getElem AGi⟩;refine AUn 6 true AGx rfl rfl (Ary ATf rfl HT.sl rfl (Ajx hx) fun a1 Ab=>AUn 6 true AGx rfl rfl (AT3 AU8 rfl Ab (AUn 6 true AGx rfl rfl (Ama rfl rfl (fun Ac=>?_) (fun Ac=>?_)))))
  ·refine ATj rfl (AGr (ATp rfl (AGy (q_t (AGp (AS3 (AGj (AGj (Aoh ATf rfl HT.sl ?_)))))))));rw [List.length_map];refine Aet rfl rfl AGi AGi ?_;rw [show ((Lu.length:Nat):Int) - 1=((Lu.length - 1:Nat):Int) by omega];have Ad:Lu[Lu.length - 1]? =some 0:=by rw [hx];congr 1;omega
   refine Au4 (v:=u) ATf rfl HT.sl HT.cap rfl (by rw [List.length_map];omega) fun v9 Af Ag Ah=>?_;refine ATi (ATh (q_b (q_t ?_)));exact ⟨Lu.length - 1,(v9,Lu.take (Lu.length - 1)),by first | omega | (dsimp only;omega),⟨rfl,ATv,⟨by dsimp only;rw [List.map_take];exact Af,Ag,Ao2 HT.dig _,Ah.trans HT.blk,by rw [A56 Ad];exact HT.val,by rw [List.length_take];have:=HT.len;omega,HT.tg⟩⟩,rfl,trivial⟩
  ·refine ATj rfl (AGr (ATr rfl (AS8 (ATa (ATa (AT7 (q_t (AGm (AGj (AGu (AGz (⟨_,AS2,?_⟩))))))))))));refine ⟨rfl,Lu,HT,fun y hy=>?_⟩
   first
   | (have:Lu=[]:=List.length_eq_zero_iff.1 AGi;rw [this] at hy;cases hy)
   | (rw [List.getLast?_eq_getElem?,hx] at hy;injection hy with hy;subst hy;omega)
 ·refine AGj (AUd 6 false AGx rfl rfl (AUd 6 false AGx rfl rfl (AUd 6 false AGx rfl rfl (AUd 6 false AGx rfl rfl (AUd 6 false AGx rfl rfl (AUd 6 false AGx rfl rfl (AUd 6 false AGx rfl rfl (ATm rfl (AGr (ATr rfl (AS8 (ATa (ATa (AT7 (q_t (AGm (AGj (AGu (AGz (⟨_,AS2,?_⟩))))))))))))))))))));refine ⟨rfl,Lu,HT,fun y hy=>?_⟩
  first
  | (have:Lu=[]:=List.length_eq_zero_iff.1 AGi;rw [this] at hy;cases hy)
  | (rw [List.getLast?_eq_getElem?,hx] at hy;injection hy with hy;subst hy;omega)
theorem Ahx (w:Nat) (hw:w < 18446744073709551616) (h:AGt):ATs Tryz.prog 169 #[.int .u64 (w:Int)] h fun x h'=>Ext h h'/\ ∃ L,DS h' (Array.size h) x L/\TL L/\nv L=w/\L.length<=2:=by
 refine AT5 (l:=[_]) mx Tryz.func169 rfl rfl rfl rfl rfl AGx (AGm (ATw (AGj (Aes AVg AVx rfl ?_))));rw [show IntKind.u32.wrap (w:Int)=((w % 4294967296:Nat):Int) by rw [wrap_u32];omega];refine AGj (Aqt (n:=32) rfl rfl AGk (Aes AVg AVx rfl ?_));rw [show IntKind.u32.wrap ((w:Int) / 2 ^ 32)=((w / 4294967296:Nat):Int) by rw [wrap_u32];omega];have e1:IntKind.u32.wrap (w:Int)=((w % 4294967296:Nat):Int):=by rw [wrap_u32];omega
 have e2:IntKind.u32.wrap ((w:Int) / 2 ^ 32)=((w / 4294967296:Nat):Int):=by rw [wrap_u32];omega
 have hdg:Dig [w % 4294967296,w / 4294967296]:=by intro x hx;simp only [List.mem_cons,List.not_mem_nil,or_false] at hx;rcases hx with rfl | rfl <;> omega
 refine A4t ([w % 4294967296,w / 4294967296].map Afk) ATf Adv rfl (fun _=>trivial) rfl AGi AGi rfl (by simp [Afk,isOne]) fun g1 v1 h1 Ad E1 Ae Aj=>?_;have Ak:=E1.1;have Z2:=(Ext.refl h).trans E1;have Ab:=Ad.ds (lo:=Array.size h) hdg Ae;refine ATd trivial rfl (Aeo (Ab.mono (Nat.zero_le _)) ATv) fun x3 h1 hk=>?_;obtain ⟨rfl,L2,HT,htl⟩:=hk;refine ⟨trivial,?_⟩;refine AGu (AGz (⟨_,AS2,?_⟩));exact ⟨E1,L2,HT.ds Ab.lo,htl,by rw [HT.val];simp only [nv];omega,by have:=HT.len;simpa using this⟩
theorem Arj {h:AGt} {lo:Nat} {v:Value} {L:List Nat} (H:DS h lo v L) (hn:L.length<=2):ATs Tryz.prog 184 #[v] h fun x h'=>h'=h/\x= .int .u64 (nv L:Int):=by
 refine AT5 (l:=[_]) mx Tryz.func184 rfl rfl rfl rfl rfl AGx (AGm (ATw (AGu (AGo (AGm (AGj (Aoh ATf rfl H.sl ?_)))))));rw [List.length_map];refine AGj (AGr (AGp (AX0 2096952 (fun y:Nat × Nat=>[(8,.int .i64 (y.1:Int)),(3,.int .u64 (y.2:Int))]) (fun k y h'=>h'=h/\k=L.length - y.1/\y.1<=L.length/\y.2=nv (L.take y.1)) AGx L.length (0,0) ?_ ⟨rfl,rfl,trivial⟩ ?_)))
 ·exact ⟨rfl,rfl,Nat.zero_le _,rfl⟩
 rintro k ⟨i,w⟩ s1 h ⟨rfl,rfl,hi,hw⟩;dsimp only at hi hw ⊢;subst hw;refine AGm (AXh rfl rfl (fun Ab=>?_) (fun Ab=>?_))
 ·refine AGr (AGo (ATp rfl (AGy (q_t (AGo (AGp (AGo ?_)))))));obtain ⟨x,hx⟩:∃ x,L[i]? =some x:=⟨_,List.getElem?_eq_getElem AGi⟩;have hxb:=H.dig x (List.mem_of_getElem? hx);refine AS3 (AGj (Ary ATf rfl H.sl rfl (Ajx hx) fun Af Ac=>AT3 AU8 rfl Ac (ATi (AGu (AS3 (AGj (AGj (BAd AVx AVg rfl (by rw [wrap_u64];omega) ?_))))))));refine AGj (Agg rfl rfl AGi AGi ?_);rw [show (32:Int) * (i:Int)=((32 * i:Nat):Int) by omega];refine At2 (n:=32 * i) rfl rfl (by show 32 * i<=64;omega) ?_;have Aa:i=0∨i=1:=by omega
  have hlt:=Ai2 H.dig hi
  have hsh:IntKind.u64.wrap ((x:Int) * 2 ^ (32 * i))=((2 ^ (32 * i) * x:Nat):Int):=by
    rw [wrap_u64]
    rcases Aa with rfl | rfl
    · simp;omega
    · simp;omega
  rw [hsh]
  have Ad:2 ^ (32 * i) * x < 18446744073709551616:=by
    rcases Aa with rfl | rfl
    · simp;omega
    · simp;omega
  have Ae:nv (L.take i) < 18446744073709551616:=by
    rcases Aa with rfl | rfl
    · simp at hlt ⊢;omega
    · simp at hlt ⊢;omega
  refine Amz rfl rfl (.inr (.inl rfl)) (A4v Ae Ad) ?_;rw [A4w (by rw [<- Aok];exact hlt),<- Aok,<- AUu hx];refine ATi (ATh (q_b (q_t (AS3 (Ab5 rfl AGi (AGj (AGr ?_)))))));exact ⟨L.length - (i + 1),(i + 1,nv (L.take (i + 1))),by first | omega | (dsimp only;omega),⟨rfl,rfl,by first | omega | (dsimp only;omega),rfl⟩,rfl,rfl,trivial⟩
 ·refine AGr (AGo (ATr rfl (AS8 (ATa (ATa (AT7 (q_t (AGm (AGj (AGu (AGz (⟨_,AS2,?_⟩))))))))))));obtain rfl:i=L.length:=by omega
  exact ⟨rfl,by rw [List.take_length] at *;rfl⟩
theorem Ago (w:World):(Instr.build 93 #[]).run Tryz.prog w= .ok (.agg #[.bool false,.slice none 0 0]) w:=by kernel_rfl
theorem Ao7 (b:Bool) (a:Option Addr) (n c:Nat) (w:World):(Instr.build 93 #[(0,.bool b),(1,.slice a n c)]).run Tryz.prog w= .ok (.agg #[.bool b,.slice a n c]) w:=by kernel_rfl
theorem Aca {h:AGt} {lo:Nat} {s:Value} {L:List Nat} (neg:Bool) (H:DS h lo s L) (htl:TL L) (hn:L.length<=100):ATs Tryz.prog 168 #[.bool neg,s] h fun x h'=>Ext h h'/\ZV h' lo x (sgn neg (nv L)):=by
 obtain ⟨a,n,c,rfl,hnc⟩:=H.cap;refine AT5 (l:=[_,_]) mx Tryz.func168 rfl rfl rfl rfl rfl AGx (AGm (AYx [.bool false,.slice none 0 0] AXi rfl (fun _=>trivial) fun Aa h2 V3 E4 Ak Ar=>?_));have Au:Array.size h<=Aa:=Ak;have Av:=E4.1;have Z8:=(Ext.refl h).trans E4;refine AGr (AGo (AGm (AGj (Aoh ATf rfl (H.sl.ext E4) ?_))));rw [List.length_map];refine Ama rfl rfl (fun Am=>?_) (fun Am=>?_)
 ·refine AGr (ATp rfl (AGm (AV6 (v:= .agg #[.bool false,.slice none 0 0]) Ago (AU0 [.bool false,.slice none 0 0] AUa rfl rfl rfl rfl (by simp [isOne]) V3 fun h9 Ao Ad=>?_))));have Af:=E4.thenUpd Ad (fun k hk=>by have Ac:k=Aa:=hk;omega);have Ax:=Ad.1;have Ay:=Z8.thenUpd Ad (fun k hk=>by have Ac:k=Aa:=hk;omega);have Az:=E4.thenUpd Ad (fun k hk=>by have Ac:k=Aa:=hk;omega);refine AGr (AGz (ATc (⟨_,AU7 AUa rfl rfl Ao,?_⟩)))
  first
  | (have h0:L=[]:=List.length_eq_zero_iff.1 AGi
     subst h0
     exact ⟨Af,⟨false,_,[],rfl,Ai1 _ _,Akf,ATv,by cases neg <;> rfl⟩⟩)
  | exact ⟨Af,⟨neg,_,L,rfl,H.ext Af,htl,hn,rfl⟩⟩
 ·refine AGr (ATr rfl (AGy (q_t (AGm (AGj (AGj (AV6 (v:= .agg #[.bool neg,.slice a n c]) (Ao7 neg a n c) (AU0 [.bool neg,.slice a n c] AUa rfl rfl rfl rfl (by simp [isOne]) V3 fun A3 Ap Ae=>?_))))))));have Ah:=E4.thenUpd Ae (fun k hk=>by have Ac:k=Aa:=hk;omega);have A4:=Ae.1;have A5:=Z8.thenUpd Ae (fun k hk=>by have Ac:k=Aa:=hk;omega);have A6:=E4.thenUpd Ae (fun k hk=>by have Ac:k=Aa:=hk;omega);refine AGr (AGz (⟨_,AU7 AUa rfl rfl Ap,?_⟩))
  first
  | (have h0:L=[]:=List.length_eq_zero_iff.1 AGi
     subst h0
     exact ⟨Ah,⟨false,_,[],rfl,Ai1 _ _,Akf,ATv,by cases neg <;> rfl⟩⟩)
  | exact ⟨Ah,⟨neg,_,L,rfl,H.ext Ah,htl,hn,rfl⟩⟩
theorem Small_ok {n:Int} (hn: -9223372036854775808<=n/\n<=9223372036854775807) (h:AGt):ATs Tryz.prog 151 #[.int .i64 n] h fun x h'=>Ext h h'/\ZV h' (Array.size h) x n:=by
 refine AT5 (l:=[_]) mx Tryz.func151 rfl rfl rfl rfl rfl AGx (AGm (AYx [.bool false,.slice none 0 0] AXi rfl (fun _=>trivial) fun Aa h2 V3 E4 Az By=>?_));have Bz:Array.size h<=Aa:=Az;have B1:=E4.1;have Z8:=(Ext.refl h).trans E4;refine AGr (AGo (AGm (AGj (AXh rfl rfl (fun A3=>?_) (fun A3=>?_)))))
 ·refine AGr (ATp rfl (AGm (AGj (Aes Ado AVg rfl ?_))));rw [show IntKind.u64.wrap n=n + 18446744073709551616 by rw [wrap_u64];omega];refine Aqq rfl ?_;rw [show IntKind.u64.wrap (0 - (n + 18446744073709551616))=((n.natAbs:Nat):Int) by rw [wrap_u64];omega];refine ATd trivial rfl (Ahx n.natAbs AGi _) fun x9 B4 hk=>?_;obtain ⟨Ag,L1,Ah,Ao,Ap,A5⟩:=hk;refine ⟨trivial,?_⟩;have B5:=Ag.1;have A6:=Z8.trans Ag;have A7:=E4.trans Ag;have A8:=V3.ext Ag;have A9:=E4.trans Ag;refine ATd trivial rfl (Aca true Ah Ao AGi) fun B6 B7 hk=>?_;obtain ⟨Ac,Aq⟩:=hk;refine ⟨trivial,?_⟩;have B8:=Ac.1;have Ba:=A6.trans Ac;have Bb:=A7.trans Ac;have Bc:=A8.ext Ac;have Be:=A9.trans Ac;have Bf:=Ah.ext Ac;obtain ⟨Ai,s2,L2,rfl,Aj,Au,Av,Aw⟩:=Aq.out;refine AU0 [.bool Ai,s2] AUa rfl rfl rfl rfl (Abn Aj.cap) Bc fun B9 Bg Ad=>?_;have Bh:=Bb.thenUpd Ad (fun k hk=>by have Ak:k=Aa:=hk;omega);have Ca:=Ad.1;have Cb:=Ba.thenUpd Ad (fun k hk=>by have Ak:k=Aa:=hk;omega);have Cd:=Be.thenUpd Ad (fun k hk=>by have Ak:k=Aa:=hk;omega);have Ce:=Bf.updLo Ad AGi;have Bi:=Aj.updLo Ad AGi;refine AGr (AGz (ATc (⟨_,AU7 AUa rfl rfl Bg,?_⟩)));exact ⟨Bh,⟨Ai,s2,L2,rfl,Bi.mono AGi,Au,Av,by rw [<- Aw,Ap];unfold sgn;first | (rw [if_pos rfl];omega) | (rw [if_neg AGk];omega)⟩⟩
 ·refine AGr (ATr rfl (AGy (q_t (AGm (AGj (Aes Ado AVg rfl ?_))))));rw [show IntKind.u64.wrap n=((n.natAbs:Nat):Int) by rw [wrap_u64];omega];refine ATd trivial rfl (Ahx n.natAbs AGi _) fun Cf Cg hk=>?_;obtain ⟨Am,L1,Ah,Ao,Ap,A5⟩:=hk;refine ⟨trivial,?_⟩;have Ch:=Am.1;have Bj:=Z8.trans Am;have Bl:=E4.trans Am;have Bm:=V3.ext Am;have Bn:=E4.trans Am;refine ATd trivial rfl (Aca false Ah Ao AGi) fun Ci Cj hk=>?_;obtain ⟨Ae,Aq⟩:=hk;refine ⟨trivial,?_⟩;have Ck:=Ae.1;have Bo:=Bj.trans Ae;have Bp:=Bl.trans Ae;have Bq:=Bm.ext Ae;have Br:=Bn.trans Ae;have Bt:=Ah.ext Ae;obtain ⟨Ai,s2,L2,rfl,Aj,Au,Av,Aw⟩:=Aq.out;refine AU0 [.bool Ai,s2] AUa rfl rfl rfl rfl (Abn Aj.cap) Bq fun Cm Bu Af=>?_;have Bv:=Bp.thenUpd Af (fun k hk=>by have Ak:k=Aa:=hk;omega);have Cn:=Af.1;have Co:=Bo.thenUpd Af (fun k hk=>by have Ak:k=Aa:=hk;omega);have Cp:=Br.thenUpd Af (fun k hk=>by have Ak:k=Aa:=hk;omega);have Cq:=Bt.updLo Af AGi;have Bw:=Aj.updLo Af AGi;refine AGr (AGz (⟨_,AU7 AUa rfl rfl Bu,?_⟩));exact ⟨Bv,⟨Ai,s2,L2,rfl,Bw.mono AGi,Au,Av,by rw [<- Aw,Ap];unfold sgn;first | (rw [if_pos rfl];omega) | (rw [if_neg AGk];omega)⟩⟩
theorem Aqh {h:AGt} {lo:Nat} {v:Value} {L:List Nat} (H:DS h lo v L) (hn:L.length<=1000000):ATs Tryz.prog 173 #[v] h fun x h'=>Ext h h'/\DS h' (Array.size h) x L:=by
 obtain ⟨a,n,c,rfl,hnc⟩:=H.cap;refine AT5 (l:=[_]) mx Tryz.func173 rfl rfl rfl rfl rfl AGx (AGm (AGu (AGo (AGm (AGj (A77 Tryz.underlying91 rfl ?_))))));cases Ad:a.isNone
 ·refine AGr (ATr rfl (AGy (q_t (AGo ?_))));obtain ⟨xa,rfl⟩:∃ q,a=some q:=Option.ne_none_iff_exists'.1 (fun he=>by rw [he] at Ad;cases Ad);refine AS3 (BDh ATf (fun _=>trivial) fun g1 v1 h1 Af E1 Ag Ap=>?_);have Aq:=E1.1;have Z2:=(Ext.refl h).trans E1;refine AGj ?_;by_cases hL:L=[]
  ·subst hL;obtain rfl:n=0:=A4u H;refine BA6 ATf (fun _=>trivial) rfl Af rfl fun v2 h2 Ab U2=>AGu (AGz (⟨_,AS2,?_⟩));exact ⟨E1.thenUpd U2 (fun k hk=>by have Ai:k=g1:=hk;omega),Ab.ds H.dig Ag⟩
  refine A99 ATf Adv rfl trivial rfl Af rfl (H.sl.ext E1) (fun u hu=>by obtain ⟨y,_,rfl⟩:=List.mem_map.1 hu;rfl) (by simpa using hL) (by simp;omega) (by simp;omega) fun v2 g2 h2 Ab Ak U2=>?_;refine ⟨trivial,?_⟩;have XZ:=E1.thenUpd U2 (fun k hk=>by have Ai:k=g1:=hk;omega);have hg2l:Array.size h<=g2:=by rcases Ak with rfl | rfl;exact Ag;omega
  refine AGu (AGz (⟨_,AS2,?_⟩));exact ⟨XZ,Ab.ds H.dig hg2l⟩
 ·refine AGr (ATp rfl (AGo ?_));have h0:L=[]:=A78 (Option.isNone_iff_eq_none.1 (by assumption)) H;refine AS3 (AGu (AGz (ATc (⟨_,AS2,?_⟩))));subst h0;exact ⟨Ext.refl _,Ai1 _ _⟩
def AYc (z:Int):Int:=if z < 0 then -1 else if z=0 then 0 else 1
theorem sign_zero {z:Int} (h:z=0):AYc z=0:=by subst h;rfl
theorem sign_neg {z:Int} (h:z < 0):AYc z= -1:=if_pos h
theorem Ai4 {z:Int} (h:0 < z):AYc z=1:=by unfold AYc;rw [if_neg AGi,if_neg AGi]
theorem Sign_ok {h:AGt} {lo:Nat} {va:Value} {z:Int} (HA:ZV h lo va z):ATs Tryz.prog 154 #[va] h fun x h'=>Ext h h'/\x= .int .i64 (AYc z):=by
 obtain ⟨na,sa,LA,rfl,HDa,htla,hla,hza⟩:=HA.out;have hna:LA.length<=1000000:=by omega
 refine AT5 (l:=[_]) mx Tryz.func154 rfl rfl rfl rfl rfl AGx (AGm (Abq [.bool na,sa] (fun _=>trivial) rfl rfl fun Aj h2 V3 E4 Ak Aq=>?_));have Ar:Array.size h<=Aj:=Ak;have Au:=E4.1;have Z8:=(Ext.refl h).trans E4;refine AGu (AGo (AGp (AGm (AX1 (fs:=1) Ad5 AGx AGk rfl (AT3 AZy rfl (V3.cell (i:=1) rfl) (ATd trivial rfl (Aeo (DS.mono (HDa.ext E4) (Nat.zero_le _)) hna) fun x9 h2 hk=>?_))))));obtain ⟨rfl,L1,Af,Ag⟩:=hk;refine ⟨trivial,?_⟩;have Am:=Af.ds (lo:=lo) HDa.lo;refine AUo ATf rfl Am (Ama rfl rfl (fun Ao=>?_) (fun Ao=>?_))
 ·refine AGu (ATp rfl (AGm (AGu (AGz (AUg (ATc (⟨_,AS2,?_⟩)))))))
  first
  | (have h0:L1=[]:=List.length_eq_zero_iff.1 AGi
     have h1:nv LA=0:=by rw [<- Af.val,h0];rfl
     exact ⟨E4,congrArg (Value.int .i64) (sign_zero (hza.trans (by rw [h1];cases na <;> rfl))).symm⟩)
  | (have h1:nv LA≠0:=fun h0=>by rw [<- Af.val] at h0;have:=congrArg List.length (AY4 Ag h0);rw [List.length_nil] at this;omega
     have h2:z=sgn na (nv LA):=hza
     have h3:na=true:=by assumption
     exact ⟨E4,congrArg (Value.int .i64) (sign_neg (by rw [h2,h3];unfold sgn;rw [if_pos rfl];omega)).symm⟩)
  | (have h1:nv LA≠0:=fun h0=>by rw [<- Af.val] at h0;have:=congrArg List.length (AY4 Ag h0);rw [List.length_nil] at this;omega
     have h2:z=sgn na (nv LA):=hza
     have h3:na=false:=by assumption
     exact ⟨E4,congrArg (Value.int .i64) (Ai4 (by rw [h2,h3];unfold sgn;rw [if_neg AGk];omega)).symm⟩)
 ·refine AGu (ATr rfl (AGm (AX1 (fs:=1) Adm AGx AGk rfl (AT3 AWl rfl (V3.cell (i:=0) rfl) (AGu (⟨_,rfl,fun Ap=>?_,fun Ap=>?_⟩))))))
  ·refine AGm (AGu (AGz (AUg (ATc (⟨_,AS2,?_⟩)))))
   first
   | (have h0:L1=[]:=List.length_eq_zero_iff.1 AGi
      have h1:nv LA=0:=by rw [<- Af.val,h0];rfl
      exact ⟨E4,congrArg (Value.int .i64) (sign_zero (hza.trans (by rw [h1];cases na <;> rfl))).symm⟩)
   | (have h1:nv LA≠0:=fun h0=>by rw [<- Af.val] at h0;have:=congrArg List.length (AY4 Ag h0);rw [List.length_nil] at this;omega
      have h2:z=sgn na (nv LA):=hza
      have h3:na=true:=by assumption
      exact ⟨E4,congrArg (Value.int .i64) (sign_neg (by rw [h2,h3];unfold sgn;rw [if_pos rfl];omega)).symm⟩)
   | (have h1:nv LA≠0:=fun h0=>by rw [<- Af.val] at h0;have:=congrArg List.length (AY4 Ag h0);rw [List.length_nil] at this;omega
      have h2:z=sgn na (nv LA):=hza
      have h3:na=false:=by assumption
      exact ⟨E4,congrArg (Value.int .i64) (Ai4 (by rw [h2,h3];unfold sgn;rw [if_neg AGk];omega)).symm⟩)
  ·refine AGy (q_b (q_t (AGm (AGu (AGz (⟨_,AS2,?_⟩))))))
   first
   | (have h0:L1=[]:=List.length_eq_zero_iff.1 AGi
      have h1:nv LA=0:=by rw [<- Af.val,h0];rfl
      exact ⟨E4,congrArg (Value.int .i64) (sign_zero (hza.trans (by rw [h1];cases na <;> rfl))).symm⟩)
   | (have h1:nv LA≠0:=fun h0=>by rw [<- Af.val] at h0;have:=congrArg List.length (AY4 Ag h0);rw [List.length_nil] at this;omega
      have h2:z=sgn na (nv LA):=hza
      have h3:na=true:=by assumption
      exact ⟨E4,congrArg (Value.int .i64) (sign_neg (by rw [h2,h3];unfold sgn;rw [if_pos rfl];omega)).symm⟩)
   | (have h1:nv LA≠0:=fun h0=>by rw [<- Af.val] at h0;have:=congrArg List.length (AY4 Ag h0);rw [List.length_nil] at this;omega
      have h2:z=sgn na (nv LA):=hza
      have h3:na=false:=by assumption
      exact ⟨E4,congrArg (Value.int .i64) (Ai4 (by rw [h2,h3];unfold sgn;rw [if_neg AGk];omega)).symm⟩)
theorem Neg_ok {h:AGt} {lo:Nat} {va:Value} {z:Int} (HA:ZV h lo va z):ATs Tryz.prog 171 #[va] h fun x h'=>Ext h h'/\ZV h' (Array.size h) x (-z):=by
 obtain ⟨na,sa,LA,rfl,HDa,htla,hla,hza⟩:=HA.out;have hna:LA.length<=1000000:=by omega
 refine AT5 (l:=[_]) mx Tryz.func171 rfl rfl rfl rfl rfl AGx (AGm (Abq [.bool na,sa] (fun _=>trivial) rfl rfl fun Am h2 V3 E4 Az Bx=>?_));have By:Array.size h<=Am:=Az;have Bz:=E4.1;have Z8:=(Ext.refl h).trans E4;refine AYx [.bool false,.slice none 0 0] AXi rfl (fun _=>trivial) fun Ad Ah A4 Ae A5 B1=>?_;have B3:Array.size h<=Ad:=Nat.le_trans E4.1 A5;have nebq1bq9:Am≠Ad:=by have:=V3.lt;omega
 have B4:=Ae.1;have A6:=Z8.trans Ae;have Ap:=E4.trans Ae;have Aq:=V3.ext Ae;have A7:=E4.trans Ae;refine AGr (AGo (AVa (fun h'=>Ext Ah h') AGx ?_));have Af:=Ext.refl Ah;refine AX1 (fs:=1) Adm AGx AGk rfl (AU1 AWl rfl Af (fun h' hb=>(Aq.ext hb).cell (i:=0) rfl) (AWq rfl (AX1 (fs:=1) Ad5 AGx AGk rfl (AU1 AZy rfl Af (fun h' hb=>(Aq.ext hb).cell (i:=1) rfl) (ATd Af rfl (Aeo (DS.mono (HDa.ext Ap) (Nat.zero_le _)) hna) fun B5 Ah hk=>?_)))));obtain ⟨rfl,L1,Ai,A8⟩:=hk;refine ⟨Af,?_⟩;have A9:=Ai.ds (lo:=lo) HDa.lo;have Ar:=Ai.val;have B7:=Ai.len;refine ATd Af rfl (Aqh A9 AGi) fun B8 B9 hk=>?_;obtain ⟨Ab,Au⟩:=hk;have Aj:=Af.trans Ab;refine ⟨Aj,?_⟩;have Ca:=Ab.1;have Ba:=A6.trans Ab;have Bb:=Ap.trans Ab;have Bc:=A7.trans Ab;have Be:=A4.ext Ab;have Bf:=Ae.trans Ab;refine ATd Aj rfl (Aca (!na) Au A8 AGi) fun Cb Cd hk=>?_;obtain ⟨Aa,Bg⟩:=hk;have Bh:=Aj.trans Aa;refine ⟨Bh,?_⟩;have Ce:=Aa.1;have Bi:=Ba.trans Aa;have Bj:=Bb.trans Aa;have Bl:=Bc.trans Aa;have Bm:=Be.ext Aa;have Bn:=Bf.trans Aa;have Bo:=Au.ext Aa;obtain ⟨Av,s3,L3,rfl,Ax,Bq,Br,Ay⟩:=Bg.out;refine AU0 [.bool Av,s3] AUa rfl rfl rfl rfl (Abn Ax.cap) Bm fun Cf Bt Ac=>?_;have Bu:=Bj.thenUpd Ac (fun k hk=>by have Ak:k=Ad:=hk;omega);have Cg:=Ac.1;have Ch:=Bi.thenUpd Ac (fun k hk=>by have Ak:k=Ad:=hk;omega);have Ci:=Bn.thenUpd Ac (fun k hk=>by have Ak:k=Ad:=hk;omega);have Cj:=Bl.thenUpd Ac (fun k hk=>by have Ak:k=Ad:=hk;omega);have Ck:=Bo.updLo Ac AGi;have Bv:=Ax.updLo Ac AGi;refine AGr (AGz (⟨_,AU7 AUa rfl rfl Bt,?_⟩));exact ⟨Bu,⟨Av,s3,L3,rfl,Bv.mono AGi,Bq,Br,by first | (rw [<- Ay,Ar,hza];done) | (rw [<- Ay,Ar,hza];cases na <;> simp [sgn])⟩⟩
theorem Normalize_ok {h:AGt} {lo:Nat} {va:Value} {z:Int} (HA:ZV h lo va z):ATs Tryz.prog 155 #[va] h fun x h'=>Ext h h'/\ZV h' (Array.size h) x (z):=by
 obtain ⟨na,sa,LA,rfl,HDa,htla,hla,hza⟩:=HA.out;have hna:LA.length<=1000000:=by omega
 refine AT5 (l:=[_]) mx Tryz.func155 rfl rfl rfl rfl rfl AGx (AGm (Abq [.bool na,sa] (fun _=>trivial) rfl rfl fun Am h2 V3 E4 Az Bx=>?_));have By:Array.size h<=Am:=Az;have Bz:=E4.1;have Z8:=(Ext.refl h).trans E4;refine AYx [.bool false,.slice none 0 0] AXi rfl (fun _=>trivial) fun Ad Ah A4 Ae A5 B1=>?_;have B3:Array.size h<=Ad:=Nat.le_trans E4.1 A5;have nebq1bq9:Am≠Ad:=by have:=V3.lt;omega
 have B4:=Ae.1;have A6:=Z8.trans Ae;have Ap:=E4.trans Ae;have Aq:=V3.ext Ae;have A7:=E4.trans Ae;refine AGr (AGo (AVa (fun h'=>Ext Ah h') AGx ?_));have Af:=Ext.refl Ah;refine AX1 (fs:=1) Adm AGx AGk rfl (AU1 AWl rfl Af (fun h' hb=>(Aq.ext hb).cell (i:=0) rfl) (AX1 (fs:=1) Ad5 AGx AGk rfl (AU1 AZy rfl Af (fun h' hb=>(Aq.ext hb).cell (i:=1) rfl) (ATd Af rfl (Aeo (DS.mono (HDa.ext Ap) (Nat.zero_le _)) hna) fun B5 Ah hk=>?_))));obtain ⟨rfl,L1,Ai,A8⟩:=hk;refine ⟨Af,?_⟩;have A9:=Ai.ds (lo:=lo) HDa.lo;have Ar:=Ai.val;have B7:=Ai.len;refine ATd Af rfl (Aqh A9 AGi) fun B8 B9 hk=>?_;obtain ⟨Ab,Au⟩:=hk;have Aj:=Af.trans Ab;refine ⟨Aj,?_⟩;have Ca:=Ab.1;have Ba:=A6.trans Ab;have Bb:=Ap.trans Ab;have Bc:=A7.trans Ab;have Be:=A4.ext Ab;have Bf:=Ae.trans Ab;refine ATd Aj rfl (Aca na Au A8 AGi) fun Cb Cd hk=>?_;obtain ⟨Aa,Bg⟩:=hk;have Bh:=Aj.trans Aa;refine ⟨Bh,?_⟩;have Ce:=Aa.1;have Bi:=Ba.trans Aa;have Bj:=Bb.trans Aa;have Bl:=Bc.trans Aa;have Bm:=Be.ext Aa;have Bn:=Bf.trans Aa;have Bo:=Au.ext Aa;obtain ⟨Av,s3,L3,rfl,Ax,Bq,Br,Ay⟩:=Bg.out;refine AU0 [.bool Av,s3] AUa rfl rfl rfl rfl (Abn Ax.cap) Bm fun Cf Bt Ac=>?_;have Bu:=Bj.thenUpd Ac (fun k hk=>by have Ak:k=Ad:=hk;omega);have Cg:=Ac.1;have Ch:=Bi.thenUpd Ac (fun k hk=>by have Ak:k=Ad:=hk;omega);have Ci:=Bn.thenUpd Ac (fun k hk=>by have Ak:k=Ad:=hk;omega);have Cj:=Bl.thenUpd Ac (fun k hk=>by have Ak:k=Ad:=hk;omega);have Ck:=Bo.updLo Ac AGi;have Bv:=Ax.updLo Ac AGi;refine AGr (AGz (⟨_,AU7 AUa rfl rfl Bt,?_⟩));exact ⟨Bu,⟨Av,s3,L3,rfl,Bv.mono AGi,Bq,Br,by first | (rw [<- Ay,Ar,hza];done) | (rw [<- Ay,Ar,hza];cases na <;> simp [sgn])⟩⟩
def Afg (a b:Nat):Int:=if a < b then -1 else if a=b then 0 else 1
theorem Ach {a b:Nat} (h:a < b):Afg a b= -1:=if_pos h
theorem Aci {a b:Nat} (h:b < a):Afg a b=1:=by unfold Afg;rw [if_neg AGi,if_neg AGi]
theorem Ai5 {a b:Nat} (h:a=b):Afg a b=0:=by unfold Afg;rw [if_neg AGi,if_pos h]
theorem Acj {A B:List Nat} (ha:Dig A) (hb:TL B) (h:A.length < B.length):nv A < nv B:=by
 have h1:=Ae9 ha;have h2:=A4s hb (fun he=>by rw [he] at h;simp at h);have h3:4294967296 ^ A.length<=4294967296 ^ (B.length - 1):=Nat.pow_le_pow_right AGk AGi;omega
theorem Ack {A B:List Nat} (ha:Dig A) (hb:Dig B) {i x y:Nat} (hl:A.length=B.length) (hx:A[i]? =some x) (hy:B[i]? =some y) (hxy:x < y) (hs:∀ q,i < q->A[q]? =B[q]?):nv A < nv B:=by
 have hi:=(List.getElem?_eq_some_iff.1 hx).1;have hd:A.drop (i + 1)=B.drop (i + 1):=List.ext_getElem? fun q=>by rw [List.getElem?_drop,List.getElem?_drop];exact hs _ AGi
 have e:∀ L:List Nat,nv L=nv (L.take (i + 1)) + 4294967296 ^ (L.take (i + 1)).length * nv (L.drop (i + 1)):=fun L=>by rw [<- Anj,List.take_append_drop]
 rw [e A,e B,hd,AUu hx,AUu hy,List.length_take,List.length_take,hl];have h1:=Ai2 ha (i:=i) AGi;have h2:4294967296 ^ i * (x + 1)<=4294967296 ^ i * y:=Nat.mul_le_mul_left _ hxy;rw [Nat.mul_add,Nat.mul_one] at h2;omega
theorem Aoa {h:AGt} {la lb:Nat} {va vb:Value} {LA LB:List Nat} (HA:DS h la va LA) (HB:DS h lb vb LB) (hta:TL LA) (htb:TL LB) (hna:LA.length<=1000000) (hnb:LB.length<=1000000):ATs Tryz.prog 183 #[va,vb] h fun x h'=>h'=h/\x= .int .i64 (Afg (nv LA) (nv LB)):=by
 refine AT5 (l:=[_,_]) mx Tryz.func183 rfl rfl rfl rfl rfl AGx (AGm (AGu (AGo (AGp (AGm (AGj (AUo ATf rfl HA (AGj (AUo ATf rfl HB (AXh rfl rfl (fun Ac=>?_) (fun Ac=>?_)))))))))))
 ·refine AGu (ATp rfl (AGm (AGu (AGz (AUg (ATc (⟨_,AS2,?_⟩)))))))
  first
  | exact ⟨rfl,congrArg (Value.int .i64) (Ach (Acj HA.dig htb AGi)).symm⟩
  | exact ⟨rfl,congrArg (Value.int .i64) (Aci (Acj HB.dig hta AGi)).symm⟩
  | exact ⟨rfl,congrArg (Value.int .i64) (Ach (Ack HA.dig HB.dig AGi hx hy AGi (fun q hq=>hsame q AGi))).symm⟩
  | exact ⟨rfl,congrArg (Value.int .i64) (Aci (Ack HB.dig HA.dig AGi hy hx AGi (fun q hq=>(hsame q AGi).symm))).symm⟩
  | exact ⟨rfl,congrArg (Value.int .i64) (Ai5 (congrArg nv (List.ext_getElem? fun q=>hsame q AGi))).symm⟩
 ·refine AGu (ATr rfl (AGm (AGj (AUo ATf rfl HA (AGj (AUo ATf rfl HB (Aju rfl rfl (fun Ad=>?_) (fun Ad=>?_))))))))
  ·refine AGu (ATp rfl (AGm (AGu (AGz (AUg (ATc (⟨_,AS2,?_⟩)))))))
   first
   | exact ⟨rfl,congrArg (Value.int .i64) (Ach (Acj HA.dig htb AGi)).symm⟩
   | exact ⟨rfl,congrArg (Value.int .i64) (Aci (Acj HB.dig hta AGi)).symm⟩
   | exact ⟨rfl,congrArg (Value.int .i64) (Ach (Ack HA.dig HB.dig AGi hx hy AGi (fun q hq=>hsame q AGi))).symm⟩
   | exact ⟨rfl,congrArg (Value.int .i64) (Aci (Ack HB.dig HA.dig AGi hy hx AGi (fun q hq=>(hsame q AGi).symm))).symm⟩
   | exact ⟨rfl,congrArg (Value.int .i64) (Ai5 (congrArg nv (List.ext_getElem? fun q=>hsame q AGi))).symm⟩
  ·refine AGu (ATr rfl (AGy (q_b (q_t (AGo (AGm (AGj (AUo ATf rfl HA (Aet rfl rfl AGi AGi (AGu (AGp (AX0 35184369991728 (fun i:Nat=>[(5,.int .i64 ((i:Int) - 1))]) (fun k i h'=>h'=h/\i=k/\i<=LA.length/\ ∀ q,i<=q->LA[q]? =LB[q]?) AGx LA.length LA.length ?_ ⟨rfl,trivial⟩ ?_))))))))))))
   ·exact ⟨rfl,rfl,Nat.le_refl _,fun q hq=>by rw [List.getElem?_eq_none hq,List.getElem?_eq_none AGi]⟩
   rintro k i s1 h ⟨rfl,rfl,hi,hsame⟩;refine AGo (AGm (AGj (Amu rfl rfl (fun Ae=>?_) (fun Ae=>?_))))
   ·refine AGr (ATp rfl (AGy (q_t (AGo (AGp (AGp (AGo ?_)))))));obtain ⟨x,hx⟩:∃ x,LA[i - 1]? =some x:=⟨_,List.getElem?_eq_getElem AGi⟩;obtain ⟨y,hy⟩:∃ y,LB[i - 1]? =some y:=⟨_,List.getElem?_eq_getElem AGi⟩;have e1:((i:Int) - 1)=((i - 1:Nat):Int):=by omega
    refine Aix AGx (AGj (AGj (Aa6 (n:=i - 1) ATf rfl HA (show Value.int .i64 ((i:Int) - 1)=_ by rw [e1]) hx fun a1 Af=>?_)));refine AT3 AU8 rfl Af (AGj (AGj (Aa6 (n:=i - 1) ATf rfl HB (show Value.int .i64 ((i:Int) - 1)=_ by rw [e1]) hy fun a2 Ag=>?_)));refine AT3 AU8 rfl Ag (AXh rfl rfl (fun Ah=>?_) (fun Ah=>?_))
    ·refine AGu (ATp rfl (AGm (AGu (AGz (AUg (AUg (ATc (ATc (AUg (ATc (⟨_,AS2,?_⟩)))))))))))
     first
     | exact ⟨rfl,congrArg (Value.int .i64) (Ach (Acj HA.dig htb AGi)).symm⟩
     | exact ⟨rfl,congrArg (Value.int .i64) (Aci (Acj HB.dig hta AGi)).symm⟩
     | exact ⟨rfl,congrArg (Value.int .i64) (Ach (Ack HA.dig HB.dig AGi hx hy AGi (fun q hq=>hsame q AGi))).symm⟩
     | exact ⟨rfl,congrArg (Value.int .i64) (Aci (Ack HB.dig HA.dig AGi hy hx AGi (fun q hq=>(hsame q AGi).symm))).symm⟩
     | exact ⟨rfl,congrArg (Value.int .i64) (Ai5 (congrArg nv (List.ext_getElem? fun q=>hsame q AGi))).symm⟩
    ·refine AGu (ATr rfl (AGo (Aix AGx (AGj (AGj (Aa6 (n:=i - 1) ATf rfl HA (show Value.int .i64 ((i:Int) - 1)=_ by rw [e1]) hx fun a3 Ai=>?_))))));refine AT3 AU8 rfl Ai (AGj (AGj (Aa6 (n:=i - 1) ATf rfl HB (show Value.int .i64 ((i:Int) - 1)=_ by rw [e1]) hy fun a4 Aj=>?_)));refine AT3 AU8 rfl Aj (Aju rfl rfl (fun Ak=>?_) (fun Ak=>?_))
     ·refine AGu (ATp rfl (AGm (AGu (AGz (AUg (AUg (ATc (ATc (AUg (ATc (⟨_,AS2,?_⟩)))))))))))
      first
      | exact ⟨rfl,congrArg (Value.int .i64) (Ach (Acj HA.dig htb AGi)).symm⟩
      | exact ⟨rfl,congrArg (Value.int .i64) (Aci (Acj HB.dig hta AGi)).symm⟩
      | exact ⟨rfl,congrArg (Value.int .i64) (Ach (Ack HA.dig HB.dig AGi hx hy AGi (fun q hq=>hsame q AGi))).symm⟩
      | exact ⟨rfl,congrArg (Value.int .i64) (Aci (Ack HB.dig HA.dig AGi hy hx AGi (fun q hq=>(hsame q AGi).symm))).symm⟩
      | exact ⟨rfl,congrArg (Value.int .i64) (Ai5 (congrArg nv (List.ext_getElem? fun q=>hsame q AGi))).symm⟩
     ·refine AGu (ATr rfl (AGy (q_b (q_b (q_t (AS3 (AGj (Aet rfl rfl AGi AGi (AGu ?_)))))))));exact ⟨i - 1,i - 1,AGi,⟨rfl,rfl,AGi,fun q hq=>by rcases Nat.lt_or_ge q i with h2 | h2;obtain rfl:q=i - 1:=AGi;rw [hx,hy];congr 1;omega;exact hsame q h2⟩,by rw [show ((i - 1:Nat):Int) - 1=(i:Int) - 1 - 1 by omega];rfl,trivial⟩
   ·refine AGr (ATr rfl (AS8 (ATa (ATa (AT7 (q_t (AGm (AGu (AGz (⟨_,AS2,?_⟩))))))))))
    first
    | exact ⟨rfl,congrArg (Value.int .i64) (Ach (Acj HA.dig htb AGi)).symm⟩
    | exact ⟨rfl,congrArg (Value.int .i64) (Aci (Acj HB.dig hta AGi)).symm⟩
    | exact ⟨rfl,congrArg (Value.int .i64) (Ach (Ack HA.dig HB.dig AGi hx hy AGi (fun q hq=>hsame q AGi))).symm⟩
    | exact ⟨rfl,congrArg (Value.int .i64) (Aci (Ack HB.dig HA.dig AGi hy hx AGi (fun q hq=>(hsame q AGi).symm))).symm⟩
    | exact ⟨rfl,congrArg (Value.int .i64) (Ai5 (congrArg nv (List.ext_getElem? fun q=>hsame q AGi))).symm⟩
theorem Aug {h:AGt} {la lb:Nat} {va vb:Value} {LA LB:List Nat} (HA:DS h la va LA) (HB:DS h lb vb LB) (hna:LA.length<=1000) (hnb:LB.length<=1000):ATs Tryz.prog 175 #[va,vb] h fun x h'=>Ext h h'/\ ∃ L,DS h' (Array.size h) x L/\TL L/\nv L=nv LA + nv LB/\L.length<=1001:=by
 refine AT5 (l:=[_,_]) mx Tryz.func175 rfl rfl rfl rfl rfl AGx (AGm (AGu (Amp 65027 (fun y:Value × Value × List Nat × List Nat=>[(0,y.1),(1,y.2.1)]) (fun y h'=>h'=h/\DS h 0 y.1 y.2.2.1/\DS h 0 y.2.1 y.2.2.2/\y.2.2.2.length<=y.2.2.1.length/\y.2.2.1.length<=1000/\nv y.2.2.1 + nv y.2.2.2=nv LA + nv LB) AGx ?_ ?_)))
 ·refine AGm (AGj (AUo ATf rfl HA (AGj (AUo ATf rfl HB (AXh rfl rfl (fun Ao=>?_) (fun Ao=>?_))))))
  ·refine AGr (ATp rfl (AS3 (AGj (AGj (ATi (AGu ?_))))));exact ⟨(_,_,LB,LA),⟨rfl,HB.mono (Nat.zero_le _),HA.mono (Nat.zero_le _),by first | omega | (dsimp only;omega),hnb,Nat.add_comm _ _⟩,rfl,rfl,trivial⟩
  ·refine AGr (ATr rfl (AGy (q_t ?_)));exact ⟨(_,_,LA,LB),⟨rfl,HA.mono (Nat.zero_le _),HB.mono (Nat.zero_le _),by first | omega | (dsimp only;omega),hna,rfl⟩,rfl,rfl,trivial⟩
 rintro ⟨A9,Ba,A,B⟩ s0 h ⟨rfl,HX,HY,hBA,Ap,hsum⟩;dsimp only at HX HY hBA Ap hsum ⊢;refine AGm (AGj (AUo ATf rfl HX (Ahb (b:=1) rfl rfl AGi (Ar9 (n:=A.length + 1) ATf Adv (fun _=>trivial) rfl rfl AGk AGi fun g1 v1 h1 Aq E1 Ar Be=>?_))));have Bf:=E1.1;have Z2:=(Ext.refl h).trans E1;refine ATw (AGu (AGo (AGm (AGj (AUo ATf rfl (HY.ext E1) (AGj (AGr (AGp (AX0 70368739983552 (fun y:Nat × Nat=>[(22,.int .i64 (y.1:Int)),(6,.int .u64 (y.2:Int))]) (fun k y h'=>k=B.length - y.1/\y.1<=B.length/\Ext h h'/\y.2<=1/\ ∃ D,AV5 h' 170 g1 v1 ((D ++ List.replicate ((A.length + 1) - y.1) 0).map Afk)/\D.length=y.1/\Dig D/\nv D + 4294967296 ^ y.1 * y.2=nv (A.take y.1) + nv (B.take y.1)) AGx B.length (0,0) ?_ ⟨rfl,rfl,trivial⟩ ?_)))))))))
 ·exact ⟨rfl,Nat.zero_le _,E1,by first | omega | (dsimp only;omega),[],by simpa using Aq,rfl,fun x hx=>(by simp at hx),rfl⟩
 rintro k ⟨i,c⟩ s1 h2 ⟨rfl,hi,E2,hc,D,Ag,hDl,hDd,hDv⟩;dsimp only at hi hc Ag hDl hDv ⊢;have Bi:=E2.1;refine AGm (AXh rfl rfl (fun Au=>?_) (fun Au=>?_))
 ·refine AGr (AGo (ATp rfl (AGy (q_t (AGo (AGp (AGm (AGj (AGu (AGo ?_))))))))));obtain ⟨x,hx⟩:∃ x,A[i]? =some x:=⟨_,List.getElem?_eq_getElem AGi⟩;have hbx:=HX.dig x (List.mem_of_getElem? hx);obtain ⟨y,hy⟩:∃ x,B[i]? =some x:=⟨_,List.getElem?_eq_getElem AGi⟩;have hby:=HY.dig y (List.mem_of_getElem? hy);refine Aix AGx (AGj (AGj (AGj (Aa6 ATf rfl (HX.ext E2) rfl hx fun Bj Av=>AT3 AU8 rfl Av (Akg AVx AVg rfl hbx (AGj (AGj (Aa6 ATf rfl (HY.ext E2) rfl hy fun Bl Aw=>AT3 AU8 rfl Aw (Akg AVx AVg rfl hby (Agk rfl rfl AGi (Agk rfl rfl AGi (ATw (AGj (AGj (AGj (Amd AVg AVx rfl (Akt ATf rfl Ag rfl (by simp;omega) ?_)))))))))))))))));refine Amc (D ++ [(c + (x + y)) % 4294967296] ++ List.replicate (A.length + 1 - (i + 1)) 0) AU8 rfl rfl Ag (by simp;omega) (Ara hDl AGi) fun h4 Ax U4=>?_;have Bn:=U4.1;have X7:=E2.thenUpd U4 (fun k hk=>by have Ad:k=g1:=hk;omega);have Z8:=E2.thenUpd U4 (fun k hk=>by have Ad:k=g1:=hk;omega);refine AGr (AS3 (AGj (Alm rfl rfl (ATi (ATh (q_b (q_t (AS3 (Ab5 rfl AGi (AGj (AGr ?_)))))))))));exact ⟨B.length - (i + 1),(i + 1,(c + (x + y)) / 4294967296),by first | omega | (dsimp only;omega),⟨rfl,by first | omega | (dsimp only;omega),X7,by first | omega | (dsimp only;omega),_,Ax,by simp [hDl],Aev hDd (Nat.mod_lt _ AGk),by rw [Adp,hDl,Aln hDv,AUu hx,AUu hy,Nat.mul_add];omega⟩,rfl,rfl,trivial⟩
 ·refine AGr (AGo (ATr rfl (AS8 (ATa (ATa (AT7 (q_t (AGo (AGm (AGj (AUo ATf rfl (HX.ext E2) (AGj (AUo ATf rfl (HY.ext E2) (Aet rfl rfl AGi AGi ?_))))))))))))));rw [show ((A.length:Nat):Int) - ((B.length:Nat):Int)=((A.length - B.length:Nat):Int) by omega];refine AGj (AGr (AGp ?_));obtain rfl:i=B.length:=by omega
  rw [List.take_length] at hDv;refine AX0 37778929611157348024640 (fun y:Nat × Nat=>[(51,.int .i64 (y.1:Int)),(6,.int .u64 (y.2:Int))]) (fun k y h'=>k=A.length - B.length - y.1/\y.1<=A.length - B.length/\Ext h h'/\y.2<=1/\ ∃ D,AV5 h' 170 g1 v1 ((D ++ List.replicate ((A.length + 1) - (B.length + y.1)) 0).map Afk)/\D.length=B.length + y.1/\Dig D/\nv D + 4294967296 ^ (B.length + y.1) * y.2=nv (A.take (B.length + y.1)) + nv B) AGx (A.length - B.length) (0,c) ?_ ⟨rfl,rfl,trivial⟩ ?_
  ·exact ⟨rfl,Nat.zero_le _,E2,hc,D,Ag,hDl,hDd,hDv⟩
  rintro k ⟨j,c⟩ s2 h3 ⟨rfl,hj,E3,hc,D,Ae,hDl,hDd,hDv⟩;dsimp only at hj hc Ae hDl hDv ⊢;have Bq:=E3.1;refine AGm (AXh rfl rfl (fun Az=>?_) (fun Az=>?_))
  ·refine AGr (AGo (ATp rfl (AGy (q_t (AGo (AGp (AGm (AGj (AGu (AGo ?_))))))))));obtain ⟨x,hx⟩:∃ x,A[(B.length + j)]? =some x:=⟨_,List.getElem?_eq_getElem AGi⟩;have hbx:=HX.dig x (List.mem_of_getElem? hx);refine AS3 (AGj (AGj (AGj (AUo ATf rfl (HY.ext E3) (AGj (Ahb rfl rfl AGi (Aa6 ATf rfl (HX.ext E3) rfl hx fun Br A3=>AT3 AU8 rfl A3 (Akg AVx AVg rfl hbx (Agk rfl rfl AGi (ATw (AGj (AGj (AUo ATf rfl (HY.ext E3) (AGj (Ahb rfl rfl AGi (AGj (Amd AVg AVx rfl (Akt ATf rfl Ae rfl (by simp;omega) ?_))))))))))))))))));refine Amc (D ++ [(c + x) % 4294967296] ++ List.replicate (A.length + 1 - (B.length + j + 1)) 0) AU8 rfl rfl Ae (by simp;omega) (Ara hDl AGi) fun h5 A4 U5=>?_;have Bu:=U5.1;have A5:=E3.thenUpd U5 (fun k hk=>by have Ad:k=g1:=hk;omega);have Bv:=E3.thenUpd U5 (fun k hk=>by have Ad:k=g1:=hk;omega);refine AGr (AS3 (AGj (Alm rfl rfl (ATi (ATh (q_b (q_t (AS3 (Ab5 rfl AGi (AGj (AGr ?_)))))))))));exact ⟨A.length - B.length - (j + 1),(j + 1,(c + x) / 4294967296),by first | omega | (dsimp only;omega),⟨rfl,by first | omega | (dsimp only;omega),A5,by first | omega | (dsimp only;omega),_,A4,by simp [hDl];omega,Aev hDd (Nat.mod_lt _ AGk),by rw [Adp,hDl,<- Nat.add_assoc,Aln hDv,AUu hx];omega⟩,rfl,rfl,trivial⟩
  ·refine AGr (AGo (ATr rfl (AS8 (ATa (ATa (AT7 (q_t (AGo ?_))))))));obtain rfl:j=A.length - B.length:=by omega
   have hBj:B.length + (A.length - B.length)=A.length:=by omega
   rw [hBj,List.take_length] at hDv;rw [hBj] at hDl;refine AS3 (AGj (AGj (AUo ATf rfl (HX.ext E3) (AGj (Amd AVg AVx rfl (Akt ATf rfl Ae rfl (by simp;omega) ?_))))));refine Amc (D ++ [c % 4294967296] ++ List.replicate (A.length + 1 - (A.length + 1)) 0) AU8 rfl rfl Ae (by simp;omega) (by rw [hBj];exact Ara hDl AGi) fun h6 Ak U6=>?_;have Bw:=U6.1;have A7:=E3.thenUpd U6 (fun k hk=>by have Ad:k=g1:=hk;omega);have Bx:=E3.thenUpd U6 (fun k hk=>by have Ad:k=g1:=hk;omega);rw [Nat.sub_self,List.replicate_zero,List.append_nil,Nat.mod_eq_of_lt AGi] at Ak;have Am:=Ak.ds (lo:=Array.size h) (Aev hDd AGi) Ar;refine AZg (AGj (ATd trivial rfl (Aeo (Am.mono (Nat.zero_le _)) (by simp;omega)) fun By h6 hk=>?_));obtain ⟨rfl,L2,HT,htl⟩:=hk;refine ⟨trivial,?_⟩;refine AGu (AGz (⟨_,AS2,?_⟩));exact ⟨A7,L2,HT.ds Am.lo,htl,by rw [HT.val,Adp,hDl,hDv];exact hsum,by have:=HT.len;simp at this;omega⟩
theorem Aqi {h:AGt} {la lb:Nat} {va vb:Value} {LA LB:List Nat} (HA:DS h la va LA) (HB:DS h lb vb LB) (htb:TL LB) (hle:nv LB<=nv LA) (hna:LA.length<=1000):ATs Tryz.prog 176 #[va,vb] h fun x h'=>Ext h h'/\ ∃ L,DS h' (Array.size h) x L/\TL L/\nv L=nv LA - nv LB/\L.length<=LA.length:=by
 refine AT5 (l:=[_,_]) mx Tryz.func176 rfl rfl rfl rfl rfl AGx (AGm (ATw (AGj (AUo ATf rfl HA (Ar9 (n:=LA.length) ATf Adv (fun _=>trivial) rfl rfl AGk AGi fun g1 v1 h1 Aj E1 Ak Az=>?_)))));have A3:=E1.1;have Z2:=(Ext.refl h).trans E1;refine ATw (AGu (AGo (AGm (AGj (AUo ATf rfl (HA.ext E1) (AGj (AGr (AGp (AX0 8796093006272 (fun y:Nat × Nat=>[(14,.int .i64 (y.1:Int)),(6,.int .u64 (y.2:Int))]) (fun k y h'=>k=LA.length - y.1/\y.1<=LA.length/\Ext h h'/\y.2<=1/\ ∃ D,AV5 h' 170 g1 v1 ((D ++ List.replicate (LA.length - y.1) 0).map Afk)/\D.length=y.1/\Dig D/\nv D + nv (LB.take y.1)=nv (LA.take y.1) + 4294967296 ^ y.1 * y.2) AGx LA.length (0,0) ?_ ⟨rfl,rfl,trivial⟩ ?_)))))))))
 ·exact ⟨rfl,Nat.zero_le _,E1,by first | omega | (dsimp only;omega),[],by simpa using Aj,rfl,fun x hx=>(by simp at hx),rfl⟩
 rintro k ⟨i,c⟩ s1 h2 ⟨rfl,hi,E2,hc,D,Ab,hDl,hDd,hDv⟩;dsimp only at hi hc Ab hDl hDv ⊢;have A5:=E2.1;refine AGm (AXh rfl rfl (fun Am=>?_) (fun Am=>?_))
 ·refine AGr (AGo (ATp rfl (AGy (q_t (AGo (AGp (AGm (AGj (AGu (AGo ?_))))))))));obtain ⟨x,hx⟩:∃ x,LA[i]? =some x:=⟨_,List.getElem?_eq_getElem AGi⟩;have hbx:=HA.dig x (List.mem_of_getElem? hx);refine AS3 (AGj (AGj (Aa6 ATf rfl (HA.ext E2) rfl hx fun A6 Ao=>AT3 AU8 rfl Ao (Akg AVx AVg rfl hbx (AGj (AVd rfl rfl ?_))))));rw [wrap_u64];refine AGu (Amp 34342961408 (fun s:Int=>[(8,.int .u64 (s % 18446744073709551616))]) (fun s h'=>h'=h2/\s=((x:Int) - (c:Int) - ((LB[i]?.getD 0:Nat):Int))) AGx ?_ ?_)
  ·refine AGm (AGj (AGj (AUo ATf rfl (HB.ext E2) (AXh rfl rfl (fun Ap=>?_) (fun Ap=>?_)))))
   ·refine AGr (ATp rfl ?_);obtain ⟨y,Af⟩:∃ y,LB[i]? =some y:=⟨_,List.getElem?_eq_getElem AGi⟩;have hby:=HB.dig y (List.mem_of_getElem? Af);refine AS3 (AGj (AGj (AGj (Aa6 ATf rfl (HB.ext E2) rfl Af fun A7 Aq=>AT3 AU8 rfl Aq (Akg AVx AVg rfl hby (AVd rfl rfl (AGu ?_)))))));exact ⟨((x:Int) - (c:Int) - ((LB[i]?.getD 0:Nat):Int)),⟨rfl,rfl⟩,by rw [Af];show Value.int .u64 _=_;congr 1;rw [wrap_u64];simp only [Option.getD_some];omega,trivial⟩
   ·refine AGr (ATr rfl (AGy (q_t ?_)));exact ⟨((x:Int) - (c:Int) - ((LB[i]?.getD 0:Nat):Int)),⟨rfl,rfl⟩,by rw [List.getElem?_eq_none AGi];show Value.int .u64 _=_;congr 1;simp only [Option.getD_none];omega,trivial⟩
  rintro s s2 h2 ⟨rfl,hs⟩;obtain ⟨y,hy⟩:∃ y,LB[i]?.getD 0=y:=⟨_,rfl⟩;rw [hy] at hs;refine AGo ?_
  have hby:y < 4294967296:=by
    rw [<- hy]
    cases hq:LB[i]? with
    | none=>simp
    | some q=>exact HB.dig q (List.mem_of_getElem? hq)
  refine AS3 (AGj (AGj (AGj (Aes AVg AVx rfl ?_))));obtain ⟨dg,hdg⟩:∃ dg:Nat,(dg:Int)=s % 4294967296:=⟨(s % 4294967296).toNat,AGi⟩;rw [show IntKind.u32.wrap (s % 18446744073709551616)=(dg:Int) by rw [wrap_u32,hdg];omega];refine Akt ATf rfl Ab rfl (by simp;omega) ?_;refine Amc (D ++ [dg] ++ List.replicate (LA.length - (i + 1)) 0) AU8 rfl rfl Ab (by simp;omega) (Ara hDl AGi) fun h4 Ar U4=>?_;have A9:=U4.1;have X7:=E2.thenUpd U4 (fun k hk=>by have Av:k=g1:=hk;omega);have Z8:=E2.thenUpd U4 (fun k hk=>by have Av:k=g1:=hk;omega);refine AGr (AS3 (AGj (Aqt (n:=63) rfl rfl AGk ?_)));rw [show s % 18446744073709551616 / 2 ^ 63=((if s < 0 then 1 else 0:Nat):Int) by split <;> omega];refine ATi (ATh (q_b (q_t (AS3 (Ab5 rfl AGi (AGj (AGr ?_)))))));exact ⟨LA.length - (i + 1),(i + 1,if s < 0 then 1 else 0),by first | omega | (dsimp only;omega),⟨rfl,by first | omega | (dsimp only;omega),X7,by dsimp only;split <;> omega,_,Ar,by simp [hDl],Aev hDd AGi,by rw [Adp,hDl,Adq LB,hy,AUu hx];exact Am0 hDv (by split <;> omega)⟩,rfl,rfl,trivial⟩
 ·refine AGr (AGo (ATr rfl (AS8 (ATa (ATa (AT7 (q_t (AGo ?_))))))));obtain rfl:i=LA.length:=by omega
  rw [List.take_length,List.take_of_length_le (by have:=Aed htb (Nat.lt_of_le_of_lt hle (Ae9 HA.dig));omega)] at hDv;have hDlt:=Ae9 hDd;rw [hDl] at hDlt
  have Aw:c=0:=by
    rcases Nat.eq_zero_or_pos c with h0 | h0
    · exact h0
    · obtain rfl:c=1:=by omega
      rw [Nat.mul_one] at hDv;omega
  subst Aw;rw [Nat.mul_zero,Nat.add_zero] at hDv;rw [Nat.sub_self,List.replicate_zero,List.append_nil] at Ab;have Ai:=Ab.ds (lo:=Array.size h) hDd Ak;refine AS3 (AGj (ATd trivial rfl (Aeo (Ai.mono (Nat.zero_le _)) AGi) fun x9 h2 hk=>?_));obtain ⟨rfl,L2,HT,htl⟩:=hk;refine ⟨trivial,?_⟩;refine AGu (AGz (⟨_,AS2,?_⟩));exact ⟨E2,L2,HT.ds Ai.lo,htl,by rw [HT.val];omega,by have:=HT.len;omega⟩
theorem A57 {L:List Nat} (h:Dig L) (hl:L.length<=1):nv L<=4294967295:=by
 have h1:=Ae9 h;have h2:4294967296 ^ L.length<=4294967296 ^ 1:=Nat.pow_le_pow_right AGk hl;omega
theorem A58 {A B:List Nat} (ha:Dig A) (hb:Dig B) (la:A.length<=1) (lb:B.length<=1):nv A * nv B < 18446744073709551616:=by
 have:=Nat.mul_le_mul (A57 ha la) (A57 hb lb);omega
theorem Ahc {a b:Nat} (h:0<=Afg a b):b<=a:=by
 unfold Afg at h;split at h
 ·omega
 ·omega
theorem Alq {a b:Nat} (h:Afg a b < 0):a<=b:=by
 unfold Afg at h;split at h
 ·omega
 ·split at h <;> omega
theorem Asf {A B:List Nat} (ha:Dig A) (hb:Dig B) (la:A.length<=99) (lb:B.length<=99):nv A + nv B < 4294967296 ^ 100:=by
 have h1:=Ae9 ha;have h2:=Ae9 hb;have h3:4294967296 ^ A.length<=4294967296 ^ 99:=Nat.pow_le_pow_right AGk la;have h4:4294967296 ^ B.length<=4294967296 ^ 99:=Nat.pow_le_pow_right AGk lb;have h5:4294967296 ^ 100=4294967296 ^ 99 * 4294967296:=Nat.pow_succ 4294967296 99;rw [h5];have h6:0 < 4294967296 ^ 99:=Nat.pow_pos AGk;generalize 4294967296 ^ 99=t at *;omega
theorem Alr {a b:Bool} {x y:Nat} (h:a=b):sgn a x + sgn b y=sgn a (x + y):=by
 subst h;cases a <;> simp [sgn] <;> omega
theorem Als {a b:Bool} {x y:Nat} (h:a≠b) (hl:y<=x):sgn a x + sgn b y=sgn a (x - y):=by
 cases a <;> cases b <;> simp [sgn] at h ⊢ <;> omega
theorem Ai6 {a b:Bool} {x y:Nat} (h:a≠b) (hl:x<=y):sgn a x + sgn b y=sgn b (y - x):=by
 cases a <;> cases b <;> simp [sgn] at h ⊢ <;> omega
theorem Avo {h:AGt} {la lb:Nat} {va vb:Value} {LA LB:List Nat} (na nb:Bool) (HA:DS h la va LA) (HB:DS h lb vb LB) (hta:TL LA) (htb:TL LB) (hna:LA.length<=99) (hnb:LB.length<=99):ATs Tryz.prog 182 #[.bool na,va,.bool nb,vb] h fun x h'=>Ext h h'/\ZV h' (Array.size h) x (sgn na (nv LA) + sgn nb (nv LB)):=by
 refine AT5 (l:=[_,_,_,_]) mx Tryz.func182 rfl rfl rfl rfl rfl AGx (AGm (AYx [.bool false,.slice none 0 0] AXi rfl (fun _=>trivial) fun Ab h2 V3 E4 A8 Cg=>?_));have Ch:Array.size h<=Ab:=A8;have Ci:=E4.1;have Z8:=(Ext.refl h).trans E4;refine AGr (AGo (AGp (AGm (AGj (AGj (Aw0 Anm rfl rfl ?_))))));cases Cj:na == nb
 ·refine AGu (ATr rfl (AGm (AGj (AGj (ATd trivial rfl (Aoa (HA.ext E4) (HB.ext E4) hta htb AGi AGi) fun x9 h2 hk=>?_)))));obtain ⟨rfl,rfl⟩:=hk;refine ⟨trivial,?_⟩;refine Amu rfl rfl (fun A9=>?_) (fun A9=>?_)
  ·refine AGu (ATp rfl (AGm (AGj (AGj (AGj (ATd trivial rfl (Aqi (HA.ext E4) (HB.ext E4) htb (Ahc (by assumption)) AGi) fun Cm Cn hk=>?_))))));obtain ⟨Aq,L1,Ac,Ag,Ah,A6⟩:=hk;refine ⟨trivial,?_⟩;have Co:=Aq.1;have Ba:=Z8.trans Aq;have Bb:=E4.trans Aq;have Bc:=V3.ext Aq;have Be:=E4.trans Aq;refine ATd trivial rfl (Aca na Ac Ag AGi) fun Cp Cq hk=>?_;obtain ⟨Ai,Ar⟩:=hk;refine ⟨trivial,?_⟩;have Cr:=Ai.1;have Bf:=Ba.trans Ai;have Bg:=Bb.trans Ai;have Bh:=Bc.ext Ai;have Bi:=Be.trans Ai;have Bj:=Ac.ext Ai;obtain ⟨Ad,s2,L2,rfl,Ae,Av,Aw,Ax⟩:=Ar.out;refine AU0 [.bool Ad,s2] AUa rfl rfl rfl rfl (Abn Ae.cap) Bh fun Ct Bl Aj=>?_;have Bm:=Bg.thenUpd Aj (fun k hk=>by have Af:k=Ab:=hk;omega);have Cu:=Aj.1;have Cv:=Bf.thenUpd Aj (fun k hk=>by have Af:k=Ab:=hk;omega);have Cw:=Bi.thenUpd Aj (fun k hk=>by have Af:k=Ab:=hk;omega);have Cx:=Bj.updLo Aj AGi;have Bn:=Ae.updLo Aj AGi;refine AGr (AGz (AUg (ATc (⟨_,AU7 AUa rfl rfl Bl,?_⟩))));exact ⟨Bm,⟨Ad,s2,L2,rfl,Bn.mono AGi,Av,Aw,by rw [<- Ax,Ah];first | exact Alr (eq_of_beq (by assumption)) | exact Als (ne_of_beq_false (by assumption)) (Ahc (by assumption)) | exact Ai6 (ne_of_beq_false (by assumption)) (Alq (by assumption))⟩⟩
  ·refine AGu (ATr rfl (AGy (q_b (q_t (AGm (AGj (AGj (AGj (ATd trivial rfl (Aqi (HB.ext E4) (HA.ext E4) hta (Alq (by assumption)) AGi) fun Cy Cz hk=>?_)))))))));obtain ⟨Ay,L1,Ac,Ag,Ah,A6⟩:=hk;refine ⟨trivial,?_⟩;have C0:=Ay.1;have Bo:=Z8.trans Ay;have Bp:=E4.trans Ay;have Bq:=V3.ext Ay;have Br:=E4.trans Ay;refine ATd trivial rfl (Aca nb Ac Ag AGi) fun C1 C2 hk=>?_;obtain ⟨Ak,Ar⟩:=hk;refine ⟨trivial,?_⟩;have C3:=Ak.1;have Bt:=Bo.trans Ak;have Bu:=Bp.trans Ak;have Bv:=Bq.ext Ak;have Bw:=Br.trans Ak;have Bx:=Ac.ext Ak;obtain ⟨Ad,s2,L2,rfl,Ae,Av,Aw,Ax⟩:=Ar.out;refine AU0 [.bool Ad,s2] AUa rfl rfl rfl rfl (Abn Ae.cap) Bv fun C4 By Am=>?_;have Bz:=Bu.thenUpd Am (fun k hk=>by have Af:k=Ab:=hk;omega);have C5:=Am.1;have C6:=Bt.thenUpd Am (fun k hk=>by have Af:k=Ab:=hk;omega);have C7:=Bw.thenUpd Am (fun k hk=>by have Af:k=Ab:=hk;omega);have C8:=Bx.updLo Am AGi;have B1:=Ae.updLo Am AGi;refine AGr (AGz (⟨_,AU7 AUa rfl rfl By,?_⟩));exact ⟨Bz,⟨Ad,s2,L2,rfl,B1.mono AGi,Av,Aw,by rw [<- Ax,Ah];first | exact Alr (eq_of_beq (by assumption)) | exact Als (ne_of_beq_false (by assumption)) (Ahc (by assumption)) | exact Ai6 (ne_of_beq_false (by assumption)) (Alq (by assumption))⟩⟩
 ·refine AGu (ATp rfl (AGm (AGj (AGj (AGj (ATd trivial rfl (Aug (HA.ext E4) (HB.ext E4) AGi AGi) fun C9 Da hk=>?_))))));obtain ⟨Az,L1,Ac,Ag,Ah,A6⟩:=hk;refine ⟨trivial,?_⟩;have Db:=Az.1;have B3:=Z8.trans Az;have B4:=E4.trans Az;have B5:=V3.ext Az;have B6:=E4.trans Az;refine ATd trivial rfl (Aca na Ac Ag (Aed Ag (by rw [Ah];exact Asf HA.dig HB.dig hna hnb))) fun Dc Dd hk=>?_;obtain ⟨Ao,Ar⟩:=hk;refine ⟨trivial,?_⟩;have De:=Ao.1;have B7:=B3.trans Ao;have B8:=B4.trans Ao;have B9:=B5.ext Ao;have Ca:=B6.trans Ao;have Cb:=Ac.ext Ao;obtain ⟨Ad,s2,L2,rfl,Ae,Av,Aw,Ax⟩:=Ar.out;refine AU0 [.bool Ad,s2] AUa rfl rfl rfl rfl (Abn Ae.cap) B9 fun Df Cd Ap=>?_;have Ce:=B8.thenUpd Ap (fun k hk=>by have Af:k=Ab:=hk;omega);have Dg:=Ap.1;have Dh:=B7.thenUpd Ap (fun k hk=>by have Af:k=Ab:=hk;omega);have Di:=Ca.thenUpd Ap (fun k hk=>by have Af:k=Ab:=hk;omega);have Dj:=Cb.updLo Ap AGi;have Cf:=Ae.updLo Ap AGi;refine AGr (AGz (AUg (ATc (⟨_,AU7 AUa rfl rfl Cd,?_⟩))));exact ⟨Ce,⟨Ad,s2,L2,rfl,Cf.mono AGi,Av,Aw,by rw [<- Ax,Ah];first | exact Alr (eq_of_beq (by assumption)) | exact Als (ne_of_beq_false (by assumption)) (Ahc (by assumption)) | exact Ai6 (ne_of_beq_false (by assumption)) (Alq (by assumption))⟩⟩
theorem AXn {ng:Bool} {n:Nat} {z:Int} (h:z=sgn ng n):z.natAbs=n:=by
 subst h;cases ng <;> simp [sgn]
theorem A0x (ng:Bool) (n:Nat):sgn (!ng) n= -sgn ng n:=by cases ng <;> simp [sgn]
theorem Sub_ok {h:AGt} {la lb:Nat} {va vb:Value} {a b:Int} (HA:ZV h la va a) (HB:ZV h lb vb b) (hba:a.natAbs < 4294967296 ^ 99) (hbb:b.natAbs < 4294967296 ^ 99):ATs Tryz.prog 170 #[va,vb] h fun x h'=>Ext h h'/\ZV h' (Array.size h) x (a - b):=by
 obtain ⟨na,sa,LA,rfl,HDa,htla,hla,hza⟩:=HA.out;obtain ⟨nb,sb,LB,rfl,HDb,htlb,hlb,hzb⟩:=HB.out;refine AT5 (l:=[_,_]) mx Tryz.func170 rfl rfl rfl rfl rfl AGx (AGm (Abq [.bool na,sa] (fun _=>trivial) rfl rfl fun Aj h2 V3 E4 A8 B3=>?_));have B4:Array.size h<=Aj:=A8;have B5:=E4.1;have Z8:=(Ext.refl h).trans E4;refine Abq [.bool nb,sb] (fun _=>trivial) rfl rfl fun Ak B6 Ar Af Ba B7=>?_;have B8:Array.size h<=Ak:=Nat.le_trans E4.1 Ba;have nebq1bq9:Aj≠Ak:=by have:=V3.lt;omega
 have B9:=Af.1;have Au:=E4.trans Af;have Av:=V3.ext Af;refine AYx [.bool false,.slice none 0 0] AXi rfl (fun _=>trivial) fun Ab Ah Bb Ac Bc Ca=>?_;have Cb:Array.size h<=Ab:=Nat.le_trans Au.1 Bc;have nebq1bq20:Aj≠Ab:=by have:=Av.lt;omega
 have nebq9bq20:Ak≠Ab:=by have:=Ar.lt;omega
 have Cd:=Ac.1;have Be:=(Z8.trans Af).trans Ac;have Am:=Au.trans Ac;have Aw:=Av.ext Ac;have Bf:=(E4.trans Af).trans Ac;have Ax:=Ar.ext Ac;have Bg:=Af.trans Ac;refine AGr (AGo (AVa (fun h'=>Ext Ah h') AGx ?_));have Aa:=Ext.refl Ah;refine AX1 (fs:=1) Adm AGx AGk rfl (AU1 AWl rfl Aa (fun h' hb=>(Aw.ext hb).cell (i:=0) rfl) (AX1 (fs:=1) Ad5 AGx AGk rfl (AU1 AZy rfl Aa (fun h' hb=>(Aw.ext hb).cell (i:=1) rfl) (ATd Aa rfl (Aeo (DS.mono (HDa.ext Am) (Nat.zero_le _)) AGi) fun Ce Ah hk=>?_))));obtain ⟨rfl,L1,Ao,Ay⟩:=hk;refine ⟨Aa,?_⟩;have Bh:=Ao.ds (lo:=la) HDa.lo;have Az:=Ao.val;have Cg:=Ao.len;refine AX1 (fs:=1) Adm AGx AGk rfl (AU1 AWl rfl Aa (fun h' hb=>(Ax.ext hb).cell (i:=0) rfl) (AWq rfl (AX1 (fs:=1) Ad5 AGx AGk rfl (AU1 AZy rfl Aa (fun h' hb=>(Ax.ext hb).cell (i:=1) rfl) (ATd Aa rfl (Aeo (DS.mono (HDb.ext Am) (Nat.zero_le _)) AGi) fun Ch Ah hk=>?_)))));obtain ⟨rfl,L2,Ap,A3⟩:=hk;refine ⟨Aa,?_⟩;have Bi:=Ap.ds (lo:=lb) HDb.lo;have A4:=Ap.val;have Cj:=Ap.len;refine ATd Aa rfl (Avo na (!nb) Bh Bi Ay A3 (Aed Ay (by rw [Az,<- AXn hza];exact hba)) (Aed A3 (by rw [A4,<- AXn hzb];exact hbb))) fun Ck Cm hk=>?_;obtain ⟨Ad,Bj⟩:=hk;have Bl:=Aa.trans Ad;refine ⟨Bl,?_⟩;have Cn:=Ad.1;have Bm:=Be.trans Ad;have Bn:=Am.trans Ad;have Bo:=Bf.trans Ad;have Bp:=Bg.trans Ad;have Bq:=Bb.ext Ad;have Br:=Ac.trans Ad;obtain ⟨A5,s3,L3,rfl,A7,Bu,Bv,Bw⟩:=Bj.out;refine AU0 [.bool A5,s3] AUa rfl rfl rfl rfl (Abn A7.cap) Bq fun Co Bx Ae=>?_;have By:=Bn.thenUpd Ae (fun k hk=>by have Ai:k=Ab:=hk;omega);have Cp:=Ae.1;have Cq:=Bm.thenUpd Ae (fun k hk=>by have Ai:k=Ab:=hk;omega);have Cr:=Br.thenUpd Ae (fun k hk=>by have Ai:k=Ab:=hk;omega);have Ct:=Bo.thenUpd Ae (fun k hk=>by have Ai:k=Ab:=hk;omega);have Cu:=Bp.thenUpd Ae (fun k hk=>by have Ai:k=Ab:=hk;omega);have Bz:=A7.updLo Ae AGi;refine AGr (AGz (⟨_,AU7 AUa rfl rfl Bx,?_⟩));exact ⟨By,⟨A5,s3,L3,rfl,Bz.mono AGi,Bu,Bv,by rw [<- Bw,Az,A4,hza,hzb,A0x];omega⟩⟩
theorem Avb (a b:Bool) (x y:Nat):sgn a x * sgn b y=sgn (!(a == b)) (x * y):=by
 cases a <;> cases b <;> simp [sgn,Int.neg_mul,Int.mul_neg]
theorem Azb {L:List Nat} (h:Dig L) (hl:L.length<=2):nv L < 18446744073709551616:=by
 have h1:=Ae9 h;have h2:4294967296 ^ L.length<=4294967296 ^ 2:=Nat.pow_le_pow_right AGk hl;omega
theorem Apa {a b:Nat} (h:Afg a b < 0):a < b:=by
 unfold Afg at h;split at h
 ·assumption
 ·split at h <;> omega
theorem Azt {h:AGt} {la lb:Nat} {va vb:Value} {LA LB:List Nat} (HA:DS h la va LA) (HB:DS h lb vb LB) (hta:TL LA) (htb:TL LB) (Ar:nv LB≠0) (hna:LA.length<=2) (hnb:LB.length<=2):ATs Tryz.prog 174 #[va,vb] h fun x h'=>Ext h h'/\ ∃ q r,x= .tuple #[q,r]/\ ∃ LQ LR,DS h' (Array.size h) q LQ/\DS h' (Array.size h) r LR/\TL LQ/\TL LR/\nv LQ=nv LA / nv LB/\nv LR=nv LA % nv LB/\LQ.length<=2/\LR.length<=2:=by
 refine AT5 (l:=[_,_]) mx Tryz.func174 rfl rfl rfl rfl rfl AGx (AGm (ATi (AGu (AGo (AGp (AGm (AGj (AGj (ATd trivial rfl (Aoa HA HB hta htb AGi AGi) fun x1 h hk=>?_)))))))));obtain ⟨rfl,rfl⟩:=hk;refine ⟨trivial,?_⟩;refine AXh rfl rfl (fun Am=>?_) (fun Am=>?_)
 ·refine AGu (ATp rfl (AGm (AGj (ATd trivial rfl (Aqh HA AGi) fun x2 h3 hk=>?_))));obtain ⟨E4,Aa⟩:=hk;refine ⟨trivial,?_⟩;have Ax:=E4.1;have Z6:=(Ext.refl h).trans E4;refine ATi (AGu (AGz (AUg (ATc (⟨_,AUk,?_⟩)))))
  first
  | (have hlt:=Apa (by assumption:Afg (nv LA) (nv LB) < 0)
     exact ⟨E4,_,_,rfl,[],LA,Ai1 _ _,Aa,Akf,hta,by rw [Nat.div_eq_of_lt hlt];rfl,by rw [Nat.mod_eq_of_lt hlt],ATv,AGi⟩)
  | exact ⟨E4,_,_,rfl,L1,L2,lacks_HD1.mono AGi,Aa.mono AGi,Ag,Ah,Ai,Aj,AGi,AGi⟩
 ·refine AGu (ATr rfl (AGm (AGj (AUo ATf rfl HA (Amt rfl rfl (fun _=>?_) (fun hc=>absurd hc AGi))))));refine AGu (ATp rfl (AGm (AGj (ATd trivial rfl (Arj HA AGi) fun x7 h hk=>?_))));obtain ⟨rfl,rfl⟩:=hk;refine ⟨trivial,?_⟩;refine AGj (ATd trivial rfl (Arj HB AGi) fun x8 h hk=>?_);obtain ⟨rfl,rfl⟩:=hk;refine ⟨trivial,?_⟩;refine ATi (AGu (AGo ?_));have hlt:=Azb HA.dig hna;refine Aix AGx (AGj (AGj (Amr rfl rfl AGi ?_)));rw [show IntKind.u64.wrap (((nv LA:Nat):Int).tdiv ((nv LB:Nat):Int))=((nv LA / nv LB:Nat):Int) by rw [Int.tdiv_eq_ediv_of_nonneg AGi,<- Int.natCast_ediv,wrap_u64];have hq:=Nat.div_le_self (nv LA) (nv LB);generalize nv LA / nv LB=q at hq ⊢;omega];refine ATd trivial rfl (Ahx (nv LA / nv LB) (by have:=Nat.div_le_self (nv LA) (nv LB);omega) _) fun x9 A5 hk=>?_;obtain ⟨Ad,L1,Ao,Ag,Ai,A6⟩:=hk;refine ⟨trivial,?_⟩;have A7:=Ad.1;have Ap:=(Ext.refl h).trans Ad;refine AGj (AGj (A4k rfl rfl AGi (ATd trivial rfl (Ahx (nv LA % nv LB) (by have:=Nat.mod_le (nv LA) (nv LB);omega) _) fun A8 A9 hk=>?_)));obtain ⟨Ac,L2,Aa,Ah,Aj,Ba⟩:=hk;refine ⟨trivial,?_⟩;have Bb:=Ac.1;have Bc:=Ap.trans Ac;have Ak:=Ad.trans Ac;have Aq:=Ao.ext Ac;refine ATi (AGu (AGz (AUg (ATc (⟨_,AUk,?_⟩)))))
  first
  | (have hlt:=Apa (by assumption:Afg (nv LA) (nv LB) < 0)
     exact ⟨Ak,_,_,rfl,[],LA,Ai1 _ _,Aa,Akf,hta,by rw [Nat.div_eq_of_lt hlt];rfl,by rw [Nat.mod_eq_of_lt hlt],ATv,AGi⟩)
  | exact ⟨Ak,_,_,rfl,L1,L2,Aq.mono AGi,Aa.mono AGi,Ag,Ah,Ai,Aj,AGi,AGi⟩
theorem Aec {a b q r:Int} (hb:b≠0) (h:a=b * q + r) (h0:0<=r) (h1:r < b.natAbs):a / b=q/\a % b=r:=by
 have hr:r % b=r:=by
   rcases Amb 0 b with hp | hn
   · exact Int.emod_eq_of_lt h0 AGi
   · rw [<- Int.emod_neg];exact Int.emod_eq_of_lt h0 AGi
 have hm:a % b=r:=by rw [h,Int.add_comm,Int.add_mul_emod_self_left];exact hr
 refine ⟨?_,hm⟩;have h2:=Int.mul_ediv_add_emod a b;rw [hm] at h2;have h3:b * (a / b)=b * q:=by omega
 exact Int.eq_of_mul_eq_mul_left hb h3
theorem BBt {A B:Nat} (hA:A < 18446744073709551616) (hr:A % B≠0):A / B + 1 < 18446744073709551616:=by
 match B with
 | 0=>simp
 | 1=>omega
 | n + 2=>
   have:A / (n + 2)<=A / 2:=Nat.div_le_div_left (show 2<=n + 2 by omega) AGi
   omega
theorem BBu {nb:Bool} {A B:Nat} (hB:B≠0):sgn nb (A / B)=(A:Int) / sgn nb B/\sgn false (A % B)=(A:Int) % sgn nb B:=by
 have h:=Nat.div_add_mod A B;have hl:=Nat.mod_lt A (Nat.pos_of_ne_zero hB);have h2:(A:Int)=(B:Int) * ((A / B:Nat):Int) + ((A % B:Nat):Int):=by rw [<- Int.natCast_mul,<- Int.natCast_add,h]
 have:=Aec (a:=A) (b:=sgn nb B) (q:=sgn nb (A / B)) (r:=((A % B:Nat):Int)) (by cases nb <;> simp [sgn] <;> omega) (by cases nb <;> simp only [sgn] <;> simp [Int.neg_mul_neg] <;> (rw [<- Int.natCast_ediv,<- Int.natCast_emod];exact h2)) AGi (by cases nb <;> simp only [sgn] <;> simp <;> omega);exact ⟨this.1.symm,this.2.symm⟩
theorem A88 {nb:Bool} {A B:Nat} (hB:B≠0) (hr:A % B≠0):sgn (!nb) (A / B + 1)= -(A:Int) / sgn nb B/\sgn false (B - A % B)= -(A:Int) % sgn nb B:=by
 have h:=Nat.div_add_mod A B;have hl:=Nat.mod_lt A (Nat.pos_of_ne_zero hB);have h2:(A:Int)=(B:Int) * ((A / B:Nat):Int) + ((A % B:Nat):Int):=by rw [<- Int.natCast_mul,<- Int.natCast_add,h]
 obtain ⟨q,hq⟩:∃ q,A / B=q:=⟨_,rfl⟩;obtain ⟨r,hrr⟩:∃ r,A % B=r:=⟨_,rfl⟩;rw [hq,hrr] at h2;rw [hrr] at hl hr;rw [hq,hrr];have e:((B - r:Nat):Int)=(B:Int) - (r:Int):=by omega
 have:=Aec (a:= -(A:Int)) (b:=sgn nb B) (q:=sgn (!nb) (q + 1)) (r:=((B - r:Nat):Int)) (by cases nb <;> simp [sgn] <;> omega) (by rw [h2,e];cases nb <;> simp [sgn] <;> grind) AGi (by cases nb <;> simp only [sgn] <;> simp <;> omega);exact ⟨this.1.symm,this.2.symm⟩
theorem A89 {nb:Bool} {A B:Nat} (hB:B≠0) (hr:A % B=0):sgn (!nb) (A / B)= -(A:Int) / sgn nb B/\sgn false (A % B)= -(A:Int) % sgn nb B:=by
 have h:=Nat.div_add_mod A B;have h2:(A:Int)=(B:Int) * ((A / B:Nat):Int):=by rw [<- Int.natCast_mul];omega
 obtain ⟨q,hq⟩:∃ q,A / B=q:=⟨_,rfl⟩;rw [hq] at h2;rw [hq,hr];have:=Aec (a:= -(A:Int)) (b:=sgn nb B) (q:=sgn (!nb) q) (r:=0) (by cases nb <;> simp [sgn] <;> omega) (by rw [h2];cases nb <;> simp [sgn] <;> grind) AGi (by cases nb <;> simp only [sgn] <;> simp <;> omega);exact ⟨this.1.symm,this.2.symm⟩
theorem DivMod2_ok {h:AGt} {la lb:Nat} {va vb:Value} {a b:Int} (HA:ZV h la va a) (HB:ZV h lb vb b) (hba:a.natAbs < 18446744073709551616) (hbb:b.natAbs < 18446744073709551616) (C5:b≠0):ATs Tryz.prog 157 #[va,vb] h fun x h'=>Ext h h'/\ ∃ q r,x= .tuple #[q,r,.bool true]/\ZV h' (Array.size h) q (a / b)/\ZV h' (Array.size h) r (a % b):=by
 obtain ⟨na,sa,LA,rfl,HDa,htla,hla,hza⟩:=HA.out;obtain ⟨nb,sb,LB,rfl,HDb,htlb,hlb,hzb⟩:=HB.out;refine AT5 (l:=[_,_]) mx Tryz.func157 rfl rfl rfl rfl rfl AGx (AGm (Abq [.bool na,sa] (fun _=>trivial) rfl rfl fun A5 h2 V3 E4 C6 C7=>?_));have Hn:Array.size h<=A5:=C6;have Ho:=E4.1;have Z8:=(Ext.refl h).trans E4;refine Abq [.bool nb,sb] (fun _=>trivial) rfl rfl fun A6 Hq Bb A9 C9 Hr=>?_;have Hs:Array.size h<=A6:=Nat.le_trans E4.1 C9;have nebq1bq9:A5≠A6:=by have:=V3.lt;omega
 have Ht:=A9.1;have Cg:=E4.trans A9;have Bc:=V3.ext A9;refine AYx [.bool false,.slice none 0 0] AXi rfl (fun _=>trivial) fun Ac Hu Ch Ay Da Hv=>?_;have Hw:Array.size h<=Ac:=Nat.le_trans Cg.1 Da;have nebq1bq20:A5≠Ac:=by have:=Bc.lt;omega
 have nebq9bq20:A6≠Ac:=by have:=Bb.lt;omega
 have Hx:=Ay.1;have Db:=(Z8.trans A9).trans Ay;have Ci:=Cg.trans Ay;have Cj:=Bc.ext Ay;have Dc:=(E4.trans A9).trans Ay;have Ck:=Bb.ext Ay;refine AYx [.bool false,.slice none 0 0] AXi rfl (fun _=>trivial) fun Aa Cm Dd Ax De Hy=>?_;have Hz:Array.size h<=Aa:=Nat.le_trans Ci.1 De;have nebq1bq33:A5≠Aa:=by have:=Cj.lt;omega
 have nebq9bq33:A6≠Aa:=by have:=Ck.lt;omega
 have nebq20bq33:Ac≠Aa:=by have:=Ch.lt;omega
 have Ia:=Ax.1;have Df:=Db.trans Ax;have Bu:=Ci.trans Ax;have Cn:=Cj.ext Ax;have Dg:=Dc.trans Ax;have Co:=Ck.ext Ax;have Dh:=(A9.trans Ay).trans Ax;have Di:=Ch.ext Ax;have Dj:=Ay.trans Ax;refine ATw (AX1 (fs:=1) Ad5 AGx AGk rfl (AT3 AZy rfl (Co.cell (i:=1) rfl) (ATd trivial rfl (Aeo (DS.mono (HDb.ext Bu) (Nat.zero_le _)) AGi) fun Ib Cm hk=>?_)));obtain ⟨rfl,L2,Bv,Bw⟩:=hk;refine ⟨trivial,?_⟩;have Bx:=Bv.ds (lo:=lb) HDb.lo;have A7:=Bv.val;have Ic:=Bv.len;refine AGu (AGo (AGm (AGj (AUo ATf rfl Bx ?_))));have Be:nv LB≠0:=fun h0=>C5 (by rw [hzb,h0];cases nb <;> rfl);have hLB:L2≠[]:=fun h0=>Be (by rw [<- A7,h0];rfl);have hLp:=List.length_pos_iff.2 hLB;refine Ama rfl rfl (fun hc=>absurd hc AGi) (fun _=>AGr (ATr rfl (AGy (q_t (AGm (AX1 (fs:=1) Ad5 AGx AGk rfl (AT3 AZy rfl (Cn.cell (i:=1) rfl) (ATd trivial rfl (Aeo (DS.mono (HDa.ext Bu) (Nat.zero_le _)) AGi) fun Id Cm hk=>?_))))))));obtain ⟨rfl,L1,By,Cq⟩:=hk;refine ⟨trivial,?_⟩;have Cr:=By.ds (lo:=la) HDa.lo;have Ct:=By.val;have If:=By.len;refine AGj (ATd trivial rfl (Azt Cr Bx Cq Bw (by rw [A7];exact Be) (Aed Cq (by rw [Ct,<- AXn hza];omega)) (Aed Bw (by rw [A7,<- AXn hzb];omega))) fun Ih Ii hk=>?_);obtain ⟨Am,qv,rv,rfl,LQ,LR,HQ,HR,htq,htr,hvq,hvr,hlq,hlr⟩:=hk;refine ⟨trivial,?_⟩;have Ij:=Am.1;have Bz:=Df.trans Am;have B1:=Bu.trans Am;have B3:=Cn.ext Am;have B4:=Dg.trans Am;have Dk:=Co.ext Am;have B5:=Dh.trans Am;have B6:=Di.ext Am;have B7:=Dj.trans Am;have B8:=Dd.ext Am;have B9:=Bx.ext Am;have Ca:=Cr.ext Am;rw [Ct,A7] at hvq hvr;have Ik:L2.length<=2:=Aed Bw (by rw [A7,<- AXn hzb];omega);refine AGj (AUb rfl rfl (AUb rfl rfl (ATi (ATw (AX1 (fs:=1) Adm AGx AGk rfl (AT3 AWl rfl (Dk.cell (i:=0) rfl) (AGu (AGo (AGp (AGo (AGp (AGo (AGp (AGo (AGo (AGo ?_))))))))))))))));have hrl:LR.length=0↔nv LA % nv LB=0:=⟨fun h0=>by rw [<- hvr,List.length_eq_zero_iff.1 h0];rfl,fun h0=>by rw [AY4 htr (hvr.trans h0)];rfl⟩;refine AS3 (AX1 (fs:=1) Adm AGx AGk rfl (AT3 AWl rfl (B3.cell (i:=0) rfl) ?_));cases Bf:na
 ·refine AGj (AUd 32 false AGx rfl rfl (AUd 32 false AGx rfl rfl (AUd 32 false AGx rfl rfl (ATm rfl (AGu (ATr rfl (AGy (q_t (AGm (AX1 (fs:=1) Adm AGx AGk rfl (AT3 AWl rfl (B3.cell (i:=0) rfl) ?_)))))))))));rw [Bf];refine AGu (ATr rfl (AGy (q_t (AS8 (Atl AGk (ATa (Atl AGk (ATa (AT7 (q_t (AGm (AGj (AGj (ATd trivial rfl (Aca nb HQ htq AGi) fun Il Im hk=>?_))))))))))))));obtain ⟨Ao,Bg⟩:=hk;refine ⟨trivial,?_⟩;have Io:=Ao.1;have Dl:=Bz.trans Ao;have Do:=B1.trans Ao;have Dp:=B4.trans Ao;have Dq:=B5.trans Ao;have Dr:=B6.ext Ao;have Ds:=B7.trans Ao;have Dt:=B8.ext Ao;have Ip:=B9.ext Ao;have Iq:=Ca.ext Ao;have HQ_82:=HQ.ext Ao;have HR_83:=HR.ext Ao;obtain ⟨Az,s7,L7,rfl,Bi,Bj,Bl,Bm⟩:=Bg.out;refine AGj (ATd trivial rfl (Aca false HR_83 htr AGi) fun Ir Is hk=>?_);obtain ⟨Ar,Bn⟩:=hk;refine ⟨trivial,?_⟩;have It:=Ar.1;have Du:=Dl.trans Ar;have Dv:=Do.trans Ar;have Dw:=Dp.trans Ar;have Dx:=Dq.trans Ar;have Dy:=Dr.ext Ar;have Dz:=Ds.trans Ar;have D0:=Dt.ext Ar;have HQ_98:=HQ_82.ext Ar;have HR_99:=HR_83.ext Ar;have Cu:=Bi.ext Ar;obtain ⟨A4,s8,L8,rfl,Bp,Bq,Br,Bt⟩:=Bn.out;refine AU0 [.bool Az,s7] AUa rfl rfl rfl rfl (Abn Cu.cap) Dy fun Iu D1 Au=>?_;have D2:=Dv.thenUpd Au (fun k hk=>by have Ab:k=Ac:=hk;omega);have Iv:=Au.1;have D3:=Du.thenUpd Au (fun k hk=>by have Ab:k=Ac:=hk;omega);have Cb:=Dz.thenUpd Au (fun k hk=>by have Ab:k=Ac:=hk;omega);have D4:=Dw.thenUpd Au (fun k hk=>by have Ab:k=Ac:=hk;omega);have D5:=Dx.thenUpd Au (fun k hk=>by have Ab:k=Ac:=hk;omega);have D6:=D0.upd Au (fun he=>(Ne.symm nebq20bq33) (he:Aa=Ac));have HQ_113:=HQ_98.updLo Au AGi;have HR_114:=HR_99.updLo Au AGi;have D7:=Cu.updLo Au AGi;have Cv:=Bp.updLo Au AGi;refine AU0 [.bool A4,s8] AUa rfl rfl rfl rfl (Abn Cv.cap) D6 fun Iw D8 Ag=>?_;have D9:=D2.thenUpd Ag (fun k hk=>by have Ab:k=Aa:=hk;omega);have Ix:=Ag.1;have Iy:=D3.thenUpd Ag (fun k hk=>by have Ab:k=Aa:=hk;omega);have Iz:=(Bc.ext Cb).upd Ag (fun he=>nebq1bq33 (he:A5=Aa));have I0:=D4.thenUpd Ag (fun k hk=>by have Ab:k=Aa:=hk;omega);have I1:=(Bb.ext Cb).upd Ag (fun he=>nebq9bq33 (he:A6=Aa));have I2:=D5.thenUpd Ag (fun k hk=>by have Ab:k=Aa:=hk;omega);have Ea:=D1.upd Ag (fun he=>nebq20bq33 (he:Ac=Aa));have I3:=Cb.thenUpd Ag (fun k hk=>by have Ab:k=Aa:=hk;omega);have HQ_129:=HQ_113.updLo Ag AGi;have HR_130:=HR_114.updLo Ag AGi;have Eb:=D7.updLo Ag AGi;have Ec:=Cv.updLo Ag AGi;refine AGu (AGz (⟨_,Agj AUa rfl rfl Ea AUa rfl rfl D8,?_⟩));have hk:=BBu (nb:=nb) (A:=nv LA) Be;have ea:a=((nv LA:Nat):Int):=by rw [hza,Bf];rfl
  exact ⟨D9,_,_,rfl,⟨Az,s7,L7,rfl,Eb.mono AGi,Bj,Bl,by rw [<- Bm,hvq,ea,hzb];exact hk.1.symm⟩,⟨A4,s8,L8,rfl,Ec.mono AGi,Bq,Br,by rw [<- Bt,hvr,ea,hzb];exact hk.2.symm⟩⟩
 ·refine AGj (AUn 32 true AGx rfl rfl (AGj (AUn 32 true AGx rfl rfl (AUo ATf rfl HR (AUn 32 true AGx rfl rfl (Aju rfl rfl (fun Ed=>?_) (fun Ed=>?_)))))))
  ·refine ATj rfl (AGu (ATp rfl (AS8 (ATa (ATa (AT7 (q_t (AGm (AGj (A4t [Afk 1] ATf Adv rfl (fun _=>trivial) rfl AGi AGi rfl (by simp [Afk,isOne]) fun g8 v8 h8 Eg E8 I6 I7=>?_))))))))));have I9:=E8.1;have Eh:=Bz.trans E8;have Ei:=B1.trans E8;have Ej:=B4.trans E8;have Ek:=B5.trans E8;have El:=B6.ext E8;have Em:=B7.trans E8;have En:=B8.ext E8;have Eo:=B9.ext E8;have Ep:=Ca.ext E8;have HQ_146:=HQ.ext E8;have HR_147:=HR.ext E8;have HDu:DS h8 0 v8 [1]:=AV5.ds (L:=[1]) Eg (by intro x hx;rw [List.mem_singleton.1 hx];decide) (Nat.zero_le _);refine ATd trivial rfl (Aug HQ_146 HDu AGi ATv) fun Ja Jc hk=>?_;obtain ⟨Ah,L5,Es,Cw,Cx,Je⟩:=hk;refine ⟨trivial,?_⟩;have Jf:=Ah.1;have Et:=Eh.trans Ah;have Eu:=Ei.trans Ah;have Ev:=Ej.trans Ah;have Ew:=Ek.trans Ah;have Ey:=El.ext Ah;have Ez:=Em.trans Ah;have Fa:=En.ext Ah;have Cy:=Eo.ext Ah;have Fb:=Ep.ext Ah;have HQ_164:=HQ_146.ext Ah;have HR_165:=HR_147.ext Ah;have HDu_166:=HDu.ext Ah;refine AGu (AS3 (AGj (AGj (ATd trivial rfl (Aqi Cy HR_165 htr (by rw [hvr,A7];exact Nat.le_of_lt (Nat.mod_lt _ AGi)) AGi) fun Jg Jh hk=>?_))));obtain ⟨Af,L6,Fc,Fd,Fe,C7⟩:=hk;refine ⟨trivial,?_⟩;have Jj:=Af.1;have Ff:=Et.trans Af;have Fg:=Eu.trans Af;have Fh:=Ev.trans Af;have Fi:=Ew.trans Af;have Fj:=Ey.ext Af;have Fk:=Ez.trans Af;have Fl:=Fa.ext Af;have Fm:=Cy.ext Af;have Fo:=Fb.ext Af;have HQ_183:=HQ_164.ext Af;have HR_184:=HR_165.ext Af;have HDu_185:=HDu_166.ext Af;have Cz:=Es.ext Af;refine ATi (ATh (q_b (q_t (AGm (AGj (AWq rfl (AGu (AS8 (AT7 (q_t (AGm (AGj (AGj (ATd trivial rfl (Aca (!nb) Cz Cw (by have h5:L5.length<=2:=Aed Cw (by rw [Cx,hvq];exact BBt (A:=nv LA) (B:=nv LB) (by rw [<- AXn hza];exact hba) AGi);omega)) fun Jl Jm hk=>?_))))))))))))));obtain ⟨Ad,Bg⟩:=hk;refine ⟨trivial,?_⟩;have Jn:=Ad.1;have Fp:=Ff.trans Ad;have Fq:=Fg.trans Ad;have Fr:=Fh.trans Ad;have Ft:=Fi.trans Ad;have Fu:=Fj.ext Ad;have Fv:=Fk.trans Ad;have Fw:=Fl.ext Ad;have Jo:=Fm.ext Ad;have Jp:=Fo.ext Ad;have HQ_203:=HQ_183.ext Ad;have HR_204:=HR_184.ext Ad;have HDu_205:=HDu_185.ext Ad;have Fx:=Cz.ext Ad;have C0:=Fc.ext Ad;obtain ⟨Az,s7,L7,rfl,Bi,Bj,Bl,Bm⟩:=Bg.out;refine AGj (ATd trivial rfl (Aca false C0 Fd AGi) fun Jq Jr hk=>?_);obtain ⟨Ai,Bn⟩:=hk;refine ⟨trivial,?_⟩;have Js:=Ai.1;have Fy:=Fp.trans Ai;have Fz:=Fq.trans Ai;have F4:=Fr.trans Ai;have F5:=Ft.trans Ai;have F6:=Fu.ext Ai;have F7:=Fv.trans Ai;have F8:=Fw.ext Ai;have HQ_222:=HQ_203.ext Ai;have HR_223:=HR_204.ext Ai;have F9:=Fx.ext Ai;have Ga:=C0.ext Ai;have C1:=Bi.ext Ai;obtain ⟨A4,s8,L8,rfl,Bp,Bq,Br,Bt⟩:=Bn.out;refine AU0 [.bool Az,s7] AUa rfl rfl rfl rfl (Abn C1.cap) F6 fun Jt Gb Aj=>?_;have Gc:=Fz.thenUpd Aj (fun k hk=>by have Ab:k=Ac:=hk;omega);have Ju:=Aj.1;have Gd:=Fy.thenUpd Aj (fun k hk=>by have Ab:k=Ac:=hk;omega);have Cd:=F7.thenUpd Aj (fun k hk=>by have Ab:k=Ac:=hk;omega);have Ge:=F4.thenUpd Aj (fun k hk=>by have Ab:k=Ac:=hk;omega);have Gf:=F5.thenUpd Aj (fun k hk=>by have Ab:k=Ac:=hk;omega);have Gg:=F8.upd Aj (fun he=>(Ne.symm nebq20bq33) (he:Aa=Ac));have HQ_239:=HQ_222.updLo Aj AGi;have HR_240:=HR_223.updLo Aj AGi;have Gh:=F9.updLo Aj AGi;have Gi:=Ga.updLo Aj AGi;have Gj:=C1.updLo Aj AGi;have C2:=Bp.updLo Aj AGi;refine AU0 [.bool A4,s8] AUa rfl rfl rfl rfl (Abn C2.cap) Gg fun Jv Gk Ae=>?_;have Gl:=Gc.thenUpd Ae (fun k hk=>by have Ab:k=Aa:=hk;omega);have Jw:=Ae.1;have Jx:=Gd.thenUpd Ae (fun k hk=>by have Ab:k=Aa:=hk;omega);have Jy:=(Bc.ext Cd).upd Ae (fun he=>nebq1bq33 (he:A5=Aa));have Jz:=Ge.thenUpd Ae (fun k hk=>by have Ab:k=Aa:=hk;omega);have J0:=(Bb.ext Cd).upd Ae (fun he=>nebq9bq33 (he:A6=Aa));have J1:=Gf.thenUpd Ae (fun k hk=>by have Ab:k=Aa:=hk;omega);have Gm:=Gb.upd Ae (fun he=>nebq20bq33 (he:Ac=Aa));have J2:=Cd.thenUpd Ae (fun k hk=>by have Ab:k=Aa:=hk;omega);have HQ_257:=HQ_239.updLo Ae AGi;have HR_258:=HR_240.updLo Ae AGi;have J3:=Gh.updLo Ae AGi;have J4:=Gi.updLo Ae AGi;have Gn:=Gj.updLo Ae AGi;have Gp:=C2.updLo Ae AGi;refine AGu (AGz (⟨_,Agj AUa rfl rfl Gm AUa rfl rfl Gk,?_⟩));have hk:=A88 (nb:=nb) (A:=nv LA) Be AGi;have ea:a= -((nv LA:Nat):Int):=by rw [hza,Bf];rfl
   exact ⟨Gl,_,_,rfl,⟨Az,s7,L7,rfl,Gn.mono AGi,Bj,Bl,by rw [<- Bm,Cx,hvq,ea,hzb];exact hk.1.symm⟩,⟨A4,s8,L8,rfl,Gp.mono AGi,Bq,Br,by rw [<- Bt,Fe,A7,hvr,ea,hzb];exact hk.2.symm⟩⟩
  ·refine ATj rfl (AGu (ATr rfl (AGy (q_t (AGm (AX1 (fs:=1) Adm AGx AGk rfl (AT3 AWl rfl (B3.cell (i:=0) rfl) ?_)))))));rw [Bf];refine AGu (ATp rfl (AS8 (ATa (Atl AGk (ATa (AT7 (q_t (AGm (AGj (AWq rfl (AGu (AS8 (AT7 (q_t (AGm (AGj (AGj (ATd trivial rfl (Aca (!nb) HQ htq AGi) fun J5 J6 hk=>?_))))))))))))))))));obtain ⟨Aq,Bg⟩:=hk;refine ⟨trivial,?_⟩;have J7:=Aq.1;have Gq:=Bz.trans Aq;have Gr:=B1.trans Aq;have Gt:=B4.trans Aq;have Gu:=B5.trans Aq;have Gv:=B6.ext Aq;have Gw:=B7.trans Aq;have Gx:=B8.ext Aq;have J8:=B9.ext Aq;have J9:=Ca.ext Aq;have HQ_279:=HQ.ext Aq;have HR_280:=HR.ext Aq;obtain ⟨Az,s7,L7,rfl,Bi,Bj,Bl,Bm⟩:=Bg.out;refine AGj (ATd trivial rfl (Aca false HR_280 htr AGi) fun Ka Kb hk=>?_);obtain ⟨Av,Bn⟩:=hk;refine ⟨trivial,?_⟩;have Kc:=Av.1;have Gy:=Gq.trans Av;have Gz:=Gr.trans Av;have G3:=Gt.trans Av;have G4:=Gu.trans Av;have G5:=Gv.ext Av;have G6:=Gw.trans Av;have G7:=Gx.ext Av;have HQ_295:=HQ_279.ext Av;have HR_296:=HR_280.ext Av;have C3:=Bi.ext Av;obtain ⟨A4,s8,L8,rfl,Bp,Bq,Br,Bt⟩:=Bn.out;refine AU0 [.bool Az,s7] AUa rfl rfl rfl rfl (Abn C3.cap) G5 fun Kd G8 Aw=>?_;have G9:=Gz.thenUpd Aw (fun k hk=>by have Ab:k=Ac:=hk;omega);have Ke:=Aw.1;have Hb:=Gy.thenUpd Aw (fun k hk=>by have Ab:k=Ac:=hk;omega);have Ce:=G6.thenUpd Aw (fun k hk=>by have Ab:k=Ac:=hk;omega);have Hc:=G3.thenUpd Aw (fun k hk=>by have Ab:k=Ac:=hk;omega);have Hd:=G4.thenUpd Aw (fun k hk=>by have Ab:k=Ac:=hk;omega);have He:=G7.upd Aw (fun he=>(Ne.symm nebq20bq33) (he:Aa=Ac));have HQ_310:=HQ_295.updLo Aw AGi;have HR_311:=HR_296.updLo Aw AGi;have Hf:=C3.updLo Aw AGi;have C4:=Bp.updLo Aw AGi;refine AU0 [.bool A4,s8] AUa rfl rfl rfl rfl (Abn C4.cap) He fun Kf Hg Ak=>?_;have Hh:=G9.thenUpd Ak (fun k hk=>by have Ab:k=Aa:=hk;omega);have Kg:=Ak.1;have Kh:=Hb.thenUpd Ak (fun k hk=>by have Ab:k=Aa:=hk;omega);have Ki:=(Bc.ext Ce).upd Ak (fun he=>nebq1bq33 (he:A5=Aa));have Kj:=Hc.thenUpd Ak (fun k hk=>by have Ab:k=Aa:=hk;omega);have Kk:=(Bb.ext Ce).upd Ak (fun he=>nebq9bq33 (he:A6=Aa));have Kl:=Hd.thenUpd Ak (fun k hk=>by have Ab:k=Aa:=hk;omega);have Hj:=G8.upd Ak (fun he=>nebq20bq33 (he:Ac=Aa));have Km:=Ce.thenUpd Ak (fun k hk=>by have Ab:k=Aa:=hk;omega);have HQ_326:=HQ_310.updLo Ak AGi;have HR_327:=HR_311.updLo Ak AGi;have Hk:=Hf.updLo Ak AGi;have Hl:=C4.updLo Ak AGi;refine AGu (AGz (⟨_,Agj AUa rfl rfl Hj AUa rfl rfl Hg,?_⟩));have hk:=A89 (nb:=nb) (A:=nv LA) Be AGi;have ea:a= -((nv LA:Nat):Int):=by rw [hza,Bf];rfl
   exact ⟨Hh,_,_,rfl,⟨Az,s7,L7,rfl,Hk.mono AGi,Bj,Bl,by rw [<- Bm,hvq,ea,hzb];exact hk.1.symm⟩,⟨A4,s8,L8,rfl,Hl.mono AGi,Bq,Br,by rw [<- Bt,hvr,ea,hzb];exact hk.2.symm⟩⟩
end Go.Proofs.YthbndcbclhkepaaGreatDoor.Ig
namespace Go.QF
open Go
section
variable {P:Program} {B:AGt->Prop} {st:Bool} {ops:Array Oper} {rest:List Oper} {e:Env} {h:AGt} {K:Env->AGt->Prop} {d:Nat} {ty:TypeId} {pos:String} {af:Array Edge}
theorem A1f {x y z:Operand} {t el er g lo hi:Nat} {v:Value} {l:List Value} {k1 k2:IntKind} (hT:SlT P t el 1) (hx:e.ev x=v) (HO:AV5 h er g v l) (hy:e.ev y= .int k1 (lo:Int)) (hz:e.ev z= .int k2 (hi:Int)) (hlt:lo < hi) (hle:hi<=l.length)
    (H:∀ c,RL P B st ops rest (e.set d (.slice (some ⟨g,lo,none⟩) (hi - lo) c)) h K):RL P B st ops (⟨some d,.slice t x (some y) (some z) none,ty,pos,af,none⟩ :: rest) e h K:=by
  obtain ⟨cap,cur,rfl,hg,h1,h2,h3,h4⟩:=HO;refine AXp (v:= .slice (some ⟨g,lo,none⟩) (hi - lo) (cap - lo)) rfl rfl (fun w=>?_) (H _);obtain ⟨hu,i,hi',hs⟩:=hT;have a4: ¬ cap=lo:=by omega
  simp [execOp,hx,hy,hz,Instr.sliceAt,Instr.slice,Adk hu,Instr.sliceBounds,Instr.sliceBound,asIntOf,a4,Ag7 hi',hs,Addr.add];rw [if_pos AGi,if_pos AGi]
  by_cases h0:lo=0
  · subst h0;simp
  · rw [if_neg h0]
theorem Auh {x i:Operand} {t el g o n c j:Nat} {k:IntKind} (hT:SlT P t el 1) (hx:e.ev x= .slice (some ⟨g,o,none⟩) n c) (hi:e.ev i= .int k (j:Int)) (hj:j < n)
    (H:RL P B st ops rest (e.set d (.pointer (some ⟨g,o + j,none⟩))) h K):RL P B st ops (⟨some d,.indexAddr t x i,ty,pos,af,none⟩ :: rest) e h K:=by
  refine Ayw hT hx hi AGi AGi ?_;have he:(⟨g,o,none⟩:Addr).add ((j:Int).toNat * 1)=⟨g,o + j,none⟩:=by rw [AXq];simp
  rw [he];exact H
end
end Go.QF
namespace Go.Proofs.YthbndcbclhkepaaGreatDoor.Ig
open Go Go.QF
set_option maxRecDepth 100000
theorem A26 {h:AGt} {la lb:Nat} {va vb:Value} {LA LB:List Nat} (HA:DS h la va LA) (HB:DS h lb vb LB) (hna:LA.length<=1000) (hnb:LB.length<=1000):ATs Tryz.prog 177 #[va,vb] h fun x h'=>Ext h h'/\ ∃ L,DS h' (Array.size h) x L/\TL L/\nv L=nv LA * nv LB/\L.length<=LA.length + LB.length + 2:=by
 refine AT5 (l:=[_,_]) mx Tryz.func177 rfl rfl rfl rfl rfl AGx (AGm (AGu (AGo (AGm (AGj (AUo ATf rfl HA (Amt rfl rfl (fun Aw=>?_) (fun Aw=>?_))))))))
 ·refine AGj (AUn 15 true AGx rfl rfl (AGj (AUn 15 true AGx rfl rfl (AUo ATf rfl HB (AUn 15 true AGx rfl rfl (Amt rfl rfl (fun Ax=>?_) (fun Ax=>?_)))))))
  ·refine ATj rfl (AGr (ATp rfl (AGm (AGj (ATd trivial rfl (Arj HA AGi) fun x1 h hk=>?_)))));obtain ⟨rfl,rfl⟩:=hk;refine ⟨trivial,?_⟩;refine AGj (ATd trivial rfl (Arj HB AGi) fun x2 h hk=>?_);obtain ⟨rfl,rfl⟩:=hk;refine ⟨trivial,?_⟩;have hm:=A58 HA.dig HB.dig AGi AGi;refine Au5 rfl rfl hm (ATd trivial rfl (Ahx (nv LA * nv LB) AGi _) fun x3 h4 hk=>?_);obtain ⟨E5,L1,Ay,Ak,Am,Av⟩:=hk;refine ⟨trivial,?_⟩;have Bo:=E5.1;have Z7:=(Ext.refl h).trans E5;refine AGu (AGz (ATc (⟨_,AS2,?_⟩)))
   first
   | exact ⟨E5,L1,Ay,Ak,Am,AGi⟩
   | exact ⟨E5,L2,HT.ds HDo.lo,htl,by rw [HT.val,hOv],by have:=HT.len;omega⟩
  ·refine ATj rfl (AGr (ATr rfl (AGy (q_t (AGm (AGj (AUo ATf rfl HA (AGj (AUo ATf rfl HB (Ahb rfl rfl AGi (Ar9 (n:=LA.length + LB.length) ATf Adv (fun _=>trivial) rfl rfl AGk AGi fun g1 v1 h1 Ao E1 Az Av=>?_)))))))))));have Bq:=E1.1;have Z9:=(Ext.refl h).trans E1;refine AGu (AGo (AGm (AGj (AUo ATf rfl (HA.ext E1) (AGj (AGr (AGp (AX0 19342813113834049615433664 (fun y:Nat × List Nat=>[(34,.int .i64 (y.1:Int))]) (fun k y h'=>k=LA.length - y.1/\y.1<=LA.length/\Ext h h'/\g1 < Array.size h'/\AV5 h' 170 g1 v1 (y.2.map Afk)/\y.2.length=LA.length + LB.length/\Dig y.2/\nv y.2=nv (LA.take y.1) * nv LB/\ ∀ q,y.1 + LB.length<=q->q < LA.length + LB.length->y.2[q]? =some 0) AGx LA.length (0,List.replicate (LA.length + LB.length) 0) ?_ ⟨rfl,trivial⟩ ?_))))))))
   ·exact ⟨rfl,Nat.zero_le _,E1,AGi,Ao,ATv,fun x hx=>by rw [(List.mem_replicate.1 hx).2];decide,by simp [nv,Asg],fun q hq A3=>by dsimp only;rw [List.getElem?_replicate];simp;omega⟩
   rintro k ⟨i,O⟩ s1 hq ⟨rfl,hi,XQ,hgq,Aa,hOl,hOd,hOv,hOz⟩;dsimp only at hi Aa hOl hOd hOv hOz ⊢;refine AGm (AXh rfl rfl (fun A4=>?_) (fun A4=>?_))
   ·refine AGr (AGo (ATp rfl (AGy (q_t (AGo (AGp (AGo ?_)))))));obtain ⟨x,hx⟩:∃ x,LA[i]? =some x:=⟨_,List.getElem?_eq_getElem AGi⟩;have hbx:=HA.dig x (List.mem_of_getElem? hx);refine AS3 (AGj (Aa6 ATf rfl (HA.ext XQ) rfl hx fun Bt A5=>AT3 AU8 rfl A5 (ATi (AGu (AGo (AGm (AGj (Ama rfl rfl (fun A6=>?_) (fun A6=>?_)))))))))
    ·refine AGr (ATp rfl (AS8 (ATa (AT7 (q_t (AS3 (Ab5 rfl AGi (AGj (AGr ?_)))))))));exact ⟨LA.length - (i + 1),(i + 1,O),by first | omega | (dsimp only;omega),⟨rfl,by first | omega | (dsimp only;omega),XQ,AGi,Aa,hOl,hOd,by dsimp only;rw [hOv,AUu hx,show x=0 by omega];simp,fun q h1 h2=>hOz q (by dsimp only at h1;omega) h2⟩,rfl,trivial⟩
    ·refine AGr (ATr rfl (AGy (q_t (AGm (AGj (AGj (AGj (AGj (AUo ATf rfl (HB.ext XQ) (Ahb rfl rfl AGi (Ahb (b:=1) rfl rfl AGi (A1f (lo:=i) (hi:=i + LB.length + 1) ATf rfl Aa rfl rfl AGi (by rw [List.length_map];omega) fun cw=>?_))))))))))));refine ATw (AGu (AGo (AGm (AGj (AUo ATf rfl (HB.ext XQ) (AGj (AGr (AGp (AX0 151115725200028833156608 (fun y:Nat × Nat × List Nat=>[(51,.int .i64 (y.1:Int)),(9,.int .u64 (y.2.1:Int))]) (fun k y h'=>k=LB.length - y.1/\y.1<=LB.length/\Ext h h'/\g1 < Array.size h'/\AV5 h' 170 g1 v1 (y.2.2.map Afk)/\y.2.2.length=LA.length + LB.length/\Dig y.2.2/\y.2.1 < 4294967296/\nv y.2.2 + 4294967296 ^ (i + y.1) * y.2.1=nv (LA.take i) * nv LB + 4294967296 ^ i * (x * nv (LB.take y.1))/\ ∀ q,i + LB.length<=q->q < LA.length + LB.length->y.2.2[q]? =some 0) AGx LB.length (0,0,O) ?_ ⟨rfl,rfl,trivial⟩ ?_)))))))))
     ·exact ⟨rfl,Nat.zero_le _,XQ,AGi,Aa,hOl,hOd,by dsimp only;omega,by simp [nv,hOv],hOz⟩
     rintro k ⟨j,c,O⟩ s2 hp ⟨rfl,hj,XQ,hgq,Aa,hOl,hOd,hc,hOv,hOz⟩;dsimp only at hj Aa hOl hOd hc hOv hOz ⊢;refine AGm (AXh rfl rfl (fun A7=>?_) (fun A7=>?_))
     ·refine AGr (AGo (ATp rfl (AGy (q_t (AGo (AGp (AGo ?_)))))));obtain ⟨y,hy⟩:∃ x,LB[j]? =some x:=⟨_,List.getElem?_eq_getElem AGi⟩;have hby:=HB.dig y (List.mem_of_getElem? hy);obtain ⟨ov,hov⟩:∃ x,O[i + j]? =some x:=⟨_,List.getElem?_eq_getElem AGi⟩;have hbo:=hOd ov (List.mem_of_getElem? hov);have htb:=Au6 hc hbx hby hbo;have hxy:x * y<=4294967295 * 4294967295:=Nat.mul_le_mul AGi AGi;refine AS3 (AGj (Aa6 ATf rfl (HB.ext XQ) rfl hy fun Bu A8=>AT3 AU8 rfl A8 (ATi (ATw (AGj (AGj (Akg AVx AVg rfl hbx (AGj (Akg AVx AVg rfl hby (Au5 rfl rfl AGi (AGj (AGj (Auh ATf rfl rfl AGi (AT3 AU8 rfl (AV5.cell Aa (Ajx hov)) (Akg AVx AVg rfl hbo (Agk rfl rfl AGi (Agk rfl rfl AGi ?_)))))))))))))))));refine ATw (AGj (AGj (AGj (Amd AVg AVx rfl (Auh ATf rfl rfl AGi (Amc (O.set (i + j) ((c + (x * y + ov)) % 4294967296)) AU8 rfl rfl Aa AGi rfl fun h4 Ap U4=>?_))))));have Bv:=U4.1;have A9:=XQ.thenUpd U4 (fun k hk=>by have Aq:k=g1:=hk;omega);refine AGr (AS3 (AGj (Alm rfl rfl (ATi (ATh (q_b (q_t (AS3 (Ab5 rfl AGi (AGj (AGr ?_)))))))))));exact ⟨LB.length - (j + 1),(j + 1,(c + (x * y + ov)) / 4294967296,O.set (i + j) ((c + (x * y + ov)) % 4294967296)),by first | omega | (dsimp only;omega),⟨rfl,by first | omega | (dsimp only;omega),A9,AGi,Ap,by simp [hOl],Ajy hOd (Nat.mod_lt _ AGk),by dsimp only;exact Nat.div_lt_of_lt_mul htb,by dsimp only;rw [AUu hy];exact Asa (Pi:=0) (Am1 _ hov) hOv (Nat.mod_add_div _ _),fun q h1 h2=>by dsimp only;rw [List.getElem?_set_ne AGi];exact hOz q h1 h2⟩,rfl,rfl,trivial⟩
     ·refine AGr (AGo (ATr rfl (AS8 (ATa (ATa (AT7 (q_t ?_)))))));obtain rfl:j=LB.length:=by omega
      refine AS3 (AGj (AGj (AUo ATf rfl (HB.ext XQ) (AGj (Amd AVg AVx rfl ?_)))));rw [Nat.mod_eq_of_lt hc];refine Auh ATf rfl rfl AGi (Amc (O.set (i + LB.length) (c)) AU8 rfl rfl Aa AGi rfl fun h5 Ar U5=>?_);have Bw:=U5.1;have Bb:=XQ.thenUpd U5 (fun k hk=>by have Aq:k=g1:=hk;omega);refine ATh (q_b (q_t (AS3 (Ab5 rfl AGi (AGj (AGr ?_))))));exact ⟨LA.length - (i + 1),(i + 1,O.set (i + LB.length) c),by first | omega | (dsimp only;omega),⟨rfl,by first | omega | (dsimp only;omega),Bb,AGi,Ar,by simp [hOl],Ajy hOd hc,by dsimp only;have h1:=Am1 c (hOz (i + LB.length) (Nat.le_refl _) AGi);rw [Nat.mul_zero,Nat.add_zero] at h1;rw [h1,hOv,List.take_length,AUu hx,Nat.add_mul,Nat.mul_assoc],fun q h1 h2=>by dsimp only;rw [List.getElem?_set_ne AGi];exact hOz q AGi h2⟩,rfl,trivial⟩
   ·refine AGr (AGo (ATr rfl (AS8 (ATa (ATa (AT7 (q_t (AGo ?_))))))));obtain rfl:i=LA.length:=by omega
    rw [List.take_length] at hOv;have HDo:=Aa.ds (lo:=Array.size h) hOd AGi;refine AS3 (AGj (ATd trivial rfl (Aeo (DS.mono HDo (Nat.zero_le _)) AGi) fun Bx hq hk=>?_));obtain ⟨rfl,L2,HT,htl⟩:=hk;refine ⟨trivial,?_⟩;refine AGu (AGz (⟨_,AS2,?_⟩))
    first
    | exact ⟨XQ,L1,lacks_HD1,Ak,Am,AGi⟩
    | exact ⟨XQ,L2,HT.ds HDo.lo,htl,by rw [HT.val,hOv],by have:=HT.len;omega⟩
 ·refine AGj (AUd 15 false AGx rfl rfl (AUd 15 false AGx rfl rfl (AUd 15 false AGx rfl rfl (ATm rfl (AGr (ATr rfl (AGy (q_t (AGm (AGj (AUo ATf rfl HA (AGj (AUo ATf rfl HB (Ahb rfl rfl AGi (Ar9 (n:=LA.length + LB.length) ATf Adv (fun _=>trivial) rfl rfl AGk AGi fun g1 v1 h1 Ao E1 Az Av=>?_)))))))))))))));have By:=E1.1;have Bz:=(Ext.refl h).trans E1;refine AGu (AGo (AGm (AGj (AUo ATf rfl (HA.ext E1) (AGj (AGr (AGp (AX0 19342813113834049615433664 (fun y:Nat × List Nat=>[(34,.int .i64 (y.1:Int))]) (fun k y h'=>k=LA.length - y.1/\y.1<=LA.length/\Ext h h'/\g1 < Array.size h'/\AV5 h' 170 g1 v1 (y.2.map Afk)/\y.2.length=LA.length + LB.length/\Dig y.2/\nv y.2=nv (LA.take y.1) * nv LB/\ ∀ q,y.1 + LB.length<=q->q < LA.length + LB.length->y.2[q]? =some 0) AGx LA.length (0,List.replicate (LA.length + LB.length) 0) ?_ ⟨rfl,trivial⟩ ?_))))))))
  ·exact ⟨rfl,Nat.zero_le _,E1,AGi,Ao,ATv,fun x hx=>by rw [(List.mem_replicate.1 hx).2];decide,by simp [nv,Asg],fun q hq A3=>by dsimp only;rw [List.getElem?_replicate];simp;omega⟩
  rintro k ⟨i,O⟩ s1 hq ⟨rfl,hi,XQ,hgq,Aa,hOl,hOd,hOv,hOz⟩;dsimp only at hi Aa hOl hOd hOv hOz ⊢;refine AGm (AXh rfl rfl (fun Bc=>?_) (fun Bc=>?_))
  ·refine AGr (AGo (ATp rfl (AGy (q_t (AGo (AGp (AGo ?_)))))));obtain ⟨x,hx⟩:∃ x,LA[i]? =some x:=⟨_,List.getElem?_eq_getElem AGi⟩;have hbx:=HA.dig x (List.mem_of_getElem? hx);refine AS3 (AGj (Aa6 ATf rfl (HA.ext XQ) rfl hx fun B1 Be=>AT3 AU8 rfl Be (ATi (AGu (AGo (AGm (AGj (Ama rfl rfl (fun Bf=>?_) (fun Bf=>?_)))))))))
   ·refine AGr (ATp rfl (AS8 (ATa (AT7 (q_t (AS3 (Ab5 rfl AGi (AGj (AGr ?_)))))))));exact ⟨LA.length - (i + 1),(i + 1,O),by first | omega | (dsimp only;omega),⟨rfl,by first | omega | (dsimp only;omega),XQ,AGi,Aa,hOl,hOd,by dsimp only;rw [hOv,AUu hx,show x=0 by omega];simp,fun q h1 h2=>hOz q (by dsimp only at h1;omega) h2⟩,rfl,trivial⟩
   ·refine AGr (ATr rfl (AGy (q_t (AGm (AGj (AGj (AGj (AGj (AUo ATf rfl (HB.ext XQ) (Ahb rfl rfl AGi (Ahb (b:=1) rfl rfl AGi (A1f (lo:=i) (hi:=i + LB.length + 1) ATf rfl Aa rfl rfl AGi (by rw [List.length_map];omega) fun cw=>?_))))))))))));refine ATw (AGu (AGo (AGm (AGj (AUo ATf rfl (HB.ext XQ) (AGj (AGr (AGp (AX0 151115725200028833156608 (fun y:Nat × Nat × List Nat=>[(51,.int .i64 (y.1:Int)),(9,.int .u64 (y.2.1:Int))]) (fun k y h'=>k=LB.length - y.1/\y.1<=LB.length/\Ext h h'/\g1 < Array.size h'/\AV5 h' 170 g1 v1 (y.2.2.map Afk)/\y.2.2.length=LA.length + LB.length/\Dig y.2.2/\y.2.1 < 4294967296/\nv y.2.2 + 4294967296 ^ (i + y.1) * y.2.1=nv (LA.take i) * nv LB + 4294967296 ^ i * (x * nv (LB.take y.1))/\ ∀ q,i + LB.length<=q->q < LA.length + LB.length->y.2.2[q]? =some 0) AGx LB.length (0,0,O) ?_ ⟨rfl,rfl,trivial⟩ ?_)))))))))
    ·exact ⟨rfl,Nat.zero_le _,XQ,AGi,Aa,hOl,hOd,by dsimp only;omega,by simp [nv,hOv],hOz⟩
    rintro k ⟨j,c,O⟩ s2 hp ⟨rfl,hj,XQ,hgq,Aa,hOl,hOd,hc,hOv,hOz⟩;dsimp only at hj Aa hOl hOd hc hOv hOz ⊢;refine AGm (AXh rfl rfl (fun Bg=>?_) (fun Bg=>?_))
    ·refine AGr (AGo (ATp rfl (AGy (q_t (AGo (AGp (AGo ?_)))))));obtain ⟨y,hy⟩:∃ x,LB[j]? =some x:=⟨_,List.getElem?_eq_getElem AGi⟩;have hby:=HB.dig y (List.mem_of_getElem? hy);obtain ⟨ov,hov⟩:∃ x,O[i + j]? =some x:=⟨_,List.getElem?_eq_getElem AGi⟩;have hbo:=hOd ov (List.mem_of_getElem? hov);have htb:=Au6 hc hbx hby hbo;have hxy:x * y<=4294967295 * 4294967295:=Nat.mul_le_mul AGi AGi;refine AS3 (AGj (Aa6 ATf rfl (HB.ext XQ) rfl hy fun B3 Bh=>AT3 AU8 rfl Bh (ATi (ATw (AGj (AGj (Akg AVx AVg rfl hbx (AGj (Akg AVx AVg rfl hby (Au5 rfl rfl AGi (AGj (AGj (Auh ATf rfl rfl AGi (AT3 AU8 rfl (AV5.cell Aa (Ajx hov)) (Akg AVx AVg rfl hbo (Agk rfl rfl AGi (Agk rfl rfl AGi ?_)))))))))))))))));refine ATw (AGj (AGj (AGj (Amd AVg AVx rfl (Auh ATf rfl rfl AGi (Amc (O.set (i + j) ((c + (x * y + ov)) % 4294967296)) AU8 rfl rfl Aa AGi rfl fun h4 Ap U4=>?_))))));have B4:=U4.1;have Bi:=XQ.thenUpd U4 (fun k hk=>by have Aq:k=g1:=hk;omega);refine AGr (AS3 (AGj (Alm rfl rfl (ATi (ATh (q_b (q_t (AS3 (Ab5 rfl AGi (AGj (AGr ?_)))))))))));exact ⟨LB.length - (j + 1),(j + 1,(c + (x * y + ov)) / 4294967296,O.set (i + j) ((c + (x * y + ov)) % 4294967296)),by first | omega | (dsimp only;omega),⟨rfl,by first | omega | (dsimp only;omega),Bi,AGi,Ap,by simp [hOl],Ajy hOd (Nat.mod_lt _ AGk),by dsimp only;exact Nat.div_lt_of_lt_mul htb,by dsimp only;rw [AUu hy];exact Asa (Pi:=0) (Am1 _ hov) hOv (Nat.mod_add_div _ _),fun q h1 h2=>by dsimp only;rw [List.getElem?_set_ne AGi];exact hOz q h1 h2⟩,rfl,rfl,trivial⟩
    ·refine AGr (AGo (ATr rfl (AS8 (ATa (ATa (AT7 (q_t ?_)))))));obtain rfl:j=LB.length:=by omega
     refine AS3 (AGj (AGj (AUo ATf rfl (HB.ext XQ) (AGj (Amd AVg AVx rfl ?_)))));rw [Nat.mod_eq_of_lt hc];refine Auh ATf rfl rfl AGi (Amc (O.set (i + LB.length) (c)) AU8 rfl rfl Aa AGi rfl fun h5 Ar U5=>?_);have B5:=U5.1;have Bj:=XQ.thenUpd U5 (fun k hk=>by have Aq:k=g1:=hk;omega);refine ATh (q_b (q_t (AS3 (Ab5 rfl AGi (AGj (AGr ?_))))));exact ⟨LA.length - (i + 1),(i + 1,O.set (i + LB.length) c),by first | omega | (dsimp only;omega),⟨rfl,by first | omega | (dsimp only;omega),Bj,AGi,Ar,by simp [hOl],Ajy hOd hc,by dsimp only;have h1:=Am1 c (hOz (i + LB.length) (Nat.le_refl _) AGi);rw [Nat.mul_zero,Nat.add_zero] at h1;rw [h1,hOv,List.take_length,AUu hx,Nat.add_mul,Nat.mul_assoc],fun q h1 h2=>by dsimp only;rw [List.getElem?_set_ne AGi];exact hOz q AGi h2⟩,rfl,trivial⟩
  ·refine AGr (AGo (ATr rfl (AS8 (ATa (ATa (AT7 (q_t (AGo ?_))))))));obtain rfl:i=LA.length:=by omega
   rw [List.take_length] at hOv;have HDo:=Aa.ds (lo:=Array.size h) hOd AGi;refine AS3 (AGj (ATd trivial rfl (Aeo (DS.mono HDo (Nat.zero_le _)) AGi) fun B6 hq hk=>?_));obtain ⟨rfl,L2,HT,htl⟩:=hk;refine ⟨trivial,?_⟩;refine AGu (AGz (⟨_,AS2,?_⟩))
   first
   | exact ⟨XQ,L1,lacks_HD1,Ak,Am,AGi⟩
   | exact ⟨XQ,L2,HT.ds HDo.lo,htl,by rw [HT.val,hOv],by have:=HT.len;omega⟩
theorem MulZ_ok {h:AGt} {la lb:Nat} {va vb:Value} {a b:Int} (HA:ZV h la va a) (HB:ZV h lb vb b) (hab:a.natAbs * b.natAbs < 4294967296 ^ 100):ATs Tryz.prog 158 #[va,vb] h fun x h'=>Ext h h'/\ZV h' (Array.size h) x (a * b):=by
 obtain ⟨na,sa,LA,rfl,HDa,htla,hla,hza⟩:=HA.out;obtain ⟨nb,sb,LB,rfl,HDb,htlb,hlb,hzb⟩:=HB.out;refine AT5 (l:=[_,_]) mx Tryz.func158 rfl rfl rfl rfl rfl AGx (AGm (Abq [.bool na,sa] (fun _=>trivial) rfl rfl fun Ak h2 V3 E4 Bb Ce=>?_));have Cf:Array.size h<=Ak:=Bb;have Cg:=E4.1;have Z8:=(Ext.refl h).trans E4;refine Abq [.bool nb,sb] (fun _=>trivial) rfl rfl fun Am Ch Av Ag Be Ci=>?_;have Cj:Array.size h<=Am:=Nat.le_trans E4.1 Be;have nebq1bq9:Ak≠Am:=by have:=V3.lt;omega
 have Ck:=Ag.1;have Aw:=E4.trans Ag;have Ax:=V3.ext Ag;refine AYx [.bool false,.slice none 0 0] AXi rfl (fun _=>trivial) fun Ac Ai Bf Ad Bg Cm=>?_;have Cn:Array.size h<=Ac:=Nat.le_trans Aw.1 Bg;have nebq1bq20:Ak≠Ac:=by have:=Ax.lt;omega
 have nebq9bq20:Am≠Ac:=by have:=Av.lt;omega
 have Co:=Ad.1;have Bh:=(Z8.trans Ag).trans Ad;have Ao:=Aw.trans Ad;have Ay:=Ax.ext Ad;have Bi:=(E4.trans Ag).trans Ad;have Az:=Av.ext Ad;have Bj:=Ag.trans Ad;refine AGr (AGo (AVa (fun h'=>Ext Ai h') AGx ?_));have Aa:=Ext.refl Ai;refine AX1 (fs:=1) Adm AGx AGk rfl (AU1 AWl rfl Aa (fun h' hb=>(Ay.ext hb).cell (i:=0) rfl) (AX1 (fs:=1) Adm AGx AGk rfl (AU1 AWl rfl Aa (fun h' hb=>(Az.ext hb).cell (i:=0) rfl) (Ar8 Anm rfl rfl (AX1 (fs:=1) Ad5 AGx AGk rfl (AU1 AZy rfl Aa (fun h' hb=>(Ay.ext hb).cell (i:=1) rfl) (ATd Aa rfl (Aeo (DS.mono (HDa.ext Ao) (Nat.zero_le _)) AGi) fun Cp Ai hk=>?_)))))));obtain ⟨rfl,L1,Ap,Cr⟩:=hk;refine ⟨Aa,?_⟩;have Bl:=Ap.ds (lo:=la) HDa.lo;have A3:=Ap.val;have Ct:=Ap.len;refine AX1 (fs:=1) Ad5 AGx AGk rfl (AU1 AZy rfl Aa (fun h' hb=>(Az.ext hb).cell (i:=1) rfl) (ATd Aa rfl (Aeo (DS.mono (HDb.ext Ao) (Nat.zero_le _)) AGi) fun Cu Ai hk=>?_));obtain ⟨rfl,L2,Aq,Cw⟩:=hk;refine ⟨Aa,?_⟩;have Bm:=Aq.ds (lo:=lb) HDb.lo;have A4:=Aq.val;have Cx:=Aq.len;refine ATd Aa rfl (A26 Bl Bm AGi AGi) fun Cy Cz hk=>?_;obtain ⟨Ae,L4,A5,A6,A7,C1⟩:=hk;have Ar:=Aa.trans Ae;refine ⟨Ar,?_⟩;have C2:=Ae.1;have Bn:=Bh.trans Ae;have Bo:=Ao.trans Ae;have Bp:=Bi.trans Ae;have Bq:=Bj.trans Ae;have Br:=Bf.ext Ae;have Bt:=Ad.trans Ae;refine ATd Ar rfl (Aca (!(na == nb)) A5 A6 (Aed A6 (by rw [A7,A3,A4,<- AXn hza,<- AXn hzb];exact hab))) fun C3 C4 hk=>?_;obtain ⟨Ab,Bu⟩:=hk;have Bv:=Ar.trans Ab;refine ⟨Bv,?_⟩;have C5:=Ab.1;have Bw:=Bn.trans Ab;have Bx:=Bo.trans Ab;have By:=Bp.trans Ab;have Bz:=Bq.trans Ab;have B1:=Br.ext Ab;have B3:=Bt.trans Ab;have B4:=A5.ext Ab;obtain ⟨A8,s3,L3,rfl,Ba,B6,B7,B8⟩:=Bu.out;refine AU0 [.bool A8,s3] AUa rfl rfl rfl rfl (Abn Ba.cap) B1 fun C6 B9 Af=>?_;have Ca:=Bx.thenUpd Af (fun k hk=>by have Aj:k=Ac:=hk;omega);have C7:=Af.1;have C8:=Bw.thenUpd Af (fun k hk=>by have Aj:k=Ac:=hk;omega);have C9:=B3.thenUpd Af (fun k hk=>by have Aj:k=Ac:=hk;omega);have Da:=By.thenUpd Af (fun k hk=>by have Aj:k=Ac:=hk;omega);have Db:=Bz.thenUpd Af (fun k hk=>by have Aj:k=Ac:=hk;omega);have Dc:=B4.updLo Af AGi;have Cb:=Ba.updLo Af AGi;refine AGr (AGz (⟨_,AU7 AUa rfl rfl B9,?_⟩));exact ⟨Ca,⟨A8,s3,L3,rfl,Cb.mono AGi,B6,B7,by rw [<- B8,A7,A3,A4,hza,hzb,Avb]⟩⟩
end Go.Proofs.YthbndcbclhkepaaGreatDoor.Ig
namespace Go.Proofs.YthbndcbclhkepaaGreatDoor
open Go Go.QF
def BAm (fuel:Nat) (a b:Int):Option Int:=if a.natAbs < AW5/\b.natAbs < AW5 then some (a - b) else none
def A1g (fuel:Nat) (a b:Int):Option Int:=if a.natAbs * b.natAbs < AW5 then some (a * b) else none
def Am8 (fuel:Nat) (a b:Int):Option (Int × Int × Bool):=if a.natAbs < 18446744073709551616/\b.natAbs < 18446744073709551616/\b≠0 then some (a / b,a % b,true) else none
def BAn (fuel:Nat) (a:Int):Option Int:=some (-a)
def Am9 (fuel:Nat) (a:Int):Option Int:=some a
def Ark (fuel:Nat) (a:Int):Option Int:=if -9223372036854775808<=a/\a<=9223372036854775807 then some a else none
def Asu (fuel:Nat) (a:Int):Option Int:=some (AYc a)
theorem BBv {fuel:Nat} {h:AGt} {u v:Value} {a b r:Int} (H1:ZZ h u a) (H2:ZZ h v b) (hp:BAm fuel a b=some r):ATs Tryz.prog 170 #[u,v] h (fun x h'=>Ext h h'/\ ∃ (x0:Value),x=x0/\ZZ h' x0 r):=by
 obtain ⟨⟨h1,h2⟩,hp⟩:=ifN hp;cases hp;exact (Ig.Sub_ok H1 H2 h1 h2).mono fun x h' hk=>⟨hk.1,x,rfl,hk.2.zz⟩
theorem Azu {fuel:Nat} {h:AGt} {u v:Value} {a b r:Int} (H1:ZZ h u a) (H2:ZZ h v b) (hp:A1g fuel a b=some r):ATs Tryz.prog 158 #[u,v] h (fun x h'=>Ext h h'/\ ∃ (x0:Value),x=x0/\ZZ h' x0 r):=by
 obtain ⟨h1,hp⟩:=ifN hp;cases hp;exact (Ig.MulZ_ok H1 H2 (A5e h1)).mono fun x h' hk=>⟨hk.1,x,rfl,hk.2.zz⟩
theorem BBw {fuel:Nat} {h:AGt} {u:Value} {a r:Int} (H1:ZZ h u a) (hp:BAn fuel a=some r):ATs Tryz.prog 171 #[u] h (fun x h'=>Ext h h'/\ ∃ (x0:Value),x=x0/\ZZ h' x0 r):=by
 cases hp;exact (Ig.Neg_ok H1).mono fun x h' hk=>⟨hk.1,x,rfl,hk.2.zz⟩
theorem Apf {fuel:Nat} {h:AGt} {u:Value} {a r:Int} (H1:ZZ h u a) (hp:Am9 fuel a=some r):ATs Tryz.prog 155 #[u] h (fun x h'=>Ext h h'/\ ∃ (x0:Value),x=x0/\ZZ h' x0 r):=by
 cases hp;exact (Ig.Normalize_ok H1).mono fun x h' hk=>⟨hk.1,x,rfl,hk.2.zz⟩
theorem Asv {fuel:Nat} {h:AGt} {a r:Int} (hp:Ark fuel a=some r):ATs Tryz.prog 151 #[.int .i64 a] h (fun x h'=>Ext h h'/\ ∃ (x0:Value),x=x0/\ZZ h' x0 r):=by
 obtain ⟨h1,hp⟩:=ifN hp;cases hp;exact (Ig.Small_ok h1 h).mono fun x h' hk=>⟨hk.1,x,rfl,hk.2.zz⟩
theorem Arl {fuel:Nat} {h:AGt} {u:Value} {a r:Int} (H1:ZZ h u a) (hp:Asu fuel a=some r):ATs Tryz.prog 154 #[u] h (fun x h'=>Ext h h'/\x= .int .i64 r):=by
 cases hp;exact Ig.Sign_ok H1
theorem Aqj {fuel:Nat} {h:AGt} {u v:Value} {a b:Int} {r:Int × Int × Bool} (H1:ZZ h u a) (H2:ZZ h v b) (hp:Am8 fuel a b=some r):ATs Tryz.prog 157 #[u,v] h (fun x h'=>Ext h h'/\ ∃ (x0:Value) (x1:Value),x= .tuple #[x0,x1,.bool r.2.2]/\ZZ h' x0 r.1/\ZZ h' x1 r.2.1):=by
 obtain ⟨⟨h1,h2,h3⟩,hp⟩:=ifN hp;cases hp;exact (Ig.DivMod2_ok H1 H2 h1 h2 h3).mono fun x h' ⟨E,q,r,hx,hq,hr⟩=>⟨E,q,r,hx,hq.zz,hr.zz⟩
end Go.Proofs.YthbndcbclhkepaaGreatDoor
namespace Go.Proofs.YthbndcbclhkepaaGreatDoor
open Go Go.QF
set_option maxRecDepth 100000
set_option maxHeartbeats 4000000
def Ac9 (fuel:Nat) (a3:LiI) (Ac:LiA) (Aa:Int):Option ((Int) ⊕ (((Int × Int × Bool)) ⊕ (Unit))):=
  (if Aa < (a3.length:Int) then ((gI a3 Aa).bind fun Ad=>(if ¬ (Ad.length:Int)=(Ac.length:Int) then (some (Sum.inr<| Sum.inl <| (0,0,false))) else (some (Sum.inl (w64 (Aa + 1)))))) else (some (Sum.inr<| Sum.inr <| ())))
def AZn (fuel:Nat) (a3:LiI):Option (Int × Int × Bool):=
  (((if (a3.length:Int) < 1 then (some (Sum.inl <| (0,0,false))) else (if 16 < (a3.length:Int) then (some (Sum.inl <| (0,0,false))) else (some (Sum.inr <| ())))):Option (((Int × Int × Bool)) ⊕ (Unit))).bind (fun ex=>match ex with | Sum.inl Ac=>(some Ac) | Sum.inr (_)=>((gI a3 0).bind fun Ab=>(((if (Ab.length:Int) < 1 then (some (Sum.inl <| (0,0,false))) else (if 16 < (Ab.length:Int) then (some (Sum.inl <| (0,0,false))) else (some (Sum.inr <| ())))):Option (((Int × Int × Bool)) ⊕ (Unit))).bind (fun ex=>match ex with | Sum.inl Ad=>(some Ad) | Sum.inr (_)=>((iter (fun s=>Ac9 fuel a3 Ab s) fuel 0).bind (fun ex=>match ex with | Sum.inl Ae=>(some Ae) | Sum.inr (_)=>(some ((a3.length:Int),(Ab.length:Int),true)))))))))
theorem Ak0 {fuel:Nat} {h:AGt} {Aq:Value} {a3:LiI} {r:(Int × Int × Bool)} (H2:AXs (cI .i64) h Aq a3) (hp:AZn fuel a3=some r):ATs Tryz.prog 148 #[Aq] h (fun x h'=>Ext h h'/\x= .tuple #[.int .i64 r.1,.int .i64 r.2.1,.bool r.2.2]):=by
 unfold AZn at hp;refine cwf (l:=[_]) Tryz.func148 rfl rfl (AGm (ATi (ATi (AGu ?_))));have K0:=Kst.k0 h;obtain ⟨A3,Ar,Ah⟩:=AGn hp;refine Acg 65308 (fun x:Unit=>[]) (fun x h'=>(Sum.inr <| ())=A3/\Kst h h' (K0.L)) ?_ ?_
 ·refine AGm (AGj (AT4 ATb rfl H2 (ATl rfl rfl (AGj ?_))));by_cases Ad:(a3.length:Int) < 1
  ·rw [decide_eq_true Ad];refine Ab6 11 true (ATj rfl (AGr (ATp rfl (AGm (ATi (ATi (AGu ?_)))))));obtain rfl:=AGl (ifT Ar Ad);refine AGz (ATc ?_);obtain rfl:=AGl Ah;exact ⟨_,Abo,K0.x,rfl⟩
  ·have Au:=ifF Ar Ad;rw [decide_eq_false Ad];refine ATn 11 false (AGj (ATn 11 false (AT4 ATb rfl H2 (ATn 11 false (AYb rfl rfl (ATm rfl (AGr (⟨_,rfl,fun Ai=>?_,fun Ai=>?_⟩))))))))
   ·refine AGm (ATi (ATi (AGu ?_)));obtain rfl:=AGl (ATy Au Ai);refine AGz (ATc ?_);obtain rfl:=AGl Ah;exact ⟨_,Abo,K0.x,rfl⟩
   ·refine AGy (q_t ?_);exact ⟨(():Unit),⟨AGl (ATz Au Ai),K0⟩,trivial⟩
 rintro ⟨⟩ Be Bf ⟨A4,Ab⟩;subst A4;refine AGm (AGj ?_);obtain ⟨A5,A6,A7⟩:=AGn Ah;refine Adn ATb ATq H2 Ab.x A6 fun _ Bg A8=>AUp AS9 rfl A8 (AGu ?_);obtain ⟨A9,Av,Aj⟩:=AGn A7;refine Acg 66060316 (fun x:Unit=>[]) (fun x h'=>(Sum.inr <| ())=A9/\Kst h h' (Ab.L)) ?_ ?_
 ·refine AGm (AGj (ATl rfl rfl (AGj ?_)));by_cases Ae:(A5.length:Int) < 1
  ·rw [decide_eq_true Ae];refine Aej 22 true (ATj rfl (AGr (ATp rfl (AGm (ATi (ATi (AGu ?_)))))));obtain rfl:=AGl (ifT Av Ae);refine AGz (ATc ?_);obtain rfl:=AGl Aj;exact ⟨_,Abo,Ab.x,rfl⟩
  ·have Aw:=ifF Av Ae;rw [decide_eq_false Ae];refine ATn 22 false (AGj (ATn 22 false (AYb rfl rfl (ATm rfl (AGr (⟨_,rfl,fun Ak=>?_,fun Ak=>?_⟩))))))
   ·refine AGm (ATi (ATi (AGu ?_)));obtain rfl:=AGl (ATy Aw Ak);refine AGz (ATc ?_);obtain rfl:=AGl Aj;exact ⟨_,Abo,Ab.x,rfl⟩
   ·refine AGy (q_t ?_);exact ⟨(():Unit),⟨AGl (ATz Aw Ak),Ab⟩,trivial⟩
 rintro ⟨⟩ Bh Bi ⟨Ba,Ax⟩;subst Ba;refine AGo (AGm (AGj (AT4 ATb rfl H2 (AGj (AGr (AGp (AYd 137170518172 Aj (fun x=>[(28,(.int .i64 x))]) (fun x=>Ax.L) Ax ⟨rfl,trivial⟩ ?_)))))));rintro Bj Bl Bm Bn Af Am Ay;unfold Ac9 at Am;refine AGm (ATl rfl rfl (AGr (AGo (⟨_,rfl,fun Ao=>?_,fun Ao=>?_⟩))))
 ·refine AGy (q_t (AGo (AGp (AGm ?_))));obtain ⟨Bo,Bb,Az⟩:=AGn (ATy Am Ao);refine Adn ATb ATq H2 Af.x Bb fun _ Bp Bc=>ATw (AGj (AUp AS9 rfl Bc (AGj (AWp rfl rfl (AGr (⟨_,rfl,fun Ap=>?_,fun Ap=>?_⟩))))))
  ·refine AGm (ATi (ATi (AGu (AGz (AUg (ATc (ATc (AUg (ATc ?_)))))))));obtain rfl:=AGl (Ay _ (AGl (ATy Az Ap)).symm);exact ⟨_,Abo,Af.x,rfl⟩
  ·refine AGy (q_b (q_t (AS3 (ATk rfl rfl (AGj (AGr ?_))))));exact ⟨_,(AGl (ATz Az Ap)).symm,Af,rfl,trivial⟩
 ·refine AS8 (ATa (ATa (AT7 (q_t (AGm (AGj (AT4 ATb rfl H2 (AGj (ATi (ATi (AGu (AGz ?_))))))))))));obtain rfl:=AGl (Ay _ (AGl (ATz Am Ao)).symm);exact ⟨_,Abo,Af.x,rfl⟩
def Abz (fuel:Nat) (a3:LiI) (Ac:LiA) (Aa:Int):Option ((Int) ⊕ (((Int × Int × Bool)) ⊕ (Unit))):=
  (if Aa < (a3.length:Int) then ((gI a3 Aa).bind fun Ad=>(if ¬ (Ad.length:Int)=(Ac.length:Int) then (some (Sum.inr<| Sum.inl <| (0,0,false))) else (some (Sum.inl (w64 (Aa + 1)))))) else (some (Sum.inr<| Sum.inr <| ())))
def AYl (fuel:Nat) (a3:LiI):Option (Int × Int × Bool):=
  (((if (a3.length:Int) < 1 then (some (Sum.inl <| (0,0,false))) else (if 16 < (a3.length:Int) then (some (Sum.inl <| (0,0,false))) else (some (Sum.inr <| ())))):Option (((Int × Int × Bool)) ⊕ (Unit))).bind (fun ex=>match ex with | Sum.inl Ac=>(some Ac) | Sum.inr (_)=>((gI a3 0).bind fun Ab=>(((if (Ab.length:Int) < 1 then (some (Sum.inl <| (0,0,false))) else (if 16 < (Ab.length:Int) then (some (Sum.inl <| (0,0,false))) else (some (Sum.inr <| ())))):Option (((Int × Int × Bool)) ⊕ (Unit))).bind (fun ex=>match ex with | Sum.inl Ad=>(some Ad) | Sum.inr (_)=>((iter (fun s=>Abz fuel a3 Ab s) fuel 0).bind (fun ex=>match ex with | Sum.inl Ae=>(some Ae) | Sum.inr (_)=>(some ((a3.length:Int),(Ab.length:Int),true)))))))))
theorem Ajp {fuel:Nat} {h:AGt} {Aq:Value} {a3:LiI} {r:(Int × Int × Bool)} (H2:AXs cZ h Aq a3) (hp:AYl fuel a3=some r):ATs Tryz.prog 152 #[Aq] h (fun x h'=>Ext h h'/\x= .tuple #[.int .i64 r.1,.int .i64 r.2.1,.bool r.2.2]):=by
 unfold AYl at hp;refine cwf (l:=[_]) Tryz.func152 rfl rfl (AGm (ATi (ATi (AGu ?_))));have K0:=Kst.k0 h;obtain ⟨A3,Ar,Ah⟩:=AGn hp;refine Acg 65308 (fun x:Unit=>[]) (fun x h'=>(Sum.inr <| ())=A3/\Kst h h' (K0.L)) ?_ ?_
 ·refine AGm (AGj (AT4 AUr rfl H2 (ATl rfl rfl (AGj ?_))));by_cases Ad:(a3.length:Int) < 1
  ·rw [decide_eq_true Ad];refine Ab6 11 true (ATj rfl (AGr (ATp rfl (AGm (ATi (ATi (AGu ?_)))))));obtain rfl:=AGl (ifT Ar Ad);refine AGz (ATc ?_);obtain rfl:=AGl Ah;exact ⟨_,Abo,K0.x,rfl⟩
  ·have Au:=ifF Ar Ad;rw [decide_eq_false Ad];refine ATn 11 false (AGj (ATn 11 false (AT4 AUr rfl H2 (ATn 11 false (AYb rfl rfl (ATm rfl (AGr (⟨_,rfl,fun Ai=>?_,fun Ai=>?_⟩))))))))
   ·refine AGm (ATi (ATi (AGu ?_)));obtain rfl:=AGl (ATy Au Ai);refine AGz (ATc ?_);obtain rfl:=AGl Ah;exact ⟨_,Abo,K0.x,rfl⟩
   ·refine AGy (q_t ?_);exact ⟨(():Unit),⟨AGl (ATz Au Ai),K0⟩,trivial⟩
 rintro ⟨⟩ Be Bf ⟨A4,Ab⟩;subst A4;refine AGm (AGj ?_);obtain ⟨A5,A6,A7⟩:=AGn Ah;refine Adn AUr AWi H2 Ab.x A6 fun _ Bg A8=>AUp AVp rfl A8 (AGu ?_);obtain ⟨A9,Av,Aj⟩:=AGn A7;refine Acg 66060316 (fun x:Unit=>[]) (fun x h'=>(Sum.inr <| ())=A9/\Kst h h' (Ab.L)) ?_ ?_
 ·refine AGm (AGj (ATl rfl rfl (AGj ?_)));by_cases Ae:(A5.length:Int) < 1
  ·rw [decide_eq_true Ae];refine Aej 22 true (ATj rfl (AGr (ATp rfl (AGm (ATi (ATi (AGu ?_)))))));obtain rfl:=AGl (ifT Av Ae);refine AGz (ATc ?_);obtain rfl:=AGl Aj;exact ⟨_,Abo,Ab.x,rfl⟩
  ·have Aw:=ifF Av Ae;rw [decide_eq_false Ae];refine ATn 22 false (AGj (ATn 22 false (AYb rfl rfl (ATm rfl (AGr (⟨_,rfl,fun Ak=>?_,fun Ak=>?_⟩))))))
   ·refine AGm (ATi (ATi (AGu ?_)));obtain rfl:=AGl (ATy Aw Ak);refine AGz (ATc ?_);obtain rfl:=AGl Aj;exact ⟨_,Abo,Ab.x,rfl⟩
   ·refine AGy (q_t ?_);exact ⟨(():Unit),⟨AGl (ATz Aw Ak),Ab⟩,trivial⟩
 rintro ⟨⟩ Bh Bi ⟨Ba,Ax⟩;subst Ba;refine AGo (AGm (AGj (AT4 AUr rfl H2 (AGj (AGr (AGp (AYd 137170518172 Aj (fun x=>[(28,(.int .i64 x))]) (fun x=>Ax.L) Ax ⟨rfl,trivial⟩ ?_)))))));rintro Bj Bl Bm Bn Af Am Ay;unfold Abz at Am;refine AGm (ATl rfl rfl (AGr (AGo (⟨_,rfl,fun Ao=>?_,fun Ao=>?_⟩))))
 ·refine AGy (q_t (AGo (AGp (AGm ?_))));obtain ⟨Bo,Bb,Az⟩:=AGn (ATy Am Ao);refine Adn AUr AWi H2 Af.x Bb fun _ Bp Bc=>ATw (AGj (AUp AVp rfl Bc (AGj (AWp rfl rfl (AGr (⟨_,rfl,fun Ap=>?_,fun Ap=>?_⟩))))))
  ·refine AGm (ATi (ATi (AGu (AGz (AUg (ATc (ATc (AUg (ATc ?_)))))))));obtain rfl:=AGl (Ay _ (AGl (ATy Az Ap)).symm);exact ⟨_,Abo,Af.x,rfl⟩
  ·refine AGy (q_b (q_t (AS3 (ATk rfl rfl (AGj (AGr ?_))))));exact ⟨_,(AGl (ATz Az Ap)).symm,Af,rfl,trivial⟩
 ·refine AS8 (ATa (ATa (AT7 (q_t (AGm (AGj (AT4 AUr rfl H2 (AGj (ATi (ATi (AGu (AGz ?_))))))))))));obtain rfl:=AGl (Ay _ (AGl (ATz Am Ao)).symm);exact ⟨_,Abo,Af.x,rfl⟩
def Ae0 (fuel:Nat) (a3:LiI) (Ab:Int) (Af:LiA) (Aa:Int) (Ac:LiI):Option ((Int × LiI) ⊕ ((LiI))):=
  (if Aa < (Af.length:Int) then ((gI Ac Ab).bind fun Ad=>((((gI a3 Ab).bind fun Ag=>((gI Ag Aa).bind fun Ah=>((Ark fuel Ah).bind fun Ai=>(some ( Ai))))):Option (Int)).bind fun Aj=>((gI Ad Aa).bind fun Ak=>(some (Sum.inl ((w64 (Aa + 1)),(sI Ac Ab (sI Ad Aa Aj)))))))) else (some (Sum.inr<| Ac)))
def Ae1 (fuel:Nat) (a3:LiI) (Ae Ab Aa:Int) (Ac:LiI):Option ((Int × LiI) ⊕ ((LiI))):=
  (if Aa < ((List.replicate (Int.toNat Ae) ([]:List Int)).length:Int) then (if 0<=Ab/\Ab<=100000000 then ((gI Ac Aa).bind fun Ah=>((gI (sI Ac Aa (List.replicate (Int.toNat Ab) (0:Int))) Aa).bind fun Af=>((iter (fun s=>Ae0 fuel a3 Aa Af s.1 s.2) fuel (0,(sI Ac Aa (List.replicate (Int.toNat Ab) (0:Int))))).bind (fun (Ag:LiI)=>(some (Sum.inl ((w64 (Aa + 1)),Ag))))))) else none) else (some (Sum.inr<| Ac)))
def Acb (fuel:Nat) (a3:LiI):Option (LiI × Bool):=
  ((AZn fuel a3).bind fun (Aa,Ac,Ad)=>(if (!Ad)=true then (some ([],false)) else (((if 0<=Aa/\Aa<=100000000 then ((iter (fun s=>Ae1 fuel a3 Aa Ac s.1 s.2) fuel (0,(List.replicate (Int.toNat Aa) ([]:List Int)))).bind (fun (Ae:LiI)=>(some ( Ae)))) else none):Option (LiI)).bind fun Af=>(some (Af,true)))))
theorem Ana {fuel:Nat} {h:AGt} {Ah:Value} {a3:LiI} {r:(LiI × Bool)} (H2:AXs (cI .i64) h Ah a3) (hp:Acb fuel a3=some r):ATs Tryz.prog 115 #[Ah] h (fun x h'=>Ext h h'/\ ∃ (x0:Value) (F0:List Nat) (Bu:List LnA) (Bv:List Value),x= .tuple #[x0,.bool r.2]/\AVt cZ 131 93 h' F0 Bu Bv x0 r.1/\Sp h' h.size [F0]):=by
 unfold Acb at hp;refine cwf (l:=[_]) Tryz.func115 rfl rfl (AGm ?_);have K0:=Kst.k0 h;refine A45 [Ah] trivial tt2 rfl (Axa ((H2.ext K0.x)).isOne) fun b5 h6 V7 E8 S9=>ATi (ATw ?_);have Aj:=K0.nb E8 S9 V7;refine AT3 AU3 rfl ((Aj.b p0).cell (i:=0) rfl) ?_;obtain ⟨⟨B1,B3,D1⟩,B4,Ak⟩:=AGn hp;dsimp only at Ak;refine AW0 Aj (Ak0 (H2.ext Aj.x) B4) fun D2 D3 Am=>AGj (AUb rfl rfl (AUb rfl rfl (AUb rfl rfl (ATi (ATi (AGu (AGo (AGm (AGj (AWq rfl (AGr (⟨_,rfl,fun Ao=>?_,fun Ao=>?_⟩))))))))))))
 ·refine AGm (ATi (AGu (AGz (ATc ?_))));have Ap:=Kst.anil2 cZ 131 93 Am;obtain rfl:=AGl (ifT Ak Ao);exact ⟨_,AUk,Ap.x,_,_,_,_,rfl,(Ap.o2 p0),Ap.s.sel [0] AGk⟩
 ·refine AGy (q_t (AGm (AGj (AGj (A37 rfl ?_)))));obtain ⟨B5,B6,B7⟩:=AGn (Aa7 Ak Ao);refine ATd (K':=(fun xr h'=> ∃ x:(LiI) × (Value) × LnA × LnN × LvA,x.1=B5/\xr=x.2.1/\Kst h h' (aO2 cZ 131 93 x.2.2.1 x.2.2.2.1 x.2.2.2.2 x.2.1 x.1 :: Am.L))) trivial rfl ?_ fun B8 D4 B9=>?_
  ·refine cwf (l:=[_,_,_]) Tryz.func149 rfl rfl (AGm (ATw (AGj ?_)));obtain ⟨Ca,Cb⟩:=ifN B6;refine Aj1 cZ 93 AUr Axb rfl trivial tt2 rfl rfl AGk Ca fun Cd Ce Cf Aq D5 Cg Ch Ci=>AGu (AGo (AGm (AGj ?_)));have Ar:=Am.no2 Ch Ci Cg;refine AT4 AUr rfl (Ar.o2 p0).rd (AGj (AGr (AGp (AX6 4398046495488 (fun x:(Int) × (LiI) × LnA × LnN × LvA=>(x.1,x.2.1)) ((0,(List.replicate (Int.toNat B1) ([]:List Int)),Cd,Ce,Cf):(Int) × (LiI) × LnA × LnN × LvA) Cb (fun x=>[(14,(.int .i64 x.1))]) (fun x=>Ar.L.set 0 (aO2 cZ 131 93 x.2.2.1 x.2.2.2.1 x.2.2.2.2 Aq x.2.1)) Ar ⟨rfl,trivial⟩ ?_))));rintro ⟨Aa,Bg,Cj,Au,Bh⟩ D6 D7 D8 Bi Av Ck;unfold Ae1 at Av;refine AGm (ATl rfl rfl (AGr (AGo (⟨_,rfl,fun Aw=>?_,fun Aw=>?_⟩))))
   ·refine AGy (q_t (AGo (AGp (AGm (AGj (ATw (AGj (AGj (AGj ?_)))))))));obtain ⟨Cm,Cn⟩:=ifN (ATy Av Aw);refine Ay9 AVp AXi rfl trivial tt2 rfl rfl AGk Cm fun Bj Co D9 Cp Cq Cr Ct=>?_;have Ac:=Bi.no Cq (AX2 Cr Ct) Cp;obtain ⟨Ea,Bl,Cu⟩:=AGn Cn;refine AVf AUr rfl (Ac.o2 p1) rfl Bl fun Cv Eb Cw Ec Ed=>Aj0 AWi (Ac.o2 p1) Bl Cw rfl rfl (Ac.o p0) (Ac.dj p0 p1 AGk) fun Ee Cx Cy Cz=>AZg (AGj (AGj ?_));have Ax:=Ac.m2 p0 p1 AGk Cy Cx (fun z hz=> .inl (Cz z hz));obtain ⟨Ef,Bm,C0⟩:=AGn Cu;refine AUh AUr AWi (Ax.o2 p1) Bm fun _ Eg C1=>AUp AVp rfl ((Ax.o2 p1).rowI C1 Bm) (AGj (AGr (AGp ?_)));have Ay:=Ax.sel [1,2] AGk;dsimp only [AYv,Ab8] at Ay;refine AX6 2198889038336 (fun x:(Int) × (LiI) × LnA × LnN × LvA=>(x.1,x.2.1)) ((0,(sI Bg Aa (List.replicate (Int.toNat B3) (0:Int))),(Cv :: (Au.set (Int.toNat Aa) [Bj]).flatten),(Au.set (Int.toNat Aa) [Bj]),(Bh.set (Int.toNat Aa) Co)):(Int) × (LiI) × LnA × LnN × LvA) C0 (fun x=>[(27,(.int .i64 x.1))]) (fun x=>Ay.L.set 0 (aO2 cZ 131 93 x.2.2.1 x.2.2.2.1 x.2.2.2.2 Aq x.2.1)) Ay ⟨rfl,trivial⟩ ?_;rintro ⟨C2,Eh,Ei,Ej,Ek⟩ El Ab Em Ad Az C3;unfold Ae0 at Az;refine AGm (ATl rfl rfl (AGr (AGo (⟨_,rfl,fun A3=>?_,fun A3=>?_⟩))))
    ·refine AGy (q_t (AGo (AGp (AGm (AGj (AGu (AVa (fun h'=>UpT [] Ab h') AGx ?_)))))));have A4:UpT [] Ab Ab:=UpT.start all_nil;refine AGj (AGj ?_);obtain ⟨En,A5,C4⟩:=AGn (ATy Az A3);refine AVf AUr rfl (Ad.o2 p0) rfl A5 fun Eo Ep Er C5 C6=>AU1 AWi rfl A4 (fun h' hb=>ATo C6 hb.ext) (AGj (AGj (AGj (AGj ?_))));obtain ⟨C7,C8,C9⟩:=AGn C4;have Da:UpT [] Ab Ab:=UpT.start all_nil;refine Aq9 (l:=[(.int .i64 Aa),(.int .i64 C2)]) (cl:=[(.pointer (some ⟨b5,0,none⟩))]) (K':=(fun xr h'=> ∃ x:(Int) × LvA,x.1=C7/\xr=(.agg (x.2).toArray)/\Kst h h' (aZ x.2 x.1 :: Ad.L)/\UpT [] Ab h')) A4 rfl rfl ?_ fun Es Et Db=>?_
     ·refine cwf (l:=[_,_,_]) Tryz.func150 rfl rfl (AGm (Asb [.bool false,.slice none 0 0] AXi rfl trivial tt2 fun Eu Ev Dc A6 Bn=>AZg ?_));have Ew:=A6.1;have Ag:=Ad.nb A6 Bn Dc;refine AT3 AU3 rfl ((Ag.b p2).cell (i:=0) rfl) (AGj ?_);have Dd:=Bn.loAll 0 rfl;obtain ⟨Ey,De,Df⟩:=AGn C8;refine Am2 ATb rfl H2 rfl De fun Ez Fa Fb Dg Dh=>AT3 ATq rfl (ATo Dg Ag.x) (AGj ?_);obtain ⟨Fc,Di,Dj⟩:=AGn Df;refine Adl (c:=(cI .i64)) AS9 rfl Dh rfl Di fun Fd Fe Ff Dk Dl=>?_;obtain rfl:=Dk;refine AT3 ATe rfl (ATo (Dl 0 _ rfl) Ag.x) ?_;obtain ⟨Do,Dp,Dq⟩:=AGn Dj;refine Afh rfl (Asv Dp) fun Fg Dr A7 Ds=>?_;obtain ⟨Fh,rfl,Dt⟩:=Ds;have Fi:=A7.1;obtain ⟨Bo,rfl,Du⟩:=Dt.cs;have Ae:=(Ag.e A7).az Du;refine AU0 Bo AUa (cZ.klen (Ae.z p0)) (cZ.klen (AS7 Dr)) rfl rfl (cZ.one (Ae.z p0)) (Ae.b p1) fun Fj Bp A8=>AGr (AGz ?_);have Fk:=A8.1;have A9:=Ae.sb p1 A8 Bp rfl;refine ⟨_,AU7 AUa (cZ.klen (A9.z p0)) rfl (A9.b p1),((Do,Bo):(Int) × LvA),?_,rfl,?_,?_⟩
      ·exact AGl Dq
      ·exact A9.sel [0,2,3] AGk
      ·exact (((Da.thenE A6).thenE A7).then (Bp.stA A8 (AYf (Ae.b p1) rfl) rfl) (BA8 Dd AGi))
     obtain ⟨⟨Fl,Fm⟩,Dv,rfl,Af,Bq⟩:=Db;have Fo:=Bq.size;refine ⟨(A4.then Bq all_nil),?_⟩;subst Dv;obtain ⟨Fp,Br,Dw⟩:=AGn C9;refine AWo (m:=Aa) AVp rfl (Ad.o2 p0) C5 A5 rfl Br fun Fq Dx=>Adt (m:=Aa) (Ajz AUa (cZ.klen (Af.z p0)) rfl rfl (cZ.one (Af.z p0))) (Af.o2 p1) Dx A5 Br (Af.z p0) fun Fr Dy Bt=>ATh (q_b (q_t (AS3 (ATk rfl rfl (AGj (AGr ?_))))));have Ft:=Bt.size;exact ⟨(_,_,_,_,_),(AGl Dw).symm,(Af.uO2 p1 Bt Dy).sel [1,2] AGk,rfl,trivial⟩
    ·refine AS8 (ATa (ATa (AT7 (q_b (q_t (AS3 (ATk rfl rfl (AGj (AGr ?_)))))))));exact ⟨(_,_,_,_,_),(AGl (C3 _ (AGl (ATz Az A3)).symm)).symm,Ad,rfl,trivial⟩
   ·refine AS8 (ATa (ATa (AT7 (q_t (AGm (AGj (AGu (AGz (⟨_,AS2,((Bg,Aq,Cj,Au,Bh):(LiI) × (Value) × LnA × LnN × LvA),?_,rfl,?_⟩)))))))))
    ·exact AGl (Ck _ (AGl (ATz Av Aw)).symm)
    ·exact Bi
  obtain ⟨⟨Fu,B8,Fv,Fw,Fx⟩,Dz,rfl,Ba⟩:=B9;refine ⟨trivial,?_⟩;subst Dz;refine ATi (AGu (AGz ?_));obtain rfl:=AGl B7;exact ⟨_,AUk,Ba.x,_,_,_,_,rfl,(Ba.o2 p0),Ba.s.sel [0] AGk⟩
def Ada (fuel:Nat) (a3:LiI) (Ac:Int) (Ad:LiI) (Aa:Int):Option ((Int) ⊕ ((Int))):=
  (((if Aa < (a3.length:Int) then ((gI Ad Aa).bind fun Ae=>((gI Ae Ac).bind fun Af=>((Asu fuel Af).bind fun Ag=>(if Ag=0 then (some (Sum.inl <| ())) else (some (Sum.inr <| ())))))) else (some (Sum.inr <| ()))):Option ((Unit) ⊕ (Unit))).bind (fun ex=>match ex with | Sum.inl _=>(some (Sum.inl (w64 (Aa + 1)))) | Sum.inr (_)=>(some (Sum.inr<| Aa))))
def Adb (fuel:Nat) (a3:LiI) (Ad Ag Ah Ae Aa:Int) (Ab:LiI):Option ((Int × LiI) ⊕ ((LiI))):=
  (if Aa < (a3.length:Int) then ((gI Ab Ae).bind fun Ac=>((gI Ac Aa).bind fun Ai=>((A1g fuel Ah Ai).bind fun Aj=>((gI Ac Ad).bind fun Ak=>((gI Ab Ad).bind fun Am=>((gI Am Aa).bind fun Ao=>((A1g fuel Ak Ao).bind fun Ap=>((BAm fuel Aj Ap).bind fun Aq=>((Am8 fuel Aq Ag).bind fun (Ar,Au,Av)=>(some (Sum.inl ((w64 (Aa + 1)),(sI Ab Ae (sI Ac Aa Ar)))))))))))))) else (some (Sum.inr<| Ab)))
def Adc (fuel:Nat) (a3:LiI) (Ac Ae Af Aa:Int) (Ad:LiI):Option ((Int × LiI) ⊕ ((LiI))):=
  (if Aa < (a3.length:Int) then ((iter (fun s=>Adb fuel a3 Ac Ae Af Aa s.1 s.2) fuel ((w64 (Ac + 1)),Ad)).bind (fun (Ag:LiI)=>(some (Sum.inl ((w64 (Aa + 1)),Ag))))) else (some (Sum.inr<| Ad)))
def Ade (fuel:Nat) (a3:LiI) (Ae:Bool) (Aa:Int) (Ab:LiI) (Af:Int):Option ((Bool × Int × LiI × Int) ⊕ ((Int) ⊕ (Bool × Int))):=
  (if Aa < (a3.length:Int) then ((((iter (fun s=>Ada fuel a3 Aa Ab s) fuel Aa).bind (fun (Ai:Int)=>(some ( Ai)))):Option ((Int))).bind (fun (Ad:Int)=>(if Ad=(a3.length:Int) then (some (Sum.inr<| Sum.inl <| 0)) else (((if ¬ Ad=Aa then ((gI Ab Ad).bind fun Aj=>((gI Ab Aa).bind fun Ak=>(some ( ((!Ae),(sI (sI Ab Aa Aj) Ad Ak)))))) else (some ( (Ae,Ab)))):Option ((Bool × LiI))).bind (fun ((Am,Ag):Bool × LiI)=>((gI Ag Aa).bind fun Ao=>((gI Ao Aa).bind fun Ah=>((iter (fun s=>Adc fuel a3 Aa Af Ah s.1 s.2) fuel ((w64 (Aa + 1)),Ag)).bind (fun (Ap:LiI)=>(some (Sum.inl (Am,(w64 (Aa + 1)),Ap,Ah)))))))))))) else (some (Sum.inr<| Sum.inr <| (Ae,Af))))
def Adf (fuel:Nat) (a3:LiI) (Aa:Int) (Ac:LiI):Option ((Int × LiI) ⊕ ((LiI))):=
  (if Aa < (a3.length:Int) then ((gI a3 Aa).bind fun Ad=>(if 0<=(a3.length:Int)/\(a3.length:Int)<=100000000 then ((gI Ac Aa).bind fun Af=>((gI (sI Ac Aa (List.replicate (Int.toNat (a3.length:Int)) (0:Int))) Aa).bind fun Ae=>(if Ad.length=Ae.length/\0 < Ae.length then (some (Sum.inl ((w64 (Aa + 1)),(sI (sI Ac Aa (List.replicate (Int.toNat (a3.length:Int)) (0:Int))) Aa Ad)))) else none))) else none)) else (some (Sum.inr<| Ac)))
def AZo (fuel:Nat) (a3:LiI):Option Int:=
  (if 0<=(a3.length:Int)/\(a3.length:Int)<=100000000 then ((iter (fun s=>Adf fuel a3 s.1 s.2) fuel (0,(List.replicate (Int.toNat (a3.length:Int)) ([]:List Int)))).bind (fun (Ac:LiI)=>((Ark fuel 1).bind fun Ad=>((iter (fun s=>Ade fuel a3 s.1 s.2.1 s.2.2.1 s.2.2.2) fuel (false,0,Ac,Ad)).bind (fun ex=>match ex with | Sum.inl Ae=>(some Ae) | Sum.inr ((Af,Ab))=>(if Af=true then ((BAn fuel Ab).bind fun Ag=>(some Ag)) else ((Am9 fuel Ab).bind fun Ah=>(some Ah)))))))) else none)
theorem Ak1 {fuel:Nat} {h:AGt} {Bx:Value} {a3:LiI} {r:Int} (H2:AXs cZ h Bx a3) (hp:AZo fuel a3=some r):ATs Tryz.prog 153 #[Bx] h (fun x h'=>Ext h h'/\ ∃ (x0:Value),x=x0/\ZZ h' x0 r):=by
 unfold AZo at hp;refine cwf (l:=[_]) Tryz.func153 rfl rfl (AGm (AVr (Kst.k0 h) [.bool false,.slice none 0 0] AXi fun b5 h6 E8 C7=>AZg (AGj (AT4 AUr rfl H2 (ATw (AGj ?_))))));obtain ⟨C8,C9⟩:=ifN hp;refine Aj1 cZ 93 AUr Axb rfl trivial tt2 rfl rfl AGk C8 fun Da Db Dc Ak Ie Dd De Df=>AGu (AGo (AGm (AGj (AT4 AUr rfl H2 (AGj (AGr (AGp ?_)))))));have Bz:=C7.no2 De Df Dd;refine AX6 274875809888 (fun x:(Int) × (LiI) × LnA × LnN × LvA=>(x.1,x.2.1)) ((0,(List.replicate (Int.toNat (a3.length:Int)) ([]:List Int)),Da,Db,Dc):(Int) × (LiI) × LnA × LnN × LvA) C9 (fun x=>[(21,(.int .i64 x.1))]) (fun x=>Bz.L.set 0 (aO2 cZ 131 93 x.2.2.1 x.2.2.2.1 x.2.2.2.2 Ak x.2.1)) Bz ⟨rfl,trivial⟩ ?_;rintro ⟨Dg,u32,Dh,Di,Dj⟩ If Ih Ii A7 A8 Dk;unfold Adf at A8;refine AGm (ATl rfl rfl (AGr (AGo (⟨_,rfl,fun A9=>?_,fun A9=>?_⟩))))
 ·refine AGy (q_t (AGo (AGp (AGm (AGj ?_)))));obtain ⟨Ij,Dl,Do⟩:=AGn (ATy A8 A9);refine Adn AUr AWi H2 A7.x Dl fun _ Ik Dp=>ATi (ATw (AGj (AGj (AGj ?_))));obtain ⟨Dq,Dr⟩:=ifN Do;refine Ay9 AVp AXi rfl trivial tt2 rfl rfl AGk Dq fun Il Im Io Ds Dt Du Dv=>?_;have Am:=A7.no Dt (AX2 Du Dv) Ds;obtain ⟨Ip,B1,Dw⟩:=AGn Dr;refine AVf AUr rfl (Am.o2 p1) rfl B1 fun Iq Ir Dx Is It=>Aj0 AWi (Am.o2 p1) B1 Dx rfl rfl (Am.o p0) (Am.dj p0 p1 AGk) fun Iu Dy Dz D0=>AGr (AS3 (AGj (AGj ?_)));have Au:=Am.m2 p0 p1 AGk Dz Dy (fun z hz=> .inl (D0 z hz));obtain ⟨Iv,B3,D1⟩:=AGn Dw;refine AUh AUr AWi (Au.o2 p1) B3 fun _ Iw D2=>AGj ?_;obtain ⟨D3,D4⟩:=ifN D1;refine A5d (m:=Dg) AVp trivial rfl rfl (Au.o2 p1) D2 B3 (Dp.ext Au.x) D3 fun Ix D5 D6=>⟨trivial,?_⟩;refine ATh (q_b (q_t (AS3 (ATk rfl rfl (AGj (AGr ?_))))));exact ⟨(_,_,_,_,_),(AGl D4).symm,(Au.uO2 p1 D6 D5).sel [1,2] AGk,rfl,trivial⟩
 ·refine AS8 (ATa (ATa (AT7 (q_t (AGm (ATw ?_))))));obtain ⟨D7,D8,D9⟩:=AGn (Dk _ (AGl (ATz A8 A9)).symm);refine Af9 A7 (Asv D8) fun Ea Iy Iz Eb=>AVr Eb [.bool false,.slice none 0 0] AXi fun Ec Ed I0 B4=>AYh B4 p0 (AS7 Ed) (B4.z p1) fun I1 B5=>AGr (AGo (AGm (AGj (AGj (AGr (AGp (AX6 22300745198530623141535718272647261994385024 (fun x:(Bool) × (Int) × (LiI) × LnA × LnN × LvA × (Int) × LvA=>(x.1,x.2.1,x.2.2.1,x.2.2.2.2.2.2.1)) ((false,0,u32,Dh,Di,Dj,D7,Ea):(Bool) × (Int) × (LiI) × LnA × LnN × LvA × (Int) × LvA) D9 (fun x=>[(7,(.bool x.1)),(40,(.int .i64 x.2.1))]) (fun x=>((B5.L.set 2 (aO2 cZ 131 93 x.2.2.2.1 x.2.2.2.2.1 x.2.2.2.2.2.1 Ak x.2.2.1)).set 1 (aZ x.2.2.2.2.2.2.2 x.2.2.2.2.2.2.1)).set 0 (aB 93 Ec x.2.2.2.2.2.2.2)) B5 ⟨rfl,rfl,trivial⟩ ?_)))))));rintro ⟨B6,Ao,B7,Ee,Ef,Eg,I2,I3⟩ I5 I6 I7 Ab Ba B8;unfold Ade at Ba;refine AGm (ATl rfl rfl (AGr (AGo (⟨_,rfl,fun Bb=>?_,fun Bb=>?_⟩))))
  ·refine AGy (q_t (AGo (AGp (AGm (AGj (ATw (AGj (AGu ?_))))))));obtain ⟨Eh,Ei,B9⟩:=AGn (ATy Ba Bb);refine Acg 1152903912420803584 (fun x:(Int)=>[(10,(.int .i64 x))]) (fun x h'=>( x)=Eh/\Kst h h' (Ab.L)) ?_ ?_
   ·refine AGp (AYd 1152903912420803584 Ei (fun x=>[(10,(.int .i64 x))]) (fun x=>Ab.L) Ab ⟨rfl,trivial⟩ ?_);rintro Av I9 Ja Jc Ah Ca Cb;unfold Ada at Ca;obtain ⟨Ej,Cd,Bc⟩:=AGn Ca;refine Acg 288212783965667328 (fun x:Unit=>[]) (fun x h'=>(Sum.inl <| ())=Ej/\Kst h h' (Ah.L)) ?_ ?_
    ·refine AGm (AGj (AGj (ATl rfl rfl (AGj ?_))));by_cases Aw:Av < (a3.length:Int)
     ·rw [decide_eq_true Aw];refine ATn 47 true (AGj (ATn 47 true (AGj (ATn 47 true ?_))));obtain ⟨Je,Be,Ek⟩:=AGn (ifT Cd Aw);refine AVf AUr rfl (Ah.o2 p2) rfl Be fun Jf Jg Jh El Em=>ATn 47 true (AT3 AWi rfl Em (ATn 47 true (AGj (ATn 47 true ?_))));obtain ⟨Ji,Ce,En⟩:=AGn Ek;refine AWo (m:=Av) AVp rfl (Ah.o2 p2) El Be rfl Ce fun Jj Eo=>ATn 47 true ?_;obtain ⟨Jk,Ep,Er⟩:=(Ah.o2 p2).cells Eo Be Ce;have Bf:=Ah.az Ep;refine Afb (c:=cZ) AUa rfl (Bf.z p0) (fun j u hu=>(Er j u hu)) (ATn 47 true ?_);obtain ⟨Jl,Es,Cf⟩:=AGn En;refine AW0 Bf (Arl (Bf.z p0).2 Es) fun Jm Jn Cg=>ATn 47 true (AUy rfl rfl (ATj rfl (AGr (⟨_,rfl,fun Bg=>?_,fun Bg=>?_⟩))))
      ·refine AGy (q_t ?_);exact ⟨(():Unit),⟨AGl (ATy Cf Bg),Cg.sel [1,2,3,4] AGk⟩,trivial⟩
      ·obtain rfl:=AGl (ATz Cf Bg);refine AS8 (ATa (ATa (AT7 (q_t ?_))));exact ⟨(Av:(Int)),⟨AGl (Cb _ (AGl Bc).symm),Cg.sel [1,2,3,4] AGk⟩,rfl,trivial⟩
     ·rw [decide_eq_false Aw];refine Acp 47 false (Afz 47 false (ATm rfl (AGr (ATr rfl ?_))));obtain rfl:=AGl (ifF Cd Aw);refine AS8 (ATa (ATa (AT7 (q_t ?_))));exact ⟨(Av:(Int)),⟨AGl (Cb _ (AGl Bc).symm),Ah⟩,rfl,trivial⟩
    rintro ⟨⟩ Jo Jp ⟨Et,Eu⟩;subst Et;refine AGp (AS3 (AGj (ATk rfl rfl (ATi (ATh (q_b (q_t ?_)))))));exact ⟨_,(AGl Bc).symm,Eu,rfl,trivial⟩
   rintro Ev Jq Ch ⟨Ew,Ae⟩;subst Ew;refine AGo (AGm (AGj (AGj (AUy rfl rfl (AGr (⟨_,rfl,fun Bh=>?_,fun Bh=>?_⟩))))))
   ·refine AGm (AV6 (Ago ) (AYh Ae p3 (AS7 Ch) (AS7 Ch) fun Ci Cj=>AGr (AGz (ATc (AUg (ATc (ATc (AUg (ATc ?_)))))))));obtain rfl:=AGl (B8 _ (AGl (ATy B9 Bh)).symm);exact ⟨_,AU7 AUa (cZ.klen (AS7 Ci)) rfl (Cj.b p3),Cj.x,_,rfl,(AS7 Ci).2⟩
   ·refine AGy (q_t ?_);obtain ⟨Ey,Ck,Ez⟩:=AGn (ATz B9 Bh);refine Acg 9671388110172959688097920 (fun x:(Bool) × (LiI) × LnA × LnN × LvA=>[(7,(.bool x.1))]) (fun x h'=>( (x.1,x.2.1))=Ey/\Kst h h' (Ae.L.set 2 (aO2 cZ 131 93 x.2.2.1 x.2.2.2.1 x.2.2.2.2 Ak x.2.1))) ?_ ?_
    ·refine AGm (AGj (AGj (AWp rfl rfl (AGr (⟨_,rfl,fun Bi=>?_,fun Bi=>?_⟩)))))
     ·refine AGo (AXr (AGj (AGj (AGj (AGj (AGj (AGj ?_)))))));obtain ⟨Fa,Cm,Fb⟩:=AGn (ATy Ck Bi);refine AUh AUr AWi (Ae.o2 p2) Cm fun _ Jr Fc=>AGj (AGj ?_);obtain ⟨Fd,Cn,Fe⟩:=AGn Fb;refine AUh AUr AWi (Ae.o2 p2) Cn fun _ Js Ff=>Afv AUr AWi (Ae.o2 p2) Ff Fc Cn Cm rfl rfl (fun _=>rfl) (fun _=>rfl) (fun _=>rfl) (fun _ _=>rfl) fun Jt Ju Fg Fh Fi Jv Fj Fk Fl=>AGr (AS3 (AGj (AWq rfl (AGu ?_))));exact ⟨(((!B6),(sI (sI B7 Ao Fa) Ev Fd),Fg,Fh,Fi):(Bool) × (LiI) × LnA × LnN × LvA),⟨AGl Fe,(Ae.uo2 p2 Fk Fj Fl)⟩,rfl,trivial⟩
     ·refine AGy (q_t ?_);exact ⟨((B6,B7,Ee,Ef,Eg):(Bool) × (LiI) × LnA × LnN × LvA),⟨AGl (ATz Ck Bi),Ae⟩,rfl,trivial⟩
    rintro ⟨Jw,Fm,Fo,Fp,Fq⟩ Jx Jy ⟨Fr,Ax⟩;subst Fr;refine AGm (AGj (AGj ?_));obtain ⟨Jz,Bj,Ft⟩:=AGn Ez;refine AUh AUr AWi (Ax.o2 p2) Bj fun _ J0 Fu=>AGj ?_;obtain ⟨J1,Co,Fv⟩:=AGn Ft;refine AWo (m:=Ao) AVp rfl (Ax.o2 p2) Fu Bj rfl Co fun J2 Fw=>?_;obtain ⟨J3,Fx,Fy⟩:=(Ax.o2 p2).cells Fw Bj Co;have Cp:=Ax.az Fx;refine Afb (c:=cZ) AUa rfl (Cp.z p0) (fun j u hu=>(Fy j u hu)) (AVr Cp [.bool false,.slice none 0 0] AXi fun J4 Fz J5 Cq=>AYh Cq p0 (AS7 Fz) (Cq.z p1) fun J6 Cr=>AGr (AGo (AGm (AGj (ATk rfl rfl (AGu (AGp (AX6 5575186299632650833623772426640990780026880 (fun x:(Int) × (LiI) × LnA × LnN × LvA=>(x.1,x.2.1)) (((w64 (Ao + 1)),Fm,Fo,Fp,Fq):(Int) × (LiI) × LnA × LnN × LvA) Fv (fun x=>[(12,(.int .i64 x.1))]) (fun x=>Cr.L.set 4 (aO2 cZ 131 93 x.2.2.1 x.2.2.2.1 x.2.2.2.2 Ak x.2.1)) Cr ⟨rfl,trivial⟩ ?_))))))));rintro ⟨Ay,F4,F5,F6,F7⟩ J7 J8 J9 Af Bl F8;unfold Adc at Bl;refine AGo (AGm (AGj (AGj (ATl rfl rfl (AGr (⟨_,rfl,fun Bm=>?_,fun Bm=>?_⟩))))))
    ·refine AGy (q_t (AGo (AGp (AGm (AGj (ATk rfl rfl (AGu (AGp (AX6 5575186299632021960083815453461342024916992 (fun x:(Int) × (LiI) × LnA × LnN × LvA=>(x.1,x.2.1)) (((w64 (Ao + 1)),F4,F5,F6,F7):(Int) × (LiI) × LnA × LnN × LvA) (ATy Bl Bm) (fun x=>[(13,(.int .i64 x.1))]) (fun x=>Af.L.set 4 (aO2 cZ 131 93 x.2.2.1 x.2.2.2.1 x.2.2.2.2 Ak x.2.1)) Af ⟨rfl,trivial⟩ ?_)))))))));rintro ⟨Ka,Kb,Kc,Kd,Ke⟩ Kf Bn Kg Aa Bo F9;unfold Adb at Bo;refine AGo (AGm (AGj (AGj (ATl rfl rfl (AGr (⟨_,rfl,fun Bp=>?_,fun Bp=>?_⟩))))))
     ·refine AGy (q_t (AGo (AGp (AGo ?_))));have Ai:UpT [] Bn Bn:=UpT.start all_nil;refine Ano (B:=fun h'=>UpT [] Bn h') 25 [⟨14,93,[.bool false,.slice none 0 0]⟩] (fun _ _ U E=>U.thenE E) AGx Ai (Azg rfl AXi rfl (fun _ _ U E=>U.thenE E)) (h_l rfl (Agr (Aa.z p1) Ai (Aa.b p0) (ATh (h_l rfl (AGj (ATh (h_l rfl (AGj (ATh (h_l rfl ?_))))))))));obtain ⟨Kh,Ac,Ga⟩:=AGn (ATy Bo Bp);refine AVf AUr rfl (Aa.o2 p4) rfl Ac fun Ki Kj Kk Gb Gc=>ATh (h_l rfl (AU1 AWi rfl Ai (fun h' hb=>ATo Gc hb.ext) (ATh (h_l rfl (AGj (ATh (h_l rfl ?_)))))));obtain ⟨Kl,Az,Gd⟩:=AGn Ga;refine AWo (m:=Ay) AVp rfl (Aa.o2 p4) Gb Ac rfl Az fun Km Ge=>ATh (h_l rfl ?_);obtain ⟨Kn,Ct,Gf⟩:=(Aa.o2 p4).cells Ge Ac Az;refine Aki (c:=cZ) AUa rfl Ct Ai (fun h' hb j u hu=>ATo (Gf j u hu) hb.ext) (ATh (h_e rfl fun Ko Cu=>?_));have Bq:=(Aa.az (cZ.upT Ct Ai)).e Cu;obtain ⟨Kp,Gg,Gh⟩:=AGn Gd;refine AX5 Bq (Ai.thenE Cu) (Azu (Bq.z p2).2 (Bq.z p0).2 Gg) fun Kr Kt Gi Gj Ag=>ATh ⟨Gi,?_⟩;refine h_l rfl (AGj (ATh (h_l rfl (AGj (ATh (h_l rfl (AVf AUr rfl (Aa.o2 p4) rfl Ac fun Ku Kv Kw Gk Gl=>ATh (h_l rfl (AU1 AWi rfl Ag (fun h' hb=>ATo Gl hb.ext) (ATh (h_l rfl (AGj (ATh (h_l rfl ?_))))))))))))));obtain ⟨Kx,Cv,Gm⟩:=AGn Gh;refine AWo (m:=Ay) AVp rfl (Aa.o2 p4) Gk Ac rfl Cv fun Ky Gn=>ATh (h_l rfl ?_);obtain ⟨Kz,Cw,Gp⟩:=(Aa.o2 p4).cells Gn Ac Cv;refine Aki (c:=cZ) AUa rfl Cw Ag (fun h' hb j u hu=>ATo (Gp j u hu) hb.ext) (ATh (h_l rfl (AGj (ATh (h_l rfl (AGj (ATh (h_l rfl ?_))))))));obtain ⟨La,Br,Gq⟩:=AGn Gm;refine AVf AUr rfl (Aa.o2 p4) rfl Br fun Lb Lc Ld Gr Gt=>ATh (h_l rfl (AU1 AWi rfl Ag (fun h' hb=>ATo Gt hb.ext) (ATh (h_l rfl (AGj (ATh (h_l rfl ?_)))))));obtain ⟨Le,Cx,Gu⟩:=AGn Gq;refine AWo (m:=Ao) AVp rfl (Aa.o2 p4) Gr Br rfl Cx fun Lf Gv=>ATh (h_l rfl ?_);obtain ⟨Lg,Cy,Gw⟩:=(Aa.o2 p4).cells Gv Br Cx;refine Aki (c:=cZ) AUa rfl Cy Ag (fun h' hb j u hu=>ATo (Gw j u hu) hb.ext) (ATh (h_e rfl fun Lh Cz=>?_));have Bt:=((Gj.az (cZ.upT Cw Ag)).az (cZ.upT Cy Ag)).e Cz;obtain ⟨Li,Gx,Gy⟩:=AGn Gu;refine AX5 Bt (Ag.thenE Cz) (Azu (Bt.z p1).2 (Bt.z p0).2 Gx) fun Lj Lk Gz G3 G4=>ATh ⟨Gz,?_⟩;refine h_e rfl fun Ll C0=>?_;have Bu:=G3.e C0;obtain ⟨Lm,G5,G6⟩:=AGn Gy;refine AX5 Bu (G4.thenE C0) (BBv (Bu.z p3).2 (Bu.z p0).2 G5) fun G7 Lo G8 G9 Hb=>ATh ⟨G8,?_⟩;refine At6 fun Hc C1=>BBh fun Lq C2 Hd Lr=>?_;have Aj:=G9.e C1;have A3:=((((((Aa.nb (Hb.thenE C1).ext (AX2 Hd C2.lt) C2).az (Aj.z p5)).az (Aj.z p4)).az (Aj.z p3)).az (Aj.z p2)).az (Aj.z p1)).az (Aj.z p0);refine AU0 G7 AUa (cZ.klen (A3.z p0)) (cZ.klen (AS7 Hc)) rfl rfl (cZ.one (A3.z p0)) (A3.b p6) fun Bv He Hf=>AGr (AVa (fun h'=>UpT [] Bv h') AGx ?_);have Ad:=A3.sb p6 Hf He rfl;have Ap:UpT [] Bv Bv:=UpT.start all_nil;refine AGj (AGj (AVf AUr rfl (Ad.o2 p11) rfl Ac fun Lv Lw Lx Hg Hh=>AU1 AWi rfl Ap (fun h' hb=>ATo Hh hb.ext) (AGj (Agr (Ad.z p0) Ap (Ad.b p6) (Agr (Ad.z p10) Ap (Ad.b p9) ?_)))));obtain ⟨⟨Ly,Lz,L9⟩,Hj,C3⟩:=AGn G6;dsimp only at C3;refine AXm Ap (fun _ E=>Ap.thenE E) rfl (Aqj (Ad.z p0).2 (Ad.z p10).2 Hj) fun Ma Mb Hk Hl=>?_;obtain ⟨Mc,Md,rfl,Hm,Hn⟩:=Hl;obtain ⟨Me,rfl,Ho⟩:=Hm.cs;obtain ⟨Mf,rfl,Hq⟩:=Hn.cs;refine AGj (AUb rfl rfl (AUb rfl rfl (AUb rfl rfl (AWo (m:=Ay) AVp rfl (Ad.o2 p11) Hg Ac rfl Az fun Mg Hr=>?_))));have Aq:=((Ad.e Hk).az Ho).az Hq;refine Adt (m:=Ay) (Ajz AUa (cZ.klen (Aq.z p1)) rfl rfl (cZ.one (Aq.z p1))) (Aq.o2 p13) Hr Ac Az (Aq.z p1) fun Mh Hs Ht=>ATh (q_b (q_t (AS3 (AGj (ATk rfl rfl (AGu ?_))))));exact ⟨(_,_,_,_,_),(AGl C3).symm,(Aq.uO2 p13 Ht Hs).sel [9,10,11,12,13,14] AGk,rfl,trivial⟩
     ·refine AS8 (ATa (ATa (AT7 (q_b (q_t (AS3 (AGj (ATk rfl rfl (AGu ?_)))))))));exact ⟨(_,_,_,_,_),(AGl (F9 _ (AGl (ATz Bo Bp)).symm)).symm,Aa,rfl,trivial⟩
    ·refine AS8 (ATa (ATa (AT7 (q_t (AS3 (Ac1 (Af.z p1) (Af.b p0) (AYh Af p2 (Af.z p3) (Af.z p1) fun Mi Hu=>ATh (q_b (q_t (AS3 (ATk rfl rfl (AGj (AGr ?_)))))))))))));exact ⟨(_,_,_,_,_,_,_,_),(AGl (F8 _ (AGl (ATz Bl Bm)).symm)).symm,Hu.sel [2,1,4,5] AGk,rfl,rfl,trivial⟩
  ·refine AS8 (ATa (ATa (AT7 (q_t (AGo (AGm (AGj (AGr ?_))))))));have C4:=B8 _ (AGl (ATz Ba Bb)).symm;refine ⟨_,rfl,fun Bw=>?_,fun Bw=>?_⟩
   ·refine AGm (Ac1 (Ab.z p1) (Ab.b p0) ?_);obtain ⟨Mj,Hv,Hw⟩:=AGn (ifT C4 Bw);refine Af9 Ab (BBw (Ab.z p1).2 Hv) fun Mk Hx Ml C5=>AYh C5 p4 (AS7 Hx) (C5.z p0) fun Mm A4=>AGr (AGz (ATc ?_));obtain rfl:=AGl Hw;exact ⟨_,AU7 AUa (cZ.klen (A4.z p0)) rfl (A4.b p4),A4.x,_,rfl,(A4.z p0).2⟩
   ·refine AGy (q_t (AGm (Ac1 (Ab.z p1) (Ab.b p0) ?_)));obtain ⟨Mo,Hy,Hz⟩:=AGn (Aa7 C4 Bw);refine Af9 Ab (Apf (Ab.z p1).2 Hy) fun Mq Ia Mr C6=>AYh C6 p4 (AS7 Ia) (C6.z p0) fun Ms A5=>AGr (AGz ?_);obtain rfl:=AGl Hz;exact ⟨_,AU7 AUa (cZ.klen (A5.z p0)) rfl (A5.b p4),A5.x,_,rfl,(A5.z p0).2⟩
def Aio (fuel:Nat) (a3:LiI):Option (Int × Bool):=
  ((AYl fuel a3).bind fun (Ab,Ac,Ad)=>(if (!Ad)=true then (some (0,false)) else (if ¬ Ab=Ac then (some (0,false)) else ((AZo fuel a3).bind fun Ae=>(some (Ae,true))))))
theorem Aq6 {fuel:Nat} {h:AGt} {Af:Value} {a3:LiI} {r:(Int × Bool)} (H2:AXs cZ h Af a3) (hp:Aio fuel a3=some r):ATs Tryz.prog 116 #[Af] h (fun x h'=>Ext h h'/\ ∃ (x0:Value),x= .tuple #[x0,.bool r.2]/\ZZ h' x0 r.1):=by
 unfold Aio at hp;refine cwf (l:=[_]) Tryz.func116 rfl rfl (AGm (AVr (Kst.k0 h) [.bool false,.slice none 0 0] AXi fun b5 h6 E8 Aj=>ATw (AGj ?_)));obtain ⟨⟨A6,A7,Av⟩,Aw,Ad⟩:=AGn hp;dsimp only at Ad;refine AW0 Aj (Ajp (H2.ext Aj.x) Aw) fun Aa A8 Ab=>AGj (AUb rfl rfl (AUb rfl rfl (AUb rfl rfl (ATi (ATi (AGu (AGo (AGm (AGj (AWq rfl (AGj ?_)))))))))));cases Ak:(!Av)
 ·refine ATn 15 false (AGj (ATn 15 false (AGj (ATn 15 false (AWp rfl rfl (ATm rfl (AGr ?_)))))));have Am:=Aa7 Ad Ak;refine ⟨_,rfl,fun Ae=>?_,fun Ae=>?_⟩
  ·refine AGm (AV6 (Ago ) (AYh Ab p0 (AS7 Aa) (AS7 Aa) fun Ao Ap=>AGu (AGz (ATc ?_))));obtain rfl:=AGl (ATy Am Ae);exact ⟨_,Alk AUa (cZ.klen (AS7 Ao)) rfl (Ap.b p0),Ap.x,_,rfl,(AS7 Ao).2⟩
  ·refine AGy (q_t (AGm (AGj ?_)));obtain ⟨A9,Ax,Ay⟩:=AGn (ATz Am Ae);refine Af9 Ab (Ak1 (H2.ext Ab.x) Ax) fun Ba Az Bb Aq=>AYh Aq p1 (AS7 Az) (Aq.z p0) fun Bc Ac=>AGu (AGz ?_);obtain rfl:=AGl Ay;exact ⟨_,Alk AUa (cZ.klen (Ac.z p0)) rfl (Ac.b p1),Ac.x,_,rfl,(Ac.z p0).2⟩
 ·refine Ab6 15 true (ATj rfl (AGr (ATp rfl (AGm (AV6 (Ago ) (AYh Ab p0 (AS7 Aa) (AS7 Aa) fun Ar Au=>AGu (AGz (ATc ?_))))))));obtain rfl:=AGl (ifT Ad Ak);exact ⟨_,Alk AUa (cZ.klen (AS7 Ar)) rfl (Au.b p0),Au.x,_,rfl,(AS7 Ar).2⟩
end Go.Proofs.YthbndcbclhkepaaGreatDoor
namespace Go.QF
open Go
theorem A27 {h:AGt} {v:Value} {l:List Value} (H:Sl h v l):SlK h 1 v (l.map fun x=>[x]):=by
 obtain ⟨a,cap,hv,hc⟩:=H;refine ⟨a,cap,by rw [List.length_map];exact hv,fun i row hr=>?_⟩;rw [List.getElem?_map] at hr;obtain ⟨x,hx,rfl⟩:=Option.map_eq_some_iff.1 hr;obtain ⟨b,o,ha,hb⟩:=hc i x hx;refine ⟨b,o,ha,fun j y hy=>?_⟩
 cases j with
 | zero=>injection hy with hy;subst hy;rw [Nat.mul_one,Nat.add_zero];exact hb
 | succ j=>simp at hy
theorem Aui {h:AGt} {v:Value} {l:List Value} (H:SlK h 1 v (l.map fun x=>[x])):Sl h v l:=by
 obtain ⟨a,cap,hv,hc⟩:=H;refine ⟨a,cap,by rw [List.length_map] at hv;exact hv,fun i x hx=>?_⟩;obtain ⟨b,o,ha,hb⟩:=hc i [x] (by simp [hx]);refine ⟨b,o,ha,?_⟩;have:=hb 0 x rfl;rwa [Nat.mul_one,Nat.add_zero] at this
theorem A59 {κ:IntKind} {h:AGt} {v:Value} {L:List Int} (H:Sl h v (L.map (.int κ))):SlC (cI κ) h v L:=by
 refine ⟨L.map fun a=>[.int κ a],?_,ATv,fun i cs a h1 h2=>?_⟩
 ·have:=A27 H;rwa [List.map_map] at this
 ·rw [List.getElem?_map,h2] at h1;injection h1 with h1;exact h1.symm
theorem BDt {κ:IntKind} {h:AGt} {v:Value} {L:List Int} (H:SlC (cI κ) h v L):Sl h v (L.map (.int κ)):=by
 obtain ⟨Ls,h1,h2,h3⟩:=H
 have:Ls=(L.map (Value.int κ)).map fun x=>[x]:=by
   apply List.ext_getElem?
   intro i
   by_cases hi:i < L.length
   · obtain ⟨a,ha⟩:∃ a,L[i]? =some a:=⟨L[i],List.getElem?_eq_getElem hi⟩
     obtain ⟨cs,hcs⟩:∃ cs,Ls[i]? =some cs:=⟨Ls[i]'AGi,List.getElem?_eq_getElem _⟩
     have:=h3 i cs a hcs ha
     rw [hcs,List.map_map,List.getElem?_map,ha]
     exact congrArg some this
   · rw [List.getElem?_eq_none AGi,List.getElem?_eq_none (by simp;omega)]
 subst this;exact Aui h1
theorem BBx {h:AGt} {v:Value} {M:List (List Int)} (H:AXs (cI .i64) h v M):Mat h v M:=by
 obtain ⟨_,rs,h1,h2,h3⟩:=H;exact ⟨rs,Aui h1,h2,fun i r z hr hz=>BDt (h3 i r z hr hz)⟩
end Go.QF
namespace Go.QF
def Abs (x b:Int):Prop:= -b<=x/\x<=b
theorem Anw {x y a b:Int} (hx:Abs x a) (hy:Abs y b):Abs (x * y) (a * b):=by
 unfold Abs at *;have ha:0<=a:=by omega
 have hb:0<=b:=by omega
 have h1:0<=(a - x) * (b - y):=Int.mul_nonneg AGi AGi;have h2:0<=(a - x) * (b + y):=Int.mul_nonneg AGi AGi;have h3:0<=(a + x) * (b - y):=Int.mul_nonneg AGi AGi;have h4:0<=(a + x) * (b + y):=Int.mul_nonneg AGi AGi;constructor <;> grind
theorem A6a {x b y:Int} (hb:0 < b) (hx:Abs x (b * y)):Abs (x.tdiv b) y:=by
 unfold Abs at *;rcases Amb x 0 with h | h
 ·have h1:x.tdiv b= -((-x).tdiv b):=by rw [Int.neg_tdiv,Int.neg_neg]
  have h2:(-x).tdiv b=(-x) / b:=Int.tdiv_eq_ediv_of_nonneg AGi
  have h3:(-x) / b<=y:=by
    have:(-x) / b<=(b * y) / b:=Int.ediv_le_ediv hb AGi
    rwa [Int.mul_ediv_cancel_left _ AGi] at this
  have h4:0<=(-x) / b:=Int.ediv_nonneg AGi AGi;omega
 ·have h2:x.tdiv b=x / b:=Int.tdiv_eq_ediv_of_nonneg h
  have h3:x / b<=y:=by
    have:x / b<=(b * y) / b:=Int.ediv_le_ediv hb AGi
    rwa [Int.mul_ediv_cancel_left _ AGi] at this
  have h4:0<=x / b:=Int.ediv_nonneg h AGi;omega
def Asw (M:List (List Int)):Prop:=(1<=M.length/\M.length<=8)/\(∀ z∈M,z.length=M.length)/\ ∀ i j,i < M.length->j < M.length->ent M i j=ent M j i/\ -262144 < ent M i j/\ent M i j < 262144
open Classical in
noncomputable def Ad0 (M:List (List Int)):Bool:=decide (Asw M)
theorem AZc {M:List (List Int)} (h:Asw M):true=Ad0 M:=by simp [Ad0,h]
theorem AWf {M:List (List Int)} (h: ¬ Asw M):false=Ad0 M:=by simp [Ad0,h]
theorem Asx {M:List (List Int)} (h:Ad0 M=true):Asw M:=by simpa [Ad0] using h
def Aid (m:Nat) (F:AS5):Prop:=(0 < F 0 0/\F 0 0 < 65536)/\ ∀ i,1<=i->i < m->2 * F i 0<=F 0 0/\ -2 * F i 0<=F 0 0
instance (m:Nat) (F:AS5):Decidable (Aid m F):=by
  unfold Aid
  have:Decidable (∀ i,1<=i->i < m->2 * F i 0<=F 0 0/\ -2 * F i 0<=F 0 0):=
    decidable_of_iff (∀ i,i < m->1<=i->2 * F i 0<=F 0 0/\ -2 * F i 0<=F 0 0) ⟨fun h i a b=>h i b a,fun h i a b=>h i b a⟩
  infer_instance
def Ajq (F:AS5) (last:Int):AS5:=fun i j=>(F 0 0 * F (i + 1) (j + 1) - F (i + 1) 0 * F 0 (j + 1)).tdiv last
def An5 (F:AS5) (last:Int):Prop:=3 * F 0 0 * F 0 0<=4 * (last * Ajq F last 0 0 + F 1 0 * F 1 0)
instance (F:AS5) (last:Int):Decidable (An5 F last):=by unfold An5;infer_instance
def Aie:Nat->(AS5)->Int->Bool
  | 0,_,_=>false
  | 1,F,_=>decide (0 < F 0 0/\F 0 0<=10000)
  | m + 2,F,last=>decide (Aid (m + 2) F) && (decide (An5 F last) && Aie (m + 1) (Ajq F last) (F 0 0))
noncomputable def isRed (M:List (List Int)):Bool:=Ad0 M && Aie M.length (ent M) 1
structure Stg (m:Nat) (F:AS5) (last:Int) (K:Int):Prop where
  sym:∀ i j,i < m->j < m->F i j=F j i
  bd:∀ i j,i < m->j < m->Abs (F i j) (last * K)
  l1:1<=last
  l2:last<=65535
theorem Axv {m:Nat} {F:AS5} {last K:Int} (H:Stg (m + 1) F last K) (hK:0<=K) (hs:Aid (m + 1) F):Stg m (Ajq F last) (F 0 0) (K + 16384):=by
 have hd:=hs.1
 have hcol:∀ i,i < m->Abs (2 * F (i + 1) 0) (F 0 0):=fun i hi=>by
   have:=hs.2 (i + 1) AGi AGi
   exact ⟨AGi,AGi⟩
 refine ⟨fun i j hi hj=>?_,fun i j hi hj=>?_,AGi,AGi⟩
 ·unfold Ajq;rw [H.sym (i + 1) (j + 1) AGi AGi,H.sym (i + 1) 0 AGi AGi,H.sym 0 (j + 1) AGi AGi,Int.mul_comm (F 0 (i + 1))]
 ·unfold Ajq;refine A6a (by have:=H.l1;omega) ?_;have h1:Abs (F 0 0 * F (i + 1) (j + 1)) (F 0 0 * (last * K)):=Anw ⟨AGi,AGi⟩ (H.bd _ _ AGi AGi)
  have h2:Abs (2 * F (i + 1) 0 * (2 * F 0 (j + 1))) (F 0 0 * F 0 0):=by
    refine Anw (hcol i hi) ?_
    rw [H.sym 0 (j + 1) AGi AGi];exact hcol j hj
  have h3:0<=F 0 0 * (65536 - F 0 0):=Int.mul_nonneg AGi AGi;have h4:0<=F 0 0 * (last - 1):=Int.mul_nonneg AGi (by have:=H.l1;omega);unfold Abs at *;have e1:2 * F (i + 1) 0 * (2 * F 0 (j + 1))=4 * (F (i + 1) 0 * F 0 (j + 1)):=by grind
  rw [e1] at h2;have e2:last * (F 0 0 * (K + 16384))=F 0 0 * (last * K) + 16384 * (F 0 0 * last):=by grind
  rw [e2];have e3:F 0 0 * (65536 - F 0 0)=65536 * F 0 0 - F 0 0 * F 0 0:=by grind
  have e4:F 0 0 * (last - 1)=F 0 0 * last - F 0 0:=by grind
  rw [e3] at h3;rw [e4] at h4;omega
theorem A28 {M:List (List Int)} (h:Asw M):Stg M.length (ent M) 1 262144:=by
 refine ⟨fun i j hi hj=>(h.2.2 i j hi hj).1,fun i j hi hj=>?_,AGi,AGi⟩;have:=h.2.2 i j hi hj;unfold Abs;omega
theorem Ahj {m:Nat} {F:AS5} {last:Int} (h:2<=m) (hs: ¬ Aid m F):Aie m F last=false:=by
 obtain ⟨n,rfl⟩:∃ n,m=n + 2:=⟨m - 2,AGi⟩;unfold Aie;rw [decide_eq_false hs];rfl
theorem Ak2 {m:Nat} {F:AS5} {last:Int} (h:2<=m) (hs: ¬ An5 F last):Aie m F last=false:=by
 obtain ⟨n,rfl⟩:∃ n,m=n + 2:=⟨m - 2,AGi⟩;unfold Aie;rw [decide_eq_false hs,Bool.false_and,Bool.and_false]
theorem A29 {m:Nat} {F:AS5} {last:Int} (h:2<=m) (hs:Aid m F) (hl:An5 F last):Aie m F last=Aie (m - 1) (Ajq F last) (F 0 0):=by
 obtain ⟨n,rfl⟩:∃ n,m=n + 2:=⟨m - 2,AGi⟩;rw [Aie,decide_eq_true hs,decide_eq_true hl];rfl
theorem Arm {m:Nat} {F:AS5} {last K:Int} (H:Stg m F last K) (hK0:0<=K) (hK:K<=393216) {i j:Nat} (hi:i < m) (hj:j < m):Abs (F i j) 34359738368:=by
  have h1:=H.bd i j hi hj;have h2:=(Ap1 (a:=last) (b:=K) (A:=65535) (B:=393216) (by have:=H.l1;omega) H.l2 hK0 hK).2;unfold Abs at *;omega
end Go.QF
namespace Go.Proofs.YthbndcbclhkepaaGreatDoor
open Go Go.QF
set_option maxRecDepth 100000
theorem Adg {α:Type} {c:Nat} {g:Nat->α} {q:Nat} (hq:q < c):((List.range c).map g)[q]? =some (g q):=by simp [hq]
section
variable {P:Program} {B:AGt->Prop} {st:Bool} {ops:Array Oper} {rest:List Oper} {e:Env} {h:AGt} {K:Env->AGt->Prop}
variable {d:Nat} {ty:TypeId} {pos:String} {af:Array Edge}
end
end Go.Proofs.YthbndcbclhkepaaGreatDoor
namespace Go.Proofs.YthbndcbclhkepaaGreatDoor
open Go Go.QF
set_option maxRecDepth 100000
theorem Azv {h:AGt} {v:Value} {M:List (List Int)} (HM:Mat h v M):ATs Tryz.prog 67 #[v] h fun x h'=>h'=h/\x= .bool (Ad0 M):=by
 refine AT5 (l:=[_]) mx Tryz.func67 rfl rfl rfl rfl rfl AGx (AGm (ATw (AGj (Ap0 ATb rfl HM (AGu (AGo (AGm (AGj (AXh rfl rfl (fun Ab=>?_) (fun Ab=>?_))))))))))
 ·refine AGj (AUd 14 true AGx rfl rfl (AUd 14 true AGx rfl rfl (ATj rfl (AGr (ATp rfl (AGm (AGu (AGz (ATc (⟨_,AS2,?_⟩))))))))))
  first
    | exact ⟨rfl,congrArg Value.bool (AWf fun hh=>by have:=hh.1;omega)⟩
    | exact ⟨rfl,congrArg Value.bool (AWf fun hh=>by have:=hh.2.1 M[i] (List.getElem_mem _);omega)⟩
    | exact ⟨rfl,congrArg Value.bool (AWf fun hh=>by have:=hh.2.2 a b AGi AGi;omega)⟩
    | exact ⟨rfl,congrArg Value.bool (AZc ⟨⟨AGi,AGi⟩,hrows,fun x y hx hy=>hall x y AGi hy⟩)⟩
 ·refine AGj (AUn 14 false AGx rfl rfl (AGj (AUn 14 false AGx rfl rfl (Aju rfl rfl (fun Ac=>?_) (fun Ac=>?_)))))
  ·refine ATm rfl (AGr (ATp rfl (AGm (AGu (AGz (ATc (⟨_,AS2,?_⟩)))))))
   first
     | exact ⟨rfl,congrArg Value.bool (AWf fun hh=>by have:=hh.1;omega)⟩
     | exact ⟨rfl,congrArg Value.bool (AWf fun hh=>by have:=hh.2.1 M[i] (List.getElem_mem _);omega)⟩
     | exact ⟨rfl,congrArg Value.bool (AWf fun hh=>by have:=hh.2.2 a b AGi AGi;omega)⟩
     | exact ⟨rfl,congrArg Value.bool (AZc ⟨⟨AGi,AGi⟩,hrows,fun x y hx hy=>hall x y AGi hy⟩)⟩
  ·refine ATm rfl (AGr (ATr rfl (AGy (q_t (AGo (AGm (AGj (Ap0 ATb rfl HM (AGj (AGr (AGp (AX0 535822372 (fun i:Nat=>[(20,.int .i64 (i:Int))]) (fun k i h'=>h'=h/\k=M.length - i/\i<=M.length/\ ∀ j (hj:j < M.length),j < i->M[j].length=M.length) AGx M.length 0 ?_ ⟨rfl,trivial⟩ ?_))))))))))))
   ·exact ⟨rfl,rfl,Nat.zero_le _,fun j _ hj=>by omega⟩
   rintro k i s1 h ⟨rfl,rfl,hi,hrow⟩;refine AGm (AXh rfl rfl (fun Ad=>?_) (fun Ad=>?_))
   ·refine AGr (AGo (ATp rfl (AGy (q_t (AGo (AGp (AGm (Amv ATb rfl HM rfl (List.getElem?_eq_getElem AGi) fun aR rR haR hrR=>?_))))))));refine AT3 ATq rfl haR (ATw (AGj (A34 AS9 rfl hrR (AGj (Awt rfl rfl (fun Ae=>?_) (fun Ae=>?_))))))
    ·refine AGr (ATp rfl (AGm (AGu (AGz (AUg (ATc (ATc (AUg (ATc (⟨_,AS2,?_⟩))))))))))
     first
       | exact ⟨rfl,congrArg Value.bool (AWf fun hh=>by have:=hh.1;omega)⟩
       | exact ⟨rfl,congrArg Value.bool (AWf fun hh=>by have:=hh.2.1 M[i] (List.getElem_mem _);omega)⟩
       | exact ⟨rfl,congrArg Value.bool (AWf fun hh=>by have:=hh.2.2 a b AGi AGi;omega)⟩
       | exact ⟨rfl,congrArg Value.bool (AZc ⟨⟨AGi,AGi⟩,hrows,fun x y hx hy=>hall x y AGi hy⟩)⟩
    ·refine AGr (ATr rfl (AGy (q_b (q_t (AS3 (Ab5 rfl AGi (AGj (AGr ?_))))))));exact ⟨M.length - (i + 1),i + 1,AGi,⟨rfl,rfl,AGi,fun j hj Af=>by rcases Nat.lt_succ_iff_lt_or_eq.1 Af with q | rfl;exact hrow j hj q;omega⟩,rfl,trivial⟩
   ·refine AGr (AGo (ATr rfl (AS8 (ATa (ATa (AT7 (q_t (AGo (AGo ?_)))))))));have hrows:∀ z∈M,z.length=M.length:=fun z hz=>by obtain ⟨j,hj,rfl⟩:=List.getElem_of_mem hz;exact hrow j hj AGi
    have Aa:Mat h v (tab M.length M.length (ent M)):=(Ay2 hrows) ▸ HM;refine AS3 (AGj (Ap0 ATb rfl Aa ?_));rw [AT8];refine AGj (AGr (AGp (AX0 4611686016279905220 (fun a:Nat=>[(31,.int .i64 (a:Int))]) (fun k a h'=>h'=h/\k=M.length - a/\a<=M.length/\ ∀ x y,x < a->y < M.length->ent M x y=ent M y x/\ -262144 < ent M x y/\ent M x y < 262144) AGx M.length 0 ?_ ⟨rfl,trivial⟩ ?_)))
    ·exact ⟨rfl,rfl,Nat.zero_le _,fun x y hx=>by omega⟩
    rintro k a s2 h ⟨rfl,rfl,ha,hall⟩;refine AGm (AXh rfl rfl (fun Ag=>?_) (fun Ag=>?_))
    ·refine AGr (AGo (ATp rfl (AGy (q_t (AGo (AGp (AGm (AGj (Amv ATb rfl Aa rfl (Abf AGi) fun aS rS haS hrS=>AT3 ATq rfl haS (ATi (ATw (AGj (A34 AS9 rfl hrS ?_)))))))))))));rw [List.length_map,List.length_range];refine AGj (AGr (AGp (AX0 2305842734335787780 (fun b:Nat=>[(38,.int .i64 (b:Int))]) (fun k b h'=>h'=h/\k=M.length - b/\b<=M.length/\ ∀ y,y < b->ent M a y=ent M y a/\ -262144 < ent M a y/\ent M a y < 262144) AGx M.length 0 ?_ ⟨rfl,trivial⟩ ?_)))
     ·exact ⟨rfl,rfl,Nat.zero_le _,fun y hy=>by omega⟩
     rintro k b s3 h ⟨rfl,rfl,hb,hrw⟩;refine AGm (AXh rfl rfl (fun Ah=>?_) (fun Ah=>?_))
     ·refine AGr (AGo (ATp rfl (AGy (q_t (AGo (AGp (AGm (AGj (Aku AS9 rfl hrS rfl (Adg AGi) fun Aq Ai=>AT3 ATe rfl Ai (ATi (ATw (AGj (AGj (AGj (Amv ATb rfl Aa rfl (Abf AGi) fun aT rT haT hrT=>?_)))))))))))))));refine AT3 ATq rfl haT (AGj (Aku AS9 rfl hrT rfl (Adg AGi) fun Ar Aj=>AT3 ATe rfl Aj (Awt rfl rfl (fun Ak=>?_) (fun Ak=>?_))))
      ·refine AGj (AUd 52 true AGx rfl rfl (AUd 52 true AGx rfl rfl (ATj rfl (AGj (AUd 56 true AGx rfl rfl (AUd 56 true AGx rfl rfl (ATj rfl (AGr (ATp rfl (AGm (AGu (AGz (AUg (ATc (ATc (AUg (AUg (ATc (ATc (AUg (ATc (⟨_,AS2,?_⟩))))))))))))))))))))))
       first
         | exact ⟨rfl,congrArg Value.bool (AWf fun hh=>by have:=hh.1;omega)⟩
         | exact ⟨rfl,congrArg Value.bool (AWf fun hh=>by have:=hh.2.1 M[i] (List.getElem_mem _);omega)⟩
         | exact ⟨rfl,congrArg Value.bool (AWf fun hh=>by have:=hh.2.2 a b AGi AGi;omega)⟩
         | exact ⟨rfl,congrArg Value.bool (AZc ⟨⟨AGi,AGi⟩,hrows,fun x y hx hy=>hall x y AGi hy⟩)⟩
      ·refine AGj (AUn 52 false AGx rfl rfl (AGj (AUn 52 false AGx rfl rfl (Amt rfl rfl (fun Am=>?_) (fun Am=>?_)))))
       ·refine ATm rfl (AGj (AUd 56 true AGx rfl rfl (AUd 56 true AGx rfl rfl (ATj rfl (AGr (ATp rfl (AGm (AGu (AGz (AUg (ATc (ATc (AUg (AUg (ATc (ATc (AUg (ATc (⟨_,AS2,?_⟩)))))))))))))))))))
        first
          | exact ⟨rfl,congrArg Value.bool (AWf fun hh=>by have:=hh.1;omega)⟩
          | exact ⟨rfl,congrArg Value.bool (AWf fun hh=>by have:=hh.2.1 M[i] (List.getElem_mem _);omega)⟩
          | exact ⟨rfl,congrArg Value.bool (AWf fun hh=>by have:=hh.2.2 a b AGi AGi;omega)⟩
          | exact ⟨rfl,congrArg Value.bool (AZc ⟨⟨AGi,AGi⟩,hrows,fun x y hx hy=>hall x y AGi hy⟩)⟩
       ·refine ATm rfl (AGj (AUn 56 false AGx rfl rfl (AGj (AUn 56 false AGx rfl rfl (Amu rfl rfl (fun Ao=>?_) (fun Ao=>?_))))))
        ·refine ATm rfl (AGr (ATp rfl (AGm (AGu (AGz (AUg (ATc (ATc (AUg (AUg (ATc (ATc (AUg (ATc (⟨_,AS2,?_⟩)))))))))))))))
         first
           | exact ⟨rfl,congrArg Value.bool (AWf fun hh=>by have:=hh.1;omega)⟩
           | exact ⟨rfl,congrArg Value.bool (AWf fun hh=>by have:=hh.2.1 M[i] (List.getElem_mem _);omega)⟩
           | exact ⟨rfl,congrArg Value.bool (AWf fun hh=>by have:=hh.2.2 a b AGi AGi;omega)⟩
           | exact ⟨rfl,congrArg Value.bool (AZc ⟨⟨AGi,AGi⟩,hrows,fun x y hx hy=>hall x y AGi hy⟩)⟩
        ·refine ATm rfl (AGr (ATr rfl (AGy (q_b (q_t (AS3 (Ab5 rfl AGi (AGj (AGr ?_)))))))));exact ⟨M.length - (b + 1),b + 1,AGi,⟨rfl,rfl,AGi,fun y hy=>by rcases Nat.lt_succ_iff_lt_or_eq.1 hy with q | rfl;exact hrw y q;exact ⟨AGi,AGi,AGi⟩⟩,rfl,trivial⟩
     ·refine AGr (AGo (ATr rfl (AS8 (ATa (ATa (AT7 (q_b (q_t (AS3 (Ab5 rfl AGi (AGj (AGr ?_))))))))))));exact ⟨M.length - (a + 1),a + 1,AGi,⟨rfl,rfl,AGi,fun x y hx hy=>by rcases Nat.lt_succ_iff_lt_or_eq.1 hx with q | rfl;exact hall x y q hy;exact hrw y AGi⟩,rfl,trivial⟩
    ·refine AGr (AGo (ATr rfl (AS8 (ATa (ATa (AT7 (q_t (AGm (AGu (AGz (⟨_,AS2,?_⟩)))))))))))
     first
       | exact ⟨rfl,congrArg Value.bool (AWf fun hh=>by have:=hh.1;omega)⟩
       | exact ⟨rfl,congrArg Value.bool (AWf fun hh=>by have:=hh.2.1 M[i] (List.getElem_mem _);omega)⟩
       | exact ⟨rfl,congrArg Value.bool (AWf fun hh=>by have:=hh.2.2 a b AGi AGi;omega)⟩
       | exact ⟨rfl,congrArg Value.bool (AZc ⟨⟨AGi,AGi⟩,hrows,fun x y hx hy=>hall x y AGi hy⟩)⟩
theorem A6b {m:Nat} {F:AS5}:(tab m m F).drop 1=tab (m - 1) m fun i j=>F (i + 1) j:=by
 refine List.ext_getElem (by simp [tab]) fun i h1 h2=>?_;simp [tab,Nat.add_comm]
theorem Asy {h:AGt} {v:Value} {m:Nat} {F:AS5} (HM:Mat h v (tab m m F)) (hcap:Af1 v) (hm:1<=m) (Au:m<=8) (hfit:∀ i,i < m->Abs (F i 0) 34359738368):ATs Tryz.prog 68 #[v] h fun x h'=>h'=h/\x= .bool (decide (Aid m F)):=by
 refine AT5 (l:=[_]) mx Tryz.func68 rfl rfl rfl rfl rfl AGx (AGm (ATw (AGj (Amv (n:=0) ATb rfl HM rfl (Abf AGi) fun Av Aw Ad Ae=>AT3 ATq rfl Ad (Aku (n:=0) AS9 rfl Ae rfl (Adg AGi) fun Ax Af=>AT3 ATe rfl Af (AGu (AGo (AGm (AGj (Amt rfl rfl (fun Ag=>?_) (fun Ag=>?_)))))))))))
 ·refine AGj (AUd 13 true AGx rfl rfl (AUd 13 true AGx rfl rfl (ATj rfl (AGr (ATp rfl (AGm (AGu (AGz (ATc (⟨_,AS2,?_⟩))))))))))
  first
    | exact ⟨rfl,congrArg Value.bool (decide_eq_false (fun hh=>by have:=hh.1;omega)).symm⟩
    | exact ⟨rfl,congrArg Value.bool (decide_eq_false (fun hh=>by have:=hh.2 (i + 1) AGi AGi;omega)).symm⟩
    | exact ⟨rfl,congrArg Value.bool (decide_eq_true ⟨⟨AGi,AGi⟩,fun j h1 h2=>hall j h1 AGi⟩).symm⟩
 ·refine AGj (AUn 13 false AGx rfl rfl (AGj (AUn 13 false AGx rfl rfl (Amu rfl rfl (fun Ah=>?_) (fun Ah=>?_)))))
  ·refine ATm rfl (AGr (ATp rfl (AGm (AGu (AGz (ATc (⟨_,AS2,?_⟩)))))))
   first
     | exact ⟨rfl,congrArg Value.bool (decide_eq_false (fun hh=>by have:=hh.1;omega)).symm⟩
     | exact ⟨rfl,congrArg Value.bool (decide_eq_false (fun hh=>by have:=hh.2 (i + 1) AGi AGi;omega)).symm⟩
     | exact ⟨rfl,congrArg Value.bool (decide_eq_true ⟨⟨AGi,AGi⟩,fun j h1 h2=>hall j h1 AGi⟩).symm⟩
  ·refine ATm rfl (AGr (ATr rfl (AGy (q_t (AGo (AGm (AGj (A2l (k:=1) ATb rfl HM hcap rfl (by rw [AT8];omega) fun v1 Ai Ay=>?_))))))));have HD:Mat h v1 (tab (m - 1) m fun i j=>F (i + 1) j):=A6b (m:=m) ▸ Ai;refine Ap0 ATb rfl HD ?_;rw [AT8];refine AGj (AGr (AGp (AX0 549754765348 (fun i:Nat=>[(20,.int .i64 (i:Int))]) (fun k i h'=>h'=h/\k=m - 1 - i/\i<=m - 1/\ ∀ j,1<=j->j < i + 1->2 * F j 0<=F 0 0/\ -2 * F j 0<=F 0 0) AGx (m - 1) 0 ?_ ⟨rfl,trivial⟩ ?_)))
   ·exact ⟨rfl,rfl,Nat.zero_le _,fun j h1 h2=>by omega⟩
   rintro k i s1 h ⟨rfl,rfl,hi,hall⟩;refine AGm (AXh rfl rfl (fun Aj=>?_) (fun Aj=>?_))
   ·refine AGr (AGo (ATp rfl (AGy (q_t (AGo (AGp (AGm (Amv ATb rfl HD rfl (Abf AGi) fun Az A3 Ak Ac=>AT3 ATq rfl Ak (AGu (AGo ?_))))))))));have Am:=hfit (i + 1) AGi;unfold Abs at Am;refine AS3 (AGj (Aku (n:=0) AS9 rfl Ac rfl (Adg AGi) fun A4 Ao=>AT3 ATe rfl Ao (Agg rfl rfl AGi AGi (AGj (Aju rfl rfl (fun Ap=>?_) (fun Ap=>?_))))))
    ·refine AGj (AUd 30 true AGx rfl rfl (AUd 30 true AGx rfl rfl (AUd 30 true AGx rfl rfl (AUd 30 true AGx rfl rfl (AUd 30 true AGx rfl rfl (AUd 30 true AGx rfl rfl (ATj rfl (AGr (ATp rfl (AGm (AGu (AGz (AUg (ATc (ATc (AUg (ATc (⟨_,AS2,?_⟩))))))))))))))))))
     first
       | exact ⟨rfl,congrArg Value.bool (decide_eq_false (fun hh=>by have:=hh.1;omega)).symm⟩
       | exact ⟨rfl,congrArg Value.bool (decide_eq_false (fun hh=>by have:=hh.2 (i + 1) AGi AGi;omega)).symm⟩
       | exact ⟨rfl,congrArg Value.bool (decide_eq_true ⟨⟨AGi,AGi⟩,fun j h1 h2=>hall j h1 AGi⟩).symm⟩
    ·refine AGj (AUn 30 false AGx rfl rfl (AGj (AUn 30 false AGx rfl rfl (Aku (n:=0) AS9 rfl Ac rfl (Adg AGi) fun A5 Aq=>AUn 30 false AGx rfl rfl (AT3 ATe rfl Aq (AUn 30 false AGx rfl rfl (Agg rfl rfl AGi AGi (AUn 30 false AGx rfl rfl (AGj (AUn 30 false AGx rfl rfl (Aju rfl rfl (fun Ar=>?_) (fun Ar=>?_))))))))))))
     ·refine ATm rfl (AGr (ATp rfl (AGm (AGu (AGz (AUg (ATc (ATc (AUg (ATc (⟨_,AS2,?_⟩)))))))))))
      first
        | exact ⟨rfl,congrArg Value.bool (decide_eq_false (fun hh=>by have:=hh.1;omega)).symm⟩
        | exact ⟨rfl,congrArg Value.bool (decide_eq_false (fun hh=>by have:=hh.2 (i + 1) AGi AGi;omega)).symm⟩
        | exact ⟨rfl,congrArg Value.bool (decide_eq_true ⟨⟨AGi,AGi⟩,fun j h1 h2=>hall j h1 AGi⟩).symm⟩
     ·refine ATm rfl (AGr (ATr rfl (AGy (q_b (q_t (AS3 (Ab5 rfl AGi (AGj (AGr ?_)))))))));exact ⟨m - 1 - (i + 1),i + 1,AGi,⟨rfl,rfl,AGi,fun j h1 h2=>by rcases Nat.lt_succ_iff_lt_or_eq.1 h2 with q | rfl;exact hall j h1 q;exact ⟨AGi,AGi⟩⟩,rfl,trivial⟩
   ·refine AGr (AGo (ATr rfl (AS8 (ATa (ATa (AT7 (q_t (AGm (AGu (AGz (⟨_,AS2,?_⟩)))))))))))
    first
      | exact ⟨rfl,congrArg Value.bool (decide_eq_false (fun hh=>by have:=hh.1;omega)).symm⟩
      | exact ⟨rfl,congrArg Value.bool (decide_eq_false (fun hh=>by have:=hh.2 (i + 1) AGi AGi;omega)).symm⟩
      | exact ⟨rfl,congrArg Value.bool (decide_eq_true ⟨⟨AGi,AGi⟩,fun j h1 h2=>hall j h1 AGi⟩).symm⟩
theorem Avp {h:AGt} {v:Value} {M:List (List Int)} (HM:Mat h v M) (hcap:Af1 v):ATs Tryz.prog 34 #[v] h fun x h'=>Ext h h'/\x= .bool (isRed M):=by
 refine AT5 (l:=[_]) mx Tryz.func34 rfl rfl rfl rfl rfl AGx (AGm (AGu (AGo (AGm (AGj (ATd trivial rfl (Azv HM) fun x1 h hk=>?_))))));obtain ⟨rfl,rfl⟩:=hk;refine ⟨trivial,?_⟩;cases Au:Ad0 M
 ·refine AWq rfl (AGr (ATp rfl (AGm (AGu (AGz (ATc (⟨_,AS2,?_⟩)))))))
  first
    | exact ⟨(Ext.refl _),congrArg Value.bool (show false=isRed M by unfold isRed;rw [show Ad0 M=false by assumption];rfl)⟩
    | exact ⟨(Ext.refl _),congrArg Value.bool (show false=isRed M by unfold isRed;rw [hred,Ahj AGi (of_decide_eq_false (by assumption)),Bool.and_false])⟩
    | exact ⟨(Ext.refl _),congrArg Value.bool (show false=isRed M by unfold isRed;rw [hred,Ak2 AGi (by unfold An5;omega),Bool.and_false])⟩
    | (obtain rfl:m=1:=by omega
       first
       | exact ⟨(Ext.refl _),congrArg Value.bool (show true=isRed M by unfold isRed;rw [hred,<- AZc hsm,Aie,decide_eq_true ⟨AGi,AGi⟩];rfl)⟩
       | exact ⟨(Ext.refl _),congrArg Value.bool (show false=isRed M by unfold isRed;rw [hred,Aie,decide_eq_false AGi,Bool.and_false])⟩)
 ·refine AWq rfl (AGr (ATr rfl (AGy (q_t (AGm (AGj (ATw (AGu (AGo (AGp ?_))))))))));have hsm:=Asx Au;have Av:=A28 hsm;have Aw:Mat h v (tab M.length M.length (ent M)):=(Ay2 hsm.2.1) ▸ HM;refine AX0 20282409603651670423947251255292 (fun y:Nat × Value × Int × (AS5)=>[(3,y.2.1),(4,.int .i64 y.2.2.1)]) (fun k y h'=>y.1=k/\Ext h h'/\1<=y.1/\y.1<=M.length/\Mat h' y.2.1 (tab y.1 y.1 y.2.2.2)/\Af1 y.2.1/\Stg y.1 y.2.2.2 y.2.2.1 (262144 + 16384 * (M.length - y.1))/\Aie M.length (ent M) 1=Aie y.1 y.2.2.2 y.2.2.1) AGx M.length (M.length,v,1,ent M) ?_ ⟨rfl,rfl,trivial⟩ ?_
  ·exact ⟨rfl,Ext.refl _,hsm.1.1,Nat.le_refl _,Aw,hcap,by have e0:(262144 + 16384 * ((M.length:Int) - (M.length:Int)))=262144:=AGi;rw [e0];exact Av,rfl⟩
  rintro k ⟨m,vs,last,F⟩ s1 hq ⟨rfl,XQ,Ay,hmn,HS,Aj,hstg,hred⟩;dsimp only at Ay hmn HS Aj hstg hred ⊢;have h8:=hsm.1.2;have B7:=hstg.l1;have B8:=hstg.l2;have szq:=XQ.1;refine AGo (AGm (AGj (Ap0 ATb rfl HS ?_)));rw [AT8];refine Aju rfl rfl (fun Az=>?_) (fun Az=>?_)
  ·refine AGr (ATp rfl (AGy (q_t (AGp (AGm (AGj (Amv (n:=0) ATb rfl HS rfl (Abf AGi) fun B9 Ca A3 A4=>AT3 ATq rfl A3 (Aku (n:=0) AS9 rfl A4 rfl (Adg AGi) fun Cb A5=>AT3 ATe rfl A5 (AGu (AGo (AGm (AGj (ATd trivial rfl (Asy HS Aj AGi AGi (fun i hi=>Arm hstg AGi AGi hi AGi)) fun x4 hq hk=>?_)))))))))))));obtain ⟨rfl,rfl⟩:=hk;refine ⟨trivial,?_⟩;cases Ce:decide (Aid m F)
   ·refine AWq rfl (AGr (ATp rfl (AGm (AGu (AGz (ATc (AUg (ATc (AUg (ATc (⟨_,AS2,?_⟩)))))))))))
    first
      | exact ⟨XQ,congrArg Value.bool (show false=isRed M by unfold isRed;rw [show Ad0 M=false by assumption];rfl)⟩
      | exact ⟨XQ,congrArg Value.bool (show false=isRed M by unfold isRed;rw [hred,Ahj AGi (of_decide_eq_false (by assumption)),Bool.and_false])⟩
      | exact ⟨XQ,congrArg Value.bool (show false=isRed M by unfold isRed;rw [hred,Ak2 AGi (by unfold An5;omega),Bool.and_false])⟩
      | (obtain rfl:m=1:=by omega
         first
         | exact ⟨XQ,congrArg Value.bool (show true=isRed M by unfold isRed;rw [hred,<- AZc hsm,Aie,decide_eq_true ⟨AGi,AGi⟩];rfl)⟩
         | exact ⟨XQ,congrArg Value.bool (show false=isRed M by unfold isRed;rw [hred,Aie,decide_eq_false AGi,Bool.and_false])⟩)
   ·refine AWq rfl (AGr (ATr rfl (AGy (q_t (AGm (AGj (Ap0 ATb rfl HS ?_)))))));rw [AT8];have hsh:Aid m F:=of_decide_eq_true (by assumption);refine Aet rfl rfl AGi AGi ?_;rw [show ((m:Nat):Int) - 1=((m - 1:Nat):Int) by omega];refine BDe (ei:=tI) ATb Aff (fun _=>trivial) rfl rfl AGk AGi fun b2 v2 h2 Ak E2 Cg hl2b=>?_;have Ch:=E2.1;have Z6:=(Ext.refl hq).trans E2;have X7:=XQ.trans E2;have HS_8:=HS.ext E2;refine AGu (AGo (AGm (AGj (Ay4 ATb rfl Ak.1 (AGj (AGr (AGp (AX0 1208925819614624879739776 (fun i:Nat=>[(32,.int .i64 (i:Int))]) (fun k i h'=>k=m - 1 - i/\i<=m - 1/\Ext hq h'/\ ∃ gs,Ahu h' tR tI (Array.size hq) b2 gs v2 (m - 1) ((List.range i).map (fun i=>(List.range (m - 1)).map fun j=>Ajq F last i j))) AGx (m - 1) 0 ?_ ⟨rfl,trivial⟩ ?_))))))))
    ·exact ⟨rfl,Nat.zero_le _,E2,[],Ak⟩
    rintro k i s2 h3 ⟨rfl,hi,E3,gs,HP⟩;have X9:=XQ.trans E3;have Ck:=E3.1;have HS_11:=HS.ext E3;refine AGm (AXh rfl rfl (fun A7=>?_) (fun A7=>?_))
    ·refine AGr (AGo (ATp rfl (AGy (q_t (AGo (AGp (AGm (AGj (ATw (AGj (AGj (Ab5 rfl AGi (BA3 ATb rfl HS E3 rfl (Abf AGi) fun aR rR haR hrR=>AT3 ATq rfl haR (AGu ?_))))))))))))));refine AGm (AGj (AGj (AGj (Ay4 ATb rfl HP.1 (BDf AS9 Acy (fun _=>trivial) rfl rfl AGk AGi fun g4 v4 h4 A8 E4 Cn Co=>?_)))));have Cp:=E4.1;have A9:=E3.trans E4;have Ba:=X9.trans E4;have HS_15:=HS_11.ext E4;have HP_16:=HP.ext E4;refine A74 ATb rfl HP_16 rfl AGi ?_;have hglt:=HP.1.lt;have hblo:=HP.2 b2 (List.mem_cons_self ..);refine A75 ATq rfl rfl HP_16 ATv AGi A8 (fun hc=>by have:=hglt _ hc;omega) AGi fun h4b HPb U4=>?_;have Cq:=U4.1;have Cr:=Ba.thenUpd U4 (fun k hk=>by have Ah:k=b2:=hk;omega);have Ao:=A9.thenUpd U4 (fun k hk=>by have Ah:k=b2:=hk;omega);have HS_20:=HS.ext Ao;refine AZg (AGj (Ay4 ATb rfl HPb.1 (AGj (AGr (AGp (AX0 604462909525839610642944 (fun j:Nat=>[(48,.int .i64 (j:Int))]) (fun k j h'=>k=m - 1 - j/\j<=m - 1/\Ext hq h'/\Ahu h' tR tI (Array.size hq) b2 (gs ++ [g4]) v2 (m - 1) ((List.range i).map (fun i=>(List.range (m - 1)).map fun j=>Ajq F last i j) ++ [Aq3 (m - 1) (Ajq F last i) (fun _=>0) j])) AGx (m - 1) 0 ?_ ⟨rfl,trivial⟩ ?_))))))
     ·exact ⟨rfl,Nat.zero_le _,Ao,by rw [A2f,A2g];exact HPb⟩
     rintro k j s3 h5 ⟨rfl,hj,E5,HQ⟩;have Bb:=XQ.trans E5;have Cv:=E5.1;have HS_23:=HS.ext E5;refine AGm (AXh rfl rfl (fun Bc=>?_) (fun Bc=>?_))
     ·refine AGr (AGo (ATp rfl (AGy (q_t (AGo (AGp (AGm (AGj (AGu ?_)))))))));have hd:=hsh.1;have hfit:=fun i j hi hj=>Arm hstg AGi AGi (i:=i) (j:=j) hi hj;have q1:=Anw (a:=65535) (b:=34359738368) (x:=F 0 0) (y:=F (i + 1) (j + 1)) ⟨AGi,AGi⟩ (hfit _ _ AGi AGi);have q2:=hsh.2 (i + 1) AGi AGi;have q3:=hsh.2 (j + 1) AGi AGi;rw [<- hstg.sym 0 (j + 1) AGi AGi] at q3;have q4:=Anw (a:=32768) (b:=32768) (x:=F (i + 1) 0) (y:=F 0 (j + 1)) ⟨AGi,AGi⟩ ⟨AGi,AGi⟩;unfold Abs at q1 q4;refine Aix AGx (AGj (AGj (BDg ATb rfl HQ rfl (Awx ATv) fun aQ rQ gQ haQ hgQ hrQ=>?_)));refine AT3 ATq rfl haQ (AGj (AGj (AGj (AGj (Ab5 rfl AGi (Aku AS9 rfl (hrR.ext E5) rfl (Adg AGi) fun Cw Bi=>AT3 ATe rfl Bi (Agg rfl rfl AGi AGi (AGj (Aku (n:=0) AS9 rfl (hrR.ext E5) rfl (Adg AGi) fun Cx Bj=>AT3 ATe rfl Bj (AGj (Amv (n:=0) ATb rfl HS_23 rfl (Abf AGi) fun aZ rZ haZ hrZ=>AT3 ATq rfl haZ (AGj (Ab5 rfl AGi (Aku AS9 rfl hrZ rfl (Adg AGi) fun Cy Bl=>AT3 ATe rfl Bl (Agg rfl rfl AGi AGi (Aet rfl rfl AGi AGi (AGj (Amr rfl rfl AGi ?_))))))))))))))))));have hnf:=Arm (Axv (m:=m - 1) (by rw [show m - 1 + 1=m by omega];exact hstg) AGi (by rw [show m - 1 + 1=m by omega];exact hsh)) AGi AGi (i:=i) (j:=j) AGi AGi;unfold Abs at hnf;rw [show IntKind.i64.wrap ((F 0 0 * F (i + 1) (j + 1) - F (i + 1) 0 * F 0 (j + 1)).tdiv last)=Ajq F last i j from Go.QF.wrap_small (by have:(F 0 0 * F (i + 1) (j + 1) - F (i + 1) 0 * F 0 (j + 1)).tdiv last=Ajq F last i j:=rfl;omega) (by have:(F 0 0 * F (i + 1) (j + 1) - F (i + 1) 0 * F 0 (j + 1)).tdiv last=Ajq F last i j:=rfl;omega)];refine Akt AS9 rfl hrQ rfl (by rw [List.length_map,Amx];omega) ?_;refine A76 (Aq3 (m - 1) (Ajq F last i) (fun _=>0) (j + 1)) ATe rfl rfl HQ hgQ (Awx ATv) hrQ (by rw [Amx];omega) (A4e AGi rfl) fun h6 Bm U6 C0=>?_;have C1:=U6.1;have C2:=Bb.thenUpd U6 (fun k hk=>by have Ah:k=gQ:=hk;omega);have Ap:=E5.thenUpd U6 (fun k hk=>by have Ah:k=gQ:=hk;omega);have HS_30:=HS.ext Ap;have Aq:=Bm;rw [A4i ATv] at Aq;refine ATh (q_b (q_t (AS3 (Ab5 rfl AGi (AGj (AGr ?_))))));exact ⟨m - 1 - (j + 1),j + 1,AGi,⟨rfl,AGi,Ap,Aq⟩,rfl,trivial⟩
     ·refine AGr (AGo (ATr rfl (AS8 (ATa (ATa (AT7 (q_b (q_t (AS3 (Ab5 rfl AGi (AGj (AGr ?_))))))))))));exact ⟨m - 1 - (i + 1),i + 1,AGi,⟨rfl,AGi,E5,gs ++ [g4],by rw [A4d _ _ AGi] at HQ;rw [<- Ay3];exact HQ⟩,rfl,trivial⟩
    ·refine AGr (AGo (ATr rfl (AS8 (ATa (ATa (AT7 (q_t (AGo ?_))))))));obtain rfl:i=m - 1:=by omega
     have Ar:Ahu h3 tR tI (Array.size hq) b2 gs v2 (tab (m - 1) (m - 1) (Ajq F last)).length (tab (m - 1) (m - 1) (Ajq F last)):=by rw [AT8];exact HP
     have HN:=Ar.mat;have hcapn:=Ar.cap;have Bn:=Axv (m:=m - 1) (by rw [show m - 1 + 1=m by omega];exact hstg) AGi (by rw [show m - 1 + 1=m by omega];exact hsh);have hnx:Stg (m - 1) (Ajq F last) (F 0 0) (262144 + 16384 * (M.length - ((m - 1:Nat):Int))):=by rw [show (262144 + 16384 * ((M.length:Int) - ((m - 1:Nat):Int)))=262144 + 16384 * ((M.length:Int) - (m:Int)) + 16384 by omega];exact Bn
     refine AS3 (AGj (Amv (n:=1) ATb rfl HS_11 rfl (Abf AGi) fun C3 C4 Bo Bp=>AT3 ATq rfl Bo (Aku (n:=0) AS9 rfl Bp rfl (Adg AGi) fun C5 Bq=>AT3 ATe rfl Bq (AGu (AGo (AGo ?_))))));have hd:=hsh.1;have hnf:=Arm hnx AGi AGi (i:=0) (j:=0) AGi AGi;have q5:=Anw (a:=65535) (b:=34359738368) (x:=last) (y:=Ajq F last 0 0) ⟨AGi,AGi⟩ hnf;have q2:=hsh.2 1 AGi AGi;have q6:=Anw (a:=32768) (b:=32768) (x:=F 1 0) (y:=F 1 0) ⟨AGi,AGi⟩ ⟨AGi,AGi⟩;have q7:=Ap1 (a:=3 * F 0 0) (b:=F 0 0) (A:=196605) (B:=65535) AGi AGi AGi AGi;unfold Abs at q5 q6;refine AS3 (AGj (AGj (Amv (n:=0) ATb rfl HN rfl (Abf AGi) fun aN rN haN hrN=>AT3 ATq rfl haN (Aku (n:=0) AS9 rfl hrN rfl (Adg AGi) fun aO haO=>AT3 ATe rfl haO (Agg rfl rfl AGi AGi (AGj (AGj (Agg rfl rfl AGi AGi (Au1 rfl rfl AGi AGi (Agg rfl rfl AGi AGi (AGj (Agg rfl rfl AGi AGi (AGj (Agg rfl rfl AGi AGi (AXh rfl rfl (fun Bu=>?_) (fun Bu=>?_))))))))))))))))
     ·refine AGr (ATp rfl (AGm (AGu (AGz (ATc (AUg (ATc (AUg (ATc (⟨_,AS2,?_⟩))))))))))
      first
        | exact ⟨X9,congrArg Value.bool (show false=isRed M by unfold isRed;rw [show Ad0 M=false by assumption];rfl)⟩
        | exact ⟨X9,congrArg Value.bool (show false=isRed M by unfold isRed;rw [hred,Ahj AGi (of_decide_eq_false (by assumption)),Bool.and_false])⟩
        | exact ⟨X9,congrArg Value.bool (show false=isRed M by unfold isRed;rw [hred,Ak2 AGi (by unfold An5;omega),Bool.and_false])⟩
        | (obtain rfl:m=1:=by omega
           first
           | exact ⟨X9,congrArg Value.bool (show true=isRed M by unfold isRed;rw [hred,<- AZc hsm,Aie,decide_eq_true ⟨AGi,AGi⟩];rfl)⟩
           | exact ⟨X9,congrArg Value.bool (show false=isRed M by unfold isRed;rw [hred,Aie,decide_eq_false AGi,Bool.and_false])⟩)
     ·refine AGr (ATr rfl (AGy (q_t ?_)));have hlov:An5 F last:=by unfold An5;omega
      have hredn:=A29 (last:=last) AGi hsh hlov;refine AS3 (AGj (AGj (ATi (ATi (ATh (q_b (q_t ?_)))))));exact ⟨m - 1,(m - 1,v2,F 0 0,Ajq F last),by first | omega | (dsimp only;omega),⟨rfl,X9,by first | omega | (dsimp only;omega),by first | omega | (dsimp only;omega),HN,hcapn,hnx,by rw [hred,hredn]⟩,rfl,rfl,trivial⟩
  ·refine AGr (ATr rfl (AS8 (ATa (ATa (AT7 (q_t (AGm (AGj (Amv (n:=0) ATb rfl HS rfl (Abf AGi) fun C7 C8 Bv Bw=>AT3 ATq rfl Bv (Aku (n:=0) AS9 rfl Bw rfl (Adg AGi) fun C9 Bx=>AT3 ATe rfl Bx (Aju rfl rfl (fun By=>?_) (fun By=>?_))))))))))))
   ·refine AGj (AUn 110 true AGx rfl rfl (AGj (AUn 110 true AGx rfl rfl (Amv (n:=0) ATb rfl HS rfl (Abf AGi) fun Da Db Bz B1=>AUn 110 true AGx rfl rfl (AT3 ATq rfl Bz (AUn 110 true AGx rfl rfl (Aku (n:=0) AS9 rfl B1 rfl (Adg AGi) fun Dc B3=>AUn 110 true AGx rfl rfl (AT3 ATe rfl B3 (AUn 110 true AGx rfl rfl (Amt rfl rfl (fun B4=>?_) (fun B4=>?_)))))))))))
    ·refine ATj rfl (AGu (AGz (⟨_,AS2,?_⟩)))
     first
       | exact ⟨XQ,congrArg Value.bool (show false=isRed M by unfold isRed;rw [show Ad0 M=false by assumption];rfl)⟩
       | exact ⟨XQ,congrArg Value.bool (show false=isRed M by unfold isRed;rw [hred,Ahj AGi (of_decide_eq_false (by assumption)),Bool.and_false])⟩
       | exact ⟨XQ,congrArg Value.bool (show false=isRed M by unfold isRed;rw [hred,Ak2 AGi (by unfold An5;omega),Bool.and_false])⟩
       | (obtain rfl:m=1:=by omega
          first
          | exact ⟨XQ,congrArg Value.bool (show true=isRed M by unfold isRed;rw [hred,<- AZc hsm,Aie,decide_eq_true ⟨AGi,AGi⟩];rfl)⟩
          | exact ⟨XQ,congrArg Value.bool (show false=isRed M by unfold isRed;rw [hred,Aie,decide_eq_false AGi,Bool.and_false])⟩)
    ·refine ATj rfl (AGu (AGz (⟨_,AS2,?_⟩)))
     first
       | exact ⟨XQ,congrArg Value.bool (show false=isRed M by unfold isRed;rw [show Ad0 M=false by assumption];rfl)⟩
       | exact ⟨XQ,congrArg Value.bool (show false=isRed M by unfold isRed;rw [hred,Ahj AGi (of_decide_eq_false (by assumption)),Bool.and_false])⟩
       | exact ⟨XQ,congrArg Value.bool (show false=isRed M by unfold isRed;rw [hred,Ak2 AGi (by unfold An5;omega),Bool.and_false])⟩
       | (obtain rfl:m=1:=by omega
          first
          | exact ⟨XQ,congrArg Value.bool (show true=isRed M by unfold isRed;rw [hred,<- AZc hsm,Aie,decide_eq_true ⟨AGi,AGi⟩];rfl)⟩
          | exact ⟨XQ,congrArg Value.bool (show false=isRed M by unfold isRed;rw [hred,Aie,decide_eq_false AGi,Bool.and_false])⟩)
   ·refine AGj (AUd 110 false AGx rfl rfl (AUd 110 false AGx rfl rfl (AUd 110 false AGx rfl rfl (AUd 110 false AGx rfl rfl (AUd 110 false AGx rfl rfl (AUd 110 false AGx rfl rfl (ATm rfl (AGu (AGz (⟨_,AS2,?_⟩))))))))))
    first
      | exact ⟨XQ,congrArg Value.bool (show false=isRed M by unfold isRed;rw [show Ad0 M=false by assumption];rfl)⟩
      | exact ⟨XQ,congrArg Value.bool (show false=isRed M by unfold isRed;rw [hred,Ahj AGi (of_decide_eq_false (by assumption)),Bool.and_false])⟩
      | exact ⟨XQ,congrArg Value.bool (show false=isRed M by unfold isRed;rw [hred,Ak2 AGi (by unfold An5;omega),Bool.and_false])⟩
      | (obtain rfl:m=1:=by omega
         first
         | exact ⟨XQ,congrArg Value.bool (show true=isRed M by unfold isRed;rw [hred,<- AZc hsm,Aie,decide_eq_true ⟨AGi,AGi⟩];rfl)⟩
         | exact ⟨XQ,congrArg Value.bool (show false=isRed M by unfold isRed;rw [hred,Aie,decide_eq_false AGi,Bool.and_false])⟩)
end Go.Proofs.YthbndcbclhkepaaGreatDoor
namespace Go.QF
theorem Aob {α:Type} (f g:α->Int) (l:List α):AXl (l.map fun x=>f x * g x)=AXl (l.map f) * AXl (l.map g):=by
 induction l with
 | nil=>simp [AXl]
 | cons x l ih=>simp only [List.map_cons,AXl,ih];simp only [Int.mul_assoc,Int.mul_left_comm]
theorem Aq7 (a:Int) (l:List Int):AXl (l.map fun x=>a * x)=a ^ l.length * AXl l:=by
 induction l with
 | nil=>simp [AXl]
 | cons x l ih=>simp only [List.map_cons,AXl,ih,List.length_cons,Int.pow_succ];simp only [Int.mul_assoc,Int.mul_left_comm,Int.mul_comm]
theorem Aj8 {α:Type} {f g:α->Int} {l:List α} (h:∀ x∈l,f x=g x):AXl (l.map f)=AXl (l.map g):=by rw [List.map_congr_left h]
theorem Axw {p:Int} {α:Type} {f g:α->Int} {l:List α} (h:∀ x∈l,f x % p=g x % p):AXl (l.map f) % p=AXl (l.map g) % p:=by
 induction l with
 | nil=>rfl
 | cons x l ih=>
   simp only [List.map_cons,AXl]
   rw [Int.mul_emod,h x (List.mem_cons_self ..),ih fun y hy=>h y (List.mem_cons_of_mem _ hy),<- Int.mul_emod]
theorem A6c {α:Type} {f:α->Int} {l:List α} (h:∀ x∈l,f x=1∨f x= -1):AXl (l.map f)=1∨AXl (l.map f)= -1:=by
 induction l with
 | nil=>exact .inl rfl
 | cons x l ih=>
   simp only [List.map_cons,AXl]
   rcases h x (List.mem_cons_self ..) with h1 | h1 <;> rcases ih (fun y hy=>h y (List.mem_cons_of_mem _ hy)) with h2 | h2 <;> rw [h1,h2] <;> simp
theorem A9a (n:Nat):(upN n).length=n:=by simp [upN]
theorem Axx (n:Nat):upN (n + 1)=upN n ++ [(n:Int) + 1]:=by simp [upN,List.range_succ]
theorem Apg (l t:List Int):AXl (l ++ t)=AXl l * AXl t:=by
 induction l with
 | nil=>simp [AXl]
 | cons x l ih=>simp only [List.cons_append,AXl,ih,Int.mul_assoc]
def chi (n:Int):Int:=if n % 2=0 then 1 else -1
theorem Avq (a b:Int):chi (a + b)=chi a * chi b:=by
 unfold chi;by_cases ha:a % 2=0 <;> by_cases hb:b % 2=0
 ·rw [if_pos ha,if_pos hb,if_pos AGi];rfl
 ·rw [if_pos ha,if_neg hb,if_neg AGi];rfl
 ·rw [if_neg ha,if_pos hb,if_neg AGi];rfl
 ·rw [if_neg ha,if_neg hb,if_pos AGi];rfl
theorem count_le (M N:Nat) (h:N<=M):AXl ((upN M).map fun l=>if l<=(N:Int) then -1 else 1)=chi N:=by
  induction M with
  | zero=>
    obtain rfl:N=0:=by omega
    rfl
  | succ M ih=>
    rw [Axx,List.map_append,Apg];simp only [List.map_cons,List.map_nil,AXl,Int.mul_one]
    rcases Nat.lt_or_ge M N with hlt | hge
    · obtain rfl:N=M + 1:=by omega
      rw [if_pos AGi]
      have h2:AXl ((upN M).map fun l=>if l<=((M + 1:Nat):Int) then -1 else 1)=AXl ((upN M).map fun l=>if l<=(M:Int) then -1 else 1):=Aj8 fun x hx=>by
        have:=Aik.1 hx;rw [if_pos AGi,if_pos AGi]
      rw [h2]
      have key:∀ K:Nat,AXl ((upN K).map fun l=>if l<=(K:Int) then -1 else 1)=chi K:=by
        intro K;induction K with
        | zero=>rfl
        | succ K ihK=>
          rw [Axx,List.map_append,Apg];simp only [List.map_cons,List.map_nil,AXl,Int.mul_one]
          have h3:AXl ((upN K).map fun l=>if l<=((K + 1:Nat):Int) then -1 else 1)=AXl ((upN K).map fun l=>if l<=(K:Int) then -1 else 1):=Aj8 fun x hx=>by
            have:=Aik.1 hx;rw [if_pos AGi,if_pos AGi]
          rw [h3,ihK,if_pos AGi];have:=Avq (K:Int) 1;rw [show ((K + 1:Nat):Int)=(K:Int) + 1 by omega,this];rfl
      rw [key];have:=Avq (M:Int) 1;rw [show ((M + 1:Nat):Int)=(M:Int) + 1 by omega,this];rfl
    · rw [ih hge,if_neg AGi,Int.mul_one]
section
variable {p:Int} {m:Nat}
def gs (p:Int) (m:Nat) (a k:Int):Int:=if a * k % p<=m then 1 else -1
def gv (p:Int) (m:Nat) (a k:Int):Int:=if a * k % p<=m then a * k % p else p - a * k % p
def GS (p:Int) (m:Nat) (a:Int):Int:=AXl ((upN m).map (gs p m a))
theorem BDu (p:Int) (m:Nat) (a:Int):GS p m a=1∨GS p m a= -1:=A6c fun x _=>by unfold gs;split <;> simp
theorem Anx (hp:Pr p) {a k:Int} (ha:a % p≠0) (hk:0 < k) (hkp:k < p):a * k % p≠0:=by
 have h2:=hp.1;have h1:0 < a % p:=by have:=Int.emod_nonneg a (show p≠0 by omega);omega
 have h3:=Int.emod_lt_of_pos a (show 0 < p by omega);have:=A4j hp h1 h3 hk hkp;rwa [Int.mul_emod,Int.emod_emod,<- Int.mul_emod] at this
theorem Aon (hp:Pr p) {a k:Int} (ha:a % p≠0) (hk:0 < k) (hkp:k < p):1<=a * k % p/\a * k % p < p:=by
 have h2:=hp.1;have h1:=Anx hp ha hk hkp;have h3:=Int.emod_nonneg (a * k) (show p≠0 by omega);have h4:=Int.emod_lt_of_pos (a * k) (show 0 < p by omega);omega
theorem A9b (hp:Pr p) (hm:p=2 * m + 1) {a:Int} (ha:a % p≠0):((upN m).map (gv p m a)).Perm (upN m):=by
 have hinj:∀ k∈upN m,∀ j∈upN m,gv p m a k=gv p m a j->k=j:=by
   intro k hk j hj he
   have hk:=Aik.1 hk
   have hj:=Aik.1 hj
   have r1:=Aon hp ha (k:=k) AGi AGi
   have r2:=Aon hp ha (k:=j) AGi AGi
   by_cases hkj:k=j
   · exact hkj
   · exfalso
     unfold gv at he
     have e1:a * k % p=a * j % p->False:=by
       intro h
       have h3:a * (k - j) % p=0:=by rw [Int.mul_sub,Int.sub_emod,h,Int.sub_self];rfl
       rcases Int.lt_trichotomy k j with hlt | heq | hgt
       · refine Anx hp ha (k:=j - k) AGi AGi ?_
         rw [show a * (j - k)= -(a * (k - j)) by rw [<- Int.mul_neg];congr 1;omega]
         exact Int.emod_eq_zero_of_dvd (Int.dvd_neg.2 (Int.dvd_of_emod_eq_zero h3))
       · exact hkj heq
       · exact Anx hp ha (k:=k - j) AGi AGi h3
     have e2:a * k % p + a * j % p=p->False:=by
       intro h
       refine Anx hp ha (k:=k + j) AGi AGi ?_
       rw [Int.mul_add,Int.add_emod,h,Int.emod_self]
     split at he <;> split at he
     · exact e1 he
     · exact e2 AGi
     · exact e2 AGi
     · exact e1 AGi
 refine Awy _ _ ?_ (fun x hx=>?_) ATv
 ·rw [List.nodup_iff_pairwise_ne,List.pairwise_map];have hnd:=A2j m;rw [List.nodup_iff_pairwise_ne] at hnd;refine List.Pairwise.imp_of_mem (fun {x y} hx hy hxy he=>hxy (hinj x hx y hy he)) hnd
 ·obtain ⟨k,hk,rfl⟩:=List.mem_map.1 hx;have hk:=Aik.1 hk;have r1:=Aon hp ha (k:=k) AGi AGi;rw [Aik];unfold gv;split <;> omega
theorem BDv (hp:Pr p) (hm:p=2 * m + 1) {a:Int} (ha:a % p≠0):a ^ m % p=GS p m a % p:=by
 have h2:=hp.1;refine A70 hp (upN m) (fun x hx=>by have:=Aik.1 hx;omega) ?_;have h1:=Aq7 a (upN m);rw [A9a] at h1;rw [<- h1]
 have h3:AXl ((upN m).map fun k=>a * k) % p=AXl ((upN m).map fun k=>gs p m a k * gv p m a k) % p:=by
   refine Axw fun k hk=>?_
   unfold gs gv
   split
   · rw [Int.one_mul,Int.emod_emod]
   · rw [show (-1:Int) * (p - a * k % p)=a * k % p - p by omega,Int.sub_emod,Int.emod_emod,Int.emod_self,Int.sub_zero,Int.emod_emod]
 rw [h3,Aob,Ay5 (A9b hp hm ha)];rfl
end
theorem A3a (n:Nat):AXl ((upN n).map fun _=>(-1:Int))=chi n:=by
 rw [<- count_le n n (Nat.le_refl _)];exact Aj8 fun x hx=>by rw [if_pos (Aik.1 hx).2]
theorem A3b {p:Int} {m:Nat} (hp:Pr p) (hm:p=2 * m + 1) (hm1:1<=m):GS p m 2=if p % 8=1∨p % 8=7 then 1 else -1:=by
  have h1:GS p m 2=AXl ((upN m).map fun k=>(-1) * (if k<=((m / 2:Nat):Int) then -1 else 1)):=by
    refine Aj8 fun k hk=>?_;have hk:=Aik.1 hk;unfold gs;rw [Int.emod_eq_of_lt AGi AGi]
    by_cases h:2 * k<=(m:Int)
    · rw [if_pos h,if_pos AGi];rfl
    · rw [if_neg h,if_neg AGi];rfl
  rw [h1,Aob (fun _=> -1) (fun k=>if k<=((m / 2:Nat):Int) then -1 else 1),A3a,count_le m (m / 2) AGi,<- Avq];unfold chi;obtain ⟨j,r,hj,hr⟩:∃ j r:Nat,m=4 * j + r/\r < 4:=⟨m / 4,m % 4,AGi,AGi⟩;have hd:m / 2=2 * j + r / 2:=by omega
  rw [hd]
  by_cases h:p % 8=1∨p % 8=7
  · have:r=0∨r=3:=by omega
    rcases this with rfl | rfl
    · rw [if_pos h,if_pos AGi]
    · rw [if_pos h,if_pos AGi]
  · have:r=1∨r=2:=by omega
    rcases this with rfl | rfl
    · rw [if_neg h,if_neg AGi]
    · rw [if_neg h,if_neg AGi]
end Go.QF
namespace Go.QF
def lg (p a:Int):Int:=if a ^ ((p - 1) / 2).toNat % p=0 then 0 else if a ^ ((p - 1) / 2).toNat % p=1 then 1 else -1
def OPr (p:Int):Prop:=Pr p/\p % 2=1
theorem OPr.half {p:Int} (h:OPr p):p=2 * (((p - 1) / 2).toNat:Int) + 1/\1<=((p - 1) / 2).toNat:=by
 have h1:=h.1.1;have h2:=h.2;omega
theorem OPr.three {p:Int} (h:OPr p):3<=p:=by have h1:=h.1.1;have h2:=h.2;omega
theorem BDw {p a:Int} (hp:OPr p) (ha:a % p≠0):lg p a=GS p ((p - 1) / 2).toNat a:=by
 obtain ⟨h1,h2⟩:=hp.half;have h3:=hp.three;have hg:=BDv hp.1 h1 ha;unfold lg;rw [hg];rcases BDu p ((p - 1) / 2).toNat a with h | h
 ·rw [h,Int.emod_eq_of_lt AGi AGi];rfl
 ·rw [h]
  have:(-1:Int) % p=p - 1:=by
    rw [show (-1:Int)=(p - 1) + p * (-1) by omega,Int.add_mul_emod_self_left,Int.emod_eq_of_lt AGi AGi]
  rw [this,if_neg AGi,if_neg AGi]
def e4 (x y:Int):Int:=if x % 4=3/\y % 4=3 then -1 else 1
def e8 (x:Int):Int:=if x % 8=1∨x % 8=7 then 1 else -1
theorem BBy {p:Int} (hp:OPr p):lg p 2=e8 p:=by
 obtain ⟨h1,h2⟩:=hp.half;have h3:=hp.three;rw [BDw hp (by rw [Int.emod_eq_of_lt AGi AGi];omega),A3b hp.1 h1 h2];rfl
theorem Azw {x y:Int} (hx:x % 2=1) (hy:y % 2=1):e8 (x * y)=e8 x * e8 y:=by
 unfold e8;rw [Int.mul_emod];rcases (by omega:x % 8=1∨x % 8=3∨x % 8=5∨x % 8=7) with a | a | a | a <;> rcases (by omega:y % 8=1∨y % 8=3∨y % 8=5∨y % 8=7) with b | b | b | b <;> rw [a,b] <;> rfl
end Go.QF
namespace Go.Proofs.YthbndcbclhkepaaGreatDoor
open Go Go.QF
set_option maxRecDepth 100000
open Classical in
noncomputable def A3c (p:Int):Bool:=decide (2 < p/\p<=9973/\Pr p)
theorem Avr {p:Int} (h:2 < p/\p<=9973/\Pr p):true=A3c p:=by simp [A3c,h]
theorem Anb {p:Int} (h: ¬ (2 < p/\p<=9973/\Pr p)):false=A3c p:=by simp [A3c,h]
theorem prB {p:Int} {b:Bool} (h:Aft p=b) (hp:p<=9973):b=true↔Pr p:=by
 subst h;constructor
 ·intro h;exact (A2a h).2
 ·intro h;exact (Arz AGi h).symm
theorem A9c (p:Int) {h:AGt} (HO:An3 h):ATs Tryz.prog 69 #[.int .i64 p] h fun v h'=>h'=h/\v= .bool (A3c p):=by
 refine AT5 (l:=[_]) mx Tryz.func69 rfl rfl rfl rfl rfl AGx (AGm (ATw (AGj (Aju rfl rfl (fun Aa=>?_) (fun Aa=>?_)))))
 ·refine AGj (AUn 5 true AGx rfl rfl (AGj (AUn 5 true AGx rfl rfl (Amt rfl rfl (fun Ab=>?_) (fun Ab=>?_)))))
  ·refine ATj rfl (AGj (AUn 9 true AGx rfl rfl (AGj (AUn 9 true AGx rfl rfl (ATd trivial rfl (BAc p HO) fun x1 h hk=>?_)))));obtain ⟨rfl,rfl⟩:=hk;refine ⟨trivial,?_⟩;cases Ad:Aft p
   ·refine ATj rfl (AGu (AGz (⟨_,AS2,?_⟩)))
    first
    | exact ⟨rfl,congrArg Value.bool (Anb (fun hh=>by have:=hh.1;have:=hh.2.1;omega))⟩
    | (have hq:=(prB (by assumption:Aft p=_) AGi);first | exact ⟨rfl,congrArg Value.bool (Avr ⟨by first | omega | (have:=(hq.1 rfl).1;omega),AGi,hq.1 rfl⟩)⟩ | exact ⟨rfl,congrArg Value.bool (Anb (fun hh=>by have:=hq.2 hh.2.2;cases this))⟩)
   ·refine ATj rfl (AGu (AGz (⟨_,AS2,?_⟩)))
    first
    | exact ⟨rfl,congrArg Value.bool (Anb (fun hh=>by have:=hh.1;have:=hh.2.1;omega))⟩
    | (have hq:=(prB (by assumption:Aft p=_) AGi);first | exact ⟨rfl,congrArg Value.bool (Avr ⟨by first | omega | (have:=(hq.1 rfl).1;omega),AGi,hq.1 rfl⟩)⟩ | exact ⟨rfl,congrArg Value.bool (Anb (fun hh=>by have:=hq.2 hh.2.2;cases this))⟩)
  ·refine ATj rfl (AGj (AUd 9 false AGx rfl rfl (AUd 9 false AGx rfl rfl (ATm rfl (AGu (AGz (⟨_,AS2,?_⟩)))))))
   first
   | exact ⟨rfl,congrArg Value.bool (Anb (fun hh=>by have:=hh.1;have:=hh.2.1;omega))⟩
   | (have hq:=(prB (by assumption:Aft p=_) AGi);first | exact ⟨rfl,congrArg Value.bool (Avr ⟨by first | omega | (have:=(hq.1 rfl).1;omega),AGi,hq.1 rfl⟩)⟩ | exact ⟨rfl,congrArg Value.bool (Anb (fun hh=>by have:=hq.2 hh.2.2;cases this))⟩)
 ·refine AGj (AUd 5 false AGx rfl rfl (AUd 5 false AGx rfl rfl (ATm rfl (AGj (AUd 9 false AGx rfl rfl (AUd 9 false AGx rfl rfl (ATm rfl (AGu (AGz (⟨_,AS2,?_⟩))))))))))
  first
  | exact ⟨rfl,congrArg Value.bool (Anb (fun hh=>by have:=hh.1;have:=hh.2.1;omega))⟩
  | (have hq:=(prB (by assumption:Aft p=_) AGi);first | exact ⟨rfl,congrArg Value.bool (Avr ⟨by first | omega | (have:=(hq.1 rfl).1;omega),AGi,hq.1 rfl⟩)⟩ | exact ⟨rfl,congrArg Value.bool (Anb (fun hh=>by have:=hq.2 hh.2.2;cases this))⟩)
end Go.Proofs.YthbndcbclhkepaaGreatDoor
namespace Go.Proofs.YthbndcbclhkepaaGreatDoor
open Go Go.QF
noncomputable def Ak3 (fuel:Nat) (M:List (List Int)):Option Bool:=some (isRed M)
theorem Asz {fuel:Nat} {h:AGt} {v:Value} {M:List (List Int)} {r:Bool} (H:AXs (cI .i64) h v M) (hp:Ak3 fuel M=some r):ATs Tryz.prog 34 #[v] h (fun x h'=>Ext h h'/\x= .bool r):=by
 cases hp;exact Avp (BBx H) H.1
noncomputable def Axy (fuel:Nat) (n:Int):Option Bool:=some (Aft n)
theorem A3d {fuel:Nat} {h:AGt} {n:Int} {r:Bool} (HO:An3 h) (hp:Axy fuel n=some r):ATs Tryz.prog 114 #[.int .i64 n] h (fun x h'=>Ext h h'/\x= .bool r):=by
 cases hp;exact (BAc n HO).mono fun x h' ⟨he,hx⟩=>⟨he ▸ Ext.refl _,hx⟩
noncomputable def As0 (fuel:Nat) (n:Int):Option Bool:=some (A3c n)
theorem Axz {fuel:Nat} {h:AGt} {n:Int} {r:Bool} (HO:An3 h) (hp:As0 fuel n=some r):ATs Tryz.prog 69 #[.int .i64 n] h (fun x h'=>Ext h h'/\x= .bool r):=by
 cases hp;exact (A9c n HO).mono fun x h' ⟨he,hx⟩=>⟨he ▸ Ext.refl _,hx⟩
end Go.Proofs.YthbndcbclhkepaaGreatDoor
namespace Go.Proofs.YthbndcbclhkepaaGreatDoor
open Go Go.QF
set_option maxRecDepth 100000
set_option maxHeartbeats 4000000
noncomputable def Ae2 (fuel:Nat) (Ad:LiA) (Aa Ab Ac:Int):Option ((Int × Int × Int) ⊕ ((Int × Int))):=
  (if 0<=Aa then ((gI Ad Aa).bind fun Ae=>(if 0<=Aa/\Aa<=64 then ((((Am8 fuel Ab Ae).bind fun (Af,Ag,Ak)=>((Asu fuel Ag).bind fun Ah=>(if ¬ Ah=0 then (some ( (false,Ab,Ac))) else (some ( (true,Af,(w64 (Ac + (w64 (1 * 2 ^ Int.toNat Aa)))))))))):Option (Bool × Int × Int)).bind fun (Am,Ai,Aj)=>(some (Sum.inl ((w64 (Aa - 1)),Ai,Aj)))) else none)) else (some (Sum.inr<| (Ab,Ac))))
noncomputable def Ae3 (fuel:Nat) (Aa:LiA) (Ac Ad:Int):Option ((LiA × Int × Int) ⊕ ((LiA × Int × Int))):=
  ((gI Aa (w64 ((Aa.length:Int) - 1))).bind fun Ab=>(if 0<=(w64 ((Aa.length:Int) - 1))/\(w64 ((Aa.length:Int) - 1))<=64 then ((((Am8 fuel Ac Ab).bind fun (Ag,Ah,Am)=>((Asu fuel Ah).bind fun Ai=>(if ¬ Ai=0 then (some ( (false,Ac,Ad))) else (some ( (true,Ag,(w64 (Ad + (w64 (1 * 2 ^ Int.toNat (w64 ((Aa.length:Int) - 1)))))))))))):Option (Bool × Int × Int)).bind fun (Aj,Ae,Af)=>(if Aj=true then ((A1g fuel Ab Ab).bind fun Ak=>(if Aa.length<=100000000 then (some (Sum.inl ((Aa ++ [Ak]),Ae,Af))) else none)) else (some (Sum.inr<| (Aa,Ae,Af))))) else none))
noncomputable def Acd (fuel:Nat) (a1 a5:Int):Option (Int × Int × Int):=
  ((Axy fuel a5).bind fun Ad=>(if (!Ad)=true then (some (0,0,20)) else ((Asu fuel a1).bind fun Ae=>(if Ae=0 then (some (0,0,1)) else ((Am9 fuel a1).bind fun Af=>((Ark fuel a5).bind fun Ag=>((iter (fun s=>Ae3 fuel s.1 s.2.1 s.2.2) fuel ([Ag],Af,0)).bind (fun ((Ac,Ah,Ai):LiA × Int × Int)=>((iter (fun s=>Ae2 fuel Ac s.1 s.2.1 s.2.2) fuel ((w64 ((Ac.length:Int) - 2)),Ah,Ai)).bind (fun ((Aj,Ak):Int × Int)=>(some (Ak,Aj,0))))))))))))
theorem Anc {fuel:Nat} {h:AGt} {Bh:Value} {a1 a5:Int} {r:(Int × Int × Int)} (H3:ZZ h Bh a1) (HO:An3 h) (hp:Acd fuel a1 a5=some r):ATs Tryz.prog 117 #[Bh,(.int .i64 a5)] h (fun x h'=>Ext h h'/\ ∃ (x1:Value),x= .tuple #[.int .i64 r.1,x1,.int .i64 r.2.2]/\ZZ h' x1 r.2.1):=by
 unfold Acd at hp;obtain ⟨Ci,rfl,Am⟩:=H3.cs;refine cwf (l:=[_,_]) Tryz.func117 rfl rfl (AGm (AYy (Kst.k0 h) Ci fun b6 h7 E9 Cj=>ATi (AVr Cj [.bool false,.slice none 0 0] AXi fun Fp Fq Fr Bm=>AGu (AGo (AGm (AGj ?_))))));obtain ⟨Ft,Ck,Bn⟩:=AGn hp;refine AW0 Bm (A3d (HO.ext Bm.x) Ck) fun Bo Fu Aj=>AWq rfl (AGr (⟨_,rfl,fun Ax=>?_,fun Ax=>?_⟩))
 ·refine AGm (AV6 (Ago ) (ATi (AYh Aj p0 (AS7 Bo) (AS7 Bo) fun Bp Bq=>AGu (AGz (ATc ?_)))));obtain rfl:=AGl (ifT Bn Ax);exact ⟨_,Asm AUa (cZ.klen (AS7 Bp)) rfl (Bq.b p0),Bq.x,_,rfl,(AS7 Bp).2⟩
 ·refine AGy (q_t (AGo (AGm (Ac1 (Aj.zx Am) (Aj.b p1) ?_))));obtain ⟨Fv,Cm,Br⟩:=AGn (Aa7 Bn Ax);refine AW0 Aj (Arl (Aj.zx Am).2 Cm) fun Bt Fw Ak=>AUy rfl rfl (AGr (⟨_,rfl,fun Ay=>?_,fun Ay=>?_⟩))
  ·refine AGm (AV6 (Ago ) (ATi (AYh Ak p0 (AS7 Bt) (AS7 Bt) fun Bu Bv=>AGu (AGz (ATc ?_)))));obtain rfl:=AGl (ATy Br Ay);exact ⟨_,Asm AUa (cZ.klen (AS7 Bu)) rfl (Bv.b p0),Bv.x,_,rfl,(AS7 Bu).2⟩
  ·refine AGy (q_t (AGm (Ac1 (Ak.zx Am) (Ak.b p1) ?_)));obtain ⟨Cn,Co,Cp⟩:=AGn (ATz Br Ay);refine Af9 Ak (Apf (Ak.zx Am).2 Co) fun Cq Fx Fy Cr=>AVr Cr [.bool false,.slice none 0 0] AXi fun Ae Ct Fz Bw=>AYh Bw p0 (AS7 Ct) (Bw.z p1) fun F4 Cu=>AZg (AVr Cu [(.int .i64 0)] Aoj fun Af F5 F6 Bx=>Ag8 [(.int .i64 0)] AT1 rfl rfl rfl (Bx.b p0) (Nat.le_of_ble_eq_true rfl) rfl fun F7 Cv Cw=>AZg (A37 rfl (AGu (AGo ?_))));refine AS3 (AGj ?_);obtain ⟨Cx,Cy,Cz⟩:=AGn Cp;refine Af9 (Bx.sb p0 Cw Cv rfl) (Asv Cy) fun F8 F9 Ga By=>BBe AVp AXi rfl trivial tt2 (By.z p0) rfl fun C0 C1 Gb C2 C3 C4 C5=>AGu (AGo (AGp ?_));have Az:=(By.no C3 (AX2 C4 C5) C2).sel [0,2,3,4,5] AGk;dsimp only [AYv,Ab8] at Az;refine AX6 2251799679470592 (fun x:(LiA) × (Value) × LnA × (Int) × LvA × (Int)=>(x.1,x.2.2.2.1,x.2.2.2.2.2)) (([Cx],C1,[C0],Cn,Cq,0):(LiA) × (Value) × LnA × (Int) × LvA × (Int)) Cz (fun x=>[(10,x.2.1)]) (fun x=>(((Az.L.set 0 (aO cZ 93 x.2.2.1 x.2.1 x.1)).set 3 (aZ x.2.2.2.2.1 x.2.2.2.1)).set 2 (aB 93 Ae x.2.2.2.2.1)).set 1 (aB 3 Af [(.int .i64 x.2.2.2.2.2)])) Az ⟨rfl,trivial⟩ ?_;rintro ⟨Ao,Gc,Gd,C6,C7,A3⟩ Ge Gf Gg Ap Bz C8;unfold Ae3 at Bz;refine AGo (AGo (AXr (AGj (AGj (AGj (AUp AVp rfl (Ap.o p0).rd (AVd rfl rfl ?_)))))));obtain ⟨Gh,Aq,C9⟩:=AGn Bz;refine Ao5 AVp rfl (Ap.o p0) rfl Aq fun Gi Da=>?_;obtain ⟨B1,Db,Dc⟩:=(Ap.o p0).cells Da Aq;have Ar:=Ap.az Db;refine Afb (c:=cZ) AUa rfl (Ar.z p0) (fun j u hu=>(Dc j u hu)) (AGj (AUp AVp rfl (Ar.o p1).rd (AVd rfl rfl ?_)));obtain ⟨Dd,De⟩:=ifN C9;refine AY5 rfl rfl Dd ?_;obtain ⟨Df,Dg,B3⟩:=AGn De;refine Aq9 (l:=[(.agg (B1).toArray),(.int .i64 (w64 (1 * 2 ^ Int.toNat (w64 ((Ao.length:Int) - 1)))))]) (cl:=[(.pointer (some ⟨Ae,0,none⟩)),(.pointer (some ⟨Af,0,none⟩))]) (K':=(fun xr h'=> ∃ x:(Bool) × (Int) × LvA × (Int),(x.1,x.2.1,x.2.2.2)=Df/\xr=(.bool x.1)/\Kst h h' (((Ar.L.set 4 (aZ x.2.2.1 x.2.1)).set 3 (aB 93 Ae x.2.2.1)).set 2 (aB 3 Af [(.int .i64 x.2.2.2)])))) trivial rfl rfl ?_ fun Gj Gk Dh=>?_
   ·refine cwf (l:=[_,_,_,_]) Tryz.func156 rfl rfl (AGm (AYy Ar B1 fun Gl Gm Gn Ab=>ATw (Ac1 (Ab.z p5) (Ab.b p4) (Ac1 (Ab.z p1) (Ab.b p0) ?_))));obtain ⟨⟨Di,Gp,Gq⟩,Dj,B4⟩:=AGn Dg;dsimp only at B4;refine Afh rfl (Aqj (Ab.z p5).2 (Ab.z p1).2 Dj) fun Gr Gt Dk Dl=>?_;obtain ⟨Gu,Gv,rfl,Do,Dp⟩:=Dl;obtain ⟨Dq,rfl,Dr⟩:=Do.cs;obtain ⟨Gw,rfl,Ds⟩:=Dp.cs;refine AGj (AUb rfl rfl (AUb rfl rfl (AUb rfl rfl (AVr (((Ab.e Dk).az Dr).az Ds) [.bool false,.slice none 0 0] AXi fun Gx Gy Gz Dt=>AVr Dt [.bool false,.slice none 0 0] AXi fun G3 Du G4 B5=>AYh B5 p1 (AS7 Du) (B5.z p3) fun Dv B6=>AYh B6 p0 (AS7 Dv) (B6.z p2) fun G5 Au=>AGu (AGo (AGm (Ac1 (Au.z p2) (Au.b p0) ?_)))))));obtain ⟨G6,Dw,B7⟩:=AGn B4;refine AW0 Au (Arl (Au.z p2).2 Dw) fun G7 G8 Ag=>AWp rfl rfl (AGr (⟨_,rfl,fun A4=>?_,fun A4=>?_⟩))
    ·refine AGm (AGu (AGz (ATc (⟨_,AS2,((false,C6,C7,A3):(Bool) × (Int) × LvA × (Int)),?_,rfl,?_⟩))))
     ·exact AGl (ATy B7 A4)
     ·exact Ag.sel [5,6,7,8,9,10] AGk
    ·refine AGy (q_t (AGm (Ac1 (Ag.z p3) (Ag.b p1) (AYh Ag p8 (Ag.z p9) (Ag.z p3) fun G9 A5=>AZg (AT3 AT1 rfl ((A5.b p7).cell (i:=0) rfl) (AGj (ATk rfl rfl (Ag8 [(.int .i64 (w64 (A3 + (w64 (1 * 2 ^ Int.toNat (w64 ((Ao.length:Int) - 1)))))))] AT1 rfl rfl rfl (A5.b p7) (Nat.le_of_ble_eq_true rfl) rfl fun Hb Dx Dy=>AZg ?_))))))));refine AGu (AGz (⟨_,AS2,((true,Di,Dq,(w64 (A3 + (w64 (1 * 2 ^ Int.toNat (w64 ((Ao.length:Int) - 1))))))):(Bool) × (Int) × LvA × (Int)),?_,rfl,?_⟩))
     ·exact AGl (ATz B7 A4)
     ·exact (A5.sb p7 Dy Dx rfl).sel [5,6,7,8,3,10] AGk
   obtain ⟨⟨Hc,Dz,D0,D1⟩,D2,rfl,Ah⟩:=Dh;refine ⟨trivial,?_⟩;subst D2;refine AGr (⟨_,rfl,fun A6=>?_,fun A6=>?_⟩)
   ·refine AGy (q_t (AGp (AGm (AGj (AGj (AUp AVp rfl (Ah.o p1).rd (AVd rfl rfl (Ao5 AVp rfl (Ah.o p1) rfl Aq fun Hd D3=>?_))))))));obtain ⟨He,D4,D5⟩:=(Ah.o p1).cells D3 Aq;have B8:=Ah.az D4;refine Afb (c:=cZ) AUa rfl (B8.z p0) (fun j u hu=>(D5 j u hu)) (AVr B8 [.bool false,.slice none 0 0] AXi fun Hf D6 Hg B9=>AYh B9 p0 (AS7 D6) (B9.z p1) fun Hh Ac=>AGr (AS3 (AGj (Ac1 (Ac.z p1) (Ac.b p0) (Ac1 (Ac.z p1) (Ac.b p0) ?_)))));obtain ⟨Hj,D7,D8⟩:=AGn (ifT B3 A6);refine Af9 Ac (Azu (Ac.z p1).2 (Ac.z p1).2 D7) fun Hk Hl Hm A7=>?_;obtain ⟨D9,Ea⟩:=ifN D8;refine Adu AVp AXi rfl rfl trivial tt2 (fun _=>rfl) rfl (A7.z p0) (A7.o p4) AGk D9 fun Hn Ho Hq Hr Eb Ec Ed=>ATi (ATh (q_b (q_t ?_)));exact ⟨(_,_,_,_,_,_),(AGl Ea).symm,(A7.uo p4 Ec Eb Ed).sel [4,5,6,7,8] AGk,rfl,trivial⟩
   ·refine AS8 (ATa (ATa (AT7 (q_t (AGo (AGm (AGj (AUp AVp rfl (Ah.o p1).rd (AVd rfl rfl (AGu (AGp ?_)))))))))));have A8:=Ah.sel [1,2,3,4,5] AGk;dsimp only [AYv,Ab8] at A8;refine AX6 73768961896328728576 (fun x:(Int) × (Int) × LvA × (Int)=>(x.1,x.2.1,x.2.2.2)) (((w64 ((Ao.length:Int) - 2)),Dz,D0,D1):(Int) × (Int) × LvA × (Int)) (C8 _ (AGl (Aa7 B3 A6)).symm) (fun x=>[(12,(.int .i64 x.1))]) (fun x=>((A8.L.set 3 (aZ x.2.2.1 x.2.1)).set 2 (aB 93 Ae x.2.2.1)).set 1 (aB 3 Af [(.int .i64 x.2.2.2)])) A8 ⟨rfl,trivial⟩ ?_;rintro ⟨A9,Ee,Ef,Ba⟩ Hs Eg Ht Aa Bb Eh;unfold Ae2 at Bb;refine AGo (AGm (AGj (Agp rfl rfl (AGr (⟨_,rfl,fun Bc=>?_,fun Bc=>?_⟩)))))
    ·refine AGy (q_t (AGo (AGp (AXr (AGj (AGj (AGj ?_)))))));obtain ⟨Hu,Ca,Ei⟩:=AGn (ATy Bb Bc);refine Ao5 AVp rfl (Aa.o p0) rfl Ca fun Hv Ej=>?_;obtain ⟨Cb,Ek,El⟩:=(Aa.o p0).cells Ej Ca;have Be:=Aa.az Ek;refine Afb (c:=cZ) AUa rfl (Be.z p0) (fun j u hu=>(El j u hu)) (AGj ?_);obtain ⟨Em,En⟩:=ifN Ei;refine AY5 rfl rfl Em ?_;obtain ⟨Eo,Ep,Er⟩:=AGn En;refine Aq9 (l:=[(.agg (Cb).toArray),(.int .i64 (w64 (1 * 2 ^ Int.toNat A9)))]) (cl:=[(.pointer (some ⟨Ae,0,none⟩)),(.pointer (some ⟨Af,0,none⟩))]) (K':=(fun xr h'=> ∃ x:(Bool) × (Int) × LvA × (Int),(x.1,x.2.1,x.2.2.2)=Eo/\xr=(.bool x.1)/\Kst h h' (((Be.L.set 4 (aZ x.2.2.1 x.2.1)).set 3 (aB 93 Ae x.2.2.1)).set 2 (aB 3 Af [(.int .i64 x.2.2.2)])))) trivial rfl rfl ?_ fun Hw Hx Es=>?_
     ·refine cwf (l:=[_,_,_,_]) Tryz.func156 rfl rfl (AGm (AYy Be Cb fun Hy Hz Ia Ad=>ATw (Ac1 (Ad.z p5) (Ad.b p4) (Ac1 (Ad.z p1) (Ad.b p0) ?_))));obtain ⟨⟨Et,Ib,Ic⟩,Eu,Cd⟩:=AGn Ep;dsimp only at Cd;refine Afh rfl (Aqj (Ad.z p5).2 (Ad.z p1).2 Eu) fun Id Ie Ev Ew=>?_;obtain ⟨If,Ih,rfl,Ey,Ez⟩:=Ew;obtain ⟨Fa,rfl,Fb⟩:=Ey.cs;obtain ⟨Ii,rfl,Fc⟩:=Ez.cs;refine AGj (AUb rfl rfl (AUb rfl rfl (AUb rfl rfl (AVr (((Ad.e Ev).az Fb).az Fc) [.bool false,.slice none 0 0] AXi fun Ij Ik Il Fd=>AVr Fd [.bool false,.slice none 0 0] AXi fun Im Fe Io Ce=>AYh Ce p1 (AS7 Fe) (Ce.z p3) fun Ff Cf=>AYh Cf p0 (AS7 Ff) (Cf.z p2) fun Ip Av=>AGu (AGo (AGm (Ac1 (Av.z p2) (Av.b p0) ?_)))))));obtain ⟨Iq,Fg,Cg⟩:=AGn Cd;refine AW0 Av (Arl (Av.z p2).2 Fg) fun Ir Is Ai=>AWp rfl rfl (AGr (⟨_,rfl,fun Bf=>?_,fun Bf=>?_⟩))
      ·refine AGm (AGu (AGz (ATc (⟨_,AS2,((false,Ee,Ef,Ba):(Bool) × (Int) × LvA × (Int)),?_,rfl,?_⟩))))
       ·exact AGl (ATy Cg Bf)
       ·exact Ai.sel [5,6,7,8,9,10] AGk
      ·refine AGy (q_t (AGm (Ac1 (Ai.z p3) (Ai.b p1) (AYh Ai p8 (Ai.z p9) (Ai.z p3) fun It Bg=>AZg (AT3 AT1 rfl ((Bg.b p7).cell (i:=0) rfl) (AGj (ATk rfl rfl (Ag8 [(.int .i64 (w64 (Ba + (w64 (1 * 2 ^ Int.toNat A9)))))] AT1 rfl rfl rfl (Bg.b p7) (Nat.le_of_ble_eq_true rfl) rfl fun Iu Fh Fi=>AZg ?_))))))));refine AGu (AGz (⟨_,AS2,((true,Et,Fa,(w64 (Ba + (w64 (1 * 2 ^ Int.toNat A9))))):(Bool) × (Int) × LvA × (Int)),?_,rfl,?_⟩))
       ·exact AGl (ATz Cg Bf)
       ·exact (Bg.sb p7 Fi Fh rfl).sel [5,6,7,8,3,10] AGk
     obtain ⟨⟨Iv,Iw,Ix,Iy⟩,Fj,rfl,Fk⟩:=Es;refine ⟨trivial,?_⟩;subst Fj;refine ATh (q_b (q_t (AS3 (AGj (AVd rfl rfl (AGu ?_))))));exact ⟨(_,_,_,_),(AGl Er).symm,Fk.sel [1,2,3,4,5] AGk,rfl,trivial⟩
    ·refine AS8 (ATa (ATa (AT7 (q_t (AGo (AXr (AT3 AT1 rfl ((Aa.b p1).cell (i:=0) rfl) (Ac1 (Aa.z p3) (Aa.b p2) (ATi (AYh Aa p4 (AS7 Eg) (Aa.z p3) fun Iz Aw=>AGu (AGz ?_)))))))))));obtain rfl:=AGl (Eh _ (AGl (ATz Bb Bc)).symm);exact ⟨_,Asm AUa (cZ.klen (Aw.z p3)) rfl (Aw.b p4),Aw.x,_,rfl,(Aw.z p3).2⟩
noncomputable def AZd (fuel:Nat) (a3:LiI) (a5:Int):Option Int:=
  ((Acb fuel a3).bind fun (x6,x7)=>((Aio fuel x6).bind fun (Ae,Ag)=>((Acd fuel Ae a5).bind fun (Ab,Ah,Ai)=>(if a5=2 then (some (w64 (Ab + 3))) else (some (w64 (Ab + 1)))))))
theorem Ag9 {fuel:Nat} {h:AGt} {Ad:Value} {a3:LiI} {a5 r:Int} (H2:AXs (cI .i64) h Ad a3) (HO:An3 h) (hp:AZd fuel a3 a5=some r):ATs Tryz.prog 70 #[Ad,(.int .i64 a5)] h (fun x h'=>Ext h h'/\x= .int .i64 r):=by
 unfold AZd at hp;refine cwf (l:=[_,_]) Tryz.func70 rfl rfl (AGm (ATw (AGj ?_)));have K0:=Kst.k0 h;obtain ⟨⟨x6,x7⟩,Aq,Ah⟩:=AGn hp;dsimp only at Ah;refine Afh rfl (Ana (H2.ext K0.x) Aq) fun Bf Bg Ar Au=>?_;obtain ⟨Bh,Bi,Bj,Bl,rfl,Av,Aw⟩:=Au;refine AGj (AUb rfl rfl (AUb rfl rfl (ATi (ATw (AGj ?_)))));have Ai:=K0.no2 Ar Aw Av;obtain ⟨⟨Bm,Bn⟩,Ax,Aj⟩:=AGn Ah;dsimp only at Aj;refine Afh rfl (Aq6 (Ai.o2 p0).rd Ax) fun Bo Bp Ay Az=>?_;obtain ⟨Bq,rfl,A3⟩:=Az;obtain ⟨Br,rfl,A4⟩:=A3.cs;refine AGj (AUb rfl rfl (AUb rfl rfl (AVr ((Ai.e Ay).az A4) [.bool false,.slice none 0 0] AXi fun Bt A5 Bu Ak=>AYh Ak p0 (AS7 A5) (Ak.z p1) fun Bv Aa=>ATw (Ac1 (Aa.z p1) (Aa.b p0) (AGj ?_)))));obtain ⟨⟨Bw,Bx,By⟩,A6,Ab⟩:=AGn Aj;dsimp only at Ab;refine Afh rfl (Anc (Aa.z p1).2 (HO.ext Aa.x) A6) fun Bz B1 A7 A8=>?_;obtain ⟨B3,rfl,A9⟩:=A8;obtain ⟨B4,rfl,Ba⟩:=A9.cs;refine AGj (AUb rfl rfl (AUb rfl rfl (AUb rfl rfl (AVr ((Aa.e A7).az Ba) [.bool false,.slice none 0 0] AXi fun B5 Bb B6 Am=>ATi (AYh Am p0 (AS7 Bb) (Am.z p1) fun B7 Ao=>AGu (AGo (AGm (AGj (AUy rfl rfl (AGr (⟨_,rfl,fun Ac=>?_,fun Ac=>?_⟩)))))))))))
 ·refine AGm (AGj (ATk rfl rfl (AGu (AGz (ATc ?_)))));obtain rfl:=AGl (ATy Ab Ac);exact ⟨_,AS2,Ao.x,rfl⟩
 ·refine AGy (q_t (AGm (AGj (ATk rfl rfl (AGu (AGz ?_))))));obtain rfl:=AGl (ATz Ab Ac);exact ⟨_,AS2,Ao.x,rfl⟩
noncomputable def AW2 (fuel:Nat) (a3:LiI) (a5:Int):Option (Int × Int):=
  ((Ak3 fuel a3).bind fun x6=>(if (!x6)=true then (some (0,6)) else (if ¬ a5=2 then ((As0 fuel a5).bind fun Ad=>(if (!Ad)=true then (some (0,20)) else ((AZd fuel a3 a5).bind fun Ae=>(some (Ae,0))))) else ((AZd fuel a3 a5).bind fun Af=>(some (Af,0))))))
theorem Aha {fuel:Nat} {h:AGt} {Ah:Value} {a3:LiI} {a5:Int} {r:(Int × Int)} (H2:AXs (cI .i64) h Ah a3) (HO:An3 h) (hp:AW2 fuel a3 a5=some r):ATs Tryz.prog 35 #[Ah,(.int .i64 a5)] h (fun x h'=>Ext h h'/\x= .tuple #[.int .i64 r.1,.int .i64 r.2]):=by
 unfold AW2 at hp;refine cwf (l:=[_,_]) Tryz.func35 rfl rfl (AGm (ATi (AGu (AGo (AGm (AGj ?_))))));have K0:=Kst.k0 h;obtain ⟨x6,Ap,Ak⟩:=AGn hp;refine AW0 K0 (Asz (H2.ext K0.x) Ap) fun A3 E9 Aa=>AWq rfl (AGr (⟨_,rfl,fun Af=>?_,fun Af=>?_⟩))
 ·refine AGm (ATi (AGu (AGz (ATc ?_))));obtain rfl:=AGl (ifT Ak Af);exact ⟨_,AUk,Aa.x,rfl⟩
 ·refine AGy (q_t (AGo (AGm (AGj (AWp rfl rfl (AGj ?_))))));have Am:=Aa7 Ak Af;by_cases Ab: ¬ a5=2
  ·rw [decide_eq_true Ab];refine ATn 11 true (AGj (ATn 11 true ?_));obtain ⟨A5,Aq,Ao⟩:=AGn (ifT Am Ab);refine AW0 Aa (Axz (HO.ext Aa.x) Aq) fun A6 A7 Ac=>ATn 11 true (AWq rfl (ATj rfl (AGr (⟨_,rfl,fun Ag=>?_,fun Ag=>?_⟩))))
   ·refine AGm (ATi (AGu (AGz (ATc ?_))));obtain rfl:=AGl (ifT Ao Ag);exact ⟨_,AUk,Ac.x,rfl⟩
   ·refine AGy (q_t (AGm (AGj (AGj ?_))));obtain ⟨A8,Ar,Au⟩:=AGn (Aa7 Ao Ag);refine AW0 Ac (Ag9 (H2.ext Ac.x) (HO.ext Ac.x) Ar) fun A9 Ba Av=>ATi (AGu (AGz ?_));obtain rfl:=AGl Au;exact ⟨_,AUk,Av.x,rfl⟩
  ·rw [decide_eq_false Ab];refine Ab6 11 false (ATm rfl (AGr (ATr rfl (AGy (q_t (AGm (AGj (AGj ?_))))))));obtain ⟨Bb,Aw,Ax⟩:=AGn (ifF Am Ab);refine AW0 Aa (Ag9 (H2.ext Aa.x) (HO.ext Aa.x) Aw) fun Bc Be Ay=>ATi (AGu (AGz ?_));obtain rfl:=AGl Ax;exact ⟨_,AUk,Ay.x,rfl⟩
def Aai (fuel:Nat) (a2 Ab Ac:Int):Option ((Int × Int) ⊕ ((Int))):=
  (((if ¬ Ab=0 then (if a2≠0 then (if (Int.tmod Ab a2)=0 then (some (Sum.inl <| ())) else (some (Sum.inr <| ()))) else none) else (some (Sum.inr <| ()))):Option ((Unit) ⊕ (Unit))).bind (fun ex=>match ex with | Sum.inl _=>(if a2≠0 then (some (Sum.inl ((w64 (Int.tdiv Ab a2)),(w64 (Ac + 1))))) else none) | Sum.inr (_)=>(some (Sum.inr<| Ac))))
def AWg (fuel:Nat) (a1 a2:Int):Option Int:=
  ((iter (fun s=>Aai fuel a2 s.1 s.2) fuel (a1,0)).bind (fun (Ac:Int)=>(some Ac)))
theorem Aip {fuel:Nat} {h:AGt} {a1 a2 r:Int} (hp:AWg fuel a1 a2=some r):ATs Tryz.prog 18 #[(.int .i64 a1),(.int .i64 a2)] h (fun x h'=>Ext h h'/\x= .int .i64 r):=by
 unfold AWg at hp;refine cwf (l:=[_,_]) Tryz.func18 rfl rfl (AGm (ATw (AGu (AGo (AGp ?_)))));have K0:=Kst.k0 h;refine AYd 524257 hp (fun x=>[(0,(.int .i64 x.1)),(5,(.int .i64 x.2))]) (fun x=>K0.L) K0 ⟨rfl,rfl,trivial⟩ ?_;rintro ⟨u9,Aw⟩ Ax h6 y5 K8 Ah Ai;unfold Aai at Ah;obtain ⟨Ao,Aj,Ac⟩:=AGn Ah;refine Acg 16320 (fun x:Unit=>[]) (fun x h'=>(Sum.inl <| ())=Ao/\Kst h h' (K8.L)) ?_ ?_
 ·refine AGm (AGj (AWp rfl rfl (AGj ?_)));by_cases Ab: ¬ u9=0
  ·rw [decide_eq_true Ab];refine ATn 8 true (AGj (ATn 8 true (AGj (ATn 8 true ?_))));obtain ⟨Ap,Ak⟩:=ifN (ifT Aj Ab);refine Acw rfl rfl Ap (ATn 8 true (AUy rfl rfl (ATj rfl (AGr (⟨_,rfl,fun Ad=>?_,fun Ad=>?_⟩)))))
   ·refine AGy (q_t ?_);exact ⟨(():Unit),⟨AGl (ATy Ak Ad),K8⟩,trivial⟩
   ·obtain rfl:=AGl (ATz Ak Ad);refine AS8 (ATa (ATa (AT7 (q_t (AGm (AGj (AGu (AGz ?_))))))));obtain rfl:=AGl (Ai _ (AGl Ac).symm);exact ⟨_,AS2,K8.x,rfl⟩
  ·rw [decide_eq_false Ab];refine Afz 8 false (ATm rfl (AGr (ATr rfl ?_)));obtain rfl:=AGl (ifF Aj Ab);refine AS8 (ATa (ATa (AT7 (q_t (AGm (AGj (AGu (AGz ?_))))))));obtain rfl:=AGl (Ai _ (AGl Ac).symm);exact ⟨_,AS2,K8.x,rfl⟩
 rintro ⟨⟩ A3 A4 ⟨Aq,Ar⟩;subst Aq;refine AGp (AGm (AGj (AGj ?_)));obtain ⟨Au,Av⟩:=ifN Ac;refine Amr rfl rfl Au (AGu (AS3 (AGj (ATk rfl rfl (ATi (ATh (q_b (q_t ?_))))))));exact ⟨_,(AGl Av).symm,Ar,rfl,rfl,trivial⟩
def AYt (fuel:Nat) (a3:LiI):Option Int:=
  ((AW1 fuel a3).bind fun x5=>((AUl fuel x5).bind fun Ac=>((Avg fuel Ac).bind fun (Ad,Ae)=>(some Ad))))
theorem Al6 {fuel:Nat} {h:AGt} {Aa:Value} {a3:LiI} {r:Int} (H2:AXs (cI .i64) h Aa a3) (hp:AYt fuel a3=some r):ATs Tryz.prog 17 #[Aa] h (fun x h'=>Ext h h'/\x= .int .i64 r):=by
 unfold AYt at hp;refine cwf (l:=[_]) Tryz.func17 rfl rfl (AGm (ATw (AGj ?_)));have K0:=Kst.k0 h;obtain ⟨x5,Ah,Ai⟩:=AGn hp;refine Ahe K0 (Aee (H2.ext K0.x) Ah) fun Aq Ar Au Av h9 E8 Ad=>?_;obtain ⟨Ay,Aj,Ak⟩:=AGn Ai;refine Af9 Ad (AVy (Ad.o2 p0).rd Aj) fun Az A3 A4 Ae=>?_;obtain ⟨⟨A5,A6⟩,Am,Af⟩:=AGn Ak;dsimp only at Af;refine AW0 Ae (Axd (Ae.z p0).2 Am) fun A7 A8 Ao=>AGj (AUb rfl rfl (AUb rfl rfl (ATi (ATw (AGj (AGu (AGz ?_)))))));obtain rfl:=AGl Af;exact ⟨_,AS2,Ao.x,rfl⟩
def Agu (fuel:Nat) (a3:LiI) (a5:Int):Option Int:=
  ((AYt fuel a3).bind fun x6=>((AWg fuel x6 a5).bind fun Ab=>(if a5=2 then (some (w64 (Ab + 3))) else (some (w64 (Ab + 1))))))
def AXj (fuel:Nat) (a1 a2:Int):Option Int:=
  (if a2≠0 then (if (Int.tmod a1 a2) < 0 then (some (w64 ((Int.tmod a1 a2) + a2))) else (some (Int.tmod a1 a2))) else none)
theorem Agv {fuel:Nat} {h:AGt} {a1 a2 r:Int} (hp:AXj fuel a1 a2=some r):ATs Tryz.prog 64 #[(.int .i64 a1),(.int .i64 a2)] h (fun x h'=>Ext h h'/\x= .int .i64 r):=by
 unfold AXj at hp;refine cwf (l:=[_,_]) Tryz.func64 rfl rfl (AGm (ATw (AGj (AGj ?_))));have K0:=Kst.k0 h;obtain ⟨Af,Ae⟩:=ifN hp;refine Acw rfl rfl Af (AGu (AGo (AGm (AGj (ATl rfl rfl (AGr (⟨_,rfl,fun Aa=>?_,fun Aa=>?_⟩)))))))
 ·refine AS3 (AGj (AGj (ATk rfl rfl (ATw (AGj (AGu (AGz ?_)))))));obtain rfl:=AGl (ATy Ae Aa);exact ⟨_,AS2,K0.x,rfl⟩
 ·refine AGy (q_t (AGm (AGj (AGu (AGz ?_)))));obtain rfl:=AGl (ATz Ae Aa);exact ⟨_,AS2,K0.x,rfl⟩
end Go.Proofs.YthbndcbclhkepaaGreatDoor
namespace Go.QF
theorem Avs:∀ {n:Nat} {m:Int} {F G:AS5},(∀ i j,i < n->j < n->Eqm m (F i j) (G i j))->Eqm m (det n F) (det n G):=by
 intro n m
 induction n with
 | zero=>intro _ _ _;rfl
 | succ n ih=>
   intro F G h
   refine Eqm.psum fun i hi=>?_
   exact ((Eqm.refl _ _).mul (h i 0 hi AGi)).mul (ih (F:=AW8 i F) (G:=AW8 i G) fun a b ha hb=>h _ _ (A5u ha) AGi)
end Go.QF
namespace Go.Proofs.YthbndcbclhkepaaGreatDoor
open Go Go.QF
end Go.Proofs.YthbndcbclhkepaaGreatDoor
namespace Go.Proofs.YthbndcbclhkepaaGreatDoor
open Go Go.QF
theorem BBz {fuel:Nat} {a m:Int} (hm:0 < m) (Ae:m<=2147483647):AXj fuel a m=some (a % m):=by
 unfold AXj;rw [if_pos AGi];have h1:=Int.tmod_lt_of_pos a hm
 have h2: -m < Int.tmod a m:=by
   have:=Int.tmod_lt_of_pos (-a) hm
   rw [Int.neg_tmod] at this;omega
 have h3:Int.tmod a m=a % m∨Int.tmod a m=a % m - m:=by
   rcases Int.lt_or_le a 0 with h | h
   · have e1:Int.tmod a m= -((-a) % m):=by rw [show a= -(-a) by omega,Int.neg_tmod,Int.tmod_eq_emod_of_nonneg AGi];simp
     rcases Int.lt_or_eq_of_le (Int.emod_nonneg (-a) (by omega:m≠0)) with h4 | h4
     · right
       rw [e1]
       have:=Int.emod_add_mul_ediv (-a) m
       have h5:a % m=m - (-a) % m:=by
         have h6:=Int.emod_lt_of_pos (-a) hm
         have e:a=(m - (-a) % m) + m * (-(-a / m) - 1):=by
           have e0:m * (-(-a / m) - 1)= -(m * (-a / m)) - m:=by rw [Int.mul_sub,Int.mul_neg,Int.mul_one]
           omega
         conv=>lhs;rw [e]
         rw [Int.add_mul_emod_self_left,Int.emod_eq_of_lt AGi AGi]
       omega
     · left
       rw [e1,<- h4]
       have:m ∣ -a:=Int.dvd_of_emod_eq_zero h4.symm
       have:m ∣ a:=(Int.dvd_neg).1 this
       rw [Int.emod_eq_zero_of_dvd this];rfl
   · left;exact Int.tmod_eq_emod_of_nonneg h
 have h4:=Int.emod_nonneg a (by omega:m≠0);have h5:=Int.emod_lt_of_pos a hm;rcases h3 with h3 | h3
 ·rw [if_neg AGi,h3]
 ·rw [if_pos AGi,wk AGi];congr 1;omega
end Go.Proofs.YthbndcbclhkepaaGreatDoor
namespace Go.QF
def BB0 (n:Nat) (F:AS5) (i j:Nat):Int:=det n (AUw F i (dl j))
def As1 (n:Nat) (F:AS5) (i j:Nat):Int:=BB0 n F j i
def tau (j c:Nat):Nat:=if c=j then j + 1 else if c=j + 1 then j else c
theorem Ax0 {n j:Nat} {F:AS5} (hj:j + 1 < n):det n (fun r c=>F r (tau j c))= -det n F:=by
 rw [<- Afw (fun r c=>F r (tau j c)),<- Afw F,<- Aja (F:=trF F) (a:=j) (b:=j + 1) AGi hj AGi];refine AUm fun c r hc hr=>?_;rw [Ae8];show F r (tau j c)=if c=j + 1 then F r j else if c=j then F r (j + 1) else F r c;unfold tau;by_cases h1:c=j + 1
 ·subst h1;simp
 ·by_cases h2:c=j
  ·subst h2;simp
  ·simp [h1,h2]
theorem Ahk {f:Nat->Int} {n a:Nat} (ha:a < n) (h:∀ i,i < n->i≠a->f i=0):psum f n=f a:=by
 rw [AT0 (g:=fun i=>if i=a then f a else 0) (fun k hk=>?_),Ac8 ha (fun i hi=>if_neg hi),if_pos rfl];by_cases e:k=a
 ·subst e;rw [if_pos rfl]
 ·rw [if_neg e,h k hk e]
theorem A9d {n:Nat} {F:AS5} {i j:Nat} (hi:i < n) (hj:j < n):psum (fun k=>F i k * BB0 n F j k) n=if i=j then det n F else 0:=by
 have h:=Ass (F:=F) hj (F i) dl n
 have e:det n (AUw F j fun q=>psum (fun k=>F i k * dl k q) n)=det n (AUw F j (F i)):=AUm fun r c _ hc=>by
   rw [AT2,AT2]
   split
   · exact Azo (F:=F) (i:=i) hc
   · rfl
 unfold BB0;rw [<- h,e];split
 ·subst_vars
  refine AUm fun r c _ _=>?_;rw [AT2];split
  ·subst_vars;rfl
  ·rfl
 ·rename_i hij;refine Af5 hi hj hij ?_;funext c;rw [AT2,if_neg hij,AT2,if_pos rfl]
theorem A3e {n:Nat} {F:AS5} {i j:Nat} (hi:i < n) (hj:j < n):psum (fun k=>F i k * As1 n F k j) n=det n F * dl i j:=by
 unfold As1;rw [A9d hi hj];unfold dl;split <;> simp
end Go.QF
namespace Go.Proofs.YthbndcbclhkepaaGreatDoor
open Go Go.QF
theorem Ax1 {fuel n r c:Nat} {F:AS5} {f g:Nat->Nat} (hr:r<=100) (hc:c<=100) (hf:100 < fuel) (hfn:∀ a,a < r->f a < n) (hgn:∀ a,a < c->g a < n):AW7 fuel (tab n n F) (AVs r fun a=>(f a:Int)) (AVs c fun a=>(g a:Int))=some (tab r c fun a b=>F (f a) (g b)):=by
 apply ok_eq;unfold AW7;refine AGw (AT9 (fun i s=>s=(AVs i fun a=>AVs c fun b=>F (f a) (g b),(i:Int))) r (Q:=(· =tab r c fun a b=>F (f a) (g b))) rfl AGi fun i s hi hI=>?_) fun y hy=>AGq hy;subst hI;unfold Abt;dsimp only;rw [AUi];refine ATt (fun h=>?_) (fun h=>AGq ?_)
 ·have hi':i < r:=by omega
  refine ATu (ATx hi') rfl (AGw (AT9 (fun j s=>s=(AVs j fun b=>F (f i) (g b),(j:Int))) c (Q:=(· =AVs c fun b=>F (f i) (g b))) rfl AGi fun j s hj hJ=>?_) fun e he=>AUq (by rw [AUi];omega) (AGq ⟨hi',?_⟩))
  ·subst hJ;unfold Abr;dsimp only;rw [AUi,AUi];refine ATt (fun h2=>?_) (fun h2=>AGq ?_)
   ·have hj':j < c:=by omega
    refine ATu (ATx hj') rfl (ATu (AUc (hfn i hi')) rfl (ATu (ATx (hgn j hj')) rfl (AUq AGi (AGq ⟨hj',?_⟩))));rw [wk AGi,<- Ahf];rfl
   ·obtain rfl:j=c:=by omega
    rfl
  ·subst he;rw [wk AGi,<- Ahf];rfl
 ·obtain rfl:i=r:=by omega
  rfl
theorem Auk {fuel n:Nat} {F:AS5} (hn:1<=n) (Ad:n<=16) (hf:100 < fuel):AW6 fuel (tab n n F)=some ((n:Int),true):=by
 apply ok_eq;unfold AW6;refine AGw (Q:=(· =((n:Int),(n:Int),true))) ?_ fun e he=>?_
 ·unfold AVi;rw [AT8];refine AGw (Q:=fun ex=>match ex with | .inl _=>False | .inr _=>True) (ATt (fun h=>by omega) fun h=>ATt (fun h2=>by omega) fun h2=>AGq trivial) fun ex hex=>?_
  cases ex with
  | inl e=>exact hex.elim
  | inr u=>
    dsimp only
    refine AGw (AT9 (fun i (s:Int)=>s=i) n (Q:=fun ex=>match ex with | .inl _=>False | .inr _=>True) rfl AGi fun i s hi hI=>?_) fun ex hex=>?_
    · subst hI
      unfold AZh
      rw [AT8]
      refine ATt (fun h=>ATu (AUc AGi) rfl ?_) fun h=>AGq trivial
      rw [AUi]
      refine ATt (fun h2=>by omega) fun h2=>ATt (fun h3=>by omega) fun h3=>ATu (n:=0) (AUc AGi) rfl (ATt (fun h4=>?_) fun h4=>AGq ⟨AGi,wk AGi⟩)
      rw [AUi] at h4;omega
    · cases ex with
      | inl e=>exact hex.elim
      | inr u=>exact ATu (n:=0) (AUc AGi) rfl (AGq (by rw [AUi]))
 ·subst he;dsimp only;exact ATt (fun h=>by cases h) fun _=>ATt (fun h=>absurd rfl h) fun _=>AGq rfl
end Go.Proofs.YthbndcbclhkepaaGreatDoor
namespace Go.QF
def Ad8 (n:Nat) (A:AS5):Prop:= ∀ i j,i < n->j < n->A i j=A j i
def Afn (n:Nat) (A:AS5):Prop:= ∀ k,k<=n->0 < det k A
theorem Agw {k i r n:Nat} (hk:k<=n) (hi:i < n):bro k i r < n:=by unfold bro;split <;> omega
theorem Azx {n k:Nat} {A:AS5} (hs:Ad8 n A) (hk:k<=n) {i j:Nat} (hi:i < n) (hj:j < n):Mn k A i j=Mn k A j i:=by
 unfold Mn;rw [<- Afw];refine AUm fun r c _ _=>?_;exact hs _ _ (Agw hk hi) (Agw hk hj)
theorem Azy {k:Nat} (A:AS5) {i:Nat} (j:Nat) (hi:i < k):Mn k A i j=0:=by
 unfold Mn;refine Af5 (a:=i) (b:=k) AGi AGi AGi ?_;funext c;unfold bro;simp [hi]
def bil (n k:Nat) (A:AS5) (x y:Nat->Int):Int:=psum (fun i=>psum (fun j=>Mn k A i j * x i * y j) n) n
def lin (n k:Nat) (A:AS5) (x:Nat->Int):Int:=psum (fun j=>Mn k A k j * x j) n
theorem A3f (f g:Nat->Int) (n:Nat):psum (fun i=>psum (fun j=>f i * g j) n) n=psum f n * psum g n:=by
 rw [AT0 (g:=fun i=>psum g n * f i) (fun i _=>by rw [AYa,Int.mul_comm]),AYa,Int.mul_comm]
theorem BEk {n k:Nat} {A:AS5} (hs:Ad8 n A) (hk:k < n) (h0:det k A≠0) (x y:Nat->Int):det (k + 1) A * bil n k A x y=lin n k A x * lin n k A y + det k A * bil n (k + 1) A x y:=by
 unfold bil;rw [<- AYa,<- AYa];have e1:lin n k A x * lin n k A y=psum (fun i=>psum (fun j=>Mn k A k i * x i * (Mn k A k j * y j)) n) n:=(A3f (fun i=>Mn k A k i * x i) (fun j=>Mn k A k j * y j) n).symm;rw [e1,<- Aey];refine AT0 fun i hi=>?_;rw [<- AYa,<- AYa,<- Aey];refine AT0 fun j hj=>?_;have h:=Anv (k:=k) (A:=A) h0 i j;rw [Acv,Azx hs AGi hi hk] at h;have h2:det (k + 1) A * Mn k A i j=Mn k A k i * Mn k A k j + det k A * Mn (k + 1) A i j:=by omega
 grind
theorem A9e (n:Nat) (A:AS5) (x y:Nat->Int):bil n n A x y=0:=by
 unfold bil;rw [AT0 (g:=fun _=>0) fun i hi=>?_]
 ·exact Aiu n
 ·rw [AT0 (g:=fun _=>0) fun j _=>by rw [Azy A j hi];simp];exact Aiu n
theorem Ajc {n:Nat} {A:AS5} (hs:Ad8 n A) (hp:Afn n A) (x:Nat->Int):∀ d k,k + d=n->0<=bil n k A x x:=by
 intro d
 induction d with
 | zero=>
     intro k hk;obtain rfl:k=n:=by omega
     rw [A9e];exact Int.le_refl _
 | succ d ih=>
   intro k hk
   have h1:=ih (k + 1) AGi
   have h2:=hp k AGi
   have h3:=hp (k + 1) AGi
   have h4:=BEk hs (show k < n by omega) AGi x x
   have h5:0<=lin n k A x * lin n k A x:=by
     rcases Int.le_total 0 (lin n k A x) with h | h
     · exact Int.mul_nonneg h h
     · exact Int.mul_nonneg_of_nonpos_of_nonpos h h
   have h6:=Int.mul_nonneg (Int.le_of_lt h2) h1
   exact Int.nonneg_of_mul_nonneg_right AGi h3
theorem Avt {n k:Nat} {A:AS5} (a b:Int) (x y z:Nat->Int):bil n k A (fun i=>a * x i + b * y i) z=a * bil n k A x z + b * bil n k A y z:=by
 unfold bil;rw [<- AYa,<- AYa,<- Aey];refine AT0 fun i _=>?_;rw [<- AYa,<- AYa,<- Aey];exact AT0 fun j _=>by grind
theorem Avu {n k:Nat} {A:AS5} (hs:Ad8 n A) (hk:k<=n) (x y:Nat->Int):bil n k A x y=bil n k A y x:=by
 unfold bil;rw [Aqd];refine AT0 fun j hj=>AT0 fun i hi=>?_;rw [Azx hs hk hi hj];grind
theorem A6d {n k:Nat} {A:AS5} (hs:Ad8 n A) (hp:Afn n A) (hk:k<=n) (x y:Nat->Int):bil n k A x y * bil n k A x y<=bil n k A x x * bil n k A y y:=by
  obtain ⟨p,hpq⟩:∃ p,bil n k A x y=p:=⟨_,rfl⟩;obtain ⟨q,hq⟩:∃ q,bil n k A x x=q:=⟨_,rfl⟩;obtain ⟨r,hr⟩:∃ r,bil n k A y y=r:=⟨_,rfl⟩;have hyx:bil n k A y x=p:=by rw [Avu hs hk];exact hpq
  have key:∀ a b:Int,0<=a * (a * q + b * p) + b * (a * p + b * r):=fun a b=>by
    have h:=Ajc hs hp (fun i=>a * x i + b * y i) (n - k) k AGi;rw [Avt,Avu hs hk x (fun i=>a * x i + b * y i),Avt,Avu hs hk y (fun i=>a * x i + b * y i),Avt,hpq,hq,hr,hyx] at h;exact h
  rw [hpq,hq,hr];have hq0:0<=q:=hq ▸ Ajc hs hp x (n - k) k AGi
  rcases Int.lt_or_eq_of_le hq0 with h | h
  · have h1:=key p (-q);have e:p * (p * q + -q * p) + -q * (p * p + -q * r)=q * (q * r - p * p):=by grind
    rw [e] at h1;have:=Int.nonneg_of_mul_nonneg_right h1 h;omega
  · subst h;have h1:=key (-(r + 1)) p;have h2:=key 1 0;have e: -(r + 1) * (-(r + 1) * 0 + p * p) + p * (-(r + 1) * p + p * r)= -((r + 2) * (p * p)):=by grind
    rw [e] at h1;have hr0:0<=r:=hr ▸ Ajc hs hp y (n - k) k AGi
    have hpp:0<=p * p:=by
      rcases Int.le_total 0 p with h | h
      · exact Int.mul_nonneg h h
      · exact Int.mul_nonneg_of_nonpos_of_nonpos h h
    have:0<=r * (p * p):=Int.mul_nonneg hr0 hpp;have e2:(r + 2) * (p * p)=r * (p * p) + 2 * (p * p):=by grind
    rw [Int.zero_mul];omega
theorem Api {n k:Nat} {A:AS5} {i j:Nat} (hi:i < n) (hj:j < n):bil n k A (dl i) (dl j)=Mn k A i j:=by
 unfold bil;rw [Ahk hi (fun a ha hne=>?_),Ahk hj (fun b hb hne=>?_)]
 ·simp [dl]
 ·unfold dl;rw [if_neg (fun h:j=b=>hne h.symm)];simp
 ·rw [AT0 (g:=fun _=>0) fun b _=>by unfold dl;rw [if_neg (fun h:i=a=>hne h.symm)];simp];exact Aiu n
theorem Aqk {n k:Nat} {A:AS5} (hs:Ad8 n A) (hp:Afn n A) (hk:k<=n) {i j:Nat} (hi:i < n) (hj:j < n):Mn k A i j * Mn k A i j<=Mn k A i i * Mn k A j j:=by
 have:=A6d hs hp hk (dl i) (dl j);rwa [Api hi hj,Api hi hi,Api hj hj] at this
theorem Aql {n k:Nat} {A:AS5} (hs:Ad8 n A) (hp:Afn n A) (hk:k<=n) {i:Nat} (hi:i < n):0<=Mn k A i i:=by
 have:=Ajc hs hp (dl i) (n - k) k AGi;rwa [Api hi hi] at this
theorem Avv {n k:Nat} {A:AS5} (hs:Ad8 n A) (hp:Afn n A) (hk:k < n) {i:Nat} (hi:i < n):det (k + 1) A * Mn k A i i=Mn k A i k * Mn k A i k + det k A * Mn (k + 1) A i i:=by
 have h:=Anv (k:=k) (A:=A) (by have:=hp k AGi;omega) i i;rw [Acv,<- Azx hs AGi hi hk] at h;omega
theorem A6e {n:Nat} {A:AS5} (hs:Ad8 n A) (hp:Afn n A) {i:Nat} (hi:i < n):∀ k,k<=n->Mn k A i i<=det k A * A i i:=by
 intro k
 induction k with
 | zero=>intro _;rw [Agt];simp [det]
 | succ k ih=>
   intro hk
   have h1:=ih AGi
   have h2:=Avv hs hp (show k < n by omega) hi
   have h3:0<=Mn k A i k * Mn k A i k:=by
     rcases Int.le_total 0 (Mn k A i k) with h | h
     · exact Int.mul_nonneg h h
     · exact Int.mul_nonneg_of_nonpos_of_nonpos h h
   have h4:=hp k AGi
   have h5:=hp (k + 1) AGi
   have h6:det (k + 1) A * Mn k A i i<=det (k + 1) A * (det k A * A i i):=Int.mul_le_mul_of_nonneg_left h1 AGi
   have h7:det k A * Mn (k + 1) A i i<=det k A * (det (k + 1) A * A i i):=by
     have e:det (k + 1) A * (det k A * A i i)=det k A * (det (k + 1) A * A i i):=by grind
     omega
   exact Int.le_of_mul_le_mul_left h7 h4
theorem A6f {n:Nat} {A:AS5} (hs:Ad8 n A) (hp:Afn n A) {B:Int} (hB:1<=B) (hA:∀ i,i < n->A i i<=B):∀ k,k<=n->det k A<=B ^ k:=by
  intro k;induction k with
  | zero=>intro _;simp [det]
  | succ k ih=>
    intro hk;have h1:=ih AGi;have h2:=A6e hs hp (show k < n by omega) k AGi;rw [Acv] at h2;have h3:=hp k AGi;have h4:det k A * A k k<=det k A * B:=Int.mul_le_mul_of_nonneg_left (hA k AGi) AGi;have h5:det k A * B<=B ^ k * B:=Int.mul_le_mul_of_nonneg_right h1 AGi;rw [Int.pow_succ];omega
theorem A9f {n:Nat} {A:AS5} (hs:Ad8 n A) (hp:Afn n A) (x:Nat->Int) {k:Nat} (hk:k < n):x k * x k<=As1 n A k k * bil n 0 A x x:=by
  have hd:=hp n (Nat.le_refl _)
  have hB:∀ y z:Nat->Int,bil n 0 A y z=psum (fun i=>y i * psum (fun j=>A i j * z j) n) n:=fun y z=>by
    unfold bil;refine AT0 fun i _=>?_;rw [<- AYa];exact AT0 fun j _=>by rw [Agt];grind
  have h1:∀ y:Nat->Int,bil n 0 A y (fun j=>As1 n A j k)=det n A * y k:=fun y=>by
    rw [hB,AT0 (g:=fun i=>y i * (det n A * dl i k)) (fun i hi=>by rw [A3e hi hk])];rw [Ahk hk (fun i _ hne=>by unfold dl;rw [if_neg hne];simp)];simp [dl,Int.mul_comm]
  have h2:=A6d hs hp (Nat.zero_le n) x (fun j=>As1 n A j k);rw [h1 x,h1 (fun j=>As1 n A j k)] at h2;have e1:det n A * x k * (det n A * x k)=det n A * (det n A * (x k * x k)):=by grind
  have e2:bil n 0 A x x * (det n A * As1 n A k k)=det n A * (As1 n A k k * bil n 0 A x x):=by grind
  rw [e1,e2] at h2;have h3:=Int.le_of_mul_le_mul_left h2 hd
  have h4:0<=x k * x k:=by
    rcases Int.le_total 0 (x k) with h | h
    · exact Int.mul_nonneg h h
    · exact Int.mul_nonneg_of_nonpos_of_nonpos h h
  have h5:1 * (x k * x k)<=det n A * (x k * x k):=Int.mul_le_mul_of_nonneg_right AGi h4;omega
def Aqm (A:AS5) (i j:Nat) (c:Int):AS5:=AUw A i fun s=>A i s + c * A j s
def A6g (A:AS5) (i j:Nat) (c:Int):AS5:=trF (Aqm (trF A) i j c)
def Apj (A:AS5) (i j:Nat) (c:Int):AS5:=A6g (Aqm A i j c) i j c
def swA (A:AS5) (j:Nat):AS5:=fun r s=>A (tau j r) (tau j s)
theorem A6i (l:Nat) (A:AS5) (r s:Nat):Mn l (trF A) s r=Mn l A r s:=by
 unfold Mn;rw [<- Afw];rfl
theorem Ax2 {A:AS5} {i j k:Nat} {c:Int} (hij:j < i):det k (Aqm A i j c)=det k A:=by
 rcases Nat.lt_or_ge i k with h | h
 ·exact Aez h AGi AGi c
 ·refine AUm fun r s hr _=>?_;unfold Aqm;rw [AT2,if_neg AGi]
theorem A6j {A:AS5} {i j k:Nat} {c:Int} (hij:j < i):det k (A6g A i j c)=det k A:=by
 unfold A6g;rw [Afw,Ax2 hij,Afw]
theorem Ahq {A:AS5} {i j k:Nat} {c:Int} (hij:j < i):det k (Apj A i j c)=det k A:=by
 unfold Apj;rw [A6j hij,Ax2 hij]
theorem Avw {A:AS5} {i j l r s:Nat} {c:Int} (hij:j < i) (hr:l<=r):Mn l (Aqm A i j c) r s=Mn l A r s + if l<=i/\r=i then c * Mn l A j s else 0:=by
 rcases Nat.lt_or_ge i l with h | h
 ·rw [if_neg AGi,Int.add_zero];unfold Mn;have e:=Aez (n:=l + 1) (F:=fun a b=>A (bro l r a) (bro l s b)) (a:=i) (b:=j) AGi AGi AGi c;rw [<- e];refine AUm fun a b ha _=>?_;rw [AT2];unfold Aqm;rw [AT2];have hbi:bro l r i=i:=by unfold bro;rw [if_pos h]
  have hbj:bro l r j=j:=by unfold bro;rw [if_pos AGi]
  by_cases ea:a=i
  ·subst ea;rw [hbi,if_pos rfl,if_pos rfl,hbj]
  ·rw [if_neg ea,if_neg];unfold bro;split <;> omega
 ·by_cases er:r=i
  ·subst er;rw [if_pos ⟨h,rfl⟩];unfold Mn;have e:=Al3 (n:=l + 1) (F:=fun a b=>A (bro l r a) (bro l s b)) (r:=l) (fun b=>A r (bro l s b)) (fun b=>A j (bro l s b)) 1 c AGi
   have e1:det (l + 1) (fun a b=>Aqm A r j c (bro l r a) (bro l s b))=det (l + 1) (AUw (fun a b=>A (bro l r a) (bro l s b)) l fun q=>1 * A r (bro l s q) + c * A j (bro l s q)):=by
     refine AUm fun a b ha _=>?_
     rw [AT2]
     unfold Aqm
     rw [AT2]
     by_cases ea:a=l
     · subst ea
       rw [show bro a r a=r by unfold bro;rw [if_neg AGi],if_pos rfl,if_pos rfl,Int.one_mul]
     · rw [if_neg ea,if_neg]
       unfold bro;rw [if_pos AGi];omega
   have e2:det (l + 1) (AUw (fun a b=>A (bro l r a) (bro l s b)) l fun b=>A r (bro l s b))=det (l + 1) (fun a b=>A (bro l r a) (bro l s b)):=by
     refine AUm fun a b ha _=>?_
     rw [AT2]
     by_cases ea:a=l
     · subst ea;rw [if_pos rfl,show bro a r a=r by unfold bro;rw [if_neg AGi]]
     · rw [if_neg ea]
   have e3:det (l + 1) (AUw (fun a b=>A (bro l r a) (bro l s b)) l fun b=>A j (bro l s b))=det (l + 1) (fun a b=>A (bro l j a) (bro l s b)):=by
     refine AUm fun a b ha _=>?_
     rw [AT2]
     by_cases ea:a=l
     · subst ea;rw [if_pos rfl,show bro a j a=j by unfold bro;rw [if_neg AGi]]
     · rw [if_neg ea,show bro l r a=a by unfold bro;rw [if_pos AGi],show bro l j a=a by unfold bro;rw [if_pos AGi]]
   rw [e1,e,e2,e3,Int.one_mul]
  ·rw [if_neg (fun h=>er h.2),Int.add_zero];unfold Mn;refine AUm fun a b ha _=>?_;unfold Aqm;rw [AT2,if_neg];unfold bro;split <;> omega
theorem A9g {A:AS5} {i j l r s:Nat} {c:Int} (hij:j < i) (hs:l<=s):Mn l (A6g A i j c) r s=Mn l A r s + if l<=i/\s=i then c * Mn l A r j else 0:=by
 unfold A6g;rw [A6i,Avw hij hs,A6i,A6i]
theorem A6k {A:AS5} {i j l r s:Nat} {c:Int} (hij:j < i) (hr:l<=r) (hs:l<=s):Mn l (Apj A i j c) r s=Mn l A r s + (if l<=i/\r=i then c * Mn l A j s else 0) + if l<=i/\s=i then c * (Mn l A r j + if l<=i/\r=i then c * Mn l A j j else 0) else 0:=by
  unfold Apj;rw [A9g hij hs,Avw hij hr,Avw hij hr]
theorem Arn (A:AS5) (i j:Nat) (c:Int) (r s:Nat):Apj A i j c r s=if s=i then (if r=i then A i i + c * A j i else A r i) + c * (if r=i then A i j + c * A j j else A r j) else if r=i then A i s + c * A j s else A r s:=by
 show AUw (trF (Aqm A i j c)) i (fun q=>trF (Aqm A i j c) i q + c * trF (Aqm A i j c) j q) s r=_;rw [AT2];unfold trF Aqm;by_cases h:s=i
 ·rw [if_pos h,if_pos h,AT2,AT2]
 ·rw [if_neg h,if_neg h,AT2]
theorem A9h {n:Nat} {A:AS5} {i j:Nat} {c:Int} (hi:i < n) (hj:j < n) (h:Ad8 n A):Ad8 n (Apj A i j c):=by
 intro r s hr hs;rw [Arn,Arn];by_cases h1:r=i
 ·by_cases h2:s=i
  ·rw [h1,h2]
  ·rw [if_neg h2,if_pos h1,if_pos h1,if_neg h2,if_neg h2,h i s hi hs,h j s hj hs]
 ·by_cases h2:s=i
  ·rw [if_pos h2,if_neg h1,if_neg h1,if_neg h1,if_pos h2,h r i hr hi,h r j hr hj]
  ·rw [if_neg h2,if_neg h1,if_neg h1,if_neg h2,h r s hr hs]
theorem A1h {A:AS5} {j k:Nat} (hk:k≠j + 1):det k (swA A j)=det k A:=by
 rcases Nat.lt_or_ge (j + 1) k with h | h
 ·have e1:det k (swA A j)= -det k (fun r s=>A (tau j r) s):=Ax0 (F:=fun r s=>A (tau j r) s) h
  have e2:det k (fun r s=>A (tau j r) s)= -det k A:=by
    rw [<- Afw (fun r s=>A (tau j r) s),<- Afw A]
    exact Ax0 (F:=trF A) h
  rw [e1,e2];omega
 ·refine AUm fun r s hr hs=>?_;unfold swA tau;rw [if_neg AGi,if_neg AGi,if_neg AGi,if_neg AGi]
theorem Ax3 {A:AS5} {j:Nat}:det (j + 1) (swA A j)=Mn j A (j + 1) (j + 1):=by
 unfold Mn;refine AUm fun r s hr hs=>?_
 have e:∀ r,r < j + 1->tau j r=bro j (j + 1) r:=fun r hr=>by
   unfold tau bro
   by_cases h:r < j
   · rw [if_neg AGi,if_neg AGi,if_pos h]
   · rw [if_pos AGi,if_neg h]
 unfold swA;rw [e r hr,e s hs]
theorem BB2 {n j:Nat} {A:AS5} (hj:j + 1 < n) (h:Ad8 n A):Ad8 n (swA A j):=fun r s hr hs=>by
  have e:∀ r,r < n->tau j r < n:=fun r hr=>by unfold tau;split <;> (try split) <;> omega
  exact h _ _ (e r hr) (e s hs)
theorem sq_nonneg (x:Int):0<=x * x:=by
 rcases Int.le_total 0 x with h | h
 ·exact Int.mul_nonneg h h
 ·exact Int.mul_nonneg_of_nonpos_of_nonpos h h
theorem Ax4 {x y:Int} (hy:0<=y) (h:x * x<=y * y): -y<=x/\x<=y:=by
 constructor
 ·rcases Int.lt_or_le x (-y) with h1 | h1
  ·have h2:0 < (-x - y) * (-x + y):=Int.mul_pos AGi AGi;have e:(-x - y) * (-x + y)=x * x - y * y:=by grind
   omega
  ·exact h1
 ·rcases Int.lt_or_le y x with h1 | h1
  ·have h2:0 < (x - y) * (x + y):=Int.mul_pos AGi AGi;have e:(x - y) * (x + y)=x * x - y * y:=by grind
   omega
  ·exact h1
theorem Ane {x y:Int} (h1: -y<=x) (h2:x<=y):x * x<=y * y:=by
 have h3:0<=(y - x) * (y + x):=Int.mul_nonneg AGi AGi;have e:(y - x) * (y + x)=y * y - x * x:=by grind
 omega
def SzF (A:AS5) (i j:Nat):Prop:= -(det (j + 1) A)<=2 * Mn j A i j/\2 * Mn j A i j<=det (j + 1) A
def LvF (A:AS5) (j:Nat):Prop:=3 * (det (j + 1) A * det (j + 1) A)<=4 * (det j A * det (j + 2) A + Mn j A (j + 1) j * Mn j A (j + 1) j)
def Azz (A:AS5) (i:Nat) (K:Int):Prop:= ∀ l,l < i-> -(K * det (l + 1) A)<=Mn l A i l/\Mn l A i l<=K * det (l + 1) A
theorem Aul {n i:Nat} {A:AS5} {Dm p q:Int} (hs:Ad8 n A) (hp:Afn n A) (hi:i < n) (hD:∀ k,k<=n->det k A<=Dm) (p0:0<=p) (q0:0<=q) (hl:∀ l,l < i->q * (Mn l A i l * Mn l A i l)<=p * (det (l + 1) A * det (l + 1) A)):∀ d l:Nat,l + d=i->q * Mn l A i i<=(q + d * p) * (Dm * det l A):=by
  have hD0:1<=Dm:=by
    have:=hD 0 AGi;simpa [det] using this
  have hDl:∀ l k,l<=n->k<=n->det k A<=Dm * det l A:=fun l k h1 h2=>by
    have:=hp l h1;have h3:=hD k h2;have h4:Dm * 1<=Dm * det l A:=Int.mul_le_mul_of_nonneg_left AGi AGi;omega
  intro d;induction d with
  | zero=>
    intro l h;obtain rfl:l=i:=by omega
    rw [Acv];have h1:=Int.mul_le_mul_of_nonneg_left (hDl l (l + 1) AGi AGi) q0;simpa using h1
  | succ d ih=>
    intro l h;have h1:=ih (l + 1) AGi;have h2:=Avv hs hp (show l < n by omega) hi;have h3:=hl l AGi;have h4:=hp l AGi;have h5:=hp (l + 1) AGi;have h6:=Int.mul_le_mul_of_nonneg_left h1 (Int.le_of_lt h4)
    have h7:det (l + 1) A * (q * Mn l A i i)=q * (Mn l A i l * Mn l A i l) + det l A * (q * Mn (l + 1) A i i):=by
      have e1:det (l + 1) A * (q * Mn l A i i)=q * (det (l + 1) A * Mn l A i i):=by grind
      rw [e1,h2];grind
    have h8:=Int.mul_le_mul_of_nonneg_left (hDl l (l + 1) AGi AGi) p0;have h9:=Int.mul_le_mul_of_nonneg_left h8 (Int.le_of_lt h5);have e2:det (l + 1) A * (p * det (l + 1) A)=p * (det (l + 1) A * det (l + 1) A):=by grind
    have h10:det (l + 1) A * (q * Mn l A i i)<=det (l + 1) A * ((q + ((d + 1:Nat):Int) * p) * (Dm * det l A)):=by
      have e3:det (l + 1) A * ((q + ((d + 1:Nat):Int) * p) * (Dm * det l A))=det (l + 1) A * (p * (Dm * det l A)) + det l A * ((q + (d:Int) * p) * (Dm * det (l + 1) A)):=by
        rw [Int.natCast_add,Int.natCast_one];grind
      rw [e3];omega
    exact Int.le_of_mul_le_mul_left h10 h5
theorem Ax6 {n i:Nat} {A:AS5} {Dm:Int} (hn:n<=8) (hs:Ad8 n A) (hp:Afn n A) (hi:i < n) (hD:∀ k,k<=n->det k A<=Dm) (hz:∀ l,l < i->SzF A i l):A i i<=3 * Dm:=by
 have h:=Aul hs hp hi hD (p:=1) (q:=4) AGi AGi (fun l hl=>by
   have:=Ane (hz l hl).1 (hz l hl).2
   have e:2 * Mn l A i l * (2 * Mn l A i l)=4 * (Mn l A i l * Mn l A i l):=by grind
   omega) i 0 AGi
 rw [Agt] at h
 have Aa:1<=Dm:=by
   have:=hD 0 AGi;simpa [det] using this
 have h2:(4 + (i:Int) * 1) * (Dm * det 0 A)<=12 * Dm:=by
   have:(4 + (i:Int) * 1) * Dm<=12 * Dm:=Int.mul_le_mul_of_nonneg_right AGi AGi
   simpa [det] using this
 omega
theorem A3g {n i:Nat} {A:AS5} {Dm:Int} (hs:Ad8 n A) (hp:Afn n A) (hi:i < n) (hD:∀ k,k<=n->det k A<=Dm) (hA:A i i<=3 * Dm):Azz A i (2 * Dm):=by
 intro l hl
 have Ad:1<=Dm:=by
   have:=hD 0 AGi;simpa [det] using this
 have h1:=Aqk hs hp (show l<=n by omega) hi (show l < n by omega);rw [Acv] at h1;have h2:=A6e hs hp hi l AGi;have h3:=hp l AGi;have h4:=hp (l + 1) AGi
 have h5:det l A * A i i<=Dm * (3 * Dm):=by
   have a1:=Int.mul_le_mul_of_nonneg_left hA (Int.le_of_lt h3)
   have a2:=Int.mul_le_mul_of_nonneg_right (hD l AGi) (show (0:Int)<=3 * Dm by omega)
   omega
 have h6:Mn l A i i * det (l + 1) A<=Dm * (3 * Dm) * det (l + 1) A:=Int.mul_le_mul_of_nonneg_right AGi AGi;have h7:Dm * (3 * Dm) * (det (l + 1) A * 1)<=Dm * (3 * Dm) * (det (l + 1) A * det (l + 1) A):=Int.mul_le_mul_of_nonneg_left (Int.mul_le_mul_of_nonneg_left AGi AGi) (Int.mul_nonneg AGi AGi);have h8:0<=Dm * Dm * (det (l + 1) A * det (l + 1) A):=Int.mul_nonneg (sq_nonneg _) (sq_nonneg _);have h9:2 * Dm * det (l + 1) A * (2 * Dm * det (l + 1) A)=Dm * (3 * Dm) * (det (l + 1) A * det (l + 1) A) + Dm * Dm * (det (l + 1) A * det (l + 1) A):=by grind
 rw [Int.mul_one] at h7;exact Ax4 (Int.mul_nonneg AGi AGi) AGi
theorem Ax7 {A:AS5} {i:Nat} {K K':Int} (hp:∀ l,l<=i->0 < det l A) (hK:K<=K') (h:Azz A i K):Azz A i K':=fun l hl=>by
  have h1:=h l hl
  have h2:=hp (l + 1) AGi
  have h3:=Int.mul_le_mul_of_nonneg_right hK (Int.le_of_lt h2)
  omega
theorem Ax8 {a d:Int} (hd:0 < d): -d<=2 * (a + -((2 * a + d) / (2 * d)) * d)/\2 * (a + -((2 * a + d) / (2 * d)) * d)<=d:=by
  have h1:=Int.mul_ediv_add_emod (2 * a + d) (2 * d);have h2:=Int.emod_nonneg (2 * a + d) (show 2 * d≠0 by omega);have h3:=Int.emod_lt_of_pos (2 * a + d) (show 0 < 2 * d by omega);generalize (2 * a + d) / (2 * d)=q at *
  generalize (2 * a + d) % (2 * d)=r at *
  have e:2 * (a + -q * d)=2 * a - 2 * d * q:=by grind
  omega
theorem A9i {a d K:Int} (hd:0 < d) (h1: -(K * d)<=a) (h2:a<=K * d): -K<= -((2 * a + d) / (2 * d))/\ -((2 * a + d) / (2 * d))<=K:=by
 have h:=Ax8 (a:=a) hd;generalize -((2 * a + d) / (2 * d))=c at *;constructor
 ·rcases Int.lt_or_le c (-K) with h3 | h3
  ·have h4:(c + K + 1) * d<=0:=by
     have:=Int.mul_nonneg (show 0<= -(c + K + 1) by omega) (Int.le_of_lt hd)
     have e: -(c + K + 1) * d= -((c + K + 1) * d):=by grind
     omega
   have e:(c + K + 1) * d=c * d + K * d + d:=by grind
   omega
  ·exact h3
 ·rcases Int.lt_or_le K c with h3 | h3
  ·have h4:=Int.mul_nonneg (show 0<=c - K - 1 by omega) (Int.le_of_lt hd);have e:(c - K - 1) * d=c * d - K * d - d:=by grind
   omega
  ·exact h3
theorem A1i {A:AS5} {i j l:Nat} {c:Int} (hij:j < i) (hl:l < i):Mn l (Apj A i j c) i l=Mn l A i l + c * Mn l A j l:=by
 rw [A6k hij AGi (Nat.le_refl _),if_pos ⟨AGi,rfl⟩,if_neg (fun h:l<=i/\l=i=>by omega)];omega
theorem Aum {A:AS5} {i j l r:Nat} {c:Int} (hij:j < i) (hr:r < i) (hl:l<=r):Mn l (Apj A i j c) r l=Mn l A r l:=by
 rw [A6k hij hl (Nat.le_refl _),if_neg (fun h:l<=i/\r=i=>by omega),if_neg (fun h:l<=i/\l=i=>by omega)];omega
theorem A6l {A:AS5} {i j:Nat} {K c:Int} (hij:j < i) (hp:∀ l,l<=i->0 < det l A) (hK:0<=K) (h:Azz A i K) (hz:∀ l,l < j->SzF A j l) (Ab: -K<=c) (Ac:c<=K):Azz (Apj A i j c) i (2 * K):=by
 intro l hl;rw [Ahq hij,A1i hij hl];have h1:=h l hl;have h2:=hp (l + 1) AGi
 have hm: -(det (l + 1) A)<=Mn l A j l/\Mn l A j l<=det (l + 1) A:=by
   rcases Nat.lt_trichotomy l j with h3 | h3 | h3
   · have:=hz l h3;unfold SzF at this;omega
   · subst h3;rw [Acv];omega
   · rw [Azy A l h3];omega
 have h3: -(K * det (l + 1) A)<=c * Mn l A j l/\c * Mn l A j l<=K * det (l + 1) A:=by
   refine Ax4 (Int.mul_nonneg hK (Int.le_of_lt h2)) ?_
   have a1:=Ane Ab Ac
   have a2:=Ane hm.1 hm.2
   have a3:c * c * (Mn l A j l * Mn l A j l)<=K * K * (det (l + 1) A * det (l + 1) A):=Int.mul_le_mul a1 a2 (sq_nonneg _) (sq_nonneg _)
   have e1:c * Mn l A j l * (c * Mn l A j l)=c * c * (Mn l A j l * Mn l A j l):=by grind
   have e2:K * det (l + 1) A * (K * det (l + 1) A)=K * K * (det (l + 1) A * det (l + 1) A):=by grind
   omega
 have e:2 * K * det (l + 1) A=K * det (l + 1) A + K * det (l + 1) A:=by grind
 omega
theorem A6m {A:AS5} {i j k:Nat} {c:Int} (hk:k≠i):Apj A i j c k k=A k k:=by
 rw [Arn,if_neg hk,if_neg hk]
structure Avx (n:Nat) (Dm:Int) (A:AS5) (i t:Nat):Prop where
  sym:Ad8 n A
  pos:Afn n A
  dm:∀ k,k<=n->det k A<=Dm
  hi:i < n
  ht:t<=i
  rows:∀ k,k < n->k≠i->A k k<=3 * Dm
  row:t=0->A i i<=3 * Dm
  lamb:Azz A i (2 ^ t * (2 * Dm))
  pre:∀ r l,l < r->r < i->SzF A r l
  prei:∀ l,l < i->i<=l + t->SzF A i l
  lov:∀ r,r + 1 < i->LvF A r
theorem As2 {n:Nat} {Dm:Int} {A:AS5} (hn:0 < n) (hs:Ad8 n A) (hp:Afn n A) (hD:∀ k,k<=n->det k A<=Dm) (hr:∀ k,k < n->A k k<=3 * Dm):Avx n Dm A 0 0:=
  ⟨hs,hp,hD,hn,Nat.le_refl _,fun k hk _=>hr k hk,fun _=>hr 0 hn,fun l hl=>by omega,fun r l h1 h2=>by omega,fun l hl=>by omega,fun r hr=>by omega⟩
theorem A6n {n i t:Nat} {Dm:Int} {A:AS5} (h:Avx n Dm A i t):1<=Dm:=by
 have:=h.dm 0 AGi;simpa [det] using this
theorem Anz {n i t:Nat} {Dm:Int} {A:AS5} (hn:n<=8) (h:Avx n Dm A i t) (hz:∀ l,l < i->SzF A i l):∀ k,k < n->A k k<=3 * Dm:=fun k hk=>by
  by_cases e:k=i
  · subst e;exact Ax6 hn h.sym h.pos h.hi h.dm hz
  · exact h.rows k hk e
theorem Apk (t:Nat):(0:Int) < 2 ^ t:=Int.pow_pos AGi
theorem Apl {s t:Nat} (h:s<=t):(2:Int) ^ s<=2 ^ t:=by
 have:=Nat.pow_le_pow_right (show 0 < 2 by omega) h;have e:∀ k:Nat,(2:Int) ^ k=((2 ^ k:Nat):Int):=fun k=>by simp
 rw [e,e];omega
theorem A3h {n i t i' j:Nat} {Dm:Int} {A:AS5} (hn:n<=8) (h:Avx n Dm A i t) (hi':i' < n) (hj:j < i') (hbad: ¬ SzF A i' j)
    (hz:∀ r l,l < r->r < i'->SzF A r l) (hzi:∀ l,l < i'->j < l->SzF A i' l) (hl:∀ r,r + 1 < i'->LvF A r):
    Avx n Dm (Apj A i' j (-((2 * Mn j A i' j + det (j + 1) A) / (2 * det (j + 1) A)))) i' (i' - j)/\i * 16 + t < i' * 16 + (i' - j):=by
  have hD1:=A6n h
  have hlt:i < i'∨i=i'/\t < i' - j:=by
    rcases Nat.lt_trichotomy i i' with h1 | h1 | h1
    · exact .inl h1
    · refine .inr ⟨h1,?_⟩
      rcases Nat.lt_or_ge t (i' - j) with h2 | h2
      · exact h2
      · subst h1;exact absurd (h.prei j hj AGi) hbad
    · exact absurd (h.pre i' j hj h1) hbad
  have hrows:∀ k,k < n->k≠i'->A k k<=3 * Dm:=fun k hk hne=>by
    rcases hlt with h1 | h1
    · exact Anz hn h (fun l hl=>hz i l hl h1) k hk
    · exact h.rows k hk AGi
  have hK0:0<=2 ^ (i' - j - 1) * (2 * Dm):=Int.mul_nonneg (Int.le_of_lt (Apk _)) AGi;have hp':∀ l,l<=i'->0 < det l A:=fun l hl=>h.pos l AGi
  have hlam:Azz A i' (2 ^ (i' - j - 1) * (2 * Dm)):=by
    rcases hlt with h1 | h1
    · refine Ax7 hp' ?_ (A3g h.sym h.pos hi' h.dm (Anz hn h (fun l hl=>hz i l hl h1) i' hi'));have:=Int.mul_le_mul_of_nonneg_right (Apl (Nat.zero_le (i' - j - 1))) (show (0:Int)<=2 * Dm by omega);simpa using this
    · obtain ⟨rfl,h1⟩:=h1;exact Ax7 hp' (Int.mul_le_mul_of_nonneg_right (Apl AGi) AGi) h.lamb
  have hd:=hp' (j + 1) AGi;obtain ⟨c1,c2⟩:=A9i hd (hlam j hj).1 (hlam j hj).2;have hrem:=Ax8 (a:=Mn j A i' j) hd;generalize hc: -((2 * Mn j A i' j + det (j + 1) A) / (2 * det (j + 1) A))=c at *
  refine ⟨⟨A9h hi' AGi h.sym,fun k hk=>by rw [Ahq hj];exact h.pos k hk,fun k hk=>by rw [Ahq hj];exact h.dm k hk,hi',AGi,fun k hk hne=>by rw [A6m hne];exact hrows k hk hne,fun h0=>by omega,?_,fun r l h1 h2=>?_,fun l h1 h2=>?_,fun r hr=>?_⟩,by have:=h.ht;have:=h.hi;omega⟩
  · have:=A6l hj hp' hK0 hlam (fun l hl=>hz j l hl hj) c1 c2
    have e:2 * (2 ^ (i' - j - 1) * (2 * Dm))=2 ^ (i' - j) * (2 * Dm):=by
      rw [show i' - j=i' - j - 1 + 1 by omega,Int.pow_succ];simp only [Nat.add_sub_cancel];grind
    rwa [e] at this
  · unfold SzF;rw [Ahq hj,Aum hj h2 AGi];exact hz r l h1 h2
  · unfold SzF;rw [Ahq hj,A1i hj h1]
    rcases Nat.lt_or_ge j l with h3 | h3
    · rw [Azy A l h3,Int.mul_zero,Int.add_zero];exact hzi l h1 h3
    · obtain rfl:l=j:=by omega
      rw [Acv];exact hrem
  · unfold LvF;rw [Ahq hj,Ahq hj,Ahq hj,Aum hj AGi AGi];exact hl r hr
def Ax9 (n:Nat) (A:AS5):Int:=psum (fun k=>det k A) (n + 1)
theorem A9j {f g:Nat->Int} {n k:Nat} (hk:k < n) (hne:∀ l,l≠k->f l=g l) (h:f k < g k):psum f n < psum g n:=by
 induction n with
 | zero=>omega
 | succ n ih=>
   simp only [psum]
   rcases Nat.lt_or_ge k n with h1 | h1
   · have:=ih h1;rw [hne n AGi];omega
   · obtain rfl:k=n:=by omega
     rw [AT0 (g:=g) fun i hi=>hne i AGi];omega
theorem A3i {n i t j:Nat} {Dm:Int} {A:AS5} (hn:n<=8) (h:Avx n Dm A i t) (hj:j + 1 < n) (hbad: ¬ LvF A j)
    (hz:∀ r l,l < r->r<=j + 1->SzF A r l) (hl:∀ r,r < j->LvF A r):
    Avx n Dm (swA A j) 0 0/\Ax9 n (swA A j) < Ax9 n A:=by
  have hij:i<=j + 1:=by
    rcases Nat.lt_or_ge (j + 1) i with h1 | h1
    · exact absurd (h.lov j h1) hbad
    · exact h1
  have hrest:=Anz hn h (fun l hl=>hz i l hl hij);have h1:=Avv h.sym h.pos (show j < n by omega) hj;have p0:=h.pos j AGi;have p1:=h.pos (j + 1) AGi;have p2:=h.pos (j + 2) AGi;rw [show Mn (j + 1) A (j + 1) (j + 1)=det (j + 2) A from Acv _ _] at h1
  have hlt:Mn j A (j + 1) (j + 1) < det (j + 1) A:=by
    unfold LvF at hbad
    have h2:det (j + 1) A * (4 * Mn j A (j + 1) (j + 1)) < det (j + 1) A * (3 * det (j + 1) A):=by
      have e1:det (j + 1) A * (4 * Mn j A (j + 1) (j + 1))=4 * (det (j + 1) A * Mn j A (j + 1) (j + 1)):=by grind
      have e2:det (j + 1) A * (3 * det (j + 1) A)=3 * (det (j + 1) A * det (j + 1) A):=by grind
      omega
    have:=Int.lt_of_mul_lt_mul_left h2 (Int.le_of_lt p1);omega
  have hpos:0 < Mn j A (j + 1) (j + 1):=by
    have h3:=sq_nonneg (Mn j A (j + 1) j);have h4:=Int.mul_pos p0 p2;exact Int.pos_of_mul_pos_right (a:=det (j + 1) A) AGi p1
  have hdet:∀ k,det k (swA A j)=if k=j + 1 then Mn j A (j + 1) (j + 1) else det k A:=fun k=>by
    by_cases e:k=j + 1
    · subst e;rw [if_pos rfl,Ax3]
    · rw [if_neg e,A1h e]
  refine ⟨As2 AGi (BB2 hj h.sym) (fun k hk=>?_) (fun k hk=>?_) (fun k hk=>?_),?_⟩
  · rw [hdet];split
    · exact hpos
    · exact h.pos k hk
  · rw [hdet];split
    · have:=h.dm (j + 1) AGi;omega
    · exact h.dm k hk
  · have e:tau j k < n:=by unfold tau;split <;> (try split) <;> omega
    exact hrest _ e
  · exact A9j (k:=j + 1) AGi (fun l hl=>by rw [hdet,if_neg hl]) (by rw [hdet,if_pos rfl];exact hlt)
end Go.QF
namespace Go.Proofs.YthbndcbclhkepaaGreatDoor
open Go Go.QF
theorem Avy (k m:Nat):AVs k (fun a=>((a:Nat):Int)) ++ [((m:Nat):Int)]=AVs (k + 1) fun a=>((bro k m a:Nat):Int):=by
 rw [<- Ahf,AUf (g:=fun a=>((bro k m a:Nat):Int)) fun a ha=>by unfold bro;rw [if_pos ha]];unfold bro;rw [if_neg AGi]
theorem A1j {fuel k m:Nat} (hk:k<=100) (hf:100 < fuel):AXo fuel (k:Int) (m:Int)=some (AVs (k + 1) fun a=>((bro k m a:Nat):Int)):=by
 apply ok_eq;unfold AXo;refine AGw (AT9 (fun i s=>s=(AVs i (fun a=>((a:Nat):Int)),((i:Nat):Int))/\i<=k) k (Q:=(· =AVs k fun a=>((a:Nat):Int))) ⟨rfl,Nat.zero_le _⟩ AGi fun i s hi hI=>?_) fun e he=>?_
 ·obtain ⟨rfl,hik⟩:=hI;unfold Acl;dsimp only;refine ATt (fun h=>AUq (by rw [AUi];omega) (AGq ⟨AGi,?_,AGi⟩)) (fun h=>AGq ?_)
  ·rw [wk AGi,Ahf i fun a=>((a:Nat):Int)];simp
  ·obtain rfl:i=k:=by omega
   rfl
 ·subst he;refine AUq (by rw [AUi];omega) (AGq ?_);exact Avy k m
theorem As3 {fuel n i j:Nat} {F:AS5} (hn:n<=8) (hi:i < n) (hj:j < n) (hb:∀ i j,i < n->j < n->(F i j).natAbs<=AZa) (hf:100 < fuel):AV7 fuel (tab n n F) (i:Int) (j:Int)=some (Mn j F i j):=by
 apply ok_eq;unfold AV7;refine AGw (AT9 (fun q s=>s=(AVs q (fun a=>((a:Nat):Int)),AVs q (fun a=>((a:Nat):Int)),((q:Nat):Int))/\q<=j) j (Q:=(· =(AVs j (fun a=>((a:Nat):Int)),AVs j fun a=>((a:Nat):Int)))) ⟨rfl,Nat.zero_le _⟩ AGi fun q s hq hI=>?_) fun e he=>?_
 ·obtain ⟨rfl,hqj⟩:=hI;unfold Abw;dsimp only;refine ATt (fun h=>AUq (by rw [AUi];omega) (AUq (by rw [AUi];omega) (AGq ⟨AGi,?_,AGi⟩))) (fun h=>AGq ?_)
  ·rw [wk AGi,Ahf q fun a=>((a:Nat):Int)];simp
  ·obtain rfl:q=j:=by omega
   rfl
 ·subst he;dsimp only;refine AUq (by rw [AUi];omega) (AUq (by rw [AUi];omega) ?_);rw [Avy,Avy];refine AGw (AUe (Ax1 (n:=n) AGi AGi hf (fun a ha=>Agw AGi hi) (fun a ha=>Agw AGi hj))) fun x hx=>?_;subst hx;refine AGw (AUe (Ape AGi (fun a b ha Aa=>hb _ _ (Agw AGi hi) (Agw AGi hj)) AGi)) fun y hy=>AGq hy
theorem An0 {fuel n k:Nat} {F:AS5} (hk:k<=n) (hn:n<=8):AU5 fuel (AVs n fun a=>det (a + 1) F) (k:Int)=some (det k F):=by
 apply ok_eq;unfold AU5;refine ATt (fun h=>?_) (fun h=>?_)
 ·obtain rfl:k=0:=by omega
  exact ⟨1,rfl,by simp [det]⟩
 ·obtain ⟨q,rfl⟩:∃ q,k=q + 1:=⟨k - 1,AGi⟩;refine ATu (n:=q) (ATx AGi) (by rw [wk AGi];omega) (AGq rfl)
theorem Aun {fuel n:Nat} {F:AS5} (Aa:1<=n) (hn:n<=8) (hb:∀ i j,i < n->j < n->(F i j).natAbs<=AZa) (hf:100 < fuel):AWs fuel (tab n n F)=some (AVs n fun a=>det (a + 1) F,true):=by
 apply ok_eq;unfold AWs;refine AGw (AUe (Auk Aa AGi hf)) fun x hx=>?_;subst hx;dsimp only;refine ATt (fun h=>absurd h AGk) (fun _=>AGw (AT9 (fun k s=>s=(AVs k (fun a=>det (a + 1) F),((k:Nat):Int))/\k<=n) n (Q:=(· =AVs n fun a=>det (a + 1) F)) ⟨rfl,Nat.zero_le _⟩ AGi fun k s hk hI=>?_) fun e he=>AGq (by rw [he]));obtain ⟨rfl,hkn⟩:=hI;unfold Abc;dsimp only;refine ATt (fun h=>?_) (fun h=>AGq ?_)
 ·have hk':k < n:=by omega
  refine AGw (AUe (A1j AGi hf)) fun r hr=>?_;subst hr;refine AGw (AUe (A1j AGi hf)) fun c hc=>?_;subst hc;refine AGw (AUe (Ax1 (n:=n) AGi AGi hf (fun a ha=>Agw AGi hk') (fun a ha=>Agw AGi hk'))) fun x hx=>?_;subst hx;refine AGw (AUe (Ape AGi (fun a b ha Ab=>hb _ _ (Agw AGi hk') (Agw AGi hk')) AGi)) fun y hy=>?_;subst hy;refine AUq (by rw [AUi];omega) (AGq ⟨AGi,?_,AGi⟩);rw [show (det (k + 1) fun a b=>F (bro k k a) (bro k k b))=det (k + 1) F from Acv k F,wk AGi,Ahf k fun a=>det (a + 1) F];simp
 ·obtain rfl:k=n:=by omega
  rfl
theorem Avz (a b:Int):Akx a b<=0↔a<=b:=by unfold Akx;split <;> (try split) <;> omega
theorem As4 {n j i l:Nat} {F:AS5} (hn:n<=8) (hi:i < n) (hl:l < n) (hj:j < n) (hb:∀ i j,i < n->j < n->(F i j).natAbs<=AZa):(Mn j F i l).natAbs<=dBd AZa 9:=by
 have e:Mn j F i l=Mn j (fun a b=>if a < n/\b < n then F a b else 0) i l:=by
   unfold Mn
   refine AUm fun a b ha Aa=>?_
   dsimp only
   rw [if_pos ⟨Agw AGi hi,Agw AGi hl⟩]
 rw [e];refine Nat.le_trans (Azs (m:=AZa) (fun a b=>?_) i l) (Ajb AGk AGi);split
 ·next h=>exact hb a b h.1 h.2
 ·exact Nat.zero_le _
theorem Anf {n k:Nat} {F:AS5} (hn:n<=8) (hk:k<=n) (hb:∀ i j,i < n->j < n->(F i j).natAbs<=AZa):(det k F).natAbs<=dBd AZa 9:=by
 rcases Nat.eq_zero_or_pos k with h | h
 ·subst h;simp only [det];decide
 ·obtain ⟨q,rfl⟩:∃ q,k=q + 1:=⟨k - 1,AGi⟩;rw [<- Acv q F];exact As4 hn AGi AGi AGi hb
theorem A9k {fuel n i j:Nat} {F:AS5} (hn:n<=8) (hi:i < n) (hj:j < n) (hb:∀ i j,i < n->j < n->(F i j).natAbs<=AZa) (hf:100 < fuel):AYz fuel (tab n n F) (AVs n fun a=>det (a + 1) F) (i:Int) (j:Int)=some (decide (2 * ((Mn j F i j).natAbs:Int)<=det (j + 1) F)):=by
 apply ok_eq;unfold AYz;refine AGw (Q:=(· =2)) ⟨2,if_pos AGi,rfl⟩ fun two h2=>?_;subst h2;refine AGw (AUe (As3 hn hi hj hb hf)) fun x hx=>?_;subst hx;refine AGw (AUe (a:=((Mn j F i j).natAbs:Int)) rfl) fun y hy=>?_;subst hy;refine AGw (AUe (Aqg A1e (show (2:Int).natAbs<=dBd AZa (8 + 1) by decide) (by rw [Int.natAbs_natCast];exact As4 hn hi hj hj hb))) fun w hw=>?_;subst hw;rw [wk AGi];refine AGw (AUe (An0 (k:=j + 1) AGi hn)) fun m hm=>?_;subst hm;refine AGw (AUe (a:=Akx (2 * ((Mn j F i j).natAbs:Int)) (det (j + 1) F)) rfl) fun c hc=>AGq ?_;subst hc;exact decide_eq_decide.2 (Avz _ _)
theorem A1k {F:AS5} {i j:Nat}:2 * ((Mn j F i j).natAbs:Int)<=det (j + 1) F↔SzF F i j:=by
 unfold SzF;omega
theorem psum_abs {f g:Nat->Int} {D:Nat}:∀ (n:Nat),(∀ a,a < n->(f a).natAbs<=D/\(g a).natAbs<=D)->(psum (fun a=>f a * g a) n).natAbs<=n * (D * D)
  | 0,_=>by simp [psum]
  | n + 1,h=>by
    have h1:=psum_abs n fun a ha=>h a AGi
    have h2:=Nat.mul_le_mul (h n AGi).1 (h n AGi).2
    rw [<- Int.natAbs_mul] at h2
    have e:(n + 1) * (D * D)=n * (D * D) + D * D:=by rw [Nat.add_mul,Nat.one_mul]
    simp only [psum]
    omega
theorem BDx {fuel n D:Nat} {f g:Nat->Int} (hn:n<=16) (hD:16 * (D * D) < AW5) (hb:∀ a,a < n->(f a).natAbs<=D/\(g a).natAbs<=D) (hf:100 < fuel):AZ7 fuel (AVs n f) (AVs n g)=some (psum (fun a=>f a * g a) n):=by
 apply ok_eq;unfold AZ7;refine AGw (AT9 (fun k s=>s=(((k:Nat):Int),psum (fun a=>f a * g a) k)/\k<=n) n (Q:=(· =psum (fun a=>f a * g a) n)) ⟨rfl,Nat.zero_le _⟩ AGi fun k s hk hI=>?_) fun e he=>AGq he;obtain ⟨rfl,hkn⟩:=hI;unfold Adw;dsimp only;rw [AUi];refine ATt (fun h=>?_) (fun h=>AGq ?_)
 ·have hk':k < n:=by omega
  have h1:=psum_abs k fun a ha=>hb a AGi;have h2:=Nat.mul_le_mul (hb k hk').1 (hb k hk').2;have h3:k * (D * D)<=16 * (D * D):=Nat.mul_le_mul_right _ AGi;have h4:1 * (D * D)<=16 * (D * D):=Nat.mul_le_mul_right _ AGi;refine ATu (ATx hk') rfl (ATu (ATx hk') rfl (AGw (Q:=(· =f k * g k)) ⟨_,if_pos AGi,rfl⟩ fun x hx=>?_));subst hx;refine AGw (Q:=(· =psum (fun a=>f a * g a) k + f k * g k)) ⟨_,if_pos ⟨AGi,by rw [Int.natAbs_mul];omega⟩,rfl⟩ fun y hy=>AGq ⟨AGi,?_,AGi⟩;subst hy;rw [wk AGi];simp [psum]
 ·obtain rfl:k=n:=by omega
  rfl
theorem As5 {fuel n:Nat} {F:AS5} (hn:1<=n) (Ad:n<=16) (hf:100 < fuel):AVi fuel (tab n n F)=some ((n:Int),(n:Int),true):=by
 apply ok_eq;unfold AVi;rw [AT8];refine AGw (Q:=fun ex=>match ex with | .inl _=>False | .inr _=>True) (ATt (fun h=>by omega) fun h=>ATt (fun h2=>by omega) fun h2=>AGq trivial) fun ex hex=>?_
 cases ex with
 | inl e=>exact hex.elim
 | inr u=>
   dsimp only
   refine AGw (AT9 (fun i (s:Int)=>s=i) n (Q:=fun ex=>match ex with | .inl _=>False | .inr _=>True) rfl AGi fun i s hi hI=>?_) fun ex hex=>?_
   · subst hI
     unfold AZh
     rw [AT8]
     refine ATt (fun h=>ATu (AUc AGi) rfl ?_) fun h=>AGq trivial
     rw [AUi]
     refine ATt (fun h2=>by omega) fun h2=>ATt (fun h3=>by omega) fun h3=>ATu (n:=0) (AUc AGi) rfl (ATt (fun h4=>?_) fun h4=>AGq ⟨AGi,wk AGi⟩)
     rw [AUi] at h4;omega
   · cases ex with
     | inl e=>exact hex.elim
     | inr u=>exact ATu (n:=0) (AUc AGi) rfl (AGq (by rw [AUi]))
theorem Agx {r c:Nat} {F G:AS5} (h:∀ i j,i < r->j < c->F i j=G i j):tab r c F=tab r c G:=by
 rw [Ahw,Ahw];exact AUf fun i hi=>AUf fun j hj=>h i j hi hj
def trS (F:AS5) (i j r c:Nat):Int:=if c < i∨c=i/\r < j then F c r else 0
theorem A1l {fuel n:Nat} {F:AS5} (hn:1<=n) (Ad:n<=16) (hf:100 < fuel):AV2 fuel (tab n n F)=some (tab n n (trF F),true):=by
 apply ok_eq;unfold AV2;refine AGw (AUe (As5 hn Ad hf)) fun x hx=>?_;subst hx;dsimp only;refine ATt (fun h=>absurd h AGk) fun _=>AGw (AUe (Ari AGi AGi AGi)) fun O hO=>?_;subst hO;refine AGw (AT9 (fun i s=>s=(((i:Nat):Int),tab n n (trS F i 0))/\i<=n) n (Q:=(· =tab n n (trF F))) ⟨?_,Nat.zero_le _⟩ AGi fun i s hi hI=>?_) fun e he=>AGq (by rw [he])
 ·rw [AY1 n (0:Int),AY1];refine congrArg (Prod.mk (0:Int)) ?_;rw [Ahw];exact AUf fun r _=>AUf fun c _=>by unfold trS;rw [if_neg AGi]
 ·obtain ⟨rfl,hin⟩:=hI;unfold AZ0;dsimp only;rw [AT8];refine ATt (fun h=>?_) (fun h=>AGq ?_)
  ·have hi':i < n:=by omega
   refine ATu (AUc hi') rfl (AGw (AT9 (fun j s=>s=(((j:Nat):Int),tab n n (trS F i j))/\j<=n) n (Q:=(· =tab n n (trS F (i + 1) 0))) ⟨rfl,Nat.zero_le _⟩ AGi fun j s hj hJ=>?_) fun e he=>AGq ⟨AGi,by rw [wk AGi,he];simp,AGi⟩);obtain ⟨rfl,hjn⟩:=hJ;unfold AZz;dsimp only;rw [AUi];refine ATt (fun h2=>?_) (fun h2=>AGq ?_)
   ·have hj':j < n:=by omega
    refine ATu (AUc hj') rfl (ATu (AUc hi') rfl (ATu (ATx hj') rfl (AGw (AUe (a:=F i j) rfl) fun y hy=>ATu (ATx hi') rfl (AGq ⟨AGi,?_,AGi⟩))));subst hy;rw [wk AGi,Ast];refine Prod.ext (by dsimp only;omega) (Agx fun r c hr hc=>?_);rw [AT2];unfold trS;by_cases h3:r=j
    ·rw [if_pos h3];by_cases h4:c=i
     ·rw [if_pos h4,if_pos AGi,h3,h4]
     ·rw [if_neg h4];by_cases h5:c < i
      ·rw [if_pos AGi,if_pos AGi,h3]
      ·rw [if_neg AGi,if_neg AGi]
    ·rw [if_neg h3];by_cases h5:c < i∨c=i/\r < j
     ·rw [if_pos h5,if_pos AGi]
     ·rw [if_neg h5,if_neg AGi]
   ·refine Agx fun r c hr hc=>?_;unfold trS;by_cases h5:c < i + 1
    ·rw [if_pos AGi,if_pos AGi]
    ·rw [if_neg AGi,if_neg AGi]
  ·refine Agx fun r c hr hc=>?_;unfold trS trF;rw [if_pos AGi]
def muS (H:AS5) (i j r c:Nat):Int:=if r < i∨r=i/\c < j then H r c else 0
theorem A6o {fuel n D:Nat} {F G:AS5} (hn:1<=n) (Ab:n<=16) (hD:16 * (D * D) < AW5) (hF:∀ i j,i < n->j < n->(F i j).natAbs<=D) (hG:∀ i j,i < n->j < n->(G i j).natAbs<=D) (hf:100 < fuel):AZ8 fuel (tab n n F) (tab n n G)=some (tab n n (AVk n F G),true):=by
 apply ok_eq;unfold AZ8;refine AGw (AUe (As5 hn Ab hf)) fun x hx=>?_;subst hx;dsimp only;refine AGw (AUe (A1l hn Ab hf)) fun x hx=>?_;subst hx;dsimp only;rw [AT8,AT8];refine AGw (Q:=fun ex=>match ex with | .inl _=>False | .inr _=>True) (ATt (fun h=>absurd h AGk) fun _=>ATt (fun h=>absurd h AGk) fun _=>ATt (fun h=>absurd rfl h) fun _=>AGq trivial) fun ex hex=>?_
 cases ex with
 | inl e=>exact hex.elim
 | inr u=>
   dsimp only
   rw [AT8]
   refine AGw (AUe (Ari AGi AGi AGi)) fun O hO=>?_
   subst hO
   refine AGw (AT9 (fun i s=>s=(((i:Nat):Int),tab n n (muS (AVk n F G) i 0))/\i<=n) n (Q:=(· =tab n n (AVk n F G))) ⟨?_,Nat.zero_le _⟩ AGi fun i s hi hI=>?_) fun e he=>AGq (by rw [he])
   · rw [AY1 n (0:Int),AY1]
     refine congrArg (Prod.mk (0:Int)) ?_
     rw [Ahw]
     exact AUf fun r _=>AUf fun c _=>by unfold muS;rw [if_neg AGi]
   · obtain ⟨rfl,hin⟩:=hI
     unfold Ady
     dsimp only
     rw [AT8]
     refine ATt (fun h=>?_) (fun h=>AGq ?_)
     · have hi':i < n:=by omega
       refine AGw (AT9 (fun j s=>s=(((j:Nat):Int),tab n n (muS (AVk n F G) i j))/\j<=n) n (Q:=(· =tab n n (muS (AVk n F G) (i + 1) 0))) ⟨rfl,Nat.zero_le _⟩ AGi fun j s hj hJ=>?_) fun e he=>AGq ⟨AGi,by rw [wk AGi,he];simp,AGi⟩
       obtain ⟨rfl,hjn⟩:=hJ
       unfold Adx
       dsimp only
       rw [AT8]
       refine ATt (fun h2=>?_) (fun h2=>AGq ?_)
       · have hj':j < n:=by omega
         refine ATu (AUc hi') rfl (ATu (AUc hi') rfl (ATu (AUc hj') rfl (AGw (AUe (BDx (D:=D) Ab hD (fun a ha=>⟨hF i a hi' ha,hG a j ha hj'⟩) hf)) fun y hy=>ATu (ATx hj') rfl (AGq ⟨AGi,?_,AGi⟩))))
         subst hy
         rw [wk AGi,Ast]
         refine Prod.ext (by dsimp only;omega) (Agx fun r c hr hc=>?_)
         rw [AT2]
         unfold muS
         by_cases h3:r=i
         · rw [if_pos h3]
           by_cases h4:c=j
           · rw [if_pos h4,if_pos AGi,h3,h4];rfl
           · rw [if_neg h4]
             by_cases h5:c < j
             · rw [if_pos AGi,if_pos AGi,h3]
             · rw [if_neg AGi,if_neg AGi]
         · rw [if_neg h3]
           by_cases h5:r < i
           · rw [if_pos AGi,if_pos AGi]
           · rw [if_neg AGi,if_neg AGi]
       · refine Agx fun r c hr hc=>?_
         unfold muS
         by_cases h5:r < i + 1
         · rw [if_pos AGi,if_pos AGi]
         · rw [if_neg AGi,if_neg AGi]
     · refine Agx fun r c hr hc=>?_
       unfold muS
       rw [if_pos AGi]
theorem A1m (a b:Int):Akx a b=0↔a=b:=by unfold Akx;split <;> (try split) <;> omega
theorem BAq {fuel n:Nat} {F:AS5} (Ae:n<=16) (hf:100 < fuel):Ok (AV3 fuel (tab n n F)) fun r=>r=true↔Ad8 n F:=by
 unfold AV3;refine AGw (AT9 (fun i s=>s=((i:Nat):Int)/\i<=n/\ ∀ a b,b < a->a < i->F a b=F b a) n (Q:=fun ex=>match ex with | .inl e=>e=false/\¬ Ad8 n F | .inr _=>Ad8 n F) ⟨rfl,Nat.zero_le _,fun a b h1 h2=>by omega⟩ AGi fun i s hi hI=>?_) fun ex hex=>?_
 ·obtain ⟨rfl,hin,hs⟩:=hI;unfold AZ2;rw [AT8];refine ATt (fun h=>?_) (fun h=>AGq ?_)
  ·have hi':i < n:=by omega
   refine AGw (AT9 (fun j s=>s=((j:Nat):Int)/\j<=i/\ ∀ b,b < j->F i b=F b i) i (Q:=fun ex=>match ex with | .inl e=>e=false/\¬ Ad8 n F | .inr _=> ∀ b,b < i->F i b=F b i) ⟨rfl,Nat.zero_le _,fun b h1=>by omega⟩ AGi fun j s hj hJ=>?_) fun ex hex=>?_
   ·obtain ⟨rfl,hji,hb⟩:=hJ;unfold AZ1;refine ATt (fun h2=>?_) (fun h2=>AGq ?_)
    ·have hj':j < i:=by omega
     refine ATu (AUc hi') rfl (ATu (ATx AGi) rfl (ATu (AUc AGi) rfl (ATu (ATx hi') rfl (AGw (AUe (a:=Akx (F i j) (F j i)) rfl) fun c hc=>?_))));subst hc;refine ATt (fun h3=>AGq ⟨rfl,fun h4=>h3 ((A1m _ _).2 (h4 i j hi' AGi))⟩) (fun h3=>AGq ⟨AGi,by rw [wk AGi];simp,AGi,fun b Af=>?_⟩);rcases Nat.lt_or_ge b j with h4 | h4
     ·exact hb b h4
     ·obtain rfl:b=j:=by omega
      exact (A1m _ _).1 (Classical.not_not.1 h3)
    ·obtain rfl:j=i:=by omega
     exact hb
   ·cases ex with
    | inl e=>exact AGq hex
    | inr u=>exact AGq ⟨AGi,by rw [wk AGi];simp,AGi,fun a b h1 h2=>by
        rcases Nat.lt_or_ge a i with h4 | h4
        · exact hs a b h1 h4
        · obtain rfl:a=i:=by omega
          exact hex b h1⟩
  ·obtain rfl:i=n:=by omega
   intro a b ha hb;rcases Nat.lt_trichotomy a b with h1 | h1 | h1
   ·exact (hs b a h1 hb).symm
   ·rw [h1]
   ·exact hs a b h1 ha
 ·cases ex with
  | inl e=>obtain ⟨rfl,h⟩:=hex;exact AGq ⟨fun h1=>Bool.noConfusion h1,fun h1=>absurd h1 h⟩
  | inr u=>exact AGq ⟨fun _=>hex,fun _=>rfl⟩
theorem A9l {fuel n D:Nat} {F G:AS5} (hn:1<=n) (Aa:n<=16) (hD:16 * (D * D) < AW5) (hF:∀ i j,i < n->j < n->(F i j).natAbs<=D) (hG:∀ i j,i < n->j < n->(G i j).natAbs<=D) (hH:∀ i j,i < n->j < n->(AVk n (trF G) F i j).natAbs<=D) (hf:100 < fuel):AV4 fuel (tab n n F) (tab n n G)=some (tab n n (AVk n (AVk n (trF G) F) G)):=by
 apply ok_eq;unfold AV4;refine AGw (AUe (A1l hn Aa hf)) fun x hx=>?_;subst hx;dsimp only
 have pr:∀ {F G:AS5},(∀ i j,i < n->j < n->(F i j).natAbs<=D)->(∀ i j,i < n->j < n->(G i j).natAbs<=D)->Ok (AU4 fuel (tab n n F) (tab n n G)) (· =tab n n (AVk n F G)):=fun {F G} hF hG=>by
   unfold AU4
   refine AGw (AUe (A6o hn Aa hD hF hG hf)) fun x hx=>?_
   subst hx
   exact AGq rfl
 refine AGw (pr (fun i j hi hj=>hG j i hj hi) hF) fun x hx=>?_;subst hx;refine AGw (pr hH hG) fun y hy=>AGq hy
theorem A1n (a:Int):AYc a<=0↔a<=0:=by unfold AYc;split <;> (try split) <;> omega
theorem BDy {fuel n:Nat} {F:AS5} (Ae:1<=n) (hn:n<=8) (hb:∀ i j,i < n->j < n->(F i j).natAbs<=AZa) (hf:100 < fuel):Ok (AXt fuel (tab n n F)) fun r=>r=true↔Ad8 n F/\Afn n F:=by
 unfold AXt;refine AGw (AUe (Aun Ae hn hb hf)) fun x hx=>?_;subst hx;dsimp only;refine AGw (Q:=fun ex=>match ex with | .inl e=>e=false/\¬ Ad8 n F | .inr _=>Ad8 n F) (ATt (fun h=>absurd h AGk) fun _=>AGw (BAq AGi hf) fun r hr=>?_) fun ex hex=>?_
 ·refine ATt (fun h=>AGq ⟨rfl,fun h1=>?_⟩) (fun h=>AGq (hr.1 ?_))
  ·rw [hr.2 h1] at h;exact absurd h AGk
  ·cases r
   ·exact absurd rfl h
   ·rfl
 ·cases ex with
  | inl e=>obtain ⟨rfl,h⟩:=hex;exact AGq ⟨fun h1=>Bool.noConfusion h1,fun h1=>absurd h1.1 h⟩
  | inr u=>
    dsimp only at hex ⊢
    have h0:∀ k,k<=0->0 < det k F:=fun k hk=>by
      obtain rfl:k=0:=by omega
      simp [det]
    refine AGw (AT9 (fun i s=>s=((i:Nat):Int)/\i<=n/\ ∀ k,k<=i->0 < det k F) n (Q:=fun ex=>match ex with | .inl e=>e=false/\¬ Afn n F | .inr _=>Afn n F) ⟨rfl,Nat.zero_le _,h0⟩ AGi fun i s hi hI=>?_) fun ex Ad=>?_
    · obtain ⟨rfl,hin,hp⟩:=hI
      unfold Aah
      rw [AUi]
      refine ATt (fun h=>?_) (fun h=>AGq ?_)
      · have hi':i < n:=by omega
        refine ATu (ATx hi') rfl (AGw (AUe (a:=AYc (det (i + 1) F)) rfl) fun c hc=>?_)
        subst hc
        refine ATt (fun h3=>AGq ⟨rfl,fun h4=>?_⟩) (fun h3=>AGq ⟨AGi,by rw [wk AGi];simp,AGi,fun k hk=>?_⟩)
        · have:=h4 (i + 1) AGi;have:=(A1n _).1 h3;omega
        · rcases Nat.lt_or_ge k (i + 1) with h4 | h4
          · exact hp k AGi
          · obtain rfl:k=i + 1:=by omega
            rw [A1n] at h3;omega
      · obtain rfl:i=n:=by omega
        exact hp
    · cases ex with
      | inl e=>obtain ⟨rfl,h⟩:=Ad;exact AGq ⟨fun h1=>Bool.noConfusion h1,fun h1=>absurd h1.2 h⟩
      | inr u=>exact AGq ⟨fun _=>⟨hex,Ad⟩,fun _=>rfl⟩
theorem As6 {fuel n:Nat} {F:AS5} (Ac:1<=n) (hn:n<=8) (hb:∀ i j,i < n->j < n->(F i j).natAbs<=AZa) (hf:100 < fuel):Ok (AWd fuel (tab n n F)) fun r=>r=0↔Ad8 n F/\Afn n F:=by
 unfold AWd;refine AGw (AUe (Auk Ac AGi hf)) fun x hx=>?_;subst hx;dsimp only;refine ATt (fun h=>absurd h AGk) fun _=>ATt (fun h=>by omega) fun _=>AGw (BAq AGi hf) fun r hr=>ATt (fun h=>AGq ⟨fun h1=>by omega,fun h1=>?_⟩) fun h=>AGw (BDy Ac hn hb hf) fun q hq=>ATt (fun h2=>AGq ⟨fun h1=>by omega,fun h1=>?_⟩) fun h2=>AGq ⟨fun _=>hq.1 ?_,fun _=>rfl⟩
 ·rw [hr.2 h1.1] at h;exact absurd h AGk
 ·rw [hq.2 h1] at h2;exact absurd h2 AGk
 ·cases q
  ·exact absurd rfl h2
  ·rfl
theorem A9m {fuel n:Nat} {F:AS5} (hn:n<=8) (hb:∀ i j,i < n->j < n->(F i j).natAbs<=AZa) (hf:100 < fuel):AY0 fuel (tab n n F)=some (decide (det n F<=10000)):=by
 apply ok_eq;unfold AY0;refine AGw (AUe (Ape hn hb AGi)) fun x hx=>?_;subst hx;refine AGw (Q:=(· =10000)) ⟨10000,if_pos AGi,rfl⟩ fun y hy=>?_;subst hy;refine AGw (AUe (a:=Akx (det n F) 10000) rfl) fun c hc=>AGq ?_;subst hc;exact decide_eq_decide.2 (Avz _ _)
def idS (i r c:Nat):Int:=if r=c/\r < i then 1 else 0
theorem A1o {fuel n:Nat} (hn:1<=n) (Ae:n<=16) (hf:100 < fuel):AWc fuel (n:Int)=some (tab n n dl,true):=by
 apply ok_eq;unfold AWc;refine AGw (Q:=fun ex=>match ex with | .inl _=>False | .inr _=>True) (ATt (fun h=>by omega) fun _=>ATt (fun h=>by omega) fun _=>AGq trivial) fun ex hex=>?_
 cases ex with
 | inl e=>exact hex.elim
 | inr u=>
   dsimp only
   refine AGw (AUe (Ari AGi AGi AGi)) fun O hO=>?_
   have Ab:O=tab n n (idS 0):=by
     rw [hO,AY1 n (0:Int),AY1,Ahw]
     exact AUf fun r _=>AUf fun c _=>by unfold idS;rw [if_neg AGi]
   have hlen:O.length=n:=by rw [Ab,AT8]
   refine AGw (AT9 (fun i s=>s=(((i:Nat):Int),tab n n (idS i))/\i<=n) n (Q:=(· =tab n n dl)) ⟨by rw [Ab];rfl,Nat.zero_le _⟩ AGi fun i s hi hI=>?_) fun e he=>AGq (by rw [he])
   obtain ⟨rfl,hin⟩:=hI
   unfold Aag
   dsimp only
   rw [hlen]
   refine ATt (fun h=>?_) (fun h=>AGq ?_)
   · have hi':i < n:=by omega
     refine ATu (AUc hi') rfl (AGw (Q:=(· =1)) ⟨1,if_pos AGi,rfl⟩ fun y hy=>ATu (ATx hi') rfl (AGq ⟨AGi,?_,AGi⟩))
     subst hy
     rw [wk AGi,Ast]
     refine Prod.ext (by dsimp only;omega) (Agx fun r c hr hc=>?_)
     rw [AT2]
     unfold idS
     by_cases h3:r=i
     · rw [if_pos h3]
       by_cases h4:c=i
       · rw [if_pos h4,if_pos AGi]
       · rw [if_neg h4,if_neg AGi,if_neg AGi]
     · rw [if_neg h3]
       by_cases h5:r=c/\r < i
       · rw [if_pos h5,if_pos AGi]
       · rw [if_neg h5,if_neg AGi]
   · refine Agx fun r c hr hc=>?_
     unfold idS dl
     by_cases h5:r=c
     · rw [if_pos AGi,if_pos h5]
     · rw [if_neg AGi,if_neg h5]
def toS (n:Nat) (F:AS5) (i:Nat):List (List Int):=AVs n fun r=>if r < i then AVs n (F r) else []
def toR (n:Nat) (F:AS5) (i j:Nat):List (List Int):=AVs n fun r=>if r < i then AVs n (F r) else if r=i then AVs n (fun c=>if c < j then F i c else 0) else []
theorem BD0 {fuel n:Nat} {F:AS5} (hn:1<=n) (Ae:n<=16) (hb:∀ i j,i < n->j < n->(F i j).natAbs < 9223372036854775808) (hf:100 < fuel):AYi fuel (tab n n F)=some (tab n n F,true):=by
 apply ok_eq;unfold AYi;refine AGw (AUe (As5 hn Ae hf)) fun x hx=>?_;subst hx;dsimp only;refine ATt (fun h=>absurd h AGk) fun _=>AUq AGi (AGw (AT9 (fun i s=>s=(((i:Nat):Int),toS n F i)/\i<=n) n (Q:=fun ex=>match ex with | .inl _=>False | .inr e=>e=tab n n F) ⟨?_,Nat.zero_le _⟩ AGi fun i s hi hI=>?_) fun ex hex=>?_)
 ·rw [Int.toNat_natCast,AY1];exact congrArg (Prod.mk (0:Int)) (AUf fun r _=>by rw [if_neg AGi])
 ·obtain ⟨rfl,hin⟩:=hI;unfold Abv;dsimp only;rw [List.length_replicate,Int.toNat_natCast];refine ATt (fun h=>AUq AGi ?_) (fun h=>AGq ?_)
  ·have hi':i < n:=by omega
   have e0:sI (toS n F i) (i:Int) (List.replicate n (0:Int))=toR n F i 0:=by
     rw [AU2];unfold toS;rw [AXv]
     refine AUf fun r _=>?_
     by_cases h1:r=i
     · rw [if_pos h1,if_neg AGi,if_pos h1,AY1];exact AUf fun c _=>by rw [if_neg AGi]
     · rw [if_neg h1]
       by_cases h2:r < i
       · rw [if_pos h2,if_pos h2]
       · rw [if_neg h2,if_neg h2,if_neg h1]
   refine ATu (n:=i) (ATx hi') rfl ?_;rw [e0];refine ATu (n:=i) (ATx hi') rfl ?_;rw [if_neg AGi,if_pos rfl];refine AGw (AT9 (fun j s=>s=(((j:Nat):Int),toR n F i j)/\j<=n) n (Q:=fun ex=>match ex with | .inl _=>False | .inr e=>e=toS n F (i + 1)) ⟨rfl,Nat.zero_le _⟩ AGi fun j s hj hJ=>?_) fun ex hex=>?_
   ·obtain ⟨rfl,hjn⟩:=hJ;unfold Abu;dsimp only;rw [AUi];refine ATt (fun h2=>?_) (fun h2=>AGq ?_)
    ·have hj':j < n:=by omega
     refine ATu (AUc hi') rfl (ATu (ATx hj') rfl (AGw (Q:=(· =(F i j,true))) ⟨_,if_pos (hb i j hi' hj'),rfl⟩ fun y hy=>?_));subst hy;dsimp only;refine ATt (fun h=>absurd h AGk) fun _=>ATu (n:=i) (ATx hi') rfl ?_;rw [if_neg AGi,if_pos rfl];refine ATu (ATx hj') rfl (AGq ⟨AGi,?_,AGi⟩);rw [wk AGi,AU2,AU2];refine Prod.ext (by dsimp only;omega) ?_;dsimp only;unfold toR;rw [AXv,AXv];refine AUf fun r _=>?_;by_cases h1:r=i
     ·rw [if_pos h1,if_neg AGi,if_pos h1];refine AUf fun c _=>?_;by_cases h3:c=j
      ·rw [if_pos h3,if_pos AGi,h3]
      ·rw [if_neg h3];by_cases h4:c < j
       ·rw [if_pos h4,if_pos AGi]
       ·rw [if_neg h4,if_neg AGi]
     ·rw [if_neg h1,if_neg h1,if_neg h1]
    ·refine AUf fun r _=>?_;by_cases h1:r < i
     ·rw [if_pos h1,if_pos AGi]
     ·rw [if_neg h1];by_cases h3:r=i
      ·rw [if_pos h3,if_pos AGi,h3];exact AUf fun c hc=>by rw [if_pos AGi]
      ·rw [if_neg h3,if_neg AGi]
   ·cases ex with
    | inl e=>exact hex.elim
    | inr e=>exact AGq ⟨AGi,by rw [wk AGi,hex];simp,AGi⟩
  ·refine AUf fun r hr=>?_;rw [if_pos AGi];rfl
 ·cases ex with
  | inl e=>exact hex.elim
  | inr e=>exact AGq (by rw [hex])
theorem Ang {S E:Type} {body:S->Option (S ⊕ E)} {Q:E->Prop} (I:S->Prop) (μ:S->Nat) (hs:∀ s,I s->Ok (body s) fun r=>match r with | .inl s'=>I s'/\μ s' < μ s | .inr e=>Q e):∀ {fuel:Nat} {s0:S},I s0->μ s0 < fuel->Ok (iter body fuel s0) Q:=by
  intro fuel;induction fuel with
  | zero=>intro s0 _ h;omega
  | succ f ih=>
    intro s0 h0 hf;obtain ⟨r,hr,hq⟩:=hs s0 h0;cases r with
    | inl s'=>
      obtain ⟨e,he,hQ⟩:=ih hq.1 (by have:=hq.2;omega);exact ⟨e,by simp [iter,hr,he],hQ⟩
    | inr e=>exact ⟨e,by simp [iter,hr],hq⟩
theorem Aiq (a:Int):AYc a=0↔a=0:=by unfold AYc;split <;> (try split) <;> omega
theorem A1p (a:Int):AYc a < 0↔a < 0:=by unfold AYc;split <;> (try split) <;> omega
theorem A6p {fuel:Nat} {a b:Int} (ha:a.natAbs < AW5) (hb:b.natAbs < AW5) (h0:b≠0):AVw fuel a b=some (a / b):=by
 apply ok_eq;unfold AVw;refine AGw (AUe (a:=(a / b,a % b,true)) (if_pos ⟨ha,hb,h0⟩)) fun x hx=>?_;subst hx;exact AGq rfl
theorem BD1 {fuel:Nat} {a b:Int} (ha:a.natAbs < AW5) (hb:b.natAbs < AW5) (h0:b≠0):AZ6 fuel a b=some (a % b):=by
 apply ok_eq;unfold AZ6;refine AGw (AUe (a:=(a / b,a % b,true)) (if_pos ⟨ha,hb,h0⟩)) fun x hx=>?_;subst hx;exact AGq rfl
theorem BD2 {fuel:Nat} {a b:Int} (ha:a.natAbs < AW5) (hb:b.natAbs < AW5) (h0:b≠0) (hf:AW5 < fuel):Ok (Aaa fuel a b) fun g=>0 < g/\g ∣ a/\g ∣ b:=by
 unfold Aaa;refine AGw (AUe (a:=(a.natAbs:Int)) rfl) fun x hx=>AGw (AUe (a:=(b.natAbs:Int)) rfl) fun y hy=>?_;subst hx;subst hy;refine AGw (Ang (fun s:Int × Int=>0<=s.1/\0<=s.2/\s.1.natAbs < AW5/\s.2.natAbs < AW5/\(0 < s.1∨0 < s.2)/\ ∀ d:Int,d ∣ s.1->d ∣ s.2->d ∣ a/\d ∣ b) (fun s=>s.2.natAbs) (Q:=fun g=>0 < g/\g ∣ a/\g ∣ b) (fun s hs=>?_) ⟨AGi,AGi,AGi,AGi,.inr AGi,fun d h1 h2=>⟨Int.dvd_natAbs.1 h1,Int.dvd_natAbs.1 h2⟩⟩ (by dsimp only;omega)) fun g hg=>AGq hg;obtain ⟨u,v⟩:=s;obtain ⟨h1,h2,h3,h4,h5,h6⟩:=hs;unfold Adz;dsimp only at h1 h2 h3 h4 h5 h6 ⊢;refine AGw (AUe (a:=AYc v) rfl) fun s hs=>?_;subst hs;refine ATt (fun hv=>?_) fun hv=>AGq ?_
 ·have Ab:v≠0:=fun h=>hv ((Aiq v).2 h);refine AGw (AUe (BD1 h3 h4 Ab)) fun r hr=>AGq ?_;subst hr;have e1:=Int.emod_nonneg u Ab;have e2:=Int.emod_lt_of_pos u (show 0 < v by omega);refine ⟨⟨h2,e1,h4,AGi,.inl AGi,fun d d1 d2=>h6 d ?_ d1⟩,AGi⟩;have:=Int.dvd_add d2 (Int.dvd_trans d1 ⟨u / v,rfl⟩);rwa [Int.emod_add_mul_ediv] at this
 ·have Ab:v=0:=by
    rcases Decidable.em (AYc v=0) with h | h
    · exact (Aiq v).1 h
    · exact absurd h hv
  subst Ab;exact ⟨AGi,h6 u (Int.dvd_refl u) ⟨0,ATv⟩⟩
def FrE (n d n' d':Int):Prop:=0 < d'/\n' * d=n * d'/\n'.natAbs<=n.natAbs/\d'.natAbs<=d.natAbs
theorem BAr {fuel:Nat} {a b:Int} (ha:a.natAbs < AW5) (hb:b.natAbs < AW5) (h0:b≠0) (hf:AW5 < fuel):Ok (AYs fuel a b) fun r=>r.2=true/\FrE a b r.1.1 r.1.2:=by
 unfold AYs;refine AGw (AUe (a:=AYc b) rfl) fun s hs=>?_;subst hs;refine ATt (fun h=>absurd ((Aiq b).1 h) h0) fun _=>AGw (Q:=fun e:Int × Int=>0 < e.2/\e.1 * b=a * e.2/\e.1.natAbs=a.natAbs/\e.2.natAbs=b.natAbs) (AGw (AUe (a:=AYc b) rfl) fun s hs=>?_) fun e he=>?_
 ·subst hs;refine ATt (fun h=>?_) fun h=>AGq ⟨?_,rfl,rfl,rfl⟩
  ·have:=(A1p b).1 h;refine AGw (AUe (a:= -a) rfl) fun x hx=>AGw (AUe (a:= -b) rfl) fun y hy=>AGq ?_;subst hx;subst hy;exact ⟨by dsimp only;omega,by dsimp only;grind,by dsimp only;omega,by dsimp only;omega⟩
  ·have: ¬ b < 0:=fun h2=>h ((A1p b).2 h2);dsimp only;omega
 ·obtain ⟨u,v⟩:=e;obtain ⟨h1,h2,h3,h4⟩:=he;dsimp only at h1 h2 h3 h4 ⊢;refine AGw (BD2 (a:=u) (b:=v) AGi AGi AGi hf) fun g hg=>?_;obtain ⟨g1,⟨u',rfl⟩,⟨v',rfl⟩⟩:=hg;have gn:g≠0:=by omega
  have hv':0 < v':=Int.pos_of_mul_pos_right h1 g1;have e1:(g * u').natAbs=g.natAbs * u'.natAbs:=Int.natAbs_mul _ _;have e2:(g * v').natAbs=g.natAbs * v'.natAbs:=Int.natAbs_mul _ _;have g2:1<=g.natAbs:=by omega
  have m1:=Nat.mul_le_mul_right u'.natAbs g2;have m2:=Nat.mul_le_mul_right v'.natAbs g2;have m3:=Nat.mul_le_mul_left g.natAbs (show 1<=v'.natAbs by omega);refine AGw (AUe (A6p AGi AGi gn)) fun x hx=>AGw (AUe (A6p AGi AGi gn)) fun y hy=>AGq ⟨rfl,?_⟩;subst hx;subst hy;rw [Int.mul_ediv_cancel_left _ gn,Int.mul_ediv_cancel_left _ gn];refine ⟨hv',?_,by dsimp only;omega,by dsimp only;omega⟩;have:g * (u' * b)=g * (a * v'):=by grind
  exact Int.eq_of_mul_eq_mul_left gn this
theorem Av0 {fuel:Nat} {a b:Int} (ha:a.natAbs < AW5) (hb:b.natAbs < AW5) (h0:b≠0) (hf:AW5 < fuel):Ok (AU6 fuel a b) fun r=>FrE a b r.1 r.2:=by
 unfold AU6;refine AGw (BAr ha hb h0 hf) fun r hr=>?_;obtain ⟨⟨x,y⟩,c⟩:=r;obtain ⟨h1,h2⟩:=hr;dsimp only at h1 h2 ⊢;subst h1;exact ATt (fun h=>absurd h AGk) fun _=>AGq h2
theorem BB5 {fuel:Nat} {a b:Int} (ha:a.natAbs < AW5) (hb:b.natAbs < AW5) (h0:b≠0) (hf:AW5 < fuel):Ok (AXu fuel a b) fun r=>FrE a b r.1 r.2:=by
 unfold AXu;exact AGw (Av0 ha hb h0 hf) fun r hr=>AGq hr
theorem Aya {N D N' D':Int} (hD:0 < D) (hD':0 < D') (h:N * D'=N' * D):N / D=N' / D':=by
 rw [<- Int.mul_ediv_mul_of_pos_left N D hD',h,Int.mul_comm D D',Int.mul_ediv_mul_of_pos_left N' D' hD]
theorem BB6 {fuel:Nat} {a b:Int} (hab:4 * (a.natAbs + b.natAbs) < AW5) (h0:0 < b) (hf:AW5 < fuel):Ok (AX9 fuel a b) fun r=>r=(2 * a + b) / (2 * b):=by
 have Ag:(1:Int).natAbs < AW5:=by
   have:(1:Int).natAbs=1:=rfl
   omega
 have Ah:(2:Int).natAbs < AW5:=by
   have:(2:Int).natAbs=2:=rfl
   omega
 unfold AX9;refine AGw (Q:=(· =(1,2))) ?_ fun hh he=>?_
 ·unfold Ab9;exact AGw (Q:=(· =1)) ⟨1,if_pos AGi,rfl⟩ fun x hx=>AGw (Q:=(· =2)) ⟨2,if_pos AGi,rfl⟩ fun y hy=>AGq (by rw [hx,hy])
 subst he;dsimp only;refine AGw (Q:=fun r=>0 < r.2/\r.1 * (2 * b)=(2 * a + b) * r.2/\r.1.natAbs < AW5/\r.2.natAbs < AW5) ?_ fun r hr=>?_
 ·unfold Acu;refine AGw (Av0 AGi AGi AGi hf) fun x hx=>AGw (Av0 (a:=1) (b:=2) Ag Ah AGi hf) fun y hy=>?_;obtain ⟨x1,x2⟩:=x;obtain ⟨y1,y2⟩:=y;obtain ⟨a1,a2,a3,a4⟩:=hx;obtain ⟨b1,b2,b3,b4⟩:=hy;dsimp only at *;obtain rfl:y2=2:=by omega
  obtain rfl:y1=1:=by omega
  refine AGw (AUe (a:=x1 * 2) (if_pos (by have:(2:Int).natAbs=2:=rfl;rw [this];omega))) fun u hu=>AGw (AUe (a:=1 * x2) (if_pos (by have:(1:Int).natAbs=1:=rfl;rw [this];omega))) fun v hv=>?_;subst hu;subst hv;refine AGw (AUe (a:=x1 * 2 + 1 * x2) (if_pos ⟨AGi,AGi⟩)) fun w hw=>AGw (AUe (a:=x2 * 2) (if_pos (by have:(2:Int).natAbs=2:=rfl;rw [this];omega))) fun z hz=>?_;subst hw;subst hz;refine AGw (BAr AGi AGi AGi hf) fun r hr=>AGq ?_;obtain ⟨⟨r1,r2⟩,c⟩:=r;obtain ⟨-,c1,c2,c3,c4⟩:=hr;dsimp only at *;refine ⟨c1,?_,AGi,AGi⟩;have h1:x2 * (r1 * (2 * b))=x2 * ((2 * a + b) * r2):=by grind
  exact Int.eq_of_mul_eq_mul_left (show x2≠0 by omega) h1
 ·obtain ⟨r1,r2⟩:=r;obtain ⟨h1,h2,h3,h4⟩:=hr;dsimp only at *;unfold Abg;refine AGw (Q:=fun r=>r=(2 * a + b) / (2 * b)) (AGw (Av0 h3 h4 AGi hf) fun x hx=>?_) fun z hz=>AGq hz;obtain ⟨x1,x2⟩:=x;obtain ⟨a1,a2,a3,a4⟩:=hx;dsimp only at *;refine AGw (AUe (A6p AGi AGi AGi)) fun q hq=>AGq ?_;subst hq;refine Aya a1 AGi ?_;have h5:r2 * (x1 * (2 * b))=r2 * ((2 * a + b) * x2):=by grind
  exact Int.eq_of_mul_eq_mul_left (show r2≠0 by omega) h5
end Go.Proofs.YthbndcbclhkepaaGreatDoor
namespace Go.Proofs.YthbndcbclhkepaaGreatDoor
open Go Go.QF
set_option maxRecDepth 100000
theorem Ayb:64 * (dBd AZa (8 + 1) * dBd AZa (8 + 1)) < AW5:=by decide
theorem A6q {fuel n j:Nat} {F:AS5} (hn:n<=8) (hj:j + 1 < n) (hb:∀ i j,i < n->j < n->(F i j).natAbs<=AZa) (hf:100 < fuel):Ok (AYj fuel (tab n n F) (AVs n fun a=>det (a + 1) F) ((j + 1:Nat):Int)) fun r=>r=true↔LvF F j:=by
 show Ok _ fun r:Bool=>r=true↔3 * (det (j + 1) F * det (j + 1) F)<=4 * (det j F * det (j + 2) F + Mn j F (j + 1) j * Mn j F (j + 1) j);unfold AYj;have w1:w64 (((j + 1:Nat):Int) - 1)=(j:Int):=by rw [wk AGi];omega
 have w2:w64 (((j + 1:Nat):Int) + 1)=((j + 2:Nat):Int):=by rw [wk AGi];omega
 rw [w1,w2];have hD:=Ayb;have bl:(Mn j F (j + 1) j).natAbs<=dBd AZa (8 + 1):=As4 hn AGi AGi AGi hb;have b0:(det j F).natAbs<=dBd AZa (8 + 1):=Anf hn AGi hb;have b1:(det (j + 1) F).natAbs<=dBd AZa (8 + 1):=Anf hn AGi hb;have b2:(det (j + 2) F).natAbs<=dBd AZa (8 + 1):=Anf hn AGi hb;have p1:=Nat.mul_le_mul b0 b2;have p2:=Nat.mul_le_mul bl bl;have p3:=Nat.mul_le_mul b1 b1;have e1:=Int.natAbs_mul (det j F) (det (j + 2) F);have e2:=Int.natAbs_mul (Mn j F (j + 1) j) (Mn j F (j + 1) j);have e3:=Int.natAbs_mul (det (j + 1) F) (det (j + 1) F);refine AGw (AUe (As3 hn AGi AGi hb hf)) fun l hl=>?_;subst hl;refine AGw (Q:=(· =4)) ⟨4,if_pos AGi,rfl⟩ fun x hx=>?_;subst hx;refine AGw (AUe (An0 AGi hn)) fun x hx=>AGw (AUe (An0 AGi hn)) fun y hy=>?_;subst hx;subst hy;refine AGw (AUe (a:=det j F * det (j + 2) F) (if_pos AGi)) fun x hx=>AGw (AUe (a:=Mn j F (j + 1) j * Mn j F (j + 1) j) (if_pos AGi)) fun y hy=>?_;subst hx;subst hy;generalize det j F * det (j + 2) F=P at *;generalize Mn j F (j + 1) j * Mn j F (j + 1) j=L at *;refine AGw (AUe (a:=P + L) (if_pos AGi)) fun x hx=>AGw (AUe (a:=4 * x) (if_pos (by have:(4:Int).natAbs=4:=rfl;rw [this];omega))) fun y hy=>?_;subst hx;subst hy;refine AGw (Q:=(· =3)) ⟨3,if_pos AGi,rfl⟩ fun x hx=>?_;subst hx;refine AGw (AUe (An0 AGi hn)) fun x hx=>AGw (AUe (An0 AGi hn)) fun y hy=>?_;subst hx;subst hy;refine AGw (AUe (a:=det (j + 1) F * det (j + 1) F) (if_pos AGi)) fun x hx=>?_;subst hx;generalize det (j + 1) F * det (j + 1) F=S at *;refine AGw (AUe (a:=3 * S) (if_pos (by have:(3:Int).natAbs=3:=rfl;rw [this];omega))) fun x hx=>AGw (AUe (a:=Akx (4 * (P + L)) x) rfl) fun c hc=>AGq ?_;subst hx;subst hc;rw [decide_eq_true_iff];unfold Akx;split <;> (try split) <;> omega
def Ak4 (A:AS5) (i j:Nat):Int:= -((2 * Mn j A i j + det (j + 1) A) / (2 * det (j + 1) A))
def Aoo (A:AS5) (i j:Nat):AS5:=AUw dl j fun q=>if q=i then Ak4 A i j else dl j q
def Apm (A:AS5) (i:Nat):Prop:= ∀ r l,l < r->r < i->SzF A r l
def Aqz (A:AS5) (i:Nat):Prop:= ∀ r,r + 1 < i->LvF A r
def A6r (n:Nat) (A:AS5) (r:List (List Int) × Bool):Prop:=
  (r=([],false)/\Apm A n/\Aqz A n)∨
  (∃ i j,j < i/\i < n/\¬ SzF A i j/\Apm A i/\(∀ l,l < i->j < l->SzF A i l)/\Aqz A i/\r=(tab n n (Aoo A i j),true))∨
  ∃ j,j + 1 < n/\¬ LvF A j/\Apm A (j + 2)/\Aqz A (j + 1)/\r=(tab n n (AX3 dl (j + 1) j),true)
theorem BB7 {fuel n:Nat} {A:AS5} (Ai:1<=n) (hn:n<=8) (hp:Afn n A) (hb:∀ i j,i < n->j < n->(A i j).natAbs<=AZa) (hf:AW5 < fuel):Ok (AZl fuel (tab n n A)) (A6r n A):=by
 have Ac:100 < fuel:=Nat.lt_of_le_of_lt AGk hf;have hD:=Ayb;unfold AZl;refine AGw (AUe (Aun Ai hn hb Ac)) fun x hx=>?_;subst hx;dsimp only;rw [AT8];refine AGw (AUe (A1o Ai AGi Ac)) fun x hx=>?_;subst hx;dsimp only;refine AGw (AT9 (fun i s=>s=(((i:Nat):Int),tab n n dl)/\i<=n/\Apm A i/\Aqz A i) n (Q:=fun ex=>match ex with | .inl r=>A6r n A r | .inr _=>Apm A n/\Aqz A n) ⟨rfl,Nat.zero_le _,fun r l h1 h2=>by omega,fun r h=>by omega⟩ AGi fun i s hi hI=>?_) fun ex hex=>?_
 ·obtain ⟨rfl,hin,hsz,hlv⟩:=hI;unfold Ac7;dsimp only;rw [AT8];refine ATt (fun h=>?_) (fun h=>AGq ?_)
  ·have hi':i < n:=by omega
   refine AGw (AT9 (fun k s=>s=((i:Int) - 1 - k,tab n n dl)/\k<=i/\ ∀ l,l < i->i<=l + k->SzF A i l) i (Q:=fun ex=>match ex with | .inl r=>A6r n A r | .inr e=>e=tab n n dl/\ ∀ l,l < i->SzF A i l) ⟨by rw [wk AGi];simp,Nat.zero_le _,fun l h1 h2=>by omega⟩ AGi fun k s hk hK=>?_) fun ex hex=>?_
   ·obtain ⟨rfl,hki,hz⟩:=hK;unfold Ac6;dsimp only;refine ATt (fun h2=>?_) (fun h2=>AGq ⟨rfl,fun l hl=>hz l hl AGi⟩);obtain ⟨j,hj⟩:∃ j:Nat,(i:Int) - 1 - k=j:=⟨i - 1 - k,AGi⟩;rw [hj];have hji:j < i:=by omega
    refine AGw (AUe (A9k hn hi' AGi hb Ac)) fun b Ag=>?_;subst Ag;refine ATt (fun h3=>?_) (fun h3=>AGq ⟨AGi,?_,AGi,fun l h4 h5=>?_⟩)
    ·have hbad: ¬ SzF A i j:=fun h=>by rw [<- A1k] at h;simp [h] at h3
     refine ATu (AUc AGi) rfl (AGw (AUe (As3 hn hi' AGi hb Ac)) fun l hl=>?_);subst hl;rw [show w64 ((j:Int) + 1)=((j + 1:Nat):Int) by rw [wk AGi];omega];refine AGw (AUe (An0 AGi hn)) fun d hd=>?_;subst hd;have bl:(Mn j A i j).natAbs<=dBd AZa (8 + 1):=As4 hn hi' AGi AGi hb;have b1:(det (j + 1) A).natAbs<=dBd AZa (8 + 1):=Anf hn AGi hb;have hd:=hp (j + 1) AGi;have hDD:dBd AZa (8 + 1)<=dBd AZa (8 + 1) * dBd AZa (8 + 1):=Nat.le_mul_of_pos_left _ AGi;refine AGw (BB5 AGi AGi AGi hf) fun q hq=>?_;obtain ⟨x,y⟩:=q;obtain ⟨q1,q2,q3,q4⟩:=hq;dsimp only at q1 q2 q3 q4 ⊢;refine AGw (BB6 AGi q1 hf) fun m hm=>AGw (AUe (a:= -m) rfl) fun c hc=>?_
     have Ap:c=Ak4 A i j:=by
       rw [hc,hm]
       unfold Ak4
       congr 1
       refine Aya AGi AGi ?_
       grind
     clear hm hc;refine ATu (ATx hi') rfl (AGq (.inr (.inl ⟨i,j,hji,hi',hbad,hsz,fun l h4 h5=>hz l h4 AGi,hlv,?_⟩)));rw [AU2,AU2,AXv,Ap,show (AVs n fun q=>if q=i then Ak4 A i j else dl j q)=(List.range n).map fun q=>if q=i then Ak4 A i j else dl j q from rfl,Aeu];rfl
    ·rw [wk AGi];refine congrArg (fun z=>(z,tab n n dl)) ?_;omega
    ·have hgood:SzF A i j:=by rw [<- A1k];simpa using h3
     rcases Nat.lt_or_ge (l + k) i with h6 | h6
     ·obtain rfl:l=j:=by omega
      exact hgood
     ·exact hz l h4 h6
   ·cases ex with
    | inl r=>exact AGq hex
    | inr e=>
      obtain ⟨rfl,hzi⟩:=hex
      have hsz':Apm A (i + 1):=fun r l h1 h2=>by
        rcases Nat.lt_or_ge r i with h3 | h3
        · exact hsz r l h1 h3
        · obtain rfl:r=i:=by omega
          exact hzi l h1
      dsimp only
      have nx:w64 ((i:Int) + 1)=((i + 1:Nat):Int):=by rw [wk AGi];omega
      refine ATt (fun h4=>?_) (fun h4=>AGq ⟨AGi,by rw [nx],AGi,hsz',fun r hr=>by omega⟩)
      obtain ⟨j,rfl⟩:∃ j,i=j + 1:=⟨i - 1,AGi⟩
      refine AGw (A6q hn hi' hb Ac) fun b Ag=>?_
      refine ATt (fun h5=>?_) (fun h5=>AGq ⟨AGi,by rw [nx],AGi,hsz',fun r hr=>?_⟩)
      · have hbad: ¬ LvF A j:=fun h=>by rw [Ag.2 h] at h5;cases h5
        rw [show w64 (((j + 1:Nat):Int) - 1)=(j:Int) by rw [wk AGi];omega]
        refine ATu (AUc AGi) rfl (ATu (AUc hi') rfl (AGq (.inr (.inr ⟨j,hi',hbad,hsz',hlv,?_⟩))))
        rw [AU2,AU2,show AVs n (dl j)=(List.range n).map (dl j) from rfl,show AVs n (dl (j + 1))=(List.range n).map (dl (j + 1)) from rfl,Aeu,Aeu]
        rfl
      · have hgood:LvF A j:=Ag.1 (by simpa using h5)
        rcases Nat.lt_or_ge r j with h6 | h6
        · exact hlv r AGi
        · obtain rfl:r=j:=by omega
          exact hgood
  ·obtain rfl:i=n:=by omega
   exact ⟨hsz,hlv⟩
 ·cases ex with
  | inl r=>exact AGq hex
  | inr u=>exact AGq (.inl ⟨rfl,hex⟩)
end Go.Proofs.YthbndcbclhkepaaGreatDoor
namespace Go.QF
open Go
def PrI (p:Int):Prop:=2<=p/\ ∀ x y:Int,p ∣ x * y->p ∣ x∨p ∣ y
theorem PrI.ne {p:Int} (hp:PrI p):p≠0:=by have:=hp.1;omega
theorem AWh {p:Int} {a b:Nat} (h:a<=b):p ^ a ∣ p ^ b:=⟨p ^ (b - a),by rw [<- Int.pow_add];congr 1;omega⟩
theorem Aro {m x y d:Int} (h:Eqm m x y) (hd:d ∣ m) (hy:d ∣ y):d ∣ x:=by
 have h1:m ∣ x - y:=Int.dvd_of_emod_eq_zero (Int.emod_eq_emod_iff_emod_sub_eq_zero.1 h);have h2:=Int.dvd_add (Int.dvd_trans hd h1) hy;rwa [show x - y + y=x by omega] at h2
theorem Aop {m x y:Int} (h:m ∣ x - y):Eqm m x y:=Int.emod_eq_emod_iff_emod_sub_eq_zero.2 (Int.emod_eq_zero_of_dvd h)
theorem Aj9 {m x y:Int} (h:Eqm m x y):m ∣ x - y:=Int.dvd_of_emod_eq_zero (Int.emod_eq_emod_iff_emod_sub_eq_zero.1 h)
theorem Eqm.down {m d x y:Int} (h:Eqm m x y) (hd:d ∣ m):Eqm d x y:=Aop (Int.dvd_trans hd (Aj9 h))
theorem Apn {m x:Int}:Eqm m x 0↔m ∣ x:=⟨fun h=>by simpa using Aj9 h,fun h=>Aop (by simpa using h)⟩
theorem A9n {n k:Nat} {p:Int} {S:AS5} (hk:k<=n) (hz:∀ r c,r < k->k<=c->c < n->p ∣ S r c):Eqm p (det n S) (det k S * det (n - k) (shF k S)):=by
  let Z:AS5:=fun r c=>if r < k/\k<=c then 0 else S r c
  have h1:Eqm p (det n S) (det n Z):=Avs fun r c hr hc=>by
    show Eqm p (S r c) (if r < k/\k<=c then 0 else S r c)
    split
    · next h=>exact Apn.2 (hz r c h.1 h.2 hc)
    · exact Eqm.refl _ _
  obtain ⟨m,rfl⟩:∃ m,n=k + m:=⟨n - k,AGi⟩;refine h1.trans (Eqm.of_eq ?_)
  rw [<- Afw,Anu (T:=trF Z) fun a b ha _ hb=>?_,show k + m - k=m by omega]
  · congr 1
    · rw [<- Afw S];refine AUm fun a b ha hb=>?_;show (if b < k/\k<=a then (0:Int) else _)=_;rw [if_neg AGi];rfl
    · rw [<- Afw (shF k S)];refine AUm fun a b ha hb=>?_;show (if k + b < k/\k<=k + a then (0:Int) else _)=_;rw [if_neg AGi];rfl
  · show (if b < k/\k<=a then (0:Int) else _)=0;rw [if_pos ⟨AGi,AGi⟩]
def Car (n K:Nat) (p:Int) (D S D':AS5):Prop:= ∀ i j,i < n->j < n->Eqm (p ^ K) (AVk n (trF S) (AVk n D S) i j) (D' i j)
theorem Ayc (c:Int) (f:Nat->Int) (n:Nat):c * psum f n=psum (fun i=>c * f i) n:=(AYa c f n).symm
theorem Az0 (c:Int) (f:Nat->Int) (n:Nat):psum f n * c=psum (fun i=>f i * c) n:=by
 rw [Int.mul_comm,Ayc];exact AT0 fun k _=>Int.mul_comm _ _
section
variable {n K:Nat} {p:Int} {e f:Nat->Nat} {a b D D' S:AS5}
theorem A1q (hp:PrI p) (m:Nat):p ^ m≠0:=Int.pow_ne_zero hp.ne
theorem Afx {A B C:AS5} (i j:Nat):AVk n (AVk n A B) C i j=AVk n A (AVk n B C) i j:=by
 unfold AVk;rw [AT0 (g:=fun k=>psum (fun l=>A i l * B l k * C k j) n) fun k _=>Az0 _ _ _,Aqd]
 exact AT0 fun l _=>by
   rw [Ayc]
   exact AT0 fun k _=>by grind
end
end Go.QF
namespace Go.Proofs.YthbndcbclhkepaaGreatDoor
open Go Go.QF
set_option maxRecDepth 100000
theorem A6s {S E:Type} {body:S->Option (S ⊕ E)} {Q:E->Prop} (I:Nat->S->Prop) (hs:∀ k s,I k s->Ok (body s) fun r=>match r with | .inl s'=> ∃ k',k' < k/\I k' s' | .inr e=>Q e):∀ {fuel k:Nat} {s0:S},I k s0->k < fuel->Ok (iter body fuel s0) Q:=by
  intro fuel;induction fuel with
  | zero=>intro k s0 _ h;omega
  | succ f ih=>
    intro k s0 h0 hf;obtain ⟨r,hr,hq⟩:=hs k s0 h0;cases r with
    | inl s'=>
      obtain ⟨k',h1,h2⟩:=hq;obtain ⟨e,he,hQ⟩:=ih h2 AGi;exact ⟨e,by simp [iter,hr,he],hQ⟩
    | inr e=>exact ⟨e,by simp [iter,hr],hq⟩
theorem Ayd {n i j s:Nat} {A:AS5} (hj:j < i) (hi:i < n) (hs:s < n) (X:Nat->Int):psum (fun k=>X k * Aoo A i j k s) n=X s + if s=i then Ak4 A i j * X j else 0:=by
 have h1:∀ k,X k * Aoo A i j k s=X k * dl k s + (if k=j then (if s=i then Ak4 A i j * X j else 0) else 0):=fun k=>by
   unfold Aoo
   rw [AT2]
   split
   · next h=>
     subst h
     split
     · next h2=>subst h2;unfold dl;rw [if_neg AGi];grind
     · simp
   · simp
 rw [AT0 fun k _=>h1 k,Aey,Avl X hs,Ahk (a:=j) AGi fun k _ hk=>if_neg hk,if_pos rfl]
theorem Aye {n i j r s:Nat} {A:AS5} (hj:j < i) (hi:i < n) (hr:r < n) (hs:s < n):AVk n (AVk n (trF (Aoo A i j)) A) (Aoo A i j) r s=Apj A i j (Ak4 A i j) r s:=by
 have h2:∀ k,AVk n (trF (Aoo A i j)) A r k=A r k + if r=i then Ak4 A i j * A j k else 0:=fun k=>by
   show psum (fun l=>Aoo A i j l r * A l k) n=_
   rw [AT0 (g:=fun l=>A l k * Aoo A i j l r) fun l _=>Int.mul_comm _ _]
   exact Ayd hj hi hr fun l=>A l k
 show psum (fun k=>AVk n (trF (Aoo A i j)) A r k * Aoo A i j k s) n=_;rw [Ayd hj hi hs fun k=>AVk n (trF (Aoo A i j)) A r k];rw [h2,h2,Arn];split <;> split <;> first | (subst_vars;grind) | grind
theorem Av1 (j k s:Nat):AX3 dl (j + 1) j k s=dl (tau j k) s:=by
 rw [Ae8];unfold tau;split
 ·next h=>subst h;rfl
 ·split <;> rfl
theorem A1r (j k:Nat):tau j (tau j k)=k:=by unfold tau;split <;> (try split) <;> (try split) <;> omega
theorem BB8 {j k n:Nat} (hj:j + 1 < n) (hk:k < n):tau j k < n:=by unfold tau;split <;> (try split) <;> omega
theorem A1s {n j s:Nat} (hj:j + 1 < n) (hs:s < n) (X:Nat->Int):psum (fun k=>X k * AX3 dl (j + 1) j k s) n=X (tau j s):=by
 rw [Ahk (a:=tau j s) (BB8 hj hs) fun k hk hne=>?_]
 ·rw [Av1,A1r];unfold dl;rw [if_pos rfl];simp
 ·rw [Av1];unfold dl;rw [if_neg (fun h=>hne (by rw [<- h,A1r]))];simp
theorem A1t {n j r s:Nat} {A:AS5} (hj:j + 1 < n) (hr:r < n) (hs:s < n):AVk n (AVk n (trF (AX3 dl (j + 1) j)) A) (AX3 dl (j + 1) j) r s=swA A j r s:=by
 show psum (fun k=>AVk n (trF (AX3 dl (j + 1) j)) A r k * AX3 dl (j + 1) j k s) n=_;rw [A1s hj hs fun k=>AVk n (trF (AX3 dl (j + 1) j)) A r k];show psum (fun l=>AX3 dl (j + 1) j l r * A l (tau j s)) n=_;rw [AT0 (g:=fun l=>A l (tau j s) * AX3 dl (j + 1) j l r) fun l _=>Int.mul_comm _ _];exact A1s hj hr fun l=>A l (tau j s)
theorem Afy {n:Nat} {A A' B B':AS5} {i j:Nat} (hA:∀ k,k < n->A i k=A' i k) (hB:∀ k,k < n->B k j=B' k j):AVk n A B i j=AVk n A' B' i j:=AT0 fun k hk=>by rw [hA k hk,hB k hk]
theorem Arp {n:Nat} {T U:AS5} (i j:Nat):trF (AVk n T U) i j=AVk n (trF U) (trF T) i j:=AT0 fun k _=>Int.mul_comm _ _
def Az1 (n:Nat) (A0 T A:AS5):Prop:= ∀ i j,i < n->j < n->A i j=AVk n (trF T) (AVk n A0 T) i j
theorem Auo {n:Nat} {A0 T A U B:AS5} (H:Az1 n A0 T A) (K:∀ i j,i < n->j < n->AVk n (AVk n (trF U) A) U i j=B i j):Az1 n A0 (AVk n T U) B:=fun i j hi hj=>by
  rw [<- K i j hi hj,Afx]
  have h1:AVk n (trF U) (AVk n A U) i j=AVk n (trF U) (AVk n (trF T) (AVk n A0 (AVk n T U))) i j:=by
    refine Afy (fun _ _=>rfl) fun k hk=>?_;rw [Afy (A':=AVk n (trF T) (AVk n A0 T)) (fun l hl=>H k l hk hl) (fun _ _=>rfl),Afx];refine Afy (fun _ _=>rfl) fun l hl=>?_;rw [Afx]
  rw [h1,<- Afx];exact Afy (fun k _=>(Arp i k).symm) fun _ _=>rfl
theorem A1u {n:Nat} {A:AS5}:Az1 n A dl A:=fun i j hi hj=>by
  show _=psum (fun k=>dl k i * AVk n A dl k j) n
  rw [AT0 (g:=fun k=>AVk n A dl k j * dl k i) fun k _=>Int.mul_comm _ _,Avl (fun k=>AVk n A dl k j) hi]
  exact (Azo hj).symm
def dm9:Int:=9 ^ 8
def A9o:Int:=2 ^ 97
theorem A9p {n i t:Nat} {A:AS5} (hn:n<=8) (h:Avx n dm9 A i t):∀ k,k < n->A k k<=A9o:=fun k hk=>by
  by_cases e:k=i
  · subst e
    have h1:=Aul (p:=(2 ^ 7 * (2 * dm9)) * (2 ^ 7 * (2 * dm9))) (q:=1) h.sym h.pos h.hi h.dm AGk AGk (fun l hl=>by
      have h2:=h.lamb l hl;have h3:(2:Int) ^ t * (2 * dm9)<=2 ^ 7 * (2 * dm9):=Int.mul_le_mul_of_nonneg_right (Apl (by have:=h.ht;omega)) AGk;have h4:=h.pos (l + 1) (by have:=h.hi;omega);have h5:=Int.mul_le_mul_of_nonneg_right h3 (Int.le_of_lt h4);have h6:=Ane (x:=Mn l A k l) (y:=2 ^ 7 * (2 * dm9) * det (l + 1) A) AGi AGi;rw [Int.one_mul];refine Int.le_trans h6 (Int.le_of_eq ?_);grind) k 0 AGi
    rw [Agt,show det 0 A=1 from rfl,Int.one_mul] at h1
    have h7:(1 + (k:Int) * ((2 ^ 7 * (2 * dm9)) * (2 ^ 7 * (2 * dm9)))) * (dm9 * 1)<=(1 + 7 * ((2 ^ 7 * (2 * dm9)) * (2 ^ 7 * (2 * dm9)))) * (dm9 * 1):=by
      refine Int.mul_le_mul_of_nonneg_right ?_ AGk;have:=Int.mul_le_mul_of_nonneg_right (show (k:Int)<=7 by omega) (show (0:Int)<=(2 ^ 7 * (2 * dm9)) * (2 ^ 7 * (2 * dm9)) by decide);omega
    exact Int.le_trans h1 (Int.le_trans h7 AGk)
  · exact Int.le_trans (h.rows k hk e) AGk
theorem Ayf {n:Nat} {A:AS5} {B:Int} (hs:Ad8 n A) (hp:Afn n A) (hB:∀ k,k < n->A k k<=B) {i j:Nat} (hi:i < n) (hj:j < n): -B<=A i j/\A i j<=B:=by
 have h1:=Aqk (k:=0) hs hp (Nat.zero_le _) hi hj;simp only [Agt] at h1;have p1:=Aql (k:=0) hs hp (Nat.zero_le _) hi;have p2:=Aql (k:=0) hs hp (Nat.zero_le _) hj;simp only [Agt] at p1 p2;have h2:=Int.mul_le_mul (hB i hi) (hB j hj) p2 (Int.le_trans p1 (hB i hi));exact Ax4 (Int.le_trans p1 (hB i hi)) (Int.le_trans h1 h2)
theorem A1v {n:Nat} {A:AS5} {B:Int} (hs:Ad8 n A) (hp:Afn n A) (hB:∀ k,k < n->A k k<=B) {i j:Nat} (hi:i < n) (hj:j < n):(A i j).natAbs<=B.natAbs:=by
 have:=Ayf hs hp hB hi hj;omega
def Aup:Nat:=(2 ^ 240) ^ 5
theorem Ayg:16 * (Aup * Aup) < AW5:=by decide
def Auq:Nat:=(2 ^ 220) ^ 5
theorem BD3 {n:Nat} {A0 A T:AS5} (hn:n<=8) (hE:∀ i j,(A0 i j).natAbs<=2 ^ 40) (hs:Ad8 n A0) (hp:Afn n A0) (H:Az1 n A0 T A) (hB:∀ k,k < n->A k k<=A9o) {k s:Nat} (hk:k < n) (hs2:s < n):(T k s).natAbs<=Auq:=by
  have h1:=A9f hs hp (fun r=>T r s) hk
  have h2:bil n 0 A0 (fun r=>T r s) (fun r=>T r s)=A s s:=by
    rw [H s s hs2 hs2];show _=psum (fun i=>T i s * psum (fun j=>A0 i j * T j s) n) n;unfold bil;refine AT0 fun i _=>?_;rw [<- AYa];exact AT0 fun j _=>by rw [Agt];grind
  rw [h2] at h1
  have h3:(As1 n A0 k k).natAbs<=dBd (2 ^ 40) 9:=by
    refine Nat.le_trans (Arh (m:=2 ^ 40) fun i j=>?_) (Ajb AGk AGi);rw [AT2]
    split
    · unfold dl;split <;> decide
    · exact hE i j
  have h4:As1 n A0 k k * A s s<=(dBd (2 ^ 40) 9:Nat) * A9o:=by
    have p0:0<=A s s:=by
      have:A s s=bil n 0 A0 (fun r=>T r s) (fun r=>T r s):=h2.symm;rw [this];exact Ajc hs hp _ n 0 AGi
    have b1:As1 n A0 k k<=(dBd (2 ^ 40) 9:Nat):=by omega
    have b2:=Int.mul_le_mul_of_nonneg_right b1 p0;have b3:=Int.mul_le_mul_of_nonneg_left (hB s hs2) (show (0:Int)<=(dBd (2 ^ 40) 9:Nat) by omega);omega
  have h5:((dBd (2 ^ 40) 9:Nat):Int) * A9o<=(Auq:Int) * (Auq:Int):=by decide
  have h6:=Ax4 (x:=T k s) (y:=(Auq:Int)) AGi (Int.le_trans (Int.le_trans h1 h4) h5);omega
structure Av2 (n:Nat) (A:AS5):Prop where
  sym:Ad8 n A
  pos:Afn n A
  sz:Apm A n
  lv:Aqz A n
  dt:det n A<=10000
structure RSt (n:Nat) (A0 A T:AS5) (i t:Nat):Prop where
  inv:Avx n dm9 A i t
  car:Az1 n A0 T A
  dt:det n A=det n A0
def BEn (n:Nat) (A0:AS5) (k:Nat) (s:List (List Int) × List (List Int)):Prop:=
  ∃ A T i t,RSt n A0 A T i t/\s=(tab n n A,tab n n T)/\k=(Ax9 n A).toNat * 128 + (128 - (16 * i + t))
theorem A1w {n:Nat} {A:AS5} (hp:Afn n A):0<=Ax9 n A:=by
 have:∀ m,m<=n + 1->0<=psum (fun k=>det k A) m:=fun m=>by
   induction m with
   | zero=>intro _;exact Int.le_refl _
   | succ m ih=>intro h;have h1:=ih AGi;have h2:=hp m AGi;simp only [psum];omega
 exact this _ (Nat.le_refl _)
theorem A9q {n:Nat} {A:AS5} (hd:∀ k,k<=n->det k A<=dm9):Ax9 n A<=(n + 1:Nat) * dm9:=by
 have:∀ m,m<=n + 1->psum (fun k=>det k A) m<=(m:Nat) * dm9:=fun m=>by
   induction m with
   | zero=>intro _;simp [psum]
   | succ m ih=>intro h;have h1:=ih AGi;have h2:=hd m AGi;simp only [psum];rw [Int.natCast_add,Int.add_mul];omega
 exact this _ (Nat.le_refl _)
theorem A3j {n i j:Nat} {A:AS5} (hn:n<=8) (hj:j < i) (hi:i < n) (hp:Afn n A) (hb:∀ i j,i < n->j < n->(A i j).natAbs<=AZa):(Ak4 A i j).natAbs<=3 * dBd AZa 9:=by
 have b1:(Mn j A i j).natAbs<=dBd AZa 9:=As4 hn hi AGi AGi hb;have b2:(det (j + 1) A).natAbs<=dBd AZa 9:=Anf hn AGi hb;have hd:=hp (j + 1) AGi;unfold Ak4;rw [Int.natAbs_neg];have:=Int.natAbs_ediv_le_natAbs (2 * Mn j A i j + det (j + 1) A) (2 * det (j + 1) A);omega
theorem A3k {fuel n:Nat} {A0:AS5} (Ac:1<=n) (hn:n<=8) (hs:Ad8 n A0) (hp:Afn n A0) (hE:∀ i j,(A0 i j).natAbs<=2 ^ 40) (hD:∀ k,k<=n->det k A0<=dm9) (hr:∀ k,k < n->A0 k k<=3 * dm9) (hdt:det n A0<=10000) (hf:AW5 < fuel):
    Ok (AYk fuel (tab n n A0)) fun r=> ∃ A T,r=(tab n n A,tab n n T,0)/\Av2 n A/\Az1 n A0 T A/\det n A=det n A0/\ ∀ k,k < n->A k k<=3 * dm9:=by
 have Ad:100 < fuel:=Nat.lt_of_le_of_lt AGk hf;have Av:100000000 < fuel:=Nat.lt_of_le_of_lt AGk hf;have Ak:∀ i j,i < n->j < n->(A0 i j).natAbs<=AZa:=fun i j _ _=>Nat.le_trans (hE i j) AGk;unfold AYk;refine AGw (As6 Ac hn Ak Ad) fun v hv=>?_;have Ap:=hv.2 ⟨hs,hp⟩;subst Ap;refine ATt (fun h=>absurd rfl h) fun _=>AGw (AUe (A9m hn Ak Ad)) fun b hb=>?_;subst hb;refine ATt (fun h=>by simp [hdt] at h) fun _=>?_;refine AGw (AUe (A1d (A:=tab n n A0) (by rw [AT8];omega) (fun z hz=>by rw [Ao1 z hz];omega) (by rw [AT8];omega))) fun x hx=>?_;subst hx;rw [AT8];refine AGw (AUe (A1o Ac AGi Ad)) fun x hx=>?_;subst hx;dsimp only;refine AGw (A6s (BEn n A0) (Q:=fun r=> ∃ A T,r=(tab n n A,tab n n T,0)/\Av2 n A/\Az1 n A0 T A/\det n A=det n A0/\ ∀ k,k < n->A k k<=3 * dm9) (fun k s hI=>?_) (k:=(Ax9 n A0).toNat * 128 + 128) ⟨A0,dl,0,0,⟨As2 Ac hs hp hD hr,A1u,rfl⟩,rfl,rfl⟩ ?_) fun r hr=>AGq hr
 ·obtain ⟨A,T,i,t,R,rfl,rfl⟩:=hI;have L:=R.inv;have hbd:=A9p hn L;have hb:∀ i j,i < n->j < n->(A i j).natAbs<=AZa:=fun i j hi hj=>Nat.le_trans (A1v L.sym L.pos hbd hi hj) AGk;have hT:∀ k s,k < n->s < n->(T k s).natAbs<=Auq:=fun k s hk Ab=>BD3 hn hE hs hp R.car hbd hk Ab;have hTD:Auq<=Aup:=by decide
  have hMD:AZa<=Aup:=by decide
  unfold Aby;refine AGw (BB7 Ac hn L.pos hb hf) fun r hr=>?_
  have prod:∀ {U:AS5},(∀ i j,i < n->j < n->(U i j).natAbs<=3 * dBd AZa 9)->(AV4 fuel (tab n n A) (tab n n U)=some (tab n n (AVk n (AVk n (trF U) A) U))/\AU4 fuel (tab n n T) (tab n n U)=some (tab n n (AVk n T U))):=fun {U} hU=>by
    have Am:∀ i j,i < n->j < n->(U i j).natAbs<=Aup:=fun i j hi hj=>Nat.le_trans (hU i j hi hj) AGk
    refine ⟨A9l Ac AGi Ayg (fun i j hi hj=>Nat.le_trans (hb i j hi hj) hMD) Am (fun i j hi hj=>?_) Ad,?_⟩
    · have h1:=psum_abs (f:=fun l=>U l i) (g:=fun l=>A l j) (D:=3 * dBd AZa 9) n fun l hl=>⟨hU l i hl hi,Nat.le_trans (hb l j hl hj) AGk⟩
      have h2:n * ((3 * dBd AZa 9) * (3 * dBd AZa 9))<=8 * ((3 * dBd AZa 9) * (3 * dBd AZa 9)):=Nat.mul_le_mul_right _ hn
      have h3:(AVk n (trF U) A i j).natAbs=(psum (fun l=>U l i * A l j) n).natAbs:=rfl
      have h4:∀ l,l < n->(U l i).natAbs<=3 * dBd AZa 9/\(A l j).natAbs<=AZa:=fun l hl=>⟨hU l i hl hi,hb l j hl hj⟩
      have h5:(psum (fun l=>U l i * A l j) n).natAbs<=n * (3 * dBd AZa 9 * AZa):=by
        refine QF.psum_abs fun l hl=>?_
        rw [Int.natAbs_mul]
        exact Nat.mul_le_mul (h4 l hl).1 (h4 l hl).2
      have h6:n * (3 * dBd AZa 9 * AZa)<=8 * (3 * dBd AZa 9 * AZa):=Nat.mul_le_mul_right _ hn
      have h7:8 * (3 * dBd AZa 9 * AZa)<=Aup:=by decide
      rw [h3]
      exact Nat.le_trans h5 (Nat.le_trans h6 h7)
    · unfold AU4
      rw [A6o Ac AGi Ayg (fun i j hi hj=>Nat.le_trans (hT i j hi hj) hTD) Am Ad]
      rfl
  rcases hr with ⟨rfl,hsz,hlv⟩ | ⟨i',j,hji,hi',hbad,hsz,hzi,hlv,rfl⟩ | ⟨j,hj,hbad,hsz,hlv,rfl⟩
  ·dsimp only;refine ATt (fun _=>?_) (fun h=>absurd rfl h);have hrest:=Anz hn L fun l hl=>hsz i l hl L.hi;refine AGw (AUe (BD0 Ac AGi (fun i j hi hj=>Nat.lt_of_le_of_lt (A1v L.sym L.pos hrest hi hj) AGk) Ad)) fun x hx=>AGq ?_;subst hx;exact ⟨A,T,rfl,⟨L.sym,L.pos,hsz,hlv,by rw [R.dt];exact hdt⟩,R.car,R.dt,hrest⟩
  ·dsimp only;refine ATt (fun h=>absurd h AGk) fun _=>?_
   have hU:∀ r s,r < n->s < n->(Aoo A i' j r s).natAbs<=3 * dBd AZa 9:=fun r s hr Ab=>by
     have hdl:∀ a b,(dl a b).natAbs<=3 * dBd AZa 9:=fun a b=>by unfold dl;split <;> decide
     unfold Aoo
     rw [AT2]
     split
     · split
       · exact A3j hn hji hi' L.pos hb
       · exact hdl _ _
     · exact hdl _ _
   obtain ⟨e1,e2⟩:=prod hU;refine AGw (AUe e1) fun x hx=>AGw (AUe e2) fun y hy=>AGq ?_;subst hx;subst hy;obtain ⟨L2,hm⟩:=A3h hn L hi' hji hbad hsz hzi hlv;have hsum:Ax9 n (Apj A i' j (Ak4 A i' j))=Ax9 n A:=AT0 fun k _=>Ahq hji;refine ⟨_,?_,Apj A i' j (Ak4 A i' j),AVk n T (Aoo A i' j),i',i' - j,⟨L2,Auo R.car fun r s hr Ab=>Aye hji hi' hr Ab,by rw [Ahq hji];exact R.dt⟩,?_,rfl⟩
   ·rw [hsum];have:=L.hi;have:=L.ht;omega
   ·rw [Agx fun r s hr Ab=>Aye hji hi' hr Ab]
  ·dsimp only;refine ATt (fun h=>absurd h AGk) fun _=>?_
   have hU:∀ r s,r < n->s < n->(AX3 dl (j + 1) j r s).natAbs<=3 * dBd AZa 9:=fun r s hr Ab=>by
     rw [Av1];unfold dl;split <;> decide
   obtain ⟨e1,e2⟩:=prod hU;refine AGw (AUe e1) fun x hx=>AGw (AUe e2) fun y hy=>AGq ?_;subst hx;subst hy;obtain ⟨L2,hm⟩:=A3i hn L hj hbad (fun r l h1 h2=>hsz r l h1 AGi) fun r hr=>hlv r AGi;refine ⟨_,?_,swA A j,AVk n T (AX3 dl (j + 1) j),0,0,⟨L2,Auo R.car fun r s hr Ab=>A1t hj hr Ab,by rw [A1h AGi];exact R.dt⟩,?_,rfl⟩
   ·have h1:=A1w L.pos;have h2:=A1w L2.pos;have:=L.hi;have:=L.ht;omega
   ·rw [Agx fun r s hr Ab=>A1t hj hr Ab]
 ·have h1:=A9q hD;have h2:((n + 1:Nat):Int) * dm9<=9 * dm9:=Int.mul_le_mul_of_nonneg_right AGi AGk;have h3:(9 * dm9)=387420489:=by decide
  have h4:387420489 * 128 + 128 < AW5:=by decide
  omega
end Go.Proofs.YthbndcbclhkepaaGreatDoor
