/-
  Texts of a proof, joined. Conditions stand in each statement.
-/
import Derived.Test.YtkakafabeobahaaGreatDoorMDyadicDecomposes3
set_option linter.unusedVariables false
set_option linter.unusedSimpArgs false
open Go
variable {a3:Go.Proofs.YtkakafabeobahaaGreatDoor.LiI} {h:Go.QF.AGz} {A F:Go.QF.AS9} {a x y q r last K p a1 a5 a2 d Dm:Int} {M:List (List Int)} {B LA LB:List Nat} {i la lb t j fuel k l s D:Nat} {f:Nat->Int} {v va vb Aq Ah Ad:Value}
namespace Go.Proofs.YtkakafabeobahaaGreatDoor.Ig
open Go Go.QF
set_option maxRecDepth 100000
structure BBz (h:AGz) (v:Value) (L:List Nat) (v':Value) (L':List Nat):Prop where
 sl:Sl h v' (L'.map Ahq)
 cap:Ahp v'
 dig:Dig L'
 blk:v'.ownBlock=v.ownBlock
 val:nv L'=nv L
 len:L'.length<=L.length
 tg:∀ g,v.ownBlock=some g-> ∃ cur off,h[g]? =some (.cells cur 200 off)
theorem BBz.ds {lo:Nat} {v':Value} {L L':List Nat} (H:BBz h v L v' L') (hl:∀ g,v.ownBlock=some g->lo<=g):DS h lo v' L':=⟨H.sl,H.cap,H.dig,λg hg=>hl g<|H.blk ▸ hg,λg hg=>H.tg g<|H.blk ▸ hg⟩
theorem A8l {L:List Nat} (h:L[L.length - 1]? =some 0):nv (L.take<|L.length - 1)=nv L:=by
 have h1:L=L.take (L.length - 1) ++ [0]:=by
  have:=Av3 h
  grind
 conv=>rhs;rw [h1,Afi]
 simp
theorem Agn {L:List Nat} (H:DS h 0 v L) (hn:L.length<=1000000):ATz Tryz.prog 191 #[v] h λx h'=>h'=h/\ ∃ L',BBz h v L x L'/\TL L':=by
 refine AUc (l:=[_]) mx Tryz.func191 rfl rfl rfl rfl rfl AG2 (AGq<|AGx<|AGs<|AGt<|AYg 1048569 (λy:Value × List Nat=>[(0,y.1)]) (λk y h'=>h'=h/\y.2.length=k/\BBz h v L y.1 y.2) AG2 L.length (v,L) ?_ ⟨rfl,trivial⟩ ?_)
 ·exact ⟨rfl,rfl,H.sl,H.cap,H.dig,rfl,rfl,Nat.le_refl _,H.tg⟩
 rintro k ⟨u,Lu⟩ s1 h ⟨rfl,rfl,HT⟩;dsimp only at HT ⊢;refine AGs<|AGq<|AGm<|Aqc ATr rfl HT.sl ?_;rw [List.length_map];have hLlen:=HT.len;refine Akt rfl rfl (λAa=>?_) (λAa=>?_)
 ·refine AGm<|AUr 6 true AG2 rfl rfl (AGm<|AUr 6 true AG2 rfl rfl (AGm<|AUr 6 true AG2 rfl rfl (Aqc ATr rfl HT.sl ?_)));rw [List.length_map];refine AUr 6 true AG2 rfl rfl (Ags rfl rfl AGl AGl ?_);rw [show ((Lu.length:Nat):Int) - 1=((Lu.length - 1:Nat):Int) by omega];obtain ⟨x,hx⟩:∃ x,Lu[Lu.length - 1]? =some x:=⟨_,List.getElem?_eq_getElem AGl⟩;refine AUr 6 true AG2 rfl rfl (Atw ATr rfl HT.sl rfl (Alu hx) λa1 Ab=>AUr 6 true AG2 rfl rfl (AT6 AVp rfl Ab (AUr 6 true AG2 rfl rfl (Amm rfl rfl (λAc=>?_) (λAc=>?_)))))
  ·refine ATf rfl (AGu<|ATx rfl (AG0<|q_t<|AGt<|AS8<|AGm<|AGm<|Aqc ATr rfl HT.sl ?_));rw [List.length_map];refine Ags rfl rfl AGl AGl ?_;rw [show ((Lu.length:Nat):Int) - 1=((Lu.length - 1:Nat):Int) by omega];have Ad:Lu[Lu.length - 1]? =some 0:=by rw [hx];congr 1;omega
   refine Axa (v:=u) ATr rfl HT.sl HT.cap rfl (by rw [List.length_map];omega) λv9 Af Ag Ah=>?_;refine ATs<|ATu<|q_b<|q_t ?_;exact ⟨Lu.length - 1,(v9,Lu.take<|Lu.length - 1),by first | omega | (dsimp only;omega),⟨rfl,AT7,⟨by dsimp only;rw [List.map_take];exact Af,Ag,Aq5 HT.dig _,Ah.trans HT.blk,by rw [A8l Ad];exact HT.val,by rw [List.length_take];have:=HT.len;omega,HT.tg⟩⟩,rfl,trivial⟩
  ·refine ATf rfl (AGu<|AT0 rfl (ATh<|ATi<|ATi<|AUf<|q_t<|AGq<|AGm<|AGx<|AG1<|⟨_,AS5,?_⟩));refine ⟨rfl,Lu,HT,λy hy=>?_⟩
   first
   | (have:Lu=[]:=List.length_eq_zero_iff.1 AGl;rw [this] at hy;cases hy)
   | (rw [List.getLast?_eq_getElem?,hx] at hy;injection hy with hy;subst hy;omega)
 ·refine AGm<|AUn 6 false AG2 rfl rfl (AUn 6 false AG2 rfl rfl (AUn 6 false AG2 rfl rfl (AUn 6 false AG2 rfl rfl (AUn 6 false AG2 rfl rfl (AUn 6 false AG2 rfl rfl (AUn 6 false AG2 rfl rfl (AS6 rfl (AGu<|AT0 rfl (ATh<|ATi<|ATi<|AUf<|q_t<|AGq<|AGm<|AGx<|AG1<|⟨_,AS5,?_⟩)))))))));refine ⟨rfl,Lu,HT,λy hy=>?_⟩
  first
  | (have:Lu=[]:=List.length_eq_zero_iff.1 AGl;rw [this] at hy;cases hy)
  | (rw [List.getLast?_eq_getElem?,hx] at hy;injection hy with hy;subst hy;omega)
theorem Ajx (w:Nat) (hw:w < 18446744073709551616) (h:AGz):ATz Tryz.prog 188 #[.int .u64 (w:Int)] h λx h'=>Ext h h'/\ ∃ L,DS h' (Array.size h) x L/\TL L/\nv L=w/\L.length<=2:=by
 refine AUc (l:=[_]) mx Tryz.func188 rfl rfl rfl rfl rfl AG2 (AGq<|AT2<|AGm<|Agr AVy AWj rfl ?_);rw [show IntKind.u32.wrap (w:Int)=((w % 4294967296:Nat):Int) by rw [wrap_u32];omega];refine AGm<|Asu (n:=32) rfl rfl AGn (Agr AVy AWj rfl ?_);rw [show IntKind.u32.wrap ((w:Int) / 2 ^ 32)=((w / 4294967296:Nat):Int) by rw [wrap_u32];omega];have e1:IntKind.u32.wrap (w:Int)=((w % 4294967296:Nat):Int):=by rw [wrap_u32];omega
 have e2:IntKind.u32.wrap ((w:Int) / 2 ^ 32)=((w / 4294967296:Nat):Int):=by rw [wrap_u32];omega
 have hdg:Dig [w % 4294967296,w / 4294967296]:=by intro x hx;simp only [List.mem_cons,List.not_mem_nil,or_false] at hx;rcases hx with rfl | rfl <;> omega
 refine A6z ([w % 4294967296,w / 4294967296].map Ahq) ATr Afo rfl (λ_=>trivial) rfl AGl AGl rfl (by simp [Ahq,isOne]) λg1 v1 h1 Ad E1 Ae Aj=>?_;have Ak:=E1.1;have Z2:=(Ext.refl h).trans E1;have Ab:=Ad.ds (lo:=Array.size h) hdg Ae;refine ATo trivial rfl (Agn (Ab.mono<|Nat.zero_le _) AT7) λx3 h1 hk=>?_;obtain ⟨rfl,L2,HT,htl⟩:=hk;refine ⟨trivial,?_⟩;refine AGx<|AG1<|⟨_,AS5,?_⟩;exact ⟨E1,L2,HT.ds Ab.lo,htl,by rw [HT.val];simp only [nv];omega,by have:=HT.len;simpa using this⟩
theorem Ath {lo:Nat} {L:List Nat} (H:DS h lo v L) (hn:L.length<=2):ATz Tryz.prog 205 #[v] h λx h'=>h'=h/\x= .int .u64 (nv L:Int):=by
 refine AUc (l:=[_]) mx Tryz.func205 rfl rfl rfl rfl rfl AG2 (AGq<|AT2<|AGx<|AGs<|AGq<|AGm<|Aqc ATr rfl H.sl ?_);rw [List.length_map];refine AGm<|AGu<|AGt<|AYg 2096952 (λy:Nat × Nat=>[(8,.int .i64 (y.1:Int)),(3,.int .u64 (y.2:Int))]) (λk y h'=>h'=h/\k=L.length - y.1/\y.1<=L.length/\y.2=nv (L.take y.1)) AG2 L.length (0,0) ?_ ⟨rfl,rfl,trivial⟩ ?_
 ·exact ⟨rfl,rfl,Nat.zero_le _,rfl⟩
 rintro k ⟨i,w⟩ s1 h ⟨rfl,rfl,hi,hw⟩;dsimp only at hi hw ⊢;subst hw;refine AGq<|AXw rfl rfl (λAb=>?_) (λAb=>?_)
 ·refine AGu<|AGs<|ATx rfl (AG0<|q_t<|AGs<|AGt<|AGs ?_);obtain ⟨x,hx⟩:∃ x,L[i]? =some x:=⟨_,List.getElem?_eq_getElem AGl⟩;have hxb:=H.dig x<|List.mem_of_getElem? hx;refine AS8<|AGm<|Atw ATr rfl H.sl rfl (Alu hx) λAf Ac=>AT6 AVp rfl Ac (ATs<|AGx<|AS8<|AGm<|AGm<|BC4 AWj AVy rfl (by rw [wrap_u64];omega) ?_);refine AGm<|Ah4 rfl rfl AGl AGl ?_;rw [show (32:Int) * (i:Int)=((32 * i:Nat):Int) by omega];refine Av5 (n:=32 * i) rfl rfl (by show 32 * i<=64;omega) ?_;have Aa:i=0∨i=1:=by omega
  have hlt:=Aky H.dig hi
  have hsh:IntKind.u64.wrap ((x:Int) * 2 ^ (32 * i))=((2 ^ (32 * i) * x:Nat):Int):=by
   rw [wrap_u64]
   rcases Aa with rfl | rfl
   ·simp;omega
   ·simp;omega
  rw [hsh]
  have Ad:2 ^ (32 * i) * x < 18446744073709551616:=by
   rcases Aa with rfl | rfl
   ·simp;omega
   ·simp;omega
  have Ae:nv (L.take i) < 18446744073709551616:=by
   rcases Aa with rfl | rfl
   ·simp at hlt ⊢;omega
   ·simp at hlt ⊢;omega
  refine Aow rfl rfl (.inr<|.inl rfl) (A61 Ae Ad) ?_;rw [A62 (by rw [<- Aqh];exact hlt),<- Aqh,<- AU3 hx];refine ATs<|ATu<|q_b<|q_t<|AS8<|Ady rfl AGl (AGm<|AGu ?_);exact ⟨L.length - (i + 1),(i + 1,nv<|L.take<|i + 1),by first | omega | (dsimp only;omega),⟨rfl,rfl,by first | omega | (dsimp only;omega),rfl⟩,rfl,rfl,trivial⟩
 ·refine AGu<|AGs<|AT0 rfl (ATh<|ATi<|ATi<|AUf<|q_t<|AGq<|AGm<|AGx<|AG1<|⟨_,AS5,?_⟩);obtain rfl:i=L.length:=by omega
  exact ⟨rfl,by rw [List.take_length] at *;rfl⟩
theorem Aiv (w:World):(Instr.build 129 #[]).run Tryz.prog w= .ok (.agg #[.bool false,.slice none 0 0]) w:=by kernel_rfl
theorem Ara (b:Bool) (a:Option Addr) (n c:Nat) (w:World):(Instr.build 129 #[(0,.bool b),(1,.slice a n c)]).run Tryz.prog w= .ok (.agg #[.bool b,.slice a n c]) w:=by kernel_rfl
theorem Ad2 {lo:Nat} {s:Value} {L:List Nat} (neg:Bool) (H:DS h lo s L) (htl:TL L) (hn:L.length<=100):ATz Tryz.prog 187 #[.bool neg,s] h λx h'=>Ext h h'/\ZV h' lo x (sgn neg<|nv L):=by
 obtain ⟨a,n,c,rfl,hnc⟩:=H.cap;refine AUc (l:=[_,_]) mx Tryz.func187 rfl rfl rfl rfl rfl AG2 (AGq<|Aab [.bool false,.slice none 0 0] AYd rfl (λ_=>trivial) λAa h2 V3 E4 Ak Ar=>?_);have Au:Array.size h<=Aa:=Ak;have Av:=E4.1;have Z8:=(Ext.refl h).trans E4;refine AGu<|AGs<|AGq<|AGm<|Aqc ATr rfl (H.sl.ext E4) ?_;rw [List.length_map];refine Amm rfl rfl (λAm=>?_) (λAm=>?_)
 ·refine AGu<|ATx rfl (AGq<|AXa (v:= .agg #[.bool false,.slice none 0 0]) Aiv<|AVa [.bool false,.slice none 0 0] AUm rfl rfl rfl rfl (by simp [isOne]) V3 λh9 Ao Ad=>?_);have Af:=E4.thenUpd Ad (λk hk=>by have Ac:k=Aa:=hk;omega);have Ax:=Ad.1;have Ay:=Z8.thenUpd Ad (λk hk=>by have Ac:k=Aa:=hk;omega);have Az:=E4.thenUpd Ad (λk hk=>by have Ac:k=Aa:=hk;omega);refine AGu (AG1<|ATd<|⟨_,AVk AUm rfl rfl Ao,?_⟩)
  first
  | (have h0:L=[]:=List.length_eq_zero_iff.1 AGl
     subst h0
     exact ⟨Af,⟨false,_,[],rfl,Akx _ _,Al9,AT7,by cases neg <;> rfl⟩⟩)
  | exact ⟨Af,⟨neg,_,L,rfl,H.ext Af,htl,hn,rfl⟩⟩
 ·refine AGu<|AT0 rfl (AG0<|q_t<|AGq<|AGm<|AGm<|AXa (v:= .agg #[.bool neg,.slice a n c]) (Ara neg a n c)<|AVa [.bool neg,.slice a n c] AUm rfl rfl rfl rfl (by simp [isOne]) V3 λA3 Ap Ae=>?_);have Ah:=E4.thenUpd Ae (λk hk=>by have Ac:k=Aa:=hk;omega);have A4:=Ae.1;have A5:=Z8.thenUpd Ae (λk hk=>by have Ac:k=Aa:=hk;omega);have A6:=E4.thenUpd Ae (λk hk=>by have Ac:k=Aa:=hk;omega);refine AGu (AG1<|⟨_,AVk AUm rfl rfl Ap,?_⟩)
  first
  | (have h0:L=[]:=List.length_eq_zero_iff.1 AGl
     subst h0
     exact ⟨Ah,⟨false,_,[],rfl,Akx _ _,Al9,AT7,by cases neg <;> rfl⟩⟩)
  | exact ⟨Ah,⟨neg,_,L,rfl,H.ext Ah,htl,hn,rfl⟩⟩
theorem Small_ok {n:Int} (hn: -9223372036854775808<=n/\n<=9223372036854775807) (h:AGz):ATz Tryz.prog 152 #[.int .i64 n] h λx h'=>Ext h h'/\ZV h' (Array.size h) x n:=by
 refine AUc (l:=[_]) mx Tryz.func152 rfl rfl rfl rfl rfl AG2 (AGq<|Aab [.bool false,.slice none 0 0] AYd rfl (λ_=>trivial) λAa h2 V3 E4 Az By=>?_);have Bz:Array.size h<=Aa:=Az;have B1:=E4.1;have Z8:=(Ext.refl h).trans E4;refine AGu<|AGs<|AGq<|AGm<|AXw rfl rfl (λA3=>?_) (λA3=>?_)
 ·refine AGu<|ATx rfl (AGq<|AGm<|Agr Afh AVy rfl ?_);rw [show IntKind.u64.wrap n=n + 18446744073709551616 by rw [wrap_u64];omega];refine Atu rfl ?_;rw [show IntKind.u64.wrap (0 - (n + 18446744073709551616))=((n.natAbs:Nat):Int) by rw [wrap_u64];omega];refine ATo trivial rfl (Ajx n.natAbs AGl _) λx9 B4 hk=>?_;obtain ⟨Ag,L1,Ah,Ao,Ap,A5⟩:=hk;refine ⟨trivial,?_⟩;have B5:=Ag.1;have A6:=Z8.trans Ag;have A7:=E4.trans Ag;have A8:=V3.ext Ag;have A9:=E4.trans Ag;refine ATo trivial rfl (Ad2 true Ah Ao AGl) λB6 B7 hk=>?_;obtain ⟨Ac,Aq⟩:=hk;refine ⟨trivial,?_⟩;have B8:=Ac.1;have Ba:=A6.trans Ac;have Bb:=A7.trans Ac;have Bc:=A8.ext Ac;have Be:=A9.trans Ac;have Bf:=Ah.ext Ac;obtain ⟨Ai,s2,L2,rfl,Aj,Au,Av,Aw⟩:=Aq.out;refine AVa [.bool Ai,s2] AUm rfl rfl rfl rfl (Ade Aj.cap) Bc λB9 Bg Ad=>?_;have Bh:=Bb.thenUpd Ad (λk hk=>by have Ak:k=Aa:=hk;omega);have Ca:=Ad.1;have Cb:=Ba.thenUpd Ad (λk hk=>by have Ak:k=Aa:=hk;omega);have Cd:=Be.thenUpd Ad (λk hk=>by have Ak:k=Aa:=hk;omega);have Ce:=Bf.updLo Ad AGl;have Bi:=Aj.updLo Ad AGl;refine AGu<|AG1<|ATd<|⟨_,AVk AUm rfl rfl Bg,?_⟩;exact ⟨Bh,⟨Ai,s2,L2,rfl,Bi.mono AGl,Au,Av,by rw [<- Aw,Ap];unfold sgn;first | (rw [if_pos rfl];omega) | (rw [if_neg AGn];omega)⟩⟩
 ·refine AGu<|AT0 rfl (AG0<|q_t<|AGq<|AGm<|Agr Afh AVy rfl ?_);rw [show IntKind.u64.wrap n=((n.natAbs:Nat):Int) by rw [wrap_u64];omega];refine ATo trivial rfl (Ajx n.natAbs AGl _) λCf Cg hk=>?_;obtain ⟨Am,L1,Ah,Ao,Ap,A5⟩:=hk;refine ⟨trivial,?_⟩;have Ch:=Am.1;have Bj:=Z8.trans Am;have Bl:=E4.trans Am;have Bm:=V3.ext Am;have Bn:=E4.trans Am;refine ATo trivial rfl (Ad2 false Ah Ao AGl) λCi Cj hk=>?_;obtain ⟨Ae,Aq⟩:=hk;refine ⟨trivial,?_⟩;have Ck:=Ae.1;have Bo:=Bj.trans Ae;have Bp:=Bl.trans Ae;have Bq:=Bm.ext Ae;have Br:=Bn.trans Ae;have Bt:=Ah.ext Ae;obtain ⟨Ai,s2,L2,rfl,Aj,Au,Av,Aw⟩:=Aq.out;refine AVa [.bool Ai,s2] AUm rfl rfl rfl rfl (Ade Aj.cap) Bq λCm Bu Af=>?_;have Bv:=Bp.thenUpd Af (λk hk=>by have Ak:k=Aa:=hk;omega);have Cn:=Af.1;have Co:=Bo.thenUpd Af (λk hk=>by have Ak:k=Aa:=hk;omega);have Cp:=Br.thenUpd Af (λk hk=>by have Ak:k=Aa:=hk;omega);have Cq:=Bt.updLo Af AGl;have Bw:=Aj.updLo Af AGl;refine AGu<|AG1<|⟨_,AVk AUm rfl rfl Bu,?_⟩;exact ⟨Bv,⟨Ai,s2,L2,rfl,Bw.mono AGl,Au,Av,by rw [<- Aw,Ap];unfold sgn;first | (rw [if_pos rfl];omega) | (rw [if_neg AGn];omega)⟩⟩
theorem Asb {lo:Nat} {L:List Nat} (H:DS h lo v L) (hn:L.length<=1000000):ATz Tryz.prog 192 #[v] h λx h'=>Ext h h'/\DS h' (Array.size h) x L:=by
 obtain ⟨a,n,c,rfl,hnc⟩:=H.cap;refine AUc (l:=[_]) mx Tryz.func192 rfl rfl rfl rfl rfl AG2 (AGq<|AGx<|AGs<|AGq<|AGm<|BAu Tryz.underlying127 rfl ?_);cases Ad:a.isNone
 ·refine AGu<|AT0 rfl (AG0<|q_t<|AGs ?_);obtain ⟨xa,rfl⟩:∃ q,a=some q:=Option.ne_none_iff_exists'.1 (λhe=>by rw [he] at Ad;cases Ad);refine AS8<|BGc ATr (λ_=>trivial) λg1 v1 h1 Af E1 Ag Ap=>?_;have Aq:=E1.1;have Z2:=(Ext.refl h).trans E1;refine AGm ?_;by_cases hL:L=[]
  ·subst hL;obtain rfl:n=0:=A60 H;refine BDv ATr (λ_=>trivial) rfl Af rfl λv2 h2 Ab U2=>AGx<|AG1<|⟨_,AS5,?_⟩;exact ⟨E1.thenUpd U2 (λk hk=>by have Ai:k=g1:=hk;omega),Ab.ds H.dig Ag⟩
  refine BCz ATr Afo rfl trivial rfl Af rfl (H.sl.ext E1) (λu hu=>by obtain ⟨y,_,rfl⟩:=List.mem_map.1 hu;rfl) (by simpa using hL) (by simp;omega) (by simp;omega) λv2 g2 h2 Ab Ak U2=>?_;refine ⟨trivial,?_⟩;have XZ:=E1.thenUpd U2 (λk hk=>by have Ai:k=g1:=hk;omega);have hg2l:Array.size h<=g2:=by rcases Ak with rfl | rfl;exact Ag;omega
  refine AGx<|AG1<|⟨_,AS5,?_⟩;exact ⟨XZ,Ab.ds H.dig hg2l⟩
 ·refine AGu<|ATx rfl (AGs ?_);have h0:L=[]:=BAv (Option.isNone_iff_eq_none.1<|by assumption) H;refine AS8<|AGx<|AG1<|ATd<|⟨_,AS5,?_⟩;subst h0;exact ⟨Ext.refl _,Akx _ _⟩
def AZd (z:Int):Int:=if z < 0 then -1 else if z=0 then 0 else 1
theorem sign_zero {z:Int} (h:z=0):AZd z=0:=by subst h;rfl
theorem sign_neg {z:Int} (h:z < 0):AZd z= -1:=if_pos h
theorem Ak3 {z:Int} (h:0 < z):AZd z=1:=by unfold AZd;omega
theorem Sign_ok {lo:Nat} {z:Int} (HA:ZV h lo va z):ATz Tryz.prog 155 #[va] h λx h'=>Ext h h'/\x= .int .i64 (AZd z):=by
 obtain ⟨na,sa,LA,rfl,HDa,htla,hla,hza⟩:=HA.out;have hna:LA.length<=1000000:=by omega
 refine AUc (l:=[_]) mx Tryz.func155 rfl rfl rfl rfl rfl AG2 (AGq<|Adj [.bool na,sa] (λ_=>trivial) rfl rfl λAj h2 V3 E4 Ak Aq=>?_);have Ar:Array.size h<=Aj:=Ak;have Au:=E4.1;have Z8:=(Ext.refl h).trans E4;refine AGx<|AGs<|AGt<|AGq<|AY4 (fs:=1) Af5 AG2 AGn rfl (AT6 Aa7 rfl (V3.cell (i:=1) rfl) (ATo trivial rfl (Agn (DS.mono (HDa.ext E4)<|Nat.zero_le _) hna) λx9 h2 hk=>?_));obtain ⟨rfl,L1,Af,Ag⟩:=hk;refine ⟨trivial,?_⟩;have Am:=Af.ds (lo:=lo) HDa.lo;refine AUv ATr rfl Am (Amm rfl rfl (λAo=>?_) (λAo=>?_))
 ·refine AGx (ATx rfl (AGq<|AGx<|AG1<|AUg<|ATd<|⟨_,AS5,?_⟩))
  first
  | (have h0:L1=[]:=List.length_eq_zero_iff.1 AGl
     have h1:nv LA=0:=by rw [<- Af.val,h0];rfl
     exact ⟨E4,congrArg (Value.int .i64) (sign_zero<|hza.trans (by rw [h1];cases na <;> rfl)).symm⟩)
  | (have h1:nv LA≠0:=λh0=>by rw [<- Af.val] at h0;have:=congrArg List.length<|Aaf Ag h0;rw [List.length_nil] at this;omega
     have h2:z=sgn na (nv LA):=hza
     have h3:na=true:=by assumption
     exact ⟨E4,congrArg (Value.int .i64) (sign_neg (by rw [h2,h3];unfold sgn;rw [if_pos rfl];omega)).symm⟩)
  | (have h1:nv LA≠0:=λh0=>by rw [<- Af.val] at h0;have:=congrArg List.length<|Aaf Ag h0;rw [List.length_nil] at this;omega
     have h2:z=sgn na (nv LA):=hza
     have h3:na=false:=by assumption
     exact ⟨E4,congrArg (Value.int .i64) (Ak3 (by rw [h2,h3];unfold sgn;rw [if_neg AGn];omega)).symm⟩)
 ·refine AGx<|AT0 rfl (AGq<|AY4 (fs:=1) Aff AG2 AGn rfl (AT6 AXb rfl (V3.cell (i:=0) rfl) (AGx<|⟨_,rfl,λAp=>?_,λAp=>?_⟩)))
  ·refine AGq (AGx<|AG1<|AUg<|ATd<|⟨_,AS5,?_⟩)
   first
   | (have h0:L1=[]:=List.length_eq_zero_iff.1 AGl
      have h1:nv LA=0:=by rw [<- Af.val,h0];rfl
      exact ⟨E4,congrArg (Value.int .i64) (sign_zero<|hza.trans (by rw [h1];cases na <;> rfl)).symm⟩)
   | (have h1:nv LA≠0:=λh0=>by rw [<- Af.val] at h0;have:=congrArg List.length<|Aaf Ag h0;rw [List.length_nil] at this;omega
      have h2:z=sgn na (nv LA):=hza
      have h3:na=true:=by assumption
      exact ⟨E4,congrArg (Value.int .i64) (sign_neg (by rw [h2,h3];unfold sgn;rw [if_pos rfl];omega)).symm⟩)
   | (have h1:nv LA≠0:=λh0=>by rw [<- Af.val] at h0;have:=congrArg List.length<|Aaf Ag h0;rw [List.length_nil] at this;omega
      have h2:z=sgn na (nv LA):=hza
      have h3:na=false:=by assumption
      exact ⟨E4,congrArg (Value.int .i64) (Ak3 (by rw [h2,h3];unfold sgn;rw [if_neg AGn];omega)).symm⟩)
  ·refine AG0 (q_b<|q_t<|AGq<|AGx<|AG1<|⟨_,AS5,?_⟩)
   first
   | (have h0:L1=[]:=List.length_eq_zero_iff.1 AGl
      have h1:nv LA=0:=by rw [<- Af.val,h0];rfl
      exact ⟨E4,congrArg (Value.int .i64) (sign_zero<|hza.trans (by rw [h1];cases na <;> rfl)).symm⟩)
   | (have h1:nv LA≠0:=λh0=>by rw [<- Af.val] at h0;have:=congrArg List.length<|Aaf Ag h0;rw [List.length_nil] at this;omega
      have h2:z=sgn na (nv LA):=hza
      have h3:na=true:=by assumption
      exact ⟨E4,congrArg (Value.int .i64) (sign_neg (by rw [h2,h3];unfold sgn;rw [if_pos rfl];omega)).symm⟩)
   | (have h1:nv LA≠0:=λh0=>by rw [<- Af.val] at h0;have:=congrArg List.length<|Aaf Ag h0;rw [List.length_nil] at this;omega
      have h2:z=sgn na (nv LA):=hza
      have h3:na=false:=by assumption
      exact ⟨E4,congrArg (Value.int .i64) (Ak3 (by rw [h2,h3];unfold sgn;rw [if_neg AGn];omega)).symm⟩)
theorem Neg_ok {lo:Nat} {z:Int} (HA:ZV h lo va z):ATz Tryz.prog 190 #[va] h λx h'=>Ext h h'/\ZV h' (Array.size h) x (-z):=by
 obtain ⟨na,sa,LA,rfl,HDa,htla,hla,hza⟩:=HA.out;have hna:LA.length<=1000000:=by omega
 refine AUc (l:=[_]) mx Tryz.func190 rfl rfl rfl rfl rfl AG2 (AGq<|Adj [.bool na,sa] (λ_=>trivial) rfl rfl λAm h2 V3 E4 Az Bx=>?_);have By:Array.size h<=Am:=Az;have Bz:=E4.1;have Z8:=(Ext.refl h).trans E4;refine Aab [.bool false,.slice none 0 0] AYd rfl (λ_=>trivial) λAd Ah A4 Ae A5 B1=>?_;have B3:Array.size h<=Ad:=Nat.le_trans E4.1 A5;have nebq1bq9:Am≠Ad:=by have:=V3.lt;omega
 have B4:=Ae.1;have A6:=Z8.trans Ae;have Ap:=E4.trans Ae;have Aq:=V3.ext Ae;have A7:=E4.trans Ae;refine AGu<|AGs<|AVn (λh'=>Ext Ah h') AG2 ?_;have Af:=Ext.refl Ah;refine AY4 (fs:=1) Aff AG2 AGn rfl (AVg AXb rfl Af (λh' hb=>(Aq.ext hb).cell (i:=0) rfl) (AV5 rfl (AY4 (fs:=1) Af5 AG2 AGn rfl (AVg Aa7 rfl Af (λh' hb=>(Aq.ext hb).cell (i:=1) rfl) (ATo Af rfl (Agn (DS.mono (HDa.ext Ap)<|Nat.zero_le _) hna) λB5 Ah hk=>?_)))));obtain ⟨rfl,L1,Ai,A8⟩:=hk;refine ⟨Af,?_⟩;have A9:=Ai.ds (lo:=lo) HDa.lo;have Ar:=Ai.val;have B7:=Ai.len;refine ATo Af rfl (Asb A9 AGl) λB8 B9 hk=>?_;obtain ⟨Ab,Au⟩:=hk;have Aj:=Af.trans Ab;refine ⟨Aj,?_⟩;have Ca:=Ab.1;have Ba:=A6.trans Ab;have Bb:=Ap.trans Ab;have Bc:=A7.trans Ab;have Be:=A4.ext Ab;have Bf:=Ae.trans Ab;refine ATo Aj rfl (Ad2 (!na) Au A8 AGl) λCb Cd hk=>?_;obtain ⟨Aa,Bg⟩:=hk;have Bh:=Aj.trans Aa;refine ⟨Bh,?_⟩;have Ce:=Aa.1;have Bi:=Ba.trans Aa;have Bj:=Bb.trans Aa;have Bl:=Bc.trans Aa;have Bm:=Be.ext Aa;have Bn:=Bf.trans Aa;have Bo:=Au.ext Aa;obtain ⟨Av,s3,L3,rfl,Ax,Bq,Br,Ay⟩:=Bg.out;refine AVa [.bool Av,s3] AUm rfl rfl rfl rfl (Ade Ax.cap) Bm λCf Bt Ac=>?_;have Bu:=Bj.thenUpd Ac (λk hk=>by have Ak:k=Ad:=hk;omega);have Cg:=Ac.1;have Ch:=Bi.thenUpd Ac (λk hk=>by have Ak:k=Ad:=hk;omega);have Ci:=Bn.thenUpd Ac (λk hk=>by have Ak:k=Ad:=hk;omega);have Cj:=Bl.thenUpd Ac (λk hk=>by have Ak:k=Ad:=hk;omega);have Ck:=Bo.updLo Ac AGl;have Bv:=Ax.updLo Ac AGl;refine AGu<|AG1<|⟨_,AVk AUm rfl rfl Bt,?_⟩;exact ⟨Bu,⟨Av,s3,L3,rfl,Bv.mono AGl,Bq,Br,by first | (rw [<- Ay,Ar,hza];done) | (rw [<- Ay,Ar,hza];cases na <;> simp [sgn])⟩⟩
theorem Normalize_ok {lo:Nat} {z:Int} (HA:ZV h lo va z):ATz Tryz.prog 156 #[va] h λx h'=>Ext h h'/\ZV h' (Array.size h) x (z):=by
 obtain ⟨na,sa,LA,rfl,HDa,htla,hla,hza⟩:=HA.out;have hna:LA.length<=1000000:=by omega
 refine AUc (l:=[_]) mx Tryz.func156 rfl rfl rfl rfl rfl AG2 (AGq<|Adj [.bool na,sa] (λ_=>trivial) rfl rfl λAm h2 V3 E4 Az Bx=>?_);have By:Array.size h<=Am:=Az;have Bz:=E4.1;have Z8:=(Ext.refl h).trans E4;refine Aab [.bool false,.slice none 0 0] AYd rfl (λ_=>trivial) λAd Ah A4 Ae A5 B1=>?_;have B3:Array.size h<=Ad:=Nat.le_trans E4.1 A5;have nebq1bq9:Am≠Ad:=by have:=V3.lt;omega
 have B4:=Ae.1;have A6:=Z8.trans Ae;have Ap:=E4.trans Ae;have Aq:=V3.ext Ae;have A7:=E4.trans Ae;refine AGu<|AGs<|AVn (λh'=>Ext Ah h') AG2 ?_;have Af:=Ext.refl Ah;refine AY4 (fs:=1) Aff AG2 AGn rfl (AVg AXb rfl Af (λh' hb=>(Aq.ext hb).cell (i:=0) rfl) (AY4 (fs:=1) Af5 AG2 AGn rfl (AVg Aa7 rfl Af (λh' hb=>(Aq.ext hb).cell (i:=1) rfl) (ATo Af rfl (Agn (DS.mono (HDa.ext Ap)<|Nat.zero_le _) hna) λB5 Ah hk=>?_))));obtain ⟨rfl,L1,Ai,A8⟩:=hk;refine ⟨Af,?_⟩;have A9:=Ai.ds (lo:=lo) HDa.lo;have Ar:=Ai.val;have B7:=Ai.len;refine ATo Af rfl (Asb A9 AGl) λB8 B9 hk=>?_;obtain ⟨Ab,Au⟩:=hk;have Aj:=Af.trans Ab;refine ⟨Aj,?_⟩;have Ca:=Ab.1;have Ba:=A6.trans Ab;have Bb:=Ap.trans Ab;have Bc:=A7.trans Ab;have Be:=A4.ext Ab;have Bf:=Ae.trans Ab;refine ATo Aj rfl (Ad2 na Au A8 AGl) λCb Cd hk=>?_;obtain ⟨Aa,Bg⟩:=hk;have Bh:=Aj.trans Aa;refine ⟨Bh,?_⟩;have Ce:=Aa.1;have Bi:=Ba.trans Aa;have Bj:=Bb.trans Aa;have Bl:=Bc.trans Aa;have Bm:=Be.ext Aa;have Bn:=Bf.trans Aa;have Bo:=Au.ext Aa;obtain ⟨Av,s3,L3,rfl,Ax,Bq,Br,Ay⟩:=Bg.out;refine AVa [.bool Av,s3] AUm rfl rfl rfl rfl (Ade Ax.cap) Bm λCf Bt Ac=>?_;have Bu:=Bj.thenUpd Ac (λk hk=>by have Ak:k=Ad:=hk;omega);have Cg:=Ac.1;have Ch:=Bi.thenUpd Ac (λk hk=>by have Ak:k=Ad:=hk;omega);have Ci:=Bn.thenUpd Ac (λk hk=>by have Ak:k=Ad:=hk;omega);have Cj:=Bl.thenUpd Ac (λk hk=>by have Ak:k=Ad:=hk;omega);have Ck:=Bo.updLo Ac AGl;have Bv:=Ax.updLo Ac AGl;refine AGu<|AG1<|⟨_,AVk AUm rfl rfl Bt,?_⟩;exact ⟨Bu,⟨Av,s3,L3,rfl,Bv.mono AGl,Bq,Br,by first | (rw [<- Ay,Ar,hza];done) | (rw [<- Ay,Ar,hza];cases na <;> simp [sgn])⟩⟩
def Ahn (a b:Nat):Int:=if a < b then -1 else if a=b then 0 else 1
theorem Aea {a b:Nat} (h:a < b):Ahn a b= -1:=if_pos h
theorem Aeb {a b:Nat} (h:b < a):Ahn a b=1:=by unfold Ahn;omega
theorem Ak4 {a b:Nat} (h:a=b):Ahn a b=0:=by unfold Ahn;omega
theorem Aec {A:List Nat} (ha:Dig A) (hb:TL B) (h:A.length < B.length):nv A < nv B:=by
 have h1:=Ahh ha;have h2:=A6y hb (λhe=>by grind);have h3:4294967296 ^ A.length<=4294967296 ^ (B.length - 1):=Nat.pow_le_pow_right AGn AGl;omega
theorem Aed {A:List Nat} (ha:Dig A) (hb:Dig B) {x y:Nat} (hl:A.length=B.length) (hx:A[i]? =some x) (hy:B[i]? =some y) (hxy:x < y) (hs:∀ q,i < q->A[q]? =B[q]?):nv A < nv B:=by
 have hi:=(List.getElem?_eq_some_iff.1 hx).1;have hd:A.drop (i + 1)=B.drop (i + 1):=List.ext_getElem? λq=>by grind
 have e:∀ L:List Nat,nv L=nv (L.take<|i + 1) + 4294967296 ^ (L.take<|i + 1).length * nv (L.drop<|i + 1):=λL=>by rw [<- Aph,List.take_append_drop]
 rw [e A,e B,hd,AU3 hx,AU3 hy,List.length_take,List.length_take,hl];have h1:=Aky ha (i:=i) AGl;have h2:4294967296 ^ i * (x + 1)<=4294967296 ^ i * y:=Nat.mul_le_mul_left _ hxy;grind
theorem Ap8 (HA:DS h la va LA) (HB:DS h lb vb LB) (hta:TL LA) (htb:TL LB) (hna:LA.length<=1000000) (hnb:LB.length<=1000000):ATz Tryz.prog 204 #[va,vb] h λx h'=>h'=h/\x= .int .i64 (Ahn (nv LA)<|nv LB):=by
 refine AUc (l:=[_,_]) mx Tryz.func204 rfl rfl rfl rfl rfl AG2 (AGq<|AGx<|AGs<|AGt<|AGq<|AGm<|AUv ATr rfl HA (AGm<|AUv ATr rfl HB (AXw rfl rfl (λAc=>?_) (λAc=>?_))))
 ·refine AGx (ATx rfl (AGq<|AGx<|AG1<|AUg<|ATd<|⟨_,AS5,?_⟩))
  first
  | exact ⟨rfl,congrArg (Value.int .i64) (Aea<|Aec HA.dig htb AGl).symm⟩
  | exact ⟨rfl,congrArg (Value.int .i64) (Aeb<|Aec HB.dig hta AGl).symm⟩
  | exact ⟨rfl,congrArg (Value.int .i64) (Aea<|Aed HA.dig HB.dig AGl hx hy AGl λq hq=>hsame q AGl).symm⟩
  | exact ⟨rfl,congrArg (Value.int .i64) (Aeb<|Aed HB.dig HA.dig AGl hy hx AGl λq hq=>(hsame q AGl).symm).symm⟩
  | exact ⟨rfl,congrArg (Value.int .i64) (Ak4<|congrArg nv<|List.ext_getElem? λq=>hsame q AGl).symm⟩
 ·refine AGx<|AT0 rfl (AGq<|AGm<|AUv ATr rfl HA (AGm<|AUv ATr rfl HB (Akt rfl rfl (λAd=>?_) (λAd=>?_))))
  ·refine AGx (ATx rfl (AGq<|AGx<|AG1<|AUg<|ATd<|⟨_,AS5,?_⟩))
   first
   | exact ⟨rfl,congrArg (Value.int .i64) (Aea<|Aec HA.dig htb AGl).symm⟩
   | exact ⟨rfl,congrArg (Value.int .i64) (Aeb<|Aec HB.dig hta AGl).symm⟩
   | exact ⟨rfl,congrArg (Value.int .i64) (Aea<|Aed HA.dig HB.dig AGl hx hy AGl λq hq=>hsame q AGl).symm⟩
   | exact ⟨rfl,congrArg (Value.int .i64) (Aeb<|Aed HB.dig HA.dig AGl hy hx AGl λq hq=>(hsame q AGl).symm).symm⟩
   | exact ⟨rfl,congrArg (Value.int .i64) (Ak4<|congrArg nv<|List.ext_getElem? λq=>hsame q AGl).symm⟩
  ·refine AGx<|AT0 rfl (AG0<|q_b<|q_t<|AGs<|AGq<|AGm<|AUv ATr rfl HA (Ags rfl rfl AGl AGl (AGx<|AGt<|AYg 35184369991728 (λi:Nat=>[(5,.int .i64<|(i:Int) - 1)]) (λk i h'=>h'=h/\i=k/\i<=LA.length/\ ∀ q,i<=q->LA[q]? =LB[q]?) AG2 LA.length LA.length ?_ ⟨rfl,trivial⟩ ?_)))
   ·exact ⟨rfl,rfl,Nat.le_refl _,λq hq=>by rw [List.getElem?_eq_none hq,List.getElem?_eq_none AGl]⟩
   rintro k i s1 h ⟨rfl,rfl,hi,hsame⟩;refine AGs<|AGq<|AGm<|Aor rfl rfl (λAe=>?_) (λAe=>?_)
   ·refine AGu<|ATx rfl (AG0<|q_t<|AGs<|AGt<|AGt<|AGs ?_);obtain ⟨x,hx⟩:∃ x,LA[i - 1]? =some x:=⟨_,List.getElem?_eq_getElem AGl⟩;obtain ⟨y,hy⟩:∃ y,LB[i - 1]? =some y:=⟨_,List.getElem?_eq_getElem AGl⟩;have e1:((i:Int) - 1)=((i - 1:Nat):Int):=by omega
    refine Aks AG2<|AGm<|AGm<|Acn (n:=i - 1) ATr rfl HA (show Value.int .i64 ((i:Int) - 1)=_ by rw [e1]) hx λa1 Af=>?_;refine AT6 AVp rfl Af (AGm<|AGm<|Acn (n:=i - 1) ATr rfl HB (show Value.int .i64 ((i:Int) - 1)=_ by rw [e1]) hy λa2 Ag=>?_);refine AT6 AVp rfl Ag (AXw rfl rfl (λAh=>?_) (λAh=>?_))
    ·refine AGx (ATx rfl (AGq<|AGx<|AG1<|AUg<|AUg<|ATd<|ATd<|AUg<|ATd<|⟨_,AS5,?_⟩))
     first
     | exact ⟨rfl,congrArg (Value.int .i64) (Aea<|Aec HA.dig htb AGl).symm⟩
     | exact ⟨rfl,congrArg (Value.int .i64) (Aeb<|Aec HB.dig hta AGl).symm⟩
     | exact ⟨rfl,congrArg (Value.int .i64) (Aea<|Aed HA.dig HB.dig AGl hx hy AGl λq hq=>hsame q AGl).symm⟩
     | exact ⟨rfl,congrArg (Value.int .i64) (Aeb<|Aed HB.dig HA.dig AGl hy hx AGl λq hq=>(hsame q AGl).symm).symm⟩
     | exact ⟨rfl,congrArg (Value.int .i64) (Ak4<|congrArg nv<|List.ext_getElem? λq=>hsame q AGl).symm⟩
    ·refine AGx<|AT0 rfl (AGs<|Aks AG2<|AGm<|AGm<|Acn (n:=i - 1) ATr rfl HA (show Value.int .i64 ((i:Int) - 1)=_ by rw [e1]) hx λa3 Ai=>?_);refine AT6 AVp rfl Ai (AGm<|AGm<|Acn (n:=i - 1) ATr rfl HB (show Value.int .i64 ((i:Int) - 1)=_ by rw [e1]) hy λa4 Aj=>?_);refine AT6 AVp rfl Aj (Akt rfl rfl (λAk=>?_) (λAk=>?_))
     ·refine AGx (ATx rfl (AGq<|AGx<|AG1<|AUg<|AUg<|ATd<|ATd<|AUg<|ATd<|⟨_,AS5,?_⟩))
      first
      | exact ⟨rfl,congrArg (Value.int .i64) (Aea<|Aec HA.dig htb AGl).symm⟩
      | exact ⟨rfl,congrArg (Value.int .i64) (Aeb<|Aec HB.dig hta AGl).symm⟩
      | exact ⟨rfl,congrArg (Value.int .i64) (Aea<|Aed HA.dig HB.dig AGl hx hy AGl λq hq=>hsame q AGl).symm⟩
      | exact ⟨rfl,congrArg (Value.int .i64) (Aeb<|Aed HB.dig HA.dig AGl hy hx AGl λq hq=>(hsame q AGl).symm).symm⟩
      | exact ⟨rfl,congrArg (Value.int .i64) (Ak4<|congrArg nv<|List.ext_getElem? λq=>hsame q AGl).symm⟩
     ·refine AGx<|AT0 rfl (AG0<|q_b<|q_b<|q_t<|AS8<|AGm<|Ags rfl rfl AGl AGl (AGx ?_));exact ⟨i - 1,i - 1,AGl,⟨rfl,rfl,AGl,λq hq=>by rcases Nat.lt_or_ge q i with h2 | h2;obtain rfl:q=i - 1:=AGl;rw [hx,hy];congr 1;omega;exact hsame q h2⟩,by rw [show ((i - 1:Nat):Int) - 1=(i:Int) - 1 - 1 by omega];rfl,trivial⟩
   ·refine AGu (AT0 rfl (ATh<|ATi<|ATi<|AUf<|q_t<|AGq<|AGx<|AG1<|⟨_,AS5,?_⟩))
    first
    | exact ⟨rfl,congrArg (Value.int .i64) (Aea<|Aec HA.dig htb AGl).symm⟩
    | exact ⟨rfl,congrArg (Value.int .i64) (Aeb<|Aec HB.dig hta AGl).symm⟩
    | exact ⟨rfl,congrArg (Value.int .i64) (Aea<|Aed HA.dig HB.dig AGl hx hy AGl λq hq=>hsame q AGl).symm⟩
    | exact ⟨rfl,congrArg (Value.int .i64) (Aeb<|Aed HB.dig HA.dig AGl hy hx AGl λq hq=>(hsame q AGl).symm).symm⟩
    | exact ⟨rfl,congrArg (Value.int .i64) (Ak4<|congrArg nv<|List.ext_getElem? λq=>hsame q AGl).symm⟩
theorem Awp (HA:DS h la va LA) (HB:DS h lb vb LB) (hna:LA.length<=1000) (hnb:LB.length<=1000):ATz Tryz.prog 194 #[va,vb] h λx h'=>Ext h h'/\ ∃ L,DS h' (Array.size h) x L/\TL L/\nv L=nv LA + nv LB/\L.length<=1001:=by
 refine AUc (l:=[_,_]) mx Tryz.func194 rfl rfl rfl rfl rfl AG2 (AGq<|AGx<|Aon 65027 (λy:Value × Value × List Nat × List Nat=>[(0,y.1),(1,y.2.1)]) (λy h'=>h'=h/\DS h 0 y.1 y.2.2.1/\DS h 0 y.2.1 y.2.2.2/\y.2.2.2.length<=y.2.2.1.length/\y.2.2.1.length<=1000/\nv y.2.2.1 + nv y.2.2.2=nv LA + nv LB) AG2 ?_ ?_)
 ·refine AGq<|AGm<|AUv ATr rfl HA (AGm<|AUv ATr rfl HB (AXw rfl rfl (λAo=>?_) (λAo=>?_)))
  ·refine AGu<|ATx rfl (AS8<|AGm<|AGm<|ATs<|AGx ?_);exact ⟨(_,_,LB,LA),⟨rfl,HB.mono<|Nat.zero_le _,HA.mono<|Nat.zero_le _,by first | omega | (dsimp only;omega),hnb,Nat.add_comm _ _⟩,rfl,rfl,trivial⟩
  ·refine AGu<|AT0 rfl (AG0<|q_t ?_);exact ⟨(_,_,LA,LB),⟨rfl,HA.mono<|Nat.zero_le _,HB.mono<|Nat.zero_le _,by first | omega | (dsimp only;omega),hna,rfl⟩,rfl,rfl,trivial⟩
 rintro ⟨A9,Ba,A,B⟩ s0 h ⟨rfl,HX,HY,hBA,Ap,hsum⟩;dsimp only at HX HY hBA Ap hsum ⊢;refine AGq<|AGm<|AUv ATr rfl HX (Ai9 (b:=1) rfl rfl AGl (At8 (n:=A.length + 1) ATr Afo (λ_=>trivial) rfl rfl AGn AGl λg1 v1 h1 Aq E1 Ar Be=>?_));have Bf:=E1.1;have Z2:=(Ext.refl h).trans E1;refine AT2<|AGx<|AGs<|AGq<|AGm<|AUv ATr rfl (HY.ext E1) (AGm<|AGu<|AGt<|AYg 70368739983552 (λy:Nat × Nat=>[(22,.int .i64 (y.1:Int)),(6,.int .u64 (y.2:Int))]) (λk y h'=>k=B.length - y.1/\y.1<=B.length/\Ext h h'/\y.2<=1/\ ∃ D,AWv h' 200 g1 v1 ((D ++ List.replicate ((A.length + 1) - y.1) 0).map Ahq)/\D.length=y.1/\Dig D/\nv D + 4294967296 ^ y.1 * y.2=nv (A.take y.1) + nv (B.take y.1)) AG2 B.length (0,0) ?_ ⟨rfl,rfl,trivial⟩ ?_)
 ·exact ⟨rfl,Nat.zero_le _,E1,by first | omega | (dsimp only;omega),[],by simpa using Aq,rfl,λx hx=>(by simp at hx),rfl⟩
 rintro k ⟨i,c⟩ s1 h2 ⟨rfl,hi,E2,hc,D,Ag,hDl,hDd,hDv⟩;dsimp only at hi hc Ag hDl hDv ⊢;have Bi:=E2.1;refine AGq<|AXw rfl rfl (λAu=>?_) (λAu=>?_)
 ·refine AGu<|AGs<|ATx rfl (AG0<|q_t<|AGs<|AGt<|AGq<|AGm<|AGx<|AGs ?_);obtain ⟨x,hx⟩:∃ x,A[i]? =some x:=⟨_,List.getElem?_eq_getElem AGl⟩;have hbx:=HX.dig x<|List.mem_of_getElem? hx;obtain ⟨y,hy⟩:∃ x,B[i]? =some x:=⟨_,List.getElem?_eq_getElem AGl⟩;have hby:=HY.dig y<|List.mem_of_getElem? hy;refine Aks AG2<|AGm<|AGm<|AGm<|Acn ATr rfl (HX.ext E2) rfl hx λBj Av=>AT6 AVp rfl Av (Ama AWj AVy rfl hbx (AGm<|AGm<|Acn ATr rfl (HY.ext E2) rfl hy λBl Aw=>AT6 AVp rfl Aw (Ama AWj AVy rfl hby (Ais rfl rfl AGl (Ais rfl rfl AGl (AT2<|AGm<|AGm<|AGm<|An9 AVy AWj rfl (Amk ATr rfl Ag rfl (by simp;omega) ?_)))))));refine An8 (D ++ [(c + (x + y)) % 4294967296] ++ List.replicate (A.length + 1 - (i + 1)) 0) AVp rfl rfl Ag (by simp;omega) (Ata hDl AGl) λh4 Ax U4=>?_;have Bn:=U4.1;have X7:=E2.thenUpd U4 (λk hk=>by have Ad:k=g1:=hk;omega);have Z8:=E2.thenUpd U4 (λk hk=>by have Ad:k=g1:=hk;omega);refine AGu<|AS8<|AGm<|Anj rfl rfl (ATs<|ATu<|q_b<|q_t<|AS8<|Ady rfl AGl (AGm<|AGu ?_));exact ⟨B.length - (i + 1),(i + 1,(c + (x + y)) / 4294967296),by first | omega | (dsimp only;omega),⟨rfl,by first | omega | (dsimp only;omega),X7,by first | omega | (dsimp only;omega),_,Ax,by simp [hDl],Agt hDd<|Nat.mod_lt _ AGn,by rw [Afi,hDl,Ank hDv,AU3 hx,AU3 hy,Nat.mul_add];omega⟩,rfl,rfl,trivial⟩
 ·refine AGu<|AGs<|AT0 rfl (ATh<|ATi<|ATi<|AUf<|q_t<|AGs<|AGq<|AGm<|AUv ATr rfl (HX.ext E2) (AGm<|AUv ATr rfl (HY.ext E2) (Ags rfl rfl AGl AGl ?_)));rw [show ((A.length:Nat):Int) - ((B.length:Nat):Int)=((A.length - B.length:Nat):Int) by omega];refine AGm<|AGu<|AGt ?_;obtain rfl:i=B.length:=by omega
  rw [List.take_length] at hDv;refine AYg 37778929611157348024640 (λy:Nat × Nat=>[(51,.int .i64 (y.1:Int)),(6,.int .u64 (y.2:Int))]) (λk y h'=>k=A.length - B.length - y.1/\y.1<=A.length - B.length/\Ext h h'/\y.2<=1/\ ∃ D,AWv h' 200 g1 v1 ((D ++ List.replicate ((A.length + 1) - (B.length + y.1)) 0).map Ahq)/\D.length=B.length + y.1/\Dig D/\nv D + 4294967296 ^ (B.length + y.1) * y.2=nv (A.take<|B.length + y.1) + nv B) AG2 (A.length - B.length) (0,c) ?_ ⟨rfl,rfl,trivial⟩ ?_
  ·exact ⟨rfl,Nat.zero_le _,E2,hc,D,Ag,hDl,hDd,hDv⟩
  rintro k ⟨j,c⟩ s2 h3 ⟨rfl,hj,E3,hc,D,Ae,hDl,hDd,hDv⟩;dsimp only at hj hc Ae hDl hDv ⊢;have Bq:=E3.1;refine AGq<|AXw rfl rfl (λAz=>?_) (λAz=>?_)
  ·refine AGu<|AGs<|ATx rfl (AG0<|q_t<|AGs<|AGt<|AGq<|AGm<|AGx<|AGs ?_);obtain ⟨x,hx⟩:∃ x,A[(B.length + j)]? =some x:=⟨_,List.getElem?_eq_getElem AGl⟩;have hbx:=HX.dig x<|List.mem_of_getElem? hx;refine AS8<|AGm<|AGm<|AGm<|AUv ATr rfl (HY.ext E3) (AGm<|Ai9 rfl rfl AGl (Acn ATr rfl (HX.ext E3) rfl hx λBr A3=>AT6 AVp rfl A3 (Ama AWj AVy rfl hbx (Ais rfl rfl AGl (AT2<|AGm<|AGm<|AUv ATr rfl (HY.ext E3) (AGm<|Ai9 rfl rfl AGl (AGm<|An9 AVy AWj rfl (Amk ATr rfl Ae rfl (by simp;omega) ?_))))))));refine An8 (D ++ [(c + x) % 4294967296] ++ List.replicate (A.length + 1 - (B.length + j + 1)) 0) AVp rfl rfl Ae (by simp;omega) (Ata hDl AGl) λh5 A4 U5=>?_;have Bu:=U5.1;have A5:=E3.thenUpd U5 (λk hk=>by have Ad:k=g1:=hk;omega);have Bv:=E3.thenUpd U5 (λk hk=>by have Ad:k=g1:=hk;omega);refine AGu<|AS8<|AGm<|Anj rfl rfl (ATs<|ATu<|q_b<|q_t<|AS8<|Ady rfl AGl (AGm<|AGu ?_));exact ⟨A.length - B.length - (j + 1),(j + 1,(c + x) / 4294967296),by first | omega | (dsimp only;omega),⟨rfl,by first | omega | (dsimp only;omega),A5,by first | omega | (dsimp only;omega),_,A4,by simp [hDl];omega,Agt hDd<|Nat.mod_lt _ AGn,by rw [Afi,hDl,<- Nat.add_assoc,Ank hDv,AU3 hx];omega⟩,rfl,rfl,trivial⟩
  ·refine AGu<|AGs<|AT0 rfl (ATh<|ATi<|ATi<|AUf<|q_t<|AGs ?_);obtain rfl:j=A.length - B.length:=by omega
   have hBj:B.length + (A.length - B.length)=A.length:=by omega
   rw [hBj,List.take_length] at hDv;rw [hBj] at hDl;refine AS8<|AGm<|AGm<|AUv ATr rfl (HX.ext E3) (AGm<|An9 AVy AWj rfl (Amk ATr rfl Ae rfl (by simp;omega) ?_));refine An8 (D ++ [c % 4294967296] ++ List.replicate (A.length + 1 - (A.length + 1)) 0) AVp rfl rfl Ae (by simp;omega) (by rw [hBj];exact Ata hDl AGl) λh6 Ak U6=>?_;have Bw:=U6.1;have A7:=E3.thenUpd U6 (λk hk=>by have Ad:k=g1:=hk;omega);have Bx:=E3.thenUpd U6 (λk hk=>by have Ad:k=g1:=hk;omega);rw [Nat.sub_self,List.replicate_zero,List.append_nil,Nat.mod_eq_of_lt AGl] at Ak;have Am:=Ak.ds (lo:=Array.size h) (Agt hDd AGl) Ar;refine Aal<|AGm<|ATo trivial rfl (Agn (Am.mono<|Nat.zero_le _) (by simp;omega)) λBy h6 hk=>?_;obtain ⟨rfl,L2,HT,htl⟩:=hk;refine ⟨trivial,?_⟩;refine AGx<|AG1<|⟨_,AS5,?_⟩;exact ⟨A7,L2,HT.ds Am.lo,htl,by rw [HT.val,Afi,hDl,hDv];exact hsum,by have:=HT.len;simp at this;omega⟩
theorem Asd (HA:DS h la va LA) (HB:DS h lb vb LB) (htb:TL LB) (hle:nv LB<=nv LA) (hna:LA.length<=1000):ATz Tryz.prog 195 #[va,vb] h λx h'=>Ext h h'/\ ∃ L,DS h' (Array.size h) x L/\TL L/\nv L=nv LA - nv LB/\L.length<=LA.length:=by
 refine AUc (l:=[_,_]) mx Tryz.func195 rfl rfl rfl rfl rfl AG2 (AGq<|AT2<|AGm<|AUv ATr rfl HA (At8 (n:=LA.length) ATr Afo (λ_=>trivial) rfl rfl AGn AGl λg1 v1 h1 Aj E1 Ak Az=>?_));have A3:=E1.1;have Z2:=(Ext.refl h).trans E1;refine AT2<|AGx<|AGs<|AGq<|AGm<|AUv ATr rfl (HA.ext E1) (AGm<|AGu<|AGt<|AYg 8796093006272 (λy:Nat × Nat=>[(14,.int .i64 (y.1:Int)),(6,.int .u64 (y.2:Int))]) (λk y h'=>k=LA.length - y.1/\y.1<=LA.length/\Ext h h'/\y.2<=1/\ ∃ D,AWv h' 200 g1 v1 ((D ++ List.replicate (LA.length - y.1) 0).map Ahq)/\D.length=y.1/\Dig D/\nv D + nv (LB.take y.1)=nv (LA.take y.1) + 4294967296 ^ y.1 * y.2) AG2 LA.length (0,0) ?_ ⟨rfl,rfl,trivial⟩ ?_)
 ·exact ⟨rfl,Nat.zero_le _,E1,by first | omega | (dsimp only;omega),[],by simpa using Aj,rfl,λx hx=>(by simp at hx),rfl⟩
 rintro k ⟨i,c⟩ s1 h2 ⟨rfl,hi,E2,hc,D,Ab,hDl,hDd,hDv⟩;dsimp only at hi hc Ab hDl hDv ⊢;have A5:=E2.1;refine AGq<|AXw rfl rfl (λAm=>?_) (λAm=>?_)
 ·refine AGu<|AGs<|ATx rfl (AG0<|q_t<|AGs<|AGt<|AGq<|AGm<|AGx<|AGs ?_);obtain ⟨x,hx⟩:∃ x,LA[i]? =some x:=⟨_,List.getElem?_eq_getElem AGl⟩;have hbx:=HA.dig x<|List.mem_of_getElem? hx;refine AS8<|AGm<|AGm<|Acn ATr rfl (HA.ext E2) rfl hx λA6 Ao=>AT6 AVp rfl Ao (Ama AWj AVy rfl hbx (AGm<|AVh rfl rfl ?_));rw [wrap_u64];refine AGx<|Aon 34342961408 (λs:Int=>[(8,.int .u64<|s % 18446744073709551616)]) (λs h'=>h'=h2/\s=((x:Int) - (c:Int) - ((LB[i]?.getD 0:Nat):Int))) AG2 ?_ ?_
  ·refine AGq<|AGm<|AGm<|AUv ATr rfl (HB.ext E2) (AXw rfl rfl (λAp=>?_) (λAp=>?_))
   ·refine AGu<|ATx rfl ?_;obtain ⟨y,Af⟩:∃ y,LB[i]? =some y:=⟨_,List.getElem?_eq_getElem AGl⟩;have hby:=HB.dig y<|List.mem_of_getElem? Af;refine AS8<|AGm<|AGm<|AGm<|Acn ATr rfl (HB.ext E2) rfl Af λA7 Aq=>AT6 AVp rfl Aq (Ama AWj AVy rfl hby (AVh rfl rfl (AGx ?_)));exact ⟨((x:Int) - (c:Int) - ((LB[i]?.getD 0:Nat):Int)),⟨rfl,rfl⟩,by rw [Af];show Value.int .u64 _=_;congr 1;rw [wrap_u64];simp only [Option.getD_some];omega,trivial⟩
   ·refine AGu<|AT0 rfl (AG0<|q_t ?_);exact ⟨((x:Int) - (c:Int) - ((LB[i]?.getD 0:Nat):Int)),⟨rfl,rfl⟩,by rw [List.getElem?_eq_none AGl];show Value.int .u64 _=_;congr 1;simp only [Option.getD_none];omega,trivial⟩
  rintro s s2 h2 ⟨rfl,hs⟩;obtain ⟨y,hy⟩:∃ y,LB[i]?.getD 0=y:=⟨_,rfl⟩;rw [hy] at hs;refine AGs ?_
  have hby:y < 4294967296:=by
   rw [<- hy]
   cases hq:LB[i]? with
   | none=>simp
   | some q=>exact HB.dig q<|List.mem_of_getElem? hq
  refine AS8<|AGm<|AGm<|AGm<|Agr AVy AWj rfl ?_;obtain ⟨dg,hdg⟩:∃ dg:Nat,(dg:Int)=s % 4294967296:=⟨(s % 4294967296).toNat,AGl⟩;rw [show IntKind.u32.wrap (s % 18446744073709551616)=(dg:Int) by rw [wrap_u32,hdg];omega];refine Amk ATr rfl Ab rfl (by simp;omega) ?_;refine An8 (D ++ [dg] ++ List.replicate (LA.length - (i + 1)) 0) AVp rfl rfl Ab (by simp;omega) (Ata hDl AGl) λh4 Ar U4=>?_;have A9:=U4.1;have X7:=E2.thenUpd U4 (λk hk=>by have Av:k=g1:=hk;omega);have Z8:=E2.thenUpd U4 (λk hk=>by have Av:k=g1:=hk;omega);refine AGu<|AS8<|AGm<|Asu (n:=63) rfl rfl AGn ?_;rw [show s % 18446744073709551616 / 2 ^ 63=((if s < 0 then 1 else 0:Nat):Int) by split <;> omega];refine ATs<|ATu<|q_b<|q_t<|AS8<|Ady rfl AGl (AGm<|AGu ?_);exact ⟨LA.length - (i + 1),(i + 1,if s < 0 then 1 else 0),by first | omega | (dsimp only;omega),⟨rfl,by first | omega | (dsimp only;omega),X7,by dsimp only;split <;> omega,_,Ar,by simp [hDl],Agt hDd AGl,by rw [Afi,hDl,Afj LB,hy,AU3 hx];exact Aox hDv (by split <;> omega)⟩,rfl,rfl,trivial⟩
 ·refine AGu<|AGs<|AT0 rfl (ATh<|ATi<|ATi<|AUf<|q_t<|AGs ?_);obtain rfl:i=LA.length:=by omega
  rw [List.take_length,List.take_of_length_le (by have:=Agf htb<|Nat.lt_of_le_of_lt hle<|Ahh HA.dig;omega)] at hDv;have hDlt:=Ahh hDd;rw [hDl] at hDlt
  have Aw:c=0:=by
   rcases Nat.eq_zero_or_pos c with h0 | h0
   ·exact h0
   ·obtain rfl:c=1:=by omega
    rw [Nat.mul_one] at hDv;omega
  subst Aw;rw [Nat.mul_zero,Nat.add_zero] at hDv;rw [Nat.sub_self,List.replicate_zero,List.append_nil] at Ab;have Ai:=Ab.ds (lo:=Array.size h) hDd Ak;refine AS8<|AGm<|ATo trivial rfl (Agn (Ai.mono<|Nat.zero_le _) AGl) λx9 h2 hk=>?_;obtain ⟨rfl,L2,HT,htl⟩:=hk;refine ⟨trivial,?_⟩;refine AGx<|AG1<|⟨_,AS5,?_⟩;exact ⟨E2,L2,HT.ds Ai.lo,htl,by rw [HT.val];omega,by have:=HT.len;omega⟩
theorem A8m {L:List Nat} (h:Dig L) (hl:L.length<=1):nv L<=4294967295:=by
 have h1:=Ahh h;have h2:4294967296 ^ L.length<=4294967296 ^ 1:=Nat.pow_le_pow_right AGn hl;omega
theorem A8n {A:List Nat} (ha:Dig A) (hb:Dig B) (la:A.length<=1) (lb:B.length<=1):nv A * nv B < 18446744073709551616:=by
 have:=Nat.mul_le_mul (A8m ha la)<|A8m hb lb;omega
theorem Ajc {a b:Nat} (h:0<=Ahn a b):b<=a:=by
 unfold Ahn at h;omega
theorem Anm {a b:Nat} (h:Ahn a b < 0):a<=b:=by
 unfold Ahn at h;omega
theorem Aud {A:List Nat} (ha:Dig A) (hb:Dig B) (la:A.length<=99) (lb:B.length<=99):nv A + nv B < 4294967296 ^ 100:=by
 have h1:=Ahh ha;have h2:=Ahh hb;have h3:4294967296 ^ A.length<=4294967296 ^ 99:=Nat.pow_le_pow_right AGn la;have h4:4294967296 ^ B.length<=4294967296 ^ 99:=Nat.pow_le_pow_right AGn lb;omega
theorem Ann {a b:Bool} {x y:Nat} (h:a=b):sgn a x + sgn b y=sgn a (x + y):=by
 subst h;cases a <;> simp [sgn] <;> omega
theorem Ano {a b:Bool} {x y:Nat} (h:a≠b) (hl:y<=x):sgn a x + sgn b y=sgn a (x - y):=by
 cases a <;> cases b <;> simp [sgn] at h ⊢ <;> omega
theorem Ak5 {a b:Bool} {x y:Nat} (h:a≠b) (hl:x<=y):sgn a x + sgn b y=sgn b (y - x):=by
 cases a <;> cases b <;> simp [sgn] at h ⊢ <;> omega
theorem Axx (na nb:Bool) (HA:DS h la va LA) (HB:DS h lb vb LB) (hta:TL LA) (htb:TL LB) (hna:LA.length<=99) (hnb:LB.length<=99):ATz Tryz.prog 203 #[.bool na,va,.bool nb,vb] h λx h'=>Ext h h'/\ZV h' (Array.size h) x (sgn na (nv LA) + sgn nb (nv LB)):=by
 refine AUc (l:=[_,_,_,_]) mx Tryz.func203 rfl rfl rfl rfl rfl AG2 (AGq<|Aab [.bool false,.slice none 0 0] AYd rfl (λ_=>trivial) λAb h2 V3 E4 A8 Cg=>?_);have Ch:Array.size h<=Ab:=A8;have Ci:=E4.1;have Z8:=(Ext.refl h).trans E4;refine AGu<|AGs<|AGt<|AGq<|AGm<|AGm<|Ay5 Apk rfl rfl ?_;cases Cj:na == nb
 ·refine AGx<|AT0 rfl (AGq<|AGm<|AGm<|ATo trivial rfl (Ap8 (HA.ext E4) (HB.ext E4) hta htb AGl AGl) λx9 h2 hk=>?_);obtain ⟨rfl,rfl⟩:=hk;refine ⟨trivial,?_⟩;refine Aor rfl rfl (λA9=>?_) (λA9=>?_)
  ·refine AGx<|ATx rfl (AGq<|AGm<|AGm<|AGm<|ATo trivial rfl (Asd (HA.ext E4) (HB.ext E4) htb (Ajc<|by assumption) AGl) λCm Cn hk=>?_);obtain ⟨Aq,L1,Ac,Ag,Ah,A6⟩:=hk;refine ⟨trivial,?_⟩;have Co:=Aq.1;have Ba:=Z8.trans Aq;have Bb:=E4.trans Aq;have Bc:=V3.ext Aq;have Be:=E4.trans Aq;refine ATo trivial rfl (Ad2 na Ac Ag AGl) λCp Cq hk=>?_;obtain ⟨Ai,Ar⟩:=hk;refine ⟨trivial,?_⟩;have Cr:=Ai.1;have Bf:=Ba.trans Ai;have Bg:=Bb.trans Ai;have Bh:=Bc.ext Ai;have Bi:=Be.trans Ai;have Bj:=Ac.ext Ai;obtain ⟨Ad,s2,L2,rfl,Ae,Av,Aw,Ax⟩:=Ar.out;refine AVa [.bool Ad,s2] AUm rfl rfl rfl rfl (Ade Ae.cap) Bh λCt Bl Aj=>?_;have Bm:=Bg.thenUpd Aj (λk hk=>by have Af:k=Ab:=hk;omega);have Cu:=Aj.1;have Cv:=Bf.thenUpd Aj (λk hk=>by have Af:k=Ab:=hk;omega);have Cw:=Bi.thenUpd Aj (λk hk=>by have Af:k=Ab:=hk;omega);have Cx:=Bj.updLo Aj AGl;have Bn:=Ae.updLo Aj AGl;refine AGu<|AG1<|AUg<|ATd<|⟨_,AVk AUm rfl rfl Bl,?_⟩;exact ⟨Bm,⟨Ad,s2,L2,rfl,Bn.mono AGl,Av,Aw,by rw [<- Ax,Ah];first | exact Ann (eq_of_beq<|by assumption) | exact Ano (ne_of_beq_false<|by assumption) (Ajc<|by assumption) | exact Ak5 (ne_of_beq_false<|by assumption)<|Anm<|by assumption⟩⟩
  ·refine AGx<|AT0 rfl (AG0<|q_b<|q_t<|AGq<|AGm<|AGm<|AGm<|ATo trivial rfl (Asd (HB.ext E4) (HA.ext E4) hta (Anm<|by assumption) AGl) λCy Cz hk=>?_);obtain ⟨Ay,L1,Ac,Ag,Ah,A6⟩:=hk;refine ⟨trivial,?_⟩;have C0:=Ay.1;have Bo:=Z8.trans Ay;have Bp:=E4.trans Ay;have Bq:=V3.ext Ay;have Br:=E4.trans Ay;refine ATo trivial rfl (Ad2 nb Ac Ag AGl) λC1 C2 hk=>?_;obtain ⟨Ak,Ar⟩:=hk;refine ⟨trivial,?_⟩;have C3:=Ak.1;have Bt:=Bo.trans Ak;have Bu:=Bp.trans Ak;have Bv:=Bq.ext Ak;have Bw:=Br.trans Ak;have Bx:=Ac.ext Ak;obtain ⟨Ad,s2,L2,rfl,Ae,Av,Aw,Ax⟩:=Ar.out;refine AVa [.bool Ad,s2] AUm rfl rfl rfl rfl (Ade Ae.cap) Bv λC4 By Am=>?_;have Bz:=Bu.thenUpd Am (λk hk=>by have Af:k=Ab:=hk;omega);have C5:=Am.1;have C6:=Bt.thenUpd Am (λk hk=>by have Af:k=Ab:=hk;omega);have C7:=Bw.thenUpd Am (λk hk=>by have Af:k=Ab:=hk;omega);have C8:=Bx.updLo Am AGl;have B1:=Ae.updLo Am AGl;refine AGu<|AG1<|⟨_,AVk AUm rfl rfl By,?_⟩;exact ⟨Bz,⟨Ad,s2,L2,rfl,B1.mono AGl,Av,Aw,by rw [<- Ax,Ah];first | exact Ann (eq_of_beq<|by assumption) | exact Ano (ne_of_beq_false<|by assumption) (Ajc<|by assumption) | exact Ak5 (ne_of_beq_false<|by assumption)<|Anm<|by assumption⟩⟩
 ·refine AGx<|ATx rfl (AGq<|AGm<|AGm<|AGm<|ATo trivial rfl (Awp (HA.ext E4) (HB.ext E4) AGl AGl) λC9 Da hk=>?_);obtain ⟨Az,L1,Ac,Ag,Ah,A6⟩:=hk;refine ⟨trivial,?_⟩;have Db:=Az.1;have B3:=Z8.trans Az;have B4:=E4.trans Az;have B5:=V3.ext Az;have B6:=E4.trans Az;refine ATo trivial rfl (Ad2 na Ac Ag<|Agf Ag (by rw [Ah];exact Aud HA.dig HB.dig hna hnb)) λDc Dd hk=>?_;obtain ⟨Ao,Ar⟩:=hk;refine ⟨trivial,?_⟩;have De:=Ao.1;have B7:=B3.trans Ao;have B8:=B4.trans Ao;have B9:=B5.ext Ao;have Ca:=B6.trans Ao;have Cb:=Ac.ext Ao;obtain ⟨Ad,s2,L2,rfl,Ae,Av,Aw,Ax⟩:=Ar.out;refine AVa [.bool Ad,s2] AUm rfl rfl rfl rfl (Ade Ae.cap) B9 λDf Cd Ap=>?_;have Ce:=B8.thenUpd Ap (λk hk=>by have Af:k=Ab:=hk;omega);have Dg:=Ap.1;have Dh:=B7.thenUpd Ap (λk hk=>by have Af:k=Ab:=hk;omega);have Di:=Ca.thenUpd Ap (λk hk=>by have Af:k=Ab:=hk;omega);have Dj:=Cb.updLo Ap AGl;have Cf:=Ae.updLo Ap AGl;refine AGu<|AG1<|AUg<|ATd<|⟨_,AVk AUm rfl rfl Cd,?_⟩;exact ⟨Ce,⟨Ad,s2,L2,rfl,Cf.mono AGl,Av,Aw,by rw [<- Ax,Ah];first | exact Ann (eq_of_beq<|by assumption) | exact Ano (ne_of_beq_false<|by assumption) (Ajc<|by assumption) | exact Ak5 (ne_of_beq_false<|by assumption)<|Anm<|by assumption⟩⟩
theorem AYk {ng:Bool} {n:Nat} {z:Int} (h:z=sgn ng n):z.natAbs=n:=by
 subst h;cases ng <;> simp [sgn]
theorem A2y (ng:Bool) (n:Nat):sgn (!ng) n= -sgn ng n:=by cases ng <;> simp [sgn]
theorem Sub_ok {b:Int} (HA:ZV h la va a) (HB:ZV h lb vb b) (hba:a.natAbs < 4294967296 ^ 99) (hbb:b.natAbs < 4294967296 ^ 99):ATz Tryz.prog 189 #[va,vb] h λx h'=>Ext h h'/\ZV h' (Array.size h) x (a - b):=by
 obtain ⟨na,sa,LA,rfl,HDa,htla,hla,hza⟩:=HA.out;obtain ⟨nb,sb,LB,rfl,HDb,htlb,hlb,hzb⟩:=HB.out;refine AUc (l:=[_,_]) mx Tryz.func189 rfl rfl rfl rfl rfl AG2 (AGq<|Adj [.bool na,sa] (λ_=>trivial) rfl rfl λAj h2 V3 E4 A8 B3=>?_);have B4:Array.size h<=Aj:=A8;have B5:=E4.1;have Z8:=(Ext.refl h).trans E4;refine Adj [.bool nb,sb] (λ_=>trivial) rfl rfl λAk B6 Ar Af Ba B7=>?_;have B8:Array.size h<=Ak:=Nat.le_trans E4.1 Ba;have nebq1bq9:Aj≠Ak:=by have:=V3.lt;omega
 have B9:=Af.1;have Au:=E4.trans Af;have Av:=V3.ext Af;refine Aab [.bool false,.slice none 0 0] AYd rfl (λ_=>trivial) λAb Ah Bb Ac Bc Ca=>?_;have Cb:Array.size h<=Ab:=Nat.le_trans Au.1 Bc;have nebq1bq20:Aj≠Ab:=by have:=Av.lt;omega
 have nebq9bq20:Ak≠Ab:=by have:=Ar.lt;omega
 have Cd:=Ac.1;have Be:=(Z8.trans Af).trans Ac;have Am:=Au.trans Ac;have Aw:=Av.ext Ac;have Bf:=(E4.trans Af).trans Ac;have Ax:=Ar.ext Ac;have Bg:=Af.trans Ac;refine AGu<|AGs<|AVn (λh'=>Ext Ah h') AG2 ?_;have Aa:=Ext.refl Ah;refine AY4 (fs:=1) Aff AG2 AGn rfl (AVg AXb rfl Aa (λh' hb=>(Aw.ext hb).cell (i:=0) rfl) (AY4 (fs:=1) Af5 AG2 AGn rfl (AVg Aa7 rfl Aa (λh' hb=>(Aw.ext hb).cell (i:=1) rfl) (ATo Aa rfl (Agn (DS.mono (HDa.ext Am)<|Nat.zero_le _) AGl) λCe Ah hk=>?_))));obtain ⟨rfl,L1,Ao,Ay⟩:=hk;refine ⟨Aa,?_⟩;have Bh:=Ao.ds (lo:=la) HDa.lo;have Az:=Ao.val;have Cg:=Ao.len;refine AY4 (fs:=1) Aff AG2 AGn rfl (AVg AXb rfl Aa (λh' hb=>(Ax.ext hb).cell (i:=0) rfl) (AV5 rfl (AY4 (fs:=1) Af5 AG2 AGn rfl (AVg Aa7 rfl Aa (λh' hb=>(Ax.ext hb).cell (i:=1) rfl) (ATo Aa rfl (Agn (DS.mono (HDb.ext Am)<|Nat.zero_le _) AGl) λCh Ah hk=>?_)))));obtain ⟨rfl,L2,Ap,A3⟩:=hk;refine ⟨Aa,?_⟩;have Bi:=Ap.ds (lo:=lb) HDb.lo;have A4:=Ap.val;have Cj:=Ap.len;refine ATo Aa rfl (Axx na (!nb) Bh Bi Ay A3 (Agf Ay (by rw [Az,<- AYk hza];exact hba))<|Agf A3 (by rw [A4,<- AYk hzb];exact hbb)) λCk Cm hk=>?_;obtain ⟨Ad,Bj⟩:=hk;have Bl:=Aa.trans Ad;refine ⟨Bl,?_⟩;have Cn:=Ad.1;have Bm:=Be.trans Ad;have Bn:=Am.trans Ad;have Bo:=Bf.trans Ad;have Bp:=Bg.trans Ad;have Bq:=Bb.ext Ad;have Br:=Ac.trans Ad;obtain ⟨A5,s3,L3,rfl,A7,Bu,Bv,Bw⟩:=Bj.out;refine AVa [.bool A5,s3] AUm rfl rfl rfl rfl (Ade A7.cap) Bq λCo Bx Ae=>?_;have By:=Bn.thenUpd Ae (λk hk=>by have Ai:k=Ab:=hk;omega);have Cp:=Ae.1;have Cq:=Bm.thenUpd Ae (λk hk=>by have Ai:k=Ab:=hk;omega);have Cr:=Br.thenUpd Ae (λk hk=>by have Ai:k=Ab:=hk;omega);have Ct:=Bo.thenUpd Ae (λk hk=>by have Ai:k=Ab:=hk;omega);have Cu:=Bp.thenUpd Ae (λk hk=>by have Ai:k=Ab:=hk;omega);have Bz:=A7.updLo Ae AGl;refine AGu<|AG1<|⟨_,AVk AUm rfl rfl Bx,?_⟩;exact ⟨By,⟨A5,s3,L3,rfl,Bz.mono AGl,Bu,Bv,by rw [<- Bw,Az,A4,hza,hzb,A2y];omega⟩⟩
theorem Axi (a b:Bool) (x y:Nat):sgn a x * sgn b y=sgn (!(a == b)) (x * y):=by
 cases a <;> cases b <;> simp [sgn,Int.neg_mul,Int.mul_neg]
theorem A1d {L:List Nat} (h:Dig L) (hl:L.length<=2):nv L < 18446744073709551616:=by
 have h1:=Ahh h;have h2:4294967296 ^ L.length<=4294967296 ^ 2:=Nat.pow_le_pow_right AGn hl;omega
theorem Ard {a b:Nat} (h:Ahn a b < 0):a < b:=by
 unfold Ahn at h;omega
theorem A1v (HA:DS h la va LA) (HB:DS h lb vb LB) (hta:TL LA) (htb:TL LB) (Ar:nv LB≠0) (hna:LA.length<=2) (hnb:LB.length<=2):ATz Tryz.prog 193 #[va,vb] h λx h'=>Ext h h'/\ ∃ q r,x= .tuple #[q,r]/\ ∃ LQ LR,DS h' (Array.size h) q LQ/\DS h' (Array.size h) r LR/\TL LQ/\TL LR/\nv LQ=nv LA / nv LB/\nv LR=nv LA % nv LB/\LQ.length<=2/\LR.length<=2:=by
 refine AUc (l:=[_,_]) mx Tryz.func193 rfl rfl rfl rfl rfl AG2 (AGq<|ATs<|AGx<|AGs<|AGt<|AGq<|AGm<|AGm<|ATo trivial rfl (Ap8 HA HB hta htb AGl AGl) λx1 h hk=>?_);obtain ⟨rfl,rfl⟩:=hk;refine ⟨trivial,?_⟩;refine AXw rfl rfl (λAm=>?_) (λAm=>?_)
 ·refine AGx<|ATx rfl (AGq<|AGm<|ATo trivial rfl (Asb HA AGl) λx2 h3 hk=>?_);obtain ⟨E4,Aa⟩:=hk;refine ⟨trivial,?_⟩;have Ax:=E4.1;have Z6:=(Ext.refl h).trans E4;refine ATs (AGx<|AG1<|AUg<|ATd<|⟨_,AUp,?_⟩)
  first
  | (have hlt:=Ard (by assumption:Ahn (nv LA) (nv LB) < 0)
     exact ⟨E4,_,_,rfl,[],LA,Akx _ _,Aa,Al9,hta,by rw [Nat.div_eq_of_lt hlt];rfl,by rw [Nat.mod_eq_of_lt hlt],AT7,AGl⟩)
  | exact ⟨E4,_,_,rfl,L1,L2,lacks_HD1.mono AGl,Aa.mono AGl,Ag,Ah,Ai,Aj,AGl,AGl⟩
 ·refine AGx<|AT0 rfl (AGq<|AGm<|AUv ATr rfl HA (Aml rfl rfl (λ_=>?_) (λhc=>absurd hc AGl)));refine AGx<|ATx rfl (AGq<|AGm<|ATo trivial rfl (Ath HA AGl) λx7 h hk=>?_);obtain ⟨rfl,rfl⟩:=hk;refine ⟨trivial,?_⟩;refine AGm<|ATo trivial rfl (Ath HB AGl) λx8 h hk=>?_;obtain ⟨rfl,rfl⟩:=hk;refine ⟨trivial,?_⟩;refine ATs<|AGx<|AGs ?_;have hlt:=A1d HA.dig hna;refine Aks AG2<|AGm<|AGm<|Ats rfl rfl AGl ?_;rw [show IntKind.u64.wrap (((nv LA:Nat):Int).tdiv ((nv LB:Nat):Int))=((nv LA / nv LB:Nat):Int) by rw [Int.tdiv_eq_ediv_of_nonneg AGl,<- Int.natCast_ediv,wrap_u64];have hq:=Nat.div_le_self (nv LA)<|nv LB;generalize nv LA / nv LB=q at hq ⊢;omega];refine ATo trivial rfl (Ajx (nv LA / nv LB) (by have:=Nat.div_le_self (nv LA)<|nv LB;omega) _) λx9 A5 hk=>?_;obtain ⟨Ad,L1,Ao,Ag,Ai,A6⟩:=hk;refine ⟨trivial,?_⟩;have A7:=Ad.1;have Ap:=(Ext.refl h).trans Ad;refine AGm<|AGm<|A6q rfl rfl AGl (ATo trivial rfl (Ajx (nv LA % nv LB) (by have:=Nat.mod_le (nv LA)<|nv LB;omega) _) λA8 A9 hk=>?_);obtain ⟨Ac,L2,Aa,Ah,Aj,Ba⟩:=hk;refine ⟨trivial,?_⟩;have Bb:=Ac.1;have Bc:=Ap.trans Ac;have Ak:=Ad.trans Ac;have Aq:=Ao.ext Ac;refine ATs (AGx<|AG1<|AUg<|ATd<|⟨_,AUp,?_⟩)
  first
  | (have hlt:=Ard (by assumption:Ahn (nv LA) (nv LB) < 0)
     exact ⟨Ak,_,_,rfl,[],LA,Akx _ _,Aa,Al9,hta,by rw [Nat.div_eq_of_lt hlt];rfl,by rw [Nat.mod_eq_of_lt hlt],AT7,AGl⟩)
  | exact ⟨Ak,_,_,rfl,L1,L2,Aq.mono AGl,Aa.mono AGl,Ag,Ah,Ai,Aj,AGl,AGl⟩
theorem Age {b:Int} (hb:b≠0) (h:a=b * q + r) (h0:0<=r) (h1:r < b.natAbs):a / b=q/\a % b=r:=by
 have hr:r % b=r:=by
  rcases An7 0 b with hp | hn
  ·exact Int.emod_eq_of_lt h0 AGl
  ·rw [<- Int.emod_neg];exact Int.emod_eq_of_lt h0 AGl
 have hm:a % b=r:=by simp_all
 refine ⟨?_,hm⟩;have h2:=Int.mul_ediv_add_emod a b;rw [hm] at h2;have h3:b * (a / b)=b * q:=by omega
 exact Int.eq_of_mul_eq_mul_left hb h3
theorem BEi {A B:Nat} (hA:A < 18446744073709551616) (hr:A % B≠0):A / B + 1 < 18446744073709551616:=by
 match B with
 | 0=>simp
 | 1=>omega
 | n + 2=>
   have:A / (n + 2)<=A / 2:=Nat.div_le_div_left (show 2<=n + 2 by omega) AGl
   omega
theorem BEj {nb:Bool} {A B:Nat} (hB:B≠0):sgn nb (A / B)=(A:Int) / sgn nb B/\sgn false (A % B)=(A:Int) % sgn nb B:=by
 have h:=Nat.div_add_mod A B;have hl:=Nat.mod_lt A<|Nat.pos_of_ne_zero hB;have h2:(A:Int)=(B:Int) * ((A / B:Nat):Int) + ((A % B:Nat):Int):=by omega
 have:=Age (a:=A) (b:=sgn nb B) (q:=sgn nb<|A / B) (r:=((A % B:Nat):Int)) (by cases nb <;> simp [sgn] <;> omega) (by cases nb <;> simp only [sgn] <;> simp [Int.neg_mul_neg] <;> (rw [<- Int.natCast_ediv,<- Int.natCast_emod];exact h2)) AGl (by cases nb <;> simp only [sgn] <;> simp <;> omega);exact ⟨this.1.symm,this.2.symm⟩
theorem BB0 {nb:Bool} {A B:Nat} (hB:B≠0) (hr:A % B≠0):sgn (!nb) (A / B + 1)= -(A:Int) / sgn nb B/\sgn false (B - A % B)= -(A:Int) % sgn nb B:=by
 have h:=Nat.div_add_mod A B;have hl:=Nat.mod_lt A<|Nat.pos_of_ne_zero hB;have h2:(A:Int)=(B:Int) * ((A / B:Nat):Int) + ((A % B:Nat):Int):=by omega
 obtain ⟨q,hq⟩:∃ q,A / B=q:=⟨_,rfl⟩;obtain ⟨r,hrr⟩:∃ r,A % B=r:=⟨_,rfl⟩;rw [hq,hrr] at h2;rw [hrr] at hl hr;rw [hq,hrr];have e:((B - r:Nat):Int)=(B:Int) - (r:Int):=by omega
 have:=Age (a:= -(A:Int)) (b:=sgn nb B) (q:=sgn (!nb)<|q + 1) (r:=((B - r:Nat):Int)) (by cases nb <;> simp [sgn] <;> omega) (by rw [h2,e];cases nb <;> simp [sgn] <;> grind) AGl (by cases nb <;> simp only [sgn] <;> simp <;> omega);exact ⟨this.1.symm,this.2.symm⟩
theorem BB1 {nb:Bool} {A B:Nat} (hB:B≠0) (hr:A % B=0):sgn (!nb) (A / B)= -(A:Int) / sgn nb B/\sgn false (A % B)= -(A:Int) % sgn nb B:=by
 have h:=Nat.div_add_mod A B;have h2:(A:Int)=(B:Int) * ((A / B:Nat):Int):=by omega
 obtain ⟨q,hq⟩:∃ q,A / B=q:=⟨_,rfl⟩;rw [hq] at h2;rw [hq,hr];have:=Age (a:= -(A:Int)) (b:=sgn nb B) (q:=sgn (!nb) q) (r:=0) (by cases nb <;> simp [sgn] <;> omega) (by rw [h2];cases nb <;> simp [sgn] <;> grind) AGl (by cases nb <;> simp only [sgn] <;> simp <;> omega);exact ⟨this.1.symm,this.2.symm⟩
theorem DivMod2_ok {b:Int} (HA:ZV h la va a) (HB:ZV h lb vb b) (hba:a.natAbs < 18446744073709551616) (hbb:b.natAbs < 18446744073709551616) (C6:b≠0):ATz Tryz.prog 158 #[va,vb] h λx h'=>Ext h h'/\ ∃ q r,x= .tuple #[q,r,.bool true]/\ZV h' (Array.size h) q (a / b)/\ZV h' (Array.size h) r (a % b):=by
 obtain ⟨na,sa,LA,rfl,HDa,htla,hla,hza⟩:=HA.out;obtain ⟨nb,sb,LB,rfl,HDb,htlb,hlb,hzb⟩:=HB.out;refine AUc (l:=[_,_]) mx Tryz.func158 rfl rfl rfl rfl rfl AG2 (AGq<|Adj [.bool na,sa] (λ_=>trivial) rfl rfl λA6 h2 V3 E4 C7 C8=>?_);have Ho:Array.size h<=A6:=C7;have Hq:=E4.1;have Z8:=(Ext.refl h).trans E4;refine Adj [.bool nb,sb] (λ_=>trivial) rfl rfl λA7 Hr Bc Ba Da Hs=>?_;have Ht:Array.size h<=A7:=Nat.le_trans E4.1 Da;have nebq1bq9:A6≠A7:=by have:=V3.lt;omega
 have Hu:=Ba.1;have Ch:=E4.trans Ba;have Be:=V3.ext Ba;refine Aab [.bool false,.slice none 0 0] AYd rfl (λ_=>trivial) λAc Hv Ci Ay Db Hw=>?_;have Hx:Array.size h<=Ac:=Nat.le_trans Ch.1 Db;have nebq1bq20:A6≠Ac:=by have:=Be.lt;omega
 have nebq9bq20:A7≠Ac:=by have:=Bc.lt;omega
 have Hy:=Ay.1;have Dc:=(Z8.trans Ba).trans Ay;have Cj:=Ch.trans Ay;have Ck:=Be.ext Ay;have Dd:=(E4.trans Ba).trans Ay;have Cm:=Bc.ext Ay;refine Aab [.bool false,.slice none 0 0] AYd rfl (λ_=>trivial) λAa Cn De Ax Df Hz=>?_;have H5:Array.size h<=Aa:=Nat.le_trans Cj.1 Df;have nebq1bq33:A6≠Aa:=by have:=Ck.lt;omega
 have nebq9bq33:A7≠Aa:=by have:=Cm.lt;omega
 have nebq20bq33:Ac≠Aa:=by have:=Ci.lt;omega
 have Ia:=Ax.1;have Dg:=Dc.trans Ax;have Bv:=Cj.trans Ax;have Co:=Ck.ext Ax;have Dh:=Dd.trans Ax;have Cp:=Cm.ext Ax;have Di:=(Ba.trans Ay).trans Ax;have Dj:=Ci.ext Ax;have Dk:=Ay.trans Ax;refine AT2<|AY4 (fs:=1) Af5 AG2 AGn rfl (AT6 Aa7 rfl (Cp.cell (i:=1) rfl) (ATo trivial rfl (Agn (DS.mono (HDb.ext Bv)<|Nat.zero_le _) AGl) λIb Cn hk=>?_));obtain ⟨rfl,L2,Bw,Bx⟩:=hk;refine ⟨trivial,?_⟩;have By:=Bw.ds (lo:=lb) HDb.lo;have A8:=Bw.val;have Ic:=Bw.len;refine AGx<|AGs<|AGq<|AGm<|AUv ATr rfl By ?_;have Bf:nv LB≠0:=λh0=>C6 (by rw [hzb,h0];cases nb <;> rfl);have hLB:L2≠[]:=λh0=>Bf (by rw [<- A8,h0];rfl);have hLp:=List.length_pos_iff.2 hLB;refine Amm rfl rfl (λhc=>absurd hc AGl) (λ_=>AGu<|AT0 rfl (AG0<|q_t<|AGq<|AY4 (fs:=1) Af5 AG2 AGn rfl (AT6 Aa7 rfl (Co.cell (i:=1) rfl) (ATo trivial rfl (Agn (DS.mono (HDa.ext Bv)<|Nat.zero_le _) AGl) λId Cn hk=>?_))));obtain ⟨rfl,L1,Bz,Cr⟩:=hk;refine ⟨trivial,?_⟩;have Ct:=Bz.ds (lo:=la) HDa.lo;have Cu:=Bz.val;have If:=Bz.len;refine AGm<|ATo trivial rfl (A1v Ct By Cr Bx (by rw [A8];exact Bf) (Agf Cr (by rw [Cu,<- AYk hza];omega))<|Agf Bx (by rw [A8,<- AYk hzb];omega)) λIh Ii hk=>?_;obtain ⟨Am,qv,rv,rfl,LQ,LR,HQ,HR,htq,htr,hvq,hvr,hlq,hlr⟩:=hk;refine ⟨trivial,?_⟩;have Ij:=Am.1;have B1:=Dg.trans Am;have B3:=Bv.trans Am;have B4:=Co.ext Am;have B5:=Dh.trans Am;have Dl:=Cp.ext Am;have B6:=Di.trans Am;have B7:=Dj.ext Am;have B8:=Dk.trans Am;have B9:=De.ext Am;have Ca:=By.ext Am;have Cb:=Ct.ext Am;rw [Cu,A8] at hvq hvr;have Ik:L2.length<=2:=Agf Bx (by rw [A8,<- AYk hzb];omega);refine AGm<|AUk rfl rfl (AUk rfl rfl (ATs<|AT2<|AY4 (fs:=1) Aff AG2 AGn rfl (AT6 AXb rfl (Dl.cell (i:=0) rfl) (AGx<|AGs<|AGt<|AGs<|AGt<|AGs<|AGt<|AGs<|AGs<|AGs ?_))));have hrl:LR.length=0↔nv LA % nv LB=0:=⟨λh0=>by rw [<- hvr,List.length_eq_zero_iff.1 h0];rfl,λh0=>by rw [Aaf htr<|hvr.trans h0];rfl⟩;refine AS8<|AY4 (fs:=1) Aff AG2 AGn rfl (AT6 AXb rfl (B4.cell (i:=0) rfl) ?_);cases Bg:na
 ·refine AGm<|AUn 32 false AG2 rfl rfl (AUn 32 false AG2 rfl rfl (AUn 32 false AG2 rfl rfl (AS6 rfl (AGx<|AT0 rfl (AG0<|q_t<|AGq<|AY4 (fs:=1) Aff AG2 AGn rfl (AT6 AXb rfl (B4.cell (i:=0) rfl) ?_))))));rw [Bg];refine AGx<|AT0 rfl (AG0<|q_t<|ATh<|Avk AGn<|ATi<|Avk AGn<|ATi<|AUf<|q_t<|AGq<|AGm<|AGm<|ATo trivial rfl (Ad2 nb HQ htq AGl) λIl Im hk=>?_);obtain ⟨Ao,Bh⟩:=hk;refine ⟨trivial,?_⟩;have Io:=Ao.1;have Do:=B1.trans Ao;have Dp:=B3.trans Ao;have Dq:=B5.trans Ao;have Dr:=B6.trans Ao;have Ds:=B7.ext Ao;have Dt:=B8.trans Ao;have Du:=B9.ext Ao;have Ip:=Ca.ext Ao;have Iq:=Cb.ext Ao;have HQ_82:=HQ.ext Ao;have HR_83:=HR.ext Ao;obtain ⟨Az,s7,L7,rfl,Bj,Bl,Bm,Bn⟩:=Bh.out;refine AGm<|ATo trivial rfl (Ad2 false HR_83 htr AGl) λIr Is hk=>?_;obtain ⟨Ar,Bo⟩:=hk;refine ⟨trivial,?_⟩;have It:=Ar.1;have Dv:=Do.trans Ar;have Dw:=Dp.trans Ar;have Dx:=Dq.trans Ar;have Dy:=Dr.trans Ar;have Dz:=Ds.ext Ar;have D0:=Dt.trans Ar;have D1:=Du.ext Ar;have HQ_98:=HQ_82.ext Ar;have HR_99:=HR_83.ext Ar;have Cv:=Bj.ext Ar;obtain ⟨A4,s8,L8,rfl,Bq,Br,Bt,Bu⟩:=Bo.out;refine AVa [.bool Az,s7] AUm rfl rfl rfl rfl (Ade Cv.cap) Dz λIu D2 Au=>?_;have D3:=Dw.thenUpd Au (λk hk=>by have Ab:k=Ac:=hk;omega);have Iv:=Au.1;have D4:=Dv.thenUpd Au (λk hk=>by have Ab:k=Ac:=hk;omega);have Cd:=D0.thenUpd Au (λk hk=>by have Ab:k=Ac:=hk;omega);have D5:=Dx.thenUpd Au (λk hk=>by have Ab:k=Ac:=hk;omega);have D6:=Dy.thenUpd Au (λk hk=>by have Ab:k=Ac:=hk;omega);have D7:=D1.upd Au λhe=>(Ne.symm nebq20bq33) (he:Aa=Ac);have HQ_113:=HQ_98.updLo Au AGl;have HR_114:=HR_99.updLo Au AGl;have D8:=Cv.updLo Au AGl;have Cw:=Bq.updLo Au AGl;refine AVa [.bool A4,s8] AUm rfl rfl rfl rfl (Ade Cw.cap) D7 λIw D9 Ag=>?_;have Ea:=D3.thenUpd Ag (λk hk=>by have Ab:k=Aa:=hk;omega);have Ix:=Ag.1;have Iy:=D4.thenUpd Ag (λk hk=>by have Ab:k=Aa:=hk;omega);have Iz:=(Be.ext Cd).upd Ag (λhe=>nebq1bq33 (he:A6=Aa));have I0:=D5.thenUpd Ag (λk hk=>by have Ab:k=Aa:=hk;omega);have I1:=(Bc.ext Cd).upd Ag (λhe=>nebq9bq33 (he:A7=Aa));have I2:=D6.thenUpd Ag (λk hk=>by have Ab:k=Aa:=hk;omega);have Eb:=D2.upd Ag λhe=>nebq20bq33 (he:Ac=Aa);have I3:=Cd.thenUpd Ag (λk hk=>by have Ab:k=Aa:=hk;omega);have HQ_129:=HQ_113.updLo Ag AGl;have HR_130:=HR_114.updLo Ag AGl;have Ec:=D8.updLo Ag AGl;have Ed:=Cw.updLo Ag AGl;refine AGx<|AG1<|⟨_,Air AUm rfl rfl Eb AUm rfl rfl D9,?_⟩;have hk:=BEj (nb:=nb) (A:=nv LA) Bf;have ea:a=((nv LA:Nat):Int):=by rw [hza,Bg];rfl
  exact ⟨Ea,_,_,rfl,⟨Az,s7,L7,rfl,Ec.mono AGl,Bl,Bm,by rw [<- Bn,hvq,ea,hzb];exact hk.1.symm⟩,⟨A4,s8,L8,rfl,Ed.mono AGl,Br,Bt,by rw [<- Bu,hvr,ea,hzb];exact hk.2.symm⟩⟩
 ·refine AGm<|AUr 32 true AG2 rfl rfl (AGm<|AUr 32 true AG2 rfl rfl (AUv ATr rfl HR (AUr 32 true AG2 rfl rfl (Akt rfl rfl (λEe=>?_) (λEe=>?_)))))
  ·refine ATf rfl (AGx<|ATx rfl (ATh<|ATi<|ATi<|AUf<|q_t<|AGq<|AGm<|A6z [Ahq 1] ATr Afo rfl (λ_=>trivial) rfl AGl AGl rfl (by simp [Ahq,isOne]) λg8 v8 h8 Eh E8 I7 I9=>?_));have Ja:=E8.1;have Ei:=B1.trans E8;have Ej:=B3.trans E8;have Ek:=B5.trans E8;have El:=B6.trans E8;have Em:=B7.ext E8;have En:=B8.trans E8;have Eo:=B9.ext E8;have Ep:=Ca.ext E8;have Er:=Cb.ext E8;have HQ_146:=HQ.ext E8;have HR_147:=HR.ext E8;have HDu:DS h8 0 v8 [1]:=AWv.ds (L:=[1]) Eh (by intro x hx;rw [List.mem_singleton.1 hx];decide)<|Nat.zero_le _;refine ATo trivial rfl (Awp HQ_146 HDu AGl AT7) λJc Je hk=>?_;obtain ⟨Ah,L5,Et,Cx,Cy,Jf⟩:=hk;refine ⟨trivial,?_⟩;have Jg:=Ah.1;have Eu:=Ei.trans Ah;have Ev:=Ej.trans Ah;have Ew:=Ek.trans Ah;have Ey:=El.trans Ah;have Ez:=Em.ext Ah;have Fa:=En.trans Ah;have Fb:=Eo.ext Ah;have Cz:=Ep.ext Ah;have Fc:=Er.ext Ah;have HQ_164:=HQ_146.ext Ah;have HR_165:=HR_147.ext Ah;have HDu_166:=HDu.ext Ah;refine AGx<|AS8<|AGm<|AGm<|ATo trivial rfl (Asd Cz HR_165 htr (by rw [hvr,A8];exact Nat.le_of_lt<|Nat.mod_lt _ AGl) AGl) λJh Ji hk=>?_;obtain ⟨Af,L6,Fd,Fe,Ff,C8⟩:=hk;refine ⟨trivial,?_⟩;have Jk:=Af.1;have Fg:=Eu.trans Af;have Fh:=Ev.trans Af;have Fi:=Ew.trans Af;have Fj:=Ey.trans Af;have Fk:=Ez.ext Af;have Fl:=Fa.trans Af;have Fm:=Fb.ext Af;have Fo:=Cz.ext Af;have Fp:=Fc.ext Af;have HQ_183:=HQ_164.ext Af;have HR_184:=HR_165.ext Af;have HDu_185:=HDu_166.ext Af;have C0:=Et.ext Af;refine ATs<|ATu<|q_b<|q_t<|AGq<|AGm<|AV5 rfl (AGx<|ATh<|AUf<|q_t<|AGq<|AGm<|AGm<|ATo trivial rfl (Ad2 (!nb) C0 Cx (by have h5:L5.length<=2:=Agf Cx (by rw [Cy,hvq];exact BEi (A:=nv LA) (B:=nv LB) (by rw [<- AYk hza];exact hba) AGl);omega)) λJm Jn hk=>?_);obtain ⟨Ad,Bh⟩:=hk;refine ⟨trivial,?_⟩;have Jo:=Ad.1;have Fq:=Fg.trans Ad;have Fr:=Fh.trans Ad;have Ft:=Fi.trans Ad;have Fu:=Fj.trans Ad;have Fv:=Fk.ext Ad;have Fw:=Fl.trans Ad;have Fx:=Fm.ext Ad;have Jp:=Fo.ext Ad;have Jq:=Fp.ext Ad;have HQ_203:=HQ_183.ext Ad;have HR_204:=HR_184.ext Ad;have HDu_205:=HDu_185.ext Ad;have Fy:=C0.ext Ad;have C1:=Fd.ext Ad;obtain ⟨Az,s7,L7,rfl,Bj,Bl,Bm,Bn⟩:=Bh.out;refine AGm<|ATo trivial rfl (Ad2 false C1 Fe AGl) λJr Js hk=>?_;obtain ⟨Ai,Bo⟩:=hk;refine ⟨trivial,?_⟩;have Jt:=Ai.1;have Fz:=Fq.trans Ai;have F4:=Fr.trans Ai;have F5:=Ft.trans Ai;have F6:=Fu.trans Ai;have F7:=Fv.ext Ai;have F8:=Fw.trans Ai;have F9:=Fx.ext Ai;have HQ_222:=HQ_203.ext Ai;have HR_223:=HR_204.ext Ai;have Ga:=Fy.ext Ai;have Gb:=C1.ext Ai;have C2:=Bj.ext Ai;obtain ⟨A4,s8,L8,rfl,Bq,Br,Bt,Bu⟩:=Bo.out;refine AVa [.bool Az,s7] AUm rfl rfl rfl rfl (Ade C2.cap) F7 λJu Gc Aj=>?_;have Gd:=F4.thenUpd Aj (λk hk=>by have Ab:k=Ac:=hk;omega);have Jv:=Aj.1;have Ge:=Fz.thenUpd Aj (λk hk=>by have Ab:k=Ac:=hk;omega);have Ce:=F8.thenUpd Aj (λk hk=>by have Ab:k=Ac:=hk;omega);have Gf:=F5.thenUpd Aj (λk hk=>by have Ab:k=Ac:=hk;omega);have Gg:=F6.thenUpd Aj (λk hk=>by have Ab:k=Ac:=hk;omega);have Gh:=F9.upd Aj λhe=>(Ne.symm nebq20bq33) (he:Aa=Ac);have HQ_239:=HQ_222.updLo Aj AGl;have HR_240:=HR_223.updLo Aj AGl;have Gi:=Ga.updLo Aj AGl;have Gj:=Gb.updLo Aj AGl;have Gk:=C2.updLo Aj AGl;have C3:=Bq.updLo Aj AGl;refine AVa [.bool A4,s8] AUm rfl rfl rfl rfl (Ade C3.cap) Gh λJw Gl Ae=>?_;have Gm:=Gd.thenUpd Ae (λk hk=>by have Ab:k=Aa:=hk;omega);have Jx:=Ae.1;have Jy:=Ge.thenUpd Ae (λk hk=>by have Ab:k=Aa:=hk;omega);have Jz:=(Be.ext Ce).upd Ae (λhe=>nebq1bq33 (he:A6=Aa));have J0:=Gf.thenUpd Ae (λk hk=>by have Ab:k=Aa:=hk;omega);have J1:=(Bc.ext Ce).upd Ae (λhe=>nebq9bq33 (he:A7=Aa));have J2:=Gg.thenUpd Ae (λk hk=>by have Ab:k=Aa:=hk;omega);have Gn:=Gc.upd Ae λhe=>nebq20bq33 (he:Ac=Aa);have J3:=Ce.thenUpd Ae (λk hk=>by have Ab:k=Aa:=hk;omega);have HQ_257:=HQ_239.updLo Ae AGl;have HR_258:=HR_240.updLo Ae AGl;have J4:=Gi.updLo Ae AGl;have J5:=Gj.updLo Ae AGl;have Gp:=Gk.updLo Ae AGl;have Gq:=C3.updLo Ae AGl;refine AGx<|AG1<|⟨_,Air AUm rfl rfl Gn AUm rfl rfl Gl,?_⟩;have hk:=BB0 (nb:=nb) (A:=nv LA) Bf AGl;have ea:a= -((nv LA:Nat):Int):=by rw [hza,Bg];rfl
   exact ⟨Gm,_,_,rfl,⟨Az,s7,L7,rfl,Gp.mono AGl,Bl,Bm,by rw [<- Bn,Cy,hvq,ea,hzb];exact hk.1.symm⟩,⟨A4,s8,L8,rfl,Gq.mono AGl,Br,Bt,by rw [<- Bu,Ff,A8,hvr,ea,hzb];exact hk.2.symm⟩⟩
  ·refine ATf rfl (AGx<|AT0 rfl (AG0<|q_t<|AGq<|AY4 (fs:=1) Aff AG2 AGn rfl (AT6 AXb rfl (B4.cell (i:=0) rfl) ?_)));rw [Bg];refine AGx<|ATx rfl (ATh<|ATi<|Avk AGn<|ATi<|AUf<|q_t<|AGq<|AGm<|AV5 rfl (AGx<|ATh<|AUf<|q_t<|AGq<|AGm<|AGm<|ATo trivial rfl (Ad2 (!nb) HQ htq AGl) λJ6 J7 hk=>?_));obtain ⟨Aq,Bh⟩:=hk;refine ⟨trivial,?_⟩;have J8:=Aq.1;have Gr:=B1.trans Aq;have Gt:=B3.trans Aq;have Gu:=B5.trans Aq;have Gv:=B6.trans Aq;have Gw:=B7.ext Aq;have Gx:=B8.trans Aq;have Gy:=B9.ext Aq;have J9:=Ca.ext Aq;have Ka:=Cb.ext Aq;have HQ_279:=HQ.ext Aq;have HR_280:=HR.ext Aq;obtain ⟨Az,s7,L7,rfl,Bj,Bl,Bm,Bn⟩:=Bh.out;refine AGm<|ATo trivial rfl (Ad2 false HR_280 htr AGl) λKb Kc hk=>?_;obtain ⟨Av,Bo⟩:=hk;refine ⟨trivial,?_⟩;have Kd:=Av.1;have Gz:=Gr.trans Av;have G3:=Gt.trans Av;have G4:=Gu.trans Av;have G5:=Gv.trans Av;have G6:=Gw.ext Av;have G7:=Gx.trans Av;have G8:=Gy.ext Av;have HQ_295:=HQ_279.ext Av;have HR_296:=HR_280.ext Av;have C4:=Bj.ext Av;obtain ⟨A4,s8,L8,rfl,Bq,Br,Bt,Bu⟩:=Bo.out;refine AVa [.bool Az,s7] AUm rfl rfl rfl rfl (Ade C4.cap) G6 λKe G9 Aw=>?_;have Hb:=G3.thenUpd Aw (λk hk=>by have Ab:k=Ac:=hk;omega);have Kf:=Aw.1;have Hc:=Gz.thenUpd Aw (λk hk=>by have Ab:k=Ac:=hk;omega);have Cf:=G7.thenUpd Aw (λk hk=>by have Ab:k=Ac:=hk;omega);have Hd:=G4.thenUpd Aw (λk hk=>by have Ab:k=Ac:=hk;omega);have He:=G5.thenUpd Aw (λk hk=>by have Ab:k=Ac:=hk;omega);have Hf:=G8.upd Aw λhe=>(Ne.symm nebq20bq33) (he:Aa=Ac);have HQ_310:=HQ_295.updLo Aw AGl;have HR_311:=HR_296.updLo Aw AGl;have Hg:=C4.updLo Aw AGl;have C5:=Bq.updLo Aw AGl;refine AVa [.bool A4,s8] AUm rfl rfl rfl rfl (Ade C5.cap) Hf λKg Hh Ak=>?_;have Hj:=Hb.thenUpd Ak (λk hk=>by have Ab:k=Aa:=hk;omega);have Kh:=Ak.1;have Ki:=Hc.thenUpd Ak (λk hk=>by have Ab:k=Aa:=hk;omega);have Kj:=(Be.ext Cf).upd Ak (λhe=>nebq1bq33 (he:A6=Aa));have Kk:=Hd.thenUpd Ak (λk hk=>by have Ab:k=Aa:=hk;omega);have Kl:=(Bc.ext Cf).upd Ak (λhe=>nebq9bq33 (he:A7=Aa));have Km:=He.thenUpd Ak (λk hk=>by have Ab:k=Aa:=hk;omega);have Hk:=G9.upd Ak λhe=>nebq20bq33 (he:Ac=Aa);have Kn:=Cf.thenUpd Ak (λk hk=>by have Ab:k=Aa:=hk;omega);have HQ_326:=HQ_310.updLo Ak AGl;have HR_327:=HR_311.updLo Ak AGl;have Hl:=Hg.updLo Ak AGl;have Hm:=C5.updLo Ak AGl;refine AGx<|AG1<|⟨_,Air AUm rfl rfl Hk AUm rfl rfl Hh,?_⟩;have hk:=BB1 (nb:=nb) (A:=nv LA) Bf AGl;have ea:a= -((nv LA:Nat):Int):=by rw [hza,Bg];rfl
   exact ⟨Hj,_,_,rfl,⟨Az,s7,L7,rfl,Hl.mono AGl,Bl,Bm,by rw [<- Bn,hvq,ea,hzb];exact hk.1.symm⟩,⟨A4,s8,L8,rfl,Hm.mono AGl,Br,Bt,by rw [<- Bu,hvr,ea,hzb];exact hk.2.symm⟩⟩
end Go.Proofs.YtkakafabeobahaaGreatDoor.Ig
namespace Go.QF
open Go
section
variable {P:Program} {B:AGz->Prop} {st:Bool} {ops:Array Oper} {rest:List Oper} {e:Env} {h:AGz} {K:Env->AGz->Prop} {d:Nat} {ty:TypeId} {pos:String} {af:Array Edge}
theorem A3d {x y z:Operand} {el er g lo hi:Nat} {l:List Value} {k1 k2:IntKind} (hT:SlT P t el 1) (hx:e.ev x=v) (HO:AWv h er g v l) (hy:e.ev y= .int k1 (lo:Int)) (hz:e.ev z= .int k2 (hi:Int)) (hlt:lo < hi) (hle:hi<=l.length)
 (H:∀ c,RL P B st ops rest (e.set d<|.slice (some ⟨g,lo,none⟩) (hi - lo) c) h K):RL P B st ops (⟨some d,.slice t x (some y) (some z) none,ty,pos,af,none⟩ :: rest) e h K:=by
 obtain ⟨cap,cur,rfl,hg,h1,h2,h3,h4⟩:=HO;refine AYo (v:= .slice (some ⟨g,lo,none⟩) (hi - lo)<|cap - lo) rfl rfl (λw=>?_) (H _);obtain ⟨hu,i,hi',hs⟩:=hT;have a4: ¬ cap=lo:=by omega
 simp [execOp,hx,hy,hz,Instr.sliceAt,Instr.slice,Afe hu,Instr.sliceBounds,Instr.sliceBound,asIntOf,a4,Ai4 hi',hs,Addr.add];rw [if_pos AGl,if_pos AGl]
 by_cases h0:lo=0
 ·subst h0;simp
 ·rw [if_neg h0]
theorem Awq {x i:Operand} {el g o n c:Nat} {k:IntKind} (hT:SlT P t el 1) (hx:e.ev x= .slice (some ⟨g,o,none⟩) n c) (hi:e.ev i= .int k (j:Int)) (hj:j < n)
 (H:RL P B st ops rest (e.set d<|.pointer<|some ⟨g,o + j,none⟩) h K):RL P B st ops (⟨some d,.indexAddr t x i,ty,pos,af,none⟩ :: rest) e h K:=by
 refine A0z hT hx hi AGl AGl ?_;have he:(⟨g,o,none⟩:Addr).add ((j:Int).toNat * 1)=⟨g,o + j,none⟩:=by rw [AYp];simp
 rw [he];exact H
end
end Go.QF
namespace Go.Proofs.YtkakafabeobahaaGreatDoor.Ig
open Go Go.QF
set_option maxRecDepth 100000
theorem A42 (HA:DS h la va LA) (HB:DS h lb vb LB) (hna:LA.length<=1000) (hnb:LB.length<=1000):ATz Tryz.prog 196 #[va,vb] h λx h'=>Ext h h'/\ ∃ L,DS h' (Array.size h) x L/\TL L/\nv L=nv LA * nv LB/\L.length<=LA.length + LB.length + 2:=by
 refine AUc (l:=[_,_]) mx Tryz.func196 rfl rfl rfl rfl rfl AG2 (AGq<|AGx<|AGs<|AGq<|AGm<|AUv ATr rfl HA (Aml rfl rfl (λAw=>?_) (λAw=>?_)))
 ·refine AGm<|AUr 15 true AG2 rfl rfl (AGm<|AUr 15 true AG2 rfl rfl (AUv ATr rfl HB (AUr 15 true AG2 rfl rfl (Aml rfl rfl (λAx=>?_) (λAx=>?_)))))
  ·refine ATf rfl (AGu<|ATx rfl (AGq<|AGm<|ATo trivial rfl (Ath HA AGl) λx1 h hk=>?_));obtain ⟨rfl,rfl⟩:=hk;refine ⟨trivial,?_⟩;refine AGm<|ATo trivial rfl (Ath HB AGl) λx2 h hk=>?_;obtain ⟨rfl,rfl⟩:=hk;refine ⟨trivial,?_⟩;have hm:=A8n HA.dig HB.dig AGl AGl;refine Axb rfl rfl hm (ATo trivial rfl (Ajx (nv LA * nv LB) AGl _) λx3 h4 hk=>?_);obtain ⟨E5,L1,Ay,Ak,Am,Av⟩:=hk;refine ⟨trivial,?_⟩;have Bo:=E5.1;have Z7:=(Ext.refl h).trans E5;refine AGx (AG1<|ATd<|⟨_,AS5,?_⟩)
   first
   | exact ⟨E5,L1,Ay,Ak,Am,AGl⟩
   | exact ⟨E5,L2,HT.ds HDo.lo,htl,by rw [HT.val,hOv],by have:=HT.len;omega⟩
  ·refine ATf rfl (AGu<|AT0 rfl (AG0<|q_t<|AGq<|AGm<|AUv ATr rfl HA (AGm<|AUv ATr rfl HB (Ai9 rfl rfl AGl (At8 (n:=LA.length + LB.length) ATr Afo (λ_=>trivial) rfl rfl AGn AGl λg1 v1 h1 Ao E1 Az Av=>?_)))));have Bq:=E1.1;have Z9:=(Ext.refl h).trans E1;refine AGx<|AGs<|AGq<|AGm<|AUv ATr rfl (HA.ext E1) (AGm<|AGu<|AGt<|AYg 19342813113834049615433664 (λy:Nat × List Nat=>[(34,.int .i64 (y.1:Int))]) (λk y h'=>k=LA.length - y.1/\y.1<=LA.length/\Ext h h'/\g1 < Array.size h'/\AWv h' 200 g1 v1 (y.2.map Ahq)/\y.2.length=LA.length + LB.length/\Dig y.2/\nv y.2=nv (LA.take y.1) * nv LB/\ ∀ q,y.1 + LB.length<=q->q < LA.length + LB.length->y.2[q]? =some 0) AG2 LA.length (0,List.replicate (LA.length + LB.length) 0) ?_ ⟨rfl,trivial⟩ ?_)
   ·exact ⟨rfl,Nat.zero_le _,E1,AGl,Ao,AT7,λx hx=>by rw [(List.mem_replicate.1 hx).2];decide,by simp [nv,Aue],λq hq A3=>by dsimp only;rw [List.getElem?_replicate];simp;omega⟩
   rintro k ⟨i,O⟩ s1 hq ⟨rfl,hi,XQ,hgq,Aa,hOl,hOd,hOv,hOz⟩;dsimp only at hi Aa hOl hOd hOv hOz ⊢;refine AGq<|AXw rfl rfl (λA4=>?_) (λA4=>?_)
   ·refine AGu<|AGs<|ATx rfl (AG0<|q_t<|AGs<|AGt<|AGs ?_);obtain ⟨x,hx⟩:∃ x,LA[i]? =some x:=⟨_,List.getElem?_eq_getElem AGl⟩;have hbx:=HA.dig x<|List.mem_of_getElem? hx;refine AS8<|AGm<|Acn ATr rfl (HA.ext XQ) rfl hx λBt A5=>AT6 AVp rfl A5 (ATs<|AGx<|AGs<|AGq<|AGm<|Amm rfl rfl (λA6=>?_) (λA6=>?_))
    ·refine AGu<|ATx rfl (ATh<|ATi<|AUf<|q_t<|AS8<|Ady rfl AGl (AGm<|AGu ?_));exact ⟨LA.length - (i + 1),(i + 1,O),by first | omega | (dsimp only;omega),⟨rfl,by first | omega | (dsimp only;omega),XQ,AGl,Aa,hOl,hOd,by dsimp only;rw [hOv,AU3 hx,show x=0 by omega];simp,λq h1 h2=>hOz q (by dsimp only at h1;omega) h2⟩,rfl,trivial⟩
    ·refine AGu<|AT0 rfl (AG0<|q_t<|AGq<|AGm<|AGm<|AGm<|AGm<|AUv ATr rfl (HB.ext XQ) (Ai9 rfl rfl AGl (Ai9 (b:=1) rfl rfl AGl (A3d (lo:=i) (hi:=i + LB.length + 1) ATr rfl Aa rfl rfl AGl (by rw [List.length_map];omega) λcw=>?_))));refine AT2<|AGx<|AGs<|AGq<|AGm<|AUv ATr rfl (HB.ext XQ) (AGm<|AGu<|AGt<|AYg 151115725200028833156608 (λy:Nat × Nat × List Nat=>[(51,.int .i64 (y.1:Int)),(9,.int .u64 (y.2.1:Int))]) (λk y h'=>k=LB.length - y.1/\y.1<=LB.length/\Ext h h'/\g1 < Array.size h'/\AWv h' 200 g1 v1 (y.2.2.map Ahq)/\y.2.2.length=LA.length + LB.length/\Dig y.2.2/\y.2.1 < 4294967296/\nv y.2.2 + 4294967296 ^ (i + y.1) * y.2.1=nv (LA.take i) * nv LB + 4294967296 ^ i * (x * nv (LB.take y.1))/\ ∀ q,i + LB.length<=q->q < LA.length + LB.length->y.2.2[q]? =some 0) AG2 LB.length (0,0,O) ?_ ⟨rfl,rfl,trivial⟩ ?_)
     ·exact ⟨rfl,Nat.zero_le _,XQ,AGl,Aa,hOl,hOd,by dsimp only;omega,by simp [nv,hOv],hOz⟩
     rintro k ⟨j,c,O⟩ s2 hp ⟨rfl,hj,XQ,hgq,Aa,hOl,hOd,hc,hOv,hOz⟩;dsimp only at hj Aa hOl hOd hc hOv hOz ⊢;refine AGq<|AXw rfl rfl (λA7=>?_) (λA7=>?_)
     ·refine AGu<|AGs<|ATx rfl (AG0<|q_t<|AGs<|AGt<|AGs ?_);obtain ⟨y,hy⟩:∃ x,LB[j]? =some x:=⟨_,List.getElem?_eq_getElem AGl⟩;have hby:=HB.dig y<|List.mem_of_getElem? hy;obtain ⟨ov,hov⟩:∃ x,O[i + j]? =some x:=⟨_,List.getElem?_eq_getElem AGl⟩;have hbo:=hOd ov<|List.mem_of_getElem? hov;have htb:=Axc hc hbx hby hbo;have hxy:x * y<=4294967295 * 4294967295:=Nat.mul_le_mul AGl AGl;refine AS8<|AGm<|Acn ATr rfl (HB.ext XQ) rfl hy λBu A8=>AT6 AVp rfl A8 (ATs<|AT2<|AGm<|AGm<|Ama AWj AVy rfl hbx (AGm<|Ama AWj AVy rfl hby (Axb rfl rfl AGl (AGm<|AGm<|Awq ATr rfl rfl AGl (AT6 AVp rfl (AWv.cell Aa<|Alu hov) (Ama AWj AVy rfl hbo (Ais rfl rfl AGl (Ais rfl rfl AGl ?_))))))));refine AT2<|AGm<|AGm<|AGm<|An9 AVy AWj rfl (Awq ATr rfl rfl AGl (An8 (O.set (i + j)<|(c + (x * y + ov)) % 4294967296) AVp rfl rfl Aa AGl rfl λh4 Ap U4=>?_));have Bv:=U4.1;have A9:=XQ.thenUpd U4 (λk hk=>by have Aq:k=g1:=hk;omega);refine AGu<|AS8<|AGm<|Anj rfl rfl (ATs<|ATu<|q_b<|q_t<|AS8<|Ady rfl AGl (AGm<|AGu ?_));exact ⟨LB.length - (j + 1),(j + 1,(c + (x * y + ov)) / 4294967296,O.set (i + j)<|(c + (x * y + ov)) % 4294967296),by first | omega | (dsimp only;omega),⟨rfl,by first | omega | (dsimp only;omega),A9,AGl,Ap,by simp [hOl],Alw hOd<|Nat.mod_lt _ AGn,by dsimp only;exact Nat.div_lt_of_lt_mul htb,by dsimp only;rw [AU3 hy];exact At9 (Pi:=0) (Aoy _ hov) hOv<|Nat.mod_add_div _ _,λq h1 h2=>by dsimp only;rw [List.getElem?_set_ne AGl];exact hOz q h1 h2⟩,rfl,rfl,trivial⟩
     ·refine AGu<|AGs<|AT0 rfl (ATh<|ATi<|ATi<|AUf<|q_t ?_);obtain rfl:j=LB.length:=by omega
      refine AS8<|AGm<|AGm<|AUv ATr rfl (HB.ext XQ) (AGm<|An9 AVy AWj rfl ?_);rw [Nat.mod_eq_of_lt hc];refine Awq ATr rfl rfl AGl (An8 (O.set (i + LB.length)<|c) AVp rfl rfl Aa AGl rfl λh5 Ar U5=>?_);have Bw:=U5.1;have Bb:=XQ.thenUpd U5 (λk hk=>by have Aq:k=g1:=hk;omega);refine ATu<|q_b<|q_t<|AS8<|Ady rfl AGl (AGm<|AGu ?_);exact ⟨LA.length - (i + 1),(i + 1,O.set (i + LB.length) c),by first | omega | (dsimp only;omega),⟨rfl,by first | omega | (dsimp only;omega),Bb,AGl,Ar,by simp [hOl],Alw hOd hc,by dsimp only;have h1:=Aoy c<|hOz (i + LB.length) (Nat.le_refl _) AGl;rw [Nat.mul_zero,Nat.add_zero] at h1;rw [h1,hOv,List.take_length,AU3 hx,Nat.add_mul,Nat.mul_assoc],λq h1 h2=>by dsimp only;rw [List.getElem?_set_ne AGl];exact hOz q AGl h2⟩,rfl,trivial⟩
   ·refine AGu<|AGs<|AT0 rfl (ATh<|ATi<|ATi<|AUf<|q_t<|AGs ?_);obtain rfl:i=LA.length:=by omega
    rw [List.take_length] at hOv;have HDo:=Aa.ds (lo:=Array.size h) hOd AGl;refine AS8<|AGm<|ATo trivial rfl (Agn (DS.mono HDo<|Nat.zero_le _) AGl) λBx hq hk=>?_;obtain ⟨rfl,L2,HT,htl⟩:=hk;refine ⟨trivial,?_⟩;refine AGx (AG1<|⟨_,AS5,?_⟩)
    first
    | exact ⟨XQ,L1,lacks_HD1,Ak,Am,AGl⟩
    | exact ⟨XQ,L2,HT.ds HDo.lo,htl,by rw [HT.val,hOv],by have:=HT.len;omega⟩
 ·refine AGm<|AUn 15 false AG2 rfl rfl (AUn 15 false AG2 rfl rfl (AUn 15 false AG2 rfl rfl (AS6 rfl (AGu<|AT0 rfl (AG0<|q_t<|AGq<|AGm<|AUv ATr rfl HA (AGm<|AUv ATr rfl HB (Ai9 rfl rfl AGl (At8 (n:=LA.length + LB.length) ATr Afo (λ_=>trivial) rfl rfl AGn AGl λg1 v1 h1 Ao E1 Az Av=>?_))))))));have By:=E1.1;have Bz:=(Ext.refl h).trans E1;refine AGx<|AGs<|AGq<|AGm<|AUv ATr rfl (HA.ext E1) (AGm<|AGu<|AGt<|AYg 19342813113834049615433664 (λy:Nat × List Nat=>[(34,.int .i64 (y.1:Int))]) (λk y h'=>k=LA.length - y.1/\y.1<=LA.length/\Ext h h'/\g1 < Array.size h'/\AWv h' 200 g1 v1 (y.2.map Ahq)/\y.2.length=LA.length + LB.length/\Dig y.2/\nv y.2=nv (LA.take y.1) * nv LB/\ ∀ q,y.1 + LB.length<=q->q < LA.length + LB.length->y.2[q]? =some 0) AG2 LA.length (0,List.replicate (LA.length + LB.length) 0) ?_ ⟨rfl,trivial⟩ ?_)
  ·exact ⟨rfl,Nat.zero_le _,E1,AGl,Ao,AT7,λx hx=>by rw [(List.mem_replicate.1 hx).2];decide,by simp [nv,Aue],λq hq A3=>by dsimp only;rw [List.getElem?_replicate];simp;omega⟩
  rintro k ⟨i,O⟩ s1 hq ⟨rfl,hi,XQ,hgq,Aa,hOl,hOd,hOv,hOz⟩;dsimp only at hi Aa hOl hOd hOv hOz ⊢;refine AGq<|AXw rfl rfl (λBc=>?_) (λBc=>?_)
  ·refine AGu<|AGs<|ATx rfl (AG0<|q_t<|AGs<|AGt<|AGs ?_);obtain ⟨x,hx⟩:∃ x,LA[i]? =some x:=⟨_,List.getElem?_eq_getElem AGl⟩;have hbx:=HA.dig x<|List.mem_of_getElem? hx;refine AS8<|AGm<|Acn ATr rfl (HA.ext XQ) rfl hx λB1 Be=>AT6 AVp rfl Be (ATs<|AGx<|AGs<|AGq<|AGm<|Amm rfl rfl (λBf=>?_) (λBf=>?_))
   ·refine AGu<|ATx rfl (ATh<|ATi<|AUf<|q_t<|AS8<|Ady rfl AGl (AGm<|AGu ?_));exact ⟨LA.length - (i + 1),(i + 1,O),by first | omega | (dsimp only;omega),⟨rfl,by first | omega | (dsimp only;omega),XQ,AGl,Aa,hOl,hOd,by dsimp only;rw [hOv,AU3 hx,show x=0 by omega];simp,λq h1 h2=>hOz q (by dsimp only at h1;omega) h2⟩,rfl,trivial⟩
   ·refine AGu<|AT0 rfl (AG0<|q_t<|AGq<|AGm<|AGm<|AGm<|AGm<|AUv ATr rfl (HB.ext XQ) (Ai9 rfl rfl AGl (Ai9 (b:=1) rfl rfl AGl (A3d (lo:=i) (hi:=i + LB.length + 1) ATr rfl Aa rfl rfl AGl (by rw [List.length_map];omega) λcw=>?_))));refine AT2<|AGx<|AGs<|AGq<|AGm<|AUv ATr rfl (HB.ext XQ) (AGm<|AGu<|AGt<|AYg 151115725200028833156608 (λy:Nat × Nat × List Nat=>[(51,.int .i64 (y.1:Int)),(9,.int .u64 (y.2.1:Int))]) (λk y h'=>k=LB.length - y.1/\y.1<=LB.length/\Ext h h'/\g1 < Array.size h'/\AWv h' 200 g1 v1 (y.2.2.map Ahq)/\y.2.2.length=LA.length + LB.length/\Dig y.2.2/\y.2.1 < 4294967296/\nv y.2.2 + 4294967296 ^ (i + y.1) * y.2.1=nv (LA.take i) * nv LB + 4294967296 ^ i * (x * nv (LB.take y.1))/\ ∀ q,i + LB.length<=q->q < LA.length + LB.length->y.2.2[q]? =some 0) AG2 LB.length (0,0,O) ?_ ⟨rfl,rfl,trivial⟩ ?_)
    ·exact ⟨rfl,Nat.zero_le _,XQ,AGl,Aa,hOl,hOd,by dsimp only;omega,by simp [nv,hOv],hOz⟩
    rintro k ⟨j,c,O⟩ s2 hp ⟨rfl,hj,XQ,hgq,Aa,hOl,hOd,hc,hOv,hOz⟩;dsimp only at hj Aa hOl hOd hc hOv hOz ⊢;refine AGq<|AXw rfl rfl (λBg=>?_) (λBg=>?_)
    ·refine AGu<|AGs<|ATx rfl (AG0<|q_t<|AGs<|AGt<|AGs ?_);obtain ⟨y,hy⟩:∃ x,LB[j]? =some x:=⟨_,List.getElem?_eq_getElem AGl⟩;have hby:=HB.dig y<|List.mem_of_getElem? hy;obtain ⟨ov,hov⟩:∃ x,O[i + j]? =some x:=⟨_,List.getElem?_eq_getElem AGl⟩;have hbo:=hOd ov<|List.mem_of_getElem? hov;have htb:=Axc hc hbx hby hbo;have hxy:x * y<=4294967295 * 4294967295:=Nat.mul_le_mul AGl AGl;refine AS8<|AGm<|Acn ATr rfl (HB.ext XQ) rfl hy λB3 Bh=>AT6 AVp rfl Bh (ATs<|AT2<|AGm<|AGm<|Ama AWj AVy rfl hbx (AGm<|Ama AWj AVy rfl hby (Axb rfl rfl AGl (AGm<|AGm<|Awq ATr rfl rfl AGl (AT6 AVp rfl (AWv.cell Aa<|Alu hov) (Ama AWj AVy rfl hbo (Ais rfl rfl AGl (Ais rfl rfl AGl ?_))))))));refine AT2<|AGm<|AGm<|AGm<|An9 AVy AWj rfl (Awq ATr rfl rfl AGl (An8 (O.set (i + j)<|(c + (x * y + ov)) % 4294967296) AVp rfl rfl Aa AGl rfl λh4 Ap U4=>?_));have B4:=U4.1;have Bi:=XQ.thenUpd U4 (λk hk=>by have Aq:k=g1:=hk;omega);refine AGu<|AS8<|AGm<|Anj rfl rfl (ATs<|ATu<|q_b<|q_t<|AS8<|Ady rfl AGl (AGm<|AGu ?_));exact ⟨LB.length - (j + 1),(j + 1,(c + (x * y + ov)) / 4294967296,O.set (i + j)<|(c + (x * y + ov)) % 4294967296),by first | omega | (dsimp only;omega),⟨rfl,by first | omega | (dsimp only;omega),Bi,AGl,Ap,by simp [hOl],Alw hOd<|Nat.mod_lt _ AGn,by dsimp only;exact Nat.div_lt_of_lt_mul htb,by dsimp only;rw [AU3 hy];exact At9 (Pi:=0) (Aoy _ hov) hOv<|Nat.mod_add_div _ _,λq h1 h2=>by dsimp only;rw [List.getElem?_set_ne AGl];exact hOz q h1 h2⟩,rfl,rfl,trivial⟩
    ·refine AGu<|AGs<|AT0 rfl (ATh<|ATi<|ATi<|AUf<|q_t ?_);obtain rfl:j=LB.length:=by omega
     refine AS8<|AGm<|AGm<|AUv ATr rfl (HB.ext XQ) (AGm<|An9 AVy AWj rfl ?_);rw [Nat.mod_eq_of_lt hc];refine Awq ATr rfl rfl AGl (An8 (O.set (i + LB.length)<|c) AVp rfl rfl Aa AGl rfl λh5 Ar U5=>?_);have B5:=U5.1;have Bj:=XQ.thenUpd U5 (λk hk=>by have Aq:k=g1:=hk;omega);refine ATu<|q_b<|q_t<|AS8<|Ady rfl AGl (AGm<|AGu ?_);exact ⟨LA.length - (i + 1),(i + 1,O.set (i + LB.length) c),by first | omega | (dsimp only;omega),⟨rfl,by first | omega | (dsimp only;omega),Bj,AGl,Ar,by simp [hOl],Alw hOd hc,by dsimp only;have h1:=Aoy c<|hOz (i + LB.length) (Nat.le_refl _) AGl;rw [Nat.mul_zero,Nat.add_zero] at h1;rw [h1,hOv,List.take_length,AU3 hx,Nat.add_mul,Nat.mul_assoc],λq h1 h2=>by dsimp only;rw [List.getElem?_set_ne AGl];exact hOz q AGl h2⟩,rfl,trivial⟩
  ·refine AGu<|AGs<|AT0 rfl (ATh<|ATi<|ATi<|AUf<|q_t<|AGs ?_);obtain rfl:i=LA.length:=by omega
   rw [List.take_length] at hOv;have HDo:=Aa.ds (lo:=Array.size h) hOd AGl;refine AS8<|AGm<|ATo trivial rfl (Agn (DS.mono HDo<|Nat.zero_le _) AGl) λB6 hq hk=>?_;obtain ⟨rfl,L2,HT,htl⟩:=hk;refine ⟨trivial,?_⟩;refine AGx (AG1<|⟨_,AS5,?_⟩)
   first
   | exact ⟨XQ,L1,lacks_HD1,Ak,Am,AGl⟩
   | exact ⟨XQ,L2,HT.ds HDo.lo,htl,by rw [HT.val,hOv],by have:=HT.len;omega⟩
theorem MulZ_ok {b:Int} (HA:ZV h la va a) (HB:ZV h lb vb b) (hab:a.natAbs * b.natAbs < 4294967296 ^ 100):ATz Tryz.prog 159 #[va,vb] h λx h'=>Ext h h'/\ZV h' (Array.size h) x (a * b):=by
 obtain ⟨na,sa,LA,rfl,HDa,htla,hla,hza⟩:=HA.out;obtain ⟨nb,sb,LB,rfl,HDb,htlb,hlb,hzb⟩:=HB.out;refine AUc (l:=[_,_]) mx Tryz.func159 rfl rfl rfl rfl rfl AG2 (AGq<|Adj [.bool na,sa] (λ_=>trivial) rfl rfl λAk h2 V3 E4 Bb Ce=>?_);have Cf:Array.size h<=Ak:=Bb;have Cg:=E4.1;have Z8:=(Ext.refl h).trans E4;refine Adj [.bool nb,sb] (λ_=>trivial) rfl rfl λAm Ch Av Ag Be Ci=>?_;have Cj:Array.size h<=Am:=Nat.le_trans E4.1 Be;have nebq1bq9:Ak≠Am:=by have:=V3.lt;omega
 have Ck:=Ag.1;have Aw:=E4.trans Ag;have Ax:=V3.ext Ag;refine Aab [.bool false,.slice none 0 0] AYd rfl (λ_=>trivial) λAc Ai Bf Ad Bg Cm=>?_;have Cn:Array.size h<=Ac:=Nat.le_trans Aw.1 Bg;have nebq1bq20:Ak≠Ac:=by have:=Ax.lt;omega
 have nebq9bq20:Am≠Ac:=by have:=Av.lt;omega
 have Co:=Ad.1;have Bh:=(Z8.trans Ag).trans Ad;have Ao:=Aw.trans Ad;have Ay:=Ax.ext Ad;have Bi:=(E4.trans Ag).trans Ad;have Az:=Av.ext Ad;have Bj:=Ag.trans Ad;refine AGu<|AGs<|AVn (λh'=>Ext Ai h') AG2 ?_;have Aa:=Ext.refl Ai;refine AY4 (fs:=1) Aff AG2 AGn rfl (AVg AXb rfl Aa (λh' hb=>(Ay.ext hb).cell (i:=0) rfl) (AY4 (fs:=1) Aff AG2 AGn rfl (AVg AXb rfl Aa (λh' hb=>(Az.ext hb).cell (i:=0) rfl) (At7 Apk rfl rfl (AY4 (fs:=1) Af5 AG2 AGn rfl (AVg Aa7 rfl Aa (λh' hb=>(Ay.ext hb).cell (i:=1) rfl) (ATo Aa rfl (Agn (DS.mono (HDa.ext Ao)<|Nat.zero_le _) AGl) λCp Ai hk=>?_)))))));obtain ⟨rfl,L1,Ap,Cr⟩:=hk;refine ⟨Aa,?_⟩;have Bl:=Ap.ds (lo:=la) HDa.lo;have A3:=Ap.val;have Ct:=Ap.len;refine AY4 (fs:=1) Af5 AG2 AGn rfl (AVg Aa7 rfl Aa (λh' hb=>(Az.ext hb).cell (i:=1) rfl) (ATo Aa rfl (Agn (DS.mono (HDb.ext Ao)<|Nat.zero_le _) AGl) λCu Ai hk=>?_));obtain ⟨rfl,L2,Aq,Cw⟩:=hk;refine ⟨Aa,?_⟩;have Bm:=Aq.ds (lo:=lb) HDb.lo;have A4:=Aq.val;have Cx:=Aq.len;refine ATo Aa rfl (A42 Bl Bm AGl AGl) λCy Cz hk=>?_;obtain ⟨Ae,L4,A5,A6,A7,C1⟩:=hk;have Ar:=Aa.trans Ae;refine ⟨Ar,?_⟩;have C2:=Ae.1;have Bn:=Bh.trans Ae;have Bo:=Ao.trans Ae;have Bp:=Bi.trans Ae;have Bq:=Bj.trans Ae;have Br:=Bf.ext Ae;have Bt:=Ad.trans Ae;refine ATo Ar rfl (Ad2 (!(na == nb)) A5 A6<|Agf A6 (by rw [A7,A3,A4,<- AYk hza,<- AYk hzb];exact hab)) λC3 C4 hk=>?_;obtain ⟨Ab,Bu⟩:=hk;have Bv:=Ar.trans Ab;refine ⟨Bv,?_⟩;have C5:=Ab.1;have Bw:=Bn.trans Ab;have Bx:=Bo.trans Ab;have By:=Bp.trans Ab;have Bz:=Bq.trans Ab;have B1:=Br.ext Ab;have B3:=Bt.trans Ab;have B4:=A5.ext Ab;obtain ⟨A8,s3,L3,rfl,Ba,B6,B7,B8⟩:=Bu.out;refine AVa [.bool A8,s3] AUm rfl rfl rfl rfl (Ade Ba.cap) B1 λC6 B9 Af=>?_;have Ca:=Bx.thenUpd Af (λk hk=>by have Aj:k=Ac:=hk;omega);have C7:=Af.1;have C8:=Bw.thenUpd Af (λk hk=>by have Aj:k=Ac:=hk;omega);have C9:=B3.thenUpd Af (λk hk=>by have Aj:k=Ac:=hk;omega);have Da:=By.thenUpd Af (λk hk=>by have Aj:k=Ac:=hk;omega);have Db:=Bz.thenUpd Af (λk hk=>by have Aj:k=Ac:=hk;omega);have Dc:=B4.updLo Af AGl;have Cb:=Ba.updLo Af AGl;refine AGu<|AG1<|⟨_,AVk AUm rfl rfl B9,?_⟩;exact ⟨Ca,⟨A8,s3,L3,rfl,Cb.mono AGl,B6,B7,by rw [<- B8,A7,A3,A4,hza,hzb,Axi]⟩⟩
end Go.Proofs.YtkakafabeobahaaGreatDoor.Ig
namespace Go.Proofs.YtkakafabeobahaaGreatDoor
open Go Go.QF
def BDd (fuel:Nat) (a b:Int):Option Int:=if a.natAbs < AWk/\b.natAbs < AWk then some (a - b) else none
def A3e (fuel:Nat) (a b:Int):Option Int:=if a.natAbs * b.natAbs < AWk then some (a * b) else none
def Ao2 (fuel:Nat) (a b:Int):Option (Int × Int × Bool):=if a.natAbs < 18446744073709551616/\b.natAbs < 18446744073709551616/\b≠0 then some (a / b,a % b,true) else none
def BDe (fuel:Nat) (a:Int):Option Int:=some<|-a
def Ao3 (fuel:Nat) (a:Int):Option Int:=some a
def Ati (fuel:Nat) (a:Int):Option Int:=if -9223372036854775808<=a/\a<=9223372036854775807 then some a else none
def Aut (fuel:Nat) (a:Int):Option Int:=some<|AZd a
theorem BEk {u:Value} {b:Int} (H1:ZZ h u a) (H2:ZZ h v b) (hp:BDd fuel a b=some r):ATz Tryz.prog 189 #[u,v] h (λx h'=>Ext h h'/\ ∃ (x0:Value),x=x0/\ZZ h' x0 r):=by
 obtain ⟨⟨h1,h2⟩,hp⟩:=ifN hp;cases hp;exact (Ig.Sub_ok H1 H2 h1 h2).mono λx h' hk=>⟨hk.1,x,rfl,hk.2.zz⟩
theorem A1w {u:Value} {b:Int} (H1:ZZ h u a) (H2:ZZ h v b) (hp:A3e fuel a b=some r):ATz Tryz.prog 159 #[u,v] h (λx h'=>Ext h h'/\ ∃ (x0:Value),x=x0/\ZZ h' x0 r):=by
 obtain ⟨h1,hp⟩:=ifN hp;cases hp;exact (Ig.MulZ_ok H1 H2<|A7n h1).mono λx h' hk=>⟨hk.1,x,rfl,hk.2.zz⟩
theorem BEl {u:Value} (H1:ZZ h u a) (hp:BDe fuel a=some r):ATz Tryz.prog 190 #[u] h (λx h'=>Ext h h'/\ ∃ (x0:Value),x=x0/\ZZ h' x0 r):=by
 cases hp;exact (Ig.Neg_ok H1).mono λx h' hk=>⟨hk.1,x,rfl,hk.2.zz⟩
theorem Ark {u:Value} (H1:ZZ h u a) (hp:Ao3 fuel a=some r):ATz Tryz.prog 156 #[u] h (λx h'=>Ext h h'/\ ∃ (x0:Value),x=x0/\ZZ h' x0 r):=by
 cases hp;exact (Ig.Normalize_ok H1).mono λx h' hk=>⟨hk.1,x,rfl,hk.2.zz⟩
theorem Auu (hp:Ati fuel a=some r):ATz Tryz.prog 152 #[.int .i64 a] h (λx h'=>Ext h h'/\ ∃ (x0:Value),x=x0/\ZZ h' x0 r):=by
 obtain ⟨h1,hp⟩:=ifN hp;cases hp;exact (Ig.Small_ok h1 h).mono λx h' hk=>⟨hk.1,x,rfl,hk.2.zz⟩
theorem Atj {u:Value} (H1:ZZ h u a) (hp:Aut fuel a=some r):ATz Tryz.prog 155 #[u] h (λx h'=>Ext h h'/\x= .int .i64 r):=by
 cases hp;exact Ig.Sign_ok H1
theorem Ase {u:Value} {b:Int} {r:Int × Int × Bool} (H1:ZZ h u a) (H2:ZZ h v b) (hp:Ao2 fuel a b=some r):ATz Tryz.prog 158 #[u,v] h (λx h'=>Ext h h'/\ ∃ (x0:Value) (x1:Value),x= .tuple #[x0,x1,.bool r.2.2]/\ZZ h' x0 r.1/\ZZ h' x1 r.2.1):=by
 obtain ⟨⟨h1,h2,h3⟩,hp⟩:=ifN hp;cases hp;exact (Ig.DivMod2_ok H1 H2 h1 h2 h3).mono λx h' ⟨E,q,r,hx,hq,hr⟩=>⟨E,q,r,hx,hq.zz,hr.zz⟩
end Go.Proofs.YtkakafabeobahaaGreatDoor
namespace Go.Proofs.YtkakafabeobahaaGreatDoor
open Go Go.QF
set_option maxRecDepth 100000
set_option maxHeartbeats 4000000
def Ae4 (fuel:Nat) (a3:LiI) (Ac:LiA) (Aa:Int):Option (Int ⊕ ((Int × Int × Bool) ⊕ Unit)):=
 if Aa < (a3.length:Int) then (gI a3 Aa).bind λAd=>if ¬ (Ad.length:Int)=(Ac.length:Int) then some (.inr<|.inl (0,0,false)) else some (.inl<|w64<|Aa + 1) else some<|.inr<|.inr ()
def Aas (fuel:Nat) (a3:LiI):Option (Int × Int × Bool):=
 ((if (a3.length:Int) < 1 then some (.inl (0,0,false)) else if 16 < (a3.length:Int) then some (.inl (0,0,false)) else some<|.inr ()):Option ((Int × Int × Bool) ⊕ Unit)).bind (λex=>match ex with | .inl Ac=>(some Ac) | .inr _=>(gI a3 0).bind λAb=>((if (Ab.length:Int) < 1 then some (.inl (0,0,false)) else if 16 < (Ab.length:Int) then some (.inl (0,0,false)) else some<|.inr ()):Option ((Int × Int × Bool) ⊕ Unit)).bind (λex=>match ex with | .inl Ad=>(some Ad) | .inr _=>(iter (λs=>Ae4 fuel a3 Ab s) fuel 0).bind (λex=>match ex with | .inl Ae=>(some Ae) | .inr _=>some ((a3.length:Int),(Ab.length:Int),true))))
theorem Amx {r:(Int × Int × Bool)} (H2:AV4 (cI .i64) h Aq a3) (hp:Aas fuel a3=some r):ATz Tryz.prog 149 #[Aq] h (λx h'=>Ext h h'/\x= .tuple #[.int .i64 r.1,.int .i64 r.2.1,.bool r.2.2]):=by
 unfold Aas at hp;refine cwf (l:=[_]) Tryz.func149 rfl rfl (AGq<|ATs<|ATs<|AGx ?_);have K0:=Kst.k0 h;obtain ⟨A3,Ar,Ah⟩:=AGr hp;refine Aer 65308 (λx:Unit=>[]) (λx h'=>(Sum.inr <| ())=A3/\Kst h h' (K0.L)) ?_ ?_
 ·refine AGq<|AGm<|AT3 ATb rfl H2 (ATp rfl rfl (AGm ?_));by_cases Ad:(a3.length:Int) < 1
  ·rw [decide_eq_true Ad];refine AWi 11 true<|ATf rfl (AGu<|ATx rfl (AGq<|ATs<|ATs<|AGx ?_));obtain rfl:=AGo<|ifT Ar Ad;refine AG1<|ATd ?_;obtain rfl:=AGo Ah;exact ⟨_,Adh,K0.x,rfl⟩
  ·have Au:=ifF Ar Ad;rw [decide_eq_false Ad];refine ATc 11 false<|AGm<|ATc 11 false<|AT3 ATb rfl H2 (ATc 11 false<|AXr rfl rfl (AS6 rfl (AGu<|⟨_,rfl,λAi=>?_,λAi=>?_⟩)))
   ·refine AGq<|ATs<|ATs<|AGx ?_;obtain rfl:=AGo<|AT4 Au Ai;refine AG1<|ATd ?_;obtain rfl:=AGo Ah;exact ⟨_,Adh,K0.x,rfl⟩
   ·refine AG0<|q_t ?_;exact ⟨(():Unit),⟨AGo<|AT5 Au Ai,K0⟩,trivial⟩
 rintro ⟨⟩ Be Bf ⟨A4,Ab⟩;subst A4;refine AGq<|AGm ?_;obtain ⟨A5,A6,A7⟩:=AGr Ah;refine AZ1 ATb ATq H2 Ab.x A6 λ_ Bg A8=>AUl ATa rfl A8 (AGx ?_);obtain ⟨A9,Av,Aj⟩:=AGr A7;refine Aer 66060316 (λx:Unit=>[]) (λx h'=>(Sum.inr <| ())=A9/\Kst h h' (Ab.L)) ?_ ?_
 ·refine AGq<|AGm<|ATp rfl rfl (AGm ?_);by_cases Ae:(A5.length:Int) < 1
  ·rw [decide_eq_true Ae];refine Adc 22 true<|ATf rfl (AGu<|ATx rfl (AGq<|ATs<|ATs<|AGx ?_));obtain rfl:=AGo<|ifT Av Ae;refine AG1<|ATd ?_;obtain rfl:=AGo Aj;exact ⟨_,Adh,Ab.x,rfl⟩
  ·have Aw:=ifF Av Ae;rw [decide_eq_false Ae];refine ATc 22 false<|AGm<|ATc 22 false<|AXr rfl rfl (AS6 rfl (AGu<|⟨_,rfl,λAk=>?_,λAk=>?_⟩))
   ·refine AGq<|ATs<|ATs<|AGx ?_;obtain rfl:=AGo<|AT4 Aw Ak;refine AG1<|ATd ?_;obtain rfl:=AGo Aj;exact ⟨_,Adh,Ab.x,rfl⟩
   ·refine AG0<|q_t ?_;exact ⟨(():Unit),⟨AGo<|AT5 Aw Ak,Ab⟩,trivial⟩
 rintro ⟨⟩ Bh Bi ⟨Ba,Ax⟩;subst Ba;refine AGs<|AGq<|AGm<|AT3 ATb rfl H2 (AGm<|AGu<|AGt<|AYr 137170518172 Aj (λx=>[(28,(.int .i64 x))]) (λx=>Ax.L) Ax ⟨rfl,trivial⟩ ?_);rintro Bj Bl Bm Bn Af Am Ay;unfold Ae4 at Am;refine AGq<|ATp rfl rfl (AGu<|AGs<|⟨_,rfl,λAo=>?_,λAo=>?_⟩)
 ·refine AG0<|q_t<|AGs<|AGt<|AGq ?_;obtain ⟨Bo,Bb,Az⟩:=AGr<|AT4 Am Ao;refine AZ1 ATb ATq H2 Af.x Bb λ_ Bp Bc=>AT2<|AGm<|AUl ATa rfl Bc (AGm<|AVz rfl rfl (AGu<|⟨_,rfl,λAp=>?_,λAp=>?_⟩))
  ·refine AGq<|ATs<|ATs<|AGx<|AG1<|AUg<|ATd<|ATd<|AUg<|ATd ?_;obtain rfl:=AGo<|Ay _ (AGo<|AT4 Az Ap).symm;exact ⟨_,Adh,Af.x,rfl⟩
  ·refine AG0<|q_b<|q_t<|AS8<|ATn rfl rfl (AGm<|AGu ?_);exact ⟨_,(AGo<|AT5 Az Ap).symm,Af,rfl,trivial⟩
 ·refine ATh<|ATi<|ATi<|AUf<|q_t<|AGq<|AGm<|AT3 ATb rfl H2 (AGm<|ATs<|ATs<|AGx<|AG1 ?_);obtain rfl:=AGo<|Ay _ (AGo<|AT5 Am Ao).symm;exact ⟨_,Adh,Af.x,rfl⟩
def Ads (fuel:Nat) (a3:LiI) (Ac:LiA) (Aa:Int):Option (Int ⊕ ((Int × Int × Bool) ⊕ Unit)):=
 if Aa < (a3.length:Int) then (gI a3 Aa).bind λAd=>if ¬ (Ad.length:Int)=(Ac.length:Int) then some (.inr<|.inl (0,0,false)) else some (.inl<|w64<|Aa + 1) else some<|.inr<|.inr ()
def AZl (fuel:Nat) (a3:LiI):Option (Int × Int × Bool):=
 ((if (a3.length:Int) < 1 then some (.inl (0,0,false)) else if 16 < (a3.length:Int) then some (.inl (0,0,false)) else some<|.inr ()):Option ((Int × Int × Bool) ⊕ Unit)).bind (λex=>match ex with | .inl Ac=>(some Ac) | .inr _=>(gI a3 0).bind λAb=>((if (Ab.length:Int) < 1 then some (.inl (0,0,false)) else if 16 < (Ab.length:Int) then some (.inl (0,0,false)) else some<|.inr ()):Option ((Int × Int × Bool) ⊕ Unit)).bind (λex=>match ex with | .inl Ad=>(some Ad) | .inr _=>(iter (λs=>Ads fuel a3 Ab s) fuel 0).bind (λex=>match ex with | .inl Ae=>(some Ae) | .inr _=>some ((a3.length:Int),(Ab.length:Int),true))))
theorem Alh {r:(Int × Int × Bool)} (H2:AV4 cZ h Aq a3) (hp:AZl fuel a3=some r):ATz Tryz.prog 153 #[Aq] h (λx h'=>Ext h h'/\x= .tuple #[.int .i64 r.1,.int .i64 r.2.1,.bool r.2.2]):=by
 unfold AZl at hp;refine cwf (l:=[_]) Tryz.func153 rfl rfl (AGq<|ATs<|ATs<|AGx ?_);have K0:=Kst.k0 h;obtain ⟨A3,Ar,Ah⟩:=AGr hp;refine Aer 65308 (λx:Unit=>[]) (λx h'=>(Sum.inr <| ())=A3/\Kst h h' (K0.L)) ?_ ?_
 ·refine AGq<|AGm<|AT3 AUy rfl H2 (ATp rfl rfl (AGm ?_));by_cases Ad:(a3.length:Int) < 1
  ·rw [decide_eq_true Ad];refine AWi 11 true<|ATf rfl (AGu<|ATx rfl (AGq<|ATs<|ATs<|AGx ?_));obtain rfl:=AGo<|ifT Ar Ad;refine AG1<|ATd ?_;obtain rfl:=AGo Ah;exact ⟨_,Adh,K0.x,rfl⟩
  ·have Au:=ifF Ar Ad;rw [decide_eq_false Ad];refine ATc 11 false<|AGm<|ATc 11 false<|AT3 AUy rfl H2 (ATc 11 false<|AXr rfl rfl (AS6 rfl (AGu<|⟨_,rfl,λAi=>?_,λAi=>?_⟩)))
   ·refine AGq<|ATs<|ATs<|AGx ?_;obtain rfl:=AGo<|AT4 Au Ai;refine AG1<|ATd ?_;obtain rfl:=AGo Ah;exact ⟨_,Adh,K0.x,rfl⟩
   ·refine AG0<|q_t ?_;exact ⟨(():Unit),⟨AGo<|AT5 Au Ai,K0⟩,trivial⟩
 rintro ⟨⟩ Be Bf ⟨A4,Ab⟩;subst A4;refine AGq<|AGm ?_;obtain ⟨A5,A6,A7⟩:=AGr Ah;refine AZ1 AUy AW5 H2 Ab.x A6 λ_ Bg A8=>AUl AWc rfl A8 (AGx ?_);obtain ⟨A9,Av,Aj⟩:=AGr A7;refine Aer 66060316 (λx:Unit=>[]) (λx h'=>(Sum.inr <| ())=A9/\Kst h h' (Ab.L)) ?_ ?_
 ·refine AGq<|AGm<|ATp rfl rfl (AGm ?_);by_cases Ae:(A5.length:Int) < 1
  ·rw [decide_eq_true Ae];refine Adc 22 true<|ATf rfl (AGu<|ATx rfl (AGq<|ATs<|ATs<|AGx ?_));obtain rfl:=AGo<|ifT Av Ae;refine AG1<|ATd ?_;obtain rfl:=AGo Aj;exact ⟨_,Adh,Ab.x,rfl⟩
  ·have Aw:=ifF Av Ae;rw [decide_eq_false Ae];refine ATc 22 false<|AGm<|ATc 22 false<|AXr rfl rfl (AS6 rfl (AGu<|⟨_,rfl,λAk=>?_,λAk=>?_⟩))
   ·refine AGq<|ATs<|ATs<|AGx ?_;obtain rfl:=AGo<|AT4 Aw Ak;refine AG1<|ATd ?_;obtain rfl:=AGo Aj;exact ⟨_,Adh,Ab.x,rfl⟩
   ·refine AG0<|q_t ?_;exact ⟨(():Unit),⟨AGo<|AT5 Aw Ak,Ab⟩,trivial⟩
 rintro ⟨⟩ Bh Bi ⟨Ba,Ax⟩;subst Ba;refine AGs<|AGq<|AGm<|AT3 AUy rfl H2 (AGm<|AGu<|AGt<|AYr 137170518172 Aj (λx=>[(28,(.int .i64 x))]) (λx=>Ax.L) Ax ⟨rfl,trivial⟩ ?_);rintro Bj Bl Bm Bn Af Am Ay;unfold Ads at Am;refine AGq<|ATp rfl rfl (AGu<|AGs<|⟨_,rfl,λAo=>?_,λAo=>?_⟩)
 ·refine AG0<|q_t<|AGs<|AGt<|AGq ?_;obtain ⟨Bo,Bb,Az⟩:=AGr<|AT4 Am Ao;refine AZ1 AUy AW5 H2 Af.x Bb λ_ Bp Bc=>AT2<|AGm<|AUl AWc rfl Bc (AGm<|AVz rfl rfl (AGu<|⟨_,rfl,λAp=>?_,λAp=>?_⟩))
  ·refine AGq<|ATs<|ATs<|AGx<|AG1<|AUg<|ATd<|ATd<|AUg<|ATd ?_;obtain rfl:=AGo<|Ay _ (AGo<|AT4 Az Ap).symm;exact ⟨_,Adh,Af.x,rfl⟩
  ·refine AG0<|q_b<|q_t<|AS8<|ATn rfl rfl (AGm<|AGu ?_);exact ⟨_,(AGo<|AT5 Az Ap).symm,Af,rfl,trivial⟩
 ·refine ATh<|ATi<|ATi<|AUf<|q_t<|AGq<|AGm<|AT3 AUy rfl H2 (AGm<|ATs<|ATs<|AGx<|AG1 ?_);obtain rfl:=AGo<|Ay _ (AGo<|AT5 Am Ao).symm;exact ⟨_,Adh,Af.x,rfl⟩
def Ag0 (fuel:Nat) (a3:LiI) (Ab:Int) (Af:LiA) (Aa:Int) (Ac:LiI):Option ((Int × LiI) ⊕ LiI):=
 if Aa < (Af.length:Int) then (gI Ac Ab).bind λAd=>(((gI a3 Ab).bind λAg=>(gI Ag Aa).bind λAh=>(Ati fuel Ah).bind λAi=>some Ai):Option Int).bind λAj=>(gI Ad Aa).bind λAk=>some (.inl (w64<|Aa + 1,sI Ac Ab<|sI Ad Aa Aj)) else some<|.inr Ac
def Ag1 (fuel:Nat) (a3:LiI) (Ae Ab Aa:Int) (Ac:LiI):Option ((Int × LiI) ⊕ LiI):=
 if Aa < ((List.replicate (Int.toNat Ae) ([]:List Int)).length:Int) then if 0<=Ab/\Ab<=100000000 then (gI Ac Aa).bind λAh=>(gI (sI Ac Aa<|List.replicate (Int.toNat Ab) (0:Int)) Aa).bind λAf=>(iter (λs=>Ag0 fuel a3 Aa Af s.1 s.2) fuel (0,sI Ac Aa<|List.replicate (Int.toNat Ab) (0:Int))).bind (λ(Ag:LiI)=>some<|.inl (w64<|Aa + 1,Ag)) else none else some<|.inr Ac
def Ad3 (fuel:Nat) (a3:LiI):Option (LiI × Bool):=
 (Aas fuel a3).bind λ(Aa,Ac,Ad)=>if (!Ad)=true then some ([],false) else ((if 0<=Aa/\Aa<=100000000 then (iter (λs=>Ag1 fuel a3 Aa Ac s.1 s.2) fuel (0,List.replicate (Int.toNat Aa) ([]:List Int))).bind (λ(Ae:LiI)=>some Ae) else none):Option LiI).bind λAf=>some (Af,true)
theorem Ao4 {r:(LiI × Bool)} (H2:AV4 (cI .i64) h Ah a3) (hp:Ad3 fuel a3=some r):ATz Tryz.prog 94 #[Ah] h (λx h'=>Ext h h'/\ ∃ (x0:Value) (F0:List Nat) (Bu:List LnA) (Bv:List Value),x= .tuple #[x0,.bool r.2]/\AV8 cZ 146 129 h' F0 Bu Bv x0 r.1/\Sp h' h.size [F0]):=by
 unfold Ad3 at hp;refine cwf (l:=[_]) Tryz.func94 rfl rfl (AGq ?_);have K0:=Kst.k0 h;refine A7d [Ah] trivial tt2 rfl (Azf ((H2.ext K0.x)).isOne) λb5 h6 V7 E8 S9=>ATs<|AT2 ?_;have Aj:=K0.nb E8 S9 V7;refine AT6 AU5 rfl ((Aj.b p0).cell (i:=0) rfl) ?_;obtain ⟨⟨B1,B3,D1⟩,B4,Ak⟩:=AGr hp;dsimp only at Ak;refine AVs Aj (Amx (H2.ext Aj.x) B4) λD2 D3 Am=>AGm<|AUk rfl rfl (AUk rfl rfl (AUk rfl rfl (ATs<|ATs<|AGx<|AGs<|AGq<|AGm<|AV5 rfl (AGu<|⟨_,rfl,λAo=>?_,λAo=>?_⟩))))
 ·refine AGq<|ATs<|AGx<|AG1<|ATd ?_;have Ap:=Kst.anil2 cZ 146 129 Am;obtain rfl:=AGo<|ifT Ak Ao;exact ⟨_,AUp,Ap.x,_,_,_,_,rfl,(Ap.o2 p0),Ap.s.sel [0] AGn⟩
 ·refine AG0<|q_t<|AGq<|AGm<|AGm<|A6a rfl ?_;obtain ⟨B5,B6,B7⟩:=AGr<|AY5 Ak Ao;refine ATo (K':=(λxr h'=> ∃ x:(LiI) × (Value) × LnA × LnN × LvA,x.1=B5/\xr=x.2.1/\Kst h h' (aO2 cZ 146 129 x.2.2.1 x.2.2.2.1 x.2.2.2.2 x.2.1 x.1 :: Am.L))) trivial rfl ?_ λB8 D4 B9=>?_
  ·refine cwf (l:=[_,_,_]) Tryz.func150 rfl rfl (AGq<|AT2<|AGm ?_);obtain ⟨Ca,Cb⟩:=ifN B6;refine Ak0 cZ 129 AUy Azg rfl trivial tt2 rfl rfl AGn Ca λCd Ce Cf Aq D5 Cg Ch Ci=>AGx<|AGs<|AGq<|AGm ?_;have Ar:=Am.no2 Ch Ci Cg;refine AT3 AUy rfl (Ar.o2 p0).rd (AGm<|AGu<|AGt<|AXv 4398046495488 (λx:(Int) × (LiI) × LnA × LnN × LvA=>(x.1,x.2.1)) ((0,(List.replicate (Int.toNat B1) ([]:List Int)),Cd,Ce,Cf):(Int) × (LiI) × LnA × LnN × LvA) Cb (λx=>[(14,(.int .i64 x.1))]) (λx=>Ar.L.set 0<|aO2 cZ 146 129 x.2.2.1 x.2.2.2.1 x.2.2.2.2 Aq x.2.1) Ar ⟨rfl,trivial⟩ ?_);rintro ⟨Aa,Bg,Cj,Au,Bh⟩ D6 D7 D8 Bi Av Ck;unfold Ag1 at Av;refine AGq<|ATp rfl rfl (AGu<|AGs<|⟨_,rfl,λAw=>?_,λAw=>?_⟩)
   ·refine AG0<|q_t<|AGs<|AGt<|AGq<|AGm<|AT2<|AGm<|AGm<|AGm ?_;obtain ⟨Cm,Cn⟩:=ifN<|AT4 Av Aw;refine A1b AWc AYd rfl trivial tt2 rfl rfl AGn Cm λBj Co D9 Cp Cq Cr Ct=>?_;have Ac:=Bi.no Cq (AYh Cr Ct) Cp;obtain ⟨Ea,Bl,Cu⟩:=AGr Cn;refine AVv AUy rfl (Ac.o2 p1) rfl Bl λCv Eb Cw Ec Ed=>Akz AW5 (Ac.o2 p1) Bl Cw rfl rfl (Ac.o p0) (Ac.dj p0 p1 AGn) λEe Cx Cy Cz=>Aal<|AGm<|AGm ?_;have Ax:=Ac.m2 p0 p1 AGn Cy Cx λz hz=> .inl<|Cz z hz;obtain ⟨Ef,Bm,C0⟩:=AGr Cu;refine AUo AUy AW5 (Ax.o2 p1) Bm λ_ Eg C1=>AUl AWc rfl ((Ax.o2 p1).rowI C1 Bm) (AGm<|AGu<|AGt ?_);have Ay:=Ax.sel [1,2] AGn;dsimp only [AZ3,Adk] at Ay;refine AXv 2198889038336 (λx:(Int) × (LiI) × LnA × LnN × LvA=>(x.1,x.2.1)) ((0,(sI Bg Aa<|List.replicate (Int.toNat B3) (0:Int)),(Cv :: (Au.set (Int.toNat Aa) [Bj]).flatten),(Au.set (Int.toNat Aa) [Bj]),(Bh.set (Int.toNat Aa) Co)):(Int) × (LiI) × LnA × LnN × LvA) C0 (λx=>[(27,(.int .i64 x.1))]) (λx=>Ay.L.set 0<|aO2 cZ 146 129 x.2.2.1 x.2.2.2.1 x.2.2.2.2 Aq x.2.1) Ay ⟨rfl,trivial⟩ ?_;rintro ⟨C2,Eh,Ei,Ej,Ek⟩ El Ab Em Ad Az C3;unfold Ag0 at Az;refine AGq<|ATp rfl rfl (AGu<|AGs<|⟨_,rfl,λA3=>?_,λA3=>?_⟩)
    ·refine AG0<|q_t<|AGs<|AGt<|AGq<|AGm<|AGx<|AVn (λh'=>UpT [] Ab h') AG2 ?_;have A4:UpT [] Ab Ab:=UpT.start all_nil;refine AGm<|AGm ?_;obtain ⟨En,A5,C4⟩:=AGr<|AT4 Az A3;refine AVv AUy rfl (Ad.o2 p0) rfl A5 λEo Ep Er C5 C6=>AVg AW5 rfl A4 (λh' hb=>ATw C6 hb.ext) (AGm<|AGm<|AGm<|AGm ?_);obtain ⟨C7,C8,C9⟩:=AGr C4;have Da:UpT [] Ab Ab:=UpT.start all_nil;refine As9 (l:=[(.int .i64 Aa),(.int .i64 C2)]) (cl:=[(.pointer<|some ⟨b5,0,none⟩)]) (K':=(λxr h'=> ∃ x:(Int) × LvA,x.1=C7/\xr=(.agg (x.2).toArray)/\Kst h h' (aZ x.2 x.1 :: Ad.L)/\UpT [] Ab h')) A4 rfl rfl ?_ λEs Et Db=>?_
     ·refine cwf (l:=[_,_,_]) Tryz.func151 rfl rfl (AGq<|Aua [.bool false,.slice none 0 0] AYd rfl trivial tt2 λEu Ev Dc A6 Bn=>Aal ?_);have Ew:=A6.1;have Ag:=Ad.nb A6 Bn Dc;refine AT6 AU5 rfl ((Ag.b p2).cell (i:=0) rfl) (AGm ?_);have Dd:=Bn.loAll 0 rfl;obtain ⟨Ey,De,Df⟩:=AGr C8;refine Alx ATb rfl H2 rfl De λEz Fa Fb Dg Dh=>AT6 ATq rfl (ATw Dg Ag.x) (AGm ?_);obtain ⟨Fc,Di,Dj⟩:=AGr Df;refine Adg (c:=(cI .i64)) ATa rfl Dh rfl Di λFd Fe Ff Dk Dl=>?_;obtain rfl:=Dk;refine AT6 ATg rfl (ATw (Dl 0 _ rfl) Ag.x) ?_;obtain ⟨Do,Dp,Dq⟩:=AGr Dj;refine Agw rfl (Auu Dp) λFg Dr A7 Ds=>?_;obtain ⟨Fh,rfl,Dt⟩:=Ds;have Fi:=A7.1;obtain ⟨Bo,rfl,Du⟩:=Dt.cs;have Ae:=(Ag.e A7).az Du;refine AVa Bo AUm (cZ.klen<|Ae.z p0) (cZ.klen<|ATk Dr) rfl rfl (cZ.one<|Ae.z p0) (Ae.b p1) λFj Bp A8=>AGu<|AG1 ?_;have Fk:=A8.1;have A9:=Ae.sb p1 A8 Bp rfl;refine ⟨_,AVk AUm (cZ.klen<|A9.z p0) rfl (A9.b p1),((Do,Bo):(Int) × LvA),?_,rfl,?_,?_⟩
      ·exact AGo Dq
      ·exact A9.sel [0,2,3] AGn
      ·exact (((Da.thenE A6).thenE A7).then (Bp.stA A8 (AZh (Ae.b p1) rfl) rfl) (BDx Dd AGl))
     obtain ⟨⟨Fl,Fm⟩,Dv,rfl,Af,Bq⟩:=Db;have Fo:=Bq.size;refine ⟨(A4.then Bq all_nil),?_⟩;subst Dv;obtain ⟨Fp,Br,Dw⟩:=AGr C9;refine AXj (m:=Aa) AWc rfl (Ad.o2 p0) C5 A5 rfl Br λFq Dx=>Afl (m:=Aa) (Aly AUm (cZ.klen<|Af.z p0) rfl rfl (cZ.one<|Af.z p0)) (Af.o2 p1) Dx A5 Br (Af.z p0) λFr Dy Bt=>ATu<|q_b<|q_t<|AS8<|ATn rfl rfl (AGm<|AGu ?_);have Ft:=Bt.size;exact ⟨(_,_,_,_,_),(AGo Dw).symm,(Af.uO2 p1 Bt Dy).sel [1,2] AGn,rfl,trivial⟩
    ·refine ATh<|ATi<|ATi<|AUf<|q_b<|q_t<|AS8<|ATn rfl rfl (AGm<|AGu ?_);exact ⟨(_,_,_,_,_),(AGo<|C3 _ (AGo<|AT5 Az A3).symm).symm,Ad,rfl,trivial⟩
   ·refine ATh<|ATi<|ATi<|AUf<|q_t<|AGq<|AGm<|AGx<|AG1<|⟨_,AS5,((Bg,Aq,Cj,Au,Bh):(LiI) × (Value) × LnA × LnN × LvA),?_,rfl,?_⟩
    ·exact AGo<|Ck _ (AGo<|AT5 Av Aw).symm
    ·exact Bi
  obtain ⟨⟨Fu,B8,Fv,Fw,Fx⟩,Dz,rfl,Ba⟩:=B9;refine ⟨trivial,?_⟩;subst Dz;refine ATs<|AGx<|AG1 ?_;obtain rfl:=AGo B7;exact ⟨_,AUp,Ba.x,_,_,_,_,rfl,(Ba.o2 p0),Ba.s.sel [0] AGn⟩
def Ae5 (fuel:Nat) (a3:LiI) (Ac:Int) (Ad:LiI) (Aa:Int):Option (Int ⊕ Int):=
 ((if Aa < (a3.length:Int) then (gI Ad Aa).bind λAe=>(gI Ae Ac).bind λAf=>(Aut fuel Af).bind λAg=>if Ag=0 then some (.inl ()) else some (.inr ()) else some<|.inr ()):Option (Unit ⊕ Unit)).bind (λex=>match ex with | .inl _=>(some<|.inl<|w64<|Aa + 1) | .inr _=>some<|.inr Aa)
def Ae6 (fuel:Nat) (a3:LiI) (Ad Ag Ah Ae Aa:Int) (Ab:LiI):Option ((Int × LiI) ⊕ LiI):=
 if Aa < (a3.length:Int) then (gI Ab Ae).bind λAc=>(gI Ac Aa).bind λAi=>(A3e fuel Ah Ai).bind λAj=>(gI Ac Ad).bind λAk=>(gI Ab Ad).bind λAm=>(gI Am Aa).bind λAo=>(A3e fuel Ak Ao).bind λAp=>(BDd fuel Aj Ap).bind λAq=>(Ao2 fuel Aq Ag).bind λ(Ar,Au,Av)=>some (.inl (w64<|Aa + 1,sI Ab Ae<|sI Ac Aa Ar)) else some<|.inr Ab
def Ae7 (fuel:Nat) (a3:LiI) (Ac Ae Af Aa:Int) (Ad:LiI):Option ((Int × LiI) ⊕ LiI):=
 if Aa < (a3.length:Int) then (iter (λs=>Ae6 fuel a3 Ac Ae Af Aa s.1 s.2) fuel (w64<|Ac + 1,Ad)).bind (λ(Ag:LiI)=>some<|.inl (w64<|Aa + 1,Ag)) else some<|.inr Ad
def Ae8 (fuel:Nat) (a3:LiI) (Ae:Bool) (Aa:Int) (Ab:LiI) (Af:Int):Option ((Bool × Int × LiI × Int) ⊕ (Int ⊕ (Bool × Int))):=
 if Aa < (a3.length:Int) then (((iter (λs=>Ae5 fuel a3 Aa Ab s) fuel Aa).bind (λ(Ai:Int)=>some Ai)):Option Int).bind (λ(Ad:Int)=>if Ad=(a3.length:Int) then some (.inr<|.inl 0) else ((if ¬ Ad=Aa then (gI Ab Ad).bind λAj=>(gI Ab Aa).bind λAk=>some (!Ae,sI (sI Ab Aa Aj) Ad Ak) else some (Ae,Ab)):Option (Bool × LiI)).bind (λ((Am,Ag):Bool × LiI)=>(gI Ag Aa).bind λAo=>(gI Ao Aa).bind λAh=>(iter (λs=>Ae7 fuel a3 Aa Af Ah s.1 s.2) fuel (w64<|Aa + 1,Ag)).bind (λ(Ap:LiI)=>some<|.inl (Am,w64<|Aa + 1,Ap,Ah)))) else some<|.inr<|.inr (Ae,Af)
def Ae9 (fuel:Nat) (a3:LiI) (Aa:Int) (Ac:LiI):Option ((Int × LiI) ⊕ LiI):=
 if Aa < (a3.length:Int) then (gI a3 Aa).bind λAd=>if 0<=(a3.length:Int)/\(a3.length:Int)<=100000000 then (gI Ac Aa).bind λAf=>(gI (sI Ac Aa<|List.replicate (Int.toNat (a3.length:Int)) (0:Int)) Aa).bind λAe=>if Ad.length=Ae.length/\0 < Ae.length then some (.inl (w64<|Aa + 1,sI (sI Ac Aa<|List.replicate (Int.toNat (a3.length:Int)) (0:Int)) Aa Ad)) else none else none else some<|.inr Ac
def Aat (fuel:Nat) (a3:LiI):Option Int:=
 if 0<=(a3.length:Int)/\(a3.length:Int)<=100000000 then (iter (λs=>Ae9 fuel a3 s.1 s.2) fuel (0,List.replicate (Int.toNat (a3.length:Int)) ([]:List Int))).bind (λ(Ac:LiI)=>(Ati fuel 1).bind λAd=>(iter (λs=>Ae8 fuel a3 s.1 s.2.1 s.2.2.1 s.2.2.2) fuel (false,0,Ac,Ad)).bind (λex=>match ex with | .inl Ae=>(some Ae) | .inr (Af,Ab)=>if Af=true then (BDe fuel Ab).bind λAg=>some Ag else (Ao3 fuel Ab).bind λAh=>some Ah)) else none
theorem Amy {Bx:Value} (H2:AV4 cZ h Bx a3) (hp:Aat fuel a3=some r):ATz Tryz.prog 154 #[Bx] h (λx h'=>Ext h h'/\ ∃ (x0:Value),x=x0/\ZZ h' x0 r):=by
 unfold Aat at hp;refine cwf (l:=[_]) Tryz.func154 rfl rfl (AGq<|AV6 (Kst.k0 h) [.bool false,.slice none 0 0] AYd λb5 h6 E8 C7=>Aal<|AGm<|AT3 AUy rfl H2 (AT2<|AGm ?_));obtain ⟨C8,C9⟩:=ifN hp;refine Ak0 cZ 129 AUy Azg rfl trivial tt2 rfl rfl AGn C8 λDa Db Dc Ak Id Dd De Df=>AGx<|AGs<|AGq<|AGm<|AT3 AUy rfl H2 (AGm<|AGu<|AGt ?_);have Bz:=C7.no2 De Df Dd;refine AXv 274875809888 (λx:(Int) × (LiI) × LnA × LnN × LvA=>(x.1,x.2.1)) ((0,(List.replicate (Int.toNat (a3.length:Int)) ([]:List Int)),Da,Db,Dc):(Int) × (LiI) × LnA × LnN × LvA) C9 (λx=>[(21,(.int .i64 x.1))]) (λx=>Bz.L.set 0<|aO2 cZ 146 129 x.2.2.1 x.2.2.2.1 x.2.2.2.2 Ak x.2.1) Bz ⟨rfl,trivial⟩ ?_;rintro ⟨Dg,u32,Dh,Di,Dj⟩ Ie If Ih A7 A8 Dk;unfold Ae9 at A8;refine AGq<|ATp rfl rfl (AGu<|AGs<|⟨_,rfl,λA9=>?_,λA9=>?_⟩)
 ·refine AG0<|q_t<|AGs<|AGt<|AGq<|AGm ?_;obtain ⟨Ii,Dl,Do⟩:=AGr<|AT4 A8 A9;refine AZ1 AUy AW5 H2 A7.x Dl λ_ Ij Dp=>ATs<|AT2<|AGm<|AGm<|AGm ?_;obtain ⟨Dq,Dr⟩:=ifN Do;refine A1b AWc AYd rfl trivial tt2 rfl rfl AGn Dq λIk Il Im Ds Dt Du Dv=>?_;have Am:=A7.no Dt (AYh Du Dv) Ds;obtain ⟨Io,B1,Dw⟩:=AGr Dr;refine AVv AUy rfl (Am.o2 p1) rfl B1 λIp Iq Dx Ir Is=>Akz AW5 (Am.o2 p1) B1 Dx rfl rfl (Am.o p0) (Am.dj p0 p1 AGn) λIt Dy Dz D0=>AGu<|AS8<|AGm<|AGm ?_;have Au:=Am.m2 p0 p1 AGn Dz Dy λz hz=> .inl<|D0 z hz;obtain ⟨Iu,B3,D1⟩:=AGr Dw;refine AUo AUy AW5 (Au.o2 p1) B3 λ_ Iv D2=>AGm ?_;obtain ⟨D3,D4⟩:=ifN D1;refine A7m (m:=Dg) AWc trivial rfl rfl (Au.o2 p1) D2 B3 (Dp.ext Au.x) D3 λIw D5 D6=>⟨trivial,?_⟩;refine ATu<|q_b<|q_t<|AS8<|ATn rfl rfl (AGm<|AGu ?_);exact ⟨(_,_,_,_,_),(AGo D4).symm,(Au.uO2 p1 D6 D5).sel [1,2] AGn,rfl,trivial⟩
 ·refine ATh<|ATi<|ATi<|AUf<|q_t<|AGq<|AT2 ?_;obtain ⟨D7,D8,D9⟩:=AGr<|Dk _ (AGo<|AT5 A8 A9).symm;refine Ahs A7 (Auu D8) λEa Ix Iy Eb=>AV6 Eb [.bool false,.slice none 0 0] AYd λEc Ed Iz B4=>AZf B4 p0 (ATk Ed) (B4.z p1) λI0 B5=>AGu<|AGs<|AGq<|AGm<|AGm<|AGu<|AGt<|AXv 22300745198530623141535718272647261994385024 (λx:(Bool) × (Int) × (LiI) × LnA × LnN × LvA × (Int) × LvA=>(x.1,x.2.1,x.2.2.1,x.2.2.2.2.2.2.1)) ((false,0,u32,Dh,Di,Dj,D7,Ea):(Bool) × (Int) × (LiI) × LnA × LnN × LvA × (Int) × LvA) D9 (λx=>[(7,(.bool x.1)),(40,(.int .i64 x.2.1))]) (λx=>((B5.L.set 2<|aO2 cZ 146 129 x.2.2.2.1 x.2.2.2.2.1 x.2.2.2.2.2.1 Ak x.2.2.1).set 1 (aZ x.2.2.2.2.2.2.2 x.2.2.2.2.2.2.1)).set 0 (aB 129 Ec x.2.2.2.2.2.2.2)) B5 ⟨rfl,rfl,trivial⟩ ?_;rintro ⟨B6,Ao,B7,Ee,Ef,Eg,I1,I2⟩ I3 I6 I7 Ab Ba B8;unfold Ae8 at Ba;refine AGq<|ATp rfl rfl (AGu<|AGs<|⟨_,rfl,λBb=>?_,λBb=>?_⟩)
  ·refine AG0<|q_t<|AGs<|AGt<|AGq<|AGm<|AT2<|AGm<|AGx ?_;obtain ⟨Eh,Ei,B9⟩:=AGr<|AT4 Ba Bb;refine Aer 1152903912420803584 (λx:(Int)=>[(10,(.int .i64 x))]) (λx h'=>( x)=Eh/\Kst h h' (Ab.L)) ?_ ?_
   ·refine AGt<|AYr 1152903912420803584 Ei (λx=>[(10,(.int .i64 x))]) (λx=>Ab.L) Ab ⟨rfl,trivial⟩ ?_;rintro Av I9 Ja Jc Ah Ca Cb;unfold Ae5 at Ca;obtain ⟨Ej,Cd,Bc⟩:=AGr Ca;refine Aer 288212783965667328 (λx:Unit=>[]) (λx h'=>(Sum.inl <| ())=Ej/\Kst h h' (Ah.L)) ?_ ?_
    ·refine AGq<|AGm<|AGm<|ATp rfl rfl (AGm ?_);by_cases Aw:Av < (a3.length:Int)
     ·rw [decide_eq_true Aw];refine ATc 47 true<|AGm<|ATc 47 true<|AGm<|ATc 47 true ?_;obtain ⟨Je,Be,Ek⟩:=AGr<|ifT Cd Aw;refine AVv AUy rfl (Ah.o2 p2) rfl Be λJf Jg Jh El Em=>ATc 47 true<|AT6 AW5 rfl Em (ATc 47 true<|AGm<|ATc 47 true ?_);obtain ⟨Ji,Ce,En⟩:=AGr Ek;refine AXj (m:=Av) AWc rfl (Ah.o2 p2) El Be rfl Ce λJj Eo=>ATc 47 true ?_;obtain ⟨Jk,Ep,Er⟩:=(Ah.o2 p2).cells Eo Be Ce;have Bf:=Ah.az Ep;refine Agu (c:=cZ) AUm rfl (Bf.z p0) (λj u hu=>(Er j u hu)) (ATc 47 true ?_);obtain ⟨Jl,Es,Cf⟩:=AGr En;refine AVs Bf (Atj (Bf.z p0).2 Es) λJm Jn Cg=>ATc 47 true<|AU0 rfl rfl (ATf rfl (AGu<|⟨_,rfl,λBg=>?_,λBg=>?_⟩))
      ·refine AG0<|q_t ?_;exact ⟨(():Unit),⟨AGo<|AT4 Cf Bg,Cg.sel [1,2,3,4] AGn⟩,trivial⟩
      ·obtain rfl:=AGo<|AT5 Cf Bg;refine ATh<|ATi<|ATi<|AUf<|q_t ?_;exact ⟨(Av:(Int)),⟨AGo<|Cb _ (AGo Bc).symm,Cg.sel [1,2,3,4] AGn⟩,rfl,trivial⟩
     ·rw [decide_eq_false Aw];refine AY2 47 false<|AWe 47 false<|AS6 rfl (AGu<|AT0 rfl ?_);obtain rfl:=AGo<|ifF Cd Aw;refine ATh<|ATi<|ATi<|AUf<|q_t ?_;exact ⟨(Av:(Int)),⟨AGo<|Cb _ (AGo Bc).symm,Ah⟩,rfl,trivial⟩
    rintro ⟨⟩ Jo Jp ⟨Et,Eu⟩;subst Et;refine AGt<|AS8<|AGm<|ATn rfl rfl (ATs<|ATu<|q_b<|q_t ?_);exact ⟨_,(AGo Bc).symm,Eu,rfl,trivial⟩
   rintro Ev Jq Ch ⟨Ew,Ae⟩;subst Ew;refine AGs<|AGq<|AGm<|AGm<|AU0 rfl rfl (AGu<|⟨_,rfl,λBh=>?_,λBh=>?_⟩)
   ·refine AGq<|AXa (Aiv )<|AZf Ae p3 (ATk Ch) (ATk Ch) λCi Cj=>AGu<|AG1<|ATd<|AUg<|ATd<|ATd<|AUg<|ATd ?_;obtain rfl:=AGo<|B8 _ (AGo<|AT4 B9 Bh).symm;exact ⟨_,AVk AUm (cZ.klen<|ATk Ci) rfl (Cj.b p3),Cj.x,_,rfl,(ATk Ci).2⟩
   ·refine AG0<|q_t ?_;obtain ⟨Ey,Ck,Ez⟩:=AGr<|AT5 B9 Bh;refine Aer 9671388110172959688097920 (λx:(Bool) × (LiI) × LnA × LnN × LvA=>[(7,(.bool x.1))]) (λx h'=>( (x.1,x.2.1))=Ey/\Kst h h' (Ae.L.set 2<|aO2 cZ 146 129 x.2.2.1 x.2.2.2.1 x.2.2.2.2 Ak x.2.1)) ?_ ?_
    ·refine AGq<|AGm<|AGm<|AVz rfl rfl (AGu<|⟨_,rfl,λBi=>?_,λBi=>?_⟩)
     ·refine AGs<|AXi<|AGm<|AGm<|AGm<|AGm<|AGm<|AGm ?_;obtain ⟨Fa,Cm,Fb⟩:=AGr<|AT4 Ck Bi;refine AUo AUy AW5 (Ae.o2 p2) Cm λ_ Jr Fc=>AGm<|AGm ?_;obtain ⟨Fd,Cn,Fe⟩:=AGr Fb;refine AUo AUy AW5 (Ae.o2 p2) Cn λ_ Js Ff=>Ah6 AUy AW5 (Ae.o2 p2) Ff Fc Cn Cm rfl rfl (λ_=>rfl) (λ_=>rfl) (λ_=>rfl) (λ_ _=>rfl) λJt Ju Fg Fh Fi Jv Fj Fk Fl=>AGu<|AS8<|AGm<|AV5 rfl (AGx ?_);exact ⟨(((!B6),(sI (sI B7 Ao Fa) Ev Fd),Fg,Fh,Fi):(Bool) × (LiI) × LnA × LnN × LvA),⟨AGo Fe,(Ae.uo2 p2 Fk Fj Fl)⟩,rfl,trivial⟩
     ·refine AG0<|q_t ?_;exact ⟨((B6,B7,Ee,Ef,Eg):(Bool) × (LiI) × LnA × LnN × LvA),⟨AGo<|AT5 Ck Bi,Ae⟩,rfl,trivial⟩
    rintro ⟨Jw,Fm,Fo,Fp,Fq⟩ Jx Jy ⟨Fr,Ax⟩;subst Fr;refine AGq<|AGm<|AGm ?_;obtain ⟨Jz,Bj,Ft⟩:=AGr Ez;refine AUo AUy AW5 (Ax.o2 p2) Bj λ_ J0 Fu=>AGm ?_;obtain ⟨J1,Co,Fv⟩:=AGr Ft;refine AXj (m:=Ao) AWc rfl (Ax.o2 p2) Fu Bj rfl Co λJ2 Fw=>?_;obtain ⟨J3,Fx,Fy⟩:=(Ax.o2 p2).cells Fw Bj Co;have Cp:=Ax.az Fx;refine Agu (c:=cZ) AUm rfl (Cp.z p0) (λj u hu=>(Fy j u hu)) (AV6 Cp [.bool false,.slice none 0 0] AYd λJ4 Fz J5 Cq=>AZf Cq p0 (ATk Fz) (Cq.z p1) λJ6 Cr=>AGu<|AGs<|AGq<|AGm<|ATn rfl rfl (AGx<|AGt<|AXv 5575186299632650833623772426640990780026880 (λx:(Int) × (LiI) × LnA × LnN × LvA=>(x.1,x.2.1)) (((w64<|Ao + 1),Fm,Fo,Fp,Fq):(Int) × (LiI) × LnA × LnN × LvA) Fv (λx=>[(12,(.int .i64 x.1))]) (λx=>Cr.L.set 4<|aO2 cZ 146 129 x.2.2.1 x.2.2.2.1 x.2.2.2.2 Ak x.2.1) Cr ⟨rfl,trivial⟩ ?_));rintro ⟨Ay,F4,F5,F6,F7⟩ J7 J8 J9 Af Bl F8;unfold Ae7 at Bl;refine AGs<|AGq<|AGm<|AGm<|ATp rfl rfl (AGu<|⟨_,rfl,λBm=>?_,λBm=>?_⟩)
    ·refine AG0<|q_t<|AGs<|AGt<|AGq<|AGm<|ATn rfl rfl (AGx<|AGt<|AXv 5575186299632021960083815453461342024916992 (λx:(Int) × (LiI) × LnA × LnN × LvA=>(x.1,x.2.1)) (((w64<|Ao + 1),F4,F5,F6,F7):(Int) × (LiI) × LnA × LnN × LvA) (AT4 Bl Bm) (λx=>[(13,(.int .i64 x.1))]) (λx=>Af.L.set 4<|aO2 cZ 146 129 x.2.2.1 x.2.2.2.1 x.2.2.2.2 Ak x.2.1) Af ⟨rfl,trivial⟩ ?_);rintro ⟨Ka,Kb,Kc,Kd,Ke⟩ Kf Bn Kg Aa Bo F9;unfold Ae6 at Bo;refine AGs<|AGq<|AGm<|AGm<|ATp rfl rfl (AGu<|⟨_,rfl,λBp=>?_,λBp=>?_⟩)
     ·refine AG0<|q_t<|AGs<|AGt<|AGs ?_;have Ai:UpT [] Bn Bn:=UpT.start all_nil;refine Apm (B:=λh'=>UpT [] Bn h') 25 [⟨14,129,[.bool false,.slice none 0 0]⟩] (λ_ _ U E=>U.thenE E) AG2 Ai (A1i rfl AYd rfl (λ_ _ U E=>U.thenE E))<|h_l rfl (Aib (Aa.z p1) Ai (Aa.b p0)<|ATu<|h_l rfl (AGm<|ATu<|h_l rfl (AGm<|ATu<|h_l rfl ?_)));obtain ⟨Kh,Ac,Ga⟩:=AGr<|AT4 Bo Bp;refine AVv AUy rfl (Aa.o2 p4) rfl Ac λKi Kj Kk Gb Gc=>ATu<|h_l rfl (AVg AW5 rfl Ai (λh' hb=>ATw Gc hb.ext) (ATu<|h_l rfl (AGm<|ATu<|h_l rfl ?_)));obtain ⟨Kl,Az,Gd⟩:=AGr Ga;refine AXj (m:=Ay) AWc rfl (Aa.o2 p4) Gb Ac rfl Az λKm Ge=>ATu<|h_l rfl ?_;obtain ⟨Kn,Ct,Gf⟩:=(Aa.o2 p4).cells Ge Ac Az;refine Amc (c:=cZ) AUm rfl Ct Ai (λh' hb j u hu=>ATw (Gf j u hu) hb.ext) (ATu<|h_e rfl λKo Cu=>?_);have Bq:=(Aa.az<|cZ.upT Ct Ai).e Cu;obtain ⟨Kp,Gg,Gh⟩:=AGr Gd;refine AYq Bq (Ai.thenE Cu) (A1w (Bq.z p2).2 (Bq.z p0).2 Gg) λKr Kt Gi Gj Ag=>ATu ⟨Gi,?_⟩;refine h_l rfl (AGm<|ATu<|h_l rfl (AGm<|ATu<|h_l rfl (AVv AUy rfl (Aa.o2 p4) rfl Ac λKu Kv Kw Gk Gl=>ATu<|h_l rfl (AVg AW5 rfl Ag (λh' hb=>ATw Gl hb.ext) (ATu<|h_l rfl (AGm<|ATu<|h_l rfl ?_))))));obtain ⟨Kx,Cv,Gm⟩:=AGr Gh;refine AXj (m:=Ay) AWc rfl (Aa.o2 p4) Gk Ac rfl Cv λKy Gn=>ATu<|h_l rfl ?_;obtain ⟨Kz,Cw,Gp⟩:=(Aa.o2 p4).cells Gn Ac Cv;refine Amc (c:=cZ) AUm rfl Cw Ag (λh' hb j u hu=>ATw (Gp j u hu) hb.ext) (ATu<|h_l rfl (AGm<|ATu<|h_l rfl (AGm<|ATu<|h_l rfl ?_)));obtain ⟨La,Br,Gq⟩:=AGr Gm;refine AVv AUy rfl (Aa.o2 p4) rfl Br λLb Lc Ld Gr Gt=>ATu<|h_l rfl (AVg AW5 rfl Ag (λh' hb=>ATw Gt hb.ext) (ATu<|h_l rfl (AGm<|ATu<|h_l rfl ?_)));obtain ⟨Le,Cx,Gu⟩:=AGr Gq;refine AXj (m:=Ao) AWc rfl (Aa.o2 p4) Gr Br rfl Cx λLf Gv=>ATu<|h_l rfl ?_;obtain ⟨Lg,Cy,Gw⟩:=(Aa.o2 p4).cells Gv Br Cx;refine Amc (c:=cZ) AUm rfl Cy Ag (λh' hb j u hu=>ATw (Gw j u hu) hb.ext) (ATu<|h_e rfl λLh Cz=>?_);have Bt:=((Gj.az<|cZ.upT Cw Ag).az (cZ.upT Cy Ag)).e Cz;obtain ⟨Li,Gx,Gy⟩:=AGr Gu;refine AYq Bt (Ag.thenE Cz) (A1w (Bt.z p1).2 (Bt.z p0).2 Gx) λLj Lk Gz G3 G4=>ATu ⟨Gz,?_⟩;refine h_e rfl λLl C0=>?_;have Bu:=G3.e C0;obtain ⟨Lm,G5,G6⟩:=AGr Gy;refine AYq Bu (G4.thenE C0) (BEk (Bu.z p3).2 (Bu.z p0).2 G5) λG7 Lo G8 G9 Hb=>ATu ⟨G8,?_⟩;refine Awa λHc C1=>BD5 λLq C2 Hd Lr=>?_;have Aj:=G9.e C1;have A3:=((((((Aa.nb (Hb.thenE C1).ext (AYh Hd C2.lt) C2).az (Aj.z p5)).az (Aj.z p4)).az (Aj.z p3)).az (Aj.z p2)).az (Aj.z p1)).az (Aj.z p0);refine AVa G7 AUm (cZ.klen<|A3.z p0) (cZ.klen<|ATk Hc) rfl rfl (cZ.one<|A3.z p0) (A3.b p6) λBv He Hf=>AGu<|AVn (λh'=>UpT [] Bv h') AG2 ?_;have Ad:=A3.sb p6 Hf He rfl;have Ap:UpT [] Bv Bv:=UpT.start all_nil;refine AGm<|AGm<|AVv AUy rfl (Ad.o2 p11) rfl Ac λLv Lw Lx Hg Hh=>AVg AW5 rfl Ap (λh' hb=>ATw Hh hb.ext) (AGm<|Aib (Ad.z p0) Ap (Ad.b p6)<|Aib (Ad.z p10) Ap (Ad.b p9) ?_);obtain ⟨⟨Ly,Lz,L9⟩,Hj,C3⟩:=AGr G6;dsimp only at C3;refine AYj Ap (λ_ E=>Ap.thenE E) rfl (Ase (Ad.z p0).2 (Ad.z p10).2 Hj) λMa Mb Hk Hl=>?_;obtain ⟨Mc,Md,rfl,Hm,Hn⟩:=Hl;obtain ⟨Me,rfl,Ho⟩:=Hm.cs;obtain ⟨Mf,rfl,Hq⟩:=Hn.cs;refine AGm<|AUk rfl rfl (AUk rfl rfl (AUk rfl rfl (AXj (m:=Ay) AWc rfl (Ad.o2 p11) Hg Ac rfl Az λMg Hr=>?_)));have Aq:=((Ad.e Hk).az Ho).az Hq;refine Afl (m:=Ay) (Aly AUm (cZ.klen<|Aq.z p1) rfl rfl (cZ.one<|Aq.z p1)) (Aq.o2 p13) Hr Ac Az (Aq.z p1) λMh Hs Ht=>ATu<|q_b<|q_t<|AS8<|AGm<|ATn rfl rfl (AGx ?_);exact ⟨(_,_,_,_,_),(AGo C3).symm,(Aq.uO2 p13 Ht Hs).sel [9,10,11,12,13,14] AGn,rfl,trivial⟩
     ·refine ATh<|ATi<|ATi<|AUf<|q_b<|q_t<|AS8<|AGm<|ATn rfl rfl (AGx ?_);exact ⟨(_,_,_,_,_),(AGo<|F9 _ (AGo<|AT5 Bo Bp).symm).symm,Aa,rfl,trivial⟩
    ·refine ATh<|ATi<|ATi<|AUf<|q_t<|AS8<|Aew (Af.z p1) (Af.b p0)<|AZf Af p2 (Af.z p3) (Af.z p1) λMi Hu=>ATu<|q_b<|q_t<|AS8<|ATn rfl rfl (AGm<|AGu ?_);exact ⟨(_,_,_,_,_,_,_,_),(AGo<|F8 _ (AGo<|AT5 Bl Bm).symm).symm,Hu.sel [2,1,4,5] AGn,rfl,rfl,trivial⟩
  ·refine ATh<|ATi<|ATi<|AUf<|q_t<|AGs<|AGq<|AGm<|AGu ?_;have C4:=B8 _ (AGo<|AT5 Ba Bb).symm;refine ⟨_,rfl,λBw=>?_,λBw=>?_⟩
   ·refine AGq<|Aew (Ab.z p1) (Ab.b p0) ?_;obtain ⟨Mj,Hv,Hw⟩:=AGr<|ifT C4 Bw;refine Ahs Ab (BEl (Ab.z p1).2 Hv) λMk Hx Ml C5=>AZf C5 p4 (ATk Hx) (C5.z p0) λMm A4=>AGu<|AG1<|ATd ?_;obtain rfl:=AGo Hw;exact ⟨_,AVk AUm (cZ.klen<|A4.z p0) rfl (A4.b p4),A4.x,_,rfl,(A4.z p0).2⟩
   ·refine AG0<|q_t<|AGq<|Aew (Ab.z p1) (Ab.b p0) ?_;obtain ⟨Mo,Hy,Hz⟩:=AGr<|AY5 C4 Bw;refine Ahs Ab (Ark (Ab.z p1).2 Hy) λMq H5 Mr C6=>AZf C6 p4 (ATk H5) (C6.z p0) λMs A5=>AGu<|AG1 ?_;obtain rfl:=AGo Hz;exact ⟨_,AVk AUm (cZ.klen<|A5.z p0) rfl (A5.b p4),A5.x,_,rfl,(A5.z p0).2⟩
def Akj (fuel:Nat) (a3:LiI):Option (Int × Bool):=
 (AZl fuel a3).bind λ(Ab,Ac,Ad)=>if (!Ad)=true then some (0,false) else if ¬ Ab=Ac then some (0,false) else (Aat fuel a3).bind λAe=>some (Ae,true)
theorem As7 {Af:Value} {r:(Int × Bool)} (H2:AV4 cZ h Af a3) (hp:Akj fuel a3=some r):ATz Tryz.prog 95 #[Af] h (λx h'=>Ext h h'/\ ∃ (x0:Value),x= .tuple #[x0,.bool r.2]/\ZZ h' x0 r.1):=by
 unfold Akj at hp;refine cwf (l:=[_]) Tryz.func95 rfl rfl (AGq<|AV6 (Kst.k0 h) [.bool false,.slice none 0 0] AYd λb5 h6 E8 Aj=>AT2<|AGm ?_);obtain ⟨⟨A6,A7,Av⟩,Aw,Ad⟩:=AGr hp;dsimp only at Ad;refine AVs Aj (Alh (H2.ext Aj.x) Aw) λAa A8 Ab=>AGm<|AUk rfl rfl (AUk rfl rfl (AUk rfl rfl (ATs<|ATs<|AGx<|AGs<|AGq<|AGm<|AV5 rfl (AGm ?_))));cases Ak:(!Av)
 ·refine ATc 15 false<|AGm<|ATc 15 false<|AGm<|ATc 15 false<|AVz rfl rfl (AS6 rfl (AGu ?_));have Am:=AY5 Ad Ak;refine ⟨_,rfl,λAe=>?_,λAe=>?_⟩
  ·refine AGq<|AXa (Aiv )<|AZf Ab p0 (ATk Aa) (ATk Aa) λAo Ap=>AGx<|AG1<|ATd ?_;obtain rfl:=AGo<|AT4 Am Ae;exact ⟨_,Ani AUm (cZ.klen<|ATk Ao) rfl (Ap.b p0),Ap.x,_,rfl,(ATk Ao).2⟩
  ·refine AG0<|q_t<|AGq<|AGm ?_;obtain ⟨A9,Ax,Ay⟩:=AGr<|AT5 Am Ae;refine Ahs Ab (Amy (H2.ext Ab.x) Ax) λBa Az Bb Aq=>AZf Aq p1 (ATk Az) (Aq.z p0) λBc Ac=>AGx<|AG1 ?_;obtain rfl:=AGo Ay;exact ⟨_,Ani AUm (cZ.klen<|Ac.z p0) rfl (Ac.b p1),Ac.x,_,rfl,(Ac.z p0).2⟩
 ·refine AWi 15 true<|ATf rfl (AGu<|ATx rfl (AGq<|AXa (Aiv )<|AZf Ab p0 (ATk Aa) (ATk Aa) λAr Au=>AGx<|AG1<|ATd ?_));obtain rfl:=AGo<|ifT Ad Ak;exact ⟨_,Ani AUm (cZ.klen<|ATk Ar) rfl (Au.b p0),Au.x,_,rfl,(ATk Ar).2⟩
end Go.Proofs.YtkakafabeobahaaGreatDoor
namespace Go.QF
open Go
theorem Awr {l:List Value} (H:Sl h v l):SlK h 1 v (l.map λx=>[x]):=by
 obtain ⟨a,cap,hv,hc⟩:=H;refine ⟨a,cap,by grind,λi row hr=>?_⟩;grind
theorem Aws {l:List Value} (H:SlK h 1 v (l.map λx=>[x])):Sl h v l:=by
 obtain ⟨a,cap,hv,hc⟩:=H;refine ⟨a,cap,by grind,λi x hx=>?_⟩;obtain ⟨b,o,ha,hb⟩:=hc i [x] (by simp [hx]);refine ⟨b,o,ha,?_⟩;have:=hb 0 x rfl;grind
theorem A1x {κ:IntKind} {L:List Int} (H:Sl h v (L.map<|.int κ)):SlC (cI κ) h v L:=by
 refine ⟨L.map λa=>[.int κ a],?_,AT7,λi cs a h1 h2=>?_⟩
 ·have:=Awr H;rwa [List.map_map] at this
 ·rw [List.getElem?_map,h2] at h1;injection h1 with h1;exact h1.symm
theorem BGo {κ:IntKind} {L:List Int} (H:SlC (cI κ) h v L):Sl h v (L.map<|.int κ):=by
 obtain ⟨Ls,h1,h2,h3⟩:=H
 have:Ls=(L.map<|Value.int κ).map λx=>[x]:=by
  apply List.ext_getElem?
  intro i
  by_cases hi:i < L.length
  ·obtain ⟨a,ha⟩:∃ a,L[i]? =some a:=⟨L[i],List.getElem?_eq_getElem hi⟩
   obtain ⟨cs,hcs⟩:∃ cs,Ls[i]? =some cs:=⟨Ls[i]'AGl,List.getElem?_eq_getElem _⟩
   have:=h3 i cs a hcs ha
   rw [hcs,List.map_map,List.getElem?_map,ha]
   exact congrArg some this
  grind
 subst this;exact Aws h1
theorem BEm (H:AV4 (cI .i64) h v M):Mat h v M:=by
 obtain ⟨_,rs,h1,h2,h3⟩:=H;exact ⟨rs,Aws h1,h2,λi r z hr hz=>BGo<|h3 i r z hr hz⟩
theorem BB2 (H:Mat h v M) (hc:Ahp v):AV4 (cI .i64) h v M:=by
 obtain ⟨rs,h1,h2,h3⟩:=H;exact ⟨hc,rs,Awr h1,h2,λi r z hr hz=>A1x<|h3 i r z hr hz⟩
end Go.QF
namespace Go.QF
def Abs (x b:Int):Prop:= -b<=x/\x<=b
theorem Aps {b:Int} (hx:Abs x a) (hy:Abs y b):Abs (x * y) (a * b):=by
 unfold Abs at *;have ha:0<=a:=by omega
 have hb:0<=b:=by omega
 have h1:0<=(a - x) * (b - y):=Int.mul_nonneg AGl AGl;have h2:0<=(a - x) * (b + y):=Int.mul_nonneg AGl AGl;have h3:0<=(a + x) * (b - y):=Int.mul_nonneg AGl AGl;have h4:0<=(a + x) * (b + y):=Int.mul_nonneg AGl AGl;grind
theorem A8o {b:Int} (hb:0 < b) (hx:Abs x (b * y)):Abs (x.tdiv b) y:=by
 unfold Abs at *;rcases An7 x 0 with h | h
 ·have h1:x.tdiv b= -((-x).tdiv b):=by simp_all
  have h2:(-x).tdiv b=(-x) / b:=Int.tdiv_eq_ediv_of_nonneg AGl
  have h3:(-x) / b<=y:=by
   have:(-x) / b<=(b * y) / b:=Int.ediv_le_ediv hb AGl
   rwa [Int.mul_ediv_cancel_left _ AGl] at this
  have h4:0<=(-x) / b:=Int.ediv_nonneg AGl AGl;omega
 ·have h2:x.tdiv b=x / b:=Int.tdiv_eq_ediv_of_nonneg h
  have h3:x / b<=y:=by
   have:x / b<=(b * y) / b:=Int.ediv_le_ediv hb AGl
   rwa [Int.mul_ediv_cancel_left _ AGl] at this
  have h4:0<=x / b:=Int.ediv_nonneg h AGl;omega
def Auv (M:List (List Int)):Prop:=(1<=M.length/\M.length<=8)/\(∀ z∈M,z.length=M.length)/\ ∀ i j,i < M.length->j < M.length->ent M i j=ent M j i/\ -262144 < ent M i j/\ent M i j < 262144
open Classical in
noncomputable def Afu (M:List (List Int)):Bool:=decide (Auv M)
theorem Aaj (h:Auv M):true=Afu M:=by simp [Afu,h]
theorem AW4 (h: ¬ Auv M):false=Afu M:=by simp [Afu,h]
theorem Auw (h:Afu M=true):Auv M:=by simpa [Afu] using h
def Aka (m:Nat) (F:AS9):Prop:=(0 < F 0 0/\F 0 0 < 65536)/\ ∀ i,1<=i->i < m->2 * F i 0<=F 0 0/\ -2 * F i 0<=F 0 0
instance (m:Nat) (F:AS9):Decidable (Aka m F):=by
 unfold Aka
 have:Decidable (∀ i,1<=i->i < m->2 * F i 0<=F 0 0/\ -2 * F i 0<=F 0 0):=
  decidable_of_iff (∀ i,i < m->1<=i->2 * F i 0<=F 0 0/\ -2 * F i 0<=F 0 0) ⟨λh i a b=>h i b a,λh i a b=>h i b a⟩
 infer_instance
def Ali (F:AS9) (last:Int):AS9:=λi j=>(F 0 0 * F (i + 1) (j + 1) - F (i + 1) 0 * F 0 (j + 1)).tdiv last
def Ap3 (F:AS9) (last:Int):Prop:=3 * F 0 0 * F 0 0<=4 * (last * Ali F last 0 0 + F 1 0 * F 1 0)
instance (F:AS9) (last:Int):Decidable (Ap3 F last):=by unfold Ap3;infer_instance
def Akb:Nat->(AS9)->Int->Bool
 | 0,_,_=>false
 | 1,F,_=>decide (0 < F 0 0/\F 0 0<=10000)
 | m + 2,F,last=>decide (Aka (m + 2) F) && (decide (Ap3 F last) && Akb (m + 1) (Ali F last) (F 0 0))
noncomputable def isRed (M:List (List Int)):Bool:=Afu M && Akb M.length (ent M) 1
structure Stg (m:Nat) (F:AS9) (last:Int) (K:Int):Prop where
 sym:∀ i j,i < m->j < m->F i j=F j i
 bd:∀ i j,i < m->j < m->Abs (F i j) (last * K)
 l1:1<=last
 l2:last<=65535
theorem Azz {m:Nat} (H:Stg (m + 1) F last K) (hK:0<=K) (hs:Aka (m + 1) F):Stg m (Ali F last) (F 0 0) (K + 16384):=by
 have hd:=hs.1
 have hcol:∀ i,i < m->Abs (2 * F (i + 1) 0) (F 0 0):=λi hi=>by
  have:=hs.2 (i + 1) AGl AGl
  exact ⟨AGl,AGl⟩
 refine ⟨λi j hi hj=>?_,λi j hi hj=>?_,AGl,AGl⟩
 ·unfold Ali;rw [H.sym (i + 1) (j + 1) AGl AGl,H.sym (i + 1) 0 AGl AGl,H.sym 0 (j + 1) AGl AGl,Int.mul_comm<|F 0<|i + 1]
 ·unfold Ali;refine A8o (by have:=H.l1;omega) ?_;have h1:Abs (F 0 0 * F (i + 1) (j + 1)) (F 0 0 * (last * K)):=Aps ⟨AGl,AGl⟩<|H.bd _ _ AGl AGl
  have h2:Abs (2 * F (i + 1) 0 * (2 * F 0 (j + 1))) (F 0 0 * F 0 0):=by
   refine Aps (hcol i hi) ?_
   rw [H.sym 0 (j + 1) AGl AGl];exact hcol j hj
  have h3:0<=F 0 0 * (65536 - F 0 0):=Int.mul_nonneg AGl AGl;have h4:0<=F 0 0 * (last - 1):=Int.mul_nonneg AGl (by have:=H.l1;omega);unfold Abs at *;grind
theorem A43 (h:Auv M):Stg M.length (ent M) 1 262144:=by
 refine ⟨λi j hi hj=>(h.2.2 i j hi hj).1,λi j hi hj=>?_,AGl,AGl⟩;have:=h.2.2 i j hi hj;unfold Abs;omega
theorem Ajg {m:Nat} (h:2<=m) (hs: ¬ Aka m F):Akb m F last=false:=by
 obtain ⟨n,rfl⟩:∃ n,m=n + 2:=⟨m - 2,AGl⟩;unfold Akb;grind
theorem Amz {m:Nat} (h:2<=m) (hs: ¬ Ap3 F last):Akb m F last=false:=by
 obtain ⟨n,rfl⟩:∃ n,m=n + 2:=⟨m - 2,AGl⟩;unfold Akb;grind
theorem A44 {m:Nat} (h:2<=m) (hs:Aka m F) (hl:Ap3 F last):Akb m F last=Akb (m - 1) (Ali F last) (F 0 0):=by
 obtain ⟨n,rfl⟩:∃ n,m=n + 2:=⟨m - 2,AGl⟩;rw [Akb,decide_eq_true hs,decide_eq_true hl];rfl
theorem Atk {m:Nat} (H:Stg m F last K) (hK0:0<=K) (hK:K<=393216) (hi:i < m) (hj:j < m):Abs (F i j) 34359738368:=by
 have h1:=H.bd i j hi hj;have h2:=(Aqe (a:=last) (b:=K) (A:=65535) (B:=393216) (by have:=H.l1;omega) H.l2 hK0 hK).2;unfold Abs at *;omega
end Go.QF
namespace Go.Proofs.YtkakafabeobahaaGreatDoor
open Go Go.QF
set_option maxRecDepth 100000
theorem Afa {α:Type} {c:Nat} {g:Nat->α} {q:Nat} (hq:q < c):((List.range c).map g)[q]? =some (g q):=by simp [hq]
section
variable {P:Program} {B:AGz->Prop} {st:Bool} {ops:Array Oper} {rest:List Oper} {e:Env} {h:AGz} {K:Env->AGz->Prop}
variable {d:Nat} {ty:TypeId} {pos:String} {af:Array Edge}
end
end Go.Proofs.YtkakafabeobahaaGreatDoor
namespace Go.Proofs.YtkakafabeobahaaGreatDoor
open Go Go.QF
set_option maxRecDepth 100000
theorem A1y (HM:Mat h v M):ATz Tryz.prog 82 #[v] h λx h'=>h'=h/\x= .bool (Afu M):=by
 refine AUc (l:=[_]) mx Tryz.func82 rfl rfl rfl rfl rfl AG2 (AGq<|AT2<|AGm<|Ary ATb rfl HM (AGx<|AGs<|AGq<|AGm<|AXw rfl rfl (λAb=>?_) (λAb=>?_)))
 ·refine AGm (AUn 14 true AG2 rfl rfl (AUn 14 true AG2 rfl rfl (ATf rfl (AGu<|ATx rfl (AGq<|AGx<|AG1<|ATd<|⟨_,AS5,?_⟩)))))
  first
   | exact ⟨rfl,congrArg Value.bool (AW4 λhh=>by have:=hh.1;omega)⟩
   | exact ⟨rfl,congrArg Value.bool (AW4 λhh=>by have:=hh.2.1 M[i]<|List.getElem_mem _;omega)⟩
   | exact ⟨rfl,congrArg Value.bool (AW4 λhh=>by have:=hh.2.2 a b AGl AGl;omega)⟩
   | exact ⟨rfl,congrArg Value.bool<|Aaj ⟨⟨AGl,AGl⟩,hrows,λx y hx hy=>hall x y AGl hy⟩⟩
 ·refine AGm<|AUr 14 false AG2 rfl rfl (AGm<|AUr 14 false AG2 rfl rfl (Akt rfl rfl (λAc=>?_) (λAc=>?_)))
  ·refine AS6 rfl (AGu<|ATx rfl (AGq<|AGx<|AG1<|ATd<|⟨_,AS5,?_⟩))
   first
    | exact ⟨rfl,congrArg Value.bool (AW4 λhh=>by have:=hh.1;omega)⟩
    | exact ⟨rfl,congrArg Value.bool (AW4 λhh=>by have:=hh.2.1 M[i]<|List.getElem_mem _;omega)⟩
    | exact ⟨rfl,congrArg Value.bool (AW4 λhh=>by have:=hh.2.2 a b AGl AGl;omega)⟩
    | exact ⟨rfl,congrArg Value.bool<|Aaj ⟨⟨AGl,AGl⟩,hrows,λx y hx hy=>hall x y AGl hy⟩⟩
  ·refine AS6 rfl (AGu<|AT0 rfl (AG0<|q_t<|AGs<|AGq<|AGm<|Ary ATb rfl HM (AGm<|AGu<|AGt<|AYg 535822372 (λi:Nat=>[(20,.int .i64 (i:Int))]) (λk i h'=>h'=h/\k=M.length - i/\i<=M.length/\ ∀ j (hj:j < M.length),j < i->M[j].length=M.length) AG2 M.length 0 ?_ ⟨rfl,trivial⟩ ?_)))
   ·exact ⟨rfl,rfl,Nat.zero_le _,λj _ hj=>by omega⟩
   rintro k i s1 h ⟨rfl,rfl,hi,hrow⟩;refine AGq<|AXw rfl rfl (λAd=>?_) (λAd=>?_)
   ·refine AGu<|AGs<|ATx rfl (AG0<|q_t<|AGs<|AGt<|AGq<|Aos ATb rfl HM rfl (List.getElem?_eq_getElem AGl) λaR rR haR hrR=>?_);refine AT6 ATq rfl haR (AT2<|AGm<|A57 ATa rfl hrR (AGm<|Ayz rfl rfl (λAe=>?_) (λAe=>?_)))
    ·refine AGu (ATx rfl (AGq<|AGx<|AG1<|AUg<|ATd<|ATd<|AUg<|ATd<|⟨_,AS5,?_⟩))
     first
      | exact ⟨rfl,congrArg Value.bool (AW4 λhh=>by have:=hh.1;omega)⟩
      | exact ⟨rfl,congrArg Value.bool (AW4 λhh=>by have:=hh.2.1 M[i]<|List.getElem_mem _;omega)⟩
      | exact ⟨rfl,congrArg Value.bool (AW4 λhh=>by have:=hh.2.2 a b AGl AGl;omega)⟩
      | exact ⟨rfl,congrArg Value.bool<|Aaj ⟨⟨AGl,AGl⟩,hrows,λx y hx hy=>hall x y AGl hy⟩⟩
    ·refine AGu<|AT0 rfl (AG0<|q_b<|q_t<|AS8<|Ady rfl AGl (AGm<|AGu ?_));exact ⟨M.length - (i + 1),i + 1,AGl,⟨rfl,rfl,AGl,λj hj Af=>by rcases Nat.lt_succ_iff_lt_or_eq.1 Af with q | rfl;exact hrow j hj q;omega⟩,rfl,trivial⟩
   ·refine AGu<|AGs<|AT0 rfl (ATh<|ATi<|ATi<|AUf<|q_t<|AGs<|AGs ?_);have hrows:∀ z∈M,z.length=M.length:=λz hz=>by obtain ⟨j,hj,rfl⟩:=List.getElem_of_mem hz;exact hrow j hj AGl
    have Aa:Mat h v (tab M.length M.length<|ent M):=(Ar0 hrows) ▸ HM;refine AS8<|AGm<|Ary ATb rfl Aa ?_;rw [ATt];refine AGm<|AGu<|AGt<|AYg 4611686016279905220 (λa:Nat=>[(31,.int .i64 (a:Int))]) (λk a h'=>h'=h/\k=M.length - a/\a<=M.length/\ ∀ x y,x < a->y < M.length->ent M x y=ent M y x/\ -262144 < ent M x y/\ent M x y < 262144) AG2 M.length 0 ?_ ⟨rfl,trivial⟩ ?_
    ·exact ⟨rfl,rfl,Nat.zero_le _,λx y hx=>by omega⟩
    rintro k a s2 h ⟨rfl,rfl,ha,hall⟩;refine AGq<|AXw rfl rfl (λAg=>?_) (λAg=>?_)
    ·refine AGu<|AGs<|ATx rfl (AG0<|q_t<|AGs<|AGt<|AGq<|AGm<|Aos ATb rfl Aa rfl (Aam AGl) λaS rS haS hrS=>AT6 ATq rfl haS (ATs<|AT2<|AGm<|A57 ATa rfl hrS ?_));rw [List.length_map,List.length_range];refine AGm<|AGu<|AGt<|AYg 2305842734335787780 (λb:Nat=>[(38,.int .i64 (b:Int))]) (λk b h'=>h'=h/\k=M.length - b/\b<=M.length/\ ∀ y,y < b->ent M a y=ent M y a/\ -262144 < ent M a y/\ent M a y < 262144) AG2 M.length 0 ?_ ⟨rfl,trivial⟩ ?_
     ·exact ⟨rfl,rfl,Nat.zero_le _,λy hy=>by omega⟩
     rintro k b s3 h ⟨rfl,rfl,hb,hrw⟩;refine AGq<|AXw rfl rfl (λAh=>?_) (λAh=>?_)
     ·refine AGu<|AGs<|ATx rfl (AG0<|q_t<|AGs<|AGt<|AGq<|AGm<|Amn ATa rfl hrS rfl (Afa AGl) λAq Ai=>AT6 ATg rfl Ai (ATs<|AT2<|AGm<|AGm<|AGm<|Aos ATb rfl Aa rfl (Aam AGl) λaT rT haT hrT=>?_));refine AT6 ATq rfl haT (AGm<|Amn ATa rfl hrT rfl (Afa AGl) λAr Aj=>AT6 ATg rfl Aj (Ayz rfl rfl (λAk=>?_) (λAk=>?_)))
      ·refine AGm (AUn 52 true AG2 rfl rfl (AUn 52 true AG2 rfl rfl (ATf rfl (AGm<|AUn 56 true AG2 rfl rfl (AUn 56 true AG2 rfl rfl (ATf rfl (AGu<|ATx rfl (AGq<|AGx<|AG1<|AUg<|ATd<|ATd<|AUg<|AUg<|ATd<|ATd<|AUg<|ATd<|⟨_,AS5,?_⟩))))))))
       first
        | exact ⟨rfl,congrArg Value.bool (AW4 λhh=>by have:=hh.1;omega)⟩
        | exact ⟨rfl,congrArg Value.bool (AW4 λhh=>by have:=hh.2.1 M[i]<|List.getElem_mem _;omega)⟩
        | exact ⟨rfl,congrArg Value.bool (AW4 λhh=>by have:=hh.2.2 a b AGl AGl;omega)⟩
        | exact ⟨rfl,congrArg Value.bool<|Aaj ⟨⟨AGl,AGl⟩,hrows,λx y hx hy=>hall x y AGl hy⟩⟩
      ·refine AGm<|AUr 52 false AG2 rfl rfl (AGm<|AUr 52 false AG2 rfl rfl (Aml rfl rfl (λAm=>?_) (λAm=>?_)))
       ·refine AS6 rfl (AGm<|AUn 56 true AG2 rfl rfl (AUn 56 true AG2 rfl rfl (ATf rfl (AGu<|ATx rfl (AGq<|AGx<|AG1<|AUg<|ATd<|ATd<|AUg<|AUg<|ATd<|ATd<|AUg<|ATd<|⟨_,AS5,?_⟩)))))
        first
         | exact ⟨rfl,congrArg Value.bool (AW4 λhh=>by have:=hh.1;omega)⟩
         | exact ⟨rfl,congrArg Value.bool (AW4 λhh=>by have:=hh.2.1 M[i]<|List.getElem_mem _;omega)⟩
         | exact ⟨rfl,congrArg Value.bool (AW4 λhh=>by have:=hh.2.2 a b AGl AGl;omega)⟩
         | exact ⟨rfl,congrArg Value.bool<|Aaj ⟨⟨AGl,AGl⟩,hrows,λx y hx hy=>hall x y AGl hy⟩⟩
       ·refine AS6 rfl (AGm<|AUr 56 false AG2 rfl rfl (AGm<|AUr 56 false AG2 rfl rfl (Aor rfl rfl (λAo=>?_) (λAo=>?_))))
        ·refine AS6 rfl (AGu<|ATx rfl (AGq<|AGx<|AG1<|AUg<|ATd<|ATd<|AUg<|AUg<|ATd<|ATd<|AUg<|ATd<|⟨_,AS5,?_⟩))
         first
          | exact ⟨rfl,congrArg Value.bool (AW4 λhh=>by have:=hh.1;omega)⟩
          | exact ⟨rfl,congrArg Value.bool (AW4 λhh=>by have:=hh.2.1 M[i]<|List.getElem_mem _;omega)⟩
          | exact ⟨rfl,congrArg Value.bool (AW4 λhh=>by have:=hh.2.2 a b AGl AGl;omega)⟩
          | exact ⟨rfl,congrArg Value.bool<|Aaj ⟨⟨AGl,AGl⟩,hrows,λx y hx hy=>hall x y AGl hy⟩⟩
        ·refine AS6 rfl (AGu<|AT0 rfl (AG0<|q_b<|q_t<|AS8<|Ady rfl AGl (AGm<|AGu ?_)));exact ⟨M.length - (b + 1),b + 1,AGl,⟨rfl,rfl,AGl,λy hy=>by rcases Nat.lt_succ_iff_lt_or_eq.1 hy with q | rfl;exact hrw y q;exact ⟨AGl,AGl,AGl⟩⟩,rfl,trivial⟩
     ·refine AGu<|AGs<|AT0 rfl (ATh<|ATi<|ATi<|AUf<|q_b<|q_t<|AS8<|Ady rfl AGl (AGm<|AGu ?_));exact ⟨M.length - (a + 1),a + 1,AGl,⟨rfl,rfl,AGl,λx y hx hy=>by rcases Nat.lt_succ_iff_lt_or_eq.1 hx with q | rfl;exact hall x y q hy;exact hrw y AGl⟩,rfl,trivial⟩
    ·refine AGu (AGs<|AT0 rfl (ATh<|ATi<|ATi<|AUf<|q_t<|AGq<|AGx<|AG1<|⟨_,AS5,?_⟩))
     first
      | exact ⟨rfl,congrArg Value.bool (AW4 λhh=>by have:=hh.1;omega)⟩
      | exact ⟨rfl,congrArg Value.bool (AW4 λhh=>by have:=hh.2.1 M[i]<|List.getElem_mem _;omega)⟩
      | exact ⟨rfl,congrArg Value.bool (AW4 λhh=>by have:=hh.2.2 a b AGl AGl;omega)⟩
      | exact ⟨rfl,congrArg Value.bool<|Aaj ⟨⟨AGl,AGl⟩,hrows,λx y hx hy=>hall x y AGl hy⟩⟩
theorem A8p {m:Nat}:(tab m m F).drop 1=tab (m - 1) m λi j=>F (i + 1) j:=by
 refine List.ext_getElem (by simp [tab]) λi h1 h2=>?_;simp [tab,Nat.add_comm]
theorem Aux {m:Nat} (HM:Mat h v (tab m m F)) (hcap:Ahp v) (hm:1<=m) (Au:m<=8) (hfit:∀ i,i < m->Abs (F i 0) 34359738368):ATz Tryz.prog 83 #[v] h λx h'=>h'=h/\x= .bool (decide (Aka m F)):=by
 refine AUc (l:=[_]) mx Tryz.func83 rfl rfl rfl rfl rfl AG2 (AGq<|AT2<|AGm<|Aos (n:=0) ATb rfl HM rfl (Aam AGl) λAv Aw Ad Ae=>AT6 ATq rfl Ad (Amn (n:=0) ATa rfl Ae rfl (Afa AGl) λAx Af=>AT6 ATg rfl Af (AGx<|AGs<|AGq<|AGm<|Aml rfl rfl (λAg=>?_) (λAg=>?_))))
 ·refine AGm (AUn 13 true AG2 rfl rfl (AUn 13 true AG2 rfl rfl (ATf rfl (AGu<|ATx rfl (AGq<|AGx<|AG1<|ATd<|⟨_,AS5,?_⟩)))))
  first
   | exact ⟨rfl,congrArg Value.bool (decide_eq_false (λhh=>by have:=hh.1;omega)).symm⟩
   | exact ⟨rfl,congrArg Value.bool (decide_eq_false (λhh=>by have:=hh.2 (i + 1) AGl AGl;omega)).symm⟩
   | exact ⟨rfl,congrArg Value.bool (decide_eq_true ⟨⟨AGl,AGl⟩,λj h1 h2=>hall j h1 AGl⟩).symm⟩
 ·refine AGm<|AUr 13 false AG2 rfl rfl (AGm<|AUr 13 false AG2 rfl rfl (Aor rfl rfl (λAh=>?_) (λAh=>?_)))
  ·refine AS6 rfl (AGu<|ATx rfl (AGq<|AGx<|AG1<|ATd<|⟨_,AS5,?_⟩))
   first
    | exact ⟨rfl,congrArg Value.bool (decide_eq_false (λhh=>by have:=hh.1;omega)).symm⟩
    | exact ⟨rfl,congrArg Value.bool (decide_eq_false (λhh=>by have:=hh.2 (i + 1) AGl AGl;omega)).symm⟩
    | exact ⟨rfl,congrArg Value.bool (decide_eq_true ⟨⟨AGl,AGl⟩,λj h1 h2=>hall j h1 AGl⟩).symm⟩
  ·refine AS6 rfl (AGu<|AT0 rfl (AG0<|q_t<|AGs<|AGq<|AGm<|A4o (k:=1) ATb rfl HM hcap rfl (by rw [ATt];omega) λv1 Ai Ay=>?_));have HD:Mat h v1 (tab (m - 1) m λi j=>F (i + 1) j):=A8p (m:=m) ▸ Ai;refine Ary ATb rfl HD ?_;rw [ATt];refine AGm<|AGu<|AGt<|AYg 549754765348 (λi:Nat=>[(20,.int .i64 (i:Int))]) (λk i h'=>h'=h/\k=m - 1 - i/\i<=m - 1/\ ∀ j,1<=j->j < i + 1->2 * F j 0<=F 0 0/\ -2 * F j 0<=F 0 0) AG2 (m - 1) 0 ?_ ⟨rfl,trivial⟩ ?_
   ·exact ⟨rfl,rfl,Nat.zero_le _,λj h1 h2=>by omega⟩
   rintro k i s1 h ⟨rfl,rfl,hi,hall⟩;refine AGq<|AXw rfl rfl (λAj=>?_) (λAj=>?_)
   ·refine AGu<|AGs<|ATx rfl (AG0<|q_t<|AGs<|AGt<|AGq<|Aos ATb rfl HD rfl (Aam AGl) λAz A3 Ak Ac=>AT6 ATq rfl Ak (AGx<|AGs ?_));have Am:=hfit (i + 1) AGl;unfold Abs at Am;refine AS8<|AGm<|Amn (n:=0) ATa rfl Ac rfl (Afa AGl) λA4 Ao=>AT6 ATg rfl Ao (Ah4 rfl rfl AGl AGl (AGm<|Akt rfl rfl (λAp=>?_) (λAp=>?_)))
    ·refine AGm (AUn 30 true AG2 rfl rfl (AUn 30 true AG2 rfl rfl (AUn 30 true AG2 rfl rfl (AUn 30 true AG2 rfl rfl (AUn 30 true AG2 rfl rfl (AUn 30 true AG2 rfl rfl (ATf rfl (AGu<|ATx rfl (AGq<|AGx<|AG1<|AUg<|ATd<|ATd<|AUg<|ATd<|⟨_,AS5,?_⟩)))))))))
     first
      | exact ⟨rfl,congrArg Value.bool (decide_eq_false (λhh=>by have:=hh.1;omega)).symm⟩
      | exact ⟨rfl,congrArg Value.bool (decide_eq_false (λhh=>by have:=hh.2 (i + 1) AGl AGl;omega)).symm⟩
      | exact ⟨rfl,congrArg Value.bool (decide_eq_true ⟨⟨AGl,AGl⟩,λj h1 h2=>hall j h1 AGl⟩).symm⟩
    ·refine AGm<|AUr 30 false AG2 rfl rfl (AGm<|AUr 30 false AG2 rfl rfl (Amn (n:=0) ATa rfl Ac rfl (Afa AGl) λA5 Aq=>AUr 30 false AG2 rfl rfl (AT6 ATg rfl Aq (AUr 30 false AG2 rfl rfl (Ah4 rfl rfl AGl AGl (AUr 30 false AG2 rfl rfl (AGm<|AUr 30 false AG2 rfl rfl (Akt rfl rfl (λAr=>?_) (λAr=>?_)))))))))
     ·refine AS6 rfl (AGu<|ATx rfl (AGq<|AGx<|AG1<|AUg<|ATd<|ATd<|AUg<|ATd<|⟨_,AS5,?_⟩))
      first
       | exact ⟨rfl,congrArg Value.bool (decide_eq_false (λhh=>by have:=hh.1;omega)).symm⟩
       | exact ⟨rfl,congrArg Value.bool (decide_eq_false (λhh=>by have:=hh.2 (i + 1) AGl AGl;omega)).symm⟩
       | exact ⟨rfl,congrArg Value.bool (decide_eq_true ⟨⟨AGl,AGl⟩,λj h1 h2=>hall j h1 AGl⟩).symm⟩
     ·refine AS6 rfl (AGu<|AT0 rfl (AG0<|q_b<|q_t<|AS8<|Ady rfl AGl (AGm<|AGu ?_)));exact ⟨m - 1 - (i + 1),i + 1,AGl,⟨rfl,rfl,AGl,λj h1 h2=>by rcases Nat.lt_succ_iff_lt_or_eq.1 h2 with q | rfl;exact hall j h1 q;exact ⟨AGl,AGl⟩⟩,rfl,trivial⟩
   ·refine AGu (AGs<|AT0 rfl (ATh<|ATi<|ATi<|AUf<|q_t<|AGq<|AGx<|AG1<|⟨_,AS5,?_⟩))
    first
     | exact ⟨rfl,congrArg Value.bool (decide_eq_false (λhh=>by have:=hh.1;omega)).symm⟩
     | exact ⟨rfl,congrArg Value.bool (decide_eq_false (λhh=>by have:=hh.2 (i + 1) AGl AGl;omega)).symm⟩
     | exact ⟨rfl,congrArg Value.bool (decide_eq_true ⟨⟨AGl,AGl⟩,λj h1 h2=>hall j h1 AGl⟩).symm⟩
theorem Axy (HM:Mat h v M) (hcap:Ahp v):ATz Tryz.prog 41 #[v] h λx h'=>Ext h h'/\x= .bool (isRed M):=by
 refine AUc (l:=[_]) mx Tryz.func41 rfl rfl rfl rfl rfl AG2 (AGq<|AGx<|AGs<|AGq<|AGm<|ATo trivial rfl (A1y HM) λx1 h hk=>?_);obtain ⟨rfl,rfl⟩:=hk;refine ⟨trivial,?_⟩;cases Au:Afu M
 ·refine AV5 rfl (AGu<|ATx rfl (AGq<|AGx<|AG1<|ATd<|⟨_,AS5,?_⟩))
  first
   | exact ⟨(Ext.refl _),congrArg Value.bool (show false=isRed M by unfold isRed;rw [show Afu M=false by assumption];rfl)⟩
   | exact ⟨(Ext.refl _),congrArg Value.bool (show false=isRed M by unfold isRed;rw [hred,Ajg AGl<|of_decide_eq_false (by assumption),Bool.and_false])⟩
   | exact ⟨(Ext.refl _),congrArg Value.bool (show false=isRed M by unfold isRed;rw [hred,Amz AGl (by unfold Ap3;omega),Bool.and_false])⟩
   | (obtain rfl:m=1:=by omega
      first
      | exact ⟨(Ext.refl _),congrArg Value.bool (show true=isRed M by unfold isRed;rw [hred,<- Aaj hsm,Akb,decide_eq_true ⟨AGl,AGl⟩];rfl)⟩
      | exact ⟨(Ext.refl _),congrArg Value.bool (show false=isRed M by unfold isRed;rw [hred,Akb,decide_eq_false AGl,Bool.and_false])⟩)
 ·refine AV5 rfl (AGu<|AT0 rfl (AG0<|q_t<|AGq<|AGm<|AT2<|AGx<|AGs<|AGt ?_));have hsm:=Auw Au;have Av:=A43 hsm;have Aw:Mat h v (tab M.length M.length<|ent M):=(Ar0 hsm.2.1) ▸ HM;refine AYg 20282409603651670423947251255292 (λy:Nat × Value × Int × (AS9)=>[(3,y.2.1),(4,.int .i64 y.2.2.1)]) (λk y h'=>y.1=k/\Ext h h'/\1<=y.1/\y.1<=M.length/\Mat h' y.2.1 (tab y.1 y.1 y.2.2.2)/\Ahp y.2.1/\Stg y.1 y.2.2.2 y.2.2.1 (262144 + 16384 * (M.length - y.1))/\Akb M.length (ent M) 1=Akb y.1 y.2.2.2 y.2.2.1) AG2 M.length (M.length,v,1,ent M) ?_ ⟨rfl,rfl,trivial⟩ ?_
  ·exact ⟨rfl,Ext.refl _,hsm.1.1,Nat.le_refl _,Aw,hcap,by have e0:(262144 + 16384 * ((M.length:Int) - (M.length:Int)))=262144:=AGl;rw [e0];exact Av,rfl⟩
  rintro k ⟨m,vs,last,F⟩ s1 hq ⟨rfl,XQ,Ay,hmn,HS,Aj,hstg,hred⟩;dsimp only at Ay hmn HS Aj hstg hred ⊢;have h8:=hsm.1.2;have B7:=hstg.l1;have B8:=hstg.l2;have szq:=XQ.1;refine AGs<|AGq<|AGm<|Ary ATb rfl HS ?_;rw [ATt];refine Akt rfl rfl (λAz=>?_) (λAz=>?_)
  ·refine AGu<|ATx rfl (AG0<|q_t<|AGt<|AGq<|AGm<|Aos (n:=0) ATb rfl HS rfl (Aam AGl) λB9 Ca A3 A4=>AT6 ATq rfl A3 (Amn (n:=0) ATa rfl A4 rfl (Afa AGl) λCb A5=>AT6 ATg rfl A5 (AGx<|AGs<|AGq<|AGm<|ATo trivial rfl (Aux HS Aj AGl AGl λi hi=>Atk hstg AGl AGl hi AGl) λx4 hq hk=>?_)));obtain ⟨rfl,rfl⟩:=hk;refine ⟨trivial,?_⟩;cases Ce:decide (Aka m F)
   ·refine AV5 rfl (AGu<|ATx rfl (AGq<|AGx<|AG1<|ATd<|AUg<|ATd<|AUg<|ATd<|⟨_,AS5,?_⟩))
    first
     | exact ⟨XQ,congrArg Value.bool (show false=isRed M by unfold isRed;rw [show Afu M=false by assumption];rfl)⟩
     | exact ⟨XQ,congrArg Value.bool (show false=isRed M by unfold isRed;rw [hred,Ajg AGl<|of_decide_eq_false (by assumption),Bool.and_false])⟩
     | exact ⟨XQ,congrArg Value.bool (show false=isRed M by unfold isRed;rw [hred,Amz AGl (by unfold Ap3;omega),Bool.and_false])⟩
     | (obtain rfl:m=1:=by omega
        first
        | exact ⟨XQ,congrArg Value.bool (show true=isRed M by unfold isRed;rw [hred,<- Aaj hsm,Akb,decide_eq_true ⟨AGl,AGl⟩];rfl)⟩
        | exact ⟨XQ,congrArg Value.bool (show false=isRed M by unfold isRed;rw [hred,Akb,decide_eq_false AGl,Bool.and_false])⟩)
   ·refine AV5 rfl (AGu<|AT0 rfl (AG0<|q_t<|AGq<|AGm<|Ary ATb rfl HS ?_));rw [ATt];have hsh:Aka m F:=of_decide_eq_true (by assumption);refine Ags rfl rfl AGl AGl ?_;rw [show ((m:Nat):Int) - 1=((m - 1:Nat):Int) by omega];refine BF9 (ei:=tI) ATb Aet (λ_=>trivial) rfl rfl AGn AGl λb2 v2 h2 Ak E2 Cg hl2b=>?_;have Ch:=E2.1;have Z6:=(Ext.refl hq).trans E2;have X7:=XQ.trans E2;have HS_8:=HS.ext E2;refine AGx<|AGs<|AGq<|AGm<|A06 ATb rfl Ak.1 (AGm<|AGu<|AGt<|AYg 1208925819614624879739776 (λi:Nat=>[(32,.int .i64 (i:Int))]) (λk i h'=>k=m - 1 - i/\i<=m - 1/\Ext hq h'/\ ∃ gs,Aju h' tR tI (Array.size hq) b2 gs v2 (m - 1)<|(List.range i).map (λi=>(List.range<|m - 1).map λj=>Ali F last i j)) AG2 (m - 1) 0 ?_ ⟨rfl,trivial⟩ ?_)
    ·exact ⟨rfl,Nat.zero_le _,E2,[],Ak⟩
    rintro k i s2 h3 ⟨rfl,hi,E3,gs,HP⟩;have X9:=XQ.trans E3;have Ck:=E3.1;have HS_11:=HS.ext E3;refine AGq<|AXw rfl rfl (λA7=>?_) (λA7=>?_)
    ·refine AGu<|AGs<|ATx rfl (AG0<|q_t<|AGs<|AGt<|AGq<|AGm<|AT2<|AGm<|AGm<|Ady rfl AGl (BDq ATb rfl HS E3 rfl (Aam AGl) λaR rR haR hrR=>AT6 ATq rfl haR (AGx ?_)));refine AGq<|AGm<|AGm<|AGm<|A06 ATb rfl HP.1 (BGa ATa Abm (λ_=>trivial) rfl rfl AGn AGl λg4 v4 h4 A8 E4 Cn Co=>?_);have Cp:=E4.1;have A9:=E3.trans E4;have Ba:=X9.trans E4;have HS_15:=HS_11.ext E4;have HP_16:=HP.ext E4;refine BAr ATb rfl HP_16 rfl AGl ?_;have hglt:=HP.1.lt;have hblo:=HP.2 b2<|List.mem_cons_self ..;refine BAs ATq rfl rfl HP_16 AT7 AGl A8 (λhc=>by have:=hglt _ hc;omega) AGl λh4b HPb U4=>?_;have Cq:=U4.1;have Cr:=Ba.thenUpd U4 (λk hk=>by have Ah:k=b2:=hk;omega);have Ao:=A9.thenUpd U4 (λk hk=>by have Ah:k=b2:=hk;omega);have HS_20:=HS.ext Ao;refine Aal<|AGm<|A06 ATb rfl HPb.1 (AGm<|AGu<|AGt<|AYg 604462909525839610642944 (λj:Nat=>[(48,.int .i64 (j:Int))]) (λk j h'=>k=m - 1 - j/\j<=m - 1/\Ext hq h'/\Aju h' tR tI (Array.size hq) b2 (gs ++ [g4]) v2 (m - 1) ((List.range i).map (λi=>(List.range<|m - 1).map λj=>Ali F last i j) ++ [As4 (m - 1) (Ali F last i) (λ_=>0) j])) AG2 (m - 1) 0 ?_ ⟨rfl,trivial⟩ ?_)
     ·exact ⟨rfl,Nat.zero_le _,Ao,by rw [A4j,A4k];exact HPb⟩
     rintro k j s3 h5 ⟨rfl,hj,E5,HQ⟩;have Bb:=XQ.trans E5;have Cv:=E5.1;have HS_23:=HS.ext E5;refine AGq<|AXw rfl rfl (λBc=>?_) (λBc=>?_)
     ·refine AGu<|AGs<|ATx rfl (AG0<|q_t<|AGs<|AGt<|AGq<|AGm<|AGx ?_);have hd:=hsh.1;have hfit:=λi j hi hj=>Atk hstg AGl AGl (i:=i) (j:=j) hi hj;have q1:=Aps (a:=65535) (b:=34359738368) (x:=F 0 0) (y:=F (i + 1)<|j + 1) ⟨AGl,AGl⟩<|hfit _ _ AGl AGl;have q2:=hsh.2 (i + 1) AGl AGl;have q3:=hsh.2 (j + 1) AGl AGl;rw [<- hstg.sym 0 (j + 1) AGl AGl] at q3;have q4:=Aps (a:=32768) (b:=32768) (x:=F (i + 1) 0) (y:=F 0<|j + 1) ⟨AGl,AGl⟩ ⟨AGl,AGl⟩;unfold Abs at q1 q4;refine Aks AG2<|AGm<|AGm<|BGb ATb rfl HQ rfl (Ay3 AT7) λaQ rQ gQ haQ hgQ hrQ=>?_;refine AT6 ATq rfl haQ (AGm<|AGm<|AGm<|AGm<|Ady rfl AGl (Amn ATa rfl (hrR.ext E5) rfl (Afa AGl) λCw Bi=>AT6 ATg rfl Bi (Ah4 rfl rfl AGl AGl (AGm<|Amn (n:=0) ATa rfl (hrR.ext E5) rfl (Afa AGl) λCx Bj=>AT6 ATg rfl Bj (AGm<|Aos (n:=0) ATb rfl HS_23 rfl (Aam AGl) λaZ rZ haZ hrZ=>AT6 ATq rfl haZ (AGm<|Ady rfl AGl (Amn ATa rfl hrZ rfl (Afa AGl) λCy Bl=>AT6 ATg rfl Bl (Ah4 rfl rfl AGl AGl (Ags rfl rfl AGl AGl (AGm<|Ats rfl rfl AGl ?_))))))))));have hnf:=Atk (Azz (m:=m - 1) (by rw [show m - 1 + 1=m by omega];exact hstg) AGl (by rw [show m - 1 + 1=m by omega];exact hsh)) AGl AGl (i:=i) (j:=j) AGl AGl;unfold Abs at hnf;rw [show IntKind.i64.wrap ((F 0 0 * F (i + 1) (j + 1) - F (i + 1) 0 * F 0 (j + 1)).tdiv last)=Ali F last i j from Go.QF.wrap_small (by have:(F 0 0 * F (i + 1) (j + 1) - F (i + 1) 0 * F 0 (j + 1)).tdiv last=Ali F last i j:=rfl;omega) (by have:(F 0 0 * F (i + 1) (j + 1) - F (i + 1) 0 * F 0 (j + 1)).tdiv last=Ali F last i j:=rfl;omega)];refine Amk ATa rfl hrQ rfl (by rw [List.length_map,Aou];omega) ?_;refine BAt (As4 (m - 1) (Ali F last i) (λ_=>0)<|j + 1) ATg rfl rfl HQ hgQ (Ay3 AT7) hrQ (by rw [Aou];omega) (A6i AGl rfl) λh6 Bm U6 C0=>?_;have C1:=U6.1;have C2:=Bb.thenUpd U6 (λk hk=>by have Ah:k=gQ:=hk;omega);have Ap:=E5.thenUpd U6 (λk hk=>by have Ah:k=gQ:=hk;omega);have HS_30:=HS.ext Ap;have Aq:=Bm;rw [A6o AT7] at Aq;refine ATu<|q_b<|q_t<|AS8<|Ady rfl AGl (AGm<|AGu ?_);exact ⟨m - 1 - (j + 1),j + 1,AGl,⟨rfl,AGl,Ap,Aq⟩,rfl,trivial⟩
     ·refine AGu<|AGs<|AT0 rfl (ATh<|ATi<|ATi<|AUf<|q_b<|q_t<|AS8<|Ady rfl AGl (AGm<|AGu ?_));exact ⟨m - 1 - (i + 1),i + 1,AGl,⟨rfl,AGl,E5,gs ++ [g4],by rw [A6h _ _ AGl] at HQ;rw [<- A05];exact HQ⟩,rfl,trivial⟩
    ·refine AGu<|AGs<|AT0 rfl (ATh<|ATi<|ATi<|AUf<|q_t<|AGs ?_);obtain rfl:i=m - 1:=by omega
     have Ar:Aju h3 tR tI (Array.size hq) b2 gs v2 (tab (m - 1) (m - 1)<|Ali F last).length (tab (m - 1) (m - 1)<|Ali F last):=by rw [ATt];exact HP
     have HN:=Ar.mat;have hcapn:=Ar.cap;have Bn:=Azz (m:=m - 1) (by rw [show m - 1 + 1=m by omega];exact hstg) AGl (by rw [show m - 1 + 1=m by omega];exact hsh);have hnx:Stg (m - 1) (Ali F last) (F 0 0) (262144 + 16384 * (M.length - ((m - 1:Nat):Int))):=by rw [show (262144 + 16384 * ((M.length:Int) - ((m - 1:Nat):Int)))=262144 + 16384 * ((M.length:Int) - (m:Int)) + 16384 by omega];exact Bn
     refine AS8<|AGm<|Aos (n:=1) ATb rfl HS_11 rfl (Aam AGl) λC3 C4 Bo Bp=>AT6 ATq rfl Bo (Amn (n:=0) ATa rfl Bp rfl (Afa AGl) λC5 Bq=>AT6 ATg rfl Bq (AGx<|AGs<|AGs ?_));have hd:=hsh.1;have hnf:=Atk hnx AGl AGl (i:=0) (j:=0) AGl AGl;have q5:=Aps (a:=65535) (b:=34359738368) (x:=last) (y:=Ali F last 0 0) ⟨AGl,AGl⟩ hnf;have q2:=hsh.2 1 AGl AGl;have q6:=Aps (a:=32768) (b:=32768) (x:=F 1 0) (y:=F 1 0) ⟨AGl,AGl⟩ ⟨AGl,AGl⟩;have q7:=Aqe (a:=3 * F 0 0) (b:=F 0 0) (A:=196605) (B:=65535) AGl AGl AGl AGl;unfold Abs at q5 q6;refine AS8<|AGm<|AGm<|Aos (n:=0) ATb rfl HN rfl (Aam AGl) λaN rN haN hrN=>AT6 ATq rfl haN (Amn (n:=0) ATa rfl hrN rfl (Afa AGl) λaO haO=>AT6 ATg rfl haO (Ah4 rfl rfl AGl AGl (AGm<|AGm<|Ah4 rfl rfl AGl AGl (Atx rfl rfl AGl AGl (Ah4 rfl rfl AGl AGl (AGm<|Ah4 rfl rfl AGl AGl (AGm<|Ah4 rfl rfl AGl AGl (AXw rfl rfl (λBu=>?_) (λBu=>?_)))))))))
     ·refine AGu (ATx rfl (AGq<|AGx<|AG1<|ATd<|AUg<|ATd<|AUg<|ATd<|⟨_,AS5,?_⟩))
      first
       | exact ⟨X9,congrArg Value.bool (show false=isRed M by unfold isRed;rw [show Afu M=false by assumption];rfl)⟩
       | exact ⟨X9,congrArg Value.bool (show false=isRed M by unfold isRed;rw [hred,Ajg AGl<|of_decide_eq_false (by assumption),Bool.and_false])⟩
       | exact ⟨X9,congrArg Value.bool (show false=isRed M by unfold isRed;rw [hred,Amz AGl (by unfold Ap3;omega),Bool.and_false])⟩
       | (obtain rfl:m=1:=by omega
          first
          | exact ⟨X9,congrArg Value.bool (show true=isRed M by unfold isRed;rw [hred,<- Aaj hsm,Akb,decide_eq_true ⟨AGl,AGl⟩];rfl)⟩
          | exact ⟨X9,congrArg Value.bool (show false=isRed M by unfold isRed;rw [hred,Akb,decide_eq_false AGl,Bool.and_false])⟩)
     ·refine AGu<|AT0 rfl (AG0<|q_t ?_);have hlov:Ap3 F last:=by unfold Ap3;omega
      have hredn:=A44 (last:=last) AGl hsh hlov;refine AS8<|AGm<|AGm<|ATs<|ATs<|ATu<|q_b<|q_t ?_;exact ⟨m - 1,(m - 1,v2,F 0 0,Ali F last),by first | omega | (dsimp only;omega),⟨rfl,X9,by first | omega | (dsimp only;omega),by first | omega | (dsimp only;omega),HN,hcapn,hnx,by rw [hred,hredn]⟩,rfl,rfl,trivial⟩
  ·refine AGu<|AT0 rfl (ATh<|ATi<|ATi<|AUf<|q_t<|AGq<|AGm<|Aos (n:=0) ATb rfl HS rfl (Aam AGl) λC7 C8 Bv Bw=>AT6 ATq rfl Bv (Amn (n:=0) ATa rfl Bw rfl (Afa AGl) λC9 Bx=>AT6 ATg rfl Bx (Akt rfl rfl (λBy=>?_) (λBy=>?_))))
   ·refine AGm<|AUr 110 true AG2 rfl rfl (AGm<|AUr 110 true AG2 rfl rfl (Aos (n:=0) ATb rfl HS rfl (Aam AGl) λDa Db Bz B1=>AUr 110 true AG2 rfl rfl (AT6 ATq rfl Bz (AUr 110 true AG2 rfl rfl (Amn (n:=0) ATa rfl B1 rfl (Afa AGl) λDc B3=>AUr 110 true AG2 rfl rfl (AT6 ATg rfl B3 (AUr 110 true AG2 rfl rfl (Aml rfl rfl (λB4=>?_) (λB4=>?_)))))))))
    ·refine ATf rfl (AGx<|AG1<|⟨_,AS5,?_⟩)
     first
      | exact ⟨XQ,congrArg Value.bool (show false=isRed M by unfold isRed;rw [show Afu M=false by assumption];rfl)⟩
      | exact ⟨XQ,congrArg Value.bool (show false=isRed M by unfold isRed;rw [hred,Ajg AGl<|of_decide_eq_false (by assumption),Bool.and_false])⟩
      | exact ⟨XQ,congrArg Value.bool (show false=isRed M by unfold isRed;rw [hred,Amz AGl (by unfold Ap3;omega),Bool.and_false])⟩
      | (obtain rfl:m=1:=by omega
         first
         | exact ⟨XQ,congrArg Value.bool (show true=isRed M by unfold isRed;rw [hred,<- Aaj hsm,Akb,decide_eq_true ⟨AGl,AGl⟩];rfl)⟩
         | exact ⟨XQ,congrArg Value.bool (show false=isRed M by unfold isRed;rw [hred,Akb,decide_eq_false AGl,Bool.and_false])⟩)
    ·refine ATf rfl (AGx<|AG1<|⟨_,AS5,?_⟩)
     first
      | exact ⟨XQ,congrArg Value.bool (show false=isRed M by unfold isRed;rw [show Afu M=false by assumption];rfl)⟩
      | exact ⟨XQ,congrArg Value.bool (show false=isRed M by unfold isRed;rw [hred,Ajg AGl<|of_decide_eq_false (by assumption),Bool.and_false])⟩
      | exact ⟨XQ,congrArg Value.bool (show false=isRed M by unfold isRed;rw [hred,Amz AGl (by unfold Ap3;omega),Bool.and_false])⟩
      | (obtain rfl:m=1:=by omega
         first
         | exact ⟨XQ,congrArg Value.bool (show true=isRed M by unfold isRed;rw [hred,<- Aaj hsm,Akb,decide_eq_true ⟨AGl,AGl⟩];rfl)⟩
         | exact ⟨XQ,congrArg Value.bool (show false=isRed M by unfold isRed;rw [hred,Akb,decide_eq_false AGl,Bool.and_false])⟩)
   ·refine AGm (AUn 110 false AG2 rfl rfl (AUn 110 false AG2 rfl rfl (AUn 110 false AG2 rfl rfl (AUn 110 false AG2 rfl rfl (AUn 110 false AG2 rfl rfl (AUn 110 false AG2 rfl rfl (AS6 rfl (AGx<|AG1<|⟨_,AS5,?_⟩))))))))
    first
     | exact ⟨XQ,congrArg Value.bool (show false=isRed M by unfold isRed;rw [show Afu M=false by assumption];rfl)⟩
     | exact ⟨XQ,congrArg Value.bool (show false=isRed M by unfold isRed;rw [hred,Ajg AGl<|of_decide_eq_false (by assumption),Bool.and_false])⟩
     | exact ⟨XQ,congrArg Value.bool (show false=isRed M by unfold isRed;rw [hred,Amz AGl (by unfold Ap3;omega),Bool.and_false])⟩
     | (obtain rfl:m=1:=by omega
        first
        | exact ⟨XQ,congrArg Value.bool (show true=isRed M by unfold isRed;rw [hred,<- Aaj hsm,Akb,decide_eq_true ⟨AGl,AGl⟩];rfl)⟩
        | exact ⟨XQ,congrArg Value.bool (show false=isRed M by unfold isRed;rw [hred,Akb,decide_eq_false AGl,Bool.and_false])⟩)
end Go.Proofs.YtkakafabeobahaaGreatDoor
namespace Go.Proofs.YtkakafabeobahaaGreatDoor
open Go Go.QF
set_option maxRecDepth 100000
open Classical in
noncomputable def A45 (p:Int):Bool:=decide (2 < p/\p<=9973/\Pr p)
theorem Axz (h:2 < p/\p<=9973/\Pr p):true=A45 p:=by simp [A45,h]
theorem Ao5 (h: ¬ (2 < p/\p<=9973/\Pr p)):false=A45 p:=by simp [A45,h]
theorem prB {b:Bool} (h:Aes p=b) (hp:p<=9973):b=true↔Pr p:=by
 subst h;constructor
 ·intro h;exact (A4d h).2
 ·intro h;exact (Aq2 AGl h).symm
theorem BB3 (p:Int) (HO:Ap0 h):ATz Tryz.prog 47 #[.int .i64 p] h λv h'=>h'=h/\v= .bool (A45 p):=by
 refine AUc (l:=[_]) mx Tryz.func47 rfl rfl rfl rfl rfl AG2 (AGq<|AT2<|AGm<|Akt rfl rfl (λAa=>?_) (λAa=>?_))
 ·refine AGm<|AUr 5 true AG2 rfl rfl (AGm<|AUr 5 true AG2 rfl rfl (Aml rfl rfl (λAb=>?_) (λAb=>?_)))
  ·refine ATf rfl (AGm<|AUr 9 true AG2 rfl rfl (AGm<|AUr 9 true AG2 rfl rfl (ATo trivial rfl (BC3 p HO) λx1 h hk=>?_)));obtain ⟨rfl,rfl⟩:=hk;refine ⟨trivial,?_⟩;cases Ad:Aes p
   ·refine ATf rfl (AGx<|AG1<|⟨_,AS5,?_⟩)
    first
    | exact ⟨rfl,congrArg Value.bool<|Ao5 (λhh=>by have:=hh.1;have:=hh.2.1;omega)⟩
    | (have hq:=(prB (by assumption:Aes p=_) AGl);first | exact ⟨rfl,congrArg Value.bool<|Axz ⟨by first | omega | (have:=(hq.1 rfl).1;omega),AGl,hq.1 rfl⟩⟩ | exact ⟨rfl,congrArg Value.bool<|Ao5 (λhh=>by have:=hq.2 hh.2.2;cases this)⟩)
   ·refine ATf rfl (AGx<|AG1<|⟨_,AS5,?_⟩)
    first
    | exact ⟨rfl,congrArg Value.bool<|Ao5 (λhh=>by have:=hh.1;have:=hh.2.1;omega)⟩
    | (have hq:=(prB (by assumption:Aes p=_) AGl);first | exact ⟨rfl,congrArg Value.bool<|Axz ⟨by first | omega | (have:=(hq.1 rfl).1;omega),AGl,hq.1 rfl⟩⟩ | exact ⟨rfl,congrArg Value.bool<|Ao5 (λhh=>by have:=hq.2 hh.2.2;cases this)⟩)
  ·refine ATf rfl (AGm<|AUn 9 false AG2 rfl rfl (AUn 9 false AG2 rfl rfl (AS6 rfl (AGx<|AG1<|⟨_,AS5,?_⟩))))
   first
   | exact ⟨rfl,congrArg Value.bool<|Ao5 (λhh=>by have:=hh.1;have:=hh.2.1;omega)⟩
   | (have hq:=(prB (by assumption:Aes p=_) AGl);first | exact ⟨rfl,congrArg Value.bool<|Axz ⟨by first | omega | (have:=(hq.1 rfl).1;omega),AGl,hq.1 rfl⟩⟩ | exact ⟨rfl,congrArg Value.bool<|Ao5 (λhh=>by have:=hq.2 hh.2.2;cases this)⟩)
 ·refine AGm (AUn 5 false AG2 rfl rfl (AUn 5 false AG2 rfl rfl (AS6 rfl (AGm<|AUn 9 false AG2 rfl rfl (AUn 9 false AG2 rfl rfl (AS6 rfl (AGx<|AG1<|⟨_,AS5,?_⟩)))))))
  first
  | exact ⟨rfl,congrArg Value.bool<|Ao5 (λhh=>by have:=hh.1;have:=hh.2.1;omega)⟩
  | (have hq:=(prB (by assumption:Aes p=_) AGl);first | exact ⟨rfl,congrArg Value.bool<|Axz ⟨by first | omega | (have:=(hq.1 rfl).1;omega),AGl,hq.1 rfl⟩⟩ | exact ⟨rfl,congrArg Value.bool<|Ao5 (λhh=>by have:=hq.2 hh.2.2;cases this)⟩)
open Classical in
noncomputable def Afv (p:Int):Bool:=decide (p<=9973/\Pr p)
theorem Small_ok (p:Int) (h:AGz):ATz Tryz.prog 97 #[.int .i64 p] h λv h'=>h'=h/\v= .bool (Afv p):=by
 refine AUc (l:=[_]) mx Tryz.func97 rfl rfl rfl rfl rfl AG2 (AGq<|AT2<|AGm<|Aml rfl rfl (λAa=>?_) (λAa=>?_))
 ·refine AGm<|AUr 5 true AG2 rfl rfl (AGm<|AUr 5 true AG2 rfl rfl (ATo trivial rfl (A6k p _) λx1 h hk=>?_));obtain ⟨rfl,rfl⟩:=hk;refine ⟨trivial,?_⟩;cases Ac:Aes p
  ·refine ATf rfl (AGx<|AG1<|⟨_,AS5,?_⟩)
   first
   | exact ⟨rfl,congrArg Value.bool (show false=Afv p by simp [Afv];intro hh;omega)⟩
   | (have hq:=(prB (by assumption:Aes p=_) AGl);first | exact ⟨rfl,congrArg Value.bool (show true=Afv p by simp [Afv];exact ⟨AGl,hq.1 rfl⟩)⟩ | exact ⟨rfl,congrArg Value.bool (show false=Afv p by simp [Afv];intro _ hh;have:=hq.2 hh;cases this)⟩)
  ·refine ATf rfl (AGx<|AG1<|⟨_,AS5,?_⟩)
   first
   | exact ⟨rfl,congrArg Value.bool (show false=Afv p by simp [Afv];intro hh;omega)⟩
   | (have hq:=(prB (by assumption:Aes p=_) AGl);first | exact ⟨rfl,congrArg Value.bool (show true=Afv p by simp [Afv];exact ⟨AGl,hq.1 rfl⟩)⟩ | exact ⟨rfl,congrArg Value.bool (show false=Afv p by simp [Afv];intro _ hh;have:=hq.2 hh;cases this)⟩)
 ·refine AGm (AUn 5 false AG2 rfl rfl (AUn 5 false AG2 rfl rfl (AS6 rfl (AGx<|AG1<|⟨_,AS5,?_⟩))))
  first
  | exact ⟨rfl,congrArg Value.bool (show false=Afv p by simp [Afv];intro hh;omega)⟩
  | (have hq:=(prB (by assumption:Aes p=_) AGl);first | exact ⟨rfl,congrArg Value.bool (show true=Afv p by simp [Afv];exact ⟨AGl,hq.1 rfl⟩)⟩ | exact ⟨rfl,congrArg Value.bool (show false=Afv p by simp [Afv];intro _ hh;have:=hq.2 hh;cases this)⟩)
end Go.Proofs.YtkakafabeobahaaGreatDoor
namespace Go.Proofs.YtkakafabeobahaaGreatDoor
open Go Go.QF
noncomputable def Ahe (fuel:Nat) (M:List (List Int)):Option Bool:=some<|isRed M
theorem Auy {r:Bool} (H:AV4 (cI .i64) h v M) (hp:Ahe fuel M=some r):ATz Tryz.prog 41 #[v] h (λx h'=>Ext h h'/\x= .bool r):=by
 cases hp;exact Axy (BEm H) H.1
noncomputable def Az0 (fuel:Nat) (n:Int):Option Bool:=some<|Aes n
theorem A46 {n:Int} {r:Bool} (HO:Ap0 h) (hp:Az0 fuel n=some r):ATz Tryz.prog 92 #[.int .i64 n] h (λx h'=>Ext h h'/\x= .bool r):=by
 cases hp;exact (BC3 n HO).mono λx h' ⟨he,hx⟩=>⟨he ▸ Ext.refl _,hx⟩
noncomputable def Auz (fuel:Nat) (n:Int):Option Bool:=some<|A45 n
theorem Az1 {n:Int} {r:Bool} (HO:Ap0 h) (hp:Auz fuel n=some r):ATz Tryz.prog 47 #[.int .i64 n] h (λx h'=>Ext h h'/\x= .bool r):=by
 cases hp;exact (BB3 n HO).mono λx h' ⟨he,hx⟩=>⟨he ▸ Ext.refl _,hx⟩
end Go.Proofs.YtkakafabeobahaaGreatDoor
namespace Go.Proofs.YtkakafabeobahaaGreatDoor
open Go Go.QF
set_option maxRecDepth 100000
set_option maxHeartbeats 4000000
noncomputable def Ag2 (fuel:Nat) (Ad:LiA) (Aa Ab Ac:Int):Option ((Int × Int × Int) ⊕ (Int × Int)):=
 if 0<=Aa then (gI Ad Aa).bind λAe=>if 0<=Aa/\Aa<=64 then (((Ao2 fuel Ab Ae).bind λ(Af,Ag,Ak)=>(Aut fuel Ag).bind λAh=>if ¬ Ah=0 then some (false,Ab,Ac) else some (true,Af,w64<|Ac + w64 (1 * 2 ^ Int.toNat Aa))):Option (Bool × Int × Int)).bind λ(Am,Ai,Aj)=>some (.inl (w64<|Aa - 1,Ai,Aj)) else none else some<|.inr (Ab,Ac)
noncomputable def Ag3 (fuel:Nat) (Aa:LiA) (Ac Ad:Int):Option ((LiA × Int × Int) ⊕ (LiA × Int × Int)):=
 (gI Aa<|w64<|(Aa.length:Int) - 1).bind λAb=>if 0<=w64 ((Aa.length:Int) - 1)/\w64 ((Aa.length:Int) - 1)<=64 then (((Ao2 fuel Ac Ab).bind λ(Ag,Ah,Am)=>(Aut fuel Ah).bind λAi=>if ¬ Ai=0 then some (false,Ac,Ad) else some (true,Ag,w64<|Ad + w64 (1 * 2 ^ Int.toNat (w64<|(Aa.length:Int) - 1)))):Option (Bool × Int × Int)).bind λ(Aj,Ae,Af)=>if Aj=true then (A3e fuel Ab Ab).bind λAk=>if Aa.length<=100000000 then some (.inl (Aa ++ [Ak],Ae,Af)) else none else some (.inr (Aa,Ae,Af)) else none
noncomputable def Ad4 (fuel:Nat) (a1 a5:Int):Option (Int × Int × Int):=
 (Az0 fuel a5).bind λAd=>if (!Ad)=true then some (0,0,20) else (Aut fuel a1).bind λAe=>if Ae=0 then some (0,0,1) else (Ao3 fuel a1).bind λAf=>(Ati fuel a5).bind λAg=>(iter (λs=>Ag3 fuel s.1 s.2.1 s.2.2) fuel ([Ag],Af,0)).bind (λ((Ac,Ah,Ai):LiA × Int × Int)=>(iter (λs=>Ag2 fuel Ac s.1 s.2.1 s.2.2) fuel (w64<|(Ac.length:Int) - 2,Ah,Ai)).bind (λ((Aj,Ak):Int × Int)=>some (Ak,Aj,0)))
theorem Ao6 {Bh:Value} {r:(Int × Int × Int)} (H3:ZZ h Bh a1) (HO:Ap0 h) (hp:Ad4 fuel a1 a5=some r):ATz Tryz.prog 96 #[Bh,(.int .i64 a5)] h (λx h'=>Ext h h'/\ ∃ (x1:Value),x= .tuple #[.int .i64 r.1,x1,.int .i64 r.2.2]/\ZZ h' x1 r.2.1):=by
 unfold Ad4 at hp;obtain ⟨Ci,rfl,Am⟩:=H3.cs;refine cwf (l:=[_,_]) Tryz.func96 rfl rfl (AGq<|AY3 (Kst.k0 h) Ci λb6 h7 E9 Cj=>ATs<|AV6 Cj [.bool false,.slice none 0 0] AYd λFp Fq Fr Bm=>AGx<|AGs<|AGq<|AGm ?_);obtain ⟨Ft,Ck,Bn⟩:=AGr hp;refine AVs Bm (A46 (HO.ext Bm.x) Ck) λBo Fu Aj=>AV5 rfl (AGu<|⟨_,rfl,λAx=>?_,λAx=>?_⟩)
 ·refine AGq<|AXa (Aiv )<|ATs<|AZf Aj p0 (ATk Bo) (ATk Bo) λBp Bq=>AGx<|AG1<|ATd ?_;obtain rfl:=AGo<|ifT Bn Ax;exact ⟨_,Auj AUm (cZ.klen<|ATk Bp) rfl (Bq.b p0),Bq.x,_,rfl,(ATk Bp).2⟩
 ·refine AG0<|q_t<|AGs<|AGq<|Aew (Aj.zx Am) (Aj.b p1) ?_;obtain ⟨Fv,Cm,Br⟩:=AGr<|AY5 Bn Ax;refine AVs Aj (Atj (Aj.zx Am).2 Cm) λBt Fw Ak=>AU0 rfl rfl (AGu<|⟨_,rfl,λAy=>?_,λAy=>?_⟩)
  ·refine AGq<|AXa (Aiv )<|ATs<|AZf Ak p0 (ATk Bt) (ATk Bt) λBu Bv=>AGx<|AG1<|ATd ?_;obtain rfl:=AGo<|AT4 Br Ay;exact ⟨_,Auj AUm (cZ.klen<|ATk Bu) rfl (Bv.b p0),Bv.x,_,rfl,(ATk Bu).2⟩
  ·refine AG0<|q_t<|AGq<|Aew (Ak.zx Am) (Ak.b p1) ?_;obtain ⟨Cn,Co,Cp⟩:=AGr<|AT5 Br Ay;refine Ahs Ak (Ark (Ak.zx Am).2 Co) λCq Fx Fy Cr=>AV6 Cr [.bool false,.slice none 0 0] AYd λAe Ct Fz Bw=>AZf Bw p0 (ATk Ct) (Bw.z p1) λF4 Cu=>Aal<|AV6 Cu [(.int .i64 0)] Aqg λAf F5 F6 Bx=>Ai5 [(.int .i64 0)] AT9 rfl rfl rfl (Bx.b p0) (Nat.le_of_ble_eq_true rfl) rfl λF7 Cv Cw=>Aal<|A6a rfl (AGx<|AGs ?_);refine AS8<|AGm ?_;obtain ⟨Cx,Cy,Cz⟩:=AGr Cp;refine Ahs (Bx.sb p0 Cw Cv rfl) (Auu Cy) λF8 F9 Ga By=>BD2 AWc AYd rfl trivial tt2 (By.z p0) rfl λC0 C1 Gb C2 C3 C4 C5=>AGx<|AGs<|AGt ?_;have Az:=(By.no C3 (AYh C4 C5) C2).sel [0,2,3,4,5] AGn;dsimp only [AZ3,Adk] at Az;refine AXv 2251799679470592 (λx:(LiA) × (Value) × LnA × (Int) × LvA × (Int)=>(x.1,x.2.2.2.1,x.2.2.2.2.2)) (([Cx],C1,[C0],Cn,Cq,0):(LiA) × (Value) × LnA × (Int) × LvA × (Int)) Cz (λx=>[(10,x.2.1)]) (λx=>(((Az.L.set 0<|aO cZ 129 x.2.2.1 x.2.1 x.1).set 3 (aZ x.2.2.2.2.1 x.2.2.2.1)).set 2 (aB 129 Ae x.2.2.2.2.1)).set 1 (aB 3 Af [(.int .i64 x.2.2.2.2.2)])) Az ⟨rfl,trivial⟩ ?_;rintro ⟨Ao,Gc,Gd,C6,C7,A3⟩ Ge Gf Gg Ap Bz C8;unfold Ag3 at Bz;refine AGs<|AGs<|AXi<|AGm<|AGm<|AGm<|AUl AWc rfl (Ap.o p0).rd (AVh rfl rfl ?_);obtain ⟨Gh,Aq,C9⟩:=AGr Bz;refine Aq8 AWc rfl (Ap.o p0) rfl Aq λGi Da=>?_;obtain ⟨B1,Db,Dc⟩:=(Ap.o p0).cells Da Aq;have Ar:=Ap.az Db;refine Agu (c:=cZ) AUm rfl (Ar.z p0) (λj u hu=>(Dc j u hu)) (AGm<|AUl AWc rfl (Ar.o p1).rd (AVh rfl rfl ?_));obtain ⟨Dd,De⟩:=ifN C9;refine Aah rfl rfl Dd ?_;obtain ⟨Df,Dg,B3⟩:=AGr De;refine As9 (l:=[(.agg (B1).toArray),(.int .i64<|w64<|1 * 2 ^ Int.toNat (w64<|(Ao.length:Int) - 1))]) (cl:=[(.pointer<|some ⟨Ae,0,none⟩),(.pointer<|some ⟨Af,0,none⟩)]) (K':=(λxr h'=> ∃ x:(Bool) × (Int) × LvA × (Int),(x.1,x.2.1,x.2.2.2)=Df/\xr=(.bool x.1)/\Kst h h' (((Ar.L.set 4<|aZ x.2.2.1 x.2.1).set 3 (aB 129 Ae x.2.2.1)).set 2 (aB 3 Af [(.int .i64 x.2.2.2)])))) trivial rfl rfl ?_ λGj Gk Dh=>?_
   ·refine cwf (l:=[_,_,_,_]) Tryz.func157 rfl rfl (AGq<|AY3 Ar B1 λGl Gm Gn Ab=>AT2<|Aew (Ab.z p5) (Ab.b p4)<|Aew (Ab.z p1) (Ab.b p0) ?_);obtain ⟨⟨Di,Gp,Gq⟩,Dj,B4⟩:=AGr Dg;dsimp only at B4;refine Agw rfl (Ase (Ab.z p5).2 (Ab.z p1).2 Dj) λGr Gt Dk Dl=>?_;obtain ⟨Gu,Gv,rfl,Do,Dp⟩:=Dl;obtain ⟨Dq,rfl,Dr⟩:=Do.cs;obtain ⟨Gw,rfl,Ds⟩:=Dp.cs;refine AGm<|AUk rfl rfl (AUk rfl rfl (AUk rfl rfl (AV6 (((Ab.e Dk).az Dr).az Ds) [.bool false,.slice none 0 0] AYd λGx Gy Gz Dt=>AV6 Dt [.bool false,.slice none 0 0] AYd λG3 Du G4 B5=>AZf B5 p1 (ATk Du) (B5.z p3) λDv B6=>AZf B6 p0 (ATk Dv) (B6.z p2) λG5 Au=>AGx<|AGs<|AGq<|Aew (Au.z p2) (Au.b p0) ?_)));obtain ⟨G6,Dw,B7⟩:=AGr B4;refine AVs Au (Atj (Au.z p2).2 Dw) λG7 G8 Ag=>AVz rfl rfl (AGu<|⟨_,rfl,λA4=>?_,λA4=>?_⟩)
    ·refine AGq<|AGx<|AG1<|ATd<|⟨_,AS5,((false,C6,C7,A3):(Bool) × (Int) × LvA × (Int)),?_,rfl,?_⟩
     ·exact AGo<|AT4 B7 A4
     ·exact Ag.sel [5,6,7,8,9,10] AGn
    ·refine AG0<|q_t<|AGq<|Aew (Ag.z p3) (Ag.b p1)<|AZf Ag p8 (Ag.z p9) (Ag.z p3) λG9 A5=>Aal<|AT6 AT9 rfl ((A5.b p7).cell (i:=0) rfl) (AGm<|ATn rfl rfl (Ai5 [(.int .i64<|w64<|A3 + (w64<|1 * 2 ^ Int.toNat (w64<|(Ao.length:Int) - 1)))] AT9 rfl rfl rfl (A5.b p7) (Nat.le_of_ble_eq_true rfl) rfl λHb Dx Dy=>Aal ?_));refine AGx<|AG1<|⟨_,AS5,((true,Di,Dq,(w64<|A3 + (w64<|1 * 2 ^ Int.toNat (w64<|(Ao.length:Int) - 1)))):(Bool) × (Int) × LvA × (Int)),?_,rfl,?_⟩
     ·exact AGo<|AT5 B7 A4
     ·exact (A5.sb p7 Dy Dx rfl).sel [5,6,7,8,3,10] AGn
   obtain ⟨⟨Hc,Dz,D0,D1⟩,D2,rfl,Ah⟩:=Dh;refine ⟨trivial,?_⟩;subst D2;refine AGu<|⟨_,rfl,λA6=>?_,λA6=>?_⟩
   ·refine AG0<|q_t<|AGt<|AGq<|AGm<|AGm<|AUl AWc rfl (Ah.o p1).rd (AVh rfl rfl (Aq8 AWc rfl (Ah.o p1) rfl Aq λHd D3=>?_));obtain ⟨He,D4,D5⟩:=(Ah.o p1).cells D3 Aq;have B8:=Ah.az D4;refine Agu (c:=cZ) AUm rfl (B8.z p0) (λj u hu=>(D5 j u hu)) (AV6 B8 [.bool false,.slice none 0 0] AYd λHf D6 Hg B9=>AZf B9 p0 (ATk D6) (B9.z p1) λHh Ac=>AGu<|AS8<|AGm<|Aew (Ac.z p1) (Ac.b p0)<|Aew (Ac.z p1) (Ac.b p0) ?_);obtain ⟨Hj,D7,D8⟩:=AGr<|ifT B3 A6;refine Ahs Ac (A1w (Ac.z p1).2 (Ac.z p1).2 D7) λHk Hl Hm A7=>?_;obtain ⟨D9,Ea⟩:=ifN D8;refine Afm AWc AYd rfl rfl trivial tt2 (λ_=>rfl) rfl (A7.z p0) (A7.o p4) AGn D9 λHn Ho Hq Hr Eb Ec Ed=>ATs<|ATu<|q_b<|q_t ?_;exact ⟨(_,_,_,_,_,_),(AGo Ea).symm,(A7.uo p4 Ec Eb Ed).sel [4,5,6,7,8] AGn,rfl,trivial⟩
   ·refine ATh<|ATi<|ATi<|AUf<|q_t<|AGs<|AGq<|AGm<|AUl AWc rfl (Ah.o p1).rd (AVh rfl rfl (AGx<|AGt ?_));have A8:=Ah.sel [1,2,3,4,5] AGn;dsimp only [AZ3,Adk] at A8;refine AXv 73768961896328728576 (λx:(Int) × (Int) × LvA × (Int)=>(x.1,x.2.1,x.2.2.2)) (((w64<|(Ao.length:Int) - 2),Dz,D0,D1):(Int) × (Int) × LvA × (Int)) (C8 _ (AGo<|AY5 B3 A6).symm) (λx=>[(12,(.int .i64 x.1))]) (λx=>((A8.L.set 3<|aZ x.2.2.1 x.2.1).set 2 (aB 129 Ae x.2.2.1)).set 1 (aB 3 Af [(.int .i64 x.2.2.2)])) A8 ⟨rfl,trivial⟩ ?_;rintro ⟨A9,Ee,Ef,Ba⟩ Hs Eg Ht Aa Bb Eh;unfold Ag2 at Bb;refine AGs<|AGq<|AGm<|Afp rfl rfl (AGu<|⟨_,rfl,λBc=>?_,λBc=>?_⟩)
    ·refine AG0<|q_t<|AGs<|AGt<|AXi<|AGm<|AGm<|AGm ?_;obtain ⟨Hu,Ca,Ei⟩:=AGr<|AT4 Bb Bc;refine Aq8 AWc rfl (Aa.o p0) rfl Ca λHv Ej=>?_;obtain ⟨Cb,Ek,El⟩:=(Aa.o p0).cells Ej Ca;have Be:=Aa.az Ek;refine Agu (c:=cZ) AUm rfl (Be.z p0) (λj u hu=>(El j u hu)) (AGm ?_);obtain ⟨Em,En⟩:=ifN Ei;refine Aah rfl rfl Em ?_;obtain ⟨Eo,Ep,Er⟩:=AGr En;refine As9 (l:=[(.agg (Cb).toArray),(.int .i64<|w64<|1 * 2 ^ Int.toNat A9)]) (cl:=[(.pointer<|some ⟨Ae,0,none⟩),(.pointer<|some ⟨Af,0,none⟩)]) (K':=(λxr h'=> ∃ x:(Bool) × (Int) × LvA × (Int),(x.1,x.2.1,x.2.2.2)=Eo/\xr=(.bool x.1)/\Kst h h' (((Be.L.set 4<|aZ x.2.2.1 x.2.1).set 3 (aB 129 Ae x.2.2.1)).set 2 (aB 3 Af [(.int .i64 x.2.2.2)])))) trivial rfl rfl ?_ λHw Hx Es=>?_
     ·refine cwf (l:=[_,_,_,_]) Tryz.func157 rfl rfl (AGq<|AY3 Be Cb λHy Hz H5 Ad=>AT2<|Aew (Ad.z p5) (Ad.b p4)<|Aew (Ad.z p1) (Ad.b p0) ?_);obtain ⟨⟨Et,Ia,Ib⟩,Eu,Cd⟩:=AGr Ep;dsimp only at Cd;refine Agw rfl (Ase (Ad.z p5).2 (Ad.z p1).2 Eu) λIc Id Ev Ew=>?_;obtain ⟨Ie,If,rfl,Ey,Ez⟩:=Ew;obtain ⟨Fa,rfl,Fb⟩:=Ey.cs;obtain ⟨Ih,rfl,Fc⟩:=Ez.cs;refine AGm<|AUk rfl rfl (AUk rfl rfl (AUk rfl rfl (AV6 (((Ad.e Ev).az Fb).az Fc) [.bool false,.slice none 0 0] AYd λIi Ij Ik Fd=>AV6 Fd [.bool false,.slice none 0 0] AYd λIl Fe Im Ce=>AZf Ce p1 (ATk Fe) (Ce.z p3) λFf Cf=>AZf Cf p0 (ATk Ff) (Cf.z p2) λIo Av=>AGx<|AGs<|AGq<|Aew (Av.z p2) (Av.b p0) ?_)));obtain ⟨Ip,Fg,Cg⟩:=AGr Cd;refine AVs Av (Atj (Av.z p2).2 Fg) λIq Ir Ai=>AVz rfl rfl (AGu<|⟨_,rfl,λBf=>?_,λBf=>?_⟩)
      ·refine AGq<|AGx<|AG1<|ATd<|⟨_,AS5,((false,Ee,Ef,Ba):(Bool) × (Int) × LvA × (Int)),?_,rfl,?_⟩
       ·exact AGo<|AT4 Cg Bf
       ·exact Ai.sel [5,6,7,8,9,10] AGn
      ·refine AG0<|q_t<|AGq<|Aew (Ai.z p3) (Ai.b p1)<|AZf Ai p8 (Ai.z p9) (Ai.z p3) λIs Bg=>Aal<|AT6 AT9 rfl ((Bg.b p7).cell (i:=0) rfl) (AGm<|ATn rfl rfl (Ai5 [(.int .i64<|w64<|Ba + (w64<|1 * 2 ^ Int.toNat A9))] AT9 rfl rfl rfl (Bg.b p7) (Nat.le_of_ble_eq_true rfl) rfl λIt Fh Fi=>Aal ?_));refine AGx<|AG1<|⟨_,AS5,((true,Et,Fa,(w64<|Ba + (w64<|1 * 2 ^ Int.toNat A9))):(Bool) × (Int) × LvA × (Int)),?_,rfl,?_⟩
       ·exact AGo<|AT5 Cg Bf
       ·exact (Bg.sb p7 Fi Fh rfl).sel [5,6,7,8,3,10] AGn
     obtain ⟨⟨Iu,Iv,Iw,Ix⟩,Fj,rfl,Fk⟩:=Es;refine ⟨trivial,?_⟩;subst Fj;refine ATu<|q_b<|q_t<|AS8<|AGm<|AVh rfl rfl (AGx ?_);exact ⟨(_,_,_,_),(AGo Er).symm,Fk.sel [1,2,3,4,5] AGn,rfl,trivial⟩
    ·refine ATh<|ATi<|ATi<|AUf<|q_t<|AGs<|AXi<|AT6 AT9 rfl ((Aa.b p1).cell (i:=0) rfl) (Aew (Aa.z p3) (Aa.b p2)<|ATs<|AZf Aa p4 (ATk Eg) (Aa.z p3) λIy Aw=>AGx<|AG1 ?_);obtain rfl:=AGo<|Eh _ (AGo<|AT5 Bb Bc).symm;exact ⟨_,Auj AUm (cZ.klen<|Aw.z p3) rfl (Aw.b p4),Aw.x,_,rfl,(Aw.z p3).2⟩
noncomputable def Aak (fuel:Nat) (a3:LiI) (a5:Int):Option Int:=
 (Ad3 fuel a3).bind λ(x6,x7)=>(Akj fuel x6).bind λ(Ae,Ag)=>(Ad4 fuel Ae a5).bind λ(Ab,Ah,Ai)=>if a5=2 then some (w64<|Ab + 3) else some<|w64<|Ab + 1
theorem Ai6 (H2:AV4 (cI .i64) h Ad a3) (HO:Ap0 h) (hp:Aak fuel a3 a5=some r):ATz Tryz.prog 50 #[Ad,(.int .i64 a5)] h (λx h'=>Ext h h'/\x= .int .i64 r):=by
 unfold Aak at hp;refine cwf (l:=[_,_]) Tryz.func50 rfl rfl (AGq<|AT2<|AGm ?_);have K0:=Kst.k0 h;obtain ⟨⟨x6,x7⟩,Aq,Ah⟩:=AGr hp;dsimp only at Ah;refine Agw rfl (Ao4 (H2.ext K0.x) Aq) λBf Bg Ar Au=>?_;obtain ⟨Bh,Bi,Bj,Bl,rfl,Av,Aw⟩:=Au;refine AGm<|AUk rfl rfl (AUk rfl rfl (ATs<|AT2<|AGm ?_));have Ai:=K0.no2 Ar Aw Av;obtain ⟨⟨Bm,Bn⟩,Ax,Aj⟩:=AGr Ah;dsimp only at Aj;refine Agw rfl (As7 (Ai.o2 p0).rd Ax) λBo Bp Ay Az=>?_;obtain ⟨Bq,rfl,A3⟩:=Az;obtain ⟨Br,rfl,A4⟩:=A3.cs;refine AGm<|AUk rfl rfl (AUk rfl rfl (AV6 ((Ai.e Ay).az A4) [.bool false,.slice none 0 0] AYd λBt A5 Bu Ak=>AZf Ak p0 (ATk A5) (Ak.z p1) λBv Aa=>AT2<|Aew (Aa.z p1) (Aa.b p0)<|AGm ?_));obtain ⟨⟨Bw,Bx,By⟩,A6,Ab⟩:=AGr Aj;dsimp only at Ab;refine Agw rfl (Ao6 (Aa.z p1).2 (HO.ext Aa.x) A6) λBz B1 A7 A8=>?_;obtain ⟨B3,rfl,A9⟩:=A8;obtain ⟨B4,rfl,Ba⟩:=A9.cs;refine AGm<|AUk rfl rfl (AUk rfl rfl (AUk rfl rfl (AV6 ((Aa.e A7).az Ba) [.bool false,.slice none 0 0] AYd λB5 Bb B6 Am=>ATs<|AZf Am p0 (ATk Bb) (Am.z p1) λB7 Ao=>AGx<|AGs<|AGq<|AGm<|AU0 rfl rfl (AGu<|⟨_,rfl,λAc=>?_,λAc=>?_⟩))))
 ·refine AGq<|AGm<|ATn rfl rfl (AGx<|AG1<|ATd ?_);obtain rfl:=AGo<|AT4 Ab Ac;exact ⟨_,AS5,Ao.x,rfl⟩
 ·refine AG0<|q_t<|AGq<|AGm<|ATn rfl rfl (AGx<|AG1 ?_);obtain rfl:=AGo<|AT5 Ab Ac;exact ⟨_,AS5,Ao.x,rfl⟩
noncomputable def AVl (fuel:Nat) (a3:LiI) (a5:Int):Option (Int × Int):=
 (Ahe fuel a3).bind λx6=>if (!x6)=true then some (0,6) else if ¬ a5=2 then (Auz fuel a5).bind λAd=>if (!Ad)=true then some (0,20) else (Aak fuel a3 a5).bind λAe=>some (Ae,0) else (Aak fuel a3 a5).bind λAf=>some (Af,0)
theorem Ai7 {r:(Int × Int)} (H2:AV4 (cI .i64) h Ah a3) (HO:Ap0 h) (hp:AVl fuel a3 a5=some r):ATz Tryz.prog 42 #[Ah,(.int .i64 a5)] h (λx h'=>Ext h h'/\x= .tuple #[.int .i64 r.1,.int .i64 r.2]):=by
 unfold AVl at hp;refine cwf (l:=[_,_]) Tryz.func42 rfl rfl (AGq<|ATs<|AGx<|AGs<|AGq<|AGm ?_);have K0:=Kst.k0 h;obtain ⟨x6,Ap,Ak⟩:=AGr hp;refine AVs K0 (Auy (H2.ext K0.x) Ap) λA3 E9 Aa=>AV5 rfl (AGu<|⟨_,rfl,λAf=>?_,λAf=>?_⟩)
 ·refine AGq<|ATs<|AGx<|AG1<|ATd ?_;obtain rfl:=AGo<|ifT Ak Af;exact ⟨_,AUp,Aa.x,rfl⟩
 ·refine AG0<|q_t<|AGs<|AGq<|AGm<|AVz rfl rfl (AGm ?_);have Am:=AY5 Ak Af;by_cases Ab: ¬ a5=2
  ·rw [decide_eq_true Ab];refine ATc 11 true<|AGm<|ATc 11 true ?_;obtain ⟨A5,Aq,Ao⟩:=AGr<|ifT Am Ab;refine AVs Aa (Az1 (HO.ext Aa.x) Aq) λA6 A7 Ac=>ATc 11 true<|AV5 rfl (ATf rfl (AGu<|⟨_,rfl,λAg=>?_,λAg=>?_⟩))
   ·refine AGq<|ATs<|AGx<|AG1<|ATd ?_;obtain rfl:=AGo<|ifT Ao Ag;exact ⟨_,AUp,Ac.x,rfl⟩
   ·refine AG0<|q_t<|AGq<|AGm<|AGm ?_;obtain ⟨A8,Ar,Au⟩:=AGr<|AY5 Ao Ag;refine AVs Ac (Ai6 (H2.ext Ac.x) (HO.ext Ac.x) Ar) λA9 Ba Av=>ATs<|AGx<|AG1 ?_;obtain rfl:=AGo Au;exact ⟨_,AUp,Av.x,rfl⟩
  ·rw [decide_eq_false Ab];refine AWi 11 false<|AS6 rfl (AGu<|AT0 rfl (AG0<|q_t<|AGq<|AGm<|AGm ?_));obtain ⟨Bb,Aw,Ax⟩:=AGr<|ifF Am Ab;refine AVs Aa (Ai6 (H2.ext Aa.x) (HO.ext Aa.x) Aw) λBc Be Ay=>ATs<|AGx<|AG1 ?_;obtain rfl:=AGo Ax;exact ⟨_,AUp,Ay.x,rfl⟩
def Abv (fuel:Nat) (a2 Ab Ac:Int):Option ((Int × Int) ⊕ Int):=
 ((if ¬ Ab=0 then if a2≠0 then if Int.tmod Ab a2=0 then some (.inl ()) else some (.inr ()) else none else some<|.inr ()):Option (Unit ⊕ Unit)).bind (λex=>match ex with | .inl _=>(if a2≠0 then some (.inl (w64<|Int.tdiv Ab a2,w64<|Ac + 1)) else none) | .inr _=>some<|.inr Ac)
def AYv (fuel:Nat) (a1 a2:Int):Option Int:=
 (iter (λs=>Abv fuel a2 s.1 s.2) fuel (a1,0)).bind (λ(Ac:Int)=>some Ac)
theorem Akk (hp:AYv fuel a1 a2=some r):ATz Tryz.prog 77 #[(.int .i64 a1),(.int .i64 a2)] h (λx h'=>Ext h h'/\x= .int .i64 r):=by
 unfold AYv at hp;refine cwf (l:=[_,_]) Tryz.func77 rfl rfl (AGq<|AT2<|AGx<|AGs<|AGt ?_);have K0:=Kst.k0 h;refine AYr 524257 hp (λx=>[(0,(.int .i64 x.1)),(5,(.int .i64 x.2))]) (λx=>K0.L) K0 ⟨rfl,rfl,trivial⟩ ?_;rintro ⟨u9,Aw⟩ Ax h6 y5 K8 Ah Ai;unfold Abv at Ah;obtain ⟨Ao,Aj,Ac⟩:=AGr Ah;refine Aer 16320 (λx:Unit=>[]) (λx h'=>(Sum.inl <| ())=Ao/\Kst h h' (K8.L)) ?_ ?_
 ·refine AGq<|AGm<|AVz rfl rfl (AGm ?_);by_cases Ab: ¬ u9=0
  ·rw [decide_eq_true Ab];refine ATc 8 true<|AGm<|ATc 8 true<|AGm<|ATc 8 true ?_;obtain ⟨Ap,Ak⟩:=ifN<|ifT Aj Ab;refine Acl rfl rfl Ap (ATc 8 true<|AU0 rfl rfl (ATf rfl (AGu<|⟨_,rfl,λAd=>?_,λAd=>?_⟩)))
   ·refine AG0<|q_t ?_;exact ⟨(():Unit),⟨AGo<|AT4 Ak Ad,K8⟩,trivial⟩
   ·obtain rfl:=AGo<|AT5 Ak Ad;refine ATh<|ATi<|ATi<|AUf<|q_t<|AGq<|AGm<|AGx<|AG1 ?_;obtain rfl:=AGo<|Ai _ (AGo Ac).symm;exact ⟨_,AS5,K8.x,rfl⟩
  ·rw [decide_eq_false Ab];refine AWe 8 false<|AS6 rfl (AGu<|AT0 rfl ?_);obtain rfl:=AGo<|ifF Aj Ab;refine ATh<|ATi<|ATi<|AUf<|q_t<|AGq<|AGm<|AGx<|AG1 ?_;obtain rfl:=AGo<|Ai _ (AGo Ac).symm;exact ⟨_,AS5,K8.x,rfl⟩
 rintro ⟨⟩ A3 A4 ⟨Aq,Ar⟩;subst Aq;refine AGt<|AGq<|AGm<|AGm ?_;obtain ⟨Au,Av⟩:=ifN Ac;refine Ats rfl rfl Au (AGx<|AS8<|AGm<|ATn rfl rfl (ATs<|ATu<|q_b<|q_t ?_));exact ⟨_,(AGo Av).symm,Ar,rfl,rfl,trivial⟩
def Aef (fuel:Nat) (a1 a2 s8 s9:Int):Option ((Int × Int) ⊕ Int):=
 if s9 < a2 then some (.inl (w64<|s8 * a1,w64<|s9 + 1)) else some<|.inr s8
def AW8 (fuel:Nat) (a1 a2:Int):Option Int:=
 (iter (λs=>Aef fuel a1 a2 s.1 s.2) fuel (1,0)).bind (λ(Ac:Int)=>some Ac)
theorem Aeg (hp:AW8 fuel a1 a2=some r):ATz Tryz.prog 34 #[(.int .i64 a1),(.int .i64 a2)] h (λx h'=>Ext h h'/\x= .int .i64 r):=by
 unfold AW8 at hp;refine cwf (l:=[_,_]) Tryz.func34 rfl rfl (AGq<|AT2<|AGx<|AGs<|AGq<|AGx<|AGt ?_);have K0:=Kst.k0 h;refine AYr 32736 hp (λx=>[(5,(.int .i64 x.1)),(6,(.int .i64 x.2))]) (λx=>K0.L) K0 ⟨rfl,rfl,trivial⟩ ?_;rintro ⟨u9,Ai⟩ Aj h6 y5 K8 Aa Ag;unfold Aef at Aa;refine AGs<|AGq<|AGm<|AGm<|ATp rfl rfl (AGu<|⟨_,rfl,λAb=>?_,λAb=>?_⟩)
 ·refine AG0<|q_t<|AGs<|AGt<|AS8<|AGm<|AGm<|Aaq rfl rfl (ATs<|ATu<|q_b<|q_t<|AS8<|AGm<|ATn rfl rfl (AGx ?_));exact ⟨_,(AGo<|AT4 Aa Ab).symm,K8,rfl,rfl,trivial⟩
 ·refine ATh<|ATi<|ATi<|AUf<|q_t<|AGq<|AGm<|AGx<|AG1 ?_;obtain rfl:=AGo<|Ag _ (AGo<|AT5 Aa Ab).symm;exact ⟨_,AS5,K8.x,rfl⟩
def Abj (fuel:Nat) (a3:LiI):Option Int:=
 (AWw fuel a3).bind λx5=>(AUd fuel x5).bind λAc=>(Apl fuel Ac).bind λ(Ad,Ae)=>some Ad
theorem An0 {Aa:Value} (H2:AV4 (cI .i64) h Aa a3) (hp:Abj fuel a3=some r):ATz Tryz.prog 78 #[Aa] h (λx h'=>Ext h h'/\x= .int .i64 r):=by
 unfold Abj at hp;refine cwf (l:=[_]) Tryz.func78 rfl rfl (AGq<|AT2<|AGm ?_);have K0:=Kst.k0 h;obtain ⟨x5,Ah,Ai⟩:=AGr hp;refine Agx K0 (Ac3 (H2.ext K0.x) Ah) λAq Ar Au Av h9 E8 Ad=>?_;obtain ⟨Ay,Aj,Ak⟩:=AGr Ai;refine Ahs Ad (AVw (Ad.o2 p0).rd Aj) λAz A3 A4 Ae=>?_;obtain ⟨⟨A5,A6⟩,Am,Af⟩:=AGr Ak;dsimp only at Af;refine AVs Ae (Auk (Ae.z p0).2 Am) λA7 A8 Ao=>AGm<|AUk rfl rfl (AUk rfl rfl (ATs<|AT2<|AGm<|AGx<|AG1 ?_));obtain rfl:=AGo Af;exact ⟨_,AS5,Ao.x,rfl⟩
def AX6 (fuel:Nat) (a3:LiI) (a5:Int):Option Int:=
 (Abj fuel a3).bind λx6=>(AYv fuel x6 a5).bind λAb=>if a5=2 then some (w64<|Ab + 3) else some<|w64<|Ab + 1
theorem Alj {Ab:Value} (H2:AV4 (cI .i64) h Ab a3) (hp:AX6 fuel a3 a5=some r):ATz Tryz.prog 33 #[Ab,(.int .i64 a5)] h (λx h'=>Ext h h'/\x= .int .i64 r):=by
 unfold AX6 at hp;refine cwf (l:=[_,_]) Tryz.func33 rfl rfl (AGq<|AT2<|AGm ?_);have K0:=Kst.k0 h;obtain ⟨x6,Ai,Aj⟩:=AGr hp;refine AVs K0 (An0 (H2.ext K0.x) Ai) λAp E9 Ak=>AGm ?_;obtain ⟨Ar,Am,Af⟩:=AGr Aj;refine AVs Ak (Akk Am) λAu Av Ag=>AGx<|AGs<|AGq<|AGm<|AU0 rfl rfl (AGu<|⟨_,rfl,λAa=>?_,λAa=>?_⟩)
 ·refine AGq<|AGm<|ATn rfl rfl (AGx<|AG1<|ATd ?_);obtain rfl:=AGo<|AT4 Af Aa;exact ⟨_,AS5,Ag.x,rfl⟩
 ·refine AG0<|q_t<|AGq<|AGm<|ATn rfl rfl (AGx<|AG1 ?_);obtain rfl:=AGo<|AT5 Af Aa;exact ⟨_,AS5,Ag.x,rfl⟩
def Abk (fuel:Nat) (a1 a2:Int):Option Int:=
 if a2≠0 then if Int.tmod a1 a2 < 0 then some (w64<|Int.tmod a1 a2 + a2) else some (Int.tmod a1 a2) else none
theorem An1 (hp:Abk fuel a1 a2=some r):ATz Tryz.prog 79 #[(.int .i64 a1),(.int .i64 a2)] h (λx h'=>Ext h h'/\x= .int .i64 r):=by
 unfold Abk at hp;refine cwf (l:=[_,_]) Tryz.func79 rfl rfl (AGq<|AT2<|AGm<|AGm ?_);have K0:=Kst.k0 h;obtain ⟨Af,Ae⟩:=ifN hp;refine Acl rfl rfl Af (AGx<|AGs<|AGq<|AGm<|ATp rfl rfl (AGu<|⟨_,rfl,λAa=>?_,λAa=>?_⟩))
 ·refine AS8<|AGm<|AGm<|ATn rfl rfl (AT2<|AGm<|AGx<|AG1 ?_);obtain rfl:=AGo<|AT4 Ae Aa;exact ⟨_,AS5,K0.x,rfl⟩
 ·refine AG0<|q_t<|AGq<|AGm<|AGx<|AG1 ?_;obtain rfl:=AGo<|AT5 Ae Aa;exact ⟨_,AS5,K0.x,rfl⟩
def AZc (fuel:Nat) (a1 a5:Int):Option Int:=
 (Aen fuel a5).bind λAc=>(AW7 fuel a1 Ac).bind λAd=>(Apl fuel Ad).bind λ(Ae,Af)=>some Ae
theorem Alb (H3:ZZ h Ad a1) (hp:AZc fuel a1 a5=some r):ATz Tryz.prog 143 #[Ad,(.int .i64 a5)] h (λx h'=>Ext h h'/\x= .int .i64 r):=by
 unfold AZc at hp;obtain ⟨Am,rfl,Ag⟩:=H3.cs;refine cwf (l:=[_,_]) Tryz.func143 rfl rfl (AGq<|AY3 (Kst.k0 h) Am λb6 h7 E9 Ab=>AGx<|AGs<|AVn (λh'=>UpT [] h7 h') AG2 ?_);have Ah:UpT [] h7 h7:=UpT.start all_nil;refine Aib (Ab.zx Ag) Ah (Ab.b p0)<|AGm ?_;obtain ⟨A3,Ao,Ap⟩:=AGr hp;refine AYq Ab Ah (Ad0 Ao) λA4 A5 A6 Ac Aq=>?_;obtain ⟨A7,Ar,Au⟩:=AGr Ap;refine AYq Ac Aq (Aix (Ac.zx Ag).2 (Ac.z p0).2 Ar) λA8 A9 Ba Ai Av=>?_;obtain ⟨⟨Bb,Bc⟩,Aw,Aj⟩:=AGr Au;dsimp only at Aj;refine BC9 Ai Av (Auk (Ai.z p0).2 Aw) λBe Bf Ax Bg=>AGm<|AUk rfl rfl (AUk rfl rfl (ATs<|AT2<|AGm<|AGx<|AG1 ?_));obtain rfl:=AGo Aj;exact ⟨_,AS5,Ax.x,rfl⟩
def Aeh (fuel:Nat) (a3:LiI) (Ab:Int):Option (Int ⊕ (Bool ⊕ Unit)):=
 if Ab < (a3.length:Int) then (gI a3 Ab).bind λAc=>(gI a3 0).bind λAd=>if ¬ (Ac.length:Int)=(Ad.length:Int) then some (.inr<|.inl false) else if (Ac.length:Int) < 1 then some (.inr<|.inl false) else if 16 < (Ac.length:Int) then some (.inr<|.inl false) else some (.inl<|w64<|Ab + 1) else some<|.inr<|.inr ()
def AWf (fuel:Nat) (a3:LiI):Option Bool:=
 ((if (a3.length:Int) < 1 then some (.inl false) else if 16 < (a3.length:Int) then some (.inl false) else some<|.inr ()):Option (Bool ⊕ Unit)).bind (λex=>match ex with | .inl Ab=>(some Ab) | .inr _=>(iter (λs=>Aeh fuel a3 s) fuel 0).bind (λex=>match ex with | .inl Ac=>(some Ac) | .inr _=>some true))
theorem Aei {r:Bool} (H2:AV4 (cI .i64) h Aq a3) (hp:AWf fuel a3=some r):ATz Tryz.prog 145 #[Aq] h (λx h'=>Ext h h'/\x= .bool r):=by
 unfold AWf at hp;refine cwf (l:=[_]) Tryz.func145 rfl rfl (AGq<|AGx ?_);have K0:=Kst.k0 h;obtain ⟨A3,Ar,Ai⟩:=AGr hp;refine Aer 8164 (λx:Unit=>[]) (λx h'=>(Sum.inr <| ())=A3/\Kst h h' (K0.L)) ?_ ?_
 ·refine AGq<|AGm<|AT3 ATb rfl H2 (ATp rfl rfl (AGm ?_));by_cases Ad:(a3.length:Int) < 1
  ·rw [decide_eq_true Ad];refine AWi 8 true<|ATf rfl (AGu<|ATx rfl (AGq<|AGx ?_));obtain rfl:=AGo<|ifT Ar Ad;refine AG1<|ATd ?_;obtain rfl:=AGo Ai;exact ⟨_,AS5,K0.x,rfl⟩
  ·have Au:=ifF Ar Ad;rw [decide_eq_false Ad];refine ATc 8 false<|AGm<|ATc 8 false<|AT3 ATb rfl H2 (ATc 8 false<|AXr rfl rfl (AS6 rfl (AGu<|⟨_,rfl,λAj=>?_,λAj=>?_⟩)))
   ·refine AGq<|AGx ?_;obtain rfl:=AGo<|AT4 Au Aj;refine AG1<|ATd ?_;obtain rfl:=AGo Ai;exact ⟨_,AS5,K0.x,rfl⟩
   ·refine AG0<|q_t ?_;exact ⟨(():Unit),⟨AGo<|AT5 Au Aj,K0⟩,trivial⟩
 rintro ⟨⟩ Ba Bb ⟨A4,Av⟩;subst A4;refine AGs<|AGq<|AGm<|AT3 ATb rfl H2 (AGm<|AGu<|AGt<|AYr 137438920724 Ai (λx=>[(15,(.int .i64 x))]) (λx=>Av.L) Av ⟨rfl,trivial⟩ ?_);rintro Bc Be Bf Bg Aa Ak Ae;unfold Aeh at Ak;refine AGq<|ATp rfl rfl (AGu<|AGs<|⟨_,rfl,λAm=>?_,λAm=>?_⟩)
 ·refine AG0<|q_t<|AGs<|AGt<|AGq ?_;obtain ⟨Aw,A5,A6⟩:=AGr<|AT4 Ak Am;refine AZ1 ATb ATq H2 Aa.x A5 λ_ Bh Ao=>AT2<|AGm<|AUl ATa rfl Ao (AGm ?_);obtain ⟨A7,A8,Ax⟩:=AGr A6;refine AZ1 ATb ATq H2 Aa.x A8 λ_ Bi A9=>AUl ATa rfl A9 (AVz rfl rfl (AGm ?_));by_cases Af: ¬ (Aw.length:Int)=(A7.length:Int)
  ·rw [decide_eq_true Af];refine AWi 26 true<|ATf rfl (AGm<|AWi 31 true<|ATf rfl (AGu<|ATx rfl (AGq<|AGx<|AG1<|AUg<|ATd<|ATd<|AUg<|ATd ?_)));obtain rfl:=AGo<|Ae _ (AGo<|ifT Ax Af).symm;exact ⟨_,AS5,Aa.x,rfl⟩
  ·have Ay:=ifF Ax Af;rw [decide_eq_false Af];refine ATc 26 false<|AGm<|ATc 26 false<|AUl ATa rfl Ao (ATc 26 false<|ATp rfl rfl (AS6 rfl (AGm ?_)));by_cases Ag:(Aw.length:Int) < 1
   ·rw [decide_eq_true Ag];refine AWi 31 true<|ATf rfl (AGu<|ATx rfl (AGq<|AGx<|AG1<|AUg<|ATd<|ATd<|AUg<|ATd ?_));obtain rfl:=AGo<|Ae _ (AGo<|ifT Ay Ag).symm;exact ⟨_,AS5,Aa.x,rfl⟩
   ·have Az:=ifF Ay Ag;rw [decide_eq_false Ag];refine ATc 31 false<|AGm<|ATc 31 false<|AUl ATa rfl Ao (ATc 31 false<|AXr rfl rfl (AS6 rfl (AGu<|⟨_,rfl,λAp=>?_,λAp=>?_⟩)))
    ·refine AGq<|AGx<|AG1<|AUg<|ATd<|ATd<|AUg<|ATd ?_;obtain rfl:=AGo<|Ae _ (AGo<|AT4 Az Ap).symm;exact ⟨_,AS5,Aa.x,rfl⟩
    ·refine AG0<|q_b<|q_t<|AS8<|ATn rfl rfl (AGm<|AGu ?_);exact ⟨_,(AGo<|AT5 Az Ap).symm,Aa,rfl,trivial⟩
 ·refine ATh<|ATi<|ATi<|AUf<|q_t<|AGq<|AGx<|AG1 ?_;obtain rfl:=AGo<|Ae _ (AGo<|AT5 Ak Am).symm;exact ⟨_,AS5,Aa.x,rfl⟩
def AXk (fuel:Nat) (a1:Int):Option Bool:=
 if 2<=a1 then some (decide (a1<=2147483647)) else some false
theorem Ag4 {r:Bool} (hp:AXk fuel a1=some r):ATz Tryz.prog 142 #[(.int .i64 a1)] h (λx h'=>Ext h h'/\x= .bool r):=by
 unfold AXk at hp;refine cwf (l:=[_]) Tryz.func142 rfl rfl (AGq<|AT2<|AGm<|Afp rfl rfl (AGm ?_));have K0:=Kst.k0 h;by_cases Aa:2<=a1
 ·rw [decide_eq_true Aa];refine ATc 5 true<|AGm<|ATc 5 true<|Aqi rfl rfl (ATf rfl (AGx<|AG1 ?_));obtain rfl:=AGo<|ifT hp Aa;exact ⟨_,AS5,K0.x,rfl⟩
 ·rw [decide_eq_false Aa];refine Adc 5 false<|AS6 rfl (AGx<|AG1 ?_);obtain rfl:=AGo<|ifF hp Aa;exact ⟨_,AS5,K0.x,rfl⟩
def AZ5 (fuel:Nat) (a5:Int) (Ac Aa:LiA) (Ab:Int):Option ((LiA × Int) ⊕ LiA):=
 if Ab < (Ac.length:Int) then (gI Ac Ab).bind λAe=>(Abk fuel Ae a5).bind λAf=>if Aa.length<=100000000 then some (.inl (Aa ++ [Af],w64<|Ab + 1)) else none else some<|.inr Aa
def Adt (fuel:Nat) (a3:LiI) (a5:Int) (Aa:LiI) (Ab:Int):Option ((LiI × Int) ⊕ LiI):=
 if Ab < (a3.length:Int) then (gI a3 Ab).bind λAe=>(iter (λs=>AZ5 fuel a5 Ae s.1 s.2) fuel ([],0)).bind (λ(Af:LiA)=>if Aa.length<=100000000 then some (.inl (Aa ++ [Af],w64<|Ab + 1)) else none) else some<|.inr Aa
def AWa (fuel:Nat) (a3:LiI) (a5:Int):Option LiI:=
 (iter (λs=>Adt fuel a3 a5 s.1 s.2) fuel ([],0)).bind (λ(Ac:LiI)=>some Ac)
theorem Adu {Ag:Value} {r:LiI} (H2:AV4 (cI .i64) h Ag a3) (hp:AWa fuel a3 a5=some r):ATz Tryz.prog 35 #[Ag,(.int .i64 a5)] h (λx h'=>Ext h h'/\ ∃ (x0:Value) (F0:List Nat) (Av:List LnA) (Aw:List Value),x=x0/\AV8 (cI .i64) 61 2 h' F0 Av Aw x0 r/\Sp h' h.size [F0]):=by
 unfold AWa at hp;refine cwf (l:=[_,_]) Tryz.func35 rfl rfl (AGq<|AT2<|AGx<|AGs<|AGq<|AGm<|AT3 ATb rfl H2 (AGm<|AGu<|AGt ?_));have K7:=Kst.anil2 (cI .i64) 61 2<|Kst.k0 h;refine AXv 34359731616 (λx:(LiI) × (Value) × LnA × LnN × LvA × (Int)=>(x.1,x.2.2.2.2.2)) (([],(.slice none 0 0),[],[],[],0):(LiI) × (Value) × LnA × LnN × LvA × (Int)) hp (λx=>[(5,x.2.1),(13,(.int .i64 x.2.2.2.2.2))]) (λx=>K7.L.set 0<|aO2 (cI .i64) 61 2 x.2.2.1 x.2.2.2.1 x.2.2.2.2.1 x.2.1 x.1) K7 ⟨rfl,rfl,trivial⟩ ?_;rintro ⟨Bj,Bl,Bm,Bn,Bo,Bp⟩ Bq Br Bt Ab Ac Ax;unfold Adt at Ac;refine AGq<|ATp rfl rfl (AGu<|AGs<|⟨_,rfl,λAd=>?_,λAd=>?_⟩)
 ·refine AG0<|q_t<|AGs<|AGt<|AGq ?_;obtain ⟨Bu,Ay,Az⟩:=AGr<|AT4 Ac Ad;refine AZ1 ATb ATq H2 Ab.x Ay λ_ Bv Ap=>AT2<|AGx<|AGs<|AGq<|AGm<|AUl ATa rfl Ap (AGm<|AGu<|AGt ?_);have Aq:=Kst.anil (cI .i64) 2 Ab;refine AXv 1073218816 (λx:(LiA) × (Value) × LnA × (Int)=>(x.1,x.2.2.2)) (([],(.slice none 0 0),[],0):(LiA) × (Value) × LnA × (Int)) Az (λx=>[(8,x.2.1),(19,(.int .i64 x.2.2.2))]) (λx=>Aq.L.set 0<|aO (cI .i64) 2 x.2.2.1 x.2.1 x.1) Aq ⟨rfl,rfl,trivial⟩ ?_;rintro ⟨Bw,Bx,By,Bz⟩ B1 B3 B4 Aa Ae A3;unfold AZ5 at Ae;refine AGq<|ATp rfl rfl (AGu<|AGs<|⟨_,rfl,λAf=>?_,λAf=>?_⟩)
  ·refine AG0<|q_t<|AGs<|AGt<|AGq ?_;obtain ⟨B5,A4,A5⟩:=AGr<|AT4 Ae Af;refine Aoc ATa ATg Ap Aa.x A4 λ_=>(AGx<|AS8<|AGm<|AGm<|AGm ?_);obtain ⟨Ar,A6,A7⟩:=AGr A5;refine AVs Aa (An1 A6) λB6 B7 Au=>?_;obtain ⟨A8,A9⟩:=ifN A7;refine Afm ATa Abm rfl rfl trivial tt2 (λ_=>rfl) rfl (show ((cI .i64)).rep _ Ar [(.int .i64 Ar)] from rfl) (Au.o p0) AGn A8 λB8 B9 Ca Cb Ba Bb Bc=>ATs<|ATu<|q_b<|q_t<|AS8<|ATn rfl rfl (AGm<|AGu ?_);exact ⟨(_,_,_,_),(AGo A9).symm,(Au.uo p0 Bb Ba Bc),rfl,rfl,trivial⟩
  ·refine ATh<|ATi<|ATi<|AUf<|q_t<|AS8<|AGm<|AGm ?_;obtain ⟨Be,Bf⟩:=ifN<|A3 _ (AGo<|AT5 Ae Af).symm;refine Aq9 ATb Aet rfl rfl trivial tt2 (λ_=>rfl) rfl (Aa.o p0) (Aa.o2 p1) (Aa.dj p0 p1 AGn) AGn Be λCd Ce Cf Cg Bg Bh Bi=>ATs<|ATu<|q_b<|q_t<|AS8<|ATn rfl rfl (AGm<|AGu ?_);exact ⟨(_,_,_,_,_,_),(AGo Bf).symm,(Aa.m2 p0 p1 AGn Bh Bg Bi).sel [1] AGn,rfl,rfl,trivial⟩
 ·refine ATh<|ATi<|ATi<|AUf<|q_t<|AGq<|AGm<|AGx<|AG1 ?_;obtain rfl:=AGo<|Ax _ (AGo<|AT5 Ac Ad).symm;exact ⟨_,AS5,Ab.x,_,_,_,_,rfl,(Ab.o2 p0),Ab.s.sel [0] AGn⟩
def Aa2 (fuel:Nat) (a3 a7:LiI) (Ab:Int) (Ae:LiA) (Aa:Int):Option (Int ⊕ (Bool ⊕ Unit)):=
 if Aa < (Ae.length:Int) then (gI a3 Ab).bind λAf=>(gI Af Aa).bind λAg=>(gI a7 Ab).bind λAh=>(gI Ah Aa).bind λAi=>if ¬ Ag=Ai then some (.inr<|.inl false) else some (.inl<|w64<|Aa + 1) else some<|.inr<|.inr ()
def Aa3 (fuel:Nat) (a3 a7:LiI) (Aa:Int):Option (Int ⊕ (Bool ⊕ Unit)):=
 if Aa < (a3.length:Int) then (gI a3 Aa).bind λAd=>(gI a7 Aa).bind λAe=>if ¬ (Ad.length:Int)=(Ae.length:Int) then some (.inr<|.inl false) else (iter (λs=>Aa2 fuel a3 a7 Aa Ad s) fuel 0).bind (λex=>match ex with | .inl Af=>(some<|.inr<|.inl Af) | .inr _=>some<|.inl<|w64<|Aa + 1) else some<|.inr<|.inr ()
def Aau (fuel:Nat) (a3 a7:LiI):Option Bool:=
 if ¬ (a3.length:Int)=(a7.length:Int) then some false else (iter (λs=>Aa3 fuel a3 a7 s) fuel 0).bind (λex=>match ex with | .inl Ac=>(some Ac) | .inr _=>some true)
theorem Am0 {Ap:Value} {Ar:Value} {a7:LiI} {r:Bool} (H2:AV4 (cI .i64) h Ap a3) (H6:AV4 (cI .i64) h Ar a7) (hp:Aau fuel a3 a7=some r):ATz Tryz.prog 90 #[Ap,Ar] h (λx h'=>Ext h h'/\x= .bool r):=by
 unfold Aau at hp;refine cwf (l:=[_,_]) Tryz.func90 rfl rfl (AGq<|AGx<|AGs<|AGq<|AGm<|AT3 ATb rfl H2 (AGm<|AT3 ATb rfl H6 (AVz rfl rfl (AGu ?_))));have K0:=Kst.k0 h;refine ⟨_,rfl,λAf=>?_,λAf=>?_⟩
 ·refine AGq<|AGx<|AG1<|ATd ?_;obtain rfl:=AGo<|AT4 hp Af;exact ⟨_,AS5,K0.x,rfl⟩
 ·refine AG0<|q_t<|AGs<|AGq<|AGm<|AT3 ATb rfl H2 (AGm<|AGu<|AGt<|AYr 9007199254724720 (AT5 hp Af) (λx=>[(14,(.int .i64 x))]) (λx=>K0.L) K0 ⟨rfl,trivial⟩ ?_);rintro Bh Bi Bj Bl Aa Ag Ah;unfold Aa3 at Ag;refine AGq<|ATp rfl rfl (AGu<|AGs<|⟨_,rfl,λAi=>?_,λAi=>?_⟩)
  ·refine AG0<|q_t<|AGs<|AGt<|AGq<|AGm<|AGx<|AGs<|AGs<|AXi<|AGm<|AGm ?_;obtain ⟨Bm,Av,Az⟩:=AGr<|AT4 Ag Ai;refine AZ1 ATb ATq H2 Aa.x Av λ_ Bn A3=>AUl ATa rfl A3 (AGm<|AGm ?_);obtain ⟨Bo,A4,Aw⟩:=AGr Az;refine AZ1 ATb ATq H6 Aa.x A4 λ_ Bp A5=>AUl ATa rfl A5 (AVz rfl rfl (AGu<|⟨_,rfl,λAj=>?_,λAj=>?_⟩))
   ·refine AGq<|AGx<|AG1<|ATd<|AUg<|ATd<|ATd<|AUg<|ATd ?_;obtain rfl:=AGo<|Ah _ (AGo<|AT4 Aw Aj).symm;exact ⟨_,AS5,Aa.x,rfl⟩
   ·refine AG0<|q_t<|AGq<|AGm<|AGm<|AZ1 ATb ATq H2 Aa.x Av λ_ Bq A6=>AUl ATa rfl A6 (AGm<|AGu<|AGt<|AYr 4503591037435984 (AT5 Aw Aj) (λx=>[(33,(.int .i64 x))]) (λx=>Aa.L) Aa ⟨rfl,trivial⟩ ?_);rintro Br Bt Bu Bv Ab Ak Ax;unfold Aa2 at Ak;refine AGq<|ATp rfl rfl (AGu<|AGs<|⟨_,rfl,λAm=>?_,λAm=>?_⟩)
    ·refine AG0<|q_t<|AGs<|AGt<|AGq<|AGm<|AGx<|AGs<|AXi<|AGm<|AGm ?_;obtain ⟨Bw,A7,A8⟩:=AGr<|AT4 Ak Am;refine AZ1 ATb ATq H2 Ab.x A7 λ_ Bx A9=>AGm ?_;obtain ⟨By,Ba,Bb⟩:=AGr A8;refine Aoc ATa ATg A9 Ab.x Ba λ_=>(AGm<|AGm ?_);obtain ⟨Bz,Bc,Be⟩:=AGr Bb;refine AZ1 ATb ATq H6 Ab.x Bc λ_ B1 Bf=>AGm ?_;obtain ⟨B3,Bg,Ay⟩:=AGr Be;refine Aoc ATa ATg Bf Ab.x Bg λ_=>(AVz rfl rfl (AGu<|⟨_,rfl,λAo=>?_,λAo=>?_⟩))
     ·refine AGq<|AGx<|AG1<|AUg<|ATd<|ATd<|AUg<|AUg<|ATd<|ATd<|AUg<|ATd ?_;obtain rfl:=AGo<|Ah _ (AGo<|Ax _ (AGo<|AT4 Ay Ao).symm).symm;exact ⟨_,AS5,Ab.x,rfl⟩
     ·refine AG0<|q_b<|q_t<|AS8<|ATn rfl rfl (AGm<|AGu ?_);exact ⟨_,(AGo<|AT5 Ay Ao).symm,Ab,rfl,trivial⟩
    ·refine ATh<|ATi<|ATi<|AUf<|q_b<|q_t<|AS8<|ATn rfl rfl (AGm<|AGu ?_);exact ⟨_,(AGo<|Ax _ (AGo<|AT5 Ak Am).symm).symm,Ab,rfl,trivial⟩
  ·refine ATh<|ATi<|ATi<|AUf<|q_t<|AGq<|AGx<|AG1 ?_;obtain rfl:=AGo<|Ah _ (AGo<|AT5 Ag Ai).symm;exact ⟨_,AS5,Aa.x,rfl⟩
def AZm (fuel:Nat) (a9:Int) (Af Ae:LiI) (Ag Ac Ab:Int) (Ad:LiA):Option ((Int × LiA) ⊕ LiA):=
 if Ab < (Ae.length:Int) then (gI Ad Ac).bind λAh=>(gI Af Ag).bind λAi=>(gI Ai Ab).bind λAj=>(gI Ae Ab).bind λAk=>(gI Ak Ac).bind λAm=>if a9≠0 then if a9≠0 then some (.inl (w64<|Ab + 1,sI Ad Ac<|Int.tmod (w64<|Ah + Int.tmod (w64<|Aj * Am) a9) a9)) else none else none else some<|.inr Ad
def AZn (fuel:Nat) (a9:Int) (Ad Ae:LiI) (Af:Int) (Ag:LiA) (Aa:Int) (Ab:LiA):Option ((Int × LiA) ⊕ LiA):=
 if Aa < ((List.replicate (Int.toNat (Ag.length:Int)) (0:Int)).length:Int) then (iter (λs=>AZm fuel a9 Ad Ae Af Aa s.1 s.2) fuel (0,Ab)).bind (λ(Ah:LiA)=>some<|.inl (w64<|Aa + 1,Ah)) else some<|.inr Ab
def AZo (fuel:Nat) (a9:Int) (Ad Ae Ab:LiI) (Ac:Int):Option ((LiI × Int) ⊕ LiI):=
 if Ac < (Ad.length:Int) then (gI Ae 0).bind λAa=>if 0<=(Aa.length:Int)/\(Aa.length:Int)<=100000000 then (iter (λs=>AZn fuel a9 Ad Ae Ac Aa s.1 s.2) fuel (0,List.replicate (Int.toNat (Aa.length:Int)) (0:Int))).bind (λ(Ag:LiA)=>if Ab.length<=100000000 then some (.inl (Ab ++ [Ag],w64<|Ac + 1)) else none) else none else some<|.inr Ab
def AXl (fuel:Nat) (a3 a7:LiI) (a9:Int):Option LiI:=
 (AWa fuel a3 a9).bind λAd=>(AWa fuel a7 a9).bind λAe=>(iter (λs=>AZo fuel a9 Ad Ae s.1 s.2) fuel ([],0)).bind (λ(Af:LiI)=>some Af)
theorem Ag5 {Ao:Value} {a7:LiI} {a9:Int} {r:LiI} (H2:AV4 (cI .i64) h Ao a3) (H6:AV4 (cI .i64) h Aq a7) (hp:AXl fuel a3 a7 a9=some r):ATz Tryz.prog 146 #[Ao,Aq,(.int .i64 a9)] h (λx h'=>Ext h h'/\ ∃ (x0:Value) (F0:List Nat) (A9:List LnA) (Ba:List Value),x=x0/\AV8 (cI .i64) 61 2 h' F0 A9 Ba x0 r/\Sp h' h.size [F0]):=by
 unfold AXl at hp;refine cwf (l:=[_,_,_]) Tryz.func146 rfl rfl (AGq<|AT2<|AGm<|AGm ?_);have K0:=Kst.k0 h;obtain ⟨Cv,Bb,Bc⟩:=AGr hp;refine Agx K0 (Adu (H2.ext K0.x) Bb) λCw Cx Cy Cz C0 C1 Ax=>AGm<|AGm ?_;obtain ⟨C2,Be,Bf⟩:=AGr Bc;refine Agx Ax (Adu (H6.ext Ax.x) Be) λC3 C4 C5 C6 C7 C8 Ay=>ATs<|AT2<|AGx<|AGs<|AGq<|AGm<|AT3 ATb rfl (Ay.o2 p1).rd (AGm<|AGu<|AGt ?_);have Az:=Kst.anil2 (cI .i64) 61 2 Ay;refine AXv 4722366482869644169088 (λx:(LiI) × (Value) × LnA × LnN × LvA × (Int)=>(x.1,x.2.2.2.2.2)) (([],(.slice none 0 0),[],[],[],0):(LiI) × (Value) × LnA × LnN × LvA × (Int)) Bf (λx=>[(7,x.2.1),(20,(.int .i64 x.2.2.2.2.2))]) (λx=>Az.L.set 0<|aO2 (cI .i64) 61 2 x.2.2.1 x.2.2.2.1 x.2.2.2.2.1 x.2.1 x.1) Az ⟨rfl,rfl,trivial⟩ ?_;rintro ⟨C9,Da,Db,Dc,Dd,Bg⟩ De Df Dg Ac Af Bh;unfold AZo at Af;refine AGq<|ATp rfl rfl (AGu<|AGs<|⟨_,rfl,λAg=>?_,λAg=>?_⟩)
 ·refine AG0<|q_t<|AGs<|AGt<|AGq<|AGm<|AT2<|AGm ?_;obtain ⟨Bi,A3,Bj⟩:=AGr<|AT4 Af Ag;refine AUo ATb ATq (Ac.o2 p1) A3 λ_ Dh Bl=>AUl ATa rfl ((Ac.o2 p1).rowI Bl A3) ?_;obtain ⟨Bm,Bn⟩:=ifN Bj;refine Ajb (c:=(cI .i64)) (a:=0) ATa Abm rfl rfl (λ_=>rfl) rfl trivial tt2 rfl rfl AGn Bm λBo A4 Di Bp Bq Br Bt=>AGx<|AGs<|AGq<|AGm ?_;have Ah:=Ac.no Bq (AYh Br Bt) Bp;refine AUl ATa rfl (Ah.o p0).rd (AGm<|AGu<|AGt<|AXv 147573952588602674176 (λx:(Int) × (LiA) × LnA=>(x.1,x.2.1)) ((0,(List.replicate (Int.toNat (Bi.length:Int)) (0:Int)),[Bo]):(Int) × (LiA) × LnA) Bn (λx=>[(30,(.int .i64 x.1))]) (λx=>Ah.L.set 0<|aO (cI .i64) 2 x.2.2 A4 x.2.1) Ah ⟨rfl,trivial⟩ ?_);rintro ⟨Dj,Bu,Bv⟩ Dk Dl Do Ab Ai Bw;unfold AZn at Ai;refine AGq<|ATp rfl rfl (AGu<|AGs<|⟨_,rfl,λAj=>?_,λAj=>?_⟩)
  ·refine AG0<|q_t<|AGs<|AGt<|AGq<|AGm<|AT2<|AGm<|AT3 ATb rfl (Ab.o2 p2).rd (AGm<|AGu<|AGt<|AXv 73786976260478470144 (λx:(Int) × (LiA) × LnA=>(x.1,x.2.1)) ((0,Bu,Bv):(Int) × (LiA) × LnA) (AT4 Ai Aj) (λx=>[(35,(.int .i64 x.1))]) (λx=>Ab.L.set 0<|aO (cI .i64) 2 x.2.2 A4 x.2.1) Ab ⟨rfl,trivial⟩ ?_);rintro ⟨Bx,Dp,Dq⟩ Dr Ds Dt Aa Ak By;unfold AZm at Ak;refine AGq<|ATp rfl rfl (AGu<|AGs<|⟨_,rfl,λAm=>?_,λAm=>?_⟩)
   ·refine AG0<|q_t<|AGs<|AGt<|AGq<|AGm<|AGx<|AXi<|AGm<|AGm<|AGm<|AGm ?_;obtain ⟨Bz,Ae,B1⟩:=AGr<|AT4 Ak Am;refine Aq8 ATa rfl (Aa.o p0) rfl Ae λDu B3=>?_;obtain ⟨Dv,B4,B5⟩:=(Aa.o p0).cells B3 Ae;obtain rfl:=B4;refine AT6 ATg rfl (B5 0 _ rfl) (AGm<|AGm ?_);obtain ⟨Dw,A5,B6⟩:=AGr B1;refine AUo ATb ATq (Aa.o2 p3) A5 λ_ Dx B7=>AGm ?_;obtain ⟨B8,B9,Ca⟩:=AGr B6;refine AW6 (m:=Bg) ATa ATg (Aa.o2 p3) B7 A5 B9 λ_=>(AGm<|AGm ?_);obtain ⟨Dy,A6,Cb⟩:=AGr Ca;refine AUo ATb ATq (Aa.o2 p2) A6 λ_ Dz Cd=>AGm ?_;obtain ⟨Ce,Cf,Cg⟩:=AGr Cb;refine AW6 (m:=Bx) ATa ATg (Aa.o2 p2) Cd A6 Cf λ_=>(Aaq rfl rfl (AGm ?_));obtain ⟨Ch,Ci⟩:=ifN Cg;refine Acl rfl rfl Ch (ATn rfl rfl (AGm ?_));obtain ⟨Cj,Ck⟩:=ifN Ci;refine Acl rfl rfl Cj (Aq8 ATa rfl (Aa.o p0) rfl Ae λD0 Cm=>BGg (Aem ATg rfl rfl rfl) (Aa.o p0) Cm Ae (show ((cI .i64)).rep _ (Int.tmod (w64<|Bz + (Int.tmod (w64<|B8 * Ce) a9)) a9) _ from rfl) λD1 Cn Co=>ATu<|q_b<|q_t<|AS8<|ATn rfl rfl (AGm<|AGu ?_));exact ⟨(_,_,_),(AGo Ck).symm,(Aa.uO p0 Co Cn),rfl,trivial⟩
   ·refine ATh<|ATi<|ATi<|AUf<|q_b<|q_t<|AS8<|ATn rfl rfl (AGm<|AGu ?_);exact ⟨(_,_,_),(AGo<|By _ (AGo<|AT5 Ak Am).symm).symm,Aa,rfl,trivial⟩
  ·refine ATh<|ATi<|ATi<|AUf<|q_t<|AS8<|AGm<|AGm ?_;obtain ⟨Cp,Cq⟩:=ifN<|Bw _ (AGo<|AT5 Ai Aj).symm;refine Aq9 ATb Aet rfl rfl trivial tt2 (λ_=>rfl) rfl (Ab.o p0) (Ab.o2 p1) (Ab.dj p0 p1 AGn) AGn Cp λD2 D3 D4 D5 Cr Ct Cu=>ATs<|ATu<|q_b<|q_t<|AS8<|ATn rfl rfl (AGm<|AGu ?_);exact ⟨(_,_,_,_,_,_),(AGo Cq).symm,(Ab.m2 p0 p1 AGn Ct Cr Cu).sel [1,2,3] AGn,rfl,rfl,trivial⟩
 ·refine ATh<|ATi<|ATi<|AUf<|q_t<|AGq<|AGm<|AGx<|AG1 ?_;obtain rfl:=AGo<|Bh _ (AGo<|AT5 Af Ag).symm;exact ⟨_,AS5,Ac.x,_,_,_,_,rfl,(Ac.o2 p0),Ac.s.sel [0] AGn⟩
def AYy (fuel:Nat) (a3:LiI) (Ad:Int) (Aa:LiA) (Ab:Int):Option ((LiA × Int) ⊕ LiA):=
 if Ab < (a3.length:Int) then (gI a3 Ab).bind λAe=>(gI Ae Ad).bind λAf=>if Aa.length<=100000000 then some (.inl (Aa ++ [Af],w64<|Ab + 1)) else none else some<|.inr Aa
def AYz (fuel:Nat) (a3:LiI) (x5:LiA) (Aa:LiI) (Ab:Int):Option ((LiI × Int) ⊕ LiI):=
 if Ab < (x5.length:Int) then (iter (λs=>AYy fuel a3 Ab s.1 s.2) fuel ([],0)).bind (λ(Ae:LiA)=>if Aa.length<=100000000 then some (.inl (Aa ++ [Ae],w64<|Ab + 1)) else none) else some<|.inr Aa
def AYe (fuel:Nat) (a3:LiI):Option LiI:=
 (gI a3 0).bind λx5=>(iter (λs=>AYz fuel a3 x5 s.1 s.2) fuel ([],0)).bind (λ(Ac:LiI)=>some Ac)
theorem Akc {r:LiI} (H2:AV4 (cI .i64) h Ah a3) (hp:AYe fuel a3=some r):ATz Tryz.prog 147 #[Ah] h (λx h'=>Ext h h'/\ ∃ (x0:Value) (F0:List Nat) (Ar:List LnA) (Au:List Value),x=x0/\AV8 (cI .i64) 61 2 h' F0 Ar Au x0 r/\Sp h' h.size [F0]):=by
 unfold AYe at hp;refine cwf (l:=[_]) Tryz.func147 rfl rfl (AGq<|AT2<|AGx<|AGs<|AGq<|AGm ?_);have K0:=Kst.k0 h;obtain ⟨x5,Av,Aw⟩:=AGr hp;refine AZ1 ATb ATq H2 K0.x Av λ_ r8 H9=>AUl ATa rfl H9 (AGm<|AGu<|AGt ?_);have Ao:=Kst.anil2 (cI .i64) 61 2 K0;refine AXv 34359736440 (λx:(LiI) × (Value) × LnA × LnN × LvA × (Int)=>(x.1,x.2.2.2.2.2)) (([],(.slice none 0 0),[],[],[],0):(LiI) × (Value) × LnA × LnN × LvA × (Int)) Aw (λx=>[(3,x.2.1),(11,(.int .i64 x.2.2.2.2.2))]) (λx=>Ao.L.set 0<|aO2 (cI .i64) 61 2 x.2.2.1 x.2.2.2.1 x.2.2.2.2.1 x.2.1 x.1) Ao ⟨rfl,rfl,trivial⟩ ?_;rintro ⟨Bm,Bn,Bo,Bp,Bq,Br⟩ Bt Bu Bv Ab Ad Ay;unfold AYz at Ad;refine AGq<|ATp rfl rfl (AGu<|AGs<|⟨_,rfl,λAe=>?_,λAe=>?_⟩)
 ·refine AG0<|q_t<|AGs<|AGt<|AGq<|AGm<|AT2<|AGx<|AGs<|AGq<|AGm ?_;refine AT3 ATb rfl H2 (AGm<|AGu<|AGt ?_);have Ap:=Kst.anil (cI .i64) 2 Ab;refine AXv 1073676384 (λx:(LiA) × (Value) × LnA × (Int)=>(x.1,x.2.2.2)) (([],(.slice none 0 0),[],0):(LiA) × (Value) × LnA × (Int)) (AT4 Ad Ae) (λx=>[(5,x.2.1),(16,(.int .i64 x.2.2.2))]) (λx=>Ap.L.set 0<|aO (cI .i64) 2 x.2.2.1 x.2.1 x.1) Ap ⟨rfl,rfl,trivial⟩ ?_;rintro ⟨Bw,Bx,By,Bz⟩ B1 B3 B4 Aa Af Az;unfold AYy at Af;refine AGq<|ATp rfl rfl (AGu<|AGs<|⟨_,rfl,λAg=>?_,λAg=>?_⟩)
  ·refine AG0<|q_t<|AGs<|AGt<|AGq<|AGm<|AGx<|AS8<|AGm<|AGm<|AGm ?_;obtain ⟨B5,A3,A4⟩:=AGr<|AT4 Af Ag;refine AZ1 ATb ATq H2 Aa.x A3 λ_ B6 A5=>AGm ?_;obtain ⟨Aq,A6,A7⟩:=AGr A4;refine Aoc ATa ATg A5 Aa.x A6 λ_=>?_;obtain ⟨A8,A9⟩:=ifN A7;refine Afm ATa Abm rfl rfl trivial tt2 (λ_=>rfl) rfl (show ((cI .i64)).rep _ Aq [(.int .i64 Aq)] from rfl) (Aa.o p0) AGn A8 λB7 B8 B9 Ca Ba Bb Bc=>ATs<|ATu<|q_b<|q_t<|AS8<|ATn rfl rfl (AGm<|AGu ?_);exact ⟨(_,_,_,_),(AGo A9).symm,(Aa.uo p0 Bb Ba Bc),rfl,rfl,trivial⟩
  ·refine ATh<|ATi<|ATi<|AUf<|q_t<|AS8<|AGm<|AGm ?_;obtain ⟨Be,Bf⟩:=ifN<|Az _ (AGo<|AT5 Af Ag).symm;refine Aq9 ATb Aet rfl rfl trivial tt2 (λ_=>rfl) rfl (Aa.o p0) (Aa.o2 p1) (Aa.dj p0 p1 AGn) AGn Be λCb Cd Ce Cf Bg Bh Bi=>ATs<|ATu<|q_b<|q_t<|AS8<|ATn rfl rfl (AGm<|AGu ?_);exact ⟨(_,_,_,_,_,_),(AGo Bf).symm,(Aa.m2 p0 p1 AGn Bh Bg Bi).sel [1] AGn,rfl,rfl,trivial⟩
 ·refine ATh<|ATi<|ATi<|AUf<|q_t<|AGq<|AGm<|AGx<|AG1 ?_;obtain rfl:=AGo<|Ay _ (AGo<|AT5 Ad Ae).symm;exact ⟨_,AS5,Ab.x,_,_,_,_,rfl,(Ab.o2 p0),Ab.s.sel [0] AGn⟩
def AXt (fuel:Nat) (a3 a7:LiI) (a9:Int):Option (LiI × Int):=
 (((AWf fuel a3).bind λAd=>if (!Ad)=true then some (.inl ([],3)) else (AWf fuel a7).bind λAe=>if (!Ae)=true then some (.inl ([],3)) else (gI a3 0).bind λAf=>if ¬ (a3.length:Int)=(Af.length:Int) then some (.inl ([],3)) else if ¬ (a7.length:Int)=(a3.length:Int) then some (.inl ([],3)) else some<|.inr ()):Option ((LiI × Int) ⊕ Unit)).bind (λex=>match ex with | .inl Ag=>(some Ag) | .inr _=>(AXk fuel a9).bind λAh=>if (!Ah)=true then some ([],1) else (AYe fuel a7).bind λAi=>(AXl fuel a3 a7 a9).bind λAj=>(AXl fuel Ai Aj a9).bind λAk=>some (Ak,0))
theorem Ajy {Ax:Value} {Ay:Value} {a7:LiI} {a9:Int} {r:(LiI × Int)} (H2:AV4 (cI .i64) h Ax a3) (H6:AV4 (cI .i64) h Ay a7) (hp:AXt fuel a3 a7 a9=some r):ATz Tryz.prog 89 #[Ax,Ay,(.int .i64 a9)] h (λx h'=>Ext h h'/\ ∃ (x0:Value) (F0:List Nat) (Be:List LnA) (Bf:List Value),x= .tuple #[x0,.int .i64 r.2]/\AV8 (cI .i64) 61 2 h' F0 Be Bf x0 r.1/\Sp h' h.size [F0]):=by
 unfold AXt at hp;refine cwf (l:=[_,_,_]) Tryz.func89 rfl rfl (AGq<|ATs<|AGx ?_);have K0:=Kst.k0 h;obtain ⟨Bg,Bh,Ab⟩:=AGr hp;refine Aer 4294967232 (λx:Unit=>[]) (λx h'=>(Sum.inr <| ())=Bg/\Kst h h' (K0.L)) ?_ ?_
 ·refine AGq<|AGm ?_;obtain ⟨Bi,Bj,A6⟩:=AGr Bh;refine AVs K0 (Aei (H2.ext K0.x) Bj) λB3 B4 Ah=>AV5 rfl (AGm ?_);cases A7:(!Bi)
  ·refine ATc 11 false<|AGm<|ATc 11 false ?_;obtain ⟨Bl,Bm,A8⟩:=AGr<|AY5 A6 A7;refine AVs Ah (Aei (H6.ext Ah.x) Bm) λB5 B6 Ac=>ATc 11 false<|AV5 rfl (AS6 rfl (AGm ?_));cases A9:(!Bl)
   ·refine ATc 16 false<|AGm<|ATc 16 false<|AT3 ATb rfl H2 (ATc 16 false<|AGm<|ATc 16 false ?_);obtain ⟨Bn,Bo,Ba⟩:=AGr<|AY5 A8 A9;refine Alx ATb rfl H2 rfl Bo λB7 B8 B9 Bp Bq=>ATc 16 false<|AT6 ATq rfl (ATw Bp Ac.x) (ATc 16 false<|AUl ATa rfl Bq (ATc 16 false<|AVz rfl rfl (AS6 rfl (AGm ?_))));by_cases Ae: ¬ (a3.length:Int)=(Bn.length:Int)
    ·rw [decide_eq_true Ae];refine AY2 25 true<|ATf rfl (AGu<|ATx rfl (AGq<|ATs<|AGx ?_));obtain rfl:=AGo<|ifT Ba Ae;refine AG1<|ATd ?_;have Ai:=Kst.anil2 (cI .i64) 61 2 Ac;obtain rfl:=AGo Ab;exact ⟨_,AUp,Ai.x,_,_,_,_,rfl,(Ai.o2 p0),Ai.s.sel [0] AGn⟩
    ·have Bb:=ifF Ba Ae;rw [decide_eq_false Ae];refine ATc 25 false<|AGm<|ATc 25 false<|AT3 ATb rfl H6 (ATc 25 false<|AGm<|ATc 25 false<|AT3 ATb rfl H2 (ATc 25 false<|AVz rfl rfl (AS6 rfl (AGu<|⟨_,rfl,λAj=>?_,λAj=>?_⟩))))
     ·refine AGq<|ATs<|AGx ?_;obtain rfl:=AGo<|AT4 Bb Aj;refine AG1<|ATd ?_;have Ak:=Kst.anil2 (cI .i64) 61 2 Ac;obtain rfl:=AGo Ab;exact ⟨_,AUp,Ak.x,_,_,_,_,rfl,(Ak.o2 p0),Ak.s.sel [0] AGn⟩
     ·refine AG0<|q_t ?_;exact ⟨(():Unit),⟨AGo<|AT5 Bb Aj,Ac⟩,trivial⟩
   ·refine AY2 16 true<|Adc 16 true<|ATf rfl (AGm<|AY2 25 true<|ATf rfl (AGu<|ATx rfl (AGq<|ATs<|AGx ?_)));obtain rfl:=AGo<|ifT A8 A9;refine AG1<|ATd ?_;have Am:=Kst.anil2 (cI .i64) 61 2 Ac;obtain rfl:=AGo Ab;exact ⟨_,AUp,Am.x,_,_,_,_,rfl,(Am.o2 p0),Am.s.sel [0] AGn⟩
  ·refine AWi 11 true<|ATf rfl (AGm<|AY2 16 true<|Adc 16 true<|ATf rfl (AGm<|AY2 25 true<|ATf rfl (AGu<|ATx rfl (AGq<|ATs<|AGx ?_))));obtain rfl:=AGo<|ifT A6 A7;refine AG1<|ATd ?_;have Ao:=Kst.anil2 (cI .i64) 61 2 Ah;obtain rfl:=AGo Ab;exact ⟨_,AUp,Ao.x,_,_,_,_,rfl,(Ao.o2 p0),Ao.s.sel [0] AGn⟩
 rintro ⟨⟩ Ca Cb ⟨Br,Bt⟩;subst Br;refine AGs<|AGq<|AGm ?_;obtain ⟨Cd,Bu,Bc⟩:=AGr Ab;refine AVs Bt (Ag4 Bu) λCe Cf Ap=>AV5 rfl (AGu<|⟨_,rfl,λAq=>?_,λAq=>?_⟩)
 ·refine AGq<|ATs<|AGx<|AG1<|ATd ?_;have Ar:=Kst.anil2 (cI .i64) 61 2 Ap;obtain rfl:=AGo<|ifT Bc Aq;exact ⟨_,AUp,Ar.x,_,_,_,_,rfl,(Ar.o2 p0),Ar.s.sel [0] AGn⟩
 ·refine AG0<|q_t<|AGq<|AGm ?_;obtain ⟨Cg,Bv,Bw⟩:=AGr<|AY5 Bc Aq;refine Agx Ap (Akc (H6.ext Ap.x) Bv) λCh Ci Cj Ck Cm Cn Au=>AGm<|AGm<|AGm ?_;obtain ⟨Co,Bx,By⟩:=AGr Bw;refine Agx Au (Ag5 (H2.ext Au.x) (H6.ext Au.x) Bx) λCp Cq Cr Ct Cu Cv Av=>AGm ?_;obtain ⟨Cw,Bz,B1⟩:=AGr By;refine Agx Av (Ag5 (Av.o2 p1).rd (Av.o2 p0).rd Bz) λCx Cy Cz C0 C1 C2 Aw=>ATs<|AGx<|AG1 ?_;obtain rfl:=AGo B1;exact ⟨_,AUp,Aw.x,_,_,_,_,rfl,(Aw.o2 p0),Aw.s.sel [0] AGn⟩
def AZp (fuel:Nat) (a3:LiI):Option Bool:=
 (AWf fuel a3).bind λx5=>if x5=true then (gI a3 0).bind λAc=>if (a3.length:Int)=(Ac.length:Int) then some (decide ((a3.length:Int)<=8)) else some false else some false
theorem Alk {Ae:Value} {r:Bool} (H2:AV4 (cI .i64) h Ae a3) (hp:AZp fuel a3=some r):ATz Tryz.prog 141 #[Ae] h (λx h'=>Ext h h'/\x= .bool r):=by
 unfold AZp at hp;refine cwf (l:=[_]) Tryz.func141 rfl rfl (AGq<|AT2<|AGm ?_);have K0:=Kst.k0 h;obtain ⟨x5,Ak,Ag⟩:=AGr hp;refine AVs K0 (Aei (H2.ext K0.x) Ak) λh9 E8 Ab=>AGm ?_;cases Ah:x5
 ·refine AY2 5 false<|Adc 5 false<|AS6 rfl (AGm<|AWi 14 false<|AS6 rfl (AGx<|AG1 ?_));obtain rfl:=AGo<|AY5 Ag Ah;exact ⟨_,AS5,Ab.x,rfl⟩
 ·refine ATc 5 true<|AGm<|ATc 5 true<|AT3 ATb rfl H2 (ATc 5 true<|AGm<|ATc 5 true ?_);obtain ⟨Am,Ao,Ai⟩:=AGr<|ifT Ag Ah;refine Alx ATb rfl H2 rfl Ao λAv Aw Ax Ap Aq=>ATc 5 true<|AT6 ATq rfl (ATw Ap Ab.x) (ATc 5 true<|AUl ATa rfl Aq (ATc 5 true<|AU0 rfl rfl (ATf rfl (AGm ?_))));by_cases Ac:(a3.length:Int)=(Am.length:Int)
  ·rw [decide_eq_true Ac];refine ATc 14 true<|AGm<|ATc 14 true<|AT3 ATb rfl H2 (ATc 14 true<|Aqi rfl rfl (ATf rfl (AGx<|AG1 ?_)));obtain rfl:=AGo<|ifT Ai Ac;exact ⟨_,AS5,Ab.x,rfl⟩
  ·rw [decide_eq_false Ac];refine AWi 14 false<|AS6 rfl (AGx<|AG1 ?_);obtain rfl:=AGo<|ifF Ai Ac;exact ⟨_,AS5,Ab.x,rfl⟩
def AXg (fuel:Nat) (a3:LiI):Option Int:=
 (AWw fuel a3).bind λAb=>(AUd fuel Ab).bind λAc=>some Ac
theorem Ajh {Ab:Value} (H2:AV4 (cI .i64) h Ab a3) (hp:AXg fuel a3=some r):ATz Tryz.prog 144 #[Ab] h (λx h'=>Ext h h'/\ ∃ (x0:Value),x=x0/\ZZ h' x0 r):=by
 unfold AXg at hp;refine cwf (l:=[_]) Tryz.func144 rfl rfl (AGq<|AV6 (Kst.k0 h) [.bool false,.slice none 0 0] AYd λb5 h6 E8 Ae=>Aal<|AGm ?_);obtain ⟨Au,Ai,Aj⟩:=AGr hp;refine Agx Ae (Ac3 (H2.ext Ae.x) Ai) λAv Aw Ax v20 Ay Az Af=>?_;obtain ⟨A3,Ak,Am⟩:=AGr Aj;refine Ahs Af (AVw (Af.o2 p0).rd Ak) λA4 Ao A5 Ag=>AZf Ag p2 (ATk Ao) (Ag.z p0) λA6 Aa=>AGu<|AG1 ?_;obtain rfl:=AGo Am;exact ⟨_,AVk AUm (cZ.klen<|Aa.z p0) rfl (Aa.b p2),Aa.x,_,rfl,(Aa.z p0).2⟩
def AZy (fuel:Nat) (a3:LiI) (a5:Int):Option (Int × Int):=
 (AZp fuel a3).bind λx6=>if (!x6)=true then some (0,3) else (AXk fuel a5).bind λAd=>if (!Ad)=true then some (0,1) else (AWa fuel a3 a5).bind λAe=>(AXg fuel Ae).bind λAf=>(AZc fuel Af a5).bind λAg=>some (Ag,0)
theorem An2 {r:(Int × Int)} (H2:AV4 (cI .i64) h Ad a3) (hp:AZy fuel a3 a5=some r):ATz Tryz.prog 88 #[Ad,(.int .i64 a5)] h (λx h'=>Ext h h'/\x= .tuple #[.int .i64 r.1,.int .i64 r.2]):=by
 unfold AZy at hp;refine cwf (l:=[_,_]) Tryz.func88 rfl rfl (AGq<|ATs<|AGx<|AGs<|AGq<|AGm ?_);have K0:=Kst.k0 h;obtain ⟨x6,Ap,Ai⟩:=AGr hp;refine AVs K0 (Alk (H2.ext K0.x) Ap) λA4 E9 Aj=>AV5 rfl (AGu<|⟨_,rfl,λAa=>?_,λAa=>?_⟩)
 ·refine AGq<|ATs<|AGx<|AG1<|ATd ?_;obtain rfl:=AGo<|ifT Ai Aa;exact ⟨_,AUp,Aj.x,rfl⟩
 ·refine AG0<|q_t<|AGs<|AGq<|AGm ?_;obtain ⟨A6,Aq,Ak⟩:=AGr<|AY5 Ai Aa;refine AVs Aj (Ag4 Aq) λA7 A8 Ab=>AV5 rfl (AGu<|⟨_,rfl,λAc=>?_,λAc=>?_⟩)
  ·refine AGq<|ATs<|AGx<|AG1<|ATd ?_;obtain rfl:=AGo<|ifT Ak Ac;exact ⟨_,AUp,Ab.x,rfl⟩
  ·refine AG0<|q_t<|AGq<|AGm<|AGm ?_;obtain ⟨A9,Ar,Au⟩:=AGr<|AY5 Ak Ac;refine Agx Ab (Adu (H2.ext Ab.x) Ar) λBa Bb Bc Be Bf Bg Am=>?_;obtain ⟨Bh,Av,Aw⟩:=AGr Au;refine Ahs Am (Ajh (Am.o2 p0).rd Av) λBi Bj Bl Ao=>AGm ?_;obtain ⟨Bm,Ax,Ay⟩:=AGr Aw;refine AVs Ao (Alb (Ao.z p0).2 Ax) λBn Bo Az=>ATs<|AGx<|AG1 ?_;obtain rfl:=AGo Ay;exact ⟨_,AUp,Az.x,rfl⟩
end Go.Proofs.YtkakafabeobahaaGreatDoor
namespace Go.QF
theorem Apt:∀ {n:Nat} {m:Int} {F G:AS9},(∀ i j,i < n->j < n->Eqm m (F i j) (G i j))->Eqm m (det n F) (det n G):=by
 intro n m
 induction n with
 | zero=>intro _ _ _;rfl
 | succ n ih=>
   intro F G h
   refine Eqm.psum λi hi=>?_
   exact ((Eqm.refl _ _).mul (h i 0 hi AGl)).mul (ih (F:=AYi i F) (G:=AYi i G) λa b ha hb=>h _ _ (A73 ha) AGl)
theorem A47 {n c:Nat} {m:Int} (hc:c < n) (hi:i < n) (hne:c≠i):Eqm m (det n<|Amq F c i q m) (-det n F):=by
 rw [<- Afg (F:=F) hc hi hne (-q),<- Ajw (F:=AUw F c λx=>F c x + -q * F i x) hc hi hne];refine Apt λa b ha hb=>?_;unfold Amq;rw [Adx,Adx];simp only [AUb]
 have key:Eqm m ((F c b + (m - q) * F i b) % m) (F c b + -q * F i b):=by
  refine (Eqm.mod _ _).trans ?_;unfold Eqm;rw [show F c b + (m - q) * F i b=F c b + -q * F i b + m * F i b by grind,Int.add_mul_emod_self_left]
 split
 ·split <;> first | exact key | rfl
 ·split
  ·split <;> first | exact key | rfl
  ·first | rfl | exact key
theorem A8q {m s:Int}:∀ n,Eqm m (Anh F m s n) (s * AZ2 (λi=>F i i) n):=by
 intro n
 induction n with
 | zero=>unfold Anh AZ2 Eqm;rw [Int.add_emod_right,Int.mul_one]
 | succ n ih=>
   unfold Anh AZ2
   refine (Eqm.mod _ _).trans ?_
   rw [<- Int.mul_assoc]
   exact ((Eqm.mod _ _).trans ih).mul (Eqm.refl _ _)
def BEo (M:List (List Int)) (m:Int):Int:=if Aip M && As3 m then det M.length (ent M) % m else 0
def BEp (M:List (List Int)) (m:Int):Int:=if Aip M then (if As3 m then 0 else 1) else 3
end Go.QF
namespace Go.Proofs.YtkakafabeobahaaGreatDoor
open Go Go.QF
end Go.Proofs.YtkakafabeobahaaGreatDoor
namespace Go.Proofs.YtkakafabeobahaaGreatDoor
open Go Go.QF
theorem BEr {m:Int} (hm:0 < m) (Ab:m<=2147483647):Abk fuel a m=some (a % m):=by
 unfold Abk;rw [if_pos AGl];have h1:=Int.tmod_lt_of_pos a hm
 have h2: -m < Int.tmod a m:=by
  have:=Int.tmod_lt_of_pos (-a) hm
  rw [Int.neg_tmod] at this;omega
 have h3:Int.tmod a m=a % m∨Int.tmod a m=a % m - m:=by
  grind
 have h4:=Int.emod_nonneg a (by omega:m≠0);have h5:=Int.emod_lt_of_pos a hm;rcases h3 with h3 | h3
 ·grind
 ·rw [if_pos AGl,wk AGl];congr 1;omega
theorem A3f {A:List (List Int)} (hf:21 < fuel):AWf fuel A=some (Aj5 A):=by
 apply ok_eq;unfold AWf;have hbad:∀ h: ¬ Valid A,Aj5 A=false:=λh=>(A6d h).symm;refine AGw (Q:=λex=>match ex with | .inl e=>e=false/\Aj5 A=false | .inr _=>1<=A.length/\A.length<=16) (ATj (λh=>AGp ⟨rfl,hbad λhv=>by have:=hv.1;omega⟩) λh=>ATj (λh2=>AGp ⟨rfl,hbad λhv=>by have:=hv.2.1;omega⟩) λh2=>AGp ⟨AGl,AGl⟩) λex hex=>?_
 cases ex with
 | inl e=>exact AGp (hex.1.trans hex.2.symm)
 | inr u=>
   dsimp only at hex ⊢
   obtain ⟨z0,Ac⟩:∃ z,A[0]? =some z:=⟨A[0]'AGl,List.getElem?_eq_getElem _⟩
   have hc:=Akp Ac
   refine AGw (AT8 (λi (s:Int)=>s=(i:Int)/\ ∀ z∈A.take i,1<=z.length/\z.length<=16/\z.length=Agp A) A.length (Q:=λex=>match ex with | .inl e=>e=false/\Aj5 A=false | .inr _=>Aj5 A=true) ⟨rfl,AT7⟩ AGl λi s hi hI=>?_) λex Ab=>?_
   ·obtain ⟨rfl,hI⟩:=hI
    unfold Aeh
    refine ATj (λh=>?_) λh=>AGp ?_
    ·have hi':i < A.length:=by omega
     obtain ⟨row,hrow⟩:∃ row,A[i]? =some row:=⟨A[i],List.getElem?_eq_getElem hi'⟩
     have bad: ¬ (1<=row.length/\row.length<=16/\row.length=Agp A)->Aj5 A=false:=λhb=>hbad λhv=>hb (by have:=hv.2.2.2.2 row<|List.mem_of_getElem? hrow;have:=hv.2.2.1;have:=hv.2.2.2.1;omega)
     refine ATy hrow rfl (ATy Ac rfl (ATj (λh1=>AGp ⟨rfl,bad AGl⟩) λh1=>ATj (λh2=>AGp ⟨rfl,bad AGl⟩) λh2=>ATj (λh3=>AGp ⟨rfl,bad AGl⟩) λh3=>AGp ⟨hi',wk AGl,?_⟩))
     rw [List.take_add_one,hrow]
     grind
    ·obtain rfl:i=A.length:=by omega
     rw [List.take_length] at hI
     refine (A6e ⟨hex.1,hex.2,?_,?_,λz hz=>(hI z hz).2.2⟩).symm
     ·grind
     grind
   ·cases ex with
    | inl e=>exact AGp (Ab.1.trans Ab.2.symm)
    | inr u=>exact AGp Ab.symm
theorem A48 {row:List Int} {m:Int} (hm:0 < m) (Aa:m<=2147483647) (hl:row.length<=100000000) (hf:row.length < fuel):iter (λs=>AZ5 fuel m row s.1 s.2) fuel ([],0)=some (row.map (· % m)):=by
 apply ok_eq;refine AT8 (λi s=>s=((row.take i).map (· % m),(i:Int))) row.length AT7 hf λi s hi hI=>?_;subst hI;unfold AZ5;dsimp only;refine ATj (λh=>?_) λh=>AGp ?_
 ·obtain ⟨x,hx⟩:∃ x,row[i]? =some x:=⟨row[i]'AGl,List.getElem?_eq_getElem _⟩;refine ATy hx rfl (AGw (AUa<|BEr hm Aa) λy hy=>AVc (by simp;omega)<|AGp ⟨AGl,?_⟩);subst hy;rw [wk AGl,List.take_add_one,hx];simp
 grind
theorem Az2 {A:List (List Int)} {m:Int} (hm:0 < m) (Aa:m<=2147483647) (hl:A.length<=100000000) (hf:A.length < fuel) (hr:∀ z∈A,z.length<=100000000/\z.length < fuel):AWa fuel A m=some (Ajt A m):=by
 apply ok_eq;unfold AWa;refine AGw (AT8 (λi s=>s=(Ajt (A.take i) m,(i:Int))) A.length (Q:=(· =Ajt A m)) (by simp [Ajt]) hf λi s hi hI=>?_) λx hx=>AGp hx;subst hI;unfold Adt;dsimp only;refine ATj (λh=>?_) λh=>AGp ?_
 ·have hi':i < A.length:=by omega
  obtain ⟨row,hrow⟩:∃ row,A[i]? =some row:=⟨A[i],List.getElem?_eq_getElem hi'⟩;have:=hr row<|List.mem_of_getElem? hrow;refine ATy hrow rfl (AGw (AUa<|A48 hm Aa this.1 this.2) λy hy=>AVc (by simp [Ajt];omega)<|AGp ⟨hi',?_⟩);subst hy;rw [wk AGl,List.take_add_one,hrow];simp [Ajt]
 grind
theorem Awu {m:Int}:AXk fuel m=some (As3 m):=by
 unfold AXk As3;grind
theorem A8r {A:List (List Int)} (hf:21 < fuel):AZp fuel A=some (Aip A):=by
 apply ok_eq;unfold AZp;refine AGw (AUa<|A3f hf) λv hv=>?_;subst hv;refine ATj (λh=>?_) λh=>AGp ?_
 ·have hv:Valid A:=by simpa [Aj5] using h
  obtain ⟨z0,Ab⟩:∃ z,A[0]? =some z:=⟨A[0]'(by have:=hv.1;omega),List.getElem?_eq_getElem _⟩;have hc:=Akp Ab;refine ATy Ab rfl (ATj (λh2=>AGp ?_) λh2=>AGp ?_)
  ·unfold Aip;rw [Bool.eq_iff_iff];simp only [decide_eq_true_eq];constructor
   ·intro h3;exact ⟨hv,AGl,AGl⟩
   ·intro h3;have:=h3.2.2;omega
  ·symm;unfold Aip;rw [decide_eq_false_iff_not];intro h3;have:=h3.2.1;omega
 ·symm;unfold Aip;rw [decide_eq_false_iff_not];intro h3;exact h (by simpa [Aj5] using h3.1)
theorem A49 {m:Int} (hm:0 < m) (Aa:m<=2147483647) (hd:d.natAbs < AWk):AZc fuel d m=some (d % m):=by
 have h4:=Int.emod_nonneg d (by omega:m≠0);have h5:=Int.emod_lt_of_pos d hm;have hb:m.natAbs < AWk:=Nat.lt_of_lt_of_le (show m.natAbs < 2147483648 by omega) AGn;unfold AZc Aen;rw [if_pos AGl];show (AW7 fuel d m).bind _=_;unfold AW7 Ams;rw [if_pos ⟨hd,hb,AGl⟩];show (Apl fuel<|d % m).bind _=_;unfold Apl;grind
theorem As0 {A:List (List Int)} {m:Int} (hm:0 < m) (Aa:m<=2147483647) (i j:Nat):(ent (Ajt A m) i j).natAbs<=m63:=by
 rw [A2k];have h4:=Int.emod_nonneg (ent A i j) (by omega:m≠0);have h5:=Int.emod_lt_of_pos (ent A i j) hm;unfold m63;omega
theorem Au0 {A:List (List Int)} {m:Int} (h:Aip A=true):Ajt A m=tab A.length A.length (ent<|Ajt A m)/\okM (Ajt A m)=true/\A.length<=8/\1<=A.length:=by
 have hs:At2 A:=by simpa [Aip] using h
 obtain ⟨hv,h1,h2⟩:=hs
 have hr:∀ z∈Ajt A m,z.length=A.length:=λz hz=>by
  obtain ⟨y,hy,rfl⟩:=List.mem_map.1 hz
  rw [List.length_map,hv.2.2.2.2 y hy];omega
 refine ⟨?_,?_,h2,hv.1⟩
 ·have:=Ar0 hr;rwa [A2j] at this
 ·unfold okM;rw [decide_eq_true_eq,A2j];refine ⟨hv.1,AGl,λz hz=>?_⟩;rw [hr z hz,A6j];exact ⟨hv.1,AGl,h1⟩
theorem A1z {A:List (List Int)} {m:Int} (hf:21 < fuel) (hs:Aip A=true) (hm:As3 m=true):AXg fuel (Ajt A m)=some (det A.length<|ent<|Ajt A m):=by
 have hm':2<=m/\m<=2147483647:=by simpa [As3] using hm
 obtain ⟨ht,hok,h8,h1⟩:=Au0 (m:=m) hs;unfold AXg
 have hr:∀ z∈Ajt A m,∀ x∈z,-9223372036854775808<=x/\x<=9223372036854775807:=λz hz x hx=>by
  obtain ⟨y,hy,rfl⟩:=List.mem_map.1 hz
  obtain ⟨w,hw,rfl⟩:=List.mem_map.1 hx
  have h4:=Int.emod_nonneg w (by omega:m≠0)
  have h5:=Int.emod_lt_of_pos w (by omega:0 < m)
  omega
 rw [BDc hr AGl,hok];show (AUd fuel<|Ajt A m).bind _=_;have:=BEh (fuel:=fuel) (n:=A.length) (F:=ent<|Ajt A m) AGl (λi j=>As0 AGl AGl i j) AGl;grind
theorem BB4 {A:List (List Int)} {m:Int} {n:Nat} (hm:0 < m) (Aa:m<=2147483647) (hn:n<=16):(det n<|ent<|Ajt A m).natAbs < AWk:=A8d<|Nat.le_trans (Arh λi j=>As0 hm Aa i j) (A8e hn).1
theorem Az3 {A:List (List Int)} {m:Int} {n:Nat}:det n (ent<|Ajt A m) % m=det n (ent A) % m:=Apt λi j _ _=>by rw [A2k];exact Eqm.mod _ _
theorem A8s {A:List (List Int)} {m:Int} (hf:21 < fuel) (hl:A.length<=20/\ ∀ z∈A,z.length<=20):AZy fuel A m=some (BEo A m,BEp A m):=by
 apply ok_eq;unfold AZy BEo BEp;refine AGw (AUa<|A8r hf) λv hv=>?_;subst hv
 cases hs:Aip A with
 | false=>exact AGp rfl
 | true=>
   refine ATj (λh=>by cases h) λ_=>AGw (AUa Awu) λv hv=>?_
   subst hv
   cases hm:As3 m with
   | false=>exact AGp rfl
   | true=>
     have hm':2<=m/\m<=2147483647:=by simpa [As3] using hm
     refine ATj (λh=>by cases h) λ_=>AGw (AUa<|Az2 AGl AGl AGl AGl λz hz=>by grind) λR hR=>?_
     subst hR
     refine AGw (AUa<|A1z hf hs hm) λd hd=>?_
     subst hd
     obtain ⟨ht,hok,h8,h1⟩:=Au0 (m:=m) hs
     refine AGw (AUa<|A49 AGl AGl<|BB4 AGl AGl AGl) λx hx=>AGp ?_
     subst hx
     rw [Az3];rfl
end Go.Proofs.YtkakafabeobahaaGreatDoor
namespace Go.QF
def BEs (n:Nat) (F:AS9) (i j:Nat):Int:=det n<|AUw F i<|dl j
def Au1 (n:Nat) (F:AS9) (i j:Nat):Int:=BEs n F j i
def tau (j c:Nat):Nat:=if c=j then j + 1 else if c=j + 1 then j else c
theorem Az4 {n:Nat} (hj:j + 1 < n):det n (λr c=>F r<|tau j c)= -det n F:=by
 rw [<- Aj9 (λr c=>F r<|tau j c),<- Aj9 F,<- Ajw (F:=trF F) (a:=j) (b:=j + 1) AGl hj AGl];refine AU6 λc r hc hr=>?_;rw [Adx];show F r (tau j c)=if c=j + 1 then F r j else if c=j then F r (j + 1) else F r c;unfold tau;by_cases h1:c=j + 1
 ·subst h1;simp
 ·by_cases h2:c=j
  ·subst h2;simp
  ·simp [h1,h2]
theorem Aji {n a:Nat} (ha:a < n) (h:∀ i,i < n->i≠a->f i=0):psum f n=f a:=by
 rw [AUi (g:=λi=>if i=a then f a else 0) λk hk=>?_,Ae3 ha λi hi=>if_neg hi,if_pos rfl];by_cases e:k=a
 ·subst e;rw [if_pos rfl]
 ·rw [if_neg e,h k hk e]
theorem BB5 {n:Nat} (hi:i < n) (hj:j < n):psum (λk=>F i k * BEs n F j k) n=if i=j then det n F else 0:=by
 have h:=Auo (F:=F) hj (F i) dl n
 have e:det n (AUw F j λq=>psum (λk=>F i k * dl k q) n)=det n (AUw F j<|F i):=AU6 λr c _ hc=>by
  rw [AUb,AUb]
  split
  ·exact A1q (F:=F) (i:=i) hc
  ·rfl
 unfold BEs;rw [<- h,e];split
 ·subst_vars
  refine AU6 λr c _ _=>?_;rw [AUb];split
  ·subst_vars;rfl
  ·rfl
 ·rename_i hij;refine Aig hi hj hij ?_;funext c;rw [AUb,if_neg hij,AUb,if_pos rfl]
theorem A5a {n:Nat} (hi:i < n) (hj:j < n):psum (λk=>F i k * Au1 n F k j) n=det n F * dl i j:=by
 unfold Au1;rw [BB5 hi hj];unfold dl;split <;> simp
end Go.QF
namespace Go.Proofs.YtkakafabeobahaaGreatDoor
open Go Go.QF
theorem Az5 {n r c:Nat} {f g:Nat->Nat} (hr:r<=100) (hc:c<=100) (hf:100 < fuel) (hfn:∀ a,a < r->f a < n) (hgn:∀ a,a < c->g a < n):AXy fuel (tab n n F) (AU9 r λa=>(f a:Int)) (AU9 c λa=>(g a:Int))=some (tab r c λa b=>F (f a)<|g b):=by
 apply ok_eq;unfold AXy;refine AGw (AT8 (λi s=>s=(AU9 i λa=>AU9 c λb=>F (f a)<|g b,(i:Int))) r (Q:=(· =tab r c λa b=>F (f a)<|g b)) rfl AGl λi s hi hI=>?_) λy hy=>AGp hy;subst hI;unfold Adm;dsimp only;rw [AT1];refine ATj (λh=>?_) λh=>AGp ?_
 ·have hi':i < r:=by omega
  refine ATy (ATm hi') rfl (AGw (AT8 (λj s=>s=(AU9 j λb=>F (f i)<|g b,(j:Int))) c (Q:=(· =AU9 c λb=>F (f i)<|g b)) rfl AGl λj s hj hJ=>?_) λe he=>AVc (by rw [AT1];omega)<|AGp ⟨hi',?_⟩)
  ·subst hJ;unfold Adl;dsimp only;rw [AT1,AT1];refine ATj (λh2=>?_) λh2=>AGp ?_
   ·have hj':j < c:=by omega
    refine ATy (ATm hj') rfl (ATy (ATv<|hfn i hi') rfl (ATy (ATm<|hgn j hj') rfl (AVc AGl<|AGp ⟨hj',?_⟩)));rw [wk AGl,<- Aie];rfl
   ·obtain rfl:j=c:=by omega
    rfl
  ·subst he;rw [wk AGl,<- Aie];rfl
 ·obtain rfl:i=r:=by omega
  rfl
theorem Awv {n:Nat} (hn:1<=n) (Ad:n<=16) (hf:100 < fuel):AWx fuel (tab n n F)=some ((n:Int),true):=by
 apply ok_eq;unfold AWx;refine AGw (Q:=(· =((n:Int),(n:Int),true))) ?_ λe he=>?_
 ·unfold AU8;rw [ATt];refine AGw (Q:=λex=>match ex with | .inl _=>False | .inr _=>True) (ATj (λh=>by omega) λh=>ATj (λh2=>by omega) λh2=>AGp trivial) λex hex=>?_
  cases ex with
  | inl e=>exact hex.elim
  | inr u=>
    dsimp only
    refine AGw (AT8 (λi (s:Int)=>s=i) n (Q:=λex=>match ex with | .inl _=>False | .inr _=>True) rfl AGl λi s hi hI=>?_) λex hex=>?_
    ·subst hI
     unfold AYs
     rw [ATt]
     refine ATj (λh=>ATy (ATv AGl) rfl ?_) λh=>AGp trivial
     rw [AT1]
     refine ATj (λh2=>by omega) λh2=>ATj (λh3=>by omega) λh3=>ATy (n:=0) (ATv AGl) rfl (ATj (λh4=>?_) λh4=>AGp ⟨AGl,wk AGl⟩)
     rw [AT1] at h4;omega
    ·cases ex with
     | inl e=>exact hex.elim
     | inr u=>exact ATy (n:=0) (ATv AGl) rfl (AGp<|by rw [AT1])
 ·subst he;dsimp only;exact ATj (λh=>by cases h) λ_=>ATj (λh=>absurd rfl h) λ_=>AGp rfl
end Go.Proofs.YtkakafabeobahaaGreatDoor
namespace Go.QF
def Af8 (n:Nat) (A:AS9):Prop:= ∀ i j,i < n->j < n->A i j=A j i
def Ahx (n:Nat) (A:AS9):Prop:= ∀ k,k<=n->0 < det k A
theorem Akd {r n:Nat} (hk:k<=n) (hi:i < n):bro k i r < n:=by unfold bro;split <;> omega
theorem A10 {n:Nat} (hs:Af8 n A) (hk:k<=n) (hi:i < n) (hj:j < n):Mn k A i j=Mn k A j i:=by
 unfold Mn;rw [<- Aj9];refine AU6 λr c _ _=>?_;exact hs _ _ (Akd hk hi)<|Akd hk hj
theorem A11 (A:AS9) (j:Nat) (hi:i < k):Mn k A i j=0:=by
 unfold Mn;refine Aig (a:=i) (b:=k) AGl AGl AGl ?_;funext c;unfold bro;simp [hi]
def bil (n k:Nat) (A:AS9) (x y:Nat->Int):Int:=psum (λi=>psum (λj=>Mn k A i j * x i * y j) n) n
def lin (n k:Nat) (A:AS9) (x:Nat->Int):Int:=psum (λj=>Mn k A k j * x j) n
theorem A5b (f g:Nat->Int) (n:Nat):psum (λi=>psum (λj=>f i * g j) n) n=psum f n * psum g n:=by
 rw [AUi (g:=λi=>psum g n * f i) (λi _=>by rw [AZb,Int.mul_comm]),AZb,Int.mul_comm]
theorem BHb {n:Nat} (hs:Af8 n A) (hk:k < n) (h0:det k A≠0) (x y:Nat->Int):det (k + 1) A * bil n k A x y=lin n k A x * lin n k A y + det k A * bil n (k + 1) A x y:=by
 unfold bil;rw [<- AZb,<- AZb];have e1:lin n k A x * lin n k A y=psum (λi=>psum (λj=>Mn k A k i * x i * (Mn k A k j * y j)) n) n:=(A5b (λi=>Mn k A k i * x i) (λj=>Mn k A k j * y j) n).symm;rw [e1,<- Agz];refine AUi λi hi=>?_;rw [<- AZb,<- AZb,<- Agz];refine AUi λj hj=>?_;have h:=Apr (k:=k) (A:=A) h0 i j;rw [Aep,A10 hs AGl hi hk] at h;grind
theorem BB6 (n:Nat) (A:AS9) (x y:Nat->Int):bil n n A x y=0:=by
 unfold bil;rw [AUi (g:=λ_=>0) λi hi=>?_]
 ·exact Akn n
 ·rw [AUi (g:=λ_=>0) λj _=>by rw [A11 A j hi];simp];exact Akn n
theorem Alc {n:Nat} (hs:Af8 n A) (hp:Ahx n A) (x:Nat->Int):∀ d k,k + d=n->0<=bil n k A x x:=by
 intro d
 induction d with
 | zero=>
    intro k hk;obtain rfl:k=n:=by omega
    rw [BB6];omega
 | succ d ih=>
   intro k hk
   have h1:=ih (k + 1) AGl
   have h2:=hp k AGl
   have h3:=hp (k + 1) AGl
   have h4:=BHb hs (show k < n by omega) AGl x x
   have h5:0<=lin n k A x * lin n k A x:=by
    rcases Int.le_total 0 (lin n k A x) with h | h
    ·exact Int.mul_nonneg h h
    ·exact Int.mul_nonneg_of_nonpos_of_nonpos h h
   have h6:=Int.mul_nonneg (Int.le_of_lt h2) h1
   exact Int.nonneg_of_mul_nonneg_right AGl h3
theorem Ax0 {n:Nat} (a b:Int) (x y z:Nat->Int):bil n k A (λi=>a * x i + b * y i) z=a * bil n k A x z + b * bil n k A y z:=by
 unfold bil;rw [<- AZb,<- AZb,<- Agz];refine AUi λi _=>?_;rw [<- AZb,<- AZb,<- Agz];grind
theorem Ax1 {n:Nat} (hs:Af8 n A) (hk:k<=n) (x y:Nat->Int):bil n k A x y=bil n k A y x:=by
 unfold bil;rw [Ar7];refine AUi λj hj=>AUi λi hi=>?_;rw [A10 hs hk hi hj];grind
theorem A8t {n:Nat} (hs:Af8 n A) (hp:Ahx n A) (hk:k<=n) (x y:Nat->Int):bil n k A x y * bil n k A x y<=bil n k A x x * bil n k A y y:=by
 obtain ⟨p,hpq⟩:∃ p,bil n k A x y=p:=⟨_,rfl⟩;obtain ⟨q,hq⟩:∃ q,bil n k A x x=q:=⟨_,rfl⟩;obtain ⟨r,hr⟩:∃ r,bil n k A y y=r:=⟨_,rfl⟩;have hyx:bil n k A y x=p:=by rw [Ax1 hs hk];exact hpq
 have key:∀ a b:Int,0<=a * (a * q + b * p) + b * (a * p + b * r):=λa b=>by
  have h:=Alc hs hp (λi=>a * x i + b * y i) (n - k) k AGl;rw [Ax0,Ax1 hs hk x λi=>a * x i + b * y i,Ax0,Ax1 hs hk y λi=>a * x i + b * y i,Ax0,hpq,hq,hr,hyx] at h;exact h
 rw [hpq,hq,hr];have hq0:0<=q:=hq ▸ Alc hs hp x (n - k) k AGl
 rcases Int.lt_or_eq_of_le hq0 with h | h
 ·have h1:=key p<|-q;have e:p * (p * q + -q * p) + -q * (p * p + -q * r)=q * (q * r - p * p):=by grind
  rw [e] at h1;have:=Int.nonneg_of_mul_nonneg_right h1 h;omega
 ·subst h;have h1:=key (-(r + 1)) p;have h2:=key 1 0;have e: -(r + 1) * (-(r + 1) * 0 + p * p) + p * (-(r + 1) * p + p * r)= -((r + 2) * (p * p)):=by grind
  rw [e] at h1;have hr0:0<=r:=hr ▸ Alc hs hp y (n - k) k AGl
  have hpp:0<=p * p:=by
   rcases Int.le_total 0 p with h | h
   ·exact Int.mul_nonneg h h
   ·exact Int.mul_nonneg_of_nonpos_of_nonpos h h
  have:0<=r * (p * p):=Int.mul_nonneg hr0 hpp;grind
theorem Arm {n:Nat} (hi:i < n) (hj:j < n):bil n k A (dl i) (dl j)=Mn k A i j:=by
 unfold bil;rw [Aji hi λa ha hne=>?_,Aji hj λb hb hne=>?_]
 ·simp [dl]
 ·unfold dl;grind
 ·rw [AUi (g:=λ_=>0) λb _=>by unfold dl;grind];exact Akn n
theorem Asf {n:Nat} (hs:Af8 n A) (hp:Ahx n A) (hk:k<=n) (hi:i < n) (hj:j < n):Mn k A i j * Mn k A i j<=Mn k A i i * Mn k A j j:=by
 have:=A8t hs hp hk (dl i)<|dl j;rwa [Arm hi hj,Arm hi hi,Arm hj hj] at this
theorem Asg {n:Nat} (hs:Af8 n A) (hp:Ahx n A) (hk:k<=n) (hi:i < n):0<=Mn k A i i:=by
 have:=Alc hs hp (dl i) (n - k) k AGl;rwa [Arm hi hi] at this
theorem Ax2 {n:Nat} (hs:Af8 n A) (hp:Ahx n A) (hk:k < n) (hi:i < n):det (k + 1) A * Mn k A i i=Mn k A i k * Mn k A i k + det k A * Mn (k + 1) A i i:=by
 have h:=Apr (k:=k) (A:=A) (by have:=hp k AGl;omega) i i;rw [Aep,<- A10 hs AGl hi hk] at h;omega
theorem A8u {n:Nat} (hs:Af8 n A) (hp:Ahx n A) (hi:i < n):∀ k,k<=n->Mn k A i i<=det k A * A i i:=by
 intro k
 induction k with
 | zero=>intro _;rw [Aiz];simp [det]
 | succ k ih=>
   intro hk
   have h1:=ih AGl
   have h2:=Ax2 hs hp (show k < n by omega) hi
   have h3:0<=Mn k A i k * Mn k A i k:=by
    rcases Int.le_total 0 (Mn k A i k) with h | h
    ·exact Int.mul_nonneg h h
    ·exact Int.mul_nonneg_of_nonpos_of_nonpos h h
   have h4:=hp k AGl
   have h5:=hp (k + 1) AGl
   have h6:det (k + 1) A * Mn k A i i<=det (k + 1) A * (det k A * A i i):=Int.mul_le_mul_of_nonneg_left h1 AGl
   have h7:det k A * Mn (k + 1) A i i<=det k A * (det (k + 1) A * A i i):=by
    grind
   simp_all
theorem A8v {n:Nat} (hs:Af8 n A) (hp:Ahx n A) {B:Int} (hB:1<=B) (hA:∀ i,i < n->A i i<=B):∀ k,k<=n->det k A<=B ^ k:=by
 intro k;induction k with
 | zero=>intro _;simp [det]
 | succ k ih=>
   intro hk;have h1:=ih AGl;have h2:=A8u hs hp (show k < n by omega) k AGl;rw [Aep] at h2;have h3:=hp k AGl;have h4:det k A * A k k<=det k A * B:=Int.mul_le_mul_of_nonneg_left (hA k AGl) AGl;have h5:det k A * B<=B ^ k * B:=Int.mul_le_mul_of_nonneg_right h1 AGl;grind
theorem BB7 {n:Nat} (hs:Af8 n A) (hp:Ahx n A) (x:Nat->Int) (hk:k < n):x k * x k<=Au1 n A k k * bil n 0 A x x:=by
 have hd:=hp n<|Nat.le_refl _
 have hB:∀ y z:Nat->Int,bil n 0 A y z=psum (λi=>y i * psum (λj=>A i j * z j) n) n:=λy z=>by
  unfold bil;refine AUi λi _=>?_;rw [<- AZb];exact AUi λj _=>by rw [Aiz];grind
 have h1:∀ y:Nat->Int,bil n 0 A y (λj=>Au1 n A j k)=det n A * y k:=λy=>by
  rw [hB,AUi (g:=λi=>y i * (det n A * dl i k)) λi hi=>by rw [A5a hi hk]];rw [Aji hk (λi _ hne=>by unfold dl;grind)];simp [dl,Int.mul_comm]
 have h2:=A8t hs hp (Nat.zero_le n) x λj=>Au1 n A j k;rw [h1 x,h1 λj=>Au1 n A j k] at h2;have e1:det n A * x k * (det n A * x k)=det n A * (det n A * (x k * x k)):=by grind
 have e2:bil n 0 A x x * (det n A * Au1 n A k k)=det n A * (Au1 n A k k * bil n 0 A x x):=by grind
 rw [e1,e2] at h2;have h3:=Int.le_of_mul_le_mul_left h2 hd
 have h4:0<=x k * x k:=by
  rcases Int.le_total 0 (x k) with h | h
  ·exact Int.mul_nonneg h h
  ·exact Int.mul_nonneg_of_nonpos_of_nonpos h h
 have h5:1 * (x k * x k)<=det n A * (x k * x k):=Int.mul_le_mul_of_nonneg_right AGl h4;omega
def Ash (A:AS9) (i j:Nat) (c:Int):AS9:=AUw A i λs=>A i s + c * A j s
def A8w (A:AS9) (i j:Nat) (c:Int):AS9:=trF<|Ash (trF A) i j c
def Arn (A:AS9) (i j:Nat) (c:Int):AS9:=A8w (Ash A i j c) i j c
def swA (A:AS9) (j:Nat):AS9:=λr s=>A (tau j r)<|tau j s
theorem A8y (l:Nat) (A:AS9) (r s:Nat):Mn l (trF A) s r=Mn l A r s:=by
 unfold Mn;rw [<- Aj9];rfl
theorem Az6 {c:Int} (hij:j < i):det k (Ash A i j c)=det k A:=by
 rcases Nat.lt_or_ge i k with h | h
 ·exact Afg h AGl AGl c
 ·refine AU6 λr s hr _=>?_;unfold Ash;rw [AUb,if_neg AGl]
theorem A8z {c:Int} (hij:j < i):det k (A8w A i j c)=det k A:=by
 unfold A8w;rw [Aj9,Az6 hij,Aj9]
theorem Ajp {c:Int} (hij:j < i):det k (Arn A i j c)=det k A:=by
 unfold Arn;rw [A8z hij,Az6 hij]
theorem Ax3 {r:Nat} {c:Int} (hij:j < i) (hr:l<=r):Mn l (Ash A i j c) r s=Mn l A r s + if l<=i/\r=i then c * Mn l A j s else 0:=by
 rcases Nat.lt_or_ge i l with h | h
 ·rw [if_neg AGl,Int.add_zero];unfold Mn;have e:=Afg (n:=l + 1) (F:=λa b=>A (bro l r a)<|bro l s b) (a:=i) (b:=j) AGl AGl AGl c;rw [<- e];refine AU6 λa b ha _=>?_;rw [AUb];unfold Ash;rw [AUb];have hbi:bro l r i=i:=by unfold bro;rw [if_pos h]
  have hbj:bro l r j=j:=by unfold bro;grind
  by_cases ea:a=i
  ·grind
  ·rw [if_neg ea,if_neg];unfold bro;split <;> omega
 ·by_cases er:r=i
  ·subst er;rw [if_pos ⟨h,rfl⟩];unfold Mn;have e:=Anv (n:=l + 1) (F:=λa b=>A (bro l r a)<|bro l s b) (r:=l) (λb=>A r<|bro l s b) (λb=>A j<|bro l s b) 1 c AGl
   have e1:det (l + 1) (λa b=>Ash A r j c (bro l r a)<|bro l s b)=det (l + 1) (AUw (λa b=>A (bro l r a)<|bro l s b) l λq=>1 * A r (bro l s q) + c * A j (bro l s q)):=by
    refine AU6 λa b ha _=>?_
    rw [AUb]
    unfold Ash
    rw [AUb]
    by_cases ea:a=l
    ·subst ea
     rw [show bro a r a=r by unfold bro;grind,if_pos rfl,if_pos rfl,Int.one_mul]
    ·rw [if_neg ea,if_neg]
     unfold bro;grind
   have e2:det (l + 1) (AUw (λa b=>A (bro l r a)<|bro l s b) l λb=>A r<|bro l s b)=det (l + 1) (λa b=>A (bro l r a)<|bro l s b):=by
    refine AU6 λa b ha _=>?_
    rw [AUb]
    by_cases ea:a=l
    ·subst ea;rw [if_pos rfl,show bro a r a=r by unfold bro;grind]
    omega
   have e3:det (l + 1) (AUw (λa b=>A (bro l r a)<|bro l s b) l λb=>A j<|bro l s b)=det (l + 1) (λa b=>A (bro l j a)<|bro l s b):=by
    refine AU6 λa b ha _=>?_
    rw [AUb]
    by_cases ea:a=l
    ·subst ea;rw [if_pos rfl,show bro a j a=j by unfold bro;grind]
    ·rw [if_neg ea,show bro l r a=a by unfold bro;grind,show bro l j a=a by unfold bro;grind]
   grind
  ·rw [if_neg λh=>er h.2,Int.add_zero];unfold Mn;refine AU6 λa b ha _=>?_;unfold Ash;rw [AUb,if_neg];unfold bro;split <;> omega
theorem BB8 {r:Nat} {c:Int} (hij:j < i) (hs:l<=s):Mn l (A8w A i j c) r s=Mn l A r s + if l<=i/\s=i then c * Mn l A r j else 0:=by
 unfold A8w;rw [A8y,Ax3 hij hs,A8y,A8y]
theorem A80 {r:Nat} {c:Int} (hij:j < i) (hr:l<=r) (hs:l<=s):Mn l (Arn A i j c) r s=Mn l A r s + (if l<=i/\r=i then c * Mn l A j s else 0) + if l<=i/\s=i then c * (Mn l A r j + if l<=i/\r=i then c * Mn l A j j else 0) else 0:=by
 unfold Arn;rw [BB8 hij hs,Ax3 hij hr,Ax3 hij hr]
theorem Atl (A:AS9) (i j:Nat) (c:Int) (r s:Nat):Arn A i j c r s=if s=i then (if r=i then A i i + c * A j i else A r i) + c * (if r=i then A i j + c * A j j else A r j) else if r=i then A i s + c * A j s else A r s:=by
 show AUw (trF<|Ash A i j c) i (λq=>trF (Ash A i j c) i q + c * trF (Ash A i j c) j q) s r=_;rw [AUb];unfold trF Ash;by_cases h:s=i
 ·rw [if_pos h,if_pos h,AUb,AUb]
 ·rw [if_neg h,if_neg h,AUb]
theorem BB9 {n:Nat} {c:Int} (hi:i < n) (hj:j < n) (h:Af8 n A):Af8 n (Arn A i j c):=by
 intro r s hr hs;rw [Atl,Atl];by_cases h1:r=i
 ·by_cases h2:s=i
  ·rw [h1,h2]
  ·rw [if_neg h2,if_pos h1,if_pos h1,if_neg h2,if_neg h2,h i s hi hs,h j s hj hs]
 ·by_cases h2:s=i
  ·rw [if_pos h2,if_neg h1,if_neg h1,if_neg h1,if_pos h2,h r i hr hi,h r j hr hj]
  ·rw [if_neg h2,if_neg h1,if_neg h1,if_neg h2,h r s hr hs]
theorem A3g (hk:k≠j + 1):det k (swA A j)=det k A:=by
 rcases Nat.lt_or_ge (j + 1) k with h | h
 ·have e1:det k (swA A j)= -det k (λr s=>A (tau j r) s):=Az4 (F:=λr s=>A (tau j r) s) h
  have e2:det k (λr s=>A (tau j r) s)= -det k A:=by
   rw [<- Aj9 (λr s=>A (tau j r) s),<- Aj9 A]
   exact Az4 (F:=trF A) h
  omega
 ·refine AU6 λr s hr hs=>?_;unfold swA tau;grind
theorem Az7:det (j + 1) (swA A j)=Mn j A (j + 1) (j + 1):=by
 unfold Mn;refine AU6 λr s hr hs=>?_
 have e:∀ r,r < j + 1->tau j r=bro j (j + 1) r:=λr hr=>by
  unfold tau bro
  grind
 unfold swA;grind
theorem BEu {n:Nat} (hj:j + 1 < n) (h:Af8 n A):Af8 n (swA A j):=λr s hr hs=>by
 have e:∀ r,r < n->tau j r < n:=λr hr=>by unfold tau;grind
 exact h _ _ (e r hr)<|e s hs
theorem sq_nonneg (x:Int):0<=x * x:=by
 rcases Int.le_total 0 x with h | h
 ·exact Int.mul_nonneg h h
 ·exact Int.mul_nonneg_of_nonpos_of_nonpos h h
theorem Az8 (hy:0<=y) (h:x * x<=y * y): -y<=x/\x<=y:=by
 constructor
 ·rcases Int.lt_or_le x (-y) with h1 | h1
  ·have h2:0 < (-x - y) * (-x + y):=Int.mul_pos AGl AGl;grind
  ·exact h1
 ·rcases Int.lt_or_le y x with h1 | h1
  ·have h2:0 < (x - y) * (x + y):=Int.mul_pos AGl AGl;grind
  ·exact h1
theorem Ao7 (h1: -y<=x) (h2:x<=y):x * x<=y * y:=by
 have h3:0<=(y - x) * (y + x):=Int.mul_nonneg AGl AGl;grind
def SzF (A:AS9) (i j:Nat):Prop:= -(det (j + 1) A)<=2 * Mn j A i j/\2 * Mn j A i j<=det (j + 1) A
def LvF (A:AS9) (j:Nat):Prop:=3 * (det (j + 1) A * det (j + 1) A)<=4 * (det j A * det (j + 2) A + Mn j A (j + 1) j * Mn j A (j + 1) j)
def A12 (A:AS9) (i:Nat) (K:Int):Prop:= ∀ l,l < i-> -(K * det (l + 1) A)<=Mn l A i l/\Mn l A i l<=K * det (l + 1) A
theorem Aww {n:Nat} (hs:Af8 n A) (hp:Ahx n A) (hi:i < n) (hD:∀ k,k<=n->det k A<=Dm) (p0:0<=p) (q0:0<=q) (hl:∀ l,l < i->q * (Mn l A i l * Mn l A i l)<=p * (det (l + 1) A * det (l + 1) A)):∀ d l:Nat,l + d=i->q * Mn l A i i<=(q + d * p) * (Dm * det l A):=by
 have hD0:1<=Dm:=by
  have:=hD 0 AGl;simpa [det] using this
 have hDl:∀ l k,l<=n->k<=n->det k A<=Dm * det l A:=λl k h1 h2=>by
  have:=hp l h1;have h3:=hD k h2;have h4:Dm * 1<=Dm * det l A:=Int.mul_le_mul_of_nonneg_left AGl AGl;omega
 intro d;induction d with
 | zero=>
   intro l h;obtain rfl:l=i:=by omega
   rw [Aep];have h1:=Int.mul_le_mul_of_nonneg_left (hDl l (l + 1) AGl AGl) q0;simpa using h1
 | succ d ih=>
   intro l h;have h1:=ih (l + 1) AGl;have h2:=Ax2 hs hp (show l < n by omega) hi;have h3:=hl l AGl;have h4:=hp l AGl;have h5:=hp (l + 1) AGl;have h6:=Int.mul_le_mul_of_nonneg_left h1<|Int.le_of_lt h4
   have h7:det (l + 1) A * (q * Mn l A i i)=q * (Mn l A i l * Mn l A i l) + det l A * (q * Mn (l + 1) A i i):=by
    grind
   have h8:=Int.mul_le_mul_of_nonneg_left (hDl l (l + 1) AGl AGl) p0;have h9:=Int.mul_le_mul_of_nonneg_left h8<|Int.le_of_lt h5;have e2:det (l + 1) A * (p * det (l + 1) A)=p * (det (l + 1) A * det (l + 1) A):=by grind
   have h10:det (l + 1) A * (q * Mn l A i i)<=det (l + 1) A * ((q + ((d + 1:Nat):Int) * p) * (Dm * det l A)):=by
    grind
   exact Int.le_of_mul_le_mul_left h10 h5
theorem A0a {n:Nat} (hn:n<=8) (hs:Af8 n A) (hp:Ahx n A) (hi:i < n) (hD:∀ k,k<=n->det k A<=Dm) (hz:∀ l,l < i->SzF A i l):A i i<=3 * Dm:=by
 have h:=Aww hs hp hi hD (p:=1) (q:=4) AGl AGl (λl hl=>by
  have:=Ao7 (hz l hl).1 (hz l hl).2
  grind) i 0 AGl
 rw [Aiz] at h
 have Aa:1<=Dm:=by
  have:=hD 0 AGl;simpa [det] using this
 have h2:(4 + (i:Int) * 1) * (Dm * det 0 A)<=12 * Dm:=by
  have:(4 + (i:Int) * 1) * Dm<=12 * Dm:=Int.mul_le_mul_of_nonneg_right AGl AGl
  simpa [det] using this
 omega
theorem A5c {n:Nat} (hs:Af8 n A) (hp:Ahx n A) (hi:i < n) (hD:∀ k,k<=n->det k A<=Dm) (hA:A i i<=3 * Dm):A12 A i (2 * Dm):=by
 intro l hl
 have Ad:1<=Dm:=by
  have:=hD 0 AGl;simpa [det] using this
 have h1:=Asf hs hp (show l<=n by omega) hi (show l < n by omega);rw [Aep] at h1;have h2:=A8u hs hp hi l AGl;have h3:=hp l AGl;have h4:=hp (l + 1) AGl
 have h5:det l A * A i i<=Dm * (3 * Dm):=by
  have a1:=Int.mul_le_mul_of_nonneg_left hA<|Int.le_of_lt h3
  have a2:=Int.mul_le_mul_of_nonneg_right (hD l AGl) (show (0:Int)<=3 * Dm by omega)
  omega
 have h6:Mn l A i i * det (l + 1) A<=Dm * (3 * Dm) * det (l + 1) A:=Int.mul_le_mul_of_nonneg_right AGl AGl;have h7:Dm * (3 * Dm) * (det (l + 1) A * 1)<=Dm * (3 * Dm) * (det (l + 1) A * det (l + 1) A):=Int.mul_le_mul_of_nonneg_left (Int.mul_le_mul_of_nonneg_left AGl AGl)<|Int.mul_nonneg AGl AGl;have h8:0<=Dm * Dm * (det (l + 1) A * det (l + 1) A):=Int.mul_nonneg (sq_nonneg _)<|sq_nonneg _;have h9:2 * Dm * det (l + 1) A * (2 * Dm * det (l + 1) A)=Dm * (3 * Dm) * (det (l + 1) A * det (l + 1) A) + Dm * Dm * (det (l + 1) A * det (l + 1) A):=by grind
 rw [Int.mul_one] at h7;exact Az8 (Int.mul_nonneg AGl AGl) AGl
theorem A0b {K':Int} (hp:∀ l,l<=i->0 < det l A) (hK:K<=K') (h:A12 A i K):A12 A i K':=λl hl=>by
 have h1:=h l hl
 have h2:=hp (l + 1) AGl
 have h3:=Int.mul_le_mul_of_nonneg_right hK<|Int.le_of_lt h2
 omega
theorem A0c (hd:0 < d): -d<=2 * (a + -((2 * a + d) / (2 * d)) * d)/\2 * (a + -((2 * a + d) / (2 * d)) * d)<=d:=by
 have h1:=Int.mul_ediv_add_emod (2 * a + d)<|2 * d;have h2:=Int.emod_nonneg (2 * a + d) (show 2 * d≠0 by omega);have h3:=Int.emod_lt_of_pos (2 * a + d) (show 0 < 2 * d by omega);grind
theorem BCa (hd:0 < d) (h1: -(K * d)<=a) (h2:a<=K * d): -K<= -((2 * a + d) / (2 * d))/\ -((2 * a + d) / (2 * d))<=K:=by
 have h:=A0c (a:=a) hd;generalize -((2 * a + d) / (2 * d))=c at *;constructor
 ·rcases Int.lt_or_le c (-K) with h3 | h3
  ·have h4:(c + K + 1) * d<=0:=by
    have:=Int.mul_nonneg (show 0<= -(c + K + 1) by omega)<|Int.le_of_lt hd
    grind
   grind
  ·exact h3
 ·rcases Int.lt_or_le K c with h3 | h3
  ·have h4:=Int.mul_nonneg (show 0<=c - K - 1 by omega)<|Int.le_of_lt hd;grind
  ·exact h3
theorem A3h {c:Int} (hij:j < i) (hl:l < i):Mn l (Arn A i j c) i l=Mn l A i l + c * Mn l A j l:=by
 rw [A80 hij AGl<|Nat.le_refl _,if_pos ⟨AGl,rfl⟩,if_neg (λh:l<=i/\l=i=>by omega)];omega
theorem Awx {r:Nat} {c:Int} (hij:j < i) (hr:r < i) (hl:l<=r):Mn l (Arn A i j c) r l=Mn l A r l:=by
 rw [A80 hij hl<|Nat.le_refl _,if_neg (λh:l<=i/\r=i=>by omega),if_neg (λh:l<=i/\l=i=>by omega)];omega
theorem A81 {c:Int} (hij:j < i) (hp:∀ l,l<=i->0 < det l A) (hK:0<=K) (h:A12 A i K) (hz:∀ l,l < j->SzF A j l) (Ab: -K<=c) (Ac:c<=K):A12 (Arn A i j c) i (2 * K):=by
 intro l hl;rw [Ajp hij,A3h hij hl];have h1:=h l hl;have h2:=hp (l + 1) AGl
 have hm: -(det (l + 1) A)<=Mn l A j l/\Mn l A j l<=det (l + 1) A:=by
  rcases Nat.lt_trichotomy l j with h3 | h3 | h3
  ·have:=hz l h3;unfold SzF at this;omega
  ·subst h3;rw [Aep];omega
  ·rw [A11 A l h3];omega
 have h3: -(K * det (l + 1) A)<=c * Mn l A j l/\c * Mn l A j l<=K * det (l + 1) A:=by
  refine Az8 (Int.mul_nonneg hK<|Int.le_of_lt h2) ?_
  have a1:=Ao7 Ab Ac
  have a2:=Ao7 hm.1 hm.2
  have a3:c * c * (Mn l A j l * Mn l A j l)<=K * K * (det (l + 1) A * det (l + 1) A):=Int.mul_le_mul a1 a2 (sq_nonneg _)<|sq_nonneg _
  grind
 grind
theorem A82 {c:Int} (hk:k≠i):Arn A i j c k k=A k k:=by
 rw [Atl,if_neg hk,if_neg hk]
structure Ax4 (n:Nat) (Dm:Int) (A:AS9) (i t:Nat):Prop where
 sym:Af8 n A
 pos:Ahx n A
 dm:∀ k,k<=n->det k A<=Dm
 hi:i < n
 ht:t<=i
 rows:∀ k,k < n->k≠i->A k k<=3 * Dm
 row:t=0->A i i<=3 * Dm
 lamb:A12 A i (2 ^ t * (2 * Dm))
 pre:∀ r l,l < r->r < i->SzF A r l
 prei:∀ l,l < i->i<=l + t->SzF A i l
 lov:∀ r,r + 1 < i->LvF A r
theorem Au2 {n:Nat} (hn:0 < n) (hs:Af8 n A) (hp:Ahx n A) (hD:∀ k,k<=n->det k A<=Dm) (hr:∀ k,k < n->A k k<=3 * Dm):Ax4 n Dm A 0 0:=
 ⟨hs,hp,hD,hn,Nat.le_refl _,λk hk _=>hr k hk,λ_=>hr 0 hn,λl hl=>by omega,λr l h1 h2=>by omega,λl hl=>by omega,λr hr=>by omega⟩
theorem A83 {n:Nat} (h:Ax4 n Dm A i t):1<=Dm:=by
 have:=h.dm 0 AGl;simpa [det] using this
theorem Apu {n:Nat} (hn:n<=8) (h:Ax4 n Dm A i t) (hz:∀ l,l < i->SzF A i l):∀ k,k < n->A k k<=3 * Dm:=λk hk=>by
 by_cases e:k=i
 ·subst e;exact A0a hn h.sym h.pos h.hi h.dm hz
 ·exact h.rows k hk e
theorem Ao8 (t:Nat):(0:Int) < 2 ^ t:=Int.pow_pos AGl
theorem Apv (h:s<=t):(2:Int) ^ s<=2 ^ t:=by
 have:=Nat.pow_le_pow_right (show 0 < 2 by omega) h;grind
theorem A5d {n i':Nat} (hn:n<=8) (h:Ax4 n Dm A i t) (hi':i' < n) (hj:j < i') (hbad: ¬ SzF A i' j)
 (hz:∀ r l,l < r->r < i'->SzF A r l) (hzi:∀ l,l < i'->j < l->SzF A i' l) (hl:∀ r,r + 1 < i'->LvF A r):
 Ax4 n Dm (Arn A i' j<|-((2 * Mn j A i' j + det (j + 1) A) / (2 * det (j + 1) A))) i' (i' - j)/\i * 16 + t < i' * 16 + (i' - j):=by
 have hD1:=A83 h
 have hlt:i < i'∨i=i'/\t < i' - j:=by
  rcases Nat.lt_trichotomy i i' with h1 | h1 | h1
  ·exact .inl h1
  ·refine .inr ⟨h1,?_⟩
   rcases Nat.lt_or_ge t (i' - j) with h2 | h2
   ·exact h2
   ·subst h1;exact absurd (h.prei j hj AGl) hbad
  ·exact absurd (h.pre i' j hj h1) hbad
 have hrows:∀ k,k < n->k≠i'->A k k<=3 * Dm:=λk hk hne=>by
  rcases hlt with h1 | h1
  ·exact Apu hn h (λl hl=>hz i l hl h1) k hk
  ·exact h.rows k hk AGl
 have hK0:0<=2 ^ (i' - j - 1) * (2 * Dm):=Int.mul_nonneg (Int.le_of_lt<|Ao8 _) AGl;have hp':∀ l,l<=i'->0 < det l A:=λl hl=>h.pos l AGl
 have hlam:A12 A i' (2 ^ (i' - j - 1) * (2 * Dm)):=by
  rcases hlt with h1 | h1
  ·refine A0b hp' ?_<|A5c h.sym h.pos hi' h.dm<|Apu hn h (λl hl=>hz i l hl h1) i' hi';have:=Int.mul_le_mul_of_nonneg_right (Apv<|Nat.zero_le<|i' - j - 1) (show (0:Int)<=2 * Dm by omega);simpa using this
  ·obtain ⟨rfl,h1⟩:=h1;exact A0b hp' (Int.mul_le_mul_of_nonneg_right (Apv AGl) AGl) h.lamb
 have hd:=hp' (j + 1) AGl;obtain ⟨c1,c2⟩:=BCa hd (hlam j hj).1 (hlam j hj).2;have hrem:=A0c (a:=Mn j A i' j) hd;generalize hc: -((2 * Mn j A i' j + det (j + 1) A) / (2 * det (j + 1) A))=c at *
 refine ⟨⟨BB9 hi' AGl h.sym,λk hk=>by rw [Ajp hj];exact h.pos k hk,λk hk=>by rw [Ajp hj];exact h.dm k hk,hi',AGl,λk hk hne=>by rw [A82 hne];grind,λh0=>by omega,?_,λr l h1 h2=>?_,λl h1 h2=>?_,λr hr=>?_⟩,by have:=h.ht;omega⟩
 ·have:=A81 hj hp' hK0 hlam (λl hl=>hz j l hl hj) c1 c2
  have e:2 * (2 ^ (i' - j - 1) * (2 * Dm))=2 ^ (i' - j) * (2 * Dm):=by
   rw [show i' - j=i' - j - 1 + 1 by omega,Int.pow_succ];grind
  rwa [e] at this
 ·unfold SzF;rw [Ajp hj,Awx hj h2 AGl];exact hz r l h1 h2
 ·unfold SzF;rw [Ajp hj,A3h hj h1]
  rcases Nat.lt_or_ge j l with h3 | h3
  ·rw [A11 A l h3,Int.mul_zero,Int.add_zero];exact hzi l h1 h3
  ·obtain rfl:l=j:=by omega
   rw [Aep];exact hrem
 ·unfold LvF;rw [Ajp hj,Ajp hj,Ajp hj,Awx hj AGl AGl];exact hl r hr
def A0d (n:Nat) (A:AS9):Int:=psum (λk=>det k A)<|n + 1
theorem BCb {g:Nat->Int} {n:Nat} (hk:k < n) (hne:∀ l,l≠k->f l=g l) (h:f k < g k):psum f n < psum g n:=by
 induction n with
 | zero=>omega
 | succ n ih=>
   simp only [psum]
   rcases Nat.lt_or_ge k n with h1 | h1
   ·grind
   ·obtain rfl:k=n:=by omega
    rw [AUi (g:=g) λi hi=>hne i AGl];omega
theorem A5e {n:Nat} (hn:n<=8) (h:Ax4 n Dm A i t) (hj:j + 1 < n) (hbad: ¬ LvF A j)
 (hz:∀ r l,l < r->r<=j + 1->SzF A r l) (hl:∀ r,r < j->LvF A r):
 Ax4 n Dm (swA A j) 0 0/\A0d n (swA A j) < A0d n A:=by
 have hij:i<=j + 1:=by
  rcases Nat.lt_or_ge (j + 1) i with h1 | h1
  ·exact absurd (h.lov j h1) hbad
  ·exact h1
 have hrest:=Apu hn h λl hl=>hz i l hl hij;have h1:=Ax2 h.sym h.pos (show j < n by omega) hj;have p0:=h.pos j AGl;have p1:=h.pos (j + 1) AGl;have p2:=h.pos (j + 2) AGl;rw [show Mn (j + 1) A (j + 1) (j + 1)=det (j + 2) A from Aep _ _] at h1
 have hlt:Mn j A (j + 1) (j + 1) < det (j + 1) A:=by
  unfold LvF at hbad
  have h2:det (j + 1) A * (4 * Mn j A (j + 1) (j + 1)) < det (j + 1) A * (3 * det (j + 1) A):=by
   grind
  have:=Int.lt_of_mul_lt_mul_left h2<|Int.le_of_lt p1;omega
 have hpos:0 < Mn j A (j + 1) (j + 1):=by
  have h3:=sq_nonneg<|Mn j A (j + 1) j;have h4:=Int.mul_pos p0 p2;exact Int.pos_of_mul_pos_right (a:=det (j + 1) A) AGl p1
 have hdet:∀ k,det k (swA A j)=if k=j + 1 then Mn j A (j + 1) (j + 1) else det k A:=λk=>by
  by_cases e:k=j + 1
  ·subst e;rw [if_pos rfl,Az7]
  ·rw [if_neg e,A3g e]
 refine ⟨Au2 AGl (BEu hj h.sym) (λk hk=>?_) (λk hk=>?_) λk hk=>?_,?_⟩
 ·rw [hdet];split
  ·exact hpos
  ·exact h.pos k hk
 ·rw [hdet];split
  ·have:=h.dm (j + 1) AGl;omega
  ·exact h.dm k hk
 ·have e:tau j k < n:=by unfold tau;grind
  exact hrest _ e
 ·exact BCb (k:=j + 1) AGl (λl hl=>by grind) (by grind)
end Go.QF
namespace Go.Proofs.YtkakafabeobahaaGreatDoor
open Go Go.QF
theorem Ax5 (k m:Nat):AU9 k (λa=>((a:Nat):Int)) ++ [((m:Nat):Int)]=AU9 (k + 1) λa=>((bro k m a:Nat):Int):=by
 rw [<- Aie,AUq (g:=λa=>((bro k m a:Nat):Int)) λa ha=>by unfold bro;rw [if_pos ha]];unfold bro;grind
theorem A3i {m:Nat} (hk:k<=100) (hf:100 < fuel):AYl fuel (k:Int) (m:Int)=some (AU9 (k + 1) λa=>((bro k m a:Nat):Int)):=by
 apply ok_eq;unfold AYl;refine AGw (AT8 (λi s=>s=(AU9 i λa=>((a:Nat):Int),((i:Nat):Int))/\i<=k) k (Q:=(· =AU9 k λa=>((a:Nat):Int))) ⟨rfl,Nat.zero_le _⟩ AGl λi s hi hI=>?_) λe he=>?_
 ·obtain ⟨rfl,hik⟩:=hI;unfold Aee;dsimp only;refine ATj (λh=>AVc (by rw [AT1];omega)<|AGp ⟨AGl,?_,AGl⟩) λh=>AGp ?_
  ·rw [wk AGl,Aie i λa=>((a:Nat):Int)];simp
  grind
 ·subst he;refine AVc (by rw [AT1];omega)<|AGp ?_;exact Ax5 k m
theorem Au3 {n:Nat} (hn:n<=8) (hi:i < n) (hj:j < n) (hb:∀ i j,i < n->j < n->(F i j).natAbs<=mN n) (hf:100 < fuel):AWy fuel (tab n n F) (i:Int) (j:Int)=some (Mn j F i j):=by
 apply ok_eq;unfold AWy;refine AGw (AT8 (λq s=>s=(AU9 q λa=>((a:Nat):Int),AU9 q λa=>((a:Nat):Int),((q:Nat):Int))/\q<=j) j (Q:=(· =(AU9 j λa=>((a:Nat):Int),AU9 j λa=>((a:Nat):Int)))) ⟨rfl,Nat.zero_le _⟩ AGl λq s hq hI=>?_) λe he=>?_
 ·obtain ⟨rfl,hqj⟩:=hI;unfold Adp;dsimp only;refine ATj (λh=>AVc (by rw [AT1];omega)<|AVc (by rw [AT1];omega)<|AGp ⟨AGl,?_,AGl⟩) λh=>AGp ?_
  ·rw [wk AGl,Aie q λa=>((a:Nat):Int)];simp
  grind
 ·subst he;dsimp only;refine AVc (by rw [AT1];omega)<|AVc (by rw [AT1];omega) ?_;rw [Ax5,Ax5];refine AGw (AUa<|Az5 (n:=n) AGl AGl hf (λa ha=>Akd AGl hi) λa ha=>Akd AGl hj) λx hx=>?_;subst hx;refine AGw (AUa<|Arj hn AGl (λa b ha Aa=>hb _ _ (Akd AGl hi)<|Akd AGl hj) AGl) λy hy=>AGp hy
theorem Apw {n:Nat} (hk:k<=n) (hn:n<=8):AVj fuel (AU9 n λa=>det (a + 1) F) (k:Int)=some (det k F):=by
 apply ok_eq;unfold AVj;refine ATj (λh=>?_) λh=>?_
 ·obtain rfl:k=0:=by omega
  exact ⟨1,rfl,by simp [det]⟩
 ·obtain ⟨q,rfl⟩:∃ q,k=q + 1:=⟨k - 1,AGl⟩;refine ATy (n:=q) (ATm AGl) (by rw [wk AGl];omega)<|AGp rfl
theorem Asi {n:Nat} (Aa:1<=n) (hn:n<=8) (hb:∀ i j,i < n->j < n->(F i j).natAbs<=mN n) (hf:100 < fuel):AWl fuel (tab n n F)=some (AU9 n λa=>det (a + 1) F,true):=by
 apply ok_eq;unfold AWl;refine AGw (AUa<|Awv Aa AGl hf) λx hx=>?_;subst hx;dsimp only;refine ATj (λh=>absurd h AGn) λ_=>AGw (AT8 (λk s=>s=(AU9 k λa=>det (a + 1) F,((k:Nat):Int))/\k<=n) n (Q:=(· =AU9 n λa=>det (a + 1) F)) ⟨rfl,Nat.zero_le _⟩ AGl λk s hk hI=>?_) λe he=>AGp (by rw [he]);obtain ⟨rfl,hkn⟩:=hI;unfold Acr;dsimp only;refine ATj (λh=>?_) λh=>AGp ?_
 ·have hk':k < n:=by omega
  refine AGw (AUa<|A3i AGl hf) λr hr=>?_;subst hr;refine AGw (AUa<|A3i AGl hf) λc hc=>?_;subst hc;refine AGw (AUa<|Az5 (n:=n) AGl AGl hf (λa ha=>Akd AGl hk') λa ha=>Akd AGl hk') λx hx=>?_;subst hx;refine AGw (AUa<|Arj hn AGl (λa b ha Ab=>hb _ _ (Akd AGl hk')<|Akd AGl hk') AGl) λy hy=>?_;subst hy;refine AVc (by rw [AT1];omega)<|AGp ⟨AGl,?_,AGl⟩;rw [show (det (k + 1) λa b=>F (bro k k a)<|bro k k b)=det (k + 1) F from Aep k F,wk AGl,Aie k λa=>det (a + 1) F];simp
 grind
theorem Ax6 (a b:Int):Amt a b<=0↔a<=b:=by unfold Amt;omega
theorem Au4 {n:Nat} (hn:n<=8) (hi:i < n) (hl:l < n) (hj:j < n) (hb:∀ i j,i < n->j < n->(F i j).natAbs<=mN n):(Mn j F i l).natAbs<=gN n:=by
 have e:Mn j F i l=Mn j (λa b=>if a < n/\b < n then F a b else 0) i l:=by
  unfold Mn
  refine AU6 λa b ha Aa=>?_
  dsimp only
  rw [if_pos ⟨Akd AGl hi,Akd AGl hl⟩]
 rw [e];refine Nat.le_trans (A1u (m:=mN n) (λa b=>?_) i l)<|A8i hn AGl;grind
theorem Ao9 {n:Nat} (hn:n<=8) (hk:k<=n) (hb:∀ i j,i < n->j < n->(F i j).natAbs<=mN n):(det k F).natAbs<=gN n:=by
 rcases Nat.eq_zero_or_pos k with h | h
 ·subst h;have:=A8h n;simp only [det];omega
 ·obtain ⟨q,rfl⟩:∃ q,k=q + 1:=⟨k - 1,AGl⟩;rw [<- Aep q F];exact Au4 hn AGl AGl AGl hb
theorem A3j {n:Nat} (hn:n<=8) (hi:i < n) (hj:j < n) (hb:∀ i j,i < n->j < n->(F i j).natAbs<=mN n) (hf:100 < fuel):AYm fuel (tab n n F) (AU9 n λa=>det (a + 1) F) (i:Int) (j:Int)=some (decide (2 * ((Mn j F i j).natAbs:Int)<=det (j + 1) F)):=by
 apply ok_eq;unfold AYm;refine AGw (Q:=(· =2)) ⟨2,if_pos AGl,rfl⟩ λtwo h2=>?_;subst h2;refine AGw (AUa<|Au3 hn hi hj hb hf) λx hx=>?_;subst hx;refine AGw (AUa (a:=((Mn j F i j).natAbs:Int)) rfl) λy hy=>?_;subst hy;refine AGw (AUa<|Asa (A8j n) (show (2:Int).natAbs<=gN n from Nat.le_trans AGn<|A8h n) (by rw [Int.natAbs_natCast];exact Au4 hn hi hj hj hb)) λw hw=>?_;subst hw;rw [wk AGl];refine AGw (AUa<|Apw (k:=j + 1) AGl hn) λm hm=>?_;subst hm;refine AGw (AUa (a:=Amt (2 * ((Mn j F i j).natAbs:Int))<|det (j + 1) F) rfl) λc hc=>AGp ?_;subst hc;exact decide_eq_decide.2<|Ax6 _ _
theorem Atm:2 * ((Mn j F i j).natAbs:Int)<=det (j + 1) F↔SzF F i j:=by
 unfold SzF;omega
theorem psum_abs {f g:Nat->Int} {D:Nat}:∀ (n:Nat),(∀ a,a < n->(f a).natAbs<=D/\(g a).natAbs<=D)->(psum (λa=>f a * g a) n).natAbs<=n * (D * D)
 | 0,_=>by simp [psum]
 | n + 1,h=>by
   have h1:=psum_abs n λa ha=>h a AGl
   have h2:=Nat.mul_le_mul (h n AGl).1 (h n AGl).2
   rw [<- Int.natAbs_mul] at h2
   have e:(n + 1) * (D * D)=n * (D * D) + D * D:=by grind
   simp only [psum]
   omega
theorem BGp {n:Nat} {g:Nat->Int} (hn:n<=16) (hD:16 * (D * D) < AWk) (hb:∀ a,a < n->(f a).natAbs<=D/\(g a).natAbs<=D) (hf:100 < fuel):Abe fuel (AU9 n f) (AU9 n g)=some (psum (λa=>f a * g a) n):=by
 apply ok_eq;unfold Abe;refine AGw (AT8 (λk s=>s=(((k:Nat):Int),psum (λa=>f a * g a) k)/\k<=n) n (Q:=(· =psum (λa=>f a * g a) n)) ⟨rfl,Nat.zero_le _⟩ AGl λk s hk hI=>?_) λe he=>AGp he;obtain ⟨rfl,hkn⟩:=hI;unfold Afq;dsimp only;rw [AT1];refine ATj (λh=>?_) λh=>AGp ?_
 ·have hk':k < n:=by omega
  have h1:=psum_abs k λa ha=>hb a AGl;have h2:=Nat.mul_le_mul (hb k hk').1 (hb k hk').2;have h3:k * (D * D)<=16 * (D * D):=Nat.mul_le_mul_right _ AGl;have h4:1 * (D * D)<=16 * (D * D):=Nat.mul_le_mul_right _ AGl;refine ATy (ATm hk') rfl (ATy (ATm hk') rfl (AGw (Q:=(· =f k * g k)) ⟨_,if_pos AGl,rfl⟩ λx hx=>?_));subst hx;refine AGw (Q:=(· =psum (λa=>f a * g a) k + f k * g k)) ⟨_,if_pos ⟨AGl,by rw [Int.natAbs_mul];omega⟩,rfl⟩ λy hy=>AGp ⟨AGl,?_,AGl⟩;subst hy;rw [wk AGl];simp [psum]
 grind
theorem Au5 {n:Nat} (hn:1<=n) (Ad:n<=16) (hf:100 < fuel):AU8 fuel (tab n n F)=some ((n:Int),(n:Int),true):=by
 apply ok_eq;unfold AU8;rw [ATt];refine AGw (Q:=λex=>match ex with | .inl _=>False | .inr _=>True) (ATj (λh=>by omega) λh=>ATj (λh2=>by omega) λh2=>AGp trivial) λex hex=>?_
 cases ex with
 | inl e=>exact hex.elim
 | inr u=>
   dsimp only
   refine AGw (AT8 (λi (s:Int)=>s=i) n (Q:=λex=>match ex with | .inl _=>False | .inr _=>True) rfl AGl λi s hi hI=>?_) λex hex=>?_
   ·subst hI
    unfold AYs
    rw [ATt]
    refine ATj (λh=>ATy (ATv AGl) rfl ?_) λh=>AGp trivial
    rw [AT1]
    refine ATj (λh2=>by omega) λh2=>ATj (λh3=>by omega) λh3=>ATy (n:=0) (ATv AGl) rfl (ATj (λh4=>?_) λh4=>AGp ⟨AGl,wk AGl⟩)
    rw [AT1] at h4;omega
   ·cases ex with
    | inl e=>exact hex.elim
    | inr u=>exact ATy (n:=0) (ATv AGl) rfl (AGp<|by rw [AT1])
theorem Ai0 {r c:Nat} {G:AS9} (h:∀ i j,i < r->j < c->F i j=G i j):tab r c F=tab r c G:=by
 rw [Ajv,Ajv];exact AUq λi hi=>AUq λj hj=>h i j hi hj
def trS (F:AS9) (i j r c:Nat):Int:=if c < i∨c=i/\r < j then F c r else 0
theorem A3k {n:Nat} (hn:1<=n) (Aa:n<=16) (hf:100 < fuel):AWs fuel (tab n n F)=some (tab n n<|trF F,true):=by
 apply ok_eq;unfold AWs;refine AGw (AUa<|Au5 hn Aa hf) λx hx=>?_;subst hx;dsimp only;refine ATj (λh=>absurd h AGn) λ_=>AGw (AUa<|Atg AGl AGl AGl) λO hO=>?_;subst hO;refine AGw (AT8 (λi s=>s=(((i:Nat):Int),tab n n<|trS F i 0)/\i<=n) n (Q:=(· =tab n n (trF F))) ⟨?_,Nat.zero_le _⟩ AGl λi s hi hI=>?_) λe he=>AGp (by rw [he])
 ·rw [AXs n (0:Int),AXs];refine congrArg (Prod.mk (0:Int)) ?_;rw [Ajv];exact AUq λr _=>AUq λc _=>by unfold trS;omega
 ·obtain ⟨rfl,hin⟩:=hI;unfold Aa9;dsimp only;rw [ATt];refine ATj (λh=>?_) λh=>AGp ?_
  ·have hi':i < n:=by omega
   refine ATy (ATv hi') rfl (AGw (AT8 (λj s=>s=(((j:Nat):Int),tab n n<|trS F i j)/\j<=n) n (Q:=(· =tab n n (trS F (i + 1) 0))) ⟨rfl,Nat.zero_le _⟩ AGl λj s hj hJ=>?_) λe he=>AGp ⟨AGl,by rw [wk AGl,he];simp,AGl⟩);obtain ⟨rfl,hjn⟩:=hJ;unfold Aa8;dsimp only;rw [AT1];refine ATj (λh2=>?_) λh2=>AGp ?_
   ·have hj':j < n:=by omega
    refine ATy (ATv hj') rfl (ATy (ATv hi') rfl (ATy (ATm hj') rfl (AGw (AUa (a:=F i j) rfl) λy hy=>ATy (ATm hi') rfl (AGp ⟨AGl,?_,AGl⟩))));subst hy;rw [wk AGl,Aqm];refine Prod.ext AGl<|Ai0 λr c hr hc=>?_;rw [AUb];unfold trS;grind
   ·refine Ai0 λr c hr hc=>?_;unfold trS;omega
  ·refine Ai0 λr c hr hc=>?_;unfold trS trF;omega
def muS (H:AS9) (i j r c:Nat):Int:=if r < i∨r=i/\c < j then H r c else 0
theorem A84 {n:Nat} {G:AS9} (hn:1<=n) (Aa:n<=16) (hD:16 * (D * D) < AWk) (hF:∀ i j,i < n->j < n->(F i j).natAbs<=D) (hG:∀ i j,i < n->j < n->(G i j).natAbs<=D) (hf:100 < fuel):Abf fuel (tab n n F) (tab n n G)=some (tab n n<|AV3 n F G,true):=by
 apply ok_eq;unfold Abf;refine AGw (AUa<|Au5 hn Aa hf) λx hx=>?_;subst hx;dsimp only;refine AGw (AUa<|A3k hn Aa hf) λx hx=>?_;subst hx;dsimp only;rw [ATt,ATt];refine AGw (Q:=λex=>match ex with | .inl _=>False | .inr _=>True) (ATj (λh=>absurd h AGn) λ_=>ATj (λh=>absurd h AGn) λ_=>ATj (λh=>absurd rfl h) λ_=>AGp trivial) λex hex=>?_
 cases ex with
 | inl e=>exact hex.elim
 | inr u=>
   dsimp only
   rw [ATt]
   refine AGw (AUa<|Atg AGl AGl AGl) λO hO=>?_
   subst hO
   refine AGw (AT8 (λi s=>s=(((i:Nat):Int),tab n n<|muS (AV3 n F G) i 0)/\i<=n) n (Q:=(· =tab n n (AV3 n F G))) ⟨?_,Nat.zero_le _⟩ AGl λi s hi hI=>?_) λe he=>AGp (by rw [he])
   ·rw [AXs n (0:Int),AXs]
    refine congrArg (Prod.mk (0:Int)) ?_
    rw [Ajv]
    exact AUq λr _=>AUq λc _=>by unfold muS;omega
   ·obtain ⟨rfl,hin⟩:=hI
    unfold Afs
    dsimp only
    rw [ATt]
    refine ATj (λh=>?_) λh=>AGp ?_
    ·have hi':i < n:=by omega
     refine AGw (AT8 (λj s=>s=(((j:Nat):Int),tab n n<|muS (AV3 n F G) i j)/\j<=n) n (Q:=(· =tab n n (muS (AV3 n F G) (i + 1) 0))) ⟨rfl,Nat.zero_le _⟩ AGl λj s hj hJ=>?_) λe he=>AGp ⟨AGl,by rw [wk AGl,he];simp,AGl⟩
     obtain ⟨rfl,hjn⟩:=hJ
     unfold Afr
     dsimp only
     rw [ATt]
     refine ATj (λh2=>?_) λh2=>AGp ?_
     ·have hj':j < n:=by omega
      refine ATy (ATv hi') rfl (ATy (ATv hi') rfl (ATy (ATv hj') rfl (AGw (AUa<|BGp (D:=D) Aa hD (λa ha=>⟨hF i a hi' ha,hG a j ha hj'⟩) hf) λy hy=>ATy (ATm hj') rfl (AGp ⟨AGl,?_,AGl⟩))))
      subst hy
      rw [wk AGl,Aqm]
      refine Prod.ext AGl<|Ai0 λr c hr hc=>?_
      rw [AUb]
      unfold muS
      by_cases h3:r=i
      ·rw [if_pos h3]
       by_cases h4:c=j
       ·rw [if_pos h4,if_pos AGl,h3,h4];rfl
       ·rw [if_neg h4]
        by_cases h5:c < j
        ·grind
        omega
      omega
     ·refine Ai0 λr c hr hc=>?_
      unfold muS
      omega
    ·refine Ai0 λr c hr hc=>?_
     unfold muS
     omega
theorem A3l (a b:Int):Amt a b=0↔a=b:=by unfold Amt;omega
theorem BDf {n:Nat} (Ae:n<=16) (hf:100 < fuel):Ok (AWt fuel<|tab n n F) λr=>r=true↔Af8 n F:=by
 unfold AWt;refine AGw (AT8 (λi s=>s=((i:Nat):Int)/\i<=n/\ ∀ a b,b < a->a < i->F a b=F b a) n (Q:=λex=>match ex with | .inl e=>e=false/\¬ Af8 n F | .inr _=>Af8 n F) ⟨rfl,Nat.zero_le _,λa b h1 h2=>by omega⟩ AGl λi s hi hI=>?_) λex hex=>?_
 ·obtain ⟨rfl,hin,hs⟩:=hI;unfold Abb;rw [ATt];refine ATj (λh=>?_) λh=>AGp ?_
  ·have hi':i < n:=by omega
   refine AGw (AT8 (λj s=>s=((j:Nat):Int)/\j<=i/\ ∀ b,b < j->F i b=F b i) i (Q:=λex=>match ex with | .inl e=>e=false/\¬ Af8 n F | .inr _=> ∀ b,b < i->F i b=F b i) ⟨rfl,Nat.zero_le _,λb h1=>by omega⟩ AGl λj s hj hJ=>?_) λex hex=>?_
   ·obtain ⟨rfl,hji,hb⟩:=hJ;unfold Aba;refine ATj (λh2=>?_) λh2=>AGp ?_
    ·have hj':j < i:=by omega
     refine ATy (ATv hi') rfl (ATy (ATm AGl) rfl (ATy (ATv AGl) rfl (ATy (ATm hi') rfl (AGw (AUa (a:=Amt (F i j)<|F j i) rfl) λc hc=>?_))));subst hc;refine ATj (λh3=>AGp ⟨rfl,λh4=>h3<|(A3l _ _).2 (h4 i j hi' AGl)⟩) λh3=>AGp ⟨AGl,by rw [wk AGl];simp,AGl,λb Af=>?_⟩;rcases Nat.lt_or_ge b j with h4 | h4
     ·exact hb b h4
     ·obtain rfl:b=j:=by omega
      exact (A3l _ _).1 (Classical.not_not.1 h3)
    grind
   ·cases ex with
    | inl e=>exact AGp hex
    | inr u=>exact AGp ⟨AGl,by rw [wk AGl];simp,AGl,λa b h1 h2=>by
       grind⟩
  ·obtain rfl:i=n:=by omega
   intro a b ha hb;grind
 ·cases ex with
  | inl e=>obtain ⟨rfl,h⟩:=hex;exact AGp ⟨λh1=>Bool.noConfusion h1,λh1=>absurd h1 h⟩
  | inr u=>exact AGp ⟨λ_=>hex,λ_=>rfl⟩
theorem BCc {n:Nat} {G:AS9} (hn:1<=n) (Aa:n<=16) (hD:16 * (D * D) < AWk) (hF:∀ i j,i < n->j < n->(F i j).natAbs<=D) (hG:∀ i j,i < n->j < n->(G i j).natAbs<=D) (hH:∀ i j,i < n->j < n->(AV3 n (trF G) F i j).natAbs<=D) (hf:100 < fuel):AWu fuel (tab n n F) (tab n n G)=some (tab n n<|AV3 n (AV3 n (trF G) F) G):=by
 apply ok_eq;unfold AWu;refine AGw (AUa<|A3k hn Aa hf) λx hx=>?_;subst hx;dsimp only
 have pr:∀ {F G:AS9},(∀ i j,i < n->j < n->(F i j).natAbs<=D)->(∀ i j,i < n->j < n->(G i j).natAbs<=D)->Ok (AVi fuel (tab n n F)<|tab n n G) (· =tab n n (AV3 n F G)):=λ{F G} hF hG=>by
  unfold AVi
  refine AGw (AUa<|A84 hn Aa hD hF hG hf) λx hx=>?_
  subst hx
  exact AGp rfl
 refine AGw (pr (λi j hi hj=>hG j i hj hi) hF) λx hx=>?_;grind
theorem A3m (a:Int):AZd a<=0↔a<=0:=by unfold AZd;omega
theorem BGq {n:Nat} (Ae:1<=n) (hn:n<=8) (hb:∀ i j,i < n->j < n->(F i j).natAbs<=mN n) (hf:100 < fuel):Ok (AYt fuel<|tab n n F) λr=>r=true↔Af8 n F/\Ahx n F:=by
 unfold AYt;refine AGw (AUa<|Asi Ae hn hb hf) λx hx=>?_;subst hx;dsimp only;refine AGw (Q:=λex=>match ex with | .inl e=>e=false/\¬ Af8 n F | .inr _=>Af8 n F) (ATj (λh=>absurd h AGn) λ_=>AGw (BDf AGl hf) λr hr=>?_) λex hex=>?_
 ·refine ATj (λh=>AGp ⟨rfl,λh1=>?_⟩) λh=>AGp<|hr.1 ?_
  ·grind
  grind
 ·cases ex with
  | inl e=>obtain ⟨rfl,h⟩:=hex;exact AGp ⟨λh1=>Bool.noConfusion h1,λh1=>absurd h1.1 h⟩
  | inr u=>
    dsimp only at hex ⊢
    have h0:∀ k,k<=0->0 < det k F:=λk hk=>by
     obtain rfl:k=0:=by omega
     simp [det]
    refine AGw (AT8 (λi s=>s=((i:Nat):Int)/\i<=n/\ ∀ k,k<=i->0 < det k F) n (Q:=λex=>match ex with | .inl e=>e=false/\¬ Ahx n F | .inr _=>Ahx n F) ⟨rfl,Nat.zero_le _,h0⟩ AGl λi s hi hI=>?_) λex Ad=>?_
    ·obtain ⟨rfl,hin,hp⟩:=hI
     unfold Abt
     rw [AT1]
     refine ATj (λh=>?_) λh=>AGp ?_
     ·have hi':i < n:=by omega
      refine ATy (ATm hi') rfl (AGw (AUa (a:=AZd<|det (i + 1) F) rfl) λc hc=>?_)
      subst hc
      refine ATj (λh3=>AGp ⟨rfl,λh4=>?_⟩) λh3=>AGp ⟨AGl,by rw [wk AGl];simp,AGl,λk hk=>?_⟩
      ·have:=h4 (i + 1) AGl;have:=(A3m _).1 h3;omega
      ·rcases Nat.lt_or_ge k (i + 1) with h4 | h4
       ·grind
       ·obtain rfl:k=i + 1:=by omega
        rw [A3m] at h3;omega
     ·obtain rfl:i=n:=by omega
      exact hp
    ·cases ex with
     | inl e=>obtain ⟨rfl,h⟩:=Ad;exact AGp ⟨λh1=>Bool.noConfusion h1,λh1=>absurd h1.2 h⟩
     | inr u=>exact AGp ⟨λ_=>⟨hex,Ad⟩,λ_=>rfl⟩
theorem Aqn {n:Nat} (Ab:1<=n) (hn:n<=8) (hb:∀ i j,i < n->j < n->(F i j).natAbs<=mN n) (hf:100 < fuel):Ok (AVt fuel<|tab n n F) λr=>r=0↔Af8 n F/\Ahx n F:=by
 unfold AVt;refine AGw (AUa<|Awv Ab AGl hf) λx hx=>?_;subst hx;dsimp only;refine ATj (λh=>absurd h AGn) λ_=>ATj (λh=>by omega) λ_=>AGw (BDf AGl hf) λr hr=>ATj (λh=>AGp ⟨λh1=>by omega,λh1=>?_⟩) λh=>AGw (BGq Ab hn hb hf) λq hq=>ATj (λh2=>AGp ⟨λh1=>by omega,λh1=>?_⟩) λh2=>AGp ⟨λ_=>hq.1 ?_,λ_=>rfl⟩
 ·grind
 ·grind
 grind
theorem A3n {n:Nat} (hn:n<=8) (hb:∀ i j,i < n->j < n->(F i j).natAbs<=mN n) (hf:100 < fuel):AYn fuel (tab n n F)=some (decide (det n F<=10000)):=by
 apply ok_eq;unfold AYn;refine AGw (AUa<|Arj hn (Nat.le_refl _) hb AGl) λx hx=>?_;subst hx;refine AGw (Q:=(· =10000)) ⟨10000,if_pos AGl,rfl⟩ λy hy=>?_;subst hy;refine AGw (AUa (a:=Amt (det n F) 10000) rfl) λc hc=>AGp ?_;subst hc;exact decide_eq_decide.2<|Ax6 _ _
def idS (i r c:Nat):Int:=if r=c/\r < i then 1 else 0
theorem A3o {n:Nat} (hn:1<=n) (Ab:n<=16) (hf:100 < fuel):AW2 fuel (n:Int)=some (tab n n dl,true):=by
 apply ok_eq;unfold AW2;refine AGw (Q:=λex=>match ex with | .inl _=>False | .inr _=>True) (ATj (λh=>by omega) λ_=>ATj (λh=>by omega) λ_=>AGp trivial) λex hex=>?_
 cases ex with
 | inl e=>exact hex.elim
 | inr u=>
   dsimp only
   refine AGw (AUa<|Atg AGl AGl AGl) λO hO=>?_
   have Aa:O=tab n n (idS 0):=by
    rw [hO,AXs n (0:Int),AXs,Ajv]
    exact AUq λr _=>AUq λc _=>by unfold idS;omega
   have hlen:O.length=n:=by grind
   refine AGw (AT8 (λi s=>s=(((i:Nat):Int),tab n n<|idS i)/\i<=n) n (Q:=(· =tab n n dl)) ⟨by rw [Aa];rfl,Nat.zero_le _⟩ AGl λi s hi hI=>?_) λe he=>AGp (by rw [he])
   obtain ⟨rfl,hin⟩:=hI
   unfold Abr
   dsimp only
   rw [hlen]
   refine ATj (λh=>?_) λh=>AGp ?_
   ·have hi':i < n:=by omega
    refine ATy (ATv hi') rfl (AGw (Q:=(· =1)) ⟨1,if_pos AGl,rfl⟩ λy hy=>ATy (ATm hi') rfl (AGp ⟨AGl,?_,AGl⟩))
    subst hy
    rw [wk AGl,Aqm]
    refine Prod.ext AGl<|Ai0 λr c hr hc=>?_
    rw [AUb]
    unfold idS
    omega
   ·refine Ai0 λr c hr hc=>?_
    unfold idS dl
    omega
def toS (n:Nat) (F:AS9) (i:Nat):List (List Int):=AU9 n λr=>if r < i then AU9 n (F r) else []
def toR (n:Nat) (F:AS9) (i j:Nat):List (List Int):=AU9 n λr=>if r < i then AU9 n (F r) else if r=i then AU9 n (λc=>if c < j then F i c else 0) else []
theorem BGs {n:Nat} (hn:1<=n) (Ac:n<=16) (hb:∀ i j,i < n->j < n->(F i j).natAbs < 9223372036854775808) (hf:100 < fuel):AZj fuel (tab n n F)=some (tab n n F,true):=by
 apply ok_eq;unfold AZj;refine AGw (AUa<|Au5 hn Ac hf) λx hx=>?_;subst hx;dsimp only;refine ATj (λh=>absurd h AGn) λ_=>AVc AGl<|AGw (AT8 (λi s=>s=(((i:Nat):Int),toS n F i)/\i<=n) n (Q:=λex=>match ex with | .inl _=>False | .inr e=>e=tab n n F) ⟨?_,Nat.zero_le _⟩ AGl λi s hi hI=>?_) λex hex=>?_
 ·rw [Int.toNat_natCast,AXs];exact congrArg (Prod.mk (0:Int)) (AUq λr _=>by grind)
 ·obtain ⟨rfl,hin⟩:=hI;unfold Ado;dsimp only;rw [List.length_replicate,Int.toNat_natCast];refine ATj (λh=>AVc AGl ?_) λh=>AGp ?_
  ·have hi':i < n:=by omega
   have e0:sI (toS n F i) (i:Int) (List.replicate n (0:Int))=toR n F i 0:=by
    rw [AUx];unfold toS;rw [AXd]
    refine AUq λr _=>?_
    by_cases h1:r=i
    ·rw [if_pos h1,if_neg AGl,if_pos h1,AXs];grind
    grind
   refine ATy (n:=i) (ATm hi') rfl ?_;rw [e0];refine ATy (n:=i) (ATm hi') rfl ?_;rw [if_neg AGl,if_pos rfl];refine AGw (AT8 (λj s=>s=(((j:Nat):Int),toR n F i j)/\j<=n) n (Q:=λex=>match ex with | .inl _=>False | .inr e=>e=toS n F (i + 1)) ⟨rfl,Nat.zero_le _⟩ AGl λj s hj hJ=>?_) λex hex=>?_
   ·obtain ⟨rfl,hjn⟩:=hJ;unfold Adn;dsimp only;rw [AT1];refine ATj (λh2=>?_) λh2=>AGp ?_
    ·have hj':j < n:=by omega
     refine ATy (ATv hi') rfl (ATy (ATm hj') rfl (AGw (Q:=(· =(F i j,true))) ⟨_,if_pos<|hb i j hi' hj',rfl⟩ λy hy=>?_));subst hy;dsimp only;refine ATj (λh=>absurd h AGn) λ_=>ATy (n:=i) (ATm hi') rfl ?_;rw [if_neg AGl,if_pos rfl];refine ATy (ATm hj') rfl (AGp ⟨AGl,?_,AGl⟩);rw [wk AGl,AUx,AUx];refine Prod.ext AGl ?_;dsimp only;unfold toR;rw [AXd,AXd];refine AUq λr _=>?_;by_cases h1:r=i
     ·grind
     grind
    ·refine AUq λr _=>?_;by_cases h1:r < i
     ·grind
     ·rw [if_neg h1];by_cases h3:r=i
      ·rw [if_pos h3,if_pos AGl,h3];exact AUq λc hc=>by omega
      grind
   ·cases ex with
    | inl e=>exact hex.elim
    | inr e=>exact AGp ⟨AGl,by rw [wk AGl,hex];simp,AGl⟩
  ·refine AUq λr hr=>?_;rw [if_pos AGl];rfl
 ·cases ex with
  | inl e=>exact hex.elim
  | inr e=>exact AGp (by rw [hex])
theorem Au6 {S E:Type} {body:S->Option (S ⊕ E)} {Q:E->Prop} (I:S->Prop) (μ:S->Nat) (hs:∀ s,I s->Ok (body s) λr=>match r with | .inl s'=>I s'/\μ s' < μ s | .inr e=>Q e):∀ {fuel:Nat} {s0:S},I s0->μ s0 < fuel->Ok (iter body fuel s0) Q:=by
 intro fuel;induction fuel with
 | zero=>omega
 | succ f ih=>
   intro s0 h0 hf;obtain ⟨r,hr,hq⟩:=hs s0 h0;cases r with
   | inl s'=>
     obtain ⟨e,he,hQ⟩:=ih hq.1 AGl;exact ⟨e,by simp [iter,hr,he],hQ⟩
   | inr e=>exact ⟨e,by simp [iter,hr],hq⟩
theorem Akl (a:Int):AZd a=0↔a=0:=by unfold AZd;omega
theorem A3p (a:Int):AZd a < 0↔a < 0:=by unfold AZd;omega
theorem A85 {b:Int} (ha:a.natAbs < AWk) (hb:b.natAbs < AWk) (h0:b≠0):AV2 fuel a b=some (a / b):=by
 apply ok_eq;unfold AV2;refine AGw (AUa (a:=(a / b,a % b,true))<|if_pos ⟨ha,hb,h0⟩) λx hx=>?_;subst hx;exact AGp rfl
theorem BGt {b:Int} (ha:a.natAbs < AWk) (hb:b.natAbs < AWk) (h0:b≠0):AW7 fuel a b=some (a % b):=by
 apply ok_eq;unfold AW7;refine AGw (AUa (a:=(a / b,a % b,true))<|if_pos ⟨ha,hb,h0⟩) λx hx=>?_;subst hx;exact AGp rfl
theorem BGu {b:Int} (ha:a.natAbs < AWk) (hb:b.natAbs < AWk) (h0:b≠0) (hf:AWk < fuel):Ok (Abh fuel a b) λg=>0 < g/\g ∣ a/\g ∣ b:=by
 unfold Abh;refine AGw (AUa (a:=(a.natAbs:Int)) rfl) λx hx=>AGw (AUa (a:=(b.natAbs:Int)) rfl) λy hy=>?_;subst hx;subst hy;refine AGw (Au6 (λs:Int × Int=>0<=s.1/\0<=s.2/\s.1.natAbs < AWk/\s.2.natAbs < AWk/\(0 < s.1∨0 < s.2)/\ ∀ d:Int,d ∣ s.1->d ∣ s.2->d ∣ a/\d ∣ b) (λs=>s.2.natAbs) (Q:=λg=>0 < g/\g ∣ a/\g ∣ b) (λs hs=>?_) ⟨AGl,AGl,AGl,AGl,.inr AGl,λd h1 h2=>⟨Int.dvd_natAbs.1 h1,Int.dvd_natAbs.1 h2⟩⟩ AGl) λg hg=>AGp hg;obtain ⟨u,v⟩:=s;obtain ⟨h1,h2,h3,h4,h5,h6⟩:=hs;unfold Aft;dsimp only at h1 h2 h3 h4 h5 h6 ⊢;refine AGw (AUa (a:=AZd v) rfl) λs hs=>?_;subst hs;refine ATj (λhv=>?_) λhv=>AGp ?_
 ·have Ad:v≠0:=λh=>hv<|(Akl v).2 h;refine AGw (AUa<|BGt h3 h4 Ad) λr hr=>AGp ?_;subst hr;have e1:=Int.emod_nonneg u Ad;have e2:=Int.emod_lt_of_pos u (show 0 < v by omega);refine ⟨⟨h2,e1,h4,AGl,.inl AGl,λd d1 d2=>h6 d ?_ d1⟩,AGl⟩;have:=Int.dvd_add d2<|Int.dvd_trans d1 ⟨u / v,rfl⟩;rwa [Int.emod_add_mul_ediv] at this
 ·have Ad:v=0:=by
   rcases Decidable.em (AZd v=0) with h | h
   ·exact (Akl v).1 h
   omega
  simp_all
def FrE (n d n' d':Int):Prop:=0 < d'/\n' * d=n * d'/\n'.natAbs<=n.natAbs/\d'.natAbs<=d.natAbs
theorem BDg {b:Int} (ha:a.natAbs < AWk) (hb:b.natAbs < AWk) (h0:b≠0) (hf:AWk < fuel):Ok (AZx fuel a b) λr=>r.2=true/\FrE a b r.1.1 r.1.2:=by
 unfold AZx;refine AGw (AUa (a:=AZd b) rfl) λs hs=>?_;subst hs;refine ATj (λh=>absurd ((Akl b).1 h) h0) λ_=>AGw (Q:=λe:Int × Int=>0 < e.2/\e.1 * b=a * e.2/\e.1.natAbs=a.natAbs/\e.2.natAbs=b.natAbs) (AGw (AUa (a:=AZd b) rfl) λs hs=>?_) λe he=>?_
 ·subst hs;refine ATj (λh=>?_) λh=>AGp ⟨?_,rfl,rfl,rfl⟩
  ·have:=(A3p b).1 h;refine AGw (AUa (a:= -a) rfl) λx hx=>AGw (AUa (a:= -b) rfl) λy hy=>AGp ?_;grind
  ·have: ¬ b < 0:=λh2=>h<|(A3p b).2 h2;omega
 ·obtain ⟨u,v⟩:=e;obtain ⟨h1,h2,h3,h4⟩:=he;dsimp only at h1 h2 h3 h4 ⊢;refine AGw (BGu (a:=u) (b:=v) AGl AGl AGl hf) λg hg=>?_;obtain ⟨g1,⟨u',rfl⟩,⟨v',rfl⟩⟩:=hg;have gn:g≠0:=by omega
  have hv':0 < v':=Int.pos_of_mul_pos_right h1 g1;have e1:(g * u').natAbs=g.natAbs * u'.natAbs:=Int.natAbs_mul _ _;have e2:(g * v').natAbs=g.natAbs * v'.natAbs:=Int.natAbs_mul _ _;have g2:1<=g.natAbs:=by omega
  have m1:=Nat.mul_le_mul_right u'.natAbs g2;have m2:=Nat.mul_le_mul_right v'.natAbs g2;have m3:=Nat.mul_le_mul_left g.natAbs (show 1<=v'.natAbs by omega);refine AGw (AUa<|A85 AGl AGl gn) λx hx=>AGw (AUa<|A85 AGl AGl gn) λy hy=>AGp ⟨rfl,?_⟩;subst hx;subst hy;rw [Int.mul_ediv_cancel_left _ gn,Int.mul_ediv_cancel_left _ gn];refine ⟨hv',?_,by grind,by grind⟩;have:g * (u' * b)=g * (a * v'):=by grind
  exact Int.eq_of_mul_eq_mul_left gn this
theorem Ax7 {b:Int} (ha:a.natAbs < AWk) (hb:b.natAbs < AWk) (h0:b≠0) (hf:AWk < fuel):Ok (AVm fuel a b) λr=>FrE a b r.1 r.2:=by
 unfold AVm;refine AGw (BDg ha hb h0 hf) λr hr=>?_;obtain ⟨⟨x,y⟩,c⟩:=r;obtain ⟨h1,h2⟩:=hr;dsimp only at h1 h2 ⊢;subst h1;exact ATj (λh=>absurd h AGn) λ_=>AGp h2
theorem BEx {b:Int} (ha:a.natAbs < AWk) (hb:b.natAbs < AWk) (h0:b≠0) (hf:AWk < fuel):Ok (AYu fuel a b) λr=>FrE a b r.1 r.2:=by
 unfold AYu;exact AGw (Ax7 ha hb h0 hf) λr hr=>AGp hr
theorem A0e {N D N' D':Int} (hD:0 < D) (hD':0 < D') (h:N * D'=N' * D):N / D=N' / D':=by
 rw [<- Int.mul_ediv_mul_of_pos_left N D hD',h,Int.mul_comm D D',Int.mul_ediv_mul_of_pos_left N' D' hD]
theorem BEy {b:Int} (hab:4 * (a.natAbs + b.natAbs) < AWk) (h0:0 < b) (hf:AWk < fuel):Ok (AY9 fuel a b) λr=>r=(2 * a + b) / (2 * b):=by
 have Ag:(1:Int).natAbs < AWk:=by
  omega
 have Ah:(2:Int).natAbs < AWk:=by
  omega
 unfold AY9;refine AGw (Q:=(· =(1,2))) ?_ λhh he=>?_
 ·unfold Ad1;exact AGw (Q:=(· =1)) ⟨1,if_pos AGl,rfl⟩ λx hx=>AGw (Q:=(· =2)) ⟨2,if_pos AGl,rfl⟩ λy hy=>AGp (by rw [hx,hy])
 subst he;dsimp only;refine AGw (Q:=λr=>0 < r.2/\r.1 * (2 * b)=(2 * a + b) * r.2/\r.1.natAbs < AWk/\r.2.natAbs < AWk) ?_ λr hr=>?_
 ·unfold Aeo;refine AGw (Ax7 AGl AGl AGl hf) λx hx=>AGw (Ax7 (a:=1) (b:=2) Ag Ah AGl hf) λy hy=>?_;obtain ⟨x1,x2⟩:=x;obtain ⟨y1,y2⟩:=y;obtain ⟨a1,a2,a3,a4⟩:=hx;obtain ⟨b1,b2,b3,b4⟩:=hy;dsimp only at *;obtain rfl:y2=2:=by omega
  obtain rfl:y1=1:=by omega
  refine AGw (AUa (a:=x1 * 2)<|if_pos<|by grind) λu hu=>AGw (AUa (a:=1 * x2)<|if_pos<|by grind) λv hv=>?_;subst hu;subst hv;refine AGw (AUa (a:=x1 * 2 + 1 * x2)<|if_pos ⟨AGl,AGl⟩) λw hw=>AGw (AUa (a:=x2 * 2)<|if_pos<|by grind) λz hz=>?_;subst hw;subst hz;refine AGw (BDg AGl AGl AGl hf) λr hr=>AGp ?_;obtain ⟨⟨r1,r2⟩,c⟩:=r;obtain ⟨-,c1,c2,c3,c4⟩:=hr;dsimp only at *;refine ⟨c1,?_,AGl,AGl⟩;have h1:x2 * (r1 * (2 * b))=x2 * ((2 * a + b) * r2):=by grind
  exact Int.eq_of_mul_eq_mul_left (show x2≠0 by omega) h1
 ·obtain ⟨r1,r2⟩:=r;obtain ⟨h1,h2,h3,h4⟩:=hr;dsimp only at *;unfold Ac4;refine AGw (Q:=λr=>r=(2 * a + b) / (2 * b)) (AGw (Ax7 h3 h4 AGl hf) λx hx=>?_) λz hz=>AGp hz;obtain ⟨x1,x2⟩:=x;obtain ⟨a1,a2,a3,a4⟩:=hx;dsimp only at *;refine AGw (AUa<|A85 AGl AGl AGl) λq hq=>AGp ?_;subst hq;refine A0e a1 AGl ?_;have h5:r2 * (x1 * (2 * b))=r2 * ((2 * a + b) * x2):=by grind
  exact Int.eq_of_mul_eq_mul_left (show r2≠0 by omega) h5
end Go.Proofs.YtkakafabeobahaaGreatDoor
namespace Go.Proofs.YtkakafabeobahaaGreatDoor
open Go Go.QF
set_option maxRecDepth 100000
theorem A0f {n:Nat} (hn:n<=8) (hj:j + 1 < n) (hb:∀ i j,i < n->j < n->(F i j).natAbs<=mN n) (hf:100 < fuel):Ok (AX3 fuel (tab n n F) (AU9 n λa=>det (a + 1) F) ((j + 1:Nat):Int)) λr=>r=true↔LvF F j:=by
 show Ok _ λr:Bool=>r=true↔3 * (det (j + 1) F * det (j + 1) F)<=4 * (det j F * det (j + 2) F + Mn j F (j + 1) j * Mn j F (j + 1) j);unfold AX3;have w1:w64 (((j + 1:Nat):Int) - 1)=(j:Int):=by rw [wk AGl];omega
 have w2:w64 (((j + 1:Nat):Int) + 1)=((j + 2:Nat):Int):=by rw [wk AGl];omega
 rw [w1,w2];have hD:=A8g n;have bl:(Mn j F (j + 1) j).natAbs<=gN n:=Au4 hn AGl AGl AGl hb;have b0:(det j F).natAbs<=gN n:=Ao9 hn AGl hb;have b1:(det (j + 1) F).natAbs<=gN n:=Ao9 hn AGl hb;have b2:(det (j + 2) F).natAbs<=gN n:=Ao9 hn AGl hb;have p1:=Nat.mul_le_mul b0 b2;have p2:=Nat.mul_le_mul bl bl;have p3:=Nat.mul_le_mul b1 b1;have e1:=Int.natAbs_mul (det j F)<|det (j + 2) F;have e2:=Int.natAbs_mul (Mn j F (j + 1) j)<|Mn j F (j + 1) j;have e3:=Int.natAbs_mul (det (j + 1) F)<|det (j + 1) F;refine AGw (AUa<|Au3 hn AGl AGl hb hf) λl hl=>?_;subst hl;refine AGw (Q:=(· =4)) ⟨4,if_pos AGl,rfl⟩ λx hx=>?_;subst hx;refine AGw (AUa<|Apw AGl hn) λx hx=>AGw (AUa<|Apw AGl hn) λy hy=>?_;subst hx;subst hy;refine AGw (AUa (a:=det j F * det (j + 2) F)<|if_pos AGl) λx hx=>AGw (AUa (a:=Mn j F (j + 1) j * Mn j F (j + 1) j)<|if_pos AGl) λy hy=>?_;subst hx;subst hy;generalize det j F * det (j + 2) F=P at *;generalize Mn j F (j + 1) j * Mn j F (j + 1) j=L at *;refine AGw (AUa (a:=P + L)<|if_pos AGl) λx hx=>AGw (AUa (a:=4 * x)<|if_pos<|by grind) λy hy=>?_;subst hx;subst hy;refine AGw (Q:=(· =3)) ⟨3,if_pos AGl,rfl⟩ λx hx=>?_;subst hx;refine AGw (AUa<|Apw AGl hn) λx hx=>AGw (AUa<|Apw AGl hn) λy hy=>?_;subst hx;subst hy;refine AGw (AUa (a:=det (j + 1) F * det (j + 1) F)<|if_pos AGl) λx hx=>?_;subst hx;generalize det (j + 1) F * det (j + 1) F=S at *;refine AGw (AUa (a:=3 * S)<|if_pos<|by grind) λx hx=>AGw (AUa (a:=Amt (4 * (P + L)) x) rfl) λc hc=>AGp ?_;subst hx;subst hc;rw [decide_eq_true_iff];unfold Amt;omega
def Am1 (A:AS9) (i j:Nat):Int:= -((2 * Mn j A i j + det (j + 1) A) / (2 * det (j + 1) A))
def Aqo (A:AS9) (i j:Nat):AS9:=AUw dl j λq=>if q=i then Am1 A i j else dl j q
def Ald (A:AS9) (i:Nat):Prop:= ∀ r l,l < r->r < i->SzF A r l
def Am2 (A:AS9) (i:Nat):Prop:= ∀ r,r + 1 < i->LvF A r
def A86 (n:Nat) (A:AS9) (r:List (List Int) × Bool):Prop:=
 (r=([],false)/\Ald A n/\Am2 A n)∨
 (∃ i j,j < i/\i < n/\¬ SzF A i j/\Ald A i/\(∀ l,l < i->j < l->SzF A i l)/\Am2 A i/\r=(tab n n<|Aqo A i j,true))∨
 ∃ j,j + 1 < n/\¬ LvF A j/\Ald A (j + 2)/\Am2 A (j + 1)/\r=(tab n n<|AXx dl (j + 1) j,true)
theorem BEz {n:Nat} (Ah:1<=n) (hn:n<=8) (hp:Ahx n A) (hb:∀ i j,i < n->j < n->(A i j).natAbs<=mN n) (hf:AWk < fuel):Ok (Aar fuel<|tab n n A) (A86 n A):=by
 have Ab:100 < fuel:=Nat.lt_of_le_of_lt AGn hf;have hD:=A8g n;unfold Aar;refine AGw (AUa<|Asi Ah hn hb Ab) λx hx=>?_;subst hx;dsimp only;rw [ATt];refine AGw (AUa<|A3o Ah AGl Ab) λx hx=>?_;subst hx;dsimp only;refine AGw (AT8 (λi s=>s=(((i:Nat):Int),tab n n dl)/\i<=n/\Ald A i/\Am2 A i) n (Q:=λex=>match ex with | .inl r=>A86 n A r | .inr _=>Ald A n/\Am2 A n) ⟨rfl,Nat.zero_le _,λr l h1 h2=>by omega,λr h=>by omega⟩ AGl λi s hi hI=>?_) λex hex=>?_
 ·obtain ⟨rfl,hin,hsz,hlv⟩:=hI;unfold Ae2;dsimp only;rw [ATt];refine ATj (λh=>?_) λh=>AGp ?_
  ·have hi':i < n:=by omega
   refine AGw (AT8 (λk s=>s=((i:Int) - 1 - k,tab n n dl)/\k<=i/\ ∀ l,l < i->i<=l + k->SzF A i l) i (Q:=λex=>match ex with | .inl r=>A86 n A r | .inr e=>e=tab n n dl/\ ∀ l,l < i->SzF A i l) ⟨by rw [wk AGl];simp,Nat.zero_le _,λl h1 h2=>by omega⟩ AGl λk s hk hK=>?_) λex hex=>?_
   ·obtain ⟨rfl,hki,hz⟩:=hK;unfold Ae1;dsimp only;refine ATj (λh2=>?_) λh2=>AGp ⟨rfl,λl hl=>hz l hl AGl⟩;obtain ⟨j,hj⟩:∃ j:Nat,(i:Int) - 1 - k=j:=⟨i - 1 - k,AGl⟩;rw [hj];have hji:j < i:=by omega
    refine AGw (AUa<|A3j hn hi' AGl hb Ab) λb Ag=>?_;subst Ag;refine ATj (λh3=>?_) λh3=>AGp ⟨AGl,?_,AGl,λl h4 h5=>?_⟩
    ·have hbad: ¬ SzF A i j:=λh=>by rw [<- Atm] at h;simp [h] at h3
     refine ATy (ATv AGl) rfl (AGw (AUa<|Au3 hn hi' AGl hb Ab) λl hl=>?_);subst hl;rw [show w64 ((j:Int) + 1)=((j + 1:Nat):Int) by rw [wk AGl];omega];refine AGw (AUa<|Apw AGl hn) λd hd=>?_;subst hd;have bl:(Mn j A i j).natAbs<=gN n:=Au4 hn hi' AGl AGl hb;have b1:(det (j + 1) A).natAbs<=gN n:=Ao9 hn AGl hb;have hd:=hp (j + 1) AGl;have hDD:gN n<=gN n * gN n:=Nat.le_mul_of_pos_left _ AGl;refine AGw (BEx AGl AGl AGl hf) λq hq=>?_;obtain ⟨x,y⟩:=q;obtain ⟨q1,q2,q3,q4⟩:=hq;dsimp only at q1 q2 q3 q4 ⊢;refine AGw (BEy AGl q1 hf) λm hm=>AGw (AUa (a:= -m) rfl) λc hc=>?_
     have Ao:c=Am1 A i j:=by
      rw [hc,hm]
      unfold Am1
      congr 1
      refine A0e AGl AGl ?_
      grind
     clear hm hc;refine ATy (ATm hi') rfl (AGp<|.inr<|.inl ⟨i,j,hji,hi',hbad,hsz,λl h4 h5=>hz l h4 AGl,hlv,?_⟩);rw [AUx,AUx,AXd,Ao,show (AU9 n λq=>if q=i then Am1 A i j else dl j q)=(List.range n).map λq=>if q=i then Am1 A i j else dl j q from rfl,Aeu];rfl
    ·rw [wk AGl];grind
    ·have hgood:SzF A i j:=by rw [<- Atm];simpa using h3
     grind
   ·cases ex with
    | inl r=>exact AGp hex
    | inr e=>
      obtain ⟨rfl,hzi⟩:=hex
      have hsz':Ald A (i + 1):=λr l h1 h2=>by
       rcases Nat.lt_or_ge r i with h3 | h3
       ·exact hsz r l h1 h3
       grind
      dsimp only
      have nx:w64 ((i:Int) + 1)=((i + 1:Nat):Int):=by rw [wk AGl];omega
      refine ATj (λh4=>?_) λh4=>AGp ⟨AGl,by rw [nx],AGl,hsz',λr hr=>by omega⟩
      obtain ⟨j,rfl⟩:∃ j,i=j + 1:=⟨i - 1,AGl⟩
      refine AGw (A0f hn hi' hb Ab) λb Ag=>?_
      refine ATj (λh5=>?_) λh5=>AGp ⟨AGl,by rw [nx],AGl,hsz',λr hr=>?_⟩
      ·have hbad: ¬ LvF A j:=λh=>by grind
       rw [show w64 (((j + 1:Nat):Int) - 1)=(j:Int) by rw [wk AGl];omega]
       refine ATy (ATv AGl) rfl (ATy (ATv hi') rfl (AGp<|.inr<|.inr ⟨j,hi',hbad,hsz',hlv,?_⟩))
       rw [AUx,AUx,show AU9 n (dl j)=(List.range n).map (dl j) from rfl,show AU9 n (dl<|j + 1)=(List.range n).map (dl<|j + 1) from rfl,Aeu,Aeu]
       rfl
      ·have hgood:LvF A j:=Ag.1 (by simpa using h5)
       rcases Nat.lt_or_ge r j with h6 | h6
       ·exact hlv r AGl
       grind
  grind
 ·cases ex with
  | inl r=>exact AGp hex
  | inr u=>exact AGp<|.inl ⟨rfl,hex⟩
end Go.Proofs.YtkakafabeobahaaGreatDoor
namespace Go.QF
open Go
def PrI (p:Int):Prop:=2<=p/\ ∀ x y:Int,p ∣ x * y->p ∣ x∨p ∣ y
theorem PrI.ne (hp:PrI p):p≠0:=by have:=hp.1;omega
theorem AZg {a b:Nat} (h:a<=b):p ^ a ∣ p ^ b:=⟨p ^ (b - a),by rw [<- Int.pow_add];congr 1;omega⟩
theorem Ax8 {m:Int} (h:Eqm m x y) (hd:d ∣ m) (hy:d ∣ y):d ∣ x:=by
 have h1:m ∣ x - y:=Int.dvd_of_emod_eq_zero<|Int.emod_eq_emod_iff_emod_sub_eq_zero.1 h;have h2:=Int.dvd_add (Int.dvd_trans hd h1) hy;grind
theorem Aqp {m:Int} (h:m ∣ x - y):Eqm m x y:=Int.emod_eq_emod_iff_emod_sub_eq_zero.2<|Int.emod_eq_zero_of_dvd h
theorem Apa {m:Int} (h:Eqm m x y):m ∣ x - y:=Int.dvd_of_emod_eq_zero<|Int.emod_eq_emod_iff_emod_sub_eq_zero.1 h
theorem Eqm.down {m:Int} (h:Eqm m x y) (hd:d ∣ m):Eqm d x y:=Aqp<|Int.dvd_trans hd<|Apa h
theorem Ax9 {m:Int}:Eqm m x 0↔m ∣ x:=⟨λh=>by simpa using Apa h,λh=>Aqp<|by simpa using h⟩
def Car (n K:Nat) (p:Int) (D S D':AS9):Prop:= ∀ i j,i < n->j < n->Eqm (p ^ K) (AV3 n (trF S) (AV3 n D S) i j) (D' i j)
theorem A0g (c:Int) (f:Nat->Int) (n:Nat):c * psum f n=psum (λi=>c * f i) n:=(AZb c f n).symm
theorem A13 (c:Int) (f:Nat->Int) (n:Nat):psum f n * c=psum (λi=>f i * c) n:=by
 rw [Int.mul_comm,A0g];grind
section
variable {n K:Nat} {p:Int} {e f:Nat->Nat} {a b D D' S:AS9}
theorem BCd (hp:PrI p) (m:Nat):p ^ m≠0:=Int.pow_ne_zero hp.ne
theorem Ah7 {B C:AS9} (i j:Nat):AV3 n (AV3 n A B) C i j=AV3 n A (AV3 n B C) i j:=by
 unfold AV3;rw [AUi (g:=λk=>psum (λl=>A i l * B l k * C k j) n) λk _=>A13 _ _ _,Ar7]
 exact AUi λl _=>by
  rw [A0g]
  grind
end
end Go.QF
