/-
  Texts of a proof, joined. Conditions stand in each statement.
-/
import Derived.Lib.SmallJoins
import Derived.Test.YtkakafabeobahaaGreatDoorMDyadicTotals3
set_option linter.unusedVariables false
set_option linter.unusedSimpArgs false
open Go
variable {h:Go.QF.AG0} {A F G A0:Go.QF.ATa} {a x y last K p a1 a5 Dm d Ac:Int} {M:List (List Int)} {LA LB:List Nat} {B i la lb r t j fuel k l s D N q0:Nat} {f g:Nat->Int} {v va vb:Value}
namespace Go.Proofs.YtkakafabeobahaaGreatDoor.Ig
open Go Go.QF
set_option maxRecDepth 100000
structure BAq (h:AG0) (v:Value) (L:List Nat) (v':Value) (L':List Nat):Prop where
 sl:Sl h v' (L'.map Age)
 cap:Agu v'
 dig:Dig L'
 blk:v'.ownBlock=v.ownBlock
 val:nv L'=nv L
 len:L'.length<=L.length
 tg:∀ g,v.ownBlock=some g-> ∃ cur off,h[g]? =some (.cells cur 200 off)
theorem BAq.ds {lo:Nat} {v':Value} {L L':List Nat} (H:BAq h v L v' L') (hl:∀ g,v.ownBlock=some g->lo<=g):DS h lo v' L':=⟨H.sl,H.cap,H.dig,λg hg=>hl g<|H.blk ▸ hg,λg hg=>H.tg g<|H.blk ▸ hg⟩
theorem A7b {L:List Nat} (h:L[L.length - 1]? =some 0):nv (L.take<|L.length - 1)=nv L:=by
 have h1:L=L.take (L.length - 1) ++ [0]:=by
  have:=Aun h
  grind
 conv=>rhs;rw [h1,Ad6]
 simp
theorem Ae4 {L:List Nat} (H:DS h 0 v L) (hn:L.length<=1000000):AT3 Tryz.prog 191 #[v] h λx h'=>h'=h/\ ∃ L',BAq h v L x L'/\TL L':=by
 refine AUd (l:=[_]) mx Tryz.func191 rfl rfl rfl rfl rfl AG3 (AGt<|AG1<|AGv<|AGw<|AW9 1048569 (λy:Value × List Nat=>[(0,y.1)]) (λk y h'=>h'=h/\y.2.length=k/\BAq h v L y.1 y.2) AG3 L.length (v,L) ?_ ⟨rfl,trivial⟩ ?_)
 ·exact ⟨rfl,rfl,H.sl,H.cap,H.dig,rfl,rfl,Nat.le_refl _,H.tg⟩
 rintro k ⟨u,Lu⟩ s1 h ⟨rfl,rfl,HT⟩;dsimp only at HT ⊢;refine AGv<|AGt<|AGq<|Ao1 ATo rfl HT.sl ?_;rw [List.length_map];have hLlen:=HT.len;refine Ajg rfl rfl (λAa=>?_) (λAa=>?_)
 ·refine AGq<|AUs 6 true AG3 rfl rfl (AGq<|AUs 6 true AG3 rfl rfl (AGq<|AUs 6 true AG3 rfl rfl (Ao1 ATo rfl HT.sl ?_)));rw [List.length_map];refine AUs 6 true AG3 rfl rfl (Ae9 rfl rfl AGp AGp ?_);rw [show ((Lu.length:Nat):Int) - 1=((Lu.length - 1:Nat):Int) by omega];obtain ⟨x,hx⟩:∃ x,Lu[Lu.length - 1]? =some x:=⟨_,List.getElem?_eq_getElem AGp⟩;refine AUs 6 true AG3 rfl rfl (Asf ATo rfl HT.sl rfl (Akb hx) λa1 Ab=>AUs 6 true AG3 rfl rfl (AT2 AVo rfl Ab (AUs 6 true AG3 rfl rfl (Ak7 rfl rfl (λAc=>?_) (λAc=>?_)))))
  ·refine ATp rfl (AGx<|AT0 rfl (AG5<|q_t<|AGw<|ATd<|AGq<|AGq<|Ao1 ATo rfl HT.sl ?_));rw [List.length_map];refine Ae9 rfl rfl AGp AGp ?_;rw [show ((Lu.length:Nat):Int) - 1=((Lu.length - 1:Nat):Int) by omega];have Ad:Lu[Lu.length - 1]? =some 0:=by rw [hx];congr 1;omega
   refine Avs (v:=u) ATo rfl HT.sl HT.cap rfl (by rw [List.length_map];omega) λv9 Af Ag Ah=>?_;refine ATu<|ATr<|q_b<|q_t ?_;exact ⟨Lu.length - 1,(v9,Lu.take<|Lu.length - 1),by first | omega | (dsimp only;omega),⟨rfl,AT6,⟨by dsimp only;rw [List.map_take];exact Af,Ag,Apn HT.dig _,Ah.trans HT.blk,by rw [A7b Ad];exact HT.val,by rw [List.length_take];have:=HT.len;omega,HT.tg⟩⟩,rfl,trivial⟩
  ·refine ATp rfl (AGx<|ATw rfl (ATj<|ATk<|ATk<|AUh<|q_t<|AGt<|AGq<|AG1<|AG6<|⟨_,AS9,?_⟩));refine ⟨rfl,Lu,HT,λy hy=>?_⟩
   first
   | (have:Lu=[]:=List.length_eq_zero_iff.1 AGp;rw [this] at hy;cases hy)
   | (rw [List.getLast?_eq_getElem?,hx] at hy;injection hy with hy;subst hy;omega)
 ·refine AGq<|AUl 6 false AG3 rfl rfl (AUl 6 false AG3 rfl rfl (AUl 6 false AG3 rfl rfl (AUl 6 false AG3 rfl rfl (AUl 6 false AG3 rfl rfl (AUl 6 false AG3 rfl rfl (AUl 6 false AG3 rfl rfl (ATs rfl (AGx<|ATw rfl (ATj<|ATk<|ATk<|AUh<|q_t<|AGt<|AGq<|AG1<|AG6<|⟨_,AS9,?_⟩)))))))));refine ⟨rfl,Lu,HT,λy hy=>?_⟩
  first
  | (have:Lu=[]:=List.length_eq_zero_iff.1 AGp;rw [this] at hy;cases hy)
  | (rw [List.getLast?_eq_getElem?,hx] at hy;injection hy with hy;subst hy;omega)
theorem Aih (w:Nat) (hw:w < 18446744073709551616) (h:AG0):AT3 Tryz.prog 188 #[.int .u64 (w:Int)] h λx h'=>Ext h h'/\ ∃ L,DS h' (Array.size h) x L/\TL L/\nv L=w/\L.length<=2:=by
 refine AUd (l:=[_]) mx Tryz.func188 rfl rfl rfl rfl rfl AG3 (AGt<|AT5<|AGq<|Ac5 AVw AWb rfl ?_);rw [show IntKind.u32.wrap (w:Int)=((w % 4294967296:Nat):Int) by rw [wrap_u32];omega];refine AGq<|Are (n:=32) rfl rfl AGr (Ac5 AVw AWb rfl ?_);rw [show IntKind.u32.wrap ((w:Int) / 2 ^ 32)=((w / 4294967296:Nat):Int) by rw [wrap_u32];omega];have e1:IntKind.u32.wrap (w:Int)=((w % 4294967296:Nat):Int):=by rw [wrap_u32];omega
 have e2:IntKind.u32.wrap ((w:Int) / 2 ^ 32)=((w / 4294967296:Nat):Int):=by rw [wrap_u32];omega
 have hdg:Dig [w % 4294967296,w / 4294967296]:=by intro x hx;simp only [List.mem_cons,List.not_mem_nil,or_false] at hx;rcases hx with rfl | rfl <;> omega
 refine A5v ([w % 4294967296,w / 4294967296].map Age) ATo Ad9 rfl (λ_=>trivial) rfl AGp AGp rfl (by simp [Age,isOne]) λg1 v1 h1 Ad E1 Ae Aj=>?_;have Ak:=E1.1;have Z2:=(Ext.refl h).trans E1;have Ab:=Ad.ds (lo:=Array.size h) hdg Ae;refine ATl trivial rfl (Ae4 (Ab.mono<|Nat.zero_le _) AT6) λx3 h1 hk=>?_;obtain ⟨rfl,L2,HT,htl⟩:=hk;refine ⟨trivial,?_⟩;refine AG1<|AG6<|⟨_,AS9,?_⟩;exact ⟨E1,L2,HT.ds Ab.lo,htl,by rw [HT.val];simp only [nv];omega,by have:=HT.len;simpa using this⟩
theorem Ar1 {lo:Nat} {L:List Nat} (H:DS h lo v L) (hn:L.length<=2):AT3 Tryz.prog 205 #[v] h λx h'=>h'=h/\x= .int .u64 (nv L:Int):=by
 refine AUd (l:=[_]) mx Tryz.func205 rfl rfl rfl rfl rfl AG3 (AGt<|AT5<|AG1<|AGv<|AGt<|AGq<|Ao1 ATo rfl H.sl ?_);rw [List.length_map];refine AGq<|AGx<|AGw<|AW9 2096952 (λy:Nat × Nat=>[(8,.int .i64 (y.1:Int)),(3,.int .u64 (y.2:Int))]) (λk y h'=>h'=h/\k=L.length - y.1/\y.1<=L.length/\y.2=nv (L.take y.1)) AG3 L.length (0,0) ?_ ⟨rfl,rfl,trivial⟩ ?_
 ·exact ⟨rfl,rfl,Nat.zero_le _,rfl⟩
 rintro k ⟨i,w⟩ s1 h ⟨rfl,rfl,hi,hw⟩;dsimp only at hi hw ⊢;subst hw;refine AGt<|AXh rfl rfl (λAb=>?_) (λAb=>?_)
 ·refine AGx<|AGv<|AT0 rfl (AG5<|q_t<|AGv<|AGw<|AGv ?_);obtain ⟨x,hx⟩:∃ x,L[i]? =some x:=⟨_,List.getElem?_eq_getElem AGp⟩;have hxb:=H.dig x<|List.mem_of_getElem? hx;refine ATd<|AGq<|Asf ATo rfl H.sl rfl (Akb hx) λAf Ac=>AT2 AVo rfl Ac (ATu<|AG1<|ATd<|AGq<|AGq<|BB7 AWb AVw rfl (by rw [wrap_u64];omega) ?_);refine AGq<|Agp rfl rfl AGp AGp ?_;rw [show (32:Int) * (i:Int)=((32 * i:Nat):Int) by omega];refine Aup (n:=32 * i) rfl rfl (by show 32 * i<=64;omega) ?_;have Aa:i=0∨i=1:=by omega
  have hlt:=Ajl H.dig hi
  have hsh:IntKind.u64.wrap ((x:Int) * 2 ^ (32 * i))=((2 ^ (32 * i) * x:Nat):Int):=by
   rw [wrap_u64]
   rcases Aa with rfl | rfl
   ·simp;omega
   ·simp;omega
  rw [hsh]
  have Ad:2 ^ (32 * i) * x < 18446744073709551616:=by
   rcases Aa with rfl | rfl
   ·simp;omega
   ·simp;omega
  have Ae:nv (L.take i) < 18446744073709551616:=by
   rcases Aa with rfl | rfl
   ·simp at hlt ⊢;omega
   ·simp at hlt ⊢;omega
  refine Ana rfl rfl (.inr<|.inl rfl) (A5x Ae Ad) ?_;rw [A5y (by rw [<- Ao6];exact hlt),<- Ao6,<- AU7 hx];refine ATu<|ATr<|q_b<|q_t<|ATd<|Aci rfl AGp (AGq<|AGx ?_);exact ⟨L.length - (i + 1),(i + 1,nv<|L.take<|i + 1),by first | omega | (dsimp only;omega),⟨rfl,rfl,by first | omega | (dsimp only;omega),rfl⟩,rfl,rfl,trivial⟩
 ·refine AGx<|AGv<|ATw rfl (ATj<|ATk<|ATk<|AUh<|q_t<|AGt<|AGq<|AG1<|AG6<|⟨_,AS9,?_⟩);obtain rfl:i=L.length:=by omega
  exact ⟨rfl,by rw [List.take_length] at *;rfl⟩
theorem Aha (w:World):(Instr.build 129 #[]).run Tryz.prog w= .ok (.agg #[.bool false,.slice none 0 0]) w:=by kernel_rfl
theorem Apr (b:Bool) (a:Option Addr) (n c:Nat) (w:World):(Instr.build 129 #[(0,.bool b),(1,.slice a n c)]).run Tryz.prog w= .ok (.agg #[.bool b,.slice a n c]) w:=by kernel_rfl
theorem Acm {lo:Nat} {s:Value} {L:List Nat} (neg:Bool) (H:DS h lo s L) (htl:TL L) (hn:L.length<=100):AT3 Tryz.prog 187 #[.bool neg,s] h λx h'=>Ext h h'/\ZV h' lo x (sgn neg<|nv L):=by
 obtain ⟨a,n,c,rfl,hnc⟩:=H.cap;refine AUd (l:=[_,_]) mx Tryz.func187 rfl rfl rfl rfl rfl AG3 (AGt<|AY2 [.bool false,.slice none 0 0] AXw rfl (λ_=>trivial) λAa h2 V3 E4 Ak Ar=>?_);have Au:Array.size h<=Aa:=Ak;have Av:=E4.1;have Z8:=(Ext.refl h).trans E4;refine AGx<|AGv<|AGt<|AGq<|Ao1 ATo rfl (H.sl.ext E4) ?_;rw [List.length_map];refine Ak7 rfl rfl (λAm=>?_) (λAm=>?_)
 ·refine AGx<|AT0 rfl (AGt<|AWp (v:= .agg #[.bool false,.slice none 0 0]) Aha<|AVe [.bool false,.slice none 0 0] AUi rfl rfl rfl rfl (by simp [isOne]) V3 λh9 Ao Ad=>?_);have Af:=E4.thenUpd Ad (λk hk=>by have Ac:k=Aa:=hk;omega);have Ax:=Ad.1;have Ay:=Z8.thenUpd Ad (λk hk=>by have Ac:k=Aa:=hk;omega);have Az:=E4.thenUpd Ad (λk hk=>by have Ac:k=Aa:=hk;omega);refine AGx (AG6<|ATm<|⟨_,AVn AUi rfl rfl Ao,?_⟩)
  first
  | (have h0:L=[]:=List.length_eq_zero_iff.1 AGp
     subst h0
     exact ⟨Af,⟨false,_,[],rfl,Ajk _ _,Akr,AT6,by cases neg <;> rfl⟩⟩)
  | exact ⟨Af,⟨neg,_,L,rfl,H.ext Af,htl,hn,rfl⟩⟩
 ·refine AGx<|ATw rfl (AG5<|q_t<|AGt<|AGq<|AGq<|AWp (v:= .agg #[.bool neg,.slice a n c]) (Apr neg a n c)<|AVe [.bool neg,.slice a n c] AUi rfl rfl rfl rfl (by simp [isOne]) V3 λA3 Ap Ae=>?_);have Ah:=E4.thenUpd Ae (λk hk=>by have Ac:k=Aa:=hk;omega);have A4:=Ae.1;have A5:=Z8.thenUpd Ae (λk hk=>by have Ac:k=Aa:=hk;omega);have A6:=E4.thenUpd Ae (λk hk=>by have Ac:k=Aa:=hk;omega);refine AGx (AG6<|⟨_,AVn AUi rfl rfl Ap,?_⟩)
  first
  | (have h0:L=[]:=List.length_eq_zero_iff.1 AGp
     subst h0
     exact ⟨Ah,⟨false,_,[],rfl,Ajk _ _,Akr,AT6,by cases neg <;> rfl⟩⟩)
  | exact ⟨Ah,⟨neg,_,L,rfl,H.ext Ah,htl,hn,rfl⟩⟩
theorem Small_ok {n:Int} (hn: -9223372036854775808<=n/\n<=9223372036854775807) (h:AG0):AT3 Tryz.prog 152 #[.int .i64 n] h λx h'=>Ext h h'/\ZV h' (Array.size h) x n:=by
 refine AUd (l:=[_]) mx Tryz.func152 rfl rfl rfl rfl rfl AG3 (AGt<|AY2 [.bool false,.slice none 0 0] AXw rfl (λ_=>trivial) λAa h2 V3 E4 Az By=>?_);have Bz:Array.size h<=Aa:=Az;have B3:=E4.1;have Z8:=(Ext.refl h).trans E4;refine AGx<|AGv<|AGt<|AGq<|AXh rfl rfl (λA3=>?_) (λA3=>?_)
 ·refine AGx<|AT0 rfl (AGt<|AGq<|Ac5 Aao AVw rfl ?_);rw [show IntKind.u64.wrap n=n + 18446744073709551616 by rw [wrap_u64];omega];refine Arc rfl ?_;rw [show IntKind.u64.wrap (0 - (n + 18446744073709551616))=((n.natAbs:Nat):Int) by rw [wrap_u64];omega];refine ATl trivial rfl (Aih n.natAbs AGp _) λx9 B5 hk=>?_;obtain ⟨Ag,L1,Ah,Ao,Ap,A5⟩:=hk;refine ⟨trivial,?_⟩;have B6:=Ag.1;have A6:=Z8.trans Ag;have A7:=E4.trans Ag;have A8:=V3.ext Ag;have A9:=E4.trans Ag;refine ATl trivial rfl (Acm true Ah Ao AGp) λB7 B8 hk=>?_;obtain ⟨Ac,Aq⟩:=hk;refine ⟨trivial,?_⟩;have B9:=Ac.1;have Ba:=A6.trans Ac;have Bb:=A7.trans Ac;have Bc:=A8.ext Ac;have Be:=A9.trans Ac;have Bf:=Ah.ext Ac;obtain ⟨Ai,s2,L2,rfl,Aj,Au,Av,Aw⟩:=Aq.out;refine AVe [.bool Ai,s2] AUi rfl rfl rfl rfl (Ab3 Aj.cap) Bc λCa Bg Ad=>?_;have Bh:=Bb.thenUpd Ad (λk hk=>by have Ak:k=Aa:=hk;omega);have Cb:=Ad.1;have Cd:=Ba.thenUpd Ad (λk hk=>by have Ak:k=Aa:=hk;omega);have Ce:=Be.thenUpd Ad (λk hk=>by have Ak:k=Aa:=hk;omega);have Cf:=Bf.updLo Ad AGp;have Bi:=Aj.updLo Ad AGp;refine AGx<|AG6<|ATm<|⟨_,AVn AUi rfl rfl Bg,?_⟩;exact ⟨Bh,⟨Ai,s2,L2,rfl,Bi.mono AGp,Au,Av,by rw [<- Aw,Ap];unfold sgn;first | (rw [if_pos rfl];omega) | (rw [if_neg AGr];omega)⟩⟩
 ·refine AGx<|ATw rfl (AG5<|q_t<|AGt<|AGq<|Ac5 Aao AVw rfl ?_);rw [show IntKind.u64.wrap n=((n.natAbs:Nat):Int) by rw [wrap_u64];omega];refine ATl trivial rfl (Aih n.natAbs AGp _) λCg Ch hk=>?_;obtain ⟨Am,L1,Ah,Ao,Ap,A5⟩:=hk;refine ⟨trivial,?_⟩;have Ci:=Am.1;have Bj:=Z8.trans Am;have Bl:=E4.trans Am;have Bm:=V3.ext Am;have Bn:=E4.trans Am;refine ATl trivial rfl (Acm false Ah Ao AGp) λCj Ck hk=>?_;obtain ⟨Ae,Aq⟩:=hk;refine ⟨trivial,?_⟩;have Cm:=Ae.1;have Bo:=Bj.trans Ae;have Bp:=Bl.trans Ae;have Bq:=Bm.ext Ae;have Br:=Bn.trans Ae;have Bt:=Ah.ext Ae;obtain ⟨Ai,s2,L2,rfl,Aj,Au,Av,Aw⟩:=Aq.out;refine AVe [.bool Ai,s2] AUi rfl rfl rfl rfl (Ab3 Aj.cap) Bq λCn Bu Af=>?_;have Bv:=Bp.thenUpd Af (λk hk=>by have Ak:k=Aa:=hk;omega);have Co:=Af.1;have Cp:=Bo.thenUpd Af (λk hk=>by have Ak:k=Aa:=hk;omega);have Cq:=Br.thenUpd Af (λk hk=>by have Ak:k=Aa:=hk;omega);have Cr:=Bt.updLo Af AGp;have Bw:=Aj.updLo Af AGp;refine AGx<|AG6<|⟨_,AVn AUi rfl rfl Bu,?_⟩;exact ⟨Bv,⟨Ai,s2,L2,rfl,Bw.mono AGp,Au,Av,by rw [<- Aw,Ap];unfold sgn;first | (rw [if_pos rfl];omega) | (rw [if_neg AGr];omega)⟩⟩
theorem Aqw {lo:Nat} {L:List Nat} (H:DS h lo v L) (hn:L.length<=1000000):AT3 Tryz.prog 192 #[v] h λx h'=>Ext h h'/\DS h' (Array.size h) x L:=by
 obtain ⟨a,n,c,rfl,hnc⟩:=H.cap;refine AUd (l:=[_]) mx Tryz.func192 rfl rfl rfl rfl rfl AG3 (AGt<|AG1<|AGv<|AGt<|AGq<|A9q Tryz.underlying127 rfl ?_);cases Ad:a.isNone
 ·refine AGx<|ATw rfl (AG5<|q_t<|AGv ?_);obtain ⟨xa,rfl⟩:∃ q,a=some q:=Option.ne_none_iff_exists'.1 (λhe=>by rw [he] at Ad;cases Ad);refine ATd<|BFv ATo (λ_=>trivial) λg1 v1 h1 Af E1 Ag Ap=>?_;have Aq:=E1.1;have Z2:=(Ext.refl h).trans E1;refine AGq ?_;by_cases hL:L=[]
  ·subst hL;obtain rfl:n=0:=A5w H;refine BC8 ATo (λ_=>trivial) rfl Af rfl λv2 h2 Ab U2=>AG1<|AG6<|⟨_,AS9,?_⟩;exact ⟨E1.thenUpd U2 (λk hk=>by have Ai:k=g1:=hk;omega),Ab.ds H.dig Ag⟩
  refine BB2 ATo Ad9 rfl trivial rfl Af rfl (H.sl.ext E1) (λu hu=>by obtain ⟨y,_,rfl⟩:=List.mem_map.1 hu;rfl) (by simpa using hL) (by simp;omega) (by simp;omega) λv2 g2 h2 Ab Ak U2=>?_;refine ⟨trivial,?_⟩;have XZ:=E1.thenUpd U2 (λk hk=>by have Ai:k=g1:=hk;omega);have hg2l:Array.size h<=g2:=by rcases Ak with rfl | rfl;exact Ag;omega
  refine AG1<|AG6<|⟨_,AS9,?_⟩;exact ⟨XZ,Ab.ds H.dig hg2l⟩
 ·refine AGx<|AT0 rfl (AGv ?_);have h0:L=[]:=A9r (Option.isNone_iff_eq_none.1<|by assumption) H;refine ATd<|AG1<|AG6<|ATm<|⟨_,AS9,?_⟩;subst h0;exact ⟨Ext.refl _,Ajk _ _⟩
def AYm (z:Int):Int:=if z < 0 then -1 else if z=0 then 0 else 1
theorem sign_zero {z:Int} (h:z=0):AYm z=0:=by subst h;rfl
theorem sign_neg {z:Int} (h:z < 0):AYm z= -1:=if_pos h
theorem Ajp {z:Int} (h:0 < z):AYm z=1:=by unfold AYm;omega
theorem Sign_ok {lo:Nat} {z:Int} (HA:ZV h lo va z):AT3 Tryz.prog 155 #[va] h λx h'=>Ext h h'/\x= .int .i64 (AYm z):=by
 obtain ⟨na,sa,LA,rfl,HDa,htla,hla,hza⟩:=HA.out;have hna:LA.length<=1000000:=by omega
 refine AUd (l:=[_]) mx Tryz.func155 rfl rfl rfl rfl rfl AG3 (AGt<|Ab7 [.bool na,sa] (λ_=>trivial) rfl rfl λAj h2 V3 E4 Ak Aq=>?_);have Ar:Array.size h<=Aj:=Ak;have Au:=E4.1;have Z8:=(Ext.refl h).trans E4;refine AG1<|AGv<|AGw<|AGt<|AYd (fs:=1) Ael AG3 AGr rfl (AT2 AZ9 rfl (V3.cell (i:=1) rfl) (ATl trivial rfl (Ae4 (DS.mono (HDa.ext E4)<|Nat.zero_le _) hna) λx9 h2 hk=>?_));obtain ⟨rfl,L1,Af,Ag⟩:=hk;refine ⟨trivial,?_⟩;have Am:=Af.ds (lo:=lo) HDa.lo;refine AUz ATo rfl Am (Ak7 rfl rfl (λAo=>?_) (λAo=>?_))
 ·refine AG1 (AT0 rfl (AGt<|AG1<|AG6<|AUq<|ATm<|⟨_,AS9,?_⟩))
  first
  | (have h0:L1=[]:=List.length_eq_zero_iff.1 AGp
     have h1:nv LA=0:=by rw [<- Af.val,h0];rfl
     exact ⟨E4,congrArg (Value.int .i64) (sign_zero<|hza.trans (by rw [h1];cases na <;> rfl)).symm⟩)
  | (have h1:nv LA≠0:=λh0=>by rw [<- Af.val] at h0;have:=congrArg List.length<|AZa Ag h0;rw [List.length_nil] at this;omega
     have h2:z=sgn na (nv LA):=hza
     have h3:na=true:=by assumption
     exact ⟨E4,congrArg (Value.int .i64) (sign_neg (by rw [h2,h3];unfold sgn;rw [if_pos rfl];omega)).symm⟩)
  | (have h1:nv LA≠0:=λh0=>by rw [<- Af.val] at h0;have:=congrArg List.length<|AZa Ag h0;rw [List.length_nil] at this;omega
     have h2:z=sgn na (nv LA):=hza
     have h3:na=false:=by assumption
     exact ⟨E4,congrArg (Value.int .i64) (Ajp (by rw [h2,h3];unfold sgn;rw [if_neg AGr];omega)).symm⟩)
 ·refine AG1<|ATw rfl (AGt<|AYd (fs:=1) Ad4 AG3 AGr rfl (AT2 AW1 rfl (V3.cell (i:=0) rfl) (AG1<|⟨_,rfl,λAp=>?_,λAp=>?_⟩)))
  ·refine AGt (AG1<|AG6<|AUq<|ATm<|⟨_,AS9,?_⟩)
   first
   | (have h0:L1=[]:=List.length_eq_zero_iff.1 AGp
      have h1:nv LA=0:=by rw [<- Af.val,h0];rfl
      exact ⟨E4,congrArg (Value.int .i64) (sign_zero<|hza.trans (by rw [h1];cases na <;> rfl)).symm⟩)
   | (have h1:nv LA≠0:=λh0=>by rw [<- Af.val] at h0;have:=congrArg List.length<|AZa Ag h0;rw [List.length_nil] at this;omega
      have h2:z=sgn na (nv LA):=hza
      have h3:na=true:=by assumption
      exact ⟨E4,congrArg (Value.int .i64) (sign_neg (by rw [h2,h3];unfold sgn;rw [if_pos rfl];omega)).symm⟩)
   | (have h1:nv LA≠0:=λh0=>by rw [<- Af.val] at h0;have:=congrArg List.length<|AZa Ag h0;rw [List.length_nil] at this;omega
      have h2:z=sgn na (nv LA):=hza
      have h3:na=false:=by assumption
      exact ⟨E4,congrArg (Value.int .i64) (Ajp (by rw [h2,h3];unfold sgn;rw [if_neg AGr];omega)).symm⟩)
  ·refine AG5 (q_b<|q_t<|AGt<|AG1<|AG6<|⟨_,AS9,?_⟩)
   first
   | (have h0:L1=[]:=List.length_eq_zero_iff.1 AGp
      have h1:nv LA=0:=by rw [<- Af.val,h0];rfl
      exact ⟨E4,congrArg (Value.int .i64) (sign_zero<|hza.trans (by rw [h1];cases na <;> rfl)).symm⟩)
   | (have h1:nv LA≠0:=λh0=>by rw [<- Af.val] at h0;have:=congrArg List.length<|AZa Ag h0;rw [List.length_nil] at this;omega
      have h2:z=sgn na (nv LA):=hza
      have h3:na=true:=by assumption
      exact ⟨E4,congrArg (Value.int .i64) (sign_neg (by rw [h2,h3];unfold sgn;rw [if_pos rfl];omega)).symm⟩)
   | (have h1:nv LA≠0:=λh0=>by rw [<- Af.val] at h0;have:=congrArg List.length<|AZa Ag h0;rw [List.length_nil] at this;omega
      have h2:z=sgn na (nv LA):=hza
      have h3:na=false:=by assumption
      exact ⟨E4,congrArg (Value.int .i64) (Ajp (by rw [h2,h3];unfold sgn;rw [if_neg AGr];omega)).symm⟩)
theorem Neg_ok {lo:Nat} {z:Int} (HA:ZV h lo va z):AT3 Tryz.prog 190 #[va] h λx h'=>Ext h h'/\ZV h' (Array.size h) x (-z):=by
 obtain ⟨na,sa,LA,rfl,HDa,htla,hla,hza⟩:=HA.out;have hna:LA.length<=1000000:=by omega
 refine AUd (l:=[_]) mx Tryz.func190 rfl rfl rfl rfl rfl AG3 (AGt<|Ab7 [.bool na,sa] (λ_=>trivial) rfl rfl λAm h2 V3 E4 Az Bx=>?_);have By:Array.size h<=Am:=Az;have Bz:=E4.1;have Z8:=(Ext.refl h).trans E4;refine AY2 [.bool false,.slice none 0 0] AXw rfl (λ_=>trivial) λAd Ah A4 Ae A5 B3=>?_;have B4:Array.size h<=Ad:=Nat.le_trans E4.1 A5;have nebq1bq9:Am≠Ad:=by have:=V3.lt;omega
 have B5:=Ae.1;have A6:=Z8.trans Ae;have Ap:=E4.trans Ae;have Aq:=V3.ext Ae;have A7:=E4.trans Ae;refine AGx<|AGv<|AVl (λh'=>Ext Ah h') AG3 ?_;have Af:=Ext.refl Ah;refine AYd (fs:=1) Ad4 AG3 AGr rfl (AVf AW1 rfl Af (λh' hb=>(Aq.ext hb).cell (i:=0) rfl) (AXb rfl (AYd (fs:=1) Ael AG3 AGr rfl (AVf AZ9 rfl Af (λh' hb=>(Aq.ext hb).cell (i:=1) rfl) (ATl Af rfl (Ae4 (DS.mono (HDa.ext Ap)<|Nat.zero_le _) hna) λB6 Ah hk=>?_)))));obtain ⟨rfl,L1,Ai,A8⟩:=hk;refine ⟨Af,?_⟩;have A9:=Ai.ds (lo:=lo) HDa.lo;have Ar:=Ai.val;have B8:=Ai.len;refine ATl Af rfl (Aqw A9 AGp) λB9 Ca hk=>?_;obtain ⟨Ab,Au⟩:=hk;have Aj:=Af.trans Ab;refine ⟨Aj,?_⟩;have Cb:=Ab.1;have Ba:=A6.trans Ab;have Bb:=Ap.trans Ab;have Bc:=A7.trans Ab;have Be:=A4.ext Ab;have Bf:=Ae.trans Ab;refine ATl Aj rfl (Acm (!na) Au A8 AGp) λCd Ce hk=>?_;obtain ⟨Aa,Bg⟩:=hk;have Bh:=Aj.trans Aa;refine ⟨Bh,?_⟩;have Cf:=Aa.1;have Bi:=Ba.trans Aa;have Bj:=Bb.trans Aa;have Bl:=Bc.trans Aa;have Bm:=Be.ext Aa;have Bn:=Bf.trans Aa;have Bo:=Au.ext Aa;obtain ⟨Av,s3,L3,rfl,Ax,Bq,Br,Ay⟩:=Bg.out;refine AVe [.bool Av,s3] AUi rfl rfl rfl rfl (Ab3 Ax.cap) Bm λCg Bt Ac=>?_;have Bu:=Bj.thenUpd Ac (λk hk=>by have Ak:k=Ad:=hk;omega);have Ch:=Ac.1;have Ci:=Bi.thenUpd Ac (λk hk=>by have Ak:k=Ad:=hk;omega);have Cj:=Bn.thenUpd Ac (λk hk=>by have Ak:k=Ad:=hk;omega);have Ck:=Bl.thenUpd Ac (λk hk=>by have Ak:k=Ad:=hk;omega);have Cm:=Bo.updLo Ac AGp;have Bv:=Ax.updLo Ac AGp;refine AGx<|AG6<|⟨_,AVn AUi rfl rfl Bt,?_⟩;exact ⟨Bu,⟨Av,s3,L3,rfl,Bv.mono AGp,Bq,Br,by first | (rw [<- Ay,Ar,hza];done) | (rw [<- Ay,Ar,hza];cases na <;> simp [sgn])⟩⟩
theorem Normalize_ok {lo:Nat} {z:Int} (HA:ZV h lo va z):AT3 Tryz.prog 156 #[va] h λx h'=>Ext h h'/\ZV h' (Array.size h) x (z):=by
 obtain ⟨na,sa,LA,rfl,HDa,htla,hla,hza⟩:=HA.out;have hna:LA.length<=1000000:=by omega
 refine AUd (l:=[_]) mx Tryz.func156 rfl rfl rfl rfl rfl AG3 (AGt<|Ab7 [.bool na,sa] (λ_=>trivial) rfl rfl λAm h2 V3 E4 Az Bx=>?_);have By:Array.size h<=Am:=Az;have Bz:=E4.1;have Z8:=(Ext.refl h).trans E4;refine AY2 [.bool false,.slice none 0 0] AXw rfl (λ_=>trivial) λAd Ah A4 Ae A5 B3=>?_;have B4:Array.size h<=Ad:=Nat.le_trans E4.1 A5;have nebq1bq9:Am≠Ad:=by have:=V3.lt;omega
 have B5:=Ae.1;have A6:=Z8.trans Ae;have Ap:=E4.trans Ae;have Aq:=V3.ext Ae;have A7:=E4.trans Ae;refine AGx<|AGv<|AVl (λh'=>Ext Ah h') AG3 ?_;have Af:=Ext.refl Ah;refine AYd (fs:=1) Ad4 AG3 AGr rfl (AVf AW1 rfl Af (λh' hb=>(Aq.ext hb).cell (i:=0) rfl) (AYd (fs:=1) Ael AG3 AGr rfl (AVf AZ9 rfl Af (λh' hb=>(Aq.ext hb).cell (i:=1) rfl) (ATl Af rfl (Ae4 (DS.mono (HDa.ext Ap)<|Nat.zero_le _) hna) λB6 Ah hk=>?_))));obtain ⟨rfl,L1,Ai,A8⟩:=hk;refine ⟨Af,?_⟩;have A9:=Ai.ds (lo:=lo) HDa.lo;have Ar:=Ai.val;have B8:=Ai.len;refine ATl Af rfl (Aqw A9 AGp) λB9 Ca hk=>?_;obtain ⟨Ab,Au⟩:=hk;have Aj:=Af.trans Ab;refine ⟨Aj,?_⟩;have Cb:=Ab.1;have Ba:=A6.trans Ab;have Bb:=Ap.trans Ab;have Bc:=A7.trans Ab;have Be:=A4.ext Ab;have Bf:=Ae.trans Ab;refine ATl Aj rfl (Acm na Au A8 AGp) λCd Ce hk=>?_;obtain ⟨Aa,Bg⟩:=hk;have Bh:=Aj.trans Aa;refine ⟨Bh,?_⟩;have Cf:=Aa.1;have Bi:=Ba.trans Aa;have Bj:=Bb.trans Aa;have Bl:=Bc.trans Aa;have Bm:=Be.ext Aa;have Bn:=Bf.trans Aa;have Bo:=Au.ext Aa;obtain ⟨Av,s3,L3,rfl,Ax,Bq,Br,Ay⟩:=Bg.out;refine AVe [.bool Av,s3] AUi rfl rfl rfl rfl (Ab3 Ax.cap) Bm λCg Bt Ac=>?_;have Bu:=Bj.thenUpd Ac (λk hk=>by have Ak:k=Ad:=hk;omega);have Ch:=Ac.1;have Ci:=Bi.thenUpd Ac (λk hk=>by have Ak:k=Ad:=hk;omega);have Cj:=Bn.thenUpd Ac (λk hk=>by have Ak:k=Ad:=hk;omega);have Ck:=Bl.thenUpd Ac (λk hk=>by have Ak:k=Ad:=hk;omega);have Cm:=Bo.updLo Ac AGp;have Bv:=Ax.updLo Ac AGp;refine AGx<|AG6<|⟨_,AVn AUi rfl rfl Bt,?_⟩;exact ⟨Bu,⟨Av,s3,L3,rfl,Bv.mono AGp,Bq,Br,by first | (rw [<- Ay,Ar,hza];done) | (rw [<- Ay,Ar,hza];cases na <;> simp [sgn])⟩⟩
def Af7 (a b:Nat):Int:=if a < b then -1 else if a=b then 0 else 1
theorem Acs {a b:Nat} (h:a < b):Af7 a b= -1:=if_pos h
theorem Acu {a b:Nat} (h:b < a):Af7 a b=1:=by unfold Af7;omega
theorem Ajq {a b:Nat} (h:a=b):Af7 a b=0:=by unfold Af7;omega
theorem Acv {A B:List Nat} (ha:Dig A) (hb:TL B) (h:A.length < B.length):nv A < nv B:=by
 have h1:=Afz ha;have h2:=A5u hb (λhe=>by grind);have h3:4294967296 ^ A.length<=4294967296 ^ (B.length - 1):=Nat.pow_le_pow_right AGr AGp;omega
theorem Acw {A B:List Nat} (ha:Dig A) (hb:Dig B) {x y:Nat} (hl:A.length=B.length) (hx:A[i]? =some x) (hy:B[i]? =some y) (hxy:x < y) (hs:∀ q,i < q->A[q]? =B[q]?):nv A < nv B:=by
 have hi:=(List.getElem?_eq_some_iff.1 hx).1;have hd:A.drop (i + 1)=B.drop (i + 1):=List.ext_getElem? λq=>by grind
 have e:∀ L:List Nat,nv L=nv (L.take<|i + 1) + 4294967296 ^ (L.take<|i + 1).length * nv (L.drop<|i + 1):=λL=>by rw [<- Anx,List.take_append_drop]
 rw [e A,e B,hd,AU7 hx,AU7 hy,List.length_take,List.length_take,hl];have h1:=Ajl ha (i:=i) AGp;have h2:4294967296 ^ i * (x + 1)<=4294967296 ^ i * y:=Nat.mul_le_mul_left _ hxy;grind
theorem Aoy (HA:DS h la va LA) (HB:DS h lb vb LB) (hta:TL LA) (htb:TL LB) (hna:LA.length<=1000000) (hnb:LB.length<=1000000):AT3 Tryz.prog 204 #[va,vb] h λx h'=>h'=h/\x= .int .i64 (Af7 (nv LA)<|nv LB):=by
 refine AUd (l:=[_,_]) mx Tryz.func204 rfl rfl rfl rfl rfl AG3 (AGt<|AG1<|AGv<|AGw<|AGt<|AGq<|AUz ATo rfl HA (AGq<|AUz ATo rfl HB (AXh rfl rfl (λAc=>?_) (λAc=>?_))))
 ·refine AG1 (AT0 rfl (AGt<|AG1<|AG6<|AUq<|ATm<|⟨_,AS9,?_⟩))
  first
  | exact ⟨rfl,congrArg (Value.int .i64) (Acs<|Acv HA.dig htb AGp).symm⟩
  | exact ⟨rfl,congrArg (Value.int .i64) (Acu<|Acv HB.dig hta AGp).symm⟩
  | exact ⟨rfl,congrArg (Value.int .i64) (Acs<|Acw HA.dig HB.dig AGp hx hy AGp λq hq=>hsame q AGp).symm⟩
  | exact ⟨rfl,congrArg (Value.int .i64) (Acu<|Acw HB.dig HA.dig AGp hy hx AGp λq hq=>(hsame q AGp).symm).symm⟩
  | exact ⟨rfl,congrArg (Value.int .i64) (Ajq<|congrArg nv<|List.ext_getElem? λq=>hsame q AGp).symm⟩
 ·refine AG1<|ATw rfl (AGt<|AGq<|AUz ATo rfl HA (AGq<|AUz ATo rfl HB (Ajg rfl rfl (λAd=>?_) (λAd=>?_))))
  ·refine AG1 (AT0 rfl (AGt<|AG1<|AG6<|AUq<|ATm<|⟨_,AS9,?_⟩))
   first
   | exact ⟨rfl,congrArg (Value.int .i64) (Acs<|Acv HA.dig htb AGp).symm⟩
   | exact ⟨rfl,congrArg (Value.int .i64) (Acu<|Acv HB.dig hta AGp).symm⟩
   | exact ⟨rfl,congrArg (Value.int .i64) (Acs<|Acw HA.dig HB.dig AGp hx hy AGp λq hq=>hsame q AGp).symm⟩
   | exact ⟨rfl,congrArg (Value.int .i64) (Acu<|Acw HB.dig HA.dig AGp hy hx AGp λq hq=>(hsame q AGp).symm).symm⟩
   | exact ⟨rfl,congrArg (Value.int .i64) (Ajq<|congrArg nv<|List.ext_getElem? λq=>hsame q AGp).symm⟩
  ·refine AG1<|ATw rfl (AG5<|q_b<|q_t<|AGv<|AGt<|AGq<|AUz ATo rfl HA (Ae9 rfl rfl AGp AGp (AG1<|AGw<|AW9 35184369991728 (λi:Nat=>[(5,.int .i64<|(i:Int) - 1)]) (λk i h'=>h'=h/\i=k/\i<=LA.length/\ ∀ q,i<=q->LA[q]? =LB[q]?) AG3 LA.length LA.length ?_ ⟨rfl,trivial⟩ ?_)))
   ·exact ⟨rfl,rfl,Nat.le_refl _,λq hq=>by rw [List.getElem?_eq_none hq,List.getElem?_eq_none AGp]⟩
   rintro k i s1 h ⟨rfl,rfl,hi,hsame⟩;refine AGv<|AGt<|AGq<|Am6 rfl rfl (λAe=>?_) (λAe=>?_)
   ·refine AGx<|AT0 rfl (AG5<|q_t<|AGv<|AGw<|AGw<|AGv ?_);obtain ⟨x,hx⟩:∃ x,LA[i - 1]? =some x:=⟨_,List.getElem?_eq_getElem AGp⟩;obtain ⟨y,hy⟩:∃ y,LB[i - 1]? =some y:=⟨_,List.getElem?_eq_getElem AGp⟩;have e1:((i:Int) - 1)=((i - 1:Nat):Int):=by omega
    refine Ajf AG3<|AGq<|AGq<|Abj (n:=i - 1) ATo rfl HA (show Value.int .i64 ((i:Int) - 1)=_ by rw [e1]) hx λa1 Af=>?_;refine AT2 AVo rfl Af (AGq<|AGq<|Abj (n:=i - 1) ATo rfl HB (show Value.int .i64 ((i:Int) - 1)=_ by rw [e1]) hy λa2 Ag=>?_);refine AT2 AVo rfl Ag (AXh rfl rfl (λAh=>?_) (λAh=>?_))
    ·refine AG1 (AT0 rfl (AGt<|AG1<|AG6<|AUq<|AUq<|ATm<|ATm<|AUq<|ATm<|⟨_,AS9,?_⟩))
     first
     | exact ⟨rfl,congrArg (Value.int .i64) (Acs<|Acv HA.dig htb AGp).symm⟩
     | exact ⟨rfl,congrArg (Value.int .i64) (Acu<|Acv HB.dig hta AGp).symm⟩
     | exact ⟨rfl,congrArg (Value.int .i64) (Acs<|Acw HA.dig HB.dig AGp hx hy AGp λq hq=>hsame q AGp).symm⟩
     | exact ⟨rfl,congrArg (Value.int .i64) (Acu<|Acw HB.dig HA.dig AGp hy hx AGp λq hq=>(hsame q AGp).symm).symm⟩
     | exact ⟨rfl,congrArg (Value.int .i64) (Ajq<|congrArg nv<|List.ext_getElem? λq=>hsame q AGp).symm⟩
    ·refine AG1<|ATw rfl (AGv<|Ajf AG3<|AGq<|AGq<|Abj (n:=i - 1) ATo rfl HA (show Value.int .i64 ((i:Int) - 1)=_ by rw [e1]) hx λa3 Ai=>?_);refine AT2 AVo rfl Ai (AGq<|AGq<|Abj (n:=i - 1) ATo rfl HB (show Value.int .i64 ((i:Int) - 1)=_ by rw [e1]) hy λa4 Aj=>?_);refine AT2 AVo rfl Aj (Ajg rfl rfl (λAk=>?_) (λAk=>?_))
     ·refine AG1 (AT0 rfl (AGt<|AG1<|AG6<|AUq<|AUq<|ATm<|ATm<|AUq<|ATm<|⟨_,AS9,?_⟩))
      first
      | exact ⟨rfl,congrArg (Value.int .i64) (Acs<|Acv HA.dig htb AGp).symm⟩
      | exact ⟨rfl,congrArg (Value.int .i64) (Acu<|Acv HB.dig hta AGp).symm⟩
      | exact ⟨rfl,congrArg (Value.int .i64) (Acs<|Acw HA.dig HB.dig AGp hx hy AGp λq hq=>hsame q AGp).symm⟩
      | exact ⟨rfl,congrArg (Value.int .i64) (Acu<|Acw HB.dig HA.dig AGp hy hx AGp λq hq=>(hsame q AGp).symm).symm⟩
      | exact ⟨rfl,congrArg (Value.int .i64) (Ajq<|congrArg nv<|List.ext_getElem? λq=>hsame q AGp).symm⟩
     ·refine AG1<|ATw rfl (AG5<|q_b<|q_b<|q_t<|ATd<|AGq<|Ae9 rfl rfl AGp AGp (AG1 ?_));exact ⟨i - 1,i - 1,AGp,⟨rfl,rfl,AGp,λq hq=>by rcases Nat.lt_or_ge q i with h2 | h2;obtain rfl:q=i - 1:=AGp;rw [hx,hy];congr 1;omega;exact hsame q h2⟩,by rw [show ((i - 1:Nat):Int) - 1=(i:Int) - 1 - 1 by omega];rfl,trivial⟩
   ·refine AGx (ATw rfl (ATj<|ATk<|ATk<|AUh<|q_t<|AGt<|AG1<|AG6<|⟨_,AS9,?_⟩))
    first
    | exact ⟨rfl,congrArg (Value.int .i64) (Acs<|Acv HA.dig htb AGp).symm⟩
    | exact ⟨rfl,congrArg (Value.int .i64) (Acu<|Acv HB.dig hta AGp).symm⟩
    | exact ⟨rfl,congrArg (Value.int .i64) (Acs<|Acw HA.dig HB.dig AGp hx hy AGp λq hq=>hsame q AGp).symm⟩
    | exact ⟨rfl,congrArg (Value.int .i64) (Acu<|Acw HB.dig HA.dig AGp hy hx AGp λq hq=>(hsame q AGp).symm).symm⟩
    | exact ⟨rfl,congrArg (Value.int .i64) (Ajq<|congrArg nv<|List.ext_getElem? λq=>hsame q AGp).symm⟩
theorem Au2 (HA:DS h la va LA) (HB:DS h lb vb LB) (hna:LA.length<=1000) (hnb:LB.length<=1000):AT3 Tryz.prog 194 #[va,vb] h λx h'=>Ext h h'/\ ∃ L,DS h' (Array.size h) x L/\TL L/\nv L=nv LA + nv LB/\L.length<=1001:=by
 refine AUd (l:=[_,_]) mx Tryz.func194 rfl rfl rfl rfl rfl AG3 (AGt<|AG1<|Am2 65027 (λy:Value × Value × List Nat × List Nat=>[(0,y.1),(1,y.2.1)]) (λy h'=>h'=h/\DS h 0 y.1 y.2.2.1/\DS h 0 y.2.1 y.2.2.2/\y.2.2.2.length<=y.2.2.1.length/\y.2.2.1.length<=1000/\nv y.2.2.1 + nv y.2.2.2=nv LA + nv LB) AG3 ?_ ?_)
 ·refine AGt<|AGq<|AUz ATo rfl HA (AGq<|AUz ATo rfl HB (AXh rfl rfl (λAo=>?_) (λAo=>?_)))
  ·refine AGx<|AT0 rfl (ATd<|AGq<|AGq<|ATu<|AG1 ?_);exact ⟨(_,_,LB,LA),⟨rfl,HB.mono<|Nat.zero_le _,HA.mono<|Nat.zero_le _,by first | omega | (dsimp only;omega),hnb,Nat.add_comm _ _⟩,rfl,rfl,trivial⟩
  ·refine AGx<|ATw rfl (AG5<|q_t ?_);exact ⟨(_,_,LA,LB),⟨rfl,HA.mono<|Nat.zero_le _,HB.mono<|Nat.zero_le _,by first | omega | (dsimp only;omega),hna,rfl⟩,rfl,rfl,trivial⟩
 rintro ⟨A9,Ba,A,B⟩ s0 h ⟨rfl,HX,HY,hBA,Ap,hsum⟩;dsimp only at HX HY hBA Ap hsum ⊢;refine AGt<|AGq<|AUz ATo rfl HX (Aht (b:=1) rfl rfl AGp (Asp (n:=A.length + 1) ATo Ad9 (λ_=>trivial) rfl rfl AGr AGp λg1 v1 h1 Aq E1 Ar Be=>?_));have Bf:=E1.1;have Z2:=(Ext.refl h).trans E1;refine AT5<|AG1<|AGv<|AGt<|AGq<|AUz ATo rfl (HY.ext E1) (AGq<|AGx<|AGw<|AW9 70368739983552 (λy:Nat × Nat=>[(22,.int .i64 (y.1:Int)),(6,.int .u64 (y.2:Int))]) (λk y h'=>k=B.length - y.1/\y.1<=B.length/\Ext h h'/\y.2<=1/\ ∃ D,AWi h' 200 g1 v1 ((D ++ List.replicate ((A.length + 1) - y.1) 0).map Age)/\D.length=y.1/\Dig D/\nv D + 4294967296 ^ y.1 * y.2=nv (A.take y.1) + nv (B.take y.1)) AG3 B.length (0,0) ?_ ⟨rfl,rfl,trivial⟩ ?_)
 ·exact ⟨rfl,Nat.zero_le _,E1,by first | omega | (dsimp only;omega),[],by simpa using Aq,rfl,λx hx=>(by simp at hx),rfl⟩
 rintro k ⟨i,c⟩ s1 h2 ⟨rfl,hi,E2,hc,D,Ag,hDl,hDd,hDv⟩;dsimp only at hi hc Ag hDl hDv ⊢;have Bi:=E2.1;refine AGt<|AXh rfl rfl (λAu=>?_) (λAu=>?_)
 ·refine AGx<|AGv<|AT0 rfl (AG5<|q_t<|AGv<|AGw<|AGt<|AGq<|AG1<|AGv ?_);obtain ⟨x,hx⟩:∃ x,A[i]? =some x:=⟨_,List.getElem?_eq_getElem AGp⟩;have hbx:=HX.dig x<|List.mem_of_getElem? hx;obtain ⟨y,hy⟩:∃ x,B[i]? =some x:=⟨_,List.getElem?_eq_getElem AGp⟩;have hby:=HY.dig y<|List.mem_of_getElem? hy;refine Ajf AG3<|AGq<|AGq<|AGq<|Abj ATo rfl (HX.ext E2) rfl hx λBj Av=>AT2 AVo rfl Av (Aks AWb AVw rfl hbx (AGq<|AGq<|Abj ATo rfl (HY.ext E2) rfl hy λBl Aw=>AT2 AVo rfl Aw (Aks AWb AVw rfl hby (Ag7 rfl rfl AGp (Ag7 rfl rfl AGp (AT5<|AGq<|AGq<|AGq<|Amr AVw AWb rfl (Ak5 ATo rfl Ag rfl (by simp;omega) ?_)))))));refine Amq (D ++ [(c + (x + y)) % 4294967296] ++ List.replicate (A.length + 1 - (i + 1)) 0) AVo rfl rfl Ag (by simp;omega) (Aru hDl AGp) λh4 Ax U4=>?_;have Bn:=U4.1;have X7:=E2.thenUpd U4 (λk hk=>by have Ad:k=g1:=hk;omega);have Z8:=E2.thenUpd U4 (λk hk=>by have Ad:k=g1:=hk;omega);refine AGx<|ATd<|AGq<|Al5 rfl rfl (ATu<|ATr<|q_b<|q_t<|ATd<|Aci rfl AGp (AGq<|AGx ?_));exact ⟨B.length - (i + 1),(i + 1,(c + (x + y)) / 4294967296),by first | omega | (dsimp only;omega),⟨rfl,by first | omega | (dsimp only;omega),X7,by first | omega | (dsimp only;omega),_,Ax,by simp [hDl],Afc hDd<|Nat.mod_lt _ AGr,by rw [Ad6,hDl,Al6 hDv,AU7 hx,AU7 hy,Nat.mul_add];omega⟩,rfl,rfl,trivial⟩
 ·refine AGx<|AGv<|ATw rfl (ATj<|ATk<|ATk<|AUh<|q_t<|AGv<|AGt<|AGq<|AUz ATo rfl (HX.ext E2) (AGq<|AUz ATo rfl (HY.ext E2) (Ae9 rfl rfl AGp AGp ?_)));rw [show ((A.length:Nat):Int) - ((B.length:Nat):Int)=((A.length - B.length:Nat):Int) by omega];refine AGq<|AGx<|AGw ?_;obtain rfl:i=B.length:=by omega
  rw [List.take_length] at hDv;refine AW9 37778929611157348024640 (λy:Nat × Nat=>[(51,.int .i64 (y.1:Int)),(6,.int .u64 (y.2:Int))]) (λk y h'=>k=A.length - B.length - y.1/\y.1<=A.length - B.length/\Ext h h'/\y.2<=1/\ ∃ D,AWi h' 200 g1 v1 ((D ++ List.replicate ((A.length + 1) - (B.length + y.1)) 0).map Age)/\D.length=B.length + y.1/\Dig D/\nv D + 4294967296 ^ (B.length + y.1) * y.2=nv (A.take<|B.length + y.1) + nv B) AG3 (A.length - B.length) (0,c) ?_ ⟨rfl,rfl,trivial⟩ ?_
  ·exact ⟨rfl,Nat.zero_le _,E2,hc,D,Ag,hDl,hDd,hDv⟩
  rintro k ⟨j,c⟩ s2 h3 ⟨rfl,hj,E3,hc,D,Ae,hDl,hDd,hDv⟩;dsimp only at hj hc Ae hDl hDv ⊢;have Bq:=E3.1;refine AGt<|AXh rfl rfl (λAz=>?_) (λAz=>?_)
  ·refine AGx<|AGv<|AT0 rfl (AG5<|q_t<|AGv<|AGw<|AGt<|AGq<|AG1<|AGv ?_);obtain ⟨x,hx⟩:∃ x,A[(B.length + j)]? =some x:=⟨_,List.getElem?_eq_getElem AGp⟩;have hbx:=HX.dig x<|List.mem_of_getElem? hx;refine ATd<|AGq<|AGq<|AGq<|AUz ATo rfl (HY.ext E3) (AGq<|Aht rfl rfl AGp (Abj ATo rfl (HX.ext E3) rfl hx λBr A3=>AT2 AVo rfl A3 (Aks AWb AVw rfl hbx (Ag7 rfl rfl AGp (AT5<|AGq<|AGq<|AUz ATo rfl (HY.ext E3) (AGq<|Aht rfl rfl AGp (AGq<|Amr AVw AWb rfl (Ak5 ATo rfl Ae rfl (by simp;omega) ?_))))))));refine Amq (D ++ [(c + x) % 4294967296] ++ List.replicate (A.length + 1 - (B.length + j + 1)) 0) AVo rfl rfl Ae (by simp;omega) (Aru hDl AGp) λh5 A4 U5=>?_;have Bu:=U5.1;have A5:=E3.thenUpd U5 (λk hk=>by have Ad:k=g1:=hk;omega);have Bv:=E3.thenUpd U5 (λk hk=>by have Ad:k=g1:=hk;omega);refine AGx<|ATd<|AGq<|Al5 rfl rfl (ATu<|ATr<|q_b<|q_t<|ATd<|Aci rfl AGp (AGq<|AGx ?_));exact ⟨A.length - B.length - (j + 1),(j + 1,(c + x) / 4294967296),by first | omega | (dsimp only;omega),⟨rfl,by first | omega | (dsimp only;omega),A5,by first | omega | (dsimp only;omega),_,A4,by simp [hDl];omega,Afc hDd<|Nat.mod_lt _ AGr,by rw [Ad6,hDl,<- Nat.add_assoc,Al6 hDv,AU7 hx];omega⟩,rfl,rfl,trivial⟩
  ·refine AGx<|AGv<|ATw rfl (ATj<|ATk<|ATk<|AUh<|q_t<|AGv ?_);obtain rfl:j=A.length - B.length:=by omega
   have hBj:B.length + (A.length - B.length)=A.length:=by omega
   rw [hBj,List.take_length] at hDv;rw [hBj] at hDl;refine ATd<|AGq<|AGq<|AUz ATo rfl (HX.ext E3) (AGq<|Amr AVw AWb rfl (Ak5 ATo rfl Ae rfl (by simp;omega) ?_));refine Amq (D ++ [c % 4294967296] ++ List.replicate (A.length + 1 - (A.length + 1)) 0) AVo rfl rfl Ae (by simp;omega) (by rw [hBj];exact Aru hDl AGp) λh6 Ak U6=>?_;have Bw:=U6.1;have A7:=E3.thenUpd U6 (λk hk=>by have Ad:k=g1:=hk;omega);have Bx:=E3.thenUpd U6 (λk hk=>by have Ad:k=g1:=hk;omega);rw [Nat.sub_self,List.replicate_zero,List.append_nil,Nat.mod_eq_of_lt AGp] at Ak;have Am:=Ak.ds (lo:=Array.size h) (Afc hDd AGp) Ar;refine AZr<|AGq<|ATl trivial rfl (Ae4 (Am.mono<|Nat.zero_le _) (by simp;omega)) λBy h6 hk=>?_;obtain ⟨rfl,L2,HT,htl⟩:=hk;refine ⟨trivial,?_⟩;refine AG1<|AG6<|⟨_,AS9,?_⟩;exact ⟨A7,L2,HT.ds Am.lo,htl,by rw [HT.val,Ad6,hDl,hDv];exact hsum,by have:=HT.len;simp at this;omega⟩
theorem Aqx (HA:DS h la va LA) (HB:DS h lb vb LB) (htb:TL LB) (hle:nv LB<=nv LA) (hna:LA.length<=1000):AT3 Tryz.prog 195 #[va,vb] h λx h'=>Ext h h'/\ ∃ L,DS h' (Array.size h) x L/\TL L/\nv L=nv LA - nv LB/\L.length<=LA.length:=by
 refine AUd (l:=[_,_]) mx Tryz.func195 rfl rfl rfl rfl rfl AG3 (AGt<|AT5<|AGq<|AUz ATo rfl HA (Asp (n:=LA.length) ATo Ad9 (λ_=>trivial) rfl rfl AGr AGp λg1 v1 h1 Aj E1 Ak Az=>?_));have A3:=E1.1;have Z2:=(Ext.refl h).trans E1;refine AT5<|AG1<|AGv<|AGt<|AGq<|AUz ATo rfl (HA.ext E1) (AGq<|AGx<|AGw<|AW9 8796093006272 (λy:Nat × Nat=>[(14,.int .i64 (y.1:Int)),(6,.int .u64 (y.2:Int))]) (λk y h'=>k=LA.length - y.1/\y.1<=LA.length/\Ext h h'/\y.2<=1/\ ∃ D,AWi h' 200 g1 v1 ((D ++ List.replicate (LA.length - y.1) 0).map Age)/\D.length=y.1/\Dig D/\nv D + nv (LB.take y.1)=nv (LA.take y.1) + 4294967296 ^ y.1 * y.2) AG3 LA.length (0,0) ?_ ⟨rfl,rfl,trivial⟩ ?_)
 ·exact ⟨rfl,Nat.zero_le _,E1,by first | omega | (dsimp only;omega),[],by simpa using Aj,rfl,λx hx=>(by simp at hx),rfl⟩
 rintro k ⟨i,c⟩ s1 h2 ⟨rfl,hi,E2,hc,D,Ab,hDl,hDd,hDv⟩;dsimp only at hi hc Ab hDl hDv ⊢;have A5:=E2.1;refine AGt<|AXh rfl rfl (λAm=>?_) (λAm=>?_)
 ·refine AGx<|AGv<|AT0 rfl (AG5<|q_t<|AGv<|AGw<|AGt<|AGq<|AG1<|AGv ?_);obtain ⟨x,hx⟩:∃ x,LA[i]? =some x:=⟨_,List.getElem?_eq_getElem AGp⟩;have hbx:=HA.dig x<|List.mem_of_getElem? hx;refine ATd<|AGq<|AGq<|Abj ATo rfl (HA.ext E2) rfl hx λA6 Ao=>AT2 AVo rfl Ao (Aks AWb AVw rfl hbx (AGq<|AVm rfl rfl ?_));rw [wrap_u64];refine AG1<|Am2 34342961408 (λs:Int=>[(8,.int .u64<|s % 18446744073709551616)]) (λs h'=>h'=h2/\s=((x:Int) - (c:Int) - ((LB[i]?.getD 0:Nat):Int))) AG3 ?_ ?_
  ·refine AGt<|AGq<|AGq<|AUz ATo rfl (HB.ext E2) (AXh rfl rfl (λAp=>?_) (λAp=>?_))
   ·refine AGx<|AT0 rfl ?_;obtain ⟨y,Af⟩:∃ y,LB[i]? =some y:=⟨_,List.getElem?_eq_getElem AGp⟩;have hby:=HB.dig y<|List.mem_of_getElem? Af;refine ATd<|AGq<|AGq<|AGq<|Abj ATo rfl (HB.ext E2) rfl Af λA7 Aq=>AT2 AVo rfl Aq (Aks AWb AVw rfl hby (AVm rfl rfl (AG1 ?_)));exact ⟨((x:Int) - (c:Int) - ((LB[i]?.getD 0:Nat):Int)),⟨rfl,rfl⟩,by rw [Af];show Value.int .u64 _=_;congr 1;rw [wrap_u64];simp only [Option.getD_some];omega,trivial⟩
   ·refine AGx<|ATw rfl (AG5<|q_t ?_);exact ⟨((x:Int) - (c:Int) - ((LB[i]?.getD 0:Nat):Int)),⟨rfl,rfl⟩,by rw [List.getElem?_eq_none AGp];show Value.int .u64 _=_;congr 1;simp only [Option.getD_none];omega,trivial⟩
  rintro s s2 h2 ⟨rfl,hs⟩;obtain ⟨y,hy⟩:∃ y,LB[i]?.getD 0=y:=⟨_,rfl⟩;rw [hy] at hs;refine AGv ?_
  have hby:y < 4294967296:=by
   rw [<- hy]
   cases hq:LB[i]? with
   | none=>simp
   | some q=>exact HB.dig q<|List.mem_of_getElem? hq
  refine ATd<|AGq<|AGq<|AGq<|Ac5 AVw AWb rfl ?_;obtain ⟨dg,hdg⟩:∃ dg:Nat,(dg:Int)=s % 4294967296:=⟨(s % 4294967296).toNat,AGp⟩;rw [show IntKind.u32.wrap (s % 18446744073709551616)=(dg:Int) by rw [wrap_u32,hdg];omega];refine Ak5 ATo rfl Ab rfl (by simp;omega) ?_;refine Amq (D ++ [dg] ++ List.replicate (LA.length - (i + 1)) 0) AVo rfl rfl Ab (by simp;omega) (Aru hDl AGp) λh4 Ar U4=>?_;have A9:=U4.1;have X7:=E2.thenUpd U4 (λk hk=>by have Av:k=g1:=hk;omega);have Z8:=E2.thenUpd U4 (λk hk=>by have Av:k=g1:=hk;omega);refine AGx<|ATd<|AGq<|Are (n:=63) rfl rfl AGr ?_;rw [show s % 18446744073709551616 / 2 ^ 63=((if s < 0 then 1 else 0:Nat):Int) by split <;> omega];refine ATu<|ATr<|q_b<|q_t<|ATd<|Aci rfl AGp (AGq<|AGx ?_);exact ⟨LA.length - (i + 1),(i + 1,if s < 0 then 1 else 0),by first | omega | (dsimp only;omega),⟨rfl,by first | omega | (dsimp only;omega),X7,by dsimp only;split <;> omega,_,Ar,by simp [hDl],Afc hDd AGp,by rw [Ad6,hDl,Ad7 LB,hy,AU7 hx];exact Anb hDv (by split <;> omega)⟩,rfl,rfl,trivial⟩
 ·refine AGx<|AGv<|ATw rfl (ATj<|ATk<|ATk<|AUh<|q_t<|AGv ?_);obtain rfl:i=LA.length:=by omega
  rw [List.take_length,List.take_of_length_le (by have:=Aer htb<|Nat.lt_of_le_of_lt hle<|Afz HA.dig;omega)] at hDv;have hDlt:=Afz hDd;rw [hDl] at hDlt
  have Aw:c=0:=by
   rcases Nat.eq_zero_or_pos c with h0 | h0
   ·exact h0
   ·obtain rfl:c=1:=by omega
    rw [Nat.mul_one] at hDv;omega
  subst Aw;rw [Nat.mul_zero,Nat.add_zero] at hDv;rw [Nat.sub_self,List.replicate_zero,List.append_nil] at Ab;have Ai:=Ab.ds (lo:=Array.size h) hDd Ak;refine ATd<|AGq<|ATl trivial rfl (Ae4 (Ai.mono<|Nat.zero_le _) AGp) λx9 h2 hk=>?_;obtain ⟨rfl,L2,HT,htl⟩:=hk;refine ⟨trivial,?_⟩;refine AG1<|AG6<|⟨_,AS9,?_⟩;exact ⟨E2,L2,HT.ds Ai.lo,htl,by rw [HT.val];omega,by have:=HT.len;omega⟩
theorem A7c {L:List Nat} (h:Dig L) (hl:L.length<=1):nv L<=4294967295:=by
 have h1:=Afz h;have h2:4294967296 ^ L.length<=4294967296 ^ 1:=Nat.pow_le_pow_right AGr hl;omega
theorem A7d {A B:List Nat} (ha:Dig A) (hb:Dig B) (la:A.length<=1) (lb:B.length<=1):nv A * nv B < 18446744073709551616:=by
 have:=Nat.mul_le_mul (A7c ha la)<|A7c hb lb;omega
theorem Ahu {a b:Nat} (h:0<=Af7 a b):b<=a:=by
 unfold Af7 at h;omega
theorem Al8 {a b:Nat} (h:Af7 a b < 0):a<=b:=by
 unfold Af7 at h;omega
theorem Asz {A B:List Nat} (ha:Dig A) (hb:Dig B) (la:A.length<=99) (lb:B.length<=99):nv A + nv B < 4294967296 ^ 100:=by
 have h1:=Afz ha;have h2:=Afz hb;have h3:4294967296 ^ A.length<=4294967296 ^ 99:=Nat.pow_le_pow_right AGr la;have h4:4294967296 ^ B.length<=4294967296 ^ 99:=Nat.pow_le_pow_right AGr lb;omega
theorem Al9 {a b:Bool} {x y:Nat} (h:a=b):sgn a x + sgn b y=sgn a (x + y):=by
 subst h;cases a <;> simp [sgn] <;> omega
theorem Ama {a b:Bool} {x y:Nat} (h:a≠b) (hl:y<=x):sgn a x + sgn b y=sgn a (x - y):=by
 cases a <;> cases b <;> simp [sgn] at h ⊢ <;> omega
theorem Ajr {a b:Bool} {x y:Nat} (h:a≠b) (hl:x<=y):sgn a x + sgn b y=sgn b (y - x):=by
 cases a <;> cases b <;> simp [sgn] at h ⊢ <;> omega
theorem Awb (na nb:Bool) (HA:DS h la va LA) (HB:DS h lb vb LB) (hta:TL LA) (htb:TL LB) (hna:LA.length<=99) (hnb:LB.length<=99):AT3 Tryz.prog 203 #[.bool na,va,.bool nb,vb] h λx h'=>Ext h h'/\ZV h' (Array.size h) x (sgn na (nv LA) + sgn nb (nv LB)):=by
 refine AUd (l:=[_,_,_,_]) mx Tryz.func203 rfl rfl rfl rfl rfl AG3 (AGt<|AY2 [.bool false,.slice none 0 0] AXw rfl (λ_=>trivial) λAb h2 V3 E4 A8 Ch=>?_);have Ci:Array.size h<=Ab:=A8;have Cj:=E4.1;have Z8:=(Ext.refl h).trans E4;refine AGx<|AGv<|AGw<|AGt<|AGq<|AGq<|Axv An2 rfl rfl ?_;cases Ck:na == nb
 ·refine AG1<|ATw rfl (AGt<|AGq<|AGq<|ATl trivial rfl (Aoy (HA.ext E4) (HB.ext E4) hta htb AGp AGp) λx9 h2 hk=>?_);obtain ⟨rfl,rfl⟩:=hk;refine ⟨trivial,?_⟩;refine Am6 rfl rfl (λA9=>?_) (λA9=>?_)
  ·refine AG1<|AT0 rfl (AGt<|AGq<|AGq<|AGq<|ATl trivial rfl (Aqx (HA.ext E4) (HB.ext E4) htb (Ahu<|by assumption) AGp) λCn Co hk=>?_);obtain ⟨Aq,L1,Ac,Ag,Ah,A6⟩:=hk;refine ⟨trivial,?_⟩;have Cp:=Aq.1;have Ba:=Z8.trans Aq;have Bb:=E4.trans Aq;have Bc:=V3.ext Aq;have Be:=E4.trans Aq;refine ATl trivial rfl (Acm na Ac Ag AGp) λCq Cr hk=>?_;obtain ⟨Ai,Ar⟩:=hk;refine ⟨trivial,?_⟩;have Ct:=Ai.1;have Bf:=Ba.trans Ai;have Bg:=Bb.trans Ai;have Bh:=Bc.ext Ai;have Bi:=Be.trans Ai;have Bj:=Ac.ext Ai;obtain ⟨Ad,s2,L2,rfl,Ae,Av,Aw,Ax⟩:=Ar.out;refine AVe [.bool Ad,s2] AUi rfl rfl rfl rfl (Ab3 Ae.cap) Bh λCu Bl Aj=>?_;have Bm:=Bg.thenUpd Aj (λk hk=>by have Af:k=Ab:=hk;omega);have Cv:=Aj.1;have Cw:=Bf.thenUpd Aj (λk hk=>by have Af:k=Ab:=hk;omega);have Cx:=Bi.thenUpd Aj (λk hk=>by have Af:k=Ab:=hk;omega);have Cy:=Bj.updLo Aj AGp;have Bn:=Ae.updLo Aj AGp;refine AGx<|AG6<|AUq<|ATm<|⟨_,AVn AUi rfl rfl Bl,?_⟩;exact ⟨Bm,⟨Ad,s2,L2,rfl,Bn.mono AGp,Av,Aw,by rw [<- Ax,Ah];first | exact Al9 (eq_of_beq<|by assumption) | exact Ama (ne_of_beq_false<|by assumption) (Ahu<|by assumption) | exact Ajr (ne_of_beq_false<|by assumption)<|Al8<|by assumption⟩⟩
  ·refine AG1<|ATw rfl (AG5<|q_b<|q_t<|AGt<|AGq<|AGq<|AGq<|ATl trivial rfl (Aqx (HB.ext E4) (HA.ext E4) hta (Al8<|by assumption) AGp) λCz C0 hk=>?_);obtain ⟨Ay,L1,Ac,Ag,Ah,A6⟩:=hk;refine ⟨trivial,?_⟩;have C1:=Ay.1;have Bo:=Z8.trans Ay;have Bp:=E4.trans Ay;have Bq:=V3.ext Ay;have Br:=E4.trans Ay;refine ATl trivial rfl (Acm nb Ac Ag AGp) λC2 C3 hk=>?_;obtain ⟨Ak,Ar⟩:=hk;refine ⟨trivial,?_⟩;have C4:=Ak.1;have Bt:=Bo.trans Ak;have Bu:=Bp.trans Ak;have Bv:=Bq.ext Ak;have Bw:=Br.trans Ak;have Bx:=Ac.ext Ak;obtain ⟨Ad,s2,L2,rfl,Ae,Av,Aw,Ax⟩:=Ar.out;refine AVe [.bool Ad,s2] AUi rfl rfl rfl rfl (Ab3 Ae.cap) Bv λC5 By Am=>?_;have Bz:=Bu.thenUpd Am (λk hk=>by have Af:k=Ab:=hk;omega);have C6:=Am.1;have C7:=Bt.thenUpd Am (λk hk=>by have Af:k=Ab:=hk;omega);have C8:=Bw.thenUpd Am (λk hk=>by have Af:k=Ab:=hk;omega);have C9:=Bx.updLo Am AGp;have B3:=Ae.updLo Am AGp;refine AGx<|AG6<|⟨_,AVn AUi rfl rfl By,?_⟩;exact ⟨Bz,⟨Ad,s2,L2,rfl,B3.mono AGp,Av,Aw,by rw [<- Ax,Ah];first | exact Al9 (eq_of_beq<|by assumption) | exact Ama (ne_of_beq_false<|by assumption) (Ahu<|by assumption) | exact Ajr (ne_of_beq_false<|by assumption)<|Al8<|by assumption⟩⟩
 ·refine AG1<|AT0 rfl (AGt<|AGq<|AGq<|AGq<|ATl trivial rfl (Au2 (HA.ext E4) (HB.ext E4) AGp AGp) λDa Db hk=>?_);obtain ⟨Az,L1,Ac,Ag,Ah,A6⟩:=hk;refine ⟨trivial,?_⟩;have Dc:=Az.1;have B4:=Z8.trans Az;have B5:=E4.trans Az;have B6:=V3.ext Az;have B7:=E4.trans Az;refine ATl trivial rfl (Acm na Ac Ag<|Aer Ag (by rw [Ah];exact Asz HA.dig HB.dig hna hnb)) λDd De hk=>?_;obtain ⟨Ao,Ar⟩:=hk;refine ⟨trivial,?_⟩;have Df:=Ao.1;have B8:=B4.trans Ao;have B9:=B5.trans Ao;have Ca:=B6.ext Ao;have Cb:=B7.trans Ao;have Cd:=Ac.ext Ao;obtain ⟨Ad,s2,L2,rfl,Ae,Av,Aw,Ax⟩:=Ar.out;refine AVe [.bool Ad,s2] AUi rfl rfl rfl rfl (Ab3 Ae.cap) Ca λDg Ce Ap=>?_;have Cf:=B9.thenUpd Ap (λk hk=>by have Af:k=Ab:=hk;omega);have Dh:=Ap.1;have Di:=B8.thenUpd Ap (λk hk=>by have Af:k=Ab:=hk;omega);have Dj:=Cb.thenUpd Ap (λk hk=>by have Af:k=Ab:=hk;omega);have Dk:=Cd.updLo Ap AGp;have Cg:=Ae.updLo Ap AGp;refine AGx<|AG6<|AUq<|ATm<|⟨_,AVn AUi rfl rfl Ce,?_⟩;exact ⟨Cf,⟨Ad,s2,L2,rfl,Cg.mono AGp,Av,Aw,by rw [<- Ax,Ah];first | exact Al9 (eq_of_beq<|by assumption) | exact Ama (ne_of_beq_false<|by assumption) (Ahu<|by assumption) | exact Ajr (ne_of_beq_false<|by assumption)<|Al8<|by assumption⟩⟩
theorem AXy {ng:Bool} {n:Nat} {z:Int} (h:z=sgn ng n):z.natAbs=n:=by
 subst h;cases ng <;> simp [sgn]
theorem A1s (ng:Bool) (n:Nat):sgn (!ng) n= -sgn ng n:=by cases ng <;> simp [sgn]
theorem Sub_ok {b:Int} (HA:ZV h la va a) (HB:ZV h lb vb b) (hba:a.natAbs < 4294967296 ^ 99) (hbb:b.natAbs < 4294967296 ^ 99):AT3 Tryz.prog 189 #[va,vb] h λx h'=>Ext h h'/\ZV h' (Array.size h) x (a - b):=by
 obtain ⟨na,sa,LA,rfl,HDa,htla,hla,hza⟩:=HA.out;obtain ⟨nb,sb,LB,rfl,HDb,htlb,hlb,hzb⟩:=HB.out;refine AUd (l:=[_,_]) mx Tryz.func189 rfl rfl rfl rfl rfl AG3 (AGt<|Ab7 [.bool na,sa] (λ_=>trivial) rfl rfl λAj h2 V3 E4 A8 B4=>?_);have B5:Array.size h<=Aj:=A8;have B6:=E4.1;have Z8:=(Ext.refl h).trans E4;refine Ab7 [.bool nb,sb] (λ_=>trivial) rfl rfl λAk B7 Ar Af Ba B8=>?_;have B9:Array.size h<=Ak:=Nat.le_trans E4.1 Ba;have nebq1bq9:Aj≠Ak:=by have:=V3.lt;omega
 have Ca:=Af.1;have Au:=E4.trans Af;have Av:=V3.ext Af;refine AY2 [.bool false,.slice none 0 0] AXw rfl (λ_=>trivial) λAb Ah Bb Ac Bc Cb=>?_;have Cd:Array.size h<=Ab:=Nat.le_trans Au.1 Bc;have nebq1bq20:Aj≠Ab:=by have:=Av.lt;omega
 have nebq9bq20:Ak≠Ab:=by have:=Ar.lt;omega
 have Ce:=Ac.1;have Be:=(Z8.trans Af).trans Ac;have Am:=Au.trans Ac;have Aw:=Av.ext Ac;have Bf:=(E4.trans Af).trans Ac;have Ax:=Ar.ext Ac;have Bg:=Af.trans Ac;refine AGx<|AGv<|AVl (λh'=>Ext Ah h') AG3 ?_;have Aa:=Ext.refl Ah;refine AYd (fs:=1) Ad4 AG3 AGr rfl (AVf AW1 rfl Aa (λh' hb=>(Aw.ext hb).cell (i:=0) rfl) (AYd (fs:=1) Ael AG3 AGr rfl (AVf AZ9 rfl Aa (λh' hb=>(Aw.ext hb).cell (i:=1) rfl) (ATl Aa rfl (Ae4 (DS.mono (HDa.ext Am)<|Nat.zero_le _) AGp) λCf Ah hk=>?_))));obtain ⟨rfl,L1,Ao,Ay⟩:=hk;refine ⟨Aa,?_⟩;have Bh:=Ao.ds (lo:=la) HDa.lo;have Az:=Ao.val;have Ch:=Ao.len;refine AYd (fs:=1) Ad4 AG3 AGr rfl (AVf AW1 rfl Aa (λh' hb=>(Ax.ext hb).cell (i:=0) rfl) (AXb rfl (AYd (fs:=1) Ael AG3 AGr rfl (AVf AZ9 rfl Aa (λh' hb=>(Ax.ext hb).cell (i:=1) rfl) (ATl Aa rfl (Ae4 (DS.mono (HDb.ext Am)<|Nat.zero_le _) AGp) λCi Ah hk=>?_)))));obtain ⟨rfl,L2,Ap,A3⟩:=hk;refine ⟨Aa,?_⟩;have Bi:=Ap.ds (lo:=lb) HDb.lo;have A4:=Ap.val;have Ck:=Ap.len;refine ATl Aa rfl (Awb na (!nb) Bh Bi Ay A3 (Aer Ay (by rw [Az,<- AXy hza];exact hba))<|Aer A3 (by rw [A4,<- AXy hzb];exact hbb)) λCm Cn hk=>?_;obtain ⟨Ad,Bj⟩:=hk;have Bl:=Aa.trans Ad;refine ⟨Bl,?_⟩;have Co:=Ad.1;have Bm:=Be.trans Ad;have Bn:=Am.trans Ad;have Bo:=Bf.trans Ad;have Bp:=Bg.trans Ad;have Bq:=Bb.ext Ad;have Br:=Ac.trans Ad;obtain ⟨A5,s3,L3,rfl,A7,Bu,Bv,Bw⟩:=Bj.out;refine AVe [.bool A5,s3] AUi rfl rfl rfl rfl (Ab3 A7.cap) Bq λCp Bx Ae=>?_;have By:=Bn.thenUpd Ae (λk hk=>by have Ai:k=Ab:=hk;omega);have Cq:=Ae.1;have Cr:=Bm.thenUpd Ae (λk hk=>by have Ai:k=Ab:=hk;omega);have Ct:=Br.thenUpd Ae (λk hk=>by have Ai:k=Ab:=hk;omega);have Cu:=Bo.thenUpd Ae (λk hk=>by have Ai:k=Ab:=hk;omega);have Cv:=Bp.thenUpd Ae (λk hk=>by have Ai:k=Ab:=hk;omega);have Bz:=A7.updLo Ae AGp;refine AGx<|AG6<|⟨_,AVn AUi rfl rfl Bx,?_⟩;exact ⟨By,⟨A5,s3,L3,rfl,Bz.mono AGp,Bu,Bv,by rw [<- Bw,Az,A4,hza,hzb,A1s];omega⟩⟩
theorem Avz (a b:Bool) (x y:Nat):sgn a x * sgn b y=sgn (!(a == b)) (x * y):=by
 cases a <;> cases b <;> simp [sgn,Int.neg_mul,Int.mul_neg]
theorem Az8 {L:List Nat} (h:Dig L) (hl:L.length<=2):nv L < 18446744073709551616:=by
 have h1:=Afz h;have h2:4294967296 ^ L.length<=4294967296 ^ 2:=Nat.pow_le_pow_right AGr hl;omega
theorem Apu {a b:Nat} (h:Af7 a b < 0):a < b:=by
 unfold Af7 at h;omega
theorem A0p (HA:DS h la va LA) (HB:DS h lb vb LB) (hta:TL LA) (htb:TL LB) (Ar:nv LB≠0) (hna:LA.length<=2) (hnb:LB.length<=2):AT3 Tryz.prog 193 #[va,vb] h λx h'=>Ext h h'/\ ∃ q r,x= .tuple #[q,r]/\ ∃ LQ LR,DS h' (Array.size h) q LQ/\DS h' (Array.size h) r LR/\TL LQ/\TL LR/\nv LQ=nv LA / nv LB/\nv LR=nv LA % nv LB/\LQ.length<=2/\LR.length<=2:=by
 refine AUd (l:=[_,_]) mx Tryz.func193 rfl rfl rfl rfl rfl AG3 (AGt<|ATu<|AG1<|AGv<|AGw<|AGt<|AGq<|AGq<|ATl trivial rfl (Aoy HA HB hta htb AGp AGp) λx1 h hk=>?_);obtain ⟨rfl,rfl⟩:=hk;refine ⟨trivial,?_⟩;refine AXh rfl rfl (λAm=>?_) (λAm=>?_)
 ·refine AG1<|AT0 rfl (AGt<|AGq<|ATl trivial rfl (Aqw HA AGp) λx2 h3 hk=>?_);obtain ⟨E4,Aa⟩:=hk;refine ⟨trivial,?_⟩;have Ax:=E4.1;have Z6:=(Ext.refl h).trans E4;refine ATu (AG1<|AG6<|AUq<|ATm<|⟨_,AU0,?_⟩)
  first
  | (have hlt:=Apu (by assumption:Af7 (nv LA) (nv LB) < 0)
     exact ⟨E4,_,_,rfl,[],LA,Ajk _ _,Aa,Akr,hta,by rw [Nat.div_eq_of_lt hlt];rfl,by rw [Nat.mod_eq_of_lt hlt],AT6,AGp⟩)
  | exact ⟨E4,_,_,rfl,L1,L2,lacks_HD1.mono AGp,Aa.mono AGp,Ag,Ah,Ai,Aj,AGp,AGp⟩
 ·refine AG1<|ATw rfl (AGt<|AGq<|AUz ATo rfl HA (Ak6 rfl rfl (λ_=>?_) (λhc=>absurd hc AGp)));refine AG1<|AT0 rfl (AGt<|AGq<|ATl trivial rfl (Ar1 HA AGp) λx7 h hk=>?_);obtain ⟨rfl,rfl⟩:=hk;refine ⟨trivial,?_⟩;refine AGq<|ATl trivial rfl (Ar1 HB AGp) λx8 h hk=>?_;obtain ⟨rfl,rfl⟩:=hk;refine ⟨trivial,?_⟩;refine ATu<|AG1<|AGv ?_;have hlt:=Az8 HA.dig hna;refine Ajf AG3<|AGq<|AGq<|Aui rfl rfl AGp ?_;rw [show IntKind.u64.wrap (((nv LA:Nat):Int).tdiv ((nv LB:Nat):Int))=((nv LA / nv LB:Nat):Int) by rw [Int.tdiv_eq_ediv_of_nonneg AGp,<- Int.natCast_ediv,wrap_u64];have hq:=Nat.div_le_self (nv LA)<|nv LB;generalize nv LA / nv LB=q at hq ⊢;omega];refine ATl trivial rfl (Aih (nv LA / nv LB) (by have:=Nat.div_le_self (nv LA)<|nv LB;omega) _) λx9 A5 hk=>?_;obtain ⟨Ad,L1,Ao,Ag,Ai,A6⟩:=hk;refine ⟨trivial,?_⟩;have A7:=Ad.1;have Ap:=(Ext.refl h).trans Ad;refine AGq<|AGq<|A5m rfl rfl AGp (ATl trivial rfl (Aih (nv LA % nv LB) (by have:=Nat.mod_le (nv LA)<|nv LB;omega) _) λA8 A9 hk=>?_);obtain ⟨Ac,L2,Aa,Ah,Aj,Ba⟩:=hk;refine ⟨trivial,?_⟩;have Bb:=Ac.1;have Bc:=Ap.trans Ac;have Ak:=Ad.trans Ac;have Aq:=Ao.ext Ac;refine ATu (AG1<|AG6<|AUq<|ATm<|⟨_,AU0,?_⟩)
  first
  | (have hlt:=Apu (by assumption:Af7 (nv LA) (nv LB) < 0)
     exact ⟨Ak,_,_,rfl,[],LA,Ajk _ _,Aa,Akr,hta,by rw [Nat.div_eq_of_lt hlt];rfl,by rw [Nat.mod_eq_of_lt hlt],AT6,AGp⟩)
  | exact ⟨Ak,_,_,rfl,L1,L2,Aq.mono AGp,Aa.mono AGp,Ag,Ah,Ai,Aj,AGp,AGp⟩
theorem Aeq {b q r:Int} (hb:b≠0) (h:a=b * q + r) (h0:0<=r) (h1:r < b.natAbs):a / b=q/\a % b=r:=by
 have hr:r % b=r:=by
  rcases Amp 0 b with hp | hn
  ·exact Int.emod_eq_of_lt h0 AGp
  ·rw [<- Int.emod_neg];exact Int.emod_eq_of_lt h0 AGp
 have hm:a % b=r:=by simp_all
 refine ⟨?_,hm⟩;have h2:=Int.mul_ediv_add_emod a b;rw [hm] at h2;have h3:b * (a / b)=b * q:=by omega
 exact Int.eq_of_mul_eq_mul_left hb h3
theorem BDt {A:Nat} (hA:A < 18446744073709551616) (hr:A % B≠0):A / B + 1 < 18446744073709551616:=by
 match B with
 | 0=>simp
 | 1=>omega
 | n + 2=>
   have:A / (n + 2)<=A / 2:=Nat.div_le_div_left (show 2<=n + 2 by omega) AGp
   omega
theorem BDu {nb:Bool} {A:Nat} (hB:B≠0):sgn nb (A / B)=(A:Int) / sgn nb B/\sgn false (A % B)=(A:Int) % sgn nb B:=by
 have h:=Nat.div_add_mod A B;have hl:=Nat.mod_lt A<|Nat.pos_of_ne_zero hB;have h2:(A:Int)=(B:Int) * ((A / B:Nat):Int) + ((A % B:Nat):Int):=by omega
 have:=Aeq (a:=A) (b:=sgn nb B) (q:=sgn nb<|A / B) (r:=((A % B:Nat):Int)) (by cases nb <;> simp [sgn] <;> omega) (by cases nb <;> simp only [sgn] <;> simp [Int.neg_mul_neg] <;> (rw [<- Int.natCast_ediv,<- Int.natCast_emod];exact h2)) AGp (by cases nb <;> simp only [sgn] <;> simp <;> omega);exact ⟨this.1.symm,this.2.symm⟩
theorem BAr {nb:Bool} {A:Nat} (hB:B≠0) (hr:A % B≠0):sgn (!nb) (A / B + 1)= -(A:Int) / sgn nb B/\sgn false (B - A % B)= -(A:Int) % sgn nb B:=by
 have h:=Nat.div_add_mod A B;have hl:=Nat.mod_lt A<|Nat.pos_of_ne_zero hB;have h2:(A:Int)=(B:Int) * ((A / B:Nat):Int) + ((A % B:Nat):Int):=by omega
 obtain ⟨q,hq⟩:∃ q,A / B=q:=⟨_,rfl⟩;obtain ⟨r,hrr⟩:∃ r,A % B=r:=⟨_,rfl⟩;rw [hq,hrr] at h2;rw [hrr] at hl hr;rw [hq,hrr];have e:((B - r:Nat):Int)=(B:Int) - (r:Int):=by omega
 have:=Aeq (a:= -(A:Int)) (b:=sgn nb B) (q:=sgn (!nb)<|q + 1) (r:=((B - r:Nat):Int)) (by cases nb <;> simp [sgn] <;> omega) (by rw [h2,e];cases nb <;> simp [sgn] <;> grind) AGp (by cases nb <;> simp only [sgn] <;> simp <;> omega);exact ⟨this.1.symm,this.2.symm⟩
theorem BAs {nb:Bool} {A:Nat} (hB:B≠0) (hr:A % B=0):sgn (!nb) (A / B)= -(A:Int) / sgn nb B/\sgn false (A % B)= -(A:Int) % sgn nb B:=by
 have h:=Nat.div_add_mod A B;have h2:(A:Int)=(B:Int) * ((A / B:Nat):Int):=by omega
 obtain ⟨q,hq⟩:∃ q,A / B=q:=⟨_,rfl⟩;rw [hq] at h2;rw [hq,hr];have:=Aeq (a:= -(A:Int)) (b:=sgn nb B) (q:=sgn (!nb) q) (r:=0) (by cases nb <;> simp [sgn] <;> omega) (by rw [h2];cases nb <;> simp [sgn] <;> grind) AGp (by cases nb <;> simp only [sgn] <;> simp <;> omega);exact ⟨this.1.symm,this.2.symm⟩
theorem DivMod2_ok {b:Int} (HA:ZV h la va a) (HB:ZV h lb vb b) (hba:a.natAbs < 18446744073709551616) (hbb:b.natAbs < 18446744073709551616) (C6:b≠0):AT3 Tryz.prog 158 #[va,vb] h λx h'=>Ext h h'/\ ∃ q r,x= .tuple #[q,r,.bool true]/\ZV h' (Array.size h) q (a / b)/\ZV h' (Array.size h) r (a % b):=by
 obtain ⟨na,sa,LA,rfl,HDa,htla,hla,hza⟩:=HA.out;obtain ⟨nb,sb,LB,rfl,HDb,htlb,hlb,hzb⟩:=HB.out;refine AUd (l:=[_,_]) mx Tryz.func158 rfl rfl rfl rfl rfl AG3 (AGt<|Ab7 [.bool na,sa] (λ_=>trivial) rfl rfl λA5 h2 V3 E4 C7 C8=>?_);have Hr:Array.size h<=A5:=C7;have Hs:=E4.1;have Z8:=(Ext.refl h).trans E4;refine Ab7 [.bool nb,sb] (λ_=>trivial) rfl rfl λA6 Ht Bb A9 Da Hu=>?_;have Hv:Array.size h<=A6:=Nat.le_trans E4.1 Da;have nebq1bq9:A5≠A6:=by have:=V3.lt;omega
 have Hw:=A9.1;have Ch:=E4.trans A9;have Bc:=V3.ext A9;refine AY2 [.bool false,.slice none 0 0] AXw rfl (λ_=>trivial) λAc Hx Ci Ay Db Hy=>?_;have Hz:Array.size h<=Ac:=Nat.le_trans Ch.1 Db;have nebq1bq20:A5≠Ac:=by have:=Bc.lt;omega
 have nebq9bq20:A6≠Ac:=by have:=Bb.lt;omega
 have Ia:=Ay.1;have Dc:=(Z8.trans A9).trans Ay;have Cj:=Ch.trans Ay;have Ck:=Bc.ext Ay;have Dd:=(E4.trans A9).trans Ay;have Cm:=Bb.ext Ay;refine AY2 [.bool false,.slice none 0 0] AXw rfl (λ_=>trivial) λAa Cn De Ax Df Ib=>?_;have Ic:Array.size h<=Aa:=Nat.le_trans Cj.1 Df;have nebq1bq33:A5≠Aa:=by have:=Ck.lt;omega
 have nebq9bq33:A6≠Aa:=by have:=Cm.lt;omega
 have nebq20bq33:Ac≠Aa:=by have:=Ci.lt;omega
 have Id:=Ax.1;have Dg:=Dc.trans Ax;have Bu:=Cj.trans Ax;have Co:=Ck.ext Ax;have Dh:=Dd.trans Ax;have Cp:=Cm.ext Ax;have Di:=(A9.trans Ay).trans Ax;have Dj:=Ci.ext Ax;have Dk:=Ay.trans Ax;refine AT5<|AYd (fs:=1) Ael AG3 AGr rfl (AT2 AZ9 rfl (Cp.cell (i:=1) rfl) (ATl trivial rfl (Ae4 (DS.mono (HDb.ext Bu)<|Nat.zero_le _) AGp) λIe Cn hk=>?_));obtain ⟨rfl,L2,Bv,Bw⟩:=hk;refine ⟨trivial,?_⟩;have Bx:=Bv.ds (lo:=lb) HDb.lo;have A7:=Bv.val;have If:=Bv.len;refine AG1<|AGv<|AGt<|AGq<|AUz ATo rfl Bx ?_;have Be:nv LB≠0:=λh0=>C6 (by rw [hzb,h0];cases nb <;> rfl);have hLB:L2≠[]:=λh0=>Be (by rw [<- A7,h0];rfl);have hLp:=List.length_pos_iff.2 hLB;refine Ak7 rfl rfl (λhc=>absurd hc AGp) (λ_=>AGx<|ATw rfl (AG5<|q_t<|AGt<|AYd (fs:=1) Ael AG3 AGr rfl (AT2 AZ9 rfl (Co.cell (i:=1) rfl) (ATl trivial rfl (Ae4 (DS.mono (HDa.ext Bu)<|Nat.zero_le _) AGp) λIh Cn hk=>?_))));obtain ⟨rfl,L1,By,Cr⟩:=hk;refine ⟨trivial,?_⟩;have Ct:=By.ds (lo:=la) HDa.lo;have Cu:=By.val;have Ij:=By.len;refine AGq<|ATl trivial rfl (A0p Ct Bx Cr Bw (by rw [A7];exact Be) (Aer Cr (by rw [Cu,<- AXy hza];omega))<|Aer Bw (by rw [A7,<- AXy hzb];omega)) λIk Il hk=>?_;obtain ⟨Am,qv,rv,rfl,LQ,LR,HQ,HR,htq,htr,hvq,hvr,hlq,hlr⟩:=hk;refine ⟨trivial,?_⟩;have Im:=Am.1;have Bz:=Dg.trans Am;have B3:=Bu.trans Am;have B4:=Co.ext Am;have B5:=Dh.trans Am;have Dl:=Cp.ext Am;have B6:=Di.trans Am;have B7:=Dj.ext Am;have B8:=Dk.trans Am;have B9:=De.ext Am;have Ca:=Bx.ext Am;have Cb:=Ct.ext Am;rw [Cu,A7] at hvq hvr;have Io:L2.length<=2:=Aer Bw (by rw [A7,<- AXy hzb];omega);refine AGq<|AUf rfl rfl (AUf rfl rfl (ATu<|AT5<|AYd (fs:=1) Ad4 AG3 AGr rfl (AT2 AW1 rfl (Dl.cell (i:=0) rfl) (AG1<|AGv<|AGw<|AGv<|AGw<|AGv<|AGw<|AGv<|AGv<|AGv ?_))));have hrl:LR.length=0↔nv LA % nv LB=0:=⟨λh0=>by rw [<- hvr,List.length_eq_zero_iff.1 h0];rfl,λh0=>by rw [AZa htr<|hvr.trans h0];rfl⟩;refine ATd<|AYd (fs:=1) Ad4 AG3 AGr rfl (AT2 AW1 rfl (B4.cell (i:=0) rfl) ?_);cases Bf:na
 ·refine AGq<|AUl 32 false AG3 rfl rfl (AUl 32 false AG3 rfl rfl (AUl 32 false AG3 rfl rfl (ATs rfl (AG1<|ATw rfl (AG5<|q_t<|AGt<|AYd (fs:=1) Ad4 AG3 AGr rfl (AT2 AW1 rfl (B4.cell (i:=0) rfl) ?_))))));rw [Bf];refine AG1<|ATw rfl (AG5<|q_t<|ATj<|At7 AGr<|ATk<|At7 AGr<|ATk<|AUh<|q_t<|AGt<|AGq<|AGq<|ATl trivial rfl (Acm nb HQ htq AGp) λIp Iq hk=>?_);obtain ⟨Ao,Bg⟩:=hk;refine ⟨trivial,?_⟩;have Ir:=Ao.1;have Do:=Bz.trans Ao;have Dp:=B3.trans Ao;have Dq:=B5.trans Ao;have Dr:=B6.trans Ao;have Ds:=B7.ext Ao;have Dt:=B8.trans Ao;have Du:=B9.ext Ao;have Is:=Ca.ext Ao;have It:=Cb.ext Ao;have HQ_82:=HQ.ext Ao;have HR_83:=HR.ext Ao;obtain ⟨Az,s7,L7,rfl,Bi,Bj,Bl,Bm⟩:=Bg.out;refine AGq<|ATl trivial rfl (Acm false HR_83 htr AGp) λIu Iv hk=>?_;obtain ⟨Ar,Bn⟩:=hk;refine ⟨trivial,?_⟩;have Iw:=Ar.1;have Dv:=Do.trans Ar;have Dw:=Dp.trans Ar;have Dx:=Dq.trans Ar;have Dy:=Dr.trans Ar;have Dz:=Ds.ext Ar;have D0:=Dt.trans Ar;have D2:=Du.ext Ar;have HQ_98:=HQ_82.ext Ar;have HR_99:=HR_83.ext Ar;have Cv:=Bi.ext Ar;obtain ⟨A4,s8,L8,rfl,Bp,Bq,Br,Bt⟩:=Bn.out;refine AVe [.bool Az,s7] AUi rfl rfl rfl rfl (Ab3 Cv.cap) Dz λIx D3 Au=>?_;have D4:=Dw.thenUpd Au (λk hk=>by have Ab:k=Ac:=hk;omega);have Iy:=Au.1;have D5:=Dv.thenUpd Au (λk hk=>by have Ab:k=Ac:=hk;omega);have Cd:=D0.thenUpd Au (λk hk=>by have Ab:k=Ac:=hk;omega);have D6:=Dx.thenUpd Au (λk hk=>by have Ab:k=Ac:=hk;omega);have D7:=Dy.thenUpd Au (λk hk=>by have Ab:k=Ac:=hk;omega);have D8:=D2.upd Au λhe=>(Ne.symm nebq20bq33) (he:Aa=Ac);have HQ_113:=HQ_98.updLo Au AGp;have HR_114:=HR_99.updLo Au AGp;have D9:=Cv.updLo Au AGp;have Cw:=Bp.updLo Au AGp;refine AVe [.bool A4,s8] AUi rfl rfl rfl rfl (Ab3 Cw.cap) D8 λIz Ea Ag=>?_;have Eb:=D4.thenUpd Ag (λk hk=>by have Ab:k=Aa:=hk;omega);have I0:=Ag.1;have I1:=D5.thenUpd Ag (λk hk=>by have Ab:k=Aa:=hk;omega);have I2:=(Bc.ext Cd).upd Ag (λhe=>nebq1bq33 (he:A5=Aa));have I3:=D6.thenUpd Ag (λk hk=>by have Ab:k=Aa:=hk;omega);have I6:=(Bb.ext Cd).upd Ag (λhe=>nebq9bq33 (he:A6=Aa));have I7:=D7.thenUpd Ag (λk hk=>by have Ab:k=Aa:=hk;omega);have Ec:=D3.upd Ag λhe=>nebq20bq33 (he:Ac=Aa);have I9:=Cd.thenUpd Ag (λk hk=>by have Ab:k=Aa:=hk;omega);have HQ_129:=HQ_113.updLo Ag AGp;have HR_130:=HR_114.updLo Ag AGp;have Ed:=D9.updLo Ag AGp;have Ee:=Cw.updLo Ag AGp;refine AG1<|AG6<|⟨_,Ag6 AUi rfl rfl Ec AUi rfl rfl Ea,?_⟩;have hk:=BDu (nb:=nb) (A:=nv LA) Be;have ea:a=((nv LA:Nat):Int):=by rw [hza,Bf];rfl
  exact ⟨Eb,_,_,rfl,⟨Az,s7,L7,rfl,Ed.mono AGp,Bj,Bl,by rw [<- Bm,hvq,ea,hzb];exact hk.1.symm⟩,⟨A4,s8,L8,rfl,Ee.mono AGp,Bq,Br,by rw [<- Bt,hvr,ea,hzb];exact hk.2.symm⟩⟩
 ·refine AGq<|AUs 32 true AG3 rfl rfl (AGq<|AUs 32 true AG3 rfl rfl (AUz ATo rfl HR (AUs 32 true AG3 rfl rfl (Ajg rfl rfl (λEf=>?_) (λEf=>?_)))))
  ·refine ATp rfl (AG1<|AT0 rfl (ATj<|ATk<|ATk<|AUh<|q_t<|AGt<|AGq<|A5v [Age 1] ATo Ad9 rfl (λ_=>trivial) rfl AGp AGp rfl (by simp [Age,isOne]) λg8 v8 h8 Ei E8 Jc Je=>?_));have Jf:=E8.1;have Ej:=Bz.trans E8;have Ek:=B3.trans E8;have El:=B5.trans E8;have Em:=B6.trans E8;have En:=B7.ext E8;have Eo:=B8.trans E8;have Ep:=B9.ext E8;have Er:=Ca.ext E8;have Es:=Cb.ext E8;have HQ_146:=HQ.ext E8;have HR_147:=HR.ext E8;have HDu:DS h8 0 v8 [1]:=AWi.ds (L:=[1]) Ei (by intro x hx;rw [List.mem_singleton.1 hx];decide)<|Nat.zero_le _;refine ATl trivial rfl (Au2 HQ_146 HDu AGp AT6) λJg Jh hk=>?_;obtain ⟨Ah,L5,Eu,Cx,Cy,Ji⟩:=hk;refine ⟨trivial,?_⟩;have Jj:=Ah.1;have Ev:=Ej.trans Ah;have Ew:=Ek.trans Ah;have Ey:=El.trans Ah;have Ez:=Em.trans Ah;have Fa:=En.ext Ah;have Fb:=Eo.trans Ah;have Fc:=Ep.ext Ah;have Cz:=Er.ext Ah;have Fd:=Es.ext Ah;have HQ_164:=HQ_146.ext Ah;have HR_165:=HR_147.ext Ah;have HDu_166:=HDu.ext Ah;refine AG1<|ATd<|AGq<|AGq<|ATl trivial rfl (Aqx Cz HR_165 htr (by rw [hvr,A7];exact Nat.le_of_lt<|Nat.mod_lt _ AGp) AGp) λJk Jl hk=>?_;obtain ⟨Af,L6,Fe,Ff,Fg,C8⟩:=hk;refine ⟨trivial,?_⟩;have Jn:=Af.1;have Fh:=Ev.trans Af;have Fi:=Ew.trans Af;have Fj:=Ey.trans Af;have Fk:=Ez.trans Af;have Fl:=Fa.ext Af;have Fm:=Fb.trans Af;have Fo:=Fc.ext Af;have Fp:=Cz.ext Af;have Fq:=Fd.ext Af;have HQ_183:=HQ_164.ext Af;have HR_184:=HR_165.ext Af;have HDu_185:=HDu_166.ext Af;have C0:=Eu.ext Af;refine ATu<|ATr<|q_b<|q_t<|AGt<|AGq<|AXb rfl (AG1<|ATj<|AUh<|q_t<|AGt<|AGq<|AGq<|ATl trivial rfl (Acm (!nb) C0 Cx (by have h5:L5.length<=2:=Aer Cx (by rw [Cy,hvq];exact BDt (A:=nv LA) (B:=nv LB) (by rw [<- AXy hza];exact hba) AGp);omega)) λJp Jq hk=>?_);obtain ⟨Ad,Bg⟩:=hk;refine ⟨trivial,?_⟩;have Jr:=Ad.1;have Ft:=Fh.trans Ad;have Fu:=Fi.trans Ad;have Fv:=Fj.trans Ad;have Fw:=Fk.trans Ad;have Fx:=Fl.ext Ad;have Fy:=Fm.trans Ad;have Fz:=Fo.ext Ad;have Js:=Fp.ext Ad;have Jt:=Fq.ext Ad;have HQ_203:=HQ_183.ext Ad;have HR_204:=HR_184.ext Ad;have HDu_205:=HDu_185.ext Ad;have F4:=C0.ext Ad;have C1:=Fe.ext Ad;obtain ⟨Az,s7,L7,rfl,Bi,Bj,Bl,Bm⟩:=Bg.out;refine AGq<|ATl trivial rfl (Acm false C1 Ff AGp) λJu Jv hk=>?_;obtain ⟨Ai,Bn⟩:=hk;refine ⟨trivial,?_⟩;have Jw:=Ai.1;have F5:=Ft.trans Ai;have F6:=Fu.trans Ai;have F7:=Fv.trans Ai;have F8:=Fw.trans Ai;have F9:=Fx.ext Ai;have Ga:=Fy.trans Ai;have Gb:=Fz.ext Ai;have HQ_222:=HQ_203.ext Ai;have HR_223:=HR_204.ext Ai;have Gc:=F4.ext Ai;have Gd:=C1.ext Ai;have C2:=Bi.ext Ai;obtain ⟨A4,s8,L8,rfl,Bp,Bq,Br,Bt⟩:=Bn.out;refine AVe [.bool Az,s7] AUi rfl rfl rfl rfl (Ab3 C2.cap) F9 λJx Ge Aj=>?_;have Gf:=F6.thenUpd Aj (λk hk=>by have Ab:k=Ac:=hk;omega);have Jy:=Aj.1;have Gg:=F5.thenUpd Aj (λk hk=>by have Ab:k=Ac:=hk;omega);have Ce:=Ga.thenUpd Aj (λk hk=>by have Ab:k=Ac:=hk;omega);have Gh:=F7.thenUpd Aj (λk hk=>by have Ab:k=Ac:=hk;omega);have Gi:=F8.thenUpd Aj (λk hk=>by have Ab:k=Ac:=hk;omega);have Gj:=Gb.upd Aj λhe=>(Ne.symm nebq20bq33) (he:Aa=Ac);have HQ_239:=HQ_222.updLo Aj AGp;have HR_240:=HR_223.updLo Aj AGp;have Gk:=Gc.updLo Aj AGp;have Gl:=Gd.updLo Aj AGp;have Gm:=C2.updLo Aj AGp;have C3:=Bp.updLo Aj AGp;refine AVe [.bool A4,s8] AUi rfl rfl rfl rfl (Ab3 C3.cap) Gj λJz Gn Ae=>?_;have Gp:=Gf.thenUpd Ae (λk hk=>by have Ab:k=Aa:=hk;omega);have J0:=Ae.1;have J1:=Gg.thenUpd Ae (λk hk=>by have Ab:k=Aa:=hk;omega);have J2:=(Bc.ext Ce).upd Ae (λhe=>nebq1bq33 (he:A5=Aa));have J3:=Gh.thenUpd Ae (λk hk=>by have Ab:k=Aa:=hk;omega);have J4:=(Bb.ext Ce).upd Ae (λhe=>nebq9bq33 (he:A6=Aa));have J5:=Gi.thenUpd Ae (λk hk=>by have Ab:k=Aa:=hk;omega);have Gq:=Ge.upd Ae λhe=>nebq20bq33 (he:Ac=Aa);have J6:=Ce.thenUpd Ae (λk hk=>by have Ab:k=Aa:=hk;omega);have HQ_257:=HQ_239.updLo Ae AGp;have HR_258:=HR_240.updLo Ae AGp;have J7:=Gk.updLo Ae AGp;have J8:=Gl.updLo Ae AGp;have Gr:=Gm.updLo Ae AGp;have Gt:=C3.updLo Ae AGp;refine AG1<|AG6<|⟨_,Ag6 AUi rfl rfl Gq AUi rfl rfl Gn,?_⟩;have hk:=BAr (nb:=nb) (A:=nv LA) Be AGp;have ea:a= -((nv LA:Nat):Int):=by rw [hza,Bf];rfl
   exact ⟨Gp,_,_,rfl,⟨Az,s7,L7,rfl,Gr.mono AGp,Bj,Bl,by rw [<- Bm,Cy,hvq,ea,hzb];exact hk.1.symm⟩,⟨A4,s8,L8,rfl,Gt.mono AGp,Bq,Br,by rw [<- Bt,Fg,A7,hvr,ea,hzb];exact hk.2.symm⟩⟩
  ·refine ATp rfl (AG1<|ATw rfl (AG5<|q_t<|AGt<|AYd (fs:=1) Ad4 AG3 AGr rfl (AT2 AW1 rfl (B4.cell (i:=0) rfl) ?_)));rw [Bf];refine AG1<|AT0 rfl (ATj<|ATk<|At7 AGr<|ATk<|AUh<|q_t<|AGt<|AGq<|AXb rfl (AG1<|ATj<|AUh<|q_t<|AGt<|AGq<|AGq<|ATl trivial rfl (Acm (!nb) HQ htq AGp) λJ9 Ka hk=>?_));obtain ⟨Aq,Bg⟩:=hk;refine ⟨trivial,?_⟩;have Kb:=Aq.1;have Gu:=Bz.trans Aq;have Gv:=B3.trans Aq;have Gw:=B5.trans Aq;have Gx:=B6.trans Aq;have Gy:=B7.ext Aq;have Gz:=B8.trans Aq;have G3:=B9.ext Aq;have Kc:=Ca.ext Aq;have Kd:=Cb.ext Aq;have HQ_279:=HQ.ext Aq;have HR_280:=HR.ext Aq;obtain ⟨Az,s7,L7,rfl,Bi,Bj,Bl,Bm⟩:=Bg.out;refine AGq<|ATl trivial rfl (Acm false HR_280 htr AGp) λKe Kf hk=>?_;obtain ⟨Av,Bn⟩:=hk;refine ⟨trivial,?_⟩;have Kg:=Av.1;have G4:=Gu.trans Av;have G5:=Gv.trans Av;have G6:=Gw.trans Av;have G7:=Gx.trans Av;have G8:=Gy.ext Av;have G9:=Gz.trans Av;have Hb:=G3.ext Av;have HQ_295:=HQ_279.ext Av;have HR_296:=HR_280.ext Av;have C4:=Bi.ext Av;obtain ⟨A4,s8,L8,rfl,Bp,Bq,Br,Bt⟩:=Bn.out;refine AVe [.bool Az,s7] AUi rfl rfl rfl rfl (Ab3 C4.cap) G8 λKh Hc Aw=>?_;have Hd:=G5.thenUpd Aw (λk hk=>by have Ab:k=Ac:=hk;omega);have Ki:=Aw.1;have He:=G4.thenUpd Aw (λk hk=>by have Ab:k=Ac:=hk;omega);have Cf:=G9.thenUpd Aw (λk hk=>by have Ab:k=Ac:=hk;omega);have Hf:=G6.thenUpd Aw (λk hk=>by have Ab:k=Ac:=hk;omega);have Hg:=G7.thenUpd Aw (λk hk=>by have Ab:k=Ac:=hk;omega);have Hh:=Hb.upd Aw λhe=>(Ne.symm nebq20bq33) (he:Aa=Ac);have HQ_310:=HQ_295.updLo Aw AGp;have HR_311:=HR_296.updLo Aw AGp;have Hj:=C4.updLo Aw AGp;have C5:=Bp.updLo Aw AGp;refine AVe [.bool A4,s8] AUi rfl rfl rfl rfl (Ab3 C5.cap) Hh λKj Hk Ak=>?_;have Hl:=Hd.thenUpd Ak (λk hk=>by have Ab:k=Aa:=hk;omega);have Kk:=Ak.1;have Kl:=He.thenUpd Ak (λk hk=>by have Ab:k=Aa:=hk;omega);have Km:=(Bc.ext Cf).upd Ak (λhe=>nebq1bq33 (he:A5=Aa));have Kn:=Hf.thenUpd Ak (λk hk=>by have Ab:k=Aa:=hk;omega);have Ko:=(Bb.ext Cf).upd Ak (λhe=>nebq9bq33 (he:A6=Aa));have Kp:=Hg.thenUpd Ak (λk hk=>by have Ab:k=Aa:=hk;omega);have Hm:=Hc.upd Ak λhe=>nebq20bq33 (he:Ac=Aa);have Kr:=Cf.thenUpd Ak (λk hk=>by have Ab:k=Aa:=hk;omega);have HQ_326:=HQ_310.updLo Ak AGp;have HR_327:=HR_311.updLo Ak AGp;have Hn:=Hj.updLo Ak AGp;have Ho:=C5.updLo Ak AGp;refine AG1<|AG6<|⟨_,Ag6 AUi rfl rfl Hm AUi rfl rfl Hk,?_⟩;have hk:=BAs (nb:=nb) (A:=nv LA) Be AGp;have ea:a= -((nv LA:Nat):Int):=by rw [hza,Bf];rfl
   exact ⟨Hl,_,_,rfl,⟨Az,s7,L7,rfl,Hn.mono AGp,Bj,Bl,by rw [<- Bm,hvq,ea,hzb];exact hk.1.symm⟩,⟨A4,s8,L8,rfl,Ho.mono AGp,Bq,Br,by rw [<- Bt,hvr,ea,hzb];exact hk.2.symm⟩⟩
end Go.Proofs.YtkakafabeobahaaGreatDoor.Ig
namespace Go.QF
open Go
section
variable {P:Program} {B:AG0->Prop} {st:Bool} {ops:Array Oper} {rest:List Oper} {e:Env} {h:AG0} {K:Env->AG0->Prop} {d:Nat} {ty:TypeId} {pos:String} {af:Array Edge}
theorem A2a {x y z:Operand} {el er g lo hi:Nat} {l:List Value} {k1 k2:IntKind} (hT:SlT P t el 1) (hx:e.ev x=v) (HO:AWi h er g v l) (hy:e.ev y= .int k1 (lo:Int)) (hz:e.ev z= .int k2 (hi:Int)) (hlt:lo < hi) (hle:hi<=l.length)
 (H:∀ c,RL P B st ops rest (e.set d<|.slice (some ⟨g,lo,none⟩) (hi - lo) c) h K):RL P B st ops (⟨some d,.slice t x (some y) (some z) none,ty,pos,af,none⟩ :: rest) e h K:=by
 obtain ⟨cap,cur,rfl,hg,h1,h2,h3,h4⟩:=HO;refine AX0 (v:= .slice (some ⟨g,lo,none⟩) (hi - lo)<|cap - lo) rfl rfl (λw=>?_) (H _);obtain ⟨hu,i,hi',hs⟩:=hT;have a4: ¬ cap=lo:=by omega
 simp [execOp,hx,hy,hz,Instr.sliceAt,Instr.slice,Ad3 hu,Instr.sliceBounds,Instr.sliceBound,asIntOf,a4,Ahp hi',hs,Addr.add];rw [if_pos AGp,if_pos AGp]
 by_cases h0:lo=0
 ·subst h0;simp
 ·rw [if_neg h0]
theorem Au3 {x i:Operand} {el g o n c:Nat} {k:IntKind} (hT:SlT P t el 1) (hx:e.ev x= .slice (some ⟨g,o,none⟩) n c) (hi:e.ev i= .int k (j:Int)) (hj:j < n)
 (H:RL P B st ops rest (e.set d<|.pointer<|some ⟨g,o + j,none⟩) h K):RL P B st ops (⟨some d,.indexAddr t x i,ty,pos,af,none⟩ :: rest) e h K:=by
 refine Azv hT hx hi AGp AGp ?_;have he:(⟨g,o,none⟩:Addr).add ((j:Int).toNat * 1)=⟨g,o + j,none⟩:=by rw [AX1];simp
 rw [he];exact H
end
end Go.QF
namespace Go.Proofs.YtkakafabeobahaaGreatDoor.Ig
open Go Go.QF
set_option maxRecDepth 100000
theorem A39 (HA:DS h la va LA) (HB:DS h lb vb LB) (hna:LA.length<=1000) (hnb:LB.length<=1000):AT3 Tryz.prog 196 #[va,vb] h λx h'=>Ext h h'/\ ∃ L,DS h' (Array.size h) x L/\TL L/\nv L=nv LA * nv LB/\L.length<=LA.length + LB.length + 2:=by
 refine AUd (l:=[_,_]) mx Tryz.func196 rfl rfl rfl rfl rfl AG3 (AGt<|AG1<|AGv<|AGt<|AGq<|AUz ATo rfl HA (Ak6 rfl rfl (λAw=>?_) (λAw=>?_)))
 ·refine AGq<|AUs 15 true AG3 rfl rfl (AGq<|AUs 15 true AG3 rfl rfl (AUz ATo rfl HB (AUs 15 true AG3 rfl rfl (Ak6 rfl rfl (λAx=>?_) (λAx=>?_)))))
  ·refine ATp rfl (AGx<|AT0 rfl (AGt<|AGq<|ATl trivial rfl (Ar1 HA AGp) λx1 h hk=>?_));obtain ⟨rfl,rfl⟩:=hk;refine ⟨trivial,?_⟩;refine AGq<|ATl trivial rfl (Ar1 HB AGp) λx2 h hk=>?_;obtain ⟨rfl,rfl⟩:=hk;refine ⟨trivial,?_⟩;have hm:=A7d HA.dig HB.dig AGp AGp;refine Avt rfl rfl hm (ATl trivial rfl (Aih (nv LA * nv LB) AGp _) λx3 h4 hk=>?_);obtain ⟨E5,L1,Ay,Ak,Am,Av⟩:=hk;refine ⟨trivial,?_⟩;have Bo:=E5.1;have Z7:=(Ext.refl h).trans E5;refine AG1 (AG6<|ATm<|⟨_,AS9,?_⟩)
   first
   | exact ⟨E5,L1,Ay,Ak,Am,AGp⟩
   | exact ⟨E5,L2,HT.ds HDo.lo,htl,by rw [HT.val,hOv],by have:=HT.len;omega⟩
  ·refine ATp rfl (AGx<|ATw rfl (AG5<|q_t<|AGt<|AGq<|AUz ATo rfl HA (AGq<|AUz ATo rfl HB (Aht rfl rfl AGp (Asp (n:=LA.length + LB.length) ATo Ad9 (λ_=>trivial) rfl rfl AGr AGp λg1 v1 h1 Ao E1 Az Av=>?_)))));have Bq:=E1.1;have Z9:=(Ext.refl h).trans E1;refine AG1<|AGv<|AGt<|AGq<|AUz ATo rfl (HA.ext E1) (AGq<|AGx<|AGw<|AW9 19342813113834049615433664 (λy:Nat × List Nat=>[(34,.int .i64 (y.1:Int))]) (λk y h'=>k=LA.length - y.1/\y.1<=LA.length/\Ext h h'/\g1 < Array.size h'/\AWi h' 200 g1 v1 (y.2.map Age)/\y.2.length=LA.length + LB.length/\Dig y.2/\nv y.2=nv (LA.take y.1) * nv LB/\ ∀ q,y.1 + LB.length<=q->q < LA.length + LB.length->y.2[q]? =some 0) AG3 LA.length (0,List.replicate (LA.length + LB.length) 0) ?_ ⟨rfl,trivial⟩ ?_)
   ·exact ⟨rfl,Nat.zero_le _,E1,AGp,Ao,AT6,λx hx=>by rw [(List.mem_replicate.1 hx).2];decide,by simp [nv,As0],λq hq A3=>by dsimp only;rw [List.getElem?_replicate];simp;omega⟩
   rintro k ⟨i,O⟩ s1 hq ⟨rfl,hi,XQ,hgq,Aa,hOl,hOd,hOv,hOz⟩;dsimp only at hi Aa hOl hOd hOv hOz ⊢;refine AGt<|AXh rfl rfl (λA4=>?_) (λA4=>?_)
   ·refine AGx<|AGv<|AT0 rfl (AG5<|q_t<|AGv<|AGw<|AGv ?_);obtain ⟨x,hx⟩:∃ x,LA[i]? =some x:=⟨_,List.getElem?_eq_getElem AGp⟩;have hbx:=HA.dig x<|List.mem_of_getElem? hx;refine ATd<|AGq<|Abj ATo rfl (HA.ext XQ) rfl hx λBt A5=>AT2 AVo rfl A5 (ATu<|AG1<|AGv<|AGt<|AGq<|Ak7 rfl rfl (λA6=>?_) (λA6=>?_))
    ·refine AGx<|AT0 rfl (ATj<|ATk<|AUh<|q_t<|ATd<|Aci rfl AGp (AGq<|AGx ?_));exact ⟨LA.length - (i + 1),(i + 1,O),by first | omega | (dsimp only;omega),⟨rfl,by first | omega | (dsimp only;omega),XQ,AGp,Aa,hOl,hOd,by dsimp only;rw [hOv,AU7 hx,show x=0 by omega];simp,λq h1 h2=>hOz q (by dsimp only at h1;omega) h2⟩,rfl,trivial⟩
    ·refine AGx<|ATw rfl (AG5<|q_t<|AGt<|AGq<|AGq<|AGq<|AGq<|AUz ATo rfl (HB.ext XQ) (Aht rfl rfl AGp (Aht (b:=1) rfl rfl AGp (A2a (lo:=i) (hi:=i + LB.length + 1) ATo rfl Aa rfl rfl AGp (by rw [List.length_map];omega) λcw=>?_))));refine AT5<|AG1<|AGv<|AGt<|AGq<|AUz ATo rfl (HB.ext XQ) (AGq<|AGx<|AGw<|AW9 151115725200028833156608 (λy:Nat × Nat × List Nat=>[(51,.int .i64 (y.1:Int)),(9,.int .u64 (y.2.1:Int))]) (λk y h'=>k=LB.length - y.1/\y.1<=LB.length/\Ext h h'/\g1 < Array.size h'/\AWi h' 200 g1 v1 (y.2.2.map Age)/\y.2.2.length=LA.length + LB.length/\Dig y.2.2/\y.2.1 < 4294967296/\nv y.2.2 + 4294967296 ^ (i + y.1) * y.2.1=nv (LA.take i) * nv LB + 4294967296 ^ i * (x * nv (LB.take y.1))/\ ∀ q,i + LB.length<=q->q < LA.length + LB.length->y.2.2[q]? =some 0) AG3 LB.length (0,0,O) ?_ ⟨rfl,rfl,trivial⟩ ?_)
     ·exact ⟨rfl,Nat.zero_le _,XQ,AGp,Aa,hOl,hOd,by dsimp only;omega,by simp [nv,hOv],hOz⟩
     rintro k ⟨j,c,O⟩ s2 hp ⟨rfl,hj,XQ,hgq,Aa,hOl,hOd,hc,hOv,hOz⟩;dsimp only at hj Aa hOl hOd hc hOv hOz ⊢;refine AGt<|AXh rfl rfl (λA7=>?_) (λA7=>?_)
     ·refine AGx<|AGv<|AT0 rfl (AG5<|q_t<|AGv<|AGw<|AGv ?_);obtain ⟨y,hy⟩:∃ x,LB[j]? =some x:=⟨_,List.getElem?_eq_getElem AGp⟩;have hby:=HB.dig y<|List.mem_of_getElem? hy;obtain ⟨ov,hov⟩:∃ x,O[i + j]? =some x:=⟨_,List.getElem?_eq_getElem AGp⟩;have hbo:=hOd ov<|List.mem_of_getElem? hov;have htb:=Avu hc hbx hby hbo;have hxy:x * y<=4294967295 * 4294967295:=Nat.mul_le_mul AGp AGp;refine ATd<|AGq<|Abj ATo rfl (HB.ext XQ) rfl hy λBu A8=>AT2 AVo rfl A8 (ATu<|AT5<|AGq<|AGq<|Aks AWb AVw rfl hbx (AGq<|Aks AWb AVw rfl hby (Avt rfl rfl AGp (AGq<|AGq<|Au3 ATo rfl rfl AGp (AT2 AVo rfl (AWi.cell Aa<|Akb hov) (Aks AWb AVw rfl hbo (Ag7 rfl rfl AGp (Ag7 rfl rfl AGp ?_))))))));refine AT5<|AGq<|AGq<|AGq<|Amr AVw AWb rfl (Au3 ATo rfl rfl AGp (Amq (O.set (i + j)<|(c + (x * y + ov)) % 4294967296) AVo rfl rfl Aa AGp rfl λh4 Ap U4=>?_));have Bv:=U4.1;have A9:=XQ.thenUpd U4 (λk hk=>by have Aq:k=g1:=hk;omega);refine AGx<|ATd<|AGq<|Al5 rfl rfl (ATu<|ATr<|q_b<|q_t<|ATd<|Aci rfl AGp (AGq<|AGx ?_));exact ⟨LB.length - (j + 1),(j + 1,(c + (x * y + ov)) / 4294967296,O.set (i + j)<|(c + (x * y + ov)) % 4294967296),by first | omega | (dsimp only;omega),⟨rfl,by first | omega | (dsimp only;omega),A9,AGp,Ap,by simp [hOl],Akc hOd<|Nat.mod_lt _ AGr,by dsimp only;exact Nat.div_lt_of_lt_mul htb,by dsimp only;rw [AU7 hy];exact Asq (Pi:=0) (Anc _ hov) hOv<|Nat.mod_add_div _ _,λq h1 h2=>by dsimp only;rw [List.getElem?_set_ne AGp];exact hOz q h1 h2⟩,rfl,rfl,trivial⟩
     ·refine AGx<|AGv<|ATw rfl (ATj<|ATk<|ATk<|AUh<|q_t ?_);obtain rfl:j=LB.length:=by omega
      refine ATd<|AGq<|AGq<|AUz ATo rfl (HB.ext XQ) (AGq<|Amr AVw AWb rfl ?_);rw [Nat.mod_eq_of_lt hc];refine Au3 ATo rfl rfl AGp (Amq (O.set (i + LB.length)<|c) AVo rfl rfl Aa AGp rfl λh5 Ar U5=>?_);have Bw:=U5.1;have Bb:=XQ.thenUpd U5 (λk hk=>by have Aq:k=g1:=hk;omega);refine ATr<|q_b<|q_t<|ATd<|Aci rfl AGp (AGq<|AGx ?_);exact ⟨LA.length - (i + 1),(i + 1,O.set (i + LB.length) c),by first | omega | (dsimp only;omega),⟨rfl,by first | omega | (dsimp only;omega),Bb,AGp,Ar,by simp [hOl],Akc hOd hc,by dsimp only;have h1:=Anc c<|hOz (i + LB.length) (Nat.le_refl _) AGp;rw [Nat.mul_zero,Nat.add_zero] at h1;rw [h1,hOv,List.take_length,AU7 hx,Nat.add_mul,Nat.mul_assoc],λq h1 h2=>by dsimp only;rw [List.getElem?_set_ne AGp];exact hOz q AGp h2⟩,rfl,trivial⟩
   ·refine AGx<|AGv<|ATw rfl (ATj<|ATk<|ATk<|AUh<|q_t<|AGv ?_);obtain rfl:i=LA.length:=by omega
    rw [List.take_length] at hOv;have HDo:=Aa.ds (lo:=Array.size h) hOd AGp;refine ATd<|AGq<|ATl trivial rfl (Ae4 (DS.mono HDo<|Nat.zero_le _) AGp) λBx hq hk=>?_;obtain ⟨rfl,L2,HT,htl⟩:=hk;refine ⟨trivial,?_⟩;refine AG1 (AG6<|⟨_,AS9,?_⟩)
    first
    | exact ⟨XQ,L1,lacks_HD1,Ak,Am,AGp⟩
    | exact ⟨XQ,L2,HT.ds HDo.lo,htl,by rw [HT.val,hOv],by have:=HT.len;omega⟩
 ·refine AGq<|AUl 15 false AG3 rfl rfl (AUl 15 false AG3 rfl rfl (AUl 15 false AG3 rfl rfl (ATs rfl (AGx<|ATw rfl (AG5<|q_t<|AGt<|AGq<|AUz ATo rfl HA (AGq<|AUz ATo rfl HB (Aht rfl rfl AGp (Asp (n:=LA.length + LB.length) ATo Ad9 (λ_=>trivial) rfl rfl AGr AGp λg1 v1 h1 Ao E1 Az Av=>?_))))))));have By:=E1.1;have Bz:=(Ext.refl h).trans E1;refine AG1<|AGv<|AGt<|AGq<|AUz ATo rfl (HA.ext E1) (AGq<|AGx<|AGw<|AW9 19342813113834049615433664 (λy:Nat × List Nat=>[(34,.int .i64 (y.1:Int))]) (λk y h'=>k=LA.length - y.1/\y.1<=LA.length/\Ext h h'/\g1 < Array.size h'/\AWi h' 200 g1 v1 (y.2.map Age)/\y.2.length=LA.length + LB.length/\Dig y.2/\nv y.2=nv (LA.take y.1) * nv LB/\ ∀ q,y.1 + LB.length<=q->q < LA.length + LB.length->y.2[q]? =some 0) AG3 LA.length (0,List.replicate (LA.length + LB.length) 0) ?_ ⟨rfl,trivial⟩ ?_)
  ·exact ⟨rfl,Nat.zero_le _,E1,AGp,Ao,AT6,λx hx=>by rw [(List.mem_replicate.1 hx).2];decide,by simp [nv,As0],λq hq A3=>by dsimp only;rw [List.getElem?_replicate];simp;omega⟩
  rintro k ⟨i,O⟩ s1 hq ⟨rfl,hi,XQ,hgq,Aa,hOl,hOd,hOv,hOz⟩;dsimp only at hi Aa hOl hOd hOv hOz ⊢;refine AGt<|AXh rfl rfl (λBc=>?_) (λBc=>?_)
  ·refine AGx<|AGv<|AT0 rfl (AG5<|q_t<|AGv<|AGw<|AGv ?_);obtain ⟨x,hx⟩:∃ x,LA[i]? =some x:=⟨_,List.getElem?_eq_getElem AGp⟩;have hbx:=HA.dig x<|List.mem_of_getElem? hx;refine ATd<|AGq<|Abj ATo rfl (HA.ext XQ) rfl hx λB3 Be=>AT2 AVo rfl Be (ATu<|AG1<|AGv<|AGt<|AGq<|Ak7 rfl rfl (λBf=>?_) (λBf=>?_))
   ·refine AGx<|AT0 rfl (ATj<|ATk<|AUh<|q_t<|ATd<|Aci rfl AGp (AGq<|AGx ?_));exact ⟨LA.length - (i + 1),(i + 1,O),by first | omega | (dsimp only;omega),⟨rfl,by first | omega | (dsimp only;omega),XQ,AGp,Aa,hOl,hOd,by dsimp only;rw [hOv,AU7 hx,show x=0 by omega];simp,λq h1 h2=>hOz q (by dsimp only at h1;omega) h2⟩,rfl,trivial⟩
   ·refine AGx<|ATw rfl (AG5<|q_t<|AGt<|AGq<|AGq<|AGq<|AGq<|AUz ATo rfl (HB.ext XQ) (Aht rfl rfl AGp (Aht (b:=1) rfl rfl AGp (A2a (lo:=i) (hi:=i + LB.length + 1) ATo rfl Aa rfl rfl AGp (by rw [List.length_map];omega) λcw=>?_))));refine AT5<|AG1<|AGv<|AGt<|AGq<|AUz ATo rfl (HB.ext XQ) (AGq<|AGx<|AGw<|AW9 151115725200028833156608 (λy:Nat × Nat × List Nat=>[(51,.int .i64 (y.1:Int)),(9,.int .u64 (y.2.1:Int))]) (λk y h'=>k=LB.length - y.1/\y.1<=LB.length/\Ext h h'/\g1 < Array.size h'/\AWi h' 200 g1 v1 (y.2.2.map Age)/\y.2.2.length=LA.length + LB.length/\Dig y.2.2/\y.2.1 < 4294967296/\nv y.2.2 + 4294967296 ^ (i + y.1) * y.2.1=nv (LA.take i) * nv LB + 4294967296 ^ i * (x * nv (LB.take y.1))/\ ∀ q,i + LB.length<=q->q < LA.length + LB.length->y.2.2[q]? =some 0) AG3 LB.length (0,0,O) ?_ ⟨rfl,rfl,trivial⟩ ?_)
    ·exact ⟨rfl,Nat.zero_le _,XQ,AGp,Aa,hOl,hOd,by dsimp only;omega,by simp [nv,hOv],hOz⟩
    rintro k ⟨j,c,O⟩ s2 hp ⟨rfl,hj,XQ,hgq,Aa,hOl,hOd,hc,hOv,hOz⟩;dsimp only at hj Aa hOl hOd hc hOv hOz ⊢;refine AGt<|AXh rfl rfl (λBg=>?_) (λBg=>?_)
    ·refine AGx<|AGv<|AT0 rfl (AG5<|q_t<|AGv<|AGw<|AGv ?_);obtain ⟨y,hy⟩:∃ x,LB[j]? =some x:=⟨_,List.getElem?_eq_getElem AGp⟩;have hby:=HB.dig y<|List.mem_of_getElem? hy;obtain ⟨ov,hov⟩:∃ x,O[i + j]? =some x:=⟨_,List.getElem?_eq_getElem AGp⟩;have hbo:=hOd ov<|List.mem_of_getElem? hov;have htb:=Avu hc hbx hby hbo;have hxy:x * y<=4294967295 * 4294967295:=Nat.mul_le_mul AGp AGp;refine ATd<|AGq<|Abj ATo rfl (HB.ext XQ) rfl hy λB4 Bh=>AT2 AVo rfl Bh (ATu<|AT5<|AGq<|AGq<|Aks AWb AVw rfl hbx (AGq<|Aks AWb AVw rfl hby (Avt rfl rfl AGp (AGq<|AGq<|Au3 ATo rfl rfl AGp (AT2 AVo rfl (AWi.cell Aa<|Akb hov) (Aks AWb AVw rfl hbo (Ag7 rfl rfl AGp (Ag7 rfl rfl AGp ?_))))))));refine AT5<|AGq<|AGq<|AGq<|Amr AVw AWb rfl (Au3 ATo rfl rfl AGp (Amq (O.set (i + j)<|(c + (x * y + ov)) % 4294967296) AVo rfl rfl Aa AGp rfl λh4 Ap U4=>?_));have B5:=U4.1;have Bi:=XQ.thenUpd U4 (λk hk=>by have Aq:k=g1:=hk;omega);refine AGx<|ATd<|AGq<|Al5 rfl rfl (ATu<|ATr<|q_b<|q_t<|ATd<|Aci rfl AGp (AGq<|AGx ?_));exact ⟨LB.length - (j + 1),(j + 1,(c + (x * y + ov)) / 4294967296,O.set (i + j)<|(c + (x * y + ov)) % 4294967296),by first | omega | (dsimp only;omega),⟨rfl,by first | omega | (dsimp only;omega),Bi,AGp,Ap,by simp [hOl],Akc hOd<|Nat.mod_lt _ AGr,by dsimp only;exact Nat.div_lt_of_lt_mul htb,by dsimp only;rw [AU7 hy];exact Asq (Pi:=0) (Anc _ hov) hOv<|Nat.mod_add_div _ _,λq h1 h2=>by dsimp only;rw [List.getElem?_set_ne AGp];exact hOz q h1 h2⟩,rfl,rfl,trivial⟩
    ·refine AGx<|AGv<|ATw rfl (ATj<|ATk<|ATk<|AUh<|q_t ?_);obtain rfl:j=LB.length:=by omega
     refine ATd<|AGq<|AGq<|AUz ATo rfl (HB.ext XQ) (AGq<|Amr AVw AWb rfl ?_);rw [Nat.mod_eq_of_lt hc];refine Au3 ATo rfl rfl AGp (Amq (O.set (i + LB.length)<|c) AVo rfl rfl Aa AGp rfl λh5 Ar U5=>?_);have B6:=U5.1;have Bj:=XQ.thenUpd U5 (λk hk=>by have Aq:k=g1:=hk;omega);refine ATr<|q_b<|q_t<|ATd<|Aci rfl AGp (AGq<|AGx ?_);exact ⟨LA.length - (i + 1),(i + 1,O.set (i + LB.length) c),by first | omega | (dsimp only;omega),⟨rfl,by first | omega | (dsimp only;omega),Bj,AGp,Ar,by simp [hOl],Akc hOd hc,by dsimp only;have h1:=Anc c<|hOz (i + LB.length) (Nat.le_refl _) AGp;rw [Nat.mul_zero,Nat.add_zero] at h1;rw [h1,hOv,List.take_length,AU7 hx,Nat.add_mul,Nat.mul_assoc],λq h1 h2=>by dsimp only;rw [List.getElem?_set_ne AGp];exact hOz q AGp h2⟩,rfl,trivial⟩
  ·refine AGx<|AGv<|ATw rfl (ATj<|ATk<|ATk<|AUh<|q_t<|AGv ?_);obtain rfl:i=LA.length:=by omega
   rw [List.take_length] at hOv;have HDo:=Aa.ds (lo:=Array.size h) hOd AGp;refine ATd<|AGq<|ATl trivial rfl (Ae4 (DS.mono HDo<|Nat.zero_le _) AGp) λB7 hq hk=>?_;obtain ⟨rfl,L2,HT,htl⟩:=hk;refine ⟨trivial,?_⟩;refine AG1 (AG6<|⟨_,AS9,?_⟩)
   first
   | exact ⟨XQ,L1,lacks_HD1,Ak,Am,AGp⟩
   | exact ⟨XQ,L2,HT.ds HDo.lo,htl,by rw [HT.val,hOv],by have:=HT.len;omega⟩
theorem MulZ_ok {b:Int} (HA:ZV h la va a) (HB:ZV h lb vb b) (hab:a.natAbs * b.natAbs < 4294967296 ^ 100):AT3 Tryz.prog 159 #[va,vb] h λx h'=>Ext h h'/\ZV h' (Array.size h) x (a * b):=by
 obtain ⟨na,sa,LA,rfl,HDa,htla,hla,hza⟩:=HA.out;obtain ⟨nb,sb,LB,rfl,HDb,htlb,hlb,hzb⟩:=HB.out;refine AUd (l:=[_,_]) mx Tryz.func159 rfl rfl rfl rfl rfl AG3 (AGt<|Ab7 [.bool na,sa] (λ_=>trivial) rfl rfl λAk h2 V3 E4 Bb Cf=>?_);have Cg:Array.size h<=Ak:=Bb;have Ch:=E4.1;have Z8:=(Ext.refl h).trans E4;refine Ab7 [.bool nb,sb] (λ_=>trivial) rfl rfl λAm Ci Av Ag Be Cj=>?_;have Ck:Array.size h<=Am:=Nat.le_trans E4.1 Be;have nebq1bq9:Ak≠Am:=by have:=V3.lt;omega
 have Cm:=Ag.1;have Aw:=E4.trans Ag;have Ax:=V3.ext Ag;refine AY2 [.bool false,.slice none 0 0] AXw rfl (λ_=>trivial) λAc Ai Bf Ad Bg Cn=>?_;have Co:Array.size h<=Ac:=Nat.le_trans Aw.1 Bg;have nebq1bq20:Ak≠Ac:=by have:=Ax.lt;omega
 have nebq9bq20:Am≠Ac:=by have:=Av.lt;omega
 have Cp:=Ad.1;have Bh:=(Z8.trans Ag).trans Ad;have Ao:=Aw.trans Ad;have Ay:=Ax.ext Ad;have Bi:=(E4.trans Ag).trans Ad;have Az:=Av.ext Ad;have Bj:=Ag.trans Ad;refine AGx<|AGv<|AVl (λh'=>Ext Ai h') AG3 ?_;have Aa:=Ext.refl Ai;refine AYd (fs:=1) Ad4 AG3 AGr rfl (AVf AW1 rfl Aa (λh' hb=>(Ay.ext hb).cell (i:=0) rfl) (AYd (fs:=1) Ad4 AG3 AGr rfl (AVf AW1 rfl Aa (λh' hb=>(Az.ext hb).cell (i:=0) rfl) (Aso An2 rfl rfl (AYd (fs:=1) Ael AG3 AGr rfl (AVf AZ9 rfl Aa (λh' hb=>(Ay.ext hb).cell (i:=1) rfl) (ATl Aa rfl (Ae4 (DS.mono (HDa.ext Ao)<|Nat.zero_le _) AGp) λCq Ai hk=>?_)))))));obtain ⟨rfl,L1,Ap,Ct⟩:=hk;refine ⟨Aa,?_⟩;have Bl:=Ap.ds (lo:=la) HDa.lo;have A3:=Ap.val;have Cu:=Ap.len;refine AYd (fs:=1) Ael AG3 AGr rfl (AVf AZ9 rfl Aa (λh' hb=>(Az.ext hb).cell (i:=1) rfl) (ATl Aa rfl (Ae4 (DS.mono (HDb.ext Ao)<|Nat.zero_le _) AGp) λCv Ai hk=>?_));obtain ⟨rfl,L2,Aq,Cx⟩:=hk;refine ⟨Aa,?_⟩;have Bm:=Aq.ds (lo:=lb) HDb.lo;have A4:=Aq.val;have Cy:=Aq.len;refine ATl Aa rfl (A39 Bl Bm AGp AGp) λCz C0 hk=>?_;obtain ⟨Ae,L4,A5,A6,A7,C2⟩:=hk;have Ar:=Aa.trans Ae;refine ⟨Ar,?_⟩;have C3:=Ae.1;have Bn:=Bh.trans Ae;have Bo:=Ao.trans Ae;have Bp:=Bi.trans Ae;have Bq:=Bj.trans Ae;have Br:=Bf.ext Ae;have Bt:=Ad.trans Ae;refine ATl Ar rfl (Acm (!(na == nb)) A5 A6<|Aer A6 (by rw [A7,A3,A4,<- AXy hza,<- AXy hzb];exact hab)) λC4 C5 hk=>?_;obtain ⟨Ab,Bu⟩:=hk;have Bv:=Ar.trans Ab;refine ⟨Bv,?_⟩;have C6:=Ab.1;have Bw:=Bn.trans Ab;have Bx:=Bo.trans Ab;have By:=Bp.trans Ab;have Bz:=Bq.trans Ab;have B3:=Br.ext Ab;have B4:=Bt.trans Ab;have B5:=A5.ext Ab;obtain ⟨A8,s3,L3,rfl,Ba,B7,B8,B9⟩:=Bu.out;refine AVe [.bool A8,s3] AUi rfl rfl rfl rfl (Ab3 Ba.cap) B3 λC7 Ca Af=>?_;have Cb:=Bx.thenUpd Af (λk hk=>by have Aj:k=Ac:=hk;omega);have C8:=Af.1;have C9:=Bw.thenUpd Af (λk hk=>by have Aj:k=Ac:=hk;omega);have Da:=B4.thenUpd Af (λk hk=>by have Aj:k=Ac:=hk;omega);have Db:=By.thenUpd Af (λk hk=>by have Aj:k=Ac:=hk;omega);have Dc:=Bz.thenUpd Af (λk hk=>by have Aj:k=Ac:=hk;omega);have Dd:=B5.updLo Af AGp;have Cd:=Ba.updLo Af AGp;refine AGx<|AG6<|⟨_,AVn AUi rfl rfl Ca,?_⟩;exact ⟨Cb,⟨A8,s3,L3,rfl,Cd.mono AGp,B7,B8,by rw [<- B9,A7,A3,A4,hza,hzb,Avz]⟩⟩
end Go.Proofs.YtkakafabeobahaaGreatDoor.Ig
namespace Go.Proofs.YtkakafabeobahaaGreatDoor
open Go Go.QF
def BCh (fuel:Nat) (a b:Int):Option Int:=if a.natAbs < AXu/\b.natAbs < AXu then some (a - b) else none
def A2b (fuel:Nat) (a b:Int):Option Int:=if a.natAbs * b.natAbs < AXu then some (a * b) else none
def Anl (fuel:Nat) (a b:Int):Option (Int × Int × Bool):=if a.natAbs < 18446744073709551616/\b.natAbs < 18446744073709551616/\b≠0 then some (a / b,a % b,true) else none
def BCi (fuel:Nat) (a:Int):Option Int:=some<|-a
def Anm (fuel:Nat) (a:Int):Option Int:=some a
def Ar2 (fuel:Nat) (a:Int):Option Int:=if -9223372036854775808<=a/\a<=9223372036854775807 then some a else none
def Ate (fuel:Nat) (a:Int):Option Int:=some<|AYm a
theorem BDv {u:Value} {b r:Int} (H1:ZZ h u a) (H2:ZZ h v b) (hp:BCh fuel a b=some r):AT3 Tryz.prog 189 #[u,v] h (λx h'=>Ext h h'/\ ∃ (x0:Value),x=x0/\ZZ h' x0 r):=by
 obtain ⟨⟨h1,h2⟩,hp⟩:=ifN hp;cases hp;exact (Ig.Sub_ok H1 H2 h1 h2).mono λx h' hk=>⟨hk.1,x,rfl,hk.2.zz⟩
theorem A0q {u:Value} {b r:Int} (H1:ZZ h u a) (H2:ZZ h v b) (hp:A2b fuel a b=some r):AT3 Tryz.prog 159 #[u,v] h (λx h'=>Ext h h'/\ ∃ (x0:Value),x=x0/\ZZ h' x0 r):=by
 obtain ⟨h1,hp⟩:=ifN hp;cases hp;exact (Ig.MulZ_ok H1 H2<|A6f h1).mono λx h' hk=>⟨hk.1,x,rfl,hk.2.zz⟩
theorem BDw {u:Value} {r:Int} (H1:ZZ h u a) (hp:BCi fuel a=some r):AT3 Tryz.prog 190 #[u] h (λx h'=>Ext h h'/\ ∃ (x0:Value),x=x0/\ZZ h' x0 r):=by
 cases hp;exact (Ig.Neg_ok H1).mono λx h' hk=>⟨hk.1,x,rfl,hk.2.zz⟩
theorem Apz {u:Value} {r:Int} (H1:ZZ h u a) (hp:Anm fuel a=some r):AT3 Tryz.prog 156 #[u] h (λx h'=>Ext h h'/\ ∃ (x0:Value),x=x0/\ZZ h' x0 r):=by
 cases hp;exact (Ig.Normalize_ok H1).mono λx h' hk=>⟨hk.1,x,rfl,hk.2.zz⟩
theorem Atf {r:Int} (hp:Ar2 fuel a=some r):AT3 Tryz.prog 152 #[.int .i64 a] h (λx h'=>Ext h h'/\ ∃ (x0:Value),x=x0/\ZZ h' x0 r):=by
 obtain ⟨h1,hp⟩:=ifN hp;cases hp;exact (Ig.Small_ok h1 h).mono λx h' hk=>⟨hk.1,x,rfl,hk.2.zz⟩
theorem Ar3 {u:Value} {r:Int} (H1:ZZ h u a) (hp:Ate fuel a=some r):AT3 Tryz.prog 155 #[u] h (λx h'=>Ext h h'/\x= .int .i64 r):=by
 cases hp;exact Ig.Sign_ok H1
theorem Aqy {u:Value} {b:Int} {r:Int × Int × Bool} (H1:ZZ h u a) (H2:ZZ h v b) (hp:Anl fuel a b=some r):AT3 Tryz.prog 158 #[u,v] h (λx h'=>Ext h h'/\ ∃ (x0:Value) (x1:Value),x= .tuple #[x0,x1,.bool r.2.2]/\ZZ h' x0 r.1/\ZZ h' x1 r.2.1):=by
 obtain ⟨⟨h1,h2,h3⟩,hp⟩:=ifN hp;cases hp;exact (Ig.DivMod2_ok H1 H2 h1 h2 h3).mono λx h' ⟨E,q,r,hx,hq,hr⟩=>⟨E,q,r,hx,hq.zz,hr.zz⟩
end Go.Proofs.YtkakafabeobahaaGreatDoor
namespace Go.Proofs.YtkakafabeobahaaGreatDoor
open Go Go.QF
set_option maxRecDepth 100000
set_option maxHeartbeats 4000000
def Adq (fuel:Nat) (a3:LiI) (Ac:LiA) (Aa:Int):Option (Int ⊕ ((Int × Int × Bool) ⊕ Unit)):=
 if Aa < (a3.length:Int) then (gI a3 Aa).bind λAd=>if ¬ (Ad.length:Int)=(Ac.length:Int) then some (.inr<|.inl (0,0,false)) else some (.inl<|w64<|Aa + 1) else some<|.inr<|.inr ()
def AZw (fuel:Nat) (a3:LiI):Option (Int × Int × Bool):=
 ((if (a3.length:Int) < 1 then some (.inl (0,0,false)) else if 16 < (a3.length:Int) then some (.inl (0,0,false)) else some<|.inr ()):Option ((Int × Int × Bool) ⊕ Unit)).bind (λex=>match ex with | .inl Ac=>(some Ac) | .inr _=>(gI a3 0).bind λAb=>((if (Ab.length:Int) < 1 then some (.inl (0,0,false)) else if 16 < (Ab.length:Int) then some (.inl (0,0,false)) else some<|.inr ()):Option ((Int × Int × Bool) ⊕ Unit)).bind (λex=>match ex with | .inl Ad=>(some Ad) | .inr _=>(iter (λs=>Adq fuel a3 Ab s) fuel 0).bind (λex=>match ex with | .inl Ae=>(some Ae) | .inr _=>some ((a3.length:Int),(Ab.length:Int),true))))
theorem Alg {Aq:Value} {a3:LiI} {r:(Int × Int × Bool)} (H2:AX6 (cI .i64) h Aq a3) (hp:AZw fuel a3=some r):AT3 Tryz.prog 149 #[Aq] h (λx h'=>Ext h h'/\x= .tuple #[.int .i64 r.1,.int .i64 r.2.1,.bool r.2.2]):=by
 unfold AZw at hp;refine cwf (l:=[_]) Tryz.func149 rfl rfl (AGt<|ATu<|ATu<|AG1 ?_);have K0:=Kst.k0 h;obtain ⟨A3,Ar,Ah⟩:=AGu hp;refine Aft 65308 (λx:Unit=>[]) (λx h'=>(Sum.inr <| ())=A3/\Kst h h' (K0.L)) ?_ ?_
 ·refine AGt<|AGq<|AUc ATg rfl H2 (ATy rfl rfl (AGq ?_));by_cases Ad:(a3.length:Int) < 1
  ·rw [decide_eq_true Ad];refine AYn 11 true<|ATp rfl (AGx<|AT0 rfl (AGt<|ATu<|ATu<|AG1 ?_));obtain rfl:=AGs<|ifT Ar Ad;refine AG6<|ATm ?_;obtain rfl:=AGs Ah;exact ⟨_,Ab5,K0.x,rfl⟩
  ·have Au:=ifF Ar Ad;rw [decide_eq_false Ad];refine ATx 11 false<|AGq<|ATx 11 false<|AUc ATg rfl H2 (ATx 11 false<|AZb rfl rfl (ATs rfl (AGx<|⟨_,rfl,λAi=>?_,λAi=>?_⟩)))
   ·refine AGt<|ATu<|ATu<|AG1 ?_;obtain rfl:=AGs<|AT9 Au Ai;refine AG6<|ATm ?_;obtain rfl:=AGs Ah;exact ⟨_,Ab5,K0.x,rfl⟩
   ·refine AG5<|q_t ?_;exact ⟨(():Unit),⟨AGs<|AUa Au Ai,K0⟩,trivial⟩
 rintro ⟨⟩ Be Bf ⟨A4,Ab⟩;subst A4;refine AGt<|AGq ?_;obtain ⟨A5,A6,A7⟩:=AGu Ah;refine Ad5 ATg ATq H2 Ab.x A6 λ_ Bg A8=>AUv ATe rfl A8 (AG1 ?_);obtain ⟨A9,Av,Aj⟩:=AGu A7;refine Aft 66060316 (λx:Unit=>[]) (λx h'=>(Sum.inr <| ())=A9/\Kst h h' (Ab.L)) ?_ ?_
 ·refine AGt<|AGq<|ATy rfl rfl (AGq ?_);by_cases Ae:(A5.length:Int) < 1
  ·rw [decide_eq_true Ae];refine Aey 22 true<|ATp rfl (AGx<|AT0 rfl (AGt<|ATu<|ATu<|AG1 ?_));obtain rfl:=AGs<|ifT Av Ae;refine AG6<|ATm ?_;obtain rfl:=AGs Aj;exact ⟨_,Ab5,Ab.x,rfl⟩
  ·have Aw:=ifF Av Ae;rw [decide_eq_false Ae];refine ATx 22 false<|AGq<|ATx 22 false<|AZb rfl rfl (ATs rfl (AGx<|⟨_,rfl,λAk=>?_,λAk=>?_⟩))
   ·refine AGt<|ATu<|ATu<|AG1 ?_;obtain rfl:=AGs<|AT9 Aw Ak;refine AG6<|ATm ?_;obtain rfl:=AGs Aj;exact ⟨_,Ab5,Ab.x,rfl⟩
   ·refine AG5<|q_t ?_;exact ⟨(():Unit),⟨AGs<|AUa Aw Ak,Ab⟩,trivial⟩
 rintro ⟨⟩ Bh Bi ⟨Ba,Ax⟩;subst Ba;refine AGv<|AGt<|AGq<|AUc ATg rfl H2 (AGq<|AGx<|AGw<|AZm 137170518172 Aj (λx=>[(28,(.int .i64 x))]) (λx=>Ax.L) Ax ⟨rfl,trivial⟩ ?_);rintro Bj Bl Bm Bn Af Am Ay;unfold Adq at Am;refine AGt<|ATy rfl rfl (AGx<|AGv<|⟨_,rfl,λAo=>?_,λAo=>?_⟩)
 ·refine AG5<|q_t<|AGv<|AGw<|AGt ?_;obtain ⟨Bo,Bb,Az⟩:=AGu<|AT9 Am Ao;refine Ad5 ATg ATq H2 Af.x Bb λ_ Bp Bc=>AT5<|AGq<|AUv ATe rfl Bc (AGq<|AWk rfl rfl (AGx<|⟨_,rfl,λAp=>?_,λAp=>?_⟩))
  ·refine AGt<|ATu<|ATu<|AG1<|AG6<|AUq<|ATm<|ATm<|AUq<|ATm ?_;obtain rfl:=AGs<|Ay _ (AGs<|AT9 Az Ap).symm;exact ⟨_,Ab5,Af.x,rfl⟩
  ·refine AG5<|q_b<|q_t<|ATd<|ATn rfl rfl (AGq<|AGx ?_);exact ⟨_,(AGs<|AUa Az Ap).symm,Af,rfl,trivial⟩
 ·refine ATj<|ATk<|ATk<|AUh<|q_t<|AGt<|AGq<|AUc ATg rfl H2 (AGq<|ATu<|ATu<|AG1<|AG6 ?_);obtain rfl:=AGs<|Ay _ (AGs<|AUa Am Ao).symm;exact ⟨_,Ab5,Af.x,rfl⟩
def Acg (fuel:Nat) (a3:LiI) (Ac:LiA) (Aa:Int):Option (Int ⊕ ((Int × Int × Bool) ⊕ Unit)):=
 if Aa < (a3.length:Int) then (gI a3 Aa).bind λAd=>if ¬ (Ad.length:Int)=(Ac.length:Int) then some (.inr<|.inl (0,0,false)) else some (.inl<|w64<|Aa + 1) else some<|.inr<|.inr ()
def AYw (fuel:Nat) (a3:LiI):Option (Int × Int × Bool):=
 ((if (a3.length:Int) < 1 then some (.inl (0,0,false)) else if 16 < (a3.length:Int) then some (.inl (0,0,false)) else some<|.inr ()):Option ((Int × Int × Bool) ⊕ Unit)).bind (λex=>match ex with | .inl Ac=>(some Ac) | .inr _=>(gI a3 0).bind λAb=>((if (Ab.length:Int) < 1 then some (.inl (0,0,false)) else if 16 < (Ab.length:Int) then some (.inl (0,0,false)) else some<|.inr ()):Option ((Int × Int × Bool) ⊕ Unit)).bind (λex=>match ex with | .inl Ad=>(some Ad) | .inr _=>(iter (λs=>Acg fuel a3 Ab s) fuel 0).bind (λex=>match ex with | .inl Ae=>(some Ae) | .inr _=>some ((a3.length:Int),(Ab.length:Int),true))))
theorem Aj8 {Aq:Value} {a3:LiI} {r:(Int × Int × Bool)} (H2:AX6 cZ h Aq a3) (hp:AYw fuel a3=some r):AT3 Tryz.prog 153 #[Aq] h (λx h'=>Ext h h'/\x= .tuple #[.int .i64 r.1,.int .i64 r.2.1,.bool r.2.2]):=by
 unfold AYw at hp;refine cwf (l:=[_]) Tryz.func153 rfl rfl (AGt<|ATu<|ATu<|AG1 ?_);have K0:=Kst.k0 h;obtain ⟨A3,Ar,Ah⟩:=AGu hp;refine Aft 65308 (λx:Unit=>[]) (λx h'=>(Sum.inr <| ())=A3/\Kst h h' (K0.L)) ?_ ?_
 ·refine AGt<|AGq<|AUc AU4 rfl H2 (ATy rfl rfl (AGq ?_));by_cases Ad:(a3.length:Int) < 1
  ·rw [decide_eq_true Ad];refine AYn 11 true<|ATp rfl (AGx<|AT0 rfl (AGt<|ATu<|ATu<|AG1 ?_));obtain rfl:=AGs<|ifT Ar Ad;refine AG6<|ATm ?_;obtain rfl:=AGs Ah;exact ⟨_,Ab5,K0.x,rfl⟩
  ·have Au:=ifF Ar Ad;rw [decide_eq_false Ad];refine ATx 11 false<|AGq<|ATx 11 false<|AUc AU4 rfl H2 (ATx 11 false<|AZb rfl rfl (ATs rfl (AGx<|⟨_,rfl,λAi=>?_,λAi=>?_⟩)))
   ·refine AGt<|ATu<|ATu<|AG1 ?_;obtain rfl:=AGs<|AT9 Au Ai;refine AG6<|ATm ?_;obtain rfl:=AGs Ah;exact ⟨_,Ab5,K0.x,rfl⟩
   ·refine AG5<|q_t ?_;exact ⟨(():Unit),⟨AGs<|AUa Au Ai,K0⟩,trivial⟩
 rintro ⟨⟩ Be Bf ⟨A4,Ab⟩;subst A4;refine AGt<|AGq ?_;obtain ⟨A5,A6,A7⟩:=AGu Ah;refine Ad5 AU4 AWx H2 Ab.x A6 λ_ Bg A8=>AUv AV6 rfl A8 (AG1 ?_);obtain ⟨A9,Av,Aj⟩:=AGu A7;refine Aft 66060316 (λx:Unit=>[]) (λx h'=>(Sum.inr <| ())=A9/\Kst h h' (Ab.L)) ?_ ?_
 ·refine AGt<|AGq<|ATy rfl rfl (AGq ?_);by_cases Ae:(A5.length:Int) < 1
  ·rw [decide_eq_true Ae];refine Aey 22 true<|ATp rfl (AGx<|AT0 rfl (AGt<|ATu<|ATu<|AG1 ?_));obtain rfl:=AGs<|ifT Av Ae;refine AG6<|ATm ?_;obtain rfl:=AGs Aj;exact ⟨_,Ab5,Ab.x,rfl⟩
  ·have Aw:=ifF Av Ae;rw [decide_eq_false Ae];refine ATx 22 false<|AGq<|ATx 22 false<|AZb rfl rfl (ATs rfl (AGx<|⟨_,rfl,λAk=>?_,λAk=>?_⟩))
   ·refine AGt<|ATu<|ATu<|AG1 ?_;obtain rfl:=AGs<|AT9 Aw Ak;refine AG6<|ATm ?_;obtain rfl:=AGs Aj;exact ⟨_,Ab5,Ab.x,rfl⟩
   ·refine AG5<|q_t ?_;exact ⟨(():Unit),⟨AGs<|AUa Aw Ak,Ab⟩,trivial⟩
 rintro ⟨⟩ Bh Bi ⟨Ba,Ax⟩;subst Ba;refine AGv<|AGt<|AGq<|AUc AU4 rfl H2 (AGq<|AGx<|AGw<|AZm 137170518172 Aj (λx=>[(28,(.int .i64 x))]) (λx=>Ax.L) Ax ⟨rfl,trivial⟩ ?_);rintro Bj Bl Bm Bn Af Am Ay;unfold Acg at Am;refine AGt<|ATy rfl rfl (AGx<|AGv<|⟨_,rfl,λAo=>?_,λAo=>?_⟩)
 ·refine AG5<|q_t<|AGv<|AGw<|AGt ?_;obtain ⟨Bo,Bb,Az⟩:=AGu<|AT9 Am Ao;refine Ad5 AU4 AWx H2 Af.x Bb λ_ Bp Bc=>AT5<|AGq<|AUv AV6 rfl Bc (AGq<|AWk rfl rfl (AGx<|⟨_,rfl,λAp=>?_,λAp=>?_⟩))
  ·refine AGt<|ATu<|ATu<|AG1<|AG6<|AUq<|ATm<|ATm<|AUq<|ATm ?_;obtain rfl:=AGs<|Ay _ (AGs<|AT9 Az Ap).symm;exact ⟨_,Ab5,Af.x,rfl⟩
  ·refine AG5<|q_b<|q_t<|ATd<|ATn rfl rfl (AGq<|AGx ?_);exact ⟨_,(AGs<|AUa Az Ap).symm,Af,rfl,trivial⟩
 ·refine ATj<|ATk<|ATk<|AUh<|q_t<|AGt<|AGq<|AUc AU4 rfl H2 (AGq<|ATu<|ATu<|AG1<|AG6 ?_);obtain rfl:=AGs<|Ay _ (AGs<|AUa Am Ao).symm;exact ⟨_,Ab5,Af.x,rfl⟩
def Afh (fuel:Nat) (a3:LiI) (Ab:Int) (Af:LiA) (Aa:Int) (Ac:LiI):Option ((Int × LiI) ⊕ LiI):=
 if Aa < (Af.length:Int) then (gI Ac Ab).bind λAd=>(((gI a3 Ab).bind λAg=>(gI Ag Aa).bind λAh=>(Ar2 fuel Ah).bind λAi=>some Ai):Option Int).bind λAj=>(gI Ad Aa).bind λAk=>some (.inl (w64<|Aa + 1,sI Ac Ab<|sI Ad Aa Aj)) else some<|.inr Ac
def Afi (fuel:Nat) (a3:LiI) (Ae Ab Aa:Int) (Ac:LiI):Option ((Int × LiI) ⊕ LiI):=
 if Aa < ((List.replicate (Int.toNat Ae) ([]:List Int)).length:Int) then if 0<=Ab/\Ab<=100000000 then (gI Ac Aa).bind λAh=>(gI (sI Ac Aa<|List.replicate (Int.toNat Ab) (0:Int)) Aa).bind λAf=>(iter (λs=>Afh fuel a3 Aa Af s.1 s.2) fuel (0,sI Ac Aa<|List.replicate (Int.toNat Ab) (0:Int))).bind (λ(Ag:LiI)=>some<|.inl (w64<|Aa + 1,Ag)) else none else some<|.inr Ac
def Acn (fuel:Nat) (a3:LiI):Option (LiI × Bool):=
 (AZw fuel a3).bind λ(Aa,Ac,Ad)=>if (!Ad)=true then some ([],false) else ((if 0<=Aa/\Aa<=100000000 then (iter (λs=>Afi fuel a3 Aa Ac s.1 s.2) fuel (0,List.replicate (Int.toNat Aa) ([]:List Int))).bind (λ(Ae:LiI)=>some Ae) else none):Option LiI).bind λAf=>some (Af,true)
theorem Ann {Ah:Value} {a3:LiI} {r:(LiI × Bool)} (H2:AX6 (cI .i64) h Ah a3) (hp:Acn fuel a3=some r):AT3 Tryz.prog 94 #[Ah] h (λx h'=>Ext h h'/\ ∃ (x0:Value) (F0:List Nat) (Bu:List LnA) (Bv:List Value),x= .tuple #[x0,.bool r.2]/\AV4 cZ 146 129 h' F0 Bu Bv x0 r.1/\Sp h' h.size [F0]):=by
 unfold Acn at hp;refine cwf (l:=[_]) Tryz.func94 rfl rfl (AGt ?_);have K0:=Kst.k0 h;refine Asu [Ah] trivial tt2 rfl (Ax5 ((H2.ext K0.x)).isOne) λb5 h6 V7 E8 S9=>ATu<|AT5 ?_;have Aj:=K0.nb E8 S9 V7;refine AT2 AVh rfl ((Aj.b p0).cell (i:=0) rfl) ?_;obtain ⟨⟨B3,B4,D3⟩,B5,Ak⟩:=AGu hp;dsimp only at Ak;refine AYe Aj (Alg (H2.ext Aj.x) B5) λD4 D5 Am=>AGq<|AUf rfl rfl (AUf rfl rfl (AUf rfl rfl (ATu<|ATu<|AG1<|AGv<|AGt<|AGq<|AXb rfl (AGx<|⟨_,rfl,λAo=>?_,λAo=>?_⟩))))
 ·refine AGt<|ATu<|AG1<|AG6<|ATm ?_;have Ap:=Kst.anil2 cZ 146 129 Am;obtain rfl:=AGs<|ifT Ak Ao;exact ⟨_,AU0,Ap.x,_,_,_,_,rfl,(Ap.o2 p0),Ap.s.sel [0] AGr⟩
 ·refine AG5<|q_t<|AGt<|AGq<|AGq<|A5a rfl ?_;obtain ⟨B6,B7,B8⟩:=AGu<|Abk Ak Ao;refine ATl (K':=(λxr h'=> ∃ x:(LiI) × (Value) × LnA × LnN × LvA,x.1=B6/\xr=x.2.1/\Kst h h' (aO2 cZ 146 129 x.2.2.1 x.2.2.2.1 x.2.2.2.2 x.2.1 x.1 :: Am.L))) trivial rfl ?_ λB9 D6 Ca=>?_
  ·refine cwf (l:=[_,_,_]) Tryz.func150 rfl rfl (AGt<|AT5<|AGq ?_);obtain ⟨Cb,Cd⟩:=ifN B7;refine Ajn cZ 129 AU4 Ax6 rfl trivial tt2 rfl rfl AGr Cb λCe Cf Cg Aq D7 Ch Ci Cj=>AG1<|AGv<|AGt<|AGq ?_;have Ar:=Am.no2 Ci Cj Ch;refine AUc AU4 rfl (Ar.o2 p0).rd (AGq<|AGx<|AGw<|AYl 4398046495488 (λx:(Int) × (LiI) × LnA × LnN × LvA=>(x.1,x.2.1)) ((0,(List.replicate (Int.toNat B3) ([]:List Int)),Ce,Cf,Cg):(Int) × (LiI) × LnA × LnN × LvA) Cd (λx=>[(14,(.int .i64 x.1))]) (λx=>Ar.L.set 0<|aO2 cZ 146 129 x.2.2.1 x.2.2.2.1 x.2.2.2.2 Aq x.2.1) Ar ⟨rfl,trivial⟩ ?_);rintro ⟨Aa,Bg,Ck,Au,Bh⟩ D8 D9 Ea Bi Av Cm;unfold Afi at Av;refine AGt<|ATy rfl rfl (AGx<|AGv<|⟨_,rfl,λAw=>?_,λAw=>?_⟩)
   ·refine AG5<|q_t<|AGv<|AGw<|AGt<|AGq<|AT5<|AGq<|AGq<|AGq ?_;obtain ⟨Cn,Co⟩:=ifN<|AT9 Av Aw;refine Az6 AV6 AXw rfl trivial tt2 rfl rfl AGr Cn λBj Cp Eb Cq Cr Ct Cu=>?_;have Ac:=Bi.no Cr (AX2 Ct Cu) Cq;obtain ⟨Ec,Bl,Cv⟩:=AGu Co;refine AUx AU4 rfl (Ac.o2 p1) rfl Bl λCw Ed Cx Ee Ef=>Ajm AWx (Ac.o2 p1) Bl Cx rfl rfl (Ac.o p0) (Ac.dj p0 p1 AGr) λEg Cy Cz C0=>AZr<|AGq<|AGq ?_;have Ax:=Ac.m2 p0 p1 AGr Cz Cy λz hz=> .inl<|C0 z hz;obtain ⟨Eh,Bm,C1⟩:=AGu Cv;refine AUr AU4 AWx (Ax.o2 p1) Bm λ_ Ei C2=>AUv AV6 rfl ((Ax.o2 p1).rowI C2 Bm) (AGq<|AGx<|AGw ?_);have Ay:=Ax.sel [1,2] AGr;dsimp only [AY3,Acj] at Ay;refine AYl 2198889038336 (λx:(Int) × (LiI) × LnA × LnN × LvA=>(x.1,x.2.1)) ((0,(sI Bg Aa<|List.replicate (Int.toNat B4) (0:Int)),(Cw :: (Au.set (Int.toNat Aa) [Bj]).flatten),(Au.set (Int.toNat Aa) [Bj]),(Bh.set (Int.toNat Aa) Cp)):(Int) × (LiI) × LnA × LnN × LvA) C1 (λx=>[(27,(.int .i64 x.1))]) (λx=>Ay.L.set 0<|aO2 cZ 146 129 x.2.2.1 x.2.2.2.1 x.2.2.2.2 Aq x.2.1) Ay ⟨rfl,trivial⟩ ?_;rintro ⟨C3,Ej,Ek,El,Em⟩ En Ab Eo Ad Az C4;unfold Afh at Az;refine AGt<|ATy rfl rfl (AGx<|AGv<|⟨_,rfl,λA3=>?_,λA3=>?_⟩)
    ·refine AG5<|q_t<|AGv<|AGw<|AGt<|AGq<|AG1<|AVl (λh'=>UpT [] Ab h') AG3 ?_;have A4:UpT [] Ab Ab:=UpT.start all_nil;refine AGq<|AGq ?_;obtain ⟨Ep,A5,C5⟩:=AGu<|AT9 Az A3;refine AUx AU4 rfl (Ad.o2 p0) rfl A5 λEr Es Et C6 C7=>AVf AWx rfl A4 (λh' hb=>ATv C7 hb.ext) (AGq<|AGq<|AGq<|AGq ?_);obtain ⟨C8,C9,Da⟩:=AGu C5;have Db:UpT [] Ab Ab:=UpT.start all_nil;refine Art (l:=[(.int .i64 Aa),(.int .i64 C3)]) (cl:=[(.pointer<|some ⟨b5,0,none⟩)]) (K':=(λxr h'=> ∃ x:(Int) × LvA,x.1=C8/\xr=(.agg (x.2).toArray)/\Kst h h' (aZ x.2 x.1 :: Ad.L)/\UpT [] Ab h')) A4 rfl rfl ?_ λEu Ev Dc=>?_
     ·refine cwf (l:=[_,_,_]) Tryz.func151 rfl rfl (AGt<|Asv [.bool false,.slice none 0 0] AXw rfl trivial tt2 λEw Ey Dd A6 Bn=>AZr ?_);have Ez:=A6.1;have Ag:=Ad.nb A6 Bn Dd;refine AT2 AVh rfl ((Ag.b p2).cell (i:=0) rfl) (AGq ?_);have De:=Bn.loAll 0 rfl;obtain ⟨Fa,Df,Dg⟩:=AGu C9;refine Ane ATg rfl H2 rfl Df λFb Fc Fd Dh Di=>AT2 ATq rfl (ATv Dh Ag.x) (AGq ?_);obtain ⟨Fe,Dj,Dk⟩:=AGu Dg;refine Ab4 (c:=(cI .i64)) ATe rfl Di rfl Dj λFf Fg Fh Dl Do=>?_;obtain rfl:=Dl;refine AT2 ATh rfl (ATv (Do 0 _ rfl) Ag.x) ?_;obtain ⟨Dp,Dq,Dr⟩:=AGu Dk;refine Aes rfl (Atf Dq) λFi Ds A7 Dt=>?_;obtain ⟨Fj,rfl,Du⟩:=Dt;have Fk:=A7.1;obtain ⟨Bo,rfl,Dv⟩:=Du.cs;have Ae:=(Ag.e A7).az Dv;refine AVe Bo AUi (cZ.klen<|Ae.z p0) (cZ.klen<|ATi Ds) rfl rfl (cZ.one<|Ae.z p0) (Ae.b p1) λFl Bp A8=>AGx<|AG6 ?_;have Fm:=A8.1;have A9:=Ae.sb p1 A8 Bp rfl;refine ⟨_,AVn AUi (cZ.klen<|A9.z p0) rfl (A9.b p1),((Dp,Bo):(Int) × LvA),?_,rfl,?_,?_⟩
      ·exact AGs Dr
      ·exact A9.sel [0,2,3] AGr
      ·exact (((Db.thenE A6).thenE A7).then (Bp.stA A8 (AYp (Ae.b p1) rfl) rfl) (BDa De AGp))
     obtain ⟨⟨Fo,Fp⟩,Dw,rfl,Af,Bq⟩:=Dc;have Fq:=Bq.size;refine ⟨(A4.then Bq all_nil),?_⟩;subst Dw;obtain ⟨Ft,Br,Dx⟩:=AGu Da;refine AU8 (m:=Aa) AV6 rfl (Ad.o2 p0) C6 A5 rfl Br λFu Dy=>AYq (m:=Aa) (Akd AUi (cZ.klen<|Af.z p0) rfl rfl (cZ.one<|Af.z p0)) (Af.o2 p1) Dy A5 Br (Af.z p0) λFv Dz Bt=>ATr<|q_b<|q_t<|ATd<|ATn rfl rfl (AGq<|AGx ?_);have Fw:=Bt.size;exact ⟨(_,_,_,_,_),(AGs Dx).symm,(Af.uO2 p1 Bt Dz).sel [1,2] AGr,rfl,trivial⟩
    ·refine ATj<|ATk<|ATk<|AUh<|q_b<|q_t<|ATd<|ATn rfl rfl (AGq<|AGx ?_);exact ⟨(_,_,_,_,_),(AGs<|C4 _ (AGs<|AUa Az A3).symm).symm,Ad,rfl,trivial⟩
   ·refine ATj<|ATk<|ATk<|AUh<|q_t<|AGt<|AGq<|AG1<|AG6<|⟨_,AS9,((Bg,Aq,Ck,Au,Bh):(LiI) × (Value) × LnA × LnN × LvA),?_,rfl,?_⟩
    ·exact AGs<|Cm _ (AGs<|AUa Av Aw).symm
    ·exact Bi
  obtain ⟨⟨Fx,B9,Fy,Fz,F4⟩,D0,rfl,Ba⟩:=Ca;refine ⟨trivial,?_⟩;subst D0;refine ATu<|AG1<|AG6 ?_;obtain rfl:=AGs B8;exact ⟨_,AU0,Ba.x,_,_,_,_,rfl,(Ba.o2 p0),Ba.s.sel [0] AGr⟩
def Adr (fuel:Nat) (a3:LiI) (Ac:Int) (Ad:LiI) (Aa:Int):Option (Int ⊕ Int):=
 ((if Aa < (a3.length:Int) then (gI Ad Aa).bind λAe=>(gI Ae Ac).bind λAf=>(Ate fuel Af).bind λAg=>if Ag=0 then some (.inl ()) else some (.inr ()) else some<|.inr ()):Option (Unit ⊕ Unit)).bind (λex=>match ex with | .inl _=>(some<|.inl<|w64<|Aa + 1) | .inr _=>some<|.inr Aa)
def Ads (fuel:Nat) (a3:LiI) (Ad Ag Ah Ae Aa:Int) (Ab:LiI):Option ((Int × LiI) ⊕ LiI):=
 if Aa < (a3.length:Int) then (gI Ab Ae).bind λAc=>(gI Ac Aa).bind λAi=>(A2b fuel Ah Ai).bind λAj=>(gI Ac Ad).bind λAk=>(gI Ab Ad).bind λAm=>(gI Am Aa).bind λAo=>(A2b fuel Ak Ao).bind λAp=>(BCh fuel Aj Ap).bind λAq=>(Anl fuel Aq Ag).bind λ(Ar,Au,Av)=>some (.inl (w64<|Aa + 1,sI Ab Ae<|sI Ac Aa Ar)) else some<|.inr Ab
def Adt (fuel:Nat) (a3:LiI) (Ac Ae Af Aa:Int) (Ad:LiI):Option ((Int × LiI) ⊕ LiI):=
 if Aa < (a3.length:Int) then (iter (λs=>Ads fuel a3 Ac Ae Af Aa s.1 s.2) fuel (w64<|Ac + 1,Ad)).bind (λ(Ag:LiI)=>some<|.inl (w64<|Aa + 1,Ag)) else some<|.inr Ad
def Adu (fuel:Nat) (a3:LiI) (Ae:Bool) (Aa:Int) (Ab:LiI) (Af:Int):Option ((Bool × Int × LiI × Int) ⊕ (Int ⊕ (Bool × Int))):=
 if Aa < (a3.length:Int) then (((iter (λs=>Adr fuel a3 Aa Ab s) fuel Aa).bind (λ(Ai:Int)=>some Ai)):Option Int).bind (λ(Ad:Int)=>if Ad=(a3.length:Int) then some (.inr<|.inl 0) else ((if ¬ Ad=Aa then (gI Ab Ad).bind λAj=>(gI Ab Aa).bind λAk=>some (!Ae,sI (sI Ab Aa Aj) Ad Ak) else some (Ae,Ab)):Option (Bool × LiI)).bind (λ((Am,Ag):Bool × LiI)=>(gI Ag Aa).bind λAo=>(gI Ao Aa).bind λAh=>(iter (λs=>Adt fuel a3 Aa Af Ah s.1 s.2) fuel (w64<|Aa + 1,Ag)).bind (λ(Ap:LiI)=>some<|.inl (Am,w64<|Aa + 1,Ap,Ah)))) else some<|.inr<|.inr (Ae,Af)
def Adv (fuel:Nat) (a3:LiI) (Aa:Int) (Ac:LiI):Option ((Int × LiI) ⊕ LiI):=
 if Aa < (a3.length:Int) then (gI a3 Aa).bind λAd=>if 0<=(a3.length:Int)/\(a3.length:Int)<=100000000 then (gI Ac Aa).bind λAf=>(gI (sI Ac Aa<|List.replicate (Int.toNat (a3.length:Int)) (0:Int)) Aa).bind λAe=>if Ad.length=Ae.length/\0 < Ae.length then some (.inl (w64<|Aa + 1,sI (sI Ac Aa<|List.replicate (Int.toNat (a3.length:Int)) (0:Int)) Aa Ad)) else none else none else some<|.inr Ac
def AZx (fuel:Nat) (a3:LiI):Option Int:=
 if 0<=(a3.length:Int)/\(a3.length:Int)<=100000000 then (iter (λs=>Adv fuel a3 s.1 s.2) fuel (0,List.replicate (Int.toNat (a3.length:Int)) ([]:List Int))).bind (λ(Ac:LiI)=>(Ar2 fuel 1).bind λAd=>(iter (λs=>Adu fuel a3 s.1 s.2.1 s.2.2.1 s.2.2.2) fuel (false,0,Ac,Ad)).bind (λex=>match ex with | .inl Ae=>(some Ae) | .inr (Af,Ab)=>if Af=true then (BCi fuel Ab).bind λAg=>some Ag else (Anm fuel Ab).bind λAh=>some Ah)) else none
theorem Alh {Bx:Value} {a3:LiI} {r:Int} (H2:AX6 cZ h Bx a3) (hp:AZx fuel a3=some r):AT3 Tryz.prog 154 #[Bx] h (λx h'=>Ext h h'/\ ∃ (x0:Value),x=x0/\ZZ h' x0 r):=by
 unfold AZx at hp;refine cwf (l:=[_]) Tryz.func154 rfl rfl (AGt<|AV7 (Kst.k0 h) [.bool false,.slice none 0 0] AXw λb5 h6 E8 C8=>AZr<|AGq<|AUc AU4 rfl H2 (AT5<|AGq ?_));obtain ⟨C9,Da⟩:=ifN hp;refine Ajn cZ 129 AU4 Ax6 rfl trivial tt2 rfl rfl AGr C9 λDb Dc Dd Ak Ii De Df Dg=>AG1<|AGv<|AGt<|AGq<|AUc AU4 rfl H2 (AGq<|AGx<|AGw ?_);have Bz:=C8.no2 Df Dg De;refine AYl 274875809888 (λx:(Int) × (LiI) × LnA × LnN × LvA=>(x.1,x.2.1)) ((0,(List.replicate (Int.toNat (a3.length:Int)) ([]:List Int)),Db,Dc,Dd):(Int) × (LiI) × LnA × LnN × LvA) Da (λx=>[(21,(.int .i64 x.1))]) (λx=>Bz.L.set 0<|aO2 cZ 146 129 x.2.2.1 x.2.2.2.1 x.2.2.2.2 Ak x.2.1) Bz ⟨rfl,trivial⟩ ?_;rintro ⟨Dh,u32,Di,Dj,Dk⟩ Ij Ik Il A7 A8 Dl;unfold Adv at A8;refine AGt<|ATy rfl rfl (AGx<|AGv<|⟨_,rfl,λA9=>?_,λA9=>?_⟩)
 ·refine AG5<|q_t<|AGv<|AGw<|AGt<|AGq ?_;obtain ⟨Im,Do,Dp⟩:=AGu<|AT9 A8 A9;refine Ad5 AU4 AWx H2 A7.x Do λ_ Io Dq=>ATu<|AT5<|AGq<|AGq<|AGq ?_;obtain ⟨Dr,Ds⟩:=ifN Dp;refine Az6 AV6 AXw rfl trivial tt2 rfl rfl AGr Dr λIp Iq Ir Dt Du Dv Dw=>?_;have Am:=A7.no Du (AX2 Dv Dw) Dt;obtain ⟨Is,B3,Dx⟩:=AGu Ds;refine AUx AU4 rfl (Am.o2 p1) rfl B3 λIt Iu Dy Iv Iw=>Ajm AWx (Am.o2 p1) B3 Dy rfl rfl (Am.o p0) (Am.dj p0 p1 AGr) λIx Dz D0 D2=>AGx<|ATd<|AGq<|AGq ?_;have Au:=Am.m2 p0 p1 AGr D0 Dz λz hz=> .inl<|D2 z hz;obtain ⟨Iy,B4,D3⟩:=AGu Dx;refine AUr AU4 AWx (Au.o2 p1) B4 λ_ Iz D4=>AGq ?_;obtain ⟨D5,D6⟩:=ifN D3;refine A6e (m:=Dh) AV6 trivial rfl rfl (Au.o2 p1) D4 B4 (Dq.ext Au.x) D5 λI0 D7 D8=>⟨trivial,?_⟩;refine ATr<|q_b<|q_t<|ATd<|ATn rfl rfl (AGq<|AGx ?_);exact ⟨(_,_,_,_,_),(AGs D6).symm,(Au.uO2 p1 D8 D7).sel [1,2] AGr,rfl,trivial⟩
 ·refine ATj<|ATk<|ATk<|AUh<|q_t<|AGt<|AT5 ?_;obtain ⟨D9,Ea,Eb⟩:=AGu<|Dl _ (AGs<|AUa A8 A9).symm;refine Ahc A7 (Atf Ea) λEc I1 I2 Ed=>AV7 Ed [.bool false,.slice none 0 0] AXw λEe Ef I3 B5=>AYs B5 p0 (ATi Ef) (B5.z p1) λI6 B6=>AGx<|AGv<|AGt<|AGq<|AGq<|AGx<|AGw<|AYl 22300745198530623141535718272647261994385024 (λx:(Bool) × (Int) × (LiI) × LnA × LnN × LvA × (Int) × LvA=>(x.1,x.2.1,x.2.2.1,x.2.2.2.2.2.2.1)) ((false,0,u32,Di,Dj,Dk,D9,Ec):(Bool) × (Int) × (LiI) × LnA × LnN × LvA × (Int) × LvA) Eb (λx=>[(7,(.bool x.1)),(40,(.int .i64 x.2.1))]) (λx=>((B6.L.set 2<|aO2 cZ 146 129 x.2.2.2.1 x.2.2.2.2.1 x.2.2.2.2.2.1 Ak x.2.2.1).set 1 (aZ x.2.2.2.2.2.2.2 x.2.2.2.2.2.2.1)).set 0 (aB 129 Ee x.2.2.2.2.2.2.2)) B6 ⟨rfl,rfl,trivial⟩ ?_;rintro ⟨B7,Ao,B8,Eg,Eh,Ei,I7,I9⟩ Ja Jc Je Ab Ba B9;unfold Adu at Ba;refine AGt<|ATy rfl rfl (AGx<|AGv<|⟨_,rfl,λBb=>?_,λBb=>?_⟩)
  ·refine AG5<|q_t<|AGv<|AGw<|AGt<|AGq<|AT5<|AGq<|AG1 ?_;obtain ⟨Ej,Ek,Ca⟩:=AGu<|AT9 Ba Bb;refine Aft 1152903912420803584 (λx:(Int)=>[(10,(.int .i64 x))]) (λx h'=>( x)=Ej/\Kst h h' (Ab.L)) ?_ ?_
   ·refine AGw<|AZm 1152903912420803584 Ek (λx=>[(10,(.int .i64 x))]) (λx=>Ab.L) Ab ⟨rfl,trivial⟩ ?_;rintro Av Jf Jg Jh Ah Cb Cd;unfold Adr at Cb;obtain ⟨El,Ce,Bc⟩:=AGu Cb;refine Aft 288212783965667328 (λx:Unit=>[]) (λx h'=>(Sum.inl <| ())=El/\Kst h h' (Ah.L)) ?_ ?_
    ·refine AGt<|AGq<|AGq<|ATy rfl rfl (AGq ?_);by_cases Aw:Av < (a3.length:Int)
     ·rw [decide_eq_true Aw];refine ATx 47 true<|AGq<|ATx 47 true<|AGq<|ATx 47 true ?_;obtain ⟨Ji,Be,Em⟩:=AGu<|ifT Ce Aw;refine AUx AU4 rfl (Ah.o2 p2) rfl Be λJj Jk Jl En Eo=>ATx 47 true<|AT2 AWx rfl Eo (ATx 47 true<|AGq<|ATx 47 true ?_);obtain ⟨Jm,Cf,Ep⟩:=AGu Em;refine AU8 (m:=Av) AV6 rfl (Ah.o2 p2) En Be rfl Cf λJn Er=>ATx 47 true ?_;obtain ⟨Jo,Es,Et⟩:=(Ah.o2 p2).cells Er Be Cf;have Bf:=Ah.az Es;refine Agg (c:=cZ) AUi rfl (Bf.z p0) (λj u hu=>(Et j u hu)) (ATx 47 true ?_);obtain ⟨Jp,Eu,Cg⟩:=AGu Ep;refine AYe Bf (Ar3 (Bf.z p0).2 Eu) λJq Jr Ch=>ATx 47 true<|AV3 rfl rfl (ATp rfl (AGx<|⟨_,rfl,λBg=>?_,λBg=>?_⟩))
      ·refine AG5<|q_t ?_;exact ⟨(():Unit),⟨AGs<|AT9 Cg Bg,Ch.sel [1,2,3,4] AGr⟩,trivial⟩
      ·obtain rfl:=AGs<|AUa Cg Bg;refine ATj<|ATk<|ATk<|AUh<|q_t ?_;exact ⟨(Av:(Int)),⟨AGs<|Cd _ (AGs Bc).symm,Ch.sel [1,2,3,4] AGr⟩,rfl,trivial⟩
     ·rw [decide_eq_false Aw];refine Ac3 47 false<|Aia 47 false<|ATs rfl (AGx<|ATw rfl ?_);obtain rfl:=AGs<|ifF Ce Aw;refine ATj<|ATk<|ATk<|AUh<|q_t ?_;exact ⟨(Av:(Int)),⟨AGs<|Cd _ (AGs Bc).symm,Ah⟩,rfl,trivial⟩
    rintro ⟨⟩ Js Jt ⟨Ev,Ew⟩;subst Ev;refine AGw<|ATd<|AGq<|ATn rfl rfl (ATu<|ATr<|q_b<|q_t ?_);exact ⟨_,(AGs Bc).symm,Ew,rfl,trivial⟩
   rintro Ey Ju Ci ⟨Ez,Ae⟩;subst Ez;refine AGv<|AGt<|AGq<|AGq<|AV3 rfl rfl (AGx<|⟨_,rfl,λBh=>?_,λBh=>?_⟩)
   ·refine AGt<|AWp (Aha )<|AYs Ae p3 (ATi Ci) (ATi Ci) λCj Ck=>AGx<|AG6<|ATm<|AUq<|ATm<|ATm<|AUq<|ATm ?_;obtain rfl:=AGs<|B9 _ (AGs<|AT9 Ca Bh).symm;exact ⟨_,AVn AUi (cZ.klen<|ATi Cj) rfl (Ck.b p3),Ck.x,_,rfl,(ATi Cj).2⟩
   ·refine AG5<|q_t ?_;obtain ⟨Fa,Cm,Fb⟩:=AGu<|AUa Ca Bh;refine Aft 9671388110172959688097920 (λx:(Bool) × (LiI) × LnA × LnN × LvA=>[(7,(.bool x.1))]) (λx h'=>( (x.1,x.2.1))=Fa/\Kst h h' (Ae.L.set 2<|aO2 cZ 146 129 x.2.2.1 x.2.2.2.1 x.2.2.2.2 Ak x.2.1)) ?_ ?_
    ·refine AGt<|AGq<|AGq<|AWk rfl rfl (AGx<|⟨_,rfl,λBi=>?_,λBi=>?_⟩)
     ·refine AGv<|AWj<|AGq<|AGq<|AGq<|AGq<|AGq<|AGq ?_;obtain ⟨Fc,Cn,Fd⟩:=AGu<|AT9 Cm Bi;refine AUr AU4 AWx (Ae.o2 p2) Cn λ_ Jv Fe=>AGq<|AGq ?_;obtain ⟨Ff,Co,Fg⟩:=AGu Fd;refine AUr AU4 AWx (Ae.o2 p2) Co λ_ Jw Fh=>Agr AU4 AWx (Ae.o2 p2) Fh Fe Co Cn rfl rfl (λ_=>rfl) (λ_=>rfl) (λ_=>rfl) (λ_ _=>rfl) λJx Jy Fi Fj Fk Jz Fl Fm Fo=>AGx<|ATd<|AGq<|AXb rfl (AG1 ?_);exact ⟨(((!B7),(sI (sI B8 Ao Fc) Ey Ff),Fi,Fj,Fk):(Bool) × (LiI) × LnA × LnN × LvA),⟨AGs Fg,(Ae.uo2 p2 Fm Fl Fo)⟩,rfl,trivial⟩
     ·refine AG5<|q_t ?_;exact ⟨((B7,B8,Eg,Eh,Ei):(Bool) × (LiI) × LnA × LnN × LvA),⟨AGs<|AUa Cm Bi,Ae⟩,rfl,trivial⟩
    rintro ⟨J0,Fp,Fq,Ft,Fu⟩ J1 J2 ⟨Fv,Ax⟩;subst Fv;refine AGt<|AGq<|AGq ?_;obtain ⟨J3,Bj,Fw⟩:=AGu Fb;refine AUr AU4 AWx (Ax.o2 p2) Bj λ_ J4 Fx=>AGq ?_;obtain ⟨J5,Cp,Fy⟩:=AGu Fw;refine AU8 (m:=Ao) AV6 rfl (Ax.o2 p2) Fx Bj rfl Cp λJ6 Fz=>?_;obtain ⟨J7,F4,F5⟩:=(Ax.o2 p2).cells Fz Bj Cp;have Cq:=Ax.az F4;refine Agg (c:=cZ) AUi rfl (Cq.z p0) (λj u hu=>(F5 j u hu)) (AV7 Cq [.bool false,.slice none 0 0] AXw λJ8 F6 J9 Cr=>AYs Cr p0 (ATi F6) (Cr.z p1) λKa Ct=>AGx<|AGv<|AGt<|AGq<|ATn rfl rfl (AG1<|AGw<|AYl 5575186299632650833623772426640990780026880 (λx:(Int) × (LiI) × LnA × LnN × LvA=>(x.1,x.2.1)) (((w64<|Ao + 1),Fp,Fq,Ft,Fu):(Int) × (LiI) × LnA × LnN × LvA) Fy (λx=>[(12,(.int .i64 x.1))]) (λx=>Ct.L.set 4<|aO2 cZ 146 129 x.2.2.1 x.2.2.2.1 x.2.2.2.2 Ak x.2.1) Ct ⟨rfl,trivial⟩ ?_));rintro ⟨Ay,F7,F8,F9,Ga⟩ Kb Kc Kd Af Bl Gb;unfold Adt at Bl;refine AGv<|AGt<|AGq<|AGq<|ATy rfl rfl (AGx<|⟨_,rfl,λBm=>?_,λBm=>?_⟩)
    ·refine AG5<|q_t<|AGv<|AGw<|AGt<|AGq<|ATn rfl rfl (AG1<|AGw<|AYl 5575186299632021960083815453461342024916992 (λx:(Int) × (LiI) × LnA × LnN × LvA=>(x.1,x.2.1)) (((w64<|Ao + 1),F7,F8,F9,Ga):(Int) × (LiI) × LnA × LnN × LvA) (AT9 Bl Bm) (λx=>[(13,(.int .i64 x.1))]) (λx=>Af.L.set 4<|aO2 cZ 146 129 x.2.2.1 x.2.2.2.1 x.2.2.2.2 Ak x.2.1) Af ⟨rfl,trivial⟩ ?_);rintro ⟨Ke,Kf,Kg,Kh,Ki⟩ Kj Bn Kk Aa Bo Gc;unfold Ads at Bo;refine AGv<|AGt<|AGq<|AGq<|ATy rfl rfl (AGx<|⟨_,rfl,λBp=>?_,λBp=>?_⟩)
     ·refine AG5<|q_t<|AGv<|AGw<|AGv ?_;have Ai:UpT [] Bn Bn:=UpT.start all_nil;refine An5 (B:=λh'=>UpT [] Bn h') 25 [⟨14,129,[.bool false,.slice none 0 0]⟩] (λ_ _ U E=>U.thenE E) AG3 Ai (A0d rfl AXw rfl (λ_ _ U E=>U.thenE E))<|h_l rfl (Ahd (Aa.z p1) Ai (Aa.b p0)<|ATr<|h_l rfl (AGq<|ATr<|h_l rfl (AGq<|ATr<|h_l rfl ?_)));obtain ⟨Kl,Ac,Gd⟩:=AGu<|AT9 Bo Bp;refine AUx AU4 rfl (Aa.o2 p4) rfl Ac λKm Kn Ko Ge Gf=>ATr<|h_l rfl (AVf AWx rfl Ai (λh' hb=>ATv Gf hb.ext) (ATr<|h_l rfl (AGq<|ATr<|h_l rfl ?_)));obtain ⟨Kp,Az,Gg⟩:=AGu Gd;refine AU8 (m:=Ay) AV6 rfl (Aa.o2 p4) Ge Ac rfl Az λKr Gh=>ATr<|h_l rfl ?_;obtain ⟨Kt,Cu,Gi⟩:=(Aa.o2 p4).cells Gh Ac Az;refine Aku (c:=cZ) AUi rfl Cu Ai (λh' hb j u hu=>ATv (Gi j u hu) hb.ext) (ATr<|h_e rfl λKu Cv=>?_);have Bq:=(Aa.az<|cZ.upT Cu Ai).e Cv;obtain ⟨Kv,Gj,Gk⟩:=AGu Gg;refine AYh Bq (Ai.thenE Cv) (A0q (Bq.z p2).2 (Bq.z p0).2 Gj) λKw Kx Gl Gm Ag=>ATr ⟨Gl,?_⟩;refine h_l rfl (AGq<|ATr<|h_l rfl (AGq<|ATr<|h_l rfl (AUx AU4 rfl (Aa.o2 p4) rfl Ac λKy Kz La Gn Gp=>ATr<|h_l rfl (AVf AWx rfl Ag (λh' hb=>ATv Gp hb.ext) (ATr<|h_l rfl (AGq<|ATr<|h_l rfl ?_))))));obtain ⟨Lb,Cw,Gq⟩:=AGu Gk;refine AU8 (m:=Ay) AV6 rfl (Aa.o2 p4) Gn Ac rfl Cw λLc Gr=>ATr<|h_l rfl ?_;obtain ⟨Ld,Cx,Gt⟩:=(Aa.o2 p4).cells Gr Ac Cw;refine Aku (c:=cZ) AUi rfl Cx Ag (λh' hb j u hu=>ATv (Gt j u hu) hb.ext) (ATr<|h_l rfl (AGq<|ATr<|h_l rfl (AGq<|ATr<|h_l rfl ?_)));obtain ⟨Le,Br,Gu⟩:=AGu Gq;refine AUx AU4 rfl (Aa.o2 p4) rfl Br λLf Lg Lh Gv Gw=>ATr<|h_l rfl (AVf AWx rfl Ag (λh' hb=>ATv Gw hb.ext) (ATr<|h_l rfl (AGq<|ATr<|h_l rfl ?_)));obtain ⟨Li,Cy,Gx⟩:=AGu Gu;refine AU8 (m:=Ao) AV6 rfl (Aa.o2 p4) Gv Br rfl Cy λLj Gy=>ATr<|h_l rfl ?_;obtain ⟨Lk,Cz,Gz⟩:=(Aa.o2 p4).cells Gy Br Cy;refine Aku (c:=cZ) AUi rfl Cz Ag (λh' hb j u hu=>ATv (Gz j u hu) hb.ext) (ATr<|h_e rfl λLl C0=>?_);have Bt:=((Gm.az<|cZ.upT Cx Ag).az (cZ.upT Cz Ag)).e C0;obtain ⟨Lm,G3,G4⟩:=AGu Gx;refine AYh Bt (Ag.thenE C0) (A0q (Bt.z p1).2 (Bt.z p0).2 G3) λLo Lq G5 G6 G7=>ATr ⟨G5,?_⟩;refine h_e rfl λLr C1=>?_;have Bu:=G6.e C1;obtain ⟨Lv,G8,G9⟩:=AGu G4;refine AYh Bu (G7.thenE C1) (BDv (Bu.z p3).2 (Bu.z p0).2 G8) λHb Lw Hc Hd He=>ATr ⟨Hc,?_⟩;refine Aut λHf C2=>BDj λLx C3 Hg Ly=>?_;have Aj:=Hd.e C2;have A3:=((((((Aa.nb (He.thenE C2).ext (AX2 Hg C3.lt) C3).az (Aj.z p5)).az (Aj.z p4)).az (Aj.z p3)).az (Aj.z p2)).az (Aj.z p1)).az (Aj.z p0);refine AVe Hb AUi (cZ.klen<|A3.z p0) (cZ.klen<|ATi Hf) rfl rfl (cZ.one<|A3.z p0) (A3.b p6) λBv Hh Hj=>AGx<|AVl (λh'=>UpT [] Bv h') AG3 ?_;have Ad:=A3.sb p6 Hj Hh rfl;have Ap:UpT [] Bv Bv:=UpT.start all_nil;refine AGq<|AGq<|AUx AU4 rfl (Ad.o2 p11) rfl Ac λLz L9 Ma Hk Hl=>AVf AWx rfl Ap (λh' hb=>ATv Hl hb.ext) (AGq<|Ahd (Ad.z p0) Ap (Ad.b p6)<|Ahd (Ad.z p10) Ap (Ad.b p9) ?_);obtain ⟨⟨Mb,Mc,Md⟩,Hm,C4⟩:=AGu G9;dsimp only at C4;refine AWq Ap (λ_ E=>Ap.thenE E) rfl (Aqy (Ad.z p0).2 (Ad.z p10).2 Hm) λMe Mf Hn Ho=>?_;obtain ⟨Mg,Mh,rfl,Hq,Hr⟩:=Ho;obtain ⟨Mi,rfl,Hs⟩:=Hq.cs;obtain ⟨Mj,rfl,Ht⟩:=Hr.cs;refine AGq<|AUf rfl rfl (AUf rfl rfl (AUf rfl rfl (AU8 (m:=Ay) AV6 rfl (Ad.o2 p11) Hk Ac rfl Az λMk Hu=>?_)));have Aq:=((Ad.e Hn).az Hs).az Ht;refine AYq (m:=Ay) (Akd AUi (cZ.klen<|Aq.z p1) rfl rfl (cZ.one<|Aq.z p1)) (Aq.o2 p13) Hu Ac Az (Aq.z p1) λMl Hv Hw=>ATr<|q_b<|q_t<|ATd<|AGq<|ATn rfl rfl (AG1 ?_);exact ⟨(_,_,_,_,_),(AGs C4).symm,(Aq.uO2 p13 Hw Hv).sel [9,10,11,12,13,14] AGr,rfl,trivial⟩
     ·refine ATj<|ATk<|ATk<|AUh<|q_b<|q_t<|ATd<|AGq<|ATn rfl rfl (AG1 ?_);exact ⟨(_,_,_,_,_),(AGs<|Gc _ (AGs<|AUa Bo Bp).symm).symm,Aa,rfl,trivial⟩
    ·refine ATj<|ATk<|ATk<|AUh<|q_t<|ATd<|Adg (Af.z p1) (Af.b p0)<|AYs Af p2 (Af.z p3) (Af.z p1) λMm Hx=>ATr<|q_b<|q_t<|ATd<|ATn rfl rfl (AGq<|AGx ?_);exact ⟨(_,_,_,_,_,_,_,_),(AGs<|Gb _ (AGs<|AUa Bl Bm).symm).symm,Hx.sel [2,1,4,5] AGr,rfl,rfl,trivial⟩
  ·refine ATj<|ATk<|ATk<|AUh<|q_t<|AGv<|AGt<|AGq<|AGx ?_;have C5:=B9 _ (AGs<|AUa Ba Bb).symm;refine ⟨_,rfl,λBw=>?_,λBw=>?_⟩
   ·refine AGt<|Adg (Ab.z p1) (Ab.b p0) ?_;obtain ⟨Mo,Hy,Hz⟩:=AGu<|ifT C5 Bw;refine Ahc Ab (BDw (Ab.z p1).2 Hy) λMq Ia Mr C6=>AYs C6 p4 (ATi Ia) (C6.z p0) λMs A4=>AGx<|AG6<|ATm ?_;obtain rfl:=AGs Hz;exact ⟨_,AVn AUi (cZ.klen<|A4.z p0) rfl (A4.b p4),A4.x,_,rfl,(A4.z p0).2⟩
   ·refine AG5<|q_t<|AGt<|Adg (Ab.z p1) (Ab.b p0) ?_;obtain ⟨Mt,Ib,Ic⟩:=AGu<|Abk C5 Bw;refine Ahc Ab (Apz (Ab.z p1).2 Ib) λMu Id Mv C7=>AYs C7 p4 (ATi Id) (C7.z p0) λMw A5=>AGx<|AG6 ?_;obtain rfl:=AGs Ic;exact ⟨_,AVn AUi (cZ.klen<|A5.z p0) rfl (A5.b p4),A5.x,_,rfl,(A5.z p0).2⟩
def Ai7 (fuel:Nat) (a3:LiI):Option (Int × Bool):=
 (AYw fuel a3).bind λ(Ab,Ac,Ad)=>if (!Ad)=true then some (0,false) else if ¬ Ab=Ac then some (0,false) else (AZx fuel a3).bind λAe=>some (Ae,true)
theorem Arr {Af:Value} {a3:LiI} {r:(Int × Bool)} (H2:AX6 cZ h Af a3) (hp:Ai7 fuel a3=some r):AT3 Tryz.prog 95 #[Af] h (λx h'=>Ext h h'/\ ∃ (x0:Value),x= .tuple #[x0,.bool r.2]/\ZZ h' x0 r.1):=by
 unfold Ai7 at hp;refine cwf (l:=[_]) Tryz.func95 rfl rfl (AGt<|AV7 (Kst.k0 h) [.bool false,.slice none 0 0] AXw λb5 h6 E8 Aj=>AT5<|AGq ?_);obtain ⟨⟨A6,A7,Av⟩,Aw,Ad⟩:=AGu hp;dsimp only at Ad;refine AYe Aj (Aj8 (H2.ext Aj.x) Aw) λAa A8 Ab=>AGq<|AUf rfl rfl (AUf rfl rfl (AUf rfl rfl (ATu<|ATu<|AG1<|AGv<|AGt<|AGq<|AXb rfl (AGq ?_))));cases Ak:(!Av)
 ·refine ATx 15 false<|AGq<|ATx 15 false<|AGq<|ATx 15 false<|AWk rfl rfl (ATs rfl (AGx ?_));have Am:=Abk Ad Ak;refine ⟨_,rfl,λAe=>?_,λAe=>?_⟩
  ·refine AGt<|AWp (Aha )<|AYs Ab p0 (ATi Aa) (ATi Aa) λAo Ap=>AG1<|AG6<|ATm ?_;obtain rfl:=AGs<|AT9 Am Ae;exact ⟨_,Al4 AUi (cZ.klen<|ATi Ao) rfl (Ap.b p0),Ap.x,_,rfl,(ATi Ao).2⟩
  ·refine AG5<|q_t<|AGt<|AGq ?_;obtain ⟨A9,Ax,Ay⟩:=AGu<|AUa Am Ae;refine Ahc Ab (Alh (H2.ext Ab.x) Ax) λBa Az Bb Aq=>AYs Aq p1 (ATi Az) (Aq.z p0) λBc Ac=>AG1<|AG6 ?_;obtain rfl:=AGs Ay;exact ⟨_,Al4 AUi (cZ.klen<|Ac.z p0) rfl (Ac.b p1),Ac.x,_,rfl,(Ac.z p0).2⟩
 ·refine AYn 15 true<|ATp rfl (AGx<|AT0 rfl (AGt<|AWp (Aha )<|AYs Ab p0 (ATi Aa) (ATi Aa) λAr Au=>AG1<|AG6<|ATm ?_));obtain rfl:=AGs<|ifT Ad Ak;exact ⟨_,Al4 AUi (cZ.klen<|ATi Ar) rfl (Au.b p0),Au.x,_,rfl,(ATi Ar).2⟩
end Go.Proofs.YtkakafabeobahaaGreatDoor
namespace Go.QF
open Go
theorem A4a {l:List Value} (H:Sl h v l):SlK h 1 v (l.map λx=>[x]):=by
 obtain ⟨a,cap,hv,hc⟩:=H;refine ⟨a,cap,by grind,λi row hr=>?_⟩;grind
theorem Au4 {l:List Value} (H:SlK h 1 v (l.map λx=>[x])):Sl h v l:=by
 obtain ⟨a,cap,hv,hc⟩:=H;refine ⟨a,cap,by grind,λi x hx=>?_⟩;obtain ⟨b,o,ha,hb⟩:=hc i [x] (by simp [hx]);refine ⟨b,o,ha,?_⟩;have:=hb 0 x rfl;grind
theorem A7e {κ:IntKind} {L:List Int} (H:Sl h v (L.map<|.int κ)):SlC (cI κ) h v L:=by
 refine ⟨L.map λa=>[.int κ a],?_,AT6,λi cs a h1 h2=>?_⟩
 ·have:=A4a H;rwa [List.map_map] at this
 ·rw [List.getElem?_map,h2] at h1;injection h1 with h1;exact h1.symm
theorem BF8 {κ:IntKind} {L:List Int} (H:SlC (cI κ) h v L):Sl h v (L.map<|.int κ):=by
 obtain ⟨Ls,h1,h2,h3⟩:=H
 have:Ls=(L.map<|Value.int κ).map λx=>[x]:=by
  apply List.ext_getElem?
  intro i
  by_cases hi:i < L.length
  ·obtain ⟨a,ha⟩:∃ a,L[i]? =some a:=⟨L[i],List.getElem?_eq_getElem hi⟩
   obtain ⟨cs,hcs⟩:∃ cs,Ls[i]? =some cs:=⟨Ls[i]'AGp,List.getElem?_eq_getElem _⟩
   have:=h3 i cs a hcs ha
   rw [hcs,List.map_map,List.getElem?_map,ha]
   exact congrArg some this
  grind
 subst this;exact Au4 h1
theorem BDx (H:AX6 (cI .i64) h v M):Mat h v M:=by
 obtain ⟨_,rs,h1,h2,h3⟩:=H;exact ⟨rs,Au4 h1,h2,λi r z hr hz=>BF8<|h3 i r z hr hz⟩
end Go.QF
namespace Go.QF
def Abs (x b:Int):Prop:= -b<=x/\x<=b
theorem Aod {b:Int} (hx:Abs x a) (hy:Abs y b):Abs (x * y) (a * b):=by
 unfold Abs at *;have ha:0<=a:=by omega
 have hb:0<=b:=by omega
 have h1:0<=(a - x) * (b - y):=Int.mul_nonneg AGp AGp;have h2:0<=(a - x) * (b + y):=Int.mul_nonneg AGp AGp;have h3:0<=(a + x) * (b - y):=Int.mul_nonneg AGp AGp;have h4:0<=(a + x) * (b + y):=Int.mul_nonneg AGp AGp;grind
theorem A7f {b:Int} (hb:0 < b) (hx:Abs x (b * y)):Abs (x.tdiv b) y:=by
 unfold Abs at *;rcases Amp x 0 with h | h
 ·have h1:x.tdiv b= -((-x).tdiv b):=by simp_all
  have h2:(-x).tdiv b=(-x) / b:=Int.tdiv_eq_ediv_of_nonneg AGp
  have h3:(-x) / b<=y:=by
   have:(-x) / b<=(b * y) / b:=Int.ediv_le_ediv hb AGp
   rwa [Int.mul_ediv_cancel_left _ AGp] at this
  have h4:0<=(-x) / b:=Int.ediv_nonneg AGp AGp;omega
 ·have h2:x.tdiv b=x / b:=Int.tdiv_eq_ediv_of_nonneg h
  have h3:x / b<=y:=by
   have:x / b<=(b * y) / b:=Int.ediv_le_ediv hb AGp
   rwa [Int.mul_ediv_cancel_left _ AGp] at this
  have h4:0<=x / b:=Int.ediv_nonneg h AGp;omega
def Atg (M:List (List Int)):Prop:=(1<=M.length/\M.length<=8)/\(∀ z∈M,z.length=M.length)/\ ∀ i j,i < M.length->j < M.length->ent M i j=ent M j i/\ -262144 < ent M i j/\ent M i j < 262144
open Classical in
noncomputable def Aee (M:List (List Int)):Bool:=decide (Atg M)
theorem AZi (h:Atg M):true=Aee M:=by simp [Aee,h]
theorem AWv (h: ¬ Atg M):false=Aee M:=by simp [Aee,h]
theorem Ath (h:Aee M=true):Atg M:=by simpa [Aee] using h
def Aiw (m:Nat) (F:ATa):Prop:=(0 < F 0 0/\F 0 0 < 65536)/\ ∀ i,1<=i->i < m->2 * F i 0<=F 0 0/\ -2 * F i 0<=F 0 0
instance (m:Nat) (F:ATa):Decidable (Aiw m F):=by
 unfold Aiw
 have:Decidable (∀ i,1<=i->i < m->2 * F i 0<=F 0 0/\ -2 * F i 0<=F 0 0):=
  decidable_of_iff (∀ i,i < m->1<=i->2 * F i 0<=F 0 0/\ -2 * F i 0<=F 0 0) ⟨λh i a b=>h i b a,λh i a b=>h i b a⟩
 infer_instance
def Aj9 (F:ATa) (last:Int):ATa:=λi j=>(F 0 0 * F (i + 1) (j + 1) - F (i + 1) 0 * F 0 (j + 1)).tdiv last
def Aoq (F:ATa) (last:Int):Prop:=3 * F 0 0 * F 0 0<=4 * (last * Aj9 F last 0 0 + F 1 0 * F 1 0)
instance (F:ATa) (last:Int):Decidable (Aoq F last):=by unfold Aoq;infer_instance
def Aix:Nat->(ATa)->Int->Bool
 | 0,_,_=>false
 | 1,F,_=>decide (0 < F 0 0/\F 0 0<=10000)
 | m + 2,F,last=>decide (Aiw (m + 2) F) && (decide (Aoq F last) && Aix (m + 1) (Aj9 F last) (F 0 0))
noncomputable def isRed (M:List (List Int)):Bool:=Aee M && Aix M.length (ent M) 1
structure Stg (m:Nat) (F:ATa) (last:Int) (K:Int):Prop where
 sym:∀ i j,i < m->j < m->F i j=F j i
 bd:∀ i j,i < m->j < m->Abs (F i j) (last * K)
 l1:1<=last
 l2:last<=65535
theorem Ayp {m:Nat} (H:Stg (m + 1) F last K) (hK:0<=K) (hs:Aiw (m + 1) F):Stg m (Aj9 F last) (F 0 0) (K + 16384):=by
 have hd:=hs.1
 have hcol:∀ i,i < m->Abs (2 * F (i + 1) 0) (F 0 0):=λi hi=>by
  have:=hs.2 (i + 1) AGp AGp
  exact ⟨AGp,AGp⟩
 refine ⟨λi j hi hj=>?_,λi j hi hj=>?_,AGp,AGp⟩
 ·unfold Aj9;rw [H.sym (i + 1) (j + 1) AGp AGp,H.sym (i + 1) 0 AGp AGp,H.sym 0 (j + 1) AGp AGp,Int.mul_comm<|F 0<|i + 1]
 ·unfold Aj9;refine A7f (by have:=H.l1;omega) ?_;have h1:Abs (F 0 0 * F (i + 1) (j + 1)) (F 0 0 * (last * K)):=Aod ⟨AGp,AGp⟩<|H.bd _ _ AGp AGp
  have h2:Abs (2 * F (i + 1) 0 * (2 * F 0 (j + 1))) (F 0 0 * F 0 0):=by
   refine Aod (hcol i hi) ?_
   rw [H.sym 0 (j + 1) AGp AGp];exact hcol j hj
  have h3:0<=F 0 0 * (65536 - F 0 0):=Int.mul_nonneg AGp AGp;have h4:0<=F 0 0 * (last - 1):=Int.mul_nonneg AGp (by have:=H.l1;omega);unfold Abs at *;grind
theorem A4b (h:Atg M):Stg M.length (ent M) 1 262144:=by
 refine ⟨λi j hi hj=>(h.2.2 i j hi hj).1,λi j hi hj=>?_,AGp,AGp⟩;have:=h.2.2 i j hi hj;unfold Abs;omega
theorem Ah0 {m:Nat} (h:2<=m) (hs: ¬ Aiw m F):Aix m F last=false:=by
 obtain ⟨n,rfl⟩:∃ n,m=n + 2:=⟨m - 2,AGp⟩;unfold Aix;grind
theorem Ali {m:Nat} (h:2<=m) (hs: ¬ Aoq F last):Aix m F last=false:=by
 obtain ⟨n,rfl⟩:∃ n,m=n + 2:=⟨m - 2,AGp⟩;unfold Aix;grind
theorem A4c {m:Nat} (h:2<=m) (hs:Aiw m F) (hl:Aoq F last):Aix m F last=Aix (m - 1) (Aj9 F last) (F 0 0):=by
 obtain ⟨n,rfl⟩:∃ n,m=n + 2:=⟨m - 2,AGp⟩;rw [Aix,decide_eq_true hs,decide_eq_true hl];rfl
theorem Ar4 {m:Nat} (H:Stg m F last K) (hK0:0<=K) (hK:K<=393216) (hi:i < m) (hj:j < m):Abs (F i j) 34359738368:=by
 have h1:=H.bd i j hi hj;have h2:=(Ao3 (a:=last) (b:=K) (A:=65535) (B:=393216) (by have:=H.l1;omega) H.l2 hK0 hK).2;unfold Abs at *;omega
end Go.QF
namespace Go.Proofs.YtkakafabeobahaaGreatDoor
open Go Go.QF
set_option maxRecDepth 100000
theorem Adw {α:Type} {c:Nat} {g:Nat->α} {q:Nat} (hq:q < c):((List.range c).map g)[q]? =some (g q):=by simp [hq]
section
variable {P:Program} {B:AG0->Prop} {st:Bool} {ops:Array Oper} {rest:List Oper} {e:Env} {h:AG0} {K:Env->AG0->Prop}
variable {d:Nat} {ty:TypeId} {pos:String} {af:Array Edge}
end
end Go.Proofs.YtkakafabeobahaaGreatDoor
namespace Go.Proofs.YtkakafabeobahaaGreatDoor
open Go Go.QF
set_option maxRecDepth 100000
theorem A0r (HM:Mat h v M):AT3 Tryz.prog 82 #[v] h λx h'=>h'=h/\x= .bool (Aee M):=by
 refine AUd (l:=[_]) mx Tryz.func82 rfl rfl rfl rfl rfl AG3 (AGt<|AT5<|AGq<|Aqj ATg rfl HM (AG1<|AGv<|AGt<|AGq<|AXh rfl rfl (λAb=>?_) (λAb=>?_)))
 ·refine AGq (AUl 14 true AG3 rfl rfl (AUl 14 true AG3 rfl rfl (ATp rfl (AGx<|AT0 rfl (AGt<|AG1<|AG6<|ATm<|⟨_,AS9,?_⟩)))))
  first
   | exact ⟨rfl,congrArg Value.bool (AWv λhh=>by have:=hh.1;omega)⟩
   | exact ⟨rfl,congrArg Value.bool (AWv λhh=>by have:=hh.2.1 M[i]<|List.getElem_mem _;omega)⟩
   | exact ⟨rfl,congrArg Value.bool (AWv λhh=>by have:=hh.2.2 a b AGp AGp;omega)⟩
   | exact ⟨rfl,congrArg Value.bool<|AZi ⟨⟨AGp,AGp⟩,hrows,λx y hx hy=>hall x y AGp hy⟩⟩
 ·refine AGq<|AUs 14 false AG3 rfl rfl (AGq<|AUs 14 false AG3 rfl rfl (Ajg rfl rfl (λAc=>?_) (λAc=>?_)))
  ·refine ATs rfl (AGx<|AT0 rfl (AGt<|AG1<|AG6<|ATm<|⟨_,AS9,?_⟩))
   first
    | exact ⟨rfl,congrArg Value.bool (AWv λhh=>by have:=hh.1;omega)⟩
    | exact ⟨rfl,congrArg Value.bool (AWv λhh=>by have:=hh.2.1 M[i]<|List.getElem_mem _;omega)⟩
    | exact ⟨rfl,congrArg Value.bool (AWv λhh=>by have:=hh.2.2 a b AGp AGp;omega)⟩
    | exact ⟨rfl,congrArg Value.bool<|AZi ⟨⟨AGp,AGp⟩,hrows,λx y hx hy=>hall x y AGp hy⟩⟩
  ·refine ATs rfl (AGx<|ATw rfl (AG5<|q_t<|AGv<|AGt<|AGq<|Aqj ATg rfl HM (AGq<|AGx<|AGw<|AW9 535822372 (λi:Nat=>[(20,.int .i64 (i:Int))]) (λk i h'=>h'=h/\k=M.length - i/\i<=M.length/\ ∀ j (hj:j < M.length),j < i->M[j].length=M.length) AG3 M.length 0 ?_ ⟨rfl,trivial⟩ ?_)))
   ·exact ⟨rfl,rfl,Nat.zero_le _,λj _ hj=>by omega⟩
   rintro k i s1 h ⟨rfl,rfl,hi,hrow⟩;refine AGt<|AXh rfl rfl (λAd=>?_) (λAd=>?_)
   ·refine AGx<|AGv<|AT0 rfl (AG5<|q_t<|AGv<|AGw<|AGt<|Am7 ATg rfl HM rfl (List.getElem?_eq_getElem AGp) λaR rR haR hrR=>?_);refine AT2 ATq rfl haR (AT5<|AGq<|A47 ATe rfl hrR (AGq<|Axo rfl rfl (λAe=>?_) (λAe=>?_)))
    ·refine AGx (AT0 rfl (AGt<|AG1<|AG6<|AUq<|ATm<|ATm<|AUq<|ATm<|⟨_,AS9,?_⟩))
     first
      | exact ⟨rfl,congrArg Value.bool (AWv λhh=>by have:=hh.1;omega)⟩
      | exact ⟨rfl,congrArg Value.bool (AWv λhh=>by have:=hh.2.1 M[i]<|List.getElem_mem _;omega)⟩
      | exact ⟨rfl,congrArg Value.bool (AWv λhh=>by have:=hh.2.2 a b AGp AGp;omega)⟩
      | exact ⟨rfl,congrArg Value.bool<|AZi ⟨⟨AGp,AGp⟩,hrows,λx y hx hy=>hall x y AGp hy⟩⟩
    ·refine AGx<|ATw rfl (AG5<|q_b<|q_t<|ATd<|Aci rfl AGp (AGq<|AGx ?_));exact ⟨M.length - (i + 1),i + 1,AGp,⟨rfl,rfl,AGp,λj hj Af=>by rcases Nat.lt_succ_iff_lt_or_eq.1 Af with q | rfl;exact hrow j hj q;omega⟩,rfl,trivial⟩
   ·refine AGx<|AGv<|ATw rfl (ATj<|ATk<|ATk<|AUh<|q_t<|AGv<|AGv ?_);have hrows:∀ z∈M,z.length=M.length:=λz hz=>by obtain ⟨j,hj,rfl⟩:=List.getElem_of_mem hz;exact hrow j hj AGp
    have Aa:Mat h v (tab M.length M.length<|ent M):=(Az0 hrows) ▸ HM;refine ATd<|AGq<|Aqj ATg rfl Aa ?_;rw [AUe];refine AGq<|AGx<|AGw<|AW9 4611686016279905220 (λa:Nat=>[(31,.int .i64 (a:Int))]) (λk a h'=>h'=h/\k=M.length - a/\a<=M.length/\ ∀ x y,x < a->y < M.length->ent M x y=ent M y x/\ -262144 < ent M x y/\ent M x y < 262144) AG3 M.length 0 ?_ ⟨rfl,trivial⟩ ?_
    ·exact ⟨rfl,rfl,Nat.zero_le _,λx y hx=>by omega⟩
    rintro k a s2 h ⟨rfl,rfl,ha,hall⟩;refine AGt<|AXh rfl rfl (λAg=>?_) (λAg=>?_)
    ·refine AGx<|AGv<|AT0 rfl (AG5<|q_t<|AGv<|AGw<|AGt<|AGq<|Am7 ATg rfl Aa rfl (Abt AGp) λaS rS haS hrS=>AT2 ATq rfl haS (ATu<|AT5<|AGq<|A47 ATe rfl hrS ?_));rw [List.length_map,List.length_range];refine AGq<|AGx<|AGw<|AW9 2305842734335787780 (λb:Nat=>[(38,.int .i64 (b:Int))]) (λk b h'=>h'=h/\k=M.length - b/\b<=M.length/\ ∀ y,y < b->ent M a y=ent M y a/\ -262144 < ent M a y/\ent M a y < 262144) AG3 M.length 0 ?_ ⟨rfl,trivial⟩ ?_
     ·exact ⟨rfl,rfl,Nat.zero_le _,λy hy=>by omega⟩
     rintro k b s3 h ⟨rfl,rfl,hb,hrw⟩;refine AGt<|AXh rfl rfl (λAh=>?_) (λAh=>?_)
     ·refine AGx<|AGv<|AT0 rfl (AG5<|q_t<|AGv<|AGw<|AGt<|AGq<|Ak8 ATe rfl hrS rfl (Adw AGp) λAq Ai=>AT2 ATh rfl Ai (ATu<|AT5<|AGq<|AGq<|AGq<|Am7 ATg rfl Aa rfl (Abt AGp) λaT rT haT hrT=>?_));refine AT2 ATq rfl haT (AGq<|Ak8 ATe rfl hrT rfl (Adw AGp) λAr Aj=>AT2 ATh rfl Aj (Axo rfl rfl (λAk=>?_) (λAk=>?_)))
      ·refine AGq (AUl 52 true AG3 rfl rfl (AUl 52 true AG3 rfl rfl (ATp rfl (AGq<|AUl 56 true AG3 rfl rfl (AUl 56 true AG3 rfl rfl (ATp rfl (AGx<|AT0 rfl (AGt<|AG1<|AG6<|AUq<|ATm<|ATm<|AUq<|AUq<|ATm<|ATm<|AUq<|ATm<|⟨_,AS9,?_⟩))))))))
       first
        | exact ⟨rfl,congrArg Value.bool (AWv λhh=>by have:=hh.1;omega)⟩
        | exact ⟨rfl,congrArg Value.bool (AWv λhh=>by have:=hh.2.1 M[i]<|List.getElem_mem _;omega)⟩
        | exact ⟨rfl,congrArg Value.bool (AWv λhh=>by have:=hh.2.2 a b AGp AGp;omega)⟩
        | exact ⟨rfl,congrArg Value.bool<|AZi ⟨⟨AGp,AGp⟩,hrows,λx y hx hy=>hall x y AGp hy⟩⟩
      ·refine AGq<|AUs 52 false AG3 rfl rfl (AGq<|AUs 52 false AG3 rfl rfl (Ak6 rfl rfl (λAm=>?_) (λAm=>?_)))
       ·refine ATs rfl (AGq<|AUl 56 true AG3 rfl rfl (AUl 56 true AG3 rfl rfl (ATp rfl (AGx<|AT0 rfl (AGt<|AG1<|AG6<|AUq<|ATm<|ATm<|AUq<|AUq<|ATm<|ATm<|AUq<|ATm<|⟨_,AS9,?_⟩)))))
        first
         | exact ⟨rfl,congrArg Value.bool (AWv λhh=>by have:=hh.1;omega)⟩
         | exact ⟨rfl,congrArg Value.bool (AWv λhh=>by have:=hh.2.1 M[i]<|List.getElem_mem _;omega)⟩
         | exact ⟨rfl,congrArg Value.bool (AWv λhh=>by have:=hh.2.2 a b AGp AGp;omega)⟩
         | exact ⟨rfl,congrArg Value.bool<|AZi ⟨⟨AGp,AGp⟩,hrows,λx y hx hy=>hall x y AGp hy⟩⟩
       ·refine ATs rfl (AGq<|AUs 56 false AG3 rfl rfl (AGq<|AUs 56 false AG3 rfl rfl (Am6 rfl rfl (λAo=>?_) (λAo=>?_))))
        ·refine ATs rfl (AGx<|AT0 rfl (AGt<|AG1<|AG6<|AUq<|ATm<|ATm<|AUq<|AUq<|ATm<|ATm<|AUq<|ATm<|⟨_,AS9,?_⟩))
         first
          | exact ⟨rfl,congrArg Value.bool (AWv λhh=>by have:=hh.1;omega)⟩
          | exact ⟨rfl,congrArg Value.bool (AWv λhh=>by have:=hh.2.1 M[i]<|List.getElem_mem _;omega)⟩
          | exact ⟨rfl,congrArg Value.bool (AWv λhh=>by have:=hh.2.2 a b AGp AGp;omega)⟩
          | exact ⟨rfl,congrArg Value.bool<|AZi ⟨⟨AGp,AGp⟩,hrows,λx y hx hy=>hall x y AGp hy⟩⟩
        ·refine ATs rfl (AGx<|ATw rfl (AG5<|q_b<|q_t<|ATd<|Aci rfl AGp (AGq<|AGx ?_)));exact ⟨M.length - (b + 1),b + 1,AGp,⟨rfl,rfl,AGp,λy hy=>by rcases Nat.lt_succ_iff_lt_or_eq.1 hy with q | rfl;exact hrw y q;exact ⟨AGp,AGp,AGp⟩⟩,rfl,trivial⟩
     ·refine AGx<|AGv<|ATw rfl (ATj<|ATk<|ATk<|AUh<|q_b<|q_t<|ATd<|Aci rfl AGp (AGq<|AGx ?_));exact ⟨M.length - (a + 1),a + 1,AGp,⟨rfl,rfl,AGp,λx y hx hy=>by rcases Nat.lt_succ_iff_lt_or_eq.1 hx with q | rfl;exact hall x y q hy;exact hrw y AGp⟩,rfl,trivial⟩
    ·refine AGx (AGv<|ATw rfl (ATj<|ATk<|ATk<|AUh<|q_t<|AGt<|AG1<|AG6<|⟨_,AS9,?_⟩))
     first
      | exact ⟨rfl,congrArg Value.bool (AWv λhh=>by have:=hh.1;omega)⟩
      | exact ⟨rfl,congrArg Value.bool (AWv λhh=>by have:=hh.2.1 M[i]<|List.getElem_mem _;omega)⟩
      | exact ⟨rfl,congrArg Value.bool (AWv λhh=>by have:=hh.2.2 a b AGp AGp;omega)⟩
      | exact ⟨rfl,congrArg Value.bool<|AZi ⟨⟨AGp,AGp⟩,hrows,λx y hx hy=>hall x y AGp hy⟩⟩
theorem A7g {m:Nat}:(tab m m F).drop 1=tab (m - 1) m λi j=>F (i + 1) j:=by
 refine List.ext_getElem (by simp [tab]) λi h1 h2=>?_;simp [tab,Nat.add_comm]
theorem Ati {m:Nat} (HM:Mat h v (tab m m F)) (hcap:Agu v) (hm:1<=m) (Au:m<=8) (hfit:∀ i,i < m->Abs (F i 0) 34359738368):AT3 Tryz.prog 83 #[v] h λx h'=>h'=h/\x= .bool (decide (Aiw m F)):=by
 refine AUd (l:=[_]) mx Tryz.func83 rfl rfl rfl rfl rfl AG3 (AGt<|AT5<|AGq<|Am7 (n:=0) ATg rfl HM rfl (Abt AGp) λAv Aw Ad Ae=>AT2 ATq rfl Ad (Ak8 (n:=0) ATe rfl Ae rfl (Adw AGp) λAx Af=>AT2 ATh rfl Af (AG1<|AGv<|AGt<|AGq<|Ak6 rfl rfl (λAg=>?_) (λAg=>?_))))
 ·refine AGq (AUl 13 true AG3 rfl rfl (AUl 13 true AG3 rfl rfl (ATp rfl (AGx<|AT0 rfl (AGt<|AG1<|AG6<|ATm<|⟨_,AS9,?_⟩)))))
  first
   | exact ⟨rfl,congrArg Value.bool (decide_eq_false (λhh=>by have:=hh.1;omega)).symm⟩
   | exact ⟨rfl,congrArg Value.bool (decide_eq_false (λhh=>by have:=hh.2 (i + 1) AGp AGp;omega)).symm⟩
   | exact ⟨rfl,congrArg Value.bool (decide_eq_true ⟨⟨AGp,AGp⟩,λj h1 h2=>hall j h1 AGp⟩).symm⟩
 ·refine AGq<|AUs 13 false AG3 rfl rfl (AGq<|AUs 13 false AG3 rfl rfl (Am6 rfl rfl (λAh=>?_) (λAh=>?_)))
  ·refine ATs rfl (AGx<|AT0 rfl (AGt<|AG1<|AG6<|ATm<|⟨_,AS9,?_⟩))
   first
    | exact ⟨rfl,congrArg Value.bool (decide_eq_false (λhh=>by have:=hh.1;omega)).symm⟩
    | exact ⟨rfl,congrArg Value.bool (decide_eq_false (λhh=>by have:=hh.2 (i + 1) AGp AGp;omega)).symm⟩
    | exact ⟨rfl,congrArg Value.bool (decide_eq_true ⟨⟨AGp,AGp⟩,λj h1 h2=>hall j h1 AGp⟩).symm⟩
  ·refine ATs rfl (AGx<|ATw rfl (AG5<|q_t<|AGv<|AGt<|AGq<|A3p (k:=1) ATg rfl HM hcap rfl (by rw [AUe];omega) λv1 Ai Ay=>?_));have HD:Mat h v1 (tab (m - 1) m λi j=>F (i + 1) j):=A7g (m:=m) ▸ Ai;refine Aqj ATg rfl HD ?_;rw [AUe];refine AGq<|AGx<|AGw<|AW9 549754765348 (λi:Nat=>[(20,.int .i64 (i:Int))]) (λk i h'=>h'=h/\k=m - 1 - i/\i<=m - 1/\ ∀ j,1<=j->j < i + 1->2 * F j 0<=F 0 0/\ -2 * F j 0<=F 0 0) AG3 (m - 1) 0 ?_ ⟨rfl,trivial⟩ ?_
   ·exact ⟨rfl,rfl,Nat.zero_le _,λj h1 h2=>by omega⟩
   rintro k i s1 h ⟨rfl,rfl,hi,hall⟩;refine AGt<|AXh rfl rfl (λAj=>?_) (λAj=>?_)
   ·refine AGx<|AGv<|AT0 rfl (AG5<|q_t<|AGv<|AGw<|AGt<|Am7 ATg rfl HD rfl (Abt AGp) λAz A3 Ak Ac=>AT2 ATq rfl Ak (AG1<|AGv ?_));have Am:=hfit (i + 1) AGp;unfold Abs at Am;refine ATd<|AGq<|Ak8 (n:=0) ATe rfl Ac rfl (Adw AGp) λA4 Ao=>AT2 ATh rfl Ao (Agp rfl rfl AGp AGp (AGq<|Ajg rfl rfl (λAp=>?_) (λAp=>?_)))
    ·refine AGq (AUl 30 true AG3 rfl rfl (AUl 30 true AG3 rfl rfl (AUl 30 true AG3 rfl rfl (AUl 30 true AG3 rfl rfl (AUl 30 true AG3 rfl rfl (AUl 30 true AG3 rfl rfl (ATp rfl (AGx<|AT0 rfl (AGt<|AG1<|AG6<|AUq<|ATm<|ATm<|AUq<|ATm<|⟨_,AS9,?_⟩)))))))))
     first
      | exact ⟨rfl,congrArg Value.bool (decide_eq_false (λhh=>by have:=hh.1;omega)).symm⟩
      | exact ⟨rfl,congrArg Value.bool (decide_eq_false (λhh=>by have:=hh.2 (i + 1) AGp AGp;omega)).symm⟩
      | exact ⟨rfl,congrArg Value.bool (decide_eq_true ⟨⟨AGp,AGp⟩,λj h1 h2=>hall j h1 AGp⟩).symm⟩
    ·refine AGq<|AUs 30 false AG3 rfl rfl (AGq<|AUs 30 false AG3 rfl rfl (Ak8 (n:=0) ATe rfl Ac rfl (Adw AGp) λA5 Aq=>AUs 30 false AG3 rfl rfl (AT2 ATh rfl Aq (AUs 30 false AG3 rfl rfl (Agp rfl rfl AGp AGp (AUs 30 false AG3 rfl rfl (AGq<|AUs 30 false AG3 rfl rfl (Ajg rfl rfl (λAr=>?_) (λAr=>?_)))))))))
     ·refine ATs rfl (AGx<|AT0 rfl (AGt<|AG1<|AG6<|AUq<|ATm<|ATm<|AUq<|ATm<|⟨_,AS9,?_⟩))
      first
       | exact ⟨rfl,congrArg Value.bool (decide_eq_false (λhh=>by have:=hh.1;omega)).symm⟩
       | exact ⟨rfl,congrArg Value.bool (decide_eq_false (λhh=>by have:=hh.2 (i + 1) AGp AGp;omega)).symm⟩
       | exact ⟨rfl,congrArg Value.bool (decide_eq_true ⟨⟨AGp,AGp⟩,λj h1 h2=>hall j h1 AGp⟩).symm⟩
     ·refine ATs rfl (AGx<|ATw rfl (AG5<|q_b<|q_t<|ATd<|Aci rfl AGp (AGq<|AGx ?_)));exact ⟨m - 1 - (i + 1),i + 1,AGp,⟨rfl,rfl,AGp,λj h1 h2=>by rcases Nat.lt_succ_iff_lt_or_eq.1 h2 with q | rfl;exact hall j h1 q;exact ⟨AGp,AGp⟩⟩,rfl,trivial⟩
   ·refine AGx (AGv<|ATw rfl (ATj<|ATk<|ATk<|AUh<|q_t<|AGt<|AG1<|AG6<|⟨_,AS9,?_⟩))
    first
     | exact ⟨rfl,congrArg Value.bool (decide_eq_false (λhh=>by have:=hh.1;omega)).symm⟩
     | exact ⟨rfl,congrArg Value.bool (decide_eq_false (λhh=>by have:=hh.2 (i + 1) AGp AGp;omega)).symm⟩
     | exact ⟨rfl,congrArg Value.bool (decide_eq_true ⟨⟨AGp,AGp⟩,λj h1 h2=>hall j h1 AGp⟩).symm⟩
theorem Awc (HM:Mat h v M) (hcap:Agu v):AT3 Tryz.prog 41 #[v] h λx h'=>Ext h h'/\x= .bool (isRed M):=by
 refine AUd (l:=[_]) mx Tryz.func41 rfl rfl rfl rfl rfl AG3 (AGt<|AG1<|AGv<|AGt<|AGq<|ATl trivial rfl (A0r HM) λx1 h hk=>?_);obtain ⟨rfl,rfl⟩:=hk;refine ⟨trivial,?_⟩;cases Au:Aee M
 ·refine AXb rfl (AGx<|AT0 rfl (AGt<|AG1<|AG6<|ATm<|⟨_,AS9,?_⟩))
  first
   | exact ⟨(Ext.refl _),congrArg Value.bool (show false=isRed M by unfold isRed;rw [show Aee M=false by assumption];rfl)⟩
   | exact ⟨(Ext.refl _),congrArg Value.bool (show false=isRed M by unfold isRed;rw [hred,Ah0 AGp<|of_decide_eq_false (by assumption),Bool.and_false])⟩
   | exact ⟨(Ext.refl _),congrArg Value.bool (show false=isRed M by unfold isRed;rw [hred,Ali AGp (by unfold Aoq;omega),Bool.and_false])⟩
   | (obtain rfl:m=1:=by omega
      first
      | exact ⟨(Ext.refl _),congrArg Value.bool (show true=isRed M by unfold isRed;rw [hred,<- AZi hsm,Aix,decide_eq_true ⟨AGp,AGp⟩];rfl)⟩
      | exact ⟨(Ext.refl _),congrArg Value.bool (show false=isRed M by unfold isRed;rw [hred,Aix,decide_eq_false AGp,Bool.and_false])⟩)
 ·refine AXb rfl (AGx<|ATw rfl (AG5<|q_t<|AGt<|AGq<|AT5<|AG1<|AGv<|AGw ?_));have hsm:=Ath Au;have Av:=A4b hsm;have Aw:Mat h v (tab M.length M.length<|ent M):=(Az0 hsm.2.1) ▸ HM;refine AW9 20282409603651670423947251255292 (λy:Nat × Value × Int × (ATa)=>[(3,y.2.1),(4,.int .i64 y.2.2.1)]) (λk y h'=>y.1=k/\Ext h h'/\1<=y.1/\y.1<=M.length/\Mat h' y.2.1 (tab y.1 y.1 y.2.2.2)/\Agu y.2.1/\Stg y.1 y.2.2.2 y.2.2.1 (262144 + 16384 * (M.length - y.1))/\Aix M.length (ent M) 1=Aix y.1 y.2.2.2 y.2.2.1) AG3 M.length (M.length,v,1,ent M) ?_ ⟨rfl,rfl,trivial⟩ ?_
  ·exact ⟨rfl,Ext.refl _,hsm.1.1,Nat.le_refl _,Aw,hcap,by have e0:(262144 + 16384 * ((M.length:Int) - (M.length:Int)))=262144:=AGp;rw [e0];exact Av,rfl⟩
  rintro k ⟨m,vs,last,F⟩ s1 hq ⟨rfl,XQ,Ay,hmn,HS,Aj,hstg,hred⟩;dsimp only at Ay hmn HS Aj hstg hred ⊢;have h8:=hsm.1.2;have B8:=hstg.l1;have B9:=hstg.l2;have szq:=XQ.1;refine AGv<|AGt<|AGq<|Aqj ATg rfl HS ?_;rw [AUe];refine Ajg rfl rfl (λAz=>?_) (λAz=>?_)
  ·refine AGx<|AT0 rfl (AG5<|q_t<|AGw<|AGt<|AGq<|Am7 (n:=0) ATg rfl HS rfl (Abt AGp) λCa Cb A3 A4=>AT2 ATq rfl A3 (Ak8 (n:=0) ATe rfl A4 rfl (Adw AGp) λCd A5=>AT2 ATh rfl A5 (AG1<|AGv<|AGt<|AGq<|ATl trivial rfl (Ati HS Aj AGp AGp λi hi=>Ar4 hstg AGp AGp hi AGp) λx4 hq hk=>?_)));obtain ⟨rfl,rfl⟩:=hk;refine ⟨trivial,?_⟩;cases Cf:decide (Aiw m F)
   ·refine AXb rfl (AGx<|AT0 rfl (AGt<|AG1<|AG6<|ATm<|AUq<|ATm<|AUq<|ATm<|⟨_,AS9,?_⟩))
    first
     | exact ⟨XQ,congrArg Value.bool (show false=isRed M by unfold isRed;rw [show Aee M=false by assumption];rfl)⟩
     | exact ⟨XQ,congrArg Value.bool (show false=isRed M by unfold isRed;rw [hred,Ah0 AGp<|of_decide_eq_false (by assumption),Bool.and_false])⟩
     | exact ⟨XQ,congrArg Value.bool (show false=isRed M by unfold isRed;rw [hred,Ali AGp (by unfold Aoq;omega),Bool.and_false])⟩
     | (obtain rfl:m=1:=by omega
        first
        | exact ⟨XQ,congrArg Value.bool (show true=isRed M by unfold isRed;rw [hred,<- AZi hsm,Aix,decide_eq_true ⟨AGp,AGp⟩];rfl)⟩
        | exact ⟨XQ,congrArg Value.bool (show false=isRed M by unfold isRed;rw [hred,Aix,decide_eq_false AGp,Bool.and_false])⟩)
   ·refine AXb rfl (AGx<|ATw rfl (AG5<|q_t<|AGt<|AGq<|Aqj ATg rfl HS ?_));rw [AUe];have hsh:Aiw m F:=of_decide_eq_true (by assumption);refine Ae9 rfl rfl AGp AGp ?_;rw [show ((m:Nat):Int) - 1=((m - 1:Nat):Int) by omega];refine BFs (ei:=tI) ATg Afb (λ_=>trivial) rfl rfl AGr AGp λb2 v2 h2 Ak E2 Ch hl2b=>?_;have Ci:=E2.1;have Z6:=(Ext.refl hq).trans E2;have X7:=XQ.trans E2;have HS_8:=HS.ext E2;refine AG1<|AGv<|AGt<|AGq<|Az2 ATg rfl Ak.1 (AGq<|AGx<|AGw<|AW9 1208925819614624879739776 (λi:Nat=>[(32,.int .i64 (i:Int))]) (λk i h'=>k=m - 1 - i/\i<=m - 1/\Ext hq h'/\ ∃ gs,Aid h' tR tI (Array.size hq) b2 gs v2 (m - 1)<|(List.range i).map (λi=>(List.range<|m - 1).map λj=>Aj9 F last i j)) AG3 (m - 1) 0 ?_ ⟨rfl,trivial⟩ ?_)
    ·exact ⟨rfl,Nat.zero_le _,E2,[],Ak⟩
    rintro k i s2 h3 ⟨rfl,hi,E3,gs,HP⟩;have X9:=XQ.trans E3;have Cm:=E3.1;have HS_11:=HS.ext E3;refine AGt<|AXh rfl rfl (λA7=>?_) (λA7=>?_)
    ·refine AGx<|AGv<|AT0 rfl (AG5<|q_t<|AGv<|AGw<|AGt<|AGq<|AT5<|AGq<|AGq<|Aci rfl AGp (BC4 ATg rfl HS E3 rfl (Abt AGp) λaR rR haR hrR=>AT2 ATq rfl haR (AG1 ?_)));refine AGt<|AGq<|AGq<|AGq<|Az2 ATg rfl HP.1 (BFt ATe Acr (λ_=>trivial) rfl rfl AGr AGp λg4 v4 h4 A8 E4 Co Cp=>?_);have Cq:=E4.1;have A9:=E3.trans E4;have Ba:=X9.trans E4;have HS_15:=HS_11.ext E4;have HP_16:=HP.ext E4;refine A9n ATg rfl HP_16 rfl AGp ?_;have hglt:=HP.1.lt;have hblo:=HP.2 b2<|List.mem_cons_self ..;refine A9o ATq rfl rfl HP_16 AT6 AGp A8 (λhc=>by have:=hglt _ hc;omega) AGp λh4b HPb U4=>?_;have Cr:=U4.1;have Ct:=Ba.thenUpd U4 (λk hk=>by have Ah:k=b2:=hk;omega);have Ao:=A9.thenUpd U4 (λk hk=>by have Ah:k=b2:=hk;omega);have HS_20:=HS.ext Ao;refine AZr<|AGq<|Az2 ATg rfl HPb.1 (AGq<|AGx<|AGw<|AW9 604462909525839610642944 (λj:Nat=>[(48,.int .i64 (j:Int))]) (λk j h'=>k=m - 1 - j/\j<=m - 1/\Ext hq h'/\Aid h' tR tI (Array.size hq) b2 (gs ++ [g4]) v2 (m - 1) ((List.range i).map (λi=>(List.range<|m - 1).map λj=>Aj9 F last i j) ++ [Arp (m - 1) (Aj9 F last i) (λ_=>0) j])) AG3 (m - 1) 0 ?_ ⟨rfl,trivial⟩ ?_)
     ·exact ⟨rfl,Nat.zero_le _,Ao,by rw [A3k,A3l];exact HPb⟩
     rintro k j s3 h5 ⟨rfl,hj,E5,HQ⟩;have Bb:=XQ.trans E5;have Cw:=E5.1;have HS_23:=HS.ext E5;refine AGt<|AXh rfl rfl (λBc=>?_) (λBc=>?_)
     ·refine AGx<|AGv<|AT0 rfl (AG5<|q_t<|AGv<|AGw<|AGt<|AGq<|AG1 ?_);have hd:=hsh.1;have hfit:=λi j hi hj=>Ar4 hstg AGp AGp (i:=i) (j:=j) hi hj;have q1:=Aod (a:=65535) (b:=34359738368) (x:=F 0 0) (y:=F (i + 1)<|j + 1) ⟨AGp,AGp⟩<|hfit _ _ AGp AGp;have q2:=hsh.2 (i + 1) AGp AGp;have q3:=hsh.2 (j + 1) AGp AGp;rw [<- hstg.sym 0 (j + 1) AGp AGp] at q3;have q4:=Aod (a:=32768) (b:=32768) (x:=F (i + 1) 0) (y:=F 0<|j + 1) ⟨AGp,AGp⟩ ⟨AGp,AGp⟩;unfold Abs at q1 q4;refine Ajf AG3<|AGq<|AGq<|BFu ATg rfl HQ rfl (Axt AT6) λaQ rQ gQ haQ hgQ hrQ=>?_;refine AT2 ATq rfl haQ (AGq<|AGq<|AGq<|AGq<|Aci rfl AGp (Ak8 ATe rfl (hrR.ext E5) rfl (Adw AGp) λCx Bi=>AT2 ATh rfl Bi (Agp rfl rfl AGp AGp (AGq<|Ak8 (n:=0) ATe rfl (hrR.ext E5) rfl (Adw AGp) λCy Bj=>AT2 ATh rfl Bj (AGq<|Am7 (n:=0) ATg rfl HS_23 rfl (Abt AGp) λaZ rZ haZ hrZ=>AT2 ATq rfl haZ (AGq<|Aci rfl AGp (Ak8 ATe rfl hrZ rfl (Adw AGp) λCz Bl=>AT2 ATh rfl Bl (Agp rfl rfl AGp AGp (Ae9 rfl rfl AGp AGp (AGq<|Aui rfl rfl AGp ?_))))))))));have hnf:=Ar4 (Ayp (m:=m - 1) (by rw [show m - 1 + 1=m by omega];exact hstg) AGp (by rw [show m - 1 + 1=m by omega];exact hsh)) AGp AGp (i:=i) (j:=j) AGp AGp;unfold Abs at hnf;rw [show IntKind.i64.wrap ((F 0 0 * F (i + 1) (j + 1) - F (i + 1) 0 * F 0 (j + 1)).tdiv last)=Aj9 F last i j from Go.QF.wrap_small (by have:(F 0 0 * F (i + 1) (j + 1) - F (i + 1) 0 * F 0 (j + 1)).tdiv last=Aj9 F last i j:=rfl;omega) (by have:(F 0 0 * F (i + 1) (j + 1) - F (i + 1) 0 * F 0 (j + 1)).tdiv last=Aj9 F last i j:=rfl;omega)];refine Ak5 ATe rfl hrQ rfl (by rw [List.length_map,Am8];omega) ?_;refine A9p (Arp (m - 1) (Aj9 F last i) (λ_=>0)<|j + 1) ATh rfl rfl HQ hgQ (Axt AT6) hrQ (by rw [Am8];omega) (A5g AGp rfl) λh6 Bm U6 C1=>?_;have C2:=U6.1;have C3:=Bb.thenUpd U6 (λk hk=>by have Ah:k=gQ:=hk;omega);have Ap:=E5.thenUpd U6 (λk hk=>by have Ah:k=gQ:=hk;omega);have HS_30:=HS.ext Ap;have Aq:=Bm;rw [A5l AT6] at Aq;refine ATr<|q_b<|q_t<|ATd<|Aci rfl AGp (AGq<|AGx ?_);exact ⟨m - 1 - (j + 1),j + 1,AGp,⟨rfl,AGp,Ap,Aq⟩,rfl,trivial⟩
     ·refine AGx<|AGv<|ATw rfl (ATj<|ATk<|ATk<|AUh<|q_b<|q_t<|ATd<|Aci rfl AGp (AGq<|AGx ?_));exact ⟨m - 1 - (i + 1),i + 1,AGp,⟨rfl,AGp,E5,gs ++ [g4],by rw [A5f _ _ AGp] at HQ;rw [<- Az1];exact HQ⟩,rfl,trivial⟩
    ·refine AGx<|AGv<|ATw rfl (ATj<|ATk<|ATk<|AUh<|q_t<|AGv ?_);obtain rfl:i=m - 1:=by omega
     have Ar:Aid h3 tR tI (Array.size hq) b2 gs v2 (tab (m - 1) (m - 1)<|Aj9 F last).length (tab (m - 1) (m - 1)<|Aj9 F last):=by rw [AUe];exact HP
     have HN:=Ar.mat;have hcapn:=Ar.cap;have Bn:=Ayp (m:=m - 1) (by rw [show m - 1 + 1=m by omega];exact hstg) AGp (by rw [show m - 1 + 1=m by omega];exact hsh);have hnx:Stg (m - 1) (Aj9 F last) (F 0 0) (262144 + 16384 * (M.length - ((m - 1:Nat):Int))):=by rw [show (262144 + 16384 * ((M.length:Int) - ((m - 1:Nat):Int)))=262144 + 16384 * ((M.length:Int) - (m:Int)) + 16384 by omega];exact Bn
     refine ATd<|AGq<|Am7 (n:=1) ATg rfl HS_11 rfl (Abt AGp) λC4 C5 Bo Bp=>AT2 ATq rfl Bo (Ak8 (n:=0) ATe rfl Bp rfl (Adw AGp) λC6 Bq=>AT2 ATh rfl Bq (AG1<|AGv<|AGv ?_));have hd:=hsh.1;have hnf:=Ar4 hnx AGp AGp (i:=0) (j:=0) AGp AGp;have q5:=Aod (a:=65535) (b:=34359738368) (x:=last) (y:=Aj9 F last 0 0) ⟨AGp,AGp⟩ hnf;have q2:=hsh.2 1 AGp AGp;have q6:=Aod (a:=32768) (b:=32768) (x:=F 1 0) (y:=F 1 0) ⟨AGp,AGp⟩ ⟨AGp,AGp⟩;have q7:=Ao3 (a:=3 * F 0 0) (b:=F 0 0) (A:=196605) (B:=65535) AGp AGp AGp AGp;unfold Abs at q5 q6;refine ATd<|AGq<|AGq<|Am7 (n:=0) ATg rfl HN rfl (Abt AGp) λaN rN haN hrN=>AT2 ATq rfl haN (Ak8 (n:=0) ATe rfl hrN rfl (Adw AGp) λaO haO=>AT2 ATh rfl haO (Agp rfl rfl AGp AGp (AGq<|AGq<|Agp rfl rfl AGp AGp (Asg rfl rfl AGp AGp (Agp rfl rfl AGp AGp (AGq<|Agp rfl rfl AGp AGp (AGq<|Agp rfl rfl AGp AGp (AXh rfl rfl (λBu=>?_) (λBu=>?_)))))))))
     ·refine AGx (AT0 rfl (AGt<|AG1<|AG6<|ATm<|AUq<|ATm<|AUq<|ATm<|⟨_,AS9,?_⟩))
      first
       | exact ⟨X9,congrArg Value.bool (show false=isRed M by unfold isRed;rw [show Aee M=false by assumption];rfl)⟩
       | exact ⟨X9,congrArg Value.bool (show false=isRed M by unfold isRed;rw [hred,Ah0 AGp<|of_decide_eq_false (by assumption),Bool.and_false])⟩
       | exact ⟨X9,congrArg Value.bool (show false=isRed M by unfold isRed;rw [hred,Ali AGp (by unfold Aoq;omega),Bool.and_false])⟩
       | (obtain rfl:m=1:=by omega
          first
          | exact ⟨X9,congrArg Value.bool (show true=isRed M by unfold isRed;rw [hred,<- AZi hsm,Aix,decide_eq_true ⟨AGp,AGp⟩];rfl)⟩
          | exact ⟨X9,congrArg Value.bool (show false=isRed M by unfold isRed;rw [hred,Aix,decide_eq_false AGp,Bool.and_false])⟩)
     ·refine AGx<|ATw rfl (AG5<|q_t ?_);have hlov:Aoq F last:=by unfold Aoq;omega
      have hredn:=A4c (last:=last) AGp hsh hlov;refine ATd<|AGq<|AGq<|ATu<|ATu<|ATr<|q_b<|q_t ?_;exact ⟨m - 1,(m - 1,v2,F 0 0,Aj9 F last),by first | omega | (dsimp only;omega),⟨rfl,X9,by first | omega | (dsimp only;omega),by first | omega | (dsimp only;omega),HN,hcapn,hnx,by rw [hred,hredn]⟩,rfl,rfl,trivial⟩
  ·refine AGx<|ATw rfl (ATj<|ATk<|ATk<|AUh<|q_t<|AGt<|AGq<|Am7 (n:=0) ATg rfl HS rfl (Abt AGp) λC8 C9 Bv Bw=>AT2 ATq rfl Bv (Ak8 (n:=0) ATe rfl Bw rfl (Adw AGp) λDa Bx=>AT2 ATh rfl Bx (Ajg rfl rfl (λBy=>?_) (λBy=>?_))))
   ·refine AGq<|AUs 110 true AG3 rfl rfl (AGq<|AUs 110 true AG3 rfl rfl (Am7 (n:=0) ATg rfl HS rfl (Abt AGp) λDb Dc Bz B3=>AUs 110 true AG3 rfl rfl (AT2 ATq rfl Bz (AUs 110 true AG3 rfl rfl (Ak8 (n:=0) ATe rfl B3 rfl (Adw AGp) λDd B4=>AUs 110 true AG3 rfl rfl (AT2 ATh rfl B4 (AUs 110 true AG3 rfl rfl (Ak6 rfl rfl (λB5=>?_) (λB5=>?_)))))))))
    ·refine ATp rfl (AG1<|AG6<|⟨_,AS9,?_⟩)
     first
      | exact ⟨XQ,congrArg Value.bool (show false=isRed M by unfold isRed;rw [show Aee M=false by assumption];rfl)⟩
      | exact ⟨XQ,congrArg Value.bool (show false=isRed M by unfold isRed;rw [hred,Ah0 AGp<|of_decide_eq_false (by assumption),Bool.and_false])⟩
      | exact ⟨XQ,congrArg Value.bool (show false=isRed M by unfold isRed;rw [hred,Ali AGp (by unfold Aoq;omega),Bool.and_false])⟩
      | (obtain rfl:m=1:=by omega
         first
         | exact ⟨XQ,congrArg Value.bool (show true=isRed M by unfold isRed;rw [hred,<- AZi hsm,Aix,decide_eq_true ⟨AGp,AGp⟩];rfl)⟩
         | exact ⟨XQ,congrArg Value.bool (show false=isRed M by unfold isRed;rw [hred,Aix,decide_eq_false AGp,Bool.and_false])⟩)
    ·refine ATp rfl (AG1<|AG6<|⟨_,AS9,?_⟩)
     first
      | exact ⟨XQ,congrArg Value.bool (show false=isRed M by unfold isRed;rw [show Aee M=false by assumption];rfl)⟩
      | exact ⟨XQ,congrArg Value.bool (show false=isRed M by unfold isRed;rw [hred,Ah0 AGp<|of_decide_eq_false (by assumption),Bool.and_false])⟩
      | exact ⟨XQ,congrArg Value.bool (show false=isRed M by unfold isRed;rw [hred,Ali AGp (by unfold Aoq;omega),Bool.and_false])⟩
      | (obtain rfl:m=1:=by omega
         first
         | exact ⟨XQ,congrArg Value.bool (show true=isRed M by unfold isRed;rw [hred,<- AZi hsm,Aix,decide_eq_true ⟨AGp,AGp⟩];rfl)⟩
         | exact ⟨XQ,congrArg Value.bool (show false=isRed M by unfold isRed;rw [hred,Aix,decide_eq_false AGp,Bool.and_false])⟩)
   ·refine AGq (AUl 110 false AG3 rfl rfl (AUl 110 false AG3 rfl rfl (AUl 110 false AG3 rfl rfl (AUl 110 false AG3 rfl rfl (AUl 110 false AG3 rfl rfl (AUl 110 false AG3 rfl rfl (ATs rfl (AG1<|AG6<|⟨_,AS9,?_⟩))))))))
    first
     | exact ⟨XQ,congrArg Value.bool (show false=isRed M by unfold isRed;rw [show Aee M=false by assumption];rfl)⟩
     | exact ⟨XQ,congrArg Value.bool (show false=isRed M by unfold isRed;rw [hred,Ah0 AGp<|of_decide_eq_false (by assumption),Bool.and_false])⟩
     | exact ⟨XQ,congrArg Value.bool (show false=isRed M by unfold isRed;rw [hred,Ali AGp (by unfold Aoq;omega),Bool.and_false])⟩
     | (obtain rfl:m=1:=by omega
        first
        | exact ⟨XQ,congrArg Value.bool (show true=isRed M by unfold isRed;rw [hred,<- AZi hsm,Aix,decide_eq_true ⟨AGp,AGp⟩];rfl)⟩
        | exact ⟨XQ,congrArg Value.bool (show false=isRed M by unfold isRed;rw [hred,Aix,decide_eq_false AGp,Bool.and_false])⟩)
end Go.Proofs.YtkakafabeobahaaGreatDoor
namespace Go.Proofs.YtkakafabeobahaaGreatDoor
open Go Go.QF
set_option maxRecDepth 100000
open Classical in
noncomputable def A4d (p:Int):Bool:=decide (2 < p/\p<=9973/\Pr p)
theorem Awd (h:2 < p/\p<=9973/\Pr p):true=A4d p:=by simp [A4d,h]
theorem Ano (h: ¬ (2 < p/\p<=9973/\Pr p)):false=A4d p:=by simp [A4d,h]
theorem prB {b:Bool} (h:Adb p=b) (hp:p<=9973):b=true↔Pr p:=by
 subst h;constructor
 ·intro h;exact (A3f h).2
 ·intro h;exact (Apl AGp h).symm
theorem BAt (p:Int) (HO:Aoo h):AT3 Tryz.prog 47 #[.int .i64 p] h λv h'=>h'=h/\v= .bool (A4d p):=by
 refine AUd (l:=[_]) mx Tryz.func47 rfl rfl rfl rfl rfl AG3 (AGt<|AT5<|AGq<|Ajg rfl rfl (λAa=>?_) (λAa=>?_))
 ·refine AGq<|AUs 5 true AG3 rfl rfl (AGq<|AUs 5 true AG3 rfl rfl (Ak6 rfl rfl (λAb=>?_) (λAb=>?_)))
  ·refine ATp rfl (AGq<|AUs 9 true AG3 rfl rfl (AGq<|AUs 9 true AG3 rfl rfl (ATl trivial rfl (BB6 p HO) λx1 h hk=>?_)));obtain ⟨rfl,rfl⟩:=hk;refine ⟨trivial,?_⟩;cases Ad:Adb p
   ·refine ATp rfl (AG1<|AG6<|⟨_,AS9,?_⟩)
    first
    | exact ⟨rfl,congrArg Value.bool<|Ano (λhh=>by have:=hh.1;have:=hh.2.1;omega)⟩
    | (have hq:=(prB (by assumption:Adb p=_) AGp);first | exact ⟨rfl,congrArg Value.bool<|Awd ⟨by first | omega | (have:=(hq.1 rfl).1;omega),AGp,hq.1 rfl⟩⟩ | exact ⟨rfl,congrArg Value.bool<|Ano (λhh=>by have:=hq.2 hh.2.2;cases this)⟩)
   ·refine ATp rfl (AG1<|AG6<|⟨_,AS9,?_⟩)
    first
    | exact ⟨rfl,congrArg Value.bool<|Ano (λhh=>by have:=hh.1;have:=hh.2.1;omega)⟩
    | (have hq:=(prB (by assumption:Adb p=_) AGp);first | exact ⟨rfl,congrArg Value.bool<|Awd ⟨by first | omega | (have:=(hq.1 rfl).1;omega),AGp,hq.1 rfl⟩⟩ | exact ⟨rfl,congrArg Value.bool<|Ano (λhh=>by have:=hq.2 hh.2.2;cases this)⟩)
  ·refine ATp rfl (AGq<|AUl 9 false AG3 rfl rfl (AUl 9 false AG3 rfl rfl (ATs rfl (AG1<|AG6<|⟨_,AS9,?_⟩))))
   first
   | exact ⟨rfl,congrArg Value.bool<|Ano (λhh=>by have:=hh.1;have:=hh.2.1;omega)⟩
   | (have hq:=(prB (by assumption:Adb p=_) AGp);first | exact ⟨rfl,congrArg Value.bool<|Awd ⟨by first | omega | (have:=(hq.1 rfl).1;omega),AGp,hq.1 rfl⟩⟩ | exact ⟨rfl,congrArg Value.bool<|Ano (λhh=>by have:=hq.2 hh.2.2;cases this)⟩)
 ·refine AGq (AUl 5 false AG3 rfl rfl (AUl 5 false AG3 rfl rfl (ATs rfl (AGq<|AUl 9 false AG3 rfl rfl (AUl 9 false AG3 rfl rfl (ATs rfl (AG1<|AG6<|⟨_,AS9,?_⟩)))))))
  first
  | exact ⟨rfl,congrArg Value.bool<|Ano (λhh=>by have:=hh.1;have:=hh.2.1;omega)⟩
  | (have hq:=(prB (by assumption:Adb p=_) AGp);first | exact ⟨rfl,congrArg Value.bool<|Awd ⟨by first | omega | (have:=(hq.1 rfl).1;omega),AGp,hq.1 rfl⟩⟩ | exact ⟨rfl,congrArg Value.bool<|Ano (λhh=>by have:=hq.2 hh.2.2;cases this)⟩)
open Classical in
noncomputable def Aef (p:Int):Bool:=decide (p<=9973/\Pr p)
theorem Small_ok (p:Int) (h:AG0):AT3 Tryz.prog 97 #[.int .i64 p] h λv h'=>h'=h/\v= .bool (Aef p):=by
 refine AUd (l:=[_]) mx Tryz.func97 rfl rfl rfl rfl rfl AG3 (AGt<|AT5<|AGq<|Ak6 rfl rfl (λAa=>?_) (λAa=>?_))
 ·refine AGq<|AUs 5 true AG3 rfl rfl (AGq<|AUs 5 true AG3 rfl rfl (ATl trivial rfl (A5h p _) λx1 h hk=>?_));obtain ⟨rfl,rfl⟩:=hk;refine ⟨trivial,?_⟩;cases Ac:Adb p
  ·refine ATp rfl (AG1<|AG6<|⟨_,AS9,?_⟩)
   first
   | exact ⟨rfl,congrArg Value.bool (show false=Aef p by simp [Aef];intro hh;omega)⟩
   | (have hq:=(prB (by assumption:Adb p=_) AGp);first | exact ⟨rfl,congrArg Value.bool (show true=Aef p by simp [Aef];exact ⟨AGp,hq.1 rfl⟩)⟩ | exact ⟨rfl,congrArg Value.bool (show false=Aef p by simp [Aef];intro _ hh;have:=hq.2 hh;cases this)⟩)
  ·refine ATp rfl (AG1<|AG6<|⟨_,AS9,?_⟩)
   first
   | exact ⟨rfl,congrArg Value.bool (show false=Aef p by simp [Aef];intro hh;omega)⟩
   | (have hq:=(prB (by assumption:Adb p=_) AGp);first | exact ⟨rfl,congrArg Value.bool (show true=Aef p by simp [Aef];exact ⟨AGp,hq.1 rfl⟩)⟩ | exact ⟨rfl,congrArg Value.bool (show false=Aef p by simp [Aef];intro _ hh;have:=hq.2 hh;cases this)⟩)
 ·refine AGq (AUl 5 false AG3 rfl rfl (AUl 5 false AG3 rfl rfl (ATs rfl (AG1<|AG6<|⟨_,AS9,?_⟩))))
  first
  | exact ⟨rfl,congrArg Value.bool (show false=Aef p by simp [Aef];intro hh;omega)⟩
  | (have hq:=(prB (by assumption:Adb p=_) AGp);first | exact ⟨rfl,congrArg Value.bool (show true=Aef p by simp [Aef];exact ⟨AGp,hq.1 rfl⟩)⟩ | exact ⟨rfl,congrArg Value.bool (show false=Aef p by simp [Aef];intro _ hh;have:=hq.2 hh;cases this)⟩)
end Go.Proofs.YtkakafabeobahaaGreatDoor
namespace Go.Proofs.YtkakafabeobahaaGreatDoor
open Go Go.QF
noncomputable def Alj (fuel:Nat) (M:List (List Int)):Option Bool:=some<|isRed M
theorem Atj {r:Bool} (H:AX6 (cI .i64) h v M) (hp:Alj fuel M=some r):AT3 Tryz.prog 41 #[v] h (λx h'=>Ext h h'/\x= .bool r):=by
 cases hp;exact Awc (BDx H) H.1
noncomputable def Ayq (fuel:Nat) (n:Int):Option Bool:=some<|Adb n
theorem A4e {n:Int} {r:Bool} (HO:Aoo h) (hp:Ayq fuel n=some r):AT3 Tryz.prog 92 #[.int .i64 n] h (λx h'=>Ext h h'/\x= .bool r):=by
 cases hp;exact (BB6 n HO).mono λx h' ⟨he,hx⟩=>⟨he ▸ Ext.refl _,hx⟩
noncomputable def Atk (fuel:Nat) (n:Int):Option Bool:=some<|A4d n
theorem Ayr {n:Int} {r:Bool} (HO:Aoo h) (hp:Atk fuel n=some r):AT3 Tryz.prog 47 #[.int .i64 n] h (λx h'=>Ext h h'/\x= .bool r):=by
 cases hp;exact (BAt n HO).mono λx h' ⟨he,hx⟩=>⟨he ▸ Ext.refl _,hx⟩
end Go.Proofs.YtkakafabeobahaaGreatDoor
namespace Go.Proofs.YtkakafabeobahaaGreatDoor
open Go Go.QF
set_option maxRecDepth 100000
set_option maxHeartbeats 4000000
noncomputable def Afj (fuel:Nat) (Ad:LiA) (Aa Ab Ac:Int):Option ((Int × Int × Int) ⊕ (Int × Int)):=
 if 0<=Aa then (gI Ad Aa).bind λAe=>if 0<=Aa/\Aa<=64 then (((Anl fuel Ab Ae).bind λ(Af,Ag,Ak)=>(Ate fuel Ag).bind λAh=>if ¬ Ah=0 then some (false,Ab,Ac) else some (true,Af,w64<|Ac + w64 (1 * 2 ^ Int.toNat Aa))):Option (Bool × Int × Int)).bind λ(Am,Ai,Aj)=>some (.inl (w64<|Aa - 1,Ai,Aj)) else none else some<|.inr (Ab,Ac)
noncomputable def Afk (fuel:Nat) (Aa:LiA) (Ac Ad:Int):Option ((LiA × Int × Int) ⊕ (LiA × Int × Int)):=
 (gI Aa<|w64<|(Aa.length:Int) - 1).bind λAb=>if 0<=w64 ((Aa.length:Int) - 1)/\w64 ((Aa.length:Int) - 1)<=64 then (((Anl fuel Ac Ab).bind λ(Ag,Ah,Am)=>(Ate fuel Ah).bind λAi=>if ¬ Ai=0 then some (false,Ac,Ad) else some (true,Ag,w64<|Ad + w64 (1 * 2 ^ Int.toNat (w64<|(Aa.length:Int) - 1)))):Option (Bool × Int × Int)).bind λ(Aj,Ae,Af)=>if Aj=true then (A2b fuel Ab Ab).bind λAk=>if Aa.length<=100000000 then some (.inl (Aa ++ [Ak],Ae,Af)) else none else some (.inr (Aa,Ae,Af)) else none
noncomputable def Aco (fuel:Nat) (a1 a5:Int):Option (Int × Int × Int):=
 (Ayq fuel a5).bind λAd=>if (!Ad)=true then some (0,0,20) else (Ate fuel a1).bind λAe=>if Ae=0 then some (0,0,1) else (Anm fuel a1).bind λAf=>(Ar2 fuel a5).bind λAg=>(iter (λs=>Afk fuel s.1 s.2.1 s.2.2) fuel ([Ag],Af,0)).bind (λ((Ac,Ah,Ai):LiA × Int × Int)=>(iter (λs=>Afj fuel Ac s.1 s.2.1 s.2.2) fuel (w64<|(Ac.length:Int) - 2,Ah,Ai)).bind (λ((Aj,Ak):Int × Int)=>some (Ak,Aj,0)))
theorem Anp {Bh:Value} {r:(Int × Int × Int)} (H3:ZZ h Bh a1) (HO:Aoo h) (hp:Aco fuel a1 a5=some r):AT3 Tryz.prog 96 #[Bh,(.int .i64 a5)] h (λx h'=>Ext h h'/\ ∃ (x1:Value),x= .tuple #[.int .i64 r.1,x1,.int .i64 r.2.2]/\ZZ h' x1 r.2.1):=by
 unfold Aco at hp;obtain ⟨Cj,rfl,Am⟩:=H3.cs;refine cwf (l:=[_,_]) Tryz.func96 rfl rfl (AGt<|AY5 (Kst.k0 h) Cj λb6 h7 E9 Ck=>ATu<|AV7 Ck [.bool false,.slice none 0 0] AXw λFt Fu Fv Bm=>AG1<|AGv<|AGt<|AGq ?_);obtain ⟨Fw,Cm,Bn⟩:=AGu hp;refine AYe Bm (A4e (HO.ext Bm.x) Cm) λBo Fx Aj=>AXb rfl (AGx<|⟨_,rfl,λAx=>?_,λAx=>?_⟩)
 ·refine AGt<|AWp (Aha )<|ATu<|AYs Aj p0 (ATi Bo) (ATi Bo) λBp Bq=>AG1<|AG6<|ATm ?_;obtain rfl:=AGs<|ifT Bn Ax;exact ⟨_,As6 AUi (cZ.klen<|ATi Bp) rfl (Bq.b p0),Bq.x,_,rfl,(ATi Bp).2⟩
 ·refine AG5<|q_t<|AGv<|AGt<|Adg (Aj.zx Am) (Aj.b p1) ?_;obtain ⟨Fy,Cn,Br⟩:=AGu<|Abk Bn Ax;refine AYe Aj (Ar3 (Aj.zx Am).2 Cn) λBt Fz Ak=>AV3 rfl rfl (AGx<|⟨_,rfl,λAy=>?_,λAy=>?_⟩)
  ·refine AGt<|AWp (Aha )<|ATu<|AYs Ak p0 (ATi Bt) (ATi Bt) λBu Bv=>AG1<|AG6<|ATm ?_;obtain rfl:=AGs<|AT9 Br Ay;exact ⟨_,As6 AUi (cZ.klen<|ATi Bu) rfl (Bv.b p0),Bv.x,_,rfl,(ATi Bu).2⟩
  ·refine AG5<|q_t<|AGt<|Adg (Ak.zx Am) (Ak.b p1) ?_;obtain ⟨Co,Cp,Cq⟩:=AGu<|AUa Br Ay;refine Ahc Ak (Apz (Ak.zx Am).2 Cp) λCr F4 F5 Ct=>AV7 Ct [.bool false,.slice none 0 0] AXw λAe Cu F6 Bw=>AYs Bw p0 (ATi Cu) (Bw.z p1) λF7 Cv=>AZr<|AV7 Cv [(.int .i64 0)] Ao5 λAf F8 F9 Bx=>Agd [(.int .i64 0)] AT8 rfl rfl rfl (Bx.b p0) (Nat.le_of_ble_eq_true rfl) rfl λGa Cw Cx=>AZr<|A5a rfl (AG1<|AGv ?_);refine ATd<|AGq ?_;obtain ⟨Cy,Cz,C0⟩:=AGu Cq;refine Ahc (Bx.sb p0 Cx Cw rfl) (Atf Cz) λGb Gc Gd By=>BDg AV6 AXw rfl trivial tt2 (By.z p0) rfl λC1 C2 Ge C3 C4 C5 C6=>AG1<|AGv<|AGw ?_;have Az:=(By.no C4 (AX2 C5 C6) C3).sel [0,2,3,4,5] AGr;dsimp only [AY3,Acj] at Az;refine AYl 2251799679470592 (λx:(LiA) × (Value) × LnA × (Int) × LvA × (Int)=>(x.1,x.2.2.2.1,x.2.2.2.2.2)) (([Cy],C2,[C1],Co,Cr,0):(LiA) × (Value) × LnA × (Int) × LvA × (Int)) C0 (λx=>[(10,x.2.1)]) (λx=>(((Az.L.set 0<|aO cZ 129 x.2.2.1 x.2.1 x.1).set 3 (aZ x.2.2.2.2.1 x.2.2.2.1)).set 2 (aB 129 Ae x.2.2.2.2.1)).set 1 (aB 3 Af [(.int .i64 x.2.2.2.2.2)])) Az ⟨rfl,trivial⟩ ?_;rintro ⟨Ao,Gf,Gg,C7,C8,A3⟩ Gh Gi Gj Ap Bz C9;unfold Afk at Bz;refine AGv<|AGv<|AWj<|AGq<|AGq<|AGq<|AUv AV6 rfl (Ap.o p0).rd (AVm rfl rfl ?_);obtain ⟨Gk,Aq,Da⟩:=AGu Bz;refine Ast AV6 rfl (Ap.o p0) rfl Aq λGl Db=>?_;obtain ⟨B3,Dc,Dd⟩:=(Ap.o p0).cells Db Aq;have Ar:=Ap.az Dc;refine Agg (c:=cZ) AUi rfl (Ar.z p0) (λj u hu=>(Dd j u hu)) (AGq<|AUv AV6 rfl (Ar.o p1).rd (AVm rfl rfl ?_));obtain ⟨De,Df⟩:=ifN Da;refine AZc rfl rfl De ?_;obtain ⟨Dg,Dh,B4⟩:=AGu Df;refine Art (l:=[(.agg (B3).toArray),(.int .i64<|w64<|1 * 2 ^ Int.toNat (w64<|(Ao.length:Int) - 1))]) (cl:=[(.pointer<|some ⟨Ae,0,none⟩),(.pointer<|some ⟨Af,0,none⟩)]) (K':=(λxr h'=> ∃ x:(Bool) × (Int) × LvA × (Int),(x.1,x.2.1,x.2.2.2)=Dg/\xr=(.bool x.1)/\Kst h h' (((Ar.L.set 4<|aZ x.2.2.1 x.2.1).set 3 (aB 129 Ae x.2.2.1)).set 2 (aB 3 Af [(.int .i64 x.2.2.2)])))) trivial rfl rfl ?_ λGm Gn Di=>?_
   ·refine cwf (l:=[_,_,_,_]) Tryz.func157 rfl rfl (AGt<|AY5 Ar B3 λGp Gq Gr Ab=>AT5<|Adg (Ab.z p5) (Ab.b p4)<|Adg (Ab.z p1) (Ab.b p0) ?_);obtain ⟨⟨Dj,Gt,Gu⟩,Dk,B5⟩:=AGu Dh;dsimp only at B5;refine Aes rfl (Aqy (Ab.z p5).2 (Ab.z p1).2 Dk) λGv Gw Dl Do=>?_;obtain ⟨Gx,Gy,rfl,Dp,Dq⟩:=Do;obtain ⟨Dr,rfl,Ds⟩:=Dp.cs;obtain ⟨Gz,rfl,Dt⟩:=Dq.cs;refine AGq<|AUf rfl rfl (AUf rfl rfl (AUf rfl rfl (AV7 (((Ab.e Dl).az Ds).az Dt) [.bool false,.slice none 0 0] AXw λG3 G4 G5 Du=>AV7 Du [.bool false,.slice none 0 0] AXw λG6 Dv G7 B6=>AYs B6 p1 (ATi Dv) (B6.z p3) λDw B7=>AYs B7 p0 (ATi Dw) (B7.z p2) λG8 Au=>AG1<|AGv<|AGt<|Adg (Au.z p2) (Au.b p0) ?_)));obtain ⟨G9,Dx,B8⟩:=AGu B5;refine AYe Au (Ar3 (Au.z p2).2 Dx) λHb Hc Ag=>AWk rfl rfl (AGx<|⟨_,rfl,λA4=>?_,λA4=>?_⟩)
    ·refine AGt<|AG1<|AG6<|ATm<|⟨_,AS9,((false,C7,C8,A3):(Bool) × (Int) × LvA × (Int)),?_,rfl,?_⟩
     ·exact AGs<|AT9 B8 A4
     ·exact Ag.sel [5,6,7,8,9,10] AGr
    ·refine AG5<|q_t<|AGt<|Adg (Ag.z p3) (Ag.b p1)<|AYs Ag p8 (Ag.z p9) (Ag.z p3) λHd A5=>AZr<|AT2 AT8 rfl ((A5.b p7).cell (i:=0) rfl) (AGq<|ATn rfl rfl (Agd [(.int .i64<|w64<|A3 + (w64<|1 * 2 ^ Int.toNat (w64<|(Ao.length:Int) - 1)))] AT8 rfl rfl rfl (A5.b p7) (Nat.le_of_ble_eq_true rfl) rfl λHe Dy Dz=>AZr ?_));refine AG1<|AG6<|⟨_,AS9,((true,Dj,Dr,(w64<|A3 + (w64<|1 * 2 ^ Int.toNat (w64<|(Ao.length:Int) - 1)))):(Bool) × (Int) × LvA × (Int)),?_,rfl,?_⟩
     ·exact AGs<|AUa B8 A4
     ·exact (A5.sb p7 Dz Dy rfl).sel [5,6,7,8,3,10] AGr
   obtain ⟨⟨Hf,D0,D2,D3⟩,D4,rfl,Ah⟩:=Di;refine ⟨trivial,?_⟩;subst D4;refine AGx<|⟨_,rfl,λA6=>?_,λA6=>?_⟩
   ·refine AG5<|q_t<|AGw<|AGt<|AGq<|AGq<|AUv AV6 rfl (Ah.o p1).rd (AVm rfl rfl (Ast AV6 rfl (Ah.o p1) rfl Aq λHg D5=>?_));obtain ⟨Hh,D6,D7⟩:=(Ah.o p1).cells D5 Aq;have B9:=Ah.az D6;refine Agg (c:=cZ) AUi rfl (B9.z p0) (λj u hu=>(D7 j u hu)) (AV7 B9 [.bool false,.slice none 0 0] AXw λHj D8 Hk Ca=>AYs Ca p0 (ATi D8) (Ca.z p1) λHl Ac=>AGx<|ATd<|AGq<|Adg (Ac.z p1) (Ac.b p0)<|Adg (Ac.z p1) (Ac.b p0) ?_);obtain ⟨Hm,D9,Ea⟩:=AGu<|ifT B4 A6;refine Ahc Ac (A0q (Ac.z p1).2 (Ac.z p1).2 D9) λHn Ho Hq A7=>?_;obtain ⟨Eb,Ec⟩:=ifN Ea;refine Afu AV6 AXw rfl rfl trivial tt2 (λ_=>rfl) rfl (A7.z p0) (A7.o p4) AGr Eb λHr Hs Ht Hu Ed Ee Ef=>ATu<|ATr<|q_b<|q_t ?_;exact ⟨(_,_,_,_,_,_),(AGs Ec).symm,(A7.uo p4 Ee Ed Ef).sel [4,5,6,7,8] AGr,rfl,trivial⟩
   ·refine ATj<|ATk<|ATk<|AUh<|q_t<|AGv<|AGt<|AGq<|AUv AV6 rfl (Ah.o p1).rd (AVm rfl rfl (AG1<|AGw ?_));have A8:=Ah.sel [1,2,3,4,5] AGr;dsimp only [AY3,Acj] at A8;refine AYl 73768961896328728576 (λx:(Int) × (Int) × LvA × (Int)=>(x.1,x.2.1,x.2.2.2)) (((w64<|(Ao.length:Int) - 2),D0,D2,D3):(Int) × (Int) × LvA × (Int)) (C9 _ (AGs<|Abk B4 A6).symm) (λx=>[(12,(.int .i64 x.1))]) (λx=>((A8.L.set 3<|aZ x.2.2.1 x.2.1).set 2 (aB 129 Ae x.2.2.1)).set 1 (aB 3 Af [(.int .i64 x.2.2.2)])) A8 ⟨rfl,trivial⟩ ?_;rintro ⟨A9,Eg,Eh,Ba⟩ Hv Ei Hw Aa Bb Ej;unfold Afj at Bb;refine AGv<|AGt<|AGq<|Afe rfl rfl (AGx<|⟨_,rfl,λBc=>?_,λBc=>?_⟩)
    ·refine AG5<|q_t<|AGv<|AGw<|AWj<|AGq<|AGq<|AGq ?_;obtain ⟨Hx,Cb,Ek⟩:=AGu<|AT9 Bb Bc;refine Ast AV6 rfl (Aa.o p0) rfl Cb λHy El=>?_;obtain ⟨Cd,Em,En⟩:=(Aa.o p0).cells El Cb;have Be:=Aa.az Em;refine Agg (c:=cZ) AUi rfl (Be.z p0) (λj u hu=>(En j u hu)) (AGq ?_);obtain ⟨Eo,Ep⟩:=ifN Ek;refine AZc rfl rfl Eo ?_;obtain ⟨Er,Es,Et⟩:=AGu Ep;refine Art (l:=[(.agg (Cd).toArray),(.int .i64<|w64<|1 * 2 ^ Int.toNat A9)]) (cl:=[(.pointer<|some ⟨Ae,0,none⟩),(.pointer<|some ⟨Af,0,none⟩)]) (K':=(λxr h'=> ∃ x:(Bool) × (Int) × LvA × (Int),(x.1,x.2.1,x.2.2.2)=Er/\xr=(.bool x.1)/\Kst h h' (((Be.L.set 4<|aZ x.2.2.1 x.2.1).set 3 (aB 129 Ae x.2.2.1)).set 2 (aB 3 Af [(.int .i64 x.2.2.2)])))) trivial rfl rfl ?_ λHz Ia Eu=>?_
     ·refine cwf (l:=[_,_,_,_]) Tryz.func157 rfl rfl (AGt<|AY5 Be Cd λIb Ic Id Ad=>AT5<|Adg (Ad.z p5) (Ad.b p4)<|Adg (Ad.z p1) (Ad.b p0) ?_);obtain ⟨⟨Ev,Ie,If⟩,Ew,Ce⟩:=AGu Es;dsimp only at Ce;refine Aes rfl (Aqy (Ad.z p5).2 (Ad.z p1).2 Ew) λIh Ii Ey Ez=>?_;obtain ⟨Ij,Ik,rfl,Fa,Fb⟩:=Ez;obtain ⟨Fc,rfl,Fd⟩:=Fa.cs;obtain ⟨Il,rfl,Fe⟩:=Fb.cs;refine AGq<|AUf rfl rfl (AUf rfl rfl (AUf rfl rfl (AV7 (((Ad.e Ey).az Fd).az Fe) [.bool false,.slice none 0 0] AXw λIm Io Ip Ff=>AV7 Ff [.bool false,.slice none 0 0] AXw λIq Fg Ir Cf=>AYs Cf p1 (ATi Fg) (Cf.z p3) λFh Cg=>AYs Cg p0 (ATi Fh) (Cg.z p2) λIs Av=>AG1<|AGv<|AGt<|Adg (Av.z p2) (Av.b p0) ?_)));obtain ⟨It,Fi,Ch⟩:=AGu Ce;refine AYe Av (Ar3 (Av.z p2).2 Fi) λIu Iv Ai=>AWk rfl rfl (AGx<|⟨_,rfl,λBf=>?_,λBf=>?_⟩)
      ·refine AGt<|AG1<|AG6<|ATm<|⟨_,AS9,((false,Eg,Eh,Ba):(Bool) × (Int) × LvA × (Int)),?_,rfl,?_⟩
       ·exact AGs<|AT9 Ch Bf
       ·exact Ai.sel [5,6,7,8,9,10] AGr
      ·refine AG5<|q_t<|AGt<|Adg (Ai.z p3) (Ai.b p1)<|AYs Ai p8 (Ai.z p9) (Ai.z p3) λIw Bg=>AZr<|AT2 AT8 rfl ((Bg.b p7).cell (i:=0) rfl) (AGq<|ATn rfl rfl (Agd [(.int .i64<|w64<|Ba + (w64<|1 * 2 ^ Int.toNat A9))] AT8 rfl rfl rfl (Bg.b p7) (Nat.le_of_ble_eq_true rfl) rfl λIx Fj Fk=>AZr ?_));refine AG1<|AG6<|⟨_,AS9,((true,Ev,Fc,(w64<|Ba + (w64<|1 * 2 ^ Int.toNat A9))):(Bool) × (Int) × LvA × (Int)),?_,rfl,?_⟩
       ·exact AGs<|AUa Ch Bf
       ·exact (Bg.sb p7 Fk Fj rfl).sel [5,6,7,8,3,10] AGr
     obtain ⟨⟨Iy,Iz,I0,I1⟩,Fl,rfl,Fm⟩:=Eu;refine ⟨trivial,?_⟩;subst Fl;refine ATr<|q_b<|q_t<|ATd<|AGq<|AVm rfl rfl (AG1 ?_);exact ⟨(_,_,_,_),(AGs Et).symm,Fm.sel [1,2,3,4,5] AGr,rfl,trivial⟩
    ·refine ATj<|ATk<|ATk<|AUh<|q_t<|AGv<|AWj<|AT2 AT8 rfl ((Aa.b p1).cell (i:=0) rfl) (Adg (Aa.z p3) (Aa.b p2)<|ATu<|AYs Aa p4 (ATi Ei) (Aa.z p3) λI2 Aw=>AG1<|AG6 ?_);obtain rfl:=AGs<|Ej _ (AGs<|AUa Bb Bc).symm;exact ⟨_,As6 AUi (cZ.klen<|Aw.z p3) rfl (Aw.b p4),Aw.x,_,rfl,(Aw.z p3).2⟩
noncomputable def AZj (fuel:Nat) (a3:LiI) (a5:Int):Option Int:=
 (Acn fuel a3).bind λ(x6,x7)=>(Ai7 fuel x6).bind λ(Ae,Ag)=>(Aco fuel Ae a5).bind λ(Ab,Ah,Ai)=>if a5=2 then some (w64<|Ab + 3) else some<|w64<|Ab + 1
theorem Ahq {Ad:Value} {a3:LiI} {r:Int} (H2:AX6 (cI .i64) h Ad a3) (HO:Aoo h) (hp:AZj fuel a3 a5=some r):AT3 Tryz.prog 50 #[Ad,(.int .i64 a5)] h (λx h'=>Ext h h'/\x= .int .i64 r):=by
 unfold AZj at hp;refine cwf (l:=[_,_]) Tryz.func50 rfl rfl (AGt<|AT5<|AGq ?_);have K0:=Kst.k0 h;obtain ⟨⟨x6,x7⟩,Aq,Ah⟩:=AGu hp;dsimp only at Ah;refine Aes rfl (Ann (H2.ext K0.x) Aq) λBf Bg Ar Au=>?_;obtain ⟨Bh,Bi,Bj,Bl,rfl,Av,Aw⟩:=Au;refine AGq<|AUf rfl rfl (AUf rfl rfl (ATu<|AT5<|AGq ?_));have Ai:=K0.no2 Ar Aw Av;obtain ⟨⟨Bm,Bn⟩,Ax,Aj⟩:=AGu Ah;dsimp only at Aj;refine Aes rfl (Arr (Ai.o2 p0).rd Ax) λBo Bp Ay Az=>?_;obtain ⟨Bq,rfl,A3⟩:=Az;obtain ⟨Br,rfl,A4⟩:=A3.cs;refine AGq<|AUf rfl rfl (AUf rfl rfl (AV7 ((Ai.e Ay).az A4) [.bool false,.slice none 0 0] AXw λBt A5 Bu Ak=>AYs Ak p0 (ATi A5) (Ak.z p1) λBv Aa=>AT5<|Adg (Aa.z p1) (Aa.b p0)<|AGq ?_));obtain ⟨⟨Bw,Bx,By⟩,A6,Ab⟩:=AGu Aj;dsimp only at Ab;refine Aes rfl (Anp (Aa.z p1).2 (HO.ext Aa.x) A6) λBz B3 A7 A8=>?_;obtain ⟨B4,rfl,A9⟩:=A8;obtain ⟨B5,rfl,Ba⟩:=A9.cs;refine AGq<|AUf rfl rfl (AUf rfl rfl (AUf rfl rfl (AV7 ((Aa.e A7).az Ba) [.bool false,.slice none 0 0] AXw λB6 Bb B7 Am=>ATu<|AYs Am p0 (ATi Bb) (Am.z p1) λB8 Ao=>AG1<|AGv<|AGt<|AGq<|AV3 rfl rfl (AGx<|⟨_,rfl,λAc=>?_,λAc=>?_⟩))))
 ·refine AGt<|AGq<|ATn rfl rfl (AG1<|AG6<|ATm ?_);obtain rfl:=AGs<|AT9 Ab Ac;exact ⟨_,AS9,Ao.x,rfl⟩
 ·refine AG5<|q_t<|AGt<|AGq<|ATn rfl rfl (AG1<|AG6 ?_);obtain rfl:=AGs<|AUa Ab Ac;exact ⟨_,AS9,Ao.x,rfl⟩
noncomputable def AXe (fuel:Nat) (a3:LiI) (a5:Int):Option (Int × Int):=
 (Alj fuel a3).bind λx6=>if (!x6)=true then some (0,6) else if ¬ a5=2 then (Atk fuel a5).bind λAd=>if (!Ad)=true then some (0,20) else (AZj fuel a3 a5).bind λAe=>some (Ae,0) else (AZj fuel a3 a5).bind λAf=>some (Af,0)
theorem Ahr {Ah:Value} {a3:LiI} {r:(Int × Int)} (H2:AX6 (cI .i64) h Ah a3) (HO:Aoo h) (hp:AXe fuel a3 a5=some r):AT3 Tryz.prog 42 #[Ah,(.int .i64 a5)] h (λx h'=>Ext h h'/\x= .tuple #[.int .i64 r.1,.int .i64 r.2]):=by
 unfold AXe at hp;refine cwf (l:=[_,_]) Tryz.func42 rfl rfl (AGt<|ATu<|AG1<|AGv<|AGt<|AGq ?_);have K0:=Kst.k0 h;obtain ⟨x6,Ap,Ak⟩:=AGu hp;refine AYe K0 (Atj (H2.ext K0.x) Ap) λA3 E9 Aa=>AXb rfl (AGx<|⟨_,rfl,λAf=>?_,λAf=>?_⟩)
 ·refine AGt<|ATu<|AG1<|AG6<|ATm ?_;obtain rfl:=AGs<|ifT Ak Af;exact ⟨_,AU0,Aa.x,rfl⟩
 ·refine AG5<|q_t<|AGv<|AGt<|AGq<|AWk rfl rfl (AGq ?_);have Am:=Abk Ak Af;by_cases Ab: ¬ a5=2
  ·rw [decide_eq_true Ab];refine ATx 11 true<|AGq<|ATx 11 true ?_;obtain ⟨A5,Aq,Ao⟩:=AGu<|ifT Am Ab;refine AYe Aa (Ayr (HO.ext Aa.x) Aq) λA6 A7 Ac=>ATx 11 true<|AXb rfl (ATp rfl (AGx<|⟨_,rfl,λAg=>?_,λAg=>?_⟩))
   ·refine AGt<|ATu<|AG1<|AG6<|ATm ?_;obtain rfl:=AGs<|ifT Ao Ag;exact ⟨_,AU0,Ac.x,rfl⟩
   ·refine AG5<|q_t<|AGt<|AGq<|AGq ?_;obtain ⟨A8,Ar,Au⟩:=AGu<|Abk Ao Ag;refine AYe Ac (Ahq (H2.ext Ac.x) (HO.ext Ac.x) Ar) λA9 Ba Av=>ATu<|AG1<|AG6 ?_;obtain rfl:=AGs Au;exact ⟨_,AU0,Av.x,rfl⟩
  ·rw [decide_eq_false Ab];refine AYn 11 false<|ATs rfl (AGx<|ATw rfl (AG5<|q_t<|AGt<|AGq<|AGq ?_));obtain ⟨Bb,Aw,Ax⟩:=AGu<|ifF Am Ab;refine AYe Aa (Ahq (H2.ext Aa.x) (HO.ext Aa.x) Aw) λBc Be Ay=>ATu<|AG1<|AG6 ?_;obtain rfl:=AGs Ax;exact ⟨_,AU0,Ay.x,rfl⟩
def Ae5 (fuel:Nat) (a2 Ab Ac:Int):Option ((Int × Int) ⊕ Int):=
 ((if ¬ Ab=0 then if a2≠0 then if Int.tmod Ab a2=0 then some (.inl ()) else some (.inr ()) else none else some<|.inr ()):Option (Unit ⊕ Unit)).bind (λex=>match ex with | .inl _=>(if a2≠0 then some (.inl (w64<|Int.tdiv Ab a2,w64<|Ac + 1)) else none) | .inr _=>some<|.inr Ac)
def Acz (fuel:Nat) (a1 a2:Int):Option Int:=
 (iter (λs=>Ae5 fuel a2 s.1 s.2) fuel (a1,0)).bind (λ(Ac:Int)=>some Ac)
def Af8 (fuel:Nat) (a3:LiI):Option Int:=
 (AV5 fuel a3).bind λx5=>(AUw fuel x5).bind λAc=>(Av4 fuel Ac).bind λ(Ad,Ae)=>some Ad
def Ahf (fuel:Nat) (a3:LiI) (a5:Int):Option Int:=
 (Af8 fuel a3).bind λx6=>(Acz fuel x6 a5).bind λAb=>if a5=2 then some (w64<|Ab + 3) else some<|w64<|Ab + 1
end Go.Proofs.YtkakafabeobahaaGreatDoor
namespace Go.QF
theorem Awe:∀ {n:Nat} {m:Int} {F G:ATa},(∀ i j,i < n->j < n->Eqm m (F i j) (G i j))->Eqm m (det n F) (det n G):=by
 intro n m
 induction n with
 | zero=>intro _ _ _;rfl
 | succ n ih=>
   intro F G h
   refine Eqm.psum λi hi=>?_
   exact ((Eqm.refl _ _).mul (h i 0 hi AGp)).mul (ih (F:=AWy i F) (G:=AWy i G) λa b ha hb=>h _ _ (A6v ha) AGp)
end Go.QF
namespace Go.Proofs.YtkakafabeobahaaGreatDoor
open Go Go.QF
end Go.Proofs.YtkakafabeobahaaGreatDoor
namespace Go.QF
def Aqz (n:Nat) (F:ATa) (i j:Nat):Int:=det n<|AU5 F i<|dl j
def Agi (n:Nat) (F:ATa) (i j:Nat):Int:=Aqz n F j i
def tau (j c:Nat):Nat:=if c=j then j + 1 else if c=j + 1 then j else c
theorem Atl {n:Nat} (hj:j + 1 < n):det n (λr c=>F r<|tau j c)= -det n F:=by
 rw [<- Acy (λr c=>F r<|tau j c),<- Acy F,<- Ajv (F:=trF F) (a:=j) (b:=j + 1) AGp hj AGp];refine AUb λc r hc hr=>?_;rw [Afv];show F r (tau j c)=if c=j + 1 then F r j else if c=j then F r (j + 1) else F r c;unfold tau;by_cases h1:c=j + 1
 ·subst h1;simp
 ·by_cases h2:c=j
  ·subst h2;simp
  ·simp [h1,h2]
theorem Adx {n a:Nat} (ha:a < n) (h:∀ i,i < n->i≠a->f i=0):psum f n=f a:=by
 rw [ATf (g:=λi=>if i=a then f a else 0) λk hk=>?_,Ado ha λi hi=>if_neg hi,if_pos rfl];by_cases e:k=a
 ·subst e;rw [if_pos rfl]
 ·rw [if_neg e,h k hk e]
theorem Au6 {n:Nat}:∀ {j:Nat} {F:ATa} {i:Nat},i < n + 1->j < n + 1->Aqz (n + 1) F i j=sg i * sg j * det n (λa b=>F (skp i a)<|skp j b):=by
 intro j
 induction j with
 | zero=>
   intro F i hi hj
   unfold Aqz
   simp only [det]
   rw [Adx hi λr hrn hr=>?_]
   ·rw [AT7,if_pos rfl,Amt]
    have:det n (AWy i F)=det n (λa b=>F (skp i a)<|skp 0 b):=AUb λa b _ _=>by unfold AWy skp;simp
    rw [this]
    simp [dl,sg]
   ·have:det n (AWy r<|AU5 F i<|dl 0)=0:=by
     rw [Ami λh=>hr h.symm]
     refine Ai6 (r:=usk r i) (A6w (λh=>hr h.symm) hrn hi) λq _=>?_
     rw [AT7,if_pos rfl];simp [dl]
    rw [this];simp
 | succ j ih=>
   intro F i hi hj
   have h1:=ih (F:=λr c=>F r<|tau j c) (i:=i) hi AGp
   have h2:Aqz (n + 1) (λr c=>F r<|tau j c) i j= -Aqz (n + 1) F i (j + 1):=by
    unfold Aqz
    rw [<- Atl (F:=AU5 F i<|dl<|j + 1) AGp]
    refine AUb λr c _ _=>?_
    rw [AT7,AT7]
    split
    ·unfold dl tau
     by_cases h1:c=j
     ·subst h1;simp
     ·by_cases h2:c=j + 1
      ·subst h2;simp
      ·rw [if_neg λh=>h1 h.symm,if_neg h1,if_neg h2,if_neg λh=>h2 h.symm]
    ·rfl
   have h3:(λa b=>F (skp i a)<|tau j<|skp j b)=λa b=>F (skp i a) (skp (j + 1) b):=by
    funext a b
    congr 1
    unfold tau skp
    by_cases h1:b < j
    ·rw [if_pos h1,if_neg AGp,if_neg AGp,if_pos AGp]
    ·rw [if_neg h1]
     by_cases h2:b=j
     ·subst h2;rw [if_neg AGp,if_pos rfl,if_pos AGp]
     ·rw [if_neg AGp,if_neg AGp,if_neg AGp]
   rw [h2,h3] at h1
   rw [A13]
   have:Aqz (n + 1) F i (j + 1)= -(sg i * sg j * det n λa b=>F (skp i a)<|skp (j + 1) b):=by omega
   rw [this];grind
theorem BDz {n:Nat} (hi:i < n) (hj:j < n):Aqz n (trF F) i j=Aqz n F j i:=by
 obtain ⟨k,rfl⟩:∃ k,n=k + 1:=⟨n - 1,AGp⟩;rw [Au6 hi hj,Au6 hj hi,<- Acy (λa b=>F (skp j a)<|skp i b),Int.mul_comm<|sg i];rfl
theorem A2c {n:Nat} (hi:i < n) (hj:j < n):psum (λk=>F i k * Aqz n F j k) n=if i=j then det n F else 0:=by
 have h:=Atb (F:=F) hj (F i) dl n
 have e:det n (AU5 F j λq=>psum (λk=>F i k * dl k q) n)=det n (AU5 F j<|F i):=AUb λr c _ hc=>by
  rw [AT7,AT7]
  split
  ·exact A0l (F:=F) (i:=i) hc
  ·rfl
 unfold Aqz;rw [<- h,e];split
 ·subst_vars
  refine AUb λr c _ _=>?_;rw [AT7];split
  ·subst_vars;rfl
  ·rfl
 ·rename_i hij;refine Agz hi hj hij ?_;funext c;rw [AT7,if_neg hij,AT7,if_pos rfl]
theorem BAu {n:Nat} (hi:i < n) (hj:j < n):psum (λk=>Aqz n F k i * F k j) n=if i=j then det n F else 0:=by
 have h:=A2c (F:=trF F) hj hi;rw [Acy] at h;rw [ATf (g:=λk=>trF F j k * Aqz n (trF F) i k) (λk hk=>by rw [BDz hi hk,Int.mul_comm];rfl),h];by_cases e:i=j
 ·rw [if_pos e,if_pos e.symm]
 ·rw [if_neg e,if_neg λh=>e h.symm]
theorem Aof {n:Nat} (hi:i < n) (hj:j < n):psum (λk=>F i k * Agi n F k j) n=det n F * dl i j:=by
 unfold Agi;rw [A2c hi hj];unfold dl;split <;> simp
theorem Ays {n:Nat} (hi:i < n) (hj:j < n):psum (λk=>Agi n F i k * F k j) n=det n F * dl i j:=by
 unfold Agi;rw [BAu hi hj];unfold dl;split <;> simp
end Go.QF
namespace Go.Proofs.YtkakafabeobahaaGreatDoor
open Go Go.QF
theorem Ayt {n c:Nat} {f g:Nat->Nat} (hr:r<=100) (hc:c<=100) (hf:100 < fuel) (hfn:∀ a,a < r->f a < n) (hgn:∀ a,a < c->g a < n):AXj fuel (tab n n F) (AV1 r λa=>(f a:Int)) (AV1 c λa=>(g a:Int))=some (tab r c λa b=>F (f a)<|g b):=by
 apply ok_eq;unfold AXj;refine AG4 (AUj (λi s=>s=(AV1 i λa=>AV1 c λb=>F (f a)<|g b,(i:Int))) r (Q:=(· =tab r c λa b=>F (f a)<|g b)) rfl AGp λi s hi hI=>?_) λy hy=>AGy hy;subst hI;unfold Ab9;dsimp only;rw [AUt];refine AT1 (λh=>?_) λh=>AGy ?_
 ·have hi':i < r:=by omega
  refine ATz (AT4 hi') rfl (AG4 (AUj (λj s=>s=(AV1 j λb=>F (f i)<|g b,(j:Int))) c (Q:=(· =AV1 c λb=>F (f i)<|g b)) rfl AGp λj s hj hJ=>?_) λe he=>AVb (by rw [AUt];omega)<|AGy ⟨hi',?_⟩)
  ·subst hJ;unfold Ab8;dsimp only;rw [AUt,AUt];refine AT1 (λh2=>?_) λh2=>AGy ?_
   ·have hj':j < c:=by omega
    refine ATz (AT4 hj') rfl (ATz (AUk<|hfn i hi') rfl (ATz (AT4<|hgn j hj') rfl (AVb AGp<|AGy ⟨hj',?_⟩)));rw [wk AGp,<- Ahx];rfl
   ·obtain rfl:j=c:=by omega
    rfl
  ·subst he;rw [wk AGp,<- Ahx];rfl
 ·obtain rfl:i=r:=by omega
  rfl
theorem Au7 {n:Nat} (hn:1<=n) (Ad:n<=16) (hf:100 < fuel):AXi fuel (tab n n F)=some ((n:Int),true):=by
 apply ok_eq;unfold AXi;refine AG4 (Q:=(· =((n:Int),(n:Int),true))) ?_ λe he=>?_
 ·unfold AVy;rw [AUe];refine AG4 (Q:=λex=>match ex with | .inl _=>False | .inr _=>True) (AT1 (λh=>by omega) λh=>AT1 (λh2=>by omega) λh2=>AGy trivial) λex hex=>?_
  cases ex with
  | inl e=>exact hex.elim
  | inr u=>
    dsimp only
    refine AG4 (AUj (λi (s:Int)=>s=i) n (Q:=λex=>match ex with | .inl _=>False | .inr _=>True) rfl AGp λi s hi hI=>?_) λex hex=>?_
    ·subst hI
     unfold AZn
     rw [AUe]
     refine AT1 (λh=>ATz (AUk AGp) rfl ?_) λh=>AGy trivial
     rw [AUt]
     refine AT1 (λh2=>by omega) λh2=>AT1 (λh3=>by omega) λh3=>ATz (n:=0) (AUk AGp) rfl (AT1 (λh4=>?_) λh4=>AGy ⟨AGp,wk AGp⟩)
     rw [AUt] at h4;omega
    ·cases ex with
     | inl e=>exact hex.elim
     | inr u=>exact ATz (n:=0) (AUk AGp) rfl (AGy<|by rw [AUt])
 ·subst he;dsimp only;exact AT1 (λh=>by cases h) λ_=>AT1 (λh=>absurd rfl h) λ_=>AGy rfl
end Go.Proofs.YtkakafabeobahaaGreatDoor
namespace Go.QF
def Ac6 (n:Nat) (A:ATa):Prop:= ∀ i j,i < n->j < n->A i j=A j i
def Afl (n:Nat) (A:ATa):Prop:= ∀ k,k<=n->0 < det k A
theorem Ahg {n:Nat} (hk:k<=n) (hi:i < n):bro k i r < n:=by unfold bro;split <;> omega
theorem A0s {n:Nat} (hs:Ac6 n A) (hk:k<=n) (hi:i < n) (hj:j < n):Mn k A i j=Mn k A j i:=by
 unfold Mn;rw [<- Acy];refine AUb λr c _ _=>?_;exact hs _ _ (Ahg hk hi)<|Ahg hk hj
theorem A0t (A:ATa) (j:Nat) (hi:i < k):Mn k A i j=0:=by
 unfold Mn;refine Agz (a:=i) (b:=k) AGp AGp AGp ?_;funext c;unfold bro;simp [hi]
def bil (n k:Nat) (A:ATa) (x y:Nat->Int):Int:=psum (λi=>psum (λj=>Mn k A i j * x i * y j) n) n
def lin (n k:Nat) (A:ATa) (x:Nat->Int):Int:=psum (λj=>Mn k A k j * x j) n
theorem A4f (f g:Nat->Int) (n:Nat):psum (λi=>psum (λj=>f i * g j) n) n=psum f n * psum g n:=by
 rw [ATf (g:=λi=>psum g n * f i) (λi _=>by rw [AVv,Int.mul_comm]),AVv,Int.mul_comm]
theorem BGw {n:Nat} (hs:Ac6 n A) (hk:k < n) (h0:det k A≠0) (x y:Nat->Int):det (k + 1) A * bil n k A x y=lin n k A x * lin n k A y + det k A * bil n (k + 1) A x y:=by
 unfold bil;rw [<- AVv,<- AVv];have e1:lin n k A x * lin n k A y=psum (λi=>psum (λj=>Mn k A k i * x i * (Mn k A k j * y j)) n) n:=(A4f (λi=>Mn k A k i * x i) (λj=>Mn k A k j * y j) n).symm;rw [e1,<- Acl];refine ATf λi hi=>?_;rw [<- AVv,<- AVv,<- Acl];refine ATf λj hj=>?_;have h:=Aoc (k:=k) (A:=A) h0 i j;rw [Abw,A0s hs AGp hi hk] at h;grind
theorem BAv (n:Nat) (A:ATa) (x y:Nat->Int):bil n n A x y=0:=by
 unfold bil;rw [ATf (g:=λ_=>0) λi hi=>?_]
 ·exact Adn n
 ·rw [ATf (g:=λ_=>0) λj _=>by rw [A0t A j hi];simp];exact Adn n
theorem Ah1 {n:Nat} (hs:Ac6 n A) (hp:Afl n A) (x:Nat->Int):∀ d k,k + d=n->0<=bil n k A x x:=by
 intro d
 induction d with
 | zero=>
    intro k hk;obtain rfl:k=n:=by omega
    rw [BAv];omega
 | succ d ih=>
   intro k hk
   have h1:=ih (k + 1) AGp
   have h2:=hp k AGp
   have h3:=hp (k + 1) AGp
   have h4:=BGw hs (show k < n by omega) AGp x x
   have h5:0<=lin n k A x * lin n k A x:=by
    rcases Int.le_total 0 (lin n k A x) with h | h
    ·exact Int.mul_nonneg h h
    ·exact Int.mul_nonneg_of_nonpos_of_nonpos h h
   have h6:=Int.mul_nonneg (Int.le_of_lt h2) h1
   exact Int.nonneg_of_mul_nonneg_right AGp h3
theorem Awf {n:Nat} (a b:Int) (x y z:Nat->Int):bil n k A (λi=>a * x i + b * y i) z=a * bil n k A x z + b * bil n k A y z:=by
 unfold bil;rw [<- AVv,<- AVv,<- Acl];refine ATf λi _=>?_;rw [<- AVv,<- AVv,<- Acl];grind
theorem Awg {n:Nat} (hs:Ac6 n A) (hk:k<=n) (x y:Nat->Int):bil n k A x y=bil n k A y x:=by
 unfold bil;rw [Agy];refine ATf λj hj=>ATf λi hi=>?_;rw [A0s hs hk hi hj];grind
theorem A7h {n:Nat} (hs:Ac6 n A) (hp:Afl n A) (hk:k<=n) (x y:Nat->Int):bil n k A x y * bil n k A x y<=bil n k A x x * bil n k A y y:=by
 obtain ⟨p,hpq⟩:∃ p,bil n k A x y=p:=⟨_,rfl⟩;obtain ⟨q,hq⟩:∃ q,bil n k A x x=q:=⟨_,rfl⟩;obtain ⟨r,hr⟩:∃ r,bil n k A y y=r:=⟨_,rfl⟩;have hyx:bil n k A y x=p:=by rw [Awg hs hk];exact hpq
 have key:∀ a b:Int,0<=a * (a * q + b * p) + b * (a * p + b * r):=λa b=>by
  have h:=Ah1 hs hp (λi=>a * x i + b * y i) (n - k) k AGp;rw [Awf,Awg hs hk x λi=>a * x i + b * y i,Awf,Awg hs hk y λi=>a * x i + b * y i,Awf,hpq,hq,hr,hyx] at h;exact h
 rw [hpq,hq,hr];have hq0:0<=q:=hq ▸ Ah1 hs hp x (n - k) k AGp
 rcases Int.lt_or_eq_of_le hq0 with h | h
 ·have h1:=key p<|-q;have e:p * (p * q + -q * p) + -q * (p * p + -q * r)=q * (q * r - p * p):=by grind
  rw [e] at h1;have:=Int.nonneg_of_mul_nonneg_right h1 h;omega
 ·subst h;have h1:=key (-(r + 1)) p;have h2:=key 1 0;have e: -(r + 1) * (-(r + 1) * 0 + p * p) + p * (-(r + 1) * p + p * r)= -((r + 2) * (p * p)):=by grind
  rw [e] at h1;have hr0:0<=r:=hr ▸ Ah1 hs hp y (n - k) k AGp
  have hpp:0<=p * p:=by
   rcases Int.le_total 0 p with h | h
   ·exact Int.mul_nonneg h h
   ·exact Int.mul_nonneg_of_nonpos_of_nonpos h h
  have:0<=r * (p * p):=Int.mul_nonneg hr0 hpp;grind
theorem Ap0 {n:Nat} (hi:i < n) (hj:j < n):bil n k A (dl i) (dl j)=Mn k A i j:=by
 unfold bil;rw [Adx hi λa ha hne=>?_,Adx hj λb hb hne=>?_]
 ·simp [dl]
 ·unfold dl;grind
 ·rw [ATf (g:=λ_=>0) λb _=>by unfold dl;grind];exact Adn n
theorem Aq0 {n:Nat} (hs:Ac6 n A) (hp:Afl n A) (hk:k<=n) (hi:i < n) (hj:j < n):Mn k A i j * Mn k A i j<=Mn k A i i * Mn k A j j:=by
 have:=A7h hs hp hk (dl i)<|dl j;rwa [Ap0 hi hj,Ap0 hi hi,Ap0 hj hj] at this
theorem Aq1 {n:Nat} (hs:Ac6 n A) (hp:Afl n A) (hk:k<=n) (hi:i < n):0<=Mn k A i i:=by
 have:=Ah1 hs hp (dl i) (n - k) k AGp;rwa [Ap0 hi hi] at this
theorem Awh {n:Nat} (hs:Ac6 n A) (hp:Afl n A) (hk:k < n) (hi:i < n):det (k + 1) A * Mn k A i i=Mn k A i k * Mn k A i k + det k A * Mn (k + 1) A i i:=by
 have h:=Aoc (k:=k) (A:=A) (by have:=hp k AGp;omega) i i;rw [Abw,<- A0s hs AGp hi hk] at h;omega
theorem A7i {n:Nat} (hs:Ac6 n A) (hp:Afl n A) (hi:i < n):∀ k,k<=n->Mn k A i i<=det k A * A i i:=by
 intro k
 induction k with
 | zero=>intro _;rw [Ae3];simp [det]
 | succ k ih=>
   intro hk
   have h1:=ih AGp
   have h2:=Awh hs hp (show k < n by omega) hi
   have h3:0<=Mn k A i k * Mn k A i k:=by
    rcases Int.le_total 0 (Mn k A i k) with h | h
    ·exact Int.mul_nonneg h h
    ·exact Int.mul_nonneg_of_nonpos_of_nonpos h h
   have h4:=hp k AGp
   have h5:=hp (k + 1) AGp
   have h6:det (k + 1) A * Mn k A i i<=det (k + 1) A * (det k A * A i i):=Int.mul_le_mul_of_nonneg_left h1 AGp
   have h7:det k A * Mn (k + 1) A i i<=det k A * (det (k + 1) A * A i i):=by
    grind
   simp_all
theorem Ayu {n:Nat} (hs:Ac6 n A) (hp:Afl n A) {B:Int} (hB:1<=B) (hA:∀ i,i < n->A i i<=B):∀ k,k<=n->det k A<=B ^ k:=by
 intro k;induction k with
 | zero=>intro _;simp [det]
 | succ k ih=>
   intro hk;have h1:=ih AGp;have h2:=A7i hs hp (show k < n by omega) k AGp;rw [Abw] at h2;have h3:=hp k AGp;have h4:det k A * A k k<=det k A * B:=Int.mul_le_mul_of_nonneg_left (hA k AGp) AGp;have h5:det k A * B<=B ^ k * B:=Int.mul_le_mul_of_nonneg_right h1 AGp;grind
theorem A2d {n:Nat} (hs:Ac6 n A) (hp:Afl n A) (x:Nat->Int) (hk:k < n):x k * x k<=Agi n A k k * bil n 0 A x x:=by
 have hd:=hp n<|Nat.le_refl _
 have hB:∀ y z:Nat->Int,bil n 0 A y z=psum (λi=>y i * psum (λj=>A i j * z j) n) n:=λy z=>by
  unfold bil;refine ATf λi _=>?_;rw [<- AVv];exact ATf λj _=>by rw [Ae3];grind
 have h1:∀ y:Nat->Int,bil n 0 A y (λj=>Agi n A j k)=det n A * y k:=λy=>by
  rw [hB,ATf (g:=λi=>y i * (det n A * dl i k)) λi hi=>by rw [Aof hi hk]];rw [Adx hk (λi _ hne=>by unfold dl;grind)];simp [dl,Int.mul_comm]
 have h2:=A7h hs hp (Nat.zero_le n) x λj=>Agi n A j k;rw [h1 x,h1 λj=>Agi n A j k] at h2;have e1:det n A * x k * (det n A * x k)=det n A * (det n A * (x k * x k)):=by grind
 have e2:bil n 0 A x x * (det n A * Agi n A k k)=det n A * (Agi n A k k * bil n 0 A x x):=by grind
 rw [e1,e2] at h2;have h3:=Int.le_of_mul_le_mul_left h2 hd
 have h4:0<=x k * x k:=by
  rcases Int.le_total 0 (x k) with h | h
  ·exact Int.mul_nonneg h h
  ·exact Int.mul_nonneg_of_nonpos_of_nonpos h h
 have h5:1 * (x k * x k)<=det n A * (x k * x k):=Int.mul_le_mul_of_nonneg_right AGp h4;omega
def Aq2 (A:ATa) (i j:Nat) (c:Int):ATa:=AU5 A i λs=>A i s + c * A j s
def A7j (A:ATa) (i j:Nat) (c:Int):ATa:=trF<|Aq2 (trF A) i j c
def Ap1 (A:ATa) (i j:Nat) (c:Int):ATa:=A7j (Aq2 A i j c) i j c
def swA (A:ATa) (j:Nat):ATa:=λr s=>A (tau j r)<|tau j s
theorem A7l (l:Nat) (A:ATa) (r s:Nat):Mn l (trF A) s r=Mn l A r s:=by
 unfold Mn;rw [<- Acy];rfl
theorem Ayv {c:Int} (hij:j < i):det k (Aq2 A i j c)=det k A:=by
 rcases Nat.lt_or_ge i k with h | h
 ·exact Afg h AGp AGp c
 ·refine AUb λr s hr _=>?_;unfold Aq2;rw [AT7,if_neg AGp]
theorem A7m {c:Int} (hij:j < i):det k (A7j A i j c)=det k A:=by
 unfold A7j;rw [Acy,Ayv hij,Acy]
theorem Ah6 {c:Int} (hij:j < i):det k (Ap1 A i j c)=det k A:=by
 unfold Ap1;rw [A7m hij,Ayv hij]
theorem Awi {c:Int} (hij:j < i) (hr:l<=r):Mn l (Aq2 A i j c) r s=Mn l A r s + if l<=i/\r=i then c * Mn l A j s else 0:=by
 rcases Nat.lt_or_ge i l with h | h
 ·rw [if_neg AGp,Int.add_zero];unfold Mn;have e:=Afg (n:=l + 1) (F:=λa b=>A (bro l r a)<|bro l s b) (a:=i) (b:=j) AGp AGp AGp c;rw [<- e];refine AUb λa b ha _=>?_;rw [AT7];unfold Aq2;rw [AT7];have hbi:bro l r i=i:=by unfold bro;rw [if_pos h]
  have hbj:bro l r j=j:=by unfold bro;grind
  by_cases ea:a=i
  ·grind
  ·rw [if_neg ea,if_neg];unfold bro;split <;> omega
 ·by_cases er:r=i
  ·subst er;rw [if_pos ⟨h,rfl⟩];unfold Mn;have e:=Akk (n:=l + 1) (F:=λa b=>A (bro l r a)<|bro l s b) (r:=l) (λb=>A r<|bro l s b) (λb=>A j<|bro l s b) 1 c AGp
   have e1:det (l + 1) (λa b=>Aq2 A r j c (bro l r a)<|bro l s b)=det (l + 1) (AU5 (λa b=>A (bro l r a)<|bro l s b) l λq=>1 * A r (bro l s q) + c * A j (bro l s q)):=by
    refine AUb λa b ha _=>?_
    rw [AT7]
    unfold Aq2
    rw [AT7]
    by_cases ea:a=l
    ·subst ea
     rw [show bro a r a=r by unfold bro;grind,if_pos rfl,if_pos rfl,Int.one_mul]
    ·rw [if_neg ea,if_neg]
     unfold bro;grind
   have e2:det (l + 1) (AU5 (λa b=>A (bro l r a)<|bro l s b) l λb=>A r<|bro l s b)=det (l + 1) (λa b=>A (bro l r a)<|bro l s b):=by
    refine AUb λa b ha _=>?_
    rw [AT7]
    by_cases ea:a=l
    ·subst ea;rw [if_pos rfl,show bro a r a=r by unfold bro;grind]
    omega
   have e3:det (l + 1) (AU5 (λa b=>A (bro l r a)<|bro l s b) l λb=>A j<|bro l s b)=det (l + 1) (λa b=>A (bro l j a)<|bro l s b):=by
    refine AUb λa b ha _=>?_
    rw [AT7]
    by_cases ea:a=l
    ·subst ea;rw [if_pos rfl,show bro a j a=j by unfold bro;grind]
    ·rw [if_neg ea,show bro l r a=a by unfold bro;grind,show bro l j a=a by unfold bro;grind]
   grind
  ·rw [if_neg λh=>er h.2,Int.add_zero];unfold Mn;refine AUb λa b ha _=>?_;unfold Aq2;rw [AT7,if_neg];unfold bro;split <;> omega
theorem BAw {c:Int} (hij:j < i) (hs:l<=s):Mn l (A7j A i j c) r s=Mn l A r s + if l<=i/\s=i then c * Mn l A r j else 0:=by
 unfold A7j;rw [A7l,Awi hij hs,A7l,A7l]
theorem A7n {c:Int} (hij:j < i) (hr:l<=r) (hs:l<=s):Mn l (Ap1 A i j c) r s=Mn l A r s + (if l<=i/\r=i then c * Mn l A j s else 0) + if l<=i/\s=i then c * (Mn l A r j + if l<=i/\r=i then c * Mn l A j j else 0) else 0:=by
 unfold Ap1;rw [BAw hij hs,Awi hij hr,Awi hij hr]
theorem Ar5 (A:ATa) (i j:Nat) (c:Int) (r s:Nat):Ap1 A i j c r s=if s=i then (if r=i then A i i + c * A j i else A r i) + c * (if r=i then A i j + c * A j j else A r j) else if r=i then A i s + c * A j s else A r s:=by
 show AU5 (trF<|Aq2 A i j c) i (λq=>trF (Aq2 A i j c) i q + c * trF (Aq2 A i j c) j q) s r=_;rw [AT7];unfold trF Aq2;by_cases h:s=i
 ·rw [if_pos h,if_pos h,AT7,AT7]
 ·rw [if_neg h,if_neg h,AT7]
theorem BAx {n:Nat} {c:Int} (hi:i < n) (hj:j < n) (h:Ac6 n A):Ac6 n (Ap1 A i j c):=by
 intro r s hr hs;rw [Ar5,Ar5];by_cases h1:r=i
 ·by_cases h2:s=i
  ·rw [h1,h2]
  ·rw [if_neg h2,if_pos h1,if_pos h1,if_neg h2,if_neg h2,h i s hi hs,h j s hj hs]
 ·by_cases h2:s=i
  ·rw [if_pos h2,if_neg h1,if_neg h1,if_neg h1,if_pos h2,h r i hr hi,h r j hr hj]
  ·rw [if_neg h2,if_neg h1,if_neg h1,if_neg h2,h r s hr hs]
theorem A2e (hk:k≠j + 1):det k (swA A j)=det k A:=by
 rcases Nat.lt_or_ge (j + 1) k with h | h
 ·have e1:det k (swA A j)= -det k (λr s=>A (tau j r) s):=Atl (F:=λr s=>A (tau j r) s) h
  have e2:det k (λr s=>A (tau j r) s)= -det k A:=by
   rw [<- Acy (λr s=>A (tau j r) s),<- Acy A]
   exact Atl (F:=trF A) h
  omega
 ·refine AUb λr s hr hs=>?_;unfold swA tau;grind
theorem Ayw:det (j + 1) (swA A j)=Mn j A (j + 1) (j + 1):=by
 unfold Mn;refine AUb λr s hr hs=>?_
 have e:∀ r,r < j + 1->tau j r=bro j (j + 1) r:=λr hr=>by
  unfold tau bro
  grind
 unfold swA;grind
theorem BD1 {n:Nat} (hj:j + 1 < n) (h:Ac6 n A):Ac6 n (swA A j):=λr s hr hs=>by
 have e:∀ r,r < n->tau j r < n:=λr hr=>by unfold tau;grind
 exact h _ _ (e r hr)<|e s hs
theorem sq_nonneg (x:Int):0<=x * x:=by
 rcases Int.le_total 0 x with h | h
 ·exact Int.mul_nonneg h h
 ·exact Int.mul_nonneg_of_nonpos_of_nonpos h h
theorem Ayx (hy:0<=y) (h:x * x<=y * y): -y<=x/\x<=y:=by
 constructor
 ·rcases Int.lt_or_le x (-y) with h1 | h1
  ·have h2:0 < (-x - y) * (-x + y):=Int.mul_pos AGp AGp;grind
  ·exact h1
 ·rcases Int.lt_or_le y x with h1 | h1
  ·have h2:0 < (x - y) * (x + y):=Int.mul_pos AGp AGp;grind
  ·exact h1
theorem Anq (h1: -y<=x) (h2:x<=y):x * x<=y * y:=by
 have h3:0<=(y - x) * (y + x):=Int.mul_nonneg AGp AGp;grind
def SzF (A:ATa) (i j:Nat):Prop:= -(det (j + 1) A)<=2 * Mn j A i j/\2 * Mn j A i j<=det (j + 1) A
def LvF (A:ATa) (j:Nat):Prop:=3 * (det (j + 1) A * det (j + 1) A)<=4 * (det j A * det (j + 2) A + Mn j A (j + 1) j * Mn j A (j + 1) j)
def A0u (A:ATa) (i:Nat) (K:Int):Prop:= ∀ l,l < i-> -(K * det (l + 1) A)<=Mn l A i l/\Mn l A i l<=K * det (l + 1) A
theorem Au8 {n:Nat} {q:Int} (hs:Ac6 n A) (hp:Afl n A) (hi:i < n) (hD:∀ k,k<=n->det k A<=Dm) (p0:0<=p) (q0:0<=q) (hl:∀ l,l < i->q * (Mn l A i l * Mn l A i l)<=p * (det (l + 1) A * det (l + 1) A)):∀ d l:Nat,l + d=i->q * Mn l A i i<=(q + d * p) * (Dm * det l A):=by
 have hD0:1<=Dm:=by
  have:=hD 0 AGp;simpa [det] using this
 have hDl:∀ l k,l<=n->k<=n->det k A<=Dm * det l A:=λl k h1 h2=>by
  have:=hp l h1;have h3:=hD k h2;have h4:Dm * 1<=Dm * det l A:=Int.mul_le_mul_of_nonneg_left AGp AGp;omega
 intro d;induction d with
 | zero=>
   intro l h;obtain rfl:l=i:=by omega
   rw [Abw];have h1:=Int.mul_le_mul_of_nonneg_left (hDl l (l + 1) AGp AGp) q0;simpa using h1
 | succ d ih=>
   intro l h;have h1:=ih (l + 1) AGp;have h2:=Awh hs hp (show l < n by omega) hi;have h3:=hl l AGp;have h4:=hp l AGp;have h5:=hp (l + 1) AGp;have h6:=Int.mul_le_mul_of_nonneg_left h1<|Int.le_of_lt h4
   have h7:det (l + 1) A * (q * Mn l A i i)=q * (Mn l A i l * Mn l A i l) + det l A * (q * Mn (l + 1) A i i):=by
    grind
   have h8:=Int.mul_le_mul_of_nonneg_left (hDl l (l + 1) AGp AGp) p0;have h9:=Int.mul_le_mul_of_nonneg_left h8<|Int.le_of_lt h5;have e2:det (l + 1) A * (p * det (l + 1) A)=p * (det (l + 1) A * det (l + 1) A):=by grind
   have h10:det (l + 1) A * (q * Mn l A i i)<=det (l + 1) A * ((q + ((d + 1:Nat):Int) * p) * (Dm * det l A)):=by
    grind
   exact Int.le_of_mul_le_mul_left h10 h5
theorem Ayz {n:Nat} (hn:n<=8) (hs:Ac6 n A) (hp:Afl n A) (hi:i < n) (hD:∀ k,k<=n->det k A<=Dm) (hz:∀ l,l < i->SzF A i l):A i i<=3 * Dm:=by
 have h:=Au8 hs hp hi hD (p:=1) (q:=4) AGp AGp (λl hl=>by
  have:=Anq (hz l hl).1 (hz l hl).2
  grind) i 0 AGp
 rw [Ae3] at h
 have Aa:1<=Dm:=by
  have:=hD 0 AGp;simpa [det] using this
 have h2:(4 + (i:Int) * 1) * (Dm * det 0 A)<=12 * Dm:=by
  have:(4 + (i:Int) * 1) * Dm<=12 * Dm:=Int.mul_le_mul_of_nonneg_right AGp AGp
  simpa [det] using this
 omega
theorem A4g {n:Nat} (hs:Ac6 n A) (hp:Afl n A) (hi:i < n) (hD:∀ k,k<=n->det k A<=Dm) (hA:A i i<=3 * Dm):A0u A i (2 * Dm):=by
 intro l hl
 have Ad:1<=Dm:=by
  have:=hD 0 AGp;simpa [det] using this
 have h1:=Aq0 hs hp (show l<=n by omega) hi (show l < n by omega);rw [Abw] at h1;have h2:=A7i hs hp hi l AGp;have h3:=hp l AGp;have h4:=hp (l + 1) AGp
 have h5:det l A * A i i<=Dm * (3 * Dm):=by
  have a1:=Int.mul_le_mul_of_nonneg_left hA<|Int.le_of_lt h3
  have a2:=Int.mul_le_mul_of_nonneg_right (hD l AGp) (show (0:Int)<=3 * Dm by omega)
  omega
 have h6:Mn l A i i * det (l + 1) A<=Dm * (3 * Dm) * det (l + 1) A:=Int.mul_le_mul_of_nonneg_right AGp AGp;have h7:Dm * (3 * Dm) * (det (l + 1) A * 1)<=Dm * (3 * Dm) * (det (l + 1) A * det (l + 1) A):=Int.mul_le_mul_of_nonneg_left (Int.mul_le_mul_of_nonneg_left AGp AGp)<|Int.mul_nonneg AGp AGp;have h8:0<=Dm * Dm * (det (l + 1) A * det (l + 1) A):=Int.mul_nonneg (sq_nonneg _)<|sq_nonneg _;have h9:2 * Dm * det (l + 1) A * (2 * Dm * det (l + 1) A)=Dm * (3 * Dm) * (det (l + 1) A * det (l + 1) A) + Dm * Dm * (det (l + 1) A * det (l + 1) A):=by grind
 rw [Int.mul_one] at h7;exact Ayx (Int.mul_nonneg AGp AGp) AGp
theorem Ay0 {K':Int} (hp:∀ l,l<=i->0 < det l A) (hK:K<=K') (h:A0u A i K):A0u A i K':=λl hl=>by
 have h1:=h l hl
 have h2:=hp (l + 1) AGp
 have h3:=Int.mul_le_mul_of_nonneg_right hK<|Int.le_of_lt h2
 omega
theorem Ay1 (hd:0 < d): -d<=2 * (a + -((2 * a + d) / (2 * d)) * d)/\2 * (a + -((2 * a + d) / (2 * d)) * d)<=d:=by
 have h1:=Int.mul_ediv_add_emod (2 * a + d)<|2 * d;have h2:=Int.emod_nonneg (2 * a + d) (show 2 * d≠0 by omega);have h3:=Int.emod_lt_of_pos (2 * a + d) (show 0 < 2 * d by omega);grind
theorem BAy (hd:0 < d) (h1: -(K * d)<=a) (h2:a<=K * d): -K<= -((2 * a + d) / (2 * d))/\ -((2 * a + d) / (2 * d))<=K:=by
 have h:=Ay1 (a:=a) hd;generalize -((2 * a + d) / (2 * d))=c at *;constructor
 ·rcases Int.lt_or_le c (-K) with h3 | h3
  ·have h4:(c + K + 1) * d<=0:=by
    have:=Int.mul_nonneg (show 0<= -(c + K + 1) by omega)<|Int.le_of_lt hd
    grind
   grind
  ·exact h3
 ·rcases Int.lt_or_le K c with h3 | h3
  ·have h4:=Int.mul_nonneg (show 0<=c - K - 1 by omega)<|Int.le_of_lt hd;grind
  ·exact h3
theorem A2f {c:Int} (hij:j < i) (hl:l < i):Mn l (Ap1 A i j c) i l=Mn l A i l + c * Mn l A j l:=by
 rw [A7n hij AGp<|Nat.le_refl _,if_pos ⟨AGp,rfl⟩,if_neg (λh:l<=i/\l=i=>by omega)];omega
theorem Au9 {c:Int} (hij:j < i) (hr:r < i) (hl:l<=r):Mn l (Ap1 A i j c) r l=Mn l A r l:=by
 rw [A7n hij hl<|Nat.le_refl _,if_neg (λh:l<=i/\r=i=>by omega),if_neg (λh:l<=i/\l=i=>by omega)];omega
theorem A7o {c:Int} (hij:j < i) (hp:∀ l,l<=i->0 < det l A) (hK:0<=K) (h:A0u A i K) (hz:∀ l,l < j->SzF A j l) (Ab: -K<=c) (Ac:c<=K):A0u (Ap1 A i j c) i (2 * K):=by
 intro l hl;rw [Ah6 hij,A2f hij hl];have h1:=h l hl;have h2:=hp (l + 1) AGp
 have hm: -(det (l + 1) A)<=Mn l A j l/\Mn l A j l<=det (l + 1) A:=by
  rcases Nat.lt_trichotomy l j with h3 | h3 | h3
  ·have:=hz l h3;unfold SzF at this;omega
  ·subst h3;rw [Abw];omega
  ·rw [A0t A l h3];omega
 have h3: -(K * det (l + 1) A)<=c * Mn l A j l/\c * Mn l A j l<=K * det (l + 1) A:=by
  refine Ayx (Int.mul_nonneg hK<|Int.le_of_lt h2) ?_
  have a1:=Anq Ab Ac
  have a2:=Anq hm.1 hm.2
  have a3:c * c * (Mn l A j l * Mn l A j l)<=K * K * (det (l + 1) A * det (l + 1) A):=Int.mul_le_mul a1 a2 (sq_nonneg _)<|sq_nonneg _
  grind
 grind
theorem A7p {c:Int} (hk:k≠i):Ap1 A i j c k k=A k k:=by
 rw [Ar5,if_neg hk,if_neg hk]
structure Awj (n:Nat) (Dm:Int) (A:ATa) (i t:Nat):Prop where
 sym:Ac6 n A
 pos:Afl n A
 dm:∀ k,k<=n->det k A<=Dm
 hi:i < n
 ht:t<=i
 rows:∀ k,k < n->k≠i->A k k<=3 * Dm
 row:t=0->A i i<=3 * Dm
 lamb:A0u A i (2 ^ t * (2 * Dm))
 pre:∀ r l,l < r->r < i->SzF A r l
 prei:∀ l,l < i->i<=l + t->SzF A i l
 lov:∀ r,r + 1 < i->LvF A r
theorem Atm {n:Nat} (hn:0 < n) (hs:Ac6 n A) (hp:Afl n A) (hD:∀ k,k<=n->det k A<=Dm) (hr:∀ k,k < n->A k k<=3 * Dm):Awj n Dm A 0 0:=
 ⟨hs,hp,hD,hn,Nat.le_refl _,λk hk _=>hr k hk,λ_=>hr 0 hn,λl hl=>by omega,λr l h1 h2=>by omega,λl hl=>by omega,λr hr=>by omega⟩
theorem A7q {n:Nat} (h:Awj n Dm A i t):1<=Dm:=by
 have:=h.dm 0 AGp;simpa [det] using this
theorem Aoh {n:Nat} (hn:n<=8) (h:Awj n Dm A i t) (hz:∀ l,l < i->SzF A i l):∀ k,k < n->A k k<=3 * Dm:=λk hk=>by
 by_cases e:k=i
 ·subst e;exact Ayz hn h.sym h.pos h.hi h.dm hz
 ·exact h.rows k hk e
theorem Anr (t:Nat):(0:Int) < 2 ^ t:=Int.pow_pos AGp
theorem Aoi (h:s<=t):(2:Int) ^ s<=2 ^ t:=by
 have:=Nat.pow_le_pow_right (show 0 < 2 by omega) h;grind
theorem A4h {n i':Nat} (hn:n<=8) (h:Awj n Dm A i t) (hi':i' < n) (hj:j < i') (hbad: ¬ SzF A i' j)
 (hz:∀ r l,l < r->r < i'->SzF A r l) (hzi:∀ l,l < i'->j < l->SzF A i' l) (hl:∀ r,r + 1 < i'->LvF A r):
 Awj n Dm (Ap1 A i' j<|-((2 * Mn j A i' j + det (j + 1) A) / (2 * det (j + 1) A))) i' (i' - j)/\i * 16 + t < i' * 16 + (i' - j):=by
 have hD1:=A7q h
 have hlt:i < i'∨i=i'/\t < i' - j:=by
  rcases Nat.lt_trichotomy i i' with h1 | h1 | h1
  ·exact .inl h1
  ·refine .inr ⟨h1,?_⟩
   rcases Nat.lt_or_ge t (i' - j) with h2 | h2
   ·exact h2
   ·subst h1;exact absurd (h.prei j hj AGp) hbad
  ·exact absurd (h.pre i' j hj h1) hbad
 have hrows:∀ k,k < n->k≠i'->A k k<=3 * Dm:=λk hk hne=>by
  rcases hlt with h1 | h1
  ·exact Aoh hn h (λl hl=>hz i l hl h1) k hk
  ·exact h.rows k hk AGp
 have hK0:0<=2 ^ (i' - j - 1) * (2 * Dm):=Int.mul_nonneg (Int.le_of_lt<|Anr _) AGp;have hp':∀ l,l<=i'->0 < det l A:=λl hl=>h.pos l AGp
 have hlam:A0u A i' (2 ^ (i' - j - 1) * (2 * Dm)):=by
  rcases hlt with h1 | h1
  ·refine Ay0 hp' ?_<|A4g h.sym h.pos hi' h.dm<|Aoh hn h (λl hl=>hz i l hl h1) i' hi';have:=Int.mul_le_mul_of_nonneg_right (Aoi<|Nat.zero_le<|i' - j - 1) (show (0:Int)<=2 * Dm by omega);simpa using this
  ·obtain ⟨rfl,h1⟩:=h1;exact Ay0 hp' (Int.mul_le_mul_of_nonneg_right (Aoi AGp) AGp) h.lamb
 have hd:=hp' (j + 1) AGp;obtain ⟨c1,c2⟩:=BAy hd (hlam j hj).1 (hlam j hj).2;have hrem:=Ay1 (a:=Mn j A i' j) hd;generalize hc: -((2 * Mn j A i' j + det (j + 1) A) / (2 * det (j + 1) A))=c at *
 refine ⟨⟨BAx hi' AGp h.sym,λk hk=>by rw [Ah6 hj];exact h.pos k hk,λk hk=>by rw [Ah6 hj];exact h.dm k hk,hi',AGp,λk hk hne=>by rw [A7p hne];grind,λh0=>by omega,?_,λr l h1 h2=>?_,λl h1 h2=>?_,λr hr=>?_⟩,by have:=h.ht;omega⟩
 ·have:=A7o hj hp' hK0 hlam (λl hl=>hz j l hl hj) c1 c2
  have e:2 * (2 ^ (i' - j - 1) * (2 * Dm))=2 ^ (i' - j) * (2 * Dm):=by
   rw [show i' - j=i' - j - 1 + 1 by omega,Int.pow_succ];grind
  rwa [e] at this
 ·unfold SzF;rw [Ah6 hj,Au9 hj h2 AGp];exact hz r l h1 h2
 ·unfold SzF;rw [Ah6 hj,A2f hj h1]
  rcases Nat.lt_or_ge j l with h3 | h3
  ·rw [A0t A l h3,Int.mul_zero,Int.add_zero];exact hzi l h1 h3
  ·obtain rfl:l=j:=by omega
   rw [Abw];exact hrem
 ·unfold LvF;rw [Ah6 hj,Ah6 hj,Ah6 hj,Au9 hj AGp AGp];exact hl r hr
def Ay2 (n:Nat) (A:ATa):Int:=psum (λk=>det k A)<|n + 1
theorem BAz {n:Nat} (hk:k < n) (hne:∀ l,l≠k->f l=g l) (h:f k < g k):psum f n < psum g n:=by
 induction n with
 | zero=>omega
 | succ n ih=>
   simp only [psum]
   rcases Nat.lt_or_ge k n with h1 | h1
   ·grind
   ·obtain rfl:k=n:=by omega
    rw [ATf (g:=g) λi hi=>hne i AGp];omega
theorem A4i {n:Nat} (hn:n<=8) (h:Awj n Dm A i t) (hj:j + 1 < n) (hbad: ¬ LvF A j)
 (hz:∀ r l,l < r->r<=j + 1->SzF A r l) (hl:∀ r,r < j->LvF A r):
 Awj n Dm (swA A j) 0 0/\Ay2 n (swA A j) < Ay2 n A:=by
 have hij:i<=j + 1:=by
  rcases Nat.lt_or_ge (j + 1) i with h1 | h1
  ·exact absurd (h.lov j h1) hbad
  ·exact h1
 have hrest:=Aoh hn h λl hl=>hz i l hl hij;have h1:=Awh h.sym h.pos (show j < n by omega) hj;have p0:=h.pos j AGp;have p1:=h.pos (j + 1) AGp;have p2:=h.pos (j + 2) AGp;rw [show Mn (j + 1) A (j + 1) (j + 1)=det (j + 2) A from Abw _ _] at h1
 have hlt:Mn j A (j + 1) (j + 1) < det (j + 1) A:=by
  unfold LvF at hbad
  have h2:det (j + 1) A * (4 * Mn j A (j + 1) (j + 1)) < det (j + 1) A * (3 * det (j + 1) A):=by
   grind
  have:=Int.lt_of_mul_lt_mul_left h2<|Int.le_of_lt p1;omega
 have hpos:0 < Mn j A (j + 1) (j + 1):=by
  have h3:=sq_nonneg<|Mn j A (j + 1) j;have h4:=Int.mul_pos p0 p2;exact Int.pos_of_mul_pos_right (a:=det (j + 1) A) AGp p1
 have hdet:∀ k,det k (swA A j)=if k=j + 1 then Mn j A (j + 1) (j + 1) else det k A:=λk=>by
  by_cases e:k=j + 1
  ·subst e;rw [if_pos rfl,Ayw]
  ·rw [if_neg e,A2e e]
 refine ⟨Atm AGp (BD1 hj h.sym) (λk hk=>?_) (λk hk=>?_) λk hk=>?_,?_⟩
 ·rw [hdet];split
  ·exact hpos
  ·exact h.pos k hk
 ·rw [hdet];split
  ·have:=h.dm (j + 1) AGp;omega
  ·exact h.dm k hk
 ·have e:tau j k < n:=by unfold tau;grind
  exact hrest _ e
 ·exact BAz (k:=j + 1) AGp (λl hl=>by grind) (by grind)
end Go.QF
namespace Go.Proofs.YtkakafabeobahaaGreatDoor
open Go Go.QF
theorem Awk (k m:Nat):AV1 k (λa=>((a:Nat):Int)) ++ [((m:Nat):Int)]=AV1 (k + 1) λa=>((bro k m a:Nat):Int):=by
 rw [<- Ahx,AUp (g:=λa=>((bro k m a:Nat):Int)) λa ha=>by unfold bro;rw [if_pos ha]];unfold bro;grind
theorem A2g {m:Nat} (hk:k<=100) (hf:100 < fuel):AXz fuel (k:Int) (m:Int)=some (AV1 (k + 1) λa=>((bro k m a:Nat):Int)):=by
 apply ok_eq;unfold AXz;refine AG4 (AUj (λi s=>s=(AV1 i λa=>((a:Nat):Int),((i:Nat):Int))/\i<=k) k (Q:=(· =AV1 k λa=>((a:Nat):Int))) ⟨rfl,Nat.zero_le _⟩ AGp λi s hi hI=>?_) λe he=>?_
 ·obtain ⟨rfl,hik⟩:=hI;unfold Acx;dsimp only;refine AT1 (λh=>AVb (by rw [AUt];omega)<|AGy ⟨AGp,?_,AGp⟩) λh=>AGy ?_
  ·rw [wk AGp,Ahx i λa=>((a:Nat):Int)];simp
  grind
 ·subst he;refine AVb (by rw [AUt];omega)<|AGy ?_;exact Awk k m
theorem Atn {n:Nat} (hn:n<=8) (hi:i < n) (hj:j < n) (hb:∀ i j,i < n->j < n->(F i j).natAbs<=mN n) (hf:100 < fuel):AWl fuel (tab n n F) (i:Int) (j:Int)=some (Mn j F i j):=by
 apply ok_eq;unfold AWl;refine AG4 (AUj (λq s=>s=(AV1 q λa=>((a:Nat):Int),AV1 q λa=>((a:Nat):Int),((q:Nat):Int))/\q<=j) j (Q:=(· =(AV1 j λa=>((a:Nat):Int),AV1 j λa=>((a:Nat):Int)))) ⟨rfl,Nat.zero_le _⟩ AGp λq s hq hI=>?_) λe he=>?_
 ·obtain ⟨rfl,hqj⟩:=hI;unfold Acd;dsimp only;refine AT1 (λh=>AVb (by rw [AUt];omega)<|AVb (by rw [AUt];omega)<|AGy ⟨AGp,?_,AGp⟩) λh=>AGy ?_
  ·rw [wk AGp,Ahx q λa=>((a:Nat):Int)];simp
  grind
 ·subst he;dsimp only;refine AVb (by rw [AUt];omega)<|AVb (by rw [AUt];omega) ?_;rw [Awk,Awk];refine AG4 (AUm<|Ayt (n:=n) AGp AGp hf (λa ha=>Ahg AGp hi) λa ha=>Ahg AGp hj) λx hx=>?_;subst hx;refine AG4 (AUm<|Apy hn AGp (λa b ha Aa=>hb _ _ (Ahg AGp hi)<|Ahg AGp hj) AGp) λy hy=>AGy hy
theorem Aoj {n:Nat} (hk:k<=n) (hn:n<=8):AVj fuel (AV1 n λa=>det (a + 1) F) (k:Int)=some (det k F):=by
 apply ok_eq;unfold AVj;refine AT1 (λh=>?_) λh=>?_
 ·obtain rfl:k=0:=by omega
  exact ⟨1,rfl,by simp [det]⟩
 ·obtain ⟨q,rfl⟩:∃ q,k=q + 1:=⟨k - 1,AGp⟩;refine ATz (n:=q) (AT4 AGp) (by rw [wk AGp];omega)<|AGy rfl
theorem Ava {n:Nat} (Aa:1<=n) (hn:n<=8) (hb:∀ i j,i < n->j < n->(F i j).natAbs<=mN n) (hf:100 < fuel):AW5 fuel (tab n n F)=some (AV1 n λa=>det (a + 1) F,true):=by
 apply ok_eq;unfold AW5;refine AG4 (AUm<|Au7 Aa AGp hf) λx hx=>?_;subst hx;dsimp only;refine AT1 (λh=>absurd h AGr) λ_=>AG4 (AUj (λk s=>s=(AV1 k λa=>det (a + 1) F,((k:Nat):Int))/\k<=n) n (Q:=(· =AV1 n λa=>det (a + 1) F)) ⟨rfl,Nat.zero_le _⟩ AGp λk s hk hI=>?_) λe he=>AGy (by rw [he]);obtain ⟨rfl,hkn⟩:=hI;unfold Abo;dsimp only;refine AT1 (λh=>?_) λh=>AGy ?_
 ·have hk':k < n:=by omega
  refine AG4 (AUm<|A2g AGp hf) λr hr=>?_;subst hr;refine AG4 (AUm<|A2g AGp hf) λc hc=>?_;subst hc;refine AG4 (AUm<|Ayt (n:=n) AGp AGp hf (λa ha=>Ahg AGp hk') λa ha=>Ahg AGp hk') λx hx=>?_;subst hx;refine AG4 (AUm<|Apy hn AGp (λa b ha Ab=>hb _ _ (Ahg AGp hk')<|Ahg AGp hk') AGp) λy hy=>?_;subst hy;refine AVb (by rw [AUt];omega)<|AGy ⟨AGp,?_,AGp⟩;rw [show (det (k + 1) λa b=>F (bro k k a)<|bro k k b)=det (k + 1) F from Abw k F,wk AGp,Ahx k λa=>det (a + 1) F];simp
 grind
theorem Awl (a b:Int):Alc a b<=0↔a<=b:=by unfold Alc;omega
theorem Ato {n:Nat} (hn:n<=8) (hi:i < n) (hl:l < n) (hj:j < n) (hb:∀ i j,i < n->j < n->(F i j).natAbs<=mN n):(Mn j F i l).natAbs<=gN n:=by
 have e:Mn j F i l=Mn j (λa b=>if a < n/\b < n then F a b else 0) i l:=by
  unfold Mn
  refine AUb λa b ha Aa=>?_
  dsimp only
  rw [if_pos ⟨Ahg AGp hi,Ahg AGp hl⟩]
 rw [e];refine Nat.le_trans (A0o (m:=mN n) (λa b=>?_) i l)<|A69 hn AGp;grind
theorem Ans {n:Nat} (hn:n<=8) (hk:k<=n) (hb:∀ i j,i < n->j < n->(F i j).natAbs<=mN n):(det k F).natAbs<=gN n:=by
 rcases Nat.eq_zero_or_pos k with h | h
 ·subst h;have:=A68 n;simp only [det];omega
 ·obtain ⟨q,rfl⟩:∃ q,k=q + 1:=⟨k - 1,AGp⟩;rw [<- Abw q F];exact Ato hn AGp AGp AGp hb
theorem BA0 {n:Nat} (hn:n<=8) (hi:i < n) (hj:j < n) (hb:∀ i j,i < n->j < n->(F i j).natAbs<=mN n) (hf:100 < fuel):AY6 fuel (tab n n F) (AV1 n λa=>det (a + 1) F) (i:Int) (j:Int)=some (decide (2 * ((Mn j F i j).natAbs:Int)<=det (j + 1) F)):=by
 apply ok_eq;unfold AY6;refine AG4 (Q:=(· =2)) ⟨2,if_pos AGp,rfl⟩ λtwo h2=>?_;subst h2;refine AG4 (AUm<|Atn hn hi hj hb hf) λx hx=>?_;subst hx;refine AG4 (AUm (a:=((Mn j F i j).natAbs:Int)) rfl) λy hy=>?_;subst hy;refine AG4 (AUm<|Aqv (A7a n) (show (2:Int).natAbs<=gN n from Nat.le_trans AGr<|A68 n) (by rw [Int.natAbs_natCast];exact Ato hn hi hj hj hb)) λw hw=>?_;subst hw;rw [wk AGp];refine AG4 (AUm<|Aoj (k:=j + 1) AGp hn) λm hm=>?_;subst hm;refine AG4 (AUm (a:=Alc (2 * ((Mn j F i j).natAbs:Int))<|det (j + 1) F) rfl) λc hc=>AGy ?_;subst hc;exact decide_eq_decide.2<|Awl _ _
theorem A2h:2 * ((Mn j F i j).natAbs:Int)<=det (j + 1) F↔SzF F i j:=by
 unfold SzF;omega
theorem psum_abs {f g:Nat->Int} {D:Nat}:∀ (n:Nat),(∀ a,a < n->(f a).natAbs<=D/\(g a).natAbs<=D)->(psum (λa=>f a * g a) n).natAbs<=n * (D * D)
 | 0,_=>by simp [psum]
 | n + 1,h=>by
   have h1:=psum_abs n λa ha=>h a AGp
   have h2:=Nat.mul_le_mul (h n AGp).1 (h n AGp).2
   rw [<- Int.natAbs_mul] at h2
   have e:(n + 1) * (D * D)=n * (D * D) + D * D:=by grind
   simp only [psum]
   omega
theorem BF9 {n:Nat} (hn:n<=16) (hD:16 * (D * D) < AXu) (hb:∀ a,a < n->(f a).natAbs<=D/\(g a).natAbs<=D) (hf:100 < fuel):Aai fuel (AV1 n f) (AV1 n g)=some (psum (λa=>f a * g a) n):=by
 apply ok_eq;unfold Aai;refine AG4 (AUj (λk s=>s=(((k:Nat):Int),psum (λa=>f a * g a) k)/\k<=n) n (Q:=(· =psum (λa=>f a * g a) n)) ⟨rfl,Nat.zero_le _⟩ AGp λk s hk hI=>?_) λe he=>AGy he;obtain ⟨rfl,hkn⟩:=hI;unfold Aea;dsimp only;rw [AUt];refine AT1 (λh=>?_) λh=>AGy ?_
 ·have hk':k < n:=by omega
  have h1:=psum_abs k λa ha=>hb a AGp;have h2:=Nat.mul_le_mul (hb k hk').1 (hb k hk').2;have h3:k * (D * D)<=16 * (D * D):=Nat.mul_le_mul_right _ AGp;have h4:1 * (D * D)<=16 * (D * D):=Nat.mul_le_mul_right _ AGp;refine ATz (AT4 hk') rfl (ATz (AT4 hk') rfl (AG4 (Q:=(· =f k * g k)) ⟨_,if_pos AGp,rfl⟩ λx hx=>?_));subst hx;refine AG4 (Q:=(· =psum (λa=>f a * g a) k + f k * g k)) ⟨_,if_pos ⟨AGp,by rw [Int.natAbs_mul];omega⟩,rfl⟩ λy hy=>AGy ⟨AGp,?_,AGp⟩;subst hy;rw [wk AGp];simp [psum]
 grind
theorem Atp {n:Nat} (hn:1<=n) (Ad:n<=16) (hf:100 < fuel):AVy fuel (tab n n F)=some ((n:Int),(n:Int),true):=by
 apply ok_eq;unfold AVy;rw [AUe];refine AG4 (Q:=λex=>match ex with | .inl _=>False | .inr _=>True) (AT1 (λh=>by omega) λh=>AT1 (λh2=>by omega) λh2=>AGy trivial) λex hex=>?_
 cases ex with
 | inl e=>exact hex.elim
 | inr u=>
   dsimp only
   refine AG4 (AUj (λi (s:Int)=>s=i) n (Q:=λex=>match ex with | .inl _=>False | .inr _=>True) rfl AGp λi s hi hI=>?_) λex hex=>?_
   ·subst hI
    unfold AZn
    rw [AUe]
    refine AT1 (λh=>ATz (AUk AGp) rfl ?_) λh=>AGy trivial
    rw [AUt]
    refine AT1 (λh2=>by omega) λh2=>AT1 (λh3=>by omega) λh3=>ATz (n:=0) (AUk AGp) rfl (AT1 (λh4=>?_) λh4=>AGy ⟨AGp,wk AGp⟩)
    rw [AUt] at h4;omega
   ·cases ex with
    | inl e=>exact hex.elim
    | inr u=>exact ATz (n:=0) (AUk AGp) rfl (AGy<|by rw [AUt])
theorem Ada {c:Nat} (h:∀ i j,i < r->j < c->F i j=G i j):tab r c F=tab r c G:=by
 rw [Aie,Aie];exact AUp λi hi=>AUp λj hj=>h i j hi hj
def trS (F:ATa) (i j r c:Nat):Int:=if c < i∨c=i/\r < j then F c r else 0
theorem A2i {n:Nat} (hn:1<=n) (Aa:n<=16) (hf:100 < fuel):AWg fuel (tab n n F)=some (tab n n<|trF F,true):=by
 apply ok_eq;unfold AWg;refine AG4 (AUm<|Atp hn Aa hf) λx hx=>?_;subst hx;dsimp only;refine AT1 (λh=>absurd h AGr) λ_=>AG4 (AUm<|Ar0 AGp AGp AGp) λO hO=>?_;subst hO;refine AG4 (AUj (λi s=>s=(((i:Nat):Int),tab n n<|trS F i 0)/\i<=n) n (Q:=(· =tab n n (trF F))) ⟨?_,Nat.zero_le _⟩ AGp λi s hi hI=>?_) λe he=>AGy (by rw [he])
 ·rw [AYv n (0:Int),AYv];refine congrArg (Prod.mk (0:Int)) ?_;rw [Aie];exact AUp λr _=>AUp λc _=>by unfold trS;omega
 ·obtain ⟨rfl,hin⟩:=hI;unfold Aab;dsimp only;rw [AUe];refine AT1 (λh=>?_) λh=>AGy ?_
  ·have hi':i < n:=by omega
   refine ATz (AUk hi') rfl (AG4 (AUj (λj s=>s=(((j:Nat):Int),tab n n<|trS F i j)/\j<=n) n (Q:=(· =tab n n (trS F (i + 1) 0))) ⟨rfl,Nat.zero_le _⟩ AGp λj s hj hJ=>?_) λe he=>AGy ⟨AGp,by rw [wk AGp,he];simp,AGp⟩);obtain ⟨rfl,hjn⟩:=hJ;unfold Aaa;dsimp only;rw [AUt];refine AT1 (λh2=>?_) λh2=>AGy ?_
   ·have hj':j < n:=by omega
    refine ATz (AUk hj') rfl (ATz (AUk hi') rfl (ATz (AT4 hj') rfl (AG4 (AUm (a:=F i j) rfl) λy hy=>ATz (AT4 hi') rfl (AGy ⟨AGp,?_,AGp⟩))));subst hy;rw [wk AGp,Atc];refine Prod.ext AGp<|Ada λr c hr hc=>?_;rw [AT7];unfold trS;grind
   ·refine Ada λr c hr hc=>?_;unfold trS;omega
  ·refine Ada λr c hr hc=>?_;unfold trS trF;omega
def muS (H:ATa) (i j r c:Nat):Int:=if r < i∨r=i/\c < j then H r c else 0
theorem A7r {n:Nat} (hn:1<=n) (Aa:n<=16) (hD:16 * (D * D) < AXu) (hF:∀ i j,i < n->j < n->(F i j).natAbs<=D) (hG:∀ i j,i < n->j < n->(G i j).natAbs<=D) (hf:100 < fuel):Aaj fuel (tab n n F) (tab n n G)=some (tab n n<|AUy n F G,true):=by
 apply ok_eq;unfold Aaj;refine AG4 (AUm<|Atp hn Aa hf) λx hx=>?_;subst hx;dsimp only;refine AG4 (AUm<|A2i hn Aa hf) λx hx=>?_;subst hx;dsimp only;rw [AUe,AUe];refine AG4 (Q:=λex=>match ex with | .inl _=>False | .inr _=>True) (AT1 (λh=>absurd h AGr) λ_=>AT1 (λh=>absurd h AGr) λ_=>AT1 (λh=>absurd rfl h) λ_=>AGy trivial) λex hex=>?_
 cases ex with
 | inl e=>exact hex.elim
 | inr u=>
   dsimp only
   rw [AUe]
   refine AG4 (AUm<|Ar0 AGp AGp AGp) λO hO=>?_
   subst hO
   refine AG4 (AUj (λi s=>s=(((i:Nat):Int),tab n n<|muS (AUy n F G) i 0)/\i<=n) n (Q:=(· =tab n n (AUy n F G))) ⟨?_,Nat.zero_le _⟩ AGp λi s hi hI=>?_) λe he=>AGy (by rw [he])
   ·rw [AYv n (0:Int),AYv]
    refine congrArg (Prod.mk (0:Int)) ?_
    rw [Aie]
    exact AUp λr _=>AUp λc _=>by unfold muS;omega
   ·obtain ⟨rfl,hin⟩:=hI
    unfold Aec
    dsimp only
    rw [AUe]
    refine AT1 (λh=>?_) λh=>AGy ?_
    ·have hi':i < n:=by omega
     refine AG4 (AUj (λj s=>s=(((j:Nat):Int),tab n n<|muS (AUy n F G) i j)/\j<=n) n (Q:=(· =tab n n (muS (AUy n F G) (i + 1) 0))) ⟨rfl,Nat.zero_le _⟩ AGp λj s hj hJ=>?_) λe he=>AGy ⟨AGp,by rw [wk AGp,he];simp,AGp⟩
     obtain ⟨rfl,hjn⟩:=hJ
     unfold Aeb
     dsimp only
     rw [AUe]
     refine AT1 (λh2=>?_) λh2=>AGy ?_
     ·have hj':j < n:=by omega
      refine ATz (AUk hi') rfl (ATz (AUk hi') rfl (ATz (AUk hj') rfl (AG4 (AUm<|BF9 (D:=D) Aa hD (λa ha=>⟨hF i a hi' ha,hG a j ha hj'⟩) hf) λy hy=>ATz (AT4 hj') rfl (AGy ⟨AGp,?_,AGp⟩))))
      subst hy
      rw [wk AGp,Atc]
      refine Prod.ext AGp<|Ada λr c hr hc=>?_
      rw [AT7]
      unfold muS
      by_cases h3:r=i
      ·rw [if_pos h3]
       by_cases h4:c=j
       ·rw [if_pos h4,if_pos AGp,h3,h4];rfl
       ·rw [if_neg h4]
        by_cases h5:c < j
        ·grind
        omega
      omega
     ·refine Ada λr c hr hc=>?_
      unfold muS
      omega
    ·refine Ada λr c hr hc=>?_
     unfold muS
     omega
theorem A2j (a b:Int):Alc a b=0↔a=b:=by unfold Alc;omega
theorem BCj {n:Nat} (Ae:n<=16) (hf:100 < fuel):Ok (AWh fuel<|tab n n F) λr=>r=true↔Ac6 n F:=by
 unfold AWh;refine AG4 (AUj (λi s=>s=((i:Nat):Int)/\i<=n/\ ∀ a b,b < a->a < i->F a b=F b a) n (Q:=λex=>match ex with | .inl e=>e=false/\¬ Ac6 n F | .inr _=>Ac6 n F) ⟨rfl,Nat.zero_le _,λa b h1 h2=>by omega⟩ AGp λi s hi hI=>?_) λex hex=>?_
 ·obtain ⟨rfl,hin,hs⟩:=hI;unfold Aad;rw [AUe];refine AT1 (λh=>?_) λh=>AGy ?_
  ·have hi':i < n:=by omega
   refine AG4 (AUj (λj s=>s=((j:Nat):Int)/\j<=i/\ ∀ b,b < j->F i b=F b i) i (Q:=λex=>match ex with | .inl e=>e=false/\¬ Ac6 n F | .inr _=> ∀ b,b < i->F i b=F b i) ⟨rfl,Nat.zero_le _,λb h1=>by omega⟩ AGp λj s hj hJ=>?_) λex hex=>?_
   ·obtain ⟨rfl,hji,hb⟩:=hJ;unfold Aac;refine AT1 (λh2=>?_) λh2=>AGy ?_
    ·have hj':j < i:=by omega
     refine ATz (AUk hi') rfl (ATz (AT4 AGp) rfl (ATz (AUk AGp) rfl (ATz (AT4 hi') rfl (AG4 (AUm (a:=Alc (F i j)<|F j i) rfl) λc hc=>?_))));subst hc;refine AT1 (λh3=>AGy ⟨rfl,λh4=>h3<|(A2j _ _).2 (h4 i j hi' AGp)⟩) λh3=>AGy ⟨AGp,by rw [wk AGp];simp,AGp,λb Af=>?_⟩;rcases Nat.lt_or_ge b j with h4 | h4
     ·exact hb b h4
     ·obtain rfl:b=j:=by omega
      exact (A2j _ _).1 (Classical.not_not.1 h3)
    grind
   ·cases ex with
    | inl e=>exact AGy hex
    | inr u=>exact AGy ⟨AGp,by rw [wk AGp];simp,AGp,λa b h1 h2=>by
       grind⟩
  ·obtain rfl:i=n:=by omega
   intro a b ha hb;grind
 ·cases ex with
  | inl e=>obtain ⟨rfl,h⟩:=hex;exact AGy ⟨λh1=>Bool.noConfusion h1,λh1=>absurd h1 h⟩
  | inr u=>exact AGy ⟨λ_=>hex,λ_=>rfl⟩
theorem A2k {n:Nat} (hn:1<=n) (Aa:n<=16) (hD:16 * (D * D) < AXu) (hF:∀ i j,i < n->j < n->(F i j).natAbs<=D) (hG:∀ i j,i < n->j < n->(G i j).natAbs<=D) (hH:∀ i j,i < n->j < n->(AUy n (trF G) F i j).natAbs<=D) (hf:100 < fuel):AV0 fuel (tab n n F) (tab n n G)=some (tab n n<|AUy n (AUy n (trF G) F) G):=by
 apply ok_eq;unfold AV0;refine AG4 (AUm<|A2i hn Aa hf) λx hx=>?_;subst hx;dsimp only
 have pr:∀ {F G:ATa},(∀ i j,i < n->j < n->(F i j).natAbs<=D)->(∀ i j,i < n->j < n->(G i j).natAbs<=D)->Ok (AVi fuel (tab n n F)<|tab n n G) (· =tab n n (AUy n F G)):=λ{F G} hF hG=>by
  unfold AVi
  refine AG4 (AUm<|A7r hn Aa hD hF hG hf) λx hx=>?_
  subst hx
  exact AGy rfl
 refine AG4 (pr (λi j hi hj=>hG j i hj hi) hF) λx hx=>?_;grind
theorem A2l (a:Int):AYm a<=0↔a<=0:=by unfold AYm;omega
theorem BGa {n:Nat} (Ae:1<=n) (hn:n<=8) (hb:∀ i j,i < n->j < n->(F i j).natAbs<=mN n) (hf:100 < fuel):Ok (AX4 fuel<|tab n n F) λr=>r=true↔Ac6 n F/\Afl n F:=by
 unfold AX4;refine AG4 (AUm<|Ava Ae hn hb hf) λx hx=>?_;subst hx;dsimp only;refine AG4 (Q:=λex=>match ex with | .inl e=>e=false/\¬ Ac6 n F | .inr _=>Ac6 n F) (AT1 (λh=>absurd h AGr) λ_=>AG4 (BCj AGp hf) λr hr=>?_) λex hex=>?_
 ·refine AT1 (λh=>AGy ⟨rfl,λh1=>?_⟩) λh=>AGy<|hr.1 ?_
  ·grind
  grind
 ·cases ex with
  | inl e=>obtain ⟨rfl,h⟩:=hex;exact AGy ⟨λh1=>Bool.noConfusion h1,λh1=>absurd h1.1 h⟩
  | inr u=>
    dsimp only at hex ⊢
    have h0:∀ k,k<=0->0 < det k F:=λk hk=>by
     obtain rfl:k=0:=by omega
     simp [det]
    refine AG4 (AUj (λi s=>s=((i:Nat):Int)/\i<=n/\ ∀ k,k<=i->0 < det k F) n (Q:=λex=>match ex with | .inl e=>e=false/\¬ Afl n F | .inr _=>Afl n F) ⟨rfl,Nat.zero_le _,h0⟩ AGp λi s hi hI=>?_) λex Ad=>?_
    ·obtain ⟨rfl,hin,hp⟩:=hI
     unfold Aau
     rw [AUt]
     refine AT1 (λh=>?_) λh=>AGy ?_
     ·have hi':i < n:=by omega
      refine ATz (AT4 hi') rfl (AG4 (AUm (a:=AYm<|det (i + 1) F) rfl) λc hc=>?_)
      subst hc
      refine AT1 (λh3=>AGy ⟨rfl,λh4=>?_⟩) λh3=>AGy ⟨AGp,by rw [wk AGp];simp,AGp,λk hk=>?_⟩
      ·have:=h4 (i + 1) AGp;have:=(A2l _).1 h3;omega
      ·rcases Nat.lt_or_ge k (i + 1) with h4 | h4
       ·grind
       ·obtain rfl:k=i + 1:=by omega
        rw [A2l] at h3;omega
     ·obtain rfl:i=n:=by omega
      exact hp
    ·cases ex with
     | inl e=>obtain ⟨rfl,h⟩:=Ad;exact AGy ⟨λh1=>Bool.noConfusion h1,λh1=>absurd h1.2 h⟩
     | inr u=>exact AGy ⟨λ_=>⟨hex,Ad⟩,λ_=>rfl⟩
theorem Atq {n:Nat} (Ab:1<=n) (hn:n<=8) (hb:∀ i j,i < n->j < n->(F i j).natAbs<=mN n) (hf:100 < fuel):Ok (AWt fuel<|tab n n F) λr=>r=0↔Ac6 n F/\Afl n F:=by
 unfold AWt;refine AG4 (AUm<|Au7 Ab AGp hf) λx hx=>?_;subst hx;dsimp only;refine AT1 (λh=>absurd h AGr) λ_=>AT1 (λh=>by omega) λ_=>AG4 (BCj AGp hf) λr hr=>AT1 (λh=>AGy ⟨λh1=>by omega,λh1=>?_⟩) λh=>AG4 (BGa Ab hn hb hf) λq hq=>AT1 (λh2=>AGy ⟨λh1=>by omega,λh1=>?_⟩) λh2=>AGy ⟨λ_=>hq.1 ?_,λ_=>rfl⟩
 ·grind
 ·grind
 grind
theorem BA1 {n:Nat} (hn:n<=8) (hb:∀ i j,i < n->j < n->(F i j).natAbs<=mN n) (hf:100 < fuel):AY7 fuel (tab n n F)=some (decide (det n F<=10000)):=by
 apply ok_eq;unfold AY7;refine AG4 (AUm<|Apy hn (Nat.le_refl _) hb AGp) λx hx=>?_;subst hx;refine AG4 (Q:=(· =10000)) ⟨10000,if_pos AGp,rfl⟩ λy hy=>?_;subst hy;refine AG4 (AUm (a:=Alc (det n F) 10000) rfl) λc hc=>AGy ?_;subst hc;exact decide_eq_decide.2<|Awl _ _
def idS (i r c:Nat):Int:=if r=c/\r < i then 1 else 0
theorem A2m {n:Nat} (hn:1<=n) (Ab:n<=16) (hf:100 < fuel):AWs fuel (n:Int)=some (tab n n dl,true):=by
 apply ok_eq;unfold AWs;refine AG4 (Q:=λex=>match ex with | .inl _=>False | .inr _=>True) (AT1 (λh=>by omega) λ_=>AT1 (λh=>by omega) λ_=>AGy trivial) λex hex=>?_
 cases ex with
 | inl e=>exact hex.elim
 | inr u=>
   dsimp only
   refine AG4 (AUm<|Ar0 AGp AGp AGp) λO hO=>?_
   have Aa:O=tab n n (idS 0):=by
    rw [hO,AYv n (0:Int),AYv,Aie]
    exact AUp λr _=>AUp λc _=>by unfold idS;omega
   have hlen:O.length=n:=by grind
   refine AG4 (AUj (λi s=>s=(((i:Nat):Int),tab n n<|idS i)/\i<=n) n (Q:=(· =tab n n dl)) ⟨by rw [Aa];rfl,Nat.zero_le _⟩ AGp λi s hi hI=>?_) λe he=>AGy (by rw [he])
   obtain ⟨rfl,hin⟩:=hI
   unfold Aat
   dsimp only
   rw [hlen]
   refine AT1 (λh=>?_) λh=>AGy ?_
   ·have hi':i < n:=by omega
    refine ATz (AUk hi') rfl (AG4 (Q:=(· =1)) ⟨1,if_pos AGp,rfl⟩ λy hy=>ATz (AT4 hi') rfl (AGy ⟨AGp,?_,AGp⟩))
    subst hy
    rw [wk AGp,Atc]
    refine Prod.ext AGp<|Ada λr c hr hc=>?_
    rw [AT7]
    unfold idS
    omega
   ·refine Ada λr c hr hc=>?_
    unfold idS dl
    omega
def toS (n:Nat) (F:ATa) (i:Nat):List (List Int):=AV1 n λr=>if r < i then AV1 n (F r) else []
def toR (n:Nat) (F:ATa) (i j:Nat):List (List Int):=AV1 n λr=>if r < i then AV1 n (F r) else if r=i then AV1 n (λc=>if c < j then F i c else 0) else []
theorem BGc {n:Nat} (hn:1<=n) (Ac:n<=16) (hb:∀ i j,i < n->j < n->(F i j).natAbs < 9223372036854775808) (hf:100 < fuel):AYt fuel (tab n n F)=some (tab n n F,true):=by
 apply ok_eq;unfold AYt;refine AG4 (AUm<|Atp hn Ac hf) λx hx=>?_;subst hx;dsimp only;refine AT1 (λh=>absurd h AGr) λ_=>AVb AGp<|AG4 (AUj (λi s=>s=(((i:Nat):Int),toS n F i)/\i<=n) n (Q:=λex=>match ex with | .inl _=>False | .inr e=>e=tab n n F) ⟨?_,Nat.zero_le _⟩ AGp λi s hi hI=>?_) λex hex=>?_
 ·rw [Int.toNat_natCast,AYv];exact congrArg (Prod.mk (0:Int)) (AUp λr _=>by grind)
 ·obtain ⟨rfl,hin⟩:=hI;unfold Acb;dsimp only;rw [List.length_replicate,Int.toNat_natCast];refine AT1 (λh=>AVb AGp ?_) λh=>AGy ?_
  ·have hi':i < n:=by omega
   have e0:sI (toS n F i) (i:Int) (List.replicate n (0:Int))=toR n F i 0:=by
    rw [AU2];unfold toS;rw [AWf]
    refine AUp λr _=>?_
    by_cases h1:r=i
    ·rw [if_pos h1,if_neg AGp,if_pos h1,AYv];grind
    grind
   refine ATz (n:=i) (AT4 hi') rfl ?_;rw [e0];refine ATz (n:=i) (AT4 hi') rfl ?_;rw [if_neg AGp,if_pos rfl];refine AG4 (AUj (λj s=>s=(((j:Nat):Int),toR n F i j)/\j<=n) n (Q:=λex=>match ex with | .inl _=>False | .inr e=>e=toS n F (i + 1)) ⟨rfl,Nat.zero_le _⟩ AGp λj s hj hJ=>?_) λex hex=>?_
   ·obtain ⟨rfl,hjn⟩:=hJ;unfold Aca;dsimp only;rw [AUt];refine AT1 (λh2=>?_) λh2=>AGy ?_
    ·have hj':j < n:=by omega
     refine ATz (AUk hi') rfl (ATz (AT4 hj') rfl (AG4 (Q:=(· =(F i j,true))) ⟨_,if_pos<|hb i j hi' hj',rfl⟩ λy hy=>?_));subst hy;dsimp only;refine AT1 (λh=>absurd h AGr) λ_=>ATz (n:=i) (AT4 hi') rfl ?_;rw [if_neg AGp,if_pos rfl];refine ATz (AT4 hj') rfl (AGy ⟨AGp,?_,AGp⟩);rw [wk AGp,AU2,AU2];refine Prod.ext AGp ?_;dsimp only;unfold toR;rw [AWf,AWf];refine AUp λr _=>?_;by_cases h1:r=i
     ·grind
     grind
    ·refine AUp λr _=>?_;by_cases h1:r < i
     ·grind
     ·rw [if_neg h1];by_cases h3:r=i
      ·rw [if_pos h3,if_pos AGp,h3];exact AUp λc hc=>by omega
      grind
   ·cases ex with
    | inl e=>exact hex.elim
    | inr e=>exact AGy ⟨AGp,by rw [wk AGp,hex];simp,AGp⟩
  ·refine AUp λr hr=>?_;rw [if_pos AGp];rfl
 ·cases ex with
  | inl e=>exact hex.elim
  | inr e=>exact AGy (by rw [hex])
theorem Atr {S E:Type} {body:S->Option (S ⊕ E)} {Q:E->Prop} (I:S->Prop) (μ:S->Nat) (hs:∀ s,I s->Ok (body s) λr=>match r with | .inl s'=>I s'/\μ s' < μ s | .inr e=>Q e):∀ {fuel:Nat} {s0:S},I s0->μ s0 < fuel->Ok (iter body fuel s0) Q:=by
 intro fuel;induction fuel with
 | zero=>omega
 | succ f ih=>
   intro s0 h0 hf;obtain ⟨r,hr,hq⟩:=hs s0 h0;cases r with
   | inl s'=>
     obtain ⟨e,he,hQ⟩:=ih hq.1 AGp;exact ⟨e,by simp [iter,hr,he],hQ⟩
   | inr e=>exact ⟨e,by simp [iter,hr],hq⟩
theorem Ai8 (a:Int):AYm a=0↔a=0:=by unfold AYm;omega
theorem A2n (a:Int):AYm a < 0↔a < 0:=by unfold AYm;omega
theorem A7s {b:Int} (ha:a.natAbs < AXu) (hb:b.natAbs < AXu) (h0:b≠0):AWa fuel a b=some (a / b):=by
 apply ok_eq;unfold AWa;refine AG4 (AUm (a:=(a / b,a % b,true))<|if_pos ⟨ha,hb,h0⟩) λx hx=>?_;subst hx;exact AGy rfl
theorem BGd {b:Int} (ha:a.natAbs < AXu) (hb:b.natAbs < AXu) (h0:b≠0):Aah fuel a b=some (a % b):=by
 apply ok_eq;unfold Aah;refine AG4 (AUm (a:=(a / b,a % b,true))<|if_pos ⟨ha,hb,h0⟩) λx hx=>?_;subst hx;exact AGy rfl
theorem BGe {b:Int} (ha:a.natAbs < AXu) (hb:b.natAbs < AXu) (h0:b≠0) (hf:AXu < fuel):Ok (Aal fuel a b) λg=>0 < g/\g ∣ a/\g ∣ b:=by
 unfold Aal;refine AG4 (AUm (a:=(a.natAbs:Int)) rfl) λx hx=>AG4 (AUm (a:=(b.natAbs:Int)) rfl) λy hy=>?_;subst hx;subst hy;refine AG4 (Atr (λs:Int × Int=>0<=s.1/\0<=s.2/\s.1.natAbs < AXu/\s.2.natAbs < AXu/\(0 < s.1∨0 < s.2)/\ ∀ d:Int,d ∣ s.1->d ∣ s.2->d ∣ a/\d ∣ b) (λs=>s.2.natAbs) (Q:=λg=>0 < g/\g ∣ a/\g ∣ b) (λs hs=>?_) ⟨AGp,AGp,AGp,AGp,.inr AGp,λd h1 h2=>⟨Int.dvd_natAbs.1 h1,Int.dvd_natAbs.1 h2⟩⟩ AGp) λg hg=>AGy hg;obtain ⟨u,v⟩:=s;obtain ⟨h1,h2,h3,h4,h5,h6⟩:=hs;unfold Aed;dsimp only at h1 h2 h3 h4 h5 h6 ⊢;refine AG4 (AUm (a:=AYm v) rfl) λs hs=>?_;subst hs;refine AT1 (λhv=>?_) λhv=>AGy ?_
 ·have Ad:v≠0:=λh=>hv<|(Ai8 v).2 h;refine AG4 (AUm<|BGd h3 h4 Ad) λr hr=>AGy ?_;subst hr;have e1:=Int.emod_nonneg u Ad;have e2:=Int.emod_lt_of_pos u (show 0 < v by omega);refine ⟨⟨h2,e1,h4,AGp,.inl AGp,λd d1 d2=>h6 d ?_ d1⟩,AGp⟩;have:=Int.dvd_add d2<|Int.dvd_trans d1 ⟨u / v,rfl⟩;rwa [Int.emod_add_mul_ediv] at this
 ·have Ad:v=0:=by
   rcases Decidable.em (AYm v=0) with h | h
   ·exact (Ai8 v).1 h
   omega
  simp_all
def FrE (n d n' d':Int):Prop:=0 < d'/\n' * d=n * d'/\n'.natAbs<=n.natAbs/\d'.natAbs<=d.natAbs
theorem BCk {b:Int} (ha:a.natAbs < AXu) (hb:b.natAbs < AXu) (h0:b≠0) (hf:AXu < fuel):Ok (AY0 fuel a b) λr=>r.2=true/\FrE a b r.1.1 r.1.2:=by
 unfold AY0;refine AG4 (AUm (a:=AYm b) rfl) λs hs=>?_;subst hs;refine AT1 (λh=>absurd ((Ai8 b).1 h) h0) λ_=>AG4 (Q:=λe:Int × Int=>0 < e.2/\e.1 * b=a * e.2/\e.1.natAbs=a.natAbs/\e.2.natAbs=b.natAbs) (AG4 (AUm (a:=AYm b) rfl) λs hs=>?_) λe he=>?_
 ·subst hs;refine AT1 (λh=>?_) λh=>AGy ⟨?_,rfl,rfl,rfl⟩
  ·have:=(A2n b).1 h;refine AG4 (AUm (a:= -a) rfl) λx hx=>AG4 (AUm (a:= -b) rfl) λy hy=>AGy ?_;grind
  ·have: ¬ b < 0:=λh2=>h<|(A2n b).2 h2;omega
 ·obtain ⟨u,v⟩:=e;obtain ⟨h1,h2,h3,h4⟩:=he;dsimp only at h1 h2 h3 h4 ⊢;refine AG4 (BGe (a:=u) (b:=v) AGp AGp AGp hf) λg hg=>?_;obtain ⟨g1,⟨u',rfl⟩,⟨v',rfl⟩⟩:=hg;have gn:g≠0:=by omega
  have hv':0 < v':=Int.pos_of_mul_pos_right h1 g1;have e1:(g * u').natAbs=g.natAbs * u'.natAbs:=Int.natAbs_mul _ _;have e2:(g * v').natAbs=g.natAbs * v'.natAbs:=Int.natAbs_mul _ _;have g2:1<=g.natAbs:=by omega
  have m1:=Nat.mul_le_mul_right u'.natAbs g2;have m2:=Nat.mul_le_mul_right v'.natAbs g2;have m3:=Nat.mul_le_mul_left g.natAbs (show 1<=v'.natAbs by omega);refine AG4 (AUm<|A7s AGp AGp gn) λx hx=>AG4 (AUm<|A7s AGp AGp gn) λy hy=>AGy ⟨rfl,?_⟩;subst hx;subst hy;rw [Int.mul_ediv_cancel_left _ gn,Int.mul_ediv_cancel_left _ gn];refine ⟨hv',?_,by grind,by grind⟩;have:g * (u' * b)=g * (a * v'):=by grind
  exact Int.eq_of_mul_eq_mul_left gn this
theorem Awm {b:Int} (ha:a.natAbs < AXu) (hb:b.natAbs < AXu) (h0:b≠0) (hf:AXu < fuel):Ok (AVk fuel a b) λr=>FrE a b r.1 r.2:=by
 unfold AVk;refine AG4 (BCk ha hb h0 hf) λr hr=>?_;obtain ⟨⟨x,y⟩,c⟩:=r;obtain ⟨h1,h2⟩:=hr;dsimp only at h1 h2 ⊢;subst h1;exact AT1 (λh=>absurd h AGr) λ_=>AGy h2
theorem BD4 {b:Int} (ha:a.natAbs < AXu) (hb:b.natAbs < AXu) (h0:b≠0) (hf:AXu < fuel):Ok (AX5 fuel a b) λr=>FrE a b r.1 r.2:=by
 unfold AX5;exact AG4 (Awm ha hb h0 hf) λr hr=>AGy hr
theorem Ay3 {N D N' D':Int} (hD:0 < D) (hD':0 < D') (h:N * D'=N' * D):N / D=N' / D':=by
 rw [<- Int.mul_ediv_mul_of_pos_left N D hD',h,Int.mul_comm D D',Int.mul_ediv_mul_of_pos_left N' D' hD]
theorem BD5 {b:Int} (hab:4 * (a.natAbs + b.natAbs) < AXu) (h0:0 < b) (hf:AXu < fuel):Ok (AYk fuel a b) λr=>r=(2 * a + b) / (2 * b):=by
 have Ag:(1:Int).natAbs < AXu:=by
  omega
 have Ah:(2:Int).natAbs < AXu:=by
  omega
 unfold AYk;refine AG4 (Q:=(· =(1,2))) ?_ λhh he=>?_
 ·unfold Ack;exact AG4 (Q:=(· =1)) ⟨1,if_pos AGp,rfl⟩ λx hx=>AG4 (Q:=(· =2)) ⟨2,if_pos AGp,rfl⟩ λy hy=>AGy (by rw [hx,hy])
 subst he;dsimp only;refine AG4 (Q:=λr=>0 < r.2/\r.1 * (2 * b)=(2 * a + b) * r.2/\r.1.natAbs < AXu/\r.2.natAbs < AXu) ?_ λr hr=>?_
 ·unfold Ac9;refine AG4 (Awm AGp AGp AGp hf) λx hx=>AG4 (Awm (a:=1) (b:=2) Ag Ah AGp hf) λy hy=>?_;obtain ⟨x1,x2⟩:=x;obtain ⟨y1,y2⟩:=y;obtain ⟨a1,a2,a3,a4⟩:=hx;obtain ⟨b1,b2,b3,b4⟩:=hy;dsimp only at *;obtain rfl:y2=2:=by omega
  obtain rfl:y1=1:=by omega
  refine AG4 (AUm (a:=x1 * 2)<|if_pos<|by grind) λu hu=>AG4 (AUm (a:=1 * x2)<|if_pos<|by grind) λv hv=>?_;subst hu;subst hv;refine AG4 (AUm (a:=x1 * 2 + 1 * x2)<|if_pos ⟨AGp,AGp⟩) λw hw=>AG4 (AUm (a:=x2 * 2)<|if_pos<|by grind) λz hz=>?_;subst hw;subst hz;refine AG4 (BCk AGp AGp AGp hf) λr hr=>AGy ?_;obtain ⟨⟨r1,r2⟩,c⟩:=r;obtain ⟨-,c1,c2,c3,c4⟩:=hr;dsimp only at *;refine ⟨c1,?_,AGp,AGp⟩;have h1:x2 * (r1 * (2 * b))=x2 * ((2 * a + b) * r2):=by grind
  exact Int.eq_of_mul_eq_mul_left (show x2≠0 by omega) h1
 ·obtain ⟨r1,r2⟩:=r;obtain ⟨h1,h2,h3,h4⟩:=hr;dsimp only at *;unfold Abv;refine AG4 (Q:=λr=>r=(2 * a + b) / (2 * b)) (AG4 (Awm h3 h4 AGp hf) λx hx=>?_) λz hz=>AGy hz;obtain ⟨x1,x2⟩:=x;obtain ⟨a1,a2,a3,a4⟩:=hx;dsimp only at *;refine AG4 (AUm<|A7s AGp AGp AGp) λq hq=>AGy ?_;subst hq;refine Ay3 a1 AGp ?_;have h5:r2 * (x1 * (2 * b))=r2 * ((2 * a + b) * x2):=by grind
  exact Int.eq_of_mul_eq_mul_left (show r2≠0 by omega) h5
end Go.Proofs.YtkakafabeobahaaGreatDoor
namespace Go.Proofs.YtkakafabeobahaaGreatDoor
open Go Go.QF
set_option maxRecDepth 100000
theorem A7t {n:Nat} (hn:n<=8) (hj:j + 1 < n) (hb:∀ i j,i < n->j < n->(F i j).natAbs<=mN n) (hf:100 < fuel):Ok (AYu fuel (tab n n F) (AV1 n λa=>det (a + 1) F) ((j + 1:Nat):Int)) λr=>r=true↔LvF F j:=by
 show Ok _ λr:Bool=>r=true↔3 * (det (j + 1) F * det (j + 1) F)<=4 * (det j F * det (j + 2) F + Mn j F (j + 1) j * Mn j F (j + 1) j);unfold AYu;have w1:w64 (((j + 1:Nat):Int) - 1)=(j:Int):=by rw [wk AGp];omega
 have w2:w64 (((j + 1:Nat):Int) + 1)=((j + 2:Nat):Int):=by rw [wk AGp];omega
 rw [w1,w2];have hD:=A67 n;have bl:(Mn j F (j + 1) j).natAbs<=gN n:=Ato hn AGp AGp AGp hb;have b0:(det j F).natAbs<=gN n:=Ans hn AGp hb;have b1:(det (j + 1) F).natAbs<=gN n:=Ans hn AGp hb;have b2:(det (j + 2) F).natAbs<=gN n:=Ans hn AGp hb;have p1:=Nat.mul_le_mul b0 b2;have p2:=Nat.mul_le_mul bl bl;have p3:=Nat.mul_le_mul b1 b1;have e1:=Int.natAbs_mul (det j F)<|det (j + 2) F;have e2:=Int.natAbs_mul (Mn j F (j + 1) j)<|Mn j F (j + 1) j;have e3:=Int.natAbs_mul (det (j + 1) F)<|det (j + 1) F;refine AG4 (AUm<|Atn hn AGp AGp hb hf) λl hl=>?_;subst hl;refine AG4 (Q:=(· =4)) ⟨4,if_pos AGp,rfl⟩ λx hx=>?_;subst hx;refine AG4 (AUm<|Aoj AGp hn) λx hx=>AG4 (AUm<|Aoj AGp hn) λy hy=>?_;subst hx;subst hy;refine AG4 (AUm (a:=det j F * det (j + 2) F)<|if_pos AGp) λx hx=>AG4 (AUm (a:=Mn j F (j + 1) j * Mn j F (j + 1) j)<|if_pos AGp) λy hy=>?_;subst hx;subst hy;generalize det j F * det (j + 2) F=P at *;generalize Mn j F (j + 1) j * Mn j F (j + 1) j=L at *;refine AG4 (AUm (a:=P + L)<|if_pos AGp) λx hx=>AG4 (AUm (a:=4 * x)<|if_pos<|by grind) λy hy=>?_;subst hx;subst hy;refine AG4 (Q:=(· =3)) ⟨3,if_pos AGp,rfl⟩ λx hx=>?_;subst hx;refine AG4 (AUm<|Aoj AGp hn) λx hx=>AG4 (AUm<|Aoj AGp hn) λy hy=>?_;subst hx;subst hy;refine AG4 (AUm (a:=det (j + 1) F * det (j + 1) F)<|if_pos AGp) λx hx=>?_;subst hx;generalize det (j + 1) F * det (j + 1) F=S at *;refine AG4 (AUm (a:=3 * S)<|if_pos<|by grind) λx hx=>AG4 (AUm (a:=Alc (4 * (P + L)) x) rfl) λc hc=>AGy ?_;subst hx;subst hc;rw [decide_eq_true_iff];unfold Alc;omega
def Alk (A:ATa) (i j:Nat):Int:= -((2 * Mn j A i j + det (j + 1) A) / (2 * det (j + 1) A))
def Ao8 (A:ATa) (i j:Nat):ATa:=AU5 dl j λq=>if q=i then Alk A i j else dl j q
def Ap2 (A:ATa) (i:Nat):Prop:= ∀ r l,l < r->r < i->SzF A r l
def Arl (A:ATa) (i:Nat):Prop:= ∀ r,r + 1 < i->LvF A r
def A7u (n:Nat) (A:ATa) (r:List (List Int) × Bool):Prop:=
 (r=([],false)/\Ap2 A n/\Arl A n)∨
 (∃ i j,j < i/\i < n/\¬ SzF A i j/\Ap2 A i/\(∀ l,l < i->j < l->SzF A i l)/\Arl A i/\r=(tab n n<|Ao8 A i j,true))∨
 ∃ j,j + 1 < n/\¬ LvF A j/\Ap2 A (j + 2)/\Arl A (j + 1)/\r=(tab n n<|AYg dl (j + 1) j,true)
theorem BD6 {n:Nat} (Ah:1<=n) (hn:n<=8) (hp:Afl n A) (hb:∀ i j,i < n->j < n->(A i j).natAbs<=mN n) (hf:AXu < fuel):Ok (AZu fuel<|tab n n A) (A7u n A):=by
 have Ab:100 < fuel:=Nat.lt_of_le_of_lt AGr hf;have hD:=A67 n;unfold AZu;refine AG4 (AUm<|Ava Ah hn hb Ab) λx hx=>?_;subst hx;dsimp only;rw [AUe];refine AG4 (AUm<|A2m Ah AGp Ab) λx hx=>?_;subst hx;dsimp only;refine AG4 (AUj (λi s=>s=(((i:Nat):Int),tab n n dl)/\i<=n/\Ap2 A i/\Arl A i) n (Q:=λex=>match ex with | .inl r=>A7u n A r | .inr _=>Ap2 A n/\Arl A n) ⟨rfl,Nat.zero_le _,λr l h1 h2=>by omega,λr h=>by omega⟩ AGp λi s hi hI=>?_) λex hex=>?_
 ·obtain ⟨rfl,hin,hsz,hlv⟩:=hI;unfold Adm;dsimp only;rw [AUe];refine AT1 (λh=>?_) λh=>AGy ?_
  ·have hi':i < n:=by omega
   refine AG4 (AUj (λk s=>s=((i:Int) - 1 - k,tab n n dl)/\k<=i/\ ∀ l,l < i->i<=l + k->SzF A i l) i (Q:=λex=>match ex with | .inl r=>A7u n A r | .inr e=>e=tab n n dl/\ ∀ l,l < i->SzF A i l) ⟨by rw [wk AGp];simp,Nat.zero_le _,λl h1 h2=>by omega⟩ AGp λk s hk hK=>?_) λex hex=>?_
   ·obtain ⟨rfl,hki,hz⟩:=hK;unfold Adl;dsimp only;refine AT1 (λh2=>?_) λh2=>AGy ⟨rfl,λl hl=>hz l hl AGp⟩;obtain ⟨j,hj⟩:∃ j:Nat,(i:Int) - 1 - k=j:=⟨i - 1 - k,AGp⟩;rw [hj];have hji:j < i:=by omega
    refine AG4 (AUm<|BA0 hn hi' AGp hb Ab) λb Ag=>?_;subst Ag;refine AT1 (λh3=>?_) λh3=>AGy ⟨AGp,?_,AGp,λl h4 h5=>?_⟩
    ·have hbad: ¬ SzF A i j:=λh=>by rw [<- A2h] at h;simp [h] at h3
     refine ATz (AUk AGp) rfl (AG4 (AUm<|Atn hn hi' AGp hb Ab) λl hl=>?_);subst hl;rw [show w64 ((j:Int) + 1)=((j + 1:Nat):Int) by rw [wk AGp];omega];refine AG4 (AUm<|Aoj AGp hn) λd hd=>?_;subst hd;have bl:(Mn j A i j).natAbs<=gN n:=Ato hn hi' AGp AGp hb;have b1:(det (j + 1) A).natAbs<=gN n:=Ans hn AGp hb;have hd:=hp (j + 1) AGp;have hDD:gN n<=gN n * gN n:=Nat.le_mul_of_pos_left _ AGp;refine AG4 (BD4 AGp AGp AGp hf) λq hq=>?_;obtain ⟨x,y⟩:=q;obtain ⟨q1,q2,q3,q4⟩:=hq;dsimp only at q1 q2 q3 q4 ⊢;refine AG4 (BD5 AGp q1 hf) λm hm=>AG4 (AUm (a:= -m) rfl) λc hc=>?_
     have Ao:c=Alk A i j:=by
      rw [hc,hm]
      unfold Alk
      congr 1
      refine Ay3 AGp AGp ?_
      grind
     clear hm hc;refine ATz (AT4 hi') rfl (AGy<|.inr<|.inl ⟨i,j,hji,hi',hbad,hsz,λl h4 h5=>hz l h4 AGp,hlv,?_⟩);rw [AU2,AU2,AWf,Ao,show (AV1 n λq=>if q=i then Alk A i j else dl j q)=(List.range n).map λq=>if q=i then Alk A i j else dl j q from rfl,Adc];rfl
    ·rw [wk AGp];grind
    ·have hgood:SzF A i j:=by rw [<- A2h];simpa using h3
     grind
   ·cases ex with
    | inl r=>exact AGy hex
    | inr e=>
      obtain ⟨rfl,hzi⟩:=hex
      have hsz':Ap2 A (i + 1):=λr l h1 h2=>by
       rcases Nat.lt_or_ge r i with h3 | h3
       ·exact hsz r l h1 h3
       grind
      dsimp only
      have nx:w64 ((i:Int) + 1)=((i + 1:Nat):Int):=by rw [wk AGp];omega
      refine AT1 (λh4=>?_) λh4=>AGy ⟨AGp,by rw [nx],AGp,hsz',λr hr=>by omega⟩
      obtain ⟨j,rfl⟩:∃ j,i=j + 1:=⟨i - 1,AGp⟩
      refine AG4 (A7t hn hi' hb Ab) λb Ag=>?_
      refine AT1 (λh5=>?_) λh5=>AGy ⟨AGp,by rw [nx],AGp,hsz',λr hr=>?_⟩
      ·have hbad: ¬ LvF A j:=λh=>by grind
       rw [show w64 (((j + 1:Nat):Int) - 1)=(j:Int) by rw [wk AGp];omega]
       refine ATz (AUk AGp) rfl (ATz (AUk hi') rfl (AGy<|.inr<|.inr ⟨j,hi',hbad,hsz',hlv,?_⟩))
       rw [AU2,AU2,show AV1 n (dl j)=(List.range n).map (dl j) from rfl,show AV1 n (dl<|j + 1)=(List.range n).map (dl<|j + 1) from rfl,Adc,Adc]
       rfl
      ·have hgood:LvF A j:=Ag.1 (by simpa using h5)
       rcases Nat.lt_or_ge r j with h6 | h6
       ·exact hlv r AGp
       grind
  grind
 ·cases ex with
  | inl r=>exact AGy hex
  | inr u=>exact AGy<|.inl ⟨rfl,hex⟩
end Go.Proofs.YtkakafabeobahaaGreatDoor
namespace Go.QF
open Go
def PrI (p:Int):Prop:=2<=p/\ ∀ x y:Int,p ∣ x * y->p ∣ x∨p ∣ y
theorem PrI.ne (hp:PrI p):p≠0:=by have:=hp.1;omega
theorem AWw {a b:Nat} (h:a<=b):p ^ a ∣ p ^ b:=⟨p ^ (b - a),by rw [<- Int.pow_add];congr 1;omega⟩
theorem Ap3 {m:Int} (h:Eqm m x y) (hd:d ∣ m) (hy:d ∣ y):d ∣ x:=by
 have h1:m ∣ x - y:=Int.dvd_of_emod_eq_zero<|Int.emod_eq_emod_iff_emod_sub_eq_zero.1 h;have h2:=Int.dvd_add (Int.dvd_trans hd h1) hy;grind
theorem Abp {m:Int} (h:m ∣ x - y):Eqm m x y:=Int.emod_eq_emod_iff_emod_sub_eq_zero.2<|Int.emod_eq_zero_of_dvd h
theorem Afm {m:Int} (h:Eqm m x y):m ∣ x - y:=Int.dvd_of_emod_eq_zero<|Int.emod_eq_emod_iff_emod_sub_eq_zero.1 h
theorem Eqm.down {m:Int} (h:Eqm m x y) (hd:d ∣ m):Eqm d x y:=Abp<|Int.dvd_trans hd<|Afm h
theorem Amj {m:Int}:Eqm m x 0↔m ∣ x:=⟨λh=>by simpa using Afm h,λh=>Abp<|by simpa using h⟩
theorem BA2 {n:Nat} {S:ATa} (hk:k<=n) (hz:∀ r c,r < k->k<=c->c < n->p ∣ S r c):Eqm p (det n S) (det k S * det (n - k) (shF k S)):=by
 let Z:ATa:=λr c=>if r < k/\k<=c then 0 else S r c
 have h1:Eqm p (det n S) (det n Z):=Awe λr c hr hc=>by
  show Eqm p (S r c) (if r < k/\k<=c then 0 else S r c)
  split
  ·next h=>exact Amj.2<|hz r c h.1 h.2 hc
  ·exact Eqm.refl _ _
 obtain ⟨m,rfl⟩:∃ m,n=k + m:=⟨n - k,AGp⟩;refine h1.trans<|Eqm.of_eq ?_
 rw [<- Acy,Alf (T:=trF Z) λa b ha _ hb=>?_,show k + m - k=m by omega]
 ·congr 1
  ·rw [<- Acy S];refine AUb λa b ha hb=>?_;show (if b < k/\k<=a then (0:Int) else _)=_;rw [if_neg AGp];rfl
  ·rw [<- Acy (shF k S)];refine AUb λa b ha hb=>?_;show (if k + b < k/\k<=k + a then (0:Int) else _)=_;rw [if_neg AGp];rfl
 ·show (if b < k/\k<=a then (0:Int) else _)=0;omega
def Car (n K:Nat) (p:Int) (D S D':ATa):Prop:= ∀ i j,i < n->j < n->Eqm (p ^ K) (AUy n (trF S) (AUy n D S) i j) (D' i j)
theorem Ap4 (c:Int) (f:Nat->Int) (n:Nat):c * psum f n=psum (λi=>c * f i) n:=(AVv c f n).symm
theorem Ags (c:Int) (f:Nat->Int) (n:Nat):psum f n * c=psum (λi=>f i * c) n:=by
 rw [Int.mul_comm,Ap4];grind
section
variable {n K:Nat} {p:Int} {e f:Nat->Nat} {a b D D' S:ATa}
theorem A2o (hp:PrI p) (m:Nat):p ^ m≠0:=Int.pow_ne_zero hp.ne
theorem AZk {B C:ATa} (i j:Nat):AUy n (AUy n A B) C i j=AUy n A (AUy n B C) i j:=by
 unfold AUy;rw [ATf (g:=λk=>psum (λl=>A i l * B l k * C k j) n) λk _=>Ags _ _ _,Agy]
 exact ATf λl _=>by
  rw [Ap4]
  grind
end
end Go.QF
namespace Go.Proofs.YtkakafabeobahaaGreatDoor
open Go Go.QF
set_option maxRecDepth 100000
theorem A7v {S E:Type} {body:S->Option (S ⊕ E)} {Q:E->Prop} (I:Nat->S->Prop) (hs:∀ k s,I k s->Ok (body s) λr=>match r with | .inl s'=> ∃ k',k' < k/\I k' s' | .inr e=>Q e):∀ {fuel k:Nat} {s0:S},I k s0->k < fuel->Ok (iter body fuel s0) Q:=by
 intro fuel;induction fuel with
 | zero=>omega
 | succ f ih=>
   intro k s0 h0 hf;obtain ⟨r,hr,hq⟩:=hs k s0 h0;cases r with
   | inl s'=>
     obtain ⟨k',h1,h2⟩:=hq;obtain ⟨e,he,hQ⟩:=ih h2 AGp;exact ⟨e,by simp [iter,hr,he],hQ⟩
   | inr e=>exact ⟨e,by simp [iter,hr],hq⟩
theorem Ay4 {n:Nat} (hj:j < i) (hi:i < n) (hs:s < n) (X:Nat->Int):psum (λk=>X k * Ao8 A i j k s) n=X s + if s=i then Alk A i j * X j else 0:=by
 have h1:∀ k,X k * Ao8 A i j k s=X k * dl k s + (if k=j then (if s=i then Alk A i j * X j else 0) else 0):=λk=>by
  unfold Ao8
  rw [AT7]
  split
  ·next h=>
   subst h
   split
   ·next h2=>subst h2;unfold dl;grind
   ·simp
  ·simp
 rw [ATf λk _=>h1 k,Acl,Agn X hs,Adx (a:=j) AGp λk _ hk=>if_neg hk,if_pos rfl]
theorem Ay5 {n:Nat} (hj:j < i) (hi:i < n) (hr:r < n) (hs:s < n):AUy n (AUy n (trF<|Ao8 A i j) A) (Ao8 A i j) r s=Ap1 A i j (Alk A i j) r s:=by
 have h2:∀ k,AUy n (trF<|Ao8 A i j) A r k=A r k + if r=i then Alk A i j * A j k else 0:=λk=>by
  show psum (λl=>Ao8 A i j l r * A l k) n=_
  rw [ATf (g:=λl=>A l k * Ao8 A i j l r) λl _=>Int.mul_comm _ _]
  exact Ay4 hj hi hr λl=>A l k
 show psum (λk=>AUy n (trF<|Ao8 A i j) A r k * Ao8 A i j k s) n=_;rw [Ay4 hj hi hs λk=>AUy n (trF<|Ao8 A i j) A r k];rw [h2,h2,Ar5];grind
theorem Awn (j k s:Nat):AYg dl (j + 1) j k s=dl (tau j k) s:=by
 rw [Afv];unfold tau;grind
theorem A2p (j k:Nat):tau j (tau j k)=k:=by unfold tau;grind
theorem BD7 {n:Nat} (hj:j + 1 < n) (hk:k < n):tau j k < n:=by unfold tau;grind
theorem A2q {n:Nat} (hj:j + 1 < n) (hs:s < n) (X:Nat->Int):psum (λk=>X k * AYg dl (j + 1) j k s) n=X (tau j s):=by
 rw [Adx (a:=tau j s) (BD7 hj hs) λk hk hne=>?_]
 ·rw [Awn,A2p];unfold dl;grind
 ·rw [Awn];unfold dl;rw [if_neg λh=>hne<|by rw [<- h,A2p]];simp
theorem A2r {n:Nat} (hj:j + 1 < n) (hr:r < n) (hs:s < n):AUy n (AUy n (trF<|AYg dl (j + 1) j) A) (AYg dl (j + 1) j) r s=swA A j r s:=by
 show psum (λk=>AUy n (trF<|AYg dl (j + 1) j) A r k * AYg dl (j + 1) j k s) n=_;rw [A2q hj hs λk=>AUy n (trF<|AYg dl (j + 1) j) A r k];show psum (λl=>AYg dl (j + 1) j l r * A l (tau j s)) n=_;rw [ATf (g:=λl=>A l (tau j s) * AYg dl (j + 1) j l r) λl _=>Int.mul_comm _ _];exact A2q hj hr λl=>A l<|tau j s
theorem Abq {n:Nat} {A' B B':ATa} (hA:∀ k,k < n->A i k=A' i k) (hB:∀ k,k < n->B k j=B' k j):AUy n A B i j=AUy n A' B' i j:=ATf λk hk=>by grind
theorem Aok {n:Nat} {T U:ATa} (i j:Nat):trF (AUy n T U) i j=AUy n (trF U) (trF T) i j:=ATf λk _=>Int.mul_comm _ _
def Ai9 (n:Nat) (A0 T A:ATa):Prop:= ∀ i j,i < n->j < n->A i j=AUy n (trF T) (AUy n A0 T) i j
theorem Ajd {n:Nat} {T U B:ATa} (H:Ai9 n A0 T A) (K:∀ i j,i < n->j < n->AUy n (AUy n (trF U) A) U i j=B i j):Ai9 n A0 (AUy n T U) B:=λi j hi hj=>by
 rw [<- K i j hi hj,AZk]
 have h1:AUy n (trF U) (AUy n A U) i j=AUy n (trF U) (AUy n (trF T)<|AUy n A0<|AUy n T U) i j:=by
  refine Abq (λ_ _=>rfl) λk hk=>?_;rw [Abq (A':=AUy n (trF T)<|AUy n A0 T) (λl hl=>H k l hk hl) λ_ _=>rfl,AZk];refine Abq (λ_ _=>rfl) λl hl=>?_;rw [AZk]
 rw [h1,<- AZk];exact Abq (λk _=>(Aok i k).symm) λ_ _=>rfl
theorem Awo {n:Nat}:Ai9 n A dl A:=λi j hi hj=>by
 show _=psum (λk=>dl k i * AUy n A dl k j) n
 rw [ATf (g:=λk=>AUy n A dl k j * dl k i) λk _=>Int.mul_comm _ _,Agn (λk=>AUy n A dl k j) hi]
 exact (A0l hj).symm
theorem Ap5 {n:Nat} {T:ATa} (H:Ai9 n A0 T A):det n A=det n T * det n T * det n A0:=by
 rw [AUb H,Afw,Afw,Acy];grind
def dmN (n:Nat):Int:=if n<=6 then 2 ^ 59 else 9 ^ 8
def bdN (n:Nat):Int:=if n<=6 then 2 ^ 194 else 2 ^ 97
theorem Aq4 (n:Nat):9 ^ 8<=dmN n/\dmN n<=2 ^ 59:=by unfold dmN;split <;> decide
theorem BD8 (n:Nat):(bdN n).natAbs<=mN n:=by unfold bdN mN;split <;> decide
theorem BCm {m n:Nat} {D:Int} (hn:n<=m + 1) (hk:k<=m) (hD:0<=D):(1 + (k:Int) * ((2 ^ (n - 1) * (2 * D)) * (2 ^ (n - 1) * (2 * D)))) * D<=(1 + (m:Int) * ((2 ^ m * (2 * D)) * (2 ^ m * (2 * D)))) * D:=by
 have p0:0<=2 ^ (n - 1) * (2 * D):=Int.mul_nonneg (Int.le_of_lt<|Anr _) AGp;have h0:(2:Int) ^ (n - 1) * (2 * D)<=2 ^ m * (2 * D):=Int.mul_le_mul_of_nonneg_right (Aoi AGp) AGp;have h1:=Int.mul_le_mul h0 h0 p0 AGp;have h2:=Int.mul_le_mul (show (k:Int)<=m by omega) h1 (Int.mul_nonneg p0 p0) AGp;exact Int.mul_le_mul_of_nonneg_right AGp hD
theorem BD9 {n:Nat} (hn:n<=8) (hk:k < n):(1 + (k:Int) * ((2 ^ (n - 1) * (2 * dmN n)) * (2 ^ (n - 1) * (2 * dmN n)))) * dmN n<=bdN n:=by
 unfold dmN bdN;rcases Nat.lt_or_ge 6 n with h | h
 ·rw [if_neg AGp,if_neg AGp];exact Int.le_trans (BCm (m:=7) AGp AGp AGr) AGr
 ·rw [if_pos h,if_pos h];exact Int.le_trans (BCm (m:=5) AGp AGp AGr) AGr
theorem BEa (n:Nat):3 * dmN n<=bdN n:=by unfold dmN bdN;split <;> decide
theorem BA3 {n:Nat} (hn:n<=8) (h:Awj n (dmN n) A i t):∀ k,k < n->A k k<=bdN n:=λk hk=>by
 by_cases e:k=i
 ·subst e
  have hd:=(Aq4 n).1
  have h1:=Au8 (p:=(2 ^ (n - 1) * (2 * dmN n)) * (2 ^ (n - 1) * (2 * dmN n))) (q:=1) h.sym h.pos h.hi h.dm (sq_nonneg _) AGr (λl hl=>by
   have h2:=h.lamb l hl
   have h3:(2:Int) ^ t * (2 * dmN n)<=2 ^ (n - 1) * (2 * dmN n):=Int.mul_le_mul_of_nonneg_right (Aoi (by have:=h.ht;omega)) AGp
   have h4:=h.pos (l + 1) AGp
   have h5:=Int.mul_le_mul_of_nonneg_right h3<|Int.le_of_lt h4
   have h6:=Anq (x:=Mn l A k l) (y:=2 ^ (n - 1) * (2 * dmN n) * det (l + 1) A) AGp AGp
   grind) k 0 AGp
  rw [Ae3,show det 0 A=1 from rfl,Int.one_mul,Int.mul_one] at h1
  exact Int.le_trans h1<|BD9 hn hk
 ·exact Int.le_trans (h.rows k hk e)<|BEa n
theorem Ay6 {n:Nat} {B:Int} (hs:Ac6 n A) (hp:Afl n A) (hB:∀ k,k < n->A k k<=B) (hi:i < n) (hj:j < n): -B<=A i j/\A i j<=B:=by
 have h1:=Aq0 (k:=0) hs hp (Nat.zero_le _) hi hj;simp only [Ae3] at h1;have p1:=Aq1 (k:=0) hs hp (Nat.zero_le _) hi;have p2:=Aq1 (k:=0) hs hp (Nat.zero_le _) hj;simp only [Ae3] at p1 p2;have h2:=Int.mul_le_mul (hB i hi) (hB j hj) p2<|Int.le_trans p1<|hB i hi;exact Ayx (Int.le_trans p1<|hB i hi)<|Int.le_trans h1 h2
theorem Awp {n:Nat} {B:Int} (hs:Ac6 n A) (hp:Afl n A) (hB:∀ k,k < n->A k k<=B) (hi:i < n) (hj:j < n):(A i j).natAbs<=B.natAbs:=by
 have:=Ay6 hs hp hB hi hj;omega
def Ats:Nat:=(2 ^ 158) ^ 10
theorem Ay7:16 * (Ats * Ats) < AXu:=by decide
def Avb:Nat:=(2 ^ 220) ^ 5
theorem BGf {n:Nat} {T:ATa} (hn:n<=8) (hE:∀ i j,(A0 i j).natAbs<=2 ^ 60) (hs:Ac6 n A0) (hp:Afl n A0) (H:Ai9 n A0 T A) (hB:∀ k,k < n->A k k<=bdN n) (hk:k < n) (hs2:s < n):(T k s).natAbs<=Avb:=by
 have h1:=A2d hs hp (λr=>T r s) hk
 have h2:bil n 0 A0 (λr=>T r s) (λr=>T r s)=A s s:=by
  rw [H s s hs2 hs2];show _=psum (λi=>T i s * psum (λj=>A0 i j * T j s) n) n;unfold bil;refine ATf λi _=>?_;rw [<- AVv];exact ATf λj _=>by rw [Ae3];grind
 rw [h2] at h1
 have h3:(Agi n A0 k k).natAbs<=dBd (2 ^ 60) 9:=by
  refine Nat.le_trans (Arz (m:=2 ^ 60) λi j=>?_)<|Aif AGr AGp;rw [AT7]
  split
  ·unfold dl;split <;> decide
  ·exact hE i j
 have h4:Agi n A0 k k * A s s<=(dBd (2 ^ 60) 9:Nat) * bdN n:=by
  have p0:0<=A s s:=by
   have:A s s=bil n 0 A0 (λr=>T r s) (λr=>T r s):=h2.symm;rw [this];exact Ah1 hs hp _ n 0 AGp
  have b1:Agi n A0 k k<=(dBd (2 ^ 60) 9:Nat):=by omega
  have b2:=Int.mul_le_mul_of_nonneg_right b1 p0;have b3:=Int.mul_le_mul_of_nonneg_left (hB s hs2) (show (0:Int)<=(dBd (2 ^ 60) 9:Nat) by omega);omega
 have h5:((dBd (2 ^ 60) 9:Nat):Int) * bdN n<=(Avb:Int) * (Avb:Int):=by unfold bdN;split <;> decide
 have h6:=Ayx (x:=T k s) (y:=(Avb:Int)) AGp<|Int.le_trans (Int.le_trans h1 h4) h5;omega
structure Aud (n:Nat) (A:ATa):Prop where
 sym:Ac6 n A
 pos:Afl n A
 sz:Ap2 A n
 lv:Arl A n
 dt:det n A<=10000
structure RSt (n:Nat) (A0 A T:ATa) (i t:Nat):Prop where
 inv:Awj n (dmN n) A i t
 car:Ai9 n A0 T A
 dt:det n A=det n A0
def BG0 (n:Nat) (A0:ATa) (k:Nat) (s:List (List Int) × List (List Int)):Prop:=
 ∃ A T i t,RSt n A0 A T i t/\s=(tab n n A,tab n n T)/\k=(Ay2 n A).toNat * 128 + (128 - (16 * i + t))
theorem A2s {n:Nat} (hp:Afl n A):0<=Ay2 n A:=by
 have:∀ m,m<=n + 1->0<=psum (λk=>det k A) m:=λm=>by
  induction m with
  | zero=>intro _;exact Int.le_refl _
  | succ m ih=>intro h;have h1:=ih AGp;have h2:=hp m AGp;simp only [psum];omega
 exact this _<|Nat.le_refl _
theorem BA4 {n:Nat} (hd:∀ k,k<=n->det k A<=dmN n):Ay2 n A<=(n + 1:Nat) * dmN n:=by
 have:∀ m,m<=n + 1->psum (λk=>det k A) m<=(m:Nat) * dmN n:=λm=>by
  induction m with
  | zero=>intro _;simp [psum]
  | succ m ih=>intro h;have h1:=ih AGp;have h2:=hd m AGp;simp only [psum];grind
 exact this _<|Nat.le_refl _
theorem A4j {n:Nat} (hn:n<=8) (hj:j < i) (hi:i < n) (hp:Afl n A) (hb:∀ i j,i < n->j < n->(A i j).natAbs<=mN n):(Alk A i j).natAbs<=3 * gN n:=by
 have b1:(Mn j A i j).natAbs<=gN n:=Ato hn hi AGp AGp hb;have b2:(det (j + 1) A).natAbs<=gN n:=Ans hn AGp hb;have hd:=hp (j + 1) AGp;unfold Alk;rw [Int.natAbs_neg];have:=Int.natAbs_ediv_le_natAbs (2 * Mn j A i j + det (j + 1) A)<|2 * det (j + 1) A;omega
theorem Avc {n:Nat} (Ac:1<=n) (hn:n<=8) (hs:Ac6 n A0) (hp:Afl n A0) (hE:∀ i j,(A0 i j).natAbs<=2 ^ 60) (hD:∀ k,k<=n->det k A0<=dmN n) (hr:∀ k,k < n->A0 k k<=3 * dmN n) (hdt:det n A0<=10000) (hf:AXu < fuel):
 Ok (AXl fuel<|tab n n A0) λr=> ∃ A T,r=(tab n n A,tab n n T,0)/\Aud n A/\Ai9 n A0 T A/\det n A=det n A0/\ ∀ k,k < n->A k k<=3 * dmN n:=by
 have Ad:100 < fuel:=Nat.lt_of_le_of_lt AGr hf;have Ar:100000000 < fuel:=Nat.lt_of_le_of_lt AGr hf;have Aj:∀ i j,i < n->j < n->(A0 i j).natAbs<=mN n:=λi j _ _=>Nat.le_trans (hE i j)<|Nat.le_trans AGr<|Ayo n;unfold AXl;refine AG4 (Atq Ac hn Aj Ad) λv hv=>?_;have Ao:=hv.2 ⟨hs,hp⟩;subst Ao;refine AT1 (λh=>absurd rfl h) λ_=>AG4 (AUm<|BA1 hn Aj Ad) λb hb=>?_;subst hb;refine AT1 (λh=>by simp [hdt] at h) λ_=>?_;refine AG4 (AUm<|A19 (A:=tab n n A0) (by rw [AUe];omega) (λz hz=>by rw [Apm z hz];omega) (by rw [AUe];omega)) λx hx=>?_;subst hx;rw [AUe];refine AG4 (AUm<|A2m Ac AGp Ad) λx hx=>?_;subst hx;dsimp only;refine AG4 (A7v (BG0 n A0) (Q:=λr=> ∃ A T,r=(tab n n A,tab n n T,0)/\Aud n A/\Ai9 n A0 T A/\det n A=det n A0/\ ∀ k,k < n->A k k<=3 * dmN n) (λk s hI=>?_) (k:=(Ay2 n A0).toNat * 128 + 128) ⟨A0,dl,0,0,⟨Atm Ac hs hp hD hr,Awo,rfl⟩,rfl,rfl⟩ ?_) λr hr=>AGy hr
 ·obtain ⟨A,T,i,t,R,rfl,rfl⟩:=hI;have L:=R.inv;have hbd:=BA3 hn L;have hb:∀ i j,i < n->j < n->(A i j).natAbs<=mN n:=λi j hi hj=>Nat.le_trans (Awp L.sym L.pos hbd hi hj)<|BD8 n;have hT:∀ k s,k < n->s < n->(T k s).natAbs<=Avb:=λk s hk Ab=>BGf hn hE hs hp R.car hbd hk Ab;have hTD:Avb<=Ats:=by decide
  have hg:=A68 n;have hgm:=BF7 n;have Ap:=Ayo n;have hMD:mN n<=Ats:=Nat.le_trans (Nat.le_trans (Nat.le_mul_of_pos_left _<|show 0 < 24 * gN n by omega)<|Nat.le_of_eq<|Nat.mul_assoc 24 (gN n)<|mN n) hgm;have hGD:3 * gN n<=Ats:=Nat.le_trans (Nat.le_trans (show 3 * gN n<=24 * gN n by omega)<|Nat.le_mul_of_pos_right _<|Nat.lt_of_lt_of_le AGr Ap)<|Nat.le_trans (Nat.le_of_eq<|Nat.mul_assoc 24 (gN n)<|mN n) hgm;unfold Acf;refine AG4 (BD6 Ac hn L.pos hb hf) λr hr=>?_
  have prod:∀ {U:ATa},(∀ i j,i < n->j < n->(U i j).natAbs<=3 * gN n)->(AV0 fuel (tab n n A) (tab n n U)=some (tab n n<|AUy n (AUy n (trF U) A) U)/\AVi fuel (tab n n T) (tab n n U)=some (tab n n<|AUy n T U)):=λ{U} hU=>by
   have Ak:∀ i j,i < n->j < n->(U i j).natAbs<=Ats:=λi j hi hj=>Nat.le_trans (hU i j hi hj) hGD
   refine ⟨A2k Ac AGp Ay7 (λi j hi hj=>Nat.le_trans (hb i j hi hj) hMD) Ak (λi j hi hj=>?_) Ad,?_⟩
   ·have h3:(AUy n (trF U) A i j).natAbs=(psum (λl=>U l i * A l j) n).natAbs:=rfl
    have h4:∀ l,l < n->(U l i).natAbs<=3 * gN n/\(A l j).natAbs<=mN n:=λl hl=>⟨hU l i hl hi,hb l j hl hj⟩
    have h5:(psum (λl=>U l i * A l j) n).natAbs<=n * (3 * gN n * mN n):=by
     refine QF.psum_abs λl hl=>?_
     rw [Int.natAbs_mul]
     exact Nat.mul_le_mul (h4 l hl).1 (h4 l hl).2
    have h6:n * (3 * gN n * mN n)<=8 * (3 * gN n * mN n):=Nat.mul_le_mul_right _ hn
    have h7:8 * (3 * gN n * mN n)<=Ats:=Nat.le_trans (Nat.le_of_eq<|by rw [Nat.mul_assoc 3,<- Nat.mul_assoc 8]) hgm
    omega
   ·unfold AVi
    rw [A7r Ac AGp Ay7 (λi j hi hj=>Nat.le_trans (hT i j hi hj) hTD) Ak Ad]
    rfl
  rcases hr with ⟨rfl,hsz,hlv⟩ | ⟨i',j,hji,hi',hbad,hsz,hzi,hlv,rfl⟩ | ⟨j,hj,hbad,hsz,hlv,rfl⟩
  ·dsimp only;refine AT1 (λ_=>?_) λh=>absurd rfl h;have hrest:=Aoh hn L λl hl=>hsz i l hl L.hi;refine AG4 (AUm<|BGc Ac AGp (λi j hi hj=>Nat.lt_of_le_of_lt (Awp L.sym L.pos hrest hi hj) (by have:=Aq4 n;omega)) Ad) λx hx=>AGy ?_;subst hx;exact ⟨A,T,rfl,⟨L.sym,L.pos,hsz,hlv,by rw [R.dt];exact hdt⟩,R.car,R.dt,hrest⟩
  ·dsimp only;refine AT1 (λh=>absurd h AGr) λ_=>?_
   have hU:∀ r s,r < n->s < n->(Ao8 A i' j r s).natAbs<=3 * gN n:=λr s hr Ab=>by
    have hdl:∀ a b,(dl a b).natAbs<=3 * gN n:=λa b=>by unfold dl;split <;> omega
    unfold Ao8
    rw [AT7]
    split
    ·split
     ·exact A4j hn hji hi' L.pos hb
     ·exact hdl _ _
    ·exact hdl _ _
   obtain ⟨e1,e2⟩:=prod hU;refine AG4 (AUm e1) λx hx=>AG4 (AUm e2) λy hy=>AGy ?_;subst hx;subst hy;obtain ⟨L2,hm⟩:=A4h hn L hi' hji hbad hsz hzi hlv;have hsum:Ay2 n (Ap1 A i' j<|Alk A i' j)=Ay2 n A:=ATf λk _=>Ah6 hji;refine ⟨_,?_,Ap1 A i' j<|Alk A i' j,AUy n T<|Ao8 A i' j,i',i' - j,⟨L2,Ajd R.car λr s hr Ab=>Ay5 hji hi' hr Ab,by rw [Ah6 hji];exact R.dt⟩,?_,rfl⟩
   ·omega
   ·rw [Ada λr s hr Ab=>Ay5 hji hi' hr Ab]
  ·dsimp only;refine AT1 (λh=>absurd h AGr) λ_=>?_
   have hU:∀ r s,r < n->s < n->(AYg dl (j + 1) j r s).natAbs<=3 * gN n:=λr s hr Ab=>by
    rw [Awn];unfold dl;split <;> omega
   obtain ⟨e1,e2⟩:=prod hU;refine AG4 (AUm e1) λx hx=>AG4 (AUm e2) λy hy=>AGy ?_;subst hx;subst hy;obtain ⟨L2,hm⟩:=A4i hn L hj hbad (λr l h1 h2=>hsz r l h1 AGp) λr hr=>hlv r AGp;refine ⟨_,?_,swA A j,AUy n T<|AYg dl (j + 1) j,0,0,⟨L2,Ajd R.car λr s hr Ab=>A2r hj hr Ab,by rw [A2e AGp];exact R.dt⟩,?_,rfl⟩
   ·have h1:=A2s L.pos;have h2:=A2s L2.pos;have:=L.hi;have:=L.ht;omega
   ·rw [Ada λr s hr Ab=>A2r hj hr Ab]
 ·have h1:=BA4 hD;have h2:((n + 1:Nat):Int) * dmN n<=9 * dmN n:=Int.mul_le_mul_of_nonneg_right AGp (by have:=Aq4 n;omega);have h3:9 * dmN n<=9 * 2 ^ 59:=Int.mul_le_mul_of_nonneg_left (Aq4 n).2 AGr;have h4:9 * 2 ^ 59 * 128 + 128 < AXu:=by decide
  omega
def part (n i:Nat) (G:ATa):List (List Int):=AV1 n λr=>if r < i then AV1 n (G r) else []
theorem Ady {n:Nat} (hr:r < i) (hn:r < n):(part n i G)[r]? =some (AV1 n<|G r):=by
 unfold part;rw [AT4 hn,if_pos hr]
theorem Aja {n:Nat} (hn:i < n):(part n i G)[i]? =some []:=by
 unfold part;rw [AT4 hn,if_neg<|Nat.lt_irrefl i]
theorem Afn {n:Nat} (hr:r < i):(part n i G).set r (AV1 n g)=part n i (AU5 G r g):=by
 unfold part;rw [AWf];refine AUp λk _=>?_;by_cases h:k=r
 ·subst h;rw [if_pos rfl,if_pos hr,AVa]
 ·rw [if_neg h,AYo _ _ h]
theorem Ahh {n:Nat}:(part n i G).set i (AV1 n g)=part n (i + 1) (AU5 G i g):=by
 unfold part;rw [AWf];refine AUp λk _=>?_;by_cases h:k=i
 ·subst h;rw [if_pos rfl,if_pos AGp,AVa]
 ·rw [if_neg h,AYo _ _ h];grind
theorem Afx (n:Nat) (G:ATa):part n n G=tab n n G:=by
 unfold part;rw [Aie];exact AUp λk hk=>if_pos hk
theorem Afy (n:Nat) (G:ATa):List.replicate n ([]:List Int)=part n 0 G:=by
 rw [AYv];exact AUp λk _=>(if_neg AGp).symm
theorem Amk {L:List Int} {q:Nat} (hq:q < 4611686018427387904):Ok (if (L.length:Int)<=((q:Nat):Int) then (some ((0:Int),((q:Nat):Int))) else ((gI L<|w64<|(w64<|((q:Nat):Int) + 1) - 1).bind λx=>(some ((w64 x),(w64<|((q:Nat):Int) + 1))))) λe=> ∃ p:Nat,e.2=(p:Int)/\p<=q + 1:=by
 refine AT1 (λh=>AGy ⟨q,rfl,AGp⟩) λh=>?_;have hl:q < L.length:=by omega
 refine ATz (n:=q) (List.getElem?_eq_getElem hl) (by rw [AWm (x:=(q:Int) + 1) AGp AGp,wk AGp];omega)<|AGy ⟨q + 1,?_,AGp⟩;rw [AWm (x:=(q:Int) + 1) AGp AGp];omega
theorem Alm (x:Int) (m:Nat) (hm:0 < m):0<=Int.tmod (w64<|IntKind.wrap .u8 x) (m:Int)/\Int.tmod (w64<|IntKind.wrap .u8 x) (m:Int) < m:=by
 have h1:IntKind.wrap .u8 x=x % 256:=by rw [IntKind.wrap_u8]
 rw [h1];have a1:=Int.emod_nonneg x (show (256:Int)≠0 by decide);have a2:=Int.emod_lt_of_pos x (show (0:Int) < 256 by decide);rw [wk AGp,Int.tmod_eq_emod_of_nonneg a1];exact ⟨Int.emod_nonneg _ AGp,Int.emod_lt_of_pos _ AGp⟩
def dgF (f:Nat->Int) (r c:Nat):Int:=if c=r then f r else 0
theorem BGg {L:List Int} (hN:w64 (1 + (Int.tmod (w64 a1) Ac))=(N:Int)) (Af:N<=8) (Ag:q0<=1000) (hf:100 < fuel):
 Ok (iter (λs=>AXm fuel a1 L Ac s.1 s.2.1 s.2.2) fuel (0,(q0:Int),(List.replicate (Int.toNat<|w64<|1 + (Int.tmod (w64 a1) Ac)) ([]:List Int)))) λe=> ∃ (q:Nat) (f:Nat->Int),e=((q:Int),tab N N<|dgF f)/\q<=q0 + N/\ ∀ r,r < N->1<=f r/\f r<=6:=by
 refine AUj (λi s=> ∃ (q:Nat) (f:Nat->Int),s=(((i:Nat):Int),(q:Int),part N i<|dgF f)/\i<=N/\q<=q0 + i/\ ∀ r,r < i->1<=f r/\f r<=6) N ⟨q0,λ_=>0,by rw [hN,Int.toNat_natCast,Afy N<|dgF λ_=>0];rfl,AGp,AGp,λr hr=>by omega⟩ AGp λi s hi hI=>?_;obtain ⟨q,f,rfl,hiN,hq,Ad⟩:=hI;unfold AXm;dsimp only;rw [List.length_replicate,hN,Int.toNat_natCast];refine AT1 (λh=>AVb AGp ?_) λh=>AGy ?_
 ·have hi':i < N:=by omega
  refine ATz (Aja hi') rfl ?_;rw [AU2,AYv N (0:Int),Ahh];refine ATz (Ady AGp hi') rfl ?_;rw [AVa];refine AG4 (Q:=λe:Int × Int=>0<=e.1/\e.1 < 6/\ ∃ p:Nat,e.2=(p:Int)/\p<=q + 1) (AG4 (Amk (L:=L) (q:=q) AGp) λe he=>?_) λe he=>ATz (AT4 hi') rfl (AGy ⟨AGp,?_⟩)
  ·exact AGy ⟨(Alm _ 6 AGr).1,(Alm _ 6 AGr).2,he⟩
  ·obtain ⟨h1,h2,p,h3,h4⟩:=he;refine ⟨p,λr=>if r=i then 1 + e.1 else f r,?_,AGp,AGp,λr hr=>?_⟩
   ·rw [AWm (x:=(i:Int) + 1) AGp AGp,AWm (x:=1 + e.1) AGp AGp,h3,AU2,AU2,AWf,Afn AGp];refine congrArg (λz=>(((i + 1:Nat):Int),(p:Int),z))<|AUp λr hr=>?_;split
    ·refine AUp λc hc=>?_;rw [AT7];unfold dgF;dsimp only;split
     ·omega
     ·next h=>rw [AT7,if_neg h]
    ·rfl
   grind
 ·obtain rfl:i=N:=by omega
  exact ⟨q,f,by rw [Afx],AGp,Ad⟩
theorem BEb {L:List Int} (hN:w64 (1 + (Int.tmod (w64 a1) Ac))=(N:Int)) (Af:N<=8) (Ag:q0<=1000) (hf:100 < fuel):
 Ok (iter (λs=>AW6 fuel a1 L Ac s.1 s.2.1 s.2.2) fuel (0,(q0:Int),(List.replicate (Int.toNat<|w64<|1 + (Int.tmod (w64 a1) Ac)) ([]:List Int)))) λe=> ∃ (q:Nat) (f:Nat->Int),e=((q:Int),tab N N<|dgF f)/\q<=q0 + N/\ ∀ r,r < N->1<=f r/\f r<=9:=by
 refine AUj (λi s=> ∃ (q:Nat) (f:Nat->Int),s=(((i:Nat):Int),(q:Int),part N i<|dgF f)/\i<=N/\q<=q0 + i/\ ∀ r,r < i->1<=f r/\f r<=9) N ⟨q0,λ_=>0,by rw [hN,Int.toNat_natCast,Afy N<|dgF λ_=>0];rfl,AGp,AGp,λr hr=>by omega⟩ AGp λi s hi hI=>?_;obtain ⟨q,f,rfl,hiN,hq,Ad⟩:=hI;unfold AW6;dsimp only;rw [List.length_replicate,hN,Int.toNat_natCast];refine AT1 (λh=>AVb AGp ?_) λh=>AGy ?_
 ·have hi':i < N:=by omega
  refine ATz (Aja hi') rfl ?_;rw [AU2,AYv N (0:Int),Ahh];refine ATz (Ady AGp hi') rfl ?_;rw [AVa];refine AG4 (Q:=λe:Int × Int=>0<=e.1/\e.1 < 9/\ ∃ p:Nat,e.2=(p:Int)/\p<=q + 1) (AG4 (Amk (L:=L) (q:=q) AGp) λe he=>?_) λe he=>ATz (AT4 hi') rfl (AGy ⟨AGp,?_⟩)
  ·exact AGy ⟨(Alm _ 9 AGr).1,(Alm _ 9 AGr).2,he⟩
  ·obtain ⟨h1,h2,p,h3,h4⟩:=he;refine ⟨p,λr=>if r=i then 1 + e.1 else f r,?_,AGp,AGp,λr hr=>?_⟩
   ·rw [AWm (x:=(i:Int) + 1) AGp AGp,AWm (x:=1 + e.1) AGp AGp,h3,AU2,AU2,AWf,Afn AGp];refine congrArg (λz=>(((i + 1:Nat):Int),(p:Int),z))<|AUp λr hr=>?_;split
    ·refine AUp λc hc=>?_;rw [AT7];unfold dgF;dsimp only;split
     ·omega
     ·next h=>rw [AT7,if_neg h]
    ·rfl
   grind
 ·obtain rfl:i=N:=by omega
  exact ⟨q,f,by rw [Afx],AGp,Ad⟩
theorem BEc {L:List Int} (hN:w64 (1 + (Int.tmod (w64 a1) Ac))=(N:Int)) (Af:N<=8) (Ag:q0<=1000) (hf:100 < fuel):
 Ok (iter (λs=>AW7 fuel a1 L Ac s.1 s.2.1 s.2.2) fuel (0,(q0:Int),(List.replicate (Int.toNat<|w64<|1 + (Int.tmod (w64 a1) Ac)) ([]:List Int)))) λe=> ∃ (q:Nat) (f:Nat->Int),e=((q:Int),tab N N<|dgF f)/\q<=q0 + N/\ ∀ r,r < N->1<=f r/\f r<=1:=by
 refine AUj (λi s=> ∃ (q:Nat) (f:Nat->Int),s=(((i:Nat):Int),(q:Int),part N i<|dgF f)/\i<=N/\q<=q0 + i/\ ∀ r,r < i->1<=f r/\f r<=1) N ⟨q0,λ_=>0,by rw [hN,Int.toNat_natCast,Afy N<|dgF λ_=>0];rfl,AGp,AGp,λr hr=>by omega⟩ AGp λi s hi hI=>?_;obtain ⟨q,f,rfl,hiN,hq,Ad⟩:=hI;unfold AW7;dsimp only;rw [List.length_replicate,hN,Int.toNat_natCast];refine AT1 (λh=>AVb AGp ?_) λh=>AGy ?_
 ·have hi':i < N:=by omega
  refine ATz (Aja hi') rfl ?_;rw [AU2,AYv N (0:Int),Ahh];refine ATz (Ady AGp hi') rfl ?_;rw [AVa];refine AG4 (Q:=λe:Int × Int=>0<=e.1/\e.1 < 1/\ ∃ p:Nat,e.2=(p:Int)/\p<=q + 1) (AG4 (Amk (L:=L) (q:=q) AGp) λe he=>?_) λe he=>ATz (AT4 hi') rfl (AGy ⟨AGp,?_⟩)
  ·exact AGy ⟨(Alm _ 1 AGr).1,(Alm _ 1 AGr).2,he⟩
  ·obtain ⟨h1,h2,p,h3,h4⟩:=he;refine ⟨p,λr=>if r=i then 1 + e.1 else f r,?_,AGp,AGp,λr hr=>?_⟩
   ·rw [AWm (x:=(i:Int) + 1) AGp AGp,AWm (x:=1 + e.1) AGp AGp,h3,AU2,AU2,AWf,Afn AGp];refine congrArg (λz=>(((i + 1:Nat):Int),(p:Int),z))<|AUp λr hr=>?_;split
    ·refine AUp λc hc=>?_;rw [AT7];unfold dgF;dsimp only;split
     ·omega
     ·next h=>rw [AT7,if_neg h]
    ·rfl
   grind
 ·obtain rfl:i=N:=by omega
  exact ⟨q,f,by rw [Afx],AGp,Ad⟩
theorem BEd {L:List Int} (hN:w64 (1 + (Int.tmod (w64 a1) Ac))=(N:Int)) (Af:N<=8) (Ag:q0<=1000) (hf:100 < fuel):
 Ok (iter (λs=>AW8 fuel a1 L Ac s.1 s.2.1 s.2.2) fuel (0,(q0:Int),(List.replicate (Int.toNat<|w64<|1 + (Int.tmod (w64 a1) Ac)) ([]:List Int)))) λe=> ∃ (q:Nat) (f:Nat->Int),e=((q:Int),tab N N<|dgF f)/\q<=q0 + N/\ ∀ r,r < N->1<=f r/\f r<=2:=by
 refine AUj (λi s=> ∃ (q:Nat) (f:Nat->Int),s=(((i:Nat):Int),(q:Int),part N i<|dgF f)/\i<=N/\q<=q0 + i/\ ∀ r,r < i->1<=f r/\f r<=2) N ⟨q0,λ_=>0,by rw [hN,Int.toNat_natCast,Afy N<|dgF λ_=>0];rfl,AGp,AGp,λr hr=>by omega⟩ AGp λi s hi hI=>?_;obtain ⟨q,f,rfl,hiN,hq,Ad⟩:=hI;unfold AW8;dsimp only;rw [List.length_replicate,hN,Int.toNat_natCast];refine AT1 (λh=>AVb AGp ?_) λh=>AGy ?_
 ·have hi':i < N:=by omega
  refine ATz (Aja hi') rfl ?_;rw [AU2,AYv N (0:Int),Ahh];refine ATz (Ady AGp hi') rfl ?_;rw [AVa];refine AG4 (Q:=λe:Int × Int=>0<=e.1/\e.1 < 2/\ ∃ p:Nat,e.2=(p:Int)/\p<=q + 1) (AG4 (Amk (L:=L) (q:=q) AGp) λe he=>?_) λe he=>ATz (AT4 hi') rfl (AGy ⟨AGp,?_⟩)
  ·exact AGy ⟨(Alm _ 2 AGr).1,(Alm _ 2 AGr).2,he⟩
  ·obtain ⟨h1,h2,p,h3,h4⟩:=he;refine ⟨p,λr=>if r=i then 1 + e.1 else f r,?_,AGp,AGp,λr hr=>?_⟩
   ·rw [AWm (x:=(i:Int) + 1) AGp AGp,AWm (x:=1 + e.1) AGp AGp,h3,AU2,AU2,AWf,Afn AGp];refine congrArg (λz=>(((i + 1:Nat):Int),(p:Int),z))<|AUp λr hr=>?_;split
    ·refine AUp λc hc=>?_;rw [AT7];unfold dgF;dsimp only;split
     ·omega
     ·next h=>rw [AT7,if_neg h]
    ·rfl
   grind
 ·obtain rfl:i=N:=by omega
  exact ⟨q,f,by rw [Afx],AGp,Ad⟩
theorem BEe {L:List Int} {F0:ATa} (Ag:N<=8) (Ah:q0<=1000) (Ad:∀ i j,i < N->j < N->(F0 i j).natAbs<=9) (hf:100 < fuel):
 Ok (iter (λs=>AXn fuel L (tab N N F0) s.1 s.2.1 s.2.2) fuel (0,(q0:Int),tab N N F0)) λe=> ∃ (q:Nat) (F:ATa),e=((q:Int),tab N N F)/\q<=q0 + 8 * N/\ ∀ i j,i < N->j < N->(F i j).natAbs<=9:=by
 refine AUj (λi s=> ∃ (q:Nat) (F:ATa),s=(((i:Nat):Int),(q:Int),tab N N F)/\i<=N/\q<=q0 + 8 * i/\ ∀ i j,i < N->j < N->(F i j).natAbs<=9) N ⟨q0,F0,rfl,AGp,AGp,Ad⟩ AGp λi s hi hI=>?_;obtain ⟨q,F,rfl,hiN,hq,hF⟩:=hI;unfold AXn;dsimp only;rw [AUe];refine AT1 (λh=>?_) λh=>AGy ⟨q,F,rfl,AGp,hF⟩;have hi':i < N:=by omega
 refine AG4 (AUj (λj s=> ∃ (p:Nat) (F:ATa),s=(((j:Nat):Int),(p:Int),tab N N F)/\j<=i/\p<=q + j/\ ∀ i j,i < N->j < N->(F i j).natAbs<=9) i (Q:=λe=> ∃ (p:Nat) (F:ATa),e=((p:Int),tab N N F)/\p<=q + i/\ ∀ i j,i < N->j < N->(F i j).natAbs<=9) ⟨q,F,rfl,AGp,AGp,hF⟩ AGp λj s hj hJ=>?_) λe he=>?_
 ·obtain ⟨p,F,rfl,hji,hp,hF⟩:=hJ;unfold AZh;dsimp only;refine AT1 (λh=>?_) λh=>AGy ⟨p,F,rfl,AGp,hF⟩;have hj':j < i:=by omega
  refine ATz (AUk hi') rfl (AG4 (Amk (L:=L) (q:=p) AGp) λe he=>ATz (AT4 AGp) rfl ?_);obtain ⟨p2,h3,h4⟩:=he;rw [AU2,AU2,AWf,show (AV1 N λc=>if c=j then Int.tmod e.1 3 else F i c)=(List.range N).map λc=>if c=j then Int.tmod e.1 3 else F i c from rfl,Adc];refine ATz (AUk AGp) rfl (ATz (AUk hi') rfl (ATz (AT4 AGp) rfl (ATz (AT4 hi') rfl (AGy ⟨AGp,p2,?_⟩))));generalize Af:(AU5 F i λc=>if c=j then Int.tmod e.1 3 else F i c)=F1
  have hv:(Int.tmod e.1 3).natAbs<=9:=by
   grind
  have hF1b:∀ i j,i < N->j < N->(F1 i j).natAbs<=9:=λa b ha hb=>by
   subst Af
   rw [AT7]
   split
   ·split
    ·exact hv
    grind
   grind
  refine ⟨AU5 F1 j λc=>if c=i then F1 i j else F1 j c,?_,AGp,AGp,λa b ha hb=>?_⟩
  ·rw [wk AGp,h3,AU2,AU2,AWf,show (AV1 N λc=>if c=i then F1 i j else F1 j c)=(List.range N).map λc=>if c=i then F1 i j else F1 j c from rfl,Adc];rfl
  ·rw [AT7];split
   ·split
    ·grind
    grind
   grind
 ·obtain ⟨p,F,rfl,hp,hF⟩:=he;exact AGy ⟨AGp,p,F,by rw [wk AGp];rfl,AGp,AGp,hF⟩
theorem A2t {b:Bool} (Ag:1<=N) (Ah:N<=8) (hf:100 < fuel):Ok (AYj fuel (N:Int) b) λe=> ∃ F,e=tab N N F/\ ∀ i j,i < N->j < N->(F i j).natAbs<=2:=by
 unfold AYj;refine AVb AGp ?_;rw [Int.toNat_natCast];refine AG4 (AUj (λi s=> ∃ G:ATa,s=(((i:Nat):Int),part N i G)/\i<=N/\ ∀ r c,(G r c).natAbs<=2) N (Q:=λe=> ∃ F,e=tab N N F/\ ∀ i j,i < N->j < N->(F i j).natAbs<=2) ⟨λ_ _=>0,by rw [Afy N λ_ _=>0];rfl,AGp,λ_ _=>Nat.zero_le _⟩ AGp λi s hi hI=>?_) λe he=>AGy he;obtain ⟨G,rfl,hiN,hG⟩:=hI;unfold Adk;dsimp only;rw [List.length_replicate,Int.toNat_natCast];refine AT1 (λh=>AVb AGp ?_) λh=>AGy ?_
 ·have hi':i < N:=by omega
  refine ATz (Aja hi') rfl ?_;rw [AU2,AYv N (0:Int),Ahh];refine ATz (Ady AGp hi') rfl ?_;rw [AVa];refine ATz (AT4 hi') rfl ?_;rw [AU2,AU2,AWf,Afn AGp]
  have Ab:∀ r c,(AU5 (AU5 G i λx=>0) i (λc=>if c=i then 2 else 0) r c).natAbs<=2:=λr c=>by
   rw [AT7]
   split
   ·split <;> decide
   ·rw [AT7]
    grind
  generalize (AU5 (AU5 G i λx=>0) i λc=>if c=i then 2 else 0)=G1 at Ab;have wi:w64 ((i:Int) + 1)=((i + 1:Nat):Int):=by rw [wk AGp];omega
  refine AG4 (Q:=λk=>k=(i:Int) - 1∨k=(i:Int) - 2) ?_ λk hk=>?_
  ·have w1:w64 ((i:Int) - 1)=(i:Int) - 1:=wk AGp;have w2:w64 ((i:Int) - 2)=(i:Int) - 2:=wk AGp;rw [w1,w2];exact AT1 (λ_=>AT1 (λ_=>AT1 (λ_=>AGy<|.inr rfl) λ_=>AGy<|.inl rfl) λ_=>AGy<|.inl rfl) λ_=>AGy<|.inl rfl
  ·refine AT1 (λh=>?_) λh=>AGy ⟨AGp,G1,by rw [wi],AGp,Ab⟩;obtain ⟨k,rfl⟩:∃ q:Nat,k=q:=⟨k.toNat,AGp⟩;have hki:k < i:=by omega
   refine ATz (Ady AGp hi') rfl (ATz (Ady AGp AGp) rfl (ATz (AT4 AGp) rfl ?_));rw [AU2,AU2,AWf,Afn AGp]
   have Af:∀ r c,(AU5 G1 i (λc=>if c=k then -1 else G1 i c) r c).natAbs<=2:=λr c=>by
    rw [AT7]
    grind
   generalize (AU5 G1 i λc=>if c=k then -1 else G1 i c)=G2 at Af;refine ATz (Ady AGp AGp) rfl (ATz (AT4 hi') rfl (AGy ⟨AGp,AU5 G2 k λc=>if c=i then -1 else G2 k c,?_,AGp,λr c=>?_⟩))
   ·rw [wi,AU2,AU2,AWf,Afn AGp]
   ·rw [AT7];grind
 ·obtain rfl:i=N:=by omega
  exact ⟨G,Afx _ _,λa b _ _=>hG a b⟩
theorem A7x {n:Nat} (hB:B < 9223372036854775808) (h:∀ i j,i < n->j < n->(F i j).natAbs<=B):∀ z∈tab n n F,∀ x∈z,-9223372036854775808<=x/\x<=9223372036854775807:=λz hz x hx=>by
 obtain ⟨i,hi⟩:=List.getElem?_of_mem hz
 have hin:i < n:=by have:=(List.getElem?_eq_some_iff.1 hi).1;rwa [AUe] at this
 rw [AUk hin] at hi
 cases hi
 obtain ⟨j,hj⟩:=List.getElem?_of_mem hx
 have hjn:j < n:=by have:=(List.getElem?_eq_some_iff.1 hj).1;rwa [AUt] at this
 rw [AT4 hjn] at hj
 grind
theorem BA5 {n:Nat} (hn:1<=n) (Aa:n<=16):okM (tab n n F)=true:=by
 have hc:Aic (tab n n F)=n:=A5e hn;unfold okM;rw [decide_eq_true_iff,AUe,hc];exact ⟨hn,Aa,λz hz=>by rw [Apm z hz];omega⟩
theorem Awq {n:Nat} (hn:1<=n) (Aa:n<=16) (h:∀ i j,i < n->j < n->(F i j).natAbs<=9223372036854775807) (hf:17 < fuel):AV5 fuel (tab n n F)=some (tab n n F):=by
 rw [BF6 (A7x AGr h) hf,if_pos<|BA5 hn Aa]
theorem BEf {n:Nat} (Ab:1<=n) (hn:n<=8) (hb:∀ i j,i < n->j < n->(F i j).natAbs<=1000000) (hf:100 < fuel):Ok (Aak fuel<|tab n n F) λr=>r=true↔Ac6 n F/\Afl n F/\det n F<=10000:=by
 have Ac:∀ i j,i < n->j < n->(F i j).natAbs<=mN n:=λi j hi hj=>Nat.le_trans (hb i j hi hj)<|Nat.le_trans AGr<|Ayo n;unfold Aak;refine AG4 (AUm<|Awq Ab AGp (λi j hi hj=>Nat.le_trans (hb i j hi hj) AGr) AGp) λx hx=>?_;subst hx;refine AG4 (Atq Ab hn Ac hf) λv hv=>AT1 (λh=>?_) λh=>AGy<|Iff.intro (λh2=>nomatch h2) λh2=>absurd (hv.2 ⟨h2.1,h2.2.1⟩) h;have h1:=hv.1 h;refine AG4 (AUm<|Apy hn (Nat.le_refl _) Ac AGp) λd hd=>AG4 (Q:=(· =10000)) ⟨10000,if_pos AGp,rfl⟩ λt ht=>AG4 (AUm (a:=Alc d t) rfl) λc hc=>AGy ?_;subst hd;subst ht;subst hc;rw [decide_eq_true_iff,Awl];grind
theorem BEg {n:Nat} (hn:n<=8) (h:∀ r,r < n->1<=f r/\f r<=2):Ac6 n (dgF f)/\Afl n (dgF f)/\det n (dgF f)<=10000:=by
 have hd:∀ k,k<=n->det k (dgF f)=AZv f k:=λk hk=>by
  rw [Aob (F:=dgF f) (λc i hc hci hi=>by unfold dgF;omega)]
  exact Arj λi _=>by unfold dgF;rw [if_pos rfl]
 have hb:∀ k,k<=n->0 < AZv f k/\AZv f k<=2 ^ k:=λk=>by
  induction k with
  | zero=>intro _;simp [AZv]
  | succ k ih=>
    intro hk
    have h1:=ih AGp
    have h2:=h k AGp
    simp only [AZv]
    refine ⟨Int.mul_pos h1.1 AGp,?_⟩
    rw [Int.pow_succ]
    exact Int.mul_le_mul h1.2 h2.2 AGp<|Int.le_of_lt<|Anr k
 refine ⟨λi j hi hj=>?_,λk hk=>by grind,?_⟩
 ·unfold dgF;grind
 ·rw [hd n<|Nat.le_refl n];have:=(hb n<|Nat.le_refl n).2;have h2:=Aoi hn;omega
structure BCn (n:Nat) (A:ATa):Prop where
 n1:1<=n
 n8:n<=8
 sym:Ac6 n A
 pos:Afl n A
 bd:∀ i j,i < n->j < n->(A i j).natAbs<=9
 dt:det n A<=10000
theorem A2u {n m:Nat} (h:∀ r,r < n->1<=f r/\f r<=(m:Int)):∀ i j,i < n->j < n->(dgF f i j).natAbs<=m:=λi j hi hj=>by
 unfold dgF
 grind
theorem BEh {a2 most:Int} {L L2:List Int} (h1:0<=a1/\a1 < 256) (hm:1<=most/\most<=8) (hf:100 < fuel):Ok (AVq fuel a1 a2 L L2 most) λr=> ∃ n A,r=tab n n A/\BCn n A/\(n:Int)=1 + Int.tmod a1 most:=by
 have t1:=Int.emod_nonneg a1 (show most≠0 by omega);have t2:=Int.emod_lt_of_pos a1 (show 0 < most by omega);have t3:Int.tmod a1 most=a1 % most:=Int.tmod_eq_emod_of_nonneg h1.1
 have hN:w64 (1 + Int.tmod (w64 a1) most)=((1 + a1 % most).toNat:Int):=by
  rw [AWm (x:=a1) AGp AGp,t3,wk AGp];omega
 generalize hNN:(1 + a1 % most).toNat=N at hN;have Ad:1<=N:=by omega
 have Ab:N<=8:=by omega
 unfold AVq;refine AVb AGp<|AG4 (Q:=λe=> ∃ (q:Nat) (F:ATa),e=(tab N N F,(q:Int))/\q<=200/\ ∀ i j,i < N->j < N->(F i j).natAbs<=9) (AG4 (Q:=λ_=>True) ?_ λk _=>AT1 (λ_=>?_) λ_=>AT1 (λ_=>?_) λ_=>AT1 (λ_=>?_) λ_=>AT1 (λ_=>?_) λ_=>?_) λe he=>?_
 ·exact AT1 (λ_=>AGy trivial) λ_=>AT1 (λ_=>AGy trivial) λ_=>AT1 (λ_=>AGy trivial) λ_=>AGy trivial
 ·refine AG4 (Q:=λe=> ∃ (q:Nat) (F:ATa),e=(tab N N F,(q:Int))/\q<=200/\ ∀ i j,i < N->j < N->(F i j).natAbs<=9) (AG4 (Q:=λe=> ∃ (q:Nat) (f:Nat->Int),e=(tab N N<|dgF f,(q:Int))/\q<=8/\ ∀ r,r < N->1<=f r/\f r<=6) (AVb (by rw [hN];omega)<|AG4 (BGg (q0:=0) (L:=L) hN Ab AGp hf) λe he=>AGy ?_) λe he=>?_) λe he=>AGy he
  ·obtain ⟨q,f,rfl,h2,h3⟩:=he;grind
  ·obtain ⟨q,f,rfl,h2,h3⟩:=he;refine AG4 (BEe (L:=L) (q0:=q) Ab AGp (λi j hi hj=>Nat.le_trans (A2u (m:=6) h3 i j hi hj) AGr) hf) λe he=>AGy ?_;obtain ⟨q,F,rfl,h4,h5⟩:=he;grind
 ·rw [hN];refine AG4 (A2t Ad Ab hf) λF hF=>?_;obtain ⟨F,rfl,hF⟩:=hF;refine ATz (n:=0) (AUk AGp) rfl (ATz (n:=0) (AT4 AGp) rfl (AG4 (Q:=λe:Int × Int=>0<=e.1/\e.1 < 3/\ ∃ p:Nat,e.2=(p:Int)/\p<=0 + 1) (AG4 (Amk (L:=L) (q:=0) AGp) λe he=>AGy ⟨(Alm _ 3 AGr).1,(Alm _ 3 AGr).2,he⟩) λe he=>AGy ?_));obtain ⟨c1,c2,p,c3,c4⟩:=he;have c5:=hF 0 0 AGp AGp;refine ⟨p,AU5 F 0 λc=>if c=0 then F 0 0 + e.1 else F 0 c,?_,AGp,λi j hi hj=>?_⟩
  ·rw [c3,wk AGp];refine congrArg (λz=>(z,(p:Int))) ?_;show (tab N N F).set 0 ((AV1 N<|F 0).set 0 (F 0 0 + e.1))=_;rw [AWf];exact Adc
  ·rw [AT7];split
   ·grind
   grind
 ·rw [hN];refine AG4 (A2t Ad Ab hf) λF hF=>?_;obtain ⟨F,rfl,hF⟩:=hF;have w1:w64 ((N:Int) - 1)=((N - 1:Nat):Int):=by rw [wk AGp];omega
  rw [w1];refine ATz (AUk AGp) rfl (ATz (AT4 AGp) rfl (AG4 (Q:=λe:Int × Int=>0<=e.1/\e.1 < 2/\ ∃ p:Nat,e.2=(p:Int)/\p<=0 + 1) (AG4 (Amk (L:=L) (q:=0) AGp) λe he=>AGy ⟨(Alm _ 2 AGr).1,(Alm _ 2 AGr).2,he⟩) λe he=>AGy ?_));obtain ⟨c1,c2,p,c3,c4⟩:=he;have c5:=hF (N - 1) (N - 1) AGp AGp;refine ⟨p,AU5 F (N - 1) λc=>if c=N - 1 then F (N - 1) (N - 1) + e.1 else F (N - 1) c,?_,AGp,λi j hi hj=>?_⟩
  ·rw [c3,wk AGp,AU2,AU2];refine congrArg (λz=>(z,(p:Int))) ?_;rw [AWf];exact Adc
  ·rw [AT7];split
   ·split
    ·omega
    grind
   grind
 ·refine AG4 (Q:=λe=> ∃ (q:Nat) (F:ATa),e=(tab N N F,(q:Int))/\q<=200/\ ∀ i j,i < N->j < N->(F i j).natAbs<=9) (AVb (by rw [hN];omega)<|AG4 (BEb (q0:=0) (L:=L) hN Ab AGp hf) λe he=>AGy ?_) λe he=>AGy he;obtain ⟨q,f,rfl,h2,h3⟩:=he;exact ⟨q,dgF f,rfl,AGp,λi j hi hj=>A2u (m:=9) h3 i j hi hj⟩
 ·refine AG4 (Q:=λe=> ∃ (q:Nat) (F:ATa),e=(tab N N F,(q:Int))/\q<=200/\ ∀ i j,i < N->j < N->(F i j).natAbs<=9) (AVb (by rw [hN];omega)<|AG4 (BEc (q0:=0) (L:=L) hN Ab AGp hf) λe he=>AGy ?_) λe he=>AGy he;obtain ⟨q,f,rfl,h2,h3⟩:=he;exact ⟨q,dgF f,rfl,AGp,λi j hi hj=>Nat.le_trans (A2u (m:=1) h3 i j hi hj) AGr⟩
 ·obtain ⟨q,F,rfl,h2,h3⟩:=he;dsimp only;refine AG4 (BEf Ad Ab (λi j hi hj=>Nat.le_trans (h3 i j hi hj) AGr) hf) λb hb=>AT1 (λhn=>?_) λhn=>AGy ?_
  ·refine AG4 (Q:=λe=> ∃ f:Nat->Int,e.1=tab N N (dgF f)/\ ∀ r,r < N->1<=f r/\f r<=2) (AVb (by rw [hN];omega)<|AG4 (BEd (q0:=q) (L:=L) hN Ab AGp hf) λe he=>AGy ?_) λe he=>AGy ?_
   ·grind
   ·obtain ⟨f,h4,h5⟩:=he;obtain ⟨d1,d2,d3⟩:=BEg Ab h5;exact ⟨N,dgF f,h4,⟨Ad,Ab,d1,d2,λi j hi hj=>Nat.le_trans (A2u (m:=2) h5 i j hi hj) AGr,d3⟩,by rw [t3];omega⟩
  ·have hg:Ac6 N F/\Afl N F/\det N F<=10000:=hb.1 (by simpa using hn);exact ⟨N,F,rfl,⟨Ad,Ab,hg.1,hg.2.1,h3,hg.2.2⟩,by rw [t3];omega⟩
theorem A7y (h1:LvF A k) (h2:SzF A (k + 1) k) (hp:0 < det (k + 1) A):det (k + 1) A * det (k + 1) A<=2 * (det k A * det (k + 2) A):=by
 unfold LvF at h1;unfold SzF at h2;have h3:(2 * Mn k A (k + 1) k) * (2 * Mn k A (k + 1) k)<=det (k + 1) A * det (k + 1) A:=Anq AGp h2.2;grind
theorem Aeg {x y:Int} (h0:0<=x) (h:x<=y):∀ k:Nat,x ^ k<=y ^ k
 | 0=>by simp
 | k + 1=>by
   rw [Int.pow_succ,Int.pow_succ]
   exact Int.mul_le_mul (Aeg h0 h k) h h0<|Int.le_trans (Int.pow_nonneg h0)<|Aeg h0 h k
def tri:Nat->Nat
 | 0=>0
 | k + 1=>tri k + (k + 1)
theorem A0v {n:Nat} (hp:Afl n A) (hs:Ap2 A n) (hl:Arl A n):∀ k,k + 1<=n->det k A ^ (k + 1)<=det (k + 1) A ^ k * 2 ^ tri k:=by
 intro k;induction k with
 | zero=>intro _;simp [det,tri]
 | succ k ih=>
   intro hk;have ih:=ih AGp;have p0:=hp k AGp;have p1:=hp (k + 1) AGp;have p2:=hp (k + 2) AGp;have h1:=A7y (hl k AGp) (hs (k + 1) k AGp AGp) p1;generalize det k A=a at *
   generalize det (k + 1) A=b at *
   generalize det (k + 2) A=c at *
   have h2:(b * b) ^ (k + 1)<=(2 * (a * c)) ^ (k + 1):=Aeg (Int.le_of_lt<|Int.mul_pos p1 p1) h1 _;rw [Int.mul_pow,Int.mul_pow,Int.mul_pow] at h2;have h3:a ^ (k + 1) * c ^ (k + 1)<=b ^ k * 2 ^ tri k * c ^ (k + 1):=Int.mul_le_mul_of_nonneg_right ih<|Int.le_of_lt<|Int.pow_pos p2;have h4:2 ^ (k + 1) * (a ^ (k + 1) * c ^ (k + 1))<=2 ^ (k + 1) * (b ^ k * 2 ^ tri k * c ^ (k + 1)):=Int.mul_le_mul_of_nonneg_left h3<|Int.le_of_lt<|Anr _;have h5:=Int.le_trans h2 h4;have e1:b ^ (k + 1) * b ^ (k + 1)=b ^ k * b ^ (k + 1 + 1):=by grind
   have e2:(2:Int) ^ (k + 1) * (b ^ k * 2 ^ tri k * c ^ (k + 1))=b ^ k * (c ^ (k + 1) * 2 ^ tri (k + 1)):=by
    have:(2:Int) ^ tri (k + 1)=2 ^ tri k * 2 ^ (k + 1):=by rw [<- Int.pow_add];rfl
    rw [this];grind
   rw [e1,e2] at h5;exact Int.le_of_mul_le_mul_left h5<|Int.pow_pos p1
def dU:Nat->Int
 | 8=>10000
 | 7=>35777
 | 6=>64000
 | 5=>57243
 | 4=>25600
 | _=>10000
theorem BGh (k:Nat):dU k<=64000:=by unfold dU;split <;> omega
theorem BCo (k:Nat):10000<=dU k:=by unfold dU;split <;> omega
theorem BA6:∀ k,k < 8->dU (k + 1) ^ k * 2 ^ tri k < (dU k + 1) ^ (k + 1):=by decide
theorem A4k {n:Nat} (hn:n<=8) (hp:Afl n A) (hs:Ap2 A n) (hl:Arl A n) (hd:det n A<=10000):∀ m k,k + m=n->det k A<=dU k:=by
 intro m
 induction m with
 | zero=>
    intro k hk;obtain rfl:k=n:=by omega
    exact Int.le_trans hd (BCo _)
 | succ m ih=>
   intro k hk
   have h1:=ih (k + 1) AGp
   have h2:=A0v hp hs hl k AGp
   have p0:=hp k AGp
   have p1:=hp (k + 1) AGp
   rcases Int.lt_or_le (dU k) (det k A) with h | h
   ·exfalso
    have h3:(dU k + 1) ^ (k + 1)<=det k A ^ (k + 1):=Aeg (by have:=BCo k;omega) AGp _
    have h4:det (k + 1) A ^ k * 2 ^ tri k<=dU (k + 1) ^ k * 2 ^ tri k:=Int.mul_le_mul_of_nonneg_right (Aeg (Int.le_of_lt p1) h1 k)<|Int.le_of_lt<|Anr _
    have h5:=BA6 k AGp
    omega
   ·exact h
theorem Ap6 {n:Nat} (hn:n<=8) (R:Aud n A) (hk:k<=n):0 < det k A/\det k A<=64000:=
 ⟨R.pos k hk,Int.le_trans (A4k hn R.pos R.sz R.lv R.dt (n - k) k AGp)<|BGh k⟩
theorem Ar6 {n:Nat} (hn:n<=8) (R:Aud n A) (hi:i < n) (hj:j < n): -192000<=A i j/\A i j<=192000:=
 Ay6 R.sym R.pos (λk hk=>Ayz (Dm:=64000) hn R.sym R.pos hk (λk hk=>(Ap6 hn R hk).2) λl hl=>R.sz k l hl hk) hi hj
structure RB (n:Nat) (A:ATa) (k:Nat):Prop where
 pos:∀ j,k < j->j<=n->0 < det j A
 lt:∀ j,k < j->j < n->det j A < 65536
 sz:∀ l i,k<=l->l < i->i < n->SzF A i l
 lv:∀ l,k<=l->l + 1 < n->LvF A l
 dt:det n A<=10000
theorem BEi {m:Nat} (h0:0 < det k A) (hF:∀ i j,i < m + 1->j < m + 1->F i j=Mn k A (k + i) (k + j)) (hi:i < m) (hj:j < m):Aj9 F (det k A) i j=Mn (k + 1) A (k + 1 + i) (k + 1 + j):=by
 unfold Aj9;rw [hF 0 0 AGp AGp,hF (i + 1) (j + 1) AGp AGp,hF (i + 1) 0 AGp AGp,hF 0 (j + 1) AGp AGp,Nat.add_zero,Aoc AGp,Int.mul_tdiv_cancel_left _ AGp];grind
theorem Ay8 {n:Nat}:∀ (m k:Nat) (F:ATa),k + m=n->1<=m->0 < det k A->(∀ i j,i < m->j < m->F i j=Mn k A (k + i) (k + j))->(Aix m F (det k A)=true↔RB n A k):=by
 intro m
 induction m with
 | zero=>omega
 | succ m ih=>
   intro k F hk _ h0 hF
   have Ad:F 0 0=det (k + 1) A:=by rw [hF 0 0 AGp AGp];exact Abw k A
   cases m with
   | zero=>
     obtain rfl:k + 1=n:=hk
     show decide (0 < F 0 0/\F 0 0<=10000)=true↔_
     rw [decide_eq_true_iff,Ad]
     exact ⟨λh=>⟨λj h1 h2=>by grind,λj h1 h2=>by omega,λl i h1 h2 h3=>by omega,λl h1 h2=>by omega,h.2⟩,λh=>⟨h.pos (k + 1) AGp<|Nat.le_refl _,h.dt⟩⟩
   | succ m=>
     have hN:∀ i j,i < m + 1->j < m + 1->Aj9 F (det k A) i j=Mn (k + 1) A (k + 1 + i) (k + 1 + j):=λi j hi hj=>BEi h0 hF hi hj
     have hS:Aiw (m + 1 + 1) F↔(0 < det (k + 1) A/\det (k + 1) A < 65536)/\ ∀ i,k < i->i < n->SzF A i k:=by
      unfold Aiw
      rw [Ad]
      refine and_congr_right λ_=>⟨λh i h1 h2=>?_,λh i h1 h2=>?_⟩
      ·have h3:=h (i - k) AGp AGp
       rw [hF (i - k) 0 AGp AGp,show k + (i - k)=i by omega] at h3
       unfold SzF
       grind
      ·have h3:=h (k + i) AGp AGp
       unfold SzF at h3
       grind
     have hL:Aoq F (det k A)↔LvF A k:=by
      unfold Aoq LvF
      rw [Ad,hN 0 0 AGp AGp,Nat.add_zero,Abw (k + 1) A,hF 1 0 AGp AGp,Nat.add_zero]
      grind
     show (decide (Aiw (m + 1 + 1) F) && (decide (Aoq F<|det k A) && Aix (m + 1) (Aj9 F<|det k A) (F 0 0)))=true↔_
     rw [Bool.and_eq_true,Bool.and_eq_true,decide_eq_true_iff,decide_eq_true_iff,hS,hL,Ad]
     constructor
     ·rintro ⟨⟨⟨h1,h2⟩,h3⟩,h4,h5⟩
      have R:=(ih (k + 1) _ AGp AGp h1 hN).1 h5
      refine ⟨λj a b=>?_,λj a b=>?_,λl i a b c=>?_,λl a b=>?_,R.dt⟩
      ·by_cases e:j=k + 1
       ·grind
       ·exact R.pos j AGp b
      ·by_cases e:j=k + 1
       ·grind
       ·exact R.lt j AGp b
      ·by_cases e:l=k
       ·grind
       ·exact R.sz l i AGp b c
      ·by_cases e:l=k
       ·grind
       ·exact R.lv l AGp b
     ·intro R
      have h1:=R.pos (k + 1) AGp AGp
      exact ⟨⟨⟨h1,R.lt (k + 1) AGp AGp⟩,λi a b=>R.sz k i (Nat.le_refl k) a b⟩,R.lv k (Nat.le_refl k) AGp,(ih (k + 1) _ AGp AGp h1 hN).2 ⟨λj a b=>R.pos j AGp b,λj a b=>R.lt j AGp b,λl i a b c=>R.sz l i AGp b c,λl a b=>R.lv l AGp b,R.dt⟩⟩
def Ars (M:List (List Int)):Prop:=(1<=M.length/\M.length<=8)/\(∀ z∈M,z.length=M.length)/\Aud M.length (ent M)
theorem Avd (M:List (List Int)):isRed M=true↔Ars M:=by
 unfold isRed;rw [Bool.and_eq_true];constructor
 ·rintro ⟨h1,h2⟩;have S:=Ath h1;have R:=(Ay8 (A:=ent M) (n:=M.length) M.length 0 (ent M) AGp S.1.1 (by simp [det]) λi j _ _=>by rw [Ae3,Nat.zero_add,Nat.zero_add]).1 (by simpa [det] using h2);refine ⟨S.1,S.2.1,λi j hi hj=>(S.2.2 i j hi hj).1,λk hk=>?_,λr l h3 h4=>R.sz l r (Nat.zero_le _) h3 h4,λl hl=>R.lv l (Nat.zero_le _) hl,R.dt⟩;rcases Nat.eq_zero_or_pos k with h | h
  ·subst h;simp [det]
  ·exact R.pos k h hk
 ·rintro ⟨h1,h2,R⟩;refine ⟨(AZi ⟨h1,h2,λi j hi hj=>⟨R.sym i j hi hj,?_,?_⟩⟩).symm,?_⟩
  ·have:=Ar6 h1.2 R hi hj;omega
  ·have:=Ar6 h1.2 R hi hj;omega
  ·have h3:=(Ay8 (A:=ent M) (n:=M.length) M.length 0 (ent M) AGp h1.1 (by simp [det]) λi j _ _=>by rw [Ae3,Nat.zero_add,Nat.zero_add]).2 ⟨λj _ hj=>R.pos j hj,λj _ hj=>by have:=Ap6 h1.2 R (k:=j) AGp;omega,λl i _ a b=>R.sz i l a b,λl _ hl=>R.lv l hl,R.dt⟩;simpa [det] using h3
end Go.Proofs.YtkakafabeobahaaGreatDoor
namespace Go.Proofs.YtkakafabeobahaaGreatDoor
open Go Go.QF
open Go.ChangeShapes Go.WideShapes Go.ChangeAt Go.RowKit
set_option maxRecDepth 100000
theorem A4l:Tryz.prog.cellsOf 24=4:=by kernel_rfl
theorem A7z {H:Type} {enc:TypeId × Value->H} {W:World} {r:Reach} {b0:Nat} {d:DataW H} {p:List MemPlace} (hv:Value.okWide Tryz.prog W r b0 24 v) (h:DataW.Trod enc Tryz.prog W 0 (λ_=>true) true 24 v d p):
 ∃ (g k:Int) (lv bv:Value) (Z Y:List Int),v= .agg #[.int .u8 g,.int .u8 k,lv,bv]/\SlC (cI .i8) W.heap lv Z/\SlC (cI .i8) W.heap bv Y/\(0<=g/\g < 256)/\(0<=k/\k < 256)/\(∀ z∈Z,-128<=z/\z<=127)/\ ∀ z∈Y,-128<=z/\z<=127:=by
 obtain ⟨cs,rfl,hsz⟩:=okWide_struct Tryz.underlying24 hv;rw [A4l] at hsz;obtain ⟨l⟩:=cs
 match l,hsz with
 | [c0,c1,c2,c3],_=>
   obtain ⟨fuel,hf⟩:=h;obtain ⟨y0,y1,y2,y3,n,_,_,h0,h1,h2,h3⟩:=Joins.trod_struct4 Tryz.underlying24 hf;simp [Value.cells,A5o,A5p] at h0 h1 h2 h3;obtain ⟨x0,e0,_,w0⟩:=DataW.trod_int Tryz.underlying5 h0;obtain ⟨x1,e1,_,w1⟩:=DataW.trod_int Tryz.underlying5 h1;simp at e0 e1;subst e0;subst e1;have b0:=wf_u8 w0;have b1:=wf_u8 w1;obtain ⟨Z,HZ,hZ⟩:=A5q h2;obtain ⟨Y,HY,hY⟩:=A5q h3;exact ⟨x0,x1,c2,c3,Z,Y,rfl,A7e HZ,A7e HY,AGp,AGp,hZ,hY⟩
end Go.Proofs.YtkakafabeobahaaGreatDoor
