/-
  Texts of a proof, joined. Conditions stand in each statement.
-/
import Derived.Test.YtkakafabeobahaaGreatDoorMDyadicShape3
set_option linter.unusedVariables false
set_option linter.unusedSimpArgs false
open Go
variable {h:Go.QF.AG0} {A F A0:Go.QF.ATa} {a x y r last K p a5 Dm d:Int} {M:List (List Int)} {B LA LB:List Nat} {i la lb t j fuel k l s D:Nat} {f g:Nat->Int} {v va vb:Value}
namespace Go.Proofs.YtkakafabeobahaaGreatDoor.Ig
open Go Go.QF
set_option maxRecDepth 100000
structure BAb (h:AG0) (v:Value) (L:List Nat) (v':Value) (L':List Nat):Prop where
 sl:Sl h v' (L'.map Af8)
 cap:Agl v'
 dig:Dig L'
 blk:v'.ownBlock=v.ownBlock
 val:nv L'=nv L
 len:L'.length<=L.length
 tg:∀ g,v.ownBlock=some g-> ∃ cur off,h[g]? =some (.cells cur 200 off)
theorem BAb.ds {lo:Nat} {v':Value} {L L':List Nat} (H:BAb h v L v' L') (hl:∀ g,v.ownBlock=some g->lo<=g):DS h lo v' L':=⟨H.sl,H.cap,H.dig,λg hg=>hl g<|H.blk ▸ hg,λg hg=>H.tg g<|H.blk ▸ hg⟩
theorem A6x {L:List Nat} (h:L[L.length - 1]? =some 0):nv (L.take<|L.length - 1)=nv L:=by
 have h1:L=L.take (L.length - 1) ++ [0]:=by
  have:=Aue h
  grind
 conv=>rhs;rw [h1,Ad4]
 simp
theorem Ae0 {L:List Nat} (H:DS h 0 v L) (hn:L.length<=1000000):AT3 Tryz.prog 191 #[v] h λx h'=>h'=h/\ ∃ L',BAb h v L x L'/\TL L':=by
 refine AUc (l:=[_]) mx Tryz.func191 rfl rfl rfl rfl rfl AG3 (AGt<|AG1<|AGv<|AGx<|AXb 1048569 (λy:Value × List Nat=>[(0,y.1)]) (λk y h'=>h'=h/\y.2.length=k/\BAb h v L y.1 y.2) AG3 L.length (v,L) ?_ ⟨rfl,trivial⟩ ?_)
 ·exact ⟨rfl,rfl,H.sl,H.cap,H.dig,rfl,rfl,Nat.le_refl _,H.tg⟩
 rintro k ⟨u,Lu⟩ s1 h ⟨rfl,rfl,HT⟩;dsimp only at HT ⊢;refine AGv<|AGt<|AGq<|Aow ATo rfl HT.sl ?_;rw [List.length_map];have hLlen:=HT.len;refine Ajd rfl rfl (λAa=>?_) (λAa=>?_)
 ·refine AGq<|AUt 6 true AG3 rfl rfl (AGq<|AUt 6 true AG3 rfl rfl (AGq<|AUt 6 true AG3 rfl rfl (Aow ATo rfl HT.sl ?_)));rw [List.length_map];refine AUt 6 true AG3 rfl rfl (Ae5 rfl rfl AGp AGp ?_);rw [show ((Lu.length:Nat):Int) - 1=((Lu.length - 1:Nat):Int) by omega];obtain ⟨x,hx⟩:∃ x,Lu[Lu.length - 1]? =some x:=⟨_,List.getElem?_eq_getElem AGp⟩;refine AUt 6 true AG3 rfl rfl (Ar6 ATo rfl HT.sl rfl (Aj7 hx) λa1 Ab=>AUt 6 true AG3 rfl rfl (AT1 AVo rfl Ab (AUt 6 true AG3 rfl rfl (Ak4 rfl rfl (λAc=>?_) (λAc=>?_)))))
  ·refine ATn rfl (AGw<|ATv rfl (AG5<|q_t<|AGx<|ATc<|AGq<|AGq<|Aow ATo rfl HT.sl ?_));rw [List.length_map];refine Ae5 rfl rfl AGp AGp ?_;rw [show ((Lu.length:Nat):Int) - 1=((Lu.length - 1:Nat):Int) by omega];have Ad:Lu[Lu.length - 1]? =some 0:=by rw [hx];congr 1;omega
   refine Avk (v:=u) ATo rfl HT.sl HT.cap rfl (by rw [List.length_map];omega) λv9 Af Ag Ah=>?_;refine ATu<|ATr<|q_b<|q_t ?_;exact ⟨Lu.length - 1,(v9,Lu.take<|Lu.length - 1),by first | omega | (dsimp only;omega),⟨rfl,AT5,⟨by dsimp only;rw [List.map_take];exact Af,Ag,Api HT.dig _,Ah.trans HT.blk,by rw [A6x Ad];exact HT.val,by rw [List.length_take];have:=HT.len;omega,HT.tg⟩⟩,rfl,trivial⟩
  ·refine ATn rfl (AGw<|ATy rfl (ATk<|ATl<|ATl<|AUi<|q_t<|AGt<|AGq<|AG1<|AG6<|⟨_,AS9,?_⟩));refine ⟨rfl,Lu,HT,λy hy=>?_⟩
   first
   | (have:Lu=[]:=List.length_eq_zero_iff.1 AGp;rw [this] at hy;cases hy)
   | (rw [List.getLast?_eq_getElem?,hx] at hy;injection hy with hy;subst hy;omega)
 ·refine AGq<|AUm 6 false AG3 rfl rfl (AUm 6 false AG3 rfl rfl (AUm 6 false AG3 rfl rfl (AUm 6 false AG3 rfl rfl (AUm 6 false AG3 rfl rfl (AUm 6 false AG3 rfl rfl (AUm 6 false AG3 rfl rfl (ATx rfl (AGw<|ATy rfl (ATk<|ATl<|ATl<|AUi<|q_t<|AGt<|AGq<|AG1<|AG6<|⟨_,AS9,?_⟩)))))))));refine ⟨rfl,Lu,HT,λy hy=>?_⟩
  first
  | (have:Lu=[]:=List.length_eq_zero_iff.1 AGp;rw [this] at hy;cases hy)
  | (rw [List.getLast?_eq_getElem?,hx] at hy;injection hy with hy;subst hy;omega)
theorem Aie (w:Nat) (hw:w < 18446744073709551616) (h:AG0):AT3 Tryz.prog 188 #[.int .u64 (w:Int)] h λx h'=>Ext h h'/\ ∃ L,DS h' (Array.size h) x L/\TL L/\nv L=w/\L.length<=2:=by
 refine AUc (l:=[_]) mx Tryz.func188 rfl rfl rfl rfl rfl AG3 (AGt<|AT7<|AGq<|Ac3 AVv AWa rfl ?_);rw [show IntKind.u32.wrap (w:Int)=((w % 4294967296:Nat):Int) by rw [wrap_u32];omega];refine AGq<|Aq3 (n:=32) rfl rfl AGr (Ac3 AVv AWa rfl ?_);rw [show IntKind.u32.wrap ((w:Int) / 2 ^ 32)=((w / 4294967296:Nat):Int) by rw [wrap_u32];omega];have e1:IntKind.u32.wrap (w:Int)=((w % 4294967296:Nat):Int):=by rw [wrap_u32];omega
 have e2:IntKind.u32.wrap ((w:Int) / 2 ^ 32)=((w / 4294967296:Nat):Int):=by rw [wrap_u32];omega
 have hdg:Dig [w % 4294967296,w / 4294967296]:=by intro x hx;simp only [List.mem_cons,List.not_mem_nil,or_false] at hx;rcases hx with rfl | rfl <;> omega
 refine A5h ([w % 4294967296,w / 4294967296].map Af8) ATo Ad7 rfl (λ_=>trivial) rfl AGp AGp rfl (by simp [Af8,isOne]) λg1 v1 h1 Ad E1 Ae Aj=>?_;have Ak:=E1.1;have Z2:=(Ext.refl h).trans E1;have Ab:=Ad.ds (lo:=Array.size h) hdg Ae;refine ATm trivial rfl (Ae0 (Ab.mono<|Nat.zero_le _) AT5) λx3 h1 hk=>?_;obtain ⟨rfl,L2,HT,htl⟩:=hk;refine ⟨trivial,?_⟩;refine AG1<|AG6<|⟨_,AS9,?_⟩;exact ⟨E1,L2,HT.ds Ab.lo,htl,by rw [HT.val];simp only [nv];omega,by have:=HT.len;simpa using this⟩
theorem Art {lo:Nat} {L:List Nat} (H:DS h lo v L) (hn:L.length<=2):AT3 Tryz.prog 205 #[v] h λx h'=>h'=h/\x= .int .u64 (nv L:Int):=by
 refine AUc (l:=[_]) mx Tryz.func205 rfl rfl rfl rfl rfl AG3 (AGt<|AT7<|AG1<|AGv<|AGt<|AGq<|Aow ATo rfl H.sl ?_);rw [List.length_map];refine AGq<|AGw<|AGx<|AXb 2096952 (λy:Nat × Nat=>[(8,.int .i64 (y.1:Int)),(3,.int .u64 (y.2:Int))]) (λk y h'=>h'=h/\k=L.length - y.1/\y.1<=L.length/\y.2=nv (L.take y.1)) AG3 L.length (0,0) ?_ ⟨rfl,rfl,trivial⟩ ?_
 ·exact ⟨rfl,rfl,Nat.zero_le _,rfl⟩
 rintro k ⟨i,w⟩ s1 h ⟨rfl,rfl,hi,hw⟩;dsimp only at hi hw ⊢;subst hw;refine AGt<|AXi rfl rfl (λAb=>?_) (λAb=>?_)
 ·refine AGw<|AGv<|ATv rfl (AG5<|q_t<|AGv<|AGx<|AGv ?_);obtain ⟨x,hx⟩:∃ x,L[i]? =some x:=⟨_,List.getElem?_eq_getElem AGp⟩;have hxb:=H.dig x<|List.mem_of_getElem? hx;refine ATc<|AGq<|Ar6 ATo rfl H.sl rfl (Aj7 hx) λAf Ac=>AT1 AVo rfl Ac (ATu<|AG1<|ATc<|AGq<|AGq<|BBf AWa AVv rfl (by rw [wrap_u64];omega) ?_);refine AGq<|Agh rfl rfl AGp AGp ?_;rw [show (32:Int) * (i:Int)=((32 * i:Nat):Int) by omega];refine Aug (n:=32 * i) rfl rfl (by show 32 * i<=64;omega) ?_;have Aa:i=0∨i=1:=by omega
  have hlt:=Aji H.dig hi
  have hsh:IntKind.u64.wrap ((x:Int) * 2 ^ (32 * i))=((2 ^ (32 * i) * x:Nat):Int):=by
   rw [wrap_u64]
   rcases Aa with rfl | rfl
   ·simp;omega
   ·simp;omega
  rw [hsh]
  have Ad:2 ^ (32 * i) * x < 18446744073709551616:=by
   rcases Aa with rfl | rfl
   ·simp;omega
   ·simp;omega
  have Ae:nv (L.take i) < 18446744073709551616:=by
   rcases Aa with rfl | rfl
   ·simp at hlt ⊢;omega
   ·simp at hlt ⊢;omega
  refine Ane rfl rfl (.inr<|.inl rfl) (A5j Ae Ad) ?_;rw [A5k (by rw [<- Ao1];exact hlt),<- Ao1,<- AU6 hx];refine ATu<|ATr<|q_b<|q_t<|ATc<|Aci rfl AGp (AGq<|AGw ?_);exact ⟨L.length - (i + 1),(i + 1,nv<|L.take<|i + 1),by first | omega | (dsimp only;omega),⟨rfl,rfl,by first | omega | (dsimp only;omega),rfl⟩,rfl,rfl,trivial⟩
 ·refine AGw<|AGv<|ATy rfl (ATk<|ATl<|ATl<|AUi<|q_t<|AGt<|AGq<|AG1<|AG6<|⟨_,AS9,?_⟩);obtain rfl:i=L.length:=by omega
  exact ⟨rfl,by rw [List.take_length] at *;rfl⟩
theorem Ag3 (w:World):(Instr.build 129 #[]).run Tryz.prog w= .ok (.agg #[.bool false,.slice none 0 0]) w:=by kernel_rfl
theorem Apl (b:Bool) (a:Option Addr) (n c:Nat) (w:World):(Instr.build 129 #[(0,.bool b),(1,.slice a n c)]).run Tryz.prog w= .ok (.agg #[.bool b,.slice a n c]) w:=by kernel_rfl
theorem Aco {lo:Nat} {s:Value} {L:List Nat} (neg:Bool) (H:DS h lo s L) (htl:TL L) (hn:L.length<=100):AT3 Tryz.prog 187 #[.bool neg,s] h λx h'=>Ext h h'/\ZV h' lo x (sgn neg<|nv L):=by
 obtain ⟨a,n,c,rfl,hnc⟩:=H.cap;refine AUc (l:=[_,_]) mx Tryz.func187 rfl rfl rfl rfl rfl AG3 (AGt<|AY8 [.bool false,.slice none 0 0] AXy rfl (λ_=>trivial) λAa h2 V3 E4 Ak Ar=>?_);have Au:Array.size h<=Aa:=Ak;have Av:=E4.1;have Z8:=(Ext.refl h).trans E4;refine AGw<|AGv<|AGt<|AGq<|Aow ATo rfl (H.sl.ext E4) ?_;rw [List.length_map];refine Ak4 rfl rfl (λAm=>?_) (λAm=>?_)
 ·refine AGw<|ATv rfl (AGt<|AWr (v:= .agg #[.bool false,.slice none 0 0]) Ag3<|AVf [.bool false,.slice none 0 0] AUj rfl rfl rfl rfl (by simp [isOne]) V3 λh9 Ao Ad=>?_);have Af:=E4.thenUpd Ad (λk hk=>by have Ac:k=Aa:=hk;omega);have Ax:=Ad.1;have Ay:=Z8.thenUpd Ad (λk hk=>by have Ac:k=Aa:=hk;omega);have Az:=E4.thenUpd Ad (λk hk=>by have Ac:k=Aa:=hk;omega);refine AGw (AG6<|ATj<|⟨_,AVn AUj rfl rfl Ao,?_⟩)
  first
  | (have h0:L=[]:=List.length_eq_zero_iff.1 AGp
     subst h0
     exact ⟨Af,⟨false,_,[],rfl,Ajh _ _,Ako,AT5,by cases neg <;> rfl⟩⟩)
  | exact ⟨Af,⟨neg,_,L,rfl,H.ext Af,htl,hn,rfl⟩⟩
 ·refine AGw<|ATy rfl (AG5<|q_t<|AGt<|AGq<|AGq<|AWr (v:= .agg #[.bool neg,.slice a n c]) (Apl neg a n c)<|AVf [.bool neg,.slice a n c] AUj rfl rfl rfl rfl (by simp [isOne]) V3 λA3 Ap Ae=>?_);have Ah:=E4.thenUpd Ae (λk hk=>by have Ac:k=Aa:=hk;omega);have A4:=Ae.1;have A5:=Z8.thenUpd Ae (λk hk=>by have Ac:k=Aa:=hk;omega);have A6:=E4.thenUpd Ae (λk hk=>by have Ac:k=Aa:=hk;omega);refine AGw (AG6<|⟨_,AVn AUj rfl rfl Ap,?_⟩)
  first
  | (have h0:L=[]:=List.length_eq_zero_iff.1 AGp
     subst h0
     exact ⟨Ah,⟨false,_,[],rfl,Ajh _ _,Ako,AT5,by cases neg <;> rfl⟩⟩)
  | exact ⟨Ah,⟨neg,_,L,rfl,H.ext Ah,htl,hn,rfl⟩⟩
theorem Small_ok {n:Int} (hn: -9223372036854775808<=n/\n<=9223372036854775807) (h:AG0):AT3 Tryz.prog 152 #[.int .i64 n] h λx h'=>Ext h h'/\ZV h' (Array.size h) x n:=by
 refine AUc (l:=[_]) mx Tryz.func152 rfl rfl rfl rfl rfl AG3 (AGt<|AY8 [.bool false,.slice none 0 0] AXy rfl (λ_=>trivial) λAa h2 V3 E4 Az By=>?_);have Bz:Array.size h<=Aa:=Az;have B3:=E4.1;have Z8:=(Ext.refl h).trans E4;refine AGw<|AGv<|AGt<|AGq<|AXi rfl rfl (λA3=>?_) (λA3=>?_)
 ·refine AGw<|ATv rfl (AGt<|AGq<|Ac3 Aap AVv rfl ?_);rw [show IntKind.u64.wrap n=n + 18446744073709551616 by rw [wrap_u64];omega];refine Aq1 rfl ?_;rw [show IntKind.u64.wrap (0 - (n + 18446744073709551616))=((n.natAbs:Nat):Int) by rw [wrap_u64];omega];refine ATm trivial rfl (Aie n.natAbs AGp _) λx9 B5 hk=>?_;obtain ⟨Ag,L1,Ah,Ao,Ap,A5⟩:=hk;refine ⟨trivial,?_⟩;have B6:=Ag.1;have A6:=Z8.trans Ag;have A7:=E4.trans Ag;have A8:=V3.ext Ag;have A9:=E4.trans Ag;refine ATm trivial rfl (Aco true Ah Ao AGp) λB7 B8 hk=>?_;obtain ⟨Ac,Aq⟩:=hk;refine ⟨trivial,?_⟩;have B9:=Ac.1;have Ba:=A6.trans Ac;have Bb:=A7.trans Ac;have Bc:=A8.ext Ac;have Be:=A9.trans Ac;have Bf:=Ah.ext Ac;obtain ⟨Ai,s2,L2,rfl,Aj,Au,Av,Aw⟩:=Aq.out;refine AVf [.bool Ai,s2] AUj rfl rfl rfl rfl (Ab4 Aj.cap) Bc λCa Bg Ad=>?_;have Bh:=Bb.thenUpd Ad (λk hk=>by have Ak:k=Aa:=hk;omega);have Cb:=Ad.1;have Cd:=Ba.thenUpd Ad (λk hk=>by have Ak:k=Aa:=hk;omega);have Ce:=Be.thenUpd Ad (λk hk=>by have Ak:k=Aa:=hk;omega);have Cf:=Bf.updLo Ad AGp;have Bi:=Aj.updLo Ad AGp;refine AGw<|AG6<|ATj<|⟨_,AVn AUj rfl rfl Bg,?_⟩;exact ⟨Bh,⟨Ai,s2,L2,rfl,Bi.mono AGp,Au,Av,by rw [<- Aw,Ap];unfold sgn;first | (rw [if_pos rfl];omega) | (rw [if_neg AGr];omega)⟩⟩
 ·refine AGw<|ATy rfl (AG5<|q_t<|AGt<|AGq<|Ac3 Aap AVv rfl ?_);rw [show IntKind.u64.wrap n=((n.natAbs:Nat):Int) by rw [wrap_u64];omega];refine ATm trivial rfl (Aie n.natAbs AGp _) λCg Ch hk=>?_;obtain ⟨Am,L1,Ah,Ao,Ap,A5⟩:=hk;refine ⟨trivial,?_⟩;have Ci:=Am.1;have Bj:=Z8.trans Am;have Bl:=E4.trans Am;have Bm:=V3.ext Am;have Bn:=E4.trans Am;refine ATm trivial rfl (Aco false Ah Ao AGp) λCj Ck hk=>?_;obtain ⟨Ae,Aq⟩:=hk;refine ⟨trivial,?_⟩;have Cm:=Ae.1;have Bo:=Bj.trans Ae;have Bp:=Bl.trans Ae;have Bq:=Bm.ext Ae;have Br:=Bn.trans Ae;have Bt:=Ah.ext Ae;obtain ⟨Ai,s2,L2,rfl,Aj,Au,Av,Aw⟩:=Aq.out;refine AVf [.bool Ai,s2] AUj rfl rfl rfl rfl (Ab4 Aj.cap) Bq λCn Bu Af=>?_;have Bv:=Bp.thenUpd Af (λk hk=>by have Ak:k=Aa:=hk;omega);have Co:=Af.1;have Cp:=Bo.thenUpd Af (λk hk=>by have Ak:k=Aa:=hk;omega);have Cq:=Br.thenUpd Af (λk hk=>by have Ak:k=Aa:=hk;omega);have Cr:=Bt.updLo Af AGp;have Bw:=Aj.updLo Af AGp;refine AGw<|AG6<|⟨_,AVn AUj rfl rfl Bu,?_⟩;exact ⟨Bv,⟨Ai,s2,L2,rfl,Bw.mono AGp,Au,Av,by rw [<- Aw,Ap];unfold sgn;first | (rw [if_pos rfl];omega) | (rw [if_neg AGr];omega)⟩⟩
theorem Aqm {lo:Nat} {L:List Nat} (H:DS h lo v L) (hn:L.length<=1000000):AT3 Tryz.prog 192 #[v] h λx h'=>Ext h h'/\DS h' (Array.size h) x L:=by
 obtain ⟨a,n,c,rfl,hnc⟩:=H.cap;refine AUc (l:=[_]) mx Tryz.func192 rfl rfl rfl rfl rfl AG3 (AGt<|AG1<|AGv<|AGt<|AGq<|A9b Tryz.underlying127 rfl ?_);cases Ad:a.isNone
 ·refine AGw<|ATy rfl (AG5<|q_t<|AGv ?_);obtain ⟨xa,rfl⟩:∃ q,a=some q:=Option.ne_none_iff_exists'.1 (λhe=>by rw [he] at Ad;cases Ad);refine ATc<|BEv ATo (λ_=>trivial) λg1 v1 h1 Af E1 Ag Ap=>?_;have Aq:=E1.1;have Z2:=(Ext.refl h).trans E1;refine AGq ?_;by_cases hL:L=[]
  ·subst hL;obtain rfl:n=0:=A5i H;refine BCc ATo (λ_=>trivial) rfl Af rfl λv2 h2 Ab U2=>AG1<|AG6<|⟨_,AS9,?_⟩;exact ⟨E1.thenUpd U2 (λk hk=>by have Ai:k=g1:=hk;omega),Ab.ds H.dig Ag⟩
  refine BBa ATo Ad7 rfl trivial rfl Af rfl (H.sl.ext E1) (λu hu=>by obtain ⟨y,_,rfl⟩:=List.mem_map.1 hu;rfl) (by simpa using hL) (by simp;omega) (by simp;omega) λv2 g2 h2 Ab Ak U2=>?_;refine ⟨trivial,?_⟩;have XZ:=E1.thenUpd U2 (λk hk=>by have Ai:k=g1:=hk;omega);have hg2l:Array.size h<=g2:=by rcases Ak with rfl | rfl;exact Ag;omega
  refine AG1<|AG6<|⟨_,AS9,?_⟩;exact ⟨XZ,Ab.ds H.dig hg2l⟩
 ·refine AGw<|ATv rfl (AGv ?_);have h0:L=[]:=A9c (Option.isNone_iff_eq_none.1<|by assumption) H;refine ATc<|AG1<|AG6<|ATj<|⟨_,AS9,?_⟩;subst h0;exact ⟨Ext.refl _,Ajh _ _⟩
def AYp (z:Int):Int:=if z < 0 then -1 else if z=0 then 0 else 1
theorem sign_zero {z:Int} (h:z=0):AYp z=0:=by subst h;rfl
theorem sign_neg {z:Int} (h:z < 0):AYp z= -1:=if_pos h
theorem Ajl {z:Int} (h:0 < z):AYp z=1:=by unfold AYp;omega
theorem Sign_ok {lo:Nat} {z:Int} (HA:ZV h lo va z):AT3 Tryz.prog 155 #[va] h λx h'=>Ext h h'/\x= .int .i64 (AYp z):=by
 obtain ⟨na,sa,LA,rfl,HDa,htla,hla,hza⟩:=HA.out;have hna:LA.length<=1000000:=by omega
 refine AUc (l:=[_]) mx Tryz.func155 rfl rfl rfl rfl rfl AG3 (AGt<|Ab7 [.bool na,sa] (λ_=>trivial) rfl rfl λAj h2 V3 E4 Ak Aq=>?_);have Ar:Array.size h<=Aj:=Ak;have Au:=E4.1;have Z8:=(Ext.refl h).trans E4;refine AG1<|AGv<|AGx<|AGt<|AYe (fs:=1) Aej AG3 AGr rfl (AT1 Aaa rfl (V3.cell (i:=1) rfl) (ATm trivial rfl (Ae0 (DS.mono (HDa.ext E4)<|Nat.zero_le _) hna) λx9 h2 hk=>?_));obtain ⟨rfl,L1,Af,Ag⟩:=hk;refine ⟨trivial,?_⟩;have Am:=Af.ds (lo:=lo) HDa.lo;refine AUz ATo rfl Am (Ak4 rfl rfl (λAo=>?_) (λAo=>?_))
 ·refine AG1 (ATv rfl (AGt<|AG1<|AG6<|AUp<|ATj<|⟨_,AS9,?_⟩))
  first
  | (have h0:L1=[]:=List.length_eq_zero_iff.1 AGp
     have h1:nv LA=0:=by rw [<- Af.val,h0];rfl
     exact ⟨E4,congrArg (Value.int .i64) (sign_zero<|hza.trans (by rw [h1];cases na <;> rfl)).symm⟩)
  | (have h1:nv LA≠0:=λh0=>by rw [<- Af.val] at h0;have:=congrArg List.length<|AZf Ag h0;rw [List.length_nil] at this;omega
     have h2:z=sgn na (nv LA):=hza
     have h3:na=true:=by assumption
     exact ⟨E4,congrArg (Value.int .i64) (sign_neg (by rw [h2,h3];unfold sgn;rw [if_pos rfl];omega)).symm⟩)
  | (have h1:nv LA≠0:=λh0=>by rw [<- Af.val] at h0;have:=congrArg List.length<|AZf Ag h0;rw [List.length_nil] at this;omega
     have h2:z=sgn na (nv LA):=hza
     have h3:na=false:=by assumption
     exact ⟨E4,congrArg (Value.int .i64) (Ajl (by rw [h2,h3];unfold sgn;rw [if_neg AGr];omega)).symm⟩)
 ·refine AG1<|ATy rfl (AGt<|AYe (fs:=1) Ad2 AG3 AGr rfl (AT1 AWm rfl (V3.cell (i:=0) rfl) (AG1<|⟨_,rfl,λAp=>?_,λAp=>?_⟩)))
  ·refine AGt (AG1<|AG6<|AUp<|ATj<|⟨_,AS9,?_⟩)
   first
   | (have h0:L1=[]:=List.length_eq_zero_iff.1 AGp
      have h1:nv LA=0:=by rw [<- Af.val,h0];rfl
      exact ⟨E4,congrArg (Value.int .i64) (sign_zero<|hza.trans (by rw [h1];cases na <;> rfl)).symm⟩)
   | (have h1:nv LA≠0:=λh0=>by rw [<- Af.val] at h0;have:=congrArg List.length<|AZf Ag h0;rw [List.length_nil] at this;omega
      have h2:z=sgn na (nv LA):=hza
      have h3:na=true:=by assumption
      exact ⟨E4,congrArg (Value.int .i64) (sign_neg (by rw [h2,h3];unfold sgn;rw [if_pos rfl];omega)).symm⟩)
   | (have h1:nv LA≠0:=λh0=>by rw [<- Af.val] at h0;have:=congrArg List.length<|AZf Ag h0;rw [List.length_nil] at this;omega
      have h2:z=sgn na (nv LA):=hza
      have h3:na=false:=by assumption
      exact ⟨E4,congrArg (Value.int .i64) (Ajl (by rw [h2,h3];unfold sgn;rw [if_neg AGr];omega)).symm⟩)
  ·refine AG5 (q_b<|q_t<|AGt<|AG1<|AG6<|⟨_,AS9,?_⟩)
   first
   | (have h0:L1=[]:=List.length_eq_zero_iff.1 AGp
      have h1:nv LA=0:=by rw [<- Af.val,h0];rfl
      exact ⟨E4,congrArg (Value.int .i64) (sign_zero<|hza.trans (by rw [h1];cases na <;> rfl)).symm⟩)
   | (have h1:nv LA≠0:=λh0=>by rw [<- Af.val] at h0;have:=congrArg List.length<|AZf Ag h0;rw [List.length_nil] at this;omega
      have h2:z=sgn na (nv LA):=hza
      have h3:na=true:=by assumption
      exact ⟨E4,congrArg (Value.int .i64) (sign_neg (by rw [h2,h3];unfold sgn;rw [if_pos rfl];omega)).symm⟩)
   | (have h1:nv LA≠0:=λh0=>by rw [<- Af.val] at h0;have:=congrArg List.length<|AZf Ag h0;rw [List.length_nil] at this;omega
      have h2:z=sgn na (nv LA):=hza
      have h3:na=false:=by assumption
      exact ⟨E4,congrArg (Value.int .i64) (Ajl (by rw [h2,h3];unfold sgn;rw [if_neg AGr];omega)).symm⟩)
theorem Neg_ok {lo:Nat} {z:Int} (HA:ZV h lo va z):AT3 Tryz.prog 190 #[va] h λx h'=>Ext h h'/\ZV h' (Array.size h) x (-z):=by
 obtain ⟨na,sa,LA,rfl,HDa,htla,hla,hza⟩:=HA.out;have hna:LA.length<=1000000:=by omega
 refine AUc (l:=[_]) mx Tryz.func190 rfl rfl rfl rfl rfl AG3 (AGt<|Ab7 [.bool na,sa] (λ_=>trivial) rfl rfl λAm h2 V3 E4 Az Bx=>?_);have By:Array.size h<=Am:=Az;have Bz:=E4.1;have Z8:=(Ext.refl h).trans E4;refine AY8 [.bool false,.slice none 0 0] AXy rfl (λ_=>trivial) λAd Ah A4 Ae A5 B3=>?_;have B4:Array.size h<=Ad:=Nat.le_trans E4.1 A5;have nebq1bq9:Am≠Ad:=by have:=V3.lt;omega
 have B5:=Ae.1;have A6:=Z8.trans Ae;have Ap:=E4.trans Ae;have Aq:=V3.ext Ae;have A7:=E4.trans Ae;refine AGw<|AGv<|AVl (λh'=>Ext Ah h') AG3 ?_;have Af:=Ext.refl Ah;refine AYe (fs:=1) Ad2 AG3 AGr rfl (AVe AWm rfl Af (λh' hb=>(Aq.ext hb).cell (i:=0) rfl) (AW0 rfl (AYe (fs:=1) Aej AG3 AGr rfl (AVe Aaa rfl Af (λh' hb=>(Aq.ext hb).cell (i:=1) rfl) (ATm Af rfl (Ae0 (DS.mono (HDa.ext Ap)<|Nat.zero_le _) hna) λB6 Ah hk=>?_)))));obtain ⟨rfl,L1,Ai,A8⟩:=hk;refine ⟨Af,?_⟩;have A9:=Ai.ds (lo:=lo) HDa.lo;have Ar:=Ai.val;have B8:=Ai.len;refine ATm Af rfl (Aqm A9 AGp) λB9 Ca hk=>?_;obtain ⟨Ab,Au⟩:=hk;have Aj:=Af.trans Ab;refine ⟨Aj,?_⟩;have Cb:=Ab.1;have Ba:=A6.trans Ab;have Bb:=Ap.trans Ab;have Bc:=A7.trans Ab;have Be:=A4.ext Ab;have Bf:=Ae.trans Ab;refine ATm Aj rfl (Aco (!na) Au A8 AGp) λCd Ce hk=>?_;obtain ⟨Aa,Bg⟩:=hk;have Bh:=Aj.trans Aa;refine ⟨Bh,?_⟩;have Cf:=Aa.1;have Bi:=Ba.trans Aa;have Bj:=Bb.trans Aa;have Bl:=Bc.trans Aa;have Bm:=Be.ext Aa;have Bn:=Bf.trans Aa;have Bo:=Au.ext Aa;obtain ⟨Av,s3,L3,rfl,Ax,Bq,Br,Ay⟩:=Bg.out;refine AVf [.bool Av,s3] AUj rfl rfl rfl rfl (Ab4 Ax.cap) Bm λCg Bt Ac=>?_;have Bu:=Bj.thenUpd Ac (λk hk=>by have Ak:k=Ad:=hk;omega);have Ch:=Ac.1;have Ci:=Bi.thenUpd Ac (λk hk=>by have Ak:k=Ad:=hk;omega);have Cj:=Bn.thenUpd Ac (λk hk=>by have Ak:k=Ad:=hk;omega);have Ck:=Bl.thenUpd Ac (λk hk=>by have Ak:k=Ad:=hk;omega);have Cm:=Bo.updLo Ac AGp;have Bv:=Ax.updLo Ac AGp;refine AGw<|AG6<|⟨_,AVn AUj rfl rfl Bt,?_⟩;exact ⟨Bu,⟨Av,s3,L3,rfl,Bv.mono AGp,Bq,Br,by first | (rw [<- Ay,Ar,hza];done) | (rw [<- Ay,Ar,hza];cases na <;> simp [sgn])⟩⟩
theorem Normalize_ok {lo:Nat} {z:Int} (HA:ZV h lo va z):AT3 Tryz.prog 156 #[va] h λx h'=>Ext h h'/\ZV h' (Array.size h) x (z):=by
 obtain ⟨na,sa,LA,rfl,HDa,htla,hla,hza⟩:=HA.out;have hna:LA.length<=1000000:=by omega
 refine AUc (l:=[_]) mx Tryz.func156 rfl rfl rfl rfl rfl AG3 (AGt<|Ab7 [.bool na,sa] (λ_=>trivial) rfl rfl λAm h2 V3 E4 Az Bx=>?_);have By:Array.size h<=Am:=Az;have Bz:=E4.1;have Z8:=(Ext.refl h).trans E4;refine AY8 [.bool false,.slice none 0 0] AXy rfl (λ_=>trivial) λAd Ah A4 Ae A5 B3=>?_;have B4:Array.size h<=Ad:=Nat.le_trans E4.1 A5;have nebq1bq9:Am≠Ad:=by have:=V3.lt;omega
 have B5:=Ae.1;have A6:=Z8.trans Ae;have Ap:=E4.trans Ae;have Aq:=V3.ext Ae;have A7:=E4.trans Ae;refine AGw<|AGv<|AVl (λh'=>Ext Ah h') AG3 ?_;have Af:=Ext.refl Ah;refine AYe (fs:=1) Ad2 AG3 AGr rfl (AVe AWm rfl Af (λh' hb=>(Aq.ext hb).cell (i:=0) rfl) (AYe (fs:=1) Aej AG3 AGr rfl (AVe Aaa rfl Af (λh' hb=>(Aq.ext hb).cell (i:=1) rfl) (ATm Af rfl (Ae0 (DS.mono (HDa.ext Ap)<|Nat.zero_le _) hna) λB6 Ah hk=>?_))));obtain ⟨rfl,L1,Ai,A8⟩:=hk;refine ⟨Af,?_⟩;have A9:=Ai.ds (lo:=lo) HDa.lo;have Ar:=Ai.val;have B8:=Ai.len;refine ATm Af rfl (Aqm A9 AGp) λB9 Ca hk=>?_;obtain ⟨Ab,Au⟩:=hk;have Aj:=Af.trans Ab;refine ⟨Aj,?_⟩;have Cb:=Ab.1;have Ba:=A6.trans Ab;have Bb:=Ap.trans Ab;have Bc:=A7.trans Ab;have Be:=A4.ext Ab;have Bf:=Ae.trans Ab;refine ATm Aj rfl (Aco na Au A8 AGp) λCd Ce hk=>?_;obtain ⟨Aa,Bg⟩:=hk;have Bh:=Aj.trans Aa;refine ⟨Bh,?_⟩;have Cf:=Aa.1;have Bi:=Ba.trans Aa;have Bj:=Bb.trans Aa;have Bl:=Bc.trans Aa;have Bm:=Be.ext Aa;have Bn:=Bf.trans Aa;have Bo:=Au.ext Aa;obtain ⟨Av,s3,L3,rfl,Ax,Bq,Br,Ay⟩:=Bg.out;refine AVf [.bool Av,s3] AUj rfl rfl rfl rfl (Ab4 Ax.cap) Bm λCg Bt Ac=>?_;have Bu:=Bj.thenUpd Ac (λk hk=>by have Ak:k=Ad:=hk;omega);have Ch:=Ac.1;have Ci:=Bi.thenUpd Ac (λk hk=>by have Ak:k=Ad:=hk;omega);have Cj:=Bn.thenUpd Ac (λk hk=>by have Ak:k=Ad:=hk;omega);have Ck:=Bl.thenUpd Ac (λk hk=>by have Ak:k=Ad:=hk;omega);have Cm:=Bo.updLo Ac AGp;have Bv:=Ax.updLo Ac AGp;refine AGw<|AG6<|⟨_,AVn AUj rfl rfl Bt,?_⟩;exact ⟨Bu,⟨Av,s3,L3,rfl,Bv.mono AGp,Bq,Br,by first | (rw [<- Ay,Ar,hza];done) | (rw [<- Ay,Ar,hza];cases na <;> simp [sgn])⟩⟩
def Af2 (a b:Nat):Int:=if a < b then -1 else if a=b then 0 else 1
theorem Acu {a b:Nat} (h:a < b):Af2 a b= -1:=if_pos h
theorem Acv {a b:Nat} (h:b < a):Af2 a b=1:=by unfold Af2;omega
theorem Ajm {a b:Nat} (h:a=b):Af2 a b=0:=by unfold Af2;omega
theorem Acw {A:List Nat} (ha:Dig A) (hb:TL B) (h:A.length < B.length):nv A < nv B:=by
 have h1:=Afu ha;have h2:=A5g hb (λhe=>by grind);have h3:4294967296 ^ A.length<=4294967296 ^ (B.length - 1):=Nat.pow_le_pow_right AGr AGp;omega
theorem Acx {A:List Nat} (ha:Dig A) (hb:Dig B) {x y:Nat} (hl:A.length=B.length) (hx:A[i]? =some x) (hy:B[i]? =some y) (hxy:x < y) (hs:∀ q,i < q->A[q]? =B[q]?):nv A < nv B:=by
 have hi:=(List.getElem?_eq_some_iff.1 hx).1;have hd:A.drop (i + 1)=B.drop (i + 1):=List.ext_getElem? λq=>by grind
 have e:∀ L:List Nat,nv L=nv (L.take<|i + 1) + 4294967296 ^ (L.take<|i + 1).length * nv (L.drop<|i + 1):=λL=>by rw [<- Anz,List.take_append_drop]
 rw [e A,e B,hd,AU6 hx,AU6 hy,List.length_take,List.length_take,hl];have h1:=Aji ha (i:=i) AGp;have h2:4294967296 ^ i * (x + 1)<=4294967296 ^ i * y:=Nat.mul_le_mul_left _ hxy;grind
theorem Aot (HA:DS h la va LA) (HB:DS h lb vb LB) (hta:TL LA) (htb:TL LB) (hna:LA.length<=1000000) (hnb:LB.length<=1000000):AT3 Tryz.prog 204 #[va,vb] h λx h'=>h'=h/\x= .int .i64 (Af2 (nv LA)<|nv LB):=by
 refine AUc (l:=[_,_]) mx Tryz.func204 rfl rfl rfl rfl rfl AG3 (AGt<|AG1<|AGv<|AGx<|AGt<|AGq<|AUz ATo rfl HA (AGq<|AUz ATo rfl HB (AXi rfl rfl (λAc=>?_) (λAc=>?_))))
 ·refine AG1 (ATv rfl (AGt<|AG1<|AG6<|AUp<|ATj<|⟨_,AS9,?_⟩))
  first
  | exact ⟨rfl,congrArg (Value.int .i64) (Acu<|Acw HA.dig htb AGp).symm⟩
  | exact ⟨rfl,congrArg (Value.int .i64) (Acv<|Acw HB.dig hta AGp).symm⟩
  | exact ⟨rfl,congrArg (Value.int .i64) (Acu<|Acx HA.dig HB.dig AGp hx hy AGp λq hq=>hsame q AGp).symm⟩
  | exact ⟨rfl,congrArg (Value.int .i64) (Acv<|Acx HB.dig HA.dig AGp hy hx AGp λq hq=>(hsame q AGp).symm).symm⟩
  | exact ⟨rfl,congrArg (Value.int .i64) (Ajm<|congrArg nv<|List.ext_getElem? λq=>hsame q AGp).symm⟩
 ·refine AG1<|ATy rfl (AGt<|AGq<|AUz ATo rfl HA (AGq<|AUz ATo rfl HB (Ajd rfl rfl (λAd=>?_) (λAd=>?_))))
  ·refine AG1 (ATv rfl (AGt<|AG1<|AG6<|AUp<|ATj<|⟨_,AS9,?_⟩))
   first
   | exact ⟨rfl,congrArg (Value.int .i64) (Acu<|Acw HA.dig htb AGp).symm⟩
   | exact ⟨rfl,congrArg (Value.int .i64) (Acv<|Acw HB.dig hta AGp).symm⟩
   | exact ⟨rfl,congrArg (Value.int .i64) (Acu<|Acx HA.dig HB.dig AGp hx hy AGp λq hq=>hsame q AGp).symm⟩
   | exact ⟨rfl,congrArg (Value.int .i64) (Acv<|Acx HB.dig HA.dig AGp hy hx AGp λq hq=>(hsame q AGp).symm).symm⟩
   | exact ⟨rfl,congrArg (Value.int .i64) (Ajm<|congrArg nv<|List.ext_getElem? λq=>hsame q AGp).symm⟩
  ·refine AG1<|ATy rfl (AG5<|q_b<|q_t<|AGv<|AGt<|AGq<|AUz ATo rfl HA (Ae5 rfl rfl AGp AGp (AG1<|AGx<|AXb 35184369991728 (λi:Nat=>[(5,.int .i64<|(i:Int) - 1)]) (λk i h'=>h'=h/\i=k/\i<=LA.length/\ ∀ q,i<=q->LA[q]? =LB[q]?) AG3 LA.length LA.length ?_ ⟨rfl,trivial⟩ ?_)))
   ·exact ⟨rfl,rfl,Nat.le_refl _,λq hq=>by rw [List.getElem?_eq_none hq,List.getElem?_eq_none AGp]⟩
   rintro k i s1 h ⟨rfl,rfl,hi,hsame⟩;refine AGv<|AGt<|AGq<|Am9 rfl rfl (λAe=>?_) (λAe=>?_)
   ·refine AGw<|ATv rfl (AG5<|q_t<|AGv<|AGx<|AGx<|AGv ?_);obtain ⟨x,hx⟩:∃ x,LA[i - 1]? =some x:=⟨_,List.getElem?_eq_getElem AGp⟩;obtain ⟨y,hy⟩:∃ y,LB[i - 1]? =some y:=⟨_,List.getElem?_eq_getElem AGp⟩;have e1:((i:Int) - 1)=((i - 1:Nat):Int):=by omega
    refine Ajc AG3<|AGq<|AGq<|Abk (n:=i - 1) ATo rfl HA (show Value.int .i64 ((i:Int) - 1)=_ by rw [e1]) hx λa1 Af=>?_;refine AT1 AVo rfl Af (AGq<|AGq<|Abk (n:=i - 1) ATo rfl HB (show Value.int .i64 ((i:Int) - 1)=_ by rw [e1]) hy λa2 Ag=>?_);refine AT1 AVo rfl Ag (AXi rfl rfl (λAh=>?_) (λAh=>?_))
    ·refine AG1 (ATv rfl (AGt<|AG1<|AG6<|AUp<|AUp<|ATj<|ATj<|AUp<|ATj<|⟨_,AS9,?_⟩))
     first
     | exact ⟨rfl,congrArg (Value.int .i64) (Acu<|Acw HA.dig htb AGp).symm⟩
     | exact ⟨rfl,congrArg (Value.int .i64) (Acv<|Acw HB.dig hta AGp).symm⟩
     | exact ⟨rfl,congrArg (Value.int .i64) (Acu<|Acx HA.dig HB.dig AGp hx hy AGp λq hq=>hsame q AGp).symm⟩
     | exact ⟨rfl,congrArg (Value.int .i64) (Acv<|Acx HB.dig HA.dig AGp hy hx AGp λq hq=>(hsame q AGp).symm).symm⟩
     | exact ⟨rfl,congrArg (Value.int .i64) (Ajm<|congrArg nv<|List.ext_getElem? λq=>hsame q AGp).symm⟩
    ·refine AG1<|ATy rfl (AGv<|Ajc AG3<|AGq<|AGq<|Abk (n:=i - 1) ATo rfl HA (show Value.int .i64 ((i:Int) - 1)=_ by rw [e1]) hx λa3 Ai=>?_);refine AT1 AVo rfl Ai (AGq<|AGq<|Abk (n:=i - 1) ATo rfl HB (show Value.int .i64 ((i:Int) - 1)=_ by rw [e1]) hy λa4 Aj=>?_);refine AT1 AVo rfl Aj (Ajd rfl rfl (λAk=>?_) (λAk=>?_))
     ·refine AG1 (ATv rfl (AGt<|AG1<|AG6<|AUp<|AUp<|ATj<|ATj<|AUp<|ATj<|⟨_,AS9,?_⟩))
      first
      | exact ⟨rfl,congrArg (Value.int .i64) (Acu<|Acw HA.dig htb AGp).symm⟩
      | exact ⟨rfl,congrArg (Value.int .i64) (Acv<|Acw HB.dig hta AGp).symm⟩
      | exact ⟨rfl,congrArg (Value.int .i64) (Acu<|Acx HA.dig HB.dig AGp hx hy AGp λq hq=>hsame q AGp).symm⟩
      | exact ⟨rfl,congrArg (Value.int .i64) (Acv<|Acx HB.dig HA.dig AGp hy hx AGp λq hq=>(hsame q AGp).symm).symm⟩
      | exact ⟨rfl,congrArg (Value.int .i64) (Ajm<|congrArg nv<|List.ext_getElem? λq=>hsame q AGp).symm⟩
     ·refine AG1<|ATy rfl (AG5<|q_b<|q_b<|q_t<|ATc<|AGq<|Ae5 rfl rfl AGp AGp (AG1 ?_));exact ⟨i - 1,i - 1,AGp,⟨rfl,rfl,AGp,λq hq=>by rcases Nat.lt_or_ge q i with h2 | h2;obtain rfl:q=i - 1:=AGp;rw [hx,hy];congr 1;omega;exact hsame q h2⟩,by rw [show ((i - 1:Nat):Int) - 1=(i:Int) - 1 - 1 by omega];rfl,trivial⟩
   ·refine AGw (ATy rfl (ATk<|ATl<|ATl<|AUi<|q_t<|AGt<|AG1<|AG6<|⟨_,AS9,?_⟩))
    first
    | exact ⟨rfl,congrArg (Value.int .i64) (Acu<|Acw HA.dig htb AGp).symm⟩
    | exact ⟨rfl,congrArg (Value.int .i64) (Acv<|Acw HB.dig hta AGp).symm⟩
    | exact ⟨rfl,congrArg (Value.int .i64) (Acu<|Acx HA.dig HB.dig AGp hx hy AGp λq hq=>hsame q AGp).symm⟩
    | exact ⟨rfl,congrArg (Value.int .i64) (Acv<|Acx HB.dig HA.dig AGp hy hx AGp λq hq=>(hsame q AGp).symm).symm⟩
    | exact ⟨rfl,congrArg (Value.int .i64) (Ajm<|congrArg nv<|List.ext_getElem? λq=>hsame q AGp).symm⟩
theorem Aut (HA:DS h la va LA) (HB:DS h lb vb LB) (hna:LA.length<=1000) (hnb:LB.length<=1000):AT3 Tryz.prog 194 #[va,vb] h λx h'=>Ext h h'/\ ∃ L,DS h' (Array.size h) x L/\TL L/\nv L=nv LA + nv LB/\L.length<=1001:=by
 refine AUc (l:=[_,_]) mx Tryz.func194 rfl rfl rfl rfl rfl AG3 (AGt<|AG1<|Am5 65027 (λy:Value × Value × List Nat × List Nat=>[(0,y.1),(1,y.2.1)]) (λy h'=>h'=h/\DS h 0 y.1 y.2.2.1/\DS h 0 y.2.1 y.2.2.2/\y.2.2.2.length<=y.2.2.1.length/\y.2.2.1.length<=1000/\nv y.2.2.1 + nv y.2.2.2=nv LA + nv LB) AG3 ?_ ?_)
 ·refine AGt<|AGq<|AUz ATo rfl HA (AGq<|AUz ATo rfl HB (AXi rfl rfl (λAo=>?_) (λAo=>?_)))
  ·refine AGw<|ATv rfl (ATc<|AGq<|AGq<|ATu<|AG1 ?_);exact ⟨(_,_,LB,LA),⟨rfl,HB.mono<|Nat.zero_le _,HA.mono<|Nat.zero_le _,by first | omega | (dsimp only;omega),hnb,Nat.add_comm _ _⟩,rfl,rfl,trivial⟩
  ·refine AGw<|ATy rfl (AG5<|q_t ?_);exact ⟨(_,_,LA,LB),⟨rfl,HA.mono<|Nat.zero_le _,HB.mono<|Nat.zero_le _,by first | omega | (dsimp only;omega),hna,rfl⟩,rfl,rfl,trivial⟩
 rintro ⟨A9,Ba,A,B⟩ s0 h ⟨rfl,HX,HY,hBA,Ap,hsum⟩;dsimp only at HX HY hBA Ap hsum ⊢;refine AGt<|AGq<|AUz ATo rfl HX (Aho (b:=1) rfl rfl AGp (Asf (n:=A.length + 1) ATo Ad7 (λ_=>trivial) rfl rfl AGr AGp λg1 v1 h1 Aq E1 Ar Be=>?_));have Bf:=E1.1;have Z2:=(Ext.refl h).trans E1;refine AT7<|AG1<|AGv<|AGt<|AGq<|AUz ATo rfl (HY.ext E1) (AGq<|AGw<|AGx<|AXb 70368739983552 (λy:Nat × Nat=>[(22,.int .i64 (y.1:Int)),(6,.int .u64 (y.2:Int))]) (λk y h'=>k=B.length - y.1/\y.1<=B.length/\Ext h h'/\y.2<=1/\ ∃ D,AWl h' 200 g1 v1 ((D ++ List.replicate ((A.length + 1) - y.1) 0).map Af8)/\D.length=y.1/\Dig D/\nv D + 4294967296 ^ y.1 * y.2=nv (A.take y.1) + nv (B.take y.1)) AG3 B.length (0,0) ?_ ⟨rfl,rfl,trivial⟩ ?_)
 ·exact ⟨rfl,Nat.zero_le _,E1,by first | omega | (dsimp only;omega),[],by simpa using Aq,rfl,λx hx=>(by simp at hx),rfl⟩
 rintro k ⟨i,c⟩ s1 h2 ⟨rfl,hi,E2,hc,D,Ag,hDl,hDd,hDv⟩;dsimp only at hi hc Ag hDl hDv ⊢;have Bi:=E2.1;refine AGt<|AXi rfl rfl (λAu=>?_) (λAu=>?_)
 ·refine AGw<|AGv<|ATv rfl (AG5<|q_t<|AGv<|AGx<|AGt<|AGq<|AG1<|AGv ?_);obtain ⟨x,hx⟩:∃ x,A[i]? =some x:=⟨_,List.getElem?_eq_getElem AGp⟩;have hbx:=HX.dig x<|List.mem_of_getElem? hx;obtain ⟨y,hy⟩:∃ x,B[i]? =some x:=⟨_,List.getElem?_eq_getElem AGp⟩;have hby:=HY.dig y<|List.mem_of_getElem? hy;refine Ajc AG3<|AGq<|AGq<|AGq<|Abk ATo rfl (HX.ext E2) rfl hx λBj Av=>AT1 AVo rfl Av (Akp AWa AVv rfl hbx (AGq<|AGq<|Abk ATo rfl (HY.ext E2) rfl hy λBl Aw=>AT1 AVo rfl Aw (Akp AWa AVv rfl hby (Agz rfl rfl AGp (Agz rfl rfl AGp (AT7<|AGq<|AGq<|AGq<|Amu AVv AWa rfl (Ak2 ATo rfl Ag rfl (by simp;omega) ?_)))))));refine Amt (D ++ [(c + (x + y)) % 4294967296] ++ List.replicate (A.length + 1 - (i + 1)) 0) AVo rfl rfl Ag (by simp;omega) (Arj hDl AGp) λh4 Ax U4=>?_;have Bn:=U4.1;have X7:=E2.thenUpd U4 (λk hk=>by have Ad:k=g1:=hk;omega);have Z8:=E2.thenUpd U4 (λk hk=>by have Ad:k=g1:=hk;omega);refine AGw<|ATc<|AGq<|Al5 rfl rfl (ATu<|ATr<|q_b<|q_t<|ATc<|Aci rfl AGp (AGq<|AGw ?_));exact ⟨B.length - (i + 1),(i + 1,(c + (x + y)) / 4294967296),by first | omega | (dsimp only;omega),⟨rfl,by first | omega | (dsimp only;omega),X7,by first | omega | (dsimp only;omega),_,Ax,by simp [hDl],Ae9 hDd<|Nat.mod_lt _ AGr,by rw [Ad4,hDl,Al6 hDv,AU6 hx,AU6 hy,Nat.mul_add];omega⟩,rfl,rfl,trivial⟩
 ·refine AGw<|AGv<|ATy rfl (ATk<|ATl<|ATl<|AUi<|q_t<|AGv<|AGt<|AGq<|AUz ATo rfl (HX.ext E2) (AGq<|AUz ATo rfl (HY.ext E2) (Ae5 rfl rfl AGp AGp ?_)));rw [show ((A.length:Nat):Int) - ((B.length:Nat):Int)=((A.length - B.length:Nat):Int) by omega];refine AGq<|AGw<|AGx ?_;obtain rfl:i=B.length:=by omega
  rw [List.take_length] at hDv;refine AXb 37778929611157348024640 (λy:Nat × Nat=>[(51,.int .i64 (y.1:Int)),(6,.int .u64 (y.2:Int))]) (λk y h'=>k=A.length - B.length - y.1/\y.1<=A.length - B.length/\Ext h h'/\y.2<=1/\ ∃ D,AWl h' 200 g1 v1 ((D ++ List.replicate ((A.length + 1) - (B.length + y.1)) 0).map Af8)/\D.length=B.length + y.1/\Dig D/\nv D + 4294967296 ^ (B.length + y.1) * y.2=nv (A.take<|B.length + y.1) + nv B) AG3 (A.length - B.length) (0,c) ?_ ⟨rfl,rfl,trivial⟩ ?_
  ·exact ⟨rfl,Nat.zero_le _,E2,hc,D,Ag,hDl,hDd,hDv⟩
  rintro k ⟨j,c⟩ s2 h3 ⟨rfl,hj,E3,hc,D,Ae,hDl,hDd,hDv⟩;dsimp only at hj hc Ae hDl hDv ⊢;have Bq:=E3.1;refine AGt<|AXi rfl rfl (λAz=>?_) (λAz=>?_)
  ·refine AGw<|AGv<|ATv rfl (AG5<|q_t<|AGv<|AGx<|AGt<|AGq<|AG1<|AGv ?_);obtain ⟨x,hx⟩:∃ x,A[(B.length + j)]? =some x:=⟨_,List.getElem?_eq_getElem AGp⟩;have hbx:=HX.dig x<|List.mem_of_getElem? hx;refine ATc<|AGq<|AGq<|AGq<|AUz ATo rfl (HY.ext E3) (AGq<|Aho rfl rfl AGp (Abk ATo rfl (HX.ext E3) rfl hx λBr A3=>AT1 AVo rfl A3 (Akp AWa AVv rfl hbx (Agz rfl rfl AGp (AT7<|AGq<|AGq<|AUz ATo rfl (HY.ext E3) (AGq<|Aho rfl rfl AGp (AGq<|Amu AVv AWa rfl (Ak2 ATo rfl Ae rfl (by simp;omega) ?_))))))));refine Amt (D ++ [(c + x) % 4294967296] ++ List.replicate (A.length + 1 - (B.length + j + 1)) 0) AVo rfl rfl Ae (by simp;omega) (Arj hDl AGp) λh5 A4 U5=>?_;have Bu:=U5.1;have A5:=E3.thenUpd U5 (λk hk=>by have Ad:k=g1:=hk;omega);have Bv:=E3.thenUpd U5 (λk hk=>by have Ad:k=g1:=hk;omega);refine AGw<|ATc<|AGq<|Al5 rfl rfl (ATu<|ATr<|q_b<|q_t<|ATc<|Aci rfl AGp (AGq<|AGw ?_));exact ⟨A.length - B.length - (j + 1),(j + 1,(c + x) / 4294967296),by first | omega | (dsimp only;omega),⟨rfl,by first | omega | (dsimp only;omega),A5,by first | omega | (dsimp only;omega),_,A4,by simp [hDl];omega,Ae9 hDd<|Nat.mod_lt _ AGr,by rw [Ad4,hDl,<- Nat.add_assoc,Al6 hDv,AU6 hx];omega⟩,rfl,rfl,trivial⟩
  ·refine AGw<|AGv<|ATy rfl (ATk<|ATl<|ATl<|AUi<|q_t<|AGv ?_);obtain rfl:j=A.length - B.length:=by omega
   have hBj:B.length + (A.length - B.length)=A.length:=by omega
   rw [hBj,List.take_length] at hDv;rw [hBj] at hDl;refine ATc<|AGq<|AGq<|AUz ATo rfl (HX.ext E3) (AGq<|Amu AVv AWa rfl (Ak2 ATo rfl Ae rfl (by simp;omega) ?_));refine Amt (D ++ [c % 4294967296] ++ List.replicate (A.length + 1 - (A.length + 1)) 0) AVo rfl rfl Ae (by simp;omega) (by rw [hBj];exact Arj hDl AGp) λh6 Ak U6=>?_;have Bw:=U6.1;have A7:=E3.thenUpd U6 (λk hk=>by have Ad:k=g1:=hk;omega);have Bx:=E3.thenUpd U6 (λk hk=>by have Ad:k=g1:=hk;omega);rw [Nat.sub_self,List.replicate_zero,List.append_nil,Nat.mod_eq_of_lt AGp] at Ak;have Am:=Ak.ds (lo:=Array.size h) (Ae9 hDd AGp) Ar;refine AZ4<|AGq<|ATm trivial rfl (Ae0 (Am.mono<|Nat.zero_le _) (by simp;omega)) λBy h6 hk=>?_;obtain ⟨rfl,L2,HT,htl⟩:=hk;refine ⟨trivial,?_⟩;refine AG1<|AG6<|⟨_,AS9,?_⟩;exact ⟨A7,L2,HT.ds Am.lo,htl,by rw [HT.val,Ad4,hDl,hDv];exact hsum,by have:=HT.len;simp at this;omega⟩
theorem Aqn (HA:DS h la va LA) (HB:DS h lb vb LB) (htb:TL LB) (hle:nv LB<=nv LA) (hna:LA.length<=1000):AT3 Tryz.prog 195 #[va,vb] h λx h'=>Ext h h'/\ ∃ L,DS h' (Array.size h) x L/\TL L/\nv L=nv LA - nv LB/\L.length<=LA.length:=by
 refine AUc (l:=[_,_]) mx Tryz.func195 rfl rfl rfl rfl rfl AG3 (AGt<|AT7<|AGq<|AUz ATo rfl HA (Asf (n:=LA.length) ATo Ad7 (λ_=>trivial) rfl rfl AGr AGp λg1 v1 h1 Aj E1 Ak Az=>?_));have A3:=E1.1;have Z2:=(Ext.refl h).trans E1;refine AT7<|AG1<|AGv<|AGt<|AGq<|AUz ATo rfl (HA.ext E1) (AGq<|AGw<|AGx<|AXb 8796093006272 (λy:Nat × Nat=>[(14,.int .i64 (y.1:Int)),(6,.int .u64 (y.2:Int))]) (λk y h'=>k=LA.length - y.1/\y.1<=LA.length/\Ext h h'/\y.2<=1/\ ∃ D,AWl h' 200 g1 v1 ((D ++ List.replicate (LA.length - y.1) 0).map Af8)/\D.length=y.1/\Dig D/\nv D + nv (LB.take y.1)=nv (LA.take y.1) + 4294967296 ^ y.1 * y.2) AG3 LA.length (0,0) ?_ ⟨rfl,rfl,trivial⟩ ?_)
 ·exact ⟨rfl,Nat.zero_le _,E1,by first | omega | (dsimp only;omega),[],by simpa using Aj,rfl,λx hx=>(by simp at hx),rfl⟩
 rintro k ⟨i,c⟩ s1 h2 ⟨rfl,hi,E2,hc,D,Ab,hDl,hDd,hDv⟩;dsimp only at hi hc Ab hDl hDv ⊢;have A5:=E2.1;refine AGt<|AXi rfl rfl (λAm=>?_) (λAm=>?_)
 ·refine AGw<|AGv<|ATv rfl (AG5<|q_t<|AGv<|AGx<|AGt<|AGq<|AG1<|AGv ?_);obtain ⟨x,hx⟩:∃ x,LA[i]? =some x:=⟨_,List.getElem?_eq_getElem AGp⟩;have hbx:=HA.dig x<|List.mem_of_getElem? hx;refine ATc<|AGq<|AGq<|Abk ATo rfl (HA.ext E2) rfl hx λA6 Ao=>AT1 AVo rfl Ao (Akp AWa AVv rfl hbx (AGq<|AVm rfl rfl ?_));rw [wrap_u64];refine AG1<|Am5 34342961408 (λs:Int=>[(8,.int .u64<|s % 18446744073709551616)]) (λs h'=>h'=h2/\s=((x:Int) - (c:Int) - ((LB[i]?.getD 0:Nat):Int))) AG3 ?_ ?_
  ·refine AGt<|AGq<|AGq<|AUz ATo rfl (HB.ext E2) (AXi rfl rfl (λAp=>?_) (λAp=>?_))
   ·refine AGw<|ATv rfl ?_;obtain ⟨y,Af⟩:∃ y,LB[i]? =some y:=⟨_,List.getElem?_eq_getElem AGp⟩;have hby:=HB.dig y<|List.mem_of_getElem? Af;refine ATc<|AGq<|AGq<|AGq<|Abk ATo rfl (HB.ext E2) rfl Af λA7 Aq=>AT1 AVo rfl Aq (Akp AWa AVv rfl hby (AVm rfl rfl (AG1 ?_)));exact ⟨((x:Int) - (c:Int) - ((LB[i]?.getD 0:Nat):Int)),⟨rfl,rfl⟩,by rw [Af];show Value.int .u64 _=_;congr 1;rw [wrap_u64];simp only [Option.getD_some];omega,trivial⟩
   ·refine AGw<|ATy rfl (AG5<|q_t ?_);exact ⟨((x:Int) - (c:Int) - ((LB[i]?.getD 0:Nat):Int)),⟨rfl,rfl⟩,by rw [List.getElem?_eq_none AGp];show Value.int .u64 _=_;congr 1;simp only [Option.getD_none];omega,trivial⟩
  rintro s s2 h2 ⟨rfl,hs⟩;obtain ⟨y,hy⟩:∃ y,LB[i]?.getD 0=y:=⟨_,rfl⟩;rw [hy] at hs;refine AGv ?_
  have hby:y < 4294967296:=by
   rw [<- hy]
   cases hq:LB[i]? with
   | none=>simp
   | some q=>exact HB.dig q<|List.mem_of_getElem? hq
  refine ATc<|AGq<|AGq<|AGq<|Ac3 AVv AWa rfl ?_;obtain ⟨dg,hdg⟩:∃ dg:Nat,(dg:Int)=s % 4294967296:=⟨(s % 4294967296).toNat,AGp⟩;rw [show IntKind.u32.wrap (s % 18446744073709551616)=(dg:Int) by rw [wrap_u32,hdg];omega];refine Ak2 ATo rfl Ab rfl (by simp;omega) ?_;refine Amt (D ++ [dg] ++ List.replicate (LA.length - (i + 1)) 0) AVo rfl rfl Ab (by simp;omega) (Arj hDl AGp) λh4 Ar U4=>?_;have A9:=U4.1;have X7:=E2.thenUpd U4 (λk hk=>by have Av:k=g1:=hk;omega);have Z8:=E2.thenUpd U4 (λk hk=>by have Av:k=g1:=hk;omega);refine AGw<|ATc<|AGq<|Aq3 (n:=63) rfl rfl AGr ?_;rw [show s % 18446744073709551616 / 2 ^ 63=((if s < 0 then 1 else 0:Nat):Int) by split <;> omega];refine ATu<|ATr<|q_b<|q_t<|ATc<|Aci rfl AGp (AGq<|AGw ?_);exact ⟨LA.length - (i + 1),(i + 1,if s < 0 then 1 else 0),by first | omega | (dsimp only;omega),⟨rfl,by first | omega | (dsimp only;omega),X7,by dsimp only;split <;> omega,_,Ar,by simp [hDl],Ae9 hDd AGp,by rw [Ad4,hDl,Ad5 LB,hy,AU6 hx];exact Anf hDv (by split <;> omega)⟩,rfl,rfl,trivial⟩
 ·refine AGw<|AGv<|ATy rfl (ATk<|ATl<|ATl<|AUi<|q_t<|AGv ?_);obtain rfl:i=LA.length:=by omega
  rw [List.take_length,List.take_of_length_le (by have:=Aep htb<|Nat.lt_of_le_of_lt hle<|Afu HA.dig;omega)] at hDv;have hDlt:=Afu hDd;rw [hDl] at hDlt
  have Aw:c=0:=by
   rcases Nat.eq_zero_or_pos c with h0 | h0
   ·exact h0
   ·obtain rfl:c=1:=by omega
    rw [Nat.mul_one] at hDv;omega
  subst Aw;rw [Nat.mul_zero,Nat.add_zero] at hDv;rw [Nat.sub_self,List.replicate_zero,List.append_nil] at Ab;have Ai:=Ab.ds (lo:=Array.size h) hDd Ak;refine ATc<|AGq<|ATm trivial rfl (Ae0 (Ai.mono<|Nat.zero_le _) AGp) λx9 h2 hk=>?_;obtain ⟨rfl,L2,HT,htl⟩:=hk;refine ⟨trivial,?_⟩;refine AG1<|AG6<|⟨_,AS9,?_⟩;exact ⟨E2,L2,HT.ds Ai.lo,htl,by rw [HT.val];omega,by have:=HT.len;omega⟩
theorem A6y {L:List Nat} (h:Dig L) (hl:L.length<=1):nv L<=4294967295:=by
 have h1:=Afu h;have h2:4294967296 ^ L.length<=4294967296 ^ 1:=Nat.pow_le_pow_right AGr hl;omega
theorem A6z {A:List Nat} (ha:Dig A) (hb:Dig B) (la:A.length<=1) (lb:B.length<=1):nv A * nv B < 18446744073709551616:=by
 have:=Nat.mul_le_mul (A6y ha la)<|A6y hb lb;omega
theorem Ahp {a b:Nat} (h:0<=Af2 a b):b<=a:=by
 unfold Af2 at h;omega
theorem Al9 {a b:Nat} (h:Af2 a b < 0):a<=b:=by
 unfold Af2 at h;omega
theorem Asn {A:List Nat} (ha:Dig A) (hb:Dig B) (la:A.length<=99) (lb:B.length<=99):nv A + nv B < 4294967296 ^ 100:=by
 have h1:=Afu ha;have h2:=Afu hb;have h3:4294967296 ^ A.length<=4294967296 ^ 99:=Nat.pow_le_pow_right AGr la;have h4:4294967296 ^ B.length<=4294967296 ^ 99:=Nat.pow_le_pow_right AGr lb;omega
theorem Ama {a b:Bool} {x y:Nat} (h:a=b):sgn a x + sgn b y=sgn a (x + y):=by
 subst h;cases a <;> simp [sgn] <;> omega
theorem Amb {a b:Bool} {x y:Nat} (h:a≠b) (hl:y<=x):sgn a x + sgn b y=sgn a (x - y):=by
 cases a <;> cases b <;> simp [sgn] at h ⊢ <;> omega
theorem Ajn {a b:Bool} {x y:Nat} (h:a≠b) (hl:x<=y):sgn a x + sgn b y=sgn b (y - x):=by
 cases a <;> cases b <;> simp [sgn] at h ⊢ <;> omega
theorem Av5 (na nb:Bool) (HA:DS h la va LA) (HB:DS h lb vb LB) (hta:TL LA) (htb:TL LB) (hna:LA.length<=99) (hnb:LB.length<=99):AT3 Tryz.prog 203 #[.bool na,va,.bool nb,vb] h λx h'=>Ext h h'/\ZV h' (Array.size h) x (sgn na (nv LA) + sgn nb (nv LB)):=by
 refine AUc (l:=[_,_,_,_]) mx Tryz.func203 rfl rfl rfl rfl rfl AG3 (AGt<|AY8 [.bool false,.slice none 0 0] AXy rfl (λ_=>trivial) λAb h2 V3 E4 A8 Ch=>?_);have Ci:Array.size h<=Ab:=A8;have Cj:=E4.1;have Z8:=(Ext.refl h).trans E4;refine AGw<|AGv<|AGx<|AGt<|AGq<|AGq<|Axn Al7 rfl rfl ?_;cases Ck:na == nb
 ·refine AG1<|ATy rfl (AGt<|AGq<|AGq<|ATm trivial rfl (Aot (HA.ext E4) (HB.ext E4) hta htb AGp AGp) λx9 h2 hk=>?_);obtain ⟨rfl,rfl⟩:=hk;refine ⟨trivial,?_⟩;refine Am9 rfl rfl (λA9=>?_) (λA9=>?_)
  ·refine AG1<|ATv rfl (AGt<|AGq<|AGq<|AGq<|ATm trivial rfl (Aqn (HA.ext E4) (HB.ext E4) htb (Ahp<|by assumption) AGp) λCn Co hk=>?_);obtain ⟨Aq,L1,Ac,Ag,Ah,A6⟩:=hk;refine ⟨trivial,?_⟩;have Cp:=Aq.1;have Ba:=Z8.trans Aq;have Bb:=E4.trans Aq;have Bc:=V3.ext Aq;have Be:=E4.trans Aq;refine ATm trivial rfl (Aco na Ac Ag AGp) λCq Cr hk=>?_;obtain ⟨Ai,Ar⟩:=hk;refine ⟨trivial,?_⟩;have Ct:=Ai.1;have Bf:=Ba.trans Ai;have Bg:=Bb.trans Ai;have Bh:=Bc.ext Ai;have Bi:=Be.trans Ai;have Bj:=Ac.ext Ai;obtain ⟨Ad,s2,L2,rfl,Ae,Av,Aw,Ax⟩:=Ar.out;refine AVf [.bool Ad,s2] AUj rfl rfl rfl rfl (Ab4 Ae.cap) Bh λCu Bl Aj=>?_;have Bm:=Bg.thenUpd Aj (λk hk=>by have Af:k=Ab:=hk;omega);have Cv:=Aj.1;have Cw:=Bf.thenUpd Aj (λk hk=>by have Af:k=Ab:=hk;omega);have Cx:=Bi.thenUpd Aj (λk hk=>by have Af:k=Ab:=hk;omega);have Cy:=Bj.updLo Aj AGp;have Bn:=Ae.updLo Aj AGp;refine AGw<|AG6<|AUp<|ATj<|⟨_,AVn AUj rfl rfl Bl,?_⟩;exact ⟨Bm,⟨Ad,s2,L2,rfl,Bn.mono AGp,Av,Aw,by rw [<- Ax,Ah];first | exact Ama (eq_of_beq<|by assumption) | exact Amb (ne_of_beq_false<|by assumption) (Ahp<|by assumption) | exact Ajn (ne_of_beq_false<|by assumption)<|Al9<|by assumption⟩⟩
  ·refine AG1<|ATy rfl (AG5<|q_b<|q_t<|AGt<|AGq<|AGq<|AGq<|ATm trivial rfl (Aqn (HB.ext E4) (HA.ext E4) hta (Al9<|by assumption) AGp) λCz C0 hk=>?_);obtain ⟨Ay,L1,Ac,Ag,Ah,A6⟩:=hk;refine ⟨trivial,?_⟩;have C1:=Ay.1;have Bo:=Z8.trans Ay;have Bp:=E4.trans Ay;have Bq:=V3.ext Ay;have Br:=E4.trans Ay;refine ATm trivial rfl (Aco nb Ac Ag AGp) λC2 C3 hk=>?_;obtain ⟨Ak,Ar⟩:=hk;refine ⟨trivial,?_⟩;have C4:=Ak.1;have Bt:=Bo.trans Ak;have Bu:=Bp.trans Ak;have Bv:=Bq.ext Ak;have Bw:=Br.trans Ak;have Bx:=Ac.ext Ak;obtain ⟨Ad,s2,L2,rfl,Ae,Av,Aw,Ax⟩:=Ar.out;refine AVf [.bool Ad,s2] AUj rfl rfl rfl rfl (Ab4 Ae.cap) Bv λC5 By Am=>?_;have Bz:=Bu.thenUpd Am (λk hk=>by have Af:k=Ab:=hk;omega);have C6:=Am.1;have C7:=Bt.thenUpd Am (λk hk=>by have Af:k=Ab:=hk;omega);have C8:=Bw.thenUpd Am (λk hk=>by have Af:k=Ab:=hk;omega);have C9:=Bx.updLo Am AGp;have B3:=Ae.updLo Am AGp;refine AGw<|AG6<|⟨_,AVn AUj rfl rfl By,?_⟩;exact ⟨Bz,⟨Ad,s2,L2,rfl,B3.mono AGp,Av,Aw,by rw [<- Ax,Ah];first | exact Ama (eq_of_beq<|by assumption) | exact Amb (ne_of_beq_false<|by assumption) (Ahp<|by assumption) | exact Ajn (ne_of_beq_false<|by assumption)<|Al9<|by assumption⟩⟩
 ·refine AG1<|ATv rfl (AGt<|AGq<|AGq<|AGq<|ATm trivial rfl (Aut (HA.ext E4) (HB.ext E4) AGp AGp) λDa Db hk=>?_);obtain ⟨Az,L1,Ac,Ag,Ah,A6⟩:=hk;refine ⟨trivial,?_⟩;have Dc:=Az.1;have B4:=Z8.trans Az;have B5:=E4.trans Az;have B6:=V3.ext Az;have B7:=E4.trans Az;refine ATm trivial rfl (Aco na Ac Ag<|Aep Ag (by rw [Ah];exact Asn HA.dig HB.dig hna hnb)) λDd De hk=>?_;obtain ⟨Ao,Ar⟩:=hk;refine ⟨trivial,?_⟩;have Df:=Ao.1;have B8:=B4.trans Ao;have B9:=B5.trans Ao;have Ca:=B6.ext Ao;have Cb:=B7.trans Ao;have Cd:=Ac.ext Ao;obtain ⟨Ad,s2,L2,rfl,Ae,Av,Aw,Ax⟩:=Ar.out;refine AVf [.bool Ad,s2] AUj rfl rfl rfl rfl (Ab4 Ae.cap) Ca λDg Ce Ap=>?_;have Cf:=B9.thenUpd Ap (λk hk=>by have Af:k=Ab:=hk;omega);have Dh:=Ap.1;have Di:=B8.thenUpd Ap (λk hk=>by have Af:k=Ab:=hk;omega);have Dj:=Cb.thenUpd Ap (λk hk=>by have Af:k=Ab:=hk;omega);have Dk:=Cd.updLo Ap AGp;have Cg:=Ae.updLo Ap AGp;refine AGw<|AG6<|AUp<|ATj<|⟨_,AVn AUj rfl rfl Ce,?_⟩;exact ⟨Cf,⟨Ad,s2,L2,rfl,Cg.mono AGp,Av,Aw,by rw [<- Ax,Ah];first | exact Ama (eq_of_beq<|by assumption) | exact Amb (ne_of_beq_false<|by assumption) (Ahp<|by assumption) | exact Ajn (ne_of_beq_false<|by assumption)<|Al9<|by assumption⟩⟩
theorem AX0 {ng:Bool} {n:Nat} {z:Int} (h:z=sgn ng n):z.natAbs=n:=by
 subst h;cases ng <;> simp [sgn]
theorem A1k (ng:Bool) (n:Nat):sgn (!ng) n= -sgn ng n:=by cases ng <;> simp [sgn]
theorem Sub_ok {b:Int} (HA:ZV h la va a) (HB:ZV h lb vb b) (hba:a.natAbs < 4294967296 ^ 99) (hbb:b.natAbs < 4294967296 ^ 99):AT3 Tryz.prog 189 #[va,vb] h λx h'=>Ext h h'/\ZV h' (Array.size h) x (a - b):=by
 obtain ⟨na,sa,LA,rfl,HDa,htla,hla,hza⟩:=HA.out;obtain ⟨nb,sb,LB,rfl,HDb,htlb,hlb,hzb⟩:=HB.out;refine AUc (l:=[_,_]) mx Tryz.func189 rfl rfl rfl rfl rfl AG3 (AGt<|Ab7 [.bool na,sa] (λ_=>trivial) rfl rfl λAj h2 V3 E4 A8 B4=>?_);have B5:Array.size h<=Aj:=A8;have B6:=E4.1;have Z8:=(Ext.refl h).trans E4;refine Ab7 [.bool nb,sb] (λ_=>trivial) rfl rfl λAk B7 Ar Af Ba B8=>?_;have B9:Array.size h<=Ak:=Nat.le_trans E4.1 Ba;have nebq1bq9:Aj≠Ak:=by have:=V3.lt;omega
 have Ca:=Af.1;have Au:=E4.trans Af;have Av:=V3.ext Af;refine AY8 [.bool false,.slice none 0 0] AXy rfl (λ_=>trivial) λAb Ah Bb Ac Bc Cb=>?_;have Cd:Array.size h<=Ab:=Nat.le_trans Au.1 Bc;have nebq1bq20:Aj≠Ab:=by have:=Av.lt;omega
 have nebq9bq20:Ak≠Ab:=by have:=Ar.lt;omega
 have Ce:=Ac.1;have Be:=(Z8.trans Af).trans Ac;have Am:=Au.trans Ac;have Aw:=Av.ext Ac;have Bf:=(E4.trans Af).trans Ac;have Ax:=Ar.ext Ac;have Bg:=Af.trans Ac;refine AGw<|AGv<|AVl (λh'=>Ext Ah h') AG3 ?_;have Aa:=Ext.refl Ah;refine AYe (fs:=1) Ad2 AG3 AGr rfl (AVe AWm rfl Aa (λh' hb=>(Aw.ext hb).cell (i:=0) rfl) (AYe (fs:=1) Aej AG3 AGr rfl (AVe Aaa rfl Aa (λh' hb=>(Aw.ext hb).cell (i:=1) rfl) (ATm Aa rfl (Ae0 (DS.mono (HDa.ext Am)<|Nat.zero_le _) AGp) λCf Ah hk=>?_))));obtain ⟨rfl,L1,Ao,Ay⟩:=hk;refine ⟨Aa,?_⟩;have Bh:=Ao.ds (lo:=la) HDa.lo;have Az:=Ao.val;have Ch:=Ao.len;refine AYe (fs:=1) Ad2 AG3 AGr rfl (AVe AWm rfl Aa (λh' hb=>(Ax.ext hb).cell (i:=0) rfl) (AW0 rfl (AYe (fs:=1) Aej AG3 AGr rfl (AVe Aaa rfl Aa (λh' hb=>(Ax.ext hb).cell (i:=1) rfl) (ATm Aa rfl (Ae0 (DS.mono (HDb.ext Am)<|Nat.zero_le _) AGp) λCi Ah hk=>?_)))));obtain ⟨rfl,L2,Ap,A3⟩:=hk;refine ⟨Aa,?_⟩;have Bi:=Ap.ds (lo:=lb) HDb.lo;have A4:=Ap.val;have Ck:=Ap.len;refine ATm Aa rfl (Av5 na (!nb) Bh Bi Ay A3 (Aep Ay (by rw [Az,<- AX0 hza];exact hba))<|Aep A3 (by rw [A4,<- AX0 hzb];exact hbb)) λCm Cn hk=>?_;obtain ⟨Ad,Bj⟩:=hk;have Bl:=Aa.trans Ad;refine ⟨Bl,?_⟩;have Co:=Ad.1;have Bm:=Be.trans Ad;have Bn:=Am.trans Ad;have Bo:=Bf.trans Ad;have Bp:=Bg.trans Ad;have Bq:=Bb.ext Ad;have Br:=Ac.trans Ad;obtain ⟨A5,s3,L3,rfl,A7,Bu,Bv,Bw⟩:=Bj.out;refine AVf [.bool A5,s3] AUj rfl rfl rfl rfl (Ab4 A7.cap) Bq λCp Bx Ae=>?_;have By:=Bn.thenUpd Ae (λk hk=>by have Ai:k=Ab:=hk;omega);have Cq:=Ae.1;have Cr:=Bm.thenUpd Ae (λk hk=>by have Ai:k=Ab:=hk;omega);have Ct:=Br.thenUpd Ae (λk hk=>by have Ai:k=Ab:=hk;omega);have Cu:=Bo.thenUpd Ae (λk hk=>by have Ai:k=Ab:=hk;omega);have Cv:=Bp.thenUpd Ae (λk hk=>by have Ai:k=Ab:=hk;omega);have Bz:=A7.updLo Ae AGp;refine AGw<|AG6<|⟨_,AVn AUj rfl rfl Bx,?_⟩;exact ⟨By,⟨A5,s3,L3,rfl,Bz.mono AGp,Bu,Bv,by rw [<- Bw,Az,A4,hza,hzb,A1k];omega⟩⟩
theorem Avt (a b:Bool) (x y:Nat):sgn a x * sgn b y=sgn (!(a == b)) (x * y):=by
 cases a <;> cases b <;> simp [sgn,Int.neg_mul,Int.mul_neg]
theorem Az2 {L:List Nat} (h:Dig L) (hl:L.length<=2):nv L < 18446744073709551616:=by
 have h1:=Afu h;have h2:4294967296 ^ L.length<=4294967296 ^ 2:=Nat.pow_le_pow_right AGr hl;omega
theorem Apo {a b:Nat} (h:Af2 a b < 0):a < b:=by
 unfold Af2 at h;omega
theorem A0j (HA:DS h la va LA) (HB:DS h lb vb LB) (hta:TL LA) (htb:TL LB) (Ar:nv LB≠0) (hna:LA.length<=2) (hnb:LB.length<=2):AT3 Tryz.prog 193 #[va,vb] h λx h'=>Ext h h'/\ ∃ q r,x= .tuple #[q,r]/\ ∃ LQ LR,DS h' (Array.size h) q LQ/\DS h' (Array.size h) r LR/\TL LQ/\TL LR/\nv LQ=nv LA / nv LB/\nv LR=nv LA % nv LB/\LQ.length<=2/\LR.length<=2:=by
 refine AUc (l:=[_,_]) mx Tryz.func193 rfl rfl rfl rfl rfl AG3 (AGt<|ATu<|AG1<|AGv<|AGx<|AGt<|AGq<|AGq<|ATm trivial rfl (Aot HA HB hta htb AGp AGp) λx1 h hk=>?_);obtain ⟨rfl,rfl⟩:=hk;refine ⟨trivial,?_⟩;refine AXi rfl rfl (λAm=>?_) (λAm=>?_)
 ·refine AG1<|ATv rfl (AGt<|AGq<|ATm trivial rfl (Aqm HA AGp) λx2 h3 hk=>?_);obtain ⟨E4,Aa⟩:=hk;refine ⟨trivial,?_⟩;have Ax:=E4.1;have Z6:=(Ext.refl h).trans E4;refine ATu (AG1<|AG6<|AUp<|ATj<|⟨_,AU0,?_⟩)
  first
  | (have hlt:=Apo (by assumption:Af2 (nv LA) (nv LB) < 0)
     exact ⟨E4,_,_,rfl,[],LA,Ajh _ _,Aa,Ako,hta,by rw [Nat.div_eq_of_lt hlt];rfl,by rw [Nat.mod_eq_of_lt hlt],AT5,AGp⟩)
  | exact ⟨E4,_,_,rfl,L1,L2,lacks_HD1.mono AGp,Aa.mono AGp,Ag,Ah,Ai,Aj,AGp,AGp⟩
 ·refine AG1<|ATy rfl (AGt<|AGq<|AUz ATo rfl HA (Ak3 rfl rfl (λ_=>?_) (λhc=>absurd hc AGp)));refine AG1<|ATv rfl (AGt<|AGq<|ATm trivial rfl (Art HA AGp) λx7 h hk=>?_);obtain ⟨rfl,rfl⟩:=hk;refine ⟨trivial,?_⟩;refine AGq<|ATm trivial rfl (Art HB AGp) λx8 h hk=>?_;obtain ⟨rfl,rfl⟩:=hk;refine ⟨trivial,?_⟩;refine ATu<|AG1<|AGv ?_;have hlt:=Az2 HA.dig hna;refine Ajc AG3<|AGq<|AGq<|At8 rfl rfl AGp ?_;rw [show IntKind.u64.wrap (((nv LA:Nat):Int).tdiv ((nv LB:Nat):Int))=((nv LA / nv LB:Nat):Int) by rw [Int.tdiv_eq_ediv_of_nonneg AGp,<- Int.natCast_ediv,wrap_u64];have hq:=Nat.div_le_self (nv LA)<|nv LB;generalize nv LA / nv LB=q at hq ⊢;omega];refine ATm trivial rfl (Aie (nv LA / nv LB) (by have:=Nat.div_le_self (nv LA)<|nv LB;omega) _) λx9 A5 hk=>?_;obtain ⟨Ad,L1,Ao,Ag,Ai,A6⟩:=hk;refine ⟨trivial,?_⟩;have A7:=Ad.1;have Ap:=(Ext.refl h).trans Ad;refine AGq<|AGq<|A48 rfl rfl AGp (ATm trivial rfl (Aie (nv LA % nv LB) (by have:=Nat.mod_le (nv LA)<|nv LB;omega) _) λA8 A9 hk=>?_);obtain ⟨Ac,L2,Aa,Ah,Aj,Ba⟩:=hk;refine ⟨trivial,?_⟩;have Bb:=Ac.1;have Bc:=Ap.trans Ac;have Ak:=Ad.trans Ac;have Aq:=Ao.ext Ac;refine ATu (AG1<|AG6<|AUp<|ATj<|⟨_,AU0,?_⟩)
  first
  | (have hlt:=Apo (by assumption:Af2 (nv LA) (nv LB) < 0)
     exact ⟨Ak,_,_,rfl,[],LA,Ajh _ _,Aa,Ako,hta,by rw [Nat.div_eq_of_lt hlt];rfl,by rw [Nat.mod_eq_of_lt hlt],AT5,AGp⟩)
  | exact ⟨Ak,_,_,rfl,L1,L2,Aq.mono AGp,Aa.mono AGp,Ag,Ah,Ai,Aj,AGp,AGp⟩
theorem Aeo {b q:Int} (hb:b≠0) (h:a=b * q + r) (h0:0<=r) (h1:r < b.natAbs):a / b=q/\a % b=r:=by
 have hr:r % b=r:=by
  rcases Ams 0 b with hp | hn
  ·exact Int.emod_eq_of_lt h0 AGp
  ·rw [<- Int.emod_neg];exact Int.emod_eq_of_lt h0 AGp
 have hm:a % b=r:=by simp_all
 refine ⟨?_,hm⟩;have h2:=Int.mul_ediv_add_emod a b;rw [hm] at h2;have h3:b * (a / b)=b * q:=by omega
 exact Int.eq_of_mul_eq_mul_left hb h3
theorem BCx {A B:Nat} (hA:A < 18446744073709551616) (hr:A % B≠0):A / B + 1 < 18446744073709551616:=by
 match B with
 | 0=>simp
 | 1=>omega
 | n + 2=>
   have:A / (n + 2)<=A / 2:=Nat.div_le_div_left (show 2<=n + 2 by omega) AGp
   omega
theorem BCy {nb:Bool} {A B:Nat} (hB:B≠0):sgn nb (A / B)=(A:Int) / sgn nb B/\sgn false (A % B)=(A:Int) % sgn nb B:=by
 have h:=Nat.div_add_mod A B;have hl:=Nat.mod_lt A<|Nat.pos_of_ne_zero hB;have h2:(A:Int)=(B:Int) * ((A / B:Nat):Int) + ((A % B:Nat):Int):=by omega
 have:=Aeo (a:=A) (b:=sgn nb B) (q:=sgn nb<|A / B) (r:=((A % B:Nat):Int)) (by cases nb <;> simp [sgn] <;> omega) (by cases nb <;> simp only [sgn] <;> simp [Int.neg_mul_neg] <;> (rw [<- Int.natCast_ediv,<- Int.natCast_emod];exact h2)) AGp (by cases nb <;> simp only [sgn] <;> simp <;> omega);exact ⟨this.1.symm,this.2.symm⟩
theorem BAc {nb:Bool} {A B:Nat} (hB:B≠0) (hr:A % B≠0):sgn (!nb) (A / B + 1)= -(A:Int) / sgn nb B/\sgn false (B - A % B)= -(A:Int) % sgn nb B:=by
 have h:=Nat.div_add_mod A B;have hl:=Nat.mod_lt A<|Nat.pos_of_ne_zero hB;have h2:(A:Int)=(B:Int) * ((A / B:Nat):Int) + ((A % B:Nat):Int):=by omega
 obtain ⟨q,hq⟩:∃ q,A / B=q:=⟨_,rfl⟩;obtain ⟨r,hrr⟩:∃ r,A % B=r:=⟨_,rfl⟩;rw [hq,hrr] at h2;rw [hrr] at hl hr;rw [hq,hrr];have e:((B - r:Nat):Int)=(B:Int) - (r:Int):=by omega
 have:=Aeo (a:= -(A:Int)) (b:=sgn nb B) (q:=sgn (!nb)<|q + 1) (r:=((B - r:Nat):Int)) (by cases nb <;> simp [sgn] <;> omega) (by rw [h2,e];cases nb <;> simp [sgn] <;> grind) AGp (by cases nb <;> simp only [sgn] <;> simp <;> omega);exact ⟨this.1.symm,this.2.symm⟩
theorem BAd {nb:Bool} {A B:Nat} (hB:B≠0) (hr:A % B=0):sgn (!nb) (A / B)= -(A:Int) / sgn nb B/\sgn false (A % B)= -(A:Int) % sgn nb B:=by
 have h:=Nat.div_add_mod A B;have h2:(A:Int)=(B:Int) * ((A / B:Nat):Int):=by omega
 obtain ⟨q,hq⟩:∃ q,A / B=q:=⟨_,rfl⟩;rw [hq] at h2;rw [hq,hr];have:=Aeo (a:= -(A:Int)) (b:=sgn nb B) (q:=sgn (!nb) q) (r:=0) (by cases nb <;> simp [sgn] <;> omega) (by rw [h2];cases nb <;> simp [sgn] <;> grind) AGp (by cases nb <;> simp only [sgn] <;> simp <;> omega);exact ⟨this.1.symm,this.2.symm⟩
theorem DivMod2_ok {b:Int} (HA:ZV h la va a) (HB:ZV h lb vb b) (hba:a.natAbs < 18446744073709551616) (hbb:b.natAbs < 18446744073709551616) (C6:b≠0):AT3 Tryz.prog 158 #[va,vb] h λx h'=>Ext h h'/\ ∃ q r,x= .tuple #[q,r,.bool true]/\ZV h' (Array.size h) q (a / b)/\ZV h' (Array.size h) r (a % b):=by
 obtain ⟨na,sa,LA,rfl,HDa,htla,hla,hza⟩:=HA.out;obtain ⟨nb,sb,LB,rfl,HDb,htlb,hlb,hzb⟩:=HB.out;refine AUc (l:=[_,_]) mx Tryz.func158 rfl rfl rfl rfl rfl AG3 (AGt<|Ab7 [.bool na,sa] (λ_=>trivial) rfl rfl λA5 h2 V3 E4 C7 C8=>?_);have Hr:Array.size h<=A5:=C7;have Hs:=E4.1;have Z8:=(Ext.refl h).trans E4;refine Ab7 [.bool nb,sb] (λ_=>trivial) rfl rfl λA6 Ht Bb A9 Da Hu=>?_;have Hv:Array.size h<=A6:=Nat.le_trans E4.1 Da;have nebq1bq9:A5≠A6:=by have:=V3.lt;omega
 have Hw:=A9.1;have Ch:=E4.trans A9;have Bc:=V3.ext A9;refine AY8 [.bool false,.slice none 0 0] AXy rfl (λ_=>trivial) λAc Hx Ci Ay Db Hy=>?_;have Hz:Array.size h<=Ac:=Nat.le_trans Ch.1 Db;have nebq1bq20:A5≠Ac:=by have:=Bc.lt;omega
 have nebq9bq20:A6≠Ac:=by have:=Bb.lt;omega
 have Ia:=Ay.1;have Dc:=(Z8.trans A9).trans Ay;have Cj:=Ch.trans Ay;have Ck:=Bc.ext Ay;have Dd:=(E4.trans A9).trans Ay;have Cm:=Bb.ext Ay;refine AY8 [.bool false,.slice none 0 0] AXy rfl (λ_=>trivial) λAa Cn De Ax Df Ib=>?_;have Ic:Array.size h<=Aa:=Nat.le_trans Cj.1 Df;have nebq1bq33:A5≠Aa:=by have:=Ck.lt;omega
 have nebq9bq33:A6≠Aa:=by have:=Cm.lt;omega
 have nebq20bq33:Ac≠Aa:=by have:=Ci.lt;omega
 have Id:=Ax.1;have Dg:=Dc.trans Ax;have Bu:=Cj.trans Ax;have Co:=Ck.ext Ax;have Dh:=Dd.trans Ax;have Cp:=Cm.ext Ax;have Di:=(A9.trans Ay).trans Ax;have Dj:=Ci.ext Ax;have Dk:=Ay.trans Ax;refine AT7<|AYe (fs:=1) Aej AG3 AGr rfl (AT1 Aaa rfl (Cp.cell (i:=1) rfl) (ATm trivial rfl (Ae0 (DS.mono (HDb.ext Bu)<|Nat.zero_le _) AGp) λIe Cn hk=>?_));obtain ⟨rfl,L2,Bv,Bw⟩:=hk;refine ⟨trivial,?_⟩;have Bx:=Bv.ds (lo:=lb) HDb.lo;have A7:=Bv.val;have If:=Bv.len;refine AG1<|AGv<|AGt<|AGq<|AUz ATo rfl Bx ?_;have Be:nv LB≠0:=λh0=>C6 (by rw [hzb,h0];cases nb <;> rfl);have hLB:L2≠[]:=λh0=>Be (by rw [<- A7,h0];rfl);have hLp:=List.length_pos_iff.2 hLB;refine Ak4 rfl rfl (λhc=>absurd hc AGp) (λ_=>AGw<|ATy rfl (AG5<|q_t<|AGt<|AYe (fs:=1) Aej AG3 AGr rfl (AT1 Aaa rfl (Co.cell (i:=1) rfl) (ATm trivial rfl (Ae0 (DS.mono (HDa.ext Bu)<|Nat.zero_le _) AGp) λIh Cn hk=>?_))));obtain ⟨rfl,L1,By,Cr⟩:=hk;refine ⟨trivial,?_⟩;have Ct:=By.ds (lo:=la) HDa.lo;have Cu:=By.val;have Ij:=By.len;refine AGq<|ATm trivial rfl (A0j Ct Bx Cr Bw (by rw [A7];exact Be) (Aep Cr (by rw [Cu,<- AX0 hza];omega))<|Aep Bw (by rw [A7,<- AX0 hzb];omega)) λIk Il hk=>?_;obtain ⟨Am,qv,rv,rfl,LQ,LR,HQ,HR,htq,htr,hvq,hvr,hlq,hlr⟩:=hk;refine ⟨trivial,?_⟩;have Im:=Am.1;have Bz:=Dg.trans Am;have B3:=Bu.trans Am;have B4:=Co.ext Am;have B5:=Dh.trans Am;have Dl:=Cp.ext Am;have B6:=Di.trans Am;have B7:=Dj.ext Am;have B8:=Dk.trans Am;have B9:=De.ext Am;have Ca:=Bx.ext Am;have Cb:=Ct.ext Am;rw [Cu,A7] at hvq hvr;have Io:L2.length<=2:=Aep Bw (by rw [A7,<- AX0 hzb];omega);refine AGq<|AUh rfl rfl (AUh rfl rfl (ATu<|AT7<|AYe (fs:=1) Ad2 AG3 AGr rfl (AT1 AWm rfl (Dl.cell (i:=0) rfl) (AG1<|AGv<|AGx<|AGv<|AGx<|AGv<|AGx<|AGv<|AGv<|AGv ?_))));have hrl:LR.length=0↔nv LA % nv LB=0:=⟨λh0=>by rw [<- hvr,List.length_eq_zero_iff.1 h0];rfl,λh0=>by rw [AZf htr<|hvr.trans h0];rfl⟩;refine ATc<|AYe (fs:=1) Ad2 AG3 AGr rfl (AT1 AWm rfl (B4.cell (i:=0) rfl) ?_);cases Bf:na
 ·refine AGq<|AUm 32 false AG3 rfl rfl (AUm 32 false AG3 rfl rfl (AUm 32 false AG3 rfl rfl (ATx rfl (AG1<|ATy rfl (AG5<|q_t<|AGt<|AYe (fs:=1) Ad2 AG3 AGr rfl (AT1 AWm rfl (B4.cell (i:=0) rfl) ?_))))));rw [Bf];refine AG1<|ATy rfl (AG5<|q_t<|ATk<|Atv AGr<|ATl<|Atv AGr<|ATl<|AUi<|q_t<|AGt<|AGq<|AGq<|ATm trivial rfl (Aco nb HQ htq AGp) λIp Iq hk=>?_);obtain ⟨Ao,Bg⟩:=hk;refine ⟨trivial,?_⟩;have Ir:=Ao.1;have Do:=Bz.trans Ao;have Dp:=B3.trans Ao;have Dq:=B5.trans Ao;have Dr:=B6.trans Ao;have Ds:=B7.ext Ao;have Dt:=B8.trans Ao;have Du:=B9.ext Ao;have Is:=Ca.ext Ao;have It:=Cb.ext Ao;have HQ_82:=HQ.ext Ao;have HR_83:=HR.ext Ao;obtain ⟨Az,s7,L7,rfl,Bi,Bj,Bl,Bm⟩:=Bg.out;refine AGq<|ATm trivial rfl (Aco false HR_83 htr AGp) λIu Iv hk=>?_;obtain ⟨Ar,Bn⟩:=hk;refine ⟨trivial,?_⟩;have Iw:=Ar.1;have Dv:=Do.trans Ar;have Dw:=Dp.trans Ar;have Dx:=Dq.trans Ar;have Dy:=Dr.trans Ar;have Dz:=Ds.ext Ar;have D0:=Dt.trans Ar;have D2:=Du.ext Ar;have HQ_98:=HQ_82.ext Ar;have HR_99:=HR_83.ext Ar;have Cv:=Bi.ext Ar;obtain ⟨A4,s8,L8,rfl,Bp,Bq,Br,Bt⟩:=Bn.out;refine AVf [.bool Az,s7] AUj rfl rfl rfl rfl (Ab4 Cv.cap) Dz λIx D3 Au=>?_;have D4:=Dw.thenUpd Au (λk hk=>by have Ab:k=Ac:=hk;omega);have Iy:=Au.1;have D5:=Dv.thenUpd Au (λk hk=>by have Ab:k=Ac:=hk;omega);have Cd:=D0.thenUpd Au (λk hk=>by have Ab:k=Ac:=hk;omega);have D6:=Dx.thenUpd Au (λk hk=>by have Ab:k=Ac:=hk;omega);have D7:=Dy.thenUpd Au (λk hk=>by have Ab:k=Ac:=hk;omega);have D8:=D2.upd Au λhe=>(Ne.symm nebq20bq33) (he:Aa=Ac);have HQ_113:=HQ_98.updLo Au AGp;have HR_114:=HR_99.updLo Au AGp;have D9:=Cv.updLo Au AGp;have Cw:=Bp.updLo Au AGp;refine AVf [.bool A4,s8] AUj rfl rfl rfl rfl (Ab4 Cw.cap) D8 λIz Ea Ag=>?_;have Eb:=D4.thenUpd Ag (λk hk=>by have Ab:k=Aa:=hk;omega);have I0:=Ag.1;have I1:=D5.thenUpd Ag (λk hk=>by have Ab:k=Aa:=hk;omega);have I2:=(Bc.ext Cd).upd Ag (λhe=>nebq1bq33 (he:A5=Aa));have I3:=D6.thenUpd Ag (λk hk=>by have Ab:k=Aa:=hk;omega);have I6:=(Bb.ext Cd).upd Ag (λhe=>nebq9bq33 (he:A6=Aa));have I7:=D7.thenUpd Ag (λk hk=>by have Ab:k=Aa:=hk;omega);have Ec:=D3.upd Ag λhe=>nebq20bq33 (he:Ac=Aa);have I9:=Cd.thenUpd Ag (λk hk=>by have Ab:k=Aa:=hk;omega);have HQ_129:=HQ_113.updLo Ag AGp;have HR_130:=HR_114.updLo Ag AGp;have Ed:=D9.updLo Ag AGp;have Ee:=Cw.updLo Ag AGp;refine AG1<|AG6<|⟨_,Agy AUj rfl rfl Ec AUj rfl rfl Ea,?_⟩;have hk:=BCy (nb:=nb) (A:=nv LA) Be;have ea:a=((nv LA:Nat):Int):=by rw [hza,Bf];rfl
  exact ⟨Eb,_,_,rfl,⟨Az,s7,L7,rfl,Ed.mono AGp,Bj,Bl,by rw [<- Bm,hvq,ea,hzb];exact hk.1.symm⟩,⟨A4,s8,L8,rfl,Ee.mono AGp,Bq,Br,by rw [<- Bt,hvr,ea,hzb];exact hk.2.symm⟩⟩
 ·refine AGq<|AUt 32 true AG3 rfl rfl (AGq<|AUt 32 true AG3 rfl rfl (AUz ATo rfl HR (AUt 32 true AG3 rfl rfl (Ajd rfl rfl (λEf=>?_) (λEf=>?_)))))
  ·refine ATn rfl (AG1<|ATv rfl (ATk<|ATl<|ATl<|AUi<|q_t<|AGt<|AGq<|A5h [Af8 1] ATo Ad7 rfl (λ_=>trivial) rfl AGp AGp rfl (by simp [Af8,isOne]) λg8 v8 h8 Ei E8 Jc Je=>?_));have Jf:=E8.1;have Ej:=Bz.trans E8;have Ek:=B3.trans E8;have El:=B5.trans E8;have Em:=B6.trans E8;have En:=B7.ext E8;have Eo:=B8.trans E8;have Ep:=B9.ext E8;have Er:=Ca.ext E8;have Es:=Cb.ext E8;have HQ_146:=HQ.ext E8;have HR_147:=HR.ext E8;have HDu:DS h8 0 v8 [1]:=AWl.ds (L:=[1]) Ei (by intro x hx;rw [List.mem_singleton.1 hx];decide)<|Nat.zero_le _;refine ATm trivial rfl (Aut HQ_146 HDu AGp AT5) λJg Jh hk=>?_;obtain ⟨Ah,L5,Eu,Cx,Cy,Ji⟩:=hk;refine ⟨trivial,?_⟩;have Jj:=Ah.1;have Ev:=Ej.trans Ah;have Ew:=Ek.trans Ah;have Ey:=El.trans Ah;have Ez:=Em.trans Ah;have Fa:=En.ext Ah;have Fb:=Eo.trans Ah;have Fc:=Ep.ext Ah;have Cz:=Er.ext Ah;have Fd:=Es.ext Ah;have HQ_164:=HQ_146.ext Ah;have HR_165:=HR_147.ext Ah;have HDu_166:=HDu.ext Ah;refine AG1<|ATc<|AGq<|AGq<|ATm trivial rfl (Aqn Cz HR_165 htr (by rw [hvr,A7];exact Nat.le_of_lt<|Nat.mod_lt _ AGp) AGp) λJk Jl hk=>?_;obtain ⟨Af,L6,Fe,Ff,Fg,C8⟩:=hk;refine ⟨trivial,?_⟩;have Jn:=Af.1;have Fh:=Ev.trans Af;have Fi:=Ew.trans Af;have Fj:=Ey.trans Af;have Fk:=Ez.trans Af;have Fl:=Fa.ext Af;have Fm:=Fb.trans Af;have Fo:=Fc.ext Af;have Fp:=Cz.ext Af;have Fq:=Fd.ext Af;have HQ_183:=HQ_164.ext Af;have HR_184:=HR_165.ext Af;have HDu_185:=HDu_166.ext Af;have C0:=Eu.ext Af;refine ATu<|ATr<|q_b<|q_t<|AGt<|AGq<|AW0 rfl (AG1<|ATk<|AUi<|q_t<|AGt<|AGq<|AGq<|ATm trivial rfl (Aco (!nb) C0 Cx (by have h5:L5.length<=2:=Aep Cx (by rw [Cy,hvq];exact BCx (A:=nv LA) (B:=nv LB) (by rw [<- AX0 hza];exact hba) AGp);omega)) λJp Jq hk=>?_);obtain ⟨Ad,Bg⟩:=hk;refine ⟨trivial,?_⟩;have Jr:=Ad.1;have Ft:=Fh.trans Ad;have Fu:=Fi.trans Ad;have Fv:=Fj.trans Ad;have Fw:=Fk.trans Ad;have Fx:=Fl.ext Ad;have Fy:=Fm.trans Ad;have Fz:=Fo.ext Ad;have Js:=Fp.ext Ad;have Jt:=Fq.ext Ad;have HQ_203:=HQ_183.ext Ad;have HR_204:=HR_184.ext Ad;have HDu_205:=HDu_185.ext Ad;have F4:=C0.ext Ad;have C1:=Fe.ext Ad;obtain ⟨Az,s7,L7,rfl,Bi,Bj,Bl,Bm⟩:=Bg.out;refine AGq<|ATm trivial rfl (Aco false C1 Ff AGp) λJu Jv hk=>?_;obtain ⟨Ai,Bn⟩:=hk;refine ⟨trivial,?_⟩;have Jw:=Ai.1;have F5:=Ft.trans Ai;have F6:=Fu.trans Ai;have F7:=Fv.trans Ai;have F8:=Fw.trans Ai;have F9:=Fx.ext Ai;have Ga:=Fy.trans Ai;have Gb:=Fz.ext Ai;have HQ_222:=HQ_203.ext Ai;have HR_223:=HR_204.ext Ai;have Gc:=F4.ext Ai;have Gd:=C1.ext Ai;have C2:=Bi.ext Ai;obtain ⟨A4,s8,L8,rfl,Bp,Bq,Br,Bt⟩:=Bn.out;refine AVf [.bool Az,s7] AUj rfl rfl rfl rfl (Ab4 C2.cap) F9 λJx Ge Aj=>?_;have Gf:=F6.thenUpd Aj (λk hk=>by have Ab:k=Ac:=hk;omega);have Jy:=Aj.1;have Gg:=F5.thenUpd Aj (λk hk=>by have Ab:k=Ac:=hk;omega);have Ce:=Ga.thenUpd Aj (λk hk=>by have Ab:k=Ac:=hk;omega);have Gh:=F7.thenUpd Aj (λk hk=>by have Ab:k=Ac:=hk;omega);have Gi:=F8.thenUpd Aj (λk hk=>by have Ab:k=Ac:=hk;omega);have Gj:=Gb.upd Aj λhe=>(Ne.symm nebq20bq33) (he:Aa=Ac);have HQ_239:=HQ_222.updLo Aj AGp;have HR_240:=HR_223.updLo Aj AGp;have Gk:=Gc.updLo Aj AGp;have Gl:=Gd.updLo Aj AGp;have Gm:=C2.updLo Aj AGp;have C3:=Bp.updLo Aj AGp;refine AVf [.bool A4,s8] AUj rfl rfl rfl rfl (Ab4 C3.cap) Gj λJz Gn Ae=>?_;have Gp:=Gf.thenUpd Ae (λk hk=>by have Ab:k=Aa:=hk;omega);have J0:=Ae.1;have J1:=Gg.thenUpd Ae (λk hk=>by have Ab:k=Aa:=hk;omega);have J2:=(Bc.ext Ce).upd Ae (λhe=>nebq1bq33 (he:A5=Aa));have J3:=Gh.thenUpd Ae (λk hk=>by have Ab:k=Aa:=hk;omega);have J4:=(Bb.ext Ce).upd Ae (λhe=>nebq9bq33 (he:A6=Aa));have J5:=Gi.thenUpd Ae (λk hk=>by have Ab:k=Aa:=hk;omega);have Gq:=Ge.upd Ae λhe=>nebq20bq33 (he:Ac=Aa);have J6:=Ce.thenUpd Ae (λk hk=>by have Ab:k=Aa:=hk;omega);have HQ_257:=HQ_239.updLo Ae AGp;have HR_258:=HR_240.updLo Ae AGp;have J7:=Gk.updLo Ae AGp;have J8:=Gl.updLo Ae AGp;have Gr:=Gm.updLo Ae AGp;have Gt:=C3.updLo Ae AGp;refine AG1<|AG6<|⟨_,Agy AUj rfl rfl Gq AUj rfl rfl Gn,?_⟩;have hk:=BAc (nb:=nb) (A:=nv LA) Be AGp;have ea:a= -((nv LA:Nat):Int):=by rw [hza,Bf];rfl
   exact ⟨Gp,_,_,rfl,⟨Az,s7,L7,rfl,Gr.mono AGp,Bj,Bl,by rw [<- Bm,Cy,hvq,ea,hzb];exact hk.1.symm⟩,⟨A4,s8,L8,rfl,Gt.mono AGp,Bq,Br,by rw [<- Bt,Fg,A7,hvr,ea,hzb];exact hk.2.symm⟩⟩
  ·refine ATn rfl (AG1<|ATy rfl (AG5<|q_t<|AGt<|AYe (fs:=1) Ad2 AG3 AGr rfl (AT1 AWm rfl (B4.cell (i:=0) rfl) ?_)));rw [Bf];refine AG1<|ATv rfl (ATk<|ATl<|Atv AGr<|ATl<|AUi<|q_t<|AGt<|AGq<|AW0 rfl (AG1<|ATk<|AUi<|q_t<|AGt<|AGq<|AGq<|ATm trivial rfl (Aco (!nb) HQ htq AGp) λJ9 Ka hk=>?_));obtain ⟨Aq,Bg⟩:=hk;refine ⟨trivial,?_⟩;have Kb:=Aq.1;have Gu:=Bz.trans Aq;have Gv:=B3.trans Aq;have Gw:=B5.trans Aq;have Gx:=B6.trans Aq;have Gy:=B7.ext Aq;have Gz:=B8.trans Aq;have G3:=B9.ext Aq;have Kc:=Ca.ext Aq;have Kd:=Cb.ext Aq;have HQ_279:=HQ.ext Aq;have HR_280:=HR.ext Aq;obtain ⟨Az,s7,L7,rfl,Bi,Bj,Bl,Bm⟩:=Bg.out;refine AGq<|ATm trivial rfl (Aco false HR_280 htr AGp) λKe Kf hk=>?_;obtain ⟨Av,Bn⟩:=hk;refine ⟨trivial,?_⟩;have Kg:=Av.1;have G4:=Gu.trans Av;have G5:=Gv.trans Av;have G6:=Gw.trans Av;have G7:=Gx.trans Av;have G8:=Gy.ext Av;have G9:=Gz.trans Av;have Hb:=G3.ext Av;have HQ_295:=HQ_279.ext Av;have HR_296:=HR_280.ext Av;have C4:=Bi.ext Av;obtain ⟨A4,s8,L8,rfl,Bp,Bq,Br,Bt⟩:=Bn.out;refine AVf [.bool Az,s7] AUj rfl rfl rfl rfl (Ab4 C4.cap) G8 λKh Hc Aw=>?_;have Hd:=G5.thenUpd Aw (λk hk=>by have Ab:k=Ac:=hk;omega);have Ki:=Aw.1;have He:=G4.thenUpd Aw (λk hk=>by have Ab:k=Ac:=hk;omega);have Cf:=G9.thenUpd Aw (λk hk=>by have Ab:k=Ac:=hk;omega);have Hf:=G6.thenUpd Aw (λk hk=>by have Ab:k=Ac:=hk;omega);have Hg:=G7.thenUpd Aw (λk hk=>by have Ab:k=Ac:=hk;omega);have Hh:=Hb.upd Aw λhe=>(Ne.symm nebq20bq33) (he:Aa=Ac);have HQ_310:=HQ_295.updLo Aw AGp;have HR_311:=HR_296.updLo Aw AGp;have Hj:=C4.updLo Aw AGp;have C5:=Bp.updLo Aw AGp;refine AVf [.bool A4,s8] AUj rfl rfl rfl rfl (Ab4 C5.cap) Hh λKj Hk Ak=>?_;have Hl:=Hd.thenUpd Ak (λk hk=>by have Ab:k=Aa:=hk;omega);have Kk:=Ak.1;have Kl:=He.thenUpd Ak (λk hk=>by have Ab:k=Aa:=hk;omega);have Km:=(Bc.ext Cf).upd Ak (λhe=>nebq1bq33 (he:A5=Aa));have Kn:=Hf.thenUpd Ak (λk hk=>by have Ab:k=Aa:=hk;omega);have Ko:=(Bb.ext Cf).upd Ak (λhe=>nebq9bq33 (he:A6=Aa));have Kp:=Hg.thenUpd Ak (λk hk=>by have Ab:k=Aa:=hk;omega);have Hm:=Hc.upd Ak λhe=>nebq20bq33 (he:Ac=Aa);have Kr:=Cf.thenUpd Ak (λk hk=>by have Ab:k=Aa:=hk;omega);have HQ_326:=HQ_310.updLo Ak AGp;have HR_327:=HR_311.updLo Ak AGp;have Hn:=Hj.updLo Ak AGp;have Ho:=C5.updLo Ak AGp;refine AG1<|AG6<|⟨_,Agy AUj rfl rfl Hm AUj rfl rfl Hk,?_⟩;have hk:=BAd (nb:=nb) (A:=nv LA) Be AGp;have ea:a= -((nv LA:Nat):Int):=by rw [hza,Bf];rfl
   exact ⟨Hl,_,_,rfl,⟨Az,s7,L7,rfl,Hn.mono AGp,Bj,Bl,by rw [<- Bm,hvq,ea,hzb];exact hk.1.symm⟩,⟨A4,s8,L8,rfl,Ho.mono AGp,Bq,Br,by rw [<- Bt,hvr,ea,hzb];exact hk.2.symm⟩⟩
end Go.Proofs.YtkakafabeobahaaGreatDoor.Ig
namespace Go.QF
open Go
section
variable {P:Program} {B:AG0->Prop} {st:Bool} {ops:Array Oper} {rest:List Oper} {e:Env} {h:AG0} {K:Env->AG0->Prop} {d:Nat} {ty:TypeId} {pos:String} {af:Array Edge}
theorem A12 {x y z:Operand} {el er g lo hi:Nat} {l:List Value} {k1 k2:IntKind} (hT:SlT P t el 1) (hx:e.ev x=v) (HO:AWl h er g v l) (hy:e.ev y= .int k1 (lo:Int)) (hz:e.ev z= .int k2 (hi:Int)) (hlt:lo < hi) (hle:hi<=l.length)
 (H:∀ c,RL P B st ops rest (e.set d<|.slice (some ⟨g,lo,none⟩) (hi - lo) c) h K):RL P B st ops (⟨some d,.slice t x (some y) (some z) none,ty,pos,af,none⟩ :: rest) e h K:=by
 obtain ⟨cap,cur,rfl,hg,h1,h2,h3,h4⟩:=HO;refine AX2 (v:= .slice (some ⟨g,lo,none⟩) (hi - lo)<|cap - lo) rfl rfl (λw=>?_) (H _);obtain ⟨hu,i,hi',hs⟩:=hT;have a4: ¬ cap=lo:=by omega
 simp [execOp,hx,hy,hz,Instr.sliceAt,Instr.slice,Ad1 hu,Instr.sliceBounds,Instr.sliceBound,asIntOf,a4,Ahk hi',hs,Addr.add];rw [if_pos AGp,if_pos AGp]
 by_cases h0:lo=0
 ·subst h0;simp
 ·rw [if_neg h0]
theorem Auu {x i:Operand} {el g o n c:Nat} {k:IntKind} (hT:SlT P t el 1) (hx:e.ev x= .slice (some ⟨g,o,none⟩) n c) (hi:e.ev i= .int k (j:Int)) (hj:j < n)
 (H:RL P B st ops rest (e.set d<|.pointer<|some ⟨g,o + j,none⟩) h K):RL P B st ops (⟨some d,.indexAddr t x i,ty,pos,af,none⟩ :: rest) e h K:=by
 refine Azp hT hx hi AGp AGp ?_;have he:(⟨g,o,none⟩:Addr).add ((j:Int).toNat * 1)=⟨g,o + j,none⟩:=by rw [AX3];simp
 rw [he];exact H
end
end Go.QF
namespace Go.Proofs.YtkakafabeobahaaGreatDoor.Ig
open Go Go.QF
set_option maxRecDepth 100000
theorem A3w (HA:DS h la va LA) (HB:DS h lb vb LB) (hna:LA.length<=1000) (hnb:LB.length<=1000):AT3 Tryz.prog 196 #[va,vb] h λx h'=>Ext h h'/\ ∃ L,DS h' (Array.size h) x L/\TL L/\nv L=nv LA * nv LB/\L.length<=LA.length + LB.length + 2:=by
 refine AUc (l:=[_,_]) mx Tryz.func196 rfl rfl rfl rfl rfl AG3 (AGt<|AG1<|AGv<|AGt<|AGq<|AUz ATo rfl HA (Ak3 rfl rfl (λAw=>?_) (λAw=>?_)))
 ·refine AGq<|AUt 15 true AG3 rfl rfl (AGq<|AUt 15 true AG3 rfl rfl (AUz ATo rfl HB (AUt 15 true AG3 rfl rfl (Ak3 rfl rfl (λAx=>?_) (λAx=>?_)))))
  ·refine ATn rfl (AGw<|ATv rfl (AGt<|AGq<|ATm trivial rfl (Art HA AGp) λx1 h hk=>?_));obtain ⟨rfl,rfl⟩:=hk;refine ⟨trivial,?_⟩;refine AGq<|ATm trivial rfl (Art HB AGp) λx2 h hk=>?_;obtain ⟨rfl,rfl⟩:=hk;refine ⟨trivial,?_⟩;have hm:=A6z HA.dig HB.dig AGp AGp;refine Avl rfl rfl hm (ATm trivial rfl (Aie (nv LA * nv LB) AGp _) λx3 h4 hk=>?_);obtain ⟨E5,L1,Ay,Ak,Am,Av⟩:=hk;refine ⟨trivial,?_⟩;have Bo:=E5.1;have Z7:=(Ext.refl h).trans E5;refine AG1 (AG6<|ATj<|⟨_,AS9,?_⟩)
   first
   | exact ⟨E5,L1,Ay,Ak,Am,AGp⟩
   | exact ⟨E5,L2,HT.ds HDo.lo,htl,by rw [HT.val,hOv],by have:=HT.len;omega⟩
  ·refine ATn rfl (AGw<|ATy rfl (AG5<|q_t<|AGt<|AGq<|AUz ATo rfl HA (AGq<|AUz ATo rfl HB (Aho rfl rfl AGp (Asf (n:=LA.length + LB.length) ATo Ad7 (λ_=>trivial) rfl rfl AGr AGp λg1 v1 h1 Ao E1 Az Av=>?_)))));have Bq:=E1.1;have Z9:=(Ext.refl h).trans E1;refine AG1<|AGv<|AGt<|AGq<|AUz ATo rfl (HA.ext E1) (AGq<|AGw<|AGx<|AXb 19342813113834049615433664 (λy:Nat × List Nat=>[(34,.int .i64 (y.1:Int))]) (λk y h'=>k=LA.length - y.1/\y.1<=LA.length/\Ext h h'/\g1 < Array.size h'/\AWl h' 200 g1 v1 (y.2.map Af8)/\y.2.length=LA.length + LB.length/\Dig y.2/\nv y.2=nv (LA.take y.1) * nv LB/\ ∀ q,y.1 + LB.length<=q->q < LA.length + LB.length->y.2[q]? =some 0) AG3 LA.length (0,List.replicate (LA.length + LB.length) 0) ?_ ⟨rfl,trivial⟩ ?_)
   ·exact ⟨rfl,Nat.zero_le _,E1,AGp,Ao,AT5,λx hx=>by rw [(List.mem_replicate.1 hx).2];decide,by simp [nv,Aso],λq hq A3=>by dsimp only;rw [List.getElem?_replicate];simp;omega⟩
   rintro k ⟨i,O⟩ s1 hq ⟨rfl,hi,XQ,hgq,Aa,hOl,hOd,hOv,hOz⟩;dsimp only at hi Aa hOl hOd hOv hOz ⊢;refine AGt<|AXi rfl rfl (λA4=>?_) (λA4=>?_)
   ·refine AGw<|AGv<|ATv rfl (AG5<|q_t<|AGv<|AGx<|AGv ?_);obtain ⟨x,hx⟩:∃ x,LA[i]? =some x:=⟨_,List.getElem?_eq_getElem AGp⟩;have hbx:=HA.dig x<|List.mem_of_getElem? hx;refine ATc<|AGq<|Abk ATo rfl (HA.ext XQ) rfl hx λBt A5=>AT1 AVo rfl A5 (ATu<|AG1<|AGv<|AGt<|AGq<|Ak4 rfl rfl (λA6=>?_) (λA6=>?_))
    ·refine AGw<|ATv rfl (ATk<|ATl<|AUi<|q_t<|ATc<|Aci rfl AGp (AGq<|AGw ?_));exact ⟨LA.length - (i + 1),(i + 1,O),by first | omega | (dsimp only;omega),⟨rfl,by first | omega | (dsimp only;omega),XQ,AGp,Aa,hOl,hOd,by dsimp only;rw [hOv,AU6 hx,show x=0 by omega];simp,λq h1 h2=>hOz q (by dsimp only at h1;omega) h2⟩,rfl,trivial⟩
    ·refine AGw<|ATy rfl (AG5<|q_t<|AGt<|AGq<|AGq<|AGq<|AGq<|AUz ATo rfl (HB.ext XQ) (Aho rfl rfl AGp (Aho (b:=1) rfl rfl AGp (A12 (lo:=i) (hi:=i + LB.length + 1) ATo rfl Aa rfl rfl AGp (by rw [List.length_map];omega) λcw=>?_))));refine AT7<|AG1<|AGv<|AGt<|AGq<|AUz ATo rfl (HB.ext XQ) (AGq<|AGw<|AGx<|AXb 151115725200028833156608 (λy:Nat × Nat × List Nat=>[(51,.int .i64 (y.1:Int)),(9,.int .u64 (y.2.1:Int))]) (λk y h'=>k=LB.length - y.1/\y.1<=LB.length/\Ext h h'/\g1 < Array.size h'/\AWl h' 200 g1 v1 (y.2.2.map Af8)/\y.2.2.length=LA.length + LB.length/\Dig y.2.2/\y.2.1 < 4294967296/\nv y.2.2 + 4294967296 ^ (i + y.1) * y.2.1=nv (LA.take i) * nv LB + 4294967296 ^ i * (x * nv (LB.take y.1))/\ ∀ q,i + LB.length<=q->q < LA.length + LB.length->y.2.2[q]? =some 0) AG3 LB.length (0,0,O) ?_ ⟨rfl,rfl,trivial⟩ ?_)
     ·exact ⟨rfl,Nat.zero_le _,XQ,AGp,Aa,hOl,hOd,by dsimp only;omega,by simp [nv,hOv],hOz⟩
     rintro k ⟨j,c,O⟩ s2 hp ⟨rfl,hj,XQ,hgq,Aa,hOl,hOd,hc,hOv,hOz⟩;dsimp only at hj Aa hOl hOd hc hOv hOz ⊢;refine AGt<|AXi rfl rfl (λA7=>?_) (λA7=>?_)
     ·refine AGw<|AGv<|ATv rfl (AG5<|q_t<|AGv<|AGx<|AGv ?_);obtain ⟨y,hy⟩:∃ x,LB[j]? =some x:=⟨_,List.getElem?_eq_getElem AGp⟩;have hby:=HB.dig y<|List.mem_of_getElem? hy;obtain ⟨ov,hov⟩:∃ x,O[i + j]? =some x:=⟨_,List.getElem?_eq_getElem AGp⟩;have hbo:=hOd ov<|List.mem_of_getElem? hov;have htb:=Avm hc hbx hby hbo;have hxy:x * y<=4294967295 * 4294967295:=Nat.mul_le_mul AGp AGp;refine ATc<|AGq<|Abk ATo rfl (HB.ext XQ) rfl hy λBu A8=>AT1 AVo rfl A8 (ATu<|AT7<|AGq<|AGq<|Akp AWa AVv rfl hbx (AGq<|Akp AWa AVv rfl hby (Avl rfl rfl AGp (AGq<|AGq<|Auu ATo rfl rfl AGp (AT1 AVo rfl (AWl.cell Aa<|Aj7 hov) (Akp AWa AVv rfl hbo (Agz rfl rfl AGp (Agz rfl rfl AGp ?_))))))));refine AT7<|AGq<|AGq<|AGq<|Amu AVv AWa rfl (Auu ATo rfl rfl AGp (Amt (O.set (i + j)<|(c + (x * y + ov)) % 4294967296) AVo rfl rfl Aa AGp rfl λh4 Ap U4=>?_));have Bv:=U4.1;have A9:=XQ.thenUpd U4 (λk hk=>by have Aq:k=g1:=hk;omega);refine AGw<|ATc<|AGq<|Al5 rfl rfl (ATu<|ATr<|q_b<|q_t<|ATc<|Aci rfl AGp (AGq<|AGw ?_));exact ⟨LB.length - (j + 1),(j + 1,(c + (x * y + ov)) / 4294967296,O.set (i + j)<|(c + (x * y + ov)) % 4294967296),by first | omega | (dsimp only;omega),⟨rfl,by first | omega | (dsimp only;omega),A9,AGp,Ap,by simp [hOl],Aj8 hOd<|Nat.mod_lt _ AGr,by dsimp only;exact Nat.div_lt_of_lt_mul htb,by dsimp only;rw [AU6 hy];exact Asg (Pi:=0) (Ang _ hov) hOv<|Nat.mod_add_div _ _,λq h1 h2=>by dsimp only;rw [List.getElem?_set_ne AGp];exact hOz q h1 h2⟩,rfl,rfl,trivial⟩
     ·refine AGw<|AGv<|ATy rfl (ATk<|ATl<|ATl<|AUi<|q_t ?_);obtain rfl:j=LB.length:=by omega
      refine ATc<|AGq<|AGq<|AUz ATo rfl (HB.ext XQ) (AGq<|Amu AVv AWa rfl ?_);rw [Nat.mod_eq_of_lt hc];refine Auu ATo rfl rfl AGp (Amt (O.set (i + LB.length)<|c) AVo rfl rfl Aa AGp rfl λh5 Ar U5=>?_);have Bw:=U5.1;have Bb:=XQ.thenUpd U5 (λk hk=>by have Aq:k=g1:=hk;omega);refine ATr<|q_b<|q_t<|ATc<|Aci rfl AGp (AGq<|AGw ?_);exact ⟨LA.length - (i + 1),(i + 1,O.set (i + LB.length) c),by first | omega | (dsimp only;omega),⟨rfl,by first | omega | (dsimp only;omega),Bb,AGp,Ar,by simp [hOl],Aj8 hOd hc,by dsimp only;have h1:=Ang c<|hOz (i + LB.length) (Nat.le_refl _) AGp;rw [Nat.mul_zero,Nat.add_zero] at h1;rw [h1,hOv,List.take_length,AU6 hx,Nat.add_mul,Nat.mul_assoc],λq h1 h2=>by dsimp only;rw [List.getElem?_set_ne AGp];exact hOz q AGp h2⟩,rfl,trivial⟩
   ·refine AGw<|AGv<|ATy rfl (ATk<|ATl<|ATl<|AUi<|q_t<|AGv ?_);obtain rfl:i=LA.length:=by omega
    rw [List.take_length] at hOv;have HDo:=Aa.ds (lo:=Array.size h) hOd AGp;refine ATc<|AGq<|ATm trivial rfl (Ae0 (DS.mono HDo<|Nat.zero_le _) AGp) λBx hq hk=>?_;obtain ⟨rfl,L2,HT,htl⟩:=hk;refine ⟨trivial,?_⟩;refine AG1 (AG6<|⟨_,AS9,?_⟩)
    first
    | exact ⟨XQ,L1,lacks_HD1,Ak,Am,AGp⟩
    | exact ⟨XQ,L2,HT.ds HDo.lo,htl,by rw [HT.val,hOv],by have:=HT.len;omega⟩
 ·refine AGq<|AUm 15 false AG3 rfl rfl (AUm 15 false AG3 rfl rfl (AUm 15 false AG3 rfl rfl (ATx rfl (AGw<|ATy rfl (AG5<|q_t<|AGt<|AGq<|AUz ATo rfl HA (AGq<|AUz ATo rfl HB (Aho rfl rfl AGp (Asf (n:=LA.length + LB.length) ATo Ad7 (λ_=>trivial) rfl rfl AGr AGp λg1 v1 h1 Ao E1 Az Av=>?_))))))));have By:=E1.1;have Bz:=(Ext.refl h).trans E1;refine AG1<|AGv<|AGt<|AGq<|AUz ATo rfl (HA.ext E1) (AGq<|AGw<|AGx<|AXb 19342813113834049615433664 (λy:Nat × List Nat=>[(34,.int .i64 (y.1:Int))]) (λk y h'=>k=LA.length - y.1/\y.1<=LA.length/\Ext h h'/\g1 < Array.size h'/\AWl h' 200 g1 v1 (y.2.map Af8)/\y.2.length=LA.length + LB.length/\Dig y.2/\nv y.2=nv (LA.take y.1) * nv LB/\ ∀ q,y.1 + LB.length<=q->q < LA.length + LB.length->y.2[q]? =some 0) AG3 LA.length (0,List.replicate (LA.length + LB.length) 0) ?_ ⟨rfl,trivial⟩ ?_)
  ·exact ⟨rfl,Nat.zero_le _,E1,AGp,Ao,AT5,λx hx=>by rw [(List.mem_replicate.1 hx).2];decide,by simp [nv,Aso],λq hq A3=>by dsimp only;rw [List.getElem?_replicate];simp;omega⟩
  rintro k ⟨i,O⟩ s1 hq ⟨rfl,hi,XQ,hgq,Aa,hOl,hOd,hOv,hOz⟩;dsimp only at hi Aa hOl hOd hOv hOz ⊢;refine AGt<|AXi rfl rfl (λBc=>?_) (λBc=>?_)
  ·refine AGw<|AGv<|ATv rfl (AG5<|q_t<|AGv<|AGx<|AGv ?_);obtain ⟨x,hx⟩:∃ x,LA[i]? =some x:=⟨_,List.getElem?_eq_getElem AGp⟩;have hbx:=HA.dig x<|List.mem_of_getElem? hx;refine ATc<|AGq<|Abk ATo rfl (HA.ext XQ) rfl hx λB3 Be=>AT1 AVo rfl Be (ATu<|AG1<|AGv<|AGt<|AGq<|Ak4 rfl rfl (λBf=>?_) (λBf=>?_))
   ·refine AGw<|ATv rfl (ATk<|ATl<|AUi<|q_t<|ATc<|Aci rfl AGp (AGq<|AGw ?_));exact ⟨LA.length - (i + 1),(i + 1,O),by first | omega | (dsimp only;omega),⟨rfl,by first | omega | (dsimp only;omega),XQ,AGp,Aa,hOl,hOd,by dsimp only;rw [hOv,AU6 hx,show x=0 by omega];simp,λq h1 h2=>hOz q (by dsimp only at h1;omega) h2⟩,rfl,trivial⟩
   ·refine AGw<|ATy rfl (AG5<|q_t<|AGt<|AGq<|AGq<|AGq<|AGq<|AUz ATo rfl (HB.ext XQ) (Aho rfl rfl AGp (Aho (b:=1) rfl rfl AGp (A12 (lo:=i) (hi:=i + LB.length + 1) ATo rfl Aa rfl rfl AGp (by rw [List.length_map];omega) λcw=>?_))));refine AT7<|AG1<|AGv<|AGt<|AGq<|AUz ATo rfl (HB.ext XQ) (AGq<|AGw<|AGx<|AXb 151115725200028833156608 (λy:Nat × Nat × List Nat=>[(51,.int .i64 (y.1:Int)),(9,.int .u64 (y.2.1:Int))]) (λk y h'=>k=LB.length - y.1/\y.1<=LB.length/\Ext h h'/\g1 < Array.size h'/\AWl h' 200 g1 v1 (y.2.2.map Af8)/\y.2.2.length=LA.length + LB.length/\Dig y.2.2/\y.2.1 < 4294967296/\nv y.2.2 + 4294967296 ^ (i + y.1) * y.2.1=nv (LA.take i) * nv LB + 4294967296 ^ i * (x * nv (LB.take y.1))/\ ∀ q,i + LB.length<=q->q < LA.length + LB.length->y.2.2[q]? =some 0) AG3 LB.length (0,0,O) ?_ ⟨rfl,rfl,trivial⟩ ?_)
    ·exact ⟨rfl,Nat.zero_le _,XQ,AGp,Aa,hOl,hOd,by dsimp only;omega,by simp [nv,hOv],hOz⟩
    rintro k ⟨j,c,O⟩ s2 hp ⟨rfl,hj,XQ,hgq,Aa,hOl,hOd,hc,hOv,hOz⟩;dsimp only at hj Aa hOl hOd hc hOv hOz ⊢;refine AGt<|AXi rfl rfl (λBg=>?_) (λBg=>?_)
    ·refine AGw<|AGv<|ATv rfl (AG5<|q_t<|AGv<|AGx<|AGv ?_);obtain ⟨y,hy⟩:∃ x,LB[j]? =some x:=⟨_,List.getElem?_eq_getElem AGp⟩;have hby:=HB.dig y<|List.mem_of_getElem? hy;obtain ⟨ov,hov⟩:∃ x,O[i + j]? =some x:=⟨_,List.getElem?_eq_getElem AGp⟩;have hbo:=hOd ov<|List.mem_of_getElem? hov;have htb:=Avm hc hbx hby hbo;have hxy:x * y<=4294967295 * 4294967295:=Nat.mul_le_mul AGp AGp;refine ATc<|AGq<|Abk ATo rfl (HB.ext XQ) rfl hy λB4 Bh=>AT1 AVo rfl Bh (ATu<|AT7<|AGq<|AGq<|Akp AWa AVv rfl hbx (AGq<|Akp AWa AVv rfl hby (Avl rfl rfl AGp (AGq<|AGq<|Auu ATo rfl rfl AGp (AT1 AVo rfl (AWl.cell Aa<|Aj7 hov) (Akp AWa AVv rfl hbo (Agz rfl rfl AGp (Agz rfl rfl AGp ?_))))))));refine AT7<|AGq<|AGq<|AGq<|Amu AVv AWa rfl (Auu ATo rfl rfl AGp (Amt (O.set (i + j)<|(c + (x * y + ov)) % 4294967296) AVo rfl rfl Aa AGp rfl λh4 Ap U4=>?_));have B5:=U4.1;have Bi:=XQ.thenUpd U4 (λk hk=>by have Aq:k=g1:=hk;omega);refine AGw<|ATc<|AGq<|Al5 rfl rfl (ATu<|ATr<|q_b<|q_t<|ATc<|Aci rfl AGp (AGq<|AGw ?_));exact ⟨LB.length - (j + 1),(j + 1,(c + (x * y + ov)) / 4294967296,O.set (i + j)<|(c + (x * y + ov)) % 4294967296),by first | omega | (dsimp only;omega),⟨rfl,by first | omega | (dsimp only;omega),Bi,AGp,Ap,by simp [hOl],Aj8 hOd<|Nat.mod_lt _ AGr,by dsimp only;exact Nat.div_lt_of_lt_mul htb,by dsimp only;rw [AU6 hy];exact Asg (Pi:=0) (Ang _ hov) hOv<|Nat.mod_add_div _ _,λq h1 h2=>by dsimp only;rw [List.getElem?_set_ne AGp];exact hOz q h1 h2⟩,rfl,rfl,trivial⟩
    ·refine AGw<|AGv<|ATy rfl (ATk<|ATl<|ATl<|AUi<|q_t ?_);obtain rfl:j=LB.length:=by omega
     refine ATc<|AGq<|AGq<|AUz ATo rfl (HB.ext XQ) (AGq<|Amu AVv AWa rfl ?_);rw [Nat.mod_eq_of_lt hc];refine Auu ATo rfl rfl AGp (Amt (O.set (i + LB.length)<|c) AVo rfl rfl Aa AGp rfl λh5 Ar U5=>?_);have B6:=U5.1;have Bj:=XQ.thenUpd U5 (λk hk=>by have Aq:k=g1:=hk;omega);refine ATr<|q_b<|q_t<|ATc<|Aci rfl AGp (AGq<|AGw ?_);exact ⟨LA.length - (i + 1),(i + 1,O.set (i + LB.length) c),by first | omega | (dsimp only;omega),⟨rfl,by first | omega | (dsimp only;omega),Bj,AGp,Ar,by simp [hOl],Aj8 hOd hc,by dsimp only;have h1:=Ang c<|hOz (i + LB.length) (Nat.le_refl _) AGp;rw [Nat.mul_zero,Nat.add_zero] at h1;rw [h1,hOv,List.take_length,AU6 hx,Nat.add_mul,Nat.mul_assoc],λq h1 h2=>by dsimp only;rw [List.getElem?_set_ne AGp];exact hOz q AGp h2⟩,rfl,trivial⟩
  ·refine AGw<|AGv<|ATy rfl (ATk<|ATl<|ATl<|AUi<|q_t<|AGv ?_);obtain rfl:i=LA.length:=by omega
   rw [List.take_length] at hOv;have HDo:=Aa.ds (lo:=Array.size h) hOd AGp;refine ATc<|AGq<|ATm trivial rfl (Ae0 (DS.mono HDo<|Nat.zero_le _) AGp) λB7 hq hk=>?_;obtain ⟨rfl,L2,HT,htl⟩:=hk;refine ⟨trivial,?_⟩;refine AG1 (AG6<|⟨_,AS9,?_⟩)
   first
   | exact ⟨XQ,L1,lacks_HD1,Ak,Am,AGp⟩
   | exact ⟨XQ,L2,HT.ds HDo.lo,htl,by rw [HT.val,hOv],by have:=HT.len;omega⟩
theorem MulZ_ok {b:Int} (HA:ZV h la va a) (HB:ZV h lb vb b) (hab:a.natAbs * b.natAbs < 4294967296 ^ 100):AT3 Tryz.prog 159 #[va,vb] h λx h'=>Ext h h'/\ZV h' (Array.size h) x (a * b):=by
 obtain ⟨na,sa,LA,rfl,HDa,htla,hla,hza⟩:=HA.out;obtain ⟨nb,sb,LB,rfl,HDb,htlb,hlb,hzb⟩:=HB.out;refine AUc (l:=[_,_]) mx Tryz.func159 rfl rfl rfl rfl rfl AG3 (AGt<|Ab7 [.bool na,sa] (λ_=>trivial) rfl rfl λAk h2 V3 E4 Bb Cf=>?_);have Cg:Array.size h<=Ak:=Bb;have Ch:=E4.1;have Z8:=(Ext.refl h).trans E4;refine Ab7 [.bool nb,sb] (λ_=>trivial) rfl rfl λAm Ci Av Ag Be Cj=>?_;have Ck:Array.size h<=Am:=Nat.le_trans E4.1 Be;have nebq1bq9:Ak≠Am:=by have:=V3.lt;omega
 have Cm:=Ag.1;have Aw:=E4.trans Ag;have Ax:=V3.ext Ag;refine AY8 [.bool false,.slice none 0 0] AXy rfl (λ_=>trivial) λAc Ai Bf Ad Bg Cn=>?_;have Co:Array.size h<=Ac:=Nat.le_trans Aw.1 Bg;have nebq1bq20:Ak≠Ac:=by have:=Ax.lt;omega
 have nebq9bq20:Am≠Ac:=by have:=Av.lt;omega
 have Cp:=Ad.1;have Bh:=(Z8.trans Ag).trans Ad;have Ao:=Aw.trans Ad;have Ay:=Ax.ext Ad;have Bi:=(E4.trans Ag).trans Ad;have Az:=Av.ext Ad;have Bj:=Ag.trans Ad;refine AGw<|AGv<|AVl (λh'=>Ext Ai h') AG3 ?_;have Aa:=Ext.refl Ai;refine AYe (fs:=1) Ad2 AG3 AGr rfl (AVe AWm rfl Aa (λh' hb=>(Ay.ext hb).cell (i:=0) rfl) (AYe (fs:=1) Ad2 AG3 AGr rfl (AVe AWm rfl Aa (λh' hb=>(Az.ext hb).cell (i:=0) rfl) (Aph Al7 rfl rfl (AYe (fs:=1) Aej AG3 AGr rfl (AVe Aaa rfl Aa (λh' hb=>(Ay.ext hb).cell (i:=1) rfl) (ATm Aa rfl (Ae0 (DS.mono (HDa.ext Ao)<|Nat.zero_le _) AGp) λCq Ai hk=>?_)))))));obtain ⟨rfl,L1,Ap,Ct⟩:=hk;refine ⟨Aa,?_⟩;have Bl:=Ap.ds (lo:=la) HDa.lo;have A3:=Ap.val;have Cu:=Ap.len;refine AYe (fs:=1) Aej AG3 AGr rfl (AVe Aaa rfl Aa (λh' hb=>(Az.ext hb).cell (i:=1) rfl) (ATm Aa rfl (Ae0 (DS.mono (HDb.ext Ao)<|Nat.zero_le _) AGp) λCv Ai hk=>?_));obtain ⟨rfl,L2,Aq,Cx⟩:=hk;refine ⟨Aa,?_⟩;have Bm:=Aq.ds (lo:=lb) HDb.lo;have A4:=Aq.val;have Cy:=Aq.len;refine ATm Aa rfl (A3w Bl Bm AGp AGp) λCz C0 hk=>?_;obtain ⟨Ae,L4,A5,A6,A7,C2⟩:=hk;have Ar:=Aa.trans Ae;refine ⟨Ar,?_⟩;have C3:=Ae.1;have Bn:=Bh.trans Ae;have Bo:=Ao.trans Ae;have Bp:=Bi.trans Ae;have Bq:=Bj.trans Ae;have Br:=Bf.ext Ae;have Bt:=Ad.trans Ae;refine ATm Ar rfl (Aco (!(na == nb)) A5 A6<|Aep A6 (by rw [A7,A3,A4,<- AX0 hza,<- AX0 hzb];exact hab)) λC4 C5 hk=>?_;obtain ⟨Ab,Bu⟩:=hk;have Bv:=Ar.trans Ab;refine ⟨Bv,?_⟩;have C6:=Ab.1;have Bw:=Bn.trans Ab;have Bx:=Bo.trans Ab;have By:=Bp.trans Ab;have Bz:=Bq.trans Ab;have B3:=Br.ext Ab;have B4:=Bt.trans Ab;have B5:=A5.ext Ab;obtain ⟨A8,s3,L3,rfl,Ba,B7,B8,B9⟩:=Bu.out;refine AVf [.bool A8,s3] AUj rfl rfl rfl rfl (Ab4 Ba.cap) B3 λC7 Ca Af=>?_;have Cb:=Bx.thenUpd Af (λk hk=>by have Aj:k=Ac:=hk;omega);have C8:=Af.1;have C9:=Bw.thenUpd Af (λk hk=>by have Aj:k=Ac:=hk;omega);have Da:=B4.thenUpd Af (λk hk=>by have Aj:k=Ac:=hk;omega);have Db:=By.thenUpd Af (λk hk=>by have Aj:k=Ac:=hk;omega);have Dc:=Bz.thenUpd Af (λk hk=>by have Aj:k=Ac:=hk;omega);have Dd:=B5.updLo Af AGp;have Cd:=Ba.updLo Af AGp;refine AGw<|AG6<|⟨_,AVn AUj rfl rfl Ca,?_⟩;exact ⟨Cb,⟨A8,s3,L3,rfl,Cd.mono AGp,B7,B8,by rw [<- B9,A7,A3,A4,hza,hzb,Avt]⟩⟩
end Go.Proofs.YtkakafabeobahaaGreatDoor.Ig
namespace Go.Proofs.YtkakafabeobahaaGreatDoor
open Go Go.QF
def BBp (fuel:Nat) (a b:Int):Option Int:=if a.natAbs < AXw/\b.natAbs < AXw then some (a - b) else none
def A13 (fuel:Nat) (a b:Int):Option Int:=if a.natAbs * b.natAbs < AXw then some (a * b) else none
def Anp (fuel:Nat) (a b:Int):Option (Int × Int × Bool):=if a.natAbs < 18446744073709551616/\b.natAbs < 18446744073709551616/\b≠0 then some (a / b,a % b,true) else none
def BBq (fuel:Nat) (a:Int):Option Int:=some<|-a
def Anq (fuel:Nat) (a:Int):Option Int:=some a
def Aru (fuel:Nat) (a:Int):Option Int:=if -9223372036854775808<=a/\a<=9223372036854775807 then some a else none
def As3 (fuel:Nat) (a:Int):Option Int:=some<|AYp a
theorem BCz {u:Value} {b:Int} (H1:ZZ h u a) (H2:ZZ h v b) (hp:BBp fuel a b=some r):AT3 Tryz.prog 189 #[u,v] h (λx h'=>Ext h h'/\ ∃ (x0:Value),x=x0/\ZZ h' x0 r):=by
 obtain ⟨⟨h1,h2⟩,hp⟩:=ifN hp;cases hp;exact (Ig.Sub_ok H1 H2 h1 h2).mono λx h' hk=>⟨hk.1,x,rfl,hk.2.zz⟩
theorem A0k {u:Value} {b:Int} (H1:ZZ h u a) (H2:ZZ h v b) (hp:A13 fuel a b=some r):AT3 Tryz.prog 159 #[u,v] h (λx h'=>Ext h h'/\ ∃ (x0:Value),x=x0/\ZZ h' x0 r):=by
 obtain ⟨h1,hp⟩:=ifN hp;cases hp;exact (Ig.MulZ_ok H1 H2<|A51 h1).mono λx h' hk=>⟨hk.1,x,rfl,hk.2.zz⟩
theorem BC0 {u:Value} (H1:ZZ h u a) (hp:BBq fuel a=some r):AT3 Tryz.prog 190 #[u] h (λx h'=>Ext h h'/\ ∃ (x0:Value),x=x0/\ZZ h' x0 r):=by
 cases hp;exact (Ig.Neg_ok H1).mono λx h' hk=>⟨hk.1,x,rfl,hk.2.zz⟩
theorem Apu {u:Value} (H1:ZZ h u a) (hp:Anq fuel a=some r):AT3 Tryz.prog 156 #[u] h (λx h'=>Ext h h'/\ ∃ (x0:Value),x=x0/\ZZ h' x0 r):=by
 cases hp;exact (Ig.Normalize_ok H1).mono λx h' hk=>⟨hk.1,x,rfl,hk.2.zz⟩
theorem As4 (hp:Aru fuel a=some r):AT3 Tryz.prog 152 #[.int .i64 a] h (λx h'=>Ext h h'/\ ∃ (x0:Value),x=x0/\ZZ h' x0 r):=by
 obtain ⟨h1,hp⟩:=ifN hp;cases hp;exact (Ig.Small_ok h1 h).mono λx h' hk=>⟨hk.1,x,rfl,hk.2.zz⟩
theorem Arv {u:Value} (H1:ZZ h u a) (hp:As3 fuel a=some r):AT3 Tryz.prog 155 #[u] h (λx h'=>Ext h h'/\x= .int .i64 r):=by
 cases hp;exact Ig.Sign_ok H1
theorem Aqo {u:Value} {b:Int} {r:Int × Int × Bool} (H1:ZZ h u a) (H2:ZZ h v b) (hp:Anp fuel a b=some r):AT3 Tryz.prog 158 #[u,v] h (λx h'=>Ext h h'/\ ∃ (x0:Value) (x1:Value),x= .tuple #[x0,x1,.bool r.2.2]/\ZZ h' x0 r.1/\ZZ h' x1 r.2.1):=by
 obtain ⟨⟨h1,h2,h3⟩,hp⟩:=ifN hp;cases hp;exact (Ig.DivMod2_ok H1 H2 h1 h2 h3).mono λx h' ⟨E,q,r,hx,hq,hr⟩=>⟨E,q,r,hx,hq.zz,hr.zz⟩
end Go.Proofs.YtkakafabeobahaaGreatDoor
namespace Go.Proofs.YtkakafabeobahaaGreatDoor
open Go Go.QF
set_option maxRecDepth 100000
set_option maxHeartbeats 40000000
def Adq (fuel:Nat) (a3:LiI) (Ac:LiA) (Aa:Int):Option (Int ⊕ ((Int × Int × Bool) ⊕ Unit)):=
 if Aa < (a3.length:Int) then (gI a3 Aa).bind λAd=>if ¬ (Ad.length:Int)=(Ac.length:Int) then some (.inr<|.inl (0,0,false)) else some (.inl<|w64<|Aa + 1) else some<|.inr<|.inr ()
def AZy (fuel:Nat) (a3:LiI):Option (Int × Int × Bool):=
 ((if (a3.length:Int) < 1 then some (.inl (0,0,false)) else if 16 < (a3.length:Int) then some (.inl (0,0,false)) else some<|.inr ()):Option ((Int × Int × Bool) ⊕ Unit)).bind (λex=>match ex with | .inl Ac=>(some Ac) | .inr _=>(gI a3 0).bind λAb=>((if (Ab.length:Int) < 1 then some (.inl (0,0,false)) else if 16 < (Ab.length:Int) then some (.inl (0,0,false)) else some<|.inr ()):Option ((Int × Int × Bool) ⊕ Unit)).bind (λex=>match ex with | .inl Ad=>(some Ad) | .inr _=>(iter (λs=>Adq fuel a3 Ab s) fuel 0).bind (λex=>match ex with | .inl Ae=>(some Ae) | .inr _=>some ((a3.length:Int),(Ab.length:Int),true))))
theorem Alf {Aq:Value} {a3:LiI} {r:(Int × Int × Bool)} (H2:AX8 (cI .i64) h Aq a3) (hp:AZy fuel a3=some r):AT3 Tryz.prog 149 #[Aq] h (λx h'=>Ext h h'/\x= .tuple #[.int .i64 r.1,.int .i64 r.2.1,.bool r.2.2]):=by
 unfold AZy at hp;refine cwf (l:=[_]) Tryz.func149 rfl rfl (AGt<|ATu<|ATu<|AG1 ?_);have K0:=Kst.k0 h;obtain ⟨A3,Ar,Ah⟩:=AGu hp;refine Ae6 65308 (λx:Unit=>[]) (λx h'=>(Sum.inr <| ())=A3/\Kst h h' (K0.L)) ?_ ?_
 ·refine AGt<|AGq<|AUb ATg rfl H2 (ATz rfl rfl (AGq ?_));by_cases Ad:(a3.length:Int) < 1
  ·rw [decide_eq_true Ad];refine Acj 11 true<|ATn rfl (AGw<|ATv rfl (AGt<|ATu<|ATu<|AG1 ?_));obtain rfl:=AGs<|ifT Ar Ad;refine AG6<|ATj ?_;obtain rfl:=AGs Ah;exact ⟨_,Ab5,K0.x,rfl⟩
  ·have Au:=ifF Ar Ad;rw [decide_eq_false Ad];refine ATt 11 false<|AGq<|ATt 11 false<|AUb ATg rfl H2 (ATt 11 false<|AZv rfl rfl (ATx rfl (AGw<|⟨_,rfl,λAi=>?_,λAi=>?_⟩)))
   ·refine AGt<|ATu<|ATu<|AG1 ?_;obtain rfl:=AGs<|AT9 Au Ai;refine AG6<|ATj ?_;obtain rfl:=AGs Ah;exact ⟨_,Ab5,K0.x,rfl⟩
   ·refine AG5<|q_t ?_;exact ⟨(():Unit),⟨AGs<|AUa Au Ai,K0⟩,trivial⟩
 rintro ⟨⟩ Be Bf ⟨A4,Ab⟩;subst A4;refine AGt<|AGq ?_;obtain ⟨A5,A6,A7⟩:=AGu Ah;refine Ad3 ATg ATq H2 Ab.x A6 λ_ Bg A8=>AUu ATe rfl A8 (AG1 ?_);obtain ⟨A9,Av,Aj⟩:=AGu A7;refine Ae6 66060316 (λx:Unit=>[]) (λx h'=>(Sum.inr <| ())=A9/\Kst h h' (Ab.L)) ?_ ?_
 ·refine AGt<|AGq<|ATz rfl rfl (AGq ?_);by_cases Ae:(A5.length:Int) < 1
  ·rw [decide_eq_true Ae];refine Ab3 22 true<|ATn rfl (AGw<|ATv rfl (AGt<|ATu<|ATu<|AG1 ?_));obtain rfl:=AGs<|ifT Av Ae;refine AG6<|ATj ?_;obtain rfl:=AGs Aj;exact ⟨_,Ab5,Ab.x,rfl⟩
  ·have Aw:=ifF Av Ae;rw [decide_eq_false Ae];refine ATt 22 false<|AGq<|ATt 22 false<|AZv rfl rfl (ATx rfl (AGw<|⟨_,rfl,λAk=>?_,λAk=>?_⟩))
   ·refine AGt<|ATu<|ATu<|AG1 ?_;obtain rfl:=AGs<|AT9 Aw Ak;refine AG6<|ATj ?_;obtain rfl:=AGs Aj;exact ⟨_,Ab5,Ab.x,rfl⟩
   ·refine AG5<|q_t ?_;exact ⟨(():Unit),⟨AGs<|AUa Aw Ak,Ab⟩,trivial⟩
 rintro ⟨⟩ Bh Bi ⟨Ba,Ax⟩;subst Ba;refine AGv<|AGt<|AGq<|AUb ATg rfl H2 (AGq<|AGw<|AGx<|AZp 137170518172 Aj (λx=>[(28,(.int .i64 x))]) (λx=>Ax.L) Ax ⟨rfl,trivial⟩ ?_);rintro Bj Bl Bm Bn Af Am Ay;unfold Adq at Am;refine AGt<|ATz rfl rfl (AGw<|AGv<|⟨_,rfl,λAo=>?_,λAo=>?_⟩)
 ·refine AG5<|q_t<|AGv<|AGx<|AGt ?_;obtain ⟨Bo,Bb,Az⟩:=AGu<|AT9 Am Ao;refine Ad3 ATg ATq H2 Af.x Bb λ_ Bp Bc=>AT7<|AGq<|AUu ATe rfl Bc (AGq<|AV2 rfl rfl (AGw<|⟨_,rfl,λAp=>?_,λAp=>?_⟩))
  ·refine AGt<|ATu<|ATu<|AG1<|AG6<|AUp<|ATj<|ATj<|AUp<|ATj ?_;obtain rfl:=AGs<|Ay _ (AGs<|AT9 Az Ap).symm;exact ⟨_,Ab5,Af.x,rfl⟩
  ·refine AG5<|q_b<|q_t<|ATc<|ATp rfl rfl (AGq<|AGw ?_);exact ⟨_,(AGs<|AUa Az Ap).symm,Af,rfl,trivial⟩
 ·refine ATk<|ATl<|ATl<|AUi<|q_t<|AGt<|AGq<|AUb ATg rfl H2 (AGq<|ATu<|ATu<|AG1<|AG6 ?_);obtain rfl:=AGs<|Ay _ (AGs<|AUa Am Ao).symm;exact ⟨_,Ab5,Af.x,rfl⟩
def Acg (fuel:Nat) (a3:LiI) (Ac:LiA) (Aa:Int):Option (Int ⊕ ((Int × Int × Bool) ⊕ Unit)):=
 if Aa < (a3.length:Int) then (gI a3 Aa).bind λAd=>if ¬ (Ad.length:Int)=(Ac.length:Int) then some (.inr<|.inl (0,0,false)) else some (.inl<|w64<|Aa + 1) else some<|.inr<|.inr ()
def AYy (fuel:Nat) (a3:LiI):Option (Int × Int × Bool):=
 ((if (a3.length:Int) < 1 then some (.inl (0,0,false)) else if 16 < (a3.length:Int) then some (.inl (0,0,false)) else some<|.inr ()):Option ((Int × Int × Bool) ⊕ Unit)).bind (λex=>match ex with | .inl Ac=>(some Ac) | .inr _=>(gI a3 0).bind λAb=>((if (Ab.length:Int) < 1 then some (.inl (0,0,false)) else if 16 < (Ab.length:Int) then some (.inl (0,0,false)) else some<|.inr ()):Option ((Int × Int × Bool) ⊕ Unit)).bind (λex=>match ex with | .inl Ad=>(some Ad) | .inr _=>(iter (λs=>Acg fuel a3 Ab s) fuel 0).bind (λex=>match ex with | .inl Ae=>(some Ae) | .inr _=>some ((a3.length:Int),(Ab.length:Int),true))))
theorem Aj4 {Aq:Value} {a3:LiI} {r:(Int × Int × Bool)} (H2:AX8 cZ h Aq a3) (hp:AYy fuel a3=some r):AT3 Tryz.prog 153 #[Aq] h (λx h'=>Ext h h'/\x= .tuple #[.int .i64 r.1,.int .i64 r.2.1,.bool r.2.2]):=by
 unfold AYy at hp;refine cwf (l:=[_]) Tryz.func153 rfl rfl (AGt<|ATu<|ATu<|AG1 ?_);have K0:=Kst.k0 h;obtain ⟨A3,Ar,Ah⟩:=AGu hp;refine Ae6 65308 (λx:Unit=>[]) (λx h'=>(Sum.inr <| ())=A3/\Kst h h' (K0.L)) ?_ ?_
 ·refine AGt<|AGq<|AUb AU3 rfl H2 (ATz rfl rfl (AGq ?_));by_cases Ad:(a3.length:Int) < 1
  ·rw [decide_eq_true Ad];refine Acj 11 true<|ATn rfl (AGw<|ATv rfl (AGt<|ATu<|ATu<|AG1 ?_));obtain rfl:=AGs<|ifT Ar Ad;refine AG6<|ATj ?_;obtain rfl:=AGs Ah;exact ⟨_,Ab5,K0.x,rfl⟩
  ·have Au:=ifF Ar Ad;rw [decide_eq_false Ad];refine ATt 11 false<|AGq<|ATt 11 false<|AUb AU3 rfl H2 (ATt 11 false<|AZv rfl rfl (ATx rfl (AGw<|⟨_,rfl,λAi=>?_,λAi=>?_⟩)))
   ·refine AGt<|ATu<|ATu<|AG1 ?_;obtain rfl:=AGs<|AT9 Au Ai;refine AG6<|ATj ?_;obtain rfl:=AGs Ah;exact ⟨_,Ab5,K0.x,rfl⟩
   ·refine AG5<|q_t ?_;exact ⟨(():Unit),⟨AGs<|AUa Au Ai,K0⟩,trivial⟩
 rintro ⟨⟩ Be Bf ⟨A4,Ab⟩;subst A4;refine AGt<|AGq ?_;obtain ⟨A5,A6,A7⟩:=AGu Ah;refine Ad3 AU3 AWx H2 Ab.x A6 λ_ Bg A8=>AUu AV5 rfl A8 (AG1 ?_);obtain ⟨A9,Av,Aj⟩:=AGu A7;refine Ae6 66060316 (λx:Unit=>[]) (λx h'=>(Sum.inr <| ())=A9/\Kst h h' (Ab.L)) ?_ ?_
 ·refine AGt<|AGq<|ATz rfl rfl (AGq ?_);by_cases Ae:(A5.length:Int) < 1
  ·rw [decide_eq_true Ae];refine Ab3 22 true<|ATn rfl (AGw<|ATv rfl (AGt<|ATu<|ATu<|AG1 ?_));obtain rfl:=AGs<|ifT Av Ae;refine AG6<|ATj ?_;obtain rfl:=AGs Aj;exact ⟨_,Ab5,Ab.x,rfl⟩
  ·have Aw:=ifF Av Ae;rw [decide_eq_false Ae];refine ATt 22 false<|AGq<|ATt 22 false<|AZv rfl rfl (ATx rfl (AGw<|⟨_,rfl,λAk=>?_,λAk=>?_⟩))
   ·refine AGt<|ATu<|ATu<|AG1 ?_;obtain rfl:=AGs<|AT9 Aw Ak;refine AG6<|ATj ?_;obtain rfl:=AGs Aj;exact ⟨_,Ab5,Ab.x,rfl⟩
   ·refine AG5<|q_t ?_;exact ⟨(():Unit),⟨AGs<|AUa Aw Ak,Ab⟩,trivial⟩
 rintro ⟨⟩ Bh Bi ⟨Ba,Ax⟩;subst Ba;refine AGv<|AGt<|AGq<|AUb AU3 rfl H2 (AGq<|AGw<|AGx<|AZp 137170518172 Aj (λx=>[(28,(.int .i64 x))]) (λx=>Ax.L) Ax ⟨rfl,trivial⟩ ?_);rintro Bj Bl Bm Bn Af Am Ay;unfold Acg at Am;refine AGt<|ATz rfl rfl (AGw<|AGv<|⟨_,rfl,λAo=>?_,λAo=>?_⟩)
 ·refine AG5<|q_t<|AGv<|AGx<|AGt ?_;obtain ⟨Bo,Bb,Az⟩:=AGu<|AT9 Am Ao;refine Ad3 AU3 AWx H2 Af.x Bb λ_ Bp Bc=>AT7<|AGq<|AUu AV5 rfl Bc (AGq<|AV2 rfl rfl (AGw<|⟨_,rfl,λAp=>?_,λAp=>?_⟩))
  ·refine AGt<|ATu<|ATu<|AG1<|AG6<|AUp<|ATj<|ATj<|AUp<|ATj ?_;obtain rfl:=AGs<|Ay _ (AGs<|AT9 Az Ap).symm;exact ⟨_,Ab5,Af.x,rfl⟩
  ·refine AG5<|q_b<|q_t<|ATc<|ATp rfl rfl (AGq<|AGw ?_);exact ⟨_,(AGs<|AUa Az Ap).symm,Af,rfl,trivial⟩
 ·refine ATk<|ATl<|ATl<|AUi<|q_t<|AGt<|AGq<|AUb AU3 rfl H2 (AGq<|ATu<|ATu<|AG1<|AG6 ?_);obtain rfl:=AGs<|Ay _ (AGs<|AUa Am Ao).symm;exact ⟨_,Ab5,Af.x,rfl⟩
def Afe (fuel:Nat) (a3:LiI) (Ab:Int) (Af:LiA) (Aa:Int) (Ac:LiI):Option ((Int × LiI) ⊕ LiI):=
 if Aa < (Af.length:Int) then (gI Ac Ab).bind λAd=>(((gI a3 Ab).bind λAg=>(gI Ag Aa).bind λAh=>(Aru fuel Ah).bind λAi=>some Ai):Option Int).bind λAj=>(gI Ad Aa).bind λAk=>some (.inl (w64<|Aa + 1,sI Ac Ab<|sI Ad Aa Aj)) else some<|.inr Ac
def Aff (fuel:Nat) (a3:LiI) (Ae Ab Aa:Int) (Ac:LiI):Option ((Int × LiI) ⊕ LiI):=
 if Aa < ((List.replicate (Int.toNat Ae) ([]:List Int)).length:Int) then if 0<=Ab/\Ab<=100000000 then (gI Ac Aa).bind λAh=>(gI (sI Ac Aa<|List.replicate (Int.toNat Ab) (0:Int)) Aa).bind λAf=>(iter (λs=>Afe fuel a3 Aa Af s.1 s.2) fuel (0,sI Ac Aa<|List.replicate (Int.toNat Ab) (0:Int))).bind (λ(Ag:LiI)=>some<|.inl (w64<|Aa + 1,Ag)) else none else some<|.inr Ac
def Acp (fuel:Nat) (a3:LiI):Option (LiI × Bool):=
 (AZy fuel a3).bind λ(Aa,Ac,Ad)=>if (!Ad)=true then some ([],false) else ((if 0<=Aa/\Aa<=100000000 then (iter (λs=>Aff fuel a3 Aa Ac s.1 s.2) fuel (0,List.replicate (Int.toNat Aa) ([]:List Int))).bind (λ(Ae:LiI)=>some Ae) else none):Option LiI).bind λAf=>some (Af,true)
theorem Anr {Ah:Value} {a3:LiI} {r:(LiI × Bool)} (H2:AX8 (cI .i64) h Ah a3) (hp:Acp fuel a3=some r):AT3 Tryz.prog 94 #[Ah] h (λx h'=>Ext h h'/\ ∃ (x0:Value) (F0:List Nat) (Bu:List LnA) (Bv:List Value),x= .tuple #[x0,.bool r.2]/\AV3 cZ 146 129 h' F0 Bu Bv x0 r.1/\Sp h' h.size [F0]):=by
 unfold Acp at hp;refine cwf (l:=[_]) Tryz.func94 rfl rfl (AGt ?_);have K0:=Kst.k0 h;refine Asi [Ah] trivial tt2 rfl (Axx ((H2.ext K0.x)).isOne) λb5 h6 V7 E8 S9=>ATu<|AT7 ?_;have Aj:=K0.nb E8 S9 V7;refine AT1 AVg rfl ((Aj.b p0).cell (i:=0) rfl) ?_;obtain ⟨⟨B3,B4,D3⟩,B5,Ak⟩:=AGu hp;dsimp only at Ak;refine AYn Aj (Alf (H2.ext Aj.x) B5) λD4 D5 Am=>AGq<|AUh rfl rfl (AUh rfl rfl (AUh rfl rfl (ATu<|ATu<|AG1<|AGv<|AGt<|AGq<|AW0 rfl (AGw<|⟨_,rfl,λAo=>?_,λAo=>?_⟩))))
 ·refine AGt<|ATu<|AG1<|AG6<|ATj ?_;have Ap:=Kst.anil2 cZ 146 129 Am;obtain rfl:=AGs<|ifT Ak Ao;exact ⟨_,AU0,Ap.x,_,_,_,_,rfl,(Ap.o2 p0),Ap.s.sel [0] AGr⟩
 ·refine AG5<|q_t<|AGt<|AGq<|AGq<|A4w rfl ?_;obtain ⟨B6,B7,B8⟩:=AGu<|Abh Ak Ao;refine ATm (K':=(λxr h'=> ∃ x:(LiI) × (Value) × LnA × LnN × LvA,x.1=B6/\xr=x.2.1/\Kst h h' (aO2 cZ 146 129 x.2.2.1 x.2.2.2.1 x.2.2.2.2 x.2.1 x.1 :: Am.L))) trivial rfl ?_ λB9 D6 Ca=>?_
  ·refine cwf (l:=[_,_,_]) Tryz.func150 rfl rfl (AGt<|AT7<|AGq ?_);obtain ⟨Cb,Cd⟩:=ifN B7;refine Ajk cZ 129 AU3 Axy rfl trivial tt2 rfl rfl AGr Cb λCe Cf Cg Aq D7 Ch Ci Cj=>AG1<|AGv<|AGt<|AGq ?_;have Ar:=Am.no2 Ci Cj Ch;refine AUb AU3 rfl (Ar.o2 p0).rd (AGq<|AGw<|AGx<|AYo 4398046495488 (λx:(Int) × (LiI) × LnA × LnN × LvA=>(x.1,x.2.1)) ((0,(List.replicate (Int.toNat B3) ([]:List Int)),Ce,Cf,Cg):(Int) × (LiI) × LnA × LnN × LvA) Cd (λx=>[(14,(.int .i64 x.1))]) (λx=>Ar.L.set 0<|aO2 cZ 146 129 x.2.2.1 x.2.2.2.1 x.2.2.2.2 Aq x.2.1) Ar ⟨rfl,trivial⟩ ?_);rintro ⟨Aa,Bg,Ck,Au,Bh⟩ D8 D9 Ea Bi Av Cm;unfold Aff at Av;refine AGt<|ATz rfl rfl (AGw<|AGv<|⟨_,rfl,λAw=>?_,λAw=>?_⟩)
   ·refine AG5<|q_t<|AGv<|AGx<|AGt<|AGq<|AT7<|AGq<|AGq<|AGq ?_;obtain ⟨Cn,Co⟩:=ifN<|AT9 Av Aw;refine Az0 AV5 AXy rfl trivial tt2 rfl rfl AGr Cn λBj Cp Eb Cq Cr Ct Cu=>?_;have Ac:=Bi.no Cr (AX4 Ct Cu) Cq;obtain ⟨Ec,Bl,Cv⟩:=AGu Co;refine AUy AU3 rfl (Ac.o2 p1) rfl Bl λCw Ed Cx Ee Ef=>Ajj AWx (Ac.o2 p1) Bl Cx rfl rfl (Ac.o p0) (Ac.dj p0 p1 AGr) λEg Cy Cz C0=>AZ4<|AGq<|AGq ?_;have Ax:=Ac.m2 p0 p1 AGr Cz Cy λz hz=> .inl<|C0 z hz;obtain ⟨Eh,Bm,C1⟩:=AGu Cv;refine AUs AU3 AWx (Ax.o2 p1) Bm λ_ Ei C2=>AUu AV5 rfl ((Ax.o2 p1).rowI C2 Bm) (AGq<|AGw<|AGx ?_);have Ay:=Ax.sel [1,2] AGr;dsimp only [AY6,Acl] at Ay;refine AYo 2198889038336 (λx:(Int) × (LiI) × LnA × LnN × LvA=>(x.1,x.2.1)) ((0,(sI Bg Aa<|List.replicate (Int.toNat B4) (0:Int)),(Cw :: (Au.set (Int.toNat Aa) [Bj]).flatten),(Au.set (Int.toNat Aa) [Bj]),(Bh.set (Int.toNat Aa) Cp)):(Int) × (LiI) × LnA × LnN × LvA) C1 (λx=>[(27,(.int .i64 x.1))]) (λx=>Ay.L.set 0<|aO2 cZ 146 129 x.2.2.1 x.2.2.2.1 x.2.2.2.2 Aq x.2.1) Ay ⟨rfl,trivial⟩ ?_;rintro ⟨C3,Ej,Ek,El,Em⟩ En Ab Eo Ad Az C4;unfold Afe at Az;refine AGt<|ATz rfl rfl (AGw<|AGv<|⟨_,rfl,λA3=>?_,λA3=>?_⟩)
    ·refine AG5<|q_t<|AGv<|AGx<|AGt<|AGq<|AG1<|AVl (λh'=>UpT [] Ab h') AG3 ?_;have A4:UpT [] Ab Ab:=UpT.start all_nil;refine AGq<|AGq ?_;obtain ⟨Ep,A5,C5⟩:=AGu<|AT9 Az A3;refine AUy AU3 rfl (Ad.o2 p0) rfl A5 λEr Es Et C6 C7=>AVe AWx rfl A4 (λh' hb=>ATw C7 hb.ext) (AGq<|AGq<|AGq<|AGq ?_);obtain ⟨C8,C9,Da⟩:=AGu C5;have Db:UpT [] Ab Ab:=UpT.start all_nil;refine Ari (l:=[(.int .i64 Aa),(.int .i64 C3)]) (cl:=[(.pointer<|some ⟨b5,0,none⟩)]) (K':=(λxr h'=> ∃ x:(Int) × LvA,x.1=C8/\xr=(.agg (x.2).toArray)/\Kst h h' (aZ x.2 x.1 :: Ad.L)/\UpT [] Ab h')) A4 rfl rfl ?_ λEu Ev Dc=>?_
     ·refine cwf (l:=[_,_,_]) Tryz.func151 rfl rfl (AGt<|Asj [.bool false,.slice none 0 0] AXy rfl trivial tt2 λEw Ey Dd A6 Bn=>AZ4 ?_);have Ez:=A6.1;have Ag:=Ad.nb A6 Bn Dd;refine AT1 AVg rfl ((Ag.b p2).cell (i:=0) rfl) (AGq ?_);have De:=Bn.loAll 0 rfl;obtain ⟨Fa,Df,Dg⟩:=AGu C9;refine Anh ATg rfl H2 rfl Df λFb Fc Fd Dh Di=>AT1 ATq rfl (ATw Dh Ag.x) (AGq ?_);obtain ⟨Fe,Dj,Dk⟩:=AGu Dg;refine Ack (c:=(cI .i64)) ATe rfl Di rfl Dj λFf Fg Fh Dl Do=>?_;obtain rfl:=Dl;refine AT1 ATh rfl (ATw (Do 0 _ rfl) Ag.x) ?_;obtain ⟨Dp,Dq,Dr⟩:=AGu Dk;refine Aeq rfl (As4 Dq) λFi Ds A7 Dt=>?_;obtain ⟨Fj,rfl,Du⟩:=Dt;have Fk:=A7.1;obtain ⟨Bo,rfl,Dv⟩:=Du.cs;have Ae:=(Ag.e A7).az Dv;refine AVf Bo AUj (cZ.klen<|Ae.z p0) (cZ.klen<|ATi Ds) rfl rfl (cZ.one<|Ae.z p0) (Ae.b p1) λFl Bp A8=>AGw<|AG6 ?_;have Fm:=A8.1;have A9:=Ae.sb p1 A8 Bp rfl;refine ⟨_,AVn AUj (cZ.klen<|A9.z p0) rfl (A9.b p1),((Dp,Bo):(Int) × LvA),?_,rfl,?_,?_⟩
      ·exact AGs Dr
      ·exact A9.sel [0,2,3] AGr
      ·exact (((Db.thenE A6).thenE A7).then (Bp.stA A8 (AYr (Ae.b p1) rfl) rfl) (BCe De AGp))
     obtain ⟨⟨Fo,Fp⟩,Dw,rfl,Af,Bq⟩:=Dc;have Fq:=Bq.size;refine ⟨(A4.then Bq all_nil),?_⟩;subst Dw;obtain ⟨Ft,Br,Dx⟩:=AGu Da;refine AU7 (m:=Aa) AV5 rfl (Ad.o2 p0) C6 A5 rfl Br λFu Dy=>AYs (m:=Aa) (Aj9 AUj (cZ.klen<|Af.z p0) rfl rfl (cZ.one<|Af.z p0)) (Af.o2 p1) Dy A5 Br (Af.z p0) λFv Dz Bt=>ATr<|q_b<|q_t<|ATc<|ATp rfl rfl (AGq<|AGw ?_);have Fw:=Bt.size;exact ⟨(_,_,_,_,_),(AGs Dx).symm,(Af.uO2 p1 Bt Dz).sel [1,2] AGr,rfl,trivial⟩
    ·refine ATk<|ATl<|ATl<|AUi<|q_b<|q_t<|ATc<|ATp rfl rfl (AGq<|AGw ?_);exact ⟨(_,_,_,_,_),(AGs<|C4 _ (AGs<|AUa Az A3).symm).symm,Ad,rfl,trivial⟩
   ·refine ATk<|ATl<|ATl<|AUi<|q_t<|AGt<|AGq<|AG1<|AG6<|⟨_,AS9,((Bg,Aq,Ck,Au,Bh):(LiI) × (Value) × LnA × LnN × LvA),?_,rfl,?_⟩
    ·exact AGs<|Cm _ (AGs<|AUa Av Aw).symm
    ·exact Bi
  obtain ⟨⟨Fx,B9,Fy,Fz,F4⟩,D0,rfl,Ba⟩:=Ca;refine ⟨trivial,?_⟩;subst D0;refine ATu<|AG1<|AG6 ?_;obtain rfl:=AGs B8;exact ⟨_,AU0,Ba.x,_,_,_,_,rfl,(Ba.o2 p0),Ba.s.sel [0] AGr⟩
def Adr (fuel:Nat) (a3:LiI) (Ac:Int) (Ad:LiI) (Aa:Int):Option (Int ⊕ Int):=
 ((if Aa < (a3.length:Int) then (gI Ad Aa).bind λAe=>(gI Ae Ac).bind λAf=>(As3 fuel Af).bind λAg=>if Ag=0 then some (.inl ()) else some (.inr ()) else some<|.inr ()):Option (Unit ⊕ Unit)).bind (λex=>match ex with | .inl _=>(some<|.inl<|w64<|Aa + 1) | .inr _=>some<|.inr Aa)
def Ads (fuel:Nat) (a3:LiI) (Ad Ag Ah Ae Aa:Int) (Ab:LiI):Option ((Int × LiI) ⊕ LiI):=
 if Aa < (a3.length:Int) then (gI Ab Ae).bind λAc=>(gI Ac Aa).bind λAi=>(A13 fuel Ah Ai).bind λAj=>(gI Ac Ad).bind λAk=>(gI Ab Ad).bind λAm=>(gI Am Aa).bind λAo=>(A13 fuel Ak Ao).bind λAp=>(BBp fuel Aj Ap).bind λAq=>(Anp fuel Aq Ag).bind λ(Ar,Au,Av)=>some (.inl (w64<|Aa + 1,sI Ab Ae<|sI Ac Aa Ar)) else some<|.inr Ab
def Adt (fuel:Nat) (a3:LiI) (Ac Ae Af Aa:Int) (Ad:LiI):Option ((Int × LiI) ⊕ LiI):=
 if Aa < (a3.length:Int) then (iter (λs=>Ads fuel a3 Ac Ae Af Aa s.1 s.2) fuel (w64<|Ac + 1,Ad)).bind (λ(Ag:LiI)=>some<|.inl (w64<|Aa + 1,Ag)) else some<|.inr Ad
def Adu (fuel:Nat) (a3:LiI) (Ae:Bool) (Aa:Int) (Ab:LiI) (Af:Int):Option ((Bool × Int × LiI × Int) ⊕ (Int ⊕ (Bool × Int))):=
 if Aa < (a3.length:Int) then (((iter (λs=>Adr fuel a3 Aa Ab s) fuel Aa).bind (λ(Ai:Int)=>some Ai)):Option Int).bind (λ(Ad:Int)=>if Ad=(a3.length:Int) then some (.inr<|.inl 0) else ((if ¬ Ad=Aa then (gI Ab Ad).bind λAj=>(gI Ab Aa).bind λAk=>some (!Ae,sI (sI Ab Aa Aj) Ad Ak) else some (Ae,Ab)):Option (Bool × LiI)).bind (λ((Am,Ag):Bool × LiI)=>(gI Ag Aa).bind λAo=>(gI Ao Aa).bind λAh=>(iter (λs=>Adt fuel a3 Aa Af Ah s.1 s.2) fuel (w64<|Aa + 1,Ag)).bind (λ(Ap:LiI)=>some<|.inl (Am,w64<|Aa + 1,Ap,Ah)))) else some<|.inr<|.inr (Ae,Af)
def Adv (fuel:Nat) (a3:LiI) (Aa:Int) (Ac:LiI):Option ((Int × LiI) ⊕ LiI):=
 if Aa < (a3.length:Int) then (gI a3 Aa).bind λAd=>if 0<=(a3.length:Int)/\(a3.length:Int)<=100000000 then (gI Ac Aa).bind λAf=>(gI (sI Ac Aa<|List.replicate (Int.toNat (a3.length:Int)) (0:Int)) Aa).bind λAe=>if Ad.length=Ae.length/\0 < Ae.length then some (.inl (w64<|Aa + 1,sI (sI Ac Aa<|List.replicate (Int.toNat (a3.length:Int)) (0:Int)) Aa Ad)) else none else none else some<|.inr Ac
def AZz (fuel:Nat) (a3:LiI):Option Int:=
 if 0<=(a3.length:Int)/\(a3.length:Int)<=100000000 then (iter (λs=>Adv fuel a3 s.1 s.2) fuel (0,List.replicate (Int.toNat (a3.length:Int)) ([]:List Int))).bind (λ(Ac:LiI)=>(Aru fuel 1).bind λAd=>(iter (λs=>Adu fuel a3 s.1 s.2.1 s.2.2.1 s.2.2.2) fuel (false,0,Ac,Ad)).bind (λex=>match ex with | .inl Ae=>(some Ae) | .inr (Af,Ab)=>if Af=true then (BBq fuel Ab).bind λAg=>some Ag else (Anq fuel Ab).bind λAh=>some Ah)) else none
theorem Alg {Bx:Value} {a3:LiI} (H2:AX8 cZ h Bx a3) (hp:AZz fuel a3=some r):AT3 Tryz.prog 154 #[Bx] h (λx h'=>Ext h h'/\ ∃ (x0:Value),x=x0/\ZZ h' x0 r):=by
 unfold AZz at hp;refine cwf (l:=[_]) Tryz.func154 rfl rfl (AGt<|AV7 (Kst.k0 h) [.bool false,.slice none 0 0] AXy λb5 h6 E8 C8=>AZ4<|AGq<|AUb AU3 rfl H2 (AT7<|AGq ?_));obtain ⟨C9,Da⟩:=ifN hp;refine Ajk cZ 129 AU3 Axy rfl trivial tt2 rfl rfl AGr C9 λDb Dc Dd Ak Ii De Df Dg=>AG1<|AGv<|AGt<|AGq<|AUb AU3 rfl H2 (AGq<|AGw<|AGx ?_);have Bz:=C8.no2 Df Dg De;refine AYo 274875809888 (λx:(Int) × (LiI) × LnA × LnN × LvA=>(x.1,x.2.1)) ((0,(List.replicate (Int.toNat (a3.length:Int)) ([]:List Int)),Db,Dc,Dd):(Int) × (LiI) × LnA × LnN × LvA) Da (λx=>[(21,(.int .i64 x.1))]) (λx=>Bz.L.set 0<|aO2 cZ 146 129 x.2.2.1 x.2.2.2.1 x.2.2.2.2 Ak x.2.1) Bz ⟨rfl,trivial⟩ ?_;rintro ⟨Dh,u32,Di,Dj,Dk⟩ Ij Ik Il A7 A8 Dl;unfold Adv at A8;refine AGt<|ATz rfl rfl (AGw<|AGv<|⟨_,rfl,λA9=>?_,λA9=>?_⟩)
 ·refine AG5<|q_t<|AGv<|AGx<|AGt<|AGq ?_;obtain ⟨Im,Do,Dp⟩:=AGu<|AT9 A8 A9;refine Ad3 AU3 AWx H2 A7.x Do λ_ Io Dq=>ATu<|AT7<|AGq<|AGq<|AGq ?_;obtain ⟨Dr,Ds⟩:=ifN Dp;refine Az0 AV5 AXy rfl trivial tt2 rfl rfl AGr Dr λIp Iq Ir Dt Du Dv Dw=>?_;have Am:=A7.no Du (AX4 Dv Dw) Dt;obtain ⟨Is,B3,Dx⟩:=AGu Ds;refine AUy AU3 rfl (Am.o2 p1) rfl B3 λIt Iu Dy Iv Iw=>Ajj AWx (Am.o2 p1) B3 Dy rfl rfl (Am.o p0) (Am.dj p0 p1 AGr) λIx Dz D0 D2=>AGw<|ATc<|AGq<|AGq ?_;have Au:=Am.m2 p0 p1 AGr D0 Dz λz hz=> .inl<|D2 z hz;obtain ⟨Iy,B4,D3⟩:=AGu Dx;refine AUs AU3 AWx (Au.o2 p1) B4 λ_ Iz D4=>AGq ?_;obtain ⟨D5,D6⟩:=ifN D3;refine A50 (m:=Dh) AV5 trivial rfl rfl (Au.o2 p1) D4 B4 (Dq.ext Au.x) D5 λI0 D7 D8=>⟨trivial,?_⟩;refine ATr<|q_b<|q_t<|ATc<|ATp rfl rfl (AGq<|AGw ?_);exact ⟨(_,_,_,_,_),(AGs D6).symm,(Au.uO2 p1 D8 D7).sel [1,2] AGr,rfl,trivial⟩
 ·refine ATk<|ATl<|ATl<|AUi<|q_t<|AGt<|AT7 ?_;obtain ⟨D9,Ea,Eb⟩:=AGu<|Dl _ (AGs<|AUa A8 A9).symm;refine Ag5 A7 (As4 Ea) λEc I1 I2 Ed=>AV7 Ed [.bool false,.slice none 0 0] AXy λEe Ef I3 B5=>AYu B5 p0 (ATi Ef) (B5.z p1) λI6 B6=>AGw<|AGv<|AGt<|AGq<|AGq<|AGw<|AGx<|AYo 22300745198530623141535718272647261994385024 (λx:(Bool) × (Int) × (LiI) × LnA × LnN × LvA × (Int) × LvA=>(x.1,x.2.1,x.2.2.1,x.2.2.2.2.2.2.1)) ((false,0,u32,Di,Dj,Dk,D9,Ec):(Bool) × (Int) × (LiI) × LnA × LnN × LvA × (Int) × LvA) Eb (λx=>[(7,(.bool x.1)),(40,(.int .i64 x.2.1))]) (λx=>((B6.L.set 2<|aO2 cZ 146 129 x.2.2.2.1 x.2.2.2.2.1 x.2.2.2.2.2.1 Ak x.2.2.1).set 1 (aZ x.2.2.2.2.2.2.2 x.2.2.2.2.2.2.1)).set 0 (aB 129 Ee x.2.2.2.2.2.2.2)) B6 ⟨rfl,rfl,trivial⟩ ?_;rintro ⟨B7,Ao,B8,Eg,Eh,Ei,I7,I9⟩ Ja Jc Je Ab Ba B9;unfold Adu at Ba;refine AGt<|ATz rfl rfl (AGw<|AGv<|⟨_,rfl,λBb=>?_,λBb=>?_⟩)
  ·refine AG5<|q_t<|AGv<|AGx<|AGt<|AGq<|AT7<|AGq<|AG1 ?_;obtain ⟨Ej,Ek,Ca⟩:=AGu<|AT9 Ba Bb;refine Ae6 1152903912420803584 (λx:(Int)=>[(10,(.int .i64 x))]) (λx h'=>( x)=Ej/\Kst h h' (Ab.L)) ?_ ?_
   ·refine AGx<|AZp 1152903912420803584 Ek (λx=>[(10,(.int .i64 x))]) (λx=>Ab.L) Ab ⟨rfl,trivial⟩ ?_;rintro Av Jf Jg Jh Ah Cb Cd;unfold Adr at Cb;obtain ⟨El,Ce,Bc⟩:=AGu Cb;refine Ae6 288212783965667328 (λx:Unit=>[]) (λx h'=>(Sum.inl <| ())=El/\Kst h h' (Ah.L)) ?_ ?_
    ·refine AGt<|AGq<|AGq<|ATz rfl rfl (AGq ?_);by_cases Aw:Av < (a3.length:Int)
     ·rw [decide_eq_true Aw];refine ATt 47 true<|AGq<|ATt 47 true<|AGq<|ATt 47 true ?_;obtain ⟨Ji,Be,Em⟩:=AGu<|ifT Ce Aw;refine AUy AU3 rfl (Ah.o2 p2) rfl Be λJj Jk Jl En Eo=>ATt 47 true<|AT1 AWx rfl Eo (ATt 47 true<|AGq<|ATt 47 true ?_);obtain ⟨Jm,Cf,Ep⟩:=AGu Em;refine AU7 (m:=Av) AV5 rfl (Ah.o2 p2) En Be rfl Cf λJn Er=>ATt 47 true ?_;obtain ⟨Jo,Es,Et⟩:=(Ah.o2 p2).cells Er Be Cf;have Bf:=Ah.az Es;refine Agm (c:=cZ) AUj rfl (Bf.z p0) (λj u hu=>(Et j u hu)) (ATt 47 true ?_);obtain ⟨Jp,Eu,Cg⟩:=AGu Ep;refine AYn Bf (Arv (Bf.z p0).2 Eu) λJq Jr Ch=>ATt 47 true<|AWe rfl rfl (ATn rfl (AGw<|⟨_,rfl,λBg=>?_,λBg=>?_⟩))
      ·refine AG5<|q_t ?_;exact ⟨(():Unit),⟨AGs<|AT9 Cg Bg,Ch.sel [1,2,3,4] AGr⟩,trivial⟩
      ·obtain rfl:=AGs<|AUa Cg Bg;refine ATk<|ATl<|ATl<|AUi<|q_t ?_;exact ⟨(Av:(Int)),⟨AGs<|Cd _ (AGs Bc).symm,Ch.sel [1,2,3,4] AGr⟩,rfl,trivial⟩
     ·rw [decide_eq_false Aw];refine AY4 47 false<|Ah6 47 false<|ATx rfl (AGw<|ATy rfl ?_);obtain rfl:=AGs<|ifF Ce Aw;refine ATk<|ATl<|ATl<|AUi<|q_t ?_;exact ⟨(Av:(Int)),⟨AGs<|Cd _ (AGs Bc).symm,Ah⟩,rfl,trivial⟩
    rintro ⟨⟩ Js Jt ⟨Ev,Ew⟩;subst Ev;refine AGx<|ATc<|AGq<|ATp rfl rfl (ATu<|ATr<|q_b<|q_t ?_);exact ⟨_,(AGs Bc).symm,Ew,rfl,trivial⟩
   rintro Ey Ju Ci ⟨Ez,Ae⟩;subst Ez;refine AGv<|AGt<|AGq<|AGq<|AWe rfl rfl (AGw<|⟨_,rfl,λBh=>?_,λBh=>?_⟩)
   ·refine AGt<|AWr (Ag3 )<|AYu Ae p3 (ATi Ci) (ATi Ci) λCj Ck=>AGw<|AG6<|ATj<|AUp<|ATj<|ATj<|AUp<|ATj ?_;obtain rfl:=AGs<|B9 _ (AGs<|AT9 Ca Bh).symm;exact ⟨_,AVn AUj (cZ.klen<|ATi Cj) rfl (Ck.b p3),Ck.x,_,rfl,(ATi Cj).2⟩
   ·refine AG5<|q_t ?_;obtain ⟨Fa,Cm,Fb⟩:=AGu<|AUa Ca Bh;refine Ae6 9671388110172959688097920 (λx:(Bool) × (LiI) × LnA × LnN × LvA=>[(7,(.bool x.1))]) (λx h'=>( (x.1,x.2.1))=Fa/\Kst h h' (Ae.L.set 2<|aO2 cZ 146 129 x.2.2.1 x.2.2.2.1 x.2.2.2.2 Ak x.2.1)) ?_ ?_
    ·refine AGt<|AGq<|AGq<|AV2 rfl rfl (AGw<|⟨_,rfl,λBi=>?_,λBi=>?_⟩)
     ·refine AGv<|AWg<|AGq<|AGq<|AGq<|AGq<|AGq<|AGq ?_;obtain ⟨Fc,Cn,Fd⟩:=AGu<|AT9 Cm Bi;refine AUs AU3 AWx (Ae.o2 p2) Cn λ_ Jv Fe=>AGq<|AGq ?_;obtain ⟨Ff,Co,Fg⟩:=AGu Fd;refine AUs AU3 AWx (Ae.o2 p2) Co λ_ Jw Fh=>Agj AU3 AWx (Ae.o2 p2) Fh Fe Co Cn rfl rfl (λ_=>rfl) (λ_=>rfl) (λ_=>rfl) (λ_ _=>rfl) λJx Jy Fi Fj Fk Jz Fl Fm Fo=>AGw<|ATc<|AGq<|AW0 rfl (AG1 ?_);exact ⟨(((!B7),(sI (sI B8 Ao Fc) Ey Ff),Fi,Fj,Fk):(Bool) × (LiI) × LnA × LnN × LvA),⟨AGs Fg,(Ae.uo2 p2 Fm Fl Fo)⟩,rfl,trivial⟩
     ·refine AG5<|q_t ?_;exact ⟨((B7,B8,Eg,Eh,Ei):(Bool) × (LiI) × LnA × LnN × LvA),⟨AGs<|AUa Cm Bi,Ae⟩,rfl,trivial⟩
    rintro ⟨J0,Fp,Fq,Ft,Fu⟩ J1 J2 ⟨Fv,Ax⟩;subst Fv;refine AGt<|AGq<|AGq ?_;obtain ⟨J3,Bj,Fw⟩:=AGu Fb;refine AUs AU3 AWx (Ax.o2 p2) Bj λ_ J4 Fx=>AGq ?_;obtain ⟨J5,Cp,Fy⟩:=AGu Fw;refine AU7 (m:=Ao) AV5 rfl (Ax.o2 p2) Fx Bj rfl Cp λJ6 Fz=>?_;obtain ⟨J7,F4,F5⟩:=(Ax.o2 p2).cells Fz Bj Cp;have Cq:=Ax.az F4;refine Agm (c:=cZ) AUj rfl (Cq.z p0) (λj u hu=>(F5 j u hu)) (AV7 Cq [.bool false,.slice none 0 0] AXy λJ8 F6 J9 Cr=>AYu Cr p0 (ATi F6) (Cr.z p1) λKa Ct=>AGw<|AGv<|AGt<|AGq<|ATp rfl rfl (AG1<|AGx<|AYo 5575186299632650833623772426640990780026880 (λx:(Int) × (LiI) × LnA × LnN × LvA=>(x.1,x.2.1)) (((w64<|Ao + 1),Fp,Fq,Ft,Fu):(Int) × (LiI) × LnA × LnN × LvA) Fy (λx=>[(12,(.int .i64 x.1))]) (λx=>Ct.L.set 4<|aO2 cZ 146 129 x.2.2.1 x.2.2.2.1 x.2.2.2.2 Ak x.2.1) Ct ⟨rfl,trivial⟩ ?_));rintro ⟨Ay,F7,F8,F9,Ga⟩ Kb Kc Kd Af Bl Gb;unfold Adt at Bl;refine AGv<|AGt<|AGq<|AGq<|ATz rfl rfl (AGw<|⟨_,rfl,λBm=>?_,λBm=>?_⟩)
    ·refine AG5<|q_t<|AGv<|AGx<|AGt<|AGq<|ATp rfl rfl (AG1<|AGx<|AYo 5575186299632021960083815453461342024916992 (λx:(Int) × (LiI) × LnA × LnN × LvA=>(x.1,x.2.1)) (((w64<|Ao + 1),F7,F8,F9,Ga):(Int) × (LiI) × LnA × LnN × LvA) (AT9 Bl Bm) (λx=>[(13,(.int .i64 x.1))]) (λx=>Af.L.set 4<|aO2 cZ 146 129 x.2.2.1 x.2.2.2.1 x.2.2.2.2 Ak x.2.1) Af ⟨rfl,trivial⟩ ?_);rintro ⟨Ke,Kf,Kg,Kh,Ki⟩ Kj Bn Kk Aa Bo Gc;unfold Ads at Bo;refine AGv<|AGt<|AGq<|AGq<|ATz rfl rfl (AGw<|⟨_,rfl,λBp=>?_,λBp=>?_⟩)
     ·refine AG5<|q_t<|AGv<|AGx<|AGv ?_;have Ai:UpT [] Bn Bn:=UpT.start all_nil;refine An4 (B:=λh'=>UpT [] Bn h') 25 [⟨14,129,[.bool false,.slice none 0 0]⟩] (λ_ _ U E=>U.thenE E) AG3 Ai (Az7 rfl AXy rfl (λ_ _ U E=>U.thenE E))<|h_l rfl (Ag6 (Aa.z p1) Ai (Aa.b p0)<|ATr<|h_l rfl (AGq<|ATr<|h_l rfl (AGq<|ATr<|h_l rfl ?_)));obtain ⟨Kl,Ac,Gd⟩:=AGu<|AT9 Bo Bp;refine AUy AU3 rfl (Aa.o2 p4) rfl Ac λKm Kn Ko Ge Gf=>ATr<|h_l rfl (AVe AWx rfl Ai (λh' hb=>ATw Gf hb.ext) (ATr<|h_l rfl (AGq<|ATr<|h_l rfl ?_)));obtain ⟨Kp,Az,Gg⟩:=AGu Gd;refine AU7 (m:=Ay) AV5 rfl (Aa.o2 p4) Ge Ac rfl Az λKr Gh=>ATr<|h_l rfl ?_;obtain ⟨Kt,Cu,Gi⟩:=(Aa.o2 p4).cells Gh Ac Az;refine Akr (c:=cZ) AUj rfl Cu Ai (λh' hb j u hu=>ATw (Gi j u hu) hb.ext) (ATr<|h_e rfl λKu Cv=>?_);have Bq:=(Aa.az<|cZ.upT Cu Ai).e Cv;obtain ⟨Kv,Gj,Gk⟩:=AGu Gg;refine AYh Bq (Ai.thenE Cv) (A0k (Bq.z p2).2 (Bq.z p0).2 Gj) λKw Kx Gl Gm Ag=>ATr ⟨Gl,?_⟩;refine h_l rfl (AGq<|ATr<|h_l rfl (AGq<|ATr<|h_l rfl (AUy AU3 rfl (Aa.o2 p4) rfl Ac λKy Kz La Gn Gp=>ATr<|h_l rfl (AVe AWx rfl Ag (λh' hb=>ATw Gp hb.ext) (ATr<|h_l rfl (AGq<|ATr<|h_l rfl ?_))))));obtain ⟨Lb,Cw,Gq⟩:=AGu Gk;refine AU7 (m:=Ay) AV5 rfl (Aa.o2 p4) Gn Ac rfl Cw λLc Gr=>ATr<|h_l rfl ?_;obtain ⟨Ld,Cx,Gt⟩:=(Aa.o2 p4).cells Gr Ac Cw;refine Akr (c:=cZ) AUj rfl Cx Ag (λh' hb j u hu=>ATw (Gt j u hu) hb.ext) (ATr<|h_l rfl (AGq<|ATr<|h_l rfl (AGq<|ATr<|h_l rfl ?_)));obtain ⟨Le,Br,Gu⟩:=AGu Gq;refine AUy AU3 rfl (Aa.o2 p4) rfl Br λLf Lg Lh Gv Gw=>ATr<|h_l rfl (AVe AWx rfl Ag (λh' hb=>ATw Gw hb.ext) (ATr<|h_l rfl (AGq<|ATr<|h_l rfl ?_)));obtain ⟨Li,Cy,Gx⟩:=AGu Gu;refine AU7 (m:=Ao) AV5 rfl (Aa.o2 p4) Gv Br rfl Cy λLj Gy=>ATr<|h_l rfl ?_;obtain ⟨Lk,Cz,Gz⟩:=(Aa.o2 p4).cells Gy Br Cy;refine Akr (c:=cZ) AUj rfl Cz Ag (λh' hb j u hu=>ATw (Gz j u hu) hb.ext) (ATr<|h_e rfl λLl C0=>?_);have Bt:=((Gm.az<|cZ.upT Cx Ag).az (cZ.upT Cz Ag)).e C0;obtain ⟨Lm,G3,G4⟩:=AGu Gx;refine AYh Bt (Ag.thenE C0) (A0k (Bt.z p1).2 (Bt.z p0).2 G3) λLo Lq G5 G6 G7=>ATr ⟨G5,?_⟩;refine h_e rfl λLr C1=>?_;have Bu:=G6.e C1;obtain ⟨Lv,G8,G9⟩:=AGu G4;refine AYh Bu (G7.thenE C1) (BCz (Bu.z p3).2 (Bu.z p0).2 G8) λHb Lw Hc Hd He=>ATr ⟨Hc,?_⟩;refine Auk λHf C2=>BCn λLx C3 Hg Ly=>?_;have Aj:=Hd.e C2;have A3:=((((((Aa.nb (He.thenE C2).ext (AX4 Hg C3.lt) C3).az (Aj.z p5)).az (Aj.z p4)).az (Aj.z p3)).az (Aj.z p2)).az (Aj.z p1)).az (Aj.z p0);refine AVf Hb AUj (cZ.klen<|A3.z p0) (cZ.klen<|ATi Hf) rfl rfl (cZ.one<|A3.z p0) (A3.b p6) λBv Hh Hj=>AGw<|AVl (λh'=>UpT [] Bv h') AG3 ?_;have Ad:=A3.sb p6 Hj Hh rfl;have Ap:UpT [] Bv Bv:=UpT.start all_nil;refine AGq<|AGq<|AUy AU3 rfl (Ad.o2 p11) rfl Ac λLz L9 Ma Hk Hl=>AVe AWx rfl Ap (λh' hb=>ATw Hl hb.ext) (AGq<|Ag6 (Ad.z p0) Ap (Ad.b p6)<|Ag6 (Ad.z p10) Ap (Ad.b p9) ?_);obtain ⟨⟨Mb,Mc,Md⟩,Hm,C4⟩:=AGu G9;dsimp only at C4;refine AWs Ap (λ_ E=>Ap.thenE E) rfl (Aqo (Ad.z p0).2 (Ad.z p10).2 Hm) λMe Mf Hn Ho=>?_;obtain ⟨Mg,Mh,rfl,Hq,Hr⟩:=Ho;obtain ⟨Mi,rfl,Hs⟩:=Hq.cs;obtain ⟨Mj,rfl,Ht⟩:=Hr.cs;refine AGq<|AUh rfl rfl (AUh rfl rfl (AUh rfl rfl (AU7 (m:=Ay) AV5 rfl (Ad.o2 p11) Hk Ac rfl Az λMk Hu=>?_)));have Aq:=((Ad.e Hn).az Hs).az Ht;refine AYs (m:=Ay) (Aj9 AUj (cZ.klen<|Aq.z p1) rfl rfl (cZ.one<|Aq.z p1)) (Aq.o2 p13) Hu Ac Az (Aq.z p1) λMl Hv Hw=>ATr<|q_b<|q_t<|ATc<|AGq<|ATp rfl rfl (AG1 ?_);exact ⟨(_,_,_,_,_),(AGs C4).symm,(Aq.uO2 p13 Hw Hv).sel [9,10,11,12,13,14] AGr,rfl,trivial⟩
     ·refine ATk<|ATl<|ATl<|AUi<|q_b<|q_t<|ATc<|AGq<|ATp rfl rfl (AG1 ?_);exact ⟨(_,_,_,_,_),(AGs<|Gc _ (AGs<|AUa Bo Bp).symm).symm,Aa,rfl,trivial⟩
    ·refine ATk<|ATl<|ATl<|AUi<|q_t<|ATc<|Adh (Af.z p1) (Af.b p0)<|AYu Af p2 (Af.z p3) (Af.z p1) λMm Hx=>ATr<|q_b<|q_t<|ATc<|ATp rfl rfl (AGq<|AGw ?_);exact ⟨(_,_,_,_,_,_,_,_),(AGs<|Gb _ (AGs<|AUa Bl Bm).symm).symm,Hx.sel [2,1,4,5] AGr,rfl,rfl,trivial⟩
  ·refine ATk<|ATl<|ATl<|AUi<|q_t<|AGv<|AGt<|AGq<|AGw ?_;have C5:=B9 _ (AGs<|AUa Ba Bb).symm;refine ⟨_,rfl,λBw=>?_,λBw=>?_⟩
   ·refine AGt<|Adh (Ab.z p1) (Ab.b p0) ?_;obtain ⟨Mo,Hy,Hz⟩:=AGu<|ifT C5 Bw;refine Ag5 Ab (BC0 (Ab.z p1).2 Hy) λMq Ia Mr C6=>AYu C6 p4 (ATi Ia) (C6.z p0) λMs A4=>AGw<|AG6<|ATj ?_;obtain rfl:=AGs Hz;exact ⟨_,AVn AUj (cZ.klen<|A4.z p0) rfl (A4.b p4),A4.x,_,rfl,(A4.z p0).2⟩
   ·refine AG5<|q_t<|AGt<|Adh (Ab.z p1) (Ab.b p0) ?_;obtain ⟨Mt,Ib,Ic⟩:=AGu<|Abh C5 Bw;refine Ag5 Ab (Apu (Ab.z p1).2 Ib) λMu Id Mv C7=>AYu C7 p4 (ATi Id) (C7.z p0) λMw A5=>AGw<|AG6 ?_;obtain rfl:=AGs Ic;exact ⟨_,AVn AUj (cZ.klen<|A5.z p0) rfl (A5.b p4),A5.x,_,rfl,(A5.z p0).2⟩
def Ai3 (fuel:Nat) (a3:LiI):Option (Int × Bool):=
 (AYy fuel a3).bind λ(Ab,Ac,Ad)=>if (!Ad)=true then some (0,false) else if ¬ Ab=Ac then some (0,false) else (AZz fuel a3).bind λAe=>some (Ae,true)
theorem Arf {Af:Value} {a3:LiI} {r:(Int × Bool)} (H2:AX8 cZ h Af a3) (hp:Ai3 fuel a3=some r):AT3 Tryz.prog 95 #[Af] h (λx h'=>Ext h h'/\ ∃ (x0:Value),x= .tuple #[x0,.bool r.2]/\ZZ h' x0 r.1):=by
 unfold Ai3 at hp;refine cwf (l:=[_]) Tryz.func95 rfl rfl (AGt<|AV7 (Kst.k0 h) [.bool false,.slice none 0 0] AXy λb5 h6 E8 Aj=>AT7<|AGq ?_);obtain ⟨⟨A6,A7,Av⟩,Aw,Ad⟩:=AGu hp;dsimp only at Ad;refine AYn Aj (Aj4 (H2.ext Aj.x) Aw) λAa A8 Ab=>AGq<|AUh rfl rfl (AUh rfl rfl (AUh rfl rfl (ATu<|ATu<|AG1<|AGv<|AGt<|AGq<|AW0 rfl (AGq ?_))));cases Ak:(!Av)
 ·refine ATt 15 false<|AGq<|ATt 15 false<|AGq<|ATt 15 false<|AV2 rfl rfl (ATx rfl (AGw ?_));have Am:=Abh Ad Ak;refine ⟨_,rfl,λAe=>?_,λAe=>?_⟩
  ·refine AGt<|AWr (Ag3 )<|AYu Ab p0 (ATi Aa) (ATi Aa) λAo Ap=>AG1<|AG6<|ATj ?_;obtain rfl:=AGs<|AT9 Am Ae;exact ⟨_,Al4 AUj (cZ.klen<|ATi Ao) rfl (Ap.b p0),Ap.x,_,rfl,(ATi Ao).2⟩
  ·refine AG5<|q_t<|AGt<|AGq ?_;obtain ⟨A9,Ax,Ay⟩:=AGu<|AUa Am Ae;refine Ag5 Ab (Alg (H2.ext Ab.x) Ax) λBa Az Bb Aq=>AYu Aq p1 (ATi Az) (Aq.z p0) λBc Ac=>AG1<|AG6 ?_;obtain rfl:=AGs Ay;exact ⟨_,Al4 AUj (cZ.klen<|Ac.z p0) rfl (Ac.b p1),Ac.x,_,rfl,(Ac.z p0).2⟩
 ·refine Acj 15 true<|ATn rfl (AGw<|ATv rfl (AGt<|AWr (Ag3 )<|AYu Ab p0 (ATi Aa) (ATi Aa) λAr Au=>AG1<|AG6<|ATj ?_));obtain rfl:=AGs<|ifT Ad Ak;exact ⟨_,Al4 AUj (cZ.klen<|ATi Ar) rfl (Au.b p0),Au.x,_,rfl,(ATi Ar).2⟩
end Go.Proofs.YtkakafabeobahaaGreatDoor
namespace Go.QF
open Go
theorem A3x {l:List Value} (H:Sl h v l):SlK h 1 v (l.map λx=>[x]):=by
 obtain ⟨a,cap,hv,hc⟩:=H;refine ⟨a,cap,by grind,λi row hr=>?_⟩;grind
theorem Auv {l:List Value} (H:SlK h 1 v (l.map λx=>[x])):Sl h v l:=by
 obtain ⟨a,cap,hv,hc⟩:=H;refine ⟨a,cap,by grind,λi x hx=>?_⟩;obtain ⟨b,o,ha,hb⟩:=hc i [x] (by simp [hx]);refine ⟨b,o,ha,?_⟩;have:=hb 0 x rfl;grind
theorem A60 {κ:IntKind} {L:List Int} (H:Sl h v (L.map<|.int κ)):SlC (cI κ) h v L:=by
 refine ⟨L.map λa=>[.int κ a],?_,AT5,λi cs a h1 h2=>?_⟩
 ·have:=A3x H;rwa [List.map_map] at this
 ·rw [List.getElem?_map,h2] at h1;injection h1 with h1;exact h1.symm
theorem BE8 {κ:IntKind} {L:List Int} (H:SlC (cI κ) h v L):Sl h v (L.map<|.int κ):=by
 obtain ⟨Ls,h1,h2,h3⟩:=H
 have:Ls=(L.map<|Value.int κ).map λx=>[x]:=by
  apply List.ext_getElem?
  intro i
  by_cases hi:i < L.length
  ·obtain ⟨a,ha⟩:∃ a,L[i]? =some a:=⟨L[i],List.getElem?_eq_getElem hi⟩
   obtain ⟨cs,hcs⟩:∃ cs,Ls[i]? =some cs:=⟨Ls[i]'AGp,List.getElem?_eq_getElem _⟩
   have:=h3 i cs a hcs ha
   rw [hcs,List.map_map,List.getElem?_map,ha]
   exact congrArg some this
  grind
 subst this;exact Auv h1
theorem BC1 (H:AX8 (cI .i64) h v M):Mat h v M:=by
 obtain ⟨_,rs,h1,h2,h3⟩:=H;exact ⟨rs,Auv h1,h2,λi r z hr hz=>BE8<|h3 i r z hr hz⟩
end Go.QF
namespace Go.QF
def Abs (x b:Int):Prop:= -b<=x/\x<=b
theorem Aoa {b:Int} (hx:Abs x a) (hy:Abs y b):Abs (x * y) (a * b):=by
 unfold Abs at *;have ha:0<=a:=by omega
 have hb:0<=b:=by omega
 have h1:0<=(a - x) * (b - y):=Int.mul_nonneg AGp AGp;have h2:0<=(a - x) * (b + y):=Int.mul_nonneg AGp AGp;have h3:0<=(a + x) * (b - y):=Int.mul_nonneg AGp AGp;have h4:0<=(a + x) * (b + y):=Int.mul_nonneg AGp AGp;grind
theorem A61 {b:Int} (hb:0 < b) (hx:Abs x (b * y)):Abs (x.tdiv b) y:=by
 unfold Abs at *;rcases Ams x 0 with h | h
 ·have h1:x.tdiv b= -((-x).tdiv b):=by simp_all
  have h2:(-x).tdiv b=(-x) / b:=Int.tdiv_eq_ediv_of_nonneg AGp
  have h3:(-x) / b<=y:=by
   have:(-x) / b<=(b * y) / b:=Int.ediv_le_ediv hb AGp
   rwa [Int.mul_ediv_cancel_left _ AGp] at this
  have h4:0<=(-x) / b:=Int.ediv_nonneg AGp AGp;omega
 ·have h2:x.tdiv b=x / b:=Int.tdiv_eq_ediv_of_nonneg h
  have h3:x / b<=y:=by
   have:x / b<=(b * y) / b:=Int.ediv_le_ediv hb AGp
   rwa [Int.mul_ediv_cancel_left _ AGp] at this
  have h4:0<=x / b:=Int.ediv_nonneg h AGp;omega
def As5 (M:List (List Int)):Prop:=(1<=M.length/\M.length<=8)/\(∀ z∈M,z.length=M.length)/\ ∀ i j,i < M.length->j < M.length->ent M i j=ent M j i/\ -262144 < ent M i j/\ent M i j < 262144
open Classical in
noncomputable def Aed (M:List (List Int)):Bool:=decide (As5 M)
theorem AZn (h:As5 M):true=Aed M:=by simp [Aed,h]
theorem AWw (h: ¬ As5 M):false=Aed M:=by simp [Aed,h]
theorem As6 (h:Aed M=true):As5 M:=by simpa [Aed] using h
def Ait (m:Nat) (F:ATa):Prop:=(0 < F 0 0/\F 0 0 < 65536)/\ ∀ i,1<=i->i < m->2 * F i 0<=F 0 0/\ -2 * F i 0<=F 0 0
instance (m:Nat) (F:ATa):Decidable (Ait m F):=by
 unfold Ait
 have:Decidable (∀ i,1<=i->i < m->2 * F i 0<=F 0 0/\ -2 * F i 0<=F 0 0):=
  decidable_of_iff (∀ i,i < m->1<=i->2 * F i 0<=F 0 0/\ -2 * F i 0<=F 0 0) ⟨λh i a b=>h i b a,λh i a b=>h i b a⟩
 infer_instance
def Aj5 (F:ATa) (last:Int):ATa:=λi j=>(F 0 0 * F (i + 1) (j + 1) - F (i + 1) 0 * F 0 (j + 1)).tdiv last
def Aol (F:ATa) (last:Int):Prop:=3 * F 0 0 * F 0 0<=4 * (last * Aj5 F last 0 0 + F 1 0 * F 1 0)
instance (F:ATa) (last:Int):Decidable (Aol F last):=by unfold Aol;infer_instance
def Aiu:Nat->(ATa)->Int->Bool
 | 0,_,_=>false
 | 1,F,_=>decide (0 < F 0 0/\F 0 0<=10000)
 | m + 2,F,last=>decide (Ait (m + 2) F) && (decide (Aol F last) && Aiu (m + 1) (Aj5 F last) (F 0 0))
noncomputable def isRed (M:List (List Int)):Bool:=Aed M && Aiu M.length (ent M) 1
structure Stg (m:Nat) (F:ATa) (last:Int) (K:Int):Prop where
 sym:∀ i j,i < m->j < m->F i j=F j i
 bd:∀ i j,i < m->j < m->Abs (F i j) (last * K)
 l1:1<=last
 l2:last<=65535
theorem Ayi {m:Nat} (H:Stg (m + 1) F last K) (hK:0<=K) (hs:Ait (m + 1) F):Stg m (Aj5 F last) (F 0 0) (K + 16384):=by
 have hd:=hs.1
 have hcol:∀ i,i < m->Abs (2 * F (i + 1) 0) (F 0 0):=λi hi=>by
  have:=hs.2 (i + 1) AGp AGp
  exact ⟨AGp,AGp⟩
 refine ⟨λi j hi hj=>?_,λi j hi hj=>?_,AGp,AGp⟩
 ·unfold Aj5;rw [H.sym (i + 1) (j + 1) AGp AGp,H.sym (i + 1) 0 AGp AGp,H.sym 0 (j + 1) AGp AGp,Int.mul_comm<|F 0<|i + 1]
 ·unfold Aj5;refine A61 (by have:=H.l1;omega) ?_;have h1:Abs (F 0 0 * F (i + 1) (j + 1)) (F 0 0 * (last * K)):=Aoa ⟨AGp,AGp⟩<|H.bd _ _ AGp AGp
  have h2:Abs (2 * F (i + 1) 0 * (2 * F 0 (j + 1))) (F 0 0 * F 0 0):=by
   refine Aoa (hcol i hi) ?_
   rw [H.sym 0 (j + 1) AGp AGp];exact hcol j hj
  have h3:0<=F 0 0 * (65536 - F 0 0):=Int.mul_nonneg AGp AGp;have h4:0<=F 0 0 * (last - 1):=Int.mul_nonneg AGp (by have:=H.l1;omega);unfold Abs at *;grind
theorem A3y (h:As5 M):Stg M.length (ent M) 1 262144:=by
 refine ⟨λi j hi hj=>(h.2.2 i j hi hj).1,λi j hi hj=>?_,AGp,AGp⟩;have:=h.2.2 i j hi hj;unfold Abs;omega
theorem Ahv {m:Nat} (h:2<=m) (hs: ¬ Ait m F):Aiu m F last=false:=by
 obtain ⟨n,rfl⟩:∃ n,m=n + 2:=⟨m - 2,AGp⟩;unfold Aiu;grind
theorem Alh {m:Nat} (h:2<=m) (hs: ¬ Aol F last):Aiu m F last=false:=by
 obtain ⟨n,rfl⟩:∃ n,m=n + 2:=⟨m - 2,AGp⟩;unfold Aiu;grind
theorem A3z {m:Nat} (h:2<=m) (hs:Ait m F) (hl:Aol F last):Aiu m F last=Aiu (m - 1) (Aj5 F last) (F 0 0):=by
 obtain ⟨n,rfl⟩:∃ n,m=n + 2:=⟨m - 2,AGp⟩;rw [Aiu,decide_eq_true hs,decide_eq_true hl];rfl
theorem Arw {m:Nat} (H:Stg m F last K) (hK0:0<=K) (hK:K<=393216) (hi:i < m) (hj:j < m):Abs (F i j) 34359738368:=by
 have h1:=H.bd i j hi hj;have h2:=(Aoy (a:=last) (b:=K) (A:=65535) (B:=393216) (by have:=H.l1;omega) H.l2 hK0 hK).2;unfold Abs at *;omega
end Go.QF
namespace Go.Proofs.YtkakafabeobahaaGreatDoor
open Go Go.QF
set_option maxRecDepth 100000
theorem Adw {α:Type} {c:Nat} {g:Nat->α} {q:Nat} (hq:q < c):((List.range c).map g)[q]? =some (g q):=by simp [hq]
section
variable {P:Program} {B:AG0->Prop} {st:Bool} {ops:Array Oper} {rest:List Oper} {e:Env} {h:AG0} {K:Env->AG0->Prop}
variable {d:Nat} {ty:TypeId} {pos:String} {af:Array Edge}
end
end Go.Proofs.YtkakafabeobahaaGreatDoor
namespace Go.Proofs.YtkakafabeobahaaGreatDoor
open Go Go.QF
set_option maxRecDepth 100000
theorem A0l (HM:Mat h v M):AT3 Tryz.prog 82 #[v] h λx h'=>h'=h/\x= .bool (Aed M):=by
 refine AUc (l:=[_]) mx Tryz.func82 rfl rfl rfl rfl rfl AG3 (AGt<|AT7<|AGq<|Aqa ATg rfl HM (AG1<|AGv<|AGt<|AGq<|AXi rfl rfl (λAb=>?_) (λAb=>?_)))
 ·refine AGq (AUm 14 true AG3 rfl rfl (AUm 14 true AG3 rfl rfl (ATn rfl (AGw<|ATv rfl (AGt<|AG1<|AG6<|ATj<|⟨_,AS9,?_⟩)))))
  first
   | exact ⟨rfl,congrArg Value.bool (AWw λhh=>by have:=hh.1;omega)⟩
   | exact ⟨rfl,congrArg Value.bool (AWw λhh=>by have:=hh.2.1 M[i]<|List.getElem_mem _;omega)⟩
   | exact ⟨rfl,congrArg Value.bool (AWw λhh=>by have:=hh.2.2 a b AGp AGp;omega)⟩
   | exact ⟨rfl,congrArg Value.bool<|AZn ⟨⟨AGp,AGp⟩,hrows,λx y hx hy=>hall x y AGp hy⟩⟩
 ·refine AGq<|AUt 14 false AG3 rfl rfl (AGq<|AUt 14 false AG3 rfl rfl (Ajd rfl rfl (λAc=>?_) (λAc=>?_)))
  ·refine ATx rfl (AGw<|ATv rfl (AGt<|AG1<|AG6<|ATj<|⟨_,AS9,?_⟩))
   first
    | exact ⟨rfl,congrArg Value.bool (AWw λhh=>by have:=hh.1;omega)⟩
    | exact ⟨rfl,congrArg Value.bool (AWw λhh=>by have:=hh.2.1 M[i]<|List.getElem_mem _;omega)⟩
    | exact ⟨rfl,congrArg Value.bool (AWw λhh=>by have:=hh.2.2 a b AGp AGp;omega)⟩
    | exact ⟨rfl,congrArg Value.bool<|AZn ⟨⟨AGp,AGp⟩,hrows,λx y hx hy=>hall x y AGp hy⟩⟩
  ·refine ATx rfl (AGw<|ATy rfl (AG5<|q_t<|AGv<|AGt<|AGq<|Aqa ATg rfl HM (AGq<|AGw<|AGx<|AXb 535822372 (λi:Nat=>[(20,.int .i64 (i:Int))]) (λk i h'=>h'=h/\k=M.length - i/\i<=M.length/\ ∀ j (hj:j < M.length),j < i->M[j].length=M.length) AG3 M.length 0 ?_ ⟨rfl,trivial⟩ ?_)))
   ·exact ⟨rfl,rfl,Nat.zero_le _,λj _ hj=>by omega⟩
   rintro k i s1 h ⟨rfl,rfl,hi,hrow⟩;refine AGt<|AXi rfl rfl (λAd=>?_) (λAd=>?_)
   ·refine AGw<|AGv<|ATv rfl (AG5<|q_t<|AGv<|AGx<|AGt<|Ana ATg rfl HM rfl (List.getElem?_eq_getElem AGp) λaR rR haR hrR=>?_);refine AT1 ATq rfl haR (AT7<|AGq<|A4t ATe rfl hrR (AGq<|Axg rfl rfl (λAe=>?_) (λAe=>?_)))
    ·refine AGw (ATv rfl (AGt<|AG1<|AG6<|AUp<|ATj<|ATj<|AUp<|ATj<|⟨_,AS9,?_⟩))
     first
      | exact ⟨rfl,congrArg Value.bool (AWw λhh=>by have:=hh.1;omega)⟩
      | exact ⟨rfl,congrArg Value.bool (AWw λhh=>by have:=hh.2.1 M[i]<|List.getElem_mem _;omega)⟩
      | exact ⟨rfl,congrArg Value.bool (AWw λhh=>by have:=hh.2.2 a b AGp AGp;omega)⟩
      | exact ⟨rfl,congrArg Value.bool<|AZn ⟨⟨AGp,AGp⟩,hrows,λx y hx hy=>hall x y AGp hy⟩⟩
    ·refine AGw<|ATy rfl (AG5<|q_b<|q_t<|ATc<|Aci rfl AGp (AGq<|AGw ?_));exact ⟨M.length - (i + 1),i + 1,AGp,⟨rfl,rfl,AGp,λj hj Af=>by rcases Nat.lt_succ_iff_lt_or_eq.1 Af with q | rfl;exact hrow j hj q;omega⟩,rfl,trivial⟩
   ·refine AGw<|AGv<|ATy rfl (ATk<|ATl<|ATl<|AUi<|q_t<|AGv<|AGv ?_);have hrows:∀ z∈M,z.length=M.length:=λz hz=>by obtain ⟨j,hj,rfl⟩:=List.getElem_of_mem hz;exact hrow j hj AGp
    have Aa:Mat h v (tab M.length M.length<|ent M):=(Azu hrows) ▸ HM;refine ATc<|AGq<|Aqa ATg rfl Aa ?_;rw [AUe];refine AGq<|AGw<|AGx<|AXb 4611686016279905220 (λa:Nat=>[(31,.int .i64 (a:Int))]) (λk a h'=>h'=h/\k=M.length - a/\a<=M.length/\ ∀ x y,x < a->y < M.length->ent M x y=ent M y x/\ -262144 < ent M x y/\ent M x y < 262144) AG3 M.length 0 ?_ ⟨rfl,trivial⟩ ?_
    ·exact ⟨rfl,rfl,Nat.zero_le _,λx y hx=>by omega⟩
    rintro k a s2 h ⟨rfl,rfl,ha,hall⟩;refine AGt<|AXi rfl rfl (λAg=>?_) (λAg=>?_)
    ·refine AGw<|AGv<|ATv rfl (AG5<|q_t<|AGv<|AGx<|AGt<|AGq<|Ana ATg rfl Aa rfl (Abt AGp) λaS rS haS hrS=>AT1 ATq rfl haS (ATu<|AT7<|AGq<|A4t ATe rfl hrS ?_));rw [List.length_map,List.length_range];refine AGq<|AGw<|AGx<|AXb 2305842734335787780 (λb:Nat=>[(38,.int .i64 (b:Int))]) (λk b h'=>h'=h/\k=M.length - b/\b<=M.length/\ ∀ y,y < b->ent M a y=ent M y a/\ -262144 < ent M a y/\ent M a y < 262144) AG3 M.length 0 ?_ ⟨rfl,trivial⟩ ?_
     ·exact ⟨rfl,rfl,Nat.zero_le _,λy hy=>by omega⟩
     rintro k b s3 h ⟨rfl,rfl,hb,hrw⟩;refine AGt<|AXi rfl rfl (λAh=>?_) (λAh=>?_)
     ·refine AGw<|AGv<|ATv rfl (AG5<|q_t<|AGv<|AGx<|AGt<|AGq<|Ak5 ATe rfl hrS rfl (Adw AGp) λAq Ai=>AT1 ATh rfl Ai (ATu<|AT7<|AGq<|AGq<|AGq<|Ana ATg rfl Aa rfl (Abt AGp) λaT rT haT hrT=>?_));refine AT1 ATq rfl haT (AGq<|Ak5 ATe rfl hrT rfl (Adw AGp) λAr Aj=>AT1 ATh rfl Aj (Axg rfl rfl (λAk=>?_) (λAk=>?_)))
      ·refine AGq (AUm 52 true AG3 rfl rfl (AUm 52 true AG3 rfl rfl (ATn rfl (AGq<|AUm 56 true AG3 rfl rfl (AUm 56 true AG3 rfl rfl (ATn rfl (AGw<|ATv rfl (AGt<|AG1<|AG6<|AUp<|ATj<|ATj<|AUp<|AUp<|ATj<|ATj<|AUp<|ATj<|⟨_,AS9,?_⟩))))))))
       first
        | exact ⟨rfl,congrArg Value.bool (AWw λhh=>by have:=hh.1;omega)⟩
        | exact ⟨rfl,congrArg Value.bool (AWw λhh=>by have:=hh.2.1 M[i]<|List.getElem_mem _;omega)⟩
        | exact ⟨rfl,congrArg Value.bool (AWw λhh=>by have:=hh.2.2 a b AGp AGp;omega)⟩
        | exact ⟨rfl,congrArg Value.bool<|AZn ⟨⟨AGp,AGp⟩,hrows,λx y hx hy=>hall x y AGp hy⟩⟩
      ·refine AGq<|AUt 52 false AG3 rfl rfl (AGq<|AUt 52 false AG3 rfl rfl (Ak3 rfl rfl (λAm=>?_) (λAm=>?_)))
       ·refine ATx rfl (AGq<|AUm 56 true AG3 rfl rfl (AUm 56 true AG3 rfl rfl (ATn rfl (AGw<|ATv rfl (AGt<|AG1<|AG6<|AUp<|ATj<|ATj<|AUp<|AUp<|ATj<|ATj<|AUp<|ATj<|⟨_,AS9,?_⟩)))))
        first
         | exact ⟨rfl,congrArg Value.bool (AWw λhh=>by have:=hh.1;omega)⟩
         | exact ⟨rfl,congrArg Value.bool (AWw λhh=>by have:=hh.2.1 M[i]<|List.getElem_mem _;omega)⟩
         | exact ⟨rfl,congrArg Value.bool (AWw λhh=>by have:=hh.2.2 a b AGp AGp;omega)⟩
         | exact ⟨rfl,congrArg Value.bool<|AZn ⟨⟨AGp,AGp⟩,hrows,λx y hx hy=>hall x y AGp hy⟩⟩
       ·refine ATx rfl (AGq<|AUt 56 false AG3 rfl rfl (AGq<|AUt 56 false AG3 rfl rfl (Am9 rfl rfl (λAo=>?_) (λAo=>?_))))
        ·refine ATx rfl (AGw<|ATv rfl (AGt<|AG1<|AG6<|AUp<|ATj<|ATj<|AUp<|AUp<|ATj<|ATj<|AUp<|ATj<|⟨_,AS9,?_⟩))
         first
          | exact ⟨rfl,congrArg Value.bool (AWw λhh=>by have:=hh.1;omega)⟩
          | exact ⟨rfl,congrArg Value.bool (AWw λhh=>by have:=hh.2.1 M[i]<|List.getElem_mem _;omega)⟩
          | exact ⟨rfl,congrArg Value.bool (AWw λhh=>by have:=hh.2.2 a b AGp AGp;omega)⟩
          | exact ⟨rfl,congrArg Value.bool<|AZn ⟨⟨AGp,AGp⟩,hrows,λx y hx hy=>hall x y AGp hy⟩⟩
        ·refine ATx rfl (AGw<|ATy rfl (AG5<|q_b<|q_t<|ATc<|Aci rfl AGp (AGq<|AGw ?_)));exact ⟨M.length - (b + 1),b + 1,AGp,⟨rfl,rfl,AGp,λy hy=>by rcases Nat.lt_succ_iff_lt_or_eq.1 hy with q | rfl;exact hrw y q;exact ⟨AGp,AGp,AGp⟩⟩,rfl,trivial⟩
     ·refine AGw<|AGv<|ATy rfl (ATk<|ATl<|ATl<|AUi<|q_b<|q_t<|ATc<|Aci rfl AGp (AGq<|AGw ?_));exact ⟨M.length - (a + 1),a + 1,AGp,⟨rfl,rfl,AGp,λx y hx hy=>by rcases Nat.lt_succ_iff_lt_or_eq.1 hx with q | rfl;exact hall x y q hy;exact hrw y AGp⟩,rfl,trivial⟩
    ·refine AGw (AGv<|ATy rfl (ATk<|ATl<|ATl<|AUi<|q_t<|AGt<|AG1<|AG6<|⟨_,AS9,?_⟩))
     first
      | exact ⟨rfl,congrArg Value.bool (AWw λhh=>by have:=hh.1;omega)⟩
      | exact ⟨rfl,congrArg Value.bool (AWw λhh=>by have:=hh.2.1 M[i]<|List.getElem_mem _;omega)⟩
      | exact ⟨rfl,congrArg Value.bool (AWw λhh=>by have:=hh.2.2 a b AGp AGp;omega)⟩
      | exact ⟨rfl,congrArg Value.bool<|AZn ⟨⟨AGp,AGp⟩,hrows,λx y hx hy=>hall x y AGp hy⟩⟩
theorem A62 {m:Nat}:(tab m m F).drop 1=tab (m - 1) m λi j=>F (i + 1) j:=by
 refine List.ext_getElem (by simp [tab]) λi h1 h2=>?_;simp [tab,Nat.add_comm]
theorem As7 {m:Nat} (HM:Mat h v (tab m m F)) (hcap:Agl v) (hm:1<=m) (Au:m<=8) (hfit:∀ i,i < m->Abs (F i 0) 34359738368):AT3 Tryz.prog 83 #[v] h λx h'=>h'=h/\x= .bool (decide (Ait m F)):=by
 refine AUc (l:=[_]) mx Tryz.func83 rfl rfl rfl rfl rfl AG3 (AGt<|AT7<|AGq<|Ana (n:=0) ATg rfl HM rfl (Abt AGp) λAv Aw Ad Ae=>AT1 ATq rfl Ad (Ak5 (n:=0) ATe rfl Ae rfl (Adw AGp) λAx Af=>AT1 ATh rfl Af (AG1<|AGv<|AGt<|AGq<|Ak3 rfl rfl (λAg=>?_) (λAg=>?_))))
 ·refine AGq (AUm 13 true AG3 rfl rfl (AUm 13 true AG3 rfl rfl (ATn rfl (AGw<|ATv rfl (AGt<|AG1<|AG6<|ATj<|⟨_,AS9,?_⟩)))))
  first
   | exact ⟨rfl,congrArg Value.bool (decide_eq_false (λhh=>by have:=hh.1;omega)).symm⟩
   | exact ⟨rfl,congrArg Value.bool (decide_eq_false (λhh=>by have:=hh.2 (i + 1) AGp AGp;omega)).symm⟩
   | exact ⟨rfl,congrArg Value.bool (decide_eq_true ⟨⟨AGp,AGp⟩,λj h1 h2=>hall j h1 AGp⟩).symm⟩
 ·refine AGq<|AUt 13 false AG3 rfl rfl (AGq<|AUt 13 false AG3 rfl rfl (Am9 rfl rfl (λAh=>?_) (λAh=>?_)))
  ·refine ATx rfl (AGw<|ATv rfl (AGt<|AG1<|AG6<|ATj<|⟨_,AS9,?_⟩))
   first
    | exact ⟨rfl,congrArg Value.bool (decide_eq_false (λhh=>by have:=hh.1;omega)).symm⟩
    | exact ⟨rfl,congrArg Value.bool (decide_eq_false (λhh=>by have:=hh.2 (i + 1) AGp AGp;omega)).symm⟩
    | exact ⟨rfl,congrArg Value.bool (decide_eq_true ⟨⟨AGp,AGp⟩,λj h1 h2=>hall j h1 AGp⟩).symm⟩
  ·refine ATx rfl (AGw<|ATy rfl (AG5<|q_t<|AGv<|AGt<|AGq<|A3c (k:=1) ATg rfl HM hcap rfl (by rw [AUe];omega) λv1 Ai Ay=>?_));have HD:Mat h v1 (tab (m - 1) m λi j=>F (i + 1) j):=A62 (m:=m) ▸ Ai;refine Aqa ATg rfl HD ?_;rw [AUe];refine AGq<|AGw<|AGx<|AXb 549754765348 (λi:Nat=>[(20,.int .i64 (i:Int))]) (λk i h'=>h'=h/\k=m - 1 - i/\i<=m - 1/\ ∀ j,1<=j->j < i + 1->2 * F j 0<=F 0 0/\ -2 * F j 0<=F 0 0) AG3 (m - 1) 0 ?_ ⟨rfl,trivial⟩ ?_
   ·exact ⟨rfl,rfl,Nat.zero_le _,λj h1 h2=>by omega⟩
   rintro k i s1 h ⟨rfl,rfl,hi,hall⟩;refine AGt<|AXi rfl rfl (λAj=>?_) (λAj=>?_)
   ·refine AGw<|AGv<|ATv rfl (AG5<|q_t<|AGv<|AGx<|AGt<|Ana ATg rfl HD rfl (Abt AGp) λAz A3 Ak Ac=>AT1 ATq rfl Ak (AG1<|AGv ?_));have Am:=hfit (i + 1) AGp;unfold Abs at Am;refine ATc<|AGq<|Ak5 (n:=0) ATe rfl Ac rfl (Adw AGp) λA4 Ao=>AT1 ATh rfl Ao (Agh rfl rfl AGp AGp (AGq<|Ajd rfl rfl (λAp=>?_) (λAp=>?_)))
    ·refine AGq (AUm 30 true AG3 rfl rfl (AUm 30 true AG3 rfl rfl (AUm 30 true AG3 rfl rfl (AUm 30 true AG3 rfl rfl (AUm 30 true AG3 rfl rfl (AUm 30 true AG3 rfl rfl (ATn rfl (AGw<|ATv rfl (AGt<|AG1<|AG6<|AUp<|ATj<|ATj<|AUp<|ATj<|⟨_,AS9,?_⟩)))))))))
     first
      | exact ⟨rfl,congrArg Value.bool (decide_eq_false (λhh=>by have:=hh.1;omega)).symm⟩
      | exact ⟨rfl,congrArg Value.bool (decide_eq_false (λhh=>by have:=hh.2 (i + 1) AGp AGp;omega)).symm⟩
      | exact ⟨rfl,congrArg Value.bool (decide_eq_true ⟨⟨AGp,AGp⟩,λj h1 h2=>hall j h1 AGp⟩).symm⟩
    ·refine AGq<|AUt 30 false AG3 rfl rfl (AGq<|AUt 30 false AG3 rfl rfl (Ak5 (n:=0) ATe rfl Ac rfl (Adw AGp) λA5 Aq=>AUt 30 false AG3 rfl rfl (AT1 ATh rfl Aq (AUt 30 false AG3 rfl rfl (Agh rfl rfl AGp AGp (AUt 30 false AG3 rfl rfl (AGq<|AUt 30 false AG3 rfl rfl (Ajd rfl rfl (λAr=>?_) (λAr=>?_)))))))))
     ·refine ATx rfl (AGw<|ATv rfl (AGt<|AG1<|AG6<|AUp<|ATj<|ATj<|AUp<|ATj<|⟨_,AS9,?_⟩))
      first
       | exact ⟨rfl,congrArg Value.bool (decide_eq_false (λhh=>by have:=hh.1;omega)).symm⟩
       | exact ⟨rfl,congrArg Value.bool (decide_eq_false (λhh=>by have:=hh.2 (i + 1) AGp AGp;omega)).symm⟩
       | exact ⟨rfl,congrArg Value.bool (decide_eq_true ⟨⟨AGp,AGp⟩,λj h1 h2=>hall j h1 AGp⟩).symm⟩
     ·refine ATx rfl (AGw<|ATy rfl (AG5<|q_b<|q_t<|ATc<|Aci rfl AGp (AGq<|AGw ?_)));exact ⟨m - 1 - (i + 1),i + 1,AGp,⟨rfl,rfl,AGp,λj h1 h2=>by rcases Nat.lt_succ_iff_lt_or_eq.1 h2 with q | rfl;exact hall j h1 q;exact ⟨AGp,AGp⟩⟩,rfl,trivial⟩
   ·refine AGw (AGv<|ATy rfl (ATk<|ATl<|ATl<|AUi<|q_t<|AGt<|AG1<|AG6<|⟨_,AS9,?_⟩))
    first
     | exact ⟨rfl,congrArg Value.bool (decide_eq_false (λhh=>by have:=hh.1;omega)).symm⟩
     | exact ⟨rfl,congrArg Value.bool (decide_eq_false (λhh=>by have:=hh.2 (i + 1) AGp AGp;omega)).symm⟩
     | exact ⟨rfl,congrArg Value.bool (decide_eq_true ⟨⟨AGp,AGp⟩,λj h1 h2=>hall j h1 AGp⟩).symm⟩
theorem Av6 (HM:Mat h v M) (hcap:Agl v):AT3 Tryz.prog 41 #[v] h λx h'=>Ext h h'/\x= .bool (isRed M):=by
 refine AUc (l:=[_]) mx Tryz.func41 rfl rfl rfl rfl rfl AG3 (AGt<|AG1<|AGv<|AGt<|AGq<|ATm trivial rfl (A0l HM) λx1 h hk=>?_);obtain ⟨rfl,rfl⟩:=hk;refine ⟨trivial,?_⟩;cases Au:Aed M
 ·refine AW0 rfl (AGw<|ATv rfl (AGt<|AG1<|AG6<|ATj<|⟨_,AS9,?_⟩))
  first
   | exact ⟨(Ext.refl _),congrArg Value.bool (show false=isRed M by unfold isRed;rw [show Aed M=false by assumption];rfl)⟩
   | exact ⟨(Ext.refl _),congrArg Value.bool (show false=isRed M by unfold isRed;rw [hred,Ahv AGp<|of_decide_eq_false (by assumption),Bool.and_false])⟩
   | exact ⟨(Ext.refl _),congrArg Value.bool (show false=isRed M by unfold isRed;rw [hred,Alh AGp (by unfold Aol;omega),Bool.and_false])⟩
   | (obtain rfl:m=1:=by omega
      first
      | exact ⟨(Ext.refl _),congrArg Value.bool (show true=isRed M by unfold isRed;rw [hred,<- AZn hsm,Aiu,decide_eq_true ⟨AGp,AGp⟩];rfl)⟩
      | exact ⟨(Ext.refl _),congrArg Value.bool (show false=isRed M by unfold isRed;rw [hred,Aiu,decide_eq_false AGp,Bool.and_false])⟩)
 ·refine AW0 rfl (AGw<|ATy rfl (AG5<|q_t<|AGt<|AGq<|AT7<|AG1<|AGv<|AGx ?_));have hsm:=As6 Au;have Av:=A3y hsm;have Aw:Mat h v (tab M.length M.length<|ent M):=(Azu hsm.2.1) ▸ HM;refine AXb 20282409603651670423947251255292 (λy:Nat × Value × Int × (ATa)=>[(3,y.2.1),(4,.int .i64 y.2.2.1)]) (λk y h'=>y.1=k/\Ext h h'/\1<=y.1/\y.1<=M.length/\Mat h' y.2.1 (tab y.1 y.1 y.2.2.2)/\Agl y.2.1/\Stg y.1 y.2.2.2 y.2.2.1 (262144 + 16384 * (M.length - y.1))/\Aiu M.length (ent M) 1=Aiu y.1 y.2.2.2 y.2.2.1) AG3 M.length (M.length,v,1,ent M) ?_ ⟨rfl,rfl,trivial⟩ ?_
  ·exact ⟨rfl,Ext.refl _,hsm.1.1,Nat.le_refl _,Aw,hcap,by have e0:(262144 + 16384 * ((M.length:Int) - (M.length:Int)))=262144:=AGp;rw [e0];exact Av,rfl⟩
  rintro k ⟨m,vs,last,F⟩ s1 hq ⟨rfl,XQ,Ay,hmn,HS,Aj,hstg,hred⟩;dsimp only at Ay hmn HS Aj hstg hred ⊢;have h8:=hsm.1.2;have B8:=hstg.l1;have B9:=hstg.l2;have szq:=XQ.1;refine AGv<|AGt<|AGq<|Aqa ATg rfl HS ?_;rw [AUe];refine Ajd rfl rfl (λAz=>?_) (λAz=>?_)
  ·refine AGw<|ATv rfl (AG5<|q_t<|AGx<|AGt<|AGq<|Ana (n:=0) ATg rfl HS rfl (Abt AGp) λCa Cb A3 A4=>AT1 ATq rfl A3 (Ak5 (n:=0) ATe rfl A4 rfl (Adw AGp) λCd A5=>AT1 ATh rfl A5 (AG1<|AGv<|AGt<|AGq<|ATm trivial rfl (As7 HS Aj AGp AGp λi hi=>Arw hstg AGp AGp hi AGp) λx4 hq hk=>?_)));obtain ⟨rfl,rfl⟩:=hk;refine ⟨trivial,?_⟩;cases Cf:decide (Ait m F)
   ·refine AW0 rfl (AGw<|ATv rfl (AGt<|AG1<|AG6<|ATj<|AUp<|ATj<|AUp<|ATj<|⟨_,AS9,?_⟩))
    first
     | exact ⟨XQ,congrArg Value.bool (show false=isRed M by unfold isRed;rw [show Aed M=false by assumption];rfl)⟩
     | exact ⟨XQ,congrArg Value.bool (show false=isRed M by unfold isRed;rw [hred,Ahv AGp<|of_decide_eq_false (by assumption),Bool.and_false])⟩
     | exact ⟨XQ,congrArg Value.bool (show false=isRed M by unfold isRed;rw [hred,Alh AGp (by unfold Aol;omega),Bool.and_false])⟩
     | (obtain rfl:m=1:=by omega
        first
        | exact ⟨XQ,congrArg Value.bool (show true=isRed M by unfold isRed;rw [hred,<- AZn hsm,Aiu,decide_eq_true ⟨AGp,AGp⟩];rfl)⟩
        | exact ⟨XQ,congrArg Value.bool (show false=isRed M by unfold isRed;rw [hred,Aiu,decide_eq_false AGp,Bool.and_false])⟩)
   ·refine AW0 rfl (AGw<|ATy rfl (AG5<|q_t<|AGt<|AGq<|Aqa ATg rfl HS ?_));rw [AUe];have hsh:Ait m F:=of_decide_eq_true (by assumption);refine Ae5 rfl rfl AGp AGp ?_;rw [show ((m:Nat):Int) - 1=((m - 1:Nat):Int) by omega];refine BEs (ei:=tI) ATg Ae8 (λ_=>trivial) rfl rfl AGr AGp λb2 v2 h2 Ak E2 Ch hl2b=>?_;have Ci:=E2.1;have Z6:=(Ext.refl hq).trans E2;have X7:=XQ.trans E2;have HS_8:=HS.ext E2;refine AG1<|AGv<|AGt<|AGq<|Azw ATg rfl Ak.1 (AGq<|AGw<|AGx<|AXb 1208925819614624879739776 (λi:Nat=>[(32,.int .i64 (i:Int))]) (λk i h'=>k=m - 1 - i/\i<=m - 1/\Ext hq h'/\ ∃ gs,Ah9 h' tR tI (Array.size hq) b2 gs v2 (m - 1)<|(List.range i).map (λi=>(List.range<|m - 1).map λj=>Aj5 F last i j)) AG3 (m - 1) 0 ?_ ⟨rfl,trivial⟩ ?_)
    ·exact ⟨rfl,Nat.zero_le _,E2,[],Ak⟩
    rintro k i s2 h3 ⟨rfl,hi,E3,gs,HP⟩;have X9:=XQ.trans E3;have Cm:=E3.1;have HS_11:=HS.ext E3;refine AGt<|AXi rfl rfl (λA7=>?_) (λA7=>?_)
    ·refine AGw<|AGv<|ATv rfl (AG5<|q_t<|AGv<|AGx<|AGt<|AGq<|AT7<|AGq<|AGq<|Aci rfl AGp (BB8 ATg rfl HS E3 rfl (Abt AGp) λaR rR haR hrR=>AT1 ATq rfl haR (AG1 ?_)));refine AGt<|AGq<|AGq<|AGq<|Azw ATg rfl HP.1 (BEt ATe Acs (λ_=>trivial) rfl rfl AGr AGp λg4 v4 h4 A8 E4 Co Cp=>?_);have Cq:=E4.1;have A9:=E3.trans E4;have Ba:=X9.trans E4;have HS_15:=HS_11.ext E4;have HP_16:=HP.ext E4;refine A88 ATg rfl HP_16 rfl AGp ?_;have hglt:=HP.1.lt;have hblo:=HP.2 b2<|List.mem_cons_self ..;refine A89 ATq rfl rfl HP_16 AT5 AGp A8 (λhc=>by have:=hglt _ hc;omega) AGp λh4b HPb U4=>?_;have Cr:=U4.1;have Ct:=Ba.thenUpd U4 (λk hk=>by have Ah:k=b2:=hk;omega);have Ao:=A9.thenUpd U4 (λk hk=>by have Ah:k=b2:=hk;omega);have HS_20:=HS.ext Ao;refine AZ4<|AGq<|Azw ATg rfl HPb.1 (AGq<|AGw<|AGx<|AXb 604462909525839610642944 (λj:Nat=>[(48,.int .i64 (j:Int))]) (λk j h'=>k=m - 1 - j/\j<=m - 1/\Ext hq h'/\Ah9 h' tR tI (Array.size hq) b2 (gs ++ [g4]) v2 (m - 1) ((List.range i).map (λi=>(List.range<|m - 1).map λj=>Aj5 F last i j) ++ [Ard (m - 1) (Aj5 F last i) (λ_=>0) j])) AG3 (m - 1) 0 ?_ ⟨rfl,trivial⟩ ?_)
     ·exact ⟨rfl,Nat.zero_le _,Ao,by rw [A27,A28];exact HPb⟩
     rintro k j s3 h5 ⟨rfl,hj,E5,HQ⟩;have Bb:=XQ.trans E5;have Cw:=E5.1;have HS_23:=HS.ext E5;refine AGt<|AXi rfl rfl (λBc=>?_) (λBc=>?_)
     ·refine AGw<|AGv<|ATv rfl (AG5<|q_t<|AGv<|AGx<|AGt<|AGq<|AG1 ?_);have hd:=hsh.1;have hfit:=λi j hi hj=>Arw hstg AGp AGp (i:=i) (j:=j) hi hj;have q1:=Aoa (a:=65535) (b:=34359738368) (x:=F 0 0) (y:=F (i + 1)<|j + 1) ⟨AGp,AGp⟩<|hfit _ _ AGp AGp;have q2:=hsh.2 (i + 1) AGp AGp;have q3:=hsh.2 (j + 1) AGp AGp;rw [<- hstg.sym 0 (j + 1) AGp AGp] at q3;have q4:=Aoa (a:=32768) (b:=32768) (x:=F (i + 1) 0) (y:=F 0<|j + 1) ⟨AGp,AGp⟩ ⟨AGp,AGp⟩;unfold Abs at q1 q4;refine Ajc AG3<|AGq<|AGq<|BEu ATg rfl HQ rfl (Axl AT5) λaQ rQ gQ haQ hgQ hrQ=>?_;refine AT1 ATq rfl haQ (AGq<|AGq<|AGq<|AGq<|Aci rfl AGp (Ak5 ATe rfl (hrR.ext E5) rfl (Adw AGp) λCx Bi=>AT1 ATh rfl Bi (Agh rfl rfl AGp AGp (AGq<|Ak5 (n:=0) ATe rfl (hrR.ext E5) rfl (Adw AGp) λCy Bj=>AT1 ATh rfl Bj (AGq<|Ana (n:=0) ATg rfl HS_23 rfl (Abt AGp) λaZ rZ haZ hrZ=>AT1 ATq rfl haZ (AGq<|Aci rfl AGp (Ak5 ATe rfl hrZ rfl (Adw AGp) λCz Bl=>AT1 ATh rfl Bl (Agh rfl rfl AGp AGp (Ae5 rfl rfl AGp AGp (AGq<|At8 rfl rfl AGp ?_))))))))));have hnf:=Arw (Ayi (m:=m - 1) (by rw [show m - 1 + 1=m by omega];exact hstg) AGp (by rw [show m - 1 + 1=m by omega];exact hsh)) AGp AGp (i:=i) (j:=j) AGp AGp;unfold Abs at hnf;rw [show IntKind.i64.wrap ((F 0 0 * F (i + 1) (j + 1) - F (i + 1) 0 * F 0 (j + 1)).tdiv last)=Aj5 F last i j from Go.QF.wrap_small (by have:(F 0 0 * F (i + 1) (j + 1) - F (i + 1) 0 * F 0 (j + 1)).tdiv last=Aj5 F last i j:=rfl;omega) (by have:(F 0 0 * F (i + 1) (j + 1) - F (i + 1) 0 * F 0 (j + 1)).tdiv last=Aj5 F last i j:=rfl;omega)];refine Ak2 ATe rfl hrQ rfl (by rw [List.length_map,Anb];omega) ?_;refine A9a (Ard (m - 1) (Aj5 F last i) (λ_=>0)<|j + 1) ATh rfl rfl HQ hgQ (Axl AT5) hrQ (by rw [Anb];omega) (A42 AGp rfl) λh6 Bm U6 C1=>?_;have C2:=U6.1;have C3:=Bb.thenUpd U6 (λk hk=>by have Ah:k=gQ:=hk;omega);have Ap:=E5.thenUpd U6 (λk hk=>by have Ah:k=gQ:=hk;omega);have HS_30:=HS.ext Ap;have Aq:=Bm;rw [A47 AT5] at Aq;refine ATr<|q_b<|q_t<|ATc<|Aci rfl AGp (AGq<|AGw ?_);exact ⟨m - 1 - (j + 1),j + 1,AGp,⟨rfl,AGp,Ap,Aq⟩,rfl,trivial⟩
     ·refine AGw<|AGv<|ATy rfl (ATk<|ATl<|ATl<|AUi<|q_b<|q_t<|ATc<|Aci rfl AGp (AGq<|AGw ?_));exact ⟨m - 1 - (i + 1),i + 1,AGp,⟨rfl,AGp,E5,gs ++ [g4],by rw [A41 _ _ AGp] at HQ;rw [<- Azv];exact HQ⟩,rfl,trivial⟩
    ·refine AGw<|AGv<|ATy rfl (ATk<|ATl<|ATl<|AUi<|q_t<|AGv ?_);obtain rfl:i=m - 1:=by omega
     have Ar:Ah9 h3 tR tI (Array.size hq) b2 gs v2 (tab (m - 1) (m - 1)<|Aj5 F last).length (tab (m - 1) (m - 1)<|Aj5 F last):=by rw [AUe];exact HP
     have HN:=Ar.mat;have hcapn:=Ar.cap;have Bn:=Ayi (m:=m - 1) (by rw [show m - 1 + 1=m by omega];exact hstg) AGp (by rw [show m - 1 + 1=m by omega];exact hsh);have hnx:Stg (m - 1) (Aj5 F last) (F 0 0) (262144 + 16384 * (M.length - ((m - 1:Nat):Int))):=by rw [show (262144 + 16384 * ((M.length:Int) - ((m - 1:Nat):Int)))=262144 + 16384 * ((M.length:Int) - (m:Int)) + 16384 by omega];exact Bn
     refine ATc<|AGq<|Ana (n:=1) ATg rfl HS_11 rfl (Abt AGp) λC4 C5 Bo Bp=>AT1 ATq rfl Bo (Ak5 (n:=0) ATe rfl Bp rfl (Adw AGp) λC6 Bq=>AT1 ATh rfl Bq (AG1<|AGv<|AGv ?_));have hd:=hsh.1;have hnf:=Arw hnx AGp AGp (i:=0) (j:=0) AGp AGp;have q5:=Aoa (a:=65535) (b:=34359738368) (x:=last) (y:=Aj5 F last 0 0) ⟨AGp,AGp⟩ hnf;have q2:=hsh.2 1 AGp AGp;have q6:=Aoa (a:=32768) (b:=32768) (x:=F 1 0) (y:=F 1 0) ⟨AGp,AGp⟩ ⟨AGp,AGp⟩;have q7:=Aoy (a:=3 * F 0 0) (b:=F 0 0) (A:=196605) (B:=65535) AGp AGp AGp AGp;unfold Abs at q5 q6;refine ATc<|AGq<|AGq<|Ana (n:=0) ATg rfl HN rfl (Abt AGp) λaN rN haN hrN=>AT1 ATq rfl haN (Ak5 (n:=0) ATe rfl hrN rfl (Adw AGp) λaO haO=>AT1 ATh rfl haO (Agh rfl rfl AGp AGp (AGq<|AGq<|Agh rfl rfl AGp AGp (Ar7 rfl rfl AGp AGp (Agh rfl rfl AGp AGp (AGq<|Agh rfl rfl AGp AGp (AGq<|Agh rfl rfl AGp AGp (AXi rfl rfl (λBu=>?_) (λBu=>?_)))))))))
     ·refine AGw (ATv rfl (AGt<|AG1<|AG6<|ATj<|AUp<|ATj<|AUp<|ATj<|⟨_,AS9,?_⟩))
      first
       | exact ⟨X9,congrArg Value.bool (show false=isRed M by unfold isRed;rw [show Aed M=false by assumption];rfl)⟩
       | exact ⟨X9,congrArg Value.bool (show false=isRed M by unfold isRed;rw [hred,Ahv AGp<|of_decide_eq_false (by assumption),Bool.and_false])⟩
       | exact ⟨X9,congrArg Value.bool (show false=isRed M by unfold isRed;rw [hred,Alh AGp (by unfold Aol;omega),Bool.and_false])⟩
       | (obtain rfl:m=1:=by omega
          first
          | exact ⟨X9,congrArg Value.bool (show true=isRed M by unfold isRed;rw [hred,<- AZn hsm,Aiu,decide_eq_true ⟨AGp,AGp⟩];rfl)⟩
          | exact ⟨X9,congrArg Value.bool (show false=isRed M by unfold isRed;rw [hred,Aiu,decide_eq_false AGp,Bool.and_false])⟩)
     ·refine AGw<|ATy rfl (AG5<|q_t ?_);have hlov:Aol F last:=by unfold Aol;omega
      have hredn:=A3z (last:=last) AGp hsh hlov;refine ATc<|AGq<|AGq<|ATu<|ATu<|ATr<|q_b<|q_t ?_;exact ⟨m - 1,(m - 1,v2,F 0 0,Aj5 F last),by first | omega | (dsimp only;omega),⟨rfl,X9,by first | omega | (dsimp only;omega),by first | omega | (dsimp only;omega),HN,hcapn,hnx,by rw [hred,hredn]⟩,rfl,rfl,trivial⟩
  ·refine AGw<|ATy rfl (ATk<|ATl<|ATl<|AUi<|q_t<|AGt<|AGq<|Ana (n:=0) ATg rfl HS rfl (Abt AGp) λC8 C9 Bv Bw=>AT1 ATq rfl Bv (Ak5 (n:=0) ATe rfl Bw rfl (Adw AGp) λDa Bx=>AT1 ATh rfl Bx (Ajd rfl rfl (λBy=>?_) (λBy=>?_))))
   ·refine AGq<|AUt 110 true AG3 rfl rfl (AGq<|AUt 110 true AG3 rfl rfl (Ana (n:=0) ATg rfl HS rfl (Abt AGp) λDb Dc Bz B3=>AUt 110 true AG3 rfl rfl (AT1 ATq rfl Bz (AUt 110 true AG3 rfl rfl (Ak5 (n:=0) ATe rfl B3 rfl (Adw AGp) λDd B4=>AUt 110 true AG3 rfl rfl (AT1 ATh rfl B4 (AUt 110 true AG3 rfl rfl (Ak3 rfl rfl (λB5=>?_) (λB5=>?_)))))))))
    ·refine ATn rfl (AG1<|AG6<|⟨_,AS9,?_⟩)
     first
      | exact ⟨XQ,congrArg Value.bool (show false=isRed M by unfold isRed;rw [show Aed M=false by assumption];rfl)⟩
      | exact ⟨XQ,congrArg Value.bool (show false=isRed M by unfold isRed;rw [hred,Ahv AGp<|of_decide_eq_false (by assumption),Bool.and_false])⟩
      | exact ⟨XQ,congrArg Value.bool (show false=isRed M by unfold isRed;rw [hred,Alh AGp (by unfold Aol;omega),Bool.and_false])⟩
      | (obtain rfl:m=1:=by omega
         first
         | exact ⟨XQ,congrArg Value.bool (show true=isRed M by unfold isRed;rw [hred,<- AZn hsm,Aiu,decide_eq_true ⟨AGp,AGp⟩];rfl)⟩
         | exact ⟨XQ,congrArg Value.bool (show false=isRed M by unfold isRed;rw [hred,Aiu,decide_eq_false AGp,Bool.and_false])⟩)
    ·refine ATn rfl (AG1<|AG6<|⟨_,AS9,?_⟩)
     first
      | exact ⟨XQ,congrArg Value.bool (show false=isRed M by unfold isRed;rw [show Aed M=false by assumption];rfl)⟩
      | exact ⟨XQ,congrArg Value.bool (show false=isRed M by unfold isRed;rw [hred,Ahv AGp<|of_decide_eq_false (by assumption),Bool.and_false])⟩
      | exact ⟨XQ,congrArg Value.bool (show false=isRed M by unfold isRed;rw [hred,Alh AGp (by unfold Aol;omega),Bool.and_false])⟩
      | (obtain rfl:m=1:=by omega
         first
         | exact ⟨XQ,congrArg Value.bool (show true=isRed M by unfold isRed;rw [hred,<- AZn hsm,Aiu,decide_eq_true ⟨AGp,AGp⟩];rfl)⟩
         | exact ⟨XQ,congrArg Value.bool (show false=isRed M by unfold isRed;rw [hred,Aiu,decide_eq_false AGp,Bool.and_false])⟩)
   ·refine AGq (AUm 110 false AG3 rfl rfl (AUm 110 false AG3 rfl rfl (AUm 110 false AG3 rfl rfl (AUm 110 false AG3 rfl rfl (AUm 110 false AG3 rfl rfl (AUm 110 false AG3 rfl rfl (ATx rfl (AG1<|AG6<|⟨_,AS9,?_⟩))))))))
    first
     | exact ⟨XQ,congrArg Value.bool (show false=isRed M by unfold isRed;rw [show Aed M=false by assumption];rfl)⟩
     | exact ⟨XQ,congrArg Value.bool (show false=isRed M by unfold isRed;rw [hred,Ahv AGp<|of_decide_eq_false (by assumption),Bool.and_false])⟩
     | exact ⟨XQ,congrArg Value.bool (show false=isRed M by unfold isRed;rw [hred,Alh AGp (by unfold Aol;omega),Bool.and_false])⟩
     | (obtain rfl:m=1:=by omega
        first
        | exact ⟨XQ,congrArg Value.bool (show true=isRed M by unfold isRed;rw [hred,<- AZn hsm,Aiu,decide_eq_true ⟨AGp,AGp⟩];rfl)⟩
        | exact ⟨XQ,congrArg Value.bool (show false=isRed M by unfold isRed;rw [hred,Aiu,decide_eq_false AGp,Bool.and_false])⟩)
end Go.Proofs.YtkakafabeobahaaGreatDoor
namespace Go.Proofs.YtkakafabeobahaaGreatDoor
open Go Go.QF
set_option maxRecDepth 100000
open Classical in
noncomputable def A30 (p:Int):Bool:=decide (2 < p/\p<=9973/\Pr p)
theorem Av7 (h:2 < p/\p<=9973/\Pr p):true=A30 p:=by simp [A30,h]
theorem Ans (h: ¬ (2 < p/\p<=9973/\Pr p)):false=A30 p:=by simp [A30,h]
theorem prB {b:Bool} (h:Adc p=b) (hp:p<=9973):b=true↔Pr p:=by
 subst h;constructor
 ·intro h;exact (A22 h).2
 ·intro h;exact (Apf AGp h).symm
theorem BAe (p:Int) (HO:Aoi h):AT3 Tryz.prog 47 #[.int .i64 p] h λv h'=>h'=h/\v= .bool (A30 p):=by
 refine AUc (l:=[_]) mx Tryz.func47 rfl rfl rfl rfl rfl AG3 (AGt<|AT7<|AGq<|Ajd rfl rfl (λAa=>?_) (λAa=>?_))
 ·refine AGq<|AUt 5 true AG3 rfl rfl (AGq<|AUt 5 true AG3 rfl rfl (Ak3 rfl rfl (λAb=>?_) (λAb=>?_)))
  ·refine ATn rfl (AGq<|AUt 9 true AG3 rfl rfl (AGq<|AUt 9 true AG3 rfl rfl (ATm trivial rfl (BBe p HO) λx1 h hk=>?_)));obtain ⟨rfl,rfl⟩:=hk;refine ⟨trivial,?_⟩;cases Ad:Adc p
   ·refine ATn rfl (AG1<|AG6<|⟨_,AS9,?_⟩)
    first
    | exact ⟨rfl,congrArg Value.bool<|Ans (λhh=>by have:=hh.1;have:=hh.2.1;omega)⟩
    | (have hq:=(prB (by assumption:Adc p=_) AGp);first | exact ⟨rfl,congrArg Value.bool<|Av7 ⟨by first | omega | (have:=(hq.1 rfl).1;omega),AGp,hq.1 rfl⟩⟩ | exact ⟨rfl,congrArg Value.bool<|Ans (λhh=>by have:=hq.2 hh.2.2;cases this)⟩)
   ·refine ATn rfl (AG1<|AG6<|⟨_,AS9,?_⟩)
    first
    | exact ⟨rfl,congrArg Value.bool<|Ans (λhh=>by have:=hh.1;have:=hh.2.1;omega)⟩
    | (have hq:=(prB (by assumption:Adc p=_) AGp);first | exact ⟨rfl,congrArg Value.bool<|Av7 ⟨by first | omega | (have:=(hq.1 rfl).1;omega),AGp,hq.1 rfl⟩⟩ | exact ⟨rfl,congrArg Value.bool<|Ans (λhh=>by have:=hq.2 hh.2.2;cases this)⟩)
  ·refine ATn rfl (AGq<|AUm 9 false AG3 rfl rfl (AUm 9 false AG3 rfl rfl (ATx rfl (AG1<|AG6<|⟨_,AS9,?_⟩))))
   first
   | exact ⟨rfl,congrArg Value.bool<|Ans (λhh=>by have:=hh.1;have:=hh.2.1;omega)⟩
   | (have hq:=(prB (by assumption:Adc p=_) AGp);first | exact ⟨rfl,congrArg Value.bool<|Av7 ⟨by first | omega | (have:=(hq.1 rfl).1;omega),AGp,hq.1 rfl⟩⟩ | exact ⟨rfl,congrArg Value.bool<|Ans (λhh=>by have:=hq.2 hh.2.2;cases this)⟩)
 ·refine AGq (AUm 5 false AG3 rfl rfl (AUm 5 false AG3 rfl rfl (ATx rfl (AGq<|AUm 9 false AG3 rfl rfl (AUm 9 false AG3 rfl rfl (ATx rfl (AG1<|AG6<|⟨_,AS9,?_⟩)))))))
  first
  | exact ⟨rfl,congrArg Value.bool<|Ans (λhh=>by have:=hh.1;have:=hh.2.1;omega)⟩
  | (have hq:=(prB (by assumption:Adc p=_) AGp);first | exact ⟨rfl,congrArg Value.bool<|Av7 ⟨by first | omega | (have:=(hq.1 rfl).1;omega),AGp,hq.1 rfl⟩⟩ | exact ⟨rfl,congrArg Value.bool<|Ans (λhh=>by have:=hq.2 hh.2.2;cases this)⟩)
open Classical in
noncomputable def Aee (p:Int):Bool:=decide (p<=9973/\Pr p)
theorem Small_ok (p:Int) (h:AG0):AT3 Tryz.prog 97 #[.int .i64 p] h λv h'=>h'=h/\v= .bool (Aee p):=by
 refine AUc (l:=[_]) mx Tryz.func97 rfl rfl rfl rfl rfl AG3 (AGt<|AT7<|AGq<|Ak3 rfl rfl (λAa=>?_) (λAa=>?_))
 ·refine AGq<|AUt 5 true AG3 rfl rfl (AGq<|AUt 5 true AG3 rfl rfl (ATm trivial rfl (A43 p _) λx1 h hk=>?_));obtain ⟨rfl,rfl⟩:=hk;refine ⟨trivial,?_⟩;cases Ac:Adc p
  ·refine ATn rfl (AG1<|AG6<|⟨_,AS9,?_⟩)
   first
   | exact ⟨rfl,congrArg Value.bool (show false=Aee p by simp [Aee];intro hh;omega)⟩
   | (have hq:=(prB (by assumption:Adc p=_) AGp);first | exact ⟨rfl,congrArg Value.bool (show true=Aee p by simp [Aee];exact ⟨AGp,hq.1 rfl⟩)⟩ | exact ⟨rfl,congrArg Value.bool (show false=Aee p by simp [Aee];intro _ hh;have:=hq.2 hh;cases this)⟩)
  ·refine ATn rfl (AG1<|AG6<|⟨_,AS9,?_⟩)
   first
   | exact ⟨rfl,congrArg Value.bool (show false=Aee p by simp [Aee];intro hh;omega)⟩
   | (have hq:=(prB (by assumption:Adc p=_) AGp);first | exact ⟨rfl,congrArg Value.bool (show true=Aee p by simp [Aee];exact ⟨AGp,hq.1 rfl⟩)⟩ | exact ⟨rfl,congrArg Value.bool (show false=Aee p by simp [Aee];intro _ hh;have:=hq.2 hh;cases this)⟩)
 ·refine AGq (AUm 5 false AG3 rfl rfl (AUm 5 false AG3 rfl rfl (ATx rfl (AG1<|AG6<|⟨_,AS9,?_⟩))))
  first
  | exact ⟨rfl,congrArg Value.bool (show false=Aee p by simp [Aee];intro hh;omega)⟩
  | (have hq:=(prB (by assumption:Adc p=_) AGp);first | exact ⟨rfl,congrArg Value.bool (show true=Aee p by simp [Aee];exact ⟨AGp,hq.1 rfl⟩)⟩ | exact ⟨rfl,congrArg Value.bool (show false=Aee p by simp [Aee];intro _ hh;have:=hq.2 hh;cases this)⟩)
end Go.Proofs.YtkakafabeobahaaGreatDoor
namespace Go.Proofs.YtkakafabeobahaaGreatDoor
open Go Go.QF
noncomputable def Ali (fuel:Nat) (M:List (List Int)):Option Bool:=some<|isRed M
theorem As8 {r:Bool} (H:AX8 (cI .i64) h v M) (hp:Ali fuel M=some r):AT3 Tryz.prog 41 #[v] h (λx h'=>Ext h h'/\x= .bool r):=by
 cases hp;exact Av6 (BC1 H) H.1
noncomputable def Ayj (fuel:Nat) (n:Int):Option Bool:=some<|Adc n
theorem A31 {n:Int} {r:Bool} (HO:Aoi h) (hp:Ayj fuel n=some r):AT3 Tryz.prog 92 #[.int .i64 n] h (λx h'=>Ext h h'/\x= .bool r):=by
 cases hp;exact (BBe n HO).mono λx h' ⟨he,hx⟩=>⟨he ▸ Ext.refl _,hx⟩
noncomputable def As9 (fuel:Nat) (n:Int):Option Bool:=some<|A30 n
theorem Ayk {n:Int} {r:Bool} (HO:Aoi h) (hp:As9 fuel n=some r):AT3 Tryz.prog 47 #[.int .i64 n] h (λx h'=>Ext h h'/\x= .bool r):=by
 cases hp;exact (BAe n HO).mono λx h' ⟨he,hx⟩=>⟨he ▸ Ext.refl _,hx⟩
end Go.Proofs.YtkakafabeobahaaGreatDoor
namespace Go.Proofs.YtkakafabeobahaaGreatDoor
open Go Go.QF
set_option maxRecDepth 100000
set_option maxHeartbeats 40000000
noncomputable def Afg (fuel:Nat) (Ad:LiA) (Aa Ab Ac:Int):Option ((Int × Int × Int) ⊕ (Int × Int)):=
 if 0<=Aa then (gI Ad Aa).bind λAe=>if 0<=Aa/\Aa<=64 then (((Anp fuel Ab Ae).bind λ(Af,Ag,Ak)=>(As3 fuel Ag).bind λAh=>if ¬ Ah=0 then some (false,Ab,Ac) else some (true,Af,w64<|Ac + w64 (1 * 2 ^ Int.toNat Aa))):Option (Bool × Int × Int)).bind λ(Am,Ai,Aj)=>some (.inl (w64<|Aa - 1,Ai,Aj)) else none else some<|.inr (Ab,Ac)
noncomputable def Afh (fuel:Nat) (Aa:LiA) (Ac Ad:Int):Option ((LiA × Int × Int) ⊕ (LiA × Int × Int)):=
 (gI Aa<|w64<|(Aa.length:Int) - 1).bind λAb=>if 0<=w64 ((Aa.length:Int) - 1)/\w64 ((Aa.length:Int) - 1)<=64 then (((Anp fuel Ac Ab).bind λ(Ag,Ah,Am)=>(As3 fuel Ah).bind λAi=>if ¬ Ai=0 then some (false,Ac,Ad) else some (true,Ag,w64<|Ad + w64 (1 * 2 ^ Int.toNat (w64<|(Aa.length:Int) - 1)))):Option (Bool × Int × Int)).bind λ(Aj,Ae,Af)=>if Aj=true then (A13 fuel Ab Ab).bind λAk=>if Aa.length<=100000000 then some (.inl (Aa ++ [Ak],Ae,Af)) else none else some (.inr (Aa,Ae,Af)) else none
noncomputable def Acq (fuel:Nat) (a1 a5:Int):Option (Int × Int × Int):=
 (Ayj fuel a5).bind λAd=>if (!Ad)=true then some (0,0,20) else (As3 fuel a1).bind λAe=>if Ae=0 then some (0,0,1) else (Anq fuel a1).bind λAf=>(Aru fuel a5).bind λAg=>(iter (λs=>Afh fuel s.1 s.2.1 s.2.2) fuel ([Ag],Af,0)).bind (λ((Ac,Ah,Ai):LiA × Int × Int)=>(iter (λs=>Afg fuel Ac s.1 s.2.1 s.2.2) fuel (w64<|(Ac.length:Int) - 2,Ah,Ai)).bind (λ((Aj,Ak):Int × Int)=>some (Ak,Aj,0)))
theorem Ant {Bh:Value} {a1:Int} {r:(Int × Int × Int)} (H3:ZZ h Bh a1) (HO:Aoi h) (hp:Acq fuel a1 a5=some r):AT3 Tryz.prog 96 #[Bh,(.int .i64 a5)] h (λx h'=>Ext h h'/\ ∃ (x1:Value),x= .tuple #[.int .i64 r.1,x1,.int .i64 r.2.2]/\ZZ h' x1 r.2.1):=by
 unfold Acq at hp;obtain ⟨Cj,rfl,Am⟩:=H3.cs;refine cwf (l:=[_,_]) Tryz.func96 rfl rfl (AGt<|AZa (Kst.k0 h) Cj λb6 h7 E9 Ck=>ATu<|AV7 Ck [.bool false,.slice none 0 0] AXy λFt Fu Fv Bm=>AG1<|AGv<|AGt<|AGq ?_);obtain ⟨Fw,Cm,Bn⟩:=AGu hp;refine AYn Bm (A31 (HO.ext Bm.x) Cm) λBo Fx Aj=>AW0 rfl (AGw<|⟨_,rfl,λAx=>?_,λAx=>?_⟩)
 ·refine AGt<|AWr (Ag3 )<|ATu<|AYu Aj p0 (ATi Bo) (ATi Bo) λBp Bq=>AG1<|AG6<|ATj ?_;obtain rfl:=AGs<|ifT Bn Ax;exact ⟨_,Asv AUj (cZ.klen<|ATi Bp) rfl (Bq.b p0),Bq.x,_,rfl,(ATi Bp).2⟩
 ·refine AG5<|q_t<|AGv<|AGt<|Adh (Aj.zx Am) (Aj.b p1) ?_;obtain ⟨Fy,Cn,Br⟩:=AGu<|Abh Bn Ax;refine AYn Aj (Arv (Aj.zx Am).2 Cn) λBt Fz Ak=>AWe rfl rfl (AGw<|⟨_,rfl,λAy=>?_,λAy=>?_⟩)
  ·refine AGt<|AWr (Ag3 )<|ATu<|AYu Ak p0 (ATi Bt) (ATi Bt) λBu Bv=>AG1<|AG6<|ATj ?_;obtain rfl:=AGs<|AT9 Br Ay;exact ⟨_,Asv AUj (cZ.klen<|ATi Bu) rfl (Bv.b p0),Bv.x,_,rfl,(ATi Bu).2⟩
  ·refine AG5<|q_t<|AGt<|Adh (Ak.zx Am) (Ak.b p1) ?_;obtain ⟨Co,Cp,Cq⟩:=AGu<|AUa Br Ay;refine Ag5 Ak (Apu (Ak.zx Am).2 Cp) λCr F4 F5 Ct=>AV7 Ct [.bool false,.slice none 0 0] AXy λAe Cu F6 Bw=>AYu Bw p0 (ATi Cu) (Bw.z p1) λF7 Cv=>AZ4<|AV7 Cv [(.int .i64 0)] Ao0 λAf F8 F9 Bx=>Af7 [(.int .i64 0)] AT8 rfl rfl rfl (Bx.b p0) (Nat.le_of_ble_eq_true rfl) rfl λGa Cw Cx=>AZ4<|A4w rfl (AG1<|AGv ?_);refine ATc<|AGq ?_;obtain ⟨Cy,Cz,C0⟩:=AGu Cq;refine Ag5 (Bx.sb p0 Cx Cw rfl) (As4 Cz) λGb Gc Gd By=>BCk AV5 AXy rfl trivial tt2 (By.z p0) rfl λC1 C2 Ge C3 C4 C5 C6=>AG1<|AGv<|AGx ?_;have Az:=(By.no C4 (AX4 C5 C6) C3).sel [0,2,3,4,5] AGr;dsimp only [AY6,Acl] at Az;refine AYo 2251799679470592 (λx:(LiA) × (Value) × LnA × (Int) × LvA × (Int)=>(x.1,x.2.2.2.1,x.2.2.2.2.2)) (([Cy],C2,[C1],Co,Cr,0):(LiA) × (Value) × LnA × (Int) × LvA × (Int)) C0 (λx=>[(10,x.2.1)]) (λx=>(((Az.L.set 0<|aO cZ 129 x.2.2.1 x.2.1 x.1).set 3 (aZ x.2.2.2.2.1 x.2.2.2.1)).set 2 (aB 129 Ae x.2.2.2.2.1)).set 1 (aB 3 Af [(.int .i64 x.2.2.2.2.2)])) Az ⟨rfl,trivial⟩ ?_;rintro ⟨Ao,Gf,Gg,C7,C8,A3⟩ Gh Gi Gj Ap Bz C9;unfold Afh at Bz;refine AGv<|AGv<|AWg<|AGq<|AGq<|AGq<|AUu AV5 rfl (Ap.o p0).rd (AVm rfl rfl ?_);obtain ⟨Gk,Aq,Da⟩:=AGu Bz;refine Ak8 AV5 rfl (Ap.o p0) rfl Aq λGl Db=>?_;obtain ⟨B3,Dc,Dd⟩:=(Ap.o p0).cells Db Aq;have Ar:=Ap.az Dc;refine Agm (c:=cZ) AUj rfl (Ar.z p0) (λj u hu=>(Dd j u hu)) (AGq<|AUu AV5 rfl (Ar.o p1).rd (AVm rfl rfl ?_));obtain ⟨De,Df⟩:=ifN Da;refine AZh rfl rfl De ?_;obtain ⟨Dg,Dh,B4⟩:=AGu Df;refine Ari (l:=[(.agg (B3).toArray),(.int .i64<|w64<|1 * 2 ^ Int.toNat (w64<|(Ao.length:Int) - 1))]) (cl:=[(.pointer<|some ⟨Ae,0,none⟩),(.pointer<|some ⟨Af,0,none⟩)]) (K':=(λxr h'=> ∃ x:(Bool) × (Int) × LvA × (Int),(x.1,x.2.1,x.2.2.2)=Dg/\xr=(.bool x.1)/\Kst h h' (((Ar.L.set 4<|aZ x.2.2.1 x.2.1).set 3 (aB 129 Ae x.2.2.1)).set 2 (aB 3 Af [(.int .i64 x.2.2.2)])))) trivial rfl rfl ?_ λGm Gn Di=>?_
   ·refine cwf (l:=[_,_,_,_]) Tryz.func157 rfl rfl (AGt<|AZa Ar B3 λGp Gq Gr Ab=>AT7<|Adh (Ab.z p5) (Ab.b p4)<|Adh (Ab.z p1) (Ab.b p0) ?_);obtain ⟨⟨Dj,Gt,Gu⟩,Dk,B5⟩:=AGu Dh;dsimp only at B5;refine Aeq rfl (Aqo (Ab.z p5).2 (Ab.z p1).2 Dk) λGv Gw Dl Do=>?_;obtain ⟨Gx,Gy,rfl,Dp,Dq⟩:=Do;obtain ⟨Dr,rfl,Ds⟩:=Dp.cs;obtain ⟨Gz,rfl,Dt⟩:=Dq.cs;refine AGq<|AUh rfl rfl (AUh rfl rfl (AUh rfl rfl (AV7 (((Ab.e Dl).az Ds).az Dt) [.bool false,.slice none 0 0] AXy λG3 G4 G5 Du=>AV7 Du [.bool false,.slice none 0 0] AXy λG6 Dv G7 B6=>AYu B6 p1 (ATi Dv) (B6.z p3) λDw B7=>AYu B7 p0 (ATi Dw) (B7.z p2) λG8 Au=>AG1<|AGv<|AGt<|Adh (Au.z p2) (Au.b p0) ?_)));obtain ⟨G9,Dx,B8⟩:=AGu B5;refine AYn Au (Arv (Au.z p2).2 Dx) λHb Hc Ag=>AV2 rfl rfl (AGw<|⟨_,rfl,λA4=>?_,λA4=>?_⟩)
    ·refine AGt<|AG1<|AG6<|ATj<|⟨_,AS9,((false,C7,C8,A3):(Bool) × (Int) × LvA × (Int)),?_,rfl,?_⟩
     ·exact AGs<|AT9 B8 A4
     ·exact Ag.sel [5,6,7,8,9,10] AGr
    ·refine AG5<|q_t<|AGt<|Adh (Ag.z p3) (Ag.b p1)<|AYu Ag p8 (Ag.z p9) (Ag.z p3) λHd A5=>AZ4<|AT1 AT8 rfl ((A5.b p7).cell (i:=0) rfl) (AGq<|ATp rfl rfl (Af7 [(.int .i64<|w64<|A3 + (w64<|1 * 2 ^ Int.toNat (w64<|(Ao.length:Int) - 1)))] AT8 rfl rfl rfl (A5.b p7) (Nat.le_of_ble_eq_true rfl) rfl λHe Dy Dz=>AZ4 ?_));refine AG1<|AG6<|⟨_,AS9,((true,Dj,Dr,(w64<|A3 + (w64<|1 * 2 ^ Int.toNat (w64<|(Ao.length:Int) - 1)))):(Bool) × (Int) × LvA × (Int)),?_,rfl,?_⟩
     ·exact AGs<|AUa B8 A4
     ·exact (A5.sb p7 Dz Dy rfl).sel [5,6,7,8,3,10] AGr
   obtain ⟨⟨Hf,D0,D2,D3⟩,D4,rfl,Ah⟩:=Di;refine ⟨trivial,?_⟩;subst D4;refine AGw<|⟨_,rfl,λA6=>?_,λA6=>?_⟩
   ·refine AG5<|q_t<|AGx<|AGt<|AGq<|AGq<|AUu AV5 rfl (Ah.o p1).rd (AVm rfl rfl (Ak8 AV5 rfl (Ah.o p1) rfl Aq λHg D5=>?_));obtain ⟨Hh,D6,D7⟩:=(Ah.o p1).cells D5 Aq;have B9:=Ah.az D6;refine Agm (c:=cZ) AUj rfl (B9.z p0) (λj u hu=>(D7 j u hu)) (AV7 B9 [.bool false,.slice none 0 0] AXy λHj D8 Hk Ca=>AYu Ca p0 (ATi D8) (Ca.z p1) λHl Ac=>AGw<|ATc<|AGq<|Adh (Ac.z p1) (Ac.b p0)<|Adh (Ac.z p1) (Ac.b p0) ?_);obtain ⟨Hm,D9,Ea⟩:=AGu<|ifT B4 A6;refine Ag5 Ac (A0k (Ac.z p1).2 (Ac.z p1).2 D9) λHn Ho Hq A7=>?_;obtain ⟨Eb,Ec⟩:=ifN Ea;refine Afp AV5 AXy rfl rfl trivial tt2 (λ_=>rfl) rfl (A7.z p0) (A7.o p4) AGr Eb λHr Hs Ht Hu Ed Ee Ef=>ATu<|ATr<|q_b<|q_t ?_;exact ⟨(_,_,_,_,_,_),(AGs Ec).symm,(A7.uo p4 Ee Ed Ef).sel [4,5,6,7,8] AGr,rfl,trivial⟩
   ·refine ATk<|ATl<|ATl<|AUi<|q_t<|AGv<|AGt<|AGq<|AUu AV5 rfl (Ah.o p1).rd (AVm rfl rfl (AG1<|AGx ?_));have A8:=Ah.sel [1,2,3,4,5] AGr;dsimp only [AY6,Acl] at A8;refine AYo 73768961896328728576 (λx:(Int) × (Int) × LvA × (Int)=>(x.1,x.2.1,x.2.2.2)) (((w64<|(Ao.length:Int) - 2),D0,D2,D3):(Int) × (Int) × LvA × (Int)) (C9 _ (AGs<|Abh B4 A6).symm) (λx=>[(12,(.int .i64 x.1))]) (λx=>((A8.L.set 3<|aZ x.2.2.1 x.2.1).set 2 (aB 129 Ae x.2.2.1)).set 1 (aB 3 Af [(.int .i64 x.2.2.2)])) A8 ⟨rfl,trivial⟩ ?_;rintro ⟨A9,Eg,Eh,Ba⟩ Hv Ei Hw Aa Bb Ej;unfold Afg at Bb;refine AGv<|AGt<|AGq<|Afb rfl rfl (AGw<|⟨_,rfl,λBc=>?_,λBc=>?_⟩)
    ·refine AG5<|q_t<|AGv<|AGx<|AWg<|AGq<|AGq<|AGq ?_;obtain ⟨Hx,Cb,Ek⟩:=AGu<|AT9 Bb Bc;refine Ak8 AV5 rfl (Aa.o p0) rfl Cb λHy El=>?_;obtain ⟨Cd,Em,En⟩:=(Aa.o p0).cells El Cb;have Be:=Aa.az Em;refine Agm (c:=cZ) AUj rfl (Be.z p0) (λj u hu=>(En j u hu)) (AGq ?_);obtain ⟨Eo,Ep⟩:=ifN Ek;refine AZh rfl rfl Eo ?_;obtain ⟨Er,Es,Et⟩:=AGu Ep;refine Ari (l:=[(.agg (Cd).toArray),(.int .i64<|w64<|1 * 2 ^ Int.toNat A9)]) (cl:=[(.pointer<|some ⟨Ae,0,none⟩),(.pointer<|some ⟨Af,0,none⟩)]) (K':=(λxr h'=> ∃ x:(Bool) × (Int) × LvA × (Int),(x.1,x.2.1,x.2.2.2)=Er/\xr=(.bool x.1)/\Kst h h' (((Be.L.set 4<|aZ x.2.2.1 x.2.1).set 3 (aB 129 Ae x.2.2.1)).set 2 (aB 3 Af [(.int .i64 x.2.2.2)])))) trivial rfl rfl ?_ λHz Ia Eu=>?_
     ·refine cwf (l:=[_,_,_,_]) Tryz.func157 rfl rfl (AGt<|AZa Be Cd λIb Ic Id Ad=>AT7<|Adh (Ad.z p5) (Ad.b p4)<|Adh (Ad.z p1) (Ad.b p0) ?_);obtain ⟨⟨Ev,Ie,If⟩,Ew,Ce⟩:=AGu Es;dsimp only at Ce;refine Aeq rfl (Aqo (Ad.z p5).2 (Ad.z p1).2 Ew) λIh Ii Ey Ez=>?_;obtain ⟨Ij,Ik,rfl,Fa,Fb⟩:=Ez;obtain ⟨Fc,rfl,Fd⟩:=Fa.cs;obtain ⟨Il,rfl,Fe⟩:=Fb.cs;refine AGq<|AUh rfl rfl (AUh rfl rfl (AUh rfl rfl (AV7 (((Ad.e Ey).az Fd).az Fe) [.bool false,.slice none 0 0] AXy λIm Io Ip Ff=>AV7 Ff [.bool false,.slice none 0 0] AXy λIq Fg Ir Cf=>AYu Cf p1 (ATi Fg) (Cf.z p3) λFh Cg=>AYu Cg p0 (ATi Fh) (Cg.z p2) λIs Av=>AG1<|AGv<|AGt<|Adh (Av.z p2) (Av.b p0) ?_)));obtain ⟨It,Fi,Ch⟩:=AGu Ce;refine AYn Av (Arv (Av.z p2).2 Fi) λIu Iv Ai=>AV2 rfl rfl (AGw<|⟨_,rfl,λBf=>?_,λBf=>?_⟩)
      ·refine AGt<|AG1<|AG6<|ATj<|⟨_,AS9,((false,Eg,Eh,Ba):(Bool) × (Int) × LvA × (Int)),?_,rfl,?_⟩
       ·exact AGs<|AT9 Ch Bf
       ·exact Ai.sel [5,6,7,8,9,10] AGr
      ·refine AG5<|q_t<|AGt<|Adh (Ai.z p3) (Ai.b p1)<|AYu Ai p8 (Ai.z p9) (Ai.z p3) λIw Bg=>AZ4<|AT1 AT8 rfl ((Bg.b p7).cell (i:=0) rfl) (AGq<|ATp rfl rfl (Af7 [(.int .i64<|w64<|Ba + (w64<|1 * 2 ^ Int.toNat A9))] AT8 rfl rfl rfl (Bg.b p7) (Nat.le_of_ble_eq_true rfl) rfl λIx Fj Fk=>AZ4 ?_));refine AG1<|AG6<|⟨_,AS9,((true,Ev,Fc,(w64<|Ba + (w64<|1 * 2 ^ Int.toNat A9))):(Bool) × (Int) × LvA × (Int)),?_,rfl,?_⟩
       ·exact AGs<|AUa Ch Bf
       ·exact (Bg.sb p7 Fk Fj rfl).sel [5,6,7,8,3,10] AGr
     obtain ⟨⟨Iy,Iz,I0,I1⟩,Fl,rfl,Fm⟩:=Eu;refine ⟨trivial,?_⟩;subst Fl;refine ATr<|q_b<|q_t<|ATc<|AGq<|AVm rfl rfl (AG1 ?_);exact ⟨(_,_,_,_),(AGs Et).symm,Fm.sel [1,2,3,4,5] AGr,rfl,trivial⟩
    ·refine ATk<|ATl<|ATl<|AUi<|q_t<|AGv<|AWg<|AT1 AT8 rfl ((Aa.b p1).cell (i:=0) rfl) (Adh (Aa.z p3) (Aa.b p2)<|ATu<|AYu Aa p4 (ATi Ei) (Aa.z p3) λI2 Aw=>AG1<|AG6 ?_);obtain rfl:=AGs<|Ej _ (AGs<|AUa Bb Bc).symm;exact ⟨_,Asv AUj (cZ.klen<|Aw.z p3) rfl (Aw.b p4),Aw.x,_,rfl,(Aw.z p3).2⟩
noncomputable def AZo (fuel:Nat) (a3:LiI) (a5:Int):Option Int:=
 (Acp fuel a3).bind λ(x6,x7)=>(Ai3 fuel x6).bind λ(Ae,Ag)=>(Acq fuel Ae a5).bind λ(Ab,Ah,Ai)=>if a5=2 then some (w64<|Ab + 3) else some<|w64<|Ab + 1
theorem Ahl {Ad:Value} {a3:LiI} (H2:AX8 (cI .i64) h Ad a3) (HO:Aoi h) (hp:AZo fuel a3 a5=some r):AT3 Tryz.prog 50 #[Ad,(.int .i64 a5)] h (λx h'=>Ext h h'/\x= .int .i64 r):=by
 unfold AZo at hp;refine cwf (l:=[_,_]) Tryz.func50 rfl rfl (AGt<|AT7<|AGq ?_);have K0:=Kst.k0 h;obtain ⟨⟨x6,x7⟩,Aq,Ah⟩:=AGu hp;dsimp only at Ah;refine Aeq rfl (Anr (H2.ext K0.x) Aq) λBf Bg Ar Au=>?_;obtain ⟨Bh,Bi,Bj,Bl,rfl,Av,Aw⟩:=Au;refine AGq<|AUh rfl rfl (AUh rfl rfl (ATu<|AT7<|AGq ?_));have Ai:=K0.no2 Ar Aw Av;obtain ⟨⟨Bm,Bn⟩,Ax,Aj⟩:=AGu Ah;dsimp only at Aj;refine Aeq rfl (Arf (Ai.o2 p0).rd Ax) λBo Bp Ay Az=>?_;obtain ⟨Bq,rfl,A3⟩:=Az;obtain ⟨Br,rfl,A4⟩:=A3.cs;refine AGq<|AUh rfl rfl (AUh rfl rfl (AV7 ((Ai.e Ay).az A4) [.bool false,.slice none 0 0] AXy λBt A5 Bu Ak=>AYu Ak p0 (ATi A5) (Ak.z p1) λBv Aa=>AT7<|Adh (Aa.z p1) (Aa.b p0)<|AGq ?_));obtain ⟨⟨Bw,Bx,By⟩,A6,Ab⟩:=AGu Aj;dsimp only at Ab;refine Aeq rfl (Ant (Aa.z p1).2 (HO.ext Aa.x) A6) λBz B3 A7 A8=>?_;obtain ⟨B4,rfl,A9⟩:=A8;obtain ⟨B5,rfl,Ba⟩:=A9.cs;refine AGq<|AUh rfl rfl (AUh rfl rfl (AUh rfl rfl (AV7 ((Aa.e A7).az Ba) [.bool false,.slice none 0 0] AXy λB6 Bb B7 Am=>ATu<|AYu Am p0 (ATi Bb) (Am.z p1) λB8 Ao=>AG1<|AGv<|AGt<|AGq<|AWe rfl rfl (AGw<|⟨_,rfl,λAc=>?_,λAc=>?_⟩))))
 ·refine AGt<|AGq<|ATp rfl rfl (AG1<|AG6<|ATj ?_);obtain rfl:=AGs<|AT9 Ab Ac;exact ⟨_,AS9,Ao.x,rfl⟩
 ·refine AG5<|q_t<|AGt<|AGq<|ATp rfl rfl (AG1<|AG6 ?_);obtain rfl:=AGs<|AUa Ab Ac;exact ⟨_,AS9,Ao.x,rfl⟩
noncomputable def AXf (fuel:Nat) (a3:LiI) (a5:Int):Option (Int × Int):=
 (Ali fuel a3).bind λx6=>if (!x6)=true then some (0,6) else if ¬ a5=2 then (As9 fuel a5).bind λAd=>if (!Ad)=true then some (0,20) else (AZo fuel a3 a5).bind λAe=>some (Ae,0) else (AZo fuel a3 a5).bind λAf=>some (Af,0)
theorem Ahm {Ah:Value} {a3:LiI} {r:(Int × Int)} (H2:AX8 (cI .i64) h Ah a3) (HO:Aoi h) (hp:AXf fuel a3 a5=some r):AT3 Tryz.prog 42 #[Ah,(.int .i64 a5)] h (λx h'=>Ext h h'/\x= .tuple #[.int .i64 r.1,.int .i64 r.2]):=by
 unfold AXf at hp;refine cwf (l:=[_,_]) Tryz.func42 rfl rfl (AGt<|ATu<|AG1<|AGv<|AGt<|AGq ?_);have K0:=Kst.k0 h;obtain ⟨x6,Ap,Ak⟩:=AGu hp;refine AYn K0 (As8 (H2.ext K0.x) Ap) λA3 E9 Aa=>AW0 rfl (AGw<|⟨_,rfl,λAf=>?_,λAf=>?_⟩)
 ·refine AGt<|ATu<|AG1<|AG6<|ATj ?_;obtain rfl:=AGs<|ifT Ak Af;exact ⟨_,AU0,Aa.x,rfl⟩
 ·refine AG5<|q_t<|AGv<|AGt<|AGq<|AV2 rfl rfl (AGq ?_);have Am:=Abh Ak Af;by_cases Ab: ¬ a5=2
  ·rw [decide_eq_true Ab];refine ATt 11 true<|AGq<|ATt 11 true ?_;obtain ⟨A5,Aq,Ao⟩:=AGu<|ifT Am Ab;refine AYn Aa (Ayk (HO.ext Aa.x) Aq) λA6 A7 Ac=>ATt 11 true<|AW0 rfl (ATn rfl (AGw<|⟨_,rfl,λAg=>?_,λAg=>?_⟩))
   ·refine AGt<|ATu<|AG1<|AG6<|ATj ?_;obtain rfl:=AGs<|ifT Ao Ag;exact ⟨_,AU0,Ac.x,rfl⟩
   ·refine AG5<|q_t<|AGt<|AGq<|AGq ?_;obtain ⟨A8,Ar,Au⟩:=AGu<|Abh Ao Ag;refine AYn Ac (Ahl (H2.ext Ac.x) (HO.ext Ac.x) Ar) λA9 Ba Av=>ATu<|AG1<|AG6 ?_;obtain rfl:=AGs Au;exact ⟨_,AU0,Av.x,rfl⟩
  ·rw [decide_eq_false Ab];refine Acj 11 false<|ATx rfl (AGw<|ATy rfl (AG5<|q_t<|AGt<|AGq<|AGq ?_));obtain ⟨Bb,Aw,Ax⟩:=AGu<|ifF Am Ab;refine AYn Aa (Ahl (H2.ext Aa.x) (HO.ext Aa.x) Aw) λBc Be Ay=>ATu<|AG1<|AG6 ?_;obtain rfl:=AGs Ax;exact ⟨_,AU0,Ay.x,rfl⟩
def Ae1 (fuel:Nat) (a2 Ab Ac:Int):Option ((Int × Int) ⊕ Int):=
 ((if ¬ Ab=0 then if a2≠0 then if Int.tmod Ab a2=0 then some (.inl ()) else some (.inr ()) else none else some<|.inr ()):Option (Unit ⊕ Unit)).bind (λex=>match ex with | .inl _=>(if a2≠0 then some (.inl (w64<|Int.tdiv Ab a2,w64<|Ac + 1)) else none) | .inr _=>some<|.inr Ac)
def Acz (fuel:Nat) (a1 a2:Int):Option Int:=
 (iter (λs=>Ae1 fuel a2 s.1 s.2) fuel (a1,0)).bind (λ(Ac:Int)=>some Ac)
def Af3 (fuel:Nat) (a3:LiI):Option Int:=
 (AV4 fuel a3).bind λx5=>(AUx fuel x5).bind λAc=>(Avy fuel Ac).bind λ(Ad,Ae)=>some Ad
def Ag9 (fuel:Nat) (a3:LiI) (a5:Int):Option Int:=
 (Af3 fuel a3).bind λx6=>(Acz fuel x6 a5).bind λAb=>if a5=2 then some (w64<|Ab + 3) else some<|w64<|Ab + 1
end Go.Proofs.YtkakafabeobahaaGreatDoor
namespace Go.QF
theorem Av8:∀ {n:Nat} {m:Int} {F G:ATa},(∀ i j,i < n->j < n->Eqm m (F i j) (G i j))->Eqm m (det n F) (det n G):=by
 intro n m
 induction n with
 | zero=>intro _ _ _;rfl
 | succ n ih=>
   intro F G h
   refine Eqm.psum λi hi=>?_
   exact ((Eqm.refl _ _).mul (h i 0 hi AGp)).mul (ih (F:=AW4 i F) (G:=AW4 i G) λa b ha hb=>h _ _ (A6h ha) AGp)
end Go.QF
namespace Go.Proofs.YtkakafabeobahaaGreatDoor
open Go Go.QF
end Go.Proofs.YtkakafabeobahaaGreatDoor
namespace Go.QF
def Aqp (n:Nat) (F:ATa) (i j:Nat):Int:=det n<|AU4 F i<|dl j
def Abp (n:Nat) (F:ATa) (i j:Nat):Int:=Aqp n F j i
def tau (j c:Nat):Nat:=if c=j then j + 1 else if c=j + 1 then j else c
theorem Ata {n:Nat} (hj:j + 1 < n):det n (λr c=>F r<|tau j c)= -det n F:=by
 rw [<- Aec (λr c=>F r<|tau j c),<- Aec F,<- Ajr (F:=trF F) (a:=j) (b:=j + 1) AGp hj AGp];refine AUd λc r hc hr=>?_;rw [Afq];show F r (tau j c)=if c=j + 1 then F r j else if c=j then F r (j + 1) else F r c;unfold tau;by_cases h1:c=j + 1
 ·subst h1;simp
 ·by_cases h2:c=j
  ·subst h2;simp
  ·simp [h1,h2]
theorem Ach {n a:Nat} (ha:a < n) (h:∀ i,i < n->i≠a->f i=0):psum f n=f a:=by
 rw [ATf (g:=λi=>if i=a then f a else 0) λk hk=>?_,Ado ha λi hi=>if_neg hi,if_pos rfl];by_cases e:k=a
 ·subst e;rw [if_pos rfl]
 ·rw [if_neg e,h k hk e]
theorem Aux {n:Nat}:∀ {j:Nat} {F:ATa} {i:Nat},i < n + 1->j < n + 1->Aqp (n + 1) F i j=sg i * sg j * det n (λa b=>F (skp i a)<|skp j b):=by
 intro j
 induction j with
 | zero=>
   intro F i hi hj
   unfold Aqp
   simp only [det]
   rw [Ach hi λr hrn hr=>?_]
   ·rw [AT6,if_pos rfl,Amw]
    have:det n (AW4 i F)=det n (λa b=>F (skp i a)<|skp 0 b):=AUd λa b _ _=>by unfold AW4 skp;simp
    rw [this]
    simp [dl,sg]
   ·have:det n (AW4 r<|AU4 F i<|dl 0)=0:=by
     rw [Amj λh=>hr h.symm]
     refine Ag8 (r:=usk r i) (A6i (λh=>hr h.symm) hrn hi) λq _=>?_
     rw [AT6,if_pos rfl];simp [dl]
    rw [this];simp
 | succ j ih=>
   intro F i hi hj
   have h1:=ih (F:=λr c=>F r<|tau j c) (i:=i) hi AGp
   have h2:Aqp (n + 1) (λr c=>F r<|tau j c) i j= -Aqp (n + 1) F i (j + 1):=by
    unfold Aqp
    rw [<- Ata (F:=AU4 F i<|dl<|j + 1) AGp]
    refine AUd λr c _ _=>?_
    rw [AT6,AT6]
    split
    ·unfold dl tau
     by_cases h1:c=j
     ·subst h1;simp
     ·by_cases h2:c=j + 1
      ·subst h2;simp
      ·rw [if_neg λh=>h1 h.symm,if_neg h1,if_neg h2,if_neg λh=>h2 h.symm]
    ·rfl
   have h3:(λa b=>F (skp i a)<|tau j<|skp j b)=λa b=>F (skp i a) (skp (j + 1) b):=by
    funext a b
    congr 1
    unfold tau skp
    by_cases h1:b < j
    ·rw [if_pos h1,if_neg AGp,if_neg AGp,if_pos AGp]
    ·rw [if_neg h1]
     by_cases h2:b=j
     ·subst h2;rw [if_neg AGp,if_pos rfl,if_pos AGp]
     ·rw [if_neg AGp,if_neg AGp,if_neg AGp]
   rw [h2,h3] at h1
   rw [A1v]
   have:Aqp (n + 1) F i (j + 1)= -(sg i * sg j * det n λa b=>F (skp i a)<|skp (j + 1) b):=by omega
   rw [this];grind
theorem BC3 {n:Nat} (hi:i < n) (hj:j < n):Aqp n (trF F) i j=Aqp n F j i:=by
 obtain ⟨k,rfl⟩:∃ k,n=k + 1:=⟨n - 1,AGp⟩;rw [Aux hi hj,Aux hj hi,<- Aec (λa b=>F (skp j a)<|skp i b),Int.mul_comm<|sg i];rfl
theorem A14 {n:Nat} (hi:i < n) (hj:j < n):psum (λk=>F i k * Aqp n F j k) n=if i=j then det n F else 0:=by
 have h:=As0 (F:=F) hj (F i) dl n
 have e:det n (AU4 F j λq=>psum (λk=>F i k * dl k q) n)=det n (AU4 F j<|F i):=AUd λr c _ hc=>by
  rw [AT6,AT6]
  split
  ·exact A0f (F:=F) (i:=i) hc
  ·rfl
 unfold Aqp;rw [<- h,e];split
 ·subst_vars
  refine AUd λr c _ _=>?_;rw [AT6];split
  ·subst_vars;rfl
  ·rfl
 ·rename_i hij;refine Agq hi hj hij ?_;funext c;rw [AT6,if_neg hij,AT6,if_pos rfl]
theorem BAf {n:Nat} (hi:i < n) (hj:j < n):psum (λk=>Aqp n F k i * F k j) n=if i=j then det n F else 0:=by
 have h:=A14 (F:=trF F) hj hi;rw [Aec] at h;rw [ATf (g:=λk=>trF F j k * Aqp n (trF F) i k) (λk hk=>by rw [BC3 hi hk,Int.mul_comm];rfl),h];by_cases e:i=j
 ·rw [if_pos e,if_pos e.symm]
 ·rw [if_neg e,if_neg λh=>e h.symm]
theorem Alj {n:Nat} (hi:i < n) (hj:j < n):psum (λk=>F i k * Abp n F k j) n=det n F * dl i j:=by
 unfold Abp;rw [A14 hi hj];unfold dl;split <;> simp
theorem Ayl {n:Nat} (hi:i < n) (hj:j < n):psum (λk=>Abp n F i k * F k j) n=det n F * dl i j:=by
 unfold Abp;rw [BAf hi hj];unfold dl;split <;> simp
end Go.QF
namespace Go.Proofs.YtkakafabeobahaaGreatDoor
open Go Go.QF
theorem Aym {n r c:Nat} {f g:Nat->Nat} (hr:r<=100) (hc:c<=100) (hf:100 < fuel) (hfn:∀ a,a < r->f a < n) (hgn:∀ a,a < c->g a < n):AXk fuel (tab n n F) (AV0 r λa=>(f a:Int)) (AV0 c λa=>(g a:Int))=some (tab r c λa b=>F (f a)<|g b):=by
 apply ok_eq;unfold AXk;refine AG4 (AUk (λi s=>s=(AV0 i λa=>AV0 c λb=>F (f a)<|g b,(i:Int))) r (Q:=(· =tab r c λa b=>F (f a)<|g b)) rfl AGp λi s hi hI=>?_) λy hy=>AGy hy;subst hI;unfold Ab9;dsimp only;rw [AUv];refine AT2 (λh=>?_) λh=>AGy ?_
 ·have hi':i < r:=by omega
  refine AT0 (AT4 hi') rfl (AG4 (AUk (λj s=>s=(AV0 j λb=>F (f i)<|g b,(j:Int))) c (Q:=(· =AV0 c λb=>F (f i)<|g b)) rfl AGp λj s hj hJ=>?_) λe he=>AVb (by rw [AUv];omega)<|AGy ⟨hi',?_⟩)
  ·subst hJ;unfold Ab8;dsimp only;rw [AUv,AUv];refine AT2 (λh2=>?_) λh2=>AGy ?_
   ·have hj':j < c:=by omega
    refine AT0 (AT4 hj') rfl (AT0 (AUl<|hfn i hi') rfl (AT0 (AT4<|hgn j hj') rfl (AVb AGp<|AGy ⟨hj',?_⟩)));rw [wk AGp,<- Ahs];rfl
   ·obtain rfl:j=c:=by omega
    rfl
  ·subst he;rw [wk AGp,<- Ahs];rfl
 ·obtain rfl:i=r:=by omega
  rfl
theorem Auy {n:Nat} (hn:1<=n) (Ad:n<=16) (hf:100 < fuel):AXj fuel (tab n n F)=some ((n:Int),true):=by
 apply ok_eq;unfold AXj;refine AG4 (Q:=(· =((n:Int),(n:Int),true))) ?_ λe he=>?_
 ·unfold AVx;rw [AUe];refine AG4 (Q:=λex=>match ex with | .inl _=>False | .inr _=>True) (AT2 (λh=>by omega) λh=>AT2 (λh2=>by omega) λh2=>AGy trivial) λex hex=>?_
  cases ex with
  | inl e=>exact hex.elim
  | inr u=>
    dsimp only
    refine AG4 (AUk (λi (s:Int)=>s=i) n (Q:=λex=>match ex with | .inl _=>False | .inr _=>True) rfl AGp λi s hi hI=>?_) λex hex=>?_
    ·subst hI
     unfold AZq
     rw [AUe]
     refine AT2 (λh=>AT0 (AUl AGp) rfl ?_) λh=>AGy trivial
     rw [AUv]
     refine AT2 (λh2=>by omega) λh2=>AT2 (λh3=>by omega) λh3=>AT0 (n:=0) (AUl AGp) rfl (AT2 (λh4=>?_) λh4=>AGy ⟨AGp,wk AGp⟩)
     rw [AUv] at h4;omega
    ·cases ex with
     | inl e=>exact hex.elim
     | inr u=>exact AT0 (n:=0) (AUl AGp) rfl (AGy<|by rw [AUv])
 ·subst he;dsimp only;exact AT2 (λh=>by cases h) λ_=>AT2 (λh=>absurd rfl h) λ_=>AGy rfl
end Go.Proofs.YtkakafabeobahaaGreatDoor
namespace Go.QF
def Ac4 (n:Nat) (A:ATa):Prop:= ∀ i j,i < n->j < n->A i j=A j i
def Afi (n:Nat) (A:ATa):Prop:= ∀ k,k<=n->0 < det k A
theorem Aha {r n:Nat} (hk:k<=n) (hi:i < n):bro k i r < n:=by unfold bro;split <;> omega
theorem A0m {n:Nat} (hs:Ac4 n A) (hk:k<=n) (hi:i < n) (hj:j < n):Mn k A i j=Mn k A j i:=by
 unfold Mn;rw [<- Aec];refine AUd λr c _ _=>?_;exact hs _ _ (Aha hk hi)<|Aha hk hj
theorem A0n (A:ATa) (j:Nat) (hi:i < k):Mn k A i j=0:=by
 unfold Mn;refine Agq (a:=i) (b:=k) AGp AGp AGp ?_;funext c;unfold bro;simp [hi]
def bil (n k:Nat) (A:ATa) (x y:Nat->Int):Int:=psum (λi=>psum (λj=>Mn k A i j * x i * y j) n) n
def lin (n k:Nat) (A:ATa) (x:Nat->Int):Int:=psum (λj=>Mn k A k j * x j) n
theorem A32 (f g:Nat->Int) (n:Nat):psum (λi=>psum (λj=>f i * g j) n) n=psum f n * psum g n:=by
 rw [ATf (g:=λi=>psum g n * f i) (λi _=>by rw [AWb,Int.mul_comm]),AWb,Int.mul_comm]
theorem BFw {n:Nat} (hs:Ac4 n A) (hk:k < n) (h0:det k A≠0) (x y:Nat->Int):det (k + 1) A * bil n k A x y=lin n k A x * lin n k A y + det k A * bil n (k + 1) A x y:=by
 unfold bil;rw [<- AWb,<- AWb];have e1:lin n k A x * lin n k A y=psum (λi=>psum (λj=>Mn k A k i * x i * (Mn k A k j * y j)) n) n:=(A32 (λi=>Mn k A k i * x i) (λj=>Mn k A k j * y j) n).symm;rw [e1,<- Acn];refine ATf λi hi=>?_;rw [<- AWb,<- AWb,<- Acn];refine ATf λj hj=>?_;have h:=An9 (k:=k) (A:=A) h0 i j;rw [Abw,A0m hs AGp hi hk] at h;grind
theorem BAg (n:Nat) (A:ATa) (x y:Nat->Int):bil n n A x y=0:=by
 unfold bil;rw [ATf (g:=λ_=>0) λi hi=>?_]
 ·exact AW7 n
 ·rw [ATf (g:=λ_=>0) λj _=>by rw [A0n A j hi];simp];exact AW7 n
theorem Ahw {n:Nat} (hs:Ac4 n A) (hp:Afi n A) (x:Nat->Int):∀ d k,k + d=n->0<=bil n k A x x:=by
 intro d
 induction d with
 | zero=>
    intro k hk;obtain rfl:k=n:=by omega
    rw [BAg];omega
 | succ d ih=>
   intro k hk
   have h1:=ih (k + 1) AGp
   have h2:=hp k AGp
   have h3:=hp (k + 1) AGp
   have h4:=BFw hs (show k < n by omega) AGp x x
   have h5:0<=lin n k A x * lin n k A x:=by
    rcases Int.le_total 0 (lin n k A x) with h | h
    ·exact Int.mul_nonneg h h
    ·exact Int.mul_nonneg_of_nonpos_of_nonpos h h
   have h6:=Int.mul_nonneg (Int.le_of_lt h2) h1
   exact Int.nonneg_of_mul_nonneg_right AGp h3
theorem Av9 {n:Nat} (a b:Int) (x y z:Nat->Int):bil n k A (λi=>a * x i + b * y i) z=a * bil n k A x z + b * bil n k A y z:=by
 unfold bil;rw [<- AWb,<- AWb,<- Acn];refine ATf λi _=>?_;rw [<- AWb,<- AWb,<- Acn];grind
theorem Awa {n:Nat} (hs:Ac4 n A) (hk:k<=n) (x y:Nat->Int):bil n k A x y=bil n k A y x:=by
 unfold bil;rw [Ai8];refine ATf λj hj=>ATf λi hi=>?_;rw [A0m hs hk hi hj];grind
theorem A63 {n:Nat} (hs:Ac4 n A) (hp:Afi n A) (hk:k<=n) (x y:Nat->Int):bil n k A x y * bil n k A x y<=bil n k A x x * bil n k A y y:=by
 obtain ⟨p,hpq⟩:∃ p,bil n k A x y=p:=⟨_,rfl⟩;obtain ⟨q,hq⟩:∃ q,bil n k A x x=q:=⟨_,rfl⟩;obtain ⟨r,hr⟩:∃ r,bil n k A y y=r:=⟨_,rfl⟩;have hyx:bil n k A y x=p:=by rw [Awa hs hk];exact hpq
 have key:∀ a b:Int,0<=a * (a * q + b * p) + b * (a * p + b * r):=λa b=>by
  have h:=Ahw hs hp (λi=>a * x i + b * y i) (n - k) k AGp;rw [Av9,Awa hs hk x λi=>a * x i + b * y i,Av9,Awa hs hk y λi=>a * x i + b * y i,Av9,hpq,hq,hr,hyx] at h;exact h
 rw [hpq,hq,hr];have hq0:0<=q:=hq ▸ Ahw hs hp x (n - k) k AGp
 rcases Int.lt_or_eq_of_le hq0 with h | h
 ·have h1:=key p<|-q;have e:p * (p * q + -q * p) + -q * (p * p + -q * r)=q * (q * r - p * p):=by grind
  rw [e] at h1;have:=Int.nonneg_of_mul_nonneg_right h1 h;omega
 ·subst h;have h1:=key (-(r + 1)) p;have h2:=key 1 0;have e: -(r + 1) * (-(r + 1) * 0 + p * p) + p * (-(r + 1) * p + p * r)= -((r + 2) * (p * p)):=by grind
  rw [e] at h1;have hr0:0<=r:=hr ▸ Ahw hs hp y (n - k) k AGp
  have hpp:0<=p * p:=by
   rcases Int.le_total 0 p with h | h
   ·exact Int.mul_nonneg h h
   ·exact Int.mul_nonneg_of_nonpos_of_nonpos h h
  have:0<=r * (p * p):=Int.mul_nonneg hr0 hpp;grind
theorem Apv {n:Nat} (hi:i < n) (hj:j < n):bil n k A (dl i) (dl j)=Mn k A i j:=by
 unfold bil;rw [Ach hi λa ha hne=>?_,Ach hj λb hb hne=>?_]
 ·simp [dl]
 ·unfold dl;grind
 ·rw [ATf (g:=λ_=>0) λb _=>by unfold dl;grind];exact AW7 n
theorem Aqq {n:Nat} (hs:Ac4 n A) (hp:Afi n A) (hk:k<=n) (hi:i < n) (hj:j < n):Mn k A i j * Mn k A i j<=Mn k A i i * Mn k A j j:=by
 have:=A63 hs hp hk (dl i)<|dl j;rwa [Apv hi hj,Apv hi hi,Apv hj hj] at this
theorem Aqr {n:Nat} (hs:Ac4 n A) (hp:Afi n A) (hk:k<=n) (hi:i < n):0<=Mn k A i i:=by
 have:=Ahw hs hp (dl i) (n - k) k AGp;rwa [Apv hi hi] at this
theorem Awb {n:Nat} (hs:Ac4 n A) (hp:Afi n A) (hk:k < n) (hi:i < n):det (k + 1) A * Mn k A i i=Mn k A i k * Mn k A i k + det k A * Mn (k + 1) A i i:=by
 have h:=An9 (k:=k) (A:=A) (by have:=hp k AGp;omega) i i;rw [Abw,<- A0m hs AGp hi hk] at h;omega
theorem A64 {n:Nat} (hs:Ac4 n A) (hp:Afi n A) (hi:i < n):∀ k,k<=n->Mn k A i i<=det k A * A i i:=by
 intro k
 induction k with
 | zero=>intro _;rw [Aez];simp [det]
 | succ k ih=>
   intro hk
   have h1:=ih AGp
   have h2:=Awb hs hp (show k < n by omega) hi
   have h3:0<=Mn k A i k * Mn k A i k:=by
    rcases Int.le_total 0 (Mn k A i k) with h | h
    ·exact Int.mul_nonneg h h
    ·exact Int.mul_nonneg_of_nonpos_of_nonpos h h
   have h4:=hp k AGp
   have h5:=hp (k + 1) AGp
   have h6:det (k + 1) A * Mn k A i i<=det (k + 1) A * (det k A * A i i):=Int.mul_le_mul_of_nonneg_left h1 AGp
   have h7:det k A * Mn (k + 1) A i i<=det k A * (det (k + 1) A * A i i):=by
    grind
   simp_all
theorem Ayn {n:Nat} (hs:Ac4 n A) (hp:Afi n A) {B:Int} (hB:1<=B) (hA:∀ i,i < n->A i i<=B):∀ k,k<=n->det k A<=B ^ k:=by
 intro k;induction k with
 | zero=>intro _;simp [det]
 | succ k ih=>
   intro hk;have h1:=ih AGp;have h2:=A64 hs hp (show k < n by omega) k AGp;rw [Abw] at h2;have h3:=hp k AGp;have h4:det k A * A k k<=det k A * B:=Int.mul_le_mul_of_nonneg_left (hA k AGp) AGp;have h5:det k A * B<=B ^ k * B:=Int.mul_le_mul_of_nonneg_right h1 AGp;grind
theorem A15 {n:Nat} (hs:Ac4 n A) (hp:Afi n A) (x:Nat->Int) (hk:k < n):x k * x k<=Abp n A k k * bil n 0 A x x:=by
 have hd:=hp n<|Nat.le_refl _
 have hB:∀ y z:Nat->Int,bil n 0 A y z=psum (λi=>y i * psum (λj=>A i j * z j) n) n:=λy z=>by
  unfold bil;refine ATf λi _=>?_;rw [<- AWb];exact ATf λj _=>by rw [Aez];grind
 have h1:∀ y:Nat->Int,bil n 0 A y (λj=>Abp n A j k)=det n A * y k:=λy=>by
  rw [hB,ATf (g:=λi=>y i * (det n A * dl i k)) λi hi=>by rw [Alj hi hk]];rw [Ach hk (λi _ hne=>by unfold dl;grind)];simp [dl,Int.mul_comm]
 have h2:=A63 hs hp (Nat.zero_le n) x λj=>Abp n A j k;rw [h1 x,h1 λj=>Abp n A j k] at h2;have e1:det n A * x k * (det n A * x k)=det n A * (det n A * (x k * x k)):=by grind
 have e2:bil n 0 A x x * (det n A * Abp n A k k)=det n A * (Abp n A k k * bil n 0 A x x):=by grind
 rw [e1,e2] at h2;have h3:=Int.le_of_mul_le_mul_left h2 hd
 have h4:0<=x k * x k:=by
  rcases Int.le_total 0 (x k) with h | h
  ·exact Int.mul_nonneg h h
  ·exact Int.mul_nonneg_of_nonpos_of_nonpos h h
 have h5:1 * (x k * x k)<=det n A * (x k * x k):=Int.mul_le_mul_of_nonneg_right AGp h4;omega
def Aqs (A:ATa) (i j:Nat) (c:Int):ATa:=AU4 A i λs=>A i s + c * A j s
def A65 (A:ATa) (i j:Nat) (c:Int):ATa:=trF<|Aqs (trF A) i j c
def Apw (A:ATa) (i j:Nat) (c:Int):ATa:=A65 (Aqs A i j c) i j c
def swA (A:ATa) (j:Nat):ATa:=λr s=>A (tau j r)<|tau j s
theorem A67 (l:Nat) (A:ATa) (r s:Nat):Mn l (trF A) s r=Mn l A r s:=by
 unfold Mn;rw [<- Aec];rfl
theorem Ayo {c:Int} (hij:j < i):det k (Aqs A i j c)=det k A:=by
 rcases Nat.lt_or_ge i k with h | h
 ·exact Afd h AGp AGp c
 ·refine AUd λr s hr _=>?_;unfold Aqs;rw [AT6,if_neg AGp]
theorem A68 {c:Int} (hij:j < i):det k (A65 A i j c)=det k A:=by
 unfold A65;rw [Aec,Ayo hij,Aec]
theorem Ah2 {c:Int} (hij:j < i):det k (Apw A i j c)=det k A:=by
 unfold Apw;rw [A68 hij,Ayo hij]
theorem Awc {r:Nat} {c:Int} (hij:j < i) (hr:l<=r):Mn l (Aqs A i j c) r s=Mn l A r s + if l<=i/\r=i then c * Mn l A j s else 0:=by
 rcases Nat.lt_or_ge i l with h | h
 ·rw [if_neg AGp,Int.add_zero];unfold Mn;have e:=Afd (n:=l + 1) (F:=λa b=>A (bro l r a)<|bro l s b) (a:=i) (b:=j) AGp AGp AGp c;rw [<- e];refine AUd λa b ha _=>?_;rw [AT6];unfold Aqs;rw [AT6];have hbi:bro l r i=i:=by unfold bro;rw [if_pos h]
  have hbj:bro l r j=j:=by unfold bro;grind
  by_cases ea:a=i
  ·grind
  ·rw [if_neg ea,if_neg];unfold bro;split <;> omega
 ·by_cases er:r=i
  ·subst er;rw [if_pos ⟨h,rfl⟩];unfold Mn;have e:=Akg (n:=l + 1) (F:=λa b=>A (bro l r a)<|bro l s b) (r:=l) (λb=>A r<|bro l s b) (λb=>A j<|bro l s b) 1 c AGp
   have e1:det (l + 1) (λa b=>Aqs A r j c (bro l r a)<|bro l s b)=det (l + 1) (AU4 (λa b=>A (bro l r a)<|bro l s b) l λq=>1 * A r (bro l s q) + c * A j (bro l s q)):=by
    refine AUd λa b ha _=>?_
    rw [AT6]
    unfold Aqs
    rw [AT6]
    by_cases ea:a=l
    ·subst ea
     rw [show bro a r a=r by unfold bro;grind,if_pos rfl,if_pos rfl,Int.one_mul]
    ·rw [if_neg ea,if_neg]
     unfold bro;grind
   have e2:det (l + 1) (AU4 (λa b=>A (bro l r a)<|bro l s b) l λb=>A r<|bro l s b)=det (l + 1) (λa b=>A (bro l r a)<|bro l s b):=by
    refine AUd λa b ha _=>?_
    rw [AT6]
    by_cases ea:a=l
    ·subst ea;rw [if_pos rfl,show bro a r a=r by unfold bro;grind]
    omega
   have e3:det (l + 1) (AU4 (λa b=>A (bro l r a)<|bro l s b) l λb=>A j<|bro l s b)=det (l + 1) (λa b=>A (bro l j a)<|bro l s b):=by
    refine AUd λa b ha _=>?_
    rw [AT6]
    by_cases ea:a=l
    ·subst ea;rw [if_pos rfl,show bro a j a=j by unfold bro;grind]
    ·rw [if_neg ea,show bro l r a=a by unfold bro;grind,show bro l j a=a by unfold bro;grind]
   grind
  ·rw [if_neg λh=>er h.2,Int.add_zero];unfold Mn;refine AUd λa b ha _=>?_;unfold Aqs;rw [AT6,if_neg];unfold bro;split <;> omega
theorem BAh {r:Nat} {c:Int} (hij:j < i) (hs:l<=s):Mn l (A65 A i j c) r s=Mn l A r s + if l<=i/\s=i then c * Mn l A r j else 0:=by
 unfold A65;rw [A67,Awc hij hs,A67,A67]
theorem A69 {r:Nat} {c:Int} (hij:j < i) (hr:l<=r) (hs:l<=s):Mn l (Apw A i j c) r s=Mn l A r s + (if l<=i/\r=i then c * Mn l A j s else 0) + if l<=i/\s=i then c * (Mn l A r j + if l<=i/\r=i then c * Mn l A j j else 0) else 0:=by
 unfold Apw;rw [BAh hij hs,Awc hij hr,Awc hij hr]
theorem Arx (A:ATa) (i j:Nat) (c:Int) (r s:Nat):Apw A i j c r s=if s=i then (if r=i then A i i + c * A j i else A r i) + c * (if r=i then A i j + c * A j j else A r j) else if r=i then A i s + c * A j s else A r s:=by
 show AU4 (trF<|Aqs A i j c) i (λq=>trF (Aqs A i j c) i q + c * trF (Aqs A i j c) j q) s r=_;rw [AT6];unfold trF Aqs;by_cases h:s=i
 ·rw [if_pos h,if_pos h,AT6,AT6]
 ·rw [if_neg h,if_neg h,AT6]
theorem BAi {n:Nat} {c:Int} (hi:i < n) (hj:j < n) (h:Ac4 n A):Ac4 n (Apw A i j c):=by
 intro r s hr hs;rw [Arx,Arx];by_cases h1:r=i
 ·by_cases h2:s=i
  ·rw [h1,h2]
  ·rw [if_neg h2,if_pos h1,if_pos h1,if_neg h2,if_neg h2,h i s hi hs,h j s hj hs]
 ·by_cases h2:s=i
  ·rw [if_pos h2,if_neg h1,if_neg h1,if_neg h1,if_pos h2,h r i hr hi,h r j hr hj]
  ·rw [if_neg h2,if_neg h1,if_neg h1,if_neg h2,h r s hr hs]
theorem A16 (hk:k≠j + 1):det k (swA A j)=det k A:=by
 rcases Nat.lt_or_ge (j + 1) k with h | h
 ·have e1:det k (swA A j)= -det k (λr s=>A (tau j r) s):=Ata (F:=λr s=>A (tau j r) s) h
  have e2:det k (λr s=>A (tau j r) s)= -det k A:=by
   rw [<- Aec (λr s=>A (tau j r) s),<- Aec A]
   exact Ata (F:=trF A) h
  omega
 ·refine AUd λr s hr hs=>?_;unfold swA tau;grind
theorem Ayp:det (j + 1) (swA A j)=Mn j A (j + 1) (j + 1):=by
 unfold Mn;refine AUd λr s hr hs=>?_
 have e:∀ r,r < j + 1->tau j r=bro j (j + 1) r:=λr hr=>by
  unfold tau bro
  grind
 unfold swA;grind
theorem BC5 {n:Nat} (hj:j + 1 < n) (h:Ac4 n A):Ac4 n (swA A j):=λr s hr hs=>by
 have e:∀ r,r < n->tau j r < n:=λr hr=>by unfold tau;grind
 exact h _ _ (e r hr)<|e s hs
theorem sq_nonneg (x:Int):0<=x * x:=by
 rcases Int.le_total 0 x with h | h
 ·exact Int.mul_nonneg h h
 ·exact Int.mul_nonneg_of_nonpos_of_nonpos h h
theorem Ayq (hy:0<=y) (h:x * x<=y * y): -y<=x/\x<=y:=by
 constructor
 ·rcases Int.lt_or_le x (-y) with h1 | h1
  ·have h2:0 < (-x - y) * (-x + y):=Int.mul_pos AGp AGp;grind
  ·exact h1
 ·rcases Int.lt_or_le y x with h1 | h1
  ·have h2:0 < (x - y) * (x + y):=Int.mul_pos AGp AGp;grind
  ·exact h1
theorem Anu (h1: -y<=x) (h2:x<=y):x * x<=y * y:=by
 have h3:0<=(y - x) * (y + x):=Int.mul_nonneg AGp AGp;grind
def SzF (A:ATa) (i j:Nat):Prop:= -(det (j + 1) A)<=2 * Mn j A i j/\2 * Mn j A i j<=det (j + 1) A
def LvF (A:ATa) (j:Nat):Prop:=3 * (det (j + 1) A * det (j + 1) A)<=4 * (det j A * det (j + 2) A + Mn j A (j + 1) j * Mn j A (j + 1) j)
def A0o (A:ATa) (i:Nat) (K:Int):Prop:= ∀ l,l < i-> -(K * det (l + 1) A)<=Mn l A i l/\Mn l A i l<=K * det (l + 1) A
theorem Auz {n:Nat} {q:Int} (hs:Ac4 n A) (hp:Afi n A) (hi:i < n) (hD:∀ k,k<=n->det k A<=Dm) (p0:0<=p) (q0:0<=q) (hl:∀ l,l < i->q * (Mn l A i l * Mn l A i l)<=p * (det (l + 1) A * det (l + 1) A)):∀ d l:Nat,l + d=i->q * Mn l A i i<=(q + d * p) * (Dm * det l A):=by
 have hD0:1<=Dm:=by
  have:=hD 0 AGp;simpa [det] using this
 have hDl:∀ l k,l<=n->k<=n->det k A<=Dm * det l A:=λl k h1 h2=>by
  have:=hp l h1;have h3:=hD k h2;have h4:Dm * 1<=Dm * det l A:=Int.mul_le_mul_of_nonneg_left AGp AGp;omega
 intro d;induction d with
 | zero=>
   intro l h;obtain rfl:l=i:=by omega
   rw [Abw];have h1:=Int.mul_le_mul_of_nonneg_left (hDl l (l + 1) AGp AGp) q0;simpa using h1
 | succ d ih=>
   intro l h;have h1:=ih (l + 1) AGp;have h2:=Awb hs hp (show l < n by omega) hi;have h3:=hl l AGp;have h4:=hp l AGp;have h5:=hp (l + 1) AGp;have h6:=Int.mul_le_mul_of_nonneg_left h1<|Int.le_of_lt h4
   have h7:det (l + 1) A * (q * Mn l A i i)=q * (Mn l A i l * Mn l A i l) + det l A * (q * Mn (l + 1) A i i):=by
    grind
   have h8:=Int.mul_le_mul_of_nonneg_left (hDl l (l + 1) AGp AGp) p0;have h9:=Int.mul_le_mul_of_nonneg_left h8<|Int.le_of_lt h5;have e2:det (l + 1) A * (p * det (l + 1) A)=p * (det (l + 1) A * det (l + 1) A):=by grind
   have h10:det (l + 1) A * (q * Mn l A i i)<=det (l + 1) A * ((q + ((d + 1:Nat):Int) * p) * (Dm * det l A)):=by
    grind
   exact Int.le_of_mul_le_mul_left h10 h5
theorem Ays {n:Nat} (hn:n<=8) (hs:Ac4 n A) (hp:Afi n A) (hi:i < n) (hD:∀ k,k<=n->det k A<=Dm) (hz:∀ l,l < i->SzF A i l):A i i<=3 * Dm:=by
 have h:=Auz hs hp hi hD (p:=1) (q:=4) AGp AGp (λl hl=>by
  have:=Anu (hz l hl).1 (hz l hl).2
  grind) i 0 AGp
 rw [Aez] at h
 have Aa:1<=Dm:=by
  have:=hD 0 AGp;simpa [det] using this
 have h2:(4 + (i:Int) * 1) * (Dm * det 0 A)<=12 * Dm:=by
  have:(4 + (i:Int) * 1) * Dm<=12 * Dm:=Int.mul_le_mul_of_nonneg_right AGp AGp
  simpa [det] using this
 omega
theorem A33 {n:Nat} (hs:Ac4 n A) (hp:Afi n A) (hi:i < n) (hD:∀ k,k<=n->det k A<=Dm) (hA:A i i<=3 * Dm):A0o A i (2 * Dm):=by
 intro l hl
 have Ad:1<=Dm:=by
  have:=hD 0 AGp;simpa [det] using this
 have h1:=Aqq hs hp (show l<=n by omega) hi (show l < n by omega);rw [Abw] at h1;have h2:=A64 hs hp hi l AGp;have h3:=hp l AGp;have h4:=hp (l + 1) AGp
 have h5:det l A * A i i<=Dm * (3 * Dm):=by
  have a1:=Int.mul_le_mul_of_nonneg_left hA<|Int.le_of_lt h3
  have a2:=Int.mul_le_mul_of_nonneg_right (hD l AGp) (show (0:Int)<=3 * Dm by omega)
  omega
 have h6:Mn l A i i * det (l + 1) A<=Dm * (3 * Dm) * det (l + 1) A:=Int.mul_le_mul_of_nonneg_right AGp AGp;have h7:Dm * (3 * Dm) * (det (l + 1) A * 1)<=Dm * (3 * Dm) * (det (l + 1) A * det (l + 1) A):=Int.mul_le_mul_of_nonneg_left (Int.mul_le_mul_of_nonneg_left AGp AGp)<|Int.mul_nonneg AGp AGp;have h8:0<=Dm * Dm * (det (l + 1) A * det (l + 1) A):=Int.mul_nonneg (sq_nonneg _)<|sq_nonneg _;have h9:2 * Dm * det (l + 1) A * (2 * Dm * det (l + 1) A)=Dm * (3 * Dm) * (det (l + 1) A * det (l + 1) A) + Dm * Dm * (det (l + 1) A * det (l + 1) A):=by grind
 rw [Int.mul_one] at h7;exact Ayq (Int.mul_nonneg AGp AGp) AGp
theorem Ayt {K':Int} (hp:∀ l,l<=i->0 < det l A) (hK:K<=K') (h:A0o A i K):A0o A i K':=λl hl=>by
 have h1:=h l hl
 have h2:=hp (l + 1) AGp
 have h3:=Int.mul_le_mul_of_nonneg_right hK<|Int.le_of_lt h2
 omega
theorem Ayu (hd:0 < d): -d<=2 * (a + -((2 * a + d) / (2 * d)) * d)/\2 * (a + -((2 * a + d) / (2 * d)) * d)<=d:=by
 have h1:=Int.mul_ediv_add_emod (2 * a + d)<|2 * d;have h2:=Int.emod_nonneg (2 * a + d) (show 2 * d≠0 by omega);have h3:=Int.emod_lt_of_pos (2 * a + d) (show 0 < 2 * d by omega);grind
theorem BAj (hd:0 < d) (h1: -(K * d)<=a) (h2:a<=K * d): -K<= -((2 * a + d) / (2 * d))/\ -((2 * a + d) / (2 * d))<=K:=by
 have h:=Ayu (a:=a) hd;generalize -((2 * a + d) / (2 * d))=c at *;constructor
 ·rcases Int.lt_or_le c (-K) with h3 | h3
  ·have h4:(c + K + 1) * d<=0:=by
    have:=Int.mul_nonneg (show 0<= -(c + K + 1) by omega)<|Int.le_of_lt hd
    grind
   grind
  ·exact h3
 ·rcases Int.lt_or_le K c with h3 | h3
  ·have h4:=Int.mul_nonneg (show 0<=c - K - 1 by omega)<|Int.le_of_lt hd;grind
  ·exact h3
theorem A17 {c:Int} (hij:j < i) (hl:l < i):Mn l (Apw A i j c) i l=Mn l A i l + c * Mn l A j l:=by
 rw [A69 hij AGp<|Nat.le_refl _,if_pos ⟨AGp,rfl⟩,if_neg (λh:l<=i/\l=i=>by omega)];omega
theorem Au0 {r:Nat} {c:Int} (hij:j < i) (hr:r < i) (hl:l<=r):Mn l (Apw A i j c) r l=Mn l A r l:=by
 rw [A69 hij hl<|Nat.le_refl _,if_neg (λh:l<=i/\r=i=>by omega),if_neg (λh:l<=i/\l=i=>by omega)];omega
theorem A7a {c:Int} (hij:j < i) (hp:∀ l,l<=i->0 < det l A) (hK:0<=K) (h:A0o A i K) (hz:∀ l,l < j->SzF A j l) (Ab: -K<=c) (Ac:c<=K):A0o (Apw A i j c) i (2 * K):=by
 intro l hl;rw [Ah2 hij,A17 hij hl];have h1:=h l hl;have h2:=hp (l + 1) AGp
 have hm: -(det (l + 1) A)<=Mn l A j l/\Mn l A j l<=det (l + 1) A:=by
  rcases Nat.lt_trichotomy l j with h3 | h3 | h3
  ·have:=hz l h3;unfold SzF at this;omega
  ·subst h3;rw [Abw];omega
  ·rw [A0n A l h3];omega
 have h3: -(K * det (l + 1) A)<=c * Mn l A j l/\c * Mn l A j l<=K * det (l + 1) A:=by
  refine Ayq (Int.mul_nonneg hK<|Int.le_of_lt h2) ?_
  have a1:=Anu Ab Ac
  have a2:=Anu hm.1 hm.2
  have a3:c * c * (Mn l A j l * Mn l A j l)<=K * K * (det (l + 1) A * det (l + 1) A):=Int.mul_le_mul a1 a2 (sq_nonneg _)<|sq_nonneg _
  grind
 grind
theorem A7b {c:Int} (hk:k≠i):Apw A i j c k k=A k k:=by
 rw [Arx,if_neg hk,if_neg hk]
structure Awd (n:Nat) (Dm:Int) (A:ATa) (i t:Nat):Prop where
 sym:Ac4 n A
 pos:Afi n A
 dm:∀ k,k<=n->det k A<=Dm
 hi:i < n
 ht:t<=i
 rows:∀ k,k < n->k≠i->A k k<=3 * Dm
 row:t=0->A i i<=3 * Dm
 lamb:A0o A i (2 ^ t * (2 * Dm))
 pre:∀ r l,l < r->r < i->SzF A r l
 prei:∀ l,l < i->i<=l + t->SzF A i l
 lov:∀ r,r + 1 < i->LvF A r
theorem Atb {n:Nat} (hn:0 < n) (hs:Ac4 n A) (hp:Afi n A) (hD:∀ k,k<=n->det k A<=Dm) (hr:∀ k,k < n->A k k<=3 * Dm):Awd n Dm A 0 0:=
 ⟨hs,hp,hD,hn,Nat.le_refl _,λk hk _=>hr k hk,λ_=>hr 0 hn,λl hl=>by omega,λr l h1 h2=>by omega,λl hl=>by omega,λr hr=>by omega⟩
theorem A7c {n:Nat} (h:Awd n Dm A i t):1<=Dm:=by
 have:=h.dm 0 AGp;simpa [det] using this
theorem Aod {n:Nat} (hn:n<=8) (h:Awd n Dm A i t) (hz:∀ l,l < i->SzF A i l):∀ k,k < n->A k k<=3 * Dm:=λk hk=>by
 by_cases e:k=i
 ·subst e;exact Ays hn h.sym h.pos h.hi h.dm hz
 ·exact h.rows k hk e
theorem Anv (t:Nat):(0:Int) < 2 ^ t:=Int.pow_pos AGp
theorem Aoe (h:s<=t):(2:Int) ^ s<=2 ^ t:=by
 have:=Nat.pow_le_pow_right (show 0 < 2 by omega) h;grind
theorem A34 {n i':Nat} (hn:n<=8) (h:Awd n Dm A i t) (hi':i' < n) (hj:j < i') (hbad: ¬ SzF A i' j)
 (hz:∀ r l,l < r->r < i'->SzF A r l) (hzi:∀ l,l < i'->j < l->SzF A i' l) (hl:∀ r,r + 1 < i'->LvF A r):
 Awd n Dm (Apw A i' j<|-((2 * Mn j A i' j + det (j + 1) A) / (2 * det (j + 1) A))) i' (i' - j)/\i * 16 + t < i' * 16 + (i' - j):=by
 have hD1:=A7c h
 have hlt:i < i'∨i=i'/\t < i' - j:=by
  rcases Nat.lt_trichotomy i i' with h1 | h1 | h1
  ·exact .inl h1
  ·refine .inr ⟨h1,?_⟩
   rcases Nat.lt_or_ge t (i' - j) with h2 | h2
   ·exact h2
   ·subst h1;exact absurd (h.prei j hj AGp) hbad
  ·exact absurd (h.pre i' j hj h1) hbad
 have hrows:∀ k,k < n->k≠i'->A k k<=3 * Dm:=λk hk hne=>by
  rcases hlt with h1 | h1
  ·exact Aod hn h (λl hl=>hz i l hl h1) k hk
  ·exact h.rows k hk AGp
 have hK0:0<=2 ^ (i' - j - 1) * (2 * Dm):=Int.mul_nonneg (Int.le_of_lt<|Anv _) AGp;have hp':∀ l,l<=i'->0 < det l A:=λl hl=>h.pos l AGp
 have hlam:A0o A i' (2 ^ (i' - j - 1) * (2 * Dm)):=by
  rcases hlt with h1 | h1
  ·refine Ayt hp' ?_<|A33 h.sym h.pos hi' h.dm<|Aod hn h (λl hl=>hz i l hl h1) i' hi';have:=Int.mul_le_mul_of_nonneg_right (Aoe<|Nat.zero_le<|i' - j - 1) (show (0:Int)<=2 * Dm by omega);simpa using this
  ·obtain ⟨rfl,h1⟩:=h1;exact Ayt hp' (Int.mul_le_mul_of_nonneg_right (Aoe AGp) AGp) h.lamb
 have hd:=hp' (j + 1) AGp;obtain ⟨c1,c2⟩:=BAj hd (hlam j hj).1 (hlam j hj).2;have hrem:=Ayu (a:=Mn j A i' j) hd;generalize hc: -((2 * Mn j A i' j + det (j + 1) A) / (2 * det (j + 1) A))=c at *
 refine ⟨⟨BAi hi' AGp h.sym,λk hk=>by rw [Ah2 hj];exact h.pos k hk,λk hk=>by rw [Ah2 hj];exact h.dm k hk,hi',AGp,λk hk hne=>by rw [A7b hne];grind,λh0=>by omega,?_,λr l h1 h2=>?_,λl h1 h2=>?_,λr hr=>?_⟩,by have:=h.ht;omega⟩
 ·have:=A7a hj hp' hK0 hlam (λl hl=>hz j l hl hj) c1 c2
  have e:2 * (2 ^ (i' - j - 1) * (2 * Dm))=2 ^ (i' - j) * (2 * Dm):=by
   rw [show i' - j=i' - j - 1 + 1 by omega,Int.pow_succ];grind
  rwa [e] at this
 ·unfold SzF;rw [Ah2 hj,Au0 hj h2 AGp];exact hz r l h1 h2
 ·unfold SzF;rw [Ah2 hj,A17 hj h1]
  rcases Nat.lt_or_ge j l with h3 | h3
  ·rw [A0n A l h3,Int.mul_zero,Int.add_zero];exact hzi l h1 h3
  ·obtain rfl:l=j:=by omega
   rw [Abw];exact hrem
 ·unfold LvF;rw [Ah2 hj,Ah2 hj,Ah2 hj,Au0 hj AGp AGp];exact hl r hr
def Ayv (n:Nat) (A:ATa):Int:=psum (λk=>det k A)<|n + 1
theorem BAk {n:Nat} (hk:k < n) (hne:∀ l,l≠k->f l=g l) (h:f k < g k):psum f n < psum g n:=by
 induction n with
 | zero=>omega
 | succ n ih=>
   simp only [psum]
   rcases Nat.lt_or_ge k n with h1 | h1
   ·grind
   ·obtain rfl:k=n:=by omega
    rw [ATf (g:=g) λi hi=>hne i AGp];omega
theorem A35 {n:Nat} (hn:n<=8) (h:Awd n Dm A i t) (hj:j + 1 < n) (hbad: ¬ LvF A j)
 (hz:∀ r l,l < r->r<=j + 1->SzF A r l) (hl:∀ r,r < j->LvF A r):
 Awd n Dm (swA A j) 0 0/\Ayv n (swA A j) < Ayv n A:=by
 have hij:i<=j + 1:=by
  rcases Nat.lt_or_ge (j + 1) i with h1 | h1
  ·exact absurd (h.lov j h1) hbad
  ·exact h1
 have hrest:=Aod hn h λl hl=>hz i l hl hij;have h1:=Awb h.sym h.pos (show j < n by omega) hj;have p0:=h.pos j AGp;have p1:=h.pos (j + 1) AGp;have p2:=h.pos (j + 2) AGp;rw [show Mn (j + 1) A (j + 1) (j + 1)=det (j + 2) A from Abw _ _] at h1
 have hlt:Mn j A (j + 1) (j + 1) < det (j + 1) A:=by
  unfold LvF at hbad
  have h2:det (j + 1) A * (4 * Mn j A (j + 1) (j + 1)) < det (j + 1) A * (3 * det (j + 1) A):=by
   grind
  have:=Int.lt_of_mul_lt_mul_left h2<|Int.le_of_lt p1;omega
 have hpos:0 < Mn j A (j + 1) (j + 1):=by
  have h3:=sq_nonneg<|Mn j A (j + 1) j;have h4:=Int.mul_pos p0 p2;exact Int.pos_of_mul_pos_right (a:=det (j + 1) A) AGp p1
 have hdet:∀ k,det k (swA A j)=if k=j + 1 then Mn j A (j + 1) (j + 1) else det k A:=λk=>by
  by_cases e:k=j + 1
  ·subst e;rw [if_pos rfl,Ayp]
  ·rw [if_neg e,A16 e]
 refine ⟨Atb AGp (BC5 hj h.sym) (λk hk=>?_) (λk hk=>?_) λk hk=>?_,?_⟩
 ·rw [hdet];split
  ·exact hpos
  ·exact h.pos k hk
 ·rw [hdet];split
  ·have:=h.dm (j + 1) AGp;omega
  ·exact h.dm k hk
 ·have e:tau j k < n:=by unfold tau;grind
  exact hrest _ e
 ·exact BAk (k:=j + 1) AGp (λl hl=>by grind) (by grind)
end Go.QF
namespace Go.Proofs.YtkakafabeobahaaGreatDoor
open Go Go.QF
theorem Awe (k m:Nat):AV0 k (λa=>((a:Nat):Int)) ++ [((m:Nat):Int)]=AV0 (k + 1) λa=>((bro k m a:Nat):Int):=by
 rw [<- Ahs,AUq (g:=λa=>((bro k m a:Nat):Int)) λa ha=>by unfold bro;rw [if_pos ha]];unfold bro;grind
theorem A18 {m:Nat} (hk:k<=100) (hf:100 < fuel):AX1 fuel (k:Int) (m:Int)=some (AV0 (k + 1) λa=>((bro k m a:Nat):Int)):=by
 apply ok_eq;unfold AX1;refine AG4 (AUk (λi s=>s=(AV0 i λa=>((a:Nat):Int),((i:Nat):Int))/\i<=k) k (Q:=(· =AV0 k λa=>((a:Nat):Int))) ⟨rfl,Nat.zero_le _⟩ AGp λi s hi hI=>?_) λe he=>?_
 ·obtain ⟨rfl,hik⟩:=hI;unfold Acy;dsimp only;refine AT2 (λh=>AVb (by rw [AUv];omega)<|AGy ⟨AGp,?_,AGp⟩) λh=>AGy ?_
  ·rw [wk AGp,Ahs i λa=>((a:Nat):Int)];simp
  grind
 ·subst he;refine AVb (by rw [AUv];omega)<|AGy ?_;exact Awe k m
theorem Atc {n:Nat} (hn:n<=8) (hi:i < n) (hj:j < n) (hb:∀ i j,i < n->j < n->(F i j).natAbs<=mN n) (hf:100 < fuel):AWn fuel (tab n n F) (i:Int) (j:Int)=some (Mn j F i j):=by
 apply ok_eq;unfold AWn;refine AG4 (AUk (λq s=>s=(AV0 q λa=>((a:Nat):Int),AV0 q λa=>((a:Nat):Int),((q:Nat):Int))/\q<=j) j (Q:=(· =(AV0 j λa=>((a:Nat):Int),AV0 j λa=>((a:Nat):Int)))) ⟨rfl,Nat.zero_le _⟩ AGp λq s hq hI=>?_) λe he=>?_
 ·obtain ⟨rfl,hqj⟩:=hI;unfold Acd;dsimp only;refine AT2 (λh=>AVb (by rw [AUv];omega)<|AVb (by rw [AUv];omega)<|AGy ⟨AGp,?_,AGp⟩) λh=>AGy ?_
  ·rw [wk AGp,Ahs q λa=>((a:Nat):Int)];simp
  grind
 ·subst he;dsimp only;refine AVb (by rw [AUv];omega)<|AVb (by rw [AUv];omega) ?_;rw [Awe,Awe];refine AG4 (AUn<|Aym (n:=n) AGp AGp hf (λa ha=>Aha AGp hi) λa ha=>Aha AGp hj) λx hx=>?_;subst hx;refine AG4 (AUn<|Apt hn AGp (λa b ha Aa=>hb _ _ (Aha AGp hi)<|Aha AGp hj) AGp) λy hy=>AGy hy
theorem Aof {n:Nat} (hk:k<=n) (hn:n<=8):AVi fuel (AV0 n λa=>det (a + 1) F) (k:Int)=some (det k F):=by
 apply ok_eq;unfold AVi;refine AT2 (λh=>?_) λh=>?_
 ·obtain rfl:k=0:=by omega
  exact ⟨1,rfl,by simp [det]⟩
 ·obtain ⟨q,rfl⟩:∃ q,k=q + 1:=⟨k - 1,AGp⟩;refine AT0 (n:=q) (AT4 AGp) (by rw [wk AGp];omega)<|AGy rfl
theorem Au1 {n:Nat} (Aa:1<=n) (hn:n<=8) (hb:∀ i j,i < n->j < n->(F i j).natAbs<=mN n) (hf:100 < fuel):AW6 fuel (tab n n F)=some (AV0 n λa=>det (a + 1) F,true):=by
 apply ok_eq;unfold AW6;refine AG4 (AUn<|Auy Aa AGp hf) λx hx=>?_;subst hx;dsimp only;refine AT2 (λh=>absurd h AGr) λ_=>AG4 (AUk (λk s=>s=(AV0 k λa=>det (a + 1) F,((k:Nat):Int))/\k<=n) n (Q:=(· =AV0 n λa=>det (a + 1) F)) ⟨rfl,Nat.zero_le _⟩ AGp λk s hk hI=>?_) λe he=>AGy (by rw [he]);obtain ⟨rfl,hkn⟩:=hI;unfold Abo;dsimp only;refine AT2 (λh=>?_) λh=>AGy ?_
 ·have hk':k < n:=by omega
  refine AG4 (AUn<|A18 AGp hf) λr hr=>?_;subst hr;refine AG4 (AUn<|A18 AGp hf) λc hc=>?_;subst hc;refine AG4 (AUn<|Aym (n:=n) AGp AGp hf (λa ha=>Aha AGp hk') λa ha=>Aha AGp hk') λx hx=>?_;subst hx;refine AG4 (AUn<|Apt hn AGp (λa b ha Ab=>hb _ _ (Aha AGp hk')<|Aha AGp hk') AGp) λy hy=>?_;subst hy;refine AVb (by rw [AUv];omega)<|AGy ⟨AGp,?_,AGp⟩;rw [show (det (k + 1) λa b=>F (bro k k a)<|bro k k b)=det (k + 1) F from Abw k F,wk AGp,Ahs k λa=>det (a + 1) F];simp
 grind
theorem Awf (a b:Int):Ala a b<=0↔a<=b:=by unfold Ala;omega
theorem Atd {n:Nat} (hn:n<=8) (hi:i < n) (hl:l < n) (hj:j < n) (hb:∀ i j,i < n->j < n->(F i j).natAbs<=mN n):(Mn j F i l).natAbs<=gN n:=by
 have e:Mn j F i l=Mn j (λa b=>if a < n/\b < n then F a b else 0) i l:=by
  unfold Mn
  refine AUd λa b ha Aa=>?_
  dsimp only
  rw [if_pos ⟨Aha AGp hi,Aha AGp hl⟩]
 rw [e];refine Nat.le_trans (A0i (m:=mN n) (λa b=>?_) i l)<|A6v hn AGp;grind
theorem Anw {n:Nat} (hn:n<=8) (hk:k<=n) (hb:∀ i j,i < n->j < n->(F i j).natAbs<=mN n):(det k F).natAbs<=gN n:=by
 rcases Nat.eq_zero_or_pos k with h | h
 ·subst h;have:=A6u n;simp only [det];omega
 ·obtain ⟨q,rfl⟩:∃ q,k=q + 1:=⟨k - 1,AGp⟩;rw [<- Abw q F];exact Atd hn AGp AGp AGp hb
theorem BAl {n:Nat} (hn:n<=8) (hi:i < n) (hj:j < n) (hb:∀ i j,i < n->j < n->(F i j).natAbs<=mN n) (hf:100 < fuel):AZb fuel (tab n n F) (AV0 n λa=>det (a + 1) F) (i:Int) (j:Int)=some (decide (2 * ((Mn j F i j).natAbs:Int)<=det (j + 1) F)):=by
 apply ok_eq;unfold AZb;refine AG4 (Q:=(· =2)) ⟨2,if_pos AGp,rfl⟩ λtwo h2=>?_;subst h2;refine AG4 (AUn<|Atc hn hi hj hb hf) λx hx=>?_;subst hx;refine AG4 (AUn (a:=((Mn j F i j).natAbs:Int)) rfl) λy hy=>?_;subst hy;refine AG4 (AUn<|Aql (A6w n) (show (2:Int).natAbs<=gN n from Nat.le_trans AGr<|A6u n) (by rw [Int.natAbs_natCast];exact Atd hn hi hj hj hb)) λw hw=>?_;subst hw;rw [wk AGp];refine AG4 (AUn<|Aof (k:=j + 1) AGp hn) λm hm=>?_;subst hm;refine AG4 (AUn (a:=Ala (2 * ((Mn j F i j).natAbs:Int))<|det (j + 1) F) rfl) λc hc=>AGy ?_;subst hc;exact decide_eq_decide.2<|Awf _ _
theorem A19:2 * ((Mn j F i j).natAbs:Int)<=det (j + 1) F↔SzF F i j:=by
 unfold SzF;omega
theorem psum_abs {f g:Nat->Int} {D:Nat}:∀ (n:Nat),(∀ a,a < n->(f a).natAbs<=D/\(g a).natAbs<=D)->(psum (λa=>f a * g a) n).natAbs<=n * (D * D)
 | 0,_=>by simp [psum]
 | n + 1,h=>by
   have h1:=psum_abs n λa ha=>h a AGp
   have h2:=Nat.mul_le_mul (h n AGp).1 (h n AGp).2
   rw [<- Int.natAbs_mul] at h2
   have e:(n + 1) * (D * D)=n * (D * D) + D * D:=by grind
   simp only [psum]
   omega
theorem BE9 {n:Nat} (hn:n<=16) (hD:16 * (D * D) < AXw) (hb:∀ a,a < n->(f a).natAbs<=D/\(g a).natAbs<=D) (hf:100 < fuel):Aak fuel (AV0 n f) (AV0 n g)=some (psum (λa=>f a * g a) n):=by
 apply ok_eq;unfold Aak;refine AG4 (AUk (λk s=>s=(((k:Nat):Int),psum (λa=>f a * g a) k)/\k<=n) n (Q:=(· =psum (λa=>f a * g a) n)) ⟨rfl,Nat.zero_le _⟩ AGp λk s hk hI=>?_) λe he=>AGy he;obtain ⟨rfl,hkn⟩:=hI;unfold Ad8;dsimp only;rw [AUv];refine AT2 (λh=>?_) λh=>AGy ?_
 ·have hk':k < n:=by omega
  have h1:=psum_abs k λa ha=>hb a AGp;have h2:=Nat.mul_le_mul (hb k hk').1 (hb k hk').2;have h3:k * (D * D)<=16 * (D * D):=Nat.mul_le_mul_right _ AGp;have h4:1 * (D * D)<=16 * (D * D):=Nat.mul_le_mul_right _ AGp;refine AT0 (AT4 hk') rfl (AT0 (AT4 hk') rfl (AG4 (Q:=(· =f k * g k)) ⟨_,if_pos AGp,rfl⟩ λx hx=>?_));subst hx;refine AG4 (Q:=(· =psum (λa=>f a * g a) k + f k * g k)) ⟨_,if_pos ⟨AGp,by rw [Int.natAbs_mul];omega⟩,rfl⟩ λy hy=>AGy ⟨AGp,?_,AGp⟩;subst hy;rw [wk AGp];simp [psum]
 grind
theorem Ate {n:Nat} (hn:1<=n) (Ad:n<=16) (hf:100 < fuel):AVx fuel (tab n n F)=some ((n:Int),(n:Int),true):=by
 apply ok_eq;unfold AVx;rw [AUe];refine AG4 (Q:=λex=>match ex with | .inl _=>False | .inr _=>True) (AT2 (λh=>by omega) λh=>AT2 (λh2=>by omega) λh2=>AGy trivial) λex hex=>?_
 cases ex with
 | inl e=>exact hex.elim
 | inr u=>
   dsimp only
   refine AG4 (AUk (λi (s:Int)=>s=i) n (Q:=λex=>match ex with | .inl _=>False | .inr _=>True) rfl AGp λi s hi hI=>?_) λex hex=>?_
   ·subst hI
    unfold AZq
    rw [AUe]
    refine AT2 (λh=>AT0 (AUl AGp) rfl ?_) λh=>AGy trivial
    rw [AUv]
    refine AT2 (λh2=>by omega) λh2=>AT2 (λh3=>by omega) λh3=>AT0 (n:=0) (AUl AGp) rfl (AT2 (λh4=>?_) λh4=>AGy ⟨AGp,wk AGp⟩)
    rw [AUv] at h4;omega
   ·cases ex with
    | inl e=>exact hex.elim
    | inr u=>exact AT0 (n:=0) (AUl AGp) rfl (AGy<|by rw [AUv])
theorem Adb {r c:Nat} {G:ATa} (h:∀ i j,i < r->j < c->F i j=G i j):tab r c F=tab r c G:=by
 rw [Aib,Aib];exact AUq λi hi=>AUq λj hj=>h i j hi hj
def trS (F:ATa) (i j r c:Nat):Int:=if c < i∨c=i/\r < j then F c r else 0
theorem A2a {n:Nat} (hn:1<=n) (Aa:n<=16) (hf:100 < fuel):AWj fuel (tab n n F)=some (tab n n<|trF F,true):=by
 apply ok_eq;unfold AWj;refine AG4 (AUn<|Ate hn Aa hf) λx hx=>?_;subst hx;dsimp only;refine AT2 (λh=>absurd h AGr) λ_=>AG4 (AUn<|Ars AGp AGp AGp) λO hO=>?_;subst hO;refine AG4 (AUk (λi s=>s=(((i:Nat):Int),tab n n<|trS F i 0)/\i<=n) n (Q:=(· =tab n n (trF F))) ⟨?_,Nat.zero_le _⟩ AGp λi s hi hI=>?_) λe he=>AGy (by rw [he])
 ·rw [AYx n (0:Int),AYx];refine congrArg (Prod.mk (0:Int)) ?_;rw [Aib];exact AUq λr _=>AUq λc _=>by unfold trS;omega
 ·obtain ⟨rfl,hin⟩:=hI;unfold Aac;dsimp only;rw [AUe];refine AT2 (λh=>?_) λh=>AGy ?_
  ·have hi':i < n:=by omega
   refine AT0 (AUl hi') rfl (AG4 (AUk (λj s=>s=(((j:Nat):Int),tab n n<|trS F i j)/\j<=n) n (Q:=(· =tab n n (trS F (i + 1) 0))) ⟨rfl,Nat.zero_le _⟩ AGp λj s hj hJ=>?_) λe he=>AGy ⟨AGp,by rw [wk AGp,he];simp,AGp⟩);obtain ⟨rfl,hjn⟩:=hJ;unfold Aab;dsimp only;rw [AUv];refine AT2 (λh2=>?_) λh2=>AGy ?_
   ·have hj':j < n:=by omega
    refine AT0 (AUl hj') rfl (AT0 (AUl hi') rfl (AT0 (AT4 hj') rfl (AG4 (AUn (a:=F i j) rfl) λy hy=>AT0 (AT4 hi') rfl (AGy ⟨AGp,?_,AGp⟩))));subst hy;rw [wk AGp,As1];refine Prod.ext AGp<|Adb λr c hr hc=>?_;rw [AT6];unfold trS;grind
   ·refine Adb λr c hr hc=>?_;unfold trS;omega
  ·refine Adb λr c hr hc=>?_;unfold trS trF;omega
def muS (H:ATa) (i j r c:Nat):Int:=if r < i∨r=i/\c < j then H r c else 0
theorem A7d {n:Nat} {G:ATa} (hn:1<=n) (Aa:n<=16) (hD:16 * (D * D) < AXw) (hF:∀ i j,i < n->j < n->(F i j).natAbs<=D) (hG:∀ i j,i < n->j < n->(G i j).natAbs<=D) (hf:100 < fuel):Aal fuel (tab n n F) (tab n n G)=some (tab n n<|AUg n F G,true):=by
 apply ok_eq;unfold Aal;refine AG4 (AUn<|Ate hn Aa hf) λx hx=>?_;subst hx;dsimp only;refine AG4 (AUn<|A2a hn Aa hf) λx hx=>?_;subst hx;dsimp only;rw [AUe,AUe];refine AG4 (Q:=λex=>match ex with | .inl _=>False | .inr _=>True) (AT2 (λh=>absurd h AGr) λ_=>AT2 (λh=>absurd h AGr) λ_=>AT2 (λh=>absurd rfl h) λ_=>AGy trivial) λex hex=>?_
 cases ex with
 | inl e=>exact hex.elim
 | inr u=>
   dsimp only
   rw [AUe]
   refine AG4 (AUn<|Ars AGp AGp AGp) λO hO=>?_
   subst hO
   refine AG4 (AUk (λi s=>s=(((i:Nat):Int),tab n n<|muS (AUg n F G) i 0)/\i<=n) n (Q:=(· =tab n n (AUg n F G))) ⟨?_,Nat.zero_le _⟩ AGp λi s hi hI=>?_) λe he=>AGy (by rw [he])
   ·rw [AYx n (0:Int),AYx]
    refine congrArg (Prod.mk (0:Int)) ?_
    rw [Aib]
    exact AUq λr _=>AUq λc _=>by unfold muS;omega
   ·obtain ⟨rfl,hin⟩:=hI
    unfold Aea
    dsimp only
    rw [AUe]
    refine AT2 (λh=>?_) λh=>AGy ?_
    ·have hi':i < n:=by omega
     refine AG4 (AUk (λj s=>s=(((j:Nat):Int),tab n n<|muS (AUg n F G) i j)/\j<=n) n (Q:=(· =tab n n (muS (AUg n F G) (i + 1) 0))) ⟨rfl,Nat.zero_le _⟩ AGp λj s hj hJ=>?_) λe he=>AGy ⟨AGp,by rw [wk AGp,he];simp,AGp⟩
     obtain ⟨rfl,hjn⟩:=hJ
     unfold Ad9
     dsimp only
     rw [AUe]
     refine AT2 (λh2=>?_) λh2=>AGy ?_
     ·have hj':j < n:=by omega
      refine AT0 (AUl hi') rfl (AT0 (AUl hi') rfl (AT0 (AUl hj') rfl (AG4 (AUn<|BE9 (D:=D) Aa hD (λa ha=>⟨hF i a hi' ha,hG a j ha hj'⟩) hf) λy hy=>AT0 (AT4 hj') rfl (AGy ⟨AGp,?_,AGp⟩))))
      subst hy
      rw [wk AGp,As1]
      refine Prod.ext AGp<|Adb λr c hr hc=>?_
      rw [AT6]
      unfold muS
      by_cases h3:r=i
      ·rw [if_pos h3]
       by_cases h4:c=j
       ·rw [if_pos h4,if_pos AGp,h3,h4];rfl
       ·rw [if_neg h4]
        by_cases h5:c < j
        ·grind
        omega
      omega
     ·refine Adb λr c hr hc=>?_
      unfold muS
      omega
    ·refine Adb λr c hr hc=>?_
     unfold muS
     omega
theorem A2b (a b:Int):Ala a b=0↔a=b:=by unfold Ala;omega
theorem BBr {n:Nat} (Ae:n<=16) (hf:100 < fuel):Ok (AWk fuel<|tab n n F) λr=>r=true↔Ac4 n F:=by
 unfold AWk;refine AG4 (AUk (λi s=>s=((i:Nat):Int)/\i<=n/\ ∀ a b,b < a->a < i->F a b=F b a) n (Q:=λex=>match ex with | .inl e=>e=false/\¬ Ac4 n F | .inr _=>Ac4 n F) ⟨rfl,Nat.zero_le _,λa b h1 h2=>by omega⟩ AGp λi s hi hI=>?_) λex hex=>?_
 ·obtain ⟨rfl,hin,hs⟩:=hI;unfold Aae;rw [AUe];refine AT2 (λh=>?_) λh=>AGy ?_
  ·have hi':i < n:=by omega
   refine AG4 (AUk (λj s=>s=((j:Nat):Int)/\j<=i/\ ∀ b,b < j->F i b=F b i) i (Q:=λex=>match ex with | .inl e=>e=false/\¬ Ac4 n F | .inr _=> ∀ b,b < i->F i b=F b i) ⟨rfl,Nat.zero_le _,λb h1=>by omega⟩ AGp λj s hj hJ=>?_) λex hex=>?_
   ·obtain ⟨rfl,hji,hb⟩:=hJ;unfold Aad;refine AT2 (λh2=>?_) λh2=>AGy ?_
    ·have hj':j < i:=by omega
     refine AT0 (AUl hi') rfl (AT0 (AT4 AGp) rfl (AT0 (AUl AGp) rfl (AT0 (AT4 hi') rfl (AG4 (AUn (a:=Ala (F i j)<|F j i) rfl) λc hc=>?_))));subst hc;refine AT2 (λh3=>AGy ⟨rfl,λh4=>h3<|(A2b _ _).2 (h4 i j hi' AGp)⟩) λh3=>AGy ⟨AGp,by rw [wk AGp];simp,AGp,λb Af=>?_⟩;rcases Nat.lt_or_ge b j with h4 | h4
     ·exact hb b h4
     ·obtain rfl:b=j:=by omega
      exact (A2b _ _).1 (Classical.not_not.1 h3)
    grind
   ·cases ex with
    | inl e=>exact AGy hex
    | inr u=>exact AGy ⟨AGp,by rw [wk AGp];simp,AGp,λa b h1 h2=>by
       grind⟩
  ·obtain rfl:i=n:=by omega
   intro a b ha hb;grind
 ·cases ex with
  | inl e=>obtain ⟨rfl,h⟩:=hex;exact AGy ⟨λh1=>Bool.noConfusion h1,λh1=>absurd h1 h⟩
  | inr u=>exact AGy ⟨λ_=>hex,λ_=>rfl⟩
theorem A2c {n:Nat} {G:ATa} (hn:1<=n) (Aa:n<=16) (hD:16 * (D * D) < AXw) (hF:∀ i j,i < n->j < n->(F i j).natAbs<=D) (hG:∀ i j,i < n->j < n->(G i j).natAbs<=D) (hH:∀ i j,i < n->j < n->(AUg n (trF G) F i j).natAbs<=D) (hf:100 < fuel):AVz fuel (tab n n F) (tab n n G)=some (tab n n<|AUg n (AUg n (trF G) F) G):=by
 apply ok_eq;unfold AVz;refine AG4 (AUn<|A2a hn Aa hf) λx hx=>?_;subst hx;dsimp only
 have pr:∀ {F G:ATa},(∀ i j,i < n->j < n->(F i j).natAbs<=D)->(∀ i j,i < n->j < n->(G i j).natAbs<=D)->Ok (AVh fuel (tab n n F)<|tab n n G) (· =tab n n (AUg n F G)):=λ{F G} hF hG=>by
  unfold AVh
  refine AG4 (AUn<|A7d hn Aa hD hF hG hf) λx hx=>?_
  subst hx
  exact AGy rfl
 refine AG4 (pr (λi j hi hj=>hG j i hj hi) hF) λx hx=>?_;grind
theorem A2d (a:Int):AYp a<=0↔a<=0:=by unfold AYp;omega
theorem BFa {n:Nat} (Ae:1<=n) (hn:n<=8) (hb:∀ i j,i < n->j < n->(F i j).natAbs<=mN n) (hf:100 < fuel):Ok (AX6 fuel<|tab n n F) λr=>r=true↔Ac4 n F/\Afi n F:=by
 unfold AX6;refine AG4 (AUn<|Au1 Ae hn hb hf) λx hx=>?_;subst hx;dsimp only;refine AG4 (Q:=λex=>match ex with | .inl e=>e=false/\¬ Ac4 n F | .inr _=>Ac4 n F) (AT2 (λh=>absurd h AGr) λ_=>AG4 (BBr AGp hf) λr hr=>?_) λex hex=>?_
 ·refine AT2 (λh=>AGy ⟨rfl,λh1=>?_⟩) λh=>AGy<|hr.1 ?_
  ·grind
  grind
 ·cases ex with
  | inl e=>obtain ⟨rfl,h⟩:=hex;exact AGy ⟨λh1=>Bool.noConfusion h1,λh1=>absurd h1.1 h⟩
  | inr u=>
    dsimp only at hex ⊢
    have h0:∀ k,k<=0->0 < det k F:=λk hk=>by
     obtain rfl:k=0:=by omega
     simp [det]
    refine AG4 (AUk (λi s=>s=((i:Nat):Int)/\i<=n/\ ∀ k,k<=i->0 < det k F) n (Q:=λex=>match ex with | .inl e=>e=false/\¬ Afi n F | .inr _=>Afi n F) ⟨rfl,Nat.zero_le _,h0⟩ AGp λi s hi hI=>?_) λex Ad=>?_
    ·obtain ⟨rfl,hin,hp⟩:=hI
     unfold Aav
     rw [AUv]
     refine AT2 (λh=>?_) λh=>AGy ?_
     ·have hi':i < n:=by omega
      refine AT0 (AT4 hi') rfl (AG4 (AUn (a:=AYp<|det (i + 1) F) rfl) λc hc=>?_)
      subst hc
      refine AT2 (λh3=>AGy ⟨rfl,λh4=>?_⟩) λh3=>AGy ⟨AGp,by rw [wk AGp];simp,AGp,λk hk=>?_⟩
      ·have:=h4 (i + 1) AGp;have:=(A2d _).1 h3;omega
      ·rcases Nat.lt_or_ge k (i + 1) with h4 | h4
       ·grind
       ·obtain rfl:k=i + 1:=by omega
        rw [A2d] at h3;omega
     ·obtain rfl:i=n:=by omega
      exact hp
    ·cases ex with
     | inl e=>obtain ⟨rfl,h⟩:=Ad;exact AGy ⟨λh1=>Bool.noConfusion h1,λh1=>absurd h1.2 h⟩
     | inr u=>exact AGy ⟨λ_=>⟨hex,Ad⟩,λ_=>rfl⟩
theorem Atf {n:Nat} (Ab:1<=n) (hn:n<=8) (hb:∀ i j,i < n->j < n->(F i j).natAbs<=mN n) (hf:100 < fuel):Ok (AWu fuel<|tab n n F) λr=>r=0↔Ac4 n F/\Afi n F:=by
 unfold AWu;refine AG4 (AUn<|Auy Ab AGp hf) λx hx=>?_;subst hx;dsimp only;refine AT2 (λh=>absurd h AGr) λ_=>AT2 (λh=>by omega) λ_=>AG4 (BBr AGp hf) λr hr=>AT2 (λh=>AGy ⟨λh1=>by omega,λh1=>?_⟩) λh=>AG4 (BFa Ab hn hb hf) λq hq=>AT2 (λh2=>AGy ⟨λh1=>by omega,λh1=>?_⟩) λh2=>AGy ⟨λ_=>hq.1 ?_,λ_=>rfl⟩
 ·grind
 ·grind
 grind
theorem BAm {n:Nat} (hn:n<=8) (hb:∀ i j,i < n->j < n->(F i j).natAbs<=mN n) (hf:100 < fuel):AZc fuel (tab n n F)=some (decide (det n F<=10000)):=by
 apply ok_eq;unfold AZc;refine AG4 (AUn<|Apt hn (Nat.le_refl _) hb AGp) λx hx=>?_;subst hx;refine AG4 (Q:=(· =10000)) ⟨10000,if_pos AGp,rfl⟩ λy hy=>?_;subst hy;refine AG4 (AUn (a:=Ala (det n F) 10000) rfl) λc hc=>AGy ?_;subst hc;exact decide_eq_decide.2<|Awf _ _
def idS (i r c:Nat):Int:=if r=c/\r < i then 1 else 0
theorem A2e {n:Nat} (hn:1<=n) (Ab:n<=16) (hf:100 < fuel):AWt fuel (n:Int)=some (tab n n dl,true):=by
 apply ok_eq;unfold AWt;refine AG4 (Q:=λex=>match ex with | .inl _=>False | .inr _=>True) (AT2 (λh=>by omega) λ_=>AT2 (λh=>by omega) λ_=>AGy trivial) λex hex=>?_
 cases ex with
 | inl e=>exact hex.elim
 | inr u=>
   dsimp only
   refine AG4 (AUn<|Ars AGp AGp AGp) λO hO=>?_
   have Aa:O=tab n n (idS 0):=by
    rw [hO,AYx n (0:Int),AYx,Aib]
    exact AUq λr _=>AUq λc _=>by unfold idS;omega
   have hlen:O.length=n:=by grind
   refine AG4 (AUk (λi s=>s=(((i:Nat):Int),tab n n<|idS i)/\i<=n) n (Q:=(· =tab n n dl)) ⟨by rw [Aa];rfl,Nat.zero_le _⟩ AGp λi s hi hI=>?_) λe he=>AGy (by rw [he])
   obtain ⟨rfl,hin⟩:=hI
   unfold Aau
   dsimp only
   rw [hlen]
   refine AT2 (λh=>?_) λh=>AGy ?_
   ·have hi':i < n:=by omega
    refine AT0 (AUl hi') rfl (AG4 (Q:=(· =1)) ⟨1,if_pos AGp,rfl⟩ λy hy=>AT0 (AT4 hi') rfl (AGy ⟨AGp,?_,AGp⟩))
    subst hy
    rw [wk AGp,As1]
    refine Prod.ext AGp<|Adb λr c hr hc=>?_
    rw [AT6]
    unfold idS
    omega
   ·refine Adb λr c hr hc=>?_
    unfold idS dl
    omega
def toS (n:Nat) (F:ATa) (i:Nat):List (List Int):=AV0 n λr=>if r < i then AV0 n (F r) else []
def toR (n:Nat) (F:ATa) (i j:Nat):List (List Int):=AV0 n λr=>if r < i then AV0 n (F r) else if r=i then AV0 n (λc=>if c < j then F i c else 0) else []
theorem BFc {n:Nat} (hn:1<=n) (Ac:n<=16) (hb:∀ i j,i < n->j < n->(F i j).natAbs < 9223372036854775808) (hf:100 < fuel):AYv fuel (tab n n F)=some (tab n n F,true):=by
 apply ok_eq;unfold AYv;refine AG4 (AUn<|Ate hn Ac hf) λx hx=>?_;subst hx;dsimp only;refine AT2 (λh=>absurd h AGr) λ_=>AVb AGp<|AG4 (AUk (λi s=>s=(((i:Nat):Int),toS n F i)/\i<=n) n (Q:=λex=>match ex with | .inl _=>False | .inr e=>e=tab n n F) ⟨?_,Nat.zero_le _⟩ AGp λi s hi hI=>?_) λex hex=>?_
 ·rw [Int.toNat_natCast,AYx];exact congrArg (Prod.mk (0:Int)) (AUq λr _=>by grind)
 ·obtain ⟨rfl,hin⟩:=hI;unfold Acb;dsimp only;rw [List.length_replicate,Int.toNat_natCast];refine AT2 (λh=>AVb AGp ?_) λh=>AGy ?_
  ·have hi':i < n:=by omega
   have e0:sI (toS n F i) (i:Int) (List.replicate n (0:Int))=toR n F i 0:=by
    rw [AU1];unfold toS;rw [AWi]
    refine AUq λr _=>?_
    by_cases h1:r=i
    ·rw [if_pos h1,if_neg AGp,if_pos h1,AYx];grind
    grind
   refine AT0 (n:=i) (AT4 hi') rfl ?_;rw [e0];refine AT0 (n:=i) (AT4 hi') rfl ?_;rw [if_neg AGp,if_pos rfl];refine AG4 (AUk (λj s=>s=(((j:Nat):Int),toR n F i j)/\j<=n) n (Q:=λex=>match ex with | .inl _=>False | .inr e=>e=toS n F (i + 1)) ⟨rfl,Nat.zero_le _⟩ AGp λj s hj hJ=>?_) λex hex=>?_
   ·obtain ⟨rfl,hjn⟩:=hJ;unfold Aca;dsimp only;rw [AUv];refine AT2 (λh2=>?_) λh2=>AGy ?_
    ·have hj':j < n:=by omega
     refine AT0 (AUl hi') rfl (AT0 (AT4 hj') rfl (AG4 (Q:=(· =(F i j,true))) ⟨_,if_pos<|hb i j hi' hj',rfl⟩ λy hy=>?_));subst hy;dsimp only;refine AT2 (λh=>absurd h AGr) λ_=>AT0 (n:=i) (AT4 hi') rfl ?_;rw [if_neg AGp,if_pos rfl];refine AT0 (AT4 hj') rfl (AGy ⟨AGp,?_,AGp⟩);rw [wk AGp,AU1,AU1];refine Prod.ext AGp ?_;dsimp only;unfold toR;rw [AWi,AWi];refine AUq λr _=>?_;by_cases h1:r=i
     ·grind
     grind
    ·refine AUq λr _=>?_;by_cases h1:r < i
     ·grind
     ·rw [if_neg h1];by_cases h3:r=i
      ·rw [if_pos h3,if_pos AGp,h3];exact AUq λc hc=>by omega
      grind
   ·cases ex with
    | inl e=>exact hex.elim
    | inr e=>exact AGy ⟨AGp,by rw [wk AGp,hex];simp,AGp⟩
  ·refine AUq λr hr=>?_;rw [if_pos AGp];rfl
 ·cases ex with
  | inl e=>exact hex.elim
  | inr e=>exact AGy (by rw [hex])
theorem Atg {S E:Type} {body:S->Option (S ⊕ E)} {Q:E->Prop} (I:S->Prop) (μ:S->Nat) (hs:∀ s,I s->Ok (body s) λr=>match r with | .inl s'=>I s'/\μ s' < μ s | .inr e=>Q e):∀ {fuel:Nat} {s0:S},I s0->μ s0 < fuel->Ok (iter body fuel s0) Q:=by
 intro fuel;induction fuel with
 | zero=>omega
 | succ f ih=>
   intro s0 h0 hf;obtain ⟨r,hr,hq⟩:=hs s0 h0;cases r with
   | inl s'=>
     obtain ⟨e,he,hQ⟩:=ih hq.1 AGp;exact ⟨e,by simp [iter,hr,he],hQ⟩
   | inr e=>exact ⟨e,by simp [iter,hr],hq⟩
theorem Ai4 (a:Int):AYp a=0↔a=0:=by unfold AYp;omega
theorem A2f (a:Int):AYp a < 0↔a < 0:=by unfold AYp;omega
theorem A7e {b:Int} (ha:a.natAbs < AXw) (hb:b.natAbs < AXw) (h0:b≠0):AV9 fuel a b=some (a / b):=by
 apply ok_eq;unfold AV9;refine AG4 (AUn (a:=(a / b,a % b,true))<|if_pos ⟨ha,hb,h0⟩) λx hx=>?_;subst hx;exact AGy rfl
theorem BFd {b:Int} (ha:a.natAbs < AXw) (hb:b.natAbs < AXw) (h0:b≠0):Aaj fuel a b=some (a % b):=by
 apply ok_eq;unfold Aaj;refine AG4 (AUn (a:=(a / b,a % b,true))<|if_pos ⟨ha,hb,h0⟩) λx hx=>?_;subst hx;exact AGy rfl
theorem BFe {b:Int} (ha:a.natAbs < AXw) (hb:b.natAbs < AXw) (h0:b≠0) (hf:AXw < fuel):Ok (Aan fuel a b) λg=>0 < g/\g ∣ a/\g ∣ b:=by
 unfold Aan;refine AG4 (AUn (a:=(a.natAbs:Int)) rfl) λx hx=>AG4 (AUn (a:=(b.natAbs:Int)) rfl) λy hy=>?_;subst hx;subst hy;refine AG4 (Atg (λs:Int × Int=>0<=s.1/\0<=s.2/\s.1.natAbs < AXw/\s.2.natAbs < AXw/\(0 < s.1∨0 < s.2)/\ ∀ d:Int,d ∣ s.1->d ∣ s.2->d ∣ a/\d ∣ b) (λs=>s.2.natAbs) (Q:=λg=>0 < g/\g ∣ a/\g ∣ b) (λs hs=>?_) ⟨AGp,AGp,AGp,AGp,.inr AGp,λd h1 h2=>⟨Int.dvd_natAbs.1 h1,Int.dvd_natAbs.1 h2⟩⟩ AGp) λg hg=>AGy hg;obtain ⟨u,v⟩:=s;obtain ⟨h1,h2,h3,h4,h5,h6⟩:=hs;unfold Aeb;dsimp only at h1 h2 h3 h4 h5 h6 ⊢;refine AG4 (AUn (a:=AYp v) rfl) λs hs=>?_;subst hs;refine AT2 (λhv=>?_) λhv=>AGy ?_
 ·have Ad:v≠0:=λh=>hv<|(Ai4 v).2 h;refine AG4 (AUn<|BFd h3 h4 Ad) λr hr=>AGy ?_;subst hr;have e1:=Int.emod_nonneg u Ad;have e2:=Int.emod_lt_of_pos u (show 0 < v by omega);refine ⟨⟨h2,e1,h4,AGp,.inl AGp,λd d1 d2=>h6 d ?_ d1⟩,AGp⟩;have:=Int.dvd_add d2<|Int.dvd_trans d1 ⟨u / v,rfl⟩;rwa [Int.emod_add_mul_ediv] at this
 ·have Ad:v=0:=by
   rcases Decidable.em (AYp v=0) with h | h
   ·exact (Ai4 v).1 h
   omega
  simp_all
def FrE (n d n' d':Int):Prop:=0 < d'/\n' * d=n * d'/\n'.natAbs<=n.natAbs/\d'.natAbs<=d.natAbs
theorem BBs {b:Int} (ha:a.natAbs < AXw) (hb:b.natAbs < AXw) (h0:b≠0) (hf:AXw < fuel):Ok (AY3 fuel a b) λr=>r.2=true/\FrE a b r.1.1 r.1.2:=by
 unfold AY3;refine AG4 (AUn (a:=AYp b) rfl) λs hs=>?_;subst hs;refine AT2 (λh=>absurd ((Ai4 b).1 h) h0) λ_=>AG4 (Q:=λe:Int × Int=>0 < e.2/\e.1 * b=a * e.2/\e.1.natAbs=a.natAbs/\e.2.natAbs=b.natAbs) (AG4 (AUn (a:=AYp b) rfl) λs hs=>?_) λe he=>?_
 ·subst hs;refine AT2 (λh=>?_) λh=>AGy ⟨?_,rfl,rfl,rfl⟩
  ·have:=(A2f b).1 h;refine AG4 (AUn (a:= -a) rfl) λx hx=>AG4 (AUn (a:= -b) rfl) λy hy=>AGy ?_;grind
  ·have: ¬ b < 0:=λh2=>h<|(A2f b).2 h2;omega
 ·obtain ⟨u,v⟩:=e;obtain ⟨h1,h2,h3,h4⟩:=he;dsimp only at h1 h2 h3 h4 ⊢;refine AG4 (BFe (a:=u) (b:=v) AGp AGp AGp hf) λg hg=>?_;obtain ⟨g1,⟨u',rfl⟩,⟨v',rfl⟩⟩:=hg;have gn:g≠0:=by omega
  have hv':0 < v':=Int.pos_of_mul_pos_right h1 g1;have e1:(g * u').natAbs=g.natAbs * u'.natAbs:=Int.natAbs_mul _ _;have e2:(g * v').natAbs=g.natAbs * v'.natAbs:=Int.natAbs_mul _ _;have g2:1<=g.natAbs:=by omega
  have m1:=Nat.mul_le_mul_right u'.natAbs g2;have m2:=Nat.mul_le_mul_right v'.natAbs g2;have m3:=Nat.mul_le_mul_left g.natAbs (show 1<=v'.natAbs by omega);refine AG4 (AUn<|A7e AGp AGp gn) λx hx=>AG4 (AUn<|A7e AGp AGp gn) λy hy=>AGy ⟨rfl,?_⟩;subst hx;subst hy;rw [Int.mul_ediv_cancel_left _ gn,Int.mul_ediv_cancel_left _ gn];refine ⟨hv',?_,by grind,by grind⟩;have:g * (u' * b)=g * (a * v'):=by grind
  exact Int.eq_of_mul_eq_mul_left gn this
theorem Awg {b:Int} (ha:a.natAbs < AXw) (hb:b.natAbs < AXw) (h0:b≠0) (hf:AXw < fuel):Ok (AVj fuel a b) λr=>FrE a b r.1 r.2:=by
 unfold AVj;refine AG4 (BBs ha hb h0 hf) λr hr=>?_;obtain ⟨⟨x,y⟩,c⟩:=r;obtain ⟨h1,h2⟩:=hr;dsimp only at h1 h2 ⊢;subst h1;exact AT2 (λh=>absurd h AGr) λ_=>AGy h2
theorem BC8 {b:Int} (ha:a.natAbs < AXw) (hb:b.natAbs < AXw) (h0:b≠0) (hf:AXw < fuel):Ok (AX7 fuel a b) λr=>FrE a b r.1 r.2:=by
 unfold AX7;exact AG4 (Awg ha hb h0 hf) λr hr=>AGy hr
theorem Ayw {N D N' D':Int} (hD:0 < D) (hD':0 < D') (h:N * D'=N' * D):N / D=N' / D':=by
 rw [<- Int.mul_ediv_mul_of_pos_left N D hD',h,Int.mul_comm D D',Int.mul_ediv_mul_of_pos_left N' D' hD]
theorem BC9 {b:Int} (hab:4 * (a.natAbs + b.natAbs) < AXw) (h0:0 < b) (hf:AXw < fuel):Ok (AYk fuel a b) λr=>r=(2 * a + b) / (2 * b):=by
 have Ag:(1:Int).natAbs < AXw:=by
  omega
 have Ah:(2:Int).natAbs < AXw:=by
  omega
 unfold AYk;refine AG4 (Q:=(· =(1,2))) ?_ λhh he=>?_
 ·unfold Acm;exact AG4 (Q:=(· =1)) ⟨1,if_pos AGp,rfl⟩ λx hx=>AG4 (Q:=(· =2)) ⟨2,if_pos AGp,rfl⟩ λy hy=>AGy (by rw [hx,hy])
 subst he;dsimp only;refine AG4 (Q:=λr=>0 < r.2/\r.1 * (2 * b)=(2 * a + b) * r.2/\r.1.natAbs < AXw/\r.2.natAbs < AXw) ?_ λr hr=>?_
 ·unfold Ac8;refine AG4 (Awg AGp AGp AGp hf) λx hx=>AG4 (Awg (a:=1) (b:=2) Ag Ah AGp hf) λy hy=>?_;obtain ⟨x1,x2⟩:=x;obtain ⟨y1,y2⟩:=y;obtain ⟨a1,a2,a3,a4⟩:=hx;obtain ⟨b1,b2,b3,b4⟩:=hy;dsimp only at *;obtain rfl:y2=2:=by omega
  obtain rfl:y1=1:=by omega
  refine AG4 (AUn (a:=x1 * 2)<|if_pos<|by grind) λu hu=>AG4 (AUn (a:=1 * x2)<|if_pos<|by grind) λv hv=>?_;subst hu;subst hv;refine AG4 (AUn (a:=x1 * 2 + 1 * x2)<|if_pos ⟨AGp,AGp⟩) λw hw=>AG4 (AUn (a:=x2 * 2)<|if_pos<|by grind) λz hz=>?_;subst hw;subst hz;refine AG4 (BBs AGp AGp AGp hf) λr hr=>AGy ?_;obtain ⟨⟨r1,r2⟩,c⟩:=r;obtain ⟨-,c1,c2,c3,c4⟩:=hr;dsimp only at *;refine ⟨c1,?_,AGp,AGp⟩;have h1:x2 * (r1 * (2 * b))=x2 * ((2 * a + b) * r2):=by grind
  exact Int.eq_of_mul_eq_mul_left (show x2≠0 by omega) h1
 ·obtain ⟨r1,r2⟩:=r;obtain ⟨h1,h2,h3,h4⟩:=hr;dsimp only at *;unfold Abv;refine AG4 (Q:=λr=>r=(2 * a + b) / (2 * b)) (AG4 (Awg h3 h4 AGp hf) λx hx=>?_) λz hz=>AGy hz;obtain ⟨x1,x2⟩:=x;obtain ⟨a1,a2,a3,a4⟩:=hx;dsimp only at *;refine AG4 (AUn<|A7e AGp AGp AGp) λq hq=>AGy ?_;subst hq;refine Ayw a1 AGp ?_;have h5:r2 * (x1 * (2 * b))=r2 * ((2 * a + b) * x2):=by grind
  exact Int.eq_of_mul_eq_mul_left (show r2≠0 by omega) h5
end Go.Proofs.YtkakafabeobahaaGreatDoor
namespace Go.Proofs.YtkakafabeobahaaGreatDoor
open Go Go.QF
set_option maxRecDepth 100000
theorem A7f {n:Nat} (hn:n<=8) (hj:j + 1 < n) (hb:∀ i j,i < n->j < n->(F i j).natAbs<=mN n) (hf:100 < fuel):Ok (AYw fuel (tab n n F) (AV0 n λa=>det (a + 1) F) ((j + 1:Nat):Int)) λr=>r=true↔LvF F j:=by
 show Ok _ λr:Bool=>r=true↔3 * (det (j + 1) F * det (j + 1) F)<=4 * (det j F * det (j + 2) F + Mn j F (j + 1) j * Mn j F (j + 1) j);unfold AYw;have w1:w64 (((j + 1:Nat):Int) - 1)=(j:Int):=by rw [wk AGp];omega
 have w2:w64 (((j + 1:Nat):Int) + 1)=((j + 2:Nat):Int):=by rw [wk AGp];omega
 rw [w1,w2];have hD:=A6t n;have bl:(Mn j F (j + 1) j).natAbs<=gN n:=Atd hn AGp AGp AGp hb;have b0:(det j F).natAbs<=gN n:=Anw hn AGp hb;have b1:(det (j + 1) F).natAbs<=gN n:=Anw hn AGp hb;have b2:(det (j + 2) F).natAbs<=gN n:=Anw hn AGp hb;have p1:=Nat.mul_le_mul b0 b2;have p2:=Nat.mul_le_mul bl bl;have p3:=Nat.mul_le_mul b1 b1;have e1:=Int.natAbs_mul (det j F)<|det (j + 2) F;have e2:=Int.natAbs_mul (Mn j F (j + 1) j)<|Mn j F (j + 1) j;have e3:=Int.natAbs_mul (det (j + 1) F)<|det (j + 1) F;refine AG4 (AUn<|Atc hn AGp AGp hb hf) λl hl=>?_;subst hl;refine AG4 (Q:=(· =4)) ⟨4,if_pos AGp,rfl⟩ λx hx=>?_;subst hx;refine AG4 (AUn<|Aof AGp hn) λx hx=>AG4 (AUn<|Aof AGp hn) λy hy=>?_;subst hx;subst hy;refine AG4 (AUn (a:=det j F * det (j + 2) F)<|if_pos AGp) λx hx=>AG4 (AUn (a:=Mn j F (j + 1) j * Mn j F (j + 1) j)<|if_pos AGp) λy hy=>?_;subst hx;subst hy;generalize det j F * det (j + 2) F=P at *;generalize Mn j F (j + 1) j * Mn j F (j + 1) j=L at *;refine AG4 (AUn (a:=P + L)<|if_pos AGp) λx hx=>AG4 (AUn (a:=4 * x)<|if_pos<|by grind) λy hy=>?_;subst hx;subst hy;refine AG4 (Q:=(· =3)) ⟨3,if_pos AGp,rfl⟩ λx hx=>?_;subst hx;refine AG4 (AUn<|Aof AGp hn) λx hx=>AG4 (AUn<|Aof AGp hn) λy hy=>?_;subst hx;subst hy;refine AG4 (AUn (a:=det (j + 1) F * det (j + 1) F)<|if_pos AGp) λx hx=>?_;subst hx;generalize det (j + 1) F * det (j + 1) F=S at *;refine AG4 (AUn (a:=3 * S)<|if_pos<|by grind) λx hx=>AG4 (AUn (a:=Ala (4 * (P + L)) x) rfl) λc hc=>AGy ?_;subst hx;subst hc;rw [decide_eq_true_iff];unfold Ala;omega
def Alk (A:ATa) (i j:Nat):Int:= -((2 * Mn j A i j + det (j + 1) A) / (2 * det (j + 1) A))
def Ao3 (A:ATa) (i j:Nat):ATa:=AU4 dl j λq=>if q=i then Alk A i j else dl j q
def Apx (A:ATa) (i:Nat):Prop:= ∀ r l,l < r->r < i->SzF A r l
def Aq8 (A:ATa) (i:Nat):Prop:= ∀ r,r + 1 < i->LvF A r
def A7g (n:Nat) (A:ATa) (r:List (List Int) × Bool):Prop:=
 (r=([],false)/\Apx A n/\Aq8 A n)∨
 (∃ i j,j < i/\i < n/\¬ SzF A i j/\Apx A i/\(∀ l,l < i->j < l->SzF A i l)/\Aq8 A i/\r=(tab n n<|Ao3 A i j,true))∨
 ∃ j,j + 1 < n/\¬ LvF A j/\Apx A (j + 2)/\Aq8 A (j + 1)/\r=(tab n n<|AYg dl (j + 1) j,true)
theorem BDa {n:Nat} (Ah:1<=n) (hn:n<=8) (hp:Afi n A) (hb:∀ i j,i < n->j < n->(A i j).natAbs<=mN n) (hf:AXw < fuel):Ok (AZx fuel<|tab n n A) (A7g n A):=by
 have Ab:100 < fuel:=Nat.lt_of_le_of_lt AGr hf;have hD:=A6t n;unfold AZx;refine AG4 (AUn<|Au1 Ah hn hb Ab) λx hx=>?_;subst hx;dsimp only;rw [AUe];refine AG4 (AUn<|A2e Ah AGp Ab) λx hx=>?_;subst hx;dsimp only;refine AG4 (AUk (λi s=>s=(((i:Nat):Int),tab n n dl)/\i<=n/\Apx A i/\Aq8 A i) n (Q:=λex=>match ex with | .inl r=>A7g n A r | .inr _=>Apx A n/\Aq8 A n) ⟨rfl,Nat.zero_le _,λr l h1 h2=>by omega,λr h=>by omega⟩ AGp λi s hi hI=>?_) λex hex=>?_
 ·obtain ⟨rfl,hin,hsz,hlv⟩:=hI;unfold Adn;dsimp only;rw [AUe];refine AT2 (λh=>?_) λh=>AGy ?_
  ·have hi':i < n:=by omega
   refine AG4 (AUk (λk s=>s=((i:Int) - 1 - k,tab n n dl)/\k<=i/\ ∀ l,l < i->i<=l + k->SzF A i l) i (Q:=λex=>match ex with | .inl r=>A7g n A r | .inr e=>e=tab n n dl/\ ∀ l,l < i->SzF A i l) ⟨by rw [wk AGp];simp,Nat.zero_le _,λl h1 h2=>by omega⟩ AGp λk s hk hK=>?_) λex hex=>?_
   ·obtain ⟨rfl,hki,hz⟩:=hK;unfold Adm;dsimp only;refine AT2 (λh2=>?_) λh2=>AGy ⟨rfl,λl hl=>hz l hl AGp⟩;obtain ⟨j,hj⟩:∃ j:Nat,(i:Int) - 1 - k=j:=⟨i - 1 - k,AGp⟩;rw [hj];have hji:j < i:=by omega
    refine AG4 (AUn<|BAl hn hi' AGp hb Ab) λb Ag=>?_;subst Ag;refine AT2 (λh3=>?_) λh3=>AGy ⟨AGp,?_,AGp,λl h4 h5=>?_⟩
    ·have hbad: ¬ SzF A i j:=λh=>by rw [<- A19] at h;simp [h] at h3
     refine AT0 (AUl AGp) rfl (AG4 (AUn<|Atc hn hi' AGp hb Ab) λl hl=>?_);subst hl;rw [show w64 ((j:Int) + 1)=((j + 1:Nat):Int) by rw [wk AGp];omega];refine AG4 (AUn<|Aof AGp hn) λd hd=>?_;subst hd;have bl:(Mn j A i j).natAbs<=gN n:=Atd hn hi' AGp AGp hb;have b1:(det (j + 1) A).natAbs<=gN n:=Anw hn AGp hb;have hd:=hp (j + 1) AGp;have hDD:gN n<=gN n * gN n:=Nat.le_mul_of_pos_left _ AGp;refine AG4 (BC8 AGp AGp AGp hf) λq hq=>?_;obtain ⟨x,y⟩:=q;obtain ⟨q1,q2,q3,q4⟩:=hq;dsimp only at q1 q2 q3 q4 ⊢;refine AG4 (BC9 AGp q1 hf) λm hm=>AG4 (AUn (a:= -m) rfl) λc hc=>?_
     have Ao:c=Alk A i j:=by
      rw [hc,hm]
      unfold Alk
      congr 1
      refine Ayw AGp AGp ?_
      grind
     clear hm hc;refine AT0 (AT4 hi') rfl (AGy<|.inr<|.inl ⟨i,j,hji,hi',hbad,hsz,λl h4 h5=>hz l h4 AGp,hlv,?_⟩);rw [AU1,AU1,AWi,Ao,show (AV0 n λq=>if q=i then Alk A i j else dl j q)=(List.range n).map λq=>if q=i then Alk A i j else dl j q from rfl,Ade];rfl
    ·rw [wk AGp];grind
    ·have hgood:SzF A i j:=by rw [<- A19];simpa using h3
     grind
   ·cases ex with
    | inl r=>exact AGy hex
    | inr e=>
      obtain ⟨rfl,hzi⟩:=hex
      have hsz':Apx A (i + 1):=λr l h1 h2=>by
       rcases Nat.lt_or_ge r i with h3 | h3
       ·exact hsz r l h1 h3
       grind
      dsimp only
      have nx:w64 ((i:Int) + 1)=((i + 1:Nat):Int):=by rw [wk AGp];omega
      refine AT2 (λh4=>?_) λh4=>AGy ⟨AGp,by rw [nx],AGp,hsz',λr hr=>by omega⟩
      obtain ⟨j,rfl⟩:∃ j,i=j + 1:=⟨i - 1,AGp⟩
      refine AG4 (A7f hn hi' hb Ab) λb Ag=>?_
      refine AT2 (λh5=>?_) λh5=>AGy ⟨AGp,by rw [nx],AGp,hsz',λr hr=>?_⟩
      ·have hbad: ¬ LvF A j:=λh=>by grind
       rw [show w64 (((j + 1:Nat):Int) - 1)=(j:Int) by rw [wk AGp];omega]
       refine AT0 (AUl AGp) rfl (AT0 (AUl hi') rfl (AGy<|.inr<|.inr ⟨j,hi',hbad,hsz',hlv,?_⟩))
       rw [AU1,AU1,show AV0 n (dl j)=(List.range n).map (dl j) from rfl,show AV0 n (dl<|j + 1)=(List.range n).map (dl<|j + 1) from rfl,Ade,Ade]
       rfl
      ·have hgood:LvF A j:=Ag.1 (by simpa using h5)
       rcases Nat.lt_or_ge r j with h6 | h6
       ·exact hlv r AGp
       grind
  grind
 ·cases ex with
  | inl r=>exact AGy hex
  | inr u=>exact AGy<|.inl ⟨rfl,hex⟩
end Go.Proofs.YtkakafabeobahaaGreatDoor
namespace Go.QF
open Go
def PrI (p:Int):Prop:=2<=p/\ ∀ x y:Int,p ∣ x * y->p ∣ x∨p ∣ y
theorem PrI.ne (hp:PrI p):p≠0:=by have:=hp.1;omega
theorem PrI.cancel {u:Int} (hp:PrI p) (hu: ¬ p ∣ u):∀ (m:Nat) {x:Int},p ^ m ∣ u * x->p ^ m ∣ x:=by
 intro m
 induction m with
 | zero=>grind
 | succ m ih=>
   intro x h
   have h1:p ∣ u * x:=Int.dvd_trans ⟨p ^ m,by grind⟩ h
   rcases hp.2 _ _ h1 with h2 | h2
   ·grind
   ·obtain ⟨y,rfl⟩:=h2
    obtain ⟨z,hz⟩:=h
    have h3:p * (u * y)=p * (p ^ m * z):=by grind
    obtain ⟨w,hw⟩:=ih ⟨z,Int.eq_of_mul_eq_mul_left hp.ne h3⟩
    exact ⟨w,by grind⟩
theorem PrI.ndvd_mul {u v:Int} (hp:PrI p) (hu: ¬ p ∣ u) (hv: ¬ p ∣ v): ¬ p ∣ u * v:=λh=>(hp.2 _ _ h).elim hu hv
theorem PrI.ndvd_pow {p u:Int} (hp:PrI p) (hu: ¬ p ∣ u):∀ m:Nat,¬ p ∣ u ^ m
 | 0=>λh=>by
   have h1:=hp.1
   obtain ⟨k,hk⟩:=h
   simp only [Int.pow_zero] at hk
   have h2:k≠0:=by grind
   have:0 < k∨k < 0:=by omega
   rcases this with h | h
   ·have:=Int.mul_le_mul_of_nonneg_right h1 (show 0<=k by omega);omega
   ·have:=Int.mul_neg_of_pos_of_neg (show 0 < p by omega) h;omega
 | m + 1=>by rw [Int.pow_succ];exact hp.ndvd_mul (hp.ndvd_pow hu m) hu
theorem AWd {a b:Nat} (h:a<=b):p ^ a ∣ p ^ b:=⟨p ^ (b - a),by rw [<- Int.pow_add];congr 1;omega⟩
theorem Apy {m:Int} (h:Eqm m x y) (hd:d ∣ m) (hy:d ∣ y):d ∣ x:=by
 have h1:m ∣ x - y:=Int.dvd_of_emod_eq_zero<|Int.emod_eq_emod_iff_emod_sub_eq_zero.1 h;have h2:=Int.dvd_add (Int.dvd_trans hd h1) hy;grind
theorem Amk {m:Int} (h:m ∣ x - y):Eqm m x y:=Int.emod_eq_emod_iff_emod_sub_eq_zero.2<|Int.emod_eq_zero_of_dvd h
theorem Aki {m:Int} (h:Eqm m x y):m ∣ x - y:=Int.dvd_of_emod_eq_zero<|Int.emod_eq_emod_iff_emod_sub_eq_zero.1 h
theorem Eqm.down {m:Int} (h:Eqm m x y) (hd:d ∣ m):Eqm d x y:=Amk<|Int.dvd_trans hd<|Aki h
theorem Ai5 {m:Int}:Eqm m x 0↔m ∣ x:=⟨λh=>by simpa using Aki h,λh=>Amk<|by simpa using h⟩
theorem Ath {d:Int} {f:Nat->Int}:∀ {n:Nat},(∀ i,i < n->d ∣ f i)->d ∣ psum f n
 | 0,_=>⟨0,by simp [psum]⟩
 | n + 1,h=>by simp only [psum];exact Int.dvd_add (Ath λi hi=>h i AGp)<|h n AGp
theorem A0p {n:Nat} {S:ATa} (hi:i < n) (hz:∀ r c,r<=i->i<=c->c < n->p ∣ S r c):p ∣ det n S:=by
 let Z:ATa:=λr c=>if r<=i/\i<=c then 0 else S r c
 have h1:Eqm p (det n S) (det n Z):=Av8 λr c hr hc=>by
  show Eqm p (S r c) (if r<=i/\i<=c then 0 else S r c)
  split
  ·next h=>exact Ai5.2<|hz r c h.1 h.2 hc
  ·exact Eqm.refl _ _
 obtain ⟨m,rfl⟩:∃ m,n=i + 1 + m:=⟨n - i - 1,AGp⟩
 have h2:det (i + 1 + m) Z=0:=by
  rw [<- Aec,Ale (T:=trF Z) λa b ha _ hb=>?_]
  ·rw [Ag8 (n:=i + 1) (r:=i) AGp λq hq=>?_,Int.zero_mul];show (if q<=i/\i<=i then (0:Int) else _)=0;omega
  ·show (if b<=i/\i<=a then (0:Int) else _)=0;omega
 rw [h2] at h1;exact Ai5.1 h1
structure Jd (n K:Nat) (p:Int) (e:Nat->Nat) (a D:ATa):Prop where
 asc:∀ i j,i<=j->j < n->e i<=e j
 lt:∀ i,i < n->e i < K
 ent:∀ i j,i < n->j < n->Eqm (p ^ K) (D i j) (p ^ e i * a i j)
 blk:∀ i j,i < n->j < n->e i≠e j->a i j=0
 sym:∀ i j,i < n->j < n->a i j=a j i
 inv:∃ (c:ATa) (u:Nat->Int),(∀ i k,i < n->k < n->e i≠e k->c i k=0)/\(∀ i,i < n->¬ p ∣ u i)/\ ∀ i j,i < n->j < n->psum (λk=>c i k * a k j) n=u i * dl i j
def Car (n K:Nat) (p:Int) (D S D':ATa):Prop:= ∀ i j,i < n->j < n->Eqm (p ^ K) (AUg n (trF S) (AUg n D S) i j) (D' i j)
theorem Afj (c:Int) (f:Nat->Int) (n:Nat):c * psum f n=psum (λi=>c * f i) n:=(AWb c f n).symm
theorem Ao4 (c:Int) (f:Nat->Int) (n:Nat):psum f n * c=psum (λi=>f i * c) n:=by
 rw [Int.mul_comm,Afj];grind
theorem A2g {n K:Nat} {D S D':ATa} (H:Car n K p D S D') (hi:i < n) (hj:j < n):Eqm (p ^ K) (det n S * AUg n D S i j) (psum (λk=>Abp n S k i * D' k j) n):=by
 have h1:Eqm (p ^ K) (psum (λk=>Abp n S k i * AUg n (trF S) (AUg n D S) k j) n) (psum (λk=>Abp n S k i * D' k j) n):=Eqm.psum λk hk=>(Eqm.refl _ _).mul (H k j hk hj);refine Eqm.trans (Eqm.of_eq ?_) h1
 have h2:psum (λk=>Abp n S k i * AUg n (trF S) (AUg n D S) k j) n=psum (λl=>psum (λk=>S l k * Abp n S k i) n * AUg n D S l j) n:=by
  rw [ATf (f:=λk=>Abp n S k i * AUg n (trF S) (AUg n D S) k j) (g:=λk=>psum (λl=>Abp n S k i * (S l k * AUg n D S l j)) n) λk _=>Afj _ _ _,Ai8]
  exact ATf λl _=>by
   rw [Ao4];grind
 rw [h2,ATf (g:=λl=>AUg n D S l j * (det n S * dl i l)) λl hl=>by rw [Alj hl hi,Int.mul_comm];unfold dl;grind];rw [Ach hi λl hl hne=>by unfold dl;grind];unfold dl;grind
theorem A7h {n K:Nat} {e:Nat->Nat} {a D S:ATa} (J:Jd n K p e a D) (hi:i < n):Eqm (p ^ K) (AUg n D S i j) (p ^ e i * AUg n a S i j):=by
 unfold AUg;rw [Afj];exact Eqm.psum λk hk=>((J.ent i k hi hk).mul (Eqm.refl _ _)).trans (Eqm.of_eq<|by grind)
theorem BDb {n K:Nat} {f:Nat->Nat} {b D' R:ATa} (J:Jd n K p f b D') (hj:j < n):Eqm (p ^ K) (psum (λk=>R k i * D' k j) n) (p ^ f j * psum (λk=>R k i * b k j) n):=by
 rw [Afj];refine Eqm.psum λk hk=>?_;by_cases h:f k=f j
 ·exact ((Eqm.refl _ _).mul (J.ent k j hk hj)).trans (Eqm.of_eq (by rw [h];grind))
 ·exact ((Eqm.refl _ _).mul (J.ent k j hk hj)).trans (Eqm.of_eq (by rw [J.blk k j hk hj h];simp))
section
variable {n K:Nat} {p:Int} {e f:Nat->Nat} {a b D D' S:ATa}
theorem BDc (J:Jd n K p e a D) (J':Jd n K p f b D') (H:Car n K p D S D') (hi:i < n) (hj:j < n):
 Eqm (p ^ K) (p ^ e i * (det n S * AUg n a S i j)) (p ^ f j * psum (λk=>Abp n S k i * b k j) n):=by
 refine Eqm.trans (Eqm.of_eq ?_)<|(Eqm.trans ((Eqm.refl _<|det n S).mul (A7h J (S:=S) (j:=j) hi).symm)<|A2g H hi hj).trans (BDb J' hj);grind
theorem Awh (hp:PrI p) (m:Nat):p ^ m≠0:=Int.pow_ne_zero hp.ne
theorem A0q (p:Int) {a b:Nat} (h:a<=b):p ^ b=p ^ a * p ^ (b - a):=by rw [<- Int.pow_add];congr 1;omega
theorem Awi (hp:PrI p) (hS: ¬ p ∣ det n S) (J:Jd n K p e a D) (J':Jd n K p f b D') (H:Car n K p D S D') (hi:i < n) (hj:j < n) (hlt:e i < f j):p ^ (f j - e i) ∣ S i j:=by
 have hX:∀ k,k < n->e k=e i->p ^ (f j - e i) ∣ AUg n a S k j:=λk hk hek=>by
  have h1:=BDc J J' H hk hj;rw [hek] at h1;have h2:p ^ f j ∣ p ^ e i * (det n S * AUg n a S k j):=Apy h1 (AWd<|Nat.le_of_lt<|J'.lt j hj) ⟨_,rfl⟩;rw [A0q p<|Nat.le_of_lt hlt] at h2;obtain ⟨z,hz⟩:=h2;rw [Int.mul_assoc] at hz;exact hp.cancel hS _ ⟨z,Int.eq_of_mul_eq_mul_left (Awh hp _) hz⟩
 obtain ⟨c,u,hc,hu,hca⟩:=J.inv;refine hp.cancel (hu i hi) _ ?_
 have h3:u i * S i j=psum (λk=>c i k * AUg n a S k j) n:=by
  unfold AUg
  rw [ATf (g:=λk=>psum (λl=>c i k * (a k l * S l j)) n) λk _=>Afj _ _ _,Ai8,
   ATf (g:=λl=>S l j * (u i * dl i l)) λl hl=>by
    rw [<- hca i l hi hl,Afj];grind]
  rw [Ach hi λl hl hne=>by unfold dl;grind];unfold dl;grind
 rw [h3];refine Ath λk hk=>?_
 by_cases h:e i=e k
 ·exact Int.dvd_trans (hX k hk h.symm) ⟨c i k,Int.mul_comm _ _⟩
 simp_all
theorem A7i (hp:PrI p) (hS: ¬ p ∣ det n S) (J:Jd n K p e a D) (J':Jd n K p f b D') (H:Car n K p D S D') (hi:i < n):f i<=e i:=by
 rcases Nat.lt_or_ge (e i) (f i) with hlt | h
 ·exfalso;refine hS<|A0p hi λr c hr hc hcn=>?_;have h1:=J.asc r i hr hi;have h2:=J'.asc i c hc hcn;have h3:=Awi hp hS J J' H (i:=r) (j:=c) AGp hcn AGp;exact Int.dvd_trans ⟨p ^ (f c - e r - 1),by rw [<- Int.pow_succ'];congr 1;omega⟩ h3
 ·exact h
theorem Ayy:det n (Abp n S) * det n S=det n S ^ n:=by
 rw [<- Ac9,AUd (F:=AUg n (Abp n S) S) (G:=λi j=>det n S * dl i j) λi j hi hj=>Ayl hi hj]
 have:∀ (m:Nat) (d:Int),AY5 (λ_=>d) m=d ^ m:=λm d=>by
  induction m with
  | zero=>simp [AY5]
  | succ m ih=>simp only [AY5];grind
 rw [Ald (F:=λi j=>det n S * dl i j) (λc i hc hci hi=>by show det n S * dl i c=0;unfold dl;grind),<- this];exact Ann λi hi=>by unfold dl;grind
theorem Ayz (hp:PrI p) (hS: ¬ p ∣ det n S): ¬ p ∣ det n (Abp n S):=λh=>hp.ndvd_pow hS n<|Ayy (S:=S) ▸ Int.dvd_trans h ⟨_,rfl⟩
theorem A7j (hp:PrI p) (hd: ¬ p ∣ d) (J:Jd n K p e a D):Jd n K p e (λi j=>d * a i j) (λi j=>d * D i j):=by
 refine ⟨J.asc,J.lt,λi j hi hj=>((Eqm.refl _ d).mul (J.ent i j hi hj)).trans (Eqm.of_eq<|by grind),λi j hi hj h=>by rw [J.blk i j hi hj h,Int.mul_zero],λi j hi hj=>by rw [J.sym i j hi hj],?_⟩;obtain ⟨c,u,h1,h2,h3⟩:=J.inv;refine ⟨c,λi=>d * u i,h1,λi hi=>hp.ndvd_mul hd<|h2 i hi,λi j hi hj=>?_⟩;rw [ATf (g:=λk=>d * (c i k * a k j)) λk _=>by grind,AWb,h3 i j hi hj,Int.mul_assoc]
theorem AWy {B C:ATa} (i j:Nat):AUg n (AUg n A B) C i j=AUg n A (AUg n B C) i j:=by
 unfold AUg;rw [ATf (g:=λk=>psum (λl=>A i l * B l k * C k j) n) λk _=>Ao4 _ _ _,Ai8]
 exact ATf λl _=>by
  rw [Afj]
  grind
theorem Ay0 (H:Car n K p D S D'):Car n K p D' (Abp n S) λi j=>det n S * det n S * D i j:=λi j hi hj=>by
 have h1:Eqm (p ^ K) (AUg n (trF<|Abp n S) (AUg n D'<|Abp n S) i j) (AUg n (λr c=>det n S * AUg n D S r c) (Abp n S) i j):=by
  rw [<- AWy];unfold AUg;exact Eqm.psum λk hk=>((A2g H hi hk).symm).mul (Eqm.refl _ _)
 refine h1.trans<|Eqm.of_eq ?_
 have h2:AUg n (λr c=>det n S * AUg n D S r c) (Abp n S) i j=det n S * AUg n (AUg n D S) (Abp n S) i j:=by
  unfold AUg;rw [Afj];grind
 rw [h2,AWy]
 have h3:AUg n D (AUg n S<|Abp n S) i j=det n S * D i j:=by
  show psum (λk=>D i k * AUg n S (Abp n S) k j) n=_;rw [ATf (g:=λk=>D i k * (det n S * dl k j)) λk hk=>by rw [show AUg n S (Abp n S) k j=_ from Alj hk hj]];rw [Ach hj λl hl hne=>by unfold dl;grind];unfold dl;grind
 rw [h3];grind
theorem Awj (hp:PrI p) (hS: ¬ p ∣ det n S) (J:Jd n K p e a D) (J':Jd n K p f b D') (H:Car n K p D S D') (hi:i < n):e i=f i:=by
 have h1:=A7i hp hS J J' H hi;have h2:=A7i hp (Ayz hp hS) J' (A7j hp (hp.ndvd_mul hS hS) J) (Ay0 H) hi;omega
theorem Aq9 {n m:Nat} (h:k + m<=n) (hz:∀ i,i < n->(i < k∨k + m<=i)->g i=0):psum g n=psum (λr=>g<|k + r) m:=by
 obtain ⟨t,rfl⟩:∃ t,n=k + m + t:=⟨n - (k + m),AGp⟩;have h1:∀ t,k + m + t<=k + m + t->True:=λ_ _=>trivial
 have split:∀ (x y:Nat),psum g (x + y)=psum g x + psum (λr=>g<|x + r) y:=by
  intro x y;induction y with
  | zero=>simp [psum]
  | succ y ih=>rw [<- Nat.add_assoc];simp only [psum];rw [ih];omega
 rw [split,split,ATf (g:=λ_=>0) (n:=k) λi hi=>hz i AGp<|.inl hi,AW7,
  ATf (f:=λr=>g<|k + m + r) (g:=λ_=>0) (n:=t) λi hi=>hz _ AGp<|.inr AGp,AW7]
 omega
def Cut (n:Nat) (e:Nat->Nat) (k:Nat):Prop:=k<=n/\ ∀ r c,r < k->k<=c->c < n->e r < e c
theorem A36 (hp:PrI p) (hS: ¬ p ∣ det n S) (J:Jd n K p e a D) (J':Jd n K p f b D') (H:Car n K p D S D') {m:Nat} (C:Cut n e k) (C':Cut n e (k + m)) (hc:∀ i,k<=i->i < k + m->e i=e k) (hj:j < m) (hl:l < m):
 Eqm p (b (k + j)<|k + l) (AUg m (trF<|shF k S) (AUg m (shF k a)<|shF k S) j l):=by
 have hn:=C'.1;have hm:0 < m:=by omega
 have hjn:k + j < n:=by omega
 have hln:k + l < n:=by omega
 have hej:=hc (k + j) AGp AGp;have hel:=hc (k + l) AGp AGp;have hfj:=Awj hp hS J J' H hjn;have hfl:=Awj hp hS J J' H hln;have hK:=J.lt (k + j) hjn;have hd:p ^ (e k + 1) ∣ p ^ K:=AWd AGp
 have h1:Eqm (p ^ (e k + 1)) (p ^ e k * b (k + j) (k + l)) (psum (λi=>S i (k + j) * (p ^ e i * AUg n a S i (k + l))) n):=by
  have h2:=(H (k + j) (k + l) hjn hln).trans (J'.ent (k + j) (k + l) hjn hln);rw [<- hfj,hej] at h2;refine (h2.symm.down hd).trans ?_;exact Eqm.psum λi hi=>(Eqm.refl _ _).mul ((A7h J hi).down hd)
 have h2:∀ i,i < n->Eqm (p ^ (e k + 1)) (S i (k + j) * (p ^ e i * AUg n a S i (k + l))) (if e i=e k then p ^ e k * (S i (k + j) * AUg n a S i (k + l)) else 0):=λi hi=>by
  split
  ·next h=>rw [h];exact Eqm.of_eq (by grind)
  ·next h=>
   refine Ai5.2 ?_
   rcases Nat.lt_or_ge (e k) (e i) with h3 | h3
   ·exact Int.dvd_trans (AWd (p:=p)<|show e k + 1<=e i by omega) ⟨S i (k + j) * AUg n a S i (k + l),by grind⟩
   ·have h4:e i < e k:=by omega
    have h5:=Awi hp hS J J' H (i:=i) (j:=k + j) hi hjn AGp;rw [<- hfj,hej] at h5
    have h6:p ^ (e k - e i) ∣ AUg n a S i (k + l):=by
     refine Ath λq hq=>?_
     by_cases hq2:e i=e q
     ·have h7:=Awi hp hS J J' H (i:=q) (j:=k + l) hq hln AGp;rw [<- hfl,hel,<- hq2] at h7;exact Int.dvd_trans h7 ⟨a i q,Int.mul_comm _ _⟩
     ·rw [J.blk i q hi hq hq2,Int.zero_mul];simp_all
    obtain ⟨x,hx⟩:=h5;obtain ⟨y,hy⟩:=h6;rw [hx,hy];refine Int.dvd_trans (AWd (p:=p)<|show e k + 1<=e i + (e k - e i) + (e k - e i) by omega) ⟨x * y,?_⟩;rw [Int.pow_add,Int.pow_add];grind
 have h3:=h1.trans<|Eqm.psum h2
 have hw:∀ i,i < n->(i < k∨k + m<=i)->e i≠e k:=λi hi h=>by
  rcases h with h | h
  ·have:=C.2 i k h (Nat.le_refl k) AGp;omega
  ·have:=C'.2 k i AGp h hi;omega
 rw [Aq9 (k:=k) (m:=m) hn λi hi h=>if_neg<|hw i hi h] at h3;rw [ATf (g:=λr=>p ^ e k * (S (k + r) (k + j) * AUg n a S (k + r) (k + l))) λr hr=>if_pos<|hc (k + r) AGp AGp,AWb] at h3
 have h4:Eqm p (b (k + j)<|k + l) (psum (λr=>S (k + r) (k + j) * AUg n a S (k + r) (k + l)) m):=by
  refine Amk ?_;obtain ⟨z,hz⟩:=Aki h3;rw [Int.pow_succ,<- Int.mul_sub,Int.mul_assoc] at hz;exact ⟨z,Int.eq_of_mul_eq_mul_left (Awh hp _) hz⟩
 refine h4.trans<|Eqm.of_eq ?_;refine ATf λr hr=>?_;show _=S (k + r) (k + j) * _;congr 1
 exact Aq9 (g:=λq=>a (k + r) q * S q (k + l)) hn λi hi h=>by
  rw [J.blk (k + r) i AGp hi (by grind),Int.zero_mul]
theorem A37 {m:Nat} {x:Nat->Int} (hs:∀ i j,i < m->j < m->A i j=A j i) (he:∀ i,i < m->(2:Int) ∣ A i i):(2:Int) ∣ psum (λi=>x i * psum (λj=>A i j * x j) m) m:=by
 have key:∀ t,t<=m->(2:Int) ∣ psum (λi=>x i * psum (λj=>A i j * x j) t) t:=by
  intro t;induction t with
  | zero=>intro _;exact ⟨0,rfl⟩
  | succ t ih=>
    intro ht;obtain ⟨z,hz⟩:=ih AGp;obtain ⟨w,hw⟩:=he t AGp
    have h1:psum (λi=>x i * psum (λj=>A i j * x j) (t + 1)) t=psum (λi=>x i * psum (λj=>A i j * x j) t) t + x t * psum (λi=>A t i * x i) t:=by
     rw [Afj,<- Acn];exact ATf λi hi=>by simp only [psum];grind
    have h2:psum (λi=>x i * psum (λj=>A i j * x j) (t + 1)) (t + 1)=psum (λi=>x i * psum (λj=>A i j * x j) (t + 1)) t + x t * psum (λj=>A t j * x j) (t + 1):=rfl;have h3:psum (λj=>A t j * x j) (t + 1)=psum (λj=>A t j * x j) t + A t t * x t:=rfl;rw [h2,h1,h3,hz,hw];grind
 grind
theorem A0r (hp:PrI 2) (hS: ¬ (2:Int) ∣ det n S) (J:Jd n K 2 e a D) (J':Jd n K 2 f b D') (H:Car n K 2 D S D') {m:Nat} (C:Cut n e k) (C':Cut n e (k + m)) (hc:∀ i,k<=i->i < k + m->e i=e k) (he:∀ i,k<=i->i < k + m->(2:Int) ∣ a i i):
 ∀ i,k<=i->i < k + m->(2:Int) ∣ b i i:=λi h1 h2=>by
 obtain ⟨j,rfl⟩:∃ j,i=k + j:=⟨i - k,AGp⟩
 refine Apy (A36 hp hS J J' H C C' hc (j:=j) (l:=j) AGp AGp) (Int.dvd_refl 2) ?_
 exact A37 (A:=shF k a) (x:=λr=>shF k S r j) (λr q hr hq=>J.sym (k + r) (k + q) (by have:=C'.1;omega) (by have:=C'.1;omega)) λr hr=>he (k + r) AGp AGp
end
end Go.QF
namespace Go.Proofs.YtkakafabeobahaaGreatDoor
open Go Go.QF
set_option maxRecDepth 100000
theorem A7k {S E:Type} {body:S->Option (S ⊕ E)} {Q:E->Prop} (I:Nat->S->Prop) (hs:∀ k s,I k s->Ok (body s) λr=>match r with | .inl s'=> ∃ k',k' < k/\I k' s' | .inr e=>Q e):∀ {fuel k:Nat} {s0:S},I k s0->k < fuel->Ok (iter body fuel s0) Q:=by
 intro fuel;induction fuel with
 | zero=>omega
 | succ f ih=>
   intro k s0 h0 hf;obtain ⟨r,hr,hq⟩:=hs k s0 h0;cases r with
   | inl s'=>
     obtain ⟨k',h1,h2⟩:=hq;obtain ⟨e,he,hQ⟩:=ih h2 AGp;exact ⟨e,by simp [iter,hr,he],hQ⟩
   | inr e=>exact ⟨e,by simp [iter,hr],hq⟩
theorem Ay1 {n:Nat} (hj:j < i) (hi:i < n) (hs:s < n) (X:Nat->Int):psum (λk=>X k * Ao3 A i j k s) n=X s + if s=i then Alk A i j * X j else 0:=by
 have h1:∀ k,X k * Ao3 A i j k s=X k * dl k s + (if k=j then (if s=i then Alk A i j * X j else 0) else 0):=λk=>by
  unfold Ao3
  rw [AT6]
  split
  ·next h=>
   subst h
   split
   ·next h2=>subst h2;unfold dl;grind
   ·simp
  ·simp
 rw [ATf λk _=>h1 k,Acn,Agf X hs,Ach (a:=j) AGp λk _ hk=>if_neg hk,if_pos rfl]
theorem Ay2 {n r:Nat} (hj:j < i) (hi:i < n) (hr:r < n) (hs:s < n):AUg n (AUg n (trF<|Ao3 A i j) A) (Ao3 A i j) r s=Apw A i j (Alk A i j) r s:=by
 have h2:∀ k,AUg n (trF<|Ao3 A i j) A r k=A r k + if r=i then Alk A i j * A j k else 0:=λk=>by
  show psum (λl=>Ao3 A i j l r * A l k) n=_
  rw [ATf (g:=λl=>A l k * Ao3 A i j l r) λl _=>Int.mul_comm _ _]
  exact Ay1 hj hi hr λl=>A l k
 show psum (λk=>AUg n (trF<|Ao3 A i j) A r k * Ao3 A i j k s) n=_;rw [Ay1 hj hi hs λk=>AUg n (trF<|Ao3 A i j) A r k];rw [h2,h2,Arx];grind
theorem Awk (j k s:Nat):AYg dl (j + 1) j k s=dl (tau j k) s:=by
 rw [Afq];unfold tau;grind
theorem A2h (j k:Nat):tau j (tau j k)=k:=by unfold tau;grind
theorem BDd {n:Nat} (hj:j + 1 < n) (hk:k < n):tau j k < n:=by unfold tau;grind
theorem A2i {n:Nat} (hj:j + 1 < n) (hs:s < n) (X:Nat->Int):psum (λk=>X k * AYg dl (j + 1) j k s) n=X (tau j s):=by
 rw [Ach (a:=tau j s) (BDd hj hs) λk hk hne=>?_]
 ·rw [Awk,A2h];unfold dl;grind
 ·rw [Awk];unfold dl;rw [if_neg λh=>hne<|by rw [<- h,A2h]];simp
theorem A2j {n r:Nat} (hj:j + 1 < n) (hr:r < n) (hs:s < n):AUg n (AUg n (trF<|AYg dl (j + 1) j) A) (AYg dl (j + 1) j) r s=swA A j r s:=by
 show psum (λk=>AUg n (trF<|AYg dl (j + 1) j) A r k * AYg dl (j + 1) j k s) n=_;rw [A2i hj hs λk=>AUg n (trF<|AYg dl (j + 1) j) A r k];show psum (λl=>AYg dl (j + 1) j l r * A l (tau j s)) n=_;rw [ATf (g:=λl=>A l (tau j s) * AYg dl (j + 1) j l r) λl _=>Int.mul_comm _ _];exact A2i hj hr λl=>A l<|tau j s
theorem AYz {n:Nat} {A' B B':ATa} (hA:∀ k,k < n->A i k=A' i k) (hB:∀ k,k < n->B k j=B' k j):AUg n A B i j=AUg n A' B' i j:=ATf λk hk=>by grind
theorem Aml {n:Nat} {T U:ATa} (i j:Nat):trF (AUg n T U) i j=AUg n (trF U) (trF T) i j:=ATf λk _=>Int.mul_comm _ _
def Ahj (n:Nat) (A0 T A:ATa):Prop:= ∀ i j,i < n->j < n->A i j=AUg n (trF T) (AUg n A0 T) i j
theorem Aja {n:Nat} {T U B:ATa} (H:Ahj n A0 T A) (K:∀ i j,i < n->j < n->AUg n (AUg n (trF U) A) U i j=B i j):Ahj n A0 (AUg n T U) B:=λi j hi hj=>by
 rw [<- K i j hi hj,AWy]
 have h1:AUg n (trF U) (AUg n A U) i j=AUg n (trF U) (AUg n (trF T)<|AUg n A0<|AUg n T U) i j:=by
  refine AYz (λ_ _=>rfl) λk hk=>?_;rw [AYz (A':=AUg n (trF T)<|AUg n A0 T) (λl hl=>H k l hk hl) λ_ _=>rfl,AWy];refine AYz (λ_ _=>rfl) λl hl=>?_;rw [AWy]
 rw [h1,<- AWy];exact AYz (λk _=>(Aml i k).symm) λ_ _=>rfl
theorem Awl {n:Nat}:Ahj n A dl A:=λi j hi hj=>by
 show _=psum (λk=>dl k i * AUg n A dl k j) n
 rw [ATf (g:=λk=>AUg n A dl k j * dl k i) λk _=>Int.mul_comm _ _,Agf (λk=>AUg n A dl k j) hi]
 exact (A0f hj).symm
theorem Ati {n:Nat} {T:ATa} (H:Ahj n A0 T A):det n A=det n T * det n T * det n A0:=by
 rw [AUd H,Ac9,Ac9,Aec];grind
def dmN (n:Nat):Int:=if n<=6 then 2 ^ 59 else 9 ^ 8
def bdN (n:Nat):Int:=if n<=6 then 2 ^ 194 else 2 ^ 97
theorem Aqu (n:Nat):9 ^ 8<=dmN n/\dmN n<=2 ^ 59:=by unfold dmN;split <;> decide
theorem BDe (n:Nat):(bdN n).natAbs<=mN n:=by unfold bdN mN;split <;> decide
theorem BBt {m n:Nat} {D:Int} (hn:n<=m + 1) (hk:k<=m) (hD:0<=D):(1 + (k:Int) * ((2 ^ (n - 1) * (2 * D)) * (2 ^ (n - 1) * (2 * D)))) * D<=(1 + (m:Int) * ((2 ^ m * (2 * D)) * (2 ^ m * (2 * D)))) * D:=by
 have p0:0<=2 ^ (n - 1) * (2 * D):=Int.mul_nonneg (Int.le_of_lt<|Anv _) AGp;have h0:(2:Int) ^ (n - 1) * (2 * D)<=2 ^ m * (2 * D):=Int.mul_le_mul_of_nonneg_right (Aoe AGp) AGp;have h1:=Int.mul_le_mul h0 h0 p0 AGp;have h2:=Int.mul_le_mul (show (k:Int)<=m by omega) h1 (Int.mul_nonneg p0 p0) AGp;exact Int.mul_le_mul_of_nonneg_right AGp hD
theorem BDf {n:Nat} (hn:n<=8) (hk:k < n):(1 + (k:Int) * ((2 ^ (n - 1) * (2 * dmN n)) * (2 ^ (n - 1) * (2 * dmN n)))) * dmN n<=bdN n:=by
 unfold dmN bdN;rcases Nat.lt_or_ge 6 n with h | h
 ·rw [if_neg AGp,if_neg AGp];exact Int.le_trans (BBt (m:=7) AGp AGp AGr) AGr
 ·rw [if_pos h,if_pos h];exact Int.le_trans (BBt (m:=5) AGp AGp AGr) AGr
theorem BDg (n:Nat):3 * dmN n<=bdN n:=by unfold dmN bdN;split <;> decide
theorem BAn {n:Nat} (hn:n<=8) (h:Awd n (dmN n) A i t):∀ k,k < n->A k k<=bdN n:=λk hk=>by
 by_cases e:k=i
 ·subst e
  have hd:=(Aqu n).1
  have h1:=Auz (p:=(2 ^ (n - 1) * (2 * dmN n)) * (2 ^ (n - 1) * (2 * dmN n))) (q:=1) h.sym h.pos h.hi h.dm (sq_nonneg _) AGr (λl hl=>by
   have h2:=h.lamb l hl
   have h3:(2:Int) ^ t * (2 * dmN n)<=2 ^ (n - 1) * (2 * dmN n):=Int.mul_le_mul_of_nonneg_right (Aoe (by have:=h.ht;omega)) AGp
   have h4:=h.pos (l + 1) AGp
   have h5:=Int.mul_le_mul_of_nonneg_right h3<|Int.le_of_lt h4
   have h6:=Anu (x:=Mn l A k l) (y:=2 ^ (n - 1) * (2 * dmN n) * det (l + 1) A) AGp AGp
   grind) k 0 AGp
  rw [Aez,show det 0 A=1 from rfl,Int.one_mul,Int.mul_one] at h1
  exact Int.le_trans h1<|BDf hn hk
 ·exact Int.le_trans (h.rows k hk e)<|BDg n
theorem Ay3 {n:Nat} {B:Int} (hs:Ac4 n A) (hp:Afi n A) (hB:∀ k,k < n->A k k<=B) (hi:i < n) (hj:j < n): -B<=A i j/\A i j<=B:=by
 have h1:=Aqq (k:=0) hs hp (Nat.zero_le _) hi hj;simp only [Aez] at h1;have p1:=Aqr (k:=0) hs hp (Nat.zero_le _) hi;have p2:=Aqr (k:=0) hs hp (Nat.zero_le _) hj;simp only [Aez] at p1 p2;have h2:=Int.mul_le_mul (hB i hi) (hB j hj) p2<|Int.le_trans p1<|hB i hi;exact Ayq (Int.le_trans p1<|hB i hi)<|Int.le_trans h1 h2
theorem Awm {n:Nat} {B:Int} (hs:Ac4 n A) (hp:Afi n A) (hB:∀ k,k < n->A k k<=B) (hi:i < n) (hj:j < n):(A i j).natAbs<=B.natAbs:=by
 have:=Ay3 hs hp hB hi hj;omega
def Atj:Nat:=(2 ^ 158) ^ 10
theorem Ay4:16 * (Atj * Atj) < AXw:=by decide
def Au2:Nat:=(2 ^ 220) ^ 5
theorem BFf {n:Nat} {T:ATa} (hn:n<=8) (hE:∀ i j,(A0 i j).natAbs<=2 ^ 60) (hs:Ac4 n A0) (hp:Afi n A0) (H:Ahj n A0 T A) (hB:∀ k,k < n->A k k<=bdN n) (hk:k < n) (hs2:s < n):(T k s).natAbs<=Au2:=by
 have h1:=A15 hs hp (λr=>T r s) hk
 have h2:bil n 0 A0 (λr=>T r s) (λr=>T r s)=A s s:=by
  rw [H s s hs2 hs2];show _=psum (λi=>T i s * psum (λj=>A0 i j * T j s) n) n;unfold bil;refine ATf λi _=>?_;rw [<- AWb];exact ATf λj _=>by rw [Aez];grind
 rw [h2] at h1
 have h3:(Abp n A0 k k).natAbs<=dBd (2 ^ 60) 9:=by
  refine Nat.le_trans (Arr (m:=2 ^ 60) λi j=>?_)<|Aic AGr AGp;rw [AT6]
  split
  ·unfold dl;split <;> decide
  ·exact hE i j
 have h4:Abp n A0 k k * A s s<=(dBd (2 ^ 60) 9:Nat) * bdN n:=by
  have p0:0<=A s s:=by
   have:A s s=bil n 0 A0 (λr=>T r s) (λr=>T r s):=h2.symm;rw [this];exact Ahw hs hp _ n 0 AGp
  have b1:Abp n A0 k k<=(dBd (2 ^ 60) 9:Nat):=by omega
  have b2:=Int.mul_le_mul_of_nonneg_right b1 p0;have b3:=Int.mul_le_mul_of_nonneg_left (hB s hs2) (show (0:Int)<=(dBd (2 ^ 60) 9:Nat) by omega);omega
 have h5:((dBd (2 ^ 60) 9:Nat):Int) * bdN n<=(Au2:Int) * (Au2:Int):=by unfold bdN;split <;> decide
 have h6:=Ayq (x:=T k s) (y:=(Au2:Int)) AGp<|Int.le_trans (Int.le_trans h1 h4) h5;omega
structure At2 (n:Nat) (A:ATa):Prop where
 sym:Ac4 n A
 pos:Afi n A
 sz:Apx A n
 lv:Aq8 A n
 dt:det n A<=10000
structure RSt (n:Nat) (A0 A T:ATa) (i t:Nat):Prop where
 inv:Awd n (dmN n) A i t
 car:Ahj n A0 T A
 dt:det n A=det n A0
def BFz (n:Nat) (A0:ATa) (k:Nat) (s:List (List Int) × List (List Int)):Prop:=
 ∃ A T i t,RSt n A0 A T i t/\s=(tab n n A,tab n n T)/\k=(Ayv n A).toNat * 128 + (128 - (16 * i + t))
theorem A2k {n:Nat} (hp:Afi n A):0<=Ayv n A:=by
 have:∀ m,m<=n + 1->0<=psum (λk=>det k A) m:=λm=>by
  induction m with
  | zero=>intro _;exact Int.le_refl _
  | succ m ih=>intro h;have h1:=ih AGp;have h2:=hp m AGp;simp only [psum];omega
 exact this _<|Nat.le_refl _
theorem BAo {n:Nat} (hd:∀ k,k<=n->det k A<=dmN n):Ayv n A<=(n + 1:Nat) * dmN n:=by
 have:∀ m,m<=n + 1->psum (λk=>det k A) m<=(m:Nat) * dmN n:=λm=>by
  induction m with
  | zero=>intro _;simp [psum]
  | succ m ih=>intro h;have h1:=ih AGp;have h2:=hd m AGp;simp only [psum];grind
 exact this _<|Nat.le_refl _
theorem A38 {n:Nat} (hn:n<=8) (hj:j < i) (hi:i < n) (hp:Afi n A) (hb:∀ i j,i < n->j < n->(A i j).natAbs<=mN n):(Alk A i j).natAbs<=3 * gN n:=by
 have b1:(Mn j A i j).natAbs<=gN n:=Atd hn hi AGp AGp hb;have b2:(det (j + 1) A).natAbs<=gN n:=Anw hn AGp hb;have hd:=hp (j + 1) AGp;unfold Alk;rw [Int.natAbs_neg];have:=Int.natAbs_ediv_le_natAbs (2 * Mn j A i j + det (j + 1) A)<|2 * det (j + 1) A;omega
theorem Au3 {n:Nat} (Ac:1<=n) (hn:n<=8) (hs:Ac4 n A0) (hp:Afi n A0) (hE:∀ i j,(A0 i j).natAbs<=2 ^ 60) (hD:∀ k,k<=n->det k A0<=dmN n) (hr:∀ k,k < n->A0 k k<=3 * dmN n) (hdt:det n A0<=10000) (hf:AXw < fuel):
 Ok (AXm fuel<|tab n n A0) λr=> ∃ A T,r=(tab n n A,tab n n T,0)/\At2 n A/\Ahj n A0 T A/\det n A=det n A0/\ ∀ k,k < n->A k k<=3 * dmN n:=by
 have Ad:100 < fuel:=Nat.lt_of_le_of_lt AGr hf;have Ar:100000000 < fuel:=Nat.lt_of_le_of_lt AGr hf;have Aj:∀ i j,i < n->j < n->(A0 i j).natAbs<=mN n:=λi j _ _=>Nat.le_trans (hE i j)<|Nat.le_trans AGr<|Ayh n;unfold AXm;refine AG4 (Atf Ac hn Aj Ad) λv hv=>?_;have Ao:=hv.2 ⟨hs,hp⟩;subst Ao;refine AT2 (λh=>absurd rfl h) λ_=>AG4 (AUn<|BAm hn Aj Ad) λb hb=>?_;subst hb;refine AT2 (λh=>by simp [hdt] at h) λ_=>?_;refine AG4 (AUn<|A11 (A:=tab n n A0) (by rw [AUe];omega) (λz hz=>by rw [Apg z hz];omega) (by rw [AUe];omega)) λx hx=>?_;subst hx;rw [AUe];refine AG4 (AUn<|A2e Ac AGp Ad) λx hx=>?_;subst hx;dsimp only;refine AG4 (A7k (BFz n A0) (Q:=λr=> ∃ A T,r=(tab n n A,tab n n T,0)/\At2 n A/\Ahj n A0 T A/\det n A=det n A0/\ ∀ k,k < n->A k k<=3 * dmN n) (λk s hI=>?_) (k:=(Ayv n A0).toNat * 128 + 128) ⟨A0,dl,0,0,⟨Atb Ac hs hp hD hr,Awl,rfl⟩,rfl,rfl⟩ ?_) λr hr=>AGy hr
 ·obtain ⟨A,T,i,t,R,rfl,rfl⟩:=hI;have L:=R.inv;have hbd:=BAn hn L;have hb:∀ i j,i < n->j < n->(A i j).natAbs<=mN n:=λi j hi hj=>Nat.le_trans (Awm L.sym L.pos hbd hi hj)<|BDe n;have hT:∀ k s,k < n->s < n->(T k s).natAbs<=Au2:=λk s hk Ab=>BFf hn hE hs hp R.car hbd hk Ab;have hTD:Au2<=Atj:=by decide
  have hg:=A6u n;have hgm:=BE7 n;have Ap:=Ayh n;have hMD:mN n<=Atj:=Nat.le_trans (Nat.le_trans (Nat.le_mul_of_pos_left _<|show 0 < 24 * gN n by omega)<|Nat.le_of_eq<|Nat.mul_assoc 24 (gN n)<|mN n) hgm;have hGD:3 * gN n<=Atj:=Nat.le_trans (Nat.le_trans (show 3 * gN n<=24 * gN n by omega)<|Nat.le_mul_of_pos_right _<|Nat.lt_of_lt_of_le AGr Ap)<|Nat.le_trans (Nat.le_of_eq<|Nat.mul_assoc 24 (gN n)<|mN n) hgm;unfold Acf;refine AG4 (BDa Ac hn L.pos hb hf) λr hr=>?_
  have prod:∀ {U:ATa},(∀ i j,i < n->j < n->(U i j).natAbs<=3 * gN n)->(AVz fuel (tab n n A) (tab n n U)=some (tab n n<|AUg n (AUg n (trF U) A) U)/\AVh fuel (tab n n T) (tab n n U)=some (tab n n<|AUg n T U)):=λ{U} hU=>by
   have Ak:∀ i j,i < n->j < n->(U i j).natAbs<=Atj:=λi j hi hj=>Nat.le_trans (hU i j hi hj) hGD
   refine ⟨A2c Ac AGp Ay4 (λi j hi hj=>Nat.le_trans (hb i j hi hj) hMD) Ak (λi j hi hj=>?_) Ad,?_⟩
   ·have h3:(AUg n (trF U) A i j).natAbs=(psum (λl=>U l i * A l j) n).natAbs:=rfl
    have h4:∀ l,l < n->(U l i).natAbs<=3 * gN n/\(A l j).natAbs<=mN n:=λl hl=>⟨hU l i hl hi,hb l j hl hj⟩
    have h5:(psum (λl=>U l i * A l j) n).natAbs<=n * (3 * gN n * mN n):=by
     refine QF.psum_abs λl hl=>?_
     rw [Int.natAbs_mul]
     exact Nat.mul_le_mul (h4 l hl).1 (h4 l hl).2
    have h6:n * (3 * gN n * mN n)<=8 * (3 * gN n * mN n):=Nat.mul_le_mul_right _ hn
    have h7:8 * (3 * gN n * mN n)<=Atj:=Nat.le_trans (Nat.le_of_eq<|by rw [Nat.mul_assoc 3,<- Nat.mul_assoc 8]) hgm
    omega
   ·unfold AVh
    rw [A7d Ac AGp Ay4 (λi j hi hj=>Nat.le_trans (hT i j hi hj) hTD) Ak Ad]
    rfl
  rcases hr with ⟨rfl,hsz,hlv⟩ | ⟨i',j,hji,hi',hbad,hsz,hzi,hlv,rfl⟩ | ⟨j,hj,hbad,hsz,hlv,rfl⟩
  ·dsimp only;refine AT2 (λ_=>?_) λh=>absurd rfl h;have hrest:=Aod hn L λl hl=>hsz i l hl L.hi;refine AG4 (AUn<|BFc Ac AGp (λi j hi hj=>Nat.lt_of_le_of_lt (Awm L.sym L.pos hrest hi hj) (by have:=Aqu n;omega)) Ad) λx hx=>AGy ?_;subst hx;exact ⟨A,T,rfl,⟨L.sym,L.pos,hsz,hlv,by rw [R.dt];exact hdt⟩,R.car,R.dt,hrest⟩
  ·dsimp only;refine AT2 (λh=>absurd h AGr) λ_=>?_
   have hU:∀ r s,r < n->s < n->(Ao3 A i' j r s).natAbs<=3 * gN n:=λr s hr Ab=>by
    have hdl:∀ a b,(dl a b).natAbs<=3 * gN n:=λa b=>by unfold dl;split <;> omega
    unfold Ao3
    rw [AT6]
    split
    ·split
     ·exact A38 hn hji hi' L.pos hb
     ·exact hdl _ _
    ·exact hdl _ _
   obtain ⟨e1,e2⟩:=prod hU;refine AG4 (AUn e1) λx hx=>AG4 (AUn e2) λy hy=>AGy ?_;subst hx;subst hy;obtain ⟨L2,hm⟩:=A34 hn L hi' hji hbad hsz hzi hlv;have hsum:Ayv n (Apw A i' j<|Alk A i' j)=Ayv n A:=ATf λk _=>Ah2 hji;refine ⟨_,?_,Apw A i' j<|Alk A i' j,AUg n T<|Ao3 A i' j,i',i' - j,⟨L2,Aja R.car λr s hr Ab=>Ay2 hji hi' hr Ab,by rw [Ah2 hji];exact R.dt⟩,?_,rfl⟩
   ·omega
   ·rw [Adb λr s hr Ab=>Ay2 hji hi' hr Ab]
  ·dsimp only;refine AT2 (λh=>absurd h AGr) λ_=>?_
   have hU:∀ r s,r < n->s < n->(AYg dl (j + 1) j r s).natAbs<=3 * gN n:=λr s hr Ab=>by
    rw [Awk];unfold dl;split <;> omega
   obtain ⟨e1,e2⟩:=prod hU;refine AG4 (AUn e1) λx hx=>AG4 (AUn e2) λy hy=>AGy ?_;subst hx;subst hy;obtain ⟨L2,hm⟩:=A35 hn L hj hbad (λr l h1 h2=>hsz r l h1 AGp) λr hr=>hlv r AGp;refine ⟨_,?_,swA A j,AUg n T<|AYg dl (j + 1) j,0,0,⟨L2,Aja R.car λr s hr Ab=>A2j hj hr Ab,by rw [A16 AGp];exact R.dt⟩,?_,rfl⟩
   ·have h1:=A2k L.pos;have h2:=A2k L2.pos;have:=L.hi;have:=L.ht;omega
   ·rw [Adb λr s hr Ab=>A2j hj hr Ab]
 ·have h1:=BAo hD;have h2:((n + 1:Nat):Int) * dmN n<=9 * dmN n:=Int.mul_le_mul_of_nonneg_right AGp (by have:=Aqu n;omega);have h3:9 * dmN n<=9 * 2 ^ 59:=Int.mul_le_mul_of_nonneg_left (Aqu n).2 AGr;have h4:9 * 2 ^ 59 * 128 + 128 < AXw:=by decide
  omega
end Go.Proofs.YtkakafabeobahaaGreatDoor
