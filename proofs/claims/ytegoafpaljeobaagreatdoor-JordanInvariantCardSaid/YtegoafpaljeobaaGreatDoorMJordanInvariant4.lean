/-
  Texts of a proof, joined. Conditions stand in each statement.
-/
import Derived.Test.YtegoafpaljeobaaGreatDoorMJordanInvariant3
set_option linter.unusedVariables false
set_option linter.unusedSimpArgs false
set_option maxRecDepth 100000
set_option maxHeartbeats 40000000
open Go Go.QF
variable {h:Go.QF.AH8} {A F:Go.QF.AIe} {a x y q r last K p T s a1 a5 a2 Dm:Int} {M:List (List Int)} {ps:List Int} {B LA LB:List Nat} {i la lb t j fuel k l D:Nat} {f:Nat->Int} {α:Type} {v va vb:Value}
namespace Go.Proofs.YtegoafpaljeobaaGreatDoor.Ig
structure A18 (h:AH8) (v:Value) (L:List Nat) (v':Value) (L':List Nat):Prop where
 sl:Sl h v' (L'.map AV8)
 cap:AWl v'
 dig:Dig L'
 blk:v'.ownBlock=v.ownBlock
 val:nv L'=nv L
 len:L'.length<=L.length
 tg:∀ g,v.ownBlock=some g-> ∃ cur off,h[g]? =some (.cells cur 160 off)
theorem A18.ds {lo:Nat} {v':Value} {L L':List Nat} (H:A18 h v L v' L') (hl:∀ g,v.ownBlock=some g->lo<=g):DS h lo v' L':=⟨H.sl,H.cap,H.dig,λg hg=>hl g<|H.blk ▸ hg,λg hg=>H.tg g<|H.blk ▸ hg⟩
theorem Ayn {L:List Nat} (h:L[L.length - 1]? =some 0):nv (L.take<|L.length - 1)=nv L:=by
 have h1:L=L.take (L.length - 1) ++ [0]:=by
  have:=Alq h
  grind
 conv=>rhs;rw [h1,AT1]
 simp
theorem AU2 {L:List Nat} (H:DS h 0 v L) (hn:L.length<=1000000):AI7 Tryz.prog 123 #[v] h λx h'=>h'=h/\ ∃ L',A18 h v L x L'/\TL L':=by
 refine AJi (l:=[_]) mx Tryz.func123 rfl rfl rfl rfl rfl AIb (AH1<|AH7<|AH3<|AH6<|AMc 1048569 (λy:Value × List Nat=>[(0,y.1)]) (λk y h'=>h'=h/\y.2.length=k/\A18 h v L y.1 y.2) AIb L.length (v,L) ?_ ⟨rfl,trivial⟩ ?_)
 ·exact ⟨rfl,rfl,H.sl,H.cap,H.dig,rfl,rfl,Nat.le_refl _,H.tg⟩
 rintro k ⟨u,Lu⟩ s1 h ⟨rfl,rfl,HT⟩;dsimp only at HT ⊢;refine AH3<|AH1<|AHy<|Aft AIy rfl HT.sl ?_;rw [List.length_map];have hLlen:=HT.len;refine AZu rfl rfl (λAa=>?_) (λAa=>?_)
 ·refine AHy<|AJ6 6 true AIb rfl rfl (AHy<|AJ6 6 true AIb rfl rfl (AHy<|AJ6 6 true AIb rfl rfl (Aft AIy rfl HT.sl ?_)));rw [List.length_map];refine AJ6 6 true AIb rfl rfl (AU7 rfl rfl AHx AHx ?_);rw [show ((Lu.length:Nat):Int) - 1=((Lu.length - 1:Nat):Int) by omega];obtain ⟨x,hx⟩:∃ x,Lu[Lu.length - 1]? =some x:=⟨_,List.getElem?_eq_getElem AHx⟩;refine AJ6 6 true AIb rfl rfl (Ajq AIy rfl HT.sl rfl (Aau hx) λa1 Ab=>AJ6 6 true AIb rfl rfl (AI1 AKz rfl Ab (AJ6 6 true AIb rfl rfl (Abr rfl rfl (λAc=>?_) (λAc=>?_)))))
  ·refine AIm rfl (AH5<|AI2 rfl (AIa<|q_t<|AH6<|AIf<|AHy<|AHy<|Aft AIy rfl HT.sl ?_));rw [List.length_map];refine AU7 rfl rfl AHx AHx ?_;rw [show ((Lu.length:Nat):Int) - 1=((Lu.length - 1:Nat):Int) by omega];have Ad:Lu[Lu.length - 1]? =some 0:=by rw [hx];congr 1;omega
   refine Ams (v:=u) AIy rfl HT.sl HT.cap rfl (by rw [List.length_map];omega) λv9 Af Ag Ah=>?_;refine AIw<|AIu<|q_b<|q_t ?_;exact ⟨Lu.length - 1,(v9,Lu.take<|Lu.length - 1),by first | omega | (dsimp only;omega),⟨rfl,AI9,⟨by dsimp only;rw [List.map_take];exact Af,Ag,Agi HT.dig _,Ah.trans HT.blk,by rw [Ayn Ad];exact HT.val,by rw [List.length_take];have:=HT.len;omega,HT.tg⟩⟩,rfl,trivial⟩
  ·refine AIm rfl (AH5<|AI6 rfl (AIq<|AIr<|AIr<|AJt<|q_t<|AH1<|AHy<|AH7<|AIc<|⟨_,AId,?_⟩));refine ⟨rfl,Lu,HT,λy hy=>?_⟩
   first
   | (have:Lu=[]:=List.length_eq_zero_iff.1 AHx;rw [this] at hy;cases hy)
   | (rw [List.getLast?_eq_getElem?,hx] at hy;injection hy with hy;subst hy;omega)
 ·refine AHy<|AJw 6 false AIb rfl rfl (AJw 6 false AIb rfl rfl (AJw 6 false AIb rfl rfl (AJw 6 false AIb rfl rfl (AJw 6 false AIb rfl rfl (AJw 6 false AIb rfl rfl (AJw 6 false AIb rfl rfl (AIn rfl (AH5<|AI6 rfl (AIq<|AIr<|AIr<|AJt<|q_t<|AH1<|AHy<|AH7<|AIc<|⟨_,AId,?_⟩)))))))));refine ⟨rfl,Lu,HT,λy hy=>?_⟩
  first
  | (have:Lu=[]:=List.length_eq_zero_iff.1 AHx;rw [this] at hy;cases hy)
  | (rw [List.getLast?_eq_getElem?,hx] at hy;injection hy with hy;subst hy;omega)
theorem AYk (w:Nat) (hw:w < 18446744073709551616) (h:AH8):AI7 Tryz.prog 120 #[.int .u64 (w:Int)] h λx h'=>Ext h h'/\ ∃ L,DS h' (Array.size h) x L/\TL L/\nv L=w/\L.length<=2:=by
 refine AJi (l:=[_]) mx Tryz.func120 rfl rfl rfl rfl rfl AIb (AH1<|AJd<|AHy<|ASz ALc ALw rfl ?_);rw [show IntKind.u32.wrap (w:Int)=((w % 4294967296:Nat):Int) by rw [wrap_u32];omega];refine AHy<|Ajx (n:=32) rfl rfl AHz (ASz ALc ALw rfl ?_);rw [show IntKind.u32.wrap ((w:Int) / 2 ^ 32)=((w / 4294967296:Nat):Int) by rw [wrap_u32];omega];have e1:IntKind.u32.wrap (w:Int)=((w % 4294967296:Nat):Int):=by rw [wrap_u32];omega
 have e2:IntKind.u32.wrap ((w:Int) / 2 ^ 32)=((w / 4294967296:Nat):Int):=by rw [wrap_u32];omega
 have hdg:Dig [w % 4294967296,w / 4294967296]:=by intro x hx;simp only [List.mem_cons,List.not_mem_nil,or_false] at hx;rcases hx with rfl | rfl <;> omega
 refine Aw8 ([w % 4294967296,w / 4294967296].map AV8) AIy AT5 rfl (λ_=>trivial) rfl AHx AHx rfl (by simp [AV8,isOne]) λg1 v1 h1 Ad E1 Ae Aj=>?_;have Ak:=E1.1;have Z2:=(Ext.refl h).trans E1;have Ab:=Ad.ds (lo:=Array.size h) hdg Ae;refine AIz trivial rfl (AU2 (Ab.mono<|Nat.zero_le _) AI9) λx3 h1 hk=>?_;obtain ⟨rfl,L2,HT,htl⟩:=hk;refine ⟨trivial,?_⟩;refine AH7<|AIc<|⟨_,AId,?_⟩;exact ⟨E1,L2,HT.ds Ab.lo,htl,by rw [HT.val];simp only [nv];omega,by have:=HT.len;simpa using this⟩
theorem Ajb {lo:Nat} {L:List Nat} (H:DS h lo v L) (hn:L.length<=2):AI7 Tryz.prog 152 #[v] h λx h'=>h'=h/\x= .int .u64 (nv L:Int):=by
 refine AJi (l:=[_]) mx Tryz.func152 rfl rfl rfl rfl rfl AIb (AH1<|AJd<|AH7<|AH3<|AH1<|AHy<|Aft AIy rfl H.sl ?_);rw [List.length_map];refine AHy<|AH5<|AH6<|AMc 2096952 (λy:Nat × Nat=>[(8,.int .i64 (y.1:Int)),(3,.int .u64 (y.2:Int))]) (λk y h'=>h'=h/\k=L.length - y.1/\y.1<=L.length/\y.2=nv (L.take y.1)) AIb L.length (0,0) ?_ ⟨rfl,rfl,trivial⟩ ?_
 ·exact ⟨rfl,rfl,Nat.zero_le _,rfl⟩
 rintro k ⟨i,w⟩ s1 h ⟨rfl,rfl,hi,hw⟩;dsimp only at hi hw ⊢;subst hw;refine AH1<|ANd rfl rfl (λAb=>?_) (λAb=>?_)
 ·refine AH5<|AH3<|AI2 rfl (AIa<|q_t<|AH3<|AH6<|AH3 ?_);obtain ⟨x,hx⟩:∃ x,L[i]? =some x:=⟨_,List.getElem?_eq_getElem AHx⟩;have hxb:=H.dig x<|List.mem_of_getElem? hx;refine AIf<|AHy<|Ajq AIy rfl H.sl rfl (Aau hx) λAf Ac=>AI1 AKz rfl Ac (AIw<|AH7<|AIf<|AHy<|AHy<|A3i ALw ALc rfl (by rw [wrap_u64];omega) ?_);refine AHy<|AWh rfl rfl AHx AHx ?_;rw [show (32:Int) * (i:Int)=((32 * i:Nat):Int) by omega];refine Als (n:=32 * i) rfl rfl (by show 32 * i<=64;omega) ?_;have Aa:i=0∨i=1:=by omega
  have hlt:=AZy H.dig hi
  have hsh:IntKind.u64.wrap ((x:Int) * 2 ^ (32 * i))=((2 ^ (32 * i) * x:Nat):Int):=by
   rw [wrap_u64]
   rcases Aa with rfl | rfl
   ·simp;omega
   ·simp;omega
  rw [hsh]
  have Ad:2 ^ (32 * i) * x < 18446744073709551616:=by
   rcases Aa with rfl | rfl
   ·simp;omega
   ·simp;omega
  have Ae:nv (L.take i) < 18446744073709551616:=by
   rcases Aa with rfl | rfl
   ·simp at hlt ⊢;omega
   ·simp at hlt ⊢;omega
  refine Afy rfl rfl (.inr<|.inl rfl) (Axa Ae Ad) ?_;rw [Axb (by rw [<- Afz];exact hlt),<- Afz,<- AKl hx];refine AIw<|AIu<|q_b<|q_t<|AIf<|ASf rfl AHx (AHy<|AH5 ?_);exact ⟨L.length - (i + 1),(i + 1,nv<|L.take<|i + 1),by first | omega | (dsimp only;omega),⟨rfl,rfl,by first | omega | (dsimp only;omega),rfl⟩,rfl,rfl,trivial⟩
 ·refine AH5<|AH3<|AI6 rfl (AIq<|AIr<|AIr<|AJt<|q_t<|AH1<|AHy<|AH7<|AIc<|⟨_,AId,?_⟩);obtain rfl:i=L.length:=by omega
  exact ⟨rfl,by rw [List.take_length] at *;rfl⟩
theorem AW6 (w:World):(Instr.build 81 #[]).run Tryz.prog w= .ok (.agg #[.bool false,.slice none 0 0]) w:=by kernel_rfl
theorem Agm (b:Bool) (a:Option Addr) (n c:Nat) (w:World):(Instr.build 81 #[(0,.bool b),(1,.slice a n c)]).run Tryz.prog w= .ok (.agg #[.bool b,.slice a n c]) w:=by kernel_rfl
theorem ASi {lo:Nat} {s:Value} {L:List Nat} (neg:Bool) (H:DS h lo s L) (htl:TL L) (hn:L.length<=100):AI7 Tryz.prog 119 #[.bool neg,s] h λx h'=>Ext h h'/\ZV h' lo x (sgn neg<|nv L):=by
 obtain ⟨a,n,c,rfl,hnc⟩:=H.cap;refine AJi (l:=[_,_]) mx Tryz.func119 rfl rfl rfl rfl rfl AIb (AH1<|APa [.bool false,.slice none 0 0] ANt rfl (λ_=>trivial) λAa h2 V3 E4 Ak Ar=>?_);have Au:Array.size h<=Aa:=Ak;have Av:=E4.1;have Z8:=(Ext.refl h).trans E4;refine AH5<|AH3<|AH1<|AHy<|Aft AIy rfl (H.sl.ext E4) ?_;rw [List.length_map];refine Abr rfl rfl (λAm=>?_) (λAm=>?_)
 ·refine AH5<|AI2 rfl (AH1<|ALe (v:= .agg #[.bool false,.slice none 0 0]) AW6<|AKo [.bool false,.slice none 0 0] AJz rfl rfl rfl rfl (by simp [isOne]) V3 λh9 Ao Ad=>?_);have Af:=E4.thenUpd Ad (λk hk=>by have Ac:k=Aa:=hk;omega);have Ax:=Ad.1;have Ay:=Z8.thenUpd Ad (λk hk=>by have Ac:k=Aa:=hk;omega);have Az:=E4.thenUpd Ad (λk hk=>by have Ac:k=Aa:=hk;omega);refine AH5 (AIc<|AIt<|⟨_,AKs AJz rfl rfl Ao,?_⟩)
  first
  | (have h0:L=[]:=List.length_eq_zero_iff.1 AHx
     subst h0
     exact ⟨Af,⟨false,_,[],rfl,AZx _ _,Abc,AI9,by cases neg <;> rfl⟩⟩)
  | exact ⟨Af,⟨neg,_,L,rfl,H.ext Af,htl,hn,rfl⟩⟩
 ·refine AH5<|AI6 rfl (AIa<|q_t<|AH1<|AHy<|AHy<|ALe (v:= .agg #[.bool neg,.slice a n c]) (Agm neg a n c)<|AKo [.bool neg,.slice a n c] AJz rfl rfl rfl rfl (by simp [isOne]) V3 λA3 Ap Ae=>?_);have Ah:=E4.thenUpd Ae (λk hk=>by have Ac:k=Aa:=hk;omega);have A4:=Ae.1;have A5:=Z8.thenUpd Ae (λk hk=>by have Ac:k=Aa:=hk;omega);have A6:=E4.thenUpd Ae (λk hk=>by have Ac:k=Aa:=hk;omega);refine AH5 (AIc<|⟨_,AKs AJz rfl rfl Ap,?_⟩)
  first
  | (have h0:L=[]:=List.length_eq_zero_iff.1 AHx
     subst h0
     exact ⟨Ah,⟨false,_,[],rfl,AZx _ _,Abc,AI9,by cases neg <;> rfl⟩⟩)
  | exact ⟨Ah,⟨neg,_,L,rfl,H.ext Ah,htl,hn,rfl⟩⟩
theorem Small_ok {n:Int} (hn: -9223372036854775808<=n/\n<=9223372036854775807) (h:AH8):AI7 Tryz.prog 81 #[.int .i64 n] h λx h'=>Ext h h'/\ZV h' (Array.size h) x n:=by
 refine AJi (l:=[_]) mx Tryz.func81 rfl rfl rfl rfl rfl AIb (AH1<|APa [.bool false,.slice none 0 0] ANt rfl (λ_=>trivial) λAa h2 V3 E4 Az By=>?_);have Bz:Array.size h<=Aa:=Az;have B2:=E4.1;have Z8:=(Ext.refl h).trans E4;refine AH5<|AH3<|AH1<|AHy<|ANd rfl rfl (λA3=>?_) (λA3=>?_)
 ·refine AH5<|AI2 rfl (AH1<|AHy<|ASz AP8 ALc rfl ?_);rw [show IntKind.u64.wrap n=n + 18446744073709551616 by rw [wrap_u64];omega];refine Adj rfl ?_;rw [show IntKind.u64.wrap (0 - (n + 18446744073709551616))=((n.natAbs:Nat):Int) by rw [wrap_u64];omega];refine AIz trivial rfl (AYk n.natAbs AHx _) λx9 B4 hk=>?_;obtain ⟨Ag,L1,Ah,Ao,Ap,A5⟩:=hk;refine ⟨trivial,?_⟩;have B5:=Ag.1;have A6:=Z8.trans Ag;have A7:=E4.trans Ag;have A8:=V3.ext Ag;have A9:=E4.trans Ag;refine AIz trivial rfl (ASi true Ah Ao AHx) λB6 B7 hk=>?_;obtain ⟨Ac,Aq⟩:=hk;refine ⟨trivial,?_⟩;have B8:=Ac.1;have Ba:=A6.trans Ac;have Bb:=A7.trans Ac;have Bc:=A8.ext Ac;have Be:=A9.trans Ac;have Bf:=Ah.ext Ac;obtain ⟨Ai,s2,L2,rfl,Aj,Au,Av,Aw⟩:=Aq.out;refine AKo [.bool Ai,s2] AJz rfl rfl rfl rfl (ARw Aj.cap) Bc λB9 Bg Ad=>?_;have Bh:=Bb.thenUpd Ad (λk hk=>by have Ak:k=Aa:=hk;omega);have Ca:=Ad.1;have Cb:=Ba.thenUpd Ad (λk hk=>by have Ak:k=Aa:=hk;omega);have Cd:=Be.thenUpd Ad (λk hk=>by have Ak:k=Aa:=hk;omega);have Ce:=Bf.updLo Ad AHx;have Bi:=Aj.updLo Ad AHx;refine AH5<|AIc<|AIt<|⟨_,AKs AJz rfl rfl Bg,?_⟩;exact ⟨Bh,⟨Ai,s2,L2,rfl,Bi.mono AHx,Au,Av,by rw [<- Aw,Ap];unfold sgn;first | (rw [if_pos rfl];omega) | (rw [if_neg AHz];omega)⟩⟩
 ·refine AH5<|AI6 rfl (AIa<|q_t<|AH1<|AHy<|ASz AP8 ALc rfl ?_);rw [show IntKind.u64.wrap n=((n.natAbs:Nat):Int) by rw [wrap_u64];omega];refine AIz trivial rfl (AYk n.natAbs AHx _) λCf Cg hk=>?_;obtain ⟨Am,L1,Ah,Ao,Ap,A5⟩:=hk;refine ⟨trivial,?_⟩;have Ch:=Am.1;have Bj:=Z8.trans Am;have Bl:=E4.trans Am;have Bm:=V3.ext Am;have Bn:=E4.trans Am;refine AIz trivial rfl (ASi false Ah Ao AHx) λCi Cj hk=>?_;obtain ⟨Ae,Aq⟩:=hk;refine ⟨trivial,?_⟩;have Ck:=Ae.1;have Bo:=Bj.trans Ae;have Bp:=Bl.trans Ae;have Bq:=Bm.ext Ae;have Br:=Bn.trans Ae;have Bt:=Ah.ext Ae;obtain ⟨Ai,s2,L2,rfl,Aj,Au,Av,Aw⟩:=Aq.out;refine AKo [.bool Ai,s2] AJz rfl rfl rfl rfl (ARw Aj.cap) Bq λCm Bu Af=>?_;have Bv:=Bp.thenUpd Af (λk hk=>by have Ak:k=Aa:=hk;omega);have Cn:=Af.1;have Co:=Bo.thenUpd Af (λk hk=>by have Ak:k=Aa:=hk;omega);have Cp:=Br.thenUpd Af (λk hk=>by have Ak:k=Aa:=hk;omega);have Cq:=Bt.updLo Af AHx;have Bw:=Aj.updLo Af AHx;refine AH5<|AIc<|⟨_,AKs AJz rfl rfl Bu,?_⟩;exact ⟨Bv,⟨Ai,s2,L2,rfl,Bw.mono AHx,Au,Av,by rw [<- Aw,Ap];unfold sgn;first | (rw [if_pos rfl];omega) | (rw [if_neg AHz];omega)⟩⟩
theorem Ahx {lo:Nat} {L:List Nat} (H:DS h lo v L) (hn:L.length<=1000000):AI7 Tryz.prog 124 #[v] h λx h'=>Ext h h'/\DS h' (Array.size h) x L:=by
 obtain ⟨a,n,c,rfl,hnc⟩:=H.cap;refine AJi (l:=[_]) mx Tryz.func124 rfl rfl rfl rfl rfl AIb (AH1<|AH7<|AH3<|AH1<|AHy<|A05 Tryz.underlying79 rfl ?_);cases Ad:a.isNone
 ·refine AH5<|AI6 rfl (AIa<|q_t<|AH3 ?_);obtain ⟨xa,rfl⟩:∃ q,a=some q:=Option.ne_none_iff_exists'.1 (λhe=>by rw [he] at Ad;cases Ad);refine AIf<|A69 AIy (λ_=>trivial) λg1 v1 h1 Af E1 Ag Ap=>?_;have Aq:=E1.1;have Z2:=(Ext.refl h).trans E1;refine AHy ?_;by_cases hL:L=[]
  ·subst hL;obtain rfl:n=0:=Aw9 H;refine A4j AIy (λ_=>trivial) rfl Af rfl λv2 h2 Ab U2=>AH7<|AIc<|⟨_,AId,?_⟩;exact ⟨E1.thenUpd U2 (λk hk=>by have Ai:k=g1:=hk;omega),Ab.ds H.dig Ag⟩
  refine A3c AIy AT5 rfl trivial rfl Af rfl (H.sl.ext E1) (λu hu=>by obtain ⟨y,_,rfl⟩:=List.mem_map.1 hu;rfl) (by simpa using hL) (by simp;omega) (by simp;omega) λv2 g2 h2 Ab Ak U2=>?_;refine ⟨trivial,?_⟩;have XZ:=E1.thenUpd U2 (λk hk=>by have Ai:k=g1:=hk;omega);have hg2l:Array.size h<=g2:=by rcases Ak with rfl | rfl;exact Ag;omega
  refine AH7<|AIc<|⟨_,AId,?_⟩;exact ⟨XZ,Ab.ds H.dig hg2l⟩
 ·refine AH5<|AI2 rfl (AH3 ?_);have h0:L=[]:=A06 (Option.isNone_iff_eq_none.1<|by assumption) H;refine AIf<|AH7<|AIc<|AIt<|⟨_,AId,?_⟩;subst h0;exact ⟨Ext.refl _,AZx _ _⟩
def AOr (z:Int):Int:=if z < 0 then -1 else if z=0 then 0 else 1
theorem sign_zero {z:Int} (h:z=0):AOr z=0:=by subst h;rfl
theorem sign_neg {z:Int} (h:z < 0):AOr z= -1:=if_pos h
theorem AZ2 {z:Int} (h:0 < z):AOr z=1:=by unfold AOr;omega
theorem Sign_ok {lo:Nat} {z:Int} (HA:ZV h lo va z):AI7 Tryz.prog 84 #[va] h λx h'=>Ext h h'/\x= .int .i64 (AOr z):=by
 obtain ⟨na,sa,LA,rfl,HDa,htla,hla,hza⟩:=HA.out;have hna:LA.length<=1000000:=by omega
 refine AJi (l:=[_]) mx Tryz.func84 rfl rfl rfl rfl rfl AIb (AH1<|AR0 [.bool na,sa] (λ_=>trivial) rfl rfl λAj h2 V3 E4 Ak Aq=>?_);have Ar:Array.size h<=Aj:=Ak;have Au:=E4.1;have Z8:=(Ext.refl h).trans E4;refine AH7<|AH3<|AH6<|AH1<|AOe (fs:=1) AUj AIb AHz rfl (AI1 AQb rfl (V3.cell (i:=1) rfl) (AIz trivial rfl (AU2 (DS.mono (HDa.ext E4)<|Nat.zero_le _) hna) λx9 h2 hk=>?_));obtain ⟨rfl,L1,Af,Ag⟩:=hk;refine ⟨trivial,?_⟩;have Am:=Af.ds (lo:=lo) HDa.lo;refine AKc AIy rfl Am (Abr rfl rfl (λAo=>?_) (λAo=>?_))
 ·refine AH7 (AI2 rfl (AH1<|AH7<|AIc<|AKa<|AIt<|⟨_,AId,?_⟩))
  first
  | (have h0:L1=[]:=List.length_eq_zero_iff.1 AHx
     have h1:nv LA=0:=by rw [<- Af.val,h0];rfl
     exact ⟨E4,congrArg (Value.int .i64) (sign_zero<|hza.trans (by rw [h1];cases na <;> rfl)).symm⟩)
  | (have h1:nv LA≠0:=λh0=>by rw [<- Af.val] at h0;have:=congrArg List.length<|APh Ag h0;rw [List.length_nil] at this;omega
     have h2:z=sgn na (nv LA):=hza
     have h3:na=true:=by assumption
     exact ⟨E4,congrArg (Value.int .i64) (sign_neg (by rw [h2,h3];unfold sgn;rw [if_pos rfl];omega)).symm⟩)
  | (have h1:nv LA≠0:=λh0=>by rw [<- Af.val] at h0;have:=congrArg List.length<|APh Ag h0;rw [List.length_nil] at this;omega
     have h2:z=sgn na (nv LA):=hza
     have h3:na=false:=by assumption
     exact ⟨E4,congrArg (Value.int .i64) (AZ2 (by rw [h2,h3];unfold sgn;rw [if_neg AHz];omega)).symm⟩)
 ·refine AH7<|AI6 rfl (AH1<|AOe (fs:=1) ATz AIb AHz rfl (AI1 ANf rfl (V3.cell (i:=0) rfl) (AH7<|⟨_,rfl,λAp=>?_,λAp=>?_⟩)))
  ·refine AH1 (AH7<|AIc<|AKa<|AIt<|⟨_,AId,?_⟩)
   first
   | (have h0:L1=[]:=List.length_eq_zero_iff.1 AHx
      have h1:nv LA=0:=by rw [<- Af.val,h0];rfl
      exact ⟨E4,congrArg (Value.int .i64) (sign_zero<|hza.trans (by rw [h1];cases na <;> rfl)).symm⟩)
   | (have h1:nv LA≠0:=λh0=>by rw [<- Af.val] at h0;have:=congrArg List.length<|APh Ag h0;rw [List.length_nil] at this;omega
      have h2:z=sgn na (nv LA):=hza
      have h3:na=true:=by assumption
      exact ⟨E4,congrArg (Value.int .i64) (sign_neg (by rw [h2,h3];unfold sgn;rw [if_pos rfl];omega)).symm⟩)
   | (have h1:nv LA≠0:=λh0=>by rw [<- Af.val] at h0;have:=congrArg List.length<|APh Ag h0;rw [List.length_nil] at this;omega
      have h2:z=sgn na (nv LA):=hza
      have h3:na=false:=by assumption
      exact ⟨E4,congrArg (Value.int .i64) (AZ2 (by rw [h2,h3];unfold sgn;rw [if_neg AHz];omega)).symm⟩)
  ·refine AIa (q_b<|q_t<|AH1<|AH7<|AIc<|⟨_,AId,?_⟩)
   first
   | (have h0:L1=[]:=List.length_eq_zero_iff.1 AHx
      have h1:nv LA=0:=by rw [<- Af.val,h0];rfl
      exact ⟨E4,congrArg (Value.int .i64) (sign_zero<|hza.trans (by rw [h1];cases na <;> rfl)).symm⟩)
   | (have h1:nv LA≠0:=λh0=>by rw [<- Af.val] at h0;have:=congrArg List.length<|APh Ag h0;rw [List.length_nil] at this;omega
      have h2:z=sgn na (nv LA):=hza
      have h3:na=true:=by assumption
      exact ⟨E4,congrArg (Value.int .i64) (sign_neg (by rw [h2,h3];unfold sgn;rw [if_pos rfl];omega)).symm⟩)
   | (have h1:nv LA≠0:=λh0=>by rw [<- Af.val] at h0;have:=congrArg List.length<|APh Ag h0;rw [List.length_nil] at this;omega
      have h2:z=sgn na (nv LA):=hza
      have h3:na=false:=by assumption
      exact ⟨E4,congrArg (Value.int .i64) (AZ2 (by rw [h2,h3];unfold sgn;rw [if_neg AHz];omega)).symm⟩)
theorem Neg_ok {lo:Nat} {z:Int} (HA:ZV h lo va z):AI7 Tryz.prog 122 #[va] h λx h'=>Ext h h'/\ZV h' (Array.size h) x (-z):=by
 obtain ⟨na,sa,LA,rfl,HDa,htla,hla,hza⟩:=HA.out;have hna:LA.length<=1000000:=by omega
 refine AJi (l:=[_]) mx Tryz.func122 rfl rfl rfl rfl rfl AIb (AH1<|AR0 [.bool na,sa] (λ_=>trivial) rfl rfl λAm h2 V3 E4 Az Bx=>?_);have By:Array.size h<=Am:=Az;have Bz:=E4.1;have Z8:=(Ext.refl h).trans E4;refine APa [.bool false,.slice none 0 0] ANt rfl (λ_=>trivial) λAd Ah A4 Ae A5 B2=>?_;have B3:Array.size h<=Ad:=Nat.le_trans E4.1 A5;have nebq1bq9:Am≠Ad:=by have:=V3.lt;omega
 have B4:=Ae.1;have A6:=Z8.trans Ae;have Ap:=E4.trans Ae;have Aq:=V3.ext Ae;have A7:=E4.trans Ae;refine AH5<|AH3<|AKg (λh'=>Ext Ah h') AIb ?_;have Af:=Ext.refl Ah;refine AOe (fs:=1) ATz AIb AHz rfl (AJe ANf rfl Af (λh' hb=>(Aq.ext hb).cell (i:=0) rfl) (AMp rfl (AOe (fs:=1) AUj AIb AHz rfl (AJe AQb rfl Af (λh' hb=>(Aq.ext hb).cell (i:=1) rfl) (AIz Af rfl (AU2 (DS.mono (HDa.ext Ap)<|Nat.zero_le _) hna) λB5 Ah hk=>?_)))));obtain ⟨rfl,L1,Ai,A8⟩:=hk;refine ⟨Af,?_⟩;have A9:=Ai.ds (lo:=lo) HDa.lo;have Ar:=Ai.val;have B7:=Ai.len;refine AIz Af rfl (Ahx A9 AHx) λB8 B9 hk=>?_;obtain ⟨Ab,Au⟩:=hk;have Aj:=Af.trans Ab;refine ⟨Aj,?_⟩;have Ca:=Ab.1;have Ba:=A6.trans Ab;have Bb:=Ap.trans Ab;have Bc:=A7.trans Ab;have Be:=A4.ext Ab;have Bf:=Ae.trans Ab;refine AIz Aj rfl (ASi (!na) Au A8 AHx) λCb Cd hk=>?_;obtain ⟨Aa,Bg⟩:=hk;have Bh:=Aj.trans Aa;refine ⟨Bh,?_⟩;have Ce:=Aa.1;have Bi:=Ba.trans Aa;have Bj:=Bb.trans Aa;have Bl:=Bc.trans Aa;have Bm:=Be.ext Aa;have Bn:=Bf.trans Aa;have Bo:=Au.ext Aa;obtain ⟨Av,s3,L3,rfl,Ax,Bq,Br,Ay⟩:=Bg.out;refine AKo [.bool Av,s3] AJz rfl rfl rfl rfl (ARw Ax.cap) Bm λCf Bt Ac=>?_;have Bu:=Bj.thenUpd Ac (λk hk=>by have Ak:k=Ad:=hk;omega);have Cg:=Ac.1;have Ch:=Bi.thenUpd Ac (λk hk=>by have Ak:k=Ad:=hk;omega);have Ci:=Bn.thenUpd Ac (λk hk=>by have Ak:k=Ad:=hk;omega);have Cj:=Bl.thenUpd Ac (λk hk=>by have Ak:k=Ad:=hk;omega);have Ck:=Bo.updLo Ac AHx;have Bv:=Ax.updLo Ac AHx;refine AH5<|AIc<|⟨_,AKs AJz rfl rfl Bt,?_⟩;exact ⟨Bu,⟨Av,s3,L3,rfl,Bv.mono AHx,Bq,Br,by first | (rw [<- Ay,Ar,hza];done) | (rw [<- Ay,Ar,hza];cases na <;> simp [sgn])⟩⟩
theorem Normalize_ok {lo:Nat} {z:Int} (HA:ZV h lo va z):AI7 Tryz.prog 85 #[va] h λx h'=>Ext h h'/\ZV h' (Array.size h) x (z):=by
 obtain ⟨na,sa,LA,rfl,HDa,htla,hla,hza⟩:=HA.out;have hna:LA.length<=1000000:=by omega
 refine AJi (l:=[_]) mx Tryz.func85 rfl rfl rfl rfl rfl AIb (AH1<|AR0 [.bool na,sa] (λ_=>trivial) rfl rfl λAm h2 V3 E4 Az Bx=>?_);have By:Array.size h<=Am:=Az;have Bz:=E4.1;have Z8:=(Ext.refl h).trans E4;refine APa [.bool false,.slice none 0 0] ANt rfl (λ_=>trivial) λAd Ah A4 Ae A5 B2=>?_;have B3:Array.size h<=Ad:=Nat.le_trans E4.1 A5;have nebq1bq9:Am≠Ad:=by have:=V3.lt;omega
 have B4:=Ae.1;have A6:=Z8.trans Ae;have Ap:=E4.trans Ae;have Aq:=V3.ext Ae;have A7:=E4.trans Ae;refine AH5<|AH3<|AKg (λh'=>Ext Ah h') AIb ?_;have Af:=Ext.refl Ah;refine AOe (fs:=1) ATz AIb AHz rfl (AJe ANf rfl Af (λh' hb=>(Aq.ext hb).cell (i:=0) rfl) (AOe (fs:=1) AUj AIb AHz rfl (AJe AQb rfl Af (λh' hb=>(Aq.ext hb).cell (i:=1) rfl) (AIz Af rfl (AU2 (DS.mono (HDa.ext Ap)<|Nat.zero_le _) hna) λB5 Ah hk=>?_))));obtain ⟨rfl,L1,Ai,A8⟩:=hk;refine ⟨Af,?_⟩;have A9:=Ai.ds (lo:=lo) HDa.lo;have Ar:=Ai.val;have B7:=Ai.len;refine AIz Af rfl (Ahx A9 AHx) λB8 B9 hk=>?_;obtain ⟨Ab,Au⟩:=hk;have Aj:=Af.trans Ab;refine ⟨Aj,?_⟩;have Ca:=Ab.1;have Ba:=A6.trans Ab;have Bb:=Ap.trans Ab;have Bc:=A7.trans Ab;have Be:=A4.ext Ab;have Bf:=Ae.trans Ab;refine AIz Aj rfl (ASi na Au A8 AHx) λCb Cd hk=>?_;obtain ⟨Aa,Bg⟩:=hk;have Bh:=Aj.trans Aa;refine ⟨Bh,?_⟩;have Ce:=Aa.1;have Bi:=Ba.trans Aa;have Bj:=Bb.trans Aa;have Bl:=Bc.trans Aa;have Bm:=Be.ext Aa;have Bn:=Bf.trans Aa;have Bo:=Au.ext Aa;obtain ⟨Av,s3,L3,rfl,Ax,Bq,Br,Ay⟩:=Bg.out;refine AKo [.bool Av,s3] AJz rfl rfl rfl rfl (ARw Ax.cap) Bm λCf Bt Ac=>?_;have Bu:=Bj.thenUpd Ac (λk hk=>by have Ak:k=Ad:=hk;omega);have Cg:=Ac.1;have Ch:=Bi.thenUpd Ac (λk hk=>by have Ak:k=Ad:=hk;omega);have Ci:=Bn.thenUpd Ac (λk hk=>by have Ak:k=Ad:=hk;omega);have Cj:=Bl.thenUpd Ac (λk hk=>by have Ak:k=Ad:=hk;omega);have Ck:=Bo.updLo Ac AHx;have Bv:=Ax.updLo Ac AHx;refine AH5<|AIc<|⟨_,AKs AJz rfl rfl Bt,?_⟩;exact ⟨Bu,⟨Av,s3,L3,rfl,Bv.mono AHx,Bq,Br,by first | (rw [<- Ay,Ar,hza];done) | (rw [<- Ay,Ar,hza];cases na <;> simp [sgn])⟩⟩
def AV3 (a b:Nat):Int:=if a < b then -1 else if a=b then 0 else 1
theorem ASp {a b:Nat} (h:a < b):AV3 a b= -1:=if_pos h
theorem ASq {a b:Nat} (h:b < a):AV3 a b=1:=by unfold AV3;omega
theorem AZ3 {a b:Nat} (h:a=b):AV3 a b=0:=by unfold AV3;omega
theorem ASr {A:List Nat} (ha:Dig A) (hb:TL B) (h:A.length < B.length):nv A < nv B:=by
 have h1:=AVx ha;have h2:=Aw7 hb (λhe=>by grind);have h3:4294967296 ^ A.length<=4294967296 ^ (B.length - 1):=Nat.pow_le_pow_right AHz AHx;omega
theorem ASs {A:List Nat} (ha:Dig A) (hb:Dig B) {x y:Nat} (hl:A.length=B.length) (hx:A[i]? =some x) (hy:B[i]? =some y) (hxy:x < y) (hs:∀ q,i < q->A[q]? =B[q]?):nv A < nv B:=by
 have hi:=(List.getElem?_eq_some_iff.1 hx).1;have hd:A.drop (i + 1)=B.drop (i + 1):=List.ext_getElem? λq=>by grind
 have e:∀ L:List Nat,nv L=nv (L.take<|i + 1) + 4294967296 ^ (L.take<|i + 1).length * nv (L.drop<|i + 1):=λL=>by rw [<- Aet,List.take_append_drop]
 rw [e A,e B,hd,AKl hx,AKl hy,List.length_take,List.length_take,hl];have h1:=AZy ha (i:=i) AHx;have h2:4294967296 ^ i * (x + 1)<=4294967296 ^ i * y:=Nat.mul_le_mul_left _ hxy;grind
theorem Afq (HA:DS h la va LA) (HB:DS h lb vb LB) (hta:TL LA) (htb:TL LB) (hna:LA.length<=1000000) (hnb:LB.length<=1000000):AI7 Tryz.prog 151 #[va,vb] h λx h'=>h'=h/\x= .int .i64 (AV3 (nv LA)<|nv LB):=by
 refine AJi (l:=[_,_]) mx Tryz.func151 rfl rfl rfl rfl rfl AIb (AH1<|AH7<|AH3<|AH6<|AH1<|AHy<|AKc AIy rfl HA (AHy<|AKc AIy rfl HB (ANd rfl rfl (λAc=>?_) (λAc=>?_))))
 ·refine AH7 (AI2 rfl (AH1<|AH7<|AIc<|AKa<|AIt<|⟨_,AId,?_⟩))
  first
  | exact ⟨rfl,congrArg (Value.int .i64) (ASp<|ASr HA.dig htb AHx).symm⟩
  | exact ⟨rfl,congrArg (Value.int .i64) (ASq<|ASr HB.dig hta AHx).symm⟩
  | exact ⟨rfl,congrArg (Value.int .i64) (ASp<|ASs HA.dig HB.dig AHx hx hy AHx λq hq=>hsame q AHx).symm⟩
  | exact ⟨rfl,congrArg (Value.int .i64) (ASq<|ASs HB.dig HA.dig AHx hy hx AHx λq hq=>(hsame q AHx).symm).symm⟩
  | exact ⟨rfl,congrArg (Value.int .i64) (AZ3<|congrArg nv<|List.ext_getElem? λq=>hsame q AHx).symm⟩
 ·refine AH7<|AI6 rfl (AH1<|AHy<|AKc AIy rfl HA (AHy<|AKc AIy rfl HB (AZu rfl rfl (λAd=>?_) (λAd=>?_))))
  ·refine AH7 (AI2 rfl (AH1<|AH7<|AIc<|AKa<|AIt<|⟨_,AId,?_⟩))
   first
   | exact ⟨rfl,congrArg (Value.int .i64) (ASp<|ASr HA.dig htb AHx).symm⟩
   | exact ⟨rfl,congrArg (Value.int .i64) (ASq<|ASr HB.dig hta AHx).symm⟩
   | exact ⟨rfl,congrArg (Value.int .i64) (ASp<|ASs HA.dig HB.dig AHx hx hy AHx λq hq=>hsame q AHx).symm⟩
   | exact ⟨rfl,congrArg (Value.int .i64) (ASq<|ASs HB.dig HA.dig AHx hy hx AHx λq hq=>(hsame q AHx).symm).symm⟩
   | exact ⟨rfl,congrArg (Value.int .i64) (AZ3<|congrArg nv<|List.ext_getElem? λq=>hsame q AHx).symm⟩
  ·refine AH7<|AI6 rfl (AIa<|q_b<|q_t<|AH3<|AH1<|AHy<|AKc AIy rfl HA (AU7 rfl rfl AHx AHx (AH7<|AH6<|AMc 35184369991728 (λi:Nat=>[(5,.int .i64<|(i:Int) - 1)]) (λk i h'=>h'=h/\i=k/\i<=LA.length/\ ∀ q,i<=q->LA[q]? =LB[q]?) AIb LA.length LA.length ?_ ⟨rfl,trivial⟩ ?_)))
   ·exact ⟨rfl,rfl,Nat.le_refl _,λq hq=>by rw [List.getElem?_eq_none hq,List.getElem?_eq_none AHx]⟩
   rintro k i s1 h ⟨rfl,rfl,hi,hsame⟩;refine AH3<|AH1<|AHy<|Ad0 rfl rfl (λAe=>?_) (λAe=>?_)
   ·refine AH5<|AI2 rfl (AIa<|q_t<|AH3<|AH6<|AH6<|AH3 ?_);obtain ⟨x,hx⟩:∃ x,LA[i - 1]? =some x:=⟨_,List.getElem?_eq_getElem AHx⟩;obtain ⟨y,hy⟩:∃ y,LB[i - 1]? =some y:=⟨_,List.getElem?_eq_getElem AHx⟩;have e1:((i:Int) - 1)=((i - 1:Nat):Int):=by omega
    refine AZt AIb<|AHy<|AHy<|ARd (n:=i - 1) AIy rfl HA (show Value.int .i64 ((i:Int) - 1)=_ by rw [e1]) hx λa1 Af=>?_;refine AI1 AKz rfl Af (AHy<|AHy<|ARd (n:=i - 1) AIy rfl HB (show Value.int .i64 ((i:Int) - 1)=_ by rw [e1]) hy λa2 Ag=>?_);refine AI1 AKz rfl Ag (ANd rfl rfl (λAh=>?_) (λAh=>?_))
    ·refine AH7 (AI2 rfl (AH1<|AH7<|AIc<|AKa<|AKa<|AIt<|AIt<|AKa<|AIt<|⟨_,AId,?_⟩))
     first
     | exact ⟨rfl,congrArg (Value.int .i64) (ASp<|ASr HA.dig htb AHx).symm⟩
     | exact ⟨rfl,congrArg (Value.int .i64) (ASq<|ASr HB.dig hta AHx).symm⟩
     | exact ⟨rfl,congrArg (Value.int .i64) (ASp<|ASs HA.dig HB.dig AHx hx hy AHx λq hq=>hsame q AHx).symm⟩
     | exact ⟨rfl,congrArg (Value.int .i64) (ASq<|ASs HB.dig HA.dig AHx hy hx AHx λq hq=>(hsame q AHx).symm).symm⟩
     | exact ⟨rfl,congrArg (Value.int .i64) (AZ3<|congrArg nv<|List.ext_getElem? λq=>hsame q AHx).symm⟩
    ·refine AH7<|AI6 rfl (AH3<|AZt AIb<|AHy<|AHy<|ARd (n:=i - 1) AIy rfl HA (show Value.int .i64 ((i:Int) - 1)=_ by rw [e1]) hx λa3 Ai=>?_);refine AI1 AKz rfl Ai (AHy<|AHy<|ARd (n:=i - 1) AIy rfl HB (show Value.int .i64 ((i:Int) - 1)=_ by rw [e1]) hy λa4 Aj=>?_);refine AI1 AKz rfl Aj (AZu rfl rfl (λAk=>?_) (λAk=>?_))
     ·refine AH7 (AI2 rfl (AH1<|AH7<|AIc<|AKa<|AKa<|AIt<|AIt<|AKa<|AIt<|⟨_,AId,?_⟩))
      first
      | exact ⟨rfl,congrArg (Value.int .i64) (ASp<|ASr HA.dig htb AHx).symm⟩
      | exact ⟨rfl,congrArg (Value.int .i64) (ASq<|ASr HB.dig hta AHx).symm⟩
      | exact ⟨rfl,congrArg (Value.int .i64) (ASp<|ASs HA.dig HB.dig AHx hx hy AHx λq hq=>hsame q AHx).symm⟩
      | exact ⟨rfl,congrArg (Value.int .i64) (ASq<|ASs HB.dig HA.dig AHx hy hx AHx λq hq=>(hsame q AHx).symm).symm⟩
      | exact ⟨rfl,congrArg (Value.int .i64) (AZ3<|congrArg nv<|List.ext_getElem? λq=>hsame q AHx).symm⟩
     ·refine AH7<|AI6 rfl (AIa<|q_b<|q_b<|q_t<|AIf<|AHy<|AU7 rfl rfl AHx AHx (AH7 ?_));exact ⟨i - 1,i - 1,AHx,⟨rfl,rfl,AHx,λq hq=>by rcases Nat.lt_or_ge q i with h2 | h2;obtain rfl:q=i - 1:=AHx;rw [hx,hy];congr 1;omega;exact hsame q h2⟩,by rw [show ((i - 1:Nat):Int) - 1=(i:Int) - 1 - 1 by omega];rfl,trivial⟩
   ·refine AH5 (AI6 rfl (AIq<|AIr<|AIr<|AJt<|q_t<|AH1<|AH7<|AIc<|⟨_,AId,?_⟩))
    first
    | exact ⟨rfl,congrArg (Value.int .i64) (ASp<|ASr HA.dig htb AHx).symm⟩
    | exact ⟨rfl,congrArg (Value.int .i64) (ASq<|ASr HB.dig hta AHx).symm⟩
    | exact ⟨rfl,congrArg (Value.int .i64) (ASp<|ASs HA.dig HB.dig AHx hx hy AHx λq hq=>hsame q AHx).symm⟩
    | exact ⟨rfl,congrArg (Value.int .i64) (ASq<|ASs HB.dig HA.dig AHx hy hx AHx λq hq=>(hsame q AHx).symm).symm⟩
    | exact ⟨rfl,congrArg (Value.int .i64) (AZ3<|congrArg nv<|List.ext_getElem? λq=>hsame q AHx).symm⟩
theorem Al4 (HA:DS h la va LA) (HB:DS h lb vb LB) (hna:LA.length<=1000) (hnb:LB.length<=1000):AI7 Tryz.prog 126 #[va,vb] h λx h'=>Ext h h'/\ ∃ L,DS h' (Array.size h) x L/\TL L/\nv L=nv LA + nv LB/\L.length<=1001:=by
 refine AJi (l:=[_,_]) mx Tryz.func126 rfl rfl rfl rfl rfl AIb (AH1<|AH7<|Adx 65027 (λy:Value × Value × List Nat × List Nat=>[(0,y.1),(1,y.2.1)]) (λy h'=>h'=h/\DS h 0 y.1 y.2.2.1/\DS h 0 y.2.1 y.2.2.2/\y.2.2.2.length<=y.2.2.1.length/\y.2.2.1.length<=1000/\nv y.2.2.1 + nv y.2.2.2=nv LA + nv LB) AIb ?_ ?_)
 ·refine AH1<|AHy<|AKc AIy rfl HA (AHy<|AKc AIy rfl HB (ANd rfl rfl (λAo=>?_) (λAo=>?_)))
  ·refine AH5<|AI2 rfl (AIf<|AHy<|AHy<|AIw<|AH7 ?_);exact ⟨(_,_,LB,LA),⟨rfl,HB.mono<|Nat.zero_le _,HA.mono<|Nat.zero_le _,by first | omega | (dsimp only;omega),hnb,Nat.add_comm _ _⟩,rfl,rfl,trivial⟩
  ·refine AH5<|AI6 rfl (AIa<|q_t ?_);exact ⟨(_,_,LA,LB),⟨rfl,HA.mono<|Nat.zero_le _,HB.mono<|Nat.zero_le _,by first | omega | (dsimp only;omega),hna,rfl⟩,rfl,rfl,trivial⟩
 rintro ⟨A9,Ba,A,B⟩ s0 h ⟨rfl,HX,HY,hBA,Ap,hsum⟩;dsimp only at HX HY hBA Ap hsum ⊢;refine AH1<|AHy<|AKc AIy rfl HX (AXx (b:=1) rfl rfl AHx (Aj0 (n:=A.length + 1) AIy AT5 (λ_=>trivial) rfl rfl AHz AHx λg1 v1 h1 Aq E1 Ar Be=>?_));have Bf:=E1.1;have Z2:=(Ext.refl h).trans E1;refine AJd<|AH7<|AH3<|AH1<|AHy<|AKc AIy rfl (HY.ext E1) (AHy<|AH5<|AH6<|AMc 70368739983552 (λy:Nat × Nat=>[(22,.int .i64 (y.1:Int)),(6,.int .u64 (y.2:Int))]) (λk y h'=>k=B.length - y.1/\y.1<=B.length/\Ext h h'/\y.2<=1/\ ∃ D,AMd h' 160 g1 v1 ((D ++ List.replicate ((A.length + 1) - y.1) 0).map AV8)/\D.length=y.1/\Dig D/\nv D + 4294967296 ^ y.1 * y.2=nv (A.take y.1) + nv (B.take y.1)) AIb B.length (0,0) ?_ ⟨rfl,rfl,trivial⟩ ?_)
 ·exact ⟨rfl,Nat.zero_le _,E1,by first | omega | (dsimp only;omega),[],by simpa using Aq,rfl,λx hx=>(by simp at hx),rfl⟩
 rintro k ⟨i,c⟩ s1 h2 ⟨rfl,hi,E2,hc,D,Ag,hDl,hDd,hDv⟩;dsimp only at hi hc Ag hDl hDv ⊢;have Bi:=E2.1;refine AH1<|ANd rfl rfl (λAu=>?_) (λAu=>?_)
 ·refine AH5<|AH3<|AI2 rfl (AIa<|q_t<|AH3<|AH6<|AH1<|AHy<|AH7<|AH3 ?_);obtain ⟨x,hx⟩:∃ x,A[i]? =some x:=⟨_,List.getElem?_eq_getElem AHx⟩;have hbx:=HX.dig x<|List.mem_of_getElem? hx;obtain ⟨y,hy⟩:∃ x,B[i]? =some x:=⟨_,List.getElem?_eq_getElem AHx⟩;have hby:=HY.dig y<|List.mem_of_getElem? hy;refine AZt AIb<|AHy<|AHy<|AHy<|ARd AIy rfl (HX.ext E2) rfl hx λBj Av=>AI1 AKz rfl Av (Abd ALw ALc rfl hbx (AHy<|AHy<|ARd AIy rfl (HY.ext E2) rfl hy λBl Aw=>AI1 AKz rfl Aw (Abd ALw ALc rfl hby (AW3 rfl rfl AHx (AW3 rfl rfl AHx (AJd<|AHy<|AHy<|AHy<|Adm ALc ALw rfl (Abp AIy rfl Ag rfl (by simp;omega) ?_)))))));refine Adl (D ++ [(c + (x + y)) % 4294967296] ++ List.replicate (A.length + 1 - (i + 1)) 0) AKz rfl rfl Ag (by simp;omega) (Aiy hDl AHx) λh4 Ax U4=>?_;have Bn:=U4.1;have X7:=E2.thenUpd U4 (λk hk=>by have Ad:k=g1:=hk;omega);have Z8:=E2.thenUpd U4 (λk hk=>by have Ad:k=g1:=hk;omega);refine AH5<|AIf<|AHy<|Aco rfl rfl (AIw<|AIu<|q_b<|q_t<|AIf<|ASf rfl AHx (AHy<|AH5 ?_));exact ⟨B.length - (i + 1),(i + 1,(c + (x + y)) / 4294967296),by first | omega | (dsimp only;omega),⟨rfl,by first | omega | (dsimp only;omega),X7,by first | omega | (dsimp only;omega),_,Ax,by simp [hDl],AVb hDd<|Nat.mod_lt _ AHz,by rw [AT1,hDl,Acp hDv,AKl hx,AKl hy,Nat.mul_add];omega⟩,rfl,rfl,trivial⟩
 ·refine AH5<|AH3<|AI6 rfl (AIq<|AIr<|AIr<|AJt<|q_t<|AH3<|AH1<|AHy<|AKc AIy rfl (HX.ext E2) (AHy<|AKc AIy rfl (HY.ext E2) (AU7 rfl rfl AHx AHx ?_)));rw [show ((A.length:Nat):Int) - ((B.length:Nat):Int)=((A.length - B.length:Nat):Int) by omega];refine AHy<|AH5<|AH6 ?_;obtain rfl:i=B.length:=by omega
  rw [List.take_length] at hDv;refine AMc 37778929611157348024640 (λy:Nat × Nat=>[(51,.int .i64 (y.1:Int)),(6,.int .u64 (y.2:Int))]) (λk y h'=>k=A.length - B.length - y.1/\y.1<=A.length - B.length/\Ext h h'/\y.2<=1/\ ∃ D,AMd h' 160 g1 v1 ((D ++ List.replicate ((A.length + 1) - (B.length + y.1)) 0).map AV8)/\D.length=B.length + y.1/\Dig D/\nv D + 4294967296 ^ (B.length + y.1) * y.2=nv (A.take<|B.length + y.1) + nv B) AIb (A.length - B.length) (0,c) ?_ ⟨rfl,rfl,trivial⟩ ?_
  ·exact ⟨rfl,Nat.zero_le _,E2,hc,D,Ag,hDl,hDd,hDv⟩
  rintro k ⟨j,c⟩ s2 h3 ⟨rfl,hj,E3,hc,D,Ae,hDl,hDd,hDv⟩;dsimp only at hj hc Ae hDl hDv ⊢;have Bq:=E3.1;refine AH1<|ANd rfl rfl (λAz=>?_) (λAz=>?_)
  ·refine AH5<|AH3<|AI2 rfl (AIa<|q_t<|AH3<|AH6<|AH1<|AHy<|AH7<|AH3 ?_);obtain ⟨x,hx⟩:∃ x,A[(B.length + j)]? =some x:=⟨_,List.getElem?_eq_getElem AHx⟩;have hbx:=HX.dig x<|List.mem_of_getElem? hx;refine AIf<|AHy<|AHy<|AHy<|AKc AIy rfl (HY.ext E3) (AHy<|AXx rfl rfl AHx (ARd AIy rfl (HX.ext E3) rfl hx λBr A3=>AI1 AKz rfl A3 (Abd ALw ALc rfl hbx (AW3 rfl rfl AHx (AJd<|AHy<|AHy<|AKc AIy rfl (HY.ext E3) (AHy<|AXx rfl rfl AHx (AHy<|Adm ALc ALw rfl (Abp AIy rfl Ae rfl (by simp;omega) ?_))))))));refine Adl (D ++ [(c + x) % 4294967296] ++ List.replicate (A.length + 1 - (B.length + j + 1)) 0) AKz rfl rfl Ae (by simp;omega) (Aiy hDl AHx) λh5 A4 U5=>?_;have Bu:=U5.1;have A5:=E3.thenUpd U5 (λk hk=>by have Ad:k=g1:=hk;omega);have Bv:=E3.thenUpd U5 (λk hk=>by have Ad:k=g1:=hk;omega);refine AH5<|AIf<|AHy<|Aco rfl rfl (AIw<|AIu<|q_b<|q_t<|AIf<|ASf rfl AHx (AHy<|AH5 ?_));exact ⟨A.length - B.length - (j + 1),(j + 1,(c + x) / 4294967296),by first | omega | (dsimp only;omega),⟨rfl,by first | omega | (dsimp only;omega),A5,by first | omega | (dsimp only;omega),_,A4,by simp [hDl];omega,AVb hDd<|Nat.mod_lt _ AHz,by rw [AT1,hDl,<- Nat.add_assoc,Acp hDv,AKl hx];omega⟩,rfl,rfl,trivial⟩
  ·refine AH5<|AH3<|AI6 rfl (AIq<|AIr<|AIr<|AJt<|q_t<|AH3 ?_);obtain rfl:j=A.length - B.length:=by omega
   have hBj:B.length + (A.length - B.length)=A.length:=by omega
   rw [hBj,List.take_length] at hDv;rw [hBj] at hDl;refine AIf<|AHy<|AHy<|AKc AIy rfl (HX.ext E3) (AHy<|Adm ALc ALw rfl (Abp AIy rfl Ae rfl (by simp;omega) ?_));refine Adl (D ++ [c % 4294967296] ++ List.replicate (A.length + 1 - (A.length + 1)) 0) AKz rfl rfl Ae (by simp;omega) (by rw [hBj];exact Aiy hDl AHx) λh6 Ak U6=>?_;have Bw:=U6.1;have A7:=E3.thenUpd U6 (λk hk=>by have Ad:k=g1:=hk;omega);have Bx:=E3.thenUpd U6 (λk hk=>by have Ad:k=g1:=hk;omega);rw [Nat.sub_self,List.replicate_zero,List.append_nil,Nat.mod_eq_of_lt AHx] at Ak;have Am:=Ak.ds (lo:=Array.size h) (AVb hDd AHx) Ar;refine AQs<|AHy<|AIz trivial rfl (AU2 (Am.mono<|Nat.zero_le _) (by simp;omega)) λBy h6 hk=>?_;obtain ⟨rfl,L2,HT,htl⟩:=hk;refine ⟨trivial,?_⟩;refine AH7<|AIc<|⟨_,AId,?_⟩;exact ⟨A7,L2,HT.ds Am.lo,htl,by rw [HT.val,AT1,hDl,hDv];exact hsum,by have:=HT.len;simp at this;omega⟩
theorem Ahy (HA:DS h la va LA) (HB:DS h lb vb LB) (htb:TL LB) (hle:nv LB<=nv LA) (hna:LA.length<=1000):AI7 Tryz.prog 127 #[va,vb] h λx h'=>Ext h h'/\ ∃ L,DS h' (Array.size h) x L/\TL L/\nv L=nv LA - nv LB/\L.length<=LA.length:=by
 refine AJi (l:=[_,_]) mx Tryz.func127 rfl rfl rfl rfl rfl AIb (AH1<|AJd<|AHy<|AKc AIy rfl HA (Aj0 (n:=LA.length) AIy AT5 (λ_=>trivial) rfl rfl AHz AHx λg1 v1 h1 Aj E1 Ak Az=>?_));have A3:=E1.1;have Z2:=(Ext.refl h).trans E1;refine AJd<|AH7<|AH3<|AH1<|AHy<|AKc AIy rfl (HA.ext E1) (AHy<|AH5<|AH6<|AMc 8796093006272 (λy:Nat × Nat=>[(14,.int .i64 (y.1:Int)),(6,.int .u64 (y.2:Int))]) (λk y h'=>k=LA.length - y.1/\y.1<=LA.length/\Ext h h'/\y.2<=1/\ ∃ D,AMd h' 160 g1 v1 ((D ++ List.replicate (LA.length - y.1) 0).map AV8)/\D.length=y.1/\Dig D/\nv D + nv (LB.take y.1)=nv (LA.take y.1) + 4294967296 ^ y.1 * y.2) AIb LA.length (0,0) ?_ ⟨rfl,rfl,trivial⟩ ?_)
 ·exact ⟨rfl,Nat.zero_le _,E1,by first | omega | (dsimp only;omega),[],by simpa using Aj,rfl,λx hx=>(by simp at hx),rfl⟩
 rintro k ⟨i,c⟩ s1 h2 ⟨rfl,hi,E2,hc,D,Ab,hDl,hDd,hDv⟩;dsimp only at hi hc Ab hDl hDv ⊢;have A5:=E2.1;refine AH1<|ANd rfl rfl (λAm=>?_) (λAm=>?_)
 ·refine AH5<|AH3<|AI2 rfl (AIa<|q_t<|AH3<|AH6<|AH1<|AHy<|AH7<|AH3 ?_);obtain ⟨x,hx⟩:∃ x,LA[i]? =some x:=⟨_,List.getElem?_eq_getElem AHx⟩;have hbx:=HA.dig x<|List.mem_of_getElem? hx;refine AIf<|AHy<|AHy<|ARd AIy rfl (HA.ext E2) rfl hx λA6 Ao=>AI1 AKz rfl Ao (Abd ALw ALc rfl hbx (AHy<|AMy rfl rfl ?_));rw [wrap_u64];refine AH7<|Adx 34342961408 (λs:Int=>[(8,.int .u64<|s % 18446744073709551616)]) (λs h'=>h'=h2/\s=((x:Int) - (c:Int) - ((LB[i]?.getD 0:Nat):Int))) AIb ?_ ?_
  ·refine AH1<|AHy<|AHy<|AKc AIy rfl (HB.ext E2) (ANd rfl rfl (λAp=>?_) (λAp=>?_))
   ·refine AH5<|AI2 rfl ?_;obtain ⟨y,Af⟩:∃ y,LB[i]? =some y:=⟨_,List.getElem?_eq_getElem AHx⟩;have hby:=HB.dig y<|List.mem_of_getElem? Af;refine AIf<|AHy<|AHy<|AHy<|ARd AIy rfl (HB.ext E2) rfl Af λA7 Aq=>AI1 AKz rfl Aq (Abd ALw ALc rfl hby (AMy rfl rfl (AH7 ?_)));exact ⟨((x:Int) - (c:Int) - ((LB[i]?.getD 0:Nat):Int)),⟨rfl,rfl⟩,by rw [Af];show Value.int .u64 _=_;congr 1;rw [wrap_u64];simp only [Option.getD_some];omega,trivial⟩
   ·refine AH5<|AI6 rfl (AIa<|q_t ?_);exact ⟨((x:Int) - (c:Int) - ((LB[i]?.getD 0:Nat):Int)),⟨rfl,rfl⟩,by rw [List.getElem?_eq_none AHx];show Value.int .u64 _=_;congr 1;simp only [Option.getD_none];omega,trivial⟩
  rintro s s2 h2 ⟨rfl,hs⟩;obtain ⟨y,hy⟩:∃ y,LB[i]?.getD 0=y:=⟨_,rfl⟩;rw [hy] at hs;refine AH3 ?_
  have hby:y < 4294967296:=by
   rw [<- hy]
   cases hq:LB[i]? with
   | none=>simp
   | some q=>exact HB.dig q<|List.mem_of_getElem? hq
  refine AIf<|AHy<|AHy<|AHy<|ASz ALc ALw rfl ?_;obtain ⟨dg,hdg⟩:∃ dg:Nat,(dg:Int)=s % 4294967296:=⟨(s % 4294967296).toNat,AHx⟩;rw [show IntKind.u32.wrap (s % 18446744073709551616)=(dg:Int) by rw [wrap_u32,hdg];omega];refine Abp AIy rfl Ab rfl (by simp;omega) ?_;refine Adl (D ++ [dg] ++ List.replicate (LA.length - (i + 1)) 0) AKz rfl rfl Ab (by simp;omega) (Aiy hDl AHx) λh4 Ar U4=>?_;have A9:=U4.1;have X7:=E2.thenUpd U4 (λk hk=>by have Av:k=g1:=hk;omega);have Z8:=E2.thenUpd U4 (λk hk=>by have Av:k=g1:=hk;omega);refine AH5<|AIf<|AHy<|Ajx (n:=63) rfl rfl AHz ?_;rw [show s % 18446744073709551616 / 2 ^ 63=((if s < 0 then 1 else 0:Nat):Int) by split <;> omega];refine AIw<|AIu<|q_b<|q_t<|AIf<|ASf rfl AHx (AHy<|AH5 ?_);exact ⟨LA.length - (i + 1),(i + 1,if s < 0 then 1 else 0),by first | omega | (dsimp only;omega),⟨rfl,by first | omega | (dsimp only;omega),X7,by dsimp only;split <;> omega,_,Ar,by simp [hDl],AVb hDd AHx,by rw [AT1,hDl,AT2 LB,hy,AKl hx];exact Ad5 hDv (by split <;> omega)⟩,rfl,rfl,trivial⟩
 ·refine AH5<|AH3<|AI6 rfl (AIq<|AIr<|AIr<|AJt<|q_t<|AH3 ?_);obtain rfl:i=LA.length:=by omega
  rw [List.take_length,List.take_of_length_le (by have:=AUq htb<|Nat.lt_of_le_of_lt hle<|AVx HA.dig;omega)] at hDv;have hDlt:=AVx hDd;rw [hDl] at hDlt
  have Aw:c=0:=by
   rcases Nat.eq_zero_or_pos c with h0 | h0
   ·exact h0
   ·obtain rfl:c=1:=by omega
    rw [Nat.mul_one] at hDv;omega
  subst Aw;rw [Nat.mul_zero,Nat.add_zero] at hDv;rw [Nat.sub_self,List.replicate_zero,List.append_nil] at Ab;have Ai:=Ab.ds (lo:=Array.size h) hDd Ak;refine AIf<|AHy<|AIz trivial rfl (AU2 (Ai.mono<|Nat.zero_le _) AHx) λx9 h2 hk=>?_;obtain ⟨rfl,L2,HT,htl⟩:=hk;refine ⟨trivial,?_⟩;refine AH7<|AIc<|⟨_,AId,?_⟩;exact ⟨E2,L2,HT.ds Ai.lo,htl,by rw [HT.val];omega,by have:=HT.len;omega⟩
theorem Ayo {L:List Nat} (h:Dig L) (hl:L.length<=1):nv L<=4294967295:=by
 have h1:=AVx h;have h2:4294967296 ^ L.length<=4294967296 ^ 1:=Nat.pow_le_pow_right AHz hl;omega
theorem Ayp {A:List Nat} (ha:Dig A) (hb:Dig B) (la:A.length<=1) (lb:B.length<=1):nv A * nv B < 18446744073709551616:=by
 have:=Nat.mul_le_mul (Ayo ha la)<|Ayo hb lb;omega
theorem AX0 {a b:Nat} (h:0<=AV3 a b):b<=a:=by
 unfold AV3 at h;omega
theorem Acs {a b:Nat} (h:AV3 a b < 0):a<=b:=by
 unfold AV3 at h;omega
theorem Aj5 {A:List Nat} (ha:Dig A) (hb:Dig B) (la:A.length<=99) (lb:B.length<=99):nv A + nv B < 4294967296 ^ 100:=by
 have h1:=AVx ha;have h2:=AVx hb;have h3:4294967296 ^ A.length<=4294967296 ^ 99:=Nat.pow_le_pow_right AHz la;have h4:4294967296 ^ B.length<=4294967296 ^ 99:=Nat.pow_le_pow_right AHz lb;omega
theorem Acu {a b:Bool} {x y:Nat} (h:a=b):sgn a x + sgn b y=sgn a (x + y):=by
 subst h;cases a <;> simp [sgn] <;> omega
theorem Acv {a b:Bool} {x y:Nat} (h:a≠b) (hl:y<=x):sgn a x + sgn b y=sgn a (x - y):=by
 cases a <;> cases b <;> simp [sgn] at h ⊢ <;> omega
theorem AZ4 {a b:Bool} {x y:Nat} (h:a≠b) (hl:x<=y):sgn a x + sgn b y=sgn b (y - x):=by
 cases a <;> cases b <;> simp [sgn] at h ⊢ <;> omega
theorem Anf (na nb:Bool) (HA:DS h la va LA) (HB:DS h lb vb LB) (hta:TL LA) (htb:TL LB) (hna:LA.length<=99) (hnb:LB.length<=99):AI7 Tryz.prog 150 #[.bool na,va,.bool nb,vb] h λx h'=>Ext h h'/\ZV h' (Array.size h) x (sgn na (nv LA) + sgn nb (nv LB)):=by
 refine AJi (l:=[_,_,_,_]) mx Tryz.func150 rfl rfl rfl rfl rfl AIb (AH1<|APa [.bool false,.slice none 0 0] ANt rfl (λ_=>trivial) λAb h2 V3 E4 A8 Cg=>?_);have Ch:Array.size h<=Ab:=A8;have Ci:=E4.1;have Z8:=(Ext.refl h).trans E4;refine AH5<|AH3<|AH6<|AH1<|AHy<|AHy<|Aos Aev rfl rfl ?_;cases Cj:na == nb
 ·refine AH7<|AI6 rfl (AH1<|AHy<|AHy<|AIz trivial rfl (Afq (HA.ext E4) (HB.ext E4) hta htb AHx AHx) λx9 h2 hk=>?_);obtain ⟨rfl,rfl⟩:=hk;refine ⟨trivial,?_⟩;refine Ad0 rfl rfl (λA9=>?_) (λA9=>?_)
  ·refine AH7<|AI2 rfl (AH1<|AHy<|AHy<|AHy<|AIz trivial rfl (Ahy (HA.ext E4) (HB.ext E4) htb (AX0<|by assumption) AHx) λCm Cn hk=>?_);obtain ⟨Aq,L1,Ac,Ag,Ah,A6⟩:=hk;refine ⟨trivial,?_⟩;have Co:=Aq.1;have Ba:=Z8.trans Aq;have Bb:=E4.trans Aq;have Bc:=V3.ext Aq;have Be:=E4.trans Aq;refine AIz trivial rfl (ASi na Ac Ag AHx) λCp Cq hk=>?_;obtain ⟨Ai,Ar⟩:=hk;refine ⟨trivial,?_⟩;have Cr:=Ai.1;have Bf:=Ba.trans Ai;have Bg:=Bb.trans Ai;have Bh:=Bc.ext Ai;have Bi:=Be.trans Ai;have Bj:=Ac.ext Ai;obtain ⟨Ad,s2,L2,rfl,Ae,Av,Aw,Ax⟩:=Ar.out;refine AKo [.bool Ad,s2] AJz rfl rfl rfl rfl (ARw Ae.cap) Bh λCt Bl Aj=>?_;have Bm:=Bg.thenUpd Aj (λk hk=>by have Af:k=Ab:=hk;omega);have Cu:=Aj.1;have Cv:=Bf.thenUpd Aj (λk hk=>by have Af:k=Ab:=hk;omega);have Cw:=Bi.thenUpd Aj (λk hk=>by have Af:k=Ab:=hk;omega);have Cx:=Bj.updLo Aj AHx;have Bn:=Ae.updLo Aj AHx;refine AH5<|AIc<|AKa<|AIt<|⟨_,AKs AJz rfl rfl Bl,?_⟩;exact ⟨Bm,⟨Ad,s2,L2,rfl,Bn.mono AHx,Av,Aw,by rw [<- Ax,Ah];first | exact Acu (eq_of_beq<|by assumption) | exact Acv (ne_of_beq_false<|by assumption) (AX0<|by assumption) | exact AZ4 (ne_of_beq_false<|by assumption)<|Acs<|by assumption⟩⟩
  ·refine AH7<|AI6 rfl (AIa<|q_b<|q_t<|AH1<|AHy<|AHy<|AHy<|AIz trivial rfl (Ahy (HB.ext E4) (HA.ext E4) hta (Acs<|by assumption) AHx) λCy Cz hk=>?_);obtain ⟨Ay,L1,Ac,Ag,Ah,A6⟩:=hk;refine ⟨trivial,?_⟩;have C0:=Ay.1;have Bo:=Z8.trans Ay;have Bp:=E4.trans Ay;have Bq:=V3.ext Ay;have Br:=E4.trans Ay;refine AIz trivial rfl (ASi nb Ac Ag AHx) λC1 C3 hk=>?_;obtain ⟨Ak,Ar⟩:=hk;refine ⟨trivial,?_⟩;have C4:=Ak.1;have Bt:=Bo.trans Ak;have Bu:=Bp.trans Ak;have Bv:=Bq.ext Ak;have Bw:=Br.trans Ak;have Bx:=Ac.ext Ak;obtain ⟨Ad,s2,L2,rfl,Ae,Av,Aw,Ax⟩:=Ar.out;refine AKo [.bool Ad,s2] AJz rfl rfl rfl rfl (ARw Ae.cap) Bv λC5 By Am=>?_;have Bz:=Bu.thenUpd Am (λk hk=>by have Af:k=Ab:=hk;omega);have C6:=Am.1;have C7:=Bt.thenUpd Am (λk hk=>by have Af:k=Ab:=hk;omega);have C8:=Bw.thenUpd Am (λk hk=>by have Af:k=Ab:=hk;omega);have C9:=Bx.updLo Am AHx;have B2:=Ae.updLo Am AHx;refine AH5<|AIc<|⟨_,AKs AJz rfl rfl By,?_⟩;exact ⟨Bz,⟨Ad,s2,L2,rfl,B2.mono AHx,Av,Aw,by rw [<- Ax,Ah];first | exact Acu (eq_of_beq<|by assumption) | exact Acv (ne_of_beq_false<|by assumption) (AX0<|by assumption) | exact AZ4 (ne_of_beq_false<|by assumption)<|Acs<|by assumption⟩⟩
 ·refine AH7<|AI2 rfl (AH1<|AHy<|AHy<|AHy<|AIz trivial rfl (Al4 (HA.ext E4) (HB.ext E4) AHx AHx) λDa Db hk=>?_);obtain ⟨Az,L1,Ac,Ag,Ah,A6⟩:=hk;refine ⟨trivial,?_⟩;have Dc:=Az.1;have B3:=Z8.trans Az;have B4:=E4.trans Az;have B5:=V3.ext Az;have B6:=E4.trans Az;refine AIz trivial rfl (ASi na Ac Ag<|AUq Ag (by rw [Ah];exact Aj5 HA.dig HB.dig hna hnb)) λDd De hk=>?_;obtain ⟨Ao,Ar⟩:=hk;refine ⟨trivial,?_⟩;have Df:=Ao.1;have B7:=B3.trans Ao;have B8:=B4.trans Ao;have B9:=B5.ext Ao;have Ca:=B6.trans Ao;have Cb:=Ac.ext Ao;obtain ⟨Ad,s2,L2,rfl,Ae,Av,Aw,Ax⟩:=Ar.out;refine AKo [.bool Ad,s2] AJz rfl rfl rfl rfl (ARw Ae.cap) B9 λDg Cd Ap=>?_;have Ce:=B8.thenUpd Ap (λk hk=>by have Af:k=Ab:=hk;omega);have Dh:=Ap.1;have Di:=B7.thenUpd Ap (λk hk=>by have Af:k=Ab:=hk;omega);have Dj:=Ca.thenUpd Ap (λk hk=>by have Af:k=Ab:=hk;omega);have Dk:=Cb.updLo Ap AHx;have Cf:=Ae.updLo Ap AHx;refine AH5<|AIc<|AKa<|AIt<|⟨_,AKs AJz rfl rfl Cd,?_⟩;exact ⟨Ce,⟨Ad,s2,L2,rfl,Cf.mono AHx,Av,Aw,by rw [<- Ax,Ah];first | exact Acu (eq_of_beq<|by assumption) | exact Acv (ne_of_beq_false<|by assumption) (AX0<|by assumption) | exact AZ4 (ne_of_beq_false<|by assumption)<|Acs<|by assumption⟩⟩
theorem ANu {ng:Bool} {n:Nat} {z:Int} (h:z=sgn ng n):z.natAbs=n:=by
 subst h;cases ng <;> simp [sgn]
theorem As2 (ng:Bool) (n:Nat):sgn (!ng) n= -sgn ng n:=by cases ng <;> simp [sgn]
theorem Sub_ok {b:Int} (HA:ZV h la va a) (HB:ZV h lb vb b) (hba:a.natAbs < 4294967296 ^ 99) (hbb:b.natAbs < 4294967296 ^ 99):AI7 Tryz.prog 121 #[va,vb] h λx h'=>Ext h h'/\ZV h' (Array.size h) x (a - b):=by
 obtain ⟨na,sa,LA,rfl,HDa,htla,hla,hza⟩:=HA.out;obtain ⟨nb,sb,LB,rfl,HDb,htlb,hlb,hzb⟩:=HB.out;refine AJi (l:=[_,_]) mx Tryz.func121 rfl rfl rfl rfl rfl AIb (AH1<|AR0 [.bool na,sa] (λ_=>trivial) rfl rfl λAj h2 V3 E4 A8 B3=>?_);have B4:Array.size h<=Aj:=A8;have B5:=E4.1;have Z8:=(Ext.refl h).trans E4;refine AR0 [.bool nb,sb] (λ_=>trivial) rfl rfl λAk B6 Ar Af Ba B7=>?_;have B8:Array.size h<=Ak:=Nat.le_trans E4.1 Ba;have nebq1bq9:Aj≠Ak:=by have:=V3.lt;omega
 have B9:=Af.1;have Au:=E4.trans Af;have Av:=V3.ext Af;refine APa [.bool false,.slice none 0 0] ANt rfl (λ_=>trivial) λAb Ah Bb Ac Bc Ca=>?_;have Cb:Array.size h<=Ab:=Nat.le_trans Au.1 Bc;have nebq1bq20:Aj≠Ab:=by have:=Av.lt;omega
 have nebq9bq20:Ak≠Ab:=by have:=Ar.lt;omega
 have Cd:=Ac.1;have Be:=(Z8.trans Af).trans Ac;have Am:=Au.trans Ac;have Aw:=Av.ext Ac;have Bf:=(E4.trans Af).trans Ac;have Ax:=Ar.ext Ac;have Bg:=Af.trans Ac;refine AH5<|AH3<|AKg (λh'=>Ext Ah h') AIb ?_;have Aa:=Ext.refl Ah;refine AOe (fs:=1) ATz AIb AHz rfl (AJe ANf rfl Aa (λh' hb=>(Aw.ext hb).cell (i:=0) rfl) (AOe (fs:=1) AUj AIb AHz rfl (AJe AQb rfl Aa (λh' hb=>(Aw.ext hb).cell (i:=1) rfl) (AIz Aa rfl (AU2 (DS.mono (HDa.ext Am)<|Nat.zero_le _) AHx) λCe Ah hk=>?_))));obtain ⟨rfl,L1,Ao,Ay⟩:=hk;refine ⟨Aa,?_⟩;have Bh:=Ao.ds (lo:=la) HDa.lo;have Az:=Ao.val;have Cg:=Ao.len;refine AOe (fs:=1) ATz AIb AHz rfl (AJe ANf rfl Aa (λh' hb=>(Ax.ext hb).cell (i:=0) rfl) (AMp rfl (AOe (fs:=1) AUj AIb AHz rfl (AJe AQb rfl Aa (λh' hb=>(Ax.ext hb).cell (i:=1) rfl) (AIz Aa rfl (AU2 (DS.mono (HDb.ext Am)<|Nat.zero_le _) AHx) λCh Ah hk=>?_)))));obtain ⟨rfl,L2,Ap,A3⟩:=hk;refine ⟨Aa,?_⟩;have Bi:=Ap.ds (lo:=lb) HDb.lo;have A4:=Ap.val;have Cj:=Ap.len;refine AIz Aa rfl (Anf na (!nb) Bh Bi Ay A3 (AUq Ay (by rw [Az,<- ANu hza];exact hba))<|AUq A3 (by rw [A4,<- ANu hzb];exact hbb)) λCk Cm hk=>?_;obtain ⟨Ad,Bj⟩:=hk;have Bl:=Aa.trans Ad;refine ⟨Bl,?_⟩;have Cn:=Ad.1;have Bm:=Be.trans Ad;have Bn:=Am.trans Ad;have Bo:=Bf.trans Ad;have Bp:=Bg.trans Ad;have Bq:=Bb.ext Ad;have Br:=Ac.trans Ad;obtain ⟨A5,s3,L3,rfl,A7,Bu,Bv,Bw⟩:=Bj.out;refine AKo [.bool A5,s3] AJz rfl rfl rfl rfl (ARw A7.cap) Bq λCo Bx Ae=>?_;have By:=Bn.thenUpd Ae (λk hk=>by have Ai:k=Ab:=hk;omega);have Cp:=Ae.1;have Cq:=Bm.thenUpd Ae (λk hk=>by have Ai:k=Ab:=hk;omega);have Cr:=Br.thenUpd Ae (λk hk=>by have Ai:k=Ab:=hk;omega);have Ct:=Bo.thenUpd Ae (λk hk=>by have Ai:k=Ab:=hk;omega);have Cu:=Bp.thenUpd Ae (λk hk=>by have Ai:k=Ab:=hk;omega);have Bz:=A7.updLo Ae AHx;refine AH5<|AIc<|⟨_,AKs AJz rfl rfl Bx,?_⟩;exact ⟨By,⟨A5,s3,L3,rfl,Bz.mono AHx,Bu,Bv,by rw [<- Bw,Az,A4,hza,hzb,As2];omega⟩⟩
theorem Am0 (a b:Bool) (x y:Nat):sgn a x * sgn b y=sgn (!(a == b)) (x * y):=by
 cases a <;> cases b <;> simp [sgn,Int.neg_mul,Int.mul_neg]
theorem Arb {L:List Nat} (h:Dig L) (hl:L.length<=2):nv L < 18446744073709551616:=by
 have h1:=AVx h;have h2:4294967296 ^ L.length<=4294967296 ^ 2:=Nat.pow_le_pow_right AHz hl;omega
theorem Agp {a b:Nat} (h:AV3 a b < 0):a < b:=by
 unfold AV3 at h;omega
theorem Art (HA:DS h la va LA) (HB:DS h lb vb LB) (hta:TL LA) (htb:TL LB) (Ar:nv LB≠0) (hna:LA.length<=2) (hnb:LB.length<=2):AI7 Tryz.prog 125 #[va,vb] h λx h'=>Ext h h'/\ ∃ q r,x= .tuple #[q,r]/\ ∃ LQ LR,DS h' (Array.size h) q LQ/\DS h' (Array.size h) r LR/\TL LQ/\TL LR/\nv LQ=nv LA / nv LB/\nv LR=nv LA % nv LB/\LQ.length<=2/\LR.length<=2:=by
 refine AJi (l:=[_,_]) mx Tryz.func125 rfl rfl rfl rfl rfl AIb (AH1<|AIw<|AH7<|AH3<|AH6<|AH1<|AHy<|AHy<|AIz trivial rfl (Afq HA HB hta htb AHx AHx) λx1 h hk=>?_);obtain ⟨rfl,rfl⟩:=hk;refine ⟨trivial,?_⟩;refine ANd rfl rfl (λAm=>?_) (λAm=>?_)
 ·refine AH7<|AI2 rfl (AH1<|AHy<|AIz trivial rfl (Ahx HA AHx) λx2 h3 hk=>?_);obtain ⟨E4,Aa⟩:=hk;refine ⟨trivial,?_⟩;have Ax:=E4.1;have Z6:=(Ext.refl h).trans E4;refine AIw (AH7<|AIc<|AKa<|AIt<|⟨_,AJu,?_⟩)
  first
  | (have hlt:=Agp (by assumption:AV3 (nv LA) (nv LB) < 0)
     exact ⟨E4,_,_,rfl,[],LA,AZx _ _,Aa,Abc,hta,by rw [Nat.div_eq_of_lt hlt];rfl,by rw [Nat.mod_eq_of_lt hlt],AI9,AHx⟩)
  | exact ⟨E4,_,_,rfl,L1,L2,lacks_HD1.mono AHx,Aa.mono AHx,Ag,Ah,Ai,Aj,AHx,AHx⟩
 ·refine AH7<|AI6 rfl (AH1<|AHy<|AKc AIy rfl HA (Abq rfl rfl (λ_=>?_) (λhc=>absurd hc AHx)));refine AH7<|AI2 rfl (AH1<|AHy<|AIz trivial rfl (Ajb HA AHx) λx7 h hk=>?_);obtain ⟨rfl,rfl⟩:=hk;refine ⟨trivial,?_⟩;refine AHy<|AIz trivial rfl (Ajb HB AHx) λx8 h hk=>?_;obtain ⟨rfl,rfl⟩:=hk;refine ⟨trivial,?_⟩;refine AIw<|AH7<|AH3 ?_;have hlt:=Arb HA.dig hna;refine AZt AIb<|AHy<|AHy<|AWz rfl rfl AHx ?_;rw [show IntKind.u64.wrap (((nv LA:Nat):Int).tdiv ((nv LB:Nat):Int))=((nv LA / nv LB:Nat):Int) by rw [Int.tdiv_eq_ediv_of_nonneg AHx,<- Int.natCast_ediv,wrap_u64];have hq:=Nat.div_le_self (nv LA)<|nv LB;generalize nv LA / nv LB=q at hq ⊢;omega];refine AIz trivial rfl (AYk (nv LA / nv LB) (by have:=Nat.div_le_self (nv LA)<|nv LB;omega) _) λx9 A5 hk=>?_;obtain ⟨Ad,L1,Ao,Ag,Ai,A6⟩:=hk;refine ⟨trivial,?_⟩;have A7:=Ad.1;have Ap:=(Ext.refl h).trans Ad;refine AHy<|AHy<|Awz rfl rfl AHx (AIz trivial rfl (AYk (nv LA % nv LB) (by have:=Nat.mod_le (nv LA)<|nv LB;omega) _) λA8 A9 hk=>?_);obtain ⟨Ac,L2,Aa,Ah,Aj,Ba⟩:=hk;refine ⟨trivial,?_⟩;have Bb:=Ac.1;have Bc:=Ap.trans Ac;have Ak:=Ad.trans Ac;have Aq:=Ao.ext Ac;refine AIw (AH7<|AIc<|AKa<|AIt<|⟨_,AJu,?_⟩)
  first
  | (have hlt:=Agp (by assumption:AV3 (nv LA) (nv LB) < 0)
     exact ⟨Ak,_,_,rfl,[],LA,AZx _ _,Aa,Abc,hta,by rw [Nat.div_eq_of_lt hlt];rfl,by rw [Nat.mod_eq_of_lt hlt],AI9,AHx⟩)
  | exact ⟨Ak,_,_,rfl,L1,L2,Aq.mono AHx,Aa.mono AHx,Ag,Ah,Ai,Aj,AHx,AHx⟩
theorem AUp {b:Int} (hb:b≠0) (h:a=b * q + r) (h0:0<=r) (h1:r < b.natAbs):a / b=q/\a % b=r:=by
 have hr:r % b=r:=by
  rcases Adk 0 b with hp | hn
  ·exact Int.emod_eq_of_lt h0 AHx
  ·rw [<- Int.emod_neg];exact Int.emod_eq_of_lt h0 AHx
 have hm:a % b=r:=by simp_all
 refine ⟨?_,hm⟩;have h2:=Int.mul_ediv_add_emod a b;rw [hm] at h2;have h3:b * (a / b)=b * q:=by omega
 exact Int.eq_of_mul_eq_mul_left hb h3
theorem A41 {A B:Nat} (hA:A < 18446744073709551616) (hr:A % B≠0):A / B + 1 < 18446744073709551616:=by
 match B with
 | 0=>simp
 | 1=>omega
 | n + 2=>
   have:A / (n + 2)<=A / 2:=Nat.div_le_div_left (show 2<=n + 2 by omega) AHx
   omega
theorem A42 {nb:Bool} {A B:Nat} (hB:B≠0):sgn nb (A / B)=(A:Int) / sgn nb B/\sgn false (A % B)=(A:Int) % sgn nb B:=by
 have h:=Nat.div_add_mod A B;have hl:=Nat.mod_lt A<|Nat.pos_of_ne_zero hB;have h2:(A:Int)=(B:Int) * ((A / B:Nat):Int) + ((A % B:Nat):Int):=by omega
 have:=AUp (a:=A) (b:=sgn nb B) (q:=sgn nb<|A / B) (r:=((A % B:Nat):Int)) (by cases nb <;> simp [sgn] <;> omega) (by cases nb <;> simp only [sgn] <;> simp [Int.neg_mul_neg] <;> (rw [<- Int.natCast_ediv,<- Int.natCast_emod];exact h2)) AHx (by cases nb <;> simp only [sgn] <;> simp <;> omega);exact ⟨this.1.symm,this.2.symm⟩
theorem A19 {nb:Bool} {A B:Nat} (hB:B≠0) (hr:A % B≠0):sgn (!nb) (A / B + 1)= -(A:Int) / sgn nb B/\sgn false (B - A % B)= -(A:Int) % sgn nb B:=by
 have h:=Nat.div_add_mod A B;have hl:=Nat.mod_lt A<|Nat.pos_of_ne_zero hB;have h2:(A:Int)=(B:Int) * ((A / B:Nat):Int) + ((A % B:Nat):Int):=by omega
 obtain ⟨q,hq⟩:∃ q,A / B=q:=⟨_,rfl⟩;obtain ⟨r,hrr⟩:∃ r,A % B=r:=⟨_,rfl⟩;rw [hq,hrr] at h2;rw [hrr] at hl hr;rw [hq,hrr];have e:((B - r:Nat):Int)=(B:Int) - (r:Int):=by omega
 have:=AUp (a:= -(A:Int)) (b:=sgn nb B) (q:=sgn (!nb)<|q + 1) (r:=((B - r:Nat):Int)) (by cases nb <;> simp [sgn] <;> omega) (by rw [h2,e];cases nb <;> simp [sgn] <;> grind) AHx (by cases nb <;> simp only [sgn] <;> simp <;> omega);exact ⟨this.1.symm,this.2.symm⟩
theorem A2a {nb:Bool} {A B:Nat} (hB:B≠0) (hr:A % B=0):sgn (!nb) (A / B)= -(A:Int) / sgn nb B/\sgn false (A % B)= -(A:Int) % sgn nb B:=by
 have h:=Nat.div_add_mod A B;have h2:(A:Int)=(B:Int) * ((A / B:Nat):Int):=by omega
 obtain ⟨q,hq⟩:∃ q,A / B=q:=⟨_,rfl⟩;rw [hq] at h2;rw [hq,hr];have:=AUp (a:= -(A:Int)) (b:=sgn nb B) (q:=sgn (!nb) q) (r:=0) (by cases nb <;> simp [sgn] <;> omega) (by rw [h2];cases nb <;> simp [sgn] <;> grind) AHx (by cases nb <;> simp only [sgn] <;> simp <;> omega);exact ⟨this.1.symm,this.2.symm⟩
theorem DivMod2_ok {b:Int} (HA:ZV h la va a) (HB:ZV h lb vb b) (hba:a.natAbs < 18446744073709551616) (hbb:b.natAbs < 18446744073709551616) (C7:b≠0):AI7 Tryz.prog 87 #[va,vb] h λx h'=>Ext h h'/\ ∃ q r,x= .tuple #[q,r,.bool true]/\ZV h' (Array.size h) q (a / b)/\ZV h' (Array.size h) r (a % b):=by
 obtain ⟨na,sa,LA,rfl,HDa,htla,hla,hza⟩:=HA.out;obtain ⟨nb,sb,LB,rfl,HDb,htlb,hlb,hzb⟩:=HB.out;refine AJi (l:=[_,_]) mx Tryz.func87 rfl rfl rfl rfl rfl AIb (AH1<|AR0 [.bool na,sa] (λ_=>trivial) rfl rfl λA6 h2 V3 E4 C8 C9=>?_);have Ht:Array.size h<=A6:=C8;have Hu:=E4.1;have Z8:=(Ext.refl h).trans E4;refine AR0 [.bool nb,sb] (λ_=>trivial) rfl rfl λA7 Hv Bc Ba Db Hw=>?_;have Hx:Array.size h<=A7:=Nat.le_trans E4.1 Db;have nebq1bq9:A6≠A7:=by have:=V3.lt;omega
 have Hy:=Ba.1;have Ch:=E4.trans Ba;have Be:=V3.ext Ba;refine APa [.bool false,.slice none 0 0] ANt rfl (λ_=>trivial) λAc Hz Ci Ay Dc Ia=>?_;have Ib:Array.size h<=Ac:=Nat.le_trans Ch.1 Dc;have nebq1bq20:A6≠Ac:=by have:=Be.lt;omega
 have nebq9bq20:A7≠Ac:=by have:=Bc.lt;omega
 have Ic:=Ay.1;have Dd:=(Z8.trans Ba).trans Ay;have Cj:=Ch.trans Ay;have Ck:=Be.ext Ay;have De:=(E4.trans Ba).trans Ay;have Cm:=Bc.ext Ay;refine APa [.bool false,.slice none 0 0] ANt rfl (λ_=>trivial) λAa Cn Df Ax Dg Id=>?_;have Ie:Array.size h<=Aa:=Nat.le_trans Cj.1 Dg;have nebq1bq33:A6≠Aa:=by have:=Ck.lt;omega
 have nebq9bq33:A7≠Aa:=by have:=Cm.lt;omega
 have nebq20bq33:Ac≠Aa:=by have:=Ci.lt;omega
 have If:=Ax.1;have Dh:=Dd.trans Ax;have Bv:=Cj.trans Ax;have Co:=Ck.ext Ax;have Di:=De.trans Ax;have Cp:=Cm.ext Ax;have Dj:=(Ba.trans Ay).trans Ax;have Dk:=Ci.ext Ax;have Dl:=Ay.trans Ax;refine AJd<|AOe (fs:=1) AUj AIb AHz rfl (AI1 AQb rfl (Cp.cell (i:=1) rfl) (AIz trivial rfl (AU2 (DS.mono (HDb.ext Bv)<|Nat.zero_le _) AHx) λIh Cn hk=>?_));obtain ⟨rfl,L2,Bw,Bx⟩:=hk;refine ⟨trivial,?_⟩;have By:=Bw.ds (lo:=lb) HDb.lo;have A8:=Bw.val;have Ii:=Bw.len;refine AH7<|AH3<|AH1<|AHy<|AKc AIy rfl By ?_;have Bf:nv LB≠0:=λh0=>C7 (by rw [hzb,h0];cases nb <;> rfl);have hLB:L2≠[]:=λh0=>Bf (by rw [<- A8,h0];rfl);have hLp:=List.length_pos_iff.2 hLB;refine Abr rfl rfl (λhc=>absurd hc AHx) (λ_=>AH5<|AI6 rfl (AIa<|q_t<|AH1<|AOe (fs:=1) AUj AIb AHz rfl (AI1 AQb rfl (Co.cell (i:=1) rfl) (AIz trivial rfl (AU2 (DS.mono (HDa.ext Bv)<|Nat.zero_le _) AHx) λIj Cn hk=>?_))));obtain ⟨rfl,L1,Bz,Cr⟩:=hk;refine ⟨trivial,?_⟩;have Ct:=Bz.ds (lo:=la) HDa.lo;have Cu:=Bz.val;have Il:=Bz.len;refine AHy<|AIz trivial rfl (Art Ct By Cr Bx (by rw [A8];exact Bf) (AUq Cr (by rw [Cu,<- ANu hza];omega))<|AUq Bx (by rw [A8,<- ANu hzb];omega)) λIm Io hk=>?_;obtain ⟨Am,qv,rv,rfl,LQ,LR,HQ,HR,htq,htr,hvq,hvr,hlq,hlr⟩:=hk;refine ⟨trivial,?_⟩;have Ip:=Am.1;have B2:=Dh.trans Am;have B3:=Bv.trans Am;have B4:=Co.ext Am;have B5:=Di.trans Am;have Do:=Cp.ext Am;have B6:=Dj.trans Am;have B7:=Dk.ext Am;have B8:=Dl.trans Am;have B9:=Df.ext Am;have Ca:=By.ext Am;have Cb:=Ct.ext Am;rw [Cu,A8] at hvq hvr;have Iq:L2.length<=2:=AUq Bx (by rw [A8,<- ANu hzb];omega);refine AHy<|AJs rfl rfl (AJs rfl rfl (AIw<|AJd<|AOe (fs:=1) ATz AIb AHz rfl (AI1 ANf rfl (Do.cell (i:=0) rfl) (AH7<|AH3<|AH6<|AH3<|AH6<|AH3<|AH6<|AH3<|AH3<|AH3 ?_))));have hrl:LR.length=0↔nv LA % nv LB=0:=⟨λh0=>by rw [<- hvr,List.length_eq_zero_iff.1 h0];rfl,λh0=>by rw [APh htr<|hvr.trans h0];rfl⟩;refine AIf<|AOe (fs:=1) ATz AIb AHz rfl (AI1 ANf rfl (B4.cell (i:=0) rfl) ?_);cases Bg:na
 ·refine AHy<|AJw 32 false AIb rfl rfl (AJw 32 false AIb rfl rfl (AJw 32 false AIb rfl rfl (AIn rfl (AH7<|AI6 rfl (AIa<|q_t<|AH1<|AOe (fs:=1) ATz AIb AHz rfl (AI1 ANf rfl (B4.cell (i:=0) rfl) ?_))))));rw [Bg];refine AH7<|AI6 rfl (AIa<|q_t<|AIq<|Aip AHz<|AIr<|Aip AHz<|AIr<|AJt<|q_t<|AH1<|AHy<|AHy<|AIz trivial rfl (ASi nb HQ htq AHx) λIr Is hk=>?_);obtain ⟨Ao,Bh⟩:=hk;refine ⟨trivial,?_⟩;have It:=Ao.1;have Dp:=B2.trans Ao;have Dq:=B3.trans Ao;have Dr:=B5.trans Ao;have Ds:=B6.trans Ao;have Dt:=B7.ext Ao;have Du:=B8.trans Ao;have Dv:=B9.ext Ao;have Iu:=Ca.ext Ao;have Iv:=Cb.ext Ao;have HQ_82:=HQ.ext Ao;have HR_83:=HR.ext Ao;obtain ⟨Az,s7,L7,rfl,Bj,Bl,Bm,Bn⟩:=Bh.out;refine AHy<|AIz trivial rfl (ASi false HR_83 htr AHx) λIw Ix hk=>?_;obtain ⟨Ar,Bo⟩:=hk;refine ⟨trivial,?_⟩;have Iy:=Ar.1;have Dw:=Dp.trans Ar;have Dx:=Dq.trans Ar;have Dy:=Dr.trans Ar;have Dz:=Ds.trans Ar;have D0:=Dt.ext Ar;have D3:=Du.trans Ar;have D4:=Dv.ext Ar;have HQ_98:=HQ_82.ext Ar;have HR_99:=HR_83.ext Ar;have Cv:=Bj.ext Ar;obtain ⟨A4,s8,L8,rfl,Bq,Br,Bt,Bu⟩:=Bo.out;refine AKo [.bool Az,s7] AJz rfl rfl rfl rfl (ARw Cv.cap) D0 λIz D5 Au=>?_;have D6:=Dx.thenUpd Au (λk hk=>by have Ab:k=Ac:=hk;omega);have I0:=Au.1;have D7:=Dw.thenUpd Au (λk hk=>by have Ab:k=Ac:=hk;omega);have Cd:=D3.thenUpd Au (λk hk=>by have Ab:k=Ac:=hk;omega);have D8:=Dy.thenUpd Au (λk hk=>by have Ab:k=Ac:=hk;omega);have D9:=Dz.thenUpd Au (λk hk=>by have Ab:k=Ac:=hk;omega);have Ea:=D4.upd Au λhe=>(Ne.symm nebq20bq33) (he:Aa=Ac);have HQ_113:=HQ_98.updLo Au AHx;have HR_114:=HR_99.updLo Au AHx;have Eb:=Cv.updLo Au AHx;have Cw:=Bq.updLo Au AHx;refine AKo [.bool A4,s8] AJz rfl rfl rfl rfl (ARw Cw.cap) Ea λI1 Ec Ag=>?_;have Ed:=D6.thenUpd Ag (λk hk=>by have Ab:k=Aa:=hk;omega);have I2:=Ag.1;have I3:=D7.thenUpd Ag (λk hk=>by have Ab:k=Aa:=hk;omega);have I6:=(Be.ext Cd).upd Ag (λhe=>nebq1bq33 (he:A6=Aa));have I7:=D8.thenUpd Ag (λk hk=>by have Ab:k=Aa:=hk;omega);have I9:=(Bc.ext Cd).upd Ag (λhe=>nebq9bq33 (he:A7=Aa));have Ja:=D9.thenUpd Ag (λk hk=>by have Ab:k=Aa:=hk;omega);have Ee:=D5.upd Ag λhe=>nebq20bq33 (he:Ac=Aa);have Jc:=Cd.thenUpd Ag (λk hk=>by have Ab:k=Aa:=hk;omega);have HQ_129:=HQ_113.updLo Ag AHx;have HR_130:=HR_114.updLo Ag AHx;have Ef:=Eb.updLo Ag AHx;have Eg:=Cw.updLo Ag AHx;refine AH7<|AIc<|⟨_,AW2 AJz rfl rfl Ee AJz rfl rfl Ec,?_⟩;have hk:=A42 (nb:=nb) (A:=nv LA) Bf;have ea:a=((nv LA:Nat):Int):=by rw [hza,Bg];rfl
  exact ⟨Ed,_,_,rfl,⟨Az,s7,L7,rfl,Ef.mono AHx,Bl,Bm,by rw [<- Bn,hvq,ea,hzb];exact hk.1.symm⟩,⟨A4,s8,L8,rfl,Eg.mono AHx,Br,Bt,by rw [<- Bu,hvr,ea,hzb];exact hk.2.symm⟩⟩
 ·refine AHy<|AJ6 32 true AIb rfl rfl (AHy<|AJ6 32 true AIb rfl rfl (AKc AIy rfl HR (AJ6 32 true AIb rfl rfl (AZu rfl rfl (λEh=>?_) (λEh=>?_)))))
  ·refine AIm rfl (AH7<|AI2 rfl (AIq<|AIr<|AIr<|AJt<|q_t<|AH1<|AHy<|Aw8 [AV8 1] AIy AT5 rfl (λ_=>trivial) rfl AHx AHx rfl (by simp [AV8,isOne]) λg8 v8 h8 Ek E8 Jf Jg=>?_));have Jh:=E8.1;have El:=B2.trans E8;have Em:=B3.trans E8;have En:=B5.trans E8;have Eo:=B6.trans E8;have Ep:=B7.ext E8;have Er:=B8.trans E8;have Es:=B9.ext E8;have Et:=Ca.ext E8;have Eu:=Cb.ext E8;have HQ_146:=HQ.ext E8;have HR_147:=HR.ext E8;have HDu:DS h8 0 v8 [1]:=AMd.ds (L:=[1]) Ek (by intro x hx;rw [List.mem_singleton.1 hx];decide)<|Nat.zero_le _;refine AIz trivial rfl (Al4 HQ_146 HDu AHx AI9) λJi Jj hk=>?_;obtain ⟨Ah,L5,Ew,Cx,Cy,Jk⟩:=hk;refine ⟨trivial,?_⟩;have Jl:=Ah.1;have Ey:=El.trans Ah;have Ez:=Em.trans Ah;have Fa:=En.trans Ah;have Fb:=Eo.trans Ah;have Fc:=Ep.ext Ah;have Fd:=Er.trans Ah;have Fe:=Es.ext Ah;have Cz:=Et.ext Ah;have Ff:=Eu.ext Ah;have HQ_164:=HQ_146.ext Ah;have HR_165:=HR_147.ext Ah;have HDu_166:=HDu.ext Ah;refine AH7<|AIf<|AHy<|AHy<|AIz trivial rfl (Ahy Cz HR_165 htr (by rw [hvr,A8];exact Nat.le_of_lt<|Nat.mod_lt _ AHx) AHx) λJm Jn hk=>?_;obtain ⟨Af,L6,Fg,Fh,Fi,C9⟩:=hk;refine ⟨trivial,?_⟩;have Jp:=Af.1;have Fj:=Ey.trans Af;have Fk:=Ez.trans Af;have Fl:=Fa.trans Af;have Fm:=Fb.trans Af;have Fo:=Fc.ext Af;have Fp:=Fd.trans Af;have Fq:=Fe.ext Af;have Ft:=Cz.ext Af;have Fu:=Ff.ext Af;have HQ_183:=HQ_164.ext Af;have HR_184:=HR_165.ext Af;have HDu_185:=HDu_166.ext Af;have C0:=Ew.ext Af;refine AIw<|AIu<|q_b<|q_t<|AH1<|AHy<|AMp rfl (AH7<|AIq<|AJt<|q_t<|AH1<|AHy<|AHy<|AIz trivial rfl (ASi (!nb) C0 Cx (by have h5:L5.length<=2:=AUq Cx (by rw [Cy,hvq];exact A41 (A:=nv LA) (B:=nv LB) (by rw [<- ANu hza];exact hba) AHx);omega)) λJr Js hk=>?_);obtain ⟨Ad,Bh⟩:=hk;refine ⟨trivial,?_⟩;have Jt:=Ad.1;have Fv:=Fj.trans Ad;have Fw:=Fk.trans Ad;have Fx:=Fl.trans Ad;have Fy:=Fm.trans Ad;have Fz:=Fo.ext Ad;have F4:=Fp.trans Ad;have F5:=Fq.ext Ad;have Ju:=Ft.ext Ad;have Jv:=Fu.ext Ad;have HQ_203:=HQ_183.ext Ad;have HR_204:=HR_184.ext Ad;have HDu_205:=HDu_185.ext Ad;have F6:=C0.ext Ad;have C1:=Fg.ext Ad;obtain ⟨Az,s7,L7,rfl,Bj,Bl,Bm,Bn⟩:=Bh.out;refine AHy<|AIz trivial rfl (ASi false C1 Fh AHx) λJw Jx hk=>?_;obtain ⟨Ai,Bo⟩:=hk;refine ⟨trivial,?_⟩;have Jy:=Ai.1;have F7:=Fv.trans Ai;have F8:=Fw.trans Ai;have F9:=Fx.trans Ai;have Ga:=Fy.trans Ai;have Gb:=Fz.ext Ai;have Gc:=F4.trans Ai;have Gd:=F5.ext Ai;have HQ_222:=HQ_203.ext Ai;have HR_223:=HR_204.ext Ai;have Ge:=F6.ext Ai;have Gf:=C1.ext Ai;have C3:=Bj.ext Ai;obtain ⟨A4,s8,L8,rfl,Bq,Br,Bt,Bu⟩:=Bo.out;refine AKo [.bool Az,s7] AJz rfl rfl rfl rfl (ARw C3.cap) Gb λJz Gg Aj=>?_;have Gh:=F8.thenUpd Aj (λk hk=>by have Ab:k=Ac:=hk;omega);have J0:=Aj.1;have Gi:=F7.thenUpd Aj (λk hk=>by have Ab:k=Ac:=hk;omega);have Ce:=Gc.thenUpd Aj (λk hk=>by have Ab:k=Ac:=hk;omega);have Gj:=F9.thenUpd Aj (λk hk=>by have Ab:k=Ac:=hk;omega);have Gk:=Ga.thenUpd Aj (λk hk=>by have Ab:k=Ac:=hk;omega);have Gl:=Gd.upd Aj λhe=>(Ne.symm nebq20bq33) (he:Aa=Ac);have HQ_239:=HQ_222.updLo Aj AHx;have HR_240:=HR_223.updLo Aj AHx;have Gm:=Ge.updLo Aj AHx;have Gn:=Gf.updLo Aj AHx;have Gp:=C3.updLo Aj AHx;have C4:=Bq.updLo Aj AHx;refine AKo [.bool A4,s8] AJz rfl rfl rfl rfl (ARw C4.cap) Gl λJ1 Gq Ae=>?_;have Gr:=Gh.thenUpd Ae (λk hk=>by have Ab:k=Aa:=hk;omega);have J2:=Ae.1;have J3:=Gi.thenUpd Ae (λk hk=>by have Ab:k=Aa:=hk;omega);have J4:=(Be.ext Ce).upd Ae (λhe=>nebq1bq33 (he:A6=Aa));have J5:=Gj.thenUpd Ae (λk hk=>by have Ab:k=Aa:=hk;omega);have J6:=(Bc.ext Ce).upd Ae (λhe=>nebq9bq33 (he:A7=Aa));have J7:=Gk.thenUpd Ae (λk hk=>by have Ab:k=Aa:=hk;omega);have Gt:=Gg.upd Ae λhe=>nebq20bq33 (he:Ac=Aa);have J8:=Ce.thenUpd Ae (λk hk=>by have Ab:k=Aa:=hk;omega);have HQ_257:=HQ_239.updLo Ae AHx;have HR_258:=HR_240.updLo Ae AHx;have J9:=Gm.updLo Ae AHx;have Ka:=Gn.updLo Ae AHx;have Gu:=Gp.updLo Ae AHx;have Gv:=C4.updLo Ae AHx;refine AH7<|AIc<|⟨_,AW2 AJz rfl rfl Gt AJz rfl rfl Gq,?_⟩;have hk:=A19 (nb:=nb) (A:=nv LA) Bf AHx;have ea:a= -((nv LA:Nat):Int):=by rw [hza,Bg];rfl
   exact ⟨Gr,_,_,rfl,⟨Az,s7,L7,rfl,Gu.mono AHx,Bl,Bm,by rw [<- Bn,Cy,hvq,ea,hzb];exact hk.1.symm⟩,⟨A4,s8,L8,rfl,Gv.mono AHx,Br,Bt,by rw [<- Bu,Fi,A8,hvr,ea,hzb];exact hk.2.symm⟩⟩
  ·refine AIm rfl (AH7<|AI6 rfl (AIa<|q_t<|AH1<|AOe (fs:=1) ATz AIb AHz rfl (AI1 ANf rfl (B4.cell (i:=0) rfl) ?_)));rw [Bg];refine AH7<|AI2 rfl (AIq<|AIr<|Aip AHz<|AIr<|AJt<|q_t<|AH1<|AHy<|AMp rfl (AH7<|AIq<|AJt<|q_t<|AH1<|AHy<|AHy<|AIz trivial rfl (ASi (!nb) HQ htq AHx) λKb Kc hk=>?_));obtain ⟨Aq,Bh⟩:=hk;refine ⟨trivial,?_⟩;have Kd:=Aq.1;have Gw:=B2.trans Aq;have Gx:=B3.trans Aq;have Gy:=B5.trans Aq;have Gz:=B6.trans Aq;have G3:=B7.ext Aq;have G4:=B8.trans Aq;have G5:=B9.ext Aq;have Ke:=Ca.ext Aq;have Kf:=Cb.ext Aq;have HQ_279:=HQ.ext Aq;have HR_280:=HR.ext Aq;obtain ⟨Az,s7,L7,rfl,Bj,Bl,Bm,Bn⟩:=Bh.out;refine AHy<|AIz trivial rfl (ASi false HR_280 htr AHx) λKg Kh hk=>?_;obtain ⟨Av,Bo⟩:=hk;refine ⟨trivial,?_⟩;have Ki:=Av.1;have G6:=Gw.trans Av;have G7:=Gx.trans Av;have G8:=Gy.trans Av;have G9:=Gz.trans Av;have Hb:=G3.ext Av;have Hc:=G4.trans Av;have Hd:=G5.ext Av;have HQ_295:=HQ_279.ext Av;have HR_296:=HR_280.ext Av;have C5:=Bj.ext Av;obtain ⟨A4,s8,L8,rfl,Bq,Br,Bt,Bu⟩:=Bo.out;refine AKo [.bool Az,s7] AJz rfl rfl rfl rfl (ARw C5.cap) Hb λKj He Aw=>?_;have Hf:=G7.thenUpd Aw (λk hk=>by have Ab:k=Ac:=hk;omega);have Kk:=Aw.1;have Hg:=G6.thenUpd Aw (λk hk=>by have Ab:k=Ac:=hk;omega);have Cf:=Hc.thenUpd Aw (λk hk=>by have Ab:k=Ac:=hk;omega);have Hh:=G8.thenUpd Aw (λk hk=>by have Ab:k=Ac:=hk;omega);have Hj:=G9.thenUpd Aw (λk hk=>by have Ab:k=Ac:=hk;omega);have Hk:=Hd.upd Aw λhe=>(Ne.symm nebq20bq33) (he:Aa=Ac);have HQ_310:=HQ_295.updLo Aw AHx;have HR_311:=HR_296.updLo Aw AHx;have Hl:=C5.updLo Aw AHx;have C6:=Bq.updLo Aw AHx;refine AKo [.bool A4,s8] AJz rfl rfl rfl rfl (ARw C6.cap) Hk λKl Hm Ak=>?_;have Hn:=Hf.thenUpd Ak (λk hk=>by have Ab:k=Aa:=hk;omega);have Km:=Ak.1;have Kn:=Hg.thenUpd Ak (λk hk=>by have Ab:k=Aa:=hk;omega);have Ko:=(Be.ext Cf).upd Ak (λhe=>nebq1bq33 (he:A6=Aa));have Kp:=Hh.thenUpd Ak (λk hk=>by have Ab:k=Aa:=hk;omega);have Kr:=(Bc.ext Cf).upd Ak (λhe=>nebq9bq33 (he:A7=Aa));have Kt:=Hj.thenUpd Ak (λk hk=>by have Ab:k=Aa:=hk;omega);have Ho:=He.upd Ak λhe=>nebq20bq33 (he:Ac=Aa);have Ku:=Cf.thenUpd Ak (λk hk=>by have Ab:k=Aa:=hk;omega);have HQ_326:=HQ_310.updLo Ak AHx;have HR_327:=HR_311.updLo Ak AHx;have Hq:=Hl.updLo Ak AHx;have Hr:=C6.updLo Ak AHx;refine AH7<|AIc<|⟨_,AW2 AJz rfl rfl Ho AJz rfl rfl Hm,?_⟩;have hk:=A2a (nb:=nb) (A:=nv LA) Bf AHx;have ea:a= -((nv LA:Nat):Int):=by rw [hza,Bg];rfl
   exact ⟨Hn,_,_,rfl,⟨Az,s7,L7,rfl,Hq.mono AHx,Bl,Bm,by rw [<- Bn,hvq,ea,hzb];exact hk.1.symm⟩,⟨A4,s8,L8,rfl,Hr.mono AHx,Br,Bt,by rw [<- Bu,hvr,ea,hzb];exact hk.2.symm⟩⟩
end Go.Proofs.YtegoafpaljeobaaGreatDoor.Ig
namespace Go.QF
section
variable {P:Program} {B:AH8->Prop} {st:Bool} {ops:Array Oper} {rest:List Oper} {e:Env} {h:AH8} {K:Env->AH8->Prop} {d:Nat} {ty:TypeId} {pos:String} {af:Array Edge}
theorem Atj {x y z:Operand} {el er g lo hi:Nat} {l:List Value} {k1 k2:IntKind} (hT:SlT P t el 1) (hx:e.ev x=v) (HO:AMd h er g v l) (hy:e.ev y= .int k1 (lo:Int)) (hz:e.ev z= .int k2 (hi:Int)) (hlt:lo < hi) (hle:hi<=l.length)
 (H:∀ c,RL P B st ops rest (e.set d<|.slice (some ⟨g,lo,none⟩) (hi - lo) c) h K):RL P B st ops (⟨some d,.slice t x (some y) (some z) none,ty,pos,af,none⟩ :: rest) e h K:=by
 obtain ⟨cap,cur,rfl,hg,h1,h2,h3,h4⟩:=HO;refine ANz (v:= .slice (some ⟨g,lo,none⟩) (hi - lo)<|cap - lo) rfl rfl (λw=>?_) (H _);obtain ⟨hu,i,hi',hs⟩:=hT;have a4: ¬ cap=lo:=by omega
 simp [execOp,hx,hy,hz,Instr.sliceAt,Instr.slice,AS6 hu,Instr.sliceBounds,Instr.sliceBound,asIntOf,a4,AXt hi',hs,Addr.add];rw [if_pos AHx,if_pos AHx]
 by_cases h0:lo=0
 ·subst h0;simp
 ·rw [if_neg h0]
theorem Al5 {x i:Operand} {el g o n c:Nat} {k:IntKind} (hT:SlT P t el 1) (hx:e.ev x= .slice (some ⟨g,o,none⟩) n c) (hi:e.ev i= .int k (j:Int)) (hj:j < n)
 (H:RL P B st ops rest (e.set d<|.pointer<|some ⟨g,o + j,none⟩) h K):RL P B st ops (⟨some d,.indexAddr t x i,ty,pos,af,none⟩ :: rest) e h K:=by
 refine Aqx hT hx hi AHx AHx ?_;have he:(⟨g,o,none⟩:Addr).add ((j:Int).toNat * 1)=⟨g,o + j,none⟩:=by rw [AN0];simp
 rw [he];exact H
end
end Go.QF
namespace Go.Proofs.YtegoafpaljeobaaGreatDoor.Ig
theorem Avk (HA:DS h la va LA) (HB:DS h lb vb LB) (hna:LA.length<=1000) (hnb:LB.length<=1000):AI7 Tryz.prog 128 #[va,vb] h λx h'=>Ext h h'/\ ∃ L,DS h' (Array.size h) x L/\TL L/\nv L=nv LA * nv LB/\L.length<=LA.length + LB.length + 2:=by
 refine AJi (l:=[_,_]) mx Tryz.func128 rfl rfl rfl rfl rfl AIb (AH1<|AH7<|AH3<|AH1<|AHy<|AKc AIy rfl HA (Abq rfl rfl (λAw=>?_) (λAw=>?_)))
 ·refine AHy<|AJ6 15 true AIb rfl rfl (AHy<|AJ6 15 true AIb rfl rfl (AKc AIy rfl HB (AJ6 15 true AIb rfl rfl (Abq rfl rfl (λAx=>?_) (λAx=>?_)))))
  ·refine AIm rfl (AH5<|AI2 rfl (AH1<|AHy<|AIz trivial rfl (Ajb HA AHx) λx1 h hk=>?_));obtain ⟨rfl,rfl⟩:=hk;refine ⟨trivial,?_⟩;refine AHy<|AIz trivial rfl (Ajb HB AHx) λx2 h hk=>?_;obtain ⟨rfl,rfl⟩:=hk;refine ⟨trivial,?_⟩;have hm:=Ayp HA.dig HB.dig AHx AHx;refine Amt rfl rfl hm (AIz trivial rfl (AYk (nv LA * nv LB) AHx _) λx3 h4 hk=>?_);obtain ⟨E5,L1,Ay,Ak,Am,Av⟩:=hk;refine ⟨trivial,?_⟩;have Bo:=E5.1;have Z7:=(Ext.refl h).trans E5;refine AH7 (AIc<|AIt<|⟨_,AId,?_⟩)
   first
   | exact ⟨E5,L1,Ay,Ak,Am,AHx⟩
   | exact ⟨E5,L2,HT.ds HDo.lo,htl,by rw [HT.val,hOv],by have:=HT.len;omega⟩
  ·refine AIm rfl (AH5<|AI6 rfl (AIa<|q_t<|AH1<|AHy<|AKc AIy rfl HA (AHy<|AKc AIy rfl HB (AXx rfl rfl AHx (Aj0 (n:=LA.length + LB.length) AIy AT5 (λ_=>trivial) rfl rfl AHz AHx λg1 v1 h1 Ao E1 Az Av=>?_)))));have Bq:=E1.1;have Z9:=(Ext.refl h).trans E1;refine AH7<|AH3<|AH1<|AHy<|AKc AIy rfl (HA.ext E1) (AHy<|AH5<|AH6<|AMc 19342813113834049615433664 (λy:Nat × List Nat=>[(34,.int .i64 (y.1:Int))]) (λk y h'=>k=LA.length - y.1/\y.1<=LA.length/\Ext h h'/\g1 < Array.size h'/\AMd h' 160 g1 v1 (y.2.map AV8)/\y.2.length=LA.length + LB.length/\Dig y.2/\nv y.2=nv (LA.take y.1) * nv LB/\ ∀ q,y.1 + LB.length<=q->q < LA.length + LB.length->y.2[q]? =some 0) AIb LA.length (0,List.replicate (LA.length + LB.length) 0) ?_ ⟨rfl,trivial⟩ ?_)
   ·exact ⟨rfl,Nat.zero_le _,E1,AHx,Ao,AI9,λx hx=>by rw [(List.mem_replicate.1 hx).2];decide,by simp [nv,Aj6],λq hq A3=>by dsimp only;rw [List.getElem?_replicate];simp;omega⟩
   rintro k ⟨i,O⟩ s1 hq ⟨rfl,hi,XQ,hgq,Aa,hOl,hOd,hOv,hOz⟩;dsimp only at hi Aa hOl hOd hOv hOz ⊢;refine AH1<|ANd rfl rfl (λA4=>?_) (λA4=>?_)
   ·refine AH5<|AH3<|AI2 rfl (AIa<|q_t<|AH3<|AH6<|AH3 ?_);obtain ⟨x,hx⟩:∃ x,LA[i]? =some x:=⟨_,List.getElem?_eq_getElem AHx⟩;have hbx:=HA.dig x<|List.mem_of_getElem? hx;refine AIf<|AHy<|ARd AIy rfl (HA.ext XQ) rfl hx λBt A5=>AI1 AKz rfl A5 (AIw<|AH7<|AH3<|AH1<|AHy<|Abr rfl rfl (λA6=>?_) (λA6=>?_))
    ·refine AH5<|AI2 rfl (AIq<|AIr<|AJt<|q_t<|AIf<|ASf rfl AHx (AHy<|AH5 ?_));exact ⟨LA.length - (i + 1),(i + 1,O),by first | omega | (dsimp only;omega),⟨rfl,by first | omega | (dsimp only;omega),XQ,AHx,Aa,hOl,hOd,by dsimp only;rw [hOv,AKl hx,show x=0 by omega];simp,λq h1 h2=>hOz q (by dsimp only at h1;omega) h2⟩,rfl,trivial⟩
    ·refine AH5<|AI6 rfl (AIa<|q_t<|AH1<|AHy<|AHy<|AHy<|AHy<|AKc AIy rfl (HB.ext XQ) (AXx rfl rfl AHx (AXx (b:=1) rfl rfl AHx (Atj (lo:=i) (hi:=i + LB.length + 1) AIy rfl Aa rfl rfl AHx (by rw [List.length_map];omega) λcw=>?_))));refine AJd<|AH7<|AH3<|AH1<|AHy<|AKc AIy rfl (HB.ext XQ) (AHy<|AH5<|AH6<|AMc 151115725200028833156608 (λy:Nat × Nat × List Nat=>[(51,.int .i64 (y.1:Int)),(9,.int .u64 (y.2.1:Int))]) (λk y h'=>k=LB.length - y.1/\y.1<=LB.length/\Ext h h'/\g1 < Array.size h'/\AMd h' 160 g1 v1 (y.2.2.map AV8)/\y.2.2.length=LA.length + LB.length/\Dig y.2.2/\y.2.1 < 4294967296/\nv y.2.2 + 4294967296 ^ (i + y.1) * y.2.1=nv (LA.take i) * nv LB + 4294967296 ^ i * (x * nv (LB.take y.1))/\ ∀ q,i + LB.length<=q->q < LA.length + LB.length->y.2.2[q]? =some 0) AIb LB.length (0,0,O) ?_ ⟨rfl,rfl,trivial⟩ ?_)
     ·exact ⟨rfl,Nat.zero_le _,XQ,AHx,Aa,hOl,hOd,by dsimp only;omega,by simp [nv,hOv],hOz⟩
     rintro k ⟨j,c,O⟩ s2 hp ⟨rfl,hj,XQ,hgq,Aa,hOl,hOd,hc,hOv,hOz⟩;dsimp only at hj Aa hOl hOd hc hOv hOz ⊢;refine AH1<|ANd rfl rfl (λA7=>?_) (λA7=>?_)
     ·refine AH5<|AH3<|AI2 rfl (AIa<|q_t<|AH3<|AH6<|AH3 ?_);obtain ⟨y,hy⟩:∃ x,LB[j]? =some x:=⟨_,List.getElem?_eq_getElem AHx⟩;have hby:=HB.dig y<|List.mem_of_getElem? hy;obtain ⟨ov,hov⟩:∃ x,O[i + j]? =some x:=⟨_,List.getElem?_eq_getElem AHx⟩;have hbo:=hOd ov<|List.mem_of_getElem? hov;have htb:=Amu hc hbx hby hbo;have hxy:x * y<=4294967295 * 4294967295:=Nat.mul_le_mul AHx AHx;refine AIf<|AHy<|ARd AIy rfl (HB.ext XQ) rfl hy λBu A8=>AI1 AKz rfl A8 (AIw<|AJd<|AHy<|AHy<|Abd ALw ALc rfl hbx (AHy<|Abd ALw ALc rfl hby (Amt rfl rfl AHx (AHy<|AHy<|Al5 AIy rfl rfl AHx (AI1 AKz rfl (AMd.cell Aa<|Aau hov) (Abd ALw ALc rfl hbo (AW3 rfl rfl AHx (AW3 rfl rfl AHx ?_))))))));refine AJd<|AHy<|AHy<|AHy<|Adm ALc ALw rfl (Al5 AIy rfl rfl AHx (Adl (O.set (i + j)<|(c + (x * y + ov)) % 4294967296) AKz rfl rfl Aa AHx rfl λh4 Ap U4=>?_));have Bv:=U4.1;have A9:=XQ.thenUpd U4 (λk hk=>by have Aq:k=g1:=hk;omega);refine AH5<|AIf<|AHy<|Aco rfl rfl (AIw<|AIu<|q_b<|q_t<|AIf<|ASf rfl AHx (AHy<|AH5 ?_));exact ⟨LB.length - (j + 1),(j + 1,(c + (x * y + ov)) / 4294967296,O.set (i + j)<|(c + (x * y + ov)) % 4294967296),by first | omega | (dsimp only;omega),⟨rfl,by first | omega | (dsimp only;omega),A9,AHx,Ap,by simp [hOl],Aav hOd<|Nat.mod_lt _ AHz,by dsimp only;exact Nat.div_lt_of_lt_mul htb,by dsimp only;rw [AKl hy];exact Aj1 (Pi:=0) (Ad6 _ hov) hOv<|Nat.mod_add_div _ _,λq h1 h2=>by dsimp only;rw [List.getElem?_set_ne AHx];exact hOz q h1 h2⟩,rfl,rfl,trivial⟩
     ·refine AH5<|AH3<|AI6 rfl (AIq<|AIr<|AIr<|AJt<|q_t ?_);obtain rfl:j=LB.length:=by omega
      refine AIf<|AHy<|AHy<|AKc AIy rfl (HB.ext XQ) (AHy<|Adm ALc ALw rfl ?_);rw [Nat.mod_eq_of_lt hc];refine Al5 AIy rfl rfl AHx (Adl (O.set (i + LB.length)<|c) AKz rfl rfl Aa AHx rfl λh5 Ar U5=>?_);have Bw:=U5.1;have Bb:=XQ.thenUpd U5 (λk hk=>by have Aq:k=g1:=hk;omega);refine AIu<|q_b<|q_t<|AIf<|ASf rfl AHx (AHy<|AH5 ?_);exact ⟨LA.length - (i + 1),(i + 1,O.set (i + LB.length) c),by first | omega | (dsimp only;omega),⟨rfl,by first | omega | (dsimp only;omega),Bb,AHx,Ar,by simp [hOl],Aav hOd hc,by dsimp only;have h1:=Ad6 c<|hOz (i + LB.length) (Nat.le_refl _) AHx;rw [Nat.mul_zero,Nat.add_zero] at h1;rw [h1,hOv,List.take_length,AKl hx,Nat.add_mul,Nat.mul_assoc],λq h1 h2=>by dsimp only;rw [List.getElem?_set_ne AHx];exact hOz q AHx h2⟩,rfl,trivial⟩
   ·refine AH5<|AH3<|AI6 rfl (AIq<|AIr<|AIr<|AJt<|q_t<|AH3 ?_);obtain rfl:i=LA.length:=by omega
    rw [List.take_length] at hOv;have HDo:=Aa.ds (lo:=Array.size h) hOd AHx;refine AIf<|AHy<|AIz trivial rfl (AU2 (DS.mono HDo<|Nat.zero_le _) AHx) λBx hq hk=>?_;obtain ⟨rfl,L2,HT,htl⟩:=hk;refine ⟨trivial,?_⟩;refine AH7 (AIc<|⟨_,AId,?_⟩)
    first
    | exact ⟨XQ,L1,lacks_HD1,Ak,Am,AHx⟩
    | exact ⟨XQ,L2,HT.ds HDo.lo,htl,by rw [HT.val,hOv],by have:=HT.len;omega⟩
 ·refine AHy<|AJw 15 false AIb rfl rfl (AJw 15 false AIb rfl rfl (AJw 15 false AIb rfl rfl (AIn rfl (AH5<|AI6 rfl (AIa<|q_t<|AH1<|AHy<|AKc AIy rfl HA (AHy<|AKc AIy rfl HB (AXx rfl rfl AHx (Aj0 (n:=LA.length + LB.length) AIy AT5 (λ_=>trivial) rfl rfl AHz AHx λg1 v1 h1 Ao E1 Az Av=>?_))))))));have By:=E1.1;have Bz:=(Ext.refl h).trans E1;refine AH7<|AH3<|AH1<|AHy<|AKc AIy rfl (HA.ext E1) (AHy<|AH5<|AH6<|AMc 19342813113834049615433664 (λy:Nat × List Nat=>[(34,.int .i64 (y.1:Int))]) (λk y h'=>k=LA.length - y.1/\y.1<=LA.length/\Ext h h'/\g1 < Array.size h'/\AMd h' 160 g1 v1 (y.2.map AV8)/\y.2.length=LA.length + LB.length/\Dig y.2/\nv y.2=nv (LA.take y.1) * nv LB/\ ∀ q,y.1 + LB.length<=q->q < LA.length + LB.length->y.2[q]? =some 0) AIb LA.length (0,List.replicate (LA.length + LB.length) 0) ?_ ⟨rfl,trivial⟩ ?_)
  ·exact ⟨rfl,Nat.zero_le _,E1,AHx,Ao,AI9,λx hx=>by rw [(List.mem_replicate.1 hx).2];decide,by simp [nv,Aj6],λq hq A3=>by dsimp only;rw [List.getElem?_replicate];simp;omega⟩
  rintro k ⟨i,O⟩ s1 hq ⟨rfl,hi,XQ,hgq,Aa,hOl,hOd,hOv,hOz⟩;dsimp only at hi Aa hOl hOd hOv hOz ⊢;refine AH1<|ANd rfl rfl (λBc=>?_) (λBc=>?_)
  ·refine AH5<|AH3<|AI2 rfl (AIa<|q_t<|AH3<|AH6<|AH3 ?_);obtain ⟨x,hx⟩:∃ x,LA[i]? =some x:=⟨_,List.getElem?_eq_getElem AHx⟩;have hbx:=HA.dig x<|List.mem_of_getElem? hx;refine AIf<|AHy<|ARd AIy rfl (HA.ext XQ) rfl hx λB2 Be=>AI1 AKz rfl Be (AIw<|AH7<|AH3<|AH1<|AHy<|Abr rfl rfl (λBf=>?_) (λBf=>?_))
   ·refine AH5<|AI2 rfl (AIq<|AIr<|AJt<|q_t<|AIf<|ASf rfl AHx (AHy<|AH5 ?_));exact ⟨LA.length - (i + 1),(i + 1,O),by first | omega | (dsimp only;omega),⟨rfl,by first | omega | (dsimp only;omega),XQ,AHx,Aa,hOl,hOd,by dsimp only;rw [hOv,AKl hx,show x=0 by omega];simp,λq h1 h2=>hOz q (by dsimp only at h1;omega) h2⟩,rfl,trivial⟩
   ·refine AH5<|AI6 rfl (AIa<|q_t<|AH1<|AHy<|AHy<|AHy<|AHy<|AKc AIy rfl (HB.ext XQ) (AXx rfl rfl AHx (AXx (b:=1) rfl rfl AHx (Atj (lo:=i) (hi:=i + LB.length + 1) AIy rfl Aa rfl rfl AHx (by rw [List.length_map];omega) λcw=>?_))));refine AJd<|AH7<|AH3<|AH1<|AHy<|AKc AIy rfl (HB.ext XQ) (AHy<|AH5<|AH6<|AMc 151115725200028833156608 (λy:Nat × Nat × List Nat=>[(51,.int .i64 (y.1:Int)),(9,.int .u64 (y.2.1:Int))]) (λk y h'=>k=LB.length - y.1/\y.1<=LB.length/\Ext h h'/\g1 < Array.size h'/\AMd h' 160 g1 v1 (y.2.2.map AV8)/\y.2.2.length=LA.length + LB.length/\Dig y.2.2/\y.2.1 < 4294967296/\nv y.2.2 + 4294967296 ^ (i + y.1) * y.2.1=nv (LA.take i) * nv LB + 4294967296 ^ i * (x * nv (LB.take y.1))/\ ∀ q,i + LB.length<=q->q < LA.length + LB.length->y.2.2[q]? =some 0) AIb LB.length (0,0,O) ?_ ⟨rfl,rfl,trivial⟩ ?_)
    ·exact ⟨rfl,Nat.zero_le _,XQ,AHx,Aa,hOl,hOd,by dsimp only;omega,by simp [nv,hOv],hOz⟩
    rintro k ⟨j,c,O⟩ s2 hp ⟨rfl,hj,XQ,hgq,Aa,hOl,hOd,hc,hOv,hOz⟩;dsimp only at hj Aa hOl hOd hc hOv hOz ⊢;refine AH1<|ANd rfl rfl (λBg=>?_) (λBg=>?_)
    ·refine AH5<|AH3<|AI2 rfl (AIa<|q_t<|AH3<|AH6<|AH3 ?_);obtain ⟨y,hy⟩:∃ x,LB[j]? =some x:=⟨_,List.getElem?_eq_getElem AHx⟩;have hby:=HB.dig y<|List.mem_of_getElem? hy;obtain ⟨ov,hov⟩:∃ x,O[i + j]? =some x:=⟨_,List.getElem?_eq_getElem AHx⟩;have hbo:=hOd ov<|List.mem_of_getElem? hov;have htb:=Amu hc hbx hby hbo;have hxy:x * y<=4294967295 * 4294967295:=Nat.mul_le_mul AHx AHx;refine AIf<|AHy<|ARd AIy rfl (HB.ext XQ) rfl hy λB3 Bh=>AI1 AKz rfl Bh (AIw<|AJd<|AHy<|AHy<|Abd ALw ALc rfl hbx (AHy<|Abd ALw ALc rfl hby (Amt rfl rfl AHx (AHy<|AHy<|Al5 AIy rfl rfl AHx (AI1 AKz rfl (AMd.cell Aa<|Aau hov) (Abd ALw ALc rfl hbo (AW3 rfl rfl AHx (AW3 rfl rfl AHx ?_))))))));refine AJd<|AHy<|AHy<|AHy<|Adm ALc ALw rfl (Al5 AIy rfl rfl AHx (Adl (O.set (i + j)<|(c + (x * y + ov)) % 4294967296) AKz rfl rfl Aa AHx rfl λh4 Ap U4=>?_));have B4:=U4.1;have Bi:=XQ.thenUpd U4 (λk hk=>by have Aq:k=g1:=hk;omega);refine AH5<|AIf<|AHy<|Aco rfl rfl (AIw<|AIu<|q_b<|q_t<|AIf<|ASf rfl AHx (AHy<|AH5 ?_));exact ⟨LB.length - (j + 1),(j + 1,(c + (x * y + ov)) / 4294967296,O.set (i + j)<|(c + (x * y + ov)) % 4294967296),by first | omega | (dsimp only;omega),⟨rfl,by first | omega | (dsimp only;omega),Bi,AHx,Ap,by simp [hOl],Aav hOd<|Nat.mod_lt _ AHz,by dsimp only;exact Nat.div_lt_of_lt_mul htb,by dsimp only;rw [AKl hy];exact Aj1 (Pi:=0) (Ad6 _ hov) hOv<|Nat.mod_add_div _ _,λq h1 h2=>by dsimp only;rw [List.getElem?_set_ne AHx];exact hOz q h1 h2⟩,rfl,rfl,trivial⟩
    ·refine AH5<|AH3<|AI6 rfl (AIq<|AIr<|AIr<|AJt<|q_t ?_);obtain rfl:j=LB.length:=by omega
     refine AIf<|AHy<|AHy<|AKc AIy rfl (HB.ext XQ) (AHy<|Adm ALc ALw rfl ?_);rw [Nat.mod_eq_of_lt hc];refine Al5 AIy rfl rfl AHx (Adl (O.set (i + LB.length)<|c) AKz rfl rfl Aa AHx rfl λh5 Ar U5=>?_);have B5:=U5.1;have Bj:=XQ.thenUpd U5 (λk hk=>by have Aq:k=g1:=hk;omega);refine AIu<|q_b<|q_t<|AIf<|ASf rfl AHx (AHy<|AH5 ?_);exact ⟨LA.length - (i + 1),(i + 1,O.set (i + LB.length) c),by first | omega | (dsimp only;omega),⟨rfl,by first | omega | (dsimp only;omega),Bj,AHx,Ar,by simp [hOl],Aav hOd hc,by dsimp only;have h1:=Ad6 c<|hOz (i + LB.length) (Nat.le_refl _) AHx;rw [Nat.mul_zero,Nat.add_zero] at h1;rw [h1,hOv,List.take_length,AKl hx,Nat.add_mul,Nat.mul_assoc],λq h1 h2=>by dsimp only;rw [List.getElem?_set_ne AHx];exact hOz q AHx h2⟩,rfl,trivial⟩
  ·refine AH5<|AH3<|AI6 rfl (AIq<|AIr<|AIr<|AJt<|q_t<|AH3 ?_);obtain rfl:i=LA.length:=by omega
   rw [List.take_length] at hOv;have HDo:=Aa.ds (lo:=Array.size h) hOd AHx;refine AIf<|AHy<|AIz trivial rfl (AU2 (DS.mono HDo<|Nat.zero_le _) AHx) λB6 hq hk=>?_;obtain ⟨rfl,L2,HT,htl⟩:=hk;refine ⟨trivial,?_⟩;refine AH7 (AIc<|⟨_,AId,?_⟩)
   first
   | exact ⟨XQ,L1,lacks_HD1,Ak,Am,AHx⟩
   | exact ⟨XQ,L2,HT.ds HDo.lo,htl,by rw [HT.val,hOv],by have:=HT.len;omega⟩
theorem MulZ_ok {b:Int} (HA:ZV h la va a) (HB:ZV h lb vb b) (hab:a.natAbs * b.natAbs < 4294967296 ^ 100):AI7 Tryz.prog 88 #[va,vb] h λx h'=>Ext h h'/\ZV h' (Array.size h) x (a * b):=by
 obtain ⟨na,sa,LA,rfl,HDa,htla,hla,hza⟩:=HA.out;obtain ⟨nb,sb,LB,rfl,HDb,htlb,hlb,hzb⟩:=HB.out;refine AJi (l:=[_,_]) mx Tryz.func88 rfl rfl rfl rfl rfl AIb (AH1<|AR0 [.bool na,sa] (λ_=>trivial) rfl rfl λAk h2 V3 E4 Bb Ce=>?_);have Cf:Array.size h<=Ak:=Bb;have Cg:=E4.1;have Z8:=(Ext.refl h).trans E4;refine AR0 [.bool nb,sb] (λ_=>trivial) rfl rfl λAm Ch Av Ag Be Ci=>?_;have Cj:Array.size h<=Am:=Nat.le_trans E4.1 Be;have nebq1bq9:Ak≠Am:=by have:=V3.lt;omega
 have Ck:=Ag.1;have Aw:=E4.trans Ag;have Ax:=V3.ext Ag;refine APa [.bool false,.slice none 0 0] ANt rfl (λ_=>trivial) λAc Ai Bf Ad Bg Cm=>?_;have Cn:Array.size h<=Ac:=Nat.le_trans Aw.1 Bg;have nebq1bq20:Ak≠Ac:=by have:=Ax.lt;omega
 have nebq9bq20:Am≠Ac:=by have:=Av.lt;omega
 have Co:=Ad.1;have Bh:=(Z8.trans Ag).trans Ad;have Ao:=Aw.trans Ad;have Ay:=Ax.ext Ad;have Bi:=(E4.trans Ag).trans Ad;have Az:=Av.ext Ad;have Bj:=Ag.trans Ad;refine AH5<|AH3<|AKg (λh'=>Ext Ai h') AIb ?_;have Aa:=Ext.refl Ai;refine AOe (fs:=1) ATz AIb AHz rfl (AJe ANf rfl Aa (λh' hb=>(Ay.ext hb).cell (i:=0) rfl) (AOe (fs:=1) ATz AIb AHz rfl (AJe ANf rfl Aa (λh' hb=>(Az.ext hb).cell (i:=0) rfl) (Ajz Aev rfl rfl (AOe (fs:=1) AUj AIb AHz rfl (AJe AQb rfl Aa (λh' hb=>(Ay.ext hb).cell (i:=1) rfl) (AIz Aa rfl (AU2 (DS.mono (HDa.ext Ao)<|Nat.zero_le _) AHx) λCp Ai hk=>?_)))))));obtain ⟨rfl,L1,Ap,Cr⟩:=hk;refine ⟨Aa,?_⟩;have Bl:=Ap.ds (lo:=la) HDa.lo;have A3:=Ap.val;have Ct:=Ap.len;refine AOe (fs:=1) AUj AIb AHz rfl (AJe AQb rfl Aa (λh' hb=>(Az.ext hb).cell (i:=1) rfl) (AIz Aa rfl (AU2 (DS.mono (HDb.ext Ao)<|Nat.zero_le _) AHx) λCu Ai hk=>?_));obtain ⟨rfl,L2,Aq,Cw⟩:=hk;refine ⟨Aa,?_⟩;have Bm:=Aq.ds (lo:=lb) HDb.lo;have A4:=Aq.val;have Cx:=Aq.len;refine AIz Aa rfl (Avk Bl Bm AHx AHx) λCy Cz hk=>?_;obtain ⟨Ae,L4,A5,A6,A7,C1⟩:=hk;have Ar:=Aa.trans Ae;refine ⟨Ar,?_⟩;have C3:=Ae.1;have Bn:=Bh.trans Ae;have Bo:=Ao.trans Ae;have Bp:=Bi.trans Ae;have Bq:=Bj.trans Ae;have Br:=Bf.ext Ae;have Bt:=Ad.trans Ae;refine AIz Ar rfl (ASi (!(na == nb)) A5 A6<|AUq A6 (by rw [A7,A3,A4,<- ANu hza,<- ANu hzb];exact hab)) λC4 C5 hk=>?_;obtain ⟨Ab,Bu⟩:=hk;have Bv:=Ar.trans Ab;refine ⟨Bv,?_⟩;have C6:=Ab.1;have Bw:=Bn.trans Ab;have Bx:=Bo.trans Ab;have By:=Bp.trans Ab;have Bz:=Bq.trans Ab;have B2:=Br.ext Ab;have B3:=Bt.trans Ab;have B4:=A5.ext Ab;obtain ⟨A8,s3,L3,rfl,Ba,B6,B7,B8⟩:=Bu.out;refine AKo [.bool A8,s3] AJz rfl rfl rfl rfl (ARw Ba.cap) B2 λC7 B9 Af=>?_;have Ca:=Bx.thenUpd Af (λk hk=>by have Aj:k=Ac:=hk;omega);have C8:=Af.1;have C9:=Bw.thenUpd Af (λk hk=>by have Aj:k=Ac:=hk;omega);have Da:=B3.thenUpd Af (λk hk=>by have Aj:k=Ac:=hk;omega);have Db:=By.thenUpd Af (λk hk=>by have Aj:k=Ac:=hk;omega);have Dc:=Bz.thenUpd Af (λk hk=>by have Aj:k=Ac:=hk;omega);have Dd:=B4.updLo Af AHx;have Cb:=Ba.updLo Af AHx;refine AH5<|AIc<|⟨_,AKs AJz rfl rfl B9,?_⟩;exact ⟨Ca,⟨A8,s3,L3,rfl,Cb.mono AHx,B6,B7,by rw [<- B8,A7,A3,A4,hza,hzb,Am0]⟩⟩
end Go.Proofs.YtegoafpaljeobaaGreatDoor.Ig
namespace Go.Proofs.YtegoafpaljeobaaGreatDoor
def A3t (fuel:Nat) (a b:Int):Option Int:=if a.natAbs < AM1/\b.natAbs < AM1 then some (a - b) else none
def Atk (fuel:Nat) (a b:Int):Option Int:=if a.natAbs * b.natAbs < AM1 then some (a * b) else none
def Aeb (fuel:Nat) (a b:Int):Option (Int × Int × Bool):=if a.natAbs < 18446744073709551616/\b.natAbs < 18446744073709551616/\b≠0 then some (a / b,a % b,true) else none
def A3u (fuel:Nat) (a:Int):Option Int:=some<|-a
def Aec (fuel:Nat) (a:Int):Option Int:=some a
def Ajc (fuel:Nat) (a:Int):Option Int:=if -9223372036854775808<=a/\a<=9223372036854775807 then some a else none
def Akh (fuel:Nat) (a:Int):Option Int:=some<|AOr a
theorem A43 {u:Value} {b:Int} (H1:ZZ h u a) (H2:ZZ h v b) (hp:A3t fuel a b=some r):AI7 Tryz.prog 121 #[u,v] h (λx h'=>Ext h h'/\ ∃ (x0:Value),x=x0/\ZZ h' x0 r):=by
 obtain ⟨⟨h1,h2⟩,hp⟩:=ifN hp;cases hp;exact (Ig.Sub_ok H1 H2 h1 h2).mono λx h' hk=>⟨hk.1,x,rfl,hk.2.zz⟩
theorem Aru {u:Value} {b:Int} (H1:ZZ h u a) (H2:ZZ h v b) (hp:Atk fuel a b=some r):AI7 Tryz.prog 88 #[u,v] h (λx h'=>Ext h h'/\ ∃ (x0:Value),x=x0/\ZZ h' x0 r):=by
 obtain ⟨h1,hp⟩:=ifN hp;cases hp;exact (Ig.MulZ_ok H1 H2<|Axs h1).mono λx h' hk=>⟨hk.1,x,rfl,hk.2.zz⟩
theorem A44 {u:Value} (H1:ZZ h u a) (hp:A3u fuel a=some r):AI7 Tryz.prog 122 #[u] h (λx h'=>Ext h h'/\ ∃ (x0:Value),x=x0/\ZZ h' x0 r):=by
 cases hp;exact (Ig.Neg_ok H1).mono λx h' hk=>⟨hk.1,x,rfl,hk.2.zz⟩
theorem Agu {u:Value} (H1:ZZ h u a) (hp:Aec fuel a=some r):AI7 Tryz.prog 85 #[u] h (λx h'=>Ext h h'/\ ∃ (x0:Value),x=x0/\ZZ h' x0 r):=by
 cases hp;exact (Ig.Normalize_ok H1).mono λx h' hk=>⟨hk.1,x,rfl,hk.2.zz⟩
theorem Aki (hp:Ajc fuel a=some r):AI7 Tryz.prog 81 #[.int .i64 a] h (λx h'=>Ext h h'/\ ∃ (x0:Value),x=x0/\ZZ h' x0 r):=by
 obtain ⟨h1,hp⟩:=ifN hp;cases hp;exact (Ig.Small_ok h1 h).mono λx h' hk=>⟨hk.1,x,rfl,hk.2.zz⟩
theorem Ajd {u:Value} (H1:ZZ h u a) (hp:Akh fuel a=some r):AI7 Tryz.prog 84 #[u] h (λx h'=>Ext h h'/\x= .int .i64 r):=by
 cases hp;exact Ig.Sign_ok H1
theorem Ahz {u:Value} {b:Int} {r:Int × Int × Bool} (H1:ZZ h u a) (H2:ZZ h v b) (hp:Aeb fuel a b=some r):AI7 Tryz.prog 87 #[u,v] h (λx h'=>Ext h h'/\ ∃ (x0:Value) (x1:Value),x= .tuple #[x0,x1,.bool r.2.2]/\ZZ h' x0 r.1/\ZZ h' x1 r.2.1):=by
 obtain ⟨⟨h1,h2,h3⟩,hp⟩:=ifN hp;cases hp;exact (Ig.DivMod2_ok H1 H2 h1 h2 h3).mono λx h' ⟨E,q,r,hx,hq,hr⟩=>⟨E,q,r,hx,hq.zz,hr.zz⟩
def ATo (fuel:Nat) (a3:LiI) (Ac:LiA) (Aa:Int):Option (Int ⊕ ((Int × Int × Bool) ⊕ Unit)):=
 if Aa < (a3.length:Int) then (gI a3 Aa).bind λAd=>if ¬ (Ad.length:Int)=(Ac.length:Int) then some (.inr<|.inl (0,0,false)) else some (.inl<|w64<|Aa + 1) else some<|.inr<|.inr ()
def APw (fuel:Nat) (a3:LiI):Option (Int × Int × Bool):=
 ((if (a3.length:Int) < 1 then some (.inl (0,0,false)) else if 16 < (a3.length:Int) then some (.inl (0,0,false)) else some<|.inr ()):Option ((Int × Int × Bool) ⊕ Unit)).bind (λex=>match ex with | .inl Ac=>(some Ac) | .inr _=>(gI a3 0).bind λAb=>((if (Ab.length:Int) < 1 then some (.inl (0,0,false)) else if 16 < (Ab.length:Int) then some (.inl (0,0,false)) else some<|.inr ()):Option ((Int × Int × Bool) ⊕ Unit)).bind (λex=>match ex with | .inl Ad=>(some Ad) | .inr _=>(iter (λs=>ATo fuel a3 Ab s) fuel 0).bind (λex=>match ex with | .inl Ae=>(some Ae) | .inr _=>some ((a3.length:Int),(Ab.length:Int),true))))
theorem Ab0 {Aq:Value} {a3:LiI} {r:(Int × Int × Bool)} (H2:ANp (cI .i64) h Aq a3) (hp:APw fuel a3=some r):AI7 Tryz.prog 78 #[Aq] h (λx h'=>Ext h h'/\x= .tuple #[.int .i64 r.1,.int .i64 r.2.1,.bool r.2.2]):=by
 unfold APw at hp;refine cwf (l:=[_]) Tryz.func78 rfl rfl (AH1<|AIw<|AIw<|AH7 ?_);have K0:=Kst.k0 h;obtain ⟨A3,Ar,Ah⟩:=AH2 hp;refine ARb 65308 (λx:Unit=>[]) (λx h'=>(Sum.inr <| ())=A3/\Kst h h' (K0.L)) ?_ ?_
 ·refine AH1<|AHy<|AJh AIk rfl H2 (AI3 rfl rfl (AHy ?_));by_cases Ad:(a3.length:Int) < 1
  ·rw [decide_eq_true Ad];refine ANe 11 true<|AIm rfl (AH5<|AI2 rfl (AH1<|AIw<|AIw<|AH7 ?_));obtain rfl:=AH0<|ifT Ar Ad;refine AIc<|AIt ?_;obtain rfl:=AH0 Ah;exact ⟨_,ASo,K0.x,rfl⟩
  ·have Au:=ifF Ar Ad;rw [decide_eq_false Ad];refine AIs 11 false<|AHy<|AIs 11 false<|AJh AIk rfl H2 (AIs 11 false<|APu rfl rfl (AIn rfl (AH5<|⟨_,rfl,λAi=>?_,λAi=>?_⟩)))
   ·refine AH1<|AIw<|AIw<|AH7 ?_;obtain rfl:=AH0<|AJb Au Ai;refine AIc<|AIt ?_;obtain rfl:=AH0 Ah;exact ⟨_,ASo,K0.x,rfl⟩
   ·refine AIa<|q_t ?_;exact ⟨(():Unit),⟨AH0<|AJc Au Ai,K0⟩,trivial⟩
 rintro ⟨⟩ Be Bf ⟨A4,Ab⟩;subst A4;refine AH1<|AHy ?_;obtain ⟨A5,A6,A7⟩:=AH2 Ah;refine ATc AIk AIv H2 Ab.x A6 λ_ Bg A8=>AJ8 AIi rfl A8 (AH7 ?_);obtain ⟨A9,Av,Aj⟩:=AH2 A7;refine ARb 66060316 (λx:Unit=>[]) (λx h'=>(Sum.inr <| ())=A9/\Kst h h' (Ab.L)) ?_ ?_
 ·refine AH1<|AHy<|AI3 rfl rfl (AHy ?_);by_cases Ae:(A5.length:Int) < 1
  ·rw [decide_eq_true Ae];refine AP2 22 true<|AIm rfl (AH5<|AI2 rfl (AH1<|AIw<|AIw<|AH7 ?_));obtain rfl:=AH0<|ifT Av Ae;refine AIc<|AIt ?_;obtain rfl:=AH0 Aj;exact ⟨_,ASo,Ab.x,rfl⟩
  ·have Aw:=ifF Av Ae;rw [decide_eq_false Ae];refine AIs 22 false<|AHy<|AIs 22 false<|APu rfl rfl (AIn rfl (AH5<|⟨_,rfl,λAk=>?_,λAk=>?_⟩))
   ·refine AH1<|AIw<|AIw<|AH7 ?_;obtain rfl:=AH0<|AJb Aw Ak;refine AIc<|AIt ?_;obtain rfl:=AH0 Aj;exact ⟨_,ASo,Ab.x,rfl⟩
   ·refine AIa<|q_t ?_;exact ⟨(():Unit),⟨AH0<|AJc Aw Ak,Ab⟩,trivial⟩
 rintro ⟨⟩ Bh Bi ⟨Ba,Ax⟩;subst Ba;refine AH3<|AH1<|AHy<|AJh AIk rfl H2 (AHy<|AH5<|AH6<|APb 137170518172 Aj (λx=>[(28,(.int .i64 x))]) (λx=>Ax.L) Ax ⟨rfl,trivial⟩ ?_);rintro Bj Bl Bm Bn Af Am Ay;unfold ATo at Am;refine AH1<|AI3 rfl rfl (AH5<|AH3<|⟨_,rfl,λAo=>?_,λAo=>?_⟩)
 ·refine AIa<|q_t<|AH3<|AH6<|AH1 ?_;obtain ⟨Bo,Bb,Az⟩:=AH2<|AJb Am Ao;refine ATc AIk AIv H2 Af.x Bb λ_ Bp Bc=>AJd<|AHy<|AJ8 AIi rfl Bc (AHy<|AK0 rfl rfl (AH5<|⟨_,rfl,λAp=>?_,λAp=>?_⟩))
  ·refine AH1<|AIw<|AIw<|AH7<|AIc<|AKa<|AIt<|AIt<|AKa<|AIt ?_;obtain rfl:=AH0<|Ay _ (AH0<|AJb Az Ap).symm;exact ⟨_,ASo,Af.x,rfl⟩
  ·refine AIa<|q_b<|q_t<|AIf<|AI0 rfl rfl (AHy<|AH5 ?_);exact ⟨_,(AH0<|AJc Az Ap).symm,Af,rfl,trivial⟩
 ·refine AIq<|AIr<|AIr<|AJt<|q_t<|AH1<|AHy<|AJh AIk rfl H2 (AHy<|AIw<|AIw<|AH7<|AIc ?_);obtain rfl:=AH0<|Ay _ (AH0<|AJc Am Ao).symm;exact ⟨_,ASo,Af.x,rfl⟩
def AR8 (fuel:Nat) (a3:LiI) (Ac:LiA) (Aa:Int):Option (Int ⊕ ((Int × Int × Bool) ⊕ Unit)):=
 if Aa < (a3.length:Int) then (gI a3 Aa).bind λAd=>if ¬ (Ad.length:Int)=(Ac.length:Int) then some (.inr<|.inl (0,0,false)) else some (.inl<|w64<|Aa + 1) else some<|.inr<|.inr ()
def AOy (fuel:Nat) (a3:LiI):Option (Int × Int × Bool):=
 ((if (a3.length:Int) < 1 then some (.inl (0,0,false)) else if 16 < (a3.length:Int) then some (.inl (0,0,false)) else some<|.inr ()):Option ((Int × Int × Bool) ⊕ Unit)).bind (λex=>match ex with | .inl Ac=>(some Ac) | .inr _=>(gI a3 0).bind λAb=>((if (Ab.length:Int) < 1 then some (.inl (0,0,false)) else if 16 < (Ab.length:Int) then some (.inl (0,0,false)) else some<|.inr ()):Option ((Int × Int × Bool) ⊕ Unit)).bind (λex=>match ex with | .inl Ad=>(some Ad) | .inr _=>(iter (λs=>AR8 fuel a3 Ab s) fuel 0).bind (λex=>match ex with | .inl Ae=>(some Ae) | .inr _=>some ((a3.length:Int),(Ab.length:Int),true))))
theorem Aam {Aq:Value} {a3:LiI} {r:(Int × Int × Bool)} (H2:ANp cZ h Aq a3) (hp:AOy fuel a3=some r):AI7 Tryz.prog 82 #[Aq] h (λx h'=>Ext h h'/\x= .tuple #[.int .i64 r.1,.int .i64 r.2.1,.bool r.2.2]):=by
 unfold AOy at hp;refine cwf (l:=[_]) Tryz.func82 rfl rfl (AH1<|AIw<|AIw<|AH7 ?_);have K0:=Kst.k0 h;obtain ⟨A3,Ar,Ah⟩:=AH2 hp;refine ARb 65308 (λx:Unit=>[]) (λx h'=>(Sum.inr <| ())=A3/\Kst h h' (K0.L)) ?_ ?_
 ·refine AH1<|AHy<|AJh AKj rfl H2 (AI3 rfl rfl (AHy ?_));by_cases Ad:(a3.length:Int) < 1
  ·rw [decide_eq_true Ad];refine ANe 11 true<|AIm rfl (AH5<|AI2 rfl (AH1<|AIw<|AIw<|AH7 ?_));obtain rfl:=AH0<|ifT Ar Ad;refine AIc<|AIt ?_;obtain rfl:=AH0 Ah;exact ⟨_,ASo,K0.x,rfl⟩
  ·have Au:=ifF Ar Ad;rw [decide_eq_false Ad];refine AIs 11 false<|AHy<|AIs 11 false<|AJh AKj rfl H2 (AIs 11 false<|APu rfl rfl (AIn rfl (AH5<|⟨_,rfl,λAi=>?_,λAi=>?_⟩)))
   ·refine AH1<|AIw<|AIw<|AH7 ?_;obtain rfl:=AH0<|AJb Au Ai;refine AIc<|AIt ?_;obtain rfl:=AH0 Ah;exact ⟨_,ASo,K0.x,rfl⟩
   ·refine AIa<|q_t ?_;exact ⟨(():Unit),⟨AH0<|AJc Au Ai,K0⟩,trivial⟩
 rintro ⟨⟩ Be Bf ⟨A4,Ab⟩;subst A4;refine AH1<|AHy ?_;obtain ⟨A5,A6,A7⟩:=AH2 Ah;refine ATc AKj AMq H2 Ab.x A6 λ_ Bg A8=>AJ8 ALs rfl A8 (AH7 ?_);obtain ⟨A9,Av,Aj⟩:=AH2 A7;refine ARb 66060316 (λx:Unit=>[]) (λx h'=>(Sum.inr <| ())=A9/\Kst h h' (Ab.L)) ?_ ?_
 ·refine AH1<|AHy<|AI3 rfl rfl (AHy ?_);by_cases Ae:(A5.length:Int) < 1
  ·rw [decide_eq_true Ae];refine AP2 22 true<|AIm rfl (AH5<|AI2 rfl (AH1<|AIw<|AIw<|AH7 ?_));obtain rfl:=AH0<|ifT Av Ae;refine AIc<|AIt ?_;obtain rfl:=AH0 Aj;exact ⟨_,ASo,Ab.x,rfl⟩
  ·have Aw:=ifF Av Ae;rw [decide_eq_false Ae];refine AIs 22 false<|AHy<|AIs 22 false<|APu rfl rfl (AIn rfl (AH5<|⟨_,rfl,λAk=>?_,λAk=>?_⟩))
   ·refine AH1<|AIw<|AIw<|AH7 ?_;obtain rfl:=AH0<|AJb Aw Ak;refine AIc<|AIt ?_;obtain rfl:=AH0 Aj;exact ⟨_,ASo,Ab.x,rfl⟩
   ·refine AIa<|q_t ?_;exact ⟨(():Unit),⟨AH0<|AJc Aw Ak,Ab⟩,trivial⟩
 rintro ⟨⟩ Bh Bi ⟨Ba,Ax⟩;subst Ba;refine AH3<|AH1<|AHy<|AJh AKj rfl H2 (AHy<|AH5<|AH6<|APb 137170518172 Aj (λx=>[(28,(.int .i64 x))]) (λx=>Ax.L) Ax ⟨rfl,trivial⟩ ?_);rintro Bj Bl Bm Bn Af Am Ay;unfold AR8 at Am;refine AH1<|AI3 rfl rfl (AH5<|AH3<|⟨_,rfl,λAo=>?_,λAo=>?_⟩)
 ·refine AIa<|q_t<|AH3<|AH6<|AH1 ?_;obtain ⟨Bo,Bb,Az⟩:=AH2<|AJb Am Ao;refine ATc AKj AMq H2 Af.x Bb λ_ Bp Bc=>AJd<|AHy<|AJ8 ALs rfl Bc (AHy<|AK0 rfl rfl (AH5<|⟨_,rfl,λAp=>?_,λAp=>?_⟩))
  ·refine AH1<|AIw<|AIw<|AH7<|AIc<|AKa<|AIt<|AIt<|AKa<|AIt ?_;obtain rfl:=AH0<|Ay _ (AH0<|AJb Az Ap).symm;exact ⟨_,ASo,Af.x,rfl⟩
  ·refine AIa<|q_b<|q_t<|AIf<|AI0 rfl rfl (AHy<|AH5 ?_);exact ⟨_,(AH0<|AJc Az Ap).symm,Af,rfl,trivial⟩
 ·refine AIq<|AIr<|AIr<|AJt<|q_t<|AH1<|AHy<|AJh AKj rfl H2 (AHy<|AIw<|AIw<|AH7<|AIc ?_);obtain rfl:=AH0<|Ay _ (AH0<|AJc Am Ao).symm;exact ⟨_,ASo,Af.x,rfl⟩
def AVg (fuel:Nat) (a3:LiI) (Ab:Int) (Af:LiA) (Aa:Int) (Ac:LiI):Option ((Int × LiI) ⊕ LiI):=
 if Aa < (Af.length:Int) then (gI Ac Ab).bind λAd=>(((gI a3 Ab).bind λAg=>(gI Ag Aa).bind λAh=>(Ajc fuel Ah).bind λAi=>some Ai):Option Int).bind λAj=>(gI Ad Aa).bind λAk=>some (.inl (w64<|Aa + 1,sI Ac Ab<|sI Ad Aa Aj)) else some<|.inr Ac
def AVh (fuel:Nat) (a3:LiI) (Ae Ab Aa:Int) (Ac:LiI):Option ((Int × LiI) ⊕ LiI):=
 if Aa < ((List.replicate (Int.toNat Ae) ([]:List Int)).length:Int) then if 0<=Ab/\Ab<=100000000 then (gI Ac Aa).bind λAh=>(gI (sI Ac Aa<|List.replicate (Int.toNat Ab) (0:Int)) Aa).bind λAf=>(iter (λs=>AVg fuel a3 Aa Af s.1 s.2) fuel (0,sI Ac Aa<|List.replicate (Int.toNat Ab) (0:Int))).bind (λ(Ag:LiI)=>some<|.inl (w64<|Aa + 1,Ag)) else none else some<|.inr Ac
def ASj (fuel:Nat) (a3:LiI):Option (LiI × Bool):=
 (APw fuel a3).bind λ(Aa,Ac,Ad)=>if (!Ad)=true then some ([],false) else ((if 0<=Aa/\Aa<=100000000 then (iter (λs=>AVh fuel a3 Aa Ac s.1 s.2) fuel (0,List.replicate (Int.toNat Aa) ([]:List Int))).bind (λ(Ae:LiI)=>some Ae) else none):Option LiI).bind λAf=>some (Af,true)
theorem Aed {Ah:Value} {a3:LiI} {r:(LiI × Bool)} (H2:ANp (cI .i64) h Ah a3) (hp:ASj fuel a3=some r):AI7 Tryz.prog 40 #[Ah] h (λx h'=>Ext h h'/\ ∃ (x0:Value) (F0:List Nat) (Bu:List LnA) (Bv:List Value),x= .tuple #[x0,.bool r.2]/\ALl cZ 127 81 h' F0 Bu Bv x0 r.1/\Sp h' h.size [F0]):=by
 unfold ASj at hp;refine cwf (l:=[_]) Tryz.func40 rfl rfl (AH1 ?_);have K0:=Kst.k0 h;refine Ahl [Ah] trivial tt2 rfl (Ao2 ((H2.ext K0.x)).isOne) λb5 h6 V7 E8 S9=>AIw<|AJd ?_;have Aj:=K0.nb E8 S9 V7;refine AI1 AJ9 rfl ((Aj.b p0).cell (i:=0) rfl) ?_;obtain ⟨⟨B2,B3,D4⟩,B4,Ak⟩:=AH2 hp;dsimp only at Ak;refine ALx Aj (Ab0 (H2.ext Aj.x) B4) λD5 D6 Am=>AHy<|AJs rfl rfl (AJs rfl rfl (AJs rfl rfl (AIw<|AIw<|AH7<|AH3<|AH1<|AHy<|AMp rfl (AH5<|⟨_,rfl,λAo=>?_,λAo=>?_⟩))))
 ·refine AH1<|AIw<|AH7<|AIc<|AIt ?_;have Ap:=Kst.anil2 cZ 127 81 Am;obtain rfl:=AH0<|ifT Ak Ao;exact ⟨_,AJu,Ap.x,_,_,_,_,rfl,(Ap.o2 p0),Ap.s.sel [0] AHz⟩
 ·refine AIa<|q_t<|AH1<|AHy<|AHy<|Awm rfl ?_;obtain ⟨B5,B6,B7⟩:=AH2<|AQa Ak Ao;refine AIz (K':=(λxr h'=> ∃ x:(LiI) × (Value) × LnA × LnN × LvA,x.1=B5/\xr=x.2.1/\Kst h h' (aO2 cZ 127 81 x.2.2.1 x.2.2.2.1 x.2.2.2.2 x.2.1 x.1 :: Am.L))) trivial rfl ?_ λB8 D7 B9=>?_
  ·refine cwf (l:=[_,_,_]) Tryz.func79 rfl rfl (AH1<|AJd<|AHy ?_);obtain ⟨Ca,Cb⟩:=ifN B6;refine Aay cZ 81 AKj Ao3 rfl trivial tt2 rfl rfl AHz Ca λCd Ce Cf Aq D8 Cg Ch Ci=>AH7<|AH3<|AH1<|AHy ?_;have Ar:=Am.no2 Ch Ci Cg;refine AJh AKj rfl (Ar.o2 p0).rd (AHy<|AH5<|AH6<|AOq 4398046495488 (λx:(Int) × (LiI) × LnA × LnN × LvA=>(x.1,x.2.1)) ((0,(List.replicate (Int.toNat B2) ([]:List Int)),Cd,Ce,Cf):(Int) × (LiI) × LnA × LnN × LvA) Cb (λx=>[(14,(.int .i64 x.1))]) (λx=>Ar.L.set 0<|aO2 cZ 127 81 x.2.2.1 x.2.2.2.1 x.2.2.2.2 Aq x.2.1) Ar ⟨rfl,trivial⟩ ?_);rintro ⟨Aa,Bg,Cj,Au,Bh⟩ D9 Ea Eb Bi Av Ck;unfold AVh at Av;refine AH1<|AI3 rfl rfl (AH5<|AH3<|⟨_,rfl,λAw=>?_,λAw=>?_⟩)
   ·refine AIa<|q_t<|AH3<|AH6<|AH1<|AHy<|AJd<|AHy<|AHy<|AHy ?_;obtain ⟨Cm,Cn⟩:=ifN<|AJb Av Aw;refine Aq9 ALs ANt rfl trivial tt2 rfl rfl AHz Cm λBj Co Ec Cp Cq Cr Ct=>?_;have Ac:=Bi.no Cq (ANs Cr Ct) Cp;obtain ⟨Ed,Bl,Cu⟩:=AH2 Cn;refine AJr AKj rfl (Ac.o2 p1) rfl Bl λCv Ee Cw Ef Eg=>Aax AMq (Ac.o2 p1) Bl Cw rfl rfl (Ac.o p0) (Ac.dj p0 p1 AHz) λEh Cx Cy Cz=>AQs<|AHy<|AHy ?_;have Ax:=Ac.m2 p0 p1 AHz Cy Cx λz hz=> .inl<|Cz z hz;obtain ⟨Ei,Bm,C0⟩:=AH2 Cu;refine AKe AKj AMq (Ax.o2 p1) Bm λ_ Ej C1=>AJ8 ALs rfl ((Ax.o2 p1).rowI C1 Bm) (AHy<|AH5<|AH6 ?_);have Ay:=Ax.sel [1,2] AHz;dsimp only [APr,AS0] at Ay;refine AOq 2198889038336 (λx:(Int) × (LiI) × LnA × LnN × LvA=>(x.1,x.2.1)) ((0,(sI Bg Aa<|List.replicate (Int.toNat B3) (0:Int)),(Cv :: (Au.set (Int.toNat Aa) [Bj]).flatten),(Au.set (Int.toNat Aa) [Bj]),(Bh.set (Int.toNat Aa) Co)):(Int) × (LiI) × LnA × LnN × LvA) C0 (λx=>[(27,(.int .i64 x.1))]) (λx=>Ay.L.set 0<|aO2 cZ 127 81 x.2.2.1 x.2.2.2.1 x.2.2.2.2 Aq x.2.1) Ay ⟨rfl,trivial⟩ ?_;rintro ⟨C3,Ek,El,Em,En⟩ Eo Ab Ep Ad Az C4;unfold AVg at Az;refine AH1<|AI3 rfl rfl (AH5<|AH3<|⟨_,rfl,λA3=>?_,λA3=>?_⟩)
    ·refine AIa<|q_t<|AH3<|AH6<|AH1<|AHy<|AH7<|AKg (λh'=>UpT [] Ab h') AIb ?_;have A4:UpT [] Ab Ab:=UpT.start all_nil;refine AHy<|AHy ?_;obtain ⟨Er,A5,C5⟩:=AH2<|AJb Az A3;refine AJr AKj rfl (Ad.o2 p0) rfl A5 λEs Et Eu C6 C7=>AJe AMq rfl A4 (λh' hb=>AIj C7 hb.ext) (AHy<|AHy<|AHy<|AHy ?_);obtain ⟨C8,C9,Da⟩:=AH2 C5;have Db:UpT [] Ab Ab:=UpT.start all_nil;refine Aix (l:=[(.int .i64 Aa),(.int .i64 C3)]) (cl:=[(.pointer<|some ⟨b5,0,none⟩)]) (K':=(λxr h'=> ∃ x:(Int) × LvA,x.1=C8/\xr=(.agg (x.2).toArray)/\Kst h h' (aZ x.2 x.1 :: Ad.L)/\UpT [] Ab h')) A4 rfl rfl ?_ λEv Ew Dc=>?_
     ·refine cwf (l:=[_,_,_]) Tryz.func80 rfl rfl (AH1<|Agl [.bool false,.slice none 0 0] ANt rfl trivial tt2 λEy Ez Dd A6 Bn=>AQs ?_);have Fa:=A6.1;have Ag:=Ad.nb A6 Bn Dd;refine AI1 AJ9 rfl ((Ag.b p2).cell (i:=0) rfl) (AHy ?_);have De:=Bn.loAll 0 rfl;obtain ⟨Fb,Df,Dg⟩:=AH2 C9;refine Ad7 AIk rfl H2 rfl Df λFc Fd Fe Dh Di=>AI1 AIv rfl (AIj Dh Ag.x) (AHy ?_);obtain ⟨Ff,Dj,Dk⟩:=AH2 Dg;refine AQi (c:=(cI .i64)) AIi rfl Di rfl Dj λFg Fh Fi Dl Do=>?_;obtain rfl:=Dl;refine AI1 AIg rfl (AIj (Do 0 _ rfl) Ag.x) ?_;obtain ⟨Dp,Dq,Dr⟩:=AH2 Dk;refine ASt rfl (Aki Dq) λFj Ds A7 Dt=>?_;obtain ⟨Fk,rfl,Du⟩:=Dt;have Fl:=A7.1;obtain ⟨Bo,rfl,Dv⟩:=Du.cs;have Ae:=(Ag.e A7).az Dv;refine AKo Bo AJz (cZ.klen<|Ae.z p0) (cZ.klen<|AIo Ds) rfl rfl (cZ.one<|Ae.z p0) (Ae.b p1) λFm Bp A8=>AH5<|AIc ?_;have Fo:=A8.1;have A9:=Ae.sb p1 A8 Bp rfl;refine ⟨_,AKs AJz (cZ.klen<|A9.z p0) rfl (A9.b p1),((Dp,Bo):(Int) × LvA),?_,rfl,?_,?_⟩
      ·exact AH0 Dr
      ·exact A9.sel [0,2,3] AHz
      ·exact (((Db.thenE A6).thenE A7).then (Bp.stA A8 (AOp (Ae.b p1) rfl) rfl) (Axh De AHx))
     obtain ⟨⟨Fp,Fq⟩,Dw,rfl,Af,Bq⟩:=Dc;have Ft:=Bq.size;refine ⟨(A4.then Bq all_nil),?_⟩;subst Dw;obtain ⟨Fu,Br,Dx⟩:=AH2 Da;refine AJy (m:=Aa) ALs rfl (Ad.o2 p0) C6 A5 rfl Br λFv Dy=>AN2 (m:=Aa) (Aaw AJz (cZ.klen<|Af.z p0) rfl rfl (cZ.one<|Af.z p0)) (Af.o2 p1) Dy A5 Br (Af.z p0) λFw Dz Bt=>AIu<|q_b<|q_t<|AIf<|AI0 rfl rfl (AHy<|AH5 ?_);have Fx:=Bt.size;exact ⟨(_,_,_,_,_),(AH0 Dx).symm,(Af.uO2 p1 Bt Dz).sel [1,2] AHz,rfl,trivial⟩
    ·refine AIq<|AIr<|AIr<|AJt<|q_b<|q_t<|AIf<|AI0 rfl rfl (AHy<|AH5 ?_);exact ⟨(_,_,_,_,_),(AH0<|C4 _ (AH0<|AJc Az A3).symm).symm,Ad,rfl,trivial⟩
   ·refine AIq<|AIr<|AIr<|AJt<|q_t<|AH1<|AHy<|AH7<|AIc<|⟨_,AId,((Bg,Aq,Cj,Au,Bh):(LiI) × (Value) × LnA × LnN × LvA),?_,rfl,?_⟩
    ·exact AH0<|Ck _ (AH0<|AJc Av Aw).symm
    ·exact Bi
  obtain ⟨⟨Fy,B8,Fz,F4,F5⟩,D0,rfl,Ba⟩:=B9;refine ⟨trivial,?_⟩;subst D0;refine AIw<|AH7<|AIc ?_;obtain rfl:=AH0 B7;exact ⟨_,AJu,Ba.x,_,_,_,_,rfl,(Ba.o2 p0),Ba.s.sel [0] AHz⟩
def ATp (fuel:Nat) (a3:LiI) (Ac:Int) (Ad:LiI) (Aa:Int):Option (Int ⊕ Int):=
 ((if Aa < (a3.length:Int) then (gI Ad Aa).bind λAe=>(gI Ae Ac).bind λAf=>(Akh fuel Af).bind λAg=>if Ag=0 then some (.inl ()) else some (.inr ()) else some<|.inr ()):Option (Unit ⊕ Unit)).bind (λex=>match ex with | .inl _=>(some<|.inl<|w64<|Aa + 1) | .inr _=>some<|.inr Aa)
def ATq (fuel:Nat) (a3:LiI) (Ad Ag Ah Ae Aa:Int) (Ab:LiI):Option ((Int × LiI) ⊕ LiI):=
 if Aa < (a3.length:Int) then (gI Ab Ae).bind λAc=>(gI Ac Aa).bind λAi=>(Atk fuel Ah Ai).bind λAj=>(gI Ac Ad).bind λAk=>(gI Ab Ad).bind λAm=>(gI Am Aa).bind λAo=>(Atk fuel Ak Ao).bind λAp=>(A3t fuel Aj Ap).bind λAq=>(Aeb fuel Aq Ag).bind λ(Ar,Au,Av)=>some (.inl (w64<|Aa + 1,sI Ab Ae<|sI Ac Aa Ar)) else some<|.inr Ab
def ATr (fuel:Nat) (a3:LiI) (Ac Ae Af Aa:Int) (Ad:LiI):Option ((Int × LiI) ⊕ LiI):=
 if Aa < (a3.length:Int) then (iter (λs=>ATq fuel a3 Ac Ae Af Aa s.1 s.2) fuel (w64<|Ac + 1,Ad)).bind (λ(Ag:LiI)=>some<|.inl (w64<|Aa + 1,Ag)) else some<|.inr Ad
def ATs (fuel:Nat) (a3:LiI) (Ae:Bool) (Aa:Int) (Ab:LiI) (Af:Int):Option ((Bool × Int × LiI × Int) ⊕ (Int ⊕ (Bool × Int))):=
 if Aa < (a3.length:Int) then (((iter (λs=>ATp fuel a3 Aa Ab s) fuel Aa).bind (λ(Ai:Int)=>some Ai)):Option Int).bind (λ(Ad:Int)=>if Ad=(a3.length:Int) then some (.inr<|.inl 0) else ((if ¬ Ad=Aa then (gI Ab Ad).bind λAj=>(gI Ab Aa).bind λAk=>some (!Ae,sI (sI Ab Aa Aj) Ad Ak) else some (Ae,Ab)):Option (Bool × LiI)).bind (λ((Am,Ag):Bool × LiI)=>(gI Ag Aa).bind λAo=>(gI Ao Aa).bind λAh=>(iter (λs=>ATr fuel a3 Aa Af Ah s.1 s.2) fuel (w64<|Aa + 1,Ag)).bind (λ(Ap:LiI)=>some<|.inl (Am,w64<|Aa + 1,Ap,Ah)))) else some<|.inr<|.inr (Ae,Af)
def ATt (fuel:Nat) (a3:LiI) (Aa:Int) (Ac:LiI):Option ((Int × LiI) ⊕ LiI):=
 if Aa < (a3.length:Int) then (gI a3 Aa).bind λAd=>if 0<=(a3.length:Int)/\(a3.length:Int)<=100000000 then (gI Ac Aa).bind λAf=>(gI (sI Ac Aa<|List.replicate (Int.toNat (a3.length:Int)) (0:Int)) Aa).bind λAe=>if Ad.length=Ae.length/\0 < Ae.length then some (.inl (w64<|Aa + 1,sI (sI Ac Aa<|List.replicate (Int.toNat (a3.length:Int)) (0:Int)) Aa Ad)) else none else none else some<|.inr Ac
def APx (fuel:Nat) (a3:LiI):Option Int:=
 if 0<=(a3.length:Int)/\(a3.length:Int)<=100000000 then (iter (λs=>ATt fuel a3 s.1 s.2) fuel (0,List.replicate (Int.toNat (a3.length:Int)) ([]:List Int))).bind (λ(Ac:LiI)=>(Ajc fuel 1).bind λAd=>(iter (λs=>ATs fuel a3 s.1 s.2.1 s.2.2.1 s.2.2.2) fuel (false,0,Ac,Ad)).bind (λex=>match ex with | .inl Ae=>(some Ae) | .inr (Af,Ab)=>if Af=true then (A3u fuel Ab).bind λAg=>some Ag else (Aec fuel Ab).bind λAh=>some Ah)) else none
theorem Ab1 {Bx:Value} {a3:LiI} (H2:ANp cZ h Bx a3) (hp:APx fuel a3=some r):AI7 Tryz.prog 83 #[Bx] h (λx h'=>Ext h h'/\ ∃ (x0:Value),x=x0/\ZZ h' x0 r):=by
 unfold APx at hp;refine cwf (l:=[_]) Tryz.func83 rfl rfl (AH1<|ALm (Kst.k0 h) [.bool false,.slice none 0 0] ANt λb5 h6 E8 C8=>AQs<|AHy<|AJh AKj rfl H2 (AJd<|AHy ?_));obtain ⟨C9,Da⟩:=ifN hp;refine Aay cZ 81 AKj Ao3 rfl trivial tt2 rfl rfl AHz C9 λDb Dc Dd Ak Ij De Df Dg=>AH7<|AH3<|AH1<|AHy<|AJh AKj rfl H2 (AHy<|AH5<|AH6 ?_);have Bz:=C8.no2 Df Dg De;refine AOq 274875809888 (λx:(Int) × (LiI) × LnA × LnN × LvA=>(x.1,x.2.1)) ((0,(List.replicate (Int.toNat (a3.length:Int)) ([]:List Int)),Db,Dc,Dd):(Int) × (LiI) × LnA × LnN × LvA) Da (λx=>[(21,(.int .i64 x.1))]) (λx=>Bz.L.set 0<|aO2 cZ 127 81 x.2.2.1 x.2.2.2.1 x.2.2.2.2 Ak x.2.1) Bz ⟨rfl,trivial⟩ ?_;rintro ⟨Dh,u32,Di,Dj,Dk⟩ Ik Il Im A7 A8 Dl;unfold ATt at A8;refine AH1<|AI3 rfl rfl (AH5<|AH3<|⟨_,rfl,λA9=>?_,λA9=>?_⟩)
 ·refine AIa<|q_t<|AH3<|AH6<|AH1<|AHy ?_;obtain ⟨Io,Do,Dp⟩:=AH2<|AJb A8 A9;refine ATc AKj AMq H2 A7.x Do λ_ Ip Dq=>AIw<|AJd<|AHy<|AHy<|AHy ?_;obtain ⟨Dr,Ds⟩:=ifN Dp;refine Aq9 ALs ANt rfl trivial tt2 rfl rfl AHz Dr λIq Ir Is Dt Du Dv Dw=>?_;have Am:=A7.no Du (ANs Dv Dw) Dt;obtain ⟨It,B2,Dx⟩:=AH2 Ds;refine AJr AKj rfl (Am.o2 p1) rfl B2 λIu Iv Dy Iw Ix=>Aax AMq (Am.o2 p1) B2 Dy rfl rfl (Am.o p0) (Am.dj p0 p1 AHz) λIy Dz D0 D3=>AH5<|AIf<|AHy<|AHy ?_;have Au:=Am.m2 p0 p1 AHz D0 Dz λz hz=> .inl<|D3 z hz;obtain ⟨Iz,B3,D4⟩:=AH2 Dx;refine AKe AKj AMq (Au.o2 p1) B3 λ_ I0 D5=>AHy ?_;obtain ⟨D6,D7⟩:=ifN D4;refine Axr (m:=Dh) ALs trivial rfl rfl (Au.o2 p1) D5 B3 (Dq.ext Au.x) D6 λI1 D8 D9=>⟨trivial,?_⟩;refine AIu<|q_b<|q_t<|AIf<|AI0 rfl rfl (AHy<|AH5 ?_);exact ⟨(_,_,_,_,_),(AH0 D7).symm,(Au.uO2 p1 D9 D8).sel [1,2] AHz,rfl,trivial⟩
 ·refine AIq<|AIr<|AIr<|AJt<|q_t<|AH1<|AJd ?_;obtain ⟨Ea,Eb,Ec⟩:=AH2<|Dl _ (AH0<|AJc A8 A9).symm;refine AWr A7 (Aki Eb) λEd I2 I3 Ee=>ALm Ee [.bool false,.slice none 0 0] ANt λEf Eg I6 B4=>AOv B4 p0 (AIo Eg) (B4.z p1) λI7 B5=>AH5<|AH3<|AH1<|AHy<|AHy<|AH5<|AH6<|AOq 22300745198530623141535718272647261994385024 (λx:(Bool) × (Int) × (LiI) × LnA × LnN × LvA × (Int) × LvA=>(x.1,x.2.1,x.2.2.1,x.2.2.2.2.2.2.1)) ((false,0,u32,Di,Dj,Dk,Ea,Ed):(Bool) × (Int) × (LiI) × LnA × LnN × LvA × (Int) × LvA) Ec (λx=>[(7,(.bool x.1)),(40,(.int .i64 x.2.1))]) (λx=>((B5.L.set 2<|aO2 cZ 127 81 x.2.2.2.1 x.2.2.2.2.1 x.2.2.2.2.2.1 Ak x.2.2.1).set 1 (aZ x.2.2.2.2.2.2.2 x.2.2.2.2.2.2.1)).set 0 (aB 81 Ef x.2.2.2.2.2.2.2)) B5 ⟨rfl,rfl,trivial⟩ ?_;rintro ⟨B6,Ao,B7,Eh,Ei,Ej,I9,Ja⟩ Jc Je Jf Ab Ba B8;unfold ATs at Ba;refine AH1<|AI3 rfl rfl (AH5<|AH3<|⟨_,rfl,λBb=>?_,λBb=>?_⟩)
  ·refine AIa<|q_t<|AH3<|AH6<|AH1<|AHy<|AJd<|AHy<|AH7 ?_;obtain ⟨Ek,El,B9⟩:=AH2<|AJb Ba Bb;refine ARb 1152903912420803584 (λx:(Int)=>[(10,(.int .i64 x))]) (λx h'=>( x)=Ek/\Kst h h' (Ab.L)) ?_ ?_
   ·refine AH6<|APb 1152903912420803584 El (λx=>[(10,(.int .i64 x))]) (λx=>Ab.L) Ab ⟨rfl,trivial⟩ ?_;rintro Av Jg Jh Ji Ah Ca Cb;unfold ATp at Ca;obtain ⟨Em,Cd,Bc⟩:=AH2 Ca;refine ARb 288212783965667328 (λx:Unit=>[]) (λx h'=>(Sum.inl <| ())=Em/\Kst h h' (Ah.L)) ?_ ?_
    ·refine AH1<|AHy<|AHy<|AI3 rfl rfl (AHy ?_);by_cases Aw:Av < (a3.length:Int)
     ·rw [decide_eq_true Aw];refine AIs 47 true<|AHy<|AIs 47 true<|AHy<|AIs 47 true ?_;obtain ⟨Jj,Be,En⟩:=AH2<|ifT Cd Aw;refine AJr AKj rfl (Ah.o2 p2) rfl Be λJk Jl Jm Eo Ep=>AIs 47 true<|AI1 AMq rfl Ep (AIs 47 true<|AHy<|AIs 47 true ?_);obtain ⟨Jn,Ce,Er⟩:=AH2 En;refine AJy (m:=Av) ALs rfl (Ah.o2 p2) Eo Be rfl Ce λJo Es=>AIs 47 true ?_;obtain ⟨Jp,Et,Eu⟩:=(Ah.o2 p2).cells Es Be Ce;have Bf:=Ah.az Et;refine AW5 (c:=cZ) AJz rfl (Bf.z p0) (λj u hu=>(Eu j u hu)) (AIs 47 true ?_);obtain ⟨Jq,Ev,Cf⟩:=AH2 Er;refine ALx Bf (Ajd (Bf.z p0).2 Ev) λJr Js Cg=>AIs 47 true<|AKd rfl rfl (AIm rfl (AH5<|⟨_,rfl,λBg=>?_,λBg=>?_⟩))
      ·refine AIa<|q_t ?_;exact ⟨(():Unit),⟨AH0<|AJb Cf Bg,Cg.sel [1,2,3,4] AHz⟩,trivial⟩
      ·obtain rfl:=AH0<|AJc Cf Bg;refine AIq<|AIr<|AIr<|AJt<|q_t ?_;exact ⟨(Av:(Int)),⟨AH0<|Cb _ (AH0 Bc).symm,Cg.sel [1,2,3,4] AHz⟩,rfl,trivial⟩
     ·rw [decide_eq_false Aw];refine AN1 47 false<|AUi 47 false<|AIn rfl (AH5<|AI6 rfl ?_);obtain rfl:=AH0<|ifF Cd Aw;refine AIq<|AIr<|AIr<|AJt<|q_t ?_;exact ⟨(Av:(Int)),⟨AH0<|Cb _ (AH0 Bc).symm,Ah⟩,rfl,trivial⟩
    rintro ⟨⟩ Jt Ju ⟨Ew,Ey⟩;subst Ew;refine AH6<|AIf<|AHy<|AI0 rfl rfl (AIw<|AIu<|q_b<|q_t ?_);exact ⟨_,(AH0 Bc).symm,Ey,rfl,trivial⟩
   rintro Ez Jv Ch ⟨Fa,Ae⟩;subst Fa;refine AH3<|AH1<|AHy<|AHy<|AKd rfl rfl (AH5<|⟨_,rfl,λBh=>?_,λBh=>?_⟩)
   ·refine AH1<|ALe (AW6 )<|AOv Ae p3 (AIo Ch) (AIo Ch) λCi Cj=>AH5<|AIc<|AIt<|AKa<|AIt<|AIt<|AKa<|AIt ?_;obtain rfl:=AH0<|B8 _ (AH0<|AJb B9 Bh).symm;exact ⟨_,AKs AJz (cZ.klen<|AIo Ci) rfl (Cj.b p3),Cj.x,_,rfl,(AIo Ci).2⟩
   ·refine AIa<|q_t ?_;obtain ⟨Fb,Ck,Fc⟩:=AH2<|AJc B9 Bh;refine ARb 9671388110172959688097920 (λx:(Bool) × (LiI) × LnA × LnN × LvA=>[(7,(.bool x.1))]) (λx h'=>( (x.1,x.2.1))=Fb/\Kst h h' (Ae.L.set 2<|aO2 cZ 127 81 x.2.2.1 x.2.2.2.1 x.2.2.2.2 Ak x.2.1)) ?_ ?_
    ·refine AH1<|AHy<|AHy<|AK0 rfl rfl (AH5<|⟨_,rfl,λBi=>?_,λBi=>?_⟩)
     ·refine AH3<|AMw<|AHy<|AHy<|AHy<|AHy<|AHy<|AHy ?_;obtain ⟨Fd,Cm,Fe⟩:=AH2<|AJb Ck Bi;refine AKe AKj AMq (Ae.o2 p2) Cm λ_ Jw Ff=>AHy<|AHy ?_;obtain ⟨Fg,Cn,Fh⟩:=AH2 Fe;refine AKe AKj AMq (Ae.o2 p2) Cn λ_ Jx Fi=>AX2 AKj AMq (Ae.o2 p2) Fi Ff Cn Cm rfl rfl (λ_=>rfl) (λ_=>rfl) (λ_=>rfl) (λ_ _=>rfl) λJy Jz Fj Fk Fl J0 Fm Fo Fp=>AH5<|AIf<|AHy<|AMp rfl (AH7 ?_);exact ⟨(((!B6),(sI (sI B7 Ao Fd) Ez Fg),Fj,Fk,Fl):(Bool) × (LiI) × LnA × LnN × LvA),⟨AH0 Fh,(Ae.uo2 p2 Fo Fm Fp)⟩,rfl,trivial⟩
     ·refine AIa<|q_t ?_;exact ⟨((B6,B7,Eh,Ei,Ej):(Bool) × (LiI) × LnA × LnN × LvA),⟨AH0<|AJc Ck Bi,Ae⟩,rfl,trivial⟩
    rintro ⟨J1,Fq,Ft,Fu,Fv⟩ J2 J3 ⟨Fw,Ax⟩;subst Fw;refine AH1<|AHy<|AHy ?_;obtain ⟨J4,Bj,Fx⟩:=AH2 Fc;refine AKe AKj AMq (Ax.o2 p2) Bj λ_ J5 Fy=>AHy ?_;obtain ⟨J6,Co,Fz⟩:=AH2 Fx;refine AJy (m:=Ao) ALs rfl (Ax.o2 p2) Fy Bj rfl Co λJ7 F4=>?_;obtain ⟨J8,F5,F6⟩:=(Ax.o2 p2).cells F4 Bj Co;have Cp:=Ax.az F5;refine AW5 (c:=cZ) AJz rfl (Cp.z p0) (λj u hu=>(F6 j u hu)) (ALm Cp [.bool false,.slice none 0 0] ANt λJ9 F7 Ka Cq=>AOv Cq p0 (AIo F7) (Cq.z p1) λKb Cr=>AH5<|AH3<|AH1<|AHy<|AI0 rfl rfl (AH7<|AH6<|AOq 5575186299632650833623772426640990780026880 (λx:(Int) × (LiI) × LnA × LnN × LvA=>(x.1,x.2.1)) (((w64<|Ao + 1),Fq,Ft,Fu,Fv):(Int) × (LiI) × LnA × LnN × LvA) Fz (λx=>[(12,(.int .i64 x.1))]) (λx=>Cr.L.set 4<|aO2 cZ 127 81 x.2.2.1 x.2.2.2.1 x.2.2.2.2 Ak x.2.1) Cr ⟨rfl,trivial⟩ ?_));rintro ⟨Ay,F8,F9,Ga,Gb⟩ Kc Kd Ke Af Bl Gc;unfold ATr at Bl;refine AH3<|AH1<|AHy<|AHy<|AI3 rfl rfl (AH5<|⟨_,rfl,λBm=>?_,λBm=>?_⟩)
    ·refine AIa<|q_t<|AH3<|AH6<|AH1<|AHy<|AI0 rfl rfl (AH7<|AH6<|AOq 5575186299632021960083815453461342024916992 (λx:(Int) × (LiI) × LnA × LnN × LvA=>(x.1,x.2.1)) (((w64<|Ao + 1),F8,F9,Ga,Gb):(Int) × (LiI) × LnA × LnN × LvA) (AJb Bl Bm) (λx=>[(13,(.int .i64 x.1))]) (λx=>Af.L.set 4<|aO2 cZ 127 81 x.2.2.1 x.2.2.2.1 x.2.2.2.2 Ak x.2.1) Af ⟨rfl,trivial⟩ ?_);rintro ⟨Kf,Kg,Kh,Ki,Kj⟩ Kk Bn Kl Aa Bo Gd;unfold ATq at Bo;refine AH3<|AH1<|AHy<|AHy<|AI3 rfl rfl (AH5<|⟨_,rfl,λBp=>?_,λBp=>?_⟩)
     ·refine AIa<|q_t<|AH3<|AH6<|AH3 ?_;have Ai:UpT [] Bn Bn:=UpT.start all_nil;refine Acx (B:=λh'=>UpT [] Bn h') 25 [⟨14,81,[.bool false,.slice none 0 0]⟩] (λ_ _ U E=>U.thenE E) AIb Ai (Am8 rfl ANt rfl (λ_ _ U E=>U.thenE E))<|h_l rfl (AW8 (Aa.z p1) Ai (Aa.b p0)<|AIu<|h_l rfl (AHy<|AIu<|h_l rfl (AHy<|AIu<|h_l rfl ?_)));obtain ⟨Km,Ac,Ge⟩:=AH2<|AJb Bo Bp;refine AJr AKj rfl (Aa.o2 p4) rfl Ac λKn Ko Kp Gf Gg=>AIu<|h_l rfl (AJe AMq rfl Ai (λh' hb=>AIj Gg hb.ext) (AIu<|h_l rfl (AHy<|AIu<|h_l rfl ?_)));obtain ⟨Kr,Az,Gh⟩:=AH2 Ge;refine AJy (m:=Ay) ALs rfl (Aa.o2 p4) Gf Ac rfl Az λKt Gi=>AIu<|h_l rfl ?_;obtain ⟨Ku,Ct,Gj⟩:=(Aa.o2 p4).cells Gi Ac Az;refine AZ0 (c:=cZ) AJz rfl Ct Ai (λh' hb j u hu=>AIj (Gj j u hu) hb.ext) (AIu<|h_e rfl λKv Cu=>?_);have Bq:=(Aa.az<|cZ.upT Ct Ai).e Cu;obtain ⟨Kw,Gk,Gl⟩:=AH2 Gh;refine AOi Bq (Ai.thenE Cu) (Aru (Bq.z p2).2 (Bq.z p0).2 Gk) λKx Ky Gm Gn Ag=>AIu ⟨Gm,?_⟩;refine h_l rfl (AHy<|AIu<|h_l rfl (AHy<|AIu<|h_l rfl (AJr AKj rfl (Aa.o2 p4) rfl Ac λKz La Lb Gp Gq=>AIu<|h_l rfl (AJe AMq rfl Ag (λh' hb=>AIj Gq hb.ext) (AIu<|h_l rfl (AHy<|AIu<|h_l rfl ?_))))));obtain ⟨Lc,Cv,Gr⟩:=AH2 Gl;refine AJy (m:=Ay) ALs rfl (Aa.o2 p4) Gp Ac rfl Cv λLd Gt=>AIu<|h_l rfl ?_;obtain ⟨Le,Cw,Gu⟩:=(Aa.o2 p4).cells Gt Ac Cv;refine AZ0 (c:=cZ) AJz rfl Cw Ag (λh' hb j u hu=>AIj (Gu j u hu) hb.ext) (AIu<|h_l rfl (AHy<|AIu<|h_l rfl (AHy<|AIu<|h_l rfl ?_)));obtain ⟨Lf,Br,Gv⟩:=AH2 Gr;refine AJr AKj rfl (Aa.o2 p4) rfl Br λLg Lh Li Gw Gx=>AIu<|h_l rfl (AJe AMq rfl Ag (λh' hb=>AIj Gx hb.ext) (AIu<|h_l rfl (AHy<|AIu<|h_l rfl ?_)));obtain ⟨Lj,Cx,Gy⟩:=AH2 Gv;refine AJy (m:=Ao) ALs rfl (Aa.o2 p4) Gw Br rfl Cx λLk Gz=>AIu<|h_l rfl ?_;obtain ⟨Ll,Cy,G3⟩:=(Aa.o2 p4).cells Gz Br Cx;refine AZ0 (c:=cZ) AJz rfl Cy Ag (λh' hb j u hu=>AIj (G3 j u hu) hb.ext) (AIu<|h_e rfl λLm Cz=>?_);have Bt:=((Gn.az<|cZ.upT Cw Ag).az (cZ.upT Cy Ag)).e Cz;obtain ⟨Lo,G4,G5⟩:=AH2 Gy;refine AOi Bt (Ag.thenE Cz) (Aru (Bt.z p1).2 (Bt.z p0).2 G4) λLq Lr G6 G7 G8=>AIu ⟨G6,?_⟩;refine h_e rfl λLv C0=>?_;have Bu:=G7.e C0;obtain ⟨Lw,G9,Hb⟩:=AH2 G5;refine AOi Bu (G8.thenE C0) (A43 (Bu.z p3).2 (Bu.z p0).2 G9) λHc Lx Hd He Hf=>AIu ⟨Hd,?_⟩;refine Akd λHg C1=>A1l λLy C3 Hh Lz=>?_;have Aj:=He.e C1;have A3:=((((((Aa.nb (Hf.thenE C1).ext (ANs Hh C3.lt) C3).az (Aj.z p5)).az (Aj.z p4)).az (Aj.z p3)).az (Aj.z p2)).az (Aj.z p1)).az (Aj.z p0);refine AKo Hc AJz (cZ.klen<|A3.z p0) (cZ.klen<|AIo Hg) rfl rfl (cZ.one<|A3.z p0) (A3.b p6) λBv Hj Hk=>AH5<|AKg (λh'=>UpT [] Bv h') AIb ?_;have Ad:=A3.sb p6 Hk Hj rfl;have Ap:UpT [] Bv Bv:=UpT.start all_nil;refine AHy<|AHy<|AJr AKj rfl (Ad.o2 p11) rfl Ac λL9 Ma Mb Hl Hm=>AJe AMq rfl Ap (λh' hb=>AIj Hm hb.ext) (AHy<|AW8 (Ad.z p0) Ap (Ad.b p6)<|AW8 (Ad.z p10) Ap (Ad.b p9) ?_);obtain ⟨⟨Mc,Md,Me⟩,Hn,C4⟩:=AH2 Hb;dsimp only at C4;refine ALp Ap (λ_ E=>Ap.thenE E) rfl (Ahz (Ad.z p0).2 (Ad.z p10).2 Hn) λMf Mg Ho Hq=>?_;obtain ⟨Mh,Mi,rfl,Hr,Hs⟩:=Hq;obtain ⟨Mj,rfl,Ht⟩:=Hr.cs;obtain ⟨Mk,rfl,Hu⟩:=Hs.cs;refine AHy<|AJs rfl rfl (AJs rfl rfl (AJs rfl rfl (AJy (m:=Ay) ALs rfl (Ad.o2 p11) Hl Ac rfl Az λMl Hv=>?_)));have Aq:=((Ad.e Ho).az Ht).az Hu;refine AN2 (m:=Ay) (Aaw AJz (cZ.klen<|Aq.z p1) rfl rfl (cZ.one<|Aq.z p1)) (Aq.o2 p13) Hv Ac Az (Aq.z p1) λMm Hw Hx=>AIu<|q_b<|q_t<|AIf<|AHy<|AI0 rfl rfl (AH7 ?_);exact ⟨(_,_,_,_,_),(AH0 C4).symm,(Aq.uO2 p13 Hx Hw).sel [9,10,11,12,13,14] AHz,rfl,trivial⟩
     ·refine AIq<|AIr<|AIr<|AJt<|q_b<|q_t<|AIf<|AHy<|AI0 rfl rfl (AH7 ?_);exact ⟨(_,_,_,_,_),(AH0<|Gd _ (AH0<|AJc Bo Bp).symm).symm,Aa,rfl,trivial⟩
    ·refine AIq<|AIr<|AIr<|AJt<|q_t<|AIf<|ATd (Af.z p1) (Af.b p0)<|AOv Af p2 (Af.z p3) (Af.z p1) λMo Hy=>AIu<|q_b<|q_t<|AIf<|AI0 rfl rfl (AHy<|AH5 ?_);exact ⟨(_,_,_,_,_,_,_,_),(AH0<|Gc _ (AH0<|AJc Bl Bm).symm).symm,Hy.sel [2,1,4,5] AHz,rfl,rfl,trivial⟩
  ·refine AIq<|AIr<|AIr<|AJt<|q_t<|AH3<|AH1<|AHy<|AH5 ?_;have C5:=B8 _ (AH0<|AJc Ba Bb).symm;refine ⟨_,rfl,λBw=>?_,λBw=>?_⟩
   ·refine AH1<|ATd (Ab.z p1) (Ab.b p0) ?_;obtain ⟨Mq,Hz,Ia⟩:=AH2<|ifT C5 Bw;refine AWr Ab (A44 (Ab.z p1).2 Hz) λMr Ib Ms C6=>AOv C6 p4 (AIo Ib) (C6.z p0) λMt A4=>AH5<|AIc<|AIt ?_;obtain rfl:=AH0 Ia;exact ⟨_,AKs AJz (cZ.klen<|A4.z p0) rfl (A4.b p4),A4.x,_,rfl,(A4.z p0).2⟩
   ·refine AIa<|q_t<|AH1<|ATd (Ab.z p1) (Ab.b p0) ?_;obtain ⟨Mu,Ic,Id⟩:=AH2<|AQa C5 Bw;refine AWr Ab (Agu (Ab.z p1).2 Ic) λMv Ie Mw C7=>AOv C7 p4 (AIo Ie) (C7.z p0) λMx A5=>AH5<|AIc ?_;obtain rfl:=AH0 Id;exact ⟨_,AKs AJz (cZ.klen<|A5.z p0) rfl (A5.b p4),A5.x,_,rfl,(A5.z p0).2⟩
def AZf (fuel:Nat) (a3:LiI):Option (Int × Bool):=
 (AOy fuel a3).bind λ(Ab,Ac,Ad)=>if (!Ad)=true then some (0,false) else if ¬ Ab=Ac then some (0,false) else (APx fuel a3).bind λAe=>some (Ae,true)
theorem Ait {Af:Value} {a3:LiI} {r:(Int × Bool)} (H2:ANp cZ h Af a3) (hp:AZf fuel a3=some r):AI7 Tryz.prog 41 #[Af] h (λx h'=>Ext h h'/\ ∃ (x0:Value),x= .tuple #[x0,.bool r.2]/\ZZ h' x0 r.1):=by
 unfold AZf at hp;refine cwf (l:=[_]) Tryz.func41 rfl rfl (AH1<|ALm (Kst.k0 h) [.bool false,.slice none 0 0] ANt λb5 h6 E8 Aj=>AJd<|AHy ?_);obtain ⟨⟨A6,A7,Av⟩,Aw,Ad⟩:=AH2 hp;dsimp only at Ad;refine ALx Aj (Aam (H2.ext Aj.x) Aw) λAa A8 Ab=>AHy<|AJs rfl rfl (AJs rfl rfl (AJs rfl rfl (AIw<|AIw<|AH7<|AH3<|AH1<|AHy<|AMp rfl (AHy ?_))));cases Ak:(!Av)
 ·refine AIs 15 false<|AHy<|AIs 15 false<|AHy<|AIs 15 false<|AK0 rfl rfl (AIn rfl (AH5 ?_));have Am:=AQa Ad Ak;refine ⟨_,rfl,λAe=>?_,λAe=>?_⟩
  ·refine AH1<|ALe (AW6 )<|AOv Ab p0 (AIo Aa) (AIo Aa) λAo Ap=>AH7<|AIc<|AIt ?_;obtain rfl:=AH0<|AJb Am Ae;exact ⟨_,Aat AJz (cZ.klen<|AIo Ao) rfl (Ap.b p0),Ap.x,_,rfl,(AIo Ao).2⟩
  ·refine AIa<|q_t<|AH1<|AHy ?_;obtain ⟨A9,Ax,Ay⟩:=AH2<|AJc Am Ae;refine AWr Ab (Ab1 (H2.ext Ab.x) Ax) λBa Az Bb Aq=>AOv Aq p1 (AIo Az) (Aq.z p0) λBc Ac=>AH7<|AIc ?_;obtain rfl:=AH0 Ay;exact ⟨_,Aat AJz (cZ.klen<|Ac.z p0) rfl (Ac.b p1),Ac.x,_,rfl,(Ac.z p0).2⟩
 ·refine ANe 15 true<|AIm rfl (AH5<|AI2 rfl (AH1<|ALe (AW6 )<|AOv Ab p0 (AIo Aa) (AIo Aa) λAr Au=>AH7<|AIc<|AIt ?_));obtain rfl:=AH0<|ifT Ad Ak;exact ⟨_,Aat AJz (cZ.klen<|AIo Ar) rfl (Au.b p0),Au.x,_,rfl,(AIo Ar).2⟩
end Go.Proofs.YtegoafpaljeobaaGreatDoor
namespace Go.QF
theorem Avl {l:List Value} (H:Sl h v l):SlK h 1 v (l.map λx=>[x]):=by
 obtain ⟨a,cap,hv,hc⟩:=H;refine ⟨a,cap,by grind,λi row hr=>?_⟩;grind
theorem Al6 {l:List Value} (H:SlK h 1 v (l.map λx=>[x])):Sl h v l:=by
 obtain ⟨a,cap,hv,hc⟩:=H;refine ⟨a,cap,by grind,λi x hx=>?_⟩;obtain ⟨b,o,ha,hb⟩:=hc i [x] (by simp [hx]);refine ⟨b,o,ha,?_⟩;have:=hb 0 x rfl;grind
theorem Ayq {κ:IntKind} {L:List Int} (H:Sl h v (L.map<|.int κ)):SlC (cI κ) h v L:=by
 refine ⟨L.map λa=>[.int κ a],?_,AI9,λi cs a h1 h2=>?_⟩
 ·have:=Avl H;rwa [List.map_map] at this
 ·rw [List.getElem?_map,h2] at h1;injection h1 with h1;exact h1.symm
theorem A7m {κ:IntKind} {L:List Int} (H:SlC (cI κ) h v L):Sl h v (L.map<|.int κ):=by
 obtain ⟨Ls,h1,h2,h3⟩:=H
 have:Ls=(L.map<|Value.int κ).map λx=>[x]:=by
  apply List.ext_getElem?
  intro i
  by_cases hi:i < L.length
  ·obtain ⟨a,ha⟩:∃ a,L[i]? =some a:=⟨L[i],List.getElem?_eq_getElem hi⟩
   obtain ⟨cs,hcs⟩:∃ cs,Ls[i]? =some cs:=⟨Ls[i]'AHx,List.getElem?_eq_getElem _⟩
   have:=h3 i cs a hcs ha
   rw [hcs,List.map_map,List.getElem?_map,ha]
   exact congrArg some this
  grind
 subst this;exact Al6 h1
theorem A45 (H:ANp (cI .i64) h v M):Mat h v M:=by
 obtain ⟨_,rs,h1,h2,h3⟩:=H;exact ⟨rs,Al6 h1,h2,λi r z hr hz=>A7m<|h3 i r z hr hz⟩
def Abs (x b:Int):Prop:= -b<=x/\x<=b
theorem Ae1 {b:Int} (hx:Abs x a) (hy:Abs y b):Abs (x * y) (a * b):=by
 unfold Abs at *;have ha:0<=a:=by omega
 have hb:0<=b:=by omega
 have h1:0<=(a - x) * (b - y):=Int.mul_nonneg AHx AHx;have h2:0<=(a - x) * (b + y):=Int.mul_nonneg AHx AHx;have h3:0<=(a + x) * (b - y):=Int.mul_nonneg AHx AHx;have h4:0<=(a + x) * (b + y):=Int.mul_nonneg AHx AHx;grind
theorem Ayr {b:Int} (hb:0 < b) (hx:Abs x (b * y)):Abs (x.tdiv b) y:=by
 unfold Abs at *;rcases Adk x 0 with h | h
 ·have h1:x.tdiv b= -((-x).tdiv b):=by simp_all
  have h2:(-x).tdiv b=(-x) / b:=Int.tdiv_eq_ediv_of_nonneg AHx
  have h3:(-x) / b<=y:=by
   have:(-x) / b<=(b * y) / b:=Int.ediv_le_ediv hb AHx
   rwa [Int.mul_ediv_cancel_left _ AHx] at this
  have h4:0<=(-x) / b:=Int.ediv_nonneg AHx AHx;omega
 ·have h2:x.tdiv b=x / b:=Int.tdiv_eq_ediv_of_nonneg h
  have h3:x / b<=y:=by
   have:x / b<=(b * y) / b:=Int.ediv_le_ediv hb AHx
   rwa [Int.mul_ediv_cancel_left _ AHx] at this
  have h4:0<=x / b:=Int.ediv_nonneg h AHx;omega
def Akj (M:List (List Int)):Prop:=(1<=M.length/\M.length<=8)/\(∀ z∈M,z.length=M.length)/\ ∀ i j,i < M.length->j < M.length->ent M i j=ent M j i/\ -262144 < ent M i j/\ent M i j < 262144
open Classical in
noncomputable def AUa (M:List (List Int)):Bool:=decide (Akj M)
theorem APn (h:Akj M):true=AUa M:=by simp [AUa,h]
theorem AMo (h: ¬ Akj M):false=AUa M:=by simp [AUa,h]
theorem Akk (h:AUa M=true):Akj M:=by simpa [AUa] using h
def AY1 (m:Nat) (F:AIe):Prop:=(0 < F 0 0/\F 0 0 < 65536)/\ ∀ i,1<=i->i < m->2 * F i 0<=F 0 0/\ -2 * F i 0<=F 0 0
instance (m:Nat) (F:AIe):Decidable (AY1 m F):=by
 unfold AY1
 have:Decidable (∀ i,1<=i->i < m->2 * F i 0<=F 0 0/\ -2 * F i 0<=F 0 0):=
  decidable_of_iff (∀ i,i < m->1<=i->2 * F i 0<=F 0 0/\ -2 * F i 0<=F 0 0) ⟨λh i a b=>h i b a,λh i a b=>h i b a⟩
 infer_instance
def Aan (F:AIe) (last:Int):AIe:=λi j=>(F 0 0 * F (i + 1) (j + 1) - F (i + 1) 0 * F 0 (j + 1)).tdiv last
def Afg (F:AIe) (last:Int):Prop:=3 * F 0 0 * F 0 0<=4 * (last * Aan F last 0 0 + F 1 0 * F 1 0)
instance (F:AIe) (last:Int):Decidable (Afg F last):=by unfold Afg;infer_instance
def AY2:Nat->(AIe)->Int->Bool
 | 0,_,_=>false
 | 1,F,_=>decide (0 < F 0 0/\F 0 0<=10000)
 | m + 2,F,last=>decide (AY1 (m + 2) F) && (decide (Afg F last) && AY2 (m + 1) (Aan F last) (F 0 0))
noncomputable def isRed (M:List (List Int)):Bool:=AUa M && AY2 M.length (ent M) 1
structure Stg (m:Nat) (F:AIe) (last:Int) (K:Int):Prop where
 sym:∀ i j,i < m->j < m->F i j=F j i
 bd:∀ i j,i < m->j < m->Abs (F i j) (last * K)
 l1:1<=last
 l2:last<=65535
theorem Apm {m:Nat} (H:Stg (m + 1) F last K) (hK:0<=K) (hs:AY1 (m + 1) F):Stg m (Aan F last) (F 0 0) (K + 16384):=by
 have hd:=hs.1
 have hcol:∀ i,i < m->Abs (2 * F (i + 1) 0) (F 0 0):=λi hi=>by
  have:=hs.2 (i + 1) AHx AHx
  exact ⟨AHx,AHx⟩
 refine ⟨λi j hi hj=>?_,λi j hi hj=>?_,AHx,AHx⟩
 ·unfold Aan;rw [H.sym (i + 1) (j + 1) AHx AHx,H.sym (i + 1) 0 AHx AHx,H.sym 0 (j + 1) AHx AHx,Int.mul_comm<|F 0<|i + 1]
 ·unfold Aan;refine Ayr (by have:=H.l1;omega) ?_;have h1:Abs (F 0 0 * F (i + 1) (j + 1)) (F 0 0 * (last * K)):=Ae1 ⟨AHx,AHx⟩<|H.bd _ _ AHx AHx
  have h2:Abs (2 * F (i + 1) 0 * (2 * F 0 (j + 1))) (F 0 0 * F 0 0):=by
   refine Ae1 (hcol i hi) ?_
   rw [H.sym 0 (j + 1) AHx AHx];exact hcol j hj
  have h3:0<=F 0 0 * (65536 - F 0 0):=Int.mul_nonneg AHx AHx;have h4:0<=F 0 0 * (last - 1):=Int.mul_nonneg AHx (by have:=H.l1;omega);unfold Abs at *;grind
theorem Avm (h:Akj M):Stg M.length (ent M) 1 262144:=by
 refine ⟨λi j hi hj=>(h.2.2 i j hi hj).1,λi j hi hj=>?_,AHx,AHx⟩;have:=h.2.2 i j hi hj;unfold Abs;omega
theorem AX5 {m:Nat} (h:2<=m) (hs: ¬ AY1 m F):AY2 m F last=false:=by
 obtain ⟨n,rfl⟩:∃ n,m=n + 2:=⟨m - 2,AHx⟩;unfold AY2;grind
theorem Ab2 {m:Nat} (h:2<=m) (hs: ¬ Afg F last):AY2 m F last=false:=by
 obtain ⟨n,rfl⟩:∃ n,m=n + 2:=⟨m - 2,AHx⟩;unfold AY2;grind
theorem Avn {m:Nat} (h:2<=m) (hs:AY1 m F) (hl:Afg F last):AY2 m F last=AY2 (m - 1) (Aan F last) (F 0 0):=by
 obtain ⟨n,rfl⟩:∃ n,m=n + 2:=⟨m - 2,AHx⟩;rw [AY2,decide_eq_true hs,decide_eq_true hl];rfl
theorem Aje {m:Nat} (H:Stg m F last K) (hK0:0<=K) (hK:K<=393216) (hi:i < m) (hj:j < m):Abs (F i j) 34359738368:=by
 have h1:=H.bd i j hi hj;have h2:=(Afv (a:=last) (b:=K) (A:=65535) (B:=393216) (by have:=H.l1;omega) H.l2 hK0 hK).2;unfold Abs at *;omega
end Go.QF
namespace Go.Proofs.YtegoafpaljeobaaGreatDoor
theorem ATu {c:Nat} {g:Nat->α} {q:Nat} (hq:q < c):((List.range c).map g)[q]? =some (g q):=by simp [hq]
section
variable {P:Program} {B:AH8->Prop} {st:Bool} {ops:Array Oper} {rest:List Oper} {e:Env} {h:AH8} {K:Env->AH8->Prop}
variable {d:Nat} {ty:TypeId} {pos:String} {af:Array Edge}
end
theorem Arv (HM:Mat h v M):AI7 Tryz.prog 37 #[v] h λx h'=>h'=h/\x= .bool (AUa M):=by
 refine AJi (l:=[_]) mx Tryz.func37 rfl rfl rfl rfl rfl AIb (AH1<|AJd<|AHy<|Ahg AIk rfl HM (AH7<|AH3<|AH1<|AHy<|ANd rfl rfl (λAb=>?_) (λAb=>?_)))
 ·refine AHy (AJw 14 true AIb rfl rfl (AJw 14 true AIb rfl rfl (AIm rfl (AH5<|AI2 rfl (AH1<|AH7<|AIc<|AIt<|⟨_,AId,?_⟩)))))
  first
   | exact ⟨rfl,congrArg Value.bool (AMo λhh=>by have:=hh.1;omega)⟩
   | exact ⟨rfl,congrArg Value.bool (AMo λhh=>by have:=hh.2.1 M[i]<|List.getElem_mem _;omega)⟩
   | exact ⟨rfl,congrArg Value.bool (AMo λhh=>by have:=hh.2.2 a b AHx AHx;omega)⟩
   | exact ⟨rfl,congrArg Value.bool<|APn ⟨⟨AHx,AHx⟩,hrows,λx y hx hy=>hall x y AHx hy⟩⟩
 ·refine AHy<|AJ6 14 false AIb rfl rfl (AHy<|AJ6 14 false AIb rfl rfl (AZu rfl rfl (λAc=>?_) (λAc=>?_)))
  ·refine AIn rfl (AH5<|AI2 rfl (AH1<|AH7<|AIc<|AIt<|⟨_,AId,?_⟩))
   first
    | exact ⟨rfl,congrArg Value.bool (AMo λhh=>by have:=hh.1;omega)⟩
    | exact ⟨rfl,congrArg Value.bool (AMo λhh=>by have:=hh.2.1 M[i]<|List.getElem_mem _;omega)⟩
    | exact ⟨rfl,congrArg Value.bool (AMo λhh=>by have:=hh.2.2 a b AHx AHx;omega)⟩
    | exact ⟨rfl,congrArg Value.bool<|APn ⟨⟨AHx,AHx⟩,hrows,λx y hx hy=>hall x y AHx hy⟩⟩
  ·refine AIn rfl (AH5<|AI6 rfl (AIa<|q_t<|AH3<|AH1<|AHy<|Ahg AIk rfl HM (AHy<|AH5<|AH6<|AMc 535822372 (λi:Nat=>[(20,.int .i64 (i:Int))]) (λk i h'=>h'=h/\k=M.length - i/\i<=M.length/\ ∀ j (hj:j < M.length),j < i->M[j].length=M.length) AIb M.length 0 ?_ ⟨rfl,trivial⟩ ?_)))
   ·exact ⟨rfl,rfl,Nat.zero_le _,λj _ hj=>by omega⟩
   rintro k i s1 h ⟨rfl,rfl,hi,hrow⟩;refine AH1<|ANd rfl rfl (λAd=>?_) (λAd=>?_)
   ·refine AH5<|AH3<|AI2 rfl (AIa<|q_t<|AH3<|AH6<|AH1<|Ad1 AIk rfl HM rfl (List.getElem?_eq_getElem AHx) λaR rR haR hrR=>?_);refine AI1 AIv rfl haR (AJd<|AHy<|Awk AIi rfl hrR (AHy<|Aln rfl rfl (λAe=>?_) (λAe=>?_)))
    ·refine AH5 (AI2 rfl (AH1<|AH7<|AIc<|AKa<|AIt<|AIt<|AKa<|AIt<|⟨_,AId,?_⟩))
     first
      | exact ⟨rfl,congrArg Value.bool (AMo λhh=>by have:=hh.1;omega)⟩
      | exact ⟨rfl,congrArg Value.bool (AMo λhh=>by have:=hh.2.1 M[i]<|List.getElem_mem _;omega)⟩
      | exact ⟨rfl,congrArg Value.bool (AMo λhh=>by have:=hh.2.2 a b AHx AHx;omega)⟩
      | exact ⟨rfl,congrArg Value.bool<|APn ⟨⟨AHx,AHx⟩,hrows,λx y hx hy=>hall x y AHx hy⟩⟩
    ·refine AH5<|AI6 rfl (AIa<|q_b<|q_t<|AIf<|ASf rfl AHx (AHy<|AH5 ?_));exact ⟨M.length - (i + 1),i + 1,AHx,⟨rfl,rfl,AHx,λj hj Af=>by rcases Nat.lt_succ_iff_lt_or_eq.1 Af with q | rfl;exact hrow j hj q;omega⟩,rfl,trivial⟩
   ·refine AH5<|AH3<|AI6 rfl (AIq<|AIr<|AIr<|AJt<|q_t<|AH3<|AH3 ?_);have hrows:∀ z∈M,z.length=M.length:=λz hz=>by obtain ⟨j,hj,rfl⟩:=List.getElem_of_mem hz;exact hrow j hj AHx
    have Aa:Mat h v (tab M.length M.length<|ent M):=(Aq2 hrows) ▸ HM;refine AIf<|AHy<|Ahg AIk rfl Aa ?_;rw [AJf];refine AHy<|AH5<|AH6<|AMc 4611686016279905220 (λa:Nat=>[(31,.int .i64 (a:Int))]) (λk a h'=>h'=h/\k=M.length - a/\a<=M.length/\ ∀ x y,x < a->y < M.length->ent M x y=ent M y x/\ -262144 < ent M x y/\ent M x y < 262144) AIb M.length 0 ?_ ⟨rfl,trivial⟩ ?_
    ·exact ⟨rfl,rfl,Nat.zero_le _,λx y hx=>by omega⟩
    rintro k a s2 h ⟨rfl,rfl,ha,hall⟩;refine AH1<|ANd rfl rfl (λAg=>?_) (λAg=>?_)
    ·refine AH5<|AH3<|AI2 rfl (AIa<|q_t<|AH3<|AH6<|AH1<|AHy<|Ad1 AIk rfl Aa rfl (AN9 AHx) λaS rS haS hrS=>AI1 AIv rfl haS (AIw<|AJd<|AHy<|Awk AIi rfl hrS ?_));rw [List.length_map,List.length_range];refine AHy<|AH5<|AH6<|AMc 2305842734335787780 (λb:Nat=>[(38,.int .i64 (b:Int))]) (λk b h'=>h'=h/\k=M.length - b/\b<=M.length/\ ∀ y,y < b->ent M a y=ent M y a/\ -262144 < ent M a y/\ent M a y < 262144) AIb M.length 0 ?_ ⟨rfl,trivial⟩ ?_
     ·exact ⟨rfl,rfl,Nat.zero_le _,λy hy=>by omega⟩
     rintro k b s3 h ⟨rfl,rfl,hb,hrw⟩;refine AH1<|ANd rfl rfl (λAh=>?_) (λAh=>?_)
     ·refine AH5<|AH3<|AI2 rfl (AIa<|q_t<|AH3<|AH6<|AH1<|AHy<|Abt AIi rfl hrS rfl (ATu AHx) λAq Ai=>AI1 AIg rfl Ai (AIw<|AJd<|AHy<|AHy<|AHy<|Ad1 AIk rfl Aa rfl (AN9 AHx) λaT rT haT hrT=>?_));refine AI1 AIv rfl haT (AHy<|Abt AIi rfl hrT rfl (ATu AHx) λAr Aj=>AI1 AIg rfl Aj (Aln rfl rfl (λAk=>?_) (λAk=>?_)))
      ·refine AHy (AJw 52 true AIb rfl rfl (AJw 52 true AIb rfl rfl (AIm rfl (AHy<|AJw 56 true AIb rfl rfl (AJw 56 true AIb rfl rfl (AIm rfl (AH5<|AI2 rfl (AH1<|AH7<|AIc<|AKa<|AIt<|AIt<|AKa<|AKa<|AIt<|AIt<|AKa<|AIt<|⟨_,AId,?_⟩))))))))
       first
        | exact ⟨rfl,congrArg Value.bool (AMo λhh=>by have:=hh.1;omega)⟩
        | exact ⟨rfl,congrArg Value.bool (AMo λhh=>by have:=hh.2.1 M[i]<|List.getElem_mem _;omega)⟩
        | exact ⟨rfl,congrArg Value.bool (AMo λhh=>by have:=hh.2.2 a b AHx AHx;omega)⟩
        | exact ⟨rfl,congrArg Value.bool<|APn ⟨⟨AHx,AHx⟩,hrows,λx y hx hy=>hall x y AHx hy⟩⟩
      ·refine AHy<|AJ6 52 false AIb rfl rfl (AHy<|AJ6 52 false AIb rfl rfl (Abq rfl rfl (λAm=>?_) (λAm=>?_)))
       ·refine AIn rfl (AHy<|AJw 56 true AIb rfl rfl (AJw 56 true AIb rfl rfl (AIm rfl (AH5<|AI2 rfl (AH1<|AH7<|AIc<|AKa<|AIt<|AIt<|AKa<|AKa<|AIt<|AIt<|AKa<|AIt<|⟨_,AId,?_⟩)))))
        first
         | exact ⟨rfl,congrArg Value.bool (AMo λhh=>by have:=hh.1;omega)⟩
         | exact ⟨rfl,congrArg Value.bool (AMo λhh=>by have:=hh.2.1 M[i]<|List.getElem_mem _;omega)⟩
         | exact ⟨rfl,congrArg Value.bool (AMo λhh=>by have:=hh.2.2 a b AHx AHx;omega)⟩
         | exact ⟨rfl,congrArg Value.bool<|APn ⟨⟨AHx,AHx⟩,hrows,λx y hx hy=>hall x y AHx hy⟩⟩
       ·refine AIn rfl (AHy<|AJ6 56 false AIb rfl rfl (AHy<|AJ6 56 false AIb rfl rfl (Ad0 rfl rfl (λAo=>?_) (λAo=>?_))))
        ·refine AIn rfl (AH5<|AI2 rfl (AH1<|AH7<|AIc<|AKa<|AIt<|AIt<|AKa<|AKa<|AIt<|AIt<|AKa<|AIt<|⟨_,AId,?_⟩))
         first
          | exact ⟨rfl,congrArg Value.bool (AMo λhh=>by have:=hh.1;omega)⟩
          | exact ⟨rfl,congrArg Value.bool (AMo λhh=>by have:=hh.2.1 M[i]<|List.getElem_mem _;omega)⟩
          | exact ⟨rfl,congrArg Value.bool (AMo λhh=>by have:=hh.2.2 a b AHx AHx;omega)⟩
          | exact ⟨rfl,congrArg Value.bool<|APn ⟨⟨AHx,AHx⟩,hrows,λx y hx hy=>hall x y AHx hy⟩⟩
        ·refine AIn rfl (AH5<|AI6 rfl (AIa<|q_b<|q_t<|AIf<|ASf rfl AHx (AHy<|AH5 ?_)));exact ⟨M.length - (b + 1),b + 1,AHx,⟨rfl,rfl,AHx,λy hy=>by rcases Nat.lt_succ_iff_lt_or_eq.1 hy with q | rfl;exact hrw y q;exact ⟨AHx,AHx,AHx⟩⟩,rfl,trivial⟩
     ·refine AH5<|AH3<|AI6 rfl (AIq<|AIr<|AIr<|AJt<|q_b<|q_t<|AIf<|ASf rfl AHx (AHy<|AH5 ?_));exact ⟨M.length - (a + 1),a + 1,AHx,⟨rfl,rfl,AHx,λx y hx hy=>by rcases Nat.lt_succ_iff_lt_or_eq.1 hx with q | rfl;exact hall x y q hy;exact hrw y AHx⟩,rfl,trivial⟩
    ·refine AH5 (AH3<|AI6 rfl (AIq<|AIr<|AIr<|AJt<|q_t<|AH1<|AH7<|AIc<|⟨_,AId,?_⟩))
     first
      | exact ⟨rfl,congrArg Value.bool (AMo λhh=>by have:=hh.1;omega)⟩
      | exact ⟨rfl,congrArg Value.bool (AMo λhh=>by have:=hh.2.1 M[i]<|List.getElem_mem _;omega)⟩
      | exact ⟨rfl,congrArg Value.bool (AMo λhh=>by have:=hh.2.2 a b AHx AHx;omega)⟩
      | exact ⟨rfl,congrArg Value.bool<|APn ⟨⟨AHx,AHx⟩,hrows,λx y hx hy=>hall x y AHx hy⟩⟩
theorem Ays {m:Nat}:(tab m m F).drop 1=tab (m - 1) m λi j=>F (i + 1) j:=by
 refine List.ext_getElem (by simp [tab]) λi h1 h2=>?_;simp [tab,Nat.add_comm]
theorem Akl {m:Nat} (HM:Mat h v (tab m m F)) (hcap:AWl v) (hm:1<=m) (Au:m<=8) (hfit:∀ i,i < m->Abs (F i 0) 34359738368):AI7 Tryz.prog 38 #[v] h λx h'=>h'=h/\x= .bool (decide (AY1 m F)):=by
 refine AJi (l:=[_]) mx Tryz.func38 rfl rfl rfl rfl rfl AIb (AH1<|AJd<|AHy<|Ad1 (n:=0) AIk rfl HM rfl (AN9 AHx) λAv Aw Ad Ae=>AI1 AIv rfl Ad (Abt (n:=0) AIi rfl Ae rfl (ATu AHx) λAx Af=>AI1 AIg rfl Af (AH7<|AH3<|AH1<|AHy<|Abq rfl rfl (λAg=>?_) (λAg=>?_))))
 ·refine AHy (AJw 13 true AIb rfl rfl (AJw 13 true AIb rfl rfl (AIm rfl (AH5<|AI2 rfl (AH1<|AH7<|AIc<|AIt<|⟨_,AId,?_⟩)))))
  first
   | exact ⟨rfl,congrArg Value.bool (decide_eq_false (λhh=>by have:=hh.1;omega)).symm⟩
   | exact ⟨rfl,congrArg Value.bool (decide_eq_false (λhh=>by have:=hh.2 (i + 1) AHx AHx;omega)).symm⟩
   | exact ⟨rfl,congrArg Value.bool (decide_eq_true ⟨⟨AHx,AHx⟩,λj h1 h2=>hall j h1 AHx⟩).symm⟩
 ·refine AHy<|AJ6 13 false AIb rfl rfl (AHy<|AJ6 13 false AIb rfl rfl (Ad0 rfl rfl (λAh=>?_) (λAh=>?_)))
  ·refine AIn rfl (AH5<|AI2 rfl (AH1<|AH7<|AIc<|AIt<|⟨_,AId,?_⟩))
   first
    | exact ⟨rfl,congrArg Value.bool (decide_eq_false (λhh=>by have:=hh.1;omega)).symm⟩
    | exact ⟨rfl,congrArg Value.bool (decide_eq_false (λhh=>by have:=hh.2 (i + 1) AHx AHx;omega)).symm⟩
    | exact ⟨rfl,congrArg Value.bool (decide_eq_true ⟨⟨AHx,AHx⟩,λj h1 h2=>hall j h1 AHx⟩).symm⟩
  ·refine AIn rfl (AH5<|AI6 rfl (AIa<|q_t<|AH3<|AH1<|AHy<|Auy (k:=1) AIk rfl HM hcap rfl (by rw [AJf];omega) λv1 Ai Ay=>?_));have HD:Mat h v1 (tab (m - 1) m λi j=>F (i + 1) j):=Ays (m:=m) ▸ Ai;refine Ahg AIk rfl HD ?_;rw [AJf];refine AHy<|AH5<|AH6<|AMc 549754765348 (λi:Nat=>[(20,.int .i64 (i:Int))]) (λk i h'=>h'=h/\k=m - 1 - i/\i<=m - 1/\ ∀ j,1<=j->j < i + 1->2 * F j 0<=F 0 0/\ -2 * F j 0<=F 0 0) AIb (m - 1) 0 ?_ ⟨rfl,trivial⟩ ?_
   ·exact ⟨rfl,rfl,Nat.zero_le _,λj h1 h2=>by omega⟩
   rintro k i s1 h ⟨rfl,rfl,hi,hall⟩;refine AH1<|ANd rfl rfl (λAj=>?_) (λAj=>?_)
   ·refine AH5<|AH3<|AI2 rfl (AIa<|q_t<|AH3<|AH6<|AH1<|Ad1 AIk rfl HD rfl (AN9 AHx) λAz A3 Ak Ac=>AI1 AIv rfl Ak (AH7<|AH3 ?_));have Am:=hfit (i + 1) AHx;unfold Abs at Am;refine AIf<|AHy<|Abt (n:=0) AIi rfl Ac rfl (ATu AHx) λA4 Ao=>AI1 AIg rfl Ao (AWh rfl rfl AHx AHx (AHy<|AZu rfl rfl (λAp=>?_) (λAp=>?_)))
    ·refine AHy (AJw 30 true AIb rfl rfl (AJw 30 true AIb rfl rfl (AJw 30 true AIb rfl rfl (AJw 30 true AIb rfl rfl (AJw 30 true AIb rfl rfl (AJw 30 true AIb rfl rfl (AIm rfl (AH5<|AI2 rfl (AH1<|AH7<|AIc<|AKa<|AIt<|AIt<|AKa<|AIt<|⟨_,AId,?_⟩)))))))))
     first
      | exact ⟨rfl,congrArg Value.bool (decide_eq_false (λhh=>by have:=hh.1;omega)).symm⟩
      | exact ⟨rfl,congrArg Value.bool (decide_eq_false (λhh=>by have:=hh.2 (i + 1) AHx AHx;omega)).symm⟩
      | exact ⟨rfl,congrArg Value.bool (decide_eq_true ⟨⟨AHx,AHx⟩,λj h1 h2=>hall j h1 AHx⟩).symm⟩
    ·refine AHy<|AJ6 30 false AIb rfl rfl (AHy<|AJ6 30 false AIb rfl rfl (Abt (n:=0) AIi rfl Ac rfl (ATu AHx) λA5 Aq=>AJ6 30 false AIb rfl rfl (AI1 AIg rfl Aq (AJ6 30 false AIb rfl rfl (AWh rfl rfl AHx AHx (AJ6 30 false AIb rfl rfl (AHy<|AJ6 30 false AIb rfl rfl (AZu rfl rfl (λAr=>?_) (λAr=>?_)))))))))
     ·refine AIn rfl (AH5<|AI2 rfl (AH1<|AH7<|AIc<|AKa<|AIt<|AIt<|AKa<|AIt<|⟨_,AId,?_⟩))
      first
       | exact ⟨rfl,congrArg Value.bool (decide_eq_false (λhh=>by have:=hh.1;omega)).symm⟩
       | exact ⟨rfl,congrArg Value.bool (decide_eq_false (λhh=>by have:=hh.2 (i + 1) AHx AHx;omega)).symm⟩
       | exact ⟨rfl,congrArg Value.bool (decide_eq_true ⟨⟨AHx,AHx⟩,λj h1 h2=>hall j h1 AHx⟩).symm⟩
     ·refine AIn rfl (AH5<|AI6 rfl (AIa<|q_b<|q_t<|AIf<|ASf rfl AHx (AHy<|AH5 ?_)));exact ⟨m - 1 - (i + 1),i + 1,AHx,⟨rfl,rfl,AHx,λj h1 h2=>by rcases Nat.lt_succ_iff_lt_or_eq.1 h2 with q | rfl;exact hall j h1 q;exact ⟨AHx,AHx⟩⟩,rfl,trivial⟩
   ·refine AH5 (AH3<|AI6 rfl (AIq<|AIr<|AIr<|AJt<|q_t<|AH1<|AH7<|AIc<|⟨_,AId,?_⟩))
    first
     | exact ⟨rfl,congrArg Value.bool (decide_eq_false (λhh=>by have:=hh.1;omega)).symm⟩
     | exact ⟨rfl,congrArg Value.bool (decide_eq_false (λhh=>by have:=hh.2 (i + 1) AHx AHx;omega)).symm⟩
     | exact ⟨rfl,congrArg Value.bool (decide_eq_true ⟨⟨AHx,AHx⟩,λj h1 h2=>hall j h1 AHx⟩).symm⟩
theorem Ang (HM:Mat h v M) (hcap:AWl v):AI7 Tryz.prog 13 #[v] h λx h'=>Ext h h'/\x= .bool (isRed M):=by
 refine AJi (l:=[_]) mx Tryz.func13 rfl rfl rfl rfl rfl AIb (AH1<|AH7<|AH3<|AH1<|AHy<|AIz trivial rfl (Arv HM) λx1 h hk=>?_);obtain ⟨rfl,rfl⟩:=hk;refine ⟨trivial,?_⟩;cases Au:AUa M
 ·refine AMp rfl (AH5<|AI2 rfl (AH1<|AH7<|AIc<|AIt<|⟨_,AId,?_⟩))
  first
   | exact ⟨(Ext.refl _),congrArg Value.bool (show false=isRed M by unfold isRed;rw [show AUa M=false by assumption];rfl)⟩
   | exact ⟨(Ext.refl _),congrArg Value.bool (show false=isRed M by unfold isRed;rw [hred,AX5 AHx<|of_decide_eq_false (by assumption),Bool.and_false])⟩
   | exact ⟨(Ext.refl _),congrArg Value.bool (show false=isRed M by unfold isRed;rw [hred,Ab2 AHx (by unfold Afg;omega),Bool.and_false])⟩
   | (obtain rfl:m=1:=by omega
      first
      | exact ⟨(Ext.refl _),congrArg Value.bool (show true=isRed M by unfold isRed;rw [hred,<- APn hsm,AY2,decide_eq_true ⟨AHx,AHx⟩];rfl)⟩
      | exact ⟨(Ext.refl _),congrArg Value.bool (show false=isRed M by unfold isRed;rw [hred,AY2,decide_eq_false AHx,Bool.and_false])⟩)
 ·refine AMp rfl (AH5<|AI6 rfl (AIa<|q_t<|AH1<|AHy<|AJd<|AH7<|AH3<|AH6 ?_));have hsm:=Akk Au;have Av:=Avm hsm;have Aw:Mat h v (tab M.length M.length<|ent M):=(Aq2 hsm.2.1) ▸ HM;refine AMc 20282409603651670423947251255292 (λy:Nat × Value × Int × (AIe)=>[(3,y.2.1),(4,.int .i64 y.2.2.1)]) (λk y h'=>y.1=k/\Ext h h'/\1<=y.1/\y.1<=M.length/\Mat h' y.2.1 (tab y.1 y.1 y.2.2.2)/\AWl y.2.1/\Stg y.1 y.2.2.2 y.2.2.1 (262144 + 16384 * (M.length - y.1))/\AY2 M.length (ent M) 1=AY2 y.1 y.2.2.2 y.2.2.1) AIb M.length (M.length,v,1,ent M) ?_ ⟨rfl,rfl,trivial⟩ ?_
  ·exact ⟨rfl,Ext.refl _,hsm.1.1,Nat.le_refl _,Aw,hcap,by have e0:(262144 + 16384 * ((M.length:Int) - (M.length:Int)))=262144:=AHx;rw [e0];exact Av,rfl⟩
  rintro k ⟨m,vs,last,F⟩ s1 hq ⟨rfl,XQ,Ay,hmn,HS,Aj,hstg,hred⟩;dsimp only at Ay hmn HS Aj hstg hred ⊢;have h8:=hsm.1.2;have B7:=hstg.l1;have B8:=hstg.l2;have szq:=XQ.1;refine AH3<|AH1<|AHy<|Ahg AIk rfl HS ?_;rw [AJf];refine AZu rfl rfl (λAz=>?_) (λAz=>?_)
  ·refine AH5<|AI2 rfl (AIa<|q_t<|AH6<|AH1<|AHy<|Ad1 (n:=0) AIk rfl HS rfl (AN9 AHx) λB9 Ca A3 A4=>AI1 AIv rfl A3 (Abt (n:=0) AIi rfl A4 rfl (ATu AHx) λCb A5=>AI1 AIg rfl A5 (AH7<|AH3<|AH1<|AHy<|AIz trivial rfl (Akl HS Aj AHx AHx λi hi=>Aje hstg AHx AHx hi AHx) λx4 hq hk=>?_)));obtain ⟨rfl,rfl⟩:=hk;refine ⟨trivial,?_⟩;cases Ce:decide (AY1 m F)
   ·refine AMp rfl (AH5<|AI2 rfl (AH1<|AH7<|AIc<|AIt<|AKa<|AIt<|AKa<|AIt<|⟨_,AId,?_⟩))
    first
     | exact ⟨XQ,congrArg Value.bool (show false=isRed M by unfold isRed;rw [show AUa M=false by assumption];rfl)⟩
     | exact ⟨XQ,congrArg Value.bool (show false=isRed M by unfold isRed;rw [hred,AX5 AHx<|of_decide_eq_false (by assumption),Bool.and_false])⟩
     | exact ⟨XQ,congrArg Value.bool (show false=isRed M by unfold isRed;rw [hred,Ab2 AHx (by unfold Afg;omega),Bool.and_false])⟩
     | (obtain rfl:m=1:=by omega
        first
        | exact ⟨XQ,congrArg Value.bool (show true=isRed M by unfold isRed;rw [hred,<- APn hsm,AY2,decide_eq_true ⟨AHx,AHx⟩];rfl)⟩
        | exact ⟨XQ,congrArg Value.bool (show false=isRed M by unfold isRed;rw [hred,AY2,decide_eq_false AHx,Bool.and_false])⟩)
   ·refine AMp rfl (AH5<|AI6 rfl (AIa<|q_t<|AH1<|AHy<|Ahg AIk rfl HS ?_));rw [AJf];have hsh:AY1 m F:=of_decide_eq_true (by assumption);refine AU7 rfl rfl AHx AHx ?_;rw [show ((m:Nat):Int) - 1=((m - 1:Nat):Int) by omega];refine A66 (ei:=tI) AIk AU9 (λ_=>trivial) rfl rfl AHz AHx λb2 v2 h2 Ak E2 Cg hl2b=>?_;have Ch:=E2.1;have Z6:=(Ext.refl hq).trans E2;have X7:=XQ.trans E2;have HS_8:=HS.ext E2;refine AH7<|AH3<|AH1<|AHy<|Aq4 AIk rfl Ak.1 (AHy<|AH5<|AH6<|AMc 1208925819614624879739776 (λi:Nat=>[(32,.int .i64 (i:Int))]) (λk i h'=>k=m - 1 - i/\i<=m - 1/\Ext hq h'/\ ∃ gs,AYe h' tR tI (Array.size hq) b2 gs v2 (m - 1)<|(List.range i).map (λi=>(List.range<|m - 1).map λj=>Aan F last i j)) AIb (m - 1) 0 ?_ ⟨rfl,trivial⟩ ?_)
    ·exact ⟨rfl,Nat.zero_le _,E2,[],Ak⟩
    rintro k i s2 h3 ⟨rfl,hi,E3,gs,HP⟩;have X9:=XQ.trans E3;have Ck:=E3.1;have HS_11:=HS.ext E3;refine AH1<|ANd rfl rfl (λA7=>?_) (λA7=>?_)
    ·refine AH5<|AH3<|AI2 rfl (AIa<|q_t<|AH3<|AH6<|AH1<|AHy<|AJd<|AHy<|AHy<|ASf rfl AHx (A4g AIk rfl HS E3 rfl (AN9 AHx) λaR rR haR hrR=>AI1 AIv rfl haR (AH7 ?_)));refine AH1<|AHy<|AHy<|AHy<|Aq4 AIk rfl HP.1 (A67 AIi ARy (λ_=>trivial) rfl rfl AHz AHx λg4 v4 h4 A8 E4 Cn Co=>?_);have Cp:=E4.1;have A9:=E3.trans E4;have Ba:=X9.trans E4;have HS_15:=HS_11.ext E4;have HP_16:=HP.ext E4;refine A02 AIk rfl HP_16 rfl AHx ?_;have hglt:=HP.1.lt;have hblo:=HP.2 b2<|List.mem_cons_self ..;refine A03 AIv rfl rfl HP_16 AI9 AHx A8 (λhc=>by have:=hglt _ hc;omega) AHx λh4b HPb U4=>?_;have Cq:=U4.1;have Cr:=Ba.thenUpd U4 (λk hk=>by have Ah:k=b2:=hk;omega);have Ao:=A9.thenUpd U4 (λk hk=>by have Ah:k=b2:=hk;omega);have HS_20:=HS.ext Ao;refine AQs<|AHy<|Aq4 AIk rfl HPb.1 (AHy<|AH5<|AH6<|AMc 604462909525839610642944 (λj:Nat=>[(48,.int .i64 (j:Int))]) (λk j h'=>k=m - 1 - j/\j<=m - 1/\Ext hq h'/\AYe h' tR tI (Array.size hq) b2 (gs ++ [g4]) v2 (m - 1) ((List.range i).map (λi=>(List.range<|m - 1).map λj=>Aan F last i j) ++ [Air (m - 1) (Aan F last i) (λ_=>0) j])) AIb (m - 1) 0 ?_ ⟨rfl,trivial⟩ ?_)
     ·exact ⟨rfl,Nat.zero_le _,Ao,by rw [Aut,Auu];exact HPb⟩
     rintro k j s3 h5 ⟨rfl,hj,E5,HQ⟩;have Bb:=XQ.trans E5;have Cv:=E5.1;have HS_23:=HS.ext E5;refine AH1<|ANd rfl rfl (λBc=>?_) (λBc=>?_)
     ·refine AH5<|AH3<|AI2 rfl (AIa<|q_t<|AH3<|AH6<|AH1<|AHy<|AH7 ?_);have hd:=hsh.1;have hfit:=λi j hi hj=>Aje hstg AHx AHx (i:=i) (j:=j) hi hj;have q1:=Ae1 (a:=65535) (b:=34359738368) (x:=F 0 0) (y:=F (i + 1)<|j + 1) ⟨AHx,AHx⟩<|hfit _ _ AHx AHx;have q2:=hsh.2 (i + 1) AHx AHx;have q3:=hsh.2 (j + 1) AHx AHx;rw [<- hstg.sym 0 (j + 1) AHx AHx] at q3;have q4:=Ae1 (a:=32768) (b:=32768) (x:=F (i + 1) 0) (y:=F 0<|j + 1) ⟨AHx,AHx⟩ ⟨AHx,AHx⟩;unfold Abs at q1 q4;refine AZt AIb<|AHy<|AHy<|A68 AIk rfl HQ rfl (Aop AI9) λaQ rQ gQ haQ hgQ hrQ=>?_;refine AI1 AIv rfl haQ (AHy<|AHy<|AHy<|AHy<|ASf rfl AHx (Abt AIi rfl (hrR.ext E5) rfl (ATu AHx) λCw Bi=>AI1 AIg rfl Bi (AWh rfl rfl AHx AHx (AHy<|Abt (n:=0) AIi rfl (hrR.ext E5) rfl (ATu AHx) λCx Bj=>AI1 AIg rfl Bj (AHy<|Ad1 (n:=0) AIk rfl HS_23 rfl (AN9 AHx) λaZ rZ haZ hrZ=>AI1 AIv rfl haZ (AHy<|ASf rfl AHx (Abt AIi rfl hrZ rfl (ATu AHx) λCy Bl=>AI1 AIg rfl Bl (AWh rfl rfl AHx AHx (AU7 rfl rfl AHx AHx (AHy<|AWz rfl rfl AHx ?_))))))))));have hnf:=Aje (Apm (m:=m - 1) (by rw [show m - 1 + 1=m by omega];exact hstg) AHx (by rw [show m - 1 + 1=m by omega];exact hsh)) AHx AHx (i:=i) (j:=j) AHx AHx;unfold Abs at hnf;rw [show IntKind.i64.wrap ((F 0 0 * F (i + 1) (j + 1) - F (i + 1) 0 * F 0 (j + 1)).tdiv last)=Aan F last i j from Go.QF.wrap_small (by have:(F 0 0 * F (i + 1) (j + 1) - F (i + 1) 0 * F 0 (j + 1)).tdiv last=Aan F last i j:=rfl;omega) (by have:(F 0 0 * F (i + 1) (j + 1) - F (i + 1) 0 * F 0 (j + 1)).tdiv last=Aan F last i j:=rfl;omega)];refine Abp AIi rfl hrQ rfl (by rw [List.length_map,Ad3];omega) ?_;refine A04 (Air (m - 1) (Aan F last i) (λ_=>0)<|j + 1) AIg rfl rfl HQ hgQ (Aop AI9) hrQ (by rw [Ad3];omega) (Aws AHx rfl) λh6 Bm U6 C0=>?_;have C1:=U6.1;have C3:=Bb.thenUpd U6 (λk hk=>by have Ah:k=gQ:=hk;omega);have Ap:=E5.thenUpd U6 (λk hk=>by have Ah:k=gQ:=hk;omega);have HS_30:=HS.ext Ap;have Aq:=Bm;rw [Awx AI9] at Aq;refine AIu<|q_b<|q_t<|AIf<|ASf rfl AHx (AHy<|AH5 ?_);exact ⟨m - 1 - (j + 1),j + 1,AHx,⟨rfl,AHx,Ap,Aq⟩,rfl,trivial⟩
     ·refine AH5<|AH3<|AI6 rfl (AIq<|AIr<|AIr<|AJt<|q_b<|q_t<|AIf<|ASf rfl AHx (AHy<|AH5 ?_));exact ⟨m - 1 - (i + 1),i + 1,AHx,⟨rfl,AHx,E5,gs ++ [g4],by rw [Awr _ _ AHx] at HQ;rw [<- Aq3];exact HQ⟩,rfl,trivial⟩
    ·refine AH5<|AH3<|AI6 rfl (AIq<|AIr<|AIr<|AJt<|q_t<|AH3 ?_);obtain rfl:i=m - 1:=by omega
     have Ar:AYe h3 tR tI (Array.size hq) b2 gs v2 (tab (m - 1) (m - 1)<|Aan F last).length (tab (m - 1) (m - 1)<|Aan F last):=by rw [AJf];exact HP
     have HN:=Ar.mat;have hcapn:=Ar.cap;have Bn:=Apm (m:=m - 1) (by rw [show m - 1 + 1=m by omega];exact hstg) AHx (by rw [show m - 1 + 1=m by omega];exact hsh);have hnx:Stg (m - 1) (Aan F last) (F 0 0) (262144 + 16384 * (M.length - ((m - 1:Nat):Int))):=by rw [show (262144 + 16384 * ((M.length:Int) - ((m - 1:Nat):Int)))=262144 + 16384 * ((M.length:Int) - (m:Int)) + 16384 by omega];exact Bn
     refine AIf<|AHy<|Ad1 (n:=1) AIk rfl HS_11 rfl (AN9 AHx) λC4 C5 Bo Bp=>AI1 AIv rfl Bo (Abt (n:=0) AIi rfl Bp rfl (ATu AHx) λC6 Bq=>AI1 AIg rfl Bq (AH7<|AH3<|AH3 ?_));have hd:=hsh.1;have hnf:=Aje hnx AHx AHx (i:=0) (j:=0) AHx AHx;have q5:=Ae1 (a:=65535) (b:=34359738368) (x:=last) (y:=Aan F last 0 0) ⟨AHx,AHx⟩ hnf;have q2:=hsh.2 1 AHx AHx;have q6:=Ae1 (a:=32768) (b:=32768) (x:=F 1 0) (y:=F 1 0) ⟨AHx,AHx⟩ ⟨AHx,AHx⟩;have q7:=Afv (a:=3 * F 0 0) (b:=F 0 0) (A:=196605) (B:=65535) AHx AHx AHx AHx;unfold Abs at q5 q6;refine AIf<|AHy<|AHy<|Ad1 (n:=0) AIk rfl HN rfl (AN9 AHx) λaN rN haN hrN=>AI1 AIv rfl haN (Abt (n:=0) AIi rfl hrN rfl (ATu AHx) λaO haO=>AI1 AIg rfl haO (AWh rfl rfl AHx AHx (AHy<|AHy<|AWh rfl rfl AHx AHx (Ajr rfl rfl AHx AHx (AWh rfl rfl AHx AHx (AHy<|AWh rfl rfl AHx AHx (AHy<|AWh rfl rfl AHx AHx (ANd rfl rfl (λBu=>?_) (λBu=>?_)))))))))
     ·refine AH5 (AI2 rfl (AH1<|AH7<|AIc<|AIt<|AKa<|AIt<|AKa<|AIt<|⟨_,AId,?_⟩))
      first
       | exact ⟨X9,congrArg Value.bool (show false=isRed M by unfold isRed;rw [show AUa M=false by assumption];rfl)⟩
       | exact ⟨X9,congrArg Value.bool (show false=isRed M by unfold isRed;rw [hred,AX5 AHx<|of_decide_eq_false (by assumption),Bool.and_false])⟩
       | exact ⟨X9,congrArg Value.bool (show false=isRed M by unfold isRed;rw [hred,Ab2 AHx (by unfold Afg;omega),Bool.and_false])⟩
       | (obtain rfl:m=1:=by omega
          first
          | exact ⟨X9,congrArg Value.bool (show true=isRed M by unfold isRed;rw [hred,<- APn hsm,AY2,decide_eq_true ⟨AHx,AHx⟩];rfl)⟩
          | exact ⟨X9,congrArg Value.bool (show false=isRed M by unfold isRed;rw [hred,AY2,decide_eq_false AHx,Bool.and_false])⟩)
     ·refine AH5<|AI6 rfl (AIa<|q_t ?_);have hlov:Afg F last:=by unfold Afg;omega
      have hredn:=Avn (last:=last) AHx hsh hlov;refine AIf<|AHy<|AHy<|AIw<|AIw<|AIu<|q_b<|q_t ?_;exact ⟨m - 1,(m - 1,v2,F 0 0,Aan F last),by first | omega | (dsimp only;omega),⟨rfl,X9,by first | omega | (dsimp only;omega),by first | omega | (dsimp only;omega),HN,hcapn,hnx,by rw [hred,hredn]⟩,rfl,rfl,trivial⟩
  ·refine AH5<|AI6 rfl (AIq<|AIr<|AIr<|AJt<|q_t<|AH1<|AHy<|Ad1 (n:=0) AIk rfl HS rfl (AN9 AHx) λC8 C9 Bv Bw=>AI1 AIv rfl Bv (Abt (n:=0) AIi rfl Bw rfl (ATu AHx) λDa Bx=>AI1 AIg rfl Bx (AZu rfl rfl (λBy=>?_) (λBy=>?_))))
   ·refine AHy<|AJ6 110 true AIb rfl rfl (AHy<|AJ6 110 true AIb rfl rfl (Ad1 (n:=0) AIk rfl HS rfl (AN9 AHx) λDb Dc Bz B2=>AJ6 110 true AIb rfl rfl (AI1 AIv rfl Bz (AJ6 110 true AIb rfl rfl (Abt (n:=0) AIi rfl B2 rfl (ATu AHx) λDd B3=>AJ6 110 true AIb rfl rfl (AI1 AIg rfl B3 (AJ6 110 true AIb rfl rfl (Abq rfl rfl (λB4=>?_) (λB4=>?_)))))))))
    ·refine AIm rfl (AH7<|AIc<|⟨_,AId,?_⟩)
     first
      | exact ⟨XQ,congrArg Value.bool (show false=isRed M by unfold isRed;rw [show AUa M=false by assumption];rfl)⟩
      | exact ⟨XQ,congrArg Value.bool (show false=isRed M by unfold isRed;rw [hred,AX5 AHx<|of_decide_eq_false (by assumption),Bool.and_false])⟩
      | exact ⟨XQ,congrArg Value.bool (show false=isRed M by unfold isRed;rw [hred,Ab2 AHx (by unfold Afg;omega),Bool.and_false])⟩
      | (obtain rfl:m=1:=by omega
         first
         | exact ⟨XQ,congrArg Value.bool (show true=isRed M by unfold isRed;rw [hred,<- APn hsm,AY2,decide_eq_true ⟨AHx,AHx⟩];rfl)⟩
         | exact ⟨XQ,congrArg Value.bool (show false=isRed M by unfold isRed;rw [hred,AY2,decide_eq_false AHx,Bool.and_false])⟩)
    ·refine AIm rfl (AH7<|AIc<|⟨_,AId,?_⟩)
     first
      | exact ⟨XQ,congrArg Value.bool (show false=isRed M by unfold isRed;rw [show AUa M=false by assumption];rfl)⟩
      | exact ⟨XQ,congrArg Value.bool (show false=isRed M by unfold isRed;rw [hred,AX5 AHx<|of_decide_eq_false (by assumption),Bool.and_false])⟩
      | exact ⟨XQ,congrArg Value.bool (show false=isRed M by unfold isRed;rw [hred,Ab2 AHx (by unfold Afg;omega),Bool.and_false])⟩
      | (obtain rfl:m=1:=by omega
         first
         | exact ⟨XQ,congrArg Value.bool (show true=isRed M by unfold isRed;rw [hred,<- APn hsm,AY2,decide_eq_true ⟨AHx,AHx⟩];rfl)⟩
         | exact ⟨XQ,congrArg Value.bool (show false=isRed M by unfold isRed;rw [hred,AY2,decide_eq_false AHx,Bool.and_false])⟩)
   ·refine AHy (AJw 110 false AIb rfl rfl (AJw 110 false AIb rfl rfl (AJw 110 false AIb rfl rfl (AJw 110 false AIb rfl rfl (AJw 110 false AIb rfl rfl (AJw 110 false AIb rfl rfl (AIn rfl (AH7<|AIc<|⟨_,AId,?_⟩))))))))
    first
     | exact ⟨XQ,congrArg Value.bool (show false=isRed M by unfold isRed;rw [show AUa M=false by assumption];rfl)⟩
     | exact ⟨XQ,congrArg Value.bool (show false=isRed M by unfold isRed;rw [hred,AX5 AHx<|of_decide_eq_false (by assumption),Bool.and_false])⟩
     | exact ⟨XQ,congrArg Value.bool (show false=isRed M by unfold isRed;rw [hred,Ab2 AHx (by unfold Afg;omega),Bool.and_false])⟩
     | (obtain rfl:m=1:=by omega
        first
        | exact ⟨XQ,congrArg Value.bool (show true=isRed M by unfold isRed;rw [hred,<- APn hsm,AY2,decide_eq_true ⟨AHx,AHx⟩];rfl)⟩
        | exact ⟨XQ,congrArg Value.bool (show false=isRed M by unfold isRed;rw [hred,AY2,decide_eq_false AHx,Bool.and_false])⟩)
end Go.Proofs.YtegoafpaljeobaaGreatDoor
namespace Go.QF
theorem AOs (f g:α->Int) (l:List α):AJ1 (l.map λx=>f x * g x)=AJ1 (l.map f) * AJ1 (l.map g):=by
 induction l with
 | nil=>simp [AJ1]
 | cons x l ih=>simp only [List.map_cons,AJ1,ih];simp only [Int.mul_assoc,Int.mul_left_comm]
theorem Aiu (a:Int) (l:List Int):AJ1 (l.map λx=>a * x)=a ^ l.length * AJ1 l:=by
 induction l with
 | nil=>simp [AJ1]
 | cons x l ih=>simp only [List.map_cons,AJ1,ih,List.length_cons,Int.pow_succ];simp only [Int.mul_assoc,Int.mul_left_comm,Int.mul_comm]
theorem AMr {f g:α->Int} {l:List α} (h:∀ x∈l,f x=g x):AJ1 (l.map f)=AJ1 (l.map g):=by rw [List.map_congr_left h]
theorem Akm {β:Type} (f:α->β->Int) (l:List α) (t:List β):AJ1 (l.map λx=>AJ1<|t.map λy=>f x y)=AJ1 (t.map λy=>AJ1<|l.map λx=>f x y):=by
 induction l with
 | nil=>
   simp only [List.map_nil,AJ1]
   induction t with
   | nil=>rfl
   | cons y t ih=>simp only [List.map_cons,AJ1,<- ih];rfl
 | cons x l ih=>simp only [List.map_cons,AJ1,ih];rw [<- AOs]
theorem Apn {f g:α->Int} {l:List α} (h:∀ x∈l,f x % p=g x % p):AJ1 (l.map f) % p=AJ1 (l.map g) % p:=by
 induction l with
 | nil=>rfl
 | cons x l ih=>
   simp only [List.map_cons,AJ1]
   rw [Int.mul_emod,h x<|List.mem_cons_self ..,ih λy hy=>h y<|List.mem_cons_of_mem _ hy,<- Int.mul_emod]
theorem Akn {f:α->Int} {l:List α} (h:∀ x∈l,f x=1∨f x= -1):AJ1 (l.map f)=1∨AJ1 (l.map f)= -1:=by
 induction l with
 | nil=>exact .inl rfl
 | cons x l ih=>
   simp only [List.map_cons,AJ1]
   rcases h x (List.mem_cons_self ..) with h1 | h1 <;> rcases ih (λy hy=>h y<|List.mem_cons_of_mem _ hy) with h2 | h2 <;> rw [h1,h2] <;> simp
theorem A2b (n:Nat):(upN n).length=n:=by simp [upN]
theorem Ako (n:Nat):upN (n + 1)=upN n ++ [(n:Int) + 1]:=by simp [upN,List.range_succ]
theorem AZg (l t:List Int):AJ1 (l ++ t)=AJ1 l * AJ1 t:=by
 induction l with
 | nil=>simp [AJ1]
 | cons x l ih=>simp only [List.cons_append,AJ1,ih,Int.mul_assoc]
def chi (n:Int):Int:=if n % 2=0 then 1 else -1
theorem Ayt (n:Int):chi n=1∨chi n= -1:=by unfold chi;split <;> simp
theorem Ae2 (a b:Int):chi (a + b)=chi a * chi b:=by
 unfold chi;by_cases ha:a % 2=0 <;> by_cases hb:b % 2=0
 ·rw [if_pos ha,if_pos hb,if_pos AHx];rfl
 ·rw [if_pos ha,if_neg hb,if_neg AHx];rfl
 ·rw [if_neg ha,if_pos hb,if_neg AHx];rfl
 ·rw [if_neg ha,if_neg hb,if_pos AHx];rfl
theorem Ah0 {b:Int} (h:(a - b) % 2=0):chi a=chi b:=by
 unfold chi;by_cases ha:a % 2=0
 ·rw [if_pos ha,if_pos AHx]
 ·rw [if_neg ha,if_neg AHx]
theorem count_le (M N:Nat) (h:N<=M):AJ1 ((upN M).map λl=>if l<=(N:Int) then -1 else 1)=chi N:=by
 induction M with
 | zero=>
   obtain rfl:N=0:=by omega
   rfl
 | succ M ih=>
   rw [Ako,List.map_append,AZg];simp only [List.map_cons,List.map_nil,AJ1,Int.mul_one]
   rcases Nat.lt_or_ge M N with hlt | hge
   ·obtain rfl:N=M + 1:=by omega
    rw [if_pos AHx]
    have h2:AJ1 ((upN M).map λl=>if l<=((M + 1:Nat):Int) then -1 else 1)=AJ1 ((upN M).map λl=>if l<=(M:Int) then -1 else 1):=AMr λx hx=>by
     have:=AUw.1 hx;rw [if_pos AHx,if_pos AHx]
    rw [h2]
    have key:∀ K:Nat,AJ1 ((upN K).map λl=>if l<=(K:Int) then -1 else 1)=chi K:=by
     intro K;induction K with
     | zero=>rfl
     | succ K ihK=>
       rw [Ako,List.map_append,AZg];simp only [List.map_cons,List.map_nil,AJ1,Int.mul_one]
       have h3:AJ1 ((upN K).map λl=>if l<=((K + 1:Nat):Int) then -1 else 1)=AJ1 ((upN K).map λl=>if l<=(K:Int) then -1 else 1):=AMr λx hx=>by
        have:=AUw.1 hx;rw [if_pos AHx,if_pos AHx]
       rw [h3,ihK,if_pos AHx];have:=Ae2 (K:Int) 1;rw [show ((K + 1:Nat):Int)=(K:Int) + 1 by omega,this];rfl
    rw [key];have:=Ae2 (M:Int) 1;rw [show ((M + 1:Nat):Int)=(M:Int) + 1 by omega,this];rfl
   ·rw [ih hge,if_neg AHx,Int.mul_one]
section
variable {p:Int} {m:Nat}
def gs (p:Int) (m:Nat) (a k:Int):Int:=if a * k % p<=m then 1 else -1
def gv (p:Int) (m:Nat) (a k:Int):Int:=if a * k % p<=m then a * k % p else p - a * k % p
def GS (p:Int) (m:Nat) (a:Int):Int:=AJ1<|(upN m).map (gs p m a)
theorem Ail (p:Int) (m:Nat) (a:Int):GS p m a=1∨GS p m a= -1:=Akn λx _=>by unfold gs;split <;> simp
theorem AZp (hp:Pr p) {k:Int} (ha:a % p≠0) (hk:0 < k) (hkp:k < p):a * k % p≠0:=by
 have h2:=hp.1;have h1:0 < a % p:=by have:=Int.emod_nonneg a (show p≠0 by omega);omega
 have h3:=Int.emod_lt_of_pos a (show 0 < p by omega);have:=Awy hp h1 h3 hk hkp;rwa [Int.mul_emod,Int.emod_emod,<- Int.mul_emod] at this
theorem Ac6 (hp:Pr p) {k:Int} (ha:a % p≠0) (hk:0 < k) (hkp:k < p):1<=a * k % p/\a * k % p < p:=by
 have h2:=hp.1;have h1:=AZp hp ha hk hkp;have h3:=Int.emod_nonneg (a * k) (show p≠0 by omega);have h4:=Int.emod_lt_of_pos (a * k) (show 0 < p by omega);omega
theorem Atl (hp:Pr p) (hm:p=2 * m + 1) (ha:a % p≠0):((upN m).map (gv p m a)).Perm (upN m):=by
 have hinj:∀ k∈upN m,∀ j∈upN m,gv p m a k=gv p m a j->k=j:=by
  intro k hk j hj he
  have hk:=AUw.1 hk
  have hj:=AUw.1 hj
  have r1:=Ac6 hp ha (k:=k) AHx AHx
  have r2:=Ac6 hp ha (k:=j) AHx AHx
  by_cases hkj:k=j
  ·exact hkj
  ·exfalso
   unfold gv at he
   have e1:a * k % p=a * j % p->False:=by
    intro h
    have h3:a * (k - j) % p=0:=by rw [Int.mul_sub,Int.sub_emod,h,Int.sub_self];rfl
    rcases Int.lt_trichotomy k j with hlt | heq | hgt
    ·refine AZp hp ha (k:=j - k) AHx AHx ?_
     rw [show a * (j - k)= -(a * (k - j)) by rw [<- Int.mul_neg];congr 1;omega]
     exact Int.emod_eq_zero_of_dvd<|Int.dvd_neg.2<|Int.dvd_of_emod_eq_zero h3
    ·exact hkj heq
    ·exact AZp hp ha (k:=k - j) AHx AHx h3
   have e2:a * k % p + a * j % p=p->False:=by
    intro h
    refine AZp hp ha (k:=k + j) AHx AHx ?_
    rw [Int.mul_add,Int.add_emod,h,Int.emod_self]
   split at he <;> split at he
   ·exact e1 he
   ·exact e2 AHx
   ·exact e2 AHx
   ·exact e1 AHx
 refine Aoq _ _ ?_ (λx hx=>?_) AI9
 ·rw [List.nodup_iff_pairwise_ne,List.pairwise_map];have hnd:=Aux m;rw [List.nodup_iff_pairwise_ne] at hnd;refine List.Pairwise.imp_of_mem (λ{x y} hx hy hxy he=>hxy<|hinj x hx y hy he) hnd
 ·obtain ⟨k,hk,rfl⟩:=List.mem_map.1 hx;have hk:=AUw.1 hk;have r1:=Ac6 hp ha (k:=k) AHx AHx;rw [AUw];unfold gv;split <;> omega
theorem Atm (hp:Pr p) (hm:p=2 * m + 1) (ha:a % p≠0):a ^ m % p=GS p m a % p:=by
 have h2:=hp.1;refine A0y hp (upN m) (λx hx=>by have:=AUw.1 hx;omega) ?_;have h1:=Aiu a<|upN m;rw [A2b] at h1;rw [<- h1]
 have h3:AJ1 ((upN m).map λk=>a * k) % p=AJ1 ((upN m).map λk=>gs p m a k * gv p m a k) % p:=by
  refine Apn λk hk=>?_
  unfold gs gv
  split
  ·rw [Int.one_mul,Int.emod_emod]
  ·rw [show (-1:Int) * (p - a * k % p)=a * k % p - p by omega,Int.sub_emod,Int.emod_emod,Int.emod_self,Int.sub_zero,Int.emod_emod]
 rw [h3,AOs,Ajv<|Atl hp hm ha];rfl
theorem A3v (hp:Pr p) (hm:p=2 * m + 1) (ha:a % p≠0) (hodd:a % 2=1):GS p m a=AJ1 ((upN m).map λk=>chi<|a * k / p):=by
 have h2:=hp.1
 have hpt:∀ k∈upN m,chi k=chi (a * k / p) * chi (gv p m a k) * gs p m a k:=by
  intro k hk
  have hk:=AUw.1 hk
  have r1:=Ac6 hp ha (k:=k) AHx AHx
  have hd:=Int.mul_ediv_add_emod (a * k) p
  have par:chi (a * k)=chi k:=by
   refine Ah0 ?_
   obtain ⟨b,hb⟩:∃ b,a=2 * b + 1:=⟨a / 2,AHx⟩
   rw [hb,Int.add_mul,Int.one_mul,Int.mul_assoc]
   omega
  have parp:chi (p * (a * k / p))=chi (a * k / p):=by
   refine Ah0 ?_
   rw [hm,Int.add_mul,Int.one_mul,Int.mul_assoc]
   omega
  rw [<- par,<- hd,Ae2,parp,Int.mul_assoc]
  congr 1
  ·rw [hd]
  ·unfold gv gs
   split
   ·rw [Int.mul_one]
   ·have:chi (a * k % p)=chi (p - a * k % p) * chi 1:=by
     rw [<- Ae2]
     exact Ah0 AHx
    rw [this];rfl
 have h3:AJ1 ((upN m).map chi)=AJ1 ((upN m).map λk=>chi<|a * k / p) * AJ1 ((upN m).map λk=>chi<|gv p m a k) * GS p m a:=by
  rw [AMr hpt,AOs (λk=>chi (a * k / p) * chi (gv p m a k))<|gs p m a,AOs]
  rfl
 have h4:AJ1 ((upN m).map λk=>chi<|gv p m a k)=AJ1 ((upN m).map chi):=by
  have:=Ajv<|(Atl hp hm ha).map chi
  rw [List.map_map] at this
  exact this
 rw [h4] at h3;have q1:=Akn (f:=chi) (l:=upN m) λx _=>Ayt x;have q2:=Akn (f:=λk=>chi<|a * k / p) (l:=upN m) λx _=>Ayt _;have q3:=Ail p m a;generalize AJ1 ((upN m).map chi)=A at h3 q1;generalize AJ1 ((upN m).map λk=>chi<|a * k / p)=B at h3 q2 ⊢;generalize GS p m a=Cc at h3 q3 ⊢;rcases q1 with rfl | rfl <;> rcases q2 with rfl | rfl <;> rcases q3 with rfl | rfl <;> first | rfl | (exfalso;revert h3;decide)
end
theorem Akp {n:Nat} (hp:0 < p) (hq:q=2 * n + 1) {k:Int} (hk:0<=k) (Ad:2 * k < p):chi (q * k / p)=AJ1 ((upN n).map λl=>if p * l<=q * k then -1 else 1):=by
 have h0:0<=q * k:=Int.mul_nonneg AHx hk;have h1:0<=q * k / p:=Int.ediv_nonneg h0 AHx;obtain ⟨N,hN⟩:∃ N:Nat,q * k / p=N:=⟨(q * k / p).toNat,AHx⟩
 have hle:N<=n:=by
  rcases Nat.lt_or_ge n N with h | h
  ·exfalso
   have h2:q * k / p * p<=q * k:=Int.ediv_mul_le _ AHx
   rw [hN] at h2
   have h3:((n:Int) + 1) * p<=N * p:=Int.mul_le_mul_of_nonneg_right AHx AHx
   have h4:q * (2 * k)<=q * (p - 1):=Int.mul_le_mul_of_nonneg_left AHx AHx
   rw [Int.mul_sub,Int.mul_one,Int.mul_left_comm] at h4
   have h5:(2 * (n:Int) + 2) * p=q * p + p:=by rw [hq,Int.add_mul,Int.add_mul];omega
   have h6:(2 * (n:Int) + 2) * p=2 * (((n:Int) + 1) * p):=by rw [<- Int.mul_assoc];congr 1
   omega
  ·exact h
 rw [hN,<- count_le n N hle];refine AMr λl hl=>?_
 have hiff:l<=(N:Int)↔p * l<=q * k:=by
  rw [<- hN,Int.le_ediv_iff_mul_le hp,Int.mul_comm]
 by_cases h:l<=(N:Int)
 ·rw [if_pos h,if_pos<|hiff.1 h]
 ·rw [if_neg h,if_neg λh'=>h<|hiff.2 h']
theorem Al8 (n:Nat):AJ1 ((upN n).map λ_=>(-1:Int))=chi n:=by
 rw [<- count_le n n (Nat.le_refl _)];exact AMr λx hx=>by rw [if_pos (AUw.1 hx).2]
theorem Avo (n:Nat) (b:Int):AJ1 ((upN n).map λ_=>chi b)=chi (n * b):=by
 induction n with
 | zero=>simp [upN,AJ1,chi]
 | succ n ih=>
   rw [Ako,List.map_append,AZg,ih]
   simp only [List.map_cons,List.map_nil,AJ1,Int.mul_one]
   rw [<- Ae2]
   congr 1
   rw [show ((n + 1:Nat):Int)=(n:Int) + 1 by omega,Int.add_mul,Int.one_mul]
theorem A7n {m n:Nat} (hp:Pr p) (hq:Pr q) (hm:p=2 * m + 1) (hn:q=2 * n + 1) (hne:p≠q):GS p m q * GS q n p=chi (m * n):=by
 have Aa:=hp.1;have Ab:=hq.1
 have hqp:q % p≠0:=by
  intro h
  rcases Int.lt_trichotomy p q with hlt | heq | hgt
  ·exact hq.2 p Aa hlt h
  ·exact hne heq
  ·rw [Int.emod_eq_of_lt AHx hgt] at h;omega
 have hpq:p % q≠0:=by
  intro h
  rcases Int.lt_trichotomy p q with hlt | heq | hgt
  ·rw [Int.emod_eq_of_lt AHx hlt] at h;omega
  ·exact hne heq
  ·exact hp.2 q Ab hgt h
 rw [A3v hp hm hqp AHx,A3v hq hn hpq AHx]
 have e1:AJ1 ((upN m).map λk=>chi<|q * k / p)=AJ1 ((upN m).map λk=>AJ1<|(upN n).map λl=>if p * l<=q * k then -1 else 1):=
  AMr λk hk=>by have:=AUw.1 hk;exact Akp AHx hn AHx AHx
 have e2:AJ1 ((upN n).map λl=>chi<|p * l / q)=AJ1 ((upN n).map λl=>AJ1<|(upN m).map λk=>if q * k<=p * l then -1 else 1):=
  AMr λl hl=>by have:=AUw.1 hl;exact Akp AHx hm AHx AHx
 rw [e1,e2,Akm (λl k=>if q * k<=p * l then (-1:Int) else 1),<- AOs]
 have e3:AJ1 ((upN m).map λk=>AJ1 ((upN n).map λl=>if p * l<=q * k then (-1:Int) else 1) * AJ1 ((upN n).map λl=>if q * k<=p * l then (-1:Int) else 1))=AJ1 ((upN m).map λ_=>chi n):=by
  refine AMr λk hk=>?_
  rw [<- AOs,<- Al8 n]
  refine AMr λl hl=>?_
  have hk:=AUw.1 hk
  have hl:=AUw.1 hl
  have hno:p * l≠q * k:=by
   intro he
   refine AZp hp hqp (k:=k) AHx AHx ?_
   rw [<- he];exact Int.mul_emod_right p l
  by_cases h:p * l<=q * k
  ·rw [if_pos h,if_neg AHx];rfl
  ·rw [if_neg h,if_pos AHx];rfl
 rw [e3,Avo]
theorem Avp {m:Nat} (hp:Pr p) (hm:p=2 * m + 1) (hm1:1<=m):GS p m 2=if p % 8=1∨p % 8=7 then 1 else -1:=by
 have h1:GS p m 2=AJ1 ((upN m).map λk=>(-1) * (if k<=((m / 2:Nat):Int) then -1 else 1)):=by
  refine AMr λk hk=>?_;have hk:=AUw.1 hk;unfold gs;rw [Int.emod_eq_of_lt AHx AHx]
  by_cases h:2 * k<=(m:Int)
  ·rw [if_pos h,if_pos AHx];rfl
  ·rw [if_neg h,if_neg AHx];rfl
 rw [h1,AOs (λ_=> -1) (λk=>if k<=((m / 2:Nat):Int) then -1 else 1),Al8,count_le m (m / 2) AHx,<- Ae2];unfold chi;obtain ⟨j,r,hj,hr⟩:∃ j r:Nat,m=4 * j + r/\r < 4:=⟨m / 4,m % 4,AHx,AHx⟩;have hd:m / 2=2 * j + r / 2:=by omega
 rw [hd]
 by_cases h:p % 8=1∨p % 8=7
 ·have:r=0∨r=3:=by omega
  rcases this with rfl | rfl
  ·rw [if_pos h,if_pos AHx]
  ·rw [if_pos h,if_pos AHx]
 ·have:r=1∨r=2:=by omega
  rcases this with rfl | rfl
  ·rw [if_neg h,if_neg AHx]
  ·rw [if_neg h,if_neg AHx]
def lg (p a:Int):Int:=if a ^ ((p - 1) / 2).toNat % p=0 then 0 else if a ^ ((p - 1) / 2).toNat % p=1 then 1 else -1
def OPr (p:Int):Prop:=Pr p/\p % 2=1
theorem OPr.half (h:OPr p):p=2 * (((p - 1) / 2).toNat:Int) + 1/\1<=((p - 1) / 2).toNat:=by
 have h1:=h.1.1;have h2:=h.2;omega
theorem OPr.three (h:OPr p):3<=p:=by have h1:=h.1.1;have h2:=h.2;omega
theorem Agv (hp:OPr p) (ha:a % p≠0):lg p a=GS p ((p - 1) / 2).toNat a:=by
 obtain ⟨h1,h2⟩:=hp.half;have h3:=hp.three;have hg:=Atm hp.1 h1 ha;unfold lg;rw [hg];rcases Ail p ((p - 1) / 2).toNat a with h | h
 ·rw [h,Int.emod_eq_of_lt AHx AHx];rfl
 ·rw [h]
  have:(-1:Int) % p=p - 1:=by
   rw [show (-1:Int)=(p - 1) + p * (-1) by omega,Int.add_mul_emod_self_left,Int.emod_eq_of_lt AHx AHx]
  rw [this,if_neg AHx,if_neg AHx]
theorem Anh (ha:a % p=0):∀ m:Nat,1<=m->a ^ m % p=0:=by
 intro m hm;obtain ⟨k,rfl⟩:∃ k,m=k + 1:=⟨m - 1,AHx⟩;rw [Int.pow_succ,Int.mul_emod,ha,Int.mul_zero,Int.zero_emod]
theorem Aa6 (hp:OPr p) (ha:a % p=0):lg p a=0:=by
 unfold lg;rw [if_pos<|Anh ha _ hp.half.2]
theorem Ayu (hp:OPr p) (ha:a % p≠0):lg p a=1∨lg p a= -1:=by rw [Agv hp ha];exact Ail _ _ _
theorem Agw {b:Int} (hp:OPr p) (h:a % p=b % p):lg p a=lg p b:=by
 by_cases ha:a % p=0
 ·rw [Aa6 hp ha,Aa6 hp<|h ▸ ha]
 ·rw [Agv hp ha,Agv hp<|h ▸ ha];refine AMr λk _=>?_;unfold gs;rw [Int.mul_emod a,h,<- Int.mul_emod]
theorem A46 (hp:OPr p):lg p (a % p)=lg p a:=Agw hp<|Int.emod_emod _ _
theorem A7o {b:Int} (hp:OPr p) (ha:a % p≠0) (hb:b % p≠0):a * b % p≠0:=by
 have h3:=hp.three;have h1:=Int.emod_nonneg b (show p≠0 by omega);have h2:=Int.emod_lt_of_pos b (show 0 < p by omega);have:=AZp hp.1 ha (k:=b % p) AHx h2;rwa [Int.mul_emod,Int.emod_emod,<- Int.mul_emod] at this
theorem Akq (hp:OPr p) (a b:Int):lg p (a * b)=lg p a * lg p b:=by
 by_cases ha:a % p=0
 ·rw [Aa6 hp ha,Aa6 hp (by rw [Int.mul_emod,ha,Int.zero_mul,Int.zero_emod]),Int.zero_mul]
 ·by_cases hb:b % p=0
  ·rw [Aa6 hp hb,Aa6 hp (by rw [Int.mul_emod,hb,Int.mul_zero,Int.zero_emod]),Int.mul_zero]
  ·obtain ⟨h1,h2⟩:=hp.half;have h3:=hp.three;have hab:=A7o hp ha hb;rw [Agv hp ha,Agv hp hb,Agv hp hab];have g1:=Atm hp.1 h1 ha;have g2:=Atm hp.1 h1 hb;have g3:=Atm hp.1 h1 hab;rw [Int.mul_pow,Int.mul_emod,g1,g2,<- Int.mul_emod] at g3
   have Ah:(-1:Int) % p=p - 1:=by
    rw [show (-1:Int)=(p - 1) + p * (-1) by omega,Int.add_mul_emod_self_left,Int.emod_eq_of_lt AHx AHx]
   have Ai:(1:Int) % p=1:=Int.emod_eq_of_lt AHx AHx;rcases Ail p ((p - 1) / 2).toNat a with e1 | e1 <;> rcases Ail p ((p - 1) / 2).toNat b with e2 | e2 <;> rcases Ail p ((p - 1) / 2).toNat (a * b) with e3 | e3 <;> rw [e1,e2,e3] at g3 ⊢ <;> first | rfl | (exfalso;simp only [Int.mul_one,Int.one_mul,Int.mul_neg,Int.neg_mul,Int.neg_neg,Ah,Ai] at g3;omega)
def e4 (x y:Int):Int:=if x % 4=3/\y % 4=3 then -1 else 1
def e8 (x:Int):Int:=if x % 8=1∨x % 8=7 then 1 else -1
theorem A47 (hp:OPr p):lg p 2=e8 p:=by
 obtain ⟨h1,h2⟩:=hp.half;have h3:=hp.three;rw [Agv hp (by rw [Int.emod_eq_of_lt AHx AHx];omega),Avp hp.1 h1 h2];rfl
theorem Ayv (hp:OPr p) (hq:OPr q):lg p q=e4 p q * lg q p:=by
 by_cases hpq:p=q
 ·subst hpq;rw [Aa6 hp<|Int.emod_self,Int.mul_zero]
 ·obtain ⟨h1,_⟩:=hp.half;obtain ⟨h2,_⟩:=hq.half
  have Ae:q % p≠0:=by
   intro h
   rcases Int.lt_trichotomy p q with hlt | heq | hgt
   ·exact hq.1.2 p hp.1.1 hlt h
   ·exact hpq heq
   ·rw [Int.emod_eq_of_lt (by have:=hq.three;omega) hgt] at h;have:=hq.three;omega
  have Af:p % q≠0:=by
   intro h
   rcases Int.lt_trichotomy p q with hlt | heq | hgt
   ·rw [Int.emod_eq_of_lt (by have:=hp.three;omega) hlt] at h;have:=hp.three;omega
   ·exact hpq heq
   ·exact hp.1.2 q hq.1.1 hgt h
  have hr:=A7n hp.1 hq.1 h1 h2 hpq;rw [Agv hp Ae,Agv hq Af]
  have hc:chi ((((p - 1) / 2).toNat:Int) * (((q - 1) / 2).toNat:Int))=e4 p q:=by
   generalize hm:(((p - 1) / 2).toNat:Int)=m at h1 ⊢
   generalize hn:(((q - 1) / 2).toNat:Int)=n at h2 ⊢
   unfold chi e4
   rw [Int.mul_emod]
   rcases (by omega:m % 2=0∨m % 2=1) with a | a <;> rcases (by omega:n % 2=0∨n % 2=1) with b | b <;> rw [a,b]
   ·rw [if_pos AHz,if_neg AHx]
   ·rw [if_pos AHz,if_neg AHx]
   ·rw [if_pos AHz,if_neg AHx]
   ·rw [if_neg AHz,if_pos AHx]
  rw [hc] at hr;rcases Ail p ((p - 1) / 2).toNat q with e1 | e1 <;> rcases Ail q ((q - 1) / 2).toNat p with e2 | e2 <;> rw [e1,e2] at hr ⊢ <;> rw [<- hr] <;> rfl
def Jb (ps:List Int) (a:Int):Int:=AJ1<|ps.map λp=>lg p a
def Alg (ps:List Int):Prop:= ∀ p∈ps,OPr p
theorem A48 (h:Alg ps) (a b:Int):Jb ps (a * b)=Jb ps a * Jb ps b:=by
 unfold Jb;rw [<- AOs];exact AMr λp hp=>Akq (h p hp) a b
theorem Aee (h:Alg ps):AJ1 ps % 2=1/\1<=AJ1 ps:=by
 induction ps with
 | nil=>exact ⟨rfl,Int.le_refl _⟩
 | cons p ps ih=>
   obtain ⟨h1,h2⟩:=ih λq hq=>h q<|List.mem_cons_of_mem _ hq
   have hp:=h p<|List.mem_cons_self ..
   have h3:=hp.three
   have h4:=hp.2
   simp only [AJ1]
   refine ⟨by rw [Int.mul_emod,h1,h4];rfl,?_⟩
   have:=Int.mul_le_mul (show (1:Int)<=p by omega) h2 AHx AHx
   simpa using this
theorem A2c (h:Alg ps) (hne:ps≠[]):3<=AJ1 ps:=by
 cases ps with
 | nil=>exact absurd rfl hne
 | cons p ps=>
   have h2:=(Aee (ps:=ps) λq hq=>h q<|List.mem_cons_of_mem _ hq).2
   have h3:=(h p<|List.mem_cons_self ..).three
   have:=Int.mul_le_mul h3 h2 AHx AHx
   simp only [AJ1]
   simpa using this
theorem Ayw (h:p∈ps):p ∣ AJ1 ps:=by
 induction ps with
 | nil=>cases h
 | cons q ps ih=>
   simp only [AJ1]
   rcases List.mem_cons.1 h with rfl | h
   ·exact Int.dvd_mul_right _ _
   ·exact Int.dvd_mul_of_dvd_right<|ih h
theorem A49 (h:Alg ps) (a:Int):Jb ps (a % AJ1 ps)=Jb ps a:=
 AMr λp hp=>Agw (h p hp)<|Int.emod_emod_of_dvd a<|Ayw hp
theorem A5a (hx:x % 2=1) (hy:y % 2=1):e8 (x * y)=e8 x * e8 y:=by
 unfold e8;rw [Int.mul_emod];rcases (by omega:x % 8=1∨x % 8=3∨x % 8=5∨x % 8=7) with a | a | a | a <;> rcases (by omega:y % 8=1∨y % 8=3∨y % 8=5∨y % 8=7) with b | b | b | b <;> rw [a,b] <;> rfl
theorem A5b {z:Int} (hy:y % 2=1) (hz:z % 2=1):e4 x (y * z)=e4 x y * e4 x z:=by
 unfold e4;rw [Int.mul_emod];rcases (by omega:x % 4=0∨x % 4=1∨x % 4=2∨x % 4=3) with a | a | a | a <;> rcases (by omega:y % 4=1∨y % 4=3) with b | b <;> rcases (by omega:z % 4=1∨z % 4=3) with c | c <;> rw [a,b,c] <;> rfl
theorem A2d (x y:Int):e4 x y=e4 y x:=by unfold e4;simp only [And.comm]
theorem A5c (h:Alg ps):Jb ps 2=e8 (AJ1 ps):=by
 induction ps with
 | nil=>rfl
 | cons p ps ih=>
   have hp:=h p<|List.mem_cons_self ..
   have ho:=Aee (ps:=ps) λq hq=>h q<|List.mem_cons_of_mem _ hq
   have ih:=ih λq hq=>h q<|List.mem_cons_of_mem _ hq
   unfold Jb at ih ⊢
   simp only [List.map_cons,AJ1]
   rw [ih,A47 hp,A5a hp.2 ho.1]
theorem Atn (hp:OPr p) (qs:List Int):lg p (AJ1 qs)=AJ1 (qs.map λq=>lg p q):=by
 induction qs with
 | nil=>
   show lg p 1=1
   unfold lg
   have h3:=hp.three
   rw [Int.one_pow,Int.emod_eq_of_lt AHx AHx];rfl
 | cons q qs ih=>simp only [List.map_cons,AJ1];rw [Akq hp,ih]
theorem Ato {qs:List Int} (h:Alg qs):AJ1 (qs.map λq=>e4 x q)=e4 x (AJ1 qs):=by
 induction qs with
 | nil=>simp [AJ1,e4]
 | cons q qs ih=>
   have ho:=Aee (ps:=qs) λr hr=>h r<|List.mem_cons_of_mem _ hr
   simp only [List.map_cons,AJ1]
   rw [ih λr hr=>h r<|List.mem_cons_of_mem _ hr,A5b (h q<|List.mem_cons_self ..).2 ho.1]
theorem Ayx {qs:List Int} (hp:Alg ps) (hq:Alg qs):Jb ps (AJ1 qs)=e4 (AJ1 qs) (AJ1 ps) * Jb qs (AJ1 ps):=by
 unfold Jb
 have e1:AJ1 (ps.map λp=>lg p<|AJ1 qs)=AJ1 (ps.map λp=>e4 (AJ1 qs) p * AJ1 (qs.map λq=>lg q p)):=by
  refine AMr λp hpm=>?_
  rw [Atn<|hp p hpm,A2d,<- Ato hq,<- AOs]
  exact AMr λq hqm=>Ayv (hp p hpm)<|hq q hqm
 rw [e1,AOs,Ato hp,Akm λp q=>lg q p];congr 1;exact AMr λq hqm=>(Atn (hq q hqm) ps).symm
theorem A2e:∀ (n:Nat) (a:Int),a.toNat<=n->1<=a->a % 2=1-> ∃ qs,Alg qs/\AJ1 qs=a:=by
 intro n
 induction n with
 | zero=>intro a h1 h2;omega
 | succ n ih=>
   intro a h1 h2 h3
   by_cases Ah:a=1
   ·exact ⟨[],(λq hq=>by cases hq),by rw [Ah];rfl⟩
   ·by_cases hpr:Pr a
    ·exact ⟨[a],(λq hq=>by rw [List.mem_singleton.1 hq];exact ⟨hpr,h3⟩),by simp [AJ1]⟩
    ·have hex:∃ d,2<=d/\d < a/\a % d=0:=by
      by_cases hh:∃ d,2<=d/\d < a/\a % d=0
      ·exact hh
      ·exact absurd ⟨AHx,λd Aa Ad Ab=>hh ⟨d,Aa,Ad,Ab⟩⟩ hpr
     obtain ⟨d,Aa,Ad,Ab⟩:=hex
     have hda:d * (a / d)=a:=by have:=Int.mul_ediv_add_emod a d;omega
     have Aq:0 < a / d:=Int.ediv_pos_of_pos_of_dvd AHx AHx<|Int.dvd_of_emod_eq_zero Ab
     have hqlt:a / d < a:=by
      have:2 * (a / d)<=d * (a / d):=Int.mul_le_mul_of_nonneg_right Aa AHx
      omega
     have hpar:d % 2=1/\(a / d) % 2=1:=by
      have h4:(d % 2) * ((a / d) % 2) % 2=1:=by rw [<- Int.mul_emod,hda];exact h3
      rcases (by omega:d % 2=0∨d % 2=1) with e | e <;> rcases (by omega:(a / d) % 2=0∨(a / d) % 2=1) with f | f <;> rw [e,f] at h4 <;> first | exact ⟨e,f⟩ | (exfalso;revert h4;decide)
     obtain ⟨q1,Aj,e1⟩:=ih d AHx AHx hpar.1
     obtain ⟨q2,Ao,e2⟩:=ih (a / d) AHx AHx hpar.2
     refine ⟨q1 ++ q2,λq hq=>?_,by rw [AZg,e1,e2,hda]⟩
     rcases List.mem_append.1 hq with h | h
     ·exact Aj q h
     ·exact Ao q h
def Akr (T s a n:Int):Prop:= ∃ ps,Alg ps/\AJ1 ps=n/\T=s * Jb ps a
theorem Arw (hp:OPr p):Akr (lg p a) 1 a p:=⟨[p],(λq hq=>by rw [List.mem_singleton.1 hq];exact hp),by simp [AJ1],by simp [Jb,AJ1]⟩
theorem Avq {n:Int} (h:Akr T s a n) (he:a % 2=0):Akr T (if n % 8=3∨n % 8=5 then -s else s) (a / 2) n:=by
 obtain ⟨ps,h1,h2,h3⟩:=h;refine ⟨ps,h1,h2,?_⟩;have ho:=Aee h1;have ha:a=2 * (a / 2):=by omega
 rw [ha,A48 h1,A5c h1,h2] at h3;rw [h3];rw [h2] at ho;unfold e8;by_cases h8:n % 8=3∨n % 8=5
 ·rw [if_pos h8,if_neg AHx];simp [Int.mul_neg,Int.neg_mul]
 ·rw [if_neg h8,if_pos AHx];simp
theorem Avr {n:Int} (h:Akr T s a n) (h0:0 < a) (ho:a % 2=1):Akr T (if a % 4=3/\n % 4=3 then -s else s) (n % a) a:=by
 obtain ⟨ps,h1,h2,h3⟩:=h;obtain ⟨qs,q1,q2⟩:=A2e a.toNat a (Nat.le_refl _) AHx ho;refine ⟨qs,q1,q2,?_⟩;have hr:=Ayx h1 q1;rw [q2,h2] at hr;rw [h3,hr];have hmod:=A49 q1 n;rw [q2] at hmod;rw [hmod];unfold e4;by_cases h4:a % 4=3/\n % 4=3
 ·rw [if_pos h4,if_pos h4];simp [Int.mul_neg,Int.neg_mul]
 ·rw [if_neg h4,if_neg h4];simp
theorem Ayy {n:Int} (h:Akr T s 0 n):T=if n=1 then s else 0:=by
 obtain ⟨ps,h1,h2,h3⟩:=h;by_cases hn:ps=[]
 ·subst hn;simp only [AJ1] at h2;rw [if_pos h2.symm,h3];simp [Jb,AJ1]
 ·have:=A2c h1 hn;rw [if_neg AHx,h3]
  cases ps with
  | nil=>exact absurd rfl hn
  | cons p ps=>
    unfold Jb
    simp only [List.map_cons,AJ1]
    rw [Aa6 (h1 p<|List.mem_cons_self ..)<|Int.zero_emod _,Int.zero_mul,Int.mul_zero]
theorem Apo {n:Int} (h:Akr T s a n):n % 2=1/\1<=n:=by
 obtain ⟨ps,h1,h2,_⟩:=h;rw [<- h2];exact Aee h1
end Go.QF
namespace Go.Proofs.YtegoafpaljeobaaGreatDoor
open Classical in
noncomputable def Ah1 (p:Int):Bool:=decide (2 < p/\p<=9973/\Pr p)
theorem Abm (h:2 < p/\p<=9973/\Pr p):true=Ah1 p:=by simp [Ah1,h]
theorem AXb (h: ¬ (2 < p/\p<=9973/\Pr p)):false=Ah1 p:=by simp [Ah1,h]
theorem Arx (h:2 < p/\Pr p):OPr p:=by
 refine ⟨h.2,?_⟩;have:=h.2.2 2 AHx h.1;omega
theorem prB {b:Bool} (h:AS7 p=b) (hp:p<=9973):b=true↔Pr p:=by
 subst h;constructor
 ·intro h;exact (Auo h).2
 ·intro h;exact (Agf AHx h).symm
theorem A2f (p:Int) (HO:Ad2 h):AI7 Tryz.prog 14 #[.int .i64 p] h λv h'=>h'=h/\v= .bool (Ah1 p):=by
 refine AJi (l:=[_]) mx Tryz.func14 rfl rfl rfl rfl rfl AIb (AH1<|AJd<|AHy<|AZu rfl rfl (λAa=>?_) (λAa=>?_))
 ·refine AHy<|AJ6 5 true AIb rfl rfl (AHy<|AJ6 5 true AIb rfl rfl (Abq rfl rfl (λAb=>?_) (λAb=>?_)))
  ·refine AIm rfl (AHy<|AJ6 9 true AIb rfl rfl (AHy<|AJ6 9 true AIb rfl rfl (AIz trivial rfl (A3h p HO) λx1 h hk=>?_)));obtain ⟨rfl,rfl⟩:=hk;refine ⟨trivial,?_⟩;cases Ad:AS7 p
   ·refine AIm rfl (AH7<|AIc<|⟨_,AId,?_⟩)
    first
    | exact ⟨rfl,congrArg Value.bool<|AXb (λhh=>by have:=hh.1;have:=hh.2.1;omega)⟩
    | (have hq:=(prB (by assumption:AS7 p=_) AHx);first | exact ⟨rfl,congrArg Value.bool<|Abm ⟨by first | omega | (have:=(hq.1 rfl).1;omega),AHx,hq.1 rfl⟩⟩ | exact ⟨rfl,congrArg Value.bool<|AXb (λhh=>by have:=hq.2 hh.2.2;cases this)⟩)
   ·refine AIm rfl (AH7<|AIc<|⟨_,AId,?_⟩)
    first
    | exact ⟨rfl,congrArg Value.bool<|AXb (λhh=>by have:=hh.1;have:=hh.2.1;omega)⟩
    | (have hq:=(prB (by assumption:AS7 p=_) AHx);first | exact ⟨rfl,congrArg Value.bool<|Abm ⟨by first | omega | (have:=(hq.1 rfl).1;omega),AHx,hq.1 rfl⟩⟩ | exact ⟨rfl,congrArg Value.bool<|AXb (λhh=>by have:=hq.2 hh.2.2;cases this)⟩)
  ·refine AIm rfl (AHy<|AJw 9 false AIb rfl rfl (AJw 9 false AIb rfl rfl (AIn rfl (AH7<|AIc<|⟨_,AId,?_⟩))))
   first
   | exact ⟨rfl,congrArg Value.bool<|AXb (λhh=>by have:=hh.1;have:=hh.2.1;omega)⟩
   | (have hq:=(prB (by assumption:AS7 p=_) AHx);first | exact ⟨rfl,congrArg Value.bool<|Abm ⟨by first | omega | (have:=(hq.1 rfl).1;omega),AHx,hq.1 rfl⟩⟩ | exact ⟨rfl,congrArg Value.bool<|AXb (λhh=>by have:=hq.2 hh.2.2;cases this)⟩)
 ·refine AHy (AJw 5 false AIb rfl rfl (AJw 5 false AIb rfl rfl (AIn rfl (AHy<|AJw 9 false AIb rfl rfl (AJw 9 false AIb rfl rfl (AIn rfl (AH7<|AIc<|⟨_,AId,?_⟩)))))))
  first
  | exact ⟨rfl,congrArg Value.bool<|AXb (λhh=>by have:=hh.1;have:=hh.2.1;omega)⟩
  | (have hq:=(prB (by assumption:AS7 p=_) AHx);first | exact ⟨rfl,congrArg Value.bool<|Abm ⟨by first | omega | (have:=(hq.1 rfl).1;omega),AHx,hq.1 rfl⟩⟩ | exact ⟨rfl,congrArg Value.bool<|AXb (λhh=>by have:=hq.2 hh.2.2;cases this)⟩)
open Classical in
noncomputable def AN6 (p:Int):Bool:=decide (p<=9973/\Pr p)
theorem Small_ok (p:Int) (h:AH8):AI7 Tryz.prog 68 #[.int .i64 p] h λv h'=>h'=h/\v= .bool (AN6 p):=by
 refine AJi (l:=[_]) mx Tryz.func68 rfl rfl rfl rfl rfl AIb (AH1<|AJd<|AHy<|Abq rfl rfl (λAa=>?_) (λAa=>?_))
 ·refine AHy<|AJ6 5 true AIb rfl rfl (AHy<|AJ6 5 true AIb rfl rfl (AIz trivial rfl (Awt p _) λx1 h hk=>?_));obtain ⟨rfl,rfl⟩:=hk;refine ⟨trivial,?_⟩;cases Ac:AS7 p
  ·refine AIm rfl (AH7<|AIc<|⟨_,AId,?_⟩)
   first
   | exact ⟨rfl,congrArg Value.bool (show false=AN6 p by simp [AN6];intro hh;omega)⟩
   | (have hq:=(prB (by assumption:AS7 p=_) AHx);first | exact ⟨rfl,congrArg Value.bool (show true=AN6 p by simp [AN6];exact ⟨AHx,hq.1 rfl⟩)⟩ | exact ⟨rfl,congrArg Value.bool (show false=AN6 p by simp [AN6];intro _ hh;have:=hq.2 hh;cases this)⟩)
  ·refine AIm rfl (AH7<|AIc<|⟨_,AId,?_⟩)
   first
   | exact ⟨rfl,congrArg Value.bool (show false=AN6 p by simp [AN6];intro hh;omega)⟩
   | (have hq:=(prB (by assumption:AS7 p=_) AHx);first | exact ⟨rfl,congrArg Value.bool (show true=AN6 p by simp [AN6];exact ⟨AHx,hq.1 rfl⟩)⟩ | exact ⟨rfl,congrArg Value.bool (show false=AN6 p by simp [AN6];intro _ hh;have:=hq.2 hh;cases this)⟩)
 ·refine AHy (AJw 5 false AIb rfl rfl (AJw 5 false AIb rfl rfl (AIn rfl (AH7<|AIc<|⟨_,AId,?_⟩))))
  first
  | exact ⟨rfl,congrArg Value.bool (show false=AN6 p by simp [AN6];intro hh;omega)⟩
  | (have hq:=(prB (by assumption:AS7 p=_) AHx);first | exact ⟨rfl,congrArg Value.bool (show true=AN6 p by simp [AN6];exact ⟨AHx,hq.1 rfl⟩)⟩ | exact ⟨rfl,congrArg Value.bool (show false=AN6 p by simp [AN6];intro _ hh;have:=hq.2 hh;cases this)⟩)
theorem Avs (p:Int) (h:AH8):AI7 Tryz.prog 24 #[.int .i64 p] h λv h'=>h'=h/\v= .bool (Ah1 p):=by
 refine AJi (l:=[_]) mx Tryz.func24 rfl rfl rfl rfl rfl AIb (AH1<|AJd<|AHy<|Aln rfl rfl (λAb=>?_) (λAb=>?_))
 ·refine AHy<|AJ6 5 true AIb rfl rfl (AHy<|AJ6 5 true AIb rfl rfl (AIz trivial rfl (Small_ok p _) λx1 h hk=>?_));obtain ⟨rfl,rfl⟩:=hk;refine ⟨trivial,?_⟩;cases Ad:AN6 p
  ·refine AIm rfl (AH7<|AIc<|⟨_,AId,?_⟩)
   first
   | (have hq:AN6 p=true:=by assumption
      have Aa:p<=9973/\Pr p:=by simpa [AN6] using hq
      exact ⟨rfl,congrArg Value.bool<|Abm ⟨by have:=Aa.2.1;omega,Aa⟩⟩)
   | (have hq:AN6 p=false:=by assumption
      exact ⟨rfl,congrArg Value.bool<|AXb (λhh=>by
       have Aa: ¬ (p<=9973/\Pr p):=by simpa [AN6] using hq
       exact Aa hh.2)⟩)
   | exact ⟨rfl,congrArg Value.bool<|AXb (λhh=>by have:=hh.1;omega)⟩
  ·refine AIm rfl (AH7<|AIc<|⟨_,AId,?_⟩)
   first
   | (have hq:AN6 p=true:=by assumption
      have Aa:p<=9973/\Pr p:=by simpa [AN6] using hq
      exact ⟨rfl,congrArg Value.bool<|Abm ⟨by have:=Aa.2.1;omega,Aa⟩⟩)
   | (have hq:AN6 p=false:=by assumption
      exact ⟨rfl,congrArg Value.bool<|AXb (λhh=>by
       have Aa: ¬ (p<=9973/\Pr p):=by simpa [AN6] using hq
       exact Aa hh.2)⟩)
   | exact ⟨rfl,congrArg Value.bool<|AXb (λhh=>by have:=hh.1;omega)⟩
 ·refine AHy (AJw 5 false AIb rfl rfl (AJw 5 false AIb rfl rfl (AIn rfl (AH7<|AIc<|⟨_,AId,?_⟩))))
  first
  | (have hq:AN6 p=true:=by assumption
     have Aa:p<=9973/\Pr p:=by simpa [AN6] using hq
     exact ⟨rfl,congrArg Value.bool<|Abm ⟨by have:=Aa.2.1;omega,Aa⟩⟩)
  | (have hq:AN6 p=false:=by assumption
     exact ⟨rfl,congrArg Value.bool<|AXb (λhh=>by
      have Aa: ¬ (p<=9973/\Pr p):=by simpa [AN6] using hq
      exact Aa hh.2)⟩)
  | exact ⟨rfl,congrArg Value.bool<|AXb (λhh=>by have:=hh.1;omega)⟩
noncomputable def AZq (fuel:Nat) (M:List (List Int)):Option Bool:=some<|isRed M
theorem Af1 {r:Bool} (H:ANp (cI .i64) h v M) (hp:AZq fuel M=some r):AI7 Tryz.prog 13 #[v] h (λx h'=>Ext h h'/\x= .bool r):=by
 cases hp;exact Ang (A45 H) H.1
noncomputable def Apq (fuel:Nat) (n:Int):Option Bool:=some<|AS7 n
theorem Avt {n:Int} {r:Bool} (HO:Ad2 h) (hp:Apq fuel n=some r):AI7 Tryz.prog 39 #[.int .i64 n] h (λx h'=>Ext h h'/\x= .bool r):=by
 cases hp;exact (A3h n HO).mono λx h' ⟨he,hx⟩=>⟨he ▸ Ext.refl _,hx⟩
noncomputable def AVi (fuel:Nat) (n:Int):Option Bool:=some<|Ah1 n
theorem Aa7 {n:Int} {r:Bool} (HO:Ad2 h) (hp:AVi fuel n=some r):AI7 Tryz.prog 14 #[.int .i64 n] h (λx h'=>Ext h h'/\x= .bool r):=by
 cases hp;exact (A2f n HO).mono λx h' ⟨he,hx⟩=>⟨he ▸ Ext.refl _,hx⟩
noncomputable def Ani (fuel:Nat) (n:Int):Option Bool:=some<|Ah1 n
theorem Ayz {n:Int} {r:Bool} (hp:Ani fuel n=some r):AI7 Tryz.prog 24 #[.int .i64 n] h (λx h'=>Ext h h'/\x= .bool r):=by
 cases hp;exact (Avs n h).mono λx h' ⟨he,hx⟩=>⟨he ▸ Ext.refl _,hx⟩
noncomputable def AVj (fuel:Nat) (Ad:LiA) (Aa Ab Ac:Int):Option ((Int × Int × Int) ⊕ (Int × Int)):=
 if 0<=Aa then (gI Ad Aa).bind λAe=>if 0<=Aa/\Aa<=64 then (((Aeb fuel Ab Ae).bind λ(Af,Ag,Ak)=>(Akh fuel Ag).bind λAh=>if ¬ Ah=0 then some (false,Ab,Ac) else some (true,Af,w64<|Ac + w64 (1 * 2 ^ Int.toNat Aa))):Option (Bool × Int × Int)).bind λ(Am,Ai,Aj)=>some (.inl (w64<|Aa - 1,Ai,Aj)) else none else some<|.inr (Ab,Ac)
noncomputable def AVk (fuel:Nat) (Aa:LiA) (Ac Ad:Int):Option ((LiA × Int × Int) ⊕ (LiA × Int × Int)):=
 (gI Aa<|w64<|(Aa.length:Int) - 1).bind λAb=>if 0<=w64 ((Aa.length:Int) - 1)/\w64 ((Aa.length:Int) - 1)<=64 then (((Aeb fuel Ac Ab).bind λ(Ag,Ah,Am)=>(Akh fuel Ah).bind λAi=>if ¬ Ai=0 then some (false,Ac,Ad) else some (true,Ag,w64<|Ad + w64 (1 * 2 ^ Int.toNat (w64<|(Aa.length:Int) - 1)))):Option (Bool × Int × Int)).bind λ(Aj,Ae,Af)=>if Aj=true then (Atk fuel Ab Ab).bind λAk=>if Aa.length<=100000000 then some (.inl (Aa ++ [Ak],Ae,Af)) else none else some (.inr (Aa,Ae,Af)) else none
noncomputable def ASk (fuel:Nat) (a1 a5:Int):Option (Int × Int × Int):=
 (Apq fuel a5).bind λAd=>if (!Ad)=true then some (0,0,20) else (Akh fuel a1).bind λAe=>if Ae=0 then some (0,0,1) else (Aec fuel a1).bind λAf=>(Ajc fuel a5).bind λAg=>(iter (λs=>AVk fuel s.1 s.2.1 s.2.2) fuel ([Ag],Af,0)).bind (λ((Ac,Ah,Ai):LiA × Int × Int)=>(iter (λs=>AVj fuel Ac s.1 s.2.1 s.2.2) fuel (w64<|(Ac.length:Int) - 2,Ah,Ai)).bind (λ((Aj,Ak):Int × Int)=>some (Ak,Aj,0)))
theorem Aef {Bh:Value} {r:(Int × Int × Int)} (H3:ZZ h Bh a1) (HO:Ad2 h) (hp:ASk fuel a1 a5=some r):AI7 Tryz.prog 42 #[Bh,(.int .i64 a5)] h (λx h'=>Ext h h'/\ ∃ (x1:Value),x= .tuple #[.int .i64 r.1,x1,.int .i64 r.2.2]/\ZZ h' x1 r.2.1):=by
 unfold ASk at hp;obtain ⟨Ci,rfl,Am⟩:=H3.cs;refine cwf (l:=[_,_]) Tryz.func42 rfl rfl (AH1<|AP5 (Kst.k0 h) Ci λb6 h7 E9 Cj=>AIw<|ALm Cj [.bool false,.slice none 0 0] ANt λFu Fv Fw Bm=>AH7<|AH3<|AH1<|AHy ?_);obtain ⟨Fx,Ck,Bn⟩:=AH2 hp;refine ALx Bm (Avt (HO.ext Bm.x) Ck) λBo Fy Aj=>AMp rfl (AH5<|⟨_,rfl,λAx=>?_,λAx=>?_⟩)
 ·refine AH1<|ALe (AW6 )<|AIw<|AOv Aj p0 (AIo Bo) (AIo Bo) λBp Bq=>AH7<|AIc<|AIt ?_;obtain rfl:=AH0<|ifT Bn Ax;exact ⟨_,Aka AJz (cZ.klen<|AIo Bp) rfl (Bq.b p0),Bq.x,_,rfl,(AIo Bp).2⟩
 ·refine AIa<|q_t<|AH3<|AH1<|ATd (Aj.zx Am) (Aj.b p1) ?_;obtain ⟨Fz,Cm,Br⟩:=AH2<|AQa Bn Ax;refine ALx Aj (Ajd (Aj.zx Am).2 Cm) λBt F4 Ak=>AKd rfl rfl (AH5<|⟨_,rfl,λAy=>?_,λAy=>?_⟩)
  ·refine AH1<|ALe (AW6 )<|AIw<|AOv Ak p0 (AIo Bt) (AIo Bt) λBu Bv=>AH7<|AIc<|AIt ?_;obtain rfl:=AH0<|AJb Br Ay;exact ⟨_,Aka AJz (cZ.klen<|AIo Bu) rfl (Bv.b p0),Bv.x,_,rfl,(AIo Bu).2⟩
  ·refine AIa<|q_t<|AH1<|ATd (Ak.zx Am) (Ak.b p1) ?_;obtain ⟨Cn,Co,Cp⟩:=AH2<|AJc Br Ay;refine AWr Ak (Agu (Ak.zx Am).2 Co) λCq F5 F6 Cr=>ALm Cr [.bool false,.slice none 0 0] ANt λAe Ct F7 Bw=>AOv Bw p0 (AIo Ct) (Bw.z p1) λF8 Cu=>AQs<|ALm Cu [(.int .i64 0)] Afx λAf F9 Ga Bx=>AVa [(.int .i64 0)] AJq rfl rfl rfl (Bx.b p0) (Nat.le_of_ble_eq_true rfl) rfl λGb Cv Cw=>AQs<|Awm rfl (AH7<|AH3 ?_);refine AIf<|AHy ?_;obtain ⟨Cx,Cy,Cz⟩:=AH2 Cp;refine AWr (Bx.sb p0 Cw Cv rfl) (Aki Cy) λGc Gd Ge By=>A4p ALs ANt rfl trivial tt2 (By.z p0) rfl λC0 C1 Gf C3 C4 C5 C6=>AH7<|AH3<|AH6 ?_;have Az:=(By.no C4 (ANs C5 C6) C3).sel [0,2,3,4,5] AHz;dsimp only [APr,AS0] at Az;refine AOq 2251799679470592 (λx:(LiA) × (Value) × LnA × (Int) × LvA × (Int)=>(x.1,x.2.2.2.1,x.2.2.2.2.2)) (([Cx],C1,[C0],Cn,Cq,0):(LiA) × (Value) × LnA × (Int) × LvA × (Int)) Cz (λx=>[(10,x.2.1)]) (λx=>(((Az.L.set 0<|aO cZ 81 x.2.2.1 x.2.1 x.1).set 3 (aZ x.2.2.2.2.1 x.2.2.2.1)).set 2 (aB 81 Ae x.2.2.2.2.1)).set 1 (aB 3 Af [(.int .i64 x.2.2.2.2.2)])) Az ⟨rfl,trivial⟩ ?_;rintro ⟨Ao,Gg,Gh,C7,C8,A3⟩ Gi Gj Gk Ap Bz C9;unfold AVk at Bz;refine AH3<|AH3<|AMw<|AHy<|AHy<|AHy<|AJ8 ALs rfl (Ap.o p0).rd (AMy rfl rfl ?_);obtain ⟨Gl,Aq,Da⟩:=AH2 Bz;refine Afn ALs rfl (Ap.o p0) rfl Aq λGm Db=>?_;obtain ⟨B2,Dc,Dd⟩:=(Ap.o p0).cells Db Aq;have Ar:=Ap.az Dc;refine AW5 (c:=cZ) AJz rfl (Ar.z p0) (λj u hu=>(Dd j u hu)) (AHy<|AJ8 ALs rfl (Ar.o p1).rd (AMy rfl rfl ?_));obtain ⟨De,Df⟩:=ifN Da;refine Axp rfl rfl De ?_;obtain ⟨Dg,Dh,B3⟩:=AH2 Df;refine Aix (l:=[(.agg (B2).toArray),(.int .i64<|w64<|1 * 2 ^ Int.toNat (w64<|(Ao.length:Int) - 1))]) (cl:=[(.pointer<|some ⟨Ae,0,none⟩),(.pointer<|some ⟨Af,0,none⟩)]) (K':=(λxr h'=> ∃ x:(Bool) × (Int) × LvA × (Int),(x.1,x.2.1,x.2.2.2)=Dg/\xr=(.bool x.1)/\Kst h h' (((Ar.L.set 4<|aZ x.2.2.1 x.2.1).set 3 (aB 81 Ae x.2.2.1)).set 2 (aB 3 Af [(.int .i64 x.2.2.2)])))) trivial rfl rfl ?_ λGn Gp Di=>?_
   ·refine cwf (l:=[_,_,_,_]) Tryz.func86 rfl rfl (AH1<|AP5 Ar B2 λGq Gr Gt Ab=>AJd<|ATd (Ab.z p5) (Ab.b p4)<|ATd (Ab.z p1) (Ab.b p0) ?_);obtain ⟨⟨Dj,Gu,Gv⟩,Dk,B4⟩:=AH2 Dh;dsimp only at B4;refine ASt rfl (Ahz (Ab.z p5).2 (Ab.z p1).2 Dk) λGw Gx Dl Do=>?_;obtain ⟨Gy,Gz,rfl,Dp,Dq⟩:=Do;obtain ⟨Dr,rfl,Ds⟩:=Dp.cs;obtain ⟨G3,rfl,Dt⟩:=Dq.cs;refine AHy<|AJs rfl rfl (AJs rfl rfl (AJs rfl rfl (ALm (((Ab.e Dl).az Ds).az Dt) [.bool false,.slice none 0 0] ANt λG4 G5 G6 Du=>ALm Du [.bool false,.slice none 0 0] ANt λG7 Dv G8 B5=>AOv B5 p1 (AIo Dv) (B5.z p3) λDw B6=>AOv B6 p0 (AIo Dw) (B6.z p2) λG9 Au=>AH7<|AH3<|AH1<|ATd (Au.z p2) (Au.b p0) ?_)));obtain ⟨Hb,Dx,B7⟩:=AH2 B4;refine ALx Au (Ajd (Au.z p2).2 Dx) λHc Hd Ag=>AK0 rfl rfl (AH5<|⟨_,rfl,λA4=>?_,λA4=>?_⟩)
    ·refine AH1<|AH7<|AIc<|AIt<|⟨_,AId,((false,C7,C8,A3):(Bool) × (Int) × LvA × (Int)),?_,rfl,?_⟩
     ·exact AH0<|AJb B7 A4
     ·exact Ag.sel [5,6,7,8,9,10] AHz
    ·refine AIa<|q_t<|AH1<|ATd (Ag.z p3) (Ag.b p1)<|AOv Ag p8 (Ag.z p9) (Ag.z p3) λHe A5=>AQs<|AI1 AJq rfl ((A5.b p7).cell (i:=0) rfl) (AHy<|AI0 rfl rfl (AVa [(.int .i64<|w64<|A3 + (w64<|1 * 2 ^ Int.toNat (w64<|(Ao.length:Int) - 1)))] AJq rfl rfl rfl (A5.b p7) (Nat.le_of_ble_eq_true rfl) rfl λHf Dy Dz=>AQs ?_));refine AH7<|AIc<|⟨_,AId,((true,Dj,Dr,(w64<|A3 + (w64<|1 * 2 ^ Int.toNat (w64<|(Ao.length:Int) - 1)))):(Bool) × (Int) × LvA × (Int)),?_,rfl,?_⟩
     ·exact AH0<|AJc B7 A4
     ·exact (A5.sb p7 Dz Dy rfl).sel [5,6,7,8,3,10] AHz
   obtain ⟨⟨Hg,D0,D3,D4⟩,D5,rfl,Ah⟩:=Di;refine ⟨trivial,?_⟩;subst D5;refine AH5<|⟨_,rfl,λA6=>?_,λA6=>?_⟩
   ·refine AIa<|q_t<|AH6<|AH1<|AHy<|AHy<|AJ8 ALs rfl (Ah.o p1).rd (AMy rfl rfl (Afn ALs rfl (Ah.o p1) rfl Aq λHh D6=>?_));obtain ⟨Hj,D7,D8⟩:=(Ah.o p1).cells D6 Aq;have B8:=Ah.az D7;refine AW5 (c:=cZ) AJz rfl (B8.z p0) (λj u hu=>(D8 j u hu)) (ALm B8 [.bool false,.slice none 0 0] ANt λHk D9 Hl B9=>AOv B9 p0 (AIo D9) (B9.z p1) λHm Ac=>AH5<|AIf<|AHy<|ATd (Ac.z p1) (Ac.b p0)<|ATd (Ac.z p1) (Ac.b p0) ?_);obtain ⟨Hn,Ea,Eb⟩:=AH2<|ifT B3 A6;refine AWr Ac (Aru (Ac.z p1).2 (Ac.z p1).2 Ea) λHo Hq Hr A7=>?_;obtain ⟨Ec,Ed⟩:=ifN Eb;refine ASg ALs ANt rfl rfl trivial tt2 (λ_=>rfl) rfl (A7.z p0) (A7.o p4) AHz Ec λHs Ht Hu Hv Ee Ef Eg=>AIw<|AIu<|q_b<|q_t ?_;exact ⟨(_,_,_,_,_,_),(AH0 Ed).symm,(A7.uo p4 Ef Ee Eg).sel [4,5,6,7,8] AHz,rfl,trivial⟩
   ·refine AIq<|AIr<|AIr<|AJt<|q_t<|AH3<|AH1<|AHy<|AJ8 ALs rfl (Ah.o p1).rd (AMy rfl rfl (AH7<|AH6 ?_));have A8:=Ah.sel [1,2,3,4,5] AHz;dsimp only [APr,AS0] at A8;refine AOq 73768961896328728576 (λx:(Int) × (Int) × LvA × (Int)=>(x.1,x.2.1,x.2.2.2)) (((w64<|(Ao.length:Int) - 2),D0,D3,D4):(Int) × (Int) × LvA × (Int)) (C9 _ (AH0<|AQa B3 A6).symm) (λx=>[(12,(.int .i64 x.1))]) (λx=>((A8.L.set 3<|aZ x.2.2.1 x.2.1).set 2 (aB 81 Ae x.2.2.1)).set 1 (aB 3 Af [(.int .i64 x.2.2.2)])) A8 ⟨rfl,trivial⟩ ?_;rintro ⟨A9,Eh,Ei,Ba⟩ Hw Ej Hx Aa Bb Ek;unfold AVj at Bb;refine AH3<|AH1<|AHy<|AUr rfl rfl (AH5<|⟨_,rfl,λBc=>?_,λBc=>?_⟩)
    ·refine AIa<|q_t<|AH3<|AH6<|AMw<|AHy<|AHy<|AHy ?_;obtain ⟨Hy,Ca,El⟩:=AH2<|AJb Bb Bc;refine Afn ALs rfl (Aa.o p0) rfl Ca λHz Em=>?_;obtain ⟨Cb,En,Eo⟩:=(Aa.o p0).cells Em Ca;have Be:=Aa.az En;refine AW5 (c:=cZ) AJz rfl (Be.z p0) (λj u hu=>(Eo j u hu)) (AHy ?_);obtain ⟨Ep,Er⟩:=ifN El;refine Axp rfl rfl Ep ?_;obtain ⟨Es,Et,Eu⟩:=AH2 Er;refine Aix (l:=[(.agg (Cb).toArray),(.int .i64<|w64<|1 * 2 ^ Int.toNat A9)]) (cl:=[(.pointer<|some ⟨Ae,0,none⟩),(.pointer<|some ⟨Af,0,none⟩)]) (K':=(λxr h'=> ∃ x:(Bool) × (Int) × LvA × (Int),(x.1,x.2.1,x.2.2.2)=Es/\xr=(.bool x.1)/\Kst h h' (((Be.L.set 4<|aZ x.2.2.1 x.2.1).set 3 (aB 81 Ae x.2.2.1)).set 2 (aB 3 Af [(.int .i64 x.2.2.2)])))) trivial rfl rfl ?_ λIa Ib Ev=>?_
     ·refine cwf (l:=[_,_,_,_]) Tryz.func86 rfl rfl (AH1<|AP5 Be Cb λIc Id Ie Ad=>AJd<|ATd (Ad.z p5) (Ad.b p4)<|ATd (Ad.z p1) (Ad.b p0) ?_);obtain ⟨⟨Ew,If,Ih⟩,Ey,Cd⟩:=AH2 Et;dsimp only at Cd;refine ASt rfl (Ahz (Ad.z p5).2 (Ad.z p1).2 Ey) λIi Ij Ez Fa=>?_;obtain ⟨Ik,Il,rfl,Fb,Fc⟩:=Fa;obtain ⟨Fd,rfl,Fe⟩:=Fb.cs;obtain ⟨Im,rfl,Ff⟩:=Fc.cs;refine AHy<|AJs rfl rfl (AJs rfl rfl (AJs rfl rfl (ALm (((Ad.e Ez).az Fe).az Ff) [.bool false,.slice none 0 0] ANt λIo Ip Iq Fg=>ALm Fg [.bool false,.slice none 0 0] ANt λIr Fh Is Ce=>AOv Ce p1 (AIo Fh) (Ce.z p3) λFi Cf=>AOv Cf p0 (AIo Fi) (Cf.z p2) λIt Av=>AH7<|AH3<|AH1<|ATd (Av.z p2) (Av.b p0) ?_)));obtain ⟨Iu,Fj,Cg⟩:=AH2 Cd;refine ALx Av (Ajd (Av.z p2).2 Fj) λIv Iw Ai=>AK0 rfl rfl (AH5<|⟨_,rfl,λBf=>?_,λBf=>?_⟩)
      ·refine AH1<|AH7<|AIc<|AIt<|⟨_,AId,((false,Eh,Ei,Ba):(Bool) × (Int) × LvA × (Int)),?_,rfl,?_⟩
       ·exact AH0<|AJb Cg Bf
       ·exact Ai.sel [5,6,7,8,9,10] AHz
      ·refine AIa<|q_t<|AH1<|ATd (Ai.z p3) (Ai.b p1)<|AOv Ai p8 (Ai.z p9) (Ai.z p3) λIx Bg=>AQs<|AI1 AJq rfl ((Bg.b p7).cell (i:=0) rfl) (AHy<|AI0 rfl rfl (AVa [(.int .i64<|w64<|Ba + (w64<|1 * 2 ^ Int.toNat A9))] AJq rfl rfl rfl (Bg.b p7) (Nat.le_of_ble_eq_true rfl) rfl λIy Fk Fl=>AQs ?_));refine AH7<|AIc<|⟨_,AId,((true,Ew,Fd,(w64<|Ba + (w64<|1 * 2 ^ Int.toNat A9))):(Bool) × (Int) × LvA × (Int)),?_,rfl,?_⟩
       ·exact AH0<|AJc Cg Bf
       ·exact (Bg.sb p7 Fl Fk rfl).sel [5,6,7,8,3,10] AHz
     obtain ⟨⟨Iz,I0,I1,I2⟩,Fm,rfl,Fo⟩:=Ev;refine ⟨trivial,?_⟩;subst Fm;refine AIu<|q_b<|q_t<|AIf<|AHy<|AMy rfl rfl (AH7 ?_);exact ⟨(_,_,_,_),(AH0 Eu).symm,Fo.sel [1,2,3,4,5] AHz,rfl,trivial⟩
    ·refine AIq<|AIr<|AIr<|AJt<|q_t<|AH3<|AMw<|AI1 AJq rfl ((Aa.b p1).cell (i:=0) rfl) (ATd (Aa.z p3) (Aa.b p2)<|AIw<|AOv Aa p4 (AIo Ej) (Aa.z p3) λI3 Aw=>AH7<|AIc ?_);obtain rfl:=AH0<|Ek _ (AH0<|AJc Bb Bc).symm;exact ⟨_,Aka AJz (cZ.klen<|Aw.z p3) rfl (Aw.b p4),Aw.x,_,rfl,(Aw.z p3).2⟩
noncomputable def AMf (fuel:Nat) (a3:LiI) (a5:Int):Option Int:=
 (ASj fuel a3).bind λ(x6,x7)=>(AZf fuel x6).bind λ(Ae,Ag)=>(ASk fuel Ae a5).bind λ(Ab,Ah,Ai)=>if a5=2 then some (w64<|Ab + 3) else some<|w64<|Ab + 1
theorem ARq {Ad:Value} {a3:LiI} (H2:ANp (cI .i64) h Ad a3) (HO:Ad2 h) (hp:AMf fuel a3 a5=some r):AI7 Tryz.prog 16 #[Ad,(.int .i64 a5)] h (λx h'=>Ext h h'/\x= .int .i64 r):=by
 unfold AMf at hp;refine cwf (l:=[_,_]) Tryz.func16 rfl rfl (AH1<|AJd<|AHy ?_);have K0:=Kst.k0 h;obtain ⟨⟨x6,x7⟩,Aq,Ah⟩:=AH2 hp;dsimp only at Ah;refine ASt rfl (Aed (H2.ext K0.x) Aq) λBf Bg Ar Au=>?_;obtain ⟨Bh,Bi,Bj,Bl,rfl,Av,Aw⟩:=Au;refine AHy<|AJs rfl rfl (AJs rfl rfl (AIw<|AJd<|AHy ?_));have Ai:=K0.no2 Ar Aw Av;obtain ⟨⟨Bm,Bn⟩,Ax,Aj⟩:=AH2 Ah;dsimp only at Aj;refine ASt rfl (Ait (Ai.o2 p0).rd Ax) λBo Bp Ay Az=>?_;obtain ⟨Bq,rfl,A3⟩:=Az;obtain ⟨Br,rfl,A4⟩:=A3.cs;refine AHy<|AJs rfl rfl (AJs rfl rfl (ALm ((Ai.e Ay).az A4) [.bool false,.slice none 0 0] ANt λBt A5 Bu Ak=>AOv Ak p0 (AIo A5) (Ak.z p1) λBv Aa=>AJd<|ATd (Aa.z p1) (Aa.b p0)<|AHy ?_));obtain ⟨⟨Bw,Bx,By⟩,A6,Ab⟩:=AH2 Aj;dsimp only at Ab;refine ASt rfl (Aef (Aa.z p1).2 (HO.ext Aa.x) A6) λBz B2 A7 A8=>?_;obtain ⟨B3,rfl,A9⟩:=A8;obtain ⟨B4,rfl,Ba⟩:=A9.cs;refine AHy<|AJs rfl rfl (AJs rfl rfl (AJs rfl rfl (ALm ((Aa.e A7).az Ba) [.bool false,.slice none 0 0] ANt λB5 Bb B6 Am=>AIw<|AOv Am p0 (AIo Bb) (Am.z p1) λB7 Ao=>AH7<|AH3<|AH1<|AHy<|AKd rfl rfl (AH5<|⟨_,rfl,λAc=>?_,λAc=>?_⟩))))
 ·refine AH1<|AHy<|AI0 rfl rfl (AH7<|AIc<|AIt ?_);obtain rfl:=AH0<|AJb Ab Ac;exact ⟨_,AId,Ao.x,rfl⟩
 ·refine AIa<|q_t<|AH1<|AHy<|AI0 rfl rfl (AH7<|AIc ?_);obtain rfl:=AH0<|AJc Ab Ac;exact ⟨_,AId,Ao.x,rfl⟩
noncomputable def AUb (fuel:Nat) (a3:LiI) (a5:Int):Option (Int × Int):=
 (AZq fuel a3).bind λx6=>if (!x6)=true then some (0,6) else if ¬ a5=2 then (AVi fuel a5).bind λAd=>if (!Ad)=true then some (0,20) else (AMf fuel a3 a5).bind λAe=>some (Ae,0) else (AMf fuel a3 a5).bind λAf=>some (Af,0)
theorem Adq {Ah:Value} {a3:LiI} {r:(Int × Int)} (H2:ANp (cI .i64) h Ah a3) (HO:Ad2 h) (hp:AUb fuel a3 a5=some r):AI7 Tryz.prog 35 #[Ah,(.int .i64 a5)] h (λx h'=>Ext h h'/\x= .tuple #[.int .i64 r.1,.int .i64 r.2]):=by
 unfold AUb at hp;refine cwf (l:=[_,_]) Tryz.func35 rfl rfl (AH1<|AIw<|AH7<|AH3<|AH1<|AHy ?_);have K0:=Kst.k0 h;obtain ⟨x6,Ap,Ak⟩:=AH2 hp;refine ALx K0 (Af1 (H2.ext K0.x) Ap) λA3 E9 Aa=>AMp rfl (AH5<|⟨_,rfl,λAf=>?_,λAf=>?_⟩)
 ·refine AH1<|AIw<|AH7<|AIc<|AIt ?_;obtain rfl:=AH0<|ifT Ak Af;exact ⟨_,AJu,Aa.x,rfl⟩
 ·refine AIa<|q_t<|AH3<|AH1<|AHy<|AK0 rfl rfl (AHy ?_);have Am:=AQa Ak Af;by_cases Ab: ¬ a5=2
  ·rw [decide_eq_true Ab];refine AIs 11 true<|AHy<|AIs 11 true ?_;obtain ⟨A5,Aq,Ao⟩:=AH2<|ifT Am Ab;refine ALx Aa (Aa7 (HO.ext Aa.x) Aq) λA6 A7 Ac=>AIs 11 true<|AMp rfl (AIm rfl (AH5<|⟨_,rfl,λAg=>?_,λAg=>?_⟩))
   ·refine AH1<|AIw<|AH7<|AIc<|AIt ?_;obtain rfl:=AH0<|ifT Ao Ag;exact ⟨_,AJu,Ac.x,rfl⟩
   ·refine AIa<|q_t<|AH1<|AHy<|AHy ?_;obtain ⟨A8,Ar,Au⟩:=AH2<|AQa Ao Ag;refine ALx Ac (ARq (H2.ext Ac.x) (HO.ext Ac.x) Ar) λA9 Ba Av=>AIw<|AH7<|AIc ?_;obtain rfl:=AH0 Au;exact ⟨_,AJu,Av.x,rfl⟩
  ·rw [decide_eq_false Ab];refine ANe 11 false<|AIn rfl (AH5<|AI6 rfl (AIa<|q_t<|AH1<|AHy<|AHy ?_));obtain ⟨Bb,Aw,Ax⟩:=AH2<|ifF Am Ab;refine ALx Aa (ARq (H2.ext Aa.x) (HO.ext Aa.x) Aw) λBc Be Ay=>AIw<|AH7<|AIc ?_;obtain rfl:=AH0 Ax;exact ⟨_,AJu,Ay.x,rfl⟩
def AXc (fuel:Nat) (a1 a2 s8 s9:Int):Option ((Int × Int) ⊕ Int):=
 if s9 < a2 then some (.inl (w64<|s8 * a1,w64<|s9 + 1)) else some<|.inr s8
def ARi (fuel:Nat) (a1 a2:Int):Option Int:=
 (iter (λs=>AXc fuel a1 a2 s.1 s.2) fuel (1,0)).bind (λ(Ac:Int)=>some Ac)
theorem AXd (hp:ARi fuel a1 a2=some r):AI7 Tryz.prog 15 #[(.int .i64 a1),(.int .i64 a2)] h (λx h'=>Ext h h'/\x= .int .i64 r):=by
 unfold ARi at hp;refine cwf (l:=[_,_]) Tryz.func15 rfl rfl (AH1<|AJd<|AH7<|AH3<|AH1<|AHy<|AHy<|AH5<|AH6 ?_);have K0:=Kst.k0 h;refine APb 8096 hp (λx=>[(5,(.int .i64 x.1)),(7,(.int .i64 x.2))]) (λx=>K0.L) K0 ⟨rfl,rfl,trivial⟩ ?_;rintro ⟨u9,Ai⟩ Aj h6 y5 K8 Aa Ag;unfold AXc at Aa;refine AH1<|AI3 rfl rfl (AH5<|AH3<|⟨_,rfl,λAb=>?_,λAb=>?_⟩)
 ·refine AIa<|q_t<|AH3<|AH6<|AIf<|AHy<|AHy<|APo rfl rfl (AIw<|AIu<|q_b<|q_t<|AIf<|AI0 rfl rfl (AHy<|AH5 ?_));exact ⟨_,(AH0<|AJb Aa Ab).symm,K8,rfl,rfl,trivial⟩
 ·refine AIq<|AIr<|AIr<|AJt<|q_t<|AH1<|AHy<|AH7<|AIc ?_;obtain rfl:=AH0<|Ag _ (AH0<|AJc Aa Ab).symm;exact ⟨_,AId,K8.x,rfl⟩
def AOo (fuel:Nat) (a2 Ab Ac:Int):Option ((Int × Int) ⊕ Int):=
 ((if ¬ Ab=0 then if a2≠0 then if Int.tmod Ab a2=0 then some (.inl ()) else some (.inr ()) else none else some<|.inr ()):Option (Unit ⊕ Unit)).bind (λex=>match ex with | .inl _=>(if a2≠0 then some (.inl (w64<|Int.tdiv Ab a2,w64<|Ac + 1)) else none) | .inr _=>some<|.inr Ac)
def AJk (fuel:Nat) (a1 a2:Int):Option Int:=
 (iter (λs=>AOo fuel a2 s.1 s.2) fuel (a1,0)).bind (λ(Ac:Int)=>some Ac)
theorem ALr (hp:AJk fuel a1 a2=some r):AI7 Tryz.prog 71 #[(.int .i64 a1),(.int .i64 a2)] h (λx h'=>Ext h h'/\x= .int .i64 r):=by
 unfold AJk at hp;refine cwf (l:=[_,_]) Tryz.func71 rfl rfl (AH1<|AJd<|AH7<|AH3<|AH6 ?_);have K0:=Kst.k0 h;refine APb 524257 hp (λx=>[(0,(.int .i64 x.1)),(5,(.int .i64 x.2))]) (λx=>K0.L) K0 ⟨rfl,rfl,trivial⟩ ?_;rintro ⟨u9,Aw⟩ Ax h6 y5 K8 Ah Ai;unfold AOo at Ah;obtain ⟨Ao,Aj,Ac⟩:=AH2 Ah;refine ARb 16320 (λx:Unit=>[]) (λx h'=>(Sum.inl <| ())=Ao/\Kst h h' (K8.L)) ?_ ?_
 ·refine AH1<|AHy<|AK0 rfl rfl (AHy ?_);by_cases Ab: ¬ u9=0
  ·rw [decide_eq_true Ab];refine AIs 8 true<|AHy<|AIs 8 true<|AHy<|AIs 8 true ?_;obtain ⟨Ap,Ak⟩:=ifN<|ifT Aj Ab;refine ALg rfl rfl Ap (AIs 8 true<|AKd rfl rfl (AIm rfl (AH5<|⟨_,rfl,λAd=>?_,λAd=>?_⟩)))
   ·refine AIa<|q_t ?_;exact ⟨(():Unit),⟨AH0<|AJb Ak Ad,K8⟩,trivial⟩
   ·obtain rfl:=AH0<|AJc Ak Ad;refine AIq<|AIr<|AIr<|AJt<|q_t<|AH1<|AHy<|AH7<|AIc ?_;obtain rfl:=AH0<|Ai _ (AH0 Ac).symm;exact ⟨_,AId,K8.x,rfl⟩
  ·rw [decide_eq_false Ab];refine AUi 8 false<|AIn rfl (AH5<|AI6 rfl ?_);obtain rfl:=AH0<|ifF Aj Ab;refine AIq<|AIr<|AIr<|AJt<|q_t<|AH1<|AHy<|AH7<|AIc ?_;obtain rfl:=AH0<|Ai _ (AH0 Ac).symm;exact ⟨_,AId,K8.x,rfl⟩
 rintro ⟨⟩ A3 A4 ⟨Aq,Ar⟩;subst Aq;refine AH6<|AH1<|AHy<|AHy ?_;obtain ⟨Au,Av⟩:=ifN Ac;refine AWz rfl rfl Au (AH7<|AIf<|AHy<|AI0 rfl rfl (AIw<|AIu<|q_b<|q_t ?_));exact ⟨_,(AH0 Av).symm,Ar,rfl,rfl,trivial⟩
def ASv (fuel:Nat) (a1 a2 s8 s9:Int):Option ((Int × Int) ⊕ Int):=
 if s9 < a2 then some (.inl (w64<|s8 * a1,w64<|s9 + 1)) else some<|.inr s8
def ANx (fuel:Nat) (a1 a2:Int):Option Int:=
 (iter (λs=>ASv fuel a1 a2 s.1 s.2) fuel (1,0)).bind (λ(Ac:Int)=>some Ac)
theorem AWb (hp:ANx fuel a1 a2=some r):AI7 Tryz.prog 28 #[(.int .i64 a1),(.int .i64 a2)] h (λx h'=>Ext h h'/\x= .int .i64 r):=by
 unfold ANx at hp;refine cwf (l:=[_,_]) Tryz.func28 rfl rfl (AH1<|AJd<|AH7<|AH3<|AH1<|AH7<|AH6 ?_);have K0:=Kst.k0 h;refine APb 32736 hp (λx=>[(5,(.int .i64 x.1)),(6,(.int .i64 x.2))]) (λx=>K0.L) K0 ⟨rfl,rfl,trivial⟩ ?_;rintro ⟨u9,Ai⟩ Aj h6 y5 K8 Aa Ag;unfold ASv at Aa;refine AH3<|AH1<|AHy<|AHy<|AI3 rfl rfl (AH5<|⟨_,rfl,λAb=>?_,λAb=>?_⟩)
 ·refine AIa<|q_t<|AH3<|AH6<|AIf<|AHy<|AHy<|APo rfl rfl (AIw<|AIu<|q_b<|q_t<|AIf<|AHy<|AI0 rfl rfl (AH7 ?_));exact ⟨_,(AH0<|AJb Aa Ab).symm,K8,rfl,rfl,trivial⟩
 ·refine AIq<|AIr<|AIr<|AJt<|q_t<|AH1<|AHy<|AH7<|AIc ?_;obtain rfl:=AH0<|Ag _ (AH0<|AJc Aa Ab).symm;exact ⟨_,AId,K8.x,rfl⟩
def AQp (fuel:Nat) (a3:LiI):Option Int:=
 (ALn fuel a3).bind λx5=>(AKb fuel x5).bind λAc=>(Am6 fuel Ac).bind λ(Ad,Ae)=>some Ad
theorem Ac7 {Aa:Value} {a3:LiI} (H2:ANp (cI .i64) h Aa a3) (hp:AQp fuel a3=some r):AI7 Tryz.prog 72 #[Aa] h (λx h'=>Ext h h'/\x= .int .i64 r):=by
 unfold AQp at hp;refine cwf (l:=[_]) Tryz.func72 rfl rfl (AH1<|AJd<|AHy ?_);have K0:=Kst.k0 h;obtain ⟨x5,Ah,Ai⟩:=AH2 hp;refine AWs K0 (APc (H2.ext K0.x) Ah) λAq Ar Au Av h9 E8 Ad=>?_;obtain ⟨Ay,Aj,Ak⟩:=AH2 Ai;refine AWr Ad (ALy (Ad.o2 p0).rd Aj) λAz A3 A4 Ae=>?_;obtain ⟨⟨A5,A6⟩,Am,Af⟩:=AH2 Ak;dsimp only at Af;refine ALx Ae (Ao5 (Ae.z p0).2 Am) λA7 A8 Ao=>AHy<|AJs rfl rfl (AJs rfl rfl (AIw<|AJd<|AHy<|AH7<|AIc ?_));obtain rfl:=AH0 Af;exact ⟨_,AId,Ao.x,rfl⟩
def AOz (fuel:Nat) (a3:LiI) (a5:Int):Option Int:=
 (AQp fuel a3).bind λx6=>(AJk fuel x6 a5).bind λAb=>if a5=2 then some (w64<|Ab + 3) else some<|w64<|Ab + 1
theorem Aao {Ab:Value} {a3:LiI} (H2:ANp (cI .i64) h Ab a3) (hp:AOz fuel a3 a5=some r):AI7 Tryz.prog 27 #[Ab,(.int .i64 a5)] h (λx h'=>Ext h h'/\x= .int .i64 r):=by
 unfold AOz at hp;refine cwf (l:=[_,_]) Tryz.func27 rfl rfl (AH1<|AJd<|AHy ?_);have K0:=Kst.k0 h;obtain ⟨x6,Ai,Aj⟩:=AH2 hp;refine ALx K0 (Ac7 (H2.ext K0.x) Ai) λAp E9 Ak=>AHy ?_;obtain ⟨Ar,Am,Af⟩:=AH2 Aj;refine ALx Ak (ALr Am) λAu Av Ag=>AH7<|AH3<|AH1<|AHy<|AKd rfl rfl (AH5<|⟨_,rfl,λAa=>?_,λAa=>?_⟩)
 ·refine AH1<|AHy<|AI0 rfl rfl (AH7<|AIc<|AIt ?_);obtain rfl:=AH0<|AJb Af Aa;exact ⟨_,AId,Ag.x,rfl⟩
 ·refine AIa<|q_t<|AH1<|AHy<|AI0 rfl rfl (AH7<|AIc ?_);obtain rfl:=AH0<|AJc Af Aa;exact ⟨_,AId,Ag.x,rfl⟩
def AN7 (fuel:Nat) (a1:Int):Option Int:=
 (gI ([3,5,7,11,13,17,19,23]:List Int)<|Int.tmod a1 8).bind λAb=>some Ab
theorem AZh (hp:AN7 fuel a1=some r):AI7 Tryz.prog 4 #[(.int .u8 a1)] h (λx h'=>Ext h h'/\x= .int .i64 r):=by
 unfold AN7 at hp;refine cwf (l:=[_]) Tryz.func4 rfl rfl (AH1<|AJd<|Ahp (κ:= .i64) [3,5,7,11,13,17,19,23] AIi ARy rfl rfl trivial tt2 rfl rfl rfl rfl λb2 v3 h4 I5 E6 Af Ag=>AHy<|ALg rfl rfl AHz ?_);have Aa:=(Kst.k0 h).no E6 (ANs Af Ag) I5;obtain ⟨Aq,Ac,Ah⟩:=AH2 hp;refine Afn AIi rfl (Aa.o p0) rfl Ac λAr Ai=>?_;obtain ⟨Au,Aj,Ak⟩:=(Aa.o p0).cells Ai Ac;obtain rfl:=Aj;refine AI1 AIg rfl (Ak 0 _ rfl) (AH7<|AIc ?_);obtain rfl:=AH0 Ah;exact ⟨_,AId,Aa.x,rfl⟩
def AJl (fuel:Nat) (a1 a2:Int):Option Int:=
 if a2≠0 then if Int.tmod a1 a2 < 0 then some (w64<|Int.tmod a1 a2 + a2) else some (Int.tmod a1 a2) else none
theorem AK4 (hp:AJl fuel a1 a2=some r):AI7 Tryz.prog 73 #[(.int .i64 a1),(.int .i64 a2)] h (λx h'=>Ext h h'/\x= .int .i64 r):=by
 unfold AJl at hp;refine cwf (l:=[_,_]) Tryz.func73 rfl rfl (AH1<|AJd<|AHy<|AHy ?_);have K0:=Kst.k0 h;obtain ⟨Af,Ae⟩:=ifN hp;refine ALg rfl rfl Af (AH7<|AH3<|AH1<|AHy<|AI3 rfl rfl (AH5<|⟨_,rfl,λAa=>?_,λAa=>?_⟩))
 ·refine AIf<|AHy<|AHy<|AI0 rfl rfl (AJd<|AHy<|AH7<|AIc ?_);obtain rfl:=AH0<|AJb Ae Aa;exact ⟨_,AId,K0.x,rfl⟩
 ·refine AIa<|q_t<|AH1<|AHy<|AH7<|AIc ?_;obtain rfl:=AH0<|AJc Ae Aa;exact ⟨_,AId,K0.x,rfl⟩
def AO8 (fuel:Nat) (a5:Int) (Ac Aa:LiA) (Ab:Int):Option ((LiA × Int) ⊕ LiA):=
 if Ab < (Ac.length:Int) then (gI Ac Ab).bind λAe=>(AJl fuel Ae a5).bind λAf=>if Aa.length<=100000000 then some (.inl (Aa ++ [Af],w64<|Ab + 1)) else none else some<|.inr Aa
def AR9 (fuel:Nat) (a3:LiI) (a5:Int) (Aa:LiI) (Ab:Int):Option ((LiI × Int) ⊕ LiI):=
 if Ab < (a3.length:Int) then (gI a3 Ab).bind λAe=>(iter (λs=>AO8 fuel a5 Ae s.1 s.2) fuel ([],0)).bind (λ(Af:LiA)=>if Aa.length<=100000000 then some (.inl (Aa ++ [Af],w64<|Ab + 1)) else none) else some<|.inr Aa
def AMg (fuel:Nat) (a3:LiI) (a5:Int):Option LiI:=
 (iter (λs=>AR9 fuel a3 a5 s.1 s.2) fuel ([],0)).bind (λ(Ac:LiI)=>some Ac)
theorem Aap {Ag:Value} {a3:LiI} {r:LiI} (H2:ANp (cI .i64) h Ag a3) (hp:AMg fuel a3 a5=some r):AI7 Tryz.prog 29 #[Ag,(.int .i64 a5)] h (λx h'=>Ext h h'/\ ∃ (x0:Value) (F0:List Nat) (Av:List LnA) (Aw:List Value),x=x0/\ALl (cI .i64) 41 2 h' F0 Av Aw x0 r/\Sp h' h.size [F0]):=by
 unfold AMg at hp;refine cwf (l:=[_,_]) Tryz.func29 rfl rfl (AH1<|AJd<|AH7<|AH3<|AH1<|AHy<|AJh AIk rfl H2 (AHy<|AH5<|AH6 ?_));have K7:=Kst.anil2 (cI .i64) 41 2<|Kst.k0 h;refine AOq 34359731616 (λx:(LiI) × (Value) × LnA × LnN × LvA × (Int)=>(x.1,x.2.2.2.2.2)) (([],(.slice none 0 0),[],[],[],0):(LiI) × (Value) × LnA × LnN × LvA × (Int)) hp (λx=>[(5,x.2.1),(13,(.int .i64 x.2.2.2.2.2))]) (λx=>K7.L.set 0<|aO2 (cI .i64) 41 2 x.2.2.1 x.2.2.2.1 x.2.2.2.2.1 x.2.1 x.1) K7 ⟨rfl,rfl,trivial⟩ ?_;rintro ⟨Bj,Bl,Bm,Bn,Bo,Bp⟩ Bq Br Bt Ab Ac Ax;unfold AR9 at Ac;refine AH1<|AI3 rfl rfl (AH5<|AH3<|⟨_,rfl,λAd=>?_,λAd=>?_⟩)
 ·refine AIa<|q_t<|AH3<|AH6<|AH1 ?_;obtain ⟨Bu,Ay,Az⟩:=AH2<|AJb Ac Ad;refine ATc AIk AIv H2 Ab.x Ay λ_ Bv Ap=>AJd<|AH7<|AH3<|AH1<|AHy<|AJ8 AIi rfl Ap (AHy<|AH5<|AH6 ?_);have Aq:=Kst.anil (cI .i64) 2 Ab;refine AOq 1073218816 (λx:(LiA) × (Value) × LnA × (Int)=>(x.1,x.2.2.2)) (([],(.slice none 0 0),[],0):(LiA) × (Value) × LnA × (Int)) Az (λx=>[(8,x.2.1),(19,(.int .i64 x.2.2.2))]) (λx=>Aq.L.set 0<|aO (cI .i64) 2 x.2.2.1 x.2.1 x.1) Aq ⟨rfl,rfl,trivial⟩ ?_;rintro ⟨Bw,Bx,By,Bz⟩ B2 B3 B4 Aa Ae A3;unfold AO8 at Ae;refine AH1<|AI3 rfl rfl (AH5<|AH3<|⟨_,rfl,λAf=>?_,λAf=>?_⟩)
  ·refine AIa<|q_t<|AH3<|AH6<|AH1 ?_;obtain ⟨B5,A4,A5⟩:=AH2<|AJb Ae Af;refine Aii AIi AIg Ap Aa.x A4 λ_=>(AH7<|AIf<|AHy<|AHy<|AHy ?_);obtain ⟨Ar,A6,A7⟩:=AH2 A5;refine ALx Aa (AK4 A6) λB6 B7 Au=>?_;obtain ⟨A8,A9⟩:=ifN A7;refine ASg AIi ARy rfl rfl trivial tt2 (λ_=>rfl) rfl (show ((cI .i64)).rep _ Ar [(.int .i64 Ar)] from rfl) (Au.o p0) AHz A8 λB8 B9 Ca Cb Ba Bb Bc=>AIw<|AIu<|q_b<|q_t<|AIf<|AI0 rfl rfl (AHy<|AH5 ?_);exact ⟨(_,_,_,_),(AH0 A9).symm,(Au.uo p0 Bb Ba Bc),rfl,rfl,trivial⟩
  ·refine AIq<|AIr<|AIr<|AJt<|q_t<|AIf<|AHy<|AHy ?_;obtain ⟨Be,Bf⟩:=ifN<|A3 _ (AH0<|AJc Ae Af).symm;refine Ai0 AIk AU9 rfl rfl trivial tt2 (λ_=>rfl) rfl (Aa.o p0) (Aa.o2 p1) (Aa.dj p0 p1 AHz) AHz Be λCd Ce Cf Cg Bg Bh Bi=>AIw<|AIu<|q_b<|q_t<|AIf<|AI0 rfl rfl (AHy<|AH5 ?_);exact ⟨(_,_,_,_,_,_),(AH0 Bf).symm,(Aa.m2 p0 p1 AHz Bh Bg Bi).sel [1] AHz,rfl,rfl,trivial⟩
 ·refine AIq<|AIr<|AIr<|AJt<|q_t<|AH1<|AHy<|AH7<|AIc ?_;obtain rfl:=AH0<|Ax _ (AH0<|AJc Ac Ad).symm;exact ⟨_,AId,Ab.x,_,_,_,_,rfl,(Ab.o2 p0),Ab.s.sel [0] AHz⟩
end Go.Proofs.YtegoafpaljeobaaGreatDoor
namespace Go.QF
theorem Agx:∀ {n:Nat} {m:Int} {F G:AIe},(∀ i j,i < n->j < n->Eqm m (F i j) (G i j))->Eqm m (det n F) (det n G):=by
 intro n m
 induction n with
 | zero=>intro _ _ _;rfl
 | succ n ih=>
   intro F G h
   refine Eqm.psum λi hi=>?_
   exact ((Eqm.refl _ _).mul (h i 0 hi AHx)).mul (ih (F:=AMx i F) (G:=AMx i G) λa b ha hb=>h _ _ (Ax7 ha) AHx)
end Go.QF
namespace Go.Proofs.YtegoafpaljeobaaGreatDoor
theorem Ay0 {m:Int} (hm:0 < m) (Ab:m<=2147483647):AJl fuel a m=some (a % m):=by
 unfold AJl;rw [if_pos AHx];have h1:=Int.tmod_lt_of_pos a hm
 have h2: -m < Int.tmod a m:=by
  have:=Int.tmod_lt_of_pos (-a) hm
  rw [Int.neg_tmod] at this;omega
 have h3:Int.tmod a m=a % m∨Int.tmod a m=a % m - m:=by
  grind
 have h4:=Int.emod_nonneg a (by omega:m≠0);have h5:=Int.emod_lt_of_pos a hm;rcases h3 with h3 | h3
 ·grind
 ·rw [if_pos AHx,wk AHx];congr 1;omega
theorem Avu {row:List Int} {m:Int} (hm:0 < m) (Aa:m<=2147483647) (hl:row.length<=100000000) (hf:row.length < fuel):iter (λs=>AO8 fuel m row s.1 s.2) fuel ([],0)=some (row.map (· % m)):=by
 apply ok_eq;refine AJg (λi s=>s=((row.take i).map (· % m),(i:Int))) row.length AI9 hf λi s hi hI=>?_;subst hI;unfold AO8;dsimp only;refine AI4 (λh=>?_) λh=>AH4 ?_
 ·obtain ⟨x,hx⟩:∃ x,row[i]? =some x:=⟨row[i]'AHx,List.getElem?_eq_getElem _⟩;refine AI8 hx rfl (AH9 (AJ2<|Ay0 hm Aa) λy hy=>AJ4 (by simp;omega)<|AH4 ⟨AHx,?_⟩);subst hy;rw [wk AHx,List.take_add_one,hx];simp
 grind
theorem Ay1 {A:List (List Int)} {m:Int} (hm:0 < m) (Aa:m<=2147483647) (hl:A.length<=100000000) (hf:A.length < fuel) (hr:∀ z∈A,z.length<=100000000/\z.length < fuel):AMg fuel A m=some (Aoo A m):=by
 apply ok_eq;unfold AMg;refine AH9 (AJg (λi s=>s=(Aoo (A.take i) m,(i:Int))) A.length (Q:=(· =Aoo A m)) (by simp [Aoo]) hf λi s hi hI=>?_) λx hx=>AH4 hx;subst hI;unfold AR9;dsimp only;refine AI4 (λh=>?_) λh=>AH4 ?_
 ·have hi':i < A.length:=by omega
  obtain ⟨row,hrow⟩:∃ row,A[i]? =some row:=⟨A[i],List.getElem?_eq_getElem hi'⟩;have:=hr row<|List.mem_of_getElem? hrow;refine AI8 hrow rfl (AH9 (AJ2<|Avu hm Aa this.1 this.2) λy hy=>AJ4 (by simp [Aoo];omega)<|AH4 ⟨hi',?_⟩);subst hy;rw [wk AHx,List.take_add_one,hrow];simp [Aoo]
 grind
end Go.Proofs.YtegoafpaljeobaaGreatDoor
namespace Go.QF
def Ah2 (n:Nat) (F:AIe) (i j:Nat):Int:=det n<|AKi F i<|dl j
def ARj (n:Nat) (F:AIe) (i j:Nat):Int:=Ah2 n F j i
def tau (j c:Nat):Nat:=if c=j then j + 1 else if c=j + 1 then j else c
theorem Aks {n:Nat} (hj:j + 1 < n):det n (λr c=>F r<|tau j c)= -det n F:=by
 rw [<- ARh (λr c=>F r<|tau j c),<- ARh F,<- AZ8 (F:=trF F) (a:=j) (b:=j + 1) AHx hj AHx];refine AJm λc r hc hr=>?_;rw [AVu];show F r (tau j c)=if c=j + 1 then F r j else if c=j then F r (j + 1) else F r c;unfold tau;by_cases h1:c=j + 1
 ·subst h1;simp
 ·by_cases h2:c=j
  ·subst h2;simp
  ·simp [h1,h2]
theorem ASc {n a:Nat} (ha:a < n) (h:∀ i,i < n->i≠a->f i=0):psum f n=f a:=by
 rw [AIl (g:=λi=>if i=a then f a else 0) λk hk=>?_,ATl ha λi hi=>if_neg hi,if_pos rfl];by_cases e:k=a
 ·subst e;rw [if_pos rfl]
 ·rw [if_neg e,h k hk e]
theorem Al9 {n:Nat}:∀ {j:Nat} {F:AIe} {i:Nat},i < n + 1->j < n + 1->Ah2 (n + 1) F i j=sg i * sg j * det n (λa b=>F (skp i a)<|skp j b):=by
 intro j
 induction j with
 | zero=>
   intro F i hi hj
   unfold Ah2
   simp only [det]
   rw [ASc hi λr hrn hr=>?_]
   ·rw [AJa,if_pos rfl,Adn]
    have:det n (AMx i F)=det n (λa b=>F (skp i a)<|skp 0 b):=AJm λa b _ _=>by unfold AMx skp;simp
    rw [this]
    simp [dl,sg]
   ·have:det n (AMx r<|AKi F i<|dl 0)=0:=by
     rw [Ac4 λh=>hr h.symm]
     refine AXa (r:=usk r i) (Ax8 (λh=>hr h.symm) hrn hi) λq _=>?_
     rw [AJa,if_pos rfl];simp [dl]
    rw [this];simp
 | succ j ih=>
   intro F i hi hj
   have h1:=ih (F:=λr c=>F r<|tau j c) (i:=i) hi AHx
   have h2:Ah2 (n + 1) (λr c=>F r<|tau j c) i j= -Ah2 (n + 1) F i (j + 1):=by
    unfold Ah2
    rw [<- Aks (F:=AKi F i<|dl<|j + 1) AHx]
    refine AJm λr c _ _=>?_
    rw [AJa,AJa]
    split
    ·unfold dl tau
     by_cases h1:c=j
     ·subst h1;simp
     ·by_cases h2:c=j + 1
      ·subst h2;simp
      ·rw [if_neg λh=>h1 h.symm,if_neg h1,if_neg h2,if_neg λh=>h2 h.symm]
    ·rfl
   have h3:(λa b=>F (skp i a)<|tau j<|skp j b)=λa b=>F (skp i a) (skp (j + 1) b):=by
    funext a b
    congr 1
    unfold tau skp
    by_cases h1:b < j
    ·rw [if_pos h1,if_neg AHx,if_neg AHx,if_pos AHx]
    ·rw [if_neg h1]
     by_cases h2:b=j
     ·subst h2;rw [if_neg AHx,if_pos rfl,if_pos AHx]
     ·rw [if_neg AHx,if_neg AHx,if_neg AHx]
   rw [h2,h3] at h1
   rw [Atc]
   have:Ah2 (n + 1) F i (j + 1)= -(sg i * sg j * det n λa b=>F (skp i a)<|skp (j + 1) b):=by omega
   rw [this];grind
theorem A5e {n:Nat} (hi:i < n) (hj:j < n):Ah2 n (trF F) i j=Ah2 n F j i:=by
 obtain ⟨k,rfl⟩:∃ k,n=k + 1:=⟨n - 1,AHx⟩;rw [Al9 hi hj,Al9 hj hi,<- ARh (λa b=>F (skp j a)<|skp i b),Int.mul_comm<|sg i];rfl
theorem Atp {n:Nat} (hi:i < n) (hj:j < n):psum (λk=>F i k * Ah2 n F j k) n=if i=j then det n F else 0:=by
 have h:=Akf (F:=F) hj (F i) dl n
 have e:det n (AKi F j λq=>psum (λk=>F i k * dl k q) n)=det n (AKi F j<|F i):=AJm λr c _ hc=>by
  rw [AJa,AJa]
  split
  ·exact Arp (F:=F) (i:=i) hc
  ·rfl
 unfold Ah2;rw [<- h,e];split
 ·subst_vars
  refine AJm λr c _ _=>?_;rw [AJa];split
  ·subst_vars;rfl
  ·rfl
 ·rename_i hij;refine AWq hi hj hij ?_;funext c;rw [AJa,if_neg hij,AJa,if_pos rfl]
theorem A2g {n:Nat} (hi:i < n) (hj:j < n):psum (λk=>Ah2 n F k i * F k j) n=if i=j then det n F else 0:=by
 have h:=Atp (F:=trF F) hj hi;rw [ARh] at h;rw [AIl (g:=λk=>trF F j k * Ah2 n (trF F) i k) (λk hk=>by rw [A5e hi hk,Int.mul_comm];rfl),h];by_cases e:i=j
 ·rw [if_pos e,if_pos e.symm]
 ·rw [if_neg e,if_neg λh=>e h.symm]
theorem Ab3 {n:Nat} (hi:i < n) (hj:j < n):psum (λk=>F i k * ARj n F k j) n=det n F * dl i j:=by
 unfold ARj;rw [Atp hi hj];unfold dl;split <;> simp
theorem Apr {n:Nat} (hi:i < n) (hj:j < n):psum (λk=>ARj n F i k * F k j) n=det n F * dl i j:=by
 unfold ARj;rw [A2g hi hj];unfold dl;split <;> simp
end Go.QF
namespace Go.Proofs.YtegoafpaljeobaaGreatDoor
theorem Aps {n r c:Nat} {f g:Nat->Nat} (hr:r<=100) (hc:c<=100) (hf:100 < fuel) (hfn:∀ a,a < r->f a < n) (hgn:∀ a,a < c->g a < n):ANh fuel (tab n n F) (AK7 r λa=>(f a:Int)) (AK7 c λa=>(g a:Int))=some (tab r c λa b=>F (f a)<|g b):=by
 apply ok_eq;unfold ANh;refine AH9 (AJg (λi s=>s=(AK7 i λa=>AK7 c λb=>F (f a)<|g b,(i:Int))) r (Q:=(· =tab r c λa b=>F (f a)<|g b)) rfl AHx λi s hi hI=>?_) λy hy=>AH4 hy;subst hI;unfold AR2;dsimp only;rw [AJ5];refine AI4 (λh=>?_) λh=>AH4 ?_
 ·have hi':i < r:=by omega
  refine AI8 (AI5 hi') rfl (AH9 (AJg (λj s=>s=(AK7 j λb=>F (f i)<|g b,(j:Int))) c (Q:=(· =AK7 c λb=>F (f i)<|g b)) rfl AHx λj s hj hJ=>?_) λe he=>AJ4 (by rw [AJ5];omega)<|AH4 ⟨hi',?_⟩)
  ·subst hJ;unfold AR1;dsimp only;rw [AJ5,AJ5];refine AI4 (λh2=>?_) λh2=>AH4 ?_
   ·have hj':j < c:=by omega
    refine AI8 (AI5 hj') rfl (AI8 (AJo<|hfn i hi') rfl (AI8 (AI5<|hgn j hj') rfl (AJ4 AHx<|AH4 ⟨hj',?_⟩)));rw [wk AHx,<- AX3];rfl
   ·obtain rfl:j=c:=by omega
    rfl
  ·subst he;rw [wk AHx,<- AX3];rfl
 ·obtain rfl:i=r:=by omega
  rfl
theorem Ama {n:Nat} (hn:1<=n) (Ad:n<=16) (hf:100 < fuel):ANg fuel (tab n n F)=some ((n:Int),true):=by
 apply ok_eq;unfold ANg;refine AH9 (Q:=(· =((n:Int),(n:Int),true))) ?_ λe he=>?_
 ·unfold ALf;rw [AJf];refine AH9 (Q:=λex=>match ex with | .inl _=>False | .inr _=>True) (AI4 (λh=>by omega) λh=>AI4 (λh2=>by omega) λh2=>AH4 trivial) λex hex=>?_
  cases ex with
  | inl e=>exact hex.elim
  | inr u=>
    dsimp only
    refine AH9 (AJg (λi (s:Int)=>s=i) n (Q:=λex=>match ex with | .inl _=>False | .inr _=>True) rfl AHx λi s hi hI=>?_) λex hex=>?_
    ·subst hI
     unfold APs
     rw [AJf]
     refine AI4 (λh=>AI8 (AJo AHx) rfl ?_) λh=>AH4 trivial
     rw [AJ5]
     refine AI4 (λh2=>by omega) λh2=>AI4 (λh3=>by omega) λh3=>AI8 (n:=0) (AJo AHx) rfl (AI4 (λh4=>?_) λh4=>AH4 ⟨AHx,wk AHx⟩)
     rw [AJ5] at h4;omega
    ·cases ex with
     | inl e=>exact hex.elim
     | inr u=>exact AI8 (n:=0) (AJo AHx) rfl (AH4<|by rw [AJ5])
 ·subst he;dsimp only;exact AI4 (λh=>by cases h) λ_=>AI4 (λh=>absurd rfl h) λ_=>AH4 rfl
end Go.Proofs.YtegoafpaljeobaaGreatDoor
namespace Go.QF
def AS2 (n:Nat) (A:AIe):Prop:= ∀ i j,i < n->j < n->A i j=A j i
def AVl (n:Nat) (A:AIe):Prop:= ∀ k,k<=n->0 < det k A
theorem AXe {r n:Nat} (hk:k<=n) (hi:i < n):bro k i r < n:=by unfold bro;split <;> omega
theorem Ary {n:Nat} (hs:AS2 n A) (hk:k<=n) (hi:i < n) (hj:j < n):Mn k A i j=Mn k A j i:=by
 unfold Mn;rw [<- ARh];refine AJm λr c _ _=>?_;exact hs _ _ (AXe hk hi)<|AXe hk hj
theorem Arz (A:AIe) (j:Nat) (hi:i < k):Mn k A i j=0:=by
 unfold Mn;refine AWq (a:=i) (b:=k) AHx AHx AHx ?_;funext c;unfold bro;simp [hi]
def bil (n k:Nat) (A:AIe) (x y:Nat->Int):Int:=psum (λi=>psum (λj=>Mn k A i j * x i * y j) n) n
def lin (n k:Nat) (A:AIe) (x:Nat->Int):Int:=psum (λj=>Mn k A k j * x j) n
theorem Avv (f g:Nat->Int) (n:Nat):psum (λi=>psum (λj=>f i * g j) n) n=psum f n * psum g n:=by
 rw [AIl (g:=λi=>psum g n * f i) (λi _=>by rw [ALz,Int.mul_comm]),ALz,Int.mul_comm]
theorem A8f {n:Nat} (hs:AS2 n A) (hk:k < n) (h0:det k A≠0) (x y:Nat->Int):det (k + 1) A * bil n k A x y=lin n k A x * lin n k A y + det k A * bil n (k + 1) A x y:=by
 unfold bil;rw [<- ALz,<- ALz];have e1:lin n k A x * lin n k A y=psum (λi=>psum (λj=>Mn k A k i * x i * (Mn k A k j * y j)) n) n:=(Avv (λi=>Mn k A k i * x i) (λj=>Mn k A k j * y j) n).symm;rw [e1,<- ATk];refine AIl λi hi=>?_;rw [<- ALz,<- ALz,<- ATk];refine AIl λj hj=>?_;have h:=Ae0 (k:=k) (A:=A) h0 i j;rw [ARp,Ary hs AHx hi hk] at h;grind
theorem A2h (n:Nat) (A:AIe) (x y:Nat->Int):bil n n A x y=0:=by
 unfold bil;rw [AIl (g:=λ_=>0) λi hi=>?_]
 ·exact AM0 n
 ·rw [AIl (g:=λ_=>0) λj _=>by rw [Arz A j hi];simp];exact AM0 n
theorem AX6 {n:Nat} (hs:AS2 n A) (hp:AVl n A) (x:Nat->Int):∀ d k,k + d=n->0<=bil n k A x x:=by
 intro d
 induction d with
 | zero=>
    intro k hk;obtain rfl:k=n:=by omega
    rw [A2h];omega
 | succ d ih=>
   intro k hk
   have h1:=ih (k + 1) AHx
   have h2:=hp k AHx
   have h3:=hp (k + 1) AHx
   have h4:=A8f hs (show k < n by omega) AHx x x
   have h5:0<=lin n k A x * lin n k A x:=by
    rcases Int.le_total 0 (lin n k A x) with h | h
    ·exact Int.mul_nonneg h h
    ·exact Int.mul_nonneg_of_nonpos_of_nonpos h h
   have h6:=Int.mul_nonneg (Int.le_of_lt h2) h1
   exact Int.nonneg_of_mul_nonneg_right AHx h3
theorem Anj {n:Nat} (a b:Int) (x y z:Nat->Int):bil n k A (λi=>a * x i + b * y i) z=a * bil n k A x z + b * bil n k A y z:=by
 unfold bil;rw [<- ALz,<- ALz,<- ATk];refine AIl λi _=>?_;rw [<- ALz,<- ALz,<- ATk];grind
theorem Ank {n:Nat} (hs:AS2 n A) (hk:k<=n) (x y:Nat->Int):bil n k A x y=bil n k A y x:=by
 unfold bil;rw [AZm];refine AIl λj hj=>AIl λi hi=>?_;rw [Ary hs hk hi hj];grind
theorem Ay2 {n:Nat} (hs:AS2 n A) (hp:AVl n A) (hk:k<=n) (x y:Nat->Int):bil n k A x y * bil n k A x y<=bil n k A x x * bil n k A y y:=by
 obtain ⟨p,hpq⟩:∃ p,bil n k A x y=p:=⟨_,rfl⟩;obtain ⟨q,hq⟩:∃ q,bil n k A x x=q:=⟨_,rfl⟩;obtain ⟨r,hr⟩:∃ r,bil n k A y y=r:=⟨_,rfl⟩;have hyx:bil n k A y x=p:=by rw [Ank hs hk];exact hpq
 have key:∀ a b:Int,0<=a * (a * q + b * p) + b * (a * p + b * r):=λa b=>by
  have h:=AX6 hs hp (λi=>a * x i + b * y i) (n - k) k AHx;rw [Anj,Ank hs hk x λi=>a * x i + b * y i,Anj,Ank hs hk y λi=>a * x i + b * y i,Anj,hpq,hq,hr,hyx] at h;exact h
 rw [hpq,hq,hr];have hq0:0<=q:=hq ▸ AX6 hs hp x (n - k) k AHx
 rcases Int.lt_or_eq_of_le hq0 with h | h
 ·have h1:=key p<|-q;have e:p * (p * q + -q * p) + -q * (p * p + -q * r)=q * (q * r - p * p):=by grind
  rw [e] at h1;have:=Int.nonneg_of_mul_nonneg_right h1 h;omega
 ·subst h;have h1:=key (-(r + 1)) p;have h2:=key 1 0;have e: -(r + 1) * (-(r + 1) * 0 + p * p) + p * (-(r + 1) * p + p * r)= -((r + 2) * (p * p)):=by grind
  rw [e] at h1;have hr0:0<=r:=hr ▸ AX6 hs hp y (n - k) k AHx
  have hpp:0<=p * p:=by
   rcases Int.le_total 0 p with h | h
   ·exact Int.mul_nonneg h h
   ·exact Int.mul_nonneg_of_nonpos_of_nonpos h h
  have:0<=r * (p * p):=Int.mul_nonneg hr0 hpp;grind
theorem Agy {n:Nat} (hi:i < n) (hj:j < n):bil n k A (dl i) (dl j)=Mn k A i j:=by
 unfold bil;rw [ASc hi λa ha hne=>?_,ASc hj λb hb hne=>?_]
 ·simp [dl]
 ·unfold dl;grind
 ·rw [AIl (g:=λ_=>0) λb _=>by unfold dl;grind];exact AM0 n
theorem Ah3 {n:Nat} (hs:AS2 n A) (hp:AVl n A) (hk:k<=n) (hi:i < n) (hj:j < n):Mn k A i j * Mn k A i j<=Mn k A i i * Mn k A j j:=by
 have:=Ay2 hs hp hk (dl i)<|dl j;rwa [Agy hi hj,Agy hi hi,Agy hj hj] at this
theorem Ah4 {n:Nat} (hs:AS2 n A) (hp:AVl n A) (hk:k<=n) (hi:i < n):0<=Mn k A i i:=by
 have:=AX6 hs hp (dl i) (n - k) k AHx;rwa [Agy hi hi] at this
theorem Anl {n:Nat} (hs:AS2 n A) (hp:AVl n A) (hk:k < n) (hi:i < n):det (k + 1) A * Mn k A i i=Mn k A i k * Mn k A i k + det k A * Mn (k + 1) A i i:=by
 have h:=Ae0 (k:=k) (A:=A) (by have:=hp k AHx;omega) i i;rw [ARp,<- Ary hs AHx hi hk] at h;omega
theorem Ay3 {n:Nat} (hs:AS2 n A) (hp:AVl n A) (hi:i < n):∀ k,k<=n->Mn k A i i<=det k A * A i i:=by
 intro k
 induction k with
 | zero=>intro _;rw [AU1];simp [det]
 | succ k ih=>
   intro hk
   have h1:=ih AHx
   have h2:=Anl hs hp (show k < n by omega) hi
   have h3:0<=Mn k A i k * Mn k A i k:=by
    rcases Int.le_total 0 (Mn k A i k) with h | h
    ·exact Int.mul_nonneg h h
    ·exact Int.mul_nonneg_of_nonpos_of_nonpos h h
   have h4:=hp k AHx
   have h5:=hp (k + 1) AHx
   have h6:det (k + 1) A * Mn k A i i<=det (k + 1) A * (det k A * A i i):=Int.mul_le_mul_of_nonneg_left h1 AHx
   have h7:det k A * Mn (k + 1) A i i<=det k A * (det (k + 1) A * A i i):=by
    grind
   simp_all
theorem Apt {n:Nat} (hs:AS2 n A) (hp:AVl n A) {B:Int} (hB:1<=B) (hA:∀ i,i < n->A i i<=B):∀ k,k<=n->det k A<=B ^ k:=by
 intro k;induction k with
 | zero=>intro _;simp [det]
 | succ k ih=>
   intro hk;have h1:=ih AHx;have h2:=Ay3 hs hp (show k < n by omega) k AHx;rw [ARp] at h2;have h3:=hp k AHx;have h4:det k A * A k k<=det k A * B:=Int.mul_le_mul_of_nonneg_left (hA k AHx) AHx;have h5:det k A * B<=B ^ k * B:=Int.mul_le_mul_of_nonneg_right h1 AHx;grind
theorem Atq {n:Nat} (hs:AS2 n A) (hp:AVl n A) (x:Nat->Int) (hk:k < n):x k * x k<=ARj n A k k * bil n 0 A x x:=by
 have hd:=hp n<|Nat.le_refl _
 have hB:∀ y z:Nat->Int,bil n 0 A y z=psum (λi=>y i * psum (λj=>A i j * z j) n) n:=λy z=>by
  unfold bil;refine AIl λi _=>?_;rw [<- ALz];exact AIl λj _=>by rw [AU1];grind
 have h1:∀ y:Nat->Int,bil n 0 A y (λj=>ARj n A j k)=det n A * y k:=λy=>by
  rw [hB,AIl (g:=λi=>y i * (det n A * dl i k)) λi hi=>by rw [Ab3 hi hk]];rw [ASc hk (λi _ hne=>by unfold dl;grind)];simp [dl,Int.mul_comm]
 have h2:=Ay2 hs hp (Nat.zero_le n) x λj=>ARj n A j k;rw [h1 x,h1 λj=>ARj n A j k] at h2;have e1:det n A * x k * (det n A * x k)=det n A * (det n A * (x k * x k)):=by grind
 have e2:bil n 0 A x x * (det n A * ARj n A k k)=det n A * (ARj n A k k * bil n 0 A x x):=by grind
 rw [e1,e2] at h2;have h3:=Int.le_of_mul_le_mul_left h2 hd
 have h4:0<=x k * x k:=by
  rcases Int.le_total 0 (x k) with h | h
  ·exact Int.mul_nonneg h h
  ·exact Int.mul_nonneg_of_nonpos_of_nonpos h h
 have h5:1 * (x k * x k)<=det n A * (x k * x k):=Int.mul_le_mul_of_nonneg_right AHx h4;omega
def Ah5 (A:AIe) (i j:Nat) (c:Int):AIe:=AKi A i λs=>A i s + c * A j s
def Ay4 (A:AIe) (i j:Nat) (c:Int):AIe:=trF<|Ah5 (trF A) i j c
def Agz (A:AIe) (i j:Nat) (c:Int):AIe:=Ay4 (Ah5 A i j c) i j c
def swA (A:AIe) (j:Nat):AIe:=λr s=>A (tau j r)<|tau j s
theorem Ay6 (l:Nat) (A:AIe) (r s:Nat):Mn l (trF A) s r=Mn l A r s:=by
 unfold Mn;rw [<- ARh];rfl
theorem Apu {c:Int} (hij:j < i):det k (Ah5 A i j c)=det k A:=by
 rcases Nat.lt_or_ge i k with h | h
 ·exact AVf h AHx AHx c
 ·refine AJm λr s hr _=>?_;unfold Ah5;rw [AJa,if_neg AHx]
theorem Ay7 {c:Int} (hij:j < i):det k (Ay4 A i j c)=det k A:=by
 unfold Ay4;rw [ARh,Apu hij,ARh]
theorem AX9 {c:Int} (hij:j < i):det k (Agz A i j c)=det k A:=by
 unfold Agz;rw [Ay7 hij,Apu hij]
theorem Anm {r s:Nat} {c:Int} (hij:j < i) (hr:l<=r):Mn l (Ah5 A i j c) r s=Mn l A r s + if l<=i/\r=i then c * Mn l A j s else 0:=by
 rcases Nat.lt_or_ge i l with h | h
 ·rw [if_neg AHx,Int.add_zero];unfold Mn;have e:=AVf (n:=l + 1) (F:=λa b=>A (bro l r a)<|bro l s b) (a:=i) (b:=j) AHx AHx AHx c;rw [<- e];refine AJm λa b ha _=>?_;rw [AJa];unfold Ah5;rw [AJa];have hbi:bro l r i=i:=by unfold bro;rw [if_pos h]
  have hbj:bro l r j=j:=by unfold bro;grind
  by_cases ea:a=i
  ·grind
  ·rw [if_neg ea,if_neg];unfold bro;split <;> omega
 ·by_cases er:r=i
  ·subst er;rw [if_pos ⟨h,rfl⟩];unfold Mn;have e:=Aa3 (n:=l + 1) (F:=λa b=>A (bro l r a)<|bro l s b) (r:=l) (λb=>A r<|bro l s b) (λb=>A j<|bro l s b) 1 c AHx
   have e1:det (l + 1) (λa b=>Ah5 A r j c (bro l r a)<|bro l s b)=det (l + 1) (AKi (λa b=>A (bro l r a)<|bro l s b) l λq=>1 * A r (bro l s q) + c * A j (bro l s q)):=by
    refine AJm λa b ha _=>?_
    rw [AJa]
    unfold Ah5
    rw [AJa]
    by_cases ea:a=l
    ·subst ea
     rw [show bro a r a=r by unfold bro;grind,if_pos rfl,if_pos rfl,Int.one_mul]
    ·rw [if_neg ea,if_neg]
     unfold bro;grind
   have e2:det (l + 1) (AKi (λa b=>A (bro l r a)<|bro l s b) l λb=>A r<|bro l s b)=det (l + 1) (λa b=>A (bro l r a)<|bro l s b):=by
    refine AJm λa b ha _=>?_
    rw [AJa]
    by_cases ea:a=l
    ·subst ea;rw [if_pos rfl,show bro a r a=r by unfold bro;grind]
    omega
   have e3:det (l + 1) (AKi (λa b=>A (bro l r a)<|bro l s b) l λb=>A j<|bro l s b)=det (l + 1) (λa b=>A (bro l j a)<|bro l s b):=by
    refine AJm λa b ha _=>?_
    rw [AJa]
    by_cases ea:a=l
    ·subst ea;rw [if_pos rfl,show bro a j a=j by unfold bro;grind]
    ·rw [if_neg ea,show bro l r a=a by unfold bro;grind,show bro l j a=a by unfold bro;grind]
   grind
  ·rw [if_neg λh=>er h.2,Int.add_zero];unfold Mn;refine AJm λa b ha _=>?_;unfold Ah5;rw [AJa,if_neg];unfold bro;split <;> omega
theorem A2i {r s:Nat} {c:Int} (hij:j < i) (hs:l<=s):Mn l (Ay4 A i j c) r s=Mn l A r s + if l<=i/\s=i then c * Mn l A r j else 0:=by
 unfold Ay4;rw [Ay6,Anm hij hs,Ay6,Ay6]
theorem Ay8 {r s:Nat} {c:Int} (hij:j < i) (hr:l<=r) (hs:l<=s):Mn l (Agz A i j c) r s=Mn l A r s + (if l<=i/\r=i then c * Mn l A j s else 0) + if l<=i/\s=i then c * (Mn l A r j + if l<=i/\r=i then c * Mn l A j j else 0) else 0:=by
 unfold Agz;rw [A2i hij hs,Anm hij hr,Anm hij hr]
theorem Ajf (A:AIe) (i j:Nat) (c:Int) (r s:Nat):Agz A i j c r s=if s=i then (if r=i then A i i + c * A j i else A r i) + c * (if r=i then A i j + c * A j j else A r j) else if r=i then A i s + c * A j s else A r s:=by
 show AKi (trF<|Ah5 A i j c) i (λq=>trF (Ah5 A i j c) i q + c * trF (Ah5 A i j c) j q) s r=_;rw [AJa];unfold trF Ah5;by_cases h:s=i
 ·rw [if_pos h,if_pos h,AJa,AJa]
 ·rw [if_neg h,if_neg h,AJa]
theorem A2j {n:Nat} {c:Int} (hi:i < n) (hj:j < n) (h:AS2 n A):AS2 n (Agz A i j c):=by
 intro r s hr hs;rw [Ajf,Ajf];by_cases h1:r=i
 ·by_cases h2:s=i
  ·rw [h1,h2]
  ·rw [if_neg h2,if_pos h1,if_pos h1,if_neg h2,if_neg h2,h i s hi hs,h j s hj hs]
 ·by_cases h2:s=i
  ·rw [if_pos h2,if_neg h1,if_neg h1,if_neg h1,if_pos h2,h r i hr hi,h r j hr hj]
  ·rw [if_neg h2,if_neg h1,if_neg h1,if_neg h2,h r s hr hs]
theorem Atr (hk:k≠j + 1):det k (swA A j)=det k A:=by
 rcases Nat.lt_or_ge (j + 1) k with h | h
 ·have e1:det k (swA A j)= -det k (λr s=>A (tau j r) s):=Aks (F:=λr s=>A (tau j r) s) h
  have e2:det k (λr s=>A (tau j r) s)= -det k A:=by
   rw [<- ARh (λr s=>A (tau j r) s),<- ARh A]
   exact Aks (F:=trF A) h
  omega
 ·refine AJm λr s hr hs=>?_;unfold swA tau;grind
theorem Apv:det (j + 1) (swA A j)=Mn j A (j + 1) (j + 1):=by
 unfold Mn;refine AJm λr s hr hs=>?_
 have e:∀ r,r < j + 1->tau j r=bro j (j + 1) r:=λr hr=>by
  unfold tau bro
  grind
 unfold swA;grind
theorem A5g {n:Nat} (hj:j + 1 < n) (h:AS2 n A):AS2 n (swA A j):=λr s hr hs=>by
 have e:∀ r,r < n->tau j r < n:=λr hr=>by unfold tau;grind
 exact h _ _ (e r hr)<|e s hs
theorem sq_nonneg (x:Int):0<=x * x:=by
 rcases Int.le_total 0 x with h | h
 ·exact Int.mul_nonneg h h
 ·exact Int.mul_nonneg_of_nonpos_of_nonpos h h
theorem Apw (hy:0<=y) (h:x * x<=y * y): -y<=x/\x<=y:=by
 constructor
 ·rcases Int.lt_or_le x (-y) with h1 | h1
  ·have h2:0 < (-x - y) * (-x + y):=Int.mul_pos AHx AHx;grind
  ·exact h1
 ·rcases Int.lt_or_le y x with h1 | h1
  ·have h2:0 < (x - y) * (x + y):=Int.mul_pos AHx AHx;grind
  ·exact h1
theorem Aeg (h1: -y<=x) (h2:x<=y):x * x<=y * y:=by
 have h3:0<=(y - x) * (y + x):=Int.mul_nonneg AHx AHx;grind
def SzF (A:AIe) (i j:Nat):Prop:= -(det (j + 1) A)<=2 * Mn j A i j/\2 * Mn j A i j<=det (j + 1) A
def LvF (A:AIe) (j:Nat):Prop:=3 * (det (j + 1) A * det (j + 1) A)<=4 * (det j A * det (j + 2) A + Mn j A (j + 1) j * Mn j A (j + 1) j)
def Ar0 (A:AIe) (i:Nat) (K:Int):Prop:= ∀ l,l < i-> -(K * det (l + 1) A)<=Mn l A i l/\Mn l A i l<=K * det (l + 1) A
theorem Amb {n:Nat} (hs:AS2 n A) (hp:AVl n A) (hi:i < n) (hD:∀ k,k<=n->det k A<=Dm) (p0:0<=p) (q0:0<=q) (hl:∀ l,l < i->q * (Mn l A i l * Mn l A i l)<=p * (det (l + 1) A * det (l + 1) A)):∀ d l:Nat,l + d=i->q * Mn l A i i<=(q + d * p) * (Dm * det l A):=by
 have hD0:1<=Dm:=by
  have:=hD 0 AHx;simpa [det] using this
 have hDl:∀ l k,l<=n->k<=n->det k A<=Dm * det l A:=λl k h1 h2=>by
  have:=hp l h1;have h3:=hD k h2;have h4:Dm * 1<=Dm * det l A:=Int.mul_le_mul_of_nonneg_left AHx AHx;omega
 intro d;induction d with
 | zero=>
   intro l h;obtain rfl:l=i:=by omega
   rw [ARp];have h1:=Int.mul_le_mul_of_nonneg_left (hDl l (l + 1) AHx AHx) q0;simpa using h1
 | succ d ih=>
   intro l h;have h1:=ih (l + 1) AHx;have h2:=Anl hs hp (show l < n by omega) hi;have h3:=hl l AHx;have h4:=hp l AHx;have h5:=hp (l + 1) AHx;have h6:=Int.mul_le_mul_of_nonneg_left h1<|Int.le_of_lt h4
   have h7:det (l + 1) A * (q * Mn l A i i)=q * (Mn l A i l * Mn l A i l) + det l A * (q * Mn (l + 1) A i i):=by
    grind
   have h8:=Int.mul_le_mul_of_nonneg_left (hDl l (l + 1) AHx AHx) p0;have h9:=Int.mul_le_mul_of_nonneg_left h8<|Int.le_of_lt h5;have e2:det (l + 1) A * (p * det (l + 1) A)=p * (det (l + 1) A * det (l + 1) A):=by grind
   have h10:det (l + 1) A * (q * Mn l A i i)<=det (l + 1) A * ((q + ((d + 1:Nat):Int) * p) * (Dm * det l A)):=by
    grind
   exact Int.le_of_mul_le_mul_left h10 h5
theorem Apy {n:Nat} (hn:n<=8) (hs:AS2 n A) (hp:AVl n A) (hi:i < n) (hD:∀ k,k<=n->det k A<=Dm) (hz:∀ l,l < i->SzF A i l):A i i<=3 * Dm:=by
 have h:=Amb hs hp hi hD (p:=1) (q:=4) AHx AHx (λl hl=>by
  have:=Aeg (hz l hl).1 (hz l hl).2
  grind) i 0 AHx
 rw [AU1] at h
 have Aa:1<=Dm:=by
  have:=hD 0 AHx;simpa [det] using this
 have h2:(4 + (i:Int) * 1) * (Dm * det 0 A)<=12 * Dm:=by
  have:(4 + (i:Int) * 1) * Dm<=12 * Dm:=Int.mul_le_mul_of_nonneg_right AHx AHx
  simpa [det] using this
 omega
theorem Avw {n:Nat} (hs:AS2 n A) (hp:AVl n A) (hi:i < n) (hD:∀ k,k<=n->det k A<=Dm) (hA:A i i<=3 * Dm):Ar0 A i (2 * Dm):=by
 intro l hl
 have Ad:1<=Dm:=by
  have:=hD 0 AHx;simpa [det] using this
 have h1:=Ah3 hs hp (show l<=n by omega) hi (show l < n by omega);rw [ARp] at h1;have h2:=Ay3 hs hp hi l AHx;have h3:=hp l AHx;have h4:=hp (l + 1) AHx
 have h5:det l A * A i i<=Dm * (3 * Dm):=by
  have a1:=Int.mul_le_mul_of_nonneg_left hA<|Int.le_of_lt h3
  have a2:=Int.mul_le_mul_of_nonneg_right (hD l AHx) (show (0:Int)<=3 * Dm by omega)
  omega
 have h6:Mn l A i i * det (l + 1) A<=Dm * (3 * Dm) * det (l + 1) A:=Int.mul_le_mul_of_nonneg_right AHx AHx;have h7:Dm * (3 * Dm) * (det (l + 1) A * 1)<=Dm * (3 * Dm) * (det (l + 1) A * det (l + 1) A):=Int.mul_le_mul_of_nonneg_left (Int.mul_le_mul_of_nonneg_left AHx AHx)<|Int.mul_nonneg AHx AHx;have h8:0<=Dm * Dm * (det (l + 1) A * det (l + 1) A):=Int.mul_nonneg (sq_nonneg _)<|sq_nonneg _;have h9:2 * Dm * det (l + 1) A * (2 * Dm * det (l + 1) A)=Dm * (3 * Dm) * (det (l + 1) A * det (l + 1) A) + Dm * Dm * (det (l + 1) A * det (l + 1) A):=by grind
 rw [Int.mul_one] at h7;exact Apw (Int.mul_nonneg AHx AHx) AHx
theorem Apz {K':Int} (hp:∀ l,l<=i->0 < det l A) (hK:K<=K') (h:Ar0 A i K):Ar0 A i K':=λl hl=>by
 have h1:=h l hl
 have h2:=hp (l + 1) AHx
 have h3:=Int.mul_le_mul_of_nonneg_right hK<|Int.le_of_lt h2
 omega
theorem Ap0 {d:Int} (hd:0 < d): -d<=2 * (a + -((2 * a + d) / (2 * d)) * d)/\2 * (a + -((2 * a + d) / (2 * d)) * d)<=d:=by
 have h1:=Int.mul_ediv_add_emod (2 * a + d)<|2 * d;have h2:=Int.emod_nonneg (2 * a + d) (show 2 * d≠0 by omega);have h3:=Int.emod_lt_of_pos (2 * a + d) (show 0 < 2 * d by omega);grind
theorem A2k {d:Int} (hd:0 < d) (h1: -(K * d)<=a) (h2:a<=K * d): -K<= -((2 * a + d) / (2 * d))/\ -((2 * a + d) / (2 * d))<=K:=by
 have h:=Ap0 (a:=a) hd;generalize -((2 * a + d) / (2 * d))=c at *;constructor
 ·rcases Int.lt_or_le c (-K) with h3 | h3
  ·have h4:(c + K + 1) * d<=0:=by
    have:=Int.mul_nonneg (show 0<= -(c + K + 1) by omega)<|Int.le_of_lt hd
    grind
   grind
  ·exact h3
 ·rcases Int.lt_or_le K c with h3 | h3
  ·have h4:=Int.mul_nonneg (show 0<=c - K - 1 by omega)<|Int.le_of_lt hd;grind
  ·exact h3
theorem Ats {c:Int} (hij:j < i) (hl:l < i):Mn l (Agz A i j c) i l=Mn l A i l + c * Mn l A j l:=by
 rw [Ay8 hij AHx<|Nat.le_refl _,if_pos ⟨AHx,rfl⟩,if_neg (λh:l<=i/\l=i=>by omega)];omega
theorem Amc {r:Nat} {c:Int} (hij:j < i) (hr:r < i) (hl:l<=r):Mn l (Agz A i j c) r l=Mn l A r l:=by
 rw [Ay8 hij hl<|Nat.le_refl _,if_neg (λh:l<=i/\r=i=>by omega),if_neg (λh:l<=i/\l=i=>by omega)];omega
theorem Ay9 {c:Int} (hij:j < i) (hp:∀ l,l<=i->0 < det l A) (hK:0<=K) (h:Ar0 A i K) (hz:∀ l,l < j->SzF A j l) (Ab: -K<=c) (Ac:c<=K):Ar0 (Agz A i j c) i (2 * K):=by
 intro l hl;rw [AX9 hij,Ats hij hl];have h1:=h l hl;have h2:=hp (l + 1) AHx
 have hm: -(det (l + 1) A)<=Mn l A j l/\Mn l A j l<=det (l + 1) A:=by
  rcases Nat.lt_trichotomy l j with h3 | h3 | h3
  ·have:=hz l h3;unfold SzF at this;omega
  ·subst h3;rw [ARp];omega
  ·rw [Arz A l h3];omega
 have h3: -(K * det (l + 1) A)<=c * Mn l A j l/\c * Mn l A j l<=K * det (l + 1) A:=by
  refine Apw (Int.mul_nonneg hK<|Int.le_of_lt h2) ?_
  have a1:=Aeg Ab Ac
  have a2:=Aeg hm.1 hm.2
  have a3:c * c * (Mn l A j l * Mn l A j l)<=K * K * (det (l + 1) A * det (l + 1) A):=Int.mul_le_mul a1 a2 (sq_nonneg _)<|sq_nonneg _
  grind
 grind
theorem Aza {c:Int} (hk:k≠i):Agz A i j c k k=A k k:=by
 rw [Ajf,if_neg hk,if_neg hk]
structure Ann (n:Nat) (Dm:Int) (A:AIe) (i t:Nat):Prop where
 sym:AS2 n A
 pos:AVl n A
 dm:∀ k,k<=n->det k A<=Dm
 hi:i < n
 ht:t<=i
 rows:∀ k,k < n->k≠i->A k k<=3 * Dm
 row:t=0->A i i<=3 * Dm
 lamb:Ar0 A i (2 ^ t * (2 * Dm))
 pre:∀ r l,l < r->r < i->SzF A r l
 prei:∀ l,l < i->i<=l + t->SzF A i l
 lov:∀ r,r + 1 < i->LvF A r
theorem Akt {n:Nat} (hn:0 < n) (hs:AS2 n A) (hp:AVl n A) (hD:∀ k,k<=n->det k A<=Dm) (hr:∀ k,k < n->A k k<=3 * Dm):Ann n Dm A 0 0:=
 ⟨hs,hp,hD,hn,Nat.le_refl _,λk hk _=>hr k hk,λ_=>hr 0 hn,λl hl=>by omega,λr l h1 h2=>by omega,λl hl=>by omega,λr hr=>by omega⟩
theorem Azb {n:Nat} (h:Ann n Dm A i t):1<=Dm:=by
 have:=h.dm 0 AHx;simpa [det] using this
theorem Ae5 {n:Nat} (hn:n<=8) (h:Ann n Dm A i t) (hz:∀ l,l < i->SzF A i l):∀ k,k < n->A k k<=3 * Dm:=λk hk=>by
 by_cases e:k=i
 ·subst e;exact Apy hn h.sym h.pos h.hi h.dm hz
 ·exact h.rows k hk e
theorem Aeh (t:Nat):(0:Int) < 2 ^ t:=Int.pow_pos AHx
theorem Ae6 {s:Nat} (h:s<=t):(2:Int) ^ s<=2 ^ t:=by
 have:=Nat.pow_le_pow_right (show 0 < 2 by omega) h;grind
theorem Avx {n i':Nat} (hn:n<=8) (h:Ann n Dm A i t) (hi':i' < n) (hj:j < i') (hbad: ¬ SzF A i' j)
 (hz:∀ r l,l < r->r < i'->SzF A r l) (hzi:∀ l,l < i'->j < l->SzF A i' l) (hl:∀ r,r + 1 < i'->LvF A r):
 Ann n Dm (Agz A i' j<|-((2 * Mn j A i' j + det (j + 1) A) / (2 * det (j + 1) A))) i' (i' - j)/\i * 16 + t < i' * 16 + (i' - j):=by
 have hD1:=Azb h
 have hlt:i < i'∨i=i'/\t < i' - j:=by
  rcases Nat.lt_trichotomy i i' with h1 | h1 | h1
  ·exact .inl h1
  ·refine .inr ⟨h1,?_⟩
   rcases Nat.lt_or_ge t (i' - j) with h2 | h2
   ·exact h2
   ·subst h1;exact absurd (h.prei j hj AHx) hbad
  ·exact absurd (h.pre i' j hj h1) hbad
 have hrows:∀ k,k < n->k≠i'->A k k<=3 * Dm:=λk hk hne=>by
  rcases hlt with h1 | h1
  ·exact Ae5 hn h (λl hl=>hz i l hl h1) k hk
  ·exact h.rows k hk AHx
 have hK0:0<=2 ^ (i' - j - 1) * (2 * Dm):=Int.mul_nonneg (Int.le_of_lt<|Aeh _) AHx;have hp':∀ l,l<=i'->0 < det l A:=λl hl=>h.pos l AHx
 have hlam:Ar0 A i' (2 ^ (i' - j - 1) * (2 * Dm)):=by
  rcases hlt with h1 | h1
  ·refine Apz hp' ?_<|Avw h.sym h.pos hi' h.dm<|Ae5 hn h (λl hl=>hz i l hl h1) i' hi';have:=Int.mul_le_mul_of_nonneg_right (Ae6<|Nat.zero_le<|i' - j - 1) (show (0:Int)<=2 * Dm by omega);simpa using this
  ·obtain ⟨rfl,h1⟩:=h1;exact Apz hp' (Int.mul_le_mul_of_nonneg_right (Ae6 AHx) AHx) h.lamb
 have hd:=hp' (j + 1) AHx;obtain ⟨c1,c2⟩:=A2k hd (hlam j hj).1 (hlam j hj).2;have hrem:=Ap0 (a:=Mn j A i' j) hd;generalize hc: -((2 * Mn j A i' j + det (j + 1) A) / (2 * det (j + 1) A))=c at *
 refine ⟨⟨A2j hi' AHx h.sym,λk hk=>by rw [AX9 hj];exact h.pos k hk,λk hk=>by rw [AX9 hj];exact h.dm k hk,hi',AHx,λk hk hne=>by rw [Aza hne];grind,λh0=>by omega,?_,λr l h1 h2=>?_,λl h1 h2=>?_,λr hr=>?_⟩,by have:=h.ht;omega⟩
 ·have:=Ay9 hj hp' hK0 hlam (λl hl=>hz j l hl hj) c1 c2
  have e:2 * (2 ^ (i' - j - 1) * (2 * Dm))=2 ^ (i' - j) * (2 * Dm):=by
   rw [show i' - j=i' - j - 1 + 1 by omega,Int.pow_succ];grind
  rwa [e] at this
 ·unfold SzF;rw [AX9 hj,Amc hj h2 AHx];exact hz r l h1 h2
 ·unfold SzF;rw [AX9 hj,Ats hj h1]
  rcases Nat.lt_or_ge j l with h3 | h3
  ·rw [Arz A l h3,Int.mul_zero,Int.add_zero];exact hzi l h1 h3
  ·obtain rfl:l=j:=by omega
   rw [ARp];exact hrem
 ·unfold LvF;rw [AX9 hj,AX9 hj,AX9 hj,Amc hj AHx AHx];exact hl r hr
def Ap1 (n:Nat) (A:AIe):Int:=psum (λk=>det k A)<|n + 1
theorem A2l {g:Nat->Int} {n:Nat} (hk:k < n) (hne:∀ l,l≠k->f l=g l) (h:f k < g k):psum f n < psum g n:=by
 induction n with
 | zero=>omega
 | succ n ih=>
   simp only [psum]
   rcases Nat.lt_or_ge k n with h1 | h1
   ·grind
   ·obtain rfl:k=n:=by omega
    rw [AIl (g:=g) λi hi=>hne i AHx];omega
theorem Avy {n:Nat} (hn:n<=8) (h:Ann n Dm A i t) (hj:j + 1 < n) (hbad: ¬ LvF A j)
 (hz:∀ r l,l < r->r<=j + 1->SzF A r l) (hl:∀ r,r < j->LvF A r):
 Ann n Dm (swA A j) 0 0/\Ap1 n (swA A j) < Ap1 n A:=by
 have hij:i<=j + 1:=by
  rcases Nat.lt_or_ge (j + 1) i with h1 | h1
  ·exact absurd (h.lov j h1) hbad
  ·exact h1
 have hrest:=Ae5 hn h λl hl=>hz i l hl hij;have h1:=Anl h.sym h.pos (show j < n by omega) hj;have p0:=h.pos j AHx;have p1:=h.pos (j + 1) AHx;have p2:=h.pos (j + 2) AHx;rw [show Mn (j + 1) A (j + 1) (j + 1)=det (j + 2) A from ARp _ _] at h1
 have hlt:Mn j A (j + 1) (j + 1) < det (j + 1) A:=by
  unfold LvF at hbad
  have h2:det (j + 1) A * (4 * Mn j A (j + 1) (j + 1)) < det (j + 1) A * (3 * det (j + 1) A):=by
   grind
  have:=Int.lt_of_mul_lt_mul_left h2<|Int.le_of_lt p1;omega
 have hpos:0 < Mn j A (j + 1) (j + 1):=by
  have h3:=sq_nonneg<|Mn j A (j + 1) j;have h4:=Int.mul_pos p0 p2;exact Int.pos_of_mul_pos_right (a:=det (j + 1) A) AHx p1
 have hdet:∀ k,det k (swA A j)=if k=j + 1 then Mn j A (j + 1) (j + 1) else det k A:=λk=>by
  by_cases e:k=j + 1
  ·subst e;rw [if_pos rfl,Apv]
  ·rw [if_neg e,Atr e]
 refine ⟨Akt AHx (A5g hj h.sym) (λk hk=>?_) (λk hk=>?_) λk hk=>?_,?_⟩
 ·rw [hdet];split
  ·exact hpos
  ·exact h.pos k hk
 ·rw [hdet];split
  ·have:=h.dm (j + 1) AHx;omega
  ·exact h.dm k hk
 ·have e:tau j k < n:=by unfold tau;grind
  exact hrest _ e
 ·exact A2l (k:=j + 1) AHx (λl hl=>by grind) (by grind)
end Go.QF
namespace Go.Proofs.YtegoafpaljeobaaGreatDoor
theorem Ano (k m:Nat):AK7 k (λa=>((a:Nat):Int)) ++ [((m:Nat):Int)]=AK7 (k + 1) λa=>((bro k m a:Nat):Int):=by
 rw [<- AX3,AJ3 (g:=λa=>((bro k m a:Nat):Int)) λa ha=>by unfold bro;rw [if_pos ha]];unfold bro;grind
theorem Att {m:Nat} (hk:k<=100) (hf:100 < fuel):ANw fuel (k:Int) (m:Int)=some (AK7 (k + 1) λa=>((bro k m a:Nat):Int)):=by
 apply ok_eq;unfold ANw;refine AH9 (AJg (λi s=>s=(AK7 i λa=>((a:Nat):Int),((i:Nat):Int))/\i<=k) k (Q:=(· =AK7 k λa=>((a:Nat):Int))) ⟨rfl,Nat.zero_le _⟩ AHx λi s hi hI=>?_) λe he=>?_
 ·obtain ⟨rfl,hik⟩:=hI;unfold ASu;dsimp only;refine AI4 (λh=>AJ4 (by rw [AJ5];omega)<|AH4 ⟨AHx,?_,AHx⟩) λh=>AH4 ?_
  ·rw [wk AHx,AX3 i λa=>((a:Nat):Int)];simp
  grind
 ·subst he;refine AJ4 (by rw [AJ5];omega)<|AH4 ?_;exact Ano k m
theorem Aku {n:Nat} (hn:n<=8) (hi:i < n) (hj:j < n) (hb:∀ i j,i < n->j < n->(F i j).natAbs<=mN n) (hf:100 < fuel):AMe fuel (tab n n F) (i:Int) (j:Int)=some (Mn j F i j):=by
 apply ok_eq;unfold AMe;refine AH9 (AJg (λq s=>s=(AK7 q λa=>((a:Nat):Int),AK7 q λa=>((a:Nat):Int),((q:Nat):Int))/\q<=j) j (Q:=(· =(AK7 j λa=>((a:Nat):Int),AK7 j λa=>((a:Nat):Int)))) ⟨rfl,Nat.zero_le _⟩ AHx λq s hq hI=>?_) λe he=>?_
 ·obtain ⟨rfl,hqj⟩:=hI;unfold AR5;dsimp only;refine AI4 (λh=>AJ4 (by rw [AJ5];omega)<|AJ4 (by rw [AJ5];omega)<|AH4 ⟨AHx,?_,AHx⟩) λh=>AH4 ?_
  ·rw [wk AHx,AX3 q λa=>((a:Nat):Int)];simp
  grind
 ·subst he;dsimp only;refine AJ4 (by rw [AJ5];omega)<|AJ4 (by rw [AJ5];omega) ?_;rw [Ano,Ano];refine AH9 (AJ2<|Aps (n:=n) AHx AHx hf (λa ha=>AXe AHx hi) λa ha=>AXe AHx hj) λx hx=>?_;subst hx;refine AH9 (AJ2<|Agt hn AHx (λa b ha Aa=>hb _ _ (AXe AHx hi)<|AXe AHx hj) AHx) λy hy=>AH4 hy
theorem Ae7 {n:Nat} (hk:k<=n) (hn:n<=8):AKu fuel (AK7 n λa=>det (a + 1) F) (k:Int)=some (det k F):=by
 apply ok_eq;unfold AKu;refine AI4 (λh=>?_) λh=>?_
 ·obtain rfl:k=0:=by omega
  exact ⟨1,rfl,by simp [det]⟩
 ·obtain ⟨q,rfl⟩:∃ q,k=q + 1:=⟨k - 1,AHx⟩;refine AI8 (n:=q) (AI5 AHx) (by rw [wk AHx];omega)<|AH4 rfl
theorem Amd {n:Nat} (Aa:1<=n) (hn:n<=8) (hb:∀ i j,i < n->j < n->(F i j).natAbs<=mN n) (hf:100 < fuel):AMz fuel (tab n n F)=some (AK7 n λa=>det (a + 1) F,true):=by
 apply ok_eq;unfold AMz;refine AH9 (AJ2<|Ama Aa AHx hf) λx hx=>?_;subst hx;dsimp only;refine AI4 (λh=>absurd h AHz) λ_=>AH9 (AJg (λk s=>s=(AK7 k λa=>det (a + 1) F,((k:Nat):Int))/\k<=n) n (Q:=(· =AK7 n λa=>det (a + 1) F)) ⟨rfl,Nat.zero_le _⟩ AHx λk s hk hI=>?_) λe he=>AH4 (by rw [he]);obtain ⟨rfl,hkn⟩:=hI;unfold ARg;dsimp only;refine AI4 (λh=>?_) λh=>AH4 ?_
 ·have hk':k < n:=by omega
  refine AH9 (AJ2<|Att AHx hf) λr hr=>?_;subst hr;refine AH9 (AJ2<|Att AHx hf) λc hc=>?_;subst hc;refine AH9 (AJ2<|Aps (n:=n) AHx AHx hf (λa ha=>AXe AHx hk') λa ha=>AXe AHx hk') λx hx=>?_;subst hx;refine AH9 (AJ2<|Agt hn AHx (λa b ha Ab=>hb _ _ (AXe AHx hk')<|AXe AHx hk') AHx) λy hy=>?_;subst hy;refine AJ4 (by rw [AJ5];omega)<|AH4 ⟨AHx,?_,AHx⟩;rw [show (det (k + 1) λa b=>F (bro k k a)<|bro k k b)=det (k + 1) F from ARp k F,wk AHx,AX3 k λa=>det (a + 1) F];simp
 grind
theorem Anp (a b:Int):Abw a b<=0↔a<=b:=by unfold Abw;omega
theorem Akv {n:Nat} (hn:n<=8) (hi:i < n) (hl:l < n) (hj:j < n) (hb:∀ i j,i < n->j < n->(F i j).natAbs<=mN n):(Mn j F i l).natAbs<=gN n:=by
 have e:Mn j F i l=Mn j (λa b=>if a < n/\b < n then F a b else 0) i l:=by
  unfold Mn
  refine AJm λa b ha Aa=>?_
  dsimp only
  rw [if_pos ⟨AXe AHx hi,AXe AHx hl⟩]
 rw [e];refine Nat.le_trans (Ars (m:=mN n) (λa b=>?_) i l)<|Ayl hn AHx;grind
theorem Aei {n:Nat} (hn:n<=8) (hk:k<=n) (hb:∀ i j,i < n->j < n->(F i j).natAbs<=mN n):(det k F).natAbs<=gN n:=by
 rcases Nat.eq_zero_or_pos k with h | h
 ·subst h;have:=Ayk n;simp only [det];omega
 ·obtain ⟨q,rfl⟩:∃ q,k=q + 1:=⟨k - 1,AHx⟩;rw [<- ARp q F];exact Akv hn AHx AHx AHx hb
theorem A2m {n:Nat} (hn:n<=8) (hi:i < n) (hj:j < n) (hb:∀ i j,i < n->j < n->(F i j).natAbs<=mN n) (hf:100 < fuel):APd fuel (tab n n F) (AK7 n λa=>det (a + 1) F) (i:Int) (j:Int)=some (decide (2 * ((Mn j F i j).natAbs:Int)<=det (j + 1) F)):=by
 apply ok_eq;unfold APd;refine AH9 (Q:=(· =2)) ⟨2,if_pos AHx,rfl⟩ λtwo h2=>?_;subst h2;refine AH9 (AJ2<|Aku hn hi hj hb hf) λx hx=>?_;subst hx;refine AH9 (AJ2 (a:=((Mn j F i j).natAbs:Int)) rfl) λy hy=>?_;subst hy;refine AH9 (AJ2<|Ahv (Aym n) (show (2:Int).natAbs<=gN n from Nat.le_trans AHz<|Ayk n) (by rw [Int.natAbs_natCast];exact Akv hn hi hj hj hb)) λw hw=>?_;subst hw;rw [wk AHx];refine AH9 (AJ2<|Ae7 (k:=j + 1) AHx hn) λm hm=>?_;subst hm;refine AH9 (AJ2 (a:=Abw (2 * ((Mn j F i j).natAbs:Int))<|det (j + 1) F) rfl) λc hc=>AH4 ?_;subst hc;exact decide_eq_decide.2<|Anp _ _
theorem Atu:2 * ((Mn j F i j).natAbs:Int)<=det (j + 1) F↔SzF F i j:=by
 unfold SzF;omega
theorem psum_abs {f g:Nat->Int} {D:Nat}:∀ (n:Nat),(∀ a,a < n->(f a).natAbs<=D/\(g a).natAbs<=D)->(psum (λa=>f a * g a) n).natAbs<=n * (D * D)
 | 0,_=>by simp [psum]
 | n + 1,h=>by
   have h1:=psum_abs n λa ha=>h a AHx
   have h2:=Nat.mul_le_mul (h n AHx).1 (h n AHx).2
   rw [<- Int.natAbs_mul] at h2
   have e:(n + 1) * (D * D)=n * (D * D) + D * D:=by grind
   simp only [psum]
   omega
theorem A7p {n:Nat} {g:Nat->Int} (hn:n<=16) (hD:16 * (D * D) < AM1) (hb:∀ a,a < n->(f a).natAbs<=D/\(g a).natAbs<=D) (hf:100 < fuel):AQk fuel (AK7 n f) (AK7 n g)=some (psum (λa=>f a * g a) n):=by
 apply ok_eq;unfold AQk;refine AH9 (AJg (λk s=>s=(((k:Nat):Int),psum (λa=>f a * g a) k)/\k<=n) n (Q:=(· =psum (λa=>f a * g a) n)) ⟨rfl,Nat.zero_le _⟩ AHx λk s hk hI=>?_) λe he=>AH4 he;obtain ⟨rfl,hkn⟩:=hI;unfold AT6;dsimp only;rw [AJ5];refine AI4 (λh=>?_) λh=>AH4 ?_
 ·have hk':k < n:=by omega
  have h1:=psum_abs k λa ha=>hb a AHx;have h2:=Nat.mul_le_mul (hb k hk').1 (hb k hk').2;have h3:k * (D * D)<=16 * (D * D):=Nat.mul_le_mul_right _ AHx;have h4:1 * (D * D)<=16 * (D * D):=Nat.mul_le_mul_right _ AHx;refine AI8 (AI5 hk') rfl (AI8 (AI5 hk') rfl (AH9 (Q:=(· =f k * g k)) ⟨_,if_pos AHx,rfl⟩ λx hx=>?_));subst hx;refine AH9 (Q:=(· =psum (λa=>f a * g a) k + f k * g k)) ⟨_,if_pos ⟨AHx,by rw [Int.natAbs_mul];omega⟩,rfl⟩ λy hy=>AH4 ⟨AHx,?_,AHx⟩;subst hy;rw [wk AHx];simp [psum]
 grind
theorem Akw {n:Nat} (hn:1<=n) (Ad:n<=16) (hf:100 < fuel):ALf fuel (tab n n F)=some ((n:Int),(n:Int),true):=by
 apply ok_eq;unfold ALf;rw [AJf];refine AH9 (Q:=λex=>match ex with | .inl _=>False | .inr _=>True) (AI4 (λh=>by omega) λh=>AI4 (λh2=>by omega) λh2=>AH4 trivial) λex hex=>?_
 cases ex with
 | inl e=>exact hex.elim
 | inr u=>
   dsimp only
   refine AH9 (AJg (λi (s:Int)=>s=i) n (Q:=λex=>match ex with | .inl _=>False | .inr _=>True) rfl AHx λi s hi hI=>?_) λex hex=>?_
   ·subst hI
    unfold APs
    rw [AJf]
    refine AI4 (λh=>AI8 (AJo AHx) rfl ?_) λh=>AH4 trivial
    rw [AJ5]
    refine AI4 (λh2=>by omega) λh2=>AI4 (λh3=>by omega) λh3=>AI8 (n:=0) (AJo AHx) rfl (AI4 (λh4=>?_) λh4=>AH4 ⟨AHx,wk AHx⟩)
    rw [AJ5] at h4;omega
   ·cases ex with
    | inl e=>exact hex.elim
    | inr u=>exact AI8 (n:=0) (AJo AHx) rfl (AH4<|by rw [AJ5])
theorem AS5 {r c:Nat} {G:AIe} (h:∀ i j,i < r->j < c->F i j=G i j):tab r c F=tab r c G:=by
 rw [AYg,AYg];exact AJ3 λi hi=>AJ3 λj hj=>h i j hi hj
def trS (F:AIe) (i j r c:Nat):Int:=if c < i∨c=i/\r < j then F c r else 0
theorem Atv {n:Nat} (hn:1<=n) (Aa:n<=16) (hf:100 < fuel):AMa fuel (tab n n F)=some (tab n n<|trF F,true):=by
 apply ok_eq;unfold AMa;refine AH9 (AJ2<|Akw hn Aa hf) λx hx=>?_;subst hx;dsimp only;refine AI4 (λh=>absurd h AHz) λ_=>AH9 (AJ2<|Aja AHx AHx AHx) λO hO=>?_;subst hO;refine AH9 (AJg (λi s=>s=(((i:Nat):Int),tab n n<|trS F i 0)/\i<=n) n (Q:=(· =tab n n (trF F))) ⟨?_,Nat.zero_le _⟩ AHx λi s hi hI=>?_) λe he=>AH4 (by rw [he])
 ·rw [AOm n (0:Int),AOm];refine congrArg (Prod.mk (0:Int)) ?_;rw [AYg];exact AJ3 λr _=>AJ3 λc _=>by unfold trS;omega
 ·obtain ⟨rfl,hin⟩:=hI;unfold AQd;dsimp only;rw [AJf];refine AI4 (λh=>?_) λh=>AH4 ?_
  ·have hi':i < n:=by omega
   refine AI8 (AJo hi') rfl (AH9 (AJg (λj s=>s=(((j:Nat):Int),tab n n<|trS F i j)/\j<=n) n (Q:=(· =tab n n (trS F (i + 1) 0))) ⟨rfl,Nat.zero_le _⟩ AHx λj s hj hJ=>?_) λe he=>AH4 ⟨AHx,by rw [wk AHx,he];simp,AHx⟩);obtain ⟨rfl,hjn⟩:=hJ;unfold AQc;dsimp only;rw [AJ5];refine AI4 (λh2=>?_) λh2=>AH4 ?_
   ·have hj':j < n:=by omega
    refine AI8 (AJo hj') rfl (AI8 (AJo hi') rfl (AI8 (AI5 hj') rfl (AH9 (AJ2 (a:=F i j) rfl) λy hy=>AI8 (AI5 hi') rfl (AH4 ⟨AHx,?_,AHx⟩))));subst hy;rw [wk AHx,Akg];refine Prod.ext AHx<|AS5 λr c hr hc=>?_;rw [AJa];unfold trS;grind
   ·refine AS5 λr c hr hc=>?_;unfold trS;omega
  ·refine AS5 λr c hr hc=>?_;unfold trS trF;omega
def muS (H:AIe) (i j r c:Nat):Int:=if r < i∨r=i/\c < j then H r c else 0
theorem Azc {n:Nat} {G:AIe} (hn:1<=n) (Aa:n<=16) (hD:16 * (D * D) < AM1) (hF:∀ i j,i < n->j < n->(F i j).natAbs<=D) (hG:∀ i j,i < n->j < n->(G i j).natAbs<=D) (hf:100 < fuel):AQl fuel (tab n n F) (tab n n G)=some (tab n n<|AJv n F G,true):=by
 apply ok_eq;unfold AQl;refine AH9 (AJ2<|Akw hn Aa hf) λx hx=>?_;subst hx;dsimp only;refine AH9 (AJ2<|Atv hn Aa hf) λx hx=>?_;subst hx;dsimp only;rw [AJf,AJf];refine AH9 (Q:=λex=>match ex with | .inl _=>False | .inr _=>True) (AI4 (λh=>absurd h AHz) λ_=>AI4 (λh=>absurd h AHz) λ_=>AI4 (λh=>absurd rfl h) λ_=>AH4 trivial) λex hex=>?_
 cases ex with
 | inl e=>exact hex.elim
 | inr u=>
   dsimp only
   rw [AJf]
   refine AH9 (AJ2<|Aja AHx AHx AHx) λO hO=>?_
   subst hO
   refine AH9 (AJg (λi s=>s=(((i:Nat):Int),tab n n<|muS (AJv n F G) i 0)/\i<=n) n (Q:=(· =tab n n (AJv n F G))) ⟨?_,Nat.zero_le _⟩ AHx λi s hi hI=>?_) λe he=>AH4 (by rw [he])
   ·rw [AOm n (0:Int),AOm]
    refine congrArg (Prod.mk (0:Int)) ?_
    rw [AYg]
    exact AJ3 λr _=>AJ3 λc _=>by unfold muS;omega
   ·obtain ⟨rfl,hin⟩:=hI
    unfold AT8
    dsimp only
    rw [AJf]
    refine AI4 (λh=>?_) λh=>AH4 ?_
    ·have hi':i < n:=by omega
     refine AH9 (AJg (λj s=>s=(((j:Nat):Int),tab n n<|muS (AJv n F G) i j)/\j<=n) n (Q:=(· =tab n n (muS (AJv n F G) (i + 1) 0))) ⟨rfl,Nat.zero_le _⟩ AHx λj s hj hJ=>?_) λe he=>AH4 ⟨AHx,by rw [wk AHx,he];simp,AHx⟩
     obtain ⟨rfl,hjn⟩:=hJ
     unfold AT7
     dsimp only
     rw [AJf]
     refine AI4 (λh2=>?_) λh2=>AH4 ?_
     ·have hj':j < n:=by omega
      refine AI8 (AJo hi') rfl (AI8 (AJo hi') rfl (AI8 (AJo hj') rfl (AH9 (AJ2<|A7p (D:=D) Aa hD (λa ha=>⟨hF i a hi' ha,hG a j ha hj'⟩) hf) λy hy=>AI8 (AI5 hj') rfl (AH4 ⟨AHx,?_,AHx⟩))))
      subst hy
      rw [wk AHx,Akg]
      refine Prod.ext AHx<|AS5 λr c hr hc=>?_
      rw [AJa]
      unfold muS
      by_cases h3:r=i
      ·rw [if_pos h3]
       by_cases h4:c=j
       ·rw [if_pos h4,if_pos AHx,h3,h4];rfl
       ·rw [if_neg h4]
        by_cases h5:c < j
        ·grind
        omega
      omega
     ·refine AS5 λr c hr hc=>?_
      unfold muS
      omega
    ·refine AS5 λr c hr hc=>?_
     unfold muS
     omega
theorem Atw (a b:Int):Abw a b=0↔a=b:=by unfold Abw;omega
theorem A3w {n:Nat} (Ae:n<=16) (hf:100 < fuel):Ok (AMb fuel<|tab n n F) λr=>r=true↔AS2 n F:=by
 unfold AMb;refine AH9 (AJg (λi s=>s=((i:Nat):Int)/\i<=n/\ ∀ a b,b < a->a < i->F a b=F b a) n (Q:=λex=>match ex with | .inl e=>e=false/\¬ AS2 n F | .inr _=>AS2 n F) ⟨rfl,Nat.zero_le _,λa b h1 h2=>by omega⟩ AHx λi s hi hI=>?_) λex hex=>?_
 ·obtain ⟨rfl,hin,hs⟩:=hI;unfold AQf;rw [AJf];refine AI4 (λh=>?_) λh=>AH4 ?_
  ·have hi':i < n:=by omega
   refine AH9 (AJg (λj s=>s=((j:Nat):Int)/\j<=i/\ ∀ b,b < j->F i b=F b i) i (Q:=λex=>match ex with | .inl e=>e=false/\¬ AS2 n F | .inr _=> ∀ b,b < i->F i b=F b i) ⟨rfl,Nat.zero_le _,λb h1=>by omega⟩ AHx λj s hj hJ=>?_) λex hex=>?_
   ·obtain ⟨rfl,hji,hb⟩:=hJ;unfold AQe;refine AI4 (λh2=>?_) λh2=>AH4 ?_
    ·have hj':j < i:=by omega
     refine AI8 (AJo hi') rfl (AI8 (AI5 AHx) rfl (AI8 (AJo AHx) rfl (AI8 (AI5 hi') rfl (AH9 (AJ2 (a:=Abw (F i j)<|F j i) rfl) λc hc=>?_))));subst hc;refine AI4 (λh3=>AH4 ⟨rfl,λh4=>h3<|(Atw _ _).2 (h4 i j hi' AHx)⟩) λh3=>AH4 ⟨AHx,by rw [wk AHx];simp,AHx,λb Af=>?_⟩;rcases Nat.lt_or_ge b j with h4 | h4
     ·exact hb b h4
     ·obtain rfl:b=j:=by omega
      exact (Atw _ _).1 (Classical.not_not.1 h3)
    grind
   ·cases ex with
    | inl e=>exact AH4 hex
    | inr u=>exact AH4 ⟨AHx,by rw [wk AHx];simp,AHx,λa b h1 h2=>by
       grind⟩
  ·obtain rfl:i=n:=by omega
   intro a b ha hb;grind
 ·cases ex with
  | inl e=>obtain ⟨rfl,h⟩:=hex;exact AH4 ⟨λh1=>Bool.noConfusion h1,λh1=>absurd h1 h⟩
  | inr u=>exact AH4 ⟨λ_=>hex,λ_=>rfl⟩
theorem Atx {n:Nat} {G:AIe} (hn:1<=n) (Aa:n<=16) (hD:16 * (D * D) < AM1) (hF:∀ i j,i < n->j < n->(F i j).natAbs<=D) (hG:∀ i j,i < n->j < n->(G i j).natAbs<=D) (hH:∀ i j,i < n->j < n->(AJv n (trF G) F i j).natAbs<=D) (hf:100 < fuel):ALk fuel (tab n n F) (tab n n G)=some (tab n n<|AJv n (AJv n (trF G) F) G):=by
 apply ok_eq;unfold ALk;refine AH9 (AJ2<|Atv hn Aa hf) λx hx=>?_;subst hx;dsimp only
 have pr:∀ {F G:AIe},(∀ i j,i < n->j < n->(F i j).natAbs<=D)->(∀ i j,i < n->j < n->(G i j).natAbs<=D)->Ok (AKt fuel (tab n n F)<|tab n n G) (· =tab n n (AJv n F G)):=λ{F G} hF hG=>by
  unfold AKt
  refine AH9 (AJ2<|Azc hn Aa hD hF hG hf) λx hx=>?_
  subst hx
  exact AH4 rfl
 refine AH9 (pr (λi j hi hj=>hG j i hj hi) hF) λx hx=>?_;grind
theorem Aty (a:Int):AOr a<=0↔a<=0:=by unfold AOr;omega
theorem A7q {n:Nat} (Ae:1<=n) (hn:n<=8) (hb:∀ i j,i < n->j < n->(F i j).natAbs<=mN n) (hf:100 < fuel):Ok (AN4 fuel<|tab n n F) λr=>r=true↔AS2 n F/\AVl n F:=by
 unfold AN4;refine AH9 (AJ2<|Amd Ae hn hb hf) λx hx=>?_;subst hx;dsimp only;refine AH9 (Q:=λex=>match ex with | .inl e=>e=false/\¬ AS2 n F | .inr _=>AS2 n F) (AI4 (λh=>absurd h AHz) λ_=>AH9 (A3w AHx hf) λr hr=>?_) λex hex=>?_
 ·refine AI4 (λh=>AH4 ⟨rfl,λh1=>?_⟩) λh=>AH4<|hr.1 ?_
  ·grind
  grind
 ·cases ex with
  | inl e=>obtain ⟨rfl,h⟩:=hex;exact AH4 ⟨λh1=>Bool.noConfusion h1,λh1=>absurd h1.1 h⟩
  | inr u=>
    dsimp only at hex ⊢
    have h0:∀ k,k<=0->0 < det k F:=λk hk=>by
     obtain rfl:k=0:=by omega
     simp [det]
    refine AH9 (AJg (λi s=>s=((i:Nat):Int)/\i<=n/\ ∀ k,k<=i->0 < det k F) n (Q:=λex=>match ex with | .inl e=>e=false/\¬ AVl n F | .inr _=>AVl n F) ⟨rfl,Nat.zero_le _,h0⟩ AHx λi s hi hI=>?_) λex Ad=>?_
    ·obtain ⟨rfl,hin,hp⟩:=hI
     unfold AQy
     rw [AJ5]
     refine AI4 (λh=>?_) λh=>AH4 ?_
     ·have hi':i < n:=by omega
      refine AI8 (AI5 hi') rfl (AH9 (AJ2 (a:=AOr<|det (i + 1) F) rfl) λc hc=>?_)
      subst hc
      refine AI4 (λh3=>AH4 ⟨rfl,λh4=>?_⟩) λh3=>AH4 ⟨AHx,by rw [wk AHx];simp,AHx,λk hk=>?_⟩
      ·have:=h4 (i + 1) AHx;have:=(Aty _).1 h3;omega
      ·rcases Nat.lt_or_ge k (i + 1) with h4 | h4
       ·grind
       ·obtain rfl:k=i + 1:=by omega
        rw [Aty] at h3;omega
     ·obtain rfl:i=n:=by omega
      exact hp
    ·cases ex with
     | inl e=>obtain ⟨rfl,h⟩:=Ad;exact AH4 ⟨λh1=>Bool.noConfusion h1,λh1=>absurd h1.2 h⟩
     | inr u=>exact AH4 ⟨λ_=>⟨hex,Ad⟩,λ_=>rfl⟩
theorem Akx {n:Nat} (Ab:1<=n) (hn:n<=8) (hb:∀ i j,i < n->j < n->(F i j).natAbs<=mN n) (hf:100 < fuel):Ok (AMm fuel<|tab n n F) λr=>r=0↔AS2 n F/\AVl n F:=by
 unfold AMm;refine AH9 (AJ2<|Ama Ab AHx hf) λx hx=>?_;subst hx;dsimp only;refine AI4 (λh=>absurd h AHz) λ_=>AI4 (λh=>by omega) λ_=>AH9 (A3w AHx hf) λr hr=>AI4 (λh=>AH4 ⟨λh1=>by omega,λh1=>?_⟩) λh=>AH9 (A7q Ab hn hb hf) λq hq=>AI4 (λh2=>AH4 ⟨λh1=>by omega,λh1=>?_⟩) λh2=>AH4 ⟨λ_=>hq.1 ?_,λ_=>rfl⟩
 ·grind
 ·grind
 grind
theorem A2n {n:Nat} (hn:n<=8) (hb:∀ i j,i < n->j < n->(F i j).natAbs<=mN n) (hf:100 < fuel):APe fuel (tab n n F)=some (decide (det n F<=10000)):=by
 apply ok_eq;unfold APe;refine AH9 (AJ2<|Agt hn (Nat.le_refl _) hb AHx) λx hx=>?_;subst hx;refine AH9 (Q:=(· =10000)) ⟨10000,if_pos AHx,rfl⟩ λy hy=>?_;subst hy;refine AH9 (AJ2 (a:=Abw (det n F) 10000) rfl) λc hc=>AH4 ?_;subst hc;exact decide_eq_decide.2<|Anp _ _
def idS (i r c:Nat):Int:=if r=c/\r < i then 1 else 0
theorem Atz {n:Nat} (hn:1<=n) (Ab:n<=16) (hf:100 < fuel):AMl fuel (n:Int)=some (tab n n dl,true):=by
 apply ok_eq;unfold AMl;refine AH9 (Q:=λex=>match ex with | .inl _=>False | .inr _=>True) (AI4 (λh=>by omega) λ_=>AI4 (λh=>by omega) λ_=>AH4 trivial) λex hex=>?_
 cases ex with
 | inl e=>exact hex.elim
 | inr u=>
   dsimp only
   refine AH9 (AJ2<|Aja AHx AHx AHx) λO hO=>?_
   have Aa:O=tab n n (idS 0):=by
    rw [hO,AOm n (0:Int),AOm,AYg]
    exact AJ3 λr _=>AJ3 λc _=>by unfold idS;omega
   have hlen:O.length=n:=by grind
   refine AH9 (AJg (λi s=>s=(((i:Nat):Int),tab n n<|idS i)/\i<=n) n (Q:=(· =tab n n dl)) ⟨by rw [Aa];rfl,Nat.zero_le _⟩ AHx λi s hi hI=>?_) λe he=>AH4 (by rw [he])
   obtain ⟨rfl,hin⟩:=hI
   unfold AQx
   dsimp only
   rw [hlen]
   refine AI4 (λh=>?_) λh=>AH4 ?_
   ·have hi':i < n:=by omega
    refine AI8 (AJo hi') rfl (AH9 (Q:=(· =1)) ⟨1,if_pos AHx,rfl⟩ λy hy=>AI8 (AI5 hi') rfl (AH4 ⟨AHx,?_,AHx⟩))
    subst hy
    rw [wk AHx,Akg]
    refine Prod.ext AHx<|AS5 λr c hr hc=>?_
    rw [AJa]
    unfold idS
    omega
   ·refine AS5 λr c hr hc=>?_
    unfold idS dl
    omega
def toS (n:Nat) (F:AIe) (i:Nat):List (List Int):=AK7 n λr=>if r < i then AK7 n (F r) else []
def toR (n:Nat) (F:AIe) (i j:Nat):List (List Int):=AK7 n λr=>if r < i then AK7 n (F r) else if r=i then AK7 n (λc=>if c < j then F i c else 0) else []
theorem A7s {n:Nat} (hn:1<=n) (Ac:n<=16) (hb:∀ i j,i < n->j < n->(F i j).natAbs < 9223372036854775808) (hf:100 < fuel):AOw fuel (tab n n F)=some (tab n n F,true):=by
 apply ok_eq;unfold AOw;refine AH9 (AJ2<|Akw hn Ac hf) λx hx=>?_;subst hx;dsimp only;refine AI4 (λh=>absurd h AHz) λ_=>AJ4 AHx<|AH9 (AJg (λi s=>s=(((i:Nat):Int),toS n F i)/\i<=n) n (Q:=λex=>match ex with | .inl _=>False | .inr e=>e=tab n n F) ⟨?_,Nat.zero_le _⟩ AHx λi s hi hI=>?_) λex hex=>?_
 ·rw [Int.toNat_natCast,AOm];exact congrArg (Prod.mk (0:Int)) (AJ3 λr _=>by grind)
 ·obtain ⟨rfl,hin⟩:=hI;unfold AR4;dsimp only;rw [List.length_replicate,Int.toNat_natCast];refine AI4 (λh=>AJ4 AHx ?_) λh=>AH4 ?_
  ·have hi':i < n:=by omega
   have e0:sI (toS n F i) (i:Int) (List.replicate n (0:Int))=toR n F i 0:=by
    rw [AKf];unfold toS;rw [AL7]
    refine AJ3 λr _=>?_
    by_cases h1:r=i
    ·rw [if_pos h1,if_neg AHx,if_pos h1,AOm];grind
    grind
   refine AI8 (n:=i) (AI5 hi') rfl ?_;rw [e0];refine AI8 (n:=i) (AI5 hi') rfl ?_;rw [if_neg AHx,if_pos rfl];refine AH9 (AJg (λj s=>s=(((j:Nat):Int),toR n F i j)/\j<=n) n (Q:=λex=>match ex with | .inl _=>False | .inr e=>e=toS n F (i + 1)) ⟨rfl,Nat.zero_le _⟩ AHx λj s hj hJ=>?_) λex hex=>?_
   ·obtain ⟨rfl,hjn⟩:=hJ;unfold AR3;dsimp only;rw [AJ5];refine AI4 (λh2=>?_) λh2=>AH4 ?_
    ·have hj':j < n:=by omega
     refine AI8 (AJo hi') rfl (AI8 (AI5 hj') rfl (AH9 (Q:=(· =(F i j,true))) ⟨_,if_pos<|hb i j hi' hj',rfl⟩ λy hy=>?_));subst hy;dsimp only;refine AI4 (λh=>absurd h AHz) λ_=>AI8 (n:=i) (AI5 hi') rfl ?_;rw [if_neg AHx,if_pos rfl];refine AI8 (AI5 hj') rfl (AH4 ⟨AHx,?_,AHx⟩);rw [wk AHx,AKf,AKf];refine Prod.ext AHx ?_;dsimp only;unfold toR;rw [AL7,AL7];refine AJ3 λr _=>?_;by_cases h1:r=i
     ·grind
     grind
    ·refine AJ3 λr _=>?_;by_cases h1:r < i
     ·grind
     ·rw [if_neg h1];by_cases h3:r=i
      ·rw [if_pos h3,if_pos AHx,h3];exact AJ3 λc hc=>by omega
      grind
   ·cases ex with
    | inl e=>exact hex.elim
    | inr e=>exact AH4 ⟨AHx,by rw [wk AHx,hex];simp,AHx⟩
  ·refine AJ3 λr hr=>?_;rw [if_pos AHx];rfl
 ·cases ex with
  | inl e=>exact hex.elim
  | inr e=>exact AH4 (by rw [hex])
theorem Aaa {S E:Type} {body:S->Option (S ⊕ E)} {Q:E->Prop} (I:S->Prop) (μ:S->Nat) (hs:∀ s,I s->Ok (body s) λr=>match r with | .inl s'=>I s'/\μ s' < μ s | .inr e=>Q e):∀ {fuel:Nat} {s0:S},I s0->μ s0 < fuel->Ok (iter body fuel s0) Q:=by
 intro fuel;induction fuel with
 | zero=>omega
 | succ f ih=>
   intro s0 h0 hf;obtain ⟨r,hr,hq⟩:=hs s0 h0;cases r with
   | inl s'=>
     obtain ⟨e,he,hQ⟩:=ih hq.1 AHx;exact ⟨e,by simp [iter,hr,he],hQ⟩
   | inr e=>exact ⟨e,by simp [iter,hr],hq⟩
theorem AZi (a:Int):AOr a=0↔a=0:=by unfold AOr;omega
theorem At0 (a:Int):AOr a < 0↔a < 0:=by unfold AOr;omega
theorem Azd {b:Int} (ha:a.natAbs < AM1) (hb:b.natAbs < AM1) (h0:b≠0):ALv fuel a b=some (a / b):=by
 apply ok_eq;unfold ALv;refine AH9 (AJ2 (a:=(a / b,a % b,true))<|if_pos ⟨ha,hb,h0⟩) λx hx=>?_;subst hx;exact AH4 rfl
theorem A7t {b:Int} (ha:a.natAbs < AM1) (hb:b.natAbs < AM1) (h0:b≠0):AQj fuel a b=some (a % b):=by
 apply ok_eq;unfold AQj;refine AH9 (AJ2 (a:=(a / b,a % b,true))<|if_pos ⟨ha,hb,h0⟩) λx hx=>?_;subst hx;exact AH4 rfl
theorem A7u {b:Int} (ha:a.natAbs < AM1) (hb:b.natAbs < AM1) (h0:b≠0) (hf:AM1 < fuel):Ok (AQn fuel a b) λg=>0 < g/\g ∣ a/\g ∣ b:=by
 unfold AQn;refine AH9 (AJ2 (a:=(a.natAbs:Int)) rfl) λx hx=>AH9 (AJ2 (a:=(b.natAbs:Int)) rfl) λy hy=>?_;subst hx;subst hy;refine AH9 (Aaa (λs:Int × Int=>0<=s.1/\0<=s.2/\s.1.natAbs < AM1/\s.2.natAbs < AM1/\(0 < s.1∨0 < s.2)/\ ∀ d:Int,d ∣ s.1->d ∣ s.2->d ∣ a/\d ∣ b) (λs=>s.2.natAbs) (Q:=λg=>0 < g/\g ∣ a/\g ∣ b) (λs hs=>?_) ⟨AHx,AHx,AHx,AHx,.inr AHx,λd h1 h2=>⟨Int.dvd_natAbs.1 h1,Int.dvd_natAbs.1 h2⟩⟩ AHx) λg hg=>AH4 hg;obtain ⟨u,v⟩:=s;obtain ⟨h1,h2,h3,h4,h5,h6⟩:=hs;unfold AT9;dsimp only at h1 h2 h3 h4 h5 h6 ⊢;refine AH9 (AJ2 (a:=AOr v) rfl) λs hs=>?_;subst hs;refine AI4 (λhv=>?_) λhv=>AH4 ?_
 ·have Ad:v≠0:=λh=>hv<|(AZi v).2 h;refine AH9 (AJ2<|A7t h3 h4 Ad) λr hr=>AH4 ?_;subst hr;have e1:=Int.emod_nonneg u Ad;have e2:=Int.emod_lt_of_pos u (show 0 < v by omega);refine ⟨⟨h2,e1,h4,AHx,.inl AHx,λd d1 d2=>h6 d ?_ d1⟩,AHx⟩;have:=Int.dvd_add d2<|Int.dvd_trans d1 ⟨u / v,rfl⟩;rwa [Int.emod_add_mul_ediv] at this
 ·have Ad:v=0:=by
   rcases Decidable.em (AOr v=0) with h | h
   ·exact (AZi v).1 h
   omega
  simp_all
def FrE (n d n' d':Int):Prop:=0 < d'/\n' * d=n * d'/\n'.natAbs<=n.natAbs/\d'.natAbs<=d.natAbs
theorem A3x {b:Int} (ha:a.natAbs < AM1) (hb:b.natAbs < AM1) (h0:b≠0) (hf:AM1 < fuel):Ok (AO5 fuel a b) λr=>r.2=true/\FrE a b r.1.1 r.1.2:=by
 unfold AO5;refine AH9 (AJ2 (a:=AOr b) rfl) λs hs=>?_;subst hs;refine AI4 (λh=>absurd ((AZi b).1 h) h0) λ_=>AH9 (Q:=λe:Int × Int=>0 < e.2/\e.1 * b=a * e.2/\e.1.natAbs=a.natAbs/\e.2.natAbs=b.natAbs) (AH9 (AJ2 (a:=AOr b) rfl) λs hs=>?_) λe he=>?_
 ·subst hs;refine AI4 (λh=>?_) λh=>AH4 ⟨?_,rfl,rfl,rfl⟩
  ·have:=(At0 b).1 h;refine AH9 (AJ2 (a:= -a) rfl) λx hx=>AH9 (AJ2 (a:= -b) rfl) λy hy=>AH4 ?_;grind
  ·have: ¬ b < 0:=λh2=>h<|(At0 b).2 h2;omega
 ·obtain ⟨u,v⟩:=e;obtain ⟨h1,h2,h3,h4⟩:=he;dsimp only at h1 h2 h3 h4 ⊢;refine AH9 (A7u (a:=u) (b:=v) AHx AHx AHx hf) λg hg=>?_;obtain ⟨g1,⟨u',rfl⟩,⟨v',rfl⟩⟩:=hg;have gn:g≠0:=by omega
  have hv':0 < v':=Int.pos_of_mul_pos_right h1 g1;have e1:(g * u').natAbs=g.natAbs * u'.natAbs:=Int.natAbs_mul _ _;have e2:(g * v').natAbs=g.natAbs * v'.natAbs:=Int.natAbs_mul _ _;have g2:1<=g.natAbs:=by omega
  have m1:=Nat.mul_le_mul_right u'.natAbs g2;have m2:=Nat.mul_le_mul_right v'.natAbs g2;have m3:=Nat.mul_le_mul_left g.natAbs (show 1<=v'.natAbs by omega);refine AH9 (AJ2<|Azd AHx AHx gn) λx hx=>AH9 (AJ2<|Azd AHx AHx gn) λy hy=>AH4 ⟨rfl,?_⟩;subst hx;subst hy;rw [Int.mul_ediv_cancel_left _ gn,Int.mul_ediv_cancel_left _ gn];refine ⟨hv',?_,by grind,by grind⟩;have:g * (u' * b)=g * (a * v'):=by grind
  exact Int.eq_of_mul_eq_mul_left gn this
theorem Anq {b:Int} (ha:a.natAbs < AM1) (hb:b.natAbs < AM1) (h0:b≠0) (hf:AM1 < fuel):Ok (AKy fuel a b) λr=>FrE a b r.1 r.2:=by
 unfold AKy;refine AH9 (A3x ha hb h0 hf) λr hr=>?_;obtain ⟨⟨x,y⟩,c⟩:=r;obtain ⟨h1,h2⟩:=hr;dsimp only at h1 h2 ⊢;subst h1;exact AI4 (λh=>absurd h AHz) λ_=>AH4 h2
theorem A5j {b:Int} (ha:a.natAbs < AM1) (hb:b.natAbs < AM1) (h0:b≠0) (hf:AM1 < fuel):Ok (AN5 fuel a b) λr=>FrE a b r.1 r.2:=by
 unfold AN5;exact AH9 (Anq ha hb h0 hf) λr hr=>AH4 hr
theorem Ap2 {N D N' D':Int} (hD:0 < D) (hD':0 < D') (h:N * D'=N' * D):N / D=N' / D':=by
 rw [<- Int.mul_ediv_mul_of_pos_left N D hD',h,Int.mul_comm D D',Int.mul_ediv_mul_of_pos_left N' D' hD]
theorem A5k {b:Int} (hab:4 * (a.natAbs + b.natAbs) < AM1) (h0:0 < b) (hf:AM1 < fuel):Ok (AOl fuel a b) λr=>r=(2 * a + b) / (2 * b):=by
 have Ag:(1:Int).natAbs < AM1:=by
  omega
 have Ah:(2:Int).natAbs < AM1:=by
  omega
 unfold AOl;refine AH9 (Q:=(· =(1,2))) ?_ λhh he=>?_
 ·unfold ASh;exact AH9 (Q:=(· =1)) ⟨1,if_pos AHx,rfl⟩ λx hx=>AH9 (Q:=(· =2)) ⟨2,if_pos AHx,rfl⟩ λy hy=>AH4 (by rw [hx,hy])
 subst he;dsimp only;refine AH9 (Q:=λr=>0 < r.2/\r.1 * (2 * b)=(2 * a + b) * r.2/\r.1.natAbs < AM1/\r.2.natAbs < AM1) ?_ λr hr=>?_
 ·unfold AS4;refine AH9 (Anq AHx AHx AHx hf) λx hx=>AH9 (Anq (a:=1) (b:=2) Ag Ah AHx hf) λy hy=>?_;obtain ⟨x1,x2⟩:=x;obtain ⟨y1,y2⟩:=y;obtain ⟨a1,a2,a3,a4⟩:=hx;obtain ⟨b1,b2,b3,b4⟩:=hy;dsimp only at *;obtain rfl:y2=2:=by omega
  obtain rfl:y1=1:=by omega
  refine AH9 (AJ2 (a:=x1 * 2)<|if_pos<|by grind) λu hu=>AH9 (AJ2 (a:=1 * x2)<|if_pos<|by grind) λv hv=>?_;subst hu;subst hv;refine AH9 (AJ2 (a:=x1 * 2 + 1 * x2)<|if_pos ⟨AHx,AHx⟩) λw hw=>AH9 (AJ2 (a:=x2 * 2)<|if_pos<|by grind) λz hz=>?_;subst hw;subst hz;refine AH9 (A3x AHx AHx AHx hf) λr hr=>AH4 ?_;obtain ⟨⟨r1,r2⟩,c⟩:=r;obtain ⟨-,c1,c2,c3,c4⟩:=hr;dsimp only at *;refine ⟨c1,?_,AHx,AHx⟩;have h1:x2 * (r1 * (2 * b))=x2 * ((2 * a + b) * r2):=by grind
  exact Int.eq_of_mul_eq_mul_left (show x2≠0 by omega) h1
 ·obtain ⟨r1,r2⟩:=r;obtain ⟨h1,h2,h3,h4⟩:=hr;dsimp only at *;unfold ARn;refine AH9 (Q:=λr=>r=(2 * a + b) / (2 * b)) (AH9 (Anq h3 h4 AHx hf) λx hx=>?_) λz hz=>AH4 hz;obtain ⟨x1,x2⟩:=x;obtain ⟨a1,a2,a3,a4⟩:=hx;dsimp only at *;refine AH9 (AJ2<|Azd AHx AHx AHx) λq hq=>AH4 ?_;subst hq;refine Ap2 a1 AHx ?_;have h5:r2 * (x1 * (2 * b))=r2 * ((2 * a + b) * x2):=by grind
  exact Int.eq_of_mul_eq_mul_left (show r2≠0 by omega) h5
theorem Aze {n:Nat} (hn:n<=8) (hj:j + 1 < n) (hb:∀ i j,i < n->j < n->(F i j).natAbs<=mN n) (hf:100 < fuel):Ok (AOx fuel (tab n n F) (AK7 n λa=>det (a + 1) F) ((j + 1:Nat):Int)) λr=>r=true↔LvF F j:=by
 show Ok _ λr:Bool=>r=true↔3 * (det (j + 1) F * det (j + 1) F)<=4 * (det j F * det (j + 2) F + Mn j F (j + 1) j * Mn j F (j + 1) j);unfold AOx;have w1:w64 (((j + 1:Nat):Int) - 1)=(j:Int):=by rw [wk AHx];omega
 have w2:w64 (((j + 1:Nat):Int) + 1)=((j + 2:Nat):Int):=by rw [wk AHx];omega
 rw [w1,w2];have hD:=Ayj n;have bl:(Mn j F (j + 1) j).natAbs<=gN n:=Akv hn AHx AHx AHx hb;have b0:(det j F).natAbs<=gN n:=Aei hn AHx hb;have b1:(det (j + 1) F).natAbs<=gN n:=Aei hn AHx hb;have b2:(det (j + 2) F).natAbs<=gN n:=Aei hn AHx hb;have p1:=Nat.mul_le_mul b0 b2;have p2:=Nat.mul_le_mul bl bl;have p3:=Nat.mul_le_mul b1 b1;have e1:=Int.natAbs_mul (det j F)<|det (j + 2) F;have e2:=Int.natAbs_mul (Mn j F (j + 1) j)<|Mn j F (j + 1) j;have e3:=Int.natAbs_mul (det (j + 1) F)<|det (j + 1) F;refine AH9 (AJ2<|Aku hn AHx AHx hb hf) λl hl=>?_;subst hl;refine AH9 (Q:=(· =4)) ⟨4,if_pos AHx,rfl⟩ λx hx=>?_;subst hx;refine AH9 (AJ2<|Ae7 AHx hn) λx hx=>AH9 (AJ2<|Ae7 AHx hn) λy hy=>?_;subst hx;subst hy;refine AH9 (AJ2 (a:=det j F * det (j + 2) F)<|if_pos AHx) λx hx=>AH9 (AJ2 (a:=Mn j F (j + 1) j * Mn j F (j + 1) j)<|if_pos AHx) λy hy=>?_;subst hx;subst hy;generalize det j F * det (j + 2) F=P at *;generalize Mn j F (j + 1) j * Mn j F (j + 1) j=L at *;refine AH9 (AJ2 (a:=P + L)<|if_pos AHx) λx hx=>AH9 (AJ2 (a:=4 * x)<|if_pos<|by grind) λy hy=>?_;subst hx;subst hy;refine AH9 (Q:=(· =3)) ⟨3,if_pos AHx,rfl⟩ λx hx=>?_;subst hx;refine AH9 (AJ2<|Ae7 AHx hn) λx hx=>AH9 (AJ2<|Ae7 AHx hn) λy hy=>?_;subst hx;subst hy;refine AH9 (AJ2 (a:=det (j + 1) F * det (j + 1) F)<|if_pos AHx) λx hx=>?_;subst hx;generalize det (j + 1) F * det (j + 1) F=S at *;refine AH9 (AJ2 (a:=3 * S)<|if_pos<|by grind) λx hx=>AH9 (AJ2 (a:=Abw (4 * (P + L)) x) rfl) λc hc=>AH4 ?_;subst hx;subst hc;rw [decide_eq_true_iff];unfold Abw;omega
def Ab4 (A:AIe) (i j:Nat):Int:= -((2 * Mn j A i j + det (j + 1) A) / (2 * det (j + 1) A))
def Af2 (A:AIe) (i j:Nat):AIe:=AKi dl j λq=>if q=i then Ab4 A i j else dl j q
def Ag0 (A:AIe) (i:Nat):Prop:= ∀ r l,l < r->r < i->SzF A r l
def Aim (A:AIe) (i:Nat):Prop:= ∀ r,r + 1 < i->LvF A r
def Azf (n:Nat) (A:AIe) (r:List (List Int) × Bool):Prop:=
 (r=([],false)/\Ag0 A n/\Aim A n)∨
 (∃ i j,j < i/\i < n/\¬ SzF A i j/\Ag0 A i/\(∀ l,l < i->j < l->SzF A i l)/\Aim A i/\r=(tab n n<|Af2 A i j,true))∨
 ∃ j,j + 1 < n/\¬ LvF A j/\Ag0 A (j + 2)/\Aim A (j + 1)/\r=(tab n n<|AOg dl (j + 1) j,true)
theorem A5l {n:Nat} (Ah:1<=n) (hn:n<=8) (hp:AVl n A) (hb:∀ i j,i < n->j < n->(A i j).natAbs<=mN n) (hf:AM1 < fuel):Ok (APv fuel<|tab n n A) (Azf n A):=by
 have Ab:100 < fuel:=Nat.lt_of_le_of_lt AHz hf;have hD:=Ayj n;unfold APv;refine AH9 (AJ2<|Amd Ah hn hb Ab) λx hx=>?_;subst hx;dsimp only;rw [AJf];refine AH9 (AJ2<|Atz Ah AHx Ab) λx hx=>?_;subst hx;dsimp only;refine AH9 (AJg (λi s=>s=(((i:Nat):Int),tab n n dl)/\i<=n/\Ag0 A i/\Aim A i) n (Q:=λex=>match ex with | .inl r=>Azf n A r | .inr _=>Ag0 A n/\Aim A n) ⟨rfl,Nat.zero_le _,λr l h1 h2=>by omega,λr h=>by omega⟩ AHx λi s hi hI=>?_) λex hex=>?_
 ·obtain ⟨rfl,hin,hsz,hlv⟩:=hI;unfold ATj;dsimp only;rw [AJf];refine AI4 (λh=>?_) λh=>AH4 ?_
  ·have hi':i < n:=by omega
   refine AH9 (AJg (λk s=>s=((i:Int) - 1 - k,tab n n dl)/\k<=i/\ ∀ l,l < i->i<=l + k->SzF A i l) i (Q:=λex=>match ex with | .inl r=>Azf n A r | .inr e=>e=tab n n dl/\ ∀ l,l < i->SzF A i l) ⟨by rw [wk AHx];simp,Nat.zero_le _,λl h1 h2=>by omega⟩ AHx λk s hk hK=>?_) λex hex=>?_
   ·obtain ⟨rfl,hki,hz⟩:=hK;unfold ATi;dsimp only;refine AI4 (λh2=>?_) λh2=>AH4 ⟨rfl,λl hl=>hz l hl AHx⟩;obtain ⟨j,hj⟩:∃ j:Nat,(i:Int) - 1 - k=j:=⟨i - 1 - k,AHx⟩;rw [hj];have hji:j < i:=by omega
    refine AH9 (AJ2<|A2m hn hi' AHx hb Ab) λb Ag=>?_;subst Ag;refine AI4 (λh3=>?_) λh3=>AH4 ⟨AHx,?_,AHx,λl h4 h5=>?_⟩
    ·have hbad: ¬ SzF A i j:=λh=>by rw [<- Atu] at h;simp [h] at h3
     refine AI8 (AJo AHx) rfl (AH9 (AJ2<|Aku hn hi' AHx hb Ab) λl hl=>?_);subst hl;rw [show w64 ((j:Int) + 1)=((j + 1:Nat):Int) by rw [wk AHx];omega];refine AH9 (AJ2<|Ae7 AHx hn) λd hd=>?_;subst hd;have bl:(Mn j A i j).natAbs<=gN n:=Akv hn hi' AHx AHx hb;have b1:(det (j + 1) A).natAbs<=gN n:=Aei hn AHx hb;have hd:=hp (j + 1) AHx;have hDD:gN n<=gN n * gN n:=Nat.le_mul_of_pos_left _ AHx;refine AH9 (A5j AHx AHx AHx hf) λq hq=>?_;obtain ⟨x,y⟩:=q;obtain ⟨q1,q2,q3,q4⟩:=hq;dsimp only at q1 q2 q3 q4 ⊢;refine AH9 (A5k AHx q1 hf) λm hm=>AH9 (AJ2 (a:= -m) rfl) λc hc=>?_
     have Ao:c=Ab4 A i j:=by
      rw [hc,hm]
      unfold Ab4
      congr 1
      refine Ap2 AHx AHx ?_
      grind
     clear hm hc;refine AI8 (AI5 hi') rfl (AH4<|.inr<|.inl ⟨i,j,hji,hi',hbad,hsz,λl h4 h5=>hz l h4 AHx,hlv,?_⟩);rw [AKf,AKf,AL7,Ao,show (AK7 n λq=>if q=i then Ab4 A i j else dl j q)=(List.range n).map λq=>if q=i then Ab4 A i j else dl j q from rfl,AS8];rfl
    ·rw [wk AHx];grind
    ·have hgood:SzF A i j:=by rw [<- Atu];simpa using h3
     grind
   ·cases ex with
    | inl r=>exact AH4 hex
    | inr e=>
      obtain ⟨rfl,hzi⟩:=hex
      have hsz':Ag0 A (i + 1):=λr l h1 h2=>by
       rcases Nat.lt_or_ge r i with h3 | h3
       ·exact hsz r l h1 h3
       grind
      dsimp only
      have nx:w64 ((i:Int) + 1)=((i + 1:Nat):Int):=by rw [wk AHx];omega
      refine AI4 (λh4=>?_) λh4=>AH4 ⟨AHx,by rw [nx],AHx,hsz',λr hr=>by omega⟩
      obtain ⟨j,rfl⟩:∃ j,i=j + 1:=⟨i - 1,AHx⟩
      refine AH9 (Aze hn hi' hb Ab) λb Ag=>?_
      refine AI4 (λh5=>?_) λh5=>AH4 ⟨AHx,by rw [nx],AHx,hsz',λr hr=>?_⟩
      ·have hbad: ¬ LvF A j:=λh=>by grind
       rw [show w64 (((j + 1:Nat):Int) - 1)=(j:Int) by rw [wk AHx];omega]
       refine AI8 (AJo AHx) rfl (AI8 (AJo hi') rfl (AH4<|.inr<|.inr ⟨j,hi',hbad,hsz',hlv,?_⟩))
       rw [AKf,AKf,show AK7 n (dl j)=(List.range n).map (dl j) from rfl,show AK7 n (dl<|j + 1)=(List.range n).map (dl<|j + 1) from rfl,AS8,AS8]
       rfl
      ·have hgood:LvF A j:=Ag.1 (by simpa using h5)
       rcases Nat.lt_or_ge r j with h6 | h6
       ·exact hlv r AHx
       grind
  grind
 ·cases ex with
  | inl r=>exact AH4 hex
  | inr u=>exact AH4<|.inl ⟨rfl,hex⟩
end Go.Proofs.YtegoafpaljeobaaGreatDoor
