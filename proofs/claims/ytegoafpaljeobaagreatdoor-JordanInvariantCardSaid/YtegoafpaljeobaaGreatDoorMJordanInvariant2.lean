/-
  Texts of a proof, joined. Conditions stand in each statement.
-/
import Derived.ArgAppend
import Derived.Test.YtegoafpaljeobaaGreatDoorMJordanInvariant1
set_option linter.unusedVariables false
set_option linter.unusedSimpArgs false
set_option maxRecDepth 100000
open Go Go.QF
variable {listed:Array Bool} {ts:Array TypeId} {st:Bool} {Q:Exit->Act->World->Prop} {f:FuncId} {h h0 h1 h':Go.QF.AH8} {B:Go.QF.AH8->Prop} {K:Go.QF.Env->Go.QF.AH8->Prop} {a r d:Int} {k κ κ':IntKind} {Gs Gs':List (List Nat)} {Ls:List (List Value)} {parts:List (Nat × Operand)} {LA LB R T F G F':List Nat} {xs:List Operand} {rs c1 c2 c' rs':List Value} {i la lb j t er el er0 tr tl bytes g tb fuel el0:Nat} {s x y:Operand} {P:Program} {α:Type} {t2 ty:TypeId} {v va vb v':Value}
namespace Go.Proofs.YtegoafpaljeobaaGreatDoor
theorem ARe {lo:Nat} {L:List Nat} (H:DS h lo v L) (hn:L.length<=1000000):AI7 Tryz.prog 132 #[v] h λx h'=>Ext h h'/\ ∃ L',DS h' (Array.size h) x L'/\TL L'/\nv L'=nv L/\L'.length<=L.length:=by
 refine AJi (l:=[_]) mx Tryz.func132 rfl rfl rfl rfl rfl AIb (AH1<|AJd<|AHy<|AKc AIy rfl H (AH7<|AH3<|AH6<|AMc 262088 (λn:Nat=>[(3,.int .i64 (n:Int))]) (λk n h'=>h'=h/\n=k/\n<=L.length/\nv (L.take n)=nv L) AIb L.length L.length ?_ ⟨rfl,trivial⟩ ?_))
 ·exact ⟨rfl,rfl,Nat.le_refl _,by rw [List.take_length]⟩
 rintro k n s1 h ⟨rfl,rfl,hi,hv⟩;refine AH3<|AH1<|AHy<|AZu rfl rfl (λAi=>?_) (λAi=>?_)
 ·refine AHy<|AJ6 8 true AIb rfl rfl (AHy<|AJ6 8 true AIb rfl rfl (AHy<|AJ6 8 true AIb rfl rfl (AU7 rfl rfl AHx AHx ?_)));rw [show ((n:Nat):Int) - 1=((n - 1:Nat):Int) by omega];obtain ⟨x,hx⟩:∃ x,L[n - 1]? =some x:=⟨_,List.getElem?_eq_getElem AHx⟩;refine AJ6 8 true AIb rfl rfl (ARd AIy rfl H rfl hx λAp Aj=>AJ6 8 true AIb rfl rfl (AI1 AKz rfl Aj (AJ6 8 true AIb rfl rfl (Abr rfl rfl (λAk=>?_) (λAk=>?_)))))
  ·refine AIm rfl (AH5<|AI2 rfl (AIa<|q_t<|AH6<|AIf<|AHy<|AU7 rfl rfl AHx AHx ?_));rw [show ((n:Nat):Int) - 1=((n - 1:Nat):Int) by omega];have Am:x=0:=by omega
   refine AIw<|AIu<|q_b<|q_t ?_;exact ⟨n - 1,n - 1,AHx,⟨rfl,rfl,AHx,by rw [<- hv];have:=AKl hx;rw [show n - 1 + 1=n by omega] at this;rw [this,Am];simp⟩,rfl,trivial⟩
  ·refine AIm rfl (AH5<|AI6 rfl (AIq<|AIr<|AIr<|AJt<|q_t<|AH1<|AHy<|AHy<|Ams AIy rfl H.sl H.cap rfl (by rw [List.length_map];omega) λv9 Ad Ae Ab=>?_));have Af:DS h lo v9 (L.take n):=⟨by rw [List.map_take];exact Ad,Ae,Agi H.dig n,λg hg=>H.lo g<|Ab ▸ hg,λg hg=>H.tg g<|Ab ▸ hg⟩;refine A3k AIy AT5 (λ_=>trivial) rfl rfl Af AHz (by rw [List.length_take];omega) λv2 h2 Ag E2=>?_;have Aq:=E2.1;have Z3:=(Ext.refl h).trans E2;refine AH7<|AIc<|⟨_,AId,?_⟩;refine ⟨E2,L.take n,Ag,?_,hv,by rw [List.length_take];omega⟩
   first
   | (have h0:n=0:=by omega
      subst h0;exact Abc)
   | exact Asu hx AHx AHx
 ·refine AHy<|AJw 8 false AIb rfl rfl (AJw 8 false AIb rfl rfl (AJw 8 false AIb rfl rfl (AJw 8 false AIb rfl rfl (AJw 8 false AIb rfl rfl (AJw 8 false AIb rfl rfl (AIn rfl (AH5<|AI6 rfl (AIq<|AIr<|AIr<|AJt<|q_t<|AH1<|AHy<|AHy<|Ams AIy rfl H.sl H.cap rfl (by rw [List.length_map];omega) λv9 Ad Ae Ab=>?_))))))));have Af:DS h lo v9 (L.take n):=⟨by rw [List.map_take];exact Ad,Ae,Agi H.dig n,λg hg=>H.lo g<|Ab ▸ hg,λg hg=>H.tg g<|Ab ▸ hg⟩;refine A3k AIy AT5 (λ_=>trivial) rfl rfl Af AHz (by rw [List.length_take];omega) λv2 h2 Ag E2=>?_;have Au:=E2.1;have Z5:=(Ext.refl h).trans E2;refine AH7<|AIc<|⟨_,AId,?_⟩;refine ⟨E2,L.take n,Ag,?_,hv,by rw [List.length_take];omega⟩
  first
  | (have h0:n=0:=by omega
     subst h0;exact Abc)
  | exact Asu hx AHx AHx
theorem AW6 (w:World):(Instr.build 81 #[]).run Tryz.prog w= .ok (.agg #[.bool false,.slice none 0 0]) w:=by kernel_rfl
theorem Agm (b:Bool) (a:Option Addr) (n c:Nat) (w:World):(Instr.build 81 #[(0,.bool b),(1,.slice a n c)]).run Tryz.prog w= .ok (.agg #[.bool b,.slice a n c]) w:=by kernel_rfl
theorem Abv (b:Bool):sgn b 0=0:=by cases b <;> rfl
theorem AVd {lo:Nat} {s:Value} {L:List Nat} (neg:Bool) (H:DS h lo s L) (hn:L.length<=1000000) (hb:nv L < 4294967296 ^ 100):AI7 Tryz.prog 137 #[.bool neg,s] h λx h'=>Ext h h'/\ZV h' (Array.size h) x (sgn neg<|nv L):=by
 refine AJi (l:=[_,_]) mx Tryz.func137 rfl rfl rfl rfl rfl AIb (AH1<|APa [.bool false,.slice none 0 0] ANt rfl (λ_=>trivial) λAa h2 V3 E4 Ay Bf=>?_);have Bg:Array.size h<=Aa:=Ay;have Bh:=E4.1;have Z8:=(Ext.refl h).trans E4;refine AQs<|AHy<|AIz trivial rfl (ARe (H.ext E4) AHx) λx9 Bj hk=>?_;obtain ⟨Aj,L1,Af,Ah,Ac,Bl⟩:=hk;refine ⟨trivial,?_⟩;have Bm:=Aj.1;have Ar:=Z8.trans Aj;have Au:=E4.trans Aj;have Av:=V3.ext Aj;have Aw:=E4.trans Aj;obtain ⟨a1,n1,c1,rfl,Bn⟩:=Af.cap;refine AJd<|AHy ?_;cases Bo:neg
 ·refine AHy<|AJw 9 false AIb rfl rfl (AJw 9 false AIb rfl rfl (AJw 9 false AIb rfl rfl (AIn rfl (AHy<|ALe (v:= .agg #[.bool false,.slice a1 n1 c1]) (Agm false a1 n1 c1)<|AKo [.bool false,.slice a1 n1 c1] AJz rfl rfl rfl rfl (ARw Af.cap) Av λBp A3 Ak=>?_))));have A4:=Au.thenUpd Ak (λk hk=>by have Ag:k=Aa:=hk;omega);have Bq:=Ak.1;have Br:=Ar.thenUpd Ak (λk hk=>by have Ag:k=Aa:=hk;omega);have Bt:=Aw.thenUpd Ak (λk hk=>by have Ag:k=Aa:=hk;omega);have A5:=Af.updLo Ak AHx;refine AH5<|AIc<|⟨_,AKs AJz rfl rfl A3,?_⟩;have Am:L1.length<=100:=AUq Ah (by rw [Ac];exact hb);refine ⟨A4,⟨false,_,L1,rfl,A5.mono AHx,Ah,Am,?_⟩⟩
  first
  | (rw [Ac];done)
  | (have h0:L1=[]:=List.length_eq_zero_iff.1 AHx
     rw [<- Ac,h0];exact (Abv _).trans (Abv _).symm)
 ·refine AHy<|AJ6 9 true AIb rfl rfl (AHy<|AJ6 9 true AIb rfl rfl (AKc AIy rfl Af (AJ6 9 true AIb rfl rfl (AZu rfl rfl (λA6=>?_) (λA6=>?_)))))
  ·refine AIm rfl (AHy<|ALe (v:= .agg #[.bool true,.slice a1 n1 c1]) (Agm true a1 n1 c1)<|AKo [.bool true,.slice a1 n1 c1] AJz rfl rfl rfl rfl (ARw Af.cap) Av λBu A7 Ap=>?_);have A8:=Au.thenUpd Ap (λk hk=>by have Ag:k=Aa:=hk;omega);have Bv:=Ap.1;have Bw:=Ar.thenUpd Ap (λk hk=>by have Ag:k=Aa:=hk;omega);have Bx:=Aw.thenUpd Ap (λk hk=>by have Ag:k=Aa:=hk;omega);have A9:=Af.updLo Ap AHx;refine AH5<|AIc<|⟨_,AKs AJz rfl rfl A7,?_⟩;have Am:L1.length<=100:=AUq Ah (by rw [Ac];exact hb);refine ⟨A8,⟨true,_,L1,rfl,A9.mono AHx,Ah,Am,?_⟩⟩
   first
   | (rw [Ac];done)
   | (have h0:L1=[]:=List.length_eq_zero_iff.1 AHx
      rw [<- Ac,h0];exact (Abv _).trans (Abv _).symm)
  ·refine AIm rfl (AHy<|ALe (v:= .agg #[.bool false,.slice a1 n1 c1]) (Agm false a1 n1 c1)<|AKo [.bool false,.slice a1 n1 c1] AJz rfl rfl rfl rfl (ARw Af.cap) Av λBy Ba Aq=>?_);have Bb:=Au.thenUpd Aq (λk hk=>by have Ag:k=Aa:=hk;omega);have Bz:=Aq.1;have B2:=Ar.thenUpd Aq (λk hk=>by have Ag:k=Aa:=hk;omega);have B3:=Aw.thenUpd Aq (λk hk=>by have Ag:k=Aa:=hk;omega);have Bc:=Af.updLo Aq AHx;refine AH5<|AIc<|⟨_,AKs AJz rfl rfl Ba,?_⟩;have Am:L1.length<=100:=AUq Ah (by rw [Ac];exact hb);refine ⟨Bb,⟨false,_,L1,rfl,Bc.mono AHx,Ah,Am,?_⟩⟩
   first
   | (rw [Ac];done)
   | (have h0:L1=[]:=List.length_eq_zero_iff.1 AHx
      rw [<- Ac,h0];exact (Abv _).trans (Abv _).symm)
theorem Ale {lo:Nat} {z:Int} (HA:ZV h lo va z):AI7 Tryz.prog 100 #[va] h λx h'=>Ext h h'/\ZV h' (Array.size h) x (z):=by
 obtain ⟨na,sa,LA,rfl,HDa,htla,hla,hza⟩:=HA.out;have hna:LA.length<=1000000:=by omega
 have hba:nv LA < 4294967296 ^ 100:=Nat.lt_of_lt_of_le (AVx HDa.dig)<|Nat.pow_le_pow_right AHz hla;refine AJi (l:=[_]) mx Tryz.func100 rfl rfl rfl rfl rfl AIb (AH1<|AR0 [.bool na,sa] (λ_=>trivial) rfl rfl λAg h2 V3 E4 Aq Bf=>?_);have Bg:Array.size h<=Ag:=Aq;have Bh:=E4.1;have Z8:=(Ext.refl h).trans E4;refine APa [.bool false,.slice none 0 0] ANt rfl (λ_=>trivial) λAa Bi Au Ab Av Bj=>?_;have Bl:Array.size h<=Aa:=Nat.le_trans E4.1 Av;have nebq1bq9:Ag≠Aa:=by have:=V3.lt;omega
 have Bm:=Ab.1;have Aw:=Z8.trans Ab;have Ai:=E4.trans Ab;have Aj:=V3.ext Ab;have Ax:=E4.trans Ab;refine AQs<|AOe (fs:=1) ATz AIb AHz rfl (AI1 ANf rfl (Aj.cell (i:=0) rfl) (AOe (fs:=1) AUj AIb AHz rfl (AI1 AQb rfl (Aj.cell (i:=1) rfl) (AIz trivial rfl (AVd na (HDa.ext Ai) hna hba) λBn Bo hk=>?_))));obtain ⟨Ac,Ay⟩:=hk;refine ⟨trivial,?_⟩;have Bp:=Ac.1;have Az:=Aw.trans Ac;have A3:=Ai.trans Ac;have A4:=Ax.trans Ac;have A5:=Au.ext Ac;have A6:=Ab.trans Ac;obtain ⟨Ak,s3,L3,rfl,Ao,A8,A9,Ap⟩:=Ay.out;refine AKo [.bool Ak,s3] AJz rfl rfl rfl rfl (ARw Ao.cap) A5 λBq Ba Ad=>?_;have Bb:=A3.thenUpd Ad (λk hk=>by have Af:k=Aa:=hk;omega);have Br:=Ad.1;have Bt:=Az.thenUpd Ad (λk hk=>by have Af:k=Aa:=hk;omega);have Bu:=A6.thenUpd Ad (λk hk=>by have Af:k=Aa:=hk;omega);have Bv:=A4.thenUpd Ad (λk hk=>by have Af:k=Aa:=hk;omega);have Bc:=Ao.updLo Ad AHx;refine AH5<|AIc<|⟨_,AKs AJz rfl rfl Ba,?_⟩;exact ⟨Bb,⟨Ak,s3,L3,rfl,Bc.mono AHx,A8,A9,by first | (rw [<- Ap,hza];done) | (rw [<- Ap,hza];cases na <;> simp [sgn])⟩⟩
theorem As1 {lo:Nat} {z:Int} (HA:ZV h lo va z):AI7 Tryz.prog 104 #[va] h λx h'=>Ext h h'/\ZV h' (Array.size h) x (-z):=by
 obtain ⟨na,sa,LA,rfl,HDa,htla,hla,hza⟩:=HA.out;have hna:LA.length<=1000000:=by omega
 have hba:nv LA < 4294967296 ^ 100:=Nat.lt_of_lt_of_le (AVx HDa.dig)<|Nat.pow_le_pow_right AHz hla;refine AJi (l:=[_]) mx Tryz.func104 rfl rfl rfl rfl rfl AIb (AH1<|AR0 [.bool na,sa] (λ_=>trivial) rfl rfl λAg h2 V3 E4 Aq Bf=>?_);have Bg:Array.size h<=Ag:=Aq;have Bh:=E4.1;have Z8:=(Ext.refl h).trans E4;refine APa [.bool false,.slice none 0 0] ANt rfl (λ_=>trivial) λAa Bi Au Ab Av Bj=>?_;have Bl:Array.size h<=Aa:=Nat.le_trans E4.1 Av;have nebq1bq9:Ag≠Aa:=by have:=V3.lt;omega
 have Bm:=Ab.1;have Aw:=Z8.trans Ab;have Ai:=E4.trans Ab;have Aj:=V3.ext Ab;have Ax:=E4.trans Ab;refine AQs<|AOe (fs:=1) ATz AIb AHz rfl (AI1 ANf rfl (Aj.cell (i:=0) rfl) (AMp rfl (AOe (fs:=1) AUj AIb AHz rfl (AI1 AQb rfl (Aj.cell (i:=1) rfl) (AIz trivial rfl (AVd (!na) (HDa.ext Ai) hna hba) λBn Bo hk=>?_)))));obtain ⟨Ac,Ay⟩:=hk;refine ⟨trivial,?_⟩;have Bp:=Ac.1;have Az:=Aw.trans Ac;have A3:=Ai.trans Ac;have A4:=Ax.trans Ac;have A5:=Au.ext Ac;have A6:=Ab.trans Ac;obtain ⟨Ak,s3,L3,rfl,Ao,A8,A9,Ap⟩:=Ay.out;refine AKo [.bool Ak,s3] AJz rfl rfl rfl rfl (ARw Ao.cap) A5 λBq Ba Ad=>?_;have Bb:=A3.thenUpd Ad (λk hk=>by have Af:k=Aa:=hk;omega);have Br:=Ad.1;have Bt:=Az.thenUpd Ad (λk hk=>by have Af:k=Aa:=hk;omega);have Bu:=A6.thenUpd Ad (λk hk=>by have Af:k=Aa:=hk;omega);have Bv:=A4.thenUpd Ad (λk hk=>by have Af:k=Aa:=hk;omega);have Bc:=Ao.updLo Ad AHx;refine AH5<|AIc<|⟨_,AKs AJz rfl rfl Ba,?_⟩;exact ⟨Bb,⟨Ak,s3,L3,rfl,Bc.mono AHx,A8,A9,by first | (rw [<- Ap,hza];done) | (rw [<- Ap,hza];cases na <;> simp [sgn])⟩⟩
theorem Agn (neg:Bool) (w:Nat) (hw:w < 18446744073709551616) (h:AH8):AI7 Tryz.prog 136 #[.bool neg,.int .u64 (w:Int)] h λx h'=>Ext h h'/\ZV h' (Array.size h) x (sgn neg w):=by
 refine AJi (l:=[_,_]) mx Tryz.func136 rfl rfl rfl rfl rfl AIb (AH1<|APa [.bool false,.slice none 0 0] ANt rfl (λ_=>trivial) λAd h2 V3 E4 Ak Bc=>?_);have Be:Array.size h<=Ad:=Ak;have Bf:=E4.1;have Z8:=(Ext.refl h).trans E4;refine AQs<|AHy<|AHy<|ASz ALc ALw rfl ?_;rw [show IntKind.u32.wrap (w:Int)=((w % 4294967296:Nat):Int) by rw [wrap_u32];omega];refine AHy<|Ajx (n:=32) rfl rfl AHz (ASz ALc ALw rfl ?_);rw [show IntKind.u32.wrap ((w:Int) / 2 ^ 32)=((w / 4294967296:Nat):Int) by rw [wrap_u32];omega];have hdg:Dig [w % 4294967296,w / 4294967296]:=by intro x hx;simp only [List.mem_cons,List.not_mem_nil,or_false] at hx;rcases hx with rfl | rfl <;> omega
 refine Aw8 ([w % 4294967296,w / 4294967296].map AV8) AIy AT5 rfl (λ_=>trivial) rfl AHx AHx rfl (by simp [AV8,isOne]) λg1 v1 h1 Ao E1 Bi Bj=>?_;have Bl:=E1.1;have Ap:=Z8.trans E1;have Aq:=E4.trans E1;have Ar:=V3.ext E1;have Au:=E4.trans E1;have Av:=Ao.ds (lo:=0) hdg<|Nat.zero_le _;have hwv:nv [w % 4294967296,w / 4294967296]=w:=by simp only [nv];omega
 refine AIz trivial rfl (AVd neg Av AI9 (by rw [hwv];exact Nat.lt_trans hw AHz)) λBm Bn hk=>?_;obtain ⟨Ab,Aw⟩:=hk;refine ⟨trivial,?_⟩;have Bo:=Ab.1;have Ax:=Ap.trans Ab;have Ay:=Aq.trans Ab;have Az:=Ar.ext Ab;have A3:=Au.trans Ab;obtain ⟨Af,s3,L3,rfl,Ah,A5,A6,A7⟩:=Aw.out;refine AKo [.bool Af,s3] AJz rfl rfl rfl rfl (ARw Ah.cap) Az λBp A8 Ac=>?_;have A9:=Ay.thenUpd Ac (λk hk=>by have Ai:k=Ad:=hk;omega);have Bq:=Ac.1;have Br:=Ax.thenUpd Ac (λk hk=>by have Ai:k=Ad:=hk;omega);have Bt:=A3.thenUpd Ac (λk hk=>by have Ai:k=Ad:=hk;omega);have Ba:=Ah.updLo Ac AHx;refine AH5<|AIc<|⟨_,AKs AJz rfl rfl A8,?_⟩;exact ⟨A9,⟨Af,s3,L3,rfl,Ba.mono AHx,A5,A6,by rw [<- A7,hwv]⟩⟩
theorem Ahm {n:Int} (hn: -9223372036854775808<=n/\n<=9223372036854775807) (h:AH8):AI7 Tryz.prog 99 #[.int .i64 n] h λx h'=>Ext h h'/\ZV h' (Array.size h) x n:=by
 refine AJi (l:=[_]) mx Tryz.func99 rfl rfl rfl rfl rfl AIb (AH1<|APa [.bool false,.slice none 0 0] ANt rfl (λ_=>trivial) λAa h2 V3 E4 Au Bf=>?_);have Bg:Array.size h<=Aa:=Au;have Bh:=E4.1;have Z8:=(Ext.refl h).trans E4;refine AH5<|AH3<|AH1<|AHy<|ANd rfl rfl (λAv=>?_) (λAv=>?_)
 ·refine AH5<|AI2 rfl (AH1<|AHy<|ASz AP8 ALc rfl ?_);rw [show IntKind.u64.wrap n=n + 18446744073709551616 by rw [wrap_u64];omega];refine Adj rfl ?_;rw [show IntKind.u64.wrap (0 - (n + 18446744073709551616))=((n.natAbs:Nat):Int) by rw [wrap_u64];omega];refine AIz trivial rfl (Agn true n.natAbs AHx _) λx9 Bj hk=>?_;obtain ⟨Ac,Aj⟩:=hk;refine ⟨trivial,?_⟩;have Bl:=Ac.1;have Aw:=Z8.trans Ac;have Ax:=E4.trans Ac;have Ay:=V3.ext Ac;have Az:=E4.trans Ac;obtain ⟨Ad,s2,L2,rfl,Ae,Am,Ao,Ap⟩:=Aj.out;refine AKo [.bool Ad,s2] AJz rfl rfl rfl rfl (ARw Ae.cap) Ay λBm A3 Af=>?_;have A4:=Ax.thenUpd Af (λk hk=>by have Ag:k=Aa:=hk;omega);have Bn:=Af.1;have Bo:=Aw.thenUpd Af (λk hk=>by have Ag:k=Aa:=hk;omega);have Bp:=Az.thenUpd Af (λk hk=>by have Ag:k=Aa:=hk;omega);have A5:=Ae.updLo Af AHx;refine AH5<|AIc<|AIt<|⟨_,AKs AJz rfl rfl A3,?_⟩;exact ⟨A4,⟨Ad,s2,L2,rfl,A5.mono AHx,Am,Ao,by rw [<- Ap];unfold sgn;first | (rw [if_pos rfl];omega) | (rw [if_neg AHz];omega)⟩⟩
 ·refine AH5<|AI6 rfl (AIa<|q_t<|AH1<|AHy<|ASz AP8 ALc rfl ?_);rw [show IntKind.u64.wrap n=((n.natAbs:Nat):Int) by rw [wrap_u64];omega];refine AIz trivial rfl (Agn false n.natAbs AHx _) λBq Br hk=>?_;obtain ⟨Ah,Aj⟩:=hk;refine ⟨trivial,?_⟩;have Bt:=Ah.1;have A6:=Z8.trans Ah;have A7:=E4.trans Ah;have A8:=V3.ext Ah;have A9:=E4.trans Ah;obtain ⟨Ad,s2,L2,rfl,Ae,Am,Ao,Ap⟩:=Aj.out;refine AKo [.bool Ad,s2] AJz rfl rfl rfl rfl (ARw Ae.cap) A8 λBu Ba Ai=>?_;have Bb:=A7.thenUpd Ai (λk hk=>by have Ag:k=Aa:=hk;omega);have Bv:=Ai.1;have Bw:=A6.thenUpd Ai (λk hk=>by have Ag:k=Aa:=hk;omega);have Bx:=A9.thenUpd Ai (λk hk=>by have Ag:k=Aa:=hk;omega);have Bc:=Ae.updLo Ai AHx;refine AH5<|AIc<|⟨_,AKs AJz rfl rfl Ba,?_⟩;exact ⟨Bb,⟨Ad,s2,L2,rfl,Bc.mono AHx,Am,Ao,by rw [<- Ap];unfold sgn;first | (rw [if_pos rfl];omega) | (rw [if_neg AHz];omega)⟩⟩
theorem Amz {lo:Nat} {L:List Nat} (H:DS h lo v L) (hn:L.length<=2):AI7 Tryz.prog 146 #[v] h λx h'=>h'=h/\x= .int .u64 (nv L:Int):=by
 refine AJi (l:=[_]) mx Tryz.func146 rfl rfl rfl rfl rfl AIb (AH1<|AJd<|AH7<|AH3<|AH1<|AH7<|AH6<|AMc 33554424 (λy:Nat × Nat=>[(4,.int .i64 (y.1:Int)),(3,.int .u64 (y.2:Int))]) (λk y h'=>h'=h/\k=L.length - y.1/\y.1<=L.length/\y.2=nv (L.take y.1)) AIb L.length (0,0) ?_ ⟨rfl,rfl,trivial⟩ ?_)
 ·exact ⟨rfl,rfl,Nat.zero_le _,rfl⟩
 rintro k ⟨i,w⟩ s1 h ⟨rfl,rfl,hi,hw⟩;dsimp only at hi hw ⊢;subst hw;refine AH3<|AH1<|AHy<|AHy<|AKc AIy rfl H (ANd rfl rfl (λAb=>?_) (λAb=>?_))
 ·refine AHy<|AJ6 9 true AIb rfl rfl (AHy<|AJ6 9 true AIb rfl rfl (ANd rfl rfl (λAc=>?_) (λAc=>?_)))
  ·refine AIm rfl (AH5<|AI2 rfl (AIa<|q_t<|AH3<|AH6 ?_));obtain ⟨x,hx⟩:∃ x,L[i]? =some x:=⟨_,List.getElem?_eq_getElem AHx⟩;have hxb:=H.dig x<|List.mem_of_getElem? hx;refine AIf<|AHy<|AHy<|AHy<|ARd AIy rfl H rfl hx λAg Ad=>AI1 AKz rfl Ad (A3i ALw ALc rfl (by rw [wrap_u64];omega) ?_);refine AHy<|AWh rfl rfl AHx AHx ?_;rw [show (32:Int) * (i:Int)=((32 * i:Nat):Int) by omega];refine Als (n:=32 * i) rfl rfl (by show 32 * i<=64;omega) ?_;have Aa:i=0∨i=1:=by omega
   have hlt:=AZy H.dig hi
   have hsh:IntKind.u64.wrap ((x:Int) * 2 ^ (32 * i))=((2 ^ (32 * i) * x:Nat):Int):=by
    rw [wrap_u64]
    rcases Aa with rfl | rfl
    ·simp;omega
    ·simp;omega
   rw [hsh]
   have Ae:2 ^ (32 * i) * x < 18446744073709551616:=by
    rcases Aa with rfl | rfl
    ·simp;omega
    ·simp;omega
   have Af:nv (L.take i) < 18446744073709551616:=by
    rcases Aa with rfl | rfl
    ·simp at hlt ⊢;omega
    ·simp at hlt ⊢;omega
   refine Afy rfl rfl (.inr<|.inl rfl) (Axa Af Ae) ?_;rw [Axb (by rw [<- Afz];exact hlt),<- Afz,<- AKl hx];refine AIw<|AIu<|q_b<|q_t<|AIf<|AHy<|ASf rfl AHx (AH7 ?_);exact ⟨L.length - (i + 1),(i + 1,nv<|L.take<|i + 1),by first | omega | (dsimp only;omega),⟨rfl,rfl,by first | omega | (dsimp only;omega),rfl⟩,rfl,rfl,trivial⟩
  ·refine AIm rfl (AH5<|AI6 rfl (AIq<|AIr<|AIr<|AJt<|q_t<|AH1<|AHy<|AH7<|AIc<|⟨_,AId,?_⟩));obtain rfl:i=L.length:=by omega
   exact ⟨rfl,by rw [List.take_length] at *;rfl⟩
 ·refine AHy<|AJw 9 false AIb rfl rfl (AJw 9 false AIb rfl rfl (AIn rfl (AH5<|AI6 rfl (AIq<|AIr<|AIr<|AJt<|q_t<|AH1<|AHy<|AH7<|AIc<|⟨_,AId,?_⟩))));obtain rfl:i=L.length:=by omega
  exact ⟨rfl,by rw [List.take_length] at *;rfl⟩
def AOr (z:Int):Int:=if z < 0 then -1 else if z=0 then 0 else 1
theorem sign_zero {z:Int} (h:z=0):AOr z=0:=by subst h;rfl
theorem sign_neg {z:Int} (h:z < 0):AOr z= -1:=if_pos h
theorem AZ2 {z:Int} (h:0 < z):AOr z=1:=by unfold AOr;rw [if_neg AHx,if_neg AHx]
theorem Ad9 {lo:Nat} {z:Int} (HA:ZV h lo va z):AI7 Tryz.prog 130 #[va] h λx h'=>Ext h h'/\x= .int .i64 (AOr z):=by
 obtain ⟨na,sa,LA,rfl,HDa,htla,hla,hza⟩:=HA.out;have hna:LA.length<=1000000:=by omega
 have hba:nv LA < 4294967296 ^ 100:=Nat.lt_of_lt_of_le (AVx HDa.dig)<|Nat.pow_le_pow_right AHz hla;refine AJi (l:=[_]) mx Tryz.func130 rfl rfl rfl rfl rfl AIb (AH1<|AR0 [.bool na,sa] (λ_=>trivial) rfl rfl λAk h2 V3 E4 Am Av=>?_);have Aw:Array.size h<=Ak:=Am;have Ax:=E4.1;have Z8:=(Ext.refl h).trans E4;refine AH7<|AH3<|AH6<|AH1<|AOe (fs:=1) AUj AIb AHz rfl (AI1 AQb rfl (V3.cell (i:=1) rfl) (AIz trivial rfl (ARe (HDa.ext E4) hna) λx9 Az hk=>?_));obtain ⟨Ah,L1,Ap,Af,Ad,A3⟩:=hk;refine ⟨trivial,?_⟩;have A4:=Ah.1;have A5:=Z8.trans Ah;have Ae:=E4.trans Ah;have Aq:=V3.ext Ah;have A6:=E4.trans Ah;refine AKc AIy rfl Ap (Abr rfl rfl (λAr=>?_) (λAr=>?_))
 ·refine AH7 (AI2 rfl (AH1<|AH7<|AIc<|AKa<|AIt<|⟨_,AId,?_⟩))
  first
  | (have h0:L1=[]:=List.length_eq_zero_iff.1 AHx
     have h1:nv LA=0:=by rw [<- Ad,h0];rfl
     exact ⟨Ae,congrArg (Value.int .i64) (sign_zero<|hza.trans (by rw [h1];cases na <;> rfl)).symm⟩)
  | (have h1:nv LA≠0:=λh0=>by rw [<- Ad] at h0;have:=congrArg List.length<|APh Af h0;rw [List.length_nil] at this;omega
     have h3:na=true:=by assumption
     exact ⟨Ae,congrArg (Value.int .i64) (sign_neg (by rw [hza,h3];unfold sgn;rw [if_pos rfl];omega)).symm⟩)
  | (have h1:nv LA≠0:=λh0=>by rw [<- Ad] at h0;have:=congrArg List.length<|APh Af h0;rw [List.length_nil] at this;omega
     have h3:na=false:=by assumption
     exact ⟨Ae,congrArg (Value.int .i64) (AZ2 (by rw [hza,h3];unfold sgn;rw [if_neg AHz];omega)).symm⟩)
 ·refine AH7<|AI6 rfl (AH1<|AOe (fs:=1) ATz AIb AHz rfl (AI1 ANf rfl (Aq.cell (i:=0) rfl) ?_));cases A7:na
  ·refine AH7 (AI6 rfl (AIa<|q_b<|q_t<|AH1<|AH7<|AIc<|⟨_,AId,?_⟩))
   first
   | (have h0:L1=[]:=List.length_eq_zero_iff.1 AHx
      have h1:nv LA=0:=by rw [<- Ad,h0];rfl
      exact ⟨Ae,congrArg (Value.int .i64) (sign_zero<|hza.trans (by rw [h1];cases na <;> rfl)).symm⟩)
   | (have h1:nv LA≠0:=λh0=>by rw [<- Ad] at h0;have:=congrArg List.length<|APh Af h0;rw [List.length_nil] at this;omega
      have h3:na=true:=by assumption
      exact ⟨Ae,congrArg (Value.int .i64) (sign_neg (by rw [hza,h3];unfold sgn;rw [if_pos rfl];omega)).symm⟩)
   | (have h1:nv LA≠0:=λh0=>by rw [<- Ad] at h0;have:=congrArg List.length<|APh Af h0;rw [List.length_nil] at this;omega
      have h3:na=false:=by assumption
      exact ⟨Ae,congrArg (Value.int .i64) (AZ2 (by rw [hza,h3];unfold sgn;rw [if_neg AHz];omega)).symm⟩)
  ·refine AH7 (AI2 rfl (AH1<|AH7<|AIc<|AKa<|AIt<|⟨_,AId,?_⟩))
   first
   | (have h0:L1=[]:=List.length_eq_zero_iff.1 AHx
      have h1:nv LA=0:=by rw [<- Ad,h0];rfl
      exact ⟨Ae,congrArg (Value.int .i64) (sign_zero<|hza.trans (by rw [h1];cases na <;> rfl)).symm⟩)
   | (have h1:nv LA≠0:=λh0=>by rw [<- Ad] at h0;have:=congrArg List.length<|APh Af h0;rw [List.length_nil] at this;omega
      have h3:na=true:=by assumption
      exact ⟨Ae,congrArg (Value.int .i64) (sign_neg (by rw [hza,h3];unfold sgn;rw [if_pos rfl];omega)).symm⟩)
   | (have h1:nv LA≠0:=λh0=>by rw [<- Ad] at h0;have:=congrArg List.length<|APh Af h0;rw [List.length_nil] at this;omega
      have h3:na=false:=by assumption
      exact ⟨Ae,congrArg (Value.int .i64) (AZ2 (by rw [hza,h3];unfold sgn;rw [if_neg AHz];omega)).symm⟩)
def AV3 (a b:Nat):Int:=if a < b then -1 else if a=b then 0 else 1
theorem ASp {a b:Nat} (h:a < b):AV3 a b= -1:=if_pos h
theorem ASq {a b:Nat} (h:b < a):AV3 a b=1:=by unfold AV3;rw [if_neg AHx,if_neg AHx]
theorem AZ3 {a b:Nat} (h:a=b):AV3 a b=0:=by unfold AV3;rw [if_neg AHx,if_pos h]
theorem ASr {A B:List Nat} (ha:Dig A) (hb:TL B) (h:A.length < B.length):nv A < nv B:=by
 have h1:=AVx ha;have h2:=Aw7 hb (λhe=>by rw [he] at h;simp at h);have h3:4294967296 ^ A.length<=4294967296 ^ (B.length - 1):=Nat.pow_le_pow_right AHz AHx;omega
theorem ASs {A B:List Nat} (ha:Dig A) (hb:Dig B) {x y:Nat} (hl:A.length=B.length) (hx:A[i]? =some x) (hy:B[i]? =some y) (hxy:x < y) (hs:∀ q,i < q->A[q]? =B[q]?):nv A < nv B:=by
 have hi:=(List.getElem?_eq_some_iff.1 hx).1;have hd:A.drop (i + 1)=B.drop (i + 1):=List.ext_getElem? λq=>by rw [List.getElem?_drop,List.getElem?_drop];exact hs _ AHx
 have e:∀ L:List Nat,nv L=nv (L.take<|i + 1) + 4294967296 ^ (L.take<|i + 1).length * nv (L.drop<|i + 1):=λL=>by rw [<- Aet,List.take_append_drop]
 rw [e A,e B,hd,AKl hx,AKl hy,List.length_take,List.length_take,hl];have h1:=AZy ha (i:=i) AHx;have h2:4294967296 ^ i * (x + 1)<=4294967296 ^ i * y:=Nat.mul_le_mul_left _ hxy;rw [Nat.mul_add,Nat.mul_one] at h2;omega
theorem Ai4 (HA:DS h la va LA) (HB:DS h lb vb LB) (hta:TL LA) (htb:TL LB) (hna:LA.length<=1000000) (hnb:LB.length<=1000000):AI7 Tryz.prog 131 #[va,vb] h λx h'=>h'=h/\x= .int .i64 (AV3 (nv LA)<|nv LB):=by
 refine AJi (l:=[_,_]) mx Tryz.func131 rfl rfl rfl rfl rfl AIb (AH1<|AH7<|AH3<|AH1<|AHy<|AKc AIy rfl HA (AHy<|AKc AIy rfl HB (Aln rfl rfl (λAc=>?_) (λAc=>?_))))
 ·refine AH5<|AI2 rfl (AH3<|AH1<|AHy<|AKc AIy rfl HA (AHy<|AKc AIy rfl HB (ANd rfl rfl (λAd=>?_) (λAd=>?_))))
  ·refine AH5 (AI2 rfl (AH1<|AH7<|AIc<|AIt<|AIt<|⟨_,AId,?_⟩))
   first
   | exact ⟨rfl,congrArg (Value.int .i64) (ASp<|ASr HA.dig htb AHx).symm⟩
   | exact ⟨rfl,congrArg (Value.int .i64) (ASq<|ASr HB.dig hta AHx).symm⟩
   | exact ⟨rfl,congrArg (Value.int .i64) (ASp<|ASs HA.dig HB.dig AHx hx hy AHx λq hq=>hsame q AHx).symm⟩
   | exact ⟨rfl,congrArg (Value.int .i64) (ASq<|ASs HB.dig HA.dig AHx hy hx AHx λq hq=>(hsame q AHx).symm).symm⟩
   | exact ⟨rfl,congrArg (Value.int .i64) (AZ3<|congrArg nv<|List.ext_getElem? λq=>hsame q AHx).symm⟩
  ·refine AH5 (AI6 rfl (AIa<|q_t<|AH1<|AH7<|AIc<|AIt<|⟨_,AId,?_⟩))
   first
   | exact ⟨rfl,congrArg (Value.int .i64) (ASp<|ASr HA.dig htb AHx).symm⟩
   | exact ⟨rfl,congrArg (Value.int .i64) (ASq<|ASr HB.dig hta AHx).symm⟩
   | exact ⟨rfl,congrArg (Value.int .i64) (ASp<|ASs HA.dig HB.dig AHx hx hy AHx λq hq=>hsame q AHx).symm⟩
   | exact ⟨rfl,congrArg (Value.int .i64) (ASq<|ASs HB.dig HA.dig AHx hy hx AHx λq hq=>(hsame q AHx).symm).symm⟩
   | exact ⟨rfl,congrArg (Value.int .i64) (AZ3<|congrArg nv<|List.ext_getElem? λq=>hsame q AHx).symm⟩
 ·refine AH5<|AI6 rfl (AIa<|q_t<|AH3<|AH1<|AHy<|AKc AIy rfl HA (AU7 rfl rfl AHx AHx (AH7<|AH6<|AMc 2199022731312 (λi:Nat=>[(5,.int .i64<|(i:Int) - 1)]) (λk i h'=>h'=h/\i=k/\i<=LA.length/\ ∀ q,i<=q->LA[q]? =LB[q]?) AIb LA.length LA.length ?_ ⟨rfl,trivial⟩ ?_)))
  ·exact ⟨rfl,rfl,Nat.le_refl _,λq hq=>by rw [List.getElem?_eq_none hq,List.getElem?_eq_none AHx]⟩
  rintro k i s1 h ⟨rfl,rfl,hi,hsame⟩;refine AH3<|AH1<|AHy<|Ad0 rfl rfl (λAe=>?_) (λAe=>?_)
  ·refine AH5<|AI2 rfl (AIa<|q_t<|AH3<|AH6<|AH3 ?_);obtain ⟨x,hx⟩:∃ x,LA[i - 1]? =some x:=⟨_,List.getElem?_eq_getElem AHx⟩;obtain ⟨y,hy⟩:∃ y,LB[i - 1]? =some y:=⟨_,List.getElem?_eq_getElem AHx⟩;have e1:((i:Int) - 1)=((i - 1:Nat):Int):=by omega
   refine AZt AIb<|AHy<|AHy<|ARd (n:=i - 1) AIy rfl HA (show Value.int .i64 ((i:Int) - 1)=_ by rw [e1]) hx λa1 Af=>?_;refine AI1 AKz rfl Af (AHy<|AHy<|ARd (n:=i - 1) AIy rfl HB (show Value.int .i64 ((i:Int) - 1)=_ by rw [e1]) hy λa2 Ag=>?_);refine AI1 AKz rfl Ag (Aln rfl rfl (λAh=>?_) (λAh=>?_))
   ·refine AH5<|AI2 rfl (AH3<|AH3<|AZt AIb<|AHy<|AHy<|ARd (n:=i - 1) AIy rfl HA (show Value.int .i64 ((i:Int) - 1)=_ by rw [e1]) hx λa3 Ai=>?_);refine AI1 AKz rfl Ai (AHy<|AHy<|ARd (n:=i - 1) AIy rfl HB (show Value.int .i64 ((i:Int) - 1)=_ by rw [e1]) hy λa4 Aj=>?_);refine AI1 AKz rfl Aj (ANd rfl rfl (λAk=>?_) (λAk=>?_))
    ·refine AH5 (AI2 rfl (AH1<|AH7<|AIc<|AIt<|AKa<|AIt<|AIt<|AKa<|AIt<|⟨_,AId,?_⟩))
     first
     | exact ⟨rfl,congrArg (Value.int .i64) (ASp<|ASr HA.dig htb AHx).symm⟩
     | exact ⟨rfl,congrArg (Value.int .i64) (ASq<|ASr HB.dig hta AHx).symm⟩
     | exact ⟨rfl,congrArg (Value.int .i64) (ASp<|ASs HA.dig HB.dig AHx hx hy AHx λq hq=>hsame q AHx).symm⟩
     | exact ⟨rfl,congrArg (Value.int .i64) (ASq<|ASs HB.dig HA.dig AHx hy hx AHx λq hq=>(hsame q AHx).symm).symm⟩
     | exact ⟨rfl,congrArg (Value.int .i64) (AZ3<|congrArg nv<|List.ext_getElem? λq=>hsame q AHx).symm⟩
    ·refine AH5 (AI6 rfl (AIa<|q_t<|AH1<|AH7<|AIc<|AKa<|AIt<|AIt<|AKa<|AIt<|⟨_,AId,?_⟩))
     first
     | exact ⟨rfl,congrArg (Value.int .i64) (ASp<|ASr HA.dig htb AHx).symm⟩
     | exact ⟨rfl,congrArg (Value.int .i64) (ASq<|ASr HB.dig hta AHx).symm⟩
     | exact ⟨rfl,congrArg (Value.int .i64) (ASp<|ASs HA.dig HB.dig AHx hx hy AHx λq hq=>hsame q AHx).symm⟩
     | exact ⟨rfl,congrArg (Value.int .i64) (ASq<|ASs HB.dig HA.dig AHx hy hx AHx λq hq=>(hsame q AHx).symm).symm⟩
     | exact ⟨rfl,congrArg (Value.int .i64) (AZ3<|congrArg nv<|List.ext_getElem? λq=>hsame q AHx).symm⟩
   ·refine AH5<|AI6 rfl (AIa<|q_b<|q_t<|AIf<|AHy<|AU7 rfl rfl AHx AHx (AH7 ?_));exact ⟨i - 1,i - 1,AHx,⟨rfl,rfl,AHx,λq hq=>by rcases Nat.lt_or_ge q i with h2 | h2;obtain rfl:q=i - 1:=AHx;rw [hx,hy];congr 1;omega;exact hsame q h2⟩,by rw [show ((i - 1:Nat):Int) - 1=(i:Int) - 1 - 1 by omega];rfl,trivial⟩
  ·refine AH5 (AI6 rfl (AIq<|AIr<|AIr<|AJt<|q_t<|AH1<|AH7<|AIc<|⟨_,AId,?_⟩))
   first
   | exact ⟨rfl,congrArg (Value.int .i64) (ASp<|ASr HA.dig htb AHx).symm⟩
   | exact ⟨rfl,congrArg (Value.int .i64) (ASq<|ASr HB.dig hta AHx).symm⟩
   | exact ⟨rfl,congrArg (Value.int .i64) (ASp<|ASs HA.dig HB.dig AHx hx hy AHx λq hq=>hsame q AHx).symm⟩
   | exact ⟨rfl,congrArg (Value.int .i64) (ASq<|ASs HB.dig HA.dig AHx hy hx AHx λq hq=>(hsame q AHx).symm).symm⟩
   | exact ⟨rfl,congrArg (Value.int .i64) (AZ3<|congrArg nv<|List.ext_getElem? λq=>hsame q AHx).symm⟩
theorem Ara {a b:Nat} (ha:a < 4294967296) (hb:b < 4294967296) (w:World):(Op.intBits .or .u32 (a:Int) (b:Int)).run P w= .ok (.int .u32 ((a ||| b:Nat):Int)) w:=by
 have h1:(BitVec.ofInt 32 (a:Int)).toNat=a:=by rw [BitVec.toNat_ofInt];omega
 have h2:(BitVec.ofInt 32 (b:Int)).toNat=b:=by rw [BitVec.toNat_ofInt];omega
 have h3:a ||| b < 2 ^ 32:=Nat.or_lt_two_pow AHx AHx;simp only [Op.intBits];show Result.ok (Value.int .u32<|IntKind.u32.wrap ((BitVec.ofInt 32 (a:Int) ||| BitVec.ofInt 32 (b:Int)).toNat:Int)) w=_;rw [BitVec.toNat_or,h1,h2,wrap_u32,Int.emod_eq_of_lt AHx AHx]
theorem Aox {a:Nat} (ha:a < 4294967296) (w:World):(Op.intBits .and .u32 (a:Int) 1).run P w= .ok (.int .u32 ((a % 2:Nat):Int)) w:=by
 have h1:(BitVec.ofInt 32 (a:Int)).toNat=a:=by rw [BitVec.toNat_ofInt];omega
 have h2:(BitVec.ofInt 32 (1:Int)).toNat=1:=by decide
 simp only [Op.intBits];show Result.ok (Value.int .u32<|IntKind.u32.wrap ((BitVec.ofInt 32 (a:Int) &&& BitVec.ofInt 32 (1:Int)).toNat:Int)) w=_;rw [BitVec.toNat_and,h1,h2,Nat.and_one_is_mod,wrap_u32,Int.emod_eq_of_lt AHx AHx]
theorem Acr {L:List Nat} (h:L.length<=i):nv (L.take i)=nv L:=by rw [List.take_of_length_le h]
theorem A1a (HA:DS h la va LA) (HB:DS h lb vb LB) (hna:LA.length<=1000) (hnb:LB.length<=1000):AI7 Tryz.prog 161 #[va,vb] h λx h'=>Ext h h'/\ ∃ L,DS h' (Array.size h) x L/\nv L=nv LA + nv LB/\L.length<=1001:=by
 refine AJi (l:=[_,_]) mx Tryz.func161 rfl rfl rfl rfl rfl AIb (AH1<|AJd<|AJd<|AH7<|AH3<|AH1 ?_);refine AH7<|AH6<|AMc 562949953421280 (λy:Nat × Value × Nat=>[(7,.int .i64 (y.1:Int)),(5,y.2.1),(6,.int .u64 (y.2.2:Int))]) (λk y h'=>k=LA.length + LB.length - y.1/\(y.1<=LA.length∨y.1<=LB.length)/\Ext h h'/\y.2.2<=1/\ ∃ D,Gro h' 160 (Array.size h) y.2.1 (D.map AV8)/\D.length=y.1/\Dig D/\nv D + 4294967296 ^ y.1 * y.2.2=nv (LA.take y.1) + nv (LB.take y.1)) AIb (LA.length + LB.length) (0,.slice none 0 0,0) ?_ ⟨rfl,rfl,rfl,trivial⟩ ?_
 ·exact ⟨rfl,.inl<|Nat.zero_le _,(Ext.refl _),by first | omega | (dsimp only;omega),[],Amr _ _ _,rfl,λx hx=>(by simp at hx),rfl⟩
 rintro k ⟨i,vo,c⟩ s1 h2 ⟨rfl,hi,E2,hc,D,HG,hDl,hDd,hDv⟩;dsimp only at hi hc HG hDl hDv ⊢;have hga:=Amv HA.dig i;have hgb:=Amv HB.dig i;have Av:=E2.1;refine AH3<|AH1<|AHy<|AHy<|AKc AIy rfl (HA.ext E2) (ANd rfl rfl (λAe=>?_) (λAe=>?_))
 ·refine AHy<|AJw 12 true AIb rfl rfl (AJw 12 true AIb rfl rfl (AJw 12 true AIb rfl rfl (AJw 12 true AIb rfl rfl (AIm rfl (AH5<|AI2 rfl (AIa<|q_t<|AH3<|AH6<|Adx 2146435136 (λq:Nat=>[(6,.int .u64 (q:Int))]) (λq h'=>h'=h2/\q=c + LA[i]?.getD 0) AIb ?_ ?_))))))
  ·refine AH1<|AHy<|AHy<|AKc AIy rfl (HA.ext E2) (ANd rfl rfl (λAf=>?_) (λAf=>?_))
   ·refine AH5<|AI2 rfl ?_;obtain ⟨x,hx⟩:∃ x,LA[i]? =some x:=⟨_,List.getElem?_eq_getElem AHx⟩;have hbx:=HA.dig x<|List.mem_of_getElem? hx;refine AIf<|AHy<|AHy<|AHy<|ARd AIy rfl (HA.ext E2) rfl hx λAw Ag=>AI1 AKz rfl Ag (Abd ALw ALc rfl hbx (AW3 rfl rfl AHx (AH7 ?_)));exact ⟨c + x,⟨rfl,by rw [hx];rfl⟩,rfl,trivial⟩
   ·refine AH5<|AI6 rfl (AIa<|q_t ?_);exact ⟨c,⟨rfl,by rw [show LA[i]? =none from List.getElem?_eq_none AHx];rfl⟩,rfl,trivial⟩
  rintro q s2 h2 ⟨rfl,rfl⟩;refine Adx 4395899027520 (λq:Nat=>[(6,.int .u64 (q:Int))]) (λq h'=>h'=h2/\q=c + LA[i]?.getD 0 + LB[i]?.getD 0) AIb ?_ ?_
  ·refine AH1<|AHy<|AHy<|AKc AIy rfl (HB.ext E2) (ANd rfl rfl (λAh=>?_) (λAh=>?_))
   ·refine AH5<|AI2 rfl ?_;obtain ⟨y,hy⟩:∃ x,LB[i]? =some x:=⟨_,List.getElem?_eq_getElem AHx⟩;have hby:=HB.dig y<|List.mem_of_getElem? hy;refine AIf<|AHy<|AHy<|AHy<|ARd AIy rfl (HB.ext E2) rfl hy λAx Ai=>AI1 AKz rfl Ai (Abd ALw ALc rfl hby (AW3 rfl rfl AHx (AH7 ?_)));exact ⟨c + LA[i]?.getD 0 + y,⟨rfl,by rw [hy];rfl⟩,rfl,trivial⟩
   ·refine AH5<|AI6 rfl (AIa<|q_t ?_);exact ⟨c + LA[i]?.getD 0,⟨rfl,by rw [show LB[i]? =none from List.getElem?_eq_none AHx];rfl⟩,rfl,trivial⟩
  rintro q s2 h2 ⟨rfl,rfl⟩;refine AH1<|AHy<|AHy<|Adm ALc ALw rfl (Aeu (h0:=h) AIy AT5 (λ_=>trivial) (λ_=>rfl) rfl E2 HG AHz AHx λp4 v4 h4 Ac E4=>AH7<|AIf<|AHy<|Aco rfl rfl (AIw<|AIu<|q_b<|q_t<|AIf<|AHy<|ASf rfl AHx (AH7 ?_)));exact ⟨LA.length + LB.length - (i + 1),(i + 1,v4,(c + LA[i]?.getD 0 + LB[i]?.getD 0) / 4294967296),by first | omega | (dsimp only;omega),⟨rfl,by first | omega | (dsimp only;omega),E4,by first | omega | (dsimp only;omega),_,Ac,by simp [hDl],AVb hDd<|Nat.mod_lt _ AHz,by rw [AT1,hDl,Nat.add_assoc c,Acp hDv,AT2 LA,AT2 LB,Nat.mul_add];omega⟩,rfl,rfl,rfl,trivial⟩
 ·refine AHy<|AJ6 12 false AIb rfl rfl (AHy<|AJ6 12 false AIb rfl rfl (AHy<|AJ6 12 false AIb rfl rfl (AKc AIy rfl (HB.ext E2) (AJ6 12 false AIb rfl rfl (ANd rfl rfl (λAk=>?_) (λAk=>?_))))))
  ·refine AIn rfl (AH5<|AI2 rfl (AIa<|q_t<|AH3<|AH6<|Adx 2146435136 (λq:Nat=>[(6,.int .u64 (q:Int))]) (λq h'=>h'=h2/\q=c + LA[i]?.getD 0) AIb ?_ ?_))
   ·refine AH1<|AHy<|AHy<|AKc AIy rfl (HA.ext E2) (ANd rfl rfl (λAm=>?_) (λAm=>?_))
    ·refine AH5<|AI2 rfl ?_;obtain ⟨x,hx⟩:∃ x,LA[i]? =some x:=⟨_,List.getElem?_eq_getElem AHx⟩;have hbx:=HA.dig x<|List.mem_of_getElem? hx;refine AIf<|AHy<|AHy<|AHy<|ARd AIy rfl (HA.ext E2) rfl hx λAy Ao=>AI1 AKz rfl Ao (Abd ALw ALc rfl hbx (AW3 rfl rfl AHx (AH7 ?_)));exact ⟨c + x,⟨rfl,by rw [hx];rfl⟩,rfl,trivial⟩
    ·refine AH5<|AI6 rfl (AIa<|q_t ?_);exact ⟨c,⟨rfl,by rw [show LA[i]? =none from List.getElem?_eq_none AHx];rfl⟩,rfl,trivial⟩
   rintro q s2 h2 ⟨rfl,rfl⟩;refine Adx 4395899027520 (λq:Nat=>[(6,.int .u64 (q:Int))]) (λq h'=>h'=h2/\q=c + LA[i]?.getD 0 + LB[i]?.getD 0) AIb ?_ ?_
   ·refine AH1<|AHy<|AHy<|AKc AIy rfl (HB.ext E2) (ANd rfl rfl (λAp=>?_) (λAp=>?_))
    ·refine AH5<|AI2 rfl ?_;obtain ⟨y,hy⟩:∃ x,LB[i]? =some x:=⟨_,List.getElem?_eq_getElem AHx⟩;have hby:=HB.dig y<|List.mem_of_getElem? hy;refine AIf<|AHy<|AHy<|AHy<|ARd AIy rfl (HB.ext E2) rfl hy λAz Aq=>AI1 AKz rfl Aq (Abd ALw ALc rfl hby (AW3 rfl rfl AHx (AH7 ?_)));exact ⟨c + LA[i]?.getD 0 + y,⟨rfl,by rw [hy];rfl⟩,rfl,trivial⟩
    ·refine AH5<|AI6 rfl (AIa<|q_t ?_);exact ⟨c + LA[i]?.getD 0,⟨rfl,by rw [show LB[i]? =none from List.getElem?_eq_none AHx];rfl⟩,rfl,trivial⟩
   rintro q s2 h2 ⟨rfl,rfl⟩;refine AH1<|AHy<|AHy<|Adm ALc ALw rfl (Aeu (h0:=h) AIy AT5 (λ_=>trivial) (λ_=>rfl) rfl E2 HG AHz AHx λp4 v4 h4 Ac E4=>AH7<|AIf<|AHy<|Aco rfl rfl (AIw<|AIu<|q_b<|q_t<|AIf<|AHy<|ASf rfl AHx (AH7 ?_)));exact ⟨LA.length + LB.length - (i + 1),(i + 1,v4,(c + LA[i]?.getD 0 + LB[i]?.getD 0) / 4294967296),by first | omega | (dsimp only;omega),⟨rfl,by first | omega | (dsimp only;omega),E4,by first | omega | (dsimp only;omega),_,Ac,by simp [hDl],AVb hDd<|Nat.mod_lt _ AHz,by rw [AT1,hDl,Nat.add_assoc c,Acp hDv,AT2 LA,AT2 LB,Nat.mul_add];omega⟩,rfl,rfl,rfl,trivial⟩
  ·refine AIn rfl (AH5<|AI6 rfl (AIq<|AIr<|AIr<|AJt<|q_t<|AH1<|AHy<|AHy<|Adm ALc ALw rfl ?_));rw [Nat.mod_eq_of_lt<|show c < 4294967296 by omega];refine Aeu (h0:=h) AIy AT5 (λ_=>trivial) (λ_=>rfl) rfl E2 HG AHz AHx λp5 v5 h5 Ar E5=>AH7<|AIc<|⟨_,AId,?_⟩;exact ⟨E5,D ++ [c],Ar.ds<|AVb hDd AHx,by rw [AT1,hDl,hDv,Acr AHx,Acr AHx],by simp [hDl];omega⟩
theorem Ago (HA:DS h la va LA) (HB:DS h lb vb LB) (htb:TL LB) (hle:nv LB<=nv LA) (hna:LA.length<=1000):AI7 Tryz.prog 162 #[va,vb] h λx h'=>Ext h h'/\ ∃ L,DS h' (Array.size h) x L/\nv L=nv LA - nv LB/\L.length<=LA.length:=by
 refine AJi (l:=[_,_]) mx Tryz.func162 rfl rfl rfl rfl rfl AIb (AH1<|AJd<|AJd<|AH7<|AH3<|AH1 ?_);refine AH7<|AH6<|AMc 35184372088800 (λy:Nat × Value × Nat=>[(7,.int .i64 (y.1:Int)),(5,y.2.1),(6,.int .u64 (y.2.2:Int))]) (λk y h'=>k=LA.length - y.1/\y.1<=LA.length/\Ext h h'/\y.2.2<=1/\ ∃ D,Gro h' 160 (Array.size h) y.2.1 (D.map AV8)/\D.length=y.1/\Dig D/\nv D + nv (LB.take y.1)=nv (LA.take y.1) + 4294967296 ^ y.1 * y.2.2) AIb LA.length (0,.slice none 0 0,0) ?_ ⟨rfl,rfl,rfl,trivial⟩ ?_
 ·exact ⟨rfl,Nat.zero_le _,(Ext.refl _),by first | omega | (dsimp only;omega),[],Amr _ _ _,rfl,λx hx=>(by simp at hx),rfl⟩
 rintro k ⟨i,vo,c⟩ s1 h2 ⟨rfl,hi,E2,hc,D,HG,hDl,hDd,hDv⟩;dsimp only at hi hc HG hDl hDv ⊢;have Am:=E2.1;refine AH3<|AH1<|AHy<|AHy<|AKc AIy rfl (HA.ext E2) (ANd rfl rfl (λAe=>?_) (λAe=>?_))
 ·refine AH5<|AI2 rfl (AIa<|q_t<|AH3<|AH6<|AH3 ?_);obtain ⟨x,hx⟩:∃ x,LA[i]? =some x:=⟨_,List.getElem?_eq_getElem AHx⟩;have hbx:=HA.dig x<|List.mem_of_getElem? hx;have hgb:=Amv HB.dig i;refine AIf<|AHy<|AH7<|Adx 134152448 (λq:Nat=>[(8,.int .u64 (q:Int))]) (λq h'=>h'=h2/\q=c + LB[i]?.getD 0) AIb ?_ ?_
  ·refine AH1<|AHy<|AHy<|AKc AIy rfl (HB.ext E2) (ANd rfl rfl (λAf=>?_) (λAf=>?_))
   ·refine AH5<|AI2 rfl ?_;obtain ⟨y,hy⟩:∃ x,LB[i]? =some x:=⟨_,List.getElem?_eq_getElem AHx⟩;have hby:=HB.dig y<|List.mem_of_getElem? hy;refine AIf<|AHy<|AHy<|AHy<|ARd AIy rfl (HB.ext E2) rfl hy λAo Ag=>AI1 AKz rfl Ag (Abd ALw ALc rfl hby (AW3 rfl rfl AHx (AH7 ?_)));exact ⟨c + y,⟨rfl,by rw [hy];rfl⟩,rfl,trivial⟩
   ·refine AH5<|AI6 rfl (AIa<|q_t ?_);exact ⟨c,⟨rfl,by rw [show LB[i]? =none from List.getElem?_eq_none AHx];rfl⟩,rfl,trivial⟩
  rintro q s2 h2 ⟨rfl,rfl⟩;refine AH1<|AHy<|AHy<|AHy<|ARd AIy rfl (HA.ext E2) rfl hx λAp Ah=>AI1 AKz rfl Ah (Abd ALw ALc rfl hbx (AHy<|AMy rfl rfl ?_));rw [wrap_u64];refine ASz ALc ALw rfl ?_;obtain ⟨dg,hdg⟩:∃ dg:Nat,(dg:Int)=((x:Int) - ((c + LB[i]?.getD 0:Nat):Int)) % 4294967296:=⟨(((x:Int) - ((c + LB[i]?.getD 0:Nat):Int)) % 4294967296).toNat,AHx⟩;rw [show IntKind.u32.wrap (((x:Int) - ((c + LB[i]?.getD 0:Nat):Int)) % 18446744073709551616)=(dg:Int) by rw [wrap_u32,hdg];omega];refine Aeu (h0:=h) AIy AT5 (λ_=>trivial) (λ_=>rfl) rfl E2 HG AHz AHx λp4 v4 h4 Ad E4=>AJd<|AJd<|AHy<|AHy<|ARd AIy rfl (HA.ext E4) rfl hx λAr Ai=>AI1 AKz rfl Ai (Abd ALw ALc rfl hbx (AHy<|ANd rfl rfl (λAj=>?_) (λAj=>?_)))
  ·refine AH5<|AI2 rfl (AIf<|AIw<|AIu<|q_b<|q_t<|AIf<|AHy<|ASf rfl AHx (AH7 ?_));exact ⟨LA.length - (i + 1),(i + 1,v4,1),by first | omega | (dsimp only;omega),⟨rfl,by first | omega | (dsimp only;omega),E4,by first | omega | (dsimp only;omega),_,Ad,by simp [hDl],AVb hDd AHx,by rw [AT1,hDl,AT2 LB,AKl hx];exact Ad5 hDv<|by first | omega | (dsimp only;omega)⟩,rfl,rfl,rfl,trivial⟩
  ·refine AH5<|AI6 rfl (AIa<|q_b<|q_t<|AIf<|AHy<|ASf rfl AHx (AH7 ?_));exact ⟨LA.length - (i + 1),(i + 1,v4,0),by first | omega | (dsimp only;omega),⟨rfl,by first | omega | (dsimp only;omega),E4,by first | omega | (dsimp only;omega),_,Ad,by simp [hDl],AVb hDd AHx,by rw [AT1,hDl,AT2 LB,AKl hx];exact Ad5 hDv<|by first | omega | (dsimp only;omega)⟩,rfl,rfl,rfl,trivial⟩
 ·refine AH5<|AI6 rfl (AIq<|AIr<|AIr<|AJt<|q_t<|AH1<|AHy<|AH7<|AIc<|⟨_,AId,?_⟩);obtain rfl:i=LA.length:=by omega
  rw [List.take_length,Acr (by have:=AUq htb<|Nat.lt_of_le_of_lt hle<|AVx HA.dig;omega)] at hDv;have hDlt:=AVx hDd;rw [hDl] at hDlt
  have Ak:c=0:=by
   rcases Nat.eq_zero_or_pos c with h0 | h0
   ·exact h0
   ·obtain rfl:c=1:=by omega
    rw [Nat.mul_one] at hDv;omega
  subst Ak;rw [Nat.mul_zero,Nat.add_zero] at hDv;exact ⟨E2,D,HG.ds hDd,AHx,AHx⟩
theorem Aj4 {lo:Nat} {L:List Nat} (b:Nat) (hb:b<=1) (H:DS h lo v L) (hn:L.length<=1000):AI7 Tryz.prog 167 #[v,.int .u32 (b:Int)] h λx h'=>Ext h h'/\ ∃ L',DS h' (Array.size h) x L'/\nv L'=2 * nv L + b/\L'.length<=L.length + 1:=by
 refine AJi (l:=[_,_]) mx Tryz.func167 rfl rfl rfl rfl rfl AIb (AH1<|AJd<|AH7<|AH3<|AH1<|AHy<|AKc AIy rfl H (AHy<|AH5<|AH6<|AMc 16776354 (λy:Nat × Value × Nat=>[(10,.int .i64 (y.1:Int)),(5,y.2.1),(1,.int .u32 (y.2.2:Int))]) (λk y h'=>k=L.length - y.1/\y.1<=L.length/\Ext h h'/\y.2.2<=1/\ ∃ D,Gro h' 160 (Array.size h) y.2.1 (D.map AV8)/\D.length=y.1/\Dig D/\nv D + 4294967296 ^ y.1 * y.2.2=2 * nv (L.take y.1) + b) AIb L.length (0,.slice none 0 0,b) ?_ ⟨rfl,rfl,rfl,trivial⟩ ?_))
 ·exact ⟨rfl,Nat.zero_le _,(Ext.refl _),hb,[],Amr _ _ _,rfl,λx hx=>(by simp at hx),by simp [nv]⟩
 rintro k ⟨i,vo,c⟩ s1 h2 ⟨rfl,hi,E2,hc,D,HG,hDl,hDd,hDv⟩;dsimp only at hi hc HG hDl hDv ⊢;have Aj:=E2.1;refine AH1<|ANd rfl rfl (λAb=>?_) (λAb=>?_)
 ·refine AH5<|AH3<|AI2 rfl (AIa<|q_t<|AH3<|AH6<|AH3 ?_);obtain ⟨x,hx⟩:∃ x,L[i]? =some x:=⟨_,List.getElem?_eq_getElem AHx⟩;have hbx:=H.dig x<|List.mem_of_getElem? hx;refine AIf<|ARd AIy rfl (H.ext E2) rfl hx λAk Ac=>AI1 AKz rfl Ac (AJd<|AHy<|AHy<|Als (n:=1) rfl rfl AHz ?_);rw [show IntKind.u32.wrap ((x:Int) * 2 ^ 1)=((2 * x % 4294967296:Nat):Int) by rw [wrap_u32];omega];refine AHy<|Afy rfl rfl (.inr<|.inl rfl) (Ara (Nat.mod_lt _ AHz) AHx) ?_
  have hor:2 * x % 4294967296 ||| c=2 * x % 4294967296 + c:=by
   have h1:2 * x % 4294967296=2 ^ 1 * (x % 2147483648):=by omega
   rw [h1,<- Nat.two_pow_add_eq_or_of_lt AHx]
  rw [hor];refine Aeu (h0:=h) AIy AT5 (λ_=>trivial) (λ_=>rfl) rfl E2 HG AHz AHx λp4 v4 h4 Ae E4=>AH7<|AIf<|AHy<|Ajx (n:=31) rfl rfl AHz ?_;rw [show (x:Int) / 2 ^ 31=((x / 2147483648:Nat):Int) by omega];refine AIw<|AIu<|q_b<|q_t<|AIf<|ASf rfl AHx (AHy<|AH5 ?_);exact ⟨L.length - (i + 1),(i + 1,v4,x / 2147483648),by first | omega | (dsimp only;omega),⟨rfl,by first | omega | (dsimp only;omega),E4,by first | omega | (dsimp only;omega),_,Ae,by simp [hDl],AVb hDd AHx,by rw [AT1,hDl,Axc hDv (show 2 * x % 4294967296 + c + 4294967296 * (x / 2147483648)=2 * x + c by omega),AKl hx,Nat.mul_add,Nat.mul_left_comm];omega⟩,rfl,rfl,rfl,trivial⟩
 ·refine AH5<|AH3<|AI6 rfl (AIq<|AIr<|AIr<|AJt<|q_t<|AH1<|AHy<|AHy<|Aeu (h0:=h) AIy AT5 (λ_=>trivial) (λ_=>rfl) rfl E2 HG AHz AHx λp5 v5 h5 Ag E5=>AH7<|AIc<|⟨_,AId,?_⟩);obtain rfl:i=L.length:=by omega
  rw [List.take_length] at hDv;exact ⟨E5,D ++ [c],Ag.ds<|AVb hDd AHx,by rw [AT1,hDl,hDv],by simp [hDl]⟩
theorem AX0 {a b:Nat} (h:0<=AV3 a b):b<=a:=by
 unfold AV3 at h;split at h
 ·omega
 ·omega
theorem Acs {a b:Nat} (h:AV3 a b < 0):a<=b:=by
 unfold AV3 at h;split at h
 ·omega
 ·split at h <;> omega
theorem Aj5 {A B:List Nat} (ha:Dig A) (hb:Dig B) (la:A.length<=99) (lb:B.length<=99):nv A + nv B < 4294967296 ^ 100:=by
 have h1:=AVx ha;have h2:=AVx hb;have h3:4294967296 ^ A.length<=4294967296 ^ 99:=Nat.pow_le_pow_right AHz la;have h4:4294967296 ^ B.length<=4294967296 ^ 99:=Nat.pow_le_pow_right AHz lb;have h5:4294967296 ^ 100=4294967296 ^ 99 * 4294967296:=Nat.pow_succ 4294967296 99;rw [h5];have h6:0 < 4294967296 ^ 99:=Nat.pow_pos AHz;generalize 4294967296 ^ 99=t at *;omega
theorem Acu {a b:Bool} {x y:Nat} (h:a=b):sgn a x + sgn b y=sgn a (x + y):=by
 subst h;cases a <;> simp [sgn] <;> omega
theorem Acv {a b:Bool} {x y:Nat} (h:a≠b) (hl:y<=x):sgn a x + sgn b y=sgn a (x - y):=by
 cases a <;> cases b <;> simp [sgn] at h ⊢ <;> omega
theorem AZ4 {a b:Bool} {x y:Nat} (h:a≠b) (hl:x<=y):sgn a x + sgn b y=sgn b (y - x):=by
 cases a <;> cases b <;> simp [sgn] at h ⊢ <;> omega
theorem ANu {ng:Bool} {n:Nat} {z:Int} (h:z=sgn ng n):z.natAbs=n:=by
 subst h;cases ng <;> simp [sgn]
theorem As2 (ng:Bool) (n:Nat):sgn (!ng) n= -sgn ng n:=by cases ng <;> simp [sgn]
theorem Am0 (a b:Bool) (x y:Nat):sgn a x * sgn b y=sgn (!(a == b)) (x * y):=by
 cases a <;> cases b <;> simp [sgn,Int.neg_mul,Int.mul_neg]
theorem Arb {L:List Nat} (h:Dig L) (hl:L.length<=2):nv L < 18446744073709551616:=by
 have h1:=AVx h;have h2:4294967296 ^ L.length<=4294967296 ^ 2:=Nat.pow_le_pow_right AHz hl;omega
theorem Au0 {lo:Nat} {z:Int} (HA:ZV h lo va z) (hb:z.natAbs < 9223372036854775808):AI7 Tryz.prog 111 #[va] h λx h'=>Ext h h'/\x= .tuple #[.int .i64 z,.bool true]:=by
 obtain ⟨na,sa,LA,rfl,HDa,htla,hla,hza⟩:=HA.out;refine AJi (l:=[_]) mx Tryz.func111 rfl rfl rfl rfl rfl AIb (AH1<|AR0 [.bool na,sa] (λ_=>trivial) rfl rfl λAj h2 V3 E4 Ak Au=>?_);have Av:Array.size h<=Aj:=Ak;have Aw:=E4.1;have Z8:=(Ext.refl h).trans E4;refine AIw<|AJd<|AOe (fs:=1) AUj AIb AHz rfl (AI1 AQb rfl (V3.cell (i:=1) rfl) (AIz trivial rfl (ARe (HDa.ext E4) AHx) λx9 Am hk=>?_));obtain ⟨Ad,L1,Ag,Ap,Ah,Az⟩:=hk;refine ⟨trivial,?_⟩;have A3:=Ad.1;have Ac:=E4.trans Ad;have Ai:=V3.ext Ad;refine AJd<|AHy ?_;have Aq:L1.length<=2:=AUq Ap (by rw [Ah,<- ANu hza];exact Nat.lt_of_lt_of_le hb AHz);refine AIz trivial rfl (Amz Ag Aq) λA4 Am hk=>?_;obtain ⟨rfl,rfl⟩:=hk;refine ⟨trivial,?_⟩;refine AH7<|AH3<|AH6<|AH1<|AHy<|AKc AIy rfl Ag (AZu rfl rfl (λhc=>absurd hc AHx) (λ_=>AH7<|AI6 rfl (AH3 ?_)));have hab:=ANu hza;rw [Ah];refine AIf<|AOe (fs:=1) ATz AIb AHz rfl (AI1 ANf rfl (Ai.cell (i:=0) rfl) ?_);cases Ae:na
 ·refine AHy<|AJw 18 false AIb rfl rfl (AJw 18 false AIb rfl rfl (AIn rfl (AH7<|AI6 rfl (AH1<|AOe (fs:=1) ATz AIb AHz rfl (AI1 ANf rfl (Ai.cell (i:=0) rfl) ?_)))));rw [Ae];refine AMp rfl (AHy<|AJ6 29 true AIb rfl rfl (AHy<|AJ6 29 true AIb rfl rfl (ANd rfl rfl (λ_=>?_) (λhc=>absurd hc AHx))));refine AIm rfl (AH7<|AI2 rfl (AH1<|AHy<|ASz ALc AP8 rfl (AIw<|AH7<|AIc<|AKa<|AIt<|⟨_,AJu,?_⟩)));have Aa:z=sgn na (nv LA):=hza;rw [Ae] at Aa;unfold sgn at Aa
  first
  | (rw [if_pos rfl] at Aa
     exact ⟨Ac,congrArg (λt=>Value.tuple #[.int .i64 t,.bool true]) (show IntKind.i64.wrap (IntKind.u64.wrap<|0 - ((nv LA:Nat):Int))=z by rw [wrap_u64,IntKind.wrap_i64];omega)⟩)
  | (rw [if_neg AHz] at Aa
     exact ⟨Ac,congrArg (λt=>Value.tuple #[.int .i64 t,.bool true]) (show IntKind.i64.wrap ((nv LA:Nat):Int)=z by rw [IntKind.wrap_i64];omega)⟩)
 ·refine AHy<|AJ6 18 true AIb rfl rfl (AHy<|AJ6 18 true AIb rfl rfl (Abq rfl rfl (λ_=>?_) (λhc=>absurd hc AHx)));refine AIm rfl (AH7<|AI2 rfl (AH1<|AHy<|Adj rfl (ASz ALc AP8 rfl (AIw<|AH7<|AIc<|AKa<|AIt<|⟨_,AJu,?_⟩))));have Aa:z=sgn na (nv LA):=hza;rw [Ae] at Aa;unfold sgn at Aa
  first
  | (rw [if_pos rfl] at Aa
     exact ⟨Ac,congrArg (λt=>Value.tuple #[.int .i64 t,.bool true]) (show IntKind.i64.wrap (IntKind.u64.wrap<|0 - ((nv LA:Nat):Int))=z by rw [wrap_u64,IntKind.wrap_i64];omega)⟩)
  | (rw [if_neg AHz] at Aa
     exact ⟨Ac,congrArg (λt=>Value.tuple #[.int .i64 t,.bool true]) (show IntKind.i64.wrap ((nv LA:Nat):Int)=z by rw [IntKind.wrap_i64];omega)⟩)
theorem Ai5 {b:Int} (HA:ZV h la va a) (HB:ZV h lb vb b) (hba:a.natAbs < 4294967296 ^ 99) (hbb:b.natAbs < 4294967296 ^ 99):AI7 Tryz.prog 145 #[va,vb] h λx h'=>Ext h h'/\ZV h' (Array.size h) x (a + b):=by
 obtain ⟨na,sa,LA,rfl,HDa,htla,hla,hza⟩:=HA.out;obtain ⟨nb,sb,LB,rfl,HDb,htlb,hlb,hzb⟩:=HB.out;refine AJi (l:=[_,_]) mx Tryz.func145 rfl rfl rfl rfl rfl AIb (AH1<|AR0 [.bool na,sa] (λ_=>trivial) rfl rfl λBl h2 V3 E4 Ce Fg=>?_);have Fh:Array.size h<=Bl:=Ce;have Fi:=E4.1;have Z8:=(Ext.refl h).trans E4;refine AR0 [.bool nb,sb] (λ_=>trivial) rfl rfl λBm Fj A7 A4 Cg Fk=>?_;have Fl:Array.size h<=Bm:=Nat.le_trans E4.1 Cg;have nebq1bq9:Bl≠Bm:=by have:=V3.lt;omega
 have Fm:=A4.1;have Ch:=Z8.trans A4;have B2:=E4.trans A4;have A8:=V3.ext A4;have Ci:=E4.trans A4;refine APa [.bool false,.slice none 0 0] ANt rfl (λ_=>trivial) λAa B3 Cj Ar Ck Fo=>?_;have Fp:Array.size h<=Aa:=Nat.le_trans B2.1 Ck;have nebq1bq20:Bl≠Aa:=by have:=A8.lt;omega
 have nebq9bq20:Bm≠Aa:=by have:=A7.lt;omega
 have Fq:=Ar.1;have Cm:=Ch.trans Ar;have B4:=B2.trans Ar;have B5:=A8.ext Ar;have Cn:=Ci.trans Ar;have B6:=A7.ext Ar;have Co:=A4.trans Ar;refine AH5<|AH3<|AKg (λh'=>Ext B3 h') AIb ?_;have Ab:=Ext.refl B3;refine AOe (fs:=1) AUj AIb AHz rfl (AJe AQb rfl Ab (λh' hb=>(B5.ext hb).cell (i:=1) rfl) (AIz Ab rfl (ARe (DS.ext HDa B4) AHx) λFt Fu hk=>?_));obtain ⟨Ak,L1,Bg,Bn,Bh,Fv⟩:=hk;have Bi:=Ab.trans Ak;refine ⟨Bi,?_⟩;have Fw:=Ak.1;have Cq:=Cm.trans Ak;have B7:=B4.trans Ak;have Cr:=B5.ext Ak;have Ct:=Cn.trans Ak;have Cu:=B6.ext Ak;have Cv:=Co.trans Ak;have Cw:=Cj.ext Ak;have Cx:=Ar.trans Ak;refine AOe (fs:=1) AUj AIb AHz rfl (AJe AQb rfl Bi (λh' hb=>(B6.ext hb).cell (i:=1) rfl) (AIz Bi rfl (ARe (DS.ext HDb B7) AHx) λFx Az hk=>?_));obtain ⟨Aj,L2,Am,Bo,Bj,Fy⟩:=hk;have Cz:=Bi.trans Aj;refine ⟨Cz,?_⟩;have Fz:=Aj.1;have Bp:=Cq.trans Aj;have Bq:=B7.trans Aj;have A5:=Cr.ext Aj;have Br:=Ct.trans Aj;have A9:=Cu.ext Aj;have Bt:=Cv.trans Aj;have Bu:=Cw.ext Aj;have Bv:=Cx.trans Aj;have A3:=Bg.ext Aj;refine AIw<|AH7<|AH3<|AH3 ?_;have hl1b:L1.length<=99:=AUq Bn (by rw [Bh,<- ANu hza];exact hba);have hl2b:L2.length<=99:=AUq Bo (by rw [Bj,<- ANu hzb];exact hbb);refine AIf<|AOe (fs:=1) ATz AIb AHz rfl (AI1 ANf rfl (A5.cell (i:=0) rfl) (AOe (fs:=1) ATz AIb AHz rfl (AI1 ANf rfl (A9.cell (i:=0) rfl) (Aos Aev rfl rfl ?_))));cases F4:na == nb
 ·refine AH5<|AI6 rfl (AIa<|q_t<|AH3<|AH1<|AHy<|AHy<|AIz trivial rfl (Ai4 A3 Am Bn Bo AHx AHx) λF5 Az hk=>?_);obtain ⟨rfl,rfl⟩:=hk;refine ⟨trivial,?_⟩;refine Ad0 rfl rfl (λC0=>?_) (λC0=>?_)
  ·refine AH5<|AI2 rfl (AH3<|AKg (λh'=>Ext Az h') AIb ?_);have Ab:=Ext.refl Az;refine AOe (fs:=1) ATz AIb AHz rfl (AJe ANf rfl Ab (λh' hb=>(A5.ext hb).cell (i:=0) rfl) (AHy<|AHy<|AIz Ab rfl (Ago A3 Am Bo (AX0<|by assumption) AHx) λF6 F7 hk=>?_));obtain ⟨Ag,L3,Au,Av,B9⟩:=hk;have Bw:=Ab.trans Ag;refine ⟨Bw,?_⟩;have F8:=Ag.1;have C1:=Bp.trans Ag;have C3:=Bq.trans Ag;have C4:=A5.ext Ag;have C5:=Br.trans Ag;have C6:=A9.ext Ag;have C7:=Bt.trans Ag;have C8:=Bu.ext Ag;have C9:=Bv.trans Ag;have Da:=A3.ext Ag;have Db:=Am.ext Ag;refine AIz Bw rfl (AVd na Au AHx (by rw [Av];have:=Aj5 Bg.dig Am.dig hl1b hl2b;omega)) λF9 Ga hk=>?_;obtain ⟨Ad,Ba⟩:=hk;have Dc:=Bw.trans Ad;refine ⟨Dc,?_⟩;have Gb:=Ad.1;have Dd:=C1.trans Ad;have De:=C3.trans Ad;have Gc:=C4.ext Ad;have Df:=C5.trans Ad;have Gd:=C6.ext Ad;have Dg:=C7.trans Ad;have Dh:=C8.ext Ad;have Di:=C9.trans Ad;have Dj:=Da.ext Ad;have Dk:=Db.ext Ad;have Dl:=Au.ext Ad;obtain ⟨Aw,s4,L4,rfl,Ay,Bc,Be,Bf⟩:=Ba.out;refine AKo [.bool Aw,s4] AJz rfl rfl rfl rfl (ARw Ay.cap) Dh λGe Do Ao=>?_;have Dp:=De.thenUpd Ao (λk hk=>by have Ac:k=Aa:=hk;omega);have Gf:=Ao.1;have Gg:=Dd.thenUpd Ao (λk hk=>by have Ac:k=Aa:=hk;omega);have Ca:=Di.thenUpd Ao (λk hk=>by have Ac:k=Aa:=hk;omega);have Gh:=A8.ext Ca;have Gi:=Df.thenUpd Ao (λk hk=>by have Ac:k=Aa:=hk;omega);have Gj:=A7.ext Ca;have Gk:=Dg.thenUpd Ao (λk hk=>by have Ac:k=Aa:=hk;omega);have Gl:=Dj.updLo Ao AHx;have Gm:=Dk.updLo Ao AHx;have Gn:=Dl.updLo Ao AHx;have Dq:=Ay.updLo Ao AHx;refine AH5<|AIc<|AIt<|⟨_,AKs AJz rfl rfl Do,?_⟩;exact ⟨Dp,⟨Aw,s4,L4,rfl,Dq.mono AHx,Bc,Be,by rw [<- Bf,Av,hza,hzb,<- Bh,<- Bj];first | exact Acu (eq_of_beq<|by assumption) | exact Acv (ne_of_beq_false<|by assumption) (AX0<|by assumption) | exact AZ4 (ne_of_beq_false<|by assumption)<|Acs<|by assumption⟩⟩
  ·refine AH5<|AI6 rfl (AIa<|q_t<|AH3<|AKg (λh'=>Ext Az h') AIb ?_);have Ab:=Ext.refl Az;refine AOe (fs:=1) ATz AIb AHz rfl (AJe ANf rfl Ab (λh' hb=>(A9.ext hb).cell (i:=0) rfl) (AHy<|AHy<|AIz Ab rfl (Ago Am A3 Bn (Acs<|by assumption) AHx) λGp Gq hk=>?_));obtain ⟨Ah,L3,Au,Av,B9⟩:=hk;have Bx:=Ab.trans Ah;refine ⟨Bx,?_⟩;have Gr:=Ah.1;have Dr:=Bp.trans Ah;have Ds:=Bq.trans Ah;have Dt:=A5.ext Ah;have Du:=Br.trans Ah;have Dv:=A9.ext Ah;have Dw:=Bt.trans Ah;have Dx:=Bu.ext Ah;have Dy:=Bv.trans Ah;have Dz:=A3.ext Ah;have D0:=Am.ext Ah;refine AIz Bx rfl (AVd nb Au AHx (by rw [Av];have:=Aj5 Bg.dig Am.dig hl1b hl2b;omega)) λGt Gu hk=>?_;obtain ⟨Ae,Ba⟩:=hk;have D3:=Bx.trans Ae;refine ⟨D3,?_⟩;have Gv:=Ae.1;have D4:=Dr.trans Ae;have D5:=Ds.trans Ae;have Gw:=Dt.ext Ae;have D6:=Du.trans Ae;have Gx:=Dv.ext Ae;have D7:=Dw.trans Ae;have D8:=Dx.ext Ae;have D9:=Dy.trans Ae;have Ea:=Dz.ext Ae;have Eb:=D0.ext Ae;have Ec:=Au.ext Ae;obtain ⟨Aw,s4,L4,rfl,Ay,Bc,Be,Bf⟩:=Ba.out;refine AKo [.bool Aw,s4] AJz rfl rfl rfl rfl (ARw Ay.cap) D8 λGy Ed Ap=>?_;have Ee:=D5.thenUpd Ap (λk hk=>by have Ac:k=Aa:=hk;omega);have Gz:=Ap.1;have G3:=D4.thenUpd Ap (λk hk=>by have Ac:k=Aa:=hk;omega);have Cb:=D9.thenUpd Ap (λk hk=>by have Ac:k=Aa:=hk;omega);have G4:=A8.ext Cb;have G5:=D6.thenUpd Ap (λk hk=>by have Ac:k=Aa:=hk;omega);have G6:=A7.ext Cb;have G7:=D7.thenUpd Ap (λk hk=>by have Ac:k=Aa:=hk;omega);have G8:=Ea.updLo Ap AHx;have G9:=Eb.updLo Ap AHx;have Hb:=Ec.updLo Ap AHx;have Ef:=Ay.updLo Ap AHx;refine AH5<|AIc<|⟨_,AKs AJz rfl rfl Ed,?_⟩;exact ⟨Ee,⟨Aw,s4,L4,rfl,Ef.mono AHx,Bc,Be,by rw [<- Bf,Av,hza,hzb,<- Bh,<- Bj];first | exact Acu (eq_of_beq<|by assumption) | exact Acv (ne_of_beq_false<|by assumption) (AX0<|by assumption) | exact AZ4 (ne_of_beq_false<|by assumption)<|Acs<|by assumption⟩⟩
 ·refine AH5<|AI2 rfl (AH3<|AKg (λh'=>Ext Az h') AIb ?_);have Ab:=Ext.refl Az;refine AOe (fs:=1) ATz AIb AHz rfl (AJe ANf rfl Ab (λh' hb=>(A5.ext hb).cell (i:=0) rfl) (AHy<|AHy<|AIz Ab rfl (A1a A3 Am AHx AHx) λHc Hd hk=>?_));obtain ⟨Ai,L3,Au,Av,B9⟩:=hk;have By:=Ab.trans Ai;refine ⟨By,?_⟩;have He:=Ai.1;have Eg:=Bp.trans Ai;have Eh:=Bq.trans Ai;have Ei:=A5.ext Ai;have Ej:=Br.trans Ai;have Ek:=A9.ext Ai;have El:=Bt.trans Ai;have Em:=Bu.ext Ai;have En:=Bv.trans Ai;have Eo:=A3.ext Ai;have Ep:=Am.ext Ai;refine AIz By rfl (AVd na Au AHx (by rw [Av];exact Aj5 Bg.dig Am.dig hl1b hl2b)) λHf Hg hk=>?_;obtain ⟨Af,Ba⟩:=hk;have Er:=By.trans Af;refine ⟨Er,?_⟩;have Hh:=Af.1;have Es:=Eg.trans Af;have Et:=Eh.trans Af;have Hj:=Ei.ext Af;have Eu:=Ej.trans Af;have Hk:=Ek.ext Af;have Ev:=El.trans Af;have Ew:=Em.ext Af;have Ey:=En.trans Af;have Ez:=Eo.ext Af;have Fa:=Ep.ext Af;have Fb:=Au.ext Af;obtain ⟨Aw,s4,L4,rfl,Ay,Bc,Be,Bf⟩:=Ba.out;refine AKo [.bool Aw,s4] AJz rfl rfl rfl rfl (ARw Ay.cap) Ew λHl Fc Aq=>?_;have Fd:=Et.thenUpd Aq (λk hk=>by have Ac:k=Aa:=hk;omega);have Hm:=Aq.1;have Hn:=Es.thenUpd Aq (λk hk=>by have Ac:k=Aa:=hk;omega);have Cd:=Ey.thenUpd Aq (λk hk=>by have Ac:k=Aa:=hk;omega);have Ho:=A8.ext Cd;have Hq:=Eu.thenUpd Aq (λk hk=>by have Ac:k=Aa:=hk;omega);have Hr:=A7.ext Cd;have Hs:=Ev.thenUpd Aq (λk hk=>by have Ac:k=Aa:=hk;omega);have Ht:=Ez.updLo Aq AHx;have Hu:=Fa.updLo Aq AHx;have Hv:=Fb.updLo Aq AHx;have Fe:=Ay.updLo Aq AHx;refine AH5<|AIc<|AIt<|⟨_,AKs AJz rfl rfl Fc,?_⟩;exact ⟨Fd,⟨Aw,s4,L4,rfl,Fe.mono AHx,Bc,Be,by rw [<- Bf,Av,hza,hzb,<- Bh,<- Bj];first | exact Acu (eq_of_beq<|by assumption) | exact Acv (ne_of_beq_false<|by assumption) (AX0<|by assumption) | exact AZ4 (ne_of_beq_false<|by assumption)<|Acs<|by assumption⟩⟩
theorem As3 {b:Int} (HA:ZV h la va a) (HB:ZV h lb vb b) (hba:a.natAbs < 4294967296 ^ 99) (hbb:b.natAbs < 4294967296 ^ 99):AI7 Tryz.prog 134 #[va,vb] h λx h'=>Ext h h'/\ZV h' (Array.size h) x (a - b):=by
 obtain ⟨na,sa,LA,rfl,HDa,htla,hla,hza⟩:=HA.out;obtain ⟨nb,sb,LB,rfl,HDb,htlb,hlb,hzb⟩:=HB.out;refine AJi (l:=[_,_]) mx Tryz.func134 rfl rfl rfl rfl rfl AIb (AH1<|AR0 [.bool na,sa] (λ_=>trivial) rfl rfl λAj h2 V3 E4 A3 Bz=>?_);have B2:Array.size h<=Aj:=A3;have B3:=E4.1;have Z8:=(Ext.refl h).trans E4;refine AR0 [.bool nb,sb] (λ_=>trivial) rfl rfl λAk B4 Ap Af A5 B5=>?_;have B6:Array.size h<=Ak:=Nat.le_trans E4.1 A5;have nebq1bq9:Aj≠Ak:=by have:=V3.lt;omega
 have B7:=Af.1;have Aq:=E4.trans Af;have Ar:=V3.ext Af;refine APa [.bool false,.slice none 0 0] ANt rfl (λ_=>trivial) λAb Au A6 Ac A7 B8=>?_;have B9:Array.size h<=Ab:=Nat.le_trans Aq.1 A7;have nebq1bq20:Aj≠Ab:=by have:=Ar.lt;omega
 have nebq9bq20:Ak≠Ab:=by have:=Ap.lt;omega
 have Ca:=Ac.1;have A8:=(Z8.trans Af).trans Ac;have Av:=Aq.trans Ac;have A9:=(E4.trans Af).trans Ac;have Ba:=Af.trans Ac;refine AH5<|AH3<|AKg (λh'=>Ext Au h') AIb ?_;have Ah:=Ext.refl Au;refine AQr [.bool na,sa] AJz rfl rfl Ah (λh' hb=>((Ar.ext Ac).ext hb).agg) (AQr [.bool nb,sb] AJz rfl rfl Ah (λh' hb=>((Ap.ext Ac).ext hb).agg) (AIz Ah rfl (As1<|HB.ext Av) λCb Cd hk=>?_));obtain ⟨Ad,HN⟩:=hk;have Am:=Ah.trans Ad;refine ⟨Am,?_⟩;have Ce:=Ad.1;have Bb:=A8.trans Ad;have Aw:=Av.trans Ad;have Bc:=A9.trans Ad;have Be:=Ba.trans Ad;have Bf:=A6.ext Ad;have Bg:=Ac.trans Ad;refine AIz Am rfl (Ai5 (HA.ext Aw) HN hba (by rw [Int.natAbs_neg];exact hbb)) λCf Cg hk=>?_;obtain ⟨Aa,Bh⟩:=hk;have Bi:=Am.trans Aa;refine ⟨Bi,?_⟩;have Ch:=Aa.1;have Bj:=Bb.trans Aa;have Bl:=Aw.trans Aa;have Bm:=Bc.trans Aa;have Bn:=Be.trans Aa;have Bo:=Bf.ext Aa;have Bp:=Bg.trans Aa;have HN_59:=HN.ext Aa;obtain ⟨Ax,s4,L4,rfl,Az,Br,Bt,Bu⟩:=Bh.out;refine AKo [.bool Ax,s4] AJz rfl rfl rfl rfl (ARw Az.cap) Bo λCi Bv Ae=>?_;have Bw:=Bl.thenUpd Ae (λk hk=>by have Ai:k=Ab:=hk;omega);have Cj:=Ae.1;have Ck:=Bj.thenUpd Ae (λk hk=>by have Ai:k=Ab:=hk;omega);have Cm:=Bp.thenUpd Ae (λk hk=>by have Ai:k=Ab:=hk;omega);have Cn:=Bm.thenUpd Ae (λk hk=>by have Ai:k=Ab:=hk;omega);have Co:=Bn.thenUpd Ae (λk hk=>by have Ai:k=Ab:=hk;omega);have HN_71:=HN_59.updLo Ae AHx;have Bx:=Az.updLo Ae AHx;refine AH5<|AIc<|⟨_,AKs AJz rfl rfl Bv,?_⟩;exact ⟨Bw,⟨Ax,s4,L4,rfl,Bx.mono AHx,Br,Bt,by rw [<- Bu];omega⟩⟩
theorem Aj6 (n:Nat):nv (List.replicate n 0)=0:=by
 induction n with
 | zero=>rfl
 | succ n ih=>rw [List.replicate_succ];simp [nv,ih]
theorem A1b {b:Int} (HA:ZV h la va a) (HB:ZV h lb vb b) (hab:a.natAbs * b.natAbs < 4294967296 ^ 100):AI7 Tryz.prog 135 #[va,vb] h λx h'=>Ext h h'/\ZV h' (Array.size h) x (a * b):=by
 obtain ⟨na,sa,LA,rfl,HDa,htla,hla,hza⟩:=HA.out;obtain ⟨nb,sb,LB,rfl,HDb,htlb,hlb,hzb⟩:=HB.out;refine AJi (l:=[_,_]) mx Tryz.func135 rfl rfl rfl rfl rfl AIb (AH1<|AR0 [.bool na,sa] (λ_=>trivial) rfl rfl λAd h2 V3 E4 Be Cf=>?_);have Cg:Array.size h<=Ad:=Be;have Ch:=E4.1;have Z8:=(Ext.refl h).trans E4;refine AR0 [.bool nb,sb] (λ_=>trivial) rfl rfl λAe Ci Az Ah Bg Cj=>?_;have Ck:Array.size h<=Ae:=Nat.le_trans E4.1 Bg;have nebq1bq9:Ad≠Ae:=by have:=V3.lt;omega
 have Cm:=Ah.1;have A3:=E4.trans Ah;have A4:=V3.ext Ah;refine APa [.bool false,.slice none 0 0] ANt rfl (λ_=>trivial) λAc Cn Bh Ag Bi Co=>?_;have Cp:Array.size h<=Ac:=Nat.le_trans A3.1 Bi;have nebq1bq20:Ad≠Ac:=by have:=A4.lt;omega
 have nebq9bq20:Ae≠Ac:=by have:=Az.lt;omega
 have Cq:=Ag.1;have Cr:=(Z8.trans Ah).trans Ag;have Ax:=A3.trans Ag;have A5:=A4.ext Ag;have Ct:=(E4.trans Ah).trans Ag;have A6:=Az.ext Ag;refine AQs<|AOe (fs:=1) AUj AIb AHz rfl (AI1 AQb rfl (A5.cell (i:=1) rfl) (AKc AIy rfl (HDa.ext Ax) (AOe (fs:=1) AUj AIb AHz rfl (AI1 AQb rfl (A6.cell (i:=1) rfl) (AKc AIy rfl (HDb.ext Ax) (AXx rfl rfl AHx (Aj0 (n:=LA.length + LB.length) AIy AT5 (λ_=>trivial) rfl rfl AHz AHx λg1 v1 h1 Bj E1 Cu Cv=>?_)))))));have Cw:=E1.1;have A7:=Ax.trans E1;have A8:=A5.ext E1;have Cx:=(Ah.trans Ag).trans E1;refine AH7<|AH3<|AH1<|AOe (fs:=1) AUj AIb AHz rfl (AI1 AQb rfl (A8.cell (i:=1) rfl) (AKc AIy rfl (HDa.ext A7) (AHy<|AH5<|AH6<|AMc 1180591620717407111104 (λy:Nat × List Nat=>[(22,.int .i64 (y.1:Int))]) (λk y h'=>k=LA.length - y.1/\y.1<=LA.length/\Ext h h'/\g1 < Array.size h'/\ALu 81 h' Ad [.bool na,sa]/\ALu 81 h' Ae [.bool nb,sb]/\ALu 81 h' Ac [.bool false,.slice none 0 0]/\AMd h' 160 g1 v1 (y.2.map AV8)/\y.2.length=LA.length + LB.length/\Dig y.2/\nv y.2=nv (LA.take y.1) * nv LB/\ ∀ q,y.1 + LB.length<=q->q < LA.length + LB.length->y.2[q]? =some 0) AIb LA.length (0,List.replicate (LA.length + LB.length) 0) ?_ ⟨rfl,trivial⟩ ?_)))
 ·exact ⟨rfl,Nat.zero_le _,A7,AHx,A8,(A6.ext E1),(Bh.ext E1),Bj,AI9,λx hx=>by rw [(List.mem_replicate.1 hx).2];decide,by simp [nv,Aj6],λq hq Cy=>by dsimp only;rw [List.getElem?_replicate];simp;omega⟩
 rintro k ⟨i,O⟩ s1 hq ⟨rfl,hi,XQ,hgq,Ak,Af,Ap,Ab,hOl,hOd,hOv,hOz⟩;dsimp only at hi Ab hOl hOd hOv hOz ⊢;refine AH1<|ANd rfl rfl (λBl=>?_) (λBl=>?_)
 ·refine AH5<|AH3<|AI2 rfl (AIa<|q_t<|AH3<|AH6<|AH3 ?_);obtain ⟨x,hx⟩:∃ x,LA[i]? =some x:=⟨_,List.getElem?_eq_getElem AHx⟩;have hbx:=HDa.dig x<|List.mem_of_getElem? hx;refine AIf<|AHy<|ARd AIy rfl (HDa.ext XQ) rfl hx λCz Bm=>AI1 AKz rfl Bm (AIw<|AJd<|AH7<|AH3<|AH1<|AOe (fs:=1) AUj AIb AHz rfl (AI1 AQb rfl (Af.cell (i:=1) rfl) (AKc AIy rfl (HDb.ext XQ) (AHy<|AH5<|AH6<|AMc 1152921503533106944 (λy:Nat × Nat × List Nat=>[(30,.int .i64 (y.1:Int)),(8,.int .u64 (y.2.1:Int))]) (λk y h'=>k=LB.length - y.1/\y.1<=LB.length/\Ext h h'/\g1 < Array.size h'/\ALu 81 h' Ad [.bool na,sa]/\ALu 81 h' Ae [.bool nb,sb]/\ALu 81 h' Ac [.bool false,.slice none 0 0]/\AMd h' 160 g1 v1 (y.2.2.map AV8)/\y.2.2.length=LA.length + LB.length/\Dig y.2.2/\y.2.1 < 4294967296/\nv y.2.2 + 4294967296 ^ (i + y.1) * y.2.1=nv (LA.take i) * nv LB + 4294967296 ^ i * (x * nv (LB.take y.1))/\ ∀ q,i + LB.length<=q->q < LA.length + LB.length->y.2.2[q]? =some 0) AIb LB.length (0,0,O) ?_ ⟨rfl,rfl,trivial⟩ ?_))))
  ·exact ⟨rfl,Nat.zero_le _,XQ,AHx,Ak,Af,Ap,Ab,hOl,hOd,by dsimp only;omega,by simp [nv,hOv],hOz⟩
  rintro k ⟨j,c,O⟩ s2 hp ⟨rfl,hj,XQ,hgq,Ak,Af,Ap,Ab,hOl,hOd,hc,hOv,hOz⟩;dsimp only at hj Ab hOl hOd hc hOv hOz ⊢;refine AH1<|ANd rfl rfl (λBn=>?_) (λBn=>?_)
  ·refine AH5<|AH3<|AI2 rfl (AIa<|q_t<|AH3<|AH6<|AH3 ?_);obtain ⟨y,hy⟩:∃ x,LB[j]? =some x:=⟨_,List.getElem?_eq_getElem AHx⟩;have hby:=HDb.dig y<|List.mem_of_getElem? hy;obtain ⟨ov,hov⟩:∃ x,O[i + j]? =some x:=⟨_,List.getElem?_eq_getElem AHx⟩;have hbo:=hOd ov<|List.mem_of_getElem? hov;have htb:=Amu hc hbx hby hbo;have hxy:x * y<=4294967295 * 4294967295:=Nat.mul_le_mul AHx AHx;refine AIf<|AHy<|ARd AIy rfl (HDb.ext XQ) rfl hy λC0 Bo=>AI1 AKz rfl Bo (AIw<|AJd<|AHy<|AHy<|Abd ALw ALc rfl hbx (AHy<|Abd ALw ALc rfl hby (Amt rfl rfl AHx (AHy<|AHy<|AHy<|AXx rfl rfl AHx (Abp AIy rfl Ab rfl (by rw [List.length_map];omega) ?_)))));refine AI1 AKz rfl (AMd.cell Ab<|Aau hov) (Abd ALw ALc rfl hbo (AW3 rfl rfl AHx (AW3 rfl rfl AHx (AJd<|AHy<|AHy<|AHy<|AXx rfl rfl AHx (AHy<|Adm ALc ALw rfl (Abp AIy rfl Ab rfl (by rw [List.length_map];omega) ?_))))));refine Adl (O.set (i + j)<|(c + (x * y + ov)) % 4294967296) AKz rfl rfl Ab AHx rfl λh4 Bp U4=>?_;have C3:=U4.1;have Bq:=XQ.thenUpd U4 (λk hk=>by have A9:k=g1:=hk;omega);have Br:=Ak.upd U4 (λhe=>by have Ar:Ad=g1:=he;omega);have Bt:=Af.upd U4 (λhe=>by have Ar:Ae=g1:=he;omega);have Bu:=Ap.upd U4 (λhe=>by have Ar:Ac=g1:=he;omega);refine AH5<|AIf<|AHy<|Aco rfl rfl (AIw<|AIu<|q_b<|q_t<|AIf<|ASf rfl AHx (AHy<|AH5 ?_));exact ⟨LB.length - (j + 1),(j + 1,(c + (x * y + ov)) / 4294967296,O.set (i + j)<|(c + (x * y + ov)) % 4294967296),by first | omega | (dsimp only;omega),⟨rfl,by first | omega | (dsimp only;omega),Bq,AHx,Br,Bt,Bu,Bp,by simp [hOl],Aav hOd<|Nat.mod_lt _ AHz,by dsimp only;exact Nat.div_lt_of_lt_mul htb,by dsimp only;rw [AKl hy];exact Aj1 (Pi:=0) (Ad6 _ hov) hOv<|Nat.mod_add_div _ _,λq h1 h2=>by dsimp only;rw [List.getElem?_set_ne AHx];exact hOz q h1 h2⟩,rfl,rfl,trivial⟩
  ·refine AH5<|AH3<|AI6 rfl (AIq<|AIr<|AIr<|AJt<|q_t ?_);obtain rfl:j=LB.length:=by omega
   refine AIf<|AHy<|AHy<|AOe (fs:=1) AUj AIb AHz rfl (AI1 AQb rfl (Af.cell (i:=1) rfl) (AKc AIy rfl (HDb.ext XQ) (AXx rfl rfl AHx (AHy<|Adm ALc ALw rfl ?_))));rw [Nat.mod_eq_of_lt hc];refine Abp AIy rfl Ab rfl (by rw [List.length_map];omega) ?_;refine Adl (O.set (i + LB.length)<|c) AKz rfl rfl Ab AHx rfl λh5 Bv U5=>?_;have C5:=U5.1;have Bw:=XQ.thenUpd U5 (λk hk=>by have A9:k=g1:=hk;omega);have Bx:=Ak.upd U5 (λhe=>by have Ar:Ad=g1:=he;omega);have By:=Af.upd U5 (λhe=>by have Ar:Ae=g1:=he;omega);have Bz:=Ap.upd U5 (λhe=>by have Ar:Ac=g1:=he;omega);refine AIu<|q_b<|q_t<|AIf<|ASf rfl AHx (AHy<|AH5 ?_);exact ⟨LA.length - (i + 1),(i + 1,O.set (i + LB.length) c),by first | omega | (dsimp only;omega),⟨rfl,by first | omega | (dsimp only;omega),Bw,AHx,Bx,By,Bz,Bv,by simp [hOl],Aav hOd hc,by dsimp only;have h1:=Ad6 c<|hOz (i + LB.length) (Nat.le_refl _) AHx;rw [Nat.mul_zero,Nat.add_zero] at h1;rw [h1,hOv,List.take_length,AKl hx,Nat.add_mul,Nat.mul_assoc],λq h1 h2=>by dsimp only;rw [List.getElem?_set_ne AHx];exact hOz q AHx h2⟩,rfl,trivial⟩
 ·refine AH5<|AH3<|AI6 rfl (AIq<|AIr<|AIr<|AJt<|q_t<|AH3 ?_);obtain rfl:i=LA.length:=by omega
  rw [List.take_length] at hOv;have HDo:=Ab.ds (lo:=0) hOd<|Nat.zero_le _;refine AIf<|AOe (fs:=1) ATz AIb AHz rfl (AI1 ANf rfl (Ak.cell (i:=0) rfl) (AOe (fs:=1) ATz AIb AHz rfl (AI1 ANf rfl (Af.cell (i:=0) rfl) (Ajz Aev rfl rfl (AHy<|AIz trivial rfl (AVd (!(na == nb)) (DS.ext HDo<|Ext.refl _) AHx (by rw [hOv,<- ANu hza,<- ANu hzb];exact hab)) λC6 C7 hk=>?_)))));obtain ⟨Am,B2⟩:=hk;refine ⟨trivial,?_⟩;have C8:=Am.1;have B3:=XQ.trans Am;have B4:=Ak.ext Am;have B5:=Af.ext Am;have B6:=Ap.ext Am;have C9:=Ab.ext Am;obtain ⟨Ba,s3,L3,rfl,Bc,B8,B9,Ca⟩:=B2.out;refine AKo [.bool Ba,s3] AJz rfl rfl rfl rfl (ARw Bc.cap) B6 λDa Cb Av=>?_;have Cd:=B3.thenUpd Av (λk hk=>by have A9:k=Ac:=hk;omega);have Db:=Av.1;have Dc:=B4.upd Av λhe=>nebq1bq20 (he:Ad=Ac);have Dd:=B5.upd Av λhe=>nebq9bq20 (he:Ae=Ac);have Ce:=Bc.updLo Av AHx;refine AH5<|AIc<|⟨_,AKs AJz rfl rfl Cb,?_⟩;exact ⟨Cd,⟨Ba,s3,L3,rfl,Ce.mono AHx,B8,B9,by rw [<- Ca,hOv,hza,hzb,Am0]⟩⟩
theorem As4 (b:Bool) (a:Option Addr) (n c:Nat) (w:World):(Instr.field 81 (.agg #[.bool b,.slice a n c]) 1).run Tryz.prog w= .ok (.slice a n c) w:=by kernel_rfl
theorem Axk:2 ^ (j + 1) * t + 2 ^ j=2 ^ j * (2 * t + 1):=by rw [Nat.pow_succ,Nat.mul_add,Nat.mul_one,Nat.mul_assoc]
theorem Axl:2 ^ (j + 1) * t=2 ^ j * (2 * t):=by rw [Nat.pow_succ,Nat.mul_assoc]
theorem As5 {s:Nat} (h:s < 32):IntKind.u32.wrap (1 * 2 ^ s)=((2 ^ s:Nat):Int):=by
 have h1:(2:Nat) ^ s < 4294967296:=by rw [show (4294967296:Nat)=2 ^ 32 by decide];exact Nat.pow_lt_pow_right AHz h
 rw [wrap_u32,Int.one_mul,show ((2:Int) ^ s)=((2 ^ s:Nat):Int) by simp];generalize (2:Nat) ^ s=q at *;omega
theorem Agp {a b:Nat} (h:AV3 a b < 0):a < b:=by
 unfold AV3 at h;split at h
 ·assumption
 ·split at h <;> omega
theorem Arc (HA:DS h la va LA) (HB:DS h lb vb LB) (htb:TL LB) (Av:nv LB≠0) (hna:LA.length<=900) (hnb:LB.length<=900):AI7 Tryz.prog 164 #[va,vb] h λx h'=>Ext h h'/\ ∃ q r,x= .tuple #[q,r]/\ ∃ LQ LR,DS h' (Array.size h) q LQ/\DS h' (Array.size h) r LR/\nv LQ=nv LA / nv LB/\nv LR=nv LA % nv LB/\LQ.length<=1000/\LR.length<=1000:=by
 refine AJi (l:=[_,_]) mx Tryz.func164 rfl rfl rfl rfl rfl AIb (AH1<|AIw<|AH7<|AH3<|AH1<|AHy<|AKc AIy rfl HA (Abq rfl rfl (λB2=>?_) (λB2=>?_)))
 ·refine AHy<|AJ6 12 true AIb rfl rfl (AHy<|AJ6 12 true AIb rfl rfl (AKc AIy rfl HB (AJ6 12 true AIb rfl rfl (Abq rfl rfl (λB3=>?_) (λB3=>?_)))))
  ·refine AIm rfl (AH5<|AI2 rfl (AH1<|AHy<|AIz trivial rfl (Amz HA AHx) λx1 h hk=>?_));obtain ⟨rfl,rfl⟩:=hk;refine ⟨trivial,?_⟩;refine AHy<|AIz trivial rfl (Amz HB AHx) λx2 h hk=>?_;obtain ⟨rfl,rfl⟩:=hk;refine ⟨trivial,?_⟩;refine AIw<|AH7<|AH3 ?_;have Ds:=Arb HA.dig AHx;refine AZt AIb<|AHy<|AHy<|AWz rfl rfl AHx ?_;rw [show IntKind.u64.wrap (((nv LA:Nat):Int).tdiv ((nv LB:Nat):Int))=((nv LA / nv LB:Nat):Int) by rw [Int.tdiv_eq_ediv_of_nonneg AHx,<- Int.natCast_ediv,wrap_u64];have hq:=Nat.div_le_self (nv LA)<|nv LB;generalize nv LA / nv LB=q at hq ⊢;omega];refine AIz trivial rfl (Agn false (nv LA / nv LB) (by have:=Nat.div_le_self (nv LA)<|nv LB;omega) _) λx3 h4 hk=>?_;obtain ⟨E5,B4⟩:=hk;refine ⟨trivial,?_⟩;have Dv:=E5.1;have Z7:=(Ext.refl h).trans E5;obtain ⟨Dw,s1,L1,rfl,Br,Dx,Dy,B6⟩:=B4.out;obtain ⟨a1,n1,c1,rfl,_⟩:=Br.cap;have Be:nv L1=nv LA / nv LB:=(ANu B6).symm.trans (ANu rfl);refine A4b (As4 _ _ _ _)<|AHy<|AHy<|Awz rfl rfl AHx (AIz trivial rfl (Agn false (nv LA % nv LB) (by have:=Nat.mod_le (nv LA)<|nv LB;omega) _) λx8 h9 hk=>?_);obtain ⟨Ax,B7⟩:=hk;refine ⟨trivial,?_⟩;have D4:=Ax.1;have D5:=Z7.trans Ax;have Bu:=E5.trans Ax;have B8:=Br.ext Ax;obtain ⟨D6,s2,L2,rfl,Bv,D7,D8,B9⟩:=B7.out;obtain ⟨a2,n2,c2,rfl,_⟩:=Bv.cap;have Bf:nv L2=nv LA % nv LB:=(ANu B9).symm.trans (ANu rfl);refine A4b (As4 _ _ _ _) (AIw<|AH7<|AIc<|AIt<|⟨_,AJu,?_⟩)
   first
   | exact ⟨Bu,_,_,rfl,L1,L2,B8.mono AHx,Bv.mono AHx,Be,Bf,AHx,AHx⟩
   | exact ⟨Bu,_,_,rfl,L7,R,lacks_HD7.mono AHx,lacks_HR.mono AHx,by rw [A3];exact hQv,hRv,AHx,AHx⟩
  ·refine AIm rfl (AH5<|AI6 rfl (AIa<|q_t<|AH1<|AHy<|AKc AIy rfl HA (Aj0 (n:=LA.length) AIy AT5 (λ_=>trivial) rfl rfl AHz AHx λg1 v1 h1 Bg E1 Cb Cd=>?_)));have Eb:=E1.1;have Ec:=(Ext.refl h).trans E1;refine AH7<|AH3<|AH1<|AHy<|AKc AIy rfl (HA.ext E1) (AWh rfl rfl AHx AHx ?_);rw [show (32:Int) * ((LA.length:Nat):Int)=((32 * LA.length:Nat):Int) by omega];refine AU7 rfl rfl AHx AHx (AH7<|AH6 ?_);have h0d:nv LA / 2 ^ (32 * LA.length)=0:=Nat.div_eq_of_lt (by rw [<- Afz];exact AVx HA.dig);refine AMc 4722366482594767307040 (λy:Nat × Value × List Nat × List Nat=>[(8,.int .i64<|(y.1:Int) - 1),(5,y.2.1)]) (λk y h'=>y.1=k/\y.1<=32 * LA.length/\Ext h h'/\g1 < Array.size h'/\AMd h' 160 g1 v1 (y.2.2.1.map AV8)/\y.2.2.1.length=LA.length/\Dig y.2.2.1/\nv y.2.2.1=2 ^ y.1 * (nv LA / 2 ^ y.1 / nv LB)/\DS h' (g1 + 1) y.2.1 y.2.2.2/\TL y.2.2.2/\nv y.2.2.2=nv LA / 2 ^ y.1 % nv LB) AIb (32 * LA.length) (32 * LA.length,.slice none 0 0,List.replicate LA.length 0,[]) ?_ ⟨rfl,rfl,trivial⟩ ?_
   ·exact ⟨rfl,Nat.le_refl _,E1,AHx,Bg,AI9,λx hx=>by rw [(List.mem_replicate.1 hx).2];decide,by dsimp only;rw [h0d,Nat.zero_div,Aj6];rfl,AZx _ _,Abc,by dsimp only;rw [h0d,Nat.zero_mod];rfl⟩
   rintro k ⟨i,vr,Q,R⟩ s1 hq ⟨rfl,hi,XQ,hgq,Ad,hQl,hQd,hQv,HR,hRt,hRv⟩;dsimp only at hi Ad hQl hQd hQv HR hRt hRv ⊢;have hRl:R.length<=LB.length:=AUq hRt (by rw [hRv];exact Nat.lt_trans (Nat.mod_lt _<|Nat.pos_of_ne_zero Av)<|AVx HB.dig);refine AH3<|AH1<|AHy<|Ad0 rfl rfl (λCe=>?_) (λCe=>?_)
   ·refine AH5<|AI2 rfl (AIa<|q_t<|AH3<|AH6<|AH3 ?_);obtain ⟨j,rfl⟩:∃ j,i=j + 1:=⟨i - 1,AHx⟩;obtain ⟨x,hx⟩:∃ x,LA[j / 32]? =some x:=⟨_,List.getElem?_eq_getElem AHx⟩;have hbx:=HA.dig x<|List.mem_of_getElem? hx;have hbit:=Asv HA.dig hx;have hst:=Aot (N:=nv LA) (i:=j) Av hRv;rw [hbit] at hst;refine AIf<|AHy<|AHy<|AHy<|Amp rfl rfl AHx AHx AHx ?_;rw [show (((j + 1:Nat):Int) - 1) / 32=((j / 32:Nat):Int) by omega];refine ARd AIy rfl (HA.ext XQ) rfl hx λEd Cf=>AI1 AKz rfl Cf (AHy<|Adz rfl rfl AHx AHx ?_);rw [show (((j + 1:Nat):Int) - 1) % 32=((j % 32:Nat):Int) by omega];refine Ajx (n:=j % 32) rfl rfl (by show j % 32<=32;omega) ?_;rw [show (x:Int) / 2 ^ (j % 32)=((x / 2 ^ (j % 32):Nat):Int) by simp];have hxs:x / 2 ^ (j % 32) < 4294967296:=Nat.lt_of_le_of_lt (Nat.div_le_self _ _) hbx;refine Afy rfl rfl (.inl rfl) (Aox hxs) (AIz trivial rfl (Aj4 (x / 2 ^ (j % 32) % 2) AHx HR AHx) λEe Ef hk=>?_);obtain ⟨A4,L3,Am,Ae,Ch⟩:=hk;refine ⟨trivial,?_⟩;have Eg:=A4.1;have Ci:=XQ.trans A4;have Cj:=Ad.ext A4;have HR_24:=HR.ext A4;refine AIz trivial rfl (ARe Am AHx) λEh Ck hk=>?_;obtain ⟨Ao,L4,Af,Ap,Ag,Cm⟩:=hk;refine ⟨trivial,?_⟩;have Ei:=Ao.1;have A5:=Ci.trans Ao;have Bw:=Cj.ext Ao;have HR_31:=HR_24.ext Ao;have Cn:=Am.ext Ao;refine AJd<|AHy<|AHy<|AIz trivial rfl (Ai4 Af (HB.ext A5) Ap htb AHx AHx) λEj Ck hk=>?_;obtain ⟨rfl,rfl⟩:=hk;refine ⟨trivial,?_⟩;refine Ad0 rfl rfl (λCo=>?_) (λCo=>?_)
    ·refine AH5<|AI2 rfl (AH1<|AHy<|AHy<|AIz trivial rfl (Ago Af (HB.ext A5) htb (AX0<|by assumption) AHx) λEk El hk=>?_);obtain ⟨Aj,L5,Aq,Bi,Cq⟩:=hk;refine ⟨trivial,?_⟩;have Em:=Aj.1;have Cr:=A5.trans Aj;have Ct:=Bw.ext Aj;have HR_40:=HR_31.ext Aj;have Cu:=Cn.ext Aj;have Cv:=Af.ext Aj;refine AIz trivial rfl (ARe Aq AHx) λEn Eo hk=>?_;obtain ⟨Ah,L6,Bl,Bm,Bn,Cw⟩:=hk;refine ⟨trivial,?_⟩;have Ep:=Ah.1;have Cx:=Cr.trans Ah;have A6:=Ct.ext Ah;have HR_49:=HR_40.ext Ah;have Cy:=Cu.ext Ah;have Cz:=Cv.ext Ah;have C0:=Aq.ext Ah;refine AH7 ?_;obtain ⟨dd,hd⟩:∃ x,Q[j / 32]? =some x:=⟨_,List.getElem?_eq_getElem AHx⟩;have hdb:=hQd dd<|List.mem_of_getElem? hd;obtain ⟨t,rfl⟩:=Asw hQd hd hQv;have hge:nv LB<=2 * nv R + x / 2 ^ (j % 32) % 2:=by rw [<- Ae,<- Ag];exact AX0 (by assumption)
     have Ar:j % 32 < 32:=Nat.mod_lt _ AHz;have Bo:2 ^ (j % 32) < 4294967296:=by have:=Aiz Ar hdb;omega
     refine AZt AIb<|AHy<|AHy<|Amp rfl rfl AHx AHx AHx ?_;rw [show (((j + 1:Nat):Int) - 1) / 32=((j / 32:Nat):Int) by omega];refine Abp AIy rfl A6 rfl (by rw [List.length_map];omega) ?_;refine AI1 AKz rfl (AMd.cell A6<|Aau hd) (AHy<|Adz rfl rfl AHx AHx ?_);rw [show (((j + 1:Nat):Int) - 1) % 32=((j % 32:Nat):Int) by omega];refine Als (n:=j % 32) rfl rfl (by show j % 32<=32;omega) ?_;rw [As5 Ar];refine Afy rfl rfl (.inr<|.inl rfl) (Ara hdb Bo) ?_;rw [Axe];refine Abp AIy rfl A6 rfl (by rw [List.length_map];omega) ?_;refine Adl (Q.set (j / 32)<|2 ^ (j % 32 + 1) * t + 2 ^ (j % 32)) AKz rfl rfl A6 AHx rfl λh9 Bp U9=>?_;have Er:=U9.1;have C1:=Cx.thenUpd U9 (λk hk=>by have C3:k=g1:=hk;omega);have HR_55:=HR_49.updLo U9 AHx;have Es:=Cy.updLo U9 AHx;have Et:=Cz.updLo U9 AHx;have Eu:=C0.updLo U9 AHx;have C4:=Bl.updLo U9 AHx;refine AIu<|q_b<|q_t<|AIf<|AHy<|AU7 rfl rfl AHx AHx ?_;rw [show (((j + 1:Nat):Int) - 1) - 1=((j:Nat):Int) - 1 by omega];refine AH7 ?_;exact ⟨j,(j,_,Q.set (j / 32)<|2 ^ (j % 32 + 1) * t + 2 ^ (j % 32),L6),by first | omega | (dsimp only;omega),⟨rfl,by first | omega | (dsimp only;omega),C1,AHx,Bp,by simp [hQl],Aav hQd<|Aiz (Nat.mod_lt _ AHz) hdb,by dsimp only;rw [(hst.2.1 hge).2,<- Axk,<- hQv,AXy j];have:=Ad6 (2 ^ (j % 32 + 1) * t + 2 ^ (j % 32)) hd;rw [Nat.mul_add] at this;omega,C4.mono AHx,Bm,by dsimp only;rw [Bn,Bi,Ag,Ae];exact (hst.2.1 hge).1.symm⟩,rfl,rfl,trivial⟩
    ·refine AH5<|AI6 rfl (AIa<|q_b<|q_t<|AIf<|AHy<|AU7 rfl rfl AHx AHx ?_);rw [show (((j + 1:Nat):Int) - 1) - 1=((j:Nat):Int) - 1 by omega];refine AH7 ?_;have hlt:2 * nv R + x / 2 ^ (j % 32) % 2 < nv LB:=by rw [<- Ae,<- Ag];exact Agp (by assumption)
     exact ⟨j,(j,_,Q,L4),by first | omega | (dsimp only;omega),⟨rfl,by first | omega | (dsimp only;omega),A5,AHx,Bw,hQl,hQd,by dsimp only;rw [(hst.2.2 hlt).2,hQv,Axl],Af.mono AHx,Ap,by dsimp only;rw [Ag,Ae];exact (hst.2.2 hlt).1.symm⟩,rfl,rfl,trivial⟩
   ·refine AH5<|AI6 rfl (AIq<|AIr<|AIr<|AJt<|q_t<|AH3 ?_);obtain rfl:i=0:=by omega
    rw [Nat.pow_zero,Nat.one_mul,Nat.div_one] at hQv;rw [Nat.pow_zero,Nat.div_one] at hRv;have HDq:=Ad.ds (lo:=0) hQd<|Nat.zero_le _;refine AIf<|AHy<|AIz trivial rfl (ARe (DS.ext HDq<|Ext.refl _) AHx) λEv Ew hk=>?_;obtain ⟨A7,L7,Bq,C5,A3,C6⟩:=hk;refine ⟨trivial,?_⟩;have Ey:=A7.1;have Bx:=XQ.trans A7;have Ez:=Ad.ext A7;have HR_66:=HR.ext A7;refine AHy (AIw<|AH7<|AIc<|⟨_,AJu,?_⟩)
    first
    | exact ⟨Bx,_,_,rfl,L1,L2,lacks_HD1.mono AHx,lacks_HD2.mono AHx,Be,Bf,AHx,AHx⟩
    | exact ⟨Bx,_,_,rfl,L7,R,Bq.mono AHx,HR_66.mono AHx,by rw [A3];exact hQv,hRv,AHx,AHx⟩
 ·refine AHy<|AJw 12 false AIb rfl rfl (AJw 12 false AIb rfl rfl (AJw 12 false AIb rfl rfl (AIn rfl (AH5<|AI6 rfl (AIa<|q_t<|AH1<|AHy<|AKc AIy rfl HA (Aj0 (n:=LA.length) AIy AT5 (λ_=>trivial) rfl rfl AHz AHx λg1 v1 h1 Bg E1 Cb Cd=>?_))))));have Fa:=E1.1;have Fb:=(Ext.refl h).trans E1;refine AH7<|AH3<|AH1<|AHy<|AKc AIy rfl (HA.ext E1) (AWh rfl rfl AHx AHx ?_);rw [show (32:Int) * ((LA.length:Nat):Int)=((32 * LA.length:Nat):Int) by omega];refine AU7 rfl rfl AHx AHx (AH7<|AH6 ?_);have h0d:nv LA / 2 ^ (32 * LA.length)=0:=Nat.div_eq_of_lt (by rw [<- Afz];exact AVx HA.dig);refine AMc 4722366482594767307040 (λy:Nat × Value × List Nat × List Nat=>[(8,.int .i64<|(y.1:Int) - 1),(5,y.2.1)]) (λk y h'=>y.1=k/\y.1<=32 * LA.length/\Ext h h'/\g1 < Array.size h'/\AMd h' 160 g1 v1 (y.2.2.1.map AV8)/\y.2.2.1.length=LA.length/\Dig y.2.2.1/\nv y.2.2.1=2 ^ y.1 * (nv LA / 2 ^ y.1 / nv LB)/\DS h' (g1 + 1) y.2.1 y.2.2.2/\TL y.2.2.2/\nv y.2.2.2=nv LA / 2 ^ y.1 % nv LB) AIb (32 * LA.length) (32 * LA.length,.slice none 0 0,List.replicate LA.length 0,[]) ?_ ⟨rfl,rfl,trivial⟩ ?_
  ·exact ⟨rfl,Nat.le_refl _,E1,AHx,Bg,AI9,λx hx=>by rw [(List.mem_replicate.1 hx).2];decide,by dsimp only;rw [h0d,Nat.zero_div,Aj6];rfl,AZx _ _,Abc,by dsimp only;rw [h0d,Nat.zero_mod];rfl⟩
  rintro k ⟨i,vr,Q,R⟩ s1 hq ⟨rfl,hi,XQ,hgq,Ad,hQl,hQd,hQv,HR,hRt,hRv⟩;dsimp only at hi Ad hQl hQd hQv HR hRt hRv ⊢;have hRl:R.length<=LB.length:=AUq hRt (by rw [hRv];exact Nat.lt_trans (Nat.mod_lt _<|Nat.pos_of_ne_zero Av)<|AVx HB.dig);refine AH3<|AH1<|AHy<|Ad0 rfl rfl (λC7=>?_) (λC7=>?_)
  ·refine AH5<|AI2 rfl (AIa<|q_t<|AH3<|AH6<|AH3 ?_);obtain ⟨j,rfl⟩:∃ j,i=j + 1:=⟨i - 1,AHx⟩;obtain ⟨x,hx⟩:∃ x,LA[j / 32]? =some x:=⟨_,List.getElem?_eq_getElem AHx⟩;have hbx:=HA.dig x<|List.mem_of_getElem? hx;have hbit:=Asv HA.dig hx;have hst:=Aot (N:=nv LA) (i:=j) Av hRv;rw [hbit] at hst;refine AIf<|AHy<|AHy<|AHy<|Amp rfl rfl AHx AHx AHx ?_;rw [show (((j + 1:Nat):Int) - 1) / 32=((j / 32:Nat):Int) by omega];refine ARd AIy rfl (HA.ext XQ) rfl hx λFc C8=>AI1 AKz rfl C8 (AHy<|Adz rfl rfl AHx AHx ?_);rw [show (((j + 1:Nat):Int) - 1) % 32=((j % 32:Nat):Int) by omega];refine Ajx (n:=j % 32) rfl rfl (by show j % 32<=32;omega) ?_;rw [show (x:Int) / 2 ^ (j % 32)=((x / 2 ^ (j % 32):Nat):Int) by simp];have hxs:x / 2 ^ (j % 32) < 4294967296:=Nat.lt_of_le_of_lt (Nat.div_le_self _ _) hbx;refine Afy rfl rfl (.inl rfl) (Aox hxs) (AIz trivial rfl (Aj4 (x / 2 ^ (j % 32) % 2) AHx HR AHx) λFd Fe hk=>?_);obtain ⟨A8,L3,Am,Ae,Ch⟩:=hk;refine ⟨trivial,?_⟩;have Ff:=A8.1;have C9:=XQ.trans A8;have Da:=Ad.ext A8;have HR_76:=HR.ext A8;refine AIz trivial rfl (ARe Am AHx) λFg Db hk=>?_;obtain ⟨Au,L4,Af,Ap,Ag,Cm⟩:=hk;refine ⟨trivial,?_⟩;have Fh:=Au.1;have A9:=C9.trans Au;have By:=Da.ext Au;have HR_83:=HR_76.ext Au;have Dc:=Am.ext Au;refine AJd<|AHy<|AHy<|AIz trivial rfl (Ai4 Af (HB.ext A9) Ap htb AHx AHx) λFi Db hk=>?_;obtain ⟨rfl,rfl⟩:=hk;refine ⟨trivial,?_⟩;refine Ad0 rfl rfl (λDd=>?_) (λDd=>?_)
   ·refine AH5<|AI2 rfl (AH1<|AHy<|AHy<|AIz trivial rfl (Ago Af (HB.ext A9) htb (AX0<|by assumption) AHx) λFj Fk hk=>?_);obtain ⟨Ak,L5,Aq,Bi,Cq⟩:=hk;refine ⟨trivial,?_⟩;have Fl:=Ak.1;have De:=A9.trans Ak;have Df:=By.ext Ak;have HR_92:=HR_83.ext Ak;have Dg:=Dc.ext Ak;have Dh:=Af.ext Ak;refine AIz trivial rfl (ARe Aq AHx) λFm Fo hk=>?_;obtain ⟨Ai,L6,Bl,Bm,Bn,Cw⟩:=hk;refine ⟨trivial,?_⟩;have Fp:=Ai.1;have Di:=De.trans Ai;have Ba:=Df.ext Ai;have HR_101:=HR_92.ext Ai;have Dj:=Dg.ext Ai;have Dk:=Dh.ext Ai;have Dl:=Aq.ext Ai;refine AH7 ?_;obtain ⟨dd,hd⟩:∃ x,Q[j / 32]? =some x:=⟨_,List.getElem?_eq_getElem AHx⟩;have hdb:=hQd dd<|List.mem_of_getElem? hd;obtain ⟨t,rfl⟩:=Asw hQd hd hQv;have hge:nv LB<=2 * nv R + x / 2 ^ (j % 32) % 2:=by rw [<- Ae,<- Ag];exact AX0 (by assumption)
    have Ar:j % 32 < 32:=Nat.mod_lt _ AHz;have Bo:2 ^ (j % 32) < 4294967296:=by have:=Aiz Ar hdb;omega
    refine AZt AIb<|AHy<|AHy<|Amp rfl rfl AHx AHx AHx ?_;rw [show (((j + 1:Nat):Int) - 1) / 32=((j / 32:Nat):Int) by omega];refine Abp AIy rfl Ba rfl (by rw [List.length_map];omega) ?_;refine AI1 AKz rfl (AMd.cell Ba<|Aau hd) (AHy<|Adz rfl rfl AHx AHx ?_);rw [show (((j + 1:Nat):Int) - 1) % 32=((j % 32:Nat):Int) by omega];refine Als (n:=j % 32) rfl rfl (by show j % 32<=32;omega) ?_;rw [As5 Ar];refine Afy rfl rfl (.inr<|.inl rfl) (Ara hdb Bo) ?_;rw [Axe];refine Abp AIy rfl Ba rfl (by rw [List.length_map];omega) ?_;refine Adl (Q.set (j / 32)<|2 ^ (j % 32 + 1) * t + 2 ^ (j % 32)) AKz rfl rfl Ba AHx rfl λh9 Bp U9=>?_;have Fq:=U9.1;have Do:=Di.thenUpd U9 (λk hk=>by have C3:k=g1:=hk;omega);have HR_107:=HR_101.updLo U9 AHx;have Ft:=Dj.updLo U9 AHx;have Fu:=Dk.updLo U9 AHx;have Fv:=Dl.updLo U9 AHx;have Dp:=Bl.updLo U9 AHx;refine AIu<|q_b<|q_t<|AIf<|AHy<|AU7 rfl rfl AHx AHx ?_;rw [show (((j + 1:Nat):Int) - 1) - 1=((j:Nat):Int) - 1 by omega];refine AH7 ?_;exact ⟨j,(j,_,Q.set (j / 32)<|2 ^ (j % 32 + 1) * t + 2 ^ (j % 32),L6),by first | omega | (dsimp only;omega),⟨rfl,by first | omega | (dsimp only;omega),Do,AHx,Bp,by simp [hQl],Aav hQd<|Aiz (Nat.mod_lt _ AHz) hdb,by dsimp only;rw [(hst.2.1 hge).2,<- Axk,<- hQv,AXy j];have:=Ad6 (2 ^ (j % 32 + 1) * t + 2 ^ (j % 32)) hd;rw [Nat.mul_add] at this;omega,Dp.mono AHx,Bm,by dsimp only;rw [Bn,Bi,Ag,Ae];exact (hst.2.1 hge).1.symm⟩,rfl,rfl,trivial⟩
   ·refine AH5<|AI6 rfl (AIa<|q_b<|q_t<|AIf<|AHy<|AU7 rfl rfl AHx AHx ?_);rw [show (((j + 1:Nat):Int) - 1) - 1=((j:Nat):Int) - 1 by omega];refine AH7 ?_;have hlt:2 * nv R + x / 2 ^ (j % 32) % 2 < nv LB:=by rw [<- Ae,<- Ag];exact Agp (by assumption)
    exact ⟨j,(j,_,Q,L4),by first | omega | (dsimp only;omega),⟨rfl,by first | omega | (dsimp only;omega),A9,AHx,By,hQl,hQd,by dsimp only;rw [(hst.2.2 hlt).2,hQv,Axl],Af.mono AHx,Ap,by dsimp only;rw [Ag,Ae];exact (hst.2.2 hlt).1.symm⟩,rfl,rfl,trivial⟩
  ·refine AH5<|AI6 rfl (AIq<|AIr<|AIr<|AJt<|q_t<|AH3 ?_);obtain rfl:i=0:=by omega
   rw [Nat.pow_zero,Nat.one_mul,Nat.div_one] at hQv;rw [Nat.pow_zero,Nat.div_one] at hRv;have HDq:=Ad.ds (lo:=0) hQd<|Nat.zero_le _;refine AIf<|AHy<|AIz trivial rfl (ARe (DS.ext HDq<|Ext.refl _) AHx) λFw Fx hk=>?_;obtain ⟨Bb,L7,Bq,C5,A3,C6⟩:=hk;refine ⟨trivial,?_⟩;have Fy:=Bb.1;have Bz:=XQ.trans Bb;have Fz:=Ad.ext Bb;have HR_118:=HR.ext Bb;refine AHy (AIw<|AH7<|AIc<|⟨_,AJu,?_⟩)
   first
   | exact ⟨Bz,_,_,rfl,L1,L2,lacks_HD1.mono AHx,lacks_HD2.mono AHx,Be,Bf,AHx,AHx⟩
   | exact ⟨Bz,_,_,rfl,L7,R,Bq.mono AHx,HR_118.mono AHx,by rw [A3];exact hQv,hRv,AHx,AHx⟩
end Go.Proofs.YtegoafpaljeobaaGreatDoor
namespace Go.QF
section
variable {P:Program} {ops:Array Oper}
structure LsF (ops:Array Oper) (R:List Nat) (listed:Array Bool):Prop where
 pw:List.Pairwise (· < ·) R
 size:listed.size=ops.size
 mem:∀ j,j∈R↔(j < ops.size/\listed.getD j true=false)
 cl:∀ j oj,listed.getD j false=true->ops[j]? =some oj-> ∀ ed∈oj.after,Region.binds .any ed=true->listed.getD ed.on false=true
theorem LsF.step {R1 R2:List Nat} {oi:Oper} (L:LsF ops (R1 ++ i :: R2) listed) (hoi:ops[i]? =some oi) (hall:∀ ed∈oi.after,Region.binds .any ed=true->listed.getD ed.on false=true):LsF ops (R1 ++ R2) (listed.setIfInBounds i true):=by
 have hpw':=List.pairwise_append.1 L.pw;have his:i < ops.size:=(Array.getElem?_eq_some_iff.1 hoi).1;have his':i < listed.size:=by rw [L.size];exact his
 have Ab:∀ j,i≠j-> ∀ d,(listed.setIfInBounds i true).getD j d=listed.getD j d:=λj hij d=>by
  simp only [Array.getD_eq_getD_getElem?];rw [Array.getElem?_setIfInBounds_ne hij]
 have htr:∀ j,listed.getD j false=true->(listed.setIfInBounds i true).getD j false=true:=λj hj=>by
  by_cases h:i=j
  ·subst h;simp [his']
  ·rw [Ab j h];exact hj
 refine ⟨List.pairwise_append.2 ⟨hpw'.1,(List.pairwise_cons.1 hpw'.2.1).2,λx hx y hy=>hpw'.2.2 x hx y<|List.mem_cons_of_mem _ hy⟩,by simp [L.size],λj=>?_,?_⟩
 ·have hm:=L.mem j;constructor
  ·intro hj
   have hj':j∈R1 ++ i :: R2:=by
    rcases List.mem_append.1 hj with h | h
    ·exact List.mem_append_left _ h
    ·exact List.mem_append_right _<|List.mem_cons_of_mem _ h
   obtain ⟨h1,h2⟩:=hm.1 hj'
   have hne:i≠j:=by
    intro he
    subst he
    rcases List.mem_append.1 hj with h | h
    ·have:=hpw'.2.2 i h i<|List.mem_cons_self ..;omega
    ·have:=(List.pairwise_cons.1 hpw'.2.1).1 i h;omega
   exact ⟨h1,by rw [Ab j hne];exact h2⟩
  ·rintro ⟨h1,h2⟩
   have hne:i≠j:=by
    intro he
    subst he
    simp [his'] at h2
   rw [Ab j hne] at h2;have:=hm.2 ⟨h1,h2⟩;rcases List.mem_append.1 this with h | h
   ·exact List.mem_append_left _ h
   ·rcases List.mem_cons.1 h with h | h
    ·exact absurd h.symm hne
    ·exact List.mem_append_right _ h
 ·intro j oj hj hoj ed hed hbd;by_cases hij:i=j
  ·subst hij;rw [hoi] at hoj;injection hoj with hoj;subst hoj;exact htr _<|hall ed hed hbd
  ·rw [Ab j hij] at hj;exact htr _<|L.cl j oj hj hoj ed hed hbd
theorem LsF.notListed (L:LsF ops R listed) {k:Nat} (hk:k∈R):listed.getD k false=false:=by
 obtain ⟨h1,h2⟩:=(L.mem k).1 hk;have h3:k < listed.size:=by rw [L.size];exact h1
 simp [h3] at h2 ⊢;exact h2
theorem Axm {a b:Nat} (h:Nat.blt a b=true):a < b:=Nat.le_of_ble_eq_true h
theorem Au1 (ops:Array Oper):LsF ops (List.range ops.size) (Array.replicate ops.size false):=by
 refine ⟨List.pairwise_lt_range,AI9,λj=>?_,λj oj hj _=>?_⟩
 ·simp only [List.mem_range];constructor
  ·intro h;exact ⟨h,by simp [h]⟩
  ·exact λh=>h.1
 ·exfalso;rcases Nat.lt_or_ge j ops.size with h' | h'
  ·simp [h'] at hj
  ·simp [h'] at hj
def W2 (P:Program) (n:Nat) (c:Code) (Q:Exit->Env->AH8->Prop) (e:Env) (h:AH8):Prop:=
 ∀ (a:Act) (w:World) (Q':Exit->Act->World->Prop),Rep n e a->w.heap=h->(∀ x e' a' w',Rep n e' a'->Same w w'->Q x e' w'.heap->Q' x a' w')->c.wp P Q' a w
theorem AY8 {n:Nat} {c:Code} {Q:Exit->Env->AH8->Prop} {e:Env} (hmx:P.follows .mixedOrders=true) (hok:okC n c=true) (H:W P c Q e h):W2 P n c Q e h:=by
 intro a w Q' r hw hQ;subst hw;exact W.sound hmx hok r H hQ
theorem AX1 {n:Nat} {x y:Code} {Q:Exit->Env->AH8->Prop} {e:Env} (H:W2 P n x (AWw (λe h=>W2 P n y Q e h) Q) e h):W2 P n (.seq x y) Q e h:=by
 intro a w Q' r hw hQ;refine wp_seq<|H a w _ r hw λex e' a' w' r' s k=>?_;cases ex <;> first | exact hQ _ _ _ _ r' s k | exact k a' w' Q' r' rfl (λx e2 a2 w2 r2 s2 k2=>hQ _ _ _ _ r2 (s.trans s2) k2)
theorem Ahn:∀ (I:List Nat) (L:List Oper),I.map (λi=>ops[i]?)=L.map some-> ∀ e h,RL P B st ops L e h K->LI P B st ops I e h K:=by
 intro I
 induction I with
 | nil=>intro L hI e h H;cases L with | nil=>exact H | cons o L=>cases hI
 | cons i I ih=>
   intro L hI e h H
   cases L with
   | nil=>cases hI
   | cons o L=>
     simp only [List.map_cons,List.cons.injEq] at hI
     simp only [LI,hI.1]
     exact GOp.mono (λv h' hh=>ih L hI.2 _ _ hh) H
theorem Aoy {fn:Func} {c:Code} {rs:List ResultVar} {n:Nat} {l:List Value} {K:Value->AH8->Prop} (hf:P.funcs[f]? =some fn) (hn:(fn.name == "runtime.NumGoroutine")=false) (hb:fn.body=some c) (hr:fn.results=rs.toArray) (hnt:fn.ntmps=n) (hl:Nat.ble l.length n=true) (H:W2 P n c (A39 P rs K) (Aof l) h):AI7 P f l.toArray h K:=by
 refine ⟨⟨fn,hf,hn,by simp [hb]⟩,λw hw=>?_⟩;subst hw;have hl:=Nat.le_of_ble_eq_true hl;refine calls_of_wp hf hb<|H _ _ _ ⟨?_,rfl,λt=>?_⟩ rfl λx e' a' w' r s k=>?_
 ·simp [hnt];omega
 ·rw [Aog];simp only [Array.getD_eq_getD_getElem?];rw [Array.getElem?_append];split
  ·simp
  ·rename_i hge;simp at hge;simp only [List.size_toArray];rw [List.getElem?_eq_none hge];rw [Array.getElem?_replicate];split <;> rfl
 ·cases x with
  | normal=>obtain ⟨v,hv,hk⟩:=k;exact ⟨r.defers,v,hv fn _ w' hr r.get rfl,v,rfl,s,hk⟩
  | ret=>obtain ⟨v,hv,hk⟩:=k;exact ⟨r.defers,v,hv fn _ w' hr r.get rfl,v,rfl,s,hk⟩
  | exit id=>exact k.elim
  | goto t=>exact k.elim
  | panic ch=>exact k.elim
  | outgrown=>exact k.elim
end
def over {α:Type}:List α->Nat->List α->List α
 | l,0,[]=>l
 | [],_,_=>[]
 | _ :: l,0,v :: vs=>v :: over l 0 vs
 | x :: l,k + 1,vs=>x :: over l k vs
theorem Axn:∀ (l:List α) (k:Nat) (vs:List α),(over l k vs).length=l.length:=by
 intro l
 induction l with
 | nil=>intro k vs;cases k <;> cases vs <;> rfl
 | cons x l ih=>
   intro k vs
   cases k with
   | zero=>cases vs with
     | nil=>rfl
     | cons v vs=>simp [over,ih]
   | succ k=>simp [over,ih]
theorem AZ5:∀ (l:List α) (k:Nat) (vs:List α) (o:Nat),(over l k vs)[o]? =if k<=o/\o < k + vs.length/\o < l.length then vs[o - k]? else l[o]? :=by
 intro l
 induction l with
 | nil=>intro k vs o;cases k <;> cases vs <;> simp [over]
 | cons x l ih=>
   intro k vs o
   cases k with
   | zero=>cases vs with
     | nil=>simp [over]
     | cons v vs=>
       cases o with
       | zero=>simp [over]
       | succ o=>
         simp only [over,List.getElem?_cons_succ,ih]
         simp only [List.length_cons,Nat.zero_le,true_and,Nat.sub_zero,List.getElem?_cons_succ,Nat.zero_add,Nat.add_lt_add_iff_right]
   | succ k=>
     cases o with
     | zero=>simp [over]
     | succ o=>
       simp only [over,List.getElem?_cons_succ,ih,List.length_cons]
       by_cases hc:k<=o/\o < k + vs.length/\o < l.length
       ·rw [if_pos hc,if_pos AHx];congr 1;omega
       ·rw [if_neg hc,if_neg AHx]
theorem Am1 {a b:Nat} (h:a≠b):Nat.beq a b=false:=by
 cases hb:Nat.beq a b with
 | false=>rfl
 | true=>exact absurd (Nat.eq_of_beq_eq_true hb) h
section
variable {P:Program} {B:AH8->Prop} {st:Bool} {ops:Array Oper} {rest:List Oper} {K:Env->AH8->Prop} {h:AH8} {G:List (Nat × Nat)} {e:Env} {H:AH8} {d:Nat} {ty:TypeId} {pos:String} {af:Array Edge}
end
theorem Au2 (off:Nat):∀ (l:List Value) (k:Nat) (arr:Array Value),((l.zipIdx k).foldl (λ(cs:Array Value) (x:Value × Nat)=>cs.setIfInBounds (off + x.2) x.1) arr).toList=over arr.toList (off + k) l:=by
 intro l
 induction l with
 | nil=>
   intro k arr
   simp only [List.zipIdx_nil,List.foldl_nil]
   apply List.ext_getElem?
   intro o
   rw [AZ5,if_neg (by simp;omega)]
 | cons v l ih=>
   intro k arr
   simp only [List.zipIdx_cons,List.foldl_cons]
   rw [ih]
   apply List.ext_getElem?
   intro o
   rw [AZ5,AZ5]
   simp only [Array.toList_setIfInBounds,List.length_set,List.length_cons]
   by_cases hc:off + (k + 1)<=o/\o < off + (k + 1) + l.length/\o < arr.toList.length
   ·rw [if_pos hc,if_pos AHx,show o - (off + k)=o - (off + (k + 1)) + 1 by omega,List.getElem?_cons_succ]
   ·rw [if_neg hc,List.getElem?_set]
    by_cases he:off + k=o
    ·subst he
     rw [if_pos rfl]
     by_cases hl:off + k < arr.toList.length
     ·rw [if_pos hl,if_pos AHx,Nat.sub_self];rfl
     ·rw [if_neg hl,if_neg AHx,List.getElem?_eq_none AHx]
    ·rw [if_neg he,if_neg AHx]
theorem Alf (b:Nat):∀ (vs:List Value) (o:Nat) (w:World) (cs:Array Value) (t:TypeId) (q:Nat × Nat),w.heap[b]? =some (.cells cs t q)->o + vs.length<=cs.size->
 ∃ cs',(w.setCells b o vs).heap[b]? =some (.cells cs' t q)/\cs'.toList=over cs.toList o vs/\Upd (· =b) w.heap (w.setCells b o vs).heap/\Same w (w.setCells b o vs):=by
 intro vs
 induction vs with
 | nil=>
   intro o w cs t q hb ho
   refine ⟨cs,hb,?_,Upd.refl _ _,.refl w⟩
   apply List.ext_getElem?
   intro k
   rw [AZ5,if_neg (by simp;omega)]
 | cons v vs ih=>
   intro o w cs t q hb ho
   simp only [List.length_cons] at ho
   have h1:(w.setCell ⟨b,o,none⟩ v).heap[b]? =some (.cells (cs.setIfInBounds o v) t q):=by
    have:(w.setCell ⟨b,o,none⟩ v).heap=Afd w.heap ⟨b,o,none⟩ v:=rfl
    rw [this]
    simp only [Afd,Array.getElem?_modify,if_true,hb,Option.map_some]
    rfl
   obtain ⟨cs',h2,h3,h4,h5⟩:=ih (o + 1) (w.setCell ⟨b,o,none⟩ v) _ t q h1 (by simp;omega)
   refine ⟨cs',h2,?_,(AX7 w.heap ⟨b,o,none⟩ v).trans h4,(Same.trans (b:=w.setCell ⟨b,o,none⟩ v) ⟨rfl,rfl,rfl⟩ h5)⟩
   rw [h3]
   have:=Au2 o (v :: vs) 0 cs
   apply List.ext_getElem?
   intro k
   rw [AZ5,AZ5]
   simp only [Array.toList_setIfInBounds,List.length_set,List.length_cons]
   by_cases hc:o + 1<=k/\k < o + 1 + vs.length/\k < cs.toList.length
   ·rw [if_pos hc,if_pos AHx,show k - o=k - (o + 1) + 1 by omega,List.getElem?_cons_succ]
   ·rw [if_neg hc,List.getElem?_set]
    by_cases he:o=k
    ·subst he
     rw [if_pos rfl,if_pos (by simp;omega),if_pos (by simp;omega),Nat.sub_self];rfl
    ·rw [if_neg he]
     by_cases hl:k < cs.toList.length
     ·rw [if_neg AHx]
     ·rw [if_neg AHx]
section
variable {P:Program} {B:AH8->Prop} {st:Bool} {ops:Array Oper} {rest:List Oper} {K:Env->AH8->Prop} {h:AH8} {G:List (Nat × Nat)} {e:Env} {H:AH8} {d:Nat} {ty:TypeId} {pos:String} {af:Array Edge}
theorem A4n {t:TypeId} {u:Value} (hB:B H) (hrun:∀ w,w.heap=H-> ∃ w',(Builtin.copy_ #[t,t2] ty #[e.ev s,e.ev x]).run P w= .ok u w'/\Same w w'/\B w'.heap/\RL P B st ops rest (e.set d u) w'.heap K):
 RL P B st ops (⟨some d,.call ⟨.builtin .copy,#[s,x],#[t,t2]⟩,ty,pos,af,none⟩ :: rest) e H K:=by
 refine AWy rfl rfl hB λw hw=>?_;obtain ⟨w',h1,h2,h3,h4⟩:=hrun w hw
 have:(execOp e.ev ⟨some d,.call ⟨.builtin .copy,#[s,x],#[t,t2]⟩,ty,pos,af,none⟩).run P w= .ok (.value u) w':=by
  simp [execOp,resolve,invoke,builtin,h1]
 rw [this];exact ⟨h2,h3,h4⟩
end
section
variable {P:Program} {ops:Array Oper}
structure Aoz (n:Nat) (ops:Array Oper) (f:Nat):Prop where
 spec:∀ {j:Nat} {oj:Oper},ops[j]? =some oj->(∀ d,oj.dst=some d->d < n)/\ARa oj=true/\((∀ ed∈oj.after,Region.binds .any ed=true->ed.on < j)/\
  ∀ i oi,i < j->i≠f->j≠f->ops[i]? =some oi->(∃ n,reach ops n i j=true)∨indep (AYt ops true) ops oi oj=true)
structure Lst (ops:Array Oper) (R:List Nat) (listed:Array Bool):Prop where
 pw:List.Pairwise (· < ·) R
 size:listed.size=ops.size
 mem:∀ j,j∈R↔(j < ops.size/\listed.getD j true=false)
 cl:∀ j oj,listed.getD j false=true->ops[j]? =some oj-> ∀ ed∈oj.after,Region.binds .any ed=true->listed.getD ed.on false=true
theorem Lst.step {R1 R2:List Nat} {oi:Oper} (L:Lst ops (R1 ++ i :: R2) listed) (hoi:ops[i]? =some oi) (hall:∀ ed∈oi.after,Region.binds .any ed=true->listed.getD ed.on false=true):Lst ops (R1 ++ R2) (listed.setIfInBounds i true):=by
 have hpw':=List.pairwise_append.1 L.pw;have his:i < ops.size:=(Array.getElem?_eq_some_iff.1 hoi).1;have his':i < listed.size:=by rw [L.size];exact his
 refine ⟨List.pairwise_append.2 ⟨hpw'.1,(List.pairwise_cons.1 hpw'.2.1).2,λx hx y hy=>hpw'.2.2 x hx y<|List.mem_cons_of_mem _ hy⟩,by simp [L.size],λj=>?_,?_⟩
 ·have hm:=L.mem j;constructor
  ·intro hj
   have hj':j∈R1 ++ i :: R2:=by
    rcases List.mem_append.1 hj with h | h
    ·exact List.mem_append_left _ h
    ·exact List.mem_append_right _<|List.mem_cons_of_mem _ h
   obtain ⟨h1,h2⟩:=hm.1 hj'
   have hne:i≠j:=by
    intro he
    subst he
    rcases List.mem_append.1 hj with h | h
    ·have:=hpw'.2.2 i h i<|List.mem_cons_self ..;omega
    ·have:=(List.pairwise_cons.1 hpw'.2.1).1 i h;omega
   exact ⟨h1,by rw [getD_set_ne true hne];exact h2⟩
  ·rintro ⟨h1,h2⟩
   have hne:i≠j:=by
    intro he
    subst he
    simp [his'] at h2
   rw [getD_set_ne true hne] at h2;have:=hm.2 ⟨h1,h2⟩;rcases List.mem_append.1 this with h | h
   ·exact List.mem_append_left _ h
   ·rcases List.mem_cons.1 h with h | h
    ·exact absurd h.symm hne
    ·exact List.mem_append_right _ h
 ·intro j oj hj hoj ed hed hbd;by_cases hij:i=j
  ·subst hij;rw [hoi] at hoj;injection hoj with hoj;subst hoj;exact getD_set_true<|hall ed hed hbd
  ·rw [getD_set_ne false hij] at hj;exact getD_set_true<|L.cl j oj hj hoj ed hed hbd
theorem Lst.notListed (L:Lst ops R listed) {k:Nat} (hk:k∈R):listed.getD k false=false:=by
 obtain ⟨h1,h2⟩:=(L.mem k).1 hk;have h3:k < listed.size:=by rw [L.size];exact h1
 simp [h3] at h2 ⊢;exact h2
theorem Lst.ready {n f:Nat} {R:List Nat} {listed:Array Bool} (hok:Aoz n ops f) (L:Lst ops R listed) (hR:R≠[]):Region.ready .any ops listed≠[]:=by
 intro hr
 cases R with
 | nil=>exact hR rfl
 | cons j R=>
   obtain ⟨hjs,hjl⟩:=(L.mem j).1 (List.mem_cons_self ..)
   obtain ⟨oj,hoj⟩:∃ oj,ops[j]? =some oj:=⟨ops[j],Array.getElem?_eq_getElem hjs⟩
   have:j∈Region.ready .any ops listed:=mem_ready.2 ⟨hjl,oj,hoj,λed hed hbd=>by
    obtain ⟨_,_,hd⟩:=hok.spec hoj
    have hlt:=hd.1 ed hed hbd
    cases hl:listed.getD ed.on false with
    | true=>rfl
    | false=>
      exfalso
      have hs:ed.on < ops.size:=Nat.lt_trans hlt hjs
      have hm:ed.on∈j :: R:=(L.mem ed.on).2 ⟨hs,by
       have h':ed.on < listed.size:=by rw [L.size];exact hs
       simp [h'] at hl ⊢;exact hl⟩
      rcases List.mem_cons.1 hm with he | he
      ·omega
      ·have:=(List.pairwise_cons.1 L.pw).1 _ he
       omega⟩
   rw [hr] at this
   cases this
theorem Lst.indep {n f:Nat} {R1 R2:List Nat} {i:Nat} {listed:Array Bool} {oi:Oper} (hok:Aoz n ops f) (L:Lst ops (R1 ++ i :: R2) listed) (hoi:ops[i]? =some oi) (hall:∀ ed∈oi.after,Region.binds .any ed=true->listed.getD ed.on false=true) (hfi:i≠f) {k:Nat} (hk:k∈R1) (hfk:k≠f):
 ∃ ok,ops[k]? =some ok/\ARa ok=true/\indep (AYt ops true) ops ok oi=true:=by
 have hpw':=List.pairwise_append.1 L.pw;have his:i < ops.size:=(Array.getElem?_eq_some_iff.1 hoi).1;have hki:k < i:=hpw'.2.2 k hk i<|List.mem_cons_self ..;have hks:k < ops.size:=Nat.lt_trans hki his;obtain ⟨ok,hok'⟩:∃ ok,ops[k]? =some ok:=⟨ops[k],Array.getElem?_eq_getElem hks⟩;refine ⟨ok,hok',(hok.spec hok').2.1,?_⟩;rcases (hok.spec hoi).2.2.2 k ok hki hfk hfi hok' with ⟨nre,hre⟩ | h
 ·exfalso;have h1:listed.getD k false=true:=AWv (L:=λj=>listed.getD j false=true) L.cl nre k i oi hoi hall hre;rw [L.notListed<|List.mem_append_left _ hk] at h1;cases h1
 ·exact h
theorem Am2 {n f:Nat} (hok:Aoz n ops f):∀ (fuel:Nat) (R:List Nat) (listed:Array Bool) (e:Env) (a:Act) (w:World) (K:Env->AH8->Prop),
 f ∉ R->R.length=fuel->Lst ops R listed->Rep n e a->LI P B (AYt ops true) ops R e w.heap K->(∀ e' a' w',Rep n e' a'->Same w w'->K e' w'.heap->Q .normal a' w')->
 wpAny P .any ops Q fuel listed a w:=by
 intro fuel
 induction fuel with
 | zero=>
   intro R listed e a w K hfR hlen L r H hK
   obtain rfl:R=[]:=List.length_eq_zero_iff.1 hlen
   refine ⟨?_,hK _ _ _ r (.refl w) H⟩
   refine List.eq_nil_iff_forall_not_mem.2 λj hj=>?_
   obtain ⟨hjl,oj,hoj,_⟩:=mem_ready.1 hj
   have:=(L.mem j).2 ⟨(Array.getElem?_eq_some_iff.1 hoj).1,hjl⟩
   cases this
 | succ fuel ih=>
   intro R listed e a w K hfR hlen L r H hK
   refine ⟨λhr=>absurd hr<|L.ready hok (λh0=>by subst h0;simp at hlen),λi hi=>?_⟩
   obtain ⟨hil,oi,hoi,hall⟩:=mem_ready.1 hi
   have his:i < ops.size:=(Array.getElem?_eq_some_iff.1 hoi).1
   obtain ⟨R1,R2,rfl⟩:=List.append_of_mem<|(L.mem i).2 ⟨his,hil⟩
   obtain ⟨hdi,hsi,_⟩:=hok.spec hoi
   have hb:LI P B (AYt ops true) ops (i :: (R1 ++ R2)) e w.heap K:=
    LI.bubble hoi hsi R1 (λk hk=>L.indep hok hoi hall (λhe=>hfR<|he ▸ List.mem_append_right _ (List.mem_cons_self ..)) hk λhe=>hfR<|he ▸ List.mem_append_left _ hk) H
   simp only [LI,hoi] at hb
   refine ATx hoi hdi r hb λe' a' w' r' hs hk=>?_
   exact ih (R1 ++ R2) _ e' a' w' K (λhf=>hfR (by rcases List.mem_append.1 hf with h | h;exact List.mem_append_left _ h;exact List.mem_append_right _<|List.mem_cons_of_mem _ h)) (by simp at hlen ⊢;omega) (L.step hoi hall) r' hk
    (λe2 a2 w2 r2 s2 k2=>hK _ _ _ r2 (hs.trans s2) k2)
def LF (P:Program) (B:AH8->Prop) (st:Bool) (ops:Array Oper) (f:Nat) (T:List Nat):List Nat->Env->AH8->(Env->AH8->Prop)->Prop
 | [],e,h,K=>LI P B st ops (f :: T) e h K
 | i :: R,e,h,K=>LI P B st ops (f :: i :: (R ++ T)) e h K/\match ops[i]? with
   | none=>LF P B st ops f T R e h K
   | some o=>GOp P B st ops o e h λe' h'=>LF P B st ops f T R e' h' K
theorem LF.now {f:Nat} {e:Env} (H:LF P B st ops f T R e h K):LI P B st ops (f :: (R ++ T)) e h K:=by
 cases R with
 | nil=>exact H
 | cons i R=>exact H.1
theorem SOp.and {o:Oper} {e:Env} {K1 K2:Env->AH8->Prop} (hk:kindOf o.op= .pure∨kindOf o.op= .read) (H1:SOp P B st o e h K1) (H2:SOp P B st o e h K2):SOp P B st o e h λe' h'=>K1 e' h'/\K2 e' h':=by
 have un:∀ {u u2:Value} {w:World},(execOp e.ev o).run P w= .ok (.value u) w->(execOp e.ev o).run P w= .ok (.value u2) w->u2=u:=by
  intro u u2 w a1 a2
  rw [a1] at a2
  injection a2 with a2 _
  injection a2 with a2
  exact a2.symm
 unfold SOp at H1 H2 ⊢;rcases hk with hk | hk
 ·simp only [hk] at H1 H2 ⊢;obtain ⟨v,hv,h1⟩:=H1;obtain ⟨v2,Ad,h2⟩:=H2;cases un (hv<|AWu h) (Ad<|AWu h);exact ⟨v,hv,h1,h2⟩
 ·cases st with
  | false=>
    simp only [hk] at H1 H2 ⊢
    obtain ⟨v,hv,h1⟩:=H1
    obtain ⟨v2,Ad,h2⟩:=H2
    cases un (hv (AWu h) rfl) (Ad (AWu h) rfl)
    exact ⟨v,hv,h1,h2⟩
  | true=>
    simp only [hk] at H1 H2 ⊢
    obtain ⟨v,hb,hv,h1⟩:=H1
    obtain ⟨v2,_,Ad,h2⟩:=H2
    cases un (hv (AWu h) hb) (Ad (AWu h) hb)
    exact ⟨v,hb,hv,h1,h2⟩
theorem GOp.and {B:AH8->Prop} {st:Bool} {o:Oper} {e:Env} {h:AH8} {K1 K2:Env->AH8->Prop} (hk:kindOf o.op= .pure∨kindOf o.op= .read) (H1:GOp P B st ops o e h K1) (H2:GOp P B st ops o e h K2):GOp P B st ops o e h λe' h'=>K1 e' h'/\K2 e' h':=by
 unfold GOp at *;split
 ·rename_i hw;rw [if_pos hw] at H1 H2;exact H1.and hk H2
 ·rename_i hw;rw [if_neg hw] at H1 H2;exact ⟨H1,H2⟩
theorem LF.bubbleA {f:Nat} {of oi:Oper} (hf:ops[f]? =some of) (hsf:ARa of=true) (hi:ops[i]? =some oi) (hsi:ARa oi=true) (hk:kindOf oi.op= .pure∨kindOf oi.op= .read) (hfi:indep st ops of oi=true) (R1:List Nat):∀ {R2:List Nat} {e:Env} {h:AH8} {K:Env->AH8->Prop},
 (∀ k∈R1,∃ ok,ops[k]? =some ok/\ARa ok=true/\indep st ops ok oi=true)->LF P B st ops f T (R1 ++ i :: R2) e h K->GOp P B st ops oi e h λe' h'=>LF P B st ops f T (R1 ++ R2) e' h' K:=by
 induction R1 with
 | nil=>
   intro R2 e h K _ H;have:=H.2;simp only [hi] at this;exact this
 | cons k R1 ih=>
   intro R2 e h K hind H;obtain ⟨ok,hok,hsk,hik⟩:=hind k<|List.mem_cons_self ..;have h1:=H.1;have h2:=H.2;simp only [hok] at h2;have h3:GOp P B st ops ok e h λe' h'=>GOp P B st ops oi e' h' λe2 h2=>LF P B st ops f T (R1 ++ R2) e2 h2 K:=h2.mono λv h' hh=>ih (λk' hk'=>hind k'<|List.mem_cons_of_mem _ hk') hh;have h4:=GOp.swap hsk hsi hik h3;have h5:LI P B st ops ((f :: k :: R1) ++ i :: (R2 ++ T)) e h K:=by simpa using h1
   have h6:=LI.bubble hi hsi (f :: k :: R1) (λj hj=>by
    rcases List.mem_cons.1 hj with rfl | hj
    ·exact ⟨of,hf,hsf,hfi⟩
    ·exact hind j hj) h5
   simp only [LI,hi] at h6
   refine (GOp.and hk h6 h4).mono λv h' hh=>⟨?_,?_⟩
   ·have:=hh.1;simpa [LI] using this
   ·simp only [hok];exact hh.2
theorem LF.bubbleB {f:Nat} {of oi:Oper} (hf:ops[f]? =some of) (hsf:ARa of=true) (hi:ops[i]? =some oi) (hsi:ARa oi=true) (R1:List Nat):∀ {R2:List Nat} {e:Env} {h:AH8} {K:Env->AH8->Prop},
 (∀ k∈R1,∃ ok,ops[k]? =some ok/\ARa ok=true/\indep st ops ok oi=true/\indep st ops ok of=true)->LF P B st ops f T (R1 ++ i :: R2) e h K->GOp P B st ops oi e h λe' h'=>LF P B st ops f T (R1 ++ R2) e' h' K:=by
 induction R1 with
 | nil=>
   intro R2 e h K _ H;have:=H.2;simp only [hi] at this;exact this
 | cons k R1 ih=>
   intro R2 e h K hind H;obtain ⟨ok,hok,hsk,hik,hfk⟩:=hind k<|List.mem_cons_self ..;have h2:=H.2;simp only [hok] at h2;have h3:GOp P B st ops ok e h λe' h'=>GOp P B st ops oi e' h' λe2 h2=>LF P B st ops f T (R1 ++ R2) e2 h2 K:=h2.mono λv h' hh=>ih (λk' hk'=>hind k'<|List.mem_cons_of_mem _ hk') hh
   refine (GOp.swap hsk hsi hik h3).mono λv h' hh=>⟨?_,?_⟩
   ·have h5:LI P B st ops ([k] ++ f :: (R1 ++ R2 ++ T)) (e.put oi.dst v) h' K:=by
     simp only [List.cons_append,List.nil_append,LI,hok];exact hh.mono λv2 h2 hl=>by have:=hl.now;simpa [LI] using this
    have:=LI.bubble hf hsf [k] (λj hj=>by rw [List.mem_singleton.1 hj];exact ⟨ok,hok,hsk,hfk⟩) h5;simpa using this
   ·simp only [hok];exact hh
theorem LF.lift {f k:Nat} {of ok:Oper} (hf:ops[f]? =some of) (hsf:ARa of=true) (hok:ops[k]? =some ok) (hsk:ARa ok=true) (hfk:indep st ops ok of=true) {e:Env} (H:GOp P B st ops ok e h λe' h'=>LF P B st ops f T R e' h' K):LF P B st ops f T (k :: R) e h K:=by
 refine ⟨?_,by simp only [hok];exact H⟩
 have h5:LI P B st ops ([k] ++ f :: (R ++ T)) e h K:=by
  simp only [List.cons_append,List.nil_append,LI,hok]
  exact H.mono λv2 h2 hl=>by have:=hl.now;simpa [LI] using this
 have:=LI.bubble hf hsf [k] (λj hj=>by rw [List.mem_singleton.1 hj];exact ⟨ok,hok,hsk,hfk⟩) h5;simpa using this
theorem Aj7 {x y:Oper} (h:indep st ops x y=true):indep st ops y x=true:=by
 unfold indep at h ⊢;rw [Bool.and_eq_true] at h ⊢;refine ⟨?_,?_⟩
 ·have:=Oper.apart_spec h.1;have h1:=h.1;unfold Oper.apart at h1 ⊢;simp only [Bool.and_eq_true] at h1 ⊢;revert h1;cases hx:x.dst <;> cases hy:y.dst <;> simp <;> intros <;> simp_all <;> (try exact λhh=>by simp_all)
 ·cases hx:kindOf x.op <;> cases hy:kindOf y.op <;> simp_all
end
section
variable {P:Program} {ops:Array Oper}
theorem Au4 (ops:Array Oper):Lst ops (List.range ops.size) (Array.replicate ops.size false):=by
 refine ⟨List.pairwise_lt_range,AI9,λj=>?_,λj oj hj _=>?_⟩
 ·simp only [List.mem_range];constructor
  ·intro h;exact ⟨h,by simp [h]⟩
  ·exact λh=>h.1
 ·exfalso;rcases Nat.lt_or_ge j ops.size with h' | h'
  ·simp [h'] at hj
  ·simp [h'] at hj
theorem range_split {f n:Nat} (h:f < n):List.range n=List.range f ++ f :: List.range' (f + 1) (n - f - 1):=by
 rw [List.range_eq_range',List.range_eq_range'];have h1:n=f + (1 + (n - f - 1)):=by omega
 conv=>lhs;rw [h1]
 rw [<- List.range'_append_1];congr 1;rw [Nat.zero_add,Nat.add_comm 1,List.range'_succ]
end
section
variable {P:Program} {ops:Array Oper}
theorem Alu {X1 X2:List Nat} (h:i ∉ X1):(X1 ++ i :: X2).erase i=X1 ++ X2:=by
 rw [List.erase_append_right _ h,List.erase_cons_head]
theorem Am3 {n f:Nat} {of:Oper} (hof:ops[f]? =some of) (S:Aoz n ops f) (R0 T:List Nat) (hT:∀ j∈T,∃ n,reach ops n f j=true) (hdn:∀ j∈R0,∀ oj,ops[j]? =some oj->kindOf oj.op= .pure∨kindOf oj.op= .read->indep (AYt ops true) ops of oj=true):
 ∀ (fuel:Nat) (R Ra Rb:List Nat) (listed:Array Bool) (e:Env) (a:Act) (w:World) (K:Env->AH8->Prop),(∀ j∈R,j∈R0)->Ra ++ Rb=R ++ T->f ∉ R ++ T->
 (Ra ++ f :: Rb).length=fuel->Lst ops (Ra ++ f :: Rb) listed->Rep n e a->LF P B (AYt ops true) ops f T R e w.heap K->(∀ e' a' w',Rep n e' a'->Same w w'->K e' w'.heap->Q .normal a' w')->
 wpAny P .any ops Q fuel listed a w:=by
 intro fuel;have hsf:=(S.spec hof).2.1
 induction fuel with
 | zero=>intro R Ra Rb listed e a w K _ _ _ hlen;simp at hlen
 | succ fuel ih=>
   intro R Ra Rb listed e a w K Ah hRT hfR hlen L r H hK
   refine ⟨λhr=>absurd hr<|L.ready S AI9,λi hi=>?_⟩
   obtain ⟨hil,oi,hoi,hall⟩:=mem_ready.1 hi
   have his:i < ops.size:=(Array.getElem?_eq_some_iff.1 hoi).1
   have hfL:f∈Ra ++ f :: Rb:=List.mem_append_right _<|List.mem_cons_self ..
   have hpw:=List.pairwise_append.1 L.pw
   have hpc:=List.pairwise_cons.1 hpw.2.1
   by_cases hif:i=f
   ·subst hif
    rw [hof] at hoi;cases hoi
    have h1:=H.now
    simp only [LI,hof] at h1
    refine ATx hof (S.spec hof).1 r h1 λe' a' w' r' hs hk=>?_
    refine Am2 S fuel (R ++ T) _ e' a' w' K hfR (by rw [<- hRT];simp at hlen ⊢;omega) (by rw [<- hRT];exact L.step hof hall) r' hk λe2 a2 w2 r2 s2 k2=>hK _ _ _ r2 (hs.trans s2) k2
   ·have hmem:∀ j,j≠f->(j∈Ra ++ f :: Rb↔j∈R ++ T):=by
     intro j hj
     rw [<- hRT]
     simp only [List.mem_append,List.mem_cons]
     constructor
     ·rintro (h | h | h)
      ·exact .inl h
      ·exact absurd h hj
      ·exact .inr h
     ·rintro (h | h)
      ·exact .inl h
      ·exact .inr<|.inr h
    have hiL:=(L.mem i).2 ⟨his,hil⟩
    have hiR:i∈R:=by
     rcases List.mem_append.1 ((hmem i hif).1 hiL) with h | h
     ·exact h
     ·exfalso
      obtain ⟨nre,hre⟩:=hT i h
      have h1:listed.getD f false=true:=AWv (L:=λj=>listed.getD j false=true) L.cl nre f i oi hoi hall hre
      rw [L.notListed hfL] at h1
      cases h1
    obtain ⟨R1,R2,rfl⟩:=List.append_of_mem hiR
    have hpwRT:List.Pairwise (· < ·) ((R1 ++ i :: R2) ++ T):=by
     rw [<- hRT]
     exact List.pairwise_append.2 ⟨hpw.1,hpc.2,λx hx y hy=>hpw.2.2 x hx y<|List.mem_cons_of_mem _ hy⟩
    have hpR:=List.pairwise_append.1 (List.pairwise_append.1 hpwRT).1
    have Am:∀ k∈R1,k < i:=λk hk=>hpR.2.2 k hk i<|List.mem_cons_self ..
    obtain ⟨hdi,hsi,_⟩:=S.spec hoi
    obtain ⟨X1,X2,hX⟩:=List.append_of_mem hiL
    have LX:Lst ops (X1 ++ i :: X2) listed:=by rw [<- hX];exact L
    have hpX:=List.pairwise_append.1 LX.pw
    have Au:i ∉ X1:=λh=>by have:=hpX.2.2 i h i<|List.mem_cons_self ..;omega
    have Av:∀ k∈R1,k∈X1:=λk hk=>by
     have hkf:k≠f:=λhe=>hfR<|he ▸ (List.mem_append_left _<|List.mem_append_left _ hk)
     have:k∈X1 ++ i :: X2:=by rw [<- hX];exact (hmem k hkf).2 (List.mem_append_left _<|List.mem_append_left _ hk)
     have hlt:=Am k hk
     rcases List.mem_append.1 this with h | h
     ·exact h
     ·rcases List.mem_cons.1 h with h | h
      ·omega
      ·have:=(List.pairwise_cons.1 hpX.2.1).1 k h;omega
    have hind:∀ k∈R1,∃ ok,ops[k]? =some ok/\ARa ok=true/\indep (AYt ops true) ops ok oi=true:=λk hk=>
     LX.indep S hoi hall hif (Av k hk) (λhe=>hfR<|he ▸ (List.mem_append_left _<|List.mem_append_left _ hk))
    have hg:GOp P B (AYt ops true) ops oi e w.heap λe' h'=>LF P B (AYt ops true) ops f T (R1 ++ R2) e' h' K:=by
     by_cases hk:kindOf oi.op= .pure∨kindOf oi.op= .read
     ·exact LF.bubbleA hof hsf hoi hsi hk (hdn i (Ah i hiR) oi hoi hk) R1 hind H
     ·refine LF.bubbleB hof hsf hoi hsi R1 (λk hk'=>?_) H
      obtain ⟨ok,h1,h2,h3⟩:=hind k hk'
      refine ⟨ok,h1,h2,h3,Aj7<|hdn k (Ah k<|List.mem_append_left _ hk') ok h1 ?_⟩
      unfold indep at h3
      rw [Bool.and_eq_true] at h3
      have h4:=h3.2
      cases hx:kindOf ok.op with
      | pure=>exact .inl rfl
      | read=>exact .inr rfl
      | eff=>
        rw [hx] at h4
        cases hy:kindOf oi.op with
        | pure=>exact absurd (Or.inl hy) hk
        | read=>exact absurd (Or.inr hy) hk
        | eff=>rw [hy] at h4;cases h4
        | wr=>rw [hy] at h4;cases h4
      | wr=>
        rw [hx] at h4
        cases hy:kindOf oi.op with
        | pure=>exact absurd (Or.inl hy) hk
        | read=>exact absurd (Or.inr hy) hk
        | eff=>rw [hy] at h4;cases h4
        | wr=>rw [hy] at h4;cases h4
    refine ATx hoi hdi r hg λe' a' w' r' hs hk=>?_
    have LS:=LX.step hoi hall
    have hiRT:i ∉ R1:=λh=>by have:=Am i h;omega
    have herase:(Ra ++ Rb).erase i=(R1 ++ R2) ++ T:=by
     rw [hRT,List.append_assoc,List.cons_append,Alu hiRT,<- List.append_assoc]
    have hlen':X1.length + X2.length=fuel:=by
     have:=congrArg List.length hX
     simp at this hlen
     omega
    have fin:∀ Ra' Rb',X1 ++ X2=Ra' ++ f :: Rb'->Ra' ++ Rb'=(R1 ++ R2) ++ T->wpAny P .any ops Q fuel (listed.setIfInBounds i true) a' w':=by
     intro Ra' Rb' Ao Ax
     refine ih (R1 ++ R2) Ra' Rb' _ e' a' w' K (λj hj=>Ah j ?_) Ax (λhf=>hfR ?_) (by rw [<- Ao,List.length_append];exact hlen') (by rw [<- Ao];exact LS) r' hk λe2 a2 w2 r2 s2 k2=>hK _ _ _ r2 (hs.trans s2) k2
     ·rcases List.mem_append.1 hj with h | h
      ·exact List.mem_append_left _ h
      ·exact List.mem_append_right _<|List.mem_cons_of_mem _ h
     ·rcases List.mem_append.1 hf with h | h
      ·refine List.mem_append_left _ ?_
       rcases List.mem_append.1 h with h | h
       ·exact List.mem_append_left _ h
       ·exact List.mem_append_right _<|List.mem_cons_of_mem _ h
      ·exact List.mem_append_right _ h
    have hXe:X1 ++ X2=(Ra ++ f :: Rb).erase i:=by rw [hX,Alu Au]
    by_cases hia:i∈Ra
    ·refine fin (Ra.erase i) Rb (by rw [hXe,List.erase_append_left _ hia]) ?_
     rw [<- herase,List.erase_append_left _ hia]
    ·refine fin Ra (Rb.erase i) (by rw [hXe,List.erase_append_right _ hia,List.erase_cons_tail (by simpa using λhe:f=i=>hif he.symm)]) ?_
     rw [<- herase,List.erase_append_right _ hia]
def Axo (n:Nat) (ops:Array Oper) (pre:List Nat) (f k:Nat) (T:List Nat):Bool:=match ops[f]?,ops[k]? with
 | some of,some ok=>of.after.all (λed=> !Region.binds .any ed) && (match kindOf ok.op with | .eff=>true | .wr=>true | _=>false) &&
   ((List.range ops.size).filter (λj=> !Nat.beq j f) == pre ++ k :: T) && T.all (λj=>ahead ops f j) &&
   pre.all (λj=>match ops[j]? with | some oj=>indep (AYt ops true) ops oj of | none=>false) &&
   (List.range ops.size).all λj=>match ops[j]? with
   | none=>false
   | some oj=>(match oj.dst with | some d=>decide (d < n) | none=>true) && ARa oj && oj.after.all (λed=> !Region.binds .any ed || decide (ed.on < j)) &&
     (Nat.beq j f || ((List.range j).all λi=>match ops[i]? with
       | none=>false
       | some oi=>Nat.beq i f || ahead ops i j || indep (AYt ops true) ops oi oj))
 | _,_=>false
theorem A4o {f:Nat} {of:Oper} (hof:ops[f]? =some of) (hsf:ARa of=true):∀ (pre:List Nat) (L:List Oper),pre.map (λi=>ops[i]?)=L.map some->(∀ j∈pre,∀ oj,ops[j]? =some oj->ARa oj=true/\indep st ops oj of=true)-> ∀ e h,RL P B st ops L e h (λe' h'=>LF P B st ops f T R e' h' K)->LF P B st ops f T (pre ++ R) e h K:=by
 intro pre
 induction pre with
 | nil=>intro L hL _ e h H;cases L with | nil=>exact H | cons o L=>cases hL
 | cons k pre ih=>
   intro L hL hp e h H
   cases L with
   | nil=>cases hL
   | cons o L=>
     simp only [List.map_cons,List.cons.injEq] at hL
     obtain ⟨h1,h2⟩:=hp k (List.mem_cons_self ..) o hL.1
     refine LF.lift hof hsf hL.1 h1 h2<|GOp.mono (λv h' hh=>?_) H
     exact ih L hL.2 (λj hj=>hp j<|List.mem_cons_of_mem _ hj) _ _ hh
inductive Aj8 (ops:Array Oper):List Nat->List Oper->Prop
 | nil:Aj8 ops [] []
 | cons {i:Nat} {o:Oper} {I:List Nat} {L:List Oper} (h:ops[i]? =some o) (t:Aj8 ops I L):Aj8 ops (i :: I) (o :: L)
theorem Aj8.map {I:List Nat} {L:List Oper} (h:Aj8 ops I L):I.map (λi=>ops[i]?)=L.map some:=by
 induction h with
 | nil=>rfl
 | cons h t ih=>simp only [List.map_cons,h,ih]
theorem Am4 {n:Nat} (st:Bool) (pre:List Nat) (f k:Nat) (T:List Nat) {Lp Lt:List Oper} {of ok:Oper} {id:Nat} {Q:Exit->Env->AH8->Prop} {e:Env} (hmx:P.follows .mixedOrders=true) (hok:Axo n ops pre f k T=true) (hst:AYt ops true=st) (hf:ops[f]? =some of) (hk:ops[k]? =some ok)
 (hLp':Aj8 ops pre Lp) (hLt':Aj8 ops T Lt)
 (H:RL P B st ops Lp e h λe' h'=>RL P B st ops (of :: ok :: Lt) e' h' (Q .normal)/\RL P B st ops (ok :: of :: Lt) e' h' (Q .normal)):
 W2 P n (.region id ops true) Q e h:=by
 intro a w Q' r hw hQ;subst hw;subst hst;have hLp:=hLp'.map;have hLt:=hLt'.map;unfold Axo at hok;simp only [hf,hk,Bool.and_eq_true] at hok;obtain ⟨⟨⟨⟨⟨h0,hkk⟩,hrg⟩,hT⟩,hpre⟩,H2⟩:=hok
 have key:∀ {j:Nat} {oj:Oper},ops[j]? =some oj->(((match oj.dst with | some d=>decide (d < n) | none=>true)=true/\ARa oj=true)/\oj.after.all (λed=> !Region.binds .any ed || decide (ed.on < j))=true)/\
  (Nat.beq j f || ((List.range j).all λi=>match ops[i]? with | none=>false | some oi=>Nat.beq i f || ahead ops i j || indep (AYt ops true) ops oi oj))=true:=by
  intro j oj hj;have hlt:j < ops.size:=(Array.getElem?_eq_some_iff.1 hj).1;have H:=List.all_eq_true.1 H2 j<|List.mem_range.2 hlt;simp only [hj,Bool.and_eq_true] at H;exact H
 have S:Aoz n ops f:=⟨λ{j oj} hj=>by
  obtain ⟨⟨⟨h1,h2⟩,h3⟩,h4⟩:=key hj
  refine ⟨λd hd=>by simpa [hd] using h1,h2,λed hed hbd=>?_,λi oi hij hif hjf hoi=>?_⟩
  ·have:=Array.all_eq_true_iff_forall_mem.1 h3 ed hed;simpa [hbd] using this
  ·rw [Am1 hjf,Bool.false_or] at h4;have:=List.all_eq_true.1 h4 i<|List.mem_range.2 hij;simp only [hoi,Am1 hif,Bool.false_or,Bool.or_eq_true] at this
   rcases this with h | h
   ·exact .inl<|AYa h
   ·exact .inr h⟩
 have hrg2:(List.range ops.size).filter (λj=> !Nat.beq j f)=pre ++ k :: T:=by simpa using hrg
 have hfl:f < ops.size:=(Array.getElem?_eq_some_iff.1 hf).1;have hsp:=range_split hfl
 have hfil:(List.range ops.size).filter (λj=> !Nat.beq j f)=List.range f ++ List.range' (f + 1) (ops.size - f - 1):=by
  rw [hsp,List.filter_append,List.filter_cons];have hff:Nat.beq f f=true:=Nat.beq_eq.mpr rfl;simp only [hff,Bool.not_true,Bool.false_eq_true,if_false]
  rw [List.filter_eq_self.2,List.filter_eq_self.2]
  ·intro j hj;have:=List.mem_range'_1.1 hj;rw [Am1 AHx];rfl
  ·intro j hj;have:=List.mem_range.1 hj;rw [Am1 AHx];rfl
 have hsf:=(S.spec hf).2.1;refine wp_region_draw λt=>?_;simp only [Region.schedule,hmx,Bool.true_or,if_true]
 refine wpAny_sound ops.size t _ a _ (Am3 (B:=B) (K:=Q .normal) hf S (pre ++ [k]) T (λj hj=>AYa<|List.all_eq_true.1 hT j hj) ?_ ops.size (pre ++ [k]) (List.range f) (List.range' (f + 1)<|ops.size - f - 1) (Array.replicate ops.size false) e a { w with drawn:=w.drawn + 1 } (λj hj=>hj) (by rw [<- hfil,hrg2];simp) ?_ (by rw [<- hsp];simp) (by rw [<- hsp];exact Au4 ops) r ?_
  (λe' a' w' r' hs hk=>hQ .normal e' a' w' r' ⟨hs.os,hs.tape,hs.output⟩ hk))
 ·intro j hj oj hoj hkj
  rcases List.mem_append.1 hj with h | h
  ·have:=List.all_eq_true.1 hpre j h;simp only [hoj] at this;exact Aj7 this
  ·rw [List.mem_singleton.1 h,hk] at hoj;cases hoj;rcases hkj with hkj | hkj <;> (rw [hkj] at hkk;cases hkk)
 ·have:f ∉ (List.range ops.size).filter (λj=> !Nat.beq j f):=by
   intro hm;have:=(List.mem_filter.1 hm).2;have hff:Nat.beq f f=true:=Nat.beq_eq.mpr rfl;rw [hff] at this;cases this
  rw [hrg2] at this;simpa using this
 ·refine A4o hf hsf pre Lp hLp (λj hj oj hoj=>⟨(S.spec hoj).2.1,?_⟩) _ _<|RL.mono (λe' h' hh=>?_) H
  ·have:=List.all_eq_true.1 hpre j hj;simp only [hoj] at this;exact this
  ·refine ⟨?_,?_⟩
   ·exact Ahn (f :: k :: ([] ++ T)) (of :: ok :: Lt) (by simp [hf,hk,hLt]) _ _ hh.1
   ·simp only [hk];refine GOp.mono (λv h2 hl=>?_) hh.2;exact Ahn (f :: T) (of :: Lt) (by simp [hf,hLt]) _ _ hl
theorem As6 {n:Nat} {c:Operand} {x y:Code} {Q:Exit->Env->AH8->Prop} {e:Env} (hc:e.ev c= .bool true) (H:W2 P n x Q e h):W2 P n (.cond c x y) Q e h:=by
 intro a w Q' r hw hQ;exact wp_cond_split (t:=true) (by rw [r.eval];exact hc) (λ_=>H a w Q' r hw hQ) (λhh=>by cases hh)
theorem Ao0 {n:Nat} {c:Operand} {x y:Code} {Q:Exit->Env->AH8->Prop} {e:Env} (hc:e.ev c= .bool false) (H:W2 P n y Q e h):W2 P n (.cond c x y) Q e h:=by
 intro a w Q' r hw hQ;exact wp_cond_split (t:=false) (by rw [r.eval];exact hc) (λhh=>by cases hh) λ_=>H a w Q' r hw hQ
end
theorem A1c (a b:Int):Amo .lss a b=some (decide (a < b)):=rfl
theorem A1d (a b:Int):Amo .leq a b=some (decide (a<=b)):=rfl
theorem A1e (a b:Int):Amo .gtr a b=some (decide (b < a)):=rfl
theorem A1f (a b:Int):Amo .geq a b=some (decide (b<=a)):=rfl
theorem A1g (a b:Int):Amo .eql a b=some (decide (a=b)):=by
 show some _=some _;grind
theorem A1h (a b:Int):Amo .neq a b=some (decide (¬ a=b)):=by
 show some (a != b)=some _;grind
theorem ANp.isOne {α:Type} {c:Cod α} {h:AH8} {v:Value} {L:List (List α)} (H:ANp c h v L):isOne v=true:=by
 obtain ⟨_,Ls,⟨a,cap,rfl,_⟩,_⟩:=H;rfl
theorem ALl.rowG {c:Cod α} {M:List (List α)} (H:ALl c er el h F Gs rs v M) {i:Int} {L:List α} (hL:gI M i=some L):∃ G,Gs[i.toNat]? =some G/\(∀ x∈G,x∈F)/\(∀ x∈G,Abe h x)/\ ∀ b,F=b :: Gs.flatten->b ∉ G:=by
 have hnd:=H.notD;have hn:=H.nodup;obtain ⟨n,rfl,hL⟩:=AP3 hL;obtain ⟨b,r,hF,h2,hr,hm⟩:=Agk H hL;obtain ⟨G,hG,HR,hGF⟩:=H.row hr hL;refine ⟨G,hG,hGF,λx hx=>hnd x<|hGF x hx,λb' hb' hm'=>?_⟩;rw [hb'] at hn;exact (List.nodup_cons.1 hn).1 (AM7 hG hm')
def swp (i j k:Nat):Nat:=if k=i then j else if k=j then i else k
theorem A1i {k l:Nat} (h:swp i j k=swp i j l):k=l:=by
 unfold swp at h;grind
theorem Aj9 {β:Type} {L:List β} {a b:β} (ha:L[i]? =some a) (hb:L[j]? =some b) (k:Nat):((L.set i b).set j a)[k]? =L[swp i j k]? :=by
 have hi:=(List.getElem?_eq_some_iff.1 ha).1;have hj:=(List.getElem?_eq_some_iff.1 hb).1;unfold swp;grind
theorem Ao1:∀ {Gs:List (List Nat)},(∀ (i:Nat) (G:List Nat),Gs[i]? =some G->G.Nodup)->(∀ (i j:Nat) (G H:List Nat),i≠j->Gs[i]? =some G->Gs[j]? =some H-> ∀ x∈G,x ∉ H)->Gs.flatten.Nodup:=by
 intro Gs
 induction Gs with
 | nil=>intro _ _;simp
 | cons G Gs ih=>
   intro h1 h2
   rw [List.flatten_cons]
   refine List.nodup_append.2 ⟨h1 0 G rfl,ih (λi H hi=>h1 (i + 1) H<|by simpa using hi) λi j A B hij hA hB=>h2 (i + 1) (j + 1) A B AHx (by simpa using hA) (by simpa using hB),λx hx y hy he=>?_⟩
   obtain ⟨H,hH,hyH⟩:=List.mem_flatten.1 hy
   obtain ⟨j,hj⟩:=List.getElem?_of_mem hH
   exact h2 0 (j + 1) G H AHx rfl (by simpa using hj) x hx (he ▸ hyH)
section
variable {P:Program} {B:AH8->Prop} {st:Bool} {ops:Array Oper} {rest:List Oper} {e:Env} {h:AH8} {K:Env->AH8->Prop}
variable {d d' d2:Nat} {ty ty' ty2 ty3:TypeId} {pos pos' pos2 pos3:String} {af af' af2 af3:Array Edge}
theorem Alw {c:Cod α} {i:Operand} {d':Nat} {v1:Value} {m:Nat} {F1:List Nat} {M:List (List α)} {L L1:List α} (hTr:SlT P tr er0 1) (htl:NaT P tl)
 (HO:ALl c er el h0 F Gs rs v M) (hL0:M[m]? =some L) (hG:Gs[m]? =some G) (HR1:OwC c el h1 F1 v1 L1) (U1:UpT G h0 h1) (hF1:∀ x∈F1,x∈G∨h0.size<=x) (hx:e.ev x=v) (hi:e.ev i= .int κ (m:Int)) (hd1:∀ w,(e.set d2 w).ev (.tmp d')=v1)
 (H:∀ q F' Gs' rs' h',ALl c er el h' F' Gs' rs' v (sI M m L1)->UpT F h0 h'->(∀ x∈F',x∈F∨h0.size<=x)->RL P B st ops rest (e.set d2 q) h' K):
 RL P B st ops (⟨some d2,.indexAddr tr x i,ty2,pos2,af2,none⟩ :: ⟨none,.store tl (.tmp d2)<|.tmp d',ty3,pos3,af3,none⟩ :: rest) e h1 K:=by
 have hnd:=HO.notD;have hlt:=HO.lt;have hn:=HO.nodup;obtain ⟨b,r0,hFb,hb2,hr0,hm⟩:=Agk HO hL0;obtain ⟨G',hG',_,hGF⟩:=HO.row hr0 hL0;rw [hG] at hG';injection hG' with hG';subst hG';have hbG:b ∉ G:=λhm'=>by rw [hFb] at hn;exact (List.nodup_cons.1 hn).1 (AM7 hG hm')
 have HO':=HO
 rcases HO' with ⟨rfl,_⟩ | ⟨b',hF',_,h2,h3,h4,h5,h6⟩
 ·simp at hL0
 rw [hFb] at hF';injection hF' with hF';subst hF';have h21:=h2.upd (S:=(· ∈G)) U1.1 hbG;have hml:m < M.length:=(List.getElem?_eq_some_iff.1 hL0).1;refine Agj (er:=er) (n:=m) hTr hx h21 hi (by simpa using hm) ?_;rw [Nat.mul_one];have hd2:((e.set d2<|.pointer<|some ⟨b,m,none⟩).ev (.tmp d2))= .pointer (some ⟨b,m,none⟩):=Env.set_same _ _ _;refine (AMt (n:=m) (el:=er) (g:=b) htl (by grind) (hd1 _) HR1.isOne) v _ h21 (by simpa using hm) λh' hS hU=>?_;have h22:=hS v _ h21 (by simpa using hm);have hnd1:∀ x∈F,Abe h1 x:=λx hx=>(hnd x hx).of U1;have U2:UpT [b] h1 h':=AXz hU AI9 (λx hx _=>hnd1 x<|by grind)<|h22.notD h3;have UF:UpT F h0 h':=(U1.mono hGF λx hx _=>hnd x hx).then U2 λx hx=> .inl (by grind)
 have hbF1:b ∉ F1:=λhm'=>by
  grind
 have hsub:∀ x∈b :: (Gs.set m F1).flatten,x∈F∨h0.size<=x:=by
  intro z hz
  rcases List.mem_cons.1 hz with rfl | hz
  ·grind
  ·rcases AT3 hz with h7 | ⟨j,G2,_,hG2,hz⟩
   ·grind
   ·exact .inl (by rw [hFb];exact List.mem_cons_of_mem _<|AM7 hG2 hz)
 have hn2:=hn;rw [hFb] at hn2;have hnf:=List.nodup_cons.1 hn2
 refine H _ (b :: (Gs.set m F1).flatten) (Gs.set m F1) (rs.set m v1) h' (.inr ⟨b,rfl,?_,by simp_all,h3,by simp [sI,h4],by simp [sI,h5],λi' G2 r2 L2 hGi hri hLi=>?_⟩) UF hsub
 ·refine List.nodup_cons.2 ⟨λhz=>?_,AW4 hnf.2 HR1.nodup λz hz j G2 hj hG2 hzG=>?_⟩
  ·rcases AT3 hz with h7 | ⟨j,G2,_,hG2,hz⟩
   ·exact hbF1 h7
   ·exact hnf.1<|AM7 hG2 hz
  ·rcases hF1 z hz with h7 | h7
   ·exact Aou hnf.2 hG hG2 (λhe=>hj he.symm) z h7 hzG
   ·have:=hlt z (by rw [hFb];exact List.mem_cons_of_mem _<|AM7 hG2 hzG);omega
 ·by_cases hii:i'=m
  ·subst hii;rw [List.getElem?_set_self AHx] at hGi hri;simp only [sI,Int.toNat_natCast] at hLi;rw [List.getElem?_set_self AHx] at hLi;injection hGi with hGi;injection hri with hri;injection hLi with hLi;subst hGi;subst hri;subst hLi;exact HR1.upT U2 λz hz hzb=>hbF1<|List.mem_singleton.1 hzb ▸ hz
  ·rw [List.getElem?_set_ne λhe=>hii he.symm] at hGi hri;simp only [sI,Int.toNat_natCast] at hLi;rw [List.getElem?_set_ne λhe=>hii he.symm] at hLi
   exact ((h6 i' G2 r2 L2 hGi hri hLi).upT U1 λz hz hzG=>Aou hnf.2 hGi hG hii z hz hzG).upT U2 λz hz hzb=>by
    rw [List.mem_singleton.1 hzb] at hz;exact hnf.1<|AM7 hGi hz
theorem Au5 {c:Cod α} {i:Operand} {z r:Value} {n:Int} {M:List (List α)} {L:List α} {a:α} {cs:List Value} (hT:SlT P t el c.k) (hz:ZeT P el z bytes) (hzk:z.cells.size=c.k) (hel:Nat.beq el 160=false) (hTr:SlT P tr er0 1) (htl:NaT P tl)
 (HO:ALl c er el h F Gs rs v M) (hr:rs[n.toNat]? =some r) (hL:gI M n=some L) (hG:Gs[n.toNat]? =some G) (hb0:B h) (hbB:∀ h',UpT G h h'->B h') (hs:∀ p,(e.set d p).ev s=r) (hy:e.ev y=c.val cs) (hrep:c.rep h a cs) (hx:∀ p w,((e.set d p).set d' w).ev x=v) (hi:∀ p w,((e.set d p).set d' w).ev i= .int κ n) (hdd:Nat.beq d' d2=false) (hby:bytes<=1000) (hl:L.length<=100000000)
 (H:∀ p q F' Gs' rs' v' h',ALl c er el h' F' Gs' rs' v (sI M n<|L ++ [a])->UpT F h h'->(∀ x∈F',x∈F∨h.size<=x)->RL P B st ops rest (((e.set d p).set d' v').set d2 q) h' K):
 RL P B st ops (⟨some d,.buildSlice t 1 #[(0,y)],ty,pos,af,none⟩ :: ⟨some d',.call ⟨.builtin .append,#[s,.tmp d],#[t,t]⟩,ty',pos',af',none⟩ :: ⟨some d2,.indexAddr tr x i,ty2,pos2,af2,none⟩ :: ⟨none,.store tl (.tmp d2)<|.tmp d',ty3,pos3,af3,none⟩ :: rest) e h K:=by
 obtain ⟨m,rfl,hL0⟩:=AP3 hL;rw [Int.toNat_natCast] at hr hG;obtain ⟨G',hG',HR,hGF⟩:=HO.row hr hL0;rw [hG] at hG';injection hG' with hG';subst hG';refine ASg hT hz hzk hel hb0 hbB hs hy hrep HR hby hl λp F1 v1 h1 HR1 U1 hF1=>?_
 exact Alw hTr htl HO hL0 hG HR1 U1 hF1 (hx p v1) (hi p v1) (λw=>by
  show (bif Nat.beq d' d2 then _ else (bif Nat.beq d' d' then _ else _))=_;rw [hdd,Nat.beq_eq.mpr rfl];rfl) λq F' Gs' rs' h' H1 H2 H3=>H p q F' Gs' rs' v1 h' H1 H2 H3
theorem AX2 {c:Cod α} {x1 x2 y1 y2 i1 i2:Operand} {r1 r2:Value} {κ1 κ2:IntKind} {n1 n2:Int} {M:List (List α)} {L1 L2:List α} (hTr:SlT P tr er0 1) (htl:NaT P tl) (HO:ALl c er el h F Gs rs v M) (hr1:rs[n1.toNat]? =some r1) (hr2:rs[n2.toNat]? =some r2) (hL1:gI M n1=some L1) (hL2:gI M n2=some L2)
 (hx1:e.ev x1=v) (hi1:e.ev i1= .int κ1 n1) (hy1:∀ p,(e.set d p).ev y1=r2) (hx2:∀ p,(e.set d p).ev x2=v) (hi2:∀ p,(e.set d p).ev i2= .int κ2 n2) (hy2:∀ p q,((e.set d p).set d' q).ev y2=r1)
 (H:∀ p q F' Gs' rs' h',ALl c er el h' F' Gs' rs' v (sI (sI M n1 L2) n2 L1)->UpT F h h'->(∀ x∈F',x∈F∨h.size<=x)->RL P B st ops rest ((e.set d p).set d' q) h' K):
 RL P B st ops (⟨some d,.indexAddr tr x1 i1,ty,pos,af,none⟩ :: ⟨none,.store tl (.tmp d) y1,ty',pos',af',none⟩ :: ⟨some d',.indexAddr tr x2 i2,ty2,pos2,af2,none⟩ :: ⟨none,.store tl (.tmp d') y2,ty3,pos3,af3,none⟩ :: rest) e h K:=by
 obtain ⟨m1,rfl,hM1⟩:=AP3 hL1;obtain ⟨m2,rfl,hM2⟩:=AP3 hL2;rw [Int.toNat_natCast] at hr1 hr2;have hnd:=HO.notD;have hlt:=HO.lt;have hn:=HO.nodup;have hm1:=(List.getElem?_eq_some_iff.1 hM1).1;have hm2:=(List.getElem?_eq_some_iff.1 hM2).1;obtain ⟨G1,hG1,HR1,hGF1⟩:=HO.row hr1 hM1;obtain ⟨G2,hG2,HR2,hGF2⟩:=HO.row hr2 hM2
 rcases HO with ⟨rfl,_⟩ | ⟨b,hF,_,h2,h3,h4,h5,h6⟩
 ·simp at hM1
 rw [hF] at hn;have hnf:=List.nodup_cons.1 hn;refine Agj (er:=er) (n:=m1) hTr hx1 h2 hi1 (by grind) ?_;rw [Nat.mul_one];refine (AMt (n:=m1) (el:=er) (g:=b) htl (by rw [Nat.mul_one];exact Env.set_same _ _ _) (hy1 _) HR2.isOne) v _ h2 (by grind) λh1 hS1 hU1=>?_;have h21:=hS1 v _ h2 (by grind);refine Agj (er:=er) (n:=m2) hTr (hx2 _) h21 (hi2 _) (by grind) ?_;rw [Nat.mul_one];refine (AMt (n:=m2) (el:=er) (g:=b) htl (by rw [Nat.mul_one];exact Env.set_same _ _ _) (hy2 _ _) HR1.isOne) v _ h21 (by grind) λh' hS2 hU2=>?_;have h22:=hS2 v _ h21 (by grind);have N1:UpT [b] h h1:=AXz hU1 AI9 (λx hx _=>hnd x<|by grind)<|h21.notD h3;have N2:UpT [b] h1 h':=AXz hU2 AI9 (λx hx hl=>((hnd x<|by grind)).of N1)<|h22.notD h3;have N:UpT [b] h h':=N1.then N2 λx hx=> .inl hx;have UF:UpT F h h':=N.mono (λx hx=>by grind) λx hx _=>hnd x hx;have gG:=λk=>Aj9 (L:=Gs) hG1 hG2 k;have gR:=λk=>Aj9 (L:=rs) hr1 hr2 k;have gM:=λk=>Aj9 (L:=M) hM1 hM2 k
 have hsub:∀ x∈b :: ((Gs.set m1 G2).set m2 G1).flatten,x∈F:=by
  intro z hz;rw [hF]
  rcases List.mem_cons.1 hz with rfl | hz
  ·simp
  ·obtain ⟨G,hG,hzG⟩:=List.mem_flatten.1 hz;obtain ⟨k,hk⟩:=List.getElem?_of_mem hG;rw [gG] at hk;exact List.mem_cons_of_mem _<|AM7 hk hzG
 refine H _ _ (b :: ((Gs.set m1 G2).set m2 G1).flatten) ((Gs.set m1 G2).set m2 G1) ((rs.set m1 r2).set m2 r1) h' (.inr ⟨b,rfl,?_,?_,h3,by simp [sI,h4],by simp [sI,h5],λk G r L hG hr hL=>?_⟩) UF λx hx=> .inl<|hsub x hx
 ·refine List.nodup_cons.2 ⟨λhz=>?_,Ao1 (λk G hk=>?_) λk l G G' hkl hk hl x hx hx'=>?_⟩
  ·obtain ⟨G,hG,hzG⟩:=List.mem_flatten.1 hz;obtain ⟨k,hk⟩:=List.getElem?_of_mem hG;rw [gG] at hk;exact hnf.1<|AM7 hk hzG
  ·grind
  ·rw [gG] at hk hl;exact Aou hnf.2 hk hl (λhe=>hkl<|A1i he) x hx hx'
 ·simp_all
 ·simp only [sI,Int.toNat_natCast] at hL;rw [gG] at hG;rw [gR] at hr;rw [gM] at hL
  exact (h6 _ G r L hG hr hL).upT N λx hx hxb=>by
   rw [List.mem_singleton.1 hxb] at hx;exact hnf.1<|AM7 hG hx
end
theorem Abf {a:Nat} {A B:List Nat} (h1:a ∉ A) (h2:a ∉ B):a ∉ A ++ B:=λh=>by
 grind
theorem Abg {a:Nat}:a ∉ ([]:List Nat):=by simp
theorem ALl.gmem {c:Cod α} {M:List (List α)} (H:ALl c er el h F Gs rs v M) (hG:Gs[i]? =some [g]):g∈F:=by
 rcases H with ⟨rfl,_,_,rfl,_⟩ | ⟨b,rfl,_⟩
 ·simp at hG
 ·exact List.mem_cons_of_mem _<|AM7 hG AI9
theorem SlC.shape {c:Cod α} {L:List α} (H:SlC c h v L):∃ a n cap,v= .slice a n cap:=by
 obtain ⟨Ls,⟨a,cap,rfl,_⟩,_⟩:=H;grind
theorem ANp.shape {c:Cod α} {L:List (List α)} (H:ANp c h v L):∃ a n cap,v= .slice a n cap:=by
 obtain ⟨_,Ls,⟨a,cap,rfl,_⟩,_⟩:=H;grind
def AM1:Nat:=4294967296 ^ 99
end Go.QF
namespace Go.Proofs.YtegoafpaljeobaaGreatDoor
section
variable {P:Program} {Q:Exit->Env->AH8->Prop} {K:Env->AH8->Prop} {e:Env} {h:AH8} {B:AH8->Prop} {st:Bool} {ops:Array Oper} {rest:List Oper} {d:Nat} {ty:TypeId} {pos:String} {af:Array Edge}
theorem cwf {fn:Func} {c:Code} {rs:List ResultVar} {l:List Value} {K:Value->AH8->Prop} (hf:Tryz.prog.funcs[f]? =some fn) (hb:fn.body=some c) (hr:fn.results=rs.toArray) (H:W Tryz.prog c (A39 Tryz.prog rs K) (Aof l) h) (hn:(fn.name == "runtime.NumGoroutine")=false:=by rfl) (hl:Nat.ble l.length fn.ntmps=true:=by rfl) (hok:okC fn.ntmps c=true:=by kernel_rfl):AI7 Tryz.prog f l.toArray h K:=AJi mx hf hn hb hr rfl hl hok H
theorem AJp {f off ft b o:Nat} (hf:FdT P t f off ft) (hx:e.ev x= .pointer (some ⟨b,o,none⟩)) (H:RL P B st ops rest (e.set d<|.pointer<|some ⟨b,o + off,none⟩) h K) (hs:(P.info? ft).map (·.size)=some 1:=by kernel_rfl):RL P B st ops (⟨some d,.fieldAddr t x f,ty,pos,af,none⟩ :: rest) e h K:=AOe hf hs AHz hx H
theorem AI3 {t:TypeId} {b:Int} (hx:e.ev x= .int k a) (hy:e.ev y= .int k b) (H:RL P B st ops rest (e.set d<|.bool<|decide (a < b)) h K):RL P B st ops (⟨some d,.binOp .lss t x y t2,ty,pos,af,none⟩ :: rest) e h K:=Ajo hx hy (A1c _ _) H
theorem Aho {t:TypeId} {b:Int} (hx:e.ev x= .int k a) (hy:e.ev y= .int k b) (H:RL P B st ops rest (e.set d<|.bool<|decide (a<=b)) h K):RL P B st ops (⟨some d,.binOp .leq t x y t2,ty,pos,af,none⟩ :: rest) e h K:=Ajo hx hy (A1d _ _) H
theorem APu {t:TypeId} {b:Int} (hx:e.ev x= .int k a) (hy:e.ev y= .int k b) (H:RL P B st ops rest (e.set d<|.bool<|decide (b < a)) h K):RL P B st ops (⟨some d,.binOp .gtr t x y t2,ty,pos,af,none⟩ :: rest) e h K:=Ajo hx hy (A1e _ _) H
theorem AUr {t:TypeId} {b:Int} (hx:e.ev x= .int k a) (hy:e.ev y= .int k b) (H:RL P B st ops rest (e.set d<|.bool<|decide (b<=a)) h K):RL P B st ops (⟨some d,.binOp .geq t x y t2,ty,pos,af,none⟩ :: rest) e h K:=Ajo hx hy (A1f _ _) H
theorem AKd {t:TypeId} {b:Int} (hx:e.ev x= .int k a) (hy:e.ev y= .int k b) (H:RL P B st ops rest (e.set d<|.bool<|decide (a=b)) h K):RL P B st ops (⟨some d,.binOp .eql t x y t2,ty,pos,af,none⟩ :: rest) e h K:=Ajo hx hy (A1g _ _) H
theorem AK0 {t:TypeId} {b:Int} (hx:e.ev x= .int k a) (hy:e.ev y= .int k b) (H:RL P B st ops rest (e.set d<|.bool<|decide (¬ a=b)) h K):RL P B st ops (⟨some d,.binOp .neq t x y t2,ty,pos,af,none⟩ :: rest) e h K:=Ajo hx hy (A1h _ _) H
theorem ASt {l:List Value} {K':Value->AH8->Prop} (hxs:xs.map e.ev=l) (HC:AI7 P f l.toArray h λx h'=>Ext h h'/\K' x h')
 (H:∀ v h',Ext h h'->K' v h'->RL P (λ_=>True) st ops rest (e.set d v) h' K):RL P (λ_=>True) st ops (⟨some d,.call ⟨.value<|.func f,xs.toArray,ts⟩,ty,pos,af,none⟩ :: rest) e h K:=ALp trivial (λ_ _=>trivial) hxs HC H
end
end Go.Proofs.YtegoafpaljeobaaGreatDoor
namespace Go.QF
section
variable {P:Program} {B:AH8->Prop} {st:Bool} {ops:Array Oper} {rest:List Oper} {e:Env} {h:AH8} {K:Env->AH8->Prop}
variable {d d':Nat} {ty ty':TypeId} {pos pos':String} {af af':Array Edge}
theorem Axp {t:TypeId} {k':IntKind} {n:Int} (hx:e.ev x= .int k a) (hy:e.ev y= .int k' n) (hn:0<=n/\n<=k.bits) (H:RL P B st ops rest (e.set d<|.int k<|k.wrap<|a * 2 ^ n.toNat) h K):
 RL P B st ops (⟨some d,.binOp .shl t x y t2,ty,pos,af,none⟩ :: rest) e h K:=by
 obtain ⟨m,rfl⟩:∃ m:Nat,n=m:=⟨n.toNat,AHx⟩;rw [Int.toNat_natCast] at H;exact Als hx hy AHx H
theorem Am5 {c:Cod α} {u:Value} {L:List α} {n:Int} {a a':α} (ht:NaT P t) (hx:e.ev x= .pointer (some ⟨g,n.toNat * c.k + j,none⟩)) (hy:e.ev y=u) (h1:isOne u=true) (hj:j < c.k) (HO:OwC c el h F v L) (hF:F=[g]) (ha:gI L n=some a) (hrep:∀ cs,c.rep h a cs->c.rep h a' (cs.set j u))
 (H:∀ h',OwC c el h' F v (sI L n a')->UpT F h h'->RL P B st ops rest e h' K):RL P B st ops (⟨none,.store t x y,ty,pos,af,none⟩ :: rest) e h K:=by
 have hnd:=HO.notD;obtain ⟨m,rfl,ham⟩:=AP3 ha;rw [Int.toNat_natCast] at hx
 rcases HO with ⟨rfl,_⟩ | ⟨g',Ls,hF',h2,h3,h4⟩
 ·simp at ham
 rw [hF] at hF';injection hF' with hg;subst hg;obtain ⟨cs,hcs,hr⟩:=h3.get ham;have hm:=(List.getElem?_eq_some_iff.1 hcs).1;obtain ⟨x0,hx0⟩:∃ x0,cs[j]? =some x0:=⟨cs[j]'(by rw [c.klen hr];exact hj),List.getElem?_eq_getElem _⟩;refine A0w ht hx hy h1 (h2.cell hcs hx0) (h2.free _) ?_;have h2':=h2.set u hcs hj;have U:UpT F h (Afd h ⟨g,m * c.k + j,none⟩ u):=AXz (AX7 _ _ _) (by simp [hF]) (λb hb _=>hnd b hb)<|h2'.notD h4;refine H _ (.inr ⟨g,_,hF,h2',?_,h4⟩) U;rw [sI,Int.toNat_natCast];exact (h3.set m<|hrep cs hr).upT U
theorem Axq {c:Cod α} {z xv:Value} {L:List α} (hT:SlT P t el c.k) (hz:ZeT P el z bytes) (hzk:z.cells.size=c.k) (hel:Nat.beq el 160=false) (hb:B h) (hBE:∀ h',Ext h h'->B h') (hs:e.ev s= .slice none 0 0) (hx:e.ev x=xv) (HX:SlC c h xv L) (hby:bytes<=1000) (hl:L.length<=100000000)
 (H:∀ F v' h',OwC c el h' F v' L->Ext h h'->Sp h' h.size [F]->RL P B st ops rest (e.set d v') h' K):
 RL P B st ops (⟨some d,.call ⟨.builtin .append,#[s,x],#[t,t]⟩,ty,pos,af,none⟩ :: rest) e h K:=by
 obtain ⟨Ls,⟨xa,xc,rfl,hxc⟩,HA⟩:=HX;refine AWy rfl rfl hb λw hw=>?_;subst hw;obtain ⟨hu,i0,hi0,hs0⟩:=hT;obtain ⟨i,hi,hzz,hsz,hbyy⟩:=hz;rw [hi] at hi0;injection hi0 with hi0;subst hi0
 by_cases hL:Ls=[]
 ·subst hL;have hLn:L=[]:=by have:=HA.1;exact List.eq_nil_of_length_eq_zero this.symm
  subst hLn
  have hrun:(execOp e.ev ⟨some d,.call ⟨.builtin .append,#[s,x],#[t,t]⟩,ty,pos,af,none⟩).run P w= .ok (.value<|.slice none 0 0) w:=by
   have hc:(Builtin.firstCells i.size 0<|.slice xa 0 xc).run P w= .ok #[] w:=by
    cases xa with
    | none=>exact run_firstCells_none (P:=P) w _ 0 0 xc
    | some a=>exact run_firstCells_some (P:=P) w i.size 0 a 0 xc [] AI9 (λj v hj=>by simp at hj)
   simp only [List.length_nil] at hx;simp [execOp,resolve,invoke,builtin,hs,hx,Builtin.append_,AS6 hu,AXt hi,Builtin.lenOf,hc]
  rw [hrun];exact ⟨⟨rfl,rfl,rfl⟩,hb,H [] _ _ (Asy c el _) (Ext.refl _) ⟨AI9,λb hb=>by simp at hb⟩⟩
 ·have hlen:0 < Ls.length:=List.length_pos_iff.2 hL
  have hk:∀ r∈Ls,r.length=c.k:=λr hr=>by
   obtain ⟨q,hq⟩:=List.getElem?_of_mem hr;have hql:=(List.getElem?_eq_some_iff.1 hq).1;exact c.klen<|HA.2 q r (L[q]'(by rw [<- HA.1];exact hql)) hq<|List.getElem?_eq_getElem _
  obtain ⟨r0,hr0⟩:∃ r0,Ls[0]? =some r0:=⟨Ls[0],List.getElem?_eq_getElem _⟩;obtain ⟨b,o,rfl,_⟩:=hxc 0 r0 hr0
  have hnews:∀ q u,Ls.flatten[q]? =some u->w.cell? ((⟨b,o,none⟩:Addr).add q)=some u:=λq u hq=>by
   have hqk:q / c.k < Ls.length:=by
    have hq':=(List.getElem?_eq_some_iff.1 hq).1;rw [AV7 hk] at hq';exact Nat.div_lt_of_lt_mul (by rw [Nat.mul_comm];exact hq')
   obtain ⟨row,hrow⟩:∃ row,Ls[q / c.k]? =some row:=⟨Ls[q / c.k],List.getElem?_eq_getElem hqk⟩;have hrl:=hk row<|List.mem_of_getElem? hrow;have hmod:=Nat.mod_lt q c.pos;have hg:=Ad4 hk hrow (j:=q % c.k) (x:=row[q % c.k]'AHx)<|List.getElem?_eq_getElem _;have e1:q / c.k * c.k + q % c.k=q:=by rw [Nat.mul_comm];exact Nat.div_add_mod q c.k
   rw [e1,hq] at hg;injection hg with hg;obtain ⟨b',o',hbo,hcell⟩:=hxc (q / c.k) row hrow;injection hbo with hbo;injection hbo with hb1 hb2;subst hb1;subst hb2;have:=hcell (q % c.k) u (by rw [hg];exact List.getElem?_eq_getElem _);rw [AN0,Agd];rw [Nat.add_assoc,e1] at this;exact this
  have hmul:Ls.length * bytes<=100000000 * 1000:=Nat.mul_le_mul (by rw [HA.1];exact hl) hby;have hr:=run_append_nil (P:=P) w t ty el i z hu hi hzz ⟨b,o,none⟩ Ls.length xc Ls.flatten (by rw [AV7 hk,hs0]) hnews hlen (by rw [HA.1];omega) (by rw [hbyy];omega)
  have hrun:(execOp e.ev ⟨some d,.call ⟨.builtin .append,#[s,x],#[t,t]⟩,ty,pos,af,none⟩).run P w= .ok (.value<|.slice (some ⟨w.heap.size,0,none⟩) Ls.length<|grownCap w Ls.length 0 el) (w.drew.alloc<|.cells (Ls.flatten.toArray ++ Builtin.zeroCells z.cells (grownCap w Ls.length 0 el - Ls.length)) el):=by
   simp [execOp,resolve,invoke,builtin,hs,hx,hr]
  rw [hrun];have hge:=grownCap_ge w Ls.length 0 el;have hcm':grownCap w Ls.length 0 el<=maxLen:=grownCap_le_maxLen w _ _ el (by unfold maxLen;rw [HA.1];omega);have E:Ext w.heap (w.drew.alloc<|.cells (Ls.flatten.toArray ++ Builtin.zeroCells z.cells (grownCap w Ls.length 0 el - Ls.length)) el).heap:=⟨AI9,λk hk=>heap_alloc_old w.drew _ k hk⟩
  refine ⟨⟨rfl,rfl,rfl⟩,hBE _ E,H [w.heap.size] _ _ (.inr ⟨w.heap.size,Ls,rfl,⟨_,_,rfl,heap_alloc_new w.drew _,hge,hcm',?_,hk,?_⟩,HA.upT E.upT,hel⟩) E<|ANs (Nat.le_refl _) AI9⟩
  ·rw [Array.size_append,size_zeroCells,hzk,List.size_toArray,AV7 hk,Nat.sub_mul];have:=Nat.mul_le_mul_right c.k hge;omega
  ·simp only [Array.toList_append];rw [<- AV7 hk];exact List.take_left
end
theorem Aka {e:Env} {t u q:Tmp} {ty s b:Nat} {l:List Value} (ht:AgT P ty s) (hl:l.length=s) (he:e t= .pointer (some ⟨b,0,none⟩)) (HB:ALu tb h b l):Amn P [.tmp u,.cell t ty,.tmp q] e h (.tuple #[e u,.agg l.toArray,e q]):=
 λfn tmps w hr hg hw=>by
  have h1:tmps[t]?.getD undef= .pointer (some ⟨b,0,none⟩):=by simp_all
  have h2:=AW1 ht hl w (a:=⟨b,0,none⟩) (by rw [hw];exact HB.agg)
  rw [<- hg u,<- hg q]
  simp only [results,hr]
  simp [h1,asAddr,h2]
theorem Ao2 (h:isOne v=true):v.cells=[v].toArray:=by cases v <;> first | rfl | cases h
section
variable {P:Program} {B:AH8->Prop} {st:Bool} {ops:Array Oper} {rest:List Oper} {e:Env} {h:AH8} {K:Env->AH8->Prop} {d:Nat} {ty:TypeId} {pos:String} {af:Array Edge}
theorem A4p {z:Value} {cs:List Value} (hT:SlT P t el 2) (hz:ZeT P el z bytes) (hel:Nat.beq el 160=false) (hb:B h) (hBE:∀ h',Ext h h'->B h') (hr:cZ.rep h a cs) (hy:e.ev y= .agg cs.toArray) (H:∀ b v h',OwC cZ el h' [b] v [a]->Ext h h'->h.size<=b->b < h'.size->RL P B st ops rest (e.set d v) h' K):RL P B st ops (⟨some d,.buildSlice t 1 #[(0,y)],ty,pos,af,none⟩ :: rest) e h K:=by
 have hl:=cZ.klen hr;have E:Ext h (h.push<|.cells cs.toArray el (0,0)):=AL5 _ _;refine A65 cs hT hz hb hy hl AHz AHz ⟨hBE _ E,H h.size _ _ (.inr ⟨h.size,[cs],rfl,⟨1,cs.toArray,rfl,AI9,AI9,AHz,by simp [hl],λr hr=>by rw [List.mem_singleton.1 hr];exact hl,?_⟩,⟨rfl,λi cs' a' h1 h2=>?_⟩,hel⟩) E (Nat.le_refl _) AI9⟩
 ·have h2:cs.length=cZ.k:=hl;simp [<- h2]
 ·cases i with
  | zero=>simp at h1 h2;subst h1;subst h2;exact cZ.upT hr E.upT
  | succ i=>simp at h1
theorem Ahp {n:Nat} {z:Value} (L:List Int) (hT:SlT P t el 1) (hz:ZeT P el z bytes) (h1:isOne z=true) (hel:Nat.beq el 160=false) (hb:B h) (hBE:∀ h',Ext h h'->B h') (hn:L.length=n) (Ab:Nat.ble n 16777216=true) (hpos:Nat.ble 1 n=true) (hp:(parts.map λ(i,x)=>(i,e.ev x))=partsOf 0 (L.map<|.int κ)) (H:∀ b v h',OwC (cI κ) el h' [b] v L->Ext h h'->h.size<=b->b < h'.size->RL P B st ops rest (e.set d v) h' K):RL P B st ops (⟨some d,.buildSlice t n parts.toArray,ty,pos,af,none⟩ :: rest) e h K:=by
 have Ab:=Nat.le_of_ble_eq_true Ab;have E:Ext h (h.push<|.cells (L.map<|Value.int κ).toArray el (0,0)):=AL5 _ _;refine Awl (L.map<|.int κ) hT hz h1 hb (by rw [List.length_map];exact hn) Ab (Nat.le_of_ble_eq_true hpos) hp (λu hu=>?_) ⟨hBE _ E,H h.size _ _ (.inr ⟨h.size,L.map λa=>[.int κ a],rfl,⟨n,(L.map<|Value.int κ).toArray,by rw [List.length_map,hn],AI9,by simp [hn],by unfold maxLen;omega,by show _=n * 1;simp [hn],λr hr=>?_,?_⟩,⟨AI9,λi cs a h1 h2=>?_⟩,hel⟩) E (Nat.le_refl _) AI9⟩
 ·obtain ⟨a,_,rfl⟩:=List.mem_map.1 hu;rfl
 ·obtain ⟨a,_,rfl⟩:=List.mem_map.1 hr;rfl
 ·have:(L.map λa=>[Value.int κ a]).flatten=L.map (Value.int κ):=by
   clear H E hp hn Ab
   induction L with
   | nil=>rfl
   | cons a L ih=>simp [ih]
  rw [this,List.take_of_length_le (by show _<=_ * 1;simp)]
 ·rw [List.getElem?_map,h2] at h1;injection h1 with h1;exact h1.symm
theorem Axr {c:Cod α} {r xv:Value} {M:List (List α)} {m:Int} {L L':List α} (hT:SlT P t el c.k) (hB:B h) (hs:e.ev s=r) (hx:e.ev x=xv) (HO:ALl c er el h F Gs rs v M) (hr:rs[m.toNat]? =some r) (hL:gI M m=some L) (HX:SlC c h xv L') (hn0:L'.length=L.length/\0 < L.length)
 (H:∀ h',ALl c er el h' F Gs rs v (sI M m L')->UpT F h h'->B h'/\RL P B st ops rest (e.set d<|.int .i64<|.ofNat L.length) h' K):RL P B st ops (⟨some d,.call ⟨.builtin .copy,#[s,x],#[t,t]⟩,ty,pos,af,none⟩ :: rest) e h K:=by
 obtain ⟨hlen,hpos⟩:=hn0;obtain ⟨i,rfl,hm0⟩:=AP3 hL;clear hL;have hL:=hm0;rw [Int.toNat_natCast] at hr;have hnd:=HO.notD;obtain ⟨G,hG,HR,hGF⟩:=HO.row hr hL
 rcases HO with ⟨rfl,_⟩ | ⟨b',hF',hn,h2,h3,h4,h5,h6⟩
 ·simp at hL
 rcases HR with ⟨rfl,_,_⟩ | ⟨g,Ls,rfl,hk2,hk3,hk4⟩
 ·simp at hpos
 obtain ⟨Ls',⟨xa,xc,hxv,hxc⟩,HA⟩:=HX;have hLs':Ls'.length=L.length:=HA.1.trans hlen;have hLs:Ls.length=L.length:=hk3.1
 have hk:∀ q∈Ls',q.length=c.k:=λq hq=>by
  obtain ⟨j,hj⟩:=List.getElem?_of_mem hq;have hjl:=(List.getElem?_eq_some_iff.1 hj).1;exact c.klen<|HA.2 j q (L'[j]'AHx) hj<|List.getElem?_eq_getElem _
 have hone:∀ u∈Ls'.flatten,u.oneCell'=true:=λu hu=>by
  obtain ⟨q,hq,huq⟩:=List.mem_flatten.1 hu;obtain ⟨j,hj⟩:=List.getElem?_of_mem hq;have hjl:=(List.getElem?_eq_some_iff.1 hj).1;have:=c.one (HA.2 j q (L'[j]'AHx) hj<|List.getElem?_eq_getElem _) u huq;cases u <;> first | rfl | cases this
 obtain ⟨r0,hr0⟩:∃ r0,Ls'[0]? =some r0:=⟨Ls'[0]'AHx,List.getElem?_eq_getElem _⟩;obtain ⟨b,o,rfl,_⟩:=hxc 0 r0 hr0;obtain ⟨hu,i0,hi0,hs0⟩:=hT;have hk2':=hk2;obtain ⟨cap,cur,hv,hg,hl,hm,hsz,hkk,ht⟩:=hk2;have hfl:Ls'.flatten.length=Ls'.length * c.k:=AV7 hk;have hcu:Ls'.flatten.length<=cur.size:=by rw [hfl,hsz,hLs',<- hLs];exact Nat.mul_le_mul_right _ hl
 refine A4n (u:= .int .i64<|.ofNat L.length) hB λw hw=>?_;subst hw
 have hnews:∀ q u,Ls'.flatten[q]? =some u->w.cell? ((⟨b,o,none⟩:Addr).add q)=some u:=λq u hq=>by
  have hqk:q / c.k < Ls'.length:=by
   have hq':=(List.getElem?_eq_some_iff.1 hq).1;rw [hfl] at hq';exact Nat.div_lt_of_lt_mul (by grind)
  obtain ⟨row,hrow⟩:∃ row,Ls'[q / c.k]? =some row:=⟨Ls'[q / c.k],List.getElem?_eq_getElem hqk⟩;have hrl:=hk row<|List.mem_of_getElem? hrow;have hmod:=Nat.mod_lt q c.pos;have hg:=Ad4 hk hrow (j:=q % c.k) (x:=row[q % c.k]'AHx)<|List.getElem?_eq_getElem _;have e1:q / c.k * c.k + q % c.k=q:=by rw [Nat.mul_comm];exact Nat.div_add_mod q c.k
  rw [e1,hq] at hg;injection hg with hg;obtain ⟨b',o',hbo,hcell⟩:=hxc (q / c.k) row hrow;injection hbo with hbo;injection hbo with hb1 hb2;subst hb1;subst hb2;have:=hcell (q % c.k) u (by grind);rw [AN0,Agd];rw [Nat.add_assoc,e1] at this;exact this
 obtain ⟨cs',q2,q3,q4,q5⟩:=Alf g Ls'.flatten 0 w cur el (0,0) hg AHx
 have hst:(storeCells ⟨g,0,none⟩ Ls'.flatten).run P w= .ok () (w.setCells g 0 Ls'.flatten):=by
  have:=run_storeCells_cells (P:=P) g 0 Ls'.flatten 0 w (λj hj=>?_) (λj hj=>?_) hone
  ·simpa using this
  ·have:j < cur.size:=by omega
   simp [World.cell?,hg,this]
  ·simp [World.frozen?,hg]
 have hcs:cs'.size=cur.size:=by
  have:=congrArg List.length q3;rw [Axn] at this;simpa using this
 have hown:ARz (w.setCells g 0 Ls'.flatten).heap el c.k g r Ls':=by
  refine ⟨cap,cs',by grind,q2,AHx,hm,by rw [hcs,hsz],hk,?_⟩;rw [q3];apply List.ext_getElem?;intro q;rw [List.getElem?_take,AZ5];grind
 have U:UpT F w.heap (w.setCells g 0 Ls'.flatten).heap:=AXz q4 (hGF g AI9) (λb hb _=>hnd b hb)<|hown.notD hk4
 have hbg:b'≠g:=λhe=>by
  rw [hF'] at hn;exact (List.nodup_cons.1 hn).1 (he ▸ AM7 hG AI9)
 have H':=H _ (.inr ⟨b',hF',hn,h2.upd q4 hbg,h3,by simp [sI,h4],by simp [sI,h5],λi' G' r' L2 hGi hri hLi=>?_⟩) U
 ·refine ⟨_,?_,q5,H'.1,H'.2⟩;have hfc:=run_firstCells_some (P:=P) w i0.size L.length ⟨b,o,none⟩ Ls'.length xc Ls'.flatten (by grind) hnews;have hmin:Nat.min Ls'.length Ls.length=L.length:=by grind
  have hmin2:min Ls'.length Ls.length=L.length:=hmin;have hmin3:min Ls.length Ls'.length=L.length:=by omega
  rw [hs,hx,hv,hxv];simp [Builtin.copy_,AS6 hu,AXt hi0,Builtin.lenOf,hmin,hmin2,hmin3,hfc,hst,goInt]
 ·by_cases hii:i'=i
  ·subst hii;rw [hG] at hGi;injection hGi with hGi;subst hGi;rw [hr] at hri;injection hri with hri;subst hri
   have:L2=L':=by
    simp only [sI,Int.toNat_natCast] at hLi;grind
   subst this;exact .inr ⟨g,_,rfl,hown,Al.upT HA U,hk4⟩
  ·have hLi':M[i']? =some L2:=by
    simp only [sI,Int.toNat_natCast] at hLi;grind
   have U1:UpT [g] w.heap (w.setCells g 0 Ls'.flatten).heap:=AXz q4 AI9 (λb hb _=>hnd b<|hGF b hb)<|hown.notD hk4
   exact (h6 i' G' r' L2 hGi hri hLi').upT U1 λx hx hxg=>by
    rw [List.mem_singleton.1 hxg] at hx;rw [hF'] at hn;exact hii (Ad8 (List.nodup_cons.1 hn).2 hG hGi hx).symm
end
end Go.QF
namespace Go.Proofs.YtegoafpaljeobaaGreatDoor
theorem Ao3:ZeT Tryz.prog 127 (.slice none 0 0) 24:=AZv AIb
theorem AN3:FdT Tryz.prog 100 0 0 22:=⟨_,_,Tryz.underlying100,rfl,rfl,rfl⟩
theorem AKh:FdT Tryz.prog 100 1 1 3:=⟨_,_,Tryz.underlying100,rfl,rfl,rfl⟩
def As7 (fuel:Nat) (a b:Int):Option Int:=if a.natAbs < AM1/\b.natAbs < AM1 then some (a + b) else none
def A3l (fuel:Nat) (a b:Int):Option Int:=if a.natAbs < AM1/\b.natAbs < AM1 then some (a - b) else none
def Aaz (fuel:Nat) (a b:Int):Option Int:=if a.natAbs * b.natAbs < AM1 then some (a * b) else none
def Ao4 (fuel:Nat) (a:Int):Option Int:=some<|-a
def Aa0 (fuel:Nat) (a:Int):Option Int:=some a
def AUx (fuel:Nat) (a:Int):Option Int:=if -9223372036854775808<=a/\a<=9223372036854775807 then some a else none
def Ahq (fuel:Nat) (a:Int):Option Int:=some<|AOr a
def Am6 (fuel:Nat) (a:Int):Option (Int × Bool):=if a.natAbs < 9223372036854775808 then some (a,true) else none
theorem Axs {n:Nat} (h:n < AM1):n < 4294967296 ^ 100:=Nat.lt_trans h<|Nat.pow_lt_pow_right AHz AHz
theorem Ard {u:Value} {b:Int} (H1:ZZ h u a) (H2:ZZ h v b) (hp:As7 fuel a b=some r):AI7 Tryz.prog 145 #[u,v] h (λx h'=>Ext h h'/\ ∃ (x0:Value),x=x0/\ZZ h' x0 r):=by
 obtain ⟨⟨h1,h2⟩,hp⟩:=ifN hp;cases hp;exact (Ai5 H1 H2 h1 h2).mono λx h' hk=>⟨hk.1,x,rfl,hk.2.zz⟩
theorem A4q {u:Value} {b:Int} (H1:ZZ h u a) (H2:ZZ h v b) (hp:A3l fuel a b=some r):AI7 Tryz.prog 134 #[u,v] h (λx h'=>Ext h h'/\ ∃ (x0:Value),x=x0/\ZZ h' x0 r):=by
 obtain ⟨⟨h1,h2⟩,hp⟩:=ifN hp;cases hp;exact (As3 H1 H2 h1 h2).mono λx h' hk=>⟨hk.1,x,rfl,hk.2.zz⟩
theorem AYy {u:Value} {b:Int} (H1:ZZ h u a) (H2:ZZ h v b) (hp:Aaz fuel a b=some r):AI7 Tryz.prog 135 #[u,v] h (λx h'=>Ext h h'/\ ∃ (x0:Value),x=x0/\ZZ h' x0 r):=by
 obtain ⟨h1,hp⟩:=ifN hp;cases hp;exact (A1b H1 H2<|Axs h1).mono λx h' hk=>⟨hk.1,x,rfl,hk.2.zz⟩
theorem Am7 {u:Value} (H1:ZZ h u a) (hp:Ao4 fuel a=some r):AI7 Tryz.prog 104 #[u] h (λx h'=>Ext h h'/\ ∃ (x0:Value),x=x0/\ZZ h' x0 r):=by
 cases hp;exact (As1 H1).mono λx h' hk=>⟨hk.1,x,rfl,hk.2.zz⟩
theorem Acw {u:Value} (H1:ZZ h u a) (hp:Aa0 fuel a=some r):AI7 Tryz.prog 100 #[u] h (λx h'=>Ext h h'/\ ∃ (x0:Value),x=x0/\ZZ h' x0 r):=by
 cases hp;exact (Ale H1).mono λx h' hk=>⟨hk.1,x,rfl,hk.2.zz⟩
theorem ATb (hp:AUx fuel a=some r):AI7 Tryz.prog 99 #[.int .i64 a] h (λx h'=>Ext h h'/\ ∃ (x0:Value),x=x0/\ZZ h' x0 r):=by
 obtain ⟨h1,hp⟩:=ifN hp;cases hp;exact (Ahm h1 h).mono λx h' hk=>⟨hk.1,x,rfl,hk.2.zz⟩
theorem Agq {u:Value} (H1:ZZ h u a) (hp:Ahq fuel a=some r):AI7 Tryz.prog 130 #[u] h (λx h'=>Ext h h'/\x= .int .i64 r):=by
 cases hp;exact Ad9 H1
theorem Ao5 {u:Value} {r:Int × Bool} (H1:ZZ h u a) (hp:Am6 fuel a=some r):AI7 Tryz.prog 111 #[u] h (λx h'=>Ext h h'/\x= .tuple #[.int .i64 r.1,.bool r.2]):=by
 obtain ⟨h1,hp⟩:=ifN hp;cases hp;exact Au0 H1 h1
end Go.Proofs.YtegoafpaljeobaaGreatDoor
namespace Go.QF
section
variable {P:Program} {ops:Array Oper} {B:AH8->Prop}
def AWn (o:Oper):Bool:=match kindOf o.op with | .pure=>false | .read=>false | _=>true
theorem Aa1 {o:Oper} (hl:AWn o=false):kindOf o.op= .pure∨kindOf o.op= .read:=by
 unfold AWn at hl;cases h:kindOf o.op <;> simp only [h] at hl <;> first | exact .inl rfl | exact .inr rfl | cases hl
theorem AZ6 {o:Oper} {e:Env} (hl:AWn o=false) (H:GOp P B true ops o e h K):GOp P B true ops o e h λe' h'=>h'=h/\K e' h':=by
 unfold GOp at H ⊢;split
 ·rename_i hw;rw [if_pos hw] at H;unfold SOp at H ⊢;rcases Aa1 hl with hk | hk
  ·simp only [hk] at H ⊢;obtain ⟨v,h1,h2⟩:=H;exact ⟨v,h1,trivial,h2⟩
  ·simp only [hk] at H ⊢;obtain ⟨v,h0,h1,h2⟩:=H;exact ⟨v,h0,h1,trivial,h2⟩
 ·rename_i hw;rw [if_neg hw] at H;exact ⟨rfl,H⟩
theorem Akb {o:Oper} {e:Env} {h2:AH8} {K':Env->AH8->Prop} (hl:AWn o=false) (H:GOp P B true ops o e h1 K) (hB:B h1->B h2) (hK:∀ v,K (e.put o.dst v) h1->K' (e.put o.dst v) h2):GOp P B true ops o e h2 K':=by
 unfold GOp at H ⊢;split
 ·rename_i hw;rw [if_pos hw] at H;unfold SOp at H ⊢;rcases Aa1 hl with hk | hk
  ·simp only [hk] at H ⊢;obtain ⟨v,a1,a2⟩:=H;exact ⟨v,a1,hK v a2⟩
  ·simp only [hk] at H ⊢;obtain ⟨v,a0,a1,a2⟩:=H;exact ⟨v,hB a0,a1,hK v a2⟩
 ·rename_i hw;rw [if_neg hw] at H;exact hK undef H
theorem Akc {o:Oper} {e:Env} (hl:AWn o=false) (H:GOp P B true ops o e h K):∃ v,K (e.put o.dst v) h:=by
 unfold GOp at H;split at H
 ·unfold SOp at H;rcases Aa1 hl with hk | hk
  ·simp only [hk] at H;obtain ⟨v,a1,a2⟩:=H;exact ⟨v,a2⟩
  ·simp only [hk] at H;obtain ⟨v,a0,a1,a2⟩:=H;exact ⟨v,a2⟩
 ·exact ⟨undef,H⟩
abbrev Off (a c b:Nat):Prop:=b < a∨c<=b
def HI (P:Program) (B:AH8->Prop) (ops:Array Oper):List Nat->Env->AH8->(Nat->Prop)->(Env->AH8->(Nat->Prop)->Prop)->Prop
 | [],e,h,N,K=> ∀ h',Ext h h'->K e h' N
 | i :: l,e,h,N,K=>match ops[i]? with
   | none=>False
   | some o=>bif AWn o then ∀ h1,Ext h h1->GOp P B true ops o e h1 λe' h'=>Ext h1 h'/\HI P B ops l e' h' (λb=>N b/\Off h1.size h'.size b) K
     else GOp P B true ops o e h λe' h'=>HI P B ops l e' h' N K
def HRf (P:Program) (B:AH8->Prop) (ops:Array Oper):List Oper->Env->AH8->(Nat->Prop)->(Env->AH8->(Nat->Prop)->Prop)->Prop
 | [],e,h,N,K=> ∀ h',Ext h h'->K e h' N
 | o :: l,e,h,N,K=>bif AWn o then ∀ h1,Ext h h1->GOp P B true ops o e h1 λe' h'=>Ext h1 h'/\HRf P B ops l e' h' (λb=>N b/\Off h1.size h'.size b) K
    else GOp P B true ops o e h λe' h'=>HRf P B ops l e' h' N K
variable {K:Env->AH8->(Nat->Prop)->Prop}
theorem Axt:∀ (I:List Nat) (L:List Oper),I.map (λi=>ops[i]?)=L.map some-> ∀ e h N,HRf P B ops L e h N K->HI P B ops I e h N K:=by
 intro I
 induction I with
 | nil=>intro L hI e h N H;cases L with | nil=>exact H | cons o L=>cases hI
 | cons i I ih=>
   intro L hI e h N H
   cases L with
   | nil=>cases hI
   | cons o L=>
     simp only [List.map_cons,List.cons.injEq] at hI
     simp only [HI,hI.1]
     simp only [HRf] at H
     cases he:AWn o with
     | true=>simp only [he,cond_true] at H ⊢;exact λh1 E=>(H h1 E).mono λv h' hh=>⟨hh.1,ih L hI.2 _ _ _ hh.2⟩
     | false=>simp only [he,cond_false] at H ⊢;exact H.mono λv h' hh=>ih L hI.2 _ _ _ hh
theorem HI.anti (hKN:∀ e h (N N':Nat->Prop),(∀ b,N' b->N b)->K e h N->K e h N'):∀ (l:List Nat) {e:Env} {h:AH8} {N N':Nat->Prop},(∀ b,N' b->N b)->HI P B ops l e h N K->HI P B ops l e h N' K:=by
 intro l
 induction l with
 | nil=>intro e h N N' hN H h' E;exact hKN _ _ _ _ hN (H h' E)
 | cons i l ih=>
   intro e h N N' hN H
   simp only [HI] at H ⊢
   cases hoi:ops[i]? with
   | none=>simp only [hoi] at H
   | some o=>
     simp only [hoi] at H ⊢
     cases he:AWn o with
     | true=>simp only [he,cond_true] at H ⊢;exact λh1 E=>(H h1 E).mono λv h' hh=>⟨hh.1,ih (λb hb=>⟨hN b hb.1,hb.2⟩) hh.2⟩
     | false=>simp only [he,cond_false] at H ⊢;exact H.mono λv h' hh=>ih hN hh
theorem HI.ext (hBx:∀ h h',B h->Ext h h'->B h'):∀ (l:List Nat) {e:Env} {h h2:AH8} {N:Nat->Prop},Ext h h2->HI P B ops l e h N K->HI P B ops l e h2 N K:=by
 intro l
 induction l with
 | nil=>intro e h h2 N E H h' E';exact H h' (E.trans E')
 | cons i l ih=>
   intro e h h2 N E H
   simp only [HI] at H ⊢
   cases hoi:ops[i]? with
   | none=>simp only [hoi] at H
   | some o=>
     simp only [hoi] at H ⊢
     cases he:AWn o with
     | true=>simp only [he,cond_true] at H ⊢;exact λh1 E1=>H h1 (E.trans E1)
     | false=>simp only [he,cond_false] at H ⊢;exact Akb he H (λhb=>hBx _ _ hb E) λv hh=>ih E hh
theorem HI.swap (hBx:∀ h h',B h->Ext h h'->B h') {i j:Nat} {x y:Oper} (hi:ops[i]? =some x) (hj:ops[j]? =some y) (hx:ARa x=true) (hy:ARa y=true) (hin:indep true ops x y=true) {R:List Nat} {e:Env} {h:AH8} {N:Nat->Prop} (H:HI P B ops (i :: j :: R) e h N K):HI P B ops (j :: i :: R) e h N K:=by
 simp only [HI,hi,hj] at H ⊢
 cases hex:AWn x with
 | false=>
   simp only [hex,cond_false] at H ⊢
   cases hey:AWn y with
   | false=>
     simp only [hey,cond_false] at H ⊢
     exact GOp.swap hx hy hin H
   | true=>
     simp only [hey,cond_true] at H ⊢
     intro h2 E2
     have H1:GOp P B true ops x e h2 λe' h'=>GOp P B true ops y e' h' λe2 h3=>Ext h2 h3/\HI P B ops R e2 h3 (λb=>N b/\Off h2.size h3.size b) K:=
      Akb hex H (λhb=>hBx _ _ hb E2) λv hh=>hh h2 E2
     refine (GOp.swap hx hy hin H1).mono λv h3 hh=>?_
     obtain ⟨u,hu⟩:=Akc hex hh
     exact ⟨hu.1,(AZ6 hex hh).mono λv h' hk=>by obtain ⟨rfl,hk⟩:=hk;exact hk.2⟩
 | true=>
   simp only [hex,cond_true] at H ⊢
   have hey:AWn y=false:=by
    simp only [indep,Bool.and_eq_true] at hin
    unfold AWn at hex ⊢
    cases h1:kindOf x.op <;> cases h2:kindOf y.op <;> simp_all
   simp only [hey,cond_false] at H ⊢
   have key:∀ h2,Ext h h2->GOp P B true ops y e h2 λe1 h'=>GOp P B true ops x e1 h2 λe2 h3=>Ext h2 h3/\HI P B ops R e2 h3 (λb=>N b/\Off h2.size h3.size b) K:=by
    intro h2 E2
    have H1:GOp P B true ops x e h2 λe' h'=>GOp P B true ops y e' h' λe2 h3=>Ext h2 h3/\HI P B ops R e2 h3 (λb=>N b/\Off h2.size h3.size b) K:=
     (H h2 E2).mono λv h' hh=>(AZ6 hey hh.2).mono λv2 h3 hk=>by obtain ⟨rfl,hk⟩:=hk;exact ⟨hh.1,hk⟩
    refine (AZ6 hey<|GOp.swap hx hy hin H1).mono λv h' hh=>?_
    obtain ⟨rfl,hh⟩:=hh
    exact hh
   have k0:=key h<|Ext.refl h
   obtain ⟨v0,-⟩:=Akc hey k0
   have kk:GOp P B true ops y e h λe1 h'=>h'=h/\ ∀ h2,Ext h h2->GOp P B true ops x e1 h2 λe2 h3=>Ext h2 h3/\HI P B ops R e2 h3 (λb=>N b/\Off h2.size h3.size b) K:=by
    by_cases hw:Region.wanted y (ASn ops e)=true
    ·have k1:=k0
     unfold GOp at k1 ⊢
     rw [if_pos hw] at k1 ⊢
     unfold SOp at k1 ⊢
     rcases Aa1 hey with hk | hk
     ·simp only [hk] at k1 ⊢
      obtain ⟨v,a1,a2⟩:=k1
      refine ⟨v,a1,trivial,λh2 E2=>?_⟩
      have k2:=key h2 E2
      unfold GOp at k2
      rw [if_pos hw] at k2
      unfold SOp at k2
      simp only [hk] at k2
      obtain ⟨u,b1,b2⟩:=k2
      have e1:=a1<|AWu h
      rw [b1<|AWu h] at e1
      cases e1
      exact b2
     ·simp only [hk] at k1 ⊢
      obtain ⟨v,a0,a1,a2⟩:=k1
      refine ⟨v,a0,a1,trivial,λh2 E2=>?_⟩
      have k2:=key h2 E2
      unfold GOp at k2
      rw [if_pos hw] at k2
      unfold SOp at k2
      simp only [hk] at k2
      obtain ⟨u,b0,b1,b2⟩:=k2
      have e1:=a1 (AWu h) a0
      rw [b1 (AWu h) a0] at e1
      cases e1
      exact b2
    ·unfold GOp
     rw [if_neg hw]
     refine ⟨rfl,λh2 E2=>?_⟩
     have k2:=key h2 E2
     unfold GOp at k2
     rw [if_neg hw] at k2
     exact k2
   refine kk.mono λv h' hh=>?_
   obtain ⟨rfl,hh⟩:=hh
   exact hh
theorem HI.bubble (hBx:∀ h h',B h->Ext h h'->B h') {oi:Oper} (hi:ops[i]? =some oi) (hsi:ARa oi=true) (R1:List Nat):∀ {R2:List Nat} {e:Env} {h:AH8} {N:Nat->Prop},
 (∀ k∈R1,∃ ok,ops[k]? =some ok/\ARa ok=true/\indep true ops ok oi=true)->HI P B ops (R1 ++ i :: R2) e h N K->HI P B ops (i :: (R1 ++ R2)) e h N K:=by
 induction R1 with
 | nil=>intro R2 e h N _ H;exact H
 | cons k R1 ih=>
   intro R2 e h N hind H
   obtain ⟨ok,hok,hsk,hik⟩:=hind k<|List.mem_cons_self ..
   have H2:HI P B ops (k :: i :: (R1 ++ R2)) e h N K:=by
    simp only [List.cons_append] at H
    rw [HI] at H ⊢
    simp only [hok] at H ⊢
    cases he:AWn ok with
    | true=>simp only [he,cond_true] at H ⊢;exact λh1 E=>(H h1 E).mono λv h' hh=>⟨hh.1,ih (λk' hk'=>hind k'<|List.mem_cons_of_mem _ hk') hh.2⟩
    | false=>simp only [he,cond_false] at H ⊢;exact H.mono λv h' hh=>ih (λk' hk'=>hind k'<|List.mem_cons_of_mem _ hk') hh
   exact HI.swap hBx hok hi hsk hsi hik H2
theorem Axu:∀ (l:List Nat) {e:Env} {h:AH8} {N:Nat->Prop},HI P B ops l e h N K->LI P B true ops l e h λe' h'=>Ext h h'/\ ∃ N':Nat->Prop,(∀ b,N b->b < h.size->N' b)/\K e' h' N':=by
 intro l;induction l with
 | nil=>intro e h N H;exact ⟨Ext.refl h,N,λb hb _=>hb,H h<|Ext.refl h⟩
 | cons i l ih=>
   intro e h N H;simp only [HI] at H;simp only [LI];cases hoi:ops[i]? with
   | none=>simp only [hoi] at H
   | some o=>
     simp only [hoi] at H ⊢;cases he:AWn o with
     | true=>
       simp only [he,cond_true] at H;refine (H h<|Ext.refl h).mono λv h' hh=>?_;refine LI.mono (λe2 h2 hk=>?_)<|ih hh.2;obtain ⟨E2,N',hN,hk⟩:=hk;exact ⟨hh.1.trans E2,N',λb hb hlt=>hN b ⟨hb,.inl hlt⟩<|Nat.lt_of_lt_of_le hlt hh.1.1,hk⟩
     | false=>
       simp only [he,cond_false] at H;refine (AZ6 he H).mono λv h' hh=>?_;obtain ⟨rfl,hh⟩:=hh;exact ih hh
end
section
variable {P:Program} {ops:Array Oper} {B:AH8->Prop}
theorem Alx {n:Nat} (G:Nat->Prop) (hb:Ahe n ops=true) (hdep:∀ (j:Nat) (oj:Oper),ops[j]? =some oj-> ∀ ed∈oj.after,Region.binds .any ed=true->ed.on < j) (hpair:∀ (i j:Nat) (oi oj:Oper),G i->G j->i < j->ops[i]? =some oi->ops[j]? =some oj->(∃ n,reach ops n i j=true)∨indep st ops oi oj=true):∀ (fuel:Nat) (R:List Nat) (listed:Array Bool) (e:Env) (a:Act) (w:World) (K:Env->AH8->Prop),
 (∀ j∈R,G j)->R.length=fuel->LsF ops R listed->Rep n e a->LI P B st ops R e w.heap K->(∀ e' a' w',Rep n e' a'->Same w w'->K e' w'.heap->Q .normal a' w')->
 wpAny P .any ops Q fuel listed a w:=by
 intro fuel
 induction fuel with
 | zero=>
   intro R listed e a w K hG hlen L r H hK
   obtain rfl:R=[]:=List.length_eq_zero_iff.1 hlen
   refine ⟨?_,hK _ _ _ r (.refl w) H⟩
   refine List.eq_nil_iff_forall_not_mem.2 λj hj=>?_
   obtain ⟨hjl,oj,hoj,_⟩:=mem_ready.1 hj
   have:=(L.mem j).2 ⟨(Array.getElem?_eq_some_iff.1 hoj).1,hjl⟩
   cases this
 | succ fuel ih=>
   intro R listed e a w K hG hlen L r H hK
   constructor
   ·intro hr
    exfalso
    cases R with
    | nil=>simp at hlen
    | cons j R=>
      obtain ⟨hjs,hjl⟩:=(L.mem j).1 (List.mem_cons_self ..)
      obtain ⟨oj,hoj⟩:∃ oj,ops[j]? =some oj:=⟨ops[j],Array.getElem?_eq_getElem hjs⟩
      have:j∈Region.ready .any ops listed:=mem_ready.2 ⟨hjl,oj,hoj,λed hed hbd=>by
       have hlt:=hdep j oj hoj ed hed hbd
       cases hl:listed.getD ed.on false with
       | true=>rfl
       | false=>
         exfalso
         have hs:ed.on < ops.size:=Nat.lt_trans hlt hjs
         have hm:ed.on∈j :: R:=(L.mem ed.on).2 ⟨hs,by
          have h':ed.on < listed.size:=by rw [L.size];exact hs
          simp [h'] at hl ⊢;exact hl⟩
         rcases List.mem_cons.1 hm with he | he
         ·omega
         ·have:=(List.pairwise_cons.1 L.pw).1 _ he
          omega⟩
      rw [hr] at this
      cases this
   ·intro i hi
    obtain ⟨hil,oi,hoi,hall⟩:=mem_ready.1 hi
    have his:i < ops.size:=(Array.getElem?_eq_some_iff.1 hoi).1
    have hiR:i∈R:=(L.mem i).2 ⟨his,hil⟩
    obtain ⟨R1,R2,rfl⟩:=List.append_of_mem hiR
    obtain ⟨hdi,hsi⟩:=AYb hb hoi
    have hpw':=List.pairwise_append.1 L.pw
    have hbu:LI P B st ops (i :: (R1 ++ R2)) e w.heap K:=by
     refine LI.bubble hoi hsi R1 (λk hk=>?_) H
     have hki:k < i:=hpw'.2.2 k hk i<|List.mem_cons_self ..
     have hks:k < ops.size:=Nat.lt_trans hki his
     obtain ⟨ok,hok'⟩:∃ ok,ops[k]? =some ok:=⟨ops[k],Array.getElem?_eq_getElem hks⟩
     refine ⟨ok,hok',(AYb hb hok').2,?_⟩
     rcases hpair k i ok oi (hG k<|List.mem_append_left _ hk) (hG i hiR) hki hok' hoi with ⟨nre,hre⟩ | h
     ·exfalso
      have h1:listed.getD k false=true:=AWv (L:=λj=>listed.getD j false=true) L.cl nre k i oi hoi hall hre
      rw [L.notListed<|List.mem_append_left _ hk] at h1
      cases h1
     ·exact h
    simp only [LI,hoi] at hbu
    refine ATx hoi hdi r hbu λe' a' w' r' hs hk=>?_
    exact ih (R1 ++ R2) _ e' a' w' K (λj hj=>hG j (by rcases List.mem_append.1 hj with h | h;exact List.mem_append_left _ h;exact List.mem_append_right _<|List.mem_cons_of_mem _ h)) (by simp at hlen ⊢;omega) (L.step hoi hall) r' hk λe2 a2 w2 r2 s2 k2=>hK _ _ _ r2 (hs.trans s2) k2
structure Alv where
 d:Nat
 t:Nat
 z:List Value
def Afe (b:Nat):Value:= .pointer<|some ⟨b,0,none⟩
def setO:List Alv->List (Option Nat)->Env->Env
 | a :: A,some b :: bs,e=>(setO A bs e).set a.d (Afe b)
 | _ :: A,none :: bs,e=>setO A bs e
 | _,_,e=>e
theorem Au6:∀ (A:List Alv) (e:Env),setO A (List.replicate A.length none) e=e:=by
 intro A e
 induction A with
 | nil=>rfl
 | cons a A ih=>exact ih
theorem A1j {A:List Alv}:∀ {bs:List (Option Nat)} {e:Env} {t:Nat},(∀ a∈A,a.d≠t)->setO A bs e t=e t:=by
 induction A with
 | nil=>intro bs e t _;cases bs <;> rfl
 | cons a A ih=>
   intro bs e t h
   cases bs with
   | nil=>rfl
   | cons b bs=>
     cases b with
     | none=>exact ih λa ha=>h a (List.mem_cons_of_mem _ ha)
     | some b=>
       show (setO A bs e).set a.d (Afe b) t=e t
       rw [Env.set_other _ _ λhe=>h a (List.mem_cons_self ..) he.symm]
       exact ih λa ha=>h a<|List.mem_cons_of_mem _ ha
theorem Ao6 {A:List Alv}:∀ {bs:List (Option Nat)} {e:Env} {d:Option Nat} {v:Value},(∀ a∈A,d≠some a.d)->(setO A bs e).put d v=setO A bs (e.put d v):=by
 induction A with
 | nil=>intro bs e d v _;cases bs <;> rfl
 | cons a A ih=>
   intro bs e d v h
   cases bs with
   | nil=>rfl
   | cons b bs=>
     have ih':=ih (bs:=bs) (e:=e) (v:=v) λa ha=>h a<|List.mem_cons_of_mem _ ha
     cases b with
     | none=>exact ih'
     | some b=>
       show ((setO A bs e).set a.d (Afe b)).put d v=(setO A bs<|e.put d v).set a.d (Afe b)
       rw [<- ih']
       exact Env.put_comm (x:=some a.d) (y:=d) (setO A bs e) (Afe b) v (λk hk=>by cases hk;exact h a<|List.mem_cons_self ..)
theorem Axv {A:List Alv}:∀ {bs:List (Option Nat)} {e:Env} {q:Nat} {a:Alv} {b:Nat},(A.map Alv.d).Nodup->bs.length=A.length->A[q]? =some a->bs[q]? =some none->setO A (bs.set q<|some b) e=(setO A bs e).set a.d (Afe b):=by
 induction A with
 | nil=>intro bs e q a b _ _ h;cases h
 | cons c A ih=>
   intro bs e q a b hn hl ha hb
   cases bs with
   | nil=>cases hb
   | cons x bs=>
     cases q with
     | zero=>
       simp only [List.getElem?_cons_zero,Option.some.injEq] at ha hb
       subst ha;subst hb
       rfl
     | succ q=>
       simp only [List.getElem?_cons_succ] at ha hb
       simp only [List.map_cons,List.nodup_cons] at hn
       have ih':=ih (e:=e) (b:=b) hn.2 (by simpa using hl) ha hb
       cases x with
       | none=>exact ih'
       | some x=>
         show (setO A (bs.set q<|some b) e).set c.d (Afe x)=((setO A bs e).set c.d (Afe x)).set a.d (Afe b)
         rw [ih']
         have hne:a.d≠c.d:=λhe=>hn.1<|List.mem_map.2 ⟨a,List.mem_of_getElem? ha,he⟩
         exact Env.put_comm (x:=some a.d) (y:=some c.d) (setO A bs e) (Afe b) (Afe x) (λk hk he=>by cases hk;exact hne (Option.some.inj he).symm)
theorem Au7 {o:Oper} (hs:ARa o=true) {A:List Alv} (hA:∀ a∈A,a.d ∉ o.looksAt ops):∀ {bs:List (Option Nat)} {e:Env},execOp (setO A bs e).ev o=execOp e.ev o/\Region.wanted o (ASn ops<|setO A bs e)=Region.wanted o (ASn ops e):=by
 induction A with
 | nil=>intro bs e;cases bs <;> exact ⟨rfl,rfl⟩
 | cons a A ih=>
   intro bs e
   cases bs with
   | nil=>exact ⟨rfl,rfl⟩
   | cons b bs=>
     have ih':=ih (λa ha=>hA a<|List.mem_cons_of_mem _ ha) (bs:=bs) (e:=e)
     cases b with
     | none=>exact ih'
     | some b=>exact ⟨(Adv (ops:=ops) o hs (setO A bs e) (some a.d) (Afe b) (λk hk=>by cases hk;exact hA a<|List.mem_cons_self ..)).trans ih'.1,(Adw (ops:=ops) o (setO A bs e) (some a.d) (Afe b) (λk hk=>by cases hk;exact hA a<|List.mem_cons_self ..)).trans ih'.2⟩
def A4r (ops:Array Oper) (A:List Alv) (o:Oper):Prop:=(∀ a∈A,a.d ∉ o.looksAt ops)/\ ∀ a∈A,o.dst≠some a.d
theorem GOp.setO {st:Bool} {o:Oper} {A:List Alv} {bs:List (Option Nat)} {e:Env} {h:AH8} {K:Env->AH8->Prop} (hs:ARa o=true) (hf:A4r ops A o) (H:GOp P B st ops o e h K):GOp P B st ops o (setO A bs e) h λe2 h'=> ∃ e',e2=Go.QF.setO A bs e'/\K e' h':=by
 obtain ⟨h1,h2⟩:=Au7 hs hf.1 (bs:=bs) (e:=e);unfold GOp at H ⊢;rw [h2];split
 ·rename_i hw;rw [if_pos hw] at H;exact SOp.congr h1 (λv h' hk=>⟨_,Ao6 hf.2,hk⟩) H
 ·rename_i hw;rw [if_neg hw] at H;exact ⟨_,Ao6 hf.2,H⟩
theorem LI.setO {st:Bool} {A:List Alv} {bs:List (Option Nat)}:∀ {l:List Nat} {e:Env} {h:AH8} {K:Env->AH8->Prop},(∀ i∈l,∀ o,ops[i]? =some o->ARa o=true/\A4r ops A o)->LI P B st ops l e h K->LI P B st ops l (setO A bs e) h λe2 h'=> ∃ e',e2=Go.QF.setO A bs e'/\K e' h':=by
 intro l
 induction l with
 | nil=>intro e h K _ H;exact ⟨e,rfl,H⟩
 | cons i l ih=>
   intro e h K hl H
   simp only [LI] at H ⊢
   cases hoi:ops[i]? with
   | none=>simp only [hoi] at H;exact ih (λi hi=>hl i<|List.mem_cons_of_mem _ hi) H
   | some o=>
     simp only [hoi] at H
     obtain ⟨h1,h2⟩:=hl i (List.mem_cons_self ..) o hoi
     refine (GOp.setO h1 h2 H).mono λv h' hk=>?_
     obtain ⟨e',he,hk⟩:=hk
     rw [he]
     exact ih (λi hi=>hl i<|List.mem_cons_of_mem _ hi) hk
theorem Au8 {l1 l2:List Nat} {e:Env} (H:LI P B st ops l1 e h λe' h'=>LI P B st ops l2 e' h' K):LI P B st ops (l1 ++ l2) e h K:=by
 induction l1 generalizing e h with
 | nil=>exact H
 | cons i l ih=>
   simp only [LI,List.cons_append] at H ⊢
   cases hoi:ops[i]? with
   | none=>simp only [hoi] at H;exact ih H
   | some o=>simp only [hoi] at H;exact H.mono λv h' hk=>ih hk
def KA (A:List Alv) (h0:AH8) (G:List Nat->Env->AH8->Prop) (e:Env) (h:AH8) (N:Nat->Prop):Prop:=
 ∀ bl:List Nat,bl.length=A.length->bl.Nodup->(∀ (q:Nat) (b:Nat) (a:Alv),bl[q]? =some b->A[q]? =some a->ALu a.t h b a.z/\h0.size<=b/\N b)->G bl e h
theorem KA.anti {A:List Alv} {G:List Nat->Env->AH8->Prop} (e:Env) (h:AH8) (N N':Nat->Prop) (hN:∀ b,N' b->N b) (H:KA A h0 G e h N):KA A h0 G e h N':=
 λbl h1 h2 h3=>H bl h1 h2 λq b a hb ha=>let ⟨x,y,z⟩:=h3 q b a hb ha;⟨x,y,hN b z⟩
structure As8 (ops:Array Oper) (m:Nat) (A:List Alv):Prop where
 le:m + A.length<=ops.size
 dep:∀ (j:Nat) (oj:Oper),ops[j]? =some oj-> ∀ ed∈oj.after,Region.binds .any ed=true->ed.on < j
 pair:∀ (i j:Nat) (oi oj:Oper),(i < m∨m + A.length<=i)->(j < m∨m + A.length<=j)->i < j->ops[i]? =some oi->ops[j]? =some oj->(∃ n,reach ops n i j=true)∨indep true ops oi oj=true
 tail:∀ (i j:Nat) (oj:Oper),m<=i->i < m + A.length->m + A.length<=j->ops[j]? =some oj-> ∃ n,reach ops n i j=true
 far:∀ (j:Nat) (oj:Oper),j < m->ops[j]? =some oj->A4r ops A oj
 nd:(A.map Alv.d).Nodup
 al:∀ (q:Nat) (a:Alv),A[q]? =some a-> ∃ o,ops[m + q]? =some o/\o.dst=some a.d
def A1k (P:Program) (B:AH8->Prop) (ops:Array Oper) (m:Nat) (A:List Alv):Prop:=
 ∀ (q:Nat) (a:Alv) (o:Oper),A[q]? =some a->ops[m + q]? =some o-> ∀ (e:Env) (h:AH8),B h->GOp P B true ops o e h λe' h'=> ∃ b,e'=e.set a.d (Afe b)/\Ext h h'/\ALu a.t h' b a.z/\h.size<=b
theorem Axw {n m:Nat} {A:List Alv} {Kq:Env->AH8->Prop} (S:As8 ops m A) (hb:Ahe n ops=true) (hBx:∀ h h',B h->Ext h h'->B h') (hal:A1k P B ops m A) (hT:∀ j∈T,m + A.length<=j):
 ∀ (fuel:Nat) (Rp Ra:List Nat) (bs:List (Option Nat)) (listed:Array Bool) (e:Env) (a:Act) (w:World) (N:Nat->Prop),
 (∀ j∈Rp,j < m)->(∀ j∈Ra,m<=j/\j < m + A.length/\bs[j - m]? =some none)->(∀ q:Nat,bs[q]? =some none->m + q∈Ra)->bs.length=A.length->(Rp ++ (Ra ++ T)).length=fuel->LsF ops (Rp ++ (Ra ++ T)) listed->Rep n (setO A bs e) a->Ext h0 w.heap->B w.heap->
 (∀ (q b:Nat) (x:Alv),bs[q]? =some (some b)->A[q]? =some x->ALu x.t w.heap b x.z/\h0.size<=b/\N b)->(∀ q q' b:Nat,bs[q]? =some (some b)->bs[q']? =some (some b)->q=q')->(∀ b:Nat,w.heap.size<=b->N b)->
 HI P B ops Rp e w.heap N (KA A h0 λbl e' h'=>LI P B true ops T (setO A (bl.map some) e') h' Kq)->
 (∀ e' a' w',Rep n e' a'->Same w w'->Kq e' w'.heap->Q .normal a' w')->wpAny P .any ops Q fuel listed a w:=by
 intro fuel
 induction fuel with
 | zero=>
   intro Rp Ra bs listed e a w N hRp hRa hbsR hbl hlen L r hE hB hbox hdis hNn H hK
   have Ap:Rp ++ (Ra ++ T)=[]:=List.length_eq_zero_iff.1 hlen
   simp only [List.append_eq_nil_iff] at Ap
   obtain ⟨rfl,rfl,rfl⟩:=Ap
   refine Alx (B:=B) (st:=true) (λj=>j < m∨m + A.length<=j) hb S.dep S.pair 0 [] listed _ a w Kq (λj hj=>by cases hj) rfl L r ?_ hK
   obtain ⟨bl,rfl⟩:∃ bl:List Nat,bs=bl.map some:=by
    have:∀ bs:List (Option Nat),(∀ q:Nat,bs[q]? ≠some none)-> ∃ bl:List Nat,bs=bl.map some:=by
     intro bs
     induction bs with
     | nil=>intro _;exact ⟨[],rfl⟩
     | cons b bs ih=>
       intro h
       obtain ⟨bl,rfl⟩:=ih λq=>by have:=h<|q + 1;simpa using this
       cases b with
       | none=>exact absurd rfl (h 0)
       | some b=>exact ⟨b :: bl,rfl⟩
    exact this bs λq hq=>by have:=hbsR q hq;cases this
   refine H w.heap (Ext.refl _) bl (by simpa using hbl) ?_ λq b x hq hx=>hbox q b x (by simp [hq]) hx
   refine List.pairwise_iff_getElem.2 λi j hi hj hij he=>?_
   have h1:bl[i]? =some bl[i]:=List.getElem?_eq_getElem hi
   have h2:bl[j]? =some bl[i]:=by rw [he];exact List.getElem?_eq_getElem hj
   have:=hdis i j bl[i] (by simp [h1]) (by simp [h2])
   omega
 | succ fuel ih=>
   intro Rp Ra bs listed e a w N hRp hRa hbsR hbl hlen L r hE hB hbox hdis hNn H hK
   by_cases Aq:Ra=[]
   ·subst Aq
    obtain ⟨bl,rfl⟩:∃ bl:List Nat,bs=bl.map some:=by
     have:∀ bs:List (Option Nat),(∀ q:Nat,bs[q]? ≠some none)-> ∃ bl:List Nat,bs=bl.map some:=by
      intro bs
      induction bs with
      | nil=>intro _;exact ⟨[],rfl⟩
      | cons b bs ih=>
        intro h
        obtain ⟨bl,rfl⟩:=ih λq=>by have:=h<|q + 1;simpa using this
        cases b with
        | none=>exact absurd rfl (h 0)
        | some b=>exact ⟨b :: bl,rfl⟩
     exact this bs λq hq=>by have:=hbsR q hq;cases this
    have hnod:bl.Nodup:=by
     refine List.pairwise_iff_getElem.2 λi j hi hj hij he=>?_
     have h1:bl[i]? =some bl[i]:=List.getElem?_eq_getElem hi
     have h2:bl[j]? =some bl[i]:=by rw [he];exact List.getElem?_eq_getElem hj
     have:=hdis i j bl[i] (by simp [h1]) (by simp [h2])
     omega
    simp only [List.nil_append] at hlen L
    refine Alx (B:=B) (st:=true) (λj=>j < m∨m + A.length<=j) hb S.dep S.pair (fuel + 1) (Rp ++ T) listed _ a w Kq (λj hj=>?_) hlen L r ?_ hK
    ·rcases List.mem_append.1 hj with h | h
     ·exact .inl<|hRp j h
     ·exact .inr<|hT j h
    ·refine Au8 ?_
     have h1:=LI.setO (A:=A) (bs:=bl.map some) (λi hi o ho=>⟨(AYb hb ho).2,S.far i o (hRp i hi) ho⟩)<|Axu Rp H
     refine LI.mono (λe2 h2 hk=>?_) h1
     obtain ⟨e',rfl,E2,N',hN',hk⟩:=hk
     refine hk bl (by simpa using hbl) hnod λq b x hq hx=>?_
     obtain ⟨x1,x2,x3⟩:=hbox q b x (by simp [hq]) hx
     exact ⟨by unfold ALu;rw [E2.2 b x1.lt];exact x1,x2,hN' b x3 x1.lt⟩
   ·refine ⟨λhr=>?_,λi hi=>?_⟩
    ·exfalso
     cases hR:Rp ++ (Ra ++ T) with
     | nil=>rw [hR] at hlen;simp at hlen
     | cons j R=>
       rw [hR] at L
       obtain ⟨hjs,hjl⟩:=(L.mem j).1 (List.mem_cons_self ..)
       obtain ⟨oj,hoj⟩:∃ oj,ops[j]? =some oj:=⟨ops[j],Array.getElem?_eq_getElem hjs⟩
       have:j∈Region.ready .any ops listed:=mem_ready.2 ⟨hjl,oj,hoj,λed hed hbd=>by
        have hlt:=S.dep j oj hoj ed hed hbd
        cases hl:listed.getD ed.on false with
        | true=>rfl
        | false=>
          exfalso
          have hs:ed.on < ops.size:=Nat.lt_trans hlt hjs
          have hm:ed.on∈j :: R:=(L.mem ed.on).2 ⟨hs,by
           have h':ed.on < listed.size:=by rw [L.size];exact hs
           simp [h'] at hl ⊢;exact hl⟩
          rcases List.mem_cons.1 hm with he | he
          ·omega
          ·have:=(List.pairwise_cons.1 L.pw).1 _ he
           omega⟩
       rw [hr] at this
       cases this
    ·obtain ⟨hil,oi,hoi,hall⟩:=mem_ready.1 hi
     have his:i < ops.size:=(Array.getElem?_eq_some_iff.1 hoi).1
     obtain ⟨hdi,hsi⟩:=AYb hb hoi
     have hnl:∀ (k nre:Nat),k∈Rp ++ (Ra ++ T)->reach ops nre k i=true->False:=λk nre hk hre=>by
      have h1:listed.getD k false=true:=AWv (L:=λj=>listed.getD j false=true) L.cl nre k i oi hoi hall hre
      rw [L.notListed hk] at h1
      cases h1
     rcases List.mem_append.1 ((L.mem i).2 ⟨his,hil⟩) with hip | hit
     ·
       obtain ⟨R1,R2,rfl⟩:=List.append_of_mem hip
       have hpw':=List.pairwise_append.1 (List.pairwise_append.1 L.pw).1
       have hbu:HI P B ops (i :: (R1 ++ R2)) e w.heap N (KA A h0 λbl e' h'=>LI P B true ops T (setO A (bl.map some) e') h' Kq):=by
        refine HI.bubble hBx hoi hsi R1 (λk hk=>?_) H
        have hki:k < i:=hpw'.2.2 k hk i<|List.mem_cons_self ..
        have hks:k < ops.size:=Nat.lt_trans hki his
        obtain ⟨ok,hok'⟩:∃ ok,ops[k]? =some ok:=⟨ops[k],Array.getElem?_eq_getElem hks⟩
        refine ⟨ok,hok',(AYb hb hok').2,?_⟩
        rcases S.pair k i ok oi (.inl<|hRp k<|List.mem_append_left _ hk) (.inl<|hRp i hip) hki hok' hoi with ⟨nre,hre⟩ | h
        ·exact (hnl k nre (List.mem_append_left _<|List.mem_append_left _ hk) hre).elim
        ·exact h
       have hg:GOp P B true ops oi e w.heap λe' h'=>Ext w.heap h'/\HI P B ops (R1 ++ R2) e' h' (λb=>N b/\Off w.heap.size h'.size b) (KA A h0 λbl e' h'=>LI P B true ops T (setO A (bl.map some) e') h' Kq):=by
        simp only [HI,hoi] at hbu
        cases he:AWn oi with
        | true=>simp only [he,cond_true] at hbu;exact hbu w.heap (Ext.refl _)
        | false=>
          simp only [he,cond_false] at hbu
          refine (AZ6 he hbu).mono λv h' hk=>?_
          obtain ⟨rfl,hk⟩:=hk
          exact ⟨Ext.refl _,HI.anti KA.anti _ (λb hb=>hb.1) hk⟩
       refine ATx hoi hdi r (GOp.setO (bs:=bs) hsi (S.far i oi (hRp i hip) hoi) hg) λe' a' w' r' hs hk=>?_
       obtain ⟨e1,rfl,hE',hk⟩:=hk
       refine ih (R1 ++ R2) Ra bs _ e1 a' w' _ (λj hj=>hRp j (by rcases List.mem_append.1 hj with h | h;exact List.mem_append_left _ h;exact List.mem_append_right _<|List.mem_cons_of_mem _ h)) hRa hbsR hbl (by simp at hlen ⊢;omega) ?_ r' (hE.trans hE') (hBx _ _ hB hE') (λq b x hq hx=>?_) hdis (λb hb=>⟨hNn b<|Nat.le_trans hE'.1 hb,.inr hb⟩) hk λe2 a2 w2 r2 s2 k2=>hK _ _ _ r2 (hs.trans s2) k2
       ·have L2:LsF ops (R1 ++ i :: (R2 ++ (Ra ++ T))) listed:=by simpa using L
        have:=L2.step hoi hall
        simpa using this
       ·obtain ⟨x1,x2,x3⟩:=hbox q b x hq hx
        exact ⟨by unfold ALu;rw [hE'.2 b x1.lt];exact x1,x2,x3,.inl x1.lt⟩
     ·rcases List.mem_append.1 hit with hia | hiT
      ·
        obtain ⟨A1,A2,rfl⟩:=List.append_of_mem hia
        obtain ⟨Au,Av,hbq⟩:=hRa i hia
        obtain ⟨x,hx⟩:∃ x,A[i - m]? =some x:=⟨A[i - m]'AHx,List.getElem?_eq_getElem AHx⟩
        have hoi':ops[m + (i - m)]? =some oi:=by rw [show m + (i - m)=i by omega];exact hoi
        have hg:=hal (i - m) x oi hx hoi' (setO A bs e) w.heap hB
        refine ATx hoi hdi r hg λe' a' w' r' hs hk=>?_
        obtain ⟨b,rfl,hE',hbx,hbh⟩:=hk
        rw [<- Axv S.nd hbl hx hbq] at r'
        have hpwA:=List.pairwise_append.1 (List.pairwise_append.1 (List.pairwise_append.1 L.pw).2.1).1
        have hlq:i - m < bs.length:=by omega
        refine ih Rp (A1 ++ A2) (bs.set (i - m)<|some b) _ e a' w' N hRp (λj hj=>?_) (λq hq=>?_) (by simpa using hbl) (by simp at hlen ⊢;omega) ?_ r' (hE.trans hE') (hBx _ _ hB hE') (λq c y hq hy=>?_) (λq q' c hq hq'=>?_) (λc hc=>hNn c<|Nat.le_trans hE'.1 hc) (HI.ext hBx _ hE' H) λe2 a2 w2 r2 s2 k2=>hK _ _ _ r2 (hs.trans s2) k2
        ·have hj':j∈A1 ++ i :: A2:=by
          rcases List.mem_append.1 hj with h | h
          ·exact List.mem_append_left _ h
          ·exact List.mem_append_right _<|List.mem_cons_of_mem _ h
         obtain ⟨j1,j2,j3⟩:=hRa j hj'
         have hne:i≠j:=by
          rintro rfl
          rcases List.mem_append.1 hj with h | h
          ·have:=hpwA.2.2 i h i<|List.mem_cons_self ..;omega
          ·have:=(List.pairwise_cons.1 hpwA.2.1).1 i h;omega
         exact ⟨j1,j2,by rw [List.getElem?_set_ne AHx];exact j3⟩
        ·by_cases hqi:i - m=q
         ·subst hqi;rw [List.getElem?_set_self hlq] at hq;cases hq
         ·rw [List.getElem?_set_ne hqi] at hq
          have:=hbsR q hq
          rcases List.mem_append.1 this with h | h
          ·exact List.mem_append_left _ h
          ·rcases List.mem_cons.1 h with h | h
           ·omega
           ·exact List.mem_append_right _ h
        ·have L2:LsF ops ((Rp ++ A1) ++ i :: (A2 ++ T)) listed:=by simpa using L
         have:=L2.step hoi hall
         simpa using this
        ·by_cases hqi:i - m=q
         ·subst hqi
          rw [List.getElem?_set_self hlq] at hq
          cases hq
          rw [hx] at hy;cases hy
          exact ⟨hbx,Nat.le_trans hE.1 hbh,hNn b hbh⟩
         ·rw [List.getElem?_set_ne hqi] at hq
          obtain ⟨x1,x2,x3⟩:=hbox q c y hq hy
          exact ⟨by unfold ALu;rw [hE'.2 c x1.lt];exact x1,x2,x3⟩
        ·have old:∀ {q:Nat},bs[q]? =some (some c)->c < w.heap.size:=λ{q} hq=>by
          have hql:q < A.length:=by rw [<- hbl];exact (List.getElem?_eq_some_iff.1 hq).1
          exact (hbox q c A[q] hq<|List.getElem?_eq_getElem hql).1.lt
         by_cases hqi:i - m=q
         ·by_cases hqi':i - m=q'
          ·omega
          ·subst hqi
           rw [List.getElem?_set_self hlq] at hq
           rw [List.getElem?_set_ne hqi'] at hq'
           cases hq
           have:=old hq'
           omega
         ·rw [List.getElem?_set_ne hqi] at hq
          by_cases hqi':i - m=q'
          ·subst hqi'
           rw [List.getElem?_set_self hlq] at hq'
           cases hq'
           have:=old hq
           omega
          ·rw [List.getElem?_set_ne hqi'] at hq'
           exact hdis q q' c hq hq'
      ·
        exfalso
        cases hA:Ra with
        | nil=>exact Aq hA
        | cons j Ra'=>
          have hj:j∈Ra:=by rw [hA];exact List.mem_cons_self ..
          obtain ⟨Au,Av,_⟩:=hRa j hj
          obtain ⟨nre,hre⟩:=S.tail j i oi Au Av (hT i hiT) hoi
          exact hnl j nre (List.mem_append_right _<|List.mem_append_left _ hj) hre
end
end Go.QF
variable {A:List Go.QF.Alv}
namespace Go.QF
section
variable {P:Program} {ops:Array Oper} {B:AH8->Prop}
def isA (m k i:Nat):Bool:=Nat.ble m i && Nat.blt i (m + k)
def Axx (ops:Array Oper) (m:Nat) (ds:List Nat):Bool:=
 Nat.ble (m + ds.length) ops.size && (decide ds.Nodup && (List.range ds.length).all λq=>match ops[m + q]?,ds[q]? with | some o,some d=>o.dst == some d | _,_=>false) && (List.range ops.size).all λj=>match ops[j]? with
  | none=>false
  | some oj=>oj.after.all (λed=> !Region.binds .any ed || Nat.blt ed.on j) && (!Nat.blt j m || ds.all λd=> !(oj.looksAt ops).contains d && oj.dst != some d) &&
    (List.range j).all λi=>match ops[i]? with
      | none=>false
      | some oi=>match isA m ds.length i,isA m ds.length j with
        | false,false=>ahead ops i j || indep true ops oi oj
        | true,false=>ahead ops i j
        | _,true=>true
theorem Ao7 {m k:Nat}:(isA m k i=true↔m<=i/\i < m + k):=by
 unfold isA;rw [Bool.and_eq_true];constructor
 ·rintro ⟨h1,h2⟩;exact ⟨Nat.le_of_ble_eq_true h1,Axm h2⟩
 ·rintro ⟨h1,h2⟩;exact ⟨Nat.ble_eq_true_of_le h1,Nat.ble_eq_true_of_le h2⟩
theorem Ahr {m k:Nat} (h:i < m∨m + k<=i):isA m k i=false:=by
 cases hh:isA m k i with
 | false=>rfl
 | true=>have:=Ao7.1 hh;omega
theorem Au9 {m:Nat} (H:Axx ops m (A.map Alv.d)=true):As8 ops m A:=by
 unfold Axx at H;rw [Bool.and_eq_true,Bool.and_eq_true] at H;obtain ⟨⟨h0,h1⟩,H⟩:=H;rw [Bool.and_eq_true] at h1;have h0:=Nat.le_of_ble_eq_true h0;rw [List.length_map] at h0 H
 have key:∀ {j:Nat} {oj:Oper},ops[j]? =some oj->(oj.after.all (λed=> !Region.binds .any ed || Nat.blt ed.on j)=true/\(!Nat.blt j m || (A.map Alv.d).all λd=> !(oj.looksAt ops).contains d && oj.dst != some d)=true)/\
  ((List.range j).all λi=>match ops[i]? with
    | none=>false
    | some oi=>match isA m A.length i,isA m A.length j with
      | false,false=>ahead ops i j || indep true ops oi oj
      | true,false=>ahead ops i j
      | _,true=>true)=true:=by
  intro j oj hj
  have hlt:j < ops.size:=(Array.getElem?_eq_some_iff.1 hj).1
  have H:=List.all_eq_true.1 H j<|List.mem_range.2 hlt
  simp only [hj,Bool.and_eq_true] at H
  exact H
 refine ⟨h0,λj oj hj ed hed hbd=>?_,λi j oi oj hi hj hij hoi hoj=>?_,λi j oj Ae Af hj hoj=>?_,λj oj hj hoj=>?_,of_decide_eq_true h1.1,λq a ha=>?_⟩
 ·have:=Array.all_eq_true_iff_forall_mem.1 (key hj).1.1 ed hed;rw [hbd] at this;exact Axm (by simpa using this)
 ·have:=List.all_eq_true.1 (key hoj).2 i<|List.mem_range.2 hij;simp only [hoi,Ahr hi,Ahr hj,Bool.or_eq_true] at this;rcases this with h | h
  ·exact .inl<|AYa h
  ·exact .inr h
 ·have hij:i < j:=by omega
  have hs:i < ops.size:=Nat.lt_trans hij (Array.getElem?_eq_some_iff.1 hoj).1;have:=List.all_eq_true.1 (key hoj).2 i<|List.mem_range.2 hij;simp only [Array.getElem?_eq_getElem hs,Ao7.2 ⟨Ae,Af⟩,Ahr<|.inr hj] at this;exact AYa this
 ·have:=(key hoj).1.2;have hb:Nat.blt j m=true:=Nat.ble_eq_true_of_le hj;rw [hb,Bool.not_true,Bool.false_or] at this
  have h2:∀ a∈A,a.d ∉ oj.looksAt ops/\oj.dst≠some a.d:=λa ha=>by
   have:=List.all_eq_true.1 this a.d<|List.mem_map.2 ⟨a,ha,rfl⟩
   simpa using this
  exact ⟨λa ha=>(h2 a ha).1,λa ha=>(h2 a ha).2⟩
 ·have hq:q < A.length:=(List.getElem?_eq_some_iff.1 ha).1;have h2:=List.all_eq_true.1 h1.2 q<|List.mem_range.2 (by simpa using hq);have h3:ops[m + q]? =some (ops[m + q]'AHx):=Array.getElem?_eq_getElem AHx;simp only [h3,List.getElem?_map,ha,Option.map_some,beq_iff_eq] at h2;exact ⟨_,h3,h2⟩
variable {Q:Exit->Env->AH8->Prop} {e:Env} {h:AH8}
theorem Acx {id:Nat} {l:List Oper} (m:Nat) (A:List Alv) (hBx:∀ h h',B h->Ext h h'->B h') (hok:Axx l.toArray m (A.map Alv.d)=true) (hB:B h) (hal:A1k P B l.toArray m A) (H:HRf P B l.toArray (l.take m) e h (λ_=>True) (KA A h λbl e' h'=>RL P B true l.toArray (l.drop<|m + A.length) (setO A (bl.map some) e') h'<|Q .normal)):W P (.region id l.toArray true) Q e h:=by
 intro hmx n id a w Q' hb r hw hQ;subst hw;have S:=Au9 hok;have hle:=S.le;simp only [List.size_toArray] at hle;have hsz:l.toArray.size=l.length:=by simp
 have Ad:∀ (s n:Nat),s + n<=l.length->(List.range' s n).map (λi=>l.toArray[i]?)=((l.drop s).take n).map some:=by
  intro s n hn
  apply List.ext_getElem?
  intro k
  simp only [List.getElem?_map,List.getElem?_take,List.getElem?_drop]
  by_cases hk:k < n
  ·rw [List.getElem?_range' hk,if_pos hk]
   have:s + k < l.length:=by omega
   simp [this]
  ·rw [if_neg hk,List.getElem?_eq_none (by simp;omega)]
   rfl
 refine wp_region_draw λt=>?_;simp only [Region.schedule,hmx,Bool.true_or,if_true]
 have hs:List.range l.toArray.size=List.range m ++ (List.range' m A.length ++ List.range' (m + A.length) (l.length - (m + A.length))):=by
  rw [hsz,List.range_eq_range',List.range_eq_range']
  rw [List.range'_append_1]
  have:List.range' m (A.length + (l.length - (m + A.length)))=List.range' (0 + m) (A.length + (l.length - (m + A.length))):=by rw [Nat.zero_add]
  rw [this,List.range'_append_1]
  congr 1
  omega
 have htl:((l.drop<|m + A.length).take (l.length - (m + A.length)))=l.drop (m + A.length):=List.take_of_length_le AI9
 have Hi:HI P B l.toArray (List.range m) e w.heap (λ_=>True) (KA A w.heap λbl e' h'=>LI P B true l.toArray (List.range' (m + A.length)<|l.length - (m + A.length)) (setO A (bl.map some) e') h' λe2 h2=>Q .normal e2 h2/\ ∀ t,(∀ o∈l,o.dst≠some t)->e2 t=e t):=by
  refine Axt (List.range m) (l.take m) (by rw [List.range_eq_range'];have:=Ad 0 m AHx;simpa using this) e w.heap _ ?_
  have frame:∀ (L:List Oper) (e:Env) (h:AH8) (N:Nat->Prop) (K K':Env->AH8->(Nat->Prop)->Prop),(∀ e1 h N,(∀ t,(∀ o∈L,o.dst≠some t)->e1 t=e t)->K e1 h N->K' e1 h N)->HRf P B l.toArray L e h N K->HRf P B l.toArray L e h N K':=by
   intro L
   induction L with
   | nil=>intro e h N K K' hK H h' E;exact hK _ _ _ (λt _=>rfl) (H h' E)
   | cons o L ih=>
     intro e h N K K' hK H
     have put:∀ v t,(∀ o'∈o :: L,o'.dst≠some t)->e.put o.dst v t=e t:=λv t ht=>by
      cases hd:o.dst with
      | none=>rfl
      | some d=>exact Env.set_other _ _ λhe=>ht o (List.mem_cons_self ..) (by rw [hd,he])
     simp only [HRf] at H ⊢
     cases he:AWn o with
     | true=>simp only [he,cond_true] at H ⊢;exact λh1 E=>(H h1 E).mono λv h' hh=>⟨hh.1,ih _ _ _ _ _ (λe1 h2 N2 hf hk=>hK _ _ _ (λt ht=>(hf t λo' ho'=>ht o'<|List.mem_cons_of_mem _ ho').trans (put v t ht)) hk) hh.2⟩
     | false=>simp only [he,cond_false] at H ⊢;exact H.mono λv h' hh=>ih _ _ _ _ _ (λe1 h2 N2 hf hk=>hK _ _ _ (λt ht=>(hf t λo' ho'=>ht o'<|List.mem_cons_of_mem _ ho').trans (put v t ht)) hk) hh
  refine frame _ _ _ _ _ _ (λe1 h1 N1 hf hk bl b1 b2 b3=>?_) H
  refine Ahn _ (l.drop<|m + A.length) ?_ _ _<|RL.mono (λe2 h2 hq=>⟨hq.1,λt ht=>?_⟩)<|RL.frame0<|hk bl b1 b2 b3
  ·rw [Ad _ _ AHx,htl]
  ·rw [hq.2 t λo ho=>ht o<|List.mem_of_mem_drop ho,A1j,hf t λo ho=>ht o<|List.mem_of_mem_take ho]
   intro x hx he
   obtain ⟨q,Aj⟩:=List.getElem?_of_mem hx
   obtain ⟨o,ho,hd⟩:=S.al q x Aj
   exact ht o (List.mem_of_getElem?<|by simpa using ho) (by rw [hd,he])
 refine wpAny_sound l.toArray.size t _ a _ (Axw (B:=B) (T:=List.range' (m + A.length)<|l.length - (m + A.length)) S hb hBx hal (λj hj=>(List.mem_range'_1.1 hj).1) l.toArray.size (List.range m) (List.range' m A.length) (List.replicate A.length none) (Array.replicate l.toArray.size false) e a { w with drawn:=w.drawn + 1 } (λ_=>True) (λj hj=>List.mem_range.1 hj)
  (λj hj=>by
    have:=List.mem_range'_1.1 hj
    exact ⟨this.1,this.2,by rw [List.getElem?_replicate,if_pos AHx]⟩)
  (λq hq=>by
    rw [List.getElem?_replicate] at hq
    split at hq
    ·exact List.mem_range'_1.2 ⟨AHx,AHx⟩
    ·cases hq)
  AI9 (by rw [<- hs];simp) (by rw [<- hs];exact Au1 l.toArray) (by rw [Au6];exact r) (Ext.refl _) hB
  (λq b x hq hx=>by rw [List.getElem?_replicate] at hq;split at hq <;> cases hq) (λq q' b hq=>by rw [List.getElem?_replicate] at hq;split at hq <;> cases hq) (λb _=>trivial) Hi
  (λe' a' w' r' s k=>hQ e' a' w' r' ⟨s.os,s.tape,s.output⟩ k.1 λt ht=>k.2 t λo ho=>ht o<|by simpa using ho))
variable {K:Env->AH8->(Nat->Prop)->Prop} {N:Nat->Prop}
theorem h_l {o:Oper} {l:List Oper} (hl:AWn o=false) (H:RL P B true ops [o] e h λe' h'=>HRf P B ops l e' h' N K):HRf P B ops (o :: l) e h N K:=by
 simp only [HRf,hl,cond_false];exact H
theorem h_e {o:Oper} {l:List Oper} (hl:AWn o=true) (H:∀ h1,Ext h h1->RL P B true ops [o] e h1 λe' h'=>Ext h1 h'/\HRf P B ops l e' h' (λb=>N b/\Off h1.size h'.size b) K):HRf P B ops (o :: l) e h N K:=by
 simp only [HRf,hl,cond_true];exact H
theorem Akd (H:∀ h1,Ext h h1->K e h1 N):HRf P B ops [] e h N K:=H
theorem A1l {a:Alv} {G:List Nat->Env->AH8->Prop} (H:∀ b,ALu a.t h b a.z->h0.size<=b->N b->G [b] e h):KA [a] h0 G e h N:=by
 intro bl hl hn hb
 match bl,hl with
 | [b],_=>
   obtain ⟨h1,h2,h3⟩:=hb 0 b a rfl rfl
   exact H b h1 h2 h3
theorem A4s {a c:Alv} {G:List Nat->Env->AH8->Prop} (H:∀ b d,ALu a.t h b a.z->ALu c.t h d c.z->b≠d->h0.size<=b->h0.size<=d->N b->N d->G [b,d] e h):KA [a,c] h0 G e h N:=by
 intro bl hl hn hb
 match bl,hl with
 | [b,d],_=>
   obtain ⟨h1,h2,h3⟩:=hb 0 b a rfl rfl
   obtain ⟨g1,g2,g3⟩:=hb 1 d c rfl rfl
   exact H b d h1 g1 (λhe=>by simp [he] at hn) h2 g2 h3 g3
theorem Arf {d:Nat} {z:Value} {pos:String} {af:Array Edge} {l:List Value} (hz:ZeT P t z bytes) (hl:z.cells=l.toArray) (hBx:∀ h h',B h->Ext h h'->B h') (e:Env) (h:AH8) (hb:B h):GOp P B true ops ⟨some d,.alloc t,ty,pos,af,none⟩ e h λe' h'=> ∃ b,e'=e.set d (Afe b)/\Ext h h'/\ALu t h' b l/\h.size<=b:=
 Agl (rest:=[]) (K:=λe' h'=> ∃ b,e'=e.set d (Afe b)/\Ext h h'/\ALu t h' b l/\h.size<=b) l hz hl hb (λh' E=>hBx _ _ hb E) λb h' hx E S=>⟨b,rfl,E,hx,(S.lo 0 rfl b AI9).1⟩
theorem Am8 {m:Nat} {a:Alv} {pos:String} {af:Array Edge} {z:Value} (ho:ops[m]? =some ⟨some a.d,.alloc a.t,ty,pos,af,none⟩) (hz:ZeT P a.t z bytes) (hl:z.cells=a.z.toArray) (hBx:∀ h h',B h->Ext h h'->B h'):A1k P B ops m [a]:=by
 intro q x o hq hoq e h hb
 match q,hq with
 | 0,hq=>
   cases hq
   rw [Nat.add_zero,ho] at hoq
   cases hoq
   exact Arf hz hl hBx e h hb
theorem Arh {m:Nat} {a c:Alv} {ty':TypeId} {pos pos':String} {af af':Array Edge} {bytes':Nat} {z z':Value} (ho:ops[m]? =some ⟨some a.d,.alloc a.t,ty,pos,af,none⟩) (ho':ops[m + 1]? =some ⟨some c.d,.alloc c.t,ty',pos',af',none⟩) (hz:ZeT P a.t z bytes) (hl:z.cells=a.z.toArray) (hz':ZeT P c.t z' bytes') (hl':z'.cells=c.z.toArray) (hBx:∀ h h',B h->Ext h h'->B h'):A1k P B ops m [a,c]:=by
 intro q x o hq hoq e h hb
 match q,hq with
 | 0,hq=>
   cases hq
   rw [Nat.add_zero,ho] at hoq
   cases hoq
   exact Arf hz hl hBx e h hb
 | 1,hq=>
   cases hq
   rw [ho'] at hoq
   cases hoq
   exact Arf hz' hl' hBx e h hb
theorem Ari {h:AH8} {b d:Nat} (h1:h.size<=b) (h2:h.size<=d) (h3:b < h'.size) (h4:d < h'.size) (hne:b≠d):Sp h' h.size [[b],[d]]:=⟨by simp [hne],λx hx=>by simp at hx;omega⟩
end
def Ais (h:AH8) (v:Value) (n d:Int):Prop:= ∃ c1 c2,v= .agg (c1 ++ c2).toArray/\cZ.rep h n c1/\cZ.rep h d c2
theorem AKp {n:Int} (H1:cZ.rep h n c1) (H2:cZ.rep h' d c2):(c1 ++ c2).length=4:=by
 rw [List.length_append,cZ.klen H1,cZ.klen H2];rfl
theorem AUy {n:Int} (H1:cZ.rep h n c1) (H2:cZ.rep h' d c2):∀ u∈c1 ++ c2,isOne u=true:=λu hu=>
 (List.mem_append.1 hu).elim (cZ.one H1 u) (cZ.one H2 u)
theorem ALu.aggL {b:Nat} {l l2:List Value} (H:ALu t h b (l ++ l2)):∀ i u,l[i]? =some u->AM6 h ((⟨b,0,none⟩:Addr).add i)=some u:=by
 intro i u hu;refine H.agg i u ?_;grind
theorem ALu.aggR {b:Nat} {l l2:List Value} (H:ALu t h b (l ++ l2)) (hl:l.length=2):∀ i u,l2[i]? =some u->AM6 h ((⟨b,2,none⟩:Addr).add i)=some u:=by
 intro i u hu;have h1:=H.cell (i:=2 + i) (u:=u) (by grind);rw [AN0];exact h1
theorem Ao8 {z:Int} {cs:List Value} (H:cZ.rep h z cs):∃ b a n c,cs=[.bool b,.slice a n c]:=by
 obtain ⟨hl,n,s,L,h1,h2,h3⟩:=H;obtain ⟨a,m,c,rfl,_⟩:=h2.cap;grind
end Go.QF
namespace Go.Proofs.YtegoafpaljeobaaGreatDoor
theorem AOu:AgT Tryz.prog 143 4:=Afu Tryz.underlying143 rfl AIb
theorem AYz:ZeT Tryz.prog 143 (.agg #[.bool false,.slice none 0 0,.bool false,.slice none 0 0]) 64:=AZv AIb
theorem Ai6:FdT Tryz.prog 143 0 0 81:=⟨_,_,Tryz.underlying143,rfl,rfl,rfl⟩
theorem Aew:FdT Tryz.prog 143 1 2 81:=⟨_,_,Tryz.underlying143,rfl,rfl,rfl⟩
theorem Arj (w:World):(Instr.build 143 #[]).run Tryz.prog w= .ok (.agg #[.bool false,.slice none 0 0,.bool false,.slice none 0 0]) w:=by kernel_rfl
theorem Ark (b b':Bool) (a a':Option Addr) (n n' c c':Nat) (w:World):(Instr.build 143 #[(0,.agg #[.bool b,.slice a n c]),(1,.agg #[.bool b',.slice a' n' c'])]).run Tryz.prog w= .ok (.agg #[.bool b,.slice a n c,.bool b',.slice a' n' c']) w:=by kernel_rfl
theorem Aex {n:Int} (H1:cZ.rep h n c1) (H2:cZ.rep h' d c2) (w:World):(Instr.build 143 #[(0,.agg c1.toArray),(1,.agg c2.toArray)]).run Tryz.prog w= .ok (.agg (c1 ++ c2).toArray) w:=by
 obtain ⟨b,a,n,c,rfl⟩:=Ao8 H1;obtain ⟨b',a',n',c',rfl⟩:=Ao8 H2;exact Ark _ _ _ _ _ _ _ _ w
structure Asr where
 F:List Nat
 P:AH8->Prop
 up:∀ {G:List Nat} {h h':AH8},UpT G h h'->(∀ b∈F,b ∉ G)->P h->P h'
def aZ (cs:List Value) (x:Int):Asr:=⟨[],λh=>cZ.rep h x cs,λU _ H=>cZ.upT H U⟩
def aB (t b:Nat) (l:List Value):Asr:=⟨[b],λh=>ALu t h b l,λU d H=>H.upT U d⟩
def aO {α:Type} (c:Cod α) (el:Nat) (F:List Nat) (v:Value) (x:List α):Asr:=⟨F,λh=>OwC c el h F v x,λU d H=>H.upT U d⟩
def aO2 {α:Type} (c:Cod α) (er el:Nat) (F:List Nat) (Gs:List (List Nat)) (rs:List Value) (v:Value) (x:List (List α)):Asr:=⟨F,λh=>ALl c er el h F Gs rs v x,λU d H=>H.upT U d⟩
def aC (p:Prop):Asr:=⟨[],λ_=>p,λ_ _ H=>H⟩
def Aea (h:AH8):List Asr->Prop
 | []=>True
 | a :: l=>a.P h/\Aea h l
def fps:List Asr->List (List Nat)
 | []=>[]
 | a :: l=>a.F :: fps l
def AS0:List Asr->Nat->Asr
 | [],_=>aC True
 | a :: _,0=>a
 | _ :: l,i + 1=>AS0 l i
def APr (l:List Asr):List Nat->List Asr
 | []=>[]
 | i :: is=>AS0 l i :: APr l is
theorem A1m (l m:List Asr):fps (l ++ m)=fps l ++ fps m:=by
 induction l with
 | nil=>rfl
 | cons a l ih=>simp [fps,ih]
theorem AWe {l:List Asr} {a:Asr} (h:l[i]? =some a):(fps l)[i]? =some a.F:=by
 induction l generalizing i with
 | nil=>simp at h
 | cons b l ih=>
   cases i with
   | zero=>simp at h;subst h;rfl
   | succ i=>exact ih (by simpa using h)
theorem Agr {l:List Asr} {a:Asr}:fps (l.set i a)=(fps l).set i a.F:=by
 induction l generalizing i with
 | nil=>rfl
 | cons b l ih=>
   cases i with
   | zero=>rfl
   | succ i=>simp [fps,ih]
theorem A1n (l:List Asr) (i:Nat):(AS0 l i).F=((fps l)[i]?).getD []:=by
 induction l generalizing i with
 | nil=>rfl
 | cons a l ih=>
   cases i with
   | zero=>rfl
   | succ i=>exact ih i
theorem A1o (l:List Asr) (is:List Nat):fps (APr l is)=is.map λi=>((fps l)[i]?).getD []:=by
 induction is with
 | nil=>rfl
 | cons i is ih=>simp [APr,fps,ih,A1n]
theorem AW7 {l:List Asr} (H:Aea h l) {a:Asr} (e:l[i]? =some a):a.P h:=by
 induction l generalizing i with
 | nil=>simp at e
 | cons b l ih=>
   cases i with
   | zero=>simp at e;subst e;exact H.1
   | succ i=>exact ih H.2 (by simpa using e)
theorem Axy {l:List Asr} (H:Aea h l) (i:Nat):(AS0 l i).P h:=by
 induction l generalizing i with
 | nil=>exact trivial
 | cons b l ih=>
   cases i with
   | zero=>exact H.1
   | succ i=>exact ih H.2 i
theorem Axz {l m:List Asr} (H:Aea h l) (K:Aea h m):Aea h (l ++ m):=by
 induction l with
 | nil=>exact K
 | cons b l ih=>exact ⟨H.1,ih H.2⟩
theorem As9 {l:List Asr} (H:Aea h l) (U:UpT G h h') (d:∀ F∈fps l,∀ b∈F,b ∉ G):Aea h' l:=by
 induction l with
 | nil=>exact trivial
 | cons b l ih=>exact ⟨b.up U (d _<|by simp [fps]) H.1,ih H.2 λF hF=>d F<|by simp [fps,hF]⟩
theorem Ao9 {l:List Asr} {a a':Asr} {lo:Nat} (H:Aea h l) (S:Sp h lo (fps l)) (e:l[i]? =some a) (U:UpT a.F h h') (Ha:a'.P h'):Aea h' (l.set i a'):=by
 have key:∀ (m:List Asr) (q:Nat),(∀ j x,m[j]? =some x->j≠q-> ∀ b∈x.F,b ∉ a.F)->Aea h m->Aea h' (m.set q a'):=by
  intro m
  induction m with
  | nil=>intro q _ _;exact trivial
  | cons x m ih=>
    intro q hd hm
    cases q with
    | zero=>
      refine ⟨Ha,As9 hm.2 U λF hF b hb=>?_⟩
      have:∃ (j:Nat) (y:Asr),m[j]? =some y/\y.F=F:=by
       clear ih hd hm e
       induction m with
       | nil=>simp [fps] at hF
       | cons y m ih=>
         simp only [fps,List.mem_cons] at hF
         rcases hF with rfl | hF
         ·exact ⟨0,y,rfl,rfl⟩
         ·obtain ⟨j,z,h1,h2⟩:=ih hF
          exact ⟨j + 1,z,by simpa using h1,h2⟩
      obtain ⟨j,y,h1,rfl⟩:=this
      exact hd (j + 1) y (by simpa using h1) AHx b hb
    | succ q=>
      refine ⟨x.up U (hd 0 x rfl AHx) hm.1,ih q (λj y hj hn=>hd (j + 1) y (by simpa using hj) AHx) hm.2⟩
 exact key l i (λj x hj hn=>S.dj j i (AWe hj) (AWe e) hn) H
theorem Aly {l:List Asr} (H:Aea h l) (j:Nat):Aea h (l.set j<|aC True):=by
 induction l generalizing j with
 | nil=>exact trivial
 | cons a l ih=>
   cases j with
   | zero=>exact ⟨trivial,H.2⟩
   | succ j=>exact ⟨H.1,ih H.2 j⟩
theorem _root_.Go.QF.Sp.appF {lo:Nat} {Fs Ks:List (List Nat)} (S:Sp h lo Fs) (S':Sp h' h.size Ks) (hs:h.size<=h'.size) (hl:lo<=h.size):Sp h' lo (Ks ++ Fs):=by
 have A:=S.app S' hs hl;refine ⟨?_,λb hb=>A.2 b<|by grind⟩;have:=A.1;grind
theorem _root_.Go.QF.Sp.put2 {lo:Nat} {Fs:List (List Nat)} (S:Sp h lo Fs) (i j:Nat) (hi:Fs[i]? =some F) (hj:Fs[j]? =some R) (hij:i≠j) (hn:F'.Nodup) (hs:h.size<=h'.size) (hl:lo<=h.size) (hF:∀ x∈F',x < h'.size) (hsub:∀ x∈F',x∈F∨x∈R∨h.size<=x):Sp h' lo ((Fs.set j []).set i F'):=by
 have S1:=S.put j hj List.nodup_nil (Nat.le_refl _) hl (λx hx=>by simp at hx) (λx hx=>by simp at hx)
 have at':∀ {k:Nat} {G:List Nat} {x:Nat},(Fs.set j [])[k]? =some G->x∈G->k≠j/\Fs[k]? =some G:=λ{k G x} hG hx=>by
  grind
 refine ⟨AW4 S1.1 hn λx hx k G hk hG hxG=>?_,λb hb=>?_⟩
 ·obtain ⟨hkj,hG⟩:=at' hG hxG;rcases hsub x hx with h1 | h1 | h1
  ·exact S.dj i k hi hG (λhe=>hk he.symm) x h1 hxG
  ·exact S.dj j k hj hG (λhe=>hkj he.symm) x h1 hxG
  ·have:=(S.lo k hG x hxG).2;omega
 ·rcases AT3 hb with h1 | ⟨k,G,hk,hG,hb⟩
  ·refine ⟨?_,hF b h1⟩;rcases hsub b h1 with h2 | h2 | h2
   ·exact (S.lo i hi b h2).1
   ·exact (S.lo j hj b h2).1
   ·omega
  ·obtain ⟨_,hG⟩:=at' hG hb;have:=S.lo k hG b hb;omega
def Rep (i:Nat) (l:List Asr) (a a':Asr) (l':List Asr):Prop:=l[i]? =some a/\l'=l.set i a'
theorem p0 {a a':Asr} {l:List Asr}:Rep 0 (a :: l) a a' (a' :: l):=⟨rfl,rfl⟩
theorem p1 {x0 a a':Asr} {l:List Asr}:Rep 1 (x0 :: a :: l) a a' (x0 :: a' :: l):=⟨rfl,rfl⟩
theorem p2 {x0 x1 a a':Asr} {l:List Asr}:Rep 2 (x0 :: x1 :: a :: l) a a' (x0 :: x1 :: a' :: l):=⟨rfl,rfl⟩
theorem p3 {x0 x1 x2 a a':Asr} {l:List Asr}:Rep 3 (x0 :: x1 :: x2 :: a :: l) a a' (x0 :: x1 :: x2 :: a' :: l):=⟨rfl,rfl⟩
theorem p4 {x0 x1 x2 x3 a a':Asr} {l:List Asr}:Rep 4 (x0 :: x1 :: x2 :: x3 :: a :: l) a a' (x0 :: x1 :: x2 :: x3 :: a' :: l):=⟨rfl,rfl⟩
theorem p5 {x0 x1 x2 x3 x4 a a':Asr} {l:List Asr}:Rep 5 (x0 :: x1 :: x2 :: x3 :: x4 :: a :: l) a a' (x0 :: x1 :: x2 :: x3 :: x4 :: a' :: l):=⟨rfl,rfl⟩
theorem p6 {x0 x1 x2 x3 x4 x5 a a':Asr} {l:List Asr}:Rep 6 (x0 :: x1 :: x2 :: x3 :: x4 :: x5 :: a :: l) a a' (x0 :: x1 :: x2 :: x3 :: x4 :: x5 :: a' :: l):=⟨rfl,rfl⟩
theorem p7 {x0 x1 x2 x3 x4 x5 x6 a a':Asr} {l:List Asr}:Rep 7 (x0 :: x1 :: x2 :: x3 :: x4 :: x5 :: x6 :: a :: l) a a' (x0 :: x1 :: x2 :: x3 :: x4 :: x5 :: x6 :: a' :: l):=⟨rfl,rfl⟩
theorem p8 {x0 x1 x2 x3 x4 x5 x6 x7 a a':Asr} {l:List Asr}:Rep 8 (x0 :: x1 :: x2 :: x3 :: x4 :: x5 :: x6 :: x7 :: a :: l) a a' (x0 :: x1 :: x2 :: x3 :: x4 :: x5 :: x6 :: x7 :: a' :: l):=⟨rfl,rfl⟩
theorem p9 {x0 x1 x2 x3 x4 x5 x6 x7 x8 a a':Asr} {l:List Asr}:Rep 9 (x0 :: x1 :: x2 :: x3 :: x4 :: x5 :: x6 :: x7 :: x8 :: a :: l) a a' (x0 :: x1 :: x2 :: x3 :: x4 :: x5 :: x6 :: x7 :: x8 :: a' :: l):=⟨rfl,rfl⟩
theorem p10 {x0 x1 x2 x3 x4 x5 x6 x7 x8 x9 a a':Asr} {l:List Asr}:Rep 10 (x0 :: x1 :: x2 :: x3 :: x4 :: x5 :: x6 :: x7 :: x8 :: x9 :: a :: l) a a' (x0 :: x1 :: x2 :: x3 :: x4 :: x5 :: x6 :: x7 :: x8 :: x9 :: a' :: l):=⟨rfl,rfl⟩
theorem p11 {x0 x1 x2 x3 x4 x5 x6 x7 x8 x9 Ak a a':Asr} {l:List Asr}:Rep 11 (x0 :: x1 :: x2 :: x3 :: x4 :: x5 :: x6 :: x7 :: x8 :: x9 :: Ak :: a :: l) a a' (x0 :: x1 :: x2 :: x3 :: x4 :: x5 :: x6 :: x7 :: x8 :: x9 :: Ak :: a' :: l):=⟨rfl,rfl⟩
theorem p13 {x0 x1 x2 x3 x4 x5 x6 x7 x8 x9 Ak Am Ao a a':Asr} {l:List Asr}:Rep 13 (x0 :: x1 :: x2 :: x3 :: x4 :: x5 :: x6 :: x7 :: x8 :: x9 :: Ak :: Am :: Ao :: a :: l) a a' (x0 :: x1 :: x2 :: x3 :: x4 :: x5 :: x6 :: x7 :: x8 :: x9 :: Ak :: Am :: Ao :: a' :: l):=⟨rfl,rfl⟩
structure Kst (h0 h:AH8) (l:List Asr):Prop where
 x:Ext h0 h
 s:Sp h h0.size (fps l)
 p:Aea h l
namespace Kst
variable {h0 h h':AH8} {l l':List Asr}
abbrev L (_:Kst h0 h l):List Asr:=l
theorem k0 (h:AH8):Kst h h []:=⟨Ext.refl h,A4k _ _,trivial⟩
theorem z (k:Kst h0 h l) {cs:List Value} {x:Int} (e:Rep i l (aZ cs x) (aZ cs x) l'):cZ.rep h x cs:=AW7 k.p e.1
theorem b (k:Kst h0 h l) {i t b:Nat} {c:List Value} (e:Rep i l (aB t b c) (aB t b c) l'):ALu t h b c:=AW7 k.p e.1
theorem o {c:Cod α} (k:Kst h0 h l) {x:List α} (e:Rep i l (aO c el F v x) (aO c el F v x) l'):OwC c el h F v x:=AW7 k.p e.1
theorem o2 {c:Cod α} (k:Kst h0 h l) {x:List (List α)} (e:Rep i l (aO2 c er el F Gs rs v x) (aO2 c er el F Gs rs v x) l'):ALl c er el h F Gs rs v x:=AW7 k.p e.1
theorem c (k:Kst h0 h l) {p:Prop} (e:Rep i l (aC p) (aC p) l'):p:=AW7 k.p e.1
theorem zx (k:Kst h0 h l) {cs:List Value} {x:Int} (H:cZ.rep h0 x cs):cZ.rep h x cs:=cZ.upT H k.x.upT
theorem lo (k:Kst h0 h l) {a:Asr} (e:Rep i l a a l'):∀ b∈a.F,h0.size<=b:=k.s.loAll i<|AWe e.1
theorem dj {l2:List Asr} (k:Kst h0 h l) {i j:Nat} {a b:Asr} (e:Rep i l a a l') (f:Rep j l b b l2) (hij:i≠j):∀ x∈a.F,x ∉ b.F:=k.s.dj i j (AWe e.1) (AWe f.1) hij
theorem e (k:Kst h0 h l) (E:Ext h h'):Kst h0 h' l:=⟨k.x.trans E,k.s.keep E.1,As9 k.p E.upT λ_ _ _ _=>by simp⟩
theorem n (k:Kst h0 h l) (E:Ext h h') (m:List Asr) (S:Sp h' h.size (fps m)) (P:Aea h' m):Kst h0 h' (m ++ l):=⟨k.x.trans E,by rw [A1m];exact k.s.appF S E.1 k.x.1,Axz P (k.e E).p⟩
theorem nb (k:Kst h0 h l) (E:Ext h h') {b:Nat} {c:List Value} (S:Sp h' h.size [[b]]) (V:ALu t h' b c):Kst h0 h' (aB t b c :: l):=k.n E [aB t b c] S ⟨V,trivial⟩
theorem nb2 (k:Kst h0 h l) (E:Ext h h') {b t2 b2:Nat} {c:List Value} (S:Sp h' h.size [[b],[b2]]) (V:ALu t h' b c) (V2:ALu t2 h' b2 c2):Kst h0 h' (aB t b c :: aB t2 b2 c2 :: l):=k.n E [aB t b c,aB t2 b2 c2] S ⟨V,V2,trivial⟩
theorem no {c:Cod α} (k:Kst h0 h l) (E:Ext h h') {x:List α} (S:Sp h' h.size [F]) (V:OwC c el h' F v x):Kst h0 h' (aO c el F v x :: l):=k.n E [aO c el F v x] S ⟨V,trivial⟩
theorem no2 {c:Cod α} (k:Kst h0 h l) (E:Ext h h') {x:List (List α)} (S:Sp h' h.size [F]) (V:ALl c er el h' F Gs rs v x):Kst h0 h' (aO2 c er el F Gs rs v x :: l):=k.n E [aO2 c er el F Gs rs v x] S ⟨V,trivial⟩
theorem az (k:Kst h0 h l) {cs:List Value} {x:Int} (Z:cZ.rep h x cs):Kst h0 h (aZ cs x :: l):=k.n (Ext.refl h) [aZ cs x] (by exact ⟨by simp [fps,aZ],λb hb=>by simp [fps,aZ] at hb⟩) ⟨Z,trivial⟩
theorem anil (c:Cod α) (el:Nat) (k:Kst h0 h l):Kst h0 h (aO c el [] (.slice none 0 0) [] :: l):=k.n (Ext.refl h) [aO c el [] (.slice none 0 0) []] (by exact ⟨by simp [fps,aO],λb hb=>by simp [fps,aO] at hb⟩) ⟨Asy c el h,trivial⟩
theorem anil2 (c:Cod α) (er el:Nat) (k:Kst h0 h l):Kst h0 h (aO2 c er el [] [] [] (.slice none 0 0) [] :: l):=k.n (Ext.refl h) [aO2 c er el [] [] [] (.slice none 0 0) []] (by exact ⟨by simp [fps,aO2],λb hb=>by simp [fps,aO2] at hb⟩) ⟨Axg c er el h,trivial⟩
theorem u (k:Kst h0 h l) {a a':Asr} (e:Rep i l a a' l') (U:UpT a.F h h') (Ha:a'.P h') (hn:a'.F.Nodup) (hF:∀ x∈a'.F,x < h'.size) (hs:∀ x∈a'.F,x∈a.F∨h.size<=x):Kst h0 h' l':=by
 obtain ⟨e,rfl⟩:=e;exact ⟨k.x.thenT U<|k.s.loAll i<|AWe e,by rw [Agr];exact k.s.put i (AWe e) hn U.size k.x.1 hF hs,Ao9 k.p k.s e U Ha⟩
theorem ub (k:Kst h0 h l) {b:Nat} {c:List Value} (e:Rep i l (aB t b c) (aB t b c') l') (U:UpT [b] h h') (V:ALu t h' b c'):Kst h0 h' l':=k.u e U V (by simp [aB]) (λx hx=>by simp [aB] at hx;subst hx;exact V.lt) λx hx=> .inl hx
theorem sb (k:Kst h0 h l) {b:Nat} {c:List Value} (e:Rep i l (aB t b c) (aB t b c') l') (U:Upd (· =b) h h') (V:ALu t h' b c') (ht:Nat.beq t 160=false):Kst h0 h' l':=k.ub e (V.stA U (AOp (AW7 k.p e.1) ht) ht) V
theorem uo {c:Cod α} (k:Kst h0 h l) {x x':List α} (e:Rep i l (aO c el F v x) (aO c el F' v' x') l') (U:UpT F h h') (V:OwC c el h' F' v' x') (hs:∀ z∈F',z∈F∨h.size<=z):Kst h0 h' l':=k.u e U V V.nodup V.lt hs
theorem uO {c:Cod α} (k:Kst h0 h l) {x x':List α} (e:Rep i l (aO c el F v x) (aO c el F v' x') l') (U:UpT F h h') (V:OwC c el h' F v' x'):Kst h0 h' l':=k.uo e U V λ_ h=> .inl h
theorem uo2 {c:Cod α} (k:Kst h0 h l) {x x':List (List α)} (e:Rep i l (aO2 c er el F Gs rs v x) (aO2 c er el F' Gs' rs' v' x') l') (U:UpT F h h') (V:ALl c er el h' F' Gs' rs' v' x') (hs:∀ z∈F',z∈F∨h.size<=z):Kst h0 h' l':=k.u e U V V.nodup V.lt hs
theorem uO2 {c:Cod α} (k:Kst h0 h l) {x x':List (List α)} (e:Rep i l (aO2 c er el F Gs rs v x) (aO2 c er el F Gs' rs' v' x') l') (U:UpT F h h') (V:ALl c er el h' F Gs' rs' v' x'):Kst h0 h' l':=k.uo2 e U V λ_ h=> .inl h
theorem sel (k:Kst h0 h l) (is:List Nat) (hn:is.Nodup):Kst h0 h (APr l is):=
 ⟨k.x,by rw [A1o];exact k.s.sel is hn,by
  have:∀ is:List Nat,Aea h (APr l is):=λis=>by
   induction is with
   | nil=>exact trivial
   | cons i is ih=>exact ⟨Axy k.p i,ih⟩
  exact this is⟩
theorem m (k:Kst h0 h l) {l1:List Asr} {a a' r:Asr} (er:Rep j l r (aC True) l1) (e:Rep i l1 a a' l') (hij:i≠j) (U:UpT a.F h h') (Ha:a'.P h') (hn:a'.F.Nodup) (hF:∀ x∈a'.F,x < h'.size) (hs:∀ x∈a'.F,x∈a.F ++ r.F∨h.size<=x):Kst h0 h' l':=by
 obtain ⟨er,rfl⟩:=er;obtain ⟨e',rfl⟩:=e;have e:l[i]? =some a:=by grind
 have S1:Sp h h0.size (fps<|l.set j<|aC True):=by
  rw [Agr];exact k.s.put j (AWe er) List.nodup_nil (Nat.le_refl _) k.x.1 (λx hx=>by simp [aC] at hx) (λx hx=>by simp [aC] at hx)
 refine ⟨k.x.thenT U<|k.s.loAll i<|AWe e,?_,Ao9 (Aly k.p j) S1 e' U Ha⟩;rw [Agr,Agr];exact k.s.put2 i j (AWe e) (AWe er) hij hn U.size k.x.1 hF λx hx=>(hs x hx).elim (λh=>(List.mem_append.1 h).elim .inl λh=> .inr<|.inl h) λh=> .inr<|.inr h
theorem m2 {c:Cod α} (k:Kst h0 h l) {l1:List Asr} {w:Value} {x x':List (List α)} {y:List α} (er':Rep j l (aO c el R w y) (aC True) l1) (e:Rep i l1 (aO2 c er el F Gs rs v x) (aO2 c er el F' Gs' rs' v' x') l') (hij:i≠j) (U:UpT F h h') (V:ALl c er el h' F' Gs' rs' v' x') (hs:∀ z∈F',z∈F ++ R∨h.size<=z):Kst h0 h' l':=k.m er' e hij U V V.nodup V.lt hs
end Kst
end Go.Proofs.YtegoafpaljeobaaGreatDoor
variable {a' x0:Go.Proofs.YtegoafpaljeobaaGreatDoor.Asr} {l:List Go.Proofs.YtegoafpaljeobaaGreatDoor.Asr}
namespace Go.Proofs.YtegoafpaljeobaaGreatDoor
theorem A7f (c1 c2 c3 c4 c5 d1 d2 d3 d4 d5:Int) (w:World):(Op.equal 52 (.agg #[.int .i64 c1,.int .i64 c2,.int .i64 c3,.int .i64 c4,.int .i64 c5])<|.agg #[.int .i64 d1,.int .i64 d2,.int .i64 d3,.int .i64 d4,.int .i64 d5]).run Tryz.prog w= .ok (decide ((c1,c2,c3,c4,c5)=(d1,d2,d3,d4,d5))) w:=by
 show (Op.equalIn (9998 + 1 + 1) _ _ _).run _ w=_;rw [Op.equalIn];simp [AS6 Tryz.underlying52,Agh AJq,Agh AIg,Ahj AYv,Ahj AP8];by_cases h1:c1=d1 <;> by_cases h2:c2=d2 <;> by_cases h3:c3=d3 <;> by_cases h4:c4=d4 <;> by_cases h5:c5=d5 <;> simp [h1,h2,h3,h4,h5]
theorem A7g (c1 c2 c3:Int) (c4:Bool) (c5 d1 d2 d3:Int) (d4:Bool) (d5:Int) (w:World):(Op.equal 60 (.agg #[.int .i64 c1,.int .i64 c2,.int .i64 c3,.bool c4,.int .i64 c5])<|.agg #[.int .i64 d1,.int .i64 d2,.int .i64 d3,.bool d4,.int .i64 d5]).run Tryz.prog w= .ok (decide ((c1,c2,c3,c4,c5)=(d1,d2,d3,d4,d5))) w:=by
 show (Op.equalIn (9998 + 1 + 1) _ _ _).run _ w=_;rw [Op.equalIn];simp [AS6 Tryz.underlying60,Agh AJq,Agh ANf,Ahj AYv,Aq6 Aev];by_cases h1:c1=d1 <;> by_cases h2:c2=d2 <;> by_cases h3:c3=d3 <;> by_cases h4:c4=d4 <;> by_cases h5:c5=d5 <;> simp [h1,h2,h3,h4,h5]
end Go.Proofs.YtegoafpaljeobaaGreatDoor
namespace Go.QF
theorem Aa2:∀ u∈([]:List Value),isOne u=true:=λu h=>by cases h
theorem AOh {l:List Value} (h:isOne v=true) (H:∀ u∈l,isOne u=true):∀ u∈v :: l,isOne u=true:=λu hu=>(List.mem_cons.1 hu).elim (λe=>e ▸ h) (H u)
theorem Ata {c:Cod α}:∀ h,Al c h ([]:List α) []:=λh=>Aq7 c h
theorem Ai7 {c:Cod α} {a:α} {cs:List Value} {L:List α} (h1:∀ h,c.rep h a cs) (H:∀ h,Al c h L Ls):∀ h,Al c h (a :: L) (cs :: Ls):=λh=>⟨by simp [(H h).1],λi x y hx hy=>by
 cases i with
 | zero=>simp at hx hy;subst hx;subst hy;exact h1 h
 | succ i=>exact (H h).2 i x y (by simpa using hx) (by simpa using hy)⟩
section
variable {P:Program} {B:AH8->Prop} {st:Bool} {ops:Array Oper} {rest:List Oper} {e:Env} {h:AH8} {K:Env->AH8->Prop} {d:Nat} {ty:TypeId} {pos:String} {af:Array Edge}
theorem Ax0 (c:Cod α) (L:List α) (Ls:List (List Value)) (vs:List (Nat × Value)) {n:Nat} {z:Value} (hT:SlT P t el c.k) (hz:ZeT P el z bytes) (hel:Nat.beq el 160=false) (hb:B h) (hBE:∀ h',Ext h h'->B h') (Ac:Nat.ble (n * c.k) 1000=true) (hpos:Nat.ble 1 (n * c.k)=true) (hp:(parts.map λ(i,x)=>(i,e.ev x))=vs) (hf:Instr.fill (λj=>some (j * c.k,c.k)) ((Array.range<|n * c.k).map (z.cells[· % z.cells.size]!)) vs=some Ls.flatten.toArray) (hl:Ls.length=n) (ha:∀ h,Al c h L Ls) (H:∀ b v h',OwC c el h' [b] v L->Ext h h'->h.size<=b->b < h'.size->RL P B st ops rest (e.set d v) h' K):RL P B st ops (⟨some d,.buildSlice t n parts.toArray,ty,pos,af,none⟩ :: rest) e h K:=by
 have Ac:=Nat.le_of_ble_eq_true Ac;have hpos:=Nat.le_of_ble_eq_true hpos
 have hk:∀ r∈Ls,r.length=c.k:=λr hr=>by
  obtain ⟨i,hi⟩:=List.getElem?_of_mem hr
  have h1:=(List.getElem?_eq_some_iff.1 hi).1
  exact c.klen<|(ha h).2 i r (L[i]'(by have:=(ha h).1;omega)) hi (List.getElem?_eq_getElem _)
 have E:Ext h (h.push<|.cells Ls.flatten.toArray el (0,0)):=AL5 _ _;refine AWy rfl rfl hb λw hw=>?_;subst hw;obtain ⟨hu,i0,Aa,Ab⟩:=hT;obtain ⟨i,hi,hzz,hsz,hby⟩:=hz;rw [hi] at Aa;injection Aa with Aa;subst Aa;have h3: ¬ (n * i.size > 2 ^ 24):=by rw [Ab];omega
 have h4: ¬ (n * i.size=0):=by rw [Ab];omega
 have:(execOp e.ev ⟨some d,.buildSlice t n parts.toArray,ty,pos,af,none⟩).run P w= .ok (.value<|.slice (some ⟨w.heap.size,0,none⟩) n n) (w.alloc<|.cells Ls.flatten.toArray el):=by
  simp only [execOp,List.map_toArray]
  rw [hp]
  simp only [Instr.buildSlice,Sem.run_bind,AS6 hu,Result.andThen,AXt hi,if_neg h3,if_neg h4,Aoh hi hzz]
  have Af:Sem.run P (pure z.cells:Sem (Array Value)) w= .ok z.cells w:=rfl
  simp only [Af,Ab]
  rw [hf]
  simp [newRow]
 rw [this];have hfl:Ls.flatten.length=n * c.k:=by rw [AV7 hk,hl]
 exact ⟨⟨rfl,rfl,rfl⟩,hBE _ E,H w.heap.size _ _ (.inr ⟨w.heap.size,Ls,rfl,⟨n,Ls.flatten.toArray,by rw [hl],by
  show (w.heap.push<|.cells Ls.flatten.toArray el (0,0))[w.heap.size]? =_
  simp,AHx,by
  have:=c.pos;have:=Nat.le_mul_of_pos_right n c.pos;unfold maxLen;omega,by simpa using hfl,hk,by rw [List.take_of_length_le (by rw [hl];show Ls.flatten.length<=_;omega)]⟩,ha _,hel⟩) E (Nat.le_refl _) AI9⟩
end
theorem Ax1 (l:List Value):(l.map λr=>[r]).flatten=l:=by
 induction l with
 | nil=>rfl
 | cons a L ih=>simp [ih]
def Aih {α:Type} (c:Cod α) (el:Nat) (h:AH8):List (List Nat)->List Value->List (List α)->Prop
 | [],[],[]=>True
 | G :: Gs,r :: rs,L :: M=>OwC c el h G r L/\Aih c el h Gs rs M
 | _,_,_=>False
theorem Aih.len {α:Type} {c:Cod α} {el:Nat} {h:AH8}:∀ {Gs:List (List Nat)} {rs:List Value} {M:List (List α)},Aih c el h Gs rs M->rs.length=M.length/\Gs.length=M.length
 | [],[],[],_=>⟨rfl,rfl⟩
 | G :: Gs,r :: rs,L :: M,H=>by have:=Aih.len H.2;simp [this.1,this.2]
theorem Aih.get {α:Type} {c:Cod α} {el:Nat} {h:AH8}:∀ {Gs:List (List Nat)} {rs:List Value} {M:List (List α)},Aih c el h Gs rs M-> ∀ (i:Nat) (G:List Nat) (r:Value) (L:List α),Gs[i]? =some G->rs[i]? =some r->M[i]? =some L->OwC c el h G r L
 | [],[],[],_,i,G,r,L,h1,_,_=>by simp at h1
 | G0 :: Gs,r0 :: rs,L0 :: M,H,0,G,r,L,h1,h2,h3=>by simp at h1 h2 h3;subst h1;subst h2;subst h3;exact H.1
 | G0 :: Gs,r0 :: rs,L0 :: M,H,i + 1,G,r,L,h1,h2,h3=>Aih.get H.2 i G r L (by simpa using h1) (by simpa using h2) (by simpa using h3)
section
variable {P:Program} {B:AH8->Prop} {st:Bool} {ops:Array Oper} {rest:List Oper} {e:Env} {h:AH8} {K:Env->AH8->Prop} {d:Nat} {ty:TypeId} {pos:String} {af:Array Edge}
theorem Ahs {c:Cod α} (Gs:List (List Nat)) (rs:List Value) (M:List (List α)) {n:Nat} {z:Value} (hT:SlT P t er 1) (hz:ZeT P er z bytes) (h1:isOne z=true) (hel:Nat.beq er 160=false) (hb:B h) (hBE:∀ h',Ext h h'->B h') (hn:rs.length=n) (Aa:Nat.ble n 16777216=true) (hpos:Nat.ble 1 n=true) (hp:(parts.map λ(i,x)=>(i,e.ev x))=partsOf 0 rs) (hone:∀ u∈rs,isOne u=true) (hr:Aih c el h Gs rs M) (hnd:Gs.flatten.Nodup) (H:∀ b v h',ALl c er el h' (b :: Gs.flatten) Gs rs v M->Ext h h'->(∀ z∈b :: Gs.flatten,z∈Gs.flatten∨h.size<=z)->RL P B st ops rest (e.set d v) h' K):RL P B st ops (⟨some d,.buildSlice t n parts.toArray,ty,pos,af,none⟩ :: rest) e h K:=by
 have Aa:=Nat.le_of_ble_eq_true Aa;have E:Ext h (h.push<|.cells rs.toArray er (0,0)):=AL5 _ _;have HO:ARz (h.push<|.cells rs.toArray er (0,0)) er 1 h.size (.slice (some ⟨h.size,0,none⟩) n n) (rs.map λr=>[r]):=⟨n,rs.toArray,by rw [List.length_map,hn],AI9,by simp [hn],by unfold maxLen;omega,by simp [hn],λr hr=>by obtain ⟨a,_,rfl⟩:=List.mem_map.1 hr;rfl,by rw [Ax1];simp⟩
 have hlt:∀ z∈Gs.flatten,z < h.size:=λz hz=>by
  obtain ⟨G,hG,hzG⟩:=List.mem_flatten.1 hz
  obtain ⟨i,hi⟩:=List.getElem?_of_mem hG
  have hi':=(List.getElem?_eq_some_iff.1 hi).1
  have hl:=hr.len
  exact (hr.get i G (rs[i]'AHx) (M[i]'AHx) hi (List.getElem?_eq_getElem _)<|List.getElem?_eq_getElem _).lt z hzG
 refine Awl rs hT hz h1 hb hn Aa (Nat.le_of_ble_eq_true hpos) hp hone ⟨hBE _ E,H h.size _ _ (.inr ⟨h.size,rfl,?_,HO,hel,hr.len.1,hr.len.2,λi G r L a1 a2 a3=>(hr.get i G r L a1 a2 a3).ext E⟩) E λz hz=>?_⟩
 ·exact List.nodup_cons.2 ⟨λhm=>by have:=hlt _ hm;omega,hnd⟩
 ·rcases List.mem_cons.1 hz with rfl | h2
  ·exact .inr<|Nat.le_refl _
  ·exact .inl h2
end
end Go.QF
namespace Go.Proofs.YtegoafpaljeobaaGreatDoor
def aT (F:List Nat):Asr:=⟨F,λh=> ∀ b∈F,Abe h b,λ{G h h'} U d H b hb=>by
 obtain ⟨o,h1,h2⟩:=H b hb;exact ⟨o,(U.1.2 b (Array.getElem?_eq_some_iff.1 h1).1<|d b hb).trans h1,h2⟩⟩
namespace Kst
variable {h0 h h':AH8} {l l':List Asr}
theorem a0 (k:Kst h0 h l):Kst h0 h (aT [] :: l):=k.n (Ext.refl h) [aT []] (by exact ⟨by simp [fps,aT],λb hb=>by simp [fps,aT] at hb⟩) ⟨λb hb=>by simp at hb,trivial⟩
theorem grab {c:Cod α} {w:Value} {y:List α} (k:Kst h0 h (aT F :: l)) (e:Rep j l (aO c el R w y) (aC True) l'):Kst h0 h (aT (F ++ R) :: l'):=by
 obtain ⟨e,rfl⟩:=e;have HR:OwC c el h R w y:=AW7 k.p.2 e;have e1:(fps (aT F :: l))[j + 1]? =some R:=(AWe e:(fps l)[j]? =some R);have e0:(fps (aT F :: l))[0]? =some F:=rfl;have hd:=k.s.dj 0 (j + 1) e0 e1 AHx;have hF:F.Nodup:=(List.nodup_append.1 k.s.1).1;have:=k.s.put2 0 (j + 1) (F':=F ++ R) e0 e1 AHx (List.nodup_append.2 ⟨hF,HR.nodup,λa ha b hb hab=>hd a ha<|hab ▸ hb⟩) (Nat.le_refl _) k.x.1 (λx hx=>(List.mem_append.1 hx).elim (λh=>(k.s.lo 0 e0 x h).2) λh=>HR.lt x h) λx hx=>(List.mem_append.1 hx).elim .inl λh=> .inr<|.inl h;refine ⟨k.x,?_,λb hb=>(List.mem_append.1 hb).elim (k.p.1 b) (HR.notD b),Aly k.p.2 j⟩
 have e2:fps (aT (F ++ R) :: l.set j (aC True))=((fps (aT F :: l)).set (j + 1) []).set 0 (F ++ R):=by
  show (F ++ R) :: fps (l.set j<|aC True)=_
  rw [Agr];rfl
 rw [e2];exact this
theorem ndT (k:Kst h0 h (aT F :: l)):F.Nodup:=(List.nodup_append.1 k.s.1).1
theorem lit {c:Cod α} {x:List (List α)} (k:Kst h0 h (aT F :: l)) (E:Ext h h') (V:ALl c er el h' F' Gs rs v x) (hs:∀ z∈F',z∈F∨h.size<=z):Kst h0 h' (aO2 c er el F' Gs rs v x :: l):=
 k.u p0 (E.upT.mono (λx hx=>by simp at hx) λx hx _=>k.p.1 x hx) V V.nodup V.lt hs
end Kst
end Go.Proofs.YtegoafpaljeobaaGreatDoor
namespace Go.QF
section
variable {P:Program} {B:AH8->Prop} {st:Bool} {ops:Array Oper} {rest:List Oper} {e:Env} {h:AH8} {K:Env->AH8->Prop} {d:Nat} {ty:TypeId} {pos:String} {af:Array Edge}
theorem Arl {z u:Value} (hT:SlT P t er 1) (hz:ZeT P er z bytes) (h1:isOne z=true) (hb:B h) (hBE:∀ h',Ext h h'->B h') (hp:(parts.map λ(i,x)=>(i,e.ev x))=partsOf 0 [u,v]) (hu:isOne u=true) (hv:isOne v=true) (H:∀ b h',ALu er h' b [u,v]->Ext h h'->Sp h' h.size [[b]]->RL P B st ops rest (e.set d<|.slice (some ⟨b,0,none⟩) 2 2) h' K):RL P B st ops (⟨some d,.buildSlice t 2 parts.toArray,ty,pos,af,none⟩ :: rest) e h K:=by
 have E:Ext h (h.push<|.cells [u,v].toArray er (0,0)):=AL5 _ _;exact Awl [u,v] hT hz h1 hb rfl AHz AHz hp (λx hx=>by simp at hx;rcases hx with rfl | rfl <;> assumption) ⟨hBE _ E,H h.size _ (by unfold ALu;simp) E<|ANs (Nat.le_refl _) AI9⟩
theorem Alz {i:Operand} {b:Nat} {n:Int} (k:Nat) (hT:SlT P t er 1) (hx:e.ev x= .slice (some ⟨b,0,none⟩) 2 2) (hi:e.ev i= .int κ n) (hn:n=(k:Int)) (hk:k < 2) (H:RL P B st ops rest (e.set d<|.pointer<|some ⟨b,k,none⟩) h K):RL P B st ops (⟨some d,.indexAddr t x i,ty,pos,af,none⟩ :: rest) e h K:=by
 subst hn;refine Aqx hT hx hi AHx AHx ?_;have:(⟨b,0,none⟩:Addr).add ((k:Int).toNat * 1)=⟨b,k,none⟩:=by simp [Addr.add];intro h;exact h.symm
 rw [this];exact H
end
theorem Ax2 (H:ARz h el 1 g v Ls):AMd h el g v Ls.flatten:=by
 obtain ⟨cap,cur,rfl,h1,h2,h3,h4,h5,h6⟩:=H;have hl:=AV7 h5;exact ⟨cap,cur,by grind,h1,by rw [hl];omega,h3,AHx,by grind⟩
theorem A4t {L:List Int} (H:Al (cI κ) h L Ls):Ls=L.map λx=>[.int κ x]:=by
 refine List.ext_getElem? λi=>?_;rw [List.getElem?_map]
 rcases Nat.lt_or_ge i L.length with hi | hi
 ·obtain ⟨cs,h1,h2⟩:=H.get<|List.getElem?_eq_getElem hi;rw [h1,List.getElem?_eq_getElem hi];obtain rfl:cs=_:=h2;rfl
 ·rw [List.getElem?_eq_none (by rw [H.1];exact hi),List.getElem?_eq_none hi];rfl
theorem A4u (L:List Int):Al (cI κ) h L (L.map λx=>[.int κ x]):=⟨AI9,λi cs a h1 h2=>by
 rw [List.getElem?_map,h2] at h1;injection h1 with h1;exact h1 ▸ rfl⟩
theorem A7h (κ:IntKind) (L:List Int):(L.map λx=>[Value.int κ x]).flatten=L.map (.int κ):=by
 induction L with
 | nil=>rfl
 | cons a L ih=>simp [ih]
theorem SlC.drop {α:Type} {c:Cod α} {h:AH8} {a:Option Addr} {n cap k:Nat} {L:List α} (H:SlC c h (.slice a n cap) L) (hk:k<=n) (hc:n<=cap):
 SlC c h (.slice (if cap=k then a else a.map (·.add<|k * c.k)) (n - k)<|cap - k) (L.drop k):=by
 obtain ⟨Ls,⟨a',cap',hv,hcell⟩,HA⟩:=H;injection hv with h1 h2 h3;subst h1;subst h2;subst h3
 refine ⟨Ls.drop k,⟨_,_,by rw [List.length_drop],λi r hr=>?_⟩,by simp [HA.1],λi cs x h1 h2=>?_⟩
 ·rw [List.getElem?_drop] at hr;have hl:=(List.getElem?_eq_some_iff.1 hr).1;obtain ⟨b,o,rfl,h2⟩:=hcell _ r hr
  refine ⟨b,o + k * c.k,?_,λj x hx=>?_⟩
  ·rw [if_neg AHx];simp [Addr.add]
  grind
 ·rw [List.getElem?_drop] at h1 h2;exact HA.2 _ cs x h1 h2
theorem SlC.len {c:Cod α} {L:List α} (H:SlC c h v L):∃ a cap,v= .slice a L.length cap:=by
 obtain ⟨Ls,⟨a,cap,rfl,_⟩,HA⟩:=H;exact ⟨a,cap,by rw [HA.1]⟩
theorem OwC.cap {α:Type} {c:Cod α} {el:Nat} {h:AH8} {F:List Nat} {v:Value} {L:List α} (H:OwC c el h F v L):AWl v:=by
 rcases H with ⟨rfl,rfl,_⟩ | ⟨g,Ls,rfl,⟨cap,cur,rfl,_,h2,_⟩,_⟩
 ·exact Ahk
 ·exact ⟨_,_,_,rfl,h2⟩
theorem ALl.rowCap {c:Cod α} {M:List (List α)} (H:ALl c er el h F Gs rs v M) {n:Int} {r:Value} {L:List α} (hr:rs[n.toNat]? =some r) (hL:gI M n=some L):AWl r:=by
 obtain ⟨m,rfl,hL0⟩:=AP3 hL;rw [Int.toNat_natCast] at hr;obtain ⟨G,_,HR,_⟩:=H.row hr hL0;exact HR.cap
section
variable {P:Program} {B:AH8->Prop} {st:Bool} {ops:Array Oper} {rest:List Oper} {e:Env} {h:AH8} {K:Env->AH8->Prop} {d d' d2:Nat} {ty ty2 ty3:TypeId} {pos pos2 pos3:String} {af af2 af3:Array Edge}
theorem Avb {c:Cod α} {L:List α} {k:Int} (hT:SlT P t el c.k) (hx:e.ev x=v) (HS:SlC c h0 v L) (hc:AWl v) (hy:e.ev y= .int κ k) (hk:0<=k/\k<=L.length) (H:∀ v',(∀ {h1},SlC c h1 v L->SlC c h1 v' (L.drop k.toNat))->AWl v'->RL P B st ops rest (e.set d v') h K):RL P B st ops (⟨some d,.slice t x (some y) none none,ty,pos,af,none⟩ :: rest) e h K:=by
 obtain ⟨m,rfl⟩:∃ m:Nat,k=m:=⟨k.toNat,AHx⟩;obtain ⟨a,n,cp,rfl,hnc⟩:=hc;obtain ⟨a',c',hv⟩:=HS.len;injection hv with _ hn _;exact Aok hT hx hy AHx hnc<|H _ (λH1=>H1.drop AHx hnc) ⟨_,_,_,rfl,AHx⟩
theorem A1p {i:Operand} {tn:Nat} {r:Value} {kn κz:IntKind} {n k:Int} {M:List (List Int)} {L:List Int} (hT:SlT P t el 1) (hN:Acm P tn kn) (hz:ZeT P el (.int κz 0) bytes) (hTr:SlT P tr er0 1) (htl:NaT P tl)
 (HO:ALl (cI κz) er el h F Gs rs v M) (hr:rs[n.toNat]? =some r) (hL:gI M n=some L) (hb0:B h) (hbB:∀ h',UpT F h h'->B h') (hs:e.ev s=r) (hy:e.ev y= .int κ' k) (hx:∀ w,(e.set d' w).ev x=v) (hi:∀ w,(e.set d' w).ev i= .int κ n) (hdd:Nat.beq d' d2=false) (hby:bytes<=1000) (hk:0 < L.length/\L.length<=100000/\0 < k/\k<=100000)
 (H:∀ q F' Gs' rs' v' h',ALl (cI κz) er el h' F' Gs' rs' v (sI M n<|L ++ List.replicate k.toNat 0)->UpT F h h'->(∀ x∈F',x∈F∨h.size<=x)->RL P B st ops rest ((e.set d' v').set d2 q) h' K):
 RL P B st ops (⟨some d',.call ⟨.builtin .append,#[s,y],#[t,tn]⟩,ty,pos,af,none⟩ :: ⟨some d2,.indexAddr tr x i,ty2,pos2,af2,none⟩ :: ⟨none,.store tl (.tmp d2)<|.tmp d',ty3,pos3,af3,none⟩ :: rest) e h K:=by
 obtain ⟨m,rfl,hL0⟩:=AP3 hL;obtain ⟨k,rfl⟩:∃ j:Nat,k=j:=⟨k.toNat,AHx⟩;rw [Int.toNat_natCast] at hr;obtain ⟨G,hG,HR,hGF⟩:=HO.row hr hL0;have hndF:=HO.notD
 rcases HR with ⟨rfl,_⟩ | ⟨g,Ls,rfl,h2,h3,h4⟩
 ·simp at hk
 obtain rfl:=A4t h3;have HA:=Ax2 h2;rw [A7h] at HA;have hmul:(L.length + k) * bytes<=200000 * 1000:=Nat.mul_le_mul AHx hby;refine A4i hT hN hz rfl hb0 hs HA hy AHx (by grind) (by grind) λv1 g' h1 HO1 hg' U hc=>?_;obtain ⟨cur,hc⟩:=hc;have U1:UpT [g] h h1:=AXz U AI9 (λb hb _=>hndF b<|hGF b hb) ⟨_,hc,h4⟩;have e1:(L.map (Value.int κz) ++ List.replicate k (Value.int κz 0)).map (λx=>[x])=(L ++ List.replicate k 0).map λx=>[Value.int κz x]:=by simp
 have HK:=Amw HO1;rw [e1] at HK;refine ⟨hbB _<|U1.mono hGF λx hx _=>hndF x hx,?_⟩;have HR1:OwC (cI κz) el h1 [g'] v1 (L ++ List.replicate k 0):= .inr ⟨g',_,rfl,HK,A4u _,h4⟩
 exact Alw hTr htl HO hL0 hG HR1 U1 (λx hx=>by
  grind) (hx v1) (hi v1) (λw=>by
  show (bif Nat.beq d' d2 then _ else (bif Nat.beq d' d' then _ else _))=_
  simp_all) λq F' Gs' rs' h' H1 H2 H3=>H q F' Gs' rs' v1 h' H1 H2 H3
end
end Go.QF
namespace Go.Proofs.YtegoafpaljeobaaGreatDoor
section
variable {P:Program} {B:AH8->Prop} {st:Bool} {ops:Array Oper} {rest:List Oper} {e:Env} {h h0:AH8} {C:Env->AH8->Prop} {l l':List Asr} {d d2:Nat} {ty ty2:TypeId} {pos pos2:String} {af af2:Array Edge}
theorem ALt {f off ft b o:Nat} {c:List Value} {u:Value} (hf:FdT P t f off ft) (htl:NaT P tl) (HB:ALu tb h b c) (i:Nat) (hc:c[i]? =some u) (H:RL P B false ops rest ((e.set d<|.pointer<|some ⟨b,i,none⟩).set d2 u) h C) (hx:e.ev x= .pointer (some ⟨b,o,none⟩):=by rfl) (hi:o + off=i:=by rfl) (hs:((P.info? ft).map λq=>Nat.ble 1 q.size)=some true:=by kernel_rfl):
 RL P B false ops (⟨some d,.fieldAddr t x f,ty,pos,af,none⟩ :: ⟨some d2,.load tl<|.tmp d,ty2,pos2,af2,none⟩ :: rest) e h C:=by
 subst hi;obtain ⟨q,hq,hs2⟩:=Option.map_eq_some_iff.1 hs;have hs3:=Nat.le_of_ble_eq_true hs2;exact AOe (fs:=q.size) hf (by rw [hq];rfl) AHx hx<|AI1 htl (Env.set_same _ _ _) (HB.cell hc) H
theorem AKe {c:Cod α} {i:Operand} {M:List (List α)} {n:Int} {L:List α} (hT:SlT P t el0 1) (htl:NaT P tl) (HO:ALl c er el h F Gs rs v M) (ha:gI M n=some L) (H:∀ p r,rs[n.toNat]? =some r->RL P B false ops rest ((e.set d p).set d2 r) h C) (hx:e.ev x=v:=by rfl) (hi:e.ev i= .int κ n:=by rfl):RL P B false ops (⟨some d,.indexAddr t x i,ty,pos,af,none⟩ :: ⟨some d2,.load tl<|.tmp d,ty2,pos2,af2,none⟩ :: rest) e h C:=
 AJr hT hx HO hi ha λb r _ hr hc=>AI1 htl (Env.set_same _ _ _) hc<|H _ r hr
theorem AP4 {i:Operand} {r:Value} {M:List (List Int)} {m n:Int} {L:List Int} (hT:SlT P t el0 1) (htl:NaT P tl) (HO:ALl (cI κ') er el h F Gs rs v M) (hr:rs[m.toNat]? =some r) (hL:gI M m=some L) (ha:gI L n=some a) (H:∀ p,RL P B false ops rest ((e.set d p).set d2 (.int κ' a)) h C) (hx:e.ev x=r:=by rfl) (hi:e.ev i= .int κ n:=by rfl):RL P B false ops (⟨some d,.indexAddr t x i,ty,pos,af,none⟩ :: ⟨some d2,.load tl<|.tmp d,ty2,pos2,af2,none⟩ :: rest) e h C:=
 AJy (m:=m) hT hx HO hr hL hi ha λg hG=>by
  obtain ⟨cs,h1,h2⟩:=HO.cells hG hL ha;obtain rfl:=h1;exact AI1 htl (Env.set_same _ _ _) (h2 0 _ rfl)<|H _
theorem AT0 {i yo:Operand} {r:Value} {M:List (List Int)} {m n y:Int} {L:List Int} (k:Kst h0 h l) (p:Rep j l (aO2 (cI κ') er el F Gs rs v M) (aO2 (cI κ') er el F Gs rs v<|sI M m<|sI L n y) l') (hT:SlT P t el0 1) (htl:NaT P tl) (hr:rs[m.toNat]? =some r) (hL:gI M m=some L) (ha:gI L n=some a) (hy:∀ q,(e.set d q).ev yo= .int κ' y) (H:∀ q h',Kst h0 h' l'->RL P B st ops rest (e.set d q) h' C) (hx:e.ev x=r:=by rfl) (hi:e.ev i= .int κ n:=by rfl):RL P B st ops (⟨some d,.indexAddr t x i,ty,pos,af,none⟩ :: ⟨none,.store tl (.tmp d) yo,ty2,pos2,af2,none⟩ :: rest) e h C:=by
 have HO:ALl (cI κ') er el h F Gs rs v M:=AW7 k.p p.1;refine AJy (m:=m) hT hx HO hr hL hi ha λg hG=>?_;exact AN2 (m:=m) (AMt (n:=n.toNat) (g:=g) htl (show (e.set d<|.pointer<|some ⟨g,n.toNat * 1,none⟩).ev (.tmp d)=_ from Env.set_same _ _ _) (hy _) rfl) HO hG hL ha (show (cI κ').rep _ y _ from rfl) λh' I U=>H _ _<|k.uO2 p U I
theorem Aii {i:Operand} {n:Int} {L:List Int} (hT:SlT P t el0 1) (htl:NaT P tl) (HS:SlC (cI κ') h1 v L) (E:Ext h1 h) (ha:gI L n=some a) (H:∀ p,RL P B false ops rest ((e.set d p).set d2 (.int κ' a)) h C) (hx:e.ev x=v:=by rfl) (hi:e.ev i= .int κ n:=by rfl):RL P B false ops (⟨some d,.indexAddr t x i,ty,pos,af,none⟩ :: ⟨some d2,.load tl<|.tmp d,ty2,pos2,af2,none⟩ :: rest) e h C:=
 AQi (c:=cI κ') hT hx HS hi ha λb o cs hr hc=>by
  obtain rfl:=hr;exact AI1 htl (Env.set_same _ _ _) (AIj (hc 0 _ rfl) E)<|H _
theorem ATc {c:Cod α} {i:Operand} {n:Int} {M:List (List α)} {L:List α} (hT:SlT P t el0 1) (htl:NaT P tl) (HS:ANp c h1 v M) (E:Ext h1 h) (ha:gI M n=some L) (H:∀ p r,SlC c h1 r L->RL P B false ops rest ((e.set d p).set d2 r) h C) (hx:e.ev x=v:=by rfl) (hi:e.ev i= .int κ n:=by rfl):RL P B false ops (⟨some d,.indexAddr t x i,ty,pos,af,none⟩ :: ⟨some d2,.load tl<|.tmp d,ty2,pos2,af2,none⟩ :: rest) e h C:=
 Ad7 hT hx HS hi ha λb o r hc hs=>AI1 htl (Env.set_same _ _ _) (AIj hc E)<|H _ r hs
theorem ATd {b:Nat} {z:Int} {cs:List Value} (zf:cZ.rep h z cs) (HB:ALu tb h b cs) (H:RL Tryz.prog B false ops rest (e.set d<|.agg cs.toArray) h C) (hx:e.ev x= .pointer (some ⟨b,0,none⟩):=by rfl):RL Tryz.prog B false ops (⟨some d,.load 81 x,ty,pos,af,none⟩ :: rest) e h C:=
 ATy cs AJz (cZ.klen zf) hx HB.agg H
theorem AOv {b:Nat} {z z':Int} {c:List Value} (k:Kst h0 h l) (p:Rep i l (aB tb b c) (aB tb b c') l') (zo:cZ.rep h z c) (zn:cZ.rep h z' c') (H:∀ h',Kst h0 h' l'->RL Tryz.prog B st ops rest e h' C) (hx:e.ev x= .pointer (some ⟨b,0,none⟩):=by rfl) (hy:e.ev y= .agg c'.toArray:=by rfl) (ht:Nat.beq tb 160=false:=by rfl):
 RL Tryz.prog B st ops (⟨none,.store 81 x y,ty,pos,af,none⟩ :: rest) e h C:=
 AKo c' AJz (cZ.klen zn) (cZ.klen zo) hx hy (cZ.one zn) (AW7 k.p p.1) λh' I U=>H h'<|k.sb p U I ht
theorem AP5 (k:Kst h0 h l) (c:List Value) (H:∀ b h',Ext h h'->Kst h0 h' (aB t b c :: l)->RL P (λ_=>True) st ops rest (e.set d<|.pointer<|some ⟨b,0,none⟩) h' C) (hx:e.ev x=v:=by rfl) (hl:v.cells=c.toArray:=by rfl):
 RL P (λ_=>True) st ops (⟨some d,.box t x,ty,pos,af,none⟩ :: rest) e h C:=
 Ahl c trivial (λ_ _=>trivial) hx hl λb h' V E S=>H b h' E<|k.nb E S V
theorem ALm {z:Value} (k:Kst h0 h l) (c:List Value) (hz:ZeT P t z bytes) (H:∀ b h',Ext h h'->Kst h0 h' (aB t b c :: l)->RL P (λ_=>True) st ops rest (e.set d<|.pointer<|some ⟨b,0,none⟩) h' C) (hl:z.cells=c.toArray:=by rfl):
 RL P (λ_=>True) st ops (⟨some d,.alloc t,ty,pos,af,none⟩ :: rest) e h C:=
 Agl c hz hl trivial (λ_ _=>trivial) λb h' V E S=>H b h' E<|k.nb E S V
theorem ALx {a:List Value} (k:Kst h0 h l) (HC:AI7 P f a.toArray h λx h'=>Ext h h'/\x=v) (H:∀ h',Ext h h'->Kst h0 h' l->RL P (λ_=>True) st ops rest (e.set d v) h' C) (hxs:xs.map e.ev=a:=by rfl):
 RL P (λ_=>True) st ops (⟨some d,.call ⟨.value<|.func f,xs.toArray,ts⟩,ty,pos,af,none⟩ :: rest) e h C:=
 ALp trivial (λ_ _=>trivial) hxs HC λx h' E hk=>by subst hk;exact H h' E<|k.e E
theorem AWr {a:List Value} (k:Kst h0 h l) (HC:AI7 P f a.toArray h λx h'=>Ext h h'/\ ∃ x0:Value,x=x0/\ZZ h' x0 r) (H:∀ cs h',Ext h h'->Kst h0 h' (aZ cs r :: l)->RL P (λ_=>True) st ops rest (e.set d<|.agg cs.toArray) h' C) (hxs:xs.map e.ev=a:=by rfl):
 RL P (λ_=>True) st ops (⟨some d,.call ⟨.value<|.func f,xs.toArray,ts⟩,ty,pos,af,none⟩ :: rest) e h C:=
 ALp trivial (λ_ _=>trivial) hxs HC λx h' E hk=>by
  obtain ⟨x0,rfl,Z⟩:=hk;obtain ⟨cs,rfl,Z2⟩:=Z.cs;exact H cs h' E<|(k.e E).az Z2
theorem A7i {c:Cod α} {a:List Value} {r:List α} (k:Kst h0 h l) (HC:AI7 P f a.toArray h λx h'=>Ext h h'/\ ∃ (x0:Value) (F:List Nat),x=x0/\OwC c el h' F x0 r/\Sp h' (Array.size h) [F]) (H:∀ F v h',Ext h h'->Kst h0 h' (aO c el F v r :: l)->RL P (λ_=>True) st ops rest (e.set d v) h' C) (hxs:xs.map e.ev=a:=by rfl):
 RL P (λ_=>True) st ops (⟨some d,.call ⟨.value<|.func f,xs.toArray,ts⟩,ty,pos,af,none⟩ :: rest) e h C:=
 ALp trivial (λ_ _=>trivial) hxs HC λx h' E hk=>by
  obtain ⟨x0,F,rfl,I,S⟩:=hk;exact H F x h' E<|k.no E S I
theorem AWs {c:Cod α} {a:List Value} {r:List (List α)} (k:Kst h0 h l) (HC:AI7 P f a.toArray h λx h'=>Ext h h'/\ ∃ (x0:Value) (F:List Nat) (Gs:List (List Nat)) (rs:List Value),x=x0/\ALl c er el h' F Gs rs x0 r/\Sp h' (Array.size h) [F]) (H:∀ F Gs rs v h',Ext h h'->Kst h0 h' (aO2 c er el F Gs rs v r :: l)->RL P (λ_=>True) st ops rest (e.set d v) h' C) (hxs:xs.map e.ev=a:=by rfl):
 RL P (λ_=>True) st ops (⟨some d,.call ⟨.value<|.func f,xs.toArray,ts⟩,ty,pos,af,none⟩ :: rest) e h C:=
 ALp trivial (λ_ _=>trivial) hxs HC λx h' E hk=>by
  obtain ⟨x0,F,Gs,rs,rfl,I,S⟩:=hk;exact H F Gs rs x h' E<|k.no2 E S I
theorem AW8 {b:Nat} {z:Int} {cs:List Value} {a:AH8} (zf:cZ.rep h z cs) (U:UpT [] a h) (HB:ALu tb a b cs) (H:RL Tryz.prog (λh'=>UpT [] a h') true ops rest (e.set d<|.agg cs.toArray) h C) (hx:e.ev x= .pointer (some ⟨b,0,none⟩):=by rfl):RL Tryz.prog (λh'=>UpT [] a h') true ops (⟨some d,.load 81 x,ty,pos,af,none⟩ :: rest) e h C:=
 AQr (B:=λh'=>UpT [] a h') cs AJz (cZ.klen zf) hx U (λh' hb=>(HB.ext hb.ext).agg) H
theorem Afo {a:List Value} {g:AH8} (k:Kst h0 h l) (U:UpT [] g h) (HC:AI7 P f a.toArray h λx h'=>Ext h h'/\x=v) (H:∀ h',Ext h h'->Kst h0 h' l->UpT [] g h'->RL P (λh'=>UpT [] g h') st ops rest (e.set d v) h' C) (hxs:xs.map e.ev=a:=by rfl):
 RL P (λh'=>UpT [] g h') st ops (⟨some d,.call ⟨.value<|.func f,xs.toArray,ts⟩,ty,pos,af,none⟩ :: rest) e h C:=
 ALp (B:=λh'=>UpT [] g h') U (λ_ E=>U.thenE E) hxs HC λx h' E hk=>by subst hk;exact H h' E (k.e E)<|U.thenE E
theorem AOi {a:List Value} {g:AH8} (k:Kst h0 h l) (U:UpT [] g h) (HC:AI7 P f a.toArray h λx h'=>Ext h h'/\ ∃ x0:Value,x=x0/\ZZ h' x0 r) (H:∀ cs h',Ext h h'->Kst h0 h' (aZ cs r :: l)->UpT [] g h'->RL P (λh'=>UpT [] g h') st ops rest (e.set d<|.agg cs.toArray) h' C) (hxs:xs.map e.ev=a:=by rfl):
 RL P (λh'=>UpT [] g h') st ops (⟨some d,.call ⟨.value<|.func f,xs.toArray,ts⟩,ty,pos,af,none⟩ :: rest) e h C:=
 ALp (B:=λh'=>UpT [] g h') U (λ_ E=>U.thenE E) hxs HC λx h' E hk=>by
  obtain ⟨x0,rfl,Z⟩:=hk;obtain ⟨cs,rfl,Z2⟩:=Z.cs;exact H cs h' E ((k.e E).az Z2)<|U.thenE E
end
section
variable {P:Program} {Q:Exit->Env->AH8->Prop} {e:Env} {h h0:AH8}
theorem AOq {c:Code} {X S E R:Type} {body:S->Option (S ⊕ E)} {f:E->Option R} {r:R} (m:Nat) (D:X->S) (x0:X) (hp:(iter body fuel<|D x0).bind f=some r) (live:X->List (Nat × Value)) (A:X->List Asr) (k:Kst h0 h (A x0)) (hl:Adi (live x0) e)
 (H:∀ x s h' y,Kst h0 h' (A x)->body (D x)=some y->(∀ z,y= .inr z->f z=some r)->W P c (AWw (λe' h''=> ∃ x',y= .inl (D x')/\Kst h0 h'' (A x')/\Adi (live x') e') Q) (setL (live x)<|mix m s e) h') (hm:Afr m c=true:=by kernel_rfl):W P (.loop c) Q e h:=by
 obtain ⟨ex,hL,hp'⟩:=AH2 hp;refine AMc m live (λk x h'=>iter body k (D x)=some ex/\Kst h0 h' (A x)) hm fuel x0 ⟨hL,k⟩ hl λk x s h' hk=>?_;obtain ⟨hk,K⟩:=hk;obtain ⟨k',y,rfl,hb,hr⟩:=AWm hk;refine W.mono (λex' e' h'' hq=>?_) (H x s h' y K hb λz hz=>by subst hz;obtain rfl:z=ex:=hr;exact hp');cases ex' <;> first | exact hq | skip
 obtain ⟨x',rfl,h2,h3⟩:=hq;exact ⟨k',x',Nat.lt_succ_self _,⟨hr,h2⟩,h3⟩
theorem APb {c:Code} {S E R:Type} {body:S->Option (S ⊕ E)} {f:E->Option R} {r:R} {x0:S} (m:Nat) (hp:(iter body fuel x0).bind f=some r) (live:S->List (Nat × Value)) (A:S->List Asr) (k:Kst h0 h (A x0)) (hl:Adi (live x0) e) (H:∀ x s h' y,Kst h0 h' (A x)->body x=some y->(∀ z,y= .inr z->f z=some r)->W P c (AWw (λe' h''=> ∃ x',y= .inl x'/\Kst h0 h'' (A x')/\Adi (live x') e') Q) (setL (live x)<|mix m s e) h') (hm:Afr m c=true:=by kernel_rfl):W P (.loop c) Q e h:=
 AOq m id x0 hp live A k hl H hm
end
theorem AUp {b q:Int} (hb:b≠0) (h:a=b * q + r) (h0:0<=r) (h1:r < b.natAbs):a / b=q/\a % b=r:=by
 have hr:r % b=r:=by
  rcases Adk 0 b with hp | hn
  ·exact Int.emod_eq_of_lt h0 AHx
  ·rw [<- Int.emod_neg];exact Int.emod_eq_of_lt h0 AHx
 have hm:a % b=r:=by simp_all
 refine ⟨?_,hm⟩;have h2:=Int.mul_ediv_add_emod a b;rw [hm] at h2;have h3:b * (a / b)=b * q:=by omega
 exact Int.eq_of_mul_eq_mul_left hb h3
theorem Am9 {z:Int}:AOr z < 0↔z < 0:=by
 unfold AOr;omega
theorem A4v {na nb:Bool} {A B:Nat} (hB:B≠0) (h: ¬ sgn na (A % B) < 0):sgn na A / sgn nb B=sgn (!(na == nb)) (A / B)/\sgn na A % sgn nb B=sgn na (A % B):=by
 have h1:=Nat.div_add_mod A B;have hl:=Nat.mod_lt A<|Nat.pos_of_ne_zero hB;obtain ⟨q,hq⟩:∃ q,A / B=q:=⟨_,rfl⟩;obtain ⟨r,hr⟩:∃ r,A % B=r:=⟨_,rfl⟩;rw [hq,hr] at h1;rw [hr] at hl h;rw [hq,hr];have h2:(A:Int)=(B:Int) * q + r:=by omega
 refine AUp (by cases nb <;> simp [sgn] <;> omega) ?_ AHx (by cases na <;> cases nb <;> simp only [sgn] at h ⊢ <;> simp at h ⊢ <;> omega);cases na <;> cases nb <;> simp [sgn] at h ⊢ <;> grind
theorem A4w {na nb:Bool} {A B:Nat} (hB:B≠0) (h:sgn na (A % B) < 0):sgn na A % sgn nb B=sgn na (A % B) + B/\(sgn nb B < 0->sgn na A / sgn nb B=sgn (!(na == nb)) (A / B) + 1)/\(¬ sgn nb B < 0->sgn na A / sgn nb B=sgn (!(na == nb)) (A / B) - 1):=by
 have h1:=Nat.div_add_mod A B;have hl:=Nat.mod_lt A<|Nat.pos_of_ne_zero hB;obtain ⟨q,hq⟩:∃ q,A / B=q:=⟨_,rfl⟩;obtain ⟨r,hr⟩:∃ r,A % B=r:=⟨_,rfl⟩;rw [hq,hr] at h1;rw [hr] at hl h;rw [hq,hr];have h2:(A:Int)=(B:Int) * q + r:=by omega
 cases na
 ·simp [sgn] at h;omega
 have key:∀ q':Int,sgn true A=sgn nb B * q' + (sgn true r + B)->sgn true A / sgn nb B=q'/\sgn true A % sgn nb B=sgn true r + B:=λq' hq'=>
  AUp (by cases nb <;> simp [sgn] <;> omega) hq' (by simp [sgn] at h ⊢;omega) (by cases nb <;> simp only [sgn] at h ⊢ <;> simp at h ⊢ <;> omega)
 cases nb
 ·have:=key (sgn true q - 1) (by simp [sgn];grind);exact ⟨this.2,λhh=>by simp [sgn] at hh;omega,λ_=>this.1⟩
 ·have:=key (sgn false q + 1) (by simp [sgn];grind);exact ⟨this.2,λ_=>this.1,λhh=>by simp [sgn] at hh;omega⟩
theorem A4x {lo:Nat} {s:Value} {L:List Nat} (H:DS h lo s L) (ht:TL L) (hl:L.length<=100):cZ.rep h (nv L:Int) [.bool false,s]:=⟨rfl,⟨false,s,L,rfl,H.mono<|Nat.zero_le _,ht,hl,rfl⟩⟩
theorem A1q {s:Value} {n:Int} (H:cZ.rep h n [.bool false,s]):∃ L,DS h 0 s L/\TL L/\L.length<=100/\(nv L:Int)=n:=by
 obtain ⟨n',s',L,h1,h2,h3,h4,h5⟩:=ZV.out H.2;injection h1 with h1;have:=congrArg Array.toList h1;simp at this;obtain ⟨rfl,rfl⟩:=this;exact ⟨L,h2,h3,h4,h5.symm⟩
def Ags (fuel:Nat) (a b:Int):Option (Int × Int × Bool):=if a.natAbs < AM1/\b.natAbs < AM1/\b≠0 then some (a / b,a % b,true) else none
set_option maxHeartbeats 40000000 in
theorem Al0 {u:Value} {b:Int} {r:Int × Int × Bool} (H1:ZZ h u a) (H2:ZZ h v b) (hp:Ags fuel a b=some r):AI7 Tryz.prog 158 #[u,v] h (λx h'=>Ext h h'/\ ∃ (x0:Value) (x1:Value),x= .tuple #[x0,x1,.bool r.2.2]/\ZZ h' x0 r.1/\ZZ h' x1 r.2.1):=by
 obtain ⟨⟨hba,hbb,hb0⟩,hp⟩:=ifN hp;cases hp;have HA:=H1;have HB:=H2;obtain ⟨na,sa,LA,rfl,HDa,htla,hla,hza⟩:=HA.out;obtain ⟨nb,sb,LB,rfl,HDb,htlb,hlb,hzb⟩:=HB.out;have haa:=ANu hza;have hab:=ANu hzb;have hBz:nv LB≠0:=λh0=>hb0 (by rw [hzb,h0];cases nb <;> rfl);have hp99:(4294967296:Nat) ^ 99 < 4294967296 ^ 100:=Nat.pow_lt_pow_right AHz AHz;have hbz:AM1=4294967296 ^ 99:=rfl;rw [hbz] at hba hbb;have Zb:cZ.rep h b [.bool nb,sb]:=⟨rfl,H2⟩;refine Aoy (l:=[_,_]) Tryz.func158 rfl rfl rfl rfl rfl ?_;refine AX1 ?_;refine AY8 mx AIb ?_;refine AIf ?_;have K0:=Kst.k0 h;refine AP5 K0 [.bool na,sa] λb1 h1 E1 K1=>?_;refine AP5 K1 [.bool nb,sb] λb2 h2 E2 K2=>?_;refine ALm K2 [.bool false,.slice none 0 0] ANt λb3 h3 E3 K3=>?_;refine ALm K3 [.bool false,.slice none 0 0] ANt λb4 h4 E4 K4=>?_;refine AH7 ?_;refine AX1 ?_;refine AY8 mx AIb ?_;refine AKg (λh'=>Ext h4 h') AIb ?_;refine AOe (fs:=1) AUj AIb AHz rfl (AJe AQb rfl (Ext.refl h4) (λh' hb=>((K4.b p3).ext hb).cell (i:=1) rfl) (ALp (Ext.refl h4) (λ_ E=>E) rfl (ARe (HDa.ext K4.x) AHx) λx5 h5 E5 hk=>?_));obtain ⟨L1,HD1,htl1,hv1,hl1⟩:=hk;have K5:=K4.e E5;refine AOe (fs:=1) AUj AIb AHz rfl (AJe AQb rfl E5 (λh' hb=>((K4.b p2).ext hb).cell (i:=1) rfl) (ALp E5 (λ_ E=>E5.trans E) rfl (ARe (HDb.ext K5.x) AHx) λx6 h6 E6 hk=>?_));refine AIw<|AH7 ?_;obtain ⟨L2,HD2,htl2,hv2,hl2⟩:=hk;have K6:=(K5.e E6).az (A4x HD2 htl2 AHx);have hLB:L2≠[]:=λh0=>hBz (by rw [<- hv2,h0];rfl);have hLp:=List.length_pos_iff.2 hLB;refine AX1 ?_;refine AY8 mx AIb ?_;refine AH3 ?_;refine AIf ?_;refine AHy<|AKc AIy rfl HD2 ?_;refine Abr rfl rfl (λhc=>absurd hc AHx) (λ_=>?_);refine AH5 ?_;refine AI6 rfl ?_;refine AIa<|q_t ?_;refine AX1 ?_;refine AY8 mx AIb ?_;refine AIf ?_;refine AHy<|AHy<|ALp trivial (λ_ _=>trivial) rfl (Arc (HD1.ext E6) HD2 htl2 (by rw [hv2];exact hBz) AHx AHx) λx7 h7 E7 hk=>?_;obtain ⟨qv,rv,rfl,LQ,LR,HQ,HR,hvq,hvr,hlq,hlr⟩:=hk;have K7:=K6.e E7;rw [hv1,hv2] at hvq hvr;have hqA:nv LQ<=nv LA:=by rw [hvq];exact Nat.div_le_self _ _
 have hrA:nv LR < nv LB:=by rw [hvr];exact Nat.mod_lt _<|Nat.pos_of_ne_zero hBz
 refine AHy<|AJs rfl rfl (AJs rfl rfl (AIw<|AH7 ?_));have U7:UpT [] h7 h7:=UpT.start all_nil;refine AX1 ?_;refine AY8 mx AIb ?_;refine (Acx (B:=λh'=>UpT [] h7 h') 11 [⟨11,81,[.bool false,.slice none 0 0]⟩,⟨12,81,[.bool false,.slice none 0 0]⟩] (λ_ _ U E=>U.thenE E) AIb U7 (Arh rfl rfl ANt rfl ANt rfl (λ_ _ U E=>U.thenE E)) ?_);refine h_l rfl (AOe (fs:=1) ATz AIb AHz rfl (AIu ?_));refine h_l rfl (AJe ANf rfl U7 (λh' hb=>((K7.b p4).ext hb.ext).cell (i:=0) rfl) (AIu ?_));refine h_l rfl (AOe (fs:=1) ATz AIb AHz rfl (AIu ?_));refine h_l rfl (AJe ANf rfl U7 (λh' hb=>((K7.b p3).ext hb.ext).cell (i:=0) rfl) (AIu ?_));refine h_l rfl (Ajz Aev rfl rfl (AIu ?_));refine h_l rfl (AHy<|AIu ?_);refine h_e rfl λh8 E8=>?_;refine ALp (U7.thenE E8) (λ_ E=>(U7.thenE E8).thenE E) rfl (AVd (!(na == nb)) (HQ.ext E8) AHx AHx) λx9 h9 E9 Z9=>?_;obtain ⟨c9,rfl,W9⟩:=Z9.zz.cs;have U9:=(U7.thenE E8).thenE E9;refine AIu ⟨E9,?_⟩;refine h_l rfl (AOe (fs:=1) ATz AIb AHz rfl (AIu ?_));refine h_l rfl (AJe ANf rfl U9 (λh' hb=>((K7.b p4).ext hb.ext).cell (i:=0) rfl) (AIu ?_));refine h_l rfl (AHy<|AIu ?_);refine h_e rfl λh10 E10=>?_;refine ALp (U9.thenE E10) (λ_ E=>(U9.thenE E10).thenE E) rfl (AVd na (HR.ext (U9.thenE E10).ext) AHx AHx) λx11 h11 E11 Z11=>?_;obtain ⟨c11,rfl,W11⟩:=Z11.zz.cs;have U11:=(U9.thenE E10).thenE E11;refine AIu ⟨E11,?_⟩;refine Akd λh12 E12=>?_;refine A4s λbq br Vq Vr hne loq lor nbq nbr=>?_;have K14:=((K7.nb2 (U11.thenE E12).ext (Ari loq lor Vq.lt Vr.lt hne) Vq Vr).az (cZ.upT W9 ((E10.trans E11).trans E12).upT)).az (cZ.upT W11 E12.upT);refine AOv K14 p2 (AIo _) (K14.z p1) λh13 K15=>?_;refine AOv K15 p3 (AIo _) (K15.z p0) λh14 K16=>?_;refine AH5 ?_;refine AX1 ?_;refine AX1 ?_;refine AY8 mx AIb ?_;refine AIf ?_;refine ATd (K16.z p0) (K16.b p3) ?_;refine ALx K16 (Ad9 (K16.z p0).2) λh15 E15 K17=>?_
 refine ANd rfl rfl (λhc1=>AH5 ?_) (λhc1=>AH5 ?_)
 ·have hk:=A4w (na:=na) (nb:=nb) (A:=nv LA) hBz (by rw [<- hvr];exact Am9.1 hc1);have hsg:sgn nb (nv LB) < 0↔AOr b < 0:=by rw [<- hzb];exact Am9.symm
  obtain ⟨Ln,HDn,htln,hln,hzn⟩:=A1q<|K17.z p4;have hnn:nv Ln=nv LB:=by omega
  refine As6 rfl ?_;refine AX1 ?_;refine AY8 mx AIb ?_;refine AKg (λh'=>Ext h15 h') AIb ?_;refine (AQr c11 AJz (cZ.klen<|K17.z p0) rfl (Ext.refl h15) (λh' hb=>((K17.b p3).ext hb).agg) ?_);refine (AHy<|ALp (Ext.refl h15) (λ_ E=>E) rfl (AVd false HDn AHx AHx) λx h16 E16 Z=>?_);obtain ⟨c16,rfl,Y⟩:=Z.zz.cs;have K18:=(K17.e E16).az Y;refine ALp E16 (λ_ E=>E16.trans E) rfl (Ai5 (K18.z p1).2 (K18.z p0).2 (by rw [show (sgn na<|nv LR).natAbs=nv LR from ANu rfl];omega) (by rw [show (sgn false<|nv Ln).natAbs=nv Ln from ANu rfl];omega)) λx h17 E17 Z=>?_;obtain ⟨c17,rfl,Y⟩:=Z.zz.cs;have K19:=(K18.e E17).az Y;have hr9:sgn na (nv LR) + sgn false (nv Ln)=a % b:=by rw [hza,hzb,hk.1,hvr,hnn];rfl
  rw [hr9] at K19;refine AOv K19 p5 (K19.z p2) (K19.z p0) λh18 K20=>?_;refine AH5 ?_;refine AX1 ?_;refine AX1 ?_;refine AY8 mx AIb ?_;refine AIf ?_;refine ATd (K20.zx Zb) (K20.b p9) ?_;refine ALx K20 (Ad9 (K20.zx Zb).2) λh19 E19 K21=>?_
  refine ANd rfl rfl (λhc2=>AH5 ?_) (λhc2=>AH5 ?_)
  ·refine As6 rfl ?_;refine AX1 ?_;refine (Am4 (B:=λh'=>ALu 81 h' bq c9/\ALu 81 h' br c17) true [0,1,2] 3 4 [5,6] mx AIb AIb rfl rfl (.cons rfl (.cons rfl (.cons rfl .nil))) (.cons rfl (.cons rfl .nil)) ?_);refine AQr c9 AJz (cZ.klen<|K21.z p3) rfl ⟨K21.b p4,K21.b p5⟩ (λh' hb=>hb.1.agg) ?_;refine (ALp ⟨K21.b p4,K21.b p5⟩ (λ_ E=>⟨(K21.b p4).ext E,(K21.b p5).ext E⟩) rfl (Ahm (n:=1) AHx _) λx h20 E20 Z=>?_);obtain ⟨c20,rfl,Y⟩:=Z.zz.cs;have K22:=(K21.e E20).az Y;refine ALp ⟨K22.b p5,K22.b p6⟩ (λ_ E=>⟨(K22.b p5).ext E,(K22.b p6).ext E⟩) rfl (Ai5 (K22.z p4).2 (K22.z p0).2 (by rw [show (sgn (!(na == nb))<|nv LQ).natAbs=nv LQ from ANu rfl];omega) AHz) λx h21 E21 Z=>?_;obtain ⟨c21,rfl,Y⟩:=Z.zz.cs;have K23:=(K22.e E21).az Y;have hq9:sgn (!(na == nb)) (nv LQ) + 1=a / b:=by rw [hza,hzb,hk.2.1<|hsg.2 hc2,hvq]
   rw [hq9] at K23
   refine AIu ⟨?_,?_⟩
   ·refine AQr c17 AJz (cZ.klen<|K23.z p2) rfl ⟨K23.b p6,K23.b p7⟩ (λh' hb=>hb.2.agg) ?_;refine AOv K23 p10 (AIo _) (K23.z p0) λh22 K24=>?_;refine AOv K24 p9 (AIo _) (K24.z p2) λh23 K25=>?_;refine AH7 ?_;refine AY8 mx AIb<|AIc<|AIt<|AIt ?_;exact ⟨_,AW2 AJz (cZ.klen<|K25.z p0) rfl (K25.b p10) AJz (cZ.klen<|K25.z p2) rfl (K25.b p9),K25.x,_,_,rfl,(K25.z p0).2,(K25.z p2).2⟩
   ·refine AOv K23 p10 (AIo _) (K23.z p0) λh22 K24=>?_;refine AQr c17 AJz (cZ.klen<|K24.z p2) rfl ⟨K24.b p6,K24.b p7⟩ (λh' hb=>hb.2.agg) ?_;refine AOv K24 p9 (AIo _) (K24.z p2) λh23 K25=>?_;refine AH7 ?_;refine AY8 mx AIb<|AIc<|AIt<|AIt ?_;exact ⟨_,AW2 AJz (cZ.klen<|K25.z p0) rfl (K25.b p10) AJz (cZ.klen<|K25.z p2) rfl (K25.b p9),K25.x,_,_,rfl,(K25.z p0).2,(K25.z p2).2⟩
  ·refine Ao0 rfl ?_;refine AY8 mx AIb ?_;refine AIa<|q_t ?_;refine AX1 ?_;refine (Am4 (B:=λh'=>ALu 81 h' bq c9/\ALu 81 h' br c17) true [0,1,2] 3 4 [5,6] mx AIb AIb rfl rfl (.cons rfl (.cons rfl (.cons rfl .nil))) (.cons rfl (.cons rfl .nil)) ?_);refine AQr c9 AJz (cZ.klen<|K21.z p3) rfl ⟨K21.b p4,K21.b p5⟩ (λh' hb=>hb.1.agg) ?_;refine (ALp ⟨K21.b p4,K21.b p5⟩ (λ_ E=>⟨(K21.b p4).ext E,(K21.b p5).ext E⟩) rfl (Ahm (n:=1) AHx _) λx h20 E20 Z=>?_);obtain ⟨c20,rfl,Y⟩:=Z.zz.cs;have K22:=(K21.e E20).az Y;refine ALp ⟨K22.b p5,K22.b p6⟩ (λ_ E=>⟨(K22.b p5).ext E,(K22.b p6).ext E⟩) rfl (As3 (K22.z p4).2 (K22.z p0).2 (by rw [show (sgn (!(na == nb))<|nv LQ).natAbs=nv LQ from ANu rfl];omega) AHz) λx h21 E21 Z=>?_;obtain ⟨c21,rfl,Y⟩:=Z.zz.cs;have K23:=(K22.e E21).az Y;have hq9:sgn (!(na == nb)) (nv LQ) - 1=a / b:=by rw [hza,hzb,hk.2.2 (λh=>by have:=hsg.1 h;omega),hvq]
   rw [hq9] at K23
   refine AIu ⟨?_,?_⟩
   ·refine AQr c17 AJz (cZ.klen<|K23.z p2) rfl ⟨K23.b p6,K23.b p7⟩ (λh' hb=>hb.2.agg) ?_;refine AOv K23 p10 (AIo _) (K23.z p0) λh22 K24=>?_;refine AOv K24 p9 (AIo _) (K24.z p2) λh23 K25=>?_;refine AH7 ?_;refine AY8 mx AIb<|AIc<|AIt ?_;exact ⟨_,AW2 AJz (cZ.klen<|K25.z p0) rfl (K25.b p10) AJz (cZ.klen<|K25.z p2) rfl (K25.b p9),K25.x,_,_,rfl,(K25.z p0).2,(K25.z p2).2⟩
   ·refine AOv K23 p10 (AIo _) (K23.z p0) λh22 K24=>?_;refine AQr c17 AJz (cZ.klen<|K24.z p2) rfl ⟨K24.b p6,K24.b p7⟩ (λh' hb=>hb.2.agg) ?_;refine AOv K24 p9 (AIo _) (K24.z p2) λh23 K25=>?_;refine AH7 ?_;refine AY8 mx AIb<|AIc<|AIt ?_;exact ⟨_,AW2 AJz (cZ.klen<|K25.z p0) rfl (K25.b p10) AJz (cZ.klen<|K25.z p2) rfl (K25.b p9),K25.x,_,_,rfl,(K25.z p0).2,(K25.z p2).2⟩
 ·have hk:=A4v (na:=na) (nb:=nb) (A:=nv LA) hBz (λhh=>by have:=(Am9 (z:=sgn na<|nv LR)).2 (by rw [hvr];exact hh);omega);have hq9:sgn (!(na == nb)) (nv LQ)=a / b:=by rw [hza,hzb,hk.1,hvq]
  have hr9:sgn na (nv LR)=a % b:=by rw [hza,hzb,hk.2,hvr]
  rw [hq9,hr9] at K17;refine Ao0 rfl ?_;refine AY8 mx AIb ?_;refine AIa<|q_t ?_;refine AX1 ?_;refine (Am4 (B:=λ_=>True) false [0] 1 2 [3,4] mx AIb AIb rfl rfl (.cons rfl .nil) (.cons rfl (.cons rfl .nil)) ?_);refine ATd (K17.z p1) (K17.b p2) ?_
  refine AIu ⟨?_,?_⟩
  ·refine ATd (K17.z p0) (K17.b p3) ?_;refine AOv K17 p6 (AIo _) (K17.z p1) λh22 K24=>?_;refine AOv K24 p5 (AIo _) (K24.z p0) λh23 K25=>?_;refine AH7 ?_;refine AY8 mx AIb<|AIc ?_;exact ⟨_,AW2 AJz (cZ.klen<|K25.z p1) rfl (K25.b p6) AJz (cZ.klen<|K25.z p0) rfl (K25.b p5),K25.x,_,_,rfl,(K25.z p1).2,(K25.z p0).2⟩
  ·refine AOv K17 p6 (AIo _) (K17.z p1) λh22 K24=>?_;refine ATd (K24.z p0) (K24.b p3) ?_;refine AOv K24 p5 (AIo _) (K24.z p0) λh23 K25=>?_;refine AH7 ?_;refine AY8 mx AIb<|AIc ?_;exact ⟨_,AW2 AJz (cZ.klen<|K25.z p1) rfl (K25.b p6) AJz (cZ.klen<|K25.z p0) rfl (K25.b p5),K25.x,_,_,rfl,(K25.z p1).2,(K25.z p0).2⟩
end Go.Proofs.YtegoafpaljeobaaGreatDoor
