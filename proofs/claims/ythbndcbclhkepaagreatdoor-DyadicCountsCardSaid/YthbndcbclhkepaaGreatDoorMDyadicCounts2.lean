/-
  Texts of a proof, joined. Conditions stand in each statement.
-/
import Derived.ArgAppend
import Derived.Test.YthbndcbclhkepaaGreatDoorMDyadicCounts1
set_option linter.unusedVariables false
set_option linter.unusedSimpArgs false
namespace Go.Proofs.YthbndcbclhkepaaGreatDoor
open Go Go.QF
set_option maxRecDepth 100000
theorem Aa8 {h:AGt} {lo:Nat} {v:Value} {L:List Nat} (H:DS h lo v L) (hn:L.length<=1000000):ATs Tryz.prog 96 #[v] h fun x h'=>Ext h h'/\ ∃ L',DS h' (Array.size h) x L'/\TL L'/\nv L'=nv L/\L'.length<=L.length:=by
 refine AT5 (l:=[_]) mx Tryz.func96 rfl rfl rfl rfl rfl AGx (AGm (ATw (AGj (AUo ATf rfl H (AGu (AGo (AGp (AX0 262088 (fun n:Nat=>[(3,.int .i64 (n:Int))]) (fun k n h'=>h'=h/\n=k/\n<=L.length/\nv (L.take n)=nv L) AGx L.length L.length ?_ ⟨rfl,trivial⟩ ?_))))))))
 ·exact ⟨rfl,rfl,Nat.le_refl _,by rw [List.take_length]⟩
 rintro k n s1 h ⟨rfl,rfl,hi,hv⟩;refine AGo (AGm (AGj (Aju rfl rfl (fun Ai=>?_) (fun Ai=>?_))))
 ·refine AGj (AUn 8 true AGx rfl rfl (AGj (AUn 8 true AGx rfl rfl (AGj (AUn 8 true AGx rfl rfl (Aet rfl rfl AGi AGi ?_))))));rw [show ((n:Nat):Int) - 1=((n - 1:Nat):Int) by omega];obtain ⟨x,hx⟩:∃ x,L[n - 1]? =some x:=⟨_,List.getElem?_eq_getElem AGi⟩;refine AUn 8 true AGx rfl rfl (Aa6 ATf rfl H rfl hx fun Ap Aj=>AUn 8 true AGx rfl rfl (AT3 AU8 rfl Aj (AUn 8 true AGx rfl rfl (Ama rfl rfl (fun Ak=>?_) (fun Ak=>?_)))))
  ·refine ATj rfl (AGr (ATp rfl (AGy (q_t (AGp (AS3 (AGj (Aet rfl rfl AGi AGi ?_))))))));rw [show ((n:Nat):Int) - 1=((n - 1:Nat):Int) by omega];have Am:x=0:=by omega
   refine ATi (ATh (q_b (q_t ?_)));exact ⟨n - 1,n - 1,AGi,⟨rfl,rfl,AGi,by rw [<- hv];have:=AUu hx;rw [show n - 1 + 1=n by omega] at this;rw [this,Am];simp⟩,rfl,trivial⟩
  ·refine ATj rfl (AGr (ATr rfl (AS8 (ATa (ATa (AT7 (q_t (AGm (AGj (AGj (Au4 ATf rfl H.sl H.cap rfl (by rw [List.length_map];omega) fun v9 Ad Ae Ab=>?_)))))))))));have Af:DS h lo v9 (L.take n):=⟨by rw [List.map_take];exact Ad,Ae,Ao2 H.dig n,fun g hg=>H.lo g (Ab ▸ hg),fun g hg=>H.tg g (Ab ▸ hg)⟩;refine BAe ATf Adv (fun _=>trivial) rfl rfl Af AGk (by rw [List.length_take];omega) fun v2 h2 Ag E2=>?_;have Aq:=E2.1;have Z3:=(Ext.refl h).trans E2;refine AGu (AGz (⟨_,AS2,?_⟩));refine ⟨E2,L.take n,Ag,?_,hv,by rw [List.length_take];omega⟩
   first
   | (have h0:n=0:=by omega
      subst h0;exact Akf)
   | exact A0k hx AGi AGi
 ·refine AGj (AUd 8 false AGx rfl rfl (AUd 8 false AGx rfl rfl (AUd 8 false AGx rfl rfl (AUd 8 false AGx rfl rfl (AUd 8 false AGx rfl rfl (AUd 8 false AGx rfl rfl (ATm rfl (AGr (ATr rfl (AS8 (ATa (ATa (AT7 (q_t (AGm (AGj (AGj (Au4 ATf rfl H.sl H.cap rfl (by rw [List.length_map];omega) fun v9 Ad Ae Ab=>?_))))))))))))))))));have Af:DS h lo v9 (L.take n):=⟨by rw [List.map_take];exact Ad,Ae,Ao2 H.dig n,fun g hg=>H.lo g (Ab ▸ hg),fun g hg=>H.tg g (Ab ▸ hg)⟩;refine BAe ATf Adv (fun _=>trivial) rfl rfl Af AGk (by rw [List.length_take];omega) fun v2 h2 Ag E2=>?_;have Au:=E2.1;have Z5:=(Ext.refl h).trans E2;refine AGu (AGz (⟨_,AS2,?_⟩));refine ⟨E2,L.take n,Ag,?_,hv,by rw [List.length_take];omega⟩
  first
  | (have h0:n=0:=by omega
     subst h0;exact Akf)
  | exact A0k hx AGi AGi
theorem Ago (w:World):(Instr.build 93 #[]).run Tryz.prog w= .ok (.agg #[.bool false,.slice none 0 0]) w:=by kernel_rfl
theorem Ao7 (b:Bool) (a:Option Addr) (n c:Nat) (w:World):(Instr.build 93 #[(0,.bool b),(1,.slice a n c)]).run Tryz.prog w= .ok (.agg #[.bool b,.slice a n c]) w:=by kernel_rfl
theorem Akw (b:Bool):sgn b 0=0:=by cases b <;> rfl
theorem Aew {h:AGt} {lo:Nat} {s:Value} {L:List Nat} (neg:Bool) (H:DS h lo s L) (hn:L.length<=1000000) (hb:nv L < 4294967296 ^ 100):ATs Tryz.prog 141 #[.bool neg,s] h fun x h'=>Ext h h'/\ZV h' (Array.size h) x (sgn neg (nv L)):=by
 refine AT5 (l:=[_,_]) mx Tryz.func141 rfl rfl rfl rfl rfl AGx (AGm (AYx [.bool false,.slice none 0 0] AXi rfl (fun _=>trivial) fun Aa h2 V3 E4 Ay Bf=>?_));have Bg:Array.size h<=Aa:=Ay;have Bh:=E4.1;have Z8:=(Ext.refl h).trans E4;refine AZg (AGj (ATd trivial rfl (Aa8 (H.ext E4) AGi) fun x9 Bj hk=>?_));obtain ⟨Aj,L1,Af,Ah,Ac,Bl⟩:=hk;refine ⟨trivial,?_⟩;have Bm:=Aj.1;have Ar:=Z8.trans Aj;have Au:=E4.trans Aj;have Av:=V3.ext Aj;have Aw:=E4.trans Aj;obtain ⟨a1,n1,c1,rfl,Bn⟩:=Af.cap;refine ATw (AGj ?_);cases Bo:neg
 ·refine AGj (AUd 9 false AGx rfl rfl (AUd 9 false AGx rfl rfl (AUd 9 false AGx rfl rfl (ATm rfl (AGj (AV6 (v:= .agg #[.bool false,.slice a1 n1 c1]) (Ao7 false a1 n1 c1) (AU0 [.bool false,.slice a1 n1 c1] AUa rfl rfl rfl rfl (Abn Af.cap) Av fun Bp A3 Ak=>?_)))))));have A4:=Au.thenUpd Ak (fun k hk=>by have Ag:k=Aa:=hk;omega);have Bq:=Ak.1;have Br:=Ar.thenUpd Ak (fun k hk=>by have Ag:k=Aa:=hk;omega);have Bt:=Aw.thenUpd Ak (fun k hk=>by have Ag:k=Aa:=hk;omega);have A5:=Af.updLo Ak AGi;refine AGr (AGz (⟨_,AU7 AUa rfl rfl A3,?_⟩));have Am:L1.length<=100:=Aed Ah (by rw [Ac];exact hb);refine ⟨A4,⟨false,_,L1,rfl,A5.mono AGi,Ah,Am,?_⟩⟩
  first
  | (rw [Ac];done)
  | (have h0:L1=[]:=List.length_eq_zero_iff.1 AGi
     rw [<- Ac,h0];exact (Akw _).trans (Akw _).symm)
 ·refine AGj (AUn 9 true AGx rfl rfl (AGj (AUn 9 true AGx rfl rfl (AUo ATf rfl Af (AUn 9 true AGx rfl rfl (Aju rfl rfl (fun A6=>?_) (fun A6=>?_)))))))
  ·refine ATj rfl (AGj (AV6 (v:= .agg #[.bool true,.slice a1 n1 c1]) (Ao7 true a1 n1 c1) (AU0 [.bool true,.slice a1 n1 c1] AUa rfl rfl rfl rfl (Abn Af.cap) Av fun Bu A7 Ap=>?_)));have A8:=Au.thenUpd Ap (fun k hk=>by have Ag:k=Aa:=hk;omega);have Bv:=Ap.1;have Bw:=Ar.thenUpd Ap (fun k hk=>by have Ag:k=Aa:=hk;omega);have Bx:=Aw.thenUpd Ap (fun k hk=>by have Ag:k=Aa:=hk;omega);have A9:=Af.updLo Ap AGi;refine AGr (AGz (⟨_,AU7 AUa rfl rfl A7,?_⟩));have Am:L1.length<=100:=Aed Ah (by rw [Ac];exact hb);refine ⟨A8,⟨true,_,L1,rfl,A9.mono AGi,Ah,Am,?_⟩⟩
   first
   | (rw [Ac];done)
   | (have h0:L1=[]:=List.length_eq_zero_iff.1 AGi
      rw [<- Ac,h0];exact (Akw _).trans (Akw _).symm)
  ·refine ATj rfl (AGj (AV6 (v:= .agg #[.bool false,.slice a1 n1 c1]) (Ao7 false a1 n1 c1) (AU0 [.bool false,.slice a1 n1 c1] AUa rfl rfl rfl rfl (Abn Af.cap) Av fun By Ba Aq=>?_)));have Bb:=Au.thenUpd Aq (fun k hk=>by have Ag:k=Aa:=hk;omega);have Bz:=Aq.1;have B1:=Ar.thenUpd Aq (fun k hk=>by have Ag:k=Aa:=hk;omega);have B3:=Aw.thenUpd Aq (fun k hk=>by have Ag:k=Aa:=hk;omega);have Bc:=Af.updLo Aq AGi;refine AGr (AGz (⟨_,AU7 AUa rfl rfl Ba,?_⟩));have Am:L1.length<=100:=Aed Ah (by rw [Ac];exact hb);refine ⟨Bb,⟨false,_,L1,rfl,Bc.mono AGi,Ah,Am,?_⟩⟩
   first
   | (rw [Ac];done)
   | (have h0:L1=[]:=List.length_eq_zero_iff.1 AGi
      rw [<- Ac,h0];exact (Akw _).trans (Akw _).symm)
theorem Ato {h:AGt} {lo:Nat} {va:Value} {z:Int} (HA:ZV h lo va z):ATs Tryz.prog 104 #[va] h fun x h'=>Ext h h'/\ZV h' (Array.size h) x (z):=by
 obtain ⟨na,sa,LA,rfl,HDa,htla,hla,hza⟩:=HA.out;have hna:LA.length<=1000000:=by omega
 have hba:nv LA < 4294967296 ^ 100:=Nat.lt_of_lt_of_le (Ae9 HDa.dig) (Nat.pow_le_pow_right AGk hla);refine AT5 (l:=[_]) mx Tryz.func104 rfl rfl rfl rfl rfl AGx (AGm (Abq [.bool na,sa] (fun _=>trivial) rfl rfl fun Ag h2 V3 E4 Aq Bf=>?_));have Bg:Array.size h<=Ag:=Aq;have Bh:=E4.1;have Z8:=(Ext.refl h).trans E4;refine AYx [.bool false,.slice none 0 0] AXi rfl (fun _=>trivial) fun Aa Bi Au Ab Av Bj=>?_;have Bl:Array.size h<=Aa:=Nat.le_trans E4.1 Av;have nebq1bq9:Ag≠Aa:=by have:=V3.lt;omega
 have Bm:=Ab.1;have Aw:=Z8.trans Ab;have Ai:=E4.trans Ab;have Aj:=V3.ext Ab;have Ax:=E4.trans Ab;refine AZg (AX1 (fs:=1) Adm AGx AGk rfl (AT3 AWl rfl (Aj.cell (i:=0) rfl) (AX1 (fs:=1) Ad5 AGx AGk rfl (AT3 AZy rfl (Aj.cell (i:=1) rfl) (ATd trivial rfl (Aew na (HDa.ext Ai) hna hba) fun Bn Bo hk=>?_)))));obtain ⟨Ac,Ay⟩:=hk;refine ⟨trivial,?_⟩;have Bp:=Ac.1;have Az:=Aw.trans Ac;have A3:=Ai.trans Ac;have A4:=Ax.trans Ac;have A5:=Au.ext Ac;have A6:=Ab.trans Ac;obtain ⟨Ak,s3,L3,rfl,Ao,A8,A9,Ap⟩:=Ay.out;refine AU0 [.bool Ak,s3] AUa rfl rfl rfl rfl (Abn Ao.cap) A5 fun Bq Ba Ad=>?_;have Bb:=A3.thenUpd Ad (fun k hk=>by have Af:k=Aa:=hk;omega);have Br:=Ad.1;have Bt:=Az.thenUpd Ad (fun k hk=>by have Af:k=Aa:=hk;omega);have Bu:=A6.thenUpd Ad (fun k hk=>by have Af:k=Aa:=hk;omega);have Bv:=A4.thenUpd Ad (fun k hk=>by have Af:k=Aa:=hk;omega);have Bc:=Ao.updLo Ad AGi;refine AGr (AGz (⟨_,AU7 AUa rfl rfl Ba,?_⟩));exact ⟨Bb,⟨Ak,s3,L3,rfl,Bc.mono AGi,A8,A9,by first | (rw [<- Ap,hza];done) | (rw [<- Ap,hza];cases na <;> simp [sgn])⟩⟩
theorem A0w {h:AGt} {lo:Nat} {va:Value} {z:Int} (HA:ZV h lo va z):ATs Tryz.prog 102 #[va] h fun x h'=>Ext h h'/\ZV h' (Array.size h) x (-z):=by
 obtain ⟨na,sa,LA,rfl,HDa,htla,hla,hza⟩:=HA.out;have hna:LA.length<=1000000:=by omega
 have hba:nv LA < 4294967296 ^ 100:=Nat.lt_of_lt_of_le (Ae9 HDa.dig) (Nat.pow_le_pow_right AGk hla);refine AT5 (l:=[_]) mx Tryz.func102 rfl rfl rfl rfl rfl AGx (AGm (Abq [.bool na,sa] (fun _=>trivial) rfl rfl fun Ag h2 V3 E4 Aq Bf=>?_));have Bg:Array.size h<=Ag:=Aq;have Bh:=E4.1;have Z8:=(Ext.refl h).trans E4;refine AYx [.bool false,.slice none 0 0] AXi rfl (fun _=>trivial) fun Aa Bi Au Ab Av Bj=>?_;have Bl:Array.size h<=Aa:=Nat.le_trans E4.1 Av;have nebq1bq9:Ag≠Aa:=by have:=V3.lt;omega
 have Bm:=Ab.1;have Aw:=Z8.trans Ab;have Ai:=E4.trans Ab;have Aj:=V3.ext Ab;have Ax:=E4.trans Ab;refine AZg (AX1 (fs:=1) Adm AGx AGk rfl (AT3 AWl rfl (Aj.cell (i:=0) rfl) (AWq rfl (AX1 (fs:=1) Ad5 AGx AGk rfl (AT3 AZy rfl (Aj.cell (i:=1) rfl) (ATd trivial rfl (Aew (!na) (HDa.ext Ai) hna hba) fun Bn Bo hk=>?_))))));obtain ⟨Ac,Ay⟩:=hk;refine ⟨trivial,?_⟩;have Bp:=Ac.1;have Az:=Aw.trans Ac;have A3:=Ai.trans Ac;have A4:=Ax.trans Ac;have A5:=Au.ext Ac;have A6:=Ab.trans Ac;obtain ⟨Ak,s3,L3,rfl,Ao,A8,A9,Ap⟩:=Ay.out;refine AU0 [.bool Ak,s3] AUa rfl rfl rfl rfl (Abn Ao.cap) A5 fun Bq Ba Ad=>?_;have Bb:=A3.thenUpd Ad (fun k hk=>by have Af:k=Aa:=hk;omega);have Br:=Ad.1;have Bt:=Az.thenUpd Ad (fun k hk=>by have Af:k=Aa:=hk;omega);have Bu:=A6.thenUpd Ad (fun k hk=>by have Af:k=Aa:=hk;omega);have Bv:=A4.thenUpd Ad (fun k hk=>by have Af:k=Aa:=hk;omega);have Bc:=Ao.updLo Ad AGi;refine AGr (AGz (⟨_,AU7 AUa rfl rfl Ba,?_⟩));exact ⟨Bb,⟨Ak,s3,L3,rfl,Bc.mono AGi,A8,A9,by first | (rw [<- Ap,hza];done) | (rw [<- Ap,hza];cases na <;> simp [sgn])⟩⟩
theorem Ao8 (neg:Bool) (w:Nat) (hw:w < 18446744073709551616) (h:AGt):ATs Tryz.prog 134 #[.bool neg,.int .u64 (w:Int)] h fun x h'=>Ext h h'/\ZV h' (Array.size h) x (sgn neg w):=by
 refine AT5 (l:=[_,_]) mx Tryz.func134 rfl rfl rfl rfl rfl AGx (AGm (AYx [.bool false,.slice none 0 0] AXi rfl (fun _=>trivial) fun Ad h2 V3 E4 Ak Bc=>?_));have Be:Array.size h<=Ad:=Ak;have Bf:=E4.1;have Z8:=(Ext.refl h).trans E4;refine AZg (AGj (AGj (Aes AVg AVx rfl ?_)));rw [show IntKind.u32.wrap (w:Int)=((w % 4294967296:Nat):Int) by rw [wrap_u32];omega];refine AGj (Aqt (n:=32) rfl rfl AGk (Aes AVg AVx rfl ?_));rw [show IntKind.u32.wrap ((w:Int) / 2 ^ 32)=((w / 4294967296:Nat):Int) by rw [wrap_u32];omega];have hdg:Dig [w % 4294967296,w / 4294967296]:=by intro x hx;simp only [List.mem_cons,List.not_mem_nil,or_false] at hx;rcases hx with rfl | rfl <;> omega
 refine A4t ([w % 4294967296,w / 4294967296].map Afk) ATf Adv rfl (fun _=>trivial) rfl AGi AGi rfl (by simp [Afk,isOne]) fun g1 v1 h1 Ao E1 Bi Bj=>?_;have Bl:=E1.1;have Ap:=Z8.trans E1;have Aq:=E4.trans E1;have Ar:=V3.ext E1;have Au:=E4.trans E1;have Av:=Ao.ds (lo:=0) hdg (Nat.zero_le _);have hwv:nv [w % 4294967296,w / 4294967296]=w:=by simp only [nv];omega
 refine ATd trivial rfl (Aew neg Av ATv (by rw [hwv];exact Nat.lt_trans hw AGk)) fun Bm Bn hk=>?_;obtain ⟨Ab,Aw⟩:=hk;refine ⟨trivial,?_⟩;have Bo:=Ab.1;have Ax:=Ap.trans Ab;have Ay:=Aq.trans Ab;have Az:=Ar.ext Ab;have A3:=Au.trans Ab;obtain ⟨Af,s3,L3,rfl,Ah,A5,A6,A7⟩:=Aw.out;refine AU0 [.bool Af,s3] AUa rfl rfl rfl rfl (Abn Ah.cap) Az fun Bp A8 Ac=>?_;have A9:=Ay.thenUpd Ac (fun k hk=>by have Ai:k=Ad:=hk;omega);have Bq:=Ac.1;have Br:=Ax.thenUpd Ac (fun k hk=>by have Ai:k=Ad:=hk;omega);have Bt:=A3.thenUpd Ac (fun k hk=>by have Ai:k=Ad:=hk;omega);have Ba:=Ah.updLo Ac AGi;refine AGr (AGz (⟨_,AU7 AUa rfl rfl A8,?_⟩));exact ⟨A9,⟨Af,s3,L3,rfl,Ba.mono AGi,A5,A6,by rw [<- A7,hwv]⟩⟩
theorem Ap6 {n:Int} (hn: -9223372036854775808<=n/\n<=9223372036854775807) (h:AGt):ATs Tryz.prog 88 #[.int .i64 n] h fun x h'=>Ext h h'/\ZV h' (Array.size h) x n:=by
 refine AT5 (l:=[_]) mx Tryz.func88 rfl rfl rfl rfl rfl AGx (AGm (AYx [.bool false,.slice none 0 0] AXi rfl (fun _=>trivial) fun Aa h2 V3 E4 Au Bf=>?_));have Bg:Array.size h<=Aa:=Au;have Bh:=E4.1;have Z8:=(Ext.refl h).trans E4;refine AGr (AGo (AGm (AGj (AXh rfl rfl (fun Av=>?_) (fun Av=>?_)))))
 ·refine AGr (ATp rfl (AGm (AGj (Aes Ado AVg rfl ?_))));rw [show IntKind.u64.wrap n=n + 18446744073709551616 by rw [wrap_u64];omega];refine Aqq rfl ?_;rw [show IntKind.u64.wrap (0 - (n + 18446744073709551616))=((n.natAbs:Nat):Int) by rw [wrap_u64];omega];refine ATd trivial rfl (Ao8 true n.natAbs AGi _) fun x9 Bj hk=>?_;obtain ⟨Ac,Aj⟩:=hk;refine ⟨trivial,?_⟩;have Bl:=Ac.1;have Aw:=Z8.trans Ac;have Ax:=E4.trans Ac;have Ay:=V3.ext Ac;have Az:=E4.trans Ac;obtain ⟨Ad,s2,L2,rfl,Ae,Am,Ao,Ap⟩:=Aj.out;refine AU0 [.bool Ad,s2] AUa rfl rfl rfl rfl (Abn Ae.cap) Ay fun Bm A3 Af=>?_;have A4:=Ax.thenUpd Af (fun k hk=>by have Ag:k=Aa:=hk;omega);have Bn:=Af.1;have Bo:=Aw.thenUpd Af (fun k hk=>by have Ag:k=Aa:=hk;omega);have Bp:=Az.thenUpd Af (fun k hk=>by have Ag:k=Aa:=hk;omega);have A5:=Ae.updLo Af AGi;refine AGr (AGz (ATc (⟨_,AU7 AUa rfl rfl A3,?_⟩)));exact ⟨A4,⟨Ad,s2,L2,rfl,A5.mono AGi,Am,Ao,by rw [<- Ap];unfold sgn;first | (rw [if_pos rfl];omega) | (rw [if_neg AGk];omega)⟩⟩
 ·refine AGr (ATr rfl (AGy (q_t (AGm (AGj (Aes Ado AVg rfl ?_))))));rw [show IntKind.u64.wrap n=((n.natAbs:Nat):Int) by rw [wrap_u64];omega];refine ATd trivial rfl (Ao8 false n.natAbs AGi _) fun Bq Br hk=>?_;obtain ⟨Ah,Aj⟩:=hk;refine ⟨trivial,?_⟩;have Bt:=Ah.1;have A6:=Z8.trans Ah;have A7:=E4.trans Ah;have A8:=V3.ext Ah;have A9:=E4.trans Ah;obtain ⟨Ad,s2,L2,rfl,Ae,Am,Ao,Ap⟩:=Aj.out;refine AU0 [.bool Ad,s2] AUa rfl rfl rfl rfl (Abn Ae.cap) A8 fun Bu Ba Ai=>?_;have Bb:=A7.thenUpd Ai (fun k hk=>by have Ag:k=Aa:=hk;omega);have Bv:=Ai.1;have Bw:=A6.thenUpd Ai (fun k hk=>by have Ag:k=Aa:=hk;omega);have Bx:=A9.thenUpd Ai (fun k hk=>by have Ag:k=Aa:=hk;omega);have Bc:=Ae.updLo Ai AGi;refine AGr (AGz (⟨_,AU7 AUa rfl rfl Ba,?_⟩));exact ⟨Bb,⟨Ad,s2,L2,rfl,Bc.mono AGi,Am,Ao,by rw [<- Ap];unfold sgn;first | (rw [if_pos rfl];omega) | (rw [if_neg AGk];omega)⟩⟩
theorem Ava {h:AGt} {lo:Nat} {v:Value} {L:List Nat} (H:DS h lo v L) (hn:L.length<=2):ATs Tryz.prog 97 #[v] h fun x h'=>h'=h/\x= .int .u64 (nv L:Int):=by
 refine AT5 (l:=[_]) mx Tryz.func97 rfl rfl rfl rfl rfl AGx (AGm (ATw (AGu (AGo (AGm (AGu (AGp (AX0 33554424 (fun y:Nat × Nat=>[(4,.int .i64 (y.1:Int)),(3,.int .u64 (y.2:Int))]) (fun k y h'=>h'=h/\k=L.length - y.1/\y.1<=L.length/\y.2=nv (L.take y.1)) AGx L.length (0,0) ?_ ⟨rfl,rfl,trivial⟩ ?_))))))))
 ·exact ⟨rfl,rfl,Nat.zero_le _,rfl⟩
 rintro k ⟨i,w⟩ s1 h ⟨rfl,rfl,hi,hw⟩;dsimp only at hi hw ⊢;subst hw;refine AGo (AGm (AGj (AGj (AUo ATf rfl H (AXh rfl rfl (fun Ab=>?_) (fun Ab=>?_))))))
 ·refine AGj (AUn 9 true AGx rfl rfl (AGj (AUn 9 true AGx rfl rfl (AXh rfl rfl (fun Ac=>?_) (fun Ac=>?_)))))
  ·refine ATj rfl (AGr (ATp rfl (AGy (q_t (AGo (AGp ?_))))));obtain ⟨x,hx⟩:∃ x,L[i]? =some x:=⟨_,List.getElem?_eq_getElem AGi⟩;have hxb:=H.dig x (List.mem_of_getElem? hx);refine AS3 (AGj (AGj (AGj (Aa6 ATf rfl H rfl hx fun Ag Ad=>AT3 AU8 rfl Ad (BAd AVx AVg rfl (by rw [wrap_u64];omega) ?_)))));refine AGj (Agg rfl rfl AGi AGi ?_);rw [show (32:Int) * (i:Int)=((32 * i:Nat):Int) by omega];refine At2 (n:=32 * i) rfl rfl (by show 32 * i<=64;omega) ?_;have Aa:i=0∨i=1:=by omega
   have hlt:=Ai2 H.dig hi
   have hsh:IntKind.u64.wrap ((x:Int) * 2 ^ (32 * i))=((2 ^ (32 * i) * x:Nat):Int):=by
     rw [wrap_u64]
     rcases Aa with rfl | rfl
     · simp;omega
     · simp;omega
   rw [hsh]
   have Ae:2 ^ (32 * i) * x < 18446744073709551616:=by
     rcases Aa with rfl | rfl
     · simp;omega
     · simp;omega
   have Af:nv (L.take i) < 18446744073709551616:=by
     rcases Aa with rfl | rfl
     · simp at hlt ⊢;omega
     · simp at hlt ⊢;omega
   refine Amz rfl rfl (.inr (.inl rfl)) (A4v Af Ae) ?_;rw [A4w (by rw [<- Aok];exact hlt),<- Aok,<- AUu hx];refine ATi (ATh (q_b (q_t (AS3 (AGj (Ab5 rfl AGi (AGu ?_)))))));exact ⟨L.length - (i + 1),(i + 1,nv (L.take (i + 1))),by first | omega | (dsimp only;omega),⟨rfl,rfl,by first | omega | (dsimp only;omega),rfl⟩,rfl,rfl,trivial⟩
  ·refine ATj rfl (AGr (ATr rfl (AS8 (ATa (ATa (AT7 (q_t (AGm (AGj (AGu (AGz (⟨_,AS2,?_⟩))))))))))));obtain rfl:i=L.length:=by omega
   exact ⟨rfl,by rw [List.take_length] at *;rfl⟩
 ·refine AGj (AUd 9 false AGx rfl rfl (AUd 9 false AGx rfl rfl (ATm rfl (AGr (ATr rfl (AS8 (ATa (ATa (AT7 (q_t (AGm (AGj (AGu (AGz (⟨_,AS2,?_⟩)))))))))))))));obtain rfl:i=L.length:=by omega
  exact ⟨rfl,by rw [List.take_length] at *;rfl⟩
def AYc (z:Int):Int:=if z < 0 then -1 else if z=0 then 0 else 1
theorem sign_zero {z:Int} (h:z=0):AYc z=0:=by subst h;rfl
theorem sign_neg {z:Int} (h:z < 0):AYc z= -1:=if_pos h
theorem Ai4 {z:Int} (h:0 < z):AYc z=1:=by unfold AYc;rw [if_neg AGi,if_neg AGi]
theorem Am6 {h:AGt} {lo:Nat} {va:Value} {z:Int} (HA:ZV h lo va z):ATs Tryz.prog 98 #[va] h fun x h'=>Ext h h'/\x= .int .i64 (AYc z):=by
 obtain ⟨na,sa,LA,rfl,HDa,htla,hla,hza⟩:=HA.out;have hna:LA.length<=1000000:=by omega
 have hba:nv LA < 4294967296 ^ 100:=Nat.lt_of_lt_of_le (Ae9 HDa.dig) (Nat.pow_le_pow_right AGk hla);refine AT5 (l:=[_]) mx Tryz.func98 rfl rfl rfl rfl rfl AGx (AGm (Abq [.bool na,sa] (fun _=>trivial) rfl rfl fun Ak h2 V3 E4 Am Av=>?_));have Aw:Array.size h<=Ak:=Am;have Ax:=E4.1;have Z8:=(Ext.refl h).trans E4;refine AGu (AGo (AGp (AGm (AX1 (fs:=1) Ad5 AGx AGk rfl (AT3 AZy rfl (V3.cell (i:=1) rfl) (ATd trivial rfl (Aa8 (HDa.ext E4) hna) fun x9 Az hk=>?_))))));obtain ⟨Ah,L1,Ap,Af,Ad,A3⟩:=hk;refine ⟨trivial,?_⟩;have A4:=Ah.1;have A5:=Z8.trans Ah;have Ae:=E4.trans Ah;have Aq:=V3.ext Ah;have A6:=E4.trans Ah;refine AUo ATf rfl Ap (Ama rfl rfl (fun Ar=>?_) (fun Ar=>?_))
 ·refine AGu (ATp rfl (AGm (AGu (AGz (AUg (ATc (⟨_,AS2,?_⟩)))))))
  first
  | (have h0:L1=[]:=List.length_eq_zero_iff.1 AGi
     have h1:nv LA=0:=by rw [<- Ad,h0];rfl
     exact ⟨Ae,congrArg (Value.int .i64) (sign_zero (hza.trans (by rw [h1];cases na <;> rfl))).symm⟩)
  | (have h1:nv LA≠0:=fun h0=>by rw [<- Ad] at h0;have:=congrArg List.length (AY4 Af h0);rw [List.length_nil] at this;omega
     have h3:na=true:=by assumption
     exact ⟨Ae,congrArg (Value.int .i64) (sign_neg (by rw [hza,h3];unfold sgn;rw [if_pos rfl];omega)).symm⟩)
  | (have h1:nv LA≠0:=fun h0=>by rw [<- Ad] at h0;have:=congrArg List.length (AY4 Af h0);rw [List.length_nil] at this;omega
     have h3:na=false:=by assumption
     exact ⟨Ae,congrArg (Value.int .i64) (Ai4 (by rw [hza,h3];unfold sgn;rw [if_neg AGk];omega)).symm⟩)
 ·refine AGu (ATr rfl (AGm (AX1 (fs:=1) Adm AGx AGk rfl (AT3 AWl rfl (Aq.cell (i:=0) rfl) ?_))));cases A7:na
  ·refine AGu (ATr rfl (AGy (q_b (q_t (AGm (AGu (AGz (⟨_,AS2,?_⟩))))))))
   first
   | (have h0:L1=[]:=List.length_eq_zero_iff.1 AGi
      have h1:nv LA=0:=by rw [<- Ad,h0];rfl
      exact ⟨Ae,congrArg (Value.int .i64) (sign_zero (hza.trans (by rw [h1];cases na <;> rfl))).symm⟩)
   | (have h1:nv LA≠0:=fun h0=>by rw [<- Ad] at h0;have:=congrArg List.length (AY4 Af h0);rw [List.length_nil] at this;omega
      have h3:na=true:=by assumption
      exact ⟨Ae,congrArg (Value.int .i64) (sign_neg (by rw [hza,h3];unfold sgn;rw [if_pos rfl];omega)).symm⟩)
   | (have h1:nv LA≠0:=fun h0=>by rw [<- Ad] at h0;have:=congrArg List.length (AY4 Af h0);rw [List.length_nil] at this;omega
      have h3:na=false:=by assumption
      exact ⟨Ae,congrArg (Value.int .i64) (Ai4 (by rw [hza,h3];unfold sgn;rw [if_neg AGk];omega)).symm⟩)
  ·refine AGu (ATp rfl (AGm (AGu (AGz (AUg (ATc (⟨_,AS2,?_⟩)))))))
   first
   | (have h0:L1=[]:=List.length_eq_zero_iff.1 AGi
      have h1:nv LA=0:=by rw [<- Ad,h0];rfl
      exact ⟨Ae,congrArg (Value.int .i64) (sign_zero (hza.trans (by rw [h1];cases na <;> rfl))).symm⟩)
   | (have h1:nv LA≠0:=fun h0=>by rw [<- Ad] at h0;have:=congrArg List.length (AY4 Af h0);rw [List.length_nil] at this;omega
      have h3:na=true:=by assumption
      exact ⟨Ae,congrArg (Value.int .i64) (sign_neg (by rw [hza,h3];unfold sgn;rw [if_pos rfl];omega)).symm⟩)
   | (have h1:nv LA≠0:=fun h0=>by rw [<- Ad] at h0;have:=congrArg List.length (AY4 Af h0);rw [List.length_nil] at this;omega
      have h3:na=false:=by assumption
      exact ⟨Ae,congrArg (Value.int .i64) (Ai4 (by rw [hza,h3];unfold sgn;rw [if_neg AGk];omega)).symm⟩)
def Afg (a b:Nat):Int:=if a < b then -1 else if a=b then 0 else 1
theorem Ach {a b:Nat} (h:a < b):Afg a b= -1:=if_pos h
theorem Aci {a b:Nat} (h:b < a):Afg a b=1:=by unfold Afg;rw [if_neg AGi,if_neg AGi]
theorem Ai5 {a b:Nat} (h:a=b):Afg a b=0:=by unfold Afg;rw [if_neg AGi,if_pos h]
theorem Acj {A B:List Nat} (ha:Dig A) (hb:TL B) (h:A.length < B.length):nv A < nv B:=by
 have h1:=Ae9 ha;have h2:=A4s hb (fun he=>by rw [he] at h;simp at h);have h3:4294967296 ^ A.length<=4294967296 ^ (B.length - 1):=Nat.pow_le_pow_right AGk AGi;omega
theorem Ack {A B:List Nat} (ha:Dig A) (hb:Dig B) {i x y:Nat} (hl:A.length=B.length) (hx:A[i]? =some x) (hy:B[i]? =some y) (hxy:x < y) (hs:∀ q,i < q->A[q]? =B[q]?):nv A < nv B:=by
 have hi:=(List.getElem?_eq_some_iff.1 hx).1;have hd:A.drop (i + 1)=B.drop (i + 1):=List.ext_getElem? fun q=>by rw [List.getElem?_drop,List.getElem?_drop];exact hs _ AGi
 have e:∀ L:List Nat,nv L=nv (L.take (i + 1)) + 4294967296 ^ (L.take (i + 1)).length * nv (L.drop (i + 1)):=fun L=>by rw [<- Anj,List.take_append_drop]
 rw [e A,e B,hd,AUu hx,AUu hy,List.length_take,List.length_take,hl];have h1:=Ai2 ha (i:=i) AGi;have h2:4294967296 ^ i * (x + 1)<=4294967296 ^ i * y:=Nat.mul_le_mul_left _ hxy;rw [Nat.mul_add,Nat.mul_one] at h2;omega
theorem Ard {h:AGt} {la lb:Nat} {va vb:Value} {LA LB:List Nat} (HA:DS h la va LA) (HB:DS h lb vb LB) (hta:TL LA) (htb:TL LB) (hna:LA.length<=1000000) (hnb:LB.length<=1000000):ATs Tryz.prog 135 #[va,vb] h fun x h'=>h'=h/\x= .int .i64 (Afg (nv LA) (nv LB)):=by
 refine AT5 (l:=[_,_]) mx Tryz.func135 rfl rfl rfl rfl rfl AGx (AGm (AGu (AGo (AGm (AGj (AUo ATf rfl HA (AGj (AUo ATf rfl HB (Awt rfl rfl (fun Ac=>?_) (fun Ac=>?_))))))))))
 ·refine AGr (ATp rfl (AGo (AGm (AGj (AUo ATf rfl HA (AGj (AUo ATf rfl HB (AXh rfl rfl (fun Ad=>?_) (fun Ad=>?_)))))))))
  ·refine AGr (ATp rfl (AGm (AGu (AGz (ATc (ATc (⟨_,AS2,?_⟩)))))))
   first
   | exact ⟨rfl,congrArg (Value.int .i64) (Ach (Acj HA.dig htb AGi)).symm⟩
   | exact ⟨rfl,congrArg (Value.int .i64) (Aci (Acj HB.dig hta AGi)).symm⟩
   | exact ⟨rfl,congrArg (Value.int .i64) (Ach (Ack HA.dig HB.dig AGi hx hy AGi (fun q hq=>hsame q AGi))).symm⟩
   | exact ⟨rfl,congrArg (Value.int .i64) (Aci (Ack HB.dig HA.dig AGi hy hx AGi (fun q hq=>(hsame q AGi).symm))).symm⟩
   | exact ⟨rfl,congrArg (Value.int .i64) (Ai5 (congrArg nv (List.ext_getElem? fun q=>hsame q AGi))).symm⟩
  ·refine AGr (ATr rfl (AGy (q_t (AGm (AGu (AGz (ATc (⟨_,AS2,?_⟩))))))))
   first
   | exact ⟨rfl,congrArg (Value.int .i64) (Ach (Acj HA.dig htb AGi)).symm⟩
   | exact ⟨rfl,congrArg (Value.int .i64) (Aci (Acj HB.dig hta AGi)).symm⟩
   | exact ⟨rfl,congrArg (Value.int .i64) (Ach (Ack HA.dig HB.dig AGi hx hy AGi (fun q hq=>hsame q AGi))).symm⟩
   | exact ⟨rfl,congrArg (Value.int .i64) (Aci (Ack HB.dig HA.dig AGi hy hx AGi (fun q hq=>(hsame q AGi).symm))).symm⟩
   | exact ⟨rfl,congrArg (Value.int .i64) (Ai5 (congrArg nv (List.ext_getElem? fun q=>hsame q AGi))).symm⟩
 ·refine AGr (ATr rfl (AGy (q_t (AGo (AGm (AGj (AUo ATf rfl HA (Aet rfl rfl AGi AGi (AGu (AGp (AX0 2199022731312 (fun i:Nat=>[(5,.int .i64 ((i:Int) - 1))]) (fun k i h'=>h'=h/\i=k/\i<=LA.length/\ ∀ q,i<=q->LA[q]? =LB[q]?) AGx LA.length LA.length ?_ ⟨rfl,trivial⟩ ?_)))))))))))
  ·exact ⟨rfl,rfl,Nat.le_refl _,fun q hq=>by rw [List.getElem?_eq_none hq,List.getElem?_eq_none AGi]⟩
  rintro k i s1 h ⟨rfl,rfl,hi,hsame⟩;refine AGo (AGm (AGj (Amu rfl rfl (fun Ae=>?_) (fun Ae=>?_))))
  ·refine AGr (ATp rfl (AGy (q_t (AGo (AGp (AGo ?_))))));obtain ⟨x,hx⟩:∃ x,LA[i - 1]? =some x:=⟨_,List.getElem?_eq_getElem AGi⟩;obtain ⟨y,hy⟩:∃ y,LB[i - 1]? =some y:=⟨_,List.getElem?_eq_getElem AGi⟩;have e1:((i:Int) - 1)=((i - 1:Nat):Int):=by omega
   refine Aix AGx (AGj (AGj (Aa6 (n:=i - 1) ATf rfl HA (show Value.int .i64 ((i:Int) - 1)=_ by rw [e1]) hx fun a1 Af=>?_)));refine AT3 AU8 rfl Af (AGj (AGj (Aa6 (n:=i - 1) ATf rfl HB (show Value.int .i64 ((i:Int) - 1)=_ by rw [e1]) hy fun a2 Ag=>?_)));refine AT3 AU8 rfl Ag (Awt rfl rfl (fun Ah=>?_) (fun Ah=>?_))
   ·refine AGr (ATp rfl (AGo (AGo (Aix AGx (AGj (AGj (Aa6 (n:=i - 1) ATf rfl HA (show Value.int .i64 ((i:Int) - 1)=_ by rw [e1]) hx fun a3 Ai=>?_)))))));refine AT3 AU8 rfl Ai (AGj (AGj (Aa6 (n:=i - 1) ATf rfl HB (show Value.int .i64 ((i:Int) - 1)=_ by rw [e1]) hy fun a4 Aj=>?_)));refine AT3 AU8 rfl Aj (AXh rfl rfl (fun Ak=>?_) (fun Ak=>?_))
    ·refine AGr (ATp rfl (AGm (AGu (AGz (ATc (AUg (ATc (ATc (AUg (ATc (⟨_,AS2,?_⟩)))))))))))
     first
     | exact ⟨rfl,congrArg (Value.int .i64) (Ach (Acj HA.dig htb AGi)).symm⟩
     | exact ⟨rfl,congrArg (Value.int .i64) (Aci (Acj HB.dig hta AGi)).symm⟩
     | exact ⟨rfl,congrArg (Value.int .i64) (Ach (Ack HA.dig HB.dig AGi hx hy AGi (fun q hq=>hsame q AGi))).symm⟩
     | exact ⟨rfl,congrArg (Value.int .i64) (Aci (Ack HB.dig HA.dig AGi hy hx AGi (fun q hq=>(hsame q AGi).symm))).symm⟩
     | exact ⟨rfl,congrArg (Value.int .i64) (Ai5 (congrArg nv (List.ext_getElem? fun q=>hsame q AGi))).symm⟩
    ·refine AGr (ATr rfl (AGy (q_t (AGm (AGu (AGz (AUg (ATc (ATc (AUg (ATc (⟨_,AS2,?_⟩))))))))))))
     first
     | exact ⟨rfl,congrArg (Value.int .i64) (Ach (Acj HA.dig htb AGi)).symm⟩
     | exact ⟨rfl,congrArg (Value.int .i64) (Aci (Acj HB.dig hta AGi)).symm⟩
     | exact ⟨rfl,congrArg (Value.int .i64) (Ach (Ack HA.dig HB.dig AGi hx hy AGi (fun q hq=>hsame q AGi))).symm⟩
     | exact ⟨rfl,congrArg (Value.int .i64) (Aci (Ack HB.dig HA.dig AGi hy hx AGi (fun q hq=>(hsame q AGi).symm))).symm⟩
     | exact ⟨rfl,congrArg (Value.int .i64) (Ai5 (congrArg nv (List.ext_getElem? fun q=>hsame q AGi))).symm⟩
   ·refine AGr (ATr rfl (AGy (q_b (q_t (AS3 (AGj (Aet rfl rfl AGi AGi (AGu ?_))))))));exact ⟨i - 1,i - 1,AGi,⟨rfl,rfl,AGi,fun q hq=>by rcases Nat.lt_or_ge q i with h2 | h2;obtain rfl:q=i - 1:=AGi;rw [hx,hy];congr 1;omega;exact hsame q h2⟩,by rw [show ((i - 1:Nat):Int) - 1=(i:Int) - 1 - 1 by omega];rfl,trivial⟩
  ·refine AGr (ATr rfl (AS8 (ATa (ATa (AT7 (q_t (AGm (AGu (AGz (⟨_,AS2,?_⟩))))))))))
   first
   | exact ⟨rfl,congrArg (Value.int .i64) (Ach (Acj HA.dig htb AGi)).symm⟩
   | exact ⟨rfl,congrArg (Value.int .i64) (Aci (Acj HB.dig hta AGi)).symm⟩
   | exact ⟨rfl,congrArg (Value.int .i64) (Ach (Ack HA.dig HB.dig AGi hx hy AGi (fun q hq=>hsame q AGi))).symm⟩
   | exact ⟨rfl,congrArg (Value.int .i64) (Aci (Ack HB.dig HA.dig AGi hy hx AGi (fun q hq=>(hsame q AGi).symm))).symm⟩
   | exact ⟨rfl,congrArg (Value.int .i64) (Ai5 (congrArg nv (List.ext_getElem? fun q=>hsame q AGi))).symm⟩
theorem Aza {P:Program} {a b:Nat} (ha:a < 4294967296) (hb:b < 4294967296) (w:World):(Op.intBits .or .u32 (a:Int) (b:Int)).run P w= .ok (.int .u32 ((a ||| b:Nat):Int)) w:=by
 have h1:(BitVec.ofInt 32 (a:Int)).toNat=a:=by rw [BitVec.toNat_ofInt];omega
 have h2:(BitVec.ofInt 32 (b:Int)).toNat=b:=by rw [BitVec.toNat_ofInt];omega
 have h3:a ||| b < 2 ^ 32:=Nat.or_lt_two_pow AGi AGi;simp only [Op.intBits];show Result.ok (Value.int .u32 (IntKind.u32.wrap ((BitVec.ofInt 32 (a:Int) ||| BitVec.ofInt 32 (b:Int)).toNat:Int))) w=_;rw [BitVec.toNat_or,h1,h2,wrap_u32,Int.emod_eq_of_lt AGi AGi]
theorem Aw5 {P:Program} {a:Nat} (ha:a < 4294967296) (w:World):(Op.intBits .and .u32 (a:Int) 1).run P w= .ok (.int .u32 ((a % 2:Nat):Int)) w:=by
 have h1:(BitVec.ofInt 32 (a:Int)).toNat=a:=by rw [BitVec.toNat_ofInt];omega
 have h2:(BitVec.ofInt 32 (1:Int)).toNat=1:=by decide
 simp only [Op.intBits];show Result.ok (Value.int .u32 (IntKind.u32.wrap ((BitVec.ofInt 32 (a:Int) &&& BitVec.ofInt 32 (1:Int)).toNat:Int))) w=_;rw [BitVec.toNat_and,h1,h2,Nat.and_one_is_mod,wrap_u32,Int.emod_eq_of_lt AGi AGi]
theorem Alp {L:List Nat} {i:Nat} (h:L.length<=i):nv (L.take i)=nv L:=by rw [List.take_of_length_le h]
theorem A8a {h:AGt} {la lb:Nat} {va vb:Value} {LA LB:List Nat} (HA:DS h la va LA) (HB:DS h lb vb LB) (hna:LA.length<=1000) (hnb:LB.length<=1000):ATs Tryz.prog 163 #[va,vb] h fun x h'=>Ext h h'/\ ∃ L,DS h' (Array.size h) x L/\nv L=nv LA + nv LB/\L.length<=1001:=by
 refine AT5 (l:=[_,_]) mx Tryz.func163 rfl rfl rfl rfl rfl AGx (AGm (ATw (ATw (AGu (AGo (AGm ?_))))));refine AGu (AGp (AX0 562949953421280 (fun y:Nat × Value × Nat=>[(7,.int .i64 (y.1:Int)),(5,y.2.1),(6,.int .u64 (y.2.2:Int))]) (fun k y h'=>k=LA.length + LB.length - y.1/\(y.1<=LA.length∨y.1<=LB.length)/\Ext h h'/\y.2.2<=1/\ ∃ D,Gro h' 170 (Array.size h) y.2.1 (D.map Afk)/\D.length=y.1/\Dig D/\nv D + 4294967296 ^ y.1 * y.2.2=nv (LA.take y.1) + nv (LB.take y.1)) AGx (LA.length + LB.length) (0,.slice none 0 0,0) ?_ ⟨rfl,rfl,rfl,trivial⟩ ?_))
 ·exact ⟨rfl,.inl (Nat.zero_le _),(Ext.refl _),by first | omega | (dsimp only;omega),[],Au3 _ _ _,rfl,fun x hx=>(by simp at hx),rfl⟩
 rintro k ⟨i,vo,c⟩ s1 h2 ⟨rfl,hi,E2,hc,D,HG,hDl,hDd,hDv⟩;dsimp only at hi hc HG hDl hDv ⊢;have hga:=Au7 HA.dig i;have hgb:=Au7 HB.dig i;have Av:=E2.1;refine AGo (AGm (AGj (AGj (AUo ATf rfl (HA.ext E2) (AXh rfl rfl (fun Ae=>?_) (fun Ae=>?_))))))
 ·refine AGj (AUd 12 true AGx rfl rfl (AUd 12 true AGx rfl rfl (AUd 12 true AGx rfl rfl (AUd 12 true AGx rfl rfl (ATj rfl (AGr (ATp rfl (AGy (q_t (AGo (AGp (Amp 2146435136 (fun q:Nat=>[(6,.int .u64 (q:Int))]) (fun q h'=>h'=h2/\q=c + LA[i]?.getD 0) AGx ?_ ?_))))))))))))
  ·refine AGm (AGj (AGj (AUo ATf rfl (HA.ext E2) (AXh rfl rfl (fun Af=>?_) (fun Af=>?_)))))
   ·refine AGr (ATp rfl ?_);obtain ⟨x,hx⟩:∃ x,LA[i]? =some x:=⟨_,List.getElem?_eq_getElem AGi⟩;have hbx:=HA.dig x (List.mem_of_getElem? hx);refine AS3 (AGj (AGj (AGj (Aa6 ATf rfl (HA.ext E2) rfl hx fun Aw Ag=>AT3 AU8 rfl Ag (Akg AVx AVg rfl hbx (Agk rfl rfl AGi (AGu ?_)))))));exact ⟨c + x,⟨rfl,by rw [hx];rfl⟩,rfl,trivial⟩
   ·refine AGr (ATr rfl (AGy (q_t ?_)));exact ⟨c,⟨rfl,by rw [show LA[i]? =none from List.getElem?_eq_none AGi];rfl⟩,rfl,trivial⟩
  rintro q s2 h2 ⟨rfl,rfl⟩;refine Amp 4395899027520 (fun q:Nat=>[(6,.int .u64 (q:Int))]) (fun q h'=>h'=h2/\q=c + LA[i]?.getD 0 + LB[i]?.getD 0) AGx ?_ ?_
  ·refine AGm (AGj (AGj (AUo ATf rfl (HB.ext E2) (AXh rfl rfl (fun Ah=>?_) (fun Ah=>?_)))))
   ·refine AGr (ATp rfl ?_);obtain ⟨y,hy⟩:∃ x,LB[i]? =some x:=⟨_,List.getElem?_eq_getElem AGi⟩;have hby:=HB.dig y (List.mem_of_getElem? hy);refine AS3 (AGj (AGj (AGj (Aa6 ATf rfl (HB.ext E2) rfl hy fun Ax Ai=>AT3 AU8 rfl Ai (Akg AVx AVg rfl hby (Agk rfl rfl AGi (AGu ?_)))))));exact ⟨c + LA[i]?.getD 0 + y,⟨rfl,by rw [hy];rfl⟩,rfl,trivial⟩
   ·refine AGr (ATr rfl (AGy (q_t ?_)));exact ⟨c + LA[i]?.getD 0,⟨rfl,by rw [show LB[i]? =none from List.getElem?_eq_none AGi];rfl⟩,rfl,trivial⟩
  rintro q s2 h2 ⟨rfl,rfl⟩;refine AGm (AGj (AGj (Amd AVg AVx rfl (Ank (h0:=h) ATf Adv (fun _=>trivial) (fun _=>rfl) rfl E2 HG AGk AGi fun p4 v4 h4 Ac E4=>AGu (AS3 (AGj (Alm rfl rfl (ATi (ATh (q_b (q_t (AS3 (AGj (Ab5 rfl AGi (AGu ?_)))))))))))))));exact ⟨LA.length + LB.length - (i + 1),(i + 1,v4,(c + LA[i]?.getD 0 + LB[i]?.getD 0) / 4294967296),by first | omega | (dsimp only;omega),⟨rfl,by first | omega | (dsimp only;omega),E4,by first | omega | (dsimp only;omega),_,Ac,by simp [hDl],Aev hDd (Nat.mod_lt _ AGk),by rw [Adp,hDl,Nat.add_assoc c,Aln hDv,Adq LA,Adq LB,Nat.mul_add];omega⟩,rfl,rfl,rfl,trivial⟩
 ·refine AGj (AUn 12 false AGx rfl rfl (AGj (AUn 12 false AGx rfl rfl (AGj (AUn 12 false AGx rfl rfl (AUo ATf rfl (HB.ext E2) (AUn 12 false AGx rfl rfl (AXh rfl rfl (fun Ak=>?_) (fun Ak=>?_)))))))))
  ·refine ATm rfl (AGr (ATp rfl (AGy (q_t (AGo (AGp (Amp 2146435136 (fun q:Nat=>[(6,.int .u64 (q:Int))]) (fun q h'=>h'=h2/\q=c + LA[i]?.getD 0) AGx ?_ ?_)))))))
   ·refine AGm (AGj (AGj (AUo ATf rfl (HA.ext E2) (AXh rfl rfl (fun Am=>?_) (fun Am=>?_)))))
    ·refine AGr (ATp rfl ?_);obtain ⟨x,hx⟩:∃ x,LA[i]? =some x:=⟨_,List.getElem?_eq_getElem AGi⟩;have hbx:=HA.dig x (List.mem_of_getElem? hx);refine AS3 (AGj (AGj (AGj (Aa6 ATf rfl (HA.ext E2) rfl hx fun Ay Ao=>AT3 AU8 rfl Ao (Akg AVx AVg rfl hbx (Agk rfl rfl AGi (AGu ?_)))))));exact ⟨c + x,⟨rfl,by rw [hx];rfl⟩,rfl,trivial⟩
    ·refine AGr (ATr rfl (AGy (q_t ?_)));exact ⟨c,⟨rfl,by rw [show LA[i]? =none from List.getElem?_eq_none AGi];rfl⟩,rfl,trivial⟩
   rintro q s2 h2 ⟨rfl,rfl⟩;refine Amp 4395899027520 (fun q:Nat=>[(6,.int .u64 (q:Int))]) (fun q h'=>h'=h2/\q=c + LA[i]?.getD 0 + LB[i]?.getD 0) AGx ?_ ?_
   ·refine AGm (AGj (AGj (AUo ATf rfl (HB.ext E2) (AXh rfl rfl (fun Ap=>?_) (fun Ap=>?_)))))
    ·refine AGr (ATp rfl ?_);obtain ⟨y,hy⟩:∃ x,LB[i]? =some x:=⟨_,List.getElem?_eq_getElem AGi⟩;have hby:=HB.dig y (List.mem_of_getElem? hy);refine AS3 (AGj (AGj (AGj (Aa6 ATf rfl (HB.ext E2) rfl hy fun Az Aq=>AT3 AU8 rfl Aq (Akg AVx AVg rfl hby (Agk rfl rfl AGi (AGu ?_)))))));exact ⟨c + LA[i]?.getD 0 + y,⟨rfl,by rw [hy];rfl⟩,rfl,trivial⟩
    ·refine AGr (ATr rfl (AGy (q_t ?_)));exact ⟨c + LA[i]?.getD 0,⟨rfl,by rw [show LB[i]? =none from List.getElem?_eq_none AGi];rfl⟩,rfl,trivial⟩
   rintro q s2 h2 ⟨rfl,rfl⟩;refine AGm (AGj (AGj (Amd AVg AVx rfl (Ank (h0:=h) ATf Adv (fun _=>trivial) (fun _=>rfl) rfl E2 HG AGk AGi fun p4 v4 h4 Ac E4=>AGu (AS3 (AGj (Alm rfl rfl (ATi (ATh (q_b (q_t (AS3 (AGj (Ab5 rfl AGi (AGu ?_)))))))))))))));exact ⟨LA.length + LB.length - (i + 1),(i + 1,v4,(c + LA[i]?.getD 0 + LB[i]?.getD 0) / 4294967296),by first | omega | (dsimp only;omega),⟨rfl,by first | omega | (dsimp only;omega),E4,by first | omega | (dsimp only;omega),_,Ac,by simp [hDl],Aev hDd (Nat.mod_lt _ AGk),by rw [Adp,hDl,Nat.add_assoc c,Aln hDv,Adq LA,Adq LB,Nat.mul_add];omega⟩,rfl,rfl,rfl,trivial⟩
  ·refine ATm rfl (AGr (ATr rfl (AS8 (ATa (ATa (AT7 (q_t (AGm (AGj (AGj (Amd AVg AVx rfl ?_)))))))))));rw [Nat.mod_eq_of_lt (show c < 4294967296 by omega)];refine Ank (h0:=h) ATf Adv (fun _=>trivial) (fun _=>rfl) rfl E2 HG AGk AGi fun p5 v5 h5 Ar E5=>AGu (AGz (⟨_,AS2,?_⟩));exact ⟨E5,D ++ [c],Ar.ds (Aev hDd AGi),by rw [Adp,hDl,hDv,Alp AGi,Alp AGi],by simp [hDl];omega⟩
theorem Ao9 {h:AGt} {la lb:Nat} {va vb:Value} {LA LB:List Nat} (HA:DS h la va LA) (HB:DS h lb vb LB) (htb:TL LB) (hle:nv LB<=nv LA) (hna:LA.length<=1000):ATs Tryz.prog 164 #[va,vb] h fun x h'=>Ext h h'/\ ∃ L,DS h' (Array.size h) x L/\nv L=nv LA - nv LB/\L.length<=LA.length:=by
 refine AT5 (l:=[_,_]) mx Tryz.func164 rfl rfl rfl rfl rfl AGx (AGm (ATw (ATw (AGu (AGo (AGm ?_))))));refine AGu (AGp (AX0 35184372088800 (fun y:Nat × Value × Nat=>[(7,.int .i64 (y.1:Int)),(5,y.2.1),(6,.int .u64 (y.2.2:Int))]) (fun k y h'=>k=LA.length - y.1/\y.1<=LA.length/\Ext h h'/\y.2.2<=1/\ ∃ D,Gro h' 170 (Array.size h) y.2.1 (D.map Afk)/\D.length=y.1/\Dig D/\nv D + nv (LB.take y.1)=nv (LA.take y.1) + 4294967296 ^ y.1 * y.2.2) AGx LA.length (0,.slice none 0 0,0) ?_ ⟨rfl,rfl,rfl,trivial⟩ ?_))
 ·exact ⟨rfl,Nat.zero_le _,(Ext.refl _),by first | omega | (dsimp only;omega),[],Au3 _ _ _,rfl,fun x hx=>(by simp at hx),rfl⟩
 rintro k ⟨i,vo,c⟩ s1 h2 ⟨rfl,hi,E2,hc,D,HG,hDl,hDd,hDv⟩;dsimp only at hi hc HG hDl hDv ⊢;have Am:=E2.1;refine AGo (AGm (AGj (AGj (AUo ATf rfl (HA.ext E2) (AXh rfl rfl (fun Ae=>?_) (fun Ae=>?_))))))
 ·refine AGr (ATp rfl (AGy (q_t (AGo (AGp (AGo ?_))))));obtain ⟨x,hx⟩:∃ x,LA[i]? =some x:=⟨_,List.getElem?_eq_getElem AGi⟩;have hbx:=HA.dig x (List.mem_of_getElem? hx);have hgb:=Au7 HB.dig i;refine AS3 (AGj (AGu (Amp 134152448 (fun q:Nat=>[(8,.int .u64 (q:Int))]) (fun q h'=>h'=h2/\q=c + LB[i]?.getD 0) AGx ?_ ?_)))
  ·refine AGm (AGj (AGj (AUo ATf rfl (HB.ext E2) (AXh rfl rfl (fun Af=>?_) (fun Af=>?_)))))
   ·refine AGr (ATp rfl ?_);obtain ⟨y,hy⟩:∃ x,LB[i]? =some x:=⟨_,List.getElem?_eq_getElem AGi⟩;have hby:=HB.dig y (List.mem_of_getElem? hy);refine AS3 (AGj (AGj (AGj (Aa6 ATf rfl (HB.ext E2) rfl hy fun Ao Ag=>AT3 AU8 rfl Ag (Akg AVx AVg rfl hby (Agk rfl rfl AGi (AGu ?_)))))));exact ⟨c + y,⟨rfl,by rw [hy];rfl⟩,rfl,trivial⟩
   ·refine AGr (ATr rfl (AGy (q_t ?_)));exact ⟨c,⟨rfl,by rw [show LB[i]? =none from List.getElem?_eq_none AGi];rfl⟩,rfl,trivial⟩
  rintro q s2 h2 ⟨rfl,rfl⟩;refine AGm (AGj (AGj (AGj (Aa6 ATf rfl (HA.ext E2) rfl hx fun Ap Ah=>AT3 AU8 rfl Ah (Akg AVx AVg rfl hbx (AGj (AVd rfl rfl ?_)))))));rw [wrap_u64];refine Aes AVg AVx rfl ?_;obtain ⟨dg,hdg⟩:∃ dg:Nat,(dg:Int)=((x:Int) - ((c + LB[i]?.getD 0:Nat):Int)) % 4294967296:=⟨(((x:Int) - ((c + LB[i]?.getD 0:Nat):Int)) % 4294967296).toNat,AGi⟩;rw [show IntKind.u32.wrap (((x:Int) - ((c + LB[i]?.getD 0:Nat):Int)) % 18446744073709551616)=(dg:Int) by rw [wrap_u32,hdg];omega];refine Ank (h0:=h) ATf Adv (fun _=>trivial) (fun _=>rfl) rfl E2 HG AGk AGi fun p4 v4 h4 Ad E4=>ATw (ATw (AGj (AGj (Aa6 ATf rfl (HA.ext E4) rfl hx fun Ar Ai=>AT3 AU8 rfl Ai (Akg AVx AVg rfl hbx (AGj (AXh rfl rfl (fun Aj=>?_) (fun Aj=>?_))))))))
  ·refine AGr (ATp rfl (AS3 (ATi (ATh (q_b (q_t (AS3 (AGj (Ab5 rfl AGi (AGu ?_))))))))));exact ⟨LA.length - (i + 1),(i + 1,v4,1),by first | omega | (dsimp only;omega),⟨rfl,by first | omega | (dsimp only;omega),E4,by first | omega | (dsimp only;omega),_,Ad,by simp [hDl],Aev hDd AGi,by rw [Adp,hDl,Adq LB,AUu hx];exact Am0 hDv (by first | omega | (dsimp only;omega))⟩,rfl,rfl,rfl,trivial⟩
  ·refine AGr (ATr rfl (AGy (q_b (q_t (AS3 (AGj (Ab5 rfl AGi (AGu ?_))))))));exact ⟨LA.length - (i + 1),(i + 1,v4,0),by first | omega | (dsimp only;omega),⟨rfl,by first | omega | (dsimp only;omega),E4,by first | omega | (dsimp only;omega),_,Ad,by simp [hDl],Aev hDd AGi,by rw [Adp,hDl,Adq LB,AUu hx];exact Am0 hDv (by first | omega | (dsimp only;omega))⟩,rfl,rfl,rfl,trivial⟩
 ·refine AGr (ATr rfl (AS8 (ATa (ATa (AT7 (q_t (AGm (AGj (AGu (AGz (⟨_,AS2,?_⟩)))))))))));obtain rfl:i=LA.length:=by omega
  rw [List.take_length,Alp (by have:=Aed htb (Nat.lt_of_le_of_lt hle (Ae9 HA.dig));omega)] at hDv;have hDlt:=Ae9 hDd;rw [hDl] at hDlt
  have Ak:c=0:=by
    rcases Nat.eq_zero_or_pos c with h0 | h0
    · exact h0
    · obtain rfl:c=1:=by omega
      rw [Nat.mul_one] at hDv;omega
  subst Ak;rw [Nat.mul_zero,Nat.add_zero] at hDv;exact ⟨E2,D,HG.ds hDd,AGi,AGi⟩
theorem Ase {h:AGt} {lo:Nat} {v:Value} {L:List Nat} (b:Nat) (hb:b<=1) (H:DS h lo v L) (hn:L.length<=1000):ATs Tryz.prog 179 #[v,.int .u32 (b:Int)] h fun x h'=>Ext h h'/\ ∃ L',DS h' (Array.size h) x L'/\nv L'=2 * nv L + b/\L'.length<=L.length + 1:=by
 refine AT5 (l:=[_,_]) mx Tryz.func179 rfl rfl rfl rfl rfl AGx (AGm (ATw (AGu (AGo (AGm (AGj (AUo ATf rfl H (AGj (AGr (AGp (AX0 16776354 (fun y:Nat × Value × Nat=>[(10,.int .i64 (y.1:Int)),(5,y.2.1),(1,.int .u32 (y.2.2:Int))]) (fun k y h'=>k=L.length - y.1/\y.1<=L.length/\Ext h h'/\y.2.2<=1/\ ∃ D,Gro h' 170 (Array.size h) y.2.1 (D.map Afk)/\D.length=y.1/\Dig D/\nv D + 4294967296 ^ y.1 * y.2.2=2 * nv (L.take y.1) + b) AGx L.length (0,.slice none 0 0,b) ?_ ⟨rfl,rfl,rfl,trivial⟩ ?_)))))))))))
 ·exact ⟨rfl,Nat.zero_le _,(Ext.refl _),hb,[],Au3 _ _ _,rfl,fun x hx=>(by simp at hx),by simp [nv]⟩
 rintro k ⟨i,vo,c⟩ s1 h2 ⟨rfl,hi,E2,hc,D,HG,hDl,hDd,hDv⟩;dsimp only at hi hc HG hDl hDv ⊢;have Aj:=E2.1;refine AGm (AXh rfl rfl (fun Ab=>?_) (fun Ab=>?_))
 ·refine AGr (AGo (ATp rfl (AGy (q_t (AGo (AGp (AGo ?_)))))));obtain ⟨x,hx⟩:∃ x,L[i]? =some x:=⟨_,List.getElem?_eq_getElem AGi⟩;have hbx:=H.dig x (List.mem_of_getElem? hx);refine AS3 (Aa6 ATf rfl (H.ext E2) rfl hx fun Ak Ac=>AT3 AU8 rfl Ac (ATw (AGj (AGj (At2 (n:=1) rfl rfl AGk ?_)))));rw [show IntKind.u32.wrap ((x:Int) * 2 ^ 1)=((2 * x % 4294967296:Nat):Int) by rw [wrap_u32];omega];refine AGj (Amz rfl rfl (.inr (.inl rfl)) (Aza (Nat.mod_lt _ AGk) AGi) ?_)
  have hor:2 * x % 4294967296 ||| c=2 * x % 4294967296 + c:=by
    have h1:2 * x % 4294967296=2 ^ 1 * (x % 2147483648):=by omega
    rw [h1,<- Nat.two_pow_add_eq_or_of_lt AGi]
  rw [hor];refine Ank (h0:=h) ATf Adv (fun _=>trivial) (fun _=>rfl) rfl E2 HG AGk AGi fun p4 v4 h4 Ae E4=>AGu (AS3 (AGj (Aqt (n:=31) rfl rfl AGk ?_)));rw [show (x:Int) / 2 ^ 31=((x / 2147483648:Nat):Int) by omega];refine ATi (ATh (q_b (q_t (AS3 (Ab5 rfl AGi (AGj (AGr ?_)))))));exact ⟨L.length - (i + 1),(i + 1,v4,x / 2147483648),by first | omega | (dsimp only;omega),⟨rfl,by first | omega | (dsimp only;omega),E4,by first | omega | (dsimp only;omega),_,Ae,by simp [hDl],Aev hDd AGi,by rw [Adp,hDl,A4x hDv (show 2 * x % 4294967296 + c + 4294967296 * (x / 2147483648)=2 * x + c by omega),AUu hx,Nat.mul_add,Nat.mul_left_comm];omega⟩,rfl,rfl,rfl,trivial⟩
 ·refine AGr (AGo (ATr rfl (AS8 (ATa (ATa (AT7 (q_t (AGm (AGj (AGj (Ank (h0:=h) ATf Adv (fun _=>trivial) (fun _=>rfl) rfl E2 HG AGk AGi fun p5 v5 h5 Ag E5=>AGu (AGz (⟨_,AS2,?_⟩)))))))))))));obtain rfl:i=L.length:=by omega
  rw [List.take_length] at hDv;exact ⟨E5,D ++ [c],Ag.ds (Aev hDd AGi),by rw [Adp,hDl,hDv],by simp [hDl]⟩
theorem Ahc {a b:Nat} (h:0<=Afg a b):b<=a:=by
 unfold Afg at h;split at h
 ·omega
 ·omega
theorem Alq {a b:Nat} (h:Afg a b < 0):a<=b:=by
 unfold Afg at h;split at h
 ·omega
 ·split at h <;> omega
theorem Asf {A B:List Nat} (ha:Dig A) (hb:Dig B) (la:A.length<=99) (lb:B.length<=99):nv A + nv B < 4294967296 ^ 100:=by
 have h1:=Ae9 ha;have h2:=Ae9 hb;have h3:4294967296 ^ A.length<=4294967296 ^ 99:=Nat.pow_le_pow_right AGk la;have h4:4294967296 ^ B.length<=4294967296 ^ 99:=Nat.pow_le_pow_right AGk lb;have h5:4294967296 ^ 100=4294967296 ^ 99 * 4294967296:=Nat.pow_succ 4294967296 99;rw [h5];have h6:0 < 4294967296 ^ 99:=Nat.pow_pos AGk;generalize 4294967296 ^ 99=t at *;omega
theorem Alr {a b:Bool} {x y:Nat} (h:a=b):sgn a x + sgn b y=sgn a (x + y):=by
 subst h;cases a <;> simp [sgn] <;> omega
theorem Als {a b:Bool} {x y:Nat} (h:a≠b) (hl:y<=x):sgn a x + sgn b y=sgn a (x - y):=by
 cases a <;> cases b <;> simp [sgn] at h ⊢ <;> omega
theorem Ai6 {a b:Bool} {x y:Nat} (h:a≠b) (hl:x<=y):sgn a x + sgn b y=sgn b (y - x):=by
 cases a <;> cases b <;> simp [sgn] at h ⊢ <;> omega
theorem AXn {ng:Bool} {n:Nat} {z:Int} (h:z=sgn ng n):z.natAbs=n:=by
 subst h;cases ng <;> simp [sgn]
theorem A0x (ng:Bool) (n:Nat):sgn (!ng) n= -sgn ng n:=by cases ng <;> simp [sgn]
theorem Avb (a b:Bool) (x y:Nat):sgn a x * sgn b y=sgn (!(a == b)) (x * y):=by
 cases a <;> cases b <;> simp [sgn,Int.neg_mul,Int.mul_neg]
theorem Azb {L:List Nat} (h:Dig L) (hl:L.length<=2):nv L < 18446744073709551616:=by
 have h1:=Ae9 h;have h2:4294967296 ^ L.length<=4294967296 ^ 2:=Nat.pow_le_pow_right AGk hl;omega
theorem A2o {h:AGt} {lo:Nat} {va:Value} {z:Int} (HA:ZV h lo va z) (hb:z.natAbs < 9223372036854775808):ATs Tryz.prog 48 #[va] h fun x h'=>Ext h h'/\x= .tuple #[.int .i64 z,.bool true]:=by
 obtain ⟨na,sa,LA,rfl,HDa,htla,hla,hza⟩:=HA.out;refine AT5 (l:=[_]) mx Tryz.func48 rfl rfl rfl rfl rfl AGx (AGm (Abq [.bool na,sa] (fun _=>trivial) rfl rfl fun Aj h2 V3 E4 Ak Au=>?_));have Av:Array.size h<=Aj:=Ak;have Aw:=E4.1;have Z8:=(Ext.refl h).trans E4;refine ATi (ATw (AX1 (fs:=1) Ad5 AGx AGk rfl (AT3 AZy rfl (V3.cell (i:=1) rfl) (ATd trivial rfl (Aa8 (HDa.ext E4) AGi) fun x9 Am hk=>?_))));obtain ⟨Ad,L1,Ag,Ap,Ah,Az⟩:=hk;refine ⟨trivial,?_⟩;have A3:=Ad.1;have Ac:=E4.trans Ad;have Ai:=V3.ext Ad;refine ATw (AGj ?_);have Aq:L1.length<=2:=Aed Ap (by rw [Ah,<- AXn hza];exact Nat.lt_of_lt_of_le hb AGk);refine ATd trivial rfl (Ava Ag Aq) fun A4 Am hk=>?_;obtain ⟨rfl,rfl⟩:=hk;refine ⟨trivial,?_⟩;refine AGu (AGo (AGp (AGm (AGj (AUo ATf rfl Ag (Aju rfl rfl (fun hc=>absurd hc AGi) (fun _=>AGu (ATr rfl (AGo ?_)))))))));have hab:=AXn hza;rw [Ah];refine AS3 (AX1 (fs:=1) Adm AGx AGk rfl (AT3 AWl rfl (Ai.cell (i:=0) rfl) ?_));cases Ae:na
 ·refine AGj (AUd 18 false AGx rfl rfl (AUd 18 false AGx rfl rfl (ATm rfl (AGu (ATr rfl (AGm (AX1 (fs:=1) Adm AGx AGk rfl (AT3 AWl rfl (Ai.cell (i:=0) rfl) ?_))))))));rw [Ae];refine AWq rfl (AGj (AUn 29 true AGx rfl rfl (AGj (AUn 29 true AGx rfl rfl (AXh rfl rfl (fun _=>?_) (fun hc=>absurd hc AGi))))));refine ATj rfl (AGu (ATp rfl (AGm (AGj (Aes AVg Ado rfl (ATi (AGu (AGz (AUg (ATc (⟨_,AUk,?_⟩)))))))))));have Aa:z=sgn na (nv LA):=hza;rw [Ae] at Aa;unfold sgn at Aa
  first
  | (rw [if_pos rfl] at Aa
     exact ⟨Ac,congrArg (fun t=>Value.tuple #[.int .i64 t,.bool true]) (show IntKind.i64.wrap (IntKind.u64.wrap (0 - ((nv LA:Nat):Int)))=z by rw [wrap_u64,IntKind.wrap_i64];omega)⟩)
  | (rw [if_neg AGk] at Aa
     exact ⟨Ac,congrArg (fun t=>Value.tuple #[.int .i64 t,.bool true]) (show IntKind.i64.wrap ((nv LA:Nat):Int)=z by rw [IntKind.wrap_i64];omega)⟩)
 ·refine AGj (AUn 18 true AGx rfl rfl (AGj (AUn 18 true AGx rfl rfl (Amt rfl rfl (fun _=>?_) (fun hc=>absurd hc AGi)))));refine ATj rfl (AGu (ATp rfl (AGm (AGj (Aqq rfl (Aes AVg Ado rfl (ATi (AGu (AGz (AUg (ATc (⟨_,AUk,?_⟩))))))))))));have Aa:z=sgn na (nv LA):=hza;rw [Ae] at Aa;unfold sgn at Aa
  first
  | (rw [if_pos rfl] at Aa
     exact ⟨Ac,congrArg (fun t=>Value.tuple #[.int .i64 t,.bool true]) (show IntKind.i64.wrap (IntKind.u64.wrap (0 - ((nv LA:Nat):Int)))=z by rw [wrap_u64,IntKind.wrap_i64];omega)⟩)
  | (rw [if_neg AGk] at Aa
     exact ⟨Ac,congrArg (fun t=>Value.tuple #[.int .i64 t,.bool true]) (show IntKind.i64.wrap ((nv LA:Nat):Int)=z by rw [IntKind.wrap_i64];omega)⟩)
theorem Are {h:AGt} {la lb:Nat} {va vb:Value} {a b:Int} (HA:ZV h la va a) (HB:ZV h lb vb b) (hba:a.natAbs < 4294967296 ^ 99) (hbb:b.natAbs < 4294967296 ^ 99):ATs Tryz.prog 139 #[va,vb] h fun x h'=>Ext h h'/\ZV h' (Array.size h) x (a + b):=by
 obtain ⟨na,sa,LA,rfl,HDa,htla,hla,hza⟩:=HA.out;obtain ⟨nb,sb,LB,rfl,HDb,htlb,hlb,hzb⟩:=HB.out;refine AT5 (l:=[_,_]) mx Tryz.func139 rfl rfl rfl rfl rfl AGx (AGm (Abq [.bool na,sa] (fun _=>trivial) rfl rfl fun Bl h2 V3 E4 Ce Fd=>?_));have Fe:Array.size h<=Bl:=Ce;have Ff:=E4.1;have Z8:=(Ext.refl h).trans E4;refine Abq [.bool nb,sb] (fun _=>trivial) rfl rfl fun Bm Fg A7 A4 Cg Fh=>?_;have Fi:Array.size h<=Bm:=Nat.le_trans E4.1 Cg;have nebq1bq9:Bl≠Bm:=by have:=V3.lt;omega
 have Fj:=A4.1;have Ch:=Z8.trans A4;have B1:=E4.trans A4;have A8:=V3.ext A4;have Ci:=E4.trans A4;refine AYx [.bool false,.slice none 0 0] AXi rfl (fun _=>trivial) fun Aa B3 Cj Ar Ck Fk=>?_;have Fl:Array.size h<=Aa:=Nat.le_trans B1.1 Ck;have nebq1bq20:Bl≠Aa:=by have:=A8.lt;omega
 have nebq9bq20:Bm≠Aa:=by have:=A7.lt;omega
 have Fm:=Ar.1;have Cm:=Ch.trans Ar;have B4:=B1.trans Ar;have B5:=A8.ext Ar;have Cn:=Ci.trans Ar;have B6:=A7.ext Ar;have Co:=A4.trans Ar;refine AGr (AGo (AVa (fun h'=>Ext B3 h') AGx ?_));have Ab:=Ext.refl B3;refine AX1 (fs:=1) Ad5 AGx AGk rfl (AU1 AZy rfl Ab (fun h' hb=>(B5.ext hb).cell (i:=1) rfl) (ATd Ab rfl (Aa8 (DS.ext HDa B4) AGi) fun Fo Fp hk=>?_));obtain ⟨Ak,L1,Bg,Bn,Bh,Fq⟩:=hk;have Bi:=Ab.trans Ak;refine ⟨Bi,?_⟩;have Fr:=Ak.1;have Cq:=Cm.trans Ak;have B7:=B4.trans Ak;have Cr:=B5.ext Ak;have Ct:=Cn.trans Ak;have Cu:=B6.ext Ak;have Cv:=Co.trans Ak;have Cw:=Cj.ext Ak;have Cx:=Ar.trans Ak;refine AX1 (fs:=1) Ad5 AGx AGk rfl (AU1 AZy rfl Bi (fun h' hb=>(B6.ext hb).cell (i:=1) rfl) (ATd Bi rfl (Aa8 (DS.ext HDb B7) AGi) fun Ft Az hk=>?_));obtain ⟨Aj,L2,Am,Bo,Bj,Fu⟩:=hk;have Cz:=Bi.trans Aj;refine ⟨Cz,?_⟩;have Fv:=Aj.1;have Bp:=Cq.trans Aj;have Bq:=B7.trans Aj;have A5:=Cr.ext Aj;have Br:=Ct.trans Aj;have A9:=Cu.ext Aj;have Bt:=Cv.trans Aj;have Bu:=Cw.ext Aj;have Bv:=Cx.trans Aj;have A3:=Bg.ext Aj;refine ATi (AGu (AGo (AGo ?_)));have hl1b:L1.length<=99:=Aed Bn (by rw [Bh,<- AXn hza];exact hba);have hl2b:L2.length<=99:=Aed Bo (by rw [Bj,<- AXn hzb];exact hbb);refine AS3 (AX1 (fs:=1) Adm AGx AGk rfl (AT3 AWl rfl (A5.cell (i:=0) rfl) (AX1 (fs:=1) Adm AGx AGk rfl (AT3 AWl rfl (A9.cell (i:=0) rfl) (Aw0 Anm rfl rfl ?_)))));cases Fw:na == nb
 ·refine AGr (ATr rfl (AGy (q_t (AGo (AGm (AGj (AGj (ATd trivial rfl (Ard A3 Am Bn Bo AGi AGi) fun Fx Az hk=>?_))))))));obtain ⟨rfl,rfl⟩:=hk;refine ⟨trivial,?_⟩;refine Amu rfl rfl (fun C0=>?_) (fun C0=>?_)
  ·refine AGr (ATp rfl (AGo (AVa (fun h'=>Ext Az h') AGx ?_)));have Ab:=Ext.refl Az;refine AX1 (fs:=1) Adm AGx AGk rfl (AU1 AWl rfl Ab (fun h' hb=>(A5.ext hb).cell (i:=0) rfl) (AGj (AGj (ATd Ab rfl (Ao9 A3 Am Bo (Ahc (by assumption)) AGi) fun Fy Fz hk=>?_))));obtain ⟨Ag,L3,Au,Av,B9⟩:=hk;have Bw:=Ab.trans Ag;refine ⟨Bw,?_⟩;have F4:=Ag.1;have C1:=Bp.trans Ag;have C2:=Bq.trans Ag;have C3:=A5.ext Ag;have C4:=Br.trans Ag;have C5:=A9.ext Ag;have C6:=Bt.trans Ag;have C7:=Bu.ext Ag;have C8:=Bv.trans Ag;have C9:=A3.ext Ag;have Da:=Am.ext Ag;refine ATd Bw rfl (Aew na Au AGi (by rw [Av];have:=Asf Bg.dig Am.dig hl1b hl2b;omega)) fun F5 F6 hk=>?_;obtain ⟨Ad,Ba⟩:=hk;have Db:=Bw.trans Ad;refine ⟨Db,?_⟩;have F7:=Ad.1;have Dc:=C1.trans Ad;have Dd:=C2.trans Ad;have F8:=C3.ext Ad;have De:=C4.trans Ad;have F9:=C5.ext Ad;have Df:=C6.trans Ad;have Dg:=C7.ext Ad;have Dh:=C8.trans Ad;have Di:=C9.ext Ad;have Dj:=Da.ext Ad;have Dk:=Au.ext Ad;obtain ⟨Aw,s4,L4,rfl,Ay,Bc,Be,Bf⟩:=Ba.out;refine AU0 [.bool Aw,s4] AUa rfl rfl rfl rfl (Abn Ay.cap) Dg fun Ga Dl Ao=>?_;have Do:=Dd.thenUpd Ao (fun k hk=>by have Ac:k=Aa:=hk;omega);have Gb:=Ao.1;have Gc:=Dc.thenUpd Ao (fun k hk=>by have Ac:k=Aa:=hk;omega);have Ca:=Dh.thenUpd Ao (fun k hk=>by have Ac:k=Aa:=hk;omega);have Gd:=A8.ext Ca;have Ge:=De.thenUpd Ao (fun k hk=>by have Ac:k=Aa:=hk;omega);have Gf:=A7.ext Ca;have Gg:=Df.thenUpd Ao (fun k hk=>by have Ac:k=Aa:=hk;omega);have Gh:=Di.updLo Ao AGi;have Gi:=Dj.updLo Ao AGi;have Gj:=Dk.updLo Ao AGi;have Dp:=Ay.updLo Ao AGi;refine AGr (AGz (ATc (⟨_,AU7 AUa rfl rfl Dl,?_⟩)));exact ⟨Do,⟨Aw,s4,L4,rfl,Dp.mono AGi,Bc,Be,by rw [<- Bf,Av,hza,hzb,<- Bh,<- Bj];first | exact Alr (eq_of_beq (by assumption)) | exact Als (ne_of_beq_false (by assumption)) (Ahc (by assumption)) | exact Ai6 (ne_of_beq_false (by assumption)) (Alq (by assumption))⟩⟩
  ·refine AGr (ATr rfl (AGy (q_t (AGo (AVa (fun h'=>Ext Az h') AGx ?_)))));have Ab:=Ext.refl Az;refine AX1 (fs:=1) Adm AGx AGk rfl (AU1 AWl rfl Ab (fun h' hb=>(A9.ext hb).cell (i:=0) rfl) (AGj (AGj (ATd Ab rfl (Ao9 Am A3 Bn (Alq (by assumption)) AGi) fun Gk Gl hk=>?_))));obtain ⟨Ah,L3,Au,Av,B9⟩:=hk;have Bx:=Ab.trans Ah;refine ⟨Bx,?_⟩;have Gm:=Ah.1;have Dq:=Bp.trans Ah;have Dr:=Bq.trans Ah;have Ds:=A5.ext Ah;have Dt:=Br.trans Ah;have Du:=A9.ext Ah;have Dv:=Bt.trans Ah;have Dw:=Bu.ext Ah;have Dx:=Bv.trans Ah;have Dy:=A3.ext Ah;have Dz:=Am.ext Ah;refine ATd Bx rfl (Aew nb Au AGi (by rw [Av];have:=Asf Bg.dig Am.dig hl1b hl2b;omega)) fun Gn Gp hk=>?_;obtain ⟨Ae,Ba⟩:=hk;have D0:=Bx.trans Ae;refine ⟨D0,?_⟩;have Gq:=Ae.1;have D1:=Dq.trans Ae;have D2:=Dr.trans Ae;have Gr:=Ds.ext Ae;have D3:=Dt.trans Ae;have Gt:=Du.ext Ae;have D4:=Dv.trans Ae;have D5:=Dw.ext Ae;have D6:=Dx.trans Ae;have D7:=Dy.ext Ae;have D8:=Dz.ext Ae;have D9:=Au.ext Ae;obtain ⟨Aw,s4,L4,rfl,Ay,Bc,Be,Bf⟩:=Ba.out;refine AU0 [.bool Aw,s4] AUa rfl rfl rfl rfl (Abn Ay.cap) D5 fun Gu Ea Ap=>?_;have Eb:=D2.thenUpd Ap (fun k hk=>by have Ac:k=Aa:=hk;omega);have Gv:=Ap.1;have Gw:=D1.thenUpd Ap (fun k hk=>by have Ac:k=Aa:=hk;omega);have Cb:=D6.thenUpd Ap (fun k hk=>by have Ac:k=Aa:=hk;omega);have Gx:=A8.ext Cb;have Gy:=D3.thenUpd Ap (fun k hk=>by have Ac:k=Aa:=hk;omega);have Gz:=A7.ext Cb;have G3:=D4.thenUpd Ap (fun k hk=>by have Ac:k=Aa:=hk;omega);have G4:=D7.updLo Ap AGi;have G5:=D8.updLo Ap AGi;have G6:=D9.updLo Ap AGi;have Ec:=Ay.updLo Ap AGi;refine AGr (AGz (⟨_,AU7 AUa rfl rfl Ea,?_⟩));exact ⟨Eb,⟨Aw,s4,L4,rfl,Ec.mono AGi,Bc,Be,by rw [<- Bf,Av,hza,hzb,<- Bh,<- Bj];first | exact Alr (eq_of_beq (by assumption)) | exact Als (ne_of_beq_false (by assumption)) (Ahc (by assumption)) | exact Ai6 (ne_of_beq_false (by assumption)) (Alq (by assumption))⟩⟩
 ·refine AGr (ATp rfl (AGo (AVa (fun h'=>Ext Az h') AGx ?_)));have Ab:=Ext.refl Az;refine AX1 (fs:=1) Adm AGx AGk rfl (AU1 AWl rfl Ab (fun h' hb=>(A5.ext hb).cell (i:=0) rfl) (AGj (AGj (ATd Ab rfl (A8a A3 Am AGi AGi) fun G7 G8 hk=>?_))));obtain ⟨Ai,L3,Au,Av,B9⟩:=hk;have By:=Ab.trans Ai;refine ⟨By,?_⟩;have G9:=Ai.1;have Ed:=Bp.trans Ai;have Ee:=Bq.trans Ai;have Ef:=A5.ext Ai;have Eg:=Br.trans Ai;have Eh:=A9.ext Ai;have Ei:=Bt.trans Ai;have Ej:=Bu.ext Ai;have Ek:=Bv.trans Ai;have El:=A3.ext Ai;have Em:=Am.ext Ai;refine ATd By rfl (Aew na Au AGi (by rw [Av];exact Asf Bg.dig Am.dig hl1b hl2b)) fun Hb Hc hk=>?_;obtain ⟨Af,Ba⟩:=hk;have En:=By.trans Af;refine ⟨En,?_⟩;have Hd:=Af.1;have Eo:=Ed.trans Af;have Ep:=Ee.trans Af;have He:=Ef.ext Af;have Er:=Eg.trans Af;have Hf:=Eh.ext Af;have Es:=Ei.trans Af;have Et:=Ej.ext Af;have Eu:=Ek.trans Af;have Ev:=El.ext Af;have Ew:=Em.ext Af;have Ey:=Au.ext Af;obtain ⟨Aw,s4,L4,rfl,Ay,Bc,Be,Bf⟩:=Ba.out;refine AU0 [.bool Aw,s4] AUa rfl rfl rfl rfl (Abn Ay.cap) Et fun Hg Ez Aq=>?_;have Fa:=Ep.thenUpd Aq (fun k hk=>by have Ac:k=Aa:=hk;omega);have Hh:=Aq.1;have Hj:=Eo.thenUpd Aq (fun k hk=>by have Ac:k=Aa:=hk;omega);have Cd:=Eu.thenUpd Aq (fun k hk=>by have Ac:k=Aa:=hk;omega);have Hk:=A8.ext Cd;have Hl:=Er.thenUpd Aq (fun k hk=>by have Ac:k=Aa:=hk;omega);have Hm:=A7.ext Cd;have Hn:=Es.thenUpd Aq (fun k hk=>by have Ac:k=Aa:=hk;omega);have Ho:=Ev.updLo Aq AGi;have Hq:=Ew.updLo Aq AGi;have Hr:=Ey.updLo Aq AGi;have Fb:=Ay.updLo Aq AGi;refine AGr (AGz (ATc (⟨_,AU7 AUa rfl rfl Ez,?_⟩)));exact ⟨Fa,⟨Aw,s4,L4,rfl,Fb.mono AGi,Bc,Be,by rw [<- Bf,Av,hza,hzb,<- Bh,<- Bj];first | exact Alr (eq_of_beq (by assumption)) | exact Als (ne_of_beq_false (by assumption)) (Ahc (by assumption)) | exact Ai6 (ne_of_beq_false (by assumption)) (Alq (by assumption))⟩⟩
theorem A0y {h:AGt} {la lb:Nat} {va vb:Value} {a b:Int} (HA:ZV h la va a) (HB:ZV h lb vb b) (hba:a.natAbs < 4294967296 ^ 99) (hbb:b.natAbs < 4294967296 ^ 99):ATs Tryz.prog 100 #[va,vb] h fun x h'=>Ext h h'/\ZV h' (Array.size h) x (a - b):=by
 obtain ⟨na,sa,LA,rfl,HDa,htla,hla,hza⟩:=HA.out;obtain ⟨nb,sb,LB,rfl,HDb,htlb,hlb,hzb⟩:=HB.out;refine AT5 (l:=[_,_]) mx Tryz.func100 rfl rfl rfl rfl rfl AGx (AGm (Abq [.bool na,sa] (fun _=>trivial) rfl rfl fun Aj h2 V3 E4 A3 Bz=>?_));have B1:Array.size h<=Aj:=A3;have B3:=E4.1;have Z8:=(Ext.refl h).trans E4;refine Abq [.bool nb,sb] (fun _=>trivial) rfl rfl fun Ak B4 Ap Af A5 B5=>?_;have B6:Array.size h<=Ak:=Nat.le_trans E4.1 A5;have nebq1bq9:Aj≠Ak:=by have:=V3.lt;omega
 have B7:=Af.1;have Aq:=E4.trans Af;have Ar:=V3.ext Af;refine AYx [.bool false,.slice none 0 0] AXi rfl (fun _=>trivial) fun Ab Au A6 Ac A7 B8=>?_;have B9:Array.size h<=Ab:=Nat.le_trans Aq.1 A7;have nebq1bq20:Aj≠Ab:=by have:=Ar.lt;omega
 have nebq9bq20:Ak≠Ab:=by have:=Ap.lt;omega
 have Ca:=Ac.1;have A8:=(Z8.trans Af).trans Ac;have Av:=Aq.trans Ac;have A9:=(E4.trans Af).trans Ac;have Ba:=Af.trans Ac;refine AGr (AGo (AVa (fun h'=>Ext Au h') AGx ?_));have Ah:=Ext.refl Au;refine Aa5 [.bool na,sa] AUa rfl rfl Ah (fun h' hb=>((Ar.ext Ac).ext hb).agg) (Aa5 [.bool nb,sb] AUa rfl rfl Ah (fun h' hb=>((Ap.ext Ac).ext hb).agg) (ATd Ah rfl (A0w (HB.ext Av)) fun Cb Cd hk=>?_));obtain ⟨Ad,HN⟩:=hk;have Am:=Ah.trans Ad;refine ⟨Am,?_⟩;have Ce:=Ad.1;have Bb:=A8.trans Ad;have Aw:=Av.trans Ad;have Bc:=A9.trans Ad;have Be:=Ba.trans Ad;have Bf:=A6.ext Ad;have Bg:=Ac.trans Ad;refine ATd Am rfl (Are (HA.ext Aw) HN hba (by rw [Int.natAbs_neg];exact hbb)) fun Cf Cg hk=>?_;obtain ⟨Aa,Bh⟩:=hk;have Bi:=Am.trans Aa;refine ⟨Bi,?_⟩;have Ch:=Aa.1;have Bj:=Bb.trans Aa;have Bl:=Aw.trans Aa;have Bm:=Bc.trans Aa;have Bn:=Be.trans Aa;have Bo:=Bf.ext Aa;have Bp:=Bg.trans Aa;have HN_59:=HN.ext Aa;obtain ⟨Ax,s4,L4,rfl,Az,Br,Bt,Bu⟩:=Bh.out;refine AU0 [.bool Ax,s4] AUa rfl rfl rfl rfl (Abn Az.cap) Bo fun Ci Bv Ae=>?_;have Bw:=Bl.thenUpd Ae (fun k hk=>by have Ai:k=Ab:=hk;omega);have Cj:=Ae.1;have Ck:=Bj.thenUpd Ae (fun k hk=>by have Ai:k=Ab:=hk;omega);have Cm:=Bp.thenUpd Ae (fun k hk=>by have Ai:k=Ab:=hk;omega);have Cn:=Bm.thenUpd Ae (fun k hk=>by have Ai:k=Ab:=hk;omega);have Co:=Bn.thenUpd Ae (fun k hk=>by have Ai:k=Ab:=hk;omega);have HN_71:=HN_59.updLo Ae AGi;have Bx:=Az.updLo Ae AGi;refine AGr (AGz (⟨_,AU7 AUa rfl rfl Bv,?_⟩));exact ⟨Bw,⟨Ax,s4,L4,rfl,Bx.mono AGi,Br,Bt,by rw [<- Bu];omega⟩⟩
theorem Asg (n:Nat):nv (List.replicate n 0)=0:=by
 induction n with
 | zero=>rfl
 | succ n ih=>rw [List.replicate_succ];simp [nv,ih]
theorem A8b {h:AGt} {la lb:Nat} {va vb:Value} {a b:Int} (HA:ZV h la va a) (HB:ZV h lb vb b) (hab:a.natAbs * b.natAbs < 4294967296 ^ 100):ATs Tryz.prog 101 #[va,vb] h fun x h'=>Ext h h'/\ZV h' (Array.size h) x (a * b):=by
 obtain ⟨na,sa,LA,rfl,HDa,htla,hla,hza⟩:=HA.out;obtain ⟨nb,sb,LB,rfl,HDb,htlb,hlb,hzb⟩:=HB.out;refine AT5 (l:=[_,_]) mx Tryz.func101 rfl rfl rfl rfl rfl AGx (AGm (Abq [.bool na,sa] (fun _=>trivial) rfl rfl fun Ad h2 V3 E4 Be Cf=>?_));have Cg:Array.size h<=Ad:=Be;have Ch:=E4.1;have Z8:=(Ext.refl h).trans E4;refine Abq [.bool nb,sb] (fun _=>trivial) rfl rfl fun Ae Ci Az Ah Bg Cj=>?_;have Ck:Array.size h<=Ae:=Nat.le_trans E4.1 Bg;have nebq1bq9:Ad≠Ae:=by have:=V3.lt;omega
 have Cm:=Ah.1;have A3:=E4.trans Ah;have A4:=V3.ext Ah;refine AYx [.bool false,.slice none 0 0] AXi rfl (fun _=>trivial) fun Ac Cn Bh Ag Bi Co=>?_;have Cp:Array.size h<=Ac:=Nat.le_trans A3.1 Bi;have nebq1bq20:Ad≠Ac:=by have:=A4.lt;omega
 have nebq9bq20:Ae≠Ac:=by have:=Az.lt;omega
 have Cq:=Ag.1;have Cr:=(Z8.trans Ah).trans Ag;have Ax:=A3.trans Ag;have A5:=A4.ext Ag;have Ct:=(E4.trans Ah).trans Ag;have A6:=Az.ext Ag;refine AZg (AX1 (fs:=1) Ad5 AGx AGk rfl (AT3 AZy rfl (A5.cell (i:=1) rfl) (AUo ATf rfl (HDa.ext Ax) (AX1 (fs:=1) Ad5 AGx AGk rfl (AT3 AZy rfl (A6.cell (i:=1) rfl) (AUo ATf rfl (HDb.ext Ax) (Ahb rfl rfl AGi (Ar9 (n:=LA.length + LB.length) ATf Adv (fun _=>trivial) rfl rfl AGk AGi fun g1 v1 h1 Bj E1 Cu Cv=>?_))))))));have Cw:=E1.1;have A7:=Ax.trans E1;have A8:=A5.ext E1;have Cx:=(Ah.trans Ag).trans E1;refine AGu (AGo (AGm (AX1 (fs:=1) Ad5 AGx AGk rfl (AT3 AZy rfl (A8.cell (i:=1) rfl) (AUo ATf rfl (HDa.ext A7) (AGj (AGr (AGp (AX0 1180591620717407111104 (fun y:Nat × List Nat=>[(22,.int .i64 (y.1:Int))]) (fun k y h'=>k=LA.length - y.1/\y.1<=LA.length/\Ext h h'/\g1 < Array.size h'/\AVv 93 h' Ad [.bool na,sa]/\AVv 93 h' Ae [.bool nb,sb]/\AVv 93 h' Ac [.bool false,.slice none 0 0]/\AV5 h' 170 g1 v1 (y.2.map Afk)/\y.2.length=LA.length + LB.length/\Dig y.2/\nv y.2=nv (LA.take y.1) * nv LB/\ ∀ q,y.1 + LB.length<=q->q < LA.length + LB.length->y.2[q]? =some 0) AGx LA.length (0,List.replicate (LA.length + LB.length) 0) ?_ ⟨rfl,trivial⟩ ?_)))))))))
 ·exact ⟨rfl,Nat.zero_le _,A7,AGi,A8,(A6.ext E1),(Bh.ext E1),Bj,ATv,fun x hx=>by rw [(List.mem_replicate.1 hx).2];decide,by simp [nv,Asg],fun q hq Cy=>by dsimp only;rw [List.getElem?_replicate];simp;omega⟩
 rintro k ⟨i,O⟩ s1 hq ⟨rfl,hi,XQ,hgq,Ak,Af,Ap,Ab,hOl,hOd,hOv,hOz⟩;dsimp only at hi Ab hOl hOd hOv hOz ⊢;refine AGm (AXh rfl rfl (fun Bl=>?_) (fun Bl=>?_))
 ·refine AGr (AGo (ATp rfl (AGy (q_t (AGo (AGp (AGo ?_)))))));obtain ⟨x,hx⟩:∃ x,LA[i]? =some x:=⟨_,List.getElem?_eq_getElem AGi⟩;have hbx:=HDa.dig x (List.mem_of_getElem? hx);refine AS3 (AGj (Aa6 ATf rfl (HDa.ext XQ) rfl hx fun Cz Bm=>AT3 AU8 rfl Bm (ATi (ATw (AGu (AGo (AGm (AX1 (fs:=1) Ad5 AGx AGk rfl (AT3 AZy rfl (Af.cell (i:=1) rfl) (AUo ATf rfl (HDb.ext XQ) (AGj (AGr (AGp (AX0 1152921503533106944 (fun y:Nat × Nat × List Nat=>[(30,.int .i64 (y.1:Int)),(8,.int .u64 (y.2.1:Int))]) (fun k y h'=>k=LB.length - y.1/\y.1<=LB.length/\Ext h h'/\g1 < Array.size h'/\AVv 93 h' Ad [.bool na,sa]/\AVv 93 h' Ae [.bool nb,sb]/\AVv 93 h' Ac [.bool false,.slice none 0 0]/\AV5 h' 170 g1 v1 (y.2.2.map Afk)/\y.2.2.length=LA.length + LB.length/\Dig y.2.2/\y.2.1 < 4294967296/\nv y.2.2 + 4294967296 ^ (i + y.1) * y.2.1=nv (LA.take i) * nv LB + 4294967296 ^ i * (x * nv (LB.take y.1))/\ ∀ q,i + LB.length<=q->q < LA.length + LB.length->y.2.2[q]? =some 0) AGx LB.length (0,0,O) ?_ ⟨rfl,rfl,trivial⟩ ?_))))))))))))))
  ·exact ⟨rfl,Nat.zero_le _,XQ,AGi,Ak,Af,Ap,Ab,hOl,hOd,by dsimp only;omega,by simp [nv,hOv],hOz⟩
  rintro k ⟨j,c,O⟩ s2 hp ⟨rfl,hj,XQ,hgq,Ak,Af,Ap,Ab,hOl,hOd,hc,hOv,hOz⟩;dsimp only at hj Ab hOl hOd hc hOv hOz ⊢;refine AGm (AXh rfl rfl (fun Bn=>?_) (fun Bn=>?_))
  ·refine AGr (AGo (ATp rfl (AGy (q_t (AGo (AGp (AGo ?_)))))));obtain ⟨y,hy⟩:∃ x,LB[j]? =some x:=⟨_,List.getElem?_eq_getElem AGi⟩;have hby:=HDb.dig y (List.mem_of_getElem? hy);obtain ⟨ov,hov⟩:∃ x,O[i + j]? =some x:=⟨_,List.getElem?_eq_getElem AGi⟩;have hbo:=hOd ov (List.mem_of_getElem? hov);have htb:=Au6 hc hbx hby hbo;have hxy:x * y<=4294967295 * 4294967295:=Nat.mul_le_mul AGi AGi;refine AS3 (AGj (Aa6 ATf rfl (HDb.ext XQ) rfl hy fun C0 Bo=>AT3 AU8 rfl Bo (ATi (ATw (AGj (AGj (Akg AVx AVg rfl hbx (AGj (Akg AVx AVg rfl hby (Au5 rfl rfl AGi (AGj (AGj (AGj (Ahb rfl rfl AGi (Akt ATf rfl Ab rfl (by rw [List.length_map];omega) ?_)))))))))))))));refine AT3 AU8 rfl (AV5.cell Ab (Ajx hov)) (Akg AVx AVg rfl hbo (Agk rfl rfl AGi (Agk rfl rfl AGi (ATw (AGj (AGj (AGj (Ahb rfl rfl AGi (AGj (Amd AVg AVx rfl (Akt ATf rfl Ab rfl (by rw [List.length_map];omega) ?_)))))))))));refine Amc (O.set (i + j) ((c + (x * y + ov)) % 4294967296)) AU8 rfl rfl Ab AGi rfl fun h4 Bp U4=>?_;have C2:=U4.1;have Bq:=XQ.thenUpd U4 (fun k hk=>by have A9:k=g1:=hk;omega);have Br:=Ak.upd U4 (fun he=>by have Ar:Ad=g1:=he;omega);have Bt:=Af.upd U4 (fun he=>by have Ar:Ae=g1:=he;omega);have Bu:=Ap.upd U4 (fun he=>by have Ar:Ac=g1:=he;omega);refine AGr (AS3 (AGj (Alm rfl rfl (ATi (ATh (q_b (q_t (AS3 (Ab5 rfl AGi (AGj (AGr ?_)))))))))));exact ⟨LB.length - (j + 1),(j + 1,(c + (x * y + ov)) / 4294967296,O.set (i + j) ((c + (x * y + ov)) % 4294967296)),by first | omega | (dsimp only;omega),⟨rfl,by first | omega | (dsimp only;omega),Bq,AGi,Br,Bt,Bu,Bp,by simp [hOl],Ajy hOd (Nat.mod_lt _ AGk),by dsimp only;exact Nat.div_lt_of_lt_mul htb,by dsimp only;rw [AUu hy];exact Asa (Pi:=0) (Am1 _ hov) hOv (Nat.mod_add_div _ _),fun q h1 h2=>by dsimp only;rw [List.getElem?_set_ne AGi];exact hOz q h1 h2⟩,rfl,rfl,trivial⟩
  ·refine AGr (AGo (ATr rfl (AS8 (ATa (ATa (AT7 (q_t ?_)))))));obtain rfl:j=LB.length:=by omega
   refine AS3 (AGj (AGj (AX1 (fs:=1) Ad5 AGx AGk rfl (AT3 AZy rfl (Af.cell (i:=1) rfl) (AUo ATf rfl (HDb.ext XQ) (Ahb rfl rfl AGi (AGj (Amd AVg AVx rfl ?_))))))));rw [Nat.mod_eq_of_lt hc];refine Akt ATf rfl Ab rfl (by rw [List.length_map];omega) ?_;refine Amc (O.set (i + LB.length) (c)) AU8 rfl rfl Ab AGi rfl fun h5 Bv U5=>?_;have C4:=U5.1;have Bw:=XQ.thenUpd U5 (fun k hk=>by have A9:k=g1:=hk;omega);have Bx:=Ak.upd U5 (fun he=>by have Ar:Ad=g1:=he;omega);have By:=Af.upd U5 (fun he=>by have Ar:Ae=g1:=he;omega);have Bz:=Ap.upd U5 (fun he=>by have Ar:Ac=g1:=he;omega);refine ATh (q_b (q_t (AS3 (Ab5 rfl AGi (AGj (AGr ?_))))));exact ⟨LA.length - (i + 1),(i + 1,O.set (i + LB.length) c),by first | omega | (dsimp only;omega),⟨rfl,by first | omega | (dsimp only;omega),Bw,AGi,Bx,By,Bz,Bv,by simp [hOl],Ajy hOd hc,by dsimp only;have h1:=Am1 c (hOz (i + LB.length) (Nat.le_refl _) AGi);rw [Nat.mul_zero,Nat.add_zero] at h1;rw [h1,hOv,List.take_length,AUu hx,Nat.add_mul,Nat.mul_assoc],fun q h1 h2=>by dsimp only;rw [List.getElem?_set_ne AGi];exact hOz q AGi h2⟩,rfl,trivial⟩
 ·refine AGr (AGo (ATr rfl (AS8 (ATa (ATa (AT7 (q_t (AGo ?_))))))));obtain rfl:i=LA.length:=by omega
  rw [List.take_length] at hOv;have HDo:=Ab.ds (lo:=0) hOd (Nat.zero_le _);refine AS3 (AX1 (fs:=1) Adm AGx AGk rfl (AT3 AWl rfl (Ak.cell (i:=0) rfl) (AX1 (fs:=1) Adm AGx AGk rfl (AT3 AWl rfl (Af.cell (i:=0) rfl) (Ar8 Anm rfl rfl (AGj (ATd trivial rfl (Aew (!(na == nb)) (DS.ext HDo (Ext.refl _)) AGi (by rw [hOv,<- AXn hza,<- AXn hzb];exact hab)) fun C5 C6 hk=>?_)))))));obtain ⟨Am,B1⟩:=hk;refine ⟨trivial,?_⟩;have C7:=Am.1;have B3:=XQ.trans Am;have B4:=Ak.ext Am;have B5:=Af.ext Am;have B6:=Ap.ext Am;have C8:=Ab.ext Am;obtain ⟨Ba,s3,L3,rfl,Bc,B8,B9,Ca⟩:=B1.out;refine AU0 [.bool Ba,s3] AUa rfl rfl rfl rfl (Abn Bc.cap) B6 fun C9 Cb Av=>?_;have Cd:=B3.thenUpd Av (fun k hk=>by have A9:k=Ac:=hk;omega);have Da:=Av.1;have Db:=B4.upd Av (fun he=>nebq1bq20 (he:Ad=Ac));have Dc:=B5.upd Av (fun he=>nebq9bq20 (he:Ae=Ac));have Ce:=Bc.updLo Av AGi;refine AGr (AGz (⟨_,AU7 AUa rfl rfl Cb,?_⟩));exact ⟨Cd,⟨Ba,s3,L3,rfl,Ce.mono AGi,B8,B9,by rw [<- Ca,hOv,hza,hzb,Avb]⟩⟩
theorem A0z (b:Bool) (a:Option Addr) (n c:Nat) (w:World):(Instr.field 93 (.agg #[.bool b,.slice a n c]) 1).run Tryz.prog w= .ok (.slice a n c) w:=by kernel_rfl
theorem A46 {j t:Nat}:2 ^ (j + 1) * t + 2 ^ j=2 ^ j * (2 * t + 1):=by rw [Nat.pow_succ,Nat.mul_add,Nat.mul_one,Nat.mul_assoc]
theorem A47 {j t:Nat}:2 ^ (j + 1) * t=2 ^ j * (2 * t):=by rw [Nat.pow_succ,Nat.mul_assoc]
theorem A00 {s:Nat} (h:s < 32):IntKind.u32.wrap (1 * 2 ^ s)=((2 ^ s:Nat):Int):=by
 have h1:(2:Nat) ^ s < 4294967296:=by rw [show (4294967296:Nat)=2 ^ 32 by decide];exact Nat.pow_lt_pow_right AGk h
 rw [wrap_u32,Int.one_mul,show ((2:Int) ^ s)=((2 ^ s:Nat):Int) by simp];generalize (2:Nat) ^ s=q at *;omega
theorem Apa {a b:Nat} (h:Afg a b < 0):a < b:=by
 unfold Afg at h;split at h
 ·assumption
 ·split at h <;> omega
theorem Azc {h:AGt} {la lb:Nat} {va vb:Value} {LA LB:List Nat} (HA:DS h la va LA) (HB:DS h lb vb LB) (htb:TL LB) (Av:nv LB≠0) (hna:LA.length<=900) (hnb:LB.length<=900):ATs Tryz.prog 165 #[va,vb] h fun x h'=>Ext h h'/\ ∃ q r,x= .tuple #[q,r]/\ ∃ LQ LR,DS h' (Array.size h) q LQ/\DS h' (Array.size h) r LR/\nv LQ=nv LA / nv LB/\nv LR=nv LA % nv LB/\LQ.length<=1000/\LR.length<=1000:=by
 refine AT5 (l:=[_,_]) mx Tryz.func165 rfl rfl rfl rfl rfl AGx (AGm (ATi (AGu (AGo (AGm (AGj (AUo ATf rfl HA (Amt rfl rfl (fun B1=>?_) (fun B1=>?_)))))))))
 ·refine AGj (AUn 12 true AGx rfl rfl (AGj (AUn 12 true AGx rfl rfl (AUo ATf rfl HB (AUn 12 true AGx rfl rfl (Amt rfl rfl (fun B3=>?_) (fun B3=>?_)))))))
  ·refine ATj rfl (AGr (ATp rfl (AGm (AGj (ATd trivial rfl (Ava HA AGi) fun x1 h hk=>?_)))));obtain ⟨rfl,rfl⟩:=hk;refine ⟨trivial,?_⟩;refine AGj (ATd trivial rfl (Ava HB AGi) fun x2 h hk=>?_);obtain ⟨rfl,rfl⟩:=hk;refine ⟨trivial,?_⟩;refine ATi (AGu (AGo ?_));have Dr:=Azb HA.dig AGi;refine Aix AGx (AGj (AGj (Amr rfl rfl AGi ?_)));rw [show IntKind.u64.wrap (((nv LA:Nat):Int).tdiv ((nv LB:Nat):Int))=((nv LA / nv LB:Nat):Int) by rw [Int.tdiv_eq_ediv_of_nonneg AGi,<- Int.natCast_ediv,wrap_u64];have hq:=Nat.div_le_self (nv LA) (nv LB);generalize nv LA / nv LB=q at hq ⊢;omega];refine ATd trivial rfl (Ao8 false (nv LA / nv LB) (by have:=Nat.div_le_self (nv LA) (nv LB);omega) _) fun x3 h4 hk=>?_;obtain ⟨E5,B4⟩:=hk;refine ⟨trivial,?_⟩;have Du:=E5.1;have Z7:=(Ext.refl h).trans E5;obtain ⟨Dv,s1,L1,rfl,Br,Dw,Dx,B6⟩:=B4.out;obtain ⟨a1,n1,c1,rfl,_⟩:=Br.cap;have Be:nv L1=nv LA / nv LB:=(AXn B6).symm.trans (AXn rfl);refine BC7 (A0z _ _ _ _) (AGj (AGj (A4k rfl rfl AGi (ATd trivial rfl (Ao8 false (nv LA % nv LB) (by have:=Nat.mod_le (nv LA) (nv LB);omega) _) fun x8 h9 hk=>?_))));obtain ⟨Ax,B7⟩:=hk;refine ⟨trivial,?_⟩;have D1:=Ax.1;have D2:=Z7.trans Ax;have Bu:=E5.trans Ax;have B8:=Br.ext Ax;obtain ⟨D3,s2,L2,rfl,Bv,D4,D5,B9⟩:=B7.out;obtain ⟨a2,n2,c2,rfl,_⟩:=Bv.cap;have Bf:nv L2=nv LA % nv LB:=(AXn B9).symm.trans (AXn rfl);refine BC7 (A0z _ _ _ _) (ATi (AGu (AGz (ATc (⟨_,AUk,?_⟩)))))
   first
   | exact ⟨Bu,_,_,rfl,L1,L2,B8.mono AGi,Bv.mono AGi,Be,Bf,AGi,AGi⟩
   | exact ⟨Bu,_,_,rfl,L7,R,lacks_HD7.mono AGi,lacks_HR.mono AGi,by rw [A3];exact hQv,hRv,AGi,AGi⟩
  ·refine ATj rfl (AGr (ATr rfl (AGy (q_t (AGm (AGj (AUo ATf rfl HA (Ar9 (n:=LA.length) ATf Adv (fun _=>trivial) rfl rfl AGk AGi fun g1 v1 h1 Bg E1 Cb Cd=>?_))))))));have D8:=E1.1;have D9:=(Ext.refl h).trans E1;refine AGu (AGo (AGm (AGj (AUo ATf rfl (HA.ext E1) (Agg rfl rfl AGi AGi ?_)))));rw [show (32:Int) * ((LA.length:Nat):Int)=((32 * LA.length:Nat):Int) by omega];refine Aet rfl rfl AGi AGi (AGu (AGp ?_));have h0d:nv LA / 2 ^ (32 * LA.length)=0:=Nat.div_eq_of_lt (by rw [<- Aok];exact Ae9 HA.dig);refine AX0 4722366482594767307040 (fun y:Nat × Value × List Nat × List Nat=>[(8,.int .i64 ((y.1:Int) - 1)),(5,y.2.1)]) (fun k y h'=>y.1=k/\y.1<=32 * LA.length/\Ext h h'/\g1 < Array.size h'/\AV5 h' 170 g1 v1 (y.2.2.1.map Afk)/\y.2.2.1.length=LA.length/\Dig y.2.2.1/\nv y.2.2.1=2 ^ y.1 * (nv LA / 2 ^ y.1 / nv LB)/\DS h' (g1 + 1) y.2.1 y.2.2.2/\TL y.2.2.2/\nv y.2.2.2=nv LA / 2 ^ y.1 % nv LB) AGx (32 * LA.length) (32 * LA.length,.slice none 0 0,List.replicate LA.length 0,[]) ?_ ⟨rfl,rfl,trivial⟩ ?_
   ·exact ⟨rfl,Nat.le_refl _,E1,AGi,Bg,ATv,fun x hx=>by rw [(List.mem_replicate.1 hx).2];decide,by dsimp only;rw [h0d,Nat.zero_div,Asg];rfl,Ai1 _ _,Akf,by dsimp only;rw [h0d,Nat.zero_mod];rfl⟩
   rintro k ⟨i,vr,Q,R⟩ s1 hq ⟨rfl,hi,XQ,hgq,Ad,hQl,hQd,hQv,HR,hRt,hRv⟩;dsimp only at hi Ad hQl hQd hQv HR hRt hRv ⊢;have hRl:R.length<=LB.length:=Aed hRt (by rw [hRv];exact Nat.lt_trans (Nat.mod_lt _ (Nat.pos_of_ne_zero Av)) (Ae9 HB.dig));refine AGo (AGm (AGj (Amu rfl rfl (fun Ce=>?_) (fun Ce=>?_))))
   ·refine AGr (ATp rfl (AGy (q_t (AGo (AGp (AGo ?_))))));obtain ⟨j,rfl⟩:∃ j,i=j + 1:=⟨i - 1,AGi⟩;obtain ⟨x,hx⟩:∃ x,LA[j / 32]? =some x:=⟨_,List.getElem?_eq_getElem AGi⟩;have hbx:=HA.dig x (List.mem_of_getElem? hx);have hbit:=A0l HA.dig hx;have hst:=Aw2 (N:=nv LA) (i:=j) Av hRv;rw [hbit] at hst;refine AS3 (AGj (AGj (AGj (Au2 rfl rfl AGi AGi AGi ?_))));rw [show (((j + 1:Nat):Int) - 1) / 32=((j / 32:Nat):Int) by omega];refine Aa6 ATf rfl (HA.ext XQ) rfl hx fun Ea Cf=>AT3 AU8 rfl Cf (AGj (Aog rfl rfl AGi AGi ?_));rw [show (((j + 1:Nat):Int) - 1) % 32=((j % 32:Nat):Int) by omega];refine Aqt (n:=j % 32) rfl rfl (by show j % 32<=32;omega) ?_;rw [show (x:Int) / 2 ^ (j % 32)=((x / 2 ^ (j % 32):Nat):Int) by simp];have hxs:x / 2 ^ (j % 32) < 4294967296:=Nat.lt_of_le_of_lt (Nat.div_le_self _ _) hbx;refine Amz rfl rfl (.inl rfl) (Aw5 hxs) (ATd trivial rfl (Ase (x / 2 ^ (j % 32) % 2) AGi HR AGi) fun Eb Ec hk=>?_);obtain ⟨A4,L3,Am,Ae,Ch⟩:=hk;refine ⟨trivial,?_⟩;have Ed:=A4.1;have Ci:=XQ.trans A4;have Cj:=Ad.ext A4;have HR_24:=HR.ext A4;refine ATd trivial rfl (Aa8 Am AGi) fun Ee Ck hk=>?_;obtain ⟨Ao,L4,Af,Ap,Ag,Cm⟩:=hk;refine ⟨trivial,?_⟩;have Ef:=Ao.1;have A5:=Ci.trans Ao;have Bw:=Cj.ext Ao;have HR_31:=HR_24.ext Ao;have Cn:=Am.ext Ao;refine ATw (AGj (AGj (ATd trivial rfl (Ard Af (HB.ext A5) Ap htb AGi AGi) fun Eg Ck hk=>?_)));obtain ⟨rfl,rfl⟩:=hk;refine ⟨trivial,?_⟩;refine Amu rfl rfl (fun Co=>?_) (fun Co=>?_)
    ·refine AGr (ATp rfl (AGm (AGj (AGj (ATd trivial rfl (Ao9 Af (HB.ext A5) htb (Ahc (by assumption)) AGi) fun Eh Ei hk=>?_)))));obtain ⟨Aj,L5,Aq,Bi,Cq⟩:=hk;refine ⟨trivial,?_⟩;have Ej:=Aj.1;have Cr:=A5.trans Aj;have Ct:=Bw.ext Aj;have HR_40:=HR_31.ext Aj;have Cu:=Cn.ext Aj;have Cv:=Af.ext Aj;refine ATd trivial rfl (Aa8 Aq AGi) fun Ek El hk=>?_;obtain ⟨Ah,L6,Bl,Bm,Bn,Cw⟩:=hk;refine ⟨trivial,?_⟩;have Em:=Ah.1;have Cx:=Cr.trans Ah;have A6:=Ct.ext Ah;have HR_49:=HR_40.ext Ah;have Cy:=Cu.ext Ah;have Cz:=Cv.ext Ah;have C0:=Aq.ext Ah;refine AGu ?_;obtain ⟨dd,hd⟩:∃ x,Q[j / 32]? =some x:=⟨_,List.getElem?_eq_getElem AGi⟩;have hdb:=hQd dd (List.mem_of_getElem? hd);obtain ⟨t,rfl⟩:=A0m hQd hd hQv;have hge:nv LB<=2 * nv R + x / 2 ^ (j % 32) % 2:=by rw [<- Ae,<- Ag];exact Ahc (by assumption)
     have Ar:j % 32 < 32:=Nat.mod_lt _ AGk;have Bo:2 ^ (j % 32) < 4294967296:=by have:=Arb Ar hdb;omega
     refine Aix AGx (AGj (AGj (Au2 rfl rfl AGi AGi AGi ?_)));rw [show (((j + 1:Nat):Int) - 1) / 32=((j / 32:Nat):Int) by omega];refine Akt ATf rfl A6 rfl (by rw [List.length_map];omega) ?_;refine AT3 AU8 rfl (AV5.cell A6 (Ajx hd)) (AGj (Aog rfl rfl AGi AGi ?_));rw [show (((j + 1:Nat):Int) - 1) % 32=((j % 32:Nat):Int) by omega];refine At2 (n:=j % 32) rfl rfl (by show j % 32<=32;omega) ?_;rw [A00 Ar];refine Amz rfl rfl (.inr (.inl rfl)) (Aza hdb Bo) ?_;rw [A4z];refine Akt ATf rfl A6 rfl (by rw [List.length_map];omega) ?_;refine Amc (Q.set (j / 32) (2 ^ (j % 32 + 1) * t + 2 ^ (j % 32))) AU8 rfl rfl A6 AGi rfl fun h9 Bp U9=>?_;have En:=U9.1;have C1:=Cx.thenUpd U9 (fun k hk=>by have C2:k=g1:=hk;omega);have HR_55:=HR_49.updLo U9 AGi;have Eo:=Cy.updLo U9 AGi;have Ep:=Cz.updLo U9 AGi;have Er:=C0.updLo U9 AGi;have C3:=Bl.updLo U9 AGi;refine ATh (q_b (q_t (AS3 (AGj (Aet rfl rfl AGi AGi ?_)))));rw [show (((j + 1:Nat):Int) - 1) - 1=((j:Nat):Int) - 1 by omega];refine AGu ?_;exact ⟨j,(j,_,Q.set (j / 32) (2 ^ (j % 32 + 1) * t + 2 ^ (j % 32)),L6),by first | omega | (dsimp only;omega),⟨rfl,by first | omega | (dsimp only;omega),C1,AGi,Bp,by simp [hQl],Ajy hQd (Arb (Nat.mod_lt _ AGk) hdb),by dsimp only;rw [(hst.2.1 hge).2,<- A46,<- hQv,Anl j];have:=Am1 (2 ^ (j % 32 + 1) * t + 2 ^ (j % 32)) hd;rw [Nat.mul_add] at this;omega,C3.mono AGi,Bm,by dsimp only;rw [Bn,Bi,Ag,Ae];exact (hst.2.1 hge).1.symm⟩,rfl,rfl,trivial⟩
    ·refine AGr (ATr rfl (AGy (q_b (q_t (AS3 (AGj (Aet rfl rfl AGi AGi ?_)))))));rw [show (((j + 1:Nat):Int) - 1) - 1=((j:Nat):Int) - 1 by omega];refine AGu ?_;have hlt:2 * nv R + x / 2 ^ (j % 32) % 2 < nv LB:=by rw [<- Ae,<- Ag];exact Apa (by assumption)
     exact ⟨j,(j,_,Q,L4),by first | omega | (dsimp only;omega),⟨rfl,by first | omega | (dsimp only;omega),A5,AGi,Bw,hQl,hQd,by dsimp only;rw [(hst.2.2 hlt).2,hQv,A47],Af.mono AGi,Ap,by dsimp only;rw [Ag,Ae];exact (hst.2.2 hlt).1.symm⟩,rfl,rfl,trivial⟩
   ·refine AGr (ATr rfl (AS8 (ATa (ATa (AT7 (q_t (AGo ?_)))))));obtain rfl:i=0:=by omega
    rw [Nat.pow_zero,Nat.one_mul,Nat.div_one] at hQv;rw [Nat.pow_zero,Nat.div_one] at hRv;have HDq:=Ad.ds (lo:=0) hQd (Nat.zero_le _);refine AS3 (AGj (ATd trivial rfl (Aa8 (DS.ext HDq (Ext.refl _)) AGi) fun Es Et hk=>?_));obtain ⟨A7,L7,Bq,C4,A3,C5⟩:=hk;refine ⟨trivial,?_⟩;have Eu:=A7.1;have Bx:=XQ.trans A7;have Ev:=Ad.ext A7;have HR_66:=HR.ext A7;refine AGj (ATi (AGu (AGz (⟨_,AUk,?_⟩))))
    first
    | exact ⟨Bx,_,_,rfl,L1,L2,lacks_HD1.mono AGi,lacks_HD2.mono AGi,Be,Bf,AGi,AGi⟩
    | exact ⟨Bx,_,_,rfl,L7,R,Bq.mono AGi,HR_66.mono AGi,by rw [A3];exact hQv,hRv,AGi,AGi⟩
 ·refine AGj (AUd 12 false AGx rfl rfl (AUd 12 false AGx rfl rfl (AUd 12 false AGx rfl rfl (ATm rfl (AGr (ATr rfl (AGy (q_t (AGm (AGj (AUo ATf rfl HA (Ar9 (n:=LA.length) ATf Adv (fun _=>trivial) rfl rfl AGk AGi fun g1 v1 h1 Bg E1 Cb Cd=>?_))))))))))));have Ew:=E1.1;have Ey:=(Ext.refl h).trans E1;refine AGu (AGo (AGm (AGj (AUo ATf rfl (HA.ext E1) (Agg rfl rfl AGi AGi ?_)))));rw [show (32:Int) * ((LA.length:Nat):Int)=((32 * LA.length:Nat):Int) by omega];refine Aet rfl rfl AGi AGi (AGu (AGp ?_));have h0d:nv LA / 2 ^ (32 * LA.length)=0:=Nat.div_eq_of_lt (by rw [<- Aok];exact Ae9 HA.dig);refine AX0 4722366482594767307040 (fun y:Nat × Value × List Nat × List Nat=>[(8,.int .i64 ((y.1:Int) - 1)),(5,y.2.1)]) (fun k y h'=>y.1=k/\y.1<=32 * LA.length/\Ext h h'/\g1 < Array.size h'/\AV5 h' 170 g1 v1 (y.2.2.1.map Afk)/\y.2.2.1.length=LA.length/\Dig y.2.2.1/\nv y.2.2.1=2 ^ y.1 * (nv LA / 2 ^ y.1 / nv LB)/\DS h' (g1 + 1) y.2.1 y.2.2.2/\TL y.2.2.2/\nv y.2.2.2=nv LA / 2 ^ y.1 % nv LB) AGx (32 * LA.length) (32 * LA.length,.slice none 0 0,List.replicate LA.length 0,[]) ?_ ⟨rfl,rfl,trivial⟩ ?_
  ·exact ⟨rfl,Nat.le_refl _,E1,AGi,Bg,ATv,fun x hx=>by rw [(List.mem_replicate.1 hx).2];decide,by dsimp only;rw [h0d,Nat.zero_div,Asg];rfl,Ai1 _ _,Akf,by dsimp only;rw [h0d,Nat.zero_mod];rfl⟩
  rintro k ⟨i,vr,Q,R⟩ s1 hq ⟨rfl,hi,XQ,hgq,Ad,hQl,hQd,hQv,HR,hRt,hRv⟩;dsimp only at hi Ad hQl hQd hQv HR hRt hRv ⊢;have hRl:R.length<=LB.length:=Aed hRt (by rw [hRv];exact Nat.lt_trans (Nat.mod_lt _ (Nat.pos_of_ne_zero Av)) (Ae9 HB.dig));refine AGo (AGm (AGj (Amu rfl rfl (fun C6=>?_) (fun C6=>?_))))
  ·refine AGr (ATp rfl (AGy (q_t (AGo (AGp (AGo ?_))))));obtain ⟨j,rfl⟩:∃ j,i=j + 1:=⟨i - 1,AGi⟩;obtain ⟨x,hx⟩:∃ x,LA[j / 32]? =some x:=⟨_,List.getElem?_eq_getElem AGi⟩;have hbx:=HA.dig x (List.mem_of_getElem? hx);have hbit:=A0l HA.dig hx;have hst:=Aw2 (N:=nv LA) (i:=j) Av hRv;rw [hbit] at hst;refine AS3 (AGj (AGj (AGj (Au2 rfl rfl AGi AGi AGi ?_))));rw [show (((j + 1:Nat):Int) - 1) / 32=((j / 32:Nat):Int) by omega];refine Aa6 ATf rfl (HA.ext XQ) rfl hx fun Ez C7=>AT3 AU8 rfl C7 (AGj (Aog rfl rfl AGi AGi ?_));rw [show (((j + 1:Nat):Int) - 1) % 32=((j % 32:Nat):Int) by omega];refine Aqt (n:=j % 32) rfl rfl (by show j % 32<=32;omega) ?_;rw [show (x:Int) / 2 ^ (j % 32)=((x / 2 ^ (j % 32):Nat):Int) by simp];have hxs:x / 2 ^ (j % 32) < 4294967296:=Nat.lt_of_le_of_lt (Nat.div_le_self _ _) hbx;refine Amz rfl rfl (.inl rfl) (Aw5 hxs) (ATd trivial rfl (Ase (x / 2 ^ (j % 32) % 2) AGi HR AGi) fun Fa Fb hk=>?_);obtain ⟨A8,L3,Am,Ae,Ch⟩:=hk;refine ⟨trivial,?_⟩;have Fc:=A8.1;have C8:=XQ.trans A8;have C9:=Ad.ext A8;have HR_76:=HR.ext A8;refine ATd trivial rfl (Aa8 Am AGi) fun Fd Da hk=>?_;obtain ⟨Au,L4,Af,Ap,Ag,Cm⟩:=hk;refine ⟨trivial,?_⟩;have Fe:=Au.1;have A9:=C8.trans Au;have By:=C9.ext Au;have HR_83:=HR_76.ext Au;have Db:=Am.ext Au;refine ATw (AGj (AGj (ATd trivial rfl (Ard Af (HB.ext A9) Ap htb AGi AGi) fun Ff Da hk=>?_)));obtain ⟨rfl,rfl⟩:=hk;refine ⟨trivial,?_⟩;refine Amu rfl rfl (fun Dc=>?_) (fun Dc=>?_)
   ·refine AGr (ATp rfl (AGm (AGj (AGj (ATd trivial rfl (Ao9 Af (HB.ext A9) htb (Ahc (by assumption)) AGi) fun Fg Fh hk=>?_)))));obtain ⟨Ak,L5,Aq,Bi,Cq⟩:=hk;refine ⟨trivial,?_⟩;have Fi:=Ak.1;have Dd:=A9.trans Ak;have De:=By.ext Ak;have HR_92:=HR_83.ext Ak;have Df:=Db.ext Ak;have Dg:=Af.ext Ak;refine ATd trivial rfl (Aa8 Aq AGi) fun Fj Fk hk=>?_;obtain ⟨Ai,L6,Bl,Bm,Bn,Cw⟩:=hk;refine ⟨trivial,?_⟩;have Fl:=Ai.1;have Dh:=Dd.trans Ai;have Ba:=De.ext Ai;have HR_101:=HR_92.ext Ai;have Di:=Df.ext Ai;have Dj:=Dg.ext Ai;have Dk:=Aq.ext Ai;refine AGu ?_;obtain ⟨dd,hd⟩:∃ x,Q[j / 32]? =some x:=⟨_,List.getElem?_eq_getElem AGi⟩;have hdb:=hQd dd (List.mem_of_getElem? hd);obtain ⟨t,rfl⟩:=A0m hQd hd hQv;have hge:nv LB<=2 * nv R + x / 2 ^ (j % 32) % 2:=by rw [<- Ae,<- Ag];exact Ahc (by assumption)
    have Ar:j % 32 < 32:=Nat.mod_lt _ AGk;have Bo:2 ^ (j % 32) < 4294967296:=by have:=Arb Ar hdb;omega
    refine Aix AGx (AGj (AGj (Au2 rfl rfl AGi AGi AGi ?_)));rw [show (((j + 1:Nat):Int) - 1) / 32=((j / 32:Nat):Int) by omega];refine Akt ATf rfl Ba rfl (by rw [List.length_map];omega) ?_;refine AT3 AU8 rfl (AV5.cell Ba (Ajx hd)) (AGj (Aog rfl rfl AGi AGi ?_));rw [show (((j + 1:Nat):Int) - 1) % 32=((j % 32:Nat):Int) by omega];refine At2 (n:=j % 32) rfl rfl (by show j % 32<=32;omega) ?_;rw [A00 Ar];refine Amz rfl rfl (.inr (.inl rfl)) (Aza hdb Bo) ?_;rw [A4z];refine Akt ATf rfl Ba rfl (by rw [List.length_map];omega) ?_;refine Amc (Q.set (j / 32) (2 ^ (j % 32 + 1) * t + 2 ^ (j % 32))) AU8 rfl rfl Ba AGi rfl fun h9 Bp U9=>?_;have Fm:=U9.1;have Dl:=Dh.thenUpd U9 (fun k hk=>by have C2:k=g1:=hk;omega);have HR_107:=HR_101.updLo U9 AGi;have Fo:=Di.updLo U9 AGi;have Fp:=Dj.updLo U9 AGi;have Fq:=Dk.updLo U9 AGi;have Do:=Bl.updLo U9 AGi;refine ATh (q_b (q_t (AS3 (AGj (Aet rfl rfl AGi AGi ?_)))));rw [show (((j + 1:Nat):Int) - 1) - 1=((j:Nat):Int) - 1 by omega];refine AGu ?_;exact ⟨j,(j,_,Q.set (j / 32) (2 ^ (j % 32 + 1) * t + 2 ^ (j % 32)),L6),by first | omega | (dsimp only;omega),⟨rfl,by first | omega | (dsimp only;omega),Dl,AGi,Bp,by simp [hQl],Ajy hQd (Arb (Nat.mod_lt _ AGk) hdb),by dsimp only;rw [(hst.2.1 hge).2,<- A46,<- hQv,Anl j];have:=Am1 (2 ^ (j % 32 + 1) * t + 2 ^ (j % 32)) hd;rw [Nat.mul_add] at this;omega,Do.mono AGi,Bm,by dsimp only;rw [Bn,Bi,Ag,Ae];exact (hst.2.1 hge).1.symm⟩,rfl,rfl,trivial⟩
   ·refine AGr (ATr rfl (AGy (q_b (q_t (AS3 (AGj (Aet rfl rfl AGi AGi ?_)))))));rw [show (((j + 1:Nat):Int) - 1) - 1=((j:Nat):Int) - 1 by omega];refine AGu ?_;have hlt:2 * nv R + x / 2 ^ (j % 32) % 2 < nv LB:=by rw [<- Ae,<- Ag];exact Apa (by assumption)
    exact ⟨j,(j,_,Q,L4),by first | omega | (dsimp only;omega),⟨rfl,by first | omega | (dsimp only;omega),A9,AGi,By,hQl,hQd,by dsimp only;rw [(hst.2.2 hlt).2,hQv,A47],Af.mono AGi,Ap,by dsimp only;rw [Ag,Ae];exact (hst.2.2 hlt).1.symm⟩,rfl,rfl,trivial⟩
  ·refine AGr (ATr rfl (AS8 (ATa (ATa (AT7 (q_t (AGo ?_)))))));obtain rfl:i=0:=by omega
   rw [Nat.pow_zero,Nat.one_mul,Nat.div_one] at hQv;rw [Nat.pow_zero,Nat.div_one] at hRv;have HDq:=Ad.ds (lo:=0) hQd (Nat.zero_le _);refine AS3 (AGj (ATd trivial rfl (Aa8 (DS.ext HDq (Ext.refl _)) AGi) fun Fr Ft hk=>?_));obtain ⟨Bb,L7,Bq,C4,A3,C5⟩:=hk;refine ⟨trivial,?_⟩;have Fu:=Bb.1;have Bz:=XQ.trans Bb;have Fv:=Ad.ext Bb;have HR_118:=HR.ext Bb;refine AGj (ATi (AGu (AGz (⟨_,AUk,?_⟩))))
   first
   | exact ⟨Bz,_,_,rfl,L1,L2,lacks_HD1.mono AGi,lacks_HD2.mono AGi,Be,Bf,AGi,AGi⟩
   | exact ⟨Bz,_,_,rfl,L7,R,Bq.mono AGi,HR_118.mono AGi,by rw [A3];exact hQv,hRv,AGi,AGi⟩
end Go.Proofs.YthbndcbclhkepaaGreatDoor
namespace Go.QF
open Go
section
variable {P:Program} {ops:Array Oper}
structure LsF (ops:Array Oper) (R:List Nat) (listed:Array Bool):Prop where
  pw:List.Pairwise (· < ·) R
  size:listed.size=ops.size
  mem:∀ j,j∈R↔(j < ops.size/\listed.getD j true=false)
  cl:∀ j oj,listed.getD j false=true->ops[j]? =some oj-> ∀ ed∈oj.after,Region.binds .any ed=true->listed.getD ed.on false=true
theorem LsF.step {R1 R2:List Nat} {i:Nat} {listed:Array Bool} {oi:Oper} (L:LsF ops (R1 ++ i :: R2) listed) (hoi:ops[i]? =some oi) (hall:∀ ed∈oi.after,Region.binds .any ed=true->listed.getD ed.on false=true):LsF ops (R1 ++ R2) (listed.setIfInBounds i true):=by
 have hpw':=List.pairwise_append.1 L.pw;have his:i < ops.size:=(Array.getElem?_eq_some_iff.1 hoi).1;have his':i < listed.size:=by rw [L.size];exact his
 have Ab:∀ j,i≠j-> ∀ d,(listed.setIfInBounds i true).getD j d=listed.getD j d:=fun j hij d=>by
   simp only [Array.getD_eq_getD_getElem?];rw [Array.getElem?_setIfInBounds_ne hij]
 have htr:∀ j,listed.getD j false=true->(listed.setIfInBounds i true).getD j false=true:=fun j hj=>by
   by_cases h:i=j
   · subst h;simp [his']
   · rw [Ab j h];exact hj
 refine ⟨List.pairwise_append.2 ⟨hpw'.1,(List.pairwise_cons.1 hpw'.2.1).2,fun x hx y hy=>hpw'.2.2 x hx y (List.mem_cons_of_mem _ hy)⟩,by simp [L.size],fun j=>?_,?_⟩
 ·have hm:=L.mem j;constructor
  ·intro hj
   have hj':j∈R1 ++ i :: R2:=by
     rcases List.mem_append.1 hj with h | h
     · exact List.mem_append_left _ h
     · exact List.mem_append_right _ (List.mem_cons_of_mem _ h)
   obtain ⟨h1,h2⟩:=hm.1 hj'
   have hne:i≠j:=by
     intro he
     subst he
     rcases List.mem_append.1 hj with h | h
     · have:=hpw'.2.2 i h i (List.mem_cons_self ..);omega
     · have:=(List.pairwise_cons.1 hpw'.2.1).1 i h;omega
   exact ⟨h1,by rw [Ab j hne];exact h2⟩
  ·rintro ⟨h1,h2⟩
   have hne:i≠j:=by
     intro he
     subst he
     simp [his'] at h2
   rw [Ab j hne] at h2;have:=hm.2 ⟨h1,h2⟩;rcases List.mem_append.1 this with h | h
   ·exact List.mem_append_left _ h
   ·rcases List.mem_cons.1 h with h | h
    ·exact absurd h.symm hne
    ·exact List.mem_append_right _ h
 ·intro j oj hj hoj ed hed hbd;by_cases hij:i=j
  ·subst hij;rw [hoi] at hoj;injection hoj with hoj;subst hoj;exact htr _ (hall ed hed hbd)
  ·rw [Ab j hij] at hj;exact htr _ (L.cl j oj hj hoj ed hed hbd)
theorem LsF.notListed {R:List Nat} {listed:Array Bool} (L:LsF ops R listed) {k:Nat} (hk:k∈R):listed.getD k false=false:=by
 obtain ⟨h1,h2⟩:=(L.mem k).1 hk;have h3:k < listed.size:=by rw [L.size];exact h1
 simp [h3] at h2 ⊢;exact h2
theorem A48 {a b:Nat} (h:Nat.blt a b=true):a < b:=Nat.le_of_ble_eq_true h
theorem A2p (ops:Array Oper):LsF ops (List.range ops.size) (Array.replicate ops.size false):=by
 refine ⟨List.pairwise_lt_range,ATv,fun j=>?_,fun j oj hj _=>?_⟩
 ·simp only [List.mem_range];constructor
  ·intro h;exact ⟨h,by simp [h]⟩
  ·exact fun h=>h.1
 ·exfalso;rcases Nat.lt_or_ge j ops.size with h' | h'
  ·simp [h'] at hj
  ·simp [h'] at hj
def W2 (P:Program) (n:Nat) (c:Code) (Q:Exit->Env->AGt->Prop) (e:Env) (h:AGt):Prop:=
  ∀ (a:Act) (w:World) (Q':Exit->Act->World->Prop),Rep n e a->w.heap=h->(∀ x e' a' w',Rep n e' a'->Same w w'->Q x e' w'.heap->Q' x a' w')->c.wp P Q' a w
theorem Aih {n:Nat} {c:Code} {Q:Exit->Env->AGt->Prop} {e:Env} {h:AGt} (hmx:P.follows .mixedOrders=true) (hok:okC n c=true) (H:W P c Q e h):W2 P n c Q e h:=by
 intro a w Q' r hw hQ;subst hw;exact W.sound hmx hok r H hQ
theorem Ahd {n:Nat} {x y:Code} {Q:Exit->Env->AGt->Prop} {e:Env} {h:AGt} (H:W2 P n x (Agd (fun e h=>W2 P n y Q e h) Q) e h):W2 P n (.seq x y) Q e h:=by
 intro a w Q' r hw hQ;refine wp_seq (H a w _ r hw fun ex e' a' w' r' s k=>?_);cases ex <;> first | exact hQ _ _ _ _ r' s k | exact k a' w' Q' r' rfl (fun x e2 a2 w2 r2 s2 k2=>hQ _ _ _ _ r2 (s.trans s2) k2)
theorem Ap7 {B:AGt->Prop} {st:Bool} {K:Env->AGt->Prop}:∀ (I:List Nat) (L:List Oper),I.map (fun i=>ops[i]?)=L.map some-> ∀ e h,RL P B st ops L e h K->LI P B st ops I e h K:=by
 intro I
 induction I with
 | nil=>intro L hI e h H;cases L with | nil=>exact H | cons o L=>cases hI
 | cons i I ih=>
   intro L hI e h H
   cases L with
   | nil=>cases hI
   | cons o L=>
     simp only [List.map_cons,List.cons.injEq] at hI
     simp only [LI,hI.1]
     exact GOp.mono (fun v h' hh=>ih L hI.2 _ _ hh) H
theorem Aw6 {f:FuncId} {fn:Func} {c:Code} {rs:List ResultVar} {n:Nat} {l:List Value} {h:AGt} {K:Value->AGt->Prop} (hf:P.funcs[f]? =some fn) (hn:(fn.name == "runtime.NumGoroutine")=false) (hb:fn.body=some c) (hr:fn.results=rs.toArray) (hnt:fn.ntmps=n) (hl:Nat.ble l.length n=true) (H:W2 P n c (BAx P rs K) (Awo l) h):ATs P f l.toArray h K:=by
 refine ⟨⟨fn,hf,hn,by simp [hb]⟩,fun w hw=>?_⟩;subst hw;have hl:=Nat.le_of_ble_eq_true hl;refine calls_of_wp hf hb (H _ _ _ ⟨?_,rfl,fun t=>?_⟩ rfl fun x e' a' w' r s k=>?_)
 ·simp [hnt];omega
 ·rw [Awp];simp only [Array.getD_eq_getD_getElem?];rw [Array.getElem?_append];split
  ·simp
  ·rename_i hge;simp at hge;simp only [List.size_toArray];rw [List.getElem?_eq_none hge];rw [Array.getElem?_replicate];split <;> rfl
 ·cases x with
  | normal=>obtain ⟨v,hv,hk⟩:=k;exact ⟨r.defers,v,hv fn _ w' hr r.get rfl,v,rfl,s,hk⟩
  | ret=>obtain ⟨v,hv,hk⟩:=k;exact ⟨r.defers,v,hv fn _ w' hr r.get rfl,v,rfl,s,hk⟩
  | exit id=>exact k.elim
  | goto t=>exact k.elim
  | panic ch=>exact k.elim
  | outgrown=>exact k.elim
end
end Go.QF
namespace Go.QF
open Go
def over {α:Type}:List α->Nat->List α->List α
  | l,0,[]=>l
  | [],_,_=>[]
  | _ :: l,0,v :: vs=>v :: over l 0 vs
  | x :: l,k + 1,vs=>x :: over l k vs
theorem A49 {α:Type}:∀ (l:List α) (k:Nat) (vs:List α),(over l k vs).length=l.length:=by
 intro l
 induction l with
 | nil=>intro k vs;cases k <;> cases vs <;> rfl
 | cons x l ih=>
   intro k vs
   cases k with
   | zero=>cases vs with
     | nil=>rfl
     | cons v vs=>simp [over,ih]
   | succ k=>simp [over,ih]
theorem Ai7 {α:Type}:∀ (l:List α) (k:Nat) (vs:List α) (o:Nat),(over l k vs)[o]? =if k<=o/\o < k + vs.length/\o < l.length then vs[o - k]? else l[o]? :=by
 intro l
 induction l with
 | nil=>intro k vs o;cases k <;> cases vs <;> simp [over]
 | cons x l ih=>
   intro k vs o
   cases k with
   | zero=>cases vs with
     | nil=>simp [over]
     | cons v vs=>
       cases o with
       | zero=>simp [over]
       | succ o=>
         simp only [over,List.getElem?_cons_succ,ih]
         simp only [List.length_cons,Nat.zero_le,true_and,Nat.sub_zero,List.getElem?_cons_succ,Nat.zero_add,Nat.add_lt_add_iff_right]
   | succ k=>
     cases o with
     | zero=>simp [over]
     | succ o=>
       simp only [over,List.getElem?_cons_succ,ih,List.length_cons]
       by_cases hc:k<=o/\o < k + vs.length/\o < l.length
       · rw [if_pos hc,if_pos AGi];congr 1;omega
       · rw [if_neg hc,if_neg AGi]
theorem Avc {a b:Nat} (h:a≠b):Nat.beq a b=false:=by
 cases hb:Nat.beq a b with
 | false=>rfl
 | true=>exact absurd (Nat.eq_of_beq_eq_true hb) h
section
variable {P:Program} {B:AGt->Prop} {st:Bool} {ops:Array Oper} {rest:List Oper} {K:Env->AGt->Prop} {h:AGt} {G:List (Nat × Nat)} {e:Env} {H:AGt} {d:Nat} {ty:TypeId} {pos:String} {af:Array Edge}
end
end Go.QF
namespace Go.QF
open Go
theorem A2q (off:Nat):∀ (l:List Value) (k:Nat) (arr:Array Value),((l.zipIdx k).foldl (fun (cs:Array Value) (x:Value × Nat)=>cs.setIfInBounds (off + x.2) x.1) arr).toList=over arr.toList (off + k) l:=by
 intro l
 induction l with
 | nil=>
   intro k arr
   simp only [List.zipIdx_nil,List.foldl_nil]
   apply List.ext_getElem?
   intro o
   rw [Ai7,if_neg (by simp;omega)]
 | cons v l ih=>
   intro k arr
   simp only [List.zipIdx_cons,List.foldl_cons]
   rw [ih]
   apply List.ext_getElem?
   intro o
   rw [Ai7,Ai7]
   simp only [Array.toList_setIfInBounds,List.length_set,List.length_cons]
   by_cases hc:off + (k + 1)<=o/\o < off + (k + 1) + l.length/\o < arr.toList.length
   · rw [if_pos hc,if_pos AGi,show o - (off + k)=o - (off + (k + 1)) + 1 by omega,List.getElem?_cons_succ]
   · rw [if_neg hc,List.getElem?_set]
     by_cases he:off + k=o
     · subst he
       rw [if_pos rfl]
       by_cases hl:off + k < arr.toList.length
       · rw [if_pos hl,if_pos AGi,Nat.sub_self];rfl
       · rw [if_neg hl,if_neg AGi,List.getElem?_eq_none AGi]
     · rw [if_neg he,if_neg AGi]
theorem Atp (b:Nat):∀ (vs:List Value) (o:Nat) (w:World) (cs:Array Value) (t:TypeId) (q:Nat × Nat),w.heap[b]? =some (.cells cs t q)->o + vs.length<=cs.size->
    ∃ cs',(w.setCells b o vs).heap[b]? =some (.cells cs' t q)/\cs'.toList=over cs.toList o vs/\Upd (· =b) w.heap (w.setCells b o vs).heap/\Same w (w.setCells b o vs):=by
 intro vs
 induction vs with
 | nil=>
   intro o w cs t q hb ho
   refine ⟨cs,hb,?_,Upd.refl _ _,.refl w⟩
   apply List.ext_getElem?
   intro k
   rw [Ai7,if_neg (by simp;omega)]
 | cons v vs ih=>
   intro o w cs t q hb ho
   simp only [List.length_cons] at ho
   have h1:(w.setCell ⟨b,o,none⟩ v).heap[b]? =some (.cells (cs.setIfInBounds o v) t q):=by
     have:(w.setCell ⟨b,o,none⟩ v).heap=An2 w.heap ⟨b,o,none⟩ v:=rfl
     rw [this]
     simp only [An2,Array.getElem?_modify,if_true,hb,Option.map_some]
     rfl
   obtain ⟨cs',h2,h3,h4,h5⟩:=ih (o + 1) (w.setCell ⟨b,o,none⟩ v) _ t q h1 (by simp;omega)
   refine ⟨cs',h2,?_,(Aho w.heap ⟨b,o,none⟩ v).trans h4,(Same.trans (b:=w.setCell ⟨b,o,none⟩ v) ⟨rfl,rfl,rfl⟩ h5)⟩
   rw [h3]
   have:=A2q o (v :: vs) 0 cs
   apply List.ext_getElem?
   intro k
   rw [Ai7,Ai7]
   simp only [Array.toList_setIfInBounds,List.length_set,List.length_cons]
   by_cases hc:o + 1<=k/\k < o + 1 + vs.length/\k < cs.toList.length
   · rw [if_pos hc,if_pos AGi,show k - o=k - (o + 1) + 1 by omega,List.getElem?_cons_succ]
   · rw [if_neg hc,List.getElem?_set]
     by_cases he:o=k
     · subst he
       rw [if_pos rfl,if_pos (by simp;omega),if_pos (by simp;omega),Nat.sub_self];rfl
     · rw [if_neg he]
       by_cases hl:k < cs.toList.length
       · rw [if_neg AGi]
       · rw [if_neg AGi]
section
variable {P:Program} {B:AGt->Prop} {st:Bool} {ops:Array Oper} {rest:List Oper} {K:Env->AGt->Prop} {h:AGt} {G:List (Nat × Nat)} {e:Env} {H:AGt} {d:Nat} {ty:TypeId} {pos:String} {af:Array Edge}
theorem BBc {s x:Operand} {t t2:TypeId} {u:Value} (hB:B H) (hrun:∀ w,w.heap=H-> ∃ w',(Builtin.copy_ #[t,t2] ty #[e.ev s,e.ev x]).run P w= .ok u w'/\Same w w'/\B w'.heap/\RL P B st ops rest (e.set d u) w'.heap K):
    RL P B st ops (⟨some d,.call ⟨.builtin .copy,#[s,x],#[t,t2]⟩,ty,pos,af,none⟩ :: rest) e H K:=by
 refine Agf rfl rfl hB fun w hw=>?_;obtain ⟨w',h1,h2,h3,h4⟩:=hrun w hw
 have:(execOp e.ev ⟨some d,.call ⟨.builtin .copy,#[s,x],#[t,t2]⟩,ty,pos,af,none⟩).run P w= .ok (.value u) w':=by
   simp [execOp,resolve,invoke,builtin,h1]
 rw [this];exact ⟨h2,h3,h4⟩
end
end Go.QF
namespace Go.QF
open Go
section
variable {P:Program} {ops:Array Oper}
structure Aw7 (n:Nat) (ops:Array Oper) (f:Nat):Prop where
  spec:∀ {j:Nat} {oj:Oper},ops[j]? =some oj->(∀ d,oj.dst=some d->d < n)/\Aa3 oj=true/\((∀ ed∈oj.after,Region.binds .any ed=true->ed.on < j)/\
    ∀ i oi,i < j->i≠f->j≠f->ops[i]? =some oi->(∃ n,reach ops n i j=true)∨indep (Ah6 ops true) ops oi oj=true)
structure Lst (ops:Array Oper) (R:List Nat) (listed:Array Bool):Prop where
  pw:List.Pairwise (· < ·) R
  size:listed.size=ops.size
  mem:∀ j,j∈R↔(j < ops.size/\listed.getD j true=false)
  cl:∀ j oj,listed.getD j false=true->ops[j]? =some oj-> ∀ ed∈oj.after,Region.binds .any ed=true->listed.getD ed.on false=true
theorem Lst.step {R1 R2:List Nat} {i:Nat} {listed:Array Bool} {oi:Oper} (L:Lst ops (R1 ++ i :: R2) listed) (hoi:ops[i]? =some oi) (hall:∀ ed∈oi.after,Region.binds .any ed=true->listed.getD ed.on false=true):Lst ops (R1 ++ R2) (listed.setIfInBounds i true):=by
 have hpw':=List.pairwise_append.1 L.pw;have his:i < ops.size:=(Array.getElem?_eq_some_iff.1 hoi).1;have his':i < listed.size:=by rw [L.size];exact his
 refine ⟨List.pairwise_append.2 ⟨hpw'.1,(List.pairwise_cons.1 hpw'.2.1).2,fun x hx y hy=>hpw'.2.2 x hx y (List.mem_cons_of_mem _ hy)⟩,by simp [L.size],fun j=>?_,?_⟩
 ·have hm:=L.mem j;constructor
  ·intro hj
   have hj':j∈R1 ++ i :: R2:=by
     rcases List.mem_append.1 hj with h | h
     · exact List.mem_append_left _ h
     · exact List.mem_append_right _ (List.mem_cons_of_mem _ h)
   obtain ⟨h1,h2⟩:=hm.1 hj'
   have hne:i≠j:=by
     intro he
     subst he
     rcases List.mem_append.1 hj with h | h
     · have:=hpw'.2.2 i h i (List.mem_cons_self ..);omega
     · have:=(List.pairwise_cons.1 hpw'.2.1).1 i h;omega
   exact ⟨h1,by rw [getD_set_ne true hne];exact h2⟩
  ·rintro ⟨h1,h2⟩
   have hne:i≠j:=by
     intro he
     subst he
     simp [his'] at h2
   rw [getD_set_ne true hne] at h2;have:=hm.2 ⟨h1,h2⟩;rcases List.mem_append.1 this with h | h
   ·exact List.mem_append_left _ h
   ·rcases List.mem_cons.1 h with h | h
    ·exact absurd h.symm hne
    ·exact List.mem_append_right _ h
 ·intro j oj hj hoj ed hed hbd;by_cases hij:i=j
  ·subst hij;rw [hoi] at hoj;injection hoj with hoj;subst hoj;exact getD_set_true (hall ed hed hbd)
  ·rw [getD_set_ne false hij] at hj;exact getD_set_true (L.cl j oj hj hoj ed hed hbd)
theorem Lst.notListed {R:List Nat} {listed:Array Bool} (L:Lst ops R listed) {k:Nat} (hk:k∈R):listed.getD k false=false:=by
 obtain ⟨h1,h2⟩:=(L.mem k).1 hk;have h3:k < listed.size:=by rw [L.size];exact h1
 simp [h3] at h2 ⊢;exact h2
theorem Lst.ready {n f:Nat} {R:List Nat} {listed:Array Bool} (hok:Aw7 n ops f) (L:Lst ops R listed) (hR:R≠[]):Region.ready .any ops listed≠[]:=by
 intro hr
 cases R with
 | nil=>exact hR rfl
 | cons j R=>
   obtain ⟨hjs,hjl⟩:=(L.mem j).1 (List.mem_cons_self ..)
   obtain ⟨oj,hoj⟩:∃ oj,ops[j]? =some oj:=⟨ops[j],Array.getElem?_eq_getElem hjs⟩
   have:j∈Region.ready .any ops listed:=mem_ready.2 ⟨hjl,oj,hoj,fun ed hed hbd=>by
     obtain ⟨_,_,hd⟩:=hok.spec hoj
     have hlt:=hd.1 ed hed hbd
     cases hl:listed.getD ed.on false with
     | true=>rfl
     | false=>
       exfalso
       have hs:ed.on < ops.size:=Nat.lt_trans hlt hjs
       have hm:ed.on∈j :: R:=(L.mem ed.on).2 ⟨hs,by
         have h':ed.on < listed.size:=by rw [L.size];exact hs
         simp [h'] at hl ⊢;exact hl⟩
       rcases List.mem_cons.1 hm with he | he
       · omega
       · have:=(List.pairwise_cons.1 L.pw).1 _ he
         omega⟩
   rw [hr] at this
   cases this
theorem Lst.indep {n f:Nat} {R1 R2:List Nat} {i:Nat} {listed:Array Bool} {oi:Oper} (hok:Aw7 n ops f) (L:Lst ops (R1 ++ i :: R2) listed) (hoi:ops[i]? =some oi) (hall:∀ ed∈oi.after,Region.binds .any ed=true->listed.getD ed.on false=true) (hfi:i≠f) {k:Nat} (hk:k∈R1) (hfk:k≠f):
    ∃ ok,ops[k]? =some ok/\Aa3 ok=true/\indep (Ah6 ops true) ops ok oi=true:=by
 have hpw':=List.pairwise_append.1 L.pw;have his:i < ops.size:=(Array.getElem?_eq_some_iff.1 hoi).1;have hki:k < i:=hpw'.2.2 k hk i (List.mem_cons_self ..);have hks:k < ops.size:=Nat.lt_trans hki his;obtain ⟨ok,hok'⟩:∃ ok,ops[k]? =some ok:=⟨ops[k],Array.getElem?_eq_getElem hks⟩;refine ⟨ok,hok',(hok.spec hok').2.1,?_⟩;rcases (hok.spec hoi).2.2.2 k ok hki hfk hfi hok' with ⟨nre,hre⟩ | h
 ·exfalso;have h1:listed.getD k false=true:=Agc (L:=fun j=>listed.getD j false=true) L.cl nre k i oi hoi hall hre;rw [L.notListed (List.mem_append_left _ hk)] at h1;cases h1
 ·exact h
theorem Avd {B:AGt->Prop} {n f:Nat} {Q:Exit->Act->World->Prop} (hok:Aw7 n ops f):∀ (fuel:Nat) (R:List Nat) (listed:Array Bool) (e:Env) (a:Act) (w:World) (K:Env->AGt->Prop),
    f ∉ R->R.length=fuel->Lst ops R listed->Rep n e a->LI P B (Ah6 ops true) ops R e w.heap K->(∀ e' a' w',Rep n e' a'->Same w w'->K e' w'.heap->Q .normal a' w')->
    wpAny P .any ops Q fuel listed a w:=by
 intro fuel
 induction fuel with
 | zero=>
   intro R listed e a w K hfR hlen L r H hK
   obtain rfl:R=[]:=List.length_eq_zero_iff.1 hlen
   refine ⟨?_,hK _ _ _ r (.refl w) H⟩
   refine List.eq_nil_iff_forall_not_mem.2 fun j hj=>?_
   obtain ⟨hjl,oj,hoj,_⟩:=mem_ready.1 hj
   have:=(L.mem j).2 ⟨(Array.getElem?_eq_some_iff.1 hoj).1,hjl⟩
   cases this
 | succ fuel ih=>
   intro R listed e a w K hfR hlen L r H hK
   refine ⟨fun hr=>absurd hr (L.ready hok (fun h0=>by subst h0;simp at hlen)),fun i hi=>?_⟩
   obtain ⟨hil,oi,hoi,hall⟩:=mem_ready.1 hi
   have his:i < ops.size:=(Array.getElem?_eq_some_iff.1 hoi).1
   obtain ⟨R1,R2,rfl⟩:=List.append_of_mem ((L.mem i).2 ⟨his,hil⟩)
   obtain ⟨hdi,hsi,_⟩:=hok.spec hoi
   have hb:LI P B (Ah6 ops true) ops (i :: (R1 ++ R2)) e w.heap K:=
     LI.bubble hoi hsi R1 (fun k hk=>L.indep hok hoi hall (fun he=>hfR (he ▸ List.mem_append_right _ (List.mem_cons_self ..))) hk (fun he=>hfR (he ▸ List.mem_append_left _ hk))) H
   simp only [LI,hoi] at hb
   refine Adj hoi hdi r hb fun e' a' w' r' hs hk=>?_
   exact ih (R1 ++ R2) _ e' a' w' K (fun hf=>hfR (by rcases List.mem_append.1 hf with h | h;exact List.mem_append_left _ h;exact List.mem_append_right _ (List.mem_cons_of_mem _ h))) (by simp at hlen ⊢;omega) (L.step hoi hall) r' hk
     (fun e2 a2 w2 r2 s2 k2=>hK _ _ _ r2 (hs.trans s2) k2)
def LF (P:Program) (B:AGt->Prop) (st:Bool) (ops:Array Oper) (f:Nat) (T:List Nat):List Nat->Env->AGt->(Env->AGt->Prop)->Prop
  | [],e,h,K=>LI P B st ops (f :: T) e h K
  | i :: R,e,h,K=>LI P B st ops (f :: i :: (R ++ T)) e h K/\match ops[i]? with
    | none=>LF P B st ops f T R e h K
    | some o=>GOp P B st ops o e h fun e' h'=>LF P B st ops f T R e' h' K
theorem LF.now {B:AGt->Prop} {st:Bool} {f:Nat} {T R:List Nat} {e:Env} {h:AGt} {K:Env->AGt->Prop} (H:LF P B st ops f T R e h K):LI P B st ops (f :: (R ++ T)) e h K:=by
 cases R with
 | nil=>exact H
 | cons i R=>exact H.1
theorem SOp.and {B:AGt->Prop} {st:Bool} {o:Oper} {e:Env} {h:AGt} {K1 K2:Env->AGt->Prop} (hk:kindOf o.op= .pure∨kindOf o.op= .read) (H1:SOp P B st o e h K1) (H2:SOp P B st o e h K2):SOp P B st o e h fun e' h'=>K1 e' h'/\K2 e' h':=by
 have un:∀ {u u2:Value} {w:World},(execOp e.ev o).run P w= .ok (.value u) w->(execOp e.ev o).run P w= .ok (.value u2) w->u2=u:=by
   intro u u2 w a1 a2
   rw [a1] at a2
   injection a2 with a2 _
   injection a2 with a2
   exact a2.symm
 unfold SOp at H1 H2 ⊢;rcases hk with hk | hk
 ·simp only [hk] at H1 H2 ⊢;obtain ⟨v,hv,h1⟩:=H1;obtain ⟨v2,Ad,h2⟩:=H2;cases un (hv (Agb h)) (Ad (Agb h));exact ⟨v,hv,h1,h2⟩
 ·cases st with
  | false=>
    simp only [hk] at H1 H2 ⊢
    obtain ⟨v,hv,h1⟩:=H1
    obtain ⟨v2,Ad,h2⟩:=H2
    cases un (hv (Agb h) rfl) (Ad (Agb h) rfl)
    exact ⟨v,hv,h1,h2⟩
  | true=>
    simp only [hk] at H1 H2 ⊢
    obtain ⟨v,hb,hv,h1⟩:=H1
    obtain ⟨v2,_,Ad,h2⟩:=H2
    cases un (hv (Agb h) hb) (Ad (Agb h) hb)
    exact ⟨v,hb,hv,h1,h2⟩
theorem GOp.and {B:AGt->Prop} {st:Bool} {o:Oper} {e:Env} {h:AGt} {K1 K2:Env->AGt->Prop} (hk:kindOf o.op= .pure∨kindOf o.op= .read) (H1:GOp P B st ops o e h K1) (H2:GOp P B st ops o e h K2):GOp P B st ops o e h fun e' h'=>K1 e' h'/\K2 e' h':=by
 unfold GOp at *;split
 ·rename_i hw;rw [if_pos hw] at H1 H2;exact H1.and hk H2
 ·rename_i hw;rw [if_neg hw] at H1 H2;exact ⟨H1,H2⟩
theorem LF.bubbleA {B:AGt->Prop} {st:Bool} {f i:Nat} {T:List Nat} {of oi:Oper} (hf:ops[f]? =some of) (hsf:Aa3 of=true) (hi:ops[i]? =some oi) (hsi:Aa3 oi=true) (hk:kindOf oi.op= .pure∨kindOf oi.op= .read) (hfi:indep st ops of oi=true) (R1:List Nat):∀ {R2:List Nat} {e:Env} {h:AGt} {K:Env->AGt->Prop},
    (∀ k∈R1,∃ ok,ops[k]? =some ok/\Aa3 ok=true/\indep st ops ok oi=true)->LF P B st ops f T (R1 ++ i :: R2) e h K->GOp P B st ops oi e h fun e' h'=>LF P B st ops f T (R1 ++ R2) e' h' K:=by
  induction R1 with
  | nil=>
    intro R2 e h K _ H;have:=H.2;simp only [hi] at this;exact this
  | cons k R1 ih=>
    intro R2 e h K hind H;obtain ⟨ok,hok,hsk,hik⟩:=hind k (List.mem_cons_self ..);have h1:=H.1;have h2:=H.2;simp only [hok] at h2;have h3:GOp P B st ops ok e h fun e' h'=>GOp P B st ops oi e' h' fun e2 h2=>LF P B st ops f T (R1 ++ R2) e2 h2 K:=h2.mono fun v h' hh=>ih (fun k' hk'=>hind k' (List.mem_cons_of_mem _ hk')) hh;have h4:=GOp.swap hsk hsi hik h3;have h5:LI P B st ops ((f :: k :: R1) ++ i :: (R2 ++ T)) e h K:=by simpa using h1
    have h6:=LI.bubble hi hsi (f :: k :: R1) (fun j hj=>by
      rcases List.mem_cons.1 hj with rfl | hj
      · exact ⟨of,hf,hsf,hfi⟩
      · exact hind j hj) h5
    simp only [LI,hi] at h6
    refine (GOp.and hk h6 h4).mono fun v h' hh=>⟨?_,?_⟩
    · have:=hh.1;simpa [LI] using this
    · simp only [hok];exact hh.2
theorem LF.bubbleB {B:AGt->Prop} {st:Bool} {f i:Nat} {T:List Nat} {of oi:Oper} (hf:ops[f]? =some of) (hsf:Aa3 of=true) (hi:ops[i]? =some oi) (hsi:Aa3 oi=true) (R1:List Nat):∀ {R2:List Nat} {e:Env} {h:AGt} {K:Env->AGt->Prop},
    (∀ k∈R1,∃ ok,ops[k]? =some ok/\Aa3 ok=true/\indep st ops ok oi=true/\indep st ops ok of=true)->LF P B st ops f T (R1 ++ i :: R2) e h K->GOp P B st ops oi e h fun e' h'=>LF P B st ops f T (R1 ++ R2) e' h' K:=by
  induction R1 with
  | nil=>
    intro R2 e h K _ H;have:=H.2;simp only [hi] at this;exact this
  | cons k R1 ih=>
    intro R2 e h K hind H;obtain ⟨ok,hok,hsk,hik,hfk⟩:=hind k (List.mem_cons_self ..);have h2:=H.2;simp only [hok] at h2;have h3:GOp P B st ops ok e h fun e' h'=>GOp P B st ops oi e' h' fun e2 h2=>LF P B st ops f T (R1 ++ R2) e2 h2 K:=h2.mono fun v h' hh=>ih (fun k' hk'=>hind k' (List.mem_cons_of_mem _ hk')) hh
    refine (GOp.swap hsk hsi hik h3).mono fun v h' hh=>⟨?_,?_⟩
    · have h5:LI P B st ops ([k] ++ f :: (R1 ++ R2 ++ T)) (e.put oi.dst v) h' K:=by
        simp only [List.cons_append,List.nil_append,LI,hok];exact hh.mono fun v2 h2 hl=>by have:=hl.now;simpa [LI] using this
      have:=LI.bubble hf hsf [k] (fun j hj=>by rw [List.mem_singleton.1 hj];exact ⟨ok,hok,hsk,hfk⟩) h5;simpa using this
    · simp only [hok];exact hh
theorem LF.lift {B:AGt->Prop} {st:Bool} {f k:Nat} {T R:List Nat} {of ok:Oper} (hf:ops[f]? =some of) (hsf:Aa3 of=true) (hok:ops[k]? =some ok) (hsk:Aa3 ok=true) (hfk:indep st ops ok of=true) {e:Env} {h:AGt} {K:Env->AGt->Prop} (H:GOp P B st ops ok e h fun e' h'=>LF P B st ops f T R e' h' K):LF P B st ops f T (k :: R) e h K:=by
 refine ⟨?_,by simp only [hok];exact H⟩
 have h5:LI P B st ops ([k] ++ f :: (R ++ T)) e h K:=by
   simp only [List.cons_append,List.nil_append,LI,hok]
   exact H.mono fun v2 h2 hl=>by have:=hl.now;simpa [LI] using this
 have:=LI.bubble hf hsf [k] (fun j hj=>by rw [List.mem_singleton.1 hj];exact ⟨ok,hok,hsk,hfk⟩) h5;simpa using this
theorem Ash {st:Bool} {x y:Oper} (h:indep st ops x y=true):indep st ops y x=true:=by
 unfold indep at h ⊢;rw [Bool.and_eq_true] at h ⊢;refine ⟨?_,?_⟩
 ·have:=Oper.apart_spec h.1;have h1:=h.1;unfold Oper.apart at h1 ⊢;simp only [Bool.and_eq_true] at h1 ⊢;revert h1;cases hx:x.dst <;> cases hy:y.dst <;> simp <;> intros <;> simp_all <;> (try exact fun hh=>by simp_all)
 ·cases hx:kindOf x.op <;> cases hy:kindOf y.op <;> simp_all
end
end Go.QF
namespace Go.QF
open Go
section
variable {P:Program} {ops:Array Oper}
theorem A2s (ops:Array Oper):Lst ops (List.range ops.size) (Array.replicate ops.size false):=by
 refine ⟨List.pairwise_lt_range,ATv,fun j=>?_,fun j oj hj _=>?_⟩
 ·simp only [List.mem_range];constructor
  ·intro h;exact ⟨h,by simp [h]⟩
  ·exact fun h=>h.1
 ·exfalso;rcases Nat.lt_or_ge j ops.size with h' | h'
  ·simp [h'] at hj
  ·simp [h'] at hj
theorem range_split {f n:Nat} (h:f < n):List.range n=List.range f ++ f :: List.range' (f + 1) (n - f - 1):=by
 rw [List.range_eq_range',List.range_eq_range'];have h1:n=f + (1 + (n - f - 1)):=by omega
 conv=>lhs;rw [h1]
 rw [<- List.range'_append_1];congr 1;rw [Nat.zero_add,Nat.add_comm 1,List.range'_succ]
end
end Go.QF
namespace Go.QF
open Go
section
variable {P:Program} {ops:Array Oper}
theorem At3 {X1 X2:List Nat} {i:Nat} (h:i ∉ X1):(X1 ++ i :: X2).erase i=X1 ++ X2:=by
 rw [List.erase_append_right _ h,List.erase_cons_head]
theorem Ave {B:AGt->Prop} {n f:Nat} {of:Oper} {Q:Exit->Act->World->Prop} (hof:ops[f]? =some of) (S:Aw7 n ops f) (R0 T:List Nat) (hT:∀ j∈T,∃ n,reach ops n f j=true) (hdn:∀ j∈R0,∀ oj,ops[j]? =some oj->kindOf oj.op= .pure∨kindOf oj.op= .read->indep (Ah6 ops true) ops of oj=true):
    ∀ (fuel:Nat) (R Ra Rb:List Nat) (listed:Array Bool) (e:Env) (a:Act) (w:World) (K:Env->AGt->Prop),(∀ j∈R,j∈R0)->Ra ++ Rb=R ++ T->f ∉ R ++ T->
    (Ra ++ f :: Rb).length=fuel->Lst ops (Ra ++ f :: Rb) listed->Rep n e a->LF P B (Ah6 ops true) ops f T R e w.heap K->(∀ e' a' w',Rep n e' a'->Same w w'->K e' w'.heap->Q .normal a' w')->
    wpAny P .any ops Q fuel listed a w:=by
 intro fuel;have hsf:=(S.spec hof).2.1
 induction fuel with
 | zero=>intro R Ra Rb listed e a w K _ _ _ hlen;simp at hlen
 | succ fuel ih=>
   intro R Ra Rb listed e a w K Ah hRT hfR hlen L r H hK
   refine ⟨fun hr=>absurd hr (L.ready S ATv),fun i hi=>?_⟩
   obtain ⟨hil,oi,hoi,hall⟩:=mem_ready.1 hi
   have his:i < ops.size:=(Array.getElem?_eq_some_iff.1 hoi).1
   have hfL:f∈Ra ++ f :: Rb:=List.mem_append_right _ (List.mem_cons_self ..)
   have hpw:=List.pairwise_append.1 L.pw
   have hpc:=List.pairwise_cons.1 hpw.2.1
   by_cases hif:i=f
   · subst hif
     rw [hof] at hoi;cases hoi
     have h1:=H.now
     simp only [LI,hof] at h1
     refine Adj hof (S.spec hof).1 r h1 fun e' a' w' r' hs hk=>?_
     refine Avd S fuel (R ++ T) _ e' a' w' K hfR (by rw [<- hRT];simp at hlen ⊢;omega) (by rw [<- hRT];exact L.step hof hall) r' hk (fun e2 a2 w2 r2 s2 k2=>hK _ _ _ r2 (hs.trans s2) k2)
   · have hmem:∀ j,j≠f->(j∈Ra ++ f :: Rb↔j∈R ++ T):=by
       intro j hj
       rw [<- hRT]
       simp only [List.mem_append,List.mem_cons]
       constructor
       · rintro (h | h | h)
         · exact .inl h
         · exact absurd h hj
         · exact .inr h
       · rintro (h | h)
         · exact .inl h
         · exact .inr (.inr h)
     have hiL:=(L.mem i).2 ⟨his,hil⟩
     have hiR:i∈R:=by
       rcases List.mem_append.1 ((hmem i hif).1 hiL) with h | h
       · exact h
       · exfalso
         obtain ⟨nre,hre⟩:=hT i h
         have h1:listed.getD f false=true:=Agc (L:=fun j=>listed.getD j false=true) L.cl nre f i oi hoi hall hre
         rw [L.notListed hfL] at h1
         cases h1
     obtain ⟨R1,R2,rfl⟩:=List.append_of_mem hiR
     have hpwRT:List.Pairwise (· < ·) ((R1 ++ i :: R2) ++ T):=by
       rw [<- hRT]
       exact List.pairwise_append.2 ⟨hpw.1,hpc.2,fun x hx y hy=>hpw.2.2 x hx y (List.mem_cons_of_mem _ hy)⟩
     have hpR:=List.pairwise_append.1 (List.pairwise_append.1 hpwRT).1
     have Am:∀ k∈R1,k < i:=fun k hk=>hpR.2.2 k hk i (List.mem_cons_self ..)
     obtain ⟨hdi,hsi,_⟩:=S.spec hoi
     obtain ⟨X1,X2,hX⟩:=List.append_of_mem hiL
     have LX:Lst ops (X1 ++ i :: X2) listed:=by rw [<- hX];exact L
     have hpX:=List.pairwise_append.1 LX.pw
     have Au:i ∉ X1:=fun h=>by have:=hpX.2.2 i h i (List.mem_cons_self ..);omega
     have Av:∀ k∈R1,k∈X1:=fun k hk=>by
       have hkf:k≠f:=fun he=>hfR (he ▸ (List.mem_append_left _ (List.mem_append_left _ hk)))
       have:k∈X1 ++ i :: X2:=by rw [<- hX];exact (hmem k hkf).2 (List.mem_append_left _ (List.mem_append_left _ hk))
       have hlt:=Am k hk
       rcases List.mem_append.1 this with h | h
       · exact h
       · rcases List.mem_cons.1 h with h | h
         · omega
         · have:=(List.pairwise_cons.1 hpX.2.1).1 k h;omega
     have hind:∀ k∈R1,∃ ok,ops[k]? =some ok/\Aa3 ok=true/\indep (Ah6 ops true) ops ok oi=true:=fun k hk=>
       LX.indep S hoi hall hif (Av k hk) (fun he=>hfR (he ▸ (List.mem_append_left _ (List.mem_append_left _ hk))))
     have hg:GOp P B (Ah6 ops true) ops oi e w.heap fun e' h'=>LF P B (Ah6 ops true) ops f T (R1 ++ R2) e' h' K:=by
       by_cases hk:kindOf oi.op= .pure∨kindOf oi.op= .read
       · exact LF.bubbleA hof hsf hoi hsi hk (hdn i (Ah i hiR) oi hoi hk) R1 hind H
       · refine LF.bubbleB hof hsf hoi hsi R1 (fun k hk'=>?_) H
         obtain ⟨ok,h1,h2,h3⟩:=hind k hk'
         refine ⟨ok,h1,h2,h3,Ash (hdn k (Ah k (List.mem_append_left _ hk')) ok h1 ?_)⟩
         unfold indep at h3
         rw [Bool.and_eq_true] at h3
         have h4:=h3.2
         cases hx:kindOf ok.op with
         | pure=>exact .inl rfl
         | read=>exact .inr rfl
         | eff=>
           rw [hx] at h4
           cases hy:kindOf oi.op with
           | pure=>exact absurd (Or.inl hy) hk
           | read=>exact absurd (Or.inr hy) hk
           | eff=>rw [hy] at h4;cases h4
           | wr=>rw [hy] at h4;cases h4
         | wr=>
           rw [hx] at h4
           cases hy:kindOf oi.op with
           | pure=>exact absurd (Or.inl hy) hk
           | read=>exact absurd (Or.inr hy) hk
           | eff=>rw [hy] at h4;cases h4
           | wr=>rw [hy] at h4;cases h4
     refine Adj hoi hdi r hg fun e' a' w' r' hs hk=>?_
     have LS:=LX.step hoi hall
     have hiRT:i ∉ R1:=fun h=>by have:=Am i h;omega
     have herase:(Ra ++ Rb).erase i=(R1 ++ R2) ++ T:=by
       rw [hRT,List.append_assoc,List.cons_append,At3 hiRT,<- List.append_assoc]
     have hlen':X1.length + X2.length=fuel:=by
       have:=congrArg List.length hX
       simp at this hlen
       omega
     have fin:∀ Ra' Rb',X1 ++ X2=Ra' ++ f :: Rb'->Ra' ++ Rb'=(R1 ++ R2) ++ T->wpAny P .any ops Q fuel (listed.setIfInBounds i true) a' w':=by
       intro Ra' Rb' Ao Ax
       refine ih (R1 ++ R2) Ra' Rb' _ e' a' w' K (fun j hj=>Ah j ?_) Ax (fun hf=>hfR ?_) (by rw [<- Ao,List.length_append];exact hlen') (by rw [<- Ao];exact LS) r' hk (fun e2 a2 w2 r2 s2 k2=>hK _ _ _ r2 (hs.trans s2) k2)
       · rcases List.mem_append.1 hj with h | h
         · exact List.mem_append_left _ h
         · exact List.mem_append_right _ (List.mem_cons_of_mem _ h)
       · rcases List.mem_append.1 hf with h | h
         · refine List.mem_append_left _ ?_
           rcases List.mem_append.1 h with h | h
           · exact List.mem_append_left _ h
           · exact List.mem_append_right _ (List.mem_cons_of_mem _ h)
         · exact List.mem_append_right _ h
     have hXe:X1 ++ X2=(Ra ++ f :: Rb).erase i:=by rw [hX,At3 Au]
     by_cases hia:i∈Ra
     · refine fin (Ra.erase i) Rb (by rw [hXe,List.erase_append_left _ hia]) ?_
       rw [<- herase,List.erase_append_left _ hia]
     · refine fin Ra (Rb.erase i) (by rw [hXe,List.erase_append_right _ hia,List.erase_cons_tail (by simpa using fun he:f=i=>hif he.symm)]) ?_
       rw [<- herase,List.erase_append_right _ hia]
def A5a (n:Nat) (ops:Array Oper) (pre:List Nat) (f k:Nat) (T:List Nat):Bool:=match ops[f]?,ops[k]? with
  | some of,some ok=>of.after.all (fun ed=> !Region.binds .any ed) && (match kindOf ok.op with | .eff=>true | .wr=>true | _=>false) &&
    ((List.range ops.size).filter (fun j=> !Nat.beq j f) == pre ++ k :: T) && T.all (fun j=>ahead ops f j) &&
    pre.all (fun j=>match ops[j]? with | some oj=>indep (Ah6 ops true) ops oj of | none=>false) &&
    (List.range ops.size).all fun j=>match ops[j]? with
    | none=>false
    | some oj=>(match oj.dst with | some d=>decide (d < n) | none=>true) && Aa3 oj && oj.after.all (fun ed=> !Region.binds .any ed || decide (ed.on < j)) &&
      (Nat.beq j f || ((List.range j).all fun i=>match ops[i]? with
        | none=>false
        | some oi=>Nat.beq i f || ahead ops i j || indep (Ah6 ops true) ops oi oj))
  | _,_=>false
theorem BBd {B:AGt->Prop} {st:Bool} {f:Nat} {T R:List Nat} {of:Oper} {K:Env->AGt->Prop} (hof:ops[f]? =some of) (hsf:Aa3 of=true):∀ (pre:List Nat) (L:List Oper),pre.map (fun i=>ops[i]?)=L.map some->(∀ j∈pre,∀ oj,ops[j]? =some oj->Aa3 oj=true/\indep st ops oj of=true)-> ∀ e h,RL P B st ops L e h (fun e' h'=>LF P B st ops f T R e' h' K)->LF P B st ops f T (pre ++ R) e h K:=by
 intro pre
 induction pre with
 | nil=>intro L hL _ e h H;cases L with | nil=>exact H | cons o L=>cases hL
 | cons k pre ih=>
   intro L hL hp e h H
   cases L with
   | nil=>cases hL
   | cons o L=>
     simp only [List.map_cons,List.cons.injEq] at hL
     obtain ⟨h1,h2⟩:=hp k (List.mem_cons_self ..) o hL.1
     refine LF.lift hof hsf hL.1 h1 h2 (GOp.mono (fun v h' hh=>?_) H)
     exact ih L hL.2 (fun j hj=>hp j (List.mem_cons_of_mem _ hj)) _ _ hh
inductive Asi (ops:Array Oper):List Nat->List Oper->Prop
  | nil:Asi ops [] []
  | cons {i:Nat} {o:Oper} {I:List Nat} {L:List Oper} (h:ops[i]? =some o) (t:Asi ops I L):Asi ops (i :: I) (o :: L)
theorem Asi.map {I:List Nat} {L:List Oper} (h:Asi ops I L):I.map (fun i=>ops[i]?)=L.map some:=by
 induction h with
 | nil=>rfl
 | cons h t ih=>simp only [List.map_cons,h,ih]
theorem Avf {B:AGt->Prop} {n:Nat} (st:Bool) (pre:List Nat) (f k:Nat) (T:List Nat) {Lp Lt:List Oper} {of ok:Oper} {id:Nat} {Q:Exit->Env->AGt->Prop} {e:Env} {h:AGt} (hmx:P.follows .mixedOrders=true) (hok:A5a n ops pre f k T=true) (hst:Ah6 ops true=st) (hf:ops[f]? =some of) (hk:ops[k]? =some ok)
    (hLp':Asi ops pre Lp) (hLt':Asi ops T Lt)
    (H:RL P B st ops Lp e h fun e' h'=>RL P B st ops (of :: ok :: Lt) e' h' (Q .normal)/\RL P B st ops (ok :: of :: Lt) e' h' (Q .normal)):
    W2 P n (.region id ops true) Q e h:=by
  intro a w Q' r hw hQ;subst hw;subst hst;have hLp:=hLp'.map;have hLt:=hLt'.map;unfold A5a at hok;simp only [hf,hk,Bool.and_eq_true] at hok;obtain ⟨⟨⟨⟨⟨h0,hkk⟩,hrg⟩,hT⟩,hpre⟩,H2⟩:=hok
  have key:∀ {j:Nat} {oj:Oper},ops[j]? =some oj->(((match oj.dst with | some d=>decide (d < n) | none=>true)=true/\Aa3 oj=true)/\oj.after.all (fun ed=> !Region.binds .any ed || decide (ed.on < j))=true)/\
      (Nat.beq j f || ((List.range j).all fun i=>match ops[i]? with | none=>false | some oi=>Nat.beq i f || ahead ops i j || indep (Ah6 ops true) ops oi oj))=true:=by
    intro j oj hj;have hlt:j < ops.size:=(Array.getElem?_eq_some_iff.1 hj).1;have H:=List.all_eq_true.1 H2 j (List.mem_range.2 hlt);simp only [hj,Bool.and_eq_true] at H;exact H
  have S:Aw7 n ops f:=⟨fun {j oj} hj=>by
    obtain ⟨⟨⟨h1,h2⟩,h3⟩,h4⟩:=key hj
    refine ⟨fun d hd=>by simpa [hd] using h1,h2,fun ed hed hbd=>?_,fun i oi hij hif hjf hoi=>?_⟩
    · have:=Array.all_eq_true_iff_forall_mem.1 h3 ed hed;simpa [hbd] using this
    · rw [Avc hjf,Bool.false_or] at h4;have:=List.all_eq_true.1 h4 i (List.mem_range.2 hij);simp only [hoi,Avc hif,Bool.false_or,Bool.or_eq_true] at this
      rcases this with h | h
      · exact .inl (Ahs h)
      · exact .inr h⟩
  have hrg2:(List.range ops.size).filter (fun j=> !Nat.beq j f)=pre ++ k :: T:=by simpa using hrg
  have hfl:f < ops.size:=(Array.getElem?_eq_some_iff.1 hf).1;have hsp:=range_split hfl
  have hfil:(List.range ops.size).filter (fun j=> !Nat.beq j f)=List.range f ++ List.range' (f + 1) (ops.size - f - 1):=by
    rw [hsp,List.filter_append,List.filter_cons];have hff:Nat.beq f f=true:=Nat.beq_eq.mpr rfl;simp only [hff,Bool.not_true,Bool.false_eq_true,if_false]
    rw [List.filter_eq_self.2,List.filter_eq_self.2]
    · intro j hj;have:=List.mem_range'_1.1 hj;rw [Avc AGi];rfl
    · intro j hj;have:=List.mem_range.1 hj;rw [Avc AGi];rfl
  have hsf:=(S.spec hf).2.1;refine wp_region_draw fun t=>?_;simp only [Region.schedule,hmx,Bool.true_or,if_true]
  refine wpAny_sound ops.size t _ a _ (Ave (B:=B) (K:=Q .normal) hf S (pre ++ [k]) T (fun j hj=>Ahs (List.all_eq_true.1 hT j hj)) ?_ ops.size (pre ++ [k]) (List.range f) (List.range' (f + 1) (ops.size - f - 1)) (Array.replicate ops.size false) e a { w with drawn:=w.drawn + 1 } (fun j hj=>hj) (by rw [<- hfil,hrg2];simp) ?_ (by rw [<- hsp];simp) (by rw [<- hsp];exact A2s ops) r ?_
    (fun e' a' w' r' hs hk=>hQ .normal e' a' w' r' ⟨hs.os,hs.tape,hs.output⟩ hk))
  · intro j hj oj hoj hkj
    rcases List.mem_append.1 hj with h | h
    · have:=List.all_eq_true.1 hpre j h;simp only [hoj] at this;exact Ash this
    · rw [List.mem_singleton.1 h,hk] at hoj;cases hoj;rcases hkj with hkj | hkj <;> (rw [hkj] at hkk;cases hkk)
  · have:f ∉ (List.range ops.size).filter (fun j=> !Nat.beq j f):=by
      intro hm;have:=(List.mem_filter.1 hm).2;have hff:Nat.beq f f=true:=Nat.beq_eq.mpr rfl;rw [hff] at this;cases this
    rw [hrg2] at this;simpa using this
  · refine BBd hf hsf pre Lp hLp (fun j hj oj hoj=>⟨(S.spec hoj).2.1,?_⟩) _ _ (RL.mono (fun e' h' hh=>?_) H)
    · have:=List.all_eq_true.1 hpre j hj;simp only [hoj] at this;exact this
    · refine ⟨?_,?_⟩
      · exact Ap7 (f :: k :: ([] ++ T)) (of :: ok :: Lt) (by simp [hf,hk,hLt]) _ _ hh.1
      · simp only [hk];refine GOp.mono (fun v h2 hl=>?_) hh.2;exact Ap7 (f :: T) (of :: Lt) (by simp [hf,hLt]) _ _ hl
theorem A01 {n:Nat} {c:Operand} {x y:Code} {Q:Exit->Env->AGt->Prop} {e:Env} {h:AGt} (hc:e.ev c= .bool true) (H:W2 P n x Q e h):W2 P n (.cond c x y) Q e h:=by
 intro a w Q' r hw hQ;exact wp_cond_split (t:=true) (by rw [r.eval];exact hc) (fun _=>H a w Q' r hw hQ) (fun hh=>by cases hh)
theorem Aw8 {n:Nat} {c:Operand} {x y:Code} {Q:Exit->Env->AGt->Prop} {e:Env} {h:AGt} (hc:e.ev c= .bool false) (H:W2 P n y Q e h):W2 P n (.cond c x y) Q e h:=by
 intro a w Q' r hw hQ;exact wp_cond_split (t:=false) (by rw [r.eval];exact hc) (fun hh=>by cases hh) (fun _=>H a w Q' r hw hQ)
end
end Go.QF
namespace Go.QF
open Go
theorem A8c (a b:Int):Au0 .lss a b=some (decide (a < b)):=rfl
theorem A8d (a b:Int):Au0 .leq a b=some (decide (a<=b)):=rfl
theorem A8e (a b:Int):Au0 .gtr a b=some (decide (b < a)):=rfl
theorem A8f (a b:Int):Au0 .geq a b=some (decide (b<=a)):=rfl
theorem A8g (a b:Int):Au0 .eql a b=some (decide (a=b)):=by
 show some _=some _;rw [show (a == b)=decide (a=b) from by rw [Bool.eq_iff_iff];simp]
theorem A8h (a b:Int):Au0 .neq a b=some (decide (¬ a=b)):=by
 show some (a != b)=some _;rw [show (a != b)=decide (¬ a=b) from by rw [Bool.eq_iff_iff];simp]
theorem AXs.isOne {α:Type} {c:Cod α} {h:AGt} {v:Value} {L:List (List α)} (H:AXs c h v L):isOne v=true:=by
 obtain ⟨_,Ls,⟨a,cap,rfl,_⟩,_⟩:=H;rfl
theorem AVt.rowG {α:Type} {c:Cod α} {er el:Nat} {h:AGt} {F:List Nat} {Gs:List (List Nat)} {rs:List Value} {v:Value} {M:List (List α)} (H:AVt c er el h F Gs rs v M) {i:Int} {L:List α} (hL:gI M i=some L):∃ G,Gs[i.toNat]? =some G/\(∀ x∈G,x∈F)/\(∀ x∈G,Akh h x)/\ ∀ b,F=b :: Gs.flatten->b ∉ G:=by
 have hnd:=H.notD;have hn:=H.nodup;obtain ⟨n,rfl,hL⟩:=AZu hL;obtain ⟨b,r,hF,h2,hr,hm⟩:=Ao4 H hL;obtain ⟨G,hG,HR,hGF⟩:=H.row hr hL;refine ⟨G,hG,hGF,fun x hx=>hnd x (hGF x hx),fun b' hb' hm'=>?_⟩;rw [hb'] at hn;exact (List.nodup_cons.1 hn).1 (AWz hG hm')
def swp (i j k:Nat):Nat:=if k=i then j else if k=j then i else k
theorem A8i {i j k l:Nat} (h:swp i j k=swp i j l):k=l:=by
 unfold swp at h;split at h <;> split at h <;> (try split at h) <;> (try split at h) <;> omega
theorem Asj {β:Type} {L:List β} {i j:Nat} {a b:β} (ha:L[i]? =some a) (hb:L[j]? =some b) (k:Nat):((L.set i b).set j a)[k]? =L[swp i j k]? :=by
 have hi:=(List.getElem?_eq_some_iff.1 ha).1;have hj:=(List.getElem?_eq_some_iff.1 hb).1;unfold swp;by_cases h1:k=j
 ·subst h1;rw [List.getElem?_set_self (by rw [List.length_set];exact hj)];by_cases h2:k=i
  ·subst h2;rw [if_pos rfl];rw [<- ha]
  ·rw [if_neg h2,if_pos rfl,ha]
 ·rw [List.getElem?_set_ne (fun h=>h1 h.symm)];by_cases h2:k=i
  ·subst h2;rw [List.getElem?_set_self hi,if_pos rfl,hb]
  ·rw [List.getElem?_set_ne (fun h=>h2 h.symm),if_neg h2,if_neg h1]
theorem Aw9:∀ {Gs:List (List Nat)},(∀ (i:Nat) (G:List Nat),Gs[i]? =some G->G.Nodup)->(∀ (i j:Nat) (G H:List Nat),i≠j->Gs[i]? =some G->Gs[j]? =some H-> ∀ x∈G,x ∉ H)->Gs.flatten.Nodup:=by
 intro Gs
 induction Gs with
 | nil=>intro _ _;simp
 | cons G Gs ih=>
   intro h1 h2
   rw [List.flatten_cons]
   refine List.nodup_append.2 ⟨h1 0 G rfl,ih (fun i H hi=>h1 (i + 1) H (by simpa using hi)) (fun i j A B hij hA hB=>h2 (i + 1) (j + 1) A B AGi (by simpa using hA) (by simpa using hB)),fun x hx y hy he=>?_⟩
   obtain ⟨H,hH,hyH⟩:=List.mem_flatten.1 hy
   obtain ⟨j,hj⟩:=List.getElem?_of_mem hH
   exact h2 0 (j + 1) G H AGi rfl (by simpa using hj) x hx (he ▸ hyH)
section
variable {P:Program} {B:AGt->Prop} {st:Bool} {ops:Array Oper} {rest:List Oper} {e:Env} {h:AGt} {K:Env->AGt->Prop}
variable {d d' d2:Nat} {ty ty' ty2 ty3:TypeId} {pos pos' pos2 pos3:String} {af af' af2 af3:Array Edge}
theorem At4 {α:Type} {c:Cod α} {x i:Operand} {d':Nat} {er0 er el tr tl:Nat} {v v1:Value} {κ:IntKind} {m:Nat} {F G F1:List Nat} {Gs:List (List Nat)} {rs:List Value} {M:List (List α)} {L L1:List α} {h0 h1:AGt} (hTr:SlT P tr er0 1) (htl:NaT P tl)
    (HO:AVt c er el h0 F Gs rs v M) (hL0:M[m]? =some L) (hG:Gs[m]? =some G) (HR1:OwC c el h1 F1 v1 L1) (U1:UpT G h0 h1) (hF1:∀ x∈F1,x∈G∨h0.size<=x) (hx:e.ev x=v) (hi:e.ev i= .int κ (m:Int)) (hd1:∀ w,(e.set d2 w).ev (.tmp d')=v1)
    (H:∀ q F' Gs' rs' h',AVt c er el h' F' Gs' rs' v (sI M m L1)->UpT F h0 h'->(∀ x∈F',x∈F∨h0.size<=x)->RL P B st ops rest (e.set d2 q) h' K):
    RL P B st ops (⟨some d2,.indexAddr tr x i,ty2,pos2,af2,none⟩ :: ⟨none,.store tl (.tmp d2) (.tmp d'),ty3,pos3,af3,none⟩ :: rest) e h1 K:=by
  have hnd:=HO.notD;have hlt:=HO.lt;have hn:=HO.nodup;obtain ⟨b,r0,hFb,hb2,hr0,hm⟩:=Ao4 HO hL0;obtain ⟨G',hG',_,hGF⟩:=HO.row hr0 hL0;rw [hG] at hG';injection hG' with hG';subst hG';have hbG:b ∉ G:=fun hm'=>by rw [hFb] at hn;exact (List.nodup_cons.1 hn).1 (AWz hG hm')
  have HO':=HO
  rcases HO' with ⟨rfl,_⟩ | ⟨b',hF',_,h2,h3,h4,h5,h6⟩
  · simp at hL0
  rw [hFb] at hF';injection hF' with hF';subst hF';have h21:=h2.upd (S:=(· ∈G)) U1.1 hbG;have hml:m < M.length:=(List.getElem?_eq_some_iff.1 hL0).1;refine Ao3 (er:=er) (n:=m) hTr hx h21 hi (by simpa using hm) ?_;rw [Nat.mul_one];have hd2:((e.set d2 (.pointer (some ⟨b,m,none⟩))).ev (.tmp d2))= .pointer (some ⟨b,m,none⟩):=Env.set_same _ _ _;refine (Ads (n:=m) (el:=er) (g:=b) htl (by rw [Nat.mul_one];exact hd2) (hd1 _) HR1.isOne) v _ h21 (by simpa using hm) fun h' hS hU=>?_;have h22:=hS v _ h21 (by simpa using hm);have hnd1:∀ x∈F,Akh h1 x:=fun x hx=>(hnd x hx).of U1;have U2:UpT [b] h1 h':=Ah9 hU ATv (fun x hx _=>hnd1 x (by rw [List.mem_singleton.1 hx,hFb];simp)) (h22.notD h3);have UF:UpT F h0 h':=(U1.mono hGF fun x hx _=>hnd x hx).then U2 fun x hx=> .inl (by rw [List.mem_singleton.1 hx,hFb];simp)
  have hbF1:b ∉ F1:=fun hm'=>by
    rcases hF1 b hm' with h7 | h7
    · exact hbG h7
    · have:=hlt b (by rw [hFb];simp);omega
  have hsub:∀ x∈b :: (Gs.set m F1).flatten,x∈F∨h0.size<=x:=by
    intro z hz
    rcases List.mem_cons.1 hz with rfl | hz
    · exact .inl (by simp [hFb])
    · rcases Adr hz with h7 | ⟨j,G2,_,hG2,hz⟩
      · rcases hF1 z h7 with h8 | h8
        · exact .inl (hGF z h8)
        · exact .inr h8
      · exact .inl (by rw [hFb];exact List.mem_cons_of_mem _ (AWz hG2 hz))
  have hn2:=hn;rw [hFb] at hn2;have hnf:=List.nodup_cons.1 hn2
  refine H _ (b :: (Gs.set m F1).flatten) (Gs.set m F1) (rs.set m v1) h' (.inr ⟨b,rfl,?_,by rw [List.map_set];exact h22,h3,by simp [sI,h4],by simp [sI,h5],fun i' G2 r2 L2 hGi hri hLi=>?_⟩) UF hsub
  · refine List.nodup_cons.2 ⟨fun hz=>?_,Agl hnf.2 HR1.nodup fun z hz j G2 hj hG2 hzG=>?_⟩
    · rcases Adr hz with h7 | ⟨j,G2,_,hG2,hz⟩
      · exact hbF1 h7
      · exact hnf.1 (AWz hG2 hz)
    · rcases hF1 z hz with h7 | h7
      · exact Aw3 hnf.2 hG hG2 (fun he=>hj he.symm) z h7 hzG
      · have:=hlt z (by rw [hFb];exact List.mem_cons_of_mem _ (AWz hG2 hzG));omega
  · by_cases hii:i'=m
    · subst hii;rw [List.getElem?_set_self AGi] at hGi hri;simp only [sI,Int.toNat_natCast] at hLi;rw [List.getElem?_set_self AGi] at hLi;injection hGi with hGi;injection hri with hri;injection hLi with hLi;subst hGi;subst hri;subst hLi;exact HR1.upT U2 fun z hz hzb=>hbF1 (List.mem_singleton.1 hzb ▸ hz)
    · rw [List.getElem?_set_ne (fun he=>hii he.symm)] at hGi hri;simp only [sI,Int.toNat_natCast] at hLi;rw [List.getElem?_set_ne (fun he=>hii he.symm)] at hLi
      exact ((h6 i' G2 r2 L2 hGi hri hLi).upT U1 fun z hz hzG=>Aw3 hnf.2 hGi hG hii z hz hzG).upT U2 fun z hz hzb=>by
        rw [List.mem_singleton.1 hzb] at hz;exact hnf.1 (AWz hGi hz)
theorem A2t {α:Type} {c:Cod α} {s y x i:Operand} {t er0 er el bytes tr tl:Nat} {z v r:Value} {κ:IntKind} {n:Int} {F G:List Nat} {Gs:List (List Nat)} {rs:List Value} {M:List (List α)} {L:List α} {a:α} {cs:List Value} (hT:SlT P t el c.k) (hz:ZeT P el z bytes) (hzk:z.cells.size=c.k) (hel:Nat.beq el 170=false) (hTr:SlT P tr er0 1) (htl:NaT P tl)
    (HO:AVt c er el h F Gs rs v M) (hr:rs[n.toNat]? =some r) (hL:gI M n=some L) (hG:Gs[n.toNat]? =some G) (hb0:B h) (hbB:∀ h',UpT G h h'->B h') (hs:∀ p,(e.set d p).ev s=r) (hy:e.ev y=c.val cs) (hrep:c.rep h a cs) (hx:∀ p w,((e.set d p).set d' w).ev x=v) (hi:∀ p w,((e.set d p).set d' w).ev i= .int κ n) (hdd:Nat.beq d' d2=false) (hby:bytes<=1000) (hl:L.length<=100000000)
    (H:∀ p q F' Gs' rs' v' h',AVt c er el h' F' Gs' rs' v (sI M n (L ++ [a]))->UpT F h h'->(∀ x∈F',x∈F∨h.size<=x)->RL P B st ops rest (((e.set d p).set d' v').set d2 q) h' K):
    RL P B st ops (⟨some d,.buildSlice t 1 #[(0,y)],ty,pos,af,none⟩ :: ⟨some d',.call ⟨.builtin .append,#[s,.tmp d],#[t,t]⟩,ty',pos',af',none⟩ :: ⟨some d2,.indexAddr tr x i,ty2,pos2,af2,none⟩ :: ⟨none,.store tl (.tmp d2) (.tmp d'),ty3,pos3,af3,none⟩ :: rest) e h K:=by
  obtain ⟨m,rfl,hL0⟩:=AZu hL;rw [Int.toNat_natCast] at hr hG;obtain ⟨G',hG',HR,hGF⟩:=HO.row hr hL0;rw [hG] at hG';injection hG' with hG';subst hG';refine Adu hT hz hzk hel hb0 hbB hs hy hrep HR hby hl fun p F1 v1 h1 HR1 U1 hF1=>?_
  exact At4 hTr htl HO hL0 hG HR1 U1 hF1 (hx p v1) (hi p v1) (fun w=>by
    show (bif Nat.beq d' d2 then _ else (bif Nat.beq d' d' then _ else _))=_;rw [hdd,Nat.beq_eq.mpr rfl];rfl) fun q F' Gs' rs' h' H1 H2 H3=>H p q F' Gs' rs' v1 h' H1 H2 H3
theorem Afv {α:Type} {c:Cod α} {x1 x2 y1 y2 i1 i2:Operand} {er er0 el tr tl:Nat} {v r1 r2:Value} {κ1 κ2:IntKind} {n1 n2:Int} {F:List Nat} {Gs:List (List Nat)} {rs:List Value} {M:List (List α)} {L1 L2:List α} (hTr:SlT P tr er0 1) (htl:NaT P tl) (HO:AVt c er el h F Gs rs v M) (hr1:rs[n1.toNat]? =some r1) (hr2:rs[n2.toNat]? =some r2) (hL1:gI M n1=some L1) (hL2:gI M n2=some L2)
    (hx1:e.ev x1=v) (hi1:e.ev i1= .int κ1 n1) (hy1:∀ p,(e.set d p).ev y1=r2) (hx2:∀ p,(e.set d p).ev x2=v) (hi2:∀ p,(e.set d p).ev i2= .int κ2 n2) (hy2:∀ p q,((e.set d p).set d' q).ev y2=r1)
    (H:∀ p q F' Gs' rs' h',AVt c er el h' F' Gs' rs' v (sI (sI M n1 L2) n2 L1)->UpT F h h'->(∀ x∈F',x∈F∨h.size<=x)->RL P B st ops rest ((e.set d p).set d' q) h' K):
    RL P B st ops (⟨some d,.indexAddr tr x1 i1,ty,pos,af,none⟩ :: ⟨none,.store tl (.tmp d) y1,ty',pos',af',none⟩ :: ⟨some d',.indexAddr tr x2 i2,ty2,pos2,af2,none⟩ :: ⟨none,.store tl (.tmp d') y2,ty3,pos3,af3,none⟩ :: rest) e h K:=by
  obtain ⟨m1,rfl,hM1⟩:=AZu hL1;obtain ⟨m2,rfl,hM2⟩:=AZu hL2;rw [Int.toNat_natCast] at hr1 hr2;have hnd:=HO.notD;have hlt:=HO.lt;have hn:=HO.nodup;have hm1:=(List.getElem?_eq_some_iff.1 hM1).1;have hm2:=(List.getElem?_eq_some_iff.1 hM2).1;obtain ⟨G1,hG1,HR1,hGF1⟩:=HO.row hr1 hM1;obtain ⟨G2,hG2,HR2,hGF2⟩:=HO.row hr2 hM2
  rcases HO with ⟨rfl,_⟩ | ⟨b,hF,_,h2,h3,h4,h5,h6⟩
  · simp at hM1
  rw [hF] at hn;have hnf:=List.nodup_cons.1 hn;refine Ao3 (er:=er) (n:=m1) hTr hx1 h2 hi1 (by rw [List.length_map];omega) ?_;rw [Nat.mul_one];refine (Ads (n:=m1) (el:=er) (g:=b) htl (by rw [Nat.mul_one];exact Env.set_same _ _ _) (hy1 _) HR2.isOne) v _ h2 (by rw [List.length_map];omega) fun h1 hS1 hU1=>?_;have h21:=hS1 v _ h2 (by rw [List.length_map];omega);refine Ao3 (er:=er) (n:=m2) hTr (hx2 _) h21 (hi2 _) (by rw [List.length_set,List.length_map];omega) ?_;rw [Nat.mul_one];refine (Ads (n:=m2) (el:=er) (g:=b) htl (by rw [Nat.mul_one];exact Env.set_same _ _ _) (hy2 _ _) HR1.isOne) v _ h21 (by rw [List.length_set,List.length_map];omega) fun h' hS2 hU2=>?_;have h22:=hS2 v _ h21 (by rw [List.length_set,List.length_map];omega);have N1:UpT [b] h h1:=Ah9 hU1 ATv (fun x hx _=>hnd x (by rw [List.mem_singleton.1 hx,hF];simp)) (h21.notD h3);have N2:UpT [b] h1 h':=Ah9 hU2 ATv (fun x hx hl=>((hnd x (by rw [List.mem_singleton.1 hx,hF];simp))).of N1) (h22.notD h3);have N:UpT [b] h h':=N1.then N2 fun x hx=> .inl hx;have UF:UpT F h h':=N.mono (fun x hx=>by rw [List.mem_singleton.1 hx,hF];simp) fun x hx _=>hnd x hx;have gG:=fun k=>Asj (L:=Gs) hG1 hG2 k;have gR:=fun k=>Asj (L:=rs) hr1 hr2 k;have gM:=fun k=>Asj (L:=M) hM1 hM2 k
  have hsub:∀ x∈b :: ((Gs.set m1 G2).set m2 G1).flatten,x∈F:=by
    intro z hz;rw [hF]
    rcases List.mem_cons.1 hz with rfl | hz
    · simp
    · obtain ⟨G,hG,hzG⟩:=List.mem_flatten.1 hz;obtain ⟨k,hk⟩:=List.getElem?_of_mem hG;rw [gG] at hk;exact List.mem_cons_of_mem _ (AWz hk hzG)
  refine H _ _ (b :: ((Gs.set m1 G2).set m2 G1).flatten) ((Gs.set m1 G2).set m2 G1) ((rs.set m1 r2).set m2 r1) h' (.inr ⟨b,rfl,?_,?_,h3,by simp [sI,h4],by simp [sI,h5],fun k G r L hG hr hL=>?_⟩) UF fun x hx=> .inl (hsub x hx)
  · refine List.nodup_cons.2 ⟨fun hz=>?_,Aw9 (fun k G hk=>?_) fun k l G G' hkl hk hl x hx hx'=>?_⟩
    · obtain ⟨G,hG,hzG⟩:=List.mem_flatten.1 hz;obtain ⟨k,hk⟩:=List.getElem?_of_mem hG;rw [gG] at hk;exact hnf.1 (AWz hk hzG)
    · rw [gG] at hk;have hkl:=(List.getElem?_eq_some_iff.1 hk).1;exact (h6 _ G (rs[swp m1 m2 k]'AGi) (M[swp m1 m2 k]'AGi) hk (List.getElem?_eq_getElem _) (List.getElem?_eq_getElem _)).nodup
    · rw [gG] at hk hl;exact Aw3 hnf.2 hk hl (fun he=>hkl (A8i he)) x hx hx'
  · have:(((rs.set m1 r2).set m2 r1).map fun r=>[r])=((rs.map fun r=>[r]).set m1 [r2]).set m2 [r1]:=by rw [List.map_set,List.map_set]
    rw [this];exact h22
  · simp only [sI,Int.toNat_natCast] at hL;rw [gG] at hG;rw [gR] at hr;rw [gM] at hL
    exact (h6 _ G r L hG hr hL).upT N fun x hx hxb=>by
      rw [List.mem_singleton.1 hxb] at hx;exact hnf.1 (AWz hG hx)
end
theorem Akj {a:Nat} {A B:List Nat} (h1:a ∉ A) (h2:a ∉ B):a ∉ A ++ B:=fun h=>by
  rcases List.mem_append.1 h with h | h
  · exact h1 h
  · exact h2 h
theorem Akk {a:Nat}:a ∉ ([]:List Nat):=by simp
theorem AVt.gmem {α:Type} {c:Cod α} {er el:Nat} {h:AGt} {F:List Nat} {Gs:List (List Nat)} {rs:List Value} {v:Value} {M:List (List α)} (H:AVt c er el h F Gs rs v M) {i g:Nat} (hG:Gs[i]? =some [g]):g∈F:=by
 rcases H with ⟨rfl,_,_,rfl,_⟩ | ⟨b,rfl,_⟩
 ·simp at hG
 ·exact List.mem_cons_of_mem _ (AWz hG ATv)
theorem SlC.shape {α:Type} {c:Cod α} {h:AGt} {v:Value} {L:List α} (H:SlC c h v L):∃ a n cap,v= .slice a n cap:=by
 obtain ⟨Ls,⟨a,cap,rfl,_⟩,_⟩:=H;exact ⟨_,_,_,rfl⟩
theorem AXs.shape {α:Type} {c:Cod α} {h:AGt} {v:Value} {L:List (List α)} (H:AXs c h v L):∃ a n cap,v= .slice a n cap:=by
 obtain ⟨_,Ls,⟨a,cap,rfl,_⟩,_⟩:=H;exact ⟨_,_,_,rfl⟩
def AW5:Nat:=4294967296 ^ 99
end Go.QF
namespace Go.Proofs.YthbndcbclhkepaaGreatDoor
open Go Go.QF
section
variable {P:Program} {Q:Exit->Env->AGt->Prop} {K:Env->AGt->Prop} {e:Env} {h:AGt} {B:AGt->Prop} {st:Bool} {ops:Array Oper} {rest:List Oper} {d:Nat} {ty:TypeId} {pos:String} {af:Array Edge}
theorem cwf {f:FuncId} {fn:Func} {c:Code} {rs:List ResultVar} {l:List Value} {K:Value->AGt->Prop} (hf:Tryz.prog.funcs[f]? =some fn) (hb:fn.body=some c) (hr:fn.results=rs.toArray) (H:W Tryz.prog c (BAx Tryz.prog rs K) (Awo l) h) (hn:(fn.name == "runtime.NumGoroutine")=false:=by rfl) (hl:Nat.ble l.length fn.ntmps=true:=by rfl) (hok:okC fn.ntmps c=true:=by kernel_rfl):ATs Tryz.prog f l.toArray h K:=AT5 mx hf hn hb hr rfl hl hok H
theorem AVu {x:Operand} {t f off ft b o:Nat} (hf:FdT P t f off ft) (hx:e.ev x= .pointer (some ⟨b,o,none⟩)) (H:RL P B st ops rest (e.set d (.pointer (some ⟨b,o + off,none⟩))) h K) (hs:(P.info? ft).map (·.size)=some 1:=by kernel_rfl):RL P B st ops (⟨some d,.fieldAddr t x f,ty,pos,af,none⟩ :: rest) e h K:=AX1 hf hs AGk hx H
theorem ATl {x y:Operand} {t t2:TypeId} {k:IntKind} {a b:Int} (hx:e.ev x= .int k a) (hy:e.ev y= .int k b) (H:RL P B st ops rest (e.set d (.bool (decide (a < b)))) h K):RL P B st ops (⟨some d,.binOp .lss t x y t2,ty,pos,af,none⟩ :: rest) e h K:=Arw hx hy (A8c _ _) H
theorem Ap8 {x y:Operand} {t t2:TypeId} {k:IntKind} {a b:Int} (hx:e.ev x= .int k a) (hy:e.ev y= .int k b) (H:RL P B st ops rest (e.set d (.bool (decide (a<=b)))) h K):RL P B st ops (⟨some d,.binOp .leq t x y t2,ty,pos,af,none⟩ :: rest) e h K:=Arw hx hy (A8d _ _) H
theorem AYb {x y:Operand} {t t2:TypeId} {k:IntKind} {a b:Int} (hx:e.ev x= .int k a) (hy:e.ev y= .int k b) (H:RL P B st ops rest (e.set d (.bool (decide (b < a)))) h K):RL P B st ops (⟨some d,.binOp .gtr t x y t2,ty,pos,af,none⟩ :: rest) e h K:=Arw hx hy (A8e _ _) H
theorem Agp {x y:Operand} {t t2:TypeId} {k:IntKind} {a b:Int} (hx:e.ev x= .int k a) (hy:e.ev y= .int k b) (H:RL P B st ops rest (e.set d (.bool (decide (b<=a)))) h K):RL P B st ops (⟨some d,.binOp .geq t x y t2,ty,pos,af,none⟩ :: rest) e h K:=Arw hx hy (A8f _ _) H
theorem AUy {x y:Operand} {t t2:TypeId} {k:IntKind} {a b:Int} (hx:e.ev x= .int k a) (hy:e.ev y= .int k b) (H:RL P B st ops rest (e.set d (.bool (decide (a=b)))) h K):RL P B st ops (⟨some d,.binOp .eql t x y t2,ty,pos,af,none⟩ :: rest) e h K:=Arw hx hy (A8g _ _) H
theorem AWp {x y:Operand} {t t2:TypeId} {k:IntKind} {a b:Int} (hx:e.ev x= .int k a) (hy:e.ev y= .int k b) (H:RL P B st ops rest (e.set d (.bool (decide (¬ a=b)))) h K):RL P B st ops (⟨some d,.binOp .neq t x y t2,ty,pos,af,none⟩ :: rest) e h K:=Arw hx hy (A8h _ _) H
theorem Afh {f:FuncId} {xs:List Operand} {ts:Array TypeId} {l:List Value} {K':Value->AGt->Prop} (hxs:xs.map e.ev=l) (HC:ATs P f l.toArray h fun x h'=>Ext h h'/\K' x h')
    (H:∀ v h',Ext h h'->K' v h'->RL P (fun _=>True) st ops rest (e.set d v) h' K):RL P (fun _=>True) st ops (⟨some d,.call ⟨.value (.func f),xs.toArray,ts⟩,ty,pos,af,none⟩ :: rest) e h K:=AXm trivial (fun _ _=>trivial) hxs HC H
end
end Go.Proofs.YthbndcbclhkepaaGreatDoor
namespace Go.QF
open Go
def AZk (op:BinOp) (k:IntKind) (a b:Int):Int:=match op with
  | .and=>k.wrap ((BitVec.ofInt k.bits a &&& BitVec.ofInt k.bits b).toNat:Int)
  | .or=>k.wrap ((BitVec.ofInt k.bits a ||| BitVec.ofInt k.bits b).toNat:Int)
  | .xor=>k.wrap ((BitVec.ofInt k.bits a ^^^ BitVec.ofInt k.bits b).toNat:Int)
  | .andNot=>k.wrap ((BitVec.ofInt k.bits a &&& ~~~BitVec.ofInt k.bits b).toNat:Int)
  | _=>0
theorem A5b {P:Program} (op:BinOp) (k:IntKind) (a b:Int) (hop:op= .and∨op= .or∨op= .xor∨op= .andNot) (w:World):(Op.intBits op k a b).run P w= .ok (.int k (AZk op k a b)) w:=by
 rcases hop with rfl | rfl | rfl | rfl <;> rfl
section
variable {P:Program} {B:AGt->Prop} {st:Bool} {ops:Array Oper} {rest:List Oper} {e:Env} {h:AGt} {K:Env->AGt->Prop}
variable {d d':Nat} {ty ty':TypeId} {pos pos':String} {af af':Array Edge}
theorem AY5 {x y:Operand} {t t2:TypeId} {k k':IntKind} {a n:Int} (hx:e.ev x= .int k a) (hy:e.ev y= .int k' n) (hn:0<=n/\n<=k.bits) (H:RL P B st ops rest (e.set d (.int k (k.wrap (a * 2 ^ n.toNat)))) h K):
    RL P B st ops (⟨some d,.binOp .shl t x y t2,ty,pos,af,none⟩ :: rest) e h K:=by
 obtain ⟨m,rfl⟩:∃ m:Nat,n=m:=⟨n.toNat,AGi⟩;rw [Int.toNat_natCast] at H;exact At2 hx hy AGi H
theorem Aol {x y:Operand} {t t2:TypeId} {k k':IntKind} {a n:Int} (hx:e.ev x= .int k a) (hy:e.ev y= .int k' n) (hn:0<=n/\n<=k.bits) (H:RL P B st ops rest (e.set d (.int k (a / 2 ^ n.toNat))) h K):
    RL P B st ops (⟨some d,.binOp .shr t x y t2,ty,pos,af,none⟩ :: rest) e h K:=by
 obtain ⟨m,rfl⟩:∃ m:Nat,n=m:=⟨n.toNat,AGi⟩;rw [Int.toNat_natCast] at H;exact Aqt hx hy AGi H
theorem Aa9 {op:BinOp} {x y:Operand} {t t2:TypeId} {k:IntKind} {a b:Int} (hx:e.ev x= .int k a) (hy:e.ev y= .int k b) (hop:op= .and∨op= .or∨op= .xor∨op= .andNot) (H:RL P B st ops rest (e.set d (.int k (AZk op k a b))) h K):
    RL P B st ops (⟨some d,.binOp op t x y t2,ty,pos,af,none⟩ :: rest) e h K:=Amz hx hy hop (A5b op k a b hop) H
theorem Asl {α:Type} {c:Cod α} {x y:Operand} {t el:Nat} {g j:Nat} {F:List Nat} {v u:Value} {L:List α} {n:Int} {a a':α} (ht:NaT P t) (hx:e.ev x= .pointer (some ⟨g,n.toNat * c.k + j,none⟩)) (hy:e.ev y=u) (h1:isOne u=true) (hj:j < c.k) (HO:OwC c el h F v L) (hF:F=[g]) (ha:gI L n=some a) (hrep:∀ cs,c.rep h a cs->c.rep h a' (cs.set j u))
    (H:∀ h',OwC c el h' F v (sI L n a')->UpT F h h'->RL P B st ops rest e h' K):RL P B st ops (⟨none,.store t x y,ty,pos,af,none⟩ :: rest) e h K:=by
  have hnd:=HO.notD;obtain ⟨m,rfl,ham⟩:=AZu ha;rw [Int.toNat_natCast] at hx
  rcases HO with ⟨rfl,_⟩ | ⟨g',Ls,hF',h2,h3,h4⟩
  · simp at ham
  rw [hF] at hF';injection hF' with hg;subst hg;obtain ⟨cs,hcs,hr⟩:=h3.get ham;have hm:=(List.getElem?_eq_some_iff.1 hcs).1;obtain ⟨x0,hx0⟩:∃ x0,cs[j]? =some x0:=⟨cs[j]'(by rw [c.klen hr];exact hj),List.getElem?_eq_getElem _⟩;refine A7x ht hx hy h1 (h2.cell hcs hx0) (h2.free _) ?_;have h2':=h2.set u hcs hj;have U:UpT F h (An2 h ⟨g,m * c.k + j,none⟩ u):=Ah9 (Aho _ _ _) (by simp [hF]) (fun b hb _=>hnd b hb) (h2'.notD h4);refine H _ (.inr ⟨g,_,hF,h2',?_,h4⟩) U;rw [sI,Int.toNat_natCast];exact (h3.set m (hrep cs hr)).upT U
theorem A5c {α:Type} {c:Cod α} {s x:Operand} {t el bytes:Nat} {z xv:Value} {L:List α} (hT:SlT P t el c.k) (hz:ZeT P el z bytes) (hzk:z.cells.size=c.k) (hel:Nat.beq el 170=false) (hb:B h) (hBE:∀ h',Ext h h'->B h') (hs:e.ev s= .slice none 0 0) (hx:e.ev x=xv) (HX:SlC c h xv L) (hby:bytes<=1000) (hl:L.length<=100000000)
    (H:∀ F v' h',OwC c el h' F v' L->Ext h h'->Sp h' h.size [F]->RL P B st ops rest (e.set d v') h' K):
    RL P B st ops (⟨some d,.call ⟨.builtin .append,#[s,x],#[t,t]⟩,ty,pos,af,none⟩ :: rest) e h K:=by
  obtain ⟨Ls,⟨xa,xc,rfl,hxc⟩,HA⟩:=HX;refine Agf rfl rfl hb fun w hw=>?_;subst hw;obtain ⟨hu,i0,hi0,hs0⟩:=hT;obtain ⟨i,hi,hzz,hsz,hbyy⟩:=hz;rw [hi] at hi0;injection hi0 with hi0;subst hi0
  by_cases hL:Ls=[]
  · subst hL;have hLn:L=[]:=by have:=HA.1;exact List.eq_nil_of_length_eq_zero this.symm
    subst hLn
    have hrun:(execOp e.ev ⟨some d,.call ⟨.builtin .append,#[s,x],#[t,t]⟩,ty,pos,af,none⟩).run P w= .ok (.value (.slice none 0 0)) w:=by
      have hc:(Builtin.firstCells i.size 0 (.slice xa 0 xc)).run P w= .ok #[] w:=by
        cases xa with
        | none=>exact run_firstCells_none (P:=P) w _ 0 0 xc
        | some a=>exact run_firstCells_some (P:=P) w i.size 0 a 0 xc [] ATv (fun j v hj=>by simp at hj)
      simp only [List.length_nil] at hx;simp [execOp,resolve,invoke,builtin,hs,hx,Builtin.append_,Adk hu,Ag7 hi,Builtin.lenOf,hc]
    rw [hrun];exact ⟨⟨rfl,rfl,rfl⟩,hb,H [] _ _ (A0o c el _) (Ext.refl _) ⟨ATv,fun b hb=>by simp at hb⟩⟩
  · have hlen:0 < Ls.length:=List.length_pos_iff.2 hL
    have hk:∀ r∈Ls,r.length=c.k:=fun r hr=>by
      obtain ⟨q,hq⟩:=List.getElem?_of_mem hr;have hql:=(List.getElem?_eq_some_iff.1 hq).1;exact c.klen (HA.2 q r (L[q]'(by rw [<- HA.1];exact hql)) hq (List.getElem?_eq_getElem _))
    obtain ⟨r0,hr0⟩:∃ r0,Ls[0]? =some r0:=⟨Ls[0],List.getElem?_eq_getElem _⟩;obtain ⟨b,o,rfl,_⟩:=hxc 0 r0 hr0
    have hnews:∀ q u,Ls.flatten[q]? =some u->w.cell? ((⟨b,o,none⟩:Addr).add q)=some u:=fun q u hq=>by
      have hqk:q / c.k < Ls.length:=by
        have hq':=(List.getElem?_eq_some_iff.1 hq).1;rw [AZ5 hk] at hq';exact Nat.div_lt_of_lt_mul (by rw [Nat.mul_comm];exact hq')
      obtain ⟨row,hrow⟩:∃ row,Ls[q / c.k]? =some row:=⟨Ls[q / c.k],List.getElem?_eq_getElem hqk⟩;have hrl:=hk row (List.mem_of_getElem? hrow);have hmod:=Nat.mod_lt q c.pos;have hg:=Amy hk hrow (j:=q % c.k) (x:=row[q % c.k]'AGi) (List.getElem?_eq_getElem _);have e1:q / c.k * c.k + q % c.k=q:=by rw [Nat.mul_comm];exact Nat.div_add_mod q c.k
      rw [e1,hq] at hg;injection hg with hg;obtain ⟨b',o',hbo,hcell⟩:=hxc (q / c.k) row hrow;injection hbo with hbo;injection hbo with hb1 hb2;subst hb1;subst hb2;have:=hcell (q % c.k) u (by rw [hg];exact List.getElem?_eq_getElem _);rw [AXq,Aoz];rw [Nat.add_assoc,e1] at this;exact this
    have hmul:Ls.length * bytes<=100000000 * 1000:=Nat.mul_le_mul (by rw [HA.1];exact hl) hby;have hr:=run_append_nil (P:=P) w t ty el i z hu hi hzz ⟨b,o,none⟩ Ls.length xc Ls.flatten (by rw [AZ5 hk,hs0]) hnews hlen (by rw [HA.1];omega) (by rw [hbyy];omega)
    have hrun:(execOp e.ev ⟨some d,.call ⟨.builtin .append,#[s,x],#[t,t]⟩,ty,pos,af,none⟩).run P w= .ok (.value (.slice (some ⟨w.heap.size,0,none⟩) Ls.length (grownCap w Ls.length 0 el))) (w.drew.alloc (.cells (Ls.flatten.toArray ++ Builtin.zeroCells z.cells (grownCap w Ls.length 0 el - Ls.length)) el)):=by
      simp [execOp,resolve,invoke,builtin,hs,hx,hr]
    rw [hrun];have hge:=grownCap_ge w Ls.length 0 el;have hcm':grownCap w Ls.length 0 el<=maxLen:=grownCap_le_maxLen w _ _ el (by unfold maxLen;rw [HA.1];omega);have E:Ext w.heap (w.drew.alloc (.cells (Ls.flatten.toArray ++ Builtin.zeroCells z.cells (grownCap w Ls.length 0 el - Ls.length)) el)).heap:=⟨ATv,fun k hk=>heap_alloc_old w.drew _ k hk⟩
    refine ⟨⟨rfl,rfl,rfl⟩,hBE _ E,H [w.heap.size] _ _ (.inr ⟨w.heap.size,Ls,rfl,⟨_,_,rfl,heap_alloc_new w.drew _,hge,hcm',?_,hk,?_⟩,HA.upT E.upT,hel⟩) E (AX2 (Nat.le_refl _) ATv)⟩
    · rw [Array.size_append,size_zeroCells,hzk,List.size_toArray,AZ5 hk,Nat.sub_mul];have:=Nat.mul_le_mul_right c.k hge;omega
    · simp only [Array.toList_append];rw [<- AZ5 hk];exact List.take_left
end
end Go.QF
namespace Go.QF
open Go
theorem Asm {P:Program} {e:Env} {h:AGt} {t u q:Tmp} {ty s tb b:Nat} {l:List Value} (ht:AgT P ty s) (hl:l.length=s) (he:e t= .pointer (some ⟨b,0,none⟩)) (HB:AVv tb h b l):Auz P [.tmp u,.cell t ty,.tmp q] e h (.tuple #[e u,.agg l.toArray,e q]):=
  fun fn tmps w hr hg hw=>by
    have h1:tmps[t]?.getD undef= .pointer (some ⟨b,0,none⟩):=by rw [<- Array.getD_eq_getD_getElem?,hg];exact he
    have h2:=Agi ht hl w (a:=⟨b,0,none⟩) (by rw [hw];exact HB.agg)
    rw [<- hg u,<- hg q]
    simp only [results,hr]
    simp [h1,asAddr,h2]
theorem Axa {v:Value} (h:isOne v=true):v.cells=[v].toArray:=by cases v <;> first | rfl | cases h
section
variable {P:Program} {B:AGt->Prop} {st:Bool} {ops:Array Oper} {rest:List Oper} {e:Env} {h:AGt} {K:Env->AGt->Prop} {d:Nat} {ty:TypeId} {pos:String} {af:Array Edge}
theorem BBe {t el bytes:Nat} {z:Value} {y:Operand} {a:Int} {cs:List Value} (hT:SlT P t el 2) (hz:ZeT P el z bytes) (hel:Nat.beq el 170=false) (hb:B h) (hBE:∀ h',Ext h h'->B h') (hr:cZ.rep h a cs) (hy:e.ev y= .agg cs.toArray) (H:∀ b v h',OwC cZ el h' [b] v [a]->Ext h h'->h.size<=b->b < h'.size->RL P B st ops rest (e.set d v) h' K):RL P B st ops (⟨some d,.buildSlice t 1 #[(0,y)],ty,pos,af,none⟩ :: rest) e h K:=by
 have hl:=cZ.klen hr;have E:Ext h (h.push (.cells cs.toArray el (0,0))):=AV0 _ _;refine BDc cs hT hz hb hy hl AGk AGk ⟨hBE _ E,H h.size _ _ (.inr ⟨h.size,[cs],rfl,⟨1,cs.toArray,rfl,ATv,ATv,AGk,by simp [hl],fun r hr=>by rw [List.mem_singleton.1 hr];exact hl,?_⟩,⟨rfl,fun i cs' a' h1 h2=>?_⟩,hel⟩) E (Nat.le_refl _) ATv⟩
 ·have h2:cs.length=cZ.k:=hl;simp [<- h2]
 ·cases i with
  | zero=>simp at h1 h2;subst h1;subst h2;exact cZ.upT hr E.upT
  | succ i=>simp at h1
theorem Ap9 {κ:IntKind} {t el bytes n:Nat} {z:Value} {parts:List (Nat × Operand)} (L:List Int) (hT:SlT P t el 1) (hz:ZeT P el z bytes) (h1:isOne z=true) (hel:Nat.beq el 170=false) (hb:B h) (hBE:∀ h',Ext h h'->B h') (hn:L.length=n) (Ab:Nat.ble n 16777216=true) (hpos:Nat.ble 1 n=true) (hp:(parts.map fun (i,x)=>(i,e.ev x))=partsOf 0 (L.map (.int κ))) (H:∀ b v h',OwC (cI κ) el h' [b] v L->Ext h h'->h.size<=b->b < h'.size->RL P B st ops rest (e.set d v) h' K):RL P B st ops (⟨some d,.buildSlice t n parts.toArray,ty,pos,af,none⟩ :: rest) e h K:=by
 have Ab:=Nat.le_of_ble_eq_true Ab;have E:Ext h (h.push (.cells (L.map (Value.int κ)).toArray el (0,0))):=AV0 _ _;refine A35 (L.map (.int κ)) hT hz h1 hb (by rw [List.length_map];exact hn) Ab (Nat.le_of_ble_eq_true hpos) hp (fun u hu=>?_) ⟨hBE _ E,H h.size _ _ (.inr ⟨h.size,L.map fun a=>[.int κ a],rfl,⟨n,(L.map (Value.int κ)).toArray,by rw [List.length_map,hn],ATv,by simp [hn],by unfold maxLen;omega,by show _=n * 1;simp [hn],fun r hr=>?_,?_⟩,⟨ATv,fun i cs a h1 h2=>?_⟩,hel⟩) E (Nat.le_refl _) ATv⟩
 ·obtain ⟨a,_,rfl⟩:=List.mem_map.1 hu;rfl
 ·obtain ⟨a,_,rfl⟩:=List.mem_map.1 hr;rfl
 ·have:(L.map fun a=>[Value.int κ a]).flatten=L.map (Value.int κ):=by
    clear H E hp hn Ab
    induction L with
    | nil=>rfl
    | cons a L ih=>simp [ih]
  rw [this,List.take_of_length_le (by show _<=_ * 1;simp)]
 ·rw [List.getElem?_map,h2] at h1;injection h1 with h1;exact h1.symm
theorem A5d {α:Type} {c:Cod α} {s x:Operand} {t er el:Nat} {F:List Nat} {Gs:List (List Nat)} {rs:List Value} {v r xv:Value} {M:List (List α)} {m:Int} {L L':List α} (hT:SlT P t el c.k) (hB:B h) (hs:e.ev s=r) (hx:e.ev x=xv) (HO:AVt c er el h F Gs rs v M) (hr:rs[m.toNat]? =some r) (hL:gI M m=some L) (HX:SlC c h xv L') (hn0:L'.length=L.length/\0 < L.length)
    (H:∀ h',AVt c er el h' F Gs rs v (sI M m L')->UpT F h h'->B h'/\RL P B st ops rest (e.set d (.int .i64 (.ofNat L.length))) h' K):RL P B st ops (⟨some d,.call ⟨.builtin .copy,#[s,x],#[t,t]⟩,ty,pos,af,none⟩ :: rest) e h K:=by
  obtain ⟨hlen,hpos⟩:=hn0;obtain ⟨i,rfl,hm0⟩:=AZu hL;clear hL;have hL:=hm0;rw [Int.toNat_natCast] at hr;have hnd:=HO.notD;obtain ⟨G,hG,HR,hGF⟩:=HO.row hr hL
  rcases HO with ⟨rfl,_⟩ | ⟨b',hF',hn,h2,h3,h4,h5,h6⟩
  · simp at hL
  rcases HR with ⟨rfl,_,_⟩ | ⟨g,Ls,rfl,hk2,hk3,hk4⟩
  · simp at hpos
  obtain ⟨Ls',⟨xa,xc,hxv,hxc⟩,HA⟩:=HX;have hLs':Ls'.length=L.length:=HA.1.trans hlen;have hLs:Ls.length=L.length:=hk3.1
  have hk:∀ q∈Ls',q.length=c.k:=fun q hq=>by
    obtain ⟨j,hj⟩:=List.getElem?_of_mem hq;have hjl:=(List.getElem?_eq_some_iff.1 hj).1;exact c.klen (HA.2 j q (L'[j]'(by rw [<- HA.1];exact hjl)) hj (List.getElem?_eq_getElem _))
  have hone:∀ u∈Ls'.flatten,u.oneCell'=true:=fun u hu=>by
    obtain ⟨q,hq,huq⟩:=List.mem_flatten.1 hu;obtain ⟨j,hj⟩:=List.getElem?_of_mem hq;have hjl:=(List.getElem?_eq_some_iff.1 hj).1;have:=c.one (HA.2 j q (L'[j]'(by rw [<- HA.1];exact hjl)) hj (List.getElem?_eq_getElem _)) u huq;cases u <;> first | rfl | cases this
  obtain ⟨r0,hr0⟩:∃ r0,Ls'[0]? =some r0:=⟨Ls'[0]'AGi,List.getElem?_eq_getElem _⟩;obtain ⟨b,o,rfl,_⟩:=hxc 0 r0 hr0;obtain ⟨hu,i0,hi0,hs0⟩:=hT;have hk2':=hk2;obtain ⟨cap,cur,hv,hg,hl,hm,hsz,hkk,ht⟩:=hk2;have hfl:Ls'.flatten.length=Ls'.length * c.k:=AZ5 hk;have hcu:Ls'.flatten.length<=cur.size:=by rw [hfl,hsz,hLs',<- hLs];exact Nat.mul_le_mul_right _ hl
  refine BBc (u:= .int .i64 (.ofNat L.length)) hB fun w hw=>?_;subst hw
  have hnews:∀ q u,Ls'.flatten[q]? =some u->w.cell? ((⟨b,o,none⟩:Addr).add q)=some u:=fun q u hq=>by
    have hqk:q / c.k < Ls'.length:=by
      have hq':=(List.getElem?_eq_some_iff.1 hq).1;rw [hfl] at hq';exact Nat.div_lt_of_lt_mul (by rw [Nat.mul_comm];exact hq')
    obtain ⟨row,hrow⟩:∃ row,Ls'[q / c.k]? =some row:=⟨Ls'[q / c.k],List.getElem?_eq_getElem hqk⟩;have hrl:=hk row (List.mem_of_getElem? hrow);have hmod:=Nat.mod_lt q c.pos;have hg:=Amy hk hrow (j:=q % c.k) (x:=row[q % c.k]'AGi) (List.getElem?_eq_getElem _);have e1:q / c.k * c.k + q % c.k=q:=by rw [Nat.mul_comm];exact Nat.div_add_mod q c.k
    rw [e1,hq] at hg;injection hg with hg;obtain ⟨b',o',hbo,hcell⟩:=hxc (q / c.k) row hrow;injection hbo with hbo;injection hbo with hb1 hb2;subst hb1;subst hb2;have:=hcell (q % c.k) u (by rw [hg];exact List.getElem?_eq_getElem _);rw [AXq,Aoz];rw [Nat.add_assoc,e1] at this;exact this
  obtain ⟨cs',q2,q3,q4,q5⟩:=Atp g Ls'.flatten 0 w cur el (0,0) hg AGi
  have hst:(storeCells ⟨g,0,none⟩ Ls'.flatten).run P w= .ok () (w.setCells g 0 Ls'.flatten):=by
    have:=run_storeCells_cells (P:=P) g 0 Ls'.flatten 0 w (fun j hj=>?_) (fun j hj=>?_) hone
    · simpa using this
    · have:j < cur.size:=by omega
      simp [World.cell?,hg,this]
    · simp [World.frozen?,hg]
  have hcs:cs'.size=cur.size:=by
    have:=congrArg List.length q3;rw [A49] at this;simpa using this
  have hown:Abp (w.setCells g 0 Ls'.flatten).heap el c.k g r Ls':=by
    refine ⟨cap,cs',by rw [hLs',<- hLs];exact hv,q2,AGi,hm,by rw [hcs,hsz],hk,?_⟩;rw [q3];apply List.ext_getElem?;intro q;rw [List.getElem?_take,Ai7]
    by_cases hq:q < Ls'.flatten.length
    · rw [if_pos (by rw [hfl] at hq;exact hq),if_pos ⟨Nat.zero_le _,AGi,by simpa using (show q < cur.size by omega)⟩,Nat.sub_zero]
    · rw [if_neg (by rw [hfl] at hq;exact hq),List.getElem?_eq_none AGi]
  have U:UpT F w.heap (w.setCells g 0 Ls'.flatten).heap:=Ah9 q4 (hGF g ATv) (fun b hb _=>hnd b hb) (hown.notD hk4)
  have hbg:b'≠g:=fun he=>by
    rw [hF'] at hn;exact (List.nodup_cons.1 hn).1 (he ▸ AWz hG ATv)
  have H':=H _ (.inr ⟨b',hF',hn,h2.upd q4 hbg,h3,by simp [sI,h4],by simp [sI,h5],fun i' G' r' L2 hGi hri hLi=>?_⟩) U
  · refine ⟨_,?_,q5,H'.1,H'.2⟩;have hfc:=run_firstCells_some (P:=P) w i0.size L.length ⟨b,o,none⟩ Ls'.length xc Ls'.flatten (by rw [hfl,hLs',hs0]) hnews;have hmin:Nat.min Ls'.length Ls.length=L.length:=by rw [hLs',hLs];exact Nat.min_self _
    have hmin2:min Ls'.length Ls.length=L.length:=hmin;have hmin3:min Ls.length Ls'.length=L.length:=by rw [hLs',hLs];exact Nat.min_self _
    rw [hs,hx,hv,hxv];simp [Builtin.copy_,Adk hu,Ag7 hi0,Builtin.lenOf,hmin,hmin2,hmin3,hfc,hst,goInt]
  · by_cases hii:i'=i
    · subst hii;rw [hG] at hGi;injection hGi with hGi;subst hGi;rw [hr] at hri;injection hri with hri;subst hri
      have:L2=L':=by
        simp only [sI,Int.toNat_natCast] at hLi;rw [List.getElem?_set_self (List.getElem?_eq_some_iff.1 hL).1] at hLi;exact (Option.some.inj hLi).symm
      subst this;exact .inr ⟨g,_,rfl,hown,Al.upT HA U,hk4⟩
    · have hLi':M[i']? =some L2:=by
        simp only [sI,Int.toNat_natCast] at hLi;rwa [List.getElem?_set_ne (fun he=>hii he.symm)] at hLi
      have U1:UpT [g] w.heap (w.setCells g 0 Ls'.flatten).heap:=Ah9 q4 ATv (fun b hb _=>hnd b (hGF b hb)) (hown.notD hk4)
      exact (h6 i' G' r' L2 hGi hri hLi').upT U1 fun x hx hxg=>by
        rw [List.mem_singleton.1 hxg] at hx;rw [hF'] at hn;exact hii (Am3 (List.nodup_cons.1 hn).2 hG hGi hx).symm
end
end Go.QF
namespace Go.Proofs.YthbndcbclhkepaaGreatDoor
open Go Go.QF
theorem Axb:ZeT Tryz.prog 131 (.slice none 0 0) 24:=Ah8 AGx
theorem Ab7:FdT Tryz.prog 109 0 0 22:=⟨_,_,Tryz.underlying109,rfl,rfl,rfl⟩
theorem AVq:FdT Tryz.prog 109 1 1 3:=⟨_,_,Tryz.underlying109,rfl,rfl,rfl⟩
end Go.Proofs.YthbndcbclhkepaaGreatDoor
namespace Go.Proofs.YthbndcbclhkepaaGreatDoor
open Go Go.QF
set_option maxRecDepth 100000
def A02 (fuel:Nat) (a b:Int):Option Int:=if a.natAbs < AW5/\b.natAbs < AW5 then some (a + b) else none
def BAf (fuel:Nat) (a b:Int):Option Int:=if a.natAbs < AW5/\b.natAbs < AW5 then some (a - b) else none
def Aj5 (fuel:Nat) (a b:Int):Option Int:=if a.natAbs * b.natAbs < AW5 then some (a * b) else none
def Axc (fuel:Nat) (a:Int):Option Int:=some (-a)
def Aj6 (fuel:Nat) (a:Int):Option Int:=some a
def Aek (fuel:Nat) (a:Int):Option Int:=if -9223372036854775808<=a/\a<=9223372036854775807 then some a else none
def Aqa (fuel:Nat) (a:Int):Option Int:=some (AYc a)
def Avg (fuel:Nat) (a:Int):Option (Int × Bool):=if a.natAbs < 9223372036854775808 then some (a,true) else none
theorem A5e {n:Nat} (h:n < AW5):n < 4294967296 ^ 100:=Nat.lt_trans h (Nat.pow_lt_pow_right AGk AGk)
theorem Azd {fuel:Nat} {h:AGt} {u v:Value} {a b r:Int} (H1:ZZ h u a) (H2:ZZ h v b) (hp:A02 fuel a b=some r):ATs Tryz.prog 139 #[u,v] h (fun x h'=>Ext h h'/\ ∃ (x0:Value),x=x0/\ZZ h' x0 r):=by
 obtain ⟨⟨h1,h2⟩,hp⟩:=ifN hp;cases hp;exact (Are H1 H2 h1 h2).mono fun x h' hk=>⟨hk.1,x,rfl,hk.2.zz⟩
theorem BBf {fuel:Nat} {h:AGt} {u v:Value} {a b r:Int} (H1:ZZ h u a) (H2:ZZ h v b) (hp:BAf fuel a b=some r):ATs Tryz.prog 100 #[u,v] h (fun x h'=>Ext h h'/\ ∃ (x0:Value),x=x0/\ZZ h' x0 r):=by
 obtain ⟨⟨h1,h2⟩,hp⟩:=ifN hp;cases hp;exact (A0y H1 H2 h1 h2).mono fun x h' hk=>⟨hk.1,x,rfl,hk.2.zz⟩
theorem Aia {fuel:Nat} {h:AGt} {u v:Value} {a b r:Int} (H1:ZZ h u a) (H2:ZZ h v b) (hp:Aj5 fuel a b=some r):ATs Tryz.prog 101 #[u,v] h (fun x h'=>Ext h h'/\ ∃ (x0:Value),x=x0/\ZZ h' x0 r):=by
 obtain ⟨h1,hp⟩:=ifN hp;cases hp;exact (A8b H1 H2 (A5e h1)).mono fun x h' hk=>⟨hk.1,x,rfl,hk.2.zz⟩
theorem Avh {fuel:Nat} {h:AGt} {u:Value} {a r:Int} (H1:ZZ h u a) (hp:Axc fuel a=some r):ATs Tryz.prog 102 #[u] h (fun x h'=>Ext h h'/\ ∃ (x0:Value),x=x0/\ZZ h' x0 r):=by
 cases hp;exact (A0w H1).mono fun x h' hk=>⟨hk.1,x,rfl,hk.2.zz⟩
theorem Alu {fuel:Nat} {h:AGt} {u:Value} {a r:Int} (H1:ZZ h u a) (hp:Aj6 fuel a=some r):ATs Tryz.prog 104 #[u] h (fun x h'=>Ext h h'/\ ∃ (x0:Value),x=x0/\ZZ h' x0 r):=by
 cases hp;exact (Ato H1).mono fun x h' hk=>⟨hk.1,x,rfl,hk.2.zz⟩
theorem Ac0 {fuel:Nat} {h:AGt} {a r:Int} (hp:Aek fuel a=some r):ATs Tryz.prog 88 #[.int .i64 a] h (fun x h'=>Ext h h'/\ ∃ (x0:Value),x=x0/\ZZ h' x0 r):=by
 obtain ⟨h1,hp⟩:=ifN hp;cases hp;exact (Ap6 h1 h).mono fun x h' hk=>⟨hk.1,x,rfl,hk.2.zz⟩
theorem Apb {fuel:Nat} {h:AGt} {u:Value} {a r:Int} (H1:ZZ h u a) (hp:Aqa fuel a=some r):ATs Tryz.prog 98 #[u] h (fun x h'=>Ext h h'/\x= .int .i64 r):=by
 cases hp;exact Am6 H1
theorem Axd {fuel:Nat} {h:AGt} {u:Value} {a:Int} {r:Int × Bool} (H1:ZZ h u a) (hp:Avg fuel a=some r):ATs Tryz.prog 48 #[u] h (fun x h'=>Ext h h'/\x= .tuple #[.int .i64 r.1,.bool r.2]):=by
 obtain ⟨h1,hp⟩:=ifN hp;cases hp;exact A2o H1 h1
end Go.Proofs.YthbndcbclhkepaaGreatDoor
namespace Go.QF
open Go
section
variable {P:Program} {ops:Array Oper} {B:AGt->Prop}
def Af2 (o:Oper):Bool:=match kindOf o.op with | .pure=>false | .read=>false | _=>true
theorem Aj7 {o:Oper} (hl:Af2 o=false):kindOf o.op= .pure∨kindOf o.op= .read:=by
 unfold Af2 at hl;cases h:kindOf o.op <;> simp only [h] at hl <;> first | exact .inl rfl | exact .inr rfl | cases hl
theorem Ai8 {o:Oper} {e:Env} {h:AGt} {K:Env->AGt->Prop} (hl:Af2 o=false) (H:GOp P B true ops o e h K):GOp P B true ops o e h fun e' h'=>h'=h/\K e' h':=by
 unfold GOp at H ⊢;split
 ·rename_i hw;rw [if_pos hw] at H;unfold SOp at H ⊢;rcases Aj7 hl with hk | hk
  ·simp only [hk] at H ⊢;obtain ⟨v,h1,h2⟩:=H;exact ⟨v,h1,trivial,h2⟩
  ·simp only [hk] at H ⊢;obtain ⟨v,h0,h1,h2⟩:=H;exact ⟨v,h0,h1,trivial,h2⟩
 ·rename_i hw;rw [if_neg hw] at H;exact ⟨rfl,H⟩
theorem Asn {o:Oper} {e:Env} {h1 h2:AGt} {K K':Env->AGt->Prop} (hl:Af2 o=false) (H:GOp P B true ops o e h1 K) (hB:B h1->B h2) (hK:∀ v,K (e.put o.dst v) h1->K' (e.put o.dst v) h2):GOp P B true ops o e h2 K':=by
 unfold GOp at H ⊢;split
 ·rename_i hw;rw [if_pos hw] at H;unfold SOp at H ⊢;rcases Aj7 hl with hk | hk
  ·simp only [hk] at H ⊢;obtain ⟨v,a1,a2⟩:=H;exact ⟨v,a1,hK v a2⟩
  ·simp only [hk] at H ⊢;obtain ⟨v,a0,a1,a2⟩:=H;exact ⟨v,hB a0,a1,hK v a2⟩
 ·rename_i hw;rw [if_neg hw] at H;exact hK undef H
theorem Aso {o:Oper} {e:Env} {h:AGt} {K:Env->AGt->Prop} (hl:Af2 o=false) (H:GOp P B true ops o e h K):∃ v,K (e.put o.dst v) h:=by
 unfold GOp at H;split at H
 ·unfold SOp at H;rcases Aj7 hl with hk | hk
  ·simp only [hk] at H;obtain ⟨v,a1,a2⟩:=H;exact ⟨v,a2⟩
  ·simp only [hk] at H;obtain ⟨v,a0,a1,a2⟩:=H;exact ⟨v,a2⟩
 ·exact ⟨undef,H⟩
abbrev Off (a c b:Nat):Prop:=b < a∨c<=b
def HI (P:Program) (B:AGt->Prop) (ops:Array Oper):List Nat->Env->AGt->(Nat->Prop)->(Env->AGt->(Nat->Prop)->Prop)->Prop
  | [],e,h,N,K=> ∀ h',Ext h h'->K e h' N
  | i :: l,e,h,N,K=>match ops[i]? with
    | none=>False
    | some o=>bif Af2 o then ∀ h1,Ext h h1->GOp P B true ops o e h1 fun e' h'=>Ext h1 h'/\HI P B ops l e' h' (fun b=>N b/\Off h1.size h'.size b) K
      else GOp P B true ops o e h fun e' h'=>HI P B ops l e' h' N K
def HRf (P:Program) (B:AGt->Prop) (ops:Array Oper):List Oper->Env->AGt->(Nat->Prop)->(Env->AGt->(Nat->Prop)->Prop)->Prop
  | [],e,h,N,K=> ∀ h',Ext h h'->K e h' N
  | o :: l,e,h,N,K=>bif Af2 o then ∀ h1,Ext h h1->GOp P B true ops o e h1 fun e' h'=>Ext h1 h'/\HRf P B ops l e' h' (fun b=>N b/\Off h1.size h'.size b) K
      else GOp P B true ops o e h fun e' h'=>HRf P B ops l e' h' N K
variable {K:Env->AGt->(Nat->Prop)->Prop}
theorem A5f:∀ (I:List Nat) (L:List Oper),I.map (fun i=>ops[i]?)=L.map some-> ∀ e h N,HRf P B ops L e h N K->HI P B ops I e h N K:=by
 intro I
 induction I with
 | nil=>intro L hI e h N H;cases L with | nil=>exact H | cons o L=>cases hI
 | cons i I ih=>
   intro L hI e h N H
   cases L with
   | nil=>cases hI
   | cons o L=>
     simp only [List.map_cons,List.cons.injEq] at hI
     simp only [HI,hI.1]
     simp only [HRf] at H
     cases he:Af2 o with
     | true=>simp only [he,cond_true] at H ⊢;exact fun h1 E=>(H h1 E).mono fun v h' hh=>⟨hh.1,ih L hI.2 _ _ _ hh.2⟩
     | false=>simp only [he,cond_false] at H ⊢;exact H.mono fun v h' hh=>ih L hI.2 _ _ _ hh
theorem HI.anti (hKN:∀ e h (N N':Nat->Prop),(∀ b,N' b->N b)->K e h N->K e h N'):∀ (l:List Nat) {e:Env} {h:AGt} {N N':Nat->Prop},(∀ b,N' b->N b)->HI P B ops l e h N K->HI P B ops l e h N' K:=by
 intro l
 induction l with
 | nil=>intro e h N N' hN H h' E;exact hKN _ _ _ _ hN (H h' E)
 | cons i l ih=>
   intro e h N N' hN H
   simp only [HI] at H ⊢
   cases hoi:ops[i]? with
   | none=>simp only [hoi] at H
   | some o=>
     simp only [hoi] at H ⊢
     cases he:Af2 o with
     | true=>simp only [he,cond_true] at H ⊢;exact fun h1 E=>(H h1 E).mono fun v h' hh=>⟨hh.1,ih (fun b hb=>⟨hN b hb.1,hb.2⟩) hh.2⟩
     | false=>simp only [he,cond_false] at H ⊢;exact H.mono fun v h' hh=>ih hN hh
theorem HI.ext (hBx:∀ h h',B h->Ext h h'->B h'):∀ (l:List Nat) {e:Env} {h h2:AGt} {N:Nat->Prop},Ext h h2->HI P B ops l e h N K->HI P B ops l e h2 N K:=by
 intro l
 induction l with
 | nil=>intro e h h2 N E H h' E';exact H h' (E.trans E')
 | cons i l ih=>
   intro e h h2 N E H
   simp only [HI] at H ⊢
   cases hoi:ops[i]? with
   | none=>simp only [hoi] at H
   | some o=>
     simp only [hoi] at H ⊢
     cases he:Af2 o with
     | true=>simp only [he,cond_true] at H ⊢;exact fun h1 E1=>H h1 (E.trans E1)
     | false=>simp only [he,cond_false] at H ⊢;exact Asn he H (fun hb=>hBx _ _ hb E) fun v hh=>ih E hh
theorem HI.swap (hBx:∀ h h',B h->Ext h h'->B h') {i j:Nat} {x y:Oper} (hi:ops[i]? =some x) (hj:ops[j]? =some y) (hx:Aa3 x=true) (hy:Aa3 y=true) (hin:indep true ops x y=true) {R:List Nat} {e:Env} {h:AGt} {N:Nat->Prop} (H:HI P B ops (i :: j :: R) e h N K):HI P B ops (j :: i :: R) e h N K:=by
 simp only [HI,hi,hj] at H ⊢
 cases hex:Af2 x with
 | false=>
   simp only [hex,cond_false] at H ⊢
   cases hey:Af2 y with
   | false=>
     simp only [hey,cond_false] at H ⊢
     exact GOp.swap hx hy hin H
   | true=>
     simp only [hey,cond_true] at H ⊢
     intro h2 E2
     have H1:GOp P B true ops x e h2 fun e' h'=>GOp P B true ops y e' h' fun e2 h3=>Ext h2 h3/\HI P B ops R e2 h3 (fun b=>N b/\Off h2.size h3.size b) K:=
       Asn hex H (fun hb=>hBx _ _ hb E2) fun v hh=>hh h2 E2
     refine (GOp.swap hx hy hin H1).mono fun v h3 hh=>?_
     obtain ⟨u,hu⟩:=Aso hex hh
     exact ⟨hu.1,(Ai8 hex hh).mono fun v h' hk=>by obtain ⟨rfl,hk⟩:=hk;exact hk.2⟩
 | true=>
   simp only [hex,cond_true] at H ⊢
   have hey:Af2 y=false:=by
     simp only [indep,Bool.and_eq_true] at hin
     unfold Af2 at hex ⊢
     cases h1:kindOf x.op <;> cases h2:kindOf y.op <;> simp_all
   simp only [hey,cond_false] at H ⊢
   have key:∀ h2,Ext h h2->GOp P B true ops y e h2 fun e1 h'=>GOp P B true ops x e1 h2 fun e2 h3=>Ext h2 h3/\HI P B ops R e2 h3 (fun b=>N b/\Off h2.size h3.size b) K:=by
     intro h2 E2
     have H1:GOp P B true ops x e h2 fun e' h'=>GOp P B true ops y e' h' fun e2 h3=>Ext h2 h3/\HI P B ops R e2 h3 (fun b=>N b/\Off h2.size h3.size b) K:=
       (H h2 E2).mono fun v h' hh=>(Ai8 hey hh.2).mono fun v2 h3 hk=>by obtain ⟨rfl,hk⟩:=hk;exact ⟨hh.1,hk⟩
     refine (Ai8 hey (GOp.swap hx hy hin H1)).mono fun v h' hh=>?_
     obtain ⟨rfl,hh⟩:=hh
     exact hh
   have k0:=key h (Ext.refl h)
   obtain ⟨v0,-⟩:=Aso hey k0
   have kk:GOp P B true ops y e h fun e1 h'=>h'=h/\ ∀ h2,Ext h h2->GOp P B true ops x e1 h2 fun e2 h3=>Ext h2 h3/\HI P B ops R e2 h3 (fun b=>N b/\Off h2.size h3.size b) K:=by
     by_cases hw:Region.wanted y (Acf ops e)=true
     · have k1:=k0
       unfold GOp at k1 ⊢
       rw [if_pos hw] at k1 ⊢
       unfold SOp at k1 ⊢
       rcases Aj7 hey with hk | hk
       · simp only [hk] at k1 ⊢
         obtain ⟨v,a1,a2⟩:=k1
         refine ⟨v,a1,trivial,fun h2 E2=>?_⟩
         have k2:=key h2 E2
         unfold GOp at k2
         rw [if_pos hw] at k2
         unfold SOp at k2
         simp only [hk] at k2
         obtain ⟨u,b1,b2⟩:=k2
         have e1:=a1 (Agb h)
         rw [b1 (Agb h)] at e1
         cases e1
         exact b2
       · simp only [hk] at k1 ⊢
         obtain ⟨v,a0,a1,a2⟩:=k1
         refine ⟨v,a0,a1,trivial,fun h2 E2=>?_⟩
         have k2:=key h2 E2
         unfold GOp at k2
         rw [if_pos hw] at k2
         unfold SOp at k2
         simp only [hk] at k2
         obtain ⟨u,b0,b1,b2⟩:=k2
         have e1:=a1 (Agb h) a0
         rw [b1 (Agb h) a0] at e1
         cases e1
         exact b2
     · unfold GOp
       rw [if_neg hw]
       refine ⟨rfl,fun h2 E2=>?_⟩
       have k2:=key h2 E2
       unfold GOp at k2
       rw [if_neg hw] at k2
       exact k2
   refine kk.mono fun v h' hh=>?_
   obtain ⟨rfl,hh⟩:=hh
   exact hh
theorem HI.bubble (hBx:∀ h h',B h->Ext h h'->B h') {i:Nat} {oi:Oper} (hi:ops[i]? =some oi) (hsi:Aa3 oi=true) (R1:List Nat):∀ {R2:List Nat} {e:Env} {h:AGt} {N:Nat->Prop},
    (∀ k∈R1,∃ ok,ops[k]? =some ok/\Aa3 ok=true/\indep true ops ok oi=true)->HI P B ops (R1 ++ i :: R2) e h N K->HI P B ops (i :: (R1 ++ R2)) e h N K:=by
 induction R1 with
 | nil=>intro R2 e h N _ H;exact H
 | cons k R1 ih=>
   intro R2 e h N hind H
   obtain ⟨ok,hok,hsk,hik⟩:=hind k (List.mem_cons_self ..)
   have H2:HI P B ops (k :: i :: (R1 ++ R2)) e h N K:=by
     simp only [List.cons_append] at H
     rw [HI] at H ⊢
     simp only [hok] at H ⊢
     cases he:Af2 ok with
     | true=>simp only [he,cond_true] at H ⊢;exact fun h1 E=>(H h1 E).mono fun v h' hh=>⟨hh.1,ih (fun k' hk'=>hind k' (List.mem_cons_of_mem _ hk')) hh.2⟩
     | false=>simp only [he,cond_false] at H ⊢;exact H.mono fun v h' hh=>ih (fun k' hk'=>hind k' (List.mem_cons_of_mem _ hk')) hh
   exact HI.swap hBx hok hi hsk hsi hik H2
theorem A5g:∀ (l:List Nat) {e:Env} {h:AGt} {N:Nat->Prop},HI P B ops l e h N K->LI P B true ops l e h fun e' h'=>Ext h h'/\ ∃ N':Nat->Prop,(∀ b,N b->b < h.size->N' b)/\K e' h' N':=by
  intro l;induction l with
  | nil=>intro e h N H;exact ⟨Ext.refl h,N,fun b hb _=>hb,H h (Ext.refl h)⟩
  | cons i l ih=>
    intro e h N H;simp only [HI] at H;simp only [LI];cases hoi:ops[i]? with
    | none=>simp only [hoi] at H
    | some o=>
      simp only [hoi] at H ⊢;cases he:Af2 o with
      | true=>
        simp only [he,cond_true] at H;refine (H h (Ext.refl h)).mono fun v h' hh=>?_;refine LI.mono (fun e2 h2 hk=>?_) (ih hh.2);obtain ⟨E2,N',hN,hk⟩:=hk;exact ⟨hh.1.trans E2,N',fun b hb hlt=>hN b ⟨hb,.inl hlt⟩ (Nat.lt_of_lt_of_le hlt hh.1.1),hk⟩
      | false=>
        simp only [he,cond_false] at H;refine (Ai8 he H).mono fun v h' hh=>?_;obtain ⟨rfl,hh⟩:=hh;exact ih hh
end
end Go.QF
namespace Go.QF
open Go
section
variable {P:Program} {ops:Array Oper} {B:AGt->Prop}
theorem At5 {st:Bool} {n:Nat} {Q:Exit->Act->World->Prop} (G:Nat->Prop) (hb:Apy n ops=true) (hdep:∀ (j:Nat) (oj:Oper),ops[j]? =some oj-> ∀ ed∈oj.after,Region.binds .any ed=true->ed.on < j) (hpair:∀ (i j:Nat) (oi oj:Oper),G i->G j->i < j->ops[i]? =some oi->ops[j]? =some oj->(∃ n,reach ops n i j=true)∨indep st ops oi oj=true):∀ (fuel:Nat) (R:List Nat) (listed:Array Bool) (e:Env) (a:Act) (w:World) (K:Env->AGt->Prop),
    (∀ j∈R,G j)->R.length=fuel->LsF ops R listed->Rep n e a->LI P B st ops R e w.heap K->(∀ e' a' w',Rep n e' a'->Same w w'->K e' w'.heap->Q .normal a' w')->
    wpAny P .any ops Q fuel listed a w:=by
 intro fuel
 induction fuel with
 | zero=>
   intro R listed e a w K hG hlen L r H hK
   obtain rfl:R=[]:=List.length_eq_zero_iff.1 hlen
   refine ⟨?_,hK _ _ _ r (.refl w) H⟩
   refine List.eq_nil_iff_forall_not_mem.2 fun j hj=>?_
   obtain ⟨hjl,oj,hoj,_⟩:=mem_ready.1 hj
   have:=(L.mem j).2 ⟨(Array.getElem?_eq_some_iff.1 hoj).1,hjl⟩
   cases this
 | succ fuel ih=>
   intro R listed e a w K hG hlen L r H hK
   constructor
   · intro hr
     exfalso
     cases R with
     | nil=>simp at hlen
     | cons j R=>
       obtain ⟨hjs,hjl⟩:=(L.mem j).1 (List.mem_cons_self ..)
       obtain ⟨oj,hoj⟩:∃ oj,ops[j]? =some oj:=⟨ops[j],Array.getElem?_eq_getElem hjs⟩
       have:j∈Region.ready .any ops listed:=mem_ready.2 ⟨hjl,oj,hoj,fun ed hed hbd=>by
         have hlt:=hdep j oj hoj ed hed hbd
         cases hl:listed.getD ed.on false with
         | true=>rfl
         | false=>
           exfalso
           have hs:ed.on < ops.size:=Nat.lt_trans hlt hjs
           have hm:ed.on∈j :: R:=(L.mem ed.on).2 ⟨hs,by
             have h':ed.on < listed.size:=by rw [L.size];exact hs
             simp [h'] at hl ⊢;exact hl⟩
           rcases List.mem_cons.1 hm with he | he
           · omega
           · have:=(List.pairwise_cons.1 L.pw).1 _ he
             omega⟩
       rw [hr] at this
       cases this
   · intro i hi
     obtain ⟨hil,oi,hoi,hall⟩:=mem_ready.1 hi
     have his:i < ops.size:=(Array.getElem?_eq_some_iff.1 hoi).1
     have hiR:i∈R:=(L.mem i).2 ⟨his,hil⟩
     obtain ⟨R1,R2,rfl⟩:=List.append_of_mem hiR
     obtain ⟨hdi,hsi⟩:=Aht hb hoi
     have hpw':=List.pairwise_append.1 L.pw
     have hbu:LI P B st ops (i :: (R1 ++ R2)) e w.heap K:=by
       refine LI.bubble hoi hsi R1 (fun k hk=>?_) H
       have hki:k < i:=hpw'.2.2 k hk i (List.mem_cons_self ..)
       have hks:k < ops.size:=Nat.lt_trans hki his
       obtain ⟨ok,hok'⟩:∃ ok,ops[k]? =some ok:=⟨ops[k],Array.getElem?_eq_getElem hks⟩
       refine ⟨ok,hok',(Aht hb hok').2,?_⟩
       rcases hpair k i ok oi (hG k (List.mem_append_left _ hk)) (hG i hiR) hki hok' hoi with ⟨nre,hre⟩ | h
       · exfalso
         have h1:listed.getD k false=true:=Agc (L:=fun j=>listed.getD j false=true) L.cl nre k i oi hoi hall hre
         rw [L.notListed (List.mem_append_left _ hk)] at h1
         cases h1
       · exact h
     simp only [LI,hoi] at hbu
     refine Adj hoi hdi r hbu fun e' a' w' r' hs hk=>?_
     exact ih (R1 ++ R2) _ e' a' w' K (fun j hj=>hG j (by rcases List.mem_append.1 hj with h | h;exact List.mem_append_left _ h;exact List.mem_append_right _ (List.mem_cons_of_mem _ h))) (by simp at hlen ⊢;omega) (L.step hoi hall) r' hk (fun e2 a2 w2 r2 s2 k2=>hK _ _ _ r2 (hs.trans s2) k2)
structure Alv where
  d:Nat
  t:Nat
  z:List Value
def An4 (b:Nat):Value:= .pointer (some ⟨b,0,none⟩)
def setO:List Alv->List (Option Nat)->Env->Env
  | a :: A,some b :: bs,e=>(setO A bs e).set a.d (An4 b)
  | _ :: A,none :: bs,e=>setO A bs e
  | _,_,e=>e
theorem A2u:∀ (A:List Alv) (e:Env),setO A (List.replicate A.length none) e=e:=by
 intro A e
 induction A with
 | nil=>rfl
 | cons a A ih=>exact ih
theorem A8j {A:List Alv}:∀ {bs:List (Option Nat)} {e:Env} {t:Nat},(∀ a∈A,a.d≠t)->setO A bs e t=e t:=by
 induction A with
 | nil=>intro bs e t _;cases bs <;> rfl
 | cons a A ih=>
   intro bs e t h
   cases bs with
   | nil=>rfl
   | cons b bs=>
     cases b with
     | none=>exact ih fun a ha=>h a (List.mem_cons_of_mem _ ha)
     | some b=>
       show (setO A bs e).set a.d (An4 b) t=e t
       rw [Env.set_other _ _ (fun he=>h a (List.mem_cons_self ..) he.symm)]
       exact ih fun a ha=>h a (List.mem_cons_of_mem _ ha)
theorem Axe {A:List Alv}:∀ {bs:List (Option Nat)} {e:Env} {d:Option Nat} {v:Value},(∀ a∈A,d≠some a.d)->(setO A bs e).put d v=setO A bs (e.put d v):=by
 induction A with
 | nil=>intro bs e d v _;cases bs <;> rfl
 | cons a A ih=>
   intro bs e d v h
   cases bs with
   | nil=>rfl
   | cons b bs=>
     have ih':=ih (bs:=bs) (e:=e) (v:=v) fun a ha=>h a (List.mem_cons_of_mem _ ha)
     cases b with
     | none=>exact ih'
     | some b=>
       show ((setO A bs e).set a.d (An4 b)).put d v=(setO A bs (e.put d v)).set a.d (An4 b)
       rw [<- ih']
       exact Env.put_comm (x:=some a.d) (y:=d) (setO A bs e) (An4 b) v (fun k hk=>by cases hk;exact h a (List.mem_cons_self ..))
theorem A5h {A:List Alv}:∀ {bs:List (Option Nat)} {e:Env} {q:Nat} {a:Alv} {b:Nat},(A.map Alv.d).Nodup->bs.length=A.length->A[q]? =some a->bs[q]? =some none->setO A (bs.set q (some b)) e=(setO A bs e).set a.d (An4 b):=by
 induction A with
 | nil=>intro bs e q a b _ _ h;cases h
 | cons c A ih=>
   intro bs e q a b hn hl ha hb
   cases bs with
   | nil=>cases hb
   | cons x bs=>
     cases q with
     | zero=>
       simp only [List.getElem?_cons_zero,Option.some.injEq] at ha hb
       subst ha;subst hb
       rfl
     | succ q=>
       simp only [List.getElem?_cons_succ] at ha hb
       simp only [List.map_cons,List.nodup_cons] at hn
       have ih':=ih (e:=e) (b:=b) hn.2 (by simpa using hl) ha hb
       cases x with
       | none=>exact ih'
       | some x=>
         show (setO A (bs.set q (some b)) e).set c.d (An4 x)=((setO A bs e).set c.d (An4 x)).set a.d (An4 b)
         rw [ih']
         have hne:a.d≠c.d:=fun he=>hn.1 (List.mem_map.2 ⟨a,List.mem_of_getElem? ha,he⟩)
         exact Env.put_comm (x:=some a.d) (y:=some c.d) (setO A bs e) (An4 b) (An4 x) (fun k hk he=>by cases hk;exact hne (Option.some.inj he).symm)
theorem A2v {o:Oper} (hs:Aa3 o=true) {A:List Alv} (hA:∀ a∈A,a.d ∉ o.looksAt ops):∀ {bs:List (Option Nat)} {e:Env},execOp (setO A bs e).ev o=execOp e.ev o/\Region.wanted o (Acf ops (setO A bs e))=Region.wanted o (Acf ops e):=by
 induction A with
 | nil=>intro bs e;cases bs <;> exact ⟨rfl,rfl⟩
 | cons a A ih=>
   intro bs e
   cases bs with
   | nil=>exact ⟨rfl,rfl⟩
   | cons b bs=>
     have ih':=ih (fun a ha=>hA a (List.mem_cons_of_mem _ ha)) (bs:=bs) (e:=e)
     cases b with
     | none=>exact ih'
     | some b=>exact ⟨(Amn (ops:=ops) o hs (setO A bs e) (some a.d) (An4 b) (fun k hk=>by cases hk;exact hA a (List.mem_cons_self ..))).trans ih'.1,(Amo (ops:=ops) o (setO A bs e) (some a.d) (An4 b) (fun k hk=>by cases hk;exact hA a (List.mem_cons_self ..))).trans ih'.2⟩
def BBg (ops:Array Oper) (A:List Alv) (o:Oper):Prop:=(∀ a∈A,a.d ∉ o.looksAt ops)/\ ∀ a∈A,o.dst≠some a.d
theorem GOp.setO {st:Bool} {o:Oper} {A:List Alv} {bs:List (Option Nat)} {e:Env} {h:AGt} {K:Env->AGt->Prop} (hs:Aa3 o=true) (hf:BBg ops A o) (H:GOp P B st ops o e h K):GOp P B st ops o (setO A bs e) h fun e2 h'=> ∃ e',e2=Go.QF.setO A bs e'/\K e' h':=by
 obtain ⟨h1,h2⟩:=A2v hs hf.1 (bs:=bs) (e:=e);unfold GOp at H ⊢;rw [h2];split
 ·rename_i hw;rw [if_pos hw] at H;exact SOp.congr h1 (fun v h' hk=>⟨_,Axe hf.2,hk⟩) H
 ·rename_i hw;rw [if_neg hw] at H;exact ⟨_,Axe hf.2,H⟩
theorem LI.setO {st:Bool} {A:List Alv} {bs:List (Option Nat)}:∀ {l:List Nat} {e:Env} {h:AGt} {K:Env->AGt->Prop},(∀ i∈l,∀ o,ops[i]? =some o->Aa3 o=true/\BBg ops A o)->LI P B st ops l e h K->LI P B st ops l (setO A bs e) h fun e2 h'=> ∃ e',e2=Go.QF.setO A bs e'/\K e' h':=by
 intro l
 induction l with
 | nil=>intro e h K _ H;exact ⟨e,rfl,H⟩
 | cons i l ih=>
   intro e h K hl H
   simp only [LI] at H ⊢
   cases hoi:ops[i]? with
   | none=>simp only [hoi] at H;exact ih (fun i hi=>hl i (List.mem_cons_of_mem _ hi)) H
   | some o=>
     simp only [hoi] at H
     obtain ⟨h1,h2⟩:=hl i (List.mem_cons_self ..) o hoi
     refine (GOp.setO h1 h2 H).mono fun v h' hk=>?_
     obtain ⟨e',he,hk⟩:=hk
     rw [he]
     exact ih (fun i hi=>hl i (List.mem_cons_of_mem _ hi)) hk
theorem A2w {st:Bool} {l1 l2:List Nat} {e:Env} {h:AGt} {K:Env->AGt->Prop} (H:LI P B st ops l1 e h fun e' h'=>LI P B st ops l2 e' h' K):LI P B st ops (l1 ++ l2) e h K:=by
 induction l1 generalizing e h with
 | nil=>exact H
 | cons i l ih=>
   simp only [LI,List.cons_append] at H ⊢
   cases hoi:ops[i]? with
   | none=>simp only [hoi] at H;exact ih H
   | some o=>simp only [hoi] at H;exact H.mono fun v h' hk=>ih hk
def KA (A:List Alv) (h0:AGt) (G:List Nat->Env->AGt->Prop) (e:Env) (h:AGt) (N:Nat->Prop):Prop:=
  ∀ bl:List Nat,bl.length=A.length->bl.Nodup->(∀ (q:Nat) (b:Nat) (a:Alv),bl[q]? =some b->A[q]? =some a->AVv a.t h b a.z/\h0.size<=b/\N b)->G bl e h
theorem KA.anti {A:List Alv} {h0:AGt} {G:List Nat->Env->AGt->Prop} (e:Env) (h:AGt) (N N':Nat->Prop) (hN:∀ b,N' b->N b) (H:KA A h0 G e h N):KA A h0 G e h N':=
  fun bl h1 h2 h3=>H bl h1 h2 fun q b a hb ha=>let ⟨x,y,z⟩:=h3 q b a hb ha;⟨x,y,hN b z⟩
structure A03 (ops:Array Oper) (m:Nat) (A:List Alv):Prop where
  le:m + A.length<=ops.size
  dep:∀ (j:Nat) (oj:Oper),ops[j]? =some oj-> ∀ ed∈oj.after,Region.binds .any ed=true->ed.on < j
  pair:∀ (i j:Nat) (oi oj:Oper),(i < m∨m + A.length<=i)->(j < m∨m + A.length<=j)->i < j->ops[i]? =some oi->ops[j]? =some oj->(∃ n,reach ops n i j=true)∨indep true ops oi oj=true
  tail:∀ (i j:Nat) (oj:Oper),m<=i->i < m + A.length->m + A.length<=j->ops[j]? =some oj-> ∃ n,reach ops n i j=true
  far:∀ (j:Nat) (oj:Oper),j < m->ops[j]? =some oj->BBg ops A oj
  nd:(A.map Alv.d).Nodup
  al:∀ (q:Nat) (a:Alv),A[q]? =some a-> ∃ o,ops[m + q]? =some o/\o.dst=some a.d
def A8k (P:Program) (B:AGt->Prop) (ops:Array Oper) (m:Nat) (A:List Alv):Prop:=
  ∀ (q:Nat) (a:Alv) (o:Oper),A[q]? =some a->ops[m + q]? =some o-> ∀ (e:Env) (h:AGt),B h->GOp P B true ops o e h fun e' h'=> ∃ b,e'=e.set a.d (An4 b)/\Ext h h'/\AVv a.t h' b a.z/\h.size<=b
theorem A5i {n m:Nat} {A:List Alv} {h0:AGt} {T:List Nat} {Q:Exit->Act->World->Prop} {Kq:Env->AGt->Prop} (S:A03 ops m A) (hb:Apy n ops=true) (hBx:∀ h h',B h->Ext h h'->B h') (hal:A8k P B ops m A) (hT:∀ j∈T,m + A.length<=j):
    ∀ (fuel:Nat) (Rp Ra:List Nat) (bs:List (Option Nat)) (listed:Array Bool) (e:Env) (a:Act) (w:World) (N:Nat->Prop),
    (∀ j∈Rp,j < m)->(∀ j∈Ra,m<=j/\j < m + A.length/\bs[j - m]? =some none)->(∀ q:Nat,bs[q]? =some none->m + q∈Ra)->bs.length=A.length->(Rp ++ (Ra ++ T)).length=fuel->LsF ops (Rp ++ (Ra ++ T)) listed->Rep n (setO A bs e) a->Ext h0 w.heap->B w.heap->
    (∀ (q b:Nat) (x:Alv),bs[q]? =some (some b)->A[q]? =some x->AVv x.t w.heap b x.z/\h0.size<=b/\N b)->(∀ q q' b:Nat,bs[q]? =some (some b)->bs[q']? =some (some b)->q=q')->(∀ b:Nat,w.heap.size<=b->N b)->
    HI P B ops Rp e w.heap N (KA A h0 fun bl e' h'=>LI P B true ops T (setO A (bl.map some) e') h' Kq)->
    (∀ e' a' w',Rep n e' a'->Same w w'->Kq e' w'.heap->Q .normal a' w')->wpAny P .any ops Q fuel listed a w:=by
 intro fuel
 induction fuel with
 | zero=>
   intro Rp Ra bs listed e a w N hRp hRa hbsR hbl hlen L r hE hB hbox hdis hNn H hK
   have Ap:Rp ++ (Ra ++ T)=[]:=List.length_eq_zero_iff.1 hlen
   simp only [List.append_eq_nil_iff] at Ap
   obtain ⟨rfl,rfl,rfl⟩:=Ap
   refine At5 (B:=B) (st:=true) (fun j=>j < m∨m + A.length<=j) hb S.dep S.pair 0 [] listed _ a w Kq (fun j hj=>by cases hj) rfl L r ?_ hK
   obtain ⟨bl,rfl⟩:∃ bl:List Nat,bs=bl.map some:=by
     have:∀ bs:List (Option Nat),(∀ q:Nat,bs[q]? ≠some none)-> ∃ bl:List Nat,bs=bl.map some:=by
       intro bs
       induction bs with
       | nil=>intro _;exact ⟨[],rfl⟩
       | cons b bs ih=>
         intro h
         obtain ⟨bl,rfl⟩:=ih fun q=>by have:=h (q + 1);simpa using this
         cases b with
         | none=>exact absurd rfl (h 0)
         | some b=>exact ⟨b :: bl,rfl⟩
     exact this bs fun q hq=>by have:=hbsR q hq;cases this
   refine H w.heap (Ext.refl _) bl (by simpa using hbl) ?_ fun q b x hq hx=>hbox q b x (by simp [hq]) hx
   refine List.pairwise_iff_getElem.2 fun i j hi hj hij he=>?_
   have h1:bl[i]? =some bl[i]:=List.getElem?_eq_getElem hi
   have h2:bl[j]? =some bl[i]:=by rw [he];exact List.getElem?_eq_getElem hj
   have:=hdis i j bl[i] (by simp [h1]) (by simp [h2])
   omega
 | succ fuel ih=>
   intro Rp Ra bs listed e a w N hRp hRa hbsR hbl hlen L r hE hB hbox hdis hNn H hK
   by_cases Aq:Ra=[]
   · subst Aq
     obtain ⟨bl,rfl⟩:∃ bl:List Nat,bs=bl.map some:=by
       have:∀ bs:List (Option Nat),(∀ q:Nat,bs[q]? ≠some none)-> ∃ bl:List Nat,bs=bl.map some:=by
         intro bs
         induction bs with
         | nil=>intro _;exact ⟨[],rfl⟩
         | cons b bs ih=>
           intro h
           obtain ⟨bl,rfl⟩:=ih fun q=>by have:=h (q + 1);simpa using this
           cases b with
           | none=>exact absurd rfl (h 0)
           | some b=>exact ⟨b :: bl,rfl⟩
       exact this bs fun q hq=>by have:=hbsR q hq;cases this
     have hnod:bl.Nodup:=by
       refine List.pairwise_iff_getElem.2 fun i j hi hj hij he=>?_
       have h1:bl[i]? =some bl[i]:=List.getElem?_eq_getElem hi
       have h2:bl[j]? =some bl[i]:=by rw [he];exact List.getElem?_eq_getElem hj
       have:=hdis i j bl[i] (by simp [h1]) (by simp [h2])
       omega
     simp only [List.nil_append] at hlen L
     refine At5 (B:=B) (st:=true) (fun j=>j < m∨m + A.length<=j) hb S.dep S.pair (fuel + 1) (Rp ++ T) listed _ a w Kq (fun j hj=>?_) hlen L r ?_ hK
     · rcases List.mem_append.1 hj with h | h
       · exact .inl (hRp j h)
       · exact .inr (hT j h)
     · refine A2w ?_
       have h1:=LI.setO (A:=A) (bs:=bl.map some) (fun i hi o ho=>⟨(Aht hb ho).2,S.far i o (hRp i hi) ho⟩) (A5g Rp H)
       refine LI.mono (fun e2 h2 hk=>?_) h1
       obtain ⟨e',rfl,E2,N',hN',hk⟩:=hk
       refine hk bl (by simpa using hbl) hnod fun q b x hq hx=>?_
       obtain ⟨x1,x2,x3⟩:=hbox q b x (by simp [hq]) hx
       exact ⟨by unfold AVv;rw [E2.2 b x1.lt];exact x1,x2,hN' b x3 x1.lt⟩
   · refine ⟨fun hr=>?_,fun i hi=>?_⟩
     · exfalso
       cases hR:Rp ++ (Ra ++ T) with
       | nil=>rw [hR] at hlen;simp at hlen
       | cons j R=>
         rw [hR] at L
         obtain ⟨hjs,hjl⟩:=(L.mem j).1 (List.mem_cons_self ..)
         obtain ⟨oj,hoj⟩:∃ oj,ops[j]? =some oj:=⟨ops[j],Array.getElem?_eq_getElem hjs⟩
         have:j∈Region.ready .any ops listed:=mem_ready.2 ⟨hjl,oj,hoj,fun ed hed hbd=>by
           have hlt:=S.dep j oj hoj ed hed hbd
           cases hl:listed.getD ed.on false with
           | true=>rfl
           | false=>
             exfalso
             have hs:ed.on < ops.size:=Nat.lt_trans hlt hjs
             have hm:ed.on∈j :: R:=(L.mem ed.on).2 ⟨hs,by
               have h':ed.on < listed.size:=by rw [L.size];exact hs
               simp [h'] at hl ⊢;exact hl⟩
             rcases List.mem_cons.1 hm with he | he
             · omega
             · have:=(List.pairwise_cons.1 L.pw).1 _ he
               omega⟩
         rw [hr] at this
         cases this
     · obtain ⟨hil,oi,hoi,hall⟩:=mem_ready.1 hi
       have his:i < ops.size:=(Array.getElem?_eq_some_iff.1 hoi).1
       obtain ⟨hdi,hsi⟩:=Aht hb hoi
       have hnl:∀ (k nre:Nat),k∈Rp ++ (Ra ++ T)->reach ops nre k i=true->False:=fun k nre hk hre=>by
         have h1:listed.getD k false=true:=Agc (L:=fun j=>listed.getD j false=true) L.cl nre k i oi hoi hall hre
         rw [L.notListed hk] at h1
         cases h1
       rcases List.mem_append.1 ((L.mem i).2 ⟨his,hil⟩) with hip | hit
       ·
         obtain ⟨R1,R2,rfl⟩:=List.append_of_mem hip
         have hpw':=List.pairwise_append.1 (List.pairwise_append.1 L.pw).1
         have hbu:HI P B ops (i :: (R1 ++ R2)) e w.heap N (KA A h0 fun bl e' h'=>LI P B true ops T (setO A (bl.map some) e') h' Kq):=by
           refine HI.bubble hBx hoi hsi R1 (fun k hk=>?_) H
           have hki:k < i:=hpw'.2.2 k hk i (List.mem_cons_self ..)
           have hks:k < ops.size:=Nat.lt_trans hki his
           obtain ⟨ok,hok'⟩:∃ ok,ops[k]? =some ok:=⟨ops[k],Array.getElem?_eq_getElem hks⟩
           refine ⟨ok,hok',(Aht hb hok').2,?_⟩
           rcases S.pair k i ok oi (.inl (hRp k (List.mem_append_left _ hk))) (.inl (hRp i hip)) hki hok' hoi with ⟨nre,hre⟩ | h
           · exact (hnl k nre (List.mem_append_left _ (List.mem_append_left _ hk)) hre).elim
           · exact h
         have hg:GOp P B true ops oi e w.heap fun e' h'=>Ext w.heap h'/\HI P B ops (R1 ++ R2) e' h' (fun b=>N b/\Off w.heap.size h'.size b) (KA A h0 fun bl e' h'=>LI P B true ops T (setO A (bl.map some) e') h' Kq):=by
           simp only [HI,hoi] at hbu
           cases he:Af2 oi with
           | true=>simp only [he,cond_true] at hbu;exact hbu w.heap (Ext.refl _)
           | false=>
             simp only [he,cond_false] at hbu
             refine (Ai8 he hbu).mono fun v h' hk=>?_
             obtain ⟨rfl,hk⟩:=hk
             exact ⟨Ext.refl _,HI.anti KA.anti _ (fun b hb=>hb.1) hk⟩
         refine Adj hoi hdi r (GOp.setO (bs:=bs) hsi (S.far i oi (hRp i hip) hoi) hg) fun e' a' w' r' hs hk=>?_
         obtain ⟨e1,rfl,hE',hk⟩:=hk
         refine ih (R1 ++ R2) Ra bs _ e1 a' w' _ (fun j hj=>hRp j (by rcases List.mem_append.1 hj with h | h;exact List.mem_append_left _ h;exact List.mem_append_right _ (List.mem_cons_of_mem _ h))) hRa hbsR hbl (by simp at hlen ⊢;omega) ?_ r' (hE.trans hE') (hBx _ _ hB hE') (fun q b x hq hx=>?_) hdis (fun b hb=>⟨hNn b (Nat.le_trans hE'.1 hb),.inr hb⟩) hk (fun e2 a2 w2 r2 s2 k2=>hK _ _ _ r2 (hs.trans s2) k2)
         · have L2:LsF ops (R1 ++ i :: (R2 ++ (Ra ++ T))) listed:=by simpa using L
           have:=L2.step hoi hall
           simpa using this
         · obtain ⟨x1,x2,x3⟩:=hbox q b x hq hx
           exact ⟨by unfold AVv;rw [hE'.2 b x1.lt];exact x1,x2,x3,.inl x1.lt⟩
       · rcases List.mem_append.1 hit with hia | hiT
         ·
           obtain ⟨A1,A2,rfl⟩:=List.append_of_mem hia
           obtain ⟨Au,Av,hbq⟩:=hRa i hia
           obtain ⟨x,hx⟩:∃ x,A[i - m]? =some x:=⟨A[i - m]'AGi,List.getElem?_eq_getElem AGi⟩
           have hoi':ops[m + (i - m)]? =some oi:=by rw [show m + (i - m)=i by omega];exact hoi
           have hg:=hal (i - m) x oi hx hoi' (setO A bs e) w.heap hB
           refine Adj hoi hdi r hg fun e' a' w' r' hs hk=>?_
           obtain ⟨b,rfl,hE',hbx,hbh⟩:=hk
           rw [<- A5h S.nd hbl hx hbq] at r'
           have hpwA:=List.pairwise_append.1 (List.pairwise_append.1 (List.pairwise_append.1 L.pw).2.1).1
           have hlq:i - m < bs.length:=by omega
           refine ih Rp (A1 ++ A2) (bs.set (i - m) (some b)) _ e a' w' N hRp (fun j hj=>?_) (fun q hq=>?_) (by simpa using hbl) (by simp at hlen ⊢;omega) ?_ r' (hE.trans hE') (hBx _ _ hB hE') (fun q c y hq hy=>?_) (fun q q' c hq hq'=>?_) (fun c hc=>hNn c (Nat.le_trans hE'.1 hc)) (HI.ext hBx _ hE' H) (fun e2 a2 w2 r2 s2 k2=>hK _ _ _ r2 (hs.trans s2) k2)
           · have hj':j∈A1 ++ i :: A2:=by
               rcases List.mem_append.1 hj with h | h
               · exact List.mem_append_left _ h
               · exact List.mem_append_right _ (List.mem_cons_of_mem _ h)
             obtain ⟨j1,j2,j3⟩:=hRa j hj'
             have hne:i≠j:=by
               rintro rfl
               rcases List.mem_append.1 hj with h | h
               · have:=hpwA.2.2 i h i (List.mem_cons_self ..);omega
               · have:=(List.pairwise_cons.1 hpwA.2.1).1 i h;omega
             exact ⟨j1,j2,by rw [List.getElem?_set_ne AGi];exact j3⟩
           · by_cases hqi:i - m=q
             · subst hqi;rw [List.getElem?_set_self hlq] at hq;cases hq
             · rw [List.getElem?_set_ne hqi] at hq
               have:=hbsR q hq
               rcases List.mem_append.1 this with h | h
               · exact List.mem_append_left _ h
               · rcases List.mem_cons.1 h with h | h
                 · omega
                 · exact List.mem_append_right _ h
           · have L2:LsF ops ((Rp ++ A1) ++ i :: (A2 ++ T)) listed:=by simpa using L
             have:=L2.step hoi hall
             simpa using this
           · by_cases hqi:i - m=q
             · subst hqi
               rw [List.getElem?_set_self hlq] at hq
               cases hq
               rw [hx] at hy;cases hy
               exact ⟨hbx,Nat.le_trans hE.1 hbh,hNn b hbh⟩
             · rw [List.getElem?_set_ne hqi] at hq
               obtain ⟨x1,x2,x3⟩:=hbox q c y hq hy
               exact ⟨by unfold AVv;rw [hE'.2 c x1.lt];exact x1,x2,x3⟩
           · have old:∀ {q:Nat},bs[q]? =some (some c)->c < w.heap.size:=fun {q} hq=>by
               have hql:q < A.length:=by rw [<- hbl];exact (List.getElem?_eq_some_iff.1 hq).1
               exact (hbox q c A[q] hq (List.getElem?_eq_getElem hql)).1.lt
             by_cases hqi:i - m=q
             · by_cases hqi':i - m=q'
               · omega
               · subst hqi
                 rw [List.getElem?_set_self hlq] at hq
                 rw [List.getElem?_set_ne hqi'] at hq'
                 cases hq
                 have:=old hq'
                 omega
             · rw [List.getElem?_set_ne hqi] at hq
               by_cases hqi':i - m=q'
               · subst hqi'
                 rw [List.getElem?_set_self hlq] at hq'
                 cases hq'
                 have:=old hq
                 omega
               · rw [List.getElem?_set_ne hqi'] at hq'
                 exact hdis q q' c hq hq'
         ·
           exfalso
           cases hA:Ra with
           | nil=>exact Aq hA
           | cons j Ra'=>
             have hj:j∈Ra:=by rw [hA];exact List.mem_cons_self ..
             obtain ⟨Au,Av,_⟩:=hRa j hj
             obtain ⟨nre,hre⟩:=S.tail j i oi Au Av (hT i hiT) hoi
             exact hnl j nre (List.mem_append_right _ (List.mem_append_left _ hj)) hre
end
end Go.QF
namespace Go.QF
open Go
section
variable {P:Program} {ops:Array Oper} {B:AGt->Prop}
def isA (m k i:Nat):Bool:=Nat.ble m i && Nat.blt i (m + k)
def A5j (ops:Array Oper) (m:Nat) (ds:List Nat):Bool:=
  Nat.ble (m + ds.length) ops.size && (decide ds.Nodup && (List.range ds.length).all fun q=>match ops[m + q]?,ds[q]? with | some o,some d=>o.dst == some d | _,_=>false) && (List.range ops.size).all fun j=>match ops[j]? with
    | none=>false
    | some oj=>oj.after.all (fun ed=> !Region.binds .any ed || Nat.blt ed.on j) && (!Nat.blt j m || ds.all fun d=> !(oj.looksAt ops).contains d && oj.dst != some d) &&
      (List.range j).all fun i=>match ops[i]? with
        | none=>false
        | some oi=>match isA m ds.length i,isA m ds.length j with
          | false,false=>ahead ops i j || indep true ops oi oj
          | true,false=>ahead ops i j
          | _,true=>true
theorem Axf {m k i:Nat}:(isA m k i=true↔m<=i/\i < m + k):=by
 unfold isA;rw [Bool.and_eq_true];constructor
 ·rintro ⟨h1,h2⟩;exact ⟨Nat.le_of_ble_eq_true h1,A48 h2⟩
 ·rintro ⟨h1,h2⟩;exact ⟨Nat.ble_eq_true_of_le h1,Nat.ble_eq_true_of_le h2⟩
theorem Aqb {m k i:Nat} (h:i < m∨m + k<=i):isA m k i=false:=by
 cases hh:isA m k i with
 | false=>rfl
 | true=>have:=Axf.1 hh;omega
theorem A2x {m:Nat} {A:List Alv} (H:A5j ops m (A.map Alv.d)=true):A03 ops m A:=by
 unfold A5j at H;rw [Bool.and_eq_true,Bool.and_eq_true] at H;obtain ⟨⟨h0,h1⟩,H⟩:=H;rw [Bool.and_eq_true] at h1;have h0:=Nat.le_of_ble_eq_true h0;rw [List.length_map] at h0 H
 have key:∀ {j:Nat} {oj:Oper},ops[j]? =some oj->(oj.after.all (fun ed=> !Region.binds .any ed || Nat.blt ed.on j)=true/\(!Nat.blt j m || (A.map Alv.d).all fun d=> !(oj.looksAt ops).contains d && oj.dst != some d)=true)/\
     ((List.range j).all fun i=>match ops[i]? with
       | none=>false
       | some oi=>match isA m A.length i,isA m A.length j with
         | false,false=>ahead ops i j || indep true ops oi oj
         | true,false=>ahead ops i j
         | _,true=>true)=true:=by
   intro j oj hj
   have hlt:j < ops.size:=(Array.getElem?_eq_some_iff.1 hj).1
   have H:=List.all_eq_true.1 H j (List.mem_range.2 hlt)
   simp only [hj,Bool.and_eq_true] at H
   exact H
 refine ⟨h0,fun j oj hj ed hed hbd=>?_,fun i j oi oj hi hj hij hoi hoj=>?_,fun i j oj Ae Af hj hoj=>?_,fun j oj hj hoj=>?_,of_decide_eq_true h1.1,fun q a ha=>?_⟩
 ·have:=Array.all_eq_true_iff_forall_mem.1 (key hj).1.1 ed hed;rw [hbd] at this;exact A48 (by simpa using this)
 ·have:=List.all_eq_true.1 (key hoj).2 i (List.mem_range.2 hij);simp only [hoi,Aqb hi,Aqb hj,Bool.or_eq_true] at this;rcases this with h | h
  ·exact .inl (Ahs h)
  ·exact .inr h
 ·have hij:i < j:=by omega
  have hs:i < ops.size:=Nat.lt_trans hij (Array.getElem?_eq_some_iff.1 hoj).1;have:=List.all_eq_true.1 (key hoj).2 i (List.mem_range.2 hij);simp only [Array.getElem?_eq_getElem hs,Axf.2 ⟨Ae,Af⟩,Aqb (.inr hj)] at this;exact Ahs this
 ·have:=(key hoj).1.2;have hb:Nat.blt j m=true:=Nat.ble_eq_true_of_le hj;rw [hb,Bool.not_true,Bool.false_or] at this
  have h2:∀ a∈A,a.d ∉ oj.looksAt ops/\oj.dst≠some a.d:=fun a ha=>by
    have:=List.all_eq_true.1 this a.d (List.mem_map.2 ⟨a,ha,rfl⟩)
    simpa using this
  exact ⟨fun a ha=>(h2 a ha).1,fun a ha=>(h2 a ha).2⟩
 ·have hq:q < A.length:=(List.getElem?_eq_some_iff.1 ha).1;have h2:=List.all_eq_true.1 h1.2 q (List.mem_range.2 (by simpa using hq));have h3:ops[m + q]? =some (ops[m + q]'AGi):=Array.getElem?_eq_getElem AGi;simp only [h3,List.getElem?_map,ha,Option.map_some,beq_iff_eq] at h2;exact ⟨_,h3,h2⟩
variable {Q:Exit->Env->AGt->Prop} {e:Env} {h:AGt}
theorem Ano {id:Nat} {l:List Oper} (m:Nat) (A:List Alv) (hBx:∀ h h',B h->Ext h h'->B h') (hok:A5j l.toArray m (A.map Alv.d)=true) (hB:B h) (hal:A8k P B l.toArray m A) (H:HRf P B l.toArray (l.take m) e h (fun _=>True) (KA A h fun bl e' h'=>RL P B true l.toArray (l.drop (m + A.length)) (setO A (bl.map some) e') h' (Q .normal))):W P (.region id l.toArray true) Q e h:=by
 intro hmx n id a w Q' hb r hw hQ;subst hw;have S:=A2x hok;have hle:=S.le;simp only [List.size_toArray] at hle;have hsz:l.toArray.size=l.length:=by simp
 have Ad:∀ (s n:Nat),s + n<=l.length->(List.range' s n).map (fun i=>l.toArray[i]?)=((l.drop s).take n).map some:=by
   intro s n hn
   apply List.ext_getElem?
   intro k
   simp only [List.getElem?_map,List.getElem?_take,List.getElem?_drop]
   by_cases hk:k < n
   · rw [List.getElem?_range' hk,if_pos hk]
     have:s + k < l.length:=by omega
     simp [this]
   · rw [if_neg hk,List.getElem?_eq_none (by simp;omega)]
     rfl
 refine wp_region_draw fun t=>?_;simp only [Region.schedule,hmx,Bool.true_or,if_true]
 have hs:List.range l.toArray.size=List.range m ++ (List.range' m A.length ++ List.range' (m + A.length) (l.length - (m + A.length))):=by
   rw [hsz,List.range_eq_range',List.range_eq_range']
   rw [List.range'_append_1]
   have:List.range' m (A.length + (l.length - (m + A.length)))=List.range' (0 + m) (A.length + (l.length - (m + A.length))):=by rw [Nat.zero_add]
   rw [this,List.range'_append_1]
   congr 1
   omega
 have htl:((l.drop (m + A.length)).take (l.length - (m + A.length)))=l.drop (m + A.length):=List.take_of_length_le ATv
 have Hi:HI P B l.toArray (List.range m) e w.heap (fun _=>True) (KA A w.heap fun bl e' h'=>LI P B true l.toArray (List.range' (m + A.length) (l.length - (m + A.length))) (setO A (bl.map some) e') h' fun e2 h2=>Q .normal e2 h2/\ ∀ t,(∀ o∈l,o.dst≠some t)->e2 t=e t):=by
   refine A5f (List.range m) (l.take m) (by rw [List.range_eq_range'];have:=Ad 0 m AGi;simpa using this) e w.heap _ ?_
   have frame:∀ (L:List Oper) (e:Env) (h:AGt) (N:Nat->Prop) (K K':Env->AGt->(Nat->Prop)->Prop),(∀ e1 h N,(∀ t,(∀ o∈L,o.dst≠some t)->e1 t=e t)->K e1 h N->K' e1 h N)->HRf P B l.toArray L e h N K->HRf P B l.toArray L e h N K':=by
     intro L
     induction L with
     | nil=>intro e h N K K' hK H h' E;exact hK _ _ _ (fun t _=>rfl) (H h' E)
     | cons o L ih=>
       intro e h N K K' hK H
       have put:∀ v t,(∀ o'∈o :: L,o'.dst≠some t)->e.put o.dst v t=e t:=fun v t ht=>by
         cases hd:o.dst with
         | none=>rfl
         | some d=>exact Env.set_other _ _ (fun he=>ht o (List.mem_cons_self ..) (by rw [hd,he]))
       simp only [HRf] at H ⊢
       cases he:Af2 o with
       | true=>simp only [he,cond_true] at H ⊢;exact fun h1 E=>(H h1 E).mono fun v h' hh=>⟨hh.1,ih _ _ _ _ _ (fun e1 h2 N2 hf hk=>hK _ _ _ (fun t ht=>(hf t fun o' ho'=>ht o' (List.mem_cons_of_mem _ ho')).trans (put v t ht)) hk) hh.2⟩
       | false=>simp only [he,cond_false] at H ⊢;exact H.mono fun v h' hh=>ih _ _ _ _ _ (fun e1 h2 N2 hf hk=>hK _ _ _ (fun t ht=>(hf t fun o' ho'=>ht o' (List.mem_cons_of_mem _ ho')).trans (put v t ht)) hk) hh
   refine frame _ _ _ _ _ _ (fun e1 h1 N1 hf hk bl b1 b2 b3=>?_) H
   refine Ap7 _ (l.drop (m + A.length)) ?_ _ _ (RL.mono (fun e2 h2 hq=>⟨hq.1,fun t ht=>?_⟩) (RL.frame0 (hk bl b1 b2 b3)))
   · rw [Ad _ _ AGi,htl]
   · rw [hq.2 t fun o ho=>ht o (List.mem_of_mem_drop ho),A8j,hf t fun o ho=>ht o (List.mem_of_mem_take ho)]
     intro x hx he
     obtain ⟨q,Aj⟩:=List.getElem?_of_mem hx
     obtain ⟨o,ho,hd⟩:=S.al q x Aj
     exact ht o (List.mem_of_getElem? (by simpa using ho)) (by rw [hd,he])
 refine wpAny_sound l.toArray.size t _ a _ (A5i (B:=B) (T:=List.range' (m + A.length) (l.length - (m + A.length))) S hb hBx hal (fun j hj=>(List.mem_range'_1.1 hj).1) l.toArray.size (List.range m) (List.range' m A.length) (List.replicate A.length none) (Array.replicate l.toArray.size false) e a { w with drawn:=w.drawn + 1 } (fun _=>True) (fun j hj=>List.mem_range.1 hj)
   (fun j hj=>by
     have:=List.mem_range'_1.1 hj
     exact ⟨this.1,this.2,by rw [List.getElem?_replicate,if_pos AGi]⟩)
   (fun q hq=>by
     rw [List.getElem?_replicate] at hq
     split at hq
     · exact List.mem_range'_1.2 ⟨AGi,AGi⟩
     · cases hq)
   ATv (by rw [<- hs];simp) (by rw [<- hs];exact A2p l.toArray) (by rw [A2u];exact r) (Ext.refl _) hB
   (fun q b x hq hx=>by rw [List.getElem?_replicate] at hq;split at hq <;> cases hq) (fun q q' b hq=>by rw [List.getElem?_replicate] at hq;split at hq <;> cases hq) (fun b _=>trivial) Hi
   (fun e' a' w' r' s k=>hQ e' a' w' r' ⟨s.os,s.tape,s.output⟩ k.1 fun t ht=>k.2 t fun o ho=>ht o (by simpa using ho)))
variable {K:Env->AGt->(Nat->Prop)->Prop} {N:Nat->Prop}
theorem h_l {o:Oper} {l:List Oper} (hl:Af2 o=false) (H:RL P B true ops [o] e h fun e' h'=>HRf P B ops l e' h' N K):HRf P B ops (o :: l) e h N K:=by
 simp only [HRf,hl,cond_false];exact H
theorem h_e {o:Oper} {l:List Oper} (hl:Af2 o=true) (H:∀ h1,Ext h h1->RL P B true ops [o] e h1 fun e' h'=>Ext h1 h'/\HRf P B ops l e' h' (fun b=>N b/\Off h1.size h'.size b) K):HRf P B ops (o :: l) e h N K:=by
 simp only [HRf,hl,cond_true];exact H
theorem At6 (H:∀ h1,Ext h h1->K e h1 N):HRf P B ops [] e h N K:=H
theorem BBh {a:Alv} {h0:AGt} {G:List Nat->Env->AGt->Prop} (H:∀ b,AVv a.t h b a.z->h0.size<=b->N b->G [b] e h):KA [a] h0 G e h N:=by
 intro bl hl hn hb
 match bl,hl with
 | [b],_=>
   obtain ⟨h1,h2,h3⟩:=hb 0 b a rfl rfl
   exact H b h1 h2 h3
theorem BBi {a c:Alv} {h0:AGt} {G:List Nat->Env->AGt->Prop} (H:∀ b d,AVv a.t h b a.z->AVv c.t h d c.z->b≠d->h0.size<=b->h0.size<=d->N b->N d->G [b,d] e h):KA [a,c] h0 G e h N:=by
 intro bl hl hn hb
 match bl,hl with
 | [b,d],_=>
   obtain ⟨h1,h2,h3⟩:=hb 0 b a rfl rfl
   obtain ⟨g1,g2,g3⟩:=hb 1 d c rfl rfl
   exact H b d h1 g1 (fun he=>by simp [he] at hn) h2 g2 h3 g3
theorem Azf {t bytes d:Nat} {z:Value} {ty:TypeId} {pos:String} {af:Array Edge} {l:List Value} (hz:ZeT P t z bytes) (hl:z.cells=l.toArray) (hBx:∀ h h',B h->Ext h h'->B h') (e:Env) (h:AGt) (hb:B h):GOp P B true ops ⟨some d,.alloc t,ty,pos,af,none⟩ e h fun e' h'=> ∃ b,e'=e.set d (An4 b)/\Ext h h'/\AVv t h' b l/\h.size<=b:=
  Asb (rest:=[]) (K:=fun e' h'=> ∃ b,e'=e.set d (An4 b)/\Ext h h'/\AVv t h' b l/\h.size<=b) l hz hl hb (fun h' E=>hBx _ _ hb E) fun b h' hx E S=>⟨b,rfl,E,hx,(S.lo 0 rfl b ATv).1⟩
theorem Azg {m:Nat} {a:Alv} {ty:TypeId} {pos:String} {af:Array Edge} {bytes:Nat} {z:Value} (ho:ops[m]? =some ⟨some a.d,.alloc a.t,ty,pos,af,none⟩) (hz:ZeT P a.t z bytes) (hl:z.cells=a.z.toArray) (hBx:∀ h h',B h->Ext h h'->B h'):A8k P B ops m [a]:=by
 intro q x o hq hoq e h hb
 match q,hq with
 | 0,hq=>
   cases hq
   rw [Nat.add_zero,ho] at hoq
   cases hoq
   exact Azf hz hl hBx e h hb
theorem Azh {m:Nat} {a c:Alv} {ty ty':TypeId} {pos pos':String} {af af':Array Edge} {bytes bytes':Nat} {z z':Value} (ho:ops[m]? =some ⟨some a.d,.alloc a.t,ty,pos,af,none⟩) (ho':ops[m + 1]? =some ⟨some c.d,.alloc c.t,ty',pos',af',none⟩) (hz:ZeT P a.t z bytes) (hl:z.cells=a.z.toArray) (hz':ZeT P c.t z' bytes') (hl':z'.cells=c.z.toArray) (hBx:∀ h h',B h->Ext h h'->B h'):A8k P B ops m [a,c]:=by
 intro q x o hq hoq e h hb
 match q,hq with
 | 0,hq=>
   cases hq
   rw [Nat.add_zero,ho] at hoq
   cases hoq
   exact Azf hz hl hBx e h hb
 | 1,hq=>
   cases hq
   rw [ho'] at hoq
   cases hoq
   exact Azf hz' hl' hBx e h hb
theorem Azi {h h':AGt} {b d:Nat} (h1:h.size<=b) (h2:h.size<=d) (h3:b < h'.size) (h4:d < h'.size) (hne:b≠d):Sp h' h.size [[b],[d]]:=⟨by simp [hne],fun x hx=>by simp at hx;omega⟩
end
end Go.QF
namespace Go.QF
open Go
def Aq4 (h:AGt) (v:Value) (n d:Int):Prop:= ∃ c1 c2,v= .agg (c1 ++ c2).toArray/\cZ.rep h n c1/\cZ.rep h d c2
theorem AUz {h h':AGt} {n d:Int} {c1 c2:List Value} (H1:cZ.rep h n c1) (H2:cZ.rep h' d c2):(c1 ++ c2).length=4:=by
 rw [List.length_append,cZ.klen H1,cZ.klen H2];rfl
theorem Ael {h h':AGt} {n d:Int} {c1 c2:List Value} (H1:cZ.rep h n c1) (H2:cZ.rep h' d c2):∀ u∈c1 ++ c2,isOne u=true:=fun u hu=>
  (List.mem_append.1 hu).elim (cZ.one H1 u) (cZ.one H2 u)
theorem AVv.aggL {t:Nat} {h:AGt} {b:Nat} {l l2:List Value} (H:AVv t h b (l ++ l2)):∀ i u,l[i]? =some u->AWy h ((⟨b,0,none⟩:Addr).add i)=some u:=by
 intro i u hu;refine H.agg i u ?_;rw [List.getElem?_append_left (List.getElem?_eq_some_iff.1 hu).1];exact hu
theorem AVv.aggR {t:Nat} {h:AGt} {b:Nat} {l l2:List Value} (H:AVv t h b (l ++ l2)) (hl:l.length=2):∀ i u,l2[i]? =some u->AWy h ((⟨b,2,none⟩:Addr).add i)=some u:=by
 intro i u hu;have h1:=H.cell (i:=2 + i) (u:=u) (by rw [List.getElem?_append_right AGi,hl,show 2 + i - 2=i by omega];exact hu);rw [AXq];exact h1
theorem Axg {h:AGt} {z:Int} {cs:List Value} (H:cZ.rep h z cs):∃ b a n c,cs=[.bool b,.slice a n c]:=by
 obtain ⟨hl,n,s,L,h1,h2,h3⟩:=H;obtain ⟨a,m,c,rfl,_⟩:=h2.cap;refine ⟨n,a,m,c,?_⟩;injection h1 with h1;have:=congrArg Array.toList h1;simpa using this
end Go.QF
namespace Go.Proofs.YthbndcbclhkepaaGreatDoor
open Go Go.QF
theorem AYg:AgT Tryz.prog 147 4:=Amw Tryz.underlying147 rfl AGx
theorem Aib:ZeT Tryz.prog 147 (.agg #[.bool false,.slice none 0 0,.bool false,.slice none 0 0]) 64:=Ah8 AGx
theorem Arf:FdT Tryz.prog 147 0 0 93:=⟨_,_,Tryz.underlying147,rfl,rfl,rfl⟩
theorem Anp:FdT Tryz.prog 147 1 2 93:=⟨_,_,Tryz.underlying147,rfl,rfl,rfl⟩
theorem Azj (w:World):(Instr.build 147 #[]).run Tryz.prog w= .ok (.agg #[.bool false,.slice none 0 0,.bool false,.slice none 0 0]) w:=by kernel_rfl
theorem Azk (b b':Bool) (a a':Option Addr) (n n' c c':Nat) (w:World):(Instr.build 147 #[(0,.agg #[.bool b,.slice a n c]),(1,.agg #[.bool b',.slice a' n' c'])]).run Tryz.prog w= .ok (.agg #[.bool b,.slice a n c,.bool b',.slice a' n' c']) w:=by kernel_rfl
theorem Anq {h h':AGt} {n d:Int} {c1 c2:List Value} (H1:cZ.rep h n c1) (H2:cZ.rep h' d c2) (w:World):(Instr.build 147 #[(0,.agg c1.toArray),(1,.agg c2.toArray)]).run Tryz.prog w= .ok (.agg (c1 ++ c2).toArray) w:=by
 obtain ⟨b,a,n,c,rfl⟩:=Axg H1;obtain ⟨b',a',n',c',rfl⟩:=Axg H2;exact Azk _ _ _ _ _ _ _ _ w
end Go.Proofs.YthbndcbclhkepaaGreatDoor
namespace Go.Proofs.YthbndcbclhkepaaGreatDoor
open Go Go.QF
set_option maxRecDepth 100000
structure Asr where
  F:List Nat
  P:AGt->Prop
  up:∀ {G:List Nat} {h h':AGt},UpT G h h'->(∀ b∈F,b ∉ G)->P h->P h'
def aZ (cs:List Value) (x:Int):Asr:=⟨[],fun h=>cZ.rep h x cs,fun U _ H=>cZ.upT H U⟩
def aB (t b:Nat) (l:List Value):Asr:=⟨[b],fun h=>AVv t h b l,fun U d H=>H.upT U d⟩
def aO {α:Type} (c:Cod α) (el:Nat) (F:List Nat) (v:Value) (x:List α):Asr:=⟨F,fun h=>OwC c el h F v x,fun U d H=>H.upT U d⟩
def aO2 {α:Type} (c:Cod α) (er el:Nat) (F:List Nat) (Gs:List (List Nat)) (rs:List Value) (v:Value) (x:List (List α)):Asr:=⟨F,fun h=>AVt c er el h F Gs rs v x,fun U d H=>H.upT U d⟩
def aC (p:Prop):Asr:=⟨[],fun _=>p,fun _ _ H=>H⟩
def Am7 (h:AGt):List Asr->Prop
  | []=>True
  | a :: l=>a.P h/\Am7 h l
def fps:List Asr->List (List Nat)
  | []=>[]
  | a :: l=>a.F :: fps l
def Ab8:List Asr->Nat->Asr
  | [],_=>aC True
  | a :: _,0=>a
  | _ :: l,i + 1=>Ab8 l i
def AYv (l:List Asr):List Nat->List Asr
  | []=>[]
  | i :: is=>Ab8 l i :: AYv l is
theorem A8l (l m:List Asr):fps (l ++ m)=fps l ++ fps m:=by
 induction l with
 | nil=>rfl
 | cons a l ih=>simp [fps,ih]
theorem Afr {l:List Asr} {i:Nat} {a:Asr} (h:l[i]? =some a):(fps l)[i]? =some a.F:=by
 induction l generalizing i with
 | nil=>simp at h
 | cons b l ih=>
   cases i with
   | zero=>simp at h;subst h;rfl
   | succ i=>exact ih (by simpa using h)
theorem Apc {l:List Asr} {i:Nat} {a:Asr}:fps (l.set i a)=(fps l).set i a.F:=by
 induction l generalizing i with
 | nil=>rfl
 | cons b l ih=>
   cases i with
   | zero=>rfl
   | succ i=>simp [fps,ih]
theorem A8m (l:List Asr) (i:Nat):(Ab8 l i).F=((fps l)[i]?).getD []:=by
 induction l generalizing i with
 | nil=>rfl
 | cons a l ih=>
   cases i with
   | zero=>rfl
   | succ i=>exact ih i
theorem A8n (l:List Asr) (is:List Nat):fps (AYv l is)=is.map fun i=>((fps l)[i]?).getD []:=by
 induction is with
 | nil=>rfl
 | cons i is ih=>simp [AYv,fps,ih,A8m]
theorem Agq {h:AGt} {l:List Asr} (H:Am7 h l) {i:Nat} {a:Asr} (e:l[i]? =some a):a.P h:=by
 induction l generalizing i with
 | nil=>simp at e
 | cons b l ih=>
   cases i with
   | zero=>simp at e;subst e;exact H.1
   | succ i=>exact ih H.2 (by simpa using e)
theorem A5k {h:AGt} {l:List Asr} (H:Am7 h l) (i:Nat):(Ab8 l i).P h:=by
 induction l generalizing i with
 | nil=>exact trivial
 | cons b l ih=>
   cases i with
   | zero=>exact H.1
   | succ i=>exact ih H.2 i
theorem A5l {h:AGt} {l m:List Asr} (H:Am7 h l) (K:Am7 h m):Am7 h (l ++ m):=by
 induction l with
 | nil=>exact K
 | cons b l ih=>exact ⟨H.1,ih H.2⟩
theorem A04 {h h':AGt} {l:List Asr} {G:List Nat} (H:Am7 h l) (U:UpT G h h') (d:∀ F∈fps l,∀ b∈F,b ∉ G):Am7 h' l:=by
 induction l with
 | nil=>exact trivial
 | cons b l ih=>exact ⟨b.up U (d _ (by simp [fps])) H.1,ih H.2 fun F hF=>d F (by simp [fps,hF])⟩
theorem Axh {h h':AGt} {l:List Asr} {i:Nat} {a a':Asr} {lo:Nat} (H:Am7 h l) (S:Sp h lo (fps l)) (e:l[i]? =some a) (U:UpT a.F h h') (Ha:a'.P h'):Am7 h' (l.set i a'):=by
 have key:∀ (m:List Asr) (q:Nat),(∀ j x,m[j]? =some x->j≠q-> ∀ b∈x.F,b ∉ a.F)->Am7 h m->Am7 h' (m.set q a'):=by
   intro m
   induction m with
   | nil=>intro q _ _;exact trivial
   | cons x m ih=>
     intro q hd hm
     cases q with
     | zero=>
       refine ⟨Ha,A04 hm.2 U fun F hF b hb=>?_⟩
       have:∃ (j:Nat) (y:Asr),m[j]? =some y/\y.F=F:=by
         clear ih hd hm e
         induction m with
         | nil=>simp [fps] at hF
         | cons y m ih=>
           simp only [fps,List.mem_cons] at hF
           rcases hF with rfl | hF
           · exact ⟨0,y,rfl,rfl⟩
           · obtain ⟨j,z,h1,h2⟩:=ih hF
             exact ⟨j + 1,z,by simpa using h1,h2⟩
       obtain ⟨j,y,h1,rfl⟩:=this
       exact hd (j + 1) y (by simpa using h1) AGi b hb
     | succ q=>
       refine ⟨x.up U (hd 0 x rfl AGi) hm.1,ih q (fun j y hj hn=>hd (j + 1) y (by simpa using hj) AGi) hm.2⟩
 exact key l i (fun j x hj hn=>S.dj j i (Afr hj) (Afr e) hn) H
theorem At7 {h:AGt} {l:List Asr} (H:Am7 h l) (j:Nat):Am7 h (l.set j (aC True)):=by
 induction l generalizing j with
 | nil=>exact trivial
 | cons a l ih=>
   cases j with
   | zero=>exact ⟨trivial,H.2⟩
   | succ j=>exact ⟨H.1,ih H.2 j⟩
theorem _root_.Go.QF.Sp.appF {h h':AGt} {lo:Nat} {Fs Ks:List (List Nat)} (S:Sp h lo Fs) (S':Sp h' h.size Ks) (hs:h.size<=h'.size) (hl:lo<=h.size):Sp h' lo (Ks ++ Fs):=by
 have A:=S.app S' hs hl;refine ⟨?_,fun b hb=>A.2 b (by simp only [List.flatten_append,List.mem_append] at hb ⊢;exact hb.symm)⟩;have:=A.1;simp only [List.flatten_append] at this ⊢;exact (List.perm_append_comm.nodup_iff).1 this
theorem _root_.Go.QF.Sp.put2 {h h':AGt} {lo:Nat} {Fs:List (List Nat)} (S:Sp h lo Fs) (i j:Nat) {F R F':List Nat} (hi:Fs[i]? =some F) (hj:Fs[j]? =some R) (hij:i≠j) (hn:F'.Nodup) (hs:h.size<=h'.size) (hl:lo<=h.size) (hF:∀ x∈F',x < h'.size) (hsub:∀ x∈F',x∈F∨x∈R∨h.size<=x):Sp h' lo ((Fs.set j []).set i F'):=by
 have S1:=S.put j hj List.nodup_nil (Nat.le_refl _) hl (fun x hx=>by simp at hx) (fun x hx=>by simp at hx)
 have at':∀ {k:Nat} {G:List Nat} {x:Nat},(Fs.set j [])[k]? =some G->x∈G->k≠j/\Fs[k]? =some G:=fun {k G x} hG hx=>by
   by_cases hk:k=j
   · subst hk
     have h1:=(List.getElem?_eq_some_iff.1 hj).1
     rw [List.getElem?_set_self h1] at hG
     cases hG;simp at hx
   · rw [List.getElem?_set_ne (Ne.symm hk)] at hG;exact ⟨hk,hG⟩
 refine ⟨Agl S1.1 hn fun x hx k G hk hG hxG=>?_,fun b hb=>?_⟩
 ·obtain ⟨hkj,hG⟩:=at' hG hxG;rcases hsub x hx with h1 | h1 | h1
  ·exact S.dj i k hi hG (fun he=>hk he.symm) x h1 hxG
  ·exact S.dj j k hj hG (fun he=>hkj he.symm) x h1 hxG
  ·have:=(S.lo k hG x hxG).2;omega
 ·rcases Adr hb with h1 | ⟨k,G,hk,hG,hb⟩
  ·refine ⟨?_,hF b h1⟩;rcases hsub b h1 with h2 | h2 | h2
   ·exact (S.lo i hi b h2).1
   ·exact (S.lo j hj b h2).1
   ·omega
  ·obtain ⟨_,hG⟩:=at' hG hb;have:=S.lo k hG b hb;exact ⟨this.1,AGi⟩
def Rep (i:Nat) (l:List Asr) (a a':Asr) (l':List Asr):Prop:=l[i]? =some a/\l'=l.set i a'
theorem p0 {a a':Asr} {l:List Asr}:Rep 0 (a :: l) a a' (a' :: l):=⟨rfl,rfl⟩
theorem p1 {x0 a a':Asr} {l:List Asr}:Rep 1 (x0 :: a :: l) a a' (x0 :: a' :: l):=⟨rfl,rfl⟩
theorem p2 {x0 x1 a a':Asr} {l:List Asr}:Rep 2 (x0 :: x1 :: a :: l) a a' (x0 :: x1 :: a' :: l):=⟨rfl,rfl⟩
theorem p3 {x0 x1 x2 a a':Asr} {l:List Asr}:Rep 3 (x0 :: x1 :: x2 :: a :: l) a a' (x0 :: x1 :: x2 :: a' :: l):=⟨rfl,rfl⟩
theorem p4 {x0 x1 x2 x3 a a':Asr} {l:List Asr}:Rep 4 (x0 :: x1 :: x2 :: x3 :: a :: l) a a' (x0 :: x1 :: x2 :: x3 :: a' :: l):=⟨rfl,rfl⟩
theorem p5 {x0 x1 x2 x3 x4 a a':Asr} {l:List Asr}:Rep 5 (x0 :: x1 :: x2 :: x3 :: x4 :: a :: l) a a' (x0 :: x1 :: x2 :: x3 :: x4 :: a' :: l):=⟨rfl,rfl⟩
theorem p6 {x0 x1 x2 x3 x4 x5 a a':Asr} {l:List Asr}:Rep 6 (x0 :: x1 :: x2 :: x3 :: x4 :: x5 :: a :: l) a a' (x0 :: x1 :: x2 :: x3 :: x4 :: x5 :: a' :: l):=⟨rfl,rfl⟩
theorem p7 {x0 x1 x2 x3 x4 x5 x6 a a':Asr} {l:List Asr}:Rep 7 (x0 :: x1 :: x2 :: x3 :: x4 :: x5 :: x6 :: a :: l) a a' (x0 :: x1 :: x2 :: x3 :: x4 :: x5 :: x6 :: a' :: l):=⟨rfl,rfl⟩
theorem p8 {x0 x1 x2 x3 x4 x5 x6 x7 a a':Asr} {l:List Asr}:Rep 8 (x0 :: x1 :: x2 :: x3 :: x4 :: x5 :: x6 :: x7 :: a :: l) a a' (x0 :: x1 :: x2 :: x3 :: x4 :: x5 :: x6 :: x7 :: a' :: l):=⟨rfl,rfl⟩
theorem p9 {x0 x1 x2 x3 x4 x5 x6 x7 x8 a a':Asr} {l:List Asr}:Rep 9 (x0 :: x1 :: x2 :: x3 :: x4 :: x5 :: x6 :: x7 :: x8 :: a :: l) a a' (x0 :: x1 :: x2 :: x3 :: x4 :: x5 :: x6 :: x7 :: x8 :: a' :: l):=⟨rfl,rfl⟩
theorem p10 {x0 x1 x2 x3 x4 x5 x6 x7 x8 x9 a a':Asr} {l:List Asr}:Rep 10 (x0 :: x1 :: x2 :: x3 :: x4 :: x5 :: x6 :: x7 :: x8 :: x9 :: a :: l) a a' (x0 :: x1 :: x2 :: x3 :: x4 :: x5 :: x6 :: x7 :: x8 :: x9 :: a' :: l):=⟨rfl,rfl⟩
theorem p11 {x0 x1 x2 x3 x4 x5 x6 x7 x8 x9 Ak a a':Asr} {l:List Asr}:Rep 11 (x0 :: x1 :: x2 :: x3 :: x4 :: x5 :: x6 :: x7 :: x8 :: x9 :: Ak :: a :: l) a a' (x0 :: x1 :: x2 :: x3 :: x4 :: x5 :: x6 :: x7 :: x8 :: x9 :: Ak :: a' :: l):=⟨rfl,rfl⟩
theorem p13 {x0 x1 x2 x3 x4 x5 x6 x7 x8 x9 Ak Am Ao a a':Asr} {l:List Asr}:Rep 13 (x0 :: x1 :: x2 :: x3 :: x4 :: x5 :: x6 :: x7 :: x8 :: x9 :: Ak :: Am :: Ao :: a :: l) a a' (x0 :: x1 :: x2 :: x3 :: x4 :: x5 :: x6 :: x7 :: x8 :: x9 :: Ak :: Am :: Ao :: a' :: l):=⟨rfl,rfl⟩
structure Kst (h0 h:AGt) (l:List Asr):Prop where
  x:Ext h0 h
  s:Sp h h0.size (fps l)
  p:Am7 h l
namespace Kst
variable {h0 h h':AGt} {l l':List Asr}
abbrev L (_:Kst h0 h l):List Asr:=l
theorem k0 (h:AGt):Kst h h []:=⟨Ext.refl h,BA7 _ _,trivial⟩
theorem z (k:Kst h0 h l) {i:Nat} {cs:List Value} {x:Int} (e:Rep i l (aZ cs x) (aZ cs x) l'):cZ.rep h x cs:=Agq k.p e.1
theorem b (k:Kst h0 h l) {i t b:Nat} {c:List Value} (e:Rep i l (aB t b c) (aB t b c) l'):AVv t h b c:=Agq k.p e.1
theorem o {α:Type} {c:Cod α} (k:Kst h0 h l) {i el:Nat} {F:List Nat} {v:Value} {x:List α} (e:Rep i l (aO c el F v x) (aO c el F v x) l'):OwC c el h F v x:=Agq k.p e.1
theorem o2 {α:Type} {c:Cod α} (k:Kst h0 h l) {i er el:Nat} {F:List Nat} {Gs:List (List Nat)} {rs:List Value} {v:Value} {x:List (List α)} (e:Rep i l (aO2 c er el F Gs rs v x) (aO2 c er el F Gs rs v x) l'):AVt c er el h F Gs rs v x:=Agq k.p e.1
theorem c (k:Kst h0 h l) {i:Nat} {p:Prop} (e:Rep i l (aC p) (aC p) l'):p:=Agq k.p e.1
theorem zx (k:Kst h0 h l) {cs:List Value} {x:Int} (H:cZ.rep h0 x cs):cZ.rep h x cs:=cZ.upT H k.x.upT
theorem lo (k:Kst h0 h l) {i:Nat} {a:Asr} (e:Rep i l a a l'):∀ b∈a.F,h0.size<=b:=k.s.loAll i (Afr e.1)
theorem dj {l2:List Asr} (k:Kst h0 h l) {i j:Nat} {a b:Asr} (e:Rep i l a a l') (f:Rep j l b b l2) (hij:i≠j):∀ x∈a.F,x ∉ b.F:=k.s.dj i j (Afr e.1) (Afr f.1) hij
theorem e (k:Kst h0 h l) (E:Ext h h'):Kst h0 h' l:=⟨k.x.trans E,k.s.keep E.1,A04 k.p E.upT fun _ _ _ _=>by simp⟩
theorem n (k:Kst h0 h l) (E:Ext h h') (m:List Asr) (S:Sp h' h.size (fps m)) (P:Am7 h' m):Kst h0 h' (m ++ l):=⟨k.x.trans E,by rw [A8l];exact k.s.appF S E.1 k.x.1,A5l P (k.e E).p⟩
theorem nb (k:Kst h0 h l) (E:Ext h h') {t b:Nat} {c:List Value} (S:Sp h' h.size [[b]]) (V:AVv t h' b c):Kst h0 h' (aB t b c :: l):=k.n E [aB t b c] S ⟨V,trivial⟩
theorem nb2 (k:Kst h0 h l) (E:Ext h h') {t b t2 b2:Nat} {c c2:List Value} (S:Sp h' h.size [[b],[b2]]) (V:AVv t h' b c) (V2:AVv t2 h' b2 c2):Kst h0 h' (aB t b c :: aB t2 b2 c2 :: l):=k.n E [aB t b c,aB t2 b2 c2] S ⟨V,V2,trivial⟩
theorem no {α:Type} {c:Cod α} (k:Kst h0 h l) (E:Ext h h') {el:Nat} {F:List Nat} {v:Value} {x:List α} (S:Sp h' h.size [F]) (V:OwC c el h' F v x):Kst h0 h' (aO c el F v x :: l):=k.n E [aO c el F v x] S ⟨V,trivial⟩
theorem no2 {α:Type} {c:Cod α} (k:Kst h0 h l) (E:Ext h h') {er el:Nat} {F:List Nat} {Gs:List (List Nat)} {rs:List Value} {v:Value} {x:List (List α)} (S:Sp h' h.size [F]) (V:AVt c er el h' F Gs rs v x):Kst h0 h' (aO2 c er el F Gs rs v x :: l):=k.n E [aO2 c er el F Gs rs v x] S ⟨V,trivial⟩
theorem az (k:Kst h0 h l) {cs:List Value} {x:Int} (Z:cZ.rep h x cs):Kst h0 h (aZ cs x :: l):=k.n (Ext.refl h) [aZ cs x] (by exact ⟨by simp [fps,aZ],fun b hb=>by simp [fps,aZ] at hb⟩) ⟨Z,trivial⟩
theorem anil {α:Type} (c:Cod α) (el:Nat) (k:Kst h0 h l):Kst h0 h (aO c el [] (.slice none 0 0) [] :: l):=k.n (Ext.refl h) [aO c el [] (.slice none 0 0) []] (by exact ⟨by simp [fps,aO],fun b hb=>by simp [fps,aO] at hb⟩) ⟨A0o c el h,trivial⟩
theorem anil2 {α:Type} (c:Cod α) (er el:Nat) (k:Kst h0 h l):Kst h0 h (aO2 c er el [] [] [] (.slice none 0 0) [] :: l):=k.n (Ext.refl h) [aO2 c er el [] [] [] (.slice none 0 0) []] (by exact ⟨by simp [fps,aO2],fun b hb=>by simp [fps,aO2] at hb⟩) ⟨A41 c er el h,trivial⟩
theorem u (k:Kst h0 h l) {i:Nat} {a a':Asr} (e:Rep i l a a' l') (U:UpT a.F h h') (Ha:a'.P h') (hn:a'.F.Nodup) (hF:∀ x∈a'.F,x < h'.size) (hs:∀ x∈a'.F,x∈a.F∨h.size<=x):Kst h0 h' l':=by
 obtain ⟨e,rfl⟩:=e;exact ⟨k.x.thenT U (k.s.loAll i (Afr e)),by rw [Apc];exact k.s.put i (Afr e) hn U.size k.x.1 hF hs,Axh k.p k.s e U Ha⟩
theorem ub (k:Kst h0 h l) {i t b:Nat} {c c':List Value} (e:Rep i l (aB t b c) (aB t b c') l') (U:UpT [b] h h') (V:AVv t h' b c'):Kst h0 h' l':=k.u e U V (by simp [aB]) (fun x hx=>by simp [aB] at hx;subst hx;exact V.lt) fun x hx=> .inl hx
theorem sb (k:Kst h0 h l) {i t b:Nat} {c c':List Value} (e:Rep i l (aB t b c) (aB t b c') l') (U:Upd (· =b) h h') (V:AVv t h' b c') (ht:Nat.beq t 170=false):Kst h0 h' l':=k.ub e (V.stA U (AYf (Agq k.p e.1) ht) ht) V
theorem uo {α:Type} {c:Cod α} (k:Kst h0 h l) {i el:Nat} {F F':List Nat} {v v':Value} {x x':List α} (e:Rep i l (aO c el F v x) (aO c el F' v' x') l') (U:UpT F h h') (V:OwC c el h' F' v' x') (hs:∀ z∈F',z∈F∨h.size<=z):Kst h0 h' l':=k.u e U V V.nodup V.lt hs
theorem uO {α:Type} {c:Cod α} (k:Kst h0 h l) {i el:Nat} {F:List Nat} {v v':Value} {x x':List α} (e:Rep i l (aO c el F v x) (aO c el F v' x') l') (U:UpT F h h') (V:OwC c el h' F v' x'):Kst h0 h' l':=k.uo e U V fun _ h=> .inl h
theorem uo2 {α:Type} {c:Cod α} (k:Kst h0 h l) {i er el:Nat} {F F':List Nat} {Gs Gs':List (List Nat)} {rs rs':List Value} {v v':Value} {x x':List (List α)} (e:Rep i l (aO2 c er el F Gs rs v x) (aO2 c er el F' Gs' rs' v' x') l') (U:UpT F h h') (V:AVt c er el h' F' Gs' rs' v' x') (hs:∀ z∈F',z∈F∨h.size<=z):Kst h0 h' l':=k.u e U V V.nodup V.lt hs
theorem uO2 {α:Type} {c:Cod α} (k:Kst h0 h l) {i er el:Nat} {F:List Nat} {Gs Gs':List (List Nat)} {rs rs':List Value} {v v':Value} {x x':List (List α)} (e:Rep i l (aO2 c er el F Gs rs v x) (aO2 c er el F Gs' rs' v' x') l') (U:UpT F h h') (V:AVt c er el h' F Gs' rs' v' x'):Kst h0 h' l':=k.uo2 e U V fun _ h=> .inl h
theorem sel (k:Kst h0 h l) (is:List Nat) (hn:is.Nodup):Kst h0 h (AYv l is):=
  ⟨k.x,by rw [A8n];exact k.s.sel is hn,by
    have:∀ is:List Nat,Am7 h (AYv l is):=fun is=>by
      induction is with
      | nil=>exact trivial
      | cons i is ih=>exact ⟨A5k k.p i,ih⟩
    exact this is⟩
theorem m (k:Kst h0 h l) {i j:Nat} {l1:List Asr} {a a' r:Asr} (er:Rep j l r (aC True) l1) (e:Rep i l1 a a' l') (hij:i≠j) (U:UpT a.F h h') (Ha:a'.P h') (hn:a'.F.Nodup) (hF:∀ x∈a'.F,x < h'.size) (hs:∀ x∈a'.F,x∈a.F ++ r.F∨h.size<=x):Kst h0 h' l':=by
  obtain ⟨er,rfl⟩:=er;obtain ⟨e',rfl⟩:=e;have e:l[i]? =some a:=by rw [List.getElem?_set_ne (Ne.symm hij)] at e';exact e'
  have S1:Sp h h0.size (fps (l.set j (aC True))):=by
    rw [Apc];exact k.s.put j (Afr er) List.nodup_nil (Nat.le_refl _) k.x.1 (fun x hx=>by simp [aC] at hx) (fun x hx=>by simp [aC] at hx)
  refine ⟨k.x.thenT U (k.s.loAll i (Afr e)),?_,Axh (At7 k.p j) S1 e' U Ha⟩;rw [Apc,Apc];exact k.s.put2 i j (Afr e) (Afr er) hij hn U.size k.x.1 hF fun x hx=>(hs x hx).elim (fun h=>(List.mem_append.1 h).elim .inl fun h=> .inr (.inl h)) fun h=> .inr (.inr h)
theorem m2 {α:Type} {c:Cod α} (k:Kst h0 h l) {i j:Nat} {l1:List Asr} {er el:Nat} {F F' R:List Nat} {Gs Gs':List (List Nat)} {rs rs':List Value} {v v' w:Value} {x x':List (List α)} {y:List α} (er':Rep j l (aO c el R w y) (aC True) l1) (e:Rep i l1 (aO2 c er el F Gs rs v x) (aO2 c er el F' Gs' rs' v' x') l') (hij:i≠j) (U:UpT F h h') (V:AVt c er el h' F' Gs' rs' v' x') (hs:∀ z∈F',z∈F ++ R∨h.size<=z):Kst h0 h' l':=k.m er' e hij U V V.nodup V.lt hs
end Kst
end Go.Proofs.YthbndcbclhkepaaGreatDoor
namespace Go.Proofs.YthbndcbclhkepaaGreatDoor
open Go Go.QF
set_option maxRecDepth 100000
theorem BDm (c1 c2 c3:Int) (c4:Bool) (c5 d1 d2 d3:Int) (d4:Bool) (d5:Int) (w:World):(Op.equal 44 (.agg #[.int .i64 c1,.int .i64 c2,.int .i64 c3,.bool c4,.int .i64 c5]) (.agg #[.int .i64 d1,.int .i64 d2,.int .i64 d3,.bool d4,.int .i64 d5])).run Tryz.prog w= .ok (decide ((c1,c2,c3,c4,c5)=(d1,d2,d3,d4,d5))) w:=by
 show (Op.equalIn (9998 + 1 + 1) _ _ _).run _ w=_;rw [Op.equalIn];simp [Adk Tryz.underlying44,Aw1 AT1,Aw1 AWl,A2k Alj,Ay7 Anm];by_cases h1:c1=d1 <;> by_cases h2:c2=d2 <;> by_cases h3:c3=d3 <;> by_cases h4:c4=d4 <;> by_cases h5:c5=d5 <;> simp [h1,h2,h3,h4,h5]
end Go.Proofs.YthbndcbclhkepaaGreatDoor
namespace Go.QF
open Go
theorem Alw:∀ u∈([]:List Value),isOne u=true:=fun u h=>by cases h
theorem Aba {v:Value} {l:List Value} (h:isOne v=true) (H:∀ u∈l,isOne u=true):∀ u∈v :: l,isOne u=true:=fun u hu=>(List.mem_cons.1 hu).elim (fun e=>e ▸ h) (H u)
theorem A05 {α:Type} {c:Cod α}:∀ h,Al c h ([]:List α) []:=fun h=>Ay8 c h
theorem A06 {α:Type} {c:Cod α} {a:α} {cs:List Value} {L:List α} {Ls:List (List Value)} (h1:∀ h,c.rep h a cs) (H:∀ h,Al c h L Ls):∀ h,Al c h (a :: L) (cs :: Ls):=fun h=>⟨by simp [(H h).1],fun i x y hx hy=>by
  cases i with
  | zero=>simp at hx hy;subst hx;subst hy;exact h1 h
  | succ i=>exact (H h).2 i x y (by simpa using hx) (by simpa using hy)⟩
section
variable {P:Program} {B:AGt->Prop} {st:Bool} {ops:Array Oper} {rest:List Oper} {e:Env} {h:AGt} {K:Env->AGt->Prop} {d:Nat} {ty:TypeId} {pos:String} {af:Array Edge}
theorem A5m {α:Type} (c:Cod α) (L:List α) (Ls:List (List Value)) (vs:List (Nat × Value)) {t el bytes n:Nat} {z:Value} {parts:List (Nat × Operand)} (hT:SlT P t el c.k) (hz:ZeT P el z bytes) (hel:Nat.beq el 170=false) (hb:B h) (hBE:∀ h',Ext h h'->B h') (Ac:Nat.ble (n * c.k) 1000=true) (hpos:Nat.ble 1 (n * c.k)=true) (hp:(parts.map fun (i,x)=>(i,e.ev x))=vs) (hf:Instr.fill (fun j=>some (j * c.k,c.k)) ((Array.range (n * c.k)).map (z.cells[· % z.cells.size]!)) vs=some Ls.flatten.toArray) (hl:Ls.length=n) (ha:∀ h,Al c h L Ls) (H:∀ b v h',OwC c el h' [b] v L->Ext h h'->h.size<=b->b < h'.size->RL P B st ops rest (e.set d v) h' K):RL P B st ops (⟨some d,.buildSlice t n parts.toArray,ty,pos,af,none⟩ :: rest) e h K:=by
 have Ac:=Nat.le_of_ble_eq_true Ac;have hpos:=Nat.le_of_ble_eq_true hpos
 have hk:∀ r∈Ls,r.length=c.k:=fun r hr=>by
   obtain ⟨i,hi⟩:=List.getElem?_of_mem hr
   have h1:=(List.getElem?_eq_some_iff.1 hi).1
   exact c.klen ((ha h).2 i r (L[i]'(by have:=(ha h).1;omega)) hi (List.getElem?_eq_getElem _))
 have E:Ext h (h.push (.cells Ls.flatten.toArray el (0,0))):=AV0 _ _;refine Agf rfl rfl hb fun w hw=>?_;subst hw;obtain ⟨hu,i0,Aa,Ab⟩:=hT;obtain ⟨i,hi,hzz,hsz,hby⟩:=hz;rw [hi] at Aa;injection Aa with Aa;subst Aa;have h3: ¬ (n * i.size > 2 ^ 24):=by rw [Ab];omega
 have h4: ¬ (n * i.size=0):=by rw [Ab];omega
 have:(execOp e.ev ⟨some d,.buildSlice t n parts.toArray,ty,pos,af,none⟩).run P w= .ok (.value (.slice (some ⟨w.heap.size,0,none⟩) n n)) (w.alloc (.cells Ls.flatten.toArray el)):=by
   simp only [execOp,List.map_toArray]
   rw [hp]
   simp only [Instr.buildSlice,Sem.run_bind,Adk hu,Result.andThen,Ag7 hi,if_neg h3,if_neg h4,Awq hi hzz]
   have Af:Sem.run P (pure z.cells:Sem (Array Value)) w= .ok z.cells w:=rfl
   simp only [Af,Ab]
   rw [hf]
   simp [newRow]
 rw [this];have hfl:Ls.flatten.length=n * c.k:=by rw [AZ5 hk,hl]
 exact ⟨⟨rfl,rfl,rfl⟩,hBE _ E,H w.heap.size _ _ (.inr ⟨w.heap.size,Ls,rfl,⟨n,Ls.flatten.toArray,by rw [hl],by
   show (w.heap.push (.cells Ls.flatten.toArray el (0,0)))[w.heap.size]? =_
   simp,AGi,by
   have:=c.pos;have:=Nat.le_mul_of_pos_right n c.pos;unfold maxLen;omega,by simpa using hfl,hk,by rw [List.take_of_length_le (by rw [hl];show Ls.flatten.length<=_;omega)]⟩,ha _,hel⟩) E (Nat.le_refl _) ATv⟩
end
end Go.QF
namespace Go.QF
open Go
theorem A5n (l:List Value):(l.map fun r=>[r]).flatten=l:=by
 induction l with
 | nil=>rfl
 | cons a L ih=>simp [ih]
def Aqv {α:Type} (c:Cod α) (el:Nat) (h:AGt):List (List Nat)->List Value->List (List α)->Prop
  | [],[],[]=>True
  | G :: Gs,r :: rs,L :: M=>OwC c el h G r L/\Aqv c el h Gs rs M
  | _,_,_=>False
theorem Aqv.len {α:Type} {c:Cod α} {el:Nat} {h:AGt}:∀ {Gs:List (List Nat)} {rs:List Value} {M:List (List α)},Aqv c el h Gs rs M->rs.length=M.length/\Gs.length=M.length
  | [],[],[],_=>⟨rfl,rfl⟩
  | G :: Gs,r :: rs,L :: M,H=>by have:=Aqv.len H.2;simp [this.1,this.2]
theorem Aqv.get {α:Type} {c:Cod α} {el:Nat} {h:AGt}:∀ {Gs:List (List Nat)} {rs:List Value} {M:List (List α)},Aqv c el h Gs rs M-> ∀ (i:Nat) (G:List Nat) (r:Value) (L:List α),Gs[i]? =some G->rs[i]? =some r->M[i]? =some L->OwC c el h G r L
  | [],[],[],_,i,G,r,L,h1,_,_=>by simp at h1
  | G0 :: Gs,r0 :: rs,L0 :: M,H,0,G,r,L,h1,h2,h3=>by simp at h1 h2 h3;subst h1;subst h2;subst h3;exact H.1
  | G0 :: Gs,r0 :: rs,L0 :: M,H,i + 1,G,r,L,h1,h2,h3=>Aqv.get H.2 i G r L (by simpa using h1) (by simpa using h2) (by simpa using h3)
section
variable {P:Program} {B:AGt->Prop} {st:Bool} {ops:Array Oper} {rest:List Oper} {e:Env} {h:AGt} {K:Env->AGt->Prop} {d:Nat} {ty:TypeId} {pos:String} {af:Array Edge}
theorem Anr {α:Type} {c:Cod α} (Gs:List (List Nat)) (rs:List Value) (M:List (List α)) {t er el bytes n:Nat} {z:Value} {parts:List (Nat × Operand)} (hT:SlT P t er 1) (hz:ZeT P er z bytes) (h1:isOne z=true) (hel:Nat.beq er 170=false) (hb:B h) (hBE:∀ h',Ext h h'->B h') (hn:rs.length=n) (Aa:Nat.ble n 16777216=true) (hpos:Nat.ble 1 n=true) (hp:(parts.map fun (i,x)=>(i,e.ev x))=partsOf 0 rs) (hone:∀ u∈rs,isOne u=true) (hr:Aqv c el h Gs rs M) (hnd:Gs.flatten.Nodup) (H:∀ b v h',AVt c er el h' (b :: Gs.flatten) Gs rs v M->Ext h h'->(∀ z∈b :: Gs.flatten,z∈Gs.flatten∨h.size<=z)->RL P B st ops rest (e.set d v) h' K):RL P B st ops (⟨some d,.buildSlice t n parts.toArray,ty,pos,af,none⟩ :: rest) e h K:=by
 have Aa:=Nat.le_of_ble_eq_true Aa;have E:Ext h (h.push (.cells rs.toArray er (0,0))):=AV0 _ _;have HO:Abp (h.push (.cells rs.toArray er (0,0))) er 1 h.size (.slice (some ⟨h.size,0,none⟩) n n) (rs.map fun r=>[r]):=⟨n,rs.toArray,by rw [List.length_map,hn],ATv,by simp [hn],by unfold maxLen;omega,by simp [hn],fun r hr=>by obtain ⟨a,_,rfl⟩:=List.mem_map.1 hr;rfl,by rw [A5n];simp⟩
 have hlt:∀ z∈Gs.flatten,z < h.size:=fun z hz=>by
   obtain ⟨G,hG,hzG⟩:=List.mem_flatten.1 hz
   obtain ⟨i,hi⟩:=List.getElem?_of_mem hG
   have hi':=(List.getElem?_eq_some_iff.1 hi).1
   have hl:=hr.len
   exact (hr.get i G (rs[i]'AGi) (M[i]'AGi) hi (List.getElem?_eq_getElem _) (List.getElem?_eq_getElem _)).lt z hzG
 refine A35 rs hT hz h1 hb hn Aa (Nat.le_of_ble_eq_true hpos) hp hone ⟨hBE _ E,H h.size _ _ (.inr ⟨h.size,rfl,?_,HO,hel,hr.len.1,hr.len.2,fun i G r L a1 a2 a3=>(hr.get i G r L a1 a2 a3).ext E⟩) E fun z hz=>?_⟩
 ·exact List.nodup_cons.2 ⟨fun hm=>by have:=hlt _ hm;omega,hnd⟩
 ·rcases List.mem_cons.1 hz with rfl | h2
  ·exact .inr (Nat.le_refl _)
  ·exact .inl h2
end
end Go.QF
namespace Go.Proofs.YthbndcbclhkepaaGreatDoor
open Go Go.QF
def aT (F:List Nat):Asr:=⟨F,fun h=> ∀ b∈F,Akh h b,fun {G h h'} U d H b hb=>by
  obtain ⟨o,h1,h2⟩:=H b hb;exact ⟨o,(U.1.2 b (Array.getElem?_eq_some_iff.1 h1).1 (d b hb)).trans h1,h2⟩⟩
theorem BDn {a b c n x:Int} (h:gI [a,b,c] n=some x) (w:World):(Instr.index 160 (.agg #[.int .i64 a,.int .i64 b,.int .i64 c]) (.int .i64 n)).run Tryz.prog w= .ok (.int .i64 x) w:=by
 obtain ⟨i,rfl,hi⟩:=AZu h;have:=(List.getElem?_eq_some_iff.1 hi).1;rcases (show i=0∨i=1∨i=2 by simp at this;omega) with rfl | rfl | rfl <;> (cases hi;show _=_;kernel_rfl)
namespace Kst
variable {h0 h h':AGt} {l l':List Asr}
theorem a0 (k:Kst h0 h l):Kst h0 h (aT [] :: l):=k.n (Ext.refl h) [aT []] (by exact ⟨by simp [fps,aT],fun b hb=>by simp [fps,aT] at hb⟩) ⟨fun b hb=>by simp at hb,trivial⟩
theorem grab {α:Type} {c:Cod α} {F R:List Nat} {j el:Nat} {w:Value} {y:List α} (k:Kst h0 h (aT F :: l)) (e:Rep j l (aO c el R w y) (aC True) l'):Kst h0 h (aT (F ++ R) :: l'):=by
 obtain ⟨e,rfl⟩:=e;have HR:OwC c el h R w y:=Agq k.p.2 e;have e1:(fps (aT F :: l))[j + 1]? =some R:=(Afr e:(fps l)[j]? =some R);have e0:(fps (aT F :: l))[0]? =some F:=rfl;have hd:=k.s.dj 0 (j + 1) e0 e1 AGi;have hF:F.Nodup:=(List.nodup_append.1 k.s.1).1;have:=k.s.put2 0 (j + 1) (F':=F ++ R) e0 e1 AGi (List.nodup_append.2 ⟨hF,HR.nodup,fun a ha b hb hab=>hd a ha (hab ▸ hb)⟩) (Nat.le_refl _) k.x.1 (fun x hx=>(List.mem_append.1 hx).elim (fun h=>(k.s.lo 0 e0 x h).2) fun h=>HR.lt x h) (fun x hx=>(List.mem_append.1 hx).elim .inl fun h=> .inr (.inl h));refine ⟨k.x,?_,fun b hb=>(List.mem_append.1 hb).elim (k.p.1 b) (HR.notD b),At7 k.p.2 j⟩
 have e2:fps (aT (F ++ R) :: l.set j (aC True))=((fps (aT F :: l)).set (j + 1) []).set 0 (F ++ R):=by
   show (F ++ R) :: fps (l.set j (aC True))=_
   rw [Apc];rfl
 rw [e2];exact this
theorem ndT {F:List Nat} (k:Kst h0 h (aT F :: l)):F.Nodup:=(List.nodup_append.1 k.s.1).1
theorem lit {α:Type} {c:Cod α} {er el:Nat} {F F':List Nat} {Gs:List (List Nat)} {rs:List Value} {v:Value} {x:List (List α)} (k:Kst h0 h (aT F :: l)) (E:Ext h h') (V:AVt c er el h' F' Gs rs v x) (hs:∀ z∈F',z∈F∨h.size<=z):Kst h0 h' (aO2 c er el F' Gs rs v x :: l):=
  k.u p0 (E.upT.mono (fun x hx=>by simp at hx) fun x hx _=>k.p.1 x hx) V V.nodup V.lt hs
end Kst
end Go.Proofs.YthbndcbclhkepaaGreatDoor
namespace Go.QF
open Go
section
variable {P:Program} {B:AGt->Prop} {st:Bool} {ops:Array Oper} {rest:List Oper} {e:Env} {h:AGt} {K:Env->AGt->Prop} {d:Nat} {ty:TypeId} {pos:String} {af:Array Edge}
theorem Aqc {t er bytes:Nat} {z u v:Value} {parts:List (Nat × Operand)} (hT:SlT P t er 1) (hz:ZeT P er z bytes) (h1:isOne z=true) (hb:B h) (hBE:∀ h',Ext h h'->B h') (hp:(parts.map fun (i,x)=>(i,e.ev x))=partsOf 0 [u,v]) (hu:isOne u=true) (hv:isOne v=true) (H:∀ b h',AVv er h' b [u,v]->Ext h h'->Sp h' h.size [[b]]->RL P B st ops rest (e.set d (.slice (some ⟨b,0,none⟩) 2 2)) h' K):RL P B st ops (⟨some d,.buildSlice t 2 parts.toArray,ty,pos,af,none⟩ :: rest) e h K:=by
  have E:Ext h (h.push (.cells [u,v].toArray er (0,0))):=AV0 _ _;exact A35 [u,v] hT hz h1 hb rfl AGk AGk hp (fun x hx=>by simp at hx;rcases hx with rfl | rfl <;> assumption) ⟨hBE _ E,H h.size _ (by unfold AVv;simp) E (AX2 (Nat.le_refl _) ATv)⟩
theorem Ame {x i:Operand} {t er b:Nat} {κ:IntKind} {n:Int} (k:Nat) (hT:SlT P t er 1) (hx:e.ev x= .slice (some ⟨b,0,none⟩) 2 2) (hi:e.ev i= .int κ n) (hn:n=(k:Int)) (hk:k < 2) (H:RL P B st ops rest (e.set d (.pointer (some ⟨b,k,none⟩))) h K):RL P B st ops (⟨some d,.indexAddr t x i,ty,pos,af,none⟩ :: rest) e h K:=by
  subst hn;refine Ayw hT hx hi AGi AGi ?_;have:(⟨b,0,none⟩:Addr).add ((k:Int).toNat * 1)=⟨b,k,none⟩:=by simp [Addr.add];intro h;exact h.symm
  rw [this];exact H
end
end Go.QF
namespace Go.QF
open Go
theorem A5o {h:AGt} {el g:Nat} {v:Value} {Ls:List (List Value)} (H:Abp h el 1 g v Ls):AV5 h el g v Ls.flatten:=by
  obtain ⟨cap,cur,rfl,h1,h2,h3,h4,h5,h6⟩:=H;have hl:=AZ5 h5;exact ⟨cap,cur,by rw [hl,Nat.mul_one],h1,by rw [hl];omega,h3,AGi,by rw [hl];exact h6⟩
theorem BBj {κ:IntKind} {h:AGt} {L:List Int} {Ls:List (List Value)} (H:Al (cI κ) h L Ls):Ls=L.map fun x=>[.int κ x]:=by
  refine List.ext_getElem? fun i=>?_;rw [List.getElem?_map]
  rcases Nat.lt_or_ge i L.length with hi | hi
  · obtain ⟨cs,h1,h2⟩:=H.get (List.getElem?_eq_getElem hi);rw [h1,List.getElem?_eq_getElem hi];obtain rfl:cs=_:=h2;rfl
  · rw [List.getElem?_eq_none (by rw [H.1];exact hi),List.getElem?_eq_none hi];rfl
theorem BBk {κ:IntKind} {h:AGt} (L:List Int):Al (cI κ) h L (L.map fun x=>[.int κ x]):=⟨ATv,fun i cs a h1 h2=>by
  rw [List.getElem?_map,h2] at h1;injection h1 with h1;exact h1 ▸ rfl⟩
theorem BDo (κ:IntKind) (L:List Int):(L.map fun x=>[Value.int κ x]).flatten=L.map (.int κ):=by
  induction L with
  | nil=>rfl
  | cons a L ih=>simp [ih]
theorem SlC.drop {α:Type} {c:Cod α} {h:AGt} {a:Option Addr} {n cap k:Nat} {L:List α} (H:SlC c h (.slice a n cap) L) (hk:k<=n) (hc:n<=cap):
    SlC c h (.slice (if cap=k then a else a.map (·.add (k * c.k))) (n - k) (cap - k)) (L.drop k):=by
  obtain ⟨Ls,⟨a',cap',hv,hcell⟩,HA⟩:=H;injection hv with h1 h2 h3;subst h1;subst h2;subst h3
  refine ⟨Ls.drop k,⟨_,_,by rw [List.length_drop],fun i r hr=>?_⟩,by simp [HA.1],fun i cs x h1 h2=>?_⟩
  · rw [List.getElem?_drop] at hr;have hl:=(List.getElem?_eq_some_iff.1 hr).1;obtain ⟨b,o,rfl,h2⟩:=hcell _ r hr
    refine ⟨b,o + k * c.k,?_,fun j x hx=>?_⟩
    · rw [if_neg AGi];simp [Addr.add]
    · have:=h2 j x hx;rwa [Nat.add_mul,<- Nat.add_assoc] at this
  · rw [List.getElem?_drop] at h1 h2;exact HA.2 _ cs x h1 h2
theorem SlC.len {α:Type} {c:Cod α} {h:AGt} {v:Value} {L:List α} (H:SlC c h v L):∃ a cap,v= .slice a L.length cap:=by
  obtain ⟨Ls,⟨a,cap,rfl,_⟩,HA⟩:=H;exact ⟨a,cap,by rw [HA.1]⟩
theorem OwC.cap {α:Type} {c:Cod α} {el:Nat} {h:AGt} {F:List Nat} {v:Value} {L:List α} (H:OwC c el h F v L):Af1 v:=by
  rcases H with ⟨rfl,rfl,_⟩ | ⟨g,Ls,rfl,⟨cap,cur,rfl,_,h2,_⟩,_⟩
  · exact Ap4
  · exact ⟨_,_,_,rfl,h2⟩
theorem AVt.rowCap {α:Type} {c:Cod α} {er el:Nat} {h:AGt} {F:List Nat} {Gs:List (List Nat)} {rs:List Value} {v:Value} {M:List (List α)} (H:AVt c er el h F Gs rs v M) {n:Int} {r:Value} {L:List α} (hr:rs[n.toNat]? =some r) (hL:gI M n=some L):Af1 r:=by
  obtain ⟨m,rfl,hL0⟩:=AZu hL;rw [Int.toNat_natCast] at hr;obtain ⟨G,_,HR,_⟩:=H.row hr hL0;exact HR.cap
section
variable {P:Program} {B:AGt->Prop} {st:Bool} {ops:Array Oper} {rest:List Oper} {e:Env} {h:AGt} {K:Env->AGt->Prop} {d d' d2:Nat} {ty ty2 ty3:TypeId} {pos pos2 pos3:String} {af af2 af3:Array Edge}
theorem A2y {α:Type} {c:Cod α} {x y:Operand} {t el:Nat} {v:Value} {L:List α} {κ:IntKind} {k:Int} {h0:AGt} (hT:SlT P t el c.k) (hx:e.ev x=v) (HS:SlC c h0 v L) (hc:Af1 v) (hy:e.ev y= .int κ k) (hk:0<=k/\k<=L.length) (H:∀ v',(∀ {h1},SlC c h1 v L->SlC c h1 v' (L.drop k.toNat))->Af1 v'->RL P B st ops rest (e.set d v') h K):RL P B st ops (⟨some d,.slice t x (some y) none none,ty,pos,af,none⟩ :: rest) e h K:=by
  obtain ⟨m,rfl⟩:∃ m:Nat,k=m:=⟨k.toNat,AGi⟩;obtain ⟨a,n,cp,rfl,hnc⟩:=hc;obtain ⟨a',c',hv⟩:=HS.len;injection hv with _ hn _;exact Awu hT hx hy AGi hnc (H _ (fun H1=>H1.drop AGi hnc) ⟨_,_,_,rfl,AGi⟩)
theorem A8o {x s y i:Operand} {t tn er0 er el bytes tr tl:Nat} {v r:Value} {κ κ' kn κz:IntKind} {n k:Int} {F:List Nat} {Gs:List (List Nat)} {rs:List Value} {M:List (List Int)} {L:List Int} (hT:SlT P t el 1) (hN:Alh P tn kn) (hz:ZeT P el (.int κz 0) bytes) (hTr:SlT P tr er0 1) (htl:NaT P tl)
    (HO:AVt (cI κz) er el h F Gs rs v M) (hr:rs[n.toNat]? =some r) (hL:gI M n=some L) (hb0:B h) (hbB:∀ h',UpT F h h'->B h') (hs:e.ev s=r) (hy:e.ev y= .int κ' k) (hx:∀ w,(e.set d' w).ev x=v) (hi:∀ w,(e.set d' w).ev i= .int κ n) (hdd:Nat.beq d' d2=false) (hby:bytes<=1000) (hk:0 < L.length/\L.length<=100000/\0 < k/\k<=100000)
    (H:∀ q F' Gs' rs' v' h',AVt (cI κz) er el h' F' Gs' rs' v (sI M n (L ++ List.replicate k.toNat 0))->UpT F h h'->(∀ x∈F',x∈F∨h.size<=x)->RL P B st ops rest ((e.set d' v').set d2 q) h' K):
    RL P B st ops (⟨some d',.call ⟨.builtin .append,#[s,y],#[t,tn]⟩,ty,pos,af,none⟩ :: ⟨some d2,.indexAddr tr x i,ty2,pos2,af2,none⟩ :: ⟨none,.store tl (.tmp d2) (.tmp d'),ty3,pos3,af3,none⟩ :: rest) e h K:=by
  obtain ⟨m,rfl,hL0⟩:=AZu hL;obtain ⟨k,rfl⟩:∃ j:Nat,k=j:=⟨k.toNat,AGi⟩;rw [Int.toNat_natCast] at hr;obtain ⟨G,hG,HR,hGF⟩:=HO.row hr hL0;have hndF:=HO.notD
  rcases HR with ⟨rfl,_⟩ | ⟨g,Ls,rfl,h2,h3,h4⟩
  · simp at hk
  obtain rfl:=BBj h3;have HA:=A5o h2;rw [BDo] at HA;have hmul:(L.length + k) * bytes<=200000 * 1000:=Nat.mul_le_mul AGi hby;refine BA5 hT hN hz rfl hb0 hs HA hy AGi (by rw [List.length_map];omega) (by rw [List.length_map];omega) fun v1 g' h1 HO1 hg' U hc=>?_;obtain ⟨cur,hc⟩:=hc;have U1:UpT [g] h h1:=Ah9 U ATv (fun b hb _=>hndF b (hGF b hb)) ⟨_,hc,h4⟩;have e1:(L.map (Value.int κz) ++ List.replicate k (Value.int κz 0)).map (fun x=>[x])=(L ++ List.replicate k 0).map fun x=>[Value.int κz x]:=by simp
  have HK:=Au8 HO1;rw [e1] at HK;refine ⟨hbB _ (U1.mono hGF fun x hx _=>hndF x hx),?_⟩;have HR1:OwC (cI κz) el h1 [g'] v1 (L ++ List.replicate k 0):= .inr ⟨g',_,rfl,HK,BBk _,h4⟩
  exact At4 hTr htl HO hL0 hG HR1 U1 (fun x hx=>by
    rw [List.mem_singleton.1 hx]
    rcases hg' with rfl | rfl
    · exact .inl ATv
    · exact .inr (Nat.le_refl _)) (hx v1) (hi v1) (fun w=>by
    show (bif Nat.beq d' d2 then _ else (bif Nat.beq d' d' then _ else _))=_;rw [hdd,Nat.beq_eq.mpr rfl];rfl) fun q F' Gs' rs' h' H1 H2 H3=>H q F' Gs' rs' v1 h' H1 H2 H3
end
end Go.QF
namespace Go.Proofs.YthbndcbclhkepaaGreatDoor
open Go Go.QF
section
variable {P:Program} {B:AGt->Prop} {st:Bool} {ops:Array Oper} {rest:List Oper} {e:Env} {h h0:AGt} {C:Env->AGt->Prop} {l l':List Asr} {d d2:Nat} {ty ty2:TypeId} {pos pos2:String} {af af2:Array Edge}
theorem AUs {x:Operand} {t f off ft b o tb tl:Nat} {c:List Value} {u:Value} (hf:FdT P t f off ft) (htl:NaT P tl) (HB:AVv tb h b c) (i:Nat) (hc:c[i]? =some u) (H:RL P B false ops rest ((e.set d (.pointer (some ⟨b,i,none⟩))).set d2 u) h C) (hx:e.ev x= .pointer (some ⟨b,o,none⟩):=by rfl) (hi:o + off=i:=by rfl) (hs:((P.info? ft).map fun q=>Nat.ble 1 q.size)=some true:=by kernel_rfl):
    RL P B false ops (⟨some d,.fieldAddr t x f,ty,pos,af,none⟩ :: ⟨some d2,.load tl (.tmp d),ty2,pos2,af2,none⟩ :: rest) e h C:=by
  subst hi;obtain ⟨q,hq,hs2⟩:=Option.map_eq_some_iff.1 hs;have hs3:=Nat.le_of_ble_eq_true hs2;exact AX1 (fs:=q.size) hf (by rw [hq];rfl) AGi hx (AT3 htl (Env.set_same _ _ _) (HB.cell hc) H)
theorem AUh {α:Type} {c:Cod α} {x i:Operand} {t el0 er el tl:Nat} {F:List Nat} {Gs:List (List Nat)} {rs:List Value} {v:Value} {M:List (List α)} {κ:IntKind} {n:Int} {L:List α} (hT:SlT P t el0 1) (htl:NaT P tl) (HO:AVt c er el h F Gs rs v M) (ha:gI M n=some L) (H:∀ p r,rs[n.toNat]? =some r->RL P B false ops rest ((e.set d p).set d2 r) h C) (hx:e.ev x=v:=by rfl) (hi:e.ev i= .int κ n:=by rfl):RL P B false ops (⟨some d,.indexAddr t x i,ty,pos,af,none⟩ :: ⟨some d2,.load tl (.tmp d),ty2,pos2,af2,none⟩ :: rest) e h C:=
  AVf hT hx HO hi ha fun b r _ hr hc=>AT3 htl (Env.set_same _ _ _) hc (H _ r hr)
theorem AWr {κ':IntKind} {x i:Operand} {t el0 er el tl:Nat} {F:List Nat} {Gs:List (List Nat)} {rs:List Value} {v r:Value} {M:List (List Int)} {κ:IntKind} {m n:Int} {L:List Int} {a:Int} (hT:SlT P t el0 1) (htl:NaT P tl) (HO:AVt (cI κ') er el h F Gs rs v M) (hr:rs[m.toNat]? =some r) (hL:gI M m=some L) (ha:gI L n=some a) (H:∀ p,RL P B false ops rest ((e.set d p).set d2 (.int κ' a)) h C) (hx:e.ev x=r:=by rfl) (hi:e.ev i= .int κ n:=by rfl):RL P B false ops (⟨some d,.indexAddr t x i,ty,pos,af,none⟩ :: ⟨some d2,.load tl (.tmp d),ty2,pos2,af2,none⟩ :: rest) e h C:=
  AWo (m:=m) hT hx HO hr hL hi ha fun g hG=>by
    obtain ⟨cs,h1,h2⟩:=HO.cells hG hL ha;obtain rfl:=h1;exact AT3 htl (Env.set_same _ _ _) (h2 0 _ rfl) (H _)
theorem AZv {κ':IntKind} {x i yo:Operand} {t el0 er el tl j:Nat} {F:List Nat} {Gs:List (List Nat)} {rs:List Value} {v r:Value} {M:List (List Int)} {κ:IntKind} {m n y:Int} {L:List Int} {a:Int} (k:Kst h0 h l) (p:Rep j l (aO2 (cI κ') er el F Gs rs v M) (aO2 (cI κ') er el F Gs rs v (sI M m (sI L n y))) l') (hT:SlT P t el0 1) (htl:NaT P tl) (hr:rs[m.toNat]? =some r) (hL:gI M m=some L) (ha:gI L n=some a) (hy:∀ q,(e.set d q).ev yo= .int κ' y) (H:∀ q h',Kst h0 h' l'->RL P B st ops rest (e.set d q) h' C) (hx:e.ev x=r:=by rfl) (hi:e.ev i= .int κ n:=by rfl):RL P B st ops (⟨some d,.indexAddr t x i,ty,pos,af,none⟩ :: ⟨none,.store tl (.tmp d) yo,ty2,pos2,af2,none⟩ :: rest) e h C:=by
  have HO:AVt (cI κ') er el h F Gs rs v M:=Agq k.p p.1;refine AWo (m:=m) hT hx HO hr hL hi ha fun g hG=>?_;exact Adt (m:=m) (Ads (n:=n.toNat) (g:=g) htl (show (e.set d (.pointer (some ⟨g,n.toNat * 1,none⟩))).ev (.tmp d)=_ from Env.set_same _ _ _) (hy _) rfl) HO hG hL ha (show (cI κ').rep _ y _ from rfl) fun h' I U=>H _ _ (k.uO2 p U I)
theorem Asp {κ':IntKind} {x i:Operand} {t el0 tl:Nat} {v:Value} {κ:IntKind} {n:Int} {L:List Int} {a:Int} {h1:AGt} (hT:SlT P t el0 1) (htl:NaT P tl) (HS:SlC (cI κ') h1 v L) (E:Ext h1 h) (ha:gI L n=some a) (H:∀ p,RL P B false ops rest ((e.set d p).set d2 (.int κ' a)) h C) (hx:e.ev x=v:=by rfl) (hi:e.ev i= .int κ n:=by rfl):RL P B false ops (⟨some d,.indexAddr t x i,ty,pos,af,none⟩ :: ⟨some d2,.load tl (.tmp d),ty2,pos2,af2,none⟩ :: rest) e h C:=
  Adl (c:=cI κ') hT hx HS hi ha fun b o cs hr hc=>by
    obtain rfl:=hr;exact AT3 htl (Env.set_same _ _ _) (ATo (hc 0 _ rfl) E) (H _)
theorem Adn {α:Type} {c:Cod α} {x i:Operand} {t el0 tl:Nat} {v:Value} {κ:IntKind} {n:Int} {M:List (List α)} {L:List α} {h1:AGt} (hT:SlT P t el0 1) (htl:NaT P tl) (HS:AXs c h1 v M) (E:Ext h1 h) (ha:gI M n=some L) (H:∀ p r,SlC c h1 r L->RL P B false ops rest ((e.set d p).set d2 r) h C) (hx:e.ev x=v:=by rfl) (hi:e.ev i= .int κ n:=by rfl):RL P B false ops (⟨some d,.indexAddr t x i,ty,pos,af,none⟩ :: ⟨some d2,.load tl (.tmp d),ty2,pos2,af2,none⟩ :: rest) e h C:=
  Am2 hT hx HS hi ha fun b o r hc hs=>AT3 htl (Env.set_same _ _ _) (ATo hc E) (H _ r hs)
theorem Ac1 {x:Operand} {tb b:Nat} {z:Int} {cs:List Value} (zf:cZ.rep h z cs) (HB:AVv tb h b cs) (H:RL Tryz.prog B false ops rest (e.set d (.agg cs.toArray)) h C) (hx:e.ev x= .pointer (some ⟨b,0,none⟩):=by rfl):RL Tryz.prog B false ops (⟨some d,.load 93 x,ty,pos,af,none⟩ :: rest) e h C:=
  Acx cs AUa (cZ.klen zf) hx HB.agg H
theorem AYh {x y:Operand} {tb b i:Nat} {z z':Int} {c c':List Value} (k:Kst h0 h l) (p:Rep i l (aB tb b c) (aB tb b c') l') (zo:cZ.rep h z c) (zn:cZ.rep h z' c') (H:∀ h',Kst h0 h' l'->RL Tryz.prog B st ops rest e h' C) (hx:e.ev x= .pointer (some ⟨b,0,none⟩):=by rfl) (hy:e.ev y= .agg c'.toArray:=by rfl) (ht:Nat.beq tb 170=false:=by rfl):
    RL Tryz.prog B st ops (⟨none,.store 93 x y,ty,pos,af,none⟩ :: rest) e h C:=
  AU0 c' AUa (cZ.klen zn) (cZ.klen zo) hx hy (cZ.one zn) (Agq k.p p.1) fun h' I U=>H h' (k.sb p U I ht)
theorem AYy {x:Operand} {t:Nat} {v:Value} (k:Kst h0 h l) (c:List Value) (H:∀ b h',Ext h h'->Kst h0 h' (aB t b c :: l)->RL P (fun _=>True) st ops rest (e.set d (.pointer (some ⟨b,0,none⟩))) h' C) (hx:e.ev x=v:=by rfl) (hl:v.cells=c.toArray:=by rfl):
    RL P (fun _=>True) st ops (⟨some d,.box t x,ty,pos,af,none⟩ :: rest) e h C:=
  A45 c trivial (fun _ _=>trivial) hx hl fun b h' V E S=>H b h' E (k.nb E S V)
theorem AVr {t bytes:Nat} {z:Value} (k:Kst h0 h l) (c:List Value) (hz:ZeT P t z bytes) (H:∀ b h',Ext h h'->Kst h0 h' (aB t b c :: l)->RL P (fun _=>True) st ops rest (e.set d (.pointer (some ⟨b,0,none⟩))) h' C) (hl:z.cells=c.toArray:=by rfl):
    RL P (fun _=>True) st ops (⟨some d,.alloc t,ty,pos,af,none⟩ :: rest) e h C:=
  Asb c hz hl trivial (fun _ _=>trivial) fun b h' V E S=>H b h' E (k.nb E S V)
theorem AW0 {f:FuncId} {xs:List Operand} {ts:Array TypeId} {a:List Value} {v:Value} (k:Kst h0 h l) (HC:ATs P f a.toArray h fun x h'=>Ext h h'/\x=v) (H:∀ h',Ext h h'->Kst h0 h' l->RL P (fun _=>True) st ops rest (e.set d v) h' C) (hxs:xs.map e.ev=a:=by rfl):
    RL P (fun _=>True) st ops (⟨some d,.call ⟨.value (.func f),xs.toArray,ts⟩,ty,pos,af,none⟩ :: rest) e h C:=
  AXm trivial (fun _ _=>trivial) hxs HC fun x h' E hk=>by subst hk;exact H h' E (k.e E)
theorem Af9 {f:FuncId} {xs:List Operand} {ts:Array TypeId} {a:List Value} {r:Int} (k:Kst h0 h l) (HC:ATs P f a.toArray h fun x h'=>Ext h h'/\ ∃ x0:Value,x=x0/\ZZ h' x0 r) (H:∀ cs h',Ext h h'->Kst h0 h' (aZ cs r :: l)->RL P (fun _=>True) st ops rest (e.set d (.agg cs.toArray)) h' C) (hxs:xs.map e.ev=a:=by rfl):
    RL P (fun _=>True) st ops (⟨some d,.call ⟨.value (.func f),xs.toArray,ts⟩,ty,pos,af,none⟩ :: rest) e h C:=
  AXm trivial (fun _ _=>trivial) hxs HC fun x h' E hk=>by
    obtain ⟨x0,rfl,Z⟩:=hk;obtain ⟨cs,rfl,Z2⟩:=Z.cs;exact H cs h' E ((k.e E).az Z2)
theorem BDp {α:Type} {c:Cod α} {el:Nat} {f:FuncId} {xs:List Operand} {ts:Array TypeId} {a:List Value} {r:List α} (k:Kst h0 h l) (HC:ATs P f a.toArray h fun x h'=>Ext h h'/\ ∃ (x0:Value) (F:List Nat),x=x0/\OwC c el h' F x0 r/\Sp h' (Array.size h) [F]) (H:∀ F v h',Ext h h'->Kst h0 h' (aO c el F v r :: l)->RL P (fun _=>True) st ops rest (e.set d v) h' C) (hxs:xs.map e.ev=a:=by rfl):
    RL P (fun _=>True) st ops (⟨some d,.call ⟨.value (.func f),xs.toArray,ts⟩,ty,pos,af,none⟩ :: rest) e h C:=
  AXm trivial (fun _ _=>trivial) hxs HC fun x h' E hk=>by
    obtain ⟨x0,F,rfl,I,S⟩:=hk;exact H F x h' E (k.no E S I)
theorem Ahe {α:Type} {c:Cod α} {er el:Nat} {f:FuncId} {xs:List Operand} {ts:Array TypeId} {a:List Value} {r:List (List α)} (k:Kst h0 h l) (HC:ATs P f a.toArray h fun x h'=>Ext h h'/\ ∃ (x0:Value) (F:List Nat) (Gs:List (List Nat)) (rs:List Value),x=x0/\AVt c er el h' F Gs rs x0 r/\Sp h' (Array.size h) [F]) (H:∀ F Gs rs v h',Ext h h'->Kst h0 h' (aO2 c er el F Gs rs v r :: l)->RL P (fun _=>True) st ops rest (e.set d v) h' C) (hxs:xs.map e.ev=a:=by rfl):
    RL P (fun _=>True) st ops (⟨some d,.call ⟨.value (.func f),xs.toArray,ts⟩,ty,pos,af,none⟩ :: rest) e h C:=
  AXm trivial (fun _ _=>trivial) hxs HC fun x h' E hk=>by
    obtain ⟨x0,F,Gs,rs,rfl,I,S⟩:=hk;exact H F Gs rs x h' E (k.no2 E S I)
theorem Agr {x:Operand} {tb b:Nat} {z:Int} {cs:List Value} {a:AGt} (zf:cZ.rep h z cs) (U:UpT [] a h) (HB:AVv tb a b cs) (H:RL Tryz.prog (fun h'=>UpT [] a h') true ops rest (e.set d (.agg cs.toArray)) h C) (hx:e.ev x= .pointer (some ⟨b,0,none⟩):=by rfl):RL Tryz.prog (fun h'=>UpT [] a h') true ops (⟨some d,.load 93 x,ty,pos,af,none⟩ :: rest) e h C:=
  Aa5 (B:=fun h'=>UpT [] a h') cs AUa (cZ.klen zf) hx U (fun h' hb=>(HB.ext hb.ext).agg) H
theorem BDq {f:FuncId} {xs:List Operand} {ts:Array TypeId} {a:List Value} {v:Value} {g:AGt} (k:Kst h0 h l) (U:UpT [] g h) (HC:ATs P f a.toArray h fun x h'=>Ext h h'/\x=v) (H:∀ h',Ext h h'->Kst h0 h' l->UpT [] g h'->RL P (fun h'=>UpT [] g h') st ops rest (e.set d v) h' C) (hxs:xs.map e.ev=a:=by rfl):
    RL P (fun h'=>UpT [] g h') st ops (⟨some d,.call ⟨.value (.func f),xs.toArray,ts⟩,ty,pos,af,none⟩ :: rest) e h C:=
  AXm (B:=fun h'=>UpT [] g h') U (fun _ E=>U.thenE E) hxs HC fun x h' E hk=>by subst hk;exact H h' E (k.e E) (U.thenE E)
theorem AX5 {f:FuncId} {xs:List Operand} {ts:Array TypeId} {a:List Value} {r:Int} {g:AGt} (k:Kst h0 h l) (U:UpT [] g h) (HC:ATs P f a.toArray h fun x h'=>Ext h h'/\ ∃ x0:Value,x=x0/\ZZ h' x0 r) (H:∀ cs h',Ext h h'->Kst h0 h' (aZ cs r :: l)->UpT [] g h'->RL P (fun h'=>UpT [] g h') st ops rest (e.set d (.agg cs.toArray)) h' C) (hxs:xs.map e.ev=a:=by rfl):
    RL P (fun h'=>UpT [] g h') st ops (⟨some d,.call ⟨.value (.func f),xs.toArray,ts⟩,ty,pos,af,none⟩ :: rest) e h C:=
  AXm (B:=fun h'=>UpT [] g h') U (fun _ E=>U.thenE E) hxs HC fun x h' E hk=>by
    obtain ⟨x0,rfl,Z⟩:=hk;obtain ⟨cs,rfl,Z2⟩:=Z.cs;exact H cs h' E ((k.e E).az Z2) (U.thenE E)
end
section
variable {P:Program} {Q:Exit->Env->AGt->Prop} {e:Env} {h h0:AGt}
theorem AX6 {c:Code} {X S E R:Type} {body:S->Option (S ⊕ E)} {fuel:Nat} {f:E->Option R} {r:R} (m:Nat) (D:X->S) (x0:X) (hp:(iter body fuel (D x0)).bind f=some r) (live:X->List (Nat × Value)) (A:X->List Asr) (k:Kst h0 h (A x0)) (hl:Al9 (live x0) e)
    (H:∀ x s h' y,Kst h0 h' (A x)->body (D x)=some y->(∀ z,y= .inr z->f z=some r)->W P c (Agd (fun e' h''=> ∃ x',y= .inl (D x')/\Kst h0 h'' (A x')/\Al9 (live x') e') Q) (setL (live x) (mix m s e)) h') (hm:Aod m c=true:=by kernel_rfl):W P (.loop c) Q e h:=by
  obtain ⟨ex,hL,hp'⟩:=AGn hp;refine AX0 m live (fun k x h'=>iter body k (D x)=some ex/\Kst h0 h' (A x)) hm fuel x0 ⟨hL,k⟩ hl fun k x s h' hk=>?_;obtain ⟨hk,K⟩:=hk;obtain ⟨k',y,rfl,hb,hr⟩:=A2m hk;refine W.mono (fun ex' e' h'' hq=>?_) (H x s h' y K hb fun z hz=>by subst hz;obtain rfl:z=ex:=hr;exact hp');cases ex' <;> first | exact hq | skip
  obtain ⟨x',rfl,h2,h3⟩:=hq;exact ⟨k',x',Nat.lt_succ_self _,⟨hr,h2⟩,h3⟩
theorem AYd {c:Code} {S E R:Type} {body:S->Option (S ⊕ E)} {fuel:Nat} {f:E->Option R} {r:R} {x0:S} (m:Nat) (hp:(iter body fuel x0).bind f=some r) (live:S->List (Nat × Value)) (A:S->List Asr) (k:Kst h0 h (A x0)) (hl:Al9 (live x0) e) (H:∀ x s h' y,Kst h0 h' (A x)->body x=some y->(∀ z,y= .inr z->f z=some r)->W P c (Agd (fun e' h''=> ∃ x',y= .inl x'/\Kst h0 h'' (A x')/\Al9 (live x') e') Q) (setL (live x) (mix m s e)) h') (hm:Aod m c=true:=by kernel_rfl):W P (.loop c) Q e h:=
  AX6 m id x0 hp live A k hl H hm
end
end Go.Proofs.YthbndcbclhkepaaGreatDoor
namespace Go.Proofs.YthbndcbclhkepaaGreatDoor
open Go Go.QF
set_option maxRecDepth 100000
theorem Aec {a b q r:Int} (hb:b≠0) (h:a=b * q + r) (h0:0<=r) (h1:r < b.natAbs):a / b=q/\a % b=r:=by
 have hr:r % b=r:=by
   rcases Amb 0 b with hp | hn
   · exact Int.emod_eq_of_lt h0 AGi
   · rw [<- Int.emod_neg];exact Int.emod_eq_of_lt h0 AGi
 have hm:a % b=r:=by rw [h,Int.add_comm,Int.add_mul_emod_self_left];exact hr
 refine ⟨?_,hm⟩;have h2:=Int.mul_ediv_add_emod a b;rw [hm] at h2;have h3:b * (a / b)=b * q:=by omega
 exact Int.eq_of_mul_eq_mul_left hb h3
theorem Avi {z:Int}:AYc z < 0↔z < 0:=by
 unfold AYc;split
 ·omega
 ·split <;> omega
theorem BBl {na nb:Bool} {A B:Nat} (hB:B≠0) (h: ¬ sgn na (A % B) < 0):sgn na A / sgn nb B=sgn (!(na == nb)) (A / B)/\sgn na A % sgn nb B=sgn na (A % B):=by
 have h1:=Nat.div_add_mod A B;have hl:=Nat.mod_lt A (Nat.pos_of_ne_zero hB);obtain ⟨q,hq⟩:∃ q,A / B=q:=⟨_,rfl⟩;obtain ⟨r,hr⟩:∃ r,A % B=r:=⟨_,rfl⟩;rw [hq,hr] at h1;rw [hr] at hl h;rw [hq,hr];have h2:(A:Int)=(B:Int) * q + r:=by rw [<- h1];simp
 refine Aec (by cases nb <;> simp [sgn] <;> omega) ?_ AGi (by cases na <;> cases nb <;> simp only [sgn] at h ⊢ <;> simp at h ⊢ <;> omega);cases na <;> cases nb <;> simp [sgn] at h ⊢ <;> grind
theorem BBm {na nb:Bool} {A B:Nat} (hB:B≠0) (h:sgn na (A % B) < 0):sgn na A % sgn nb B=sgn na (A % B) + B/\(sgn nb B < 0->sgn na A / sgn nb B=sgn (!(na == nb)) (A / B) + 1)/\(¬ sgn nb B < 0->sgn na A / sgn nb B=sgn (!(na == nb)) (A / B) - 1):=by
 have h1:=Nat.div_add_mod A B;have hl:=Nat.mod_lt A (Nat.pos_of_ne_zero hB);obtain ⟨q,hq⟩:∃ q,A / B=q:=⟨_,rfl⟩;obtain ⟨r,hr⟩:∃ r,A % B=r:=⟨_,rfl⟩;rw [hq,hr] at h1;rw [hr] at hl h;rw [hq,hr];have h2:(A:Int)=(B:Int) * q + r:=by rw [<- h1];simp
 cases na
 ·simp [sgn] at h;omega
 have key:∀ q':Int,sgn true A=sgn nb B * q' + (sgn true r + B)->sgn true A / sgn nb B=q'/\sgn true A % sgn nb B=sgn true r + B:=fun q' hq'=>
   Aec (by cases nb <;> simp [sgn] <;> omega) hq' (by simp [sgn] at h ⊢;omega) (by cases nb <;> simp only [sgn] at h ⊢ <;> simp at h ⊢ <;> omega)
 cases nb
 ·have:=key (sgn true q - 1) (by simp [sgn];grind);exact ⟨this.2,fun hh=>by simp [sgn] at hh;omega,fun _=>this.1⟩
 ·have:=key (sgn false q + 1) (by simp [sgn];grind);exact ⟨this.2,fun _=>this.1,fun hh=>by simp [sgn] at hh;omega⟩
theorem BBn {h:AGt} {lo:Nat} {s:Value} {L:List Nat} (H:DS h lo s L) (ht:TL L) (hl:L.length<=100):cZ.rep h (nv L:Int) [.bool false,s]:=⟨rfl,⟨false,s,L,rfl,H.mono (Nat.zero_le _),ht,hl,rfl⟩⟩
theorem A8p {h:AGt} {s:Value} {n:Int} (H:cZ.rep h n [.bool false,s]):∃ L,DS h 0 s L/\TL L/\L.length<=100/\(nv L:Int)=n:=by
 obtain ⟨n',s',L,h1,h2,h3,h4,h5⟩:=ZV.out H.2;injection h1 with h1;have:=congrArg Array.toList h1;simp at this;obtain ⟨rfl,rfl⟩:=this;exact ⟨L,h2,h3,h4,h5.symm⟩
def Apd (fuel:Nat) (a b:Int):Option (Int × Int × Bool):=if a.natAbs < AW5/\b.natAbs < AW5/\b≠0 then some (a / b,a % b,true) else none
set_option maxHeartbeats 4000000 in
theorem At8 {fuel:Nat} {h:AGt} {u v:Value} {a b:Int} {r:Int × Int × Bool} (H1:ZZ h u a) (H2:ZZ h v b) (hp:Apd fuel a b=some r):ATs Tryz.prog 140 #[u,v] h (fun x h'=>Ext h h'/\ ∃ (x0:Value) (x1:Value),x= .tuple #[x0,x1,.bool r.2.2]/\ZZ h' x0 r.1/\ZZ h' x1 r.2.1):=by
  obtain ⟨⟨hba,hbb,hb0⟩,hp⟩:=ifN hp;cases hp;have HA:=H1;have HB:=H2;obtain ⟨na,sa,LA,rfl,HDa,htla,hla,hza⟩:=HA.out;obtain ⟨nb,sb,LB,rfl,HDb,htlb,hlb,hzb⟩:=HB.out;have haa:=AXn hza;have hab:=AXn hzb;have hBz:nv LB≠0:=fun h0=>hb0 (by rw [hzb,h0];cases nb <;> rfl);have hp99:(4294967296:Nat) ^ 99 < 4294967296 ^ 100:=Nat.pow_lt_pow_right AGk AGk;have hbz:AW5=4294967296 ^ 99:=rfl;rw [hbz] at hba hbb;have Zb:cZ.rep h b [.bool nb,sb]:=⟨rfl,H2⟩;refine Aw6 (l:=[_,_]) Tryz.func140 rfl rfl rfl rfl rfl ?_;refine Ahd ?_;refine Aih mx AGx ?_;refine AS3 ?_;have K0:=Kst.k0 h;refine AYy K0 [.bool na,sa] fun b1 h1 E1 K1=>?_;refine AYy K1 [.bool nb,sb] fun b2 h2 E2 K2=>?_;refine AVr K2 [.bool false,.slice none 0 0] AXi fun b3 h3 E3 K3=>?_;refine AVr K3 [.bool false,.slice none 0 0] AXi fun b4 h4 E4 K4=>?_;refine AGu ?_;refine Ahd ?_;refine Aih mx AGx ?_;refine AVa (fun h'=>Ext h4 h') AGx ?_;refine AX1 (fs:=1) Ad5 AGx AGk rfl (AU1 AZy rfl (Ext.refl h4) (fun h' hb=>((K4.b p3).ext hb).cell (i:=1) rfl) (AXm (Ext.refl h4) (fun _ E=>E) rfl (Aa8 (HDa.ext K4.x) AGi) fun x5 h5 E5 hk=>?_));obtain ⟨L1,HD1,htl1,hv1,hl1⟩:=hk;have K5:=K4.e E5;refine AX1 (fs:=1) Ad5 AGx AGk rfl (AU1 AZy rfl E5 (fun h' hb=>((K4.b p2).ext hb).cell (i:=1) rfl) (AXm E5 (fun _ E=>E5.trans E) rfl (Aa8 (HDb.ext K5.x) AGi) fun x6 h6 E6 hk=>?_));refine ATi (AGu ?_);obtain ⟨L2,HD2,htl2,hv2,hl2⟩:=hk;have K6:=(K5.e E6).az (BBn HD2 htl2 AGi);have hLB:L2≠[]:=fun h0=>hBz (by rw [<- hv2,h0];rfl);have hLp:=List.length_pos_iff.2 hLB;refine Ahd ?_;refine Aih mx AGx ?_;refine AGo ?_;refine AS3 ?_;refine AGj (AUo ATf rfl HD2 ?_);refine Ama rfl rfl (fun hc=>absurd hc AGi) (fun _=>?_);refine AGr ?_;refine ATr rfl ?_;refine AGy (q_t ?_);refine Ahd ?_;refine Aih mx AGx ?_;refine AS3 ?_;refine AGj (AGj (AXm trivial (fun _ _=>trivial) rfl (Azc (HD1.ext E6) HD2 htl2 (by rw [hv2];exact hBz) AGi AGi) fun x7 h7 E7 hk=>?_));obtain ⟨qv,rv,rfl,LQ,LR,HQ,HR,hvq,hvr,hlq,hlr⟩:=hk;have K7:=K6.e E7;rw [hv1,hv2] at hvq hvr;have hqA:nv LQ<=nv LA:=by rw [hvq];exact Nat.div_le_self _ _
  have hrA:nv LR < nv LB:=by rw [hvr];exact Nat.mod_lt _ (Nat.pos_of_ne_zero hBz)
  refine AGj (AUb rfl rfl (AUb rfl rfl (ATi (AGu ?_))));have U7:UpT [] h7 h7:=UpT.start all_nil;refine Ahd ?_;refine Aih mx AGx ?_;refine (Ano (B:=fun h'=>UpT [] h7 h') 11 [⟨11,93,[.bool false,.slice none 0 0]⟩,⟨12,93,[.bool false,.slice none 0 0]⟩] (fun _ _ U E=>U.thenE E) AGx U7 (Azh rfl rfl AXi rfl AXi rfl (fun _ _ U E=>U.thenE E)) ?_);refine h_l rfl (AX1 (fs:=1) Adm AGx AGk rfl (ATh ?_));refine h_l rfl (AU1 AWl rfl U7 (fun h' hb=>((K7.b p4).ext hb.ext).cell (i:=0) rfl) (ATh ?_));refine h_l rfl (AX1 (fs:=1) Adm AGx AGk rfl (ATh ?_));refine h_l rfl (AU1 AWl rfl U7 (fun h' hb=>((K7.b p3).ext hb.ext).cell (i:=0) rfl) (ATh ?_));refine h_l rfl (Ar8 Anm rfl rfl (ATh ?_));refine h_l rfl (AGj (ATh ?_));refine h_e rfl fun h8 E8=>?_;refine AXm (U7.thenE E8) (fun _ E=>(U7.thenE E8).thenE E) rfl (Aew (!(na == nb)) (HQ.ext E8) AGi AGi) fun x9 h9 E9 Z9=>?_;obtain ⟨c9,rfl,W9⟩:=Z9.zz.cs;have U9:=(U7.thenE E8).thenE E9;refine ATh ⟨E9,?_⟩;refine h_l rfl (AX1 (fs:=1) Adm AGx AGk rfl (ATh ?_));refine h_l rfl (AU1 AWl rfl U9 (fun h' hb=>((K7.b p4).ext hb.ext).cell (i:=0) rfl) (ATh ?_));refine h_l rfl (AGj (ATh ?_));refine h_e rfl fun h10 E10=>?_;refine AXm (U9.thenE E10) (fun _ E=>(U9.thenE E10).thenE E) rfl (Aew na (HR.ext (U9.thenE E10).ext) AGi AGi) fun x11 h11 E11 Z11=>?_;obtain ⟨c11,rfl,W11⟩:=Z11.zz.cs;have U11:=(U9.thenE E10).thenE E11;refine ATh ⟨E11,?_⟩;refine At6 fun h12 E12=>?_;refine BBi fun bq br Vq Vr hne loq lor nbq nbr=>?_;have K14:=((K7.nb2 (U11.thenE E12).ext (Azi loq lor Vq.lt Vr.lt hne) Vq Vr).az (cZ.upT W9 ((E10.trans E11).trans E12).upT)).az (cZ.upT W11 E12.upT);refine AYh K14 p2 (AS7 _) (K14.z p1) fun h13 K15=>?_;refine AYh K15 p3 (AS7 _) (K15.z p0) fun h14 K16=>?_;refine AGr ?_;refine Ahd ?_;refine Ahd ?_;refine Aih mx AGx ?_;refine AS3 ?_;refine Ac1 (K16.z p0) (K16.b p3) ?_;refine AW0 K16 (Am6 (K16.z p0).2) fun h15 E15 K17=>?_
  refine AXh rfl rfl (fun hc1=>AGr ?_) (fun hc1=>AGr ?_)
  · have hk:=BBm (na:=na) (nb:=nb) (A:=nv LA) hBz (by rw [<- hvr];exact Avi.1 hc1);have hsg:sgn nb (nv LB) < 0↔AYc b < 0:=by rw [<- hzb];exact Avi.symm
    obtain ⟨Ln,HDn,htln,hln,hzn⟩:=A8p (K17.z p4);have hnn:nv Ln=nv LB:=by omega
    refine A01 rfl ?_;refine Ahd ?_;refine Aih mx AGx ?_;refine AVa (fun h'=>Ext h15 h') AGx ?_;refine (Aa5 c11 AUa (cZ.klen (K17.z p0)) rfl (Ext.refl h15) (fun h' hb=>((K17.b p3).ext hb).agg) ?_);refine (AGj (AXm (Ext.refl h15) (fun _ E=>E) rfl (Aew false HDn AGi AGi) fun x h16 E16 Z=>?_));obtain ⟨c16,rfl,Y⟩:=Z.zz.cs;have K18:=(K17.e E16).az Y;refine AXm E16 (fun _ E=>E16.trans E) rfl (Are (K18.z p1).2 (K18.z p0).2 (by rw [show (sgn na (nv LR)).natAbs=nv LR from AXn rfl];omega) (by rw [show (sgn false (nv Ln)).natAbs=nv Ln from AXn rfl];omega)) fun x h17 E17 Z=>?_;obtain ⟨c17,rfl,Y⟩:=Z.zz.cs;have K19:=(K18.e E17).az Y;have hr9:sgn na (nv LR) + sgn false (nv Ln)=a % b:=by rw [hza,hzb,hk.1,hvr,hnn];rfl
    rw [hr9] at K19;refine AYh K19 p5 (K19.z p2) (K19.z p0) fun h18 K20=>?_;refine AGr ?_;refine Ahd ?_;refine Ahd ?_;refine Aih mx AGx ?_;refine AS3 ?_;refine Ac1 (K20.zx Zb) (K20.b p9) ?_;refine AW0 K20 (Am6 (K20.zx Zb).2) fun h19 E19 K21=>?_
    refine AXh rfl rfl (fun hc2=>AGr ?_) (fun hc2=>AGr ?_)
    · refine A01 rfl ?_;refine Ahd ?_;refine (Avf (B:=fun h'=>AVv 93 h' bq c9/\AVv 93 h' br c17) true [0,1,2] 3 4 [5,6] mx AGx AGx rfl rfl (.cons rfl (.cons rfl (.cons rfl .nil))) (.cons rfl (.cons rfl .nil)) ?_);refine Aa5 c9 AUa (cZ.klen (K21.z p3)) rfl ⟨K21.b p4,K21.b p5⟩ (fun h' hb=>hb.1.agg) ?_;refine (AXm ⟨K21.b p4,K21.b p5⟩ (fun _ E=>⟨(K21.b p4).ext E,(K21.b p5).ext E⟩) rfl (Ap6 (n:=1) AGi _) fun x h20 E20 Z=>?_);obtain ⟨c20,rfl,Y⟩:=Z.zz.cs;have K22:=(K21.e E20).az Y;refine AXm ⟨K22.b p5,K22.b p6⟩ (fun _ E=>⟨(K22.b p5).ext E,(K22.b p6).ext E⟩) rfl (Are (K22.z p4).2 (K22.z p0).2 (by rw [show (sgn (!(na == nb)) (nv LQ)).natAbs=nv LQ from AXn rfl];omega) AGk) fun x h21 E21 Z=>?_;obtain ⟨c21,rfl,Y⟩:=Z.zz.cs;have K23:=(K22.e E21).az Y;have hq9:sgn (!(na == nb)) (nv LQ) + 1=a / b:=by rw [hza,hzb,hk.2.1 (hsg.2 hc2),hvq]
      rw [hq9] at K23
      refine ATh ⟨?_,?_⟩
      · refine Aa5 c17 AUa (cZ.klen (K23.z p2)) rfl ⟨K23.b p6,K23.b p7⟩ (fun h' hb=>hb.2.agg) ?_;refine AYh K23 p10 (AS7 _) (K23.z p0) fun h22 K24=>?_;refine AYh K24 p9 (AS7 _) (K24.z p2) fun h23 K25=>?_;refine AGu ?_;refine Aih mx AGx (AGz (ATc (ATc ?_)));exact ⟨_,Agj AUa (cZ.klen (K25.z p0)) rfl (K25.b p10) AUa (cZ.klen (K25.z p2)) rfl (K25.b p9),K25.x,_,_,rfl,(K25.z p0).2,(K25.z p2).2⟩
      · refine AYh K23 p10 (AS7 _) (K23.z p0) fun h22 K24=>?_;refine Aa5 c17 AUa (cZ.klen (K24.z p2)) rfl ⟨K24.b p6,K24.b p7⟩ (fun h' hb=>hb.2.agg) ?_;refine AYh K24 p9 (AS7 _) (K24.z p2) fun h23 K25=>?_;refine AGu ?_;refine Aih mx AGx (AGz (ATc (ATc ?_)));exact ⟨_,Agj AUa (cZ.klen (K25.z p0)) rfl (K25.b p10) AUa (cZ.klen (K25.z p2)) rfl (K25.b p9),K25.x,_,_,rfl,(K25.z p0).2,(K25.z p2).2⟩
    · refine Aw8 rfl ?_;refine Aih mx AGx ?_;refine AGy (q_t ?_);refine Ahd ?_;refine (Avf (B:=fun h'=>AVv 93 h' bq c9/\AVv 93 h' br c17) true [0,1,2] 3 4 [5,6] mx AGx AGx rfl rfl (.cons rfl (.cons rfl (.cons rfl .nil))) (.cons rfl (.cons rfl .nil)) ?_);refine Aa5 c9 AUa (cZ.klen (K21.z p3)) rfl ⟨K21.b p4,K21.b p5⟩ (fun h' hb=>hb.1.agg) ?_;refine (AXm ⟨K21.b p4,K21.b p5⟩ (fun _ E=>⟨(K21.b p4).ext E,(K21.b p5).ext E⟩) rfl (Ap6 (n:=1) AGi _) fun x h20 E20 Z=>?_);obtain ⟨c20,rfl,Y⟩:=Z.zz.cs;have K22:=(K21.e E20).az Y;refine AXm ⟨K22.b p5,K22.b p6⟩ (fun _ E=>⟨(K22.b p5).ext E,(K22.b p6).ext E⟩) rfl (A0y (K22.z p4).2 (K22.z p0).2 (by rw [show (sgn (!(na == nb)) (nv LQ)).natAbs=nv LQ from AXn rfl];omega) AGk) fun x h21 E21 Z=>?_;obtain ⟨c21,rfl,Y⟩:=Z.zz.cs;have K23:=(K22.e E21).az Y;have hq9:sgn (!(na == nb)) (nv LQ) - 1=a / b:=by rw [hza,hzb,hk.2.2 (fun h=>by have:=hsg.1 h;omega),hvq]
      rw [hq9] at K23
      refine ATh ⟨?_,?_⟩
      · refine Aa5 c17 AUa (cZ.klen (K23.z p2)) rfl ⟨K23.b p6,K23.b p7⟩ (fun h' hb=>hb.2.agg) ?_;refine AYh K23 p10 (AS7 _) (K23.z p0) fun h22 K24=>?_;refine AYh K24 p9 (AS7 _) (K24.z p2) fun h23 K25=>?_;refine AGu ?_;refine Aih mx AGx (AGz (ATc ?_));exact ⟨_,Agj AUa (cZ.klen (K25.z p0)) rfl (K25.b p10) AUa (cZ.klen (K25.z p2)) rfl (K25.b p9),K25.x,_,_,rfl,(K25.z p0).2,(K25.z p2).2⟩
      · refine AYh K23 p10 (AS7 _) (K23.z p0) fun h22 K24=>?_;refine Aa5 c17 AUa (cZ.klen (K24.z p2)) rfl ⟨K24.b p6,K24.b p7⟩ (fun h' hb=>hb.2.agg) ?_;refine AYh K24 p9 (AS7 _) (K24.z p2) fun h23 K25=>?_;refine AGu ?_;refine Aih mx AGx (AGz (ATc ?_));exact ⟨_,Agj AUa (cZ.klen (K25.z p0)) rfl (K25.b p10) AUa (cZ.klen (K25.z p2)) rfl (K25.b p9),K25.x,_,_,rfl,(K25.z p0).2,(K25.z p2).2⟩
  · have hk:=BBl (na:=na) (nb:=nb) (A:=nv LA) hBz (fun hh=>by have:=(Avi (z:=sgn na (nv LR))).2 (by rw [hvr];exact hh);omega);have hq9:sgn (!(na == nb)) (nv LQ)=a / b:=by rw [hza,hzb,hk.1,hvq]
    have hr9:sgn na (nv LR)=a % b:=by rw [hza,hzb,hk.2,hvr]
    rw [hq9,hr9] at K17;refine Aw8 rfl ?_;refine Aih mx AGx ?_;refine AGy (q_t ?_);refine Ahd ?_;refine (Avf (B:=fun _=>True) false [0] 1 2 [3,4] mx AGx AGx rfl rfl (.cons rfl .nil) (.cons rfl (.cons rfl .nil)) ?_);refine Ac1 (K17.z p1) (K17.b p2) ?_
    refine ATh ⟨?_,?_⟩
    · refine Ac1 (K17.z p0) (K17.b p3) ?_;refine AYh K17 p6 (AS7 _) (K17.z p1) fun h22 K24=>?_;refine AYh K24 p5 (AS7 _) (K24.z p0) fun h23 K25=>?_;refine AGu ?_;refine Aih mx AGx (AGz ?_);exact ⟨_,Agj AUa (cZ.klen (K25.z p1)) rfl (K25.b p6) AUa (cZ.klen (K25.z p0)) rfl (K25.b p5),K25.x,_,_,rfl,(K25.z p1).2,(K25.z p0).2⟩
    · refine AYh K17 p6 (AS7 _) (K17.z p1) fun h22 K24=>?_;refine Ac1 (K24.z p0) (K24.b p3) ?_;refine AYh K24 p5 (AS7 _) (K24.z p0) fun h23 K25=>?_;refine AGu ?_;refine Aih mx AGx (AGz ?_);exact ⟨_,Agj AUa (cZ.klen (K25.z p1)) rfl (K25.b p6) AUa (cZ.klen (K25.z p0)) rfl (K25.b p5),K25.x,_,_,rfl,(K25.z p1).2,(K25.z p0).2⟩
end Go.Proofs.YthbndcbclhkepaaGreatDoor
