/-
  Texts of a proof, joined. Conditions stand in each statement.
-/
import Derived.Test.YtdkldlbgcfpglaaGreatDoorMJordanDecomposes3
set_option linter.unusedVariables false
set_option linter.unusedSimpArgs false
namespace Go.Proofs.YtdkldlbgcfpglaaGreatDoor.Ig
open Go Go.QF
set_option maxRecDepth 100000
structure Arf (h:Zu) (v:Value) (L:List Nat) (v':Value) (L':List Nat):Prop where
  sl:Sl h v' (L'.map ANn)
  cap:AN3 v'
  dig:Dig L'
  blk:v'.ownBlock=v.ownBlock
  val:nv L'=nv L
  len:L'.length<=L.length
  tg:∀ g,v.ownBlock=some g-> ∃ cur off,h[g]? =some (.cells cur 172 off)
theorem Arf.ds {h:Zu} {lo:Nat} {v v':Value} {L L':List Nat} (H:Arf h v L v' L') (hl:∀ g,v.ownBlock=some g->lo<=g):DS h lo v' L':=⟨H.sl,H.cap,H.dig,fun g hg=>hl g (H.blk ▸ hg),fun g hg=>H.tg g (H.blk ▸ hg)⟩
theorem Aof {L:List Nat} (h:L[L.length - 1]? =some 0):nv (L.take (L.length - 1))=nv L:=by
 have h1:L=L.take (L.length - 1) ++ [0]:=by
   have:=Ab4 h
   rw [this,List.take_of_length_le (by have:=(List.getElem?_eq_some_iff.1 h).1;omega)]
 conv=>rhs;rw [h1,ALl]
 simp
theorem AMn {h:Zu} {v:Value} {L:List Nat} (H:DS h 0 v L) (hn:L.length<=1000000):AAv Tryz.prog 164 #[v] h fun x h'=>h'=h/\ ∃ L',Arf h v L x L'/\TL L':=by
 refine ABd (l:=[_]) mx Tryz.func164 rfl rfl rfl rfl rfl Zx (Zn (Zt (Zo (Zs (AFe 1048569 (fun y:Value × List Nat=>[(0,y.1)]) (fun k y h'=>h'=h/\y.2.length=k/\Arf h v L y.1 y.2) Zx L.length (v,L) ?_ ⟨rfl,trivial⟩ ?_)))))
 ·exact ⟨rfl,rfl,H.sl,H.cap,H.dig,rfl,rfl,Nat.le_refl _,H.tg⟩
 rintro k ⟨u,Lu⟩ s1 h ⟨rfl,rfl,HT⟩;dsimp only at HT ⊢;refine Zo (Zn (Zj (AWi AAo rfl HT.sl ?_)));rw [List.length_map];have hLlen:=HT.len;refine AQ1 rfl rfl (fun Aa=>?_) (fun Aa=>?_)
 ·refine Zj (ABq 6 true Zx rfl rfl (Zj (ABq 6 true Zx rfl rfl (Zj (ABq 6 true Zx rfl rfl (AWi AAo rfl HT.sl ?_))))));rw [List.length_map];refine ABq 6 true Zx rfl rfl (AMs rfl rfl Zh Zh ?_);rw [show ((Lu.length:Nat):Int) - 1=((Lu.length - 1:Nat):Int) by omega];obtain ⟨x,hx⟩:∃ x,Lu[Lu.length - 1]? =some x:=⟨_,List.getElem?_eq_getElem Zh⟩;refine ABq 6 true Zx rfl rfl (AZ5 AAo rfl HT.sl rfl (AR3 hx) fun a1 Ab=>ABq 6 true Zx rfl rfl (AA7 ACg rfl Ab (ABq 6 true Zx rfl rfl (ASw rfl rfl (fun Ac=>?_) (fun Ac=>?_)))))
  ·refine Z4 rfl (Zr (AAr rfl (Zv (q_t (Zs (AAa (Zj (Zj (AWi AAo rfl HT.sl ?_)))))))));rw [List.length_map];refine AMs rfl rfl Zh Zh ?_;rw [show ((Lu.length:Nat):Int) - 1=((Lu.length - 1:Nat):Int) by omega];have Ad:Lu[Lu.length - 1]? =some 0:=by rw [hx];congr 1;omega
   refine Ac8 (v:=u) AAo rfl HT.sl HT.cap rfl (by rw [List.length_map];omega) fun v9 Af Ag Ah=>?_;refine AAl (AAn (q_b (q_t ?_)));exact ⟨Lu.length - 1,(v9,Lu.take (Lu.length - 1)),by first | omega | (dsimp only;omega),⟨rfl,AA3,⟨by dsimp only;rw [List.map_take];exact Af,Ag,AXa HT.dig _,Ah.trans HT.blk,by rw [Aof Ad];exact HT.val,by rw [List.length_take];have:=HT.len;omega,HT.tg⟩⟩,rfl,trivial⟩
  ·refine Z4 rfl (Zr (AAw rfl (AAh (AAi (AAi (ABj (q_t (Zn (Zj (Zt (Zw (⟨_,Zy,?_⟩))))))))))));refine ⟨rfl,Lu,HT,fun y hy=>?_⟩
   first
   | (have:Lu=[]:=List.length_eq_zero_iff.1 Zh;rw [this] at hy;cases hy)
   | (rw [List.getLast?_eq_getElem?,hx] at hy;injection hy with hy;subst hy;omega)
 ·refine Zj (ABh 6 false Zx rfl rfl (ABh 6 false Zx rfl rfl (ABh 6 false Zx rfl rfl (ABh 6 false Zx rfl rfl (ABh 6 false Zx rfl rfl (ABh 6 false Zx rfl rfl (ABh 6 false Zx rfl rfl (Zz rfl (Zr (AAw rfl (AAh (AAi (AAi (ABj (q_t (Zn (Zj (Zt (Zw (⟨_,Zy,?_⟩))))))))))))))))))));refine ⟨rfl,Lu,HT,fun y hy=>?_⟩
  first
  | (have:Lu=[]:=List.length_eq_zero_iff.1 Zh;rw [this] at hy;cases hy)
  | (rw [List.getLast?_eq_getElem?,hx] at hy;injection hy with hy;subst hy;omega)
theorem APx (w:Nat) (hw:w < 18446744073709551616) (h:Zu):AAv Tryz.prog 161 #[.int .u64 (w:Int)] h fun x h'=>Ext h h'/\ ∃ L,DS h' (Array.size h) x L/\TL L/\nv L=w/\L.length<=2:=by
 refine ABd (l:=[_]) mx Tryz.func161 rfl rfl rfl rfl rfl Zx (Zn (AA4 (Zj (AMr ACn AC7 rfl ?_))));rw [show IntKind.u32.wrap (w:Int)=((w % 4294967296:Nat):Int) by rw [wrap_u32];omega];refine Zj (Aaf (n:=32) rfl rfl Zk (AMr ACn AC7 rfl ?_));rw [show IntKind.u32.wrap ((w:Int) / 2 ^ 32)=((w / 4294967296:Nat):Int) by rw [wrap_u32];omega];have e1:IntKind.u32.wrap (w:Int)=((w % 4294967296:Nat):Int):=by rw [wrap_u32];omega
 have e2:IntKind.u32.wrap ((w:Int) / 2 ^ 32)=((w / 4294967296:Nat):Int):=by rw [wrap_u32];omega
 have hdg:Dig [w % 4294967296,w / 4294967296]:=by intro x hx;simp only [List.mem_cons,List.not_mem_nil,or_false] at hx;rcases hx with rfl | rfl <;> omega
 refine Amv ([w % 4294967296,w / 4294967296].map ANn) AAo ALp rfl (fun _=>trivial) rfl Zh Zh rfl (by simp [ANn,isOne]) fun g1 v1 h1 Ad E1 Ae Aj=>?_;have Ak:=E1.1;have Z2:=(Ext.refl h).trans E1;have Ab:=Ad.ds (lo:=Array.size h) hdg Ae;refine AAy trivial rfl (AMn (Ab.mono (Nat.zero_le _)) AA3) fun x3 h1 hk=>?_;obtain ⟨rfl,L2,HT,htl⟩:=hk;refine ⟨trivial,?_⟩;refine Zt (Zw (⟨_,Zy,?_⟩));exact ⟨E1,L2,HT.ds Ab.lo,htl,by rw [HT.val];simp only [nv];omega,by have:=HT.len;simpa using this⟩
theorem AZs {h:Zu} {lo:Nat} {v:Value} {L:List Nat} (H:DS h lo v L) (hn:L.length<=2):AAv Tryz.prog 179 #[v] h fun x h'=>h'=h/\x= .int .u64 (nv L:Int):=by
 refine ABd (l:=[_]) mx Tryz.func179 rfl rfl rfl rfl rfl Zx (Zn (AA4 (Zt (Zo (Zn (Zj (AWi AAo rfl H.sl ?_)))))));rw [List.length_map];refine Zj (Zr (Zs (AFe 2096952 (fun y:Nat × Nat=>[(8,.int .i64 (y.1:Int)),(3,.int .u64 (y.2:Int))]) (fun k y h'=>h'=h/\k=L.length - y.1/\y.1<=L.length/\y.2=nv (L.take y.1)) Zx L.length (0,0) ?_ ⟨rfl,rfl,trivial⟩ ?_)))
 ·exact ⟨rfl,rfl,Nat.zero_le _,rfl⟩
 rintro k ⟨i,w⟩ s1 h ⟨rfl,rfl,hi,hw⟩;dsimp only at hi hw ⊢;subst hw;refine Zn (AEg rfl rfl (fun Ab=>?_) (fun Ab=>?_))
 ·refine Zr (Zo (AAr rfl (Zv (q_t (Zo (Zs (Zo ?_)))))));obtain ⟨x,hx⟩:∃ x,L[i]? =some x:=⟨_,List.getElem?_eq_getElem Zh⟩;have hxb:=H.dig x (List.mem_of_getElem? hx);refine AAa (Zj (AZ5 AAo rfl H.sl rfl (AR3 hx) fun Af Ac=>AA7 ACg rfl Ac (AAl (Zt (AAa (Zj (Zj (Asp AC7 ACn rfl (by rw [wrap_u64];omega) ?_))))))));refine Zj (ANy rfl rfl Zh Zh ?_);rw [show (32:Int) * (i:Int)=((32 * i:Nat):Int) by omega];refine Ab6 (n:=32 * i) rfl rfl (by show 32 * i<=64;omega) ?_;have Aa:i=0∨i=1:=by omega
  have hlt:=AQ6 H.dig hi
  have hsh:IntKind.u64.wrap ((x:Int) * 2 ^ (32 * i))=((2 ^ (32 * i) * x:Nat):Int):=by
    rw [wrap_u64]
    rcases Aa with rfl | rfl
    · simp;omega
    · simp;omega
  rw [hsh]
  have Ad:2 ^ (32 * i) * x < 18446744073709551616:=by
    rcases Aa with rfl | rfl
    · simp;omega
    · simp;omega
  have Ae:nv (L.take i) < 18446744073709551616:=by
    rcases Aa with rfl | rfl
    · simp at hlt ⊢;omega
    · simp at hlt ⊢;omega
  refine AWn rfl rfl (.inr (.inl rfl)) (Amx Ae Ad) ?_;rw [Amy (by rw [<- AWo];exact hlt),<- AWo,<- ABz hx];refine AAl (AAn (q_b (q_t (AAa (AJw rfl Zh (Zj (Zr ?_)))))));exact ⟨L.length - (i + 1),(i + 1,nv (L.take (i + 1))),by first | omega | (dsimp only;omega),⟨rfl,rfl,by first | omega | (dsimp only;omega),rfl⟩,rfl,rfl,trivial⟩
 ·refine Zr (Zo (AAw rfl (AAh (AAi (AAi (ABj (q_t (Zn (Zj (Zt (Zw (⟨_,Zy,?_⟩))))))))))));obtain rfl:i=L.length:=by omega
  exact ⟨rfl,by rw [List.take_length] at *;rfl⟩
theorem AOu (w:World):(Instr.build 94 #[]).run Tryz.prog w= .ok (.agg #[.bool false,.slice none 0 0]) w:=by kernel_rfl
theorem AXg (b:Bool) (a:Option Addr) (n c:Nat) (w:World):(Instr.build 94 #[(0,.bool b),(1,.slice a n c)]).run Tryz.prog w= .ok (.agg #[.bool b,.slice a n c]) w:=by kernel_rfl
theorem AJ1 {h:Zu} {lo:Nat} {s:Value} {L:List Nat} (neg:Bool) (H:DS h lo s L) (htl:TL L) (hn:L.length<=100):AAv Tryz.prog 160 #[.bool neg,s] h fun x h'=>Ext h h'/\ZV h' lo x (sgn neg (nv L)):=by
 obtain ⟨a,n,c,rfl,hnc⟩:=H.cap;refine ABd (l:=[_,_]) mx Tryz.func160 rfl rfl rfl rfl rfl Zx (Zn (AG0 [.bool false,.slice none 0 0] AE0 rfl (fun _=>trivial) fun Aa h2 V3 E4 Ak Ar=>?_));have Au:Array.size h<=Aa:=Ak;have Av:=E4.1;have Z8:=(Ext.refl h).trans E4;refine Zr (Zo (Zn (Zj (AWi AAo rfl (H.sl.ext E4) ?_))));rw [List.length_map];refine ASw rfl rfl (fun Am=>?_) (fun Am=>?_)
 ·refine Zr (AAr rfl (Zn (ADl (v:= .agg #[.bool false,.slice none 0 0]) AOu (AB8 [.bool false,.slice none 0 0] ABk rfl rfl rfl rfl (by simp [isOne]) V3 fun h9 Ao Ad=>?_))));have Af:=E4.thenUpd Ad (fun k hk=>by have Ac:k=Aa:=hk;omega);have Ax:=Ad.1;have Ay:=Z8.thenUpd Ad (fun k hk=>by have Ac:k=Aa:=hk;omega);have Az:=E4.thenUpd Ad (fun k hk=>by have Ac:k=Aa:=hk;omega);refine Zr (Zw (AAc (⟨_,ACb ABk rfl rfl Ao,?_⟩)))
  first
  | (have h0:L=[]:=List.length_eq_zero_iff.1 Zh
     subst h0
     exact ⟨Af,⟨false,_,[],rfl,AQ5 _ _,ASj,AA3,by cases neg <;> rfl⟩⟩)
  | exact ⟨Af,⟨neg,_,L,rfl,H.ext Af,htl,hn,rfl⟩⟩
 ·refine Zr (AAw rfl (Zv (q_t (Zn (Zj (Zj (ADl (v:= .agg #[.bool neg,.slice a n c]) (AXg neg a n c) (AB8 [.bool neg,.slice a n c] ABk rfl rfl rfl rfl (by simp [isOne]) V3 fun A3 Ap Ae=>?_))))))));have Ah:=E4.thenUpd Ae (fun k hk=>by have Ac:k=Aa:=hk;omega);have A4:=Ae.1;have A5:=Z8.thenUpd Ae (fun k hk=>by have Ac:k=Aa:=hk;omega);have A6:=E4.thenUpd Ae (fun k hk=>by have Ac:k=Aa:=hk;omega);refine Zr (Zw (⟨_,ACb ABk rfl rfl Ap,?_⟩))
  first
  | (have h0:L=[]:=List.length_eq_zero_iff.1 Zh
     subst h0
     exact ⟨Ah,⟨false,_,[],rfl,AQ5 _ _,ASj,AA3,by cases neg <;> rfl⟩⟩)
  | exact ⟨Ah,⟨neg,_,L,rfl,H.ext Ah,htl,hn,rfl⟩⟩
theorem Small_ok {n:Int} (hn: -9223372036854775808<=n/\n<=9223372036854775807) (h:Zu):AAv Tryz.prog 129 #[.int .i64 n] h fun x h'=>Ext h h'/\ZV h' (Array.size h) x n:=by
 refine ABd (l:=[_]) mx Tryz.func129 rfl rfl rfl rfl rfl Zx (Zn (AG0 [.bool false,.slice none 0 0] AE0 rfl (fun _=>trivial) fun Aa h2 V3 E4 Az By=>?_));have Bz:Array.size h<=Aa:=Az;have B1:=E4.1;have Z8:=(Ext.refl h).trans E4;refine Zr (Zo (Zn (Zj (AEg rfl rfl (fun A3=>?_) (fun A3=>?_)))))
 ·refine Zr (AAr rfl (Zn (Zj (AMr AKx ACn rfl ?_))));rw [show IntKind.u64.wrap n=n + 18446744073709551616 by rw [wrap_u64];omega];refine AV9 rfl ?_;rw [show IntKind.u64.wrap (0 - (n + 18446744073709551616))=((n.natAbs:Nat):Int) by rw [wrap_u64];omega];refine AAy trivial rfl (APx n.natAbs Zh _) fun x9 B4 hk=>?_;obtain ⟨Ag,L1,Ah,Ao,Ap,A5⟩:=hk;refine ⟨trivial,?_⟩;have B5:=Ag.1;have A6:=Z8.trans Ag;have A7:=E4.trans Ag;have A8:=V3.ext Ag;have A9:=E4.trans Ag;refine AAy trivial rfl (AJ1 true Ah Ao Zh) fun B6 B7 hk=>?_;obtain ⟨Ac,Aq⟩:=hk;refine ⟨trivial,?_⟩;have B8:=Ac.1;have Ba:=A6.trans Ac;have Bb:=A7.trans Ac;have Bc:=A8.ext Ac;have Be:=A9.trans Ac;have Bf:=Ah.ext Ac;obtain ⟨Ai,s2,L2,rfl,Aj,Au,Av,Aw⟩:=Aq.out;refine AB8 [.bool Ai,s2] ABk rfl rfl rfl rfl (AJh Aj.cap) Bc fun B9 Bg Ad=>?_;have Bh:=Bb.thenUpd Ad (fun k hk=>by have Ak:k=Aa:=hk;omega);have Ca:=Ad.1;have Cb:=Ba.thenUpd Ad (fun k hk=>by have Ak:k=Aa:=hk;omega);have Cd:=Be.thenUpd Ad (fun k hk=>by have Ak:k=Aa:=hk;omega);have Ce:=Bf.updLo Ad Zh;have Bi:=Aj.updLo Ad Zh;refine Zr (Zw (AAc (⟨_,ACb ABk rfl rfl Bg,?_⟩)));exact ⟨Bh,⟨Ai,s2,L2,rfl,Bi.mono Zh,Au,Av,by rw [<- Aw,Ap];unfold sgn;first | (rw [if_pos rfl];omega) | (rw [if_neg Zk];omega)⟩⟩
 ·refine Zr (AAw rfl (Zv (q_t (Zn (Zj (AMr AKx ACn rfl ?_))))));rw [show IntKind.u64.wrap n=((n.natAbs:Nat):Int) by rw [wrap_u64];omega];refine AAy trivial rfl (APx n.natAbs Zh _) fun Cf Cg hk=>?_;obtain ⟨Am,L1,Ah,Ao,Ap,A5⟩:=hk;refine ⟨trivial,?_⟩;have Ch:=Am.1;have Bj:=Z8.trans Am;have Bl:=E4.trans Am;have Bm:=V3.ext Am;have Bn:=E4.trans Am;refine AAy trivial rfl (AJ1 false Ah Ao Zh) fun Ci Cj hk=>?_;obtain ⟨Ae,Aq⟩:=hk;refine ⟨trivial,?_⟩;have Ck:=Ae.1;have Bo:=Bj.trans Ae;have Bp:=Bl.trans Ae;have Bq:=Bm.ext Ae;have Br:=Bn.trans Ae;have Bt:=Ah.ext Ae;obtain ⟨Ai,s2,L2,rfl,Aj,Au,Av,Aw⟩:=Aq.out;refine AB8 [.bool Ai,s2] ABk rfl rfl rfl rfl (AJh Aj.cap) Bq fun Cm Bu Af=>?_;have Bv:=Bp.thenUpd Af (fun k hk=>by have Ak:k=Aa:=hk;omega);have Cn:=Af.1;have Co:=Bo.thenUpd Af (fun k hk=>by have Ak:k=Aa:=hk;omega);have Cp:=Br.thenUpd Af (fun k hk=>by have Ak:k=Aa:=hk;omega);have Cq:=Bt.updLo Af Zh;have Bw:=Aj.updLo Af Zh;refine Zr (Zw (⟨_,ACb ABk rfl rfl Bu,?_⟩));exact ⟨Bv,⟨Ai,s2,L2,rfl,Bw.mono Zh,Au,Av,by rw [<- Aw,Ap];unfold sgn;first | (rw [if_pos rfl];omega) | (rw [if_neg Zk];omega)⟩⟩
theorem AYr {h:Zu} {lo:Nat} {v:Value} {L:List Nat} (H:DS h lo v L) (hn:L.length<=1000000):AAv Tryz.prog 165 #[v] h fun x h'=>Ext h h'/\DS h' (Array.size h) x L:=by
 obtain ⟨a,n,c,rfl,hnc⟩:=H.cap;refine ABd (l:=[_]) mx Tryz.func165 rfl rfl rfl rfl rfl Zx (Zn (Zt (Zo (Zn (Zj (Aqa Tryz.underlying92 rfl ?_))))));cases Ad:a.isNone
 ·refine Zr (AAw rfl (Zv (q_t (Zo ?_))));obtain ⟨xa,rfl⟩:∃ q,a=some q:=Option.ne_none_iff_exists'.1 (fun he=>by rw [he] at Ad;cases Ad);refine AAa (Avs AAo (fun _=>trivial) fun g1 v1 h1 Af E1 Ag Ap=>?_);have Aq:=E1.1;have Z2:=(Ext.refl h).trans E1;refine Zj ?_;by_cases hL:L=[]
  ·subst hL;obtain rfl:n=0:=Amw H;refine Atj AAo (fun _=>trivial) rfl Af rfl fun v2 h2 Ab U2=>Zt (Zw (⟨_,Zy,?_⟩));exact ⟨E1.thenUpd U2 (fun k hk=>by have Ai:k=g1:=hk;omega),Ab.ds H.dig Ag⟩
  refine Asi AAo ALp rfl trivial rfl Af rfl (H.sl.ext E1) (fun u hu=>by obtain ⟨y,_,rfl⟩:=List.mem_map.1 hu;rfl) (by simpa using hL) (by simp;omega) (by simp;omega) fun v2 g2 h2 Ab Ak U2=>?_;refine ⟨trivial,?_⟩;have XZ:=E1.thenUpd U2 (fun k hk=>by have Ai:k=g1:=hk;omega);have hg2l:Array.size h<=g2:=by rcases Ak with rfl | rfl;exact Ag;omega
  refine Zt (Zw (⟨_,Zy,?_⟩));exact ⟨XZ,Ab.ds H.dig hg2l⟩
 ·refine Zr (AAr rfl (Zo ?_));have h0:L=[]:=Aqb (Option.isNone_iff_eq_none.1 (by assumption)) H;refine AAa (Zt (Zw (AAc (⟨_,Zy,?_⟩))));subst h0;exact ⟨Ext.refl _,AQ5 _ _⟩
def AF6 (z:Int):Int:=if z < 0 then -1 else if z=0 then 0 else 1
theorem sign_zero {z:Int} (h:z=0):AF6 z=0:=by subst h;rfl
theorem sign_neg {z:Int} (h:z < 0):AF6 z= -1:=if_pos h
theorem AQ9 {z:Int} (h:0 < z):AF6 z=1:=by unfold AF6;rw [if_neg Zh,if_neg Zh]
theorem Sign_ok {h:Zu} {lo:Nat} {va:Value} {z:Int} (HA:ZV h lo va z):AAv Tryz.prog 132 #[va] h fun x h'=>Ext h h'/\x= .int .i64 (AF6 z):=by
 obtain ⟨na,sa,LA,rfl,HDa,htla,hla,hza⟩:=HA.out;have hna:LA.length<=1000000:=by omega
 refine ABd (l:=[_]) mx Tryz.func132 rfl rfl rfl rfl rfl Zx (Zn (AJj [.bool na,sa] (fun _=>trivial) rfl rfl fun Aj h2 V3 E4 Ak Aq=>?_));have Ar:Array.size h<=Aj:=Ak;have Au:=E4.1;have Z8:=(Ext.refl h).trans E4;refine Zt (Zo (Zs (Zn (AFv (fs:=1) AL4 Zx Zk rfl (AA7 AHr rfl (V3.cell (i:=1) rfl) (AAy trivial rfl (AMn (DS.mono (HDa.ext E4) (Nat.zero_le _)) hna) fun x9 h2 hk=>?_))))));obtain ⟨rfl,L1,Af,Ag⟩:=hk;refine ⟨trivial,?_⟩;have Am:=Af.ds (lo:=lo) HDa.lo;refine ABu AAo rfl Am (ASw rfl rfl (fun Ao=>?_) (fun Ao=>?_))
 ·refine Zt (AAr rfl (Zn (Zt (Zw (ABi (AAc (⟨_,Zy,?_⟩)))))))
  first
  | (have h0:L1=[]:=List.length_eq_zero_iff.1 Zh
     have h1:nv LA=0:=by rw [<- Af.val,h0];rfl
     exact ⟨E4,congrArg (Value.int .i64) (sign_zero (hza.trans (by rw [h1];cases na <;> rfl))).symm⟩)
  | (have h1:nv LA≠0:=fun h0=>by rw [<- Af.val] at h0;have:=congrArg List.length (AG3 Ag h0);rw [List.length_nil] at this;omega
     have h2:z=sgn na (nv LA):=hza
     have h3:na=true:=by assumption
     exact ⟨E4,congrArg (Value.int .i64) (sign_neg (by rw [h2,h3];unfold sgn;rw [if_pos rfl];omega)).symm⟩)
  | (have h1:nv LA≠0:=fun h0=>by rw [<- Af.val] at h0;have:=congrArg List.length (AG3 Ag h0);rw [List.length_nil] at this;omega
     have h2:z=sgn na (nv LA):=hza
     have h3:na=false:=by assumption
     exact ⟨E4,congrArg (Value.int .i64) (AQ9 (by rw [h2,h3];unfold sgn;rw [if_neg Zk];omega)).symm⟩)
 ·refine Zt (AAw rfl (Zn (AFv (fs:=1) ALi Zx Zk rfl (AA7 AEi rfl (V3.cell (i:=0) rfl) (Zt (⟨_,rfl,fun Ap=>?_,fun Ap=>?_⟩))))))
  ·refine Zn (Zt (Zw (ABi (AAc (⟨_,Zy,?_⟩)))))
   first
   | (have h0:L1=[]:=List.length_eq_zero_iff.1 Zh
      have h1:nv LA=0:=by rw [<- Af.val,h0];rfl
      exact ⟨E4,congrArg (Value.int .i64) (sign_zero (hza.trans (by rw [h1];cases na <;> rfl))).symm⟩)
   | (have h1:nv LA≠0:=fun h0=>by rw [<- Af.val] at h0;have:=congrArg List.length (AG3 Ag h0);rw [List.length_nil] at this;omega
      have h2:z=sgn na (nv LA):=hza
      have h3:na=true:=by assumption
      exact ⟨E4,congrArg (Value.int .i64) (sign_neg (by rw [h2,h3];unfold sgn;rw [if_pos rfl];omega)).symm⟩)
   | (have h1:nv LA≠0:=fun h0=>by rw [<- Af.val] at h0;have:=congrArg List.length (AG3 Ag h0);rw [List.length_nil] at this;omega
      have h2:z=sgn na (nv LA):=hza
      have h3:na=false:=by assumption
      exact ⟨E4,congrArg (Value.int .i64) (AQ9 (by rw [h2,h3];unfold sgn;rw [if_neg Zk];omega)).symm⟩)
  ·refine Zv (q_b (q_t (Zn (Zt (Zw (⟨_,Zy,?_⟩))))))
   first
   | (have h0:L1=[]:=List.length_eq_zero_iff.1 Zh
      have h1:nv LA=0:=by rw [<- Af.val,h0];rfl
      exact ⟨E4,congrArg (Value.int .i64) (sign_zero (hza.trans (by rw [h1];cases na <;> rfl))).symm⟩)
   | (have h1:nv LA≠0:=fun h0=>by rw [<- Af.val] at h0;have:=congrArg List.length (AG3 Ag h0);rw [List.length_nil] at this;omega
      have h2:z=sgn na (nv LA):=hza
      have h3:na=true:=by assumption
      exact ⟨E4,congrArg (Value.int .i64) (sign_neg (by rw [h2,h3];unfold sgn;rw [if_pos rfl];omega)).symm⟩)
   | (have h1:nv LA≠0:=fun h0=>by rw [<- Af.val] at h0;have:=congrArg List.length (AG3 Ag h0);rw [List.length_nil] at this;omega
      have h2:z=sgn na (nv LA):=hza
      have h3:na=false:=by assumption
      exact ⟨E4,congrArg (Value.int .i64) (AQ9 (by rw [h2,h3];unfold sgn;rw [if_neg Zk];omega)).symm⟩)
theorem Neg_ok {h:Zu} {lo:Nat} {va:Value} {z:Int} (HA:ZV h lo va z):AAv Tryz.prog 163 #[va] h fun x h'=>Ext h h'/\ZV h' (Array.size h) x (-z):=by
 obtain ⟨na,sa,LA,rfl,HDa,htla,hla,hza⟩:=HA.out;have hna:LA.length<=1000000:=by omega
 refine ABd (l:=[_]) mx Tryz.func163 rfl rfl rfl rfl rfl Zx (Zn (AJj [.bool na,sa] (fun _=>trivial) rfl rfl fun Am h2 V3 E4 Az Bx=>?_));have By:Array.size h<=Am:=Az;have Bz:=E4.1;have Z8:=(Ext.refl h).trans E4;refine AG0 [.bool false,.slice none 0 0] AE0 rfl (fun _=>trivial) fun Ad Ah A4 Ae A5 B1=>?_;have B3:Array.size h<=Ad:=Nat.le_trans E4.1 A5;have nebq1bq9:Am≠Ad:=by have:=V3.lt;omega
 have B4:=Ae.1;have A6:=Z8.trans Ae;have Ap:=E4.trans Ae;have Aq:=V3.ext Ae;have A7:=E4.trans Ae;refine Zr (Zo (ACd (fun h'=>Ext Ah h') Zx ?_));have Af:=Ext.refl Ah;refine AFv (fs:=1) ALi Zx Zk rfl (ACf AEi rfl Af (fun h' hb=>(Aq.ext hb).cell (i:=0) rfl) (ACt rfl (AFv (fs:=1) AL4 Zx Zk rfl (ACf AHr rfl Af (fun h' hb=>(Aq.ext hb).cell (i:=1) rfl) (AAy Af rfl (AMn (DS.mono (HDa.ext Ap) (Nat.zero_le _)) hna) fun B5 Ah hk=>?_)))));obtain ⟨rfl,L1,Ai,A8⟩:=hk;refine ⟨Af,?_⟩;have A9:=Ai.ds (lo:=lo) HDa.lo;have Ar:=Ai.val;have B7:=Ai.len;refine AAy Af rfl (AYr A9 Zh) fun B8 B9 hk=>?_;obtain ⟨Ab,Au⟩:=hk;have Aj:=Af.trans Ab;refine ⟨Aj,?_⟩;have Ca:=Ab.1;have Ba:=A6.trans Ab;have Bb:=Ap.trans Ab;have Bc:=A7.trans Ab;have Be:=A4.ext Ab;have Bf:=Ae.trans Ab;refine AAy Aj rfl (AJ1 (!na) Au A8 Zh) fun Cb Cd hk=>?_;obtain ⟨Aa,Bg⟩:=hk;have Bh:=Aj.trans Aa;refine ⟨Bh,?_⟩;have Ce:=Aa.1;have Bi:=Ba.trans Aa;have Bj:=Bb.trans Aa;have Bl:=Bc.trans Aa;have Bm:=Be.ext Aa;have Bn:=Bf.trans Aa;have Bo:=Au.ext Aa;obtain ⟨Av,s3,L3,rfl,Ax,Bq,Br,Ay⟩:=Bg.out;refine AB8 [.bool Av,s3] ABk rfl rfl rfl rfl (AJh Ax.cap) Bm fun Cf Bt Ac=>?_;have Bu:=Bj.thenUpd Ac (fun k hk=>by have Ak:k=Ad:=hk;omega);have Cg:=Ac.1;have Ch:=Bi.thenUpd Ac (fun k hk=>by have Ak:k=Ad:=hk;omega);have Ci:=Bn.thenUpd Ac (fun k hk=>by have Ak:k=Ad:=hk;omega);have Cj:=Bl.thenUpd Ac (fun k hk=>by have Ak:k=Ad:=hk;omega);have Ck:=Bo.updLo Ac Zh;have Bv:=Ax.updLo Ac Zh;refine Zr (Zw (⟨_,ACb ABk rfl rfl Bt,?_⟩));exact ⟨Bu,⟨Av,s3,L3,rfl,Bv.mono Zh,Bq,Br,by first | (rw [<- Ay,Ar,hza];done) | (rw [<- Ay,Ar,hza];cases na <;> simp [sgn])⟩⟩
theorem Normalize_ok {h:Zu} {lo:Nat} {va:Value} {z:Int} (HA:ZV h lo va z):AAv Tryz.prog 133 #[va] h fun x h'=>Ext h h'/\ZV h' (Array.size h) x (z):=by
 obtain ⟨na,sa,LA,rfl,HDa,htla,hla,hza⟩:=HA.out;have hna:LA.length<=1000000:=by omega
 refine ABd (l:=[_]) mx Tryz.func133 rfl rfl rfl rfl rfl Zx (Zn (AJj [.bool na,sa] (fun _=>trivial) rfl rfl fun Am h2 V3 E4 Az Bx=>?_));have By:Array.size h<=Am:=Az;have Bz:=E4.1;have Z8:=(Ext.refl h).trans E4;refine AG0 [.bool false,.slice none 0 0] AE0 rfl (fun _=>trivial) fun Ad Ah A4 Ae A5 B1=>?_;have B3:Array.size h<=Ad:=Nat.le_trans E4.1 A5;have nebq1bq9:Am≠Ad:=by have:=V3.lt;omega
 have B4:=Ae.1;have A6:=Z8.trans Ae;have Ap:=E4.trans Ae;have Aq:=V3.ext Ae;have A7:=E4.trans Ae;refine Zr (Zo (ACd (fun h'=>Ext Ah h') Zx ?_));have Af:=Ext.refl Ah;refine AFv (fs:=1) ALi Zx Zk rfl (ACf AEi rfl Af (fun h' hb=>(Aq.ext hb).cell (i:=0) rfl) (AFv (fs:=1) AL4 Zx Zk rfl (ACf AHr rfl Af (fun h' hb=>(Aq.ext hb).cell (i:=1) rfl) (AAy Af rfl (AMn (DS.mono (HDa.ext Ap) (Nat.zero_le _)) hna) fun B5 Ah hk=>?_))));obtain ⟨rfl,L1,Ai,A8⟩:=hk;refine ⟨Af,?_⟩;have A9:=Ai.ds (lo:=lo) HDa.lo;have Ar:=Ai.val;have B7:=Ai.len;refine AAy Af rfl (AYr A9 Zh) fun B8 B9 hk=>?_;obtain ⟨Ab,Au⟩:=hk;have Aj:=Af.trans Ab;refine ⟨Aj,?_⟩;have Ca:=Ab.1;have Ba:=A6.trans Ab;have Bb:=Ap.trans Ab;have Bc:=A7.trans Ab;have Be:=A4.ext Ab;have Bf:=Ae.trans Ab;refine AAy Aj rfl (AJ1 na Au A8 Zh) fun Cb Cd hk=>?_;obtain ⟨Aa,Bg⟩:=hk;have Bh:=Aj.trans Aa;refine ⟨Bh,?_⟩;have Ce:=Aa.1;have Bi:=Ba.trans Aa;have Bj:=Bb.trans Aa;have Bl:=Bc.trans Aa;have Bm:=Be.ext Aa;have Bn:=Bf.trans Aa;have Bo:=Au.ext Aa;obtain ⟨Av,s3,L3,rfl,Ax,Bq,Br,Ay⟩:=Bg.out;refine AB8 [.bool Av,s3] ABk rfl rfl rfl rfl (AJh Ax.cap) Bm fun Cf Bt Ac=>?_;have Bu:=Bj.thenUpd Ac (fun k hk=>by have Ak:k=Ad:=hk;omega);have Cg:=Ac.1;have Ch:=Bi.thenUpd Ac (fun k hk=>by have Ak:k=Ad:=hk;omega);have Ci:=Bn.thenUpd Ac (fun k hk=>by have Ak:k=Ad:=hk;omega);have Cj:=Bl.thenUpd Ac (fun k hk=>by have Ak:k=Ad:=hk;omega);have Ck:=Bo.updLo Ac Zh;have Bv:=Ax.updLo Ac Zh;refine Zr (Zw (⟨_,ACb ABk rfl rfl Bt,?_⟩));exact ⟨Bu,⟨Av,s3,L3,rfl,Bv.mono Zh,Bq,Br,by first | (rw [<- Ay,Ar,hza];done) | (rw [<- Ay,Ar,hza];cases na <;> simp [sgn])⟩⟩
def ANm (a b:Nat):Int:=if a < b then -1 else if a=b then 0 else 1
theorem AKc {a b:Nat} (h:a < b):ANm a b= -1:=if_pos h
theorem AKd {a b:Nat} (h:b < a):ANm a b=1:=by unfold ANm;rw [if_neg Zh,if_neg Zh]
theorem ARa {a b:Nat} (h:a=b):ANm a b=0:=by unfold ANm;rw [if_neg Zh,if_pos h]
theorem AKe {A B:List Nat} (ha:Dig A) (hb:TL B) (h:A.length < B.length):nv A < nv B:=by
 have h1:=ANe ha;have h2:=Amu hb (fun he=>by rw [he] at h;simp at h);have h3:4294967296 ^ A.length<=4294967296 ^ (B.length - 1):=Nat.pow_le_pow_right Zk Zh;omega
theorem AKf {A B:List Nat} (ha:Dig A) (hb:Dig B) {i x y:Nat} (hl:A.length=B.length) (hx:A[i]? =some x) (hy:B[i]? =some y) (hxy:x < y) (hs:∀ q,i < q->A[q]? =B[q]?):nv A < nv B:=by
 have hi:=(List.getElem?_eq_some_iff.1 hx).1;have hd:A.drop (i + 1)=B.drop (i + 1):=List.ext_getElem? fun q=>by rw [List.getElem?_drop,List.getElem?_drop];exact hs _ Zh
 have e:∀ L:List Nat,nv L=nv (L.take (i + 1)) + 4294967296 ^ (L.take (i + 1)).length * nv (L.drop (i + 1)):=fun L=>by rw [<- AVn,List.take_append_drop]
 rw [e A,e B,hd,ABz hx,ABz hy,List.length_take,List.length_take,hl];have h1:=AQ6 ha (i:=i) Zh;have h2:4294967296 ^ i * (x + 1)<=4294967296 ^ i * y:=Nat.mul_le_mul_left _ hxy;rw [Nat.mul_add,Nat.mul_one] at h2;omega
theorem AWe {h:Zu} {la lb:Nat} {va vb:Value} {LA LB:List Nat} (HA:DS h la va LA) (HB:DS h lb vb LB) (hta:TL LA) (htb:TL LB) (hna:LA.length<=1000000) (hnb:LB.length<=1000000):AAv Tryz.prog 178 #[va,vb] h fun x h'=>h'=h/\x= .int .i64 (ANm (nv LA) (nv LB)):=by
 refine ABd (l:=[_,_]) mx Tryz.func178 rfl rfl rfl rfl rfl Zx (Zn (Zt (Zo (Zs (Zn (Zj (ABu AAo rfl HA (Zj (ABu AAo rfl HB (AEg rfl rfl (fun Ac=>?_) (fun Ac=>?_)))))))))))
 ·refine Zt (AAr rfl (Zn (Zt (Zw (ABi (AAc (⟨_,Zy,?_⟩)))))))
  first
  | exact ⟨rfl,congrArg (Value.int .i64) (AKc (AKe HA.dig htb Zh)).symm⟩
  | exact ⟨rfl,congrArg (Value.int .i64) (AKd (AKe HB.dig hta Zh)).symm⟩
  | exact ⟨rfl,congrArg (Value.int .i64) (AKc (AKf HA.dig HB.dig Zh hx hy Zh (fun q hq=>hsame q Zh))).symm⟩
  | exact ⟨rfl,congrArg (Value.int .i64) (AKd (AKf HB.dig HA.dig Zh hy hx Zh (fun q hq=>(hsame q Zh).symm))).symm⟩
  | exact ⟨rfl,congrArg (Value.int .i64) (ARa (congrArg nv (List.ext_getElem? fun q=>hsame q Zh))).symm⟩
 ·refine Zt (AAw rfl (Zn (Zj (ABu AAo rfl HA (Zj (ABu AAo rfl HB (AQ1 rfl rfl (fun Ad=>?_) (fun Ad=>?_))))))))
  ·refine Zt (AAr rfl (Zn (Zt (Zw (ABi (AAc (⟨_,Zy,?_⟩)))))))
   first
   | exact ⟨rfl,congrArg (Value.int .i64) (AKc (AKe HA.dig htb Zh)).symm⟩
   | exact ⟨rfl,congrArg (Value.int .i64) (AKd (AKe HB.dig hta Zh)).symm⟩
   | exact ⟨rfl,congrArg (Value.int .i64) (AKc (AKf HA.dig HB.dig Zh hx hy Zh (fun q hq=>hsame q Zh))).symm⟩
   | exact ⟨rfl,congrArg (Value.int .i64) (AKd (AKf HB.dig HA.dig Zh hy hx Zh (fun q hq=>(hsame q Zh).symm))).symm⟩
   | exact ⟨rfl,congrArg (Value.int .i64) (ARa (congrArg nv (List.ext_getElem? fun q=>hsame q Zh))).symm⟩
  ·refine Zt (AAw rfl (Zv (q_b (q_t (Zo (Zn (Zj (ABu AAo rfl HA (AMs rfl rfl Zh Zh (Zt (Zs (AFe 35184369991728 (fun i:Nat=>[(5,.int .i64 ((i:Int) - 1))]) (fun k i h'=>h'=h/\i=k/\i<=LA.length/\ ∀ q,i<=q->LA[q]? =LB[q]?) Zx LA.length LA.length ?_ ⟨rfl,trivial⟩ ?_))))))))))))
   ·exact ⟨rfl,rfl,Nat.le_refl _,fun q hq=>by rw [List.getElem?_eq_none hq,List.getElem?_eq_none Zh]⟩
   rintro k i s1 h ⟨rfl,rfl,hi,hsame⟩;refine Zo (Zn (Zj (AU0 rfl rfl (fun Ae=>?_) (fun Ae=>?_))))
   ·refine Zr (AAr rfl (Zv (q_t (Zo (Zs (Zs (Zo ?_)))))));obtain ⟨x,hx⟩:∃ x,LA[i - 1]? =some x:=⟨_,List.getElem?_eq_getElem Zh⟩;obtain ⟨y,hy⟩:∃ y,LB[i - 1]? =some y:=⟨_,List.getElem?_eq_getElem Zh⟩;have e1:((i:Int) - 1)=((i - 1:Nat):Int):=by omega
    refine AQ0 Zx (Zj (Zj (AIv (n:=i - 1) AAo rfl HA (show Value.int .i64 ((i:Int) - 1)=_ by rw [e1]) hx fun a1 Af=>?_)));refine AA7 ACg rfl Af (Zj (Zj (AIv (n:=i - 1) AAo rfl HB (show Value.int .i64 ((i:Int) - 1)=_ by rw [e1]) hy fun a2 Ag=>?_)));refine AA7 ACg rfl Ag (AEg rfl rfl (fun Ah=>?_) (fun Ah=>?_))
    ·refine Zt (AAr rfl (Zn (Zt (Zw (ABi (ABi (AAc (AAc (ABi (AAc (⟨_,Zy,?_⟩)))))))))))
     first
     | exact ⟨rfl,congrArg (Value.int .i64) (AKc (AKe HA.dig htb Zh)).symm⟩
     | exact ⟨rfl,congrArg (Value.int .i64) (AKd (AKe HB.dig hta Zh)).symm⟩
     | exact ⟨rfl,congrArg (Value.int .i64) (AKc (AKf HA.dig HB.dig Zh hx hy Zh (fun q hq=>hsame q Zh))).symm⟩
     | exact ⟨rfl,congrArg (Value.int .i64) (AKd (AKf HB.dig HA.dig Zh hy hx Zh (fun q hq=>(hsame q Zh).symm))).symm⟩
     | exact ⟨rfl,congrArg (Value.int .i64) (ARa (congrArg nv (List.ext_getElem? fun q=>hsame q Zh))).symm⟩
    ·refine Zt (AAw rfl (Zo (AQ0 Zx (Zj (Zj (AIv (n:=i - 1) AAo rfl HA (show Value.int .i64 ((i:Int) - 1)=_ by rw [e1]) hx fun a3 Ai=>?_))))));refine AA7 ACg rfl Ai (Zj (Zj (AIv (n:=i - 1) AAo rfl HB (show Value.int .i64 ((i:Int) - 1)=_ by rw [e1]) hy fun a4 Aj=>?_)));refine AA7 ACg rfl Aj (AQ1 rfl rfl (fun Ak=>?_) (fun Ak=>?_))
     ·refine Zt (AAr rfl (Zn (Zt (Zw (ABi (ABi (AAc (AAc (ABi (AAc (⟨_,Zy,?_⟩)))))))))))
      first
      | exact ⟨rfl,congrArg (Value.int .i64) (AKc (AKe HA.dig htb Zh)).symm⟩
      | exact ⟨rfl,congrArg (Value.int .i64) (AKd (AKe HB.dig hta Zh)).symm⟩
      | exact ⟨rfl,congrArg (Value.int .i64) (AKc (AKf HA.dig HB.dig Zh hx hy Zh (fun q hq=>hsame q Zh))).symm⟩
      | exact ⟨rfl,congrArg (Value.int .i64) (AKd (AKf HB.dig HA.dig Zh hy hx Zh (fun q hq=>(hsame q Zh).symm))).symm⟩
      | exact ⟨rfl,congrArg (Value.int .i64) (ARa (congrArg nv (List.ext_getElem? fun q=>hsame q Zh))).symm⟩
     ·refine Zt (AAw rfl (Zv (q_b (q_b (q_t (AAa (Zj (AMs rfl rfl Zh Zh (Zt ?_)))))))));exact ⟨i - 1,i - 1,Zh,⟨rfl,rfl,Zh,fun q hq=>by rcases Nat.lt_or_ge q i with h2 | h2;obtain rfl:q=i - 1:=Zh;rw [hx,hy];congr 1;omega;exact hsame q h2⟩,by rw [show ((i - 1:Nat):Int) - 1=(i:Int) - 1 - 1 by omega];rfl,trivial⟩
   ·refine Zr (AAw rfl (AAh (AAi (AAi (ABj (q_t (Zn (Zt (Zw (⟨_,Zy,?_⟩))))))))))
    first
    | exact ⟨rfl,congrArg (Value.int .i64) (AKc (AKe HA.dig htb Zh)).symm⟩
    | exact ⟨rfl,congrArg (Value.int .i64) (AKd (AKe HB.dig hta Zh)).symm⟩
    | exact ⟨rfl,congrArg (Value.int .i64) (AKc (AKf HA.dig HB.dig Zh hx hy Zh (fun q hq=>hsame q Zh))).symm⟩
    | exact ⟨rfl,congrArg (Value.int .i64) (AKd (AKf HB.dig HA.dig Zh hy hx Zh (fun q hq=>(hsame q Zh).symm))).symm⟩
    | exact ⟨rfl,congrArg (Value.int .i64) (ARa (congrArg nv (List.ext_getElem? fun q=>hsame q Zh))).symm⟩
theorem Aco {h:Zu} {la lb:Nat} {va vb:Value} {LA LB:List Nat} (HA:DS h la va LA) (HB:DS h lb vb LB) (hna:LA.length<=1000) (hnb:LB.length<=1000):AAv Tryz.prog 167 #[va,vb] h fun x h'=>Ext h h'/\ ∃ L,DS h' (Array.size h) x L/\TL L/\nv L=nv LA + nv LB/\L.length<=1001:=by
 refine ABd (l:=[_,_]) mx Tryz.func167 rfl rfl rfl rfl rfl Zx (Zn (Zt (AUw 65027 (fun y:Value × Value × List Nat × List Nat=>[(0,y.1),(1,y.2.1)]) (fun y h'=>h'=h/\DS h 0 y.1 y.2.2.1/\DS h 0 y.2.1 y.2.2.2/\y.2.2.2.length<=y.2.2.1.length/\y.2.2.1.length<=1000/\nv y.2.2.1 + nv y.2.2.2=nv LA + nv LB) Zx ?_ ?_)))
 ·refine Zn (Zj (ABu AAo rfl HA (Zj (ABu AAo rfl HB (AEg rfl rfl (fun Ao=>?_) (fun Ao=>?_))))))
  ·refine Zr (AAr rfl (AAa (Zj (Zj (AAl (Zt ?_))))));exact ⟨(_,_,LB,LA),⟨rfl,HB.mono (Nat.zero_le _),HA.mono (Nat.zero_le _),by first | omega | (dsimp only;omega),hnb,Nat.add_comm _ _⟩,rfl,rfl,trivial⟩
  ·refine Zr (AAw rfl (Zv (q_t ?_)));exact ⟨(_,_,LA,LB),⟨rfl,HA.mono (Nat.zero_le _),HB.mono (Nat.zero_le _),by first | omega | (dsimp only;omega),hna,rfl⟩,rfl,rfl,trivial⟩
 rintro ⟨A9,Ba,A,B⟩ s0 h ⟨rfl,HX,HY,hBA,Ap,hsum⟩;dsimp only at HX HY hBA Ap hsum ⊢;refine Zn (Zj (ABu AAo rfl HX (APb (b:=1) rfl rfl Zh (Aai (n:=A.length + 1) AAo ALp (fun _=>trivial) rfl rfl Zk Zh fun g1 v1 h1 Aq E1 Ar Be=>?_))));have Bf:=E1.1;have Z2:=(Ext.refl h).trans E1;refine AA4 (Zt (Zo (Zn (Zj (ABu AAo rfl (HY.ext E1) (Zj (Zr (Zs (AFe 70368739983552 (fun y:Nat × Nat=>[(22,.int .i64 (y.1:Int)),(6,.int .u64 (y.2:Int))]) (fun k y h'=>k=B.length - y.1/\y.1<=B.length/\Ext h h'/\y.2<=1/\ ∃ D,ADk h' 172 g1 v1 ((D ++ List.replicate ((A.length + 1) - y.1) 0).map ANn)/\D.length=y.1/\Dig D/\nv D + 4294967296 ^ y.1 * y.2=nv (A.take y.1) + nv (B.take y.1)) Zx B.length (0,0) ?_ ⟨rfl,rfl,trivial⟩ ?_)))))))))
 ·exact ⟨rfl,Nat.zero_le _,E1,by first | omega | (dsimp only;omega),[],by simpa using Aq,rfl,fun x hx=>(by simp at hx),rfl⟩
 rintro k ⟨i,c⟩ s1 h2 ⟨rfl,hi,E2,hc,D,Ag,hDl,hDd,hDv⟩;dsimp only at hi hc Ag hDl hDv ⊢;have Bi:=E2.1;refine Zn (AEg rfl rfl (fun Au=>?_) (fun Au=>?_))
 ·refine Zr (Zo (AAr rfl (Zv (q_t (Zo (Zs (Zn (Zj (Zt (Zo ?_))))))))));obtain ⟨x,hx⟩:∃ x,A[i]? =some x:=⟨_,List.getElem?_eq_getElem Zh⟩;have hbx:=HX.dig x (List.mem_of_getElem? hx);obtain ⟨y,hy⟩:∃ x,B[i]? =some x:=⟨_,List.getElem?_eq_getElem Zh⟩;have hby:=HY.dig y (List.mem_of_getElem? hy);refine AQ0 Zx (Zj (Zj (Zj (AIv AAo rfl (HX.ext E2) rfl hx fun Bj Av=>AA7 ACg rfl Av (ASk AC7 ACn rfl hbx (Zj (Zj (AIv AAo rfl (HY.ext E2) rfl hy fun Bl Aw=>AA7 ACg rfl Aw (ASk AC7 ACn rfl hby (AOq rfl rfl Zh (AOq rfl rfl Zh (AA4 (Zj (Zj (Zj (AUh ACn AC7 rfl (ASu AAo rfl Ag rfl (by simp;omega) ?_)))))))))))))))));refine AUg (D ++ [(c + (x + y)) % 4294967296] ++ List.replicate (A.length + 1 - (i + 1)) 0) ACg rfl rfl Ag (by simp;omega) (AZl hDl Zh) fun h4 Ax U4=>?_;have Bn:=U4.1;have X7:=E2.thenUpd U4 (fun k hk=>by have Ad:k=g1:=hk;omega);have Z8:=E2.thenUpd U4 (fun k hk=>by have Ad:k=g1:=hk;omega);refine Zr (AAa (Zj (ATr rfl rfl (AAl (AAn (q_b (q_t (AAa (AJw rfl Zh (Zj (Zr ?_)))))))))));exact ⟨B.length - (i + 1),(i + 1,(c + (x + y)) / 4294967296),by first | omega | (dsimp only;omega),⟨rfl,by first | omega | (dsimp only;omega),X7,by first | omega | (dsimp only;omega),_,Ax,by simp [hDl],AMt hDd (Nat.mod_lt _ Zk),by rw [ALl,hDl,ATs hDv,ABz hx,ABz hy,Nat.mul_add];omega⟩,rfl,rfl,trivial⟩
 ·refine Zr (Zo (AAw rfl (AAh (AAi (AAi (ABj (q_t (Zo (Zn (Zj (ABu AAo rfl (HX.ext E2) (Zj (ABu AAo rfl (HY.ext E2) (AMs rfl rfl Zh Zh ?_))))))))))))));rw [show ((A.length:Nat):Int) - ((B.length:Nat):Int)=((A.length - B.length:Nat):Int) by omega];refine Zj (Zr (Zs ?_));obtain rfl:i=B.length:=by omega
  rw [List.take_length] at hDv;refine AFe 37778929611157348024640 (fun y:Nat × Nat=>[(51,.int .i64 (y.1:Int)),(6,.int .u64 (y.2:Int))]) (fun k y h'=>k=A.length - B.length - y.1/\y.1<=A.length - B.length/\Ext h h'/\y.2<=1/\ ∃ D,ADk h' 172 g1 v1 ((D ++ List.replicate ((A.length + 1) - (B.length + y.1)) 0).map ANn)/\D.length=B.length + y.1/\Dig D/\nv D + 4294967296 ^ (B.length + y.1) * y.2=nv (A.take (B.length + y.1)) + nv B) Zx (A.length - B.length) (0,c) ?_ ⟨rfl,rfl,trivial⟩ ?_
  ·exact ⟨rfl,Nat.zero_le _,E2,hc,D,Ag,hDl,hDd,hDv⟩
  rintro k ⟨j,c⟩ s2 h3 ⟨rfl,hj,E3,hc,D,Ae,hDl,hDd,hDv⟩;dsimp only at hj hc Ae hDl hDv ⊢;have Bq:=E3.1;refine Zn (AEg rfl rfl (fun Az=>?_) (fun Az=>?_))
  ·refine Zr (Zo (AAr rfl (Zv (q_t (Zo (Zs (Zn (Zj (Zt (Zo ?_))))))))));obtain ⟨x,hx⟩:∃ x,A[(B.length + j)]? =some x:=⟨_,List.getElem?_eq_getElem Zh⟩;have hbx:=HX.dig x (List.mem_of_getElem? hx);refine AAa (Zj (Zj (Zj (ABu AAo rfl (HY.ext E3) (Zj (APb rfl rfl Zh (AIv AAo rfl (HX.ext E3) rfl hx fun Br A3=>AA7 ACg rfl A3 (ASk AC7 ACn rfl hbx (AOq rfl rfl Zh (AA4 (Zj (Zj (ABu AAo rfl (HY.ext E3) (Zj (APb rfl rfl Zh (Zj (AUh ACn AC7 rfl (ASu AAo rfl Ae rfl (by simp;omega) ?_))))))))))))))))));refine AUg (D ++ [(c + x) % 4294967296] ++ List.replicate (A.length + 1 - (B.length + j + 1)) 0) ACg rfl rfl Ae (by simp;omega) (AZl hDl Zh) fun h5 A4 U5=>?_;have Bu:=U5.1;have A5:=E3.thenUpd U5 (fun k hk=>by have Ad:k=g1:=hk;omega);have Bv:=E3.thenUpd U5 (fun k hk=>by have Ad:k=g1:=hk;omega);refine Zr (AAa (Zj (ATr rfl rfl (AAl (AAn (q_b (q_t (AAa (AJw rfl Zh (Zj (Zr ?_)))))))))));exact ⟨A.length - B.length - (j + 1),(j + 1,(c + x) / 4294967296),by first | omega | (dsimp only;omega),⟨rfl,by first | omega | (dsimp only;omega),A5,by first | omega | (dsimp only;omega),_,A4,by simp [hDl];omega,AMt hDd (Nat.mod_lt _ Zk),by rw [ALl,hDl,<- Nat.add_assoc,ATs hDv,ABz hx];omega⟩,rfl,rfl,trivial⟩
  ·refine Zr (Zo (AAw rfl (AAh (AAi (AAi (ABj (q_t (Zo ?_))))))));obtain rfl:j=A.length - B.length:=by omega
   have hBj:B.length + (A.length - B.length)=A.length:=by omega
   rw [hBj,List.take_length] at hDv;rw [hBj] at hDl;refine AAa (Zj (Zj (ABu AAo rfl (HX.ext E3) (Zj (AUh ACn AC7 rfl (ASu AAo rfl Ae rfl (by simp;omega) ?_))))));refine AUg (D ++ [c % 4294967296] ++ List.replicate (A.length + 1 - (A.length + 1)) 0) ACg rfl rfl Ae (by simp;omega) (by rw [hBj];exact AZl hDl Zh) fun h6 Ak U6=>?_;have Bw:=U6.1;have A7:=E3.thenUpd U6 (fun k hk=>by have Ad:k=g1:=hk;omega);have Bx:=E3.thenUpd U6 (fun k hk=>by have Ad:k=g1:=hk;omega);rw [Nat.sub_self,List.replicate_zero,List.append_nil,Nat.mod_eq_of_lt Zh] at Ak;have Am:=Ak.ds (lo:=Array.size h) (AMt hDd Zh) Ar;refine AH7 (Zj (AAy trivial rfl (AMn (Am.mono (Nat.zero_le _)) (by simp;omega)) fun By h6 hk=>?_));obtain ⟨rfl,L2,HT,htl⟩:=hk;refine ⟨trivial,?_⟩;refine Zt (Zw (⟨_,Zy,?_⟩));exact ⟨A7,L2,HT.ds Am.lo,htl,by rw [HT.val,ALl,hDl,hDv];exact hsum,by have:=HT.len;simp at this;omega⟩
theorem AYs {h:Zu} {la lb:Nat} {va vb:Value} {LA LB:List Nat} (HA:DS h la va LA) (HB:DS h lb vb LB) (htb:TL LB) (hle:nv LB<=nv LA) (hna:LA.length<=1000):AAv Tryz.prog 168 #[va,vb] h fun x h'=>Ext h h'/\ ∃ L,DS h' (Array.size h) x L/\TL L/\nv L=nv LA - nv LB/\L.length<=LA.length:=by
 refine ABd (l:=[_,_]) mx Tryz.func168 rfl rfl rfl rfl rfl Zx (Zn (AA4 (Zj (ABu AAo rfl HA (Aai (n:=LA.length) AAo ALp (fun _=>trivial) rfl rfl Zk Zh fun g1 v1 h1 Aj E1 Ak Az=>?_)))));have A3:=E1.1;have Z2:=(Ext.refl h).trans E1;refine AA4 (Zt (Zo (Zn (Zj (ABu AAo rfl (HA.ext E1) (Zj (Zr (Zs (AFe 8796093006272 (fun y:Nat × Nat=>[(14,.int .i64 (y.1:Int)),(6,.int .u64 (y.2:Int))]) (fun k y h'=>k=LA.length - y.1/\y.1<=LA.length/\Ext h h'/\y.2<=1/\ ∃ D,ADk h' 172 g1 v1 ((D ++ List.replicate (LA.length - y.1) 0).map ANn)/\D.length=y.1/\Dig D/\nv D + nv (LB.take y.1)=nv (LA.take y.1) + 4294967296 ^ y.1 * y.2) Zx LA.length (0,0) ?_ ⟨rfl,rfl,trivial⟩ ?_)))))))))
 ·exact ⟨rfl,Nat.zero_le _,E1,by first | omega | (dsimp only;omega),[],by simpa using Aj,rfl,fun x hx=>(by simp at hx),rfl⟩
 rintro k ⟨i,c⟩ s1 h2 ⟨rfl,hi,E2,hc,D,Ab,hDl,hDd,hDv⟩;dsimp only at hi hc Ab hDl hDv ⊢;have A5:=E2.1;refine Zn (AEg rfl rfl (fun Am=>?_) (fun Am=>?_))
 ·refine Zr (Zo (AAr rfl (Zv (q_t (Zo (Zs (Zn (Zj (Zt (Zo ?_))))))))));obtain ⟨x,hx⟩:∃ x,LA[i]? =some x:=⟨_,List.getElem?_eq_getElem Zh⟩;have hbx:=HA.dig x (List.mem_of_getElem? hx);refine AAa (Zj (Zj (AIv AAo rfl (HA.ext E2) rfl hx fun A6 Ao=>AA7 ACg rfl Ao (ASk AC7 ACn rfl hbx (Zj (AFg rfl rfl ?_))))));rw [wrap_u64];refine Zt (AUw 34342961408 (fun s:Int=>[(8,.int .u64 (s % 18446744073709551616))]) (fun s h'=>h'=h2/\s=((x:Int) - (c:Int) - ((LB[i]?.getD 0:Nat):Int))) Zx ?_ ?_)
  ·refine Zn (Zj (Zj (ABu AAo rfl (HB.ext E2) (AEg rfl rfl (fun Ap=>?_) (fun Ap=>?_)))))
   ·refine Zr (AAr rfl ?_);obtain ⟨y,Af⟩:∃ y,LB[i]? =some y:=⟨_,List.getElem?_eq_getElem Zh⟩;have hby:=HB.dig y (List.mem_of_getElem? Af);refine AAa (Zj (Zj (Zj (AIv AAo rfl (HB.ext E2) rfl Af fun A7 Aq=>AA7 ACg rfl Aq (ASk AC7 ACn rfl hby (AFg rfl rfl (Zt ?_)))))));exact ⟨((x:Int) - (c:Int) - ((LB[i]?.getD 0:Nat):Int)),⟨rfl,rfl⟩,by rw [Af];show Value.int .u64 _=_;congr 1;rw [wrap_u64];simp only [Option.getD_some];omega,trivial⟩
   ·refine Zr (AAw rfl (Zv (q_t ?_)));exact ⟨((x:Int) - (c:Int) - ((LB[i]?.getD 0:Nat):Int)),⟨rfl,rfl⟩,by rw [List.getElem?_eq_none Zh];show Value.int .u64 _=_;congr 1;simp only [Option.getD_none];omega,trivial⟩
  rintro s s2 h2 ⟨rfl,hs⟩;obtain ⟨y,hy⟩:∃ y,LB[i]?.getD 0=y:=⟨_,rfl⟩;rw [hy] at hs;refine Zo ?_
  have hby:y < 4294967296:=by
    rw [<- hy]
    cases hq:LB[i]? with
    | none=>simp
    | some q=>exact HB.dig q (List.mem_of_getElem? hq)
  refine AAa (Zj (Zj (Zj (AMr ACn AC7 rfl ?_))));obtain ⟨dg,hdg⟩:∃ dg:Nat,(dg:Int)=s % 4294967296:=⟨(s % 4294967296).toNat,Zh⟩;rw [show IntKind.u32.wrap (s % 18446744073709551616)=(dg:Int) by rw [wrap_u32,hdg];omega];refine ASu AAo rfl Ab rfl (by simp;omega) ?_;refine AUg (D ++ [dg] ++ List.replicate (LA.length - (i + 1)) 0) ACg rfl rfl Ab (by simp;omega) (AZl hDl Zh) fun h4 Ar U4=>?_;have A9:=U4.1;have X7:=E2.thenUpd U4 (fun k hk=>by have Av:k=g1:=hk;omega);have Z8:=E2.thenUpd U4 (fun k hk=>by have Av:k=g1:=hk;omega);refine Zr (AAa (Zj (Aaf (n:=63) rfl rfl Zk ?_)));rw [show s % 18446744073709551616 / 2 ^ 63=((if s < 0 then 1 else 0:Nat):Int) by split <;> omega];refine AAl (AAn (q_b (q_t (AAa (AJw rfl Zh (Zj (Zr ?_)))))));exact ⟨LA.length - (i + 1),(i + 1,if s < 0 then 1 else 0),by first | omega | (dsimp only;omega),⟨rfl,by first | omega | (dsimp only;omega),X7,by dsimp only;split <;> omega,_,Ar,by simp [hDl],AMt hDd Zh,by rw [ALl,hDl,ALm LB,hy,ABz hx];exact AU7 hDv (by split <;> omega)⟩,rfl,rfl,trivial⟩
 ·refine Zr (Zo (AAw rfl (AAh (AAi (AAi (ABj (q_t (Zo ?_))))))));obtain rfl:i=LA.length:=by omega
  rw [List.take_length,List.take_of_length_le (by have:=AMe htb (Nat.lt_of_le_of_lt hle (ANe HA.dig));omega)] at hDv;have hDlt:=ANe hDd;rw [hDl] at hDlt
  have Aw:c=0:=by
    rcases Nat.eq_zero_or_pos c with h0 | h0
    · exact h0
    · obtain rfl:c=1:=by omega
      rw [Nat.mul_one] at hDv;omega
  subst Aw;rw [Nat.mul_zero,Nat.add_zero] at hDv;rw [Nat.sub_self,List.replicate_zero,List.append_nil] at Ab;have Ai:=Ab.ds (lo:=Array.size h) hDd Ak;refine AAa (Zj (AAy trivial rfl (AMn (Ai.mono (Nat.zero_le _)) Zh) fun x9 h2 hk=>?_));obtain ⟨rfl,L2,HT,htl⟩:=hk;refine ⟨trivial,?_⟩;refine Zt (Zw (⟨_,Zy,?_⟩));exact ⟨E2,L2,HT.ds Ai.lo,htl,by rw [HT.val];omega,by have:=HT.len;omega⟩
theorem Aog {L:List Nat} (h:Dig L) (hl:L.length<=1):nv L<=4294967295:=by
 have h1:=ANe h;have h2:4294967296 ^ L.length<=4294967296 ^ 1:=Nat.pow_le_pow_right Zk hl;omega
theorem Aoh {A B:List Nat} (ha:Dig A) (hb:Dig B) (la:A.length<=1) (lb:B.length<=1):nv A * nv B < 18446744073709551616:=by
 have:=Nat.mul_le_mul (Aog ha la) (Aog hb lb);omega
theorem APd {a b:Nat} (h:0<=ANm a b):b<=a:=by
 unfold ANm at h;split at h
 ·omega
 ·omega
theorem ATv {a b:Nat} (h:ANm a b < 0):a<=b:=by
 unfold ANm at h;split at h
 ·omega
 ·split at h <;> omega
theorem Aam {A B:List Nat} (ha:Dig A) (hb:Dig B) (la:A.length<=99) (lb:B.length<=99):nv A + nv B < 4294967296 ^ 100:=by
 have h1:=ANe ha;have h2:=ANe hb;have h3:4294967296 ^ A.length<=4294967296 ^ 99:=Nat.pow_le_pow_right Zk la;have h4:4294967296 ^ B.length<=4294967296 ^ 99:=Nat.pow_le_pow_right Zk lb;have h5:4294967296 ^ 100=4294967296 ^ 99 * 4294967296:=Nat.pow_succ 4294967296 99;rw [h5];have h6:0 < 4294967296 ^ 99:=Nat.pow_pos Zk;generalize 4294967296 ^ 99=t at *;omega
theorem ATw {a b:Bool} {x y:Nat} (h:a=b):sgn a x + sgn b y=sgn a (x + y):=by
 subst h;cases a <;> simp [sgn] <;> omega
theorem ATx {a b:Bool} {x y:Nat} (h:a≠b) (hl:y<=x):sgn a x + sgn b y=sgn a (x - y):=by
 cases a <;> cases b <;> simp [sgn] at h ⊢ <;> omega
theorem ARb {a b:Bool} {x y:Nat} (h:a≠b) (hl:x<=y):sgn a x + sgn b y=sgn b (y - x):=by
 cases a <;> cases b <;> simp [sgn] at h ⊢ <;> omega
theorem Adw {h:Zu} {la lb:Nat} {va vb:Value} {LA LB:List Nat} (na nb:Bool) (HA:DS h la va LA) (HB:DS h lb vb LB) (hta:TL LA) (htb:TL LB) (hna:LA.length<=99) (hnb:LB.length<=99):AAv Tryz.prog 177 #[.bool na,va,.bool nb,vb] h fun x h'=>Ext h h'/\ZV h' (Array.size h) x (sgn na (nv LA) + sgn nb (nv LB)):=by
 refine ABd (l:=[_,_,_,_]) mx Tryz.func177 rfl rfl rfl rfl rfl Zx (Zn (AG0 [.bool false,.slice none 0 0] AE0 rfl (fun _=>trivial) fun Ab h2 V3 E4 A8 Cg=>?_));have Ch:Array.size h<=Ab:=A8;have Ci:=E4.1;have Z8:=(Ext.refl h).trans E4;refine Zr (Zo (Zs (Zn (Zj (Zj (Aez AVq rfl rfl ?_))))));cases Cj:na == nb
 ·refine Zt (AAw rfl (Zn (Zj (Zj (AAy trivial rfl (AWe (HA.ext E4) (HB.ext E4) hta htb Zh Zh) fun x9 h2 hk=>?_)))));obtain ⟨rfl,rfl⟩:=hk;refine ⟨trivial,?_⟩;refine AU0 rfl rfl (fun A9=>?_) (fun A9=>?_)
  ·refine Zt (AAr rfl (Zn (Zj (Zj (Zj (AAy trivial rfl (AYs (HA.ext E4) (HB.ext E4) htb (APd (by assumption)) Zh) fun Cm Cn hk=>?_))))));obtain ⟨Aq,L1,Ac,Ag,Ah,A6⟩:=hk;refine ⟨trivial,?_⟩;have Co:=Aq.1;have Ba:=Z8.trans Aq;have Bb:=E4.trans Aq;have Bc:=V3.ext Aq;have Be:=E4.trans Aq;refine AAy trivial rfl (AJ1 na Ac Ag Zh) fun Cp Cq hk=>?_;obtain ⟨Ai,Ar⟩:=hk;refine ⟨trivial,?_⟩;have Cr:=Ai.1;have Bf:=Ba.trans Ai;have Bg:=Bb.trans Ai;have Bh:=Bc.ext Ai;have Bi:=Be.trans Ai;have Bj:=Ac.ext Ai;obtain ⟨Ad,s2,L2,rfl,Ae,Av,Aw,Ax⟩:=Ar.out;refine AB8 [.bool Ad,s2] ABk rfl rfl rfl rfl (AJh Ae.cap) Bh fun Ct Bl Aj=>?_;have Bm:=Bg.thenUpd Aj (fun k hk=>by have Af:k=Ab:=hk;omega);have Cu:=Aj.1;have Cv:=Bf.thenUpd Aj (fun k hk=>by have Af:k=Ab:=hk;omega);have Cw:=Bi.thenUpd Aj (fun k hk=>by have Af:k=Ab:=hk;omega);have Cx:=Bj.updLo Aj Zh;have Bn:=Ae.updLo Aj Zh;refine Zr (Zw (ABi (AAc (⟨_,ACb ABk rfl rfl Bl,?_⟩))));exact ⟨Bm,⟨Ad,s2,L2,rfl,Bn.mono Zh,Av,Aw,by rw [<- Ax,Ah];first | exact ATw (eq_of_beq (by assumption)) | exact ATx (ne_of_beq_false (by assumption)) (APd (by assumption)) | exact ARb (ne_of_beq_false (by assumption)) (ATv (by assumption))⟩⟩
  ·refine Zt (AAw rfl (Zv (q_b (q_t (Zn (Zj (Zj (Zj (AAy trivial rfl (AYs (HB.ext E4) (HA.ext E4) hta (ATv (by assumption)) Zh) fun Cy Cz hk=>?_)))))))));obtain ⟨Ay,L1,Ac,Ag,Ah,A6⟩:=hk;refine ⟨trivial,?_⟩;have C0:=Ay.1;have Bo:=Z8.trans Ay;have Bp:=E4.trans Ay;have Bq:=V3.ext Ay;have Br:=E4.trans Ay;refine AAy trivial rfl (AJ1 nb Ac Ag Zh) fun C1 C2 hk=>?_;obtain ⟨Ak,Ar⟩:=hk;refine ⟨trivial,?_⟩;have C3:=Ak.1;have Bt:=Bo.trans Ak;have Bu:=Bp.trans Ak;have Bv:=Bq.ext Ak;have Bw:=Br.trans Ak;have Bx:=Ac.ext Ak;obtain ⟨Ad,s2,L2,rfl,Ae,Av,Aw,Ax⟩:=Ar.out;refine AB8 [.bool Ad,s2] ABk rfl rfl rfl rfl (AJh Ae.cap) Bv fun C4 By Am=>?_;have Bz:=Bu.thenUpd Am (fun k hk=>by have Af:k=Ab:=hk;omega);have C5:=Am.1;have C6:=Bt.thenUpd Am (fun k hk=>by have Af:k=Ab:=hk;omega);have C7:=Bw.thenUpd Am (fun k hk=>by have Af:k=Ab:=hk;omega);have C8:=Bx.updLo Am Zh;have B1:=Ae.updLo Am Zh;refine Zr (Zw (⟨_,ACb ABk rfl rfl By,?_⟩));exact ⟨Bz,⟨Ad,s2,L2,rfl,B1.mono Zh,Av,Aw,by rw [<- Ax,Ah];first | exact ATw (eq_of_beq (by assumption)) | exact ATx (ne_of_beq_false (by assumption)) (APd (by assumption)) | exact ARb (ne_of_beq_false (by assumption)) (ATv (by assumption))⟩⟩
 ·refine Zt (AAr rfl (Zn (Zj (Zj (Zj (AAy trivial rfl (Aco (HA.ext E4) (HB.ext E4) Zh Zh) fun C9 Da hk=>?_))))));obtain ⟨Az,L1,Ac,Ag,Ah,A6⟩:=hk;refine ⟨trivial,?_⟩;have Db:=Az.1;have B3:=Z8.trans Az;have B4:=E4.trans Az;have B5:=V3.ext Az;have B6:=E4.trans Az;refine AAy trivial rfl (AJ1 na Ac Ag (AMe Ag (by rw [Ah];exact Aam HA.dig HB.dig hna hnb))) fun Dc Dd hk=>?_;obtain ⟨Ao,Ar⟩:=hk;refine ⟨trivial,?_⟩;have De:=Ao.1;have B7:=B3.trans Ao;have B8:=B4.trans Ao;have B9:=B5.ext Ao;have Ca:=B6.trans Ao;have Cb:=Ac.ext Ao;obtain ⟨Ad,s2,L2,rfl,Ae,Av,Aw,Ax⟩:=Ar.out;refine AB8 [.bool Ad,s2] ABk rfl rfl rfl rfl (AJh Ae.cap) B9 fun Df Cd Ap=>?_;have Ce:=B8.thenUpd Ap (fun k hk=>by have Af:k=Ab:=hk;omega);have Dg:=Ap.1;have Dh:=B7.thenUpd Ap (fun k hk=>by have Af:k=Ab:=hk;omega);have Di:=Ca.thenUpd Ap (fun k hk=>by have Af:k=Ab:=hk;omega);have Dj:=Cb.updLo Ap Zh;have Cf:=Ae.updLo Ap Zh;refine Zr (Zw (ABi (AAc (⟨_,ACb ABk rfl rfl Cd,?_⟩))));exact ⟨Ce,⟨Ad,s2,L2,rfl,Cf.mono Zh,Av,Aw,by rw [<- Ax,Ah];first | exact ATw (eq_of_beq (by assumption)) | exact ATx (ne_of_beq_false (by assumption)) (APd (by assumption)) | exact ARb (ne_of_beq_false (by assumption)) (ATv (by assumption))⟩⟩
theorem AE8 {ng:Bool} {n:Nat} {z:Int} (h:z=sgn ng n):z.natAbs=n:=by
 subst h;cases ng <;> simp [sgn]
theorem Aiu (ng:Bool) (n:Nat):sgn (!ng) n= -sgn ng n:=by cases ng <;> simp [sgn]
theorem Sub_ok {h:Zu} {la lb:Nat} {va vb:Value} {a b:Int} (HA:ZV h la va a) (HB:ZV h lb vb b) (hba:a.natAbs < 4294967296 ^ 99) (hbb:b.natAbs < 4294967296 ^ 99):AAv Tryz.prog 162 #[va,vb] h fun x h'=>Ext h h'/\ZV h' (Array.size h) x (a - b):=by
 obtain ⟨na,sa,LA,rfl,HDa,htla,hla,hza⟩:=HA.out;obtain ⟨nb,sb,LB,rfl,HDb,htlb,hlb,hzb⟩:=HB.out;refine ABd (l:=[_,_]) mx Tryz.func162 rfl rfl rfl rfl rfl Zx (Zn (AJj [.bool na,sa] (fun _=>trivial) rfl rfl fun Aj h2 V3 E4 A8 B3=>?_));have B4:Array.size h<=Aj:=A8;have B5:=E4.1;have Z8:=(Ext.refl h).trans E4;refine AJj [.bool nb,sb] (fun _=>trivial) rfl rfl fun Ak B6 Ar Af Ba B7=>?_;have B8:Array.size h<=Ak:=Nat.le_trans E4.1 Ba;have nebq1bq9:Aj≠Ak:=by have:=V3.lt;omega
 have B9:=Af.1;have Au:=E4.trans Af;have Av:=V3.ext Af;refine AG0 [.bool false,.slice none 0 0] AE0 rfl (fun _=>trivial) fun Ab Ah Bb Ac Bc Ca=>?_;have Cb:Array.size h<=Ab:=Nat.le_trans Au.1 Bc;have nebq1bq20:Aj≠Ab:=by have:=Av.lt;omega
 have nebq9bq20:Ak≠Ab:=by have:=Ar.lt;omega
 have Cd:=Ac.1;have Be:=(Z8.trans Af).trans Ac;have Am:=Au.trans Ac;have Aw:=Av.ext Ac;have Bf:=(E4.trans Af).trans Ac;have Ax:=Ar.ext Ac;have Bg:=Af.trans Ac;refine Zr (Zo (ACd (fun h'=>Ext Ah h') Zx ?_));have Aa:=Ext.refl Ah;refine AFv (fs:=1) ALi Zx Zk rfl (ACf AEi rfl Aa (fun h' hb=>(Aw.ext hb).cell (i:=0) rfl) (AFv (fs:=1) AL4 Zx Zk rfl (ACf AHr rfl Aa (fun h' hb=>(Aw.ext hb).cell (i:=1) rfl) (AAy Aa rfl (AMn (DS.mono (HDa.ext Am) (Nat.zero_le _)) Zh) fun Ce Ah hk=>?_))));obtain ⟨rfl,L1,Ao,Ay⟩:=hk;refine ⟨Aa,?_⟩;have Bh:=Ao.ds (lo:=la) HDa.lo;have Az:=Ao.val;have Cg:=Ao.len;refine AFv (fs:=1) ALi Zx Zk rfl (ACf AEi rfl Aa (fun h' hb=>(Ax.ext hb).cell (i:=0) rfl) (ACt rfl (AFv (fs:=1) AL4 Zx Zk rfl (ACf AHr rfl Aa (fun h' hb=>(Ax.ext hb).cell (i:=1) rfl) (AAy Aa rfl (AMn (DS.mono (HDb.ext Am) (Nat.zero_le _)) Zh) fun Ch Ah hk=>?_)))));obtain ⟨rfl,L2,Ap,A3⟩:=hk;refine ⟨Aa,?_⟩;have Bi:=Ap.ds (lo:=lb) HDb.lo;have A4:=Ap.val;have Cj:=Ap.len;refine AAy Aa rfl (Adw na (!nb) Bh Bi Ay A3 (AMe Ay (by rw [Az,<- AE8 hza];exact hba)) (AMe A3 (by rw [A4,<- AE8 hzb];exact hbb))) fun Ck Cm hk=>?_;obtain ⟨Ad,Bj⟩:=hk;have Bl:=Aa.trans Ad;refine ⟨Bl,?_⟩;have Cn:=Ad.1;have Bm:=Be.trans Ad;have Bn:=Am.trans Ad;have Bo:=Bf.trans Ad;have Bp:=Bg.trans Ad;have Bq:=Bb.ext Ad;have Br:=Ac.trans Ad;obtain ⟨A5,s3,L3,rfl,A7,Bu,Bv,Bw⟩:=Bj.out;refine AB8 [.bool A5,s3] ABk rfl rfl rfl rfl (AJh A7.cap) Bq fun Co Bx Ae=>?_;have By:=Bn.thenUpd Ae (fun k hk=>by have Ai:k=Ab:=hk;omega);have Cp:=Ae.1;have Cq:=Bm.thenUpd Ae (fun k hk=>by have Ai:k=Ab:=hk;omega);have Cr:=Br.thenUpd Ae (fun k hk=>by have Ai:k=Ab:=hk;omega);have Ct:=Bo.thenUpd Ae (fun k hk=>by have Ai:k=Ab:=hk;omega);have Cu:=Bp.thenUpd Ae (fun k hk=>by have Ai:k=Ab:=hk;omega);have Bz:=A7.updLo Ae Zh;refine Zr (Zw (⟨_,ACb ABk rfl rfl Bx,?_⟩));exact ⟨By,⟨A5,s3,L3,rfl,Bz.mono Zh,Bu,Bv,by rw [<- Bw,Az,A4,hza,hzb,Aiu];omega⟩⟩
theorem Adg (a b:Bool) (x y:Nat):sgn a x * sgn b y=sgn (!(a == b)) (x * y):=by
 cases a <;> cases b <;> simp [sgn,Int.neg_mul,Int.mul_neg]
theorem Ag4 {L:List Nat} (h:Dig L) (hl:L.length<=2):nv L < 18446744073709551616:=by
 have h1:=ANe h;have h2:4294967296 ^ L.length<=4294967296 ^ 2:=Nat.pow_le_pow_right Zk hl;omega
theorem AXj {a b:Nat} (h:ANm a b < 0):a < b:=by
 unfold ANm at h;split at h
 ·assumption
 ·split at h <;> omega
theorem Ahm {h:Zu} {la lb:Nat} {va vb:Value} {LA LB:List Nat} (HA:DS h la va LA) (HB:DS h lb vb LB) (hta:TL LA) (htb:TL LB) (Ar:nv LB≠0) (hna:LA.length<=2) (hnb:LB.length<=2):AAv Tryz.prog 166 #[va,vb] h fun x h'=>Ext h h'/\ ∃ q r,x= .tuple #[q,r]/\ ∃ LQ LR,DS h' (Array.size h) q LQ/\DS h' (Array.size h) r LR/\TL LQ/\TL LR/\nv LQ=nv LA / nv LB/\nv LR=nv LA % nv LB/\LQ.length<=2/\LR.length<=2:=by
 refine ABd (l:=[_,_]) mx Tryz.func166 rfl rfl rfl rfl rfl Zx (Zn (AAl (Zt (Zo (Zs (Zn (Zj (Zj (AAy trivial rfl (AWe HA HB hta htb Zh Zh) fun x1 h hk=>?_)))))))));obtain ⟨rfl,rfl⟩:=hk;refine ⟨trivial,?_⟩;refine AEg rfl rfl (fun Am=>?_) (fun Am=>?_)
 ·refine Zt (AAr rfl (Zn (Zj (AAy trivial rfl (AYr HA Zh) fun x2 h3 hk=>?_))));obtain ⟨E4,Aa⟩:=hk;refine ⟨trivial,?_⟩;have Ax:=E4.1;have Z6:=(Ext.refl h).trans E4;refine AAl (Zt (Zw (ABi (AAc (⟨_,ABf,?_⟩)))))
  first
  | (have hlt:=AXj (by assumption:ANm (nv LA) (nv LB) < 0)
     exact ⟨E4,_,_,rfl,[],LA,AQ5 _ _,Aa,ASj,hta,by rw [Nat.div_eq_of_lt hlt];rfl,by rw [Nat.mod_eq_of_lt hlt],AA3,Zh⟩)
  | exact ⟨E4,_,_,rfl,L1,L2,lacks_HD1.mono Zh,Aa.mono Zh,Ag,Ah,Ai,Aj,Zh,Zh⟩
 ·refine Zt (AAw rfl (Zn (Zj (ABu AAo rfl HA (ASv rfl rfl (fun _=>?_) (fun hc=>absurd hc Zh))))));refine Zt (AAr rfl (Zn (Zj (AAy trivial rfl (AZs HA Zh) fun x7 h hk=>?_))));obtain ⟨rfl,rfl⟩:=hk;refine ⟨trivial,?_⟩;refine Zj (AAy trivial rfl (AZs HB Zh) fun x8 h hk=>?_);obtain ⟨rfl,rfl⟩:=hk;refine ⟨trivial,?_⟩;refine AAl (Zt (Zo ?_));have hlt:=Ag4 HA.dig hna;refine AQ0 Zx (Zj (Zj (AUx rfl rfl Zh ?_)));rw [show IntKind.u64.wrap (((nv LA:Nat):Int).tdiv ((nv LB:Nat):Int))=((nv LA / nv LB:Nat):Int) by rw [Int.tdiv_eq_ediv_of_nonneg Zh,<- Int.natCast_ediv,wrap_u64];have hq:=Nat.div_le_self (nv LA) (nv LB);generalize nv LA / nv LB=q at hq ⊢;omega];refine AAy trivial rfl (APx (nv LA / nv LB) (by have:=Nat.div_le_self (nv LA) (nv LB);omega) _) fun x9 A5 hk=>?_;obtain ⟨Ad,L1,Ao,Ag,Ai,A6⟩:=hk;refine ⟨trivial,?_⟩;have A7:=Ad.1;have Ap:=(Ext.refl h).trans Ad;refine Zj (Zj (Amm rfl rfl Zh (AAy trivial rfl (APx (nv LA % nv LB) (by have:=Nat.mod_le (nv LA) (nv LB);omega) _) fun A8 A9 hk=>?_)));obtain ⟨Ac,L2,Aa,Ah,Aj,Ba⟩:=hk;refine ⟨trivial,?_⟩;have Bb:=Ac.1;have Bc:=Ap.trans Ac;have Ak:=Ad.trans Ac;have Aq:=Ao.ext Ac;refine AAl (Zt (Zw (ABi (AAc (⟨_,ABf,?_⟩)))))
  first
  | (have hlt:=AXj (by assumption:ANm (nv LA) (nv LB) < 0)
     exact ⟨Ak,_,_,rfl,[],LA,AQ5 _ _,Aa,ASj,hta,by rw [Nat.div_eq_of_lt hlt];rfl,by rw [Nat.mod_eq_of_lt hlt],AA3,Zh⟩)
  | exact ⟨Ak,_,_,rfl,L1,L2,Aq.mono Zh,Aa.mono Zh,Ag,Ah,Ai,Aj,Zh,Zh⟩
theorem AMc {a b q r:Int} (hb:b≠0) (h:a=b * q + r) (h0:0<=r) (h1:r < b.natAbs):a / b=q/\a % b=r:=by
 have hr:r % b=r:=by
   rcases ASy 0 b with hp | hn
   · exact Int.emod_eq_of_lt h0 Zh
   · rw [<- Int.emod_neg];exact Int.emod_eq_of_lt h0 Zh
 have hm:a % b=r:=by rw [h,Int.add_comm,Int.add_mul_emod_self_left];exact hr
 refine ⟨?_,hm⟩;have h2:=Int.mul_ediv_add_emod a b;rw [hm] at h2;have h3:b * (a / b)=b * q:=by omega
 exact Int.eq_of_mul_eq_mul_left hb h3
theorem At5 {A B:Nat} (hA:A < 18446744073709551616) (hr:A % B≠0):A / B + 1 < 18446744073709551616:=by
 match B with
 | 0=>simp
 | 1=>omega
 | n + 2=>
   have:A / (n + 2)<=A / 2:=Nat.div_le_div_left (show 2<=n + 2 by omega) Zh
   omega
theorem At6 {nb:Bool} {A B:Nat} (hB:B≠0):sgn nb (A / B)=(A:Int) / sgn nb B/\sgn false (A % B)=(A:Int) % sgn nb B:=by
 have h:=Nat.div_add_mod A B;have hl:=Nat.mod_lt A (Nat.pos_of_ne_zero hB);have h2:(A:Int)=(B:Int) * ((A / B:Nat):Int) + ((A % B:Nat):Int):=by rw [<- Int.natCast_mul,<- Int.natCast_add,h]
 have:=AMc (a:=A) (b:=sgn nb B) (q:=sgn nb (A / B)) (r:=((A % B:Nat):Int)) (by cases nb <;> simp [sgn] <;> omega) (by cases nb <;> simp only [sgn] <;> simp [Int.neg_mul_neg] <;> (rw [<- Int.natCast_ediv,<- Int.natCast_emod];exact h2)) Zh (by cases nb <;> simp only [sgn] <;> simp <;> omega);exact ⟨this.1.symm,this.2.symm⟩
theorem Arh {nb:Bool} {A B:Nat} (hB:B≠0) (hr:A % B≠0):sgn (!nb) (A / B + 1)= -(A:Int) / sgn nb B/\sgn false (B - A % B)= -(A:Int) % sgn nb B:=by
 have h:=Nat.div_add_mod A B;have hl:=Nat.mod_lt A (Nat.pos_of_ne_zero hB);have h2:(A:Int)=(B:Int) * ((A / B:Nat):Int) + ((A % B:Nat):Int):=by rw [<- Int.natCast_mul,<- Int.natCast_add,h]
 obtain ⟨q,hq⟩:∃ q,A / B=q:=⟨_,rfl⟩;obtain ⟨r,hrr⟩:∃ r,A % B=r:=⟨_,rfl⟩;rw [hq,hrr] at h2;rw [hrr] at hl hr;rw [hq,hrr];have e:((B - r:Nat):Int)=(B:Int) - (r:Int):=by omega
 have:=AMc (a:= -(A:Int)) (b:=sgn nb B) (q:=sgn (!nb) (q + 1)) (r:=((B - r:Nat):Int)) (by cases nb <;> simp [sgn] <;> omega) (by rw [h2,e];cases nb <;> simp [sgn] <;> grind) Zh (by cases nb <;> simp only [sgn] <;> simp <;> omega);exact ⟨this.1.symm,this.2.symm⟩
theorem Ari {nb:Bool} {A B:Nat} (hB:B≠0) (hr:A % B=0):sgn (!nb) (A / B)= -(A:Int) / sgn nb B/\sgn false (A % B)= -(A:Int) % sgn nb B:=by
 have h:=Nat.div_add_mod A B;have h2:(A:Int)=(B:Int) * ((A / B:Nat):Int):=by rw [<- Int.natCast_mul];omega
 obtain ⟨q,hq⟩:∃ q,A / B=q:=⟨_,rfl⟩;rw [hq] at h2;rw [hq,hr];have:=AMc (a:= -(A:Int)) (b:=sgn nb B) (q:=sgn (!nb) q) (r:=0) (by cases nb <;> simp [sgn] <;> omega) (by rw [h2];cases nb <;> simp [sgn] <;> grind) Zh (by cases nb <;> simp only [sgn] <;> simp <;> omega);exact ⟨this.1.symm,this.2.symm⟩
theorem DivMod2_ok {h:Zu} {la lb:Nat} {va vb:Value} {a b:Int} (HA:ZV h la va a) (HB:ZV h lb vb b) (hba:a.natAbs < 18446744073709551616) (hbb:b.natAbs < 18446744073709551616) (C6:b≠0):AAv Tryz.prog 135 #[va,vb] h fun x h'=>Ext h h'/\ ∃ q r,x= .tuple #[q,r,.bool true]/\ZV h' (Array.size h) q (a / b)/\ZV h' (Array.size h) r (a % b):=by
 obtain ⟨na,sa,LA,rfl,HDa,htla,hla,hza⟩:=HA.out;obtain ⟨nb,sb,LB,rfl,HDb,htlb,hlb,hzb⟩:=HB.out;refine ABd (l:=[_,_]) mx Tryz.func135 rfl rfl rfl rfl rfl Zx (Zn (AJj [.bool na,sa] (fun _=>trivial) rfl rfl fun A6 h2 V3 E4 C7 C8=>?_));have Ho:Array.size h<=A6:=C7;have Hq:=E4.1;have Z8:=(Ext.refl h).trans E4;refine AJj [.bool nb,sb] (fun _=>trivial) rfl rfl fun A7 Hr Bc Ba Da Hs=>?_;have Ht:Array.size h<=A7:=Nat.le_trans E4.1 Da;have nebq1bq9:A6≠A7:=by have:=V3.lt;omega
 have Hu:=Ba.1;have Ch:=E4.trans Ba;have Be:=V3.ext Ba;refine AG0 [.bool false,.slice none 0 0] AE0 rfl (fun _=>trivial) fun Ac Hv Ci Ay Db Hw=>?_;have Hx:Array.size h<=Ac:=Nat.le_trans Ch.1 Db;have nebq1bq20:A6≠Ac:=by have:=Be.lt;omega
 have nebq9bq20:A7≠Ac:=by have:=Bc.lt;omega
 have Hy:=Ay.1;have Dc:=(Z8.trans Ba).trans Ay;have Cj:=Ch.trans Ay;have Ck:=Be.ext Ay;have Dd:=(E4.trans Ba).trans Ay;have Cm:=Bc.ext Ay;refine AG0 [.bool false,.slice none 0 0] AE0 rfl (fun _=>trivial) fun Aa Cn De Ax Df Hz=>?_;have H5:Array.size h<=Aa:=Nat.le_trans Cj.1 Df;have nebq1bq33:A6≠Aa:=by have:=Ck.lt;omega
 have nebq9bq33:A7≠Aa:=by have:=Cm.lt;omega
 have nebq20bq33:Ac≠Aa:=by have:=Ci.lt;omega
 have Ia:=Ax.1;have Dg:=Dc.trans Ax;have Bv:=Cj.trans Ax;have Co:=Ck.ext Ax;have Dh:=Dd.trans Ax;have Cp:=Cm.ext Ax;have Di:=(Ba.trans Ay).trans Ax;have Dj:=Ci.ext Ax;have Dk:=Ay.trans Ax;refine AA4 (AFv (fs:=1) AL4 Zx Zk rfl (AA7 AHr rfl (Cp.cell (i:=1) rfl) (AAy trivial rfl (AMn (DS.mono (HDb.ext Bv) (Nat.zero_le _)) Zh) fun Ib Cn hk=>?_)));obtain ⟨rfl,L2,Bw,Bx⟩:=hk;refine ⟨trivial,?_⟩;have By:=Bw.ds (lo:=lb) HDb.lo;have A8:=Bw.val;have Ic:=Bw.len;refine Zt (Zo (Zn (Zj (ABu AAo rfl By ?_))));have Bf:nv LB≠0:=fun h0=>C6 (by rw [hzb,h0];cases nb <;> rfl);have hLB:L2≠[]:=fun h0=>Bf (by rw [<- A8,h0];rfl);have hLp:=List.length_pos_iff.2 hLB;refine ASw rfl rfl (fun hc=>absurd hc Zh) (fun _=>Zr (AAw rfl (Zv (q_t (Zn (AFv (fs:=1) AL4 Zx Zk rfl (AA7 AHr rfl (Co.cell (i:=1) rfl) (AAy trivial rfl (AMn (DS.mono (HDa.ext Bv) (Nat.zero_le _)) Zh) fun Id Cn hk=>?_))))))));obtain ⟨rfl,L1,Bz,Cr⟩:=hk;refine ⟨trivial,?_⟩;have Ct:=Bz.ds (lo:=la) HDa.lo;have Cu:=Bz.val;have If:=Bz.len;refine Zj (AAy trivial rfl (Ahm Ct By Cr Bx (by rw [A8];exact Bf) (AMe Cr (by rw [Cu,<- AE8 hza];omega)) (AMe Bx (by rw [A8,<- AE8 hzb];omega))) fun Ih Ii hk=>?_);obtain ⟨Am,qv,rv,rfl,LQ,LR,HQ,HR,htq,htr,hvq,hvr,hlq,hlr⟩:=hk;refine ⟨trivial,?_⟩;have Ij:=Am.1;have B1:=Dg.trans Am;have B3:=Bv.trans Am;have B4:=Co.ext Am;have B5:=Dh.trans Am;have Dl:=Cp.ext Am;have B6:=Di.trans Am;have B7:=Dj.ext Am;have B8:=Dk.trans Am;have B9:=De.ext Am;have Ca:=By.ext Am;have Cb:=Ct.ext Am;rw [Cu,A8] at hvq hvr;have Ik:L2.length<=2:=AMe Bx (by rw [A8,<- AE8 hzb];omega);refine Zj (ABl rfl rfl (ABl rfl rfl (AAl (AA4 (AFv (fs:=1) ALi Zx Zk rfl (AA7 AEi rfl (Dl.cell (i:=0) rfl) (Zt (Zo (Zs (Zo (Zs (Zo (Zs (Zo (Zo (Zo ?_))))))))))))))));have hrl:LR.length=0↔nv LA % nv LB=0:=⟨fun h0=>by rw [<- hvr,List.length_eq_zero_iff.1 h0];rfl,fun h0=>by rw [AG3 htr (hvr.trans h0)];rfl⟩;refine AAa (AFv (fs:=1) ALi Zx Zk rfl (AA7 AEi rfl (B4.cell (i:=0) rfl) ?_));cases Bg:na
 ·refine Zj (ABh 32 false Zx rfl rfl (ABh 32 false Zx rfl rfl (ABh 32 false Zx rfl rfl (Zz rfl (Zt (AAw rfl (Zv (q_t (Zn (AFv (fs:=1) ALi Zx Zk rfl (AA7 AEi rfl (B4.cell (i:=0) rfl) ?_)))))))))));rw [Bg];refine Zt (AAw rfl (Zv (q_t (AAh (AZd Zk (AAi (AZd Zk (AAi (ABj (q_t (Zn (Zj (Zj (AAy trivial rfl (AJ1 nb HQ htq Zh) fun Il Im hk=>?_))))))))))))));obtain ⟨Ao,Bh⟩:=hk;refine ⟨trivial,?_⟩;have Io:=Ao.1;have Do:=B1.trans Ao;have Dp:=B3.trans Ao;have Dq:=B5.trans Ao;have Dr:=B6.trans Ao;have Ds:=B7.ext Ao;have Dt:=B8.trans Ao;have Du:=B9.ext Ao;have Ip:=Ca.ext Ao;have Iq:=Cb.ext Ao;have HQ_82:=HQ.ext Ao;have HR_83:=HR.ext Ao;obtain ⟨Az,s7,L7,rfl,Bj,Bl,Bm,Bn⟩:=Bh.out;refine Zj (AAy trivial rfl (AJ1 false HR_83 htr Zh) fun Ir Is hk=>?_);obtain ⟨Ar,Bo⟩:=hk;refine ⟨trivial,?_⟩;have It:=Ar.1;have Dv:=Do.trans Ar;have Dw:=Dp.trans Ar;have Dx:=Dq.trans Ar;have Dy:=Dr.trans Ar;have Dz:=Ds.ext Ar;have D0:=Dt.trans Ar;have D1:=Du.ext Ar;have HQ_98:=HQ_82.ext Ar;have HR_99:=HR_83.ext Ar;have Cv:=Bj.ext Ar;obtain ⟨A4,s8,L8,rfl,Bq,Br,Bt,Bu⟩:=Bo.out;refine AB8 [.bool Az,s7] ABk rfl rfl rfl rfl (AJh Cv.cap) Dz fun Iu D2 Au=>?_;have D3:=Dw.thenUpd Au (fun k hk=>by have Ab:k=Ac:=hk;omega);have Iv:=Au.1;have D4:=Dv.thenUpd Au (fun k hk=>by have Ab:k=Ac:=hk;omega);have Cd:=D0.thenUpd Au (fun k hk=>by have Ab:k=Ac:=hk;omega);have D5:=Dx.thenUpd Au (fun k hk=>by have Ab:k=Ac:=hk;omega);have D6:=Dy.thenUpd Au (fun k hk=>by have Ab:k=Ac:=hk;omega);have D7:=D1.upd Au (fun he=>(Ne.symm nebq20bq33) (he:Aa=Ac));have HQ_113:=HQ_98.updLo Au Zh;have HR_114:=HR_99.updLo Au Zh;have D8:=Cv.updLo Au Zh;have Cw:=Bq.updLo Au Zh;refine AB8 [.bool A4,s8] ABk rfl rfl rfl rfl (AJh Cw.cap) D7 fun Iw D9 Ag=>?_;have Ea:=D3.thenUpd Ag (fun k hk=>by have Ab:k=Aa:=hk;omega);have Ix:=Ag.1;have Iy:=D4.thenUpd Ag (fun k hk=>by have Ab:k=Aa:=hk;omega);have Iz:=(Be.ext Cd).upd Ag (fun he=>nebq1bq33 (he:A6=Aa));have I0:=D5.thenUpd Ag (fun k hk=>by have Ab:k=Aa:=hk;omega);have I1:=(Bc.ext Cd).upd Ag (fun he=>nebq9bq33 (he:A7=Aa));have I2:=D6.thenUpd Ag (fun k hk=>by have Ab:k=Aa:=hk;omega);have Eb:=D2.upd Ag (fun he=>nebq20bq33 (he:Ac=Aa));have I3:=Cd.thenUpd Ag (fun k hk=>by have Ab:k=Aa:=hk;omega);have HQ_129:=HQ_113.updLo Ag Zh;have HR_130:=HR_114.updLo Ag Zh;have Ec:=D8.updLo Ag Zh;have Ed:=Cw.updLo Ag Zh;refine Zt (Zw (⟨_,AOp ABk rfl rfl Eb ABk rfl rfl D9,?_⟩));have hk:=At6 (nb:=nb) (A:=nv LA) Bf;have ea:a=((nv LA:Nat):Int):=by rw [hza,Bg];rfl
  exact ⟨Ea,_,_,rfl,⟨Az,s7,L7,rfl,Ec.mono Zh,Bl,Bm,by rw [<- Bn,hvq,ea,hzb];exact hk.1.symm⟩,⟨A4,s8,L8,rfl,Ed.mono Zh,Br,Bt,by rw [<- Bu,hvr,ea,hzb];exact hk.2.symm⟩⟩
 ·refine Zj (ABq 32 true Zx rfl rfl (Zj (ABq 32 true Zx rfl rfl (ABu AAo rfl HR (ABq 32 true Zx rfl rfl (AQ1 rfl rfl (fun Ee=>?_) (fun Ee=>?_)))))))
  ·refine Z4 rfl (Zt (AAr rfl (AAh (AAi (AAi (ABj (q_t (Zn (Zj (Amv [ANn 1] AAo ALp rfl (fun _=>trivial) rfl Zh Zh rfl (by simp [ANn,isOne]) fun g8 v8 h8 Eh E8 I7 I9=>?_))))))))));have Ja:=E8.1;have Ei:=B1.trans E8;have Ej:=B3.trans E8;have Ek:=B5.trans E8;have El:=B6.trans E8;have Em:=B7.ext E8;have En:=B8.trans E8;have Eo:=B9.ext E8;have Ep:=Ca.ext E8;have Er:=Cb.ext E8;have HQ_146:=HQ.ext E8;have HR_147:=HR.ext E8;have HDu:DS h8 0 v8 [1]:=ADk.ds (L:=[1]) Eh (by intro x hx;rw [List.mem_singleton.1 hx];decide) (Nat.zero_le _);refine AAy trivial rfl (Aco HQ_146 HDu Zh AA3) fun Jc Je hk=>?_;obtain ⟨Ah,L5,Et,Cx,Cy,Jf⟩:=hk;refine ⟨trivial,?_⟩;have Jg:=Ah.1;have Eu:=Ei.trans Ah;have Ev:=Ej.trans Ah;have Ew:=Ek.trans Ah;have Ey:=El.trans Ah;have Ez:=Em.ext Ah;have Fa:=En.trans Ah;have Fb:=Eo.ext Ah;have Cz:=Ep.ext Ah;have Fc:=Er.ext Ah;have HQ_164:=HQ_146.ext Ah;have HR_165:=HR_147.ext Ah;have HDu_166:=HDu.ext Ah;refine Zt (AAa (Zj (Zj (AAy trivial rfl (AYs Cz HR_165 htr (by rw [hvr,A8];exact Nat.le_of_lt (Nat.mod_lt _ Zh)) Zh) fun Jh Ji hk=>?_))));obtain ⟨Af,L6,Fd,Fe,Ff,C8⟩:=hk;refine ⟨trivial,?_⟩;have Jk:=Af.1;have Fg:=Eu.trans Af;have Fh:=Ev.trans Af;have Fi:=Ew.trans Af;have Fj:=Ey.trans Af;have Fk:=Ez.ext Af;have Fl:=Fa.trans Af;have Fm:=Fb.ext Af;have Fo:=Cz.ext Af;have Fp:=Fc.ext Af;have HQ_183:=HQ_164.ext Af;have HR_184:=HR_165.ext Af;have HDu_185:=HDu_166.ext Af;have C0:=Et.ext Af;refine AAl (AAn (q_b (q_t (Zn (Zj (ACt rfl (Zt (AAh (ABj (q_t (Zn (Zj (Zj (AAy trivial rfl (AJ1 (!nb) C0 Cx (by have h5:L5.length<=2:=AMe Cx (by rw [Cy,hvq];exact At5 (A:=nv LA) (B:=nv LB) (by rw [<- AE8 hza];exact hba) Zh);omega)) fun Jm Jn hk=>?_))))))))))))));obtain ⟨Ad,Bh⟩:=hk;refine ⟨trivial,?_⟩;have Jo:=Ad.1;have Fq:=Fg.trans Ad;have Fr:=Fh.trans Ad;have Ft:=Fi.trans Ad;have Fu:=Fj.trans Ad;have Fv:=Fk.ext Ad;have Fw:=Fl.trans Ad;have Fx:=Fm.ext Ad;have Jp:=Fo.ext Ad;have Jq:=Fp.ext Ad;have HQ_203:=HQ_183.ext Ad;have HR_204:=HR_184.ext Ad;have HDu_205:=HDu_185.ext Ad;have Fy:=C0.ext Ad;have C1:=Fd.ext Ad;obtain ⟨Az,s7,L7,rfl,Bj,Bl,Bm,Bn⟩:=Bh.out;refine Zj (AAy trivial rfl (AJ1 false C1 Fe Zh) fun Jr Js hk=>?_);obtain ⟨Ai,Bo⟩:=hk;refine ⟨trivial,?_⟩;have Jt:=Ai.1;have Fz:=Fq.trans Ai;have F4:=Fr.trans Ai;have F5:=Ft.trans Ai;have F6:=Fu.trans Ai;have F7:=Fv.ext Ai;have F8:=Fw.trans Ai;have F9:=Fx.ext Ai;have HQ_222:=HQ_203.ext Ai;have HR_223:=HR_204.ext Ai;have Ga:=Fy.ext Ai;have Gb:=C1.ext Ai;have C2:=Bj.ext Ai;obtain ⟨A4,s8,L8,rfl,Bq,Br,Bt,Bu⟩:=Bo.out;refine AB8 [.bool Az,s7] ABk rfl rfl rfl rfl (AJh C2.cap) F7 fun Ju Gc Aj=>?_;have Gd:=F4.thenUpd Aj (fun k hk=>by have Ab:k=Ac:=hk;omega);have Jv:=Aj.1;have Ge:=Fz.thenUpd Aj (fun k hk=>by have Ab:k=Ac:=hk;omega);have Ce:=F8.thenUpd Aj (fun k hk=>by have Ab:k=Ac:=hk;omega);have Gf:=F5.thenUpd Aj (fun k hk=>by have Ab:k=Ac:=hk;omega);have Gg:=F6.thenUpd Aj (fun k hk=>by have Ab:k=Ac:=hk;omega);have Gh:=F9.upd Aj (fun he=>(Ne.symm nebq20bq33) (he:Aa=Ac));have HQ_239:=HQ_222.updLo Aj Zh;have HR_240:=HR_223.updLo Aj Zh;have Gi:=Ga.updLo Aj Zh;have Gj:=Gb.updLo Aj Zh;have Gk:=C2.updLo Aj Zh;have C3:=Bq.updLo Aj Zh;refine AB8 [.bool A4,s8] ABk rfl rfl rfl rfl (AJh C3.cap) Gh fun Jw Gl Ae=>?_;have Gm:=Gd.thenUpd Ae (fun k hk=>by have Ab:k=Aa:=hk;omega);have Jx:=Ae.1;have Jy:=Ge.thenUpd Ae (fun k hk=>by have Ab:k=Aa:=hk;omega);have Jz:=(Be.ext Ce).upd Ae (fun he=>nebq1bq33 (he:A6=Aa));have J0:=Gf.thenUpd Ae (fun k hk=>by have Ab:k=Aa:=hk;omega);have J1:=(Bc.ext Ce).upd Ae (fun he=>nebq9bq33 (he:A7=Aa));have J2:=Gg.thenUpd Ae (fun k hk=>by have Ab:k=Aa:=hk;omega);have Gn:=Gc.upd Ae (fun he=>nebq20bq33 (he:Ac=Aa));have J3:=Ce.thenUpd Ae (fun k hk=>by have Ab:k=Aa:=hk;omega);have HQ_257:=HQ_239.updLo Ae Zh;have HR_258:=HR_240.updLo Ae Zh;have J4:=Gi.updLo Ae Zh;have J5:=Gj.updLo Ae Zh;have Gp:=Gk.updLo Ae Zh;have Gq:=C3.updLo Ae Zh;refine Zt (Zw (⟨_,AOp ABk rfl rfl Gn ABk rfl rfl Gl,?_⟩));have hk:=Arh (nb:=nb) (A:=nv LA) Bf Zh;have ea:a= -((nv LA:Nat):Int):=by rw [hza,Bg];rfl
   exact ⟨Gm,_,_,rfl,⟨Az,s7,L7,rfl,Gp.mono Zh,Bl,Bm,by rw [<- Bn,Cy,hvq,ea,hzb];exact hk.1.symm⟩,⟨A4,s8,L8,rfl,Gq.mono Zh,Br,Bt,by rw [<- Bu,Ff,A8,hvr,ea,hzb];exact hk.2.symm⟩⟩
  ·refine Z4 rfl (Zt (AAw rfl (Zv (q_t (Zn (AFv (fs:=1) ALi Zx Zk rfl (AA7 AEi rfl (B4.cell (i:=0) rfl) ?_)))))));rw [Bg];refine Zt (AAr rfl (AAh (AAi (AZd Zk (AAi (ABj (q_t (Zn (Zj (ACt rfl (Zt (AAh (ABj (q_t (Zn (Zj (Zj (AAy trivial rfl (AJ1 (!nb) HQ htq Zh) fun J6 J7 hk=>?_))))))))))))))))));obtain ⟨Aq,Bh⟩:=hk;refine ⟨trivial,?_⟩;have J8:=Aq.1;have Gr:=B1.trans Aq;have Gt:=B3.trans Aq;have Gu:=B5.trans Aq;have Gv:=B6.trans Aq;have Gw:=B7.ext Aq;have Gx:=B8.trans Aq;have Gy:=B9.ext Aq;have J9:=Ca.ext Aq;have Ka:=Cb.ext Aq;have HQ_279:=HQ.ext Aq;have HR_280:=HR.ext Aq;obtain ⟨Az,s7,L7,rfl,Bj,Bl,Bm,Bn⟩:=Bh.out;refine Zj (AAy trivial rfl (AJ1 false HR_280 htr Zh) fun Kb Kc hk=>?_);obtain ⟨Av,Bo⟩:=hk;refine ⟨trivial,?_⟩;have Kd:=Av.1;have Gz:=Gr.trans Av;have G3:=Gt.trans Av;have G4:=Gu.trans Av;have G5:=Gv.trans Av;have G6:=Gw.ext Av;have G7:=Gx.trans Av;have G8:=Gy.ext Av;have HQ_295:=HQ_279.ext Av;have HR_296:=HR_280.ext Av;have C4:=Bj.ext Av;obtain ⟨A4,s8,L8,rfl,Bq,Br,Bt,Bu⟩:=Bo.out;refine AB8 [.bool Az,s7] ABk rfl rfl rfl rfl (AJh C4.cap) G6 fun Ke G9 Aw=>?_;have Hb:=G3.thenUpd Aw (fun k hk=>by have Ab:k=Ac:=hk;omega);have Kf:=Aw.1;have Hc:=Gz.thenUpd Aw (fun k hk=>by have Ab:k=Ac:=hk;omega);have Cf:=G7.thenUpd Aw (fun k hk=>by have Ab:k=Ac:=hk;omega);have Hd:=G4.thenUpd Aw (fun k hk=>by have Ab:k=Ac:=hk;omega);have He:=G5.thenUpd Aw (fun k hk=>by have Ab:k=Ac:=hk;omega);have Hf:=G8.upd Aw (fun he=>(Ne.symm nebq20bq33) (he:Aa=Ac));have HQ_310:=HQ_295.updLo Aw Zh;have HR_311:=HR_296.updLo Aw Zh;have Hg:=C4.updLo Aw Zh;have C5:=Bq.updLo Aw Zh;refine AB8 [.bool A4,s8] ABk rfl rfl rfl rfl (AJh C5.cap) Hf fun Kg Hh Ak=>?_;have Hj:=Hb.thenUpd Ak (fun k hk=>by have Ab:k=Aa:=hk;omega);have Kh:=Ak.1;have Ki:=Hc.thenUpd Ak (fun k hk=>by have Ab:k=Aa:=hk;omega);have Kj:=(Be.ext Cf).upd Ak (fun he=>nebq1bq33 (he:A6=Aa));have Kk:=Hd.thenUpd Ak (fun k hk=>by have Ab:k=Aa:=hk;omega);have Kl:=(Bc.ext Cf).upd Ak (fun he=>nebq9bq33 (he:A7=Aa));have Km:=He.thenUpd Ak (fun k hk=>by have Ab:k=Aa:=hk;omega);have Hk:=G9.upd Ak (fun he=>nebq20bq33 (he:Ac=Aa));have Kn:=Cf.thenUpd Ak (fun k hk=>by have Ab:k=Aa:=hk;omega);have HQ_326:=HQ_310.updLo Ak Zh;have HR_327:=HR_311.updLo Ak Zh;have Hl:=Hg.updLo Ak Zh;have Hm:=C5.updLo Ak Zh;refine Zt (Zw (⟨_,AOp ABk rfl rfl Hk ABk rfl rfl Hh,?_⟩));have hk:=Ari (nb:=nb) (A:=nv LA) Bf Zh;have ea:a= -((nv LA:Nat):Int):=by rw [hza,Bg];rfl
   exact ⟨Hj,_,_,rfl,⟨Az,s7,L7,rfl,Hl.mono Zh,Bl,Bm,by rw [<- Bn,hvq,ea,hzb];exact hk.1.symm⟩,⟨A4,s8,L8,rfl,Hm.mono Zh,Br,Bt,by rw [<- Bu,hvr,ea,hzb];exact hk.2.symm⟩⟩
end Go.Proofs.YtdkldlbgcfpglaaGreatDoor.Ig
namespace Go.QF
open Go
section
variable {P:Program} {B:Zu->Prop} {st:Bool} {ops:Array Oper} {rest:List Oper} {e:Env} {h:Zu} {K:Env->Zu->Prop} {d:Nat} {ty:TypeId} {pos:String} {af:Array Edge}
theorem Ai9 {x y z:Operand} {t el er g lo hi:Nat} {v:Value} {l:List Value} {k1 k2:IntKind} (hT:SlT P t el 1) (hx:e.ev x=v) (HO:ADk h er g v l) (hy:e.ev y= .int k1 (lo:Int)) (hz:e.ev z= .int k2 (hi:Int)) (hlt:lo < hi) (hle:hi<=l.length)
    (H:∀ c,RL P B st ops rest (e.set d (.slice (some ⟨g,lo,none⟩) (hi - lo) c)) h K):RL P B st ops (⟨some d,.slice t x (some y) (some z) none,ty,pos,af,none⟩ :: rest) e h K:=by
  obtain ⟨cap,cur,rfl,hg,h1,h2,h3,h4⟩:=HO;refine AFf (v:= .slice (some ⟨g,lo,none⟩) (hi - lo) (cap - lo)) rfl rfl (fun w=>?_) (H _);obtain ⟨hu,i,hi',hs⟩:=hT;have a4: ¬ cap=lo:=by omega
  simp [execOp,hx,hy,hz,Instr.sliceAt,Instr.slice,AKv hu,Instr.sliceBounds,Instr.sliceBound,asIntOf,a4,APa hi',hs,Addr.add];rw [if_pos Zh,if_pos Zh]
  by_cases h0:lo=0
  · subst h0;simp
  · rw [if_neg h0]
theorem Acp {x i:Operand} {t el g o n c j:Nat} {k:IntKind} (hT:SlT P t el 1) (hx:e.ev x= .slice (some ⟨g,o,none⟩) n c) (hi:e.ev i= .int k (j:Int)) (hj:j < n)
    (H:RL P B st ops rest (e.set d (.pointer (some ⟨g,o + j,none⟩))) h K):RL P B st ops (⟨some d,.indexAddr t x i,ty,pos,af,none⟩ :: rest) e h K:=by
  refine Agp hT hx hi Zh Zh ?_;have he:(⟨g,o,none⟩:Addr).add ((j:Int).toNat * 1)=⟨g,o + j,none⟩:=by rw [AFh];simp
  rw [he];exact H
end
end Go.QF
namespace Go.Proofs.YtdkldlbgcfpglaaGreatDoor.Ig
open Go Go.QF
set_option maxRecDepth 100000
theorem Akx {h:Zu} {la lb:Nat} {va vb:Value} {LA LB:List Nat} (HA:DS h la va LA) (HB:DS h lb vb LB) (hna:LA.length<=1000) (hnb:LB.length<=1000):AAv Tryz.prog 169 #[va,vb] h fun x h'=>Ext h h'/\ ∃ L,DS h' (Array.size h) x L/\TL L/\nv L=nv LA * nv LB/\L.length<=LA.length + LB.length + 2:=by
 refine ABd (l:=[_,_]) mx Tryz.func169 rfl rfl rfl rfl rfl Zx (Zn (Zt (Zo (Zn (Zj (ABu AAo rfl HA (ASv rfl rfl (fun Aw=>?_) (fun Aw=>?_))))))))
 ·refine Zj (ABq 15 true Zx rfl rfl (Zj (ABq 15 true Zx rfl rfl (ABu AAo rfl HB (ABq 15 true Zx rfl rfl (ASv rfl rfl (fun Ax=>?_) (fun Ax=>?_)))))))
  ·refine Z4 rfl (Zr (AAr rfl (Zn (Zj (AAy trivial rfl (AZs HA Zh) fun x1 h hk=>?_)))));obtain ⟨rfl,rfl⟩:=hk;refine ⟨trivial,?_⟩;refine Zj (AAy trivial rfl (AZs HB Zh) fun x2 h hk=>?_);obtain ⟨rfl,rfl⟩:=hk;refine ⟨trivial,?_⟩;have hm:=Aoh HA.dig HB.dig Zh Zh;refine Ac9 rfl rfl hm (AAy trivial rfl (APx (nv LA * nv LB) Zh _) fun x3 h4 hk=>?_);obtain ⟨E5,L1,Ay,Ak,Am,Av⟩:=hk;refine ⟨trivial,?_⟩;have Bo:=E5.1;have Z7:=(Ext.refl h).trans E5;refine Zt (Zw (AAc (⟨_,Zy,?_⟩)))
   first
   | exact ⟨E5,L1,Ay,Ak,Am,Zh⟩
   | exact ⟨E5,L2,HT.ds HDo.lo,htl,by rw [HT.val,hOv],by have:=HT.len;omega⟩
  ·refine Z4 rfl (Zr (AAw rfl (Zv (q_t (Zn (Zj (ABu AAo rfl HA (Zj (ABu AAo rfl HB (APb rfl rfl Zh (Aai (n:=LA.length + LB.length) AAo ALp (fun _=>trivial) rfl rfl Zk Zh fun g1 v1 h1 Ao E1 Az Av=>?_)))))))))));have Bq:=E1.1;have Z9:=(Ext.refl h).trans E1;refine Zt (Zo (Zn (Zj (ABu AAo rfl (HA.ext E1) (Zj (Zr (Zs (AFe 19342813113834049615433664 (fun y:Nat × List Nat=>[(34,.int .i64 (y.1:Int))]) (fun k y h'=>k=LA.length - y.1/\y.1<=LA.length/\Ext h h'/\g1 < Array.size h'/\ADk h' 172 g1 v1 (y.2.map ANn)/\y.2.length=LA.length + LB.length/\Dig y.2/\nv y.2=nv (LA.take y.1) * nv LB/\ ∀ q,y.1 + LB.length<=q->q < LA.length + LB.length->y.2[q]? =some 0) Zx LA.length (0,List.replicate (LA.length + LB.length) 0) ?_ ⟨rfl,trivial⟩ ?_))))))))
   ·exact ⟨rfl,Nat.zero_le _,E1,Zh,Ao,AA3,fun x hx=>by rw [(List.mem_replicate.1 hx).2];decide,by simp [nv,Aan],fun q hq A3=>by dsimp only;rw [List.getElem?_replicate];simp;omega⟩
   rintro k ⟨i,O⟩ s1 hq ⟨rfl,hi,XQ,hgq,Aa,hOl,hOd,hOv,hOz⟩;dsimp only at hi Aa hOl hOd hOv hOz ⊢;refine Zn (AEg rfl rfl (fun A4=>?_) (fun A4=>?_))
   ·refine Zr (Zo (AAr rfl (Zv (q_t (Zo (Zs (Zo ?_)))))));obtain ⟨x,hx⟩:∃ x,LA[i]? =some x:=⟨_,List.getElem?_eq_getElem Zh⟩;have hbx:=HA.dig x (List.mem_of_getElem? hx);refine AAa (Zj (AIv AAo rfl (HA.ext XQ) rfl hx fun Bt A5=>AA7 ACg rfl A5 (AAl (Zt (Zo (Zn (Zj (ASw rfl rfl (fun A6=>?_) (fun A6=>?_)))))))))
    ·refine Zr (AAr rfl (AAh (AAi (ABj (q_t (AAa (AJw rfl Zh (Zj (Zr ?_)))))))));exact ⟨LA.length - (i + 1),(i + 1,O),by first | omega | (dsimp only;omega),⟨rfl,by first | omega | (dsimp only;omega),XQ,Zh,Aa,hOl,hOd,by dsimp only;rw [hOv,ABz hx,show x=0 by omega];simp,fun q h1 h2=>hOz q (by dsimp only at h1;omega) h2⟩,rfl,trivial⟩
    ·refine Zr (AAw rfl (Zv (q_t (Zn (Zj (Zj (Zj (Zj (ABu AAo rfl (HB.ext XQ) (APb rfl rfl Zh (APb (b:=1) rfl rfl Zh (Ai9 (lo:=i) (hi:=i + LB.length + 1) AAo rfl Aa rfl rfl Zh (by rw [List.length_map];omega) fun cw=>?_))))))))))));refine AA4 (Zt (Zo (Zn (Zj (ABu AAo rfl (HB.ext XQ) (Zj (Zr (Zs (AFe 151115725200028833156608 (fun y:Nat × Nat × List Nat=>[(51,.int .i64 (y.1:Int)),(9,.int .u64 (y.2.1:Int))]) (fun k y h'=>k=LB.length - y.1/\y.1<=LB.length/\Ext h h'/\g1 < Array.size h'/\ADk h' 172 g1 v1 (y.2.2.map ANn)/\y.2.2.length=LA.length + LB.length/\Dig y.2.2/\y.2.1 < 4294967296/\nv y.2.2 + 4294967296 ^ (i + y.1) * y.2.1=nv (LA.take i) * nv LB + 4294967296 ^ i * (x * nv (LB.take y.1))/\ ∀ q,i + LB.length<=q->q < LA.length + LB.length->y.2.2[q]? =some 0) Zx LB.length (0,0,O) ?_ ⟨rfl,rfl,trivial⟩ ?_)))))))))
     ·exact ⟨rfl,Nat.zero_le _,XQ,Zh,Aa,hOl,hOd,by dsimp only;omega,by simp [nv,hOv],hOz⟩
     rintro k ⟨j,c,O⟩ s2 hp ⟨rfl,hj,XQ,hgq,Aa,hOl,hOd,hc,hOv,hOz⟩;dsimp only at hj Aa hOl hOd hc hOv hOz ⊢;refine Zn (AEg rfl rfl (fun A7=>?_) (fun A7=>?_))
     ·refine Zr (Zo (AAr rfl (Zv (q_t (Zo (Zs (Zo ?_)))))));obtain ⟨y,hy⟩:∃ x,LB[j]? =some x:=⟨_,List.getElem?_eq_getElem Zh⟩;have hby:=HB.dig y (List.mem_of_getElem? hy);obtain ⟨ov,hov⟩:∃ x,O[i + j]? =some x:=⟨_,List.getElem?_eq_getElem Zh⟩;have hbo:=hOd ov (List.mem_of_getElem? hov);have htb:=Ada hc hbx hby hbo;have hxy:x * y<=4294967295 * 4294967295:=Nat.mul_le_mul Zh Zh;refine AAa (Zj (AIv AAo rfl (HB.ext XQ) rfl hy fun Bu A8=>AA7 ACg rfl A8 (AAl (AA4 (Zj (Zj (ASk AC7 ACn rfl hbx (Zj (ASk AC7 ACn rfl hby (Ac9 rfl rfl Zh (Zj (Zj (Acp AAo rfl rfl Zh (AA7 ACg rfl (ADk.cell Aa (AR3 hov)) (ASk AC7 ACn rfl hbo (AOq rfl rfl Zh (AOq rfl rfl Zh ?_)))))))))))))))));refine AA4 (Zj (Zj (Zj (AUh ACn AC7 rfl (Acp AAo rfl rfl Zh (AUg (O.set (i + j) ((c + (x * y + ov)) % 4294967296)) ACg rfl rfl Aa Zh rfl fun h4 Ap U4=>?_))))));have Bv:=U4.1;have A9:=XQ.thenUpd U4 (fun k hk=>by have Aq:k=g1:=hk;omega);refine Zr (AAa (Zj (ATr rfl rfl (AAl (AAn (q_b (q_t (AAa (AJw rfl Zh (Zj (Zr ?_)))))))))));exact ⟨LB.length - (j + 1),(j + 1,(c + (x * y + ov)) / 4294967296,O.set (i + j) ((c + (x * y + ov)) % 4294967296)),by first | omega | (dsimp only;omega),⟨rfl,by first | omega | (dsimp only;omega),A9,Zh,Ap,by simp [hOl],AR4 hOd (Nat.mod_lt _ Zk),by dsimp only;exact Nat.div_lt_of_lt_mul htb,by dsimp only;rw [ABz hy];exact Aaj (Pi:=0) (AU8 _ hov) hOv (Nat.mod_add_div _ _),fun q h1 h2=>by dsimp only;rw [List.getElem?_set_ne Zh];exact hOz q h1 h2⟩,rfl,rfl,trivial⟩
     ·refine Zr (Zo (AAw rfl (AAh (AAi (AAi (ABj (q_t ?_)))))));obtain rfl:j=LB.length:=by omega
      refine AAa (Zj (Zj (ABu AAo rfl (HB.ext XQ) (Zj (AUh ACn AC7 rfl ?_)))));rw [Nat.mod_eq_of_lt hc];refine Acp AAo rfl rfl Zh (AUg (O.set (i + LB.length) (c)) ACg rfl rfl Aa Zh rfl fun h5 Ar U5=>?_);have Bw:=U5.1;have Bb:=XQ.thenUpd U5 (fun k hk=>by have Aq:k=g1:=hk;omega);refine AAn (q_b (q_t (AAa (AJw rfl Zh (Zj (Zr ?_))))));exact ⟨LA.length - (i + 1),(i + 1,O.set (i + LB.length) c),by first | omega | (dsimp only;omega),⟨rfl,by first | omega | (dsimp only;omega),Bb,Zh,Ar,by simp [hOl],AR4 hOd hc,by dsimp only;have h1:=AU8 c (hOz (i + LB.length) (Nat.le_refl _) Zh);rw [Nat.mul_zero,Nat.add_zero] at h1;rw [h1,hOv,List.take_length,ABz hx,Nat.add_mul,Nat.mul_assoc],fun q h1 h2=>by dsimp only;rw [List.getElem?_set_ne Zh];exact hOz q Zh h2⟩,rfl,trivial⟩
   ·refine Zr (Zo (AAw rfl (AAh (AAi (AAi (ABj (q_t (Zo ?_))))))));obtain rfl:i=LA.length:=by omega
    rw [List.take_length] at hOv;have HDo:=Aa.ds (lo:=Array.size h) hOd Zh;refine AAa (Zj (AAy trivial rfl (AMn (DS.mono HDo (Nat.zero_le _)) Zh) fun Bx hq hk=>?_));obtain ⟨rfl,L2,HT,htl⟩:=hk;refine ⟨trivial,?_⟩;refine Zt (Zw (⟨_,Zy,?_⟩))
    first
    | exact ⟨XQ,L1,lacks_HD1,Ak,Am,Zh⟩
    | exact ⟨XQ,L2,HT.ds HDo.lo,htl,by rw [HT.val,hOv],by have:=HT.len;omega⟩
 ·refine Zj (ABh 15 false Zx rfl rfl (ABh 15 false Zx rfl rfl (ABh 15 false Zx rfl rfl (Zz rfl (Zr (AAw rfl (Zv (q_t (Zn (Zj (ABu AAo rfl HA (Zj (ABu AAo rfl HB (APb rfl rfl Zh (Aai (n:=LA.length + LB.length) AAo ALp (fun _=>trivial) rfl rfl Zk Zh fun g1 v1 h1 Ao E1 Az Av=>?_)))))))))))))));have By:=E1.1;have Bz:=(Ext.refl h).trans E1;refine Zt (Zo (Zn (Zj (ABu AAo rfl (HA.ext E1) (Zj (Zr (Zs (AFe 19342813113834049615433664 (fun y:Nat × List Nat=>[(34,.int .i64 (y.1:Int))]) (fun k y h'=>k=LA.length - y.1/\y.1<=LA.length/\Ext h h'/\g1 < Array.size h'/\ADk h' 172 g1 v1 (y.2.map ANn)/\y.2.length=LA.length + LB.length/\Dig y.2/\nv y.2=nv (LA.take y.1) * nv LB/\ ∀ q,y.1 + LB.length<=q->q < LA.length + LB.length->y.2[q]? =some 0) Zx LA.length (0,List.replicate (LA.length + LB.length) 0) ?_ ⟨rfl,trivial⟩ ?_))))))))
  ·exact ⟨rfl,Nat.zero_le _,E1,Zh,Ao,AA3,fun x hx=>by rw [(List.mem_replicate.1 hx).2];decide,by simp [nv,Aan],fun q hq A3=>by dsimp only;rw [List.getElem?_replicate];simp;omega⟩
  rintro k ⟨i,O⟩ s1 hq ⟨rfl,hi,XQ,hgq,Aa,hOl,hOd,hOv,hOz⟩;dsimp only at hi Aa hOl hOd hOv hOz ⊢;refine Zn (AEg rfl rfl (fun Bc=>?_) (fun Bc=>?_))
  ·refine Zr (Zo (AAr rfl (Zv (q_t (Zo (Zs (Zo ?_)))))));obtain ⟨x,hx⟩:∃ x,LA[i]? =some x:=⟨_,List.getElem?_eq_getElem Zh⟩;have hbx:=HA.dig x (List.mem_of_getElem? hx);refine AAa (Zj (AIv AAo rfl (HA.ext XQ) rfl hx fun B1 Be=>AA7 ACg rfl Be (AAl (Zt (Zo (Zn (Zj (ASw rfl rfl (fun Bf=>?_) (fun Bf=>?_)))))))))
   ·refine Zr (AAr rfl (AAh (AAi (ABj (q_t (AAa (AJw rfl Zh (Zj (Zr ?_)))))))));exact ⟨LA.length - (i + 1),(i + 1,O),by first | omega | (dsimp only;omega),⟨rfl,by first | omega | (dsimp only;omega),XQ,Zh,Aa,hOl,hOd,by dsimp only;rw [hOv,ABz hx,show x=0 by omega];simp,fun q h1 h2=>hOz q (by dsimp only at h1;omega) h2⟩,rfl,trivial⟩
   ·refine Zr (AAw rfl (Zv (q_t (Zn (Zj (Zj (Zj (Zj (ABu AAo rfl (HB.ext XQ) (APb rfl rfl Zh (APb (b:=1) rfl rfl Zh (Ai9 (lo:=i) (hi:=i + LB.length + 1) AAo rfl Aa rfl rfl Zh (by rw [List.length_map];omega) fun cw=>?_))))))))))));refine AA4 (Zt (Zo (Zn (Zj (ABu AAo rfl (HB.ext XQ) (Zj (Zr (Zs (AFe 151115725200028833156608 (fun y:Nat × Nat × List Nat=>[(51,.int .i64 (y.1:Int)),(9,.int .u64 (y.2.1:Int))]) (fun k y h'=>k=LB.length - y.1/\y.1<=LB.length/\Ext h h'/\g1 < Array.size h'/\ADk h' 172 g1 v1 (y.2.2.map ANn)/\y.2.2.length=LA.length + LB.length/\Dig y.2.2/\y.2.1 < 4294967296/\nv y.2.2 + 4294967296 ^ (i + y.1) * y.2.1=nv (LA.take i) * nv LB + 4294967296 ^ i * (x * nv (LB.take y.1))/\ ∀ q,i + LB.length<=q->q < LA.length + LB.length->y.2.2[q]? =some 0) Zx LB.length (0,0,O) ?_ ⟨rfl,rfl,trivial⟩ ?_)))))))))
    ·exact ⟨rfl,Nat.zero_le _,XQ,Zh,Aa,hOl,hOd,by dsimp only;omega,by simp [nv,hOv],hOz⟩
    rintro k ⟨j,c,O⟩ s2 hp ⟨rfl,hj,XQ,hgq,Aa,hOl,hOd,hc,hOv,hOz⟩;dsimp only at hj Aa hOl hOd hc hOv hOz ⊢;refine Zn (AEg rfl rfl (fun Bg=>?_) (fun Bg=>?_))
    ·refine Zr (Zo (AAr rfl (Zv (q_t (Zo (Zs (Zo ?_)))))));obtain ⟨y,hy⟩:∃ x,LB[j]? =some x:=⟨_,List.getElem?_eq_getElem Zh⟩;have hby:=HB.dig y (List.mem_of_getElem? hy);obtain ⟨ov,hov⟩:∃ x,O[i + j]? =some x:=⟨_,List.getElem?_eq_getElem Zh⟩;have hbo:=hOd ov (List.mem_of_getElem? hov);have htb:=Ada hc hbx hby hbo;have hxy:x * y<=4294967295 * 4294967295:=Nat.mul_le_mul Zh Zh;refine AAa (Zj (AIv AAo rfl (HB.ext XQ) rfl hy fun B3 Bh=>AA7 ACg rfl Bh (AAl (AA4 (Zj (Zj (ASk AC7 ACn rfl hbx (Zj (ASk AC7 ACn rfl hby (Ac9 rfl rfl Zh (Zj (Zj (Acp AAo rfl rfl Zh (AA7 ACg rfl (ADk.cell Aa (AR3 hov)) (ASk AC7 ACn rfl hbo (AOq rfl rfl Zh (AOq rfl rfl Zh ?_)))))))))))))))));refine AA4 (Zj (Zj (Zj (AUh ACn AC7 rfl (Acp AAo rfl rfl Zh (AUg (O.set (i + j) ((c + (x * y + ov)) % 4294967296)) ACg rfl rfl Aa Zh rfl fun h4 Ap U4=>?_))))));have B4:=U4.1;have Bi:=XQ.thenUpd U4 (fun k hk=>by have Aq:k=g1:=hk;omega);refine Zr (AAa (Zj (ATr rfl rfl (AAl (AAn (q_b (q_t (AAa (AJw rfl Zh (Zj (Zr ?_)))))))))));exact ⟨LB.length - (j + 1),(j + 1,(c + (x * y + ov)) / 4294967296,O.set (i + j) ((c + (x * y + ov)) % 4294967296)),by first | omega | (dsimp only;omega),⟨rfl,by first | omega | (dsimp only;omega),Bi,Zh,Ap,by simp [hOl],AR4 hOd (Nat.mod_lt _ Zk),by dsimp only;exact Nat.div_lt_of_lt_mul htb,by dsimp only;rw [ABz hy];exact Aaj (Pi:=0) (AU8 _ hov) hOv (Nat.mod_add_div _ _),fun q h1 h2=>by dsimp only;rw [List.getElem?_set_ne Zh];exact hOz q h1 h2⟩,rfl,rfl,trivial⟩
    ·refine Zr (Zo (AAw rfl (AAh (AAi (AAi (ABj (q_t ?_)))))));obtain rfl:j=LB.length:=by omega
     refine AAa (Zj (Zj (ABu AAo rfl (HB.ext XQ) (Zj (AUh ACn AC7 rfl ?_)))));rw [Nat.mod_eq_of_lt hc];refine Acp AAo rfl rfl Zh (AUg (O.set (i + LB.length) (c)) ACg rfl rfl Aa Zh rfl fun h5 Ar U5=>?_);have B5:=U5.1;have Bj:=XQ.thenUpd U5 (fun k hk=>by have Aq:k=g1:=hk;omega);refine AAn (q_b (q_t (AAa (AJw rfl Zh (Zj (Zr ?_))))));exact ⟨LA.length - (i + 1),(i + 1,O.set (i + LB.length) c),by first | omega | (dsimp only;omega),⟨rfl,by first | omega | (dsimp only;omega),Bj,Zh,Ar,by simp [hOl],AR4 hOd hc,by dsimp only;have h1:=AU8 c (hOz (i + LB.length) (Nat.le_refl _) Zh);rw [Nat.mul_zero,Nat.add_zero] at h1;rw [h1,hOv,List.take_length,ABz hx,Nat.add_mul,Nat.mul_assoc],fun q h1 h2=>by dsimp only;rw [List.getElem?_set_ne Zh];exact hOz q Zh h2⟩,rfl,trivial⟩
  ·refine Zr (Zo (AAw rfl (AAh (AAi (AAi (ABj (q_t (Zo ?_))))))));obtain rfl:i=LA.length:=by omega
   rw [List.take_length] at hOv;have HDo:=Aa.ds (lo:=Array.size h) hOd Zh;refine AAa (Zj (AAy trivial rfl (AMn (DS.mono HDo (Nat.zero_le _)) Zh) fun B6 hq hk=>?_));obtain ⟨rfl,L2,HT,htl⟩:=hk;refine ⟨trivial,?_⟩;refine Zt (Zw (⟨_,Zy,?_⟩))
   first
   | exact ⟨XQ,L1,lacks_HD1,Ak,Am,Zh⟩
   | exact ⟨XQ,L2,HT.ds HDo.lo,htl,by rw [HT.val,hOv],by have:=HT.len;omega⟩
theorem MulZ_ok {h:Zu} {la lb:Nat} {va vb:Value} {a b:Int} (HA:ZV h la va a) (HB:ZV h lb vb b) (hab:a.natAbs * b.natAbs < 4294967296 ^ 100):AAv Tryz.prog 136 #[va,vb] h fun x h'=>Ext h h'/\ZV h' (Array.size h) x (a * b):=by
 obtain ⟨na,sa,LA,rfl,HDa,htla,hla,hza⟩:=HA.out;obtain ⟨nb,sb,LB,rfl,HDb,htlb,hlb,hzb⟩:=HB.out;refine ABd (l:=[_,_]) mx Tryz.func136 rfl rfl rfl rfl rfl Zx (Zn (AJj [.bool na,sa] (fun _=>trivial) rfl rfl fun Ak h2 V3 E4 Bb Ce=>?_));have Cf:Array.size h<=Ak:=Bb;have Cg:=E4.1;have Z8:=(Ext.refl h).trans E4;refine AJj [.bool nb,sb] (fun _=>trivial) rfl rfl fun Am Ch Av Ag Be Ci=>?_;have Cj:Array.size h<=Am:=Nat.le_trans E4.1 Be;have nebq1bq9:Ak≠Am:=by have:=V3.lt;omega
 have Ck:=Ag.1;have Aw:=E4.trans Ag;have Ax:=V3.ext Ag;refine AG0 [.bool false,.slice none 0 0] AE0 rfl (fun _=>trivial) fun Ac Ai Bf Ad Bg Cm=>?_;have Cn:Array.size h<=Ac:=Nat.le_trans Aw.1 Bg;have nebq1bq20:Ak≠Ac:=by have:=Ax.lt;omega
 have nebq9bq20:Am≠Ac:=by have:=Av.lt;omega
 have Co:=Ad.1;have Bh:=(Z8.trans Ag).trans Ad;have Ao:=Aw.trans Ad;have Ay:=Ax.ext Ad;have Bi:=(E4.trans Ag).trans Ad;have Az:=Av.ext Ad;have Bj:=Ag.trans Ad;refine Zr (Zo (ACd (fun h'=>Ext Ai h') Zx ?_));have Aa:=Ext.refl Ai;refine AFv (fs:=1) ALi Zx Zk rfl (ACf AEi rfl Aa (fun h' hb=>(Ay.ext hb).cell (i:=0) rfl) (AFv (fs:=1) ALi Zx Zk rfl (ACf AEi rfl Aa (fun h' hb=>(Az.ext hb).cell (i:=0) rfl) (Aah AVq rfl rfl (AFv (fs:=1) AL4 Zx Zk rfl (ACf AHr rfl Aa (fun h' hb=>(Ay.ext hb).cell (i:=1) rfl) (AAy Aa rfl (AMn (DS.mono (HDa.ext Ao) (Nat.zero_le _)) Zh) fun Cp Ai hk=>?_)))))));obtain ⟨rfl,L1,Ap,Cr⟩:=hk;refine ⟨Aa,?_⟩;have Bl:=Ap.ds (lo:=la) HDa.lo;have A3:=Ap.val;have Ct:=Ap.len;refine AFv (fs:=1) AL4 Zx Zk rfl (ACf AHr rfl Aa (fun h' hb=>(Az.ext hb).cell (i:=1) rfl) (AAy Aa rfl (AMn (DS.mono (HDb.ext Ao) (Nat.zero_le _)) Zh) fun Cu Ai hk=>?_));obtain ⟨rfl,L2,Aq,Cw⟩:=hk;refine ⟨Aa,?_⟩;have Bm:=Aq.ds (lo:=lb) HDb.lo;have A4:=Aq.val;have Cx:=Aq.len;refine AAy Aa rfl (Akx Bl Bm Zh Zh) fun Cy Cz hk=>?_;obtain ⟨Ae,L4,A5,A6,A7,C1⟩:=hk;have Ar:=Aa.trans Ae;refine ⟨Ar,?_⟩;have C2:=Ae.1;have Bn:=Bh.trans Ae;have Bo:=Ao.trans Ae;have Bp:=Bi.trans Ae;have Bq:=Bj.trans Ae;have Br:=Bf.ext Ae;have Bt:=Ad.trans Ae;refine AAy Ar rfl (AJ1 (!(na == nb)) A5 A6 (AMe A6 (by rw [A7,A3,A4,<- AE8 hza,<- AE8 hzb];exact hab))) fun C3 C4 hk=>?_;obtain ⟨Ab,Bu⟩:=hk;have Bv:=Ar.trans Ab;refine ⟨Bv,?_⟩;have C5:=Ab.1;have Bw:=Bn.trans Ab;have Bx:=Bo.trans Ab;have By:=Bp.trans Ab;have Bz:=Bq.trans Ab;have B1:=Br.ext Ab;have B3:=Bt.trans Ab;have B4:=A5.ext Ab;obtain ⟨A8,s3,L3,rfl,Ba,B6,B7,B8⟩:=Bu.out;refine AB8 [.bool A8,s3] ABk rfl rfl rfl rfl (AJh Ba.cap) B1 fun C6 B9 Af=>?_;have Ca:=Bx.thenUpd Af (fun k hk=>by have Aj:k=Ac:=hk;omega);have C7:=Af.1;have C8:=Bw.thenUpd Af (fun k hk=>by have Aj:k=Ac:=hk;omega);have C9:=B3.thenUpd Af (fun k hk=>by have Aj:k=Ac:=hk;omega);have Da:=By.thenUpd Af (fun k hk=>by have Aj:k=Ac:=hk;omega);have Db:=Bz.thenUpd Af (fun k hk=>by have Aj:k=Ac:=hk;omega);have Dc:=B4.updLo Af Zh;have Cb:=Ba.updLo Af Zh;refine Zr (Zw (⟨_,ACb ABk rfl rfl B9,?_⟩));exact ⟨Ca,⟨A8,s3,L3,rfl,Cb.mono Zh,B6,B7,by rw [<- B8,A7,A3,A4,hza,hzb,Adg]⟩⟩
end Go.Proofs.YtdkldlbgcfpglaaGreatDoor.Ig
namespace Go.Proofs.YtdkldlbgcfpglaaGreatDoor
open Go Go.QF
def Asz (fuel:Nat) (a b:Int):Option Int:=if a.natAbs < ADr/\b.natAbs < ADr then some (a - b) else none
def Aja (fuel:Nat) (a b:Int):Option Int:=if a.natAbs * b.natAbs < ADr then some (a * b) else none
def AVc (fuel:Nat) (a b:Int):Option (Int × Int × Bool):=if a.natAbs < 18446744073709551616/\b.natAbs < 18446744073709551616/\b≠0 then some (a / b,a % b,true) else none
def As0 (fuel:Nat) (a:Int):Option Int:=some (-a)
def AVd (fuel:Nat) (a:Int):Option Int:=some a
def AZt (fuel:Nat) (a:Int):Option Int:=if -9223372036854775808<=a/\a<=9223372036854775807 then some a else none
def Aa3 (fuel:Nat) (a:Int):Option Int:=some (AF6 a)
theorem At7 {fuel:Nat} {h:Zu} {u v:Value} {a b r:Int} (H1:ZZ h u a) (H2:ZZ h v b) (hp:Asz fuel a b=some r):AAv Tryz.prog 162 #[u,v] h (fun x h'=>Ext h h'/\ ∃ (x0:Value),x=x0/\ZZ h' x0 r):=by
 obtain ⟨⟨h1,h2⟩,hp⟩:=ifN hp;cases hp;exact (Ig.Sub_ok H1 H2 h1 h2).mono fun x h' hk=>⟨hk.1,x,rfl,hk.2.zz⟩
theorem Ahn {fuel:Nat} {h:Zu} {u v:Value} {a b r:Int} (H1:ZZ h u a) (H2:ZZ h v b) (hp:Aja fuel a b=some r):AAv Tryz.prog 136 #[u,v] h (fun x h'=>Ext h h'/\ ∃ (x0:Value),x=x0/\ZZ h' x0 r):=by
 obtain ⟨h1,hp⟩:=ifN hp;cases hp;exact (Ig.MulZ_ok H1 H2 (Ank h1)).mono fun x h' hk=>⟨hk.1,x,rfl,hk.2.zz⟩
theorem At8 {fuel:Nat} {h:Zu} {u:Value} {a r:Int} (H1:ZZ h u a) (hp:As0 fuel a=some r):AAv Tryz.prog 163 #[u] h (fun x h'=>Ext h h'/\ ∃ (x0:Value),x=x0/\ZZ h' x0 r):=by
 cases hp;exact (Ig.Neg_ok H1).mono fun x h' hk=>⟨hk.1,x,rfl,hk.2.zz⟩
theorem AXp {fuel:Nat} {h:Zu} {u:Value} {a r:Int} (H1:ZZ h u a) (hp:AVd fuel a=some r):AAv Tryz.prog 133 #[u] h (fun x h'=>Ext h h'/\ ∃ (x0:Value),x=x0/\ZZ h' x0 r):=by
 cases hp;exact (Ig.Normalize_ok H1).mono fun x h' hk=>⟨hk.1,x,rfl,hk.2.zz⟩
theorem Aa4 {fuel:Nat} {h:Zu} {a r:Int} (hp:AZt fuel a=some r):AAv Tryz.prog 129 #[.int .i64 a] h (fun x h'=>Ext h h'/\ ∃ (x0:Value),x=x0/\ZZ h' x0 r):=by
 obtain ⟨h1,hp⟩:=ifN hp;cases hp;exact (Ig.Small_ok h1 h).mono fun x h' hk=>⟨hk.1,x,rfl,hk.2.zz⟩
theorem AZu {fuel:Nat} {h:Zu} {u:Value} {a r:Int} (H1:ZZ h u a) (hp:Aa3 fuel a=some r):AAv Tryz.prog 132 #[u] h (fun x h'=>Ext h h'/\x= .int .i64 r):=by
 cases hp;exact Ig.Sign_ok H1
theorem AYt {fuel:Nat} {h:Zu} {u v:Value} {a b:Int} {r:Int × Int × Bool} (H1:ZZ h u a) (H2:ZZ h v b) (hp:AVc fuel a b=some r):AAv Tryz.prog 135 #[u,v] h (fun x h'=>Ext h h'/\ ∃ (x0:Value) (x1:Value),x= .tuple #[x0,x1,.bool r.2.2]/\ZZ h' x0 r.1/\ZZ h' x1 r.2.1):=by
 obtain ⟨⟨h1,h2,h3⟩,hp⟩:=ifN hp;cases hp;exact (Ig.DivMod2_ok H1 H2 h1 h2 h3).mono fun x h' ⟨E,q,r,hx,hq,hr⟩=>⟨E,q,r,hx,hq.zz,hr.zz⟩
end Go.Proofs.YtdkldlbgcfpglaaGreatDoor
namespace Go.Proofs.YtdkldlbgcfpglaaGreatDoor
open Go Go.QF
set_option maxRecDepth 100000
set_option maxHeartbeats 4000000
def AK8 (fuel:Nat) (a3:LiI) (Ac:LiA) (Aa:Int):Option ((Int) ⊕ (((Int × Int × Bool)) ⊕ (Unit))):=
  (if Aa < (a3.length:Int) then ((gI a3 Aa).bind fun Ad=>(if ¬ (Ad.length:Int)=(Ac.length:Int) then (some (Sum.inr<| Sum.inl <| (0,0,false))) else (some (Sum.inl (w64 (Aa + 1)))))) else (some (Sum.inr<| Sum.inr <| ())))
def AHd (fuel:Nat) (a3:LiI):Option (Int × Int × Bool):=
  (((if (a3.length:Int) < 1 then (some (Sum.inl <| (0,0,false))) else (if 16 < (a3.length:Int) then (some (Sum.inl <| (0,0,false))) else (some (Sum.inr <| ())))):Option (((Int × Int × Bool)) ⊕ (Unit))).bind (fun ex=>match ex with | Sum.inl Ac=>(some Ac) | Sum.inr (_)=>((gI a3 0).bind fun Ab=>(((if (Ab.length:Int) < 1 then (some (Sum.inl <| (0,0,false))) else (if 16 < (Ab.length:Int) then (some (Sum.inl <| (0,0,false))) else (some (Sum.inr <| ())))):Option (((Int × Int × Bool)) ⊕ (Unit))).bind (fun ex=>match ex with | Sum.inl Ad=>(some Ad) | Sum.inr (_)=>((iter (fun s=>AK8 fuel a3 Ab s) fuel 0).bind (fun ex=>match ex with | Sum.inl Ae=>(some Ae) | Sum.inr (_)=>(some ((a3.length:Int),(Ab.length:Int),true)))))))))
theorem AS9 {fuel:Nat} {h:Zu} {Aq:Value} {a3:LiI} {r:(Int × Int × Bool)} (H2:AC5 (cI .i64) h Aq a3) (hp:AHd fuel a3=some r):AAv Tryz.prog 126 #[Aq] h (fun x h'=>Ext h h'/\x= .tuple #[.int .i64 r.1,.int .i64 r.2.1,.bool r.2.2]):=by
 unfold AHd at hp;refine cwf (l:=[_]) Tryz.func126 rfl rfl (Zn (AAl (AAl (Zt ?_))));have K0:=Kst.k0 h;obtain ⟨A3,Ar,Ah⟩:=Zp hp;refine AKb 65308 (fun x:Unit=>[]) (fun x h'=>(Sum.inr <| ())=A3/\Kst h h' (K0.L)) ?_ ?_
 ·refine Zn (Zj (AA8 AAf rfl H2 (AAu rfl rfl (Zj ?_))));by_cases Ad:(a3.length:Int) < 1
  ·rw [decide_eq_true Ad];refine ADe 11 true (Z4 rfl (Zr (AAr rfl (Zn (AAl (AAl (Zt ?_)))))));obtain rfl:=Zl (ifT Ar Ad);refine Zw (AAc ?_);obtain rfl:=Zl Ah;exact ⟨_,AKa,K0.x,rfl⟩
  ·have Au:=ifF Ar Ad;rw [decide_eq_false Ad];refine AAb 11 false (Zj (AAb 11 false (AA8 AAf rfl H2 (AAb 11 false (AGb rfl rfl (Zz rfl (Zr (⟨_,rfl,fun Ai=>?_,fun Ai=>?_⟩))))))))
   ·refine Zn (AAl (AAl (Zt ?_)));obtain rfl:=Zl (AA5 Au Ai);refine Zw (AAc ?_);obtain rfl:=Zl Ah;exact ⟨_,AKa,K0.x,rfl⟩
   ·refine Zv (q_t ?_);exact ⟨(():Unit),⟨Zl (AA6 Au Ai),K0⟩,trivial⟩
 rintro ⟨⟩ Be Bf ⟨A4,Ab⟩;subst A4;refine Zn (Zj ?_);obtain ⟨A5,A6,A7⟩:=Zp Ah;refine AGs AAf AA2 H2 Ab.x A6 fun _ Bg A8=>ABm AAg rfl A8 (Zt ?_);obtain ⟨A9,Av,Aj⟩:=Zp A7;refine AKb 66060316 (fun x:Unit=>[]) (fun x h'=>(Sum.inr <| ())=A9/\Kst h h' (Ab.L)) ?_ ?_
 ·refine Zn (Zj (AAu rfl rfl (Zj ?_)));by_cases Ae:(A5.length:Int) < 1
  ·rw [decide_eq_true Ae];refine AGz 22 true (Z4 rfl (Zr (AAr rfl (Zn (AAl (AAl (Zt ?_)))))));obtain rfl:=Zl (ifT Av Ae);refine Zw (AAc ?_);obtain rfl:=Zl Aj;exact ⟨_,AKa,Ab.x,rfl⟩
  ·have Aw:=ifF Av Ae;rw [decide_eq_false Ae];refine AAb 22 false (Zj (AAb 22 false (AGb rfl rfl (Zz rfl (Zr (⟨_,rfl,fun Ak=>?_,fun Ak=>?_⟩))))))
   ·refine Zn (AAl (AAl (Zt ?_)));obtain rfl:=Zl (AA5 Aw Ak);refine Zw (AAc ?_);obtain rfl:=Zl Aj;exact ⟨_,AKa,Ab.x,rfl⟩
   ·refine Zv (q_t ?_);exact ⟨(():Unit),⟨Zl (AA6 Aw Ak),Ab⟩,trivial⟩
 rintro ⟨⟩ Bh Bi ⟨Ba,Ax⟩;subst Ba;refine Zo (Zn (Zj (AA8 AAf rfl H2 (Zj (Zr (Zs (AG4 137170518172 Aj (fun x=>[(28,(.int .i64 x))]) (fun x=>Ax.L) Ax ⟨rfl,trivial⟩ ?_)))))));rintro Bj Bl Bm Bn Af Am Ay;unfold AK8 at Am;refine Zn (AAu rfl rfl (Zr (Zo (⟨_,rfl,fun Ao=>?_,fun Ao=>?_⟩))))
 ·refine Zv (q_t (Zo (Zs (Zn ?_))));obtain ⟨Bo,Bb,Az⟩:=Zp (AA5 Am Ao);refine AGs AAf AA2 H2 Af.x Bb fun _ Bp Bc=>AA4 (Zj (ABm AAg rfl Bc (Zj (ACk rfl rfl (Zr (⟨_,rfl,fun Ap=>?_,fun Ap=>?_⟩))))))
  ·refine Zn (AAl (AAl (Zt (Zw (ABi (AAc (AAc (ABi (AAc ?_)))))))));obtain rfl:=Zl (Ay _ (Zl (AA5 Az Ap)).symm);exact ⟨_,AKa,Af.x,rfl⟩
  ·refine Zv (q_b (q_t (AAa (AA0 rfl rfl (Zj (Zr ?_))))));exact ⟨_,(Zl (AA6 Az Ap)).symm,Af,rfl,trivial⟩
 ·refine AAh (AAi (AAi (ABj (q_t (Zn (Zj (AA8 AAf rfl H2 (Zj (AAl (AAl (Zt (Zw ?_))))))))))));obtain rfl:=Zl (Ay _ (Zl (AA6 Am Ao)).symm);exact ⟨_,AKa,Af.x,rfl⟩
def AJr (fuel:Nat) (a3:LiI) (Ac:LiA) (Aa:Int):Option ((Int) ⊕ (((Int × Int × Bool)) ⊕ (Unit))):=
  (if Aa < (a3.length:Int) then ((gI a3 Aa).bind fun Ad=>(if ¬ (Ad.length:Int)=(Ac.length:Int) then (some (Sum.inr<| Sum.inl <| (0,0,false))) else (some (Sum.inl (w64 (Aa + 1)))))) else (some (Sum.inr<| Sum.inr <| ())))
def AGf (fuel:Nat) (a3:LiI):Option (Int × Int × Bool):=
  (((if (a3.length:Int) < 1 then (some (Sum.inl <| (0,0,false))) else (if 16 < (a3.length:Int) then (some (Sum.inl <| (0,0,false))) else (some (Sum.inr <| ())))):Option (((Int × Int × Bool)) ⊕ (Unit))).bind (fun ex=>match ex with | Sum.inl Ac=>(some Ac) | Sum.inr (_)=>((gI a3 0).bind fun Ab=>(((if (Ab.length:Int) < 1 then (some (Sum.inl <| (0,0,false))) else (if 16 < (Ab.length:Int) then (some (Sum.inl <| (0,0,false))) else (some (Sum.inr <| ())))):Option (((Int × Int × Bool)) ⊕ (Unit))).bind (fun ex=>match ex with | Sum.inl Ad=>(some Ad) | Sum.inr (_)=>((iter (fun s=>AJr fuel a3 Ab s) fuel 0).bind (fun ex=>match ex with | Sum.inl Ae=>(some Ae) | Sum.inr (_)=>(some ((a3.length:Int),(Ab.length:Int),true)))))))))
theorem ARs {fuel:Nat} {h:Zu} {Aq:Value} {a3:LiI} {r:(Int × Int × Bool)} (H2:AC5 cZ h Aq a3) (hp:AGf fuel a3=some r):AAv Tryz.prog 130 #[Aq] h (fun x h'=>Ext h h'/\x= .tuple #[.int .i64 r.1,.int .i64 r.2.1,.bool r.2.2]):=by
 unfold AGf at hp;refine cwf (l:=[_]) Tryz.func130 rfl rfl (Zn (AAl (AAl (Zt ?_))));have K0:=Kst.k0 h;obtain ⟨A3,Ar,Ah⟩:=Zp hp;refine AKb 65308 (fun x:Unit=>[]) (fun x h'=>(Sum.inr <| ())=A3/\Kst h h' (K0.L)) ?_ ?_
 ·refine Zn (Zj (AA8 ABw rfl H2 (AAu rfl rfl (Zj ?_))));by_cases Ad:(a3.length:Int) < 1
  ·rw [decide_eq_true Ad];refine ADe 11 true (Z4 rfl (Zr (AAr rfl (Zn (AAl (AAl (Zt ?_)))))));obtain rfl:=Zl (ifT Ar Ad);refine Zw (AAc ?_);obtain rfl:=Zl Ah;exact ⟨_,AKa,K0.x,rfl⟩
  ·have Au:=ifF Ar Ad;rw [decide_eq_false Ad];refine AAb 11 false (Zj (AAb 11 false (AA8 ABw rfl H2 (AAb 11 false (AGb rfl rfl (Zz rfl (Zr (⟨_,rfl,fun Ai=>?_,fun Ai=>?_⟩))))))))
   ·refine Zn (AAl (AAl (Zt ?_)));obtain rfl:=Zl (AA5 Au Ai);refine Zw (AAc ?_);obtain rfl:=Zl Ah;exact ⟨_,AKa,K0.x,rfl⟩
   ·refine Zv (q_t ?_);exact ⟨(():Unit),⟨Zl (AA6 Au Ai),K0⟩,trivial⟩
 rintro ⟨⟩ Be Bf ⟨A4,Ab⟩;subst A4;refine Zn (Zj ?_);obtain ⟨A5,A6,A7⟩:=Zp Ah;refine AGs ABw ADv H2 Ab.x A6 fun _ Bg A8=>ABm ACz rfl A8 (Zt ?_);obtain ⟨A9,Av,Aj⟩:=Zp A7;refine AKb 66060316 (fun x:Unit=>[]) (fun x h'=>(Sum.inr <| ())=A9/\Kst h h' (Ab.L)) ?_ ?_
 ·refine Zn (Zj (AAu rfl rfl (Zj ?_)));by_cases Ae:(A5.length:Int) < 1
  ·rw [decide_eq_true Ae];refine AGz 22 true (Z4 rfl (Zr (AAr rfl (Zn (AAl (AAl (Zt ?_)))))));obtain rfl:=Zl (ifT Av Ae);refine Zw (AAc ?_);obtain rfl:=Zl Aj;exact ⟨_,AKa,Ab.x,rfl⟩
  ·have Aw:=ifF Av Ae;rw [decide_eq_false Ae];refine AAb 22 false (Zj (AAb 22 false (AGb rfl rfl (Zz rfl (Zr (⟨_,rfl,fun Ak=>?_,fun Ak=>?_⟩))))))
   ·refine Zn (AAl (AAl (Zt ?_)));obtain rfl:=Zl (AA5 Aw Ak);refine Zw (AAc ?_);obtain rfl:=Zl Aj;exact ⟨_,AKa,Ab.x,rfl⟩
   ·refine Zv (q_t ?_);exact ⟨(():Unit),⟨Zl (AA6 Aw Ak),Ab⟩,trivial⟩
 rintro ⟨⟩ Bh Bi ⟨Ba,Ax⟩;subst Ba;refine Zo (Zn (Zj (AA8 ABw rfl H2 (Zj (Zr (Zs (AG4 137170518172 Aj (fun x=>[(28,(.int .i64 x))]) (fun x=>Ax.L) Ax ⟨rfl,trivial⟩ ?_)))))));rintro Bj Bl Bm Bn Af Am Ay;unfold AJr at Am;refine Zn (AAu rfl rfl (Zr (Zo (⟨_,rfl,fun Ao=>?_,fun Ao=>?_⟩))))
 ·refine Zv (q_t (Zo (Zs (Zn ?_))));obtain ⟨Bo,Bb,Az⟩:=Zp (AA5 Am Ao);refine AGs ABw ADv H2 Af.x Bb fun _ Bp Bc=>AA4 (Zj (ABm ACz rfl Bc (Zj (ACk rfl rfl (Zr (⟨_,rfl,fun Ap=>?_,fun Ap=>?_⟩))))))
  ·refine Zn (AAl (AAl (Zt (Zw (ABi (AAc (AAc (ABi (AAc ?_)))))))));obtain rfl:=Zl (Ay _ (Zl (AA5 Az Ap)).symm);exact ⟨_,AKa,Af.x,rfl⟩
  ·refine Zv (q_b (q_t (AAa (AA0 rfl rfl (Zj (Zr ?_))))));exact ⟨_,(Zl (AA6 Az Ap)).symm,Af,rfl,trivial⟩
 ·refine AAh (AAi (AAi (ABj (q_t (Zn (Zj (AA8 ABw rfl H2 (Zj (AAl (AAl (Zt (Zw ?_))))))))))));obtain rfl:=Zl (Ay _ (Zl (AA6 Am Ao)).symm);exact ⟨_,AKa,Af.x,rfl⟩
def AMx (fuel:Nat) (a3:LiI) (Ab:Int) (Af:LiA) (Aa:Int) (Ac:LiI):Option ((Int × LiI) ⊕ ((LiI))):=
  (if Aa < (Af.length:Int) then ((gI Ac Ab).bind fun Ad=>((((gI a3 Ab).bind fun Ag=>((gI Ag Aa).bind fun Ah=>((AZt fuel Ah).bind fun Ai=>(some ( Ai))))):Option (Int)).bind fun Aj=>((gI Ad Aa).bind fun Ak=>(some (Sum.inl ((w64 (Aa + 1)),(sI Ac Ab (sI Ad Aa Aj)))))))) else (some (Sum.inr<| Ac)))
def AMy (fuel:Nat) (a3:LiI) (Ae Ab Aa:Int) (Ac:LiI):Option ((Int × LiI) ⊕ ((LiI))):=
  (if Aa < ((List.replicate (Int.toNat Ae) ([]:List Int)).length:Int) then (if 0<=Ab/\Ab<=100000000 then ((gI Ac Aa).bind fun Ah=>((gI (sI Ac Aa (List.replicate (Int.toNat Ab) (0:Int))) Aa).bind fun Af=>((iter (fun s=>AMx fuel a3 Aa Af s.1 s.2) fuel (0,(sI Ac Aa (List.replicate (Int.toNat Ab) (0:Int))))).bind (fun (Ag:LiI)=>(some (Sum.inl ((w64 (Aa + 1)),Ag))))))) else none) else (some (Sum.inr<| Ac)))
def AJ2 (fuel:Nat) (a3:LiI):Option (LiI × Bool):=
  ((AHd fuel a3).bind fun (Aa,Ac,Ad)=>(if (!Ad)=true then (some ([],false)) else (((if 0<=Aa/\Aa<=100000000 then ((iter (fun s=>AMy fuel a3 Aa Ac s.1 s.2) fuel (0,(List.replicate (Int.toNat Aa) ([]:List Int)))).bind (fun (Ae:LiI)=>(some ( Ae)))) else none):Option (LiI)).bind fun Af=>(some (Af,true)))))
theorem AVe {fuel:Nat} {h:Zu} {Ah:Value} {a3:LiI} {r:(LiI × Bool)} (H2:AC5 (cI .i64) h Ah a3) (hp:AJ2 fuel a3=some r):AAv Tryz.prog 77 #[Ah] h (fun x h'=>Ext h h'/\ ∃ (x0:Value) (F0:List Nat) (Bu:List LnA) (Bv:List Value),x= .tuple #[x0,.bool r.2]/\ACs cZ 128 94 h' F0 Bu Bv x0 r.1/\Sp h' h.size [F0]):=by
 unfold AJ2 at hp;refine cwf (l:=[_]) Tryz.func77 rfl rfl (Zn ?_);have K0:=Kst.k0 h;refine Am8 [Ah] trivial tt2 rfl (Ae8 ((H2.ext K0.x)).isOne) fun b5 h6 V7 E8 S9=>AAl (AA4 ?_);have Aj:=K0.nb E8 S9 V7;refine AA7 AEz rfl ((Aj.b p0).cell (i:=0) rfl) ?_;obtain ⟨⟨B1,B3,D1⟩,B4,Ak⟩:=Zp hp;dsimp only at Ak;refine ACl Aj (AS9 (H2.ext Aj.x) B4) fun D2 D3 Am=>Zj (ABl rfl rfl (ABl rfl rfl (ABl rfl rfl (AAl (AAl (Zt (Zo (Zn (Zj (ACt rfl (Zr (⟨_,rfl,fun Ao=>?_,fun Ao=>?_⟩))))))))))))
 ·refine Zn (AAl (Zt (Zw (AAc ?_))));have Ap:=Kst.anil2 cZ 128 94 Am;obtain rfl:=Zl (ifT Ak Ao);exact ⟨_,ABf,Ap.x,_,_,_,_,rfl,(Ap.o2 p0),Ap.s.sel [0] Zk⟩
 ·refine Zv (q_t (Zn (Zj (Zj (Al6 rfl ?_)))));obtain ⟨B5,B6,B7⟩:=Zp (AF9 Ak Ao);refine AAy (K':=(fun xr h'=> ∃ x:(LiI) × (Value) × LnA × LnN × LvA,x.1=B5/\xr=x.2.1/\Kst h h' (aO2 cZ 128 94 x.2.2.1 x.2.2.2.1 x.2.2.2.2 x.2.1 x.1 :: Am.L))) trivial rfl ?_ fun B8 D4 B9=>?_
  ·refine cwf (l:=[_,_,_]) Tryz.func127 rfl rfl (Zn (AA4 (Zj ?_)));obtain ⟨Ca,Cb⟩:=ifN B6;refine AR7 cZ 94 ABw Ae9 rfl trivial tt2 rfl rfl Zk Ca fun Cd Ce Cf Aq D5 Cg Ch Ci=>Zt (Zo (Zn (Zj ?_)));have Ar:=Am.no2 Ch Ci Cg;refine AA8 ABw rfl (Ar.o2 p0).rd (Zj (Zr (Zs (AFj 4398046495488 (fun x:(Int) × (LiI) × LnA × LnN × LvA=>(x.1,x.2.1)) ((0,(List.replicate (Int.toNat B1) ([]:List Int)),Cd,Ce,Cf):(Int) × (LiI) × LnA × LnN × LvA) Cb (fun x=>[(14,(.int .i64 x.1))]) (fun x=>Ar.L.set 0 (aO2 cZ 128 94 x.2.2.1 x.2.2.2.1 x.2.2.2.2 Aq x.2.1)) Ar ⟨rfl,trivial⟩ ?_))));rintro ⟨Aa,Bg,Cj,Au,Bh⟩ D6 D7 D8 Bi Av Ck;unfold AMy at Av;refine Zn (AAu rfl rfl (Zr (Zo (⟨_,rfl,fun Aw=>?_,fun Aw=>?_⟩))))
   ·refine Zv (q_t (Zo (Zs (Zn (Zj (AA4 (Zj (Zj (Zj ?_)))))))));obtain ⟨Cm,Cn⟩:=ifN (AA5 Av Aw);refine Ag1 ACz AE0 rfl trivial tt2 rfl rfl Zk Cm fun Bj Co D9 Cp Cq Cr Ct=>?_;have Ac:=Bi.no Cq (AE5 Cr Ct) Cp;obtain ⟨Ea,Bl,Cu⟩:=Zp Cn;refine AC2 ABw rfl (Ac.o2 p1) rfl Bl fun Cv Eb Cw Ec Ed=>AR6 ADv (Ac.o2 p1) Bl Cw rfl rfl (Ac.o p0) (Ac.dj p0 p1 Zk) fun Ee Cx Cy Cz=>AH7 (Zj (Zj ?_));have Ax:=Ac.m2 p0 p1 Zk Cy Cx (fun z hz=> .inl (Cz z hz));obtain ⟨Ef,Bm,C0⟩:=Zp Cu;refine ABy ABw ADv (Ax.o2 p1) Bm fun _ Eg C1=>ABm ACz rfl ((Ax.o2 p1).rowI C1 Bm) (Zj (Zr (Zs ?_)));have Ay:=Ax.sel [1,2] Zk;dsimp only [AHa,AKo] at Ay;refine AFj 2198889038336 (fun x:(Int) × (LiI) × LnA × LnN × LvA=>(x.1,x.2.1)) ((0,(sI Bg Aa (List.replicate (Int.toNat B3) (0:Int))),(Cv :: (Au.set (Int.toNat Aa) [Bj]).flatten),(Au.set (Int.toNat Aa) [Bj]),(Bh.set (Int.toNat Aa) Co)):(Int) × (LiI) × LnA × LnN × LvA) C0 (fun x=>[(27,(.int .i64 x.1))]) (fun x=>Ay.L.set 0 (aO2 cZ 128 94 x.2.2.1 x.2.2.2.1 x.2.2.2.2 Aq x.2.1)) Ay ⟨rfl,trivial⟩ ?_;rintro ⟨C2,Eh,Ei,Ej,Ek⟩ El Ab Em Ad Az C3;unfold AMx at Az;refine Zn (AAu rfl rfl (Zr (Zo (⟨_,rfl,fun A3=>?_,fun A3=>?_⟩))))
    ·refine Zv (q_t (Zo (Zs (Zn (Zj (Zt (ACd (fun h'=>UpT [] Ab h') Zx ?_)))))));have A4:UpT [] Ab Ab:=UpT.start all_nil;refine Zj (Zj ?_);obtain ⟨En,A5,C4⟩:=Zp (AA5 Az A3);refine AC2 ABw rfl (Ad.o2 p0) rfl A5 fun Eo Ep Er C5 C6=>ACf ADv rfl A4 (fun h' hb=>AAx C6 hb.ext) (Zj (Zj (Zj (Zj ?_))));obtain ⟨C7,C8,C9⟩:=Zp C4;have Da:UpT [] Ab Ab:=UpT.start all_nil;refine AZk (l:=[(.int .i64 Aa),(.int .i64 C2)]) (cl:=[(.pointer (some ⟨b5,0,none⟩))]) (K':=(fun xr h'=> ∃ x:(Int) × LvA,x.1=C7/\xr=(.agg (x.2).toArray)/\Kst h h' (aZ x.2 x.1 :: Ad.L)/\UpT [] Ab h')) A4 rfl rfl ?_ fun Es Et Db=>?_
     ·refine cwf (l:=[_,_,_]) Tryz.func128 rfl rfl (Zn (Aak [.bool false,.slice none 0 0] AE0 rfl trivial tt2 fun Eu Ev Dc A6 Bn=>AH7 ?_));have Ew:=A6.1;have Ag:=Ad.nb A6 Bn Dc;refine AA7 AEz rfl ((Ag.b p2).cell (i:=0) rfl) (Zj ?_);have Dd:=Bn.loAll 0 rfl;obtain ⟨Ey,De,Df⟩:=Zp C8;refine AS2 AAf rfl H2 rfl De fun Ez Fa Fb Dg Dh=>AA7 AA2 rfl (AAx Dg Ag.x) (Zj ?_);obtain ⟨Fc,Di,Dj⟩:=Zp Df;refine AIw (c:=(cI .i64)) AAg rfl Dh rfl Di fun Fd Fe Ff Dk Dl=>?_;obtain rfl:=Dk;refine AA7 AAk rfl (AAx (Dl 0 _ rfl) Ag.x) ?_;obtain ⟨Do,Dp,Dq⟩:=Zp Dj;refine ANz rfl (Aa4 Dp) fun Fg Dr A7 Ds=>?_;obtain ⟨Fh,rfl,Dt⟩:=Ds;have Fi:=A7.1;obtain ⟨Bo,rfl,Du⟩:=Dt.cs;have Ae:=(Ag.e A7).az Du;refine AB8 Bo ABk (cZ.klen (Ae.z p0)) (cZ.klen (AAe Dr)) rfl rfl (cZ.one (Ae.z p0)) (Ae.b p1) fun Fj Bp A8=>Zr (Zw ?_);have Fk:=A8.1;have A9:=Ae.sb p1 A8 Bp rfl;refine ⟨_,ACb ABk (cZ.klen (A9.z p0)) rfl (A9.b p1),((Do,Bo):(Int) × LvA),?_,rfl,?_,?_⟩
      ·exact Zl Dq
      ·exact A9.sel [0,2,3] Zk
      ·exact (((Da.thenE A6).thenE A7).then (Bp.stA A8 (AGa (Ae.b p1) rfl) rfl) (Atl Dd Zh))
     obtain ⟨⟨Fl,Fm⟩,Dv,rfl,Af,Bq⟩:=Db;have Fo:=Bq.size;refine ⟨(A4.then Bq all_nil),?_⟩;subst Dv;obtain ⟨Fp,Br,Dw⟩:=Zp C9;refine AE6 (m:=Aa) ACz rfl (Ad.o2 p0) C5 A5 rfl Br fun Fq Dx=>ANk (m:=Aa) (AR5 ABk (cZ.klen (Af.z p0)) rfl rfl (cZ.one (Af.z p0))) (Af.o2 p1) Dx A5 Br (Af.z p0) fun Fr Dy Bt=>AAn (q_b (q_t (AAa (AA0 rfl rfl (Zj (Zr ?_))))));have Ft:=Bt.size;exact ⟨(_,_,_,_,_),(Zl Dw).symm,(Af.uO2 p1 Bt Dy).sel [1,2] Zk,rfl,trivial⟩
    ·refine AAh (AAi (AAi (ABj (q_b (q_t (AAa (AA0 rfl rfl (Zj (Zr ?_)))))))));exact ⟨(_,_,_,_,_),(Zl (C3 _ (Zl (AA6 Az A3)).symm)).symm,Ad,rfl,trivial⟩
   ·refine AAh (AAi (AAi (ABj (q_t (Zn (Zj (Zt (Zw (⟨_,Zy,((Bg,Aq,Cj,Au,Bh):(LiI) × (Value) × LnA × LnN × LvA),?_,rfl,?_⟩)))))))))
    ·exact Zl (Ck _ (Zl (AA6 Av Aw)).symm)
    ·exact Bi
  obtain ⟨⟨Fu,B8,Fv,Fw,Fx⟩,Dz,rfl,Ba⟩:=B9;refine ⟨trivial,?_⟩;subst Dz;refine AAl (Zt (Zw ?_));obtain rfl:=Zl B7;exact ⟨_,ABf,Ba.x,_,_,_,_,rfl,(Ba.o2 p0),Ba.s.sel [0] Zk⟩
def AK9 (fuel:Nat) (a3:LiI) (Ac:Int) (Ad:LiI) (Aa:Int):Option ((Int) ⊕ ((Int))):=
  (((if Aa < (a3.length:Int) then ((gI Ad Aa).bind fun Ae=>((gI Ae Ac).bind fun Af=>((Aa3 fuel Af).bind fun Ag=>(if Ag=0 then (some (Sum.inl <| ())) else (some (Sum.inr <| ())))))) else (some (Sum.inr <| ()))):Option ((Unit) ⊕ (Unit))).bind (fun ex=>match ex with | Sum.inl _=>(some (Sum.inl (w64 (Aa + 1)))) | Sum.inr (_)=>(some (Sum.inr<| Aa))))
def ALa (fuel:Nat) (a3:LiI) (Ad Ag Ah Ae Aa:Int) (Ab:LiI):Option ((Int × LiI) ⊕ ((LiI))):=
  (if Aa < (a3.length:Int) then ((gI Ab Ae).bind fun Ac=>((gI Ac Aa).bind fun Ai=>((Aja fuel Ah Ai).bind fun Aj=>((gI Ac Ad).bind fun Ak=>((gI Ab Ad).bind fun Am=>((gI Am Aa).bind fun Ao=>((Aja fuel Ak Ao).bind fun Ap=>((Asz fuel Aj Ap).bind fun Aq=>((AVc fuel Aq Ag).bind fun (Ar,Au,Av)=>(some (Sum.inl ((w64 (Aa + 1)),(sI Ab Ae (sI Ac Aa Ar)))))))))))))) else (some (Sum.inr<| Ab)))
def ALb (fuel:Nat) (a3:LiI) (Ac Ae Af Aa:Int) (Ad:LiI):Option ((Int × LiI) ⊕ ((LiI))):=
  (if Aa < (a3.length:Int) then ((iter (fun s=>ALa fuel a3 Ac Ae Af Aa s.1 s.2) fuel ((w64 (Ac + 1)),Ad)).bind (fun (Ag:LiI)=>(some (Sum.inl ((w64 (Aa + 1)),Ag))))) else (some (Sum.inr<| Ad)))
def ALc (fuel:Nat) (a3:LiI) (Ae:Bool) (Aa:Int) (Ab:LiI) (Af:Int):Option ((Bool × Int × LiI × Int) ⊕ ((Int) ⊕ (Bool × Int))):=
  (if Aa < (a3.length:Int) then ((((iter (fun s=>AK9 fuel a3 Aa Ab s) fuel Aa).bind (fun (Ai:Int)=>(some ( Ai)))):Option ((Int))).bind (fun (Ad:Int)=>(if Ad=(a3.length:Int) then (some (Sum.inr<| Sum.inl <| 0)) else (((if ¬ Ad=Aa then ((gI Ab Ad).bind fun Aj=>((gI Ab Aa).bind fun Ak=>(some ( ((!Ae),(sI (sI Ab Aa Aj) Ad Ak)))))) else (some ( (Ae,Ab)))):Option ((Bool × LiI))).bind (fun ((Am,Ag):Bool × LiI)=>((gI Ag Aa).bind fun Ao=>((gI Ao Aa).bind fun Ah=>((iter (fun s=>ALb fuel a3 Aa Af Ah s.1 s.2) fuel ((w64 (Aa + 1)),Ag)).bind (fun (Ap:LiI)=>(some (Sum.inl (Am,(w64 (Aa + 1)),Ap,Ah)))))))))))) else (some (Sum.inr<| Sum.inr <| (Ae,Af))))
def ALd (fuel:Nat) (a3:LiI) (Aa:Int) (Ac:LiI):Option ((Int × LiI) ⊕ ((LiI))):=
  (if Aa < (a3.length:Int) then ((gI a3 Aa).bind fun Ad=>(if 0<=(a3.length:Int)/\(a3.length:Int)<=100000000 then ((gI Ac Aa).bind fun Af=>((gI (sI Ac Aa (List.replicate (Int.toNat (a3.length:Int)) (0:Int))) Aa).bind fun Ae=>(if Ad.length=Ae.length/\0 < Ae.length then (some (Sum.inl ((w64 (Aa + 1)),(sI (sI Ac Aa (List.replicate (Int.toNat (a3.length:Int)) (0:Int))) Aa Ad)))) else none))) else none)) else (some (Sum.inr<| Ac)))
def AHe (fuel:Nat) (a3:LiI):Option Int:=
  (if 0<=(a3.length:Int)/\(a3.length:Int)<=100000000 then ((iter (fun s=>ALd fuel a3 s.1 s.2) fuel (0,(List.replicate (Int.toNat (a3.length:Int)) ([]:List Int)))).bind (fun (Ac:LiI)=>((AZt fuel 1).bind fun Ad=>((iter (fun s=>ALc fuel a3 s.1 s.2.1 s.2.2.1 s.2.2.2) fuel (false,0,Ac,Ad)).bind (fun ex=>match ex with | Sum.inl Ae=>(some Ae) | Sum.inr ((Af,Ab))=>(if Af=true then ((As0 fuel Ab).bind fun Ag=>(some Ag)) else ((AVd fuel Ab).bind fun Ah=>(some Ah)))))))) else none)
theorem ATa {fuel:Nat} {h:Zu} {Bx:Value} {a3:LiI} {r:Int} (H2:AC5 cZ h Bx a3) (hp:AHe fuel a3=some r):AAv Tryz.prog 131 #[Bx] h (fun x h'=>Ext h h'/\ ∃ (x0:Value),x=x0/\ZZ h' x0 r):=by
 unfold AHe at hp;refine cwf (l:=[_]) Tryz.func131 rfl rfl (Zn (AC1 (Kst.k0 h) [.bool false,.slice none 0 0] AE0 fun b5 h6 E8 C7=>AH7 (Zj (AA8 ABw rfl H2 (AA4 (Zj ?_))))));obtain ⟨C8,C9⟩:=ifN hp;refine AR7 cZ 94 ABw Ae9 rfl trivial tt2 rfl rfl Zk C8 fun Da Db Dc Ak Id Dd De Df=>Zt (Zo (Zn (Zj (AA8 ABw rfl H2 (Zj (Zr (Zs ?_)))))));have Bz:=C7.no2 De Df Dd;refine AFj 274875809888 (fun x:(Int) × (LiI) × LnA × LnN × LvA=>(x.1,x.2.1)) ((0,(List.replicate (Int.toNat (a3.length:Int)) ([]:List Int)),Da,Db,Dc):(Int) × (LiI) × LnA × LnN × LvA) C9 (fun x=>[(21,(.int .i64 x.1))]) (fun x=>Bz.L.set 0 (aO2 cZ 128 94 x.2.2.1 x.2.2.2.1 x.2.2.2.2 Ak x.2.1)) Bz ⟨rfl,trivial⟩ ?_;rintro ⟨Dg,u32,Dh,Di,Dj⟩ Ie If Ih A7 A8 Dk;unfold ALd at A8;refine Zn (AAu rfl rfl (Zr (Zo (⟨_,rfl,fun A9=>?_,fun A9=>?_⟩))))
 ·refine Zv (q_t (Zo (Zs (Zn (Zj ?_)))));obtain ⟨Ii,Dl,Do⟩:=Zp (AA5 A8 A9);refine AGs ABw ADv H2 A7.x Dl fun _ Ij Dp=>AAl (AA4 (Zj (Zj (Zj ?_))));obtain ⟨Dq,Dr⟩:=ifN Do;refine Ag1 ACz AE0 rfl trivial tt2 rfl rfl Zk Dq fun Ik Il Im Ds Dt Du Dv=>?_;have Am:=A7.no Dt (AE5 Du Dv) Ds;obtain ⟨Io,B1,Dw⟩:=Zp Dr;refine AC2 ABw rfl (Am.o2 p1) rfl B1 fun Ip Iq Dx Ir Is=>AR6 ADv (Am.o2 p1) B1 Dx rfl rfl (Am.o p0) (Am.dj p0 p1 Zk) fun It Dy Dz D0=>Zr (AAa (Zj (Zj ?_)));have Au:=Am.m2 p0 p1 Zk Dz Dy (fun z hz=> .inl (D0 z hz));obtain ⟨Iu,B3,D1⟩:=Zp Dw;refine ABy ABw ADv (Au.o2 p1) B3 fun _ Iv D2=>Zj ?_;obtain ⟨D3,D4⟩:=ifN D1;refine Anj (m:=Dg) ACz trivial rfl rfl (Au.o2 p1) D2 B3 (Dp.ext Au.x) D3 fun Iw D5 D6=>⟨trivial,?_⟩;refine AAn (q_b (q_t (AAa (AA0 rfl rfl (Zj (Zr ?_))))));exact ⟨(_,_,_,_,_),(Zl D4).symm,(Au.uO2 p1 D6 D5).sel [1,2] Zk,rfl,trivial⟩
 ·refine AAh (AAi (AAi (ABj (q_t (Zn (AA4 ?_))))));obtain ⟨D7,D8,D9⟩:=Zp (Dk _ (Zl (AA6 A8 A9)).symm);refine ANo A7 (Aa4 D8) fun Ea Ix Iy Eb=>AC1 Eb [.bool false,.slice none 0 0] AE0 fun Ec Ed Iz B4=>AF7 B4 p0 (AAe Ed) (B4.z p1) fun I0 B5=>Zr (Zo (Zn (Zj (Zj (Zr (Zs (AFj 22300745198530623141535718272647261994385024 (fun x:(Bool) × (Int) × (LiI) × LnA × LnN × LvA × (Int) × LvA=>(x.1,x.2.1,x.2.2.1,x.2.2.2.2.2.2.1)) ((false,0,u32,Dh,Di,Dj,D7,Ea):(Bool) × (Int) × (LiI) × LnA × LnN × LvA × (Int) × LvA) D9 (fun x=>[(7,(.bool x.1)),(40,(.int .i64 x.2.1))]) (fun x=>((B5.L.set 2 (aO2 cZ 128 94 x.2.2.2.1 x.2.2.2.2.1 x.2.2.2.2.2.1 Ak x.2.2.1)).set 1 (aZ x.2.2.2.2.2.2.2 x.2.2.2.2.2.2.1)).set 0 (aB 94 Ec x.2.2.2.2.2.2.2)) B5 ⟨rfl,rfl,trivial⟩ ?_)))))));rintro ⟨B6,Ao,B7,Ee,Ef,Eg,I1,I2⟩ I3 I6 I7 Ab Ba B8;unfold ALc at Ba;refine Zn (AAu rfl rfl (Zr (Zo (⟨_,rfl,fun Bb=>?_,fun Bb=>?_⟩))))
  ·refine Zv (q_t (Zo (Zs (Zn (Zj (AA4 (Zj (Zt ?_))))))));obtain ⟨Eh,Ei,B9⟩:=Zp (AA5 Ba Bb);refine AKb 1152903912420803584 (fun x:(Int)=>[(10,(.int .i64 x))]) (fun x h'=>( x)=Eh/\Kst h h' (Ab.L)) ?_ ?_
   ·refine Zs (AG4 1152903912420803584 Ei (fun x=>[(10,(.int .i64 x))]) (fun x=>Ab.L) Ab ⟨rfl,trivial⟩ ?_);rintro Av I9 Ja Jc Ah Ca Cb;unfold AK9 at Ca;obtain ⟨Ej,Cd,Bc⟩:=Zp Ca;refine AKb 288212783965667328 (fun x:Unit=>[]) (fun x h'=>(Sum.inl <| ())=Ej/\Kst h h' (Ah.L)) ?_ ?_
    ·refine Zn (Zj (Zj (AAu rfl rfl (Zj ?_))));by_cases Aw:Av < (a3.length:Int)
     ·rw [decide_eq_true Aw];refine AAb 47 true (Zj (AAb 47 true (Zj (AAb 47 true ?_))));obtain ⟨Je,Be,Ek⟩:=Zp (ifT Cd Aw);refine AC2 ABw rfl (Ah.o2 p2) rfl Be fun Jf Jg Jh El Em=>AAb 47 true (AA7 ADv rfl Em (AAb 47 true (Zj (AAb 47 true ?_))));obtain ⟨Ji,Ce,En⟩:=Zp Ek;refine AE6 (m:=Av) ACz rfl (Ah.o2 p2) El Be rfl Ce fun Jj Eo=>AAb 47 true ?_;obtain ⟨Jk,Ep,Er⟩:=(Ah.o2 p2).cells Eo Be Ce;have Bf:=Ah.az Ep;refine AN4 (c:=cZ) ABk rfl (Bf.z p0) (fun j u hu=>(Er j u hu)) (AAb 47 true ?_);obtain ⟨Jl,Es,Cf⟩:=Zp En;refine ACl Bf (AZu (Bf.z p0).2 Es) fun Jm Jn Cg=>AAb 47 true (AB2 rfl rfl (Z4 rfl (Zr (⟨_,rfl,fun Bg=>?_,fun Bg=>?_⟩))))
      ·refine Zv (q_t ?_);exact ⟨(():Unit),⟨Zl (AA5 Cf Bg),Cg.sel [1,2,3,4] Zk⟩,trivial⟩
      ·obtain rfl:=Zl (AA6 Cf Bg);refine AAh (AAi (AAi (ABj (q_t ?_))));exact ⟨(Av:(Int)),⟨Zl (Cb _ (Zl Bc).symm),Cg.sel [1,2,3,4] Zk⟩,rfl,trivial⟩
     ·rw [decide_eq_false Aw];refine ADq 47 false (ADb 47 false (Zz rfl (Zr (AAw rfl ?_))));obtain rfl:=Zl (ifF Cd Aw);refine AAh (AAi (AAi (ABj (q_t ?_))));exact ⟨(Av:(Int)),⟨Zl (Cb _ (Zl Bc).symm),Ah⟩,rfl,trivial⟩
    rintro ⟨⟩ Jo Jp ⟨Et,Eu⟩;subst Et;refine Zs (AAa (Zj (AA0 rfl rfl (AAl (AAn (q_b (q_t ?_)))))));exact ⟨_,(Zl Bc).symm,Eu,rfl,trivial⟩
   rintro Ev Jq Ch ⟨Ew,Ae⟩;subst Ew;refine Zo (Zn (Zj (Zj (AB2 rfl rfl (Zr (⟨_,rfl,fun Bh=>?_,fun Bh=>?_⟩))))))
   ·refine Zn (ADl (AOu ) (AF7 Ae p3 (AAe Ch) (AAe Ch) fun Ci Cj=>Zr (Zw (AAc (ABi (AAc (AAc (ABi (AAc ?_)))))))));obtain rfl:=Zl (B8 _ (Zl (AA5 B9 Bh)).symm);exact ⟨_,ACb ABk (cZ.klen (AAe Ci)) rfl (Cj.b p3),Cj.x,_,rfl,(AAe Ci).2⟩
   ·refine Zv (q_t ?_);obtain ⟨Ey,Ck,Ez⟩:=Zp (AA6 B9 Bh);refine AKb 9671388110172959688097920 (fun x:(Bool) × (LiI) × LnA × LnN × LvA=>[(7,(.bool x.1))]) (fun x h'=>( (x.1,x.2.1))=Ey/\Kst h h' (Ae.L.set 2 (aO2 cZ 128 94 x.2.2.1 x.2.2.2.1 x.2.2.2.2 Ak x.2.1))) ?_ ?_
    ·refine Zn (Zj (Zj (ACk rfl rfl (Zr (⟨_,rfl,fun Bi=>?_,fun Bi=>?_⟩)))))
     ·refine Zo (AF8 (Zj (Zj (Zj (Zj (Zj (Zj ?_)))))));obtain ⟨Fa,Cm,Fb⟩:=Zp (AA5 Ck Bi);refine ABy ABw ADv (Ae.o2 p2) Cm fun _ Jr Fc=>Zj (Zj ?_);obtain ⟨Fd,Cn,Fe⟩:=Zp Fb;refine ABy ABw ADv (Ae.o2 p2) Cn fun _ Js Ff=>ARd ABw ADv (Ae.o2 p2) Ff Fc Cn Cm rfl rfl (fun _=>rfl) (fun _=>rfl) (fun _=>rfl) (fun _ _=>rfl) fun Jt Ju Fg Fh Fi Jv Fj Fk Fl=>Zr (AAa (Zj (ACt rfl (Zt ?_))));exact ⟨(((!B6),(sI (sI B7 Ao Fa) Ev Fd),Fg,Fh,Fi):(Bool) × (LiI) × LnA × LnN × LvA),⟨Zl Fe,(Ae.uo2 p2 Fk Fj Fl)⟩,rfl,trivial⟩
     ·refine Zv (q_t ?_);exact ⟨((B6,B7,Ee,Ef,Eg):(Bool) × (LiI) × LnA × LnN × LvA),⟨Zl (AA6 Ck Bi),Ae⟩,rfl,trivial⟩
    rintro ⟨Jw,Fm,Fo,Fp,Fq⟩ Jx Jy ⟨Fr,Ax⟩;subst Fr;refine Zn (Zj (Zj ?_));obtain ⟨Jz,Bj,Ft⟩:=Zp Ez;refine ABy ABw ADv (Ax.o2 p2) Bj fun _ J0 Fu=>Zj ?_;obtain ⟨J1,Co,Fv⟩:=Zp Ft;refine AE6 (m:=Ao) ACz rfl (Ax.o2 p2) Fu Bj rfl Co fun J2 Fw=>?_;obtain ⟨J3,Fx,Fy⟩:=(Ax.o2 p2).cells Fw Bj Co;have Cp:=Ax.az Fx;refine AN4 (c:=cZ) ABk rfl (Cp.z p0) (fun j u hu=>(Fy j u hu)) (AC1 Cp [.bool false,.slice none 0 0] AE0 fun J4 Fz J5 Cq=>AF7 Cq p0 (AAe Fz) (Cq.z p1) fun J6 Cr=>Zr (Zo (Zn (Zj (AA0 rfl rfl (Zt (Zs (AFj 5575186299632650833623772426640990780026880 (fun x:(Int) × (LiI) × LnA × LnN × LvA=>(x.1,x.2.1)) (((w64 (Ao + 1)),Fm,Fo,Fp,Fq):(Int) × (LiI) × LnA × LnN × LvA) Fv (fun x=>[(12,(.int .i64 x.1))]) (fun x=>Cr.L.set 4 (aO2 cZ 128 94 x.2.2.1 x.2.2.2.1 x.2.2.2.2 Ak x.2.1)) Cr ⟨rfl,trivial⟩ ?_))))))));rintro ⟨Ay,F4,F5,F6,F7⟩ J7 J8 J9 Af Bl F8;unfold ALb at Bl;refine Zo (Zn (Zj (Zj (AAu rfl rfl (Zr (⟨_,rfl,fun Bm=>?_,fun Bm=>?_⟩))))))
    ·refine Zv (q_t (Zo (Zs (Zn (Zj (AA0 rfl rfl (Zt (Zs (AFj 5575186299632021960083815453461342024916992 (fun x:(Int) × (LiI) × LnA × LnN × LvA=>(x.1,x.2.1)) (((w64 (Ao + 1)),F4,F5,F6,F7):(Int) × (LiI) × LnA × LnN × LvA) (AA5 Bl Bm) (fun x=>[(13,(.int .i64 x.1))]) (fun x=>Af.L.set 4 (aO2 cZ 128 94 x.2.2.1 x.2.2.2.1 x.2.2.2.2 Ak x.2.1)) Af ⟨rfl,trivial⟩ ?_)))))))));rintro ⟨Ka,Kb,Kc,Kd,Ke⟩ Kf Bn Kg Aa Bo F9;unfold ALa at Bo;refine Zo (Zn (Zj (Zj (AAu rfl rfl (Zr (⟨_,rfl,fun Bp=>?_,fun Bp=>?_⟩))))))
     ·refine Zv (q_t (Zo (Zs (Zo ?_))));have Ai:UpT [] Bn Bn:=UpT.start all_nil;refine ATz (B:=fun h'=>UpT [] Bn h') 25 [⟨14,94,[.bool false,.slice none 0 0]⟩] (fun _ _ U E=>U.thenE E) Zx Ai (Adm rfl AE0 rfl (fun _ _ U E=>U.thenE E)) (h_l rfl (AN7 (Aa.z p1) Ai (Aa.b p0) (AAn (h_l rfl (Zj (AAn (h_l rfl (Zj (AAn (h_l rfl ?_))))))))));obtain ⟨Kh,Ac,Ga⟩:=Zp (AA5 Bo Bp);refine AC2 ABw rfl (Aa.o2 p4) rfl Ac fun Ki Kj Kk Gb Gc=>AAn (h_l rfl (ACf ADv rfl Ai (fun h' hb=>AAx Gc hb.ext) (AAn (h_l rfl (Zj (AAn (h_l rfl ?_)))))));obtain ⟨Kl,Az,Gd⟩:=Zp Ga;refine AE6 (m:=Ay) ACz rfl (Aa.o2 p4) Gb Ac rfl Az fun Km Ge=>AAn (h_l rfl ?_);obtain ⟨Kn,Ct,Gf⟩:=(Aa.o2 p4).cells Ge Ac Az;refine AQ7 (c:=cZ) ABk rfl Ct Ai (fun h' hb j u hu=>AAx (Gf j u hu) hb.ext) (AAn (h_e rfl fun Ko Cu=>?_));have Bq:=(Aa.az (cZ.upT Ct Ai)).e Cu;obtain ⟨Kp,Gg,Gh⟩:=Zp Gd;refine AFi Bq (Ai.thenE Cu) (Ahn (Bq.z p2).2 (Bq.z p0).2 Gg) fun Kr Kt Gi Gj Ag=>AAn ⟨Gi,?_⟩;refine h_l rfl (Zj (AAn (h_l rfl (Zj (AAn (h_l rfl (AC2 ABw rfl (Aa.o2 p4) rfl Ac fun Ku Kv Kw Gk Gl=>AAn (h_l rfl (ACf ADv rfl Ag (fun h' hb=>AAx Gl hb.ext) (AAn (h_l rfl (Zj (AAn (h_l rfl ?_))))))))))))));obtain ⟨Kx,Cv,Gm⟩:=Zp Gh;refine AE6 (m:=Ay) ACz rfl (Aa.o2 p4) Gk Ac rfl Cv fun Ky Gn=>AAn (h_l rfl ?_);obtain ⟨Kz,Cw,Gp⟩:=(Aa.o2 p4).cells Gn Ac Cv;refine AQ7 (c:=cZ) ABk rfl Cw Ag (fun h' hb j u hu=>AAx (Gp j u hu) hb.ext) (AAn (h_l rfl (Zj (AAn (h_l rfl (Zj (AAn (h_l rfl ?_))))))));obtain ⟨La,Br,Gq⟩:=Zp Gm;refine AC2 ABw rfl (Aa.o2 p4) rfl Br fun Lb Lc Ld Gr Gt=>AAn (h_l rfl (ACf ADv rfl Ag (fun h' hb=>AAx Gt hb.ext) (AAn (h_l rfl (Zj (AAn (h_l rfl ?_)))))));obtain ⟨Le,Cx,Gu⟩:=Zp Gq;refine AE6 (m:=Ao) ACz rfl (Aa.o2 p4) Gr Br rfl Cx fun Lf Gv=>AAn (h_l rfl ?_);obtain ⟨Lg,Cy,Gw⟩:=(Aa.o2 p4).cells Gv Br Cx;refine AQ7 (c:=cZ) ABk rfl Cy Ag (fun h' hb j u hu=>AAx (Gw j u hu) hb.ext) (AAn (h_e rfl fun Lh Cz=>?_));have Bt:=((Gj.az (cZ.upT Cw Ag)).az (cZ.upT Cy Ag)).e Cz;obtain ⟨Li,Gx,Gy⟩:=Zp Gu;refine AFi Bt (Ag.thenE Cz) (Ahn (Bt.z p1).2 (Bt.z p0).2 Gx) fun Lj Lk Gz G3 G4=>AAn ⟨Gz,?_⟩;refine h_e rfl fun Ll C0=>?_;have Bu:=G3.e C0;obtain ⟨Lm,G5,G6⟩:=Zp Gy;refine AFi Bu (G4.thenE C0) (At7 (Bu.z p3).2 (Bu.z p0).2 G5) fun G7 Lo G8 G9 Hb=>AAn ⟨G8,?_⟩;refine Aav fun Hc C1=>Aqp fun Lq C2 Hd Lr=>?_;have Aj:=G9.e C1;have A3:=((((((Aa.nb (Hb.thenE C1).ext (AE5 Hd C2.lt) C2).az (Aj.z p5)).az (Aj.z p4)).az (Aj.z p3)).az (Aj.z p2)).az (Aj.z p1)).az (Aj.z p0);refine AB8 G7 ABk (cZ.klen (A3.z p0)) (cZ.klen (AAe Hc)) rfl rfl (cZ.one (A3.z p0)) (A3.b p6) fun Bv He Hf=>Zr (ACd (fun h'=>UpT [] Bv h') Zx ?_);have Ad:=A3.sb p6 Hf He rfl;have Ap:UpT [] Bv Bv:=UpT.start all_nil;refine Zj (Zj (AC2 ABw rfl (Ad.o2 p11) rfl Ac fun Lv Lw Lx Hg Hh=>ACf ADv rfl Ap (fun h' hb=>AAx Hh hb.ext) (Zj (AN7 (Ad.z p0) Ap (Ad.b p6) (AN7 (Ad.z p10) Ap (Ad.b p9) ?_)))));obtain ⟨⟨Ly,Lz,L9⟩,Hj,C3⟩:=Zp G6;dsimp only at C3;refine AEj Ap (fun _ E=>Ap.thenE E) rfl (AYt (Ad.z p0).2 (Ad.z p10).2 Hj) fun Ma Mb Hk Hl=>?_;obtain ⟨Mc,Md,rfl,Hm,Hn⟩:=Hl;obtain ⟨Me,rfl,Ho⟩:=Hm.cs;obtain ⟨Mf,rfl,Hq⟩:=Hn.cs;refine Zj (ABl rfl rfl (ABl rfl rfl (ABl rfl rfl (AE6 (m:=Ay) ACz rfl (Ad.o2 p11) Hg Ac rfl Az fun Mg Hr=>?_))));have Aq:=((Ad.e Hk).az Ho).az Hq;refine ANk (m:=Ay) (AR5 ABk (cZ.klen (Aq.z p1)) rfl rfl (cZ.one (Aq.z p1))) (Aq.o2 p13) Hr Ac Az (Aq.z p1) fun Mh Hs Ht=>AAn (q_b (q_t (AAa (Zj (AA0 rfl rfl (Zt ?_))))));exact ⟨(_,_,_,_,_),(Zl C3).symm,(Aq.uO2 p13 Ht Hs).sel [9,10,11,12,13,14] Zk,rfl,trivial⟩
     ·refine AAh (AAi (AAi (ABj (q_b (q_t (AAa (Zj (AA0 rfl rfl (Zt ?_)))))))));exact ⟨(_,_,_,_,_),(Zl (F9 _ (Zl (AA6 Bo Bp)).symm)).symm,Aa,rfl,trivial⟩
    ·refine AAh (AAi (AAi (ABj (q_t (AAa (AK0 (Af.z p1) (Af.b p0) (AF7 Af p2 (Af.z p3) (Af.z p1) fun Mi Hu=>AAn (q_b (q_t (AAa (AA0 rfl rfl (Zj (Zr ?_)))))))))))));exact ⟨(_,_,_,_,_,_,_,_),(Zl (F8 _ (Zl (AA6 Bl Bm)).symm)).symm,Hu.sel [2,1,4,5] Zk,rfl,rfl,trivial⟩
  ·refine AAh (AAi (AAi (ABj (q_t (Zo (Zn (Zj (Zr ?_))))))));have C4:=B8 _ (Zl (AA6 Ba Bb)).symm;refine ⟨_,rfl,fun Bw=>?_,fun Bw=>?_⟩
   ·refine Zn (AK0 (Ab.z p1) (Ab.b p0) ?_);obtain ⟨Mj,Hv,Hw⟩:=Zp (ifT C4 Bw);refine ANo Ab (At8 (Ab.z p1).2 Hv) fun Mk Hx Ml C5=>AF7 C5 p4 (AAe Hx) (C5.z p0) fun Mm A4=>Zr (Zw (AAc ?_));obtain rfl:=Zl Hw;exact ⟨_,ACb ABk (cZ.klen (A4.z p0)) rfl (A4.b p4),A4.x,_,rfl,(A4.z p0).2⟩
   ·refine Zv (q_t (Zn (AK0 (Ab.z p1) (Ab.b p0) ?_)));obtain ⟨Mo,Hy,Hz⟩:=Zp (AF9 C4 Bw);refine ANo Ab (AXp (Ab.z p1).2 Hy) fun Mq H5 Mr C6=>AF7 C6 p4 (AAe H5) (C6.z p0) fun Ms A5=>Zr (Zw ?_);obtain rfl:=Zl Hz;exact ⟨_,ACb ABk (cZ.klen (A5.z p0)) rfl (A5.b p4),A5.x,_,rfl,(A5.z p0).2⟩
def AQq (fuel:Nat) (a3:LiI):Option (Int × Bool):=
  ((AGf fuel a3).bind fun (Ab,Ac,Ad)=>(if (!Ad)=true then (some (0,false)) else (if ¬ Ab=Ac then (some (0,false)) else ((AHe fuel a3).bind fun Ae=>(some (Ae,true))))))
theorem AZj {fuel:Nat} {h:Zu} {Af:Value} {a3:LiI} {r:(Int × Bool)} (H2:AC5 cZ h Af a3) (hp:AQq fuel a3=some r):AAv Tryz.prog 78 #[Af] h (fun x h'=>Ext h h'/\ ∃ (x0:Value),x= .tuple #[x0,.bool r.2]/\ZZ h' x0 r.1):=by
 unfold AQq at hp;refine cwf (l:=[_]) Tryz.func78 rfl rfl (Zn (AC1 (Kst.k0 h) [.bool false,.slice none 0 0] AE0 fun b5 h6 E8 Aj=>AA4 (Zj ?_)));obtain ⟨⟨A6,A7,Av⟩,Aw,Ad⟩:=Zp hp;dsimp only at Ad;refine ACl Aj (ARs (H2.ext Aj.x) Aw) fun Aa A8 Ab=>Zj (ABl rfl rfl (ABl rfl rfl (ABl rfl rfl (AAl (AAl (Zt (Zo (Zn (Zj (ACt rfl (Zj ?_)))))))))));cases Ak:(!Av)
 ·refine AAb 15 false (Zj (AAb 15 false (Zj (AAb 15 false (ACk rfl rfl (Zz rfl (Zr ?_)))))));have Am:=AF9 Ad Ak;refine ⟨_,rfl,fun Ae=>?_,fun Ae=>?_⟩
  ·refine Zn (ADl (AOu ) (AF7 Ab p0 (AAe Aa) (AAe Aa) fun Ao Ap=>Zt (Zw (AAc ?_))));obtain rfl:=Zl (AA5 Am Ae);exact ⟨_,AR2 ABk (cZ.klen (AAe Ao)) rfl (Ap.b p0),Ap.x,_,rfl,(AAe Ao).2⟩
  ·refine Zv (q_t (Zn (Zj ?_)));obtain ⟨A9,Ax,Ay⟩:=Zp (AA6 Am Ae);refine ANo Ab (ATa (H2.ext Ab.x) Ax) fun Ba Az Bb Aq=>AF7 Aq p1 (AAe Az) (Aq.z p0) fun Bc Ac=>Zt (Zw ?_);obtain rfl:=Zl Ay;exact ⟨_,AR2 ABk (cZ.klen (Ac.z p0)) rfl (Ac.b p1),Ac.x,_,rfl,(Ac.z p0).2⟩
 ·refine ADe 15 true (Z4 rfl (Zr (AAr rfl (Zn (ADl (AOu ) (AF7 Ab p0 (AAe Aa) (AAe Aa) fun Ar Au=>Zt (Zw (AAc ?_))))))));obtain rfl:=Zl (ifT Ad Ak);exact ⟨_,AR2 ABk (cZ.klen (AAe Ar)) rfl (Au.b p0),Au.x,_,rfl,(AAe Ar).2⟩
end Go.Proofs.YtdkldlbgcfpglaaGreatDoor
namespace Go.QF
open Go
theorem Aky {h:Zu} {v:Value} {l:List Value} (H:Sl h v l):SlK h 1 v (l.map fun x=>[x]):=by
 obtain ⟨a,cap,hv,hc⟩:=H;refine ⟨a,cap,by rw [List.length_map];exact hv,fun i row hr=>?_⟩;rw [List.getElem?_map] at hr;obtain ⟨x,hx,rfl⟩:=Option.map_eq_some_iff.1 hr;obtain ⟨b,o,ha,hb⟩:=hc i x hx;refine ⟨b,o,ha,fun j y hy=>?_⟩
 cases j with
 | zero=>injection hy with hy;subst hy;rw [Nat.mul_one,Nat.add_zero];exact hb
 | succ j=>simp at hy
theorem Acq {h:Zu} {v:Value} {l:List Value} (H:SlK h 1 v (l.map fun x=>[x])):Sl h v l:=by
 obtain ⟨a,cap,hv,hc⟩:=H;refine ⟨a,cap,by rw [List.length_map] at hv;exact hv,fun i x hx=>?_⟩;obtain ⟨b,o,ha,hb⟩:=hc i [x] (by simp [hx]);refine ⟨b,o,ha,?_⟩;have:=hb 0 x rfl;rwa [Nat.mul_one,Nat.add_zero] at this
theorem Aoi {κ:IntKind} {h:Zu} {v:Value} {L:List Int} (H:Sl h v (L.map (.int κ))):SlC (cI κ) h v L:=by
 refine ⟨L.map fun a=>[.int κ a],?_,AA3,fun i cs a h1 h2=>?_⟩
 ·have:=Aky H;rwa [List.map_map] at this
 ·rw [List.getElem?_map,h2] at h1;injection h1 with h1;exact h1.symm
theorem Av3 {κ:IntKind} {h:Zu} {v:Value} {L:List Int} (H:SlC (cI κ) h v L):Sl h v (L.map (.int κ)):=by
 obtain ⟨Ls,h1,h2,h3⟩:=H
 have:Ls=(L.map (Value.int κ)).map fun x=>[x]:=by
   apply List.ext_getElem?
   intro i
   by_cases hi:i < L.length
   · obtain ⟨a,ha⟩:∃ a,L[i]? =some a:=⟨L[i],List.getElem?_eq_getElem hi⟩
     obtain ⟨cs,hcs⟩:∃ cs,Ls[i]? =some cs:=⟨Ls[i]'Zh,List.getElem?_eq_getElem _⟩
     have:=h3 i cs a hcs ha
     rw [hcs,List.map_map,List.getElem?_map,ha]
     exact congrArg some this
   · rw [List.getElem?_eq_none Zh,List.getElem?_eq_none (by simp;omega)]
 subst this;exact Acq h1
theorem At9 {h:Zu} {v:Value} {M:List (List Int)} (H:AC5 (cI .i64) h v M):Mat h v M:=by
 obtain ⟨_,rs,h1,h2,h3⟩:=H;exact ⟨rs,Acq h1,h2,fun i r z hr hz=>Av3 (h3 i r z hr hz)⟩
end Go.QF
namespace Go.QF
def Abs (x b:Int):Prop:= -b<=x/\x<=b
theorem AVx {x y a b:Int} (hx:Abs x a) (hy:Abs y b):Abs (x * y) (a * b):=by
 unfold Abs at *;have ha:0<=a:=by omega
 have hb:0<=b:=by omega
 have h1:0<=(a - x) * (b - y):=Int.mul_nonneg Zh Zh;have h2:0<=(a - x) * (b + y):=Int.mul_nonneg Zh Zh;have h3:0<=(a + x) * (b - y):=Int.mul_nonneg Zh Zh;have h4:0<=(a + x) * (b + y):=Int.mul_nonneg Zh Zh;constructor <;> grind
theorem Aoj {x b y:Int} (hb:0 < b) (hx:Abs x (b * y)):Abs (x.tdiv b) y:=by
 unfold Abs at *;rcases ASy x 0 with h | h
 ·have h1:x.tdiv b= -((-x).tdiv b):=by rw [Int.neg_tdiv,Int.neg_neg]
  have h2:(-x).tdiv b=(-x) / b:=Int.tdiv_eq_ediv_of_nonneg Zh
  have h3:(-x) / b<=y:=by
    have:(-x) / b<=(b * y) / b:=Int.ediv_le_ediv hb Zh
    rwa [Int.mul_ediv_cancel_left _ Zh] at this
  have h4:0<=(-x) / b:=Int.ediv_nonneg Zh Zh;omega
 ·have h2:x.tdiv b=x / b:=Int.tdiv_eq_ediv_of_nonneg h
  have h3:x / b<=y:=by
    have:x / b<=(b * y) / b:=Int.ediv_le_ediv hb Zh
    rwa [Int.mul_ediv_cancel_left _ Zh] at this
  have h4:0<=x / b:=Int.ediv_nonneg h Zh;omega
def Aa5 (M:List (List Int)):Prop:=(1<=M.length/\M.length<=8)/\(∀ z∈M,z.length=M.length)/\ ∀ i j,i < M.length->j < M.length->ent M i j=ent M j i/\ -262144 < ent M i j/\ent M i j < 262144
open Classical in
noncomputable def ALu (M:List (List Int)):Bool:=decide (Aa5 M)
theorem AG6 {M:List (List Int)} (h:Aa5 M):true=ALu M:=by simp [ALu,h]
theorem ADu {M:List (List Int)} (h: ¬ Aa5 M):false=ALu M:=by simp [ALu,h]
theorem Aa6 {M:List (List Int)} (h:ALu M=true):Aa5 M:=by simpa [ALu] using h
def AQc (m:Nat) (F:Z1):Prop:=(0 < F 0 0/\F 0 0 < 65536)/\ ∀ i,1<=i->i < m->2 * F i 0<=F 0 0/\ -2 * F i 0<=F 0 0
instance (m:Nat) (F:Z1):Decidable (AQc m F):=by
  unfold AQc
  have:Decidable (∀ i,1<=i->i < m->2 * F i 0<=F 0 0/\ -2 * F i 0<=F 0 0):=
    decidable_of_iff (∀ i,i < m->1<=i->2 * F i 0<=F 0 0/\ -2 * F i 0<=F 0 0) ⟨fun h i a b=>h i b a,fun h i a b=>h i b a⟩
  infer_instance
def ARt (F:Z1) (last:Int):Z1:=fun i j=>(F 0 0 * F (i + 1) (j + 1) - F (i + 1) 0 * F 0 (j + 1)).tdiv last
def AV8 (F:Z1) (last:Int):Prop:=3 * F 0 0 * F 0 0<=4 * (last * ARt F last 0 0 + F 1 0 * F 1 0)
instance (F:Z1) (last:Int):Decidable (AV8 F last):=by unfold AV8;infer_instance
def AQd:Nat->(Z1)->Int->Bool
  | 0,_,_=>false
  | 1,F,_=>decide (0 < F 0 0/\F 0 0<=10000)
  | m + 2,F,last=>decide (AQc (m + 2) F) && (decide (AV8 F last) && AQd (m + 1) (ARt F last) (F 0 0))
noncomputable def isRed (M:List (List Int)):Bool:=ALu M && AQd M.length (ent M) 1
structure Stg (m:Nat) (F:Z1) (last:Int) (K:Int):Prop where
  sym:∀ i j,i < m->j < m->F i j=F j i
  bd:∀ i j,i < m->j < m->Abs (F i j) (last * K)
  l1:1<=last
  l2:last<=65535
theorem Afs {m:Nat} {F:Z1} {last K:Int} (H:Stg (m + 1) F last K) (hK:0<=K) (hs:AQc (m + 1) F):Stg m (ARt F last) (F 0 0) (K + 16384):=by
 have hd:=hs.1
 have hcol:∀ i,i < m->Abs (2 * F (i + 1) 0) (F 0 0):=fun i hi=>by
   have:=hs.2 (i + 1) Zh Zh
   exact ⟨Zh,Zh⟩
 refine ⟨fun i j hi hj=>?_,fun i j hi hj=>?_,Zh,Zh⟩
 ·unfold ARt;rw [H.sym (i + 1) (j + 1) Zh Zh,H.sym (i + 1) 0 Zh Zh,H.sym 0 (j + 1) Zh Zh,Int.mul_comm (F 0 (i + 1))]
 ·unfold ARt;refine Aoj (by have:=H.l1;omega) ?_;have h1:Abs (F 0 0 * F (i + 1) (j + 1)) (F 0 0 * (last * K)):=AVx ⟨Zh,Zh⟩ (H.bd _ _ Zh Zh)
  have h2:Abs (2 * F (i + 1) 0 * (2 * F 0 (j + 1))) (F 0 0 * F 0 0):=by
    refine AVx (hcol i hi) ?_
    rw [H.sym 0 (j + 1) Zh Zh];exact hcol j hj
  have h3:0<=F 0 0 * (65536 - F 0 0):=Int.mul_nonneg Zh Zh;have h4:0<=F 0 0 * (last - 1):=Int.mul_nonneg Zh (by have:=H.l1;omega);unfold Abs at *;have e1:2 * F (i + 1) 0 * (2 * F 0 (j + 1))=4 * (F (i + 1) 0 * F 0 (j + 1)):=by grind
  rw [e1] at h2;have e2:last * (F 0 0 * (K + 16384))=F 0 0 * (last * K) + 16384 * (F 0 0 * last):=by grind
  rw [e2];have e3:F 0 0 * (65536 - F 0 0)=65536 * F 0 0 - F 0 0 * F 0 0:=by grind
  have e4:F 0 0 * (last - 1)=F 0 0 * last - F 0 0:=by grind
  rw [e3] at h3;rw [e4] at h4;omega
theorem Akz {M:List (List Int)} (h:Aa5 M):Stg M.length (ent M) 1 262144:=by
 refine ⟨fun i j hi hj=>(h.2.2 i j hi hj).1,fun i j hi hj=>?_,Zh,Zh⟩;have:=h.2.2 i j hi hj;unfold Abs;omega
theorem APh {m:Nat} {F:Z1} {last:Int} (h:2<=m) (hs: ¬ AQc m F):AQd m F last=false:=by
 obtain ⟨n,rfl⟩:∃ n,m=n + 2:=⟨m - 2,Zh⟩;unfold AQd;rw [decide_eq_false hs];rfl
theorem ATb {m:Nat} {F:Z1} {last:Int} (h:2<=m) (hs: ¬ AV8 F last):AQd m F last=false:=by
 obtain ⟨n,rfl⟩:∃ n,m=n + 2:=⟨m - 2,Zh⟩;unfold AQd;rw [decide_eq_false hs,Bool.false_and,Bool.and_false]
theorem Ak0 {m:Nat} {F:Z1} {last:Int} (h:2<=m) (hs:AQc m F) (hl:AV8 F last):AQd m F last=AQd (m - 1) (ARt F last) (F 0 0):=by
 obtain ⟨n,rfl⟩:∃ n,m=n + 2:=⟨m - 2,Zh⟩;rw [AQd,decide_eq_true hs,decide_eq_true hl];rfl
theorem AZv {m:Nat} {F:Z1} {last K:Int} (H:Stg m F last K) (hK0:0<=K) (hK:K<=393216) {i j:Nat} (hi:i < m) (hj:j < m):Abs (F i j) 34359738368:=by
  have h1:=H.bd i j hi hj;have h2:=(AWk (a:=last) (b:=K) (A:=65535) (B:=393216) (by have:=H.l1;omega) H.l2 hK0 hK).2;unfold Abs at *;omega
end Go.QF
namespace Go.Proofs.YtdkldlbgcfpglaaGreatDoor
open Go Go.QF
set_option maxRecDepth 100000
theorem ALe {α:Type} {c:Nat} {g:Nat->α} {q:Nat} (hq:q < c):((List.range c).map g)[q]? =some (g q):=by simp [hq]
section
variable {P:Program} {B:Zu->Prop} {st:Bool} {ops:Array Oper} {rest:List Oper} {e:Env} {h:Zu} {K:Env->Zu->Prop}
variable {d:Nat} {ty:TypeId} {pos:String} {af:Array Edge}
end
end Go.Proofs.YtdkldlbgcfpglaaGreatDoor
namespace Go.Proofs.YtdkldlbgcfpglaaGreatDoor
open Go Go.QF
set_option maxRecDepth 100000
theorem Aho {h:Zu} {v:Value} {M:List (List Int)} (HM:Mat h v M):AAv Tryz.prog 71 #[v] h fun x h'=>h'=h/\x= .bool (ALu M):=by
 refine ABd (l:=[_]) mx Tryz.func71 rfl rfl rfl rfl rfl Zx (Zn (AA4 (Zj (AYc AAf rfl HM (Zt (Zo (Zn (Zj (AEg rfl rfl (fun Ab=>?_) (fun Ab=>?_))))))))))
 ·refine Zj (ABh 14 true Zx rfl rfl (ABh 14 true Zx rfl rfl (Z4 rfl (Zr (AAr rfl (Zn (Zt (Zw (AAc (⟨_,Zy,?_⟩))))))))))
  first
    | exact ⟨rfl,congrArg Value.bool (ADu fun hh=>by have:=hh.1;omega)⟩
    | exact ⟨rfl,congrArg Value.bool (ADu fun hh=>by have:=hh.2.1 M[i] (List.getElem_mem _);omega)⟩
    | exact ⟨rfl,congrArg Value.bool (ADu fun hh=>by have:=hh.2.2 a b Zh Zh;omega)⟩
    | exact ⟨rfl,congrArg Value.bool (AG6 ⟨⟨Zh,Zh⟩,hrows,fun x y hx hy=>hall x y Zh hy⟩)⟩
 ·refine Zj (ABq 14 false Zx rfl rfl (Zj (ABq 14 false Zx rfl rfl (AQ1 rfl rfl (fun Ac=>?_) (fun Ac=>?_)))))
  ·refine Zz rfl (Zr (AAr rfl (Zn (Zt (Zw (AAc (⟨_,Zy,?_⟩)))))))
   first
     | exact ⟨rfl,congrArg Value.bool (ADu fun hh=>by have:=hh.1;omega)⟩
     | exact ⟨rfl,congrArg Value.bool (ADu fun hh=>by have:=hh.2.1 M[i] (List.getElem_mem _);omega)⟩
     | exact ⟨rfl,congrArg Value.bool (ADu fun hh=>by have:=hh.2.2 a b Zh Zh;omega)⟩
     | exact ⟨rfl,congrArg Value.bool (AG6 ⟨⟨Zh,Zh⟩,hrows,fun x y hx hy=>hall x y Zh hy⟩)⟩
  ·refine Zz rfl (Zr (AAw rfl (Zv (q_t (Zo (Zn (Zj (AYc AAf rfl HM (Zj (Zr (Zs (AFe 535822372 (fun i:Nat=>[(20,.int .i64 (i:Int))]) (fun k i h'=>h'=h/\k=M.length - i/\i<=M.length/\ ∀ j (hj:j < M.length),j < i->M[j].length=M.length) Zx M.length 0 ?_ ⟨rfl,trivial⟩ ?_))))))))))))
   ·exact ⟨rfl,rfl,Nat.zero_le _,fun j _ hj=>by omega⟩
   rintro k i s1 h ⟨rfl,rfl,hi,hrow⟩;refine Zn (AEg rfl rfl (fun Ad=>?_) (fun Ad=>?_))
   ·refine Zr (Zo (AAr rfl (Zv (q_t (Zo (Zs (Zn (AU1 AAf rfl HM rfl (List.getElem?_eq_getElem Zh) fun aR rR haR hrR=>?_))))))));refine AA7 AA2 rfl haR (AA4 (Zj (Al4 AAg rfl hrR (Zj (Ab1 rfl rfl (fun Ae=>?_) (fun Ae=>?_))))))
    ·refine Zr (AAr rfl (Zn (Zt (Zw (ABi (AAc (AAc (ABi (AAc (⟨_,Zy,?_⟩))))))))))
     first
       | exact ⟨rfl,congrArg Value.bool (ADu fun hh=>by have:=hh.1;omega)⟩
       | exact ⟨rfl,congrArg Value.bool (ADu fun hh=>by have:=hh.2.1 M[i] (List.getElem_mem _);omega)⟩
       | exact ⟨rfl,congrArg Value.bool (ADu fun hh=>by have:=hh.2.2 a b Zh Zh;omega)⟩
       | exact ⟨rfl,congrArg Value.bool (AG6 ⟨⟨Zh,Zh⟩,hrows,fun x y hx hy=>hall x y Zh hy⟩)⟩
    ·refine Zr (AAw rfl (Zv (q_b (q_t (AAa (AJw rfl Zh (Zj (Zr ?_))))))));exact ⟨M.length - (i + 1),i + 1,Zh,⟨rfl,rfl,Zh,fun j hj Af=>by rcases Nat.lt_succ_iff_lt_or_eq.1 Af with q | rfl;exact hrow j hj q;omega⟩,rfl,trivial⟩
   ·refine Zr (Zo (AAw rfl (AAh (AAi (AAi (ABj (q_t (Zo (Zo ?_)))))))));have hrows:∀ z∈M,z.length=M.length:=fun z hz=>by obtain ⟨j,hj,rfl⟩:=List.getElem_of_mem hz;exact hrow j hj Zh
    have Aa:Mat h v (tab M.length M.length (ent M)):=(AYe hrows) ▸ HM;refine AAa (Zj (AYc AAf rfl Aa ?_));rw [AAp];refine Zj (Zr (Zs (AFe 4611686016279905220 (fun a:Nat=>[(31,.int .i64 (a:Int))]) (fun k a h'=>h'=h/\k=M.length - a/\a<=M.length/\ ∀ x y,x < a->y < M.length->ent M x y=ent M y x/\ -262144 < ent M x y/\ent M x y < 262144) Zx M.length 0 ?_ ⟨rfl,trivial⟩ ?_)))
    ·exact ⟨rfl,rfl,Nat.zero_le _,fun x y hx=>by omega⟩
    rintro k a s2 h ⟨rfl,rfl,ha,hall⟩;refine Zn (AEg rfl rfl (fun Ag=>?_) (fun Ag=>?_))
    ·refine Zr (Zo (AAr rfl (Zv (q_t (Zo (Zs (Zn (Zj (AU1 AAf rfl Aa rfl (AG9 Zh) fun aS rS haS hrS=>AA7 AA2 rfl haS (AAl (AA4 (Zj (Al4 AAg rfl hrS ?_)))))))))))));rw [List.length_map,List.length_range];refine Zj (Zr (Zs (AFe 2305842734335787780 (fun b:Nat=>[(38,.int .i64 (b:Int))]) (fun k b h'=>h'=h/\k=M.length - b/\b<=M.length/\ ∀ y,y < b->ent M a y=ent M y a/\ -262144 < ent M a y/\ent M a y < 262144) Zx M.length 0 ?_ ⟨rfl,trivial⟩ ?_)))
     ·exact ⟨rfl,rfl,Nat.zero_le _,fun y hy=>by omega⟩
     rintro k b s3 h ⟨rfl,rfl,hb,hrw⟩;refine Zn (AEg rfl rfl (fun Ah=>?_) (fun Ah=>?_))
     ·refine Zr (Zo (AAr rfl (Zv (q_t (Zo (Zs (Zn (Zj (ASx AAg rfl hrS rfl (ALe Zh) fun Aq Ai=>AA7 AAk rfl Ai (AAl (AA4 (Zj (Zj (Zj (AU1 AAf rfl Aa rfl (AG9 Zh) fun aT rT haT hrT=>?_)))))))))))))));refine AA7 AA2 rfl haT (Zj (ASx AAg rfl hrT rfl (ALe Zh) fun Ar Aj=>AA7 AAk rfl Aj (Ab1 rfl rfl (fun Ak=>?_) (fun Ak=>?_))))
      ·refine Zj (ABh 52 true Zx rfl rfl (ABh 52 true Zx rfl rfl (Z4 rfl (Zj (ABh 56 true Zx rfl rfl (ABh 56 true Zx rfl rfl (Z4 rfl (Zr (AAr rfl (Zn (Zt (Zw (ABi (AAc (AAc (ABi (ABi (AAc (AAc (ABi (AAc (⟨_,Zy,?_⟩))))))))))))))))))))))
       first
         | exact ⟨rfl,congrArg Value.bool (ADu fun hh=>by have:=hh.1;omega)⟩
         | exact ⟨rfl,congrArg Value.bool (ADu fun hh=>by have:=hh.2.1 M[i] (List.getElem_mem _);omega)⟩
         | exact ⟨rfl,congrArg Value.bool (ADu fun hh=>by have:=hh.2.2 a b Zh Zh;omega)⟩
         | exact ⟨rfl,congrArg Value.bool (AG6 ⟨⟨Zh,Zh⟩,hrows,fun x y hx hy=>hall x y Zh hy⟩)⟩
      ·refine Zj (ABq 52 false Zx rfl rfl (Zj (ABq 52 false Zx rfl rfl (ASv rfl rfl (fun Am=>?_) (fun Am=>?_)))))
       ·refine Zz rfl (Zj (ABh 56 true Zx rfl rfl (ABh 56 true Zx rfl rfl (Z4 rfl (Zr (AAr rfl (Zn (Zt (Zw (ABi (AAc (AAc (ABi (ABi (AAc (AAc (ABi (AAc (⟨_,Zy,?_⟩)))))))))))))))))))
        first
          | exact ⟨rfl,congrArg Value.bool (ADu fun hh=>by have:=hh.1;omega)⟩
          | exact ⟨rfl,congrArg Value.bool (ADu fun hh=>by have:=hh.2.1 M[i] (List.getElem_mem _);omega)⟩
          | exact ⟨rfl,congrArg Value.bool (ADu fun hh=>by have:=hh.2.2 a b Zh Zh;omega)⟩
          | exact ⟨rfl,congrArg Value.bool (AG6 ⟨⟨Zh,Zh⟩,hrows,fun x y hx hy=>hall x y Zh hy⟩)⟩
       ·refine Zz rfl (Zj (ABq 56 false Zx rfl rfl (Zj (ABq 56 false Zx rfl rfl (AU0 rfl rfl (fun Ao=>?_) (fun Ao=>?_))))))
        ·refine Zz rfl (Zr (AAr rfl (Zn (Zt (Zw (ABi (AAc (AAc (ABi (ABi (AAc (AAc (ABi (AAc (⟨_,Zy,?_⟩)))))))))))))))
         first
           | exact ⟨rfl,congrArg Value.bool (ADu fun hh=>by have:=hh.1;omega)⟩
           | exact ⟨rfl,congrArg Value.bool (ADu fun hh=>by have:=hh.2.1 M[i] (List.getElem_mem _);omega)⟩
           | exact ⟨rfl,congrArg Value.bool (ADu fun hh=>by have:=hh.2.2 a b Zh Zh;omega)⟩
           | exact ⟨rfl,congrArg Value.bool (AG6 ⟨⟨Zh,Zh⟩,hrows,fun x y hx hy=>hall x y Zh hy⟩)⟩
        ·refine Zz rfl (Zr (AAw rfl (Zv (q_b (q_t (AAa (AJw rfl Zh (Zj (Zr ?_)))))))));exact ⟨M.length - (b + 1),b + 1,Zh,⟨rfl,rfl,Zh,fun y hy=>by rcases Nat.lt_succ_iff_lt_or_eq.1 hy with q | rfl;exact hrw y q;exact ⟨Zh,Zh,Zh⟩⟩,rfl,trivial⟩
     ·refine Zr (Zo (AAw rfl (AAh (AAi (AAi (ABj (q_b (q_t (AAa (AJw rfl Zh (Zj (Zr ?_))))))))))));exact ⟨M.length - (a + 1),a + 1,Zh,⟨rfl,rfl,Zh,fun x y hx hy=>by rcases Nat.lt_succ_iff_lt_or_eq.1 hx with q | rfl;exact hall x y q hy;exact hrw y Zh⟩,rfl,trivial⟩
    ·refine Zr (Zo (AAw rfl (AAh (AAi (AAi (ABj (q_t (Zn (Zt (Zw (⟨_,Zy,?_⟩)))))))))))
     first
       | exact ⟨rfl,congrArg Value.bool (ADu fun hh=>by have:=hh.1;omega)⟩
       | exact ⟨rfl,congrArg Value.bool (ADu fun hh=>by have:=hh.2.1 M[i] (List.getElem_mem _);omega)⟩
       | exact ⟨rfl,congrArg Value.bool (ADu fun hh=>by have:=hh.2.2 a b Zh Zh;omega)⟩
       | exact ⟨rfl,congrArg Value.bool (AG6 ⟨⟨Zh,Zh⟩,hrows,fun x y hx hy=>hall x y Zh hy⟩)⟩
theorem Aok {m:Nat} {F:Z1}:(tab m m F).drop 1=tab (m - 1) m fun i j=>F (i + 1) j:=by
 refine List.ext_getElem (by simp [tab]) fun i h1 h2=>?_;simp [tab,Nat.add_comm]
theorem Aa7 {h:Zu} {v:Value} {m:Nat} {F:Z1} (HM:Mat h v (tab m m F)) (hcap:AN3 v) (hm:1<=m) (Au:m<=8) (hfit:∀ i,i < m->Abs (F i 0) 34359738368):AAv Tryz.prog 72 #[v] h fun x h'=>h'=h/\x= .bool (decide (AQc m F)):=by
 refine ABd (l:=[_]) mx Tryz.func72 rfl rfl rfl rfl rfl Zx (Zn (AA4 (Zj (AU1 (n:=0) AAf rfl HM rfl (AG9 Zh) fun Av Aw Ad Ae=>AA7 AA2 rfl Ad (ASx (n:=0) AAg rfl Ae rfl (ALe Zh) fun Ax Af=>AA7 AAk rfl Af (Zt (Zo (Zn (Zj (ASv rfl rfl (fun Ag=>?_) (fun Ag=>?_)))))))))))
 ·refine Zj (ABh 13 true Zx rfl rfl (ABh 13 true Zx rfl rfl (Z4 rfl (Zr (AAr rfl (Zn (Zt (Zw (AAc (⟨_,Zy,?_⟩))))))))))
  first
    | exact ⟨rfl,congrArg Value.bool (decide_eq_false (fun hh=>by have:=hh.1;omega)).symm⟩
    | exact ⟨rfl,congrArg Value.bool (decide_eq_false (fun hh=>by have:=hh.2 (i + 1) Zh Zh;omega)).symm⟩
    | exact ⟨rfl,congrArg Value.bool (decide_eq_true ⟨⟨Zh,Zh⟩,fun j h1 h2=>hall j h1 Zh⟩).symm⟩
 ·refine Zj (ABq 13 false Zx rfl rfl (Zj (ABq 13 false Zx rfl rfl (AU0 rfl rfl (fun Ah=>?_) (fun Ah=>?_)))))
  ·refine Zz rfl (Zr (AAr rfl (Zn (Zt (Zw (AAc (⟨_,Zy,?_⟩)))))))
   first
     | exact ⟨rfl,congrArg Value.bool (decide_eq_false (fun hh=>by have:=hh.1;omega)).symm⟩
     | exact ⟨rfl,congrArg Value.bool (decide_eq_false (fun hh=>by have:=hh.2 (i + 1) Zh Zh;omega)).symm⟩
     | exact ⟨rfl,congrArg Value.bool (decide_eq_true ⟨⟨Zh,Zh⟩,fun j h1 h2=>hall j h1 Zh⟩).symm⟩
  ·refine Zz rfl (Zr (AAw rfl (Zv (q_t (Zo (Zn (Zj (Akh (k:=1) AAf rfl HM hcap rfl (by rw [AAp];omega) fun v1 Ai Ay=>?_))))))));have HD:Mat h v1 (tab (m - 1) m fun i j=>F (i + 1) j):=Aok (m:=m) ▸ Ai;refine AYc AAf rfl HD ?_;rw [AAp];refine Zj (Zr (Zs (AFe 549754765348 (fun i:Nat=>[(20,.int .i64 (i:Int))]) (fun k i h'=>h'=h/\k=m - 1 - i/\i<=m - 1/\ ∀ j,1<=j->j < i + 1->2 * F j 0<=F 0 0/\ -2 * F j 0<=F 0 0) Zx (m - 1) 0 ?_ ⟨rfl,trivial⟩ ?_)))
   ·exact ⟨rfl,rfl,Nat.zero_le _,fun j h1 h2=>by omega⟩
   rintro k i s1 h ⟨rfl,rfl,hi,hall⟩;refine Zn (AEg rfl rfl (fun Aj=>?_) (fun Aj=>?_))
   ·refine Zr (Zo (AAr rfl (Zv (q_t (Zo (Zs (Zn (AU1 AAf rfl HD rfl (AG9 Zh) fun Az A3 Ak Ac=>AA7 AA2 rfl Ak (Zt (Zo ?_))))))))));have Am:=hfit (i + 1) Zh;unfold Abs at Am;refine AAa (Zj (ASx (n:=0) AAg rfl Ac rfl (ALe Zh) fun A4 Ao=>AA7 AAk rfl Ao (ANy rfl rfl Zh Zh (Zj (AQ1 rfl rfl (fun Ap=>?_) (fun Ap=>?_))))))
    ·refine Zj (ABh 30 true Zx rfl rfl (ABh 30 true Zx rfl rfl (ABh 30 true Zx rfl rfl (ABh 30 true Zx rfl rfl (ABh 30 true Zx rfl rfl (ABh 30 true Zx rfl rfl (Z4 rfl (Zr (AAr rfl (Zn (Zt (Zw (ABi (AAc (AAc (ABi (AAc (⟨_,Zy,?_⟩))))))))))))))))))
     first
       | exact ⟨rfl,congrArg Value.bool (decide_eq_false (fun hh=>by have:=hh.1;omega)).symm⟩
       | exact ⟨rfl,congrArg Value.bool (decide_eq_false (fun hh=>by have:=hh.2 (i + 1) Zh Zh;omega)).symm⟩
       | exact ⟨rfl,congrArg Value.bool (decide_eq_true ⟨⟨Zh,Zh⟩,fun j h1 h2=>hall j h1 Zh⟩).symm⟩
    ·refine Zj (ABq 30 false Zx rfl rfl (Zj (ABq 30 false Zx rfl rfl (ASx (n:=0) AAg rfl Ac rfl (ALe Zh) fun A5 Aq=>ABq 30 false Zx rfl rfl (AA7 AAk rfl Aq (ABq 30 false Zx rfl rfl (ANy rfl rfl Zh Zh (ABq 30 false Zx rfl rfl (Zj (ABq 30 false Zx rfl rfl (AQ1 rfl rfl (fun Ar=>?_) (fun Ar=>?_))))))))))))
     ·refine Zz rfl (Zr (AAr rfl (Zn (Zt (Zw (ABi (AAc (AAc (ABi (AAc (⟨_,Zy,?_⟩)))))))))))
      first
        | exact ⟨rfl,congrArg Value.bool (decide_eq_false (fun hh=>by have:=hh.1;omega)).symm⟩
        | exact ⟨rfl,congrArg Value.bool (decide_eq_false (fun hh=>by have:=hh.2 (i + 1) Zh Zh;omega)).symm⟩
        | exact ⟨rfl,congrArg Value.bool (decide_eq_true ⟨⟨Zh,Zh⟩,fun j h1 h2=>hall j h1 Zh⟩).symm⟩
     ·refine Zz rfl (Zr (AAw rfl (Zv (q_b (q_t (AAa (AJw rfl Zh (Zj (Zr ?_)))))))));exact ⟨m - 1 - (i + 1),i + 1,Zh,⟨rfl,rfl,Zh,fun j h1 h2=>by rcases Nat.lt_succ_iff_lt_or_eq.1 h2 with q | rfl;exact hall j h1 q;exact ⟨Zh,Zh⟩⟩,rfl,trivial⟩
   ·refine Zr (Zo (AAw rfl (AAh (AAi (AAi (ABj (q_t (Zn (Zt (Zw (⟨_,Zy,?_⟩)))))))))))
    first
      | exact ⟨rfl,congrArg Value.bool (decide_eq_false (fun hh=>by have:=hh.1;omega)).symm⟩
      | exact ⟨rfl,congrArg Value.bool (decide_eq_false (fun hh=>by have:=hh.2 (i + 1) Zh Zh;omega)).symm⟩
      | exact ⟨rfl,congrArg Value.bool (decide_eq_true ⟨⟨Zh,Zh⟩,fun j h1 h2=>hall j h1 Zh⟩).symm⟩
theorem Adx {h:Zu} {v:Value} {M:List (List Int)} (HM:Mat h v M) (hcap:AN3 v):AAv Tryz.prog 36 #[v] h fun x h'=>Ext h h'/\x= .bool (isRed M):=by
 refine ABd (l:=[_]) mx Tryz.func36 rfl rfl rfl rfl rfl Zx (Zn (Zt (Zo (Zn (Zj (AAy trivial rfl (Aho HM) fun x1 h hk=>?_))))));obtain ⟨rfl,rfl⟩:=hk;refine ⟨trivial,?_⟩;cases Au:ALu M
 ·refine ACt rfl (Zr (AAr rfl (Zn (Zt (Zw (AAc (⟨_,Zy,?_⟩)))))))
  first
    | exact ⟨(Ext.refl _),congrArg Value.bool (show false=isRed M by unfold isRed;rw [show ALu M=false by assumption];rfl)⟩
    | exact ⟨(Ext.refl _),congrArg Value.bool (show false=isRed M by unfold isRed;rw [hred,APh Zh (of_decide_eq_false (by assumption)),Bool.and_false])⟩
    | exact ⟨(Ext.refl _),congrArg Value.bool (show false=isRed M by unfold isRed;rw [hred,ATb Zh (by unfold AV8;omega),Bool.and_false])⟩
    | (obtain rfl:m=1:=by omega
       first
       | exact ⟨(Ext.refl _),congrArg Value.bool (show true=isRed M by unfold isRed;rw [hred,<- AG6 hsm,AQd,decide_eq_true ⟨Zh,Zh⟩];rfl)⟩
       | exact ⟨(Ext.refl _),congrArg Value.bool (show false=isRed M by unfold isRed;rw [hred,AQd,decide_eq_false Zh,Bool.and_false])⟩)
 ·refine ACt rfl (Zr (AAw rfl (Zv (q_t (Zn (Zj (AA4 (Zt (Zo (Zs ?_))))))))));have hsm:=Aa6 Au;have Av:=Akz hsm;have Aw:Mat h v (tab M.length M.length (ent M)):=(AYe hsm.2.1) ▸ HM;refine AFe 20282409603651670423947251255292 (fun y:Nat × Value × Int × (Z1)=>[(3,y.2.1),(4,.int .i64 y.2.2.1)]) (fun k y h'=>y.1=k/\Ext h h'/\1<=y.1/\y.1<=M.length/\Mat h' y.2.1 (tab y.1 y.1 y.2.2.2)/\AN3 y.2.1/\Stg y.1 y.2.2.2 y.2.2.1 (262144 + 16384 * (M.length - y.1))/\AQd M.length (ent M) 1=AQd y.1 y.2.2.2 y.2.2.1) Zx M.length (M.length,v,1,ent M) ?_ ⟨rfl,rfl,trivial⟩ ?_
  ·exact ⟨rfl,Ext.refl _,hsm.1.1,Nat.le_refl _,Aw,hcap,by have e0:(262144 + 16384 * ((M.length:Int) - (M.length:Int)))=262144:=Zh;rw [e0];exact Av,rfl⟩
  rintro k ⟨m,vs,last,F⟩ s1 hq ⟨rfl,XQ,Ay,hmn,HS,Aj,hstg,hred⟩;dsimp only at Ay hmn HS Aj hstg hred ⊢;have h8:=hsm.1.2;have B7:=hstg.l1;have B8:=hstg.l2;have szq:=XQ.1;refine Zo (Zn (Zj (AYc AAf rfl HS ?_)));rw [AAp];refine AQ1 rfl rfl (fun Az=>?_) (fun Az=>?_)
  ·refine Zr (AAr rfl (Zv (q_t (Zs (Zn (Zj (AU1 (n:=0) AAf rfl HS rfl (AG9 Zh) fun B9 Ca A3 A4=>AA7 AA2 rfl A3 (ASx (n:=0) AAg rfl A4 rfl (ALe Zh) fun Cb A5=>AA7 AAk rfl A5 (Zt (Zo (Zn (Zj (AAy trivial rfl (Aa7 HS Aj Zh Zh (fun i hi=>AZv hstg Zh Zh hi Zh)) fun x4 hq hk=>?_)))))))))))));obtain ⟨rfl,rfl⟩:=hk;refine ⟨trivial,?_⟩;cases Ce:decide (AQc m F)
   ·refine ACt rfl (Zr (AAr rfl (Zn (Zt (Zw (AAc (ABi (AAc (ABi (AAc (⟨_,Zy,?_⟩)))))))))))
    first
      | exact ⟨XQ,congrArg Value.bool (show false=isRed M by unfold isRed;rw [show ALu M=false by assumption];rfl)⟩
      | exact ⟨XQ,congrArg Value.bool (show false=isRed M by unfold isRed;rw [hred,APh Zh (of_decide_eq_false (by assumption)),Bool.and_false])⟩
      | exact ⟨XQ,congrArg Value.bool (show false=isRed M by unfold isRed;rw [hred,ATb Zh (by unfold AV8;omega),Bool.and_false])⟩
      | (obtain rfl:m=1:=by omega
         first
         | exact ⟨XQ,congrArg Value.bool (show true=isRed M by unfold isRed;rw [hred,<- AG6 hsm,AQd,decide_eq_true ⟨Zh,Zh⟩];rfl)⟩
         | exact ⟨XQ,congrArg Value.bool (show false=isRed M by unfold isRed;rw [hred,AQd,decide_eq_false Zh,Bool.and_false])⟩)
   ·refine ACt rfl (Zr (AAw rfl (Zv (q_t (Zn (Zj (AYc AAf rfl HS ?_)))))));rw [AAp];have hsh:AQc m F:=of_decide_eq_true (by assumption);refine AMs rfl rfl Zh Zh ?_;rw [show ((m:Nat):Int) - 1=((m - 1:Nat):Int) by omega];refine Avp (ei:=tI) AAf AMd (fun _=>trivial) rfl rfl Zk Zh fun b2 v2 h2 Ak E2 Cg hl2b=>?_;have Ch:=E2.1;have Z6:=(Ext.refl hq).trans E2;have X7:=XQ.trans E2;have HS_8:=HS.ext E2;refine Zt (Zo (Zn (Zj (Agw AAf rfl Ak.1 (Zj (Zr (Zs (AFe 1208925819614624879739776 (fun i:Nat=>[(32,.int .i64 (i:Int))]) (fun k i h'=>k=m - 1 - i/\i<=m - 1/\Ext hq h'/\ ∃ gs,APu h' tR tI (Array.size hq) b2 gs v2 (m - 1) ((List.range i).map (fun i=>(List.range (m - 1)).map fun j=>ARt F last i j))) Zx (m - 1) 0 ?_ ⟨rfl,trivial⟩ ?_))))))))
    ·exact ⟨rfl,Nat.zero_le _,E2,[],Ak⟩
    rintro k i s2 h3 ⟨rfl,hi,E3,gs,HP⟩;have X9:=XQ.trans E3;have Ck:=E3.1;have HS_11:=HS.ext E3;refine Zn (AEg rfl rfl (fun A7=>?_) (fun A7=>?_))
    ·refine Zr (Zo (AAr rfl (Zv (q_t (Zo (Zs (Zn (Zj (AA4 (Zj (Zj (AJw rfl Zh (Ate AAf rfl HS E3 rfl (AG9 Zh) fun aR rR haR hrR=>AA7 AA2 rfl haR (Zt ?_))))))))))))));refine Zn (Zj (Zj (Zj (Agw AAf rfl HP.1 (Avq AAg AIu (fun _=>trivial) rfl rfl Zk Zh fun g4 v4 h4 A8 E4 Cn Co=>?_)))));have Cp:=E4.1;have A9:=E3.trans E4;have Ba:=X9.trans E4;have HS_15:=HS_11.ext E4;have HP_16:=HP.ext E4;refine Ap7 AAf rfl HP_16 rfl Zh ?_;have hglt:=HP.1.lt;have hblo:=HP.2 b2 (List.mem_cons_self ..);refine Ap8 AA2 rfl rfl HP_16 AA3 Zh A8 (fun hc=>by have:=hglt _ hc;omega) Zh fun h4b HPb U4=>?_;have Cq:=U4.1;have Cr:=Ba.thenUpd U4 (fun k hk=>by have Ah:k=b2:=hk;omega);have Ao:=A9.thenUpd U4 (fun k hk=>by have Ah:k=b2:=hk;omega);have HS_20:=HS.ext Ao;refine AH7 (Zj (Agw AAf rfl HPb.1 (Zj (Zr (Zs (AFe 604462909525839610642944 (fun j:Nat=>[(48,.int .i64 (j:Int))]) (fun k j h'=>k=m - 1 - j/\j<=m - 1/\Ext hq h'/\APu h' tR tI (Array.size hq) b2 (gs ++ [g4]) v2 (m - 1) ((List.range i).map (fun i=>(List.range (m - 1)).map fun j=>ARt F last i j) ++ [AZg (m - 1) (ARt F last i) (fun _=>0) j])) Zx (m - 1) 0 ?_ ⟨rfl,trivial⟩ ?_))))))
     ·exact ⟨rfl,Nat.zero_le _,Ao,by rw [Akd,Ake];exact HPb⟩
     rintro k j s3 h5 ⟨rfl,hj,E5,HQ⟩;have Bb:=XQ.trans E5;have Cv:=E5.1;have HS_23:=HS.ext E5;refine Zn (AEg rfl rfl (fun Bc=>?_) (fun Bc=>?_))
     ·refine Zr (Zo (AAr rfl (Zv (q_t (Zo (Zs (Zn (Zj (Zt ?_)))))))));have hd:=hsh.1;have hfit:=fun i j hi hj=>AZv hstg Zh Zh (i:=i) (j:=j) hi hj;have q1:=AVx (a:=65535) (b:=34359738368) (x:=F 0 0) (y:=F (i + 1) (j + 1)) ⟨Zh,Zh⟩ (hfit _ _ Zh Zh);have q2:=hsh.2 (i + 1) Zh Zh;have q3:=hsh.2 (j + 1) Zh Zh;rw [<- hstg.sym 0 (j + 1) Zh Zh] at q3;have q4:=AVx (a:=32768) (b:=32768) (x:=F (i + 1) 0) (y:=F 0 (j + 1)) ⟨Zh,Zh⟩ ⟨Zh,Zh⟩;unfold Abs at q1 q4;refine AQ0 Zx (Zj (Zj (Avr AAf rfl HQ rfl (Aex AA3) fun aQ rQ gQ haQ hgQ hrQ=>?_)));refine AA7 AA2 rfl haQ (Zj (Zj (Zj (Zj (AJw rfl Zh (ASx AAg rfl (hrR.ext E5) rfl (ALe Zh) fun Cw Bi=>AA7 AAk rfl Bi (ANy rfl rfl Zh Zh (Zj (ASx (n:=0) AAg rfl (hrR.ext E5) rfl (ALe Zh) fun Cx Bj=>AA7 AAk rfl Bj (Zj (AU1 (n:=0) AAf rfl HS_23 rfl (AG9 Zh) fun aZ rZ haZ hrZ=>AA7 AA2 rfl haZ (Zj (AJw rfl Zh (ASx AAg rfl hrZ rfl (ALe Zh) fun Cy Bl=>AA7 AAk rfl Bl (ANy rfl rfl Zh Zh (AMs rfl rfl Zh Zh (Zj (AUx rfl rfl Zh ?_))))))))))))))))));have hnf:=AZv (Afs (m:=m - 1) (by rw [show m - 1 + 1=m by omega];exact hstg) Zh (by rw [show m - 1 + 1=m by omega];exact hsh)) Zh Zh (i:=i) (j:=j) Zh Zh;unfold Abs at hnf;rw [show IntKind.i64.wrap ((F 0 0 * F (i + 1) (j + 1) - F (i + 1) 0 * F 0 (j + 1)).tdiv last)=ARt F last i j from Go.QF.wrap_small (by have:(F 0 0 * F (i + 1) (j + 1) - F (i + 1) 0 * F 0 (j + 1)).tdiv last=ARt F last i j:=rfl;omega) (by have:(F 0 0 * F (i + 1) (j + 1) - F (i + 1) 0 * F 0 (j + 1)).tdiv last=ARt F last i j:=rfl;omega)];refine ASu AAg rfl hrQ rfl (by rw [List.length_map,AU5];omega) ?_;refine Ap9 (AZg (m - 1) (ARt F last i) (fun _=>0) (j + 1)) AAk rfl rfl HQ hgQ (Aex AA3) hrQ (by rw [AU5];omega) (Ame Zh rfl) fun h6 Bm U6 C0=>?_;have C1:=U6.1;have C2:=Bb.thenUpd U6 (fun k hk=>by have Ah:k=gQ:=hk;omega);have Ap:=E5.thenUpd U6 (fun k hk=>by have Ah:k=gQ:=hk;omega);have HS_30:=HS.ext Ap;have Aq:=Bm;rw [Amk AA3] at Aq;refine AAn (q_b (q_t (AAa (AJw rfl Zh (Zj (Zr ?_))))));exact ⟨m - 1 - (j + 1),j + 1,Zh,⟨rfl,Zh,Ap,Aq⟩,rfl,trivial⟩
     ·refine Zr (Zo (AAw rfl (AAh (AAi (AAi (ABj (q_b (q_t (AAa (AJw rfl Zh (Zj (Zr ?_))))))))))));exact ⟨m - 1 - (i + 1),i + 1,Zh,⟨rfl,Zh,E5,gs ++ [g4],by rw [Amd _ _ Zh] at HQ;rw [<- Agv];exact HQ⟩,rfl,trivial⟩
    ·refine Zr (Zo (AAw rfl (AAh (AAi (AAi (ABj (q_t (Zo ?_))))))));obtain rfl:i=m - 1:=by omega
     have Ar:APu h3 tR tI (Array.size hq) b2 gs v2 (tab (m - 1) (m - 1) (ARt F last)).length (tab (m - 1) (m - 1) (ARt F last)):=by rw [AAp];exact HP
     have HN:=Ar.mat;have hcapn:=Ar.cap;have Bn:=Afs (m:=m - 1) (by rw [show m - 1 + 1=m by omega];exact hstg) Zh (by rw [show m - 1 + 1=m by omega];exact hsh);have hnx:Stg (m - 1) (ARt F last) (F 0 0) (262144 + 16384 * (M.length - ((m - 1:Nat):Int))):=by rw [show (262144 + 16384 * ((M.length:Int) - ((m - 1:Nat):Int)))=262144 + 16384 * ((M.length:Int) - (m:Int)) + 16384 by omega];exact Bn
     refine AAa (Zj (AU1 (n:=1) AAf rfl HS_11 rfl (AG9 Zh) fun C3 C4 Bo Bp=>AA7 AA2 rfl Bo (ASx (n:=0) AAg rfl Bp rfl (ALe Zh) fun C5 Bq=>AA7 AAk rfl Bq (Zt (Zo (Zo ?_))))));have hd:=hsh.1;have hnf:=AZv hnx Zh Zh (i:=0) (j:=0) Zh Zh;have q5:=AVx (a:=65535) (b:=34359738368) (x:=last) (y:=ARt F last 0 0) ⟨Zh,Zh⟩ hnf;have q2:=hsh.2 1 Zh Zh;have q6:=AVx (a:=32768) (b:=32768) (x:=F 1 0) (y:=F 1 0) ⟨Zh,Zh⟩ ⟨Zh,Zh⟩;have q7:=AWk (a:=3 * F 0 0) (b:=F 0 0) (A:=196605) (B:=65535) Zh Zh Zh Zh;unfold Abs at q5 q6;refine AAa (Zj (Zj (AU1 (n:=0) AAf rfl HN rfl (AG9 Zh) fun aN rN haN hrN=>AA7 AA2 rfl haN (ASx (n:=0) AAg rfl hrN rfl (ALe Zh) fun aO haO=>AA7 AAk rfl haO (ANy rfl rfl Zh Zh (Zj (Zj (ANy rfl rfl Zh Zh (AZ6 rfl rfl Zh Zh (ANy rfl rfl Zh Zh (Zj (ANy rfl rfl Zh Zh (Zj (ANy rfl rfl Zh Zh (AEg rfl rfl (fun Bu=>?_) (fun Bu=>?_))))))))))))))))
     ·refine Zr (AAr rfl (Zn (Zt (Zw (AAc (ABi (AAc (ABi (AAc (⟨_,Zy,?_⟩))))))))))
      first
        | exact ⟨X9,congrArg Value.bool (show false=isRed M by unfold isRed;rw [show ALu M=false by assumption];rfl)⟩
        | exact ⟨X9,congrArg Value.bool (show false=isRed M by unfold isRed;rw [hred,APh Zh (of_decide_eq_false (by assumption)),Bool.and_false])⟩
        | exact ⟨X9,congrArg Value.bool (show false=isRed M by unfold isRed;rw [hred,ATb Zh (by unfold AV8;omega),Bool.and_false])⟩
        | (obtain rfl:m=1:=by omega
           first
           | exact ⟨X9,congrArg Value.bool (show true=isRed M by unfold isRed;rw [hred,<- AG6 hsm,AQd,decide_eq_true ⟨Zh,Zh⟩];rfl)⟩
           | exact ⟨X9,congrArg Value.bool (show false=isRed M by unfold isRed;rw [hred,AQd,decide_eq_false Zh,Bool.and_false])⟩)
     ·refine Zr (AAw rfl (Zv (q_t ?_)));have hlov:AV8 F last:=by unfold AV8;omega
      have hredn:=Ak0 (last:=last) Zh hsh hlov;refine AAa (Zj (Zj (AAl (AAl (AAn (q_b (q_t ?_)))))));exact ⟨m - 1,(m - 1,v2,F 0 0,ARt F last),by first | omega | (dsimp only;omega),⟨rfl,X9,by first | omega | (dsimp only;omega),by first | omega | (dsimp only;omega),HN,hcapn,hnx,by rw [hred,hredn]⟩,rfl,rfl,trivial⟩
  ·refine Zr (AAw rfl (AAh (AAi (AAi (ABj (q_t (Zn (Zj (AU1 (n:=0) AAf rfl HS rfl (AG9 Zh) fun C7 C8 Bv Bw=>AA7 AA2 rfl Bv (ASx (n:=0) AAg rfl Bw rfl (ALe Zh) fun C9 Bx=>AA7 AAk rfl Bx (AQ1 rfl rfl (fun By=>?_) (fun By=>?_))))))))))))
   ·refine Zj (ABq 110 true Zx rfl rfl (Zj (ABq 110 true Zx rfl rfl (AU1 (n:=0) AAf rfl HS rfl (AG9 Zh) fun Da Db Bz B1=>ABq 110 true Zx rfl rfl (AA7 AA2 rfl Bz (ABq 110 true Zx rfl rfl (ASx (n:=0) AAg rfl B1 rfl (ALe Zh) fun Dc B3=>ABq 110 true Zx rfl rfl (AA7 AAk rfl B3 (ABq 110 true Zx rfl rfl (ASv rfl rfl (fun B4=>?_) (fun B4=>?_)))))))))))
    ·refine Z4 rfl (Zt (Zw (⟨_,Zy,?_⟩)))
     first
       | exact ⟨XQ,congrArg Value.bool (show false=isRed M by unfold isRed;rw [show ALu M=false by assumption];rfl)⟩
       | exact ⟨XQ,congrArg Value.bool (show false=isRed M by unfold isRed;rw [hred,APh Zh (of_decide_eq_false (by assumption)),Bool.and_false])⟩
       | exact ⟨XQ,congrArg Value.bool (show false=isRed M by unfold isRed;rw [hred,ATb Zh (by unfold AV8;omega),Bool.and_false])⟩
       | (obtain rfl:m=1:=by omega
          first
          | exact ⟨XQ,congrArg Value.bool (show true=isRed M by unfold isRed;rw [hred,<- AG6 hsm,AQd,decide_eq_true ⟨Zh,Zh⟩];rfl)⟩
          | exact ⟨XQ,congrArg Value.bool (show false=isRed M by unfold isRed;rw [hred,AQd,decide_eq_false Zh,Bool.and_false])⟩)
    ·refine Z4 rfl (Zt (Zw (⟨_,Zy,?_⟩)))
     first
       | exact ⟨XQ,congrArg Value.bool (show false=isRed M by unfold isRed;rw [show ALu M=false by assumption];rfl)⟩
       | exact ⟨XQ,congrArg Value.bool (show false=isRed M by unfold isRed;rw [hred,APh Zh (of_decide_eq_false (by assumption)),Bool.and_false])⟩
       | exact ⟨XQ,congrArg Value.bool (show false=isRed M by unfold isRed;rw [hred,ATb Zh (by unfold AV8;omega),Bool.and_false])⟩
       | (obtain rfl:m=1:=by omega
          first
          | exact ⟨XQ,congrArg Value.bool (show true=isRed M by unfold isRed;rw [hred,<- AG6 hsm,AQd,decide_eq_true ⟨Zh,Zh⟩];rfl)⟩
          | exact ⟨XQ,congrArg Value.bool (show false=isRed M by unfold isRed;rw [hred,AQd,decide_eq_false Zh,Bool.and_false])⟩)
   ·refine Zj (ABh 110 false Zx rfl rfl (ABh 110 false Zx rfl rfl (ABh 110 false Zx rfl rfl (ABh 110 false Zx rfl rfl (ABh 110 false Zx rfl rfl (ABh 110 false Zx rfl rfl (Zz rfl (Zt (Zw (⟨_,Zy,?_⟩))))))))))
    first
      | exact ⟨XQ,congrArg Value.bool (show false=isRed M by unfold isRed;rw [show ALu M=false by assumption];rfl)⟩
      | exact ⟨XQ,congrArg Value.bool (show false=isRed M by unfold isRed;rw [hred,APh Zh (of_decide_eq_false (by assumption)),Bool.and_false])⟩
      | exact ⟨XQ,congrArg Value.bool (show false=isRed M by unfold isRed;rw [hred,ATb Zh (by unfold AV8;omega),Bool.and_false])⟩
      | (obtain rfl:m=1:=by omega
         first
         | exact ⟨XQ,congrArg Value.bool (show true=isRed M by unfold isRed;rw [hred,<- AG6 hsm,AQd,decide_eq_true ⟨Zh,Zh⟩];rfl)⟩
         | exact ⟨XQ,congrArg Value.bool (show false=isRed M by unfold isRed;rw [hred,AQd,decide_eq_false Zh,Bool.and_false])⟩)
end Go.Proofs.YtdkldlbgcfpglaaGreatDoor
namespace Go.Proofs.YtdkldlbgcfpglaaGreatDoor
open Go Go.QF
set_option maxRecDepth 100000
open Classical in
noncomputable def AXq (p:Int):Bool:=decide (2 < p/\p<=9973/\Pr p)
theorem AT9 {p:Int} (h:2 < p/\p<=9973/\Pr p):true=AXq p:=by simp [AXq,h]
theorem AO0 {p:Int} (h: ¬ (2 < p/\p<=9973/\Pr p)):false=AXq p:=by simp [AXq,h]
theorem prB {p:Int} {b:Bool} (h:AKw p=b) (hp:p<=9973):b=true↔Pr p:=by
 subst h;constructor
 ·intro h;exact (Aj7 h).2
 ·intro h;exact (AW7 Zh h).symm
theorem Arj (p:Int) {h:Zu} (HO:AU3 h):AAv Tryz.prog 37 #[.int .i64 p] h fun v h'=>h'=h/\v= .bool (AXq p):=by
 refine ABd (l:=[_]) mx Tryz.func37 rfl rfl rfl rfl rfl Zx (Zn (AA4 (Zj (AQ1 rfl rfl (fun Aa=>?_) (fun Aa=>?_)))))
 ·refine Zj (ABq 5 true Zx rfl rfl (Zj (ABq 5 true Zx rfl rfl (ASv rfl rfl (fun Ab=>?_) (fun Ab=>?_)))))
  ·refine Z4 rfl (Zj (ABq 9 true Zx rfl rfl (Zj (ABq 9 true Zx rfl rfl (AAy trivial rfl (Aso p HO) fun x1 h hk=>?_)))));obtain ⟨rfl,rfl⟩:=hk;refine ⟨trivial,?_⟩;cases Ad:AKw p
   ·refine Z4 rfl (Zt (Zw (⟨_,Zy,?_⟩)))
    first
    | exact ⟨rfl,congrArg Value.bool (AO0 (fun hh=>by have:=hh.1;have:=hh.2.1;omega))⟩
    | (have hq:=(prB (by assumption:AKw p=_) Zh);first | exact ⟨rfl,congrArg Value.bool (AT9 ⟨by first | omega | (have:=(hq.1 rfl).1;omega),Zh,hq.1 rfl⟩)⟩ | exact ⟨rfl,congrArg Value.bool (AO0 (fun hh=>by have:=hq.2 hh.2.2;cases this))⟩)
   ·refine Z4 rfl (Zt (Zw (⟨_,Zy,?_⟩)))
    first
    | exact ⟨rfl,congrArg Value.bool (AO0 (fun hh=>by have:=hh.1;have:=hh.2.1;omega))⟩
    | (have hq:=(prB (by assumption:AKw p=_) Zh);first | exact ⟨rfl,congrArg Value.bool (AT9 ⟨by first | omega | (have:=(hq.1 rfl).1;omega),Zh,hq.1 rfl⟩)⟩ | exact ⟨rfl,congrArg Value.bool (AO0 (fun hh=>by have:=hq.2 hh.2.2;cases this))⟩)
  ·refine Z4 rfl (Zj (ABh 9 false Zx rfl rfl (ABh 9 false Zx rfl rfl (Zz rfl (Zt (Zw (⟨_,Zy,?_⟩)))))))
   first
   | exact ⟨rfl,congrArg Value.bool (AO0 (fun hh=>by have:=hh.1;have:=hh.2.1;omega))⟩
   | (have hq:=(prB (by assumption:AKw p=_) Zh);first | exact ⟨rfl,congrArg Value.bool (AT9 ⟨by first | omega | (have:=(hq.1 rfl).1;omega),Zh,hq.1 rfl⟩)⟩ | exact ⟨rfl,congrArg Value.bool (AO0 (fun hh=>by have:=hq.2 hh.2.2;cases this))⟩)
 ·refine Zj (ABh 5 false Zx rfl rfl (ABh 5 false Zx rfl rfl (Zz rfl (Zj (ABh 9 false Zx rfl rfl (ABh 9 false Zx rfl rfl (Zz rfl (Zt (Zw (⟨_,Zy,?_⟩))))))))))
  first
  | exact ⟨rfl,congrArg Value.bool (AO0 (fun hh=>by have:=hh.1;have:=hh.2.1;omega))⟩
  | (have hq:=(prB (by assumption:AKw p=_) Zh);first | exact ⟨rfl,congrArg Value.bool (AT9 ⟨by first | omega | (have:=(hq.1 rfl).1;omega),Zh,hq.1 rfl⟩)⟩ | exact ⟨rfl,congrArg Value.bool (AO0 (fun hh=>by have:=hq.2 hh.2.2;cases this))⟩)
open Classical in
noncomputable def AFn (p:Int):Bool:=decide (p<=9973/\Pr p)
theorem Small_ok (p:Int) (h:Zu):AAv Tryz.prog 52 #[.int .i64 p] h fun v h'=>h'=h/\v= .bool (AFn p):=by
 refine ABd (l:=[_]) mx Tryz.func52 rfl rfl rfl rfl rfl Zx (Zn (AA4 (Zj (ASv rfl rfl (fun Aa=>?_) (fun Aa=>?_)))))
 ·refine Zj (ABq 5 true Zx rfl rfl (Zj (ABq 5 true Zx rfl rfl (AAy trivial rfl (Amg p _) fun x1 h hk=>?_))));obtain ⟨rfl,rfl⟩:=hk;refine ⟨trivial,?_⟩;cases Ac:AKw p
  ·refine Z4 rfl (Zt (Zw (⟨_,Zy,?_⟩)))
   first
   | exact ⟨rfl,congrArg Value.bool (show false=AFn p by simp [AFn];intro hh;omega)⟩
   | (have hq:=(prB (by assumption:AKw p=_) Zh);first | exact ⟨rfl,congrArg Value.bool (show true=AFn p by simp [AFn];exact ⟨Zh,hq.1 rfl⟩)⟩ | exact ⟨rfl,congrArg Value.bool (show false=AFn p by simp [AFn];intro _ hh;have:=hq.2 hh;cases this)⟩)
  ·refine Z4 rfl (Zt (Zw (⟨_,Zy,?_⟩)))
   first
   | exact ⟨rfl,congrArg Value.bool (show false=AFn p by simp [AFn];intro hh;omega)⟩
   | (have hq:=(prB (by assumption:AKw p=_) Zh);first | exact ⟨rfl,congrArg Value.bool (show true=AFn p by simp [AFn];exact ⟨Zh,hq.1 rfl⟩)⟩ | exact ⟨rfl,congrArg Value.bool (show false=AFn p by simp [AFn];intro _ hh;have:=hq.2 hh;cases this)⟩)
 ·refine Zj (ABh 5 false Zx rfl rfl (ABh 5 false Zx rfl rfl (Zz rfl (Zt (Zw (⟨_,Zy,?_⟩))))))
  first
  | exact ⟨rfl,congrArg Value.bool (show false=AFn p by simp [AFn];intro hh;omega)⟩
  | (have hq:=(prB (by assumption:AKw p=_) Zh);first | exact ⟨rfl,congrArg Value.bool (show true=AFn p by simp [AFn];exact ⟨Zh,hq.1 rfl⟩)⟩ | exact ⟨rfl,congrArg Value.bool (show false=AFn p by simp [AFn];intro _ hh;have:=hq.2 hh;cases this)⟩)
theorem Ak1 (p:Int) (h:Zu):AAv Tryz.prog 18 #[.int .i64 p] h fun v h'=>h'=h/\v= .bool (AXq p):=by
 refine ABd (l:=[_]) mx Tryz.func18 rfl rfl rfl rfl rfl Zx (Zn (AA4 (Zj (Ab1 rfl rfl (fun Ab=>?_) (fun Ab=>?_)))))
 ·refine Zj (ABq 5 true Zx rfl rfl (Zj (ABq 5 true Zx rfl rfl (AAy trivial rfl (Small_ok p _) fun x1 h hk=>?_))));obtain ⟨rfl,rfl⟩:=hk;refine ⟨trivial,?_⟩;cases Ad:AFn p
  ·refine Z4 rfl (Zt (Zw (⟨_,Zy,?_⟩)))
   first
   | (have hq:AFn p=true:=by assumption
      have Aa:p<=9973/\Pr p:=by simpa [AFn] using hq
      exact ⟨rfl,congrArg Value.bool (AT9 ⟨by have:=Aa.2.1;omega,Aa⟩)⟩)
   | (have hq:AFn p=false:=by assumption
      exact ⟨rfl,congrArg Value.bool (AO0 (fun hh=>by
        have Aa: ¬ (p<=9973/\Pr p):=by simpa [AFn] using hq
        exact Aa hh.2))⟩)
   | exact ⟨rfl,congrArg Value.bool (AO0 (fun hh=>by have:=hh.1;omega))⟩
  ·refine Z4 rfl (Zt (Zw (⟨_,Zy,?_⟩)))
   first
   | (have hq:AFn p=true:=by assumption
      have Aa:p<=9973/\Pr p:=by simpa [AFn] using hq
      exact ⟨rfl,congrArg Value.bool (AT9 ⟨by have:=Aa.2.1;omega,Aa⟩)⟩)
   | (have hq:AFn p=false:=by assumption
      exact ⟨rfl,congrArg Value.bool (AO0 (fun hh=>by
        have Aa: ¬ (p<=9973/\Pr p):=by simpa [AFn] using hq
        exact Aa hh.2))⟩)
   | exact ⟨rfl,congrArg Value.bool (AO0 (fun hh=>by have:=hh.1;omega))⟩
 ·refine Zj (ABh 5 false Zx rfl rfl (ABh 5 false Zx rfl rfl (Zz rfl (Zt (Zw (⟨_,Zy,?_⟩))))))
  first
  | (have hq:AFn p=true:=by assumption
     have Aa:p<=9973/\Pr p:=by simpa [AFn] using hq
     exact ⟨rfl,congrArg Value.bool (AT9 ⟨by have:=Aa.2.1;omega,Aa⟩)⟩)
  | (have hq:AFn p=false:=by assumption
     exact ⟨rfl,congrArg Value.bool (AO0 (fun hh=>by
       have Aa: ¬ (p<=9973/\Pr p):=by simpa [AFn] using hq
       exact Aa hh.2))⟩)
  | exact ⟨rfl,congrArg Value.bool (AO0 (fun hh=>by have:=hh.1;omega))⟩
end Go.Proofs.YtdkldlbgcfpglaaGreatDoor
namespace Go.Proofs.YtdkldlbgcfpglaaGreatDoor
open Go Go.QF
noncomputable def AOd (fuel:Nat) (M:List (List Int)):Option Bool:=some (isRed M)
theorem AWs {fuel:Nat} {h:Zu} {v:Value} {M:List (List Int)} {r:Bool} (H:AC5 (cI .i64) h v M) (hp:AOd fuel M=some r):AAv Tryz.prog 36 #[v] h (fun x h'=>Ext h h'/\x= .bool r):=by
 cases hp;exact Adx (At9 H) H.1
noncomputable def Aft (fuel:Nat) (n:Int):Option Bool:=some (AKw n)
theorem Ak2 {fuel:Nat} {h:Zu} {n:Int} {r:Bool} (HO:AU3 h) (hp:Aft fuel n=some r):AAv Tryz.prog 73 #[.int .i64 n] h (fun x h'=>Ext h h'/\x= .bool r):=by
 cases hp;exact (Aso n HO).mono fun x h' ⟨he,hx⟩=>⟨he ▸ Ext.refl _,hx⟩
noncomputable def ALv (fuel:Nat) (n:Int):Option Bool:=some (AXq n)
theorem ASa {fuel:Nat} {h:Zu} {n:Int} {r:Bool} (HO:AU3 h) (hp:ALv fuel n=some r):AAv Tryz.prog 37 #[.int .i64 n] h (fun x h'=>Ext h h'/\x= .bool r):=by
 cases hp;exact (Arj n HO).mono fun x h' ⟨he,hx⟩=>⟨he ▸ Ext.refl _,hx⟩
noncomputable def Ady (fuel:Nat) (n:Int):Option Bool:=some (AXq n)
theorem Aol {fuel:Nat} {h:Zu} {n:Int} {r:Bool} (hp:Ady fuel n=some r):AAv Tryz.prog 18 #[.int .i64 n] h (fun x h'=>Ext h h'/\x= .bool r):=by
 cases hp;exact (Ak1 n h).mono fun x h' ⟨he,hx⟩=>⟨he ▸ Ext.refl _,hx⟩
end Go.Proofs.YtdkldlbgcfpglaaGreatDoor
namespace Go.Proofs.YtdkldlbgcfpglaaGreatDoor
open Go Go.QF
set_option maxRecDepth 100000
set_option maxHeartbeats 4000000
noncomputable def AMz (fuel:Nat) (Ad:LiA) (Aa Ab Ac:Int):Option ((Int × Int × Int) ⊕ ((Int × Int))):=
  (if 0<=Aa then ((gI Ad Aa).bind fun Ae=>(if 0<=Aa/\Aa<=64 then ((((AVc fuel Ab Ae).bind fun (Af,Ag,Ak)=>((Aa3 fuel Ag).bind fun Ah=>(if ¬ Ah=0 then (some ( (false,Ab,Ac))) else (some ( (true,Af,(w64 (Ac + (w64 (1 * 2 ^ Int.toNat Aa)))))))))):Option (Bool × Int × Int)).bind fun (Am,Ai,Aj)=>(some (Sum.inl ((w64 (Aa - 1)),Ai,Aj)))) else none)) else (some (Sum.inr<| (Ab,Ac))))
noncomputable def AM0 (fuel:Nat) (Aa:LiA) (Ac Ad:Int):Option ((LiA × Int × Int) ⊕ ((LiA × Int × Int))):=
  ((gI Aa (w64 ((Aa.length:Int) - 1))).bind fun Ab=>(if 0<=(w64 ((Aa.length:Int) - 1))/\(w64 ((Aa.length:Int) - 1))<=64 then ((((AVc fuel Ac Ab).bind fun (Ag,Ah,Am)=>((Aa3 fuel Ah).bind fun Ai=>(if ¬ Ai=0 then (some ( (false,Ac,Ad))) else (some ( (true,Ag,(w64 (Ad + (w64 (1 * 2 ^ Int.toNat (w64 ((Aa.length:Int) - 1)))))))))))):Option (Bool × Int × Int)).bind fun (Aj,Ae,Af)=>(if Aj=true then ((Aja fuel Ab Ab).bind fun Ak=>(if Aa.length<=100000000 then (some (Sum.inl ((Aa ++ [Ak]),Ae,Af))) else none)) else (some (Sum.inr<| (Aa,Ae,Af))))) else none))
noncomputable def AJ3 (fuel:Nat) (a1 a5:Int):Option (Int × Int × Int):=
  ((Aft fuel a5).bind fun Ad=>(if (!Ad)=true then (some (0,0,20)) else ((Aa3 fuel a1).bind fun Ae=>(if Ae=0 then (some (0,0,1)) else ((AVd fuel a1).bind fun Af=>((AZt fuel a5).bind fun Ag=>((iter (fun s=>AM0 fuel s.1 s.2.1 s.2.2) fuel ([Ag],Af,0)).bind (fun ((Ac,Ah,Ai):LiA × Int × Int)=>((iter (fun s=>AMz fuel Ac s.1 s.2.1 s.2.2) fuel ((w64 ((Ac.length:Int) - 2)),Ah,Ai)).bind (fun ((Aj,Ak):Int × Int)=>(some (Ak,Aj,0))))))))))))
theorem AVf {fuel:Nat} {h:Zu} {Bh:Value} {a1 a5:Int} {r:(Int × Int × Int)} (H3:ZZ h Bh a1) (HO:AU3 h) (hp:AJ3 fuel a1 a5=some r):AAv Tryz.prog 79 #[Bh,(.int .i64 a5)] h (fun x h'=>Ext h h'/\ ∃ (x1:Value),x= .tuple #[.int .i64 r.1,x1,.int .i64 r.2.2]/\ZZ h' x1 r.2.1):=by
 unfold AJ3 at hp;obtain ⟨Ci,rfl,Am⟩:=H3.cs;refine cwf (l:=[_,_]) Tryz.func79 rfl rfl (Zn (AG8 (Kst.k0 h) Ci fun b6 h7 E9 Cj=>AAl (AC1 Cj [.bool false,.slice none 0 0] AE0 fun Fp Fq Fr Bm=>Zt (Zo (Zn (Zj ?_))))));obtain ⟨Ft,Ck,Bn⟩:=Zp hp;refine ACl Bm (Ak2 (HO.ext Bm.x) Ck) fun Bo Fu Aj=>ACt rfl (Zr (⟨_,rfl,fun Ax=>?_,fun Ax=>?_⟩))
 ·refine Zn (ADl (AOu ) (AAl (AF7 Aj p0 (AAe Bo) (AAe Bo) fun Bp Bq=>Zt (Zw (AAc ?_)))));obtain rfl:=Zl (ifT Bn Ax);exact ⟨_,Aar ABk (cZ.klen (AAe Bp)) rfl (Bq.b p0),Bq.x,_,rfl,(AAe Bp).2⟩
 ·refine Zv (q_t (Zo (Zn (AK0 (Aj.zx Am) (Aj.b p1) ?_))));obtain ⟨Fv,Cm,Br⟩:=Zp (AF9 Bn Ax);refine ACl Aj (AZu (Aj.zx Am).2 Cm) fun Bt Fw Ak=>AB2 rfl rfl (Zr (⟨_,rfl,fun Ay=>?_,fun Ay=>?_⟩))
  ·refine Zn (ADl (AOu ) (AAl (AF7 Ak p0 (AAe Bt) (AAe Bt) fun Bu Bv=>Zt (Zw (AAc ?_)))));obtain rfl:=Zl (AA5 Br Ay);exact ⟨_,Aar ABk (cZ.klen (AAe Bu)) rfl (Bv.b p0),Bv.x,_,rfl,(AAe Bu).2⟩
  ·refine Zv (q_t (Zn (AK0 (Ak.zx Am) (Ak.b p1) ?_)));obtain ⟨Cn,Co,Cp⟩:=Zp (AA6 Br Ay);refine ANo Ak (AXp (Ak.zx Am).2 Co) fun Cq Fx Fy Cr=>AC1 Cr [.bool false,.slice none 0 0] AE0 fun Ae Ct Fz Bw=>AF7 Bw p0 (AAe Ct) (Bw.z p1) fun F4 Cu=>AH7 (AC1 Cu [(.int .i64 0)] AWm fun Af F5 F6 Bx=>AQh [(.int .i64 0)] ABt rfl rfl rfl (Bx.b p0) (Nat.le_of_ble_eq_true rfl) rfl fun F7 Cv Cw=>AH7 (Al6 rfl (Zt (Zo ?_))));refine AAa (Zj ?_);obtain ⟨Cx,Cy,Cz⟩:=Zp Cp;refine ANo (Bx.sb p0 Cw Cv rfl) (Aa4 Cy) fun F8 F9 Ga By=>Atq ACz AE0 rfl trivial tt2 (By.z p0) rfl fun C0 C1 Gb C2 C3 C4 C5=>Zt (Zo (Zs ?_));have Az:=(By.no C3 (AE5 C4 C5) C2).sel [0,2,3,4,5] Zk;dsimp only [AHa,AKo] at Az;refine AFj 2251799679470592 (fun x:(LiA) × (Value) × LnA × (Int) × LvA × (Int)=>(x.1,x.2.2.2.1,x.2.2.2.2.2)) (([Cx],C1,[C0],Cn,Cq,0):(LiA) × (Value) × LnA × (Int) × LvA × (Int)) Cz (fun x=>[(10,x.2.1)]) (fun x=>(((Az.L.set 0 (aO cZ 94 x.2.2.1 x.2.1 x.1)).set 3 (aZ x.2.2.2.2.1 x.2.2.2.1)).set 2 (aB 94 Ae x.2.2.2.2.1)).set 1 (aB 3 Af [(.int .i64 x.2.2.2.2.2)])) Az ⟨rfl,trivial⟩ ?_;rintro ⟨Ao,Gc,Gd,C6,C7,A3⟩ Ge Gf Gg Ap Bz C8;unfold AM0 at Bz;refine Zo (Zo (AF8 (Zj (Zj (Zj (ABm ACz rfl (Ap.o p0).rd (AFg rfl rfl ?_)))))));obtain ⟨Gh,Aq,C9⟩:=Zp Bz;refine AXd ACz rfl (Ap.o p0) rfl Aq fun Gi Da=>?_;obtain ⟨B1,Db,Dc⟩:=(Ap.o p0).cells Da Aq;have Ar:=Ap.az Db;refine AN4 (c:=cZ) ABk rfl (Ar.z p0) (fun j u hu=>(Dc j u hu)) (Zj (ABm ACz rfl (Ar.o p1).rd (AFg rfl rfl ?_)));obtain ⟨Dd,De⟩:=ifN C9;refine Ang rfl rfl Dd ?_;obtain ⟨Df,Dg,B3⟩:=Zp De;refine AZk (l:=[(.agg (B1).toArray),(.int .i64 (w64 (1 * 2 ^ Int.toNat (w64 ((Ao.length:Int) - 1)))))]) (cl:=[(.pointer (some ⟨Ae,0,none⟩)),(.pointer (some ⟨Af,0,none⟩))]) (K':=(fun xr h'=> ∃ x:(Bool) × (Int) × LvA × (Int),(x.1,x.2.1,x.2.2.2)=Df/\xr=(.bool x.1)/\Kst h h' (((Ar.L.set 4 (aZ x.2.2.1 x.2.1)).set 3 (aB 94 Ae x.2.2.1)).set 2 (aB 3 Af [(.int .i64 x.2.2.2)])))) trivial rfl rfl ?_ fun Gj Gk Dh=>?_
   ·refine cwf (l:=[_,_,_,_]) Tryz.func134 rfl rfl (Zn (AG8 Ar B1 fun Gl Gm Gn Ab=>AA4 (AK0 (Ab.z p5) (Ab.b p4) (AK0 (Ab.z p1) (Ab.b p0) ?_))));obtain ⟨⟨Di,Gp,Gq⟩,Dj,B4⟩:=Zp Dg;dsimp only at B4;refine ANz rfl (AYt (Ab.z p5).2 (Ab.z p1).2 Dj) fun Gr Gt Dk Dl=>?_;obtain ⟨Gu,Gv,rfl,Do,Dp⟩:=Dl;obtain ⟨Dq,rfl,Dr⟩:=Do.cs;obtain ⟨Gw,rfl,Ds⟩:=Dp.cs;refine Zj (ABl rfl rfl (ABl rfl rfl (ABl rfl rfl (AC1 (((Ab.e Dk).az Dr).az Ds) [.bool false,.slice none 0 0] AE0 fun Gx Gy Gz Dt=>AC1 Dt [.bool false,.slice none 0 0] AE0 fun G3 Du G4 B5=>AF7 B5 p1 (AAe Du) (B5.z p3) fun Dv B6=>AF7 B6 p0 (AAe Dv) (B6.z p2) fun G5 Au=>Zt (Zo (Zn (AK0 (Au.z p2) (Au.b p0) ?_)))))));obtain ⟨G6,Dw,B7⟩:=Zp B4;refine ACl Au (AZu (Au.z p2).2 Dw) fun G7 G8 Ag=>ACk rfl rfl (Zr (⟨_,rfl,fun A4=>?_,fun A4=>?_⟩))
    ·refine Zn (Zt (Zw (AAc (⟨_,Zy,((false,C6,C7,A3):(Bool) × (Int) × LvA × (Int)),?_,rfl,?_⟩))))
     ·exact Zl (AA5 B7 A4)
     ·exact Ag.sel [5,6,7,8,9,10] Zk
    ·refine Zv (q_t (Zn (AK0 (Ag.z p3) (Ag.b p1) (AF7 Ag p8 (Ag.z p9) (Ag.z p3) fun G9 A5=>AH7 (AA7 ABt rfl ((A5.b p7).cell (i:=0) rfl) (Zj (AA0 rfl rfl (AQh [(.int .i64 (w64 (A3 + (w64 (1 * 2 ^ Int.toNat (w64 ((Ao.length:Int) - 1)))))))] ABt rfl rfl rfl (A5.b p7) (Nat.le_of_ble_eq_true rfl) rfl fun Hb Dx Dy=>AH7 ?_))))))));refine Zt (Zw (⟨_,Zy,((true,Di,Dq,(w64 (A3 + (w64 (1 * 2 ^ Int.toNat (w64 ((Ao.length:Int) - 1))))))):(Bool) × (Int) × LvA × (Int)),?_,rfl,?_⟩))
     ·exact Zl (AA6 B7 A4)
     ·exact (A5.sb p7 Dy Dx rfl).sel [5,6,7,8,3,10] Zk
   obtain ⟨⟨Hc,Dz,D0,D1⟩,D2,rfl,Ah⟩:=Dh;refine ⟨trivial,?_⟩;subst D2;refine Zr (⟨_,rfl,fun A6=>?_,fun A6=>?_⟩)
   ·refine Zv (q_t (Zs (Zn (Zj (Zj (ABm ACz rfl (Ah.o p1).rd (AFg rfl rfl (AXd ACz rfl (Ah.o p1) rfl Aq fun Hd D3=>?_))))))));obtain ⟨He,D4,D5⟩:=(Ah.o p1).cells D3 Aq;have B8:=Ah.az D4;refine AN4 (c:=cZ) ABk rfl (B8.z p0) (fun j u hu=>(D5 j u hu)) (AC1 B8 [.bool false,.slice none 0 0] AE0 fun Hf D6 Hg B9=>AF7 B9 p0 (AAe D6) (B9.z p1) fun Hh Ac=>Zr (AAa (Zj (AK0 (Ac.z p1) (Ac.b p0) (AK0 (Ac.z p1) (Ac.b p0) ?_)))));obtain ⟨Hj,D7,D8⟩:=Zp (ifT B3 A6);refine ANo Ac (Ahn (Ac.z p1).2 (Ac.z p1).2 D7) fun Hk Hl Hm A7=>?_;obtain ⟨D9,Ea⟩:=ifN D8;refine ALo ACz AE0 rfl rfl trivial tt2 (fun _=>rfl) rfl (A7.z p0) (A7.o p4) Zk D9 fun Hn Ho Hq Hr Eb Ec Ed=>AAl (AAn (q_b (q_t ?_)));exact ⟨(_,_,_,_,_,_),(Zl Ea).symm,(A7.uo p4 Ec Eb Ed).sel [4,5,6,7,8] Zk,rfl,trivial⟩
   ·refine AAh (AAi (AAi (ABj (q_t (Zo (Zn (Zj (ABm ACz rfl (Ah.o p1).rd (AFg rfl rfl (Zt (Zs ?_)))))))))));have A8:=Ah.sel [1,2,3,4,5] Zk;dsimp only [AHa,AKo] at A8;refine AFj 73768961896328728576 (fun x:(Int) × (Int) × LvA × (Int)=>(x.1,x.2.1,x.2.2.2)) (((w64 ((Ao.length:Int) - 2)),Dz,D0,D1):(Int) × (Int) × LvA × (Int)) (C8 _ (Zl (AF9 B3 A6)).symm) (fun x=>[(12,(.int .i64 x.1))]) (fun x=>((A8.L.set 3 (aZ x.2.2.1 x.2.1)).set 2 (aB 94 Ae x.2.2.1)).set 1 (aB 3 Af [(.int .i64 x.2.2.2)])) A8 ⟨rfl,trivial⟩ ?_;rintro ⟨A9,Ee,Ef,Ba⟩ Hs Eg Ht Aa Bb Eh;unfold AMz at Bb;refine Zo (Zn (Zj (AMf rfl rfl (Zr (⟨_,rfl,fun Bc=>?_,fun Bc=>?_⟩)))))
    ·refine Zv (q_t (Zo (Zs (AF8 (Zj (Zj (Zj ?_)))))));obtain ⟨Hu,Ca,Ei⟩:=Zp (AA5 Bb Bc);refine AXd ACz rfl (Aa.o p0) rfl Ca fun Hv Ej=>?_;obtain ⟨Cb,Ek,El⟩:=(Aa.o p0).cells Ej Ca;have Be:=Aa.az Ek;refine AN4 (c:=cZ) ABk rfl (Be.z p0) (fun j u hu=>(El j u hu)) (Zj ?_);obtain ⟨Em,En⟩:=ifN Ei;refine Ang rfl rfl Em ?_;obtain ⟨Eo,Ep,Er⟩:=Zp En;refine AZk (l:=[(.agg (Cb).toArray),(.int .i64 (w64 (1 * 2 ^ Int.toNat A9)))]) (cl:=[(.pointer (some ⟨Ae,0,none⟩)),(.pointer (some ⟨Af,0,none⟩))]) (K':=(fun xr h'=> ∃ x:(Bool) × (Int) × LvA × (Int),(x.1,x.2.1,x.2.2.2)=Eo/\xr=(.bool x.1)/\Kst h h' (((Be.L.set 4 (aZ x.2.2.1 x.2.1)).set 3 (aB 94 Ae x.2.2.1)).set 2 (aB 3 Af [(.int .i64 x.2.2.2)])))) trivial rfl rfl ?_ fun Hw Hx Es=>?_
     ·refine cwf (l:=[_,_,_,_]) Tryz.func134 rfl rfl (Zn (AG8 Be Cb fun Hy Hz H5 Ad=>AA4 (AK0 (Ad.z p5) (Ad.b p4) (AK0 (Ad.z p1) (Ad.b p0) ?_))));obtain ⟨⟨Et,Ia,Ib⟩,Eu,Cd⟩:=Zp Ep;dsimp only at Cd;refine ANz rfl (AYt (Ad.z p5).2 (Ad.z p1).2 Eu) fun Ic Id Ev Ew=>?_;obtain ⟨Ie,If,rfl,Ey,Ez⟩:=Ew;obtain ⟨Fa,rfl,Fb⟩:=Ey.cs;obtain ⟨Ih,rfl,Fc⟩:=Ez.cs;refine Zj (ABl rfl rfl (ABl rfl rfl (ABl rfl rfl (AC1 (((Ad.e Ev).az Fb).az Fc) [.bool false,.slice none 0 0] AE0 fun Ii Ij Ik Fd=>AC1 Fd [.bool false,.slice none 0 0] AE0 fun Il Fe Im Ce=>AF7 Ce p1 (AAe Fe) (Ce.z p3) fun Ff Cf=>AF7 Cf p0 (AAe Ff) (Cf.z p2) fun Io Av=>Zt (Zo (Zn (AK0 (Av.z p2) (Av.b p0) ?_)))))));obtain ⟨Ip,Fg,Cg⟩:=Zp Cd;refine ACl Av (AZu (Av.z p2).2 Fg) fun Iq Ir Ai=>ACk rfl rfl (Zr (⟨_,rfl,fun Bf=>?_,fun Bf=>?_⟩))
      ·refine Zn (Zt (Zw (AAc (⟨_,Zy,((false,Ee,Ef,Ba):(Bool) × (Int) × LvA × (Int)),?_,rfl,?_⟩))))
       ·exact Zl (AA5 Cg Bf)
       ·exact Ai.sel [5,6,7,8,9,10] Zk
      ·refine Zv (q_t (Zn (AK0 (Ai.z p3) (Ai.b p1) (AF7 Ai p8 (Ai.z p9) (Ai.z p3) fun Is Bg=>AH7 (AA7 ABt rfl ((Bg.b p7).cell (i:=0) rfl) (Zj (AA0 rfl rfl (AQh [(.int .i64 (w64 (Ba + (w64 (1 * 2 ^ Int.toNat A9)))))] ABt rfl rfl rfl (Bg.b p7) (Nat.le_of_ble_eq_true rfl) rfl fun It Fh Fi=>AH7 ?_))))))));refine Zt (Zw (⟨_,Zy,((true,Et,Fa,(w64 (Ba + (w64 (1 * 2 ^ Int.toNat A9))))):(Bool) × (Int) × LvA × (Int)),?_,rfl,?_⟩))
       ·exact Zl (AA6 Cg Bf)
       ·exact (Bg.sb p7 Fi Fh rfl).sel [5,6,7,8,3,10] Zk
     obtain ⟨⟨Iu,Iv,Iw,Ix⟩,Fj,rfl,Fk⟩:=Es;refine ⟨trivial,?_⟩;subst Fj;refine AAn (q_b (q_t (AAa (Zj (AFg rfl rfl (Zt ?_))))));exact ⟨(_,_,_,_),(Zl Er).symm,Fk.sel [1,2,3,4,5] Zk,rfl,trivial⟩
    ·refine AAh (AAi (AAi (ABj (q_t (Zo (AF8 (AA7 ABt rfl ((Aa.b p1).cell (i:=0) rfl) (AK0 (Aa.z p3) (Aa.b p2) (AAl (AF7 Aa p4 (AAe Eg) (Aa.z p3) fun Iy Aw=>Zt (Zw ?_)))))))))));obtain rfl:=Zl (Eh _ (Zl (AA6 Bb Bc)).symm);exact ⟨_,Aar ABk (cZ.klen (Aw.z p3)) rfl (Aw.b p4),Aw.x,_,rfl,(Aw.z p3).2⟩
noncomputable def ACw (fuel:Nat) (a3:LiI) (a5:Int):Option Int:=
  ((AJ2 fuel a3).bind fun (x6,x7)=>((AQq fuel x6).bind fun (Ae,Ag)=>((AJ3 fuel Ae a5).bind fun (Ab,Ah,Ai)=>(if a5=2 then (some (w64 (Ab + 3))) else (some (w64 (Ab + 1)))))))
theorem AJa {fuel:Nat} {h:Zu} {Ad:Value} {a3:LiI} {a5 r:Int} (H2:AC5 (cI .i64) h Ad a3) (HO:AU3 h) (hp:ACw fuel a3 a5=some r):AAv Tryz.prog 40 #[Ad,(.int .i64 a5)] h (fun x h'=>Ext h h'/\x= .int .i64 r):=by
 unfold ACw at hp;refine cwf (l:=[_,_]) Tryz.func40 rfl rfl (Zn (AA4 (Zj ?_)));have K0:=Kst.k0 h;obtain ⟨⟨x6,x7⟩,Aq,Ah⟩:=Zp hp;dsimp only at Ah;refine ANz rfl (AVe (H2.ext K0.x) Aq) fun Bf Bg Ar Au=>?_;obtain ⟨Bh,Bi,Bj,Bl,rfl,Av,Aw⟩:=Au;refine Zj (ABl rfl rfl (ABl rfl rfl (AAl (AA4 (Zj ?_)))));have Ai:=K0.no2 Ar Aw Av;obtain ⟨⟨Bm,Bn⟩,Ax,Aj⟩:=Zp Ah;dsimp only at Aj;refine ANz rfl (AZj (Ai.o2 p0).rd Ax) fun Bo Bp Ay Az=>?_;obtain ⟨Bq,rfl,A3⟩:=Az;obtain ⟨Br,rfl,A4⟩:=A3.cs;refine Zj (ABl rfl rfl (ABl rfl rfl (AC1 ((Ai.e Ay).az A4) [.bool false,.slice none 0 0] AE0 fun Bt A5 Bu Ak=>AF7 Ak p0 (AAe A5) (Ak.z p1) fun Bv Aa=>AA4 (AK0 (Aa.z p1) (Aa.b p0) (Zj ?_)))));obtain ⟨⟨Bw,Bx,By⟩,A6,Ab⟩:=Zp Aj;dsimp only at Ab;refine ANz rfl (AVf (Aa.z p1).2 (HO.ext Aa.x) A6) fun Bz B1 A7 A8=>?_;obtain ⟨B3,rfl,A9⟩:=A8;obtain ⟨B4,rfl,Ba⟩:=A9.cs;refine Zj (ABl rfl rfl (ABl rfl rfl (ABl rfl rfl (AC1 ((Aa.e A7).az Ba) [.bool false,.slice none 0 0] AE0 fun B5 Bb B6 Am=>AAl (AF7 Am p0 (AAe Bb) (Am.z p1) fun B7 Ao=>Zt (Zo (Zn (Zj (AB2 rfl rfl (Zr (⟨_,rfl,fun Ac=>?_,fun Ac=>?_⟩)))))))))))
 ·refine Zn (Zj (AA0 rfl rfl (Zt (Zw (AAc ?_)))));obtain rfl:=Zl (AA5 Ab Ac);exact ⟨_,Zy,Ao.x,rfl⟩
 ·refine Zv (q_t (Zn (Zj (AA0 rfl rfl (Zt (Zw ?_))))));obtain rfl:=Zl (AA6 Ab Ac);exact ⟨_,Zy,Ao.x,rfl⟩
noncomputable def ALw (fuel:Nat) (a3:LiI) (a5:Int):Option (Int × Int):=
  ((AOd fuel a3).bind fun x6=>(if (!x6)=true then (some (0,6)) else (if ¬ a5=2 then ((ALv fuel a5).bind fun Ad=>(if (!Ad)=true then (some (0,20)) else ((ACw fuel a3 a5).bind fun Ae=>(some (Ae,0))))) else ((ACw fuel a3 a5).bind fun Af=>(some (Af,0))))))
theorem AUn {fuel:Nat} {h:Zu} {Ah:Value} {a3:LiI} {a5:Int} {r:(Int × Int)} (H2:AC5 (cI .i64) h Ah a3) (HO:AU3 h) (hp:ALw fuel a3 a5=some r):AAv Tryz.prog 43 #[Ah,(.int .i64 a5)] h (fun x h'=>Ext h h'/\x= .tuple #[.int .i64 r.1,.int .i64 r.2]):=by
 unfold ALw at hp;refine cwf (l:=[_,_]) Tryz.func43 rfl rfl (Zn (AAl (Zt (Zo (Zn (Zj ?_))))));have K0:=Kst.k0 h;obtain ⟨x6,Ap,Ak⟩:=Zp hp;refine ACl K0 (AWs (H2.ext K0.x) Ap) fun A3 E9 Aa=>ACt rfl (Zr (⟨_,rfl,fun Af=>?_,fun Af=>?_⟩))
 ·refine Zn (AAl (Zt (Zw (AAc ?_))));obtain rfl:=Zl (ifT Ak Af);exact ⟨_,ABf,Aa.x,rfl⟩
 ·refine Zv (q_t (Zo (Zn (Zj (ACk rfl rfl (Zj ?_))))));have Am:=AF9 Ak Af;by_cases Ab: ¬ a5=2
  ·rw [decide_eq_true Ab];refine AAb 11 true (Zj (AAb 11 true ?_));obtain ⟨A5,Aq,Ao⟩:=Zp (ifT Am Ab);refine ACl Aa (ASa (HO.ext Aa.x) Aq) fun A6 A7 Ac=>AAb 11 true (ACt rfl (Z4 rfl (Zr (⟨_,rfl,fun Ag=>?_,fun Ag=>?_⟩))))
   ·refine Zn (AAl (Zt (Zw (AAc ?_))));obtain rfl:=Zl (ifT Ao Ag);exact ⟨_,ABf,Ac.x,rfl⟩
   ·refine Zv (q_t (Zn (Zj (Zj ?_))));obtain ⟨A8,Ar,Au⟩:=Zp (AF9 Ao Ag);refine ACl Ac (AJa (H2.ext Ac.x) (HO.ext Ac.x) Ar) fun A9 Ba Av=>AAl (Zt (Zw ?_));obtain rfl:=Zl Au;exact ⟨_,ABf,Av.x,rfl⟩
  ·rw [decide_eq_false Ab];refine ADe 11 false (Zz rfl (Zr (AAw rfl (Zv (q_t (Zn (Zj (Zj ?_))))))));obtain ⟨Bb,Aw,Ax⟩:=Zp (ifF Am Ab);refine ACl Aa (AJa (H2.ext Aa.x) (HO.ext Aa.x) Aw) fun Bc Be Ay=>AAl (Zt (Zw ?_));obtain rfl:=Zl Ax;exact ⟨_,ABf,Ay.x,rfl⟩
def AO1 (fuel:Nat) (a1 a2 s8 s9:Int):Option ((Int × Int) ⊕ ((Int))):=
  (if s9 < a2 then (some (Sum.inl ((w64 (s8 * a1)),(w64 (s9 + 1))))) else (some (Sum.inr<| s8)))
def AI3 (fuel:Nat) (a1 a2:Int):Option Int:=
  ((iter (fun s=>AO1 fuel a1 a2 s.1 s.2) fuel (1,0)).bind (fun (Ac:Int)=>(some Ac)))
theorem AO2 {fuel:Nat} {h:Zu} {a1 a2 r:Int} (hp:AI3 fuel a1 a2=some r):AAv Tryz.prog 39 #[(.int .i64 a1),(.int .i64 a2)] h (fun x h'=>Ext h h'/\x= .int .i64 r):=by
 unfold AI3 at hp;refine cwf (l:=[_,_]) Tryz.func39 rfl rfl (Zn (AA4 (Zt (Zo (Zn (Zj (Zj (Zr (Zs ?_)))))))));have K0:=Kst.k0 h;refine AG4 8096 hp (fun x=>[(5,(.int .i64 x.1)),(7,(.int .i64 x.2))]) (fun x=>K0.L) K0 ⟨rfl,rfl,trivial⟩ ?_;rintro ⟨u9,Ai⟩ Aj h6 y5 K8 Aa Ag;unfold AO1 at Aa;refine Zn (AAu rfl rfl (Zr (Zo (⟨_,rfl,fun Ab=>?_,fun Ab=>?_⟩))))
 ·refine Zv (q_t (Zo (Zs (AAa (Zj (Zj (AL3 rfl rfl (AAl (AAn (q_b (q_t (AAa (AA0 rfl rfl (Zj (Zr ?_)))))))))))))));exact ⟨_,(Zl (AA5 Aa Ab)).symm,K8,rfl,rfl,trivial⟩
 ·refine AAh (AAi (AAi (ABj (q_t (Zn (Zj (Zt (Zw ?_))))))));obtain rfl:=Zl (Ag _ (Zl (AA6 Aa Ab)).symm);exact ⟨_,Zy,K8.x,rfl⟩
def AIf (fuel:Nat) (a2 Ab Ac:Int):Option ((Int × Int) ⊕ ((Int))):=
  (((if ¬ Ab=0 then (if a2≠0 then (if (Int.tmod Ab a2)=0 then (some (Sum.inl <| ())) else (some (Sum.inr <| ()))) else none) else (some (Sum.inr <| ()))):Option ((Unit) ⊕ (Unit))).bind (fun ex=>match ex with | Sum.inl _=>(if a2≠0 then (some (Sum.inl ((w64 (Int.tdiv Ab a2)),(w64 (Ac + 1))))) else none) | Sum.inr (_)=>(some (Sum.inr<| Ac))))
def AFo (fuel:Nat) (a1 a2:Int):Option Int:=
  ((iter (fun s=>AIf fuel a2 s.1 s.2) fuel (a1,0)).bind (fun (Ac:Int)=>(some Ac)))
theorem AQr {fuel:Nat} {h:Zu} {a1 a2 r:Int} (hp:AFo fuel a1 a2=some r):AAv Tryz.prog 21 #[(.int .i64 a1),(.int .i64 a2)] h (fun x h'=>Ext h h'/\x= .int .i64 r):=by
 unfold AFo at hp;refine cwf (l:=[_,_]) Tryz.func21 rfl rfl (Zn (AA4 (Zt (Zo (Zs ?_)))));have K0:=Kst.k0 h;refine AG4 524257 hp (fun x=>[(0,(.int .i64 x.1)),(5,(.int .i64 x.2))]) (fun x=>K0.L) K0 ⟨rfl,rfl,trivial⟩ ?_;rintro ⟨u9,Aw⟩ Ax h6 y5 K8 Ah Ai;unfold AIf at Ah;obtain ⟨Ao,Aj,Ac⟩:=Zp Ah;refine AKb 16320 (fun x:Unit=>[]) (fun x h'=>(Sum.inl <| ())=Ao/\Kst h h' (K8.L)) ?_ ?_
 ·refine Zn (Zj (ACk rfl rfl (Zj ?_)));by_cases Ab: ¬ u9=0
  ·rw [decide_eq_true Ab];refine AAb 8 true (Zj (AAb 8 true (Zj (AAb 8 true ?_))));obtain ⟨Ap,Ak⟩:=ifN (ifT Aj Ab);refine ADc rfl rfl Ap (AAb 8 true (AB2 rfl rfl (Z4 rfl (Zr (⟨_,rfl,fun Ad=>?_,fun Ad=>?_⟩)))))
   ·refine Zv (q_t ?_);exact ⟨(():Unit),⟨Zl (AA5 Ak Ad),K8⟩,trivial⟩
   ·obtain rfl:=Zl (AA6 Ak Ad);refine AAh (AAi (AAi (ABj (q_t (Zn (Zj (Zt (Zw ?_))))))));obtain rfl:=Zl (Ai _ (Zl Ac).symm);exact ⟨_,Zy,K8.x,rfl⟩
  ·rw [decide_eq_false Ab];refine ADb 8 false (Zz rfl (Zr (AAw rfl ?_)));obtain rfl:=Zl (ifF Aj Ab);refine AAh (AAi (AAi (ABj (q_t (Zn (Zj (Zt (Zw ?_))))))));obtain rfl:=Zl (Ai _ (Zl Ac).symm);exact ⟨_,Zy,K8.x,rfl⟩
 rintro ⟨⟩ A3 A4 ⟨Aq,Ar⟩;subst Aq;refine Zs (Zn (Zj (Zj ?_)));obtain ⟨Au,Av⟩:=ifN Ac;refine AUx rfl rfl Au (Zt (AAa (Zj (AA0 rfl rfl (AAl (AAn (q_b (q_t ?_))))))));exact ⟨_,(Zl Av).symm,Ar,rfl,rfl,trivial⟩
def AKh (fuel:Nat) (a1 a2 s8 s9:Int):Option ((Int × Int) ⊕ ((Int))):=
  (if s9 < a2 then (some (Sum.inl ((w64 (s8 * a1)),(w64 (s9 + 1))))) else (some (Sum.inr<| s8)))
def ADx (fuel:Nat) (a1 a2:Int):Option Int:=
  ((iter (fun s=>AKh fuel a1 a2 s.1 s.2) fuel (1,0)).bind (fun (Ac:Int)=>(some Ac)))
theorem AKi {fuel:Nat} {h:Zu} {a1 a2 r:Int} (hp:ADx fuel a1 a2=some r):AAv Tryz.prog 29 #[(.int .i64 a1),(.int .i64 a2)] h (fun x h'=>Ext h h'/\x= .int .i64 r):=by
 unfold ADx at hp;refine cwf (l:=[_,_]) Tryz.func29 rfl rfl (Zn (AA4 (Zt (Zo (Zn (Zt (Zs ?_)))))));have K0:=Kst.k0 h;refine AG4 32736 hp (fun x=>[(5,(.int .i64 x.1)),(6,(.int .i64 x.2))]) (fun x=>K0.L) K0 ⟨rfl,rfl,trivial⟩ ?_;rintro ⟨u9,Ai⟩ Aj h6 y5 K8 Aa Ag;unfold AKh at Aa;refine Zo (Zn (Zj (Zj (AAu rfl rfl (Zr (⟨_,rfl,fun Ab=>?_,fun Ab=>?_⟩))))))
 ·refine Zv (q_t (Zo (Zs (AAa (Zj (Zj (AL3 rfl rfl (AAl (AAn (q_b (q_t (AAa (Zj (AA0 rfl rfl (Zt ?_)))))))))))))));exact ⟨_,(Zl (AA5 Aa Ab)).symm,K8,rfl,rfl,trivial⟩
 ·refine AAh (AAi (AAi (ABj (q_t (Zn (Zj (Zt (Zw ?_))))))));obtain rfl:=Zl (Ag _ (Zl (AA6 Aa Ab)).symm);exact ⟨_,Zy,K8.x,rfl⟩
def AH3 (fuel:Nat) (a3:LiI):Option Int:=
  ((ADm fuel a3).bind fun x5=>((ABe fuel x5).bind fun Ac=>((AVs fuel Ac).bind fun (Ad,Ae)=>(some Ad))))
theorem AUa {fuel:Nat} {h:Zu} {Aa:Value} {a3:LiI} {r:Int} (H2:AC5 (cI .i64) h Aa a3) (hp:AH3 fuel a3=some r):AAv Tryz.prog 20 #[Aa] h (fun x h'=>Ext h h'/\x= .int .i64 r):=by
 unfold AH3 at hp;refine cwf (l:=[_]) Tryz.func20 rfl rfl (Zn (AA4 (Zj ?_)));have K0:=Kst.k0 h;obtain ⟨x5,Ah,Ai⟩:=Zp hp;refine AMv K0 (AI8 (H2.ext K0.x) Ah) fun Aq Ar Au Av h9 E8 Ad=>?_;obtain ⟨Ay,Aj,Ak⟩:=Zp Ai;refine ANo Ad (ACm (Ad.o2 p0).rd Aj) fun Az A3 A4 Ae=>?_;obtain ⟨⟨A5,A6⟩,Am,Af⟩:=Zp Ak;dsimp only at Af;refine ACl Ae (Aas (Ae.z p0).2 Am) fun A7 A8 Ao=>Zj (ABl rfl rfl (ABl rfl rfl (AAl (AA4 (Zj (Zt (Zw ?_)))))));obtain rfl:=Zl Af;exact ⟨_,Zy,Ao.x,rfl⟩
def AEt (fuel:Nat) (a3:LiI) (a5:Int):Option Int:=
  ((AH3 fuel a3).bind fun x6=>((AFo fuel x6 a5).bind fun Ab=>(if a5=2 then (some (w64 (Ab + 3))) else (some (w64 (Ab + 1))))))
theorem ARu {fuel:Nat} {h:Zu} {Ab:Value} {a3:LiI} {a5 r:Int} (H2:AC5 (cI .i64) h Ab a3) (hp:AEt fuel a3 a5=some r):AAv Tryz.prog 28 #[Ab,(.int .i64 a5)] h (fun x h'=>Ext h h'/\x= .int .i64 r):=by
 unfold AEt at hp;refine cwf (l:=[_,_]) Tryz.func28 rfl rfl (Zn (AA4 (Zj ?_)));have K0:=Kst.k0 h;obtain ⟨x6,Ai,Aj⟩:=Zp hp;refine ACl K0 (AUa (H2.ext K0.x) Ai) fun Ap E9 Ak=>Zj ?_;obtain ⟨Ar,Am,Af⟩:=Zp Aj;refine ACl Ak (AQr Am) fun Au Av Ag=>Zt (Zo (Zn (Zj (AB2 rfl rfl (Zr (⟨_,rfl,fun Aa=>?_,fun Aa=>?_⟩))))))
 ·refine Zn (Zj (AA0 rfl rfl (Zt (Zw (AAc ?_)))));obtain rfl:=Zl (AA5 Af Aa);exact ⟨_,Zy,Ag.x,rfl⟩
 ·refine Zv (q_t (Zn (Zj (AA0 rfl rfl (Zt (Zw ?_))))));obtain rfl:=Zl (AA6 Af Aa);exact ⟨_,Zy,Ag.x,rfl⟩
def AFp (fuel:Nat) (a1:Int):Option Int:=
  ((gI ([3,5,7,11,13,17,19,23]:List Int) (Int.tmod a1 8)).bind fun Ab=>(some Ab))
theorem AQs {fuel:Nat} {h:Zu} {a1 r:Int} (hp:AFp fuel a1=some r):AAv Tryz.prog 10 #[(.int .u8 a1)] h (fun x h'=>Ext h h'/\x= .int .i64 r):=by
 unfold AFp at hp;refine cwf (l:=[_]) Tryz.func10 rfl rfl (Zn (AA4 (AYj (κ:= .i64) [3,5,7,11,13,17,19,23] AAg AIu rfl rfl trivial tt2 rfl rfl rfl rfl fun b2 v3 h4 I5 E6 Af Ag=>Zj (ADc rfl rfl Zk ?_))));have Aa:=(Kst.k0 h).no E6 (AE5 Af Ag) I5;obtain ⟨Aq,Ac,Ah⟩:=Zp hp;refine AXd AAg rfl (Aa.o p0) rfl Ac fun Ar Ai=>?_;obtain ⟨Au,Aj,Ak⟩:=(Aa.o p0).cells Ai Ac;obtain rfl:=Aj;refine AA7 AAk rfl (Ak 0 _ rfl) (Zt (Zw ?_));obtain rfl:=Zl Ah;exact ⟨_,Zy,Aa.x,rfl⟩
def AH4 (fuel:Nat) (a1 a2:Int):Option Int:=
  (if a2≠0 then (if (Int.tmod a1 a2) < 0 then (some (w64 ((Int.tmod a1 a2) + a2))) else (some (Int.tmod a1 a2))) else none)
theorem AUb {fuel:Nat} {h:Zu} {a1 a2 r:Int} (hp:AH4 fuel a1 a2=some r):AAv Tryz.prog 68 #[(.int .i64 a1),(.int .i64 a2)] h (fun x h'=>Ext h h'/\x= .int .i64 r):=by
 unfold AH4 at hp;refine cwf (l:=[_,_]) Tryz.func68 rfl rfl (Zn (AA4 (Zj (Zj ?_))));have K0:=Kst.k0 h;obtain ⟨Af,Ae⟩:=ifN hp;refine ADc rfl rfl Af (Zt (Zo (Zn (Zj (AAu rfl rfl (Zr (⟨_,rfl,fun Aa=>?_,fun Aa=>?_⟩)))))))
 ·refine AAa (Zj (Zj (AA0 rfl rfl (AA4 (Zj (Zt (Zw ?_)))))));obtain rfl:=Zl (AA5 Ae Aa);exact ⟨_,Zy,K0.x,rfl⟩
 ·refine Zv (q_t (Zn (Zj (Zt (Zw ?_)))));obtain rfl:=Zl (AA6 Ae Aa);exact ⟨_,Zy,K0.x,rfl⟩
def AF2 (fuel:Nat) (a1 a5:Int):Option Int:=
  ((AKs fuel a5).bind fun Ac=>((ADw fuel a1 Ac).bind fun Ad=>((AVs fuel Ad).bind fun (Ae,Af)=>(some Ae))))
theorem ARi {fuel:Nat} {h:Zu} {Ad:Value} {a1 a5 r:Int} (H3:ZZ h Ad a1) (hp:AF2 fuel a1 a5=some r):AAv Tryz.prog 139 #[Ad,(.int .i64 a5)] h (fun x h'=>Ext h h'/\x= .int .i64 r):=by
 unfold AF2 at hp;obtain ⟨Am,rfl,Ag⟩:=H3.cs;refine cwf (l:=[_,_]) Tryz.func139 rfl rfl (Zn (AG8 (Kst.k0 h) Am fun b6 h7 E9 Ab=>Zt (Zo (ACd (fun h'=>UpT [] h7 h') Zx ?_))));have Ah:UpT [] h7 h7:=UpT.start all_nil;refine AN7 (Ab.zx Ag) Ah (Ab.b p0) (Zj ?_);obtain ⟨A3,Ao,Ap⟩:=Zp hp;refine AFi Ab Ah (AJy Ao) fun A4 A5 A6 Ac Aq=>?_;obtain ⟨A7,Ar,Au⟩:=Zp Ap;refine AFi Ac Aq (AOw (Ac.zx Ag).2 (Ac.z p0).2 Ar) fun A8 A9 Ba Ai Av=>?_;obtain ⟨⟨Bb,Bc⟩,Aw,Aj⟩:=Zp Au;dsimp only at Aj;refine Aaw Ai Av (Aas (Ai.z p0).2 Aw) fun Be Bf Ax Bg=>Zj (ABl rfl rfl (ABl rfl rfl (AAl (AA4 (Zj (Zt (Zw ?_)))))));obtain rfl:=Zl Aj;exact ⟨_,Zy,Ax.x,rfl⟩
def AKj (fuel:Nat) (a3:LiI) (Ab:Int):Option ((Int) ⊕ ((Bool) ⊕ (Unit))):=
  (if Ab < (a3.length:Int) then ((gI a3 Ab).bind fun Ac=>((gI a3 0).bind fun Ad=>(if ¬ (Ac.length:Int)=(Ad.length:Int) then (some (Sum.inr<| Sum.inl <| false)) else (if (Ac.length:Int) < 1 then (some (Sum.inr<| Sum.inl <| false)) else (if 16 < (Ac.length:Int) then (some (Sum.inr<| Sum.inl <| false)) else (some (Sum.inl (w64 (Ab + 1))))))))) else (some (Sum.inr<| Sum.inr <| ())))
def AC3 (fuel:Nat) (a3:LiI):Option Bool:=
  (((if (a3.length:Int) < 1 then (some (Sum.inl <| false)) else (if 16 < (a3.length:Int) then (some (Sum.inl <| false)) else (some (Sum.inr <| ())))):Option ((Bool) ⊕ (Unit))).bind (fun ex=>match ex with | Sum.inl Ab=>(some Ab) | Sum.inr (_)=>((iter (fun s=>AKj fuel a3 s) fuel 0).bind (fun ex=>match ex with | Sum.inl Ac=>(some Ac) | Sum.inr (_)=>(some true)))))
theorem AKk {fuel:Nat} {h:Zu} {Aq:Value} {a3:LiI} {r:Bool} (H2:AC5 (cI .i64) h Aq a3) (hp:AC3 fuel a3=some r):AAv Tryz.prog 141 #[Aq] h (fun x h'=>Ext h h'/\x= .bool r):=by
 unfold AC3 at hp;refine cwf (l:=[_]) Tryz.func141 rfl rfl (Zn (Zt ?_));have K0:=Kst.k0 h;obtain ⟨A3,Ar,Ai⟩:=Zp hp;refine AKb 8164 (fun x:Unit=>[]) (fun x h'=>(Sum.inr <| ())=A3/\Kst h h' (K0.L)) ?_ ?_
 ·refine Zn (Zj (AA8 AAf rfl H2 (AAu rfl rfl (Zj ?_))));by_cases Ad:(a3.length:Int) < 1
  ·rw [decide_eq_true Ad];refine ADe 8 true (Z4 rfl (Zr (AAr rfl (Zn (Zt ?_)))));obtain rfl:=Zl (ifT Ar Ad);refine Zw (AAc ?_);obtain rfl:=Zl Ai;exact ⟨_,Zy,K0.x,rfl⟩
  ·have Au:=ifF Ar Ad;rw [decide_eq_false Ad];refine AAb 8 false (Zj (AAb 8 false (AA8 AAf rfl H2 (AAb 8 false (AGb rfl rfl (Zz rfl (Zr (⟨_,rfl,fun Aj=>?_,fun Aj=>?_⟩))))))))
   ·refine Zn (Zt ?_);obtain rfl:=Zl (AA5 Au Aj);refine Zw (AAc ?_);obtain rfl:=Zl Ai;exact ⟨_,Zy,K0.x,rfl⟩
   ·refine Zv (q_t ?_);exact ⟨(():Unit),⟨Zl (AA6 Au Aj),K0⟩,trivial⟩
 rintro ⟨⟩ Ba Bb ⟨A4,Av⟩;subst A4;refine Zo (Zn (Zj (AA8 AAf rfl H2 (Zj (Zr (Zs (AG4 137438920724 Ai (fun x=>[(15,(.int .i64 x))]) (fun x=>Av.L) Av ⟨rfl,trivial⟩ ?_)))))));rintro Bc Be Bf Bg Aa Ak Ae;unfold AKj at Ak;refine Zn (AAu rfl rfl (Zr (Zo (⟨_,rfl,fun Am=>?_,fun Am=>?_⟩))))
 ·refine Zv (q_t (Zo (Zs (Zn ?_))));obtain ⟨Aw,A5,A6⟩:=Zp (AA5 Ak Am);refine AGs AAf AA2 H2 Aa.x A5 fun _ Bh Ao=>AA4 (Zj (ABm AAg rfl Ao (Zj ?_)));obtain ⟨A7,A8,Ax⟩:=Zp A6;refine AGs AAf AA2 H2 Aa.x A8 fun _ Bi A9=>ABm AAg rfl A9 (ACk rfl rfl (Zj ?_));by_cases Af: ¬ (Aw.length:Int)=(A7.length:Int)
  ·rw [decide_eq_true Af];refine ADe 26 true (Z4 rfl (Zj (ADe 31 true (Z4 rfl (Zr (AAr rfl (Zn (Zt (Zw (ABi (AAc (AAc (ABi (AAc ?_))))))))))))));obtain rfl:=Zl (Ae _ (Zl (ifT Ax Af)).symm);exact ⟨_,Zy,Aa.x,rfl⟩
  ·have Ay:=ifF Ax Af;rw [decide_eq_false Af];refine AAb 26 false (Zj (AAb 26 false (ABm AAg rfl Ao (AAb 26 false (AAu rfl rfl (Zz rfl (Zj ?_)))))));by_cases Ag:(Aw.length:Int) < 1
   ·rw [decide_eq_true Ag];refine ADe 31 true (Z4 rfl (Zr (AAr rfl (Zn (Zt (Zw (ABi (AAc (AAc (ABi (AAc ?_)))))))))));obtain rfl:=Zl (Ae _ (Zl (ifT Ay Ag)).symm);exact ⟨_,Zy,Aa.x,rfl⟩
   ·have Az:=ifF Ay Ag;rw [decide_eq_false Ag];refine AAb 31 false (Zj (AAb 31 false (ABm AAg rfl Ao (AAb 31 false (AGb rfl rfl (Zz rfl (Zr (⟨_,rfl,fun Ap=>?_,fun Ap=>?_⟩))))))))
    ·refine Zn (Zt (Zw (ABi (AAc (AAc (ABi (AAc ?_)))))));obtain rfl:=Zl (Ae _ (Zl (AA5 Az Ap)).symm);exact ⟨_,Zy,Aa.x,rfl⟩
    ·refine Zv (q_b (q_t (AAa (AA0 rfl rfl (Zj (Zr ?_))))));exact ⟨_,(Zl (AA6 Az Ap)).symm,Aa,rfl,trivial⟩
 ·refine AAh (AAi (AAi (ABj (q_t (Zn (Zt (Zw ?_)))))));obtain rfl:=Zl (Ae _ (Zl (AA6 Ak Am)).symm);exact ⟨_,Zy,Aa.x,rfl⟩
def AD4 (fuel:Nat) (a1:Int):Option Bool:=
  (if 2<=a1 then (some (decide (a1<=2147483647))) else (some false))
theorem AM1 {fuel:Nat} {h:Zu} {a1:Int} {r:Bool} (hp:AD4 fuel a1=some r):AAv Tryz.prog 138 #[(.int .i64 a1)] h (fun x h'=>Ext h h'/\x= .bool r):=by
 unfold AD4 at hp;refine cwf (l:=[_]) Tryz.func138 rfl rfl (Zn (AA4 (Zj (AMf rfl rfl (Zj ?_)))));have K0:=Kst.k0 h;by_cases Aa:2<=a1
 ·rw [decide_eq_true Aa];refine AAb 5 true (Zj (AAb 5 true (AWp rfl rfl (Z4 rfl (Zt (Zw ?_))))));obtain rfl:=Zl (ifT hp Aa);exact ⟨_,Zy,K0.x,rfl⟩
 ·rw [decide_eq_false Aa];refine AGz 5 false (Zz rfl (Zt (Zw ?_)));obtain rfl:=Zl (ifF hp Aa);exact ⟨_,Zy,K0.x,rfl⟩
def AGu (fuel:Nat) (a5:Int) (Ac Aa:LiA) (Ab:Int):Option ((LiA × Int) ⊕ ((LiA))):=
  (if Ab < (Ac.length:Int) then ((gI Ac Ab).bind fun Ae=>((AH4 fuel Ae a5).bind fun Af=>(if Aa.length<=100000000 then (some (Sum.inl ((Aa ++ [Af]),(w64 (Ab + 1))))) else none))) else (some (Sum.inr<| Aa)))
def AJs (fuel:Nat) (a3:LiI) (a5:Int) (Aa:LiI) (Ab:Int):Option ((LiI × Int) ⊕ ((LiI))):=
  (if Ab < (a3.length:Int) then ((gI a3 Ab).bind fun Ae=>((iter (fun s=>AGu fuel a5 Ae s.1 s.2) fuel ([],0)).bind (fun (Af:LiA)=>(if Aa.length<=100000000 then (some (Sum.inl ((Aa ++ [Af]),(w64 (Ab + 1))))) else none)))) else (some (Sum.inr<| Aa)))
def ACv (fuel:Nat) (a3:LiI) (a5:Int):Option LiI:=
  ((iter (fun s=>AJs fuel a3 a5 s.1 s.2) fuel ([],0)).bind (fun (Ac:LiI)=>(some Ac)))
theorem AJt {fuel:Nat} {h:Zu} {Ag:Value} {a3:LiI} {a5:Int} {r:LiI} (H2:AC5 (cI .i64) h Ag a3) (hp:ACv fuel a3 a5=some r):AAv Tryz.prog 30 #[Ag,(.int .i64 a5)] h (fun x h'=>Ext h h'/\ ∃ (x0:Value) (F0:List Nat) (Av:List LnA) (Aw:List Value),x=x0/\ACs (cI .i64) 60 2 h' F0 Av Aw x0 r/\Sp h' h.size [F0]):=by
 unfold ACv at hp;refine cwf (l:=[_,_]) Tryz.func30 rfl rfl (Zn (AA4 (Zt (Zo (Zn (Zj (AA8 AAf rfl H2 (Zj (Zr (Zs ?_))))))))));have K7:=Kst.anil2 (cI .i64) 60 2 (Kst.k0 h);refine AFj 34359731616 (fun x:(LiI) × (Value) × LnA × LnN × LvA × (Int)=>(x.1,x.2.2.2.2.2)) (([],(.slice none 0 0),[],[],[],0):(LiI) × (Value) × LnA × LnN × LvA × (Int)) hp (fun x=>[(5,x.2.1),(13,(.int .i64 x.2.2.2.2.2))]) (fun x=>K7.L.set 0 (aO2 (cI .i64) 60 2 x.2.2.1 x.2.2.2.1 x.2.2.2.2.1 x.2.1 x.1)) K7 ⟨rfl,rfl,trivial⟩ ?_;rintro ⟨Bj,Bl,Bm,Bn,Bo,Bp⟩ Bq Br Bt Ab Ac Ax;unfold AJs at Ac;refine Zn (AAu rfl rfl (Zr (Zo (⟨_,rfl,fun Ad=>?_,fun Ad=>?_⟩))))
 ·refine Zv (q_t (Zo (Zs (Zn ?_))));obtain ⟨Bu,Ay,Az⟩:=Zp (AA5 Ac Ad);refine AGs AAf AA2 H2 Ab.x Ay fun _ Bv Ap=>AA4 (Zt (Zo (Zn (Zj (ABm AAg rfl Ap (Zj (Zr (Zs ?_))))))));have Aq:=Kst.anil (cI .i64) 2 Ab;refine AFj 1073218816 (fun x:(LiA) × (Value) × LnA × (Int)=>(x.1,x.2.2.2)) (([],(.slice none 0 0),[],0):(LiA) × (Value) × LnA × (Int)) Az (fun x=>[(8,x.2.1),(19,(.int .i64 x.2.2.2))]) (fun x=>Aq.L.set 0 (aO (cI .i64) 2 x.2.2.1 x.2.1 x.1)) Aq ⟨rfl,rfl,trivial⟩ ?_;rintro ⟨Bw,Bx,By,Bz⟩ B1 B3 B4 Aa Ae A3;unfold AGu at Ae;refine Zn (AAu rfl rfl (Zr (Zo (⟨_,rfl,fun Af=>?_,fun Af=>?_⟩))))
  ·refine Zv (q_t (Zo (Zs (Zn ?_))));obtain ⟨B5,A4,A5⟩:=Zp (AA5 Ae Af);refine AUi AAg AAk Ap Aa.x A4 fun _=>(Zt (AAa (Zj (Zj (Zj ?_)))));obtain ⟨Ar,A6,A7⟩:=Zp A5;refine ACl Aa (AUb A6) fun B6 B7 Au=>?_;obtain ⟨A8,A9⟩:=ifN A7;refine ALo AAg AIu rfl rfl trivial tt2 (fun _=>rfl) rfl (show ((cI .i64)).rep _ Ar [(.int .i64 Ar)] from rfl) (Au.o p0) Zk A8 fun B8 B9 Ca Cb Ba Bb Bc=>AAl (AAn (q_b (q_t (AAa (AA0 rfl rfl (Zj (Zr ?_)))))));exact ⟨(_,_,_,_),(Zl A9).symm,(Au.uo p0 Bb Ba Bc),rfl,rfl,trivial⟩
  ·refine AAh (AAi (AAi (ABj (q_t (AAa (Zj (Zj ?_)))))));obtain ⟨Be,Bf⟩:=ifN (A3 _ (Zl (AA6 Ae Af)).symm);refine AXe AAf AMd rfl rfl trivial tt2 (fun _=>rfl) rfl (Aa.o p0) (Aa.o2 p1) (Aa.dj p0 p1 Zk) Zk Be fun Cd Ce Cf Cg Bg Bh Bi=>AAl (AAn (q_b (q_t (AAa (AA0 rfl rfl (Zj (Zr ?_)))))));exact ⟨(_,_,_,_,_,_),(Zl Bf).symm,(Aa.m2 p0 p1 Zk Bh Bg Bi).sel [1] Zk,rfl,rfl,trivial⟩
 ·refine AAh (AAi (AAi (ABj (q_t (Zn (Zj (Zt (Zw ?_))))))));obtain rfl:=Zl (Ax _ (Zl (AA6 Ac Ad)).symm);exact ⟨_,Zy,Ab.x,_,_,_,_,rfl,(Ab.o2 p0),Ab.s.sel [0] Zk⟩
def AHn (fuel:Nat) (a3 a7:LiI) (Ab:Int) (Ae:LiA) (Aa:Int):Option ((Int) ⊕ ((Bool) ⊕ (Unit))):=
  (if Aa < (Ae.length:Int) then ((gI a3 Ab).bind fun Af=>((gI Af Aa).bind fun Ag=>((gI a7 Ab).bind fun Ah=>((gI Ah Aa).bind fun Ai=>(if ¬ Ag=Ai then (some (Sum.inr<| Sum.inl <| false)) else (some (Sum.inl (w64 (Aa + 1))))))))) else (some (Sum.inr<| Sum.inr <| ())))
def AHo (fuel:Nat) (a3 a7:LiI) (Aa:Int):Option ((Int) ⊕ ((Bool) ⊕ (Unit))):=
  (if Aa < (a3.length:Int) then ((gI a3 Aa).bind fun Ad=>((gI a7 Aa).bind fun Ae=>(if ¬ (Ad.length:Int)=(Ae.length:Int) then (some (Sum.inr<| Sum.inl <| false)) else ((iter (fun s=>AHn fuel a3 a7 Aa Ad s) fuel 0).bind (fun ex=>match ex with | Sum.inl Af=>(some (Sum.inr<| Sum.inl <| Af)) | Sum.inr (_)=>(some (Sum.inl (w64 (Aa + 1))))))))) else (some (Sum.inr<| Sum.inr <| ())))
def AHf (fuel:Nat) (a3 a7:LiI):Option Bool:=
  (if ¬ (a3.length:Int)=(a7.length:Int) then (some false) else ((iter (fun s=>AHo fuel a3 a7 s) fuel 0).bind (fun ex=>match ex with | Sum.inl Ac=>(some Ac) | Sum.inr (_)=>(some true))))
theorem ATc {fuel:Nat} {h:Zu} {Ap:Value} {a3:LiI} {Ar:Value} {a7:LiI} {r:Bool} (H2:AC5 (cI .i64) h Ap a3) (H6:AC5 (cI .i64) h Ar a7) (hp:AHf fuel a3 a7=some r):AAv Tryz.prog 83 #[Ap,Ar] h (fun x h'=>Ext h h'/\x= .bool r):=by
 unfold AHf at hp;refine cwf (l:=[_,_]) Tryz.func83 rfl rfl (Zn (Zt (Zo (Zn (Zj (AA8 AAf rfl H2 (Zj (AA8 AAf rfl H6 (ACk rfl rfl (Zr ?_))))))))));have K0:=Kst.k0 h;refine ⟨_,rfl,fun Af=>?_,fun Af=>?_⟩
 ·refine Zn (Zt (Zw (AAc ?_)));obtain rfl:=Zl (AA5 hp Af);exact ⟨_,Zy,K0.x,rfl⟩
 ·refine Zv (q_t (Zo (Zn (Zj (AA8 AAf rfl H2 (Zj (Zr (Zs (AG4 9007199254724720 (AA6 hp Af) (fun x=>[(14,(.int .i64 x))]) (fun x=>K0.L) K0 ⟨rfl,trivial⟩ ?_)))))))));rintro Bh Bi Bj Bl Aa Ag Ah;unfold AHo at Ag;refine Zn (AAu rfl rfl (Zr (Zo (⟨_,rfl,fun Ai=>?_,fun Ai=>?_⟩))))
  ·refine Zv (q_t (Zo (Zs (Zn (Zj (Zt (Zo (Zo (AF8 (Zj (Zj ?_)))))))))));obtain ⟨Bm,Av,Az⟩:=Zp (AA5 Ag Ai);refine AGs AAf AA2 H2 Aa.x Av fun _ Bn A3=>ABm AAg rfl A3 (Zj (Zj ?_));obtain ⟨Bo,A4,Aw⟩:=Zp Az;refine AGs AAf AA2 H6 Aa.x A4 fun _ Bp A5=>ABm AAg rfl A5 (ACk rfl rfl (Zr (⟨_,rfl,fun Aj=>?_,fun Aj=>?_⟩)))
   ·refine Zn (Zt (Zw (AAc (ABi (AAc (AAc (ABi (AAc ?_))))))));obtain rfl:=Zl (Ah _ (Zl (AA5 Aw Aj)).symm);exact ⟨_,Zy,Aa.x,rfl⟩
   ·refine Zv (q_t (Zn (Zj (Zj (AGs AAf AA2 H2 Aa.x Av fun _ Bq A6=>ABm AAg rfl A6 (Zj (Zr (Zs (AG4 4503591037435984 (AA6 Aw Aj) (fun x=>[(33,(.int .i64 x))]) (fun x=>Aa.L) Aa ⟨rfl,trivial⟩ ?_)))))))));rintro Br Bt Bu Bv Ab Ak Ax;unfold AHn at Ak;refine Zn (AAu rfl rfl (Zr (Zo (⟨_,rfl,fun Am=>?_,fun Am=>?_⟩))))
    ·refine Zv (q_t (Zo (Zs (Zn (Zj (Zt (Zo (AF8 (Zj (Zj ?_))))))))));obtain ⟨Bw,A7,A8⟩:=Zp (AA5 Ak Am);refine AGs AAf AA2 H2 Ab.x A7 fun _ Bx A9=>Zj ?_;obtain ⟨By,Ba,Bb⟩:=Zp A8;refine AUi AAg AAk A9 Ab.x Ba fun _=>(Zj (Zj ?_));obtain ⟨Bz,Bc,Be⟩:=Zp Bb;refine AGs AAf AA2 H6 Ab.x Bc fun _ B1 Bf=>Zj ?_;obtain ⟨B3,Bg,Ay⟩:=Zp Be;refine AUi AAg AAk Bf Ab.x Bg fun _=>(ACk rfl rfl (Zr (⟨_,rfl,fun Ao=>?_,fun Ao=>?_⟩)))
     ·refine Zn (Zt (Zw (ABi (AAc (AAc (ABi (ABi (AAc (AAc (ABi (AAc ?_)))))))))));obtain rfl:=Zl (Ah _ (Zl (Ax _ (Zl (AA5 Ay Ao)).symm)).symm);exact ⟨_,Zy,Ab.x,rfl⟩
     ·refine Zv (q_b (q_t (AAa (AA0 rfl rfl (Zj (Zr ?_))))));exact ⟨_,(Zl (AA6 Ay Ao)).symm,Ab,rfl,trivial⟩
    ·refine AAh (AAi (AAi (ABj (q_b (q_t (AAa (AA0 rfl rfl (Zj (Zr ?_)))))))));exact ⟨_,(Zl (Ax _ (Zl (AA6 Ak Am)).symm)).symm,Ab,rfl,trivial⟩
  ·refine AAh (AAi (AAi (ABj (q_t (Zn (Zt (Zw ?_)))))));obtain rfl:=Zl (Ah _ (Zl (AA6 Ag Ai)).symm);exact ⟨_,Zy,Aa.x,rfl⟩
def AGg (fuel:Nat) (a9:Int) (Af Ae:LiI) (Ag Ac Ab:Int) (Ad:LiA):Option ((Int × LiA) ⊕ ((LiA))):=
  (if Ab < (Ae.length:Int) then ((gI Ad Ac).bind fun Ah=>((gI Af Ag).bind fun Ai=>((gI Ai Ab).bind fun Aj=>((gI Ae Ab).bind fun Ak=>((gI Ak Ac).bind fun Am=>(if a9≠0 then (if a9≠0 then (some (Sum.inl ((w64 (Ab + 1)),(sI Ad Ac (Int.tmod (w64 (Ah + (Int.tmod (w64 (Aj * Am)) a9))) a9))))) else none) else none)))))) else (some (Sum.inr<| Ad)))
def AGh (fuel:Nat) (a9:Int) (Ad Ae:LiI) (Af:Int) (Ag:LiA) (Aa:Int) (Ab:LiA):Option ((Int × LiA) ⊕ ((LiA))):=
  (if Aa < ((List.replicate (Int.toNat (Ag.length:Int)) (0:Int)).length:Int) then ((iter (fun s=>AGg fuel a9 Ad Ae Af Aa s.1 s.2) fuel (0,Ab)).bind (fun (Ah:LiA)=>(some (Sum.inl ((w64 (Aa + 1)),Ah))))) else (some (Sum.inr<| Ab)))
def AGi (fuel:Nat) (a9:Int) (Ad Ae Ab:LiI) (Ac:Int):Option ((LiI × Int) ⊕ ((LiI))):=
  (if Ac < (Ad.length:Int) then ((gI Ae 0).bind fun Aa=>(if 0<=(Aa.length:Int)/\(Aa.length:Int)<=100000000 then ((iter (fun s=>AGh fuel a9 Ad Ae Ac Aa s.1 s.2) fuel (0,(List.replicate (Int.toNat (Aa.length:Int)) (0:Int)))).bind (fun (Ag:LiA)=>(if Ab.length<=100000000 then (some (Sum.inl ((Ab ++ [Ag]),(w64 (Ac + 1))))) else none))) else none)) else (some (Sum.inr<| Ab)))
def AD5 (fuel:Nat) (a3 a7:LiI) (a9:Int):Option LiI:=
  ((ACv fuel a3 a9).bind fun Ad=>((ACv fuel a7 a9).bind fun Ae=>((iter (fun s=>AGi fuel a9 Ad Ae s.1 s.2) fuel ([],0)).bind (fun (Af:LiI)=>(some Af)))))
theorem AM2 {fuel:Nat} {h:Zu} {Ao:Value} {a3:LiI} {Aq:Value} {a7:LiI} {a9:Int} {r:LiI} (H2:AC5 (cI .i64) h Ao a3) (H6:AC5 (cI .i64) h Aq a7) (hp:AD5 fuel a3 a7 a9=some r):AAv Tryz.prog 142 #[Ao,Aq,(.int .i64 a9)] h (fun x h'=>Ext h h'/\ ∃ (x0:Value) (F0:List Nat) (A9:List LnA) (Ba:List Value),x=x0/\ACs (cI .i64) 60 2 h' F0 A9 Ba x0 r/\Sp h' h.size [F0]):=by
 unfold AD5 at hp;refine cwf (l:=[_,_,_]) Tryz.func142 rfl rfl (Zn (AA4 (Zj (Zj ?_))));have K0:=Kst.k0 h;obtain ⟨Cv,Bb,Bc⟩:=Zp hp;refine AMv K0 (AJt (H2.ext K0.x) Bb) fun Cw Cx Cy Cz C0 C1 Ax=>Zj (Zj ?_);obtain ⟨C2,Be,Bf⟩:=Zp Bc;refine AMv Ax (AJt (H6.ext Ax.x) Be) fun C3 C4 C5 C6 C7 C8 Ay=>AAl (AA4 (Zt (Zo (Zn (Zj (AA8 AAf rfl (Ay.o2 p1).rd (Zj (Zr (Zs ?_)))))))));have Az:=Kst.anil2 (cI .i64) 60 2 Ay;refine AFj 4722366482869644169088 (fun x:(LiI) × (Value) × LnA × LnN × LvA × (Int)=>(x.1,x.2.2.2.2.2)) (([],(.slice none 0 0),[],[],[],0):(LiI) × (Value) × LnA × LnN × LvA × (Int)) Bf (fun x=>[(7,x.2.1),(20,(.int .i64 x.2.2.2.2.2))]) (fun x=>Az.L.set 0 (aO2 (cI .i64) 60 2 x.2.2.1 x.2.2.2.1 x.2.2.2.2.1 x.2.1 x.1)) Az ⟨rfl,rfl,trivial⟩ ?_;rintro ⟨C9,Da,Db,Dc,Dd,Bg⟩ De Df Dg Ac Af Bh;unfold AGi at Af;refine Zn (AAu rfl rfl (Zr (Zo (⟨_,rfl,fun Ag=>?_,fun Ag=>?_⟩))))
 ·refine Zv (q_t (Zo (Zs (Zn (Zj (AA4 (Zj ?_)))))));obtain ⟨Bi,A3,Bj⟩:=Zp (AA5 Af Ag);refine ABy AAf AA2 (Ac.o2 p1) A3 fun _ Dh Bl=>ABm AAg rfl ((Ac.o2 p1).rowI Bl A3) ?_;obtain ⟨Bm,Bn⟩:=ifN Bj;refine AP6 (c:=(cI .i64)) (a:=0) AAg AIu rfl rfl (fun _=>rfl) rfl trivial tt2 rfl rfl Zk Bm fun Bo A4 Di Bp Bq Br Bt=>Zt (Zo (Zn (Zj ?_)));have Ah:=Ac.no Bq (AE5 Br Bt) Bp;refine ABm AAg rfl (Ah.o p0).rd (Zj (Zr (Zs (AFj 147573952588602674176 (fun x:(Int) × (LiA) × LnA=>(x.1,x.2.1)) ((0,(List.replicate (Int.toNat (Bi.length:Int)) (0:Int)),[Bo]):(Int) × (LiA) × LnA) Bn (fun x=>[(30,(.int .i64 x.1))]) (fun x=>Ah.L.set 0 (aO (cI .i64) 2 x.2.2 A4 x.2.1)) Ah ⟨rfl,trivial⟩ ?_))));rintro ⟨Dj,Bu,Bv⟩ Dk Dl Do Ab Ai Bw;unfold AGh at Ai;refine Zn (AAu rfl rfl (Zr (Zo (⟨_,rfl,fun Aj=>?_,fun Aj=>?_⟩))))
  ·refine Zv (q_t (Zo (Zs (Zn (Zj (AA4 (Zj (AA8 AAf rfl (Ab.o2 p2).rd (Zj (Zr (Zs (AFj 73786976260478470144 (fun x:(Int) × (LiA) × LnA=>(x.1,x.2.1)) ((0,Bu,Bv):(Int) × (LiA) × LnA) (AA5 Ai Aj) (fun x=>[(35,(.int .i64 x.1))]) (fun x=>Ab.L.set 0 (aO (cI .i64) 2 x.2.2 A4 x.2.1)) Ab ⟨rfl,trivial⟩ ?_))))))))))));rintro ⟨Bx,Dp,Dq⟩ Dr Ds Dt Aa Ak By;unfold AGg at Ak;refine Zn (AAu rfl rfl (Zr (Zo (⟨_,rfl,fun Am=>?_,fun Am=>?_⟩))))
   ·refine Zv (q_t (Zo (Zs (Zn (Zj (Zt (AF8 (Zj (Zj (Zj (Zj ?_)))))))))));obtain ⟨Bz,Ae,B1⟩:=Zp (AA5 Ak Am);refine AXd AAg rfl (Aa.o p0) rfl Ae fun Du B3=>?_;obtain ⟨Dv,B4,B5⟩:=(Aa.o p0).cells B3 Ae;obtain rfl:=B4;refine AA7 AAk rfl (B5 0 _ rfl) (Zj (Zj ?_));obtain ⟨Dw,A5,B6⟩:=Zp B1;refine ABy AAf AA2 (Aa.o2 p3) A5 fun _ Dx B7=>Zj ?_;obtain ⟨B8,B9,Ca⟩:=Zp B6;refine AIs (m:=Bg) AAg AAk (Aa.o2 p3) B7 A5 B9 fun _=>(Zj (Zj ?_));obtain ⟨Dy,A6,Cb⟩:=Zp Ca;refine ABy AAf AA2 (Aa.o2 p2) A6 fun _ Dz Cd=>Zj ?_;obtain ⟨Ce,Cf,Cg⟩:=Zp Cb;refine AIs (m:=Bx) AAg AAk (Aa.o2 p2) Cd A6 Cf fun _=>(AL3 rfl rfl (Zj ?_));obtain ⟨Ch,Ci⟩:=ifN Cg;refine ADc rfl rfl Ch (AA0 rfl rfl (Zj ?_));obtain ⟨Cj,Ck⟩:=ifN Ci;refine ADc rfl rfl Cj (AXd AAg rfl (Aa.o p0) rfl Ae fun D0 Cm=>Avw (AM8 AAk rfl rfl rfl) (Aa.o p0) Cm Ae (show ((cI .i64)).rep _ (Int.tmod (w64 (Bz + (Int.tmod (w64 (B8 * Ce)) a9))) a9) _ from rfl) fun D1 Cn Co=>AAn (q_b (q_t (AAa (AA0 rfl rfl (Zj (Zr ?_)))))));exact ⟨(_,_,_),(Zl Ck).symm,(Aa.uO p0 Co Cn),rfl,trivial⟩
   ·refine AAh (AAi (AAi (ABj (q_b (q_t (AAa (AA0 rfl rfl (Zj (Zr ?_)))))))));exact ⟨(_,_,_),(Zl (By _ (Zl (AA6 Ak Am)).symm)).symm,Aa,rfl,trivial⟩
  ·refine AAh (AAi (AAi (ABj (q_t (AAa (Zj (Zj ?_)))))));obtain ⟨Cp,Cq⟩:=ifN (Bw _ (Zl (AA6 Ai Aj)).symm);refine AXe AAf AMd rfl rfl trivial tt2 (fun _=>rfl) rfl (Ab.o p0) (Ab.o2 p1) (Ab.dj p0 p1 Zk) Zk Cp fun D2 D3 D4 D5 Cr Ct Cu=>AAl (AAn (q_b (q_t (AAa (AA0 rfl rfl (Zj (Zr ?_)))))));exact ⟨(_,_,_,_,_,_),(Zl Cq).symm,(Ab.m2 p0 p1 Zk Ct Cr Cu).sel [1,2,3] Zk,rfl,rfl,trivial⟩
 ·refine AAh (AAi (AAi (ABj (q_t (Zn (Zj (Zt (Zw ?_))))))));obtain rfl:=Zl (Bh _ (Zl (AA6 Af Ag)).symm);exact ⟨_,Zy,Ac.x,_,_,_,_,rfl,(Ac.o2 p0),Ac.s.sel [0] Zk⟩
def AFr (fuel:Nat) (a3:LiI) (Ad:Int) (Aa:LiA) (Ab:Int):Option ((LiA × Int) ⊕ ((LiA))):=
  (if Ab < (a3.length:Int) then ((gI a3 Ab).bind fun Ae=>((gI Ae Ad).bind fun Af=>(if Aa.length<=100000000 then (some (Sum.inl ((Aa ++ [Af]),(w64 (Ab + 1))))) else none))) else (some (Sum.inr<| Aa)))
def AFs (fuel:Nat) (a3:LiI) (x5:LiA) (Aa:LiI) (Ab:Int):Option ((LiI × Int) ⊕ ((LiI))):=
  (if Ab < (x5.length:Int) then ((iter (fun s=>AFr fuel a3 Ab s.1 s.2) fuel ([],0)).bind (fun (Ae:LiA)=>(if Aa.length<=100000000 then (some (Sum.inl ((Aa ++ [Ae]),(w64 (Ab + 1))))) else none))) else (some (Sum.inr<| Aa)))
def AE2 (fuel:Nat) (a3:LiI):Option LiI:=
  ((gI a3 0).bind fun x5=>((iter (fun s=>AFs fuel a3 x5 s.1 s.2) fuel ([],0)).bind (fun (Ac:LiI)=>(some Ac))))
theorem AQe {fuel:Nat} {h:Zu} {Ah:Value} {a3 r:LiI} (H2:AC5 (cI .i64) h Ah a3) (hp:AE2 fuel a3=some r):AAv Tryz.prog 143 #[Ah] h (fun x h'=>Ext h h'/\ ∃ (x0:Value) (F0:List Nat) (Ar:List LnA) (Au:List Value),x=x0/\ACs (cI .i64) 60 2 h' F0 Ar Au x0 r/\Sp h' h.size [F0]):=by
 unfold AE2 at hp;refine cwf (l:=[_]) Tryz.func143 rfl rfl (Zn (AA4 (Zt (Zo (Zn (Zj ?_))))));have K0:=Kst.k0 h;obtain ⟨x5,Av,Aw⟩:=Zp hp;refine AGs AAf AA2 H2 K0.x Av fun _ r8 H9=>ABm AAg rfl H9 (Zj (Zr (Zs ?_)));have Ao:=Kst.anil2 (cI .i64) 60 2 K0;refine AFj 34359736440 (fun x:(LiI) × (Value) × LnA × LnN × LvA × (Int)=>(x.1,x.2.2.2.2.2)) (([],(.slice none 0 0),[],[],[],0):(LiI) × (Value) × LnA × LnN × LvA × (Int)) Aw (fun x=>[(3,x.2.1),(11,(.int .i64 x.2.2.2.2.2))]) (fun x=>Ao.L.set 0 (aO2 (cI .i64) 60 2 x.2.2.1 x.2.2.2.1 x.2.2.2.2.1 x.2.1 x.1)) Ao ⟨rfl,rfl,trivial⟩ ?_;rintro ⟨Bm,Bn,Bo,Bp,Bq,Br⟩ Bt Bu Bv Ab Ad Ay;unfold AFs at Ad;refine Zn (AAu rfl rfl (Zr (Zo (⟨_,rfl,fun Ae=>?_,fun Ae=>?_⟩))))
 ·refine Zv (q_t (Zo (Zs (Zn (Zj (AA4 (Zt (Zo (Zn (Zj ?_))))))))));refine AA8 AAf rfl H2 (Zj (Zr (Zs ?_)));have Ap:=Kst.anil (cI .i64) 2 Ab;refine AFj 1073676384 (fun x:(LiA) × (Value) × LnA × (Int)=>(x.1,x.2.2.2)) (([],(.slice none 0 0),[],0):(LiA) × (Value) × LnA × (Int)) (AA5 Ad Ae) (fun x=>[(5,x.2.1),(16,(.int .i64 x.2.2.2))]) (fun x=>Ap.L.set 0 (aO (cI .i64) 2 x.2.2.1 x.2.1 x.1)) Ap ⟨rfl,rfl,trivial⟩ ?_;rintro ⟨Bw,Bx,By,Bz⟩ B1 B3 B4 Aa Af Az;unfold AFr at Af;refine Zn (AAu rfl rfl (Zr (Zo (⟨_,rfl,fun Ag=>?_,fun Ag=>?_⟩))))
  ·refine Zv (q_t (Zo (Zs (Zn (Zj (Zt (AAa (Zj (Zj (Zj ?_))))))))));obtain ⟨B5,A3,A4⟩:=Zp (AA5 Af Ag);refine AGs AAf AA2 H2 Aa.x A3 fun _ B6 A5=>Zj ?_;obtain ⟨Aq,A6,A7⟩:=Zp A4;refine AUi AAg AAk A5 Aa.x A6 fun _=>?_;obtain ⟨A8,A9⟩:=ifN A7;refine ALo AAg AIu rfl rfl trivial tt2 (fun _=>rfl) rfl (show ((cI .i64)).rep _ Aq [(.int .i64 Aq)] from rfl) (Aa.o p0) Zk A8 fun B7 B8 B9 Ca Ba Bb Bc=>AAl (AAn (q_b (q_t (AAa (AA0 rfl rfl (Zj (Zr ?_)))))));exact ⟨(_,_,_,_),(Zl A9).symm,(Aa.uo p0 Bb Ba Bc),rfl,rfl,trivial⟩
  ·refine AAh (AAi (AAi (ABj (q_t (AAa (Zj (Zj ?_)))))));obtain ⟨Be,Bf⟩:=ifN (Az _ (Zl (AA6 Af Ag)).symm);refine AXe AAf AMd rfl rfl trivial tt2 (fun _=>rfl) rfl (Aa.o p0) (Aa.o2 p1) (Aa.dj p0 p1 Zk) Zk Be fun Cb Cd Ce Cf Bg Bh Bi=>AAl (AAn (q_b (q_t (AAa (AA0 rfl rfl (Zj (Zr ?_)))))));exact ⟨(_,_,_,_,_,_),(Zl Bf).symm,(Aa.m2 p0 p1 Zk Bh Bg Bi).sel [1] Zk,rfl,rfl,trivial⟩
 ·refine AAh (AAi (AAi (ABj (q_t (Zn (Zj (Zt (Zw ?_))))))));obtain rfl:=Zl (Ay _ (Zl (AA6 Ad Ae)).symm);exact ⟨_,Zy,Ab.x,_,_,_,_,rfl,(Ab.o2 p0),Ab.s.sel [0] Zk⟩
def AEd (fuel:Nat) (a3 a7:LiI) (a9:Int):Option (LiI × Int):=
  ((((AC3 fuel a3).bind fun Ad=>(if (!Ad)=true then (some (Sum.inl <| ([],3))) else ((AC3 fuel a7).bind fun Ae=>(if (!Ae)=true then (some (Sum.inl <| ([],3))) else ((gI a3 0).bind fun Af=>(if ¬ (a3.length:Int)=(Af.length:Int) then (some (Sum.inl <| ([],3))) else (if ¬ (a7.length:Int)=(a3.length:Int) then (some (Sum.inl <| ([],3))) else (some (Sum.inr <| ()))))))))):Option (((LiI × Int)) ⊕ (Unit))).bind (fun ex=>match ex with | Sum.inl Ag=>(some Ag) | Sum.inr (_)=>((AD4 fuel a9).bind fun Ah=>(if (!Ah)=true then (some ([],1)) else ((AE2 fuel a7).bind fun Ai=>((AD5 fuel a3 a7 a9).bind fun Aj=>((AD5 fuel Ai Aj a9).bind fun Ak=>(some (Ak,0)))))))))
theorem APy {fuel:Nat} {h:Zu} {Ax:Value} {a3:LiI} {Ay:Value} {a7:LiI} {a9:Int} {r:(LiI × Int)} (H2:AC5 (cI .i64) h Ax a3) (H6:AC5 (cI .i64) h Ay a7) (hp:AEd fuel a3 a7 a9=some r):AAv Tryz.prog 82 #[Ax,Ay,(.int .i64 a9)] h (fun x h'=>Ext h h'/\ ∃ (x0:Value) (F0:List Nat) (Be:List LnA) (Bf:List Value),x= .tuple #[x0,.int .i64 r.2]/\ACs (cI .i64) 60 2 h' F0 Be Bf x0 r.1/\Sp h' h.size [F0]):=by
 unfold AEd at hp;refine cwf (l:=[_,_,_]) Tryz.func82 rfl rfl (Zn (AAl (Zt ?_)));have K0:=Kst.k0 h;obtain ⟨Bg,Bh,Ab⟩:=Zp hp;refine AKb 4294967232 (fun x:Unit=>[]) (fun x h'=>(Sum.inr <| ())=Bg/\Kst h h' (K0.L)) ?_ ?_
 ·refine Zn (Zj ?_);obtain ⟨Bi,Bj,A6⟩:=Zp Bh;refine ACl K0 (AKk (H2.ext K0.x) Bj) fun B3 B4 Ah=>ACt rfl (Zj ?_);cases A7:(!Bi)
  ·refine AAb 11 false (Zj (AAb 11 false ?_));obtain ⟨Bl,Bm,A8⟩:=Zp (AF9 A6 A7);refine ACl Ah (AKk (H6.ext Ah.x) Bm) fun B5 B6 Ac=>AAb 11 false (ACt rfl (Zz rfl (Zj ?_)));cases A9:(!Bl)
   ·refine AAb 16 false (Zj (AAb 16 false (AA8 AAf rfl H2 (AAb 16 false (Zj (AAb 16 false ?_))))));obtain ⟨Bn,Bo,Ba⟩:=Zp (AF9 A8 A9);refine AS2 AAf rfl H2 rfl Bo fun B7 B8 B9 Bp Bq=>AAb 16 false (AA7 AA2 rfl (AAx Bp Ac.x) (AAb 16 false (ABm AAg rfl Bq (AAb 16 false (ACk rfl rfl (Zz rfl (Zj ?_)))))));by_cases Ae: ¬ (a3.length:Int)=(Bn.length:Int)
    ·rw [decide_eq_true Ae];refine ADq 25 true (Z4 rfl (Zr (AAr rfl (Zn (AAl (Zt ?_))))));obtain rfl:=Zl (ifT Ba Ae);refine Zw (AAc ?_);have Ai:=Kst.anil2 (cI .i64) 60 2 Ac;obtain rfl:=Zl Ab;exact ⟨_,ABf,Ai.x,_,_,_,_,rfl,(Ai.o2 p0),Ai.s.sel [0] Zk⟩
    ·have Bb:=ifF Ba Ae;rw [decide_eq_false Ae];refine AAb 25 false (Zj (AAb 25 false (AA8 AAf rfl H6 (AAb 25 false (Zj (AAb 25 false (AA8 AAf rfl H2 (AAb 25 false (ACk rfl rfl (Zz rfl (Zr (⟨_,rfl,fun Aj=>?_,fun Aj=>?_⟩))))))))))))
     ·refine Zn (AAl (Zt ?_));obtain rfl:=Zl (AA5 Bb Aj);refine Zw (AAc ?_);have Ak:=Kst.anil2 (cI .i64) 60 2 Ac;obtain rfl:=Zl Ab;exact ⟨_,ABf,Ak.x,_,_,_,_,rfl,(Ak.o2 p0),Ak.s.sel [0] Zk⟩
     ·refine Zv (q_t ?_);exact ⟨(():Unit),⟨Zl (AA6 Bb Aj),Ac⟩,trivial⟩
   ·refine ADq 16 true (AGz 16 true (Z4 rfl (Zj (ADq 25 true (Z4 rfl (Zr (AAr rfl (Zn (AAl (Zt ?_))))))))));obtain rfl:=Zl (ifT A8 A9);refine Zw (AAc ?_);have Am:=Kst.anil2 (cI .i64) 60 2 Ac;obtain rfl:=Zl Ab;exact ⟨_,ABf,Am.x,_,_,_,_,rfl,(Am.o2 p0),Am.s.sel [0] Zk⟩
  ·refine ADe 11 true (Z4 rfl (Zj (ADq 16 true (AGz 16 true (Z4 rfl (Zj (ADq 25 true (Z4 rfl (Zr (AAr rfl (Zn (AAl (Zt ?_)))))))))))));obtain rfl:=Zl (ifT A6 A7);refine Zw (AAc ?_);have Ao:=Kst.anil2 (cI .i64) 60 2 Ah;obtain rfl:=Zl Ab;exact ⟨_,ABf,Ao.x,_,_,_,_,rfl,(Ao.o2 p0),Ao.s.sel [0] Zk⟩
 rintro ⟨⟩ Ca Cb ⟨Br,Bt⟩;subst Br;refine Zo (Zn (Zj ?_));obtain ⟨Cd,Bu,Bc⟩:=Zp Ab;refine ACl Bt (AM1 Bu) fun Ce Cf Ap=>ACt rfl (Zr (⟨_,rfl,fun Aq=>?_,fun Aq=>?_⟩))
 ·refine Zn (AAl (Zt (Zw (AAc ?_))));have Ar:=Kst.anil2 (cI .i64) 60 2 Ap;obtain rfl:=Zl (ifT Bc Aq);exact ⟨_,ABf,Ar.x,_,_,_,_,rfl,(Ar.o2 p0),Ar.s.sel [0] Zk⟩
 ·refine Zv (q_t (Zn (Zj ?_)));obtain ⟨Cg,Bv,Bw⟩:=Zp (AF9 Bc Aq);refine AMv Ap (AQe (H6.ext Ap.x) Bv) fun Ch Ci Cj Ck Cm Cn Au=>Zj (Zj (Zj ?_));obtain ⟨Co,Bx,By⟩:=Zp Bw;refine AMv Au (AM2 (H2.ext Au.x) (H6.ext Au.x) Bx) fun Cp Cq Cr Ct Cu Cv Av=>Zj ?_;obtain ⟨Cw,Bz,B1⟩:=Zp By;refine AMv Av (AM2 (Av.o2 p1).rd (Av.o2 p0).rd Bz) fun Cx Cy Cz C0 C1 C2 Aw=>AAl (Zt (Zw ?_));obtain rfl:=Zl B1;exact ⟨_,ABf,Aw.x,_,_,_,_,rfl,(Aw.o2 p0),Aw.s.sel [0] Zk⟩
def AGj (fuel:Nat) (a3:LiI):Option Bool:=
  ((AC3 fuel a3).bind fun x5=>(if x5=true then ((gI a3 0).bind fun Ac=>(if (a3.length:Int)=(Ac.length:Int) then (some (decide ((a3.length:Int)<=8))) else (some false))) else (some false)))
theorem ARv {fuel:Nat} {h:Zu} {Ae:Value} {a3:LiI} {r:Bool} (H2:AC5 (cI .i64) h Ae a3) (hp:AGj fuel a3=some r):AAv Tryz.prog 137 #[Ae] h (fun x h'=>Ext h h'/\x= .bool r):=by
 unfold AGj at hp;refine cwf (l:=[_]) Tryz.func137 rfl rfl (Zn (AA4 (Zj ?_)));have K0:=Kst.k0 h;obtain ⟨x5,Ak,Ag⟩:=Zp hp;refine ACl K0 (AKk (H2.ext K0.x) Ak) fun h9 E8 Ab=>Zj ?_;cases Ah:x5
 ·refine ADq 5 false (AGz 5 false (Zz rfl (Zj (ADe 14 false (Zz rfl (Zt (Zw ?_)))))));obtain rfl:=Zl (AF9 Ag Ah);exact ⟨_,Zy,Ab.x,rfl⟩
 ·refine AAb 5 true (Zj (AAb 5 true (AA8 AAf rfl H2 (AAb 5 true (Zj (AAb 5 true ?_))))));obtain ⟨Am,Ao,Ai⟩:=Zp (ifT Ag Ah);refine AS2 AAf rfl H2 rfl Ao fun Av Aw Ax Ap Aq=>AAb 5 true (AA7 AA2 rfl (AAx Ap Ab.x) (AAb 5 true (ABm AAg rfl Aq (AAb 5 true (AB2 rfl rfl (Z4 rfl (Zj ?_)))))));by_cases Ac:(a3.length:Int)=(Am.length:Int)
  ·rw [decide_eq_true Ac];refine AAb 14 true (Zj (AAb 14 true (AA8 AAf rfl H2 (AAb 14 true (AWp rfl rfl (Z4 rfl (Zt (Zw ?_))))))));obtain rfl:=Zl (ifT Ai Ac);exact ⟨_,Zy,Ab.x,rfl⟩
  ·rw [decide_eq_false Ac];refine ADe 14 false (Zz rfl (Zt (Zw ?_)));obtain rfl:=Zl (ifF Ai Ac);exact ⟨_,Zy,Ab.x,rfl⟩
def AD2 (fuel:Nat) (a3:LiI):Option Int:=
  ((ADm fuel a3).bind fun Ab=>((ABe fuel Ab).bind fun Ac=>(some Ac)))
theorem APi {fuel:Nat} {h:Zu} {Ab:Value} {a3:LiI} {r:Int} (H2:AC5 (cI .i64) h Ab a3) (hp:AD2 fuel a3=some r):AAv Tryz.prog 140 #[Ab] h (fun x h'=>Ext h h'/\ ∃ (x0:Value),x=x0/\ZZ h' x0 r):=by
 unfold AD2 at hp;refine cwf (l:=[_]) Tryz.func140 rfl rfl (Zn (AC1 (Kst.k0 h) [.bool false,.slice none 0 0] AE0 fun b5 h6 E8 Ae=>AH7 (Zj ?_)));obtain ⟨Au,Ai,Aj⟩:=Zp hp;refine AMv Ae (AI8 (H2.ext Ae.x) Ai) fun Av Aw Ax v20 Ay Az Af=>?_;obtain ⟨A3,Ak,Am⟩:=Zp Aj;refine ANo Af (ACm (Af.o2 p0).rd Ak) fun A4 Ao A5 Ag=>AF7 Ag p2 (AAe Ao) (Ag.z p0) fun A6 Aa=>Zr (Zw ?_);obtain rfl:=Zl Am;exact ⟨_,ACb ABk (cZ.klen (Aa.z p0)) rfl (Aa.b p2),Aa.x,_,rfl,(Aa.z p0).2⟩
def AGq (fuel:Nat) (a3:LiI) (a5:Int):Option (Int × Int):=
  ((AGj fuel a3).bind fun x6=>(if (!x6)=true then (some (0,3)) else ((AD4 fuel a5).bind fun Ad=>(if (!Ad)=true then (some (0,1)) else ((ACv fuel a3 a5).bind fun Ae=>((AD2 fuel Ae).bind fun Af=>((AF2 fuel Af a5).bind fun Ag=>(some (Ag,0)))))))))
theorem AUc {fuel:Nat} {h:Zu} {Ad:Value} {a3:LiI} {a5:Int} {r:(Int × Int)} (H2:AC5 (cI .i64) h Ad a3) (hp:AGq fuel a3 a5=some r):AAv Tryz.prog 81 #[Ad,(.int .i64 a5)] h (fun x h'=>Ext h h'/\x= .tuple #[.int .i64 r.1,.int .i64 r.2]):=by
 unfold AGq at hp;refine cwf (l:=[_,_]) Tryz.func81 rfl rfl (Zn (AAl (Zt (Zo (Zn (Zj ?_))))));have K0:=Kst.k0 h;obtain ⟨x6,Ap,Ai⟩:=Zp hp;refine ACl K0 (ARv (H2.ext K0.x) Ap) fun A4 E9 Aj=>ACt rfl (Zr (⟨_,rfl,fun Aa=>?_,fun Aa=>?_⟩))
 ·refine Zn (AAl (Zt (Zw (AAc ?_))));obtain rfl:=Zl (ifT Ai Aa);exact ⟨_,ABf,Aj.x,rfl⟩
 ·refine Zv (q_t (Zo (Zn (Zj ?_))));obtain ⟨A6,Aq,Ak⟩:=Zp (AF9 Ai Aa);refine ACl Aj (AM1 Aq) fun A7 A8 Ab=>ACt rfl (Zr (⟨_,rfl,fun Ac=>?_,fun Ac=>?_⟩))
  ·refine Zn (AAl (Zt (Zw (AAc ?_))));obtain rfl:=Zl (ifT Ak Ac);exact ⟨_,ABf,Ab.x,rfl⟩
  ·refine Zv (q_t (Zn (Zj (Zj ?_))));obtain ⟨A9,Ar,Au⟩:=Zp (AF9 Ak Ac);refine AMv Ab (AJt (H2.ext Ab.x) Ar) fun Ba Bb Bc Be Bf Bg Am=>?_;obtain ⟨Bh,Av,Aw⟩:=Zp Au;refine ANo Am (APi (Am.o2 p0).rd Av) fun Bi Bj Bl Ao=>Zj ?_;obtain ⟨Bm,Ax,Ay⟩:=Zp Aw;refine ACl Ao (ARi (Ao.z p0).2 Ax) fun Bn Bo Az=>AAl (Zt (Zw ?_));obtain rfl:=Zl Ay;exact ⟨_,ABf,Az.x,rfl⟩
end Go.Proofs.YtdkldlbgcfpglaaGreatDoor
namespace Go.QF
theorem AVy:∀ {n:Nat} {m:Int} {F G:Z1},(∀ i j,i < n->j < n->Eqm m (F i j) (G i j))->Eqm m (det n F) (det n G):=by
 intro n m
 induction n with
 | zero=>intro _ _ _;rfl
 | succ n ih=>
   intro F G h
   refine Eqm.psum fun i hi=>?_
   exact ((Eqm.refl _ _).mul (h i 0 hi Zh)).mul (ih (F:=AE7 i F) (G:=AE7 i G) fun a b ha hb=>h _ _ (An1 ha) Zh)
theorem Ak3 {n c i:Nat} {q m:Int} {F:Z1} (hc:c < n) (hi:i < n) (hne:c≠i):Eqm m (det n (AS1 F c i q m)) (-det n F):=by
  rw [<- ALk (F:=F) hc hi hne (-q),<- APw (F:=ABv F c fun x=>F c x + -q * F i x) hc hi hne];refine AVy fun a b ha hb=>?_;unfold AS1;rw [AJv,AJv];simp only [ABc]
  have key:Eqm m ((F c b + (m - q) * F i b) % m) (F c b + -q * F i b):=by
    refine (Eqm.mod _ _).trans ?_;unfold Eqm;rw [show F c b + (m - q) * F i b=F c b + -q * F i b + m * F i b by grind,Int.add_mul_emod_self_left]
  split
  · split <;> first | exact key | rfl
  · split
    · split <;> first | exact key | rfl
    · first | rfl | exact key
theorem Aom {F:Z1} {m s:Int}:∀ n,Eqm m (ATq F m s n) (s * AGt (fun i=>F i i) n):=by
 intro n
 induction n with
 | zero=>unfold ATq AGt Eqm;rw [Int.add_emod_right,Int.mul_one]
 | succ n ih=>
   unfold ATq AGt
   refine (Eqm.mod _ _).trans ?_
   rw [<- Int.mul_assoc]
   exact ((Eqm.mod _ _).trans ih).mul (Eqm.refl _ _)
def Aub (M:List (List Int)) (m:Int):Int:=if AOn M && AZf m then det M.length (ent M) % m else 0
def Auc (M:List (List Int)) (m:Int):Int:=if AOn M then (if AZf m then 0 else 1) else 3
end Go.QF
namespace Go.Proofs.YtdkldlbgcfpglaaGreatDoor
open Go Go.QF
end Go.Proofs.YtdkldlbgcfpglaaGreatDoor
namespace Go.Proofs.YtdkldlbgcfpglaaGreatDoor
open Go Go.QF
theorem Aud {fuel:Nat} {a m:Int} (hm:0 < m) (Ae:m<=2147483647):AH4 fuel a m=some (a % m):=by
 unfold AH4;rw [if_pos Zh];have h1:=Int.tmod_lt_of_pos a hm
 have h2: -m < Int.tmod a m:=by
   have:=Int.tmod_lt_of_pos (-a) hm
   rw [Int.neg_tmod] at this;omega
 have h3:Int.tmod a m=a % m∨Int.tmod a m=a % m - m:=by
   rcases Int.lt_or_le a 0 with h | h
   · have e1:Int.tmod a m= -((-a) % m):=by rw [show a= -(-a) by omega,Int.neg_tmod,Int.tmod_eq_emod_of_nonneg Zh];simp
     rcases Int.lt_or_eq_of_le (Int.emod_nonneg (-a) (by omega:m≠0)) with h4 | h4
     · right
       rw [e1]
       have:=Int.emod_add_mul_ediv (-a) m
       have h5:a % m=m - (-a) % m:=by
         have h6:=Int.emod_lt_of_pos (-a) hm
         have e:a=(m - (-a) % m) + m * (-(-a / m) - 1):=by
           have e0:m * (-(-a / m) - 1)= -(m * (-a / m)) - m:=by rw [Int.mul_sub,Int.mul_neg,Int.mul_one]
           omega
         conv=>lhs;rw [e]
         rw [Int.add_mul_emod_self_left,Int.emod_eq_of_lt Zh Zh]
       omega
     · left
       rw [e1,<- h4]
       have:m ∣ -a:=Int.dvd_of_emod_eq_zero h4.symm
       have:m ∣ a:=(Int.dvd_neg).1 this
       rw [Int.emod_eq_zero_of_dvd this];rfl
   · left;exact Int.tmod_eq_emod_of_nonneg h
 have h4:=Int.emod_nonneg a (by omega:m≠0);have h5:=Int.emod_lt_of_pos a hm;rcases h3 with h3 | h3
 ·rw [if_neg Zh,h3]
 ·rw [if_pos Zh,wk Zh];congr 1;omega
theorem Ajb {fuel:Nat} {A:List (List Int)} (hf:21 < fuel):AC3 fuel A=some (AP4 A):=by
 apply ok_eq;unfold AC3;have hbad:∀ h: ¬ Valid A,AP4 A=false:=fun h=>(Al9 h).symm;refine Zq (Q:=fun ex=>match ex with | .inl e=>e=false/\AP4 A=false | .inr _=>1<=A.length/\A.length<=16) (AAj (fun h=>Zm ⟨rfl,hbad fun hv=>by have:=hv.1;omega⟩) fun h=>AAj (fun h2=>Zm ⟨rfl,hbad fun hv=>by have:=hv.2.1;omega⟩) fun h2=>Zm ⟨Zh,Zh⟩) fun ex hex=>?_
 cases ex with
 | inl e=>exact Zm (hex.1.trans hex.2.symm)
 | inr u=>
   dsimp only at hex ⊢
   obtain ⟨z0,Aa⟩:∃ z,A[0]? =some z:=⟨A[0]'Zh,List.getElem?_eq_getElem _⟩
   have hc:=AQy Aa
   refine Zq (AA9 (fun i (s:Int)=>s=(i:Int)/\ ∀ z∈A.take i,1<=z.length/\z.length<=16/\z.length=AM6 A) A.length (Q:=fun ex=>match ex with | .inl e=>e=false/\AP4 A=false | .inr _=>AP4 A=true) ⟨rfl,AA3⟩ Zh fun i s hi hI=>?_) fun ex Ac=>?_
   · obtain ⟨rfl,hI⟩:=hI
     unfold AKj
     refine AAj (fun h=>?_) (fun h=>Zm ?_)
     · have hi':i < A.length:=by omega
       obtain ⟨row,hrow⟩:∃ row,A[i]? =some row:=⟨A[i],List.getElem?_eq_getElem hi'⟩
       have bad: ¬ (1<=row.length/\row.length<=16/\row.length=AM6 A)->AP4 A=false:=fun hb=>hbad fun hv=>hb (by have:=hv.2.2.2.2 row (List.mem_of_getElem? hrow);have:=hv.2.2.1;have:=hv.2.2.2.1;omega)
       refine AAs hrow rfl (AAs Aa rfl (AAj (fun h1=>Zm ⟨rfl,bad Zh⟩) fun h1=>AAj (fun h2=>Zm ⟨rfl,bad Zh⟩) fun h2=>AAj (fun h3=>Zm ⟨rfl,bad Zh⟩) fun h3=>Zm ⟨hi',wk Zh,?_⟩))
       rw [List.take_add_one,hrow]
       intro z hz
       rcases List.mem_append.1 hz with hz | hz
       · exact hI z hz
       · rw [show z=row by simpa using hz];omega
     · obtain rfl:i=A.length:=by omega
       rw [List.take_length] at hI
       refine (Ama ⟨hex.1,hex.2,?_,?_,fun z hz=>(hI z hz).2.2⟩).symm
       · have:=hI z0 (List.mem_of_getElem? Aa);omega
       · have:=hI z0 (List.mem_of_getElem? Aa);omega
   · cases ex with
     | inl e=>exact Zm (Ac.1.trans Ac.2.symm)
     | inr u=>exact Zm Ac.symm
theorem Ak4 {fuel:Nat} {row:List Int} {m:Int} (hm:0 < m) (Aa:m<=2147483647) (hl:row.length<=100000000) (hf:row.length < fuel):iter (fun s=>AGu fuel m row s.1 s.2) fuel ([],0)=some (row.map (· % m)):=by
 apply ok_eq;refine AA9 (fun i s=>s=((row.take i).map (· % m),(i:Int))) row.length AA3 hf fun i s hi hI=>?_;subst hI;unfold AGu;dsimp only;refine AAj (fun h=>?_) (fun h=>Zm ?_)
 ·obtain ⟨x,hx⟩:∃ x,row[i]? =some x:=⟨row[i]'Zh,List.getElem?_eq_getElem _⟩;refine AAs hx rfl (Zq (ABb (Aud hm Aa)) fun y hy=>AB5 (by simp;omega) (Zm ⟨Zh,?_⟩));subst hy;rw [wk Zh,List.take_add_one,hx];simp
 ·obtain rfl:i=row.length:=by omega
  rw [List.take_length]
theorem Afu {fuel:Nat} {A:List (List Int)} {m:Int} (hm:0 < m) (Aa:m<=2147483647) (hl:A.length<=100000000) (hf:A.length < fuel) (hr:∀ z∈A,z.length<=100000000/\z.length < fuel):ACv fuel A m=some (APt A m):=by
 apply ok_eq;unfold ACv;refine Zq (AA9 (fun i s=>s=(APt (A.take i) m,(i:Int))) A.length (Q:=(· =APt A m)) (by simp [APt]) hf fun i s hi hI=>?_) fun x hx=>Zm hx;subst hI;unfold AJs;dsimp only;refine AAj (fun h=>?_) (fun h=>Zm ?_)
 ·have hi':i < A.length:=by omega
  obtain ⟨row,hrow⟩:∃ row,A[i]? =some row:=⟨A[i],List.getElem?_eq_getElem hi'⟩;have:=hr row (List.mem_of_getElem? hrow);refine AAs hrow rfl (Zq (ABb (Ak4 hm Aa this.1 this.2)) fun y hy=>AB5 (by simp [APt];omega) (Zm ⟨hi',?_⟩));subst hy;rw [wk Zh,List.take_add_one,hrow];simp [APt]
 ·obtain rfl:i=A.length:=by omega
  rw [List.take_length]
theorem Acs {fuel:Nat} {m:Int}:AD4 fuel m=some (AZf m):=by
 unfold AD4 AZf;split
 ·congr 1;simp;omega
 ·congr 1;symm;simp;omega
theorem Aon {fuel:Nat} {A:List (List Int)} (hf:21 < fuel):AGj fuel A=some (AOn A):=by
 apply ok_eq;unfold AGj;refine Zq (ABb (Ajb hf)) fun v hv=>?_;subst hv;refine AAj (fun h=>?_) (fun h=>Zm ?_)
 ·have hv:Valid A:=by simpa [AP4] using h
  obtain ⟨z0,Ab⟩:∃ z,A[0]? =some z:=⟨A[0]'(by have:=hv.1;omega),List.getElem?_eq_getElem _⟩;have hc:=AQy Ab;refine AAs Ab rfl (AAj (fun h2=>Zm ?_) (fun h2=>Zm ?_))
  ·unfold AOn;rw [Bool.eq_iff_iff];simp only [decide_eq_true_eq];constructor
   ·intro h3;exact ⟨hv,Zh,Zh⟩
   ·intro h3;have:=h3.2.2;omega
  ·symm;unfold AOn;rw [decide_eq_false_iff_not];intro h3;have:=h3.2.1;omega
 ·symm;unfold AOn;rw [decide_eq_false_iff_not];intro h3;exact h (by simpa [AP4] using h3.1)
theorem Ak5 {fuel:Nat} {d m:Int} (hm:0 < m) (Aa:m<=2147483647) (hd:d.natAbs < ADr):AF2 fuel d m=some (d % m):=by
 have h4:=Int.emod_nonneg d (by omega:m≠0);have h5:=Int.emod_lt_of_pos d hm;have hb:m.natAbs < ADr:=Nat.lt_of_lt_of_le (show m.natAbs < 2147483648 by omega) Zk;unfold AF2 AKs;rw [if_pos Zh];show (ADw fuel d m).bind _=_;unfold ADw AS4;rw [if_pos ⟨hd,hb,Zh⟩];show (AVs fuel (d % m)).bind _=_;unfold AVs;rw [if_pos Zh];rfl
theorem AZa {A:List (List Int)} {m:Int} (hm:0 < m) (Aa:m<=2147483647) (i j:Nat):(ent (APt A m) i j).natAbs<=m63:=by
 rw [Aig];have h4:=Int.emod_nonneg (ent A i j) (by omega:m≠0);have h5:=Int.emod_lt_of_pos (ent A i j) hm;unfold m63;omega
theorem Aa8 {A:List (List Int)} {m:Int} (h:AOn A=true):APt A m=tab A.length A.length (ent (APt A m))/\okM (APt A m)=true/\A.length<=8/\1<=A.length:=by
 have hs:Aab A:=by simpa [AOn] using h
 obtain ⟨hv,h1,h2⟩:=hs
 have hr:∀ z∈APt A m,z.length=A.length:=fun z hz=>by
   obtain ⟨y,hy,rfl⟩:=List.mem_map.1 hz
   rw [List.length_map,hv.2.2.2.2 y hy];omega
 refine ⟨?_,?_,h2,hv.1⟩
 ·have:=AYe hr;rwa [Aif] at this
 ·unfold okM;rw [decide_eq_true_eq,Aif];refine ⟨hv.1,Zh,fun z hz=>?_⟩;rw [hr z hz,Amf];exact ⟨hv.1,Zh,h1⟩
theorem Ahp {fuel:Nat} {A:List (List Int)} {m:Int} (hf:21 < fuel) (hs:AOn A=true) (hm:AZf m=true):AD2 fuel (APt A m)=some (det A.length (ent (APt A m))):=by
 have hm':2<=m/\m<=2147483647:=by simpa [AZf] using hm
 obtain ⟨ht,hok,h8,h1⟩:=Aa8 (m:=m) hs;unfold AD2
 have hr:∀ z∈APt A m,∀ x∈z,-9223372036854775808<=x/\x<=9223372036854775807:=fun z hz x hx=>by
   obtain ⟨y,hy,rfl⟩:=List.mem_map.1 hz
   obtain ⟨w,hw,rfl⟩:=List.mem_map.1 hx
   have h4:=Int.emod_nonneg w (by omega:m≠0)
   have h5:=Int.emod_lt_of_pos w (by omega:0 < m)
   omega
 rw [Asy hr Zh,hok];show (ABe fuel (APt A m)).bind _=_;have:=At4 (fuel:=fuel) (n:=A.length) (F:=ent (APt A m)) Zh (fun i j=>AZa Zh Zh i j) Zh;rw [<- ht] at this;rw [this];rfl
theorem Ark {A:List (List Int)} {m:Int} {n:Nat} (hm:0 < m) (Aa:m<=2147483647) (hn:n<=16):(det n (ent (APt A m))).natAbs < ADr:=Aob (Nat.le_trans (AXm fun i j=>AZa hm Aa i j) (Aoc hn).1)
theorem Afv {A:List (List Int)} {m:Int} {n:Nat}:det n (ent (APt A m)) % m=det n (ent A) % m:=AVy fun i j _ _=>by rw [Aig];exact Eqm.mod _ _
theorem Aoo {fuel:Nat} {A:List (List Int)} {m:Int} (hf:21 < fuel) (hl:A.length<=20/\ ∀ z∈A,z.length<=20):AGq fuel A m=some (Aub A m,Auc A m):=by
 apply ok_eq;unfold AGq Aub Auc;refine Zq (ABb (Aon hf)) fun v hv=>?_;subst hv
 cases hs:AOn A with
 | false=>exact Zm rfl
 | true=>
   refine AAj (fun h=>by cases h) fun _=>Zq (ABb Acs) fun v hv=>?_
   subst hv
   cases hm:AZf m with
   | false=>exact Zm rfl
   | true=>
     have hm':2<=m/\m<=2147483647:=by simpa [AZf] using hm
     refine AAj (fun h=>by cases h) fun _=>Zq (ABb (Afu Zh Zh Zh Zh fun z hz=>by have:=hl.2 z hz;omega)) fun R hR=>?_
     subst hR
     refine Zq (ABb (Ahp hf hs hm)) fun d hd=>?_
     subst hd
     obtain ⟨ht,hok,h8,h1⟩:=Aa8 (m:=m) hs
     refine Zq (ABb (Ak5 Zh Zh (Ark Zh Zh Zh))) fun x hx=>Zm ?_
     subst hx
     rw [Afv];rfl
end Go.Proofs.YtdkldlbgcfpglaaGreatDoor
namespace Go.QF
def Aue (n:Nat) (F:Z1) (i j:Nat):Int:=det n (ABv F i (dl j))
def Aa9 (n:Nat) (F:Z1) (i j:Nat):Int:=Aue n F j i
def tau (j c:Nat):Nat:=if c=j then j + 1 else if c=j + 1 then j else c
theorem Afw {n j:Nat} {F:Z1} (hj:j + 1 < n):det n (fun r c=>F r (tau j c))= -det n F:=by
 rw [<- AQb (fun r c=>F r (tau j c)),<- AQb F,<- APw (F:=trF F) (a:=j) (b:=j + 1) Zh hj Zh];refine AB0 fun c r hc hr=>?_;rw [AJv];show F r (tau j c)=if c=j + 1 then F r j else if c=j then F r (j + 1) else F r c;unfold tau;by_cases h1:c=j + 1
 ·subst h1;simp
 ·by_cases h2:c=j
  ·subst h2;simp
  ·simp [h1,h2]
theorem APj {f:Nat->Int} {n a:Nat} (ha:a < n) (h:∀ i,i < n->i≠a->f i=0):psum f n=f a:=by
 rw [ABa (g:=fun i=>if i=a then f a else 0) (fun k hk=>?_),AK7 ha (fun i hi=>if_neg hi),if_pos rfl];by_cases e:k=a
 ·subst e;rw [if_pos rfl]
 ·rw [if_neg e,h k hk e]
theorem Arl {n:Nat} {F:Z1} {i j:Nat} (hi:i < n) (hj:j < n):psum (fun k=>F i k * Aue n F j k) n=if i=j then det n F else 0:=by
 have h:=Aay (F:=F) hj (F i) dl n
 have e:det n (ABv F j fun q=>psum (fun k=>F i k * dl k q) n)=det n (ABv F j (F i)):=AB0 fun r c _ hc=>by
   rw [ABc,ABc]
   split
   · exact Ahh (F:=F) (i:=i) hc
   · rfl
 unfold Aue;rw [<- h,e];split
 ·subst_vars
  refine AB0 fun r c _ _=>?_;rw [ABc];split
  ·subst_vars;rfl
  ·rfl
 ·rename_i hij;refine AOc hi hj hij ?_;funext c;rw [ABc,if_neg hij,ABc,if_pos rfl]
theorem Ak6 {n:Nat} {F:Z1} {i j:Nat} (hi:i < n) (hj:j < n):psum (fun k=>F i k * Aa9 n F k j) n=det n F * dl i j:=by
 unfold Aa9;rw [Arl hi hj];unfold dl;split <;> simp
end Go.QF
namespace Go.Proofs.YtdkldlbgcfpglaaGreatDoor
open Go Go.QF
theorem Afx {fuel n r c:Nat} {F:Z1} {f g:Nat->Nat} (hr:r<=100) (hc:c<=100) (hf:100 < fuel) (hfn:∀ a,a < r->f a < n) (hgn:∀ a,a < c->g a < n):AEl fuel (tab n n F) (AB3 r fun a=>(f a:Int)) (AB3 c fun a=>(g a:Int))=some (tab r c fun a b=>F (f a) (g b)):=by
 apply ok_eq;unfold AEl;refine Zq (AA9 (fun i s=>s=(AB3 i fun a=>AB3 c fun b=>F (f a) (g b),(i:Int))) r (Q:=(· =tab r c fun a b=>F (f a) (g b))) rfl Zh fun i s hi hI=>?_) fun y hy=>Zm hy;subst hI;unfold AJl;dsimp only;rw [AA1];refine AAj (fun h=>?_) (fun h=>Zm ?_)
 ·have hi':i < r:=by omega
  refine AAs (AAq hi') rfl (Zq (AA9 (fun j s=>s=(AB3 j fun b=>F (f i) (g b),(j:Int))) c (Q:=(· =AB3 c fun b=>F (f i) (g b))) rfl Zh fun j s hj hJ=>?_) fun e he=>AB5 (by rw [AA1];omega) (Zm ⟨hi',?_⟩))
  ·subst hJ;unfold AJk;dsimp only;rw [AA1,AA1];refine AAj (fun h2=>?_) (fun h2=>Zm ?_)
   ·have hj':j < c:=by omega
    refine AAs (AAq hj') rfl (AAs (AAz (hfn i hi')) rfl (AAs (AAq (hgn j hj')) rfl (AB5 Zh (Zm ⟨hj',?_⟩))));rw [wk Zh,<- AOa];rfl
   ·obtain rfl:j=c:=by omega
    rfl
  ·subst he;rw [wk Zh,<- AOa];rfl
 ·obtain rfl:i=r:=by omega
  rfl
theorem Acu {fuel n:Nat} {F:Z1} (hn:1<=n) (Ad:n<=16) (hf:100 < fuel):ADn fuel (tab n n F)=some ((n:Int),true):=by
 apply ok_eq;unfold ADn;refine Zq (Q:=(· =((n:Int),(n:Int),true))) ?_ fun e he=>?_
 ·unfold AB4;rw [AAp];refine Zq (Q:=fun ex=>match ex with | .inl _=>False | .inr _=>True) (AAj (fun h=>by omega) fun h=>AAj (fun h2=>by omega) fun h2=>Zm trivial) fun ex hex=>?_
  cases ex with
  | inl e=>exact hex.elim
  | inr u=>
    dsimp only
    refine Zq (AA9 (fun i (s:Int)=>s=i) n (Q:=fun ex=>match ex with | .inl _=>False | .inr _=>True) rfl Zh fun i s hi hI=>?_) fun ex hex=>?_
    · subst hI
      unfold AFk
      rw [AAp]
      refine AAj (fun h=>AAs (AAz Zh) rfl ?_) fun h=>Zm trivial
      rw [AA1]
      refine AAj (fun h2=>by omega) fun h2=>AAj (fun h3=>by omega) fun h3=>AAs (n:=0) (AAz Zh) rfl (AAj (fun h4=>?_) fun h4=>Zm ⟨Zh,wk Zh⟩)
      rw [AA1] at h4;omega
    · cases ex with
      | inl e=>exact hex.elim
      | inr u=>exact AAs (n:=0) (AAz Zh) rfl (Zm (by rw [AA1]))
 ·subst he;dsimp only;exact AAj (fun h=>by cases h) fun _=>AAj (fun h=>absurd rfl h) fun _=>Zm rfl
end Go.Proofs.YtdkldlbgcfpglaaGreatDoor
namespace Go.QF
def AL7 (n:Nat) (A:Z1):Prop:= ∀ i j,i < n->j < n->A i j=A j i
def ANs (n:Nat) (A:Z1):Prop:= ∀ k,k<=n->0 < det k A
theorem AO3 {k i r n:Nat} (hk:k<=n) (hi:i < n):bro k i r < n:=by unfold bro;split <;> omega
theorem Ahq {n k:Nat} {A:Z1} (hs:AL7 n A) (hk:k<=n) {i j:Nat} (hi:i < n) (hj:j < n):Mn k A i j=Mn k A j i:=by
 unfold Mn;rw [<- AQb];refine AB0 fun r c _ _=>?_;exact hs _ _ (AO3 hk hi) (AO3 hk hj)
theorem Ahr {k:Nat} (A:Z1) {i:Nat} (j:Nat) (hi:i < k):Mn k A i j=0:=by
 unfold Mn;refine AOc (a:=i) (b:=k) Zh Zh Zh ?_;funext c;unfold bro;simp [hi]
def bil (n k:Nat) (A:Z1) (x y:Nat->Int):Int:=psum (fun i=>psum (fun j=>Mn k A i j * x i * y j) n) n
def lin (n k:Nat) (A:Z1) (x:Nat->Int):Int:=psum (fun j=>Mn k A k j * x j) n
theorem Ak7 (f g:Nat->Int) (n:Nat):psum (fun i=>psum (fun j=>f i * g j) n) n=psum f n * psum g n:=by
 rw [ABa (g:=fun i=>psum g n * f i) (fun i _=>by rw [AF1,Int.mul_comm]),AF1,Int.mul_comm]
theorem Awn {n k:Nat} {A:Z1} (hs:AL7 n A) (hk:k < n) (h0:det k A≠0) (x y:Nat->Int):det (k + 1) A * bil n k A x y=lin n k A x * lin n k A y + det k A * bil n (k + 1) A x y:=by
 unfold bil;rw [<- AF1,<- AF1];have e1:lin n k A x * lin n k A y=psum (fun i=>psum (fun j=>Mn k A k i * x i * (Mn k A k j * y j)) n) n:=(Ak7 (fun i=>Mn k A k i * x i) (fun j=>Mn k A k j * y j) n).symm;rw [e1,<- AMw];refine ABa fun i hi=>?_;rw [<- AF1,<- AF1,<- AMw];refine ABa fun j hj=>?_;have h:=AVw (k:=k) (A:=A) h0 i j;rw [AKu,Ahq hs Zh hi hk] at h;have h2:det (k + 1) A * Mn k A i j=Mn k A k i * Mn k A k j + det k A * Mn (k + 1) A i j:=by omega
 grind
theorem Arm (n:Nat) (A:Z1) (x y:Nat->Int):bil n n A x y=0:=by
 unfold bil;rw [ABa (g:=fun _=>0) fun i hi=>?_]
 ·exact AQw n
 ·rw [ABa (g:=fun _=>0) fun j _=>by rw [Ahr A j hi];simp];exact AQw n
theorem ARj {n:Nat} {A:Z1} (hs:AL7 n A) (hp:ANs n A) (x:Nat->Int):∀ d k,k + d=n->0<=bil n k A x x:=by
 intro d
 induction d with
 | zero=>
     intro k hk;obtain rfl:k=n:=by omega
     rw [Arm];exact Int.le_refl _
 | succ d ih=>
   intro k hk
   have h1:=ih (k + 1) Zh
   have h2:=hp k Zh
   have h3:=hp (k + 1) Zh
   have h4:=Awn hs (show k < n by omega) Zh x x
   have h5:0<=lin n k A x * lin n k A x:=by
     rcases Int.le_total 0 (lin n k A x) with h | h
     · exact Int.mul_nonneg h h
     · exact Int.mul_nonneg_of_nonpos_of_nonpos h h
   have h6:=Int.mul_nonneg (Int.le_of_lt h2) h1
   exact Int.nonneg_of_mul_nonneg_right Zh h3
theorem Adz {n k:Nat} {A:Z1} (a b:Int) (x y z:Nat->Int):bil n k A (fun i=>a * x i + b * y i) z=a * bil n k A x z + b * bil n k A y z:=by
 unfold bil;rw [<- AF1,<- AF1,<- AMw];refine ABa fun i _=>?_;rw [<- AF1,<- AF1,<- AMw];exact ABa fun j _=>by grind
theorem Ad0 {n k:Nat} {A:Z1} (hs:AL7 n A) (hk:k<=n) (x y:Nat->Int):bil n k A x y=bil n k A y x:=by
 unfold bil;rw [AYn];refine ABa fun j hj=>ABa fun i hi=>?_;rw [Ahq hs hk hi hj];grind
theorem Aop {n k:Nat} {A:Z1} (hs:AL7 n A) (hp:ANs n A) (hk:k<=n) (x y:Nat->Int):bil n k A x y * bil n k A x y<=bil n k A x x * bil n k A y y:=by
  obtain ⟨p,hpq⟩:∃ p,bil n k A x y=p:=⟨_,rfl⟩;obtain ⟨q,hq⟩:∃ q,bil n k A x x=q:=⟨_,rfl⟩;obtain ⟨r,hr⟩:∃ r,bil n k A y y=r:=⟨_,rfl⟩;have hyx:bil n k A y x=p:=by rw [Ad0 hs hk];exact hpq
  have key:∀ a b:Int,0<=a * (a * q + b * p) + b * (a * p + b * r):=fun a b=>by
    have h:=ARj hs hp (fun i=>a * x i + b * y i) (n - k) k Zh;rw [Adz,Ad0 hs hk x (fun i=>a * x i + b * y i),Adz,Ad0 hs hk y (fun i=>a * x i + b * y i),Adz,hpq,hq,hr,hyx] at h;exact h
  rw [hpq,hq,hr];have hq0:0<=q:=hq ▸ ARj hs hp x (n - k) k Zh
  rcases Int.lt_or_eq_of_le hq0 with h | h
  · have h1:=key p (-q);have e:p * (p * q + -q * p) + -q * (p * p + -q * r)=q * (q * r - p * p):=by grind
    rw [e] at h1;have:=Int.nonneg_of_mul_nonneg_right h1 h;omega
  · subst h;have h1:=key (-(r + 1)) p;have h2:=key 1 0;have e: -(r + 1) * (-(r + 1) * 0 + p * p) + p * (-(r + 1) * p + p * r)= -((r + 2) * (p * p)):=by grind
    rw [e] at h1;have hr0:0<=r:=hr ▸ ARj hs hp y (n - k) k Zh
    have hpp:0<=p * p:=by
      rcases Int.le_total 0 p with h | h
      · exact Int.mul_nonneg h h
      · exact Int.mul_nonneg_of_nonpos_of_nonpos h h
    have:0<=r * (p * p):=Int.mul_nonneg hr0 hpp;have e2:(r + 2) * (p * p)=r * (p * p) + 2 * (p * p):=by grind
    rw [Int.zero_mul];omega
theorem AXs {n k:Nat} {A:Z1} {i j:Nat} (hi:i < n) (hj:j < n):bil n k A (dl i) (dl j)=Mn k A i j:=by
 unfold bil;rw [APj hi (fun a ha hne=>?_),APj hj (fun b hb hne=>?_)]
 ·simp [dl]
 ·unfold dl;rw [if_neg (fun h:j=b=>hne h.symm)];simp
 ·rw [ABa (g:=fun _=>0) fun b _=>by unfold dl;rw [if_neg (fun h:i=a=>hne h.symm)];simp];exact AQw n
theorem AYu {n k:Nat} {A:Z1} (hs:AL7 n A) (hp:ANs n A) (hk:k<=n) {i j:Nat} (hi:i < n) (hj:j < n):Mn k A i j * Mn k A i j<=Mn k A i i * Mn k A j j:=by
 have:=Aop hs hp hk (dl i) (dl j);rwa [AXs hi hj,AXs hi hi,AXs hj hj] at this
theorem AYv {n k:Nat} {A:Z1} (hs:AL7 n A) (hp:ANs n A) (hk:k<=n) {i:Nat} (hi:i < n):0<=Mn k A i i:=by
 have:=ARj hs hp (dl i) (n - k) k Zh;rwa [AXs hi hi] at this
theorem Ad1 {n k:Nat} {A:Z1} (hs:AL7 n A) (hp:ANs n A) (hk:k < n) {i:Nat} (hi:i < n):det (k + 1) A * Mn k A i i=Mn k A i k * Mn k A i k + det k A * Mn (k + 1) A i i:=by
 have h:=AVw (k:=k) (A:=A) (by have:=hp k Zh;omega) i i;rw [AKu,<- Ahq hs Zh hi hk] at h;omega
theorem Aoq {n:Nat} {A:Z1} (hs:AL7 n A) (hp:ANs n A) {i:Nat} (hi:i < n):∀ k,k<=n->Mn k A i i<=det k A * A i i:=by
 intro k
 induction k with
 | zero=>intro _;rw [AOy];simp [det]
 | succ k ih=>
   intro hk
   have h1:=ih Zh
   have h2:=Ad1 hs hp (show k < n by omega) hi
   have h3:0<=Mn k A i k * Mn k A i k:=by
     rcases Int.le_total 0 (Mn k A i k) with h | h
     · exact Int.mul_nonneg h h
     · exact Int.mul_nonneg_of_nonpos_of_nonpos h h
   have h4:=hp k Zh
   have h5:=hp (k + 1) Zh
   have h6:det (k + 1) A * Mn k A i i<=det (k + 1) A * (det k A * A i i):=Int.mul_le_mul_of_nonneg_left h1 Zh
   have h7:det k A * Mn (k + 1) A i i<=det k A * (det (k + 1) A * A i i):=by
     have e:det (k + 1) A * (det k A * A i i)=det k A * (det (k + 1) A * A i i):=by grind
     omega
   exact Int.le_of_mul_le_mul_left h7 h4
theorem Aor {n:Nat} {A:Z1} (hs:AL7 n A) (hp:ANs n A) {B:Int} (hB:1<=B) (hA:∀ i,i < n->A i i<=B):∀ k,k<=n->det k A<=B ^ k:=by
  intro k;induction k with
  | zero=>intro _;simp [det]
  | succ k ih=>
    intro hk;have h1:=ih Zh;have h2:=Aoq hs hp (show k < n by omega) k Zh;rw [AKu] at h2;have h3:=hp k Zh;have h4:det k A * A k k<=det k A * B:=Int.mul_le_mul_of_nonneg_left (hA k Zh) Zh;have h5:det k A * B<=B ^ k * B:=Int.mul_le_mul_of_nonneg_right h1 Zh;rw [Int.pow_succ];omega
theorem Arn {n:Nat} {A:Z1} (hs:AL7 n A) (hp:ANs n A) (x:Nat->Int) {k:Nat} (hk:k < n):x k * x k<=Aa9 n A k k * bil n 0 A x x:=by
  have hd:=hp n (Nat.le_refl _)
  have hB:∀ y z:Nat->Int,bil n 0 A y z=psum (fun i=>y i * psum (fun j=>A i j * z j) n) n:=fun y z=>by
    unfold bil;refine ABa fun i _=>?_;rw [<- AF1];exact ABa fun j _=>by rw [AOy];grind
  have h1:∀ y:Nat->Int,bil n 0 A y (fun j=>Aa9 n A j k)=det n A * y k:=fun y=>by
    rw [hB,ABa (g:=fun i=>y i * (det n A * dl i k)) (fun i hi=>by rw [Ak6 hi hk])];rw [APj hk (fun i _ hne=>by unfold dl;rw [if_neg hne];simp)];simp [dl,Int.mul_comm]
  have h2:=Aop hs hp (Nat.zero_le n) x (fun j=>Aa9 n A j k);rw [h1 x,h1 (fun j=>Aa9 n A j k)] at h2;have e1:det n A * x k * (det n A * x k)=det n A * (det n A * (x k * x k)):=by grind
  have e2:bil n 0 A x x * (det n A * Aa9 n A k k)=det n A * (Aa9 n A k k * bil n 0 A x x):=by grind
  rw [e1,e2] at h2;have h3:=Int.le_of_mul_le_mul_left h2 hd
  have h4:0<=x k * x k:=by
    rcases Int.le_total 0 (x k) with h | h
    · exact Int.mul_nonneg h h
    · exact Int.mul_nonneg_of_nonpos_of_nonpos h h
  have h5:1 * (x k * x k)<=det n A * (x k * x k):=Int.mul_le_mul_of_nonneg_right Zh h4;omega
def AYw (A:Z1) (i j:Nat) (c:Int):Z1:=ABv A i fun s=>A i s + c * A j s
def Aos (A:Z1) (i j:Nat) (c:Int):Z1:=trF (AYw (trF A) i j c)
def AXt (A:Z1) (i j:Nat) (c:Int):Z1:=Aos (AYw A i j c) i j c
def swA (A:Z1) (j:Nat):Z1:=fun r s=>A (tau j r) (tau j s)
theorem Aou (l:Nat) (A:Z1) (r s:Nat):Mn l (trF A) s r=Mn l A r s:=by
 unfold Mn;rw [<- AQb];rfl
theorem Afy {A:Z1} {i j k:Nat} {c:Int} (hij:j < i):det k (AYw A i j c)=det k A:=by
 rcases Nat.lt_or_ge i k with h | h
 ·exact ALk h Zh Zh c
 ·refine AB0 fun r s hr _=>?_;unfold AYw;rw [ABc,if_neg Zh]
theorem Aov {A:Z1} {i j k:Nat} {c:Int} (hij:j < i):det k (Aos A i j c)=det k A:=by
 unfold Aos;rw [AQb,Afy hij,AQb]
theorem APq {A:Z1} {i j k:Nat} {c:Int} (hij:j < i):det k (AXt A i j c)=det k A:=by
 unfold AXt;rw [Aov hij,Afy hij]
theorem Ad2 {A:Z1} {i j l r s:Nat} {c:Int} (hij:j < i) (hr:l<=r):Mn l (AYw A i j c) r s=Mn l A r s + if l<=i/\r=i then c * Mn l A j s else 0:=by
 rcases Nat.lt_or_ge i l with h | h
 ·rw [if_neg Zh,Int.add_zero];unfold Mn;have e:=ALk (n:=l + 1) (F:=fun a b=>A (bro l r a) (bro l s b)) (a:=i) (b:=j) Zh Zh Zh c;rw [<- e];refine AB0 fun a b ha _=>?_;rw [ABc];unfold AYw;rw [ABc];have hbi:bro l r i=i:=by unfold bro;rw [if_pos h]
  have hbj:bro l r j=j:=by unfold bro;rw [if_pos Zh]
  by_cases ea:a=i
  ·subst ea;rw [hbi,if_pos rfl,if_pos rfl,hbj]
  ·rw [if_neg ea,if_neg];unfold bro;split <;> omega
 ·by_cases er:r=i
  ·subst er;rw [if_pos ⟨h,rfl⟩];unfold Mn;have e:=AT5 (n:=l + 1) (F:=fun a b=>A (bro l r a) (bro l s b)) (r:=l) (fun b=>A r (bro l s b)) (fun b=>A j (bro l s b)) 1 c Zh
   have e1:det (l + 1) (fun a b=>AYw A r j c (bro l r a) (bro l s b))=det (l + 1) (ABv (fun a b=>A (bro l r a) (bro l s b)) l fun q=>1 * A r (bro l s q) + c * A j (bro l s q)):=by
     refine AB0 fun a b ha _=>?_
     rw [ABc]
     unfold AYw
     rw [ABc]
     by_cases ea:a=l
     · subst ea
       rw [show bro a r a=r by unfold bro;rw [if_neg Zh],if_pos rfl,if_pos rfl,Int.one_mul]
     · rw [if_neg ea,if_neg]
       unfold bro;rw [if_pos Zh];omega
   have e2:det (l + 1) (ABv (fun a b=>A (bro l r a) (bro l s b)) l fun b=>A r (bro l s b))=det (l + 1) (fun a b=>A (bro l r a) (bro l s b)):=by
     refine AB0 fun a b ha _=>?_
     rw [ABc]
     by_cases ea:a=l
     · subst ea;rw [if_pos rfl,show bro a r a=r by unfold bro;rw [if_neg Zh]]
     · rw [if_neg ea]
   have e3:det (l + 1) (ABv (fun a b=>A (bro l r a) (bro l s b)) l fun b=>A j (bro l s b))=det (l + 1) (fun a b=>A (bro l j a) (bro l s b)):=by
     refine AB0 fun a b ha _=>?_
     rw [ABc]
     by_cases ea:a=l
     · subst ea;rw [if_pos rfl,show bro a j a=j by unfold bro;rw [if_neg Zh]]
     · rw [if_neg ea,show bro l r a=a by unfold bro;rw [if_pos Zh],show bro l j a=a by unfold bro;rw [if_pos Zh]]
   rw [e1,e,e2,e3,Int.one_mul]
  ·rw [if_neg (fun h=>er h.2),Int.add_zero];unfold Mn;refine AB0 fun a b ha _=>?_;unfold AYw;rw [ABc,if_neg];unfold bro;split <;> omega
theorem Aro {A:Z1} {i j l r s:Nat} {c:Int} (hij:j < i) (hs:l<=s):Mn l (Aos A i j c) r s=Mn l A r s + if l<=i/\s=i then c * Mn l A r j else 0:=by
 unfold Aos;rw [Aou,Ad2 hij hs,Aou,Aou]
theorem Aow {A:Z1} {i j l r s:Nat} {c:Int} (hij:j < i) (hr:l<=r) (hs:l<=s):Mn l (AXt A i j c) r s=Mn l A r s + (if l<=i/\r=i then c * Mn l A j s else 0) + if l<=i/\s=i then c * (Mn l A r j + if l<=i/\r=i then c * Mn l A j j else 0) else 0:=by
  unfold AXt;rw [Aro hij hs,Ad2 hij hr,Ad2 hij hr]
theorem AZw (A:Z1) (i j:Nat) (c:Int) (r s:Nat):AXt A i j c r s=if s=i then (if r=i then A i i + c * A j i else A r i) + c * (if r=i then A i j + c * A j j else A r j) else if r=i then A i s + c * A j s else A r s:=by
 show ABv (trF (AYw A i j c)) i (fun q=>trF (AYw A i j c) i q + c * trF (AYw A i j c) j q) s r=_;rw [ABc];unfold trF AYw;by_cases h:s=i
 ·rw [if_pos h,if_pos h,ABc,ABc]
 ·rw [if_neg h,if_neg h,ABc]
theorem Arp {n:Nat} {A:Z1} {i j:Nat} {c:Int} (hi:i < n) (hj:j < n) (h:AL7 n A):AL7 n (AXt A i j c):=by
 intro r s hr hs;rw [AZw,AZw];by_cases h1:r=i
 ·by_cases h2:s=i
  ·rw [h1,h2]
  ·rw [if_neg h2,if_pos h1,if_pos h1,if_neg h2,if_neg h2,h i s hi hs,h j s hj hs]
 ·by_cases h2:s=i
  ·rw [if_pos h2,if_neg h1,if_neg h1,if_neg h1,if_pos h2,h r i hr hi,h r j hr hj]
  ·rw [if_neg h2,if_neg h1,if_neg h1,if_neg h2,h r s hr hs]
theorem Ajc {A:Z1} {j k:Nat} (hk:k≠j + 1):det k (swA A j)=det k A:=by
 rcases Nat.lt_or_ge (j + 1) k with h | h
 ·have e1:det k (swA A j)= -det k (fun r s=>A (tau j r) s):=Afw (F:=fun r s=>A (tau j r) s) h
  have e2:det k (fun r s=>A (tau j r) s)= -det k A:=by
    rw [<- AQb (fun r s=>A (tau j r) s),<- AQb A]
    exact Afw (F:=trF A) h
  rw [e1,e2];omega
 ·refine AB0 fun r s hr hs=>?_;unfold swA tau;rw [if_neg Zh,if_neg Zh,if_neg Zh,if_neg Zh]
theorem Afz {A:Z1} {j:Nat}:det (j + 1) (swA A j)=Mn j A (j + 1) (j + 1):=by
 unfold Mn;refine AB0 fun r s hr hs=>?_
 have e:∀ r,r < j + 1->tau j r=bro j (j + 1) r:=fun r hr=>by
   unfold tau bro
   by_cases h:r < j
   · rw [if_neg Zh,if_neg Zh,if_pos h]
   · rw [if_pos Zh,if_neg h]
 unfold swA;rw [e r hr,e s hs]
theorem Aug {n j:Nat} {A:Z1} (hj:j + 1 < n) (h:AL7 n A):AL7 n (swA A j):=fun r s hr hs=>by
  have e:∀ r,r < n->tau j r < n:=fun r hr=>by unfold tau;split <;> (try split) <;> omega
  exact h _ _ (e r hr) (e s hs)
theorem sq_nonneg (x:Int):0<=x * x:=by
 rcases Int.le_total 0 x with h | h
 ·exact Int.mul_nonneg h h
 ·exact Int.mul_nonneg_of_nonpos_of_nonpos h h
theorem Af0 {x y:Int} (hy:0<=y) (h:x * x<=y * y): -y<=x/\x<=y:=by
 constructor
 ·rcases Int.lt_or_le x (-y) with h1 | h1
  ·have h2:0 < (-x - y) * (-x + y):=Int.mul_pos Zh Zh;have e:(-x - y) * (-x + y)=x * x - y * y:=by grind
   omega
  ·exact h1
 ·rcases Int.lt_or_le y x with h1 | h1
  ·have h2:0 < (x - y) * (x + y):=Int.mul_pos Zh Zh;have e:(x - y) * (x + y)=x * x - y * y:=by grind
   omega
  ·exact h1
theorem AVg {x y:Int} (h1: -y<=x) (h2:x<=y):x * x<=y * y:=by
 have h3:0<=(y - x) * (y + x):=Int.mul_nonneg Zh Zh;have e:(y - x) * (y + x)=y * y - x * x:=by grind
 omega
def SzF (A:Z1) (i j:Nat):Prop:= -(det (j + 1) A)<=2 * Mn j A i j/\2 * Mn j A i j<=det (j + 1) A
def LvF (A:Z1) (j:Nat):Prop:=3 * (det (j + 1) A * det (j + 1) A)<=4 * (det j A * det (j + 2) A + Mn j A (j + 1) j * Mn j A (j + 1) j)
def Ahs (A:Z1) (i:Nat) (K:Int):Prop:= ∀ l,l < i-> -(K * det (l + 1) A)<=Mn l A i l/\Mn l A i l<=K * det (l + 1) A
theorem Acv {n i:Nat} {A:Z1} {Dm p q:Int} (hs:AL7 n A) (hp:ANs n A) (hi:i < n) (hD:∀ k,k<=n->det k A<=Dm) (p0:0<=p) (q0:0<=q) (hl:∀ l,l < i->q * (Mn l A i l * Mn l A i l)<=p * (det (l + 1) A * det (l + 1) A)):∀ d l:Nat,l + d=i->q * Mn l A i i<=(q + d * p) * (Dm * det l A):=by
  have hD0:1<=Dm:=by
    have:=hD 0 Zh;simpa [det] using this
  have hDl:∀ l k,l<=n->k<=n->det k A<=Dm * det l A:=fun l k h1 h2=>by
    have:=hp l h1;have h3:=hD k h2;have h4:Dm * 1<=Dm * det l A:=Int.mul_le_mul_of_nonneg_left Zh Zh;omega
  intro d;induction d with
  | zero=>
    intro l h;obtain rfl:l=i:=by omega
    rw [AKu];have h1:=Int.mul_le_mul_of_nonneg_left (hDl l (l + 1) Zh Zh) q0;simpa using h1
  | succ d ih=>
    intro l h;have h1:=ih (l + 1) Zh;have h2:=Ad1 hs hp (show l < n by omega) hi;have h3:=hl l Zh;have h4:=hp l Zh;have h5:=hp (l + 1) Zh;have h6:=Int.mul_le_mul_of_nonneg_left h1 (Int.le_of_lt h4)
    have h7:det (l + 1) A * (q * Mn l A i i)=q * (Mn l A i l * Mn l A i l) + det l A * (q * Mn (l + 1) A i i):=by
      have e1:det (l + 1) A * (q * Mn l A i i)=q * (det (l + 1) A * Mn l A i i):=by grind
      rw [e1,h2];grind
    have h8:=Int.mul_le_mul_of_nonneg_left (hDl l (l + 1) Zh Zh) p0;have h9:=Int.mul_le_mul_of_nonneg_left h8 (Int.le_of_lt h5);have e2:det (l + 1) A * (p * det (l + 1) A)=p * (det (l + 1) A * det (l + 1) A):=by grind
    have h10:det (l + 1) A * (q * Mn l A i i)<=det (l + 1) A * ((q + ((d + 1:Nat):Int) * p) * (Dm * det l A)):=by
      have e3:det (l + 1) A * ((q + ((d + 1:Nat):Int) * p) * (Dm * det l A))=det (l + 1) A * (p * (Dm * det l A)) + det l A * ((q + (d:Int) * p) * (Dm * det (l + 1) A)):=by
        rw [Int.natCast_add,Int.natCast_one];grind
      rw [e3];omega
    exact Int.le_of_mul_le_mul_left h10 h5
theorem Af1 {n i:Nat} {A:Z1} {Dm:Int} (hn:n<=8) (hs:AL7 n A) (hp:ANs n A) (hi:i < n) (hD:∀ k,k<=n->det k A<=Dm) (hz:∀ l,l < i->SzF A i l):A i i<=3 * Dm:=by
 have h:=Acv hs hp hi hD (p:=1) (q:=4) Zh Zh (fun l hl=>by
   have:=AVg (hz l hl).1 (hz l hl).2
   have e:2 * Mn l A i l * (2 * Mn l A i l)=4 * (Mn l A i l * Mn l A i l):=by grind
   omega) i 0 Zh
 rw [AOy] at h
 have Aa:1<=Dm:=by
   have:=hD 0 Zh;simpa [det] using this
 have h2:(4 + (i:Int) * 1) * (Dm * det 0 A)<=12 * Dm:=by
   have:(4 + (i:Int) * 1) * Dm<=12 * Dm:=Int.mul_le_mul_of_nonneg_right Zh Zh
   simpa [det] using this
 omega
theorem Ak8 {n i:Nat} {A:Z1} {Dm:Int} (hs:AL7 n A) (hp:ANs n A) (hi:i < n) (hD:∀ k,k<=n->det k A<=Dm) (hA:A i i<=3 * Dm):Ahs A i (2 * Dm):=by
 intro l hl
 have Ad:1<=Dm:=by
   have:=hD 0 Zh;simpa [det] using this
 have h1:=AYu hs hp (show l<=n by omega) hi (show l < n by omega);rw [AKu] at h1;have h2:=Aoq hs hp hi l Zh;have h3:=hp l Zh;have h4:=hp (l + 1) Zh
 have h5:det l A * A i i<=Dm * (3 * Dm):=by
   have a1:=Int.mul_le_mul_of_nonneg_left hA (Int.le_of_lt h3)
   have a2:=Int.mul_le_mul_of_nonneg_right (hD l Zh) (show (0:Int)<=3 * Dm by omega)
   omega
 have h6:Mn l A i i * det (l + 1) A<=Dm * (3 * Dm) * det (l + 1) A:=Int.mul_le_mul_of_nonneg_right Zh Zh;have h7:Dm * (3 * Dm) * (det (l + 1) A * 1)<=Dm * (3 * Dm) * (det (l + 1) A * det (l + 1) A):=Int.mul_le_mul_of_nonneg_left (Int.mul_le_mul_of_nonneg_left Zh Zh) (Int.mul_nonneg Zh Zh);have h8:0<=Dm * Dm * (det (l + 1) A * det (l + 1) A):=Int.mul_nonneg (sq_nonneg _) (sq_nonneg _);have h9:2 * Dm * det (l + 1) A * (2 * Dm * det (l + 1) A)=Dm * (3 * Dm) * (det (l + 1) A * det (l + 1) A) + Dm * Dm * (det (l + 1) A * det (l + 1) A):=by grind
 rw [Int.mul_one] at h7;exact Af0 (Int.mul_nonneg Zh Zh) Zh
theorem Af2 {A:Z1} {i:Nat} {K K':Int} (hp:∀ l,l<=i->0 < det l A) (hK:K<=K') (h:Ahs A i K):Ahs A i K':=fun l hl=>by
  have h1:=h l hl
  have h2:=hp (l + 1) Zh
  have h3:=Int.mul_le_mul_of_nonneg_right hK (Int.le_of_lt h2)
  omega
theorem Af3 {a d:Int} (hd:0 < d): -d<=2 * (a + -((2 * a + d) / (2 * d)) * d)/\2 * (a + -((2 * a + d) / (2 * d)) * d)<=d:=by
  have h1:=Int.mul_ediv_add_emod (2 * a + d) (2 * d);have h2:=Int.emod_nonneg (2 * a + d) (show 2 * d≠0 by omega);have h3:=Int.emod_lt_of_pos (2 * a + d) (show 0 < 2 * d by omega);generalize (2 * a + d) / (2 * d)=q at *
  generalize (2 * a + d) % (2 * d)=r at *
  have e:2 * (a + -q * d)=2 * a - 2 * d * q:=by grind
  omega
theorem Arq {a d K:Int} (hd:0 < d) (h1: -(K * d)<=a) (h2:a<=K * d): -K<= -((2 * a + d) / (2 * d))/\ -((2 * a + d) / (2 * d))<=K:=by
 have h:=Af3 (a:=a) hd;generalize -((2 * a + d) / (2 * d))=c at *;constructor
 ·rcases Int.lt_or_le c (-K) with h3 | h3
  ·have h4:(c + K + 1) * d<=0:=by
     have:=Int.mul_nonneg (show 0<= -(c + K + 1) by omega) (Int.le_of_lt hd)
     have e: -(c + K + 1) * d= -((c + K + 1) * d):=by grind
     omega
   have e:(c + K + 1) * d=c * d + K * d + d:=by grind
   omega
  ·exact h3
 ·rcases Int.lt_or_le K c with h3 | h3
  ·have h4:=Int.mul_nonneg (show 0<=c - K - 1 by omega) (Int.le_of_lt hd);have e:(c - K - 1) * d=c * d - K * d - d:=by grind
   omega
  ·exact h3
theorem Ajd {A:Z1} {i j l:Nat} {c:Int} (hij:j < i) (hl:l < i):Mn l (AXt A i j c) i l=Mn l A i l + c * Mn l A j l:=by
 rw [Aow hij Zh (Nat.le_refl _),if_pos ⟨Zh,rfl⟩,if_neg (fun h:l<=i/\l=i=>by omega)];omega
theorem Acw {A:Z1} {i j l r:Nat} {c:Int} (hij:j < i) (hr:r < i) (hl:l<=r):Mn l (AXt A i j c) r l=Mn l A r l:=by
 rw [Aow hij hl (Nat.le_refl _),if_neg (fun h:l<=i/\r=i=>by omega),if_neg (fun h:l<=i/\l=i=>by omega)];omega
theorem Aox {A:Z1} {i j:Nat} {K c:Int} (hij:j < i) (hp:∀ l,l<=i->0 < det l A) (hK:0<=K) (h:Ahs A i K) (hz:∀ l,l < j->SzF A j l) (Ab: -K<=c) (Ac:c<=K):Ahs (AXt A i j c) i (2 * K):=by
 intro l hl;rw [APq hij,Ajd hij hl];have h1:=h l hl;have h2:=hp (l + 1) Zh
 have hm: -(det (l + 1) A)<=Mn l A j l/\Mn l A j l<=det (l + 1) A:=by
   rcases Nat.lt_trichotomy l j with h3 | h3 | h3
   · have:=hz l h3;unfold SzF at this;omega
   · subst h3;rw [AKu];omega
   · rw [Ahr A l h3];omega
 have h3: -(K * det (l + 1) A)<=c * Mn l A j l/\c * Mn l A j l<=K * det (l + 1) A:=by
   refine Af0 (Int.mul_nonneg hK (Int.le_of_lt h2)) ?_
   have a1:=AVg Ab Ac
   have a2:=AVg hm.1 hm.2
   have a3:c * c * (Mn l A j l * Mn l A j l)<=K * K * (det (l + 1) A * det (l + 1) A):=Int.mul_le_mul a1 a2 (sq_nonneg _) (sq_nonneg _)
   have e1:c * Mn l A j l * (c * Mn l A j l)=c * c * (Mn l A j l * Mn l A j l):=by grind
   have e2:K * det (l + 1) A * (K * det (l + 1) A)=K * K * (det (l + 1) A * det (l + 1) A):=by grind
   omega
 have e:2 * K * det (l + 1) A=K * det (l + 1) A + K * det (l + 1) A:=by grind
 omega
theorem Aoy {A:Z1} {i j k:Nat} {c:Int} (hk:k≠i):AXt A i j c k k=A k k:=by
 rw [AZw,if_neg hk,if_neg hk]
structure Ad3 (n:Nat) (Dm:Int) (A:Z1) (i t:Nat):Prop where
  sym:AL7 n A
  pos:ANs n A
  dm:∀ k,k<=n->det k A<=Dm
  hi:i < n
  ht:t<=i
  rows:∀ k,k < n->k≠i->A k k<=3 * Dm
  row:t=0->A i i<=3 * Dm
  lamb:Ahs A i (2 ^ t * (2 * Dm))
  pre:∀ r l,l < r->r < i->SzF A r l
  prei:∀ l,l < i->i<=l + t->SzF A i l
  lov:∀ r,r + 1 < i->LvF A r
theorem Aba {n:Nat} {Dm:Int} {A:Z1} (hn:0 < n) (hs:AL7 n A) (hp:ANs n A) (hD:∀ k,k<=n->det k A<=Dm) (hr:∀ k,k < n->A k k<=3 * Dm):Ad3 n Dm A 0 0:=
  ⟨hs,hp,hD,hn,Nat.le_refl _,fun k hk _=>hr k hk,fun _=>hr 0 hn,fun l hl=>by omega,fun r l h1 h2=>by omega,fun l hl=>by omega,fun r hr=>by omega⟩
theorem Aoz {n i t:Nat} {Dm:Int} {A:Z1} (h:Ad3 n Dm A i t):1<=Dm:=by
 have:=h.dm 0 Zh;simpa [det] using this
theorem AVz {n i t:Nat} {Dm:Int} {A:Z1} (hn:n<=8) (h:Ad3 n Dm A i t) (hz:∀ l,l < i->SzF A i l):∀ k,k < n->A k k<=3 * Dm:=fun k hk=>by
  by_cases e:k=i
  · subst e;exact Af1 hn h.sym h.pos h.hi h.dm hz
  · exact h.rows k hk e
theorem AXu (t:Nat):(0:Int) < 2 ^ t:=Int.pow_pos Zh
theorem AXv {s t:Nat} (h:s<=t):(2:Int) ^ s<=2 ^ t:=by
 have:=Nat.pow_le_pow_right (show 0 < 2 by omega) h;have e:∀ k:Nat,(2:Int) ^ k=((2 ^ k:Nat):Int):=fun k=>by simp
 rw [e,e];omega
theorem Ak9 {n i t i' j:Nat} {Dm:Int} {A:Z1} (hn:n<=8) (h:Ad3 n Dm A i t) (hi':i' < n) (hj:j < i') (hbad: ¬ SzF A i' j)
    (hz:∀ r l,l < r->r < i'->SzF A r l) (hzi:∀ l,l < i'->j < l->SzF A i' l) (hl:∀ r,r + 1 < i'->LvF A r):
    Ad3 n Dm (AXt A i' j (-((2 * Mn j A i' j + det (j + 1) A) / (2 * det (j + 1) A)))) i' (i' - j)/\i * 16 + t < i' * 16 + (i' - j):=by
  have hD1:=Aoz h
  have hlt:i < i'∨i=i'/\t < i' - j:=by
    rcases Nat.lt_trichotomy i i' with h1 | h1 | h1
    · exact .inl h1
    · refine .inr ⟨h1,?_⟩
      rcases Nat.lt_or_ge t (i' - j) with h2 | h2
      · exact h2
      · subst h1;exact absurd (h.prei j hj Zh) hbad
    · exact absurd (h.pre i' j hj h1) hbad
  have hrows:∀ k,k < n->k≠i'->A k k<=3 * Dm:=fun k hk hne=>by
    rcases hlt with h1 | h1
    · exact AVz hn h (fun l hl=>hz i l hl h1) k hk
    · exact h.rows k hk Zh
  have hK0:0<=2 ^ (i' - j - 1) * (2 * Dm):=Int.mul_nonneg (Int.le_of_lt (AXu _)) Zh;have hp':∀ l,l<=i'->0 < det l A:=fun l hl=>h.pos l Zh
  have hlam:Ahs A i' (2 ^ (i' - j - 1) * (2 * Dm)):=by
    rcases hlt with h1 | h1
    · refine Af2 hp' ?_ (Ak8 h.sym h.pos hi' h.dm (AVz hn h (fun l hl=>hz i l hl h1) i' hi'));have:=Int.mul_le_mul_of_nonneg_right (AXv (Nat.zero_le (i' - j - 1))) (show (0:Int)<=2 * Dm by omega);simpa using this
    · obtain ⟨rfl,h1⟩:=h1;exact Af2 hp' (Int.mul_le_mul_of_nonneg_right (AXv Zh) Zh) h.lamb
  have hd:=hp' (j + 1) Zh;obtain ⟨c1,c2⟩:=Arq hd (hlam j hj).1 (hlam j hj).2;have hrem:=Af3 (a:=Mn j A i' j) hd;generalize hc: -((2 * Mn j A i' j + det (j + 1) A) / (2 * det (j + 1) A))=c at *
  refine ⟨⟨Arp hi' Zh h.sym,fun k hk=>by rw [APq hj];exact h.pos k hk,fun k hk=>by rw [APq hj];exact h.dm k hk,hi',Zh,fun k hk hne=>by rw [Aoy hne];exact hrows k hk hne,fun h0=>by omega,?_,fun r l h1 h2=>?_,fun l h1 h2=>?_,fun r hr=>?_⟩,by have:=h.ht;have:=h.hi;omega⟩
  · have:=Aox hj hp' hK0 hlam (fun l hl=>hz j l hl hj) c1 c2
    have e:2 * (2 ^ (i' - j - 1) * (2 * Dm))=2 ^ (i' - j) * (2 * Dm):=by
      rw [show i' - j=i' - j - 1 + 1 by omega,Int.pow_succ];simp only [Nat.add_sub_cancel];grind
    rwa [e] at this
  · unfold SzF;rw [APq hj,Acw hj h2 Zh];exact hz r l h1 h2
  · unfold SzF;rw [APq hj,Ajd hj h1]
    rcases Nat.lt_or_ge j l with h3 | h3
    · rw [Ahr A l h3,Int.mul_zero,Int.add_zero];exact hzi l h1 h3
    · obtain rfl:l=j:=by omega
      rw [AKu];exact hrem
  · unfold LvF;rw [APq hj,APq hj,APq hj,Acw hj Zh Zh];exact hl r hr
def Af4 (n:Nat) (A:Z1):Int:=psum (fun k=>det k A) (n + 1)
theorem Arr {f g:Nat->Int} {n k:Nat} (hk:k < n) (hne:∀ l,l≠k->f l=g l) (h:f k < g k):psum f n < psum g n:=by
 induction n with
 | zero=>omega
 | succ n ih=>
   simp only [psum]
   rcases Nat.lt_or_ge k n with h1 | h1
   · have:=ih h1;rw [hne n Zh];omega
   · obtain rfl:k=n:=by omega
     rw [ABa (g:=g) fun i hi=>hne i Zh];omega
theorem Ala {n i t j:Nat} {Dm:Int} {A:Z1} (hn:n<=8) (h:Ad3 n Dm A i t) (hj:j + 1 < n) (hbad: ¬ LvF A j)
    (hz:∀ r l,l < r->r<=j + 1->SzF A r l) (hl:∀ r,r < j->LvF A r):
    Ad3 n Dm (swA A j) 0 0/\Af4 n (swA A j) < Af4 n A:=by
  have hij:i<=j + 1:=by
    rcases Nat.lt_or_ge (j + 1) i with h1 | h1
    · exact absurd (h.lov j h1) hbad
    · exact h1
  have hrest:=AVz hn h (fun l hl=>hz i l hl hij);have h1:=Ad1 h.sym h.pos (show j < n by omega) hj;have p0:=h.pos j Zh;have p1:=h.pos (j + 1) Zh;have p2:=h.pos (j + 2) Zh;rw [show Mn (j + 1) A (j + 1) (j + 1)=det (j + 2) A from AKu _ _] at h1
  have hlt:Mn j A (j + 1) (j + 1) < det (j + 1) A:=by
    unfold LvF at hbad
    have h2:det (j + 1) A * (4 * Mn j A (j + 1) (j + 1)) < det (j + 1) A * (3 * det (j + 1) A):=by
      have e1:det (j + 1) A * (4 * Mn j A (j + 1) (j + 1))=4 * (det (j + 1) A * Mn j A (j + 1) (j + 1)):=by grind
      have e2:det (j + 1) A * (3 * det (j + 1) A)=3 * (det (j + 1) A * det (j + 1) A):=by grind
      omega
    have:=Int.lt_of_mul_lt_mul_left h2 (Int.le_of_lt p1);omega
  have hpos:0 < Mn j A (j + 1) (j + 1):=by
    have h3:=sq_nonneg (Mn j A (j + 1) j);have h4:=Int.mul_pos p0 p2;exact Int.pos_of_mul_pos_right (a:=det (j + 1) A) Zh p1
  have hdet:∀ k,det k (swA A j)=if k=j + 1 then Mn j A (j + 1) (j + 1) else det k A:=fun k=>by
    by_cases e:k=j + 1
    · subst e;rw [if_pos rfl,Afz]
    · rw [if_neg e,Ajc e]
  refine ⟨Aba Zh (Aug hj h.sym) (fun k hk=>?_) (fun k hk=>?_) (fun k hk=>?_),?_⟩
  · rw [hdet];split
    · exact hpos
    · exact h.pos k hk
  · rw [hdet];split
    · have:=h.dm (j + 1) Zh;omega
    · exact h.dm k hk
  · have e:tau j k < n:=by unfold tau;split <;> (try split) <;> omega
    exact hrest _ e
  · exact Arr (k:=j + 1) Zh (fun l hl=>by rw [hdet,if_neg hl]) (by rw [hdet,if_pos rfl];exact hlt)
end Go.QF
namespace Go.Proofs.YtdkldlbgcfpglaaGreatDoor
open Go Go.QF
theorem Ad4 (k m:Nat):AB3 k (fun a=>((a:Nat):Int)) ++ [((m:Nat):Int)]=AB3 (k + 1) fun a=>((bro k m a:Nat):Int):=by
 rw [<- AOa,ABn (g:=fun a=>((bro k m a:Nat):Int)) fun a ha=>by unfold bro;rw [if_pos ha]];unfold bro;rw [if_neg Zh]
theorem Aje {fuel k m:Nat} (hk:k<=100) (hf:100 < fuel):AFa fuel (k:Int) (m:Int)=some (AB3 (k + 1) fun a=>((bro k m a:Nat):Int)):=by
 apply ok_eq;unfold AFa;refine Zq (AA9 (fun i s=>s=(AB3 i (fun a=>((a:Nat):Int)),((i:Nat):Int))/\i<=k) k (Q:=(· =AB3 k fun a=>((a:Nat):Int))) ⟨rfl,Nat.zero_le _⟩ Zh fun i s hi hI=>?_) fun e he=>?_
 ·obtain ⟨rfl,hik⟩:=hI;unfold AKg;dsimp only;refine AAj (fun h=>AB5 (by rw [AA1];omega) (Zm ⟨Zh,?_,Zh⟩)) (fun h=>Zm ?_)
  ·rw [wk Zh,AOa i fun a=>((a:Nat):Int)];simp
  ·obtain rfl:i=k:=by omega
   rfl
 ·subst he;refine AB5 (by rw [AA1];omega) (Zm ?_);exact Ad4 k m
theorem Abb {fuel n i j:Nat} {F:Z1} (hn:n<=8) (hi:i < n) (hj:j < n) (hb:∀ i j,i < n->j < n->(F i j).natAbs<=AGr) (hf:100 < fuel):ADo fuel (tab n n F) (i:Int) (j:Int)=some (Mn j F i j):=by
 apply ok_eq;unfold ADo;refine Zq (AA9 (fun q s=>s=(AB3 q (fun a=>((a:Nat):Int)),AB3 q (fun a=>((a:Nat):Int)),((q:Nat):Int))/\q<=j) j (Q:=(· =(AB3 j (fun a=>((a:Nat):Int)),AB3 j fun a=>((a:Nat):Int)))) ⟨rfl,Nat.zero_le _⟩ Zh fun q s hq hI=>?_) fun e he=>?_
 ·obtain ⟨rfl,hqj⟩:=hI;unfold AJo;dsimp only;refine AAj (fun h=>AB5 (by rw [AA1];omega) (AB5 (by rw [AA1];omega) (Zm ⟨Zh,?_,Zh⟩))) (fun h=>Zm ?_)
  ·rw [wk Zh,AOa q fun a=>((a:Nat):Int)];simp
  ·obtain rfl:q=j:=by omega
   rfl
 ·subst he;dsimp only;refine AB5 (by rw [AA1];omega) (AB5 (by rw [AA1];omega) ?_);rw [Ad4,Ad4];refine Zq (ABb (Afx (n:=n) Zh Zh hf (fun a ha=>AO3 Zh hi) (fun a ha=>AO3 Zh hj))) fun x hx=>?_;subst hx;refine Zq (ABb (AXo Zh (fun a b ha Aa=>hb _ _ (AO3 Zh hi) (AO3 Zh hj)) Zh)) fun y hy=>Zm hy
theorem AV0 {fuel n k:Nat} {F:Z1} (hk:k<=n) (hn:n<=8):ACa fuel (AB3 n fun a=>det (a + 1) F) (k:Int)=some (det k F):=by
 apply ok_eq;unfold ACa;refine AAj (fun h=>?_) (fun h=>?_)
 ·obtain rfl:k=0:=by omega
  exact ⟨1,rfl,by simp [det]⟩
 ·obtain ⟨q,rfl⟩:∃ q,k=q + 1:=⟨k - 1,Zh⟩;refine AAs (n:=q) (AAq Zh) (by rw [wk Zh];omega) (Zm rfl)
theorem AYx {fuel n:Nat} {F:Z1} (Aa:1<=n) (hn:n<=8) (hb:∀ i j,i < n->j < n->(F i j).natAbs<=AGr) (hf:100 < fuel):AC8 fuel (tab n n F)=some (AB3 n fun a=>det (a + 1) F,true):=by
 apply ok_eq;unfold AC8;refine Zq (ABb (Acu Aa Zh hf)) fun x hx=>?_;subst hx;dsimp only;refine AAj (fun h=>absurd h Zk) (fun _=>Zq (AA9 (fun k s=>s=(AB3 k (fun a=>det (a + 1) F),((k:Nat):Int))/\k<=n) n (Q:=(· =AB3 n fun a=>det (a + 1) F)) ⟨rfl,Nat.zero_le _⟩ Zh fun k s hk hI=>?_) fun e he=>Zm (by rw [he]));obtain ⟨rfl,hkn⟩:=hI;unfold AIz;dsimp only;refine AAj (fun h=>?_) (fun h=>Zm ?_)
 ·have hk':k < n:=by omega
  refine Zq (ABb (Aje Zh hf)) fun r hr=>?_;subst hr;refine Zq (ABb (Aje Zh hf)) fun c hc=>?_;subst hc;refine Zq (ABb (Afx (n:=n) Zh Zh hf (fun a ha=>AO3 Zh hk') (fun a ha=>AO3 Zh hk'))) fun x hx=>?_;subst hx;refine Zq (ABb (AXo Zh (fun a b ha Ab=>hb _ _ (AO3 Zh hk') (AO3 Zh hk')) Zh)) fun y hy=>?_;subst hy;refine AB5 (by rw [AA1];omega) (Zm ⟨Zh,?_,Zh⟩);rw [show (det (k + 1) fun a b=>F (bro k k a) (bro k k b))=det (k + 1) F from AKu k F,wk Zh,AOa k fun a=>det (a + 1) F];simp
 ·obtain rfl:k=n:=by omega
  rfl
theorem Ad5 (a b:Int):AS5 a b<=0↔a<=b:=by unfold AS5;split <;> (try split) <;> omega
theorem Abc {n j i l:Nat} {F:Z1} (hn:n<=8) (hi:i < n) (hl:l < n) (hj:j < n) (hb:∀ i j,i < n->j < n->(F i j).natAbs<=AGr):(Mn j F i l).natAbs<=dBd AGr 9:=by
 have e:Mn j F i l=Mn j (fun a b=>if a < n/\b < n then F a b else 0) i l:=by
   unfold Mn
   refine AB0 fun a b ha Aa=>?_
   dsimp only
   rw [if_pos ⟨AO3 Zh hi,AO3 Zh hl⟩]
 rw [e];refine Nat.le_trans (Ahl (m:=AGr) (fun a b=>?_) i l) (AOz Zk Zh);split
 ·next h=>exact hb a b h.1 h.2
 ·exact Nat.zero_le _
theorem AVh {n k:Nat} {F:Z1} (hn:n<=8) (hk:k<=n) (hb:∀ i j,i < n->j < n->(F i j).natAbs<=AGr):(det k F).natAbs<=dBd AGr 9:=by
 rcases Nat.eq_zero_or_pos k with h | h
 ·subst h;simp only [det];decide
 ·obtain ⟨q,rfl⟩:∃ q,k=q + 1:=⟨k - 1,Zh⟩;rw [<- AKu q F];exact Abc hn Zh Zh Zh hb
theorem Ajf {fuel n i j:Nat} {F:Z1} (hn:n<=8) (hi:i < n) (hj:j < n) (hb:∀ i j,i < n->j < n->(F i j).natAbs<=AGr) (hf:100 < fuel):AFb fuel (tab n n F) (AB3 n fun a=>det (a + 1) F) (i:Int) (j:Int)=some (decide (2 * ((Mn j F i j).natAbs:Int)<=det (j + 1) F)):=by
 apply ok_eq;unfold AFb;refine Zq (Q:=(· =2)) ⟨2,if_pos Zh,rfl⟩ fun two h2=>?_;subst h2;refine Zq (ABb (Abb hn hi hj hb hf)) fun x hx=>?_;subst hx;refine Zq (ABb (a:=((Mn j F i j).natAbs:Int)) rfl) fun y hy=>?_;subst hy;refine Zq (ABb (AYq Ai8 (show (2:Int).natAbs<=dBd AGr (8 + 1) by decide) (by rw [Int.natAbs_natCast];exact Abc hn hi hj hj hb))) fun w hw=>?_;subst hw;rw [wk Zh];refine Zq (ABb (AV0 (k:=j + 1) Zh hn)) fun m hm=>?_;subst hm;refine Zq (ABb (a:=AS5 (2 * ((Mn j F i j).natAbs:Int)) (det (j + 1) F)) rfl) fun c hc=>Zm ?_;subst hc;exact decide_eq_decide.2 (Ad5 _ _)
theorem AZx {F:Z1} {i j:Nat}:2 * ((Mn j F i j).natAbs:Int)<=det (j + 1) F↔SzF F i j:=by
 unfold SzF;omega
theorem psum_abs {f g:Nat->Int} {D:Nat}:∀ (n:Nat),(∀ a,a < n->(f a).natAbs<=D/\(g a).natAbs<=D)->(psum (fun a=>f a * g a) n).natAbs<=n * (D * D)
  | 0,_=>by simp [psum]
  | n + 1,h=>by
    have h1:=psum_abs n fun a ha=>h a Zh
    have h2:=Nat.mul_le_mul (h n Zh).1 (h n Zh).2
    rw [<- Int.natAbs_mul] at h2
    have e:(n + 1) * (D * D)=n * (D * D) + D * D:=by rw [Nat.add_mul,Nat.one_mul]
    simp only [psum]
    omega
theorem Av4 {fuel n D:Nat} {f g:Nat->Int} (hn:n<=16) (hD:16 * (D * D) < ADr) (hb:∀ a,a < n->(f a).natAbs<=D/\(g a).natAbs<=D) (hf:100 < fuel):AHy fuel (AB3 n f) (AB3 n g)=some (psum (fun a=>f a * g a) n):=by
 apply ok_eq;unfold AHy;refine Zq (AA9 (fun k s=>s=(((k:Nat):Int),psum (fun a=>f a * g a) k)/\k<=n) n (Q:=(· =psum (fun a=>f a * g a) n)) ⟨rfl,Nat.zero_le _⟩ Zh fun k s hk hI=>?_) fun e he=>Zm he;obtain ⟨rfl,hkn⟩:=hI;unfold ALq;dsimp only;rw [AA1];refine AAj (fun h=>?_) (fun h=>Zm ?_)
 ·have hk':k < n:=by omega
  have h1:=psum_abs k fun a ha=>hb a Zh;have h2:=Nat.mul_le_mul (hb k hk').1 (hb k hk').2;have h3:k * (D * D)<=16 * (D * D):=Nat.mul_le_mul_right _ Zh;have h4:1 * (D * D)<=16 * (D * D):=Nat.mul_le_mul_right _ Zh;refine AAs (AAq hk') rfl (AAs (AAq hk') rfl (Zq (Q:=(· =f k * g k)) ⟨_,if_pos Zh,rfl⟩ fun x hx=>?_));subst hx;refine Zq (Q:=(· =psum (fun a=>f a * g a) k + f k * g k)) ⟨_,if_pos ⟨Zh,by rw [Int.natAbs_mul];omega⟩,rfl⟩ fun y hy=>Zm ⟨Zh,?_,Zh⟩;subst hy;rw [wk Zh];simp [psum]
 ·obtain rfl:k=n:=by omega
  rfl
theorem Abd {fuel n:Nat} {F:Z1} (hn:1<=n) (Ad:n<=16) (hf:100 < fuel):AB4 fuel (tab n n F)=some ((n:Int),(n:Int),true):=by
 apply ok_eq;unfold AB4;rw [AAp];refine Zq (Q:=fun ex=>match ex with | .inl _=>False | .inr _=>True) (AAj (fun h=>by omega) fun h=>AAj (fun h2=>by omega) fun h2=>Zm trivial) fun ex hex=>?_
 cases ex with
 | inl e=>exact hex.elim
 | inr u=>
   dsimp only
   refine Zq (AA9 (fun i (s:Int)=>s=i) n (Q:=fun ex=>match ex with | .inl _=>False | .inr _=>True) rfl Zh fun i s hi hI=>?_) fun ex hex=>?_
   · subst hI
     unfold AFk
     rw [AAp]
     refine AAj (fun h=>AAs (AAz Zh) rfl ?_) fun h=>Zm trivial
     rw [AA1]
     refine AAj (fun h2=>by omega) fun h2=>AAj (fun h3=>by omega) fun h3=>AAs (n:=0) (AAz Zh) rfl (AAj (fun h4=>?_) fun h4=>Zm ⟨Zh,wk Zh⟩)
     rw [AA1] at h4;omega
   · cases ex with
     | inl e=>exact hex.elim
     | inr u=>exact AAs (n:=0) (AAz Zh) rfl (Zm (by rw [AA1]))
theorem AO4 {r c:Nat} {F G:Z1} (h:∀ i j,i < r->j < c->F i j=G i j):tab r c F=tab r c G:=by
 rw [APv,APv];exact ABn fun i hi=>ABn fun j hj=>h i j hi hj
def trS (F:Z1) (i j r c:Nat):Int:=if c < i∨c=i/\r < j then F c r else 0
theorem Ajg {fuel n:Nat} {F:Z1} (hn:1<=n) (Ad:n<=16) (hf:100 < fuel):ADg fuel (tab n n F)=some (tab n n (trF F),true):=by
 apply ok_eq;unfold ADg;refine Zq (ABb (Abd hn Ad hf)) fun x hx=>?_;subst hx;dsimp only;refine AAj (fun h=>absurd h Zk) fun _=>Zq (ABb (AZr Zh Zh Zh)) fun O hO=>?_;subst hO;refine Zq (AA9 (fun i s=>s=(((i:Nat):Int),tab n n (trS F i 0))/\i<=n) n (Q:=(· =tab n n (trF F))) ⟨?_,Nat.zero_le _⟩ Zh fun i s hi hI=>?_) fun e he=>Zm (by rw [he])
 ·rw [AE1 n (0:Int),AE1];refine congrArg (Prod.mk (0:Int)) ?_;rw [APv];exact ABn fun r _=>ABn fun c _=>by unfold trS;rw [if_neg Zh]
 ·obtain ⟨rfl,hin⟩:=hI;unfold AHt;dsimp only;rw [AAp];refine AAj (fun h=>?_) (fun h=>Zm ?_)
  ·have hi':i < n:=by omega
   refine AAs (AAz hi') rfl (Zq (AA9 (fun j s=>s=(((j:Nat):Int),tab n n (trS F i j))/\j<=n) n (Q:=(· =tab n n (trS F (i + 1) 0))) ⟨rfl,Nat.zero_le _⟩ Zh fun j s hj hJ=>?_) fun e he=>Zm ⟨Zh,by rw [wk Zh,he];simp,Zh⟩);obtain ⟨rfl,hjn⟩:=hJ;unfold AHs;dsimp only;rw [AA1];refine AAj (fun h2=>?_) (fun h2=>Zm ?_)
   ·have hj':j < n:=by omega
    refine AAs (AAz hj') rfl (AAs (AAz hi') rfl (AAs (AAq hj') rfl (Zq (ABb (a:=F i j) rfl) fun y hy=>AAs (AAq hi') rfl (Zm ⟨Zh,?_,Zh⟩))));subst hy;rw [wk Zh,AWr];refine Prod.ext (by dsimp only;omega) (AO4 fun r c hr hc=>?_);rw [ABc];unfold trS;by_cases h3:r=j
    ·rw [if_pos h3];by_cases h4:c=i
     ·rw [if_pos h4,if_pos Zh,h3,h4]
     ·rw [if_neg h4];by_cases h5:c < i
      ·rw [if_pos Zh,if_pos Zh,h3]
      ·rw [if_neg Zh,if_neg Zh]
    ·rw [if_neg h3];by_cases h5:c < i∨c=i/\r < j
     ·rw [if_pos h5,if_pos Zh]
     ·rw [if_neg h5,if_neg Zh]
   ·refine AO4 fun r c hr hc=>?_;unfold trS;by_cases h5:c < i + 1
    ·rw [if_pos Zh,if_pos Zh]
    ·rw [if_neg Zh,if_neg Zh]
  ·refine AO4 fun r c hr hc=>?_;unfold trS trF;rw [if_pos Zh]
def muS (H:Z1) (i j r c:Nat):Int:=if r < i∨r=i/\c < j then H r c else 0
theorem Ao0 {fuel n D:Nat} {F G:Z1} (hn:1<=n) (Ab:n<=16) (hD:16 * (D * D) < ADr) (hF:∀ i j,i < n->j < n->(F i j).natAbs<=D) (hG:∀ i j,i < n->j < n->(G i j).natAbs<=D) (hf:100 < fuel):AHz fuel (tab n n F) (tab n n G)=some (tab n n (ACq n F G),true):=by
 apply ok_eq;unfold AHz;refine Zq (ABb (Abd hn Ab hf)) fun x hx=>?_;subst hx;dsimp only;refine Zq (ABb (Ajg hn Ab hf)) fun x hx=>?_;subst hx;dsimp only;rw [AAp,AAp];refine Zq (Q:=fun ex=>match ex with | .inl _=>False | .inr _=>True) (AAj (fun h=>absurd h Zk) fun _=>AAj (fun h=>absurd h Zk) fun _=>AAj (fun h=>absurd rfl h) fun _=>Zm trivial) fun ex hex=>?_
 cases ex with
 | inl e=>exact hex.elim
 | inr u=>
   dsimp only
   rw [AAp]
   refine Zq (ABb (AZr Zh Zh Zh)) fun O hO=>?_
   subst hO
   refine Zq (AA9 (fun i s=>s=(((i:Nat):Int),tab n n (muS (ACq n F G) i 0))/\i<=n) n (Q:=(· =tab n n (ACq n F G))) ⟨?_,Nat.zero_le _⟩ Zh fun i s hi hI=>?_) fun e he=>Zm (by rw [he])
   · rw [AE1 n (0:Int),AE1]
     refine congrArg (Prod.mk (0:Int)) ?_
     rw [APv]
     exact ABn fun r _=>ABn fun c _=>by unfold muS;rw [if_neg Zh]
   · obtain ⟨rfl,hin⟩:=hI
     unfold ALs
     dsimp only
     rw [AAp]
     refine AAj (fun h=>?_) (fun h=>Zm ?_)
     · have hi':i < n:=by omega
       refine Zq (AA9 (fun j s=>s=(((j:Nat):Int),tab n n (muS (ACq n F G) i j))/\j<=n) n (Q:=(· =tab n n (muS (ACq n F G) (i + 1) 0))) ⟨rfl,Nat.zero_le _⟩ Zh fun j s hj hJ=>?_) fun e he=>Zm ⟨Zh,by rw [wk Zh,he];simp,Zh⟩
       obtain ⟨rfl,hjn⟩:=hJ
       unfold ALr
       dsimp only
       rw [AAp]
       refine AAj (fun h2=>?_) (fun h2=>Zm ?_)
       · have hj':j < n:=by omega
         refine AAs (AAz hi') rfl (AAs (AAz hi') rfl (AAs (AAz hj') rfl (Zq (ABb (Av4 (D:=D) Ab hD (fun a ha=>⟨hF i a hi' ha,hG a j ha hj'⟩) hf)) fun y hy=>AAs (AAq hj') rfl (Zm ⟨Zh,?_,Zh⟩))))
         subst hy
         rw [wk Zh,AWr]
         refine Prod.ext (by dsimp only;omega) (AO4 fun r c hr hc=>?_)
         rw [ABc]
         unfold muS
         by_cases h3:r=i
         · rw [if_pos h3]
           by_cases h4:c=j
           · rw [if_pos h4,if_pos Zh,h3,h4];rfl
           · rw [if_neg h4]
             by_cases h5:c < j
             · rw [if_pos Zh,if_pos Zh,h3]
             · rw [if_neg Zh,if_neg Zh]
         · rw [if_neg h3]
           by_cases h5:r < i
           · rw [if_pos Zh,if_pos Zh]
           · rw [if_neg Zh,if_neg Zh]
       · refine AO4 fun r c hr hc=>?_
         unfold muS
         by_cases h5:r < i + 1
         · rw [if_pos Zh,if_pos Zh]
         · rw [if_neg Zh,if_neg Zh]
     · refine AO4 fun r c hr hc=>?_
       unfold muS
       rw [if_pos Zh]
theorem Ajh (a b:Int):AS5 a b=0↔a=b:=by unfold AS5;split <;> (try split) <;> omega
theorem As1 {fuel n:Nat} {F:Z1} (Ae:n<=16) (hf:100 < fuel):Ok (ADh fuel (tab n n F)) fun r=>r=true↔AL7 n F:=by
 unfold ADh;refine Zq (AA9 (fun i s=>s=((i:Nat):Int)/\i<=n/\ ∀ a b,b < a->a < i->F a b=F b a) n (Q:=fun ex=>match ex with | .inl e=>e=false/\¬ AL7 n F | .inr _=>AL7 n F) ⟨rfl,Nat.zero_le _,fun a b h1 h2=>by omega⟩ Zh fun i s hi hI=>?_) fun ex hex=>?_
 ·obtain ⟨rfl,hin,hs⟩:=hI;unfold AHv;rw [AAp];refine AAj (fun h=>?_) (fun h=>Zm ?_)
  ·have hi':i < n:=by omega
   refine Zq (AA9 (fun j s=>s=((j:Nat):Int)/\j<=i/\ ∀ b,b < j->F i b=F b i) i (Q:=fun ex=>match ex with | .inl e=>e=false/\¬ AL7 n F | .inr _=> ∀ b,b < i->F i b=F b i) ⟨rfl,Nat.zero_le _,fun b h1=>by omega⟩ Zh fun j s hj hJ=>?_) fun ex hex=>?_
   ·obtain ⟨rfl,hji,hb⟩:=hJ;unfold AHu;refine AAj (fun h2=>?_) (fun h2=>Zm ?_)
    ·have hj':j < i:=by omega
     refine AAs (AAz hi') rfl (AAs (AAq Zh) rfl (AAs (AAz Zh) rfl (AAs (AAq hi') rfl (Zq (ABb (a:=AS5 (F i j) (F j i)) rfl) fun c hc=>?_))));subst hc;refine AAj (fun h3=>Zm ⟨rfl,fun h4=>h3 ((Ajh _ _).2 (h4 i j hi' Zh))⟩) (fun h3=>Zm ⟨Zh,by rw [wk Zh];simp,Zh,fun b Af=>?_⟩);rcases Nat.lt_or_ge b j with h4 | h4
     ·exact hb b h4
     ·obtain rfl:b=j:=by omega
      exact (Ajh _ _).1 (Classical.not_not.1 h3)
    ·obtain rfl:j=i:=by omega
     exact hb
   ·cases ex with
    | inl e=>exact Zm hex
    | inr u=>exact Zm ⟨Zh,by rw [wk Zh];simp,Zh,fun a b h1 h2=>by
        rcases Nat.lt_or_ge a i with h4 | h4
        · exact hs a b h1 h4
        · obtain rfl:a=i:=by omega
          exact hex b h1⟩
  ·obtain rfl:i=n:=by omega
   intro a b ha hb;rcases Nat.lt_trichotomy a b with h1 | h1 | h1
   ·exact (hs b a h1 hb).symm
   ·rw [h1]
   ·exact hs a b h1 ha
 ·cases ex with
  | inl e=>obtain ⟨rfl,h⟩:=hex;exact Zm ⟨fun h1=>Bool.noConfusion h1,fun h1=>absurd h1 h⟩
  | inr u=>exact Zm ⟨fun _=>hex,fun _=>rfl⟩
theorem Ars {fuel n D:Nat} {F G:Z1} (hn:1<=n) (Aa:n<=16) (hD:16 * (D * D) < ADr) (hF:∀ i j,i < n->j < n->(F i j).natAbs<=D) (hG:∀ i j,i < n->j < n->(G i j).natAbs<=D) (hH:∀ i j,i < n->j < n->(ACq n (trF G) F i j).natAbs<=D) (hf:100 < fuel):ADi fuel (tab n n F) (tab n n G)=some (tab n n (ACq n (ACq n (trF G) F) G)):=by
 apply ok_eq;unfold ADi;refine Zq (ABb (Ajg hn Aa hf)) fun x hx=>?_;subst hx;dsimp only
 have pr:∀ {F G:Z1},(∀ i j,i < n->j < n->(F i j).natAbs<=D)->(∀ i j,i < n->j < n->(G i j).natAbs<=D)->Ok (AB9 fuel (tab n n F) (tab n n G)) (· =tab n n (ACq n F G)):=fun {F G} hF hG=>by
   unfold AB9
   refine Zq (ABb (Ao0 hn Aa hD hF hG hf)) fun x hx=>?_
   subst hx
   exact Zm rfl
 refine Zq (pr (fun i j hi hj=>hG j i hj hi) hF) fun x hx=>?_;subst hx;refine Zq (pr hH hG) fun y hy=>Zm hy
theorem Aji (a:Int):AF6 a<=0↔a<=0:=by unfold AF6;split <;> (try split) <;> omega
theorem Av5 {fuel n:Nat} {F:Z1} (Ae:1<=n) (hn:n<=8) (hb:∀ i j,i < n->j < n->(F i j).natAbs<=AGr) (hf:100 < fuel):Ok (AFl fuel (tab n n F)) fun r=>r=true↔AL7 n F/\ANs n F:=by
 unfold AFl;refine Zq (ABb (AYx Ae hn hb hf)) fun x hx=>?_;subst hx;dsimp only;refine Zq (Q:=fun ex=>match ex with | .inl e=>e=false/\¬ AL7 n F | .inr _=>AL7 n F) (AAj (fun h=>absurd h Zk) fun _=>Zq (As1 Zh hf) fun r hr=>?_) fun ex hex=>?_
 ·refine AAj (fun h=>Zm ⟨rfl,fun h1=>?_⟩) (fun h=>Zm (hr.1 ?_))
  ·rw [hr.2 h1] at h;exact absurd h Zk
  ·cases r
   ·exact absurd rfl h
   ·rfl
 ·cases ex with
  | inl e=>obtain ⟨rfl,h⟩:=hex;exact Zm ⟨fun h1=>Bool.noConfusion h1,fun h1=>absurd h1.1 h⟩
  | inr u=>
    dsimp only at hex ⊢
    have h0:∀ k,k<=0->0 < det k F:=fun k hk=>by
      obtain rfl:k=0:=by omega
      simp [det]
    refine Zq (AA9 (fun i s=>s=((i:Nat):Int)/\i<=n/\ ∀ k,k<=i->0 < det k F) n (Q:=fun ex=>match ex with | .inl e=>e=false/\¬ ANs n F | .inr _=>ANs n F) ⟨rfl,Nat.zero_le _,h0⟩ Zh fun i s hi hI=>?_) fun ex Ad=>?_
    · obtain ⟨rfl,hin,hp⟩:=hI
      unfold AId
      rw [AA1]
      refine AAj (fun h=>?_) (fun h=>Zm ?_)
      · have hi':i < n:=by omega
        refine AAs (AAq hi') rfl (Zq (ABb (a:=AF6 (det (i + 1) F)) rfl) fun c hc=>?_)
        subst hc
        refine AAj (fun h3=>Zm ⟨rfl,fun h4=>?_⟩) (fun h3=>Zm ⟨Zh,by rw [wk Zh];simp,Zh,fun k hk=>?_⟩)
        · have:=h4 (i + 1) Zh;have:=(Aji _).1 h3;omega
        · rcases Nat.lt_or_ge k (i + 1) with h4 | h4
          · exact hp k Zh
          · obtain rfl:k=i + 1:=by omega
            rw [Aji] at h3;omega
      · obtain rfl:i=n:=by omega
        exact hp
    · cases ex with
      | inl e=>obtain ⟨rfl,h⟩:=Ad;exact Zm ⟨fun h1=>Bool.noConfusion h1,fun h1=>absurd h1.2 h⟩
      | inr u=>exact Zm ⟨fun _=>⟨hex,Ad⟩,fun _=>rfl⟩
theorem AWu {fuel n:Nat} {F:Z1} (Ac:1<=n) (hn:n<=8) (hb:∀ i j,i < n->j < n->(F i j).natAbs<=AGr) (hf:100 < fuel):Ok (ACj fuel (tab n n F)) fun r=>r=0↔AL7 n F/\ANs n F:=by
 unfold ACj;refine Zq (ABb (Acu Ac Zh hf)) fun x hx=>?_;subst hx;dsimp only;refine AAj (fun h=>absurd h Zk) fun _=>AAj (fun h=>by omega) fun _=>Zq (As1 Zh hf) fun r hr=>AAj (fun h=>Zm ⟨fun h1=>by omega,fun h1=>?_⟩) fun h=>Zq (Av5 Ac hn hb hf) fun q hq=>AAj (fun h2=>Zm ⟨fun h1=>by omega,fun h1=>?_⟩) fun h2=>Zm ⟨fun _=>hq.1 ?_,fun _=>rfl⟩
 ·rw [hr.2 h1.1] at h;exact absurd h Zk
 ·rw [hq.2 h1] at h2;exact absurd h2 Zk
 ·cases q
  ·exact absurd rfl h2
  ·rfl
theorem Ajj {fuel n:Nat} {F:Z1} (hn:n<=8) (hb:∀ i j,i < n->j < n->(F i j).natAbs<=AGr) (hf:100 < fuel):AFc fuel (tab n n F)=some (decide (det n F<=10000)):=by
 apply ok_eq;unfold AFc;refine Zq (ABb (AXo hn hb Zh)) fun x hx=>?_;subst hx;refine Zq (Q:=(· =10000)) ⟨10000,if_pos Zh,rfl⟩ fun y hy=>?_;subst hy;refine Zq (ABb (a:=AS5 (det n F) 10000) rfl) fun c hc=>Zm ?_;subst hc;exact decide_eq_decide.2 (Ad5 _ _)
def idS (i r c:Nat):Int:=if r=c/\r < i then 1 else 0
theorem Ajk {fuel n:Nat} (hn:1<=n) (Ae:n<=16) (hf:100 < fuel):ADs fuel (n:Int)=some (tab n n dl,true):=by
 apply ok_eq;unfold ADs;refine Zq (Q:=fun ex=>match ex with | .inl _=>False | .inr _=>True) (AAj (fun h=>by omega) fun _=>AAj (fun h=>by omega) fun _=>Zm trivial) fun ex hex=>?_
 cases ex with
 | inl e=>exact hex.elim
 | inr u=>
   dsimp only
   refine Zq (ABb (AZr Zh Zh Zh)) fun O hO=>?_
   have Ab:O=tab n n (idS 0):=by
     rw [hO,AE1 n (0:Int),AE1,APv]
     exact ABn fun r _=>ABn fun c _=>by unfold idS;rw [if_neg Zh]
   have hlen:O.length=n:=by rw [Ab,AAp]
   refine Zq (AA9 (fun i s=>s=(((i:Nat):Int),tab n n (idS i))/\i<=n) n (Q:=(· =tab n n dl)) ⟨by rw [Ab];rfl,Nat.zero_le _⟩ Zh fun i s hi hI=>?_) fun e he=>Zm (by rw [he])
   obtain ⟨rfl,hin⟩:=hI
   unfold AIc
   dsimp only
   rw [hlen]
   refine AAj (fun h=>?_) (fun h=>Zm ?_)
   · have hi':i < n:=by omega
     refine AAs (AAz hi') rfl (Zq (Q:=(· =1)) ⟨1,if_pos Zh,rfl⟩ fun y hy=>AAs (AAq hi') rfl (Zm ⟨Zh,?_,Zh⟩))
     subst hy
     rw [wk Zh,AWr]
     refine Prod.ext (by dsimp only;omega) (AO4 fun r c hr hc=>?_)
     rw [ABc]
     unfold idS
     by_cases h3:r=i
     · rw [if_pos h3]
       by_cases h4:c=i
       · rw [if_pos h4,if_pos Zh]
       · rw [if_neg h4,if_neg Zh,if_neg Zh]
     · rw [if_neg h3]
       by_cases h5:r=c/\r < i
       · rw [if_pos h5,if_pos Zh]
       · rw [if_neg h5,if_neg Zh]
   · refine AO4 fun r c hr hc=>?_
     unfold idS dl
     by_cases h5:r=c
     · rw [if_pos Zh,if_pos h5]
     · rw [if_neg Zh,if_neg h5]
def toS (n:Nat) (F:Z1) (i:Nat):List (List Int):=AB3 n fun r=>if r < i then AB3 n (F r) else []
def toR (n:Nat) (F:Z1) (i j:Nat):List (List Int):=AB3 n fun r=>if r < i then AB3 n (F r) else if r=i then AB3 n (fun c=>if c < j then F i c else 0) else []
theorem Av7 {fuel n:Nat} {F:Z1} (hn:1<=n) (Ae:n<=16) (hb:∀ i j,i < n->j < n->(F i j).natAbs < 9223372036854775808) (hf:100 < fuel):AGd fuel (tab n n F)=some (tab n n F,true):=by
 apply ok_eq;unfold AGd;refine Zq (ABb (Abd hn Ae hf)) fun x hx=>?_;subst hx;dsimp only;refine AAj (fun h=>absurd h Zk) fun _=>AB5 Zh (Zq (AA9 (fun i s=>s=(((i:Nat):Int),toS n F i)/\i<=n) n (Q:=fun ex=>match ex with | .inl _=>False | .inr e=>e=tab n n F) ⟨?_,Nat.zero_le _⟩ Zh fun i s hi hI=>?_) fun ex hex=>?_)
 ·rw [Int.toNat_natCast,AE1];exact congrArg (Prod.mk (0:Int)) (ABn fun r _=>by rw [if_neg Zh])
 ·obtain ⟨rfl,hin⟩:=hI;unfold AJn;dsimp only;rw [List.length_replicate,Int.toNat_natCast];refine AAj (fun h=>AB5 Zh ?_) (fun h=>Zm ?_)
  ·have hi':i < n:=by omega
   have e0:sI (toS n F i) (i:Int) (List.replicate n (0:Int))=toR n F i 0:=by
     rw [ABx];unfold toS;rw [ADz]
     refine ABn fun r _=>?_
     by_cases h1:r=i
     · rw [if_pos h1,if_neg Zh,if_pos h1,AE1];exact ABn fun c _=>by rw [if_neg Zh]
     · rw [if_neg h1]
       by_cases h2:r < i
       · rw [if_pos h2,if_pos h2]
       · rw [if_neg h2,if_neg h2,if_neg h1]
   refine AAs (n:=i) (AAq hi') rfl ?_;rw [e0];refine AAs (n:=i) (AAq hi') rfl ?_;rw [if_neg Zh,if_pos rfl];refine Zq (AA9 (fun j s=>s=(((j:Nat):Int),toR n F i j)/\j<=n) n (Q:=fun ex=>match ex with | .inl _=>False | .inr e=>e=toS n F (i + 1)) ⟨rfl,Nat.zero_le _⟩ Zh fun j s hj hJ=>?_) fun ex hex=>?_
   ·obtain ⟨rfl,hjn⟩:=hJ;unfold AJm;dsimp only;rw [AA1];refine AAj (fun h2=>?_) (fun h2=>Zm ?_)
    ·have hj':j < n:=by omega
     refine AAs (AAz hi') rfl (AAs (AAq hj') rfl (Zq (Q:=(· =(F i j,true))) ⟨_,if_pos (hb i j hi' hj'),rfl⟩ fun y hy=>?_));subst hy;dsimp only;refine AAj (fun h=>absurd h Zk) fun _=>AAs (n:=i) (AAq hi') rfl ?_;rw [if_neg Zh,if_pos rfl];refine AAs (AAq hj') rfl (Zm ⟨Zh,?_,Zh⟩);rw [wk Zh,ABx,ABx];refine Prod.ext (by dsimp only;omega) ?_;dsimp only;unfold toR;rw [ADz,ADz];refine ABn fun r _=>?_;by_cases h1:r=i
     ·rw [if_pos h1,if_neg Zh,if_pos h1];refine ABn fun c _=>?_;by_cases h3:c=j
      ·rw [if_pos h3,if_pos Zh,h3]
      ·rw [if_neg h3];by_cases h4:c < j
       ·rw [if_pos h4,if_pos Zh]
       ·rw [if_neg h4,if_neg Zh]
     ·rw [if_neg h1,if_neg h1,if_neg h1]
    ·refine ABn fun r _=>?_;by_cases h1:r < i
     ·rw [if_pos h1,if_pos Zh]
     ·rw [if_neg h1];by_cases h3:r=i
      ·rw [if_pos h3,if_pos Zh,h3];exact ABn fun c hc=>by rw [if_pos Zh]
      ·rw [if_neg h3,if_neg Zh]
   ·cases ex with
    | inl e=>exact hex.elim
    | inr e=>exact Zm ⟨Zh,by rw [wk Zh,hex];simp,Zh⟩
  ·refine ABn fun r hr=>?_;rw [if_pos Zh];rfl
 ·cases ex with
  | inl e=>exact hex.elim
  | inr e=>exact Zm (by rw [hex])
end Go.Proofs.YtdkldlbgcfpglaaGreatDoor
