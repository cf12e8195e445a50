/-
  Texts of a proof, joined. Conditions stand in each statement.
-/
import Derived.Test.YtdkldlbgcfpglaaGreatDoorMJordanCounts3
set_option linter.unusedVariables false
set_option linter.unusedSimpArgs false
namespace Go.Proofs.YtdkldlbgcfpglaaGreatDoor.Ig
open Go Go.QF
set_option maxRecDepth 100000
structure Ao5 (h:Zs) (v:Value) (L:List Nat) (v':Value) (L':List Nat):Prop where
  sl:Sl h v' (L'.map ALx)
  cap:AL9 v'
  dig:Dig L'
  blk:v'.ownBlock=v.ownBlock
  val:nv L'=nv L
  len:L'.length<=L.length
  tg:∀ g,v.ownBlock=some g-> ∃ cur off,h[g]? =some (.cells cur 172 off)
theorem Ao5.ds {h:Zs} {lo:Nat} {v v':Value} {L L':List Nat} (H:Ao5 h v L v' L') (hl:∀ g,v.ownBlock=some g->lo<=g):DS h lo v' L':=⟨H.sl,H.cap,H.dig,fun g hg=>hl g (H.blk ▸ hg),fun g hg=>H.tg g (H.blk ▸ hg)⟩
theorem Al5 {L:List Nat} (h:L[L.length - 1]? =some 0):nv (L.take (L.length - 1))=nv L:=by
 have h1:L=L.take (L.length - 1) ++ [0]:=by
   have:=AZ7 h
   rw [this,List.take_of_length_le (by have:=(List.getElem?_eq_some_iff.1 h).1;omega)]
 conv=>rhs;rw [h1,AJy]
 simp
theorem AKx {h:Zs} {v:Value} {L:List Nat} (H:DS h 0 v L) (hn:L.length<=1000000):AAs Tryz.prog 164 #[v] h fun x h'=>h'=h/\ ∃ L',Ao5 h v L x L'/\TL L':=by
 refine AA5 (l:=[_]) mx Tryz.func164 rfl rfl rfl rfl rfl Zw (Zn (Zv (Zo (Zt (AEh 1048569 (fun y:Value × List Nat=>[(0,y.1)]) (fun k y h'=>h'=h/\y.2.length=k/\Ao5 h v L y.1 y.2) Zw L.length (v,L) ?_ ⟨rfl,trivial⟩ ?_)))))
 ·exact ⟨rfl,rfl,H.sl,H.cap,H.dig,rfl,rfl,Nat.le_refl _,H.tg⟩
 rintro k ⟨u,Lu⟩ s1 h ⟨rfl,rfl,HT⟩;dsimp only at HT ⊢;refine Zo (Zn (Zk (AUq AAg rfl HT.sl ?_)));rw [List.length_map];have hLlen:=HT.len;refine APb rfl rfl (fun Aa=>?_) (fun Aa=>?_)
 ·refine Zk (ABn 6 true Zw rfl rfl (Zk (ABn 6 true Zw rfl rfl (Zk (ABn 6 true Zw rfl rfl (AUq AAg rfl HT.sl ?_))))));rw [List.length_map];refine ABn 6 true Zw rfl rfl (AK4 rfl rfl Zj Zj ?_);rw [show ((Lu.length:Nat):Int) - 1=((Lu.length - 1:Nat):Int) by omega];obtain ⟨x,hx⟩:∃ x,Lu[Lu.length - 1]? =some x:=⟨_,List.getElem?_eq_getElem Zj⟩;refine ABn 6 true Zw rfl rfl (AX9 AAg rfl HT.sl rfl (AQd hx) fun a1 Ab=>ABn 6 true Zw rfl rfl (AA6 ACa rfl Ab (ABn 6 true Zw rfl rfl (AQ6 rfl rfl (fun Ac=>?_) (fun Ac=>?_)))))
  ·refine AAd rfl (Zr (AAl rfl (Zx (q_t (Zt (Z1 (Zk (Zk (AUq AAg rfl HT.sl ?_)))))))));rw [List.length_map];refine AK4 rfl rfl Zj Zj ?_;rw [show ((Lu.length:Nat):Int) - 1=((Lu.length - 1:Nat):Int) by omega];have Ad:Lu[Lu.length - 1]? =some 0:=by rw [hx];congr 1;omega
   refine Aa7 (v:=u) AAg rfl HT.sl HT.cap rfl (by rw [List.length_map];omega) fun v9 Af Ag Ah=>?_;refine AAi (AAh (q_b (q_t ?_)));exact ⟨Lu.length - 1,(v9,Lu.take (Lu.length - 1)),by first | omega | (dsimp only;omega),⟨rfl,AAx,⟨by dsimp only;rw [List.map_take];exact Af,Ag,AVd HT.dig _,Ah.trans HT.blk,by rw [Al5 Ad];exact HT.val,by rw [List.length_take];have:=HT.len;omega,HT.tg⟩⟩,rfl,trivial⟩
  ·refine AAd rfl (Zr (AAq rfl (AAe (AAf (AAf (ABk (q_t (Zn (Zk (Zv (Zy (⟨_,Zz,?_⟩))))))))))));refine ⟨rfl,Lu,HT,fun y hy=>?_⟩
   first
   | (have:Lu=[]:=List.length_eq_zero_iff.1 Zj;rw [this] at hy;cases hy)
   | (rw [List.getLast?_eq_getElem?,hx] at hy;injection hy with hy;subst hy;omega)
 ·refine Zk (ABb 6 false Zw rfl rfl (ABb 6 false Zw rfl rfl (ABb 6 false Zw rfl rfl (ABb 6 false Zw rfl rfl (ABb 6 false Zw rfl rfl (ABb 6 false Zw rfl rfl (ABb 6 false Zw rfl rfl (AAo rfl (Zr (AAq rfl (AAe (AAf (AAf (ABk (q_t (Zn (Zk (Zv (Zy (⟨_,Zz,?_⟩))))))))))))))))))));refine ⟨rfl,Lu,HT,fun y hy=>?_⟩
  first
  | (have:Lu=[]:=List.length_eq_zero_iff.1 Zj;rw [this] at hy;cases hy)
  | (rw [List.getLast?_eq_getElem?,hx] at hy;injection hy with hy;subst hy;omega)
theorem AN3 (w:Nat) (hw:w < 18446744073709551616) (h:Zs):AAs Tryz.prog 161 #[.int .u64 (w:Int)] h fun x h'=>Ext h h'/\ ∃ L,DS h' (Array.size h) x L/\TL L/\nv L=w/\L.length<=2:=by
 refine AA5 (l:=[_]) mx Tryz.func161 rfl rfl rfl rfl rfl Zw (Zn (AA3 (Zk (AK3 ACg ACu rfl ?_))));rw [show IntKind.u32.wrap (w:Int)=((w % 4294967296:Nat):Int) by rw [wrap_u32];omega];refine Zk (AYj (n:=32) rfl rfl Zl (AK3 ACg ACu rfl ?_));rw [show IntKind.u32.wrap ((w:Int) / 2 ^ 32)=((w / 4294967296:Nat):Int) by rw [wrap_u32];omega];have e1:IntKind.u32.wrap (w:Int)=((w % 4294967296:Nat):Int):=by rw [wrap_u32];omega
 have e2:IntKind.u32.wrap ((w:Int) / 2 ^ 32)=((w / 4294967296:Nat):Int):=by rw [wrap_u32];omega
 have hdg:Dig [w % 4294967296,w / 4294967296]:=by intro x hx;simp only [List.mem_cons,List.not_mem_nil,or_false] at hx;rcases hx with rfl | rfl <;> omega
 refine Akm ([w % 4294967296,w / 4294967296].map ALx) AAg AJ1 rfl (fun _=>trivial) rfl Zj Zj rfl (by simp [ALx,isOne]) fun g1 v1 h1 Ad E1 Ae Aj=>?_;have Ak:=E1.1;have Z2:=(Ext.refl h).trans E1;have Ab:=Ad.ds (lo:=Array.size h) hdg Ae;refine AAr trivial rfl (AKx (Ab.mono (Nat.zero_le _)) AAx) fun x3 h1 hk=>?_;obtain ⟨rfl,L2,HT,htl⟩:=hk;refine ⟨trivial,?_⟩;refine Zv (Zy (⟨_,Zz,?_⟩));exact ⟨E1,L2,HT.ds Ab.lo,htl,by rw [HT.val];simp only [nv];omega,by have:=HT.len;simpa using this⟩
theorem AXx {h:Zs} {lo:Nat} {v:Value} {L:List Nat} (H:DS h lo v L) (hn:L.length<=2):AAs Tryz.prog 179 #[v] h fun x h'=>h'=h/\x= .int .u64 (nv L:Int):=by
 refine AA5 (l:=[_]) mx Tryz.func179 rfl rfl rfl rfl rfl Zw (Zn (AA3 (Zv (Zo (Zn (Zk (AUq AAg rfl H.sl ?_)))))));rw [List.length_map];refine Zk (Zr (Zt (AEh 2096952 (fun y:Nat × Nat=>[(8,.int .i64 (y.1:Int)),(3,.int .u64 (y.2:Int))]) (fun k y h'=>h'=h/\k=L.length - y.1/\y.1<=L.length/\y.2=nv (L.take y.1)) Zw L.length (0,0) ?_ ⟨rfl,rfl,trivial⟩ ?_)))
 ·exact ⟨rfl,rfl,Nat.zero_le _,rfl⟩
 rintro k ⟨i,w⟩ s1 h ⟨rfl,rfl,hi,hw⟩;dsimp only at hi hw ⊢;subst hw;refine Zn (AD0 rfl rfl (fun Ab=>?_) (fun Ab=>?_))
 ·refine Zr (Zo (AAl rfl (Zx (q_t (Zo (Zt (Zo ?_)))))));obtain ⟨x,hx⟩:∃ x,L[i]? =some x:=⟨_,List.getElem?_eq_getElem Zj⟩;have hxb:=H.dig x (List.mem_of_getElem? hx);refine Z1 (Zk (AX9 AAg rfl H.sl rfl (AQd hx) fun Af Ac=>AA6 ACa rfl Ac (AAi (Zv (Z1 (Zk (Zk (Ap9 ACu ACg rfl (by rw [wrap_u64];omega) ?_))))))));refine Zk (AL5 rfl rfl Zj Zj ?_);rw [show (32:Int) * (i:Int)=((32 * i:Nat):Int) by omega];refine AZ9 (n:=32 * i) rfl rfl (by show 32 * i<=64;omega) ?_;have Aa:i=0∨i=1:=by omega
  have hlt:=APi H.dig hi
  have hsh:IntKind.u64.wrap ((x:Int) * 2 ^ (32 * i))=((2 ^ (32 * i) * x:Nat):Int):=by
    rw [wrap_u64]
    rcases Aa with rfl | rfl
    · simp;omega
    · simp;omega
  rw [hsh]
  have Ad:2 ^ (32 * i) * x < 18446744073709551616:=by
    rcases Aa with rfl | rfl
    · simp;omega
    · simp;omega
  have Ae:nv (L.take i) < 18446744073709551616:=by
    rcases Aa with rfl | rfl
    · simp at hlt ⊢;omega
    · simp at hlt ⊢;omega
  refine AUv rfl rfl (.inr (.inl rfl)) (Ako Ae Ad) ?_;rw [Akp (by rw [<- AUw];exact hlt),<- AUw,<- ABw hx];refine AAi (AAh (q_b (q_t (Z1 (AIk rfl Zj (Zk (Zr ?_)))))));exact ⟨L.length - (i + 1),(i + 1,nv (L.take (i + 1))),by first | omega | (dsimp only;omega),⟨rfl,rfl,by first | omega | (dsimp only;omega),rfl⟩,rfl,rfl,trivial⟩
 ·refine Zr (Zo (AAq rfl (AAe (AAf (AAf (ABk (q_t (Zn (Zk (Zv (Zy (⟨_,Zz,?_⟩))))))))))));obtain rfl:i=L.length:=by omega
  exact ⟨rfl,by rw [List.take_length] at *;rfl⟩
theorem AMw (w:World):(Instr.build 94 #[]).run Tryz.prog w= .ok (.agg #[.bool false,.slice none 0 0]) w:=by kernel_rfl
theorem AVg (b:Bool) (a:Option Addr) (n c:Nat) (w:World):(Instr.build 94 #[(0,.bool b),(1,.slice a n c)]).run Tryz.prog w= .ok (.agg #[.bool b,.slice a n c]) w:=by kernel_rfl
theorem AIo {h:Zs} {lo:Nat} {s:Value} {L:List Nat} (neg:Bool) (H:DS h lo s L) (htl:TL L) (hn:L.length<=100):AAs Tryz.prog 160 #[.bool neg,s] h fun x h'=>Ext h h'/\ZV h' lo x (sgn neg (nv L)):=by
 obtain ⟨a,n,c,rfl,hnc⟩:=H.cap;refine AA5 (l:=[_,_]) mx Tryz.func160 rfl rfl rfl rfl rfl Zw (Zn (AFq [.bool false,.slice none 0 0] AEb rfl (fun _=>trivial) fun Aa h2 V3 E4 Ak Ar=>?_));have Au:Array.size h<=Aa:=Ak;have Av:=E4.1;have Z8:=(Ext.refl h).trans E4;refine Zr (Zo (Zn (Zk (AUq AAg rfl (H.sl.ext E4) ?_))));rw [List.length_map];refine AQ6 rfl rfl (fun Am=>?_) (fun Am=>?_)
 ·refine Zr (AAl rfl (Zn (AC5 (v:= .agg #[.bool false,.slice none 0 0]) AMw (AB3 [.bool false,.slice none 0 0] ABa rfl rfl rfl rfl (by simp [isOne]) V3 fun h9 Ao Ad=>?_))));have Af:=E4.thenUpd Ad (fun k hk=>by have Ac:k=Aa:=hk;omega);have Ax:=Ad.1;have Ay:=Z8.thenUpd Ad (fun k hk=>by have Ac:k=Aa:=hk;omega);have Az:=E4.thenUpd Ad (fun k hk=>by have Ac:k=Aa:=hk;omega);refine Zr (Zy (AAc (⟨_,AB9 ABa rfl rfl Ao,?_⟩)))
  first
  | (have h0:L=[]:=List.length_eq_zero_iff.1 Zj
     subst h0
     exact ⟨Af,⟨false,_,[],rfl,APh _ _,AQq,AAx,by cases neg <;> rfl⟩⟩)
  | exact ⟨Af,⟨neg,_,L,rfl,H.ext Af,htl,hn,rfl⟩⟩
 ·refine Zr (AAq rfl (Zx (q_t (Zn (Zk (Zk (AC5 (v:= .agg #[.bool neg,.slice a n c]) (AVg neg a n c) (AB3 [.bool neg,.slice a n c] ABa rfl rfl rfl rfl (by simp [isOne]) V3 fun A3 Ap Ae=>?_))))))));have Ah:=E4.thenUpd Ae (fun k hk=>by have Ac:k=Aa:=hk;omega);have A4:=Ae.1;have A5:=Z8.thenUpd Ae (fun k hk=>by have Ac:k=Aa:=hk;omega);have A6:=E4.thenUpd Ae (fun k hk=>by have Ac:k=Aa:=hk;omega);refine Zr (Zy (⟨_,AB9 ABa rfl rfl Ap,?_⟩))
  first
  | (have h0:L=[]:=List.length_eq_zero_iff.1 Zj
     subst h0
     exact ⟨Ah,⟨false,_,[],rfl,APh _ _,AQq,AAx,by cases neg <;> rfl⟩⟩)
  | exact ⟨Ah,⟨neg,_,L,rfl,H.ext Ah,htl,hn,rfl⟩⟩
theorem Small_ok {n:Int} (hn: -9223372036854775808<=n/\n<=9223372036854775807) (h:Zs):AAs Tryz.prog 129 #[.int .i64 n] h fun x h'=>Ext h h'/\ZV h' (Array.size h) x n:=by
 refine AA5 (l:=[_]) mx Tryz.func129 rfl rfl rfl rfl rfl Zw (Zn (AFq [.bool false,.slice none 0 0] AEb rfl (fun _=>trivial) fun Aa h2 V3 E4 Az By=>?_));have Bz:Array.size h<=Aa:=Az;have B1:=E4.1;have Z8:=(Ext.refl h).trans E4;refine Zr (Zo (Zn (Zk (AD0 rfl rfl (fun A3=>?_) (fun A3=>?_)))))
 ·refine Zr (AAl rfl (Zn (Zk (AK3 AJa ACg rfl ?_))));rw [show IntKind.u64.wrap n=n + 18446744073709551616 by rw [wrap_u64];omega];refine AUi rfl ?_;rw [show IntKind.u64.wrap (0 - (n + 18446744073709551616))=((n.natAbs:Nat):Int) by rw [wrap_u64];omega];refine AAr trivial rfl (AN3 n.natAbs Zj _) fun x9 B4 hk=>?_;obtain ⟨Ag,L1,Ah,Ao,Ap,A5⟩:=hk;refine ⟨trivial,?_⟩;have B5:=Ag.1;have A6:=Z8.trans Ag;have A7:=E4.trans Ag;have A8:=V3.ext Ag;have A9:=E4.trans Ag;refine AAr trivial rfl (AIo true Ah Ao Zj) fun B6 B7 hk=>?_;obtain ⟨Ac,Aq⟩:=hk;refine ⟨trivial,?_⟩;have B8:=Ac.1;have Ba:=A6.trans Ac;have Bb:=A7.trans Ac;have Bc:=A8.ext Ac;have Be:=A9.trans Ac;have Bf:=Ah.ext Ac;obtain ⟨Ai,s2,L2,rfl,Aj,Au,Av,Aw⟩:=Aq.out;refine AB3 [.bool Ai,s2] ABa rfl rfl rfl rfl (AH4 Aj.cap) Bc fun B9 Bg Ad=>?_;have Bh:=Bb.thenUpd Ad (fun k hk=>by have Ak:k=Aa:=hk;omega);have Ca:=Ad.1;have Cb:=Ba.thenUpd Ad (fun k hk=>by have Ak:k=Aa:=hk;omega);have Cd:=Be.thenUpd Ad (fun k hk=>by have Ak:k=Aa:=hk;omega);have Ce:=Bf.updLo Ad Zj;have Bi:=Aj.updLo Ad Zj;refine Zr (Zy (AAc (⟨_,AB9 ABa rfl rfl Bg,?_⟩)));exact ⟨Bh,⟨Ai,s2,L2,rfl,Bi.mono Zj,Au,Av,by rw [<- Aw,Ap];unfold sgn;first | (rw [if_pos rfl];omega) | (rw [if_neg Zl];omega)⟩⟩
 ·refine Zr (AAq rfl (Zx (q_t (Zn (Zk (AK3 AJa ACg rfl ?_))))));rw [show IntKind.u64.wrap n=((n.natAbs:Nat):Int) by rw [wrap_u64];omega];refine AAr trivial rfl (AN3 n.natAbs Zj _) fun Cf Cg hk=>?_;obtain ⟨Am,L1,Ah,Ao,Ap,A5⟩:=hk;refine ⟨trivial,?_⟩;have Ch:=Am.1;have Bj:=Z8.trans Am;have Bl:=E4.trans Am;have Bm:=V3.ext Am;have Bn:=E4.trans Am;refine AAr trivial rfl (AIo false Ah Ao Zj) fun Ci Cj hk=>?_;obtain ⟨Ae,Aq⟩:=hk;refine ⟨trivial,?_⟩;have Ck:=Ae.1;have Bo:=Bj.trans Ae;have Bp:=Bl.trans Ae;have Bq:=Bm.ext Ae;have Br:=Bn.trans Ae;have Bt:=Ah.ext Ae;obtain ⟨Ai,s2,L2,rfl,Aj,Au,Av,Aw⟩:=Aq.out;refine AB3 [.bool Ai,s2] ABa rfl rfl rfl rfl (AH4 Aj.cap) Bq fun Cm Bu Af=>?_;have Bv:=Bp.thenUpd Af (fun k hk=>by have Ak:k=Aa:=hk;omega);have Cn:=Af.1;have Co:=Bo.thenUpd Af (fun k hk=>by have Ak:k=Aa:=hk;omega);have Cp:=Br.thenUpd Af (fun k hk=>by have Ak:k=Aa:=hk;omega);have Cq:=Bt.updLo Af Zj;have Bw:=Aj.updLo Af Zj;refine Zr (Zy (⟨_,AB9 ABa rfl rfl Bu,?_⟩));exact ⟨Bv,⟨Ai,s2,L2,rfl,Bw.mono Zj,Au,Av,by rw [<- Aw,Ap];unfold sgn;first | (rw [if_pos rfl];omega) | (rw [if_neg Zl];omega)⟩⟩
theorem AWu {h:Zs} {lo:Nat} {v:Value} {L:List Nat} (H:DS h lo v L) (hn:L.length<=1000000):AAs Tryz.prog 165 #[v] h fun x h'=>Ext h h'/\DS h' (Array.size h) x L:=by
 obtain ⟨a,n,c,rfl,hnc⟩:=H.cap;refine AA5 (l:=[_]) mx Tryz.func165 rfl rfl rfl rfl rfl Zw (Zn (Zv (Zo (Zn (Zk (Anz Tryz.underlying92 rfl ?_))))));cases Ad:a.isNone
 ·refine Zr (AAq rfl (Zx (q_t (Zo ?_))));obtain ⟨xa,rfl⟩:∃ q,a=some q:=Option.ne_none_iff_exists'.1 (fun he=>by rw [he] at Ad;cases Ad);refine Z1 (Ath AAg (fun _=>trivial) fun g1 v1 h1 Af E1 Ag Ap=>?_);have Aq:=E1.1;have Z2:=(Ext.refl h).trans E1;refine Zk ?_;by_cases hL:L=[]
  ·subst hL;obtain rfl:n=0:=Akn H;refine Aq2 AAg (fun _=>trivial) rfl Af rfl fun v2 h2 Ab U2=>Zv (Zy (⟨_,Zz,?_⟩));exact ⟨E1.thenUpd U2 (fun k hk=>by have Ai:k=g1:=hk;omega),Ab.ds H.dig Ag⟩
  refine Ap3 AAg AJ1 rfl trivial rfl Af rfl (H.sl.ext E1) (fun u hu=>by obtain ⟨y,_,rfl⟩:=List.mem_map.1 hu;rfl) (by simpa using hL) (by simp;omega) (by simp;omega) fun v2 g2 h2 Ab Ak U2=>?_;refine ⟨trivial,?_⟩;have XZ:=E1.thenUpd U2 (fun k hk=>by have Ai:k=g1:=hk;omega);have hg2l:Array.size h<=g2:=by rcases Ak with rfl | rfl;exact Ag;omega
  refine Zv (Zy (⟨_,Zz,?_⟩));exact ⟨XZ,Ab.ds H.dig hg2l⟩
 ·refine Zr (AAl rfl (Zo ?_));have h0:L=[]:=An0 (Option.isNone_iff_eq_none.1 (by assumption)) H;refine Z1 (Zv (Zy (AAc (⟨_,Zz,?_⟩))));subst h0;exact ⟨Ext.refl _,APh _ _⟩
def AE7 (z:Int):Int:=if z < 0 then -1 else if z=0 then 0 else 1
theorem sign_zero {z:Int} (h:z=0):AE7 z=0:=by subst h;rfl
theorem sign_neg {z:Int} (h:z < 0):AE7 z= -1:=if_pos h
theorem APl {z:Int} (h:0 < z):AE7 z=1:=by unfold AE7;rw [if_neg Zj,if_neg Zj]
theorem Sign_ok {h:Zs} {lo:Nat} {va:Value} {z:Int} (HA:ZV h lo va z):AAs Tryz.prog 132 #[va] h fun x h'=>Ext h h'/\x= .int .i64 (AE7 z):=by
 obtain ⟨na,sa,LA,rfl,HDa,htla,hla,hza⟩:=HA.out;have hna:LA.length<=1000000:=by omega
 refine AA5 (l:=[_]) mx Tryz.func132 rfl rfl rfl rfl rfl Zw (Zn (AH7 [.bool na,sa] (fun _=>trivial) rfl rfl fun Aj h2 V3 E4 Ak Aq=>?_));have Ar:Array.size h<=Aj:=Ak;have Au:=E4.1;have Z8:=(Ext.refl h).trans E4;refine Zv (Zo (Zt (Zn (AEu (fs:=1) AKc Zw Zl rfl (AA6 AGi rfl (V3.cell (i:=1) rfl) (AAr trivial rfl (AKx (DS.mono (HDa.ext E4) (Nat.zero_le _)) hna) fun x9 h2 hk=>?_))))));obtain ⟨rfl,L1,Af,Ag⟩:=hk;refine ⟨trivial,?_⟩;have Am:=Af.ds (lo:=lo) HDa.lo;refine ABq AAg rfl Am (AQ6 rfl rfl (fun Ao=>?_) (fun Ao=>?_))
 ·refine Zv (AAl rfl (Zn (Zv (Zy (ABp (AAc (⟨_,Zz,?_⟩)))))))
  first
  | (have h0:L1=[]:=List.length_eq_zero_iff.1 Zj
     have h1:nv LA=0:=by rw [<- Af.val,h0];rfl
     exact ⟨E4,congrArg (Value.int .i64) (sign_zero (hza.trans (by rw [h1];cases na <;> rfl))).symm⟩)
  | (have h1:nv LA≠0:=fun h0=>by rw [<- Af.val] at h0;have:=congrArg List.length (AFx Ag h0);rw [List.length_nil] at this;omega
     have h2:z=sgn na (nv LA):=hza
     have h3:na=true:=by assumption
     exact ⟨E4,congrArg (Value.int .i64) (sign_neg (by rw [h2,h3];unfold sgn;rw [if_pos rfl];omega)).symm⟩)
  | (have h1:nv LA≠0:=fun h0=>by rw [<- Af.val] at h0;have:=congrArg List.length (AFx Ag h0);rw [List.length_nil] at this;omega
     have h2:z=sgn na (nv LA):=hza
     have h3:na=false:=by assumption
     exact ⟨E4,congrArg (Value.int .i64) (APl (by rw [h2,h3];unfold sgn;rw [if_neg Zl];omega)).symm⟩)
 ·refine Zv (AAq rfl (Zn (AEu (fs:=1) AJv Zw Zl rfl (AA6 AD1 rfl (V3.cell (i:=0) rfl) (Zv (⟨_,rfl,fun Ap=>?_,fun Ap=>?_⟩))))))
  ·refine Zn (Zv (Zy (ABp (AAc (⟨_,Zz,?_⟩)))))
   first
   | (have h0:L1=[]:=List.length_eq_zero_iff.1 Zj
      have h1:nv LA=0:=by rw [<- Af.val,h0];rfl
      exact ⟨E4,congrArg (Value.int .i64) (sign_zero (hza.trans (by rw [h1];cases na <;> rfl))).symm⟩)
   | (have h1:nv LA≠0:=fun h0=>by rw [<- Af.val] at h0;have:=congrArg List.length (AFx Ag h0);rw [List.length_nil] at this;omega
      have h2:z=sgn na (nv LA):=hza
      have h3:na=true:=by assumption
      exact ⟨E4,congrArg (Value.int .i64) (sign_neg (by rw [h2,h3];unfold sgn;rw [if_pos rfl];omega)).symm⟩)
   | (have h1:nv LA≠0:=fun h0=>by rw [<- Af.val] at h0;have:=congrArg List.length (AFx Ag h0);rw [List.length_nil] at this;omega
      have h2:z=sgn na (nv LA):=hza
      have h3:na=false:=by assumption
      exact ⟨E4,congrArg (Value.int .i64) (APl (by rw [h2,h3];unfold sgn;rw [if_neg Zl];omega)).symm⟩)
  ·refine Zx (q_b (q_t (Zn (Zv (Zy (⟨_,Zz,?_⟩))))))
   first
   | (have h0:L1=[]:=List.length_eq_zero_iff.1 Zj
      have h1:nv LA=0:=by rw [<- Af.val,h0];rfl
      exact ⟨E4,congrArg (Value.int .i64) (sign_zero (hza.trans (by rw [h1];cases na <;> rfl))).symm⟩)
   | (have h1:nv LA≠0:=fun h0=>by rw [<- Af.val] at h0;have:=congrArg List.length (AFx Ag h0);rw [List.length_nil] at this;omega
      have h2:z=sgn na (nv LA):=hza
      have h3:na=true:=by assumption
      exact ⟨E4,congrArg (Value.int .i64) (sign_neg (by rw [h2,h3];unfold sgn;rw [if_pos rfl];omega)).symm⟩)
   | (have h1:nv LA≠0:=fun h0=>by rw [<- Af.val] at h0;have:=congrArg List.length (AFx Ag h0);rw [List.length_nil] at this;omega
      have h2:z=sgn na (nv LA):=hza
      have h3:na=false:=by assumption
      exact ⟨E4,congrArg (Value.int .i64) (APl (by rw [h2,h3];unfold sgn;rw [if_neg Zl];omega)).symm⟩)
theorem Neg_ok {h:Zs} {lo:Nat} {va:Value} {z:Int} (HA:ZV h lo va z):AAs Tryz.prog 163 #[va] h fun x h'=>Ext h h'/\ZV h' (Array.size h) x (-z):=by
 obtain ⟨na,sa,LA,rfl,HDa,htla,hla,hza⟩:=HA.out;have hna:LA.length<=1000000:=by omega
 refine AA5 (l:=[_]) mx Tryz.func163 rfl rfl rfl rfl rfl Zw (Zn (AH7 [.bool na,sa] (fun _=>trivial) rfl rfl fun Am h2 V3 E4 Az Bx=>?_));have By:Array.size h<=Am:=Az;have Bz:=E4.1;have Z8:=(Ext.refl h).trans E4;refine AFq [.bool false,.slice none 0 0] AEb rfl (fun _=>trivial) fun Ad Ah A4 Ae A5 B1=>?_;have B3:Array.size h<=Ad:=Nat.le_trans E4.1 A5;have nebq1bq9:Am≠Ad:=by have:=V3.lt;omega
 have B4:=Ae.1;have A6:=Z8.trans Ae;have Ap:=E4.trans Ae;have Aq:=V3.ext Ae;have A7:=E4.trans Ae;refine Zr (Zo (ACb (fun h'=>Ext Ah h') Zw ?_));have Af:=Ext.refl Ah;refine AEu (fs:=1) AJv Zw Zl rfl (AB8 AD1 rfl Af (fun h' hb=>(Aq.ext hb).cell (i:=0) rfl) (ADp rfl (AEu (fs:=1) AKc Zw Zl rfl (AB8 AGi rfl Af (fun h' hb=>(Aq.ext hb).cell (i:=1) rfl) (AAr Af rfl (AKx (DS.mono (HDa.ext Ap) (Nat.zero_le _)) hna) fun B5 Ah hk=>?_)))));obtain ⟨rfl,L1,Ai,A8⟩:=hk;refine ⟨Af,?_⟩;have A9:=Ai.ds (lo:=lo) HDa.lo;have Ar:=Ai.val;have B7:=Ai.len;refine AAr Af rfl (AWu A9 Zj) fun B8 B9 hk=>?_;obtain ⟨Ab,Au⟩:=hk;have Aj:=Af.trans Ab;refine ⟨Aj,?_⟩;have Ca:=Ab.1;have Ba:=A6.trans Ab;have Bb:=Ap.trans Ab;have Bc:=A7.trans Ab;have Be:=A4.ext Ab;have Bf:=Ae.trans Ab;refine AAr Aj rfl (AIo (!na) Au A8 Zj) fun Cb Cd hk=>?_;obtain ⟨Aa,Bg⟩:=hk;have Bh:=Aj.trans Aa;refine ⟨Bh,?_⟩;have Ce:=Aa.1;have Bi:=Ba.trans Aa;have Bj:=Bb.trans Aa;have Bl:=Bc.trans Aa;have Bm:=Be.ext Aa;have Bn:=Bf.trans Aa;have Bo:=Au.ext Aa;obtain ⟨Av,s3,L3,rfl,Ax,Bq,Br,Ay⟩:=Bg.out;refine AB3 [.bool Av,s3] ABa rfl rfl rfl rfl (AH4 Ax.cap) Bm fun Cf Bt Ac=>?_;have Bu:=Bj.thenUpd Ac (fun k hk=>by have Ak:k=Ad:=hk;omega);have Cg:=Ac.1;have Ch:=Bi.thenUpd Ac (fun k hk=>by have Ak:k=Ad:=hk;omega);have Ci:=Bn.thenUpd Ac (fun k hk=>by have Ak:k=Ad:=hk;omega);have Cj:=Bl.thenUpd Ac (fun k hk=>by have Ak:k=Ad:=hk;omega);have Ck:=Bo.updLo Ac Zj;have Bv:=Ax.updLo Ac Zj;refine Zr (Zy (⟨_,AB9 ABa rfl rfl Bt,?_⟩));exact ⟨Bu,⟨Av,s3,L3,rfl,Bv.mono Zj,Bq,Br,by first | (rw [<- Ay,Ar,hza];done) | (rw [<- Ay,Ar,hza];cases na <;> simp [sgn])⟩⟩
theorem Normalize_ok {h:Zs} {lo:Nat} {va:Value} {z:Int} (HA:ZV h lo va z):AAs Tryz.prog 133 #[va] h fun x h'=>Ext h h'/\ZV h' (Array.size h) x (z):=by
 obtain ⟨na,sa,LA,rfl,HDa,htla,hla,hza⟩:=HA.out;have hna:LA.length<=1000000:=by omega
 refine AA5 (l:=[_]) mx Tryz.func133 rfl rfl rfl rfl rfl Zw (Zn (AH7 [.bool na,sa] (fun _=>trivial) rfl rfl fun Am h2 V3 E4 Az Bx=>?_));have By:Array.size h<=Am:=Az;have Bz:=E4.1;have Z8:=(Ext.refl h).trans E4;refine AFq [.bool false,.slice none 0 0] AEb rfl (fun _=>trivial) fun Ad Ah A4 Ae A5 B1=>?_;have B3:Array.size h<=Ad:=Nat.le_trans E4.1 A5;have nebq1bq9:Am≠Ad:=by have:=V3.lt;omega
 have B4:=Ae.1;have A6:=Z8.trans Ae;have Ap:=E4.trans Ae;have Aq:=V3.ext Ae;have A7:=E4.trans Ae;refine Zr (Zo (ACb (fun h'=>Ext Ah h') Zw ?_));have Af:=Ext.refl Ah;refine AEu (fs:=1) AJv Zw Zl rfl (AB8 AD1 rfl Af (fun h' hb=>(Aq.ext hb).cell (i:=0) rfl) (AEu (fs:=1) AKc Zw Zl rfl (AB8 AGi rfl Af (fun h' hb=>(Aq.ext hb).cell (i:=1) rfl) (AAr Af rfl (AKx (DS.mono (HDa.ext Ap) (Nat.zero_le _)) hna) fun B5 Ah hk=>?_))));obtain ⟨rfl,L1,Ai,A8⟩:=hk;refine ⟨Af,?_⟩;have A9:=Ai.ds (lo:=lo) HDa.lo;have Ar:=Ai.val;have B7:=Ai.len;refine AAr Af rfl (AWu A9 Zj) fun B8 B9 hk=>?_;obtain ⟨Ab,Au⟩:=hk;have Aj:=Af.trans Ab;refine ⟨Aj,?_⟩;have Ca:=Ab.1;have Ba:=A6.trans Ab;have Bb:=Ap.trans Ab;have Bc:=A7.trans Ab;have Be:=A4.ext Ab;have Bf:=Ae.trans Ab;refine AAr Aj rfl (AIo na Au A8 Zj) fun Cb Cd hk=>?_;obtain ⟨Aa,Bg⟩:=hk;have Bh:=Aj.trans Aa;refine ⟨Bh,?_⟩;have Ce:=Aa.1;have Bi:=Ba.trans Aa;have Bj:=Bb.trans Aa;have Bl:=Bc.trans Aa;have Bm:=Be.ext Aa;have Bn:=Bf.trans Aa;have Bo:=Au.ext Aa;obtain ⟨Av,s3,L3,rfl,Ax,Bq,Br,Ay⟩:=Bg.out;refine AB3 [.bool Av,s3] ABa rfl rfl rfl rfl (AH4 Ax.cap) Bm fun Cf Bt Ac=>?_;have Bu:=Bj.thenUpd Ac (fun k hk=>by have Ak:k=Ad:=hk;omega);have Cg:=Ac.1;have Ch:=Bi.thenUpd Ac (fun k hk=>by have Ak:k=Ad:=hk;omega);have Ci:=Bn.thenUpd Ac (fun k hk=>by have Ak:k=Ad:=hk;omega);have Cj:=Bl.thenUpd Ac (fun k hk=>by have Ak:k=Ad:=hk;omega);have Ck:=Bo.updLo Ac Zj;have Bv:=Ax.updLo Ac Zj;refine Zr (Zy (⟨_,AB9 ABa rfl rfl Bt,?_⟩));exact ⟨Bu,⟨Av,s3,L3,rfl,Bv.mono Zj,Bq,Br,by first | (rw [<- Ay,Ar,hza];done) | (rw [<- Ay,Ar,hza];cases na <;> simp [sgn])⟩⟩
def ALv (a b:Nat):Int:=if a < b then -1 else if a=b then 0 else 1
theorem AIu {a b:Nat} (h:a < b):ALv a b= -1:=if_pos h
theorem AIv {a b:Nat} (h:b < a):ALv a b=1:=by unfold ALv;rw [if_neg Zj,if_neg Zj]
theorem APm {a b:Nat} (h:a=b):ALv a b=0:=by unfold ALv;rw [if_neg Zj,if_pos h]
theorem AIw {A B:List Nat} (ha:Dig A) (hb:TL B) (h:A.length < B.length):nv A < nv B:=by
 have h1:=ALo ha;have h2:=Akl hb (fun he=>by rw [he] at h;simp at h);have h3:4294967296 ^ A.length<=4294967296 ^ (B.length - 1):=Nat.pow_le_pow_right Zl Zj;omega
theorem AIx {A B:List Nat} (ha:Dig A) (hb:Dig B) {i x y:Nat} (hl:A.length=B.length) (hx:A[i]? =some x) (hy:B[i]? =some y) (hxy:x < y) (hs:∀ q,i < q->A[q]? =B[q]?):nv A < nv B:=by
 have hi:=(List.getElem?_eq_some_iff.1 hx).1;have hd:A.drop (i + 1)=B.drop (i + 1):=List.ext_getElem? fun q=>by rw [List.getElem?_drop,List.getElem?_drop];exact hs _ Zj
 have e:∀ L:List Nat,nv L=nv (L.take (i + 1)) + 4294967296 ^ (L.take (i + 1)).length * nv (L.drop (i + 1)):=fun L=>by rw [<- ATv,List.take_append_drop]
 rw [e A,e B,hd,ABw hx,ABw hy,List.length_take,List.length_take,hl];have h1:=APi ha (i:=i) Zj;have h2:4294967296 ^ i * (x + 1)<=4294967296 ^ i * y:=Nat.mul_le_mul_left _ hxy;rw [Nat.mul_add,Nat.mul_one] at h2;omega
theorem AUm {h:Zs} {la lb:Nat} {va vb:Value} {LA LB:List Nat} (HA:DS h la va LA) (HB:DS h lb vb LB) (hta:TL LA) (htb:TL LB) (hna:LA.length<=1000000) (hnb:LB.length<=1000000):AAs Tryz.prog 178 #[va,vb] h fun x h'=>h'=h/\x= .int .i64 (ALv (nv LA) (nv LB)):=by
 refine AA5 (l:=[_,_]) mx Tryz.func178 rfl rfl rfl rfl rfl Zw (Zn (Zv (Zo (Zt (Zn (Zk (ABq AAg rfl HA (Zk (ABq AAg rfl HB (AD0 rfl rfl (fun Ac=>?_) (fun Ac=>?_)))))))))))
 ·refine Zv (AAl rfl (Zn (Zv (Zy (ABp (AAc (⟨_,Zz,?_⟩)))))))
  first
  | exact ⟨rfl,congrArg (Value.int .i64) (AIu (AIw HA.dig htb Zj)).symm⟩
  | exact ⟨rfl,congrArg (Value.int .i64) (AIv (AIw HB.dig hta Zj)).symm⟩
  | exact ⟨rfl,congrArg (Value.int .i64) (AIu (AIx HA.dig HB.dig Zj hx hy Zj (fun q hq=>hsame q Zj))).symm⟩
  | exact ⟨rfl,congrArg (Value.int .i64) (AIv (AIx HB.dig HA.dig Zj hy hx Zj (fun q hq=>(hsame q Zj).symm))).symm⟩
  | exact ⟨rfl,congrArg (Value.int .i64) (APm (congrArg nv (List.ext_getElem? fun q=>hsame q Zj))).symm⟩
 ·refine Zv (AAq rfl (Zn (Zk (ABq AAg rfl HA (Zk (ABq AAg rfl HB (APb rfl rfl (fun Ad=>?_) (fun Ad=>?_))))))))
  ·refine Zv (AAl rfl (Zn (Zv (Zy (ABp (AAc (⟨_,Zz,?_⟩)))))))
   first
   | exact ⟨rfl,congrArg (Value.int .i64) (AIu (AIw HA.dig htb Zj)).symm⟩
   | exact ⟨rfl,congrArg (Value.int .i64) (AIv (AIw HB.dig hta Zj)).symm⟩
   | exact ⟨rfl,congrArg (Value.int .i64) (AIu (AIx HA.dig HB.dig Zj hx hy Zj (fun q hq=>hsame q Zj))).symm⟩
   | exact ⟨rfl,congrArg (Value.int .i64) (AIv (AIx HB.dig HA.dig Zj hy hx Zj (fun q hq=>(hsame q Zj).symm))).symm⟩
   | exact ⟨rfl,congrArg (Value.int .i64) (APm (congrArg nv (List.ext_getElem? fun q=>hsame q Zj))).symm⟩
  ·refine Zv (AAq rfl (Zx (q_b (q_t (Zo (Zn (Zk (ABq AAg rfl HA (AK4 rfl rfl Zj Zj (Zv (Zt (AEh 35184369991728 (fun i:Nat=>[(5,.int .i64 ((i:Int) - 1))]) (fun k i h'=>h'=h/\i=k/\i<=LA.length/\ ∀ q,i<=q->LA[q]? =LB[q]?) Zw LA.length LA.length ?_ ⟨rfl,trivial⟩ ?_))))))))))))
   ·exact ⟨rfl,rfl,Nat.le_refl _,fun q hq=>by rw [List.getElem?_eq_none hq,List.getElem?_eq_none Zj]⟩
   rintro k i s1 h ⟨rfl,rfl,hi,hsame⟩;refine Zo (Zn (Zk (AS6 rfl rfl (fun Ae=>?_) (fun Ae=>?_))))
   ·refine Zr (AAl rfl (Zx (q_t (Zo (Zt (Zt (Zo ?_)))))));obtain ⟨x,hx⟩:∃ x,LA[i - 1]? =some x:=⟨_,List.getElem?_eq_getElem Zj⟩;obtain ⟨y,hy⟩:∃ y,LB[i - 1]? =some y:=⟨_,List.getElem?_eq_getElem Zj⟩;have e1:((i:Int) - 1)=((i - 1:Nat):Int):=by omega
    refine APa Zw (Zk (Zk (AHk (n:=i - 1) AAg rfl HA (show Value.int .i64 ((i:Int) - 1)=_ by rw [e1]) hx fun a1 Af=>?_)));refine AA6 ACa rfl Af (Zk (Zk (AHk (n:=i - 1) AAg rfl HB (show Value.int .i64 ((i:Int) - 1)=_ by rw [e1]) hy fun a2 Ag=>?_)));refine AA6 ACa rfl Ag (AD0 rfl rfl (fun Ah=>?_) (fun Ah=>?_))
    ·refine Zv (AAl rfl (Zn (Zv (Zy (ABp (ABp (AAc (AAc (ABp (AAc (⟨_,Zz,?_⟩)))))))))))
     first
     | exact ⟨rfl,congrArg (Value.int .i64) (AIu (AIw HA.dig htb Zj)).symm⟩
     | exact ⟨rfl,congrArg (Value.int .i64) (AIv (AIw HB.dig hta Zj)).symm⟩
     | exact ⟨rfl,congrArg (Value.int .i64) (AIu (AIx HA.dig HB.dig Zj hx hy Zj (fun q hq=>hsame q Zj))).symm⟩
     | exact ⟨rfl,congrArg (Value.int .i64) (AIv (AIx HB.dig HA.dig Zj hy hx Zj (fun q hq=>(hsame q Zj).symm))).symm⟩
     | exact ⟨rfl,congrArg (Value.int .i64) (APm (congrArg nv (List.ext_getElem? fun q=>hsame q Zj))).symm⟩
    ·refine Zv (AAq rfl (Zo (APa Zw (Zk (Zk (AHk (n:=i - 1) AAg rfl HA (show Value.int .i64 ((i:Int) - 1)=_ by rw [e1]) hx fun a3 Ai=>?_))))));refine AA6 ACa rfl Ai (Zk (Zk (AHk (n:=i - 1) AAg rfl HB (show Value.int .i64 ((i:Int) - 1)=_ by rw [e1]) hy fun a4 Aj=>?_)));refine AA6 ACa rfl Aj (APb rfl rfl (fun Ak=>?_) (fun Ak=>?_))
     ·refine Zv (AAl rfl (Zn (Zv (Zy (ABp (ABp (AAc (AAc (ABp (AAc (⟨_,Zz,?_⟩)))))))))))
      first
      | exact ⟨rfl,congrArg (Value.int .i64) (AIu (AIw HA.dig htb Zj)).symm⟩
      | exact ⟨rfl,congrArg (Value.int .i64) (AIv (AIw HB.dig hta Zj)).symm⟩
      | exact ⟨rfl,congrArg (Value.int .i64) (AIu (AIx HA.dig HB.dig Zj hx hy Zj (fun q hq=>hsame q Zj))).symm⟩
      | exact ⟨rfl,congrArg (Value.int .i64) (AIv (AIx HB.dig HA.dig Zj hy hx Zj (fun q hq=>(hsame q Zj).symm))).symm⟩
      | exact ⟨rfl,congrArg (Value.int .i64) (APm (congrArg nv (List.ext_getElem? fun q=>hsame q Zj))).symm⟩
     ·refine Zv (AAq rfl (Zx (q_b (q_b (q_t (Z1 (Zk (AK4 rfl rfl Zj Zj (Zv ?_)))))))));exact ⟨i - 1,i - 1,Zj,⟨rfl,rfl,Zj,fun q hq=>by rcases Nat.lt_or_ge q i with h2 | h2;obtain rfl:q=i - 1:=Zj;rw [hx,hy];congr 1;omega;exact hsame q h2⟩,by rw [show ((i - 1:Nat):Int) - 1=(i:Int) - 1 - 1 by omega];rfl,trivial⟩
   ·refine Zr (AAq rfl (AAe (AAf (AAf (ABk (q_t (Zn (Zv (Zy (⟨_,Zz,?_⟩))))))))))
    first
    | exact ⟨rfl,congrArg (Value.int .i64) (AIu (AIw HA.dig htb Zj)).symm⟩
    | exact ⟨rfl,congrArg (Value.int .i64) (AIv (AIw HB.dig hta Zj)).symm⟩
    | exact ⟨rfl,congrArg (Value.int .i64) (AIu (AIx HA.dig HB.dig Zj hx hy Zj (fun q hq=>hsame q Zj))).symm⟩
    | exact ⟨rfl,congrArg (Value.int .i64) (AIv (AIx HB.dig HA.dig Zj hy hx Zj (fun q hq=>(hsame q Zj).symm))).symm⟩
    | exact ⟨rfl,congrArg (Value.int .i64) (APm (congrArg nv (List.ext_getElem? fun q=>hsame q Zj))).symm⟩
theorem Aal {h:Zs} {la lb:Nat} {va vb:Value} {LA LB:List Nat} (HA:DS h la va LA) (HB:DS h lb vb LB) (hna:LA.length<=1000) (hnb:LB.length<=1000):AAs Tryz.prog 167 #[va,vb] h fun x h'=>Ext h h'/\ ∃ L,DS h' (Array.size h) x L/\TL L/\nv L=nv LA + nv LB/\L.length<=1001:=by
 refine AA5 (l:=[_,_]) mx Tryz.func167 rfl rfl rfl rfl rfl Zw (Zn (Zv (AS3 65027 (fun y:Value × Value × List Nat × List Nat=>[(0,y.1),(1,y.2.1)]) (fun y h'=>h'=h/\DS h 0 y.1 y.2.2.1/\DS h 0 y.2.1 y.2.2.2/\y.2.2.2.length<=y.2.2.1.length/\y.2.2.1.length<=1000/\nv y.2.2.1 + nv y.2.2.2=nv LA + nv LB) Zw ?_ ?_)))
 ·refine Zn (Zk (ABq AAg rfl HA (Zk (ABq AAg rfl HB (AD0 rfl rfl (fun Ao=>?_) (fun Ao=>?_))))))
  ·refine Zr (AAl rfl (Z1 (Zk (Zk (AAi (Zv ?_))))));exact ⟨(_,_,LB,LA),⟨rfl,HB.mono (Nat.zero_le _),HA.mono (Nat.zero_le _),by first | omega | (dsimp only;omega),hnb,Nat.add_comm _ _⟩,rfl,rfl,trivial⟩
  ·refine Zr (AAq rfl (Zx (q_t ?_)));exact ⟨(_,_,LA,LB),⟨rfl,HA.mono (Nat.zero_le _),HB.mono (Nat.zero_le _),by first | omega | (dsimp only;omega),hna,rfl⟩,rfl,rfl,trivial⟩
 rintro ⟨A9,Ba,A,B⟩ s0 h ⟨rfl,HX,HY,hBA,Ap,hsum⟩;dsimp only at HX HY hBA Ap hsum ⊢;refine Zn (Zk (ABq AAg rfl HX (ANj (b:=1) rfl rfl Zj (AYm (n:=A.length + 1) AAg AJ1 (fun _=>trivial) rfl rfl Zl Zj fun g1 v1 h1 Aq E1 Ar Be=>?_))));have Bf:=E1.1;have Z2:=(Ext.refl h).trans E1;refine AA3 (Zv (Zo (Zn (Zk (ABq AAg rfl (HY.ext E1) (Zk (Zr (Zt (AEh 70368739983552 (fun y:Nat × Nat=>[(22,.int .i64 (y.1:Int)),(6,.int .u64 (y.2:Int))]) (fun k y h'=>k=B.length - y.1/\y.1<=B.length/\Ext h h'/\y.2<=1/\ ∃ D,AC4 h' 172 g1 v1 ((D ++ List.replicate ((A.length + 1) - y.1) 0).map ALx)/\D.length=y.1/\Dig D/\nv D + 4294967296 ^ y.1 * y.2=nv (A.take y.1) + nv (B.take y.1)) Zw B.length (0,0) ?_ ⟨rfl,rfl,trivial⟩ ?_)))))))))
 ·exact ⟨rfl,Nat.zero_le _,E1,by first | omega | (dsimp only;omega),[],by simpa using Aq,rfl,fun x hx=>(by simp at hx),rfl⟩
 rintro k ⟨i,c⟩ s1 h2 ⟨rfl,hi,E2,hc,D,Ag,hDl,hDd,hDv⟩;dsimp only at hi hc Ag hDl hDv ⊢;have Bi:=E2.1;refine Zn (AD0 rfl rfl (fun Au=>?_) (fun Au=>?_))
 ·refine Zr (Zo (AAl rfl (Zx (q_t (Zo (Zt (Zn (Zk (Zv (Zo ?_))))))))));obtain ⟨x,hx⟩:∃ x,A[i]? =some x:=⟨_,List.getElem?_eq_getElem Zj⟩;have hbx:=HX.dig x (List.mem_of_getElem? hx);obtain ⟨y,hy⟩:∃ x,B[i]? =some x:=⟨_,List.getElem?_eq_getElem Zj⟩;have hby:=HY.dig y (List.mem_of_getElem? hy);refine APa Zw (Zk (Zk (Zk (AHk AAg rfl (HX.ext E2) rfl hx fun Bj Av=>AA6 ACa rfl Av (AQr ACu ACg rfl hbx (Zk (Zk (AHk AAg rfl (HY.ext E2) rfl hy fun Bl Aw=>AA6 ACa rfl Aw (AQr ACu ACg rfl hby (AMs rfl rfl Zj (AMs rfl rfl Zj (AA3 (Zk (Zk (Zk (ASp ACg ACu rfl (AQ4 AAg rfl Ag rfl (by simp;omega) ?_)))))))))))))))));refine ASo (D ++ [(c + (x + y)) % 4294967296] ++ List.replicate (A.length + 1 - (i + 1)) 0) ACa rfl rfl Ag (by simp;omega) (AXo hDl Zj) fun h4 Ax U4=>?_;have Bn:=U4.1;have X7:=E2.thenUpd U4 (fun k hk=>by have Ad:k=g1:=hk;omega);have Z8:=E2.thenUpd U4 (fun k hk=>by have Ad:k=g1:=hk;omega);refine Zr (Z1 (Zk (ARz rfl rfl (AAi (AAh (q_b (q_t (Z1 (AIk rfl Zj (Zk (Zr ?_)))))))))));exact ⟨B.length - (i + 1),(i + 1,(c + (x + y)) / 4294967296),by first | omega | (dsimp only;omega),⟨rfl,by first | omega | (dsimp only;omega),X7,by first | omega | (dsimp only;omega),_,Ax,by simp [hDl],AK6 hDd (Nat.mod_lt _ Zl),by rw [AJy,hDl,AR0 hDv,ABw hx,ABw hy,Nat.mul_add];omega⟩,rfl,rfl,trivial⟩
 ·refine Zr (Zo (AAq rfl (AAe (AAf (AAf (ABk (q_t (Zo (Zn (Zk (ABq AAg rfl (HX.ext E2) (Zk (ABq AAg rfl (HY.ext E2) (AK4 rfl rfl Zj Zj ?_))))))))))))));rw [show ((A.length:Nat):Int) - ((B.length:Nat):Int)=((A.length - B.length:Nat):Int) by omega];refine Zk (Zr (Zt ?_));obtain rfl:i=B.length:=by omega
  rw [List.take_length] at hDv;refine AEh 37778929611157348024640 (fun y:Nat × Nat=>[(51,.int .i64 (y.1:Int)),(6,.int .u64 (y.2:Int))]) (fun k y h'=>k=A.length - B.length - y.1/\y.1<=A.length - B.length/\Ext h h'/\y.2<=1/\ ∃ D,AC4 h' 172 g1 v1 ((D ++ List.replicate ((A.length + 1) - (B.length + y.1)) 0).map ALx)/\D.length=B.length + y.1/\Dig D/\nv D + 4294967296 ^ (B.length + y.1) * y.2=nv (A.take (B.length + y.1)) + nv B) Zw (A.length - B.length) (0,c) ?_ ⟨rfl,rfl,trivial⟩ ?_
  ·exact ⟨rfl,Nat.zero_le _,E2,hc,D,Ag,hDl,hDd,hDv⟩
  rintro k ⟨j,c⟩ s2 h3 ⟨rfl,hj,E3,hc,D,Ae,hDl,hDd,hDv⟩;dsimp only at hj hc Ae hDl hDv ⊢;have Bq:=E3.1;refine Zn (AD0 rfl rfl (fun Az=>?_) (fun Az=>?_))
  ·refine Zr (Zo (AAl rfl (Zx (q_t (Zo (Zt (Zn (Zk (Zv (Zo ?_))))))))));obtain ⟨x,hx⟩:∃ x,A[(B.length + j)]? =some x:=⟨_,List.getElem?_eq_getElem Zj⟩;have hbx:=HX.dig x (List.mem_of_getElem? hx);refine Z1 (Zk (Zk (Zk (ABq AAg rfl (HY.ext E3) (Zk (ANj rfl rfl Zj (AHk AAg rfl (HX.ext E3) rfl hx fun Br A3=>AA6 ACa rfl A3 (AQr ACu ACg rfl hbx (AMs rfl rfl Zj (AA3 (Zk (Zk (ABq AAg rfl (HY.ext E3) (Zk (ANj rfl rfl Zj (Zk (ASp ACg ACu rfl (AQ4 AAg rfl Ae rfl (by simp;omega) ?_))))))))))))))))));refine ASo (D ++ [(c + x) % 4294967296] ++ List.replicate (A.length + 1 - (B.length + j + 1)) 0) ACa rfl rfl Ae (by simp;omega) (AXo hDl Zj) fun h5 A4 U5=>?_;have Bu:=U5.1;have A5:=E3.thenUpd U5 (fun k hk=>by have Ad:k=g1:=hk;omega);have Bv:=E3.thenUpd U5 (fun k hk=>by have Ad:k=g1:=hk;omega);refine Zr (Z1 (Zk (ARz rfl rfl (AAi (AAh (q_b (q_t (Z1 (AIk rfl Zj (Zk (Zr ?_)))))))))));exact ⟨A.length - B.length - (j + 1),(j + 1,(c + x) / 4294967296),by first | omega | (dsimp only;omega),⟨rfl,by first | omega | (dsimp only;omega),A5,by first | omega | (dsimp only;omega),_,A4,by simp [hDl];omega,AK6 hDd (Nat.mod_lt _ Zl),by rw [AJy,hDl,<- Nat.add_assoc,AR0 hDv,ABw hx];omega⟩,rfl,rfl,trivial⟩
  ·refine Zr (Zo (AAq rfl (AAe (AAf (AAf (ABk (q_t (Zo ?_))))))));obtain rfl:j=A.length - B.length:=by omega
   have hBj:B.length + (A.length - B.length)=A.length:=by omega
   rw [hBj,List.take_length] at hDv;rw [hBj] at hDl;refine Z1 (Zk (Zk (ABq AAg rfl (HX.ext E3) (Zk (ASp ACg ACu rfl (AQ4 AAg rfl Ae rfl (by simp;omega) ?_))))));refine ASo (D ++ [c % 4294967296] ++ List.replicate (A.length + 1 - (A.length + 1)) 0) ACa rfl rfl Ae (by simp;omega) (by rw [hBj];exact AXo hDl Zj) fun h6 Ak U6=>?_;have Bw:=U6.1;have A7:=E3.thenUpd U6 (fun k hk=>by have Ad:k=g1:=hk;omega);have Bx:=E3.thenUpd U6 (fun k hk=>by have Ad:k=g1:=hk;omega);rw [Nat.sub_self,List.replicate_zero,List.append_nil,Nat.mod_eq_of_lt Zj] at Ak;have Am:=Ak.ds (lo:=Array.size h) (AK6 hDd Zj) Ar;refine AHj (Zk (AAr trivial rfl (AKx (Am.mono (Nat.zero_le _)) (by simp;omega)) fun By h6 hk=>?_));obtain ⟨rfl,L2,HT,htl⟩:=hk;refine ⟨trivial,?_⟩;refine Zv (Zy (⟨_,Zz,?_⟩));exact ⟨A7,L2,HT.ds Am.lo,htl,by rw [HT.val,AJy,hDl,hDv];exact hsum,by have:=HT.len;simp at this;omega⟩
theorem AWv {h:Zs} {la lb:Nat} {va vb:Value} {LA LB:List Nat} (HA:DS h la va LA) (HB:DS h lb vb LB) (htb:TL LB) (hle:nv LB<=nv LA) (hna:LA.length<=1000):AAs Tryz.prog 168 #[va,vb] h fun x h'=>Ext h h'/\ ∃ L,DS h' (Array.size h) x L/\TL L/\nv L=nv LA - nv LB/\L.length<=LA.length:=by
 refine AA5 (l:=[_,_]) mx Tryz.func168 rfl rfl rfl rfl rfl Zw (Zn (AA3 (Zk (ABq AAg rfl HA (AYm (n:=LA.length) AAg AJ1 (fun _=>trivial) rfl rfl Zl Zj fun g1 v1 h1 Aj E1 Ak Az=>?_)))));have A3:=E1.1;have Z2:=(Ext.refl h).trans E1;refine AA3 (Zv (Zo (Zn (Zk (ABq AAg rfl (HA.ext E1) (Zk (Zr (Zt (AEh 8796093006272 (fun y:Nat × Nat=>[(14,.int .i64 (y.1:Int)),(6,.int .u64 (y.2:Int))]) (fun k y h'=>k=LA.length - y.1/\y.1<=LA.length/\Ext h h'/\y.2<=1/\ ∃ D,AC4 h' 172 g1 v1 ((D ++ List.replicate (LA.length - y.1) 0).map ALx)/\D.length=y.1/\Dig D/\nv D + nv (LB.take y.1)=nv (LA.take y.1) + 4294967296 ^ y.1 * y.2) Zw LA.length (0,0) ?_ ⟨rfl,rfl,trivial⟩ ?_)))))))))
 ·exact ⟨rfl,Nat.zero_le _,E1,by first | omega | (dsimp only;omega),[],by simpa using Aj,rfl,fun x hx=>(by simp at hx),rfl⟩
 rintro k ⟨i,c⟩ s1 h2 ⟨rfl,hi,E2,hc,D,Ab,hDl,hDd,hDv⟩;dsimp only at hi hc Ab hDl hDv ⊢;have A5:=E2.1;refine Zn (AD0 rfl rfl (fun Am=>?_) (fun Am=>?_))
 ·refine Zr (Zo (AAl rfl (Zx (q_t (Zo (Zt (Zn (Zk (Zv (Zo ?_))))))))));obtain ⟨x,hx⟩:∃ x,LA[i]? =some x:=⟨_,List.getElem?_eq_getElem Zj⟩;have hbx:=HA.dig x (List.mem_of_getElem? hx);refine Z1 (Zk (Zk (AHk AAg rfl (HA.ext E2) rfl hx fun A6 Ao=>AA6 ACa rfl Ao (AQr ACu ACg rfl hbx (Zk (AE4 rfl rfl ?_))))));rw [wrap_u64];refine Zv (AS3 34342961408 (fun s:Int=>[(8,.int .u64 (s % 18446744073709551616))]) (fun s h'=>h'=h2/\s=((x:Int) - (c:Int) - ((LB[i]?.getD 0:Nat):Int))) Zw ?_ ?_)
  ·refine Zn (Zk (Zk (ABq AAg rfl (HB.ext E2) (AD0 rfl rfl (fun Ap=>?_) (fun Ap=>?_)))))
   ·refine Zr (AAl rfl ?_);obtain ⟨y,Af⟩:∃ y,LB[i]? =some y:=⟨_,List.getElem?_eq_getElem Zj⟩;have hby:=HB.dig y (List.mem_of_getElem? Af);refine Z1 (Zk (Zk (Zk (AHk AAg rfl (HB.ext E2) rfl Af fun A7 Aq=>AA6 ACa rfl Aq (AQr ACu ACg rfl hby (AE4 rfl rfl (Zv ?_)))))));exact ⟨((x:Int) - (c:Int) - ((LB[i]?.getD 0:Nat):Int)),⟨rfl,rfl⟩,by rw [Af];show Value.int .u64 _=_;congr 1;rw [wrap_u64];simp only [Option.getD_some];omega,trivial⟩
   ·refine Zr (AAq rfl (Zx (q_t ?_)));exact ⟨((x:Int) - (c:Int) - ((LB[i]?.getD 0:Nat):Int)),⟨rfl,rfl⟩,by rw [List.getElem?_eq_none Zj];show Value.int .u64 _=_;congr 1;simp only [Option.getD_none];omega,trivial⟩
  rintro s s2 h2 ⟨rfl,hs⟩;obtain ⟨y,hy⟩:∃ y,LB[i]?.getD 0=y:=⟨_,rfl⟩;rw [hy] at hs;refine Zo ?_
  have hby:y < 4294967296:=by
    rw [<- hy]
    cases hq:LB[i]? with
    | none=>simp
    | some q=>exact HB.dig q (List.mem_of_getElem? hq)
  refine Z1 (Zk (Zk (Zk (AK3 ACg ACu rfl ?_))));obtain ⟨dg,hdg⟩:∃ dg:Nat,(dg:Int)=s % 4294967296:=⟨(s % 4294967296).toNat,Zj⟩;rw [show IntKind.u32.wrap (s % 18446744073709551616)=(dg:Int) by rw [wrap_u32,hdg];omega];refine AQ4 AAg rfl Ab rfl (by simp;omega) ?_;refine ASo (D ++ [dg] ++ List.replicate (LA.length - (i + 1)) 0) ACa rfl rfl Ab (by simp;omega) (AXo hDl Zj) fun h4 Ar U4=>?_;have A9:=U4.1;have X7:=E2.thenUpd U4 (fun k hk=>by have Av:k=g1:=hk;omega);have Z8:=E2.thenUpd U4 (fun k hk=>by have Av:k=g1:=hk;omega);refine Zr (Z1 (Zk (AYj (n:=63) rfl rfl Zl ?_)));rw [show s % 18446744073709551616 / 2 ^ 63=((if s < 0 then 1 else 0:Nat):Int) by split <;> omega];refine AAi (AAh (q_b (q_t (Z1 (AIk rfl Zj (Zk (Zr ?_)))))));exact ⟨LA.length - (i + 1),(i + 1,if s < 0 then 1 else 0),by first | omega | (dsimp only;omega),⟨rfl,by first | omega | (dsimp only;omega),X7,by dsimp only;split <;> omega,_,Ar,by simp [hDl],AK6 hDd Zj,by rw [AJy,hDl,AJz LB,hy,ABw hx];exact ATb hDv (by split <;> omega)⟩,rfl,rfl,trivial⟩
 ·refine Zr (Zo (AAq rfl (AAe (AAf (AAf (ABk (q_t (Zo ?_))))))));obtain rfl:i=LA.length:=by omega
  rw [List.take_length,List.take_of_length_le (by have:=AKk htb (Nat.lt_of_le_of_lt hle (ALo HA.dig));omega)] at hDv;have hDlt:=ALo hDd;rw [hDl] at hDlt
  have Aw:c=0:=by
    rcases Nat.eq_zero_or_pos c with h0 | h0
    · exact h0
    · obtain rfl:c=1:=by omega
      rw [Nat.mul_one] at hDv;omega
  subst Aw;rw [Nat.mul_zero,Nat.add_zero] at hDv;rw [Nat.sub_self,List.replicate_zero,List.append_nil] at Ab;have Ai:=Ab.ds (lo:=Array.size h) hDd Ak;refine Z1 (Zk (AAr trivial rfl (AKx (Ai.mono (Nat.zero_le _)) Zj) fun x9 h2 hk=>?_));obtain ⟨rfl,L2,HT,htl⟩:=hk;refine ⟨trivial,?_⟩;refine Zv (Zy (⟨_,Zz,?_⟩));exact ⟨E2,L2,HT.ds Ai.lo,htl,by rw [HT.val];omega,by have:=HT.len;omega⟩
theorem Al6 {L:List Nat} (h:Dig L) (hl:L.length<=1):nv L<=4294967295:=by
 have h1:=ALo h;have h2:4294967296 ^ L.length<=4294967296 ^ 1:=Nat.pow_le_pow_right Zl hl;omega
theorem Al7 {A B:List Nat} (ha:Dig A) (hb:Dig B) (la:A.length<=1) (lb:B.length<=1):nv A * nv B < 18446744073709551616:=by
 have:=Nat.mul_le_mul (Al6 ha la) (Al6 hb lb);omega
theorem ANl {a b:Nat} (h:0<=ALv a b):b<=a:=by
 unfold ALv at h;split at h
 ·omega
 ·omega
theorem AR3 {a b:Nat} (h:ALv a b < 0):a<=b:=by
 unfold ALv at h;split at h
 ·omega
 ·split at h <;> omega
theorem AYq {A B:List Nat} (ha:Dig A) (hb:Dig B) (la:A.length<=99) (lb:B.length<=99):nv A + nv B < 4294967296 ^ 100:=by
 have h1:=ALo ha;have h2:=ALo hb;have h3:4294967296 ^ A.length<=4294967296 ^ 99:=Nat.pow_le_pow_right Zl la;have h4:4294967296 ^ B.length<=4294967296 ^ 99:=Nat.pow_le_pow_right Zl lb;have h5:4294967296 ^ 100=4294967296 ^ 99 * 4294967296:=Nat.pow_succ 4294967296 99;rw [h5];have h6:0 < 4294967296 ^ 99:=Nat.pow_pos Zl;generalize 4294967296 ^ 99=t at *;omega
theorem AR4 {a b:Bool} {x y:Nat} (h:a=b):sgn a x + sgn b y=sgn a (x + y):=by
 subst h;cases a <;> simp [sgn] <;> omega
theorem AR5 {a b:Bool} {x y:Nat} (h:a≠b) (hl:y<=x):sgn a x + sgn b y=sgn a (x - y):=by
 cases a <;> cases b <;> simp [sgn] at h ⊢ <;> omega
theorem APn {a b:Bool} {x y:Nat} (h:a≠b) (hl:x<=y):sgn a x + sgn b y=sgn b (y - x):=by
 cases a <;> cases b <;> simp [sgn] at h ⊢ <;> omega
theorem Abx {h:Zs} {la lb:Nat} {va vb:Value} {LA LB:List Nat} (na nb:Bool) (HA:DS h la va LA) (HB:DS h lb vb LB) (hta:TL LA) (htb:TL LB) (hna:LA.length<=99) (hnb:LB.length<=99):AAs Tryz.prog 177 #[.bool na,va,.bool nb,vb] h fun x h'=>Ext h h'/\ZV h' (Array.size h) x (sgn na (nv LA) + sgn nb (nv LB)):=by
 refine AA5 (l:=[_,_,_,_]) mx Tryz.func177 rfl rfl rfl rfl rfl Zw (Zn (AFq [.bool false,.slice none 0 0] AEb rfl (fun _=>trivial) fun Ab h2 V3 E4 A8 Cg=>?_));have Ch:Array.size h<=Ab:=A8;have Ci:=E4.1;have Z8:=(Ext.refl h).trans E4;refine Zr (Zo (Zt (Zn (Zk (Zk (Ac5 ATy rfl rfl ?_))))));cases Cj:na == nb
 ·refine Zv (AAq rfl (Zn (Zk (Zk (AAr trivial rfl (AUm (HA.ext E4) (HB.ext E4) hta htb Zj Zj) fun x9 h2 hk=>?_)))));obtain ⟨rfl,rfl⟩:=hk;refine ⟨trivial,?_⟩;refine AS6 rfl rfl (fun A9=>?_) (fun A9=>?_)
  ·refine Zv (AAl rfl (Zn (Zk (Zk (Zk (AAr trivial rfl (AWv (HA.ext E4) (HB.ext E4) htb (ANl (by assumption)) Zj) fun Cm Cn hk=>?_))))));obtain ⟨Aq,L1,Ac,Ag,Ah,A6⟩:=hk;refine ⟨trivial,?_⟩;have Co:=Aq.1;have Ba:=Z8.trans Aq;have Bb:=E4.trans Aq;have Bc:=V3.ext Aq;have Be:=E4.trans Aq;refine AAr trivial rfl (AIo na Ac Ag Zj) fun Cp Cq hk=>?_;obtain ⟨Ai,Ar⟩:=hk;refine ⟨trivial,?_⟩;have Cr:=Ai.1;have Bf:=Ba.trans Ai;have Bg:=Bb.trans Ai;have Bh:=Bc.ext Ai;have Bi:=Be.trans Ai;have Bj:=Ac.ext Ai;obtain ⟨Ad,s2,L2,rfl,Ae,Av,Aw,Ax⟩:=Ar.out;refine AB3 [.bool Ad,s2] ABa rfl rfl rfl rfl (AH4 Ae.cap) Bh fun Ct Bl Aj=>?_;have Bm:=Bg.thenUpd Aj (fun k hk=>by have Af:k=Ab:=hk;omega);have Cu:=Aj.1;have Cv:=Bf.thenUpd Aj (fun k hk=>by have Af:k=Ab:=hk;omega);have Cw:=Bi.thenUpd Aj (fun k hk=>by have Af:k=Ab:=hk;omega);have Cx:=Bj.updLo Aj Zj;have Bn:=Ae.updLo Aj Zj;refine Zr (Zy (ABp (AAc (⟨_,AB9 ABa rfl rfl Bl,?_⟩))));exact ⟨Bm,⟨Ad,s2,L2,rfl,Bn.mono Zj,Av,Aw,by rw [<- Ax,Ah];first | exact AR4 (eq_of_beq (by assumption)) | exact AR5 (ne_of_beq_false (by assumption)) (ANl (by assumption)) | exact APn (ne_of_beq_false (by assumption)) (AR3 (by assumption))⟩⟩
  ·refine Zv (AAq rfl (Zx (q_b (q_t (Zn (Zk (Zk (Zk (AAr trivial rfl (AWv (HB.ext E4) (HA.ext E4) hta (AR3 (by assumption)) Zj) fun Cy Cz hk=>?_)))))))));obtain ⟨Ay,L1,Ac,Ag,Ah,A6⟩:=hk;refine ⟨trivial,?_⟩;have C0:=Ay.1;have Bo:=Z8.trans Ay;have Bp:=E4.trans Ay;have Bq:=V3.ext Ay;have Br:=E4.trans Ay;refine AAr trivial rfl (AIo nb Ac Ag Zj) fun C1 C2 hk=>?_;obtain ⟨Ak,Ar⟩:=hk;refine ⟨trivial,?_⟩;have C3:=Ak.1;have Bt:=Bo.trans Ak;have Bu:=Bp.trans Ak;have Bv:=Bq.ext Ak;have Bw:=Br.trans Ak;have Bx:=Ac.ext Ak;obtain ⟨Ad,s2,L2,rfl,Ae,Av,Aw,Ax⟩:=Ar.out;refine AB3 [.bool Ad,s2] ABa rfl rfl rfl rfl (AH4 Ae.cap) Bv fun C4 By Am=>?_;have Bz:=Bu.thenUpd Am (fun k hk=>by have Af:k=Ab:=hk;omega);have C5:=Am.1;have C6:=Bt.thenUpd Am (fun k hk=>by have Af:k=Ab:=hk;omega);have C7:=Bw.thenUpd Am (fun k hk=>by have Af:k=Ab:=hk;omega);have C8:=Bx.updLo Am Zj;have B1:=Ae.updLo Am Zj;refine Zr (Zy (⟨_,AB9 ABa rfl rfl By,?_⟩));exact ⟨Bz,⟨Ad,s2,L2,rfl,B1.mono Zj,Av,Aw,by rw [<- Ax,Ah];first | exact AR4 (eq_of_beq (by assumption)) | exact AR5 (ne_of_beq_false (by assumption)) (ANl (by assumption)) | exact APn (ne_of_beq_false (by assumption)) (AR3 (by assumption))⟩⟩
 ·refine Zv (AAl rfl (Zn (Zk (Zk (Zk (AAr trivial rfl (Aal (HA.ext E4) (HB.ext E4) Zj Zj) fun C9 Da hk=>?_))))));obtain ⟨Az,L1,Ac,Ag,Ah,A6⟩:=hk;refine ⟨trivial,?_⟩;have Db:=Az.1;have B3:=Z8.trans Az;have B4:=E4.trans Az;have B5:=V3.ext Az;have B6:=E4.trans Az;refine AAr trivial rfl (AIo na Ac Ag (AKk Ag (by rw [Ah];exact AYq HA.dig HB.dig hna hnb))) fun Dc Dd hk=>?_;obtain ⟨Ao,Ar⟩:=hk;refine ⟨trivial,?_⟩;have De:=Ao.1;have B7:=B3.trans Ao;have B8:=B4.trans Ao;have B9:=B5.ext Ao;have Ca:=B6.trans Ao;have Cb:=Ac.ext Ao;obtain ⟨Ad,s2,L2,rfl,Ae,Av,Aw,Ax⟩:=Ar.out;refine AB3 [.bool Ad,s2] ABa rfl rfl rfl rfl (AH4 Ae.cap) B9 fun Df Cd Ap=>?_;have Ce:=B8.thenUpd Ap (fun k hk=>by have Af:k=Ab:=hk;omega);have Dg:=Ap.1;have Dh:=B7.thenUpd Ap (fun k hk=>by have Af:k=Ab:=hk;omega);have Di:=Ca.thenUpd Ap (fun k hk=>by have Af:k=Ab:=hk;omega);have Dj:=Cb.updLo Ap Zj;have Cf:=Ae.updLo Ap Zj;refine Zr (Zy (ABp (AAc (⟨_,AB9 ABa rfl rfl Cd,?_⟩))));exact ⟨Ce,⟨Ad,s2,L2,rfl,Cf.mono Zj,Av,Aw,by rw [<- Ax,Ah];first | exact AR4 (eq_of_beq (by assumption)) | exact AR5 (ne_of_beq_false (by assumption)) (ANl (by assumption)) | exact APn (ne_of_beq_false (by assumption)) (AR3 (by assumption))⟩⟩
theorem AEd {ng:Bool} {n:Nat} {z:Int} (h:z=sgn ng n):z.natAbs=n:=by
 subst h;cases ng <;> simp [sgn]
theorem Agq (ng:Bool) (n:Nat):sgn (!ng) n= -sgn ng n:=by cases ng <;> simp [sgn]
theorem Sub_ok {h:Zs} {la lb:Nat} {va vb:Value} {a b:Int} (HA:ZV h la va a) (HB:ZV h lb vb b) (hba:a.natAbs < 4294967296 ^ 99) (hbb:b.natAbs < 4294967296 ^ 99):AAs Tryz.prog 162 #[va,vb] h fun x h'=>Ext h h'/\ZV h' (Array.size h) x (a - b):=by
 obtain ⟨na,sa,LA,rfl,HDa,htla,hla,hza⟩:=HA.out;obtain ⟨nb,sb,LB,rfl,HDb,htlb,hlb,hzb⟩:=HB.out;refine AA5 (l:=[_,_]) mx Tryz.func162 rfl rfl rfl rfl rfl Zw (Zn (AH7 [.bool na,sa] (fun _=>trivial) rfl rfl fun Aj h2 V3 E4 A8 B3=>?_));have B4:Array.size h<=Aj:=A8;have B5:=E4.1;have Z8:=(Ext.refl h).trans E4;refine AH7 [.bool nb,sb] (fun _=>trivial) rfl rfl fun Ak B6 Ar Af Ba B7=>?_;have B8:Array.size h<=Ak:=Nat.le_trans E4.1 Ba;have nebq1bq9:Aj≠Ak:=by have:=V3.lt;omega
 have B9:=Af.1;have Au:=E4.trans Af;have Av:=V3.ext Af;refine AFq [.bool false,.slice none 0 0] AEb rfl (fun _=>trivial) fun Ab Ah Bb Ac Bc Ca=>?_;have Cb:Array.size h<=Ab:=Nat.le_trans Au.1 Bc;have nebq1bq20:Aj≠Ab:=by have:=Av.lt;omega
 have nebq9bq20:Ak≠Ab:=by have:=Ar.lt;omega
 have Cd:=Ac.1;have Be:=(Z8.trans Af).trans Ac;have Am:=Au.trans Ac;have Aw:=Av.ext Ac;have Bf:=(E4.trans Af).trans Ac;have Ax:=Ar.ext Ac;have Bg:=Af.trans Ac;refine Zr (Zo (ACb (fun h'=>Ext Ah h') Zw ?_));have Aa:=Ext.refl Ah;refine AEu (fs:=1) AJv Zw Zl rfl (AB8 AD1 rfl Aa (fun h' hb=>(Aw.ext hb).cell (i:=0) rfl) (AEu (fs:=1) AKc Zw Zl rfl (AB8 AGi rfl Aa (fun h' hb=>(Aw.ext hb).cell (i:=1) rfl) (AAr Aa rfl (AKx (DS.mono (HDa.ext Am) (Nat.zero_le _)) Zj) fun Ce Ah hk=>?_))));obtain ⟨rfl,L1,Ao,Ay⟩:=hk;refine ⟨Aa,?_⟩;have Bh:=Ao.ds (lo:=la) HDa.lo;have Az:=Ao.val;have Cg:=Ao.len;refine AEu (fs:=1) AJv Zw Zl rfl (AB8 AD1 rfl Aa (fun h' hb=>(Ax.ext hb).cell (i:=0) rfl) (ADp rfl (AEu (fs:=1) AKc Zw Zl rfl (AB8 AGi rfl Aa (fun h' hb=>(Ax.ext hb).cell (i:=1) rfl) (AAr Aa rfl (AKx (DS.mono (HDb.ext Am) (Nat.zero_le _)) Zj) fun Ch Ah hk=>?_)))));obtain ⟨rfl,L2,Ap,A3⟩:=hk;refine ⟨Aa,?_⟩;have Bi:=Ap.ds (lo:=lb) HDb.lo;have A4:=Ap.val;have Cj:=Ap.len;refine AAr Aa rfl (Abx na (!nb) Bh Bi Ay A3 (AKk Ay (by rw [Az,<- AEd hza];exact hba)) (AKk A3 (by rw [A4,<- AEd hzb];exact hbb))) fun Ck Cm hk=>?_;obtain ⟨Ad,Bj⟩:=hk;have Bl:=Aa.trans Ad;refine ⟨Bl,?_⟩;have Cn:=Ad.1;have Bm:=Be.trans Ad;have Bn:=Am.trans Ad;have Bo:=Bf.trans Ad;have Bp:=Bg.trans Ad;have Bq:=Bb.ext Ad;have Br:=Ac.trans Ad;obtain ⟨A5,s3,L3,rfl,A7,Bu,Bv,Bw⟩:=Bj.out;refine AB3 [.bool A5,s3] ABa rfl rfl rfl rfl (AH4 A7.cap) Bq fun Co Bx Ae=>?_;have By:=Bn.thenUpd Ae (fun k hk=>by have Ai:k=Ab:=hk;omega);have Cp:=Ae.1;have Cq:=Bm.thenUpd Ae (fun k hk=>by have Ai:k=Ab:=hk;omega);have Cr:=Br.thenUpd Ae (fun k hk=>by have Ai:k=Ab:=hk;omega);have Ct:=Bo.thenUpd Ae (fun k hk=>by have Ai:k=Ab:=hk;omega);have Cu:=Bp.thenUpd Ae (fun k hk=>by have Ai:k=Ab:=hk;omega);have Bz:=A7.updLo Ae Zj;refine Zr (Zy (⟨_,AB9 ABa rfl rfl Bx,?_⟩));exact ⟨By,⟨A5,s3,L3,rfl,Bz.mono Zj,Bu,Bv,by rw [<- Bw,Az,A4,hza,hzb,Agq];omega⟩⟩
theorem Abh (a b:Bool) (x y:Nat):sgn a x * sgn b y=sgn (!(a == b)) (x * y):=by
 cases a <;> cases b <;> simp [sgn,Int.neg_mul,Int.mul_neg]
theorem Afb {L:List Nat} (h:Dig L) (hl:L.length<=2):nv L < 18446744073709551616:=by
 have h1:=ALo h;have h2:4294967296 ^ L.length<=4294967296 ^ 2:=Nat.pow_le_pow_right Zl hl;omega
theorem AVj {a b:Nat} (h:ALv a b < 0):a < b:=by
 unfold ALv at h;split at h
 ·assumption
 ·split at h <;> omega
theorem Afs {h:Zs} {la lb:Nat} {va vb:Value} {LA LB:List Nat} (HA:DS h la va LA) (HB:DS h lb vb LB) (hta:TL LA) (htb:TL LB) (Ar:nv LB≠0) (hna:LA.length<=2) (hnb:LB.length<=2):AAs Tryz.prog 166 #[va,vb] h fun x h'=>Ext h h'/\ ∃ q r,x= .tuple #[q,r]/\ ∃ LQ LR,DS h' (Array.size h) q LQ/\DS h' (Array.size h) r LR/\TL LQ/\TL LR/\nv LQ=nv LA / nv LB/\nv LR=nv LA % nv LB/\LQ.length<=2/\LR.length<=2:=by
 refine AA5 (l:=[_,_]) mx Tryz.func166 rfl rfl rfl rfl rfl Zw (Zn (AAi (Zv (Zo (Zt (Zn (Zk (Zk (AAr trivial rfl (AUm HA HB hta htb Zj Zj) fun x1 h hk=>?_)))))))));obtain ⟨rfl,rfl⟩:=hk;refine ⟨trivial,?_⟩;refine AD0 rfl rfl (fun Am=>?_) (fun Am=>?_)
 ·refine Zv (AAl rfl (Zn (Zk (AAr trivial rfl (AWu HA Zj) fun x2 h3 hk=>?_))));obtain ⟨E4,Aa⟩:=hk;refine ⟨trivial,?_⟩;have Ax:=E4.1;have Z6:=(Ext.refl h).trans E4;refine AAi (Zv (Zy (ABp (AAc (⟨_,ABg,?_⟩)))))
  first
  | (have hlt:=AVj (by assumption:ALv (nv LA) (nv LB) < 0)
     exact ⟨E4,_,_,rfl,[],LA,APh _ _,Aa,AQq,hta,by rw [Nat.div_eq_of_lt hlt];rfl,by rw [Nat.mod_eq_of_lt hlt],AAx,Zj⟩)
  | exact ⟨E4,_,_,rfl,L1,L2,lacks_HD1.mono Zj,Aa.mono Zj,Ag,Ah,Ai,Aj,Zj,Zj⟩
 ·refine Zv (AAq rfl (Zn (Zk (ABq AAg rfl HA (AQ5 rfl rfl (fun _=>?_) (fun hc=>absurd hc Zj))))));refine Zv (AAl rfl (Zn (Zk (AAr trivial rfl (AXx HA Zj) fun x7 h hk=>?_))));obtain ⟨rfl,rfl⟩:=hk;refine ⟨trivial,?_⟩;refine Zk (AAr trivial rfl (AXx HB Zj) fun x8 h hk=>?_);obtain ⟨rfl,rfl⟩:=hk;refine ⟨trivial,?_⟩;refine AAi (Zv (Zo ?_));have hlt:=Afb HA.dig hna;refine APa Zw (Zk (Zk (AP9 rfl rfl Zj ?_)));rw [show IntKind.u64.wrap (((nv LA:Nat):Int).tdiv ((nv LB:Nat):Int))=((nv LA / nv LB:Nat):Int) by rw [Int.tdiv_eq_ediv_of_nonneg Zj,<- Int.natCast_ediv,wrap_u64];have hq:=Nat.div_le_self (nv LA) (nv LB);generalize nv LA / nv LB=q at hq ⊢;omega];refine AAr trivial rfl (AN3 (nv LA / nv LB) (by have:=Nat.div_le_self (nv LA) (nv LB);omega) _) fun x9 A5 hk=>?_;obtain ⟨Ad,L1,Ao,Ag,Ai,A6⟩:=hk;refine ⟨trivial,?_⟩;have A7:=Ad.1;have Ap:=(Ext.refl h).trans Ad;refine Zk (Zk (Akd rfl rfl Zj (AAr trivial rfl (AN3 (nv LA % nv LB) (by have:=Nat.mod_le (nv LA) (nv LB);omega) _) fun A8 A9 hk=>?_)));obtain ⟨Ac,L2,Aa,Ah,Aj,Ba⟩:=hk;refine ⟨trivial,?_⟩;have Bb:=Ac.1;have Bc:=Ap.trans Ac;have Ak:=Ad.trans Ac;have Aq:=Ao.ext Ac;refine AAi (Zv (Zy (ABp (AAc (⟨_,ABg,?_⟩)))))
  first
  | (have hlt:=AVj (by assumption:ALv (nv LA) (nv LB) < 0)
     exact ⟨Ak,_,_,rfl,[],LA,APh _ _,Aa,AQq,hta,by rw [Nat.div_eq_of_lt hlt];rfl,by rw [Nat.mod_eq_of_lt hlt],AAx,Zj⟩)
  | exact ⟨Ak,_,_,rfl,L1,L2,Aq.mono Zj,Aa.mono Zj,Ag,Ah,Ai,Aj,Zj,Zj⟩
theorem AKj {a b q r:Int} (hb:b≠0) (h:a=b * q + r) (h0:0<=r) (h1:r < b.natAbs):a / b=q/\a % b=r:=by
 have hr:r % b=r:=by
   rcases AQ8 0 b with hp | hn
   · exact Int.emod_eq_of_lt h0 Zj
   · rw [<- Int.emod_neg];exact Int.emod_eq_of_lt h0 Zj
 have hm:a % b=r:=by rw [h,Int.add_comm,Int.add_mul_emod_self_left];exact hr
 refine ⟨?_,hm⟩;have h2:=Int.mul_ediv_add_emod a b;rw [hm] at h2;have h3:b * (a / b)=b * q:=by omega
 exact Int.eq_of_mul_eq_mul_left hb h3
theorem Arp {A B:Nat} (hA:A < 18446744073709551616) (hr:A % B≠0):A / B + 1 < 18446744073709551616:=by
 match B with
 | 0=>simp
 | 1=>omega
 | n + 2=>
   have:A / (n + 2)<=A / 2:=Nat.div_le_div_left (show 2<=n + 2 by omega) Zj
   omega
theorem Arq {nb:Bool} {A B:Nat} (hB:B≠0):sgn nb (A / B)=(A:Int) / sgn nb B/\sgn false (A % B)=(A:Int) % sgn nb B:=by
 have h:=Nat.div_add_mod A B;have hl:=Nat.mod_lt A (Nat.pos_of_ne_zero hB);have h2:(A:Int)=(B:Int) * ((A / B:Nat):Int) + ((A % B:Nat):Int):=by rw [<- Int.natCast_mul,<- Int.natCast_add,h]
 have:=AKj (a:=A) (b:=sgn nb B) (q:=sgn nb (A / B)) (r:=((A % B:Nat):Int)) (by cases nb <;> simp [sgn] <;> omega) (by cases nb <;> simp only [sgn] <;> simp [Int.neg_mul_neg] <;> (rw [<- Int.natCast_ediv,<- Int.natCast_emod];exact h2)) Zj (by cases nb <;> simp only [sgn] <;> simp <;> omega);exact ⟨this.1.symm,this.2.symm⟩
theorem Ao6 {nb:Bool} {A B:Nat} (hB:B≠0) (hr:A % B≠0):sgn (!nb) (A / B + 1)= -(A:Int) / sgn nb B/\sgn false (B - A % B)= -(A:Int) % sgn nb B:=by
 have h:=Nat.div_add_mod A B;have hl:=Nat.mod_lt A (Nat.pos_of_ne_zero hB);have h2:(A:Int)=(B:Int) * ((A / B:Nat):Int) + ((A % B:Nat):Int):=by rw [<- Int.natCast_mul,<- Int.natCast_add,h]
 obtain ⟨q,hq⟩:∃ q,A / B=q:=⟨_,rfl⟩;obtain ⟨r,hrr⟩:∃ r,A % B=r:=⟨_,rfl⟩;rw [hq,hrr] at h2;rw [hrr] at hl hr;rw [hq,hrr];have e:((B - r:Nat):Int)=(B:Int) - (r:Int):=by omega
 have:=AKj (a:= -(A:Int)) (b:=sgn nb B) (q:=sgn (!nb) (q + 1)) (r:=((B - r:Nat):Int)) (by cases nb <;> simp [sgn] <;> omega) (by rw [h2,e];cases nb <;> simp [sgn] <;> grind) Zj (by cases nb <;> simp only [sgn] <;> simp <;> omega);exact ⟨this.1.symm,this.2.symm⟩
theorem Ao7 {nb:Bool} {A B:Nat} (hB:B≠0) (hr:A % B=0):sgn (!nb) (A / B)= -(A:Int) / sgn nb B/\sgn false (A % B)= -(A:Int) % sgn nb B:=by
 have h:=Nat.div_add_mod A B;have h2:(A:Int)=(B:Int) * ((A / B:Nat):Int):=by rw [<- Int.natCast_mul];omega
 obtain ⟨q,hq⟩:∃ q,A / B=q:=⟨_,rfl⟩;rw [hq] at h2;rw [hq,hr];have:=AKj (a:= -(A:Int)) (b:=sgn nb B) (q:=sgn (!nb) q) (r:=0) (by cases nb <;> simp [sgn] <;> omega) (by rw [h2];cases nb <;> simp [sgn] <;> grind) Zj (by cases nb <;> simp only [sgn] <;> simp <;> omega);exact ⟨this.1.symm,this.2.symm⟩
theorem DivMod2_ok {h:Zs} {la lb:Nat} {va vb:Value} {a b:Int} (HA:ZV h la va a) (HB:ZV h lb vb b) (hba:a.natAbs < 18446744073709551616) (hbb:b.natAbs < 18446744073709551616) (C6:b≠0):AAs Tryz.prog 135 #[va,vb] h fun x h'=>Ext h h'/\ ∃ q r,x= .tuple #[q,r,.bool true]/\ZV h' (Array.size h) q (a / b)/\ZV h' (Array.size h) r (a % b):=by
 obtain ⟨na,sa,LA,rfl,HDa,htla,hla,hza⟩:=HA.out;obtain ⟨nb,sb,LB,rfl,HDb,htlb,hlb,hzb⟩:=HB.out;refine AA5 (l:=[_,_]) mx Tryz.func135 rfl rfl rfl rfl rfl Zw (Zn (AH7 [.bool na,sa] (fun _=>trivial) rfl rfl fun A6 h2 V3 E4 C7 C8=>?_));have Ho:Array.size h<=A6:=C7;have Hq:=E4.1;have Z8:=(Ext.refl h).trans E4;refine AH7 [.bool nb,sb] (fun _=>trivial) rfl rfl fun A7 Hr Bc Ba Da Hs=>?_;have Ht:Array.size h<=A7:=Nat.le_trans E4.1 Da;have nebq1bq9:A6≠A7:=by have:=V3.lt;omega
 have Hu:=Ba.1;have Ch:=E4.trans Ba;have Be:=V3.ext Ba;refine AFq [.bool false,.slice none 0 0] AEb rfl (fun _=>trivial) fun Ac Hv Ci Ay Db Hw=>?_;have Hx:Array.size h<=Ac:=Nat.le_trans Ch.1 Db;have nebq1bq20:A6≠Ac:=by have:=Be.lt;omega
 have nebq9bq20:A7≠Ac:=by have:=Bc.lt;omega
 have Hy:=Ay.1;have Dc:=(Z8.trans Ba).trans Ay;have Cj:=Ch.trans Ay;have Ck:=Be.ext Ay;have Dd:=(E4.trans Ba).trans Ay;have Cm:=Bc.ext Ay;refine AFq [.bool false,.slice none 0 0] AEb rfl (fun _=>trivial) fun Aa Cn De Ax Df Hz=>?_;have Ia:Array.size h<=Aa:=Nat.le_trans Cj.1 Df;have nebq1bq33:A6≠Aa:=by have:=Ck.lt;omega
 have nebq9bq33:A7≠Aa:=by have:=Cm.lt;omega
 have nebq20bq33:Ac≠Aa:=by have:=Ci.lt;omega
 have Ib:=Ax.1;have Dg:=Dc.trans Ax;have Bv:=Cj.trans Ax;have Co:=Ck.ext Ax;have Dh:=Dd.trans Ax;have Cp:=Cm.ext Ax;have Di:=(Ba.trans Ay).trans Ax;have Dj:=Ci.ext Ax;have Dk:=Ay.trans Ax;refine AA3 (AEu (fs:=1) AKc Zw Zl rfl (AA6 AGi rfl (Cp.cell (i:=1) rfl) (AAr trivial rfl (AKx (DS.mono (HDb.ext Bv) (Nat.zero_le _)) Zj) fun Ic Cn hk=>?_)));obtain ⟨rfl,L2,Bw,Bx⟩:=hk;refine ⟨trivial,?_⟩;have By:=Bw.ds (lo:=lb) HDb.lo;have A8:=Bw.val;have Id:=Bw.len;refine Zv (Zo (Zn (Zk (ABq AAg rfl By ?_))));have Bf:nv LB≠0:=fun h0=>C6 (by rw [hzb,h0];cases nb <;> rfl);have hLB:L2≠[]:=fun h0=>Bf (by rw [<- A8,h0];rfl);have hLp:=List.length_pos_iff.2 hLB;refine AQ6 rfl rfl (fun hc=>absurd hc Zj) (fun _=>Zr (AAq rfl (Zx (q_t (Zn (AEu (fs:=1) AKc Zw Zl rfl (AA6 AGi rfl (Co.cell (i:=1) rfl) (AAr trivial rfl (AKx (DS.mono (HDa.ext Bv) (Nat.zero_le _)) Zj) fun Ie Cn hk=>?_))))))));obtain ⟨rfl,L1,Bz,Cr⟩:=hk;refine ⟨trivial,?_⟩;have Ct:=Bz.ds (lo:=la) HDa.lo;have Cu:=Bz.val;have Ih:=Bz.len;refine Zk (AAr trivial rfl (Afs Ct By Cr Bx (by rw [A8];exact Bf) (AKk Cr (by rw [Cu,<- AEd hza];omega)) (AKk Bx (by rw [A8,<- AEd hzb];omega))) fun Ii Ij hk=>?_);obtain ⟨Am,qv,rv,rfl,LQ,LR,HQ,HR,htq,htr,hvq,hvr,hlq,hlr⟩:=hk;refine ⟨trivial,?_⟩;have Ik:=Am.1;have B1:=Dg.trans Am;have B3:=Bv.trans Am;have B4:=Co.ext Am;have B5:=Dh.trans Am;have Dl:=Cp.ext Am;have B6:=Di.trans Am;have B7:=Dj.ext Am;have B8:=Dk.trans Am;have B9:=De.ext Am;have Ca:=By.ext Am;have Cb:=Ct.ext Am;rw [Cu,A8] at hvq hvr;have Il:L2.length<=2:=AKk Bx (by rw [A8,<- AEd hzb];omega);refine Zk (ABj rfl rfl (ABj rfl rfl (AAi (AA3 (AEu (fs:=1) AJv Zw Zl rfl (AA6 AD1 rfl (Dl.cell (i:=0) rfl) (Zv (Zo (Zt (Zo (Zt (Zo (Zt (Zo (Zo (Zo ?_))))))))))))))));have hrl:LR.length=0↔nv LA % nv LB=0:=⟨fun h0=>by rw [<- hvr,List.length_eq_zero_iff.1 h0];rfl,fun h0=>by rw [AFx htr (hvr.trans h0)];rfl⟩;refine Z1 (AEu (fs:=1) AJv Zw Zl rfl (AA6 AD1 rfl (B4.cell (i:=0) rfl) ?_));cases Bg:na
 ·refine Zk (ABb 32 false Zw rfl rfl (ABb 32 false Zw rfl rfl (ABb 32 false Zw rfl rfl (AAo rfl (Zv (AAq rfl (Zx (q_t (Zn (AEu (fs:=1) AJv Zw Zl rfl (AA6 AD1 rfl (B4.cell (i:=0) rfl) ?_)))))))))));rw [Bg];refine Zv (AAq rfl (Zx (q_t (AAe (AXg Zl (AAf (AXg Zl (AAf (ABk (q_t (Zn (Zk (Zk (AAr trivial rfl (AIo nb HQ htq Zj) fun Im Io hk=>?_))))))))))))));obtain ⟨Ao,Bh⟩:=hk;refine ⟨trivial,?_⟩;have Ip:=Ao.1;have Do:=B1.trans Ao;have Dp:=B3.trans Ao;have Dq:=B5.trans Ao;have Dr:=B6.trans Ao;have Ds:=B7.ext Ao;have Dt:=B8.trans Ao;have Du:=B9.ext Ao;have Iq:=Ca.ext Ao;have Ir:=Cb.ext Ao;have HQ_82:=HQ.ext Ao;have HR_83:=HR.ext Ao;obtain ⟨Az,s7,L7,rfl,Bj,Bl,Bm,Bn⟩:=Bh.out;refine Zk (AAr trivial rfl (AIo false HR_83 htr Zj) fun Is It hk=>?_);obtain ⟨Ar,Bo⟩:=hk;refine ⟨trivial,?_⟩;have Iu:=Ar.1;have Dv:=Do.trans Ar;have Dw:=Dp.trans Ar;have Dx:=Dq.trans Ar;have Dy:=Dr.trans Ar;have Dz:=Ds.ext Ar;have D0:=Dt.trans Ar;have D1:=Du.ext Ar;have HQ_98:=HQ_82.ext Ar;have HR_99:=HR_83.ext Ar;have Cv:=Bj.ext Ar;obtain ⟨A4,s8,L8,rfl,Bq,Br,Bt,Bu⟩:=Bo.out;refine AB3 [.bool Az,s7] ABa rfl rfl rfl rfl (AH4 Cv.cap) Dz fun Iv D2 Au=>?_;have D3:=Dw.thenUpd Au (fun k hk=>by have Ab:k=Ac:=hk;omega);have Iw:=Au.1;have D4:=Dv.thenUpd Au (fun k hk=>by have Ab:k=Ac:=hk;omega);have Cd:=D0.thenUpd Au (fun k hk=>by have Ab:k=Ac:=hk;omega);have D5:=Dx.thenUpd Au (fun k hk=>by have Ab:k=Ac:=hk;omega);have D6:=Dy.thenUpd Au (fun k hk=>by have Ab:k=Ac:=hk;omega);have D7:=D1.upd Au (fun he=>(Ne.symm nebq20bq33) (he:Aa=Ac));have HQ_113:=HQ_98.updLo Au Zj;have HR_114:=HR_99.updLo Au Zj;have D8:=Cv.updLo Au Zj;have Cw:=Bq.updLo Au Zj;refine AB3 [.bool A4,s8] ABa rfl rfl rfl rfl (AH4 Cw.cap) D7 fun Ix D9 Ag=>?_;have Ea:=D3.thenUpd Ag (fun k hk=>by have Ab:k=Aa:=hk;omega);have Iy:=Ag.1;have Iz:=D4.thenUpd Ag (fun k hk=>by have Ab:k=Aa:=hk;omega);have I0:=(Be.ext Cd).upd Ag (fun he=>nebq1bq33 (he:A6=Aa));have I1:=D5.thenUpd Ag (fun k hk=>by have Ab:k=Aa:=hk;omega);have I2:=(Bc.ext Cd).upd Ag (fun he=>nebq9bq33 (he:A7=Aa));have I3:=D6.thenUpd Ag (fun k hk=>by have Ab:k=Aa:=hk;omega);have Eb:=D2.upd Ag (fun he=>nebq20bq33 (he:Ac=Aa));have I6:=Cd.thenUpd Ag (fun k hk=>by have Ab:k=Aa:=hk;omega);have HQ_129:=HQ_113.updLo Ag Zj;have HR_130:=HR_114.updLo Ag Zj;have Ec:=D8.updLo Ag Zj;have Ed:=Cw.updLo Ag Zj;refine Zv (Zy (⟨_,AMr ABa rfl rfl Eb ABa rfl rfl D9,?_⟩));have hk:=Arq (nb:=nb) (A:=nv LA) Bf;have ea:a=((nv LA:Nat):Int):=by rw [hza,Bg];rfl
  exact ⟨Ea,_,_,rfl,⟨Az,s7,L7,rfl,Ec.mono Zj,Bl,Bm,by rw [<- Bn,hvq,ea,hzb];exact hk.1.symm⟩,⟨A4,s8,L8,rfl,Ed.mono Zj,Br,Bt,by rw [<- Bu,hvr,ea,hzb];exact hk.2.symm⟩⟩
 ·refine Zk (ABn 32 true Zw rfl rfl (Zk (ABn 32 true Zw rfl rfl (ABq AAg rfl HR (ABn 32 true Zw rfl rfl (APb rfl rfl (fun Ee=>?_) (fun Ee=>?_)))))))
  ·refine AAd rfl (Zv (AAl rfl (AAe (AAf (AAf (ABk (q_t (Zn (Zk (Akm [ALx 1] AAg AJ1 rfl (fun _=>trivial) rfl Zj Zj rfl (by simp [ALx,isOne]) fun g8 v8 h8 Eh E8 I9 Ja=>?_))))))))));have Jc:=E8.1;have Ei:=B1.trans E8;have Ej:=B3.trans E8;have Ek:=B5.trans E8;have El:=B6.trans E8;have Em:=B7.ext E8;have En:=B8.trans E8;have Eo:=B9.ext E8;have Ep:=Ca.ext E8;have Er:=Cb.ext E8;have HQ_146:=HQ.ext E8;have HR_147:=HR.ext E8;have HDu:DS h8 0 v8 [1]:=AC4.ds (L:=[1]) Eh (by intro x hx;rw [List.mem_singleton.1 hx];decide) (Nat.zero_le _);refine AAr trivial rfl (Aal HQ_146 HDu Zj AAx) fun Je Jf hk=>?_;obtain ⟨Ah,L5,Et,Cx,Cy,Jg⟩:=hk;refine ⟨trivial,?_⟩;have Jh:=Ah.1;have Eu:=Ei.trans Ah;have Ev:=Ej.trans Ah;have Ew:=Ek.trans Ah;have Ey:=El.trans Ah;have Ez:=Em.ext Ah;have Fa:=En.trans Ah;have Fb:=Eo.ext Ah;have Cz:=Ep.ext Ah;have Fc:=Er.ext Ah;have HQ_164:=HQ_146.ext Ah;have HR_165:=HR_147.ext Ah;have HDu_166:=HDu.ext Ah;refine Zv (Z1 (Zk (Zk (AAr trivial rfl (AWv Cz HR_165 htr (by rw [hvr,A8];exact Nat.le_of_lt (Nat.mod_lt _ Zj)) Zj) fun Ji Jj hk=>?_))));obtain ⟨Af,L6,Fd,Fe,Ff,C8⟩:=hk;refine ⟨trivial,?_⟩;have Jl:=Af.1;have Fg:=Eu.trans Af;have Fh:=Ev.trans Af;have Fi:=Ew.trans Af;have Fj:=Ey.trans Af;have Fk:=Ez.ext Af;have Fl:=Fa.trans Af;have Fm:=Fb.ext Af;have Fo:=Cz.ext Af;have Fp:=Fc.ext Af;have HQ_183:=HQ_164.ext Af;have HR_184:=HR_165.ext Af;have HDu_185:=HDu_166.ext Af;have C0:=Et.ext Af;refine AAi (AAh (q_b (q_t (Zn (Zk (ADp rfl (Zv (AAe (ABk (q_t (Zn (Zk (Zk (AAr trivial rfl (AIo (!nb) C0 Cx (by have h5:L5.length<=2:=AKk Cx (by rw [Cy,hvq];exact Arp (A:=nv LA) (B:=nv LB) (by rw [<- AEd hza];exact hba) Zj);omega)) fun Jn Jo hk=>?_))))))))))))));obtain ⟨Ad,Bh⟩:=hk;refine ⟨trivial,?_⟩;have Jp:=Ad.1;have Fq:=Fg.trans Ad;have Fr:=Fh.trans Ad;have Ft:=Fi.trans Ad;have Fu:=Fj.trans Ad;have Fv:=Fk.ext Ad;have Fw:=Fl.trans Ad;have Fx:=Fm.ext Ad;have Jq:=Fo.ext Ad;have Jr:=Fp.ext Ad;have HQ_203:=HQ_183.ext Ad;have HR_204:=HR_184.ext Ad;have HDu_205:=HDu_185.ext Ad;have Fy:=C0.ext Ad;have C1:=Fd.ext Ad;obtain ⟨Az,s7,L7,rfl,Bj,Bl,Bm,Bn⟩:=Bh.out;refine Zk (AAr trivial rfl (AIo false C1 Fe Zj) fun Js Jt hk=>?_);obtain ⟨Ai,Bo⟩:=hk;refine ⟨trivial,?_⟩;have Ju:=Ai.1;have Fz:=Fq.trans Ai;have F4:=Fr.trans Ai;have F5:=Ft.trans Ai;have F6:=Fu.trans Ai;have F7:=Fv.ext Ai;have F8:=Fw.trans Ai;have F9:=Fx.ext Ai;have HQ_222:=HQ_203.ext Ai;have HR_223:=HR_204.ext Ai;have Ga:=Fy.ext Ai;have Gb:=C1.ext Ai;have C2:=Bj.ext Ai;obtain ⟨A4,s8,L8,rfl,Bq,Br,Bt,Bu⟩:=Bo.out;refine AB3 [.bool Az,s7] ABa rfl rfl rfl rfl (AH4 C2.cap) F7 fun Jv Gc Aj=>?_;have Gd:=F4.thenUpd Aj (fun k hk=>by have Ab:k=Ac:=hk;omega);have Jw:=Aj.1;have Ge:=Fz.thenUpd Aj (fun k hk=>by have Ab:k=Ac:=hk;omega);have Ce:=F8.thenUpd Aj (fun k hk=>by have Ab:k=Ac:=hk;omega);have Gf:=F5.thenUpd Aj (fun k hk=>by have Ab:k=Ac:=hk;omega);have Gg:=F6.thenUpd Aj (fun k hk=>by have Ab:k=Ac:=hk;omega);have Gh:=F9.upd Aj (fun he=>(Ne.symm nebq20bq33) (he:Aa=Ac));have HQ_239:=HQ_222.updLo Aj Zj;have HR_240:=HR_223.updLo Aj Zj;have Gi:=Ga.updLo Aj Zj;have Gj:=Gb.updLo Aj Zj;have Gk:=C2.updLo Aj Zj;have C3:=Bq.updLo Aj Zj;refine AB3 [.bool A4,s8] ABa rfl rfl rfl rfl (AH4 C3.cap) Gh fun Jx Gl Ae=>?_;have Gm:=Gd.thenUpd Ae (fun k hk=>by have Ab:k=Aa:=hk;omega);have Jy:=Ae.1;have Jz:=Ge.thenUpd Ae (fun k hk=>by have Ab:k=Aa:=hk;omega);have J0:=(Be.ext Ce).upd Ae (fun he=>nebq1bq33 (he:A6=Aa));have J1:=Gf.thenUpd Ae (fun k hk=>by have Ab:k=Aa:=hk;omega);have J2:=(Bc.ext Ce).upd Ae (fun he=>nebq9bq33 (he:A7=Aa));have J3:=Gg.thenUpd Ae (fun k hk=>by have Ab:k=Aa:=hk;omega);have Gn:=Gc.upd Ae (fun he=>nebq20bq33 (he:Ac=Aa));have J4:=Ce.thenUpd Ae (fun k hk=>by have Ab:k=Aa:=hk;omega);have HQ_257:=HQ_239.updLo Ae Zj;have HR_258:=HR_240.updLo Ae Zj;have J5:=Gi.updLo Ae Zj;have J6:=Gj.updLo Ae Zj;have Gp:=Gk.updLo Ae Zj;have Gq:=C3.updLo Ae Zj;refine Zv (Zy (⟨_,AMr ABa rfl rfl Gn ABa rfl rfl Gl,?_⟩));have hk:=Ao6 (nb:=nb) (A:=nv LA) Bf Zj;have ea:a= -((nv LA:Nat):Int):=by rw [hza,Bg];rfl
   exact ⟨Gm,_,_,rfl,⟨Az,s7,L7,rfl,Gp.mono Zj,Bl,Bm,by rw [<- Bn,Cy,hvq,ea,hzb];exact hk.1.symm⟩,⟨A4,s8,L8,rfl,Gq.mono Zj,Br,Bt,by rw [<- Bu,Ff,A8,hvr,ea,hzb];exact hk.2.symm⟩⟩
  ·refine AAd rfl (Zv (AAq rfl (Zx (q_t (Zn (AEu (fs:=1) AJv Zw Zl rfl (AA6 AD1 rfl (B4.cell (i:=0) rfl) ?_)))))));rw [Bg];refine Zv (AAl rfl (AAe (AAf (AXg Zl (AAf (ABk (q_t (Zn (Zk (ADp rfl (Zv (AAe (ABk (q_t (Zn (Zk (Zk (AAr trivial rfl (AIo (!nb) HQ htq Zj) fun J7 J8 hk=>?_))))))))))))))))));obtain ⟨Aq,Bh⟩:=hk;refine ⟨trivial,?_⟩;have J9:=Aq.1;have Gr:=B1.trans Aq;have Gt:=B3.trans Aq;have Gu:=B5.trans Aq;have Gv:=B6.trans Aq;have Gw:=B7.ext Aq;have Gx:=B8.trans Aq;have Gy:=B9.ext Aq;have Ka:=Ca.ext Aq;have Kb:=Cb.ext Aq;have HQ_279:=HQ.ext Aq;have HR_280:=HR.ext Aq;obtain ⟨Az,s7,L7,rfl,Bj,Bl,Bm,Bn⟩:=Bh.out;refine Zk (AAr trivial rfl (AIo false HR_280 htr Zj) fun Kc Kd hk=>?_);obtain ⟨Av,Bo⟩:=hk;refine ⟨trivial,?_⟩;have Ke:=Av.1;have Gz:=Gr.trans Av;have G3:=Gt.trans Av;have G4:=Gu.trans Av;have G5:=Gv.trans Av;have G6:=Gw.ext Av;have G7:=Gx.trans Av;have G8:=Gy.ext Av;have HQ_295:=HQ_279.ext Av;have HR_296:=HR_280.ext Av;have C4:=Bj.ext Av;obtain ⟨A4,s8,L8,rfl,Bq,Br,Bt,Bu⟩:=Bo.out;refine AB3 [.bool Az,s7] ABa rfl rfl rfl rfl (AH4 C4.cap) G6 fun Kf G9 Aw=>?_;have Hb:=G3.thenUpd Aw (fun k hk=>by have Ab:k=Ac:=hk;omega);have Kg:=Aw.1;have Hc:=Gz.thenUpd Aw (fun k hk=>by have Ab:k=Ac:=hk;omega);have Cf:=G7.thenUpd Aw (fun k hk=>by have Ab:k=Ac:=hk;omega);have Hd:=G4.thenUpd Aw (fun k hk=>by have Ab:k=Ac:=hk;omega);have He:=G5.thenUpd Aw (fun k hk=>by have Ab:k=Ac:=hk;omega);have Hf:=G8.upd Aw (fun he=>(Ne.symm nebq20bq33) (he:Aa=Ac));have HQ_310:=HQ_295.updLo Aw Zj;have HR_311:=HR_296.updLo Aw Zj;have Hg:=C4.updLo Aw Zj;have C5:=Bq.updLo Aw Zj;refine AB3 [.bool A4,s8] ABa rfl rfl rfl rfl (AH4 C5.cap) Hf fun Kh Hh Ak=>?_;have Hj:=Hb.thenUpd Ak (fun k hk=>by have Ab:k=Aa:=hk;omega);have Ki:=Ak.1;have Kj:=Hc.thenUpd Ak (fun k hk=>by have Ab:k=Aa:=hk;omega);have Kk:=(Be.ext Cf).upd Ak (fun he=>nebq1bq33 (he:A6=Aa));have Kl:=Hd.thenUpd Ak (fun k hk=>by have Ab:k=Aa:=hk;omega);have Km:=(Bc.ext Cf).upd Ak (fun he=>nebq9bq33 (he:A7=Aa));have Kn:=He.thenUpd Ak (fun k hk=>by have Ab:k=Aa:=hk;omega);have Hk:=G9.upd Ak (fun he=>nebq20bq33 (he:Ac=Aa));have Ko:=Cf.thenUpd Ak (fun k hk=>by have Ab:k=Aa:=hk;omega);have HQ_326:=HQ_310.updLo Ak Zj;have HR_327:=HR_311.updLo Ak Zj;have Hl:=Hg.updLo Ak Zj;have Hm:=C5.updLo Ak Zj;refine Zv (Zy (⟨_,AMr ABa rfl rfl Hk ABa rfl rfl Hh,?_⟩));have hk:=Ao7 (nb:=nb) (A:=nv LA) Bf Zj;have ea:a= -((nv LA:Nat):Int):=by rw [hza,Bg];rfl
   exact ⟨Hj,_,_,rfl,⟨Az,s7,L7,rfl,Hl.mono Zj,Bl,Bm,by rw [<- Bn,hvq,ea,hzb];exact hk.1.symm⟩,⟨A4,s8,L8,rfl,Hm.mono Zj,Br,Bt,by rw [<- Bu,hvr,ea,hzb];exact hk.2.symm⟩⟩
end Go.Proofs.YtdkldlbgcfpglaaGreatDoor.Ig
namespace Go.QF
open Go
section
variable {P:Program} {B:Zs->Prop} {st:Bool} {ops:Array Oper} {rest:List Oper} {e:Env} {h:Zs} {K:Env->Zs->Prop} {d:Nat} {ty:TypeId} {pos:String} {af:Array Edge}
theorem Ag7 {x y z:Operand} {t el er g lo hi:Nat} {v:Value} {l:List Value} {k1 k2:IntKind} (hT:SlT P t el 1) (hx:e.ev x=v) (HO:AC4 h er g v l) (hy:e.ev y= .int k1 (lo:Int)) (hz:e.ev z= .int k2 (hi:Int)) (hlt:lo < hi) (hle:hi<=l.length)
    (H:∀ c,RL P B st ops rest (e.set d (.slice (some ⟨g,lo,none⟩) (hi - lo) c)) h K):RL P B st ops (⟨some d,.slice t x (some y) (some z) none,ty,pos,af,none⟩ :: rest) e h K:=by
  obtain ⟨cap,cur,rfl,hg,h1,h2,h3,h4⟩:=HO;refine AEi (v:= .slice (some ⟨g,lo,none⟩) (hi - lo) (cap - lo)) rfl rfl (fun w=>?_) (H _);obtain ⟨hu,i,hi',hs⟩:=hT;have a4: ¬ cap=lo:=by omega
  simp [execOp,hx,hy,hz,Instr.sliceAt,Instr.slice,AI7 hu,Instr.sliceBounds,Instr.sliceBound,asIntOf,a4,ANg hi',hs,Addr.add];rw [if_pos Zj,if_pos Zj]
  by_cases h0:lo=0
  · subst h0;simp
  · rw [if_neg h0]
theorem Aam {x i:Operand} {t el g o n c j:Nat} {k:IntKind} (hT:SlT P t el 1) (hx:e.ev x= .slice (some ⟨g,o,none⟩) n c) (hi:e.ev i= .int k (j:Int)) (hj:j < n)
    (H:RL P B st ops rest (e.set d (.pointer (some ⟨g,o + j,none⟩))) h K):RL P B st ops (⟨some d,.indexAddr t x i,ty,pos,af,none⟩ :: rest) e h K:=by
  refine Aey hT hx hi Zj Zj ?_;have he:(⟨g,o,none⟩:Addr).add ((j:Int).toNat * 1)=⟨g,o + j,none⟩:=by rw [AEj];simp
  rw [he];exact H
end
end Go.QF
namespace Go.Proofs.YtdkldlbgcfpglaaGreatDoor.Ig
open Go Go.QF
set_option maxRecDepth 100000
theorem Ai2 {h:Zs} {la lb:Nat} {va vb:Value} {LA LB:List Nat} (HA:DS h la va LA) (HB:DS h lb vb LB) (hna:LA.length<=1000) (hnb:LB.length<=1000):AAs Tryz.prog 169 #[va,vb] h fun x h'=>Ext h h'/\ ∃ L,DS h' (Array.size h) x L/\TL L/\nv L=nv LA * nv LB/\L.length<=LA.length + LB.length + 2:=by
 refine AA5 (l:=[_,_]) mx Tryz.func169 rfl rfl rfl rfl rfl Zw (Zn (Zv (Zo (Zn (Zk (ABq AAg rfl HA (AQ5 rfl rfl (fun Aw=>?_) (fun Aw=>?_))))))))
 ·refine Zk (ABn 15 true Zw rfl rfl (Zk (ABn 15 true Zw rfl rfl (ABq AAg rfl HB (ABn 15 true Zw rfl rfl (AQ5 rfl rfl (fun Ax=>?_) (fun Ax=>?_)))))))
  ·refine AAd rfl (Zr (AAl rfl (Zn (Zk (AAr trivial rfl (AXx HA Zj) fun x1 h hk=>?_)))));obtain ⟨rfl,rfl⟩:=hk;refine ⟨trivial,?_⟩;refine Zk (AAr trivial rfl (AXx HB Zj) fun x2 h hk=>?_);obtain ⟨rfl,rfl⟩:=hk;refine ⟨trivial,?_⟩;have hm:=Al7 HA.dig HB.dig Zj Zj;refine Aa8 rfl rfl hm (AAr trivial rfl (AN3 (nv LA * nv LB) Zj _) fun x3 h4 hk=>?_);obtain ⟨E5,L1,Ay,Ak,Am,Av⟩:=hk;refine ⟨trivial,?_⟩;have Bo:=E5.1;have Z7:=(Ext.refl h).trans E5;refine Zv (Zy (AAc (⟨_,Zz,?_⟩)))
   first
   | exact ⟨E5,L1,Ay,Ak,Am,Zj⟩
   | exact ⟨E5,L2,HT.ds HDo.lo,htl,by rw [HT.val,hOv],by have:=HT.len;omega⟩
  ·refine AAd rfl (Zr (AAq rfl (Zx (q_t (Zn (Zk (ABq AAg rfl HA (Zk (ABq AAg rfl HB (ANj rfl rfl Zj (AYm (n:=LA.length + LB.length) AAg AJ1 (fun _=>trivial) rfl rfl Zl Zj fun g1 v1 h1 Ao E1 Az Av=>?_)))))))))));have Bq:=E1.1;have Z9:=(Ext.refl h).trans E1;refine Zv (Zo (Zn (Zk (ABq AAg rfl (HA.ext E1) (Zk (Zr (Zt (AEh 19342813113834049615433664 (fun y:Nat × List Nat=>[(34,.int .i64 (y.1:Int))]) (fun k y h'=>k=LA.length - y.1/\y.1<=LA.length/\Ext h h'/\g1 < Array.size h'/\AC4 h' 172 g1 v1 (y.2.map ALx)/\y.2.length=LA.length + LB.length/\Dig y.2/\nv y.2=nv (LA.take y.1) * nv LB/\ ∀ q,y.1 + LB.length<=q->q < LA.length + LB.length->y.2[q]? =some 0) Zw LA.length (0,List.replicate (LA.length + LB.length) 0) ?_ ⟨rfl,trivial⟩ ?_))))))))
   ·exact ⟨rfl,Nat.zero_le _,E1,Zj,Ao,AAx,fun x hx=>by rw [(List.mem_replicate.1 hx).2];decide,by simp [nv,AYr],fun q hq A3=>by dsimp only;rw [List.getElem?_replicate];simp;omega⟩
   rintro k ⟨i,O⟩ s1 hq ⟨rfl,hi,XQ,hgq,Aa,hOl,hOd,hOv,hOz⟩;dsimp only at hi Aa hOl hOd hOv hOz ⊢;refine Zn (AD0 rfl rfl (fun A4=>?_) (fun A4=>?_))
   ·refine Zr (Zo (AAl rfl (Zx (q_t (Zo (Zt (Zo ?_)))))));obtain ⟨x,hx⟩:∃ x,LA[i]? =some x:=⟨_,List.getElem?_eq_getElem Zj⟩;have hbx:=HA.dig x (List.mem_of_getElem? hx);refine Z1 (Zk (AHk AAg rfl (HA.ext XQ) rfl hx fun Bt A5=>AA6 ACa rfl A5 (AAi (Zv (Zo (Zn (Zk (AQ6 rfl rfl (fun A6=>?_) (fun A6=>?_)))))))))
    ·refine Zr (AAl rfl (AAe (AAf (ABk (q_t (Z1 (AIk rfl Zj (Zk (Zr ?_)))))))));exact ⟨LA.length - (i + 1),(i + 1,O),by first | omega | (dsimp only;omega),⟨rfl,by first | omega | (dsimp only;omega),XQ,Zj,Aa,hOl,hOd,by dsimp only;rw [hOv,ABw hx,show x=0 by omega];simp,fun q h1 h2=>hOz q (by dsimp only at h1;omega) h2⟩,rfl,trivial⟩
    ·refine Zr (AAq rfl (Zx (q_t (Zn (Zk (Zk (Zk (Zk (ABq AAg rfl (HB.ext XQ) (ANj rfl rfl Zj (ANj (b:=1) rfl rfl Zj (Ag7 (lo:=i) (hi:=i + LB.length + 1) AAg rfl Aa rfl rfl Zj (by rw [List.length_map];omega) fun cw=>?_))))))))))));refine AA3 (Zv (Zo (Zn (Zk (ABq AAg rfl (HB.ext XQ) (Zk (Zr (Zt (AEh 151115725200028833156608 (fun y:Nat × Nat × List Nat=>[(51,.int .i64 (y.1:Int)),(9,.int .u64 (y.2.1:Int))]) (fun k y h'=>k=LB.length - y.1/\y.1<=LB.length/\Ext h h'/\g1 < Array.size h'/\AC4 h' 172 g1 v1 (y.2.2.map ALx)/\y.2.2.length=LA.length + LB.length/\Dig y.2.2/\y.2.1 < 4294967296/\nv y.2.2 + 4294967296 ^ (i + y.1) * y.2.1=nv (LA.take i) * nv LB + 4294967296 ^ i * (x * nv (LB.take y.1))/\ ∀ q,i + LB.length<=q->q < LA.length + LB.length->y.2.2[q]? =some 0) Zw LB.length (0,0,O) ?_ ⟨rfl,rfl,trivial⟩ ?_)))))))))
     ·exact ⟨rfl,Nat.zero_le _,XQ,Zj,Aa,hOl,hOd,by dsimp only;omega,by simp [nv,hOv],hOz⟩
     rintro k ⟨j,c,O⟩ s2 hp ⟨rfl,hj,XQ,hgq,Aa,hOl,hOd,hc,hOv,hOz⟩;dsimp only at hj Aa hOl hOd hc hOv hOz ⊢;refine Zn (AD0 rfl rfl (fun A7=>?_) (fun A7=>?_))
     ·refine Zr (Zo (AAl rfl (Zx (q_t (Zo (Zt (Zo ?_)))))));obtain ⟨y,hy⟩:∃ x,LB[j]? =some x:=⟨_,List.getElem?_eq_getElem Zj⟩;have hby:=HB.dig y (List.mem_of_getElem? hy);obtain ⟨ov,hov⟩:∃ x,O[i + j]? =some x:=⟨_,List.getElem?_eq_getElem Zj⟩;have hbo:=hOd ov (List.mem_of_getElem? hov);have htb:=Aa9 hc hbx hby hbo;have hxy:x * y<=4294967295 * 4294967295:=Nat.mul_le_mul Zj Zj;refine Z1 (Zk (AHk AAg rfl (HB.ext XQ) rfl hy fun Bu A8=>AA6 ACa rfl A8 (AAi (AA3 (Zk (Zk (AQr ACu ACg rfl hbx (Zk (AQr ACu ACg rfl hby (Aa8 rfl rfl Zj (Zk (Zk (Aam AAg rfl rfl Zj (AA6 ACa rfl (AC4.cell Aa (AQd hov)) (AQr ACu ACg rfl hbo (AMs rfl rfl Zj (AMs rfl rfl Zj ?_)))))))))))))))));refine AA3 (Zk (Zk (Zk (ASp ACg ACu rfl (Aam AAg rfl rfl Zj (ASo (O.set (i + j) ((c + (x * y + ov)) % 4294967296)) ACa rfl rfl Aa Zj rfl fun h4 Ap U4=>?_))))));have Bv:=U4.1;have A9:=XQ.thenUpd U4 (fun k hk=>by have Aq:k=g1:=hk;omega);refine Zr (Z1 (Zk (ARz rfl rfl (AAi (AAh (q_b (q_t (Z1 (AIk rfl Zj (Zk (Zr ?_)))))))))));exact ⟨LB.length - (j + 1),(j + 1,(c + (x * y + ov)) / 4294967296,O.set (i + j) ((c + (x * y + ov)) % 4294967296)),by first | omega | (dsimp only;omega),⟨rfl,by first | omega | (dsimp only;omega),A9,Zj,Ap,by simp [hOl],AQe hOd (Nat.mod_lt _ Zl),by dsimp only;exact Nat.div_lt_of_lt_mul htb,by dsimp only;rw [ABw hy];exact AYn (Pi:=0) (ATc _ hov) hOv (Nat.mod_add_div _ _),fun q h1 h2=>by dsimp only;rw [List.getElem?_set_ne Zj];exact hOz q h1 h2⟩,rfl,rfl,trivial⟩
     ·refine Zr (Zo (AAq rfl (AAe (AAf (AAf (ABk (q_t ?_)))))));obtain rfl:j=LB.length:=by omega
      refine Z1 (Zk (Zk (ABq AAg rfl (HB.ext XQ) (Zk (ASp ACg ACu rfl ?_)))));rw [Nat.mod_eq_of_lt hc];refine Aam AAg rfl rfl Zj (ASo (O.set (i + LB.length) (c)) ACa rfl rfl Aa Zj rfl fun h5 Ar U5=>?_);have Bw:=U5.1;have Bb:=XQ.thenUpd U5 (fun k hk=>by have Aq:k=g1:=hk;omega);refine AAh (q_b (q_t (Z1 (AIk rfl Zj (Zk (Zr ?_))))));exact ⟨LA.length - (i + 1),(i + 1,O.set (i + LB.length) c),by first | omega | (dsimp only;omega),⟨rfl,by first | omega | (dsimp only;omega),Bb,Zj,Ar,by simp [hOl],AQe hOd hc,by dsimp only;have h1:=ATc c (hOz (i + LB.length) (Nat.le_refl _) Zj);rw [Nat.mul_zero,Nat.add_zero] at h1;rw [h1,hOv,List.take_length,ABw hx,Nat.add_mul,Nat.mul_assoc],fun q h1 h2=>by dsimp only;rw [List.getElem?_set_ne Zj];exact hOz q Zj h2⟩,rfl,trivial⟩
   ·refine Zr (Zo (AAq rfl (AAe (AAf (AAf (ABk (q_t (Zo ?_))))))));obtain rfl:i=LA.length:=by omega
    rw [List.take_length] at hOv;have HDo:=Aa.ds (lo:=Array.size h) hOd Zj;refine Z1 (Zk (AAr trivial rfl (AKx (DS.mono HDo (Nat.zero_le _)) Zj) fun Bx hq hk=>?_));obtain ⟨rfl,L2,HT,htl⟩:=hk;refine ⟨trivial,?_⟩;refine Zv (Zy (⟨_,Zz,?_⟩))
    first
    | exact ⟨XQ,L1,lacks_HD1,Ak,Am,Zj⟩
    | exact ⟨XQ,L2,HT.ds HDo.lo,htl,by rw [HT.val,hOv],by have:=HT.len;omega⟩
 ·refine Zk (ABb 15 false Zw rfl rfl (ABb 15 false Zw rfl rfl (ABb 15 false Zw rfl rfl (AAo rfl (Zr (AAq rfl (Zx (q_t (Zn (Zk (ABq AAg rfl HA (Zk (ABq AAg rfl HB (ANj rfl rfl Zj (AYm (n:=LA.length + LB.length) AAg AJ1 (fun _=>trivial) rfl rfl Zl Zj fun g1 v1 h1 Ao E1 Az Av=>?_)))))))))))))));have By:=E1.1;have Bz:=(Ext.refl h).trans E1;refine Zv (Zo (Zn (Zk (ABq AAg rfl (HA.ext E1) (Zk (Zr (Zt (AEh 19342813113834049615433664 (fun y:Nat × List Nat=>[(34,.int .i64 (y.1:Int))]) (fun k y h'=>k=LA.length - y.1/\y.1<=LA.length/\Ext h h'/\g1 < Array.size h'/\AC4 h' 172 g1 v1 (y.2.map ALx)/\y.2.length=LA.length + LB.length/\Dig y.2/\nv y.2=nv (LA.take y.1) * nv LB/\ ∀ q,y.1 + LB.length<=q->q < LA.length + LB.length->y.2[q]? =some 0) Zw LA.length (0,List.replicate (LA.length + LB.length) 0) ?_ ⟨rfl,trivial⟩ ?_))))))))
  ·exact ⟨rfl,Nat.zero_le _,E1,Zj,Ao,AAx,fun x hx=>by rw [(List.mem_replicate.1 hx).2];decide,by simp [nv,AYr],fun q hq A3=>by dsimp only;rw [List.getElem?_replicate];simp;omega⟩
  rintro k ⟨i,O⟩ s1 hq ⟨rfl,hi,XQ,hgq,Aa,hOl,hOd,hOv,hOz⟩;dsimp only at hi Aa hOl hOd hOv hOz ⊢;refine Zn (AD0 rfl rfl (fun Bc=>?_) (fun Bc=>?_))
  ·refine Zr (Zo (AAl rfl (Zx (q_t (Zo (Zt (Zo ?_)))))));obtain ⟨x,hx⟩:∃ x,LA[i]? =some x:=⟨_,List.getElem?_eq_getElem Zj⟩;have hbx:=HA.dig x (List.mem_of_getElem? hx);refine Z1 (Zk (AHk AAg rfl (HA.ext XQ) rfl hx fun B1 Be=>AA6 ACa rfl Be (AAi (Zv (Zo (Zn (Zk (AQ6 rfl rfl (fun Bf=>?_) (fun Bf=>?_)))))))))
   ·refine Zr (AAl rfl (AAe (AAf (ABk (q_t (Z1 (AIk rfl Zj (Zk (Zr ?_)))))))));exact ⟨LA.length - (i + 1),(i + 1,O),by first | omega | (dsimp only;omega),⟨rfl,by first | omega | (dsimp only;omega),XQ,Zj,Aa,hOl,hOd,by dsimp only;rw [hOv,ABw hx,show x=0 by omega];simp,fun q h1 h2=>hOz q (by dsimp only at h1;omega) h2⟩,rfl,trivial⟩
   ·refine Zr (AAq rfl (Zx (q_t (Zn (Zk (Zk (Zk (Zk (ABq AAg rfl (HB.ext XQ) (ANj rfl rfl Zj (ANj (b:=1) rfl rfl Zj (Ag7 (lo:=i) (hi:=i + LB.length + 1) AAg rfl Aa rfl rfl Zj (by rw [List.length_map];omega) fun cw=>?_))))))))))));refine AA3 (Zv (Zo (Zn (Zk (ABq AAg rfl (HB.ext XQ) (Zk (Zr (Zt (AEh 151115725200028833156608 (fun y:Nat × Nat × List Nat=>[(51,.int .i64 (y.1:Int)),(9,.int .u64 (y.2.1:Int))]) (fun k y h'=>k=LB.length - y.1/\y.1<=LB.length/\Ext h h'/\g1 < Array.size h'/\AC4 h' 172 g1 v1 (y.2.2.map ALx)/\y.2.2.length=LA.length + LB.length/\Dig y.2.2/\y.2.1 < 4294967296/\nv y.2.2 + 4294967296 ^ (i + y.1) * y.2.1=nv (LA.take i) * nv LB + 4294967296 ^ i * (x * nv (LB.take y.1))/\ ∀ q,i + LB.length<=q->q < LA.length + LB.length->y.2.2[q]? =some 0) Zw LB.length (0,0,O) ?_ ⟨rfl,rfl,trivial⟩ ?_)))))))))
    ·exact ⟨rfl,Nat.zero_le _,XQ,Zj,Aa,hOl,hOd,by dsimp only;omega,by simp [nv,hOv],hOz⟩
    rintro k ⟨j,c,O⟩ s2 hp ⟨rfl,hj,XQ,hgq,Aa,hOl,hOd,hc,hOv,hOz⟩;dsimp only at hj Aa hOl hOd hc hOv hOz ⊢;refine Zn (AD0 rfl rfl (fun Bg=>?_) (fun Bg=>?_))
    ·refine Zr (Zo (AAl rfl (Zx (q_t (Zo (Zt (Zo ?_)))))));obtain ⟨y,hy⟩:∃ x,LB[j]? =some x:=⟨_,List.getElem?_eq_getElem Zj⟩;have hby:=HB.dig y (List.mem_of_getElem? hy);obtain ⟨ov,hov⟩:∃ x,O[i + j]? =some x:=⟨_,List.getElem?_eq_getElem Zj⟩;have hbo:=hOd ov (List.mem_of_getElem? hov);have htb:=Aa9 hc hbx hby hbo;have hxy:x * y<=4294967295 * 4294967295:=Nat.mul_le_mul Zj Zj;refine Z1 (Zk (AHk AAg rfl (HB.ext XQ) rfl hy fun B3 Bh=>AA6 ACa rfl Bh (AAi (AA3 (Zk (Zk (AQr ACu ACg rfl hbx (Zk (AQr ACu ACg rfl hby (Aa8 rfl rfl Zj (Zk (Zk (Aam AAg rfl rfl Zj (AA6 ACa rfl (AC4.cell Aa (AQd hov)) (AQr ACu ACg rfl hbo (AMs rfl rfl Zj (AMs rfl rfl Zj ?_)))))))))))))))));refine AA3 (Zk (Zk (Zk (ASp ACg ACu rfl (Aam AAg rfl rfl Zj (ASo (O.set (i + j) ((c + (x * y + ov)) % 4294967296)) ACa rfl rfl Aa Zj rfl fun h4 Ap U4=>?_))))));have B4:=U4.1;have Bi:=XQ.thenUpd U4 (fun k hk=>by have Aq:k=g1:=hk;omega);refine Zr (Z1 (Zk (ARz rfl rfl (AAi (AAh (q_b (q_t (Z1 (AIk rfl Zj (Zk (Zr ?_)))))))))));exact ⟨LB.length - (j + 1),(j + 1,(c + (x * y + ov)) / 4294967296,O.set (i + j) ((c + (x * y + ov)) % 4294967296)),by first | omega | (dsimp only;omega),⟨rfl,by first | omega | (dsimp only;omega),Bi,Zj,Ap,by simp [hOl],AQe hOd (Nat.mod_lt _ Zl),by dsimp only;exact Nat.div_lt_of_lt_mul htb,by dsimp only;rw [ABw hy];exact AYn (Pi:=0) (ATc _ hov) hOv (Nat.mod_add_div _ _),fun q h1 h2=>by dsimp only;rw [List.getElem?_set_ne Zj];exact hOz q h1 h2⟩,rfl,rfl,trivial⟩
    ·refine Zr (Zo (AAq rfl (AAe (AAf (AAf (ABk (q_t ?_)))))));obtain rfl:j=LB.length:=by omega
     refine Z1 (Zk (Zk (ABq AAg rfl (HB.ext XQ) (Zk (ASp ACg ACu rfl ?_)))));rw [Nat.mod_eq_of_lt hc];refine Aam AAg rfl rfl Zj (ASo (O.set (i + LB.length) (c)) ACa rfl rfl Aa Zj rfl fun h5 Ar U5=>?_);have B5:=U5.1;have Bj:=XQ.thenUpd U5 (fun k hk=>by have Aq:k=g1:=hk;omega);refine AAh (q_b (q_t (Z1 (AIk rfl Zj (Zk (Zr ?_))))));exact ⟨LA.length - (i + 1),(i + 1,O.set (i + LB.length) c),by first | omega | (dsimp only;omega),⟨rfl,by first | omega | (dsimp only;omega),Bj,Zj,Ar,by simp [hOl],AQe hOd hc,by dsimp only;have h1:=ATc c (hOz (i + LB.length) (Nat.le_refl _) Zj);rw [Nat.mul_zero,Nat.add_zero] at h1;rw [h1,hOv,List.take_length,ABw hx,Nat.add_mul,Nat.mul_assoc],fun q h1 h2=>by dsimp only;rw [List.getElem?_set_ne Zj];exact hOz q Zj h2⟩,rfl,trivial⟩
  ·refine Zr (Zo (AAq rfl (AAe (AAf (AAf (ABk (q_t (Zo ?_))))))));obtain rfl:i=LA.length:=by omega
   rw [List.take_length] at hOv;have HDo:=Aa.ds (lo:=Array.size h) hOd Zj;refine Z1 (Zk (AAr trivial rfl (AKx (DS.mono HDo (Nat.zero_le _)) Zj) fun B6 hq hk=>?_));obtain ⟨rfl,L2,HT,htl⟩:=hk;refine ⟨trivial,?_⟩;refine Zv (Zy (⟨_,Zz,?_⟩))
   first
   | exact ⟨XQ,L1,lacks_HD1,Ak,Am,Zj⟩
   | exact ⟨XQ,L2,HT.ds HDo.lo,htl,by rw [HT.val,hOv],by have:=HT.len;omega⟩
theorem MulZ_ok {h:Zs} {la lb:Nat} {va vb:Value} {a b:Int} (HA:ZV h la va a) (HB:ZV h lb vb b) (hab:a.natAbs * b.natAbs < 4294967296 ^ 100):AAs Tryz.prog 136 #[va,vb] h fun x h'=>Ext h h'/\ZV h' (Array.size h) x (a * b):=by
 obtain ⟨na,sa,LA,rfl,HDa,htla,hla,hza⟩:=HA.out;obtain ⟨nb,sb,LB,rfl,HDb,htlb,hlb,hzb⟩:=HB.out;refine AA5 (l:=[_,_]) mx Tryz.func136 rfl rfl rfl rfl rfl Zw (Zn (AH7 [.bool na,sa] (fun _=>trivial) rfl rfl fun Ak h2 V3 E4 Bb Ce=>?_));have Cf:Array.size h<=Ak:=Bb;have Cg:=E4.1;have Z8:=(Ext.refl h).trans E4;refine AH7 [.bool nb,sb] (fun _=>trivial) rfl rfl fun Am Ch Av Ag Be Ci=>?_;have Cj:Array.size h<=Am:=Nat.le_trans E4.1 Be;have nebq1bq9:Ak≠Am:=by have:=V3.lt;omega
 have Ck:=Ag.1;have Aw:=E4.trans Ag;have Ax:=V3.ext Ag;refine AFq [.bool false,.slice none 0 0] AEb rfl (fun _=>trivial) fun Ac Ai Bf Ad Bg Cm=>?_;have Cn:Array.size h<=Ac:=Nat.le_trans Aw.1 Bg;have nebq1bq20:Ak≠Ac:=by have:=Ax.lt;omega
 have nebq9bq20:Am≠Ac:=by have:=Av.lt;omega
 have Co:=Ad.1;have Bh:=(Z8.trans Ag).trans Ad;have Ao:=Aw.trans Ad;have Ay:=Ax.ext Ad;have Bi:=(E4.trans Ag).trans Ad;have Az:=Av.ext Ad;have Bj:=Ag.trans Ad;refine Zr (Zo (ACb (fun h'=>Ext Ai h') Zw ?_));have Aa:=Ext.refl Ai;refine AEu (fs:=1) AJv Zw Zl rfl (AB8 AD1 rfl Aa (fun h' hb=>(Ay.ext hb).cell (i:=0) rfl) (AEu (fs:=1) AJv Zw Zl rfl (AB8 AD1 rfl Aa (fun h' hb=>(Az.ext hb).cell (i:=0) rfl) (AYl ATy rfl rfl (AEu (fs:=1) AKc Zw Zl rfl (AB8 AGi rfl Aa (fun h' hb=>(Ay.ext hb).cell (i:=1) rfl) (AAr Aa rfl (AKx (DS.mono (HDa.ext Ao) (Nat.zero_le _)) Zj) fun Cp Ai hk=>?_)))))));obtain ⟨rfl,L1,Ap,Cr⟩:=hk;refine ⟨Aa,?_⟩;have Bl:=Ap.ds (lo:=la) HDa.lo;have A3:=Ap.val;have Ct:=Ap.len;refine AEu (fs:=1) AKc Zw Zl rfl (AB8 AGi rfl Aa (fun h' hb=>(Az.ext hb).cell (i:=1) rfl) (AAr Aa rfl (AKx (DS.mono (HDb.ext Ao) (Nat.zero_le _)) Zj) fun Cu Ai hk=>?_));obtain ⟨rfl,L2,Aq,Cw⟩:=hk;refine ⟨Aa,?_⟩;have Bm:=Aq.ds (lo:=lb) HDb.lo;have A4:=Aq.val;have Cx:=Aq.len;refine AAr Aa rfl (Ai2 Bl Bm Zj Zj) fun Cy Cz hk=>?_;obtain ⟨Ae,L4,A5,A6,A7,C1⟩:=hk;have Ar:=Aa.trans Ae;refine ⟨Ar,?_⟩;have C2:=Ae.1;have Bn:=Bh.trans Ae;have Bo:=Ao.trans Ae;have Bp:=Bi.trans Ae;have Bq:=Bj.trans Ae;have Br:=Bf.ext Ae;have Bt:=Ad.trans Ae;refine AAr Ar rfl (AIo (!(na == nb)) A5 A6 (AKk A6 (by rw [A7,A3,A4,<- AEd hza,<- AEd hzb];exact hab))) fun C3 C4 hk=>?_;obtain ⟨Ab,Bu⟩:=hk;have Bv:=Ar.trans Ab;refine ⟨Bv,?_⟩;have C5:=Ab.1;have Bw:=Bn.trans Ab;have Bx:=Bo.trans Ab;have By:=Bp.trans Ab;have Bz:=Bq.trans Ab;have B1:=Br.ext Ab;have B3:=Bt.trans Ab;have B4:=A5.ext Ab;obtain ⟨A8,s3,L3,rfl,Ba,B6,B7,B8⟩:=Bu.out;refine AB3 [.bool A8,s3] ABa rfl rfl rfl rfl (AH4 Ba.cap) B1 fun C6 B9 Af=>?_;have Ca:=Bx.thenUpd Af (fun k hk=>by have Aj:k=Ac:=hk;omega);have C7:=Af.1;have C8:=Bw.thenUpd Af (fun k hk=>by have Aj:k=Ac:=hk;omega);have C9:=B3.thenUpd Af (fun k hk=>by have Aj:k=Ac:=hk;omega);have Da:=By.thenUpd Af (fun k hk=>by have Aj:k=Ac:=hk;omega);have Db:=Bz.thenUpd Af (fun k hk=>by have Aj:k=Ac:=hk;omega);have Dc:=B4.updLo Af Zj;have Cb:=Ba.updLo Af Zj;refine Zr (Zy (⟨_,AB9 ABa rfl rfl B9,?_⟩));exact ⟨Ca,⟨A8,s3,L3,rfl,Cb.mono Zj,B6,B7,by rw [<- B8,A7,A3,A4,hza,hzb,Abh]⟩⟩
end Go.Proofs.YtdkldlbgcfpglaaGreatDoor.Ig
namespace Go.Proofs.YtdkldlbgcfpglaaGreatDoor
open Go Go.QF
def Aqj (fuel:Nat) (a b:Int):Option Int:=if a.natAbs < ADz/\b.natAbs < ADz then some (a - b) else none
def Ag8 (fuel:Nat) (a b:Int):Option Int:=if a.natAbs * b.natAbs < ADz then some (a * b) else none
def ATk (fuel:Nat) (a b:Int):Option (Int × Int × Bool):=if a.natAbs < 18446744073709551616/\b.natAbs < 18446744073709551616/\b≠0 then some (a / b,a % b,true) else none
def Aqk (fuel:Nat) (a:Int):Option Int:=some (-a)
def ATl (fuel:Nat) (a:Int):Option Int:=some a
def AXy (fuel:Nat) (a:Int):Option Int:=if -9223372036854775808<=a/\a<=9223372036854775807 then some a else none
def AY4 (fuel:Nat) (a:Int):Option Int:=some (AE7 a)
theorem Arr {fuel:Nat} {h:Zs} {u v:Value} {a b r:Int} (H1:ZZ h u a) (H2:ZZ h v b) (hp:Aqj fuel a b=some r):AAs Tryz.prog 162 #[u,v] h (fun x h'=>Ext h h'/\ ∃ (x0:Value),x=x0/\ZZ h' x0 r):=by
 obtain ⟨⟨h1,h2⟩,hp⟩:=ifN hp;cases hp;exact (Ig.Sub_ok H1 H2 h1 h2).mono fun x h' hk=>⟨hk.1,x,rfl,hk.2.zz⟩
theorem Aft {fuel:Nat} {h:Zs} {u v:Value} {a b r:Int} (H1:ZZ h u a) (H2:ZZ h v b) (hp:Ag8 fuel a b=some r):AAs Tryz.prog 136 #[u,v] h (fun x h'=>Ext h h'/\ ∃ (x0:Value),x=x0/\ZZ h' x0 r):=by
 obtain ⟨h1,hp⟩:=ifN hp;cases hp;exact (Ig.MulZ_ok H1 H2 (Ak9 h1)).mono fun x h' hk=>⟨hk.1,x,rfl,hk.2.zz⟩
theorem Ars {fuel:Nat} {h:Zs} {u:Value} {a r:Int} (H1:ZZ h u a) (hp:Aqk fuel a=some r):AAs Tryz.prog 163 #[u] h (fun x h'=>Ext h h'/\ ∃ (x0:Value),x=x0/\ZZ h' x0 r):=by
 cases hp;exact (Ig.Neg_ok H1).mono fun x h' hk=>⟨hk.1,x,rfl,hk.2.zz⟩
theorem AVo {fuel:Nat} {h:Zs} {u:Value} {a r:Int} (H1:ZZ h u a) (hp:ATl fuel a=some r):AAs Tryz.prog 133 #[u] h (fun x h'=>Ext h h'/\ ∃ (x0:Value),x=x0/\ZZ h' x0 r):=by
 cases hp;exact (Ig.Normalize_ok H1).mono fun x h' hk=>⟨hk.1,x,rfl,hk.2.zz⟩
theorem AY5 {fuel:Nat} {h:Zs} {a r:Int} (hp:AXy fuel a=some r):AAs Tryz.prog 129 #[.int .i64 a] h (fun x h'=>Ext h h'/\ ∃ (x0:Value),x=x0/\ZZ h' x0 r):=by
 obtain ⟨h1,hp⟩:=ifN hp;cases hp;exact (Ig.Small_ok h1 h).mono fun x h' hk=>⟨hk.1,x,rfl,hk.2.zz⟩
theorem AXz {fuel:Nat} {h:Zs} {u:Value} {a r:Int} (H1:ZZ h u a) (hp:AY4 fuel a=some r):AAs Tryz.prog 132 #[u] h (fun x h'=>Ext h h'/\x= .int .i64 r):=by
 cases hp;exact Ig.Sign_ok H1
theorem AWw {fuel:Nat} {h:Zs} {u v:Value} {a b:Int} {r:Int × Int × Bool} (H1:ZZ h u a) (H2:ZZ h v b) (hp:ATk fuel a b=some r):AAs Tryz.prog 135 #[u,v] h (fun x h'=>Ext h h'/\ ∃ (x0:Value) (x1:Value),x= .tuple #[x0,x1,.bool r.2.2]/\ZZ h' x0 r.1/\ZZ h' x1 r.2.1):=by
 obtain ⟨⟨h1,h2,h3⟩,hp⟩:=ifN hp;cases hp;exact (Ig.DivMod2_ok H1 H2 h1 h2 h3).mono fun x h' ⟨E,q,r,hx,hq,hr⟩=>⟨E,q,r,hx,hq.zz,hr.zz⟩
end Go.Proofs.YtdkldlbgcfpglaaGreatDoor
namespace Go.Proofs.YtdkldlbgcfpglaaGreatDoor
open Go Go.QF
set_option maxRecDepth 100000
set_option maxHeartbeats 4000000
def AJl (fuel:Nat) (a3:LiI) (Ac:LiA) (Aa:Int):Option ((Int) ⊕ (((Int × Int × Bool)) ⊕ (Unit))):=
  (if Aa < (a3.length:Int) then ((gI a3 Aa).bind fun Ad=>(if ¬ (Ad.length:Int)=(Ac.length:Int) then (some (Sum.inr<| Sum.inl <| (0,0,false))) else (some (Sum.inl (w64 (Aa + 1)))))) else (some (Sum.inr<| Sum.inr <| ())))
def AF9 (fuel:Nat) (a3:LiI):Option (Int × Int × Bool):=
  (((if (a3.length:Int) < 1 then (some (Sum.inl <| (0,0,false))) else (if 16 < (a3.length:Int) then (some (Sum.inl <| (0,0,false))) else (some (Sum.inr <| ())))):Option (((Int × Int × Bool)) ⊕ (Unit))).bind (fun ex=>match ex with | Sum.inl Ac=>(some Ac) | Sum.inr (_)=>((gI a3 0).bind fun Ab=>(((if (Ab.length:Int) < 1 then (some (Sum.inl <| (0,0,false))) else (if 16 < (Ab.length:Int) then (some (Sum.inl <| (0,0,false))) else (some (Sum.inr <| ())))):Option (((Int × Int × Bool)) ⊕ (Unit))).bind (fun ex=>match ex with | Sum.inl Ad=>(some Ad) | Sum.inr (_)=>((iter (fun s=>AJl fuel a3 Ab s) fuel 0).bind (fun ex=>match ex with | Sum.inl Ae=>(some Ae) | Sum.inr (_)=>(some ((a3.length:Int),(Ab.length:Int),true)))))))))
theorem ARh {fuel:Nat} {h:Zs} {Aq:Value} {a3:LiI} {r:(Int × Int × Bool)} (H2:AEq (cI .i64) h Aq a3) (hp:AF9 fuel a3=some r):AAs Tryz.prog 126 #[Aq] h (fun x h'=>Ext h h'/\x= .tuple #[.int .i64 r.1,.int .i64 r.2.1,.bool r.2.2]):=by
 unfold AF9 at hp;refine cwf (l:=[_]) Tryz.func126 rfl rfl (Zn (AAi (AAi (Zv ?_))));have K0:=Kst.k0 h;obtain ⟨A3,Ar,Ah⟩:=Zp hp;refine AI8 65308 (fun x:Unit=>[]) (fun x h'=>(Sum.inr <| ())=A3/\Kst h h' (K0.L)) ?_ ?_
 ·refine Zn (Zk (ABe AAn rfl H2 (AAy rfl rfl (Zk ?_))));by_cases Ad:(a3.length:Int) < 1
  ·rw [decide_eq_true Ad];refine AH3 11 true (AAd rfl (Zr (AAl rfl (Zn (AAi (AAi (Zv ?_)))))));obtain rfl:=Zm (ifT Ar Ad);refine Zy (AAc ?_);obtain rfl:=Zm Ah;exact ⟨_,AIt,K0.x,rfl⟩
  ·have Au:=ifF Ar Ad;rw [decide_eq_false Ad];refine AAk 11 false (Zk (AAk 11 false (ABe AAn rfl H2 (AAk 11 false (AGz rfl rfl (AAo rfl (Zr (⟨_,rfl,fun Ai=>?_,fun Ai=>?_⟩))))))))
   ·refine Zn (AAi (AAi (Zv ?_)));obtain rfl:=Zm (AA7 Au Ai);refine Zy (AAc ?_);obtain rfl:=Zm Ah;exact ⟨_,AIt,K0.x,rfl⟩
   ·refine Zx (q_t ?_);exact ⟨(():Unit),⟨Zm (AA8 Au Ai),K0⟩,trivial⟩
 rintro ⟨⟩ Be Bf ⟨A4,Ab⟩;subst A4;refine Zn (Zk ?_);obtain ⟨A5,A6,A7⟩:=Zp Ah;refine AJw AAn AA1 H2 Ab.x A6 fun _ Bg A8=>ABr AAj rfl A8 (Zv ?_);obtain ⟨A9,Av,Aj⟩:=Zp A7;refine AI8 66060316 (fun x:Unit=>[]) (fun x h'=>(Sum.inr <| ())=A9/\Kst h h' (Ab.L)) ?_ ?_
 ·refine Zn (Zk (AAy rfl rfl (Zk ?_)));by_cases Ae:(A5.length:Int) < 1
  ·rw [decide_eq_true Ae];refine AHi 22 true (AAd rfl (Zr (AAl rfl (Zn (AAi (AAi (Zv ?_)))))));obtain rfl:=Zm (ifT Av Ae);refine Zy (AAc ?_);obtain rfl:=Zm Aj;exact ⟨_,AIt,Ab.x,rfl⟩
  ·have Aw:=ifF Av Ae;rw [decide_eq_false Ae];refine AAk 22 false (Zk (AAk 22 false (AGz rfl rfl (AAo rfl (Zr (⟨_,rfl,fun Ak=>?_,fun Ak=>?_⟩))))))
   ·refine Zn (AAi (AAi (Zv ?_)));obtain rfl:=Zm (AA7 Aw Ak);refine Zy (AAc ?_);obtain rfl:=Zm Aj;exact ⟨_,AIt,Ab.x,rfl⟩
   ·refine Zx (q_t ?_);exact ⟨(():Unit),⟨Zm (AA8 Aw Ak),Ab⟩,trivial⟩
 rintro ⟨⟩ Bh Bi ⟨Ba,Ax⟩;subst Ba;refine Zo (Zn (Zk (ABe AAn rfl H2 (Zk (Zr (Zt (AHm 137170518172 Aj (fun x=>[(28,(.int .i64 x))]) (fun x=>Ax.L) Ax ⟨rfl,trivial⟩ ?_)))))));rintro Bj Bl Bm Bn Af Am Ay;unfold AJl at Am;refine Zn (AAy rfl rfl (Zr (Zo (⟨_,rfl,fun Ao=>?_,fun Ao=>?_⟩))))
 ·refine Zx (q_t (Zo (Zt (Zn ?_))));obtain ⟨Bo,Bb,Az⟩:=Zp (AA7 Am Ao);refine AJw AAn AA1 H2 Af.x Bb fun _ Bp Bc=>AA3 (Zk (ABr AAj rfl Bc (Zk (ADc rfl rfl (Zr (⟨_,rfl,fun Ap=>?_,fun Ap=>?_⟩))))))
  ·refine Zn (AAi (AAi (Zv (Zy (ABp (AAc (AAc (ABp (AAc ?_)))))))));obtain rfl:=Zm (Ay _ (Zm (AA7 Az Ap)).symm);exact ⟨_,AIt,Af.x,rfl⟩
  ·refine Zx (q_b (q_t (Z1 (AAz rfl rfl (Zk (Zr ?_))))));exact ⟨_,(Zm (AA8 Az Ap)).symm,Af,rfl,trivial⟩
 ·refine AAe (AAf (AAf (ABk (q_t (Zn (Zk (ABe AAn rfl H2 (Zk (AAi (AAi (Zv (Zy ?_))))))))))));obtain rfl:=Zm (Ay _ (Zm (AA8 Am Ao)).symm);exact ⟨_,AIt,Af.x,rfl⟩
def AIh (fuel:Nat) (a3:LiI) (Ac:LiA) (Aa:Int):Option ((Int) ⊕ (((Int × Int × Bool)) ⊕ (Unit))):=
  (if Aa < (a3.length:Int) then ((gI a3 Aa).bind fun Ad=>(if ¬ (Ad.length:Int)=(Ac.length:Int) then (some (Sum.inr<| Sum.inl <| (0,0,false))) else (some (Sum.inl (w64 (Aa + 1)))))) else (some (Sum.inr<| Sum.inr <| ())))
def AFg (fuel:Nat) (a3:LiI):Option (Int × Int × Bool):=
  (((if (a3.length:Int) < 1 then (some (Sum.inl <| (0,0,false))) else (if 16 < (a3.length:Int) then (some (Sum.inl <| (0,0,false))) else (some (Sum.inr <| ())))):Option (((Int × Int × Bool)) ⊕ (Unit))).bind (fun ex=>match ex with | Sum.inl Ac=>(some Ac) | Sum.inr (_)=>((gI a3 0).bind fun Ab=>(((if (Ab.length:Int) < 1 then (some (Sum.inl <| (0,0,false))) else (if 16 < (Ab.length:Int) then (some (Sum.inl <| (0,0,false))) else (some (Sum.inr <| ())))):Option (((Int × Int × Bool)) ⊕ (Unit))).bind (fun ex=>match ex with | Sum.inl Ad=>(some Ad) | Sum.inr (_)=>((iter (fun s=>AIh fuel a3 Ab s) fuel 0).bind (fun ex=>match ex with | Sum.inl Ae=>(some Ae) | Sum.inr (_)=>(some ((a3.length:Int),(Ab.length:Int),true)))))))))
theorem AP6 {fuel:Nat} {h:Zs} {Aq:Value} {a3:LiI} {r:(Int × Int × Bool)} (H2:AEq cZ h Aq a3) (hp:AFg fuel a3=some r):AAs Tryz.prog 130 #[Aq] h (fun x h'=>Ext h h'/\x= .tuple #[.int .i64 r.1,.int .i64 r.2.1,.bool r.2.2]):=by
 unfold AFg at hp;refine cwf (l:=[_]) Tryz.func130 rfl rfl (Zn (AAi (AAi (Zv ?_))));have K0:=Kst.k0 h;obtain ⟨A3,Ar,Ah⟩:=Zp hp;refine AI8 65308 (fun x:Unit=>[]) (fun x h'=>(Sum.inr <| ())=A3/\Kst h h' (K0.L)) ?_ ?_
 ·refine Zn (Zk (ABe ABu rfl H2 (AAy rfl rfl (Zk ?_))));by_cases Ad:(a3.length:Int) < 1
  ·rw [decide_eq_true Ad];refine AH3 11 true (AAd rfl (Zr (AAl rfl (Zn (AAi (AAi (Zv ?_)))))));obtain rfl:=Zm (ifT Ar Ad);refine Zy (AAc ?_);obtain rfl:=Zm Ah;exact ⟨_,AIt,K0.x,rfl⟩
  ·have Au:=ifF Ar Ad;rw [decide_eq_false Ad];refine AAk 11 false (Zk (AAk 11 false (ABe ABu rfl H2 (AAk 11 false (AGz rfl rfl (AAo rfl (Zr (⟨_,rfl,fun Ai=>?_,fun Ai=>?_⟩))))))))
   ·refine Zn (AAi (AAi (Zv ?_)));obtain rfl:=Zm (AA7 Au Ai);refine Zy (AAc ?_);obtain rfl:=Zm Ah;exact ⟨_,AIt,K0.x,rfl⟩
   ·refine Zx (q_t ?_);exact ⟨(():Unit),⟨Zm (AA8 Au Ai),K0⟩,trivial⟩
 rintro ⟨⟩ Be Bf ⟨A4,Ab⟩;subst A4;refine Zn (Zk ?_);obtain ⟨A5,A6,A7⟩:=Zp Ah;refine AJw ABu ADi H2 Ab.x A6 fun _ Bg A8=>ABr ACn rfl A8 (Zv ?_);obtain ⟨A9,Av,Aj⟩:=Zp A7;refine AI8 66060316 (fun x:Unit=>[]) (fun x h'=>(Sum.inr <| ())=A9/\Kst h h' (Ab.L)) ?_ ?_
 ·refine Zn (Zk (AAy rfl rfl (Zk ?_)));by_cases Ae:(A5.length:Int) < 1
  ·rw [decide_eq_true Ae];refine AHi 22 true (AAd rfl (Zr (AAl rfl (Zn (AAi (AAi (Zv ?_)))))));obtain rfl:=Zm (ifT Av Ae);refine Zy (AAc ?_);obtain rfl:=Zm Aj;exact ⟨_,AIt,Ab.x,rfl⟩
  ·have Aw:=ifF Av Ae;rw [decide_eq_false Ae];refine AAk 22 false (Zk (AAk 22 false (AGz rfl rfl (AAo rfl (Zr (⟨_,rfl,fun Ak=>?_,fun Ak=>?_⟩))))))
   ·refine Zn (AAi (AAi (Zv ?_)));obtain rfl:=Zm (AA7 Aw Ak);refine Zy (AAc ?_);obtain rfl:=Zm Aj;exact ⟨_,AIt,Ab.x,rfl⟩
   ·refine Zx (q_t ?_);exact ⟨(():Unit),⟨Zm (AA8 Aw Ak),Ab⟩,trivial⟩
 rintro ⟨⟩ Bh Bi ⟨Ba,Ax⟩;subst Ba;refine Zo (Zn (Zk (ABe ABu rfl H2 (Zk (Zr (Zt (AHm 137170518172 Aj (fun x=>[(28,(.int .i64 x))]) (fun x=>Ax.L) Ax ⟨rfl,trivial⟩ ?_)))))));rintro Bj Bl Bm Bn Af Am Ay;unfold AIh at Am;refine Zn (AAy rfl rfl (Zr (Zo (⟨_,rfl,fun Ao=>?_,fun Ao=>?_⟩))))
 ·refine Zx (q_t (Zo (Zt (Zn ?_))));obtain ⟨Bo,Bb,Az⟩:=Zp (AA7 Am Ao);refine AJw ABu ADi H2 Af.x Bb fun _ Bp Bc=>AA3 (Zk (ABr ACn rfl Bc (Zk (ADc rfl rfl (Zr (⟨_,rfl,fun Ap=>?_,fun Ap=>?_⟩))))))
  ·refine Zn (AAi (AAi (Zv (Zy (ABp (AAc (AAc (ABp (AAc ?_)))))))));obtain rfl:=Zm (Ay _ (Zm (AA7 Az Ap)).symm);exact ⟨_,AIt,Af.x,rfl⟩
  ·refine Zx (q_b (q_t (Z1 (AAz rfl rfl (Zk (Zr ?_))))));exact ⟨_,(Zm (AA8 Az Ap)).symm,Af,rfl,trivial⟩
 ·refine AAe (AAf (AAf (ABk (q_t (Zn (Zk (ABe ABu rfl H2 (Zk (AAi (AAi (Zv (Zy ?_))))))))))));obtain rfl:=Zm (Ay _ (Zm (AA8 Am Ao)).symm);exact ⟨_,AIt,Af.x,rfl⟩
def ALc (fuel:Nat) (a3:LiI) (Ab:Int) (Af:LiA) (Aa:Int) (Ac:LiI):Option ((Int × LiI) ⊕ ((LiI))):=
  (if Aa < (Af.length:Int) then ((gI Ac Ab).bind fun Ad=>((((gI a3 Ab).bind fun Ag=>((gI Ag Aa).bind fun Ah=>((AXy fuel Ah).bind fun Ai=>(some ( Ai))))):Option (Int)).bind fun Aj=>((gI Ad Aa).bind fun Ak=>(some (Sum.inl ((w64 (Aa + 1)),(sI Ac Ab (sI Ad Aa Aj)))))))) else (some (Sum.inr<| Ac)))
def ALd (fuel:Nat) (a3:LiI) (Ae Ab Aa:Int) (Ac:LiI):Option ((Int × LiI) ⊕ ((LiI))):=
  (if Aa < ((List.replicate (Int.toNat Ae) ([]:List Int)).length:Int) then (if 0<=Ab/\Ab<=100000000 then ((gI Ac Aa).bind fun Ah=>((gI (sI Ac Aa (List.replicate (Int.toNat Ab) (0:Int))) Aa).bind fun Af=>((iter (fun s=>ALc fuel a3 Aa Af s.1 s.2) fuel (0,(sI Ac Aa (List.replicate (Int.toNat Ab) (0:Int))))).bind (fun (Ag:LiI)=>(some (Sum.inl ((w64 (Aa + 1)),Ag))))))) else none) else (some (Sum.inr<| Ac)))
def AIp (fuel:Nat) (a3:LiI):Option (LiI × Bool):=
  ((AF9 fuel a3).bind fun (Aa,Ac,Ad)=>(if (!Ad)=true then (some ([],false)) else (((if 0<=Aa/\Aa<=100000000 then ((iter (fun s=>ALd fuel a3 Aa Ac s.1 s.2) fuel (0,(List.replicate (Int.toNat Aa) ([]:List Int)))).bind (fun (Ae:LiI)=>(some ( Ae)))) else none):Option (LiI)).bind fun Af=>(some (Af,true)))))
theorem ATm {fuel:Nat} {h:Zs} {Ah:Value} {a3:LiI} {r:(LiI × Bool)} (H2:AEq (cI .i64) h Ah a3) (hp:AIp fuel a3=some r):AAs Tryz.prog 77 #[Ah] h (fun x h'=>Ext h h'/\ ∃ (x0:Value) (F0:List Nat) (Bu:List LnA) (Bv:List Value),x= .tuple #[x0,.bool r.2]/\ACp cZ 128 94 h' F0 Bu Bv x0 r.1/\Sp h' h.size [F0]):=by
 unfold AIp at hp;refine cwf (l:=[_]) Tryz.func77 rfl rfl (Zn ?_);have K0:=Kst.k0 h;refine Akz [Ah] trivial tt2 rfl (Adf ((H2.ext K0.x)).isOne) fun b5 h6 V7 E8 S9=>AAi (AA3 ?_);have Aj:=K0.nb E8 S9 V7;refine AA6 AE6 rfl ((Aj.b p0).cell (i:=0) rfl) ?_;obtain ⟨⟨B1,B3,D1⟩,B4,Ak⟩:=Zp hp;dsimp only at Ak;refine ADk Aj (ARh (H2.ext Aj.x) B4) fun D2 D3 Am=>Zk (ABj rfl rfl (ABj rfl rfl (ABj rfl rfl (AAi (AAi (Zv (Zo (Zn (Zk (ADp rfl (Zr (⟨_,rfl,fun Ao=>?_,fun Ao=>?_⟩))))))))))))
 ·refine Zn (AAi (Zv (Zy (AAc ?_))));have Ap:=Kst.anil2 cZ 128 94 Am;obtain rfl:=Zm (ifT Ak Ao);exact ⟨_,ABg,Ap.x,_,_,_,_,rfl,(Ap.o2 p0),Ap.s.sel [0] Zl⟩
 ·refine Zx (q_t (Zn (Zk (Zk (Aj0 rfl ?_)))));obtain ⟨B5,B6,B7⟩:=Zp (AH9 Ak Ao);refine AAr (K':=(fun xr h'=> ∃ x:(LiI) × (Value) × LnA × LnN × LvA,x.1=B5/\xr=x.2.1/\Kst h h' (aO2 cZ 128 94 x.2.2.1 x.2.2.2.1 x.2.2.2.2 x.2.1 x.1 :: Am.L))) trivial rfl ?_ fun B8 D4 B9=>?_
  ·refine cwf (l:=[_,_,_]) Tryz.func127 rfl rfl (Zn (AA3 (Zk ?_)));obtain ⟨Ca,Cb⟩:=ifN B6;refine ARc cZ 94 ABu Adg rfl trivial tt2 rfl rfl Zl Ca fun Cd Ce Cf Aq D5 Cg Ch Ci=>Zv (Zo (Zn (Zk ?_)));have Ar:=Am.no2 Ch Ci Cg;refine ABe ABu rfl (Ar.o2 p0).rd (Zk (Zr (Zt (AFr 4398046495488 (fun x:(Int) × (LiI) × LnA × LnN × LvA=>(x.1,x.2.1)) ((0,(List.replicate (Int.toNat B1) ([]:List Int)),Cd,Ce,Cf):(Int) × (LiI) × LnA × LnN × LvA) Cb (fun x=>[(14,(.int .i64 x.1))]) (fun x=>Ar.L.set 0 (aO2 cZ 128 94 x.2.2.1 x.2.2.2.1 x.2.2.2.2 Aq x.2.1)) Ar ⟨rfl,trivial⟩ ?_))));rintro ⟨Aa,Bg,Cj,Au,Bh⟩ D6 D7 D8 Bi Av Ck;unfold ALd at Av;refine Zn (AAy rfl rfl (Zr (Zo (⟨_,rfl,fun Aw=>?_,fun Aw=>?_⟩))))
   ·refine Zx (q_t (Zo (Zt (Zn (Zk (AA3 (Zk (Zk (Zk ?_)))))))));obtain ⟨Cm,Cn⟩:=ifN (AA7 Av Aw);refine Ae9 ACn AEb rfl trivial tt2 rfl rfl Zl Cm fun Bj Co D9 Cp Cq Cr Ct=>?_;have Ac:=Bi.no Cq (AEv Cr Ct) Cp;obtain ⟨Ea,Bl,Cu⟩:=Zp Cn;refine ACt ABu rfl (Ac.o2 p1) rfl Bl fun Cv Eb Cw Ec Ed=>ARb ADi (Ac.o2 p1) Bl Cw rfl rfl (Ac.o p0) (Ac.dj p0 p1 Zl) fun Ee Cx Cy Cz=>AHj (Zk (Zk ?_));have Ax:=Ac.m2 p0 p1 Zl Cy Cx (fun z hz=> .inl (Cz z hz));obtain ⟨Ef,Bm,C0⟩:=Zp Cu;refine AB2 ABu ADi (Ax.o2 p1) Bm fun _ Eg C1=>ABr ACn rfl ((Ax.o2 p1).rowI C1 Bm) (Zk (Zr (Zt ?_)));have Ay:=Ax.sel [1,2] Zl;dsimp only [AFy,AI2] at Ay;refine AFr 2198889038336 (fun x:(Int) × (LiI) × LnA × LnN × LvA=>(x.1,x.2.1)) ((0,(sI Bg Aa (List.replicate (Int.toNat B3) (0:Int))),(Cv :: (Au.set (Int.toNat Aa) [Bj]).flatten),(Au.set (Int.toNat Aa) [Bj]),(Bh.set (Int.toNat Aa) Co)):(Int) × (LiI) × LnA × LnN × LvA) C0 (fun x=>[(27,(.int .i64 x.1))]) (fun x=>Ay.L.set 0 (aO2 cZ 128 94 x.2.2.1 x.2.2.2.1 x.2.2.2.2 Aq x.2.1)) Ay ⟨rfl,trivial⟩ ?_;rintro ⟨C2,Eh,Ei,Ej,Ek⟩ El Ab Em Ad Az C3;unfold ALc at Az;refine Zn (AAy rfl rfl (Zr (Zo (⟨_,rfl,fun A3=>?_,fun A3=>?_⟩))))
    ·refine Zx (q_t (Zo (Zt (Zn (Zk (Zv (ACb (fun h'=>UpT [] Ab h') Zw ?_)))))));have A4:UpT [] Ab Ab:=UpT.start all_nil;refine Zk (Zk ?_);obtain ⟨En,A5,C4⟩:=Zp (AA7 Az A3);refine ACt ABu rfl (Ad.o2 p0) rfl A5 fun Eo Ep Er C5 C6=>AB8 ADi rfl A4 (fun h' hb=>AAu C6 hb.ext) (Zk (Zk (Zk (Zk ?_))));obtain ⟨C7,C8,C9⟩:=Zp C4;have Da:UpT [] Ab Ab:=UpT.start all_nil;refine AXn (l:=[(.int .i64 Aa),(.int .i64 C2)]) (cl:=[(.pointer (some ⟨b5,0,none⟩))]) (K':=(fun xr h'=> ∃ x:(Int) × LvA,x.1=C7/\xr=(.agg (x.2).toArray)/\Kst h h' (aZ x.2 x.1 :: Ad.L)/\UpT [] Ab h')) A4 rfl rfl ?_ fun Es Et Db=>?_
     ·refine cwf (l:=[_,_,_]) Tryz.func128 rfl rfl (Zn (AYo [.bool false,.slice none 0 0] AEb rfl trivial tt2 fun Eu Ev Dc A6 Bn=>AHj ?_));have Ew:=A6.1;have Ag:=Ad.nb A6 Bn Dc;refine AA6 AE6 rfl ((Ag.b p2).cell (i:=0) rfl) (Zk ?_);have Dd:=Bn.loAll 0 rfl;obtain ⟨Ey,De,Df⟩:=Zp C8;refine ATd AAn rfl H2 rfl De fun Ez Fa Fb Dg Dh=>AA6 AA1 rfl (AAu Dg Ag.x) (Zk ?_);obtain ⟨Fc,Di,Dj⟩:=Zp Df;refine AJb (c:=(cI .i64)) AAj rfl Dh rfl Di fun Fd Fe Ff Dk Dl=>?_;obtain rfl:=Dk;refine AA6 AAt rfl (AAu (Dl 0 _ rfl) Ag.x) ?_;obtain ⟨Do,Dp,Dq⟩:=Zp Dj;refine AMx rfl (AY5 Dp) fun Fg Dr A7 Ds=>?_;obtain ⟨Fh,rfl,Dt⟩:=Ds;have Fi:=A7.1;obtain ⟨Bo,rfl,Du⟩:=Dt.cs;have Ae:=(Ag.e A7).az Du;refine AB3 Bo ABa (cZ.klen (Ae.z p0)) (cZ.klen (AAa Dr)) rfl rfl (cZ.one (Ae.z p0)) (Ae.b p1) fun Fj Bp A8=>Zr (Zy ?_);have Fk:=A8.1;have A9:=Ae.sb p1 A8 Bp rfl;refine ⟨_,AB9 ABa (cZ.klen (A9.z p0)) rfl (A9.b p1),((Do,Bo):(Int) × LvA),?_,rfl,?_,?_⟩
      ·exact Zm Dq
      ·exact A9.sel [0,2,3] Zl
      ·exact (((Da.thenE A6).thenE A7).then (Bp.stA A8 (AFa (Ae.b p1) rfl) rfl) (Aq4 Dd Zj))
     obtain ⟨⟨Fl,Fm⟩,Dv,rfl,Af,Bq⟩:=Db;have Fo:=Bq.size;refine ⟨(A4.then Bq all_nil),?_⟩;subst Dv;obtain ⟨Fp,Br,Dw⟩:=Zp C9;refine AEa (m:=Aa) ACn rfl (Ad.o2 p0) C5 A5 rfl Br fun Fq Dx=>ALu (m:=Aa) (AQf ABa (cZ.klen (Af.z p0)) rfl rfl (cZ.one (Af.z p0))) (Af.o2 p1) Dx A5 Br (Af.z p0) fun Fr Dy Bt=>AAh (q_b (q_t (Z1 (AAz rfl rfl (Zk (Zr ?_))))));have Ft:=Bt.size;exact ⟨(_,_,_,_,_),(Zm Dw).symm,(Af.uO2 p1 Bt Dy).sel [1,2] Zl,rfl,trivial⟩
    ·refine AAe (AAf (AAf (ABk (q_b (q_t (Z1 (AAz rfl rfl (Zk (Zr ?_)))))))));exact ⟨(_,_,_,_,_),(Zm (C3 _ (Zm (AA8 Az A3)).symm)).symm,Ad,rfl,trivial⟩
   ·refine AAe (AAf (AAf (ABk (q_t (Zn (Zk (Zv (Zy (⟨_,Zz,((Bg,Aq,Cj,Au,Bh):(LiI) × (Value) × LnA × LnN × LvA),?_,rfl,?_⟩)))))))))
    ·exact Zm (Ck _ (Zm (AA8 Av Aw)).symm)
    ·exact Bi
  obtain ⟨⟨Fu,B8,Fv,Fw,Fx⟩,Dz,rfl,Ba⟩:=B9;refine ⟨trivial,?_⟩;subst Dz;refine AAi (Zv (Zy ?_));obtain rfl:=Zm B7;exact ⟨_,ABg,Ba.x,_,_,_,_,rfl,(Ba.o2 p0),Ba.s.sel [0] Zl⟩
def AJm (fuel:Nat) (a3:LiI) (Ac:Int) (Ad:LiI) (Aa:Int):Option ((Int) ⊕ ((Int))):=
  (((if Aa < (a3.length:Int) then ((gI Ad Aa).bind fun Ae=>((gI Ae Ac).bind fun Af=>((AY4 fuel Af).bind fun Ag=>(if Ag=0 then (some (Sum.inl <| ())) else (some (Sum.inr <| ())))))) else (some (Sum.inr <| ()))):Option ((Unit) ⊕ (Unit))).bind (fun ex=>match ex with | Sum.inl _=>(some (Sum.inl (w64 (Aa + 1)))) | Sum.inr (_)=>(some (Sum.inr<| Aa))))
def AJn (fuel:Nat) (a3:LiI) (Ad Ag Ah Ae Aa:Int) (Ab:LiI):Option ((Int × LiI) ⊕ ((LiI))):=
  (if Aa < (a3.length:Int) then ((gI Ab Ae).bind fun Ac=>((gI Ac Aa).bind fun Ai=>((Ag8 fuel Ah Ai).bind fun Aj=>((gI Ac Ad).bind fun Ak=>((gI Ab Ad).bind fun Am=>((gI Am Aa).bind fun Ao=>((Ag8 fuel Ak Ao).bind fun Ap=>((Aqj fuel Aj Ap).bind fun Aq=>((ATk fuel Aq Ag).bind fun (Ar,Au,Av)=>(some (Sum.inl ((w64 (Aa + 1)),(sI Ab Ae (sI Ac Aa Ar)))))))))))))) else (some (Sum.inr<| Ab)))
def AJo (fuel:Nat) (a3:LiI) (Ac Ae Af Aa:Int) (Ad:LiI):Option ((Int × LiI) ⊕ ((LiI))):=
  (if Aa < (a3.length:Int) then ((iter (fun s=>AJn fuel a3 Ac Ae Af Aa s.1 s.2) fuel ((w64 (Ac + 1)),Ad)).bind (fun (Ag:LiI)=>(some (Sum.inl ((w64 (Aa + 1)),Ag))))) else (some (Sum.inr<| Ad)))
def AJp (fuel:Nat) (a3:LiI) (Ae:Bool) (Aa:Int) (Ab:LiI) (Af:Int):Option ((Bool × Int × LiI × Int) ⊕ ((Int) ⊕ (Bool × Int))):=
  (if Aa < (a3.length:Int) then ((((iter (fun s=>AJm fuel a3 Aa Ab s) fuel Aa).bind (fun (Ai:Int)=>(some ( Ai)))):Option ((Int))).bind (fun (Ad:Int)=>(if Ad=(a3.length:Int) then (some (Sum.inr<| Sum.inl <| 0)) else (((if ¬ Ad=Aa then ((gI Ab Ad).bind fun Aj=>((gI Ab Aa).bind fun Ak=>(some ( ((!Ae),(sI (sI Ab Aa Aj) Ad Ak)))))) else (some ( (Ae,Ab)))):Option ((Bool × LiI))).bind (fun ((Am,Ag):Bool × LiI)=>((gI Ag Aa).bind fun Ao=>((gI Ao Aa).bind fun Ah=>((iter (fun s=>AJo fuel a3 Aa Af Ah s.1 s.2) fuel ((w64 (Aa + 1)),Ag)).bind (fun (Ap:LiI)=>(some (Sum.inl (Am,(w64 (Aa + 1)),Ap,Ah)))))))))))) else (some (Sum.inr<| Sum.inr <| (Ae,Af))))
def AJq (fuel:Nat) (a3:LiI) (Aa:Int) (Ac:LiI):Option ((Int × LiI) ⊕ ((LiI))):=
  (if Aa < (a3.length:Int) then ((gI a3 Aa).bind fun Ad=>(if 0<=(a3.length:Int)/\(a3.length:Int)<=100000000 then ((gI Ac Aa).bind fun Af=>((gI (sI Ac Aa (List.replicate (Int.toNat (a3.length:Int)) (0:Int))) Aa).bind fun Ae=>(if Ad.length=Ae.length/\0 < Ae.length then (some (Sum.inl ((w64 (Aa + 1)),(sI (sI Ac Aa (List.replicate (Int.toNat (a3.length:Int)) (0:Int))) Aa Ad)))) else none))) else none)) else (some (Sum.inr<| Ac)))
def AGa (fuel:Nat) (a3:LiI):Option Int:=
  (if 0<=(a3.length:Int)/\(a3.length:Int)<=100000000 then ((iter (fun s=>AJq fuel a3 s.1 s.2) fuel (0,(List.replicate (Int.toNat (a3.length:Int)) ([]:List Int)))).bind (fun (Ac:LiI)=>((AXy fuel 1).bind fun Ad=>((iter (fun s=>AJp fuel a3 s.1 s.2.1 s.2.2.1 s.2.2.2) fuel (false,0,Ac,Ad)).bind (fun ex=>match ex with | Sum.inl Ae=>(some Ae) | Sum.inr ((Af,Ab))=>(if Af=true then ((Aqk fuel Ab).bind fun Ag=>(some Ag)) else ((ATl fuel Ab).bind fun Ah=>(some Ah)))))))) else none)
theorem ARi {fuel:Nat} {h:Zs} {Bx:Value} {a3:LiI} {r:Int} (H2:AEq cZ h Bx a3) (hp:AGa fuel a3=some r):AAs Tryz.prog 131 #[Bx] h (fun x h'=>Ext h h'/\ ∃ (x0:Value),x=x0/\ZZ h' x0 r):=by
 unfold AGa at hp;refine cwf (l:=[_]) Tryz.func131 rfl rfl (Zn (ACx (Kst.k0 h) [.bool false,.slice none 0 0] AEb fun b5 h6 E8 C7=>AHj (Zk (ABe ABu rfl H2 (AA3 (Zk ?_))))));obtain ⟨C8,C9⟩:=ifN hp;refine ARc cZ 94 ABu Adg rfl trivial tt2 rfl rfl Zl C8 fun Da Db Dc Ak Ie Dd De Df=>Zv (Zo (Zn (Zk (ABe ABu rfl H2 (Zk (Zr (Zt ?_)))))));have Bz:=C7.no2 De Df Dd;refine AFr 274875809888 (fun x:(Int) × (LiI) × LnA × LnN × LvA=>(x.1,x.2.1)) ((0,(List.replicate (Int.toNat (a3.length:Int)) ([]:List Int)),Da,Db,Dc):(Int) × (LiI) × LnA × LnN × LvA) C9 (fun x=>[(21,(.int .i64 x.1))]) (fun x=>Bz.L.set 0 (aO2 cZ 128 94 x.2.2.1 x.2.2.2.1 x.2.2.2.2 Ak x.2.1)) Bz ⟨rfl,trivial⟩ ?_;rintro ⟨Dg,u32,Dh,Di,Dj⟩ If Ih Ii A7 A8 Dk;unfold AJq at A8;refine Zn (AAy rfl rfl (Zr (Zo (⟨_,rfl,fun A9=>?_,fun A9=>?_⟩))))
 ·refine Zx (q_t (Zo (Zt (Zn (Zk ?_)))));obtain ⟨Ij,Dl,Do⟩:=Zp (AA7 A8 A9);refine AJw ABu ADi H2 A7.x Dl fun _ Ik Dp=>AAi (AA3 (Zk (Zk (Zk ?_))));obtain ⟨Dq,Dr⟩:=ifN Do;refine Ae9 ACn AEb rfl trivial tt2 rfl rfl Zl Dq fun Il Im Io Ds Dt Du Dv=>?_;have Am:=A7.no Dt (AEv Du Dv) Ds;obtain ⟨Ip,B1,Dw⟩:=Zp Dr;refine ACt ABu rfl (Am.o2 p1) rfl B1 fun Iq Ir Dx Is It=>ARb ADi (Am.o2 p1) B1 Dx rfl rfl (Am.o p0) (Am.dj p0 p1 Zl) fun Iu Dy Dz D0=>Zr (Z1 (Zk (Zk ?_)));have Au:=Am.m2 p0 p1 Zl Dz Dy (fun z hz=> .inl (D0 z hz));obtain ⟨Iv,B3,D1⟩:=Zp Dw;refine AB2 ABu ADi (Au.o2 p1) B3 fun _ Iw D2=>Zk ?_;obtain ⟨D3,D4⟩:=ifN D1;refine Ak8 (m:=Dg) ACn trivial rfl rfl (Au.o2 p1) D2 B3 (Dp.ext Au.x) D3 fun Ix D5 D6=>⟨trivial,?_⟩;refine AAh (q_b (q_t (Z1 (AAz rfl rfl (Zk (Zr ?_))))));exact ⟨(_,_,_,_,_),(Zm D4).symm,(Au.uO2 p1 D6 D5).sel [1,2] Zl,rfl,trivial⟩
 ·refine AAe (AAf (AAf (ABk (q_t (Zn (AA3 ?_))))));obtain ⟨D7,D8,D9⟩:=Zp (Dk _ (Zm (AA8 A8 A9)).symm);refine AMg A7 (AY5 D8) fun Ea Iy Iz Eb=>ACx Eb [.bool false,.slice none 0 0] AEb fun Ec Ed I0 B4=>AFc B4 p0 (AAa Ed) (B4.z p1) fun I1 B5=>Zr (Zo (Zn (Zk (Zk (Zr (Zt (AFr 22300745198530623141535718272647261994385024 (fun x:(Bool) × (Int) × (LiI) × LnA × LnN × LvA × (Int) × LvA=>(x.1,x.2.1,x.2.2.1,x.2.2.2.2.2.2.1)) ((false,0,u32,Dh,Di,Dj,D7,Ea):(Bool) × (Int) × (LiI) × LnA × LnN × LvA × (Int) × LvA) D9 (fun x=>[(7,(.bool x.1)),(40,(.int .i64 x.2.1))]) (fun x=>((B5.L.set 2 (aO2 cZ 128 94 x.2.2.2.1 x.2.2.2.2.1 x.2.2.2.2.2.1 Ak x.2.2.1)).set 1 (aZ x.2.2.2.2.2.2.2 x.2.2.2.2.2.2.1)).set 0 (aB 94 Ec x.2.2.2.2.2.2.2)) B5 ⟨rfl,rfl,trivial⟩ ?_)))))));rintro ⟨B6,Ao,B7,Ee,Ef,Eg,I2,I3⟩ I6 I7 I9 Ab Ba B8;unfold AJp at Ba;refine Zn (AAy rfl rfl (Zr (Zo (⟨_,rfl,fun Bb=>?_,fun Bb=>?_⟩))))
  ·refine Zx (q_t (Zo (Zt (Zn (Zk (AA3 (Zk (Zv ?_))))))));obtain ⟨Eh,Ei,B9⟩:=Zp (AA7 Ba Bb);refine AI8 1152903912420803584 (fun x:(Int)=>[(10,(.int .i64 x))]) (fun x h'=>( x)=Eh/\Kst h h' (Ab.L)) ?_ ?_
   ·refine Zt (AHm 1152903912420803584 Ei (fun x=>[(10,(.int .i64 x))]) (fun x=>Ab.L) Ab ⟨rfl,trivial⟩ ?_);rintro Av Ja Jc Je Ah Ca Cb;unfold AJm at Ca;obtain ⟨Ej,Cd,Bc⟩:=Zp Ca;refine AI8 288212783965667328 (fun x:Unit=>[]) (fun x h'=>(Sum.inl <| ())=Ej/\Kst h h' (Ah.L)) ?_ ?_
    ·refine Zn (Zk (Zk (AAy rfl rfl (Zk ?_))));by_cases Aw:Av < (a3.length:Int)
     ·rw [decide_eq_true Aw];refine AAk 47 true (Zk (AAk 47 true (Zk (AAk 47 true ?_))));obtain ⟨Jf,Be,Ek⟩:=Zp (ifT Cd Aw);refine ACt ABu rfl (Ah.o2 p2) rfl Be fun Jg Jh Ji El Em=>AAk 47 true (AA6 ADi rfl Em (AAk 47 true (Zk (AAk 47 true ?_))));obtain ⟨Jj,Ce,En⟩:=Zp Ek;refine AEa (m:=Av) ACn rfl (Ah.o2 p2) El Be rfl Ce fun Jk Eo=>AAk 47 true ?_;obtain ⟨Jl,Ep,Er⟩:=(Ah.o2 p2).cells Eo Be Ce;have Bf:=Ah.az Ep;refine ANh (c:=cZ) ABa rfl (Bf.z p0) (fun j u hu=>(Er j u hu)) (AAk 47 true ?_);obtain ⟨Jm,Es,Cf⟩:=Zp En;refine ADk Bf (AXz (Bf.z p0).2 Es) fun Jn Jo Cg=>AAk 47 true (ACc rfl rfl (AAd rfl (Zr (⟨_,rfl,fun Bg=>?_,fun Bg=>?_⟩))))
      ·refine Zx (q_t ?_);exact ⟨(():Unit),⟨Zm (AA7 Cf Bg),Cg.sel [1,2,3,4] Zl⟩,trivial⟩
      ·obtain rfl:=Zm (AA8 Cf Bg);refine AAe (AAf (AAf (ABk (q_t ?_))));exact ⟨(Av:(Int)),⟨Zm (Cb _ (Zm Bc).symm),Cg.sel [1,2,3,4] Zl⟩,rfl,trivial⟩
     ·rw [decide_eq_false Aw];refine AE5 47 false (APd 47 false (AAo rfl (Zr (AAq rfl ?_))));obtain rfl:=Zm (ifF Cd Aw);refine AAe (AAf (AAf (ABk (q_t ?_))));exact ⟨(Av:(Int)),⟨Zm (Cb _ (Zm Bc).symm),Ah⟩,rfl,trivial⟩
    rintro ⟨⟩ Jp Jq ⟨Et,Eu⟩;subst Et;refine Zt (Z1 (Zk (AAz rfl rfl (AAi (AAh (q_b (q_t ?_)))))));exact ⟨_,(Zm Bc).symm,Eu,rfl,trivial⟩
   rintro Ev Jr Ch ⟨Ew,Ae⟩;subst Ew;refine Zo (Zn (Zk (Zk (ACc rfl rfl (Zr (⟨_,rfl,fun Bh=>?_,fun Bh=>?_⟩))))))
   ·refine Zn (AC5 (AMw ) (AFc Ae p3 (AAa Ch) (AAa Ch) fun Ci Cj=>Zr (Zy (AAc (ABp (AAc (AAc (ABp (AAc ?_)))))))));obtain rfl:=Zm (B8 _ (Zm (AA7 B9 Bh)).symm);exact ⟨_,AB9 ABa (cZ.klen (AAa Ci)) rfl (Cj.b p3),Cj.x,_,rfl,(AAa Ci).2⟩
   ·refine Zx (q_t ?_);obtain ⟨Ey,Ck,Ez⟩:=Zp (AA8 B9 Bh);refine AI8 9671388110172959688097920 (fun x:(Bool) × (LiI) × LnA × LnN × LvA=>[(7,(.bool x.1))]) (fun x h'=>( (x.1,x.2.1))=Ey/\Kst h h' (Ae.L.set 2 (aO2 cZ 128 94 x.2.2.1 x.2.2.2.1 x.2.2.2.2 Ak x.2.1))) ?_ ?_
    ·refine Zn (Zk (Zk (ADc rfl rfl (Zr (⟨_,rfl,fun Bi=>?_,fun Bi=>?_⟩)))))
     ·refine Zo (AGh (Zk (Zk (Zk (Zk (Zk (Zk ?_)))))));obtain ⟨Fa,Cm,Fb⟩:=Zp (AA7 Ck Bi);refine AB2 ABu ADi (Ae.o2 p2) Cm fun _ Js Fc=>Zk (Zk ?_);obtain ⟨Fd,Cn,Fe⟩:=Zp Fb;refine AB2 ABu ADi (Ae.o2 p2) Cn fun _ Jt Ff=>APp ABu ADi (Ae.o2 p2) Ff Fc Cn Cm rfl rfl (fun _=>rfl) (fun _=>rfl) (fun _=>rfl) (fun _ _=>rfl) fun Ju Jv Fg Fh Fi Jw Fj Fk Fl=>Zr (Z1 (Zk (ADp rfl (Zv ?_))));exact ⟨(((!B6),(sI (sI B7 Ao Fa) Ev Fd),Fg,Fh,Fi):(Bool) × (LiI) × LnA × LnN × LvA),⟨Zm Fe,(Ae.uo2 p2 Fk Fj Fl)⟩,rfl,trivial⟩
     ·refine Zx (q_t ?_);exact ⟨((B6,B7,Ee,Ef,Eg):(Bool) × (LiI) × LnA × LnN × LvA),⟨Zm (AA8 Ck Bi),Ae⟩,rfl,trivial⟩
    rintro ⟨Jx,Fm,Fo,Fp,Fq⟩ Jy Jz ⟨Fr,Ax⟩;subst Fr;refine Zn (Zk (Zk ?_));obtain ⟨J0,Bj,Ft⟩:=Zp Ez;refine AB2 ABu ADi (Ax.o2 p2) Bj fun _ J1 Fu=>Zk ?_;obtain ⟨J2,Co,Fv⟩:=Zp Ft;refine AEa (m:=Ao) ACn rfl (Ax.o2 p2) Fu Bj rfl Co fun J3 Fw=>?_;obtain ⟨J4,Fx,Fy⟩:=(Ax.o2 p2).cells Fw Bj Co;have Cp:=Ax.az Fx;refine ANh (c:=cZ) ABa rfl (Cp.z p0) (fun j u hu=>(Fy j u hu)) (ACx Cp [.bool false,.slice none 0 0] AEb fun J5 Fz J6 Cq=>AFc Cq p0 (AAa Fz) (Cq.z p1) fun J7 Cr=>Zr (Zo (Zn (Zk (AAz rfl rfl (Zv (Zt (AFr 5575186299632650833623772426640990780026880 (fun x:(Int) × (LiI) × LnA × LnN × LvA=>(x.1,x.2.1)) (((w64 (Ao + 1)),Fm,Fo,Fp,Fq):(Int) × (LiI) × LnA × LnN × LvA) Fv (fun x=>[(12,(.int .i64 x.1))]) (fun x=>Cr.L.set 4 (aO2 cZ 128 94 x.2.2.1 x.2.2.2.1 x.2.2.2.2 Ak x.2.1)) Cr ⟨rfl,trivial⟩ ?_))))))));rintro ⟨Ay,F4,F5,F6,F7⟩ J8 J9 Ka Af Bl F8;unfold AJo at Bl;refine Zo (Zn (Zk (Zk (AAy rfl rfl (Zr (⟨_,rfl,fun Bm=>?_,fun Bm=>?_⟩))))))
    ·refine Zx (q_t (Zo (Zt (Zn (Zk (AAz rfl rfl (Zv (Zt (AFr 5575186299632021960083815453461342024916992 (fun x:(Int) × (LiI) × LnA × LnN × LvA=>(x.1,x.2.1)) (((w64 (Ao + 1)),F4,F5,F6,F7):(Int) × (LiI) × LnA × LnN × LvA) (AA7 Bl Bm) (fun x=>[(13,(.int .i64 x.1))]) (fun x=>Af.L.set 4 (aO2 cZ 128 94 x.2.2.1 x.2.2.2.1 x.2.2.2.2 Ak x.2.1)) Af ⟨rfl,trivial⟩ ?_)))))))));rintro ⟨Kb,Kc,Kd,Ke,Kf⟩ Kg Bn Kh Aa Bo F9;unfold AJn at Bo;refine Zo (Zn (Zk (Zk (AAy rfl rfl (Zr (⟨_,rfl,fun Bp=>?_,fun Bp=>?_⟩))))))
     ·refine Zx (q_t (Zo (Zt (Zo ?_))));have Ai:UpT [] Bn Bn:=UpT.start all_nil;refine AR7 (B:=fun h'=>UpT [] Bn h') 25 [⟨14,94,[.bool false,.slice none 0 0]⟩] (fun _ _ U E=>U.thenE E) Zw Ai (Abo rfl AEb rfl (fun _ _ U E=>U.thenE E)) (h_l rfl (AMz (Aa.z p1) Ai (Aa.b p0) (AAh (h_l rfl (Zk (AAh (h_l rfl (Zk (AAh (h_l rfl ?_))))))))));obtain ⟨Ki,Ac,Ga⟩:=Zp (AA7 Bo Bp);refine ACt ABu rfl (Aa.o2 p4) rfl Ac fun Kj Kk Kl Gb Gc=>AAh (h_l rfl (AB8 ADi rfl Ai (fun h' hb=>AAu Gc hb.ext) (AAh (h_l rfl (Zk (AAh (h_l rfl ?_)))))));obtain ⟨Km,Az,Gd⟩:=Zp Ga;refine AEa (m:=Ay) ACn rfl (Aa.o2 p4) Gb Ac rfl Az fun Kn Ge=>AAh (h_l rfl ?_);obtain ⟨Ko,Ct,Gf⟩:=(Aa.o2 p4).cells Ge Ac Az;refine APk (c:=cZ) ABa rfl Ct Ai (fun h' hb j u hu=>AAu (Gf j u hu) hb.ext) (AAh (h_e rfl fun Kp Cu=>?_));have Bq:=(Aa.az (cZ.upT Ct Ai)).e Cu;obtain ⟨Kr,Gg,Gh⟩:=Zp Gd;refine AEz Bq (Ai.thenE Cu) (Aft (Bq.z p2).2 (Bq.z p0).2 Gg) fun Kt Ku Gi Gj Ag=>AAh ⟨Gi,?_⟩;refine h_l rfl (Zk (AAh (h_l rfl (Zk (AAh (h_l rfl (ACt ABu rfl (Aa.o2 p4) rfl Ac fun Kv Kw Kx Gk Gl=>AAh (h_l rfl (AB8 ADi rfl Ag (fun h' hb=>AAu Gl hb.ext) (AAh (h_l rfl (Zk (AAh (h_l rfl ?_))))))))))))));obtain ⟨Ky,Cv,Gm⟩:=Zp Gh;refine AEa (m:=Ay) ACn rfl (Aa.o2 p4) Gk Ac rfl Cv fun Kz Gn=>AAh (h_l rfl ?_);obtain ⟨La,Cw,Gp⟩:=(Aa.o2 p4).cells Gn Ac Cv;refine APk (c:=cZ) ABa rfl Cw Ag (fun h' hb j u hu=>AAu (Gp j u hu) hb.ext) (AAh (h_l rfl (Zk (AAh (h_l rfl (Zk (AAh (h_l rfl ?_))))))));obtain ⟨Lb,Br,Gq⟩:=Zp Gm;refine ACt ABu rfl (Aa.o2 p4) rfl Br fun Lc Ld Le Gr Gt=>AAh (h_l rfl (AB8 ADi rfl Ag (fun h' hb=>AAu Gt hb.ext) (AAh (h_l rfl (Zk (AAh (h_l rfl ?_)))))));obtain ⟨Lf,Cx,Gu⟩:=Zp Gq;refine AEa (m:=Ao) ACn rfl (Aa.o2 p4) Gr Br rfl Cx fun Lg Gv=>AAh (h_l rfl ?_);obtain ⟨Lh,Cy,Gw⟩:=(Aa.o2 p4).cells Gv Br Cx;refine APk (c:=cZ) ABa rfl Cy Ag (fun h' hb j u hu=>AAu (Gw j u hu) hb.ext) (AAh (h_e rfl fun Li Cz=>?_));have Bt:=((Gj.az (cZ.upT Cw Ag)).az (cZ.upT Cy Ag)).e Cz;obtain ⟨Lj,Gx,Gy⟩:=Zp Gu;refine AEz Bt (Ag.thenE Cz) (Aft (Bt.z p1).2 (Bt.z p0).2 Gx) fun Lk Ll Gz G3 G4=>AAh ⟨Gz,?_⟩;refine h_e rfl fun Lm C0=>?_;have Bu:=G3.e C0;obtain ⟨Lo,G5,G6⟩:=Zp Gy;refine AEz Bu (G4.thenE C0) (Arr (Bu.z p3).2 (Bu.z p0).2 G5) fun G7 Lq G8 G9 Hb=>AAh ⟨G8,?_⟩;refine AYz fun Hc C1=>Aoh fun Lr C2 Hd Lv=>?_;have Aj:=G9.e C1;have A3:=((((((Aa.nb (Hb.thenE C1).ext (AEv Hd C2.lt) C2).az (Aj.z p5)).az (Aj.z p4)).az (Aj.z p3)).az (Aj.z p2)).az (Aj.z p1)).az (Aj.z p0);refine AB3 G7 ABa (cZ.klen (A3.z p0)) (cZ.klen (AAa Hc)) rfl rfl (cZ.one (A3.z p0)) (A3.b p6) fun Bv He Hf=>Zr (ACb (fun h'=>UpT [] Bv h') Zw ?_);have Ad:=A3.sb p6 Hf He rfl;have Ap:UpT [] Bv Bv:=UpT.start all_nil;refine Zk (Zk (ACt ABu rfl (Ad.o2 p11) rfl Ac fun Lw Lx Ly Hg Hh=>AB8 ADi rfl Ap (fun h' hb=>AAu Hh hb.ext) (Zk (AMz (Ad.z p0) Ap (Ad.b p6) (AMz (Ad.z p10) Ap (Ad.b p9) ?_)))));obtain ⟨⟨Lz,L9,Ma⟩,Hj,C3⟩:=Zp G6;dsimp only at C3;refine AD2 Ap (fun _ E=>Ap.thenE E) rfl (AWw (Ad.z p0).2 (Ad.z p10).2 Hj) fun Mb Mc Hk Hl=>?_;obtain ⟨Md,Me,rfl,Hm,Hn⟩:=Hl;obtain ⟨Mf,rfl,Ho⟩:=Hm.cs;obtain ⟨Mg,rfl,Hq⟩:=Hn.cs;refine Zk (ABj rfl rfl (ABj rfl rfl (ABj rfl rfl (AEa (m:=Ay) ACn rfl (Ad.o2 p11) Hg Ac rfl Az fun Mh Hr=>?_))));have Aq:=((Ad.e Hk).az Ho).az Hq;refine ALu (m:=Ay) (AQf ABa (cZ.klen (Aq.z p1)) rfl rfl (cZ.one (Aq.z p1))) (Aq.o2 p13) Hr Ac Az (Aq.z p1) fun Mi Hs Ht=>AAh (q_b (q_t (Z1 (Zk (AAz rfl rfl (Zv ?_))))));exact ⟨(_,_,_,_,_),(Zm C3).symm,(Aq.uO2 p13 Ht Hs).sel [9,10,11,12,13,14] Zl,rfl,trivial⟩
     ·refine AAe (AAf (AAf (ABk (q_b (q_t (Z1 (Zk (AAz rfl rfl (Zv ?_)))))))));exact ⟨(_,_,_,_,_),(Zm (F9 _ (Zm (AA8 Bo Bp)).symm)).symm,Aa,rfl,trivial⟩
    ·refine AAe (AAf (AAf (ABk (q_t (Z1 (AJd (Af.z p1) (Af.b p0) (AFc Af p2 (Af.z p3) (Af.z p1) fun Mj Hu=>AAh (q_b (q_t (Z1 (AAz rfl rfl (Zk (Zr ?_)))))))))))));exact ⟨(_,_,_,_,_,_,_,_),(Zm (F8 _ (Zm (AA8 Bl Bm)).symm)).symm,Hu.sel [2,1,4,5] Zl,rfl,rfl,trivial⟩
  ·refine AAe (AAf (AAf (ABk (q_t (Zo (Zn (Zk (Zr ?_))))))));have C4:=B8 _ (Zm (AA8 Ba Bb)).symm;refine ⟨_,rfl,fun Bw=>?_,fun Bw=>?_⟩
   ·refine Zn (AJd (Ab.z p1) (Ab.b p0) ?_);obtain ⟨Mk,Hv,Hw⟩:=Zp (ifT C4 Bw);refine AMg Ab (Ars (Ab.z p1).2 Hv) fun Ml Hx Mm C5=>AFc C5 p4 (AAa Hx) (C5.z p0) fun Mo A4=>Zr (Zy (AAc ?_));obtain rfl:=Zm Hw;exact ⟨_,AB9 ABa (cZ.klen (A4.z p0)) rfl (A4.b p4),A4.x,_,rfl,(A4.z p0).2⟩
   ·refine Zx (q_t (Zn (AJd (Ab.z p1) (Ab.b p0) ?_)));obtain ⟨Mq,Hy,Hz⟩:=Zp (AH9 C4 Bw);refine AMg Ab (AVo (Ab.z p1).2 Hy) fun Mr Ia Ms C6=>AFc C6 p4 (AAa Ia) (C6.z p0) fun Mt A5=>Zr (Zy ?_);obtain rfl:=Zm Hz;exact ⟨_,AB9 ABa (cZ.klen (A5.z p0)) rfl (A5.b p4),A5.x,_,rfl,(A5.z p0).2⟩
def AOw (fuel:Nat) (a3:LiI):Option (Int × Bool):=
  ((AFg fuel a3).bind fun (Ab,Ac,Ad)=>(if (!Ad)=true then (some (0,false)) else (if ¬ Ab=Ac then (some (0,false)) else ((AGa fuel a3).bind fun Ae=>(some (Ae,true))))))
theorem AXl {fuel:Nat} {h:Zs} {Af:Value} {a3:LiI} {r:(Int × Bool)} (H2:AEq cZ h Af a3) (hp:AOw fuel a3=some r):AAs Tryz.prog 78 #[Af] h (fun x h'=>Ext h h'/\ ∃ (x0:Value),x= .tuple #[x0,.bool r.2]/\ZZ h' x0 r.1):=by
 unfold AOw at hp;refine cwf (l:=[_]) Tryz.func78 rfl rfl (Zn (ACx (Kst.k0 h) [.bool false,.slice none 0 0] AEb fun b5 h6 E8 Aj=>AA3 (Zk ?_)));obtain ⟨⟨A6,A7,Av⟩,Aw,Ad⟩:=Zp hp;dsimp only at Ad;refine ADk Aj (AP6 (H2.ext Aj.x) Aw) fun Aa A8 Ab=>Zk (ABj rfl rfl (ABj rfl rfl (ABj rfl rfl (AAi (AAi (Zv (Zo (Zn (Zk (ADp rfl (Zk ?_)))))))))));cases Ak:(!Av)
 ·refine AAk 15 false (Zk (AAk 15 false (Zk (AAk 15 false (ADc rfl rfl (AAo rfl (Zr ?_)))))));have Am:=AH9 Ad Ak;refine ⟨_,rfl,fun Ae=>?_,fun Ae=>?_⟩
  ·refine Zn (AC5 (AMw ) (AFc Ab p0 (AAa Aa) (AAa Aa) fun Ao Ap=>Zv (Zy (AAc ?_))));obtain rfl:=Zm (AA7 Am Ae);exact ⟨_,AQc ABa (cZ.klen (AAa Ao)) rfl (Ap.b p0),Ap.x,_,rfl,(AAa Ao).2⟩
  ·refine Zx (q_t (Zn (Zk ?_)));obtain ⟨A9,Ax,Ay⟩:=Zp (AA8 Am Ae);refine AMg Ab (ARi (H2.ext Ab.x) Ax) fun Ba Az Bb Aq=>AFc Aq p1 (AAa Az) (Aq.z p0) fun Bc Ac=>Zv (Zy ?_);obtain rfl:=Zm Ay;exact ⟨_,AQc ABa (cZ.klen (Ac.z p0)) rfl (Ac.b p1),Ac.x,_,rfl,(Ac.z p0).2⟩
 ·refine AH3 15 true (AAd rfl (Zr (AAl rfl (Zn (AC5 (AMw ) (AFc Ab p0 (AAa Aa) (AAa Aa) fun Ar Au=>Zv (Zy (AAc ?_))))))));obtain rfl:=Zm (ifT Ad Ak);exact ⟨_,AQc ABa (cZ.klen (AAa Ar)) rfl (Au.b p0),Au.x,_,rfl,(AAa Ar).2⟩
end Go.Proofs.YtdkldlbgcfpglaaGreatDoor
namespace Go.QF
open Go
theorem Ai3 {h:Zs} {v:Value} {l:List Value} (H:Sl h v l):SlK h 1 v (l.map fun x=>[x]):=by
 obtain ⟨a,cap,hv,hc⟩:=H;refine ⟨a,cap,by rw [List.length_map];exact hv,fun i row hr=>?_⟩;rw [List.getElem?_map] at hr;obtain ⟨x,hx,rfl⟩:=Option.map_eq_some_iff.1 hr;obtain ⟨b,o,ha,hb⟩:=hc i x hx;refine ⟨b,o,ha,fun j y hy=>?_⟩
 cases j with
 | zero=>injection hy with hy;subst hy;rw [Nat.mul_one,Nat.add_zero];exact hb
 | succ j=>simp at hy
theorem Aan {h:Zs} {v:Value} {l:List Value} (H:SlK h 1 v (l.map fun x=>[x])):Sl h v l:=by
 obtain ⟨a,cap,hv,hc⟩:=H;refine ⟨a,cap,by rw [List.length_map] at hv;exact hv,fun i x hx=>?_⟩;obtain ⟨b,o,ha,hb⟩:=hc i [x] (by simp [hx]);refine ⟨b,o,ha,?_⟩;have:=hb 0 x rfl;rwa [Nat.mul_one,Nat.add_zero] at this
theorem Al8 {κ:IntKind} {h:Zs} {v:Value} {L:List Int} (H:Sl h v (L.map (.int κ))):SlC (cI κ) h v L:=by
 refine ⟨L.map fun a=>[.int κ a],?_,AAx,fun i cs a h1 h2=>?_⟩
 ·have:=Ai3 H;rwa [List.map_map] at this
 ·rw [List.getElem?_map,h2] at h1;injection h1 with h1;exact h1.symm
theorem Ats {κ:IntKind} {h:Zs} {v:Value} {L:List Int} (H:SlC (cI κ) h v L):Sl h v (L.map (.int κ)):=by
 obtain ⟨Ls,h1,h2,h3⟩:=H
 have:Ls=(L.map (Value.int κ)).map fun x=>[x]:=by
   apply List.ext_getElem?
   intro i
   by_cases hi:i < L.length
   · obtain ⟨a,ha⟩:∃ a,L[i]? =some a:=⟨L[i],List.getElem?_eq_getElem hi⟩
     obtain ⟨cs,hcs⟩:∃ cs,Ls[i]? =some cs:=⟨Ls[i]'Zj,List.getElem?_eq_getElem _⟩
     have:=h3 i cs a hcs ha
     rw [hcs,List.map_map,List.getElem?_map,ha]
     exact congrArg some this
   · rw [List.getElem?_eq_none Zj,List.getElem?_eq_none (by simp;omega)]
 subst this;exact Aan h1
theorem Art {h:Zs} {v:Value} {M:List (List Int)} (H:AEq (cI .i64) h v M):Mat h v M:=by
 obtain ⟨_,rs,h1,h2,h3⟩:=H;exact ⟨rs,Aan h1,h2,fun i r z hr hz=>Ats (h3 i r z hr hz)⟩
end Go.QF
namespace Go.QF
def Abs (x b:Int):Prop:= -b<=x/\x<=b
theorem AT7 {x y a b:Int} (hx:Abs x a) (hy:Abs y b):Abs (x * y) (a * b):=by
 unfold Abs at *;have ha:0<=a:=by omega
 have hb:0<=b:=by omega
 have h1:0<=(a - x) * (b - y):=Int.mul_nonneg Zj Zj;have h2:0<=(a - x) * (b + y):=Int.mul_nonneg Zj Zj;have h3:0<=(a + x) * (b - y):=Int.mul_nonneg Zj Zj;have h4:0<=(a + x) * (b + y):=Int.mul_nonneg Zj Zj;constructor <;> grind
theorem Al9 {x b y:Int} (hb:0 < b) (hx:Abs x (b * y)):Abs (x.tdiv b) y:=by
 unfold Abs at *;rcases AQ8 x 0 with h | h
 ·have h1:x.tdiv b= -((-x).tdiv b):=by rw [Int.neg_tdiv,Int.neg_neg]
  have h2:(-x).tdiv b=(-x) / b:=Int.tdiv_eq_ediv_of_nonneg Zj
  have h3:(-x) / b<=y:=by
    have:(-x) / b<=(b * y) / b:=Int.ediv_le_ediv hb Zj
    rwa [Int.mul_ediv_cancel_left _ Zj] at this
  have h4:0<=(-x) / b:=Int.ediv_nonneg Zj Zj;omega
 ·have h2:x.tdiv b=x / b:=Int.tdiv_eq_ediv_of_nonneg h
  have h3:x / b<=y:=by
    have:x / b<=(b * y) / b:=Int.ediv_le_ediv hb Zj
    rwa [Int.mul_ediv_cancel_left _ Zj] at this
  have h4:0<=x / b:=Int.ediv_nonneg h Zj;omega
def AY6 (M:List (List Int)):Prop:=(1<=M.length/\M.length<=8)/\(∀ z∈M,z.length=M.length)/\ ∀ i j,i < M.length->j < M.length->ent M i j=ent M j i/\ -262144 < ent M i j/\ent M i j < 262144
open Classical in
noncomputable def AJ6 (M:List (List Int)):Bool:=decide (AY6 M)
theorem AF5 {M:List (List Int)} (h:AY6 M):true=AJ6 M:=by simp [AJ6,h]
theorem ADg {M:List (List Int)} (h: ¬ AY6 M):false=AJ6 M:=by simp [AJ6,h]
theorem AY7 {M:List (List Int)} (h:AJ6 M=true):AY6 M:=by simpa [AJ6] using h
def AOj (m:Nat) (F:Z4):Prop:=(0 < F 0 0/\F 0 0 < 65536)/\ ∀ i,1<=i->i < m->2 * F i 0<=F 0 0/\ -2 * F i 0<=F 0 0
instance (m:Nat) (F:Z4):Decidable (AOj m F):=by
  unfold AOj
  have:Decidable (∀ i,1<=i->i < m->2 * F i 0<=F 0 0/\ -2 * F i 0<=F 0 0):=
    decidable_of_iff (∀ i,i < m->1<=i->2 * F i 0<=F 0 0/\ -2 * F i 0<=F 0 0) ⟨fun h i a b=>h i b a,fun h i a b=>h i b a⟩
  infer_instance
def AP7 (F:Z4) (last:Int):Z4:=fun i j=>(F 0 0 * F (i + 1) (j + 1) - F (i + 1) 0 * F 0 (j + 1)).tdiv last
def AUg (F:Z4) (last:Int):Prop:=3 * F 0 0 * F 0 0<=4 * (last * AP7 F last 0 0 + F 1 0 * F 1 0)
instance (F:Z4) (last:Int):Decidable (AUg F last):=by unfold AUg;infer_instance
def AOk:Nat->(Z4)->Int->Bool
  | 0,_,_=>false
  | 1,F,_=>decide (0 < F 0 0/\F 0 0<=10000)
  | m + 2,F,last=>decide (AOj (m + 2) F) && (decide (AUg F last) && AOk (m + 1) (AP7 F last) (F 0 0))
noncomputable def isRed (M:List (List Int)):Bool:=AJ6 M && AOk M.length (ent M) 1
structure Stg (m:Nat) (F:Z4) (last:Int) (K:Int):Prop where
  sym:∀ i j,i < m->j < m->F i j=F j i
  bd:∀ i j,i < m->j < m->Abs (F i j) (last * K)
  l1:1<=last
  l2:last<=65535
theorem Ad0 {m:Nat} {F:Z4} {last K:Int} (H:Stg (m + 1) F last K) (hK:0<=K) (hs:AOj (m + 1) F):Stg m (AP7 F last) (F 0 0) (K + 16384):=by
 have hd:=hs.1
 have hcol:∀ i,i < m->Abs (2 * F (i + 1) 0) (F 0 0):=fun i hi=>by
   have:=hs.2 (i + 1) Zj Zj
   exact ⟨Zj,Zj⟩
 refine ⟨fun i j hi hj=>?_,fun i j hi hj=>?_,Zj,Zj⟩
 ·unfold AP7;rw [H.sym (i + 1) (j + 1) Zj Zj,H.sym (i + 1) 0 Zj Zj,H.sym 0 (j + 1) Zj Zj,Int.mul_comm (F 0 (i + 1))]
 ·unfold AP7;refine Al9 (by have:=H.l1;omega) ?_;have h1:Abs (F 0 0 * F (i + 1) (j + 1)) (F 0 0 * (last * K)):=AT7 ⟨Zj,Zj⟩ (H.bd _ _ Zj Zj)
  have h2:Abs (2 * F (i + 1) 0 * (2 * F 0 (j + 1))) (F 0 0 * F 0 0):=by
    refine AT7 (hcol i hi) ?_
    rw [H.sym 0 (j + 1) Zj Zj];exact hcol j hj
  have h3:0<=F 0 0 * (65536 - F 0 0):=Int.mul_nonneg Zj Zj;have h4:0<=F 0 0 * (last - 1):=Int.mul_nonneg Zj (by have:=H.l1;omega);unfold Abs at *;have e1:2 * F (i + 1) 0 * (2 * F 0 (j + 1))=4 * (F (i + 1) 0 * F 0 (j + 1)):=by grind
  rw [e1] at h2;have e2:last * (F 0 0 * (K + 16384))=F 0 0 * (last * K) + 16384 * (F 0 0 * last):=by grind
  rw [e2];have e3:F 0 0 * (65536 - F 0 0)=65536 * F 0 0 - F 0 0 * F 0 0:=by grind
  have e4:F 0 0 * (last - 1)=F 0 0 * last - F 0 0:=by grind
  rw [e3] at h3;rw [e4] at h4;omega
theorem Ai4 {M:List (List Int)} (h:AY6 M):Stg M.length (ent M) 1 262144:=by
 refine ⟨fun i j hi hj=>(h.2.2 i j hi hj).1,fun i j hi hj=>?_,Zj,Zj⟩;have:=h.2.2 i j hi hj;unfold Abs;omega
theorem ANu {m:Nat} {F:Z4} {last:Int} (h:2<=m) (hs: ¬ AOj m F):AOk m F last=false:=by
 obtain ⟨n,rfl⟩:∃ n,m=n + 2:=⟨m - 2,Zj⟩;unfold AOk;rw [decide_eq_false hs];rfl
theorem ARj {m:Nat} {F:Z4} {last:Int} (h:2<=m) (hs: ¬ AUg F last):AOk m F last=false:=by
 obtain ⟨n,rfl⟩:∃ n,m=n + 2:=⟨m - 2,Zj⟩;unfold AOk;rw [decide_eq_false hs,Bool.false_and,Bool.and_false]
theorem Ai5 {m:Nat} {F:Z4} {last:Int} (h:2<=m) (hs:AOj m F) (hl:AUg F last):AOk m F last=AOk (m - 1) (AP7 F last) (F 0 0):=by
 obtain ⟨n,rfl⟩:∃ n,m=n + 2:=⟨m - 2,Zj⟩;rw [AOk,decide_eq_true hs,decide_eq_true hl];rfl
theorem AX0 {m:Nat} {F:Z4} {last K:Int} (H:Stg m F last K) (hK0:0<=K) (hK:K<=393216) {i j:Nat} (hi:i < m) (hj:j < m):Abs (F i j) 34359738368:=by
  have h1:=H.bd i j hi hj;have h2:=(AUs (a:=last) (b:=K) (A:=65535) (B:=393216) (by have:=H.l1;omega) H.l2 hK0 hK).2;unfold Abs at *;omega
end Go.QF
namespace Go.Proofs.YtdkldlbgcfpglaaGreatDoor
open Go Go.QF
set_option maxRecDepth 100000
theorem AJr {α:Type} {c:Nat} {g:Nat->α} {q:Nat} (hq:q < c):((List.range c).map g)[q]? =some (g q):=by simp [hq]
section
variable {P:Program} {B:Zs->Prop} {st:Bool} {ops:Array Oper} {rest:List Oper} {e:Env} {h:Zs} {K:Env->Zs->Prop}
variable {d:Nat} {ty:TypeId} {pos:String} {af:Array Edge}
end
end Go.Proofs.YtdkldlbgcfpglaaGreatDoor
namespace Go.Proofs.YtdkldlbgcfpglaaGreatDoor
open Go Go.QF
set_option maxRecDepth 100000
theorem Afu {h:Zs} {v:Value} {M:List (List Int)} (HM:Mat h v M):AAs Tryz.prog 71 #[v] h fun x h'=>h'=h/\x= .bool (AJ6 M):=by
 refine AA5 (l:=[_]) mx Tryz.func71 rfl rfl rfl rfl rfl Zw (Zn (AA3 (Zk (AWd AAn rfl HM (Zv (Zo (Zn (Zk (AD0 rfl rfl (fun Ab=>?_) (fun Ab=>?_))))))))))
 ·refine Zk (ABb 14 true Zw rfl rfl (ABb 14 true Zw rfl rfl (AAd rfl (Zr (AAl rfl (Zn (Zv (Zy (AAc (⟨_,Zz,?_⟩))))))))))
  first
    | exact ⟨rfl,congrArg Value.bool (ADg fun hh=>by have:=hh.1;omega)⟩
    | exact ⟨rfl,congrArg Value.bool (ADg fun hh=>by have:=hh.2.1 M[i] (List.getElem_mem _);omega)⟩
    | exact ⟨rfl,congrArg Value.bool (ADg fun hh=>by have:=hh.2.2 a b Zj Zj;omega)⟩
    | exact ⟨rfl,congrArg Value.bool (AF5 ⟨⟨Zj,Zj⟩,hrows,fun x y hx hy=>hall x y Zj hy⟩)⟩
 ·refine Zk (ABn 14 false Zw rfl rfl (Zk (ABn 14 false Zw rfl rfl (APb rfl rfl (fun Ac=>?_) (fun Ac=>?_)))))
  ·refine AAo rfl (Zr (AAl rfl (Zn (Zv (Zy (AAc (⟨_,Zz,?_⟩)))))))
   first
     | exact ⟨rfl,congrArg Value.bool (ADg fun hh=>by have:=hh.1;omega)⟩
     | exact ⟨rfl,congrArg Value.bool (ADg fun hh=>by have:=hh.2.1 M[i] (List.getElem_mem _);omega)⟩
     | exact ⟨rfl,congrArg Value.bool (ADg fun hh=>by have:=hh.2.2 a b Zj Zj;omega)⟩
     | exact ⟨rfl,congrArg Value.bool (AF5 ⟨⟨Zj,Zj⟩,hrows,fun x y hx hy=>hall x y Zj hy⟩)⟩
  ·refine AAo rfl (Zr (AAq rfl (Zx (q_t (Zo (Zn (Zk (AWd AAn rfl HM (Zk (Zr (Zt (AEh 535822372 (fun i:Nat=>[(20,.int .i64 (i:Int))]) (fun k i h'=>h'=h/\k=M.length - i/\i<=M.length/\ ∀ j (hj:j < M.length),j < i->M[j].length=M.length) Zw M.length 0 ?_ ⟨rfl,trivial⟩ ?_))))))))))))
   ·exact ⟨rfl,rfl,Nat.zero_le _,fun j _ hj=>by omega⟩
   rintro k i s1 h ⟨rfl,rfl,hi,hrow⟩;refine Zn (AD0 rfl rfl (fun Ad=>?_) (fun Ad=>?_))
   ·refine Zr (Zo (AAl rfl (Zx (q_t (Zo (Zt (Zn (AS7 AAn rfl HM rfl (List.getElem?_eq_getElem Zj) fun aR rR haR hrR=>?_))))))));refine AA6 AA1 rfl haR (AA3 (Zk (Ajy AAj rfl hrR (Zk (Acx rfl rfl (fun Ae=>?_) (fun Ae=>?_))))))
    ·refine Zr (AAl rfl (Zn (Zv (Zy (ABp (AAc (AAc (ABp (AAc (⟨_,Zz,?_⟩))))))))))
     first
       | exact ⟨rfl,congrArg Value.bool (ADg fun hh=>by have:=hh.1;omega)⟩
       | exact ⟨rfl,congrArg Value.bool (ADg fun hh=>by have:=hh.2.1 M[i] (List.getElem_mem _);omega)⟩
       | exact ⟨rfl,congrArg Value.bool (ADg fun hh=>by have:=hh.2.2 a b Zj Zj;omega)⟩
       | exact ⟨rfl,congrArg Value.bool (AF5 ⟨⟨Zj,Zj⟩,hrows,fun x y hx hy=>hall x y Zj hy⟩)⟩
    ·refine Zr (AAq rfl (Zx (q_b (q_t (Z1 (AIk rfl Zj (Zk (Zr ?_))))))));exact ⟨M.length - (i + 1),i + 1,Zj,⟨rfl,rfl,Zj,fun j hj Af=>by rcases Nat.lt_succ_iff_lt_or_eq.1 Af with q | rfl;exact hrow j hj q;omega⟩,rfl,trivial⟩
   ·refine Zr (Zo (AAq rfl (AAe (AAf (AAf (ABk (q_t (Zo (Zo ?_)))))))));have hrows:∀ z∈M,z.length=M.length:=fun z hz=>by obtain ⟨j,hj,rfl⟩:=List.getElem_of_mem hz;exact hrow j hj Zj
    have Aa:Mat h v (tab M.length M.length (ent M)):=(Ae3 hrows) ▸ HM;refine Z1 (Zk (AWd AAn rfl Aa ?_));rw [AA9];refine Zk (Zr (Zt (AEh 4611686016279905220 (fun a:Nat=>[(31,.int .i64 (a:Int))]) (fun k a h'=>h'=h/\k=M.length - a/\a<=M.length/\ ∀ x y,x < a->y < M.length->ent M x y=ent M y x/\ -262144 < ent M x y/\ent M x y < 262144) Zw M.length 0 ?_ ⟨rfl,trivial⟩ ?_)))
    ·exact ⟨rfl,rfl,Nat.zero_le _,fun x y hx=>by omega⟩
    rintro k a s2 h ⟨rfl,rfl,ha,hall⟩;refine Zn (AD0 rfl rfl (fun Ag=>?_) (fun Ag=>?_))
    ·refine Zr (Zo (AAl rfl (Zx (q_t (Zo (Zt (Zn (Zk (AS7 AAn rfl Aa rfl (AHu Zj) fun aS rS haS hrS=>AA6 AA1 rfl haS (AAi (AA3 (Zk (Ajy AAj rfl hrS ?_)))))))))))));rw [List.length_map,List.length_range];refine Zk (Zr (Zt (AEh 2305842734335787780 (fun b:Nat=>[(38,.int .i64 (b:Int))]) (fun k b h'=>h'=h/\k=M.length - b/\b<=M.length/\ ∀ y,y < b->ent M a y=ent M y a/\ -262144 < ent M a y/\ent M a y < 262144) Zw M.length 0 ?_ ⟨rfl,trivial⟩ ?_)))
     ·exact ⟨rfl,rfl,Nat.zero_le _,fun y hy=>by omega⟩
     rintro k b s3 h ⟨rfl,rfl,hb,hrw⟩;refine Zn (AD0 rfl rfl (fun Ah=>?_) (fun Ah=>?_))
     ·refine Zr (Zo (AAl rfl (Zx (q_t (Zo (Zt (Zn (Zk (AQ7 AAj rfl hrS rfl (AJr Zj) fun Aq Ai=>AA6 AAt rfl Ai (AAi (AA3 (Zk (Zk (Zk (AS7 AAn rfl Aa rfl (AHu Zj) fun aT rT haT hrT=>?_)))))))))))))));refine AA6 AA1 rfl haT (Zk (AQ7 AAj rfl hrT rfl (AJr Zj) fun Ar Aj=>AA6 AAt rfl Aj (Acx rfl rfl (fun Ak=>?_) (fun Ak=>?_))))
      ·refine Zk (ABb 52 true Zw rfl rfl (ABb 52 true Zw rfl rfl (AAd rfl (Zk (ABb 56 true Zw rfl rfl (ABb 56 true Zw rfl rfl (AAd rfl (Zr (AAl rfl (Zn (Zv (Zy (ABp (AAc (AAc (ABp (ABp (AAc (AAc (ABp (AAc (⟨_,Zz,?_⟩))))))))))))))))))))))
       first
         | exact ⟨rfl,congrArg Value.bool (ADg fun hh=>by have:=hh.1;omega)⟩
         | exact ⟨rfl,congrArg Value.bool (ADg fun hh=>by have:=hh.2.1 M[i] (List.getElem_mem _);omega)⟩
         | exact ⟨rfl,congrArg Value.bool (ADg fun hh=>by have:=hh.2.2 a b Zj Zj;omega)⟩
         | exact ⟨rfl,congrArg Value.bool (AF5 ⟨⟨Zj,Zj⟩,hrows,fun x y hx hy=>hall x y Zj hy⟩)⟩
      ·refine Zk (ABn 52 false Zw rfl rfl (Zk (ABn 52 false Zw rfl rfl (AQ5 rfl rfl (fun Am=>?_) (fun Am=>?_)))))
       ·refine AAo rfl (Zk (ABb 56 true Zw rfl rfl (ABb 56 true Zw rfl rfl (AAd rfl (Zr (AAl rfl (Zn (Zv (Zy (ABp (AAc (AAc (ABp (ABp (AAc (AAc (ABp (AAc (⟨_,Zz,?_⟩)))))))))))))))))))
        first
          | exact ⟨rfl,congrArg Value.bool (ADg fun hh=>by have:=hh.1;omega)⟩
          | exact ⟨rfl,congrArg Value.bool (ADg fun hh=>by have:=hh.2.1 M[i] (List.getElem_mem _);omega)⟩
          | exact ⟨rfl,congrArg Value.bool (ADg fun hh=>by have:=hh.2.2 a b Zj Zj;omega)⟩
          | exact ⟨rfl,congrArg Value.bool (AF5 ⟨⟨Zj,Zj⟩,hrows,fun x y hx hy=>hall x y Zj hy⟩)⟩
       ·refine AAo rfl (Zk (ABn 56 false Zw rfl rfl (Zk (ABn 56 false Zw rfl rfl (AS6 rfl rfl (fun Ao=>?_) (fun Ao=>?_))))))
        ·refine AAo rfl (Zr (AAl rfl (Zn (Zv (Zy (ABp (AAc (AAc (ABp (ABp (AAc (AAc (ABp (AAc (⟨_,Zz,?_⟩)))))))))))))))
         first
           | exact ⟨rfl,congrArg Value.bool (ADg fun hh=>by have:=hh.1;omega)⟩
           | exact ⟨rfl,congrArg Value.bool (ADg fun hh=>by have:=hh.2.1 M[i] (List.getElem_mem _);omega)⟩
           | exact ⟨rfl,congrArg Value.bool (ADg fun hh=>by have:=hh.2.2 a b Zj Zj;omega)⟩
           | exact ⟨rfl,congrArg Value.bool (AF5 ⟨⟨Zj,Zj⟩,hrows,fun x y hx hy=>hall x y Zj hy⟩)⟩
        ·refine AAo rfl (Zr (AAq rfl (Zx (q_b (q_t (Z1 (AIk rfl Zj (Zk (Zr ?_)))))))));exact ⟨M.length - (b + 1),b + 1,Zj,⟨rfl,rfl,Zj,fun y hy=>by rcases Nat.lt_succ_iff_lt_or_eq.1 hy with q | rfl;exact hrw y q;exact ⟨Zj,Zj,Zj⟩⟩,rfl,trivial⟩
     ·refine Zr (Zo (AAq rfl (AAe (AAf (AAf (ABk (q_b (q_t (Z1 (AIk rfl Zj (Zk (Zr ?_))))))))))));exact ⟨M.length - (a + 1),a + 1,Zj,⟨rfl,rfl,Zj,fun x y hx hy=>by rcases Nat.lt_succ_iff_lt_or_eq.1 hx with q | rfl;exact hall x y q hy;exact hrw y Zj⟩,rfl,trivial⟩
    ·refine Zr (Zo (AAq rfl (AAe (AAf (AAf (ABk (q_t (Zn (Zv (Zy (⟨_,Zz,?_⟩)))))))))))
     first
       | exact ⟨rfl,congrArg Value.bool (ADg fun hh=>by have:=hh.1;omega)⟩
       | exact ⟨rfl,congrArg Value.bool (ADg fun hh=>by have:=hh.2.1 M[i] (List.getElem_mem _);omega)⟩
       | exact ⟨rfl,congrArg Value.bool (ADg fun hh=>by have:=hh.2.2 a b Zj Zj;omega)⟩
       | exact ⟨rfl,congrArg Value.bool (AF5 ⟨⟨Zj,Zj⟩,hrows,fun x y hx hy=>hall x y Zj hy⟩)⟩
theorem Ama {m:Nat} {F:Z4}:(tab m m F).drop 1=tab (m - 1) m fun i j=>F (i + 1) j:=by
 refine List.ext_getElem (by simp [tab]) fun i h1 h2=>?_;simp [tab,Nat.add_comm]
theorem AY8 {h:Zs} {v:Value} {m:Nat} {F:Z4} (HM:Mat h v (tab m m F)) (hcap:AL9 v) (hm:1<=m) (Au:m<=8) (hfit:∀ i,i < m->Abs (F i 0) 34359738368):AAs Tryz.prog 72 #[v] h fun x h'=>h'=h/\x= .bool (decide (AOj m F)):=by
 refine AA5 (l:=[_]) mx Tryz.func72 rfl rfl rfl rfl rfl Zw (Zn (AA3 (Zk (AS7 (n:=0) AAn rfl HM rfl (AHu Zj) fun Av Aw Ad Ae=>AA6 AA1 rfl Ad (AQ7 (n:=0) AAj rfl Ae rfl (AJr Zj) fun Ax Af=>AA6 AAt rfl Af (Zv (Zo (Zn (Zk (AQ5 rfl rfl (fun Ag=>?_) (fun Ag=>?_)))))))))))
 ·refine Zk (ABb 13 true Zw rfl rfl (ABb 13 true Zw rfl rfl (AAd rfl (Zr (AAl rfl (Zn (Zv (Zy (AAc (⟨_,Zz,?_⟩))))))))))
  first
    | exact ⟨rfl,congrArg Value.bool (decide_eq_false (fun hh=>by have:=hh.1;omega)).symm⟩
    | exact ⟨rfl,congrArg Value.bool (decide_eq_false (fun hh=>by have:=hh.2 (i + 1) Zj Zj;omega)).symm⟩
    | exact ⟨rfl,congrArg Value.bool (decide_eq_true ⟨⟨Zj,Zj⟩,fun j h1 h2=>hall j h1 Zj⟩).symm⟩
 ·refine Zk (ABn 13 false Zw rfl rfl (Zk (ABn 13 false Zw rfl rfl (AS6 rfl rfl (fun Ah=>?_) (fun Ah=>?_)))))
  ·refine AAo rfl (Zr (AAl rfl (Zn (Zv (Zy (AAc (⟨_,Zz,?_⟩)))))))
   first
     | exact ⟨rfl,congrArg Value.bool (decide_eq_false (fun hh=>by have:=hh.1;omega)).symm⟩
     | exact ⟨rfl,congrArg Value.bool (decide_eq_false (fun hh=>by have:=hh.2 (i + 1) Zj Zj;omega)).symm⟩
     | exact ⟨rfl,congrArg Value.bool (decide_eq_true ⟨⟨Zj,Zj⟩,fun j h1 h2=>hall j h1 Zj⟩).symm⟩
  ·refine AAo rfl (Zr (AAq rfl (Zx (q_t (Zo (Zn (Zk (Aig (k:=1) AAn rfl HM hcap rfl (by rw [AA9];omega) fun v1 Ai Ay=>?_))))))));have HD:Mat h v1 (tab (m - 1) m fun i j=>F (i + 1) j):=Ama (m:=m) ▸ Ai;refine AWd AAn rfl HD ?_;rw [AA9];refine Zk (Zr (Zt (AEh 549754765348 (fun i:Nat=>[(20,.int .i64 (i:Int))]) (fun k i h'=>h'=h/\k=m - 1 - i/\i<=m - 1/\ ∀ j,1<=j->j < i + 1->2 * F j 0<=F 0 0/\ -2 * F j 0<=F 0 0) Zw (m - 1) 0 ?_ ⟨rfl,trivial⟩ ?_)))
   ·exact ⟨rfl,rfl,Nat.zero_le _,fun j h1 h2=>by omega⟩
   rintro k i s1 h ⟨rfl,rfl,hi,hall⟩;refine Zn (AD0 rfl rfl (fun Aj=>?_) (fun Aj=>?_))
   ·refine Zr (Zo (AAl rfl (Zx (q_t (Zo (Zt (Zn (AS7 AAn rfl HD rfl (AHu Zj) fun Az A3 Ak Ac=>AA6 AA1 rfl Ak (Zv (Zo ?_))))))))));have Am:=hfit (i + 1) Zj;unfold Abs at Am;refine Z1 (Zk (AQ7 (n:=0) AAj rfl Ac rfl (AJr Zj) fun A4 Ao=>AA6 AAt rfl Ao (AL5 rfl rfl Zj Zj (Zk (APb rfl rfl (fun Ap=>?_) (fun Ap=>?_))))))
    ·refine Zk (ABb 30 true Zw rfl rfl (ABb 30 true Zw rfl rfl (ABb 30 true Zw rfl rfl (ABb 30 true Zw rfl rfl (ABb 30 true Zw rfl rfl (ABb 30 true Zw rfl rfl (AAd rfl (Zr (AAl rfl (Zn (Zv (Zy (ABp (AAc (AAc (ABp (AAc (⟨_,Zz,?_⟩))))))))))))))))))
     first
       | exact ⟨rfl,congrArg Value.bool (decide_eq_false (fun hh=>by have:=hh.1;omega)).symm⟩
       | exact ⟨rfl,congrArg Value.bool (decide_eq_false (fun hh=>by have:=hh.2 (i + 1) Zj Zj;omega)).symm⟩
       | exact ⟨rfl,congrArg Value.bool (decide_eq_true ⟨⟨Zj,Zj⟩,fun j h1 h2=>hall j h1 Zj⟩).symm⟩
    ·refine Zk (ABn 30 false Zw rfl rfl (Zk (ABn 30 false Zw rfl rfl (AQ7 (n:=0) AAj rfl Ac rfl (AJr Zj) fun A5 Aq=>ABn 30 false Zw rfl rfl (AA6 AAt rfl Aq (ABn 30 false Zw rfl rfl (AL5 rfl rfl Zj Zj (ABn 30 false Zw rfl rfl (Zk (ABn 30 false Zw rfl rfl (APb rfl rfl (fun Ar=>?_) (fun Ar=>?_))))))))))))
     ·refine AAo rfl (Zr (AAl rfl (Zn (Zv (Zy (ABp (AAc (AAc (ABp (AAc (⟨_,Zz,?_⟩)))))))))))
      first
        | exact ⟨rfl,congrArg Value.bool (decide_eq_false (fun hh=>by have:=hh.1;omega)).symm⟩
        | exact ⟨rfl,congrArg Value.bool (decide_eq_false (fun hh=>by have:=hh.2 (i + 1) Zj Zj;omega)).symm⟩
        | exact ⟨rfl,congrArg Value.bool (decide_eq_true ⟨⟨Zj,Zj⟩,fun j h1 h2=>hall j h1 Zj⟩).symm⟩
     ·refine AAo rfl (Zr (AAq rfl (Zx (q_b (q_t (Z1 (AIk rfl Zj (Zk (Zr ?_)))))))));exact ⟨m - 1 - (i + 1),i + 1,Zj,⟨rfl,rfl,Zj,fun j h1 h2=>by rcases Nat.lt_succ_iff_lt_or_eq.1 h2 with q | rfl;exact hall j h1 q;exact ⟨Zj,Zj⟩⟩,rfl,trivial⟩
   ·refine Zr (Zo (AAq rfl (AAe (AAf (AAf (ABk (q_t (Zn (Zv (Zy (⟨_,Zz,?_⟩)))))))))))
    first
      | exact ⟨rfl,congrArg Value.bool (decide_eq_false (fun hh=>by have:=hh.1;omega)).symm⟩
      | exact ⟨rfl,congrArg Value.bool (decide_eq_false (fun hh=>by have:=hh.2 (i + 1) Zj Zj;omega)).symm⟩
      | exact ⟨rfl,congrArg Value.bool (decide_eq_true ⟨⟨Zj,Zj⟩,fun j h1 h2=>hall j h1 Zj⟩).symm⟩
theorem Aby {h:Zs} {v:Value} {M:List (List Int)} (HM:Mat h v M) (hcap:AL9 v):AAs Tryz.prog 36 #[v] h fun x h'=>Ext h h'/\x= .bool (isRed M):=by
 refine AA5 (l:=[_]) mx Tryz.func36 rfl rfl rfl rfl rfl Zw (Zn (Zv (Zo (Zn (Zk (AAr trivial rfl (Afu HM) fun x1 h hk=>?_))))));obtain ⟨rfl,rfl⟩:=hk;refine ⟨trivial,?_⟩;cases Au:AJ6 M
 ·refine ADp rfl (Zr (AAl rfl (Zn (Zv (Zy (AAc (⟨_,Zz,?_⟩)))))))
  first
    | exact ⟨(Ext.refl _),congrArg Value.bool (show false=isRed M by unfold isRed;rw [show AJ6 M=false by assumption];rfl)⟩
    | exact ⟨(Ext.refl _),congrArg Value.bool (show false=isRed M by unfold isRed;rw [hred,ANu Zj (of_decide_eq_false (by assumption)),Bool.and_false])⟩
    | exact ⟨(Ext.refl _),congrArg Value.bool (show false=isRed M by unfold isRed;rw [hred,ARj Zj (by unfold AUg;omega),Bool.and_false])⟩
    | (obtain rfl:m=1:=by omega
       first
       | exact ⟨(Ext.refl _),congrArg Value.bool (show true=isRed M by unfold isRed;rw [hred,<- AF5 hsm,AOk,decide_eq_true ⟨Zj,Zj⟩];rfl)⟩
       | exact ⟨(Ext.refl _),congrArg Value.bool (show false=isRed M by unfold isRed;rw [hred,AOk,decide_eq_false Zj,Bool.and_false])⟩)
 ·refine ADp rfl (Zr (AAq rfl (Zx (q_t (Zn (Zk (AA3 (Zv (Zo (Zt ?_))))))))));have hsm:=AY7 Au;have Av:=Ai4 hsm;have Aw:Mat h v (tab M.length M.length (ent M)):=(Ae3 hsm.2.1) ▸ HM;refine AEh 20282409603651670423947251255292 (fun y:Nat × Value × Int × (Z4)=>[(3,y.2.1),(4,.int .i64 y.2.2.1)]) (fun k y h'=>y.1=k/\Ext h h'/\1<=y.1/\y.1<=M.length/\Mat h' y.2.1 (tab y.1 y.1 y.2.2.2)/\AL9 y.2.1/\Stg y.1 y.2.2.2 y.2.2.1 (262144 + 16384 * (M.length - y.1))/\AOk M.length (ent M) 1=AOk y.1 y.2.2.2 y.2.2.1) Zw M.length (M.length,v,1,ent M) ?_ ⟨rfl,rfl,trivial⟩ ?_
  ·exact ⟨rfl,Ext.refl _,hsm.1.1,Nat.le_refl _,Aw,hcap,by have e0:(262144 + 16384 * ((M.length:Int) - (M.length:Int)))=262144:=Zj;rw [e0];exact Av,rfl⟩
  rintro k ⟨m,vs,last,F⟩ s1 hq ⟨rfl,XQ,Ay,hmn,HS,Aj,hstg,hred⟩;dsimp only at Ay hmn HS Aj hstg hred ⊢;have h8:=hsm.1.2;have B7:=hstg.l1;have B8:=hstg.l2;have szq:=XQ.1;refine Zo (Zn (Zk (AWd AAn rfl HS ?_)));rw [AA9];refine APb rfl rfl (fun Az=>?_) (fun Az=>?_)
  ·refine Zr (AAl rfl (Zx (q_t (Zt (Zn (Zk (AS7 (n:=0) AAn rfl HS rfl (AHu Zj) fun B9 Ca A3 A4=>AA6 AA1 rfl A3 (AQ7 (n:=0) AAj rfl A4 rfl (AJr Zj) fun Cb A5=>AA6 AAt rfl A5 (Zv (Zo (Zn (Zk (AAr trivial rfl (AY8 HS Aj Zj Zj (fun i hi=>AX0 hstg Zj Zj hi Zj)) fun x4 hq hk=>?_)))))))))))));obtain ⟨rfl,rfl⟩:=hk;refine ⟨trivial,?_⟩;cases Ce:decide (AOj m F)
   ·refine ADp rfl (Zr (AAl rfl (Zn (Zv (Zy (AAc (ABp (AAc (ABp (AAc (⟨_,Zz,?_⟩)))))))))))
    first
      | exact ⟨XQ,congrArg Value.bool (show false=isRed M by unfold isRed;rw [show AJ6 M=false by assumption];rfl)⟩
      | exact ⟨XQ,congrArg Value.bool (show false=isRed M by unfold isRed;rw [hred,ANu Zj (of_decide_eq_false (by assumption)),Bool.and_false])⟩
      | exact ⟨XQ,congrArg Value.bool (show false=isRed M by unfold isRed;rw [hred,ARj Zj (by unfold AUg;omega),Bool.and_false])⟩
      | (obtain rfl:m=1:=by omega
         first
         | exact ⟨XQ,congrArg Value.bool (show true=isRed M by unfold isRed;rw [hred,<- AF5 hsm,AOk,decide_eq_true ⟨Zj,Zj⟩];rfl)⟩
         | exact ⟨XQ,congrArg Value.bool (show false=isRed M by unfold isRed;rw [hred,AOk,decide_eq_false Zj,Bool.and_false])⟩)
   ·refine ADp rfl (Zr (AAq rfl (Zx (q_t (Zn (Zk (AWd AAn rfl HS ?_)))))));rw [AA9];have hsh:AOj m F:=of_decide_eq_true (by assumption);refine AK4 rfl rfl Zj Zj ?_;rw [show ((m:Nat):Int) - 1=((m - 1:Nat):Int) by omega];refine Ate (ei:=tI) AAn AMp (fun _=>trivial) rfl rfl Zl Zj fun b2 v2 h2 Ak E2 Cg hl2b=>?_;have Ch:=E2.1;have Z6:=(Ext.refl hq).trans E2;have X7:=XQ.trans E2;have HS_8:=HS.ext E2;refine Zv (Zo (Zn (Zk (Ae5 AAn rfl Ak.1 (Zk (Zr (Zt (AEh 1208925819614624879739776 (fun i:Nat=>[(32,.int .i64 (i:Int))]) (fun k i h'=>k=m - 1 - i/\i<=m - 1/\Ext hq h'/\ ∃ gs,AN0 h' tR tI (Array.size hq) b2 gs v2 (m - 1) ((List.range i).map (fun i=>(List.range (m - 1)).map fun j=>AP7 F last i j))) Zw (m - 1) 0 ?_ ⟨rfl,trivial⟩ ?_))))))))
    ·exact ⟨rfl,Nat.zero_le _,E2,[],Ak⟩
    rintro k i s2 h3 ⟨rfl,hi,E3,gs,HP⟩;have X9:=XQ.trans E3;have Ck:=E3.1;have HS_11:=HS.ext E3;refine Zn (AD0 rfl rfl (fun A7=>?_) (fun A7=>?_))
    ·refine Zr (Zo (AAl rfl (Zx (q_t (Zo (Zt (Zn (Zk (AA3 (Zk (Zk (AIk rfl Zj (Aqz AAn rfl HS E3 rfl (AHu Zj) fun aR rR haR hrR=>AA6 AA1 rfl haR (Zv ?_))))))))))))));refine Zn (Zk (Zk (Zk (Ae5 AAn rfl HP.1 (Atf AAj AJx (fun _=>trivial) rfl rfl Zl Zj fun g4 v4 h4 A8 E4 Cn Co=>?_)))));have Cp:=E4.1;have A9:=E3.trans E4;have Ba:=X9.trans E4;have HS_15:=HS_11.ext E4;have HP_16:=HP.ext E4;refine Anv AAn rfl HP_16 rfl Zj ?_;have hglt:=HP.1.lt;have hblo:=HP.2 b2 (List.mem_cons_self ..);refine Anw AA1 rfl rfl HP_16 AAx Zj A8 (fun hc=>by have:=hglt _ hc;omega) Zj fun h4b HPb U4=>?_;have Cq:=U4.1;have Cr:=Ba.thenUpd U4 (fun k hk=>by have Ah:k=b2:=hk;omega);have Ao:=A9.thenUpd U4 (fun k hk=>by have Ah:k=b2:=hk;omega);have HS_20:=HS.ext Ao;refine AHj (Zk (Ae5 AAn rfl HPb.1 (Zk (Zr (Zt (AEh 604462909525839610642944 (fun j:Nat=>[(48,.int .i64 (j:Int))]) (fun k j h'=>k=m - 1 - j/\j<=m - 1/\Ext hq h'/\AN0 h' tR tI (Array.size hq) b2 (gs ++ [g4]) v2 (m - 1) ((List.range i).map (fun i=>(List.range (m - 1)).map fun j=>AP7 F last i j) ++ [AXi (m - 1) (AP7 F last i) (fun _=>0) j])) Zw (m - 1) 0 ?_ ⟨rfl,trivial⟩ ?_))))))
     ·exact ⟨rfl,Nat.zero_le _,Ao,by rw [Aib,Aic];exact HPb⟩
     rintro k j s3 h5 ⟨rfl,hj,E5,HQ⟩;have Bb:=XQ.trans E5;have Cv:=E5.1;have HS_23:=HS.ext E5;refine Zn (AD0 rfl rfl (fun Bc=>?_) (fun Bc=>?_))
     ·refine Zr (Zo (AAl rfl (Zx (q_t (Zo (Zt (Zn (Zk (Zv ?_)))))))));have hd:=hsh.1;have hfit:=fun i j hi hj=>AX0 hstg Zj Zj (i:=i) (j:=j) hi hj;have q1:=AT7 (a:=65535) (b:=34359738368) (x:=F 0 0) (y:=F (i + 1) (j + 1)) ⟨Zj,Zj⟩ (hfit _ _ Zj Zj);have q2:=hsh.2 (i + 1) Zj Zj;have q3:=hsh.2 (j + 1) Zj Zj;rw [<- hstg.sym 0 (j + 1) Zj Zj] at q3;have q4:=AT7 (a:=32768) (b:=32768) (x:=F (i + 1) 0) (y:=F 0 (j + 1)) ⟨Zj,Zj⟩ ⟨Zj,Zj⟩;unfold Abs at q1 q4;refine APa Zw (Zk (Zk (Atg AAn rfl HQ rfl (Ac2 AAx) fun aQ rQ gQ haQ hgQ hrQ=>?_)));refine AA6 AA1 rfl haQ (Zk (Zk (Zk (Zk (AIk rfl Zj (AQ7 AAj rfl (hrR.ext E5) rfl (AJr Zj) fun Cw Bi=>AA6 AAt rfl Bi (AL5 rfl rfl Zj Zj (Zk (AQ7 (n:=0) AAj rfl (hrR.ext E5) rfl (AJr Zj) fun Cx Bj=>AA6 AAt rfl Bj (Zk (AS7 (n:=0) AAn rfl HS_23 rfl (AHu Zj) fun aZ rZ haZ hrZ=>AA6 AA1 rfl haZ (Zk (AIk rfl Zj (AQ7 AAj rfl hrZ rfl (AJr Zj) fun Cy Bl=>AA6 AAt rfl Bl (AL5 rfl rfl Zj Zj (AK4 rfl rfl Zj Zj (Zk (AP9 rfl rfl Zj ?_))))))))))))))))));have hnf:=AX0 (Ad0 (m:=m - 1) (by rw [show m - 1 + 1=m by omega];exact hstg) Zj (by rw [show m - 1 + 1=m by omega];exact hsh)) Zj Zj (i:=i) (j:=j) Zj Zj;unfold Abs at hnf;rw [show IntKind.i64.wrap ((F 0 0 * F (i + 1) (j + 1) - F (i + 1) 0 * F 0 (j + 1)).tdiv last)=AP7 F last i j from Go.QF.wrap_small (by have:(F 0 0 * F (i + 1) (j + 1) - F (i + 1) 0 * F 0 (j + 1)).tdiv last=AP7 F last i j:=rfl;omega) (by have:(F 0 0 * F (i + 1) (j + 1) - F (i + 1) 0 * F 0 (j + 1)).tdiv last=AP7 F last i j:=rfl;omega)];refine AQ4 AAj rfl hrQ rfl (by rw [List.length_map,AS9];omega) ?_;refine Anx (AXi (m - 1) (AP7 F last i) (fun _=>0) (j + 1)) AAt rfl rfl HQ hgQ (Ac2 AAx) hrQ (by rw [AS9];omega) (Aj6 Zj rfl) fun h6 Bm U6 C0=>?_;have C1:=U6.1;have C2:=Bb.thenUpd U6 (fun k hk=>by have Ah:k=gQ:=hk;omega);have Ap:=E5.thenUpd U6 (fun k hk=>by have Ah:k=gQ:=hk;omega);have HS_30:=HS.ext Ap;have Aq:=Bm;rw [Akb AAx] at Aq;refine AAh (q_b (q_t (Z1 (AIk rfl Zj (Zk (Zr ?_))))));exact ⟨m - 1 - (j + 1),j + 1,Zj,⟨rfl,Zj,Ap,Aq⟩,rfl,trivial⟩
     ·refine Zr (Zo (AAq rfl (AAe (AAf (AAf (ABk (q_b (q_t (Z1 (AIk rfl Zj (Zk (Zr ?_))))))))))));exact ⟨m - 1 - (i + 1),i + 1,Zj,⟨rfl,Zj,E5,gs ++ [g4],by rw [Aj5 _ _ Zj] at HQ;rw [<- Ae4];exact HQ⟩,rfl,trivial⟩
    ·refine Zr (Zo (AAq rfl (AAe (AAf (AAf (ABk (q_t (Zo ?_))))))));obtain rfl:i=m - 1:=by omega
     have Ar:AN0 h3 tR tI (Array.size hq) b2 gs v2 (tab (m - 1) (m - 1) (AP7 F last)).length (tab (m - 1) (m - 1) (AP7 F last)):=by rw [AA9];exact HP
     have HN:=Ar.mat;have hcapn:=Ar.cap;have Bn:=Ad0 (m:=m - 1) (by rw [show m - 1 + 1=m by omega];exact hstg) Zj (by rw [show m - 1 + 1=m by omega];exact hsh);have hnx:Stg (m - 1) (AP7 F last) (F 0 0) (262144 + 16384 * (M.length - ((m - 1:Nat):Int))):=by rw [show (262144 + 16384 * ((M.length:Int) - ((m - 1:Nat):Int)))=262144 + 16384 * ((M.length:Int) - (m:Int)) + 16384 by omega];exact Bn
     refine Z1 (Zk (AS7 (n:=1) AAn rfl HS_11 rfl (AHu Zj) fun C3 C4 Bo Bp=>AA6 AA1 rfl Bo (AQ7 (n:=0) AAj rfl Bp rfl (AJr Zj) fun C5 Bq=>AA6 AAt rfl Bq (Zv (Zo (Zo ?_))))));have hd:=hsh.1;have hnf:=AX0 hnx Zj Zj (i:=0) (j:=0) Zj Zj;have q5:=AT7 (a:=65535) (b:=34359738368) (x:=last) (y:=AP7 F last 0 0) ⟨Zj,Zj⟩ hnf;have q2:=hsh.2 1 Zj Zj;have q6:=AT7 (a:=32768) (b:=32768) (x:=F 1 0) (y:=F 1 0) ⟨Zj,Zj⟩ ⟨Zj,Zj⟩;have q7:=AUs (a:=3 * F 0 0) (b:=F 0 0) (A:=196605) (B:=65535) Zj Zj Zj Zj;unfold Abs at q5 q6;refine Z1 (Zk (Zk (AS7 (n:=0) AAn rfl HN rfl (AHu Zj) fun aN rN haN hrN=>AA6 AA1 rfl haN (AQ7 (n:=0) AAj rfl hrN rfl (AJr Zj) fun aO haO=>AA6 AAt rfl haO (AL5 rfl rfl Zj Zj (Zk (Zk (AL5 rfl rfl Zj Zj (AYa rfl rfl Zj Zj (AL5 rfl rfl Zj Zj (Zk (AL5 rfl rfl Zj Zj (Zk (AL5 rfl rfl Zj Zj (AD0 rfl rfl (fun Bu=>?_) (fun Bu=>?_))))))))))))))))
     ·refine Zr (AAl rfl (Zn (Zv (Zy (AAc (ABp (AAc (ABp (AAc (⟨_,Zz,?_⟩))))))))))
      first
        | exact ⟨X9,congrArg Value.bool (show false=isRed M by unfold isRed;rw [show AJ6 M=false by assumption];rfl)⟩
        | exact ⟨X9,congrArg Value.bool (show false=isRed M by unfold isRed;rw [hred,ANu Zj (of_decide_eq_false (by assumption)),Bool.and_false])⟩
        | exact ⟨X9,congrArg Value.bool (show false=isRed M by unfold isRed;rw [hred,ARj Zj (by unfold AUg;omega),Bool.and_false])⟩
        | (obtain rfl:m=1:=by omega
           first
           | exact ⟨X9,congrArg Value.bool (show true=isRed M by unfold isRed;rw [hred,<- AF5 hsm,AOk,decide_eq_true ⟨Zj,Zj⟩];rfl)⟩
           | exact ⟨X9,congrArg Value.bool (show false=isRed M by unfold isRed;rw [hred,AOk,decide_eq_false Zj,Bool.and_false])⟩)
     ·refine Zr (AAq rfl (Zx (q_t ?_)));have hlov:AUg F last:=by unfold AUg;omega
      have hredn:=Ai5 (last:=last) Zj hsh hlov;refine Z1 (Zk (Zk (AAi (AAi (AAh (q_b (q_t ?_)))))));exact ⟨m - 1,(m - 1,v2,F 0 0,AP7 F last),by first | omega | (dsimp only;omega),⟨rfl,X9,by first | omega | (dsimp only;omega),by first | omega | (dsimp only;omega),HN,hcapn,hnx,by rw [hred,hredn]⟩,rfl,rfl,trivial⟩
  ·refine Zr (AAq rfl (AAe (AAf (AAf (ABk (q_t (Zn (Zk (AS7 (n:=0) AAn rfl HS rfl (AHu Zj) fun C7 C8 Bv Bw=>AA6 AA1 rfl Bv (AQ7 (n:=0) AAj rfl Bw rfl (AJr Zj) fun C9 Bx=>AA6 AAt rfl Bx (APb rfl rfl (fun By=>?_) (fun By=>?_))))))))))))
   ·refine Zk (ABn 110 true Zw rfl rfl (Zk (ABn 110 true Zw rfl rfl (AS7 (n:=0) AAn rfl HS rfl (AHu Zj) fun Da Db Bz B1=>ABn 110 true Zw rfl rfl (AA6 AA1 rfl Bz (ABn 110 true Zw rfl rfl (AQ7 (n:=0) AAj rfl B1 rfl (AJr Zj) fun Dc B3=>ABn 110 true Zw rfl rfl (AA6 AAt rfl B3 (ABn 110 true Zw rfl rfl (AQ5 rfl rfl (fun B4=>?_) (fun B4=>?_)))))))))))
    ·refine AAd rfl (Zv (Zy (⟨_,Zz,?_⟩)))
     first
       | exact ⟨XQ,congrArg Value.bool (show false=isRed M by unfold isRed;rw [show AJ6 M=false by assumption];rfl)⟩
       | exact ⟨XQ,congrArg Value.bool (show false=isRed M by unfold isRed;rw [hred,ANu Zj (of_decide_eq_false (by assumption)),Bool.and_false])⟩
       | exact ⟨XQ,congrArg Value.bool (show false=isRed M by unfold isRed;rw [hred,ARj Zj (by unfold AUg;omega),Bool.and_false])⟩
       | (obtain rfl:m=1:=by omega
          first
          | exact ⟨XQ,congrArg Value.bool (show true=isRed M by unfold isRed;rw [hred,<- AF5 hsm,AOk,decide_eq_true ⟨Zj,Zj⟩];rfl)⟩
          | exact ⟨XQ,congrArg Value.bool (show false=isRed M by unfold isRed;rw [hred,AOk,decide_eq_false Zj,Bool.and_false])⟩)
    ·refine AAd rfl (Zv (Zy (⟨_,Zz,?_⟩)))
     first
       | exact ⟨XQ,congrArg Value.bool (show false=isRed M by unfold isRed;rw [show AJ6 M=false by assumption];rfl)⟩
       | exact ⟨XQ,congrArg Value.bool (show false=isRed M by unfold isRed;rw [hred,ANu Zj (of_decide_eq_false (by assumption)),Bool.and_false])⟩
       | exact ⟨XQ,congrArg Value.bool (show false=isRed M by unfold isRed;rw [hred,ARj Zj (by unfold AUg;omega),Bool.and_false])⟩
       | (obtain rfl:m=1:=by omega
          first
          | exact ⟨XQ,congrArg Value.bool (show true=isRed M by unfold isRed;rw [hred,<- AF5 hsm,AOk,decide_eq_true ⟨Zj,Zj⟩];rfl)⟩
          | exact ⟨XQ,congrArg Value.bool (show false=isRed M by unfold isRed;rw [hred,AOk,decide_eq_false Zj,Bool.and_false])⟩)
   ·refine Zk (ABb 110 false Zw rfl rfl (ABb 110 false Zw rfl rfl (ABb 110 false Zw rfl rfl (ABb 110 false Zw rfl rfl (ABb 110 false Zw rfl rfl (ABb 110 false Zw rfl rfl (AAo rfl (Zv (Zy (⟨_,Zz,?_⟩))))))))))
    first
      | exact ⟨XQ,congrArg Value.bool (show false=isRed M by unfold isRed;rw [show AJ6 M=false by assumption];rfl)⟩
      | exact ⟨XQ,congrArg Value.bool (show false=isRed M by unfold isRed;rw [hred,ANu Zj (of_decide_eq_false (by assumption)),Bool.and_false])⟩
      | exact ⟨XQ,congrArg Value.bool (show false=isRed M by unfold isRed;rw [hred,ARj Zj (by unfold AUg;omega),Bool.and_false])⟩
      | (obtain rfl:m=1:=by omega
         first
         | exact ⟨XQ,congrArg Value.bool (show true=isRed M by unfold isRed;rw [hred,<- AF5 hsm,AOk,decide_eq_true ⟨Zj,Zj⟩];rfl)⟩
         | exact ⟨XQ,congrArg Value.bool (show false=isRed M by unfold isRed;rw [hred,AOk,decide_eq_false Zj,Bool.and_false])⟩)
end Go.Proofs.YtdkldlbgcfpglaaGreatDoor
namespace Go.QF
theorem AE8 {α:Type} (f g:α->Int) (l:List α):ABc (l.map fun x=>f x * g x)=ABc (l.map f) * ABc (l.map g):=by
 induction l with
 | nil=>simp [ABc]
 | cons x l ih=>simp only [List.map_cons,ABc,ih];simp only [Int.mul_assoc,Int.mul_left_comm]
theorem AXm (a:Int) (l:List Int):ABc (l.map fun x=>a * x)=a ^ l.length * ABc l:=by
 induction l with
 | nil=>simp [ABc]
 | cons x l ih=>simp only [List.map_cons,ABc,ih,List.length_cons,Int.pow_succ];simp only [Int.mul_assoc,Int.mul_left_comm,Int.mul_comm]
theorem ADj {α:Type} {f g:α->Int} {l:List α} (h:∀ x∈l,f x=g x):ABc (l.map f)=ABc (l.map g):=by rw [List.map_congr_left h]
theorem AY9 {α β:Type} (f:α->β->Int) (l:List α) (t:List β):ABc (l.map fun x=>ABc (t.map fun y=>f x y))=ABc (t.map fun y=>ABc (l.map fun x=>f x y)):=by
 induction l with
 | nil=>
   simp only [List.map_nil,ABc]
   induction t with
   | nil=>rfl
   | cons y t ih=>simp only [List.map_cons,ABc,<- ih];rfl
 | cons x l ih=>simp only [List.map_cons,ABc,ih];rw [<- AE8]
theorem Ad1 {p:Int} {α:Type} {f g:α->Int} {l:List α} (h:∀ x∈l,f x % p=g x % p):ABc (l.map f) % p=ABc (l.map g) % p:=by
 induction l with
 | nil=>rfl
 | cons x l ih=>
   simp only [List.map_cons,ABc]
   rw [Int.mul_emod,h x (List.mem_cons_self ..),ih fun y hy=>h y (List.mem_cons_of_mem _ hy),<- Int.mul_emod]
theorem AZa {α:Type} {f:α->Int} {l:List α} (h:∀ x∈l,f x=1∨f x= -1):ABc (l.map f)=1∨ABc (l.map f)= -1:=by
 induction l with
 | nil=>exact .inl rfl
 | cons x l ih=>
   simp only [List.map_cons,ABc]
   rcases h x (List.mem_cons_self ..) with h1 | h1 <;> rcases ih (fun y hy=>h y (List.mem_cons_of_mem _ hy)) with h2 | h2 <;> rw [h1,h2] <;> simp
theorem Ao8 (n:Nat):(upN n).length=n:=by simp [upN]
theorem AZb (n:Nat):upN (n + 1)=upN n ++ [(n:Int) + 1]:=by simp [upN,List.range_succ]
theorem AOx (l t:List Int):ABc (l ++ t)=ABc l * ABc t:=by
 induction l with
 | nil=>simp [ABc]
 | cons x l ih=>simp only [List.cons_append,ABc,ih,Int.mul_assoc]
def chi (n:Int):Int:=if n % 2=0 then 1 else -1
theorem Amb (n:Int):chi n=1∨chi n= -1:=by unfold chi;split <;> simp
theorem AT8 (a b:Int):chi (a + b)=chi a * chi b:=by
 unfold chi;by_cases ha:a % 2=0 <;> by_cases hb:b % 2=0
 ·rw [if_pos ha,if_pos hb,if_pos Zj];rfl
 ·rw [if_pos ha,if_neg hb,if_neg Zj];rfl
 ·rw [if_neg ha,if_pos hb,if_neg Zj];rfl
 ·rw [if_neg ha,if_neg hb,if_pos Zj];rfl
theorem AWx {a b:Int} (h:(a - b) % 2=0):chi a=chi b:=by
 unfold chi;by_cases ha:a % 2=0
 ·rw [if_pos ha,if_pos Zj]
 ·rw [if_neg ha,if_neg Zj]
theorem count_le (M N:Nat) (h:N<=M):ABc ((upN M).map fun l=>if l<=(N:Int) then -1 else 1)=chi N:=by
  induction M with
  | zero=>
    obtain rfl:N=0:=by omega
    rfl
  | succ M ih=>
    rw [AZb,List.map_append,AOx];simp only [List.map_cons,List.map_nil,ABc,Int.mul_one]
    rcases Nat.lt_or_ge M N with hlt | hge
    · obtain rfl:N=M + 1:=by omega
      rw [if_pos Zj]
      have h2:ABc ((upN M).map fun l=>if l<=((M + 1:Nat):Int) then -1 else 1)=ABc ((upN M).map fun l=>if l<=(M:Int) then -1 else 1):=ADj fun x hx=>by
        have:=AKr.1 hx;rw [if_pos Zj,if_pos Zj]
      rw [h2]
      have key:∀ K:Nat,ABc ((upN K).map fun l=>if l<=(K:Int) then -1 else 1)=chi K:=by
        intro K;induction K with
        | zero=>rfl
        | succ K ihK=>
          rw [AZb,List.map_append,AOx];simp only [List.map_cons,List.map_nil,ABc,Int.mul_one]
          have h3:ABc ((upN K).map fun l=>if l<=((K + 1:Nat):Int) then -1 else 1)=ABc ((upN K).map fun l=>if l<=(K:Int) then -1 else 1):=ADj fun x hx=>by
            have:=AKr.1 hx;rw [if_pos Zj,if_pos Zj]
          rw [h3,ihK,if_pos Zj];have:=AT8 (K:Int) 1;rw [show ((K + 1:Nat):Int)=(K:Int) + 1 by omega,this];rfl
      rw [key];have:=AT8 (M:Int) 1;rw [show ((M + 1:Nat):Int)=(M:Int) + 1 by omega,this];rfl
    · rw [ih hge,if_neg Zj,Int.mul_one]
section
variable {p:Int} {m:Nat}
def gs (p:Int) (m:Nat) (a k:Int):Int:=if a * k % p<=m then 1 else -1
def gv (p:Int) (m:Nat) (a k:Int):Int:=if a * k % p<=m then a * k % p else p - a * k % p
def GS (p:Int) (m:Nat) (a:Int):Int:=ABc ((upN m).map (gs p m a))
theorem AXc (p:Int) (m:Nat) (a:Int):GS p m a=1∨GS p m a= -1:=AZa fun x _=>by unfold gs;split <;> simp
theorem AO7 (hp:Pr p) {a k:Int} (ha:a % p≠0) (hk:0 < k) (hkp:k < p):a * k % p≠0:=by
 have h2:=hp.1;have h1:0 < a % p:=by have:=Int.emod_nonneg a (show p≠0 by omega);omega
 have h3:=Int.emod_lt_of_pos a (show 0 < p by omega);have:=Akc hp h1 h3 hk hkp;rwa [Int.mul_emod,Int.emod_emod,<- Int.mul_emod] at this
theorem ASh (hp:Pr p) {a k:Int} (ha:a % p≠0) (hk:0 < k) (hkp:k < p):1<=a * k % p/\a * k % p < p:=by
 have h2:=hp.1;have h1:=AO7 hp ha hk hkp;have h3:=Int.emod_nonneg (a * k) (show p≠0 by omega);have h4:=Int.emod_lt_of_pos (a * k) (show 0 < p by omega);omega
theorem Ag9 (hp:Pr p) (hm:p=2 * m + 1) {a:Int} (ha:a % p≠0):((upN m).map (gv p m a)).Perm (upN m):=by
 have hinj:∀ k∈upN m,∀ j∈upN m,gv p m a k=gv p m a j->k=j:=by
   intro k hk j hj he
   have hk:=AKr.1 hk
   have hj:=AKr.1 hj
   have r1:=ASh hp ha (k:=k) Zj Zj
   have r2:=ASh hp ha (k:=j) Zj Zj
   by_cases hkj:k=j
   · exact hkj
   · exfalso
     unfold gv at he
     have e1:a * k % p=a * j % p->False:=by
       intro h
       have h3:a * (k - j) % p=0:=by rw [Int.mul_sub,Int.sub_emod,h,Int.sub_self];rfl
       rcases Int.lt_trichotomy k j with hlt | heq | hgt
       · refine AO7 hp ha (k:=j - k) Zj Zj ?_
         rw [show a * (j - k)= -(a * (k - j)) by rw [<- Int.mul_neg];congr 1;omega]
         exact Int.emod_eq_zero_of_dvd (Int.dvd_neg.2 (Int.dvd_of_emod_eq_zero h3))
       · exact hkj heq
       · exact AO7 hp ha (k:=k - j) Zj Zj h3
     have e2:a * k % p + a * j % p=p->False:=by
       intro h
       refine AO7 hp ha (k:=k + j) Zj Zj ?_
       rw [Int.mul_add,Int.add_emod,h,Int.emod_self]
     split at he <;> split at he
     · exact e1 he
     · exact e2 Zj
     · exact e2 Zj
     · exact e1 Zj
 refine Ac3 _ _ ?_ (fun x hx=>?_) AAx
 ·rw [List.nodup_iff_pairwise_ne,List.pairwise_map];have hnd:=Aif m;rw [List.nodup_iff_pairwise_ne] at hnd;refine List.Pairwise.imp_of_mem (fun {x y} hx hy hxy he=>hxy (hinj x hx y hy he)) hnd
 ·obtain ⟨k,hk,rfl⟩:=List.mem_map.1 hx;have hk:=AKr.1 hk;have r1:=ASh hp ha (k:=k) Zj Zj;rw [AKr];unfold gv;split <;> omega
theorem Aha (hp:Pr p) (hm:p=2 * m + 1) {a:Int} (ha:a % p≠0):a ^ m % p=GS p m a % p:=by
 have h2:=hp.1;refine Anr hp (upN m) (fun x hx=>by have:=AKr.1 hx;omega) ?_;have h1:=AXm a (upN m);rw [Ao8] at h1;rw [<- h1]
 have h3:ABc ((upN m).map fun k=>a * k) % p=ABc ((upN m).map fun k=>gs p m a k * gv p m a k) % p:=by
   refine Ad1 fun k hk=>?_
   unfold gs gv
   split
   · rw [Int.one_mul,Int.emod_emod]
   · rw [show (-1:Int) * (p - a * k % p)=a * k % p - p by omega,Int.sub_emod,Int.emod_emod,Int.emod_self,Int.sub_zero,Int.emod_emod]
 rw [h3,AE8,AYh (Ag9 hp hm ha)];rfl
theorem Aql (hp:Pr p) (hm:p=2 * m + 1) {a:Int} (ha:a % p≠0) (hodd:a % 2=1):GS p m a=ABc ((upN m).map fun k=>chi (a * k / p)):=by
 have h2:=hp.1
 have hpt:∀ k∈upN m,chi k=chi (a * k / p) * chi (gv p m a k) * gs p m a k:=by
   intro k hk
   have hk:=AKr.1 hk
   have r1:=ASh hp ha (k:=k) Zj Zj
   have hd:=Int.mul_ediv_add_emod (a * k) p
   have par:chi (a * k)=chi k:=by
     refine AWx ?_
     obtain ⟨b,hb⟩:∃ b,a=2 * b + 1:=⟨a / 2,Zj⟩
     rw [hb,Int.add_mul,Int.one_mul,Int.mul_assoc]
     omega
   have parp:chi (p * (a * k / p))=chi (a * k / p):=by
     refine AWx ?_
     rw [hm,Int.add_mul,Int.one_mul,Int.mul_assoc]
     omega
   rw [<- par,<- hd,AT8,parp,Int.mul_assoc]
   congr 1
   · rw [hd]
   · unfold gv gs
     split
     · rw [Int.mul_one]
     · have:chi (a * k % p)=chi (p - a * k % p) * chi 1:=by
         rw [<- AT8]
         exact AWx Zj
       rw [this];rfl
 have h3:ABc ((upN m).map chi)=ABc ((upN m).map fun k=>chi (a * k / p)) * ABc ((upN m).map fun k=>chi (gv p m a k)) * GS p m a:=by
   rw [ADj hpt,AE8 (fun k=>chi (a * k / p) * chi (gv p m a k)) (gs p m a),AE8]
   rfl
 have h4:ABc ((upN m).map fun k=>chi (gv p m a k))=ABc ((upN m).map chi):=by
   have:=AYh ((Ag9 hp hm ha).map chi)
   rw [List.map_map] at this
   exact this
 rw [h4] at h3;have q1:=AZa (f:=chi) (l:=upN m) fun x _=>Amb x;have q2:=AZa (f:=fun k=>chi (a * k / p)) (l:=upN m) fun x _=>Amb _;have q3:=AXc p m a;generalize ABc ((upN m).map chi)=A at h3 q1;generalize ABc ((upN m).map fun k=>chi (a * k / p))=B at h3 q2 ⊢;generalize GS p m a=Cc at h3 q3 ⊢;rcases q1 with rfl | rfl <;> rcases q2 with rfl | rfl <;> rcases q3 with rfl | rfl <;> first | rfl | (exfalso;revert h3;decide)
end
theorem AZc {p q:Int} {n:Nat} (hp:0 < p) (hq:q=2 * n + 1) {k:Int} (hk:0<=k) (Ad:2 * k < p):chi (q * k / p)=ABc ((upN n).map fun l=>if p * l<=q * k then -1 else 1):=by
 have h0:0<=q * k:=Int.mul_nonneg Zj hk;have h1:0<=q * k / p:=Int.ediv_nonneg h0 Zj;obtain ⟨N,hN⟩:∃ N:Nat,q * k / p=N:=⟨(q * k / p).toNat,Zj⟩
 have hle:N<=n:=by
   rcases Nat.lt_or_ge n N with h | h
   · exfalso
     have h2:q * k / p * p<=q * k:=Int.ediv_mul_le _ Zj
     rw [hN] at h2
     have h3:((n:Int) + 1) * p<=N * p:=Int.mul_le_mul_of_nonneg_right Zj Zj
     have h4:q * (2 * k)<=q * (p - 1):=Int.mul_le_mul_of_nonneg_left Zj Zj
     rw [Int.mul_sub,Int.mul_one,Int.mul_left_comm] at h4
     have h5:(2 * (n:Int) + 2) * p=q * p + p:=by rw [hq,Int.add_mul,Int.add_mul];omega
     have h6:(2 * (n:Int) + 2) * p=2 * (((n:Int) + 1) * p):=by rw [<- Int.mul_assoc];congr 1
     omega
   · exact h
 rw [hN,<- count_le n N hle];refine ADj fun l hl=>?_
 have hiff:l<=(N:Int)↔p * l<=q * k:=by
   rw [<- hN,Int.le_ediv_iff_mul_le hp,Int.mul_comm]
 by_cases h:l<=(N:Int)
 ·rw [if_pos h,if_pos (hiff.1 h)]
 ·rw [if_neg h,if_neg (fun h'=>h (hiff.2 h'))]
theorem Aap (n:Nat):ABc ((upN n).map fun _=>(-1:Int))=chi n:=by
 rw [<- count_le n n (Nat.le_refl _)];exact ADj fun x hx=>by rw [if_pos (AKr.1 hx).2]
theorem Ai6 (n:Nat) (b:Int):ABc ((upN n).map fun _=>chi b)=chi (n * b):=by
 induction n with
 | zero=>simp [upN,ABc,chi]
 | succ n ih=>
   rw [AZb,List.map_append,AOx,ih]
   simp only [List.map_cons,List.map_nil,ABc,Int.mul_one]
   rw [<- AT8]
   congr 1
   rw [show ((n + 1:Nat):Int)=(n:Int) + 1 by omega,Int.add_mul,Int.one_mul]
theorem Att {p q:Int} {m n:Nat} (hp:Pr p) (hq:Pr q) (hm:p=2 * m + 1) (hn:q=2 * n + 1) (hne:p≠q):GS p m q * GS q n p=chi (m * n):=by
 have Aa:=hp.1;have Ab:=hq.1
 have hqp:q % p≠0:=by
   intro h
   rcases Int.lt_trichotomy p q with hlt | heq | hgt
   · exact hq.2 p Aa hlt h
   · exact hne heq
   · rw [Int.emod_eq_of_lt Zj hgt] at h;omega
 have hpq:p % q≠0:=by
   intro h
   rcases Int.lt_trichotomy p q with hlt | heq | hgt
   · rw [Int.emod_eq_of_lt Zj hlt] at h;omega
   · exact hne heq
   · exact hp.2 q Ab hgt h
 rw [Aql hp hm hqp Zj,Aql hq hn hpq Zj]
 have e1:ABc ((upN m).map fun k=>chi (q * k / p))=ABc ((upN m).map fun k=>ABc ((upN n).map fun l=>if p * l<=q * k then -1 else 1)):=
   ADj fun k hk=>by have:=AKr.1 hk;exact AZc Zj hn Zj Zj
 have e2:ABc ((upN n).map fun l=>chi (p * l / q))=ABc ((upN n).map fun l=>ABc ((upN m).map fun k=>if q * k<=p * l then -1 else 1)):=
   ADj fun l hl=>by have:=AKr.1 hl;exact AZc Zj hm Zj Zj
 rw [e1,e2,AY9 (fun l k=>if q * k<=p * l then (-1:Int) else 1),<- AE8]
 have e3:ABc ((upN m).map fun k=>ABc ((upN n).map fun l=>if p * l<=q * k then (-1:Int) else 1) * ABc ((upN n).map fun l=>if q * k<=p * l then (-1:Int) else 1))=ABc ((upN m).map fun _=>chi n):=by
   refine ADj fun k hk=>?_
   rw [<- AE8,<- Aap n]
   refine ADj fun l hl=>?_
   have hk:=AKr.1 hk
   have hl:=AKr.1 hl
   have hno:p * l≠q * k:=by
     intro he
     refine AO7 hp hqp (k:=k) Zj Zj ?_
     rw [<- he];exact Int.mul_emod_right p l
   by_cases h:p * l<=q * k
   · rw [if_pos h,if_neg Zj];rfl
   · rw [if_neg h,if_pos Zj];rfl
 rw [e3,Ai6]
theorem Ai7 {p:Int} {m:Nat} (hp:Pr p) (hm:p=2 * m + 1) (hm1:1<=m):GS p m 2=if p % 8=1∨p % 8=7 then 1 else -1:=by
  have h1:GS p m 2=ABc ((upN m).map fun k=>(-1) * (if k<=((m / 2:Nat):Int) then -1 else 1)):=by
    refine ADj fun k hk=>?_;have hk:=AKr.1 hk;unfold gs;rw [Int.emod_eq_of_lt Zj Zj]
    by_cases h:2 * k<=(m:Int)
    · rw [if_pos h,if_pos Zj];rfl
    · rw [if_neg h,if_neg Zj];rfl
  rw [h1,AE8 (fun _=> -1) (fun k=>if k<=((m / 2:Nat):Int) then -1 else 1),Aap,count_le m (m / 2) Zj,<- AT8];unfold chi;obtain ⟨j,r,hj,hr⟩:∃ j r:Nat,m=4 * j + r/\r < 4:=⟨m / 4,m % 4,Zj,Zj⟩;have hd:m / 2=2 * j + r / 2:=by omega
  rw [hd]
  by_cases h:p % 8=1∨p % 8=7
  · have:r=0∨r=3:=by omega
    rcases this with rfl | rfl
    · rw [if_pos h,if_pos Zj]
    · rw [if_pos h,if_pos Zj]
  · have:r=1∨r=2:=by omega
    rcases this with rfl | rfl
    · rw [if_neg h,if_neg Zj]
    · rw [if_neg h,if_neg Zj]
end Go.QF
namespace Go.QF
def lg (p a:Int):Int:=if a ^ ((p - 1) / 2).toNat % p=0 then 0 else if a ^ ((p - 1) / 2).toNat % p=1 then 1 else -1
def OPr (p:Int):Prop:=Pr p/\p % 2=1
theorem OPr.half {p:Int} (h:OPr p):p=2 * (((p - 1) / 2).toNat:Int) + 1/\1<=((p - 1) / 2).toNat:=by
 have h1:=h.1.1;have h2:=h.2;omega
theorem OPr.three {p:Int} (h:OPr p):3<=p:=by have h1:=h.1.1;have h2:=h.2;omega
theorem AVp {p a:Int} (hp:OPr p) (ha:a % p≠0):lg p a=GS p ((p - 1) / 2).toNat a:=by
 obtain ⟨h1,h2⟩:=hp.half;have h3:=hp.three;have hg:=Aha hp.1 h1 ha;unfold lg;rw [hg];rcases AXc p ((p - 1) / 2).toNat a with h | h
 ·rw [h,Int.emod_eq_of_lt Zj Zj];rfl
 ·rw [h]
  have:(-1:Int) % p=p - 1:=by
    rw [show (-1:Int)=(p - 1) + p * (-1) by omega,Int.add_mul_emod_self_left,Int.emod_eq_of_lt Zj Zj]
  rw [this,if_neg Zj,if_neg Zj]
theorem Abz {p a:Int} (ha:a % p=0):∀ m:Nat,1<=m->a ^ m % p=0:=by
 intro m hm;obtain ⟨k,rfl⟩:∃ k,m=k + 1:=⟨m - 1,Zj⟩;rw [Int.pow_succ,Int.mul_emod,ha,Int.mul_zero,Int.zero_emod]
theorem AQj {p a:Int} (hp:OPr p) (ha:a % p=0):lg p a=0:=by
 unfold lg;rw [if_pos (Abz ha _ hp.half.2)]
theorem Atu {p a:Int} (hp:OPr p) (ha:a % p≠0):lg p a=1∨lg p a= -1:=by rw [AVp hp ha];exact AXc _ _ _
theorem AVq {p a b:Int} (hp:OPr p) (h:a % p=b % p):lg p a=lg p b:=by
 by_cases ha:a % p=0
 ·rw [AQj hp ha,AQj hp (h ▸ ha)]
 ·rw [AVp hp ha,AVp hp (h ▸ ha)];refine ADj fun k _=>?_;unfold gs;rw [Int.mul_emod a,h,<- Int.mul_emod]
theorem Aru {p a:Int} (hp:OPr p):lg p (a % p)=lg p a:=AVq hp (Int.emod_emod _ _)
theorem Atv {p a b:Int} (hp:OPr p) (ha:a % p≠0) (hb:b % p≠0):a * b % p≠0:=by
 have h3:=hp.three;have h1:=Int.emod_nonneg b (show p≠0 by omega);have h2:=Int.emod_lt_of_pos b (show 0 < p by omega);have:=AO7 hp.1 ha (k:=b % p) Zj h2;rwa [Int.mul_emod,Int.emod_emod,<- Int.mul_emod] at this
theorem Afv {p:Int} (hp:OPr p) (a b:Int):lg p (a * b)=lg p a * lg p b:=by
 by_cases ha:a % p=0
 ·rw [AQj hp ha,AQj hp (by rw [Int.mul_emod,ha,Int.zero_mul,Int.zero_emod]),Int.zero_mul]
 ·by_cases hb:b % p=0
  ·rw [AQj hp hb,AQj hp (by rw [Int.mul_emod,hb,Int.mul_zero,Int.zero_emod]),Int.mul_zero]
  ·obtain ⟨h1,h2⟩:=hp.half;have h3:=hp.three;have hab:=Atv hp ha hb;rw [AVp hp ha,AVp hp hb,AVp hp hab];have g1:=Aha hp.1 h1 ha;have g2:=Aha hp.1 h1 hb;have g3:=Aha hp.1 h1 hab;rw [Int.mul_pow,Int.mul_emod,g1,g2,<- Int.mul_emod] at g3
   have Ah:(-1:Int) % p=p - 1:=by
     rw [show (-1:Int)=(p - 1) + p * (-1) by omega,Int.add_mul_emod_self_left,Int.emod_eq_of_lt Zj Zj]
   have Ai:(1:Int) % p=1:=Int.emod_eq_of_lt Zj Zj;rcases AXc p ((p - 1) / 2).toNat a with e1 | e1 <;> rcases AXc p ((p - 1) / 2).toNat b with e2 | e2 <;> rcases AXc p ((p - 1) / 2).toNat (a * b) with e3 | e3 <;> rw [e1,e2,e3] at g3 ⊢ <;> first | rfl | (exfalso;simp only [Int.mul_one,Int.one_mul,Int.mul_neg,Int.neg_mul,Int.neg_neg,Ah,Ai] at g3;omega)
def e4 (x y:Int):Int:=if x % 4=3/\y % 4=3 then -1 else 1
def e8 (x:Int):Int:=if x % 8=1∨x % 8=7 then 1 else -1
theorem Arv {p:Int} (hp:OPr p):lg p 2=e8 p:=by
 obtain ⟨h1,h2⟩:=hp.half;have h3:=hp.three;rw [AVp hp (by rw [Int.emod_eq_of_lt Zj Zj];omega),Ai7 hp.1 h1 h2];rfl
theorem Amc {p q:Int} (hp:OPr p) (hq:OPr q):lg p q=e4 p q * lg q p:=by
 by_cases hpq:p=q
 ·subst hpq;rw [AQj hp (Int.emod_self),Int.mul_zero]
 ·obtain ⟨h1,_⟩:=hp.half;obtain ⟨h2,_⟩:=hq.half
  have Ae:q % p≠0:=by
    intro h
    rcases Int.lt_trichotomy p q with hlt | heq | hgt
    · exact hq.1.2 p hp.1.1 hlt h
    · exact hpq heq
    · rw [Int.emod_eq_of_lt (by have:=hq.three;omega) hgt] at h;have:=hq.three;omega
  have Af:p % q≠0:=by
    intro h
    rcases Int.lt_trichotomy p q with hlt | heq | hgt
    · rw [Int.emod_eq_of_lt (by have:=hp.three;omega) hlt] at h;have:=hp.three;omega
    · exact hpq heq
    · exact hp.1.2 q hq.1.1 hgt h
  have hr:=Att hp.1 hq.1 h1 h2 hpq;rw [AVp hp Ae,AVp hq Af]
  have hc:chi ((((p - 1) / 2).toNat:Int) * (((q - 1) / 2).toNat:Int))=e4 p q:=by
    generalize hm:(((p - 1) / 2).toNat:Int)=m at h1 ⊢
    generalize hn:(((q - 1) / 2).toNat:Int)=n at h2 ⊢
    unfold chi e4
    rw [Int.mul_emod]
    rcases (by omega:m % 2=0∨m % 2=1) with a | a <;> rcases (by omega:n % 2=0∨n % 2=1) with b | b <;> rw [a,b]
    · rw [if_pos Zl,if_neg Zj]
    · rw [if_pos Zl,if_neg Zj]
    · rw [if_pos Zl,if_neg Zj]
    · rw [if_neg Zl,if_pos Zj]
  rw [hc] at hr;rcases AXc p ((p - 1) / 2).toNat q with e1 | e1 <;> rcases AXc q ((q - 1) / 2).toNat p with e2 | e2 <;> rw [e1,e2] at hr ⊢ <;> rw [<- hr] <;> rfl
def Jb (ps:List Int) (a:Int):Int:=ABc (ps.map fun p=>lg p a)
def AZx (ps:List Int):Prop:= ∀ p∈ps,OPr p
theorem Arw {ps:List Int} (h:AZx ps) (a b:Int):Jb ps (a * b)=Jb ps a * Jb ps b:=by
 unfold Jb;rw [<- AE8];exact ADj fun p hp=>Afv (h p hp) a b
theorem ATn {ps:List Int} (h:AZx ps):ABc ps % 2=1/\1<=ABc ps:=by
 induction ps with
 | nil=>exact ⟨rfl,Int.le_refl _⟩
 | cons p ps ih=>
   obtain ⟨h1,h2⟩:=ih fun q hq=>h q (List.mem_cons_of_mem _ hq)
   have hp:=h p (List.mem_cons_self ..)
   have h3:=hp.three
   have h4:=hp.2
   simp only [ABc]
   refine ⟨by rw [Int.mul_emod,h1,h4];rfl,?_⟩
   have:=Int.mul_le_mul (show (1:Int)<=p by omega) h2 Zj Zj
   simpa using this
theorem Ao9 {ps:List Int} (h:AZx ps) (hne:ps≠[]):3<=ABc ps:=by
 cases ps with
 | nil=>exact absurd rfl hne
 | cons p ps=>
   have h2:=(ATn (ps:=ps) fun q hq=>h q (List.mem_cons_of_mem _ hq)).2
   have h3:=(h p (List.mem_cons_self ..)).three
   have:=Int.mul_le_mul h3 h2 Zj Zj
   simp only [ABc]
   simpa using this
theorem Amd {ps:List Int} {p:Int} (h:p∈ps):p ∣ ABc ps:=by
 induction ps with
 | nil=>cases h
 | cons q ps ih=>
   simp only [ABc]
   rcases List.mem_cons.1 h with rfl | h
   · exact Int.dvd_mul_right _ _
   · exact Int.dvd_mul_of_dvd_right (ih h)
theorem Arx {ps:List Int} (h:AZx ps) (a:Int):Jb ps (a % ABc ps)=Jb ps a:=
  ADj fun p hp=>AVq (h p hp) (Int.emod_emod_of_dvd a (Amd hp))
theorem Ary {x y:Int} (hx:x % 2=1) (hy:y % 2=1):e8 (x * y)=e8 x * e8 y:=by
 unfold e8;rw [Int.mul_emod];rcases (by omega:x % 8=1∨x % 8=3∨x % 8=5∨x % 8=7) with a | a | a | a <;> rcases (by omega:y % 8=1∨y % 8=3∨y % 8=5∨y % 8=7) with b | b | b | b <;> rw [a,b] <;> rfl
theorem Arz {x y z:Int} (hy:y % 2=1) (hz:z % 2=1):e4 x (y * z)=e4 x y * e4 x z:=by
 unfold e4;rw [Int.mul_emod];rcases (by omega:x % 4=0∨x % 4=1∨x % 4=2∨x % 4=3) with a | a | a | a <;> rcases (by omega:y % 4=1∨y % 4=3) with b | b <;> rcases (by omega:z % 4=1∨z % 4=3) with c | c <;> rw [a,b,c] <;> rfl
theorem Apa (x y:Int):e4 x y=e4 y x:=by unfold e4;simp only [And.comm]
theorem Ar0 {ps:List Int} (h:AZx ps):Jb ps 2=e8 (ABc ps):=by
 induction ps with
 | nil=>rfl
 | cons p ps ih=>
   have hp:=h p (List.mem_cons_self ..)
   have ho:=ATn (ps:=ps) fun q hq=>h q (List.mem_cons_of_mem _ hq)
   have ih:=ih fun q hq=>h q (List.mem_cons_of_mem _ hq)
   unfold Jb at ih ⊢
   simp only [List.map_cons,ABc]
   rw [ih,Arv hp,Ary hp.2 ho.1]
theorem Ahb {p:Int} (hp:OPr p) (qs:List Int):lg p (ABc qs)=ABc (qs.map fun q=>lg p q):=by
 induction qs with
 | nil=>
   show lg p 1=1
   unfold lg
   have h3:=hp.three
   rw [Int.one_pow,Int.emod_eq_of_lt Zj Zj];rfl
 | cons q qs ih=>simp only [List.map_cons,ABc];rw [Afv hp,ih]
theorem Ahc {x:Int} {qs:List Int} (h:AZx qs):ABc (qs.map fun q=>e4 x q)=e4 x (ABc qs):=by
 induction qs with
 | nil=>simp [ABc,e4]
 | cons q qs ih=>
   have ho:=ATn (ps:=qs) fun r hr=>h r (List.mem_cons_of_mem _ hr)
   simp only [List.map_cons,ABc]
   rw [ih fun r hr=>h r (List.mem_cons_of_mem _ hr),Arz (h q (List.mem_cons_self ..)).2 ho.1]
theorem Ame {ps qs:List Int} (hp:AZx ps) (hq:AZx qs):Jb ps (ABc qs)=e4 (ABc qs) (ABc ps) * Jb qs (ABc ps):=by
 unfold Jb
 have e1:ABc (ps.map fun p=>lg p (ABc qs))=ABc (ps.map fun p=>e4 (ABc qs) p * ABc (qs.map fun q=>lg q p)):=by
   refine ADj fun p hpm=>?_
   rw [Ahb (hp p hpm),Apa,<- Ahc hq,<- AE8]
   exact ADj fun q hqm=>Amc (hp p hpm) (hq q hqm)
 rw [e1,AE8,Ahc hp,AY9 (fun p q=>lg q p)];congr 1;exact ADj fun q hqm=>(Ahb (hq q hqm) ps).symm
theorem Apb:∀ (n:Nat) (a:Int),a.toNat<=n->1<=a->a % 2=1-> ∃ qs,AZx qs/\ABc qs=a:=by
 intro n
 induction n with
 | zero=>intro a h1 h2;omega
 | succ n ih=>
   intro a h1 h2 h3
   by_cases Ah:a=1
   · exact ⟨[],(fun q hq=>by cases hq),by rw [Ah];rfl⟩
   · by_cases hpr:Pr a
     · exact ⟨[a],(fun q hq=>by rw [List.mem_singleton.1 hq];exact ⟨hpr,h3⟩),by simp [ABc]⟩
     · have hex:∃ d,2<=d/\d < a/\a % d=0:=by
         by_cases hh:∃ d,2<=d/\d < a/\a % d=0
         · exact hh
         · exact absurd ⟨Zj,fun d Aa Ad Ab=>hh ⟨d,Aa,Ad,Ab⟩⟩ hpr
       obtain ⟨d,Aa,Ad,Ab⟩:=hex
       have hda:d * (a / d)=a:=by have:=Int.mul_ediv_add_emod a d;omega
       have Aq:0 < a / d:=Int.ediv_pos_of_pos_of_dvd Zj Zj (Int.dvd_of_emod_eq_zero Ab)
       have hqlt:a / d < a:=by
         have:2 * (a / d)<=d * (a / d):=Int.mul_le_mul_of_nonneg_right Aa Zj
         omega
       have hpar:d % 2=1/\(a / d) % 2=1:=by
         have h4:(d % 2) * ((a / d) % 2) % 2=1:=by rw [<- Int.mul_emod,hda];exact h3
         rcases (by omega:d % 2=0∨d % 2=1) with e | e <;> rcases (by omega:(a / d) % 2=0∨(a / d) % 2=1) with f | f <;> rw [e,f] at h4 <;> first | exact ⟨e,f⟩ | (exfalso;revert h4;decide)
       obtain ⟨q1,Aj,e1⟩:=ih d Zj Zj hpar.1
       obtain ⟨q2,Ao,e2⟩:=ih (a / d) Zj Zj hpar.2
       refine ⟨q1 ++ q2,fun q hq=>?_,by rw [AOx,e1,e2,hda]⟩
       rcases List.mem_append.1 hq with h | h
       · exact Aj q h
       · exact Ao q h
def AZd (T s a n:Int):Prop:= ∃ ps,AZx ps/\ABc ps=n/\T=s * Jb ps a
theorem Afw {p a:Int} (hp:OPr p):AZd (lg p a) 1 a p:=⟨[p],(fun q hq=>by rw [List.mem_singleton.1 hq];exact hp),by simp [ABc],by simp [Jb,ABc]⟩
theorem Ai8 {T s a n:Int} (h:AZd T s a n) (he:a % 2=0):AZd T (if n % 8=3∨n % 8=5 then -s else s) (a / 2) n:=by
 obtain ⟨ps,h1,h2,h3⟩:=h;refine ⟨ps,h1,h2,?_⟩;have ho:=ATn h1;have ha:a=2 * (a / 2):=by omega
 rw [ha,Arw h1,Ar0 h1,h2] at h3;rw [h3];rw [h2] at ho;unfold e8;by_cases h8:n % 8=3∨n % 8=5
 ·rw [if_pos h8,if_neg Zj];simp [Int.mul_neg,Int.neg_mul]
 ·rw [if_neg h8,if_pos Zj];simp
theorem Ai9 {T s a n:Int} (h:AZd T s a n) (h0:0 < a) (ho:a % 2=1):AZd T (if a % 4=3/\n % 4=3 then -s else s) (n % a) a:=by
 obtain ⟨ps,h1,h2,h3⟩:=h;obtain ⟨qs,q1,q2⟩:=Apb a.toNat a (Nat.le_refl _) Zj ho;refine ⟨qs,q1,q2,?_⟩;have hr:=Ame h1 q1;rw [q2,h2] at hr;rw [h3,hr];have hmod:=Arx q1 n;rw [q2] at hmod;rw [hmod];unfold e4;by_cases h4:a % 4=3/\n % 4=3
 ·rw [if_pos h4,if_pos h4];simp [Int.mul_neg,Int.neg_mul]
 ·rw [if_neg h4,if_neg h4];simp
theorem Amf {T s n:Int} (h:AZd T s 0 n):T=if n=1 then s else 0:=by
 obtain ⟨ps,h1,h2,h3⟩:=h;by_cases hn:ps=[]
 ·subst hn;simp only [ABc] at h2;rw [if_pos h2.symm,h3];simp [Jb,ABc]
 ·have:=Ao9 h1 hn;rw [if_neg Zj,h3]
  cases ps with
  | nil=>exact absurd rfl hn
  | cons p ps=>
    unfold Jb
    simp only [List.map_cons,ABc]
    rw [AQj (h1 p (List.mem_cons_self ..)) (Int.zero_emod _),Int.zero_mul,Int.mul_zero]
theorem Ad2 {T s a n:Int} (h:AZd T s a n):n % 2=1/\1<=n:=by
 obtain ⟨ps,h1,h2,_⟩:=h;rw [<- h2];exact ATn h1
end Go.QF
namespace Go.Proofs.YtdkldlbgcfpglaaGreatDoor
open Go Go.QF
set_option maxRecDepth 100000
open Classical in
noncomputable def AZy (p:Int):Bool:=decide (2 < p/\p<=9973/\Pr p)
theorem AWy {p:Int} (h:2 < p/\p<=9973/\Pr p):true=AZy p:=by simp [AZy,h]
theorem ATo {p:Int} (h: ¬ (2 < p/\p<=9973/\Pr p)):false=AZy p:=by simp [AZy,h]
theorem Ar1 {p:Int} (h:2 < p/\Pr p):OPr p:=by
 refine ⟨h.2,?_⟩;have:=h.2.2 2 Zj h.1;omega
theorem prB {p:Int} {b:Bool} (h:AI9 p=b) (hp:p<=9973):b=true↔Pr p:=by
 subst h;constructor
 ·intro h;exact (Ah6 h).2
 ·intro h;exact (AVa Zj h).symm
theorem Apc (p:Int) {h:Zs} (HO:AS8 h):AAs Tryz.prog 37 #[.int .i64 p] h fun v h'=>h'=h/\v= .bool (AZy p):=by
 refine AA5 (l:=[_]) mx Tryz.func37 rfl rfl rfl rfl rfl Zw (Zn (AA3 (Zk (APb rfl rfl (fun Aa=>?_) (fun Aa=>?_)))))
 ·refine Zk (ABn 5 true Zw rfl rfl (Zk (ABn 5 true Zw rfl rfl (AQ5 rfl rfl (fun Ab=>?_) (fun Ab=>?_)))))
  ·refine AAd rfl (Zk (ABn 9 true Zw rfl rfl (Zk (ABn 9 true Zw rfl rfl (AAr trivial rfl (Ap8 p HO) fun x1 h hk=>?_)))));obtain ⟨rfl,rfl⟩:=hk;refine ⟨trivial,?_⟩;cases Ad:AI9 p
   ·refine AAd rfl (Zv (Zy (⟨_,Zz,?_⟩)))
    first
    | exact ⟨rfl,congrArg Value.bool (ATo (fun hh=>by have:=hh.1;have:=hh.2.1;omega))⟩
    | (have hq:=(prB (by assumption:AI9 p=_) Zj);first | exact ⟨rfl,congrArg Value.bool (AWy ⟨by first | omega | (have:=(hq.1 rfl).1;omega),Zj,hq.1 rfl⟩)⟩ | exact ⟨rfl,congrArg Value.bool (ATo (fun hh=>by have:=hq.2 hh.2.2;cases this))⟩)
   ·refine AAd rfl (Zv (Zy (⟨_,Zz,?_⟩)))
    first
    | exact ⟨rfl,congrArg Value.bool (ATo (fun hh=>by have:=hh.1;have:=hh.2.1;omega))⟩
    | (have hq:=(prB (by assumption:AI9 p=_) Zj);first | exact ⟨rfl,congrArg Value.bool (AWy ⟨by first | omega | (have:=(hq.1 rfl).1;omega),Zj,hq.1 rfl⟩)⟩ | exact ⟨rfl,congrArg Value.bool (ATo (fun hh=>by have:=hq.2 hh.2.2;cases this))⟩)
  ·refine AAd rfl (Zk (ABb 9 false Zw rfl rfl (ABb 9 false Zw rfl rfl (AAo rfl (Zv (Zy (⟨_,Zz,?_⟩)))))))
   first
   | exact ⟨rfl,congrArg Value.bool (ATo (fun hh=>by have:=hh.1;have:=hh.2.1;omega))⟩
   | (have hq:=(prB (by assumption:AI9 p=_) Zj);first | exact ⟨rfl,congrArg Value.bool (AWy ⟨by first | omega | (have:=(hq.1 rfl).1;omega),Zj,hq.1 rfl⟩)⟩ | exact ⟨rfl,congrArg Value.bool (ATo (fun hh=>by have:=hq.2 hh.2.2;cases this))⟩)
 ·refine Zk (ABb 5 false Zw rfl rfl (ABb 5 false Zw rfl rfl (AAo rfl (Zk (ABb 9 false Zw rfl rfl (ABb 9 false Zw rfl rfl (AAo rfl (Zv (Zy (⟨_,Zz,?_⟩))))))))))
  first
  | exact ⟨rfl,congrArg Value.bool (ATo (fun hh=>by have:=hh.1;have:=hh.2.1;omega))⟩
  | (have hq:=(prB (by assumption:AI9 p=_) Zj);first | exact ⟨rfl,congrArg Value.bool (AWy ⟨by first | omega | (have:=(hq.1 rfl).1;omega),Zj,hq.1 rfl⟩)⟩ | exact ⟨rfl,congrArg Value.bool (ATo (fun hh=>by have:=hq.2 hh.2.2;cases this))⟩)
open Classical in
noncomputable def AJ7 (p:Int):Bool:=decide (p<=9973/\Pr p)
theorem Small_ok (p:Int) (h:Zs):AAs Tryz.prog 52 #[.int .i64 p] h fun v h'=>h'=h/\v= .bool (AJ7 p):=by
 refine AA5 (l:=[_]) mx Tryz.func52 rfl rfl rfl rfl rfl Zw (Zn (AA3 (Zk (AQ5 rfl rfl (fun Aa=>?_) (fun Aa=>?_)))))
 ·refine Zk (ABn 5 true Zw rfl rfl (Zk (ABn 5 true Zw rfl rfl (AAr trivial rfl (Aj7 p _) fun x1 h hk=>?_))));obtain ⟨rfl,rfl⟩:=hk;refine ⟨trivial,?_⟩;cases Ac:AI9 p
  ·refine AAd rfl (Zv (Zy (⟨_,Zz,?_⟩)))
   first
   | exact ⟨rfl,congrArg Value.bool (show false=AJ7 p by simp [AJ7];intro hh;omega)⟩
   | (have hq:=(prB (by assumption:AI9 p=_) Zj);first | exact ⟨rfl,congrArg Value.bool (show true=AJ7 p by simp [AJ7];exact ⟨Zj,hq.1 rfl⟩)⟩ | exact ⟨rfl,congrArg Value.bool (show false=AJ7 p by simp [AJ7];intro _ hh;have:=hq.2 hh;cases this)⟩)
  ·refine AAd rfl (Zv (Zy (⟨_,Zz,?_⟩)))
   first
   | exact ⟨rfl,congrArg Value.bool (show false=AJ7 p by simp [AJ7];intro hh;omega)⟩
   | (have hq:=(prB (by assumption:AI9 p=_) Zj);first | exact ⟨rfl,congrArg Value.bool (show true=AJ7 p by simp [AJ7];exact ⟨Zj,hq.1 rfl⟩)⟩ | exact ⟨rfl,congrArg Value.bool (show false=AJ7 p by simp [AJ7];intro _ hh;have:=hq.2 hh;cases this)⟩)
 ·refine Zk (ABb 5 false Zw rfl rfl (ABb 5 false Zw rfl rfl (AAo rfl (Zv (Zy (⟨_,Zz,?_⟩))))))
  first
  | exact ⟨rfl,congrArg Value.bool (show false=AJ7 p by simp [AJ7];intro hh;omega)⟩
  | (have hq:=(prB (by assumption:AI9 p=_) Zj);first | exact ⟨rfl,congrArg Value.bool (show true=AJ7 p by simp [AJ7];exact ⟨Zj,hq.1 rfl⟩)⟩ | exact ⟨rfl,congrArg Value.bool (show false=AJ7 p by simp [AJ7];intro _ hh;have:=hq.2 hh;cases this)⟩)
end Go.Proofs.YtdkldlbgcfpglaaGreatDoor
namespace Go.Proofs.YtdkldlbgcfpglaaGreatDoor
open Go Go.QF
noncomputable def AO8 (fuel:Nat) (M:List (List Int)):Option Bool:=some (isRed M)
theorem AUy {fuel:Nat} {h:Zs} {v:Value} {M:List (List Int)} {r:Bool} (H:AEq (cI .i64) h v M) (hp:AO8 fuel M=some r):AAs Tryz.prog 36 #[v] h (fun x h'=>Ext h h'/\x= .bool r):=by
 cases hp;exact Aby (Art H) H.1
noncomputable def Ad3 (fuel:Nat) (n:Int):Option Bool:=some (AI9 n)
theorem Aja {fuel:Nat} {h:Zs} {n:Int} {r:Bool} (HO:AS8 h) (hp:Ad3 fuel n=some r):AAs Tryz.prog 73 #[.int .i64 n] h (fun x h'=>Ext h h'/\x= .bool r):=by
 cases hp;exact (Ap8 n HO).mono fun x h' ⟨he,hx⟩=>⟨he ▸ Ext.refl _,hx⟩
noncomputable def ALe (fuel:Nat) (n:Int):Option Bool:=some (AZy n)
theorem AQk {fuel:Nat} {h:Zs} {n:Int} {r:Bool} (HO:AS8 h) (hp:ALe fuel n=some r):AAs Tryz.prog 37 #[.int .i64 n] h (fun x h'=>Ext h h'/\x= .bool r):=by
 cases hp;exact (Apc n HO).mono fun x h' ⟨he,hx⟩=>⟨he ▸ Ext.refl _,hx⟩
end Go.Proofs.YtdkldlbgcfpglaaGreatDoor
namespace Go.Proofs.YtdkldlbgcfpglaaGreatDoor
open Go Go.QF
set_option maxRecDepth 100000
set_option maxHeartbeats 4000000
noncomputable def ALf (fuel:Nat) (Ad:LiA) (Aa Ab Ac:Int):Option ((Int × Int × Int) ⊕ ((Int × Int))):=
  (if 0<=Aa then ((gI Ad Aa).bind fun Ae=>(if 0<=Aa/\Aa<=64 then ((((ATk fuel Ab Ae).bind fun (Af,Ag,Ak)=>((AY4 fuel Ag).bind fun Ah=>(if ¬ Ah=0 then (some ( (false,Ab,Ac))) else (some ( (true,Af,(w64 (Ac + (w64 (1 * 2 ^ Int.toNat Aa)))))))))):Option (Bool × Int × Int)).bind fun (Am,Ai,Aj)=>(some (Sum.inl ((w64 (Aa - 1)),Ai,Aj)))) else none)) else (some (Sum.inr<| (Ab,Ac))))
noncomputable def ALg (fuel:Nat) (Aa:LiA) (Ac Ad:Int):Option ((LiA × Int × Int) ⊕ ((LiA × Int × Int))):=
  ((gI Aa (w64 ((Aa.length:Int) - 1))).bind fun Ab=>(if 0<=(w64 ((Aa.length:Int) - 1))/\(w64 ((Aa.length:Int) - 1))<=64 then ((((ATk fuel Ac Ab).bind fun (Ag,Ah,Am)=>((AY4 fuel Ah).bind fun Ai=>(if ¬ Ai=0 then (some ( (false,Ac,Ad))) else (some ( (true,Ag,(w64 (Ad + (w64 (1 * 2 ^ Int.toNat (w64 ((Aa.length:Int) - 1)))))))))))):Option (Bool × Int × Int)).bind fun (Aj,Ae,Af)=>(if Aj=true then ((Ag8 fuel Ab Ab).bind fun Ak=>(if Aa.length<=100000000 then (some (Sum.inl ((Aa ++ [Ak]),Ae,Af))) else none)) else (some (Sum.inr<| (Aa,Ae,Af))))) else none))
noncomputable def AIq (fuel:Nat) (a1 a5:Int):Option (Int × Int × Int):=
  ((Ad3 fuel a5).bind fun Ad=>(if (!Ad)=true then (some (0,0,20)) else ((AY4 fuel a1).bind fun Ae=>(if Ae=0 then (some (0,0,1)) else ((ATl fuel a1).bind fun Af=>((AXy fuel a5).bind fun Ag=>((iter (fun s=>ALg fuel s.1 s.2.1 s.2.2) fuel ([Ag],Af,0)).bind (fun ((Ac,Ah,Ai):LiA × Int × Int)=>((iter (fun s=>ALf fuel Ac s.1 s.2.1 s.2.2) fuel ((w64 ((Ac.length:Int) - 2)),Ah,Ai)).bind (fun ((Aj,Ak):Int × Int)=>(some (Ak,Aj,0))))))))))))
theorem ATp {fuel:Nat} {h:Zs} {Bh:Value} {a1 a5:Int} {r:(Int × Int × Int)} (H3:ZZ h Bh a1) (HO:AS8 h) (hp:AIq fuel a1 a5=some r):AAs Tryz.prog 79 #[Bh,(.int .i64 a5)] h (fun x h'=>Ext h h'/\ ∃ (x1:Value),x= .tuple #[.int .i64 r.1,x1,.int .i64 r.2.2]/\ZZ h' x1 r.2.1):=by
 unfold AIq at hp;obtain ⟨Ci,rfl,Am⟩:=H3.cs;refine cwf (l:=[_,_]) Tryz.func79 rfl rfl (Zn (AHg (Kst.k0 h) Ci fun b6 h7 E9 Cj=>AAi (ACx Cj [.bool false,.slice none 0 0] AEb fun Fp Fq Fr Bm=>Zv (Zo (Zn (Zk ?_))))));obtain ⟨Ft,Ck,Bn⟩:=Zp hp;refine ADk Bm (Aja (HO.ext Bm.x) Ck) fun Bo Fu Aj=>ADp rfl (Zr (⟨_,rfl,fun Ax=>?_,fun Ax=>?_⟩))
 ·refine Zn (AC5 (AMw ) (AAi (AFc Aj p0 (AAa Bo) (AAa Bo) fun Bp Bq=>Zv (Zy (AAc ?_)))));obtain rfl:=Zm (ifT Bn Ax);exact ⟨_,AYw ABa (cZ.klen (AAa Bp)) rfl (Bq.b p0),Bq.x,_,rfl,(AAa Bp).2⟩
 ·refine Zx (q_t (Zo (Zn (AJd (Aj.zx Am) (Aj.b p1) ?_))));obtain ⟨Fv,Cm,Br⟩:=Zp (AH9 Bn Ax);refine ADk Aj (AXz (Aj.zx Am).2 Cm) fun Bt Fw Ak=>ACc rfl rfl (Zr (⟨_,rfl,fun Ay=>?_,fun Ay=>?_⟩))
  ·refine Zn (AC5 (AMw ) (AAi (AFc Ak p0 (AAa Bt) (AAa Bt) fun Bu Bv=>Zv (Zy (AAc ?_)))));obtain rfl:=Zm (AA7 Br Ay);exact ⟨_,AYw ABa (cZ.klen (AAa Bu)) rfl (Bv.b p0),Bv.x,_,rfl,(AAa Bu).2⟩
  ·refine Zx (q_t (Zn (AJd (Ak.zx Am) (Ak.b p1) ?_)));obtain ⟨Cn,Co,Cp⟩:=Zp (AA8 Br Ay);refine AMg Ak (AVo (Ak.zx Am).2 Co) fun Cq Fx Fy Cr=>ACx Cr [.bool false,.slice none 0 0] AEb fun Ae Ct Fz Bw=>AFc Bw p0 (AAa Ct) (Bw.z p1) fun F4 Cu=>AHj (ACx Cu [(.int .i64 0)] AUu fun Af F5 F6 Bx=>AOo [(.int .i64 0)] ABt rfl rfl rfl (Bx.b p0) (Nat.le_of_ble_eq_true rfl) rfl fun F7 Cv Cw=>AHj (Aj0 rfl (Zv (Zo ?_))));refine Z1 (Zk ?_);obtain ⟨Cx,Cy,Cz⟩:=Zp Cp;refine AMg (Bx.sb p0 Cw Cv rfl) (AY5 Cy) fun F8 F9 Ga By=>Ara ACn AEb rfl trivial tt2 (By.z p0) rfl fun C0 C1 Gb C2 C3 C4 C5=>Zv (Zo (Zt ?_));have Az:=(By.no C3 (AEv C4 C5) C2).sel [0,2,3,4,5] Zl;dsimp only [AFy,AI2] at Az;refine AFr 2251799679470592 (fun x:(LiA) × (Value) × LnA × (Int) × LvA × (Int)=>(x.1,x.2.2.2.1,x.2.2.2.2.2)) (([Cx],C1,[C0],Cn,Cq,0):(LiA) × (Value) × LnA × (Int) × LvA × (Int)) Cz (fun x=>[(10,x.2.1)]) (fun x=>(((Az.L.set 0 (aO cZ 94 x.2.2.1 x.2.1 x.1)).set 3 (aZ x.2.2.2.2.1 x.2.2.2.1)).set 2 (aB 94 Ae x.2.2.2.2.1)).set 1 (aB 3 Af [(.int .i64 x.2.2.2.2.2)])) Az ⟨rfl,trivial⟩ ?_;rintro ⟨Ao,Gc,Gd,C6,C7,A3⟩ Ge Gf Gg Ap Bz C8;unfold ALg at Bz;refine Zo (Zo (AGh (Zk (Zk (Zk (ABr ACn rfl (Ap.o p0).rd (AE4 rfl rfl ?_)))))));obtain ⟨Gh,Aq,C9⟩:=Zp Bz;refine AW8 ACn rfl (Ap.o p0) rfl Aq fun Gi Da=>?_;obtain ⟨B1,Db,Dc⟩:=(Ap.o p0).cells Da Aq;have Ar:=Ap.az Db;refine ANh (c:=cZ) ABa rfl (Ar.z p0) (fun j u hu=>(Dc j u hu)) (Zk (ABr ACn rfl (Ar.o p1).rd (AE4 rfl rfl ?_)));obtain ⟨Dd,De⟩:=ifN C9;refine Ak5 rfl rfl Dd ?_;obtain ⟨Df,Dg,B3⟩:=Zp De;refine AXn (l:=[(.agg (B1).toArray),(.int .i64 (w64 (1 * 2 ^ Int.toNat (w64 ((Ao.length:Int) - 1)))))]) (cl:=[(.pointer (some ⟨Ae,0,none⟩)),(.pointer (some ⟨Af,0,none⟩))]) (K':=(fun xr h'=> ∃ x:(Bool) × (Int) × LvA × (Int),(x.1,x.2.1,x.2.2.2)=Df/\xr=(.bool x.1)/\Kst h h' (((Ar.L.set 4 (aZ x.2.2.1 x.2.1)).set 3 (aB 94 Ae x.2.2.1)).set 2 (aB 3 Af [(.int .i64 x.2.2.2)])))) trivial rfl rfl ?_ fun Gj Gk Dh=>?_
   ·refine cwf (l:=[_,_,_,_]) Tryz.func134 rfl rfl (Zn (AHg Ar B1 fun Gl Gm Gn Ab=>AA3 (AJd (Ab.z p5) (Ab.b p4) (AJd (Ab.z p1) (Ab.b p0) ?_))));obtain ⟨⟨Di,Gp,Gq⟩,Dj,B4⟩:=Zp Dg;dsimp only at B4;refine AMx rfl (AWw (Ab.z p5).2 (Ab.z p1).2 Dj) fun Gr Gt Dk Dl=>?_;obtain ⟨Gu,Gv,rfl,Do,Dp⟩:=Dl;obtain ⟨Dq,rfl,Dr⟩:=Do.cs;obtain ⟨Gw,rfl,Ds⟩:=Dp.cs;refine Zk (ABj rfl rfl (ABj rfl rfl (ABj rfl rfl (ACx (((Ab.e Dk).az Dr).az Ds) [.bool false,.slice none 0 0] AEb fun Gx Gy Gz Dt=>ACx Dt [.bool false,.slice none 0 0] AEb fun G3 Du G4 B5=>AFc B5 p1 (AAa Du) (B5.z p3) fun Dv B6=>AFc B6 p0 (AAa Dv) (B6.z p2) fun G5 Au=>Zv (Zo (Zn (AJd (Au.z p2) (Au.b p0) ?_)))))));obtain ⟨G6,Dw,B7⟩:=Zp B4;refine ADk Au (AXz (Au.z p2).2 Dw) fun G7 G8 Ag=>ADc rfl rfl (Zr (⟨_,rfl,fun A4=>?_,fun A4=>?_⟩))
    ·refine Zn (Zv (Zy (AAc (⟨_,Zz,((false,C6,C7,A3):(Bool) × (Int) × LvA × (Int)),?_,rfl,?_⟩))))
     ·exact Zm (AA7 B7 A4)
     ·exact Ag.sel [5,6,7,8,9,10] Zl
    ·refine Zx (q_t (Zn (AJd (Ag.z p3) (Ag.b p1) (AFc Ag p8 (Ag.z p9) (Ag.z p3) fun G9 A5=>AHj (AA6 ABt rfl ((A5.b p7).cell (i:=0) rfl) (Zk (AAz rfl rfl (AOo [(.int .i64 (w64 (A3 + (w64 (1 * 2 ^ Int.toNat (w64 ((Ao.length:Int) - 1)))))))] ABt rfl rfl rfl (A5.b p7) (Nat.le_of_ble_eq_true rfl) rfl fun Hb Dx Dy=>AHj ?_))))))));refine Zv (Zy (⟨_,Zz,((true,Di,Dq,(w64 (A3 + (w64 (1 * 2 ^ Int.toNat (w64 ((Ao.length:Int) - 1))))))):(Bool) × (Int) × LvA × (Int)),?_,rfl,?_⟩))
     ·exact Zm (AA8 B7 A4)
     ·exact (A5.sb p7 Dy Dx rfl).sel [5,6,7,8,3,10] Zl
   obtain ⟨⟨Hc,Dz,D0,D1⟩,D2,rfl,Ah⟩:=Dh;refine ⟨trivial,?_⟩;subst D2;refine Zr (⟨_,rfl,fun A6=>?_,fun A6=>?_⟩)
   ·refine Zx (q_t (Zt (Zn (Zk (Zk (ABr ACn rfl (Ah.o p1).rd (AE4 rfl rfl (AW8 ACn rfl (Ah.o p1) rfl Aq fun Hd D3=>?_))))))));obtain ⟨He,D4,D5⟩:=(Ah.o p1).cells D3 Aq;have B8:=Ah.az D4;refine ANh (c:=cZ) ABa rfl (B8.z p0) (fun j u hu=>(D5 j u hu)) (ACx B8 [.bool false,.slice none 0 0] AEb fun Hf D6 Hg B9=>AFc B9 p0 (AAa D6) (B9.z p1) fun Hh Ac=>Zr (Z1 (Zk (AJd (Ac.z p1) (Ac.b p0) (AJd (Ac.z p1) (Ac.b p0) ?_)))));obtain ⟨Hj,D7,D8⟩:=Zp (ifT B3 A6);refine AMg Ac (Aft (Ac.z p1).2 (Ac.z p1).2 D7) fun Hk Hl Hm A7=>?_;obtain ⟨D9,Ea⟩:=ifN D8;refine ALl ACn AEb rfl rfl trivial tt2 (fun _=>rfl) rfl (A7.z p0) (A7.o p4) Zl D9 fun Hn Ho Hq Hr Eb Ec Ed=>AAi (AAh (q_b (q_t ?_)));exact ⟨(_,_,_,_,_,_),(Zm Ea).symm,(A7.uo p4 Ec Eb Ed).sel [4,5,6,7,8] Zl,rfl,trivial⟩
   ·refine AAe (AAf (AAf (ABk (q_t (Zo (Zn (Zk (ABr ACn rfl (Ah.o p1).rd (AE4 rfl rfl (Zv (Zt ?_)))))))))));have A8:=Ah.sel [1,2,3,4,5] Zl;dsimp only [AFy,AI2] at A8;refine AFr 73768961896328728576 (fun x:(Int) × (Int) × LvA × (Int)=>(x.1,x.2.1,x.2.2.2)) (((w64 ((Ao.length:Int) - 2)),Dz,D0,D1):(Int) × (Int) × LvA × (Int)) (C8 _ (Zm (AH9 B3 A6)).symm) (fun x=>[(12,(.int .i64 x.1))]) (fun x=>((A8.L.set 3 (aZ x.2.2.1 x.2.1)).set 2 (aB 94 Ae x.2.2.1)).set 1 (aB 3 Af [(.int .i64 x.2.2.2)])) A8 ⟨rfl,trivial⟩ ?_;rintro ⟨A9,Ee,Ef,Ba⟩ Hs Eg Ht Aa Bb Eh;unfold ALf at Bb;refine Zo (Zn (Zk (ANn rfl rfl (Zr (⟨_,rfl,fun Bc=>?_,fun Bc=>?_⟩)))))
    ·refine Zx (q_t (Zo (Zt (AGh (Zk (Zk (Zk ?_)))))));obtain ⟨Hu,Ca,Ei⟩:=Zp (AA7 Bb Bc);refine AW8 ACn rfl (Aa.o p0) rfl Ca fun Hv Ej=>?_;obtain ⟨Cb,Ek,El⟩:=(Aa.o p0).cells Ej Ca;have Be:=Aa.az Ek;refine ANh (c:=cZ) ABa rfl (Be.z p0) (fun j u hu=>(El j u hu)) (Zk ?_);obtain ⟨Em,En⟩:=ifN Ei;refine Ak5 rfl rfl Em ?_;obtain ⟨Eo,Ep,Er⟩:=Zp En;refine AXn (l:=[(.agg (Cb).toArray),(.int .i64 (w64 (1 * 2 ^ Int.toNat A9)))]) (cl:=[(.pointer (some ⟨Ae,0,none⟩)),(.pointer (some ⟨Af,0,none⟩))]) (K':=(fun xr h'=> ∃ x:(Bool) × (Int) × LvA × (Int),(x.1,x.2.1,x.2.2.2)=Eo/\xr=(.bool x.1)/\Kst h h' (((Be.L.set 4 (aZ x.2.2.1 x.2.1)).set 3 (aB 94 Ae x.2.2.1)).set 2 (aB 3 Af [(.int .i64 x.2.2.2)])))) trivial rfl rfl ?_ fun Hw Hx Es=>?_
     ·refine cwf (l:=[_,_,_,_]) Tryz.func134 rfl rfl (Zn (AHg Be Cb fun Hy Hz Ia Ad=>AA3 (AJd (Ad.z p5) (Ad.b p4) (AJd (Ad.z p1) (Ad.b p0) ?_))));obtain ⟨⟨Et,Ib,Ic⟩,Eu,Cd⟩:=Zp Ep;dsimp only at Cd;refine AMx rfl (AWw (Ad.z p5).2 (Ad.z p1).2 Eu) fun Id Ie Ev Ew=>?_;obtain ⟨If,Ih,rfl,Ey,Ez⟩:=Ew;obtain ⟨Fa,rfl,Fb⟩:=Ey.cs;obtain ⟨Ii,rfl,Fc⟩:=Ez.cs;refine Zk (ABj rfl rfl (ABj rfl rfl (ABj rfl rfl (ACx (((Ad.e Ev).az Fb).az Fc) [.bool false,.slice none 0 0] AEb fun Ij Ik Il Fd=>ACx Fd [.bool false,.slice none 0 0] AEb fun Im Fe Io Ce=>AFc Ce p1 (AAa Fe) (Ce.z p3) fun Ff Cf=>AFc Cf p0 (AAa Ff) (Cf.z p2) fun Ip Av=>Zv (Zo (Zn (AJd (Av.z p2) (Av.b p0) ?_)))))));obtain ⟨Iq,Fg,Cg⟩:=Zp Cd;refine ADk Av (AXz (Av.z p2).2 Fg) fun Ir Is Ai=>ADc rfl rfl (Zr (⟨_,rfl,fun Bf=>?_,fun Bf=>?_⟩))
      ·refine Zn (Zv (Zy (AAc (⟨_,Zz,((false,Ee,Ef,Ba):(Bool) × (Int) × LvA × (Int)),?_,rfl,?_⟩))))
       ·exact Zm (AA7 Cg Bf)
       ·exact Ai.sel [5,6,7,8,9,10] Zl
      ·refine Zx (q_t (Zn (AJd (Ai.z p3) (Ai.b p1) (AFc Ai p8 (Ai.z p9) (Ai.z p3) fun It Bg=>AHj (AA6 ABt rfl ((Bg.b p7).cell (i:=0) rfl) (Zk (AAz rfl rfl (AOo [(.int .i64 (w64 (Ba + (w64 (1 * 2 ^ Int.toNat A9)))))] ABt rfl rfl rfl (Bg.b p7) (Nat.le_of_ble_eq_true rfl) rfl fun Iu Fh Fi=>AHj ?_))))))));refine Zv (Zy (⟨_,Zz,((true,Et,Fa,(w64 (Ba + (w64 (1 * 2 ^ Int.toNat A9))))):(Bool) × (Int) × LvA × (Int)),?_,rfl,?_⟩))
       ·exact Zm (AA8 Cg Bf)
       ·exact (Bg.sb p7 Fi Fh rfl).sel [5,6,7,8,3,10] Zl
     obtain ⟨⟨Iv,Iw,Ix,Iy⟩,Fj,rfl,Fk⟩:=Es;refine ⟨trivial,?_⟩;subst Fj;refine AAh (q_b (q_t (Z1 (Zk (AE4 rfl rfl (Zv ?_))))));exact ⟨(_,_,_,_),(Zm Er).symm,Fk.sel [1,2,3,4,5] Zl,rfl,trivial⟩
    ·refine AAe (AAf (AAf (ABk (q_t (Zo (AGh (AA6 ABt rfl ((Aa.b p1).cell (i:=0) rfl) (AJd (Aa.z p3) (Aa.b p2) (AAi (AFc Aa p4 (AAa Eg) (Aa.z p3) fun Iz Aw=>Zv (Zy ?_)))))))))));obtain rfl:=Zm (Eh _ (Zm (AA8 Bb Bc)).symm);exact ⟨_,AYw ABa (cZ.klen (Aw.z p3)) rfl (Aw.b p4),Aw.x,_,rfl,(Aw.z p3).2⟩
noncomputable def AC7 (fuel:Nat) (a3:LiI) (a5:Int):Option Int:=
  ((AIp fuel a3).bind fun (x6,x7)=>((AOw fuel x6).bind fun (Ae,Ag)=>((AIq fuel Ae a5).bind fun (Ab,Ah,Ai)=>(if a5=2 then (some (w64 (Ab + 3))) else (some (w64 (Ab + 1)))))))
theorem AHw {fuel:Nat} {h:Zs} {Ad:Value} {a3:LiI} {a5 r:Int} (H2:AEq (cI .i64) h Ad a3) (HO:AS8 h) (hp:AC7 fuel a3 a5=some r):AAs Tryz.prog 40 #[Ad,(.int .i64 a5)] h (fun x h'=>Ext h h'/\x= .int .i64 r):=by
 unfold AC7 at hp;refine cwf (l:=[_,_]) Tryz.func40 rfl rfl (Zn (AA3 (Zk ?_)));have K0:=Kst.k0 h;obtain ⟨⟨x6,x7⟩,Aq,Ah⟩:=Zp hp;dsimp only at Ah;refine AMx rfl (ATm (H2.ext K0.x) Aq) fun Bf Bg Ar Au=>?_;obtain ⟨Bh,Bi,Bj,Bl,rfl,Av,Aw⟩:=Au;refine Zk (ABj rfl rfl (ABj rfl rfl (AAi (AA3 (Zk ?_)))));have Ai:=K0.no2 Ar Aw Av;obtain ⟨⟨Bm,Bn⟩,Ax,Aj⟩:=Zp Ah;dsimp only at Aj;refine AMx rfl (AXl (Ai.o2 p0).rd Ax) fun Bo Bp Ay Az=>?_;obtain ⟨Bq,rfl,A3⟩:=Az;obtain ⟨Br,rfl,A4⟩:=A3.cs;refine Zk (ABj rfl rfl (ABj rfl rfl (ACx ((Ai.e Ay).az A4) [.bool false,.slice none 0 0] AEb fun Bt A5 Bu Ak=>AFc Ak p0 (AAa A5) (Ak.z p1) fun Bv Aa=>AA3 (AJd (Aa.z p1) (Aa.b p0) (Zk ?_)))));obtain ⟨⟨Bw,Bx,By⟩,A6,Ab⟩:=Zp Aj;dsimp only at Ab;refine AMx rfl (ATp (Aa.z p1).2 (HO.ext Aa.x) A6) fun Bz B1 A7 A8=>?_;obtain ⟨B3,rfl,A9⟩:=A8;obtain ⟨B4,rfl,Ba⟩:=A9.cs;refine Zk (ABj rfl rfl (ABj rfl rfl (ABj rfl rfl (ACx ((Aa.e A7).az Ba) [.bool false,.slice none 0 0] AEb fun B5 Bb B6 Am=>AAi (AFc Am p0 (AAa Bb) (Am.z p1) fun B7 Ao=>Zv (Zo (Zn (Zk (ACc rfl rfl (Zr (⟨_,rfl,fun Ac=>?_,fun Ac=>?_⟩)))))))))))
 ·refine Zn (Zk (AAz rfl rfl (Zv (Zy (AAc ?_)))));obtain rfl:=Zm (AA7 Ab Ac);exact ⟨_,Zz,Ao.x,rfl⟩
 ·refine Zx (q_t (Zn (Zk (AAz rfl rfl (Zv (Zy ?_))))));obtain rfl:=Zm (AA8 Ab Ac);exact ⟨_,Zz,Ao.x,rfl⟩
noncomputable def AJ8 (fuel:Nat) (a3:LiI) (a5:Int):Option (Int × Int):=
  ((AO8 fuel a3).bind fun x6=>(if (!x6)=true then (some (0,6)) else (if ¬ a5=2 then ((ALe fuel a5).bind fun Ad=>(if (!Ad)=true then (some (0,20)) else ((AC7 fuel a3 a5).bind fun Ae=>(some (Ae,0))))) else ((AC7 fuel a3 a5).bind fun Af=>(some (Af,0))))))
theorem ASv {fuel:Nat} {h:Zs} {Ah:Value} {a3:LiI} {a5:Int} {r:(Int × Int)} (H2:AEq (cI .i64) h Ah a3) (HO:AS8 h) (hp:AJ8 fuel a3 a5=some r):AAs Tryz.prog 43 #[Ah,(.int .i64 a5)] h (fun x h'=>Ext h h'/\x= .tuple #[.int .i64 r.1,.int .i64 r.2]):=by
 unfold AJ8 at hp;refine cwf (l:=[_,_]) Tryz.func43 rfl rfl (Zn (AAi (Zv (Zo (Zn (Zk ?_))))));have K0:=Kst.k0 h;obtain ⟨x6,Ap,Ak⟩:=Zp hp;refine ADk K0 (AUy (H2.ext K0.x) Ap) fun A3 E9 Aa=>ADp rfl (Zr (⟨_,rfl,fun Af=>?_,fun Af=>?_⟩))
 ·refine Zn (AAi (Zv (Zy (AAc ?_))));obtain rfl:=Zm (ifT Ak Af);exact ⟨_,ABg,Aa.x,rfl⟩
 ·refine Zx (q_t (Zo (Zn (Zk (ADc rfl rfl (Zk ?_))))));have Am:=AH9 Ak Af;by_cases Ab: ¬ a5=2
  ·rw [decide_eq_true Ab];refine AAk 11 true (Zk (AAk 11 true ?_));obtain ⟨A5,Aq,Ao⟩:=Zp (ifT Am Ab);refine ADk Aa (AQk (HO.ext Aa.x) Aq) fun A6 A7 Ac=>AAk 11 true (ADp rfl (AAd rfl (Zr (⟨_,rfl,fun Ag=>?_,fun Ag=>?_⟩))))
   ·refine Zn (AAi (Zv (Zy (AAc ?_))));obtain rfl:=Zm (ifT Ao Ag);exact ⟨_,ABg,Ac.x,rfl⟩
   ·refine Zx (q_t (Zn (Zk (Zk ?_))));obtain ⟨A8,Ar,Au⟩:=Zp (AH9 Ao Ag);refine ADk Ac (AHw (H2.ext Ac.x) (HO.ext Ac.x) Ar) fun A9 Ba Av=>AAi (Zv (Zy ?_));obtain rfl:=Zm Au;exact ⟨_,ABg,Av.x,rfl⟩
  ·rw [decide_eq_false Ab];refine AH3 11 false (AAo rfl (Zr (AAq rfl (Zx (q_t (Zn (Zk (Zk ?_))))))));obtain ⟨Bb,Aw,Ax⟩:=Zp (ifF Am Ab);refine ADk Aa (AHw (H2.ext Aa.x) (HO.ext Aa.x) Aw) fun Bc Be Ay=>AAi (Zv (Zy ?_));obtain rfl:=Zm Ax;exact ⟨_,ABg,Ay.x,rfl⟩
def AM2 (fuel:Nat) (a1 a2 s8 s9:Int):Option ((Int × Int) ⊕ ((Int))):=
  (if s9 < a2 then (some (Sum.inl ((w64 (s8 * a1)),(w64 (s9 + 1))))) else (some (Sum.inr<| s8)))
def AHq (fuel:Nat) (a1 a2:Int):Option Int:=
  ((iter (fun s=>AM2 fuel a1 a2 s.1 s.2) fuel (1,0)).bind (fun (Ac:Int)=>(some Ac)))
theorem AM3 {fuel:Nat} {h:Zs} {a1 a2 r:Int} (hp:AHq fuel a1 a2=some r):AAs Tryz.prog 39 #[(.int .i64 a1),(.int .i64 a2)] h (fun x h'=>Ext h h'/\x= .int .i64 r):=by
 unfold AHq at hp;refine cwf (l:=[_,_]) Tryz.func39 rfl rfl (Zn (AA3 (Zv (Zo (Zn (Zk (Zk (Zr (Zt ?_)))))))));have K0:=Kst.k0 h;refine AHm 8096 hp (fun x=>[(5,(.int .i64 x.1)),(7,(.int .i64 x.2))]) (fun x=>K0.L) K0 ⟨rfl,rfl,trivial⟩ ?_;rintro ⟨u9,Ai⟩ Aj h6 y5 K8 Aa Ag;unfold AM2 at Aa;refine Zn (AAy rfl rfl (Zr (Zo (⟨_,rfl,fun Ab=>?_,fun Ab=>?_⟩))))
 ·refine Zx (q_t (Zo (Zt (Z1 (Zk (Zk (AK2 rfl rfl (AAi (AAh (q_b (q_t (Z1 (AAz rfl rfl (Zk (Zr ?_)))))))))))))));exact ⟨_,(Zm (AA7 Aa Ab)).symm,K8,rfl,rfl,trivial⟩
 ·refine AAe (AAf (AAf (ABk (q_t (Zn (Zk (Zv (Zy ?_))))))));obtain rfl:=Zm (Ag _ (Zm (AA8 Aa Ab)).symm);exact ⟨_,Zz,K8.x,rfl⟩
def AG6 (fuel:Nat) (a2 Ab Ac:Int):Option ((Int × Int) ⊕ ((Int))):=
  (((if ¬ Ab=0 then (if a2≠0 then (if (Int.tmod Ab a2)=0 then (some (Sum.inl <| ())) else (some (Sum.inr <| ()))) else none) else (some (Sum.inr <| ()))):Option ((Unit) ⊕ (Unit))).bind (fun ex=>match ex with | Sum.inl _=>(if a2≠0 then (some (Sum.inl ((w64 (Int.tdiv Ab a2)),(w64 (Ac + 1))))) else none) | Sum.inr (_)=>(some (Sum.inr<| Ac))))
def ADh (fuel:Nat) (a1 a2:Int):Option Int:=
  ((iter (fun s=>AG6 fuel a2 s.1 s.2) fuel (a1,0)).bind (fun (Ac:Int)=>(some Ac)))
theorem AOy {fuel:Nat} {h:Zs} {a1 a2 r:Int} (hp:ADh fuel a1 a2=some r):AAs Tryz.prog 21 #[(.int .i64 a1),(.int .i64 a2)] h (fun x h'=>Ext h h'/\x= .int .i64 r):=by
 unfold ADh at hp;refine cwf (l:=[_,_]) Tryz.func21 rfl rfl (Zn (AA3 (Zv (Zo (Zt ?_)))));have K0:=Kst.k0 h;refine AHm 524257 hp (fun x=>[(0,(.int .i64 x.1)),(5,(.int .i64 x.2))]) (fun x=>K0.L) K0 ⟨rfl,rfl,trivial⟩ ?_;rintro ⟨u9,Aw⟩ Ax h6 y5 K8 Ah Ai;unfold AG6 at Ah;obtain ⟨Ao,Aj,Ac⟩:=Zp Ah;refine AI8 16320 (fun x:Unit=>[]) (fun x h'=>(Sum.inl <| ())=Ao/\Kst h h' (K8.L)) ?_ ?_
 ·refine Zn (Zk (ADc rfl rfl (Zk ?_)));by_cases Ab: ¬ u9=0
  ·rw [decide_eq_true Ab];refine AAk 8 true (Zk (AAk 8 true (Zk (AAk 8 true ?_))));obtain ⟨Ap,Ak⟩:=ifN (ifT Aj Ab);refine ADo rfl rfl Ap (AAk 8 true (ACc rfl rfl (AAd rfl (Zr (⟨_,rfl,fun Ad=>?_,fun Ad=>?_⟩)))))
   ·refine Zx (q_t ?_);exact ⟨(():Unit),⟨Zm (AA7 Ak Ad),K8⟩,trivial⟩
   ·obtain rfl:=Zm (AA8 Ak Ad);refine AAe (AAf (AAf (ABk (q_t (Zn (Zk (Zv (Zy ?_))))))));obtain rfl:=Zm (Ai _ (Zm Ac).symm);exact ⟨_,Zz,K8.x,rfl⟩
  ·rw [decide_eq_false Ab];refine APd 8 false (AAo rfl (Zr (AAq rfl ?_)));obtain rfl:=Zm (ifF Aj Ab);refine AAe (AAf (AAf (ABk (q_t (Zn (Zk (Zv (Zy ?_))))))));obtain rfl:=Zm (Ai _ (Zm Ac).symm);exact ⟨_,Zz,K8.x,rfl⟩
 rintro ⟨⟩ A3 A4 ⟨Aq,Ar⟩;subst Aq;refine Zt (Zn (Zk (Zk ?_)));obtain ⟨Au,Av⟩:=ifN Ac;refine AP9 rfl rfl Au (Zv (Z1 (Zk (AAz rfl rfl (AAi (AAh (q_b (q_t ?_))))))));exact ⟨_,(Zm Av).symm,Ar,rfl,rfl,trivial⟩
def AFm (fuel:Nat) (a3:LiI):Option Int:=
  ((ADx fuel a3).bind fun x5=>((ABo fuel x5).bind fun Ac=>((Abm fuel Ac).bind fun (Ad,Ae)=>(some Ad))))
theorem ASi {fuel:Nat} {h:Zs} {Aa:Value} {a3:LiI} {r:Int} (H2:AEq (cI .i64) h Aa a3) (hp:AFm fuel a3=some r):AAs Tryz.prog 20 #[Aa] h (fun x h'=>Ext h h'/\x= .int .i64 r):=by
 unfold AFm at hp;refine cwf (l:=[_]) Tryz.func20 rfl rfl (Zn (AA3 (Zk ?_)));have K0:=Kst.k0 h;obtain ⟨x5,Ah,Ai⟩:=Zp hp;refine ANo K0 (AKl (H2.ext K0.x) Ah) fun Aq Ar Au Av h9 E8 Ad=>?_;obtain ⟨Ay,Aj,Ak⟩:=Zp Ai;refine AMg Ad (ACv (Ad.o2 p0).rd Aj) fun Az A3 A4 Ae=>?_;obtain ⟨⟨A5,A6⟩,Am,Af⟩:=Zp Ak;dsimp only at Af;refine ADk Ae (Adi (Ae.z p0).2 Am) fun A7 A8 Ao=>Zk (ABj rfl rfl (ABj rfl rfl (AAi (AA3 (Zk (Zv (Zy ?_)))))));obtain rfl:=Zm Af;exact ⟨_,Zz,Ao.x,rfl⟩
def AM4 (fuel:Nat) (a3:LiI) (a5:Int):Option Int:=
  ((AFm fuel a3).bind fun x6=>((ADh fuel x6 a5).bind fun Ab=>(if a5=2 then (some (w64 (Ab + 3))) else (some (w64 (Ab + 1))))))
def AEn (fuel:Nat) (a1:Int):Option Int:=
  ((gI ([3,5,7,11,13,17,19,23]:List Int) (Int.tmod a1 8)).bind fun Ab=>(some Ab))
theorem AOz {fuel:Nat} {h:Zs} {a1 r:Int} (hp:AEn fuel a1=some r):AAs Tryz.prog 10 #[(.int .u8 a1)] h (fun x h'=>Ext h h'/\x= .int .i64 r):=by
 unfold AEn at hp;refine cwf (l:=[_]) Tryz.func10 rfl rfl (Zn (AA3 (AWk (κ:= .i64) [3,5,7,11,13,17,19,23] AAj AJx rfl rfl trivial tt2 rfl rfl rfl rfl fun b2 v3 h4 I5 E6 Af Ag=>Zk (ADo rfl rfl Zl ?_))));have Aa:=(Kst.k0 h).no E6 (AEv Af Ag) I5;obtain ⟨Aq,Ac,Ah⟩:=Zp hp;refine AW8 AAj rfl (Aa.o p0) rfl Ac fun Ar Ai=>?_;obtain ⟨Au,Aj,Ak⟩:=(Aa.o p0).cells Ai Ac;obtain rfl:=Aj;refine AA6 AAt rfl (Ak 0 _ rfl) (Zv (Zy ?_));obtain rfl:=Zm Ah;exact ⟨_,Zz,Aa.x,rfl⟩
def AFn (fuel:Nat) (a1 a2:Int):Option Int:=
  (if a2≠0 then (if (Int.tmod a1 a2) < 0 then (some (w64 ((Int.tmod a1 a2) + a2))) else (some (Int.tmod a1 a2))) else none)
theorem ASj {fuel:Nat} {h:Zs} {a1 a2 r:Int} (hp:AFn fuel a1 a2=some r):AAs Tryz.prog 68 #[(.int .i64 a1),(.int .i64 a2)] h (fun x h'=>Ext h h'/\x= .int .i64 r):=by
 unfold AFn at hp;refine cwf (l:=[_,_]) Tryz.func68 rfl rfl (Zn (AA3 (Zk (Zk ?_))));have K0:=Kst.k0 h;obtain ⟨Af,Ae⟩:=ifN hp;refine ADo rfl rfl Af (Zv (Zo (Zn (Zk (AAy rfl rfl (Zr (⟨_,rfl,fun Aa=>?_,fun Aa=>?_⟩)))))))
 ·refine Z1 (Zk (Zk (AAz rfl rfl (AA3 (Zk (Zv (Zy ?_)))))));obtain rfl:=Zm (AA7 Ae Aa);exact ⟨_,Zz,K0.x,rfl⟩
 ·refine Zx (q_t (Zn (Zk (Zv (Zy ?_)))));obtain rfl:=Zm (AA8 Ae Aa);exact ⟨_,Zz,K0.x,rfl⟩
end Go.Proofs.YtdkldlbgcfpglaaGreatDoor
namespace Go.QF
theorem Ahd:∀ {n:Nat} {m:Int} {F G:Z4},(∀ i j,i < n->j < n->Eqm m (F i j) (G i j))->Eqm m (det n F) (det n G):=by
 intro n m
 induction n with
 | zero=>intro _ _ _;rfl
 | succ n ih=>
   intro F G h
   refine Eqm.psum fun i hi=>?_
   exact ((Eqm.refl _ _).mul (h i 0 hi Zj)).mul (ih (F:=AEc i F) (G:=AEc i G) fun a b ha hb=>h _ _ (Alq ha) Zj)
end Go.QF
namespace Go.Proofs.YtdkldlbgcfpglaaGreatDoor
open Go Go.QF
end Go.Proofs.YtdkldlbgcfpglaaGreatDoor
namespace Go.Proofs.YtdkldlbgcfpglaaGreatDoor
open Go Go.QF
theorem Ar3 {fuel:Nat} {a m:Int} (hm:0 < m) (Ae:m<=2147483647):AFn fuel a m=some (a % m):=by
 unfold AFn;rw [if_pos Zj];have h1:=Int.tmod_lt_of_pos a hm
 have h2: -m < Int.tmod a m:=by
   have:=Int.tmod_lt_of_pos (-a) hm
   rw [Int.neg_tmod] at this;omega
 have h3:Int.tmod a m=a % m∨Int.tmod a m=a % m - m:=by
   rcases Int.lt_or_le a 0 with h | h
   · have e1:Int.tmod a m= -((-a) % m):=by rw [show a= -(-a) by omega,Int.neg_tmod,Int.tmod_eq_emod_of_nonneg Zj];simp
     rcases Int.lt_or_eq_of_le (Int.emod_nonneg (-a) (by omega:m≠0)) with h4 | h4
     · right
       rw [e1]
       have:=Int.emod_add_mul_ediv (-a) m
       have h5:a % m=m - (-a) % m:=by
         have h6:=Int.emod_lt_of_pos (-a) hm
         have e:a=(m - (-a) % m) + m * (-(-a / m) - 1):=by
           have e0:m * (-(-a / m) - 1)= -(m * (-a / m)) - m:=by rw [Int.mul_sub,Int.mul_neg,Int.mul_one]
           omega
         conv=>lhs;rw [e]
         rw [Int.add_mul_emod_self_left,Int.emod_eq_of_lt Zj Zj]
       omega
     · left
       rw [e1,<- h4]
       have:m ∣ -a:=Int.dvd_of_emod_eq_zero h4.symm
       have:m ∣ a:=(Int.dvd_neg).1 this
       rw [Int.emod_eq_zero_of_dvd this];rfl
   · left;exact Int.tmod_eq_emod_of_nonneg h
 have h4:=Int.emod_nonneg a (by omega:m≠0);have h5:=Int.emod_lt_of_pos a hm;rcases h3 with h3 | h3
 ·rw [if_neg Zj,h3]
 ·rw [if_pos Zj,wk Zj];congr 1;omega
end Go.Proofs.YtdkldlbgcfpglaaGreatDoor
namespace Go.QF
def Ar4 (n:Nat) (F:Z4) (i j:Nat):Int:=det n (ABz F i (dl j))
def AZe (n:Nat) (F:Z4) (i j:Nat):Int:=Ar4 n F j i
def tau (j c:Nat):Nat:=if c=j then j + 1 else if c=j + 1 then j else c
theorem Ad4 {n j:Nat} {F:Z4} (hj:j + 1 < n):det n (fun r c=>F r (tau j c))= -det n F:=by
 rw [<- AOi (fun r c=>F r (tau j c)),<- AOi F,<- APs (F:=trF F) (a:=j) (b:=j + 1) Zj hj Zj];refine ABx fun c r hc hr=>?_;rw [ALm];show F r (tau j c)=if c=j + 1 then F r j else if c=j then F r (j + 1) else F r c;unfold tau;by_cases h1:c=j + 1
 ·subst h1;simp
 ·by_cases h2:c=j
  ·subst h2;simp
  ·simp [h1,h2]
theorem ANv {f:Nat->Int} {n a:Nat} (ha:a < n) (h:∀ i,i < n->i≠a->f i=0):psum f n=f a:=by
 rw [AA2 (g:=fun i=>if i=a then f a else 0) (fun k hk=>?_),AJk ha (fun i hi=>if_neg hi),if_pos rfl];by_cases e:k=a
 ·subst e;rw [if_pos rfl]
 ·rw [if_neg e,h k hk e]
theorem Apd {n:Nat} {F:Z4} {i j:Nat} (hi:i < n) (hj:j < n):psum (fun k=>F i k * Ar4 n F j k) n=if i=j then det n F else 0:=by
 have h:=AY2 (F:=F) hj (F i) dl n
 have e:det n (ABz F j fun q=>psum (fun k=>F i k * dl k q) n)=det n (ABz F j (F i)):=ABx fun r c _ hc=>by
   rw [AA4,AA4]
   split
   · exact Afo (F:=F) (i:=i) hc
   · rfl
 unfold Ar4;rw [<- h,e];split
 ·subst_vars
  refine ABx fun r c _ _=>?_;rw [AA4];split
  ·subst_vars;rfl
  ·rfl
 ·rename_i hij;refine AMd hi hj hij ?_;funext c;rw [AA4,if_neg hij,AA4,if_pos rfl]
theorem Ajb {n:Nat} {F:Z4} {i j:Nat} (hi:i < n) (hj:j < n):psum (fun k=>F i k * AZe n F k j) n=det n F * dl i j:=by
 unfold AZe;rw [Apd hi hj];unfold dl;split <;> simp
end Go.QF
namespace Go.Proofs.YtdkldlbgcfpglaaGreatDoor
open Go Go.QF
theorem Ad5 {fuel n r c:Nat} {F:Z4} {f g:Nat->Nat} (hr:r<=100) (hc:c<=100) (hf:100 < fuel) (hfn:∀ a,a < r->f a < n) (hgn:∀ a,a < c->g a < n):AD4 fuel (tab n n F) (ACl r fun a=>(f a:Int)) (ACl c fun a=>(g a:Int))=some (tab r c fun a b=>F (f a) (g b)):=by
 apply ok_eq;unfold AD4;refine Zu (ABd (fun i s=>s=(ACl i fun a=>ACl c fun b=>F (f a) (g b),(i:Int))) r (Q:=(· =tab r c fun a b=>F (f a) (g b))) rfl Zj fun i s hi hI=>?_) fun y hy=>Zq hy;subst hI;unfold AIb;dsimp only;rw [ABm];refine AAw (fun h=>?_) (fun h=>Zq ?_)
 ·have hi':i < r:=by omega
  refine AAv (AA0 hi') rfl (Zu (ABd (fun j s=>s=(ACl j fun b=>F (f i) (g b),(j:Int))) c (Q:=(· =ACl c fun b=>F (f i) (g b))) rfl Zj fun j s hj hJ=>?_) fun e he=>ABs (by rw [ABm];omega) (Zq ⟨hi',?_⟩))
  ·subst hJ;unfold AIa;dsimp only;rw [ABm,ABm];refine AAw (fun h2=>?_) (fun h2=>Zq ?_)
   ·have hj':j < c:=by omega
    refine AAv (AA0 hj') rfl (AAv (ABl (hfn i hi')) rfl (AAv (AA0 (hgn j hj')) rfl (ABs Zj (Zq ⟨hj',?_⟩))));rw [wk Zj,<- ANq];rfl
   ·obtain rfl:j=c:=by omega
    rfl
  ·subst he;rw [wk Zj,<- ANq];rfl
 ·obtain rfl:i=r:=by omega
  rfl
theorem Aaq {fuel n:Nat} {F:Z4} (hn:1<=n) (Ad:n<=16) (hf:100 < fuel):AD3 fuel (tab n n F)=some ((n:Int),true):=by
 apply ok_eq;unfold AD3;refine Zu (Q:=(· =((n:Int),(n:Int),true))) ?_ fun e he=>?_
 ·unfold ACi;rw [AA9];refine Zu (Q:=fun ex=>match ex with | .inl _=>False | .inr _=>True) (AAw (fun h=>by omega) fun h=>AAw (fun h2=>by omega) fun h2=>Zq trivial) fun ex hex=>?_
  cases ex with
  | inl e=>exact hex.elim
  | inr u=>
    dsimp only
    refine Zu (ABd (fun i (s:Int)=>s=i) n (Q:=fun ex=>match ex with | .inl _=>False | .inr _=>True) rfl Zj fun i s hi hI=>?_) fun ex hex=>?_
    · subst hI
      unfold AF6
      rw [AA9]
      refine AAw (fun h=>AAv (ABl Zj) rfl ?_) fun h=>Zq trivial
      rw [ABm]
      refine AAw (fun h2=>by omega) fun h2=>AAw (fun h3=>by omega) fun h3=>AAv (n:=0) (ABl Zj) rfl (AAw (fun h4=>?_) fun h4=>Zq ⟨Zj,wk Zj⟩)
      rw [ABm] at h4;omega
    · cases ex with
      | inl e=>exact hex.elim
      | inr u=>exact AAv (n:=0) (ABl Zj) rfl (Zq (by rw [ABm]))
 ·subst he;dsimp only;exact AAw (fun h=>by cases h) fun _=>AAw (fun h=>absurd rfl h) fun _=>Zq rfl
end Go.Proofs.YtdkldlbgcfpglaaGreatDoor
namespace Go.QF
def AKf (n:Nat) (A:Z4):Prop:= ∀ i j,i < n->j < n->A i j=A j i
def ALz (n:Nat) (A:Z4):Prop:= ∀ k,k<=n->0 < det k A
theorem AM5 {k i r n:Nat} (hk:k<=n) (hi:i < n):bro k i r < n:=by unfold bro;split <;> omega
theorem Afx {n k:Nat} {A:Z4} (hs:AKf n A) (hk:k<=n) {i j:Nat} (hi:i < n) (hj:j < n):Mn k A i j=Mn k A j i:=by
 unfold Mn;rw [<- AOi];refine ABx fun r c _ _=>?_;exact hs _ _ (AM5 hk hi) (AM5 hk hj)
theorem Afy {k:Nat} (A:Z4) {i:Nat} (j:Nat) (hi:i < k):Mn k A i j=0:=by
 unfold Mn;refine AMd (a:=i) (b:=k) Zj Zj Zj ?_;funext c;unfold bro;simp [hi]
def bil (n k:Nat) (A:Z4) (x y:Nat->Int):Int:=psum (fun i=>psum (fun j=>Mn k A i j * x i * y j) n) n
def lin (n k:Nat) (A:Z4) (x:Nat->Int):Int:=psum (fun j=>Mn k A k j * x j) n
theorem Ajc (f g:Nat->Int) (n:Nat):psum (fun i=>psum (fun j=>f i * g j) n) n=psum f n * psum g n:=by
 rw [AA2 (g:=fun i=>psum g n * f i) (fun i _=>by rw [AE3,Int.mul_comm]),AE3,Int.mul_comm]
theorem Aug {n k:Nat} {A:Z4} (hs:AKf n A) (hk:k < n) (h0:det k A≠0) (x y:Nat->Int):det (k + 1) A * bil n k A x y=lin n k A x * lin n k A y + det k A * bil n (k + 1) A x y:=by
 unfold bil;rw [<- AE3,<- AE3];have e1:lin n k A x * lin n k A y=psum (fun i=>psum (fun j=>Mn k A k i * x i * (Mn k A k j * y j)) n) n:=(Ajc (fun i=>Mn k A k i * x i) (fun j=>Mn k A k j * y j) n).symm;rw [e1,<- ALa];refine AA2 fun i hi=>?_;rw [<- AE3,<- AE3,<- ALa];refine AA2 fun j hj=>?_;have h:=AT6 (k:=k) (A:=A) h0 i j;rw [AI5,Afx hs Zj hi hk] at h;have h2:det (k + 1) A * Mn k A i j=Mn k A k i * Mn k A k j + det k A * Mn (k + 1) A i j:=by omega
 grind
theorem Ape (n:Nat) (A:Z4) (x y:Nat->Int):bil n n A x y=0:=by
 unfold bil;rw [AA2 (g:=fun _=>0) fun i hi=>?_]
 ·exact AO5 n
 ·rw [AA2 (g:=fun _=>0) fun j _=>by rw [Afy A j hi];simp];exact AO5 n
theorem APv {n:Nat} {A:Z4} (hs:AKf n A) (hp:ALz n A) (x:Nat->Int):∀ d k,k + d=n->0<=bil n k A x x:=by
 intro d
 induction d with
 | zero=>
     intro k hk;obtain rfl:k=n:=by omega
     rw [Ape];exact Int.le_refl _
 | succ d ih=>
   intro k hk
   have h1:=ih (k + 1) Zj
   have h2:=hp k Zj
   have h3:=hp (k + 1) Zj
   have h4:=Aug hs (show k < n by omega) Zj x x
   have h5:0<=lin n k A x * lin n k A x:=by
     rcases Int.le_total 0 (lin n k A x) with h | h
     · exact Int.mul_nonneg h h
     · exact Int.mul_nonneg_of_nonpos_of_nonpos h h
   have h6:=Int.mul_nonneg (Int.le_of_lt h2) h1
   exact Int.nonneg_of_mul_nonneg_right Zj h3
theorem Ab0 {n k:Nat} {A:Z4} (a b:Int) (x y z:Nat->Int):bil n k A (fun i=>a * x i + b * y i) z=a * bil n k A x z + b * bil n k A y z:=by
 unfold bil;rw [<- AE3,<- AE3,<- ALa];refine AA2 fun i _=>?_;rw [<- AE3,<- AE3,<- ALa];exact AA2 fun j _=>by grind
theorem Ab1 {n k:Nat} {A:Z4} (hs:AKf n A) (hk:k<=n) (x y:Nat->Int):bil n k A x y=bil n k A y x:=by
 unfold bil;rw [AWo];refine AA2 fun j hj=>AA2 fun i hi=>?_;rw [Afx hs hk hi hj];grind
theorem Amg {n k:Nat} {A:Z4} (hs:AKf n A) (hp:ALz n A) (hk:k<=n) (x y:Nat->Int):bil n k A x y * bil n k A x y<=bil n k A x x * bil n k A y y:=by
  obtain ⟨p,hpq⟩:∃ p,bil n k A x y=p:=⟨_,rfl⟩;obtain ⟨q,hq⟩:∃ q,bil n k A x x=q:=⟨_,rfl⟩;obtain ⟨r,hr⟩:∃ r,bil n k A y y=r:=⟨_,rfl⟩;have hyx:bil n k A y x=p:=by rw [Ab1 hs hk];exact hpq
  have key:∀ a b:Int,0<=a * (a * q + b * p) + b * (a * p + b * r):=fun a b=>by
    have h:=APv hs hp (fun i=>a * x i + b * y i) (n - k) k Zj;rw [Ab0,Ab1 hs hk x (fun i=>a * x i + b * y i),Ab0,Ab1 hs hk y (fun i=>a * x i + b * y i),Ab0,hpq,hq,hr,hyx] at h;exact h
  rw [hpq,hq,hr];have hq0:0<=q:=hq ▸ APv hs hp x (n - k) k Zj
  rcases Int.lt_or_eq_of_le hq0 with h | h
  · have h1:=key p (-q);have e:p * (p * q + -q * p) + -q * (p * p + -q * r)=q * (q * r - p * p):=by grind
    rw [e] at h1;have:=Int.nonneg_of_mul_nonneg_right h1 h;omega
  · subst h;have h1:=key (-(r + 1)) p;have h2:=key 1 0;have e: -(r + 1) * (-(r + 1) * 0 + p * p) + p * (-(r + 1) * p + p * r)= -((r + 2) * (p * p)):=by grind
    rw [e] at h1;have hr0:0<=r:=hr ▸ APv hs hp y (n - k) k Zj
    have hpp:0<=p * p:=by
      rcases Int.le_total 0 p with h | h
      · exact Int.mul_nonneg h h
      · exact Int.mul_nonneg_of_nonpos_of_nonpos h h
    have:0<=r * (p * p):=Int.mul_nonneg hr0 hpp;have e2:(r + 2) * (p * p)=r * (p * p) + 2 * (p * p):=by grind
    rw [Int.zero_mul];omega
theorem AVs {n k:Nat} {A:Z4} {i j:Nat} (hi:i < n) (hj:j < n):bil n k A (dl i) (dl j)=Mn k A i j:=by
 unfold bil;rw [ANv hi (fun a ha hne=>?_),ANv hj (fun b hb hne=>?_)]
 ·simp [dl]
 ·unfold dl;rw [if_neg (fun h:j=b=>hne h.symm)];simp
 ·rw [AA2 (g:=fun _=>0) fun b _=>by unfold dl;rw [if_neg (fun h:i=a=>hne h.symm)];simp];exact AO5 n
theorem AWz {n k:Nat} {A:Z4} (hs:AKf n A) (hp:ALz n A) (hk:k<=n) {i j:Nat} (hi:i < n) (hj:j < n):Mn k A i j * Mn k A i j<=Mn k A i i * Mn k A j j:=by
 have:=Amg hs hp hk (dl i) (dl j);rwa [AVs hi hj,AVs hi hi,AVs hj hj] at this
theorem AW0 {n k:Nat} {A:Z4} (hs:AKf n A) (hp:ALz n A) (hk:k<=n) {i:Nat} (hi:i < n):0<=Mn k A i i:=by
 have:=APv hs hp (dl i) (n - k) k Zj;rwa [AVs hi hi] at this
theorem Ab2 {n k:Nat} {A:Z4} (hs:AKf n A) (hp:ALz n A) (hk:k < n) {i:Nat} (hi:i < n):det (k + 1) A * Mn k A i i=Mn k A i k * Mn k A i k + det k A * Mn (k + 1) A i i:=by
 have h:=AT6 (k:=k) (A:=A) (by have:=hp k Zj;omega) i i;rw [AI5,<- Afx hs Zj hi hk] at h;omega
theorem Amh {n:Nat} {A:Z4} (hs:AKf n A) (hp:ALz n A) {i:Nat} (hi:i < n):∀ k,k<=n->Mn k A i i<=det k A * A i i:=by
 intro k
 induction k with
 | zero=>intro _;rw [AM1];simp [det]
 | succ k ih=>
   intro hk
   have h1:=ih Zj
   have h2:=Ab2 hs hp (show k < n by omega) hi
   have h3:0<=Mn k A i k * Mn k A i k:=by
     rcases Int.le_total 0 (Mn k A i k) with h | h
     · exact Int.mul_nonneg h h
     · exact Int.mul_nonneg_of_nonpos_of_nonpos h h
   have h4:=hp k Zj
   have h5:=hp (k + 1) Zj
   have h6:det (k + 1) A * Mn k A i i<=det (k + 1) A * (det k A * A i i):=Int.mul_le_mul_of_nonneg_left h1 Zj
   have h7:det k A * Mn (k + 1) A i i<=det k A * (det (k + 1) A * A i i):=by
     have e:det (k + 1) A * (det k A * A i i)=det k A * (det (k + 1) A * A i i):=by grind
     omega
   exact Int.le_of_mul_le_mul_left h7 h4
theorem Ami {n:Nat} {A:Z4} (hs:AKf n A) (hp:ALz n A) {B:Int} (hB:1<=B) (hA:∀ i,i < n->A i i<=B):∀ k,k<=n->det k A<=B ^ k:=by
  intro k;induction k with
  | zero=>intro _;simp [det]
  | succ k ih=>
    intro hk;have h1:=ih Zj;have h2:=Amh hs hp (show k < n by omega) k Zj;rw [AI5] at h2;have h3:=hp k Zj;have h4:det k A * A k k<=det k A * B:=Int.mul_le_mul_of_nonneg_left (hA k Zj) Zj;have h5:det k A * B<=B ^ k * B:=Int.mul_le_mul_of_nonneg_right h1 Zj;rw [Int.pow_succ];omega
theorem Apf {n:Nat} {A:Z4} (hs:AKf n A) (hp:ALz n A) (x:Nat->Int) {k:Nat} (hk:k < n):x k * x k<=AZe n A k k * bil n 0 A x x:=by
  have hd:=hp n (Nat.le_refl _)
  have hB:∀ y z:Nat->Int,bil n 0 A y z=psum (fun i=>y i * psum (fun j=>A i j * z j) n) n:=fun y z=>by
    unfold bil;refine AA2 fun i _=>?_;rw [<- AE3];exact AA2 fun j _=>by rw [AM1];grind
  have h1:∀ y:Nat->Int,bil n 0 A y (fun j=>AZe n A j k)=det n A * y k:=fun y=>by
    rw [hB,AA2 (g:=fun i=>y i * (det n A * dl i k)) (fun i hi=>by rw [Ajb hi hk])];rw [ANv hk (fun i _ hne=>by unfold dl;rw [if_neg hne];simp)];simp [dl,Int.mul_comm]
  have h2:=Amg hs hp (Nat.zero_le n) x (fun j=>AZe n A j k);rw [h1 x,h1 (fun j=>AZe n A j k)] at h2;have e1:det n A * x k * (det n A * x k)=det n A * (det n A * (x k * x k)):=by grind
  have e2:bil n 0 A x x * (det n A * AZe n A k k)=det n A * (AZe n A k k * bil n 0 A x x):=by grind
  rw [e1,e2] at h2;have h3:=Int.le_of_mul_le_mul_left h2 hd
  have h4:0<=x k * x k:=by
    rcases Int.le_total 0 (x k) with h | h
    · exact Int.mul_nonneg h h
    · exact Int.mul_nonneg_of_nonpos_of_nonpos h h
  have h5:1 * (x k * x k)<=det n A * (x k * x k):=Int.mul_le_mul_of_nonneg_right Zj h4;omega
def AW1 (A:Z4) (i j:Nat) (c:Int):Z4:=ABz A i fun s=>A i s + c * A j s
def Amj (A:Z4) (i j:Nat) (c:Int):Z4:=trF (AW1 (trF A) i j c)
def AVt (A:Z4) (i j:Nat) (c:Int):Z4:=Amj (AW1 A i j c) i j c
def swA (A:Z4) (j:Nat):Z4:=fun r s=>A (tau j r) (tau j s)
theorem Aml (l:Nat) (A:Z4) (r s:Nat):Mn l (trF A) s r=Mn l A r s:=by
 unfold Mn;rw [<- AOi];rfl
theorem Ad6 {A:Z4} {i j k:Nat} {c:Int} (hij:j < i):det k (AW1 A i j c)=det k A:=by
 rcases Nat.lt_or_ge i k with h | h
 ·exact ALb h Zj Zj c
 ·refine ABx fun r s hr _=>?_;unfold AW1;rw [AA4,if_neg Zj]
theorem Amm {A:Z4} {i j k:Nat} {c:Int} (hij:j < i):det k (Amj A i j c)=det k A:=by
 unfold Amj;rw [AOi,Ad6 hij,AOi]
theorem ANx {A:Z4} {i j k:Nat} {c:Int} (hij:j < i):det k (AVt A i j c)=det k A:=by
 unfold AVt;rw [Amm hij,Ad6 hij]
theorem Ab3 {A:Z4} {i j l r s:Nat} {c:Int} (hij:j < i) (hr:l<=r):Mn l (AW1 A i j c) r s=Mn l A r s + if l<=i/\r=i then c * Mn l A j s else 0:=by
 rcases Nat.lt_or_ge i l with h | h
 ·rw [if_neg Zj,Int.add_zero];unfold Mn;have e:=ALb (n:=l + 1) (F:=fun a b=>A (bro l r a) (bro l s b)) (a:=i) (b:=j) Zj Zj Zj c;rw [<- e];refine ABx fun a b ha _=>?_;rw [AA4];unfold AW1;rw [AA4];have hbi:bro l r i=i:=by unfold bro;rw [if_pos h]
  have hbj:bro l r j=j:=by unfold bro;rw [if_pos Zj]
  by_cases ea:a=i
  ·subst ea;rw [hbi,if_pos rfl,if_pos rfl,hbj]
  ·rw [if_neg ea,if_neg];unfold bro;split <;> omega
 ·by_cases er:r=i
  ·subst er;rw [if_pos ⟨h,rfl⟩];unfold Mn;have e:=ASe (n:=l + 1) (F:=fun a b=>A (bro l r a) (bro l s b)) (r:=l) (fun b=>A r (bro l s b)) (fun b=>A j (bro l s b)) 1 c Zj
   have e1:det (l + 1) (fun a b=>AW1 A r j c (bro l r a) (bro l s b))=det (l + 1) (ABz (fun a b=>A (bro l r a) (bro l s b)) l fun q=>1 * A r (bro l s q) + c * A j (bro l s q)):=by
     refine ABx fun a b ha _=>?_
     rw [AA4]
     unfold AW1
     rw [AA4]
     by_cases ea:a=l
     · subst ea
       rw [show bro a r a=r by unfold bro;rw [if_neg Zj],if_pos rfl,if_pos rfl,Int.one_mul]
     · rw [if_neg ea,if_neg]
       unfold bro;rw [if_pos Zj];omega
   have e2:det (l + 1) (ABz (fun a b=>A (bro l r a) (bro l s b)) l fun b=>A r (bro l s b))=det (l + 1) (fun a b=>A (bro l r a) (bro l s b)):=by
     refine ABx fun a b ha _=>?_
     rw [AA4]
     by_cases ea:a=l
     · subst ea;rw [if_pos rfl,show bro a r a=r by unfold bro;rw [if_neg Zj]]
     · rw [if_neg ea]
   have e3:det (l + 1) (ABz (fun a b=>A (bro l r a) (bro l s b)) l fun b=>A j (bro l s b))=det (l + 1) (fun a b=>A (bro l j a) (bro l s b)):=by
     refine ABx fun a b ha _=>?_
     rw [AA4]
     by_cases ea:a=l
     · subst ea;rw [if_pos rfl,show bro a j a=j by unfold bro;rw [if_neg Zj]]
     · rw [if_neg ea,show bro l r a=a by unfold bro;rw [if_pos Zj],show bro l j a=a by unfold bro;rw [if_pos Zj]]
   rw [e1,e,e2,e3,Int.one_mul]
  ·rw [if_neg (fun h=>er h.2),Int.add_zero];unfold Mn;refine ABx fun a b ha _=>?_;unfold AW1;rw [AA4,if_neg];unfold bro;split <;> omega
theorem Apg {A:Z4} {i j l r s:Nat} {c:Int} (hij:j < i) (hs:l<=s):Mn l (Amj A i j c) r s=Mn l A r s + if l<=i/\s=i then c * Mn l A r j else 0:=by
 unfold Amj;rw [Aml,Ab3 hij hs,Aml,Aml]
theorem Amn {A:Z4} {i j l r s:Nat} {c:Int} (hij:j < i) (hr:l<=r) (hs:l<=s):Mn l (AVt A i j c) r s=Mn l A r s + (if l<=i/\r=i then c * Mn l A j s else 0) + if l<=i/\s=i then c * (Mn l A r j + if l<=i/\r=i then c * Mn l A j j else 0) else 0:=by
  unfold AVt;rw [Apg hij hs,Ab3 hij hr,Ab3 hij hr]
theorem AX1 (A:Z4) (i j:Nat) (c:Int) (r s:Nat):AVt A i j c r s=if s=i then (if r=i then A i i + c * A j i else A r i) + c * (if r=i then A i j + c * A j j else A r j) else if r=i then A i s + c * A j s else A r s:=by
 show ABz (trF (AW1 A i j c)) i (fun q=>trF (AW1 A i j c) i q + c * trF (AW1 A i j c) j q) s r=_;rw [AA4];unfold trF AW1;by_cases h:s=i
 ·rw [if_pos h,if_pos h,AA4,AA4]
 ·rw [if_neg h,if_neg h,AA4]
theorem Aph {n:Nat} {A:Z4} {i j:Nat} {c:Int} (hi:i < n) (hj:j < n) (h:AKf n A):AKf n (AVt A i j c):=by
 intro r s hr hs;rw [AX1,AX1];by_cases h1:r=i
 ·by_cases h2:s=i
  ·rw [h1,h2]
  ·rw [if_neg h2,if_pos h1,if_pos h1,if_neg h2,if_neg h2,h i s hi hs,h j s hj hs]
 ·by_cases h2:s=i
  ·rw [if_pos h2,if_neg h1,if_neg h1,if_neg h1,if_pos h2,h r i hr hi,h r j hr hj]
  ·rw [if_neg h2,if_neg h1,if_neg h1,if_neg h2,h r s hr hs]
theorem Ahe {A:Z4} {j k:Nat} (hk:k≠j + 1):det k (swA A j)=det k A:=by
 rcases Nat.lt_or_ge (j + 1) k with h | h
 ·have e1:det k (swA A j)= -det k (fun r s=>A (tau j r) s):=Ad4 (F:=fun r s=>A (tau j r) s) h
  have e2:det k (fun r s=>A (tau j r) s)= -det k A:=by
    rw [<- AOi (fun r s=>A (tau j r) s),<- AOi A]
    exact Ad4 (F:=trF A) h
  rw [e1,e2];omega
 ·refine ABx fun r s hr hs=>?_;unfold swA tau;rw [if_neg Zj,if_neg Zj,if_neg Zj,if_neg Zj]
theorem Ad7 {A:Z4} {j:Nat}:det (j + 1) (swA A j)=Mn j A (j + 1) (j + 1):=by
 unfold Mn;refine ABx fun r s hr hs=>?_
 have e:∀ r,r < j + 1->tau j r=bro j (j + 1) r:=fun r hr=>by
   unfold tau bro
   by_cases h:r < j
   · rw [if_neg Zj,if_neg Zj,if_pos h]
   · rw [if_pos Zj,if_neg h]
 unfold swA;rw [e r hr,e s hs]
theorem Ar6 {n j:Nat} {A:Z4} (hj:j + 1 < n) (h:AKf n A):AKf n (swA A j):=fun r s hr hs=>by
  have e:∀ r,r < n->tau j r < n:=fun r hr=>by unfold tau;split <;> (try split) <;> omega
  exact h _ _ (e r hr) (e s hs)
theorem sq_nonneg (x:Int):0<=x * x:=by
 rcases Int.le_total 0 x with h | h
 ·exact Int.mul_nonneg h h
 ·exact Int.mul_nonneg_of_nonpos_of_nonpos h h
theorem Ad8 {x y:Int} (hy:0<=y) (h:x * x<=y * y): -y<=x/\x<=y:=by
 constructor
 ·rcases Int.lt_or_le x (-y) with h1 | h1
  ·have h2:0 < (-x - y) * (-x + y):=Int.mul_pos Zj Zj;have e:(-x - y) * (-x + y)=x * x - y * y:=by grind
   omega
  ·exact h1
 ·rcases Int.lt_or_le y x with h1 | h1
  ·have h2:0 < (x - y) * (x + y):=Int.mul_pos Zj Zj;have e:(x - y) * (x + y)=x * x - y * y:=by grind
   omega
  ·exact h1
theorem ATq {x y:Int} (h1: -y<=x) (h2:x<=y):x * x<=y * y:=by
 have h3:0<=(y - x) * (y + x):=Int.mul_nonneg Zj Zj;have e:(y - x) * (y + x)=y * y - x * x:=by grind
 omega
def SzF (A:Z4) (i j:Nat):Prop:= -(det (j + 1) A)<=2 * Mn j A i j/\2 * Mn j A i j<=det (j + 1) A
def LvF (A:Z4) (j:Nat):Prop:=3 * (det (j + 1) A * det (j + 1) A)<=4 * (det j A * det (j + 2) A + Mn j A (j + 1) j * Mn j A (j + 1) j)
def Afz (A:Z4) (i:Nat) (K:Int):Prop:= ∀ l,l < i-> -(K * det (l + 1) A)<=Mn l A i l/\Mn l A i l<=K * det (l + 1) A
theorem Aar {n i:Nat} {A:Z4} {Dm p q:Int} (hs:AKf n A) (hp:ALz n A) (hi:i < n) (hD:∀ k,k<=n->det k A<=Dm) (p0:0<=p) (q0:0<=q) (hl:∀ l,l < i->q * (Mn l A i l * Mn l A i l)<=p * (det (l + 1) A * det (l + 1) A)):∀ d l:Nat,l + d=i->q * Mn l A i i<=(q + d * p) * (Dm * det l A):=by
  have hD0:1<=Dm:=by
    have:=hD 0 Zj;simpa [det] using this
  have hDl:∀ l k,l<=n->k<=n->det k A<=Dm * det l A:=fun l k h1 h2=>by
    have:=hp l h1;have h3:=hD k h2;have h4:Dm * 1<=Dm * det l A:=Int.mul_le_mul_of_nonneg_left Zj Zj;omega
  intro d;induction d with
  | zero=>
    intro l h;obtain rfl:l=i:=by omega
    rw [AI5];have h1:=Int.mul_le_mul_of_nonneg_left (hDl l (l + 1) Zj Zj) q0;simpa using h1
  | succ d ih=>
    intro l h;have h1:=ih (l + 1) Zj;have h2:=Ab2 hs hp (show l < n by omega) hi;have h3:=hl l Zj;have h4:=hp l Zj;have h5:=hp (l + 1) Zj;have h6:=Int.mul_le_mul_of_nonneg_left h1 (Int.le_of_lt h4)
    have h7:det (l + 1) A * (q * Mn l A i i)=q * (Mn l A i l * Mn l A i l) + det l A * (q * Mn (l + 1) A i i):=by
      have e1:det (l + 1) A * (q * Mn l A i i)=q * (det (l + 1) A * Mn l A i i):=by grind
      rw [e1,h2];grind
    have h8:=Int.mul_le_mul_of_nonneg_left (hDl l (l + 1) Zj Zj) p0;have h9:=Int.mul_le_mul_of_nonneg_left h8 (Int.le_of_lt h5);have e2:det (l + 1) A * (p * det (l + 1) A)=p * (det (l + 1) A * det (l + 1) A):=by grind
    have h10:det (l + 1) A * (q * Mn l A i i)<=det (l + 1) A * ((q + ((d + 1:Nat):Int) * p) * (Dm * det l A)):=by
      have e3:det (l + 1) A * ((q + ((d + 1:Nat):Int) * p) * (Dm * det l A))=det (l + 1) A * (p * (Dm * det l A)) + det l A * ((q + (d:Int) * p) * (Dm * det (l + 1) A)):=by
        rw [Int.natCast_add,Int.natCast_one];grind
      rw [e3];omega
    exact Int.le_of_mul_le_mul_left h10 h5
theorem Aea {n i:Nat} {A:Z4} {Dm:Int} (hn:n<=8) (hs:AKf n A) (hp:ALz n A) (hi:i < n) (hD:∀ k,k<=n->det k A<=Dm) (hz:∀ l,l < i->SzF A i l):A i i<=3 * Dm:=by
 have h:=Aar hs hp hi hD (p:=1) (q:=4) Zj Zj (fun l hl=>by
   have:=ATq (hz l hl).1 (hz l hl).2
   have e:2 * Mn l A i l * (2 * Mn l A i l)=4 * (Mn l A i l * Mn l A i l):=by grind
   omega) i 0 Zj
 rw [AM1] at h
 have Aa:1<=Dm:=by
   have:=hD 0 Zj;simpa [det] using this
 have h2:(4 + (i:Int) * 1) * (Dm * det 0 A)<=12 * Dm:=by
   have:(4 + (i:Int) * 1) * Dm<=12 * Dm:=Int.mul_le_mul_of_nonneg_right Zj Zj
   simpa [det] using this
 omega
theorem Ajd {n i:Nat} {A:Z4} {Dm:Int} (hs:AKf n A) (hp:ALz n A) (hi:i < n) (hD:∀ k,k<=n->det k A<=Dm) (hA:A i i<=3 * Dm):Afz A i (2 * Dm):=by
 intro l hl
 have Ad:1<=Dm:=by
   have:=hD 0 Zj;simpa [det] using this
 have h1:=AWz hs hp (show l<=n by omega) hi (show l < n by omega);rw [AI5] at h1;have h2:=Amh hs hp hi l Zj;have h3:=hp l Zj;have h4:=hp (l + 1) Zj
 have h5:det l A * A i i<=Dm * (3 * Dm):=by
   have a1:=Int.mul_le_mul_of_nonneg_left hA (Int.le_of_lt h3)
   have a2:=Int.mul_le_mul_of_nonneg_right (hD l Zj) (show (0:Int)<=3 * Dm by omega)
   omega
 have h6:Mn l A i i * det (l + 1) A<=Dm * (3 * Dm) * det (l + 1) A:=Int.mul_le_mul_of_nonneg_right Zj Zj;have h7:Dm * (3 * Dm) * (det (l + 1) A * 1)<=Dm * (3 * Dm) * (det (l + 1) A * det (l + 1) A):=Int.mul_le_mul_of_nonneg_left (Int.mul_le_mul_of_nonneg_left Zj Zj) (Int.mul_nonneg Zj Zj);have h8:0<=Dm * Dm * (det (l + 1) A * det (l + 1) A):=Int.mul_nonneg (sq_nonneg _) (sq_nonneg _);have h9:2 * Dm * det (l + 1) A * (2 * Dm * det (l + 1) A)=Dm * (3 * Dm) * (det (l + 1) A * det (l + 1) A) + Dm * Dm * (det (l + 1) A * det (l + 1) A):=by grind
 rw [Int.mul_one] at h7;exact Ad8 (Int.mul_nonneg Zj Zj) Zj
theorem Aeb {A:Z4} {i:Nat} {K K':Int} (hp:∀ l,l<=i->0 < det l A) (hK:K<=K') (h:Afz A i K):Afz A i K':=fun l hl=>by
  have h1:=h l hl
  have h2:=hp (l + 1) Zj
  have h3:=Int.mul_le_mul_of_nonneg_right hK (Int.le_of_lt h2)
  omega
theorem Aec {a d:Int} (hd:0 < d): -d<=2 * (a + -((2 * a + d) / (2 * d)) * d)/\2 * (a + -((2 * a + d) / (2 * d)) * d)<=d:=by
  have h1:=Int.mul_ediv_add_emod (2 * a + d) (2 * d);have h2:=Int.emod_nonneg (2 * a + d) (show 2 * d≠0 by omega);have h3:=Int.emod_lt_of_pos (2 * a + d) (show 0 < 2 * d by omega);generalize (2 * a + d) / (2 * d)=q at *
  generalize (2 * a + d) % (2 * d)=r at *
  have e:2 * (a + -q * d)=2 * a - 2 * d * q:=by grind
  omega
theorem Api {a d K:Int} (hd:0 < d) (h1: -(K * d)<=a) (h2:a<=K * d): -K<= -((2 * a + d) / (2 * d))/\ -((2 * a + d) / (2 * d))<=K:=by
 have h:=Aec (a:=a) hd;generalize -((2 * a + d) / (2 * d))=c at *;constructor
 ·rcases Int.lt_or_le c (-K) with h3 | h3
  ·have h4:(c + K + 1) * d<=0:=by
     have:=Int.mul_nonneg (show 0<= -(c + K + 1) by omega) (Int.le_of_lt hd)
     have e: -(c + K + 1) * d= -((c + K + 1) * d):=by grind
     omega
   have e:(c + K + 1) * d=c * d + K * d + d:=by grind
   omega
  ·exact h3
 ·rcases Int.lt_or_le K c with h3 | h3
  ·have h4:=Int.mul_nonneg (show 0<=c - K - 1 by omega) (Int.le_of_lt hd);have e:(c - K - 1) * d=c * d - K * d - d:=by grind
   omega
  ·exact h3
theorem Ahf {A:Z4} {i j l:Nat} {c:Int} (hij:j < i) (hl:l < i):Mn l (AVt A i j c) i l=Mn l A i l + c * Mn l A j l:=by
 rw [Amn hij Zj (Nat.le_refl _),if_pos ⟨Zj,rfl⟩,if_neg (fun h:l<=i/\l=i=>by omega)];omega
theorem Aas {A:Z4} {i j l r:Nat} {c:Int} (hij:j < i) (hr:r < i) (hl:l<=r):Mn l (AVt A i j c) r l=Mn l A r l:=by
 rw [Amn hij hl (Nat.le_refl _),if_neg (fun h:l<=i/\r=i=>by omega),if_neg (fun h:l<=i/\l=i=>by omega)];omega
theorem Amo {A:Z4} {i j:Nat} {K c:Int} (hij:j < i) (hp:∀ l,l<=i->0 < det l A) (hK:0<=K) (h:Afz A i K) (hz:∀ l,l < j->SzF A j l) (Ab: -K<=c) (Ac:c<=K):Afz (AVt A i j c) i (2 * K):=by
 intro l hl;rw [ANx hij,Ahf hij hl];have h1:=h l hl;have h2:=hp (l + 1) Zj
 have hm: -(det (l + 1) A)<=Mn l A j l/\Mn l A j l<=det (l + 1) A:=by
   rcases Nat.lt_trichotomy l j with h3 | h3 | h3
   · have:=hz l h3;unfold SzF at this;omega
   · subst h3;rw [AI5];omega
   · rw [Afy A l h3];omega
 have h3: -(K * det (l + 1) A)<=c * Mn l A j l/\c * Mn l A j l<=K * det (l + 1) A:=by
   refine Ad8 (Int.mul_nonneg hK (Int.le_of_lt h2)) ?_
   have a1:=ATq Ab Ac
   have a2:=ATq hm.1 hm.2
   have a3:c * c * (Mn l A j l * Mn l A j l)<=K * K * (det (l + 1) A * det (l + 1) A):=Int.mul_le_mul a1 a2 (sq_nonneg _) (sq_nonneg _)
   have e1:c * Mn l A j l * (c * Mn l A j l)=c * c * (Mn l A j l * Mn l A j l):=by grind
   have e2:K * det (l + 1) A * (K * det (l + 1) A)=K * K * (det (l + 1) A * det (l + 1) A):=by grind
   omega
 have e:2 * K * det (l + 1) A=K * det (l + 1) A + K * det (l + 1) A:=by grind
 omega
theorem Amp {A:Z4} {i j k:Nat} {c:Int} (hk:k≠i):AVt A i j c k k=A k k:=by
 rw [AX1,if_neg hk,if_neg hk]
structure Ab4 (n:Nat) (Dm:Int) (A:Z4) (i t:Nat):Prop where
  sym:AKf n A
  pos:ALz n A
  dm:∀ k,k<=n->det k A<=Dm
  hi:i < n
  ht:t<=i
  rows:∀ k,k < n->k≠i->A k k<=3 * Dm
  row:t=0->A i i<=3 * Dm
  lamb:Afz A i (2 ^ t * (2 * Dm))
  pre:∀ r l,l < r->r < i->SzF A r l
  prei:∀ l,l < i->i<=l + t->SzF A i l
  lov:∀ r,r + 1 < i->LvF A r
theorem AZf {n:Nat} {Dm:Int} {A:Z4} (hn:0 < n) (hs:AKf n A) (hp:ALz n A) (hD:∀ k,k<=n->det k A<=Dm) (hr:∀ k,k < n->A k k<=3 * Dm):Ab4 n Dm A 0 0:=
  ⟨hs,hp,hD,hn,Nat.le_refl _,fun k hk _=>hr k hk,fun _=>hr 0 hn,fun l hl=>by omega,fun r l h1 h2=>by omega,fun l hl=>by omega,fun r hr=>by omega⟩
theorem Amq {n i t:Nat} {Dm:Int} {A:Z4} (h:Ab4 n Dm A i t):1<=Dm:=by
 have:=h.dm 0 Zj;simpa [det] using this
theorem AT9 {n i t:Nat} {Dm:Int} {A:Z4} (hn:n<=8) (h:Ab4 n Dm A i t) (hz:∀ l,l < i->SzF A i l):∀ k,k < n->A k k<=3 * Dm:=fun k hk=>by
  by_cases e:k=i
  · subst e;exact Aea hn h.sym h.pos h.hi h.dm hz
  · exact h.rows k hk e
theorem AVu (t:Nat):(0:Int) < 2 ^ t:=Int.pow_pos Zj
theorem AVv {s t:Nat} (h:s<=t):(2:Int) ^ s<=2 ^ t:=by
 have:=Nat.pow_le_pow_right (show 0 < 2 by omega) h;have e:∀ k:Nat,(2:Int) ^ k=((2 ^ k:Nat):Int):=fun k=>by simp
 rw [e,e];omega
theorem Aje {n i t i' j:Nat} {Dm:Int} {A:Z4} (hn:n<=8) (h:Ab4 n Dm A i t) (hi':i' < n) (hj:j < i') (hbad: ¬ SzF A i' j)
    (hz:∀ r l,l < r->r < i'->SzF A r l) (hzi:∀ l,l < i'->j < l->SzF A i' l) (hl:∀ r,r + 1 < i'->LvF A r):
    Ab4 n Dm (AVt A i' j (-((2 * Mn j A i' j + det (j + 1) A) / (2 * det (j + 1) A)))) i' (i' - j)/\i * 16 + t < i' * 16 + (i' - j):=by
  have hD1:=Amq h
  have hlt:i < i'∨i=i'/\t < i' - j:=by
    rcases Nat.lt_trichotomy i i' with h1 | h1 | h1
    · exact .inl h1
    · refine .inr ⟨h1,?_⟩
      rcases Nat.lt_or_ge t (i' - j) with h2 | h2
      · exact h2
      · subst h1;exact absurd (h.prei j hj Zj) hbad
    · exact absurd (h.pre i' j hj h1) hbad
  have hrows:∀ k,k < n->k≠i'->A k k<=3 * Dm:=fun k hk hne=>by
    rcases hlt with h1 | h1
    · exact AT9 hn h (fun l hl=>hz i l hl h1) k hk
    · exact h.rows k hk Zj
  have hK0:0<=2 ^ (i' - j - 1) * (2 * Dm):=Int.mul_nonneg (Int.le_of_lt (AVu _)) Zj;have hp':∀ l,l<=i'->0 < det l A:=fun l hl=>h.pos l Zj
  have hlam:Afz A i' (2 ^ (i' - j - 1) * (2 * Dm)):=by
    rcases hlt with h1 | h1
    · refine Aeb hp' ?_ (Ajd h.sym h.pos hi' h.dm (AT9 hn h (fun l hl=>hz i l hl h1) i' hi'));have:=Int.mul_le_mul_of_nonneg_right (AVv (Nat.zero_le (i' - j - 1))) (show (0:Int)<=2 * Dm by omega);simpa using this
    · obtain ⟨rfl,h1⟩:=h1;exact Aeb hp' (Int.mul_le_mul_of_nonneg_right (AVv Zj) Zj) h.lamb
  have hd:=hp' (j + 1) Zj;obtain ⟨c1,c2⟩:=Api hd (hlam j hj).1 (hlam j hj).2;have hrem:=Aec (a:=Mn j A i' j) hd;generalize hc: -((2 * Mn j A i' j + det (j + 1) A) / (2 * det (j + 1) A))=c at *
  refine ⟨⟨Aph hi' Zj h.sym,fun k hk=>by rw [ANx hj];exact h.pos k hk,fun k hk=>by rw [ANx hj];exact h.dm k hk,hi',Zj,fun k hk hne=>by rw [Amp hne];exact hrows k hk hne,fun h0=>by omega,?_,fun r l h1 h2=>?_,fun l h1 h2=>?_,fun r hr=>?_⟩,by have:=h.ht;have:=h.hi;omega⟩
  · have:=Amo hj hp' hK0 hlam (fun l hl=>hz j l hl hj) c1 c2
    have e:2 * (2 ^ (i' - j - 1) * (2 * Dm))=2 ^ (i' - j) * (2 * Dm):=by
      rw [show i' - j=i' - j - 1 + 1 by omega,Int.pow_succ];simp only [Nat.add_sub_cancel];grind
    rwa [e] at this
  · unfold SzF;rw [ANx hj,Aas hj h2 Zj];exact hz r l h1 h2
  · unfold SzF;rw [ANx hj,Ahf hj h1]
    rcases Nat.lt_or_ge j l with h3 | h3
    · rw [Afy A l h3,Int.mul_zero,Int.add_zero];exact hzi l h1 h3
    · obtain rfl:l=j:=by omega
      rw [AI5];exact hrem
  · unfold LvF;rw [ANx hj,ANx hj,ANx hj,Aas hj Zj Zj];exact hl r hr
def Aed (n:Nat) (A:Z4):Int:=psum (fun k=>det k A) (n + 1)
theorem Apj {f g:Nat->Int} {n k:Nat} (hk:k < n) (hne:∀ l,l≠k->f l=g l) (h:f k < g k):psum f n < psum g n:=by
 induction n with
 | zero=>omega
 | succ n ih=>
   simp only [psum]
   rcases Nat.lt_or_ge k n with h1 | h1
   · have:=ih h1;rw [hne n Zj];omega
   · obtain rfl:k=n:=by omega
     rw [AA2 (g:=g) fun i hi=>hne i Zj];omega
theorem Ajf {n i t j:Nat} {Dm:Int} {A:Z4} (hn:n<=8) (h:Ab4 n Dm A i t) (hj:j + 1 < n) (hbad: ¬ LvF A j)
    (hz:∀ r l,l < r->r<=j + 1->SzF A r l) (hl:∀ r,r < j->LvF A r):
    Ab4 n Dm (swA A j) 0 0/\Aed n (swA A j) < Aed n A:=by
  have hij:i<=j + 1:=by
    rcases Nat.lt_or_ge (j + 1) i with h1 | h1
    · exact absurd (h.lov j h1) hbad
    · exact h1
  have hrest:=AT9 hn h (fun l hl=>hz i l hl hij);have h1:=Ab2 h.sym h.pos (show j < n by omega) hj;have p0:=h.pos j Zj;have p1:=h.pos (j + 1) Zj;have p2:=h.pos (j + 2) Zj;rw [show Mn (j + 1) A (j + 1) (j + 1)=det (j + 2) A from AI5 _ _] at h1
  have hlt:Mn j A (j + 1) (j + 1) < det (j + 1) A:=by
    unfold LvF at hbad
    have h2:det (j + 1) A * (4 * Mn j A (j + 1) (j + 1)) < det (j + 1) A * (3 * det (j + 1) A):=by
      have e1:det (j + 1) A * (4 * Mn j A (j + 1) (j + 1))=4 * (det (j + 1) A * Mn j A (j + 1) (j + 1)):=by grind
      have e2:det (j + 1) A * (3 * det (j + 1) A)=3 * (det (j + 1) A * det (j + 1) A):=by grind
      omega
    have:=Int.lt_of_mul_lt_mul_left h2 (Int.le_of_lt p1);omega
  have hpos:0 < Mn j A (j + 1) (j + 1):=by
    have h3:=sq_nonneg (Mn j A (j + 1) j);have h4:=Int.mul_pos p0 p2;exact Int.pos_of_mul_pos_right (a:=det (j + 1) A) Zj p1
  have hdet:∀ k,det k (swA A j)=if k=j + 1 then Mn j A (j + 1) (j + 1) else det k A:=fun k=>by
    by_cases e:k=j + 1
    · subst e;rw [if_pos rfl,Ad7]
    · rw [if_neg e,Ahe e]
  refine ⟨AZf Zj (Ar6 hj h.sym) (fun k hk=>?_) (fun k hk=>?_) (fun k hk=>?_),?_⟩
  · rw [hdet];split
    · exact hpos
    · exact h.pos k hk
  · rw [hdet];split
    · have:=h.dm (j + 1) Zj;omega
    · exact h.dm k hk
  · have e:tau j k < n:=by unfold tau;split <;> (try split) <;> omega
    exact hrest _ e
  · exact Apj (k:=j + 1) Zj (fun l hl=>by rw [hdet,if_neg hl]) (by rw [hdet,if_pos rfl];exact hlt)
end Go.QF
namespace Go.Proofs.YtdkldlbgcfpglaaGreatDoor
open Go Go.QF
theorem Ab5 (k m:Nat):ACl k (fun a=>((a:Nat):Int)) ++ [((m:Nat):Int)]=ACl (k + 1) fun a=>((bro k m a:Nat):Int):=by
 rw [<- ANq,ABi (g:=fun a=>((bro k m a:Nat):Int)) fun a ha=>by unfold bro;rw [if_pos ha]];unfold bro;rw [if_neg Zj]
theorem Ahg {fuel k m:Nat} (hk:k<=100) (hf:100 < fuel):AEf fuel (k:Int) (m:Int)=some (ACl (k + 1) fun a=>((bro k m a:Nat):Int)):=by
 apply ok_eq;unfold AEf;refine Zu (ABd (fun i s=>s=(ACl i (fun a=>((a:Nat):Int)),((i:Nat):Int))/\i<=k) k (Q:=(· =ACl k fun a=>((a:Nat):Int))) ⟨rfl,Nat.zero_le _⟩ Zj fun i s hi hI=>?_) fun e he=>?_
 ·obtain ⟨rfl,hik⟩:=hI;unfold AIy;dsimp only;refine AAw (fun h=>ABs (by rw [ABm];omega) (Zq ⟨Zj,?_,Zj⟩)) (fun h=>Zq ?_)
  ·rw [wk Zj,ANq i fun a=>((a:Nat):Int)];simp
  ·obtain rfl:i=k:=by omega
   rfl
 ·subst he;refine ABs (by rw [ABm];omega) (Zq ?_);exact Ab5 k m
theorem AZg {fuel n i j:Nat} {F:Z4} (hn:n<=8) (hi:i < n) (hj:j < n) (hb:∀ i j,i < n->j < n->(F i j).natAbs<=AF3) (hf:100 < fuel):AC6 fuel (tab n n F) (i:Int) (j:Int)=some (Mn j F i j):=by
 apply ok_eq;unfold AC6;refine Zu (ABd (fun q s=>s=(ACl q (fun a=>((a:Nat):Int)),ACl q (fun a=>((a:Nat):Int)),((q:Nat):Int))/\q<=j) j (Q:=(· =(ACl j (fun a=>((a:Nat):Int)),ACl j fun a=>((a:Nat):Int)))) ⟨rfl,Nat.zero_le _⟩ Zj fun q s hq hI=>?_) fun e he=>?_
 ·obtain ⟨rfl,hqj⟩:=hI;unfold AIe;dsimp only;refine AAw (fun h=>ABs (by rw [ABm];omega) (ABs (by rw [ABm];omega) (Zq ⟨Zj,?_,Zj⟩))) (fun h=>Zq ?_)
  ·rw [wk Zj,ANq q fun a=>((a:Nat):Int)];simp
  ·obtain rfl:q=j:=by omega
   rfl
 ·subst he;dsimp only;refine ABs (by rw [ABm];omega) (ABs (by rw [ABm];omega) ?_);rw [Ab5,Ab5];refine Zu (ABh (Ad5 (n:=n) Zj Zj hf (fun a ha=>AM5 Zj hi) (fun a ha=>AM5 Zj hj))) fun x hx=>?_;subst hx;refine Zu (ABh (AVn Zj (fun a b ha Aa=>hb _ _ (AM5 Zj hi) (AM5 Zj hj)) Zj)) fun y hy=>Zq hy
theorem AUa {fuel n k:Nat} {F:Z4} (hk:k<=n) (hn:n<=8):AB6 fuel (ACl n fun a=>det (a + 1) F) (k:Int)=some (det k F):=by
 apply ok_eq;unfold AB6;refine AAw (fun h=>?_) (fun h=>?_)
 ·obtain rfl:k=0:=by omega
  exact ⟨1,rfl,by simp [det]⟩
 ·obtain ⟨q,rfl⟩:∃ q,k=q + 1:=⟨k - 1,Zj⟩;refine AAv (n:=q) (AA0 Zj) (by rw [wk Zj];omega) (Zq rfl)
theorem Aat {fuel n:Nat} {F:Z4} (Aa:1<=n) (hn:n<=8) (hb:∀ i j,i < n->j < n->(F i j).natAbs<=AF3) (hf:100 < fuel):ADq fuel (tab n n F)=some (ACl n fun a=>det (a + 1) F,true):=by
 apply ok_eq;unfold ADq;refine Zu (ABh (Aaq Aa Zj hf)) fun x hx=>?_;subst hx;dsimp only;refine AAw (fun h=>absurd h Zl) (fun _=>Zu (ABd (fun k s=>s=(ACl k (fun a=>det (a + 1) F),((k:Nat):Int))/\k<=n) n (Q:=(· =ACl n fun a=>det (a + 1) F)) ⟨rfl,Nat.zero_le _⟩ Zj fun k s hk hI=>?_) fun e he=>Zq (by rw [he]));obtain ⟨rfl,hkn⟩:=hI;unfold AHp;dsimp only;refine AAw (fun h=>?_) (fun h=>Zq ?_)
 ·have hk':k < n:=by omega
  refine Zu (ABh (Ahg Zj hf)) fun r hr=>?_;subst hr;refine Zu (ABh (Ahg Zj hf)) fun c hc=>?_;subst hc;refine Zu (ABh (Ad5 (n:=n) Zj Zj hf (fun a ha=>AM5 Zj hk') (fun a ha=>AM5 Zj hk'))) fun x hx=>?_;subst hx;refine Zu (ABh (AVn Zj (fun a b ha Ab=>hb _ _ (AM5 Zj hk') (AM5 Zj hk')) Zj)) fun y hy=>?_;subst hy;refine ABs (by rw [ABm];omega) (Zq ⟨Zj,?_,Zj⟩);rw [show (det (k + 1) fun a b=>F (bro k k a) (bro k k b))=det (k + 1) F from AI5 k F,wk Zj,ANq k fun a=>det (a + 1) F];simp
 ·obtain rfl:k=n:=by omega
  rfl
theorem Ab6 (a b:Int):ARe a b<=0↔a<=b:=by unfold ARe;split <;> (try split) <;> omega
theorem AZh {n j i l:Nat} {F:Z4} (hn:n<=8) (hi:i < n) (hl:l < n) (hj:j < n) (hb:∀ i j,i < n->j < n->(F i j).natAbs<=AF3):(Mn j F i l).natAbs<=dBd AF3 9:=by
 have e:Mn j F i l=Mn j (fun a b=>if a < n/\b < n then F a b else 0) i l:=by
   unfold Mn
   refine ABx fun a b ha Aa=>?_
   dsimp only
   rw [if_pos ⟨AM5 Zj hi,AM5 Zj hl⟩]
 rw [e];refine Nat.le_trans (Afr (m:=AF3) (fun a b=>?_) i l) (APt Zl Zj);split
 ·next h=>exact hb a b h.1 h.2
 ·exact Nat.zero_le _
theorem ATr {n k:Nat} {F:Z4} (hn:n<=8) (hk:k<=n) (hb:∀ i j,i < n->j < n->(F i j).natAbs<=AF3):(det k F).natAbs<=dBd AF3 9:=by
 rcases Nat.eq_zero_or_pos k with h | h
 ·subst h;simp only [det];decide
 ·obtain ⟨q,rfl⟩:∃ q,k=q + 1:=⟨k - 1,Zj⟩;rw [<- AI5 q F];exact AZh hn Zj Zj Zj hb
theorem Apk {fuel n i j:Nat} {F:Z4} (hn:n<=8) (hi:i < n) (hj:j < n) (hb:∀ i j,i < n->j < n->(F i j).natAbs<=AF3) (hf:100 < fuel):AFs fuel (tab n n F) (ACl n fun a=>det (a + 1) F) (i:Int) (j:Int)=some (decide (2 * ((Mn j F i j).natAbs:Int)<=det (j + 1) F)):=by
 apply ok_eq;unfold AFs;refine Zu (Q:=(· =2)) ⟨2,if_pos Zj,rfl⟩ fun two h2=>?_;subst h2;refine Zu (ABh (AZg hn hi hj hb hf)) fun x hx=>?_;subst hx;refine Zu (ABh (a:=((Mn j F i j).natAbs:Int)) rfl) fun y hy=>?_;subst hy;refine Zu (ABh (AWt Ag6 (show (2:Int).natAbs<=dBd AF3 (8 + 1) by decide) (by rw [Int.natAbs_natCast];exact AZh hn hi hj hj hb))) fun w hw=>?_;subst hw;rw [wk Zj];refine Zu (ABh (AUa (k:=j + 1) Zj hn)) fun m hm=>?_;subst hm;refine Zu (ABh (a:=ARe (2 * ((Mn j F i j).natAbs:Int)) (det (j + 1) F)) rfl) fun c hc=>Zq ?_;subst hc;exact decide_eq_decide.2 (Ab6 _ _)
theorem Ahh {F:Z4} {i j:Nat}:2 * ((Mn j F i j).natAbs:Int)<=det (j + 1) F↔SzF F i j:=by
 unfold SzF;omega
theorem psum_abs {f g:Nat->Int} {D:Nat}:∀ (n:Nat),(∀ a,a < n->(f a).natAbs<=D/\(g a).natAbs<=D)->(psum (fun a=>f a * g a) n).natAbs<=n * (D * D)
  | 0,_=>by simp [psum]
  | n + 1,h=>by
    have h1:=psum_abs n fun a ha=>h a Zj
    have h2:=Nat.mul_le_mul (h n Zj).1 (h n Zj).2
    rw [<- Int.natAbs_mul] at h2
    have e:(n + 1) * (D * D)=n * (D * D) + D * D:=by rw [Nat.add_mul,Nat.one_mul]
    simp only [psum]
    omega
theorem Atw {fuel n D:Nat} {f g:Nat->Int} (hn:n<=16) (hD:16 * (D * D) < ADz) (hb:∀ a,a < n->(f a).natAbs<=D/\(g a).natAbs<=D) (hf:100 < fuel):AGr fuel (ACl n f) (ACl n g)=some (psum (fun a=>f a * g a) n):=by
 apply ok_eq;unfold AGr;refine Zu (ABd (fun k s=>s=(((k:Nat):Int),psum (fun a=>f a * g a) k)/\k<=n) n (Q:=(· =psum (fun a=>f a * g a) n)) ⟨rfl,Nat.zero_le _⟩ Zj fun k s hk hI=>?_) fun e he=>Zq he;obtain ⟨rfl,hkn⟩:=hI;unfold AJ2;dsimp only;rw [ABm];refine AAw (fun h=>?_) (fun h=>Zq ?_)
 ·have hk':k < n:=by omega
  have h1:=psum_abs k fun a ha=>hb a Zj;have h2:=Nat.mul_le_mul (hb k hk').1 (hb k hk').2;have h3:k * (D * D)<=16 * (D * D):=Nat.mul_le_mul_right _ Zj;have h4:1 * (D * D)<=16 * (D * D):=Nat.mul_le_mul_right _ Zj;refine AAv (AA0 hk') rfl (AAv (AA0 hk') rfl (Zu (Q:=(· =f k * g k)) ⟨_,if_pos Zj,rfl⟩ fun x hx=>?_));subst hx;refine Zu (Q:=(· =psum (fun a=>f a * g a) k + f k * g k)) ⟨_,if_pos ⟨Zj,by rw [Int.natAbs_mul];omega⟩,rfl⟩ fun y hy=>Zq ⟨Zj,?_,Zj⟩;subst hy;rw [wk Zj];simp [psum]
 ·obtain rfl:k=n:=by omega
  rfl
theorem AZi {fuel n:Nat} {F:Z4} (hn:1<=n) (Ad:n<=16) (hf:100 < fuel):ACi fuel (tab n n F)=some ((n:Int),(n:Int),true):=by
 apply ok_eq;unfold ACi;rw [AA9];refine Zu (Q:=fun ex=>match ex with | .inl _=>False | .inr _=>True) (AAw (fun h=>by omega) fun h=>AAw (fun h2=>by omega) fun h2=>Zq trivial) fun ex hex=>?_
 cases ex with
 | inl e=>exact hex.elim
 | inr u=>
   dsimp only
   refine Zu (ABd (fun i (s:Int)=>s=i) n (Q:=fun ex=>match ex with | .inl _=>False | .inr _=>True) rfl Zj fun i s hi hI=>?_) fun ex hex=>?_
   · subst hI
     unfold AF6
     rw [AA9]
     refine AAw (fun h=>AAv (ABl Zj) rfl ?_) fun h=>Zq trivial
     rw [ABm]
     refine AAw (fun h2=>by omega) fun h2=>AAw (fun h3=>by omega) fun h3=>AAv (n:=0) (ABl Zj) rfl (AAw (fun h4=>?_) fun h4=>Zq ⟨Zj,wk Zj⟩)
     rw [ABm] at h4;omega
   · cases ex with
     | inl e=>exact hex.elim
     | inr u=>exact AAv (n:=0) (ABl Zj) rfl (Zq (by rw [ABm]))
theorem AM6 {r c:Nat} {F G:Z4} (h:∀ i j,i < r->j < c->F i j=G i j):tab r c F=tab r c G:=by
 rw [AN2,AN2];exact ABi fun i hi=>ABi fun j hj=>h i j hi hj
def trS (F:Z4) (i j r c:Nat):Int:=if c < i∨c=i/\r < j then F c r else 0
theorem Ahi {fuel n:Nat} {F:Z4} (hn:1<=n) (Ad:n<=16) (hf:100 < fuel):AC1 fuel (tab n n F)=some (tab n n (trF F),true):=by
 apply ok_eq;unfold AC1;refine Zu (ABh (AZi hn Ad hf)) fun x hx=>?_;subst hx;dsimp only;refine AAw (fun h=>absurd h Zl) fun _=>Zu (ABh (AXw Zj Zj Zj)) fun O hO=>?_;subst hO;refine Zu (ABd (fun i s=>s=(((i:Nat):Int),tab n n (trS F i 0))/\i<=n) n (Q:=(· =tab n n (trF F))) ⟨?_,Nat.zero_le _⟩ Zj fun i s hi hI=>?_) fun e he=>Zq (by rw [he])
 ·rw [AFu n (0:Int),AFu];refine congrArg (Prod.mk (0:Int)) ?_;rw [AN2];exact ABi fun r _=>ABi fun c _=>by unfold trS;rw [if_neg Zj]
 ·obtain ⟨rfl,hin⟩:=hI;unfold AGk;dsimp only;rw [AA9];refine AAw (fun h=>?_) (fun h=>Zq ?_)
  ·have hi':i < n:=by omega
   refine AAv (ABl hi') rfl (Zu (ABd (fun j s=>s=(((j:Nat):Int),tab n n (trS F i j))/\j<=n) n (Q:=(· =tab n n (trS F (i + 1) 0))) ⟨rfl,Nat.zero_le _⟩ Zj fun j s hj hJ=>?_) fun e he=>Zq ⟨Zj,by rw [wk Zj,he];simp,Zj⟩);obtain ⟨rfl,hjn⟩:=hJ;unfold AGj;dsimp only;rw [ABm];refine AAw (fun h2=>?_) (fun h2=>Zq ?_)
   ·have hj':j < n:=by omega
    refine AAv (ABl hj') rfl (AAv (ABl hi') rfl (AAv (AA0 hj') rfl (Zu (ABh (a:=F i j) rfl) fun y hy=>AAv (AA0 hi') rfl (Zq ⟨Zj,?_,Zj⟩))));subst hy;rw [wk Zj,AY3];refine Prod.ext (by dsimp only;omega) (AM6 fun r c hr hc=>?_);rw [AA4];unfold trS;by_cases h3:r=j
    ·rw [if_pos h3];by_cases h4:c=i
     ·rw [if_pos h4,if_pos Zj,h3,h4]
     ·rw [if_neg h4];by_cases h5:c < i
      ·rw [if_pos Zj,if_pos Zj,h3]
      ·rw [if_neg Zj,if_neg Zj]
    ·rw [if_neg h3];by_cases h5:c < i∨c=i/\r < j
     ·rw [if_pos h5,if_pos Zj]
     ·rw [if_neg h5,if_neg Zj]
   ·refine AM6 fun r c hr hc=>?_;unfold trS;by_cases h5:c < i + 1
    ·rw [if_pos Zj,if_pos Zj]
    ·rw [if_neg Zj,if_neg Zj]
  ·refine AM6 fun r c hr hc=>?_;unfold trS trF;rw [if_pos Zj]
def muS (H:Z4) (i j r c:Nat):Int:=if r < i∨r=i/\c < j then H r c else 0
theorem Amr {fuel n D:Nat} {F G:Z4} (hn:1<=n) (Ab:n<=16) (hD:16 * (D * D) < ADz) (hF:∀ i j,i < n->j < n->(F i j).natAbs<=D) (hG:∀ i j,i < n->j < n->(G i j).natAbs<=D) (hf:100 < fuel):AGs fuel (tab n n F) (tab n n G)=some (tab n n (ACj n F G),true):=by
 apply ok_eq;unfold AGs;refine Zu (ABh (AZi hn Ab hf)) fun x hx=>?_;subst hx;dsimp only;refine Zu (ABh (Ahi hn Ab hf)) fun x hx=>?_;subst hx;dsimp only;rw [AA9,AA9];refine Zu (Q:=fun ex=>match ex with | .inl _=>False | .inr _=>True) (AAw (fun h=>absurd h Zl) fun _=>AAw (fun h=>absurd h Zl) fun _=>AAw (fun h=>absurd rfl h) fun _=>Zq trivial) fun ex hex=>?_
 cases ex with
 | inl e=>exact hex.elim
 | inr u=>
   dsimp only
   rw [AA9]
   refine Zu (ABh (AXw Zj Zj Zj)) fun O hO=>?_
   subst hO
   refine Zu (ABd (fun i s=>s=(((i:Nat):Int),tab n n (muS (ACj n F G) i 0))/\i<=n) n (Q:=(· =tab n n (ACj n F G))) ⟨?_,Nat.zero_le _⟩ Zj fun i s hi hI=>?_) fun e he=>Zq (by rw [he])
   · rw [AFu n (0:Int),AFu]
     refine congrArg (Prod.mk (0:Int)) ?_
     rw [AN2]
     exact ABi fun r _=>ABi fun c _=>by unfold muS;rw [if_neg Zj]
   · obtain ⟨rfl,hin⟩:=hI
     unfold AJ4
     dsimp only
     rw [AA9]
     refine AAw (fun h=>?_) (fun h=>Zq ?_)
     · have hi':i < n:=by omega
       refine Zu (ABd (fun j s=>s=(((j:Nat):Int),tab n n (muS (ACj n F G) i j))/\j<=n) n (Q:=(· =tab n n (muS (ACj n F G) (i + 1) 0))) ⟨rfl,Nat.zero_le _⟩ Zj fun j s hj hJ=>?_) fun e he=>Zq ⟨Zj,by rw [wk Zj,he];simp,Zj⟩
       obtain ⟨rfl,hjn⟩:=hJ
       unfold AJ3
       dsimp only
       rw [AA9]
       refine AAw (fun h2=>?_) (fun h2=>Zq ?_)
       · have hj':j < n:=by omega
         refine AAv (ABl hi') rfl (AAv (ABl hi') rfl (AAv (ABl hj') rfl (Zu (ABh (Atw (D:=D) Ab hD (fun a ha=>⟨hF i a hi' ha,hG a j ha hj'⟩) hf)) fun y hy=>AAv (AA0 hj') rfl (Zq ⟨Zj,?_,Zj⟩))))
         subst hy
         rw [wk Zj,AY3]
         refine Prod.ext (by dsimp only;omega) (AM6 fun r c hr hc=>?_)
         rw [AA4]
         unfold muS
         by_cases h3:r=i
         · rw [if_pos h3]
           by_cases h4:c=j
           · rw [if_pos h4,if_pos Zj,h3,h4];rfl
           · rw [if_neg h4]
             by_cases h5:c < j
             · rw [if_pos Zj,if_pos Zj,h3]
             · rw [if_neg Zj,if_neg Zj]
         · rw [if_neg h3]
           by_cases h5:r < i
           · rw [if_pos Zj,if_pos Zj]
           · rw [if_neg Zj,if_neg Zj]
       · refine AM6 fun r c hr hc=>?_
         unfold muS
         by_cases h5:r < i + 1
         · rw [if_pos Zj,if_pos Zj]
         · rw [if_neg Zj,if_neg Zj]
     · refine AM6 fun r c hr hc=>?_
       unfold muS
       rw [if_pos Zj]
theorem Ahj (a b:Int):ARe a b=0↔a=b:=by unfold ARe;split <;> (try split) <;> omega
theorem Aqm {fuel n:Nat} {F:Z4} (Ae:n<=16) (hf:100 < fuel):Ok (AC2 fuel (tab n n F)) fun r=>r=true↔AKf n F:=by
 unfold AC2;refine Zu (ABd (fun i s=>s=((i:Nat):Int)/\i<=n/\ ∀ a b,b < a->a < i->F a b=F b a) n (Q:=fun ex=>match ex with | .inl e=>e=false/\¬ AKf n F | .inr _=>AKf n F) ⟨rfl,Nat.zero_le _,fun a b h1 h2=>by omega⟩ Zj fun i s hi hI=>?_) fun ex hex=>?_
 ·obtain ⟨rfl,hin,hs⟩:=hI;unfold AGm;rw [AA9];refine AAw (fun h=>?_) (fun h=>Zq ?_)
  ·have hi':i < n:=by omega
   refine Zu (ABd (fun j s=>s=((j:Nat):Int)/\j<=i/\ ∀ b,b < j->F i b=F b i) i (Q:=fun ex=>match ex with | .inl e=>e=false/\¬ AKf n F | .inr _=> ∀ b,b < i->F i b=F b i) ⟨rfl,Nat.zero_le _,fun b h1=>by omega⟩ Zj fun j s hj hJ=>?_) fun ex hex=>?_
   ·obtain ⟨rfl,hji,hb⟩:=hJ;unfold AGl;refine AAw (fun h2=>?_) (fun h2=>Zq ?_)
    ·have hj':j < i:=by omega
     refine AAv (ABl hi') rfl (AAv (AA0 Zj) rfl (AAv (ABl Zj) rfl (AAv (AA0 hi') rfl (Zu (ABh (a:=ARe (F i j) (F j i)) rfl) fun c hc=>?_))));subst hc;refine AAw (fun h3=>Zq ⟨rfl,fun h4=>h3 ((Ahj _ _).2 (h4 i j hi' Zj))⟩) (fun h3=>Zq ⟨Zj,by rw [wk Zj];simp,Zj,fun b Af=>?_⟩);rcases Nat.lt_or_ge b j with h4 | h4
     ·exact hb b h4
     ·obtain rfl:b=j:=by omega
      exact (Ahj _ _).1 (Classical.not_not.1 h3)
    ·obtain rfl:j=i:=by omega
     exact hb
   ·cases ex with
    | inl e=>exact Zq hex
    | inr u=>exact Zq ⟨Zj,by rw [wk Zj];simp,Zj,fun a b h1 h2=>by
        rcases Nat.lt_or_ge a i with h4 | h4
        · exact hs a b h1 h4
        · obtain rfl:a=i:=by omega
          exact hex b h1⟩
  ·obtain rfl:i=n:=by omega
   intro a b ha hb;rcases Nat.lt_trichotomy a b with h1 | h1 | h1
   ·exact (hs b a h1 hb).symm
   ·rw [h1]
   ·exact hs a b h1 ha
 ·cases ex with
  | inl e=>obtain ⟨rfl,h⟩:=hex;exact Zq ⟨fun h1=>Bool.noConfusion h1,fun h1=>absurd h1 h⟩
  | inr u=>exact Zq ⟨fun _=>hex,fun _=>rfl⟩
theorem Apl {fuel n D:Nat} {F G:Z4} (hn:1<=n) (Aa:n<=16) (hD:16 * (D * D) < ADz) (hF:∀ i j,i < n->j < n->(F i j).natAbs<=D) (hG:∀ i j,i < n->j < n->(G i j).natAbs<=D) (hH:∀ i j,i < n->j < n->(ACj n (trF G) F i j).natAbs<=D) (hf:100 < fuel):AC3 fuel (tab n n F) (tab n n G)=some (tab n n (ACj n (ACj n (trF G) F) G)):=by
 apply ok_eq;unfold AC3;refine Zu (ABh (Ahi hn Aa hf)) fun x hx=>?_;subst hx;dsimp only
 have pr:∀ {F G:Z4},(∀ i j,i < n->j < n->(F i j).natAbs<=D)->(∀ i j,i < n->j < n->(G i j).natAbs<=D)->Ok (AB5 fuel (tab n n F) (tab n n G)) (· =tab n n (ACj n F G)):=fun {F G} hF hG=>by
   unfold AB5
   refine Zu (ABh (Amr hn Aa hD hF hG hf)) fun x hx=>?_
   subst hx
   exact Zq rfl
 refine Zu (pr (fun i j hi hj=>hG j i hj hi) hF) fun x hx=>?_;subst hx;refine Zu (pr hH hG) fun y hy=>Zq hy
theorem Ahk (a:Int):AE7 a<=0↔a<=0:=by unfold AE7;split <;> (try split) <;> omega
theorem Atx {fuel n:Nat} {F:Z4} (Ae:1<=n) (hn:n<=8) (hb:∀ i j,i < n->j < n->(F i j).natAbs<=AF3) (hf:100 < fuel):Ok (AEk fuel (tab n n F)) fun r=>r=true↔AKf n F/\ALz n F:=by
 unfold AEk;refine Zu (ABh (Aat Ae hn hb hf)) fun x hx=>?_;subst hx;dsimp only;refine Zu (Q:=fun ex=>match ex with | .inl e=>e=false/\¬ AKf n F | .inr _=>AKf n F) (AAw (fun h=>absurd h Zl) fun _=>Zu (Aqm Zj hf) fun r hr=>?_) fun ex hex=>?_
 ·refine AAw (fun h=>Zq ⟨rfl,fun h1=>?_⟩) (fun h=>Zq (hr.1 ?_))
  ·rw [hr.2 h1] at h;exact absurd h Zl
  ·cases r
   ·exact absurd rfl h
   ·rfl
 ·cases ex with
  | inl e=>obtain ⟨rfl,h⟩:=hex;exact Zq ⟨fun h1=>Bool.noConfusion h1,fun h1=>absurd h1.1 h⟩
  | inr u=>
    dsimp only at hex ⊢
    have h0:∀ k,k<=0->0 < det k F:=fun k hk=>by
      obtain rfl:k=0:=by omega
      simp [det]
    refine Zu (ABd (fun i s=>s=((i:Nat):Int)/\i<=n/\ ∀ k,k<=i->0 < det k F) n (Q:=fun ex=>match ex with | .inl e=>e=false/\¬ ALz n F | .inr _=>ALz n F) ⟨rfl,Nat.zero_le _,h0⟩ Zj fun i s hi hI=>?_) fun ex Ad=>?_
    · obtain ⟨rfl,hin,hp⟩:=hI
      unfold AG5
      rw [ABm]
      refine AAw (fun h=>?_) (fun h=>Zq ?_)
      · have hi':i < n:=by omega
        refine AAv (AA0 hi') rfl (Zu (ABh (a:=AE7 (det (i + 1) F)) rfl) fun c hc=>?_)
        subst hc
        refine AAw (fun h3=>Zq ⟨rfl,fun h4=>?_⟩) (fun h3=>Zq ⟨Zj,by rw [wk Zj];simp,Zj,fun k hk=>?_⟩)
        · have:=h4 (i + 1) Zj;have:=(Ahk _).1 h3;omega
        · rcases Nat.lt_or_ge k (i + 1) with h4 | h4
          · exact hp k Zj
          · obtain rfl:k=i + 1:=by omega
            rw [Ahk] at h3;omega
      · obtain rfl:i=n:=by omega
        exact hp
    · cases ex with
      | inl e=>obtain ⟨rfl,h⟩:=Ad;exact Zq ⟨fun h1=>Bool.noConfusion h1,fun h1=>absurd h1.2 h⟩
      | inr u=>exact Zq ⟨fun _=>⟨hex,Ad⟩,fun _=>rfl⟩
theorem AZj {fuel n:Nat} {F:Z4} (Ac:1<=n) (hn:n<=8) (hb:∀ i j,i < n->j < n->(F i j).natAbs<=AF3) (hf:100 < fuel):Ok (ADe fuel (tab n n F)) fun r=>r=0↔AKf n F/\ALz n F:=by
 unfold ADe;refine Zu (ABh (Aaq Ac Zj hf)) fun x hx=>?_;subst hx;dsimp only;refine AAw (fun h=>absurd h Zl) fun _=>AAw (fun h=>by omega) fun _=>Zu (Aqm Zj hf) fun r hr=>AAw (fun h=>Zq ⟨fun h1=>by omega,fun h1=>?_⟩) fun h=>Zu (Atx Ac hn hb hf) fun q hq=>AAw (fun h2=>Zq ⟨fun h1=>by omega,fun h1=>?_⟩) fun h2=>Zq ⟨fun _=>hq.1 ?_,fun _=>rfl⟩
 ·rw [hr.2 h1.1] at h;exact absurd h Zl
 ·rw [hq.2 h1] at h2;exact absurd h2 Zl
 ·cases q
  ·exact absurd rfl h2
  ·rfl
theorem Apm {fuel n:Nat} {F:Z4} (hn:n<=8) (hb:∀ i j,i < n->j < n->(F i j).natAbs<=AF3) (hf:100 < fuel):AFt fuel (tab n n F)=some (decide (det n F<=10000)):=by
 apply ok_eq;unfold AFt;refine Zu (ABh (AVn hn hb Zj)) fun x hx=>?_;subst hx;refine Zu (Q:=(· =10000)) ⟨10000,if_pos Zj,rfl⟩ fun y hy=>?_;subst hy;refine Zu (ABh (a:=ARe (det n F) 10000) rfl) fun c hc=>Zq ?_;subst hc;exact decide_eq_decide.2 (Ab6 _ _)
def idS (i r c:Nat):Int:=if r=c/\r < i then 1 else 0
theorem Ahl {fuel n:Nat} (hn:1<=n) (Ae:n<=16) (hf:100 < fuel):ADd fuel (n:Int)=some (tab n n dl,true):=by
 apply ok_eq;unfold ADd;refine Zu (Q:=fun ex=>match ex with | .inl _=>False | .inr _=>True) (AAw (fun h=>by omega) fun _=>AAw (fun h=>by omega) fun _=>Zq trivial) fun ex hex=>?_
 cases ex with
 | inl e=>exact hex.elim
 | inr u=>
   dsimp only
   refine Zu (ABh (AXw Zj Zj Zj)) fun O hO=>?_
   have Ab:O=tab n n (idS 0):=by
     rw [hO,AFu n (0:Int),AFu,AN2]
     exact ABi fun r _=>ABi fun c _=>by unfold idS;rw [if_neg Zj]
   have hlen:O.length=n:=by rw [Ab,AA9]
   refine Zu (ABd (fun i s=>s=(((i:Nat):Int),tab n n (idS i))/\i<=n) n (Q:=(· =tab n n dl)) ⟨by rw [Ab];rfl,Nat.zero_le _⟩ Zj fun i s hi hI=>?_) fun e he=>Zq (by rw [he])
   obtain ⟨rfl,hin⟩:=hI
   unfold AG4
   dsimp only
   rw [hlen]
   refine AAw (fun h=>?_) (fun h=>Zq ?_)
   · have hi':i < n:=by omega
     refine AAv (ABl hi') rfl (Zu (Q:=(· =1)) ⟨1,if_pos Zj,rfl⟩ fun y hy=>AAv (AA0 hi') rfl (Zq ⟨Zj,?_,Zj⟩))
     subst hy
     rw [wk Zj,AY3]
     refine Prod.ext (by dsimp only;omega) (AM6 fun r c hr hc=>?_)
     rw [AA4]
     unfold idS
     by_cases h3:r=i
     · rw [if_pos h3]
       by_cases h4:c=i
       · rw [if_pos h4,if_pos Zj]
       · rw [if_neg h4,if_neg Zj,if_neg Zj]
     · rw [if_neg h3]
       by_cases h5:r=c/\r < i
       · rw [if_pos h5,if_pos Zj]
       · rw [if_neg h5,if_neg Zj]
   · refine AM6 fun r c hr hc=>?_
     unfold idS dl
     by_cases h5:r=c
     · rw [if_pos Zj,if_pos h5]
     · rw [if_neg Zj,if_neg h5]
def toS (n:Nat) (F:Z4) (i:Nat):List (List Int):=ACl n fun r=>if r < i then ACl n (F r) else []
def toR (n:Nat) (F:Z4) (i j:Nat):List (List Int):=ACl n fun r=>if r < i then ACl n (F r) else if r=i then ACl n (fun c=>if c < j then F i c else 0) else []
theorem Atz {fuel n:Nat} {F:Z4} (hn:1<=n) (Ae:n<=16) (hb:∀ i j,i < n->j < n->(F i j).natAbs < 9223372036854775808) (hf:100 < fuel):AFd fuel (tab n n F)=some (tab n n F,true):=by
 apply ok_eq;unfold AFd;refine Zu (ABh (AZi hn Ae hf)) fun x hx=>?_;subst hx;dsimp only;refine AAw (fun h=>absurd h Zl) fun _=>ABs Zj (Zu (ABd (fun i s=>s=(((i:Nat):Int),toS n F i)/\i<=n) n (Q:=fun ex=>match ex with | .inl _=>False | .inr e=>e=tab n n F) ⟨?_,Nat.zero_le _⟩ Zj fun i s hi hI=>?_) fun ex hex=>?_)
 ·rw [Int.toNat_natCast,AFu];exact congrArg (Prod.mk (0:Int)) (ABi fun r _=>by rw [if_neg Zj])
 ·obtain ⟨rfl,hin⟩:=hI;unfold AId;dsimp only;rw [List.length_replicate,Int.toNat_natCast];refine AAw (fun h=>ABs Zj ?_) (fun h=>Zq ?_)
  ·have hi':i < n:=by omega
   have e0:sI (toS n F i) (i:Int) (List.replicate n (0:Int))=toR n F i 0:=by
     rw [AB4];unfold toS;rw [AEm]
     refine ABi fun r _=>?_
     by_cases h1:r=i
     · rw [if_pos h1,if_neg Zj,if_pos h1,AFu];exact ABi fun c _=>by rw [if_neg Zj]
     · rw [if_neg h1]
       by_cases h2:r < i
       · rw [if_pos h2,if_pos h2]
       · rw [if_neg h2,if_neg h2,if_neg h1]
   refine AAv (n:=i) (AA0 hi') rfl ?_;rw [e0];refine AAv (n:=i) (AA0 hi') rfl ?_;rw [if_neg Zj,if_pos rfl];refine Zu (ABd (fun j s=>s=(((j:Nat):Int),toR n F i j)/\j<=n) n (Q:=fun ex=>match ex with | .inl _=>False | .inr e=>e=toS n F (i + 1)) ⟨rfl,Nat.zero_le _⟩ Zj fun j s hj hJ=>?_) fun ex hex=>?_
   ·obtain ⟨rfl,hjn⟩:=hJ;unfold AIc;dsimp only;rw [ABm];refine AAw (fun h2=>?_) (fun h2=>Zq ?_)
    ·have hj':j < n:=by omega
     refine AAv (ABl hi') rfl (AAv (AA0 hj') rfl (Zu (Q:=(· =(F i j,true))) ⟨_,if_pos (hb i j hi' hj'),rfl⟩ fun y hy=>?_));subst hy;dsimp only;refine AAw (fun h=>absurd h Zl) fun _=>AAv (n:=i) (AA0 hi') rfl ?_;rw [if_neg Zj,if_pos rfl];refine AAv (AA0 hj') rfl (Zq ⟨Zj,?_,Zj⟩);rw [wk Zj,AB4,AB4];refine Prod.ext (by dsimp only;omega) ?_;dsimp only;unfold toR;rw [AEm,AEm];refine ABi fun r _=>?_;by_cases h1:r=i
     ·rw [if_pos h1,if_neg Zj,if_pos h1];refine ABi fun c _=>?_;by_cases h3:c=j
      ·rw [if_pos h3,if_pos Zj,h3]
      ·rw [if_neg h3];by_cases h4:c < j
       ·rw [if_pos h4,if_pos Zj]
       ·rw [if_neg h4,if_neg Zj]
     ·rw [if_neg h1,if_neg h1,if_neg h1]
    ·refine ABi fun r _=>?_;by_cases h1:r < i
     ·rw [if_pos h1,if_pos Zj]
     ·rw [if_neg h1];by_cases h3:r=i
      ·rw [if_pos h3,if_pos Zj,h3];exact ABi fun c hc=>by rw [if_pos Zj]
      ·rw [if_neg h3,if_neg Zj]
   ·cases ex with
    | inl e=>exact hex.elim
    | inr e=>exact Zq ⟨Zj,by rw [wk Zj,hex];simp,Zj⟩
  ·refine ABi fun r hr=>?_;rw [if_pos Zj];rfl
 ·cases ex with
  | inl e=>exact hex.elim
  | inr e=>exact Zq (by rw [hex])
theorem ATs {S E:Type} {body:S->Option (S ⊕ E)} {Q:E->Prop} (I:S->Prop) (μ:S->Nat) (hs:∀ s,I s->Ok (body s) fun r=>match r with | .inl s'=>I s'/\μ s' < μ s | .inr e=>Q e):∀ {fuel:Nat} {s0:S},I s0->μ s0 < fuel->Ok (iter body fuel s0) Q:=by
  intro fuel;induction fuel with
  | zero=>intro s0 _ h;omega
  | succ f ih=>
    intro s0 h0 hf;obtain ⟨r,hr,hq⟩:=hs s0 h0;cases r with
    | inl s'=>
      obtain ⟨e,he,hQ⟩:=ih hq.1 (by have:=hq.2;omega);exact ⟨e,by simp [iter,hr,he],hQ⟩
    | inr e=>exact ⟨e,by simp [iter,hr],hq⟩
theorem AO0 (a:Int):AE7 a=0↔a=0:=by unfold AE7;split <;> (try split) <;> omega
theorem Ahm (a:Int):AE7 a < 0↔a < 0:=by unfold AE7;split <;> (try split) <;> omega
theorem Ams {fuel:Nat} {a b:Int} (ha:a.natAbs < ADz) (hb:b.natAbs < ADz) (h0:b≠0):ACs fuel a b=some (a / b):=by
 apply ok_eq;unfold ACs;refine Zu (ABh (a:=(a / b,a % b,true)) (if_pos ⟨ha,hb,h0⟩)) fun x hx=>?_;subst hx;exact Zq rfl
theorem At0 {fuel:Nat} {a b:Int} (ha:a.natAbs < ADz) (hb:b.natAbs < ADz) (h0:b≠0):AGq fuel a b=some (a % b):=by
 apply ok_eq;unfold AGq;refine Zu (ABh (a:=(a / b,a % b,true)) (if_pos ⟨ha,hb,h0⟩)) fun x hx=>?_;subst hx;exact Zq rfl
theorem At1 {fuel:Nat} {a b:Int} (ha:a.natAbs < ADz) (hb:b.natAbs < ADz) (h0:b≠0) (hf:ADz < fuel):Ok (AGu fuel a b) fun g=>0 < g/\g ∣ a/\g ∣ b:=by
 unfold AGu;refine Zu (ABh (a:=(a.natAbs:Int)) rfl) fun x hx=>Zu (ABh (a:=(b.natAbs:Int)) rfl) fun y hy=>?_;subst hx;subst hy;refine Zu (ATs (fun s:Int × Int=>0<=s.1/\0<=s.2/\s.1.natAbs < ADz/\s.2.natAbs < ADz/\(0 < s.1∨0 < s.2)/\ ∀ d:Int,d ∣ s.1->d ∣ s.2->d ∣ a/\d ∣ b) (fun s=>s.2.natAbs) (Q:=fun g=>0 < g/\g ∣ a/\g ∣ b) (fun s hs=>?_) ⟨Zj,Zj,Zj,Zj,.inr Zj,fun d h1 h2=>⟨Int.dvd_natAbs.1 h1,Int.dvd_natAbs.1 h2⟩⟩ (by dsimp only;omega)) fun g hg=>Zq hg;obtain ⟨u,v⟩:=s;obtain ⟨h1,h2,h3,h4,h5,h6⟩:=hs;unfold AJ5;dsimp only at h1 h2 h3 h4 h5 h6 ⊢;refine Zu (ABh (a:=AE7 v) rfl) fun s hs=>?_;subst hs;refine AAw (fun hv=>?_) fun hv=>Zq ?_
 ·have Ab:v≠0:=fun h=>hv ((AO0 v).2 h);refine Zu (ABh (At0 h3 h4 Ab)) fun r hr=>Zq ?_;subst hr;have e1:=Int.emod_nonneg u Ab;have e2:=Int.emod_lt_of_pos u (show 0 < v by omega);refine ⟨⟨h2,e1,h4,Zj,.inl Zj,fun d d1 d2=>h6 d ?_ d1⟩,Zj⟩;have:=Int.dvd_add d2 (Int.dvd_trans d1 ⟨u / v,rfl⟩);rwa [Int.emod_add_mul_ediv] at this
 ·have Ab:v=0:=by
    rcases Decidable.em (AE7 v=0) with h | h
    · exact (AO0 v).1 h
    · exact absurd h hv
  subst Ab;exact ⟨Zj,h6 u (Int.dvd_refl u) ⟨0,AAx⟩⟩
def FrE (n d n' d':Int):Prop:=0 < d'/\n' * d=n * d'/\n'.natAbs<=n.natAbs/\d'.natAbs<=d.natAbs
theorem Aqn {fuel:Nat} {a b:Int} (ha:a.natAbs < ADz) (hb:b.natAbs < ADz) (h0:b≠0) (hf:ADz < fuel):Ok (AFl fuel a b) fun r=>r.2=true/\FrE a b r.1.1 r.1.2:=by
 unfold AFl;refine Zu (ABh (a:=AE7 b) rfl) fun s hs=>?_;subst hs;refine AAw (fun h=>absurd ((AO0 b).1 h) h0) fun _=>Zu (Q:=fun e:Int × Int=>0 < e.2/\e.1 * b=a * e.2/\e.1.natAbs=a.natAbs/\e.2.natAbs=b.natAbs) (Zu (ABh (a:=AE7 b) rfl) fun s hs=>?_) fun e he=>?_
 ·subst hs;refine AAw (fun h=>?_) fun h=>Zq ⟨?_,rfl,rfl,rfl⟩
  ·have:=(Ahm b).1 h;refine Zu (ABh (a:= -a) rfl) fun x hx=>Zu (ABh (a:= -b) rfl) fun y hy=>Zq ?_;subst hx;subst hy;exact ⟨by dsimp only;omega,by dsimp only;grind,by dsimp only;omega,by dsimp only;omega⟩
  ·have: ¬ b < 0:=fun h2=>h ((Ahm b).2 h2);dsimp only;omega
 ·obtain ⟨u,v⟩:=e;obtain ⟨h1,h2,h3,h4⟩:=he;dsimp only at h1 h2 h3 h4 ⊢;refine Zu (At1 (a:=u) (b:=v) Zj Zj Zj hf) fun g hg=>?_;obtain ⟨g1,⟨u',rfl⟩,⟨v',rfl⟩⟩:=hg;have gn:g≠0:=by omega
  have hv':0 < v':=Int.pos_of_mul_pos_right h1 g1;have e1:(g * u').natAbs=g.natAbs * u'.natAbs:=Int.natAbs_mul _ _;have e2:(g * v').natAbs=g.natAbs * v'.natAbs:=Int.natAbs_mul _ _;have g2:1<=g.natAbs:=by omega
  have m1:=Nat.mul_le_mul_right u'.natAbs g2;have m2:=Nat.mul_le_mul_right v'.natAbs g2;have m3:=Nat.mul_le_mul_left g.natAbs (show 1<=v'.natAbs by omega);refine Zu (ABh (Ams Zj Zj gn)) fun x hx=>Zu (ABh (Ams Zj Zj gn)) fun y hy=>Zq ⟨rfl,?_⟩;subst hx;subst hy;rw [Int.mul_ediv_cancel_left _ gn,Int.mul_ediv_cancel_left _ gn];refine ⟨hv',?_,by dsimp only;omega,by dsimp only;omega⟩;have:g * (u' * b)=g * (a * v'):=by grind
  exact Int.eq_of_mul_eq_mul_left gn this
theorem Ab7 {fuel:Nat} {a b:Int} (ha:a.natAbs < ADz) (hb:b.natAbs < ADz) (h0:b≠0) (hf:ADz < fuel):Ok (AB7 fuel a b) fun r=>FrE a b r.1 r.2:=by
 unfold AB7;refine Zu (Aqn ha hb h0 hf) fun r hr=>?_;obtain ⟨⟨x,y⟩,c⟩:=r;obtain ⟨h1,h2⟩:=hr;dsimp only at h1 h2 ⊢;subst h1;exact AAw (fun h=>absurd h Zl) fun _=>Zq h2
theorem Ar9 {fuel:Nat} {a b:Int} (ha:a.natAbs < ADz) (hb:b.natAbs < ADz) (h0:b≠0) (hf:ADz < fuel):Ok (AEl fuel a b) fun r=>FrE a b r.1 r.2:=by
 unfold AEl;exact Zu (Ab7 ha hb h0 hf) fun r hr=>Zq hr
theorem Aee {N D N' D':Int} (hD:0 < D) (hD':0 < D') (h:N * D'=N' * D):N / D=N' / D':=by
 rw [<- Int.mul_ediv_mul_of_pos_left N D hD',h,Int.mul_comm D D',Int.mul_ediv_mul_of_pos_left N' D' hD]
theorem Asa {fuel:Nat} {a b:Int} (hab:4 * (a.natAbs + b.natAbs) < ADz) (h0:0 < b) (hf:ADz < fuel):Ok (AE2 fuel a b) fun r=>r=(2 * a + b) / (2 * b):=by
 have Ag:(1:Int).natAbs < ADz:=by
   have:(1:Int).natAbs=1:=rfl
   omega
 have Ah:(2:Int).natAbs < ADz:=by
   have:(2:Int).natAbs=2:=rfl
   omega
 unfold AE2;refine Zu (Q:=(· =(1,2))) ?_ fun hh he=>?_
 ·unfold AIn;exact Zu (Q:=(· =1)) ⟨1,if_pos Zj,rfl⟩ fun x hx=>Zu (Q:=(· =2)) ⟨2,if_pos Zj,rfl⟩ fun y hy=>Zq (by rw [hx,hy])
 subst he;dsimp only;refine Zu (Q:=fun r=>0 < r.2/\r.1 * (2 * b)=(2 * a + b) * r.2/\r.1.natAbs < ADz/\r.2.natAbs < ADz) ?_ fun r hr=>?_
 ·unfold AI4;refine Zu (Ab7 Zj Zj Zj hf) fun x hx=>Zu (Ab7 (a:=1) (b:=2) Ag Ah Zj hf) fun y hy=>?_;obtain ⟨x1,x2⟩:=x;obtain ⟨y1,y2⟩:=y;obtain ⟨a1,a2,a3,a4⟩:=hx;obtain ⟨b1,b2,b3,b4⟩:=hy;dsimp only at *;obtain rfl:y2=2:=by omega
  obtain rfl:y1=1:=by omega
  refine Zu (ABh (a:=x1 * 2) (if_pos (by have:(2:Int).natAbs=2:=rfl;rw [this];omega))) fun u hu=>Zu (ABh (a:=1 * x2) (if_pos (by have:(1:Int).natAbs=1:=rfl;rw [this];omega))) fun v hv=>?_;subst hu;subst hv;refine Zu (ABh (a:=x1 * 2 + 1 * x2) (if_pos ⟨Zj,Zj⟩)) fun w hw=>Zu (ABh (a:=x2 * 2) (if_pos (by have:(2:Int).natAbs=2:=rfl;rw [this];omega))) fun z hz=>?_;subst hw;subst hz;refine Zu (Aqn Zj Zj Zj hf) fun r hr=>Zq ?_;obtain ⟨⟨r1,r2⟩,c⟩:=r;obtain ⟨-,c1,c2,c3,c4⟩:=hr;dsimp only at *;refine ⟨c1,?_,Zj,Zj⟩;have h1:x2 * (r1 * (2 * b))=x2 * ((2 * a + b) * r2):=by grind
  exact Int.eq_of_mul_eq_mul_left (show x2≠0 by omega) h1
 ·obtain ⟨r1,r2⟩:=r;obtain ⟨h1,h2,h3,h4⟩:=hr;dsimp only at *;unfold AHv;refine Zu (Q:=fun r=>r=(2 * a + b) / (2 * b)) (Zu (Ab7 h3 h4 Zj hf) fun x hx=>?_) fun z hz=>Zq hz;obtain ⟨x1,x2⟩:=x;obtain ⟨a1,a2,a3,a4⟩:=hx;dsimp only at *;refine Zu (ABh (Ams Zj Zj Zj)) fun q hq=>Zq ?_;subst hq;refine Aee a1 Zj ?_;have h5:r2 * (x1 * (2 * b))=r2 * ((2 * a + b) * x2):=by grind
  exact Int.eq_of_mul_eq_mul_left (show r2≠0 by omega) h5
end Go.Proofs.YtdkldlbgcfpglaaGreatDoor
namespace Go.Proofs.YtdkldlbgcfpglaaGreatDoor
open Go Go.QF
set_option maxRecDepth 100000
theorem Aef:64 * (dBd AF3 (8 + 1) * dBd AF3 (8 + 1)) < ADz:=by decide
theorem Amt {fuel n j:Nat} {F:Z4} (hn:n<=8) (hj:j + 1 < n) (hb:∀ i j,i < n->j < n->(F i j).natAbs<=AF3) (hf:100 < fuel):Ok (AFe fuel (tab n n F) (ACl n fun a=>det (a + 1) F) ((j + 1:Nat):Int)) fun r=>r=true↔LvF F j:=by
 show Ok _ fun r:Bool=>r=true↔3 * (det (j + 1) F * det (j + 1) F)<=4 * (det j F * det (j + 2) F + Mn j F (j + 1) j * Mn j F (j + 1) j);unfold AFe;have w1:w64 (((j + 1:Nat):Int) - 1)=(j:Int):=by rw [wk Zj];omega
 have w2:w64 (((j + 1:Nat):Int) + 1)=((j + 2:Nat):Int):=by rw [wk Zj];omega
 rw [w1,w2];have hD:=Aef;have bl:(Mn j F (j + 1) j).natAbs<=dBd AF3 (8 + 1):=AZh hn Zj Zj Zj hb;have b0:(det j F).natAbs<=dBd AF3 (8 + 1):=ATr hn Zj hb;have b1:(det (j + 1) F).natAbs<=dBd AF3 (8 + 1):=ATr hn Zj hb;have b2:(det (j + 2) F).natAbs<=dBd AF3 (8 + 1):=ATr hn Zj hb;have p1:=Nat.mul_le_mul b0 b2;have p2:=Nat.mul_le_mul bl bl;have p3:=Nat.mul_le_mul b1 b1;have e1:=Int.natAbs_mul (det j F) (det (j + 2) F);have e2:=Int.natAbs_mul (Mn j F (j + 1) j) (Mn j F (j + 1) j);have e3:=Int.natAbs_mul (det (j + 1) F) (det (j + 1) F);refine Zu (ABh (AZg hn Zj Zj hb hf)) fun l hl=>?_;subst hl;refine Zu (Q:=(· =4)) ⟨4,if_pos Zj,rfl⟩ fun x hx=>?_;subst hx;refine Zu (ABh (AUa Zj hn)) fun x hx=>Zu (ABh (AUa Zj hn)) fun y hy=>?_;subst hx;subst hy;refine Zu (ABh (a:=det j F * det (j + 2) F) (if_pos Zj)) fun x hx=>Zu (ABh (a:=Mn j F (j + 1) j * Mn j F (j + 1) j) (if_pos Zj)) fun y hy=>?_;subst hx;subst hy;generalize det j F * det (j + 2) F=P at *;generalize Mn j F (j + 1) j * Mn j F (j + 1) j=L at *;refine Zu (ABh (a:=P + L) (if_pos Zj)) fun x hx=>Zu (ABh (a:=4 * x) (if_pos (by have:(4:Int).natAbs=4:=rfl;rw [this];omega))) fun y hy=>?_;subst hx;subst hy;refine Zu (Q:=(· =3)) ⟨3,if_pos Zj,rfl⟩ fun x hx=>?_;subst hx;refine Zu (ABh (AUa Zj hn)) fun x hx=>Zu (ABh (AUa Zj hn)) fun y hy=>?_;subst hx;subst hy;refine Zu (ABh (a:=det (j + 1) F * det (j + 1) F) (if_pos Zj)) fun x hx=>?_;subst hx;generalize det (j + 1) F * det (j + 1) F=S at *;refine Zu (ABh (a:=3 * S) (if_pos (by have:(3:Int).natAbs=3:=rfl;rw [this];omega))) fun x hx=>Zu (ABh (a:=ARe (4 * (P + L)) x) rfl) fun c hc=>Zq ?_;subst hx;subst hc;rw [decide_eq_true_iff];unfold ARe;split <;> (try split) <;> omega
def ARk (A:Z4) (i j:Nat):Int:= -((2 * Mn j A i j + det (j + 1) A) / (2 * det (j + 1) A))
def AUz (A:Z4) (i j:Nat):Z4:=ABz dl j fun q=>if q=i then ARk A i j else dl j q
def AVw (A:Z4) (i:Nat):Prop:= ∀ r l,l < r->r < i->SzF A r l
def AXd (A:Z4) (i:Nat):Prop:= ∀ r,r + 1 < i->LvF A r
def Amu (n:Nat) (A:Z4) (r:List (List Int) × Bool):Prop:=
  (r=([],false)/\AVw A n/\AXd A n)∨
  (∃ i j,j < i/\i < n/\¬ SzF A i j/\AVw A i/\(∀ l,l < i->j < l->SzF A i l)/\AXd A i/\r=(tab n n (AUz A i j),true))∨
  ∃ j,j + 1 < n/\¬ LvF A j/\AVw A (j + 2)/\AXd A (j + 1)/\r=(tab n n (AEx dl (j + 1) j),true)
theorem Asb {fuel n:Nat} {A:Z4} (Ai:1<=n) (hn:n<=8) (hp:ALz n A) (hb:∀ i j,i < n->j < n->(A i j).natAbs<=AF3) (hf:ADz < fuel):Ok (AF8 fuel (tab n n A)) (Amu n A):=by
 have Ac:100 < fuel:=Nat.lt_of_le_of_lt Zl hf;have hD:=Aef;unfold AF8;refine Zu (ABh (Aat Ai hn hb Ac)) fun x hx=>?_;subst hx;dsimp only;rw [AA9];refine Zu (ABh (Ahl Ai Zj Ac)) fun x hx=>?_;subst hx;dsimp only;refine Zu (ABd (fun i s=>s=(((i:Nat):Int),tab n n dl)/\i<=n/\AVw A i/\AXd A i) n (Q:=fun ex=>match ex with | .inl r=>Amu n A r | .inr _=>AVw A n/\AXd A n) ⟨rfl,Nat.zero_le _,fun r l h1 h2=>by omega,fun r h=>by omega⟩ Zj fun i s hi hI=>?_) fun ex hex=>?_
 ·obtain ⟨rfl,hin,hsz,hlv⟩:=hI;unfold AJj;dsimp only;rw [AA9];refine AAw (fun h=>?_) (fun h=>Zq ?_)
  ·have hi':i < n:=by omega
   refine Zu (ABd (fun k s=>s=((i:Int) - 1 - k,tab n n dl)/\k<=i/\ ∀ l,l < i->i<=l + k->SzF A i l) i (Q:=fun ex=>match ex with | .inl r=>Amu n A r | .inr e=>e=tab n n dl/\ ∀ l,l < i->SzF A i l) ⟨by rw [wk Zj];simp,Nat.zero_le _,fun l h1 h2=>by omega⟩ Zj fun k s hk hK=>?_) fun ex hex=>?_
   ·obtain ⟨rfl,hki,hz⟩:=hK;unfold AJi;dsimp only;refine AAw (fun h2=>?_) (fun h2=>Zq ⟨rfl,fun l hl=>hz l hl Zj⟩);obtain ⟨j,hj⟩:∃ j:Nat,(i:Int) - 1 - k=j:=⟨i - 1 - k,Zj⟩;rw [hj];have hji:j < i:=by omega
    refine Zu (ABh (Apk hn hi' Zj hb Ac)) fun b Ag=>?_;subst Ag;refine AAw (fun h3=>?_) (fun h3=>Zq ⟨Zj,?_,Zj,fun l h4 h5=>?_⟩)
    ·have hbad: ¬ SzF A i j:=fun h=>by rw [<- Ahh] at h;simp [h] at h3
     refine AAv (ABl Zj) rfl (Zu (ABh (AZg hn hi' Zj hb Ac)) fun l hl=>?_);subst hl;rw [show w64 ((j:Int) + 1)=((j + 1:Nat):Int) by rw [wk Zj];omega];refine Zu (ABh (AUa Zj hn)) fun d hd=>?_;subst hd;have bl:(Mn j A i j).natAbs<=dBd AF3 (8 + 1):=AZh hn hi' Zj Zj hb;have b1:(det (j + 1) A).natAbs<=dBd AF3 (8 + 1):=ATr hn Zj hb;have hd:=hp (j + 1) Zj;have hDD:dBd AF3 (8 + 1)<=dBd AF3 (8 + 1) * dBd AF3 (8 + 1):=Nat.le_mul_of_pos_left _ Zj;refine Zu (Ar9 Zj Zj Zj hf) fun q hq=>?_;obtain ⟨x,y⟩:=q;obtain ⟨q1,q2,q3,q4⟩:=hq;dsimp only at q1 q2 q3 q4 ⊢;refine Zu (Asa Zj q1 hf) fun m hm=>Zu (ABh (a:= -m) rfl) fun c hc=>?_
     have Ap:c=ARk A i j:=by
       rw [hc,hm]
       unfold ARk
       congr 1
       refine Aee Zj Zj ?_
       grind
     clear hm hc;refine AAv (AA0 hi') rfl (Zq (.inr (.inl ⟨i,j,hji,hi',hbad,hsz,fun l h4 h5=>hz l h4 Zj,hlv,?_⟩)));rw [AB4,AB4,AEm,Ap,show (ACl n fun q=>if q=i then ARk A i j else dl j q)=(List.range n).map fun q=>if q=i then ARk A i j else dl j q from rfl,AK5];rfl
    ·rw [wk Zj];refine congrArg (fun z=>(z,tab n n dl)) ?_;omega
    ·have hgood:SzF A i j:=by rw [<- Ahh];simpa using h3
     rcases Nat.lt_or_ge (l + k) i with h6 | h6
     ·obtain rfl:l=j:=by omega
      exact hgood
     ·exact hz l h4 h6
   ·cases ex with
    | inl r=>exact Zq hex
    | inr e=>
      obtain ⟨rfl,hzi⟩:=hex
      have hsz':AVw A (i + 1):=fun r l h1 h2=>by
        rcases Nat.lt_or_ge r i with h3 | h3
        · exact hsz r l h1 h3
        · obtain rfl:r=i:=by omega
          exact hzi l h1
      dsimp only
      have nx:w64 ((i:Int) + 1)=((i + 1:Nat):Int):=by rw [wk Zj];omega
      refine AAw (fun h4=>?_) (fun h4=>Zq ⟨Zj,by rw [nx],Zj,hsz',fun r hr=>by omega⟩)
      obtain ⟨j,rfl⟩:∃ j,i=j + 1:=⟨i - 1,Zj⟩
      refine Zu (Amt hn hi' hb Ac) fun b Ag=>?_
      refine AAw (fun h5=>?_) (fun h5=>Zq ⟨Zj,by rw [nx],Zj,hsz',fun r hr=>?_⟩)
      · have hbad: ¬ LvF A j:=fun h=>by rw [Ag.2 h] at h5;cases h5
        rw [show w64 (((j + 1:Nat):Int) - 1)=(j:Int) by rw [wk Zj];omega]
        refine AAv (ABl Zj) rfl (AAv (ABl hi') rfl (Zq (.inr (.inr ⟨j,hi',hbad,hsz',hlv,?_⟩))))
        rw [AB4,AB4,show ACl n (dl j)=(List.range n).map (dl j) from rfl,show ACl n (dl (j + 1))=(List.range n).map (dl (j + 1)) from rfl,AK5,AK5]
        rfl
      · have hgood:LvF A j:=Ag.1 (by simpa using h5)
        rcases Nat.lt_or_ge r j with h6 | h6
        · exact hlv r Zj
        · obtain rfl:r=j:=by omega
          exact hgood
  ·obtain rfl:i=n:=by omega
   exact ⟨hsz,hlv⟩
 ·cases ex with
  | inl r=>exact Zq hex
  | inr u=>exact Zq (.inl ⟨rfl,hex⟩)
end Go.Proofs.YtdkldlbgcfpglaaGreatDoor
namespace Go.QF
open Go
def PrI (p:Int):Prop:=2<=p/\ ∀ x y:Int,p ∣ x * y->p ∣ x∨p ∣ y
theorem PrI.ne {p:Int} (hp:PrI p):p≠0:=by have:=hp.1;omega
theorem PrI.ndvd_mul {p u v:Int} (hp:PrI p) (hu: ¬ p ∣ u) (hv: ¬ p ∣ v): ¬ p ∣ u * v:=fun h=>(hp.2 _ _ h).elim hu hv
theorem AEo {p:Int} {a b:Nat} (h:a<=b):p ^ a ∣ p ^ b:=⟨p ^ (b - a),by rw [<- Int.pow_add];congr 1;omega⟩
theorem ASk {m x y:Int} (h:m ∣ x - y):Eqm m x y:=Int.emod_eq_emod_iff_emod_sub_eq_zero.2 (Int.emod_eq_zero_of_dvd h)
theorem AN4 {m x y:Int} (h:Eqm m x y):m ∣ x - y:=Int.dvd_of_emod_eq_zero (Int.emod_eq_emod_iff_emod_sub_eq_zero.1 h)
theorem Eqm.down {m d x y:Int} (h:Eqm m x y) (hd:d ∣ m):Eqm d x y:=ASk (Int.dvd_trans hd (AN4 h))
theorem Ab8 {m x:Int}:Eqm m x 0↔m ∣ x:=⟨fun h=>by simpa using AN4 h,fun h=>ASk (by simpa using h)⟩
def Car (n K:Nat) (p:Int) (D S D':Z4):Prop:= ∀ i j,i < n->j < n->Eqm (p ^ K) (ACj n (trF S) (ACj n D S) i j) (D' i j)
theorem Aeg (c:Int) (f:Nat->Int) (n:Nat):c * psum f n=psum (fun i=>c * f i) n:=(AE3 c f n).symm
theorem Af0 (c:Int) (f:Nat->Int) (n:Nat):psum f n * c=psum (fun i=>f i * c) n:=by
 rw [Int.mul_comm,Aeg];exact AA2 fun k _=>Int.mul_comm _ _
section
variable {n K:Nat} {p:Int} {e f:Nat->Nat} {a b D D' S:Z4}
theorem AVx (hp:PrI p) (m:Nat):p ^ m≠0:=Int.pow_ne_zero hp.ne
theorem AL6 {A B C:Z4} (i j:Nat):ACj n (ACj n A B) C i j=ACj n A (ACj n B C) i j:=by
 unfold ACj;rw [AA2 (g:=fun k=>psum (fun l=>A i l * B l k * C k j) n) fun k _=>Af0 _ _ _,AWo]
 exact AA2 fun l _=>by
   rw [Aeg]
   exact AA2 fun k _=>by grind
end
end Go.QF
